/- Each function over plain data (printed by a program of this claim's author). -/
import Derived.Test.YtdonkmbhlankiaaD
import Derived.Test.YtdonkmbhlankiaaEngK
import Derived.Test.YtdonkmbhlankiaaEngQ
namespace Go.Proofs.Ytdonkmbhlankiaa
open Go Go.Eng Go.Proofs
set_option maxRecDepth 100000
set_option maxHeartbeats 2000000

def enc3 (x : Int) : List Value := [(Value.int .i64 x)]
theorem encL3 : ∀ x, (enc3 x).length = 1 := fun _ => rfl
theorem encO3 : ∀ x, ∀ v ∈ enc3 x, v.oneCell' = true := by intro x v hv; simp only [enc3, List.mem_cons, List.not_mem_nil, or_false] at hv; rcases hv with rfl <;> rfl
def enc9 (x : ByteArray) : List Value := [(Value.string x)]
theorem encL9 : ∀ x, (enc9 x).length = 1 := fun _ => rfl
theorem encO9 : ∀ x, ∀ v ∈ enc9 x, v.oneCell' = true := by intro x v hv; simp only [enc9, List.mem_cons, List.not_mem_nil, or_false] at hv; rcases hv with rfl <;> rfl
def enc48 (x : Int × ByteArray × Int × Int × Int) : List Value := [(Value.int .i64 x.1), (Value.string x.2.1), (Value.int .i64 x.2.2.1), (Value.int .i64 x.2.2.2.1), (Value.int .i64 x.2.2.2.2)]
theorem encL48 : ∀ x, (enc48 x).length = 5 := fun _ => rfl
theorem encO48 : ∀ x, ∀ v ∈ enc48 x, v.oneCell' = true := by intro x v hv; simp only [enc48, List.mem_cons, List.not_mem_nil, or_false] at hv; rcases hv with rfl | rfl | rfl | rfl | rfl <;> rfl
def enc50 (x : ByteArray × Int) : List Value := [(Value.string x.1), (Value.int .i64 x.2)]
theorem encL50 : ∀ x, (enc50 x).length = 2 := fun _ => rfl
theorem encO50 : ∀ x, ∀ v ∈ enc50 x, v.oneCell' = true := by intro x v hv; simp only [enc50, List.mem_cons, List.not_mem_nil, or_false] at hv; rcases hv with rfl | rfl <;> rfl
def va3 (x : Int) : Value := (Value.int .i64 x)
def va9 (x : ByteArray) : Value := (Value.string x)
theorem sz3 : sizeT Try.prog 3 = some 1 := by kernel_rfl
theorem sz4 : sizeT Try.prog 4 = some 1 := by kernel_rfl
theorem sz9 : sizeT Try.prog 9 = some 1 := by kernel_rfl
theorem sz24 : sizeT Try.prog 24 = some 1 := by kernel_rfl
theorem sz30 : sizeT Try.prog 30 = some 1 := by kernel_rfl
theorem sz43 : sizeT Try.prog 43 = some 1 := by kernel_rfl
theorem sz44 : sizeT Try.prog 44 = some 1 := by kernel_rfl
theorem sz48 : sizeT Try.prog 48 = some 5 := by kernel_rfl
theorem sz50 : sizeT Try.prog 50 = some 2 := by kernel_rfl
theorem sz90 : sizeT Try.prog 90 = some 1 := by kernel_rfl
theorem zr3 : zeroOf Try.prog 3 = some (Value.int .i64 0) := by kernel_rfl
theorem mu58 : Try.prog.underlying 58 = some (.map 9 3) := by kernel_rfl
theorem kt9 : KeyT Try.prog 9 va9 := keyStr (by kernel_rfl)
theorem slt30 : SlT Try.prog 30 9 (Value.string ((ByteArray.mk ([]).toArray))) 1 16 := ⟨by kernel_rfl, by kernel_rfl, by kernel_rfl, by decide⟩
theorem slt44 : SlT Try.prog 44 50 (Value.agg #[(Value.string ((ByteArray.mk ([]).toArray))), (Value.int .i64 0)]) 2 24 := ⟨by kernel_rfl, by kernel_rfl, by kernel_rfl, by decide⟩
theorem undP24 : Try.prog.underlying 24 = some (.pointer (Try.prog.pointee 24)) := by kernel_rfl
theorem undB4 : Try.prog.underlying 4 = some .bool := by kernel_rfl
theorem und30 : Try.prog.underlying 30 = some (.slice 9) := by kernel_rfl
theorem und44 : Try.prog.underlying 44 = some (.slice 50) := by kernel_rfl


/-! embrasure/due.New (9) -/
def due_New_wp  (K : List (ByteArray × Int) → Prop) : Prop :=
  K ([] : List (ByteArray × Int))
theorem due_New_ok  {FL : List HP} {w : World} {K : List (ByteArray × Int) → Prop} {R : Value → World → Prop}
  (h : Mem (FL) w) (hp : due_New_wp  K)
  (hR : ∀ (at_ : List (ByteArray × Int)) (b_1 : Nat) (b_2 : Nat) (p_1 : List MapEntry × Nat) (w : World), Mem (cel b_1 60 [(Value.map (some b_2))] :: mapQ b_2 va9 va3 p_1 at_ :: FL) w → K at_ → R (Value.pointer (some (Addr.mk b_1 0 none))) w) :
  CallV Try.prog 9 #[] w R := by
  refine due_New_call ?_
  unfold due_New
  unfold due_New_wp at hp
  refine makeMapL (ek := va9) (ev := va3) h ?_
  intro b_1 p_1 w h
  refine ⟨_, rfl, ?_⟩
  refine newL (o := [(Value.map (some b_1))]) h ?_
  intro b_2 w h
  exact hR ([] : List (ByteArray × Int)) b_2 b_1 p_1 _ h hp

/-! (*embrasure/due.Table).Set (10) -/
def due_Table_Set_wp (at_ : List (ByteArray × Int)) (name : ByteArray) (at__1 : Int) (K : Int → List (ByteArray × Int) → Prop) : Prop :=
  joinP0 (K 0 (mapPut at_ name at__1)) (fun (Q : Prop) => joinP1 (fun (t18 : Bool) => cond t18 (K 1 at_) (joinP1 (fun (t25 : Bool) => cond t25 (K 10 at_) (Q )) (fun (Q_2 : Bool → Prop) => cond (!(mapHas at_ name)) (Q_2 (decide ((((at_.length : Nat) : Int) : Int) ≥ 200))) (Q_2 false)))) (fun (Q_1 : Bool → Prop) => cond (decide ((at__1 : Int) < 0)) (Q_1 true) (Q_1 (decide ((at__1 : Int) > 1099511627776)))))
theorem due_Table_Set_ok {b_1 : Nat} {b_2 : Nat} {p_1 : List MapEntry × Nat} {at_ : List (ByteArray × Int)} {name : ByteArray} {at__1 : Int} {FL : List HP} {w : World} {K : Int → List (ByteArray × Int) → Prop} {R : Value → World → Prop}
  (h : Mem (cel b_1 60 [(Value.map (some b_2))] :: mapQ b_2 va9 va3 p_1 at_ :: FL) w) (hp : due_Table_Set_wp at_ name at__1 K)
  (hR : ∀ (r : Int) (m_1 : List (ByteArray × Int)) (p_2 : List MapEntry × Nat) (w : World), Mem (cel b_1 60 [(Value.map (some b_2))] :: mapQ b_2 va9 va3 p_2 m_1 :: FL) w → K r m_1 → R (Value.int .i64 r) w) :
  CallV Try.prog 10 #[(Value.pointer (some (Addr.mk b_1 0 none))), (Value.string name), (Value.int .i64 at__1)] w R := by
  refine due_Table_Set_call ?_
  unfold due_Table_Set
  unfold due_Table_Set_wp at hp
  refine ⟨_, rfl, ?_⟩
  refine ⟨_, cellL h 0 0 rfl rfl rfl, ?_⟩
  refine lookW2 (k := name) (d := 0) (mapAt h 1 rfl) mu58 kt9 (fun w => run_zeroValue zr3) ?_
  refine ⟨_, _, rfl, ?_⟩
  refine ⟨_, rfl, ?_⟩
  obtain ⟨Q, hq, hp⟩ := hp
  refine ⟨fun t0 name1 at2 w => (some (Addr.mk b_1 0 none)) = t0 ∧ name = name1 ∧ at__1 = at2 ∧ Q ∧ Mem (cel b_1 60 [(Value.map (some b_2))] :: mapQ b_2 va9 va3 p_1 at_ :: FL) w, ?_, ?_⟩
  · rintro t0 name1 at2 w ⟨rfl, rfl, rfl, hp, h⟩
    replace hp := hq  hp
    unfold due_Table_Set_j1
    refine ⟨_, rfl, ?_⟩
    refine ⟨_, cellL h 0 0 rfl rfl rfl, ?_⟩
    refine mapPutG (k := name) (v := at__1) h 1 rfl mu58 kt9 ?_
    intro p_3 w h
    dsimp only [setH, setVs, setV] at h
    exact hR 0 (mapPut at_ name at__1) p_3 _ h hp
  clear hq
  obtain ⟨Q_1, hq, hp⟩ := hp
  refine ⟨fun t0_1 name1_1 at2_1 there8 t18 w => (some (Addr.mk b_1 0 none)) = t0_1 ∧ name = name1_1 ∧ at__1 = at2_1 ∧ (mapHas at_ name) = there8 ∧ Q_1 t18 ∧ Mem (cel b_1 60 [(Value.map (some b_2))] :: mapQ b_2 va9 va3 p_1 at_ :: FL) w, ?_, ?_⟩
  · rintro t0_1 name1_1 at2_1 there8 t18 w ⟨rfl, rfl, rfl, rfl, hp, h⟩
    replace hp := hq t18 hp
    unfold due_Table_Set_j2
    refine cond_both hp (fun hp => ?_) (fun hp => ?_)
    · exact hR 1 at_ p_1 _ h hp
    obtain ⟨Q_2, hq, hp⟩ := hp
    refine ⟨fun t0_2 name1_2 at2_2 t25 w => (some (Addr.mk b_1 0 none)) = t0_2 ∧ name = name1_2 ∧ at__1 = at2_2 ∧ Q_2 t25 ∧ Mem (cel b_1 60 [(Value.map (some b_2))] :: mapQ b_2 va9 va3 p_1 at_ :: FL) w, ?_, ?_⟩
    · rintro t0_2 name1_2 at2_2 t25 w ⟨rfl, rfl, rfl, hp, h⟩
      replace hp := hq t25 hp
      unfold due_Table_Set_j3
      refine cond_both hp (fun hp => ?_) (fun hp => ?_)
      · exact hR 10 at_ p_1 _ h hp
      exact ⟨rfl, rfl, rfl, hp, h⟩
    clear hq
    refine cond_both' hp (fun hp => ?_) (fun hp => ?_)
    · exact ⟨rfl, rfl, rfl, hp, h⟩
    refine ⟨_, rfl, ?_⟩
    refine ⟨_, cellL h 0 0 rfl rfl rfl, ?_⟩
    refine lenMapW (mapAt h 1 rfl) mu58 ?_
    refine ⟨_, rfl, ?_⟩
    exact ⟨rfl, rfl, rfl, hp, h⟩
  clear hq
  refine cond_both hp (fun hp => ?_) (fun hp => ?_)
  · exact ⟨rfl, rfl, rfl, rfl, hp, h⟩
  exact ⟨rfl, rfl, rfl, rfl, hp, h⟩

/-! maps.Keys[map[string]int,string,int]$1 (29) -/
def maps_Keys_map_string_int_string_int__c1_wp {σ0 : Type} (s : σ0) (Y0 : (ByteArray) → σ0 → (Bool → σ0 → Prop) → Prop) (t : List (ByteArray × Int)) (K : σ0 → Prop) : Prop :=
  ∃ (I : Nat → List (ByteArray × Int) → σ0 → Prop), (∃ (n_3 : Nat), I n_3 t s) ∧ ∀ (n_1 : Nat) (lf : List (ByteArray × Int)) (s_2 : σ0), I n_1 lf s_2 → ((lf = [] → (K s_2)) ∧ (∀ (i : Nat) (x_1 : ByteArray × Int), lf[i]? = some x_1 → (Y0 x_1.1 s_2 (fun (t12 : Bool) (s_3 : σ0) => cond (!t12) (K s_3) (∃ (n_2 : Nat), n_2 < n_1 ∧ I n_2 (lf.eraseIdx i) s_3)))))
theorem maps_Keys_map_string_int_string_int__c1_ok {σ0 : Type} {A0 : σ0 → HP} {ff0 : Fn} {fa0 : Array Value} {fc0 : Array Value} {b_1 : Nat} {b_2 : Nat} {p_1 : List MapEntry × Nat} {s : σ0} {Y0 : (ByteArray) → σ0 → (Bool → σ0 → Prop) → Prop} {t : List (ByteArray × Int)} {FL : List HP} {w : World} {K : σ0 → Prop} {R : Value → World → Prop}
  (hY0 : ∀ (x0 : ByteArray) (s : σ0) (K : Bool → σ0 → Prop) (FL2 : List HP) (w : World) (R : Value → World → Prop), (∀ w, Mem FL2 w → Mem FL w) → Mem (A0 s :: FL2) w → Y0 x0 s K → (∀ (r : Bool) (s : σ0) (w : World), Mem (A0 s :: FL2) w → K r s → R (Value.bool r) w) → CalleeV Try.prog (Value.func ff0 fa0 fc0) #[(Value.string x0)] w R)
  (hM_t : RoM FL b_2 va9 va3 p_1 t)
  (h : Mem (cel b_1 58 [(Value.map (some b_2))] :: A0 s :: FL) w) (hp : maps_Keys_map_string_int_string_int__c1_wp s Y0 t K)
  (hR : ∀ (s_1 : σ0) (w : World), Mem (cel b_1 58 [(Value.map (some b_2))] :: A0 s_1 :: FL) w → K s_1 → R undef w) :
  CallV Try.prog 29 #[(Value.func ff0 fa0 fc0), (Value.pointer (some (Addr.mk b_1 0 none)))] w R := by
  refine maps_Keys_map_string_int_string_int__c1_call ?_
  unfold maps_Keys_map_string_int_string_int__c1
  unfold maps_Keys_map_string_int_string_int__c1_wp at hp
  refine ⟨_, cellL h 0 0 rfl rfl rfl, ?_⟩
  refine rangeW h (hM_t.map (h.drop 2)) mu58 ?_
  intro l_1 w h
  refine ⟨_, rfl, ?_⟩
  obtain ⟨I, ⟨n_3, h0⟩, hq⟩ := hp
  replace h := h.sel [1, 0, 0] 0
  dsimp only [pickL, pickR, nthH, delH, dropH, List.cons_append, List.nil_append] at h
  refine ⟨fun n_1 yield0 t5 w => ∃ (lf : List (ByteArray × Int)), ∃ (s_2 : σ0), (Value.func ff0 fa0 fc0) = yield0 ∧ (Value.pointer (some (Addr.mk l_1 0 none))) = t5 ∧ I n_1 lf s_2 ∧ Mem (cel b_1 58 [(Value.map (some b_2))] :: itQ l_1 b_2 va9 va3 p_1 none lf :: A0 s_2 :: FL) w, ⟨n_3, t, s, rfl, rfl, h0, h⟩, ?_⟩
  clear h0 h
  rintro n_1 yield0 t5 w ⟨lf, s_2, rfl, rfl, hp, h⟩
  replace hp := hq n_1 lf s_2 hp
  clear hq
  unfold maps_Keys_map_string_int_string_int__c1_l1
  refine nextG h 1 rfl (hM_t.map (h.drop 3)) ?_ ?_
  · intro he_
    replace hp := hp.1 he_
    skip
    replace h := h.sel [0, 1] 1
    dsimp only [pickL, pickR, nthH, delH, dropH, List.cons_append, List.nil_append] at h
    exact hR s_2 _ h hp
  intro i x_1 w hx_1 h
  dsimp only [setH, setVs, setV] at h
  replace hp := hp.2 i x_1 hx_1
  refine entryG h 1 rfl (hM_t.map (h.drop 3)) ?_
  replace h := itForget h 1 rfl
  dsimp only [setH, setVs, setV] at h
  refine ⟨_, rfl, ?_⟩
  replace h := h.pick [2]
  dsimp only [pickL, pickR, nthH, delH, dropH, List.cons_append, List.nil_append] at h
  refine hY0 x_1.1 _ _ (cel b_1 58 [(Value.map (some b_2))] :: itQ l_1 b_2 va9 va3 p_1 none (lf.eraseIdx i) :: FL) _ _ (fun _ h => Mem.drop 2 h) h hp ?_
  intro t12 s_3 w h hp
  refine ⟨_, rfl, ?_⟩
  refine cond_both hp (fun hp => ?_) (fun hp => ?_)
  · replace h := h.sel [1, 0] 1
    dsimp only [pickL, pickR, nthH, delH, dropH, List.cons_append, List.nil_append] at h
    exact hR s_3 _ h hp
  replace h := h.sel [1, 1, 0] 0
  dsimp only [pickL, pickR, nthH, delH, dropH, List.cons_append, List.nil_append] at h
  obtain ⟨n_2, hn, hp⟩ := hp
  exact ⟨n_2, hn, (lf.eraseIdx i), s_3, rfl, rfl, hp, h⟩

/-! maps.Keys[map[string]int,string,int] (22) -/
def maps_Keys_map_string_int_string_int_wp (m_1 : List (ByteArray × Int)) (K : Prop) : Prop :=
  K 
theorem maps_Keys_map_string_int_string_int_ok {b_1 : Nat} {p_1 : List MapEntry × Nat} {m_1 : List (ByteArray × Int)} {FL : List HP} {w : World} {K : Prop} {R : Value → World → Prop}
  (hM_m_1 : RoM FL b_1 va9 va3 p_1 m_1)
  (h : Mem (FL) w) (hp : maps_Keys_map_string_int_string_int_wp m_1 K)
  (hR : ∀ (b_2 : Nat) (w : World), Mem (cel b_2 58 [(Value.map (some b_1))] :: FL) w → K  → R (Value.func (Fn.func 29) #[] #[(Value.pointer (some (Addr.mk b_2 0 none)))]) w) :
  CallV Try.prog 22 #[(Value.map (some b_1))] w R := by
  refine maps_Keys_map_string_int_string_int_call ?_
  unfold maps_Keys_map_string_int_string_int
  unfold maps_Keys_map_string_int_string_int_wp at hp
  refine newL (o := [(Value.map (some b_1))]) h ?_
  intro b_2 w h
  exact hR b_2 _ h hp

/-! cmp.isNaN[int] (36) -/
def cmp_isNaN_int_wp (x_1 : Int) (K : Bool → Prop) : Prop :=
  K ((x_1 : Int) != x_1)
theorem cmp_isNaN_int_ok {x_1 : Int} {FL : List HP} {w : World} {K : Bool → Prop} {R : Value → World → Prop}
  (h : Mem (FL) w) (hp : cmp_isNaN_int_wp x_1 K)
  (hR : ∀ (r : Bool) (w : World), Mem (FL) w → K r → R (Value.bool r) w) :
  CallV Try.prog 36 #[(Value.int .i64 x_1)] w R := by
  refine cmp_isNaN_int_call ?_
  unfold cmp_isNaN_int
  unfold cmp_isNaN_int_wp at hp
  exact hR ((x_1 : Int) != x_1) _ h hp

/-! cmp.Compare[int] (31) -/
def cmp_Compare_int_wp (x_1 : Int) (y : Int) (K : Int → Prop) : Prop :=
  cmp_isNaN_int_wp x_1 (fun (r : Bool) => cmp_isNaN_int_wp y (fun (r_1 : Bool) => cond r (cond r_1 (K 0) (K (-1))) (cond r_1 (K 1) (cond (decide ((x_1 : Int) < y)) (K (-1)) (cond (decide ((x_1 : Int) > y)) (K 1) (K 0))))))
theorem cmp_Compare_int_ok {x_1 : Int} {y : Int} {FL : List HP} {w : World} {K : Int → Prop} {R : Value → World → Prop}
  (h : Mem (FL) w) (hp : cmp_Compare_int_wp x_1 y K)
  (hR : ∀ (r : Int) (w : World), Mem (FL) w → K r → R (Value.int .i64 r) w) :
  CallV Try.prog 31 #[(Value.int .i64 x_1), (Value.int .i64 y)] w R := by
  refine cmp_Compare_int_call ?_
  unfold cmp_Compare_int
  unfold cmp_Compare_int_wp at hp
  refine cmp_isNaN_int_ok h hp ?_
  intro r w h hp
  refine ⟨_, rfl, ?_⟩
  refine cmp_isNaN_int_ok h hp ?_
  intro r_1 w h hp
  refine ⟨_, rfl, ?_⟩
  refine cond_both hp (fun hp => ?_) (fun hp => ?_)
  · refine cond_both hp (fun hp => ?_) (fun hp => ?_)
    · exact hR 0 _ h hp
    exact hR (-1) _ h hp
  refine cond_both hp (fun hp => ?_) (fun hp => ?_)
  · exact hR 1 _ h hp
  refine cond_both hp (fun hp => ?_) (fun hp => ?_)
  · exact hR (-1) _ h hp
  refine cond_both hp (fun hp => ?_) (fun hp => ?_)
  · exact hR 1 _ h hp
  exact hR 0 _ h hp

/-! internal/bytealg.CompareString (37) -/
def internal_bytealg_CompareString_wp (a_1 : ByteArray) (b_1 : ByteArray) (K : Int → Prop) : Prop :=
  K (cmpB a_1 b_1)
theorem internal_bytealg_CompareString_ok {a_1 : ByteArray} {b_1 : ByteArray} {FL : List HP} {w : World} {K : Int → Prop} {R : Value → World → Prop}
  (h : Mem (FL) w) (hp : internal_bytealg_CompareString_wp a_1 b_1 K)
  (hR : ∀ (r : Int) (w : World), Mem (FL) w → K r → R (Value.int .i64 r) w) :
  CallV Try.prog 37 #[(Value.string a_1), (Value.string b_1)] w R := by
  refine internal_bytealg_CompareString_call ?_
  unfold internal_bytealg_CompareString
  unfold internal_bytealg_CompareString_wp at hp
  refine extCmp Try.func48 (by kernel_rfl) (by kernel_rfl) (by kernel_rfl) (by kernel_rfl) ?_
  refine ⟨_, rfl, ?_⟩
  exact hR (cmpB a_1 b_1) _ h hp

/-! strings.Compare (32) -/
def strings_Compare_wp (a_1 : ByteArray) (b_1 : ByteArray) (K : Int → Prop) : Prop :=
  internal_bytealg_CompareString_wp a_1 b_1 (fun (r : Int) => K r)
theorem strings_Compare_ok {a_1 : ByteArray} {b_1 : ByteArray} {FL : List HP} {w : World} {K : Int → Prop} {R : Value → World → Prop}
  (h : Mem (FL) w) (hp : strings_Compare_wp a_1 b_1 K)
  (hR : ∀ (r : Int) (w : World), Mem (FL) w → K r → R (Value.int .i64 r) w) :
  CallV Try.prog 32 #[(Value.string a_1), (Value.string b_1)] w R := by
  refine strings_Compare_call ?_
  unfold strings_Compare
  unfold strings_Compare_wp at hp
  refine internal_bytealg_CompareString_ok h hp ?_
  intro r w h hp
  refine ⟨_, rfl, ?_⟩
  exact hR r _ h hp

/-! cmp.Or[int] (30) -/
def cmp_Or_int_wp (vals : List (Int)) (K : Int → Prop) : Prop :=
  ∃ (I : Nat → Int → Prop), (∃ (n_4 : Nat), I n_4 0) ∧ ∀ (n_2 : Nat) (t8 : Int), I n_2 t8 → (cond (decide ((t8 : Int) < ((vals.length : Nat) : Int))) (0 ≤ (t8 : Int) ∧ (t8 : Int) < ((vals.length : Nat) : Int) ∧ (∀ (x_1 : Int), vals[Int.toNat t8]? = some x_1 → (cond ((x_1 : Int) != 0) (K x_1) (∃ (n_3 : Nat), n_3 < n_2 ∧ I n_3 (IntKind.wrap .i64 (t8 + 1)))))) (K 0))
theorem cmp_Or_int_ok {p_1 : Option Addr} {n_1 : Nat} {c_1 : Nat} {vals : List (Int)} {FL : List HP} {w : World} {K : Int → Prop} {R : Value → World → Prop}
  (hF_vals : ∀ w, Mem FL w → Rd w 1 p_1 enc3 vals) (hl_vals : n_1 = vals.length) (hc_vals : n_1 ≤ c_1)
  (h : Mem (FL) w) (hp : cmp_Or_int_wp vals K)
  (hR : ∀ (r : Int) (w : World), Mem (FL) w → K r → R (Value.int .i64 r) w) :
  CallV Try.prog 30 #[(Value.slice p_1 n_1 c_1)] w R := by
  refine cmp_Or_int_call ?_
  unfold cmp_Or_int
  unfold cmp_Or_int_wp at hp
  subst hl_vals
  obtain ⟨I, ⟨n_4, h0⟩, hq⟩ := hp
  refine ⟨fun n_2 zero3 t6p t6l t6c t7 t8 w => 0 = zero3 ∧ p_1 = t6p ∧ vals.length = t6l ∧ c_1 = t6c ∧ ((vals.length : Nat) : Int) = t7 ∧ I n_2 t8 ∧ Mem (FL) w, ⟨n_4, rfl, rfl, rfl, rfl, rfl, h0, h⟩, ?_⟩
  clear h0 h
  rintro n_2 zero3 t6p t6l t6c t7 t8 w ⟨rfl, rfl, rfl, rfl, rfl, hp, h⟩
  replace hp := hq n_2 t8 hp
  clear hq
  unfold cmp_Or_int_l1
  refine cond_both' hp (fun hp => ?_) (fun hp => ?_)
  · exact hR 0 _ h hp
  obtain ⟨ia_1, ja_1, hp⟩ := hp
  obtain ⟨a_1, ha_1⟩ := rdAddr (hF_vals _ (h.drop 0)) rfl ia_1 ja_1
  refine ⟨a_1, ha_1, ia_1, ja_1, ?_⟩
  obtain ⟨x_1, hx_1, hc⟩ := rdCell0 (hF_vals _ (h.drop 0)) ha_1 rfl ia_1 ja_1
  replace hp := hp x_1 hx_1
  refine ⟨_, hc _ rfl, ?_⟩
  refine cond_both hp (fun hp => ?_) (fun hp => ?_)
  · exact hR x_1 _ h hp
  obtain ⟨n_3, hn, hp⟩ := hp
  exact ⟨n_3, hn, rfl, rfl, rfl, rfl, rfl, hp, h⟩

/-! (*embrasure/due.Table).before (23) -/
def due_Table_before_wp (at_ : List (ByteArray × Int)) (a_1 : ByteArray) (b_3 : ByteArray) (K : Int → Prop) : Prop :=
  cmp_Compare_int_wp (mapGet at_ a_1 0) (mapGet at_ b_3 0) (fun (r : Int) => strings_Compare_wp a_1 b_3 (fun (r_1 : Int) => cmp_Or_int_wp [r, r_1] (fun (r_2 : Int) => K r_2)))
theorem due_Table_before_ok {b_1 : Nat} {b_2 : Nat} {p_1 : List MapEntry × Nat} {at_ : List (ByteArray × Int)} {a_1 : ByteArray} {b_3 : ByteArray} {FL : List HP} {w : World} {K : Int → Prop} {R : Value → World → Prop}
  (hM_at_ : RoM FL b_2 va9 va3 p_1 at_)
  (h : Mem (cel b_1 60 [(Value.map (some b_2))] :: FL) w) (hp : due_Table_before_wp at_ a_1 b_3 K)
  (hR : ∀ (r : Int) (w : World), Mem (cel b_1 60 [(Value.map (some b_2))] :: FL) w → K r → R (Value.int .i64 r) w) :
  CallV Try.prog 23 #[(Value.pointer (some (Addr.mk b_1 0 none))), (Value.string a_1), (Value.string b_3)] w R := by
  refine due_Table_before_call ?_
  unfold due_Table_before
  unfold due_Table_before_wp at hp
  replace h := h.drew
  refine ⟨_, rfl, ?_⟩
  refine ⟨_, cellL h 0 0 rfl rfl rfl, ?_⟩
  refine lookW (k := a_1) (d := 0) (hM_at_.map (h.drop 1)) mu58 kt9 (fun w => run_zeroValue zr3) ?_
  refine ⟨_, rfl, ?_⟩
  refine ⟨rfl, ?_⟩
  refine ⟨_, rfl, ?_⟩
  refine ⟨_, cellL h 0 0 rfl rfl rfl, ?_⟩
  refine lookW (k := b_3) (d := 0) (hM_at_.map (h.drop 1)) mu58 kt9 (fun w => run_zeroValue zr3) ?_
  refine ⟨_, rfl, ?_⟩
  refine ⟨rfl, ?_⟩
  refine cmp_Compare_int_ok h hp ?_
  intro r w h hp
  refine ⟨_, rfl, ?_⟩
  refine strings_Compare_ok h hp ?_
  intro r_1 w h hp
  refine ⟨_, rfl, ?_⟩
  refine newL (o := [(Value.int .i64 r), (Value.int .i64 r_1)]) h ?_
  intro b_4 w h
  refine cmp_Or_int_ok (FL := cel b_4 3 [(Value.int .i64 r), (Value.int .i64 r_1)] :: cel b_1 60 [(Value.map (some b_2))] :: FL) (fun w h => (celRd h 0 encL3 rfl [r, r_1] rfl)) rfl (Nat.le_refl _) h hp ?_
  intro r_2 w h hp
  refine ⟨_, rfl, ?_⟩
  replace h := h.sel [1] 1
  dsimp only [pickL, pickR, nthH, delH, dropH, List.cons_append, List.nil_append] at h
  exact hR r_2 _ h hp

/-! (*embrasure/due.Table).Next (13) -/
def due_Table_Next_wp (at_ : List (ByteArray × Int)) (K : ByteArray → Int → Bool → Prop) : Prop :=
  cond ((((at_.length : Nat) : Int) : Int) == 0) (K (ByteArray.mk ([]).toArray) 0 false) (joinP2 (fun (x_1 : Bool) (x_2 : ByteArray) => K x_2 (mapGet at_ x_2 0) true) (fun (Q : Bool → ByteArray → Prop) => maps_Keys_map_string_int_string_int_wp at_ (maps_Keys_map_string_int_string_int__c1_wp (0, false, ((ByteArray.mk ([]).toArray))) (fun x_5 (s : Nat × Bool × ByteArray) K_1 => s.1 = 0 ∧ (joinP1 (fun (t28 : Bool) => cond t28 (K_1 true (0, true, x_5)) (K_1 true (0, s.2.1, s.2.2))) (fun (Q_1 : Bool → Prop) => cond (!s.2.1) (Q_1 true) (due_Table_before_wp at_ x_5 s.2.2 (fun (r : Int) => Q_1 (decide ((r : Int) < 0))))))) at_ (fun (s_1 : (Nat × Bool × ByteArray)) => (s_1.1 = 0 ∧ (Q s_1.2.1 s_1.2.2))))))
theorem due_Table_Next_ok {b_1 : Nat} {b_2 : Nat} {p_1 : List MapEntry × Nat} {at_ : List (ByteArray × Int)} {FL : List HP} {w : World} {K : ByteArray → Int → Bool → Prop} {R : Value → World → Prop}
  (hM_at_ : RoM FL b_2 va9 va3 p_1 at_)
  (h : Mem (cel b_1 60 [(Value.map (some b_2))] :: FL) w) (hp : due_Table_Next_wp at_ K)
  (hR : ∀ (r : ByteArray) (r_1 : Int) (r_2 : Bool) (w : World), Mem (cel b_1 60 [(Value.map (some b_2))] :: FL) w → K r r_1 r_2 → R (Value.tuple #[(Value.string r), (Value.int .i64 r_1), (Value.bool r_2)]) w) :
  CallV Try.prog 13 #[(Value.pointer (some (Addr.mk b_1 0 none)))] w R := by
  refine due_Table_Next_call ?_
  unfold due_Table_Next
  unfold due_Table_Next_wp at hp
  replace h := marksNil h
  refine newL (o := [(Value.pointer (some (Addr.mk b_1 0 none)))]) h ?_
  intro b_3 w h
  refine ⟨_, cellL h 0 0 rfl rfl rfl, ?_⟩
  refine ⟨_, rfl, ?_⟩
  refine ⟨_, cellL h 2 0 rfl rfl rfl, ?_⟩
  refine lenMapW (hM_at_.map (h.drop 3)) mu58 ?_
  refine ⟨_, rfl, ?_⟩
  refine cond_both hp (fun hp => ?_) (fun hp => ?_)
  · replace h := h.pick [1]
    dsimp only [pickL, pickR, nthH, delH, dropH, List.cons_append, List.nil_append] at h
    replace h := h.sel [2] 2
    dsimp only [pickL, pickR, nthH, delH, dropH, List.cons_append, List.nil_append] at h
    exact hR (ByteArray.mk ([]).toArray) 0 false _ h hp
  refine newL (o := [(Value.string ((ByteArray.mk ([]).toArray)))]) h ?_
  intro b_4 w h
  refine newL (o := [(Value.bool false)]) h ?_
  intro b_5 w h
  refine storeL (ys := [(Value.string ((ByteArray.mk ([]).toArray)))]) h 1 0 rfl rfl rfl sz9 rfl rfl ?_
  intro w h
  dsimp only [setH, setVs, setV] at h
  refine storeL (ys := [(Value.bool false)]) h 0 0 rfl rfl rfl sz4 rfl rfl ?_
  intro w h
  dsimp only [setH, setVs, setV] at h
  obtain ⟨Q, hq, hp⟩ := hp
  refine ⟨fun t1 first5 m_1 w => ∃ (x_1 : Bool), ∃ (x_2 : ByteArray), (Addr.mk b_3 0 none) = t1 ∧ (Addr.mk b_4 0 none) = first5 ∧ Q x_1 x_2 ∧ Mem (cel b_5 4 [(Value.bool x_1)] :: cel b_4 9 [(Value.string x_2)] :: cel b_3 24 [(Value.pointer (some (Addr.mk b_1 0 none)))] :: cel b_1 60 [(Value.map (some b_2))] :: marksP m_1 :: FL) w, ?_, ?_⟩
  · rintro t1 first5 m_1 w ⟨x_1, x_2, rfl, rfl, hp, h⟩
    replace hp := hq x_1 x_2 hp
    unfold due_Table_Next_j1
    replace h := h.drew
    refine ⟨_, cellL h 1 0 rfl rfl rfl, ?_⟩
    refine ⟨_, cellL h 2 0 rfl rfl rfl, ?_⟩
    refine ⟨_, rfl, ?_⟩
    refine ⟨_, cellL h 3 0 rfl rfl rfl, ?_⟩
    refine ⟨_, cellL h 1 0 rfl rfl rfl, ?_⟩
    refine lookW (k := x_2) (d := 0) (hM_at_.map (h.drop 5)) mu58 kt9 (fun w => run_zeroValue zr3) ?_
    refine ⟨_, rfl, ?_⟩
    refine ⟨rfl, ?_⟩
    replace h := h.pick [4]
    dsimp only [pickL, pickR, nthH, delH, dropH, List.cons_append, List.nil_append] at h
    refine finishMarks _ h ?_
    intro w h
    replace h := h.sel [3] 3
    dsimp only [pickL, pickR, nthH, delH, dropH, List.cons_append, List.nil_append] at h
    exact hR x_2 (mapGet at_ x_2 0) true _ h hp
  clear hq
  refine ⟨_, cellL h 2 0 rfl rfl rfl, ?_⟩
  refine ⟨_, rfl, ?_⟩
  refine ⟨_, cellL h 4 0 rfl rfl rfl, ?_⟩
  refine maps_Keys_map_string_int_string_int_ok (FL := cel b_5 4 [(Value.bool false)] :: cel b_4 9 [(Value.string ((ByteArray.mk ([]).toArray)))] :: cel b_3 24 [(Value.pointer (some (Addr.mk b_1 0 none)))] :: marksP [] :: cel b_1 60 [(Value.map (some b_2))] :: FL) (hM_at_.mono (fun w h => (h.drop 5))) h hp ?_
  intro b_6 w h hp
  refine ⟨_, _, _, rfl, ?_⟩
  intro e_1 fn_e_1 he_e_1 hr_e_1
  refine newO h ?_
  intro d w h
  refine newO h ?_
  intro l_1 w h
  replace h := h.pick [1, 5]
  dsimp only [pickL, pickR, nthH, delH, dropH, List.cons_append, List.nil_append] at h
  replace h := marksPush h
  show rangeCallW _ (Value.func (Fn.func 29) _ _) _ _ _
  refine rangeCallFn (by kernel_rfl) ?_
  replace h := h.pick [1, 2, 2, 2, 2]
  dsimp only [pickL, pickR, nthH, delH, dropH, List.cons_append, List.nil_append] at h
  replace h : Mem ((fun (s : Nat × Bool × ByteArray) => HL [pt l_1 (loopS (due_Table_Next_lo1 fn_e_1 e_1 d) s.1 (fun (n : Nat) => (none : Option Code))), cel b_5 4 [(Value.bool s.2.1)], cel b_4 9 [(Value.string s.2.2)], cel b_3 24 [(Value.pointer (some (Addr.mk b_1 0 none)))], cel b_1 60 [(Value.map (some b_2))]]) (0, false, ((ByteArray.mk ([]).toArray))) :: marksP (d :: []) :: cel b_6 58 [(Value.map (some b_2))] :: FL) _ := h.pack 5 [pt l_1 (loopS (due_Table_Next_lo1 fn_e_1 e_1 d) 0 (fun (n : Nat) => (none : Option Code))), cel b_5 4 [(Value.bool false)], cel b_4 9 [(Value.string ((ByteArray.mk ([]).toArray)))], cel b_3 24 [(Value.pointer (some (Addr.mk b_1 0 none)))], cel b_1 60 [(Value.map (some b_2))]] rfl
  replace h := h.pick [2, 0]
  dsimp only [pickL, pickR, nthH, delH, dropH, List.cons_append, List.nil_append] at h
  refine maps_Keys_map_string_int_string_int__c1_ok (FL := marksP (d :: []) :: FL) (A0 := (fun (s : Nat × Bool × ByteArray) => HL [pt l_1 (loopS (due_Table_Next_lo1 fn_e_1 e_1 d) s.1 (fun (n : Nat) => (none : Option Code))), cel b_5 4 [(Value.bool s.2.1)], cel b_4 9 [(Value.string s.2.2)], cel b_3 24 [(Value.pointer (some (Addr.mk b_1 0 none)))], cel b_1 60 [(Value.map (some b_2))]])) (Y0 := (fun x_5 (s : Nat × Bool × ByteArray) K_1 => s.1 = 0 ∧ (joinP1 (fun (t28 : Bool) => cond t28 (K_1 true (0, true, x_5)) (K_1 true (0, s.2.1, s.2.2))) (fun (Q_1 : Bool → Prop) => cond (!s.2.1) (Q_1 true) (due_Table_before_wp at_ x_5 s.2.2 (fun (r : Int) => Q_1 (decide ((r : Int) < 0)))))))) (σ0 := Nat × Bool × ByteArray) (s := (0, false, ((ByteArray.mk ([]).toArray)))) ?_ (hM_at_.mono (fun w h => (h.drop 1))) h hp ?_
  · intro x_5 s K_1 FL2 w R hx h hp hR
    replace h := h.unpack
    dsimp only [pickL, pickR, nthH, delH, dropH, List.cons_append, List.nil_append] at h
    obtain ⟨hst, hp⟩ := hp
    refine due_Table_Next_r1_yield (by have := objAt h 0 rfl; rw [hst] at this; exact this) he_e_1 hr_e_1 ?_
    unfold due_Table_Next_r1
    have hMx_M_k1_0 := RoM.mono hM_at_ (fun w h_ => (by first | exact hx w h_ | exact Mem.drop 1 (hx w h_) | exact Mem.drop 2 (hx w h_) | exact Mem.drop 3 (hx w h_) | exact Mem.drop 4 (hx w h_) | exact Mem.drop 5 (hx w h_) | exact Mem.drop 6 (hx w h_) | exact Mem.drop 7 (hx w h_) | exact Mem.drop 8 (hx w h_) | exact Mem.drop 9 (hx w h_) | exact Mem.drop 10 (hx w h_) | exact Mem.drop 11 (hx w h_) | exact Mem.drop 12 (hx w h_) | exact Mem.drop 13 (hx w h_)))
    refine ⟨_, (by have := objAt h 0 rfl; rw [hst] at this; exact this : _ = some (Obj.loop (due_Table_Next_lo1 fn_e_1 e_1 d))), rfl, ?_⟩
    replace h := h.putK 0 rfl (.loop { due_Table_Next_lo1 fn_e_1 e_1 d with state := .busy })
    dsimp only [setH] at h
    obtain ⟨Q_1, hq, hp⟩ := hp
    refine ⟨fun first5_1 begun6 name7 t28 m_2 w => (Addr.mk b_4 0 none) = first5_1 ∧ (Addr.mk b_5 0 none) = begun6 ∧ x_5 = name7 ∧ ([] : List Nat) = m_2 ∧ Q_1 t28 ∧ Mem (cel b_5 4 [(Value.bool s.2.1)] :: cel b_4 9 [(Value.string s.2.2)] :: cel b_3 24 [(Value.pointer (some (Addr.mk b_1 0 none)))] :: cel b_1 60 [(Value.map (some b_2))] :: pt l_1 (.loop { due_Table_Next_lo1 fn_e_1 e_1 d with state := .busy }) :: FL2) w, ?_, ?_⟩
    · rintro first5_1 begun6 name7 t28 m_2 w ⟨rfl, rfl, rfl, rfl, hp, h⟩
      replace hp := hq t28 hp
      unfold due_Table_Next_j2
      refine cond_both' hp (fun hp => ?_) (fun hp => ?_)
      · refine ⟨_, objAt h 4 rfl, ?_⟩
        replace h := h.putK 4 rfl (loopS (due_Table_Next_lo1 fn_e_1 e_1 d) 0 (fun (n : Nat) => (none : Option Code)))
        dsimp only [setH] at h
        replace h := h.pick [4]
        dsimp only [pickL, pickR, nthH, delH, dropH, List.cons_append, List.nil_append] at h
        exact hR true (0, s.2.1, s.2.2) _ (h.pack 5 [pt l_1 (loopS (due_Table_Next_lo1 fn_e_1 e_1 d) 0 (fun (n : Nat) => (none : Option Code))), cel b_5 4 [(Value.bool s.2.1)], cel b_4 9 [(Value.string s.2.2)], cel b_3 24 [(Value.pointer (some (Addr.mk b_1 0 none)))], cel b_1 60 [(Value.map (some b_2))]] rfl) hp
      refine storeL (ys := [(Value.string x_5)]) h 1 0 rfl rfl rfl sz9 rfl rfl ?_
      intro w h
      dsimp only [setH, setVs, setV] at h
      refine storeL (ys := [(Value.bool true)]) h 0 0 rfl rfl rfl sz4 rfl rfl ?_
      intro w h
      dsimp only [setH, setVs, setV] at h
      refine ⟨_, objAt h 4 rfl, ?_⟩
      replace h := h.putK 4 rfl (loopS (due_Table_Next_lo1 fn_e_1 e_1 d) 0 (fun (n : Nat) => (none : Option Code)))
      dsimp only [setH] at h
      replace h := h.pick [4]
      dsimp only [pickL, pickR, nthH, delH, dropH, List.cons_append, List.nil_append] at h
      exact hR true (0, true, x_5) _ (h.pack 5 [pt l_1 (loopS (due_Table_Next_lo1 fn_e_1 e_1 d) 0 (fun (n : Nat) => (none : Option Code))), cel b_5 4 [(Value.bool true)], cel b_4 9 [(Value.string x_5)], cel b_3 24 [(Value.pointer (some (Addr.mk b_1 0 none)))], cel b_1 60 [(Value.map (some b_2))]] rfl) hp
    clear hq
    refine ⟨_, cellL h 1 0 rfl rfl rfl, ?_⟩
    refine cond_both hp (fun hp => ?_) (fun hp => ?_)
    · replace h := h.sel [1, 1, 1, 1, 0] 0
      dsimp only [pickL, pickR, nthH, delH, dropH, List.cons_append, List.nil_append] at h
      exact ⟨rfl, rfl, rfl, rfl, hp, h⟩
    refine ⟨_, cellL h 3 0 rfl rfl rfl, ?_⟩
    refine ⟨_, cellL h 2 0 rfl rfl rfl, ?_⟩
    replace h := h.pick [4]
    dsimp only [pickL, pickR, nthH, delH, dropH, List.cons_append, List.nil_append] at h
    refine due_Table_before_ok (FL := pt l_1 (.loop { due_Table_Next_lo1 fn_e_1 e_1 d with state := .busy }) :: cel b_5 4 [(Value.bool s.2.1)] :: cel b_4 9 [(Value.string s.2.2)] :: cel b_3 24 [(Value.pointer (some (Addr.mk b_1 0 none)))] :: FL2) (hMx_M_k1_0.mono (fun w h => (h.drop 4))) h hp ?_
    intro r w h hp
    refine ⟨_, rfl, ?_⟩
    replace h := h.sel [2, 2, 2, 0, 0] 0
    dsimp only [pickL, pickR, nthH, delH, dropH, List.cons_append, List.nil_append] at h
    exact ⟨rfl, rfl, rfl, rfl, hp, h⟩
  intro s_1 w h hp
  replace h := h.pick [1]
  dsimp only [pickL, pickR, nthH, delH, dropH, List.cons_append, List.nil_append] at h
  replace h := h.unpack
  dsimp only [pickL, pickR, nthH, delH, dropH, List.cons_append, List.nil_append] at h
  refine ⟨_, objAt h 0 rfl, loopS_ns _, ?_⟩
  replace h := h.putK 0 rfl (.loop { due_Table_Next_lo1 fn_e_1 e_1 d with state := .exhausted, pending := (fun (n : Nat) => (none : Option Code)) s_1.1 })
  dsimp only [setH] at h
  obtain ⟨hst, hp⟩ := hp
  refine ⟨congrArg (fun (n : Nat) => (none : Option Code)) hst, ?_⟩
  replace h := h.sel [1, 1, 1, 1, 2] 2
  dsimp only [pickL, pickR, nthH, delH, dropH, List.cons_append, List.nil_append] at h
  exact ⟨s_1.2.1, s_1.2.2, rfl, rfl, hp, h⟩

/-! (*embrasure/due.Table).Drop (14) -/
def due_Table_Drop_wp (at_ : List (ByteArray × Int)) (name : ByteArray) (K : Bool → List (ByteArray × Int) → Prop) : Prop :=
  K (mapHas at_ name) (mapDel at_ name)
theorem due_Table_Drop_ok {b_1 : Nat} {b_2 : Nat} {p_1 : List MapEntry × Nat} {at_ : List (ByteArray × Int)} {name : ByteArray} {FL : List HP} {w : World} {K : Bool → List (ByteArray × Int) → Prop} {R : Value → World → Prop}
  (h : Mem (cel b_1 60 [(Value.map (some b_2))] :: mapQ b_2 va9 va3 p_1 at_ :: FL) w) (hp : due_Table_Drop_wp at_ name K)
  (hR : ∀ (r : Bool) (m_1 : List (ByteArray × Int)) (p_2 : List MapEntry × Nat) (w : World), Mem (cel b_1 60 [(Value.map (some b_2))] :: mapQ b_2 va9 va3 p_2 m_1 :: FL) w → K r m_1 → R (Value.bool r) w) :
  CallV Try.prog 14 #[(Value.pointer (some (Addr.mk b_1 0 none))), (Value.string name)] w R := by
  refine due_Table_Drop_call ?_
  unfold due_Table_Drop
  unfold due_Table_Drop_wp at hp
  refine ⟨_, rfl, ?_⟩
  refine ⟨_, cellL h 0 0 rfl rfl rfl, ?_⟩
  refine lookW2 (k := name) (d := 0) (mapAt h 1 rfl) mu58 kt9 (fun w => run_zeroValue zr3) ?_
  refine ⟨_, _, rfl, ?_⟩
  refine ⟨_, rfl, ?_⟩
  refine ⟨_, rfl, ?_⟩
  refine ⟨_, cellL h 0 0 rfl rfl rfl, ?_⟩
  refine mapDelG (k := name) h 1 rfl mu58 kt9 ?_
  intro p_3 w h
  dsimp only [setH, setVs, setV] at h
  refine ⟨rfl, ?_⟩
  exact hR (mapHas at_ name) (mapDel at_ name) p_3 _ h hp

/-! (*embrasure/due.Table).Due$1 (24) -/
def due_Table_Due_c1_wp {σ0 : Type} (s : σ0) (Y0 : (ByteArray) → (Int) → σ0 → List (ByteArray × Int) → (Bool → σ0 → List (ByteArray × Int) → Prop) → Prop) (at_ : List (ByteArray × Int)) (t : Int) (K : List (ByteArray × Int) → σ0 → Prop) : Prop :=
  ∃ (I : Nat → List (ByteArray × Int) → σ0 → Prop), (∃ (n_3 : Nat), I n_3 at_ s) ∧ ∀ (n_1 : Nat) (m_2 : List (ByteArray × Int)) (s_2 : σ0), I n_1 m_2 s_2 → (due_Table_Next_wp m_2 (fun (r : ByteArray) (r_1 : Int) (r_2 : Bool) => joinP1 (fun (t19 : Bool) => cond t19 (K m_2 s_2) (due_Table_Drop_wp m_2 r (fun (r_3 : Bool) (m_3 : List (ByteArray × Int)) => Y0 r r_1 s_2 m_3 (fun (t26 : Bool) (s_3 : σ0) (m_4 : List (ByteArray × Int)) => cond (!t26) (K m_4 s_3) (∃ (n_2 : Nat), n_2 < n_1 ∧ I n_2 m_4 s_3))))) (fun (Q : Bool → Prop) => cond (!r_2) (Q true) (Q (decide ((r_1 : Int) > t))))))
theorem due_Table_Due_c1_ok {σ0 : Type} {A0 : σ0 → HP} {ff0 : Fn} {fa0 : Array Value} {fc0 : Array Value} {b_1 : Nat} {b_2 : Nat} {b_3 : Nat} {p_1 : List MapEntry × Nat} {b_4 : Nat} {s : σ0} {Y0 : (ByteArray) → (Int) → σ0 → List (ByteArray × Int) → (Bool → σ0 → List (ByteArray × Int) → Prop) → Prop} {at_ : List (ByteArray × Int)} {t : Int} {FL : List HP} {w : World} {K : List (ByteArray × Int) → σ0 → Prop} {R : Value → World → Prop}
  (hY0 : ∀ (x0 : ByteArray) (x1 : Int) (s : σ0) (mh0 : List (ByteArray × Int)) (ph0 : List MapEntry × Nat) (K : Bool → σ0 → List (ByteArray × Int) → Prop) (FL2 : List HP) (w : World) (R : Value → World → Prop), (∀ w, Mem FL2 w → Mem FL w) → Mem (A0 s :: cel b_2 60 [(Value.map (some b_3))] :: mapQ b_3 va9 va3 ph0 mh0 :: FL2) w → Y0 x0 x1 s mh0 K → (∀ (r : Bool) (s : σ0) (mh0 : List (ByteArray × Int)) (ph0 : List MapEntry × Nat) (w : World), Mem (A0 s :: cel b_2 60 [(Value.map (some b_3))] :: mapQ b_3 va9 va3 ph0 mh0 :: FL2) w → K r s mh0 → R (Value.bool r) w) → CalleeV Try.prog (Value.func ff0 fa0 fc0) #[(Value.string x0), (Value.int .i64 x1)] w R)
  (h : Mem (cel b_1 24 [(Value.pointer (some (Addr.mk b_2 0 none)))] :: cel b_2 60 [(Value.map (some b_3))] :: mapQ b_3 va9 va3 p_1 at_ :: cel b_4 3 [(Value.int .i64 t)] :: A0 s :: FL) w) (hp : due_Table_Due_c1_wp s Y0 at_ t K)
  (hR : ∀ (m_1 : List (ByteArray × Int)) (s_1 : σ0) (p_2 : List MapEntry × Nat) (w : World), Mem (cel b_1 24 [(Value.pointer (some (Addr.mk b_2 0 none)))] :: cel b_2 60 [(Value.map (some b_3))] :: cel b_4 3 [(Value.int .i64 t)] :: mapQ b_3 va9 va3 p_2 m_1 :: A0 s_1 :: FL) w → K m_1 s_1 → R undef w) :
  CallV Try.prog 24 #[(Value.func ff0 fa0 fc0), (Value.pointer (some (Addr.mk b_1 0 none))), (Value.pointer (some (Addr.mk b_4 0 none)))] w R := by
  refine due_Table_Due_c1_call ?_
  unfold due_Table_Due_c1
  unfold due_Table_Due_c1_wp at hp
  obtain ⟨I, ⟨n_3, h0⟩, hq⟩ := hp
  replace h := h.sel [0, 0, 1, 0, 0] 0
  dsimp only [pickL, pickR, nthH, delH, dropH, List.cons_append, List.nil_append] at h
  refine ⟨fun n_1 yield0 t1 t2 w => ∃ (m_2 : List (ByteArray × Int)), ∃ (p_3 : List MapEntry × Nat), ∃ (s_2 : σ0), (Value.func ff0 fa0 fc0) = yield0 ∧ (Addr.mk b_1 0 none) = t1 ∧ (Addr.mk b_4 0 none) = t2 ∧ I n_1 m_2 s_2 ∧ Mem (cel b_1 24 [(Value.pointer (some (Addr.mk b_2 0 none)))] :: cel b_2 60 [(Value.map (some b_3))] :: cel b_4 3 [(Value.int .i64 t)] :: mapQ b_3 va9 va3 p_3 m_2 :: A0 s_2 :: FL) w, ⟨n_3, at_, p_1, s, rfl, rfl, rfl, h0, h⟩, ?_⟩
  clear h0 h
  rintro n_1 yield0 t1 t2 w ⟨m_2, p_3, s_2, rfl, rfl, rfl, hp, h⟩
  replace hp := hq n_1 m_2 s_2 hp
  clear hq
  unfold due_Table_Due_c1_l1
  refine ⟨_, cellL h 0 0 rfl rfl rfl, ?_⟩
  replace h := h.pick [1]
  dsimp only [pickL, pickR, nthH, delH, dropH, List.cons_append, List.nil_append] at h
  have hMr_M_k2_0 := romOf (h.drop 1) 2 rfl
  refine due_Table_Next_ok (FL := cel b_1 24 [(Value.pointer (some (Addr.mk b_2 0 none)))] :: cel b_4 3 [(Value.int .i64 t)] :: mapQ b_3 va9 va3 p_3 m_2 :: A0 s_2 :: FL) hMr_M_k2_0 h hp ?_
  intro r r_1 r_2 w h hp
  refine ⟨_, _, _, rfl, ?_⟩
  refine ⟨_, rfl, ?_⟩
  refine ⟨_, rfl, ?_⟩
  obtain ⟨Q, hq, hp⟩ := hp
  refine ⟨fun yield0_1 t1_1 t2_1 name4 at5 t19 w => (Value.func ff0 fa0 fc0) = yield0_1 ∧ (Addr.mk b_1 0 none) = t1_1 ∧ (Addr.mk b_4 0 none) = t2_1 ∧ r = name4 ∧ r_1 = at5 ∧ Q t19 ∧ Mem (cel b_2 60 [(Value.map (some b_3))] :: cel b_1 24 [(Value.pointer (some (Addr.mk b_2 0 none)))] :: cel b_4 3 [(Value.int .i64 t)] :: mapQ b_3 va9 va3 p_3 m_2 :: A0 s_2 :: FL) w, ?_, ?_⟩
  · rintro yield0_1 t1_1 t2_1 name4 at5 t19 w ⟨rfl, rfl, rfl, rfl, rfl, hp, h⟩
    replace hp := hq t19 hp
    unfold due_Table_Due_c1_j2
    refine cond_both hp (fun hp => ?_) (fun hp => ?_)
    · replace h := h.sel [1, 0, 0, 0, 0] 0
      dsimp only [pickL, pickR, nthH, delH, dropH, List.cons_append, List.nil_append] at h
      exact hR m_2 s_2 p_3 _ h hp
    refine ⟨_, cellL h 1 0 rfl rfl rfl, ?_⟩
    replace h := h.pick [0, 2]
    dsimp only [pickL, pickR, nthH, delH, dropH, List.cons_append, List.nil_append] at h
    refine due_Table_Drop_ok h hp ?_
    intro r_3 m_3 p_4 w h hp
    refine ⟨_, rfl, ?_⟩
    replace h := h.pick [4, 0, 0]
    dsimp only [pickL, pickR, nthH, delH, dropH, List.cons_append, List.nil_append] at h
    refine hY0 r r_1 _ _ _ _ (cel b_1 24 [(Value.pointer (some (Addr.mk b_2 0 none)))] :: cel b_4 3 [(Value.int .i64 t)] :: FL) _ _ (fun _ h => Mem.drop 2 h) h hp ?_
    intro t26 s_3 m_4 p_5 w h hp
    refine ⟨_, rfl, ?_⟩
    refine cond_both hp (fun hp => ?_) (fun hp => ?_)
    · replace h := h.sel [3, 1, 2, 1, 0] 0
      dsimp only [pickL, pickR, nthH, delH, dropH, List.cons_append, List.nil_append] at h
      exact hR m_4 s_3 p_5 _ h hp
    replace h := h.sel [3, 1, 2, 1, 0] 0
    dsimp only [pickL, pickR, nthH, delH, dropH, List.cons_append, List.nil_append] at h
    obtain ⟨n_2, hn, hp⟩ := hp
    exact ⟨n_2, hn, m_4, p_5, s_3, rfl, rfl, rfl, hp, h⟩
  clear hq
  refine cond_both hp (fun hp => ?_) (fun hp => ?_)
  · exact ⟨rfl, rfl, rfl, rfl, rfl, hp, h⟩
  refine ⟨_, cellL h 2 0 rfl rfl rfl, ?_⟩
  exact ⟨rfl, rfl, rfl, rfl, rfl, hp, h⟩

/-! (*embrasure/due.Table).Due (12) -/
def due_Table_Due_wp (at_ : List (ByteArray × Int)) (now : Int) (K : Int → Prop) : Prop :=
  K now
theorem due_Table_Due_ok {b_1 : Nat} {b_2 : Nat} {p_1 : List MapEntry × Nat} {at_ : List (ByteArray × Int)} {now : Int} {FL : List HP} {w : World} {K : Int → Prop} {R : Value → World → Prop}
  (hM_at_ : RoM FL b_2 va9 va3 p_1 at_)
  (h : Mem (cel b_1 60 [(Value.map (some b_2))] :: FL) w) (hp : due_Table_Due_wp at_ now K)
  (hR : ∀ (x_1 : Int) (b_3 : Nat) (b_4 : Nat) (w : World), Mem (cel b_3 24 [(Value.pointer (some (Addr.mk b_1 0 none)))] :: cel b_4 3 [(Value.int .i64 x_1)] :: cel b_1 60 [(Value.map (some b_2))] :: FL) w → K x_1 → R (Value.func (Fn.func 24) #[] #[(Value.pointer (some (Addr.mk b_3 0 none))), (Value.pointer (some (Addr.mk b_4 0 none)))]) w) :
  CallV Try.prog 12 #[(Value.pointer (some (Addr.mk b_1 0 none))), (Value.int .i64 now)] w R := by
  refine due_Table_Due_call ?_
  unfold due_Table_Due
  unfold due_Table_Due_wp at hp
  refine newL (o := [(Value.pointer (some (Addr.mk b_1 0 none)))]) h ?_
  intro b_3 w h
  refine newL (o := [(Value.int .i64 now)]) h ?_
  intro b_4 w h
  replace h := h.sel [1, 0, 0] 0
  dsimp only [pickL, pickR, nthH, delH, dropH, List.cons_append, List.nil_append] at h
  exact hR now b_3 b_4 _ h hp

/-! embrasure/embrasurelaw06.awake (8) -/
def embrasurelaw06_awake_wp  (K : Bool → Prop) : Prop :=
  due_New_wp (fun (at_ : List (ByteArray × Int)) => due_Table_Set_wp at_ (ByteArray.mk ([97]).toArray) 5 (fun (r : Int) (m_1 : List (ByteArray × Int)) => due_Table_Set_wp m_1 (ByteArray.mk ([98]).toArray) 3 (fun (r_1 : Int) (m_2 : List (ByteArray × Int)) => due_Table_Set_wp m_2 (ByteArray.mk ([99]).toArray) 9 (fun (r_2 : Int) (m_3 : List (ByteArray × Int)) => joinP2 (fun (x_1 : ByteArray) (m_4 : List (ByteArray × Int)) => due_Table_Next_wp m_4 (fun (r_3 : ByteArray) (r_4 : Int) (r_5 : Bool) => cond (x_1 == ((ByteArray.mk ([98, 97]).toArray))) (cond (r_3 == ((ByteArray.mk ([99]).toArray))) (cond ((r_4 : Int) == 9) (cond r_5 (due_Table_Set_wp m_4 (ByteArray.mk ([100]).toArray) (-1) (fun (r_6 : Int) (m_8 : List (ByteArray × Int)) => cond ((r_6 : Int) == 1) (due_Table_Drop_wp m_8 (ByteArray.mk ([97]).toArray) (fun (r_7 : Bool) (m_9 : List (ByteArray × Int)) => K (!r_7))) (K (false)))) (K (false))) (K (false))) (K (false))) (K (false)))) (fun (Q : ByteArray → List (ByteArray × Int) → Prop) => due_Table_Due_wp m_3 6 (fun (x_2 : Int) => due_Table_Due_c1_wp (0, ((ByteArray.mk ([]).toArray))) (fun x_4 x_5 (s : Nat × ByteArray) (m_6 : List (ByteArray × Int)) K_1 => s.1 = 0 ∧ (cond (decide ((x_5 : Int) > 6)) (K_1 false (1, s.2) m_6) (s.2.size + x_4.size ≤ 9223372036854775807 ∧ (K_1 true (0, (s.2 ++ x_4)) m_6)))) m_3 x_2 (fun (m_7 : List (ByteArray × Int)) (s_1 : (Nat × ByteArray)) => (s_1.1 = 0 ∧ (Q s_1.2 m_7)) ∨ (s_1.1 ≠ 0 ∧ (K (false))))))))))
theorem embrasurelaw06_awake_ok  {FL : List HP} {w : World} {K : Bool → Prop} {R : Value → World → Prop}
  (h : Mem (FL) w) (hp : embrasurelaw06_awake_wp  K)
  (hR : ∀ (r : Bool) (w : World), Mem (FL) w → K r → R (Value.bool r) w) :
  CallV Try.prog 8 #[] w R := by
  refine embrasurelaw06_awake_call ?_
  unfold embrasurelaw06_awake
  unfold embrasurelaw06_awake_wp at hp
  replace h := marksNil h
  refine newL (o := [(Value.bool false)]) h ?_
  intro b_1 w h
  refine due_New_ok h hp ?_
  intro at_ b_2 b_3 p_1 w h hp
  refine ⟨_, rfl, ?_⟩
  refine eqlPtrNil undP24 ?_
  refine ⟨_, rfl, ?_⟩
  refine cond_ff ?_
  refine due_Table_Set_ok h hp ?_
  intro r m_1 p_2 w h hp
  refine ⟨_, rfl, ?_⟩
  refine due_Table_Set_ok h hp ?_
  intro r_1 m_2 p_3 w h hp
  refine ⟨_, rfl, ?_⟩
  refine due_Table_Set_ok h hp ?_
  intro r_2 m_3 p_4 w h hp
  refine ⟨_, rfl, ?_⟩
  refine newL (o := [(Value.string ((ByteArray.mk ([]).toArray)))]) h ?_
  intro b_4 w h
  refine storeL (ys := [(Value.string ((ByteArray.mk ([]).toArray)))]) h 0 0 rfl rfl rfl sz9 rfl rfl ?_
  intro w h
  dsimp only [setH, setVs, setV] at h
  obtain ⟨Q, hq, hp⟩ := hp
  refine ⟨fun t0 t1 got2 m_5 w => ∃ (x_1 : ByteArray), ∃ (m_4 : List (ByteArray × Int)), ∃ (p_5 : List MapEntry × Nat), (Addr.mk b_1 0 none) = t0 ∧ (some (Addr.mk b_2 0 none)) = t1 ∧ (Addr.mk b_4 0 none) = got2 ∧ Q x_1 m_4 ∧ Mem (cel b_4 9 [(Value.string x_1)] :: cel b_2 60 [(Value.map (some b_3))] :: cel b_1 4 [(Value.bool false)] :: mapQ b_3 va9 va3 p_5 m_4 :: marksP m_5 :: FL) w, ?_, ?_⟩
  · rintro t0 t1 got2 m_5 w ⟨x_1, m_4, p_5, rfl, rfl, rfl, hp, h⟩
    replace hp := hq x_1 m_4 hp
    unfold embrasurelaw06_awake_j1
    replace h := h.pick [1]
    dsimp only [pickL, pickR, nthH, delH, dropH, List.cons_append, List.nil_append] at h
    have hMr_mk3 := romOf (h.drop 1) 2 rfl
    refine due_Table_Next_ok (FL := cel b_4 9 [(Value.string x_1)] :: cel b_1 4 [(Value.bool false)] :: mapQ b_3 va9 va3 p_5 m_4 :: marksP m_5 :: FL) hMr_mk3 h hp ?_
    intro r_3 r_4 r_5 w h hp
    refine ⟨_, _, _, rfl, ?_⟩
    refine ⟨_, rfl, ?_⟩
    refine ⟨_, rfl, ?_⟩
    refine ⟨_, cellL h 1 0 rfl rfl rfl, ?_⟩
    refine eqlStr ?_
    refine ⟨_, rfl, ?_⟩
    refine cond_both' hp (fun hp => ?_) (fun hp => ?_)
    · refine storeL (ys := [(Value.bool false)]) h 2 0 rfl rfl rfl sz4 rfl rfl ?_
      intro w h
      dsimp only [setH, setVs, setV] at h
      replace h := h.pick [4]
      dsimp only [pickL, pickR, nthH, delH, dropH, List.cons_append, List.nil_append] at h
      refine finishMarks _ h ?_
      intro w h
      refine ⟨_, cellL h 2 0 rfl rfl rfl, ?_⟩
      replace h := h.sel [] 4
      dsimp only [pickL, pickR, nthH, delH, dropH, List.cons_append, List.nil_append] at h
      exact hR (false) _ h hp
    refine eqlStr ?_
    refine ⟨_, rfl, ?_⟩
    refine cond_both' hp (fun hp => ?_) (fun hp => ?_)
    · refine storeL (ys := [(Value.bool false)]) h 2 0 rfl rfl rfl sz4 rfl rfl ?_
      intro w h
      dsimp only [setH, setVs, setV] at h
      replace h := h.pick [4]
      dsimp only [pickL, pickR, nthH, delH, dropH, List.cons_append, List.nil_append] at h
      refine finishMarks _ h ?_
      intro w h
      refine ⟨_, cellL h 2 0 rfl rfl rfl, ?_⟩
      replace h := h.sel [] 4
      dsimp only [pickL, pickR, nthH, delH, dropH, List.cons_append, List.nil_append] at h
      exact hR (false) _ h hp
    refine cond_both' hp (fun hp => ?_) (fun hp => ?_)
    · refine storeL (ys := [(Value.bool false)]) h 2 0 rfl rfl rfl sz4 rfl rfl ?_
      intro w h
      dsimp only [setH, setVs, setV] at h
      replace h := h.pick [4]
      dsimp only [pickL, pickR, nthH, delH, dropH, List.cons_append, List.nil_append] at h
      refine finishMarks _ h ?_
      intro w h
      refine ⟨_, cellL h 2 0 rfl rfl rfl, ?_⟩
      replace h := h.sel [] 4
      dsimp only [pickL, pickR, nthH, delH, dropH, List.cons_append, List.nil_append] at h
      exact hR (false) _ h hp
    refine cond_both' hp (fun hp => ?_) (fun hp => ?_)
    · refine storeL (ys := [(Value.bool false)]) h 2 0 rfl rfl rfl sz4 rfl rfl ?_
      intro w h
      dsimp only [setH, setVs, setV] at h
      replace h := h.pick [4]
      dsimp only [pickL, pickR, nthH, delH, dropH, List.cons_append, List.nil_append] at h
      refine finishMarks _ h ?_
      intro w h
      refine ⟨_, cellL h 2 0 rfl rfl rfl, ?_⟩
      replace h := h.sel [] 4
      dsimp only [pickL, pickR, nthH, delH, dropH, List.cons_append, List.nil_append] at h
      exact hR (false) _ h hp
    replace h := h.pick [0, 2]
    dsimp only [pickL, pickR, nthH, delH, dropH, List.cons_append, List.nil_append] at h
    refine due_Table_Set_ok h hp ?_
    intro r_6 m_8 p_8 w h hp
    refine ⟨_, rfl, ?_⟩
    refine cond_both' hp (fun hp => ?_) (fun hp => ?_)
    · refine storeL (ys := [(Value.bool false)]) h 3 0 rfl rfl rfl sz4 rfl rfl ?_
      intro w h
      dsimp only [setH, setVs, setV] at h
      replace h := h.pick [4]
      dsimp only [pickL, pickR, nthH, delH, dropH, List.cons_append, List.nil_append] at h
      refine finishMarks _ h ?_
      intro w h
      refine ⟨_, cellL h 3 0 rfl rfl rfl, ?_⟩
      replace h := h.sel [] 4
      dsimp only [pickL, pickR, nthH, delH, dropH, List.cons_append, List.nil_append] at h
      exact hR (false) _ h hp
    refine due_Table_Drop_ok h hp ?_
    intro r_7 m_9 p_9 w h hp
    refine ⟨_, rfl, ?_⟩
    refine storeL (ys := [(Value.bool (!r_7))]) h 3 0 rfl rfl rfl sz4 rfl rfl ?_
    intro w h
    dsimp only [setH, setVs, setV] at h
    replace h := h.pick [4]
    dsimp only [pickL, pickR, nthH, delH, dropH, List.cons_append, List.nil_append] at h
    refine finishMarks _ h ?_
    intro w h
    refine ⟨_, cellL h 3 0 rfl rfl rfl, ?_⟩
    replace h := h.sel [] 4
    dsimp only [pickL, pickR, nthH, delH, dropH, List.cons_append, List.nil_append] at h
    exact hR (!r_7) _ h hp
  clear hq
  replace h := h.pick [1]
  dsimp only [pickL, pickR, nthH, delH, dropH, List.cons_append, List.nil_append] at h
  have hMr_mk3 := romOf (h.drop 1) 1 rfl
  refine due_Table_Due_ok (FL := cel b_4 9 [(Value.string ((ByteArray.mk ([]).toArray)))] :: mapQ b_3 va9 va3 p_4 m_3 :: cel b_1 4 [(Value.bool false)] :: marksP [] :: FL) hMr_mk3 h hp ?_
  intro x_2 b_5 b_6 w h hp
  refine ⟨_, _, _, rfl, ?_⟩
  intro e_1 fn_e_1 he_e_1 hr_e_1
  refine newO h ?_
  intro d w h
  refine newO h ?_
  intro l_1 w h
  replace h := h.pick [1, 7]
  dsimp only [pickL, pickR, nthH, delH, dropH, List.cons_append, List.nil_append] at h
  replace h := marksPush h
  show rangeCallW _ (Value.func (Fn.func 24) _ _) _ _ _
  refine rangeCallFn (by kernel_rfl) ?_
  replace h := h.pick [1, 4, 5]
  dsimp only [pickL, pickR, nthH, delH, dropH, List.cons_append, List.nil_append] at h
  replace h : Mem ((fun (s : Nat × ByteArray) => HL [pt l_1 (loopS (embrasurelaw06_awake_lo1 fn_e_1 e_1 d) s.1 (fun (n : Nat) => ((if n = 0 then none else (some .ret)) : Option Code))), cel b_4 9 [(Value.string s.2)], cel b_1 4 [(Value.bool false)]]) (0, ((ByteArray.mk ([]).toArray))) :: marksP (d :: []) :: cel b_5 24 [(Value.pointer (some (Addr.mk b_2 0 none)))] :: cel b_6 3 [(Value.int .i64 x_2)] :: cel b_2 60 [(Value.map (some b_3))] :: mapQ b_3 va9 va3 p_4 m_3 :: FL) _ := h.pack 3 [pt l_1 (loopS (embrasurelaw06_awake_lo1 fn_e_1 e_1 d) 0 (fun (n : Nat) => ((if n = 0 then none else (some .ret)) : Option Code))), cel b_4 9 [(Value.string ((ByteArray.mk ([]).toArray)))], cel b_1 4 [(Value.bool false)]] rfl
  replace h := h.pick [2, 3, 3, 2, 0]
  dsimp only [pickL, pickR, nthH, delH, dropH, List.cons_append, List.nil_append] at h
  refine due_Table_Due_c1_ok (FL := marksP (d :: []) :: FL) (A0 := (fun (s : Nat × ByteArray) => HL [pt l_1 (loopS (embrasurelaw06_awake_lo1 fn_e_1 e_1 d) s.1 (fun (n : Nat) => ((if n = 0 then none else (some .ret)) : Option Code))), cel b_4 9 [(Value.string s.2)], cel b_1 4 [(Value.bool false)]])) (Y0 := (fun x_4 x_5 (s : Nat × ByteArray) (m_6 : List (ByteArray × Int)) K_1 => s.1 = 0 ∧ (cond (decide ((x_5 : Int) > 6)) (K_1 false (1, s.2) m_6) (s.2.size + x_4.size ≤ 9223372036854775807 ∧ (K_1 true (0, (s.2 ++ x_4)) m_6))))) (σ0 := Nat × ByteArray) (s := (0, ((ByteArray.mk ([]).toArray)))) ?_ h hp ?_
  · intro x_4 x_5 s m_6 p_6 K_1 FL2 w R hx h hp hR
    replace h := h.unpack
    dsimp only [pickL, pickR, nthH, delH, dropH, List.cons_append, List.nil_append] at h
    obtain ⟨hst, hp⟩ := hp
    refine embrasurelaw06_awake_r1_yield (by have := objAt h 0 rfl; rw [hst] at this; exact this) he_e_1 hr_e_1 ?_
    unfold embrasurelaw06_awake_r1
    refine ⟨_, (by have := objAt h 0 rfl; rw [hst] at this; exact this : _ = some (Obj.loop (embrasurelaw06_awake_lo1 fn_e_1 e_1 d))), rfl, ?_⟩
    replace h := h.putK 0 rfl (.loop { embrasurelaw06_awake_lo1 fn_e_1 e_1 d with state := .busy })
    dsimp only [setH] at h
    refine cond_both hp (fun hp => ?_) (fun hp => ?_)
    · refine storeL (ys := [(Value.bool false)]) h 2 0 rfl rfl rfl sz4 rfl rfl ?_
      intro w h
      dsimp only [setH, setVs, setV] at h
      refine ⟨_, objAt h 0 rfl, ?_⟩
      replace h := h.putK 0 rfl (loopS (embrasurelaw06_awake_lo1 fn_e_1 e_1 d) 1 (fun (n : Nat) => ((if n = 0 then none else (some .ret)) : Option Code)))
      dsimp only [setH] at h
      exact hR false (1, s.2) _ _ _ (h.pack 3 [pt l_1 (loopS (embrasurelaw06_awake_lo1 fn_e_1 e_1 d) 1 (fun (n : Nat) => ((if n = 0 then none else (some .ret)) : Option Code))), cel b_4 9 [(Value.string s.2)], cel b_1 4 [(Value.bool false)]] rfl) hp
    refine ⟨_, cellL h 1 0 rfl rfl rfl, ?_⟩
    refine addStr hp.1 ?_
    replace hp := hp.2
    refine ⟨_, rfl, ?_⟩
    refine storeL (ys := [(Value.string (s.2 ++ x_4))]) h 1 0 rfl rfl rfl sz9 rfl rfl ?_
    intro w h
    dsimp only [setH, setVs, setV] at h
    refine ⟨_, objAt h 0 rfl, ?_⟩
    replace h := h.putK 0 rfl (loopS (embrasurelaw06_awake_lo1 fn_e_1 e_1 d) 0 (fun (n : Nat) => ((if n = 0 then none else (some .ret)) : Option Code)))
    dsimp only [setH] at h
    exact hR true (0, (s.2 ++ x_4)) _ _ _ (h.pack 3 [pt l_1 (loopS (embrasurelaw06_awake_lo1 fn_e_1 e_1 d) 0 (fun (n : Nat) => ((if n = 0 then none else (some .ret)) : Option Code))), cel b_4 9 [(Value.string (s.2 ++ x_4))], cel b_1 4 [(Value.bool false)]] rfl) hp
  intro m_7 s_1 p_7 w h hp
  replace h := h.pick [4]
  dsimp only [pickL, pickR, nthH, delH, dropH, List.cons_append, List.nil_append] at h
  replace h := h.unpack
  dsimp only [pickL, pickR, nthH, delH, dropH, List.cons_append, List.nil_append] at h
  refine ⟨_, objAt h 0 rfl, loopS_ns _, ?_⟩
  replace h := h.putK 0 rfl (.loop { embrasurelaw06_awake_lo1 fn_e_1 e_1 d with state := .exhausted, pending := (fun (n : Nat) => ((if n = 0 then none else (some .ret)) : Option Code)) s_1.1 })
  dsimp only [setH] at h
  rcases hp with ⟨hst, hp⟩ | ⟨hst, hp⟩
  · refine Or.inl ?_
    refine ⟨congrArg (fun (n : Nat) => ((if n = 0 then none else (some .ret)) : Option Code)) hst, ?_⟩
    replace h := h.sel [1, 3, 1, 3, 3] 3
    dsimp only [pickL, pickR, nthH, delH, dropH, List.cons_append, List.nil_append] at h
    exact ⟨s_1.2, m_7, p_7, rfl, rfl, rfl, hp, h⟩
  · refine Or.inr (?_)
    refine ⟨show (fun (n : Nat) => ((if n = 0 then none else (some .ret)) : Option Code)) s_1.1 = _ from if_neg hst, ?_⟩
    replace h := h.pick [7]
    dsimp only [pickL, pickR, nthH, delH, dropH, List.cons_append, List.nil_append] at h
    refine ⟨(marksPop h).1, ?_⟩
    replace h := (marksPop h).2
    refine ⟨_, cellL h 3 0 rfl rfl rfl, ?_⟩
    replace h := h.sel [] 8
    dsimp only [pickL, pickR, nthH, delH, dropH, List.cons_append, List.nil_append] at h
    exact hR (false) _ h hp

/-! embrasure/embrasurelaw06.small (15) -/
def embrasurelaw06_small_wp (l_1 : List (Int × ByteArray × Int × Int × Int)) (K : Bool → Prop) : Prop :=
  ∃ (I : Nat → Int → Prop), (∃ (n_4 : Nat), I n_4 0) ∧ ∀ (n_2 : Nat) (i3 : Int), I n_2 i3 → (joinP1 (fun (t11 : Bool) => cond t11 (0 ≤ (i3 : Int) ∧ (i3 : Int) < ((l_1.length : Nat) : Int) ∧ (∀ (x_1 : Int × ByteArray × Int × Int × Int), l_1[Int.toNat i3]? = some x_1 → (cond (decide ((((x_1.2.1.size : Nat) : Int) : Int) > 60)) (K false) (∃ (n_3 : Nat), n_3 < n_2 ∧ I n_3 (IntKind.wrap .i64 (i3 + 1)))))) (K true)) (fun (Q : Bool → Prop) => cond (decide ((i3 : Int) < ((l_1.length : Nat) : Int))) (Q (decide ((i3 : Int) < 60))) (Q false)))
theorem embrasurelaw06_small_ok {p_1 : Option Addr} {n_1 : Nat} {c_1 : Nat} {l_1 : List (Int × ByteArray × Int × Int × Int)} {FL : List HP} {w : World} {K : Bool → Prop} {R : Value → World → Prop}
  (hF_l_1 : ∀ w, Mem FL w → Rd w 5 p_1 enc48 l_1) (hl_l_1 : n_1 = l_1.length) (hc_l_1 : n_1 ≤ c_1)
  (h : Mem (FL) w) (hp : embrasurelaw06_small_wp l_1 K)
  (hR : ∀ (r : Bool) (w : World), Mem (FL) w → K r → R (Value.bool r) w) :
  CallV Try.prog 15 #[(Value.slice p_1 n_1 c_1)] w R := by
  refine embrasurelaw06_small_call ?_
  unfold embrasurelaw06_small
  unfold embrasurelaw06_small_wp at hp
  subst hl_l_1
  obtain ⟨I, ⟨n_4, h0⟩, hq⟩ := hp
  refine ⟨fun n_2 l0p l0l l0c i3 w => p_1 = l0p ∧ l_1.length = l0l ∧ c_1 = l0c ∧ I n_2 i3 ∧ Mem (FL) w, ⟨n_4, rfl, rfl, rfl, h0, h⟩, ?_⟩
  clear h0 h
  rintro n_2 l0p l0l l0c i3 w ⟨rfl, rfl, rfl, hp, h⟩
  replace hp := hq n_2 i3 hp
  clear hq
  unfold embrasurelaw06_small_l1
  obtain ⟨Q, hq, hp⟩ := hp
  refine ⟨fun l0_1p l0_1l l0_1c i3_1 t11 w => p_1 = l0_1p ∧ l_1.length = l0_1l ∧ c_1 = l0_1c ∧ i3 = i3_1 ∧ Q t11 ∧ Mem (FL) w, ?_, ?_⟩
  · rintro l0_1p l0_1l l0_1c i3_1 t11 w ⟨rfl, rfl, rfl, rfl, hp, h⟩
    replace hp := hq t11 hp
    unfold embrasurelaw06_small_j2
    refine cond_both' hp (fun hp => ?_) (fun hp => ?_)
    · exact hR true _ h hp
    obtain ⟨ia_1, ja_1, hp⟩ := hp
    obtain ⟨a_1, ha_1⟩ := rdAddr (hF_l_1 _ (h.drop 0)) rfl ia_1 ja_1
    refine ⟨a_1, ha_1, ia_1, ja_1, ?_⟩
    obtain ⟨x_1, hx_1, hc⟩ := rdCell (hF_l_1 _ (h.drop 0)) ha_1 rfl ia_1 ja_1
    replace hp := hp x_1 hx_1
    refine ⟨_, hc 1 _ rfl, ?_⟩
    refine cond_both hp (fun hp => ?_) (fun hp => ?_)
    · exact hR false _ h hp
    obtain ⟨n_3, hn, hp⟩ := hp
    exact ⟨n_3, hn, rfl, rfl, rfl, hp, h⟩
  clear hq
  refine cond_both hp (fun hp => ?_) (fun hp => ?_)
  · exact ⟨rfl, rfl, rfl, rfl, hp, h⟩
  exact ⟨rfl, rfl, rfl, rfl, hp, h⟩

/-! (*embrasure/embrasureref06.Table).find (25) -/
def embrasureref06_Table_find_wp (L : List (ByteArray × Int)) (name : ByteArray) (K : Int → Prop) : Prop :=
  ∃ (I : Nat → Int → Prop), (∃ (n_3 : Nat), I n_3 0) ∧ ∀ (n_1 : Nat) (i5 : Int), I n_1 i5 → (cond (decide ((i5 : Int) < ((L.length : Nat) : Int))) (0 ≤ (i5 : Int) ∧ (i5 : Int) < ((L.length : Nat) : Int) ∧ (∀ (x_1 : ByteArray × Int), L[Int.toNat i5]? = some x_1 → (cond (x_1.1 == name) (K i5) (∃ (n_2 : Nat), n_2 < n_1 ∧ I n_2 (IntKind.wrap .i64 (i5 + 1)))))) (K (-1)))
theorem embrasureref06_Table_find_ok {b_1 : Nat} {p_1 : Option Addr} {c_1 : Nat} {L : List (ByteArray × Int)} {name : ByteArray} {FL : List HP} {w : World} {K : Int → Prop} {R : Value → World → Prop}
  (h : Mem (cel b_1 46 [(Value.slice p_1 L.length c_1)] :: row enc50 50 2 p_1 c_1 L :: FL) w) (hp : embrasureref06_Table_find_wp L name K)
  (hR : ∀ (r : Int) (w : World), Mem (cel b_1 46 [(Value.slice p_1 L.length c_1)] :: row enc50 50 2 p_1 c_1 L :: FL) w → K r → R (Value.int .i64 r) w) :
  CallV Try.prog 25 #[(Value.pointer (some (Addr.mk b_1 0 none))), (Value.string name)] w R := by
  refine embrasureref06_Table_find_call ?_
  unfold embrasureref06_Table_find
  unfold embrasureref06_Table_find_wp at hp
  have cpp_1 := rowCap h 1 rfl
  obtain ⟨I, ⟨n_3, h0⟩, hq⟩ := hp
  refine ⟨fun n_1 t0 name1 i5 w => (some (Addr.mk b_1 0 none)) = t0 ∧ name = name1 ∧ I n_1 i5 ∧ Mem (cel b_1 46 [(Value.slice p_1 L.length c_1)] :: row enc50 50 2 p_1 c_1 L :: FL) w, ⟨n_3, rfl, rfl, h0, h⟩, ?_⟩
  clear h0 h
  rintro n_1 t0 name1 i5 w ⟨rfl, rfl, hp, h⟩
  replace hp := hq n_1 i5 hp
  clear hq
  unfold embrasureref06_Table_find_l1
  refine ⟨_, rfl, ?_⟩
  refine ⟨_, _, _, cellL h 0 0 rfl rfl rfl, ?_⟩
  refine cond_both' hp (fun hp => ?_) (fun hp => ?_)
  · exact hR (-1) _ h hp
  refine ⟨_, rfl, ?_⟩
  refine ⟨_, _, _, cellL h 0 0 rfl rfl rfl, ?_⟩
  obtain ⟨ia_1, ja_1, hp⟩ := hp
  obtain ⟨a_1, ha_1⟩ := rdAddr (rowRd h 1 encL50 rfl) rfl ia_1 ja_1
  refine ⟨a_1, ha_1, ia_1, ja_1, ?_⟩
  obtain ⟨x_1, hx_1, hc⟩ := rdCell (rowRd h 1 encL50 rfl) ha_1 rfl ia_1 ja_1
  replace hp := hp x_1 hx_1
  refine ⟨_, hc 0 _ rfl, ?_⟩
  refine eqlStr ?_
  refine ⟨_, rfl, ?_⟩
  refine cond_both hp (fun hp => ?_) (fun hp => ?_)
  · exact hR i5 _ h hp
  obtain ⟨n_2, hn, hp⟩ := hp
  exact ⟨n_2, hn, rfl, rfl, hp, h⟩

/-! (*embrasure/embrasureref06.Table).Drop (17) -/
def embrasureref06_Table_Drop_wp (L : List (ByteArray × Int)) (name : ByteArray) (K : Bool → List (ByteArray × Int) → Prop) : Prop :=
  embrasureref06_Table_find_wp L name (fun (r : Int) => cond (decide ((r : Int) < 0)) (K false L) (0 ≤ (r : Int) ∧ (r : Int) ≤ ((L.length : Nat) : Int) ∧ (0 ≤ ((IntKind.wrap .i64 (r + 1)) : Int) ∧ ((IntKind.wrap .i64 (r + 1)) : Int) ≤ ((L.length : Nat) : Int) ∧ ((([] : List (ByteArray × Int)).length + ((L.take (Int.toNat r)).drop 0).length) * 24 ≤ 140737488355328 ∧ (((([] : List (ByteArray × Int)) ++ ((L.take (Int.toNat r)).drop 0)).length + ((L.take L.length).drop (Int.toNat (IntKind.wrap .i64 (r + 1)))).length) * 24 ≤ 140737488355328 ∧ (K true ((([] : List (ByteArray × Int)) ++ ((L.take (Int.toNat r)).drop 0)) ++ ((L.take L.length).drop (Int.toNat (IntKind.wrap .i64 (r + 1)))))))))))
theorem embrasureref06_Table_Drop_ok {b_1 : Nat} {p_1 : Option Addr} {c_1 : Nat} {L : List (ByteArray × Int)} {name : ByteArray} {FL : List HP} {w : World} {K : Bool → List (ByteArray × Int) → Prop} {R : Value → World → Prop}
  (h : Mem (cel b_1 46 [(Value.slice p_1 L.length c_1)] :: row enc50 50 2 p_1 c_1 L :: FL) w) (hp : embrasureref06_Table_Drop_wp L name K)
  (hR : ∀ (r : Bool) (L_1 : List (ByteArray × Int)) (p_2 : Option Addr) (n_1 : Nat) (c_2 : Nat) (w : World), n_1 = L_1.length → Mem (cel b_1 46 [(Value.slice p_2 n_1 c_2)] :: row enc50 50 2 p_2 c_2 L_1 :: FL) w → K r L_1 → R (Value.bool r) w) :
  CallV Try.prog 17 #[(Value.pointer (some (Addr.mk b_1 0 none))), (Value.string name)] w R := by
  refine embrasureref06_Table_Drop_call ?_
  unfold embrasureref06_Table_Drop
  unfold embrasureref06_Table_Drop_wp at hp
  have cpp_1 := rowCap h 1 rfl
  refine embrasureref06_Table_find_ok h hp ?_
  intro r w h hp
  have cpp_1 := rowCap h 1 rfl
  refine ⟨_, rfl, ?_⟩
  refine cond_both hp (fun hp => ?_) (fun hp => ?_)
  · exact hR false L p_1 L.length c_1 _ rfl h hp
  replace h := h.drew
  refine ⟨fun w => Mem (cel b_1 46 [(Value.slice p_1 L.length c_1)] :: FL) w, (h.sel [0] 1), ?_⟩
  refine ⟨_, rfl, ?_⟩
  refine ⟨_, _, _, cellL h 0 0 rfl rfl rfl, ?_⟩
  refine ⟨?_, ?_⟩
  · intro w h
    change Mem _ _ at h
    refine ⟨_, _, _, cellL h 0 0 rfl rfl rfl, ?_⟩
    exact ⟨rfl, rfl⟩
  obtain ⟨g_1ha, g_1hb, hp⟩ := hp
  have vg_1_lh : 0 ≤ (Int.toNat r) := (Nat.zero_le _)
  have vg_1_hm : (Int.toNat r) ≤ c_1 := (Nat.le_trans (natLe g_1ha g_1hb) cpp_1)
  have vg_1_mc : c_1 ≤ c_1 := (Nat.le_refl _)
  have vg_1_hl : (Int.toNat r) ≤ L.length := (leLen g_1ha g_1hb rfl)
  refine ⟨g_1ha, (leCap g_1hb cpp_1), ?_⟩
  refine ⟨_, rfl, ?_⟩
  refine ⟨_, _, _, cellL h 0 0 rfl rfl rfl, ?_⟩
  refine ⟨?_, ?_⟩
  · intro w h
    change Mem _ _ at h
    refine ⟨_, _, _, cellL h 0 0 rfl rfl rfl, ?_⟩
    exact ⟨rfl, rfl⟩
  obtain ⟨g_2la, g_2lb, hp⟩ := hp
  have vg_2_lh : (Int.toNat (IntKind.wrap .i64 (r + 1))) ≤ L.length := (natLe g_2la g_2lb)
  have vg_2_hm : L.length ≤ c_1 := cpp_1
  have vg_2_mc : c_1 ≤ c_1 := (Nat.le_refl _)
  have vg_2_hl : L.length ≤ L.length := (Nat.le_of_eq rfl)
  refine ⟨g_2la, g_2lb, ?_⟩
  refine newL (o := []) h ?_
  intro b_2 w h
  refine ⟨(h.sel [1] 2), ?_⟩
  have sr := (Rd.view (rowRd h 2 encL50 rfl) (l := 0) (h := (Int.toNat r)) (m := c_1) vg_1_hm)
  replace h := rowOfCel h 0 encL50 rfl ([] : List (ByteArray × Int)) rfl
  dsimp only [setH, setVs, setV] at h
  obtain ⟨hb, hp⟩ := hp
  refine appendL slt44 und44 encL50 encO50 h 0 rfl rfl sr (viewLen vg_1_hl) hb ?_
  intro p_3 c_3 w h
  dsimp only [setH, setVs, setV] at h
  have cpp_3 := rowCap h 0 rfl
  refine ⟨_, _, _, rfl, ?_⟩
  refine ⟨(h.sel [1] 2), ?_⟩
  have sr_1 := (Rd.view (rowRd h 2 encL50 rfl) (l := (Int.toNat (IntKind.wrap .i64 (r + 1)))) (h := L.length) (m := c_1) vg_2_hm)
  obtain ⟨hb, hp⟩ := hp
  refine appendL slt44 und44 encL50 encO50 h 0 rfl rfl sr_1 (viewLen vg_2_hl) hb ?_
  intro p_4 c_4 w h
  dsimp only [setH, setVs, setV] at h
  have cpp_4 := rowCap h 0 rfl
  refine ⟨_, _, _, rfl, ?_⟩
  refine ⟨_, rfl, ?_⟩
  refine storeL (ys := [(Value.slice p_4 ((([] : List (ByteArray × Int)) ++ ((L.take (Int.toNat r)).drop 0)) ++ ((L.take L.length).drop (Int.toNat (IntKind.wrap .i64 (r + 1))))).length c_4)]) h 1 0 rfl rfl rfl sz44 rfl rfl ?_
  intro w h
  dsimp only [setH, setVs, setV] at h
  replace h := h.sel [1, 0] 1
  dsimp only [pickL, pickR, nthH, delH, dropH, List.cons_append, List.nil_append] at h
  exact hR true ((([] : List (ByteArray × Int)) ++ ((L.take (Int.toNat r)).drop 0)) ++ ((L.take L.length).drop (Int.toNat (IntKind.wrap .i64 (r + 1))))) p_4 (((([] : List (ByteArray × Int)) ++ ((L.take (Int.toNat r)).drop 0)) ++ ((L.take L.length).drop (Int.toNat (IntKind.wrap .i64 (r + 1))))).length) c_4 _ rfl h hp

/-! embrasure/embrasureref06.less (26) -/
def embrasureref06_less_wp (a_1 : ByteArray) (b_1 : ByteArray) (K : Bool → Prop) : Prop :=
  joinP0 (K (decide ((((a_1.size : Nat) : Int) : Int) < ((b_1.size : Nat) : Int)))) (fun (Q : Prop) => ∃ (I : Nat → Int → Prop), (∃ (n_3 : Nat), I n_3 0) ∧ ∀ (n_1 : Nat) (i5 : Int), I n_1 i5 → (joinP1 (fun (t15 : Bool) => cond t15 (∃ (b_2 : UInt8), 0 ≤ (i5 : Int) ∧ a_1[Int.toNat i5]? = some b_2 ∧ (∃ (b_3 : UInt8), 0 ≤ (i5 : Int) ∧ b_1[Int.toNat i5]? = some b_3 ∧ (cond ((((b_2.toNat : Nat) : Int) : Int) != ((b_3.toNat : Nat) : Int)) (∃ (b_4 : UInt8), 0 ≤ (i5 : Int) ∧ a_1[Int.toNat i5]? = some b_4 ∧ (∃ (b_5 : UInt8), 0 ≤ (i5 : Int) ∧ b_1[Int.toNat i5]? = some b_5 ∧ (K (decide ((((b_4.toNat : Nat) : Int) : Int) < ((b_5.toNat : Nat) : Int)))))) (∃ (n_2 : Nat), n_2 < n_1 ∧ I n_2 (IntKind.wrap .i64 (i5 + 1)))))) (Q )) (fun (Q_1 : Bool → Prop) => cond (decide ((i5 : Int) < ((a_1.size : Nat) : Int))) (Q_1 (decide ((i5 : Int) < ((b_1.size : Nat) : Int)))) (Q_1 false))))
theorem embrasureref06_less_ok {a_1 : ByteArray} {b_1 : ByteArray} {FL : List HP} {w : World} {K : Bool → Prop} {R : Value → World → Prop}
  (h : Mem (FL) w) (hp : embrasureref06_less_wp a_1 b_1 K)
  (hR : ∀ (r : Bool) (w : World), Mem (FL) w → K r → R (Value.bool r) w) :
  CallV Try.prog 26 #[(Value.string a_1), (Value.string b_1)] w R := by
  refine embrasureref06_less_call ?_
  unfold embrasureref06_less
  unfold embrasureref06_less_wp at hp
  obtain ⟨Q, hq, hp⟩ := hp
  refine ⟨fun a0 b1 w => a_1 = a0 ∧ b_1 = b1 ∧ Q ∧ Mem (FL) w, ?_, ?_⟩
  · rintro a0 b1 w ⟨rfl, rfl, hp, h⟩
    replace hp := hq  hp
    unfold embrasureref06_less_j1
    exact hR (decide ((((a_1.size : Nat) : Int) : Int) < ((b_1.size : Nat) : Int))) _ h hp
  clear hq
  obtain ⟨I, ⟨n_3, h0⟩, hq⟩ := hp
  refine ⟨fun n_1 a0_1 b1_1 i5 w => a_1 = a0_1 ∧ b_1 = b1_1 ∧ I n_1 i5 ∧ Mem (FL) w, ⟨n_3, rfl, rfl, h0, h⟩, ?_⟩
  clear h0 h
  rintro n_1 a0_1 b1_1 i5 w ⟨rfl, rfl, hp, h⟩
  replace hp := hq n_1 i5 hp
  clear hq
  unfold embrasureref06_less_l2
  obtain ⟨Q_1, hq, hp⟩ := hp
  refine ⟨fun a0_2 b1_2 i5_1 t15 w => a_1 = a0_2 ∧ b_1 = b1_2 ∧ i5 = i5_1 ∧ Q_1 t15 ∧ Mem (FL) w, ?_, ?_⟩
  · rintro a0_2 b1_2 i5_1 t15 w ⟨rfl, rfl, rfl, hp, h⟩
    replace hp := hq t15 hp
    unfold embrasureref06_less_j3
    refine cond_both' hp (fun hp => ?_) (fun hp => ?_)
    · exact ⟨rfl, rfl, hp, h⟩
    replace h := h.drew
    obtain ⟨b_2, hb_20, hb_21, hp⟩ := hp
    refine ⟨b_2, hb_20, hb_21, ?_⟩
    refine ⟨rfl, ?_⟩
    obtain ⟨b_3, hb_30, hb_31, hp⟩ := hp
    refine ⟨b_3, hb_30, hb_31, ?_⟩
    refine ⟨rfl, ?_⟩
    refine cond_both' hp (fun hp => ?_) (fun hp => ?_)
    · obtain ⟨n_2, hn, hp⟩ := hp
      exact ⟨n_2, hn, rfl, rfl, hp, h⟩
    replace h := h.drew
    obtain ⟨b_4, hb_40, hb_41, hp⟩ := hp
    refine ⟨b_4, hb_40, hb_41, ?_⟩
    refine ⟨rfl, ?_⟩
    obtain ⟨b_5, hb_50, hb_51, hp⟩ := hp
    refine ⟨b_5, hb_50, hb_51, ?_⟩
    refine ⟨rfl, ?_⟩
    exact hR (decide ((((b_4.toNat : Nat) : Int) : Int) < ((b_5.toNat : Nat) : Int))) _ h hp
  clear hq
  refine cond_both hp (fun hp => ?_) (fun hp => ?_)
  · exact ⟨rfl, rfl, rfl, hp, h⟩
  exact ⟨rfl, rfl, rfl, hp, h⟩

/-! (*embrasure/embrasureref06.Table).Set (16) -/
def embrasureref06_Table_Set_wp (L : List (ByteArray × Int)) (name : ByteArray) (at_ : Int) (K : Int → List (ByteArray × Int) → Prop) : Prop :=
  joinP1 (fun (t13 : Bool) => cond t13 (K 1 L) (joinP0 (embrasureref06_Table_Drop_wp L name (fun (r_1 : Bool) (L_2 : List (ByteArray × Int)) => joinP1 (fun (i7 : Int) => 0 ≤ (i7 : Int) ∧ (i7 : Int) ≤ ((L_2.length : Nat) : Int) ∧ (0 ≤ (i7 : Int) ∧ (i7 : Int) ≤ ((L_2.length : Nat) : Int) ∧ ((((([] : List (ByteArray × Int)).length + ((L_2.take (Int.toNat i7)).drop 0).length) * 24 ≤ 140737488355328 ∧ (((([] : List (ByteArray × Int)) ++ ((L_2.take (Int.toNat i7)).drop 0)).length + [(name, at_)].length) * 24 ≤ 140737488355328 ∧ ((((([] : List (ByteArray × Int)) ++ ((L_2.take (Int.toNat i7)).drop 0)) ++ [(name, at_)]).length + ((L_2.take L_2.length).drop (Int.toNat i7)).length) * 24 ≤ 140737488355328 ∧ (K 0 (((([] : List (ByteArray × Int)) ++ ((L_2.take (Int.toNat i7)).drop 0)) ++ [(name, at_)]) ++ ((L_2.take L_2.length).drop (Int.toNat i7))))))) ∧ ((([] : List (ByteArray × Int)).length + ((L_2.take (Int.toNat i7)).drop 0).length) * 24 ≤ 140737488355328 ∧ (((([] : List (ByteArray × Int)) ++ ((L_2.take (Int.toNat i7)).drop 0)).length + [(name, at_)].length) * 24 ≤ 140737488355328 ∧ ((((([] : List (ByteArray × Int)) ++ ((L_2.take (Int.toNat i7)).drop 0)) ++ [(name, at_)]).length + ((L_2.take L_2.length).drop (Int.toNat i7)).length) * 24 ≤ 140737488355328 ∧ (K 0 (((([] : List (ByteArray × Int)) ++ ((L_2.take (Int.toNat i7)).drop 0)) ++ [(name, at_)]) ++ ((L_2.take L_2.length).drop (Int.toNat i7)))))))) ∧ ((([] : List (ByteArray × Int)).length + ((L_2.take (Int.toNat i7)).drop 0).length) * 24 ≤ 140737488355328 ∧ (((([] : List (ByteArray × Int)) ++ ((L_2.take (Int.toNat i7)).drop 0)).length + [(name, at_)].length) * 24 ≤ 140737488355328 ∧ ((((([] : List (ByteArray × Int)) ++ ((L_2.take (Int.toNat i7)).drop 0)) ++ [(name, at_)]).length + ((L_2.take L_2.length).drop (Int.toNat i7)).length) * 24 ≤ 140737488355328 ∧ (K 0 (((([] : List (ByteArray × Int)) ++ ((L_2.take (Int.toNat i7)).drop 0)) ++ [(name, at_)]) ++ ((L_2.take L_2.length).drop (Int.toNat i7)))))))))) (fun (Q_3 : Int → Prop) => ∃ (I : Nat → Int → Prop), (∃ (n_5 : Nat), I n_5 0) ∧ ∀ (n_3 : Nat) (i7_1 : Int), I n_3 i7_1 → (joinP1 (fun (t71 : Bool) => cond t71 (∃ (n_4 : Nat), n_4 < n_3 ∧ I n_4 (IntKind.wrap .i64 (i7_1 + 1))) (Q_3 i7_1)) (fun (Q_4 : Bool → Prop) => cond (decide ((i7_1 : Int) < ((L_2.length : Nat) : Int))) (0 ≤ (i7_1 : Int) ∧ (i7_1 : Int) < ((L_2.length : Nat) : Int) ∧ (∀ (x_1 : ByteArray × Int), L_2[Int.toNat i7_1]? = some x_1 → (cond (decide ((x_1.2 : Int) < at_)) (Q_4 true) (0 ≤ (i7_1 : Int) ∧ (i7_1 : Int) < ((L_2.length : Nat) : Int) ∧ (∀ (x_2 : ByteArray × Int), L_2[Int.toNat i7_1]? = some x_2 → (cond ((x_2.2 : Int) == at_) (0 ≤ (i7_1 : Int) ∧ (i7_1 : Int) < ((L_2.length : Nat) : Int) ∧ (∀ (x_3 : ByteArray × Int), L_2[Int.toNat i7_1]? = some x_3 → (embrasureref06_less_wp x_3.1 name (fun (r_2 : Bool) => Q_4 r_2)))) (Q_4 false))))))) (Q_4 false)))))) (fun (Q_1 : Prop) => joinP1 (fun (t25 : Bool) => cond t25 (K 10 L) (Q_1 )) (fun (Q_2 : Bool → Prop) => embrasureref06_Table_find_wp L name (fun (r : Int) => cond (decide ((r : Int) < 0)) (Q_2 (decide ((((L.length : Nat) : Int) : Int) ≥ 200))) (Q_2 false)))))) (fun (Q : Bool → Prop) => cond (decide ((at_ : Int) < 0)) (Q true) (Q (decide ((at_ : Int) > 1099511627776))))
theorem embrasureref06_Table_Set_ok {b_1 : Nat} {p_1 : Option Addr} {c_1 : Nat} {L : List (ByteArray × Int)} {name : ByteArray} {at_ : Int} {FL : List HP} {w : World} {K : Int → List (ByteArray × Int) → Prop} {R : Value → World → Prop}
  (h : Mem (cel b_1 46 [(Value.slice p_1 L.length c_1)] :: row enc50 50 2 p_1 c_1 L :: FL) w) (hp : embrasureref06_Table_Set_wp L name at_ K)
  (hR : ∀ (r : Int) (L_1 : List (ByteArray × Int)) (p_2 : Option Addr) (n_1 : Nat) (c_2 : Nat) (w : World), n_1 = L_1.length → Mem (cel b_1 46 [(Value.slice p_2 n_1 c_2)] :: row enc50 50 2 p_2 c_2 L_1 :: FL) w → K r L_1 → R (Value.int .i64 r) w) :
  CallV Try.prog 16 #[(Value.pointer (some (Addr.mk b_1 0 none))), (Value.string name), (Value.int .i64 at_)] w R := by
  refine embrasureref06_Table_Set_call ?_
  unfold embrasureref06_Table_Set
  unfold embrasureref06_Table_Set_wp at hp
  have cpp_1 := rowCap h 1 rfl
  obtain ⟨Q, hq, hp⟩ := hp
  refine ⟨fun t0 name1 at2 t13 w => (some (Addr.mk b_1 0 none)) = t0 ∧ name = name1 ∧ at_ = at2 ∧ Q t13 ∧ Mem (cel b_1 46 [(Value.slice p_1 L.length c_1)] :: row enc50 50 2 p_1 c_1 L :: FL) w, ?_, ?_⟩
  · rintro t0 name1 at2 t13 w ⟨rfl, rfl, rfl, hp, h⟩
    replace hp := hq t13 hp
    unfold embrasureref06_Table_Set_j1
    refine cond_both hp (fun hp => ?_) (fun hp => ?_)
    · exact hR 1 L p_1 L.length c_1 _ rfl h hp
    obtain ⟨Q_1, hq, hp⟩ := hp
    refine ⟨fun t0_1 name1_1 at2_1 w => (some (Addr.mk b_1 0 none)) = t0_1 ∧ name = name1_1 ∧ at_ = at2_1 ∧ Q_1 ∧ Mem (cel b_1 46 [(Value.slice p_1 L.length c_1)] :: row enc50 50 2 p_1 c_1 L :: FL) w, ?_, ?_⟩
    · rintro t0_1 name1_1 at2_1 w ⟨rfl, rfl, rfl, hp, h⟩
      replace hp := hq  hp
      unfold embrasureref06_Table_Set_j2
      refine embrasureref06_Table_Drop_ok h hp ?_
      rintro r_1 L_2 p_3 n_2 c_3 w rfl h hp
      have cpp_3 := rowCap h 1 rfl
      refine ⟨_, rfl, ?_⟩
      obtain ⟨Q_3, hq, hp⟩ := hp
      refine ⟨fun t0_3 name1_3 at2_3 i7 w => (some (Addr.mk b_1 0 none)) = t0_3 ∧ name = name1_3 ∧ at_ = at2_3 ∧ Q_3 i7 ∧ Mem (cel b_1 46 [(Value.slice p_3 L_2.length c_3)] :: row enc50 50 2 p_3 c_3 L_2 :: FL) w, ?_, ?_⟩
      · rintro t0_3 name1_3 at2_3 i7 w ⟨rfl, rfl, rfl, hp, h⟩
        replace hp := hq i7 hp
        unfold embrasureref06_Table_Set_j3
        replace h := h.drew
        refine ⟨fun w => Mem (cel b_1 46 [(Value.slice p_3 L_2.length c_3)] :: FL) w, (h.sel [0] 1), ?_⟩
        refine ⟨_, rfl, ?_⟩
        refine ⟨_, _, _, cellL h 0 0 rfl rfl rfl, ?_⟩
        refine ⟨?_, ?_⟩
        · intro w h
          change Mem _ _ at h
          refine ⟨_, _, _, cellL h 0 0 rfl rfl rfl, ?_⟩
          exact ⟨rfl, rfl⟩
        obtain ⟨g_1ha, g_1hb, hp⟩ := hp
        have vg_1_lh : 0 ≤ (Int.toNat i7) := (Nat.zero_le _)
        have vg_1_hm : (Int.toNat i7) ≤ c_3 := (Nat.le_trans (natLe g_1ha g_1hb) cpp_3)
        have vg_1_mc : c_3 ≤ c_3 := (Nat.le_refl _)
        have vg_1_hl : (Int.toNat i7) ≤ L_2.length := (leLen g_1ha g_1hb rfl)
        refine ⟨g_1ha, (leCap g_1hb cpp_3), ?_⟩
        refine ⟨_, rfl, ?_⟩
        refine ⟨_, _, _, cellL h 0 0 rfl rfl rfl, ?_⟩
        refine ⟨?_, ?_⟩
        · intro w h
          change Mem _ _ at h
          refine ⟨_, _, _, cellL h 0 0 rfl rfl rfl, ?_⟩
          exact ⟨rfl, rfl⟩
        obtain ⟨g_2la, g_2lb, hp⟩ := hp
        have vg_2_lh : (Int.toNat i7) ≤ L_2.length := (natLe g_2la g_2lb)
        have vg_2_hm : L_2.length ≤ c_3 := cpp_3
        have vg_2_mc : c_3 ≤ c_3 := (Nat.le_refl _)
        have vg_2_hl : L_2.length ≤ L_2.length := (Nat.le_of_eq rfl)
        refine ⟨g_2la, g_2lb, ?_⟩
        refine ⟨?_, ?_⟩
        · replace hp := hp.1
          refine newL (o := []) h ?_
          intro b_2 w h
          refine ⟨(h.sel [1] 2), ?_⟩
          refine ⟨?_, ?_⟩
          · replace hp := hp.1
            have sr := (Rd.view (rowRd h 2 encL50 rfl) (l := 0) (h := (Int.toNat i7)) (m := c_3) vg_1_hm)
            replace h := rowOfCel h 0 encL50 rfl ([] : List (ByteArray × Int)) rfl
            dsimp only [setH, setVs, setV] at h
            obtain ⟨hb, hp⟩ := hp
            refine appendL slt44 und44 encL50 encO50 h 0 rfl rfl sr (viewLen vg_1_hl) hb ?_
            intro p_4 c_4 w h
            dsimp only [setH, setVs, setV] at h
            have cpp_4 := rowCap h 0 rfl
            refine ⟨_, _, _, rfl, ?_⟩
            refine ⟨(h.sel [1] 2), ?_⟩
            refine newL (o := [(Value.string name), (Value.int .i64 at_)]) h ?_
            intro b_3 w h
            refine ⟨(h.sel [2] 3), ?_⟩
            have sr_1 := (celRd h 0 encL50 rfl [(name, at_)] rfl)
            obtain ⟨hb, hp⟩ := hp
            refine appendL slt44 und44 encL50 encO50 h 1 rfl rfl sr_1 rfl hb ?_
            intro p_5 c_5 w h
            dsimp only [setH, setVs, setV] at h
            have cpp_5 := rowCap h 1 rfl
            refine ⟨_, _, _, rfl, ?_⟩
            refine ⟨(h.sel [2] 3), ?_⟩
            have sr_2 := (Rd.view (rowRd h 3 encL50 rfl) (l := (Int.toNat i7)) (h := L_2.length) (m := c_3) vg_2_hm)
            obtain ⟨hb, hp⟩ := hp
            refine appendL slt44 und44 encL50 encO50 h 1 rfl rfl sr_2 (viewLen vg_2_hl) hb ?_
            intro p_6 c_6 w h
            dsimp only [setH, setVs, setV] at h
            have cpp_6 := rowCap h 1 rfl
            refine ⟨_, _, _, rfl, ?_⟩
            refine ⟨_, rfl, ?_⟩
            refine storeL (ys := [(Value.slice p_6 (((([] : List (ByteArray × Int)) ++ ((L_2.take (Int.toNat i7)).drop 0)) ++ [(name, at_)]) ++ ((L_2.take L_2.length).drop (Int.toNat i7))).length c_6)]) h 2 0 rfl rfl rfl sz44 rfl rfl ?_
            intro w h
            dsimp only [setH, setVs, setV] at h
            replace h := h.sel [2, 1] 2
            dsimp only [pickL, pickR, nthH, delH, dropH, List.cons_append, List.nil_append] at h
            exact hR 0 (((([] : List (ByteArray × Int)) ++ ((L_2.take (Int.toNat i7)).drop 0)) ++ [(name, at_)]) ++ ((L_2.take L_2.length).drop (Int.toNat i7))) p_6 ((((([] : List (ByteArray × Int)) ++ ((L_2.take (Int.toNat i7)).drop 0)) ++ [(name, at_)]) ++ ((L_2.take L_2.length).drop (Int.toNat i7))).length) c_6 _ rfl h hp
          replace hp := hp.2
          refine newL (o := [(Value.string name), (Value.int .i64 at_)]) h ?_
          intro b_4 w h
          refine ⟨(h.sel [2] 3), ?_⟩
          have sr_3 := (Rd.view (rowRd h 3 encL50 rfl) (l := 0) (h := (Int.toNat i7)) (m := c_3) vg_1_hm)
          replace h := rowOfCel h 1 encL50 rfl ([] : List (ByteArray × Int)) rfl
          dsimp only [setH, setVs, setV] at h
          obtain ⟨hb, hp⟩ := hp
          refine appendL slt44 und44 encL50 encO50 h 1 rfl rfl sr_3 (viewLen vg_1_hl) hb ?_
          intro p_7 c_7 w h
          dsimp only [setH, setVs, setV] at h
          have cpp_7 := rowCap h 1 rfl
          refine ⟨_, _, _, rfl, ?_⟩
          refine ⟨(h.sel [2] 3), ?_⟩
          have sr_4 := (celRd h 0 encL50 rfl [(name, at_)] rfl)
          obtain ⟨hb, hp⟩ := hp
          refine appendL slt44 und44 encL50 encO50 h 1 rfl rfl sr_4 rfl hb ?_
          intro p_8 c_8 w h
          dsimp only [setH, setVs, setV] at h
          have cpp_8 := rowCap h 1 rfl
          refine ⟨_, _, _, rfl, ?_⟩
          refine ⟨(h.sel [2] 3), ?_⟩
          have sr_5 := (Rd.view (rowRd h 3 encL50 rfl) (l := (Int.toNat i7)) (h := L_2.length) (m := c_3) vg_2_hm)
          obtain ⟨hb, hp⟩ := hp
          refine appendL slt44 und44 encL50 encO50 h 1 rfl rfl sr_5 (viewLen vg_2_hl) hb ?_
          intro p_9 c_9 w h
          dsimp only [setH, setVs, setV] at h
          have cpp_9 := rowCap h 1 rfl
          refine ⟨_, _, _, rfl, ?_⟩
          refine ⟨_, rfl, ?_⟩
          refine storeL (ys := [(Value.slice p_9 (((([] : List (ByteArray × Int)) ++ ((L_2.take (Int.toNat i7)).drop 0)) ++ [(name, at_)]) ++ ((L_2.take L_2.length).drop (Int.toNat i7))).length c_9)]) h 2 0 rfl rfl rfl sz44 rfl rfl ?_
          intro w h
          dsimp only [setH, setVs, setV] at h
          replace h := h.sel [2, 1] 2
          dsimp only [pickL, pickR, nthH, delH, dropH, List.cons_append, List.nil_append] at h
          exact hR 0 (((([] : List (ByteArray × Int)) ++ ((L_2.take (Int.toNat i7)).drop 0)) ++ [(name, at_)]) ++ ((L_2.take L_2.length).drop (Int.toNat i7))) p_9 ((((([] : List (ByteArray × Int)) ++ ((L_2.take (Int.toNat i7)).drop 0)) ++ [(name, at_)]) ++ ((L_2.take L_2.length).drop (Int.toNat i7))).length) c_9 _ rfl h hp
        replace hp := hp.2
        refine newL (o := [(Value.string name), (Value.int .i64 at_)]) h ?_
        intro b_5 w h
        refine ⟨(h.sel [1] 2), ?_⟩
        refine newL (o := []) h ?_
        intro b_6 w h
        refine ⟨(h.sel [2] 3), ?_⟩
        have sr_6 := (Rd.view (rowRd h 3 encL50 rfl) (l := 0) (h := (Int.toNat i7)) (m := c_3) vg_1_hm)
        replace h := rowOfCel h 0 encL50 rfl ([] : List (ByteArray × Int)) rfl
        dsimp only [setH, setVs, setV] at h
        obtain ⟨hb, hp⟩ := hp
        refine appendL slt44 und44 encL50 encO50 h 0 rfl rfl sr_6 (viewLen vg_1_hl) hb ?_
        intro p_10 c_10 w h
        dsimp only [setH, setVs, setV] at h
        have cpp_10 := rowCap h 0 rfl
        refine ⟨_, _, _, rfl, ?_⟩
        refine ⟨(h.sel [2] 3), ?_⟩
        have sr_7 := (celRd h 1 encL50 rfl [(name, at_)] rfl)
        obtain ⟨hb, hp⟩ := hp
        refine appendL slt44 und44 encL50 encO50 h 0 rfl rfl sr_7 rfl hb ?_
        intro p_11 c_11 w h
        dsimp only [setH, setVs, setV] at h
        have cpp_11 := rowCap h 0 rfl
        refine ⟨_, _, _, rfl, ?_⟩
        refine ⟨(h.sel [2] 3), ?_⟩
        have sr_8 := (Rd.view (rowRd h 3 encL50 rfl) (l := (Int.toNat i7)) (h := L_2.length) (m := c_3) vg_2_hm)
        obtain ⟨hb, hp⟩ := hp
        refine appendL slt44 und44 encL50 encO50 h 0 rfl rfl sr_8 (viewLen vg_2_hl) hb ?_
        intro p_12 c_12 w h
        dsimp only [setH, setVs, setV] at h
        have cpp_12 := rowCap h 0 rfl
        refine ⟨_, _, _, rfl, ?_⟩
        refine ⟨_, rfl, ?_⟩
        refine storeL (ys := [(Value.slice p_12 (((([] : List (ByteArray × Int)) ++ ((L_2.take (Int.toNat i7)).drop 0)) ++ [(name, at_)]) ++ ((L_2.take L_2.length).drop (Int.toNat i7))).length c_12)]) h 2 0 rfl rfl rfl sz44 rfl rfl ?_
        intro w h
        dsimp only [setH, setVs, setV] at h
        replace h := h.sel [2, 0] 2
        dsimp only [pickL, pickR, nthH, delH, dropH, List.cons_append, List.nil_append] at h
        exact hR 0 (((([] : List (ByteArray × Int)) ++ ((L_2.take (Int.toNat i7)).drop 0)) ++ [(name, at_)]) ++ ((L_2.take L_2.length).drop (Int.toNat i7))) p_12 ((((([] : List (ByteArray × Int)) ++ ((L_2.take (Int.toNat i7)).drop 0)) ++ [(name, at_)]) ++ ((L_2.take L_2.length).drop (Int.toNat i7))).length) c_12 _ rfl h hp
      clear hq
      obtain ⟨I, ⟨n_5, h0⟩, hq⟩ := hp
      refine ⟨fun n_3 t0_4 name1_4 at2_4 i7_1 w => (some (Addr.mk b_1 0 none)) = t0_4 ∧ name = name1_4 ∧ at_ = at2_4 ∧ I n_3 i7_1 ∧ Mem (cel b_1 46 [(Value.slice p_3 L_2.length c_3)] :: row enc50 50 2 p_3 c_3 L_2 :: FL) w, ⟨n_5, rfl, rfl, rfl, h0, h⟩, ?_⟩
      clear h0 h
      rintro n_3 t0_4 name1_4 at2_4 i7_1 w ⟨rfl, rfl, rfl, hp, h⟩
      replace hp := hq n_3 i7_1 hp
      clear hq
      unfold embrasureref06_Table_Set_l4
      obtain ⟨Q_4, hq, hp⟩ := hp
      refine ⟨fun t0_5 name1_5 at2_5 i7_2 t71 w => (some (Addr.mk b_1 0 none)) = t0_5 ∧ name = name1_5 ∧ at_ = at2_5 ∧ i7_1 = i7_2 ∧ Q_4 t71 ∧ Mem (cel b_1 46 [(Value.slice p_3 L_2.length c_3)] :: row enc50 50 2 p_3 c_3 L_2 :: FL) w, ?_, ?_⟩
      · rintro t0_5 name1_5 at2_5 i7_2 t71 w ⟨rfl, rfl, rfl, rfl, hp, h⟩
        replace hp := hq t71 hp
        unfold embrasureref06_Table_Set_j5
        refine cond_both' hp (fun hp => ?_) (fun hp => ?_)
        · exact ⟨rfl, rfl, rfl, hp, h⟩
        obtain ⟨n_4, hn, hp⟩ := hp
        exact ⟨n_4, hn, rfl, rfl, rfl, hp, h⟩
      clear hq
      refine ⟨_, rfl, ?_⟩
      refine ⟨_, _, _, cellL h 0 0 rfl rfl rfl, ?_⟩
      refine cond_both' hp (fun hp => ?_) (fun hp => ?_)
      · exact ⟨rfl, rfl, rfl, rfl, hp, h⟩
      refine ⟨_, rfl, ?_⟩
      refine ⟨_, _, _, cellL h 0 0 rfl rfl rfl, ?_⟩
      obtain ⟨ia_1, ja_1, hp⟩ := hp
      obtain ⟨a_1, ha_1⟩ := rdAddr (rowRd h 1 encL50 rfl) rfl ia_1 ja_1
      refine ⟨a_1, ha_1, ia_1, ja_1, ?_⟩
      obtain ⟨x_1, hx_1, hc⟩ := rdCell (rowRd h 1 encL50 rfl) ha_1 rfl ia_1 ja_1
      replace hp := hp x_1 hx_1
      refine ⟨_, hc 1 _ rfl, ?_⟩
      refine cond_both hp (fun hp => ?_) (fun hp => ?_)
      · exact ⟨rfl, rfl, rfl, rfl, hp, h⟩
      refine ⟨_, rfl, ?_⟩
      refine ⟨_, _, _, cellL h 0 0 rfl rfl rfl, ?_⟩
      obtain ⟨ia_2, ja_2, hp⟩ := hp
      obtain ⟨a_2, ha_2⟩ := rdAddr (rowRd h 1 encL50 rfl) rfl ia_2 ja_2
      refine ⟨a_2, ha_2, ia_2, ja_2, ?_⟩
      obtain ⟨x_2, hx_2, hc⟩ := rdCell (rowRd h 1 encL50 rfl) ha_2 rfl ia_2 ja_2
      replace hp := hp x_2 hx_2
      refine ⟨_, hc 1 _ rfl, ?_⟩
      refine cond_both' hp (fun hp => ?_) (fun hp => ?_)
      · exact ⟨rfl, rfl, rfl, rfl, hp, h⟩
      refine ⟨_, rfl, ?_⟩
      refine ⟨_, _, _, cellL h 0 0 rfl rfl rfl, ?_⟩
      obtain ⟨ia_3, ja_3, hp⟩ := hp
      obtain ⟨a_3, ha_3⟩ := rdAddr (rowRd h 1 encL50 rfl) rfl ia_3 ja_3
      refine ⟨a_3, ha_3, ia_3, ja_3, ?_⟩
      obtain ⟨x_3, hx_3, hc⟩ := rdCell (rowRd h 1 encL50 rfl) ha_3 rfl ia_3 ja_3
      replace hp := hp x_3 hx_3
      refine ⟨_, hc 0 _ rfl, ?_⟩
      refine embrasureref06_less_ok h hp ?_
      intro r_2 w h hp
      refine ⟨_, rfl, ?_⟩
      exact ⟨rfl, rfl, rfl, rfl, hp, h⟩
    clear hq
    obtain ⟨Q_2, hq, hp⟩ := hp
    refine ⟨fun t0_2 name1_2 at2_2 t25 w => (some (Addr.mk b_1 0 none)) = t0_2 ∧ name = name1_2 ∧ at_ = at2_2 ∧ Q_2 t25 ∧ Mem (cel b_1 46 [(Value.slice p_1 L.length c_1)] :: row enc50 50 2 p_1 c_1 L :: FL) w, ?_, ?_⟩
    · rintro t0_2 name1_2 at2_2 t25 w ⟨rfl, rfl, rfl, hp, h⟩
      replace hp := hq t25 hp
      unfold embrasureref06_Table_Set_j6
      refine cond_both hp (fun hp => ?_) (fun hp => ?_)
      · exact hR 10 L p_1 L.length c_1 _ rfl h hp
      exact ⟨rfl, rfl, rfl, hp, h⟩
    clear hq
    refine embrasureref06_Table_find_ok h hp ?_
    intro r w h hp
    have cpp_1 := rowCap h 1 rfl
    refine ⟨_, rfl, ?_⟩
    refine cond_both' hp (fun hp => ?_) (fun hp => ?_)
    · exact ⟨rfl, rfl, rfl, hp, h⟩
    refine ⟨_, rfl, ?_⟩
    refine ⟨_, _, _, cellL h 0 0 rfl rfl rfl, ?_⟩
    exact ⟨rfl, rfl, rfl, hp, h⟩
  clear hq
  refine cond_both hp (fun hp => ?_) (fun hp => ?_)
  · exact ⟨rfl, rfl, rfl, hp, h⟩
  exact ⟨rfl, rfl, rfl, hp, h⟩

/-! (*embrasure/embrasureref06.Table).Take (18) -/
def embrasureref06_Table_Take_wp (L : List (ByteArray × Int)) (now : Int) (K : ByteArray → Int → Bool → List (ByteArray × Int) → Prop) : Prop :=
  joinP1 (fun (t23 : Bool) => cond t23 (K (ByteArray.mk ([]).toArray) 0 false L) (0 ≤ (0 : Int) ∧ (0 : Int) < ((L.length : Nat) : Int) ∧ (∀ (x_2 : ByteArray × Int), L[Int.toNat 0]? = some x_2 → (0 ≤ (1 : Int) ∧ (1 : Int) ≤ ((L.length : Nat) : Int) ∧ (K x_2.1 x_2.2 true ((L.take L.length).drop (Int.toNat 1))))))) (fun (Q : Bool → Prop) => cond ((((L.length : Nat) : Int) : Int) == 0) (Q true) (0 ≤ (0 : Int) ∧ (0 : Int) < ((L.length : Nat) : Int) ∧ (∀ (x_1 : ByteArray × Int), L[Int.toNat 0]? = some x_1 → (Q (decide ((x_1.2 : Int) > now))))))
theorem embrasureref06_Table_Take_ok {b_1 : Nat} {p_1 : Option Addr} {c_1 : Nat} {L : List (ByteArray × Int)} {now : Int} {FL : List HP} {w : World} {K : ByteArray → Int → Bool → List (ByteArray × Int) → Prop} {R : Value → World → Prop}
  (h : Mem (cel b_1 46 [(Value.slice p_1 L.length c_1)] :: row enc50 50 2 p_1 c_1 L :: FL) w) (hp : embrasureref06_Table_Take_wp L now K)
  (hR : ∀ (r : ByteArray) (r_1 : Int) (r_2 : Bool) (L_1 : List (ByteArray × Int)) (p_2 : Option Addr) (n_1 : Nat) (c_2 : Nat) (w : World), n_1 = L_1.length → Mem (cel b_1 46 [(Value.slice p_2 n_1 c_2)] :: row enc50 50 2 p_2 c_2 L_1 :: FL) w → K r r_1 r_2 L_1 → R (Value.tuple #[(Value.agg #[(Value.string r), (Value.int .i64 r_1)]), (Value.bool r_2)]) w) :
  CallV Try.prog 18 #[(Value.pointer (some (Addr.mk b_1 0 none))), (Value.int .i64 now)] w R := by
  refine embrasureref06_Table_Take_call ?_
  unfold embrasureref06_Table_Take
  unfold embrasureref06_Table_Take_wp at hp
  have cpp_1 := rowCap h 1 rfl
  refine newL (o := [(Value.string ((ByteArray.mk ([]).toArray))), (Value.int .i64 0)]) h ?_
  intro b_2 w h
  obtain ⟨Q, hq, hp⟩ := hp
  refine ⟨fun t0 t4 t23 w => (some (Addr.mk b_1 0 none)) = t0 ∧ (Addr.mk b_2 0 none) = t4 ∧ Q t23 ∧ Mem (cel b_2 50 [(Value.string ((ByteArray.mk ([]).toArray))), (Value.int .i64 0)] :: cel b_1 46 [(Value.slice p_1 L.length c_1)] :: row enc50 50 2 p_1 c_1 L :: FL) w, ?_, ?_⟩
  · rintro t0 t4 t23 w ⟨rfl, rfl, hp, h⟩
    replace hp := hq t23 hp
    unfold embrasureref06_Table_Take_j1
    refine cond_both hp (fun hp => ?_) (fun hp => ?_)
    · refine storeL (ys := [(Value.string ((ByteArray.mk ([]).toArray))), (Value.int .i64 0)]) h 0 0 rfl rfl rfl sz50 rfl rfl ?_
      intro w h
      dsimp only [setH, setVs, setV] at h
      refine ⟨_, cellL h 0 0 rfl rfl rfl, _, cellL h 0 1 rfl rfl rfl, ?_⟩
      replace h := h.sel [1, 1] 1
      dsimp only [pickL, pickR, nthH, delH, dropH, List.cons_append, List.nil_append] at h
      exact hR (ByteArray.mk ([]).toArray) 0 false L p_1 L.length c_1 _ rfl h hp
    refine ⟨_, rfl, ?_⟩
    refine ⟨_, _, _, cellL h 1 0 rfl rfl rfl, ?_⟩
    obtain ⟨ia_2, ja_2, hp⟩ := hp
    obtain ⟨a_2, ha_2⟩ := rdAddr (rowRd h 2 encL50 rfl) rfl ia_2 ja_2
    refine ⟨a_2, ha_2, ia_2, ja_2, ?_⟩
    obtain ⟨x_2, hx_2, hc⟩ := rdCell (rowRd h 2 encL50 rfl) ha_2 rfl ia_2 ja_2
    replace hp := hp x_2 hx_2
    refine ⟨_, hc 0 _ rfl, _, hc 1 _ rfl, ?_⟩
    refine newL (o := [(Value.string ((ByteArray.mk ([]).toArray))), (Value.int .i64 0)]) h ?_
    intro b_3 w h
    refine storeL (ys := [(Value.string x_2.1), (Value.int .i64 x_2.2)]) h 0 0 rfl rfl rfl sz50 rfl rfl ?_
    intro w h
    dsimp only [setH, setVs, setV] at h
    refine ⟨_, rfl, ?_⟩
    refine ⟨_, _, _, cellL h 2 0 rfl rfl rfl, ?_⟩
    obtain ⟨g_1la, g_1lb, hp⟩ := hp
    have vg_1_lh : (Int.toNat 1) ≤ L.length := (natLe g_1la g_1lb)
    have vg_1_hm : L.length ≤ c_1 := cpp_1
    have vg_1_mc : c_1 ≤ c_1 := (Nat.le_refl _)
    have vg_1_hl : L.length ≤ L.length := (Nat.le_of_eq rfl)
    refine ⟨g_1la, g_1lb, ?_⟩
    refine ⟨_, rfl, ?_⟩
    replace h := rowShrink h 3 encL50 rfl (l := (Int.toNat 1)) (hi := L.length) (m := c_1) vg_1_lh vg_1_hm vg_1_mc vg_1_hl
    dsimp only [setH, setVs, setV] at h
    refine storeL (ys := [(Value.slice (slAddr p_1 2 (Int.toNat 1) c_1) (L.length - (Int.toNat 1)) (c_1 - (Int.toNat 1)))]) h 2 0 rfl rfl rfl sz44 rfl rfl ?_
    intro w h
    dsimp only [setH, setVs, setV] at h
    refine ⟨_, cellL h 0 0 rfl rfl rfl, _, cellL h 0 1 rfl rfl rfl, ?_⟩
    refine storeL (ys := [(Value.string x_2.1), (Value.int .i64 x_2.2)]) h 1 0 rfl rfl rfl sz50 rfl rfl ?_
    intro w h
    dsimp only [setH, setVs, setV] at h
    refine ⟨_, cellL h 1 0 rfl rfl rfl, _, cellL h 1 1 rfl rfl rfl, ?_⟩
    replace h := h.sel [2, 2] 2
    dsimp only [pickL, pickR, nthH, delH, dropH, List.cons_append, List.nil_append] at h
    exact hR x_2.1 x_2.2 true ((L.take L.length).drop (Int.toNat 1)) (slAddr p_1 2 (Int.toNat 1) c_1) (L.length - (Int.toNat 1)) (c_1 - (Int.toNat 1)) _ (viewLen vg_1_hl) h hp
  clear hq
  refine ⟨_, rfl, ?_⟩
  refine ⟨_, _, _, cellL h 1 0 rfl rfl rfl, ?_⟩
  refine cond_both hp (fun hp => ?_) (fun hp => ?_)
  · exact ⟨rfl, rfl, hp, h⟩
  refine ⟨_, rfl, ?_⟩
  refine ⟨_, _, _, cellL h 1 0 rfl rfl rfl, ?_⟩
  obtain ⟨ia_1, ja_1, hp⟩ := hp
  obtain ⟨a_1, ha_1⟩ := rdAddr (rowRd h 2 encL50 rfl) rfl ia_1 ja_1
  refine ⟨a_1, ha_1, ia_1, ja_1, ?_⟩
  obtain ⟨x_1, hx_1, hc⟩ := rdCell (rowRd h 2 encL50 rfl) ha_1 rfl ia_1 ja_1
  replace hp := hp x_1 hx_1
  refine ⟨_, hc 1 _ rfl, ?_⟩
  exact ⟨rfl, rfl, hp, h⟩

/-! slices.AppendSeq[[]string,string] (33) -/
def slices_AppendSeq_sl_string_string_wp (s : List (ByteArray)) (m_1 : List (ByteArray × Int)) (K : List (ByteArray) → Prop) : Prop :=
  joinP1 (fun (x_1 : List (ByteArray)) => K x_1) (fun (Q : List (ByteArray) → Prop) => maps_Keys_map_string_int_string_int__c1_wp (0, s) (fun x_3 (s_1 : Nat × List (ByteArray)) K_1 => s_1.1 = 0 ∧ ((s_1.2.length + [x_3].length) * 16 ≤ 140737488355328 ∧ (K_1 true (0, (s_1.2 ++ [x_3]))))) m_1 (fun (s_2 : (Nat × List (ByteArray))) => (s_2.1 = 0 ∧ (Q s_2.2))))
theorem slices_AppendSeq_sl_string_string_ok {p_1 : Option Addr} {c_1 : Nat} {n_1 : Nat} {b_1 : Nat} {b_2 : Nat} {p_2 : List MapEntry × Nat} {s : List (ByteArray)} {m_1 : List (ByteArray × Int)} {FL : List HP} {w : World} {K : List (ByteArray) → Prop} {R : Value → World → Prop} (hn_p_1 : n_1 = s.length)
  (hM_m_1 : RoM FL b_2 va9 va3 p_2 m_1)
  (h : Mem (row enc9 9 1 p_1 c_1 s :: cel b_1 58 [(Value.map (some b_2))] :: FL) w) (hp : slices_AppendSeq_sl_string_string_wp s m_1 K)
  (hR : ∀ (rs : List (ByteArray)) (p_3 : Option Addr) (n_2 : Nat) (c_2 : Nat) (w : World), n_2 = rs.length → Mem (row enc9 9 1 p_3 c_2 rs :: cel b_1 58 [(Value.map (some b_2))] :: FL) w → K rs → R (Value.slice p_3 n_2 c_2) w) :
  CallV Try.prog 33 #[(Value.slice p_1 n_1 c_1), (Value.func (Fn.func 29) #[] #[(Value.pointer (some (Addr.mk b_1 0 none)))])] w R := by
  refine slices_AppendSeq_sl_string_string_call ?_
  unfold slices_AppendSeq_sl_string_string
  unfold slices_AppendSeq_sl_string_string_wp at hp
  subst hn_p_1
  have cpp_1 := rowCap h 0 rfl
  replace h := marksNil h
  refine newL (o := [(Value.slice p_1 s.length c_1)]) h ?_
  intro b_3 w h
  obtain ⟨Q, hq, hp⟩ := hp
  refine ⟨fun s2 m_2 w => ∃ (x_1 : List (ByteArray)), ∃ (p_3 : Option Addr), ∃ (n_2 : Nat), ∃ (c_2 : Nat), (Addr.mk b_3 0 none) = s2 ∧ n_2 = x_1.length ∧ Q x_1 ∧ Mem (cel b_3 30 [(Value.slice p_3 n_2 c_2)] :: row enc9 9 1 p_3 c_2 x_1 :: cel b_1 58 [(Value.map (some b_2))] :: marksP m_2 :: FL) w, ?_, ?_⟩
  · rintro s2 m_2 w ⟨x_1, p_3, n_2, c_2, rfl, rfl, hp, h⟩
    replace hp := hq x_1 hp
    unfold slices_AppendSeq_sl_string_string_j1
    have cpp_3 := rowCap h 1 rfl
    refine ⟨_, _, _, cellL h 0 0 rfl rfl rfl, ?_⟩
    replace h := h.pick [3]
    dsimp only [pickL, pickR, nthH, delH, dropH, List.cons_append, List.nil_append] at h
    refine finishMarks _ h ?_
    intro w h
    replace h := h.sel [1, 1] 1
    dsimp only [pickL, pickR, nthH, delH, dropH, List.cons_append, List.nil_append] at h
    exact hR x_1 p_3 x_1.length c_2 _ rfl h hp
  clear hq
  intro e_1 fn_e_1 he_e_1 hr_e_1
  refine newO h ?_
  intro d w h
  refine newO h ?_
  intro l_1 w h
  replace h := h.pick [1, 2]
  dsimp only [pickL, pickR, nthH, delH, dropH, List.cons_append, List.nil_append] at h
  replace h := marksPush h
  show rangeCallW _ (Value.func (Fn.func 29) _ _) _ _ _
  refine rangeCallFn (by kernel_rfl) ?_
  replace h := h.pick [1, 1, 1]
  dsimp only [pickL, pickR, nthH, delH, dropH, List.cons_append, List.nil_append] at h
  replace h : Mem ((fun (s_1 : Nat × List (ByteArray)) => exH fun (p_4 : Option Addr) => exH fun (c_3 : Nat) => HL [pt l_1 (loopS (slices_AppendSeq_sl_string_string_lo1 fn_e_1 e_1 d) s_1.1 (fun (n : Nat) => (none : Option Code))), cel b_3 30 [(Value.slice p_4 s_1.2.length c_3)], row enc9 9 1 p_4 c_3 s_1.2]) (0, s) :: marksP (d :: []) :: cel b_1 58 [(Value.map (some b_2))] :: FL) _ := Mem.exsI p_1 (Mem.exsI c_1 (h.pack 3 [pt l_1 (loopS (slices_AppendSeq_sl_string_string_lo1 fn_e_1 e_1 d) 0 (fun (n : Nat) => (none : Option Code))), cel b_3 30 [(Value.slice p_1 s.length c_1)], row enc9 9 1 p_1 c_1 s] rfl))
  replace h := h.pick [2, 0]
  dsimp only [pickL, pickR, nthH, delH, dropH, List.cons_append, List.nil_append] at h
  refine maps_Keys_map_string_int_string_int__c1_ok (FL := marksP (d :: []) :: FL) (A0 := (fun (s_1 : Nat × List (ByteArray)) => exH fun (p_4 : Option Addr) => exH fun (c_3 : Nat) => HL [pt l_1 (loopS (slices_AppendSeq_sl_string_string_lo1 fn_e_1 e_1 d) s_1.1 (fun (n : Nat) => (none : Option Code))), cel b_3 30 [(Value.slice p_4 s_1.2.length c_3)], row enc9 9 1 p_4 c_3 s_1.2])) (Y0 := (fun x_3 (s_1 : Nat × List (ByteArray)) K_1 => s_1.1 = 0 ∧ ((s_1.2.length + [x_3].length) * 16 ≤ 140737488355328 ∧ (K_1 true (0, (s_1.2 ++ [x_3])))))) (σ0 := Nat × List (ByteArray)) (s := (0, s)) ?_ (hM_m_1.mono (fun w h => (h.drop 1))) h hp ?_
  · intro x_3 s_1 K_1 FL2 w R hx h hp hR
    obtain ⟨p_4, h⟩ := Mem.exs h
    obtain ⟨c_3, h⟩ := Mem.exs h
    replace h := h.unpack
    dsimp only [pickL, pickR, nthH, delH, dropH, List.cons_append, List.nil_append] at h
    obtain ⟨hst, hp⟩ := hp
    refine slices_AppendSeq_sl_string_string_r1_yield (by have := objAt h 0 rfl; rw [hst] at this; exact this) he_e_1 hr_e_1 ?_
    unfold slices_AppendSeq_sl_string_string_r1
    have hMx_M_k1_0 := RoM.mono hM_m_1 (fun w h_ => (by first | exact hx w h_ | exact Mem.drop 1 (hx w h_) | exact Mem.drop 2 (hx w h_) | exact Mem.drop 3 (hx w h_) | exact Mem.drop 4 (hx w h_) | exact Mem.drop 5 (hx w h_) | exact Mem.drop 6 (hx w h_) | exact Mem.drop 7 (hx w h_) | exact Mem.drop 8 (hx w h_) | exact Mem.drop 9 (hx w h_) | exact Mem.drop 10 (hx w h_) | exact Mem.drop 11 (hx w h_) | exact Mem.drop 12 (hx w h_) | exact Mem.drop 13 (hx w h_)))
    have cpp_4 := rowCap h 2 rfl
    refine ⟨_, (by have := objAt h 0 rfl; rw [hst] at this; exact this : _ = some (Obj.loop (slices_AppendSeq_sl_string_string_lo1 fn_e_1 e_1 d))), rfl, ?_⟩
    replace h := h.putK 0 rfl (.loop { slices_AppendSeq_sl_string_string_lo1 fn_e_1 e_1 d with state := .busy })
    dsimp only [setH] at h
    refine ⟨_, _, _, cellL h 1 0 rfl rfl rfl, ?_⟩
    refine newL (o := [(Value.string x_3)]) h ?_
    intro b_4 w h
    have sr := (celRd h 0 encL9 rfl [x_3] rfl)
    obtain ⟨hb, hp⟩ := hp
    refine appendL slt30 und30 encL9 encO9 h 3 rfl rfl sr rfl hb ?_
    intro p_5 c_4 w h
    dsimp only [setH, setVs, setV] at h
    have cpp_5 := rowCap h 3 rfl
    refine ⟨_, _, _, rfl, ?_⟩
    refine storeL (ys := [(Value.slice p_5 (s_1.2 ++ [x_3]).length c_4)]) h 2 0 rfl rfl rfl sz30 rfl rfl ?_
    intro w h
    dsimp only [setH, setVs, setV] at h
    refine ⟨_, objAt h 1 rfl, ?_⟩
    replace h := h.putK 1 rfl (loopS (slices_AppendSeq_sl_string_string_lo1 fn_e_1 e_1 d) 0 (fun (n : Nat) => (none : Option Code)))
    dsimp only [setH] at h
    replace h := h.pick [1]
    dsimp only [pickL, pickR, nthH, delH, dropH, List.cons_append, List.nil_append] at h
    replace h := h.sel [0, 1, 1] 1
    dsimp only [pickL, pickR, nthH, delH, dropH, List.cons_append, List.nil_append] at h
    exact hR true (0, (s_1.2 ++ [x_3])) _ (Mem.exsI p_5 (Mem.exsI c_4 (h.pack 3 [pt l_1 (loopS (slices_AppendSeq_sl_string_string_lo1 fn_e_1 e_1 d) 0 (fun (n : Nat) => (none : Option Code))), cel b_3 30 [(Value.slice p_5 (s_1.2 ++ [x_3]).length c_4)], row enc9 9 1 p_5 c_4 (s_1.2 ++ [x_3])] rfl))) hp
  intro s_2 w h hp
  replace h := h.pick [1]
  dsimp only [pickL, pickR, nthH, delH, dropH, List.cons_append, List.nil_append] at h
  obtain ⟨p_6, h⟩ := Mem.exs h
  obtain ⟨c_5, h⟩ := Mem.exs h
  replace h := h.unpack
  dsimp only [pickL, pickR, nthH, delH, dropH, List.cons_append, List.nil_append] at h
  have cpp_6 := rowCap h 2 rfl
  refine ⟨_, objAt h 0 rfl, loopS_ns _, ?_⟩
  replace h := h.putK 0 rfl (.loop { slices_AppendSeq_sl_string_string_lo1 fn_e_1 e_1 d with state := .exhausted, pending := (fun (n : Nat) => (none : Option Code)) s_2.1 })
  dsimp only [setH] at h
  obtain ⟨hst, hp⟩ := hp
  refine ⟨congrArg (fun (n : Nat) => (none : Option Code)) hst, ?_⟩
  replace h := h.sel [1, 1, 1, 1] 1
  dsimp only [pickL, pickR, nthH, delH, dropH, List.cons_append, List.nil_append] at h
  exact ⟨s_2.2, p_6, s_2.2.length, c_5, rfl, rfl, hp, h⟩

/-! slices.Collect[string] (27) -/
def slices_Collect_string_wp (m_1 : List (ByteArray × Int)) (K : List (ByteArray) → Prop) : Prop :=
  slices_AppendSeq_sl_string_string_wp ([] : List (ByteArray)) m_1 (fun (rs : List (ByteArray)) => K rs)
theorem slices_Collect_string_ok {b_1 : Nat} {b_2 : Nat} {p_1 : List MapEntry × Nat} {m_1 : List (ByteArray × Int)} {FL : List HP} {w : World} {K : List (ByteArray) → Prop} {R : Value → World → Prop}
  (hM_m_1 : RoM FL b_2 va9 va3 p_1 m_1)
  (h : Mem (cel b_1 58 [(Value.map (some b_2))] :: FL) w) (hp : slices_Collect_string_wp m_1 K)
  (hR : ∀ (rs : List (ByteArray)) (p_2 : Option Addr) (n_1 : Nat) (c_1 : Nat) (w : World), n_1 = rs.length → Mem (row enc9 9 1 p_2 c_1 rs :: cel b_1 58 [(Value.map (some b_2))] :: FL) w → K rs → R (Value.slice p_2 n_1 c_1) w) :
  CallV Try.prog 27 #[(Value.func (Fn.func 29) #[] #[(Value.pointer (some (Addr.mk b_1 0 none)))])] w R := by
  refine slices_Collect_string_call ?_
  unfold slices_Collect_string
  unfold slices_Collect_string_wp at hp
  replace h := rowNil enc9 9 1 h
  refine slices_AppendSeq_sl_string_string_ok (FL := FL) rfl (hM_m_1.mono (fun w h => (h.drop 0))) h hp ?_
  rintro rs p_3 n_1 c_1 w rfl h hp
  have cpp_3 := rowCap h 0 rfl
  refine ⟨_, _, _, rfl, ?_⟩
  exact hR rs p_3 rs.length c_1 _ rfl h hp

/-! math/bits.Len32 (46) -/
def math_bits_Len32_wp (x_1 : Int) (K : Int → Prop) : Prop :=
  joinP2 (fun (x0 : Int) (n2 : Int) => joinP2 (fun (x0_1 : Int) (n2_1 : Int) => ∃ (b_1 : UInt8), 0 ≤ ((IntKind.wrap .u8 x0_1) : Int) ∧ (ByteArray.mk ((List.append (List.append [0, 1, 2, 2, 3, 3, 3, 3, 4, 4, 4, 4, 4, 4, 4, 4, 5, 5, 5, 5, 5, 5, 5, 5, 5, 5, 5, 5, 5, 5, 5, 5, 6, 6, 6, 6, 6, 6, 6, 6, 6, 6, 6, 6, 6, 6, 6, 6, 6, 6, 6, 6, 6, 6, 6, 6, 6, 6, 6, 6, 6, 6, 6, 6] [7, 7, 7, 7, 7, 7, 7, 7, 7, 7, 7, 7, 7, 7, 7, 7, 7, 7, 7, 7, 7, 7, 7, 7, 7, 7, 7, 7, 7, 7, 7, 7, 7, 7, 7, 7, 7, 7, 7, 7, 7, 7, 7, 7, 7, 7, 7, 7, 7, 7, 7, 7, 7, 7, 7, 7, 7, 7, 7, 7, 7, 7, 7, 7]) (List.append [8, 8, 8, 8, 8, 8, 8, 8, 8, 8, 8, 8, 8, 8, 8, 8, 8, 8, 8, 8, 8, 8, 8, 8, 8, 8, 8, 8, 8, 8, 8, 8, 8, 8, 8, 8, 8, 8, 8, 8, 8, 8, 8, 8, 8, 8, 8, 8, 8, 8, 8, 8, 8, 8, 8, 8, 8, 8, 8, 8, 8, 8, 8, 8] [8, 8, 8, 8, 8, 8, 8, 8, 8, 8, 8, 8, 8, 8, 8, 8, 8, 8, 8, 8, 8, 8, 8, 8, 8, 8, 8, 8, 8, 8, 8, 8, 8, 8, 8, 8, 8, 8, 8, 8, 8, 8, 8, 8, 8, 8, 8, 8, 8, 8, 8, 8, 8, 8, 8, 8, 8, 8, 8, 8, 8, 8, 8, 8]))).toArray)[Int.toNat (IntKind.wrap .u8 x0_1)]? = some b_1 ∧ (K (IntKind.wrap .i64 (n2_1 + (IntKind.wrap .i64 ((b_1.toNat : Nat) : Int)))))) (fun (Q_1 : Int → Int → Prop) => cond (decide ((x0 : Int) ≥ 256)) (Q_1 (Int.fdiv x0 (2 ^ (min (Int.toNat 8) (IntKind.bits .u32)))) (IntKind.wrap .i64 (n2 + 8))) (Q_1 x0 n2))) (fun (Q : Int → Int → Prop) => cond (decide ((x_1 : Int) ≥ 65536)) (Q (Int.fdiv x_1 (2 ^ (min (Int.toNat 16) (IntKind.bits .u32)))) 16) (Q x_1 0))
theorem math_bits_Len32_ok {x_1 : Int} {FL : List HP} {w : World} {K : Int → Prop} {R : Value → World → Prop}
  (h : Mem (FL) w) (hp : math_bits_Len32_wp x_1 K)
  (hR : ∀ (r : Int) (w : World), Mem (FL) w → K r → R (Value.int .i64 r) w) :
  CallV Try.prog 46 #[(Value.int .u32 x_1)] w R := by
  refine math_bits_Len32_call ?_
  unfold math_bits_Len32
  unfold math_bits_Len32_wp at hp
  obtain ⟨Q, hq, hp⟩ := hp
  refine ⟨fun x0 n2 w => Q x0 n2 ∧ Mem (FL) w, ?_, ?_⟩
  · rintro x0 n2 w ⟨hp, h⟩
    replace hp := hq x0 n2 hp
    unfold math_bits_Len32_j1
    obtain ⟨Q_1, hq, hp⟩ := hp
    refine ⟨fun x0_1 n2_1 w => Q_1 x0_1 n2_1 ∧ Mem (FL) w, ?_, ?_⟩
    · rintro x0_1 n2_1 w ⟨hp, h⟩
      replace hp := hq x0_1 n2_1 hp
      unfold math_bits_Len32_j2
      obtain ⟨b_1, hb_10, hb_11, hp⟩ := hp
      refine ⟨b_1, hb_10, hb_11, ?_⟩
      exact hR (IntKind.wrap .i64 (n2_1 + (IntKind.wrap .i64 ((b_1.toNat : Nat) : Int)))) _ h hp
    clear hq
    refine cond_both' hp (fun hp => ?_) (fun hp => ?_)
    · exact ⟨hp, h⟩
    refine ⟨by decide, ?_⟩
    exact ⟨hp, h⟩
  clear hq
  refine cond_both' hp (fun hp => ?_) (fun hp => ?_)
  · exact ⟨hp, h⟩
  refine ⟨by decide, ?_⟩
  exact ⟨hp, h⟩

/-! math/bits.Len64 (47) -/
def math_bits_Len64_wp (x_1 : Int) (K : Int → Prop) : Prop :=
  joinP2 (fun (x0 : Int) (n2 : Int) => joinP2 (fun (x0_1 : Int) (n2_1 : Int) => joinP2 (fun (x0_2 : Int) (n2_2 : Int) => ∃ (b_1 : UInt8), 0 ≤ ((IntKind.wrap .u8 x0_2) : Int) ∧ (ByteArray.mk ((List.append (List.append [0, 1, 2, 2, 3, 3, 3, 3, 4, 4, 4, 4, 4, 4, 4, 4, 5, 5, 5, 5, 5, 5, 5, 5, 5, 5, 5, 5, 5, 5, 5, 5, 6, 6, 6, 6, 6, 6, 6, 6, 6, 6, 6, 6, 6, 6, 6, 6, 6, 6, 6, 6, 6, 6, 6, 6, 6, 6, 6, 6, 6, 6, 6, 6] [7, 7, 7, 7, 7, 7, 7, 7, 7, 7, 7, 7, 7, 7, 7, 7, 7, 7, 7, 7, 7, 7, 7, 7, 7, 7, 7, 7, 7, 7, 7, 7, 7, 7, 7, 7, 7, 7, 7, 7, 7, 7, 7, 7, 7, 7, 7, 7, 7, 7, 7, 7, 7, 7, 7, 7, 7, 7, 7, 7, 7, 7, 7, 7]) (List.append [8, 8, 8, 8, 8, 8, 8, 8, 8, 8, 8, 8, 8, 8, 8, 8, 8, 8, 8, 8, 8, 8, 8, 8, 8, 8, 8, 8, 8, 8, 8, 8, 8, 8, 8, 8, 8, 8, 8, 8, 8, 8, 8, 8, 8, 8, 8, 8, 8, 8, 8, 8, 8, 8, 8, 8, 8, 8, 8, 8, 8, 8, 8, 8] [8, 8, 8, 8, 8, 8, 8, 8, 8, 8, 8, 8, 8, 8, 8, 8, 8, 8, 8, 8, 8, 8, 8, 8, 8, 8, 8, 8, 8, 8, 8, 8, 8, 8, 8, 8, 8, 8, 8, 8, 8, 8, 8, 8, 8, 8, 8, 8, 8, 8, 8, 8, 8, 8, 8, 8, 8, 8, 8, 8, 8, 8, 8, 8]))).toArray)[Int.toNat (IntKind.wrap .u8 x0_2)]? = some b_1 ∧ (K (IntKind.wrap .i64 (n2_2 + (IntKind.wrap .i64 ((b_1.toNat : Nat) : Int)))))) (fun (Q_2 : Int → Int → Prop) => cond (decide ((x0_1 : Int) ≥ 256)) (Q_2 (Int.fdiv x0_1 (2 ^ (min (Int.toNat 8) (IntKind.bits .u64)))) (IntKind.wrap .i64 (n2_1 + 8))) (Q_2 x0_1 n2_1))) (fun (Q_1 : Int → Int → Prop) => cond (decide ((x0 : Int) ≥ 65536)) (Q_1 (Int.fdiv x0 (2 ^ (min (Int.toNat 16) (IntKind.bits .u64)))) (IntKind.wrap .i64 (n2 + 16))) (Q_1 x0 n2))) (fun (Q : Int → Int → Prop) => cond (decide ((x_1 : Int) ≥ 4294967296)) (Q (Int.fdiv x_1 (2 ^ (min (Int.toNat 32) (IntKind.bits .u64)))) 32) (Q x_1 0))
theorem math_bits_Len64_ok {x_1 : Int} {FL : List HP} {w : World} {K : Int → Prop} {R : Value → World → Prop}
  (h : Mem (FL) w) (hp : math_bits_Len64_wp x_1 K)
  (hR : ∀ (r : Int) (w : World), Mem (FL) w → K r → R (Value.int .i64 r) w) :
  CallV Try.prog 47 #[(Value.int .u64 x_1)] w R := by
  refine math_bits_Len64_call ?_
  unfold math_bits_Len64
  unfold math_bits_Len64_wp at hp
  obtain ⟨Q, hq, hp⟩ := hp
  refine ⟨fun x0 n2 w => Q x0 n2 ∧ Mem (FL) w, ?_, ?_⟩
  · rintro x0 n2 w ⟨hp, h⟩
    replace hp := hq x0 n2 hp
    unfold math_bits_Len64_j1
    obtain ⟨Q_1, hq, hp⟩ := hp
    refine ⟨fun x0_1 n2_1 w => Q_1 x0_1 n2_1 ∧ Mem (FL) w, ?_, ?_⟩
    · rintro x0_1 n2_1 w ⟨hp, h⟩
      replace hp := hq x0_1 n2_1 hp
      unfold math_bits_Len64_j2
      obtain ⟨Q_2, hq, hp⟩ := hp
      refine ⟨fun x0_2 n2_2 w => Q_2 x0_2 n2_2 ∧ Mem (FL) w, ?_, ?_⟩
      · rintro x0_2 n2_2 w ⟨hp, h⟩
        replace hp := hq x0_2 n2_2 hp
        unfold math_bits_Len64_j3
        obtain ⟨b_1, hb_10, hb_11, hp⟩ := hp
        refine ⟨b_1, hb_10, hb_11, ?_⟩
        exact hR (IntKind.wrap .i64 (n2_2 + (IntKind.wrap .i64 ((b_1.toNat : Nat) : Int)))) _ h hp
      clear hq
      refine cond_both' hp (fun hp => ?_) (fun hp => ?_)
      · exact ⟨hp, h⟩
      refine ⟨by decide, ?_⟩
      exact ⟨hp, h⟩
    clear hq
    refine cond_both' hp (fun hp => ?_) (fun hp => ?_)
    · exact ⟨hp, h⟩
    refine ⟨by decide, ?_⟩
    exact ⟨hp, h⟩
  clear hq
  refine cond_both' hp (fun hp => ?_) (fun hp => ?_)
  · exact ⟨hp, h⟩
  refine ⟨by decide, ?_⟩
  exact ⟨hp, h⟩

/-! math/bits.Len (35) -/
def math_bits_Len_wp (x_1 : Int) (K : Int → Prop) : Prop :=
  math_bits_Len64_wp x_1 (fun (r : Int) => K r)
theorem math_bits_Len_ok {x_1 : Int} {FL : List HP} {w : World} {K : Int → Prop} {R : Value → World → Prop}
  (h : Mem (FL) w) (hp : math_bits_Len_wp x_1 K)
  (hR : ∀ (r : Int) (w : World), Mem (FL) w → K r → R (Value.int .i64 r) w) :
  CallV Try.prog 35 #[(Value.int .u64 x_1)] w R := by
  refine math_bits_Len_call ?_
  unfold math_bits_Len
  unfold math_bits_Len_wp at hp
  refine math_bits_Len64_ok h hp ?_
  intro r w h hp
  refine ⟨_, rfl, ?_⟩
  exact hR r _ h hp

/-! slices.insertionSortCmpFunc[string] (38) -/
def slices_insertionSortCmpFunc_string_wp {σ3 : Type} (data : List (ByteArray)) (a_1 : Int) (b_1 : Int) (s : σ3) (Y3 : (ByteArray) → (ByteArray) → σ3 → (Int → σ3 → Prop) → Prop) (K : List (ByteArray) → σ3 → Prop) : Prop :=
  ∃ (I : Nat → List (ByteArray) → Int → σ3 → Prop), (∃ (n_7 : Nat), I n_7 data (IntKind.wrap .i64 (a_1 + 1)) s) ∧ ∀ (n_2 : Nat) (data_1 : List (ByteArray)) (i8 : Int) (s_2 : σ3), I n_2 data_1 i8 s_2 → (cond (decide ((i8 : Int) < b_1)) (∃ (I_1 : Nat → List (ByteArray) → Int → σ3 → Prop), (∃ (n_6 : Nat), I_1 n_6 data_1 i8 s_2) ∧ ∀ (n_3 : Nat) (data_2 : List (ByteArray)) (j9 : Int) (s_3 : σ3), I_1 n_3 data_2 j9 s_3 → (joinP2 (fun (t34 : Bool) (s_4 : σ3) => cond t34 (0 ≤ ((IntKind.wrap .i64 (j9 - 1)) : Int) ∧ ((IntKind.wrap .i64 (j9 - 1)) : Int) < ((data.length : Nat) : Int) ∧ (∀ (x_3 : ByteArray), data_2[Int.toNat (IntKind.wrap .i64 (j9 - 1))]? = some x_3 → (0 ≤ (j9 : Int) ∧ (j9 : Int) < ((data.length : Nat) : Int) ∧ (∀ (x_4 : ByteArray), data_2[Int.toNat j9]? = some x_4 → (0 ≤ (j9 : Int) ∧ (j9 : Int) < ((data.length : Nat) : Int) ∧ (0 ≤ ((IntKind.wrap .i64 (j9 - 1)) : Int) ∧ ((IntKind.wrap .i64 (j9 - 1)) : Int) < ((data.length : Nat) : Int) ∧ (∃ (n_4 : Nat), n_4 < n_3 ∧ I_1 n_4 (List.set (List.set data_2 (Int.toNat j9) x_3) (Int.toNat (IntKind.wrap .i64 (j9 - 1))) x_4) (IntKind.wrap .i64 (j9 - 1)) s_4))))))) (∃ (n_5 : Nat), n_5 < n_2 ∧ I n_5 data_2 (IntKind.wrap .i64 (i8 + 1)) s_4)) (fun (Q : Bool → σ3 → Prop) => cond (decide ((j9 : Int) > a_1)) (0 ≤ (j9 : Int) ∧ (j9 : Int) < ((data.length : Nat) : Int) ∧ (∀ (x_1 : ByteArray), data_2[Int.toNat j9]? = some x_1 → (0 ≤ ((IntKind.wrap .i64 (j9 - 1)) : Int) ∧ ((IntKind.wrap .i64 (j9 - 1)) : Int) < ((data.length : Nat) : Int) ∧ (∀ (x_2 : ByteArray), data_2[Int.toNat (IntKind.wrap .i64 (j9 - 1))]? = some x_2 → (Y3 x_1 x_2 s_3 (fun (t32 : Int) (s_5 : σ3) => Q (decide ((t32 : Int) < 0)) s_5)))))) (Q false s_3)))) (K data_1 s_2))
theorem slices_insertionSortCmpFunc_string_ok {σ3 : Type} {A3 : σ3 → HP} {p_1 : Option Addr} {c_1 : Nat} {n_1 : Nat} {ff3 : Fn} {fa3 : Array Value} {fc3 : Array Value} {data : List (ByteArray)} {a_1 : Int} {b_1 : Int} {s : σ3} {Y3 : (ByteArray) → (ByteArray) → σ3 → (Int → σ3 → Prop) → Prop} {FL : List HP} {w : World} {K : List (ByteArray) → σ3 → Prop} {R : Value → World → Prop}
  (hY3 : ∀ (x0 : ByteArray) (x1 : ByteArray) (s : σ3) (K : Int → σ3 → Prop) (FL2 : List HP) (w : World) (R : Value → World → Prop), (∀ w, Mem FL2 w → Mem FL w) → Mem (A3 s :: FL2) w → Y3 x0 x1 s K → (∀ (r : Int) (s : σ3) (w : World), Mem (A3 s :: FL2) w → K r s → R (Value.int .i64 r) w) → CalleeV Try.prog (Value.func ff3 fa3 fc3) #[(Value.string x0), (Value.string x1)] w R) (hn_p_1 : n_1 = data.length)
  (h : Mem (row enc9 9 1 p_1 c_1 data :: A3 s :: FL) w) (hp : slices_insertionSortCmpFunc_string_wp data a_1 b_1 s Y3 K)
  (hR : ∀ (data_1 : List (ByteArray)) (s_1 : σ3) (w : World), data.length = data_1.length → Mem (row enc9 9 1 p_1 c_1 data_1 :: A3 s_1 :: FL) w → K data_1 s_1 → R undef w) :
  CallV Try.prog 38 #[(Value.slice p_1 n_1 c_1), (Value.int .i64 a_1), (Value.int .i64 b_1), (Value.func ff3 fa3 fc3)] w R := by
  refine slices_insertionSortCmpFunc_string_call ?_
  unfold slices_insertionSortCmpFunc_string
  unfold slices_insertionSortCmpFunc_string_wp at hp
  subst hn_p_1
  have cpp_1 := rowCap h 0 rfl
  obtain ⟨I, ⟨n_7, h0⟩, hq⟩ := hp
  replace h := h.sel [1, 0] 0
  dsimp only [pickL, pickR, nthH, delH, dropH, List.cons_append, List.nil_append] at h
  refine ⟨fun n_2 data0p data0l data0c a1 b2 cmp3 i8 w => ∃ (data_1 : List (ByteArray)), ∃ (s_2 : σ3), p_1 = data0p ∧ data.length = data0l ∧ c_1 = data0c ∧ a_1 = a1 ∧ b_1 = b2 ∧ (Value.func ff3 fa3 fc3) = cmp3 ∧ data.length = data_1.length ∧ I n_2 data_1 i8 s_2 ∧ Mem (A3 s_2 :: row enc9 9 1 p_1 c_1 data_1 :: FL) w, ⟨n_7, data, s, rfl, rfl, rfl, rfl, rfl, rfl, rfl, h0, h⟩, ?_⟩
  clear h0 h
  rintro n_2 data0p data0l data0c a1 b2 cmp3 i8 w ⟨data_1, s_2, rfl, rfl, rfl, rfl, rfl, rfl, hl_data_1, hp, h⟩
  replace hp := hq n_2 data_1 i8 s_2 hp
  clear hq
  unfold slices_insertionSortCmpFunc_string_l1
  refine cond_both' hp (fun hp => ?_) (fun hp => ?_)
  · replace h := h.sel [1, 0] 0
    dsimp only [pickL, pickR, nthH, delH, dropH, List.cons_append, List.nil_append] at h
    exact hR data_1 s_2 _ hl_data_1 h hp
  obtain ⟨I_1, ⟨n_6, h0⟩, hq⟩ := hp
  refine ⟨fun n_3 data0_1p data0_1l data0_1c a1_1 b2_1 cmp3_1 i8_1 j9 w => ∃ (data_2 : List (ByteArray)), ∃ (s_3 : σ3), p_1 = data0_1p ∧ data.length = data0_1l ∧ c_1 = data0_1c ∧ a_1 = a1_1 ∧ b_1 = b2_1 ∧ (Value.func ff3 fa3 fc3) = cmp3_1 ∧ i8 = i8_1 ∧ data.length = data_2.length ∧ I_1 n_3 data_2 j9 s_3 ∧ Mem (A3 s_3 :: row enc9 9 1 p_1 c_1 data_2 :: FL) w, ⟨n_6, data_1, s_2, rfl, rfl, rfl, rfl, rfl, rfl, rfl, hl_data_1, h0, h⟩, ?_⟩
  clear h0 h
  rintro n_3 data0_1p data0_1l data0_1c a1_1 b2_1 cmp3_1 i8_1 j9 w ⟨data_2, s_3, rfl, rfl, rfl, rfl, rfl, rfl, rfl, hl_data_2, hp, h⟩
  replace hp := hq n_3 data_2 j9 s_3 hp
  clear hq
  unfold slices_insertionSortCmpFunc_string_l2
  obtain ⟨Q, hq, hp⟩ := hp
  refine ⟨fun data0_2p data0_2l data0_2c a1_2 b2_2 cmp3_2 i8_2 j9_1 t34 w => ∃ (s_4 : σ3), p_1 = data0_2p ∧ data.length = data0_2l ∧ c_1 = data0_2c ∧ a_1 = a1_2 ∧ b_1 = b2_2 ∧ (Value.func ff3 fa3 fc3) = cmp3_2 ∧ i8 = i8_2 ∧ j9 = j9_1 ∧ Q t34 s_4 ∧ Mem (A3 s_4 :: row enc9 9 1 p_1 c_1 data_2 :: FL) w, ?_, ?_⟩
  · rintro data0_2p data0_2l data0_2c a1_2 b2_2 cmp3_2 i8_2 j9_1 t34 w ⟨s_4, rfl, rfl, rfl, rfl, rfl, rfl, rfl, rfl, hp, h⟩
    replace hp := hq t34 s_4 hp
    unfold slices_insertionSortCmpFunc_string_j3
    refine cond_both' hp (fun hp => ?_) (fun hp => ?_)
    · obtain ⟨n_5, hn, hp⟩ := hp
      exact ⟨n_5, hn, data_2, s_4, rfl, rfl, rfl, rfl, rfl, rfl, hl_data_2, hp, h⟩
    replace h := h.drew
    obtain ⟨ia_4, ja_4, hp⟩ := hp
    obtain ⟨a_4, ha_4⟩ := rdAddr (rowRd h 1 encL9 rfl) hl_data_2 ia_4 ja_4
    refine ⟨a_4, ha_4, ia_4, ja_4, ?_⟩
    obtain ⟨x_3, hx_3, hc⟩ := rdCell0 (rowRd h 1 encL9 rfl) ha_4 hl_data_2 ia_4 ja_4
    replace hp := hp x_3 hx_3
    refine ⟨_, hc _ rfl, ?_⟩
    obtain ⟨ia_5, ja_5, hp⟩ := hp
    obtain ⟨a_5, ha_5⟩ := rdAddr (rowRd h 1 encL9 rfl) hl_data_2 ia_5 ja_5
    refine ⟨a_5, ha_5, ia_5, ja_5, ?_⟩
    obtain ⟨x_4, hx_4, hc⟩ := rdCell0 (rowRd h 1 encL9 rfl) ha_5 hl_data_2 ia_5 ja_5
    replace hp := hp x_4 hx_4
    refine ⟨_, hc _ rfl, ?_⟩
    obtain ⟨ia_6, ja_6, hp⟩ := hp
    obtain ⟨a_6, ha_6⟩ := rdAddr (rowRd h 1 encL9 rfl) hl_data_2 ia_6 ja_6
    refine ⟨a_6, ha_6, ia_6, ja_6, ?_⟩
    refine rowSetW (ys := [(Value.string x_3)]) (x := x_3) h 1 encL9 rfl ha_6 hl_data_2 ia_6 ja_6 sz9 rfl rfl rfl ?_
    intro w h
    dsimp only [setH, setVs, setV] at h
    obtain ⟨ia_7, ja_7, hp⟩ := hp
    obtain ⟨a_7, ha_7⟩ := rdAddr (rowRd h 1 encL9 rfl) (lenSet hl_data_2) ia_7 ja_7
    refine ⟨a_7, ha_7, ia_7, ja_7, ?_⟩
    refine rowSetW (ys := [(Value.string x_4)]) (x := x_4) h 1 encL9 rfl ha_7 (lenSet hl_data_2) ia_7 ja_7 sz9 rfl rfl rfl ?_
    intro w h
    dsimp only [setH, setVs, setV] at h
    obtain ⟨n_4, hn, hp⟩ := hp
    exact ⟨n_4, hn, (List.set (List.set data_2 (Int.toNat j9) x_3) (Int.toNat (IntKind.wrap .i64 (j9 - 1))) x_4), s_4, rfl, rfl, rfl, rfl, rfl, rfl, rfl, (lenSet (lenSet hl_data_2)), hp, h⟩
  clear hq
  replace h := h.drew
  refine cond_both' hp (fun hp => ?_) (fun hp => ?_)
  · exact ⟨s_3, rfl, rfl, rfl, rfl, rfl, rfl, rfl, rfl, hp, h⟩
  obtain ⟨ia_2, ja_2, hp⟩ := hp
  obtain ⟨a_2, ha_2⟩ := rdAddr (rowRd h 1 encL9 rfl) hl_data_2 ia_2 ja_2
  refine ⟨a_2, ha_2, ia_2, ja_2, ?_⟩
  obtain ⟨x_1, hx_1, hc⟩ := rdCell0 (rowRd h 1 encL9 rfl) ha_2 hl_data_2 ia_2 ja_2
  replace hp := hp x_1 hx_1
  refine ⟨_, hc _ rfl, ?_⟩
  obtain ⟨ia_3, ja_3, hp⟩ := hp
  obtain ⟨a_3, ha_3⟩ := rdAddr (rowRd h 1 encL9 rfl) hl_data_2 ia_3 ja_3
  refine ⟨a_3, ha_3, ia_3, ja_3, ?_⟩
  obtain ⟨x_2, hx_2, hc⟩ := rdCell0 (rowRd h 1 encL9 rfl) ha_3 hl_data_2 ia_3 ja_3
  replace hp := hp x_2 hx_2
  refine ⟨_, hc _ rfl, ?_⟩
  refine hY3 x_1 x_2 _ _ (row enc9 9 1 p_1 c_1 data_2 :: FL) _ _ (fun _ h => Mem.drop 1 h) h hp ?_
  intro t32 s_5 w h hp
  refine ⟨_, rfl, ?_⟩
  exact ⟨s_5, rfl, rfl, rfl, rfl, rfl, rfl, rfl, rfl, hp, h⟩

end Go.Proofs.Ytdonkmbhlankiaa
