/- Each function over plain data (printed by a program of this claim's author). -/
import Derived.Test.YtjcebofaahbifaaD
import Derived.Test.YtjcebofaahbifaaEngZ
import Derived.Test.YtjcebofaahbifaaS22
namespace Go.Proofs.Ytjcebofaahbifaa
open Go Go.Eng Go.Proofs
set_option maxRecDepth 100000
set_option maxHeartbeats 2000000

def enc3 (x : Int) : List Value := [(Value.int .i64 x)]
theorem encL3 : ∀ x, (enc3 x).length = 1 := fun _ => rfl
theorem encO3 : ∀ x, ∀ v ∈ enc3 x, v.oneCell' = true := by intro x v hv; simp only [enc3, List.mem_cons, List.not_mem_nil, or_false] at hv; rcases hv with rfl <;> rfl
def enc4 (x : Bool) : List Value := [(Value.bool x)]
theorem encL4 : ∀ x, (enc4 x).length = 1 := fun _ => rfl
theorem encO4 : ∀ x, ∀ v ∈ enc4 x, v.oneCell' = true := by intro x v hv; simp only [enc4, List.mem_cons, List.not_mem_nil, or_false] at hv; rcases hv with rfl <;> rfl
def enc5 (x : Int) : List Value := [(Value.int .u8 x)]
theorem encL5 : ∀ x, (enc5 x).length = 1 := fun _ => rfl
theorem encO5 : ∀ x, ∀ v ∈ enc5 x, v.oneCell' = true := by intro x v hv; simp only [enc5, List.mem_cons, List.not_mem_nil, or_false] at hv; rcases hv with rfl <;> rfl
def enc34 (x : Int × Int) : List Value := [(Value.int .i64 x.1), (Value.int .i64 x.2)]
theorem encL34 : ∀ x, (enc34 x).length = 2 := fun _ => rfl
theorem encO34 : ∀ x, ∀ v ∈ enc34 x, v.oneCell' = true := by intro x v hv; simp only [enc34, List.mem_cons, List.not_mem_nil, or_false] at hv; rcases hv with rfl | rfl <;> rfl
def enc38 (x : Int × Int × Int × Int × Int × Int) : List Value := [(Value.int .i64 x.1), (Value.int .i64 x.2.1), (Value.int .i64 x.2.2.1), (Value.int .i64 x.2.2.2.1), (Value.int .i64 x.2.2.2.2.1), (Value.int .i64 x.2.2.2.2.2)]
theorem encL38 : ∀ x, (enc38 x).length = 6 := fun _ => rfl
theorem encO38 : ∀ x, ∀ v ∈ enc38 x, v.oneCell' = true := by intro x v hv; simp only [enc38, List.mem_cons, List.not_mem_nil, or_false] at hv; rcases hv with rfl | rfl | rfl | rfl | rfl | rfl <;> rfl
def enc46 (x : Int × Int × Int × Int × Int × Int) : List Value := [(Value.int .i64 x.1), (Value.int .i64 x.2.1), (Value.int .i64 x.2.2.1), (Value.int .i64 x.2.2.2.1), (Value.int .i64 x.2.2.2.2.1), (Value.int .i64 x.2.2.2.2.2)]
theorem encL46 : ∀ x, (enc46 x).length = 6 := fun _ => rfl
theorem encO46 : ∀ x, ∀ v ∈ enc46 x, v.oneCell' = true := by intro x v hv; simp only [enc46, List.mem_cons, List.not_mem_nil, or_false] at hv; rcases hv with rfl | rfl | rfl | rfl | rfl | rfl <;> rfl
theorem sz3 : sizeT Try.prog 3 = some 1 := by kernel_rfl
theorem sz4 : sizeT Try.prog 4 = some 1 := by kernel_rfl
theorem sz35 : sizeT Try.prog 35 = some 1 := by kernel_rfl
theorem sz38 : sizeT Try.prog 38 = some 6 := by kernel_rfl
theorem sz44 : sizeT Try.prog 44 = some 1 := by kernel_rfl
theorem sz46 : sizeT Try.prog 46 = some 6 := by kernel_rfl
theorem eqU34 : Try.prog.underlying 34 = some (.array 2 3) := by kernel_rfl
theorem eqV34 : Try.prog.underlying 3 = some (.int .i64) := by kernel_rfl
theorem eqW34 : sizeT Try.prog 3 = some 1 := by kernel_rfl
theorem eqG34 : Try.prog.eqGuardType Try.prog.depth 34 = false := by kernel_rfl
theorem zr38 : zeroOf Try.prog 38 = some (Value.agg #[(Value.int .i64 0), (Value.int .i64 0), (Value.int .i64 0), (Value.int .i64 0), (Value.int .i64 0), (Value.int .i64 0)]) := by kernel_rfl
theorem slt35 : SlT Try.prog 35 38 (Value.agg #[(Value.int .i64 0), (Value.int .i64 0), (Value.int .i64 0), (Value.int .i64 0), (Value.int .i64 0), (Value.int .i64 0)]) 6 48 := ⟨by kernel_rfl, by kernel_rfl, by kernel_rfl, by decide⟩
theorem undP28 : Try.prog.underlying 28 = some (.pointer (Try.prog.pointee 28)) := by kernel_rfl
theorem undB4 : Try.prog.underlying 4 = some .bool := by kernel_rfl
theorem und35 : Try.prog.underlying 35 = some (.slice 38) := by kernel_rfl

/-! embrasure/resv.within (14) -/
def resv_within_wp (n_1 : Int) (most : Int) (K : Bool → Prop) : Prop :=
  cond (decide ((n_1 : Int) ≥ 0)) (K (decide ((n_1 : Int) ≤ most))) (K false)
theorem resv_within_ok {n_1 : Int} {most : Int} {FL : List HP} {w : World} {K : Bool → Prop} {R : Value → World → Prop}
  (h : Mem (FL) w) (hp : resv_within_wp n_1 most K)
  (hR : ∀ (r : Bool) (w : World), Mem (FL) w → K r → R (Value.bool r) w) :
  CallV Try.prog 14 #[(Value.int .i64 n_1), (Value.int .i64 most)] w R := by
  refine resv_within_call ?_
  unfold resv_within
  unfold resv_within_wp at hp
  refine cond_both hp (fun hp => ?_) (fun hp => ?_)
  · exact hR (decide ((n_1 : Int) ≤ most)) _ h hp
  exact hR false _ h hp

/-! embrasure/resv.May (7) -/
def resv_May_wp (l_Reservations : Int) (l_PerHost : Int) (l_Circuits : Int) (l_Life : Int) (l_Duration : Int) (l_Data : Int) (K : Bool → Prop) : Prop :=
  joinP1 (fun (times3 : Bool) => resv_within_wp l_Reservations 100 (fun (r : Bool) => cond r (resv_within_wp l_PerHost 100 (fun (r_1 : Bool) => cond r_1 (resv_within_wp l_Circuits 100 (fun (r_2 : Bool) => cond r_2 (cond times3 (resv_within_wp l_Data 1073741824 (fun (r_3 : Bool) => K r_3)) (K false)) (K false))) (K false))) (K false))) (fun (Q : Bool → Prop) => cond (decide ((l_Life : Int) ≥ 1)) (cond (decide ((l_Life : Int) ≤ 1099511627776)) (cond (decide ((l_Duration : Int) ≥ 1)) (Q (decide ((l_Duration : Int) ≤ 1099511627776))) (Q false)) (Q false)) (Q false))
theorem resv_May_ok {l_Reservations : Int} {l_PerHost : Int} {l_Circuits : Int} {l_Life : Int} {l_Duration : Int} {l_Data : Int} {FL : List HP} {w : World} {K : Bool → Prop} {R : Value → World → Prop}
  (h : Mem (FL) w) (hp : resv_May_wp l_Reservations l_PerHost l_Circuits l_Life l_Duration l_Data K)
  (hR : ∀ (r : Bool) (w : World), Mem (FL) w → K r → R (Value.bool r) w) :
  CallV Try.prog 7 #[(Value.agg #[(Value.int .i64 l_Reservations), (Value.int .i64 l_PerHost), (Value.int .i64 l_Circuits), (Value.int .i64 l_Life), (Value.int .i64 l_Duration), (Value.int .i64 l_Data)])] w R := by
  refine resv_May_call ?_
  unfold resv_May
  unfold resv_May_wp at hp
  refine newL (o := [(Value.int .i64 l_Reservations), (Value.int .i64 l_PerHost), (Value.int .i64 l_Circuits), (Value.int .i64 l_Life), (Value.int .i64 l_Duration), (Value.int .i64 l_Data)]) h ?_
  intro b_1 w h
  obtain ⟨Q, hq, hp⟩ := hp
  refine ⟨fun l1 times3 w => (Addr.mk b_1 0 none) = l1 ∧ Q times3 ∧ Mem (cel b_1 23 [(Value.int .i64 l_Reservations), (Value.int .i64 l_PerHost), (Value.int .i64 l_Circuits), (Value.int .i64 l_Life), (Value.int .i64 l_Duration), (Value.int .i64 l_Data)] :: FL) w, ?_, ?_⟩
  · rintro l1 times3 w ⟨rfl, hp, h⟩
    replace hp := hq times3 hp
    unfold resv_May_j1
    refine ⟨_, cellL h 0 0 rfl rfl rfl, ?_⟩
    refine resv_within_ok h hp ?_
    intro r w h hp
    refine ⟨_, rfl, ?_⟩
    refine cond_both' hp (fun hp => ?_) (fun hp => ?_)
    · replace h := h.sel [] 1
      dsimp only [pickL, pickR, nthH, delH, dropH, List.cons_append, List.nil_append] at h
      exact hR false _ h hp
    refine ⟨_, cellL h 0 1 rfl rfl rfl, ?_⟩
    refine resv_within_ok h hp ?_
    intro r_1 w h hp
    refine ⟨_, rfl, ?_⟩
    refine cond_both' hp (fun hp => ?_) (fun hp => ?_)
    · replace h := h.sel [] 1
      dsimp only [pickL, pickR, nthH, delH, dropH, List.cons_append, List.nil_append] at h
      exact hR false _ h hp
    refine ⟨_, cellL h 0 2 rfl rfl rfl, ?_⟩
    refine resv_within_ok h hp ?_
    intro r_2 w h hp
    refine ⟨_, rfl, ?_⟩
    refine cond_both' hp (fun hp => ?_) (fun hp => ?_)
    · replace h := h.sel [] 1
      dsimp only [pickL, pickR, nthH, delH, dropH, List.cons_append, List.nil_append] at h
      exact hR false _ h hp
    refine cond_both' hp (fun hp => ?_) (fun hp => ?_)
    · replace h := h.sel [] 1
      dsimp only [pickL, pickR, nthH, delH, dropH, List.cons_append, List.nil_append] at h
      exact hR false _ h hp
    refine ⟨_, cellL h 0 5 rfl rfl rfl, ?_⟩
    refine resv_within_ok h hp ?_
    intro r_3 w h hp
    refine ⟨_, rfl, ?_⟩
    replace h := h.sel [] 1
    dsimp only [pickL, pickR, nthH, delH, dropH, List.cons_append, List.nil_append] at h
    exact hR r_3 _ h hp
  clear hq
  refine ⟨_, cellL h 0 3 rfl rfl rfl, ?_⟩
  refine cond_both' hp (fun hp => ?_) (fun hp => ?_)
  · exact ⟨rfl, hp, h⟩
  refine ⟨_, cellL h 0 3 rfl rfl rfl, ?_⟩
  refine cond_both' hp (fun hp => ?_) (fun hp => ?_)
  · exact ⟨rfl, hp, h⟩
  refine ⟨_, cellL h 0 4 rfl rfl rfl, ?_⟩
  refine cond_both' hp (fun hp => ?_) (fun hp => ?_)
  · exact ⟨rfl, hp, h⟩
  refine ⟨_, cellL h 0 4 rfl rfl rfl, ?_⟩
  exact ⟨rfl, hp, h⟩

/-! embrasure/circ.New (8) -/
def circ_New_wp (l_Reservations : Int) (l_PerHost : Int) (l_Circuits : Int) (l_Life : Int) (l_Duration : Int) (l_Data : Int) (K : Int → Prop) (KX1 : Int → Int → Int → Int → Int → Int → Int → List (Int × Int × Int × Int × Int × Int) → List (Int × Int × Int × Int × Int × Int) → Int → Int → Prop) : Prop :=
  resv_May_wp l_Reservations l_PerHost l_Circuits l_Life l_Duration l_Data (fun (r : Bool) => cond (!r) (K 1) (KX1 0 l_Reservations l_PerHost l_Circuits l_Life l_Duration l_Data ([] : List (Int × Int × Int × Int × Int × Int)) ([] : List (Int × Int × Int × Int × Int × Int)) 0 0))
theorem circ_New_ok {l_Reservations : Int} {l_PerHost : Int} {l_Circuits : Int} {l_Life : Int} {l_Duration : Int} {l_Data : Int} {FL : List HP} {w : World} {K : Int → Prop} {KX1 : Int → Int → Int → Int → Int → Int → Int → List (Int × Int × Int × Int × Int × Int) → List (Int × Int × Int × Int × Int × Int) → Int → Int → Prop} {R : Value → World → Prop}
  (h : Mem (FL) w) (hp : circ_New_wp l_Reservations l_PerHost l_Circuits l_Life l_Duration l_Data K KX1)
  (hR : ∀ (r : Int) (w : World), Mem (FL) w → K r → R (Value.tuple #[(Value.pointer none), (Value.int .i64 r)]) w)
  (hRX1 : ∀ (r : Int) (l_1 : Int) (l_2 : Int) (l_3 : Int) (l_4 : Int) (l_5 : Int) (l_6 : Int) (list : List (Int × Int × Int × Int × Int × Int)) (gone : List (Int × Int × Int × Int × Int × Int)) (last : Int) (now : Int) (b_1 : Nat) (p_1 : Option Addr) (n_1 : Nat) (c_1 : Nat) (p_2 : Option Addr) (n_2 : Nat) (c_2 : Nat) (w : World), n_1 = list.length → n_2 = gone.length → Mem (cel b_1 52 [(Value.int .i64 l_1), (Value.int .i64 l_2), (Value.int .i64 l_3), (Value.int .i64 l_4), (Value.int .i64 l_5), (Value.int .i64 l_6), (Value.slice p_1 n_1 c_1), (Value.slice p_2 n_2 c_2), (Value.int .i64 last), (Value.int .i64 now)] :: row enc38 38 6 p_1 c_1 list :: row enc38 38 6 p_2 c_2 gone :: FL) w → KX1 r l_1 l_2 l_3 l_4 l_5 l_6 list gone last now → R (Value.tuple #[(Value.pointer (some (Addr.mk b_1 0 none))), (Value.int .i64 r)]) w) :
  CallV Try.prog 8 #[(Value.agg #[(Value.int .i64 l_Reservations), (Value.int .i64 l_PerHost), (Value.int .i64 l_Circuits), (Value.int .i64 l_Life), (Value.int .i64 l_Duration), (Value.int .i64 l_Data)])] w R := by
  refine circ_New_call ?_
  unfold circ_New
  unfold circ_New_wp at hp
  refine newL (o := [(Value.int .i64 l_Reservations), (Value.int .i64 l_PerHost), (Value.int .i64 l_Circuits), (Value.int .i64 l_Life), (Value.int .i64 l_Duration), (Value.int .i64 l_Data)]) h ?_
  intro b_1 w h
  refine ⟨_, cellL h 0 0 rfl rfl rfl, _, cellL h 0 1 rfl rfl rfl, _, cellL h 0 2 rfl rfl rfl, _, cellL h 0 3 rfl rfl rfl, _, cellL h 0 4 rfl rfl rfl, _, cellL h 0 5 rfl rfl rfl, ?_⟩
  refine resv_May_ok h hp ?_
  intro r w h hp
  refine ⟨_, rfl, ?_⟩
  refine cond_both hp (fun hp => ?_) (fun hp => ?_)
  · replace h := h.sel [] 1
    dsimp only [pickL, pickR, nthH, delH, dropH, List.cons_append, List.nil_append] at h
    exact hR 1 _ h hp
  refine ⟨_, cellL h 0 0 rfl rfl rfl, _, cellL h 0 1 rfl rfl rfl, _, cellL h 0 2 rfl rfl rfl, _, cellL h 0 3 rfl rfl rfl, _, cellL h 0 4 rfl rfl rfl, _, cellL h 0 5 rfl rfl rfl, ?_⟩
  refine newL (o := [(Value.int .i64 l_Reservations), (Value.int .i64 l_PerHost), (Value.int .i64 l_Circuits), (Value.int .i64 l_Life), (Value.int .i64 l_Duration), (Value.int .i64 l_Data), (Value.slice none 0 0), (Value.slice none 0 0), (Value.int .i64 0), (Value.int .i64 0)]) h ?_
  intro b_2 w h
  replace h := rowNil enc38 38 6 h
  replace h := rowNil enc38 38 6 h
  replace h := h.sel [2, 1, 0] 1
  dsimp only [pickL, pickR, nthH, delH, dropH, List.cons_append, List.nil_append] at h
  exact hRX1 0 l_Reservations l_PerHost l_Circuits l_Life l_Duration l_Data ([] : List (Int × Int × Int × Int × Int × Int)) ([] : List (Int × Int × Int × Int × Int × Int)) 0 0 b_2 (none ) 0 0 (none  ) 0 0 _ rfl rfl h hp

/-! embrasure/circ.mayPeer (15) -/
def circ_mayPeer_wp (n_1 : Int) (K : Bool → Prop) : Prop :=
  cond (decide ((n_1 : Int) ≥ 1)) (K (decide ((n_1 : Int) ≤ 2147483647))) (K false)
theorem circ_mayPeer_ok {n_1 : Int} {FL : List HP} {w : World} {K : Bool → Prop} {R : Value → World → Prop}
  (h : Mem (FL) w) (hp : circ_mayPeer_wp n_1 K)
  (hR : ∀ (r : Bool) (w : World), Mem (FL) w → K r → R (Value.bool r) w) :
  CallV Try.prog 15 #[(Value.int .i64 n_1)] w R := by
  refine circ_mayPeer_call ?_
  unfold circ_mayPeer
  unfold circ_mayPeer_wp at hp
  refine cond_both hp (fun hp => ?_) (fun hp => ?_)
  · exact hR (decide ((n_1 : Int) ≤ 2147483647)) _ h hp
  exact hR false _ h hp

/-! (*embrasure/circ.Table).on$1 (26) -/
def circ_Table_on_c1_wp (c_No : Int) (c_A : Int) (c_B : Int) (c_Until : Int) (c_Bytes : Int) (c_Bytes_1 : Int) (l_1 : Int) (l_2 : Int) (l_3 : Int) (l_4 : Int) (l_5 : Int) (l_6 : Int) (gone : List (Int × Int × Int × Int × Int × Int)) (last : Int) (now : Int) (K : Bool → List (Int × Int × Int × Int × Int × Int) → Prop) : Prop :=
  cond (decide ((c_Until : Int) > now)) (K false gone) ((gone.length + [(c_No, c_A, c_B, c_Until, c_Bytes, c_Bytes_1)].length) * 48 ≤ 140737488355328 ∧ (K true (gone ++ [(c_No, c_A, c_B, c_Until, c_Bytes, c_Bytes_1)])))
theorem circ_Table_on_c1_ok {b_1 : Nat} {b_2 : Nat} {p_1 : Option Addr} {n_1 : Nat} {c_1 : Nat} {p_2 : Option Addr} {c_2 : Nat} {c_No : Int} {c_A : Int} {c_B : Int} {c_Until : Int} {c_Bytes : Int} {c_Bytes_1 : Int} {l_1 : Int} {l_2 : Int} {l_3 : Int} {l_4 : Int} {l_5 : Int} {l_6 : Int} {gone : List (Int × Int × Int × Int × Int × Int)} {last : Int} {now : Int} {FL : List HP} {w : World} {K : Bool → List (Int × Int × Int × Int × Int × Int) → Prop} {R : Value → World → Prop}
  (h : Mem (cel b_1 28 [(Value.pointer (some (Addr.mk b_2 0 none)))] :: cel b_2 52 [(Value.int .i64 l_1), (Value.int .i64 l_2), (Value.int .i64 l_3), (Value.int .i64 l_4), (Value.int .i64 l_5), (Value.int .i64 l_6), (Value.slice p_1 n_1 c_1), (Value.slice p_2 gone.length c_2), (Value.int .i64 last), (Value.int .i64 now)] :: row enc38 38 6 p_2 c_2 gone :: FL) w) (hp : circ_Table_on_c1_wp c_No c_A c_B c_Until c_Bytes c_Bytes_1 l_1 l_2 l_3 l_4 l_5 l_6 gone last now K)
  (hR : ∀ (r : Bool) (gone_1 : List (Int × Int × Int × Int × Int × Int)) (p_3 : Option Addr) (n_2 : Nat) (c_3 : Nat) (w : World), n_2 = gone_1.length → Mem (cel b_1 28 [(Value.pointer (some (Addr.mk b_2 0 none)))] :: cel b_2 52 [(Value.int .i64 l_1), (Value.int .i64 l_2), (Value.int .i64 l_3), (Value.int .i64 l_4), (Value.int .i64 l_5), (Value.int .i64 l_6), (Value.slice p_1 n_1 c_1), (Value.slice p_3 n_2 c_3), (Value.int .i64 last), (Value.int .i64 now)] :: row enc38 38 6 p_3 c_3 gone_1 :: FL) w → K r gone_1 → R (Value.bool r) w) :
  CallV Try.prog 26 #[(Value.agg #[(Value.int .i64 c_No), (Value.int .i64 c_A), (Value.int .i64 c_B), (Value.int .i64 c_Until), (Value.int .i64 c_Bytes), (Value.int .i64 c_Bytes_1)]), (Value.pointer (some (Addr.mk b_1 0 none)))] w R := by
  refine circ_Table_on_c1_call ?_
  unfold circ_Table_on_c1
  unfold circ_Table_on_c1_wp at hp
  have cpp_2 := rowCap h 2 rfl
  refine newL (o := [(Value.int .i64 c_No), (Value.int .i64 c_A), (Value.int .i64 c_B), (Value.int .i64 c_Until), (Value.int .i64 c_Bytes), (Value.int .i64 c_Bytes_1)]) h ?_
  intro b_3 w h
  replace h := h.drew
  refine ⟨_, cellL h 0 3 rfl rfl rfl, ?_⟩
  refine ⟨_, cellL h 1 0 rfl rfl rfl, ?_⟩
  refine ⟨_, rfl, ?_⟩
  refine ⟨_, cellL h 2 9 rfl rfl rfl, ?_⟩
  refine cond_both hp (fun hp => ?_) (fun hp => ?_)
  · replace h := h.sel [1, 1, 1] 1
    dsimp only [pickL, pickR, nthH, delH, dropH, List.cons_append, List.nil_append] at h
    exact hR false gone p_2 gone.length c_2 _ rfl h hp
  replace h := h.drew
  refine ⟨fun w => Mem (cel b_1 28 [(Value.pointer (some (Addr.mk b_2 0 none)))] :: cel b_2 52 [(Value.int .i64 l_1), (Value.int .i64 l_2), (Value.int .i64 l_3), (Value.int .i64 l_4), (Value.int .i64 l_5), (Value.int .i64 l_6), (Value.slice p_1 n_1 c_1), (Value.slice p_2 gone.length c_2), (Value.int .i64 last), (Value.int .i64 now)] :: FL) w, (h.sel [1, 1] 2), ?_⟩
  refine ⟨_, cellL h 1 0 rfl rfl rfl, ?_⟩
  refine ⟨?_, ?_⟩
  · intro w h
    change Mem _ _ at h
    refine ⟨_, cellL h 0 0 rfl rfl rfl, ?_⟩
    exact ⟨rfl, rfl⟩
  refine ⟨_, cellL h 1 0 rfl rfl rfl, ?_⟩
  refine ⟨?_, ?_⟩
  · intro w h
    change Mem _ _ at h
    refine ⟨_, cellL h 0 0 rfl rfl rfl, ?_⟩
    exact ⟨rfl, rfl⟩
  refine ⟨_, rfl, ?_⟩
  refine ⟨_, _, _, cellL h 2 7 rfl rfl rfl, ?_⟩
  refine ⟨?_, ?_⟩
  · intro w h
    change Mem _ _ at h
    refine ⟨_, _, _, cellL h 1 7 rfl rfl rfl, ?_⟩
    exact ⟨rfl, rfl⟩
  refine ⟨_, cellL h 0 0 rfl rfl rfl, _, cellL h 0 1 rfl rfl rfl, _, cellL h 0 2 rfl rfl rfl, _, cellL h 0 3 rfl rfl rfl, _, cellL h 0 4 rfl rfl rfl, _, cellL h 0 5 rfl rfl rfl, ?_⟩
  refine newL (o := [(Value.int .i64 c_No), (Value.int .i64 c_A), (Value.int .i64 c_B), (Value.int .i64 c_Until), (Value.int .i64 c_Bytes), (Value.int .i64 c_Bytes_1)]) h ?_
  intro b_4 w h
  refine ⟨(h.sel [2, 2] 3), ?_⟩
  have sr := (celRd h 0 encL38 rfl [(c_No, c_A, c_B, c_Until, c_Bytes, c_Bytes_1)] rfl)
  obtain ⟨hb, hp⟩ := hp
  refine appendL slt35 und35 encL38 encO38 h 4 rfl rfl sr rfl hb ?_
  intro p_4 c_4 w h
  dsimp only [setH, setVs, setV] at h
  have cpp_4 := rowCap h 4 rfl
  refine ⟨_, _, _, rfl, ?_⟩
  refine ⟨(h.sel [2, 2] 3), ?_⟩
  refine ⟨_, rfl, ?_⟩
  refine storeL (ys := [(Value.slice p_4 (gone ++ [(c_No, c_A, c_B, c_Until, c_Bytes, c_Bytes_1)]).length c_4)]) h 3 7 rfl rfl rfl sz35 rfl rfl ?_
  intro w h
  dsimp only [setH, setVs, setV] at h
  replace h := h.sel [2, 2, 2] 2
  dsimp only [pickL, pickR, nthH, delH, dropH, List.cons_append, List.nil_append] at h
  exact hR true (gone ++ [(c_No, c_A, c_B, c_Until, c_Bytes, c_Bytes_1)]) p_4 ((gone ++ [(c_No, c_A, c_B, c_Until, c_Bytes, c_Bytes_1)]).length) c_4 _ rfl h hp

/-! slices.IndexFunc[[]embrasure/api.Circuit,embrasure/api.Circuit] (27) -/
def slices_IndexFunc_sl_api_Circuit_api_Circuit_wp {σ1 : Type} (s : List (Int × Int × Int × Int × Int × Int)) (s_1 : σ1) (Y1 : (Int × Int × Int × Int × Int × Int) → σ1 → (Bool → σ1 → Prop) → Prop) (K : Int → σ1 → Prop) : Prop :=
  ∃ (I : Nat → Int → σ1 → Prop), (∃ (n_4 : Nat), I n_4 0 s_1) ∧ ∀ (n_2 : Nat) (t8 : Int) (s_3 : σ1), I n_2 t8 s_3 → (cond (decide ((t8 : Int) < ((s.length : Nat) : Int))) (0 ≤ (t8 : Int) ∧ (t8 : Int) < ((s.length : Nat) : Int) ∧ (∀ (x_1 : Int × Int × Int × Int × Int × Int), s[Int.toNat t8]? = some x_1 → (Y1 x_1 s_3 (fun (t16 : Bool) (s_4 : σ1) => cond t16 (K t8 s_4) (∃ (n_3 : Nat), n_3 < n_2 ∧ I n_3 (IntKind.wrap .i64 (t8 + 1)) s_4))))) (K (-1) s_3))
theorem slices_IndexFunc_sl_api_Circuit_api_Circuit_ok {σ1 : Type} {A1 : σ1 → HP} {p_1 : Option Addr} {n_1 : Nat} {c_1 : Nat} {ff1 : Fn} {fa1 : Array Value} {fc1 : Array Value} {s : List (Int × Int × Int × Int × Int × Int)} {s_1 : σ1} {Y1 : (Int × Int × Int × Int × Int × Int) → σ1 → (Bool → σ1 → Prop) → Prop} {FL : List HP} {w : World} {K : Int → σ1 → Prop} {R : Value → World → Prop}
  (hY1 : ∀ (x0 : Int × Int × Int × Int × Int × Int) (s : σ1) (K : Bool → σ1 → Prop) (FL2 : List HP) (w : World) (R : Value → World → Prop), (∀ w, Mem FL2 w → Mem FL w) → Mem (A1 s :: FL2) w → Y1 x0 s K → (∀ (r : Bool) (s : σ1) (w : World), Mem (A1 s :: FL2) w → K r s → R (Value.bool r) w) → CalleeV Try.prog (Value.func ff1 fa1 fc1) #[(Value.agg #[(Value.int .i64 x0.1), (Value.int .i64 x0.2.1), (Value.int .i64 x0.2.2.1), (Value.int .i64 x0.2.2.2.1), (Value.int .i64 x0.2.2.2.2.1), (Value.int .i64 x0.2.2.2.2.2)])] w R)
  (hF_s : ∀ w, Mem FL w → Rd w 6 p_1 enc38 s) (hl_s : n_1 = s.length) (hc_s : n_1 ≤ c_1)
  (h : Mem (A1 s_1 :: FL) w) (hp : slices_IndexFunc_sl_api_Circuit_api_Circuit_wp s s_1 Y1 K)
  (hR : ∀ (r : Int) (s_2 : σ1) (w : World), Mem (A1 s_2 :: FL) w → K r s_2 → R (Value.int .i64 r) w) :
  CallV Try.prog 27 #[(Value.slice p_1 n_1 c_1), (Value.func ff1 fa1 fc1)] w R := by
  refine slices_IndexFunc_sl_api_Circuit_api_Circuit_call ?_
  unfold slices_IndexFunc_sl_api_Circuit_api_Circuit
  unfold slices_IndexFunc_sl_api_Circuit_api_Circuit_wp at hp
  subst hl_s
  obtain ⟨I, ⟨n_4, h0⟩, hq⟩ := hp
  refine ⟨fun n_2 s0p s0l s0c f1 t7 t8 w => ∃ (s_3 : σ1), p_1 = s0p ∧ s.length = s0l ∧ c_1 = s0c ∧ (Value.func ff1 fa1 fc1) = f1 ∧ ((s.length : Nat) : Int) = t7 ∧ I n_2 t8 s_3 ∧ Mem (A1 s_3 :: FL) w, ⟨n_4, s_1, rfl, rfl, rfl, rfl, rfl, h0, h⟩, ?_⟩
  clear h0 h
  rintro n_2 s0p s0l s0c f1 t7 t8 w ⟨s_3, rfl, rfl, rfl, rfl, rfl, hp, h⟩
  replace hp := hq n_2 t8 s_3 hp
  clear hq
  unfold slices_IndexFunc_sl_api_Circuit_api_Circuit_l1
  refine cond_both' hp (fun hp => ?_) (fun hp => ?_)
  · exact hR (-1) s_3 _ h hp
  obtain ⟨ia_1, ja_1, hp⟩ := hp
  obtain ⟨a_1, ha_1⟩ := rdAddr (hF_s _ (h.drop 1)) rfl ia_1 ja_1
  refine ⟨a_1, ha_1, ia_1, ja_1, ?_⟩
  obtain ⟨x_1, hx_1, hc⟩ := rdCell (hF_s _ (h.drop 1)) ha_1 rfl ia_1 ja_1
  replace hp := hp x_1 hx_1
  refine ⟨_, hc 0 _ rfl, _, hc 1 _ rfl, _, hc 2 _ rfl, _, hc 3 _ rfl, _, hc 4 _ rfl, _, hc 5 _ rfl, ?_⟩
  refine hY1 x_1 _ _ (FL) _ _ (fun _ h => Mem.drop 0 h) h hp ?_
  intro t16 s_4 w h hp
  refine ⟨_, rfl, ?_⟩
  refine cond_both hp (fun hp => ?_) (fun hp => ?_)
  · exact hR t8 s_4 _ h hp
  obtain ⟨n_3, hn, hp⟩ := hp
  exact ⟨n_3, hn, s_4, rfl, rfl, rfl, rfl, rfl, hp, h⟩

/-! slices.DeleteFunc[[]embrasure/api.Circuit,embrasure/api.Circuit] (25) -/
def slices_DeleteFunc_sl_api_Circuit_api_Circuit_wp {σ1 : Type} (s : List (Int × Int × Int × Int × Int × Int)) (s_1 : σ1) (Y1 : (Int × Int × Int × Int × Int × Int) → σ1 → (Bool → σ1 → Prop) → Prop) (K : List (Int × Int × Int × Int × Int × Int) → σ1 → Prop) : Prop :=
  slices_IndexFunc_sl_api_Circuit_api_Circuit_wp s s_1 Y1 (fun (r : Int) (s_3 : σ1) => cond ((r : Int) == (-1)) (K s s_3) (joinP3 (fun (s_4 : List (Int × Int × Int × Int × Int × Int)) (i5 : Int) (s_5 : σ1) => 0 ≤ (i5 : Int) ∧ (i5 : Int) ≤ ((s.length : Nat) : Int) ∧ (0 ≤ (i5 : Int) ∧ (i5 : Int) ≤ ((s.length : Nat) : Int) ∧ (K ((((s_4.take (Int.toNat i5)) ++ List.replicate (s.length - (Int.toNat i5)) (0, 0, 0, 0, 0, 0) ++ (s_4.drop s.length)).take (Int.toNat i5)).drop 0) s_5))) (fun (Q : List (Int × Int × Int × Int × Int × Int) → Int → σ1 → Prop) => ∃ (I : Nat → List (Int × Int × Int × Int × Int × Int) → Int → Int → σ1 → Prop), (∃ (n_5 : Nat), I n_5 s r (IntKind.wrap .i64 (r + 1)) s_3) ∧ ∀ (n_2 : Nat) (s_6 : List (Int × Int × Int × Int × Int × Int)) (i5_1 : Int) (j6 : Int) (s_7 : σ1), I n_2 s_6 i5_1 j6 s_7 → (cond (decide ((j6 : Int) < ((s.length : Nat) : Int))) (0 ≤ (j6 : Int) ∧ (j6 : Int) < ((s.length : Nat) : Int) ∧ (∀ (x_1 : Int × Int × Int × Int × Int × Int), s_6[Int.toNat j6]? = some x_1 → (Y1 x_1 s_7 (fun (t28 : Bool) (s_8 : σ1) => cond (!t28) (0 ≤ (i5_1 : Int) ∧ (i5_1 : Int) < ((s.length : Nat) : Int) ∧ (∃ (n_3 : Nat), n_3 < n_2 ∧ I n_3 (List.set s_6 (Int.toNat i5_1) x_1) (IntKind.wrap .i64 (i5_1 + 1)) (IntKind.wrap .i64 (j6 + 1)) s_8)) (∃ (n_4 : Nat), n_4 < n_2 ∧ I n_4 s_6 i5_1 (IntKind.wrap .i64 (j6 + 1)) s_8))))) (Q s_6 i5_1 s_7)))))
theorem slices_DeleteFunc_sl_api_Circuit_api_Circuit_ok {σ1 : Type} {A1 : σ1 → HP} {p_1 : Option Addr} {c_1 : Nat} {n_1 : Nat} {ff1 : Fn} {fa1 : Array Value} {fc1 : Array Value} {s : List (Int × Int × Int × Int × Int × Int)} {s_1 : σ1} {Y1 : (Int × Int × Int × Int × Int × Int) → σ1 → (Bool → σ1 → Prop) → Prop} {FL : List HP} {w : World} {K : List (Int × Int × Int × Int × Int × Int) → σ1 → Prop} {R : Value → World → Prop}
  (hY1 : ∀ (x0 : Int × Int × Int × Int × Int × Int) (s : σ1) (K : Bool → σ1 → Prop) (FL2 : List HP) (w : World) (R : Value → World → Prop), (∀ w, Mem FL2 w → Mem FL w) → Mem (A1 s :: FL2) w → Y1 x0 s K → (∀ (r : Bool) (s : σ1) (w : World), Mem (A1 s :: FL2) w → K r s → R (Value.bool r) w) → CalleeV Try.prog (Value.func ff1 fa1 fc1) #[(Value.agg #[(Value.int .i64 x0.1), (Value.int .i64 x0.2.1), (Value.int .i64 x0.2.2.1), (Value.int .i64 x0.2.2.2.1), (Value.int .i64 x0.2.2.2.2.1), (Value.int .i64 x0.2.2.2.2.2)])] w R) (hn_p_1 : n_1 = s.length)
  (h : Mem (row enc38 38 6 p_1 c_1 s :: A1 s_1 :: FL) w) (hp : slices_DeleteFunc_sl_api_Circuit_api_Circuit_wp s s_1 Y1 K)
  (hR : ∀ (rs : List (Int × Int × Int × Int × Int × Int)) (s_2 : σ1) (p_2 : Option Addr) (n_2 : Nat) (c_2 : Nat) (w : World), n_2 = rs.length → Mem (row enc38 38 6 p_2 c_2 rs :: A1 s_2 :: FL) w → K rs s_2 → R (Value.slice p_2 n_2 c_2) w) :
  CallV Try.prog 25 #[(Value.slice p_1 n_1 c_1), (Value.func ff1 fa1 fc1)] w R := by
  refine slices_DeleteFunc_sl_api_Circuit_api_Circuit_call ?_
  unfold slices_DeleteFunc_sl_api_Circuit_api_Circuit
  unfold slices_DeleteFunc_sl_api_Circuit_api_Circuit_wp at hp
  subst hn_p_1
  have cpp_1 := rowCap h 0 rfl
  replace h := h.pick [1]
  dsimp only [pickL, pickR, nthH, delH, dropH, List.cons_append, List.nil_append] at h
  refine slices_IndexFunc_sl_api_Circuit_api_Circuit_ok (FL := row enc38 38 6 p_1 c_1 s :: FL) (A1 := A1) (Y1 := Y1) (σ1 := σ1) (s_1 := s_1) (fun _ _ _ FL2 w R hx => hY1 _ _ _ FL2 w R (fun w h => (Mem.drop 1 (hx w h)))) (fun w h => (rowRd h 0 encL38 rfl)) rfl cpp_1 h hp ?_
  intro r s_3 w h hp
  refine ⟨_, rfl, ?_⟩
  refine cond_both hp (fun hp => ?_) (fun hp => ?_)
  · replace h := h.sel [1, 0] 0
    dsimp only [pickL, pickR, nthH, delH, dropH, List.cons_append, List.nil_append] at h
    exact hR s s_3 p_1 s.length c_1 _ rfl h hp
  obtain ⟨Q, hq, hp⟩ := hp
  refine ⟨fun s0p s0l s0c i5 w => ∃ (s_4 : List (Int × Int × Int × Int × Int × Int)), ∃ (s_5 : σ1), p_1 = s0p ∧ s.length = s0l ∧ c_1 = s0c ∧ s.length = s_4.length ∧ Q s_4 i5 s_5 ∧ Mem (A1 s_5 :: row enc38 38 6 p_1 c_1 s_4 :: FL) w, ?_, ?_⟩
  · rintro s0p s0l s0c i5 w ⟨s_4, s_5, rfl, rfl, rfl, hl_s_4, hp, h⟩
    replace hp := hq s_4 i5 s_5 hp
    unfold slices_DeleteFunc_sl_api_Circuit_api_Circuit_j1
    obtain ⟨g_1la, g_1lb, hp⟩ := hp
    have vg_1_lh : (Int.toNat i5) ≤ s.length := (natLe g_1la g_1lb)
    have vg_1_hm : s.length ≤ c_1 := cpp_1
    have vg_1_mc : c_1 ≤ c_1 := (Nat.le_refl _)
    have vg_1_hl : s.length ≤ s_4.length := (Nat.le_of_eq hl_s_4)
    refine ⟨g_1la, g_1lb, ?_⟩
    refine clearL (x0 := (0, 0, 0, 0, 0, 0)) (lo := (Int.toNat i5)) (hi := s.length) (m := c_1) und35 zr38 h 1 encL38 rfl rfl rfl vg_1_lh vg_1_hm vg_1_hl rfl ?_
    intro w h
    dsimp only [setH, setVs, setV] at h
    refine ⟨rfl, ?_⟩
    obtain ⟨g_2ha, g_2hb, hp⟩ := hp
    have vg_2_lh : 0 ≤ (Int.toNat i5) := (Nat.zero_le _)
    have vg_2_hm : (Int.toNat i5) ≤ c_1 := (Nat.le_trans (natLe g_2ha g_2hb) cpp_1)
    have vg_2_mc : c_1 ≤ c_1 := (Nat.le_refl _)
    have vg_2_hl : (Int.toNat i5) ≤ ((s_4.take (Int.toNat i5)) ++ List.replicate (s.length - (Int.toNat i5)) (0, 0, 0, 0, 0, 0) ++ (s_4.drop s.length)).length := (leLen g_2ha g_2hb (lenClear hl_s_4 vg_1_lh vg_1_hl))
    refine ⟨g_2ha, (leCap g_2hb cpp_1), ?_⟩
    replace h := rowShrink h 1 encL38 rfl (l := 0) (hi := (Int.toNat i5)) (m := c_1) vg_2_lh vg_2_hm vg_2_mc vg_2_hl
    dsimp only [setH, setVs, setV] at h
    replace h := h.sel [1, 0] 0
    dsimp only [pickL, pickR, nthH, delH, dropH, List.cons_append, List.nil_append] at h
    exact hR ((((s_4.take (Int.toNat i5)) ++ List.replicate (s.length - (Int.toNat i5)) (0, 0, 0, 0, 0, 0) ++ (s_4.drop s.length)).take (Int.toNat i5)).drop 0) s_5 (slAddr p_1 6 0 c_1) ((Int.toNat i5) - 0) (c_1 - 0) _ (viewLen vg_2_hl) h hp
  clear hq
  obtain ⟨I, ⟨n_5, h0⟩, hq⟩ := hp
  refine ⟨fun n_2 s0_1p s0_1l s0_1c del1 i5_1 j6 w => ∃ (s_6 : List (Int × Int × Int × Int × Int × Int)), ∃ (s_7 : σ1), p_1 = s0_1p ∧ s.length = s0_1l ∧ c_1 = s0_1c ∧ (Value.func ff1 fa1 fc1) = del1 ∧ s.length = s_6.length ∧ I n_2 s_6 i5_1 j6 s_7 ∧ Mem (A1 s_7 :: row enc38 38 6 p_1 c_1 s_6 :: FL) w, ⟨n_5, s, s_3, rfl, rfl, rfl, rfl, rfl, h0, h⟩, ?_⟩
  clear h0 h
  rintro n_2 s0_1p s0_1l s0_1c del1 i5_1 j6 w ⟨s_6, s_7, rfl, rfl, rfl, rfl, hl_s_6, hp, h⟩
  replace hp := hq n_2 s_6 i5_1 j6 s_7 hp
  clear hq
  unfold slices_DeleteFunc_sl_api_Circuit_api_Circuit_l2
  refine cond_both' hp (fun hp => ?_) (fun hp => ?_)
  · exact ⟨s_6, s_7, rfl, rfl, rfl, hl_s_6, hp, h⟩
  obtain ⟨ia_1, ja_1, hp⟩ := hp
  obtain ⟨a_1, ha_1⟩ := rdAddr (rowRd h 1 encL38 rfl) hl_s_6 ia_1 ja_1
  refine ⟨a_1, ha_1, ia_1, ja_1, ?_⟩
  obtain ⟨x_1, hx_1, hc⟩ := rdCell (rowRd h 1 encL38 rfl) ha_1 hl_s_6 ia_1 ja_1
  replace hp := hp x_1 hx_1
  refine ⟨_, hc 0 _ rfl, _, hc 1 _ rfl, _, hc 2 _ rfl, _, hc 3 _ rfl, _, hc 4 _ rfl, _, hc 5 _ rfl, ?_⟩
  refine newL (o := [(Value.int .i64 0), (Value.int .i64 0), (Value.int .i64 0), (Value.int .i64 0), (Value.int .i64 0), (Value.int .i64 0)]) h ?_
  intro b_1 w h
  refine storeL (ys := [(Value.int .i64 x_1.1), (Value.int .i64 x_1.2.1), (Value.int .i64 x_1.2.2.1), (Value.int .i64 x_1.2.2.2.1), (Value.int .i64 x_1.2.2.2.2.1), (Value.int .i64 x_1.2.2.2.2.2)]) h 0 0 rfl rfl rfl sz38 rfl rfl ?_
  intro w h
  dsimp only [setH, setVs, setV] at h
  refine ⟨_, cellL h 0 0 rfl rfl rfl, _, cellL h 0 1 rfl rfl rfl, _, cellL h 0 2 rfl rfl rfl, _, cellL h 0 3 rfl rfl rfl, _, cellL h 0 4 rfl rfl rfl, _, cellL h 0 5 rfl rfl rfl, ?_⟩
  replace h := h.pick [1]
  dsimp only [pickL, pickR, nthH, delH, dropH, List.cons_append, List.nil_append] at h
  refine hY1 x_1 _ _ (cel b_1 38 [(Value.int .i64 x_1.1), (Value.int .i64 x_1.2.1), (Value.int .i64 x_1.2.2.1), (Value.int .i64 x_1.2.2.2.1), (Value.int .i64 x_1.2.2.2.2.1), (Value.int .i64 x_1.2.2.2.2.2)] :: row enc38 38 6 p_1 c_1 s_6 :: FL) _ _ (fun _ h => Mem.drop 2 h) h hp ?_
  intro t28 s_8 w h hp
  refine ⟨_, rfl, ?_⟩
  refine cond_both' hp (fun hp => ?_) (fun hp => ?_)
  · replace h := h.sel [0, 1] 1
    dsimp only [pickL, pickR, nthH, delH, dropH, List.cons_append, List.nil_append] at h
    obtain ⟨n_4, hn, hp⟩ := hp
    exact ⟨n_4, hn, s_6, s_8, rfl, rfl, rfl, rfl, hl_s_6, hp, h⟩
  refine ⟨_, cellL h 1 0 rfl rfl rfl, _, cellL h 1 1 rfl rfl rfl, _, cellL h 1 2 rfl rfl rfl, _, cellL h 1 3 rfl rfl rfl, _, cellL h 1 4 rfl rfl rfl, _, cellL h 1 5 rfl rfl rfl, ?_⟩
  obtain ⟨ia_2, ja_2, hp⟩ := hp
  obtain ⟨a_2, ha_2⟩ := rdAddr (rowRd h 2 encL38 rfl) hl_s_6 ia_2 ja_2
  refine ⟨a_2, ha_2, ia_2, ja_2, ?_⟩
  refine rowSetW (ys := [(Value.int .i64 x_1.1), (Value.int .i64 x_1.2.1), (Value.int .i64 x_1.2.2.1), (Value.int .i64 x_1.2.2.2.1), (Value.int .i64 x_1.2.2.2.2.1), (Value.int .i64 x_1.2.2.2.2.2)]) (x := x_1) h 2 encL38 rfl ha_2 hl_s_6 ia_2 ja_2 sz38 rfl rfl rfl ?_
  intro w h
  dsimp only [setH, setVs, setV] at h
  replace h := h.sel [0, 1] 1
  dsimp only [pickL, pickR, nthH, delH, dropH, List.cons_append, List.nil_append] at h
  obtain ⟨n_3, hn, hp⟩ := hp
  exact ⟨n_3, hn, (List.set s_6 (Int.toNat i5_1) x_1), s_8, rfl, rfl, rfl, rfl, (lenSet hl_s_6), hp, h⟩

/-! (*embrasure/circ.Table).on (16) -/
def circ_Table_on_wp (l_1 : Int) (l_2 : Int) (l_3 : Int) (l_4 : Int) (l_5 : Int) (l_6 : Int) (list : List (Int × Int × Int × Int × Int × Int)) (gone : List (Int × Int × Int × Int × Int × Int)) (last : Int) (now : Int) (now_1 : Int) (K : List (Int × Int × Int × Int × Int × Int) → List (Int × Int × Int × Int × Int × Int) → Int → Prop) : Prop :=
  slices_DeleteFunc_sl_api_Circuit_api_Circuit_wp list gone (fun x_1 s K_1 => circ_Table_on_c1_wp x_1.1 x_1.2.1 x_1.2.2.1 x_1.2.2.2.1 x_1.2.2.2.2.1 x_1.2.2.2.2.2 l_1 l_2 l_3 l_4 l_5 l_6 s last (if ((if (1099511627776 : Int) < now_1 then 1099511627776 else now_1) : Int) > now then (if (1099511627776 : Int) < now_1 then 1099511627776 else now_1) else now) (fun (r : Bool) (gone_2 : List (Int × Int × Int × Int × Int × Int)) => K_1 r gone_2)) (fun (rs : List (Int × Int × Int × Int × Int × Int)) (s_1 : (List (Int × Int × Int × Int × Int × Int))) => K rs s_1 (if ((if (1099511627776 : Int) < now_1 then 1099511627776 else now_1) : Int) > now then (if (1099511627776 : Int) < now_1 then 1099511627776 else now_1) else now))
theorem circ_Table_on_ok {b_1 : Nat} {p_1 : Option Addr} {c_1 : Nat} {p_2 : Option Addr} {c_2 : Nat} {l_1 : Int} {l_2 : Int} {l_3 : Int} {l_4 : Int} {l_5 : Int} {l_6 : Int} {list : List (Int × Int × Int × Int × Int × Int)} {gone : List (Int × Int × Int × Int × Int × Int)} {last : Int} {now : Int} {now_1 : Int} {FL : List HP} {w : World} {K : List (Int × Int × Int × Int × Int × Int) → List (Int × Int × Int × Int × Int × Int) → Int → Prop} {R : Value → World → Prop}
  (h : Mem (cel b_1 52 [(Value.int .i64 l_1), (Value.int .i64 l_2), (Value.int .i64 l_3), (Value.int .i64 l_4), (Value.int .i64 l_5), (Value.int .i64 l_6), (Value.slice p_1 list.length c_1), (Value.slice p_2 gone.length c_2), (Value.int .i64 last), (Value.int .i64 now)] :: row enc38 38 6 p_1 c_1 list :: row enc38 38 6 p_2 c_2 gone :: FL) w) (hp : circ_Table_on_wp l_1 l_2 l_3 l_4 l_5 l_6 list gone last now now_1 K)
  (hR : ∀ (list_1 : List (Int × Int × Int × Int × Int × Int)) (gone_1 : List (Int × Int × Int × Int × Int × Int)) (now_2 : Int) (p_3 : Option Addr) (n_1 : Nat) (c_3 : Nat) (p_4 : Option Addr) (n_2 : Nat) (c_4 : Nat) (w : World), n_1 = list_1.length → n_2 = gone_1.length → Mem (cel b_1 52 [(Value.int .i64 l_1), (Value.int .i64 l_2), (Value.int .i64 l_3), (Value.int .i64 l_4), (Value.int .i64 l_5), (Value.int .i64 l_6), (Value.slice p_3 n_1 c_3), (Value.slice p_4 n_2 c_4), (Value.int .i64 last), (Value.int .i64 now_2)] :: row enc38 38 6 p_3 c_3 list_1 :: row enc38 38 6 p_4 c_4 gone_1 :: FL) w → K list_1 gone_1 now_2 → R undef w) :
  CallV Try.prog 16 #[(Value.pointer (some (Addr.mk b_1 0 none))), (Value.int .i64 now_1)] w R := by
  refine circ_Table_on_call ?_
  unfold circ_Table_on
  unfold circ_Table_on_wp at hp
  have cpp_1 := rowCap h 1 rfl
  have cpp_2 := rowCap h 2 rfl
  refine newL (o := [(Value.pointer (some (Addr.mk b_1 0 none)))]) h ?_
  intro b_2 w h
  replace h := h.drew
  refine ⟨_, cellL h 0 0 rfl rfl rfl, ?_⟩
  refine ⟨_, cellL h 0 0 rfl rfl rfl, ?_⟩
  refine ⟨_, rfl, ?_⟩
  refine ⟨_, cellL h 1 9 rfl rfl rfl, ?_⟩
  refine ⟨_, rfl, ?_⟩
  refine storeL (ys := [(Value.int .i64 (if ((if (1099511627776 : Int) < now_1 then 1099511627776 else now_1) : Int) > now then (if (1099511627776 : Int) < now_1 then 1099511627776 else now_1) else now))]) h 1 9 rfl rfl rfl sz3 rfl rfl ?_
  intro w h
  dsimp only [setH, setVs, setV] at h
  replace h := h.drew
  refine ⟨fun w => Mem (cel b_2 28 [(Value.pointer (some (Addr.mk b_1 0 none)))] :: FL) w, (h.sel [0] 3), ?_⟩
  refine ⟨_, cellL h 0 0 rfl rfl rfl, ?_⟩
  refine ⟨?_, ?_⟩
  · intro w h
    change Mem _ _ at h
    refine ⟨_, cellL h 0 0 rfl rfl rfl, ?_⟩
    exact ⟨rfl, rfl⟩
  refine ⟨_, cellL h 0 0 rfl rfl rfl, ?_⟩
  refine ⟨_, rfl, ?_⟩
  refine ⟨_, _, _, cellL h 1 6 rfl rfl rfl, ?_⟩
  replace h := h.pick [0, 0, 1]
  dsimp only [pickL, pickR, nthH, delH, dropH, List.cons_append, List.nil_append] at h
  replace h : Mem ((fun (s : List (Int × Int × Int × Int × Int × Int)) => exH fun (p_5 : Option Addr) => exH fun (c_5 : Nat) => HL [cel b_2 28 [(Value.pointer (some (Addr.mk b_1 0 none)))], cel b_1 52 [(Value.int .i64 l_1), (Value.int .i64 l_2), (Value.int .i64 l_3), (Value.int .i64 l_4), (Value.int .i64 l_5), (Value.int .i64 l_6), (Value.slice p_1 list.length c_1), (Value.slice p_5 s.length c_5), (Value.int .i64 last), (Value.int .i64 (if ((if (1099511627776 : Int) < now_1 then 1099511627776 else now_1) : Int) > now then (if (1099511627776 : Int) < now_1 then 1099511627776 else now_1) else now))], row enc38 38 6 p_5 c_5 s]) gone :: row enc38 38 6 p_1 c_1 list :: FL) _ := Mem.exsI p_2 (Mem.exsI c_2 (h.pack 3 [cel b_2 28 [(Value.pointer (some (Addr.mk b_1 0 none)))], cel b_1 52 [(Value.int .i64 l_1), (Value.int .i64 l_2), (Value.int .i64 l_3), (Value.int .i64 l_4), (Value.int .i64 l_5), (Value.int .i64 l_6), (Value.slice p_1 list.length c_1), (Value.slice p_2 gone.length c_2), (Value.int .i64 last), (Value.int .i64 (if ((if (1099511627776 : Int) < now_1 then 1099511627776 else now_1) : Int) > now then (if (1099511627776 : Int) < now_1 then 1099511627776 else now_1) else now))], row enc38 38 6 p_2 c_2 gone] rfl))
  replace h := h.pick [1, 0]
  dsimp only [pickL, pickR, nthH, delH, dropH, List.cons_append, List.nil_append] at h
  refine slices_DeleteFunc_sl_api_Circuit_api_Circuit_ok (FL := FL) (A1 := (fun (s : List (Int × Int × Int × Int × Int × Int)) => exH fun (p_5 : Option Addr) => exH fun (c_5 : Nat) => HL [cel b_2 28 [(Value.pointer (some (Addr.mk b_1 0 none)))], cel b_1 52 [(Value.int .i64 l_1), (Value.int .i64 l_2), (Value.int .i64 l_3), (Value.int .i64 l_4), (Value.int .i64 l_5), (Value.int .i64 l_6), (Value.slice p_1 list.length c_1), (Value.slice p_5 s.length c_5), (Value.int .i64 last), (Value.int .i64 (if ((if (1099511627776 : Int) < now_1 then 1099511627776 else now_1) : Int) > now then (if (1099511627776 : Int) < now_1 then 1099511627776 else now_1) else now))], row enc38 38 6 p_5 c_5 s])) (Y1 := (fun x_1 s K_1 => circ_Table_on_c1_wp x_1.1 x_1.2.1 x_1.2.2.1 x_1.2.2.2.1 x_1.2.2.2.2.1 x_1.2.2.2.2.2 l_1 l_2 l_3 l_4 l_5 l_6 s last (if ((if (1099511627776 : Int) < now_1 then 1099511627776 else now_1) : Int) > now then (if (1099511627776 : Int) < now_1 then 1099511627776 else now_1) else now) (fun (r : Bool) (gone_2 : List (Int × Int × Int × Int × Int × Int)) => K_1 r gone_2))) (σ1 := List (Int × Int × Int × Int × Int × Int)) (s_1 := gone) ?_ rfl h hp ?_
  · intro x_1 s K FL2 w R hx h hp hR
    obtain ⟨p_5, h⟩ := Mem.exs h
    obtain ⟨c_5, h⟩ := Mem.exs h
    replace h := h.unpack
    dsimp only [pickL, pickR, nthH, delH, dropH, List.cons_append, List.nil_append] at h
    refine calleeFn (by kernel_rfl) ?_
    refine circ_Table_on_c1_ok h hp ?_
    rintro r gone_2 p_5' n_ c_5' w rfl h hp
    exact hR r gone_2 _ (Mem.exsI p_5' (Mem.exsI c_5' (h.pack 3 [cel b_2 28 [(Value.pointer (some (Addr.mk b_1 0 none)))], cel b_1 52 [(Value.int .i64 l_1), (Value.int .i64 l_2), (Value.int .i64 l_3), (Value.int .i64 l_4), (Value.int .i64 l_5), (Value.int .i64 l_6), (Value.slice p_1 list.length c_1), (Value.slice p_5' gone_2.length c_5'), (Value.int .i64 last), (Value.int .i64 (if ((if (1099511627776 : Int) < now_1 then 1099511627776 else now_1) : Int) > now then (if (1099511627776 : Int) < now_1 then 1099511627776 else now_1) else now))], row enc38 38 6 p_5' c_5' gone_2] rfl))) hp
  rintro rs s_1 p_6 n_3 c_6 w rfl h hp
  have cpp_6 := rowCap h 0 rfl
  replace h := h.pick [1]
  dsimp only [pickL, pickR, nthH, delH, dropH, List.cons_append, List.nil_append] at h
  obtain ⟨p_7, h⟩ := Mem.exs h
  obtain ⟨c_7, h⟩ := Mem.exs h
  replace h := h.unpack
  dsimp only [pickL, pickR, nthH, delH, dropH, List.cons_append, List.nil_append] at h
  refine ⟨_, _, _, rfl, ?_⟩
  refine ⟨(h.sel [0] 3), ?_⟩
  refine ⟨_, rfl, ?_⟩
  refine storeL (ys := [(Value.slice p_6 rs.length c_6)]) h 1 6 rfl rfl rfl sz35 rfl rfl ?_
  intro w h
  dsimp only [setH, setVs, setV] at h
  replace h := h.sel [1, 2, 1] 1
  dsimp only [pickL, pickR, nthH, delH, dropH, List.cons_append, List.nil_append] at h
  exact hR rs s_1 (if ((if (1099511627776 : Int) < now_1 then 1099511627776 else now_1) : Int) > now then (if (1099511627776 : Int) < now_1 then 1099511627776 else now_1) else now) p_6 rs.length c_6 p_7 s_1.length c_7 _ rfl rfl h hp

/-! (*embrasure/circ.Table).Open$1 (17) -/
def circ_Table_Open_c1_wp (c_No : Int) (c_A : Int) (c_B : Int) (c_Until : Int) (c_Bytes : Int) (c_Bytes_1 : Int) (t : Int) (t_1 : Int) (K : Bool → Prop) : Prop :=
  cond ((c_A : Int) == t) (cond ((c_B : Int) == t_1) (K true) (cond ((c_A : Int) == t_1) (K ((c_B : Int) == t)) (K false))) (cond ((c_A : Int) == t_1) (K ((c_B : Int) == t)) (K false))
theorem circ_Table_Open_c1_ok {b_1 : Nat} {b_2 : Nat} {c_No : Int} {c_A : Int} {c_B : Int} {c_Until : Int} {c_Bytes : Int} {c_Bytes_1 : Int} {t : Int} {t_1 : Int} {FL : List HP} {w : World} {K : Bool → Prop} {R : Value → World → Prop}
  (h : Mem (cel b_1 3 [(Value.int .i64 t)] :: cel b_2 3 [(Value.int .i64 t_1)] :: FL) w) (hp : circ_Table_Open_c1_wp c_No c_A c_B c_Until c_Bytes c_Bytes_1 t t_1 K)
  (hR : ∀ (r : Bool) (w : World), Mem (cel b_1 3 [(Value.int .i64 t)] :: cel b_2 3 [(Value.int .i64 t_1)] :: FL) w → K r → R (Value.bool r) w) :
  CallV Try.prog 17 #[(Value.agg #[(Value.int .i64 c_No), (Value.int .i64 c_A), (Value.int .i64 c_B), (Value.int .i64 c_Until), (Value.int .i64 c_Bytes), (Value.int .i64 c_Bytes_1)]), (Value.pointer (some (Addr.mk b_1 0 none))), (Value.pointer (some (Addr.mk b_2 0 none)))] w R := by
  refine circ_Table_Open_c1_call ?_
  unfold circ_Table_Open_c1
  unfold circ_Table_Open_c1_wp at hp
  refine newL (o := [(Value.int .i64 c_No), (Value.int .i64 c_A), (Value.int .i64 c_B), (Value.int .i64 c_Until), (Value.int .i64 c_Bytes), (Value.int .i64 c_Bytes_1)]) h ?_
  intro b_3 w h
  refine ⟨_, cellL h 0 1 rfl rfl rfl, ?_⟩
  refine ⟨_, cellL h 1 0 rfl rfl rfl, ?_⟩
  refine cond_both' hp (fun hp => ?_) (fun hp => ?_)
  · refine ⟨_, cellL h 0 1 rfl rfl rfl, ?_⟩
    refine ⟨_, cellL h 2 0 rfl rfl rfl, ?_⟩
    refine cond_both' hp (fun hp => ?_) (fun hp => ?_)
    · replace h := h.sel [1, 1] 1
      dsimp only [pickL, pickR, nthH, delH, dropH, List.cons_append, List.nil_append] at h
      exact hR false _ h hp
    refine ⟨_, cellL h 0 2 rfl rfl rfl, ?_⟩
    refine ⟨_, cellL h 1 0 rfl rfl rfl, ?_⟩
    replace h := h.sel [1, 1] 1
    dsimp only [pickL, pickR, nthH, delH, dropH, List.cons_append, List.nil_append] at h
    exact hR ((c_B : Int) == t) _ h hp
  refine ⟨_, cellL h 0 2 rfl rfl rfl, ?_⟩
  refine ⟨_, cellL h 2 0 rfl rfl rfl, ?_⟩
  refine cond_both hp (fun hp => ?_) (fun hp => ?_)
  · replace h := h.sel [1, 1] 1
    dsimp only [pickL, pickR, nthH, delH, dropH, List.cons_append, List.nil_append] at h
    exact hR true _ h hp
  refine ⟨_, cellL h 0 1 rfl rfl rfl, ?_⟩
  refine ⟨_, cellL h 2 0 rfl rfl rfl, ?_⟩
  refine cond_both' hp (fun hp => ?_) (fun hp => ?_)
  · replace h := h.sel [1, 1] 1
    dsimp only [pickL, pickR, nthH, delH, dropH, List.cons_append, List.nil_append] at h
    exact hR false _ h hp
  refine ⟨_, cellL h 0 2 rfl rfl rfl, ?_⟩
  refine ⟨_, cellL h 1 0 rfl rfl rfl, ?_⟩
  replace h := h.sel [1, 1] 1
  dsimp only [pickL, pickR, nthH, delH, dropH, List.cons_append, List.nil_append] at h
  exact hR ((c_B : Int) == t) _ h hp

/-! slices.ContainsFunc[[]embrasure/api.Circuit,embrasure/api.Circuit] (18) -/
def slices_ContainsFunc_sl_api_Circuit_api_Circuit_wp {σ1 : Type} (s : List (Int × Int × Int × Int × Int × Int)) (s_1 : σ1) (Y1 : (Int × Int × Int × Int × Int × Int) → σ1 → (Bool → σ1 → Prop) → Prop) (K : Bool → σ1 → Prop) : Prop :=
  slices_IndexFunc_sl_api_Circuit_api_Circuit_wp s s_1 Y1 (fun (r : Int) (s_3 : σ1) => K (decide ((r : Int) ≥ 0)) s_3)
theorem slices_ContainsFunc_sl_api_Circuit_api_Circuit_ok {σ1 : Type} {A1 : σ1 → HP} {p_1 : Option Addr} {n_1 : Nat} {c_1 : Nat} {ff1 : Fn} {fa1 : Array Value} {fc1 : Array Value} {s : List (Int × Int × Int × Int × Int × Int)} {s_1 : σ1} {Y1 : (Int × Int × Int × Int × Int × Int) → σ1 → (Bool → σ1 → Prop) → Prop} {FL : List HP} {w : World} {K : Bool → σ1 → Prop} {R : Value → World → Prop}
  (hY1 : ∀ (x0 : Int × Int × Int × Int × Int × Int) (s : σ1) (K : Bool → σ1 → Prop) (FL2 : List HP) (w : World) (R : Value → World → Prop), (∀ w, Mem FL2 w → Mem FL w) → Mem (A1 s :: FL2) w → Y1 x0 s K → (∀ (r : Bool) (s : σ1) (w : World), Mem (A1 s :: FL2) w → K r s → R (Value.bool r) w) → CalleeV Try.prog (Value.func ff1 fa1 fc1) #[(Value.agg #[(Value.int .i64 x0.1), (Value.int .i64 x0.2.1), (Value.int .i64 x0.2.2.1), (Value.int .i64 x0.2.2.2.1), (Value.int .i64 x0.2.2.2.2.1), (Value.int .i64 x0.2.2.2.2.2)])] w R)
  (hF_s : ∀ w, Mem FL w → Rd w 6 p_1 enc38 s) (hl_s : n_1 = s.length) (hc_s : n_1 ≤ c_1)
  (h : Mem (A1 s_1 :: FL) w) (hp : slices_ContainsFunc_sl_api_Circuit_api_Circuit_wp s s_1 Y1 K)
  (hR : ∀ (r : Bool) (s_2 : σ1) (w : World), Mem (A1 s_2 :: FL) w → K r s_2 → R (Value.bool r) w) :
  CallV Try.prog 18 #[(Value.slice p_1 n_1 c_1), (Value.func ff1 fa1 fc1)] w R := by
  refine slices_ContainsFunc_sl_api_Circuit_api_Circuit_call ?_
  unfold slices_ContainsFunc_sl_api_Circuit_api_Circuit
  unfold slices_ContainsFunc_sl_api_Circuit_api_Circuit_wp at hp
  subst hl_s
  refine slices_IndexFunc_sl_api_Circuit_api_Circuit_ok (FL := FL) (A1 := A1) (Y1 := Y1) (σ1 := σ1) (s_1 := s_1) (fun _ _ _ FL2 w R hx => hY1 _ _ _ FL2 w R (fun w h => (Mem.drop 0 (hx w h)))) (fun w h => (hF_s _ (h.drop 0))) rfl hc_s h hp ?_
  intro r s_3 w h hp
  refine ⟨_, rfl, ?_⟩
  exact hR (decide ((r : Int) ≥ 0)) s_3 _ h hp

/-! (*embrasure/circ.Table).Open (9) -/
def circ_Table_Open_wp (l_1 : Int) (l_2 : Int) (l_3 : Int) (l_4 : Int) (l_5 : Int) (l_6 : Int) (list : List (Int × Int × Int × Int × Int × Int)) (gone : List (Int × Int × Int × Int × Int × Int)) (last : Int) (now : Int) (now_1 : Int) (a_1 : Int) (b_2 : Int) (until_ : Int) (K : Int → Int → List (Int × Int × Int × Int × Int × Int) → List (Int × Int × Int × Int × Int × Int) → Int → Int → Prop) : Prop :=
  joinP1 (fun (t42 : Bool) => cond t42 (K 0 1 list gone last now) (circ_Table_on_wp l_1 l_2 l_3 l_4 l_5 l_6 list gone last now now_1 (fun (list_2 : List (Int × Int × Int × Int × Int × Int)) (gone_2 : List (Int × Int × Int × Int × Int × Int)) (now_3 : Int) => slices_ContainsFunc_sl_api_Circuit_api_Circuit_wp list_2 () (fun x_1 s K_1 => circ_Table_Open_c1_wp x_1.1 x_1.2.1 x_1.2.2.1 x_1.2.2.2.1 x_1.2.2.2.2.1 x_1.2.2.2.2.2 a_1 b_2 (fun (r : Bool) => K_1 r s)) (fun (r_2 : Bool) (s_1 : (Unit)) => cond r_2 (K 0 6 list_2 gone_2 last now_3) (cond (decide ((((list_2.length : Nat) : Int) : Int) ≥ l_3)) (K 0 10 list_2 gone_2 last now_3) ((list_2.length + [((IntKind.wrap .i64 (last + 1)), a_1, b_2, (if ((IntKind.wrap .i64 (now_1 + l_5)) : Int) < until_ then (IntKind.wrap .i64 (now_1 + l_5)) else until_), 0, 0)].length) * 48 ≤ 140737488355328 ∧ (K (IntKind.wrap .i64 (last + 1)) 0 (list_2 ++ [((IntKind.wrap .i64 (last + 1)), a_1, b_2, (if ((IntKind.wrap .i64 (now_1 + l_5)) : Int) < until_ then (IntKind.wrap .i64 (now_1 + l_5)) else until_), 0, 0)]) gone_2 (IntKind.wrap .i64 (last + 1)) now_3))))))) (fun (Q : Bool → Prop) => circ_mayPeer_wp a_1 (fun (r : Bool) => cond (!r) (Q true) (circ_mayPeer_wp b_2 (fun (r_1 : Bool) => cond (!r_1) (Q true) (cond ((a_1 : Int) == b_2) (Q true) (cond (decide ((until_ : Int) ≤ now_1)) (Q true) (cond (decide ((now_1 : Int) < now)) (Q true) (Q (decide ((now_1 : Int) > 1099511627776))))))))))
theorem circ_Table_Open_ok {b_1 : Nat} {p_1 : Option Addr} {c_1 : Nat} {p_2 : Option Addr} {c_2 : Nat} {l_1 : Int} {l_2 : Int} {l_3 : Int} {l_4 : Int} {l_5 : Int} {l_6 : Int} {list : List (Int × Int × Int × Int × Int × Int)} {gone : List (Int × Int × Int × Int × Int × Int)} {last : Int} {now : Int} {now_1 : Int} {a_1 : Int} {b_2 : Int} {until_ : Int} {FL : List HP} {w : World} {K : Int → Int → List (Int × Int × Int × Int × Int × Int) → List (Int × Int × Int × Int × Int × Int) → Int → Int → Prop} {R : Value → World → Prop}
  (h : Mem (cel b_1 52 [(Value.int .i64 l_1), (Value.int .i64 l_2), (Value.int .i64 l_3), (Value.int .i64 l_4), (Value.int .i64 l_5), (Value.int .i64 l_6), (Value.slice p_1 list.length c_1), (Value.slice p_2 gone.length c_2), (Value.int .i64 last), (Value.int .i64 now)] :: row enc38 38 6 p_1 c_1 list :: row enc38 38 6 p_2 c_2 gone :: FL) w) (hp : circ_Table_Open_wp l_1 l_2 l_3 l_4 l_5 l_6 list gone last now now_1 a_1 b_2 until_ K)
  (hR : ∀ (r : Int) (r_1 : Int) (list_1 : List (Int × Int × Int × Int × Int × Int)) (gone_1 : List (Int × Int × Int × Int × Int × Int)) (last_1 : Int) (now_2 : Int) (p_3 : Option Addr) (n_1 : Nat) (c_3 : Nat) (p_4 : Option Addr) (n_2 : Nat) (c_4 : Nat) (w : World), n_1 = list_1.length → n_2 = gone_1.length → Mem (cel b_1 52 [(Value.int .i64 l_1), (Value.int .i64 l_2), (Value.int .i64 l_3), (Value.int .i64 l_4), (Value.int .i64 l_5), (Value.int .i64 l_6), (Value.slice p_3 n_1 c_3), (Value.slice p_4 n_2 c_4), (Value.int .i64 last_1), (Value.int .i64 now_2)] :: row enc38 38 6 p_3 c_3 list_1 :: row enc38 38 6 p_4 c_4 gone_1 :: FL) w → K r r_1 list_1 gone_1 last_1 now_2 → R (Value.tuple #[(Value.int .i64 r), (Value.int .i64 r_1)]) w) :
  CallV Try.prog 9 #[(Value.pointer (some (Addr.mk b_1 0 none))), (Value.int .i64 now_1), (Value.int .i64 a_1), (Value.int .i64 b_2), (Value.int .i64 until_)] w R := by
  refine circ_Table_Open_call ?_
  unfold circ_Table_Open
  unfold circ_Table_Open_wp at hp
  have cpp_1 := rowCap h 1 rfl
  have cpp_2 := rowCap h 2 rfl
  refine newL (o := [(Value.int .i64 a_1)]) h ?_
  intro b_3 w h
  refine newL (o := [(Value.int .i64 b_2)]) h ?_
  intro b_4 w h
  obtain ⟨Q, hq, hp⟩ := hp
  refine ⟨fun t0 now1 until4 a7 b8 t42 w => (some (Addr.mk b_1 0 none)) = t0 ∧ now_1 = now1 ∧ until_ = until4 ∧ (Addr.mk b_3 0 none) = a7 ∧ (Addr.mk b_4 0 none) = b8 ∧ Q t42 ∧ Mem (cel b_4 3 [(Value.int .i64 b_2)] :: cel b_3 3 [(Value.int .i64 a_1)] :: cel b_1 52 [(Value.int .i64 l_1), (Value.int .i64 l_2), (Value.int .i64 l_3), (Value.int .i64 l_4), (Value.int .i64 l_5), (Value.int .i64 l_6), (Value.slice p_1 list.length c_1), (Value.slice p_2 gone.length c_2), (Value.int .i64 last), (Value.int .i64 now)] :: row enc38 38 6 p_1 c_1 list :: row enc38 38 6 p_2 c_2 gone :: FL) w, ?_, ?_⟩
  · rintro t0 now1 until4 a7 b8 t42 w ⟨rfl, rfl, rfl, rfl, rfl, hp, h⟩
    replace hp := hq t42 hp
    unfold circ_Table_Open_j1
    refine cond_both hp (fun hp => ?_) (fun hp => ?_)
    · replace h := h.sel [2, 2, 2] 2
      dsimp only [pickL, pickR, nthH, delH, dropH, List.cons_append, List.nil_append] at h
      exact hR 0 1 list gone last now p_1 list.length c_1 p_2 gone.length c_2 _ rfl rfl h hp
    replace h := h.pick [2, 2, 2]
    dsimp only [pickL, pickR, nthH, delH, dropH, List.cons_append, List.nil_append] at h
    refine circ_Table_on_ok h hp ?_
    rintro list_2 gone_2 now_3 p_5 n_3 c_5 p_6 n_4 c_6 w rfl rfl h hp
    have cpp_5 := rowCap h 1 rfl
    have cpp_6 := rowCap h 2 rfl
    refine ⟨rfl, ?_⟩
    refine ⟨_, rfl, ?_⟩
    refine ⟨_, _, _, cellL h 0 6 rfl rfl rfl, ?_⟩
    replace h := h.pick [4, 3]
    dsimp only [pickL, pickR, nthH, delH, dropH, List.cons_append, List.nil_append] at h
    replace h : Mem ((fun (_ : Unit) => HL [cel b_3 3 [(Value.int .i64 a_1)], cel b_4 3 [(Value.int .i64 b_2)]]) () :: cel b_1 52 [(Value.int .i64 l_1), (Value.int .i64 l_2), (Value.int .i64 l_3), (Value.int .i64 l_4), (Value.int .i64 l_5), (Value.int .i64 l_6), (Value.slice p_5 list_2.length c_5), (Value.slice p_6 gone_2.length c_6), (Value.int .i64 last), (Value.int .i64 now_3)] :: row enc38 38 6 p_5 c_5 list_2 :: row enc38 38 6 p_6 c_6 gone_2 :: FL) _ := h.pack 2 [cel b_3 3 [(Value.int .i64 a_1)], cel b_4 3 [(Value.int .i64 b_2)]] rfl
    refine slices_ContainsFunc_sl_api_Circuit_api_Circuit_ok (FL := cel b_1 52 [(Value.int .i64 l_1), (Value.int .i64 l_2), (Value.int .i64 l_3), (Value.int .i64 l_4), (Value.int .i64 l_5), (Value.int .i64 l_6), (Value.slice p_5 list_2.length c_5), (Value.slice p_6 gone_2.length c_6), (Value.int .i64 last), (Value.int .i64 now_3)] :: row enc38 38 6 p_5 c_5 list_2 :: row enc38 38 6 p_6 c_6 gone_2 :: FL) (A1 := (fun (_ : Unit) => HL [cel b_3 3 [(Value.int .i64 a_1)], cel b_4 3 [(Value.int .i64 b_2)]])) (Y1 := (fun x_1 s K_1 => circ_Table_Open_c1_wp x_1.1 x_1.2.1 x_1.2.2.1 x_1.2.2.2.1 x_1.2.2.2.2.1 x_1.2.2.2.2.2 a_1 b_2 (fun (r : Bool) => K_1 r s))) (σ1 := Unit) (s_1 := ()) ?_ (fun w h => (rowRd h 1 encL38 rfl)) rfl cpp_5 h hp ?_
    · intro x_1 s K FL2 w R hx h hp hR
      replace h := h.unpack
      dsimp only [pickL, pickR, nthH, delH, dropH, List.cons_append, List.nil_append] at h
      refine calleeFn (by kernel_rfl) ?_
      refine circ_Table_Open_c1_ok h hp ?_
      intro r w h hp
      exact hR r s _ (h.pack 2 [cel b_3 3 [(Value.int .i64 a_1)], cel b_4 3 [(Value.int .i64 b_2)]] rfl) hp
    intro r_2 s_1 w h hp
    replace h := h.unpack
    dsimp only [pickL, pickR, nthH, delH, dropH, List.cons_append, List.nil_append] at h
    refine ⟨_, rfl, ?_⟩
    refine cond_both hp (fun hp => ?_) (fun hp => ?_)
    · replace h := h.sel [2, 2, 2] 2
      dsimp only [pickL, pickR, nthH, delH, dropH, List.cons_append, List.nil_append] at h
      exact hR 0 6 list_2 gone_2 last now_3 p_5 list_2.length c_5 p_6 gone_2.length c_6 _ rfl rfl h hp
    replace h := h.drew
    refine ⟨_, rfl, ?_⟩
    refine ⟨_, _, _, cellL h 2 6 rfl rfl rfl, ?_⟩
    refine ⟨rfl, ?_⟩
    refine ⟨_, rfl, ?_⟩
    refine ⟨_, cellL h 2 2 rfl rfl rfl, ?_⟩
    refine cond_both hp (fun hp => ?_) (fun hp => ?_)
    · replace h := h.sel [2, 2, 2] 2
      dsimp only [pickL, pickR, nthH, delH, dropH, List.cons_append, List.nil_append] at h
      exact hR 0 10 list_2 gone_2 last now_3 p_5 list_2.length c_5 p_6 gone_2.length c_6 _ rfl rfl h hp
    refine ⟨_, rfl, ?_⟩
    refine ⟨_, cellL h 2 8 rfl rfl rfl, ?_⟩
    refine ⟨_, rfl, ?_⟩
    refine storeL (ys := [(Value.int .i64 (IntKind.wrap .i64 (last + 1)))]) h 2 8 rfl rfl rfl sz3 rfl rfl ?_
    intro w h
    dsimp only [setH, setVs, setV] at h
    replace h := h.drew
    refine ⟨fun w => Mem (cel b_1 52 [(Value.int .i64 l_1), (Value.int .i64 l_2), (Value.int .i64 l_3), (Value.int .i64 l_4), (Value.int .i64 l_5), (Value.int .i64 l_6), (Value.slice p_5 list_2.length c_5), (Value.slice p_6 gone_2.length c_6), (Value.int .i64 (IntKind.wrap .i64 (last + 1))), (Value.int .i64 now_3)] :: FL) w, (h.sel [2] 4), ?_⟩
    refine ⟨_, rfl, ?_⟩
    refine ⟨_, _, _, cellL h 2 6 rfl rfl rfl, ?_⟩
    refine ⟨?_, ?_⟩
    · intro w h
      change Mem _ _ at h
      refine ⟨_, _, _, cellL h 0 6 rfl rfl rfl, ?_⟩
      exact ⟨rfl, rfl⟩
    refine ⟨_, rfl, ?_⟩
    refine ⟨_, cellL h 2 8 rfl rfl rfl, ?_⟩
    refine ⟨_, cellL h 0 0 rfl rfl rfl, ?_⟩
    refine ⟨_, cellL h 1 0 rfl rfl rfl, ?_⟩
    refine ⟨_, rfl, ?_⟩
    refine ⟨_, cellL h 2 4 rfl rfl rfl, ?_⟩
    refine ⟨?_, ?_⟩
    · intro w h
      change Mem _ _ at h
      refine ⟨_, cellL h 0 4 rfl rfl rfl, ?_⟩
      exact ⟨rfl, rfl⟩
    refine newL (o := [(Value.int .i64 (IntKind.wrap .i64 (last + 1))), (Value.int .i64 a_1), (Value.int .i64 b_2), (Value.int .i64 (if ((IntKind.wrap .i64 (now_1 + l_5)) : Int) < until_ then (IntKind.wrap .i64 (now_1 + l_5)) else until_)), (Value.int .i64 0), (Value.int .i64 0)]) h ?_
    intro b_5 w h
    refine ⟨(h.sel [3] 5), ?_⟩
    have sr := (celRd h 0 encL38 rfl [((IntKind.wrap .i64 (last + 1)), a_1, b_2, (if ((IntKind.wrap .i64 (now_1 + l_5)) : Int) < until_ then (IntKind.wrap .i64 (now_1 + l_5)) else until_), 0, 0)] rfl)
    obtain ⟨hb, hp⟩ := hp
    refine appendL slt35 und35 encL38 encO38 h 4 rfl rfl sr rfl hb ?_
    intro p_7 c_7 w h
    dsimp only [setH, setVs, setV] at h
    have cpp_7 := rowCap h 4 rfl
    refine ⟨_, _, _, rfl, ?_⟩
    refine ⟨(h.sel [3] 5), ?_⟩
    refine ⟨_, rfl, ?_⟩
    refine storeL (ys := [(Value.slice p_7 (list_2 ++ [((IntKind.wrap .i64 (last + 1)), a_1, b_2, (if ((IntKind.wrap .i64 (now_1 + l_5)) : Int) < until_ then (IntKind.wrap .i64 (now_1 + l_5)) else until_), 0, 0)]).length c_7)]) h 3 6 rfl rfl rfl sz35 rfl rfl ?_
    intro w h
    dsimp only [setH, setVs, setV] at h
    refine ⟨_, rfl, ?_⟩
    refine ⟨_, cellL h 3 8 rfl rfl rfl, ?_⟩
    replace h := h.sel [3, 3, 3] 3
    dsimp only [pickL, pickR, nthH, delH, dropH, List.cons_append, List.nil_append] at h
    exact hR (IntKind.wrap .i64 (last + 1)) 0 (list_2 ++ [((IntKind.wrap .i64 (last + 1)), a_1, b_2, (if ((IntKind.wrap .i64 (now_1 + l_5)) : Int) < until_ then (IntKind.wrap .i64 (now_1 + l_5)) else until_), 0, 0)]) gone_2 (IntKind.wrap .i64 (last + 1)) now_3 p_7 ((list_2 ++ [((IntKind.wrap .i64 (last + 1)), a_1, b_2, (if ((IntKind.wrap .i64 (now_1 + l_5)) : Int) < until_ then (IntKind.wrap .i64 (now_1 + l_5)) else until_), 0, 0)]).length) c_7 p_6 gone_2.length c_6 _ rfl rfl h hp
  clear hq
  refine ⟨_, cellL h 1 0 rfl rfl rfl, ?_⟩
  refine circ_mayPeer_ok h hp ?_
  intro r w h hp
  refine ⟨_, rfl, ?_⟩
  refine cond_both hp (fun hp => ?_) (fun hp => ?_)
  · exact ⟨rfl, rfl, rfl, rfl, rfl, hp, h⟩
  refine ⟨_, cellL h 0 0 rfl rfl rfl, ?_⟩
  refine circ_mayPeer_ok h hp ?_
  intro r_1 w h hp
  refine ⟨_, rfl, ?_⟩
  refine cond_both hp (fun hp => ?_) (fun hp => ?_)
  · exact ⟨rfl, rfl, rfl, rfl, rfl, hp, h⟩
  refine ⟨_, cellL h 1 0 rfl rfl rfl, ?_⟩
  refine ⟨_, cellL h 0 0 rfl rfl rfl, ?_⟩
  refine cond_both hp (fun hp => ?_) (fun hp => ?_)
  · exact ⟨rfl, rfl, rfl, rfl, rfl, hp, h⟩
  refine cond_both hp (fun hp => ?_) (fun hp => ?_)
  · exact ⟨rfl, rfl, rfl, rfl, rfl, hp, h⟩
  refine ⟨_, rfl, ?_⟩
  refine ⟨_, cellL h 2 9 rfl rfl rfl, ?_⟩
  refine cond_both hp (fun hp => ?_) (fun hp => ?_)
  · exact ⟨rfl, rfl, rfl, rfl, rfl, hp, h⟩
  exact ⟨rfl, rfl, rfl, rfl, rfl, hp, h⟩

/-! (*embrasure/circ.Table).place$1 (28) -/
def circ_Table_place_c1_wp (c_No : Int) (c_A : Int) (c_B : Int) (c_Until : Int) (c_Bytes : Int) (c_Bytes_1 : Int) (t : Int) (K : Bool → Prop) : Prop :=
  K ((c_No : Int) == t)
theorem circ_Table_place_c1_ok {b_1 : Nat} {c_No : Int} {c_A : Int} {c_B : Int} {c_Until : Int} {c_Bytes : Int} {c_Bytes_1 : Int} {t : Int} {FL : List HP} {w : World} {K : Bool → Prop} {R : Value → World → Prop}
  (h : Mem (cel b_1 3 [(Value.int .i64 t)] :: FL) w) (hp : circ_Table_place_c1_wp c_No c_A c_B c_Until c_Bytes c_Bytes_1 t K)
  (hR : ∀ (r : Bool) (w : World), Mem (cel b_1 3 [(Value.int .i64 t)] :: FL) w → K r → R (Value.bool r) w) :
  CallV Try.prog 28 #[(Value.agg #[(Value.int .i64 c_No), (Value.int .i64 c_A), (Value.int .i64 c_B), (Value.int .i64 c_Until), (Value.int .i64 c_Bytes), (Value.int .i64 c_Bytes_1)]), (Value.pointer (some (Addr.mk b_1 0 none)))] w R := by
  refine circ_Table_place_c1_call ?_
  unfold circ_Table_place_c1
  unfold circ_Table_place_c1_wp at hp
  refine newL (o := [(Value.int .i64 c_No), (Value.int .i64 c_A), (Value.int .i64 c_B), (Value.int .i64 c_Until), (Value.int .i64 c_Bytes), (Value.int .i64 c_Bytes_1)]) h ?_
  intro b_2 w h
  refine ⟨_, cellL h 0 0 rfl rfl rfl, ?_⟩
  refine ⟨_, cellL h 1 0 rfl rfl rfl, ?_⟩
  replace h := h.sel [1] 1
  dsimp only [pickL, pickR, nthH, delH, dropH, List.cons_append, List.nil_append] at h
  exact hR ((c_No : Int) == t) _ h hp

/-! (*embrasure/circ.Table).place (19) -/
def circ_Table_place_wp (l_1 : Int) (l_2 : Int) (l_3 : Int) (l_4 : Int) (l_5 : Int) (l_6 : Int) (list : List (Int × Int × Int × Int × Int × Int)) (last : Int) (now : Int) (no : Int) (K : Int → Prop) : Prop :=
  slices_IndexFunc_sl_api_Circuit_api_Circuit_wp list () (fun x_1 s K_1 => circ_Table_place_c1_wp x_1.1 x_1.2.1 x_1.2.2.1 x_1.2.2.2.1 x_1.2.2.2.2.1 x_1.2.2.2.2.2 no (fun (r : Bool) => K_1 r s)) (fun (r : Int) (s_1 : (Unit)) => K r)
theorem circ_Table_place_ok {b_1 : Nat} {p_1 : Option Addr} {c_1 : Nat} {p_2 : Option Addr} {n_1 : Nat} {c_2 : Nat} {l_1 : Int} {l_2 : Int} {l_3 : Int} {l_4 : Int} {l_5 : Int} {l_6 : Int} {list : List (Int × Int × Int × Int × Int × Int)} {last : Int} {now : Int} {no : Int} {FL : List HP} {w : World} {K : Int → Prop} {R : Value → World → Prop}
  (h : Mem (cel b_1 52 [(Value.int .i64 l_1), (Value.int .i64 l_2), (Value.int .i64 l_3), (Value.int .i64 l_4), (Value.int .i64 l_5), (Value.int .i64 l_6), (Value.slice p_1 list.length c_1), (Value.slice p_2 n_1 c_2), (Value.int .i64 last), (Value.int .i64 now)] :: row enc38 38 6 p_1 c_1 list :: FL) w) (hp : circ_Table_place_wp l_1 l_2 l_3 l_4 l_5 l_6 list last now no K)
  (hR : ∀ (r : Int) (w : World), Mem (cel b_1 52 [(Value.int .i64 l_1), (Value.int .i64 l_2), (Value.int .i64 l_3), (Value.int .i64 l_4), (Value.int .i64 l_5), (Value.int .i64 l_6), (Value.slice p_1 list.length c_1), (Value.slice p_2 n_1 c_2), (Value.int .i64 last), (Value.int .i64 now)] :: row enc38 38 6 p_1 c_1 list :: FL) w → K r → R (Value.int .i64 r) w) :
  CallV Try.prog 19 #[(Value.pointer (some (Addr.mk b_1 0 none))), (Value.int .i64 no)] w R := by
  refine circ_Table_place_call ?_
  unfold circ_Table_place
  unfold circ_Table_place_wp at hp
  have cpp_1 := rowCap h 1 rfl
  refine newL (o := [(Value.int .i64 no)]) h ?_
  intro b_2 w h
  refine ⟨_, rfl, ?_⟩
  refine ⟨_, _, _, cellL h 1 6 rfl rfl rfl, ?_⟩
  replace h : Mem ((fun (_ : Unit) => HL [cel b_2 3 [(Value.int .i64 no)]]) () :: cel b_1 52 [(Value.int .i64 l_1), (Value.int .i64 l_2), (Value.int .i64 l_3), (Value.int .i64 l_4), (Value.int .i64 l_5), (Value.int .i64 l_6), (Value.slice p_1 list.length c_1), (Value.slice p_2 n_1 c_2), (Value.int .i64 last), (Value.int .i64 now)] :: row enc38 38 6 p_1 c_1 list :: FL) _ := h.pack 1 [cel b_2 3 [(Value.int .i64 no)]] rfl
  refine slices_IndexFunc_sl_api_Circuit_api_Circuit_ok (FL := cel b_1 52 [(Value.int .i64 l_1), (Value.int .i64 l_2), (Value.int .i64 l_3), (Value.int .i64 l_4), (Value.int .i64 l_5), (Value.int .i64 l_6), (Value.slice p_1 list.length c_1), (Value.slice p_2 n_1 c_2), (Value.int .i64 last), (Value.int .i64 now)] :: row enc38 38 6 p_1 c_1 list :: FL) (A1 := (fun (_ : Unit) => HL [cel b_2 3 [(Value.int .i64 no)]])) (Y1 := (fun x_1 s K_1 => circ_Table_place_c1_wp x_1.1 x_1.2.1 x_1.2.2.1 x_1.2.2.2.1 x_1.2.2.2.2.1 x_1.2.2.2.2.2 no (fun (r : Bool) => K_1 r s))) (σ1 := Unit) (s_1 := ()) ?_ (fun w h => (rowRd h 1 encL38 rfl)) rfl cpp_1 h hp ?_
  · intro x_1 s K FL2 w R hx h hp hR
    replace h := h.unpack
    dsimp only [pickL, pickR, nthH, delH, dropH, List.cons_append, List.nil_append] at h
    refine calleeFn (by kernel_rfl) ?_
    refine circ_Table_place_c1_ok h hp ?_
    intro r w h hp
    exact hR r s _ (h.pack 1 [cel b_2 3 [(Value.int .i64 no)]] rfl) hp
  intro r s_1 w h hp
  replace h := h.unpack
  dsimp only [pickL, pickR, nthH, delH, dropH, List.cons_append, List.nil_append] at h
  refine ⟨_, rfl, ?_⟩
  replace h := h.sel [1, 1] 1
  dsimp only [pickL, pickR, nthH, delH, dropH, List.cons_append, List.nil_append] at h
  exact hR r _ h hp

/-! slices.Delete[[]embrasure/api.Circuit,embrasure/api.Circuit] (20) -/
def slices_Delete_sl_api_Circuit_api_Circuit_wp (s : List (Int × Int × Int × Int × Int × Int)) (i : Int) (j : Int) (K : List (Int × Int × Int × Int × Int × Int) → Prop) : Prop :=
  0 ≤ (((s.length : Nat) : Int) : Int) ∧ (((s.length : Nat) : Int) : Int) ≤ ((s.length : Nat) : Int) ∧ 0 ≤ (j : Int) ∧ (j : Int) ≤ (((s.length : Nat) : Int) : Int) ∧ 0 ≤ (i : Int) ∧ (i : Int) ≤ (j : Int) ∧ (cond ((i : Int) == j) (K s) (0 ≤ (i : Int) ∧ (i : Int) ≤ ((s.length : Nat) : Int) ∧ (0 ≤ (j : Int) ∧ (j : Int) ≤ ((s.length : Nat) : Int) ∧ (K (((s.take (Int.toNat i)).drop 0) ++ ((s.take s.length).drop (Int.toNat j)))))))
theorem slices_Delete_sl_api_Circuit_api_Circuit_ok {p_1 : Option Addr} {c_1 : Nat} {n_1 : Nat} {s : List (Int × Int × Int × Int × Int × Int)} {i : Int} {j : Int} {FL : List HP} {w : World} {K : List (Int × Int × Int × Int × Int × Int) → Prop} {R : Value → World → Prop} (hn_p_1 : n_1 = s.length)
  (h : Mem (row enc38 38 6 p_1 c_1 s :: FL) w) (hp : slices_Delete_sl_api_Circuit_api_Circuit_wp s i j K)
  (hR : ∀ (rs : List (Int × Int × Int × Int × Int × Int)) (p_2 : Option Addr) (n_2 : Nat) (c_2 : Nat) (w : World), n_2 = rs.length → Mem (row enc38 38 6 p_2 c_2 rs :: FL) w → K rs → R (Value.slice p_2 n_2 c_2) w) :
  CallV Try.prog 20 #[(Value.slice p_1 n_1 c_1), (Value.int .i64 i), (Value.int .i64 j)] w R := by
  refine slices_Delete_sl_api_Circuit_api_Circuit_call ?_
  unfold slices_Delete_sl_api_Circuit_api_Circuit
  unfold slices_Delete_sl_api_Circuit_api_Circuit_wp at hp
  subst hn_p_1
  have cpp_1 := rowCap h 0 rfl
  obtain ⟨g_1ma, g_1mb, g_1ha, g_1hb, g_1la, g_1lb, hp⟩ := hp
  have vg_1_lh : (Int.toNat i) ≤ (Int.toNat j) := (natLe2 g_1la g_1ha g_1lb)
  have vg_1_hm : (Int.toNat j) ≤ (Int.toNat ((s.length : Nat) : Int)) := (natLe2 g_1ha g_1ma g_1hb)
  have vg_1_mc : (Int.toNat ((s.length : Nat) : Int)) ≤ c_1 := (Nat.le_trans (natLe g_1ma g_1mb) cpp_1)
  have vg_1_hl : (Int.toNat j) ≤ s.length := (leLen g_1ha (Int.le_trans g_1hb g_1mb) rfl)
  refine ⟨g_1ma, (leCap g_1mb cpp_1), g_1ha, (leNat g_1ma g_1hb), g_1la, (leNat g_1ha g_1lb), ?_⟩
  refine cond_both hp (fun hp => ?_) (fun hp => ?_)
  · exact hR s p_1 s.length c_1 _ rfl h hp
  replace h := h.drew
  obtain ⟨g_2ha, g_2hb, hp⟩ := hp
  have vg_2_lh : 0 ≤ (Int.toNat i) := (Nat.zero_le _)
  have vg_2_hm : (Int.toNat i) ≤ c_1 := (Nat.le_trans (natLe g_2ha g_2hb) cpp_1)
  have vg_2_mc : c_1 ≤ c_1 := (Nat.le_refl _)
  have vg_2_hl : (Int.toNat i) ≤ s.length := (leLen g_2ha g_2hb rfl)
  refine ⟨g_2ha, (leCap g_2hb cpp_1), ?_⟩
  obtain ⟨g_3la, g_3lb, hp⟩ := hp
  have vg_3_lh : (Int.toNat j) ≤ s.length := (natLe g_3la g_3lb)
  have vg_3_hm : s.length ≤ c_1 := cpp_1
  have vg_3_mc : c_1 ≤ c_1 := (Nat.le_refl _)
  have vg_3_hl : s.length ≤ s.length := (Nat.le_of_eq rfl)
  refine ⟨g_3la, g_3lb, ?_⟩
  have sr := (Rd.view (rowRd h 0 encL38 rfl) (l := (Int.toNat j)) (h := s.length) (m := c_1) vg_3_hm)
  replace h := rowShrink h 0 encL38 rfl (l := 0) (hi := (Int.toNat i)) (m := c_1) vg_2_lh vg_2_hm vg_2_mc vg_2_hl
  dsimp only [setH, setVs, setV] at h
  refine appendRoomL slt35 und35 encL38 encO38 h 0 rfl (viewLen vg_2_hl) sr (viewLen vg_3_hl) (by simp only [List.length_drop, List.length_take]; omega) ?_
  intro w h
  dsimp only [setH, setVs, setV] at h
  refine ⟨_, _, _, rfl, ?_⟩
  have hXg_4 : (((s.take (Int.toNat i)).drop 0) ++ ((s.take s.length).drop (Int.toNat j))).length ≤ (Int.toNat ((s.length : Nat) : Int)) := by simp only [List.length_append, List.length_drop, List.length_take]; omega
  refine ⟨by omega, by omega, by omega, by omega, ?_⟩
  refine clearBeyondL (x0 := (0, 0, 0, 0, 0, 0)) (lo := (Int.toNat (((((s.take (Int.toNat i)).drop 0) ++ ((s.take s.length).drop (Int.toNat j))).length : Nat) : Int))) (hi := (Int.toNat ((s.length : Nat) : Int))) (m := (c_1 - 0)) und35 zr38 h 0 encL38 rfl rfl rfl (Nat.le_of_eq (Int.toNat_natCast _).symm) (by omega) (Nat.le_refl _) rfl ?_
  intro w h
  refine ⟨rfl, ?_⟩
  exact hR (((s.take (Int.toNat i)).drop 0) ++ ((s.take s.length).drop (Int.toNat j))) (slAddr p_1 6 0 c_1) ((((s.take (Int.toNat i)).drop 0) ++ ((s.take s.length).drop (Int.toNat j))).length) (c_1 - 0) _ rfl h hp

/-! (*embrasure/circ.Table).Forward (10) -/
def circ_Table_Forward_wp (l_1 : Int) (l_2 : Int) (l_3 : Int) (l_4 : Int) (l_5 : Int) (l_6 : Int) (list : List (Int × Int × Int × Int × Int × Int)) (gone : List (Int × Int × Int × Int × Int × Int)) (last : Int) (now : Int) (now_1 : Int) (no : Int) (from_ : Int) (size : Int) (K : Int → Int → List (Int × Int × Int × Int × Int × Int) → List (Int × Int × Int × Int × Int × Int) → Int → Prop) : Prop :=
  circ_Table_on_wp l_1 l_2 l_3 l_4 l_5 l_6 list gone last now now_1 (fun (list_2 : List (Int × Int × Int × Int × Int × Int)) (gone_2 : List (Int × Int × Int × Int × Int × Int)) (now_3 : Int) => circ_Table_place_wp l_1 l_2 l_3 l_4 l_5 l_6 list_2 last now_3 no (fun (r : Int) => joinP0 (0 ≤ (r : Int) ∧ (r : Int) < ((list_2.length : Nat) : Int) ∧ (∀ (x_3 : Int × Int × Int × Int × Int × Int), list_2[Int.toNat r]? = some x_3 → (joinP2 (fun (way14 : Int) (to15 : Int) => cond (decide ((size : Int) < 0)) (K 0 1 list_2 gone_2 now_3) (0 ≤ (way14 : Int) ∧ (way14 : Int) < ((2 : Nat) : Int) ∧ (((way14 : Int) = 0 → (∀ (x_6 : Int × Int × Int × Int × Int × Int), list_2[Int.toNat r]? = some x_6 → (cond (decide ((size : Int) > (IntKind.wrap .i64 (l_6 - x_6.2.2.2.2.1)))) (slices_Delete_sl_api_Circuit_api_Circuit_wp list_2 r (IntKind.wrap .i64 (r + 1)) (fun (rs : List (Int × Int × Int × Int × Int × Int)) => K 0 4 rs gone_2 now_3)) (0 ≤ (way14 : Int) ∧ (way14 : Int) < ((2 : Nat) : Int) ∧ (∀ (x_7 : Int × Int × Int × Int × Int × Int), list_2[Int.toNat r]? = some x_7 → (0 ≤ (way14 : Int) ∧ (way14 : Int) < ((2 : Nat) : Int) ∧ (∀ (x_8 : Int × Int × Int × Int × Int × Int), list_2[Int.toNat r]? = some x_8 → (K to15 0 (List.set list_2 (Int.toNat r) (x_8.1, x_8.2.1, x_8.2.2.1, x_8.2.2.2.1, (IntKind.wrap .i64 (x_7.2.2.2.2.1 + size)), x_8.2.2.2.2.2)) gone_2 now_3)))))))) ∧ ((way14 : Int) = 1 → (∀ (x_9 : Int × Int × Int × Int × Int × Int), list_2[Int.toNat r]? = some x_9 → (cond (decide ((size : Int) > (IntKind.wrap .i64 (l_6 - x_9.2.2.2.2.2)))) (slices_Delete_sl_api_Circuit_api_Circuit_wp list_2 r (IntKind.wrap .i64 (r + 1)) (fun (rs_1 : List (Int × Int × Int × Int × Int × Int)) => K 0 4 rs_1 gone_2 now_3)) (0 ≤ (way14 : Int) ∧ (way14 : Int) < ((2 : Nat) : Int) ∧ (∀ (x_10 : Int × Int × Int × Int × Int × Int), list_2[Int.toNat r]? = some x_10 → (0 ≤ (way14 : Int) ∧ (way14 : Int) < ((2 : Nat) : Int) ∧ (∀ (x_11 : Int × Int × Int × Int × Int × Int), list_2[Int.toNat r]? = some x_11 → (K to15 0 (List.set list_2 (Int.toNat r) (x_11.1, x_11.2.1, x_11.2.2.1, x_11.2.2.2.1, x_11.2.2.2.2.1, (IntKind.wrap .i64 (x_10.2.2.2.2.2 + size)))) gone_2 now_3))))))))))) (fun (Q_2 : Int → Int → Prop) => ∀ (x_4 : Int × Int × Int × Int × Int × Int), list_2[Int.toNat r]? = some x_4 → (cond ((from_ : Int) == x_4.2.2.1) (∀ (x_5 : Int × Int × Int × Int × Int × Int), list_2[Int.toNat r]? = some x_5 → (Q_2 1 x_5.2.1)) (Q_2 0 x_3.2.2.1)))))) (fun (Q : Prop) => joinP1 (fun (t47 : Bool) => cond t47 (K 0 5 list_2 gone_2 now_3) (Q )) (fun (Q_1 : Bool → Prop) => cond (decide ((r : Int) < 0)) (Q_1 true) (0 ≤ (r : Int) ∧ (r : Int) < ((list_2.length : Nat) : Int) ∧ (∀ (x_1 : Int × Int × Int × Int × Int × Int), list_2[Int.toNat r]? = some x_1 → (cond ((x_1.2.1 : Int) != from_) (0 ≤ (r : Int) ∧ (r : Int) < ((list_2.length : Nat) : Int) ∧ (∀ (x_2 : Int × Int × Int × Int × Int × Int), list_2[Int.toNat r]? = some x_2 → (Q_1 ((x_2.2.2.1 : Int) != from_)))) (Q_1 false))))))))
theorem circ_Table_Forward_ok {b_1 : Nat} {p_1 : Option Addr} {c_1 : Nat} {p_2 : Option Addr} {c_2 : Nat} {l_1 : Int} {l_2 : Int} {l_3 : Int} {l_4 : Int} {l_5 : Int} {l_6 : Int} {list : List (Int × Int × Int × Int × Int × Int)} {gone : List (Int × Int × Int × Int × Int × Int)} {last : Int} {now : Int} {now_1 : Int} {no : Int} {from_ : Int} {size : Int} {FL : List HP} {w : World} {K : Int → Int → List (Int × Int × Int × Int × Int × Int) → List (Int × Int × Int × Int × Int × Int) → Int → Prop} {R : Value → World → Prop}
  (h : Mem (cel b_1 52 [(Value.int .i64 l_1), (Value.int .i64 l_2), (Value.int .i64 l_3), (Value.int .i64 l_4), (Value.int .i64 l_5), (Value.int .i64 l_6), (Value.slice p_1 list.length c_1), (Value.slice p_2 gone.length c_2), (Value.int .i64 last), (Value.int .i64 now)] :: row enc38 38 6 p_1 c_1 list :: row enc38 38 6 p_2 c_2 gone :: FL) w) (hp : circ_Table_Forward_wp l_1 l_2 l_3 l_4 l_5 l_6 list gone last now now_1 no from_ size K)
  (hR : ∀ (r : Int) (r_1 : Int) (list_1 : List (Int × Int × Int × Int × Int × Int)) (gone_1 : List (Int × Int × Int × Int × Int × Int)) (now_2 : Int) (p_3 : Option Addr) (n_1 : Nat) (c_3 : Nat) (p_4 : Option Addr) (n_2 : Nat) (c_4 : Nat) (w : World), n_1 = list_1.length → n_2 = gone_1.length → Mem (cel b_1 52 [(Value.int .i64 l_1), (Value.int .i64 l_2), (Value.int .i64 l_3), (Value.int .i64 l_4), (Value.int .i64 l_5), (Value.int .i64 l_6), (Value.slice p_3 n_1 c_3), (Value.slice p_4 n_2 c_4), (Value.int .i64 last), (Value.int .i64 now_2)] :: row enc38 38 6 p_3 c_3 list_1 :: row enc38 38 6 p_4 c_4 gone_1 :: FL) w → K r r_1 list_1 gone_1 now_2 → R (Value.tuple #[(Value.int .i64 r), (Value.int .i64 r_1)]) w) :
  CallV Try.prog 10 #[(Value.pointer (some (Addr.mk b_1 0 none))), (Value.int .i64 now_1), (Value.int .i64 no), (Value.int .i64 from_), (Value.int .i64 size)] w R := by
  refine circ_Table_Forward_call ?_
  unfold circ_Table_Forward
  unfold circ_Table_Forward_wp at hp
  have cpp_1 := rowCap h 1 rfl
  have cpp_2 := rowCap h 2 rfl
  refine circ_Table_on_ok h hp ?_
  rintro list_2 gone_2 now_3 p_5 n_3 c_5 p_6 n_4 c_6 w rfl rfl h hp
  have cpp_5 := rowCap h 1 rfl
  have cpp_6 := rowCap h 2 rfl
  refine ⟨rfl, ?_⟩
  refine circ_Table_place_ok h hp ?_
  intro r w h hp
  have cpp_5 := rowCap h 1 rfl
  refine ⟨_, rfl, ?_⟩
  obtain ⟨Q, hq, hp⟩ := hp
  refine ⟨fun t0 from3 size4 i12 w => (some (Addr.mk b_1 0 none)) = t0 ∧ from_ = from3 ∧ size = size4 ∧ r = i12 ∧ Q ∧ Mem (cel b_1 52 [(Value.int .i64 l_1), (Value.int .i64 l_2), (Value.int .i64 l_3), (Value.int .i64 l_4), (Value.int .i64 l_5), (Value.int .i64 l_6), (Value.slice p_5 list_2.length c_5), (Value.slice p_6 gone_2.length c_6), (Value.int .i64 last), (Value.int .i64 now_3)] :: row enc38 38 6 p_5 c_5 list_2 :: row enc38 38 6 p_6 c_6 gone_2 :: FL) w, ?_, ?_⟩
  · rintro t0 from3 size4 i12 w ⟨rfl, rfl, rfl, rfl, hp, h⟩
    replace hp := hq  hp
    unfold circ_Table_Forward_j1
    refine ⟨_, rfl, ?_⟩
    refine ⟨_, _, _, cellL h 0 6 rfl rfl rfl, ?_⟩
    obtain ⟨ia_3, ja_3, hp⟩ := hp
    obtain ⟨a_3, ha_3⟩ := rdAddr (rowRd h 1 encL38 rfl) rfl ia_3 ja_3
    refine ⟨a_3, ha_3, ia_3, ja_3, ?_⟩
    replace h := h.drew
    refine ⟨_, rfl, ?_⟩
    obtain ⟨x_3, hx_3, hc⟩ := rdCell (rowRd h 1 encL38 rfl) ha_3 rfl ia_3 ja_3
    replace hp := hp x_3 hx_3
    refine ⟨_, hc 2 _ rfl, ?_⟩
    obtain ⟨Q_2, hq, hp⟩ := hp
    refine ⟨fun t0_2 size4_2 i12_2 c13 way14 to15 w => (some (Addr.mk b_1 0 none)) = t0_2 ∧ size = size4_2 ∧ r = i12_2 ∧ (Addr.add a_3 (Int.toNat r * 6)) = c13 ∧ Q_2 way14 to15 ∧ Mem (cel b_1 52 [(Value.int .i64 l_1), (Value.int .i64 l_2), (Value.int .i64 l_3), (Value.int .i64 l_4), (Value.int .i64 l_5), (Value.int .i64 l_6), (Value.slice p_5 list_2.length c_5), (Value.slice p_6 gone_2.length c_6), (Value.int .i64 last), (Value.int .i64 now_3)] :: row enc38 38 6 p_5 c_5 list_2 :: row enc38 38 6 p_6 c_6 gone_2 :: FL) w, ?_, ?_⟩
    · rintro t0_2 size4_2 i12_2 c13 way14 to15 w ⟨rfl, rfl, rfl, rfl, hp, h⟩
      replace hp := hq way14 to15 hp
      unfold circ_Table_Forward_j2
      refine cond_both hp (fun hp => ?_) (fun hp => ?_)
      · exact hR 0 1 list_2 gone_2 now_3 p_5 list_2.length c_5 p_6 gone_2.length c_6 _ rfl rfl h hp
      replace h := h.drew
      refine ⟨_, rfl, ?_⟩
      refine ⟨_, cellL h 0 5 rfl rfl rfl, ?_⟩
      refine ⟨_, rfl, ?_⟩
      refine ⟨hp.1, hp.2.1, ?_⟩
      obtain ⟨hi0, hi1, hp⟩ := hp
      rcases (by omega : (way14 : Int) = 0 ∨ (way14 : Int) = 1) with e_1 | e_1
      · replace hp := hp.1 e_1
        try rw [show Int.toNat way14 * 1 = 0 by rw [e_1]; rfl]
        obtain ⟨x_6, hx_6, hc⟩ := rdCell2 (rowRd h 1 encL38 rfl) ha_3 rfl ia_3 ja_3
        replace hp := hp x_6 hx_6
        refine ⟨_, hc 4 0 _ rfl, ?_⟩
        refine cond_both hp (fun hp => ?_) (fun hp => ?_)
        · refine ⟨_, rfl, ?_⟩
          refine ⟨_, _, _, cellL h 0 6 rfl rfl rfl, ?_⟩
          replace h := h.pick [1]
          dsimp only [pickL, pickR, nthH, delH, dropH, List.cons_append, List.nil_append] at h
          refine slices_Delete_sl_api_Circuit_api_Circuit_ok (FL := cel b_1 52 [(Value.int .i64 l_1), (Value.int .i64 l_2), (Value.int .i64 l_3), (Value.int .i64 l_4), (Value.int .i64 l_5), (Value.int .i64 l_6), (Value.slice p_5 list_2.length c_5), (Value.slice p_6 gone_2.length c_6), (Value.int .i64 last), (Value.int .i64 now_3)] :: row enc38 38 6 p_6 c_6 gone_2 :: FL) rfl h hp ?_
          rintro rs p_7 n_5 c_7 w rfl h hp
          have cpp_7 := rowCap h 0 rfl
          refine ⟨_, _, _, rfl, ?_⟩
          refine ⟨_, rfl, ?_⟩
          refine storeL (ys := [(Value.slice p_7 rs.length c_7)]) h 1 6 rfl rfl rfl sz35 rfl rfl ?_
          intro w h
          dsimp only [setH, setVs, setV] at h
          replace h := h.sel [1, 0, 0] 0
          dsimp only [pickL, pickR, nthH, delH, dropH, List.cons_append, List.nil_append] at h
          exact hR 0 4 rs gone_2 now_3 p_7 rs.length c_7 p_6 gone_2.length c_6 _ rfl rfl h hp
        replace h := h.drew
        refine ⟨_, rfl, ?_⟩
        refine ⟨hp.1, hp.2.1, ?_⟩
        replace hp := hp.2.2
        try rw [show Int.toNat way14 * 1 = 0 by rw [e_1]; rfl]
        obtain ⟨x_7, hx_7, hc⟩ := rdCell2 (rowRd h 1 encL38 rfl) ha_3 rfl ia_3 ja_3
        replace hp := hp x_7 hx_7
        refine ⟨_, hc 4 0 _ rfl, ?_⟩
        refine ⟨_, rfl, ?_⟩
        refine ⟨hp.1, hp.2.1, ?_⟩
        replace hp := hp.2.2
        try rw [show Int.toNat way14 * 1 = 0 by rw [e_1]; rfl]
        obtain ⟨x_8, hx_8, -⟩ := rdCell (rowRd h 1 encL38 rfl) ha_3 rfl ia_3 ja_3
        replace hp := hp x_8 hx_8
        refine rowSetG2 (k2 := 0) (ys := [(Value.int .i64 (IntKind.wrap .i64 (x_7.2.2.2.2.1 + size)))]) (x := (x_8.1, x_8.2.1, x_8.2.2.1, x_8.2.2.2.1, (IntKind.wrap .i64 (x_7.2.2.2.2.1 + size)), x_8.2.2.2.2.2)) (x0 := x_8) (j := 4) h 1 encL38 rfl ha_3 rfl ia_3 ja_3 sz3 hx_8 rfl rfl rfl rfl ?_
        intro w h
        dsimp only [setH, setVs, setV] at h
        exact hR to15 0 (List.set list_2 (Int.toNat r) (x_8.1, x_8.2.1, x_8.2.2.1, x_8.2.2.2.1, (IntKind.wrap .i64 (x_7.2.2.2.2.1 + size)), x_8.2.2.2.2.2)) gone_2 now_3 p_5 list_2.length c_5 p_6 gone_2.length c_6 _ (lenSet rfl) rfl h hp
      · replace hp := hp.2 e_1
        try rw [show Int.toNat way14 * 1 = 1 by rw [e_1]; rfl]
        obtain ⟨x_9, hx_9, hc⟩ := rdCell2 (rowRd h 1 encL38 rfl) ha_3 rfl ia_3 ja_3
        replace hp := hp x_9 hx_9
        refine ⟨_, hc 4 1 _ rfl, ?_⟩
        refine cond_both hp (fun hp => ?_) (fun hp => ?_)
        · refine ⟨_, rfl, ?_⟩
          refine ⟨_, _, _, cellL h 0 6 rfl rfl rfl, ?_⟩
          replace h := h.pick [1]
          dsimp only [pickL, pickR, nthH, delH, dropH, List.cons_append, List.nil_append] at h
          refine slices_Delete_sl_api_Circuit_api_Circuit_ok (FL := cel b_1 52 [(Value.int .i64 l_1), (Value.int .i64 l_2), (Value.int .i64 l_3), (Value.int .i64 l_4), (Value.int .i64 l_5), (Value.int .i64 l_6), (Value.slice p_5 list_2.length c_5), (Value.slice p_6 gone_2.length c_6), (Value.int .i64 last), (Value.int .i64 now_3)] :: row enc38 38 6 p_6 c_6 gone_2 :: FL) rfl h hp ?_
          rintro rs_1 p_8 n_6 c_8 w rfl h hp
          have cpp_8 := rowCap h 0 rfl
          refine ⟨_, _, _, rfl, ?_⟩
          refine ⟨_, rfl, ?_⟩
          refine storeL (ys := [(Value.slice p_8 rs_1.length c_8)]) h 1 6 rfl rfl rfl sz35 rfl rfl ?_
          intro w h
          dsimp only [setH, setVs, setV] at h
          replace h := h.sel [1, 0, 0] 0
          dsimp only [pickL, pickR, nthH, delH, dropH, List.cons_append, List.nil_append] at h
          exact hR 0 4 rs_1 gone_2 now_3 p_8 rs_1.length c_8 p_6 gone_2.length c_6 _ rfl rfl h hp
        replace h := h.drew
        refine ⟨_, rfl, ?_⟩
        refine ⟨hp.1, hp.2.1, ?_⟩
        replace hp := hp.2.2
        try rw [show Int.toNat way14 * 1 = 1 by rw [e_1]; rfl]
        obtain ⟨x_10, hx_10, hc⟩ := rdCell2 (rowRd h 1 encL38 rfl) ha_3 rfl ia_3 ja_3
        replace hp := hp x_10 hx_10
        refine ⟨_, hc 4 1 _ rfl, ?_⟩
        refine ⟨_, rfl, ?_⟩
        refine ⟨hp.1, hp.2.1, ?_⟩
        replace hp := hp.2.2
        try rw [show Int.toNat way14 * 1 = 1 by rw [e_1]; rfl]
        obtain ⟨x_11, hx_11, -⟩ := rdCell (rowRd h 1 encL38 rfl) ha_3 rfl ia_3 ja_3
        replace hp := hp x_11 hx_11
        refine rowSetG2 (k2 := 1) (ys := [(Value.int .i64 (IntKind.wrap .i64 (x_10.2.2.2.2.2 + size)))]) (x := (x_11.1, x_11.2.1, x_11.2.2.1, x_11.2.2.2.1, x_11.2.2.2.2.1, (IntKind.wrap .i64 (x_10.2.2.2.2.2 + size)))) (x0 := x_11) (j := 4) h 1 encL38 rfl ha_3 rfl ia_3 ja_3 sz3 hx_11 rfl rfl rfl rfl ?_
        intro w h
        dsimp only [setH, setVs, setV] at h
        exact hR to15 0 (List.set list_2 (Int.toNat r) (x_11.1, x_11.2.1, x_11.2.2.1, x_11.2.2.2.1, x_11.2.2.2.2.1, (IntKind.wrap .i64 (x_10.2.2.2.2.2 + size)))) gone_2 now_3 p_5 list_2.length c_5 p_6 gone_2.length c_6 _ (lenSet rfl) rfl h hp
    clear hq
    refine ⟨_, rfl, ?_⟩
    obtain ⟨x_4, hx_4, hc⟩ := rdCell (rowRd h 1 encL38 rfl) ha_3 rfl ia_3 ja_3
    replace hp := hp x_4 hx_4
    refine ⟨_, hc 2 _ rfl, ?_⟩
    refine cond_both' hp (fun hp => ?_) (fun hp => ?_)
    · exact ⟨rfl, rfl, rfl, rfl, hp, h⟩
    replace h := h.drew
    refine ⟨_, rfl, ?_⟩
    obtain ⟨x_5, hx_5, hc⟩ := rdCell (rowRd h 1 encL38 rfl) ha_3 rfl ia_3 ja_3
    replace hp := hp x_5 hx_5
    refine ⟨_, hc 1 _ rfl, ?_⟩
    exact ⟨rfl, rfl, rfl, rfl, hp, h⟩
  clear hq
  obtain ⟨Q_1, hq, hp⟩ := hp
  refine ⟨fun t0_1 from3_1 size4_1 i12_1 t47 w => (some (Addr.mk b_1 0 none)) = t0_1 ∧ from_ = from3_1 ∧ size = size4_1 ∧ r = i12_1 ∧ Q_1 t47 ∧ Mem (cel b_1 52 [(Value.int .i64 l_1), (Value.int .i64 l_2), (Value.int .i64 l_3), (Value.int .i64 l_4), (Value.int .i64 l_5), (Value.int .i64 l_6), (Value.slice p_5 list_2.length c_5), (Value.slice p_6 gone_2.length c_6), (Value.int .i64 last), (Value.int .i64 now_3)] :: row enc38 38 6 p_5 c_5 list_2 :: row enc38 38 6 p_6 c_6 gone_2 :: FL) w, ?_, ?_⟩
  · rintro t0_1 from3_1 size4_1 i12_1 t47 w ⟨rfl, rfl, rfl, rfl, hp, h⟩
    replace hp := hq t47 hp
    unfold circ_Table_Forward_j3
    refine cond_both hp (fun hp => ?_) (fun hp => ?_)
    · exact hR 0 5 list_2 gone_2 now_3 p_5 list_2.length c_5 p_6 gone_2.length c_6 _ rfl rfl h hp
    exact ⟨rfl, rfl, rfl, rfl, hp, h⟩
  clear hq
  refine cond_both hp (fun hp => ?_) (fun hp => ?_)
  · exact ⟨rfl, rfl, rfl, rfl, hp, h⟩
  refine ⟨_, rfl, ?_⟩
  refine ⟨_, _, _, cellL h 0 6 rfl rfl rfl, ?_⟩
  obtain ⟨ia_1, ja_1, hp⟩ := hp
  obtain ⟨a_1, ha_1⟩ := rdAddr (rowRd h 1 encL38 rfl) rfl ia_1 ja_1
  refine ⟨a_1, ha_1, ia_1, ja_1, ?_⟩
  obtain ⟨x_1, hx_1, hc⟩ := rdCell (rowRd h 1 encL38 rfl) ha_1 rfl ia_1 ja_1
  replace hp := hp x_1 hx_1
  refine ⟨_, hc 1 _ rfl, ?_⟩
  refine cond_both' hp (fun hp => ?_) (fun hp => ?_)
  · exact ⟨rfl, rfl, rfl, rfl, hp, h⟩
  refine ⟨_, rfl, ?_⟩
  refine ⟨_, _, _, cellL h 0 6 rfl rfl rfl, ?_⟩
  obtain ⟨ia_2, ja_2, hp⟩ := hp
  obtain ⟨a_2, ha_2⟩ := rdAddr (rowRd h 1 encL38 rfl) rfl ia_2 ja_2
  refine ⟨a_2, ha_2, ia_2, ja_2, ?_⟩
  obtain ⟨x_2, hx_2, hc⟩ := rdCell (rowRd h 1 encL38 rfl) ha_2 rfl ia_2 ja_2
  replace hp := hp x_2 hx_2
  refine ⟨_, hc 2 _ rfl, ?_⟩
  exact ⟨rfl, rfl, rfl, rfl, hp, h⟩

/-! slices.Clone[[]embrasure/api.Circuit,embrasure/api.Circuit] (21) -/
def slices_Clone_sl_api_Circuit_api_Circuit_wp (s : List (Int × Int × Int × Int × Int × Int)) (K : List (Int × Int × Int × Int × Int × Int) → Prop) : Prop :=
  ∀ (nil : Bool), (nil = true → s = []) → (cond nil (K ([] : List (Int × Int × Int × Int × Int × Int))) ((([] : List (Int × Int × Int × Int × Int × Int)).length + s.length) * 48 ≤ 140737488355328 ∧ (K (([] : List (Int × Int × Int × Int × Int × Int)) ++ s))))
theorem slices_Clone_sl_api_Circuit_api_Circuit_ok {p_1 : Option Addr} {n_1 : Nat} {c_1 : Nat} {s : List (Int × Int × Int × Int × Int × Int)} {FL : List HP} {w : World} {K : List (Int × Int × Int × Int × Int × Int) → Prop} {R : Value → World → Prop}
  (hF_s : ∀ w, Mem FL w → Rd w 6 p_1 enc38 s) (hl_s : n_1 = s.length) (hc_s : n_1 ≤ c_1)
  (h : Mem (FL) w) (hp : slices_Clone_sl_api_Circuit_api_Circuit_wp s K)
  (hR : ∀ (rs : List (Int × Int × Int × Int × Int × Int)) (p_2 : Option Addr) (n_2 : Nat) (c_2 : Nat) (w : World), n_2 = rs.length → Mem (row enc38 38 6 p_2 c_2 rs :: FL) w → K rs → R (Value.slice p_2 n_2 c_2) w) :
  CallV Try.prog 21 #[(Value.slice p_1 n_1 c_1)] w R := by
  refine slices_Clone_sl_api_Circuit_api_Circuit_call ?_
  unfold slices_Clone_sl_api_Circuit_api_Circuit
  unfold slices_Clone_sl_api_Circuit_api_Circuit_wp at hp
  subst hl_s
  obtain ⟨nil, hnil⟩ : ∃ b : Bool, Option.isNone p_1 = b := ⟨_, rfl⟩
  replace hp := hp nil (nilEmpty (hF_s _ (h.drop 0)) hnil)
  refine eqlSlNil und35 hnil ?_
  refine ⟨_, rfl, ?_⟩
  refine cond_both hp (fun hp => ?_) (fun hp => ?_)
  · replace h := rowNil enc38 38 6 h
    exact hR ([] : List (Int × Int × Int × Int × Int × Int)) (none ) 0 0 _ rfl h hp
  refine newL (o := []) h ?_
  intro b_1 w h
  have sr := (hF_s _ (h.drop 1))
  replace h := rowOfCel h 0 encL38 rfl ([] : List (Int × Int × Int × Int × Int × Int)) rfl
  dsimp only [setH, setVs, setV] at h
  obtain ⟨hb, hp⟩ := hp
  refine appendL slt35 und35 encL38 encO38 h 0 rfl rfl sr rfl hb ?_
  intro p_3 c_2 w h
  dsimp only [setH, setVs, setV] at h
  have cpp_3 := rowCap h 0 rfl
  refine ⟨_, _, _, rfl, ?_⟩
  exact hR (([] : List (Int × Int × Int × Int × Int × Int)) ++ s) p_3 ((([] : List (Int × Int × Int × Int × Int × Int)) ++ s).length) c_2 _ rfl h hp

/-! (*embrasure/circ.Table).All (11) -/
def circ_Table_All_wp (l_1 : Int) (l_2 : Int) (l_3 : Int) (l_4 : Int) (l_5 : Int) (l_6 : Int) (list : List (Int × Int × Int × Int × Int × Int)) (gone : List (Int × Int × Int × Int × Int × Int)) (last : Int) (now : Int) (now_1 : Int) (K : List (Int × Int × Int × Int × Int × Int) → List (Int × Int × Int × Int × Int × Int) → List (Int × Int × Int × Int × Int × Int) → Int → Prop) : Prop :=
  circ_Table_on_wp l_1 l_2 l_3 l_4 l_5 l_6 list gone last now now_1 (fun (list_2 : List (Int × Int × Int × Int × Int × Int)) (gone_2 : List (Int × Int × Int × Int × Int × Int)) (now_3 : Int) => slices_Clone_sl_api_Circuit_api_Circuit_wp list_2 (fun (rs : List (Int × Int × Int × Int × Int × Int)) => K rs list_2 gone_2 now_3))
theorem circ_Table_All_ok {b_1 : Nat} {p_1 : Option Addr} {c_1 : Nat} {p_2 : Option Addr} {c_2 : Nat} {l_1 : Int} {l_2 : Int} {l_3 : Int} {l_4 : Int} {l_5 : Int} {l_6 : Int} {list : List (Int × Int × Int × Int × Int × Int)} {gone : List (Int × Int × Int × Int × Int × Int)} {last : Int} {now : Int} {now_1 : Int} {FL : List HP} {w : World} {K : List (Int × Int × Int × Int × Int × Int) → List (Int × Int × Int × Int × Int × Int) → List (Int × Int × Int × Int × Int × Int) → Int → Prop} {R : Value → World → Prop}
  (h : Mem (cel b_1 52 [(Value.int .i64 l_1), (Value.int .i64 l_2), (Value.int .i64 l_3), (Value.int .i64 l_4), (Value.int .i64 l_5), (Value.int .i64 l_6), (Value.slice p_1 list.length c_1), (Value.slice p_2 gone.length c_2), (Value.int .i64 last), (Value.int .i64 now)] :: row enc38 38 6 p_1 c_1 list :: row enc38 38 6 p_2 c_2 gone :: FL) w) (hp : circ_Table_All_wp l_1 l_2 l_3 l_4 l_5 l_6 list gone last now now_1 K)
  (hR : ∀ (rs : List (Int × Int × Int × Int × Int × Int)) (list_1 : List (Int × Int × Int × Int × Int × Int)) (gone_1 : List (Int × Int × Int × Int × Int × Int)) (now_2 : Int) (p_5 : Option Addr) (n_3 : Nat) (c_5 : Nat) (p_3 : Option Addr) (n_1 : Nat) (c_3 : Nat) (p_4 : Option Addr) (n_2 : Nat) (c_4 : Nat) (w : World), n_3 = rs.length → n_1 = list_1.length → n_2 = gone_1.length → Mem (row enc38 38 6 p_5 c_5 rs :: cel b_1 52 [(Value.int .i64 l_1), (Value.int .i64 l_2), (Value.int .i64 l_3), (Value.int .i64 l_4), (Value.int .i64 l_5), (Value.int .i64 l_6), (Value.slice p_3 n_1 c_3), (Value.slice p_4 n_2 c_4), (Value.int .i64 last), (Value.int .i64 now_2)] :: row enc38 38 6 p_3 c_3 list_1 :: row enc38 38 6 p_4 c_4 gone_1 :: FL) w → K rs list_1 gone_1 now_2 → R (Value.slice p_5 n_3 c_5) w) :
  CallV Try.prog 11 #[(Value.pointer (some (Addr.mk b_1 0 none))), (Value.int .i64 now_1)] w R := by
  refine circ_Table_All_call ?_
  unfold circ_Table_All
  unfold circ_Table_All_wp at hp
  have cpp_1 := rowCap h 1 rfl
  have cpp_2 := rowCap h 2 rfl
  refine circ_Table_on_ok h hp ?_
  rintro list_2 gone_2 now_3 p_5 n_3 c_5 p_6 n_4 c_6 w rfl rfl h hp
  have cpp_5 := rowCap h 1 rfl
  have cpp_6 := rowCap h 2 rfl
  refine ⟨rfl, ?_⟩
  refine ⟨_, rfl, ?_⟩
  refine ⟨_, _, _, cellL h 0 6 rfl rfl rfl, ?_⟩
  refine slices_Clone_sl_api_Circuit_api_Circuit_ok (FL := cel b_1 52 [(Value.int .i64 l_1), (Value.int .i64 l_2), (Value.int .i64 l_3), (Value.int .i64 l_4), (Value.int .i64 l_5), (Value.int .i64 l_6), (Value.slice p_5 list_2.length c_5), (Value.slice p_6 gone_2.length c_6), (Value.int .i64 last), (Value.int .i64 now_3)] :: row enc38 38 6 p_5 c_5 list_2 :: row enc38 38 6 p_6 c_6 gone_2 :: FL) (fun w h => (rowRd h 1 encL38 rfl)) rfl cpp_5 h hp ?_
  rintro rs p_7 n_5 c_7 w rfl h hp
  have cpp_7 := rowCap h 0 rfl
  refine ⟨_, _, _, rfl, ?_⟩
  exact hR rs list_2 gone_2 now_3 p_7 rs.length c_7 p_5 list_2.length c_5 p_6 gone_2.length c_6 _ rfl rfl rfl h hp

/-! embrasure/embrasurelaw24.awake (6) -/
def embrasurelaw24_awake_wp  (K : Bool → Prop) : Prop :=
  circ_New_wp 0 0 1 1 10 10 (fun (r : Int) => joinP1 (fun (t21 : Bool) => cond t21 (K false) (False)) (fun (Q : Bool → Prop) => Q true)) (fun (r_1 : Int) (l_1 : Int) (l_2 : Int) (l_3 : Int) (l_4 : Int) (l_5 : Int) (l_6 : Int) (list : List (Int × Int × Int × Int × Int × Int)) (gone : List (Int × Int × Int × Int × Int × Int)) (last : Int) (now : Int) => joinP1 (fun (t21_1 : Bool) => cond t21_1 (K false) (circ_Table_Open_wp l_1 l_2 l_3 l_4 l_5 l_6 list gone last now 1 7 8 100 (fun (r_2 : Int) (r_3 : Int) (list_1 : List (Int × Int × Int × Int × Int × Int)) (gone_1 : List (Int × Int × Int × Int × Int × Int)) (last_1 : Int) (now_1 : Int) => circ_Table_Forward_wp l_1 l_2 l_3 l_4 l_5 l_6 list_1 gone_1 last_1 now_1 2 r_2 7 6 (fun (r_4 : Int) (r_5 : Int) (list_2 : List (Int × Int × Int × Int × Int × Int)) (gone_2 : List (Int × Int × Int × Int × Int × Int)) (now_2 : Int) => circ_Table_Open_wp l_1 l_2 l_3 l_4 l_5 l_6 list_2 gone_2 last_1 now_2 2 8 7 100 (fun (r_6 : Int) (r_7 : Int) (list_3 : List (Int × Int × Int × Int × Int × Int)) (gone_3 : List (Int × Int × Int × Int × Int × Int)) (last_2 : Int) (now_3 : Int) => circ_Table_Forward_wp l_1 l_2 l_3 l_4 l_5 l_6 list_3 gone_3 last_2 now_3 2 r_2 7 5 (fun (r_8 : Int) (r_9 : Int) (list_4 : List (Int × Int × Int × Int × Int × Int)) (gone_4 : List (Int × Int × Int × Int × Int × Int)) (now_4 : Int) => cond ((r_3 : Int) == 0) (cond ((r_2 : Int) == 1) (cond ((r_5 : Int) == 0) (cond ((r_4 : Int) == 8) (cond ((r_7 : Int) == 6) (cond ((r_9 : Int) == 4) (circ_Table_All_wp l_1 l_2 l_3 l_4 l_5 l_6 list_4 gone_4 last_2 now_4 2 (fun (rs : List (Int × Int × Int × Int × Int × Int)) (list_5 : List (Int × Int × Int × Int × Int × Int)) (gone_5 : List (Int × Int × Int × Int × Int × Int)) (now_5 : Int) => K ((((rs.length : Nat) : Int) : Int) == 0))) (K false)) (K false)) (K false)) (K false)) (K false)) (K false))))))) (fun (Q_1 : Bool → Prop) => Q_1 ((r_1 : Int) != 0)))
theorem embrasurelaw24_awake_ok  {FL : List HP} {w : World} {K : Bool → Prop} {R : Value → World → Prop}
  (h : Mem (FL) w) (hp : embrasurelaw24_awake_wp  K)
  (hR : ∀ (r : Bool) (w : World), Mem (FL) w → K r → R (Value.bool r) w) :
  CallV Try.prog 6 #[] w R := by
  refine embrasurelaw24_awake_call ?_
  unfold embrasurelaw24_awake
  unfold embrasurelaw24_awake_wp at hp
  refine circ_New_ok h hp ?_ ?_
  · intro r w h hp
    refine ⟨_, _, rfl, ?_⟩
    obtain ⟨Q, hq, hp⟩ := hp
    refine ⟨fun t1 t21 w => none = t1 ∧ Q t21 ∧ Mem (FL) w, ?_, ?_⟩
    · rintro t1 t21 w ⟨rfl, hp, h⟩
      replace hp := hq t21 hp
      unfold embrasurelaw24_awake_j1
      refine cond_both hp (fun hp => ?_) (fun hp => ?_)
      · exact hR false _ h hp
      exact hp.elim
    clear hq
    refine eqlPtrNN undP28 ?_
    refine ⟨_, rfl, ?_⟩
    refine cond_tt ?_
    exact ⟨rfl, hp, h⟩
  rintro r_1 l_1 l_2 l_3 l_4 l_5 l_6 list gone last now b_1 p_1 n_1 c_1 p_2 n_2 c_2 w rfl rfl h hp
  have cpp_1 := rowCap h 1 rfl
  have cpp_2 := rowCap h 2 rfl
  refine ⟨_, _, rfl, ?_⟩
  obtain ⟨Q_1, hq, hp⟩ := hp
  refine ⟨fun t1_1 t21_1 w => (some (Addr.mk b_1 0 none)) = t1_1 ∧ Q_1 t21_1 ∧ Mem (cel b_1 52 [(Value.int .i64 l_1), (Value.int .i64 l_2), (Value.int .i64 l_3), (Value.int .i64 l_4), (Value.int .i64 l_5), (Value.int .i64 l_6), (Value.slice p_1 list.length c_1), (Value.slice p_2 gone.length c_2), (Value.int .i64 last), (Value.int .i64 now)] :: row enc38 38 6 p_1 c_1 list :: row enc38 38 6 p_2 c_2 gone :: FL) w, ?_, ?_⟩
  · rintro t1_1 t21_1 w ⟨rfl, hp, h⟩
    replace hp := hq t21_1 hp
    unfold embrasurelaw24_awake_j1
    refine cond_both hp (fun hp => ?_) (fun hp => ?_)
    · replace h := h.sel [] 3
      dsimp only [pickL, pickR, nthH, delH, dropH, List.cons_append, List.nil_append] at h
      exact hR false _ h hp
    refine circ_Table_Open_ok h hp ?_
    rintro r_2 r_3 list_1 gone_1 last_1 now_1 p_3 n_3 c_3 p_4 n_4 c_4 w rfl rfl h hp
    have cpp_3 := rowCap h 1 rfl
    have cpp_4 := rowCap h 2 rfl
    refine ⟨_, _, rfl, ?_⟩
    refine circ_Table_Forward_ok h hp ?_
    rintro r_4 r_5 list_2 gone_2 now_2 p_5 n_5 c_5 p_6 n_6 c_6 w rfl rfl h hp
    have cpp_5 := rowCap h 1 rfl
    have cpp_6 := rowCap h 2 rfl
    refine ⟨_, _, rfl, ?_⟩
    refine circ_Table_Open_ok h hp ?_
    rintro r_6 r_7 list_3 gone_3 last_2 now_3 p_7 n_7 c_7 p_8 n_8 c_8 w rfl rfl h hp
    have cpp_7 := rowCap h 1 rfl
    have cpp_8 := rowCap h 2 rfl
    refine ⟨_, _, rfl, ?_⟩
    refine circ_Table_Forward_ok h hp ?_
    rintro r_8 r_9 list_4 gone_4 now_4 p_9 n_9 c_9 p_10 n_10 c_10 w rfl rfl h hp
    have cpp_9 := rowCap h 1 rfl
    have cpp_10 := rowCap h 2 rfl
    refine ⟨_, _, rfl, ?_⟩
    refine cond_both' hp (fun hp => ?_) (fun hp => ?_)
    · replace h := h.sel [] 3
      dsimp only [pickL, pickR, nthH, delH, dropH, List.cons_append, List.nil_append] at h
      exact hR false _ h hp
    refine cond_both' hp (fun hp => ?_) (fun hp => ?_)
    · replace h := h.sel [] 3
      dsimp only [pickL, pickR, nthH, delH, dropH, List.cons_append, List.nil_append] at h
      exact hR false _ h hp
    refine cond_both' hp (fun hp => ?_) (fun hp => ?_)
    · replace h := h.sel [] 3
      dsimp only [pickL, pickR, nthH, delH, dropH, List.cons_append, List.nil_append] at h
      exact hR false _ h hp
    refine cond_both' hp (fun hp => ?_) (fun hp => ?_)
    · replace h := h.sel [] 3
      dsimp only [pickL, pickR, nthH, delH, dropH, List.cons_append, List.nil_append] at h
      exact hR false _ h hp
    refine cond_both' hp (fun hp => ?_) (fun hp => ?_)
    · replace h := h.sel [] 3
      dsimp only [pickL, pickR, nthH, delH, dropH, List.cons_append, List.nil_append] at h
      exact hR false _ h hp
    refine cond_both' hp (fun hp => ?_) (fun hp => ?_)
    · replace h := h.sel [] 3
      dsimp only [pickL, pickR, nthH, delH, dropH, List.cons_append, List.nil_append] at h
      exact hR false _ h hp
    refine circ_Table_All_ok h hp ?_
    rintro rs list_5 gone_5 now_5 p_11 n_11 c_11 p_12 n_12 c_12 p_13 n_13 c_13 w rfl rfl rfl h hp
    have cpp_11 := rowCap h 0 rfl
    have cpp_12 := rowCap h 2 rfl
    have cpp_13 := rowCap h 3 rfl
    refine ⟨_, _, _, rfl, ?_⟩
    replace h := h.sel [] 4
    dsimp only [pickL, pickR, nthH, delH, dropH, List.cons_append, List.nil_append] at h
    exact hR ((((rs.length : Nat) : Int) : Int) == 0) _ h hp
  clear hq
  refine eqlPtrNil undP28 ?_
  refine ⟨_, rfl, ?_⟩
  refine cond_ff ?_
  exact ⟨rfl, hp, h⟩

/-! slices.SortFunc[[]embrasure/api.Circuit,embrasure/api.Circuit] (22) -/
def slices_SortFunc_sl_api_Circuit_api_Circuit_wp {σ1 : Type} (xs : List (Int × Int × Int × Int × Int × Int)) (s : σ1) (Y1 : (Int × Int × Int × Int × Int × Int) → (Int × Int × Int × Int × Int × Int) → σ1 → (Int → σ1 → Prop) → Prop) (K : List (Int × Int × Int × Int × Int × Int) → σ1 → Prop) : Prop := sortW xs s Y1 K
theorem slices_SortFunc_sl_api_Circuit_api_Circuit_ok {σ1 : Type} {A1 : σ1 → HP} {p_1 : Option Addr} {c_1 : Nat} {n_1 : Nat} {g1 : Nat} {fc1 : Array Value} {xs : List (Int × Int × Int × Int × Int × Int)} {s : σ1} {Y1 : (Int × Int × Int × Int × Int × Int) → (Int × Int × Int × Int × Int × Int) → σ1 → (Int → σ1 → Prop) → Prop} {FL : List HP} {w : World} {K : List (Int × Int × Int × Int × Int × Int) → σ1 → Prop} {R : Value → World → Prop}
  (hY1 : ∀ (x0 : (Int × Int × Int × Int × Int × Int)) (x1 : (Int × Int × Int × Int × Int × Int)) (s : σ1) (K : Int → σ1 → Prop) (FL2 : List HP) (w : World) (R : Value → World → Prop), (∀ w, Mem FL2 w → Mem FL w) → Mem (A1 s :: FL2) w → Y1 x0 x1 s K → (∀ (r : Int) (s : σ1) (w : World), Mem (A1 s :: FL2) w → K r s → R (Value.int .i64 r) w) → CalleeV Try.prog (Value.func (.func g1) #[] fc1) #[(Value.agg #[(Value.int .i64 x0.1), (Value.int .i64 x0.2.1), (Value.int .i64 x0.2.2.1), (Value.int .i64 x0.2.2.2.1), (Value.int .i64 x0.2.2.2.2.1), (Value.int .i64 x0.2.2.2.2.2)]), (Value.agg #[(Value.int .i64 x1.1), (Value.int .i64 x1.2.1), (Value.int .i64 x1.2.2.1), (Value.int .i64 x1.2.2.2.1), (Value.int .i64 x1.2.2.2.2.1), (Value.int .i64 x1.2.2.2.2.2)])] w R)
  (hn : n_1 = xs.length) (hg : hasBody Try.prog g1 = true) (he : ∀ args w, (callFunc g1 args).run Try.prog w = .ok (.enter g1 args) w) (hx : Exact (A1 s))
  (h : Mem (row enc38 38 6 p_1 c_1 xs :: A1 s :: FL) w) (hp : slices_SortFunc_sl_api_Circuit_api_Circuit_wp xs s Y1 K)
  (hR : ∀ (rs : List (Int × Int × Int × Int × Int × Int)) (s_1 : σ1) (w : World), xs.length = rs.length → Mem (row enc38 38 6 p_1 c_1 rs :: A1 s_1 :: FL) w → K rs s_1 → R (Value.tuple #[]) w) :
  CallV Try.prog 22 #[(Value.slice p_1 n_1 c_1), (Value.func (.func g1) #[] fc1)] w R :=
  sortL (ρ := lays22_ren) lays22 Try.isAgg38 Try.sizeOf38 encL38 (fun x v hv => by simp only [enc38, List.mem_cons, List.not_mem_nil, or_false] at hv; rcases hv with rfl | rfl | rfl | rfl | rfl | rfl <;> rfl) hg he hx hY1 hn h hp (fun rs s w hl => hR rs s w hl.symm)

/-! (*embrasure/circ.Table).Gone$1 (23) -/
def circ_Table_Gone_c1_wp (a_No : Int) (a_A : Int) (a_B : Int) (a_Until : Int) (a_Bytes : Int) (a_Bytes_1 : Int) (b_No : Int) (b_A : Int) (b_B : Int) (b_Until : Int) (b_Bytes : Int) (b_Bytes_1 : Int) (K : Int → Prop) : Prop :=
  K (IntKind.wrap .i64 (a_No - b_No))
theorem circ_Table_Gone_c1_ok {a_No : Int} {a_A : Int} {a_B : Int} {a_Until : Int} {a_Bytes : Int} {a_Bytes_1 : Int} {b_No : Int} {b_A : Int} {b_B : Int} {b_Until : Int} {b_Bytes : Int} {b_Bytes_1 : Int} {FL : List HP} {w : World} {K : Int → Prop} {R : Value → World → Prop}
  (h : Mem (FL) w) (hp : circ_Table_Gone_c1_wp a_No a_A a_B a_Until a_Bytes a_Bytes_1 b_No b_A b_B b_Until b_Bytes b_Bytes_1 K)
  (hR : ∀ (r : Int) (w : World), Mem (FL) w → K r → R (Value.int .i64 r) w) :
  CallV Try.prog 23 #[(Value.agg #[(Value.int .i64 a_No), (Value.int .i64 a_A), (Value.int .i64 a_B), (Value.int .i64 a_Until), (Value.int .i64 a_Bytes), (Value.int .i64 a_Bytes_1)]), (Value.agg #[(Value.int .i64 b_No), (Value.int .i64 b_A), (Value.int .i64 b_B), (Value.int .i64 b_Until), (Value.int .i64 b_Bytes), (Value.int .i64 b_Bytes_1)])] w R := by
  refine circ_Table_Gone_c1_call ?_
  unfold circ_Table_Gone_c1
  unfold circ_Table_Gone_c1_wp at hp
  refine newL (o := [(Value.int .i64 a_No), (Value.int .i64 a_A), (Value.int .i64 a_B), (Value.int .i64 a_Until), (Value.int .i64 a_Bytes), (Value.int .i64 a_Bytes_1)]) h ?_
  intro b_1 w h
  refine newL (o := [(Value.int .i64 b_No), (Value.int .i64 b_A), (Value.int .i64 b_B), (Value.int .i64 b_Until), (Value.int .i64 b_Bytes), (Value.int .i64 b_Bytes_1)]) h ?_
  intro b_2 w h
  refine ⟨_, cellL h 1 0 rfl rfl rfl, ?_⟩
  refine ⟨_, cellL h 0 0 rfl rfl rfl, ?_⟩
  replace h := h.sel [] 2
  dsimp only [pickL, pickR, nthH, delH, dropH, List.cons_append, List.nil_append] at h
  exact hR (IntKind.wrap .i64 (a_No - b_No)) _ h hp

/-! slices.Values[[]embrasure/api.Circuit,embrasure/api.Circuit]$1 (31) -/
def slices_Values_sl_api_Circuit_api_Circuit__c1_wp {σ0 : Type} (s : σ0) (Y0 : (Int × Int × Int × Int × Int × Int) → σ0 → (Bool → σ0 → Prop) → Prop) (t : List (Int × Int × Int × Int × Int × Int)) (K : σ0 → Prop) : Prop :=
  ∃ (I : Nat → Int → σ0 → Prop), (∃ (n_4 : Nat), I n_4 0 s) ∧ ∀ (n_2 : Nat) (t7 : Int) (s_2 : σ0), I n_2 t7 s_2 → (cond (decide ((t7 : Int) < ((t.length : Nat) : Int))) (0 ≤ (t7 : Int) ∧ (t7 : Int) < ((t.length : Nat) : Int) ∧ (∀ (x_1 : Int × Int × Int × Int × Int × Int), t[Int.toNat t7]? = some x_1 → (Y0 x_1 s_2 (fun (t13 : Bool) (s_3 : σ0) => cond (!t13) (K s_3) (∃ (n_3 : Nat), n_3 < n_2 ∧ I n_3 (IntKind.wrap .i64 (t7 + 1)) s_3))))) (K s_2))
theorem slices_Values_sl_api_Circuit_api_Circuit__c1_ok {σ0 : Type} {A0 : σ0 → HP} {ff0 : Fn} {fa0 : Array Value} {fc0 : Array Value} {b_1 : Nat} {p_1 : Option Addr} {n_1 : Nat} {c_1 : Nat} {s : σ0} {Y0 : (Int × Int × Int × Int × Int × Int) → σ0 → (Bool → σ0 → Prop) → Prop} {t : List (Int × Int × Int × Int × Int × Int)} {FL : List HP} {w : World} {K : σ0 → Prop} {R : Value → World → Prop}
  (hY0 : ∀ (x0 : Int × Int × Int × Int × Int × Int) (s : σ0) (K : Bool → σ0 → Prop) (FL2 : List HP) (w : World) (R : Value → World → Prop), (∀ w, Mem FL2 w → Mem FL w) → Mem (A0 s :: FL2) w → Y0 x0 s K → (∀ (r : Bool) (s : σ0) (w : World), Mem (A0 s :: FL2) w → K r s → R (Value.bool r) w) → CalleeV Try.prog (Value.func ff0 fa0 fc0) #[(Value.agg #[(Value.int .i64 x0.1), (Value.int .i64 x0.2.1), (Value.int .i64 x0.2.2.1), (Value.int .i64 x0.2.2.2.1), (Value.int .i64 x0.2.2.2.2.1), (Value.int .i64 x0.2.2.2.2.2)])] w R)
  (hF_t : ∀ w, Mem FL w → Rd w 6 p_1 enc38 t) (hl_t : n_1 = t.length) (hc_t : n_1 ≤ c_1)
  (h : Mem (cel b_1 35 [(Value.slice p_1 n_1 c_1)] :: A0 s :: FL) w) (hp : slices_Values_sl_api_Circuit_api_Circuit__c1_wp s Y0 t K)
  (hR : ∀ (s_1 : σ0) (w : World), Mem (cel b_1 35 [(Value.slice p_1 t.length c_1)] :: A0 s_1 :: FL) w → K s_1 → R undef w) :
  CallV Try.prog 31 #[(Value.func ff0 fa0 fc0), (Value.pointer (some (Addr.mk b_1 0 none)))] w R := by
  refine slices_Values_sl_api_Circuit_api_Circuit__c1_call ?_
  unfold slices_Values_sl_api_Circuit_api_Circuit__c1
  unfold slices_Values_sl_api_Circuit_api_Circuit__c1_wp at hp
  subst hl_t
  refine ⟨_, _, _, cellL h 0 0 rfl rfl rfl, ?_⟩
  obtain ⟨I, ⟨n_4, h0⟩, hq⟩ := hp
  refine ⟨fun n_2 yield0 t5p t5l t5c t6 t7 w => ∃ (s_2 : σ0), (Value.func ff0 fa0 fc0) = yield0 ∧ p_1 = t5p ∧ t.length = t5l ∧ c_1 = t5c ∧ ((t.length : Nat) : Int) = t6 ∧ I n_2 t7 s_2 ∧ Mem (cel b_1 35 [(Value.slice p_1 t.length c_1)] :: A0 s_2 :: FL) w, ⟨n_4, s, rfl, rfl, rfl, rfl, rfl, h0, h⟩, ?_⟩
  clear h0 h
  rintro n_2 yield0 t5p t5l t5c t6 t7 w ⟨s_2, rfl, rfl, rfl, rfl, rfl, hp, h⟩
  replace hp := hq n_2 t7 s_2 hp
  clear hq
  unfold slices_Values_sl_api_Circuit_api_Circuit__c1_l1
  refine cond_both' hp (fun hp => ?_) (fun hp => ?_)
  · exact hR s_2 _ h hp
  obtain ⟨ia_1, ja_1, hp⟩ := hp
  obtain ⟨a_1, ha_1⟩ := rdAddr (hF_t _ (h.drop 2)) rfl ia_1 ja_1
  refine ⟨a_1, ha_1, ia_1, ja_1, ?_⟩
  obtain ⟨x_1, hx_1, hc⟩ := rdCell (hF_t _ (h.drop 2)) ha_1 rfl ia_1 ja_1
  replace hp := hp x_1 hx_1
  refine ⟨_, hc 0 _ rfl, _, hc 1 _ rfl, _, hc 2 _ rfl, _, hc 3 _ rfl, _, hc 4 _ rfl, _, hc 5 _ rfl, ?_⟩
  refine newL (o := [(Value.int .i64 0), (Value.int .i64 0), (Value.int .i64 0), (Value.int .i64 0), (Value.int .i64 0), (Value.int .i64 0)]) h ?_
  intro b_2 w h
  refine storeL (ys := [(Value.int .i64 x_1.1), (Value.int .i64 x_1.2.1), (Value.int .i64 x_1.2.2.1), (Value.int .i64 x_1.2.2.2.1), (Value.int .i64 x_1.2.2.2.2.1), (Value.int .i64 x_1.2.2.2.2.2)]) h 0 0 rfl rfl rfl sz38 rfl rfl ?_
  intro w h
  dsimp only [setH, setVs, setV] at h
  refine ⟨_, cellL h 0 0 rfl rfl rfl, _, cellL h 0 1 rfl rfl rfl, _, cellL h 0 2 rfl rfl rfl, _, cellL h 0 3 rfl rfl rfl, _, cellL h 0 4 rfl rfl rfl, _, cellL h 0 5 rfl rfl rfl, ?_⟩
  replace h := h.pick [2]
  dsimp only [pickL, pickR, nthH, delH, dropH, List.cons_append, List.nil_append] at h
  refine hY0 x_1 _ _ (cel b_2 38 [(Value.int .i64 x_1.1), (Value.int .i64 x_1.2.1), (Value.int .i64 x_1.2.2.1), (Value.int .i64 x_1.2.2.2.1), (Value.int .i64 x_1.2.2.2.2.1), (Value.int .i64 x_1.2.2.2.2.2)] :: cel b_1 35 [(Value.slice p_1 t.length c_1)] :: FL) _ _ (fun _ h => Mem.drop 2 h) h hp ?_
  intro t13 s_3 w h hp
  refine ⟨_, rfl, ?_⟩
  refine cond_both hp (fun hp => ?_) (fun hp => ?_)
  · replace h := h.sel [2, 0] 1
    dsimp only [pickL, pickR, nthH, delH, dropH, List.cons_append, List.nil_append] at h
    exact hR s_3 _ h hp
  replace h := h.sel [2, 0] 1
  dsimp only [pickL, pickR, nthH, delH, dropH, List.cons_append, List.nil_append] at h
  obtain ⟨n_3, hn, hp⟩ := hp
  exact ⟨n_3, hn, s_3, rfl, rfl, rfl, rfl, rfl, hp, h⟩

/-! slices.Values[[]embrasure/api.Circuit,embrasure/api.Circuit] (24) -/
def slices_Values_sl_api_Circuit_api_Circuit_wp (s : List (Int × Int × Int × Int × Int × Int)) (K : Prop) : Prop :=
  K 
theorem slices_Values_sl_api_Circuit_api_Circuit_ok {p_1 : Option Addr} {n_1 : Nat} {c_1 : Nat} {s : List (Int × Int × Int × Int × Int × Int)} {FL : List HP} {w : World} {K : Prop} {R : Value → World → Prop}
  (hF_s : ∀ w, Mem FL w → Rd w 6 p_1 enc38 s) (hl_s : n_1 = s.length) (hc_s : n_1 ≤ c_1)
  (h : Mem (FL) w) (hp : slices_Values_sl_api_Circuit_api_Circuit_wp s K)
  (hR : ∀ (b_1 : Nat) (w : World), Mem (cel b_1 35 [(Value.slice p_1 n_1 c_1)] :: FL) w → K  → R (Value.func (Fn.func 31) #[] #[(Value.pointer (some (Addr.mk b_1 0 none)))]) w) :
  CallV Try.prog 24 #[(Value.slice p_1 n_1 c_1)] w R := by
  refine slices_Values_sl_api_Circuit_api_Circuit_call ?_
  unfold slices_Values_sl_api_Circuit_api_Circuit
  unfold slices_Values_sl_api_Circuit_api_Circuit_wp at hp
  subst hl_s
  refine newL (o := [(Value.slice p_1 s.length c_1)]) h ?_
  intro b_1 w h
  exact hR b_1 _ h hp

/-! (*embrasure/circ.Table).Gone (13) -/
def circ_Table_Gone_wp (l_1 : Int) (l_2 : Int) (l_3 : Int) (l_4 : Int) (l_5 : Int) (l_6 : Int) (list : List (Int × Int × Int × Int × Int × Int)) (gone : List (Int × Int × Int × Int × Int × Int)) (last : Int) (now : Int) (now_1 : Int) (K : List (Int × Int × Int × Int × Int × Int) → List (Int × Int × Int × Int × Int × Int) → List (Int × Int × Int × Int × Int × Int) → Int → Prop) : Prop :=
  circ_Table_on_wp l_1 l_2 l_3 l_4 l_5 l_6 list gone last now now_1 (fun (list_2 : List (Int × Int × Int × Int × Int × Int)) (gone_2 : List (Int × Int × Int × Int × Int × Int)) (now_3 : Int) => slices_SortFunc_sl_api_Circuit_api_Circuit_wp gone_2 () (fun x_1 x_2 s K_1 => circ_Table_Gone_c1_wp x_1.1 x_1.2.1 x_1.2.2.1 x_1.2.2.2.1 x_1.2.2.2.2.1 x_1.2.2.2.2.2 x_2.1 x_2.2.1 x_2.2.2.1 x_2.2.2.2.1 x_2.2.2.2.2.1 x_2.2.2.2.2.2 (fun (r : Int) => K_1 r s)) (fun (rs : List (Int × Int × Int × Int × Int × Int)) (s_1 : (Unit)) => slices_Values_sl_api_Circuit_api_Circuit_wp rs (K rs list_2 ([] : List (Int × Int × Int × Int × Int × Int)) now_3)))
theorem circ_Table_Gone_ok {b_1 : Nat} {p_1 : Option Addr} {c_1 : Nat} {p_2 : Option Addr} {c_2 : Nat} {l_1 : Int} {l_2 : Int} {l_3 : Int} {l_4 : Int} {l_5 : Int} {l_6 : Int} {list : List (Int × Int × Int × Int × Int × Int)} {gone : List (Int × Int × Int × Int × Int × Int)} {last : Int} {now : Int} {now_1 : Int} {FL : List HP} {w : World} {K : List (Int × Int × Int × Int × Int × Int) → List (Int × Int × Int × Int × Int × Int) → List (Int × Int × Int × Int × Int × Int) → Int → Prop} {R : Value → World → Prop}
  (h : Mem (cel b_1 52 [(Value.int .i64 l_1), (Value.int .i64 l_2), (Value.int .i64 l_3), (Value.int .i64 l_4), (Value.int .i64 l_5), (Value.int .i64 l_6), (Value.slice p_1 list.length c_1), (Value.slice p_2 gone.length c_2), (Value.int .i64 last), (Value.int .i64 now)] :: row enc38 38 6 p_1 c_1 list :: row enc38 38 6 p_2 c_2 gone :: FL) w) (hp : circ_Table_Gone_wp l_1 l_2 l_3 l_4 l_5 l_6 list gone last now now_1 K)
  (hR : ∀ (x_1 : List (Int × Int × Int × Int × Int × Int)) (list_1 : List (Int × Int × Int × Int × Int × Int)) (gone_1 : List (Int × Int × Int × Int × Int × Int)) (now_2 : Int) (b_2 : Nat) (p_5 : Option Addr) (n_3 : Nat) (c_5 : Nat) (p_3 : Option Addr) (n_1 : Nat) (c_3 : Nat) (p_4 : Option Addr) (n_2 : Nat) (c_4 : Nat) (w : World), n_3 = x_1.length → n_1 = list_1.length → n_2 = gone_1.length → Mem (cel b_2 35 [(Value.slice p_5 n_3 c_5)] :: row enc38 38 6 p_5 c_5 x_1 :: cel b_1 52 [(Value.int .i64 l_1), (Value.int .i64 l_2), (Value.int .i64 l_3), (Value.int .i64 l_4), (Value.int .i64 l_5), (Value.int .i64 l_6), (Value.slice p_3 n_1 c_3), (Value.slice p_4 n_2 c_4), (Value.int .i64 last), (Value.int .i64 now_2)] :: row enc38 38 6 p_3 c_3 list_1 :: row enc38 38 6 p_4 c_4 gone_1 :: FL) w → K x_1 list_1 gone_1 now_2 → R (Value.func (Fn.func 31) #[] #[(Value.pointer (some (Addr.mk b_2 0 none)))]) w) :
  CallV Try.prog 13 #[(Value.pointer (some (Addr.mk b_1 0 none))), (Value.int .i64 now_1)] w R := by
  refine circ_Table_Gone_call ?_
  unfold circ_Table_Gone
  unfold circ_Table_Gone_wp at hp
  have cpp_1 := rowCap h 1 rfl
  have cpp_2 := rowCap h 2 rfl
  refine circ_Table_on_ok h hp ?_
  rintro list_2 gone_2 now_3 p_5 n_3 c_5 p_6 n_4 c_6 w rfl rfl h hp
  have cpp_5 := rowCap h 1 rfl
  have cpp_6 := rowCap h 2 rfl
  refine ⟨rfl, ?_⟩
  refine ⟨_, rfl, ?_⟩
  refine ⟨_, _, _, cellL h 0 7 rfl rfl rfl, ?_⟩
  refine ⟨_, rfl, ?_⟩
  replace h := rowNil enc38 38 6 h
  refine storeL (ys := [(Value.slice none  0 0)]) h 1 7 rfl rfl rfl sz35 rfl rfl ?_
  intro w h
  dsimp only [setH, setVs, setV] at h
  replace h : Mem ((fun (_ : Unit) => HL []) () :: row enc38 38 6 (none ) 0 ([] : List (Int × Int × Int × Int × Int × Int)) :: cel b_1 52 [(Value.int .i64 l_1), (Value.int .i64 l_2), (Value.int .i64 l_3), (Value.int .i64 l_4), (Value.int .i64 l_5), (Value.int .i64 l_6), (Value.slice p_5 list_2.length c_5), (Value.slice none  0 0), (Value.int .i64 last), (Value.int .i64 now_3)] :: row enc38 38 6 p_5 c_5 list_2 :: row enc38 38 6 p_6 c_6 gone_2 :: FL) _ := h.pack 0 [] rfl
  replace h := h.pick [4, 0]
  dsimp only [pickL, pickR, nthH, delH, dropH, List.cons_append, List.nil_append] at h
  refine slices_SortFunc_sl_api_Circuit_api_Circuit_ok (FL := row enc38 38 6 (none ) 0 ([] : List (Int × Int × Int × Int × Int × Int)) :: cel b_1 52 [(Value.int .i64 l_1), (Value.int .i64 l_2), (Value.int .i64 l_3), (Value.int .i64 l_4), (Value.int .i64 l_5), (Value.int .i64 l_6), (Value.slice p_5 list_2.length c_5), (Value.slice none  0 0), (Value.int .i64 last), (Value.int .i64 now_3)] :: row enc38 38 6 p_5 c_5 list_2 :: FL) (A1 := (fun (_ : Unit) => HL [])) (Y1 := (fun x_1 x_2 s K_1 => circ_Table_Gone_c1_wp x_1.1 x_1.2.1 x_1.2.2.1 x_1.2.2.2.1 x_1.2.2.2.2.1 x_1.2.2.2.2.2 x_2.1 x_2.2.1 x_2.2.2.1 x_2.2.2.2.1 x_2.2.2.2.2.1 x_2.2.2.2.2.2 (fun (r : Int) => K_1 r s))) (σ1 := Unit) (s := ()) ?_ rfl (by kernel_rfl) (enters_of Try.func23 (by kernel_rfl) rfl) (by repeat (first | exact exact_nil | refine exact_cons (exact_cel _ _ _) ?_)) h hp ?_
  · intro x_1 x_2 s K FL2 w R hx h hp hR
    replace h := h.unpack
    dsimp only [pickL, pickR, nthH, delH, dropH, List.cons_append, List.nil_append] at h
    refine calleeFn (by kernel_rfl) ?_
    refine circ_Table_Gone_c1_ok h hp ?_
    intro r w h hp
    exact hR r s _ (h.pack 0 [] rfl) hp
  rintro rs s_1 w hl_rs h hp
  replace h := h.pick [1]
  dsimp only [pickL, pickR, nthH, delH, dropH, List.cons_append, List.nil_append] at h
  replace h := h.unpack
  dsimp only [pickL, pickR, nthH, delH, dropH, List.cons_append, List.nil_append] at h
  refine ⟨rfl, ?_⟩
  refine slices_Values_sl_api_Circuit_api_Circuit_ok (FL := row enc38 38 6 p_6 c_6 rs :: row enc38 38 6 (none ) 0 ([] : List (Int × Int × Int × Int × Int × Int)) :: cel b_1 52 [(Value.int .i64 l_1), (Value.int .i64 l_2), (Value.int .i64 l_3), (Value.int .i64 l_4), (Value.int .i64 l_5), (Value.int .i64 l_6), (Value.slice p_5 list_2.length c_5), (Value.slice none  0 0), (Value.int .i64 last), (Value.int .i64 now_3)] :: row enc38 38 6 p_5 c_5 list_2 :: FL) (fun w h => (rowRd h 0 encL38 rfl)) hl_rs cpp_6 h hp ?_
  intro b_2 w h hp
  replace h := h.sel [0, 0, 1, 1, 0] 0
  dsimp only [pickL, pickR, nthH, delH, dropH, List.cons_append, List.nil_append] at h
  exact hR rs list_2 ([] : List (Int × Int × Int × Int × Int × Int)) now_3 b_2 p_6 gone_2.length c_6 p_5 list_2.length c_5 (none ) 0 0 _ hl_rs rfl rfl h hp

/-! embrasure/embrasurelaw24.CircCaps (5) -/
def embrasurelaw24_CircCaps_wp (l_Reservations : Int) (l_PerHost : Int) (l_Circuits : Int) (l_Life : Int) (l_Duration : Int) (l_Data : Int) (script : List (Int × Int × Int × Int × Int × Int)) (K : Bool → Prop) : Prop :=
  embrasurelaw24_awake_wp (fun (r : Bool) => cond (!r) (K (false)) (circ_New_wp l_Reservations l_PerHost l_Circuits l_Life l_Duration l_Data (fun (r_1 : Int) => K ((r_1 : Int) == 1)) (fun (r_2 : Int) (l_1 : Int) (l_2 : Int) (l_3 : Int) (l_4 : Int) (l_5 : Int) (l_6 : Int) (list : List (Int × Int × Int × Int × Int × Int)) (gone : List (Int × Int × Int × Int × Int × Int)) (last : Int) (now : Int) => 0 ≤ (102 : Int) ∧ 102 ≤ (102 : Int) ∧ (102 : Int) ≤ 140737488355328 ∧ ((16 : Nat) : Int) * 102 ≤ 140737488355328 ∧ (0 ≤ (102 : Int) ∧ 102 ≤ (102 : Int) ∧ (102 : Int) ≤ 140737488355328 ∧ ((8 : Nat) : Int) * 102 ≤ 140737488355328 ∧ (joinP6 (fun (x_1 : List (Int)) (x_2 : Int) (list_1 : List (Int × Int × Int × Int × Int × Int)) (gone_1 : List (Int × Int × Int × Int × Int × Int)) (last_1 : Int) (now_1 : Int) => K (true)) (fun (Q : List (Int) → Int → List (Int × Int × Int × Int × Int × Int) → List (Int × Int × Int × Int × Int × Int) → Int → Int → Prop) => ∃ (I : Nat → List (Int) → Int → List (Int × Int × Int × Int × Int × Int) → List (Int × Int × Int × Int × Int × Int) → Int → Int → List (Int × Int) → Int → Prop), (∃ (n_25 : Nat), I n_25 (List.replicate (Int.toNat 102) 0) 0 list gone last now (List.replicate (Int.toNat 102) (0, 0)) 0) ∧ ∀ (n_10 : Nat) (x_3 : List (Int)) (x_4 : Int) (list_2 : List (Int × Int × Int × Int × Int × Int)) (gone_2 : List (Int × Int × Int × Int × Int × Int)) (last_2 : Int) (now_2 : Int) (sum : List (Int × Int)) (i10 : Int), I n_10 x_3 x_4 list_2 gone_2 last_2 now_2 sum i10 → (joinP1 (fun (t38 : Bool) => cond t38 (0 ≤ (i10 : Int) ∧ (i10 : Int) < ((script.length : Nat) : Int) ∧ (∀ (x_5 : Int × Int × Int × Int × Int × Int), script[Int.toNat i10]? = some x_5 → (joinP1 (fun (x_6 : Int) => joinP6 (fun (x_7 : List (Int)) (list_3 : List (Int × Int × Int × Int × Int × Int)) (gone_3 : List (Int × Int × Int × Int × Int × Int)) (last_3 : Int) (now_3 : Int) (sum_1 : List (Int × Int)) => circ_Table_All_wp l_1 l_2 l_3 l_4 l_5 l_6 list_3 gone_3 last_3 now_3 x_6 (fun (rs : List (Int × Int × Int × Int × Int × Int)) (list_7 : List (Int × Int × Int × Int × Int × Int)) (gone_7 : List (Int × Int × Int × Int × Int × Int)) (now_7 : Int) => cond (decide ((((rs.length : Nat) : Int) : Int) > l_Circuits)) (K (false)) (∃ (n_24 : Nat), n_24 < n_10 ∧ I n_24 x_7 x_6 list_7 gone_7 last_3 now_7 sum_1 (IntKind.wrap .i64 (i10 + 1))))) (fun (Q_4 : List (Int) → List (Int × Int × Int × Int × Int × Int) → List (Int × Int × Int × Int × Int × Int) → Int → Int → List (Int × Int) → Prop) => cond ((x_5.1 : Int) == 0) (circ_Table_Open_wp l_1 l_2 l_3 l_4 l_5 l_6 list_2 gone_2 last_2 now_2 x_6 x_5.2.2.2.1 x_5.2.2.2.2.1 x_5.2.2.2.2.2 (fun (r_3 : Int) (r_4 : Int) (list_4 : List (Int × Int × Int × Int × Int × Int)) (gone_4 : List (Int × Int × Int × Int × Int × Int)) (last_4 : Int) (now_4 : Int) => cond ((r_4 : Int) == 0) (joinP1 (fun (t79 : Bool) => cond t79 (K (false)) (0 ≤ (r_3 : Int) ∧ (r_3 : Int) < ((x_3.length : Nat) : Int) ∧ (Q_4 (List.set x_3 (Int.toNat r_3) (if ((IntKind.wrap .i64 (x_6 + l_Duration)) : Int) < x_5.2.2.2.2.2 then (IntKind.wrap .i64 (x_6 + l_Duration)) else x_5.2.2.2.2.2)) list_4 gone_4 last_4 now_4 sum))) (fun (Q_5 : Bool → Prop) => cond (decide ((r_3 : Int) < 1)) (Q_5 true) (Q_5 (decide ((r_3 : Int) > 100))))) (Q_4 x_3 list_4 gone_4 last_4 now_4 sum))) (cond ((x_5.1 : Int) == 1) (circ_Table_Forward_wp l_1 l_2 l_3 l_4 l_5 l_6 list_2 gone_2 last_2 now_2 x_6 x_5.2.2.1 x_5.2.2.2.1 x_5.2.2.2.2.2 (fun (r_5 : Int) (r_6 : Int) (list_5 : List (Int × Int × Int × Int × Int × Int)) (gone_5 : List (Int × Int × Int × Int × Int × Int)) (now_5 : Int) => cond ((r_6 : Int) == 0) (joinP1 (fun (t134 : Bool) => cond t134 (K (false)) (joinP1 (fun (k16 : Int) => 0 ≤ (x_5.2.2.1 : Int) ∧ (x_5.2.2.1 : Int) < (((Int.toNat 102) : Nat) : Int) ∧ (0 ≤ (k16 : Int) ∧ (k16 : Int) < ((2 : Nat) : Int) ∧ (((k16 : Int) = 0 → (∀ (x_10 : Int × Int), sum[Int.toNat x_5.2.2.1]? = some x_10 → (0 ≤ (x_5.2.2.1 : Int) ∧ (x_5.2.2.1 : Int) < (((Int.toNat 102) : Nat) : Int) ∧ (0 ≤ (k16 : Int) ∧ (k16 : Int) < ((2 : Nat) : Int) ∧ (∀ (x_11 : Int × Int), sum[Int.toNat x_5.2.2.1]? = some x_11 → (0 ≤ (x_5.2.2.1 : Int) ∧ (x_5.2.2.1 : Int) < (((Int.toNat 102) : Nat) : Int) ∧ (0 ≤ (k16 : Int) ∧ (k16 : Int) < ((2 : Nat) : Int) ∧ (∀ (x_12 : Int × Int), (List.set sum (Int.toNat x_5.2.2.1) ((IntKind.wrap .i64 (x_10.1 + x_5.2.2.2.2.2)), x_11.2))[Int.toNat x_5.2.2.1]? = some x_12 → (cond (decide ((x_12.1 : Int) > l_Data)) (K (false)) (Q_4 x_3 list_5 gone_5 last_2 now_5 (List.set sum (Int.toNat x_5.2.2.1) ((IntKind.wrap .i64 (x_10.1 + x_5.2.2.2.2.2)), x_11.2)))))))))))) ∧ ((k16 : Int) = 1 → (∀ (x_13 : Int × Int), sum[Int.toNat x_5.2.2.1]? = some x_13 → (0 ≤ (x_5.2.2.1 : Int) ∧ (x_5.2.2.1 : Int) < (((Int.toNat 102) : Nat) : Int) ∧ (0 ≤ (k16 : Int) ∧ (k16 : Int) < ((2 : Nat) : Int) ∧ (∀ (x_14 : Int × Int), sum[Int.toNat x_5.2.2.1]? = some x_14 → (0 ≤ (x_5.2.2.1 : Int) ∧ (x_5.2.2.1 : Int) < (((Int.toNat 102) : Nat) : Int) ∧ (0 ≤ (k16 : Int) ∧ (k16 : Int) < ((2 : Nat) : Int) ∧ (∀ (x_15 : Int × Int), (List.set sum (Int.toNat x_5.2.2.1) (x_14.1, (IntKind.wrap .i64 (x_13.2 + x_5.2.2.2.2.2))))[Int.toNat x_5.2.2.1]? = some x_15 → (cond (decide ((x_15.2 : Int) > l_Data)) (K (false)) (Q_4 x_3 list_5 gone_5 last_2 now_5 (List.set sum (Int.toNat x_5.2.2.1) (x_14.1, (IntKind.wrap .i64 (x_13.2 + x_5.2.2.2.2.2))))))))))))))))) (fun (Q_7 : Int → Prop) => cond (decide ((r_5 : Int) < x_5.2.2.2.1)) (Q_7 1) (Q_7 0)))) (fun (Q_6 : Bool → Prop) => cond (decide ((x_5.2.2.1 : Int) < 1)) (Q_6 true) (cond (decide ((x_5.2.2.1 : Int) > 100)) (Q_6 true) (0 ≤ (x_5.2.2.1 : Int) ∧ (x_5.2.2.1 : Int) < ((x_3.length : Nat) : Int) ∧ (∀ (x_9 : Int), x_3[Int.toNat x_5.2.2.1]? = some x_9 → (cond (decide ((x_6 : Int) ≥ x_9)) (Q_6 true) (cond ((r_5 : Int) == x_5.2.2.2.1) (Q_6 true) (Q_6 (decide ((x_5.2.2.2.2.2 : Int) < 0)))))))))) (Q_4 x_3 list_5 gone_5 last_2 now_5 sum))) (circ_Table_Gone_wp l_1 l_2 l_3 l_4 l_5 l_6 list_2 gone_2 last_2 now_2 x_6 (fun (x_16 : List (Int × Int × Int × Int × Int × Int)) (list_6 : List (Int × Int × Int × Int × Int × Int)) (gone_6 : List (Int × Int × Int × Int × Int × Int)) (now_6 : Int) => slices_Values_sl_api_Circuit_api_Circuit__c1_wp 0 (fun x_17 (s : Nat) K_1 => s = 0 ∧ (joinP1 (fun (t192 : Bool) => cond t192 (K_1 false 1) (K_1 true 0)) (fun (Q_8 : Bool → Prop) => cond (decide ((x_17.1 : Int) < 1)) (Q_8 true) (cond (decide ((x_17.1 : Int) > 100)) (Q_8 true) (0 ≤ (x_17.1 : Int) ∧ (x_17.1 : Int) < ((x_3.length : Nat) : Int) ∧ (∀ (x_18 : Int), x_3[Int.toNat x_17.1]? = some x_18 → (cond ((x_18 : Int) != x_17.2.2.2.1) (Q_8 true) (Q_8 (decide ((x_17.2.2.2.1 : Int) > x_6)))))))))) x_16 (fun (s_1 : (Nat)) => (s_1 = 0 ∧ (Q_4 x_3 list_6 gone_6 last_2 now_6 sum)) ∨ (s_1 ≠ 0 ∧ (K (false))))))))) (fun (Q_2 : Int → Prop) => joinP1 (fun (t52 : Bool) => cond t52 (Q_2 (IntKind.wrap .i64 (x_4 + x_5.2.1))) (Q_2 x_4)) (fun (Q_3 : Bool → Prop) => cond (decide ((x_5.2.1 : Int) > 0)) (Q_3 (decide ((x_5.2.1 : Int) < 1000))) (Q_3 false)))))) (Q x_3 x_4 list_2 gone_2 last_2 now_2)) (fun (Q_1 : Bool → Prop) => cond (decide ((i10 : Int) < ((script.length : Nat) : Int))) (Q_1 (decide ((i10 : Int) < 100))) (Q_1 false)))))))))
theorem embrasurelaw24_CircCaps_ok {p_1 : Option Addr} {n_1 : Nat} {c_1 : Nat} {l_Reservations : Int} {l_PerHost : Int} {l_Circuits : Int} {l_Life : Int} {l_Duration : Int} {l_Data : Int} {script : List (Int × Int × Int × Int × Int × Int)} {FL : List HP} {w : World} {K : Bool → Prop} {R : Value → World → Prop}
  (hF_script : ∀ w, Mem FL w → Rd w 6 p_1 enc46 script) (hl_script : n_1 = script.length) (hc_script : n_1 ≤ c_1)
  (h : Mem (FL) w) (hp : embrasurelaw24_CircCaps_wp l_Reservations l_PerHost l_Circuits l_Life l_Duration l_Data script K)
  (hR : ∀ (r : Bool) (w : World), Mem (FL) w → K r → R (Value.bool r) w) :
  CallV Try.prog 5 #[(Value.agg #[(Value.int .i64 l_Reservations), (Value.int .i64 l_PerHost), (Value.int .i64 l_Circuits), (Value.int .i64 l_Life), (Value.int .i64 l_Duration), (Value.int .i64 l_Data)]), (Value.slice p_1 n_1 c_1)] w R := by
  refine embrasurelaw24_CircCaps_call ?_
  unfold embrasurelaw24_CircCaps
  unfold embrasurelaw24_CircCaps_wp at hp
  subst hl_script
  replace h := marksNil h
  refine newL (o := [(Value.int .i64 l_Reservations), (Value.int .i64 l_PerHost), (Value.int .i64 l_Circuits), (Value.int .i64 l_Life), (Value.int .i64 l_Duration), (Value.int .i64 l_Data)]) h ?_
  intro b_1 w h
  refine newL (o := [(Value.bool false)]) h ?_
  intro b_2 w h
  refine embrasurelaw24_awake_ok h hp ?_
  intro r w h hp
  refine ⟨_, rfl, ?_⟩
  refine cond_both hp (fun hp => ?_) (fun hp => ?_)
  · refine storeL (ys := [(Value.bool false)]) h 0 0 rfl rfl rfl sz4 rfl rfl ?_
    intro w h
    dsimp only [setH, setVs, setV] at h
    replace h := h.pick [2]
    dsimp only [pickL, pickR, nthH, delH, dropH, List.cons_append, List.nil_append] at h
    refine ⟨_, cellL h 1 0 rfl rfl rfl, ?_⟩
    replace h := h.sel [] 3
    dsimp only [pickL, pickR, nthH, delH, dropH, List.cons_append, List.nil_append] at h
    exact hR (false) _ h hp
  refine ⟨_, cellL h 1 0 rfl rfl rfl, _, cellL h 1 1 rfl rfl rfl, _, cellL h 1 2 rfl rfl rfl, _, cellL h 1 3 rfl rfl rfl, _, cellL h 1 4 rfl rfl rfl, _, cellL h 1 5 rfl rfl rfl, ?_⟩
  refine circ_New_ok h hp ?_ ?_
  · intro r_1 w h hp
    refine ⟨_, _, rfl, ?_⟩
    refine eqlPtrNN undP28 ?_
    refine ⟨_, rfl, ?_⟩
    refine cond_tt ?_
    refine storeL (ys := [(Value.bool ((r_1 : Int) == 1))]) h 0 0 rfl rfl rfl sz4 rfl rfl ?_
    intro w h
    dsimp only [setH, setVs, setV] at h
    replace h := h.pick [2]
    dsimp only [pickL, pickR, nthH, delH, dropH, List.cons_append, List.nil_append] at h
    refine ⟨_, cellL h 1 0 rfl rfl rfl, ?_⟩
    replace h := h.sel [] 3
    dsimp only [pickL, pickR, nthH, delH, dropH, List.cons_append, List.nil_append] at h
    exact hR ((r_1 : Int) == 1) _ h hp
  rintro r_2 l_1 l_2 l_3 l_4 l_5 l_6 list gone last now b_3 p_2 n_2 c_2 p_3 n_3 c_3 w rfl rfl h hp
  have cpp_2 := rowCap h 1 rfl
  have cpp_3 := rowCap h 2 rfl
  refine ⟨_, _, rfl, ?_⟩
  refine eqlPtrNil undP28 ?_
  refine ⟨_, rfl, ?_⟩
  refine cond_ff ?_
  refine newL (o := [(Value.int .i64 0)]) h ?_
  intro b_4 w h
  refine storeL (ys := [(Value.int .i64 0)]) h 0 0 rfl rfl rfl sz3 rfl rfl ?_
  intro w h
  dsimp only [setH, setVs, setV] at h
  obtain ⟨g_1a, g_1b, g_1d, g_1e, hp⟩ := hp
  refine ⟨g_1a, g_1b, g_1d, g_1e, ?_⟩
  have g_1c : 0 ≤ (102 : Int) := Int.le_trans g_1a g_1b
  refine makeL (x0 := (0, 0)) (T := 34) h encL34 rfl (natLe2 g_1a g_1c g_1b) ?_
  intro b_5 w h
  obtain ⟨g_2a, g_2b, g_2d, g_2e, hp⟩ := hp
  refine ⟨g_2a, g_2b, g_2d, g_2e, ?_⟩
  have g_2c : 0 ≤ (102 : Int) := Int.le_trans g_2a g_2b
  refine makeL (x0 := 0) (T := 3) h encL3 rfl (natLe2 g_2a g_2c g_2b) ?_
  intro b_6 w h
  refine newL (o := [(Value.slice none 0 0)]) h ?_
  intro b_7 w h
  refine storeL (ys := [(Value.slice (some ⟨b_6, 0, none⟩) (Int.toNat 102) (Int.toNat 102))]) h 0 0 rfl rfl rfl sz44 rfl rfl ?_
  intro w h
  dsimp only [setH, setVs, setV] at h
  obtain ⟨Q, hq, hp⟩ := hp
  refine ⟨fun t4 m_1 w => ∃ (x_1 : List (Int)), ∃ (p_4 : Option Addr), ∃ (n_4 : Nat), ∃ (c_4 : Nat), ∃ (x_2 : Int), ∃ (list_1 : List (Int × Int × Int × Int × Int × Int)), ∃ (p_5 : Option Addr), ∃ (n_5 : Nat), ∃ (c_5 : Nat), ∃ (gone_1 : List (Int × Int × Int × Int × Int × Int)), ∃ (p_6 : Option Addr), ∃ (n_6 : Nat), ∃ (c_6 : Nat), ∃ (last_1 : Int), ∃ (now_1 : Int), (Addr.mk b_2 0 none) = t4 ∧ n_4 = x_1.length ∧ n_5 = list_1.length ∧ n_6 = gone_1.length ∧ Q x_1 x_2 list_1 gone_1 last_1 now_1 ∧ Mem (cel b_7 44 [(Value.slice p_4 n_4 c_4)] :: row enc3 3 1 p_4 c_4 x_1 :: cel b_4 3 [(Value.int .i64 x_2)] :: cel b_3 52 [(Value.int .i64 l_1), (Value.int .i64 l_2), (Value.int .i64 l_3), (Value.int .i64 l_4), (Value.int .i64 l_5), (Value.int .i64 l_6), (Value.slice p_5 n_5 c_5), (Value.slice p_6 n_6 c_6), (Value.int .i64 last_1), (Value.int .i64 now_1)] :: row enc38 38 6 p_5 c_5 list_1 :: row enc38 38 6 p_6 c_6 gone_1 :: cel b_2 4 [(Value.bool false)] :: cel b_1 23 [(Value.int .i64 l_Reservations), (Value.int .i64 l_PerHost), (Value.int .i64 l_Circuits), (Value.int .i64 l_Life), (Value.int .i64 l_Duration), (Value.int .i64 l_Data)] :: marksP m_1 :: FL) w, ?_, ?_⟩
  · rintro t4 m_1 w ⟨x_1, p_4, n_4, c_4, x_2, list_1, p_5, n_5, c_5, gone_1, p_6, n_6, c_6, last_1, now_1, rfl, rfl, rfl, rfl, hp, h⟩
    replace hp := hq x_1 x_2 list_1 gone_1 last_1 now_1 hp
    unfold embrasurelaw24_CircCaps_j1
    have cpp_4 := rowCap h 1 rfl
    have cpp_5 := rowCap h 4 rfl
    have cpp_6 := rowCap h 5 rfl
    refine storeL (ys := [(Value.bool true)]) h 6 0 rfl rfl rfl sz4 rfl rfl ?_
    intro w h
    dsimp only [setH, setVs, setV] at h
    replace h := h.pick [8]
    dsimp only [pickL, pickR, nthH, delH, dropH, List.cons_append, List.nil_append] at h
    refine finishMarks _ h ?_
    intro w h
    refine ⟨_, cellL h 6 0 rfl rfl rfl, ?_⟩
    replace h := h.sel [] 8
    dsimp only [pickL, pickR, nthH, delH, dropH, List.cons_append, List.nil_append] at h
    exact hR (true) _ h hp
  clear hq
  obtain ⟨I, ⟨n_25, h0⟩, hq⟩ := hp
  replace h := h.sel [0, 0, 1, 1, 1, 1, 1, 1, 1, 0] 0
  dsimp only [pickL, pickR, nthH, delH, dropH, List.cons_append, List.nil_append] at h
  refine ⟨fun n_10 script1p script1l script1c l2 t4_1 t5 now7 sum8p sum8l sum8c until9 i10 m_2 w => ∃ (x_3 : List (Int)), ∃ (p_7 : Option Addr), ∃ (n_7 : Nat), ∃ (c_7 : Nat), ∃ (x_4 : Int), ∃ (list_2 : List (Int × Int × Int × Int × Int × Int)), ∃ (p_8 : Option Addr), ∃ (n_8 : Nat), ∃ (c_8 : Nat), ∃ (gone_2 : List (Int × Int × Int × Int × Int × Int)), ∃ (p_9 : Option Addr), ∃ (n_9 : Nat), ∃ (c_9 : Nat), ∃ (last_2 : Int), ∃ (now_2 : Int), ∃ (sum : List (Int × Int)), p_1 = script1p ∧ script.length = script1l ∧ c_1 = script1c ∧ (Addr.mk b_1 0 none) = l2 ∧ (Addr.mk b_2 0 none) = t4_1 ∧ (some (Addr.mk b_3 0 none)) = t5 ∧ (Addr.mk b_4 0 none) = now7 ∧ (some ⟨b_5, 0, none⟩) = sum8p ∧ (Int.toNat 102) = sum8l ∧ (Int.toNat 102) = sum8c ∧ (Addr.mk b_7 0 none) = until9 ∧ n_7 = x_3.length ∧ n_8 = list_2.length ∧ n_9 = gone_2.length ∧ (Int.toNat 102) = sum.length ∧ I n_10 x_3 x_4 list_2 gone_2 last_2 now_2 sum i10 ∧ Mem (cel b_7 44 [(Value.slice p_7 n_7 c_7)] :: row enc3 3 1 p_7 c_7 x_3 :: cel b_4 3 [(Value.int .i64 x_4)] :: cel b_3 52 [(Value.int .i64 l_1), (Value.int .i64 l_2), (Value.int .i64 l_3), (Value.int .i64 l_4), (Value.int .i64 l_5), (Value.int .i64 l_6), (Value.slice p_8 n_8 c_8), (Value.slice p_9 n_9 c_9), (Value.int .i64 last_2), (Value.int .i64 now_2)] :: row enc38 38 6 p_8 c_8 list_2 :: row enc38 38 6 p_9 c_9 gone_2 :: cel b_2 4 [(Value.bool false)] :: cel b_1 23 [(Value.int .i64 l_Reservations), (Value.int .i64 l_PerHost), (Value.int .i64 l_Circuits), (Value.int .i64 l_Life), (Value.int .i64 l_Duration), (Value.int .i64 l_Data)] :: marksP m_2 :: row enc34 34 2 (some ⟨b_5, 0, none⟩) (Int.toNat 102) sum :: FL) w, ⟨n_25, (List.replicate (Int.toNat 102) 0), (some ⟨b_6, 0, none⟩), (Int.toNat 102), (Int.toNat 102), 0, list, p_2, list.length, c_2, gone, p_3, gone.length, c_3, last, now, (List.replicate (Int.toNat 102) (0, 0)), rfl, rfl, rfl, rfl, rfl, rfl, rfl, rfl, rfl, rfl, rfl, (List.length_replicate).symm, rfl, rfl, (List.length_replicate).symm, h0, h⟩, ?_⟩
  clear h0 h
  rintro n_10 script1p script1l script1c l2 t4_1 t5 now7 sum8p sum8l sum8c until9 i10 m_2 w ⟨x_3, p_7, n_7, c_7, x_4, list_2, p_8, n_8, c_8, gone_2, p_9, n_9, c_9, last_2, now_2, sum, rfl, rfl, rfl, rfl, rfl, rfl, rfl, rfl, rfl, rfl, rfl, rfl, rfl, rfl, hl_sum, hp, h⟩
  replace hp := hq n_10 x_3 x_4 list_2 gone_2 last_2 now_2 sum i10 hp
  clear hq
  unfold embrasurelaw24_CircCaps_l2
  have cpp_7 := rowCap h 1 rfl
  have cpp_8 := rowCap h 4 rfl
  have cpp_9 := rowCap h 5 rfl
  obtain ⟨Q_1, hq, hp⟩ := hp
  refine ⟨fun script1_1p script1_1l script1_1c l2_1 t4_2 t5_1 now7_1 sum8_1p sum8_1l sum8_1c until9_1 i10_1 t38 m_3 w => p_1 = script1_1p ∧ script.length = script1_1l ∧ c_1 = script1_1c ∧ (Addr.mk b_1 0 none) = l2_1 ∧ (Addr.mk b_2 0 none) = t4_2 ∧ (some (Addr.mk b_3 0 none)) = t5_1 ∧ (Addr.mk b_4 0 none) = now7_1 ∧ (some ⟨b_5, 0, none⟩) = sum8_1p ∧ (Int.toNat 102) = sum8_1l ∧ (Int.toNat 102) = sum8_1c ∧ (Addr.mk b_7 0 none) = until9_1 ∧ i10 = i10_1 ∧ Q_1 t38 ∧ Mem (cel b_7 44 [(Value.slice p_7 x_3.length c_7)] :: row enc3 3 1 p_7 c_7 x_3 :: cel b_4 3 [(Value.int .i64 x_4)] :: cel b_3 52 [(Value.int .i64 l_1), (Value.int .i64 l_2), (Value.int .i64 l_3), (Value.int .i64 l_4), (Value.int .i64 l_5), (Value.int .i64 l_6), (Value.slice p_8 list_2.length c_8), (Value.slice p_9 gone_2.length c_9), (Value.int .i64 last_2), (Value.int .i64 now_2)] :: row enc38 38 6 p_8 c_8 list_2 :: row enc38 38 6 p_9 c_9 gone_2 :: cel b_2 4 [(Value.bool false)] :: cel b_1 23 [(Value.int .i64 l_Reservations), (Value.int .i64 l_PerHost), (Value.int .i64 l_Circuits), (Value.int .i64 l_Life), (Value.int .i64 l_Duration), (Value.int .i64 l_Data)] :: marksP m_3 :: row enc34 34 2 (some ⟨b_5, 0, none⟩) (Int.toNat 102) sum :: FL) w, ?_, ?_⟩
  · rintro script1_1p script1_1l script1_1c l2_1 t4_2 t5_1 now7_1 sum8_1p sum8_1l sum8_1c until9_1 i10_1 t38 m_3 w ⟨rfl, rfl, rfl, rfl, rfl, rfl, rfl, rfl, rfl, rfl, rfl, rfl, hp, h⟩
    replace hp := hq t38 hp
    unfold embrasurelaw24_CircCaps_j3
    refine cond_both' hp (fun hp => ?_) (fun hp => ?_)
    · replace h := h.sel [0, 0, 0, 0, 0, 0, 0, 0, 0] 1
      dsimp only [pickL, pickR, nthH, delH, dropH, List.cons_append, List.nil_append] at h
      exact ⟨x_3, p_7, x_3.length, c_7, x_4, list_2, p_8, list_2.length, c_8, gone_2, p_9, gone_2.length, c_9, last_2, now_2, rfl, rfl, rfl, rfl, hp, h⟩
    obtain ⟨ia_1, ja_1, hp⟩ := hp
    obtain ⟨a_1, ha_1⟩ := rdAddr (hF_script _ (h.drop 10)) rfl ia_1 ja_1
    refine ⟨a_1, ha_1, ia_1, ja_1, ?_⟩
    obtain ⟨x_5, hx_5, hc⟩ := rdCell (hF_script _ (h.drop 10)) ha_1 rfl ia_1 ja_1
    replace hp := hp x_5 hx_5
    refine ⟨_, hc 0 _ rfl, _, hc 1 _ rfl, _, hc 2 _ rfl, _, hc 3 _ rfl, _, hc 4 _ rfl, _, hc 5 _ rfl, ?_⟩
    refine newL (o := [(Value.int .i64 0), (Value.int .i64 0), (Value.int .i64 0), (Value.int .i64 0), (Value.int .i64 0), (Value.int .i64 0)]) h ?_
    intro b_8 w h
    refine storeL (ys := [(Value.int .i64 x_5.1), (Value.int .i64 x_5.2.1), (Value.int .i64 x_5.2.2.1), (Value.int .i64 x_5.2.2.2.1), (Value.int .i64 x_5.2.2.2.2.1), (Value.int .i64 x_5.2.2.2.2.2)]) h 0 0 rfl rfl rfl sz46 rfl rfl ?_
    intro w h
    dsimp only [setH, setVs, setV] at h
    obtain ⟨Q_2, hq, hp⟩ := hp
    refine ⟨fun script1_2p script1_2l script1_2c l2_2 t4_3 t5_2 now7_2 sum8_2p sum8_2l sum8_2c until9_2 i10_2 d11 m_4 w => ∃ (x_6 : Int), p_1 = script1_2p ∧ script.length = script1_2l ∧ c_1 = script1_2c ∧ (Addr.mk b_1 0 none) = l2_2 ∧ (Addr.mk b_2 0 none) = t4_3 ∧ (some (Addr.mk b_3 0 none)) = t5_2 ∧ (Addr.mk b_4 0 none) = now7_2 ∧ (some ⟨b_5, 0, none⟩) = sum8_2p ∧ (Int.toNat 102) = sum8_2l ∧ (Int.toNat 102) = sum8_2c ∧ (Addr.mk b_7 0 none) = until9_2 ∧ i10 = i10_2 ∧ (Addr.mk b_8 0 none) = d11 ∧ Q_2 x_6 ∧ Mem (cel b_8 46 [(Value.int .i64 x_5.1), (Value.int .i64 x_5.2.1), (Value.int .i64 x_5.2.2.1), (Value.int .i64 x_5.2.2.2.1), (Value.int .i64 x_5.2.2.2.2.1), (Value.int .i64 x_5.2.2.2.2.2)] :: cel b_7 44 [(Value.slice p_7 x_3.length c_7)] :: row enc3 3 1 p_7 c_7 x_3 :: cel b_4 3 [(Value.int .i64 x_6)] :: cel b_3 52 [(Value.int .i64 l_1), (Value.int .i64 l_2), (Value.int .i64 l_3), (Value.int .i64 l_4), (Value.int .i64 l_5), (Value.int .i64 l_6), (Value.slice p_8 list_2.length c_8), (Value.slice p_9 gone_2.length c_9), (Value.int .i64 last_2), (Value.int .i64 now_2)] :: row enc38 38 6 p_8 c_8 list_2 :: row enc38 38 6 p_9 c_9 gone_2 :: cel b_2 4 [(Value.bool false)] :: cel b_1 23 [(Value.int .i64 l_Reservations), (Value.int .i64 l_PerHost), (Value.int .i64 l_Circuits), (Value.int .i64 l_Life), (Value.int .i64 l_Duration), (Value.int .i64 l_Data)] :: marksP m_4 :: row enc34 34 2 (some ⟨b_5, 0, none⟩) (Int.toNat 102) sum :: FL) w, ?_, ?_⟩
    · rintro script1_2p script1_2l script1_2c l2_2 t4_3 t5_2 now7_2 sum8_2p sum8_2l sum8_2c until9_2 i10_2 d11 m_4 w ⟨x_6, rfl, rfl, rfl, rfl, rfl, rfl, rfl, rfl, rfl, rfl, rfl, rfl, rfl, hp, h⟩
      replace hp := hq x_6 hp
      unfold embrasurelaw24_CircCaps_j4
      obtain ⟨Q_4, hq, hp⟩ := hp
      refine ⟨fun script1_4p script1_4l script1_4c l2_4 t4_5 t5_4 now7_4 sum8_4p sum8_4l sum8_4c until9_4 i10_4 m_6 w => ∃ (x_7 : List (Int)), ∃ (p_10 : Option Addr), ∃ (n_11 : Nat), ∃ (c_10 : Nat), ∃ (list_3 : List (Int × Int × Int × Int × Int × Int)), ∃ (p_11 : Option Addr), ∃ (n_12 : Nat), ∃ (c_11 : Nat), ∃ (gone_3 : List (Int × Int × Int × Int × Int × Int)), ∃ (p_12 : Option Addr), ∃ (n_13 : Nat), ∃ (c_12 : Nat), ∃ (last_3 : Int), ∃ (now_3 : Int), ∃ (sum_1 : List (Int × Int)), p_1 = script1_4p ∧ script.length = script1_4l ∧ c_1 = script1_4c ∧ (Addr.mk b_1 0 none) = l2_4 ∧ (Addr.mk b_2 0 none) = t4_5 ∧ (some (Addr.mk b_3 0 none)) = t5_4 ∧ (Addr.mk b_4 0 none) = now7_4 ∧ (some ⟨b_5, 0, none⟩) = sum8_4p ∧ (Int.toNat 102) = sum8_4l ∧ (Int.toNat 102) = sum8_4c ∧ (Addr.mk b_7 0 none) = until9_4 ∧ i10 = i10_4 ∧ n_11 = x_7.length ∧ n_12 = list_3.length ∧ n_13 = gone_3.length ∧ (Int.toNat 102) = sum_1.length ∧ Q_4 x_7 list_3 gone_3 last_3 now_3 sum_1 ∧ Mem (cel b_8 46 [(Value.int .i64 x_5.1), (Value.int .i64 x_5.2.1), (Value.int .i64 x_5.2.2.1), (Value.int .i64 x_5.2.2.2.1), (Value.int .i64 x_5.2.2.2.2.1), (Value.int .i64 x_5.2.2.2.2.2)] :: cel b_7 44 [(Value.slice p_10 n_11 c_10)] :: row enc3 3 1 p_10 c_10 x_7 :: cel b_4 3 [(Value.int .i64 x_6)] :: cel b_3 52 [(Value.int .i64 l_1), (Value.int .i64 l_2), (Value.int .i64 l_3), (Value.int .i64 l_4), (Value.int .i64 l_5), (Value.int .i64 l_6), (Value.slice p_11 n_12 c_11), (Value.slice p_12 n_13 c_12), (Value.int .i64 last_3), (Value.int .i64 now_3)] :: row enc38 38 6 p_11 c_11 list_3 :: row enc38 38 6 p_12 c_12 gone_3 :: cel b_2 4 [(Value.bool false)] :: cel b_1 23 [(Value.int .i64 l_Reservations), (Value.int .i64 l_PerHost), (Value.int .i64 l_Circuits), (Value.int .i64 l_Life), (Value.int .i64 l_Duration), (Value.int .i64 l_Data)] :: marksP m_6 :: row enc34 34 2 (some ⟨b_5, 0, none⟩) (Int.toNat 102) sum_1 :: FL) w, ?_, ?_⟩
      · rintro script1_4p script1_4l script1_4c l2_4 t4_5 t5_4 now7_4 sum8_4p sum8_4l sum8_4c until9_4 i10_4 m_6 w ⟨x_7, p_10, n_11, c_10, list_3, p_11, n_12, c_11, gone_3, p_12, n_13, c_12, last_3, now_3, sum_1, rfl, rfl, rfl, rfl, rfl, rfl, rfl, rfl, rfl, rfl, rfl, rfl, rfl, rfl, rfl, hl_sum_1, hp, h⟩
        replace hp := hq x_7 list_3 gone_3 last_3 now_3 sum_1 hp
        unfold embrasurelaw24_CircCaps_j5
        have cpp_10 := rowCap h 2 rfl
        have cpp_11 := rowCap h 5 rfl
        have cpp_12 := rowCap h 6 rfl
        replace h := h.drew
        refine ⟨fun w => Mem (cel b_1 23 [(Value.int .i64 l_Reservations), (Value.int .i64 l_PerHost), (Value.int .i64 l_Circuits), (Value.int .i64 l_Life), (Value.int .i64 l_Duration), (Value.int .i64 l_Data)] :: FL) w, (h.sel [8] 10), ?_⟩
        refine ⟨_, cellL h 3 0 rfl rfl rfl, ?_⟩
        refine ⟨_, cellL h 8 2 rfl rfl rfl, ?_⟩
        refine ⟨?_, ?_⟩
        · intro w h
          change Mem _ _ at h
          refine ⟨_, cellL h 0 2 rfl rfl rfl, ?_⟩
          exact ⟨rfl, rfl⟩
        replace h := h.pick [4, 4, 4]
        dsimp only [pickL, pickR, nthH, delH, dropH, List.cons_append, List.nil_append] at h
        refine circ_Table_All_ok h hp ?_
        rintro rs list_7 gone_7 now_7 p_20 n_21 c_20 p_21 n_22 c_21 p_22 n_23 c_22 w rfl rfl rfl h hp
        have cpp_20 := rowCap h 0 rfl
        have cpp_21 := rowCap h 2 rfl
        have cpp_22 := rowCap h 3 rfl
        refine ⟨_, _, _, rfl, ?_⟩
        refine ⟨(h.sel [9] 11), ?_⟩
        refine ⟨?_, ?_⟩
        · intro w h
          change Mem _ _ at h
          exact ⟨rfl, rfl⟩
        refine cond_both' hp (fun hp => ?_) (fun hp => ?_)
        · replace h := h.sel [5, 5, 5, 1, 1, 1, 2, 2, 2, 2] 2
          dsimp only [pickL, pickR, nthH, delH, dropH, List.cons_append, List.nil_append] at h
          obtain ⟨n_24, hn, hp⟩ := hp
          exact ⟨n_24, hn, x_7, p_10, x_7.length, c_10, x_6, list_7, p_21, list_7.length, c_21, gone_7, p_22, gone_7.length, c_22, last_3, now_7, sum_1, rfl, rfl, rfl, rfl, rfl, rfl, rfl, rfl, rfl, rfl, rfl, rfl, rfl, rfl, hl_sum_1, hp, h⟩
        refine storeL (ys := [(Value.bool false)]) h 8 0 rfl rfl rfl sz4 rfl rfl ?_
        intro w h
        dsimp only [setH, setVs, setV] at h
        replace h := h.pick [10]
        dsimp only [pickL, pickR, nthH, delH, dropH, List.cons_append, List.nil_append] at h
        refine finishMarks _ h ?_
        intro w h
        refine ⟨_, cellL h 8 0 rfl rfl rfl, ?_⟩
        replace h := h.sel [] 11
        dsimp only [pickL, pickR, nthH, delH, dropH, List.cons_append, List.nil_append] at h
        exact hR (false) _ h hp
      clear hq
      refine ⟨_, cellL h 0 0 rfl rfl rfl, ?_⟩
      refine cond_both hp (fun hp => ?_) (fun hp => ?_)
      · refine ⟨_, cellL h 3 0 rfl rfl rfl, ?_⟩
        refine ⟨_, cellL h 0 3 rfl rfl rfl, ?_⟩
        refine ⟨_, cellL h 0 4 rfl rfl rfl, ?_⟩
        refine ⟨_, cellL h 0 5 rfl rfl rfl, ?_⟩
        replace h := h.pick [4, 4, 4]
        dsimp only [pickL, pickR, nthH, delH, dropH, List.cons_append, List.nil_append] at h
        refine circ_Table_Open_ok h hp ?_
        rintro r_3 r_4 list_4 gone_4 last_4 now_4 p_13 n_14 c_13 p_14 n_15 c_14 w rfl rfl h hp
        have cpp_13 := rowCap h 1 rfl
        have cpp_14 := rowCap h 2 rfl
        refine ⟨_, _, rfl, ?_⟩
        refine cond_both' hp (fun hp => ?_) (fun hp => ?_)
        · replace h := h.sel [3, 3, 3, 3, 0, 0, 0, 0, 0, 0, 0] 0
          dsimp only [pickL, pickR, nthH, delH, dropH, List.cons_append, List.nil_append] at h
          exact ⟨x_3, p_7, x_3.length, c_7, list_4, p_13, list_4.length, c_13, gone_4, p_14, gone_4.length, c_14, last_4, now_4, sum, rfl, rfl, rfl, rfl, rfl, rfl, rfl, rfl, rfl, rfl, rfl, rfl, rfl, rfl, rfl, hl_sum, hp, h⟩
        obtain ⟨Q_5, hq, hp⟩ := hp
        refine ⟨fun script1_5p script1_5l script1_5c l2_5 t4_6 t5_5 now7_5 sum8_5p sum8_5l sum8_5c until9_5 i10_5 d11_2 no12 t79 m_7 w => p_1 = script1_5p ∧ script.length = script1_5l ∧ c_1 = script1_5c ∧ (Addr.mk b_1 0 none) = l2_5 ∧ (Addr.mk b_2 0 none) = t4_6 ∧ (some (Addr.mk b_3 0 none)) = t5_5 ∧ (Addr.mk b_4 0 none) = now7_5 ∧ (some ⟨b_5, 0, none⟩) = sum8_5p ∧ (Int.toNat 102) = sum8_5l ∧ (Int.toNat 102) = sum8_5c ∧ (Addr.mk b_7 0 none) = until9_5 ∧ i10 = i10_5 ∧ (Addr.mk b_8 0 none) = d11_2 ∧ r_3 = no12 ∧ Q_5 t79 ∧ Mem (cel b_3 52 [(Value.int .i64 l_1), (Value.int .i64 l_2), (Value.int .i64 l_3), (Value.int .i64 l_4), (Value.int .i64 l_5), (Value.int .i64 l_6), (Value.slice p_13 list_4.length c_13), (Value.slice p_14 gone_4.length c_14), (Value.int .i64 last_4), (Value.int .i64 now_4)] :: row enc38 38 6 p_13 c_13 list_4 :: row enc38 38 6 p_14 c_14 gone_4 :: cel b_8 46 [(Value.int .i64 x_5.1), (Value.int .i64 x_5.2.1), (Value.int .i64 x_5.2.2.1), (Value.int .i64 x_5.2.2.2.1), (Value.int .i64 x_5.2.2.2.2.1), (Value.int .i64 x_5.2.2.2.2.2)] :: cel b_7 44 [(Value.slice p_7 x_3.length c_7)] :: row enc3 3 1 p_7 c_7 x_3 :: cel b_4 3 [(Value.int .i64 x_6)] :: cel b_2 4 [(Value.bool false)] :: cel b_1 23 [(Value.int .i64 l_Reservations), (Value.int .i64 l_PerHost), (Value.int .i64 l_Circuits), (Value.int .i64 l_Life), (Value.int .i64 l_Duration), (Value.int .i64 l_Data)] :: marksP m_7 :: row enc34 34 2 (some ⟨b_5, 0, none⟩) (Int.toNat 102) sum :: FL) w, ?_, ?_⟩
        · rintro script1_5p script1_5l script1_5c l2_5 t4_6 t5_5 now7_5 sum8_5p sum8_5l sum8_5c until9_5 i10_5 d11_2 no12 t79 m_7 w ⟨rfl, rfl, rfl, rfl, rfl, rfl, rfl, rfl, rfl, rfl, rfl, rfl, rfl, rfl, hp, h⟩
          replace hp := hq t79 hp
          unfold embrasurelaw24_CircCaps_j6
          refine cond_both hp (fun hp => ?_) (fun hp => ?_)
          · refine storeL (ys := [(Value.bool false)]) h 7 0 rfl rfl rfl sz4 rfl rfl ?_
            intro w h
            dsimp only [setH, setVs, setV] at h
            replace h := h.pick [9]
            dsimp only [pickL, pickR, nthH, delH, dropH, List.cons_append, List.nil_append] at h
            refine finishMarks _ h ?_
            intro w h
            refine ⟨_, cellL h 7 0 rfl rfl rfl, ?_⟩
            replace h := h.sel [] 10
            dsimp only [pickL, pickR, nthH, delH, dropH, List.cons_append, List.nil_append] at h
            exact hR (false) _ h hp
          refine ⟨_, _, _, cellL h 4 0 rfl rfl rfl, ?_⟩
          refine ⟨_, cellL h 3 5 rfl rfl rfl, ?_⟩
          refine ⟨_, cellL h 6 0 rfl rfl rfl, ?_⟩
          refine ⟨_, cellL h 8 4 rfl rfl rfl, ?_⟩
          obtain ⟨ia_2, ja_2, hp⟩ := hp
          obtain ⟨a_2, ha_2⟩ := rdAddr (rowRd h 5 encL3 rfl) rfl ia_2 ja_2
          refine ⟨a_2, ha_2, ia_2, ja_2, ?_⟩
          refine rowSetW (ys := [(Value.int .i64 (if ((IntKind.wrap .i64 (x_6 + l_Duration)) : Int) < x_5.2.2.2.2.2 then (IntKind.wrap .i64 (x_6 + l_Duration)) else x_5.2.2.2.2.2))]) (x := (if ((IntKind.wrap .i64 (x_6 + l_Duration)) : Int) < x_5.2.2.2.2.2 then (IntKind.wrap .i64 (x_6 + l_Duration)) else x_5.2.2.2.2.2)) h 5 encL3 rfl ha_2 rfl ia_2 ja_2 sz3 rfl rfl rfl ?_
          intro w h
          dsimp only [setH, setVs, setV] at h
          replace h := h.sel [3, 3, 3, 3, 0, 0, 0, 0, 0, 0, 0] 0
          dsimp only [pickL, pickR, nthH, delH, dropH, List.cons_append, List.nil_append] at h
          exact ⟨(List.set x_3 (Int.toNat r_3) (if ((IntKind.wrap .i64 (x_6 + l_Duration)) : Int) < x_5.2.2.2.2.2 then (IntKind.wrap .i64 (x_6 + l_Duration)) else x_5.2.2.2.2.2)), p_7, x_3.length, c_7, list_4, p_13, list_4.length, c_13, gone_4, p_14, gone_4.length, c_14, last_4, now_4, sum, rfl, rfl, rfl, rfl, rfl, rfl, rfl, rfl, rfl, rfl, rfl, rfl, (lenSet rfl), rfl, rfl, hl_sum, hp, h⟩
        clear hq
        refine cond_both hp (fun hp => ?_) (fun hp => ?_)
        · exact ⟨rfl, rfl, rfl, rfl, rfl, rfl, rfl, rfl, rfl, rfl, rfl, rfl, rfl, rfl, hp, h⟩
        exact ⟨rfl, rfl, rfl, rfl, rfl, rfl, rfl, rfl, rfl, rfl, rfl, rfl, rfl, rfl, hp, h⟩
      refine ⟨_, cellL h 0 0 rfl rfl rfl, ?_⟩
      refine cond_both' hp (fun hp => ?_) (fun hp => ?_)
      · refine ⟨_, cellL h 3 0 rfl rfl rfl, ?_⟩
        replace h := h.pick [4, 4, 4]
        dsimp only [pickL, pickR, nthH, delH, dropH, List.cons_append, List.nil_append] at h
        refine circ_Table_Gone_ok h hp ?_
        rintro x_16 list_6 gone_6 now_6 b_9 p_17 n_18 c_17 p_18 n_19 c_18 p_19 n_20 c_19 w rfl rfl rfl h hp
        have cpp_17 := rowCap h 1 rfl
        have cpp_18 := rowCap h 3 rfl
        have cpp_19 := rowCap h 4 rfl
        intro e_2 fn_e_2 he_e_2 hr_e_2
        refine newO h ?_
        intro d w h
        refine newO h ?_
        intro l_7 w h
        replace h := h.pick [1, 12]
        dsimp only [pickL, pickR, nthH, delH, dropH, List.cons_append, List.nil_append] at h
        replace h := marksPush h
        show rangeCallW _ (Value.func (Fn.func 31) _ _) _ _ _
        refine rangeCallFn (by kernel_rfl) ?_
        replace h := h.pick [1, 3, 3, 3, 3, 3, 3, 3, 3, 3, 3]
        dsimp only [pickL, pickR, nthH, delH, dropH, List.cons_append, List.nil_append] at h
        replace h : Mem ((fun (s : Nat) => HL [pt l_7 (loopS (embrasurelaw24_CircCaps_lo1 fn_e_2 e_2 d) s (fun (n : Nat) => ((if n = 0 then none else (some .ret)) : Option Code))), cel b_3 52 [(Value.int .i64 l_1), (Value.int .i64 l_2), (Value.int .i64 l_3), (Value.int .i64 l_4), (Value.int .i64 l_5), (Value.int .i64 l_6), (Value.slice p_18 list_6.length c_18), (Value.slice p_19 gone_6.length c_19), (Value.int .i64 last_2), (Value.int .i64 now_6)], row enc38 38 6 p_18 c_18 list_6, row enc38 38 6 p_19 c_19 gone_6, cel b_8 46 [(Value.int .i64 x_5.1), (Value.int .i64 x_5.2.1), (Value.int .i64 x_5.2.2.1), (Value.int .i64 x_5.2.2.2.1), (Value.int .i64 x_5.2.2.2.2.1), (Value.int .i64 x_5.2.2.2.2.2)], cel b_7 44 [(Value.slice p_7 x_3.length c_7)], row enc3 3 1 p_7 c_7 x_3, cel b_4 3 [(Value.int .i64 x_6)], cel b_2 4 [(Value.bool false)], cel b_1 23 [(Value.int .i64 l_Reservations), (Value.int .i64 l_PerHost), (Value.int .i64 l_Circuits), (Value.int .i64 l_Life), (Value.int .i64 l_Duration), (Value.int .i64 l_Data)], row enc34 34 2 (some ⟨b_5, 0, none⟩) (Int.toNat 102) sum]) 0 :: marksP (d :: m_4) :: cel b_9 35 [(Value.slice p_17 x_16.length c_17)] :: row enc38 38 6 p_17 c_17 x_16 :: FL) _ := h.pack 11 [pt l_7 (loopS (embrasurelaw24_CircCaps_lo1 fn_e_2 e_2 d) 0 (fun (n : Nat) => ((if n = 0 then none else (some .ret)) : Option Code))), cel b_3 52 [(Value.int .i64 l_1), (Value.int .i64 l_2), (Value.int .i64 l_3), (Value.int .i64 l_4), (Value.int .i64 l_5), (Value.int .i64 l_6), (Value.slice p_18 list_6.length c_18), (Value.slice p_19 gone_6.length c_19), (Value.int .i64 last_2), (Value.int .i64 now_6)], row enc38 38 6 p_18 c_18 list_6, row enc38 38 6 p_19 c_19 gone_6, cel b_8 46 [(Value.int .i64 x_5.1), (Value.int .i64 x_5.2.1), (Value.int .i64 x_5.2.2.1), (Value.int .i64 x_5.2.2.2.1), (Value.int .i64 x_5.2.2.2.2.1), (Value.int .i64 x_5.2.2.2.2.2)], cel b_7 44 [(Value.slice p_7 x_3.length c_7)], row enc3 3 1 p_7 c_7 x_3, cel b_4 3 [(Value.int .i64 x_6)], cel b_2 4 [(Value.bool false)], cel b_1 23 [(Value.int .i64 l_Reservations), (Value.int .i64 l_PerHost), (Value.int .i64 l_Circuits), (Value.int .i64 l_Life), (Value.int .i64 l_Duration), (Value.int .i64 l_Data)], row enc34 34 2 (some ⟨b_5, 0, none⟩) (Int.toNat 102) sum] rfl
        replace h := h.pick [2, 0]
        dsimp only [pickL, pickR, nthH, delH, dropH, List.cons_append, List.nil_append] at h
        refine slices_Values_sl_api_Circuit_api_Circuit__c1_ok (FL := marksP (d :: m_4) :: row enc38 38 6 p_17 c_17 x_16 :: FL) (A0 := (fun (s : Nat) => HL [pt l_7 (loopS (embrasurelaw24_CircCaps_lo1 fn_e_2 e_2 d) s (fun (n : Nat) => ((if n = 0 then none else (some .ret)) : Option Code))), cel b_3 52 [(Value.int .i64 l_1), (Value.int .i64 l_2), (Value.int .i64 l_3), (Value.int .i64 l_4), (Value.int .i64 l_5), (Value.int .i64 l_6), (Value.slice p_18 list_6.length c_18), (Value.slice p_19 gone_6.length c_19), (Value.int .i64 last_2), (Value.int .i64 now_6)], row enc38 38 6 p_18 c_18 list_6, row enc38 38 6 p_19 c_19 gone_6, cel b_8 46 [(Value.int .i64 x_5.1), (Value.int .i64 x_5.2.1), (Value.int .i64 x_5.2.2.1), (Value.int .i64 x_5.2.2.2.1), (Value.int .i64 x_5.2.2.2.2.1), (Value.int .i64 x_5.2.2.2.2.2)], cel b_7 44 [(Value.slice p_7 x_3.length c_7)], row enc3 3 1 p_7 c_7 x_3, cel b_4 3 [(Value.int .i64 x_6)], cel b_2 4 [(Value.bool false)], cel b_1 23 [(Value.int .i64 l_Reservations), (Value.int .i64 l_PerHost), (Value.int .i64 l_Circuits), (Value.int .i64 l_Life), (Value.int .i64 l_Duration), (Value.int .i64 l_Data)], row enc34 34 2 (some ⟨b_5, 0, none⟩) (Int.toNat 102) sum])) (Y0 := (fun x_17 (s : Nat) K_1 => s = 0 ∧ (joinP1 (fun (t192 : Bool) => cond t192 (K_1 false 1) (K_1 true 0)) (fun (Q_8 : Bool → Prop) => cond (decide ((x_17.1 : Int) < 1)) (Q_8 true) (cond (decide ((x_17.1 : Int) > 100)) (Q_8 true) (0 ≤ (x_17.1 : Int) ∧ (x_17.1 : Int) < ((x_3.length : Nat) : Int) ∧ (∀ (x_18 : Int), x_3[Int.toNat x_17.1]? = some x_18 → (cond ((x_18 : Int) != x_17.2.2.2.1) (Q_8 true) (Q_8 (decide ((x_17.2.2.2.1 : Int) > x_6))))))))))) (σ0 := Nat) (s := 0) ?_ (fun w h => (rowRd h 1 encL38 rfl)) rfl cpp_17 h hp ?_
        · intro x_17 s K_1 FL2 w R hx h hp hR
          replace h := h.unpack
          dsimp only [pickL, pickR, nthH, delH, dropH, List.cons_append, List.nil_append] at h
          obtain ⟨hst, hp⟩ := hp
          refine embrasurelaw24_CircCaps_r1_yield (by have := objAt h 0 rfl; rw [hst] at this; exact this) he_e_2 hr_e_2 ?_
          unfold embrasurelaw24_CircCaps_r1
          refine newL (o := [(Value.int .i64 0), (Value.int .i64 0), (Value.int .i64 0), (Value.int .i64 0), (Value.int .i64 0), (Value.int .i64 0)]) h ?_
          intro b_10 w h
          refine storeL (ys := [(Value.int .i64 x_17.1), (Value.int .i64 x_17.2.1), (Value.int .i64 x_17.2.2.1), (Value.int .i64 x_17.2.2.2.1), (Value.int .i64 x_17.2.2.2.2.1), (Value.int .i64 x_17.2.2.2.2.2)]) h 0 0 rfl rfl rfl sz38 rfl rfl ?_
          intro w h
          dsimp only [setH, setVs, setV] at h
          refine ⟨_, (by have := objAt h 1 rfl; rw [hst] at this; exact this : _ = some (Obj.loop (embrasurelaw24_CircCaps_lo1 fn_e_2 e_2 d))), rfl, ?_⟩
          replace h := h.putK 1 rfl (.loop { embrasurelaw24_CircCaps_lo1 fn_e_2 e_2 d with state := .busy })
          dsimp only [setH] at h
          obtain ⟨Q_8, hq, hp⟩ := hp
          refine ⟨fun t4_9 t192 m_10 w => (Addr.mk b_2 0 none) = t4_9 ∧ ([] : List Nat) = m_10 ∧ Q_8 t192 ∧ Mem (cel b_10 38 [(Value.int .i64 x_17.1), (Value.int .i64 x_17.2.1), (Value.int .i64 x_17.2.2.1), (Value.int .i64 x_17.2.2.2.1), (Value.int .i64 x_17.2.2.2.2.1), (Value.int .i64 x_17.2.2.2.2.2)] :: cel b_3 52 [(Value.int .i64 l_1), (Value.int .i64 l_2), (Value.int .i64 l_3), (Value.int .i64 l_4), (Value.int .i64 l_5), (Value.int .i64 l_6), (Value.slice p_18 list_6.length c_18), (Value.slice p_19 gone_6.length c_19), (Value.int .i64 last_2), (Value.int .i64 now_6)] :: row enc38 38 6 p_18 c_18 list_6 :: row enc38 38 6 p_19 c_19 gone_6 :: cel b_8 46 [(Value.int .i64 x_5.1), (Value.int .i64 x_5.2.1), (Value.int .i64 x_5.2.2.1), (Value.int .i64 x_5.2.2.2.1), (Value.int .i64 x_5.2.2.2.2.1), (Value.int .i64 x_5.2.2.2.2.2)] :: cel b_7 44 [(Value.slice p_7 x_3.length c_7)] :: row enc3 3 1 p_7 c_7 x_3 :: cel b_4 3 [(Value.int .i64 x_6)] :: cel b_2 4 [(Value.bool false)] :: cel b_1 23 [(Value.int .i64 l_Reservations), (Value.int .i64 l_PerHost), (Value.int .i64 l_Circuits), (Value.int .i64 l_Life), (Value.int .i64 l_Duration), (Value.int .i64 l_Data)] :: pt l_7 (.loop { embrasurelaw24_CircCaps_lo1 fn_e_2 e_2 d with state := .busy }) :: row enc34 34 2 (some ⟨b_5, 0, none⟩) (Int.toNat 102) sum :: FL2) w, ?_, ?_⟩
          · rintro t4_9 t192 m_10 w ⟨rfl, rfl, hp, h⟩
            replace hp := hq t192 hp
            unfold embrasurelaw24_CircCaps_j9
            refine cond_both' hp (fun hp => ?_) (fun hp => ?_)
            · refine ⟨_, objAt h 10 rfl, ?_⟩
              replace h := h.putK 10 rfl (loopS (embrasurelaw24_CircCaps_lo1 fn_e_2 e_2 d) 0 (fun (n : Nat) => ((if n = 0 then none else (some .ret)) : Option Code)))
              dsimp only [setH] at h
              replace h := h.pick [10]
              dsimp only [pickL, pickR, nthH, delH, dropH, List.cons_append, List.nil_append] at h
              replace h := h.sel [0, 1, 1, 1, 1, 1, 1, 1, 1, 1, 1] 1
              dsimp only [pickL, pickR, nthH, delH, dropH, List.cons_append, List.nil_append] at h
              exact hR true 0 _ (h.pack 11 [pt l_7 (loopS (embrasurelaw24_CircCaps_lo1 fn_e_2 e_2 d) 0 (fun (n : Nat) => ((if n = 0 then none else (some .ret)) : Option Code))), cel b_3 52 [(Value.int .i64 l_1), (Value.int .i64 l_2), (Value.int .i64 l_3), (Value.int .i64 l_4), (Value.int .i64 l_5), (Value.int .i64 l_6), (Value.slice p_18 list_6.length c_18), (Value.slice p_19 gone_6.length c_19), (Value.int .i64 last_2), (Value.int .i64 now_6)], row enc38 38 6 p_18 c_18 list_6, row enc38 38 6 p_19 c_19 gone_6, cel b_8 46 [(Value.int .i64 x_5.1), (Value.int .i64 x_5.2.1), (Value.int .i64 x_5.2.2.1), (Value.int .i64 x_5.2.2.2.1), (Value.int .i64 x_5.2.2.2.2.1), (Value.int .i64 x_5.2.2.2.2.2)], cel b_7 44 [(Value.slice p_7 x_3.length c_7)], row enc3 3 1 p_7 c_7 x_3, cel b_4 3 [(Value.int .i64 x_6)], cel b_2 4 [(Value.bool false)], cel b_1 23 [(Value.int .i64 l_Reservations), (Value.int .i64 l_PerHost), (Value.int .i64 l_Circuits), (Value.int .i64 l_Life), (Value.int .i64 l_Duration), (Value.int .i64 l_Data)], row enc34 34 2 (some ⟨b_5, 0, none⟩) (Int.toNat 102) sum] rfl) hp
            refine storeL (ys := [(Value.bool false)]) h 8 0 rfl rfl rfl sz4 rfl rfl ?_
            intro w h
            dsimp only [setH, setVs, setV] at h
            refine ⟨_, objAt h 10 rfl, ?_⟩
            replace h := h.putK 10 rfl (loopS (embrasurelaw24_CircCaps_lo1 fn_e_2 e_2 d) 1 (fun (n : Nat) => ((if n = 0 then none else (some .ret)) : Option Code)))
            dsimp only [setH] at h
            replace h := h.pick [10]
            dsimp only [pickL, pickR, nthH, delH, dropH, List.cons_append, List.nil_append] at h
            replace h := h.sel [0, 1, 1, 1, 1, 1, 1, 1, 1, 1, 1] 1
            dsimp only [pickL, pickR, nthH, delH, dropH, List.cons_append, List.nil_append] at h
            exact hR false 1 _ (h.pack 11 [pt l_7 (loopS (embrasurelaw24_CircCaps_lo1 fn_e_2 e_2 d) 1 (fun (n : Nat) => ((if n = 0 then none else (some .ret)) : Option Code))), cel b_3 52 [(Value.int .i64 l_1), (Value.int .i64 l_2), (Value.int .i64 l_3), (Value.int .i64 l_4), (Value.int .i64 l_5), (Value.int .i64 l_6), (Value.slice p_18 list_6.length c_18), (Value.slice p_19 gone_6.length c_19), (Value.int .i64 last_2), (Value.int .i64 now_6)], row enc38 38 6 p_18 c_18 list_6, row enc38 38 6 p_19 c_19 gone_6, cel b_8 46 [(Value.int .i64 x_5.1), (Value.int .i64 x_5.2.1), (Value.int .i64 x_5.2.2.1), (Value.int .i64 x_5.2.2.2.1), (Value.int .i64 x_5.2.2.2.2.1), (Value.int .i64 x_5.2.2.2.2.2)], cel b_7 44 [(Value.slice p_7 x_3.length c_7)], row enc3 3 1 p_7 c_7 x_3, cel b_4 3 [(Value.int .i64 x_6)], cel b_2 4 [(Value.bool false)], cel b_1 23 [(Value.int .i64 l_Reservations), (Value.int .i64 l_PerHost), (Value.int .i64 l_Circuits), (Value.int .i64 l_Life), (Value.int .i64 l_Duration), (Value.int .i64 l_Data)], row enc34 34 2 (some ⟨b_5, 0, none⟩) (Int.toNat 102) sum] rfl) hp
          clear hq
          replace h := h.drew
          refine ⟨_, cellL h 0 0 rfl rfl rfl, ?_⟩
          refine cond_both hp (fun hp => ?_) (fun hp => ?_)
          · replace h := h.sel [0, 1, 1, 1, 1, 1, 1, 1, 1, 1, 0, 0] 0
            dsimp only [pickL, pickR, nthH, delH, dropH, List.cons_append, List.nil_append] at h
            exact ⟨rfl, rfl, hp, h⟩
          refine ⟨_, cellL h 0 0 rfl rfl rfl, ?_⟩
          refine cond_both hp (fun hp => ?_) (fun hp => ?_)
          · replace h := h.sel [0, 1, 1, 1, 1, 1, 1, 1, 1, 1, 0, 0] 0
            dsimp only [pickL, pickR, nthH, delH, dropH, List.cons_append, List.nil_append] at h
            exact ⟨rfl, rfl, hp, h⟩
          refine ⟨_, _, _, cellL h 6 0 rfl rfl rfl, ?_⟩
          refine ⟨_, cellL h 0 0 rfl rfl rfl, ?_⟩
          obtain ⟨ia_9, ja_9, hp⟩ := hp
          obtain ⟨a_9, ha_9⟩ := rdAddr (rowRd h 7 encL3 rfl) rfl ia_9 ja_9
          refine ⟨a_9, ha_9, ia_9, ja_9, ?_⟩
          obtain ⟨x_18, hx_18, hc⟩ := rdCell0 (rowRd h 7 encL3 rfl) ha_9 rfl ia_9 ja_9
          replace hp := hp x_18 hx_18
          refine ⟨_, hc _ rfl, ?_⟩
          refine ⟨_, cellL h 0 3 rfl rfl rfl, ?_⟩
          refine cond_both hp (fun hp => ?_) (fun hp => ?_)
          · replace h := h.sel [0, 1, 1, 1, 1, 1, 1, 1, 1, 1, 0, 0] 0
            dsimp only [pickL, pickR, nthH, delH, dropH, List.cons_append, List.nil_append] at h
            exact ⟨rfl, rfl, hp, h⟩
          refine ⟨_, cellL h 0 3 rfl rfl rfl, ?_⟩
          refine ⟨_, cellL h 8 0 rfl rfl rfl, ?_⟩
          replace h := h.sel [0, 1, 1, 1, 1, 1, 1, 1, 1, 1, 0, 0] 0
          dsimp only [pickL, pickR, nthH, delH, dropH, List.cons_append, List.nil_append] at h
          exact ⟨rfl, rfl, hp, h⟩
        intro s_1 w h hp
        replace h := h.pick [1]
        dsimp only [pickL, pickR, nthH, delH, dropH, List.cons_append, List.nil_append] at h
        replace h := h.unpack
        dsimp only [pickL, pickR, nthH, delH, dropH, List.cons_append, List.nil_append] at h
        refine ⟨_, objAt h 0 rfl, loopS_ns _, ?_⟩
        replace h := h.putK 0 rfl (.loop { embrasurelaw24_CircCaps_lo1 fn_e_2 e_2 d with state := .exhausted, pending := (fun (n : Nat) => ((if n = 0 then none else (some .ret)) : Option Code)) s_1 })
        dsimp only [setH] at h
        rcases hp with ⟨hst, hp⟩ | ⟨hst, hp⟩
        · refine Or.inl ?_
          refine ⟨congrArg (fun (n : Nat) => ((if n = 0 then none else (some .ret)) : Option Code)) hst, ?_⟩
          replace h := h.sel [4, 4, 4, 4, 1, 1, 1, 1, 1, 3, 1] 3
          dsimp only [pickL, pickR, nthH, delH, dropH, List.cons_append, List.nil_append] at h
          exact ⟨x_3, p_7, x_3.length, c_7, list_6, p_18, list_6.length, c_18, gone_6, p_19, gone_6.length, c_19, last_2, now_6, sum, rfl, rfl, rfl, rfl, rfl, rfl, rfl, rfl, rfl, rfl, rfl, rfl, rfl, rfl, rfl, hl_sum, hp, h⟩
        · refine Or.inr (?_)
          refine ⟨show (fun (n : Nat) => ((if n = 0 then none else (some .ret)) : Option Code)) s_1 = _ from if_neg hst, ?_⟩
          replace h := h.pick [12]
          dsimp only [pickL, pickR, nthH, delH, dropH, List.cons_append, List.nil_append] at h
          refine finishMarks _ h ?_
          intro w h
          refine ⟨_, cellL h 8 0 rfl rfl rfl, ?_⟩
          replace h := h.sel [] 13
          dsimp only [pickL, pickR, nthH, delH, dropH, List.cons_append, List.nil_append] at h
          exact hR (false) _ h hp
      refine ⟨_, cellL h 3 0 rfl rfl rfl, ?_⟩
      refine ⟨_, cellL h 0 2 rfl rfl rfl, ?_⟩
      refine ⟨_, cellL h 0 3 rfl rfl rfl, ?_⟩
      refine ⟨_, cellL h 0 5 rfl rfl rfl, ?_⟩
      replace h := h.pick [4, 4, 4]
      dsimp only [pickL, pickR, nthH, delH, dropH, List.cons_append, List.nil_append] at h
      refine circ_Table_Forward_ok h hp ?_
      rintro r_5 r_6 list_5 gone_5 now_5 p_15 n_16 c_15 p_16 n_17 c_16 w rfl rfl h hp
      have cpp_15 := rowCap h 1 rfl
      have cpp_16 := rowCap h 2 rfl
      refine ⟨_, _, rfl, ?_⟩
      refine cond_both' hp (fun hp => ?_) (fun hp => ?_)
      · replace h := h.sel [3, 3, 3, 3, 0, 0, 0, 0, 0, 0, 0] 0
        dsimp only [pickL, pickR, nthH, delH, dropH, List.cons_append, List.nil_append] at h
        exact ⟨x_3, p_7, x_3.length, c_7, list_5, p_15, list_5.length, c_15, gone_5, p_16, gone_5.length, c_16, last_2, now_5, sum, rfl, rfl, rfl, rfl, rfl, rfl, rfl, rfl, rfl, rfl, rfl, rfl, rfl, rfl, rfl, hl_sum, hp, h⟩
      obtain ⟨Q_6, hq, hp⟩ := hp
      refine ⟨fun script1_6p script1_6l script1_6c l2_6 t4_7 t5_6 now7_6 sum8_6p sum8_6l sum8_6c until9_6 i10_6 d11_3 to14 t134 m_8 w => p_1 = script1_6p ∧ script.length = script1_6l ∧ c_1 = script1_6c ∧ (Addr.mk b_1 0 none) = l2_6 ∧ (Addr.mk b_2 0 none) = t4_7 ∧ (some (Addr.mk b_3 0 none)) = t5_6 ∧ (Addr.mk b_4 0 none) = now7_6 ∧ (some ⟨b_5, 0, none⟩) = sum8_6p ∧ (Int.toNat 102) = sum8_6l ∧ (Int.toNat 102) = sum8_6c ∧ (Addr.mk b_7 0 none) = until9_6 ∧ i10 = i10_6 ∧ (Addr.mk b_8 0 none) = d11_3 ∧ r_5 = to14 ∧ Q_6 t134 ∧ Mem (cel b_3 52 [(Value.int .i64 l_1), (Value.int .i64 l_2), (Value.int .i64 l_3), (Value.int .i64 l_4), (Value.int .i64 l_5), (Value.int .i64 l_6), (Value.slice p_15 list_5.length c_15), (Value.slice p_16 gone_5.length c_16), (Value.int .i64 last_2), (Value.int .i64 now_5)] :: row enc38 38 6 p_15 c_15 list_5 :: row enc38 38 6 p_16 c_16 gone_5 :: cel b_8 46 [(Value.int .i64 x_5.1), (Value.int .i64 x_5.2.1), (Value.int .i64 x_5.2.2.1), (Value.int .i64 x_5.2.2.2.1), (Value.int .i64 x_5.2.2.2.2.1), (Value.int .i64 x_5.2.2.2.2.2)] :: cel b_7 44 [(Value.slice p_7 x_3.length c_7)] :: row enc3 3 1 p_7 c_7 x_3 :: cel b_4 3 [(Value.int .i64 x_6)] :: cel b_2 4 [(Value.bool false)] :: cel b_1 23 [(Value.int .i64 l_Reservations), (Value.int .i64 l_PerHost), (Value.int .i64 l_Circuits), (Value.int .i64 l_Life), (Value.int .i64 l_Duration), (Value.int .i64 l_Data)] :: marksP m_8 :: row enc34 34 2 (some ⟨b_5, 0, none⟩) (Int.toNat 102) sum :: FL) w, ?_, ?_⟩
      · rintro script1_6p script1_6l script1_6c l2_6 t4_7 t5_6 now7_6 sum8_6p sum8_6l sum8_6c until9_6 i10_6 d11_3 to14 t134 m_8 w ⟨rfl, rfl, rfl, rfl, rfl, rfl, rfl, rfl, rfl, rfl, rfl, rfl, rfl, rfl, hp, h⟩
        replace hp := hq t134 hp
        unfold embrasurelaw24_CircCaps_j7
        refine cond_both hp (fun hp => ?_) (fun hp => ?_)
        · refine storeL (ys := [(Value.bool false)]) h 7 0 rfl rfl rfl sz4 rfl rfl ?_
          intro w h
          dsimp only [setH, setVs, setV] at h
          replace h := h.pick [9]
          dsimp only [pickL, pickR, nthH, delH, dropH, List.cons_append, List.nil_append] at h
          refine finishMarks _ h ?_
          intro w h
          refine ⟨_, cellL h 7 0 rfl rfl rfl, ?_⟩
          replace h := h.sel [] 10
          dsimp only [pickL, pickR, nthH, delH, dropH, List.cons_append, List.nil_append] at h
          exact hR (false) _ h hp
        obtain ⟨Q_7, hq, hp⟩ := hp
        refine ⟨fun script1_7p script1_7l script1_7c l2_7 t4_8 t5_7 now7_7 sum8_7p sum8_7l sum8_7c until9_7 i10_7 d11_4 k16 m_9 w => p_1 = script1_7p ∧ script.length = script1_7l ∧ c_1 = script1_7c ∧ (Addr.mk b_1 0 none) = l2_7 ∧ (Addr.mk b_2 0 none) = t4_8 ∧ (some (Addr.mk b_3 0 none)) = t5_7 ∧ (Addr.mk b_4 0 none) = now7_7 ∧ (some ⟨b_5, 0, none⟩) = sum8_7p ∧ (Int.toNat 102) = sum8_7l ∧ (Int.toNat 102) = sum8_7c ∧ (Addr.mk b_7 0 none) = until9_7 ∧ i10 = i10_7 ∧ (Addr.mk b_8 0 none) = d11_4 ∧ Q_7 k16 ∧ Mem (cel b_3 52 [(Value.int .i64 l_1), (Value.int .i64 l_2), (Value.int .i64 l_3), (Value.int .i64 l_4), (Value.int .i64 l_5), (Value.int .i64 l_6), (Value.slice p_15 list_5.length c_15), (Value.slice p_16 gone_5.length c_16), (Value.int .i64 last_2), (Value.int .i64 now_5)] :: row enc38 38 6 p_15 c_15 list_5 :: row enc38 38 6 p_16 c_16 gone_5 :: cel b_8 46 [(Value.int .i64 x_5.1), (Value.int .i64 x_5.2.1), (Value.int .i64 x_5.2.2.1), (Value.int .i64 x_5.2.2.2.1), (Value.int .i64 x_5.2.2.2.2.1), (Value.int .i64 x_5.2.2.2.2.2)] :: cel b_7 44 [(Value.slice p_7 x_3.length c_7)] :: row enc3 3 1 p_7 c_7 x_3 :: cel b_4 3 [(Value.int .i64 x_6)] :: cel b_2 4 [(Value.bool false)] :: cel b_1 23 [(Value.int .i64 l_Reservations), (Value.int .i64 l_PerHost), (Value.int .i64 l_Circuits), (Value.int .i64 l_Life), (Value.int .i64 l_Duration), (Value.int .i64 l_Data)] :: marksP m_9 :: row enc34 34 2 (some ⟨b_5, 0, none⟩) (Int.toNat 102) sum :: FL) w, ?_, ?_⟩
        · rintro script1_7p script1_7l script1_7c l2_7 t4_8 t5_7 now7_7 sum8_7p sum8_7l sum8_7c until9_7 i10_7 d11_4 k16 m_9 w ⟨rfl, rfl, rfl, rfl, rfl, rfl, rfl, rfl, rfl, rfl, rfl, rfl, rfl, hp, h⟩
          replace hp := hq k16 hp
          unfold embrasurelaw24_CircCaps_j8
          replace h := h.drew
          refine ⟨_, cellL h 3 2 rfl rfl rfl, ?_⟩
          refine ⟨_, cellL h 3 2 rfl rfl rfl, ?_⟩
          obtain ⟨ia_4, ja_4, hp⟩ := hp
          obtain ⟨a_4, ha_4⟩ := rdAddr (rowRd h 10 encL34 rfl) hl_sum ia_4 ja_4
          refine ⟨a_4, ha_4, ia_4, ja_4, ?_⟩
          refine ⟨hp.1, hp.2.1, ?_⟩
          obtain ⟨hi0, hi1, hp⟩ := hp
          rcases (by omega : (k16 : Int) = 0 ∨ (k16 : Int) = 1) with e_1 | e_1
          · replace hp := hp.1 e_1
            try rw [show Int.toNat k16 * 1 = 0 by rw [e_1]; rfl]
            obtain ⟨x_10, hx_10, hc⟩ := rdCell (rowRd h 10 encL34 rfl) ha_4 hl_sum ia_4 ja_4
            replace hp := hp x_10 hx_10
            refine ⟨_, hc 0 _ rfl, ?_⟩
            refine ⟨_, cellL h 3 5 rfl rfl rfl, ?_⟩
            obtain ⟨ia_5, ja_5, hp⟩ := hp
            obtain ⟨a_5, ha_5⟩ := rdAddr (rowRd h 10 encL34 rfl) hl_sum ia_5 ja_5
            refine ⟨a_5, ha_5, ia_5, ja_5, ?_⟩
            refine ⟨hp.1, hp.2.1, ?_⟩
            replace hp := hp.2.2
            try rw [show Int.toNat k16 * 1 = 0 by rw [e_1]; rfl]
            obtain ⟨x_11, hx_11, -⟩ := rdCell (rowRd h 10 encL34 rfl) ha_5 hl_sum ia_5 ja_5
            replace hp := hp x_11 hx_11
            refine rowSetG (ys := [(Value.int .i64 (IntKind.wrap .i64 (x_10.1 + x_5.2.2.2.2.2)))]) (x := ((IntKind.wrap .i64 (x_10.1 + x_5.2.2.2.2.2)), x_11.2)) (x0 := x_11) (j := 0) h 10 encL34 rfl ha_5 hl_sum ia_5 ja_5 sz3 hx_11 rfl rfl rfl rfl ?_
            intro w h
            dsimp only [setH, setVs, setV] at h
            replace h := h.drew
            refine ⟨_, cellL h 3 2 rfl rfl rfl, ?_⟩
            obtain ⟨ia_6, ja_6, hp⟩ := hp
            obtain ⟨a_6, ha_6⟩ := rdAddr (rowRd h 10 encL34 rfl) (lenSet hl_sum) ia_6 ja_6
            refine ⟨a_6, ha_6, ia_6, ja_6, ?_⟩
            refine ⟨hp.1, hp.2.1, ?_⟩
            replace hp := hp.2.2
            try rw [show Int.toNat k16 * 1 = 0 by rw [e_1]; rfl]
            obtain ⟨x_12, hx_12, hc⟩ := rdCell (rowRd h 10 encL34 rfl) ha_6 (lenSet hl_sum) ia_6 ja_6
            replace hp := hp x_12 hx_12
            refine ⟨_, hc 0 _ rfl, ?_⟩
            refine ⟨_, cellL h 8 5 rfl rfl rfl, ?_⟩
            refine cond_both' hp (fun hp => ?_) (fun hp => ?_)
            · replace h := h.sel [3, 3, 3, 3, 0, 0, 0, 0, 0, 0, 0] 0
              dsimp only [pickL, pickR, nthH, delH, dropH, List.cons_append, List.nil_append] at h
              exact ⟨x_3, p_7, x_3.length, c_7, list_5, p_15, list_5.length, c_15, gone_5, p_16, gone_5.length, c_16, last_2, now_5, (List.set sum (Int.toNat x_5.2.2.1) ((IntKind.wrap .i64 (x_10.1 + x_5.2.2.2.2.2)), x_11.2)), rfl, rfl, rfl, rfl, rfl, rfl, rfl, rfl, rfl, rfl, rfl, rfl, rfl, rfl, rfl, (lenSet hl_sum), hp, h⟩
            refine storeL (ys := [(Value.bool false)]) h 7 0 rfl rfl rfl sz4 rfl rfl ?_
            intro w h
            dsimp only [setH, setVs, setV] at h
            replace h := h.pick [9]
            dsimp only [pickL, pickR, nthH, delH, dropH, List.cons_append, List.nil_append] at h
            refine finishMarks _ h ?_
            intro w h
            refine ⟨_, cellL h 7 0 rfl rfl rfl, ?_⟩
            replace h := h.sel [] 10
            dsimp only [pickL, pickR, nthH, delH, dropH, List.cons_append, List.nil_append] at h
            exact hR (false) _ h hp
          · replace hp := hp.2 e_1
            try rw [show Int.toNat k16 * 1 = 1 by rw [e_1]; rfl]
            obtain ⟨x_13, hx_13, hc⟩ := rdCell (rowRd h 10 encL34 rfl) ha_4 hl_sum ia_4 ja_4
            replace hp := hp x_13 hx_13
            refine ⟨_, hc 1 _ rfl, ?_⟩
            refine ⟨_, cellL h 3 5 rfl rfl rfl, ?_⟩
            obtain ⟨ia_7, ja_7, hp⟩ := hp
            obtain ⟨a_7, ha_7⟩ := rdAddr (rowRd h 10 encL34 rfl) hl_sum ia_7 ja_7
            refine ⟨a_7, ha_7, ia_7, ja_7, ?_⟩
            refine ⟨hp.1, hp.2.1, ?_⟩
            replace hp := hp.2.2
            try rw [show Int.toNat k16 * 1 = 1 by rw [e_1]; rfl]
            obtain ⟨x_14, hx_14, -⟩ := rdCell (rowRd h 10 encL34 rfl) ha_7 hl_sum ia_7 ja_7
            replace hp := hp x_14 hx_14
            refine rowSetG (ys := [(Value.int .i64 (IntKind.wrap .i64 (x_13.2 + x_5.2.2.2.2.2)))]) (x := (x_14.1, (IntKind.wrap .i64 (x_13.2 + x_5.2.2.2.2.2)))) (x0 := x_14) (j := 1) h 10 encL34 rfl ha_7 hl_sum ia_7 ja_7 sz3 hx_14 rfl rfl rfl rfl ?_
            intro w h
            dsimp only [setH, setVs, setV] at h
            replace h := h.drew
            refine ⟨_, cellL h 3 2 rfl rfl rfl, ?_⟩
            obtain ⟨ia_8, ja_8, hp⟩ := hp
            obtain ⟨a_8, ha_8⟩ := rdAddr (rowRd h 10 encL34 rfl) (lenSet hl_sum) ia_8 ja_8
            refine ⟨a_8, ha_8, ia_8, ja_8, ?_⟩
            refine ⟨hp.1, hp.2.1, ?_⟩
            replace hp := hp.2.2
            try rw [show Int.toNat k16 * 1 = 1 by rw [e_1]; rfl]
            obtain ⟨x_15, hx_15, hc⟩ := rdCell (rowRd h 10 encL34 rfl) ha_8 (lenSet hl_sum) ia_8 ja_8
            replace hp := hp x_15 hx_15
            refine ⟨_, hc 1 _ rfl, ?_⟩
            refine ⟨_, cellL h 8 5 rfl rfl rfl, ?_⟩
            refine cond_both' hp (fun hp => ?_) (fun hp => ?_)
            · replace h := h.sel [3, 3, 3, 3, 0, 0, 0, 0, 0, 0, 0] 0
              dsimp only [pickL, pickR, nthH, delH, dropH, List.cons_append, List.nil_append] at h
              exact ⟨x_3, p_7, x_3.length, c_7, list_5, p_15, list_5.length, c_15, gone_5, p_16, gone_5.length, c_16, last_2, now_5, (List.set sum (Int.toNat x_5.2.2.1) (x_14.1, (IntKind.wrap .i64 (x_13.2 + x_5.2.2.2.2.2)))), rfl, rfl, rfl, rfl, rfl, rfl, rfl, rfl, rfl, rfl, rfl, rfl, rfl, rfl, rfl, (lenSet hl_sum), hp, h⟩
            refine storeL (ys := [(Value.bool false)]) h 7 0 rfl rfl rfl sz4 rfl rfl ?_
            intro w h
            dsimp only [setH, setVs, setV] at h
            replace h := h.pick [9]
            dsimp only [pickL, pickR, nthH, delH, dropH, List.cons_append, List.nil_append] at h
            refine finishMarks _ h ?_
            intro w h
            refine ⟨_, cellL h 7 0 rfl rfl rfl, ?_⟩
            replace h := h.sel [] 10
            dsimp only [pickL, pickR, nthH, delH, dropH, List.cons_append, List.nil_append] at h
            exact hR (false) _ h hp
        clear hq
        refine ⟨_, cellL h 3 3 rfl rfl rfl, ?_⟩
        refine cond_both hp (fun hp => ?_) (fun hp => ?_)
        · exact ⟨rfl, rfl, rfl, rfl, rfl, rfl, rfl, rfl, rfl, rfl, rfl, rfl, rfl, hp, h⟩
        exact ⟨rfl, rfl, rfl, rfl, rfl, rfl, rfl, rfl, rfl, rfl, rfl, rfl, rfl, hp, h⟩
      clear hq
      replace h := h.drew
      refine ⟨_, cellL h 3 2 rfl rfl rfl, ?_⟩
      refine cond_both hp (fun hp => ?_) (fun hp => ?_)
      · exact ⟨rfl, rfl, rfl, rfl, rfl, rfl, rfl, rfl, rfl, rfl, rfl, rfl, rfl, rfl, hp, h⟩
      refine ⟨_, cellL h 3 2 rfl rfl rfl, ?_⟩
      refine cond_both hp (fun hp => ?_) (fun hp => ?_)
      · exact ⟨rfl, rfl, rfl, rfl, rfl, rfl, rfl, rfl, rfl, rfl, rfl, rfl, rfl, rfl, hp, h⟩
      refine ⟨_, cellL h 6 0 rfl rfl rfl, ?_⟩
      refine ⟨_, _, _, cellL h 4 0 rfl rfl rfl, ?_⟩
      refine ⟨_, cellL h 3 2 rfl rfl rfl, ?_⟩
      obtain ⟨ia_3, ja_3, hp⟩ := hp
      obtain ⟨a_3, ha_3⟩ := rdAddr (rowRd h 5 encL3 rfl) rfl ia_3 ja_3
      refine ⟨a_3, ha_3, ia_3, ja_3, ?_⟩
      obtain ⟨x_9, hx_9, hc⟩ := rdCell0 (rowRd h 5 encL3 rfl) ha_3 rfl ia_3 ja_3
      replace hp := hp x_9 hx_9
      refine ⟨_, hc _ rfl, ?_⟩
      refine cond_both hp (fun hp => ?_) (fun hp => ?_)
      · exact ⟨rfl, rfl, rfl, rfl, rfl, rfl, rfl, rfl, rfl, rfl, rfl, rfl, rfl, rfl, hp, h⟩
      refine ⟨_, cellL h 3 3 rfl rfl rfl, ?_⟩
      refine cond_both hp (fun hp => ?_) (fun hp => ?_)
      · exact ⟨rfl, rfl, rfl, rfl, rfl, rfl, rfl, rfl, rfl, rfl, rfl, rfl, rfl, rfl, hp, h⟩
      refine ⟨_, cellL h 3 5 rfl rfl rfl, ?_⟩
      exact ⟨rfl, rfl, rfl, rfl, rfl, rfl, rfl, rfl, rfl, rfl, rfl, rfl, rfl, rfl, hp, h⟩
    clear hq
    obtain ⟨Q_3, hq, hp⟩ := hp
    refine ⟨fun script1_3p script1_3l script1_3c l2_3 t4_4 t5_3 now7_3 sum8_3p sum8_3l sum8_3c until9_3 i10_3 d11_1 t52 m_5 w => p_1 = script1_3p ∧ script.length = script1_3l ∧ c_1 = script1_3c ∧ (Addr.mk b_1 0 none) = l2_3 ∧ (Addr.mk b_2 0 none) = t4_4 ∧ (some (Addr.mk b_3 0 none)) = t5_3 ∧ (Addr.mk b_4 0 none) = now7_3 ∧ (some ⟨b_5, 0, none⟩) = sum8_3p ∧ (Int.toNat 102) = sum8_3l ∧ (Int.toNat 102) = sum8_3c ∧ (Addr.mk b_7 0 none) = until9_3 ∧ i10 = i10_3 ∧ (Addr.mk b_8 0 none) = d11_1 ∧ Q_3 t52 ∧ Mem (cel b_8 46 [(Value.int .i64 x_5.1), (Value.int .i64 x_5.2.1), (Value.int .i64 x_5.2.2.1), (Value.int .i64 x_5.2.2.2.1), (Value.int .i64 x_5.2.2.2.2.1), (Value.int .i64 x_5.2.2.2.2.2)] :: cel b_7 44 [(Value.slice p_7 x_3.length c_7)] :: row enc3 3 1 p_7 c_7 x_3 :: cel b_4 3 [(Value.int .i64 x_4)] :: cel b_3 52 [(Value.int .i64 l_1), (Value.int .i64 l_2), (Value.int .i64 l_3), (Value.int .i64 l_4), (Value.int .i64 l_5), (Value.int .i64 l_6), (Value.slice p_8 list_2.length c_8), (Value.slice p_9 gone_2.length c_9), (Value.int .i64 last_2), (Value.int .i64 now_2)] :: row enc38 38 6 p_8 c_8 list_2 :: row enc38 38 6 p_9 c_9 gone_2 :: cel b_2 4 [(Value.bool false)] :: cel b_1 23 [(Value.int .i64 l_Reservations), (Value.int .i64 l_PerHost), (Value.int .i64 l_Circuits), (Value.int .i64 l_Life), (Value.int .i64 l_Duration), (Value.int .i64 l_Data)] :: marksP m_5 :: row enc34 34 2 (some ⟨b_5, 0, none⟩) (Int.toNat 102) sum :: FL) w, ?_, ?_⟩
    · rintro script1_3p script1_3l script1_3c l2_3 t4_4 t5_3 now7_3 sum8_3p sum8_3l sum8_3c until9_3 i10_3 d11_1 t52 m_5 w ⟨rfl, rfl, rfl, rfl, rfl, rfl, rfl, rfl, rfl, rfl, rfl, rfl, rfl, hp, h⟩
      replace hp := hq t52 hp
      unfold embrasurelaw24_CircCaps_j10
      refine cond_both' hp (fun hp => ?_) (fun hp => ?_)
      · exact ⟨x_4, rfl, rfl, rfl, rfl, rfl, rfl, rfl, rfl, rfl, rfl, rfl, rfl, rfl, hp, h⟩
      refine ⟨_, cellL h 3 0 rfl rfl rfl, ?_⟩
      refine ⟨_, cellL h 0 1 rfl rfl rfl, ?_⟩
      refine storeL (ys := [(Value.int .i64 (IntKind.wrap .i64 (x_4 + x_5.2.1)))]) h 3 0 rfl rfl rfl sz3 rfl rfl ?_
      intro w h
      dsimp only [setH, setVs, setV] at h
      exact ⟨(IntKind.wrap .i64 (x_4 + x_5.2.1)), rfl, rfl, rfl, rfl, rfl, rfl, rfl, rfl, rfl, rfl, rfl, rfl, rfl, hp, h⟩
    clear hq
    refine ⟨_, cellL h 0 1 rfl rfl rfl, ?_⟩
    refine cond_both' hp (fun hp => ?_) (fun hp => ?_)
    · exact ⟨rfl, rfl, rfl, rfl, rfl, rfl, rfl, rfl, rfl, rfl, rfl, rfl, rfl, hp, h⟩
    refine ⟨_, cellL h 0 1 rfl rfl rfl, ?_⟩
    exact ⟨rfl, rfl, rfl, rfl, rfl, rfl, rfl, rfl, rfl, rfl, rfl, rfl, rfl, hp, h⟩
  clear hq
  refine cond_both hp (fun hp => ?_) (fun hp => ?_)
  · exact ⟨rfl, rfl, rfl, rfl, rfl, rfl, rfl, rfl, rfl, rfl, rfl, rfl, hp, h⟩
  exact ⟨rfl, rfl, rfl, rfl, rfl, rfl, rfl, rfl, rfl, rfl, rfl, rfl, hp, h⟩

/-! embrasure/embrasurelaw24.CircBytes (3) -/
def embrasurelaw24_CircBytes_wp (l_Reservations : Int) (l_PerHost : Int) (l_Circuits : Int) (l_Life : Int) (l_Duration : Int) (l_Data : Int) (sizes : List (Int)) (back : List (Bool)) (K : Bool → Prop) : Prop :=
  embrasurelaw24_awake_wp (fun (r : Bool) => cond (!r) (K false) (joinP1 (fun (t33 : Bool) => cond t33 (K true) (circ_New_wp l_Reservations l_PerHost l_Circuits l_Life l_Duration l_Data (fun (r_2 : Int) => joinP1 (fun (t44 : Bool) => cond t44 (K false) (False)) (fun (Q_1 : Bool → Prop) => Q_1 true)) (fun (r_3 : Int) (l_1 : Int) (l_2 : Int) (l_3 : Int) (l_4 : Int) (l_5 : Int) (l_6 : Int) (list : List (Int × Int × Int × Int × Int × Int)) (gone : List (Int × Int × Int × Int × Int × Int)) (last : Int) (now : Int) => joinP1 (fun (t44_1 : Bool) => cond t44_1 (K false) (circ_Table_Open_wp l_1 l_2 l_3 l_4 l_5 l_6 list gone last now 0 1 2 2199023255552 (fun (r_4 : Int) (r_5 : Int) (list_1 : List (Int × Int × Int × Int × Int × Int)) (gone_1 : List (Int × Int × Int × Int × Int × Int)) (last_1 : Int) (now_1 : Int) => cond ((r_5 : Int) != 0) (K false) (joinP5 (fun (x_1 : Int) (x_2 : Int) (list_2 : List (Int × Int × Int × Int × Int × Int)) (gone_2 : List (Int × Int × Int × Int × Int × Int)) (now_2 : Int) => circ_Table_All_wp l_1 l_2 l_3 l_4 l_5 l_6 list_2 gone_2 last_1 now_2 0 (fun (rs_2 : List (Int × Int × Int × Int × Int × Int)) (list_9 : List (Int × Int × Int × Int × Int × Int)) (gone_9 : List (Int × Int × Int × Int × Int × Int)) (now_9 : Int) => cond ((((rs_2.length : Nat) : Int) : Int) == 1) (0 ≤ (0 : Int) ∧ (0 : Int) < ((rs_2.length : Nat) : Int) ∧ (∀ (x_11 : Int × Int × Int × Int × Int × Int), rs_2[Int.toNat 0]? = some x_11 → (cond (((x_11.2.2.2.2.1 : Int) == x_1) && (((x_11.2.2.2.2.2 : Int) == x_2) && true)) (0 ≤ (0 : Int) ∧ (0 : Int) < ((rs_2.length : Nat) : Int) ∧ (∀ (x_12 : Int × Int × Int × Int × Int × Int), rs_2[Int.toNat 0]? = some x_12 → (K ((x_12.2.2.2.1 : Int) == (if (l_Duration : Int) < 2199023255552 then l_Duration else 2199023255552))))) (K false)))) (K false))) (fun (Q_3 : Int → Int → List (Int × Int × Int × Int × Int × Int) → List (Int × Int × Int × Int × Int × Int) → Int → Prop) => ∃ (I : Nat → Int → Int → List (Int × Int × Int × Int × Int × Int) → List (Int × Int × Int × Int × Int × Int) → Int → Int → Prop), (∃ (n_26 : Nat), I n_26 0 0 list_1 gone_1 now_1 0) ∧ ∀ (n_11 : Nat) (x_3 : Int) (x_4 : Int) (list_3 : List (Int × Int × Int × Int × Int × Int)) (gone_3 : List (Int × Int × Int × Int × Int × Int)) (now_3 : Int) (i12 : Int), I n_11 x_3 x_4 list_3 gone_3 now_3 i12 → (cond (decide ((i12 : Int) < ((sizes.length : Nat) : Int))) (joinP1 (fun (k13 : Int) => 0 ≤ (i12 : Int) ∧ (i12 : Int) < ((sizes.length : Nat) : Int) ∧ (∀ (x_6 : Int), sizes[Int.toNat i12]? = some x_6 → (circ_Table_Forward_wp l_1 l_2 l_3 l_4 l_5 l_6 list_3 gone_3 last_1 now_3 0 r_4 (IntKind.wrap .i64 (1 + k13)) (IntKind.wrap .i64 x_6) (fun (r_6 : Int) (r_7 : Int) (list_4 : List (Int × Int × Int × Int × Int × Int)) (gone_4 : List (Int × Int × Int × Int × Int × Int)) (now_4 : Int) => 0 ≤ (k13 : Int) ∧ (k13 : Int) < ((2 : Nat) : Int) ∧ (((k13 : Int) = 0 → (0 ≤ (i12 : Int) ∧ (i12 : Int) < ((sizes.length : Nat) : Int) ∧ (∀ (x_7 : Int), sizes[Int.toNat i12]? = some x_7 → (cond (decide (((IntKind.wrap .i64 (x_3 + (IntKind.wrap .i64 x_7))) : Int) > l_Data)) (circ_Table_Forward_wp l_1 l_2 l_3 l_4 l_5 l_6 list_4 gone_4 last_1 now_4 0 r_4 1 0 (fun (r_8 : Int) (r_9 : Int) (list_5 : List (Int × Int × Int × Int × Int × Int)) (gone_5 : List (Int × Int × Int × Int × Int × Int)) (now_5 : Int) => cond ((r_7 : Int) == 4) (cond ((r_6 : Int) == 0) (cond ((r_9 : Int) == 5) (circ_Table_All_wp l_1 l_2 l_3 l_4 l_5 l_6 list_5 gone_5 last_1 now_5 0 (fun (rs : List (Int × Int × Int × Int × Int × Int)) (list_6 : List (Int × Int × Int × Int × Int × Int)) (gone_6 : List (Int × Int × Int × Int × Int × Int)) (now_6 : Int) => K ((((rs.length : Nat) : Int) : Int) == 0))) (K false)) (K false)) (K false))) (0 ≤ (k13 : Int) ∧ (k13 : Int) < ((2 : Nat) : Int) ∧ (0 ≤ (i12 : Int) ∧ (i12 : Int) < ((sizes.length : Nat) : Int) ∧ (∀ (x_8 : Int), sizes[Int.toNat i12]? = some x_8 → (0 ≤ (k13 : Int) ∧ (k13 : Int) < ((2 : Nat) : Int) ∧ (joinP1 (fun (t135 : Bool) => cond t135 (K false) (∃ (n_19 : Nat), n_19 < n_11 ∧ I n_19 (IntKind.wrap .i64 (x_3 + (IntKind.wrap .i64 x_8))) x_4 list_4 gone_4 now_4 (IntKind.wrap .i64 (i12 + 1)))) (fun (Q_5 : Bool → Prop) => cond ((r_7 : Int) != 0) (Q_5 true) (Q_5 ((r_6 : Int) != (IntKind.wrap .i64 (2 - k13)))))))))))))) ∧ ((k13 : Int) = 1 → (0 ≤ (i12 : Int) ∧ (i12 : Int) < ((sizes.length : Nat) : Int) ∧ (∀ (x_9 : Int), sizes[Int.toNat i12]? = some x_9 → (cond (decide (((IntKind.wrap .i64 (x_4 + (IntKind.wrap .i64 x_9))) : Int) > l_Data)) (circ_Table_Forward_wp l_1 l_2 l_3 l_4 l_5 l_6 list_4 gone_4 last_1 now_4 0 r_4 1 0 (fun (r_10 : Int) (r_11 : Int) (list_7 : List (Int × Int × Int × Int × Int × Int)) (gone_7 : List (Int × Int × Int × Int × Int × Int)) (now_7 : Int) => cond ((r_7 : Int) == 4) (cond ((r_6 : Int) == 0) (cond ((r_11 : Int) == 5) (circ_Table_All_wp l_1 l_2 l_3 l_4 l_5 l_6 list_7 gone_7 last_1 now_7 0 (fun (rs_1 : List (Int × Int × Int × Int × Int × Int)) (list_8 : List (Int × Int × Int × Int × Int × Int)) (gone_8 : List (Int × Int × Int × Int × Int × Int)) (now_8 : Int) => K ((((rs_1.length : Nat) : Int) : Int) == 0))) (K false)) (K false)) (K false))) (0 ≤ (k13 : Int) ∧ (k13 : Int) < ((2 : Nat) : Int) ∧ (0 ≤ (i12 : Int) ∧ (i12 : Int) < ((sizes.length : Nat) : Int) ∧ (∀ (x_10 : Int), sizes[Int.toNat i12]? = some x_10 → (0 ≤ (k13 : Int) ∧ (k13 : Int) < ((2 : Nat) : Int) ∧ (joinP1 (fun (t135_1 : Bool) => cond t135_1 (K false) (∃ (n_25 : Nat), n_25 < n_11 ∧ I n_25 x_3 (IntKind.wrap .i64 (x_4 + (IntKind.wrap .i64 x_10))) list_4 gone_4 now_4 (IntKind.wrap .i64 (i12 + 1)))) (fun (Q_6 : Bool → Prop) => cond ((r_7 : Int) != 0) (Q_6 true) (Q_6 ((r_6 : Int) != (IntKind.wrap .i64 (2 - k13))))))))))))))))))) (fun (Q_4 : Int → Prop) => cond (decide ((((back.length : Nat) : Int) : Int) > 0)) ((((back.length : Nat) : Int) : Int) ≠ 0 ∧ (0 ≤ ((Int.tmod i12 ((back.length : Nat) : Int)) : Int) ∧ ((Int.tmod i12 ((back.length : Nat) : Int)) : Int) < ((back.length : Nat) : Int) ∧ (∀ (x_5 : Bool), back[Int.toNat (Int.tmod i12 ((back.length : Nat) : Int))]? = some x_5 → (cond x_5 (Q_4 1) (Q_4 0))))) (Q_4 0))) (Q_3 x_3 x_4 list_3 gone_3 now_3))))))) (fun (Q_2 : Bool → Prop) => Q_2 ((r_3 : Int) != 0))))) (fun (Q : Bool → Prop) => resv_May_wp l_Reservations l_PerHost l_Circuits l_Life l_Duration l_Data (fun (r_1 : Bool) => cond (!r_1) (Q true) (cond ((l_Circuits : Int) == 0) (Q true) (Q (decide ((((sizes.length : Nat) : Int) : Int) > 60))))))))
theorem embrasurelaw24_CircBytes_ok {p_1 : Option Addr} {n_1 : Nat} {c_1 : Nat} {p_2 : Option Addr} {n_2 : Nat} {c_2 : Nat} {l_Reservations : Int} {l_PerHost : Int} {l_Circuits : Int} {l_Life : Int} {l_Duration : Int} {l_Data : Int} {sizes : List (Int)} {back : List (Bool)} {FL : List HP} {w : World} {K : Bool → Prop} {R : Value → World → Prop}
  (hF_sizes : ∀ w, Mem FL w → Rd w 1 p_1 enc5 sizes) (hl_sizes : n_1 = sizes.length) (hc_sizes : n_1 ≤ c_1)
  (hF_back : ∀ w, Mem FL w → Rd w 1 p_2 enc4 back) (hl_back : n_2 = back.length) (hc_back : n_2 ≤ c_2)
  (h : Mem (FL) w) (hp : embrasurelaw24_CircBytes_wp l_Reservations l_PerHost l_Circuits l_Life l_Duration l_Data sizes back K)
  (hR : ∀ (r : Bool) (w : World), Mem (FL) w → K r → R (Value.bool r) w) :
  CallV Try.prog 3 #[(Value.agg #[(Value.int .i64 l_Reservations), (Value.int .i64 l_PerHost), (Value.int .i64 l_Circuits), (Value.int .i64 l_Life), (Value.int .i64 l_Duration), (Value.int .i64 l_Data)]), (Value.slice p_1 n_1 c_1), (Value.slice p_2 n_2 c_2)] w R := by
  refine embrasurelaw24_CircBytes_call ?_
  unfold embrasurelaw24_CircBytes
  unfold embrasurelaw24_CircBytes_wp at hp
  subst hl_sizes
  subst hl_back
  refine newL (o := [(Value.int .i64 l_Reservations), (Value.int .i64 l_PerHost), (Value.int .i64 l_Circuits), (Value.int .i64 l_Life), (Value.int .i64 l_Duration), (Value.int .i64 l_Data)]) h ?_
  intro b_1 w h
  refine embrasurelaw24_awake_ok h hp ?_
  intro r w h hp
  refine ⟨_, rfl, ?_⟩
  refine cond_both hp (fun hp => ?_) (fun hp => ?_)
  · replace h := h.sel [] 1
    dsimp only [pickL, pickR, nthH, delH, dropH, List.cons_append, List.nil_append] at h
    exact hR false _ h hp
  obtain ⟨Q, hq, hp⟩ := hp
  refine ⟨fun sizes1p sizes1l sizes1c back2p back2l back2c l3 t33 w => p_1 = sizes1p ∧ sizes.length = sizes1l ∧ c_1 = sizes1c ∧ p_2 = back2p ∧ back.length = back2l ∧ c_2 = back2c ∧ (Addr.mk b_1 0 none) = l3 ∧ Q t33 ∧ Mem (cel b_1 23 [(Value.int .i64 l_Reservations), (Value.int .i64 l_PerHost), (Value.int .i64 l_Circuits), (Value.int .i64 l_Life), (Value.int .i64 l_Duration), (Value.int .i64 l_Data)] :: FL) w, ?_, ?_⟩
  · rintro sizes1p sizes1l sizes1c back2p back2l back2c l3 t33 w ⟨rfl, rfl, rfl, rfl, rfl, rfl, rfl, hp, h⟩
    replace hp := hq t33 hp
    unfold embrasurelaw24_CircBytes_j1
    refine cond_both hp (fun hp => ?_) (fun hp => ?_)
    · replace h := h.sel [] 1
      dsimp only [pickL, pickR, nthH, delH, dropH, List.cons_append, List.nil_append] at h
      exact hR true _ h hp
    refine ⟨_, cellL h 0 0 rfl rfl rfl, _, cellL h 0 1 rfl rfl rfl, _, cellL h 0 2 rfl rfl rfl, _, cellL h 0 3 rfl rfl rfl, _, cellL h 0 4 rfl rfl rfl, _, cellL h 0 5 rfl rfl rfl, ?_⟩
    refine circ_New_ok h hp ?_ ?_
    · intro r_2 w h hp
      refine ⟨_, _, rfl, ?_⟩
      obtain ⟨Q_1, hq, hp⟩ := hp
      refine ⟨fun sizes1_1p sizes1_1l sizes1_1c back2_1p back2_1l back2_1c l3_1 t7 t44 w => p_1 = sizes1_1p ∧ sizes.length = sizes1_1l ∧ c_1 = sizes1_1c ∧ p_2 = back2_1p ∧ back.length = back2_1l ∧ c_2 = back2_1c ∧ (Addr.mk b_1 0 none) = l3_1 ∧ none = t7 ∧ Q_1 t44 ∧ Mem (cel b_1 23 [(Value.int .i64 l_Reservations), (Value.int .i64 l_PerHost), (Value.int .i64 l_Circuits), (Value.int .i64 l_Life), (Value.int .i64 l_Duration), (Value.int .i64 l_Data)] :: FL) w, ?_, ?_⟩
      · rintro sizes1_1p sizes1_1l sizes1_1c back2_1p back2_1l back2_1c l3_1 t7 t44 w ⟨rfl, rfl, rfl, rfl, rfl, rfl, rfl, rfl, hp, h⟩
        replace hp := hq t44 hp
        unfold embrasurelaw24_CircBytes_j2
        refine cond_both' hp (fun hp => ?_) (fun hp => ?_)
        · exact hp.elim
        replace h := h.sel [] 1
        dsimp only [pickL, pickR, nthH, delH, dropH, List.cons_append, List.nil_append] at h
        exact hR false _ h hp
      clear hq
      refine eqlPtrNN undP28 ?_
      refine ⟨_, rfl, ?_⟩
      refine cond_tt ?_
      exact ⟨rfl, rfl, rfl, rfl, rfl, rfl, rfl, rfl, hp, h⟩
    rintro r_3 l_1 l_2 l_3 l_4 l_5 l_6 list gone last now b_2 p_3 n_3 c_3 p_4 n_4 c_4 w rfl rfl h hp
    have cpp_3 := rowCap h 1 rfl
    have cpp_4 := rowCap h 2 rfl
    refine ⟨_, _, rfl, ?_⟩
    obtain ⟨Q_2, hq, hp⟩ := hp
    refine ⟨fun sizes1_2p sizes1_2l sizes1_2c back2_2p back2_2l back2_2c l3_2 t7_1 t44_1 w => p_1 = sizes1_2p ∧ sizes.length = sizes1_2l ∧ c_1 = sizes1_2c ∧ p_2 = back2_2p ∧ back.length = back2_2l ∧ c_2 = back2_2c ∧ (Addr.mk b_1 0 none) = l3_2 ∧ (some (Addr.mk b_2 0 none)) = t7_1 ∧ Q_2 t44_1 ∧ Mem (cel b_2 52 [(Value.int .i64 l_1), (Value.int .i64 l_2), (Value.int .i64 l_3), (Value.int .i64 l_4), (Value.int .i64 l_5), (Value.int .i64 l_6), (Value.slice p_3 list.length c_3), (Value.slice p_4 gone.length c_4), (Value.int .i64 last), (Value.int .i64 now)] :: row enc38 38 6 p_3 c_3 list :: row enc38 38 6 p_4 c_4 gone :: cel b_1 23 [(Value.int .i64 l_Reservations), (Value.int .i64 l_PerHost), (Value.int .i64 l_Circuits), (Value.int .i64 l_Life), (Value.int .i64 l_Duration), (Value.int .i64 l_Data)] :: FL) w, ?_, ?_⟩
    · rintro sizes1_2p sizes1_2l sizes1_2c back2_2p back2_2l back2_2c l3_2 t7_1 t44_1 w ⟨rfl, rfl, rfl, rfl, rfl, rfl, rfl, rfl, hp, h⟩
      replace hp := hq t44_1 hp
      unfold embrasurelaw24_CircBytes_j2
      refine cond_both hp (fun hp => ?_) (fun hp => ?_)
      · replace h := h.sel [] 4
        dsimp only [pickL, pickR, nthH, delH, dropH, List.cons_append, List.nil_append] at h
        exact hR false _ h hp
      refine circ_Table_Open_ok h hp ?_
      rintro r_4 r_5 list_1 gone_1 last_1 now_1 p_5 n_5 c_5 p_6 n_6 c_6 w rfl rfl h hp
      have cpp_5 := rowCap h 1 rfl
      have cpp_6 := rowCap h 2 rfl
      refine ⟨_, _, rfl, ?_⟩
      refine cond_both hp (fun hp => ?_) (fun hp => ?_)
      · replace h := h.sel [] 4
        dsimp only [pickL, pickR, nthH, delH, dropH, List.cons_append, List.nil_append] at h
        exact hR false _ h hp
      refine newL (o := [(Value.int .i64 0), (Value.int .i64 0)]) h ?_
      intro b_3 w h
      obtain ⟨Q_3, hq, hp⟩ := hp
      refine ⟨fun l3_3 t7_2 sum11 w => ∃ (x_1 : Int), ∃ (x_2 : Int), ∃ (list_2 : List (Int × Int × Int × Int × Int × Int)), ∃ (p_7 : Option Addr), ∃ (n_7 : Nat), ∃ (c_7 : Nat), ∃ (gone_2 : List (Int × Int × Int × Int × Int × Int)), ∃ (p_8 : Option Addr), ∃ (n_8 : Nat), ∃ (c_8 : Nat), ∃ (now_2 : Int), (Addr.mk b_1 0 none) = l3_3 ∧ (some (Addr.mk b_2 0 none)) = t7_2 ∧ (Addr.mk b_3 0 none) = sum11 ∧ n_7 = list_2.length ∧ n_8 = gone_2.length ∧ Q_3 x_1 x_2 list_2 gone_2 now_2 ∧ Mem (cel b_3 34 [(Value.int .i64 x_1), (Value.int .i64 x_2)] :: cel b_2 52 [(Value.int .i64 l_1), (Value.int .i64 l_2), (Value.int .i64 l_3), (Value.int .i64 l_4), (Value.int .i64 l_5), (Value.int .i64 l_6), (Value.slice p_7 n_7 c_7), (Value.slice p_8 n_8 c_8), (Value.int .i64 last_1), (Value.int .i64 now_2)] :: row enc38 38 6 p_7 c_7 list_2 :: row enc38 38 6 p_8 c_8 gone_2 :: cel b_1 23 [(Value.int .i64 l_Reservations), (Value.int .i64 l_PerHost), (Value.int .i64 l_Circuits), (Value.int .i64 l_Life), (Value.int .i64 l_Duration), (Value.int .i64 l_Data)] :: FL) w, ?_, ?_⟩
      · rintro l3_3 t7_2 sum11 w ⟨x_1, x_2, list_2, p_7, n_7, c_7, gone_2, p_8, n_8, c_8, now_2, rfl, rfl, rfl, rfl, rfl, hp, h⟩
        replace hp := hq x_1 x_2 list_2 gone_2 now_2 hp
        unfold embrasurelaw24_CircBytes_j3
        have cpp_7 := rowCap h 2 rfl
        have cpp_8 := rowCap h 3 rfl
        replace h := h.pick [1, 1, 1]
        dsimp only [pickL, pickR, nthH, delH, dropH, List.cons_append, List.nil_append] at h
        refine circ_Table_All_ok h hp ?_
        rintro rs_2 list_9 gone_9 now_9 p_23 n_27 c_23 p_24 n_28 c_24 p_25 n_29 c_25 w rfl rfl rfl h hp
        have cpp_23 := rowCap h 0 rfl
        have cpp_24 := rowCap h 2 rfl
        have cpp_25 := rowCap h 3 rfl
        refine ⟨_, _, _, rfl, ?_⟩
        replace h := h.drew
        refine ⟨rfl, ?_⟩
        refine cond_both' hp (fun hp => ?_) (fun hp => ?_)
        · replace h := h.sel [] 6
          dsimp only [pickL, pickR, nthH, delH, dropH, List.cons_append, List.nil_append] at h
          exact hR false _ h hp
        obtain ⟨ia_7, ja_7, hp⟩ := hp
        obtain ⟨a_7, ha_7⟩ := rdAddr (rowRd h 0 encL38 rfl) rfl ia_7 ja_7
        refine ⟨a_7, ha_7, ia_7, ja_7, ?_⟩
        obtain ⟨x_11, hx_11, hc⟩ := rdCell2 (rowRd h 0 encL38 rfl) ha_7 rfl ia_7 ja_7
        replace hp := hp x_11 hx_11
        refine ⟨_, hc 4 0 _ rfl, _, hc 4 1 _ rfl, ?_⟩
        refine ⟨_, cellL h 4 0 rfl rfl rfl, _, cellL h 4 1 rfl rfl rfl, ?_⟩
        refine eqlArr2 eqU34 eqV34 eqW34 eqG34 ?_
        refine ⟨_, rfl, ?_⟩
        refine ⟨rfl, ?_⟩
        refine cond_both' hp (fun hp => ?_) (fun hp => ?_)
        · replace h := h.sel [] 6
          dsimp only [pickL, pickR, nthH, delH, dropH, List.cons_append, List.nil_append] at h
          exact hR false _ h hp
        obtain ⟨ia_8, ja_8, hp⟩ := hp
        obtain ⟨a_8, ha_8⟩ := rdAddr (rowRd h 0 encL38 rfl) rfl ia_8 ja_8
        refine ⟨a_8, ha_8, ia_8, ja_8, ?_⟩
        obtain ⟨x_12, hx_12, hc⟩ := rdCell (rowRd h 0 encL38 rfl) ha_8 rfl ia_8 ja_8
        replace hp := hp x_12 hx_12
        refine ⟨_, hc 3 _ rfl, ?_⟩
        refine ⟨_, cellL h 5 4 rfl rfl rfl, ?_⟩
        replace h := h.sel [] 6
        dsimp only [pickL, pickR, nthH, delH, dropH, List.cons_append, List.nil_append] at h
        exact hR ((x_12.2.2.2.1 : Int) == (if (l_Duration : Int) < 2199023255552 then l_Duration else 2199023255552)) _ h hp
      clear hq
      obtain ⟨I, ⟨n_26, h0⟩, hq⟩ := hp
      refine ⟨fun n_11 sizes1_3p sizes1_3l sizes1_3c back2_3p back2_3l back2_3c l3_4 t7_3 no9 sum11_1 i12 w => ∃ (x_3 : Int), ∃ (x_4 : Int), ∃ (list_3 : List (Int × Int × Int × Int × Int × Int)), ∃ (p_9 : Option Addr), ∃ (n_9 : Nat), ∃ (c_9 : Nat), ∃ (gone_3 : List (Int × Int × Int × Int × Int × Int)), ∃ (p_10 : Option Addr), ∃ (n_10 : Nat), ∃ (c_10 : Nat), ∃ (now_3 : Int), p_1 = sizes1_3p ∧ sizes.length = sizes1_3l ∧ c_1 = sizes1_3c ∧ p_2 = back2_3p ∧ back.length = back2_3l ∧ c_2 = back2_3c ∧ (Addr.mk b_1 0 none) = l3_4 ∧ (some (Addr.mk b_2 0 none)) = t7_3 ∧ r_4 = no9 ∧ (Addr.mk b_3 0 none) = sum11_1 ∧ n_9 = list_3.length ∧ n_10 = gone_3.length ∧ I n_11 x_3 x_4 list_3 gone_3 now_3 i12 ∧ Mem (cel b_3 34 [(Value.int .i64 x_3), (Value.int .i64 x_4)] :: cel b_2 52 [(Value.int .i64 l_1), (Value.int .i64 l_2), (Value.int .i64 l_3), (Value.int .i64 l_4), (Value.int .i64 l_5), (Value.int .i64 l_6), (Value.slice p_9 n_9 c_9), (Value.slice p_10 n_10 c_10), (Value.int .i64 last_1), (Value.int .i64 now_3)] :: row enc38 38 6 p_9 c_9 list_3 :: row enc38 38 6 p_10 c_10 gone_3 :: cel b_1 23 [(Value.int .i64 l_Reservations), (Value.int .i64 l_PerHost), (Value.int .i64 l_Circuits), (Value.int .i64 l_Life), (Value.int .i64 l_Duration), (Value.int .i64 l_Data)] :: FL) w, ⟨n_26, 0, 0, list_1, p_5, list_1.length, c_5, gone_1, p_6, gone_1.length, c_6, now_1, rfl, rfl, rfl, rfl, rfl, rfl, rfl, rfl, rfl, rfl, rfl, rfl, h0, h⟩, ?_⟩
      clear h0 h
      rintro n_11 sizes1_3p sizes1_3l sizes1_3c back2_3p back2_3l back2_3c l3_4 t7_3 no9 sum11_1 i12 w ⟨x_3, x_4, list_3, p_9, n_9, c_9, gone_3, p_10, n_10, c_10, now_3, rfl, rfl, rfl, rfl, rfl, rfl, rfl, rfl, rfl, rfl, rfl, rfl, hp, h⟩
      replace hp := hq n_11 x_3 x_4 list_3 gone_3 now_3 i12 hp
      clear hq
      unfold embrasurelaw24_CircBytes_l4
      have cpp_9 := rowCap h 2 rfl
      have cpp_10 := rowCap h 3 rfl
      refine cond_both' hp (fun hp => ?_) (fun hp => ?_)
      · exact ⟨x_3, x_4, list_3, p_9, list_3.length, c_9, gone_3, p_10, gone_3.length, c_10, now_3, rfl, rfl, rfl, rfl, rfl, hp, h⟩
      obtain ⟨Q_4, hq, hp⟩ := hp
      refine ⟨fun sizes1_4p sizes1_4l sizes1_4c back2_4p back2_4l back2_4c l3_5 t7_4 no9_1 sum11_2 i12_1 k13 w => p_1 = sizes1_4p ∧ sizes.length = sizes1_4l ∧ c_1 = sizes1_4c ∧ p_2 = back2_4p ∧ back.length = back2_4l ∧ c_2 = back2_4c ∧ (Addr.mk b_1 0 none) = l3_5 ∧ (some (Addr.mk b_2 0 none)) = t7_4 ∧ r_4 = no9_1 ∧ (Addr.mk b_3 0 none) = sum11_2 ∧ i12 = i12_1 ∧ Q_4 k13 ∧ Mem (cel b_3 34 [(Value.int .i64 x_3), (Value.int .i64 x_4)] :: cel b_2 52 [(Value.int .i64 l_1), (Value.int .i64 l_2), (Value.int .i64 l_3), (Value.int .i64 l_4), (Value.int .i64 l_5), (Value.int .i64 l_6), (Value.slice p_9 list_3.length c_9), (Value.slice p_10 gone_3.length c_10), (Value.int .i64 last_1), (Value.int .i64 now_3)] :: row enc38 38 6 p_9 c_9 list_3 :: row enc38 38 6 p_10 c_10 gone_3 :: cel b_1 23 [(Value.int .i64 l_Reservations), (Value.int .i64 l_PerHost), (Value.int .i64 l_Circuits), (Value.int .i64 l_Life), (Value.int .i64 l_Duration), (Value.int .i64 l_Data)] :: FL) w, ?_, ?_⟩
      · rintro sizes1_4p sizes1_4l sizes1_4c back2_4p back2_4l back2_4c l3_5 t7_4 no9_1 sum11_2 i12_1 k13 w ⟨rfl, rfl, rfl, rfl, rfl, rfl, rfl, rfl, rfl, rfl, rfl, hp, h⟩
        replace hp := hq k13 hp
        unfold embrasurelaw24_CircBytes_j5
        obtain ⟨ia_2, ja_2, hp⟩ := hp
        obtain ⟨a_2, ha_2⟩ := rdAddr (hF_sizes _ (h.drop 5)) rfl ia_2 ja_2
        refine ⟨a_2, ha_2, ia_2, ja_2, ?_⟩
        obtain ⟨x_6, hx_6, hc⟩ := rdCell0 (hF_sizes _ (h.drop 5)) ha_2 rfl ia_2 ja_2
        replace hp := hp x_6 hx_6
        refine ⟨_, hc _ rfl, ?_⟩
        replace h := h.pick [1, 1, 1]
        dsimp only [pickL, pickR, nthH, delH, dropH, List.cons_append, List.nil_append] at h
        refine circ_Table_Forward_ok h hp ?_
        rintro r_6 r_7 list_4 gone_4 now_4 p_11 n_12 c_11 p_12 n_13 c_12 w rfl rfl h hp
        have cpp_11 := rowCap h 1 rfl
        have cpp_12 := rowCap h 2 rfl
        refine ⟨_, _, rfl, ?_⟩
        replace h := h.drew
        refine ⟨hp.1, hp.2.1, ?_⟩
        obtain ⟨hi0, hi1, hp⟩ := hp
        rcases (by omega : (k13 : Int) = 0 ∨ (k13 : Int) = 1) with e_1 | e_1
        · replace hp := hp.1 e_1
          try rw [show Int.toNat k13 * 1 = 0 by rw [e_1]; rfl]
          refine ⟨_, cellL h 3 0 rfl rfl rfl, ?_⟩
          obtain ⟨ia_3, ja_3, hp⟩ := hp
          obtain ⟨a_3, ha_3⟩ := rdAddr (hF_sizes _ (h.drop 5)) rfl ia_3 ja_3
          refine ⟨a_3, ha_3, ia_3, ja_3, ?_⟩
          obtain ⟨x_7, hx_7, hc⟩ := rdCell0 (hF_sizes _ (h.drop 5)) ha_3 rfl ia_3 ja_3
          replace hp := hp x_7 hx_7
          refine ⟨_, hc _ rfl, ?_⟩
          refine ⟨_, cellL h 4 5 rfl rfl rfl, ?_⟩
          refine cond_both hp (fun hp => ?_) (fun hp => ?_)
          · refine circ_Table_Forward_ok h hp ?_
            rintro r_8 r_9 list_5 gone_5 now_5 p_13 n_14 c_13 p_14 n_15 c_14 w rfl rfl h hp
            have cpp_13 := rowCap h 1 rfl
            have cpp_14 := rowCap h 2 rfl
            refine ⟨_, _, rfl, ?_⟩
            refine cond_both' hp (fun hp => ?_) (fun hp => ?_)
            · replace h := h.sel [] 5
              dsimp only [pickL, pickR, nthH, delH, dropH, List.cons_append, List.nil_append] at h
              exact hR false _ h hp
            refine cond_both' hp (fun hp => ?_) (fun hp => ?_)
            · replace h := h.sel [] 5
              dsimp only [pickL, pickR, nthH, delH, dropH, List.cons_append, List.nil_append] at h
              exact hR false _ h hp
            refine cond_both' hp (fun hp => ?_) (fun hp => ?_)
            · replace h := h.sel [] 5
              dsimp only [pickL, pickR, nthH, delH, dropH, List.cons_append, List.nil_append] at h
              exact hR false _ h hp
            refine circ_Table_All_ok h hp ?_
            rintro rs list_6 gone_6 now_6 p_15 n_16 c_15 p_16 n_17 c_16 p_17 n_18 c_17 w rfl rfl rfl h hp
            have cpp_15 := rowCap h 0 rfl
            have cpp_16 := rowCap h 2 rfl
            have cpp_17 := rowCap h 3 rfl
            refine ⟨_, _, _, rfl, ?_⟩
            replace h := h.sel [] 6
            dsimp only [pickL, pickR, nthH, delH, dropH, List.cons_append, List.nil_append] at h
            exact hR ((((rs.length : Nat) : Int) : Int) == 0) _ h hp
          replace h := h.drew
          refine ⟨hp.1, hp.2.1, ?_⟩
          replace hp := hp.2.2
          try rw [show Int.toNat k13 * 1 = 0 by rw [e_1]; rfl]
          refine ⟨_, cellL h 3 0 rfl rfl rfl, ?_⟩
          obtain ⟨ia_4, ja_4, hp⟩ := hp
          obtain ⟨a_4, ha_4⟩ := rdAddr (hF_sizes _ (h.drop 5)) rfl ia_4 ja_4
          refine ⟨a_4, ha_4, ia_4, ja_4, ?_⟩
          obtain ⟨x_8, hx_8, hc⟩ := rdCell0 (hF_sizes _ (h.drop 5)) ha_4 rfl ia_4 ja_4
          replace hp := hp x_8 hx_8
          refine ⟨_, hc _ rfl, ?_⟩
          refine ⟨hp.1, hp.2.1, ?_⟩
          replace hp := hp.2.2
          try rw [show Int.toNat k13 * 1 = 0 by rw [e_1]; rfl]
          refine storeL (ys := [(Value.int .i64 (IntKind.wrap .i64 (x_3 + (IntKind.wrap .i64 x_8))))]) h 3 0 rfl rfl rfl sz3 rfl rfl ?_
          intro w h
          dsimp only [setH, setVs, setV] at h
          obtain ⟨Q_5, hq, hp⟩ := hp
          refine ⟨fun sizes1_5p sizes1_5l sizes1_5c back2_5p back2_5l back2_5c l3_6 t7_5 no9_2 sum11_3 i12_2 t135 w => p_1 = sizes1_5p ∧ sizes.length = sizes1_5l ∧ c_1 = sizes1_5c ∧ p_2 = back2_5p ∧ back.length = back2_5l ∧ c_2 = back2_5c ∧ (Addr.mk b_1 0 none) = l3_6 ∧ (some (Addr.mk b_2 0 none)) = t7_5 ∧ r_4 = no9_2 ∧ (Addr.mk b_3 0 none) = sum11_3 ∧ i12 = i12_2 ∧ Q_5 t135 ∧ Mem (cel b_2 52 [(Value.int .i64 l_1), (Value.int .i64 l_2), (Value.int .i64 l_3), (Value.int .i64 l_4), (Value.int .i64 l_5), (Value.int .i64 l_6), (Value.slice p_11 list_4.length c_11), (Value.slice p_12 gone_4.length c_12), (Value.int .i64 last_1), (Value.int .i64 now_4)] :: row enc38 38 6 p_11 c_11 list_4 :: row enc38 38 6 p_12 c_12 gone_4 :: cel b_3 34 [(Value.int .i64 (IntKind.wrap .i64 (x_3 + (IntKind.wrap .i64 x_8)))), (Value.int .i64 x_4)] :: cel b_1 23 [(Value.int .i64 l_Reservations), (Value.int .i64 l_PerHost), (Value.int .i64 l_Circuits), (Value.int .i64 l_Life), (Value.int .i64 l_Duration), (Value.int .i64 l_Data)] :: FL) w, ?_, ?_⟩
          · rintro sizes1_5p sizes1_5l sizes1_5c back2_5p back2_5l back2_5c l3_6 t7_5 no9_2 sum11_3 i12_2 t135 w ⟨rfl, rfl, rfl, rfl, rfl, rfl, rfl, rfl, rfl, rfl, rfl, hp, h⟩
            replace hp := hq t135 hp
            unfold embrasurelaw24_CircBytes_j6
            refine cond_both hp (fun hp => ?_) (fun hp => ?_)
            · replace h := h.sel [] 5
              dsimp only [pickL, pickR, nthH, delH, dropH, List.cons_append, List.nil_append] at h
              exact hR false _ h hp
            replace h := h.sel [3, 0, 0, 0, 0] 0
            dsimp only [pickL, pickR, nthH, delH, dropH, List.cons_append, List.nil_append] at h
            obtain ⟨n_19, hn, hp⟩ := hp
            exact ⟨n_19, hn, (IntKind.wrap .i64 (x_3 + (IntKind.wrap .i64 x_8))), x_4, list_4, p_11, list_4.length, c_11, gone_4, p_12, gone_4.length, c_12, now_4, rfl, rfl, rfl, rfl, rfl, rfl, rfl, rfl, rfl, rfl, rfl, rfl, hp, h⟩
          clear hq
          refine cond_both hp (fun hp => ?_) (fun hp => ?_)
          · exact ⟨rfl, rfl, rfl, rfl, rfl, rfl, rfl, rfl, rfl, rfl, rfl, hp, h⟩
          exact ⟨rfl, rfl, rfl, rfl, rfl, rfl, rfl, rfl, rfl, rfl, rfl, hp, h⟩
        · replace hp := hp.2 e_1
          try rw [show Int.toNat k13 * 1 = 1 by rw [e_1]; rfl]
          refine ⟨_, cellL h 3 1 rfl rfl rfl, ?_⟩
          obtain ⟨ia_5, ja_5, hp⟩ := hp
          obtain ⟨a_5, ha_5⟩ := rdAddr (hF_sizes _ (h.drop 5)) rfl ia_5 ja_5
          refine ⟨a_5, ha_5, ia_5, ja_5, ?_⟩
          obtain ⟨x_9, hx_9, hc⟩ := rdCell0 (hF_sizes _ (h.drop 5)) ha_5 rfl ia_5 ja_5
          replace hp := hp x_9 hx_9
          refine ⟨_, hc _ rfl, ?_⟩
          refine ⟨_, cellL h 4 5 rfl rfl rfl, ?_⟩
          refine cond_both hp (fun hp => ?_) (fun hp => ?_)
          · refine circ_Table_Forward_ok h hp ?_
            rintro r_10 r_11 list_7 gone_7 now_7 p_18 n_20 c_18 p_19 n_21 c_19 w rfl rfl h hp
            have cpp_18 := rowCap h 1 rfl
            have cpp_19 := rowCap h 2 rfl
            refine ⟨_, _, rfl, ?_⟩
            refine cond_both' hp (fun hp => ?_) (fun hp => ?_)
            · replace h := h.sel [] 5
              dsimp only [pickL, pickR, nthH, delH, dropH, List.cons_append, List.nil_append] at h
              exact hR false _ h hp
            refine cond_both' hp (fun hp => ?_) (fun hp => ?_)
            · replace h := h.sel [] 5
              dsimp only [pickL, pickR, nthH, delH, dropH, List.cons_append, List.nil_append] at h
              exact hR false _ h hp
            refine cond_both' hp (fun hp => ?_) (fun hp => ?_)
            · replace h := h.sel [] 5
              dsimp only [pickL, pickR, nthH, delH, dropH, List.cons_append, List.nil_append] at h
              exact hR false _ h hp
            refine circ_Table_All_ok h hp ?_
            rintro rs_1 list_8 gone_8 now_8 p_20 n_22 c_20 p_21 n_23 c_21 p_22 n_24 c_22 w rfl rfl rfl h hp
            have cpp_20 := rowCap h 0 rfl
            have cpp_21 := rowCap h 2 rfl
            have cpp_22 := rowCap h 3 rfl
            refine ⟨_, _, _, rfl, ?_⟩
            replace h := h.sel [] 6
            dsimp only [pickL, pickR, nthH, delH, dropH, List.cons_append, List.nil_append] at h
            exact hR ((((rs_1.length : Nat) : Int) : Int) == 0) _ h hp
          replace h := h.drew
          refine ⟨hp.1, hp.2.1, ?_⟩
          replace hp := hp.2.2
          try rw [show Int.toNat k13 * 1 = 1 by rw [e_1]; rfl]
          refine ⟨_, cellL h 3 1 rfl rfl rfl, ?_⟩
          obtain ⟨ia_6, ja_6, hp⟩ := hp
          obtain ⟨a_6, ha_6⟩ := rdAddr (hF_sizes _ (h.drop 5)) rfl ia_6 ja_6
          refine ⟨a_6, ha_6, ia_6, ja_6, ?_⟩
          obtain ⟨x_10, hx_10, hc⟩ := rdCell0 (hF_sizes _ (h.drop 5)) ha_6 rfl ia_6 ja_6
          replace hp := hp x_10 hx_10
          refine ⟨_, hc _ rfl, ?_⟩
          refine ⟨hp.1, hp.2.1, ?_⟩
          replace hp := hp.2.2
          try rw [show Int.toNat k13 * 1 = 1 by rw [e_1]; rfl]
          refine storeL (ys := [(Value.int .i64 (IntKind.wrap .i64 (x_4 + (IntKind.wrap .i64 x_10))))]) h 3 1 rfl rfl rfl sz3 rfl rfl ?_
          intro w h
          dsimp only [setH, setVs, setV] at h
          obtain ⟨Q_6, hq, hp⟩ := hp
          refine ⟨fun sizes1_6p sizes1_6l sizes1_6c back2_6p back2_6l back2_6c l3_7 t7_6 no9_3 sum11_4 i12_3 t135_1 w => p_1 = sizes1_6p ∧ sizes.length = sizes1_6l ∧ c_1 = sizes1_6c ∧ p_2 = back2_6p ∧ back.length = back2_6l ∧ c_2 = back2_6c ∧ (Addr.mk b_1 0 none) = l3_7 ∧ (some (Addr.mk b_2 0 none)) = t7_6 ∧ r_4 = no9_3 ∧ (Addr.mk b_3 0 none) = sum11_4 ∧ i12 = i12_3 ∧ Q_6 t135_1 ∧ Mem (cel b_2 52 [(Value.int .i64 l_1), (Value.int .i64 l_2), (Value.int .i64 l_3), (Value.int .i64 l_4), (Value.int .i64 l_5), (Value.int .i64 l_6), (Value.slice p_11 list_4.length c_11), (Value.slice p_12 gone_4.length c_12), (Value.int .i64 last_1), (Value.int .i64 now_4)] :: row enc38 38 6 p_11 c_11 list_4 :: row enc38 38 6 p_12 c_12 gone_4 :: cel b_3 34 [(Value.int .i64 x_3), (Value.int .i64 (IntKind.wrap .i64 (x_4 + (IntKind.wrap .i64 x_10))))] :: cel b_1 23 [(Value.int .i64 l_Reservations), (Value.int .i64 l_PerHost), (Value.int .i64 l_Circuits), (Value.int .i64 l_Life), (Value.int .i64 l_Duration), (Value.int .i64 l_Data)] :: FL) w, ?_, ?_⟩
          · rintro sizes1_6p sizes1_6l sizes1_6c back2_6p back2_6l back2_6c l3_7 t7_6 no9_3 sum11_4 i12_3 t135_1 w ⟨rfl, rfl, rfl, rfl, rfl, rfl, rfl, rfl, rfl, rfl, rfl, hp, h⟩
            replace hp := hq t135_1 hp
            unfold embrasurelaw24_CircBytes_j6
            refine cond_both hp (fun hp => ?_) (fun hp => ?_)
            · replace h := h.sel [] 5
              dsimp only [pickL, pickR, nthH, delH, dropH, List.cons_append, List.nil_append] at h
              exact hR false _ h hp
            replace h := h.sel [3, 0, 0, 0, 0] 0
            dsimp only [pickL, pickR, nthH, delH, dropH, List.cons_append, List.nil_append] at h
            obtain ⟨n_25, hn, hp⟩ := hp
            exact ⟨n_25, hn, x_3, (IntKind.wrap .i64 (x_4 + (IntKind.wrap .i64 x_10))), list_4, p_11, list_4.length, c_11, gone_4, p_12, gone_4.length, c_12, now_4, rfl, rfl, rfl, rfl, rfl, rfl, rfl, rfl, rfl, rfl, rfl, rfl, hp, h⟩
          clear hq
          refine cond_both hp (fun hp => ?_) (fun hp => ?_)
          · exact ⟨rfl, rfl, rfl, rfl, rfl, rfl, rfl, rfl, rfl, rfl, rfl, hp, h⟩
          exact ⟨rfl, rfl, rfl, rfl, rfl, rfl, rfl, rfl, rfl, rfl, rfl, hp, h⟩
      clear hq
      refine cond_both' hp (fun hp => ?_) (fun hp => ?_)
      · exact ⟨rfl, rfl, rfl, rfl, rfl, rfl, rfl, rfl, rfl, rfl, rfl, hp, h⟩
      refine ⟨hp.1, ?_⟩
      replace hp := hp.2
      obtain ⟨ia_1, ja_1, hp⟩ := hp
      obtain ⟨a_1, ha_1⟩ := rdAddr (hF_back _ (h.drop 5)) rfl ia_1 ja_1
      refine ⟨a_1, ha_1, ia_1, ja_1, ?_⟩
      obtain ⟨x_5, hx_5, hc⟩ := rdCell0 (hF_back _ (h.drop 5)) ha_1 rfl ia_1 ja_1
      replace hp := hp x_5 hx_5
      refine ⟨_, hc _ rfl, ?_⟩
      refine cond_both hp (fun hp => ?_) (fun hp => ?_)
      · exact ⟨rfl, rfl, rfl, rfl, rfl, rfl, rfl, rfl, rfl, rfl, rfl, hp, h⟩
      exact ⟨rfl, rfl, rfl, rfl, rfl, rfl, rfl, rfl, rfl, rfl, rfl, hp, h⟩
    clear hq
    refine eqlPtrNil undP28 ?_
    refine ⟨_, rfl, ?_⟩
    refine cond_ff ?_
    exact ⟨rfl, rfl, rfl, rfl, rfl, rfl, rfl, rfl, hp, h⟩
  clear hq
  refine ⟨_, cellL h 0 0 rfl rfl rfl, _, cellL h 0 1 rfl rfl rfl, _, cellL h 0 2 rfl rfl rfl, _, cellL h 0 3 rfl rfl rfl, _, cellL h 0 4 rfl rfl rfl, _, cellL h 0 5 rfl rfl rfl, ?_⟩
  refine resv_May_ok h hp ?_
  intro r_1 w h hp
  refine ⟨_, rfl, ?_⟩
  refine cond_both hp (fun hp => ?_) (fun hp => ?_)
  · exact ⟨rfl, rfl, rfl, rfl, rfl, rfl, rfl, hp, h⟩
  refine ⟨_, cellL h 0 2 rfl rfl rfl, ?_⟩
  refine cond_both hp (fun hp => ?_) (fun hp => ?_)
  · exact ⟨rfl, rfl, rfl, rfl, rfl, rfl, rfl, hp, h⟩
  exact ⟨rfl, rfl, rfl, rfl, rfl, rfl, rfl, hp, h⟩

/-! (*embrasure/circ.Table).Close (12) -/
def circ_Table_Close_wp (l_1 : Int) (l_2 : Int) (l_3 : Int) (l_4 : Int) (l_5 : Int) (l_6 : Int) (list : List (Int × Int × Int × Int × Int × Int)) (gone : List (Int × Int × Int × Int × Int × Int)) (last : Int) (now : Int) (now_1 : Int) (no : Int) (K : Bool → List (Int × Int × Int × Int × Int × Int) → List (Int × Int × Int × Int × Int × Int) → Int → Prop) : Prop :=
  circ_Table_on_wp l_1 l_2 l_3 l_4 l_5 l_6 list gone last now now_1 (fun (list_2 : List (Int × Int × Int × Int × Int × Int)) (gone_2 : List (Int × Int × Int × Int × Int × Int)) (now_3 : Int) => circ_Table_place_wp l_1 l_2 l_3 l_4 l_5 l_6 list_2 last now_3 no (fun (r : Int) => cond (decide ((r : Int) < 0)) (K false list_2 gone_2 now_3) (slices_Delete_sl_api_Circuit_api_Circuit_wp list_2 r (IntKind.wrap .i64 (r + 1)) (fun (rs : List (Int × Int × Int × Int × Int × Int)) => K true rs gone_2 now_3))))
theorem circ_Table_Close_ok {b_1 : Nat} {p_1 : Option Addr} {c_1 : Nat} {p_2 : Option Addr} {c_2 : Nat} {l_1 : Int} {l_2 : Int} {l_3 : Int} {l_4 : Int} {l_5 : Int} {l_6 : Int} {list : List (Int × Int × Int × Int × Int × Int)} {gone : List (Int × Int × Int × Int × Int × Int)} {last : Int} {now : Int} {now_1 : Int} {no : Int} {FL : List HP} {w : World} {K : Bool → List (Int × Int × Int × Int × Int × Int) → List (Int × Int × Int × Int × Int × Int) → Int → Prop} {R : Value → World → Prop}
  (h : Mem (cel b_1 52 [(Value.int .i64 l_1), (Value.int .i64 l_2), (Value.int .i64 l_3), (Value.int .i64 l_4), (Value.int .i64 l_5), (Value.int .i64 l_6), (Value.slice p_1 list.length c_1), (Value.slice p_2 gone.length c_2), (Value.int .i64 last), (Value.int .i64 now)] :: row enc38 38 6 p_1 c_1 list :: row enc38 38 6 p_2 c_2 gone :: FL) w) (hp : circ_Table_Close_wp l_1 l_2 l_3 l_4 l_5 l_6 list gone last now now_1 no K)
  (hR : ∀ (r : Bool) (list_1 : List (Int × Int × Int × Int × Int × Int)) (gone_1 : List (Int × Int × Int × Int × Int × Int)) (now_2 : Int) (p_3 : Option Addr) (n_1 : Nat) (c_3 : Nat) (p_4 : Option Addr) (n_2 : Nat) (c_4 : Nat) (w : World), n_1 = list_1.length → n_2 = gone_1.length → Mem (cel b_1 52 [(Value.int .i64 l_1), (Value.int .i64 l_2), (Value.int .i64 l_3), (Value.int .i64 l_4), (Value.int .i64 l_5), (Value.int .i64 l_6), (Value.slice p_3 n_1 c_3), (Value.slice p_4 n_2 c_4), (Value.int .i64 last), (Value.int .i64 now_2)] :: row enc38 38 6 p_3 c_3 list_1 :: row enc38 38 6 p_4 c_4 gone_1 :: FL) w → K r list_1 gone_1 now_2 → R (Value.bool r) w) :
  CallV Try.prog 12 #[(Value.pointer (some (Addr.mk b_1 0 none))), (Value.int .i64 now_1), (Value.int .i64 no)] w R := by
  refine circ_Table_Close_call ?_
  unfold circ_Table_Close
  unfold circ_Table_Close_wp at hp
  have cpp_1 := rowCap h 1 rfl
  have cpp_2 := rowCap h 2 rfl
  refine circ_Table_on_ok h hp ?_
  rintro list_2 gone_2 now_3 p_5 n_3 c_5 p_6 n_4 c_6 w rfl rfl h hp
  have cpp_5 := rowCap h 1 rfl
  have cpp_6 := rowCap h 2 rfl
  refine ⟨rfl, ?_⟩
  refine circ_Table_place_ok h hp ?_
  intro r w h hp
  have cpp_5 := rowCap h 1 rfl
  refine ⟨_, rfl, ?_⟩
  refine cond_both hp (fun hp => ?_) (fun hp => ?_)
  · exact hR false list_2 gone_2 now_3 p_5 list_2.length c_5 p_6 gone_2.length c_6 _ rfl rfl h hp
  refine ⟨_, rfl, ?_⟩
  refine ⟨_, _, _, cellL h 0 6 rfl rfl rfl, ?_⟩
  replace h := h.pick [1]
  dsimp only [pickL, pickR, nthH, delH, dropH, List.cons_append, List.nil_append] at h
  refine slices_Delete_sl_api_Circuit_api_Circuit_ok (FL := cel b_1 52 [(Value.int .i64 l_1), (Value.int .i64 l_2), (Value.int .i64 l_3), (Value.int .i64 l_4), (Value.int .i64 l_5), (Value.int .i64 l_6), (Value.slice p_5 list_2.length c_5), (Value.slice p_6 gone_2.length c_6), (Value.int .i64 last), (Value.int .i64 now_3)] :: row enc38 38 6 p_6 c_6 gone_2 :: FL) rfl h hp ?_
  rintro rs p_7 n_5 c_7 w rfl h hp
  have cpp_7 := rowCap h 0 rfl
  refine ⟨_, _, _, rfl, ?_⟩
  refine ⟨_, rfl, ?_⟩
  refine storeL (ys := [(Value.slice p_7 rs.length c_7)]) h 1 6 rfl rfl rfl sz35 rfl rfl ?_
  intro w h
  dsimp only [setH, setVs, setV] at h
  replace h := h.sel [1, 0, 0] 0
  dsimp only [pickL, pickR, nthH, delH, dropH, List.cons_append, List.nil_append] at h
  exact hR true rs gone_2 now_3 p_7 rs.length c_7 p_6 gone_2.length c_6 _ rfl rfl h hp

/-! embrasure/embrasurelaw24.CircTwo (4) -/
def embrasurelaw24_CircTwo_wp (l_Reservations : Int) (l_PerHost : Int) (l_Circuits : Int) (l_Life : Int) (l_Duration : Int) (l_Data : Int) (ends_x : Int) (ends_x_1 : Int) (wait : Int) (K : Bool → Prop) : Prop :=
  embrasurelaw24_awake_wp (fun (r : Bool) => cond (!r) (K false) (joinP1 (fun (t59 : Bool) => cond t59 (K true) (circ_New_wp l_Reservations l_PerHost l_Circuits l_Life l_Duration l_Data (fun (r_2 : Int) => joinP1 (fun (t70 : Bool) => cond t70 (K false) (False)) (fun (Q_1 : Bool → Prop) => Q_1 true)) (fun (r_3 : Int) (l_1 : Int) (l_2 : Int) (l_3 : Int) (l_4 : Int) (l_5 : Int) (l_6 : Int) (list : List (Int × Int × Int × Int × Int × Int)) (gone : List (Int × Int × Int × Int × Int × Int)) (last : Int) (now : Int) => joinP1 (fun (t70_1 : Bool) => cond t70_1 (K false) (circ_Table_Open_wp l_1 l_2 l_3 l_4 l_5 l_6 list gone last now 0 ends_x ends_x_1 1099511627776 (fun (r_4 : Int) (r_5 : Int) (list_1 : List (Int × Int × Int × Int × Int × Int)) (gone_1 : List (Int × Int × Int × Int × Int × Int)) (last_1 : Int) (now_1 : Int) => circ_Table_Open_wp l_1 l_2 l_3 l_4 l_5 l_6 list_1 gone_1 last_1 now_1 0 ends_x_1 ends_x 1099511627776 (fun (r_6 : Int) (r_7 : Int) (list_2 : List (Int × Int × Int × Int × Int × Int)) (gone_2 : List (Int × Int × Int × Int × Int × Int)) (last_2 : Int) (now_2 : Int) => circ_Table_Open_wp l_1 l_2 l_3 l_4 l_5 l_6 list_2 gone_2 last_2 now_2 (Int.tmod (IntKind.wrap .i64 wait) 60) ends_x_1 ends_x 1099511627776 (fun (r_8 : Int) (r_9 : Int) (list_3 : List (Int × Int × Int × Int × Int × Int)) (gone_3 : List (Int × Int × Int × Int × Int × Int)) (last_3 : Int) (now_3 : Int) => joinP0 (cond ((r_9 : Int) == 0) (K ((r_8 : Int) == 2)) (joinP4 (fun (list_4 : List (Int × Int × Int × Int × Int × Int)) (gone_4 : List (Int × Int × Int × Int × Int × Int)) (now_4 : Int) (t137 : Bool) => cond t137 (K false) (circ_Table_Open_wp l_1 l_2 l_3 l_4 l_5 l_6 list_4 gone_4 last_3 now_4 (Int.tmod (IntKind.wrap .i64 wait) 60) ends_x ends_x_1 1099511627776 (fun (r_12 : Int) (r_13 : Int) (list_7 : List (Int × Int × Int × Int × Int × Int)) (gone_7 : List (Int × Int × Int × Int × Int × Int)) (last_4 : Int) (now_7 : Int) => cond ((r_13 : Int) == 0) (K ((r_12 : Int) == 2)) (K false)))) (fun (Q_5 : List (Int × Int × Int × Int × Int × Int) → List (Int × Int × Int × Int × Int × Int) → Int → Bool → Prop) => circ_Table_Close_wp l_1 l_2 l_3 l_4 l_5 l_6 list_3 gone_3 last_3 now_3 (Int.tmod (IntKind.wrap .i64 wait) 60) r_4 (fun (r_10 : Bool) (list_5 : List (Int × Int × Int × Int × Int × Int)) (gone_5 : List (Int × Int × Int × Int × Int × Int)) (now_5 : Int) => cond (!r_10) (Q_5 list_5 gone_5 now_5 true) (circ_Table_Close_wp l_1 l_2 l_3 l_4 l_5 l_6 list_5 gone_5 last_3 now_5 (Int.tmod (IntKind.wrap .i64 wait) 60) r_4 (fun (r_11 : Bool) (list_6 : List (Int × Int × Int × Int × Int × Int)) (gone_6 : List (Int × Int × Int × Int × Int × Int)) (now_6 : Int) => Q_5 list_6 gone_6 now_6 r_11)))))) (fun (Q_3 : Prop) => joinP1 (fun (t122 : Bool) => cond t122 (K false) (Q_3 )) (fun (Q_4 : Bool → Prop) => cond ((r_5 : Int) != 0) (Q_4 true) (cond ((r_7 : Int) != 6) (Q_4 true) (cond ((r_4 : Int) != 1) (Q_4 true) (cond (!(((r_9 : Int) == 0) == (decide (((Int.tmod (IntKind.wrap .i64 wait) 60) : Int) ≥ l_Duration)))) (Q_4 true) (cond ((r_9 : Int) != 0) (Q_4 ((r_9 : Int) != 6)) (Q_4 false)))))))))))) (fun (Q_2 : Bool → Prop) => Q_2 ((r_3 : Int) != 0))))) (fun (Q : Bool → Prop) => resv_May_wp l_Reservations l_PerHost l_Circuits l_Life l_Duration l_Data (fun (r_1 : Bool) => cond (!r_1) (Q true) (cond ((l_Circuits : Int) == 0) (Q true) (cond (decide ((ends_x : Int) < 1)) (Q true) (cond (decide ((ends_x : Int) > 2147483647)) (Q true) (cond (decide ((ends_x_1 : Int) < 1)) (Q true) (cond (decide ((ends_x_1 : Int) > 2147483647)) (Q true) (cond ((ends_x : Int) == ends_x_1) (Q true) (Q (decide ((l_Duration : Int) > 1073741824)))))))))))))
theorem embrasurelaw24_CircTwo_ok {l_Reservations : Int} {l_PerHost : Int} {l_Circuits : Int} {l_Life : Int} {l_Duration : Int} {l_Data : Int} {ends_x : Int} {ends_x_1 : Int} {wait : Int} {FL : List HP} {w : World} {K : Bool → Prop} {R : Value → World → Prop}
  (h : Mem (FL) w) (hp : embrasurelaw24_CircTwo_wp l_Reservations l_PerHost l_Circuits l_Life l_Duration l_Data ends_x ends_x_1 wait K)
  (hR : ∀ (r : Bool) (w : World), Mem (FL) w → K r → R (Value.bool r) w) :
  CallV Try.prog 4 #[(Value.agg #[(Value.int .i64 l_Reservations), (Value.int .i64 l_PerHost), (Value.int .i64 l_Circuits), (Value.int .i64 l_Life), (Value.int .i64 l_Duration), (Value.int .i64 l_Data)]), (Value.agg #[(Value.int .i64 ends_x), (Value.int .i64 ends_x_1)]), (Value.int .u8 wait)] w R := by
  refine embrasurelaw24_CircTwo_call ?_
  unfold embrasurelaw24_CircTwo
  unfold embrasurelaw24_CircTwo_wp at hp
  refine newL (o := [(Value.int .i64 l_Reservations), (Value.int .i64 l_PerHost), (Value.int .i64 l_Circuits), (Value.int .i64 l_Life), (Value.int .i64 l_Duration), (Value.int .i64 l_Data)]) h ?_
  intro b_1 w h
  refine newL (o := [(Value.int .i64 ends_x), (Value.int .i64 ends_x_1)]) h ?_
  intro b_2 w h
  refine embrasurelaw24_awake_ok h hp ?_
  intro r w h hp
  refine ⟨_, rfl, ?_⟩
  refine cond_both hp (fun hp => ?_) (fun hp => ?_)
  · replace h := h.sel [] 2
    dsimp only [pickL, pickR, nthH, delH, dropH, List.cons_append, List.nil_append] at h
    exact hR false _ h hp
  refine ⟨by decide, by decide, ?_⟩
  refine ⟨_, cellL h 0 0 rfl rfl rfl, ?_⟩
  refine ⟨by decide, by decide, ?_⟩
  refine ⟨_, cellL h 0 1 rfl rfl rfl, ?_⟩
  obtain ⟨Q, hq, hp⟩ := hp
  refine ⟨fun wait2 l3 a7 b8 t59 w => wait = wait2 ∧ (Addr.mk b_1 0 none) = l3 ∧ ends_x = a7 ∧ ends_x_1 = b8 ∧ Q t59 ∧ Mem (cel b_2 34 [(Value.int .i64 ends_x), (Value.int .i64 ends_x_1)] :: cel b_1 23 [(Value.int .i64 l_Reservations), (Value.int .i64 l_PerHost), (Value.int .i64 l_Circuits), (Value.int .i64 l_Life), (Value.int .i64 l_Duration), (Value.int .i64 l_Data)] :: FL) w, ?_, ?_⟩
  · rintro wait2 l3 a7 b8 t59 w ⟨rfl, rfl, rfl, rfl, hp, h⟩
    replace hp := hq t59 hp
    unfold embrasurelaw24_CircTwo_j1
    refine cond_both hp (fun hp => ?_) (fun hp => ?_)
    · replace h := h.sel [] 2
      dsimp only [pickL, pickR, nthH, delH, dropH, List.cons_append, List.nil_append] at h
      exact hR true _ h hp
    refine ⟨_, cellL h 1 0 rfl rfl rfl, _, cellL h 1 1 rfl rfl rfl, _, cellL h 1 2 rfl rfl rfl, _, cellL h 1 3 rfl rfl rfl, _, cellL h 1 4 rfl rfl rfl, _, cellL h 1 5 rfl rfl rfl, ?_⟩
    refine circ_New_ok h hp ?_ ?_
    · intro r_2 w h hp
      refine ⟨_, _, rfl, ?_⟩
      obtain ⟨Q_1, hq, hp⟩ := hp
      refine ⟨fun wait2_1 l3_1 a7_1 b8_1 t9 t70 w => wait = wait2_1 ∧ (Addr.mk b_1 0 none) = l3_1 ∧ ends_x = a7_1 ∧ ends_x_1 = b8_1 ∧ none = t9 ∧ Q_1 t70 ∧ Mem (cel b_2 34 [(Value.int .i64 ends_x), (Value.int .i64 ends_x_1)] :: cel b_1 23 [(Value.int .i64 l_Reservations), (Value.int .i64 l_PerHost), (Value.int .i64 l_Circuits), (Value.int .i64 l_Life), (Value.int .i64 l_Duration), (Value.int .i64 l_Data)] :: FL) w, ?_, ?_⟩
      · rintro wait2_1 l3_1 a7_1 b8_1 t9 t70 w ⟨rfl, rfl, rfl, rfl, rfl, hp, h⟩
        replace hp := hq t70 hp
        unfold embrasurelaw24_CircTwo_j2
        refine cond_both' hp (fun hp => ?_) (fun hp => ?_)
        · exact hp.elim
        replace h := h.sel [] 2
        dsimp only [pickL, pickR, nthH, delH, dropH, List.cons_append, List.nil_append] at h
        exact hR false _ h hp
      clear hq
      refine eqlPtrNN undP28 ?_
      refine ⟨_, rfl, ?_⟩
      refine cond_tt ?_
      exact ⟨rfl, rfl, rfl, rfl, rfl, hp, h⟩
    rintro r_3 l_1 l_2 l_3 l_4 l_5 l_6 list gone last now b_3 p_1 n_1 c_1 p_2 n_2 c_2 w rfl rfl h hp
    have cpp_1 := rowCap h 1 rfl
    have cpp_2 := rowCap h 2 rfl
    refine ⟨_, _, rfl, ?_⟩
    obtain ⟨Q_2, hq, hp⟩ := hp
    refine ⟨fun wait2_2 l3_2 a7_2 b8_2 t9_1 t70_1 w => wait = wait2_2 ∧ (Addr.mk b_1 0 none) = l3_2 ∧ ends_x = a7_2 ∧ ends_x_1 = b8_2 ∧ (some (Addr.mk b_3 0 none)) = t9_1 ∧ Q_2 t70_1 ∧ Mem (cel b_3 52 [(Value.int .i64 l_1), (Value.int .i64 l_2), (Value.int .i64 l_3), (Value.int .i64 l_4), (Value.int .i64 l_5), (Value.int .i64 l_6), (Value.slice p_1 list.length c_1), (Value.slice p_2 gone.length c_2), (Value.int .i64 last), (Value.int .i64 now)] :: row enc38 38 6 p_1 c_1 list :: row enc38 38 6 p_2 c_2 gone :: cel b_2 34 [(Value.int .i64 ends_x), (Value.int .i64 ends_x_1)] :: cel b_1 23 [(Value.int .i64 l_Reservations), (Value.int .i64 l_PerHost), (Value.int .i64 l_Circuits), (Value.int .i64 l_Life), (Value.int .i64 l_Duration), (Value.int .i64 l_Data)] :: FL) w, ?_, ?_⟩
    · rintro wait2_2 l3_2 a7_2 b8_2 t9_1 t70_1 w ⟨rfl, rfl, rfl, rfl, rfl, hp, h⟩
      replace hp := hq t70_1 hp
      unfold embrasurelaw24_CircTwo_j2
      refine cond_both hp (fun hp => ?_) (fun hp => ?_)
      · replace h := h.sel [] 5
        dsimp only [pickL, pickR, nthH, delH, dropH, List.cons_append, List.nil_append] at h
        exact hR false _ h hp
      refine circ_Table_Open_ok h hp ?_
      rintro r_4 r_5 list_1 gone_1 last_1 now_1 p_3 n_3 c_3 p_4 n_4 c_4 w rfl rfl h hp
      have cpp_3 := rowCap h 1 rfl
      have cpp_4 := rowCap h 2 rfl
      refine ⟨_, _, rfl, ?_⟩
      refine circ_Table_Open_ok h hp ?_
      rintro r_6 r_7 list_2 gone_2 last_2 now_2 p_5 n_5 c_5 p_6 n_6 c_6 w rfl rfl h hp
      have cpp_5 := rowCap h 1 rfl
      have cpp_6 := rowCap h 2 rfl
      refine ⟨_, _, rfl, ?_⟩
      refine ⟨by decide, ?_⟩
      refine circ_Table_Open_ok h hp ?_
      rintro r_8 r_9 list_3 gone_3 last_3 now_3 p_7 n_7 c_7 p_8 n_8 c_8 w rfl rfl h hp
      have cpp_7 := rowCap h 1 rfl
      have cpp_8 := rowCap h 2 rfl
      refine ⟨_, _, rfl, ?_⟩
      obtain ⟨Q_3, hq, hp⟩ := hp
      refine ⟨fun a7_3 b8_3 t9_2 one11 w15 two16 h17 w => ends_x = a7_3 ∧ ends_x_1 = b8_3 ∧ (some (Addr.mk b_3 0 none)) = t9_2 ∧ r_4 = one11 ∧ (Int.tmod (IntKind.wrap .i64 wait) 60) = w15 ∧ r_8 = two16 ∧ r_9 = h17 ∧ Q_3 ∧ Mem (cel b_3 52 [(Value.int .i64 l_1), (Value.int .i64 l_2), (Value.int .i64 l_3), (Value.int .i64 l_4), (Value.int .i64 l_5), (Value.int .i64 l_6), (Value.slice p_7 list_3.length c_7), (Value.slice p_8 gone_3.length c_8), (Value.int .i64 last_3), (Value.int .i64 now_3)] :: row enc38 38 6 p_7 c_7 list_3 :: row enc38 38 6 p_8 c_8 gone_3 :: cel b_2 34 [(Value.int .i64 ends_x), (Value.int .i64 ends_x_1)] :: cel b_1 23 [(Value.int .i64 l_Reservations), (Value.int .i64 l_PerHost), (Value.int .i64 l_Circuits), (Value.int .i64 l_Life), (Value.int .i64 l_Duration), (Value.int .i64 l_Data)] :: FL) w, ?_, ?_⟩
      · rintro a7_3 b8_3 t9_2 one11 w15 two16 h17 w ⟨rfl, rfl, rfl, rfl, rfl, rfl, rfl, hp, h⟩
        replace hp := hq  hp
        unfold embrasurelaw24_CircTwo_j3
        refine cond_both hp (fun hp => ?_) (fun hp => ?_)
        · replace h := h.sel [] 5
          dsimp only [pickL, pickR, nthH, delH, dropH, List.cons_append, List.nil_append] at h
          exact hR ((r_8 : Int) == 2) _ h hp
        obtain ⟨Q_5, hq, hp⟩ := hp
        refine ⟨fun a7_5 b8_5 t9_4 w15_2 t137 w => ∃ (list_4 : List (Int × Int × Int × Int × Int × Int)), ∃ (p_9 : Option Addr), ∃ (n_9 : Nat), ∃ (c_9 : Nat), ∃ (gone_4 : List (Int × Int × Int × Int × Int × Int)), ∃ (p_10 : Option Addr), ∃ (n_10 : Nat), ∃ (c_10 : Nat), ∃ (now_4 : Int), ends_x = a7_5 ∧ ends_x_1 = b8_5 ∧ (some (Addr.mk b_3 0 none)) = t9_4 ∧ (Int.tmod (IntKind.wrap .i64 wait) 60) = w15_2 ∧ n_9 = list_4.length ∧ n_10 = gone_4.length ∧ Q_5 list_4 gone_4 now_4 t137 ∧ Mem (cel b_3 52 [(Value.int .i64 l_1), (Value.int .i64 l_2), (Value.int .i64 l_3), (Value.int .i64 l_4), (Value.int .i64 l_5), (Value.int .i64 l_6), (Value.slice p_9 n_9 c_9), (Value.slice p_10 n_10 c_10), (Value.int .i64 last_3), (Value.int .i64 now_4)] :: row enc38 38 6 p_9 c_9 list_4 :: row enc38 38 6 p_10 c_10 gone_4 :: cel b_2 34 [(Value.int .i64 ends_x), (Value.int .i64 ends_x_1)] :: cel b_1 23 [(Value.int .i64 l_Reservations), (Value.int .i64 l_PerHost), (Value.int .i64 l_Circuits), (Value.int .i64 l_Life), (Value.int .i64 l_Duration), (Value.int .i64 l_Data)] :: FL) w, ?_, ?_⟩
        · rintro a7_5 b8_5 t9_4 w15_2 t137 w ⟨list_4, p_9, n_9, c_9, gone_4, p_10, n_10, c_10, now_4, rfl, rfl, rfl, rfl, rfl, rfl, hp, h⟩
          replace hp := hq list_4 gone_4 now_4 t137 hp
          unfold embrasurelaw24_CircTwo_j4
          have cpp_9 := rowCap h 1 rfl
          have cpp_10 := rowCap h 2 rfl
          refine cond_both hp (fun hp => ?_) (fun hp => ?_)
          · replace h := h.sel [] 5
            dsimp only [pickL, pickR, nthH, delH, dropH, List.cons_append, List.nil_append] at h
            exact hR false _ h hp
          refine circ_Table_Open_ok h hp ?_
          rintro r_12 r_13 list_7 gone_7 last_4 now_7 p_15 n_15 c_15 p_16 n_16 c_16 w rfl rfl h hp
          have cpp_15 := rowCap h 1 rfl
          have cpp_16 := rowCap h 2 rfl
          refine ⟨_, _, rfl, ?_⟩
          refine cond_both hp (fun hp => ?_) (fun hp => ?_)
          · replace h := h.sel [] 5
            dsimp only [pickL, pickR, nthH, delH, dropH, List.cons_append, List.nil_append] at h
            exact hR ((r_12 : Int) == 2) _ h hp
          replace h := h.sel [] 5
          dsimp only [pickL, pickR, nthH, delH, dropH, List.cons_append, List.nil_append] at h
          exact hR false _ h hp
        clear hq
        refine circ_Table_Close_ok h hp ?_
        rintro r_10 list_5 gone_5 now_5 p_11 n_11 c_11 p_12 n_12 c_12 w rfl rfl h hp
        have cpp_11 := rowCap h 1 rfl
        have cpp_12 := rowCap h 2 rfl
        refine ⟨_, rfl, ?_⟩
        refine cond_both hp (fun hp => ?_) (fun hp => ?_)
        · exact ⟨list_5, p_11, list_5.length, c_11, gone_5, p_12, gone_5.length, c_12, now_5, rfl, rfl, rfl, rfl, rfl, rfl, hp, h⟩
        refine circ_Table_Close_ok h hp ?_
        rintro r_11 list_6 gone_6 now_6 p_13 n_13 c_13 p_14 n_14 c_14 w rfl rfl h hp
        have cpp_13 := rowCap h 1 rfl
        have cpp_14 := rowCap h 2 rfl
        refine ⟨_, rfl, ?_⟩
        exact ⟨list_6, p_13, list_6.length, c_13, gone_6, p_14, gone_6.length, c_14, now_6, rfl, rfl, rfl, rfl, rfl, rfl, hp, h⟩
      clear hq
      obtain ⟨Q_4, hq, hp⟩ := hp
      refine ⟨fun a7_4 b8_4 t9_3 one11_1 w15_1 two16_1 h17_1 t122 w => ends_x = a7_4 ∧ ends_x_1 = b8_4 ∧ (some (Addr.mk b_3 0 none)) = t9_3 ∧ r_4 = one11_1 ∧ (Int.tmod (IntKind.wrap .i64 wait) 60) = w15_1 ∧ r_8 = two16_1 ∧ r_9 = h17_1 ∧ Q_4 t122 ∧ Mem (cel b_3 52 [(Value.int .i64 l_1), (Value.int .i64 l_2), (Value.int .i64 l_3), (Value.int .i64 l_4), (Value.int .i64 l_5), (Value.int .i64 l_6), (Value.slice p_7 list_3.length c_7), (Value.slice p_8 gone_3.length c_8), (Value.int .i64 last_3), (Value.int .i64 now_3)] :: row enc38 38 6 p_7 c_7 list_3 :: row enc38 38 6 p_8 c_8 gone_3 :: cel b_2 34 [(Value.int .i64 ends_x), (Value.int .i64 ends_x_1)] :: cel b_1 23 [(Value.int .i64 l_Reservations), (Value.int .i64 l_PerHost), (Value.int .i64 l_Circuits), (Value.int .i64 l_Life), (Value.int .i64 l_Duration), (Value.int .i64 l_Data)] :: FL) w, ?_, ?_⟩
      · rintro a7_4 b8_4 t9_3 one11_1 w15_1 two16_1 h17_1 t122 w ⟨rfl, rfl, rfl, rfl, rfl, rfl, rfl, hp, h⟩
        replace hp := hq t122 hp
        unfold embrasurelaw24_CircTwo_j5
        refine cond_both' hp (fun hp => ?_) (fun hp => ?_)
        · exact ⟨rfl, rfl, rfl, rfl, rfl, rfl, rfl, hp, h⟩
        replace h := h.sel [] 5
        dsimp only [pickL, pickR, nthH, delH, dropH, List.cons_append, List.nil_append] at h
        exact hR false _ h hp
      clear hq
      refine cond_both hp (fun hp => ?_) (fun hp => ?_)
      · exact ⟨rfl, rfl, rfl, rfl, rfl, rfl, rfl, hp, h⟩
      refine cond_both hp (fun hp => ?_) (fun hp => ?_)
      · exact ⟨rfl, rfl, rfl, rfl, rfl, rfl, rfl, hp, h⟩
      refine cond_both hp (fun hp => ?_) (fun hp => ?_)
      · exact ⟨rfl, rfl, rfl, rfl, rfl, rfl, rfl, hp, h⟩
      refine ⟨_, cellL h 4 4 rfl rfl rfl, ?_⟩
      refine neqBool undB4 ?_
      refine ⟨_, rfl, ?_⟩
      refine cond_both hp (fun hp => ?_) (fun hp => ?_)
      · exact ⟨rfl, rfl, rfl, rfl, rfl, rfl, rfl, hp, h⟩
      refine cond_both hp (fun hp => ?_) (fun hp => ?_)
      · exact ⟨rfl, rfl, rfl, rfl, rfl, rfl, rfl, hp, h⟩
      exact ⟨rfl, rfl, rfl, rfl, rfl, rfl, rfl, hp, h⟩
    clear hq
    refine eqlPtrNil undP28 ?_
    refine ⟨_, rfl, ?_⟩
    refine cond_ff ?_
    exact ⟨rfl, rfl, rfl, rfl, rfl, hp, h⟩
  clear hq
  refine ⟨_, cellL h 1 0 rfl rfl rfl, _, cellL h 1 1 rfl rfl rfl, _, cellL h 1 2 rfl rfl rfl, _, cellL h 1 3 rfl rfl rfl, _, cellL h 1 4 rfl rfl rfl, _, cellL h 1 5 rfl rfl rfl, ?_⟩
  refine resv_May_ok h hp ?_
  intro r_1 w h hp
  refine ⟨_, rfl, ?_⟩
  refine cond_both hp (fun hp => ?_) (fun hp => ?_)
  · exact ⟨rfl, rfl, rfl, rfl, hp, h⟩
  refine ⟨_, cellL h 1 2 rfl rfl rfl, ?_⟩
  refine cond_both hp (fun hp => ?_) (fun hp => ?_)
  · exact ⟨rfl, rfl, rfl, rfl, hp, h⟩
  refine cond_both hp (fun hp => ?_) (fun hp => ?_)
  · exact ⟨rfl, rfl, rfl, rfl, hp, h⟩
  refine cond_both hp (fun hp => ?_) (fun hp => ?_)
  · exact ⟨rfl, rfl, rfl, rfl, hp, h⟩
  refine cond_both hp (fun hp => ?_) (fun hp => ?_)
  · exact ⟨rfl, rfl, rfl, rfl, hp, h⟩
  refine cond_both hp (fun hp => ?_) (fun hp => ?_)
  · exact ⟨rfl, rfl, rfl, rfl, hp, h⟩
  refine cond_both hp (fun hp => ?_) (fun hp => ?_)
  · exact ⟨rfl, rfl, rfl, rfl, hp, h⟩
  refine ⟨_, cellL h 1 4 rfl rfl rfl, ?_⟩
  exact ⟨rfl, rfl, rfl, rfl, hp, h⟩

end Go.Proofs.Ytjcebofaahbifaa
