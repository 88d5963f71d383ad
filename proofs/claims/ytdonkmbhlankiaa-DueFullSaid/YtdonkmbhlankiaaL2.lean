/- Each function over plain data (printed by a program of this claim's author). -/
import Derived.Test.YtdonkmbhlankiaaL1
namespace Go.Proofs.Ytdonkmbhlankiaa
open Go Go.Eng Go.Proofs
set_option maxRecDepth 100000
set_option maxHeartbeats 2000000

/-! slices.medianAdjacentCmpFunc[string] (52) -/
def slices_medianAdjacentCmpFunc_string_wp {σ3 : Type} (data : List (ByteArray)) (a_1 : Int) (swaps : Int) (s : σ3) (Y3 : (ByteArray) → (ByteArray) → σ3 → (Int → σ3 → Prop) → Prop) (K : Int → Int → σ3 → Prop) : Prop :=
  slices_medianCmpFunc_string_wp data (IntKind.wrap .i64 (a_1 - 1)) a_1 (IntKind.wrap .i64 (a_1 + 1)) swaps s Y3 (fun (r : Int) (x_2 : Int) (s_2 : σ3) => K r x_2 s_2)
theorem slices_medianAdjacentCmpFunc_string_ok {σ3 : Type} {A3 : σ3 → HP} {p_1 : Option Addr} {n_1 : Nat} {c_1 : Nat} {b_1 : Nat} {ff3 : Fn} {fa3 : Array Value} {fc3 : Array Value} {data : List (ByteArray)} {a_1 : Int} {swaps : Int} {s : σ3} {Y3 : (ByteArray) → (ByteArray) → σ3 → (Int → σ3 → Prop) → Prop} {FL : List HP} {w : World} {K : Int → Int → σ3 → Prop} {R : Value → World → Prop}
  (hY3 : ∀ (x0 : ByteArray) (x1 : ByteArray) (s : σ3) (K : Int → σ3 → Prop) (FL2 : List HP) (w : World) (R : Value → World → Prop), (∀ w, Mem FL2 w → Mem FL w) → Mem (A3 s :: FL2) w → Y3 x0 x1 s K → (∀ (r : Int) (s : σ3) (w : World), Mem (A3 s :: FL2) w → K r s → R (Value.int .i64 r) w) → CalleeV Try.prog (Value.func ff3 fa3 fc3) #[(Value.string x0), (Value.string x1)] w R)
  (hF_data : ∀ w, Mem FL w → Rd w 1 p_1 enc9 data) (hl_data : n_1 = data.length) (hc_data : n_1 ≤ c_1)
  (h : Mem (cel b_1 3 [(Value.int .i64 swaps)] :: A3 s :: FL) w) (hp : slices_medianAdjacentCmpFunc_string_wp data a_1 swaps s Y3 K)
  (hR : ∀ (r : Int) (x_1 : Int) (s_1 : σ3) (w : World), Mem (cel b_1 3 [(Value.int .i64 x_1)] :: A3 s_1 :: FL) w → K r x_1 s_1 → R (Value.int .i64 r) w) :
  CallV Try.prog 52 #[(Value.slice p_1 n_1 c_1), (Value.int .i64 a_1), (Value.pointer (some (Addr.mk b_1 0 none))), (Value.func ff3 fa3 fc3)] w R := by
  refine slices_medianAdjacentCmpFunc_string_call ?_
  unfold slices_medianAdjacentCmpFunc_string
  unfold slices_medianAdjacentCmpFunc_string_wp at hp
  subst hl_data
  refine slices_medianCmpFunc_string_ok (FL := FL) (A5 := A3) (Y5 := Y3) (σ5 := σ3) (s := s) (fun _ _ _ _ FL2 w R hx => hY3 _ _ _ _ FL2 w R (fun w h => (Mem.drop 0 (hx w h)))) (fun w h => (hF_data _ (h.drop 0))) rfl hc_data h hp ?_
  intro r x_2 s_2 w h hp
  refine ⟨_, rfl, ?_⟩
  exact hR r x_2 s_2 _ h hp

/-! slices.choosePivotCmpFunc[string] (41) -/
def slices_choosePivotCmpFunc_string_wp {σ3 : Type} (data : List (ByteArray)) (a_1 : Int) (b_1 : Int) (s : σ3) (Y3 : (ByteArray) → (ByteArray) → σ3 → (Int → σ3 → Prop) → Prop) (K : Int → Int → σ3 → Prop) : Prop :=
  joinP3 (fun (x_1 : Int) (j13 : Int) (s_2 : σ3) => cond ((x_1 : Int) == 0) (K j13 1 s_2) (cond ((x_1 : Int) == 12) (K j13 2 s_2) (K j13 0 s_2))) (fun (Q : Int → Int → σ3 → Prop) => cond (decide (((IntKind.wrap .i64 (b_1 - a_1)) : Int) ≥ 8)) (cond (decide (((IntKind.wrap .i64 (b_1 - a_1)) : Int) ≥ 50)) (slices_medianAdjacentCmpFunc_string_wp data (IntKind.wrap .i64 (a_1 + (IntKind.wrap .i64 ((IntKind.wrap .i64 (Int.tdiv (IntKind.wrap .i64 (b_1 - a_1)) 4)) * 1)))) 0 s Y3 (fun (r : Int) (x_2 : Int) (s_3 : σ3) => slices_medianAdjacentCmpFunc_string_wp data (IntKind.wrap .i64 (a_1 + (IntKind.wrap .i64 ((IntKind.wrap .i64 (Int.tdiv (IntKind.wrap .i64 (b_1 - a_1)) 4)) * 2)))) x_2 s_3 Y3 (fun (r_1 : Int) (x_3 : Int) (s_4 : σ3) => slices_medianAdjacentCmpFunc_string_wp data (IntKind.wrap .i64 (a_1 + (IntKind.wrap .i64 ((IntKind.wrap .i64 (Int.tdiv (IntKind.wrap .i64 (b_1 - a_1)) 4)) * 3)))) x_3 s_4 Y3 (fun (r_2 : Int) (x_4 : Int) (s_5 : σ3) => slices_medianCmpFunc_string_wp data r r_1 r_2 x_4 s_5 Y3 (fun (r_3 : Int) (x_5 : Int) (s_6 : σ3) => Q x_5 r_3 s_6))))) (slices_medianCmpFunc_string_wp data (IntKind.wrap .i64 (a_1 + (IntKind.wrap .i64 ((IntKind.wrap .i64 (Int.tdiv (IntKind.wrap .i64 (b_1 - a_1)) 4)) * 1)))) (IntKind.wrap .i64 (a_1 + (IntKind.wrap .i64 ((IntKind.wrap .i64 (Int.tdiv (IntKind.wrap .i64 (b_1 - a_1)) 4)) * 2)))) (IntKind.wrap .i64 (a_1 + (IntKind.wrap .i64 ((IntKind.wrap .i64 (Int.tdiv (IntKind.wrap .i64 (b_1 - a_1)) 4)) * 3)))) 0 s Y3 (fun (r_4 : Int) (x_6 : Int) (s_7 : σ3) => Q x_6 r_4 s_7))) (Q 0 (IntKind.wrap .i64 (a_1 + (IntKind.wrap .i64 ((IntKind.wrap .i64 (Int.tdiv (IntKind.wrap .i64 (b_1 - a_1)) 4)) * 2)))) s))
theorem slices_choosePivotCmpFunc_string_ok {σ3 : Type} {A3 : σ3 → HP} {p_1 : Option Addr} {n_1 : Nat} {c_1 : Nat} {ff3 : Fn} {fa3 : Array Value} {fc3 : Array Value} {data : List (ByteArray)} {a_1 : Int} {b_1 : Int} {s : σ3} {Y3 : (ByteArray) → (ByteArray) → σ3 → (Int → σ3 → Prop) → Prop} {FL : List HP} {w : World} {K : Int → Int → σ3 → Prop} {R : Value → World → Prop}
  (hY3 : ∀ (x0 : ByteArray) (x1 : ByteArray) (s : σ3) (K : Int → σ3 → Prop) (FL2 : List HP) (w : World) (R : Value → World → Prop), (∀ w, Mem FL2 w → Mem FL w) → Mem (A3 s :: FL2) w → Y3 x0 x1 s K → (∀ (r : Int) (s : σ3) (w : World), Mem (A3 s :: FL2) w → K r s → R (Value.int .i64 r) w) → CalleeV Try.prog (Value.func ff3 fa3 fc3) #[(Value.string x0), (Value.string x1)] w R)
  (hF_data : ∀ w, Mem FL w → Rd w 1 p_1 enc9 data) (hl_data : n_1 = data.length) (hc_data : n_1 ≤ c_1)
  (h : Mem (A3 s :: FL) w) (hp : slices_choosePivotCmpFunc_string_wp data a_1 b_1 s Y3 K)
  (hR : ∀ (r : Int) (r_1 : Int) (s_1 : σ3) (w : World), Mem (A3 s_1 :: FL) w → K r r_1 s_1 → R (Value.tuple #[(Value.int .i64 r), (Value.int .i64 r_1)]) w) :
  CallV Try.prog 41 #[(Value.slice p_1 n_1 c_1), (Value.int .i64 a_1), (Value.int .i64 b_1), (Value.func ff3 fa3 fc3)] w R := by
  refine slices_choosePivotCmpFunc_string_call ?_
  unfold slices_choosePivotCmpFunc_string
  unfold slices_choosePivotCmpFunc_string_wp at hp
  subst hl_data
  refine newL (o := [(Value.int .i64 0)]) h ?_
  intro b_2 w h
  refine ⟨by decide, ?_⟩
  refine ⟨by decide, ?_⟩
  refine ⟨by decide, ?_⟩
  obtain ⟨Q, hq, hp⟩ := hp
  refine ⟨fun swaps11 j13 w => ∃ (x_1 : Int), ∃ (s_2 : σ3), (Addr.mk b_2 0 none) = swaps11 ∧ Q x_1 j13 s_2 ∧ Mem (cel b_2 3 [(Value.int .i64 x_1)] :: A3 s_2 :: FL) w, ?_, ?_⟩
  · rintro swaps11 j13 w ⟨x_1, s_2, rfl, hp, h⟩
    replace hp := hq x_1 j13 s_2 hp
    unfold slices_choosePivotCmpFunc_string_j1
    refine ⟨_, cellL h 0 0 rfl rfl rfl, ?_⟩
    refine cond_both hp (fun hp => ?_) (fun hp => ?_)
    · replace h := h.sel [1] 1
      dsimp only [pickL, pickR, nthH, delH, dropH, List.cons_append, List.nil_append] at h
      exact hR j13 1 s_2 _ h hp
    refine cond_both hp (fun hp => ?_) (fun hp => ?_)
    · replace h := h.sel [1] 1
      dsimp only [pickL, pickR, nthH, delH, dropH, List.cons_append, List.nil_append] at h
      exact hR j13 2 s_2 _ h hp
    replace h := h.sel [1] 1
    dsimp only [pickL, pickR, nthH, delH, dropH, List.cons_append, List.nil_append] at h
    exact hR j13 0 s_2 _ h hp
  clear hq
  refine cond_both' hp (fun hp => ?_) (fun hp => ?_)
  · exact ⟨0, s, rfl, hp, h⟩
  refine cond_both' hp (fun hp => ?_) (fun hp => ?_)
  · refine slices_medianCmpFunc_string_ok (FL := FL) (A5 := A3) (Y5 := Y3) (σ5 := σ3) (s := s) (fun _ _ _ _ FL2 w R hx => hY3 _ _ _ _ FL2 w R (fun w h => (Mem.drop 0 (hx w h)))) (fun w h => (hF_data _ (h.drop 0))) rfl hc_data h hp ?_
    intro r_4 x_6 s_7 w h hp
    refine ⟨_, rfl, ?_⟩
    exact ⟨x_6, s_7, rfl, hp, h⟩
  refine slices_medianAdjacentCmpFunc_string_ok (FL := FL) (A3 := A3) (Y3 := Y3) (σ3 := σ3) (s := s) (fun _ _ _ _ FL2 w R hx => hY3 _ _ _ _ FL2 w R (fun w h => (Mem.drop 0 (hx w h)))) (fun w h => (hF_data _ (h.drop 0))) rfl hc_data h hp ?_
  intro r x_2 s_3 w h hp
  refine ⟨_, rfl, ?_⟩
  refine slices_medianAdjacentCmpFunc_string_ok (FL := FL) (A3 := A3) (Y3 := Y3) (σ3 := σ3) (s := s_3) (fun _ _ _ _ FL2 w R hx => hY3 _ _ _ _ FL2 w R (fun w h => (Mem.drop 0 (hx w h)))) (fun w h => (hF_data _ (h.drop 0))) rfl hc_data h hp ?_
  intro r_1 x_3 s_4 w h hp
  refine ⟨_, rfl, ?_⟩
  refine slices_medianAdjacentCmpFunc_string_ok (FL := FL) (A3 := A3) (Y3 := Y3) (σ3 := σ3) (s := s_4) (fun _ _ _ _ FL2 w R hx => hY3 _ _ _ _ FL2 w R (fun w h => (Mem.drop 0 (hx w h)))) (fun w h => (hF_data _ (h.drop 0))) rfl hc_data h hp ?_
  intro r_2 x_4 s_5 w h hp
  refine ⟨_, rfl, ?_⟩
  refine slices_medianCmpFunc_string_ok (FL := FL) (A5 := A3) (Y5 := Y3) (σ5 := σ3) (s := s_5) (fun _ _ _ _ FL2 w R hx => hY3 _ _ _ _ FL2 w R (fun w h => (Mem.drop 0 (hx w h)))) (fun w h => (hF_data _ (h.drop 0))) rfl hc_data h hp ?_
  intro r_3 x_5 s_6 w h hp
  refine ⟨_, rfl, ?_⟩
  exact ⟨x_5, s_6, rfl, hp, h⟩

/-! slices.reverseRangeCmpFunc[string] (42) -/
def slices_reverseRangeCmpFunc_string_wp {σ3 : Type} (data : List (ByteArray)) (a_1 : Int) (b_1 : Int) (s : σ3) (Y3 : (ByteArray) → (ByteArray) → σ3 → (Int → σ3 → Prop) → Prop) (K : List (ByteArray) → Prop) : Prop :=
  ∃ (I : Nat → List (ByteArray) → Int → Int → Prop), (∃ (n_4 : Nat), I n_4 data a_1 (IntKind.wrap .i64 (b_1 - 1))) ∧ ∀ (n_2 : Nat) (data_1 : List (ByteArray)) (i8 : Int) (j9 : Int), I n_2 data_1 i8 j9 → (cond (decide ((i8 : Int) < j9)) (0 ≤ (j9 : Int) ∧ (j9 : Int) < ((data.length : Nat) : Int) ∧ (∀ (x_1 : ByteArray), data_1[Int.toNat j9]? = some x_1 → (0 ≤ (i8 : Int) ∧ (i8 : Int) < ((data.length : Nat) : Int) ∧ (∀ (x_2 : ByteArray), data_1[Int.toNat i8]? = some x_2 → (0 ≤ (i8 : Int) ∧ (i8 : Int) < ((data.length : Nat) : Int) ∧ (0 ≤ (j9 : Int) ∧ (j9 : Int) < ((data.length : Nat) : Int) ∧ (∃ (n_3 : Nat), n_3 < n_2 ∧ I n_3 (List.set (List.set data_1 (Int.toNat i8) x_1) (Int.toNat j9) x_2) (IntKind.wrap .i64 (i8 + 1)) (IntKind.wrap .i64 (j9 - 1))))))))) (K data_1))
theorem slices_reverseRangeCmpFunc_string_ok {σ3 : Type} {A3 : σ3 → HP} {p_1 : Option Addr} {c_1 : Nat} {n_1 : Nat} {ff3 : Fn} {fa3 : Array Value} {fc3 : Array Value} {data : List (ByteArray)} {a_1 : Int} {b_1 : Int} {s : σ3} {Y3 : (ByteArray) → (ByteArray) → σ3 → (Int → σ3 → Prop) → Prop} {FL : List HP} {w : World} {K : List (ByteArray) → Prop} {R : Value → World → Prop}
  (hY3 : ∀ (x0 : ByteArray) (x1 : ByteArray) (s : σ3) (K : Int → σ3 → Prop) (FL2 : List HP) (w : World) (R : Value → World → Prop), (∀ w, Mem FL2 w → Mem FL w) → Mem (A3 s :: FL2) w → Y3 x0 x1 s K → (∀ (r : Int) (s : σ3) (w : World), Mem (A3 s :: FL2) w → K r s → R (Value.int .i64 r) w) → CalleeV Try.prog (Value.func ff3 fa3 fc3) #[(Value.string x0), (Value.string x1)] w R) (hn_p_1 : n_1 = data.length)
  (h : Mem (row enc9 9 1 p_1 c_1 data :: A3 s :: FL) w) (hp : slices_reverseRangeCmpFunc_string_wp data a_1 b_1 s Y3 K)
  (hR : ∀ (data_1 : List (ByteArray)) (w : World), data.length = data_1.length → Mem (row enc9 9 1 p_1 c_1 data_1 :: A3 s :: FL) w → K data_1 → R undef w) :
  CallV Try.prog 42 #[(Value.slice p_1 n_1 c_1), (Value.int .i64 a_1), (Value.int .i64 b_1), (Value.func ff3 fa3 fc3)] w R := by
  refine slices_reverseRangeCmpFunc_string_call ?_
  unfold slices_reverseRangeCmpFunc_string
  unfold slices_reverseRangeCmpFunc_string_wp at hp
  subst hn_p_1
  have cpp_1 := rowCap h 0 rfl
  obtain ⟨I, ⟨n_4, h0⟩, hq⟩ := hp
  replace h := h.sel [1, 0] 0
  dsimp only [pickL, pickR, nthH, delH, dropH, List.cons_append, List.nil_append] at h
  refine ⟨fun n_2 data0p data0l data0c i8 j9 w => ∃ (data_1 : List (ByteArray)), p_1 = data0p ∧ data.length = data0l ∧ c_1 = data0c ∧ data.length = data_1.length ∧ I n_2 data_1 i8 j9 ∧ Mem (A3 s :: row enc9 9 1 p_1 c_1 data_1 :: FL) w, ⟨n_4, data, rfl, rfl, rfl, rfl, h0, h⟩, ?_⟩
  clear h0 h
  rintro n_2 data0p data0l data0c i8 j9 w ⟨data_1, rfl, rfl, rfl, hl_data_1, hp, h⟩
  replace hp := hq n_2 data_1 i8 j9 hp
  clear hq
  unfold slices_reverseRangeCmpFunc_string_l1
  refine cond_both' hp (fun hp => ?_) (fun hp => ?_)
  · replace h := h.sel [1, 0] 0
    dsimp only [pickL, pickR, nthH, delH, dropH, List.cons_append, List.nil_append] at h
    exact hR data_1 _ hl_data_1 h hp
  replace h := h.drew
  obtain ⟨ia_2, ja_2, hp⟩ := hp
  obtain ⟨a_2, ha_2⟩ := rdAddr (rowRd h 1 encL9 rfl) hl_data_1 ia_2 ja_2
  refine ⟨a_2, ha_2, ia_2, ja_2, ?_⟩
  obtain ⟨x_1, hx_1, hc⟩ := rdCell0 (rowRd h 1 encL9 rfl) ha_2 hl_data_1 ia_2 ja_2
  replace hp := hp x_1 hx_1
  refine ⟨_, hc _ rfl, ?_⟩
  obtain ⟨ia_3, ja_3, hp⟩ := hp
  obtain ⟨a_3, ha_3⟩ := rdAddr (rowRd h 1 encL9 rfl) hl_data_1 ia_3 ja_3
  refine ⟨a_3, ha_3, ia_3, ja_3, ?_⟩
  obtain ⟨x_2, hx_2, hc⟩ := rdCell0 (rowRd h 1 encL9 rfl) ha_3 hl_data_1 ia_3 ja_3
  replace hp := hp x_2 hx_2
  refine ⟨_, hc _ rfl, ?_⟩
  obtain ⟨ia_4, ja_4, hp⟩ := hp
  obtain ⟨a_4, ha_4⟩ := rdAddr (rowRd h 1 encL9 rfl) hl_data_1 ia_4 ja_4
  refine ⟨a_4, ha_4, ia_4, ja_4, ?_⟩
  refine rowSetW (ys := [(Value.string x_1)]) (x := x_1) h 1 encL9 rfl ha_4 hl_data_1 ia_4 ja_4 sz9 rfl rfl rfl ?_
  intro w h
  dsimp only [setH, setVs, setV] at h
  obtain ⟨ia_5, ja_5, hp⟩ := hp
  obtain ⟨a_5, ha_5⟩ := rdAddr (rowRd h 1 encL9 rfl) (lenSet hl_data_1) ia_5 ja_5
  refine ⟨a_5, ha_5, ia_5, ja_5, ?_⟩
  refine rowSetW (ys := [(Value.string x_2)]) (x := x_2) h 1 encL9 rfl ha_5 (lenSet hl_data_1) ia_5 ja_5 sz9 rfl rfl rfl ?_
  intro w h
  dsimp only [setH, setVs, setV] at h
  obtain ⟨n_3, hn, hp⟩ := hp
  exact ⟨n_3, hn, (List.set (List.set data_1 (Int.toNat i8) x_1) (Int.toNat j9) x_2), rfl, rfl, rfl, (lenSet (lenSet hl_data_1)), hp, h⟩

/-! slices.partialInsertionSortCmpFunc[string] (43) -/
def slices_partialInsertionSortCmpFunc_string_wp {σ3 : Type} (data : List (ByteArray)) (a_1 : Int) (b_1 : Int) (s : σ3) (Y3 : (ByteArray) → (ByteArray) → σ3 → (Int → σ3 → Prop) → Prop) (K : Bool → List (ByteArray) → σ3 → Prop) : Prop :=
  ∃ (I : Nat → List (ByteArray) → Int → Int → σ3 → Prop), (∃ (n_15 : Nat), I n_15 data (IntKind.wrap .i64 (a_1 + 1)) 0 s) ∧ ∀ (n_2 : Nat) (data_1 : List (ByteArray)) (i9 : Int) (j10 : Int) (s_2 : σ3), I n_2 data_1 i9 j10 s_2 → (cond (decide ((j10 : Int) < 5)) (joinP2 (fun (i9_1 : Int) (s_3 : σ3) => cond ((i9_1 : Int) == b_1) (K true data_1 s_3) (cond (decide (((IntKind.wrap .i64 (b_1 - a_1)) : Int) < 50)) (K false data_1 s_3) (0 ≤ ((IntKind.wrap .i64 (i9_1 - 1)) : Int) ∧ ((IntKind.wrap .i64 (i9_1 - 1)) : Int) < ((data.length : Nat) : Int) ∧ (∀ (x_3 : ByteArray), data_1[Int.toNat (IntKind.wrap .i64 (i9_1 - 1))]? = some x_3 → (0 ≤ (i9_1 : Int) ∧ (i9_1 : Int) < ((data.length : Nat) : Int) ∧ (∀ (x_4 : ByteArray), data_1[Int.toNat i9_1]? = some x_4 → (0 ≤ (i9_1 : Int) ∧ (i9_1 : Int) < ((data.length : Nat) : Int) ∧ (0 ≤ ((IntKind.wrap .i64 (i9_1 - 1)) : Int) ∧ ((IntKind.wrap .i64 (i9_1 - 1)) : Int) < ((data.length : Nat) : Int) ∧ (joinP2 (fun (data_2 : List (ByteArray)) (s_7 : σ3) => cond (decide (((IntKind.wrap .i64 (b_1 - i9_1)) : Int) ≥ 2)) (∃ (I_3 : Nat → List (ByteArray) → Int → σ3 → Prop), (∃ (n_13 : Nat), I_3 n_13 data_2 (IntKind.wrap .i64 (i9_1 + 1)) s_7) ∧ ∀ (n_9 : Nat) (data_4 : List (ByteArray)) (j12 : Int) (s_10 : σ3), I_3 n_9 data_4 j12 s_10 → (cond (decide ((j12 : Int) < b_1)) (0 ≤ (j12 : Int) ∧ (j12 : Int) < ((data.length : Nat) : Int) ∧ (∀ (x_13 : ByteArray), data_4[Int.toNat j12]? = some x_13 → (0 ≤ ((IntKind.wrap .i64 (j12 - 1)) : Int) ∧ ((IntKind.wrap .i64 (j12 - 1)) : Int) < ((data.length : Nat) : Int) ∧ (∀ (x_14 : ByteArray), data_4[Int.toNat (IntKind.wrap .i64 (j12 - 1))]? = some x_14 → (Y3 x_13 x_14 s_10 (fun (t122 : Int) (s_11 : σ3) => cond (!(decide ((t122 : Int) < 0))) (∃ (n_10 : Nat), n_10 < n_2 ∧ I n_10 data_4 i9_1 (IntKind.wrap .i64 (j10 + 1)) s_11) (0 ≤ ((IntKind.wrap .i64 (j12 - 1)) : Int) ∧ ((IntKind.wrap .i64 (j12 - 1)) : Int) < ((data.length : Nat) : Int) ∧ (∀ (x_15 : ByteArray), data_4[Int.toNat (IntKind.wrap .i64 (j12 - 1))]? = some x_15 → (0 ≤ (j12 : Int) ∧ (j12 : Int) < ((data.length : Nat) : Int) ∧ (∀ (x_16 : ByteArray), data_4[Int.toNat j12]? = some x_16 → (0 ≤ (j12 : Int) ∧ (j12 : Int) < ((data.length : Nat) : Int) ∧ (0 ≤ ((IntKind.wrap .i64 (j12 - 1)) : Int) ∧ ((IntKind.wrap .i64 (j12 - 1)) : Int) < ((data.length : Nat) : Int) ∧ (∃ (n_11 : Nat), n_11 < n_9 ∧ I_3 n_11 (List.set (List.set data_4 (Int.toNat j12) x_15) (Int.toNat (IntKind.wrap .i64 (j12 - 1))) x_16) (IntKind.wrap .i64 (j12 + 1)) s_11))))))))))))) (∃ (n_12 : Nat), n_12 < n_2 ∧ I n_12 data_4 i9_1 (IntKind.wrap .i64 (j10 + 1)) s_10))) (∃ (n_14 : Nat), n_14 < n_2 ∧ I n_14 data_2 i9_1 (IntKind.wrap .i64 (j10 + 1)) s_7)) (fun (Q_2 : List (ByteArray) → σ3 → Prop) => cond (decide (((IntKind.wrap .i64 (i9_1 - a_1)) : Int) ≥ 2)) (∃ (I_2 : Nat → List (ByteArray) → Int → σ3 → Prop), (∃ (n_8 : Nat), I_2 n_8 (List.set (List.set data_1 (Int.toNat i9_1) x_3) (Int.toNat (IntKind.wrap .i64 (i9_1 - 1))) x_4) (IntKind.wrap .i64 (i9_1 - 1)) s_3) ∧ ∀ (n_6 : Nat) (data_3 : List (ByteArray)) (j11 : Int) (s_8 : σ3), I_2 n_6 data_3 j11 s_8 → (cond (decide ((j11 : Int) ≥ 1)) (0 ≤ (j11 : Int) ∧ (j11 : Int) < ((data.length : Nat) : Int) ∧ (∀ (x_7 : ByteArray), data_3[Int.toNat j11]? = some x_7 → (0 ≤ ((IntKind.wrap .i64 (j11 - 1)) : Int) ∧ ((IntKind.wrap .i64 (j11 - 1)) : Int) < ((data.length : Nat) : Int) ∧ (∀ (x_8 : ByteArray), data_3[Int.toNat (IntKind.wrap .i64 (j11 - 1))]? = some x_8 → (Y3 x_7 x_8 s_8 (fun (t82 : Int) (s_9 : σ3) => cond (!(decide ((t82 : Int) < 0))) (Q_2 data_3 s_9) (0 ≤ ((IntKind.wrap .i64 (j11 - 1)) : Int) ∧ ((IntKind.wrap .i64 (j11 - 1)) : Int) < ((data.length : Nat) : Int) ∧ (∀ (x_9 : ByteArray), data_3[Int.toNat (IntKind.wrap .i64 (j11 - 1))]? = some x_9 → (0 ≤ (j11 : Int) ∧ (j11 : Int) < ((data.length : Nat) : Int) ∧ (∀ (x_10 : ByteArray), data_3[Int.toNat j11]? = some x_10 → (0 ≤ (j11 : Int) ∧ (j11 : Int) < ((data.length : Nat) : Int) ∧ (0 ≤ ((IntKind.wrap .i64 (j11 - 1)) : Int) ∧ ((IntKind.wrap .i64 (j11 - 1)) : Int) < ((data.length : Nat) : Int) ∧ (∃ (n_7 : Nat), n_7 < n_6 ∧ I_2 n_7 (List.set (List.set data_3 (Int.toNat j11) x_9) (Int.toNat (IntKind.wrap .i64 (j11 - 1))) x_10) (IntKind.wrap .i64 (j11 - 1)) s_9))))))))))))) (Q_2 data_3 s_8))) (Q_2 (List.set (List.set data_1 (Int.toNat i9_1) x_3) (Int.toNat (IntKind.wrap .i64 (i9_1 - 1))) x_4) s_3))))))))))) (fun (Q : Int → σ3 → Prop) => ∃ (I_1 : Nat → Int → σ3 → Prop), (∃ (n_5 : Nat), I_1 n_5 i9 s_2) ∧ ∀ (n_3 : Nat) (i9_2 : Int) (s_4 : σ3), I_1 n_3 i9_2 s_4 → (joinP2 (fun (t36 : Bool) (s_5 : σ3) => cond t36 (∃ (n_4 : Nat), n_4 < n_3 ∧ I_1 n_4 (IntKind.wrap .i64 (i9_2 + 1)) s_5) (Q i9_2 s_5)) (fun (Q_1 : Bool → σ3 → Prop) => cond (decide ((i9_2 : Int) < b_1)) (0 ≤ (i9_2 : Int) ∧ (i9_2 : Int) < ((data.length : Nat) : Int) ∧ (∀ (x_1 : ByteArray), data_1[Int.toNat i9_2]? = some x_1 → (0 ≤ ((IntKind.wrap .i64 (i9_2 - 1)) : Int) ∧ ((IntKind.wrap .i64 (i9_2 - 1)) : Int) < ((data.length : Nat) : Int) ∧ (∀ (x_2 : ByteArray), data_1[Int.toNat (IntKind.wrap .i64 (i9_2 - 1))]? = some x_2 → (Y3 x_1 x_2 s_4 (fun (t33 : Int) (s_6 : σ3) => Q_1 (!(decide ((t33 : Int) < 0))) s_6)))))) (Q_1 false s_4))))) (K false data_1 s_2))
theorem slices_partialInsertionSortCmpFunc_string_ok {σ3 : Type} {A3 : σ3 → HP} {p_1 : Option Addr} {c_1 : Nat} {n_1 : Nat} {ff3 : Fn} {fa3 : Array Value} {fc3 : Array Value} {data : List (ByteArray)} {a_1 : Int} {b_1 : Int} {s : σ3} {Y3 : (ByteArray) → (ByteArray) → σ3 → (Int → σ3 → Prop) → Prop} {FL : List HP} {w : World} {K : Bool → List (ByteArray) → σ3 → Prop} {R : Value → World → Prop}
  (hY3 : ∀ (x0 : ByteArray) (x1 : ByteArray) (s : σ3) (K : Int → σ3 → Prop) (FL2 : List HP) (w : World) (R : Value → World → Prop), (∀ w, Mem FL2 w → Mem FL w) → Mem (A3 s :: FL2) w → Y3 x0 x1 s K → (∀ (r : Int) (s : σ3) (w : World), Mem (A3 s :: FL2) w → K r s → R (Value.int .i64 r) w) → CalleeV Try.prog (Value.func ff3 fa3 fc3) #[(Value.string x0), (Value.string x1)] w R) (hn_p_1 : n_1 = data.length)
  (h : Mem (row enc9 9 1 p_1 c_1 data :: A3 s :: FL) w) (hp : slices_partialInsertionSortCmpFunc_string_wp data a_1 b_1 s Y3 K)
  (hR : ∀ (r : Bool) (data_1 : List (ByteArray)) (s_1 : σ3) (w : World), data.length = data_1.length → Mem (row enc9 9 1 p_1 c_1 data_1 :: A3 s_1 :: FL) w → K r data_1 s_1 → R (Value.bool r) w) :
  CallV Try.prog 43 #[(Value.slice p_1 n_1 c_1), (Value.int .i64 a_1), (Value.int .i64 b_1), (Value.func ff3 fa3 fc3)] w R := by
  refine slices_partialInsertionSortCmpFunc_string_call ?_
  unfold slices_partialInsertionSortCmpFunc_string
  unfold slices_partialInsertionSortCmpFunc_string_wp at hp
  subst hn_p_1
  have cpp_1 := rowCap h 0 rfl
  obtain ⟨I, ⟨n_15, h0⟩, hq⟩ := hp
  replace h := h.sel [1, 0] 0
  dsimp only [pickL, pickR, nthH, delH, dropH, List.cons_append, List.nil_append] at h
  refine ⟨fun n_2 data0p data0l data0c a1 b2 cmp3 i9 j10 w => ∃ (data_1 : List (ByteArray)), ∃ (s_2 : σ3), p_1 = data0p ∧ data.length = data0l ∧ c_1 = data0c ∧ a_1 = a1 ∧ b_1 = b2 ∧ (Value.func ff3 fa3 fc3) = cmp3 ∧ data.length = data_1.length ∧ I n_2 data_1 i9 j10 s_2 ∧ Mem (A3 s_2 :: row enc9 9 1 p_1 c_1 data_1 :: FL) w, ⟨n_15, data, s, rfl, rfl, rfl, rfl, rfl, rfl, rfl, h0, h⟩, ?_⟩
  clear h0 h
  rintro n_2 data0p data0l data0c a1 b2 cmp3 i9 j10 w ⟨data_1, s_2, rfl, rfl, rfl, rfl, rfl, rfl, hl_data_1, hp, h⟩
  replace hp := hq n_2 data_1 i9 j10 s_2 hp
  clear hq
  unfold slices_partialInsertionSortCmpFunc_string_l1
  refine cond_both' hp (fun hp => ?_) (fun hp => ?_)
  · replace h := h.sel [1, 0] 0
    dsimp only [pickL, pickR, nthH, delH, dropH, List.cons_append, List.nil_append] at h
    exact hR false data_1 s_2 _ hl_data_1 h hp
  obtain ⟨Q, hq, hp⟩ := hp
  refine ⟨fun data0_1p data0_1l data0_1c a1_1 b2_1 cmp3_1 i9_1 j10_1 w => ∃ (s_3 : σ3), p_1 = data0_1p ∧ data.length = data0_1l ∧ c_1 = data0_1c ∧ a_1 = a1_1 ∧ b_1 = b2_1 ∧ (Value.func ff3 fa3 fc3) = cmp3_1 ∧ j10 = j10_1 ∧ Q i9_1 s_3 ∧ Mem (A3 s_3 :: row enc9 9 1 p_1 c_1 data_1 :: FL) w, ?_, ?_⟩
  · rintro data0_1p data0_1l data0_1c a1_1 b2_1 cmp3_1 i9_1 j10_1 w ⟨s_3, rfl, rfl, rfl, rfl, rfl, rfl, rfl, hp, h⟩
    replace hp := hq i9_1 s_3 hp
    unfold slices_partialInsertionSortCmpFunc_string_j2
    refine cond_both hp (fun hp => ?_) (fun hp => ?_)
    · replace h := h.sel [1, 0] 0
      dsimp only [pickL, pickR, nthH, delH, dropH, List.cons_append, List.nil_append] at h
      exact hR true data_1 s_3 _ hl_data_1 h hp
    refine cond_both hp (fun hp => ?_) (fun hp => ?_)
    · replace h := h.sel [1, 0] 0
      dsimp only [pickL, pickR, nthH, delH, dropH, List.cons_append, List.nil_append] at h
      exact hR false data_1 s_3 _ hl_data_1 h hp
    replace h := h.drew
    obtain ⟨ia_4, ja_4, hp⟩ := hp
    obtain ⟨a_4, ha_4⟩ := rdAddr (rowRd h 1 encL9 rfl) hl_data_1 ia_4 ja_4
    refine ⟨a_4, ha_4, ia_4, ja_4, ?_⟩
    obtain ⟨x_3, hx_3, hc⟩ := rdCell0 (rowRd h 1 encL9 rfl) ha_4 hl_data_1 ia_4 ja_4
    replace hp := hp x_3 hx_3
    refine ⟨_, hc _ rfl, ?_⟩
    obtain ⟨ia_5, ja_5, hp⟩ := hp
    obtain ⟨a_5, ha_5⟩ := rdAddr (rowRd h 1 encL9 rfl) hl_data_1 ia_5 ja_5
    refine ⟨a_5, ha_5, ia_5, ja_5, ?_⟩
    obtain ⟨x_4, hx_4, hc⟩ := rdCell0 (rowRd h 1 encL9 rfl) ha_5 hl_data_1 ia_5 ja_5
    replace hp := hp x_4 hx_4
    refine ⟨_, hc _ rfl, ?_⟩
    obtain ⟨ia_6, ja_6, hp⟩ := hp
    obtain ⟨a_6, ha_6⟩ := rdAddr (rowRd h 1 encL9 rfl) hl_data_1 ia_6 ja_6
    refine ⟨a_6, ha_6, ia_6, ja_6, ?_⟩
    refine rowSetW (ys := [(Value.string x_3)]) (x := x_3) h 1 encL9 rfl ha_6 hl_data_1 ia_6 ja_6 sz9 rfl rfl rfl ?_
    intro w h
    dsimp only [setH, setVs, setV] at h
    obtain ⟨ia_7, ja_7, hp⟩ := hp
    obtain ⟨a_7, ha_7⟩ := rdAddr (rowRd h 1 encL9 rfl) (lenSet hl_data_1) ia_7 ja_7
    refine ⟨a_7, ha_7, ia_7, ja_7, ?_⟩
    refine rowSetW (ys := [(Value.string x_4)]) (x := x_4) h 1 encL9 rfl ha_7 (lenSet hl_data_1) ia_7 ja_7 sz9 rfl rfl rfl ?_
    intro w h
    dsimp only [setH, setVs, setV] at h
    obtain ⟨Q_2, hq, hp⟩ := hp
    refine ⟨fun data0_4p data0_4l data0_4c a1_4 b2_4 cmp3_4 i9_4 j10_4 w => ∃ (data_2 : List (ByteArray)), ∃ (s_7 : σ3), p_1 = data0_4p ∧ data.length = data0_4l ∧ c_1 = data0_4c ∧ a_1 = a1_4 ∧ b_1 = b2_4 ∧ (Value.func ff3 fa3 fc3) = cmp3_4 ∧ i9_1 = i9_4 ∧ j10 = j10_4 ∧ data.length = data_2.length ∧ Q_2 data_2 s_7 ∧ Mem (A3 s_7 :: row enc9 9 1 p_1 c_1 data_2 :: FL) w, ?_, ?_⟩
    · rintro data0_4p data0_4l data0_4c a1_4 b2_4 cmp3_4 i9_4 j10_4 w ⟨data_2, s_7, rfl, rfl, rfl, rfl, rfl, rfl, rfl, rfl, hl_data_2, hp, h⟩
      replace hp := hq data_2 s_7 hp
      unfold slices_partialInsertionSortCmpFunc_string_j3
      refine cond_both' hp (fun hp => ?_) (fun hp => ?_)
      · obtain ⟨n_14, hn, hp⟩ := hp
        exact ⟨n_14, hn, data_2, s_7, rfl, rfl, rfl, rfl, rfl, rfl, hl_data_2, hp, h⟩
      obtain ⟨I_3, ⟨n_13, h0⟩, hq⟩ := hp
      refine ⟨fun n_9 data0_6p data0_6l data0_6c a1_6 b2_6 cmp3_6 i9_6 j10_6 j12 w => ∃ (data_4 : List (ByteArray)), ∃ (s_10 : σ3), p_1 = data0_6p ∧ data.length = data0_6l ∧ c_1 = data0_6c ∧ a_1 = a1_6 ∧ b_1 = b2_6 ∧ (Value.func ff3 fa3 fc3) = cmp3_6 ∧ i9_1 = i9_6 ∧ j10 = j10_6 ∧ data.length = data_4.length ∧ I_3 n_9 data_4 j12 s_10 ∧ Mem (A3 s_10 :: row enc9 9 1 p_1 c_1 data_4 :: FL) w, ⟨n_13, data_2, s_7, rfl, rfl, rfl, rfl, rfl, rfl, rfl, rfl, hl_data_2, h0, h⟩, ?_⟩
      clear h0 h
      rintro n_9 data0_6p data0_6l data0_6c a1_6 b2_6 cmp3_6 i9_6 j10_6 j12 w ⟨data_4, s_10, rfl, rfl, rfl, rfl, rfl, rfl, rfl, rfl, hl_data_4, hp, h⟩
      replace hp := hq n_9 data_4 j12 s_10 hp
      clear hq
      unfold slices_partialInsertionSortCmpFunc_string_l4
      refine cond_both' hp (fun hp => ?_) (fun hp => ?_)
      · obtain ⟨n_12, hn, hp⟩ := hp
        exact ⟨n_12, hn, data_4, s_10, rfl, rfl, rfl, rfl, rfl, rfl, hl_data_4, hp, h⟩
      replace h := h.drew
      obtain ⟨ia_14, ja_14, hp⟩ := hp
      obtain ⟨a_14, ha_14⟩ := rdAddr (rowRd h 1 encL9 rfl) hl_data_4 ia_14 ja_14
      refine ⟨a_14, ha_14, ia_14, ja_14, ?_⟩
      obtain ⟨x_13, hx_13, hc⟩ := rdCell0 (rowRd h 1 encL9 rfl) ha_14 hl_data_4 ia_14 ja_14
      replace hp := hp x_13 hx_13
      refine ⟨_, hc _ rfl, ?_⟩
      obtain ⟨ia_15, ja_15, hp⟩ := hp
      obtain ⟨a_15, ha_15⟩ := rdAddr (rowRd h 1 encL9 rfl) hl_data_4 ia_15 ja_15
      refine ⟨a_15, ha_15, ia_15, ja_15, ?_⟩
      obtain ⟨x_14, hx_14, hc⟩ := rdCell0 (rowRd h 1 encL9 rfl) ha_15 hl_data_4 ia_15 ja_15
      replace hp := hp x_14 hx_14
      refine ⟨_, hc _ rfl, ?_⟩
      refine hY3 x_13 x_14 _ _ (row enc9 9 1 p_1 c_1 data_4 :: FL) _ _ (fun _ h => Mem.drop 1 h) h hp ?_
      intro t122 s_11 w h hp
      refine ⟨_, rfl, ?_⟩
      refine cond_both hp (fun hp => ?_) (fun hp => ?_)
      · obtain ⟨n_10, hn, hp⟩ := hp
        exact ⟨n_10, hn, data_4, s_11, rfl, rfl, rfl, rfl, rfl, rfl, hl_data_4, hp, h⟩
      replace h := h.drew
      obtain ⟨ia_16, ja_16, hp⟩ := hp
      obtain ⟨a_16, ha_16⟩ := rdAddr (rowRd h 1 encL9 rfl) hl_data_4 ia_16 ja_16
      refine ⟨a_16, ha_16, ia_16, ja_16, ?_⟩
      obtain ⟨x_15, hx_15, hc⟩ := rdCell0 (rowRd h 1 encL9 rfl) ha_16 hl_data_4 ia_16 ja_16
      replace hp := hp x_15 hx_15
      refine ⟨_, hc _ rfl, ?_⟩
      obtain ⟨ia_17, ja_17, hp⟩ := hp
      obtain ⟨a_17, ha_17⟩ := rdAddr (rowRd h 1 encL9 rfl) hl_data_4 ia_17 ja_17
      refine ⟨a_17, ha_17, ia_17, ja_17, ?_⟩
      obtain ⟨x_16, hx_16, hc⟩ := rdCell0 (rowRd h 1 encL9 rfl) ha_17 hl_data_4 ia_17 ja_17
      replace hp := hp x_16 hx_16
      refine ⟨_, hc _ rfl, ?_⟩
      obtain ⟨ia_18, ja_18, hp⟩ := hp
      obtain ⟨a_18, ha_18⟩ := rdAddr (rowRd h 1 encL9 rfl) hl_data_4 ia_18 ja_18
      refine ⟨a_18, ha_18, ia_18, ja_18, ?_⟩
      refine rowSetW (ys := [(Value.string x_15)]) (x := x_15) h 1 encL9 rfl ha_18 hl_data_4 ia_18 ja_18 sz9 rfl rfl rfl ?_
      intro w h
      dsimp only [setH, setVs, setV] at h
      obtain ⟨ia_19, ja_19, hp⟩ := hp
      obtain ⟨a_19, ha_19⟩ := rdAddr (rowRd h 1 encL9 rfl) (lenSet hl_data_4) ia_19 ja_19
      refine ⟨a_19, ha_19, ia_19, ja_19, ?_⟩
      refine rowSetW (ys := [(Value.string x_16)]) (x := x_16) h 1 encL9 rfl ha_19 (lenSet hl_data_4) ia_19 ja_19 sz9 rfl rfl rfl ?_
      intro w h
      dsimp only [setH, setVs, setV] at h
      obtain ⟨n_11, hn, hp⟩ := hp
      exact ⟨n_11, hn, (List.set (List.set data_4 (Int.toNat j12) x_15) (Int.toNat (IntKind.wrap .i64 (j12 - 1))) x_16), s_11, rfl, rfl, rfl, rfl, rfl, rfl, rfl, rfl, (lenSet (lenSet hl_data_4)), hp, h⟩
    clear hq
    refine cond_both' hp (fun hp => ?_) (fun hp => ?_)
    · exact ⟨(List.set (List.set data_1 (Int.toNat i9_1) x_3) (Int.toNat (IntKind.wrap .i64 (i9_1 - 1))) x_4), s_3, rfl, rfl, rfl, rfl, rfl, rfl, rfl, rfl, (lenSet (lenSet hl_data_1)), hp, h⟩
    obtain ⟨I_2, ⟨n_8, h0⟩, hq⟩ := hp
    refine ⟨fun n_6 data0_5p data0_5l data0_5c a1_5 b2_5 cmp3_5 i9_5 j10_5 j11 w => ∃ (data_3 : List (ByteArray)), ∃ (s_8 : σ3), p_1 = data0_5p ∧ data.length = data0_5l ∧ c_1 = data0_5c ∧ a_1 = a1_5 ∧ b_1 = b2_5 ∧ (Value.func ff3 fa3 fc3) = cmp3_5 ∧ i9_1 = i9_5 ∧ j10 = j10_5 ∧ data.length = data_3.length ∧ I_2 n_6 data_3 j11 s_8 ∧ Mem (A3 s_8 :: row enc9 9 1 p_1 c_1 data_3 :: FL) w, ⟨n_8, (List.set (List.set data_1 (Int.toNat i9_1) x_3) (Int.toNat (IntKind.wrap .i64 (i9_1 - 1))) x_4), s_3, rfl, rfl, rfl, rfl, rfl, rfl, rfl, rfl, (lenSet (lenSet hl_data_1)), h0, h⟩, ?_⟩
    clear h0 h
    rintro n_6 data0_5p data0_5l data0_5c a1_5 b2_5 cmp3_5 i9_5 j10_5 j11 w ⟨data_3, s_8, rfl, rfl, rfl, rfl, rfl, rfl, rfl, rfl, hl_data_3, hp, h⟩
    replace hp := hq n_6 data_3 j11 s_8 hp
    clear hq
    unfold slices_partialInsertionSortCmpFunc_string_l5
    refine cond_both' hp (fun hp => ?_) (fun hp => ?_)
    · exact ⟨data_3, s_8, rfl, rfl, rfl, rfl, rfl, rfl, rfl, rfl, hl_data_3, hp, h⟩
    replace h := h.drew
    obtain ⟨ia_8, ja_8, hp⟩ := hp
    obtain ⟨a_8, ha_8⟩ := rdAddr (rowRd h 1 encL9 rfl) hl_data_3 ia_8 ja_8
    refine ⟨a_8, ha_8, ia_8, ja_8, ?_⟩
    obtain ⟨x_7, hx_7, hc⟩ := rdCell0 (rowRd h 1 encL9 rfl) ha_8 hl_data_3 ia_8 ja_8
    replace hp := hp x_7 hx_7
    refine ⟨_, hc _ rfl, ?_⟩
    obtain ⟨ia_9, ja_9, hp⟩ := hp
    obtain ⟨a_9, ha_9⟩ := rdAddr (rowRd h 1 encL9 rfl) hl_data_3 ia_9 ja_9
    refine ⟨a_9, ha_9, ia_9, ja_9, ?_⟩
    obtain ⟨x_8, hx_8, hc⟩ := rdCell0 (rowRd h 1 encL9 rfl) ha_9 hl_data_3 ia_9 ja_9
    replace hp := hp x_8 hx_8
    refine ⟨_, hc _ rfl, ?_⟩
    refine hY3 x_7 x_8 _ _ (row enc9 9 1 p_1 c_1 data_3 :: FL) _ _ (fun _ h => Mem.drop 1 h) h hp ?_
    intro t82 s_9 w h hp
    refine ⟨_, rfl, ?_⟩
    refine cond_both hp (fun hp => ?_) (fun hp => ?_)
    · exact ⟨data_3, s_9, rfl, rfl, rfl, rfl, rfl, rfl, rfl, rfl, hl_data_3, hp, h⟩
    replace h := h.drew
    obtain ⟨ia_10, ja_10, hp⟩ := hp
    obtain ⟨a_10, ha_10⟩ := rdAddr (rowRd h 1 encL9 rfl) hl_data_3 ia_10 ja_10
    refine ⟨a_10, ha_10, ia_10, ja_10, ?_⟩
    obtain ⟨x_9, hx_9, hc⟩ := rdCell0 (rowRd h 1 encL9 rfl) ha_10 hl_data_3 ia_10 ja_10
    replace hp := hp x_9 hx_9
    refine ⟨_, hc _ rfl, ?_⟩
    obtain ⟨ia_11, ja_11, hp⟩ := hp
    obtain ⟨a_11, ha_11⟩ := rdAddr (rowRd h 1 encL9 rfl) hl_data_3 ia_11 ja_11
    refine ⟨a_11, ha_11, ia_11, ja_11, ?_⟩
    obtain ⟨x_10, hx_10, hc⟩ := rdCell0 (rowRd h 1 encL9 rfl) ha_11 hl_data_3 ia_11 ja_11
    replace hp := hp x_10 hx_10
    refine ⟨_, hc _ rfl, ?_⟩
    obtain ⟨ia_12, ja_12, hp⟩ := hp
    obtain ⟨a_12, ha_12⟩ := rdAddr (rowRd h 1 encL9 rfl) hl_data_3 ia_12 ja_12
    refine ⟨a_12, ha_12, ia_12, ja_12, ?_⟩
    refine rowSetW (ys := [(Value.string x_9)]) (x := x_9) h 1 encL9 rfl ha_12 hl_data_3 ia_12 ja_12 sz9 rfl rfl rfl ?_
    intro w h
    dsimp only [setH, setVs, setV] at h
    obtain ⟨ia_13, ja_13, hp⟩ := hp
    obtain ⟨a_13, ha_13⟩ := rdAddr (rowRd h 1 encL9 rfl) (lenSet hl_data_3) ia_13 ja_13
    refine ⟨a_13, ha_13, ia_13, ja_13, ?_⟩
    refine rowSetW (ys := [(Value.string x_10)]) (x := x_10) h 1 encL9 rfl ha_13 (lenSet hl_data_3) ia_13 ja_13 sz9 rfl rfl rfl ?_
    intro w h
    dsimp only [setH, setVs, setV] at h
    obtain ⟨n_7, hn, hp⟩ := hp
    exact ⟨n_7, hn, (List.set (List.set data_3 (Int.toNat j11) x_9) (Int.toNat (IntKind.wrap .i64 (j11 - 1))) x_10), s_9, rfl, rfl, rfl, rfl, rfl, rfl, rfl, rfl, (lenSet (lenSet hl_data_3)), hp, h⟩
  clear hq
  obtain ⟨I_1, ⟨n_5, h0⟩, hq⟩ := hp
  refine ⟨fun n_3 data0_2p data0_2l data0_2c a1_2 b2_2 cmp3_2 i9_2 j10_2 w => ∃ (s_4 : σ3), p_1 = data0_2p ∧ data.length = data0_2l ∧ c_1 = data0_2c ∧ a_1 = a1_2 ∧ b_1 = b2_2 ∧ (Value.func ff3 fa3 fc3) = cmp3_2 ∧ j10 = j10_2 ∧ I_1 n_3 i9_2 s_4 ∧ Mem (A3 s_4 :: row enc9 9 1 p_1 c_1 data_1 :: FL) w, ⟨n_5, s_2, rfl, rfl, rfl, rfl, rfl, rfl, rfl, h0, h⟩, ?_⟩
  clear h0 h
  rintro n_3 data0_2p data0_2l data0_2c a1_2 b2_2 cmp3_2 i9_2 j10_2 w ⟨s_4, rfl, rfl, rfl, rfl, rfl, rfl, rfl, hp, h⟩
  replace hp := hq n_3 i9_2 s_4 hp
  clear hq
  unfold slices_partialInsertionSortCmpFunc_string_l6
  obtain ⟨Q_1, hq, hp⟩ := hp
  refine ⟨fun data0_3p data0_3l data0_3c a1_3 b2_3 cmp3_3 i9_3 j10_3 t36 w => ∃ (s_5 : σ3), p_1 = data0_3p ∧ data.length = data0_3l ∧ c_1 = data0_3c ∧ a_1 = a1_3 ∧ b_1 = b2_3 ∧ (Value.func ff3 fa3 fc3) = cmp3_3 ∧ i9_2 = i9_3 ∧ j10 = j10_3 ∧ Q_1 t36 s_5 ∧ Mem (A3 s_5 :: row enc9 9 1 p_1 c_1 data_1 :: FL) w, ?_, ?_⟩
  · rintro data0_3p data0_3l data0_3c a1_3 b2_3 cmp3_3 i9_3 j10_3 t36 w ⟨s_5, rfl, rfl, rfl, rfl, rfl, rfl, rfl, rfl, hp, h⟩
    replace hp := hq t36 s_5 hp
    unfold slices_partialInsertionSortCmpFunc_string_j7
    refine cond_both' hp (fun hp => ?_) (fun hp => ?_)
    · exact ⟨s_5, rfl, rfl, rfl, rfl, rfl, rfl, rfl, hp, h⟩
    obtain ⟨n_4, hn, hp⟩ := hp
    exact ⟨n_4, hn, s_5, rfl, rfl, rfl, rfl, rfl, rfl, rfl, hp, h⟩
  clear hq
  replace h := h.drew
  refine cond_both' hp (fun hp => ?_) (fun hp => ?_)
  · exact ⟨s_4, rfl, rfl, rfl, rfl, rfl, rfl, rfl, rfl, hp, h⟩
  obtain ⟨ia_2, ja_2, hp⟩ := hp
  obtain ⟨a_2, ha_2⟩ := rdAddr (rowRd h 1 encL9 rfl) hl_data_1 ia_2 ja_2
  refine ⟨a_2, ha_2, ia_2, ja_2, ?_⟩
  obtain ⟨x_1, hx_1, hc⟩ := rdCell0 (rowRd h 1 encL9 rfl) ha_2 hl_data_1 ia_2 ja_2
  replace hp := hp x_1 hx_1
  refine ⟨_, hc _ rfl, ?_⟩
  obtain ⟨ia_3, ja_3, hp⟩ := hp
  obtain ⟨a_3, ha_3⟩ := rdAddr (rowRd h 1 encL9 rfl) hl_data_1 ia_3 ja_3
  refine ⟨a_3, ha_3, ia_3, ja_3, ?_⟩
  obtain ⟨x_2, hx_2, hc⟩ := rdCell0 (rowRd h 1 encL9 rfl) ha_3 hl_data_1 ia_3 ja_3
  replace hp := hp x_2 hx_2
  refine ⟨_, hc _ rfl, ?_⟩
  refine hY3 x_1 x_2 _ _ (row enc9 9 1 p_1 c_1 data_1 :: FL) _ _ (fun _ h => Mem.drop 1 h) h hp ?_
  intro t33 s_6 w h hp
  refine ⟨_, rfl, ?_⟩
  exact ⟨s_6, rfl, rfl, rfl, rfl, rfl, rfl, rfl, rfl, hp, h⟩

/-! slices.partitionEqualCmpFunc[string] (44) -/
def slices_partitionEqualCmpFunc_string_wp {σ4 : Type} (data : List (ByteArray)) (a_1 : Int) (b_1 : Int) (pivot : Int) (s : σ4) (Y4 : (ByteArray) → (ByteArray) → σ4 → (Int → σ4 → Prop) → Prop) (K : Int → List (ByteArray) → σ4 → Prop) : Prop :=
  0 ≤ (pivot : Int) ∧ (pivot : Int) < ((data.length : Nat) : Int) ∧ (∀ (x_1 : ByteArray), data[Int.toNat pivot]? = some x_1 → (0 ≤ (a_1 : Int) ∧ (a_1 : Int) < ((data.length : Nat) : Int) ∧ (∀ (x_2 : ByteArray), data[Int.toNat a_1]? = some x_2 → (0 ≤ (a_1 : Int) ∧ (a_1 : Int) < ((data.length : Nat) : Int) ∧ (0 ≤ (pivot : Int) ∧ (pivot : Int) < ((data.length : Nat) : Int) ∧ (∃ (I : Nat → List (ByteArray) → Int → Int → σ4 → Prop), (∃ (n_10 : Nat), I n_10 (List.set (List.set data (Int.toNat a_1) x_1) (Int.toNat pivot) x_2) (IntKind.wrap .i64 (a_1 + 1)) (IntKind.wrap .i64 (b_1 - 1)) s) ∧ ∀ (n_2 : Nat) (data_1 : List (ByteArray)) (i11 : Int) (j12 : Int) (s_2 : σ4), I n_2 data_1 i11 j12 s_2 → (joinP2 (fun (i11_1 : Int) (s_3 : σ4) => joinP2 (fun (j12_4 : Int) (s_7 : σ4) => cond (decide ((i11_1 : Int) > j12_4)) (K i11_1 data_1 s_7) (0 ≤ (j12_4 : Int) ∧ (j12_4 : Int) < ((data.length : Nat) : Int) ∧ (∀ (x_9 : ByteArray), data_1[Int.toNat j12_4]? = some x_9 → (0 ≤ (i11_1 : Int) ∧ (i11_1 : Int) < ((data.length : Nat) : Int) ∧ (∀ (x_10 : ByteArray), data_1[Int.toNat i11_1]? = some x_10 → (0 ≤ (i11_1 : Int) ∧ (i11_1 : Int) < ((data.length : Nat) : Int) ∧ (0 ≤ (j12_4 : Int) ∧ (j12_4 : Int) < ((data.length : Nat) : Int) ∧ (∃ (n_9 : Nat), n_9 < n_2 ∧ I n_9 (List.set (List.set data_1 (Int.toNat i11_1) x_9) (Int.toNat j12_4) x_10) (IntKind.wrap .i64 (i11_1 + 1)) (IntKind.wrap .i64 (j12_4 - 1)) s_7)))))))) (fun (Q_2 : Int → σ4 → Prop) => ∃ (I_2 : Nat → Int → σ4 → Prop), (∃ (n_8 : Nat), I_2 n_8 j12 s_3) ∧ ∀ (n_6 : Nat) (j12_5 : Int) (s_8 : σ4), I_2 n_6 j12_5 s_8 → (joinP2 (fun (t65 : Bool) (s_9 : σ4) => cond t65 (∃ (n_7 : Nat), n_7 < n_6 ∧ I_2 n_7 (IntKind.wrap .i64 (j12_5 - 1)) s_9) (Q_2 j12_5 s_9)) (fun (Q_3 : Bool → σ4 → Prop) => cond (decide ((i11_1 : Int) ≤ j12_5)) (0 ≤ (a_1 : Int) ∧ (a_1 : Int) < ((data.length : Nat) : Int) ∧ (∀ (x_7 : ByteArray), data_1[Int.toNat a_1]? = some x_7 → (0 ≤ (j12_5 : Int) ∧ (j12_5 : Int) < ((data.length : Nat) : Int) ∧ (∀ (x_8 : ByteArray), data_1[Int.toNat j12_5]? = some x_8 → (Y4 x_7 x_8 s_8 (fun (t63 : Int) (s_10 : σ4) => Q_3 (decide ((t63 : Int) < 0)) s_10)))))) (Q_3 false s_8))))) (fun (Q : Int → σ4 → Prop) => ∃ (I_1 : Nat → Int → σ4 → Prop), (∃ (n_5 : Nat), I_1 n_5 i11 s_2) ∧ ∀ (n_3 : Nat) (i11_2 : Int) (s_4 : σ4), I_1 n_3 i11_2 s_4 → (joinP2 (fun (t47 : Bool) (s_5 : σ4) => cond t47 (∃ (n_4 : Nat), n_4 < n_3 ∧ I_1 n_4 (IntKind.wrap .i64 (i11_2 + 1)) s_5) (Q i11_2 s_5)) (fun (Q_1 : Bool → σ4 → Prop) => cond (decide ((i11_2 : Int) ≤ j12)) (0 ≤ (a_1 : Int) ∧ (a_1 : Int) < ((data.length : Nat) : Int) ∧ (∀ (x_5 : ByteArray), data_1[Int.toNat a_1]? = some x_5 → (0 ≤ (i11_2 : Int) ∧ (i11_2 : Int) < ((data.length : Nat) : Int) ∧ (∀ (x_6 : ByteArray), data_1[Int.toNat i11_2]? = some x_6 → (Y4 x_5 x_6 s_4 (fun (t44 : Int) (s_6 : σ4) => Q_1 (!(decide ((t44 : Int) < 0))) s_6)))))) (Q_1 false s_4)))))))))))
theorem slices_partitionEqualCmpFunc_string_ok {σ4 : Type} {A4 : σ4 → HP} {p_1 : Option Addr} {c_1 : Nat} {n_1 : Nat} {ff4 : Fn} {fa4 : Array Value} {fc4 : Array Value} {data : List (ByteArray)} {a_1 : Int} {b_1 : Int} {pivot : Int} {s : σ4} {Y4 : (ByteArray) → (ByteArray) → σ4 → (Int → σ4 → Prop) → Prop} {FL : List HP} {w : World} {K : Int → List (ByteArray) → σ4 → Prop} {R : Value → World → Prop}
  (hY4 : ∀ (x0 : ByteArray) (x1 : ByteArray) (s : σ4) (K : Int → σ4 → Prop) (FL2 : List HP) (w : World) (R : Value → World → Prop), (∀ w, Mem FL2 w → Mem FL w) → Mem (A4 s :: FL2) w → Y4 x0 x1 s K → (∀ (r : Int) (s : σ4) (w : World), Mem (A4 s :: FL2) w → K r s → R (Value.int .i64 r) w) → CalleeV Try.prog (Value.func ff4 fa4 fc4) #[(Value.string x0), (Value.string x1)] w R) (hn_p_1 : n_1 = data.length)
  (h : Mem (row enc9 9 1 p_1 c_1 data :: A4 s :: FL) w) (hp : slices_partitionEqualCmpFunc_string_wp data a_1 b_1 pivot s Y4 K)
  (hR : ∀ (r : Int) (data_1 : List (ByteArray)) (s_1 : σ4) (w : World), data.length = data_1.length → Mem (row enc9 9 1 p_1 c_1 data_1 :: A4 s_1 :: FL) w → K r data_1 s_1 → R (Value.int .i64 r) w) :
  CallV Try.prog 44 #[(Value.slice p_1 n_1 c_1), (Value.int .i64 a_1), (Value.int .i64 b_1), (Value.int .i64 pivot), (Value.func ff4 fa4 fc4)] w R := by
  refine slices_partitionEqualCmpFunc_string_call ?_
  unfold slices_partitionEqualCmpFunc_string
  unfold slices_partitionEqualCmpFunc_string_wp at hp
  subst hn_p_1
  have cpp_1 := rowCap h 0 rfl
  replace h := h.drew
  obtain ⟨ia_2, ja_2, hp⟩ := hp
  obtain ⟨a_2, ha_2⟩ := rdAddr (rowRd h 0 encL9 rfl) rfl ia_2 ja_2
  refine ⟨a_2, ha_2, ia_2, ja_2, ?_⟩
  obtain ⟨x_1, hx_1, hc⟩ := rdCell0 (rowRd h 0 encL9 rfl) ha_2 rfl ia_2 ja_2
  replace hp := hp x_1 hx_1
  refine ⟨_, hc _ rfl, ?_⟩
  obtain ⟨ia_3, ja_3, hp⟩ := hp
  obtain ⟨a_3, ha_3⟩ := rdAddr (rowRd h 0 encL9 rfl) rfl ia_3 ja_3
  refine ⟨a_3, ha_3, ia_3, ja_3, ?_⟩
  obtain ⟨x_2, hx_2, hc⟩ := rdCell0 (rowRd h 0 encL9 rfl) ha_3 rfl ia_3 ja_3
  replace hp := hp x_2 hx_2
  refine ⟨_, hc _ rfl, ?_⟩
  obtain ⟨ia_4, ja_4, hp⟩ := hp
  obtain ⟨a_4, ha_4⟩ := rdAddr (rowRd h 0 encL9 rfl) rfl ia_4 ja_4
  refine ⟨a_4, ha_4, ia_4, ja_4, ?_⟩
  refine rowSetW (ys := [(Value.string x_1)]) (x := x_1) h 0 encL9 rfl ha_4 rfl ia_4 ja_4 sz9 rfl rfl rfl ?_
  intro w h
  dsimp only [setH, setVs, setV] at h
  obtain ⟨ia_5, ja_5, hp⟩ := hp
  obtain ⟨a_5, ha_5⟩ := rdAddr (rowRd h 0 encL9 rfl) (lenSet rfl) ia_5 ja_5
  refine ⟨a_5, ha_5, ia_5, ja_5, ?_⟩
  refine rowSetW (ys := [(Value.string x_2)]) (x := x_2) h 0 encL9 rfl ha_5 (lenSet rfl) ia_5 ja_5 sz9 rfl rfl rfl ?_
  intro w h
  dsimp only [setH, setVs, setV] at h
  obtain ⟨I, ⟨n_10, h0⟩, hq⟩ := hp
  replace h := h.sel [1, 0] 0
  dsimp only [pickL, pickR, nthH, delH, dropH, List.cons_append, List.nil_append] at h
  refine ⟨fun n_2 data0p data0l data0c a1 cmp4 i11 j12 w => ∃ (data_1 : List (ByteArray)), ∃ (s_2 : σ4), p_1 = data0p ∧ data.length = data0l ∧ c_1 = data0c ∧ a_1 = a1 ∧ (Value.func ff4 fa4 fc4) = cmp4 ∧ data.length = data_1.length ∧ I n_2 data_1 i11 j12 s_2 ∧ Mem (A4 s_2 :: row enc9 9 1 p_1 c_1 data_1 :: FL) w, ⟨n_10, (List.set (List.set data (Int.toNat a_1) x_1) (Int.toNat pivot) x_2), s, rfl, rfl, rfl, rfl, rfl, (lenSet (lenSet rfl)), h0, h⟩, ?_⟩
  clear h0 h
  rintro n_2 data0p data0l data0c a1 cmp4 i11 j12 w ⟨data_1, s_2, rfl, rfl, rfl, rfl, rfl, hl_data_1, hp, h⟩
  replace hp := hq n_2 data_1 i11 j12 s_2 hp
  clear hq
  unfold slices_partitionEqualCmpFunc_string_l1
  obtain ⟨Q, hq, hp⟩ := hp
  refine ⟨fun data0_1p data0_1l data0_1c a1_1 cmp4_1 i11_1 j12_1 w => ∃ (s_3 : σ4), p_1 = data0_1p ∧ data.length = data0_1l ∧ c_1 = data0_1c ∧ a_1 = a1_1 ∧ (Value.func ff4 fa4 fc4) = cmp4_1 ∧ j12 = j12_1 ∧ Q i11_1 s_3 ∧ Mem (A4 s_3 :: row enc9 9 1 p_1 c_1 data_1 :: FL) w, ?_, ?_⟩
  · rintro data0_1p data0_1l data0_1c a1_1 cmp4_1 i11_1 j12_1 w ⟨s_3, rfl, rfl, rfl, rfl, rfl, rfl, hp, h⟩
    replace hp := hq i11_1 s_3 hp
    unfold slices_partitionEqualCmpFunc_string_j2
    obtain ⟨Q_2, hq, hp⟩ := hp
    refine ⟨fun data0_4p data0_4l data0_4c a1_4 cmp4_4 i11_4 j12_4 w => ∃ (s_7 : σ4), p_1 = data0_4p ∧ data.length = data0_4l ∧ c_1 = data0_4c ∧ a_1 = a1_4 ∧ (Value.func ff4 fa4 fc4) = cmp4_4 ∧ i11_1 = i11_4 ∧ Q_2 j12_4 s_7 ∧ Mem (A4 s_7 :: row enc9 9 1 p_1 c_1 data_1 :: FL) w, ?_, ?_⟩
    · rintro data0_4p data0_4l data0_4c a1_4 cmp4_4 i11_4 j12_4 w ⟨s_7, rfl, rfl, rfl, rfl, rfl, rfl, hp, h⟩
      replace hp := hq j12_4 s_7 hp
      unfold slices_partitionEqualCmpFunc_string_j3
      refine cond_both hp (fun hp => ?_) (fun hp => ?_)
      · replace h := h.sel [1, 0] 0
        dsimp only [pickL, pickR, nthH, delH, dropH, List.cons_append, List.nil_append] at h
        exact hR i11_1 data_1 s_7 _ hl_data_1 h hp
      replace h := h.drew
      obtain ⟨ia_10, ja_10, hp⟩ := hp
      obtain ⟨a_10, ha_10⟩ := rdAddr (rowRd h 1 encL9 rfl) hl_data_1 ia_10 ja_10
      refine ⟨a_10, ha_10, ia_10, ja_10, ?_⟩
      obtain ⟨x_9, hx_9, hc⟩ := rdCell0 (rowRd h 1 encL9 rfl) ha_10 hl_data_1 ia_10 ja_10
      replace hp := hp x_9 hx_9
      refine ⟨_, hc _ rfl, ?_⟩
      obtain ⟨ia_11, ja_11, hp⟩ := hp
      obtain ⟨a_11, ha_11⟩ := rdAddr (rowRd h 1 encL9 rfl) hl_data_1 ia_11 ja_11
      refine ⟨a_11, ha_11, ia_11, ja_11, ?_⟩
      obtain ⟨x_10, hx_10, hc⟩ := rdCell0 (rowRd h 1 encL9 rfl) ha_11 hl_data_1 ia_11 ja_11
      replace hp := hp x_10 hx_10
      refine ⟨_, hc _ rfl, ?_⟩
      obtain ⟨ia_12, ja_12, hp⟩ := hp
      obtain ⟨a_12, ha_12⟩ := rdAddr (rowRd h 1 encL9 rfl) hl_data_1 ia_12 ja_12
      refine ⟨a_12, ha_12, ia_12, ja_12, ?_⟩
      refine rowSetW (ys := [(Value.string x_9)]) (x := x_9) h 1 encL9 rfl ha_12 hl_data_1 ia_12 ja_12 sz9 rfl rfl rfl ?_
      intro w h
      dsimp only [setH, setVs, setV] at h
      obtain ⟨ia_13, ja_13, hp⟩ := hp
      obtain ⟨a_13, ha_13⟩ := rdAddr (rowRd h 1 encL9 rfl) (lenSet hl_data_1) ia_13 ja_13
      refine ⟨a_13, ha_13, ia_13, ja_13, ?_⟩
      refine rowSetW (ys := [(Value.string x_10)]) (x := x_10) h 1 encL9 rfl ha_13 (lenSet hl_data_1) ia_13 ja_13 sz9 rfl rfl rfl ?_
      intro w h
      dsimp only [setH, setVs, setV] at h
      obtain ⟨n_9, hn, hp⟩ := hp
      exact ⟨n_9, hn, (List.set (List.set data_1 (Int.toNat i11_1) x_9) (Int.toNat j12_4) x_10), s_7, rfl, rfl, rfl, rfl, rfl, (lenSet (lenSet hl_data_1)), hp, h⟩
    clear hq
    obtain ⟨I_2, ⟨n_8, h0⟩, hq⟩ := hp
    refine ⟨fun n_6 data0_5p data0_5l data0_5c a1_5 cmp4_5 i11_5 j12_5 w => ∃ (s_8 : σ4), p_1 = data0_5p ∧ data.length = data0_5l ∧ c_1 = data0_5c ∧ a_1 = a1_5 ∧ (Value.func ff4 fa4 fc4) = cmp4_5 ∧ i11_1 = i11_5 ∧ I_2 n_6 j12_5 s_8 ∧ Mem (A4 s_8 :: row enc9 9 1 p_1 c_1 data_1 :: FL) w, ⟨n_8, s_3, rfl, rfl, rfl, rfl, rfl, rfl, h0, h⟩, ?_⟩
    clear h0 h
    rintro n_6 data0_5p data0_5l data0_5c a1_5 cmp4_5 i11_5 j12_5 w ⟨s_8, rfl, rfl, rfl, rfl, rfl, rfl, hp, h⟩
    replace hp := hq n_6 j12_5 s_8 hp
    clear hq
    unfold slices_partitionEqualCmpFunc_string_l4
    obtain ⟨Q_3, hq, hp⟩ := hp
    refine ⟨fun data0_6p data0_6l data0_6c a1_6 cmp4_6 i11_6 j12_6 t65 w => ∃ (s_9 : σ4), p_1 = data0_6p ∧ data.length = data0_6l ∧ c_1 = data0_6c ∧ a_1 = a1_6 ∧ (Value.func ff4 fa4 fc4) = cmp4_6 ∧ i11_1 = i11_6 ∧ j12_5 = j12_6 ∧ Q_3 t65 s_9 ∧ Mem (A4 s_9 :: row enc9 9 1 p_1 c_1 data_1 :: FL) w, ?_, ?_⟩
    · rintro data0_6p data0_6l data0_6c a1_6 cmp4_6 i11_6 j12_6 t65 w ⟨s_9, rfl, rfl, rfl, rfl, rfl, rfl, rfl, hp, h⟩
      replace hp := hq t65 s_9 hp
      unfold slices_partitionEqualCmpFunc_string_j5
      refine cond_both' hp (fun hp => ?_) (fun hp => ?_)
      · exact ⟨s_9, rfl, rfl, rfl, rfl, rfl, rfl, hp, h⟩
      obtain ⟨n_7, hn, hp⟩ := hp
      exact ⟨n_7, hn, s_9, rfl, rfl, rfl, rfl, rfl, rfl, hp, h⟩
    clear hq
    replace h := h.drew
    refine cond_both' hp (fun hp => ?_) (fun hp => ?_)
    · exact ⟨s_8, rfl, rfl, rfl, rfl, rfl, rfl, rfl, hp, h⟩
    obtain ⟨ia_8, ja_8, hp⟩ := hp
    obtain ⟨a_8, ha_8⟩ := rdAddr (rowRd h 1 encL9 rfl) hl_data_1 ia_8 ja_8
    refine ⟨a_8, ha_8, ia_8, ja_8, ?_⟩
    obtain ⟨x_7, hx_7, hc⟩ := rdCell0 (rowRd h 1 encL9 rfl) ha_8 hl_data_1 ia_8 ja_8
    replace hp := hp x_7 hx_7
    refine ⟨_, hc _ rfl, ?_⟩
    obtain ⟨ia_9, ja_9, hp⟩ := hp
    obtain ⟨a_9, ha_9⟩ := rdAddr (rowRd h 1 encL9 rfl) hl_data_1 ia_9 ja_9
    refine ⟨a_9, ha_9, ia_9, ja_9, ?_⟩
    obtain ⟨x_8, hx_8, hc⟩ := rdCell0 (rowRd h 1 encL9 rfl) ha_9 hl_data_1 ia_9 ja_9
    replace hp := hp x_8 hx_8
    refine ⟨_, hc _ rfl, ?_⟩
    refine hY4 x_7 x_8 _ _ (row enc9 9 1 p_1 c_1 data_1 :: FL) _ _ (fun _ h => Mem.drop 1 h) h hp ?_
    intro t63 s_10 w h hp
    refine ⟨_, rfl, ?_⟩
    exact ⟨s_10, rfl, rfl, rfl, rfl, rfl, rfl, rfl, hp, h⟩
  clear hq
  obtain ⟨I_1, ⟨n_5, h0⟩, hq⟩ := hp
  refine ⟨fun n_3 data0_2p data0_2l data0_2c a1_2 cmp4_2 i11_2 j12_2 w => ∃ (s_4 : σ4), p_1 = data0_2p ∧ data.length = data0_2l ∧ c_1 = data0_2c ∧ a_1 = a1_2 ∧ (Value.func ff4 fa4 fc4) = cmp4_2 ∧ j12 = j12_2 ∧ I_1 n_3 i11_2 s_4 ∧ Mem (A4 s_4 :: row enc9 9 1 p_1 c_1 data_1 :: FL) w, ⟨n_5, s_2, rfl, rfl, rfl, rfl, rfl, rfl, h0, h⟩, ?_⟩
  clear h0 h
  rintro n_3 data0_2p data0_2l data0_2c a1_2 cmp4_2 i11_2 j12_2 w ⟨s_4, rfl, rfl, rfl, rfl, rfl, rfl, hp, h⟩
  replace hp := hq n_3 i11_2 s_4 hp
  clear hq
  unfold slices_partitionEqualCmpFunc_string_l6
  obtain ⟨Q_1, hq, hp⟩ := hp
  refine ⟨fun data0_3p data0_3l data0_3c a1_3 cmp4_3 i11_3 j12_3 t47 w => ∃ (s_5 : σ4), p_1 = data0_3p ∧ data.length = data0_3l ∧ c_1 = data0_3c ∧ a_1 = a1_3 ∧ (Value.func ff4 fa4 fc4) = cmp4_3 ∧ i11_2 = i11_3 ∧ j12 = j12_3 ∧ Q_1 t47 s_5 ∧ Mem (A4 s_5 :: row enc9 9 1 p_1 c_1 data_1 :: FL) w, ?_, ?_⟩
  · rintro data0_3p data0_3l data0_3c a1_3 cmp4_3 i11_3 j12_3 t47 w ⟨s_5, rfl, rfl, rfl, rfl, rfl, rfl, rfl, hp, h⟩
    replace hp := hq t47 s_5 hp
    unfold slices_partitionEqualCmpFunc_string_j7
    refine cond_both' hp (fun hp => ?_) (fun hp => ?_)
    · exact ⟨s_5, rfl, rfl, rfl, rfl, rfl, rfl, hp, h⟩
    obtain ⟨n_4, hn, hp⟩ := hp
    exact ⟨n_4, hn, s_5, rfl, rfl, rfl, rfl, rfl, rfl, hp, h⟩
  clear hq
  replace h := h.drew
  refine cond_both' hp (fun hp => ?_) (fun hp => ?_)
  · exact ⟨s_4, rfl, rfl, rfl, rfl, rfl, rfl, rfl, hp, h⟩
  obtain ⟨ia_6, ja_6, hp⟩ := hp
  obtain ⟨a_6, ha_6⟩ := rdAddr (rowRd h 1 encL9 rfl) hl_data_1 ia_6 ja_6
  refine ⟨a_6, ha_6, ia_6, ja_6, ?_⟩
  obtain ⟨x_5, hx_5, hc⟩ := rdCell0 (rowRd h 1 encL9 rfl) ha_6 hl_data_1 ia_6 ja_6
  replace hp := hp x_5 hx_5
  refine ⟨_, hc _ rfl, ?_⟩
  obtain ⟨ia_7, ja_7, hp⟩ := hp
  obtain ⟨a_7, ha_7⟩ := rdAddr (rowRd h 1 encL9 rfl) hl_data_1 ia_7 ja_7
  refine ⟨a_7, ha_7, ia_7, ja_7, ?_⟩
  obtain ⟨x_6, hx_6, hc⟩ := rdCell0 (rowRd h 1 encL9 rfl) ha_7 hl_data_1 ia_7 ja_7
  replace hp := hp x_6 hx_6
  refine ⟨_, hc _ rfl, ?_⟩
  refine hY4 x_5 x_6 _ _ (row enc9 9 1 p_1 c_1 data_1 :: FL) _ _ (fun _ h => Mem.drop 1 h) h hp ?_
  intro t44 s_6 w h hp
  refine ⟨_, rfl, ?_⟩
  exact ⟨s_6, rfl, rfl, rfl, rfl, rfl, rfl, rfl, hp, h⟩

/-! slices.partitionCmpFunc[string] (45) -/
def slices_partitionCmpFunc_string_wp {σ4 : Type} (data : List (ByteArray)) (a_1 : Int) (b_1 : Int) (pivot : Int) (s : σ4) (Y4 : (ByteArray) → (ByteArray) → σ4 → (Int → σ4 → Prop) → Prop) (K : Int → Bool → List (ByteArray) → σ4 → Prop) : Prop :=
  0 ≤ (pivot : Int) ∧ (pivot : Int) < ((data.length : Nat) : Int) ∧ (∀ (x_1 : ByteArray), data[Int.toNat pivot]? = some x_1 → (0 ≤ (a_1 : Int) ∧ (a_1 : Int) < ((data.length : Nat) : Int) ∧ (∀ (x_2 : ByteArray), data[Int.toNat a_1]? = some x_2 → (0 ≤ (a_1 : Int) ∧ (a_1 : Int) < ((data.length : Nat) : Int) ∧ (0 ≤ (pivot : Int) ∧ (pivot : Int) < ((data.length : Nat) : Int) ∧ (joinP2 (fun (i12 : Int) (s_2 : σ4) => joinP2 (fun (j13_3 : Int) (s_6 : σ4) => cond (decide ((i12 : Int) > j13_3)) (0 ≤ (a_1 : Int) ∧ (a_1 : Int) < ((data.length : Nat) : Int) ∧ (∀ (x_9 : ByteArray), (List.set (List.set data (Int.toNat a_1) x_1) (Int.toNat pivot) x_2)[Int.toNat a_1]? = some x_9 → (0 ≤ (j13_3 : Int) ∧ (j13_3 : Int) < ((data.length : Nat) : Int) ∧ (∀ (x_10 : ByteArray), (List.set (List.set data (Int.toNat a_1) x_1) (Int.toNat pivot) x_2)[Int.toNat j13_3]? = some x_10 → (0 ≤ (j13_3 : Int) ∧ (j13_3 : Int) < ((data.length : Nat) : Int) ∧ (0 ≤ (a_1 : Int) ∧ (a_1 : Int) < ((data.length : Nat) : Int) ∧ (K j13_3 true (List.set (List.set (List.set (List.set data (Int.toNat a_1) x_1) (Int.toNat pivot) x_2) (Int.toNat j13_3) x_9) (Int.toNat a_1) x_10) s_6))))))) (0 ≤ (j13_3 : Int) ∧ (j13_3 : Int) < ((data.length : Nat) : Int) ∧ (∀ (x_13 : ByteArray), (List.set (List.set data (Int.toNat a_1) x_1) (Int.toNat pivot) x_2)[Int.toNat j13_3]? = some x_13 → (0 ≤ (i12 : Int) ∧ (i12 : Int) < ((data.length : Nat) : Int) ∧ (∀ (x_14 : ByteArray), (List.set (List.set data (Int.toNat a_1) x_1) (Int.toNat pivot) x_2)[Int.toNat i12]? = some x_14 → (0 ≤ (i12 : Int) ∧ (i12 : Int) < ((data.length : Nat) : Int) ∧ (0 ≤ (j13_3 : Int) ∧ (j13_3 : Int) < ((data.length : Nat) : Int) ∧ (joinP3 (fun (data_1 : List (ByteArray)) (j13_6 : Int) (s_10 : σ4) => 0 ≤ (a_1 : Int) ∧ (a_1 : Int) < ((data.length : Nat) : Int) ∧ (∀ (x_25 : ByteArray), data_1[Int.toNat a_1]? = some x_25 → (0 ≤ (j13_6 : Int) ∧ (j13_6 : Int) < ((data.length : Nat) : Int) ∧ (∀ (x_26 : ByteArray), data_1[Int.toNat j13_6]? = some x_26 → (0 ≤ (j13_6 : Int) ∧ (j13_6 : Int) < ((data.length : Nat) : Int) ∧ (0 ≤ (a_1 : Int) ∧ (a_1 : Int) < ((data.length : Nat) : Int) ∧ (K j13_6 false (List.set (List.set data_1 (Int.toNat j13_6) x_25) (Int.toNat a_1) x_26) s_10))))))) (fun (Q_4 : List (ByteArray) → Int → σ4 → Prop) => ∃ (I_2 : Nat → List (ByteArray) → Int → Int → σ4 → Prop), (∃ (n_16 : Nat), I_2 n_16 (List.set (List.set (List.set (List.set data (Int.toNat a_1) x_1) (Int.toNat pivot) x_2) (Int.toNat i12) x_13) (Int.toNat j13_3) x_14) (IntKind.wrap .i64 (i12 + 1)) (IntKind.wrap .i64 (j13_3 - 1)) s_6) ∧ ∀ (n_8 : Nat) (data_2 : List (ByteArray)) (i12_6 : Int) (j13_7 : Int) (s_11 : σ4), I_2 n_8 data_2 i12_6 j13_7 s_11 → (joinP2 (fun (i12_7 : Int) (s_12 : σ4) => joinP2 (fun (j13_11 : Int) (s_16 : σ4) => cond (decide ((i12_7 : Int) > j13_11)) (Q_4 data_2 j13_11 s_16) (0 ≤ (j13_11 : Int) ∧ (j13_11 : Int) < ((data.length : Nat) : Int) ∧ (∀ (x_21 : ByteArray), data_2[Int.toNat j13_11]? = some x_21 → (0 ≤ (i12_7 : Int) ∧ (i12_7 : Int) < ((data.length : Nat) : Int) ∧ (∀ (x_22 : ByteArray), data_2[Int.toNat i12_7]? = some x_22 → (0 ≤ (i12_7 : Int) ∧ (i12_7 : Int) < ((data.length : Nat) : Int) ∧ (0 ≤ (j13_11 : Int) ∧ (j13_11 : Int) < ((data.length : Nat) : Int) ∧ (∃ (n_15 : Nat), n_15 < n_8 ∧ I_2 n_15 (List.set (List.set data_2 (Int.toNat i12_7) x_21) (Int.toNat j13_11) x_22) (IntKind.wrap .i64 (i12_7 + 1)) (IntKind.wrap .i64 (j13_11 - 1)) s_16)))))))) (fun (Q_7 : Int → σ4 → Prop) => ∃ (I_4 : Nat → Int → σ4 → Prop), (∃ (n_14 : Nat), I_4 n_14 j13_7 s_12) ∧ ∀ (n_12 : Nat) (j13_12 : Int) (s_17 : σ4), I_4 n_12 j13_12 s_17 → (joinP2 (fun (t139 : Bool) (s_18 : σ4) => cond t139 (∃ (n_13 : Nat), n_13 < n_12 ∧ I_4 n_13 (IntKind.wrap .i64 (j13_12 - 1)) s_18) (Q_7 j13_12 s_18)) (fun (Q_8 : Bool → σ4 → Prop) => cond (decide ((i12_7 : Int) ≤ j13_12)) (0 ≤ (j13_12 : Int) ∧ (j13_12 : Int) < ((data.length : Nat) : Int) ∧ (∀ (x_19 : ByteArray), data_2[Int.toNat j13_12]? = some x_19 → (0 ≤ (a_1 : Int) ∧ (a_1 : Int) < ((data.length : Nat) : Int) ∧ (∀ (x_20 : ByteArray), data_2[Int.toNat a_1]? = some x_20 → (Y4 x_19 x_20 s_17 (fun (t136 : Int) (s_19 : σ4) => Q_8 (!(decide ((t136 : Int) < 0))) s_19)))))) (Q_8 false s_17))))) (fun (Q_5 : Int → σ4 → Prop) => ∃ (I_3 : Nat → Int → σ4 → Prop), (∃ (n_11 : Nat), I_3 n_11 i12_6 s_11) ∧ ∀ (n_9 : Nat) (i12_8 : Int) (s_13 : σ4), I_3 n_9 i12_8 s_13 → (joinP2 (fun (t120 : Bool) (s_14 : σ4) => cond t120 (∃ (n_10 : Nat), n_10 < n_9 ∧ I_3 n_10 (IntKind.wrap .i64 (i12_8 + 1)) s_14) (Q_5 i12_8 s_14)) (fun (Q_6 : Bool → σ4 → Prop) => cond (decide ((i12_8 : Int) ≤ j13_7)) (0 ≤ (i12_8 : Int) ∧ (i12_8 : Int) < ((data.length : Nat) : Int) ∧ (∀ (x_17 : ByteArray), data_2[Int.toNat i12_8]? = some x_17 → (0 ≤ (a_1 : Int) ∧ (a_1 : Int) < ((data.length : Nat) : Int) ∧ (∀ (x_18 : ByteArray), data_2[Int.toNat a_1]? = some x_18 → (Y4 x_17 x_18 s_13 (fun (t118 : Int) (s_15 : σ4) => Q_6 (decide ((t118 : Int) < 0)) s_15)))))) (Q_6 false s_13)))))))))))))) (fun (Q_2 : Int → σ4 → Prop) => ∃ (I_1 : Nat → Int → σ4 → Prop), (∃ (n_7 : Nat), I_1 n_7 (IntKind.wrap .i64 (b_1 - 1)) s_2) ∧ ∀ (n_5 : Nat) (j13_4 : Int) (s_7 : σ4), I_1 n_5 j13_4 s_7 → (joinP2 (fun (t66 : Bool) (s_8 : σ4) => cond t66 (∃ (n_6 : Nat), n_6 < n_5 ∧ I_1 n_6 (IntKind.wrap .i64 (j13_4 - 1)) s_8) (Q_2 j13_4 s_8)) (fun (Q_3 : Bool → σ4 → Prop) => cond (decide ((i12 : Int) ≤ j13_4)) (0 ≤ (j13_4 : Int) ∧ (j13_4 : Int) < ((data.length : Nat) : Int) ∧ (∀ (x_7 : ByteArray), (List.set (List.set data (Int.toNat a_1) x_1) (Int.toNat pivot) x_2)[Int.toNat j13_4]? = some x_7 → (0 ≤ (a_1 : Int) ∧ (a_1 : Int) < ((data.length : Nat) : Int) ∧ (∀ (x_8 : ByteArray), (List.set (List.set data (Int.toNat a_1) x_1) (Int.toNat pivot) x_2)[Int.toNat a_1]? = some x_8 → (Y4 x_7 x_8 s_7 (fun (t63 : Int) (s_9 : σ4) => Q_3 (!(decide ((t63 : Int) < 0))) s_9)))))) (Q_3 false s_7))))) (fun (Q : Int → σ4 → Prop) => ∃ (I : Nat → Int → σ4 → Prop), (∃ (n_4 : Nat), I n_4 (IntKind.wrap .i64 (a_1 + 1)) s) ∧ ∀ (n_2 : Nat) (i12_1 : Int) (s_3 : σ4), I n_2 i12_1 s_3 → (joinP2 (fun (t47 : Bool) (s_4 : σ4) => cond t47 (∃ (n_3 : Nat), n_3 < n_2 ∧ I n_3 (IntKind.wrap .i64 (i12_1 + 1)) s_4) (Q i12_1 s_4)) (fun (Q_1 : Bool → σ4 → Prop) => cond (decide ((i12_1 : Int) ≤ (IntKind.wrap .i64 (b_1 - 1)))) (0 ≤ (i12_1 : Int) ∧ (i12_1 : Int) < ((data.length : Nat) : Int) ∧ (∀ (x_5 : ByteArray), (List.set (List.set data (Int.toNat a_1) x_1) (Int.toNat pivot) x_2)[Int.toNat i12_1]? = some x_5 → (0 ≤ (a_1 : Int) ∧ (a_1 : Int) < ((data.length : Nat) : Int) ∧ (∀ (x_6 : ByteArray), (List.set (List.set data (Int.toNat a_1) x_1) (Int.toNat pivot) x_2)[Int.toNat a_1]? = some x_6 → (Y4 x_5 x_6 s_3 (fun (t45 : Int) (s_5 : σ4) => Q_1 (decide ((t45 : Int) < 0)) s_5)))))) (Q_1 false s_3))))))))))
theorem slices_partitionCmpFunc_string_ok {σ4 : Type} {A4 : σ4 → HP} {p_1 : Option Addr} {c_1 : Nat} {n_1 : Nat} {ff4 : Fn} {fa4 : Array Value} {fc4 : Array Value} {data : List (ByteArray)} {a_1 : Int} {b_1 : Int} {pivot : Int} {s : σ4} {Y4 : (ByteArray) → (ByteArray) → σ4 → (Int → σ4 → Prop) → Prop} {FL : List HP} {w : World} {K : Int → Bool → List (ByteArray) → σ4 → Prop} {R : Value → World → Prop}
  (hY4 : ∀ (x0 : ByteArray) (x1 : ByteArray) (s : σ4) (K : Int → σ4 → Prop) (FL2 : List HP) (w : World) (R : Value → World → Prop), (∀ w, Mem FL2 w → Mem FL w) → Mem (A4 s :: FL2) w → Y4 x0 x1 s K → (∀ (r : Int) (s : σ4) (w : World), Mem (A4 s :: FL2) w → K r s → R (Value.int .i64 r) w) → CalleeV Try.prog (Value.func ff4 fa4 fc4) #[(Value.string x0), (Value.string x1)] w R) (hn_p_1 : n_1 = data.length)
  (h : Mem (row enc9 9 1 p_1 c_1 data :: A4 s :: FL) w) (hp : slices_partitionCmpFunc_string_wp data a_1 b_1 pivot s Y4 K)
  (hR : ∀ (r : Int) (r_1 : Bool) (data_1 : List (ByteArray)) (s_1 : σ4) (w : World), data.length = data_1.length → Mem (row enc9 9 1 p_1 c_1 data_1 :: A4 s_1 :: FL) w → K r r_1 data_1 s_1 → R (Value.tuple #[(Value.int .i64 r), (Value.bool r_1)]) w) :
  CallV Try.prog 45 #[(Value.slice p_1 n_1 c_1), (Value.int .i64 a_1), (Value.int .i64 b_1), (Value.int .i64 pivot), (Value.func ff4 fa4 fc4)] w R := by
  refine slices_partitionCmpFunc_string_call ?_
  unfold slices_partitionCmpFunc_string
  unfold slices_partitionCmpFunc_string_wp at hp
  subst hn_p_1
  have cpp_1 := rowCap h 0 rfl
  replace h := h.drew
  obtain ⟨ia_2, ja_2, hp⟩ := hp
  obtain ⟨a_2, ha_2⟩ := rdAddr (rowRd h 0 encL9 rfl) rfl ia_2 ja_2
  refine ⟨a_2, ha_2, ia_2, ja_2, ?_⟩
  obtain ⟨x_1, hx_1, hc⟩ := rdCell0 (rowRd h 0 encL9 rfl) ha_2 rfl ia_2 ja_2
  replace hp := hp x_1 hx_1
  refine ⟨_, hc _ rfl, ?_⟩
  obtain ⟨ia_3, ja_3, hp⟩ := hp
  obtain ⟨a_3, ha_3⟩ := rdAddr (rowRd h 0 encL9 rfl) rfl ia_3 ja_3
  refine ⟨a_3, ha_3, ia_3, ja_3, ?_⟩
  obtain ⟨x_2, hx_2, hc⟩ := rdCell0 (rowRd h 0 encL9 rfl) ha_3 rfl ia_3 ja_3
  replace hp := hp x_2 hx_2
  refine ⟨_, hc _ rfl, ?_⟩
  obtain ⟨ia_4, ja_4, hp⟩ := hp
  obtain ⟨a_4, ha_4⟩ := rdAddr (rowRd h 0 encL9 rfl) rfl ia_4 ja_4
  refine ⟨a_4, ha_4, ia_4, ja_4, ?_⟩
  refine rowSetW (ys := [(Value.string x_1)]) (x := x_1) h 0 encL9 rfl ha_4 rfl ia_4 ja_4 sz9 rfl rfl rfl ?_
  intro w h
  dsimp only [setH, setVs, setV] at h
  obtain ⟨ia_5, ja_5, hp⟩ := hp
  obtain ⟨a_5, ha_5⟩ := rdAddr (rowRd h 0 encL9 rfl) (lenSet rfl) ia_5 ja_5
  refine ⟨a_5, ha_5, ia_5, ja_5, ?_⟩
  refine rowSetW (ys := [(Value.string x_2)]) (x := x_2) h 0 encL9 rfl ha_5 (lenSet rfl) ia_5 ja_5 sz9 rfl rfl rfl ?_
  intro w h
  dsimp only [setH, setVs, setV] at h
  obtain ⟨Q, hq, hp⟩ := hp
  refine ⟨fun data0p data0l data0c a1 cmp4 i12 j13 w => ∃ (s_2 : σ4), p_1 = data0p ∧ data.length = data0l ∧ c_1 = data0c ∧ a_1 = a1 ∧ (Value.func ff4 fa4 fc4) = cmp4 ∧ (IntKind.wrap .i64 (b_1 - 1)) = j13 ∧ Q i12 s_2 ∧ Mem (A4 s_2 :: row enc9 9 1 p_1 c_1 (List.set (List.set data (Int.toNat a_1) x_1) (Int.toNat pivot) x_2) :: FL) w, ?_, ?_⟩
  · rintro data0p data0l data0c a1 cmp4 i12 j13 w ⟨s_2, rfl, rfl, rfl, rfl, rfl, rfl, hp, h⟩
    replace hp := hq i12 s_2 hp
    unfold slices_partitionCmpFunc_string_j1
    obtain ⟨Q_2, hq, hp⟩ := hp
    refine ⟨fun data0_3p data0_3l data0_3c a1_3 cmp4_3 i12_3 j13_3 w => ∃ (s_6 : σ4), p_1 = data0_3p ∧ data.length = data0_3l ∧ c_1 = data0_3c ∧ a_1 = a1_3 ∧ (Value.func ff4 fa4 fc4) = cmp4_3 ∧ i12 = i12_3 ∧ Q_2 j13_3 s_6 ∧ Mem (A4 s_6 :: row enc9 9 1 p_1 c_1 (List.set (List.set data (Int.toNat a_1) x_1) (Int.toNat pivot) x_2) :: FL) w, ?_, ?_⟩
    · rintro data0_3p data0_3l data0_3c a1_3 cmp4_3 i12_3 j13_3 w ⟨s_6, rfl, rfl, rfl, rfl, rfl, rfl, hp, h⟩
      replace hp := hq j13_3 s_6 hp
      unfold slices_partitionCmpFunc_string_j2
      refine cond_both hp (fun hp => ?_) (fun hp => ?_)
      · replace h := h.drew
        obtain ⟨ia_10, ja_10, hp⟩ := hp
        obtain ⟨a_10, ha_10⟩ := rdAddr (rowRd h 1 encL9 rfl) (lenSet (lenSet rfl)) ia_10 ja_10
        refine ⟨a_10, ha_10, ia_10, ja_10, ?_⟩
        obtain ⟨x_9, hx_9, hc⟩ := rdCell0 (rowRd h 1 encL9 rfl) ha_10 (lenSet (lenSet rfl)) ia_10 ja_10
        replace hp := hp x_9 hx_9
        refine ⟨_, hc _ rfl, ?_⟩
        obtain ⟨ia_11, ja_11, hp⟩ := hp
        obtain ⟨a_11, ha_11⟩ := rdAddr (rowRd h 1 encL9 rfl) (lenSet (lenSet rfl)) ia_11 ja_11
        refine ⟨a_11, ha_11, ia_11, ja_11, ?_⟩
        obtain ⟨x_10, hx_10, hc⟩ := rdCell0 (rowRd h 1 encL9 rfl) ha_11 (lenSet (lenSet rfl)) ia_11 ja_11
        replace hp := hp x_10 hx_10
        refine ⟨_, hc _ rfl, ?_⟩
        obtain ⟨ia_12, ja_12, hp⟩ := hp
        obtain ⟨a_12, ha_12⟩ := rdAddr (rowRd h 1 encL9 rfl) (lenSet (lenSet rfl)) ia_12 ja_12
        refine ⟨a_12, ha_12, ia_12, ja_12, ?_⟩
        refine rowSetW (ys := [(Value.string x_9)]) (x := x_9) h 1 encL9 rfl ha_12 (lenSet (lenSet rfl)) ia_12 ja_12 sz9 rfl rfl rfl ?_
        intro w h
        dsimp only [setH, setVs, setV] at h
        obtain ⟨ia_13, ja_13, hp⟩ := hp
        obtain ⟨a_13, ha_13⟩ := rdAddr (rowRd h 1 encL9 rfl) (lenSet (lenSet (lenSet rfl))) ia_13 ja_13
        refine ⟨a_13, ha_13, ia_13, ja_13, ?_⟩
        refine rowSetW (ys := [(Value.string x_10)]) (x := x_10) h 1 encL9 rfl ha_13 (lenSet (lenSet (lenSet rfl))) ia_13 ja_13 sz9 rfl rfl rfl ?_
        intro w h
        dsimp only [setH, setVs, setV] at h
        replace h := h.sel [1, 0] 0
        dsimp only [pickL, pickR, nthH, delH, dropH, List.cons_append, List.nil_append] at h
        exact hR j13_3 true (List.set (List.set (List.set (List.set data (Int.toNat a_1) x_1) (Int.toNat pivot) x_2) (Int.toNat j13_3) x_9) (Int.toNat a_1) x_10) s_6 _ (lenSet (lenSet (lenSet (lenSet rfl)))) h hp
      replace h := h.drew
      obtain ⟨ia_14, ja_14, hp⟩ := hp
      obtain ⟨a_14, ha_14⟩ := rdAddr (rowRd h 1 encL9 rfl) (lenSet (lenSet rfl)) ia_14 ja_14
      refine ⟨a_14, ha_14, ia_14, ja_14, ?_⟩
      obtain ⟨x_13, hx_13, hc⟩ := rdCell0 (rowRd h 1 encL9 rfl) ha_14 (lenSet (lenSet rfl)) ia_14 ja_14
      replace hp := hp x_13 hx_13
      refine ⟨_, hc _ rfl, ?_⟩
      obtain ⟨ia_15, ja_15, hp⟩ := hp
      obtain ⟨a_15, ha_15⟩ := rdAddr (rowRd h 1 encL9 rfl) (lenSet (lenSet rfl)) ia_15 ja_15
      refine ⟨a_15, ha_15, ia_15, ja_15, ?_⟩
      obtain ⟨x_14, hx_14, hc⟩ := rdCell0 (rowRd h 1 encL9 rfl) ha_15 (lenSet (lenSet rfl)) ia_15 ja_15
      replace hp := hp x_14 hx_14
      refine ⟨_, hc _ rfl, ?_⟩
      obtain ⟨ia_16, ja_16, hp⟩ := hp
      obtain ⟨a_16, ha_16⟩ := rdAddr (rowRd h 1 encL9 rfl) (lenSet (lenSet rfl)) ia_16 ja_16
      refine ⟨a_16, ha_16, ia_16, ja_16, ?_⟩
      refine rowSetW (ys := [(Value.string x_13)]) (x := x_13) h 1 encL9 rfl ha_16 (lenSet (lenSet rfl)) ia_16 ja_16 sz9 rfl rfl rfl ?_
      intro w h
      dsimp only [setH, setVs, setV] at h
      obtain ⟨ia_17, ja_17, hp⟩ := hp
      obtain ⟨a_17, ha_17⟩ := rdAddr (rowRd h 1 encL9 rfl) (lenSet (lenSet (lenSet rfl))) ia_17 ja_17
      refine ⟨a_17, ha_17, ia_17, ja_17, ?_⟩
      refine rowSetW (ys := [(Value.string x_14)]) (x := x_14) h 1 encL9 rfl ha_17 (lenSet (lenSet (lenSet rfl))) ia_17 ja_17 sz9 rfl rfl rfl ?_
      intro w h
      dsimp only [setH, setVs, setV] at h
      obtain ⟨Q_4, hq, hp⟩ := hp
      refine ⟨fun data0_6p data0_6l data0_6c a1_6 j13_6 w => ∃ (data_1 : List (ByteArray)), ∃ (s_10 : σ4), p_1 = data0_6p ∧ data.length = data0_6l ∧ c_1 = data0_6c ∧ a_1 = a1_6 ∧ data.length = data_1.length ∧ Q_4 data_1 j13_6 s_10 ∧ Mem (A4 s_10 :: row enc9 9 1 p_1 c_1 data_1 :: FL) w, ?_, ?_⟩
      · rintro data0_6p data0_6l data0_6c a1_6 j13_6 w ⟨data_1, s_10, rfl, rfl, rfl, rfl, hl_data_1, hp, h⟩
        replace hp := hq data_1 j13_6 s_10 hp
        unfold slices_partitionCmpFunc_string_j3
        replace h := h.drew
        obtain ⟨ia_26, ja_26, hp⟩ := hp
        obtain ⟨a_26, ha_26⟩ := rdAddr (rowRd h 1 encL9 rfl) hl_data_1 ia_26 ja_26
        refine ⟨a_26, ha_26, ia_26, ja_26, ?_⟩
        obtain ⟨x_25, hx_25, hc⟩ := rdCell0 (rowRd h 1 encL9 rfl) ha_26 hl_data_1 ia_26 ja_26
        replace hp := hp x_25 hx_25
        refine ⟨_, hc _ rfl, ?_⟩
        obtain ⟨ia_27, ja_27, hp⟩ := hp
        obtain ⟨a_27, ha_27⟩ := rdAddr (rowRd h 1 encL9 rfl) hl_data_1 ia_27 ja_27
        refine ⟨a_27, ha_27, ia_27, ja_27, ?_⟩
        obtain ⟨x_26, hx_26, hc⟩ := rdCell0 (rowRd h 1 encL9 rfl) ha_27 hl_data_1 ia_27 ja_27
        replace hp := hp x_26 hx_26
        refine ⟨_, hc _ rfl, ?_⟩
        obtain ⟨ia_28, ja_28, hp⟩ := hp
        obtain ⟨a_28, ha_28⟩ := rdAddr (rowRd h 1 encL9 rfl) hl_data_1 ia_28 ja_28
        refine ⟨a_28, ha_28, ia_28, ja_28, ?_⟩
        refine rowSetW (ys := [(Value.string x_25)]) (x := x_25) h 1 encL9 rfl ha_28 hl_data_1 ia_28 ja_28 sz9 rfl rfl rfl ?_
        intro w h
        dsimp only [setH, setVs, setV] at h
        obtain ⟨ia_29, ja_29, hp⟩ := hp
        obtain ⟨a_29, ha_29⟩ := rdAddr (rowRd h 1 encL9 rfl) (lenSet hl_data_1) ia_29 ja_29
        refine ⟨a_29, ha_29, ia_29, ja_29, ?_⟩
        refine rowSetW (ys := [(Value.string x_26)]) (x := x_26) h 1 encL9 rfl ha_29 (lenSet hl_data_1) ia_29 ja_29 sz9 rfl rfl rfl ?_
        intro w h
        dsimp only [setH, setVs, setV] at h
        replace h := h.sel [1, 0] 0
        dsimp only [pickL, pickR, nthH, delH, dropH, List.cons_append, List.nil_append] at h
        exact hR j13_6 false (List.set (List.set data_1 (Int.toNat j13_6) x_25) (Int.toNat a_1) x_26) s_10 _ (lenSet (lenSet hl_data_1)) h hp
      clear hq
      obtain ⟨I_2, ⟨n_16, h0⟩, hq⟩ := hp
      refine ⟨fun n_8 data0_7p data0_7l data0_7c a1_7 cmp4_6 i12_6 j13_7 w => ∃ (data_2 : List (ByteArray)), ∃ (s_11 : σ4), p_1 = data0_7p ∧ data.length = data0_7l ∧ c_1 = data0_7c ∧ a_1 = a1_7 ∧ (Value.func ff4 fa4 fc4) = cmp4_6 ∧ data.length = data_2.length ∧ I_2 n_8 data_2 i12_6 j13_7 s_11 ∧ Mem (A4 s_11 :: row enc9 9 1 p_1 c_1 data_2 :: FL) w, ⟨n_16, (List.set (List.set (List.set (List.set data (Int.toNat a_1) x_1) (Int.toNat pivot) x_2) (Int.toNat i12) x_13) (Int.toNat j13_3) x_14), s_6, rfl, rfl, rfl, rfl, rfl, (lenSet (lenSet (lenSet (lenSet rfl)))), h0, h⟩, ?_⟩
      clear h0 h
      rintro n_8 data0_7p data0_7l data0_7c a1_7 cmp4_6 i12_6 j13_7 w ⟨data_2, s_11, rfl, rfl, rfl, rfl, rfl, hl_data_2, hp, h⟩
      replace hp := hq n_8 data_2 i12_6 j13_7 s_11 hp
      clear hq
      unfold slices_partitionCmpFunc_string_l4
      obtain ⟨Q_5, hq, hp⟩ := hp
      refine ⟨fun data0_8p data0_8l data0_8c a1_8 cmp4_7 i12_7 j13_8 w => ∃ (s_12 : σ4), p_1 = data0_8p ∧ data.length = data0_8l ∧ c_1 = data0_8c ∧ a_1 = a1_8 ∧ (Value.func ff4 fa4 fc4) = cmp4_7 ∧ j13_7 = j13_8 ∧ Q_5 i12_7 s_12 ∧ Mem (A4 s_12 :: row enc9 9 1 p_1 c_1 data_2 :: FL) w, ?_, ?_⟩
      · rintro data0_8p data0_8l data0_8c a1_8 cmp4_7 i12_7 j13_8 w ⟨s_12, rfl, rfl, rfl, rfl, rfl, rfl, hp, h⟩
        replace hp := hq i12_7 s_12 hp
        unfold slices_partitionCmpFunc_string_j5
        obtain ⟨Q_7, hq, hp⟩ := hp
        refine ⟨fun data0_11p data0_11l data0_11c a1_11 cmp4_10 i12_10 j13_11 w => ∃ (s_16 : σ4), p_1 = data0_11p ∧ data.length = data0_11l ∧ c_1 = data0_11c ∧ a_1 = a1_11 ∧ (Value.func ff4 fa4 fc4) = cmp4_10 ∧ i12_7 = i12_10 ∧ Q_7 j13_11 s_16 ∧ Mem (A4 s_16 :: row enc9 9 1 p_1 c_1 data_2 :: FL) w, ?_, ?_⟩
        · rintro data0_11p data0_11l data0_11c a1_11 cmp4_10 i12_10 j13_11 w ⟨s_16, rfl, rfl, rfl, rfl, rfl, rfl, hp, h⟩
          replace hp := hq j13_11 s_16 hp
          unfold slices_partitionCmpFunc_string_j6
          refine cond_both hp (fun hp => ?_) (fun hp => ?_)
          · exact ⟨data_2, s_16, rfl, rfl, rfl, rfl, hl_data_2, hp, h⟩
          replace h := h.drew
          obtain ⟨ia_22, ja_22, hp⟩ := hp
          obtain ⟨a_22, ha_22⟩ := rdAddr (rowRd h 1 encL9 rfl) hl_data_2 ia_22 ja_22
          refine ⟨a_22, ha_22, ia_22, ja_22, ?_⟩
          obtain ⟨x_21, hx_21, hc⟩ := rdCell0 (rowRd h 1 encL9 rfl) ha_22 hl_data_2 ia_22 ja_22
          replace hp := hp x_21 hx_21
          refine ⟨_, hc _ rfl, ?_⟩
          obtain ⟨ia_23, ja_23, hp⟩ := hp
          obtain ⟨a_23, ha_23⟩ := rdAddr (rowRd h 1 encL9 rfl) hl_data_2 ia_23 ja_23
          refine ⟨a_23, ha_23, ia_23, ja_23, ?_⟩
          obtain ⟨x_22, hx_22, hc⟩ := rdCell0 (rowRd h 1 encL9 rfl) ha_23 hl_data_2 ia_23 ja_23
          replace hp := hp x_22 hx_22
          refine ⟨_, hc _ rfl, ?_⟩
          obtain ⟨ia_24, ja_24, hp⟩ := hp
          obtain ⟨a_24, ha_24⟩ := rdAddr (rowRd h 1 encL9 rfl) hl_data_2 ia_24 ja_24
          refine ⟨a_24, ha_24, ia_24, ja_24, ?_⟩
          refine rowSetW (ys := [(Value.string x_21)]) (x := x_21) h 1 encL9 rfl ha_24 hl_data_2 ia_24 ja_24 sz9 rfl rfl rfl ?_
          intro w h
          dsimp only [setH, setVs, setV] at h
          obtain ⟨ia_25, ja_25, hp⟩ := hp
          obtain ⟨a_25, ha_25⟩ := rdAddr (rowRd h 1 encL9 rfl) (lenSet hl_data_2) ia_25 ja_25
          refine ⟨a_25, ha_25, ia_25, ja_25, ?_⟩
          refine rowSetW (ys := [(Value.string x_22)]) (x := x_22) h 1 encL9 rfl ha_25 (lenSet hl_data_2) ia_25 ja_25 sz9 rfl rfl rfl ?_
          intro w h
          dsimp only [setH, setVs, setV] at h
          obtain ⟨n_15, hn, hp⟩ := hp
          exact ⟨n_15, hn, (List.set (List.set data_2 (Int.toNat i12_7) x_21) (Int.toNat j13_11) x_22), s_16, rfl, rfl, rfl, rfl, rfl, (lenSet (lenSet hl_data_2)), hp, h⟩
        clear hq
        obtain ⟨I_4, ⟨n_14, h0⟩, hq⟩ := hp
        refine ⟨fun n_12 data0_12p data0_12l data0_12c a1_12 cmp4_11 i12_11 j13_12 w => ∃ (s_17 : σ4), p_1 = data0_12p ∧ data.length = data0_12l ∧ c_1 = data0_12c ∧ a_1 = a1_12 ∧ (Value.func ff4 fa4 fc4) = cmp4_11 ∧ i12_7 = i12_11 ∧ I_4 n_12 j13_12 s_17 ∧ Mem (A4 s_17 :: row enc9 9 1 p_1 c_1 data_2 :: FL) w, ⟨n_14, s_12, rfl, rfl, rfl, rfl, rfl, rfl, h0, h⟩, ?_⟩
        clear h0 h
        rintro n_12 data0_12p data0_12l data0_12c a1_12 cmp4_11 i12_11 j13_12 w ⟨s_17, rfl, rfl, rfl, rfl, rfl, rfl, hp, h⟩
        replace hp := hq n_12 j13_12 s_17 hp
        clear hq
        unfold slices_partitionCmpFunc_string_l7
        obtain ⟨Q_8, hq, hp⟩ := hp
        refine ⟨fun data0_13p data0_13l data0_13c a1_13 cmp4_12 i12_12 j13_13 t139 w => ∃ (s_18 : σ4), p_1 = data0_13p ∧ data.length = data0_13l ∧ c_1 = data0_13c ∧ a_1 = a1_13 ∧ (Value.func ff4 fa4 fc4) = cmp4_12 ∧ i12_7 = i12_12 ∧ j13_12 = j13_13 ∧ Q_8 t139 s_18 ∧ Mem (A4 s_18 :: row enc9 9 1 p_1 c_1 data_2 :: FL) w, ?_, ?_⟩
        · rintro data0_13p data0_13l data0_13c a1_13 cmp4_12 i12_12 j13_13 t139 w ⟨s_18, rfl, rfl, rfl, rfl, rfl, rfl, rfl, hp, h⟩
          replace hp := hq t139 s_18 hp
          unfold slices_partitionCmpFunc_string_j8
          refine cond_both' hp (fun hp => ?_) (fun hp => ?_)
          · exact ⟨s_18, rfl, rfl, rfl, rfl, rfl, rfl, hp, h⟩
          obtain ⟨n_13, hn, hp⟩ := hp
          exact ⟨n_13, hn, s_18, rfl, rfl, rfl, rfl, rfl, rfl, hp, h⟩
        clear hq
        replace h := h.drew
        refine cond_both' hp (fun hp => ?_) (fun hp => ?_)
        · exact ⟨s_17, rfl, rfl, rfl, rfl, rfl, rfl, rfl, hp, h⟩
        obtain ⟨ia_20, ja_20, hp⟩ := hp
        obtain ⟨a_20, ha_20⟩ := rdAddr (rowRd h 1 encL9 rfl) hl_data_2 ia_20 ja_20
        refine ⟨a_20, ha_20, ia_20, ja_20, ?_⟩
        obtain ⟨x_19, hx_19, hc⟩ := rdCell0 (rowRd h 1 encL9 rfl) ha_20 hl_data_2 ia_20 ja_20
        replace hp := hp x_19 hx_19
        refine ⟨_, hc _ rfl, ?_⟩
        obtain ⟨ia_21, ja_21, hp⟩ := hp
        obtain ⟨a_21, ha_21⟩ := rdAddr (rowRd h 1 encL9 rfl) hl_data_2 ia_21 ja_21
        refine ⟨a_21, ha_21, ia_21, ja_21, ?_⟩
        obtain ⟨x_20, hx_20, hc⟩ := rdCell0 (rowRd h 1 encL9 rfl) ha_21 hl_data_2 ia_21 ja_21
        replace hp := hp x_20 hx_20
        refine ⟨_, hc _ rfl, ?_⟩
        refine hY4 x_19 x_20 _ _ (row enc9 9 1 p_1 c_1 data_2 :: FL) _ _ (fun _ h => Mem.drop 1 h) h hp ?_
        intro t136 s_19 w h hp
        refine ⟨_, rfl, ?_⟩
        exact ⟨s_19, rfl, rfl, rfl, rfl, rfl, rfl, rfl, hp, h⟩
      clear hq
      obtain ⟨I_3, ⟨n_11, h0⟩, hq⟩ := hp
      refine ⟨fun n_9 data0_9p data0_9l data0_9c a1_9 cmp4_8 i12_8 j13_9 w => ∃ (s_13 : σ4), p_1 = data0_9p ∧ data.length = data0_9l ∧ c_1 = data0_9c ∧ a_1 = a1_9 ∧ (Value.func ff4 fa4 fc4) = cmp4_8 ∧ j13_7 = j13_9 ∧ I_3 n_9 i12_8 s_13 ∧ Mem (A4 s_13 :: row enc9 9 1 p_1 c_1 data_2 :: FL) w, ⟨n_11, s_11, rfl, rfl, rfl, rfl, rfl, rfl, h0, h⟩, ?_⟩
      clear h0 h
      rintro n_9 data0_9p data0_9l data0_9c a1_9 cmp4_8 i12_8 j13_9 w ⟨s_13, rfl, rfl, rfl, rfl, rfl, rfl, hp, h⟩
      replace hp := hq n_9 i12_8 s_13 hp
      clear hq
      unfold slices_partitionCmpFunc_string_l9
      obtain ⟨Q_6, hq, hp⟩ := hp
      refine ⟨fun data0_10p data0_10l data0_10c a1_10 cmp4_9 i12_9 j13_10 t120 w => ∃ (s_14 : σ4), p_1 = data0_10p ∧ data.length = data0_10l ∧ c_1 = data0_10c ∧ a_1 = a1_10 ∧ (Value.func ff4 fa4 fc4) = cmp4_9 ∧ i12_8 = i12_9 ∧ j13_7 = j13_10 ∧ Q_6 t120 s_14 ∧ Mem (A4 s_14 :: row enc9 9 1 p_1 c_1 data_2 :: FL) w, ?_, ?_⟩
      · rintro data0_10p data0_10l data0_10c a1_10 cmp4_9 i12_9 j13_10 t120 w ⟨s_14, rfl, rfl, rfl, rfl, rfl, rfl, rfl, hp, h⟩
        replace hp := hq t120 s_14 hp
        unfold slices_partitionCmpFunc_string_j10
        refine cond_both' hp (fun hp => ?_) (fun hp => ?_)
        · exact ⟨s_14, rfl, rfl, rfl, rfl, rfl, rfl, hp, h⟩
        obtain ⟨n_10, hn, hp⟩ := hp
        exact ⟨n_10, hn, s_14, rfl, rfl, rfl, rfl, rfl, rfl, hp, h⟩
      clear hq
      replace h := h.drew
      refine cond_both' hp (fun hp => ?_) (fun hp => ?_)
      · exact ⟨s_13, rfl, rfl, rfl, rfl, rfl, rfl, rfl, hp, h⟩
      obtain ⟨ia_18, ja_18, hp⟩ := hp
      obtain ⟨a_18, ha_18⟩ := rdAddr (rowRd h 1 encL9 rfl) hl_data_2 ia_18 ja_18
      refine ⟨a_18, ha_18, ia_18, ja_18, ?_⟩
      obtain ⟨x_17, hx_17, hc⟩ := rdCell0 (rowRd h 1 encL9 rfl) ha_18 hl_data_2 ia_18 ja_18
      replace hp := hp x_17 hx_17
      refine ⟨_, hc _ rfl, ?_⟩
      obtain ⟨ia_19, ja_19, hp⟩ := hp
      obtain ⟨a_19, ha_19⟩ := rdAddr (rowRd h 1 encL9 rfl) hl_data_2 ia_19 ja_19
      refine ⟨a_19, ha_19, ia_19, ja_19, ?_⟩
      obtain ⟨x_18, hx_18, hc⟩ := rdCell0 (rowRd h 1 encL9 rfl) ha_19 hl_data_2 ia_19 ja_19
      replace hp := hp x_18 hx_18
      refine ⟨_, hc _ rfl, ?_⟩
      refine hY4 x_17 x_18 _ _ (row enc9 9 1 p_1 c_1 data_2 :: FL) _ _ (fun _ h => Mem.drop 1 h) h hp ?_
      intro t118 s_15 w h hp
      refine ⟨_, rfl, ?_⟩
      exact ⟨s_15, rfl, rfl, rfl, rfl, rfl, rfl, rfl, hp, h⟩
    clear hq
    obtain ⟨I_1, ⟨n_7, h0⟩, hq⟩ := hp
    refine ⟨fun n_5 data0_4p data0_4l data0_4c a1_4 cmp4_4 i12_4 j13_4 w => ∃ (s_7 : σ4), p_1 = data0_4p ∧ data.length = data0_4l ∧ c_1 = data0_4c ∧ a_1 = a1_4 ∧ (Value.func ff4 fa4 fc4) = cmp4_4 ∧ i12 = i12_4 ∧ I_1 n_5 j13_4 s_7 ∧ Mem (A4 s_7 :: row enc9 9 1 p_1 c_1 (List.set (List.set data (Int.toNat a_1) x_1) (Int.toNat pivot) x_2) :: FL) w, ⟨n_7, s_2, rfl, rfl, rfl, rfl, rfl, rfl, h0, h⟩, ?_⟩
    clear h0 h
    rintro n_5 data0_4p data0_4l data0_4c a1_4 cmp4_4 i12_4 j13_4 w ⟨s_7, rfl, rfl, rfl, rfl, rfl, rfl, hp, h⟩
    replace hp := hq n_5 j13_4 s_7 hp
    clear hq
    unfold slices_partitionCmpFunc_string_l11
    obtain ⟨Q_3, hq, hp⟩ := hp
    refine ⟨fun data0_5p data0_5l data0_5c a1_5 cmp4_5 i12_5 j13_5 t66 w => ∃ (s_8 : σ4), p_1 = data0_5p ∧ data.length = data0_5l ∧ c_1 = data0_5c ∧ a_1 = a1_5 ∧ (Value.func ff4 fa4 fc4) = cmp4_5 ∧ i12 = i12_5 ∧ j13_4 = j13_5 ∧ Q_3 t66 s_8 ∧ Mem (A4 s_8 :: row enc9 9 1 p_1 c_1 (List.set (List.set data (Int.toNat a_1) x_1) (Int.toNat pivot) x_2) :: FL) w, ?_, ?_⟩
    · rintro data0_5p data0_5l data0_5c a1_5 cmp4_5 i12_5 j13_5 t66 w ⟨s_8, rfl, rfl, rfl, rfl, rfl, rfl, rfl, hp, h⟩
      replace hp := hq t66 s_8 hp
      unfold slices_partitionCmpFunc_string_j12
      refine cond_both' hp (fun hp => ?_) (fun hp => ?_)
      · exact ⟨s_8, rfl, rfl, rfl, rfl, rfl, rfl, hp, h⟩
      obtain ⟨n_6, hn, hp⟩ := hp
      exact ⟨n_6, hn, s_8, rfl, rfl, rfl, rfl, rfl, rfl, hp, h⟩
    clear hq
    replace h := h.drew
    refine cond_both' hp (fun hp => ?_) (fun hp => ?_)
    · exact ⟨s_7, rfl, rfl, rfl, rfl, rfl, rfl, rfl, hp, h⟩
    obtain ⟨ia_8, ja_8, hp⟩ := hp
    obtain ⟨a_8, ha_8⟩ := rdAddr (rowRd h 1 encL9 rfl) (lenSet (lenSet rfl)) ia_8 ja_8
    refine ⟨a_8, ha_8, ia_8, ja_8, ?_⟩
    obtain ⟨x_7, hx_7, hc⟩ := rdCell0 (rowRd h 1 encL9 rfl) ha_8 (lenSet (lenSet rfl)) ia_8 ja_8
    replace hp := hp x_7 hx_7
    refine ⟨_, hc _ rfl, ?_⟩
    obtain ⟨ia_9, ja_9, hp⟩ := hp
    obtain ⟨a_9, ha_9⟩ := rdAddr (rowRd h 1 encL9 rfl) (lenSet (lenSet rfl)) ia_9 ja_9
    refine ⟨a_9, ha_9, ia_9, ja_9, ?_⟩
    obtain ⟨x_8, hx_8, hc⟩ := rdCell0 (rowRd h 1 encL9 rfl) ha_9 (lenSet (lenSet rfl)) ia_9 ja_9
    replace hp := hp x_8 hx_8
    refine ⟨_, hc _ rfl, ?_⟩
    refine hY4 x_7 x_8 _ _ (row enc9 9 1 p_1 c_1 (List.set (List.set data (Int.toNat a_1) x_1) (Int.toNat pivot) x_2) :: FL) _ _ (fun _ h => Mem.drop 1 h) h hp ?_
    intro t63 s_9 w h hp
    refine ⟨_, rfl, ?_⟩
    exact ⟨s_9, rfl, rfl, rfl, rfl, rfl, rfl, rfl, hp, h⟩
  clear hq
  obtain ⟨I, ⟨n_4, h0⟩, hq⟩ := hp
  replace h := h.sel [1, 0] 0
  dsimp only [pickL, pickR, nthH, delH, dropH, List.cons_append, List.nil_append] at h
  refine ⟨fun n_2 data0_1p data0_1l data0_1c a1_1 cmp4_1 i12_1 j13_1 w => ∃ (s_3 : σ4), p_1 = data0_1p ∧ data.length = data0_1l ∧ c_1 = data0_1c ∧ a_1 = a1_1 ∧ (Value.func ff4 fa4 fc4) = cmp4_1 ∧ (IntKind.wrap .i64 (b_1 - 1)) = j13_1 ∧ I n_2 i12_1 s_3 ∧ Mem (A4 s_3 :: row enc9 9 1 p_1 c_1 (List.set (List.set data (Int.toNat a_1) x_1) (Int.toNat pivot) x_2) :: FL) w, ⟨n_4, s, rfl, rfl, rfl, rfl, rfl, rfl, h0, h⟩, ?_⟩
  clear h0 h
  rintro n_2 data0_1p data0_1l data0_1c a1_1 cmp4_1 i12_1 j13_1 w ⟨s_3, rfl, rfl, rfl, rfl, rfl, rfl, hp, h⟩
  replace hp := hq n_2 i12_1 s_3 hp
  clear hq
  unfold slices_partitionCmpFunc_string_l13
  obtain ⟨Q_1, hq, hp⟩ := hp
  refine ⟨fun data0_2p data0_2l data0_2c a1_2 cmp4_2 i12_2 j13_2 t47 w => ∃ (s_4 : σ4), p_1 = data0_2p ∧ data.length = data0_2l ∧ c_1 = data0_2c ∧ a_1 = a1_2 ∧ (Value.func ff4 fa4 fc4) = cmp4_2 ∧ i12_1 = i12_2 ∧ (IntKind.wrap .i64 (b_1 - 1)) = j13_2 ∧ Q_1 t47 s_4 ∧ Mem (A4 s_4 :: row enc9 9 1 p_1 c_1 (List.set (List.set data (Int.toNat a_1) x_1) (Int.toNat pivot) x_2) :: FL) w, ?_, ?_⟩
  · rintro data0_2p data0_2l data0_2c a1_2 cmp4_2 i12_2 j13_2 t47 w ⟨s_4, rfl, rfl, rfl, rfl, rfl, rfl, rfl, hp, h⟩
    replace hp := hq t47 s_4 hp
    unfold slices_partitionCmpFunc_string_j14
    refine cond_both' hp (fun hp => ?_) (fun hp => ?_)
    · exact ⟨s_4, rfl, rfl, rfl, rfl, rfl, rfl, hp, h⟩
    obtain ⟨n_3, hn, hp⟩ := hp
    exact ⟨n_3, hn, s_4, rfl, rfl, rfl, rfl, rfl, rfl, hp, h⟩
  clear hq
  replace h := h.drew
  refine cond_both' hp (fun hp => ?_) (fun hp => ?_)
  · exact ⟨s_3, rfl, rfl, rfl, rfl, rfl, rfl, rfl, hp, h⟩
  obtain ⟨ia_6, ja_6, hp⟩ := hp
  obtain ⟨a_6, ha_6⟩ := rdAddr (rowRd h 1 encL9 rfl) (lenSet (lenSet rfl)) ia_6 ja_6
  refine ⟨a_6, ha_6, ia_6, ja_6, ?_⟩
  obtain ⟨x_5, hx_5, hc⟩ := rdCell0 (rowRd h 1 encL9 rfl) ha_6 (lenSet (lenSet rfl)) ia_6 ja_6
  replace hp := hp x_5 hx_5
  refine ⟨_, hc _ rfl, ?_⟩
  obtain ⟨ia_7, ja_7, hp⟩ := hp
  obtain ⟨a_7, ha_7⟩ := rdAddr (rowRd h 1 encL9 rfl) (lenSet (lenSet rfl)) ia_7 ja_7
  refine ⟨a_7, ha_7, ia_7, ja_7, ?_⟩
  obtain ⟨x_6, hx_6, hc⟩ := rdCell0 (rowRd h 1 encL9 rfl) ha_7 (lenSet (lenSet rfl)) ia_7 ja_7
  replace hp := hp x_6 hx_6
  refine ⟨_, hc _ rfl, ?_⟩
  refine hY4 x_5 x_6 _ _ (row enc9 9 1 p_1 c_1 (List.set (List.set data (Int.toNat a_1) x_1) (Int.toNat pivot) x_2) :: FL) _ _ (fun _ h => Mem.drop 1 h) h hp ?_
  intro t45 s_5 w h hp
  refine ⟨_, rfl, ?_⟩
  exact ⟨s_5, rfl, rfl, rfl, rfl, rfl, rfl, rfl, hp, h⟩

/-! slices.pdqsortCmpFunc[string] (34) -/
def slices_pdqsortCmpFunc_string_wp {σ4 : Type} (data : List (ByteArray)) (a_1 : Int) (b_1 : Int) (limit : Int) (s : σ4) (Y4 : (ByteArray) → (ByteArray) → σ4 → (Int → σ4 → Prop) → Prop) (K : List (ByteArray) → σ4 → Prop) : Prop :=
  ∃ (Crec : Nat → (List (ByteArray)) → (Int) → (Int) → (Int) → (σ4) → (List (ByteArray) → σ4 → Prop) → Prop), (∃ (n0 : Nat), Crec n0 data a_1 b_1 limit s K) ∧ ∀ (nrec : Nat) (data : List (ByteArray)) (a_1 : Int) (b_1 : Int) (limit : Int) (s : σ4) (K : List (ByteArray) → σ4 → Prop), Crec nrec data a_1 b_1 limit s K → (∃ (I : Nat → List (ByteArray) → Int → Int → Int → Bool → Bool → σ4 → Prop), (∃ (n_8 : Nat), I n_8 data a_1 b_1 limit true true s) ∧ ∀ (n_2 : Nat) (data_1 : List (ByteArray)) (a1 : Int) (b2 : Int) (limit3 : Int) (wasBalanced10 : Bool) (wasPartitioned11 : Bool) (s_2 : σ4), I n_2 data_1 a1 b2 limit3 wasBalanced10 wasPartitioned11 s_2 → (cond (decide (((IntKind.wrap .i64 (b2 - a1)) : Int) ≤ 12)) (slices_insertionSortCmpFunc_string_wp data_1 a1 b2 s_2 Y4 (fun (data_2 : List (ByteArray)) (s_3 : σ4) => K data_2 s_3)) (cond ((limit3 : Int) == 0) (slices_heapSortCmpFunc_string_wp data_1 a1 b2 s_2 Y4 (fun (data_3 : List (ByteArray)) (s_4 : σ4) => K data_3 s_4)) (joinP2 (fun (data_4 : List (ByteArray)) (limit3_1 : Int) => slices_choosePivotCmpFunc_string_wp data_4 a1 b2 s_2 Y4 (fun (r : Int) (r_1 : Int) (s_5 : σ4) => joinP3 (fun (data_6 : List (ByteArray)) (pivot13 : Int) (hint14 : Int) => joinP2 (fun (data_8 : List (ByteArray)) (s_6 : σ4) => joinP1 (fun (s_8 : σ4) => slices_partitionCmpFunc_string_wp data_8 a1 b2 pivot13 s_8 Y4 (fun (r_4 : Int) (r_5 : Bool) (data_11 : List (ByteArray)) (s_12 : σ4) => cond (decide (((IntKind.wrap .i64 (r_4 - a1)) : Int) < (IntKind.wrap .i64 (b2 - r_4)))) (∃ (n_5 : Nat), n_5 < nrec ∧ (Crec n_5 data_11 a1 r_4 limit3_1 s_12 (fun (data_12 : List (ByteArray)) (s_13 : σ4) => ∃ (n_4 : Nat), n_4 < n_2 ∧ I n_4 data_12 (IntKind.wrap .i64 (r_4 + 1)) b2 limit3_1 (decide (((IntKind.wrap .i64 (r_4 - a1)) : Int) ≥ (IntKind.wrap .i64 (Int.tdiv (IntKind.wrap .i64 (b2 - a1)) 8)))) r_5 s_13))) (∃ (n_7 : Nat), n_7 < nrec ∧ (Crec n_7 data_11 (IntKind.wrap .i64 (r_4 + 1)) b2 limit3_1 s_12 (fun (data_13 : List (ByteArray)) (s_14 : σ4) => ∃ (n_6 : Nat), n_6 < n_2 ∧ I n_6 data_13 a1 r_4 limit3_1 (decide (((IntKind.wrap .i64 (b2 - r_4)) : Int) ≥ (IntKind.wrap .i64 (Int.tdiv (IntKind.wrap .i64 (b2 - a1)) 8)))) r_5 s_14))))) (fun (Q_4 : σ4 → Prop) => joinP2 (fun (t97 : Bool) (s_9 : σ4) => cond t97 (slices_partitionEqualCmpFunc_string_wp data_8 a1 b2 pivot13 s_9 Y4 (fun (r_3 : Int) (data_10 : List (ByteArray)) (s_11 : σ4) => ∃ (n_3 : Nat), n_3 < n_2 ∧ I n_3 data_10 r_3 b2 limit3_1 wasBalanced10 wasPartitioned11 s_11)) (Q_4 s_9)) (fun (Q_5 : Bool → σ4 → Prop) => cond (decide ((a1 : Int) > 0)) (0 ≤ ((IntKind.wrap .i64 (a1 - 1)) : Int) ∧ ((IntKind.wrap .i64 (a1 - 1)) : Int) < ((data.length : Nat) : Int) ∧ (∀ (x_1 : ByteArray), data_8[Int.toNat (IntKind.wrap .i64 (a1 - 1))]? = some x_1 → (0 ≤ (pivot13 : Int) ∧ (pivot13 : Int) < ((data.length : Nat) : Int) ∧ (∀ (x_2 : ByteArray), data_8[Int.toNat pivot13]? = some x_2 → (Y4 x_1 x_2 s_6 (fun (t94 : Int) (s_10 : σ4) => Q_5 (!(decide ((t94 : Int) < 0))) s_10)))))) (Q_5 false s_6)))) (fun (Q_2 : List (ByteArray) → σ4 → Prop) => joinP1 (fun (t75 : Bool) => cond t75 (slices_partialInsertionSortCmpFunc_string_wp data_6 a1 b2 s_5 Y4 (fun (r_2 : Bool) (data_9 : List (ByteArray)) (s_7 : σ4) => cond r_2 (K data_9 s_7) (Q_2 data_9 s_7))) (Q_2 data_6 s_5)) (fun (Q_3 : Bool → Prop) => cond wasBalanced10 (cond wasPartitioned11 (Q_3 ((hint14 : Int) == 1)) (Q_3 false)) (Q_3 false)))) (fun (Q_1 : List (ByteArray) → Int → Int → Prop) => cond ((r_1 : Int) == 2) (slices_reverseRangeCmpFunc_string_wp data_4 a1 b2 s_5 Y4 (fun (data_7 : List (ByteArray)) => Q_1 data_7 (IntKind.wrap .i64 ((IntKind.wrap .i64 (b2 - 1)) - (IntKind.wrap .i64 (r - a1)))) 1)) (Q_1 data_4 r r_1)))) (fun (Q : List (ByteArray) → Int → Prop) => cond (!wasBalanced10) (slices_breakPatternsCmpFunc_string_wp data_1 a1 b2 s_2 Y4 (fun (data_5 : List (ByteArray)) => Q data_5 (IntKind.wrap .i64 (limit3 - 1)))) (Q data_1 limit3))))))
theorem slices_pdqsortCmpFunc_string_ok {σ4 : Type} {A4 : σ4 → HP} {p_1 : Option Addr} {c_1 : Nat} {n_1 : Nat} {ff4 : Fn} {fa4 : Array Value} {fc4 : Array Value} {data : List (ByteArray)} {a_1 : Int} {b_1 : Int} {limit : Int} {s : σ4} {Y4 : (ByteArray) → (ByteArray) → σ4 → (Int → σ4 → Prop) → Prop} {FL : List HP} {w : World} {K : List (ByteArray) → σ4 → Prop} {R : Value → World → Prop}
  (hY4 : ∀ (x0 : ByteArray) (x1 : ByteArray) (s : σ4) (K : Int → σ4 → Prop) (FL2 : List HP) (w : World) (R : Value → World → Prop), (∀ w, Mem FL2 w → Mem FL w) → Mem (A4 s :: FL2) w → Y4 x0 x1 s K → (∀ (r : Int) (s : σ4) (w : World), Mem (A4 s :: FL2) w → K r s → R (Value.int .i64 r) w) → CalleeV Try.prog (Value.func ff4 fa4 fc4) #[(Value.string x0), (Value.string x1)] w R) (hn_p_1 : n_1 = data.length)
  (h : Mem (row enc9 9 1 p_1 c_1 data :: A4 s :: FL) w) (hp : slices_pdqsortCmpFunc_string_wp data a_1 b_1 limit s Y4 K)
  (hR : ∀ (data_1 : List (ByteArray)) (s_1 : σ4) (w : World), data.length = data_1.length → Mem (row enc9 9 1 p_1 c_1 data_1 :: A4 s_1 :: FL) w → K data_1 s_1 → R undef w) :
  CallV Try.prog 34 #[(Value.slice p_1 n_1 c_1), (Value.int .i64 a_1), (Value.int .i64 b_1), (Value.int .i64 limit), (Value.func ff4 fa4 fc4)] w R := by
  unfold slices_pdqsortCmpFunc_string_wp at hp
  obtain ⟨Crec, ⟨n0, h0⟩, hq⟩ := hp
  have main : ∀ (nrec : Nat) {p_1 : Option Addr} {c_1 : Nat} {n_1 : Nat} {data : List (ByteArray)} {a_1 : Int} {b_1 : Int} {limit : Int} {s : σ4} {FL : List HP} {w : World} {K : List (ByteArray) → σ4 → Prop} {R : Value → World → Prop}
  (hY4 : ∀ (x0 : ByteArray) (x1 : ByteArray) (s : σ4) (K : Int → σ4 → Prop) (FL2 : List HP) (w : World) (R : Value → World → Prop), (∀ w, Mem FL2 w → Mem FL w) → Mem (A4 s :: FL2) w → Y4 x0 x1 s K → (∀ (r : Int) (s : σ4) (w : World), Mem (A4 s :: FL2) w → K r s → R (Value.int .i64 r) w) → CalleeV Try.prog (Value.func ff4 fa4 fc4) #[(Value.string x0), (Value.string x1)] w R) (hn_p_1 : n_1 = data.length)
    (h : Mem (row enc9 9 1 p_1 c_1 data :: A4 s :: FL) w) (hp : Crec nrec data a_1 b_1 limit s K)
  (hR : ∀ (data_1 : List (ByteArray)) (s_1 : σ4) (w : World), data.length = data_1.length → Mem (row enc9 9 1 p_1 c_1 data_1 :: A4 s_1 :: FL) w → K data_1 s_1 → R undef w),
    CallV Try.prog 34 #[(Value.slice p_1 n_1 c_1), (Value.int .i64 a_1), (Value.int .i64 b_1), (Value.int .i64 limit), (Value.func ff4 fa4 fc4)] w R := by
    intro nrec
    induction nrec using Nat.strongRecOn with
    | ind nrec ih =>
      intro p_1 c_1 n_1 data a_1 b_1 limit s FL w K R hY4 hn_p_1 h hp hR
      replace hp := hq nrec data a_1 b_1 limit s K hp
      refine slices_pdqsortCmpFunc_string_call ?_
      unfold slices_pdqsortCmpFunc_string
      subst hn_p_1
      have cpp_1 := rowCap h 0 rfl
      obtain ⟨I, ⟨n_8, h0⟩, hq⟩ := hp
      replace h := h.sel [1, 0] 0
      dsimp only [pickL, pickR, nthH, delH, dropH, List.cons_append, List.nil_append] at h
      refine ⟨fun n_2 data0p data0l data0c a1 b2 limit3 cmp4 wasBalanced10 wasPartitioned11 w => ∃ (data_1 : List (ByteArray)), ∃ (s_2 : σ4), p_1 = data0p ∧ data.length = data0l ∧ c_1 = data0c ∧ (Value.func ff4 fa4 fc4) = cmp4 ∧ data.length = data_1.length ∧ I n_2 data_1 a1 b2 limit3 wasBalanced10 wasPartitioned11 s_2 ∧ Mem (A4 s_2 :: row enc9 9 1 p_1 c_1 data_1 :: FL) w, ⟨n_8, data, s, rfl, rfl, rfl, rfl, rfl, h0, h⟩, ?_⟩
      clear h0 h
      rintro n_2 data0p data0l data0c a1 b2 limit3 cmp4 wasBalanced10 wasPartitioned11 w ⟨data_1, s_2, rfl, rfl, rfl, rfl, hl_data_1, hp, h⟩
      replace hp := hq n_2 data_1 a1 b2 limit3 wasBalanced10 wasPartitioned11 s_2 hp
      clear hq
      unfold slices_pdqsortCmpFunc_string_l1
      refine cond_both hp (fun hp => ?_) (fun hp => ?_)
      · replace h := h.pick [1, 0]
        dsimp only [pickL, pickR, nthH, delH, dropH, List.cons_append, List.nil_append] at h
        refine slices_insertionSortCmpFunc_string_ok (FL := FL) (A3 := A4) (Y3 := Y4) (σ3 := σ4) (s := s_2) (fun _ _ _ _ FL2 w R hx => hY4 _ _ _ _ FL2 w R (fun w h => (Mem.drop 0 (hx w h)))) hl_data_1 h hp ?_
        rintro data_2 s_3 w hl_data_2 h hp
        refine ⟨rfl, ?_⟩
        exact hR data_2 s_3 _ (Eq.trans hl_data_1 hl_data_2) h hp
      refine cond_both hp (fun hp => ?_) (fun hp => ?_)
      · replace h := h.pick [1, 0]
        dsimp only [pickL, pickR, nthH, delH, dropH, List.cons_append, List.nil_append] at h
        refine slices_heapSortCmpFunc_string_ok (FL := FL) (A3 := A4) (Y3 := Y4) (σ3 := σ4) (s := s_2) (fun _ _ _ _ FL2 w R hx => hY4 _ _ _ _ FL2 w R (fun w h => (Mem.drop 0 (hx w h)))) hl_data_1 h hp ?_
        rintro data_3 s_4 w hl_data_3 h hp
        refine ⟨rfl, ?_⟩
        exact hR data_3 s_4 _ (Eq.trans hl_data_1 hl_data_3) h hp
      obtain ⟨Q, hq, hp⟩ := hp
      refine ⟨fun data0_1p data0_1l data0_1c a1_1 b2_1 limit3_1 cmp4_1 wasBalanced10_1 wasPartitioned11_1 length12 w => ∃ (data_4 : List (ByteArray)), p_1 = data0_1p ∧ data.length = data0_1l ∧ c_1 = data0_1c ∧ a1 = a1_1 ∧ b2 = b2_1 ∧ (Value.func ff4 fa4 fc4) = cmp4_1 ∧ wasBalanced10 = wasBalanced10_1 ∧ wasPartitioned11 = wasPartitioned11_1 ∧ (IntKind.wrap .i64 (b2 - a1)) = length12 ∧ data.length = data_4.length ∧ Q data_4 limit3_1 ∧ Mem (A4 s_2 :: row enc9 9 1 p_1 c_1 data_4 :: FL) w, ?_, ?_⟩
      · rintro data0_1p data0_1l data0_1c a1_1 b2_1 limit3_1 cmp4_1 wasBalanced10_1 wasPartitioned11_1 length12 w ⟨data_4, rfl, rfl, rfl, rfl, rfl, rfl, rfl, rfl, rfl, hl_data_4, hp, h⟩
        replace hp := hq data_4 limit3_1 hp
        unfold slices_pdqsortCmpFunc_string_j2
        refine slices_choosePivotCmpFunc_string_ok (FL := row enc9 9 1 p_1 c_1 data_4 :: FL) (A3 := A4) (Y3 := Y4) (σ3 := σ4) (s := s_2) (fun _ _ _ _ FL2 w R hx => hY4 _ _ _ _ FL2 w R (fun w h => (Mem.drop 1 (hx w h)))) (fun w h => (rowRd h 0 encL9 rfl)) hl_data_4 cpp_1 h hp ?_
        intro r r_1 s_5 w h hp
        refine ⟨_, _, rfl, ?_⟩
        refine ⟨_, rfl, ?_⟩
        refine ⟨_, rfl, ?_⟩
        obtain ⟨Q_1, hq, hp⟩ := hp
        refine ⟨fun data0_2p data0_2l data0_2c a1_2 b2_2 limit3_2 cmp4_2 wasBalanced10_2 wasPartitioned11_2 length12_1 pivot13 hint14 w => ∃ (data_6 : List (ByteArray)), p_1 = data0_2p ∧ data.length = data0_2l ∧ c_1 = data0_2c ∧ a1 = a1_2 ∧ b2 = b2_2 ∧ limit3_1 = limit3_2 ∧ (Value.func ff4 fa4 fc4) = cmp4_2 ∧ wasBalanced10 = wasBalanced10_2 ∧ wasPartitioned11 = wasPartitioned11_2 ∧ (IntKind.wrap .i64 (b2 - a1)) = length12_1 ∧ data.length = data_6.length ∧ Q_1 data_6 pivot13 hint14 ∧ Mem (A4 s_5 :: row enc9 9 1 p_1 c_1 data_6 :: FL) w, ?_, ?_⟩
        · rintro data0_2p data0_2l data0_2c a1_2 b2_2 limit3_2 cmp4_2 wasBalanced10_2 wasPartitioned11_2 length12_1 pivot13 hint14 w ⟨data_6, rfl, rfl, rfl, rfl, rfl, rfl, rfl, rfl, rfl, rfl, hl_data_6, hp, h⟩
          replace hp := hq data_6 pivot13 hint14 hp
          unfold slices_pdqsortCmpFunc_string_j3
          obtain ⟨Q_2, hq, hp⟩ := hp
          refine ⟨fun data0_3p data0_3l data0_3c a1_3 b2_3 limit3_3 cmp4_3 wasBalanced10_3 wasPartitioned11_3 length12_2 pivot13_1 w => ∃ (data_8 : List (ByteArray)), ∃ (s_6 : σ4), p_1 = data0_3p ∧ data.length = data0_3l ∧ c_1 = data0_3c ∧ a1 = a1_3 ∧ b2 = b2_3 ∧ limit3_1 = limit3_3 ∧ (Value.func ff4 fa4 fc4) = cmp4_3 ∧ wasBalanced10 = wasBalanced10_3 ∧ wasPartitioned11 = wasPartitioned11_3 ∧ (IntKind.wrap .i64 (b2 - a1)) = length12_2 ∧ pivot13 = pivot13_1 ∧ data.length = data_8.length ∧ Q_2 data_8 s_6 ∧ Mem (A4 s_6 :: row enc9 9 1 p_1 c_1 data_8 :: FL) w, ?_, ?_⟩
          · rintro data0_3p data0_3l data0_3c a1_3 b2_3 limit3_3 cmp4_3 wasBalanced10_3 wasPartitioned11_3 length12_2 pivot13_1 w ⟨data_8, s_6, rfl, rfl, rfl, rfl, rfl, rfl, rfl, rfl, rfl, rfl, rfl, hl_data_8, hp, h⟩
            replace hp := hq data_8 s_6 hp
            unfold slices_pdqsortCmpFunc_string_j4
            obtain ⟨Q_4, hq, hp⟩ := hp
            refine ⟨fun data0_5p data0_5l data0_5c a1_5 b2_5 limit3_5 cmp4_5 length12_4 pivot13_3 w => ∃ (s_8 : σ4), p_1 = data0_5p ∧ data.length = data0_5l ∧ c_1 = data0_5c ∧ a1 = a1_5 ∧ b2 = b2_5 ∧ limit3_1 = limit3_5 ∧ (Value.func ff4 fa4 fc4) = cmp4_5 ∧ (IntKind.wrap .i64 (b2 - a1)) = length12_4 ∧ pivot13 = pivot13_3 ∧ Q_4 s_8 ∧ Mem (A4 s_8 :: row enc9 9 1 p_1 c_1 data_8 :: FL) w, ?_, ?_⟩
            · rintro data0_5p data0_5l data0_5c a1_5 b2_5 limit3_5 cmp4_5 length12_4 pivot13_3 w ⟨s_8, rfl, rfl, rfl, rfl, rfl, rfl, rfl, rfl, rfl, hp, h⟩
              replace hp := hq s_8 hp
              unfold slices_pdqsortCmpFunc_string_j5
              replace h := h.pick [1, 0]
              dsimp only [pickL, pickR, nthH, delH, dropH, List.cons_append, List.nil_append] at h
              refine slices_partitionCmpFunc_string_ok (FL := FL) (A4 := A4) (Y4 := Y4) (σ4 := σ4) (s := s_8) (fun _ _ _ _ FL2 w R hx => hY4 _ _ _ _ FL2 w R (fun w h => (Mem.drop 0 (hx w h)))) hl_data_8 h hp ?_
              rintro r_4 r_5 data_11 s_12 w hl_data_11 h hp
              refine ⟨_, _, rfl, ?_⟩
              refine ⟨_, rfl, ?_⟩
              refine ⟨by decide, ?_⟩
              refine cond_both hp (fun hp => ?_) (fun hp => ?_)
              · obtain ⟨n_5, hn_n_5, hp⟩ := hp
                refine ih n_5 hn_n_5 (FL := FL) (s := s_12) (fun _ _ _ _ FL2 w R hx => hY4 _ _ _ _ FL2 w R (fun w h => (Mem.drop 0 (hx w h)))) (Eq.trans hl_data_8 hl_data_11) h hp ?_
                rintro data_12 s_13 w hl_data_12 h hp
                refine ⟨rfl, ?_⟩
                replace h := h.sel [1, 0] 0
                dsimp only [pickL, pickR, nthH, delH, dropH, List.cons_append, List.nil_append] at h
                obtain ⟨n_4, hn, hp⟩ := hp
                exact ⟨n_4, hn, data_12, s_13, rfl, rfl, rfl, rfl, (Eq.trans (Eq.trans hl_data_8 hl_data_11) hl_data_12), hp, h⟩
              obtain ⟨n_7, hn_n_7, hp⟩ := hp
              refine ih n_7 hn_n_7 (FL := FL) (s := s_12) (fun _ _ _ _ FL2 w R hx => hY4 _ _ _ _ FL2 w R (fun w h => (Mem.drop 0 (hx w h)))) (Eq.trans hl_data_8 hl_data_11) h hp ?_
              rintro data_13 s_14 w hl_data_13 h hp
              refine ⟨rfl, ?_⟩
              replace h := h.sel [1, 0] 0
              dsimp only [pickL, pickR, nthH, delH, dropH, List.cons_append, List.nil_append] at h
              obtain ⟨n_6, hn, hp⟩ := hp
              exact ⟨n_6, hn, data_13, s_14, rfl, rfl, rfl, rfl, (Eq.trans (Eq.trans hl_data_8 hl_data_11) hl_data_13), hp, h⟩
            clear hq
            obtain ⟨Q_5, hq, hp⟩ := hp
            refine ⟨fun data0_6p data0_6l data0_6c a1_6 b2_6 limit3_6 cmp4_6 wasBalanced10_5 wasPartitioned11_5 length12_5 pivot13_4 t97 w => ∃ (s_9 : σ4), p_1 = data0_6p ∧ data.length = data0_6l ∧ c_1 = data0_6c ∧ a1 = a1_6 ∧ b2 = b2_6 ∧ limit3_1 = limit3_6 ∧ (Value.func ff4 fa4 fc4) = cmp4_6 ∧ wasBalanced10 = wasBalanced10_5 ∧ wasPartitioned11 = wasPartitioned11_5 ∧ (IntKind.wrap .i64 (b2 - a1)) = length12_5 ∧ pivot13 = pivot13_4 ∧ Q_5 t97 s_9 ∧ Mem (A4 s_9 :: row enc9 9 1 p_1 c_1 data_8 :: FL) w, ?_, ?_⟩
            · rintro data0_6p data0_6l data0_6c a1_6 b2_6 limit3_6 cmp4_6 wasBalanced10_5 wasPartitioned11_5 length12_5 pivot13_4 t97 w ⟨s_9, rfl, rfl, rfl, rfl, rfl, rfl, rfl, rfl, rfl, rfl, rfl, hp, h⟩
              replace hp := hq t97 s_9 hp
              unfold slices_pdqsortCmpFunc_string_j6
              refine cond_both' hp (fun hp => ?_) (fun hp => ?_)
              · exact ⟨s_9, rfl, rfl, rfl, rfl, rfl, rfl, rfl, rfl, rfl, hp, h⟩
              replace h := h.pick [1, 0]
              dsimp only [pickL, pickR, nthH, delH, dropH, List.cons_append, List.nil_append] at h
              refine slices_partitionEqualCmpFunc_string_ok (FL := FL) (A4 := A4) (Y4 := Y4) (σ4 := σ4) (s := s_9) (fun _ _ _ _ FL2 w R hx => hY4 _ _ _ _ FL2 w R (fun w h => (Mem.drop 0 (hx w h)))) hl_data_8 h hp ?_
              rintro r_3 data_10 s_11 w hl_data_10 h hp
              refine ⟨_, rfl, ?_⟩
              replace h := h.sel [1, 0] 0
              dsimp only [pickL, pickR, nthH, delH, dropH, List.cons_append, List.nil_append] at h
              obtain ⟨n_3, hn, hp⟩ := hp
              exact ⟨n_3, hn, data_10, s_11, rfl, rfl, rfl, rfl, (Eq.trans hl_data_8 hl_data_10), hp, h⟩
            clear hq
            replace h := h.drew
            refine cond_both' hp (fun hp => ?_) (fun hp => ?_)
            · exact ⟨s_6, rfl, rfl, rfl, rfl, rfl, rfl, rfl, rfl, rfl, rfl, rfl, hp, h⟩
            obtain ⟨ia_2, ja_2, hp⟩ := hp
            obtain ⟨a_2, ha_2⟩ := rdAddr (rowRd h 1 encL9 rfl) hl_data_8 ia_2 ja_2
            refine ⟨a_2, ha_2, ia_2, ja_2, ?_⟩
            obtain ⟨x_1, hx_1, hc⟩ := rdCell0 (rowRd h 1 encL9 rfl) ha_2 hl_data_8 ia_2 ja_2
            replace hp := hp x_1 hx_1
            refine ⟨_, hc _ rfl, ?_⟩
            obtain ⟨ia_3, ja_3, hp⟩ := hp
            obtain ⟨a_3, ha_3⟩ := rdAddr (rowRd h 1 encL9 rfl) hl_data_8 ia_3 ja_3
            refine ⟨a_3, ha_3, ia_3, ja_3, ?_⟩
            obtain ⟨x_2, hx_2, hc⟩ := rdCell0 (rowRd h 1 encL9 rfl) ha_3 hl_data_8 ia_3 ja_3
            replace hp := hp x_2 hx_2
            refine ⟨_, hc _ rfl, ?_⟩
            refine hY4 x_1 x_2 _ _ (row enc9 9 1 p_1 c_1 data_8 :: FL) _ _ (fun _ h => Mem.drop 1 h) h hp ?_
            intro t94 s_10 w h hp
            refine ⟨_, rfl, ?_⟩
            exact ⟨s_10, rfl, rfl, rfl, rfl, rfl, rfl, rfl, rfl, rfl, rfl, rfl, hp, h⟩
          clear hq
          obtain ⟨Q_3, hq, hp⟩ := hp
          refine ⟨fun data0_4p data0_4l data0_4c a1_4 b2_4 limit3_4 cmp4_4 wasBalanced10_4 wasPartitioned11_4 length12_3 pivot13_2 t75 w => p_1 = data0_4p ∧ data.length = data0_4l ∧ c_1 = data0_4c ∧ a1 = a1_4 ∧ b2 = b2_4 ∧ limit3_1 = limit3_4 ∧ (Value.func ff4 fa4 fc4) = cmp4_4 ∧ wasBalanced10 = wasBalanced10_4 ∧ wasPartitioned11 = wasPartitioned11_4 ∧ (IntKind.wrap .i64 (b2 - a1)) = length12_3 ∧ pivot13 = pivot13_2 ∧ Q_3 t75 ∧ Mem (A4 s_5 :: row enc9 9 1 p_1 c_1 data_6 :: FL) w, ?_, ?_⟩
          · rintro data0_4p data0_4l data0_4c a1_4 b2_4 limit3_4 cmp4_4 wasBalanced10_4 wasPartitioned11_4 length12_3 pivot13_2 t75 w ⟨rfl, rfl, rfl, rfl, rfl, rfl, rfl, rfl, rfl, rfl, rfl, hp, h⟩
            replace hp := hq t75 hp
            unfold slices_pdqsortCmpFunc_string_j7
            refine cond_both' hp (fun hp => ?_) (fun hp => ?_)
            · exact ⟨data_6, s_5, rfl, rfl, rfl, rfl, rfl, rfl, rfl, rfl, rfl, rfl, rfl, hl_data_6, hp, h⟩
            replace h := h.pick [1, 0]
            dsimp only [pickL, pickR, nthH, delH, dropH, List.cons_append, List.nil_append] at h
            refine slices_partialInsertionSortCmpFunc_string_ok (FL := FL) (A3 := A4) (Y3 := Y4) (σ3 := σ4) (s := s_5) (fun _ _ _ _ FL2 w R hx => hY4 _ _ _ _ FL2 w R (fun w h => (Mem.drop 0 (hx w h)))) hl_data_6 h hp ?_
            rintro r_2 data_9 s_7 w hl_data_9 h hp
            refine ⟨_, rfl, ?_⟩
            refine cond_both hp (fun hp => ?_) (fun hp => ?_)
            · exact hR data_9 s_7 _ (Eq.trans hl_data_6 hl_data_9) h hp
            replace h := h.sel [1, 0] 0
            dsimp only [pickL, pickR, nthH, delH, dropH, List.cons_append, List.nil_append] at h
            exact ⟨data_9, s_7, rfl, rfl, rfl, rfl, rfl, rfl, rfl, rfl, rfl, rfl, rfl, (Eq.trans hl_data_6 hl_data_9), hp, h⟩
          clear hq
          refine cond_both' hp (fun hp => ?_) (fun hp => ?_)
          · exact ⟨rfl, rfl, rfl, rfl, rfl, rfl, rfl, rfl, rfl, rfl, rfl, hp, h⟩
          refine cond_both hp (fun hp => ?_) (fun hp => ?_)
          · exact ⟨rfl, rfl, rfl, rfl, rfl, rfl, rfl, rfl, rfl, rfl, rfl, hp, h⟩
          exact ⟨rfl, rfl, rfl, rfl, rfl, rfl, rfl, rfl, rfl, rfl, rfl, hp, h⟩
        clear hq
        refine cond_both' hp (fun hp => ?_) (fun hp => ?_)
        · exact ⟨data_4, rfl, rfl, rfl, rfl, rfl, rfl, rfl, rfl, rfl, rfl, hl_data_4, hp, h⟩
        replace h := h.pick [1, 0]
        dsimp only [pickL, pickR, nthH, delH, dropH, List.cons_append, List.nil_append] at h
        refine slices_reverseRangeCmpFunc_string_ok (FL := FL) (A3 := A4) (Y3 := Y4) (σ3 := σ4) (s := s_5) (fun _ _ _ _ FL2 w R hx => hY4 _ _ _ _ FL2 w R (fun w h => (Mem.drop 0 (hx w h)))) hl_data_4 h hp ?_
        rintro data_7 w hl_data_7 h hp
        refine ⟨rfl, ?_⟩
        replace h := h.sel [1, 0] 0
        dsimp only [pickL, pickR, nthH, delH, dropH, List.cons_append, List.nil_append] at h
        exact ⟨data_7, rfl, rfl, rfl, rfl, rfl, rfl, rfl, rfl, rfl, rfl, (Eq.trans hl_data_4 hl_data_7), hp, h⟩
      clear hq
      refine cond_both' hp (fun hp => ?_) (fun hp => ?_)
      · exact ⟨data_1, rfl, rfl, rfl, rfl, rfl, rfl, rfl, rfl, rfl, hl_data_1, hp, h⟩
      replace h := h.pick [1, 0]
      dsimp only [pickL, pickR, nthH, delH, dropH, List.cons_append, List.nil_append] at h
      refine slices_breakPatternsCmpFunc_string_ok (FL := FL) (A3 := A4) (Y3 := Y4) (σ3 := σ4) (s := s_2) (fun _ _ _ _ FL2 w R hx => hY4 _ _ _ _ FL2 w R (fun w h => (Mem.drop 0 (hx w h)))) hl_data_1 h hp ?_
      rintro data_5 w hl_data_5 h hp
      refine ⟨rfl, ?_⟩
      replace h := h.sel [1, 0] 0
      dsimp only [pickL, pickR, nthH, delH, dropH, List.cons_append, List.nil_append] at h
      exact ⟨data_5, rfl, rfl, rfl, rfl, rfl, rfl, rfl, rfl, rfl, (Eq.trans hl_data_1 hl_data_5), hp, h⟩
  exact main n0 hY4 hn_p_1 h h0 hR

/-! slices.SortFunc[[]string,string] (28) -/
def slices_SortFunc_sl_string_string_wp {σ1 : Type} (x_1 : List (ByteArray)) (s : σ1) (Y1 : (ByteArray) → (ByteArray) → σ1 → (Int → σ1 → Prop) → Prop) (K : List (ByteArray) → σ1 → Prop) : Prop :=
  math_bits_Len_wp (IntKind.wrap .u64 ((x_1.length : Nat) : Int)) (fun (r : Int) => slices_pdqsortCmpFunc_string_wp x_1 0 ((x_1.length : Nat) : Int) r s Y1 (fun (data : List (ByteArray)) (s_2 : σ1) => K data s_2))
theorem slices_SortFunc_sl_string_string_ok {σ1 : Type} {A1 : σ1 → HP} {p_1 : Option Addr} {c_1 : Nat} {n_1 : Nat} {ff1 : Fn} {fa1 : Array Value} {fc1 : Array Value} {x_1 : List (ByteArray)} {s : σ1} {Y1 : (ByteArray) → (ByteArray) → σ1 → (Int → σ1 → Prop) → Prop} {FL : List HP} {w : World} {K : List (ByteArray) → σ1 → Prop} {R : Value → World → Prop}
  (hY1 : ∀ (x0 : ByteArray) (x1 : ByteArray) (s : σ1) (K : Int → σ1 → Prop) (FL2 : List HP) (w : World) (R : Value → World → Prop), (∀ w, Mem FL2 w → Mem FL w) → Mem (A1 s :: FL2) w → Y1 x0 x1 s K → (∀ (r : Int) (s : σ1) (w : World), Mem (A1 s :: FL2) w → K r s → R (Value.int .i64 r) w) → CalleeV Try.prog (Value.func ff1 fa1 fc1) #[(Value.string x0), (Value.string x1)] w R) (hn_p_1 : n_1 = x_1.length)
  (h : Mem (row enc9 9 1 p_1 c_1 x_1 :: A1 s :: FL) w) (hp : slices_SortFunc_sl_string_string_wp x_1 s Y1 K)
  (hR : ∀ (x_1_1 : List (ByteArray)) (s_1 : σ1) (w : World), x_1.length = x_1_1.length → Mem (row enc9 9 1 p_1 c_1 x_1_1 :: A1 s_1 :: FL) w → K x_1_1 s_1 → R undef w) :
  CallV Try.prog 28 #[(Value.slice p_1 n_1 c_1), (Value.func ff1 fa1 fc1)] w R := by
  refine slices_SortFunc_sl_string_string_call ?_
  unfold slices_SortFunc_sl_string_string
  unfold slices_SortFunc_sl_string_string_wp at hp
  subst hn_p_1
  have cpp_1 := rowCap h 0 rfl
  refine math_bits_Len_ok h hp ?_
  intro r w h hp
  refine ⟨_, rfl, ?_⟩
  refine slices_pdqsortCmpFunc_string_ok (FL := FL) (A4 := A1) (Y4 := Y1) (σ4 := σ1) (s := s) (fun _ _ _ _ FL2 w R hx => hY1 _ _ _ _ FL2 w R (fun w h => (Mem.drop 0 (hx w h)))) rfl h hp ?_
  rintro data s_2 w hl_data h hp
  refine ⟨rfl, ?_⟩
  exact hR data s_2 _ hl_data h hp

/-! slices.SortedFunc[string] (21) -/
def slices_SortedFunc_string_wp {σ1 : Type} (m_1 : List (ByteArray × Int)) (s : σ1) (Y1 : (ByteArray) → (ByteArray) → σ1 → (Int → σ1 → Prop) → Prop) (K : List (ByteArray) → σ1 → Prop) : Prop :=
  slices_Collect_string_wp m_1 (fun (rs : List (ByteArray)) => slices_SortFunc_sl_string_string_wp rs s Y1 (fun (x_1 : List (ByteArray)) (s_2 : σ1) => K x_1 s_2))
theorem slices_SortedFunc_string_ok {σ1 : Type} {A1 : σ1 → HP} {b_1 : Nat} {b_2 : Nat} {p_1 : List MapEntry × Nat} {ff1 : Fn} {fa1 : Array Value} {fc1 : Array Value} {m_1 : List (ByteArray × Int)} {s : σ1} {Y1 : (ByteArray) → (ByteArray) → σ1 → (Int → σ1 → Prop) → Prop} {FL : List HP} {w : World} {K : List (ByteArray) → σ1 → Prop} {R : Value → World → Prop}
  (hY1 : ∀ (x0 : ByteArray) (x1 : ByteArray) (s : σ1) (K : Int → σ1 → Prop) (FL2 : List HP) (w : World) (R : Value → World → Prop), (∀ w, Mem FL2 w → Mem FL w) → Mem (A1 s :: FL2) w → Y1 x0 x1 s K → (∀ (r : Int) (s : σ1) (w : World), Mem (A1 s :: FL2) w → K r s → R (Value.int .i64 r) w) → CalleeV Try.prog (Value.func ff1 fa1 fc1) #[(Value.string x0), (Value.string x1)] w R)
  (hM_m_1 : RoM FL b_2 va9 va3 p_1 m_1)
  (h : Mem (cel b_1 58 [(Value.map (some b_2))] :: A1 s :: FL) w) (hp : slices_SortedFunc_string_wp m_1 s Y1 K)
  (hR : ∀ (rs : List (ByteArray)) (s_1 : σ1) (p_2 : Option Addr) (n_1 : Nat) (c_1 : Nat) (w : World), n_1 = rs.length → Mem (row enc9 9 1 p_2 c_1 rs :: cel b_1 58 [(Value.map (some b_2))] :: A1 s_1 :: FL) w → K rs s_1 → R (Value.slice p_2 n_1 c_1) w) :
  CallV Try.prog 21 #[(Value.func (Fn.func 29) #[] #[(Value.pointer (some (Addr.mk b_1 0 none)))]), (Value.func ff1 fa1 fc1)] w R := by
  refine slices_SortedFunc_string_call ?_
  unfold slices_SortedFunc_string
  unfold slices_SortedFunc_string_wp at hp
  refine slices_Collect_string_ok (FL := A1 s :: FL) (hM_m_1.mono (fun w h => (h.drop 1))) h hp ?_
  rintro rs p_2 n_1 c_1 w rfl h hp
  have cpp_2 := rowCap h 0 rfl
  refine ⟨_, _, _, rfl, ?_⟩
  replace h := h.pick [0, 1]
  dsimp only [pickL, pickR, nthH, delH, dropH, List.cons_append, List.nil_append] at h
  refine slices_SortFunc_sl_string_string_ok (FL := cel b_1 58 [(Value.map (some b_2))] :: FL) (A1 := A1) (Y1 := Y1) (σ1 := σ1) (s := s) (fun _ _ _ _ FL2 w R hx => hY1 _ _ _ _ FL2 w R (fun w h => (Mem.drop 1 (hx w h)))) rfl h hp ?_
  rintro x_1 s_2 w hl_x_1 h hp
  refine ⟨rfl, ?_⟩
  replace h := h.sel [0, 1, 0] 0
  dsimp only [pickL, pickR, nthH, delH, dropH, List.cons_append, List.nil_append] at h
  exact hR x_1 s_2 p_2 rs.length c_1 _ hl_x_1 h hp

/-! (*embrasure/due.Table).Names (11) -/
def due_Table_Names_wp (at_ : List (ByteArray × Int)) (K : List (ByteArray) → Prop) : Prop :=
  maps_Keys_map_string_int_string_int_wp at_ (slices_SortedFunc_string_wp at_ () (fun x_1 x_2 s K_1 => due_Table_before_wp at_ x_1 x_2 (fun (r : Int) => K_1 r s)) (fun (rs : List (ByteArray)) (s_1 : (Unit)) => K rs))
theorem due_Table_Names_ok {b_1 : Nat} {b_2 : Nat} {p_1 : List MapEntry × Nat} {at_ : List (ByteArray × Int)} {FL : List HP} {w : World} {K : List (ByteArray) → Prop} {R : Value → World → Prop}
  (hM_at_ : RoM FL b_2 va9 va3 p_1 at_)
  (h : Mem (cel b_1 60 [(Value.map (some b_2))] :: FL) w) (hp : due_Table_Names_wp at_ K)
  (hR : ∀ (rs : List (ByteArray)) (p_2 : Option Addr) (n_1 : Nat) (c_1 : Nat) (w : World), n_1 = rs.length → Mem (row enc9 9 1 p_2 c_1 rs :: cel b_1 60 [(Value.map (some b_2))] :: FL) w → K rs → R (Value.slice p_2 n_1 c_1) w) :
  CallV Try.prog 11 #[(Value.pointer (some (Addr.mk b_1 0 none)))] w R := by
  refine due_Table_Names_call ?_
  unfold due_Table_Names
  unfold due_Table_Names_wp at hp
  refine ⟨_, rfl, ?_⟩
  refine ⟨_, cellL h 0 0 rfl rfl rfl, ?_⟩
  refine maps_Keys_map_string_int_string_int_ok (FL := cel b_1 60 [(Value.map (some b_2))] :: FL) (hM_at_.mono (fun w h => (h.drop 1))) h hp ?_
  intro b_3 w h hp
  refine ⟨_, _, _, rfl, ?_⟩
  replace h := h.pick [1]
  dsimp only [pickL, pickR, nthH, delH, dropH, List.cons_append, List.nil_append] at h
  replace h : Mem ((fun (_ : Unit) => HL [cel b_1 60 [(Value.map (some b_2))]]) () :: cel b_3 58 [(Value.map (some b_2))] :: FL) _ := h.pack 1 [cel b_1 60 [(Value.map (some b_2))]] rfl
  replace h := h.pick [1, 0]
  dsimp only [pickL, pickR, nthH, delH, dropH, List.cons_append, List.nil_append] at h
  refine slices_SortedFunc_string_ok (FL := FL) (A1 := (fun (_ : Unit) => HL [cel b_1 60 [(Value.map (some b_2))]])) (Y1 := (fun x_1 x_2 s K_1 => due_Table_before_wp at_ x_1 x_2 (fun (r : Int) => K_1 r s))) (σ1 := Unit) (s := ()) ?_ (hM_at_.mono (fun w h => (h.drop 0))) h hp ?_
  · intro x_1 x_2 s K FL2 w R hx h hp hR
    replace h := h.unpack
    dsimp only [pickL, pickR, nthH, delH, dropH, List.cons_append, List.nil_append] at h
    refine calleeFn (by kernel_rfl) ?_
    refine due_Table_before_ok (hM_at_.mono (fun w h_ => (by first | exact hx w h_ | exact Mem.drop 1 (hx w h_) | exact Mem.drop 2 (hx w h_) | exact Mem.drop 3 (hx w h_) | exact Mem.drop 4 (hx w h_) | exact Mem.drop 5 (hx w h_) | exact Mem.drop 6 (hx w h_) | exact Mem.drop 7 (hx w h_) | exact Mem.drop 8 (hx w h_) | exact Mem.drop 9 (hx w h_) | exact Mem.drop 10 (hx w h_) | exact Mem.drop 11 (hx w h_) | exact Mem.drop 12 (hx w h_) | exact Mem.drop 13 (hx w h_)))) h hp ?_
    intro r w h hp
    exact hR r s _ (h.pack 1 [cel b_1 60 [(Value.map (some b_2))]] rfl) hp
  rintro rs s_1 p_2 n_1 c_1 w rfl h hp
  have cpp_2 := rowCap h 0 rfl
  replace h := h.pick [2]
  dsimp only [pickL, pickR, nthH, delH, dropH, List.cons_append, List.nil_append] at h
  replace h := h.unpack
  dsimp only [pickL, pickR, nthH, delH, dropH, List.cons_append, List.nil_append] at h
  refine ⟨_, _, _, rfl, ?_⟩
  replace h := h.sel [1, 0] 1
  dsimp only [pickL, pickR, nthH, delH, dropH, List.cons_append, List.nil_append] at h
  exact hR rs p_2 rs.length c_1 _ rfl h hp

end Go.Proofs.Ytdonkmbhlankiaa
