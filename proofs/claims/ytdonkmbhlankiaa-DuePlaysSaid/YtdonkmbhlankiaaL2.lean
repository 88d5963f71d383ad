/- Each function over plain data (printed by a program of this claim's author). -/
import Derived.Test.YtdonkmbhlankiaaL1
namespace Go.Proofs.Ytdonkmbhlankiaa
open Go Go.Eng Go.Proofs
set_option maxRecDepth 100000
set_option maxHeartbeats 2000000

/-! slices.siftDownCmpFunc[string] (49) -/
def slices_siftDownCmpFunc_string_wp {σ4 : Type} (data : List (ByteArray)) (lo : Int) (hi : Int) (first : Int) (s : σ4) (Y4 : (ByteArray) → (ByteArray) → σ4 → (Int → σ4 → Prop) → Prop) (K : List (ByteArray) → σ4 → Prop) : Prop :=
  ∃ (I : Nat → List (ByteArray) → Int → σ4 → Prop), (∃ (n_4 : Nat), I n_4 data lo s) ∧ ∀ (n_2 : Nat) (data_1 : List (ByteArray)) (root10 : Int) (s_2 : σ4), I n_2 data_1 root10 s_2 → (cond (decide (((IntKind.wrap .i64 ((IntKind.wrap .i64 (2 * root10)) + 1)) : Int) ≥ hi)) (K data_1 s_2) (joinP2 (fun (child11 : Int) (s_3 : σ4) => 0 ≤ ((IntKind.wrap .i64 (first + root10)) : Int) ∧ ((IntKind.wrap .i64 (first + root10)) : Int) < ((data.length : Nat) : Int) ∧ (∀ (x_3 : ByteArray), data_1[Int.toNat (IntKind.wrap .i64 (first + root10))]? = some x_3 → (0 ≤ ((IntKind.wrap .i64 (first + child11)) : Int) ∧ ((IntKind.wrap .i64 (first + child11)) : Int) < ((data.length : Nat) : Int) ∧ (∀ (x_4 : ByteArray), data_1[Int.toNat (IntKind.wrap .i64 (first + child11))]? = some x_4 → (Y4 x_3 x_4 s_3 (fun (t56 : Int) (s_6 : σ4) => cond (!(decide ((t56 : Int) < 0))) (K data_1 s_6) (0 ≤ ((IntKind.wrap .i64 (first + child11)) : Int) ∧ ((IntKind.wrap .i64 (first + child11)) : Int) < ((data.length : Nat) : Int) ∧ (∀ (x_5 : ByteArray), data_1[Int.toNat (IntKind.wrap .i64 (first + child11))]? = some x_5 → (0 ≤ ((IntKind.wrap .i64 (first + root10)) : Int) ∧ ((IntKind.wrap .i64 (first + root10)) : Int) < ((data.length : Nat) : Int) ∧ (∀ (x_6 : ByteArray), data_1[Int.toNat (IntKind.wrap .i64 (first + root10))]? = some x_6 → (0 ≤ ((IntKind.wrap .i64 (first + root10)) : Int) ∧ ((IntKind.wrap .i64 (first + root10)) : Int) < ((data.length : Nat) : Int) ∧ (0 ≤ ((IntKind.wrap .i64 (first + child11)) : Int) ∧ ((IntKind.wrap .i64 (first + child11)) : Int) < ((data.length : Nat) : Int) ∧ (∃ (n_3 : Nat), n_3 < n_2 ∧ I n_3 (List.set (List.set data_1 (Int.toNat (IntKind.wrap .i64 (first + root10))) x_5) (Int.toNat (IntKind.wrap .i64 (first + child11))) x_6) child11 s_6))))))))))))) (fun (Q : Int → σ4 → Prop) => joinP2 (fun (t40 : Bool) (s_4 : σ4) => cond t40 (Q (IntKind.wrap .i64 ((IntKind.wrap .i64 ((IntKind.wrap .i64 (2 * root10)) + 1)) + 1)) s_4) (Q (IntKind.wrap .i64 ((IntKind.wrap .i64 (2 * root10)) + 1)) s_4)) (fun (Q_1 : Bool → σ4 → Prop) => cond (decide (((IntKind.wrap .i64 ((IntKind.wrap .i64 ((IntKind.wrap .i64 (2 * root10)) + 1)) + 1)) : Int) < hi)) (0 ≤ ((IntKind.wrap .i64 (first + (IntKind.wrap .i64 ((IntKind.wrap .i64 (2 * root10)) + 1)))) : Int) ∧ ((IntKind.wrap .i64 (first + (IntKind.wrap .i64 ((IntKind.wrap .i64 (2 * root10)) + 1)))) : Int) < ((data.length : Nat) : Int) ∧ (∀ (x_1 : ByteArray), data_1[Int.toNat (IntKind.wrap .i64 (first + (IntKind.wrap .i64 ((IntKind.wrap .i64 (2 * root10)) + 1))))]? = some x_1 → (0 ≤ ((IntKind.wrap .i64 ((IntKind.wrap .i64 (first + (IntKind.wrap .i64 ((IntKind.wrap .i64 (2 * root10)) + 1)))) + 1)) : Int) ∧ ((IntKind.wrap .i64 ((IntKind.wrap .i64 (first + (IntKind.wrap .i64 ((IntKind.wrap .i64 (2 * root10)) + 1)))) + 1)) : Int) < ((data.length : Nat) : Int) ∧ (∀ (x_2 : ByteArray), data_1[Int.toNat (IntKind.wrap .i64 ((IntKind.wrap .i64 (first + (IntKind.wrap .i64 ((IntKind.wrap .i64 (2 * root10)) + 1)))) + 1))]? = some x_2 → (Y4 x_1 x_2 s_2 (fun (t38 : Int) (s_5 : σ4) => Q_1 (decide ((t38 : Int) < 0)) s_5)))))) (Q_1 false s_2)))))
theorem slices_siftDownCmpFunc_string_ok {σ4 : Type} {A4 : σ4 → HP} {p_1 : Option Addr} {c_1 : Nat} {n_1 : Nat} {ff4 : Fn} {fa4 : Array Value} {fc4 : Array Value} {data : List (ByteArray)} {lo : Int} {hi : Int} {first : Int} {s : σ4} {Y4 : (ByteArray) → (ByteArray) → σ4 → (Int → σ4 → Prop) → Prop} {FL : List HP} {w : World} {K : List (ByteArray) → σ4 → Prop} {R : Value → World → Prop}
  (hY4 : ∀ (x0 : ByteArray) (x1 : ByteArray) (s : σ4) (K : Int → σ4 → Prop) (FL2 : List HP) (w : World) (R : Value → World → Prop), (∀ w, Mem FL2 w → Mem FL w) → Mem (A4 s :: FL2) w → Y4 x0 x1 s K → (∀ (r : Int) (s : σ4) (w : World), Mem (A4 s :: FL2) w → K r s → R (Value.int .i64 r) w) → CalleeV Try.prog (Value.func ff4 fa4 fc4) #[(Value.string x0), (Value.string x1)] w R) (hn_p_1 : n_1 = data.length)
  (h : Mem (row enc9 9 1 p_1 c_1 data :: A4 s :: FL) w) (hp : slices_siftDownCmpFunc_string_wp data lo hi first s Y4 K)
  (hR : ∀ (data_1 : List (ByteArray)) (s_1 : σ4) (w : World), data.length = data_1.length → Mem (row enc9 9 1 p_1 c_1 data_1 :: A4 s_1 :: FL) w → K data_1 s_1 → R undef w) :
  CallV Try.prog 49 #[(Value.slice p_1 n_1 c_1), (Value.int .i64 lo), (Value.int .i64 hi), (Value.int .i64 first), (Value.func ff4 fa4 fc4)] w R := by
  refine slices_siftDownCmpFunc_string_call ?_
  unfold slices_siftDownCmpFunc_string
  unfold slices_siftDownCmpFunc_string_wp at hp
  subst hn_p_1
  have cpp_1 := rowCap h 0 rfl
  obtain ⟨I, ⟨n_4, h0⟩, hq⟩ := hp
  replace h := h.sel [1, 0] 0
  dsimp only [pickL, pickR, nthH, delH, dropH, List.cons_append, List.nil_append] at h
  refine ⟨fun n_2 data0p data0l data0c hi2 first3 cmp4 root10 w => ∃ (data_1 : List (ByteArray)), ∃ (s_2 : σ4), p_1 = data0p ∧ data.length = data0l ∧ c_1 = data0c ∧ hi = hi2 ∧ first = first3 ∧ (Value.func ff4 fa4 fc4) = cmp4 ∧ data.length = data_1.length ∧ I n_2 data_1 root10 s_2 ∧ Mem (A4 s_2 :: row enc9 9 1 p_1 c_1 data_1 :: FL) w, ⟨n_4, data, s, rfl, rfl, rfl, rfl, rfl, rfl, rfl, h0, h⟩, ?_⟩
  clear h0 h
  rintro n_2 data0p data0l data0c hi2 first3 cmp4 root10 w ⟨data_1, s_2, rfl, rfl, rfl, rfl, rfl, rfl, hl_data_1, hp, h⟩
  replace hp := hq n_2 data_1 root10 s_2 hp
  clear hq
  unfold slices_siftDownCmpFunc_string_l1
  refine cond_both hp (fun hp => ?_) (fun hp => ?_)
  · replace h := h.sel [1, 0] 0
    dsimp only [pickL, pickR, nthH, delH, dropH, List.cons_append, List.nil_append] at h
    exact hR data_1 s_2 _ hl_data_1 h hp
  obtain ⟨Q, hq, hp⟩ := hp
  refine ⟨fun data0_1p data0_1l data0_1c hi2_1 first3_1 cmp4_1 root10_1 child11 w => ∃ (s_3 : σ4), p_1 = data0_1p ∧ data.length = data0_1l ∧ c_1 = data0_1c ∧ hi = hi2_1 ∧ first = first3_1 ∧ (Value.func ff4 fa4 fc4) = cmp4_1 ∧ root10 = root10_1 ∧ Q child11 s_3 ∧ Mem (A4 s_3 :: row enc9 9 1 p_1 c_1 data_1 :: FL) w, ?_, ?_⟩
  · rintro data0_1p data0_1l data0_1c hi2_1 first3_1 cmp4_1 root10_1 child11 w ⟨s_3, rfl, rfl, rfl, rfl, rfl, rfl, rfl, hp, h⟩
    replace hp := hq child11 s_3 hp
    unfold slices_siftDownCmpFunc_string_j2
    replace h := h.drew
    obtain ⟨ia_3, ja_3, hp⟩ := hp
    obtain ⟨a_3, ha_3⟩ := rdAddr (rowRd h 1 encL9 rfl) hl_data_1 ia_3 ja_3
    refine ⟨a_3, ha_3, ia_3, ja_3, ?_⟩
    obtain ⟨x_3, hx_3, hc⟩ := rdCell0 (rowRd h 1 encL9 rfl) ha_3 hl_data_1 ia_3 ja_3
    replace hp := hp x_3 hx_3
    refine ⟨_, hc _ rfl, ?_⟩
    obtain ⟨ia_4, ja_4, hp⟩ := hp
    obtain ⟨a_4, ha_4⟩ := rdAddr (rowRd h 1 encL9 rfl) hl_data_1 ia_4 ja_4
    refine ⟨a_4, ha_4, ia_4, ja_4, ?_⟩
    obtain ⟨x_4, hx_4, hc⟩ := rdCell0 (rowRd h 1 encL9 rfl) ha_4 hl_data_1 ia_4 ja_4
    replace hp := hp x_4 hx_4
    refine ⟨_, hc _ rfl, ?_⟩
    refine hY4 x_3 x_4 _ _ (row enc9 9 1 p_1 c_1 data_1 :: FL) _ _ (fun _ h => Mem.drop 1 h) h hp ?_
    intro t56 s_6 w h hp
    refine ⟨_, rfl, ?_⟩
    refine cond_both hp (fun hp => ?_) (fun hp => ?_)
    · replace h := h.sel [1, 0] 0
      dsimp only [pickL, pickR, nthH, delH, dropH, List.cons_append, List.nil_append] at h
      exact hR data_1 s_6 _ hl_data_1 h hp
    replace h := h.drew
    obtain ⟨ia_5, ja_5, hp⟩ := hp
    obtain ⟨a_5, ha_5⟩ := rdAddr (rowRd h 1 encL9 rfl) hl_data_1 ia_5 ja_5
    refine ⟨a_5, ha_5, ia_5, ja_5, ?_⟩
    obtain ⟨x_5, hx_5, hc⟩ := rdCell0 (rowRd h 1 encL9 rfl) ha_5 hl_data_1 ia_5 ja_5
    replace hp := hp x_5 hx_5
    refine ⟨_, hc _ rfl, ?_⟩
    obtain ⟨ia_6, ja_6, hp⟩ := hp
    obtain ⟨a_6, ha_6⟩ := rdAddr (rowRd h 1 encL9 rfl) hl_data_1 ia_6 ja_6
    refine ⟨a_6, ha_6, ia_6, ja_6, ?_⟩
    obtain ⟨x_6, hx_6, hc⟩ := rdCell0 (rowRd h 1 encL9 rfl) ha_6 hl_data_1 ia_6 ja_6
    replace hp := hp x_6 hx_6
    refine ⟨_, hc _ rfl, ?_⟩
    obtain ⟨ia_7, ja_7, hp⟩ := hp
    obtain ⟨a_7, ha_7⟩ := rdAddr (rowRd h 1 encL9 rfl) hl_data_1 ia_7 ja_7
    refine ⟨a_7, ha_7, ia_7, ja_7, ?_⟩
    refine rowSetW (ys := [(Value.string x_5)]) (x := x_5) h 1 encL9 rfl ha_7 hl_data_1 ia_7 ja_7 sz9 rfl rfl rfl ?_
    intro w h
    dsimp only [setH, setVs, setV] at h
    obtain ⟨ia_8, ja_8, hp⟩ := hp
    obtain ⟨a_8, ha_8⟩ := rdAddr (rowRd h 1 encL9 rfl) (lenSet hl_data_1) ia_8 ja_8
    refine ⟨a_8, ha_8, ia_8, ja_8, ?_⟩
    refine rowSetW (ys := [(Value.string x_6)]) (x := x_6) h 1 encL9 rfl ha_8 (lenSet hl_data_1) ia_8 ja_8 sz9 rfl rfl rfl ?_
    intro w h
    dsimp only [setH, setVs, setV] at h
    obtain ⟨n_3, hn, hp⟩ := hp
    exact ⟨n_3, hn, (List.set (List.set data_1 (Int.toNat (IntKind.wrap .i64 (first + root10))) x_5) (Int.toNat (IntKind.wrap .i64 (first + child11))) x_6), s_6, rfl, rfl, rfl, rfl, rfl, rfl, (lenSet (lenSet hl_data_1)), hp, h⟩
  clear hq
  obtain ⟨Q_1, hq, hp⟩ := hp
  refine ⟨fun data0_2p data0_2l data0_2c hi2_2 first3_2 cmp4_2 root10_2 child11_1 t40 w => ∃ (s_4 : σ4), p_1 = data0_2p ∧ data.length = data0_2l ∧ c_1 = data0_2c ∧ hi = hi2_2 ∧ first = first3_2 ∧ (Value.func ff4 fa4 fc4) = cmp4_2 ∧ root10 = root10_2 ∧ (IntKind.wrap .i64 ((IntKind.wrap .i64 (2 * root10)) + 1)) = child11_1 ∧ Q_1 t40 s_4 ∧ Mem (A4 s_4 :: row enc9 9 1 p_1 c_1 data_1 :: FL) w, ?_, ?_⟩
  · rintro data0_2p data0_2l data0_2c hi2_2 first3_2 cmp4_2 root10_2 child11_1 t40 w ⟨s_4, rfl, rfl, rfl, rfl, rfl, rfl, rfl, rfl, hp, h⟩
    replace hp := hq t40 s_4 hp
    unfold slices_siftDownCmpFunc_string_j3
    refine cond_both hp (fun hp => ?_) (fun hp => ?_)
    · exact ⟨s_4, rfl, rfl, rfl, rfl, rfl, rfl, rfl, hp, h⟩
    exact ⟨s_4, rfl, rfl, rfl, rfl, rfl, rfl, rfl, hp, h⟩
  clear hq
  replace h := h.drew
  refine cond_both' hp (fun hp => ?_) (fun hp => ?_)
  · exact ⟨s_2, rfl, rfl, rfl, rfl, rfl, rfl, rfl, rfl, hp, h⟩
  obtain ⟨ia_1, ja_1, hp⟩ := hp
  obtain ⟨a_1, ha_1⟩ := rdAddr (rowRd h 1 encL9 rfl) hl_data_1 ia_1 ja_1
  refine ⟨a_1, ha_1, ia_1, ja_1, ?_⟩
  obtain ⟨x_1, hx_1, hc⟩ := rdCell0 (rowRd h 1 encL9 rfl) ha_1 hl_data_1 ia_1 ja_1
  replace hp := hp x_1 hx_1
  refine ⟨_, hc _ rfl, ?_⟩
  obtain ⟨ia_2, ja_2, hp⟩ := hp
  obtain ⟨a_2, ha_2⟩ := rdAddr (rowRd h 1 encL9 rfl) hl_data_1 ia_2 ja_2
  refine ⟨a_2, ha_2, ia_2, ja_2, ?_⟩
  obtain ⟨x_2, hx_2, hc⟩ := rdCell0 (rowRd h 1 encL9 rfl) ha_2 hl_data_1 ia_2 ja_2
  replace hp := hp x_2 hx_2
  refine ⟨_, hc _ rfl, ?_⟩
  refine hY4 x_1 x_2 _ _ (row enc9 9 1 p_1 c_1 data_1 :: FL) _ _ (fun _ h => Mem.drop 1 h) h hp ?_
  intro t38 s_5 w h hp
  refine ⟨_, rfl, ?_⟩
  exact ⟨s_5, rfl, rfl, rfl, rfl, rfl, rfl, rfl, rfl, hp, h⟩

/-! slices.heapSortCmpFunc[string] (39) -/
def slices_heapSortCmpFunc_string_wp {σ3 : Type} (data : List (ByteArray)) (a_1 : Int) (b_1 : Int) (s : σ3) (Y3 : (ByteArray) → (ByteArray) → σ3 → (Int → σ3 → Prop) → Prop) (K : List (ByteArray) → σ3 → Prop) : Prop :=
  joinP2 (fun (data_1 : List (ByteArray)) (s_2 : σ3) => ∃ (I_1 : Nat → List (ByteArray) → Int → σ3 → Prop), (∃ (n_7 : Nat), I_1 n_7 data_1 (IntKind.wrap .i64 ((IntKind.wrap .i64 (b_1 - a_1)) - 1)) s_2) ∧ ∀ (n_5 : Nat) (data_4 : List (ByteArray)) (i12 : Int) (s_5 : σ3), I_1 n_5 data_4 i12 s_5 → (cond (decide ((i12 : Int) ≥ 0)) (0 ≤ ((IntKind.wrap .i64 (a_1 + i12)) : Int) ∧ ((IntKind.wrap .i64 (a_1 + i12)) : Int) < ((data.length : Nat) : Int) ∧ (∀ (x_1 : ByteArray), data_4[Int.toNat (IntKind.wrap .i64 (a_1 + i12))]? = some x_1 → (0 ≤ (a_1 : Int) ∧ (a_1 : Int) < ((data.length : Nat) : Int) ∧ (∀ (x_2 : ByteArray), data_4[Int.toNat a_1]? = some x_2 → (0 ≤ (a_1 : Int) ∧ (a_1 : Int) < ((data.length : Nat) : Int) ∧ (0 ≤ ((IntKind.wrap .i64 (a_1 + i12)) : Int) ∧ ((IntKind.wrap .i64 (a_1 + i12)) : Int) < ((data.length : Nat) : Int) ∧ (slices_siftDownCmpFunc_string_wp (List.set (List.set data_4 (Int.toNat a_1) x_1) (Int.toNat (IntKind.wrap .i64 (a_1 + i12))) x_2) 0 i12 a_1 s_5 Y3 (fun (data_5 : List (ByteArray)) (s_6 : σ3) => ∃ (n_6 : Nat), n_6 < n_5 ∧ I_1 n_6 data_5 (IntKind.wrap .i64 (i12 - 1)) s_6)))))))) (K data_4 s_5))) (fun (Q : List (ByteArray) → σ3 → Prop) => ∃ (I : Nat → List (ByteArray) → Int → σ3 → Prop), (∃ (n_4 : Nat), I n_4 data (IntKind.wrap .i64 (Int.tdiv (IntKind.wrap .i64 ((IntKind.wrap .i64 (b_1 - a_1)) - 1)) 2)) s) ∧ ∀ (n_2 : Nat) (data_2 : List (ByteArray)) (i11 : Int) (s_3 : σ3), I n_2 data_2 i11 s_3 → (cond (decide ((i11 : Int) ≥ 0)) (slices_siftDownCmpFunc_string_wp data_2 i11 (IntKind.wrap .i64 (b_1 - a_1)) a_1 s_3 Y3 (fun (data_3 : List (ByteArray)) (s_4 : σ3) => ∃ (n_3 : Nat), n_3 < n_2 ∧ I n_3 data_3 (IntKind.wrap .i64 (i11 - 1)) s_4)) (Q data_2 s_3)))
theorem slices_heapSortCmpFunc_string_ok {σ3 : Type} {A3 : σ3 → HP} {p_1 : Option Addr} {c_1 : Nat} {n_1 : Nat} {ff3 : Fn} {fa3 : Array Value} {fc3 : Array Value} {data : List (ByteArray)} {a_1 : Int} {b_1 : Int} {s : σ3} {Y3 : (ByteArray) → (ByteArray) → σ3 → (Int → σ3 → Prop) → Prop} {FL : List HP} {w : World} {K : List (ByteArray) → σ3 → Prop} {R : Value → World → Prop}
  (hY3 : ∀ (x0 : ByteArray) (x1 : ByteArray) (s : σ3) (K : Int → σ3 → Prop) (FL2 : List HP) (w : World) (R : Value → World → Prop), (∀ w, Mem FL2 w → Mem FL w) → Mem (A3 s :: FL2) w → Y3 x0 x1 s K → (∀ (r : Int) (s : σ3) (w : World), Mem (A3 s :: FL2) w → K r s → R (Value.int .i64 r) w) → CalleeV Try.prog (Value.func ff3 fa3 fc3) #[(Value.string x0), (Value.string x1)] w R) (hn_p_1 : n_1 = data.length)
  (h : Mem (row enc9 9 1 p_1 c_1 data :: A3 s :: FL) w) (hp : slices_heapSortCmpFunc_string_wp data a_1 b_1 s Y3 K)
  (hR : ∀ (data_1 : List (ByteArray)) (s_1 : σ3) (w : World), data.length = data_1.length → Mem (row enc9 9 1 p_1 c_1 data_1 :: A3 s_1 :: FL) w → K data_1 s_1 → R undef w) :
  CallV Try.prog 39 #[(Value.slice p_1 n_1 c_1), (Value.int .i64 a_1), (Value.int .i64 b_1), (Value.func ff3 fa3 fc3)] w R := by
  refine slices_heapSortCmpFunc_string_call ?_
  unfold slices_heapSortCmpFunc_string
  unfold slices_heapSortCmpFunc_string_wp at hp
  subst hn_p_1
  have cpp_1 := rowCap h 0 rfl
  obtain ⟨Q, hq, hp⟩ := hp
  refine ⟨fun data0p data0l data0c cmp3 first8 lo9 hi10 w => ∃ (data_1 : List (ByteArray)), ∃ (s_2 : σ3), p_1 = data0p ∧ data.length = data0l ∧ c_1 = data0c ∧ (Value.func ff3 fa3 fc3) = cmp3 ∧ a_1 = first8 ∧ 0 = lo9 ∧ (IntKind.wrap .i64 (b_1 - a_1)) = hi10 ∧ data.length = data_1.length ∧ Q data_1 s_2 ∧ Mem (A3 s_2 :: row enc9 9 1 p_1 c_1 data_1 :: FL) w, ?_, ?_⟩
  · rintro data0p data0l data0c cmp3 first8 lo9 hi10 w ⟨data_1, s_2, rfl, rfl, rfl, rfl, rfl, rfl, rfl, hl_data_1, hp, h⟩
    replace hp := hq data_1 s_2 hp
    unfold slices_heapSortCmpFunc_string_j1
    obtain ⟨I_1, ⟨n_7, h0⟩, hq⟩ := hp
    refine ⟨fun n_5 data0_2p data0_2l data0_2c cmp3_2 first8_2 lo9_2 i12 w => ∃ (data_4 : List (ByteArray)), ∃ (s_5 : σ3), p_1 = data0_2p ∧ data.length = data0_2l ∧ c_1 = data0_2c ∧ (Value.func ff3 fa3 fc3) = cmp3_2 ∧ a_1 = first8_2 ∧ 0 = lo9_2 ∧ data.length = data_4.length ∧ I_1 n_5 data_4 i12 s_5 ∧ Mem (A3 s_5 :: row enc9 9 1 p_1 c_1 data_4 :: FL) w, ⟨n_7, data_1, s_2, rfl, rfl, rfl, rfl, rfl, rfl, hl_data_1, h0, h⟩, ?_⟩
    clear h0 h
    rintro n_5 data0_2p data0_2l data0_2c cmp3_2 first8_2 lo9_2 i12 w ⟨data_4, s_5, rfl, rfl, rfl, rfl, rfl, rfl, hl_data_4, hp, h⟩
    replace hp := hq n_5 data_4 i12 s_5 hp
    clear hq
    unfold slices_heapSortCmpFunc_string_l2
    refine cond_both' hp (fun hp => ?_) (fun hp => ?_)
    · replace h := h.sel [1, 0] 0
      dsimp only [pickL, pickR, nthH, delH, dropH, List.cons_append, List.nil_append] at h
      exact hR data_4 s_5 _ hl_data_4 h hp
    replace h := h.drew
    obtain ⟨ia_2, ja_2, hp⟩ := hp
    obtain ⟨a_2, ha_2⟩ := rdAddr (rowRd h 1 encL9 rfl) hl_data_4 ia_2 ja_2
    refine ⟨a_2, ha_2, ia_2, ja_2, ?_⟩
    obtain ⟨x_1, hx_1, hc⟩ := rdCell0 (rowRd h 1 encL9 rfl) ha_2 hl_data_4 ia_2 ja_2
    replace hp := hp x_1 hx_1
    refine ⟨_, hc _ rfl, ?_⟩
    obtain ⟨ia_3, ja_3, hp⟩ := hp
    obtain ⟨a_3, ha_3⟩ := rdAddr (rowRd h 1 encL9 rfl) hl_data_4 ia_3 ja_3
    refine ⟨a_3, ha_3, ia_3, ja_3, ?_⟩
    obtain ⟨x_2, hx_2, hc⟩ := rdCell0 (rowRd h 1 encL9 rfl) ha_3 hl_data_4 ia_3 ja_3
    replace hp := hp x_2 hx_2
    refine ⟨_, hc _ rfl, ?_⟩
    obtain ⟨ia_4, ja_4, hp⟩ := hp
    obtain ⟨a_4, ha_4⟩ := rdAddr (rowRd h 1 encL9 rfl) hl_data_4 ia_4 ja_4
    refine ⟨a_4, ha_4, ia_4, ja_4, ?_⟩
    refine rowSetW (ys := [(Value.string x_1)]) (x := x_1) h 1 encL9 rfl ha_4 hl_data_4 ia_4 ja_4 sz9 rfl rfl rfl ?_
    intro w h
    dsimp only [setH, setVs, setV] at h
    obtain ⟨ia_5, ja_5, hp⟩ := hp
    obtain ⟨a_5, ha_5⟩ := rdAddr (rowRd h 1 encL9 rfl) (lenSet hl_data_4) ia_5 ja_5
    refine ⟨a_5, ha_5, ia_5, ja_5, ?_⟩
    refine rowSetW (ys := [(Value.string x_2)]) (x := x_2) h 1 encL9 rfl ha_5 (lenSet hl_data_4) ia_5 ja_5 sz9 rfl rfl rfl ?_
    intro w h
    dsimp only [setH, setVs, setV] at h
    replace h := h.pick [1, 0]
    dsimp only [pickL, pickR, nthH, delH, dropH, List.cons_append, List.nil_append] at h
    refine slices_siftDownCmpFunc_string_ok (FL := FL) (A4 := A3) (Y4 := Y3) (σ4 := σ3) (s := s_5) (fun _ _ _ _ FL2 w R hx => hY3 _ _ _ _ FL2 w R (fun w h => (Mem.drop 0 (hx w h)))) (lenSet (lenSet hl_data_4)) h hp ?_
    rintro data_5 s_6 w hl_data_5 h hp
    refine ⟨rfl, ?_⟩
    replace h := h.sel [1, 0] 0
    dsimp only [pickL, pickR, nthH, delH, dropH, List.cons_append, List.nil_append] at h
    obtain ⟨n_6, hn, hp⟩ := hp
    exact ⟨n_6, hn, data_5, s_6, rfl, rfl, rfl, rfl, rfl, rfl, (Eq.trans (lenSet (lenSet hl_data_4)) hl_data_5), hp, h⟩
  clear hq
  refine ⟨by decide, ?_⟩
  obtain ⟨I, ⟨n_4, h0⟩, hq⟩ := hp
  replace h := h.sel [1, 0] 0
  dsimp only [pickL, pickR, nthH, delH, dropH, List.cons_append, List.nil_append] at h
  refine ⟨fun n_2 data0_1p data0_1l data0_1c cmp3_1 first8_1 lo9_1 hi10_1 i11 w => ∃ (data_2 : List (ByteArray)), ∃ (s_3 : σ3), p_1 = data0_1p ∧ data.length = data0_1l ∧ c_1 = data0_1c ∧ (Value.func ff3 fa3 fc3) = cmp3_1 ∧ a_1 = first8_1 ∧ 0 = lo9_1 ∧ (IntKind.wrap .i64 (b_1 - a_1)) = hi10_1 ∧ data.length = data_2.length ∧ I n_2 data_2 i11 s_3 ∧ Mem (A3 s_3 :: row enc9 9 1 p_1 c_1 data_2 :: FL) w, ⟨n_4, data, s, rfl, rfl, rfl, rfl, rfl, rfl, rfl, rfl, h0, h⟩, ?_⟩
  clear h0 h
  rintro n_2 data0_1p data0_1l data0_1c cmp3_1 first8_1 lo9_1 hi10_1 i11 w ⟨data_2, s_3, rfl, rfl, rfl, rfl, rfl, rfl, rfl, hl_data_2, hp, h⟩
  replace hp := hq n_2 data_2 i11 s_3 hp
  clear hq
  unfold slices_heapSortCmpFunc_string_l3
  refine cond_both' hp (fun hp => ?_) (fun hp => ?_)
  · exact ⟨data_2, s_3, rfl, rfl, rfl, rfl, rfl, rfl, rfl, hl_data_2, hp, h⟩
  replace h := h.pick [1, 0]
  dsimp only [pickL, pickR, nthH, delH, dropH, List.cons_append, List.nil_append] at h
  refine slices_siftDownCmpFunc_string_ok (FL := FL) (A4 := A3) (Y4 := Y3) (σ4 := σ3) (s := s_3) (fun _ _ _ _ FL2 w R hx => hY3 _ _ _ _ FL2 w R (fun w h => (Mem.drop 0 (hx w h)))) hl_data_2 h hp ?_
  rintro data_3 s_4 w hl_data_3 h hp
  refine ⟨rfl, ?_⟩
  replace h := h.sel [1, 0] 0
  dsimp only [pickL, pickR, nthH, delH, dropH, List.cons_append, List.nil_append] at h
  obtain ⟨n_3, hn, hp⟩ := hp
  exact ⟨n_3, hn, data_3, s_4, rfl, rfl, rfl, rfl, rfl, rfl, rfl, (Eq.trans hl_data_2 hl_data_3), hp, h⟩

/-! slices.nextPowerOfTwo (50) -/
def slices_nextPowerOfTwo_wp (length : Int) (K : Int → Prop) : Prop :=
  math_bits_Len_wp (IntKind.wrap .u64 length) (fun (r : Int) => 0 ≤ (r : Int) ∧ (K (IntKind.wrap .u64 (1 * 2 ^ (min (Int.toNat r) (IntKind.bits .u64))))))
theorem slices_nextPowerOfTwo_ok {length : Int} {FL : List HP} {w : World} {K : Int → Prop} {R : Value → World → Prop}
  (h : Mem (FL) w) (hp : slices_nextPowerOfTwo_wp length K)
  (hR : ∀ (r : Int) (w : World), Mem (FL) w → K r → R (Value.int .u64 r) w) :
  CallV Try.prog 50 #[(Value.int .i64 length)] w R := by
  refine slices_nextPowerOfTwo_call ?_
  unfold slices_nextPowerOfTwo
  unfold slices_nextPowerOfTwo_wp at hp
  refine math_bits_Len_ok h hp ?_
  intro r w h hp
  refine ⟨_, rfl, ?_⟩
  refine ⟨hp.1, ?_⟩
  replace hp := hp.2
  exact hR (IntKind.wrap .u64 (1 * 2 ^ (min (Int.toNat r) (IntKind.bits .u64)))) _ h hp

/-! (*slices.xorshift).Next (51) -/
def slices_xorshift_Next_wp (r : Int) (K : Int → Int → Prop) : Prop :=
  K (bitsV .xor .u64 (bitsV .xor .u64 (bitsV .xor .u64 r (IntKind.wrap .u64 (r * 2 ^ (min (Int.toNat 13) (IntKind.bits .u64))))) (Int.fdiv (bitsV .xor .u64 r (IntKind.wrap .u64 (r * 2 ^ (min (Int.toNat 13) (IntKind.bits .u64))))) (2 ^ (min (Int.toNat 7) (IntKind.bits .u64))))) (IntKind.wrap .u64 ((bitsV .xor .u64 (bitsV .xor .u64 r (IntKind.wrap .u64 (r * 2 ^ (min (Int.toNat 13) (IntKind.bits .u64))))) (Int.fdiv (bitsV .xor .u64 r (IntKind.wrap .u64 (r * 2 ^ (min (Int.toNat 13) (IntKind.bits .u64))))) (2 ^ (min (Int.toNat 7) (IntKind.bits .u64))))) * 2 ^ (min (Int.toNat 17) (IntKind.bits .u64))))) (bitsV .xor .u64 (bitsV .xor .u64 (bitsV .xor .u64 r (IntKind.wrap .u64 (r * 2 ^ (min (Int.toNat 13) (IntKind.bits .u64))))) (Int.fdiv (bitsV .xor .u64 r (IntKind.wrap .u64 (r * 2 ^ (min (Int.toNat 13) (IntKind.bits .u64))))) (2 ^ (min (Int.toNat 7) (IntKind.bits .u64))))) (IntKind.wrap .u64 ((bitsV .xor .u64 (bitsV .xor .u64 r (IntKind.wrap .u64 (r * 2 ^ (min (Int.toNat 13) (IntKind.bits .u64))))) (Int.fdiv (bitsV .xor .u64 r (IntKind.wrap .u64 (r * 2 ^ (min (Int.toNat 13) (IntKind.bits .u64))))) (2 ^ (min (Int.toNat 7) (IntKind.bits .u64))))) * 2 ^ (min (Int.toNat 17) (IntKind.bits .u64)))))
theorem slices_xorshift_Next_ok {b_1 : Nat} {r : Int} {FL : List HP} {w : World} {K : Int → Int → Prop} {R : Value → World → Prop}
  (h : Mem (cel b_1 90 [(Value.int .u64 r)] :: FL) w) (hp : slices_xorshift_Next_wp r K)
  (hR : ∀ (r_1 : Int) (x_1 : Int) (w : World), Mem (cel b_1 90 [(Value.int .u64 x_1)] :: FL) w → K r_1 x_1 → R (Value.int .u64 r_1) w) :
  CallV Try.prog 51 #[(Value.pointer (some (Addr.mk b_1 0 none)))] w R := by
  refine slices_xorshift_Next_call ?_
  unfold slices_xorshift_Next
  unfold slices_xorshift_Next_wp at hp
  replace h := h.drew
  refine ⟨_, rfl, ?_⟩
  refine ⟨_, cellL h 0 0 rfl rfl rfl, ?_⟩
  refine ⟨_, rfl, ?_⟩
  refine ⟨_, cellL h 0 0 rfl rfl rfl, ?_⟩
  refine ⟨by decide, ?_⟩
  refine ⟨_, rfl, ?_⟩
  refine storeL (ys := [(Value.int .u64 (bitsV .xor .u64 r (IntKind.wrap .u64 (r * 2 ^ (min (Int.toNat 13) (IntKind.bits .u64))))))]) h 0 0 rfl rfl rfl sz90 rfl rfl ?_
  intro w h
  dsimp only [setH, setVs, setV] at h
  replace h := h.drew
  refine ⟨_, rfl, ?_⟩
  refine ⟨_, cellL h 0 0 rfl rfl rfl, ?_⟩
  refine ⟨_, rfl, ?_⟩
  refine ⟨_, cellL h 0 0 rfl rfl rfl, ?_⟩
  refine ⟨by decide, ?_⟩
  refine ⟨_, rfl, ?_⟩
  refine storeL (ys := [(Value.int .u64 (bitsV .xor .u64 (bitsV .xor .u64 r (IntKind.wrap .u64 (r * 2 ^ (min (Int.toNat 13) (IntKind.bits .u64))))) (Int.fdiv (bitsV .xor .u64 r (IntKind.wrap .u64 (r * 2 ^ (min (Int.toNat 13) (IntKind.bits .u64))))) (2 ^ (min (Int.toNat 7) (IntKind.bits .u64))))))]) h 0 0 rfl rfl rfl sz90 rfl rfl ?_
  intro w h
  dsimp only [setH, setVs, setV] at h
  replace h := h.drew
  refine ⟨_, rfl, ?_⟩
  refine ⟨_, cellL h 0 0 rfl rfl rfl, ?_⟩
  refine ⟨_, rfl, ?_⟩
  refine ⟨_, cellL h 0 0 rfl rfl rfl, ?_⟩
  refine ⟨by decide, ?_⟩
  refine ⟨_, rfl, ?_⟩
  refine storeL (ys := [(Value.int .u64 (bitsV .xor .u64 (bitsV .xor .u64 (bitsV .xor .u64 r (IntKind.wrap .u64 (r * 2 ^ (min (Int.toNat 13) (IntKind.bits .u64))))) (Int.fdiv (bitsV .xor .u64 r (IntKind.wrap .u64 (r * 2 ^ (min (Int.toNat 13) (IntKind.bits .u64))))) (2 ^ (min (Int.toNat 7) (IntKind.bits .u64))))) (IntKind.wrap .u64 ((bitsV .xor .u64 (bitsV .xor .u64 r (IntKind.wrap .u64 (r * 2 ^ (min (Int.toNat 13) (IntKind.bits .u64))))) (Int.fdiv (bitsV .xor .u64 r (IntKind.wrap .u64 (r * 2 ^ (min (Int.toNat 13) (IntKind.bits .u64))))) (2 ^ (min (Int.toNat 7) (IntKind.bits .u64))))) * 2 ^ (min (Int.toNat 17) (IntKind.bits .u64))))))]) h 0 0 rfl rfl rfl sz90 rfl rfl ?_
  intro w h
  dsimp only [setH, setVs, setV] at h
  refine ⟨_, rfl, ?_⟩
  refine ⟨_, cellL h 0 0 rfl rfl rfl, ?_⟩
  exact hR (bitsV .xor .u64 (bitsV .xor .u64 (bitsV .xor .u64 r (IntKind.wrap .u64 (r * 2 ^ (min (Int.toNat 13) (IntKind.bits .u64))))) (Int.fdiv (bitsV .xor .u64 r (IntKind.wrap .u64 (r * 2 ^ (min (Int.toNat 13) (IntKind.bits .u64))))) (2 ^ (min (Int.toNat 7) (IntKind.bits .u64))))) (IntKind.wrap .u64 ((bitsV .xor .u64 (bitsV .xor .u64 r (IntKind.wrap .u64 (r * 2 ^ (min (Int.toNat 13) (IntKind.bits .u64))))) (Int.fdiv (bitsV .xor .u64 r (IntKind.wrap .u64 (r * 2 ^ (min (Int.toNat 13) (IntKind.bits .u64))))) (2 ^ (min (Int.toNat 7) (IntKind.bits .u64))))) * 2 ^ (min (Int.toNat 17) (IntKind.bits .u64))))) (bitsV .xor .u64 (bitsV .xor .u64 (bitsV .xor .u64 r (IntKind.wrap .u64 (r * 2 ^ (min (Int.toNat 13) (IntKind.bits .u64))))) (Int.fdiv (bitsV .xor .u64 r (IntKind.wrap .u64 (r * 2 ^ (min (Int.toNat 13) (IntKind.bits .u64))))) (2 ^ (min (Int.toNat 7) (IntKind.bits .u64))))) (IntKind.wrap .u64 ((bitsV .xor .u64 (bitsV .xor .u64 r (IntKind.wrap .u64 (r * 2 ^ (min (Int.toNat 13) (IntKind.bits .u64))))) (Int.fdiv (bitsV .xor .u64 r (IntKind.wrap .u64 (r * 2 ^ (min (Int.toNat 13) (IntKind.bits .u64))))) (2 ^ (min (Int.toNat 7) (IntKind.bits .u64))))) * 2 ^ (min (Int.toNat 17) (IntKind.bits .u64))))) _ h hp

/-! slices.breakPatternsCmpFunc[string] (40) -/
def slices_breakPatternsCmpFunc_string_wp {σ3 : Type} (data : List (ByteArray)) (a_1 : Int) (b_1 : Int) (s : σ3) (Y3 : (ByteArray) → (ByteArray) → σ3 → (Int → σ3 → Prop) → Prop) (K : List (ByteArray) → Prop) : Prop :=
  cond (decide (((IntKind.wrap .i64 (b_1 - a_1)) : Int) ≥ 8)) (slices_nextPowerOfTwo_wp (IntKind.wrap .i64 (b_1 - a_1)) (fun (r : Int) => ∃ (I : Nat → Int → List (ByteArray) → Int → Prop), (∃ (n_4 : Nat), I n_4 (IntKind.wrap .u64 (IntKind.wrap .i64 (b_1 - a_1))) data (IntKind.wrap .i64 ((IntKind.wrap .i64 (a_1 + (IntKind.wrap .i64 ((IntKind.wrap .i64 (Int.tdiv (IntKind.wrap .i64 (b_1 - a_1)) 4)) * 2)))) - 1))) ∧ ∀ (n_2 : Nat) (x_1 : Int) (data_1 : List (ByteArray)) (idx11 : Int), I n_2 x_1 data_1 idx11 → (cond (decide ((idx11 : Int) ≤ (IntKind.wrap .i64 ((IntKind.wrap .i64 (a_1 + (IntKind.wrap .i64 ((IntKind.wrap .i64 (Int.tdiv (IntKind.wrap .i64 (b_1 - a_1)) 4)) * 2)))) + 1)))) (slices_xorshift_Next_wp x_1 (fun (r_1 : Int) (x_2 : Int) => joinP1 (fun (other12 : Int) => 0 ≤ ((IntKind.wrap .i64 (a_1 + other12)) : Int) ∧ ((IntKind.wrap .i64 (a_1 + other12)) : Int) < ((data.length : Nat) : Int) ∧ (∀ (x_3 : ByteArray), data_1[Int.toNat (IntKind.wrap .i64 (a_1 + other12))]? = some x_3 → (0 ≤ (idx11 : Int) ∧ (idx11 : Int) < ((data.length : Nat) : Int) ∧ (∀ (x_4 : ByteArray), data_1[Int.toNat idx11]? = some x_4 → (0 ≤ (idx11 : Int) ∧ (idx11 : Int) < ((data.length : Nat) : Int) ∧ (0 ≤ ((IntKind.wrap .i64 (a_1 + other12)) : Int) ∧ ((IntKind.wrap .i64 (a_1 + other12)) : Int) < ((data.length : Nat) : Int) ∧ (∃ (n_3 : Nat), n_3 < n_2 ∧ I n_3 x_2 (List.set (List.set data_1 (Int.toNat idx11) x_3) (Int.toNat (IntKind.wrap .i64 (a_1 + other12))) x_4) (IntKind.wrap .i64 (idx11 + 1))))))))) (fun (Q : Int → Prop) => cond (decide (((IntKind.wrap .i64 (bitsV .and .u64 r_1 (IntKind.wrap .u64 (r - 1)))) : Int) ≥ (IntKind.wrap .i64 (b_1 - a_1)))) (Q (IntKind.wrap .i64 ((IntKind.wrap .i64 (bitsV .and .u64 r_1 (IntKind.wrap .u64 (r - 1)))) - (IntKind.wrap .i64 (b_1 - a_1))))) (Q (IntKind.wrap .i64 (bitsV .and .u64 r_1 (IntKind.wrap .u64 (r - 1)))))))) (K data_1)))) (K data)
theorem slices_breakPatternsCmpFunc_string_ok {σ3 : Type} {A3 : σ3 → HP} {p_1 : Option Addr} {c_1 : Nat} {n_1 : Nat} {ff3 : Fn} {fa3 : Array Value} {fc3 : Array Value} {data : List (ByteArray)} {a_1 : Int} {b_1 : Int} {s : σ3} {Y3 : (ByteArray) → (ByteArray) → σ3 → (Int → σ3 → Prop) → Prop} {FL : List HP} {w : World} {K : List (ByteArray) → Prop} {R : Value → World → Prop}
  (hY3 : ∀ (x0 : ByteArray) (x1 : ByteArray) (s : σ3) (K : Int → σ3 → Prop) (FL2 : List HP) (w : World) (R : Value → World → Prop), (∀ w, Mem FL2 w → Mem FL w) → Mem (A3 s :: FL2) w → Y3 x0 x1 s K → (∀ (r : Int) (s : σ3) (w : World), Mem (A3 s :: FL2) w → K r s → R (Value.int .i64 r) w) → CalleeV Try.prog (Value.func ff3 fa3 fc3) #[(Value.string x0), (Value.string x1)] w R) (hn_p_1 : n_1 = data.length)
  (h : Mem (row enc9 9 1 p_1 c_1 data :: A3 s :: FL) w) (hp : slices_breakPatternsCmpFunc_string_wp data a_1 b_1 s Y3 K)
  (hR : ∀ (data_1 : List (ByteArray)) (w : World), data.length = data_1.length → Mem (row enc9 9 1 p_1 c_1 data_1 :: A3 s :: FL) w → K data_1 → R undef w) :
  CallV Try.prog 40 #[(Value.slice p_1 n_1 c_1), (Value.int .i64 a_1), (Value.int .i64 b_1), (Value.func ff3 fa3 fc3)] w R := by
  refine slices_breakPatternsCmpFunc_string_call ?_
  unfold slices_breakPatternsCmpFunc_string
  unfold slices_breakPatternsCmpFunc_string_wp at hp
  subst hn_p_1
  have cpp_1 := rowCap h 0 rfl
  refine cond_both' hp (fun hp => ?_) (fun hp => ?_)
  · exact hR data _ rfl h hp
  refine newL (o := [(Value.int .u64 0)]) h ?_
  intro b_2 w h
  refine storeL (ys := [(Value.int .u64 (IntKind.wrap .u64 (IntKind.wrap .i64 (b_1 - a_1))))]) h 0 0 rfl rfl rfl sz90 rfl rfl ?_
  intro w h
  dsimp only [setH, setVs, setV] at h
  refine slices_nextPowerOfTwo_ok h hp ?_
  intro r w h hp
  refine ⟨_, rfl, ?_⟩
  refine ⟨by decide, ?_⟩
  obtain ⟨I, ⟨n_4, h0⟩, hq⟩ := hp
  replace h := h.sel [0, 1, 0] 0
  dsimp only [pickL, pickR, nthH, delH, dropH, List.cons_append, List.nil_append] at h
  refine ⟨fun n_2 data0p data0l data0c a1 length8 random9 modulus10 idx11 w => ∃ (x_1 : Int), ∃ (data_1 : List (ByteArray)), p_1 = data0p ∧ data.length = data0l ∧ c_1 = data0c ∧ a_1 = a1 ∧ (IntKind.wrap .i64 (b_1 - a_1)) = length8 ∧ (Addr.mk b_2 0 none) = random9 ∧ r = modulus10 ∧ data.length = data_1.length ∧ I n_2 x_1 data_1 idx11 ∧ Mem (cel b_2 90 [(Value.int .u64 x_1)] :: A3 s :: row enc9 9 1 p_1 c_1 data_1 :: FL) w, ⟨n_4, (IntKind.wrap .u64 (IntKind.wrap .i64 (b_1 - a_1))), data, rfl, rfl, rfl, rfl, rfl, rfl, rfl, rfl, h0, h⟩, ?_⟩
  clear h0 h
  rintro n_2 data0p data0l data0c a1 length8 random9 modulus10 idx11 w ⟨x_1, data_1, rfl, rfl, rfl, rfl, rfl, rfl, rfl, hl_data_1, hp, h⟩
  replace hp := hq n_2 x_1 data_1 idx11 hp
  clear hq
  unfold slices_breakPatternsCmpFunc_string_l1
  refine ⟨by decide, ?_⟩
  refine cond_both' hp (fun hp => ?_) (fun hp => ?_)
  · replace h := h.sel [2, 1] 1
    dsimp only [pickL, pickR, nthH, delH, dropH, List.cons_append, List.nil_append] at h
    exact hR data_1 _ hl_data_1 h hp
  refine slices_xorshift_Next_ok h hp ?_
  intro r_1 x_2 w h hp
  refine ⟨_, rfl, ?_⟩
  obtain ⟨Q, hq, hp⟩ := hp
  refine ⟨fun data0_1p data0_1l data0_1c a1_1 length8_1 random9_1 modulus10_1 idx11_1 other12 w => p_1 = data0_1p ∧ data.length = data0_1l ∧ c_1 = data0_1c ∧ a_1 = a1_1 ∧ (IntKind.wrap .i64 (b_1 - a_1)) = length8_1 ∧ (Addr.mk b_2 0 none) = random9_1 ∧ r = modulus10_1 ∧ idx11 = idx11_1 ∧ Q other12 ∧ Mem (cel b_2 90 [(Value.int .u64 x_2)] :: A3 s :: row enc9 9 1 p_1 c_1 data_1 :: FL) w, ?_, ?_⟩
  · rintro data0_1p data0_1l data0_1c a1_1 length8_1 random9_1 modulus10_1 idx11_1 other12 w ⟨rfl, rfl, rfl, rfl, rfl, rfl, rfl, rfl, hp, h⟩
    replace hp := hq other12 hp
    unfold slices_breakPatternsCmpFunc_string_j2
    replace h := h.drew
    obtain ⟨ia_2, ja_2, hp⟩ := hp
    obtain ⟨a_2, ha_2⟩ := rdAddr (rowRd h 2 encL9 rfl) hl_data_1 ia_2 ja_2
    refine ⟨a_2, ha_2, ia_2, ja_2, ?_⟩
    obtain ⟨x_3, hx_3, hc⟩ := rdCell0 (rowRd h 2 encL9 rfl) ha_2 hl_data_1 ia_2 ja_2
    replace hp := hp x_3 hx_3
    refine ⟨_, hc _ rfl, ?_⟩
    obtain ⟨ia_3, ja_3, hp⟩ := hp
    obtain ⟨a_3, ha_3⟩ := rdAddr (rowRd h 2 encL9 rfl) hl_data_1 ia_3 ja_3
    refine ⟨a_3, ha_3, ia_3, ja_3, ?_⟩
    obtain ⟨x_4, hx_4, hc⟩ := rdCell0 (rowRd h 2 encL9 rfl) ha_3 hl_data_1 ia_3 ja_3
    replace hp := hp x_4 hx_4
    refine ⟨_, hc _ rfl, ?_⟩
    obtain ⟨ia_4, ja_4, hp⟩ := hp
    obtain ⟨a_4, ha_4⟩ := rdAddr (rowRd h 2 encL9 rfl) hl_data_1 ia_4 ja_4
    refine ⟨a_4, ha_4, ia_4, ja_4, ?_⟩
    refine rowSetW (ys := [(Value.string x_3)]) (x := x_3) h 2 encL9 rfl ha_4 hl_data_1 ia_4 ja_4 sz9 rfl rfl rfl ?_
    intro w h
    dsimp only [setH, setVs, setV] at h
    obtain ⟨ia_5, ja_5, hp⟩ := hp
    obtain ⟨a_5, ha_5⟩ := rdAddr (rowRd h 2 encL9 rfl) (lenSet hl_data_1) ia_5 ja_5
    refine ⟨a_5, ha_5, ia_5, ja_5, ?_⟩
    refine rowSetW (ys := [(Value.string x_4)]) (x := x_4) h 2 encL9 rfl ha_5 (lenSet hl_data_1) ia_5 ja_5 sz9 rfl rfl rfl ?_
    intro w h
    dsimp only [setH, setVs, setV] at h
    obtain ⟨n_3, hn, hp⟩ := hp
    exact ⟨n_3, hn, x_2, (List.set (List.set data_1 (Int.toNat idx11) x_3) (Int.toNat (IntKind.wrap .i64 (a_1 + other12))) x_4), rfl, rfl, rfl, rfl, rfl, rfl, rfl, (lenSet (lenSet hl_data_1)), hp, h⟩
  clear hq
  refine cond_both hp (fun hp => ?_) (fun hp => ?_)
  · exact ⟨rfl, rfl, rfl, rfl, rfl, rfl, rfl, rfl, hp, h⟩
  exact ⟨rfl, rfl, rfl, rfl, rfl, rfl, rfl, rfl, hp, h⟩

/-! slices.order2CmpFunc[string] (54) -/
def slices_order2CmpFunc_string_wp {σ4 : Type} (data : List (ByteArray)) (a_1 : Int) (b_1 : Int) (swaps : Int) (s : σ4) (Y4 : (ByteArray) → (ByteArray) → σ4 → (Int → σ4 → Prop) → Prop) (K : Int → Int → Int → σ4 → Prop) : Prop :=
  0 ≤ (b_1 : Int) ∧ (b_1 : Int) < ((data.length : Nat) : Int) ∧ (∀ (x_2 : ByteArray), data[Int.toNat b_1]? = some x_2 → (0 ≤ (a_1 : Int) ∧ (a_1 : Int) < ((data.length : Nat) : Int) ∧ (∀ (x_3 : ByteArray), data[Int.toNat a_1]? = some x_3 → (Y4 x_2 x_3 s (fun (t21 : Int) (s_2 : σ4) => cond (decide ((t21 : Int) < 0)) (K b_1 a_1 (IntKind.wrap .i64 (swaps + 1)) s_2) (K a_1 b_1 swaps s_2))))))
theorem slices_order2CmpFunc_string_ok {σ4 : Type} {A4 : σ4 → HP} {p_1 : Option Addr} {n_1 : Nat} {c_1 : Nat} {b_2 : Nat} {ff4 : Fn} {fa4 : Array Value} {fc4 : Array Value} {data : List (ByteArray)} {a_1 : Int} {b_1 : Int} {swaps : Int} {s : σ4} {Y4 : (ByteArray) → (ByteArray) → σ4 → (Int → σ4 → Prop) → Prop} {FL : List HP} {w : World} {K : Int → Int → Int → σ4 → Prop} {R : Value → World → Prop}
  (hY4 : ∀ (x0 : ByteArray) (x1 : ByteArray) (s : σ4) (K : Int → σ4 → Prop) (FL2 : List HP) (w : World) (R : Value → World → Prop), (∀ w, Mem FL2 w → Mem FL w) → Mem (A4 s :: FL2) w → Y4 x0 x1 s K → (∀ (r : Int) (s : σ4) (w : World), Mem (A4 s :: FL2) w → K r s → R (Value.int .i64 r) w) → CalleeV Try.prog (Value.func ff4 fa4 fc4) #[(Value.string x0), (Value.string x1)] w R)
  (hF_data : ∀ w, Mem FL w → Rd w 1 p_1 enc9 data) (hl_data : n_1 = data.length) (hc_data : n_1 ≤ c_1)
  (h : Mem (cel b_2 3 [(Value.int .i64 swaps)] :: A4 s :: FL) w) (hp : slices_order2CmpFunc_string_wp data a_1 b_1 swaps s Y4 K)
  (hR : ∀ (r : Int) (r_1 : Int) (x_1 : Int) (s_1 : σ4) (w : World), Mem (cel b_2 3 [(Value.int .i64 x_1)] :: A4 s_1 :: FL) w → K r r_1 x_1 s_1 → R (Value.tuple #[(Value.int .i64 r), (Value.int .i64 r_1)]) w) :
  CallV Try.prog 54 #[(Value.slice p_1 n_1 c_1), (Value.int .i64 a_1), (Value.int .i64 b_1), (Value.pointer (some (Addr.mk b_2 0 none))), (Value.func ff4 fa4 fc4)] w R := by
  refine slices_order2CmpFunc_string_call ?_
  unfold slices_order2CmpFunc_string
  unfold slices_order2CmpFunc_string_wp at hp
  subst hl_data
  replace h := h.drew
  obtain ⟨ia_2, ja_2, hp⟩ := hp
  obtain ⟨a_2, ha_2⟩ := rdAddr (hF_data _ (h.drop 2)) rfl ia_2 ja_2
  refine ⟨a_2, ha_2, ia_2, ja_2, ?_⟩
  obtain ⟨x_2, hx_2, hc⟩ := rdCell0 (hF_data _ (h.drop 2)) ha_2 rfl ia_2 ja_2
  replace hp := hp x_2 hx_2
  refine ⟨_, hc _ rfl, ?_⟩
  obtain ⟨ia_3, ja_3, hp⟩ := hp
  obtain ⟨a_3, ha_3⟩ := rdAddr (hF_data _ (h.drop 2)) rfl ia_3 ja_3
  refine ⟨a_3, ha_3, ia_3, ja_3, ?_⟩
  obtain ⟨x_3, hx_3, hc⟩ := rdCell0 (hF_data _ (h.drop 2)) ha_3 rfl ia_3 ja_3
  replace hp := hp x_3 hx_3
  refine ⟨_, hc _ rfl, ?_⟩
  replace h := h.pick [1]
  dsimp only [pickL, pickR, nthH, delH, dropH, List.cons_append, List.nil_append] at h
  refine hY4 x_2 x_3 _ _ (cel b_2 3 [(Value.int .i64 swaps)] :: FL) _ _ (fun _ h => Mem.drop 1 h) h hp ?_
  intro t21 s_2 w h hp
  refine ⟨_, rfl, ?_⟩
  refine cond_both' hp (fun hp => ?_) (fun hp => ?_)
  · replace h := h.sel [1, 0] 0
    dsimp only [pickL, pickR, nthH, delH, dropH, List.cons_append, List.nil_append] at h
    exact hR a_1 b_1 swaps s_2 _ h hp
  refine ⟨_, rfl, ?_⟩
  refine ⟨_, cellL h 1 0 rfl rfl rfl, ?_⟩
  refine ⟨_, rfl, ?_⟩
  refine storeL (ys := [(Value.int .i64 (IntKind.wrap .i64 (swaps + 1)))]) h 1 0 rfl rfl rfl sz3 rfl rfl ?_
  intro w h
  dsimp only [setH, setVs, setV] at h
  replace h := h.sel [1, 0] 0
  dsimp only [pickL, pickR, nthH, delH, dropH, List.cons_append, List.nil_append] at h
  exact hR b_1 a_1 (IntKind.wrap .i64 (swaps + 1)) s_2 _ h hp

/-! slices.medianCmpFunc[string] (53) -/
def slices_medianCmpFunc_string_wp {σ5 : Type} (data : List (ByteArray)) (a_1 : Int) (b_1 : Int) (c_2 : Int) (swaps : Int) (s : σ5) (Y5 : (ByteArray) → (ByteArray) → σ5 → (Int → σ5 → Prop) → Prop) (K : Int → Int → σ5 → Prop) : Prop :=
  slices_order2CmpFunc_string_wp data a_1 b_1 swaps s Y5 (fun (r : Int) (r_1 : Int) (x_2 : Int) (s_2 : σ5) => slices_order2CmpFunc_string_wp data r_1 c_2 x_2 s_2 Y5 (fun (r_2 : Int) (r_3 : Int) (x_3 : Int) (s_3 : σ5) => slices_order2CmpFunc_string_wp data r r_2 x_3 s_3 Y5 (fun (r_4 : Int) (r_5 : Int) (x_4 : Int) (s_4 : σ5) => K r_5 x_4 s_4)))
theorem slices_medianCmpFunc_string_ok {σ5 : Type} {A5 : σ5 → HP} {p_1 : Option Addr} {n_1 : Nat} {c_1 : Nat} {b_2 : Nat} {ff5 : Fn} {fa5 : Array Value} {fc5 : Array Value} {data : List (ByteArray)} {a_1 : Int} {b_1 : Int} {c_2 : Int} {swaps : Int} {s : σ5} {Y5 : (ByteArray) → (ByteArray) → σ5 → (Int → σ5 → Prop) → Prop} {FL : List HP} {w : World} {K : Int → Int → σ5 → Prop} {R : Value → World → Prop}
  (hY5 : ∀ (x0 : ByteArray) (x1 : ByteArray) (s : σ5) (K : Int → σ5 → Prop) (FL2 : List HP) (w : World) (R : Value → World → Prop), (∀ w, Mem FL2 w → Mem FL w) → Mem (A5 s :: FL2) w → Y5 x0 x1 s K → (∀ (r : Int) (s : σ5) (w : World), Mem (A5 s :: FL2) w → K r s → R (Value.int .i64 r) w) → CalleeV Try.prog (Value.func ff5 fa5 fc5) #[(Value.string x0), (Value.string x1)] w R)
  (hF_data : ∀ w, Mem FL w → Rd w 1 p_1 enc9 data) (hl_data : n_1 = data.length) (hc_data : n_1 ≤ c_1)
  (h : Mem (cel b_2 3 [(Value.int .i64 swaps)] :: A5 s :: FL) w) (hp : slices_medianCmpFunc_string_wp data a_1 b_1 c_2 swaps s Y5 K)
  (hR : ∀ (r : Int) (x_1 : Int) (s_1 : σ5) (w : World), Mem (cel b_2 3 [(Value.int .i64 x_1)] :: A5 s_1 :: FL) w → K r x_1 s_1 → R (Value.int .i64 r) w) :
  CallV Try.prog 53 #[(Value.slice p_1 n_1 c_1), (Value.int .i64 a_1), (Value.int .i64 b_1), (Value.int .i64 c_2), (Value.pointer (some (Addr.mk b_2 0 none))), (Value.func ff5 fa5 fc5)] w R := by
  refine slices_medianCmpFunc_string_call ?_
  unfold slices_medianCmpFunc_string
  unfold slices_medianCmpFunc_string_wp at hp
  subst hl_data
  refine slices_order2CmpFunc_string_ok (FL := FL) (A4 := A5) (Y4 := Y5) (σ4 := σ5) (s := s) (fun _ _ _ _ FL2 w R hx => hY5 _ _ _ _ FL2 w R (fun w h => (Mem.drop 0 (hx w h)))) (fun w h => (hF_data _ (h.drop 0))) rfl hc_data h hp ?_
  intro r r_1 x_2 s_2 w h hp
  refine ⟨_, _, rfl, ?_⟩
  refine ⟨_, rfl, ?_⟩
  refine ⟨_, rfl, ?_⟩
  refine slices_order2CmpFunc_string_ok (FL := FL) (A4 := A5) (Y4 := Y5) (σ4 := σ5) (s := s_2) (fun _ _ _ _ FL2 w R hx => hY5 _ _ _ _ FL2 w R (fun w h => (Mem.drop 0 (hx w h)))) (fun w h => (hF_data _ (h.drop 0))) rfl hc_data h hp ?_
  intro r_2 r_3 x_3 s_3 w h hp
  refine ⟨_, _, rfl, ?_⟩
  refine ⟨_, rfl, ?_⟩
  refine ⟨_, rfl, ?_⟩
  refine slices_order2CmpFunc_string_ok (FL := FL) (A4 := A5) (Y4 := Y5) (σ4 := σ5) (s := s_3) (fun _ _ _ _ FL2 w R hx => hY5 _ _ _ _ FL2 w R (fun w h => (Mem.drop 0 (hx w h)))) (fun w h => (hF_data _ (h.drop 0))) rfl hc_data h hp ?_
  intro r_4 r_5 x_4 s_4 w h hp
  refine ⟨_, _, rfl, ?_⟩
  refine ⟨_, rfl, ?_⟩
  refine ⟨_, rfl, ?_⟩
  exact hR r_5 x_4 s_4 _ h hp

/-! slices.medianAdjacentCmpFunc[string] (52) -/
def slices_medianAdjacentCmpFunc_string_wp {σ3 : Type} (data : List (ByteArray)) (a_1 : Int) (swaps : Int) (s : σ3) (Y3 : (ByteArray) → (ByteArray) → σ3 → (Int → σ3 → Prop) → Prop) (K : Int → Int → σ3 → Prop) : Prop :=
  slices_medianCmpFunc_string_wp data (IntKind.wrap .i64 (a_1 - 1)) a_1 (IntKind.wrap .i64 (a_1 + 1)) swaps s Y3 (fun (r : Int) (x_2 : Int) (s_2 : σ3) => K r x_2 s_2)
theorem slices_medianAdjacentCmpFunc_string_ok {σ3 : Type} {A3 : σ3 → HP} {p_1 : Option Addr} {n_1 : Nat} {c_1 : Nat} {b_1 : Nat} {ff3 : Fn} {fa3 : Array Value} {fc3 : Array Value} {data : List (ByteArray)} {a_1 : Int} {swaps : Int} {s : σ3} {Y3 : (ByteArray) → (ByteArray) → σ3 → (Int → σ3 → Prop) → Prop} {FL : List HP} {w : World} {K : Int → Int → σ3 → Prop} {R : Value → World → Prop}
  (hY3 : ∀ (x0 : ByteArray) (x1 : ByteArray) (s : σ3) (K : Int → σ3 → Prop) (FL2 : List HP) (w : World) (R : Value → World → Prop), (∀ w, Mem FL2 w → Mem FL w) → Mem (A3 s :: FL2) w → Y3 x0 x1 s K → (∀ (r : Int) (s : σ3) (w : World), Mem (A3 s :: FL2) w → K r s → R (Value.int .i64 r) w) → CalleeV Try.prog (Value.func ff3 fa3 fc3) #[(Value.string x0), (Value.string x1)] w R)
  (hF_data : ∀ w, Mem FL w → Rd w 1 p_1 enc9 data) (hl_data : n_1 = data.length) (hc_data : n_1 ≤ c_1)
  (h : Mem (cel b_1 3 [(Value.int .i64 swaps)] :: A3 s :: FL) w) (hp : slices_medianAdjacentCmpFunc_string_wp data a_1 swaps s Y3 K)
  (hR : ∀ (r : Int) (x_1 : Int) (s_1 : σ3) (w : World), Mem (cel b_1 3 [(Value.int .i64 x_1)] :: A3 s_1 :: FL) w → K r x_1 s_1 → R (Value.int .i64 r) w) :
  CallV Try.prog 52 #[(Value.slice p_1 n_1 c_1), (Value.int .i64 a_1), (Value.pointer (some (Addr.mk b_1 0 none))), (Value.func ff3 fa3 fc3)] w R := by
  refine slices_medianAdjacentCmpFunc_string_call ?_
  unfold slices_medianAdjacentCmpFunc_string
  unfold slices_medianAdjacentCmpFunc_string_wp at hp
  subst hl_data
  refine slices_medianCmpFunc_string_ok (FL := FL) (A5 := A3) (Y5 := Y3) (σ5 := σ3) (s := s) (fun _ _ _ _ FL2 w R hx => hY3 _ _ _ _ FL2 w R (fun w h => (Mem.drop 0 (hx w h)))) (fun w h => (hF_data _ (h.drop 0))) rfl hc_data h hp ?_
  intro r x_2 s_2 w h hp
  refine ⟨_, rfl, ?_⟩
  exact hR r x_2 s_2 _ h hp

/-! slices.choosePivotCmpFunc[string] (41) -/
def slices_choosePivotCmpFunc_string_wp {σ3 : Type} (data : List (ByteArray)) (a_1 : Int) (b_1 : Int) (s : σ3) (Y3 : (ByteArray) → (ByteArray) → σ3 → (Int → σ3 → Prop) → Prop) (K : Int → Int → σ3 → Prop) : Prop :=
  joinP3 (fun (x_1 : Int) (j13 : Int) (s_2 : σ3) => cond ((x_1 : Int) == 0) (K j13 1 s_2) (cond ((x_1 : Int) == 12) (K j13 2 s_2) (K j13 0 s_2))) (fun (Q : Int → Int → σ3 → Prop) => cond (decide (((IntKind.wrap .i64 (b_1 - a_1)) : Int) ≥ 8)) (cond (decide (((IntKind.wrap .i64 (b_1 - a_1)) : Int) ≥ 50)) (slices_medianAdjacentCmpFunc_string_wp data (IntKind.wrap .i64 (a_1 + (IntKind.wrap .i64 ((IntKind.wrap .i64 (Int.tdiv (IntKind.wrap .i64 (b_1 - a_1)) 4)) * 1)))) 0 s Y3 (fun (r : Int) (x_2 : Int) (s_3 : σ3) => slices_medianAdjacentCmpFunc_string_wp data (IntKind.wrap .i64 (a_1 + (IntKind.wrap .i64 ((IntKind.wrap .i64 (Int.tdiv (IntKind.wrap .i64 (b_1 - a_1)) 4)) * 2)))) x_2 s_3 Y3 (fun (r_1 : Int) (x_3 : Int) (s_4 : σ3) => slices_medianAdjacentCmpFunc_string_wp data (IntKind.wrap .i64 (a_1 + (IntKind.wrap .i64 ((IntKind.wrap .i64 (Int.tdiv (IntKind.wrap .i64 (b_1 - a_1)) 4)) * 3)))) x_3 s_4 Y3 (fun (r_2 : Int) (x_4 : Int) (s_5 : σ3) => slices_medianCmpFunc_string_wp data r r_1 r_2 x_4 s_5 Y3 (fun (r_3 : Int) (x_5 : Int) (s_6 : σ3) => Q x_5 r_3 s_6))))) (slices_medianCmpFunc_string_wp data (IntKind.wrap .i64 (a_1 + (IntKind.wrap .i64 ((IntKind.wrap .i64 (Int.tdiv (IntKind.wrap .i64 (b_1 - a_1)) 4)) * 1)))) (IntKind.wrap .i64 (a_1 + (IntKind.wrap .i64 ((IntKind.wrap .i64 (Int.tdiv (IntKind.wrap .i64 (b_1 - a_1)) 4)) * 2)))) (IntKind.wrap .i64 (a_1 + (IntKind.wrap .i64 ((IntKind.wrap .i64 (Int.tdiv (IntKind.wrap .i64 (b_1 - a_1)) 4)) * 3)))) 0 s Y3 (fun (r_4 : Int) (x_6 : Int) (s_7 : σ3) => Q x_6 r_4 s_7))) (Q 0 (IntKind.wrap .i64 (a_1 + (IntKind.wrap .i64 ((IntKind.wrap .i64 (Int.tdiv (IntKind.wrap .i64 (b_1 - a_1)) 4)) * 2)))) s))
theorem slices_choosePivotCmpFunc_string_ok {σ3 : Type} {A3 : σ3 → HP} {p_1 : Option Addr} {n_1 : Nat} {c_1 : Nat} {ff3 : Fn} {fa3 : Array Value} {fc3 : Array Value} {data : List (ByteArray)} {a_1 : Int} {b_1 : Int} {s : σ3} {Y3 : (ByteArray) → (ByteArray) → σ3 → (Int → σ3 → Prop) → Prop} {FL : List HP} {w : World} {K : Int → Int → σ3 → Prop} {R : Value → World → Prop}
  (hY3 : ∀ (x0 : ByteArray) (x1 : ByteArray) (s : σ3) (K : Int → σ3 → Prop) (FL2 : List HP) (w : World) (R : Value → World → Prop), (∀ w, Mem FL2 w → Mem FL w) → Mem (A3 s :: FL2) w → Y3 x0 x1 s K → (∀ (r : Int) (s : σ3) (w : World), Mem (A3 s :: FL2) w → K r s → R (Value.int .i64 r) w) → CalleeV Try.prog (Value.func ff3 fa3 fc3) #[(Value.string x0), (Value.string x1)] w R)
  (hF_data : ∀ w, Mem FL w → Rd w 1 p_1 enc9 data) (hl_data : n_1 = data.length) (hc_data : n_1 ≤ c_1)
  (h : Mem (A3 s :: FL) w) (hp : slices_choosePivotCmpFunc_string_wp data a_1 b_1 s Y3 K)
  (hR : ∀ (r : Int) (r_1 : Int) (s_1 : σ3) (w : World), Mem (A3 s_1 :: FL) w → K r r_1 s_1 → R (Value.tuple #[(Value.int .i64 r), (Value.int .i64 r_1)]) w) :
  CallV Try.prog 41 #[(Value.slice p_1 n_1 c_1), (Value.int .i64 a_1), (Value.int .i64 b_1), (Value.func ff3 fa3 fc3)] w R := by
  refine slices_choosePivotCmpFunc_string_call ?_
  unfold slices_choosePivotCmpFunc_string
  unfold slices_choosePivotCmpFunc_string_wp at hp
  subst hl_data
  refine newL (o := [(Value.int .i64 0)]) h ?_
  intro b_2 w h
  refine ⟨by decide, ?_⟩
  refine ⟨by decide, ?_⟩
  refine ⟨by decide, ?_⟩
  obtain ⟨Q, hq, hp⟩ := hp
  refine ⟨fun swaps11 j13 w => ∃ (x_1 : Int), ∃ (s_2 : σ3), (Addr.mk b_2 0 none) = swaps11 ∧ Q x_1 j13 s_2 ∧ Mem (cel b_2 3 [(Value.int .i64 x_1)] :: A3 s_2 :: FL) w, ?_, ?_⟩
  · rintro swaps11 j13 w ⟨x_1, s_2, rfl, hp, h⟩
    replace hp := hq x_1 j13 s_2 hp
    unfold slices_choosePivotCmpFunc_string_j1
    refine ⟨_, cellL h 0 0 rfl rfl rfl, ?_⟩
    refine cond_both hp (fun hp => ?_) (fun hp => ?_)
    · replace h := h.sel [1] 1
      dsimp only [pickL, pickR, nthH, delH, dropH, List.cons_append, List.nil_append] at h
      exact hR j13 1 s_2 _ h hp
    refine cond_both hp (fun hp => ?_) (fun hp => ?_)
    · replace h := h.sel [1] 1
      dsimp only [pickL, pickR, nthH, delH, dropH, List.cons_append, List.nil_append] at h
      exact hR j13 2 s_2 _ h hp
    replace h := h.sel [1] 1
    dsimp only [pickL, pickR, nthH, delH, dropH, List.cons_append, List.nil_append] at h
    exact hR j13 0 s_2 _ h hp
  clear hq
  refine cond_both' hp (fun hp => ?_) (fun hp => ?_)
  · exact ⟨0, s, rfl, hp, h⟩
  refine cond_both' hp (fun hp => ?_) (fun hp => ?_)
  · refine slices_medianCmpFunc_string_ok (FL := FL) (A5 := A3) (Y5 := Y3) (σ5 := σ3) (s := s) (fun _ _ _ _ FL2 w R hx => hY3 _ _ _ _ FL2 w R (fun w h => (Mem.drop 0 (hx w h)))) (fun w h => (hF_data _ (h.drop 0))) rfl hc_data h hp ?_
    intro r_4 x_6 s_7 w h hp
    refine ⟨_, rfl, ?_⟩
    exact ⟨x_6, s_7, rfl, hp, h⟩
  refine slices_medianAdjacentCmpFunc_string_ok (FL := FL) (A3 := A3) (Y3 := Y3) (σ3 := σ3) (s := s) (fun _ _ _ _ FL2 w R hx => hY3 _ _ _ _ FL2 w R (fun w h => (Mem.drop 0 (hx w h)))) (fun w h => (hF_data _ (h.drop 0))) rfl hc_data h hp ?_
  intro r x_2 s_3 w h hp
  refine ⟨_, rfl, ?_⟩
  refine slices_medianAdjacentCmpFunc_string_ok (FL := FL) (A3 := A3) (Y3 := Y3) (σ3 := σ3) (s := s_3) (fun _ _ _ _ FL2 w R hx => hY3 _ _ _ _ FL2 w R (fun w h => (Mem.drop 0 (hx w h)))) (fun w h => (hF_data _ (h.drop 0))) rfl hc_data h hp ?_
  intro r_1 x_3 s_4 w h hp
  refine ⟨_, rfl, ?_⟩
  refine slices_medianAdjacentCmpFunc_string_ok (FL := FL) (A3 := A3) (Y3 := Y3) (σ3 := σ3) (s := s_4) (fun _ _ _ _ FL2 w R hx => hY3 _ _ _ _ FL2 w R (fun w h => (Mem.drop 0 (hx w h)))) (fun w h => (hF_data _ (h.drop 0))) rfl hc_data h hp ?_
  intro r_2 x_4 s_5 w h hp
  refine ⟨_, rfl, ?_⟩
  refine slices_medianCmpFunc_string_ok (FL := FL) (A5 := A3) (Y5 := Y3) (σ5 := σ3) (s := s_5) (fun _ _ _ _ FL2 w R hx => hY3 _ _ _ _ FL2 w R (fun w h => (Mem.drop 0 (hx w h)))) (fun w h => (hF_data _ (h.drop 0))) rfl hc_data h hp ?_
  intro r_3 x_5 s_6 w h hp
  refine ⟨_, rfl, ?_⟩
  exact ⟨x_5, s_6, rfl, hp, h⟩

/-! slices.reverseRangeCmpFunc[string] (42) -/
def slices_reverseRangeCmpFunc_string_wp {σ3 : Type} (data : List (ByteArray)) (a_1 : Int) (b_1 : Int) (s : σ3) (Y3 : (ByteArray) → (ByteArray) → σ3 → (Int → σ3 → Prop) → Prop) (K : List (ByteArray) → Prop) : Prop :=
  ∃ (I : Nat → List (ByteArray) → Int → Int → Prop), (∃ (n_4 : Nat), I n_4 data a_1 (IntKind.wrap .i64 (b_1 - 1))) ∧ ∀ (n_2 : Nat) (data_1 : List (ByteArray)) (i8 : Int) (j9 : Int), I n_2 data_1 i8 j9 → (cond (decide ((i8 : Int) < j9)) (0 ≤ (j9 : Int) ∧ (j9 : Int) < ((data.length : Nat) : Int) ∧ (∀ (x_1 : ByteArray), data_1[Int.toNat j9]? = some x_1 → (0 ≤ (i8 : Int) ∧ (i8 : Int) < ((data.length : Nat) : Int) ∧ (∀ (x_2 : ByteArray), data_1[Int.toNat i8]? = some x_2 → (0 ≤ (i8 : Int) ∧ (i8 : Int) < ((data.length : Nat) : Int) ∧ (0 ≤ (j9 : Int) ∧ (j9 : Int) < ((data.length : Nat) : Int) ∧ (∃ (n_3 : Nat), n_3 < n_2 ∧ I n_3 (List.set (List.set data_1 (Int.toNat i8) x_1) (Int.toNat j9) x_2) (IntKind.wrap .i64 (i8 + 1)) (IntKind.wrap .i64 (j9 - 1))))))))) (K data_1))
theorem slices_reverseRangeCmpFunc_string_ok {σ3 : Type} {A3 : σ3 → HP} {p_1 : Option Addr} {c_1 : Nat} {n_1 : Nat} {ff3 : Fn} {fa3 : Array Value} {fc3 : Array Value} {data : List (ByteArray)} {a_1 : Int} {b_1 : Int} {s : σ3} {Y3 : (ByteArray) → (ByteArray) → σ3 → (Int → σ3 → Prop) → Prop} {FL : List HP} {w : World} {K : List (ByteArray) → Prop} {R : Value → World → Prop}
  (hY3 : ∀ (x0 : ByteArray) (x1 : ByteArray) (s : σ3) (K : Int → σ3 → Prop) (FL2 : List HP) (w : World) (R : Value → World → Prop), (∀ w, Mem FL2 w → Mem FL w) → Mem (A3 s :: FL2) w → Y3 x0 x1 s K → (∀ (r : Int) (s : σ3) (w : World), Mem (A3 s :: FL2) w → K r s → R (Value.int .i64 r) w) → CalleeV Try.prog (Value.func ff3 fa3 fc3) #[(Value.string x0), (Value.string x1)] w R) (hn_p_1 : n_1 = data.length)
  (h : Mem (row enc9 9 1 p_1 c_1 data :: A3 s :: FL) w) (hp : slices_reverseRangeCmpFunc_string_wp data a_1 b_1 s Y3 K)
  (hR : ∀ (data_1 : List (ByteArray)) (w : World), data.length = data_1.length → Mem (row enc9 9 1 p_1 c_1 data_1 :: A3 s :: FL) w → K data_1 → R undef w) :
  CallV Try.prog 42 #[(Value.slice p_1 n_1 c_1), (Value.int .i64 a_1), (Value.int .i64 b_1), (Value.func ff3 fa3 fc3)] w R := by
  refine slices_reverseRangeCmpFunc_string_call ?_
  unfold slices_reverseRangeCmpFunc_string
  unfold slices_reverseRangeCmpFunc_string_wp at hp
  subst hn_p_1
  have cpp_1 := rowCap h 0 rfl
  obtain ⟨I, ⟨n_4, h0⟩, hq⟩ := hp
  replace h := h.sel [1, 0] 0
  dsimp only [pickL, pickR, nthH, delH, dropH, List.cons_append, List.nil_append] at h
  refine ⟨fun n_2 data0p data0l data0c i8 j9 w => ∃ (data_1 : List (ByteArray)), p_1 = data0p ∧ data.length = data0l ∧ c_1 = data0c ∧ data.length = data_1.length ∧ I n_2 data_1 i8 j9 ∧ Mem (A3 s :: row enc9 9 1 p_1 c_1 data_1 :: FL) w, ⟨n_4, data, rfl, rfl, rfl, rfl, h0, h⟩, ?_⟩
  clear h0 h
  rintro n_2 data0p data0l data0c i8 j9 w ⟨data_1, rfl, rfl, rfl, hl_data_1, hp, h⟩
  replace hp := hq n_2 data_1 i8 j9 hp
  clear hq
  unfold slices_reverseRangeCmpFunc_string_l1
  refine cond_both' hp (fun hp => ?_) (fun hp => ?_)
  · replace h := h.sel [1, 0] 0
    dsimp only [pickL, pickR, nthH, delH, dropH, List.cons_append, List.nil_append] at h
    exact hR data_1 _ hl_data_1 h hp
  replace h := h.drew
  obtain ⟨ia_2, ja_2, hp⟩ := hp
  obtain ⟨a_2, ha_2⟩ := rdAddr (rowRd h 1 encL9 rfl) hl_data_1 ia_2 ja_2
  refine ⟨a_2, ha_2, ia_2, ja_2, ?_⟩
  obtain ⟨x_1, hx_1, hc⟩ := rdCell0 (rowRd h 1 encL9 rfl) ha_2 hl_data_1 ia_2 ja_2
  replace hp := hp x_1 hx_1
  refine ⟨_, hc _ rfl, ?_⟩
  obtain ⟨ia_3, ja_3, hp⟩ := hp
  obtain ⟨a_3, ha_3⟩ := rdAddr (rowRd h 1 encL9 rfl) hl_data_1 ia_3 ja_3
  refine ⟨a_3, ha_3, ia_3, ja_3, ?_⟩
  obtain ⟨x_2, hx_2, hc⟩ := rdCell0 (rowRd h 1 encL9 rfl) ha_3 hl_data_1 ia_3 ja_3
  replace hp := hp x_2 hx_2
  refine ⟨_, hc _ rfl, ?_⟩
  obtain ⟨ia_4, ja_4, hp⟩ := hp
  obtain ⟨a_4, ha_4⟩ := rdAddr (rowRd h 1 encL9 rfl) hl_data_1 ia_4 ja_4
  refine ⟨a_4, ha_4, ia_4, ja_4, ?_⟩
  refine rowSetW (ys := [(Value.string x_1)]) (x := x_1) h 1 encL9 rfl ha_4 hl_data_1 ia_4 ja_4 sz9 rfl rfl rfl ?_
  intro w h
  dsimp only [setH, setVs, setV] at h
  obtain ⟨ia_5, ja_5, hp⟩ := hp
  obtain ⟨a_5, ha_5⟩ := rdAddr (rowRd h 1 encL9 rfl) (lenSet hl_data_1) ia_5 ja_5
  refine ⟨a_5, ha_5, ia_5, ja_5, ?_⟩
  refine rowSetW (ys := [(Value.string x_2)]) (x := x_2) h 1 encL9 rfl ha_5 (lenSet hl_data_1) ia_5 ja_5 sz9 rfl rfl rfl ?_
  intro w h
  dsimp only [setH, setVs, setV] at h
  obtain ⟨n_3, hn, hp⟩ := hp
  exact ⟨n_3, hn, (List.set (List.set data_1 (Int.toNat i8) x_1) (Int.toNat j9) x_2), rfl, rfl, rfl, (lenSet (lenSet hl_data_1)), hp, h⟩

/-! slices.partialInsertionSortCmpFunc[string] (43) -/
def slices_partialInsertionSortCmpFunc_string_wp {σ3 : Type} (data : List (ByteArray)) (a_1 : Int) (b_1 : Int) (s : σ3) (Y3 : (ByteArray) → (ByteArray) → σ3 → (Int → σ3 → Prop) → Prop) (K : Bool → List (ByteArray) → σ3 → Prop) : Prop :=
  ∃ (I : Nat → List (ByteArray) → Int → Int → σ3 → Prop), (∃ (n_15 : Nat), I n_15 data (IntKind.wrap .i64 (a_1 + 1)) 0 s) ∧ ∀ (n_2 : Nat) (data_1 : List (ByteArray)) (i9 : Int) (j10 : Int) (s_2 : σ3), I n_2 data_1 i9 j10 s_2 → (cond (decide ((j10 : Int) < 5)) (joinP2 (fun (i9_1 : Int) (s_3 : σ3) => cond ((i9_1 : Int) == b_1) (K true data_1 s_3) (cond (decide (((IntKind.wrap .i64 (b_1 - a_1)) : Int) < 50)) (K false data_1 s_3) (0 ≤ ((IntKind.wrap .i64 (i9_1 - 1)) : Int) ∧ ((IntKind.wrap .i64 (i9_1 - 1)) : Int) < ((data.length : Nat) : Int) ∧ (∀ (x_3 : ByteArray), data_1[Int.toNat (IntKind.wrap .i64 (i9_1 - 1))]? = some x_3 → (0 ≤ (i9_1 : Int) ∧ (i9_1 : Int) < ((data.length : Nat) : Int) ∧ (∀ (x_4 : ByteArray), data_1[Int.toNat i9_1]? = some x_4 → (0 ≤ (i9_1 : Int) ∧ (i9_1 : Int) < ((data.length : Nat) : Int) ∧ (0 ≤ ((IntKind.wrap .i64 (i9_1 - 1)) : Int) ∧ ((IntKind.wrap .i64 (i9_1 - 1)) : Int) < ((data.length : Nat) : Int) ∧ (joinP2 (fun (data_2 : List (ByteArray)) (s_7 : σ3) => cond (decide (((IntKind.wrap .i64 (b_1 - i9_1)) : Int) ≥ 2)) (∃ (I_3 : Nat → List (ByteArray) → Int → σ3 → Prop), (∃ (n_13 : Nat), I_3 n_13 data_2 (IntKind.wrap .i64 (i9_1 + 1)) s_7) ∧ ∀ (n_9 : Nat) (data_4 : List (ByteArray)) (j12 : Int) (s_10 : σ3), I_3 n_9 data_4 j12 s_10 → (cond (decide ((j12 : Int) < b_1)) (0 ≤ (j12 : Int) ∧ (j12 : Int) < ((data.length : Nat) : Int) ∧ (∀ (x_13 : ByteArray), data_4[Int.toNat j12]? = some x_13 → (0 ≤ ((IntKind.wrap .i64 (j12 - 1)) : Int) ∧ ((IntKind.wrap .i64 (j12 - 1)) : Int) < ((data.length : Nat) : Int) ∧ (∀ (x_14 : ByteArray), data_4[Int.toNat (IntKind.wrap .i64 (j12 - 1))]? = some x_14 → (Y3 x_13 x_14 s_10 (fun (t122 : Int) (s_11 : σ3) => cond (!(decide ((t122 : Int) < 0))) (∃ (n_10 : Nat), n_10 < n_2 ∧ I n_10 data_4 i9_1 (IntKind.wrap .i64 (j10 + 1)) s_11) (0 ≤ ((IntKind.wrap .i64 (j12 - 1)) : Int) ∧ ((IntKind.wrap .i64 (j12 - 1)) : Int) < ((data.length : Nat) : Int) ∧ (∀ (x_15 : ByteArray), data_4[Int.toNat (IntKind.wrap .i64 (j12 - 1))]? = some x_15 → (0 ≤ (j12 : Int) ∧ (j12 : Int) < ((data.length : Nat) : Int) ∧ (∀ (x_16 : ByteArray), data_4[Int.toNat j12]? = some x_16 → (0 ≤ (j12 : Int) ∧ (j12 : Int) < ((data.length : Nat) : Int) ∧ (0 ≤ ((IntKind.wrap .i64 (j12 - 1)) : Int) ∧ ((IntKind.wrap .i64 (j12 - 1)) : Int) < ((data.length : Nat) : Int) ∧ (∃ (n_11 : Nat), n_11 < n_9 ∧ I_3 n_11 (List.set (List.set data_4 (Int.toNat j12) x_15) (Int.toNat (IntKind.wrap .i64 (j12 - 1))) x_16) (IntKind.wrap .i64 (j12 + 1)) s_11))))))))))))) (∃ (n_12 : Nat), n_12 < n_2 ∧ I n_12 data_4 i9_1 (IntKind.wrap .i64 (j10 + 1)) s_10))) (∃ (n_14 : Nat), n_14 < n_2 ∧ I n_14 data_2 i9_1 (IntKind.wrap .i64 (j10 + 1)) s_7)) (fun (Q_2 : List (ByteArray) → σ3 → Prop) => cond (decide (((IntKind.wrap .i64 (i9_1 - a_1)) : Int) ≥ 2)) (∃ (I_2 : Nat → List (ByteArray) → Int → σ3 → Prop), (∃ (n_8 : Nat), I_2 n_8 (List.set (List.set data_1 (Int.toNat i9_1) x_3) (Int.toNat (IntKind.wrap .i64 (i9_1 - 1))) x_4) (IntKind.wrap .i64 (i9_1 - 1)) s_3) ∧ ∀ (n_6 : Nat) (data_3 : List (ByteArray)) (j11 : Int) (s_8 : σ3), I_2 n_6 data_3 j11 s_8 → (cond (decide ((j11 : Int) ≥ 1)) (0 ≤ (j11 : Int) ∧ (j11 : Int) < ((data.length : Nat) : Int) ∧ (∀ (x_7 : ByteArray), data_3[Int.toNat j11]? = some x_7 → (0 ≤ ((IntKind.wrap .i64 (j11 - 1)) : Int) ∧ ((IntKind.wrap .i64 (j11 - 1)) : Int) < ((data.length : Nat) : Int) ∧ (∀ (x_8 : ByteArray), data_3[Int.toNat (IntKind.wrap .i64 (j11 - 1))]? = some x_8 → (Y3 x_7 x_8 s_8 (fun (t82 : Int) (s_9 : σ3) => cond (!(decide ((t82 : Int) < 0))) (Q_2 data_3 s_9) (0 ≤ ((IntKind.wrap .i64 (j11 - 1)) : Int) ∧ ((IntKind.wrap .i64 (j11 - 1)) : Int) < ((data.length : Nat) : Int) ∧ (∀ (x_9 : ByteArray), data_3[Int.toNat (IntKind.wrap .i64 (j11 - 1))]? = some x_9 → (0 ≤ (j11 : Int) ∧ (j11 : Int) < ((data.length : Nat) : Int) ∧ (∀ (x_10 : ByteArray), data_3[Int.toNat j11]? = some x_10 → (0 ≤ (j11 : Int) ∧ (j11 : Int) < ((data.length : Nat) : Int) ∧ (0 ≤ ((IntKind.wrap .i64 (j11 - 1)) : Int) ∧ ((IntKind.wrap .i64 (j11 - 1)) : Int) < ((data.length : Nat) : Int) ∧ (∃ (n_7 : Nat), n_7 < n_6 ∧ I_2 n_7 (List.set (List.set data_3 (Int.toNat j11) x_9) (Int.toNat (IntKind.wrap .i64 (j11 - 1))) x_10) (IntKind.wrap .i64 (j11 - 1)) s_9))))))))))))) (Q_2 data_3 s_8))) (Q_2 (List.set (List.set data_1 (Int.toNat i9_1) x_3) (Int.toNat (IntKind.wrap .i64 (i9_1 - 1))) x_4) s_3))))))))))) (fun (Q : Int → σ3 → Prop) => ∃ (I_1 : Nat → Int → σ3 → Prop), (∃ (n_5 : Nat), I_1 n_5 i9 s_2) ∧ ∀ (n_3 : Nat) (i9_2 : Int) (s_4 : σ3), I_1 n_3 i9_2 s_4 → (joinP2 (fun (t36 : Bool) (s_5 : σ3) => cond t36 (∃ (n_4 : Nat), n_4 < n_3 ∧ I_1 n_4 (IntKind.wrap .i64 (i9_2 + 1)) s_5) (Q i9_2 s_5)) (fun (Q_1 : Bool → σ3 → Prop) => cond (decide ((i9_2 : Int) < b_1)) (0 ≤ (i9_2 : Int) ∧ (i9_2 : Int) < ((data.length : Nat) : Int) ∧ (∀ (x_1 : ByteArray), data_1[Int.toNat i9_2]? = some x_1 → (0 ≤ ((IntKind.wrap .i64 (i9_2 - 1)) : Int) ∧ ((IntKind.wrap .i64 (i9_2 - 1)) : Int) < ((data.length : Nat) : Int) ∧ (∀ (x_2 : ByteArray), data_1[Int.toNat (IntKind.wrap .i64 (i9_2 - 1))]? = some x_2 → (Y3 x_1 x_2 s_4 (fun (t33 : Int) (s_6 : σ3) => Q_1 (!(decide ((t33 : Int) < 0))) s_6)))))) (Q_1 false s_4))))) (K false data_1 s_2))
theorem slices_partialInsertionSortCmpFunc_string_ok {σ3 : Type} {A3 : σ3 → HP} {p_1 : Option Addr} {c_1 : Nat} {n_1 : Nat} {ff3 : Fn} {fa3 : Array Value} {fc3 : Array Value} {data : List (ByteArray)} {a_1 : Int} {b_1 : Int} {s : σ3} {Y3 : (ByteArray) → (ByteArray) → σ3 → (Int → σ3 → Prop) → Prop} {FL : List HP} {w : World} {K : Bool → List (ByteArray) → σ3 → Prop} {R : Value → World → Prop}
  (hY3 : ∀ (x0 : ByteArray) (x1 : ByteArray) (s : σ3) (K : Int → σ3 → Prop) (FL2 : List HP) (w : World) (R : Value → World → Prop), (∀ w, Mem FL2 w → Mem FL w) → Mem (A3 s :: FL2) w → Y3 x0 x1 s K → (∀ (r : Int) (s : σ3) (w : World), Mem (A3 s :: FL2) w → K r s → R (Value.int .i64 r) w) → CalleeV Try.prog (Value.func ff3 fa3 fc3) #[(Value.string x0), (Value.string x1)] w R) (hn_p_1 : n_1 = data.length)
  (h : Mem (row enc9 9 1 p_1 c_1 data :: A3 s :: FL) w) (hp : slices_partialInsertionSortCmpFunc_string_wp data a_1 b_1 s Y3 K)
  (hR : ∀ (r : Bool) (data_1 : List (ByteArray)) (s_1 : σ3) (w : World), data.length = data_1.length → Mem (row enc9 9 1 p_1 c_1 data_1 :: A3 s_1 :: FL) w → K r data_1 s_1 → R (Value.bool r) w) :
  CallV Try.prog 43 #[(Value.slice p_1 n_1 c_1), (Value.int .i64 a_1), (Value.int .i64 b_1), (Value.func ff3 fa3 fc3)] w R := by
  refine slices_partialInsertionSortCmpFunc_string_call ?_
  unfold slices_partialInsertionSortCmpFunc_string
  unfold slices_partialInsertionSortCmpFunc_string_wp at hp
  subst hn_p_1
  have cpp_1 := rowCap h 0 rfl
  obtain ⟨I, ⟨n_15, h0⟩, hq⟩ := hp
  replace h := h.sel [1, 0] 0
  dsimp only [pickL, pickR, nthH, delH, dropH, List.cons_append, List.nil_append] at h
  refine ⟨fun n_2 data0p data0l data0c a1 b2 cmp3 i9 j10 w => ∃ (data_1 : List (ByteArray)), ∃ (s_2 : σ3), p_1 = data0p ∧ data.length = data0l ∧ c_1 = data0c ∧ a_1 = a1 ∧ b_1 = b2 ∧ (Value.func ff3 fa3 fc3) = cmp3 ∧ data.length = data_1.length ∧ I n_2 data_1 i9 j10 s_2 ∧ Mem (A3 s_2 :: row enc9 9 1 p_1 c_1 data_1 :: FL) w, ⟨n_15, data, s, rfl, rfl, rfl, rfl, rfl, rfl, rfl, h0, h⟩, ?_⟩
  clear h0 h
  rintro n_2 data0p data0l data0c a1 b2 cmp3 i9 j10 w ⟨data_1, s_2, rfl, rfl, rfl, rfl, rfl, rfl, hl_data_1, hp, h⟩
  replace hp := hq n_2 data_1 i9 j10 s_2 hp
  clear hq
  unfold slices_partialInsertionSortCmpFunc_string_l1
  refine cond_both' hp (fun hp => ?_) (fun hp => ?_)
  · replace h := h.sel [1, 0] 0
    dsimp only [pickL, pickR, nthH, delH, dropH, List.cons_append, List.nil_append] at h
    exact hR false data_1 s_2 _ hl_data_1 h hp
  obtain ⟨Q, hq, hp⟩ := hp
  refine ⟨fun data0_1p data0_1l data0_1c a1_1 b2_1 cmp3_1 i9_1 j10_1 w => ∃ (s_3 : σ3), p_1 = data0_1p ∧ data.length = data0_1l ∧ c_1 = data0_1c ∧ a_1 = a1_1 ∧ b_1 = b2_1 ∧ (Value.func ff3 fa3 fc3) = cmp3_1 ∧ j10 = j10_1 ∧ Q i9_1 s_3 ∧ Mem (A3 s_3 :: row enc9 9 1 p_1 c_1 data_1 :: FL) w, ?_, ?_⟩
  · rintro data0_1p data0_1l data0_1c a1_1 b2_1 cmp3_1 i9_1 j10_1 w ⟨s_3, rfl, rfl, rfl, rfl, rfl, rfl, rfl, hp, h⟩
    replace hp := hq i9_1 s_3 hp
    unfold slices_partialInsertionSortCmpFunc_string_j2
    refine cond_both hp (fun hp => ?_) (fun hp => ?_)
    · replace h := h.sel [1, 0] 0
      dsimp only [pickL, pickR, nthH, delH, dropH, List.cons_append, List.nil_append] at h
      exact hR true data_1 s_3 _ hl_data_1 h hp
    refine cond_both hp (fun hp => ?_) (fun hp => ?_)
    · replace h := h.sel [1, 0] 0
      dsimp only [pickL, pickR, nthH, delH, dropH, List.cons_append, List.nil_append] at h
      exact hR false data_1 s_3 _ hl_data_1 h hp
    replace h := h.drew
    obtain ⟨ia_4, ja_4, hp⟩ := hp
    obtain ⟨a_4, ha_4⟩ := rdAddr (rowRd h 1 encL9 rfl) hl_data_1 ia_4 ja_4
    refine ⟨a_4, ha_4, ia_4, ja_4, ?_⟩
    obtain ⟨x_3, hx_3, hc⟩ := rdCell0 (rowRd h 1 encL9 rfl) ha_4 hl_data_1 ia_4 ja_4
    replace hp := hp x_3 hx_3
    refine ⟨_, hc _ rfl, ?_⟩
    obtain ⟨ia_5, ja_5, hp⟩ := hp
    obtain ⟨a_5, ha_5⟩ := rdAddr (rowRd h 1 encL9 rfl) hl_data_1 ia_5 ja_5
    refine ⟨a_5, ha_5, ia_5, ja_5, ?_⟩
    obtain ⟨x_4, hx_4, hc⟩ := rdCell0 (rowRd h 1 encL9 rfl) ha_5 hl_data_1 ia_5 ja_5
    replace hp := hp x_4 hx_4
    refine ⟨_, hc _ rfl, ?_⟩
    obtain ⟨ia_6, ja_6, hp⟩ := hp
    obtain ⟨a_6, ha_6⟩ := rdAddr (rowRd h 1 encL9 rfl) hl_data_1 ia_6 ja_6
    refine ⟨a_6, ha_6, ia_6, ja_6, ?_⟩
    refine rowSetW (ys := [(Value.string x_3)]) (x := x_3) h 1 encL9 rfl ha_6 hl_data_1 ia_6 ja_6 sz9 rfl rfl rfl ?_
    intro w h
    dsimp only [setH, setVs, setV] at h
    obtain ⟨ia_7, ja_7, hp⟩ := hp
    obtain ⟨a_7, ha_7⟩ := rdAddr (rowRd h 1 encL9 rfl) (lenSet hl_data_1) ia_7 ja_7
    refine ⟨a_7, ha_7, ia_7, ja_7, ?_⟩
    refine rowSetW (ys := [(Value.string x_4)]) (x := x_4) h 1 encL9 rfl ha_7 (lenSet hl_data_1) ia_7 ja_7 sz9 rfl rfl rfl ?_
    intro w h
    dsimp only [setH, setVs, setV] at h
    obtain ⟨Q_2, hq, hp⟩ := hp
    refine ⟨fun data0_4p data0_4l data0_4c a1_4 b2_4 cmp3_4 i9_4 j10_4 w => ∃ (data_2 : List (ByteArray)), ∃ (s_7 : σ3), p_1 = data0_4p ∧ data.length = data0_4l ∧ c_1 = data0_4c ∧ a_1 = a1_4 ∧ b_1 = b2_4 ∧ (Value.func ff3 fa3 fc3) = cmp3_4 ∧ i9_1 = i9_4 ∧ j10 = j10_4 ∧ data.length = data_2.length ∧ Q_2 data_2 s_7 ∧ Mem (A3 s_7 :: row enc9 9 1 p_1 c_1 data_2 :: FL) w, ?_, ?_⟩
    · rintro data0_4p data0_4l data0_4c a1_4 b2_4 cmp3_4 i9_4 j10_4 w ⟨data_2, s_7, rfl, rfl, rfl, rfl, rfl, rfl, rfl, rfl, hl_data_2, hp, h⟩
      replace hp := hq data_2 s_7 hp
      unfold slices_partialInsertionSortCmpFunc_string_j3
      refine cond_both' hp (fun hp => ?_) (fun hp => ?_)
      · obtain ⟨n_14, hn, hp⟩ := hp
        exact ⟨n_14, hn, data_2, s_7, rfl, rfl, rfl, rfl, rfl, rfl, hl_data_2, hp, h⟩
      obtain ⟨I_3, ⟨n_13, h0⟩, hq⟩ := hp
      refine ⟨fun n_9 data0_6p data0_6l data0_6c a1_6 b2_6 cmp3_6 i9_6 j10_6 j12 w => ∃ (data_4 : List (ByteArray)), ∃ (s_10 : σ3), p_1 = data0_6p ∧ data.length = data0_6l ∧ c_1 = data0_6c ∧ a_1 = a1_6 ∧ b_1 = b2_6 ∧ (Value.func ff3 fa3 fc3) = cmp3_6 ∧ i9_1 = i9_6 ∧ j10 = j10_6 ∧ data.length = data_4.length ∧ I_3 n_9 data_4 j12 s_10 ∧ Mem (A3 s_10 :: row enc9 9 1 p_1 c_1 data_4 :: FL) w, ⟨n_13, data_2, s_7, rfl, rfl, rfl, rfl, rfl, rfl, rfl, rfl, hl_data_2, h0, h⟩, ?_⟩
      clear h0 h
      rintro n_9 data0_6p data0_6l data0_6c a1_6 b2_6 cmp3_6 i9_6 j10_6 j12 w ⟨data_4, s_10, rfl, rfl, rfl, rfl, rfl, rfl, rfl, rfl, hl_data_4, hp, h⟩
      replace hp := hq n_9 data_4 j12 s_10 hp
      clear hq
      unfold slices_partialInsertionSortCmpFunc_string_l4
      refine cond_both' hp (fun hp => ?_) (fun hp => ?_)
      · obtain ⟨n_12, hn, hp⟩ := hp
        exact ⟨n_12, hn, data_4, s_10, rfl, rfl, rfl, rfl, rfl, rfl, hl_data_4, hp, h⟩
      replace h := h.drew
      obtain ⟨ia_14, ja_14, hp⟩ := hp
      obtain ⟨a_14, ha_14⟩ := rdAddr (rowRd h 1 encL9 rfl) hl_data_4 ia_14 ja_14
      refine ⟨a_14, ha_14, ia_14, ja_14, ?_⟩
      obtain ⟨x_13, hx_13, hc⟩ := rdCell0 (rowRd h 1 encL9 rfl) ha_14 hl_data_4 ia_14 ja_14
      replace hp := hp x_13 hx_13
      refine ⟨_, hc _ rfl, ?_⟩
      obtain ⟨ia_15, ja_15, hp⟩ := hp
      obtain ⟨a_15, ha_15⟩ := rdAddr (rowRd h 1 encL9 rfl) hl_data_4 ia_15 ja_15
      refine ⟨a_15, ha_15, ia_15, ja_15, ?_⟩
      obtain ⟨x_14, hx_14, hc⟩ := rdCell0 (rowRd h 1 encL9 rfl) ha_15 hl_data_4 ia_15 ja_15
      replace hp := hp x_14 hx_14
      refine ⟨_, hc _ rfl, ?_⟩
      refine hY3 x_13 x_14 _ _ (row enc9 9 1 p_1 c_1 data_4 :: FL) _ _ (fun _ h => Mem.drop 1 h) h hp ?_
      intro t122 s_11 w h hp
      refine ⟨_, rfl, ?_⟩
      refine cond_both hp (fun hp => ?_) (fun hp => ?_)
      · obtain ⟨n_10, hn, hp⟩ := hp
        exact ⟨n_10, hn, data_4, s_11, rfl, rfl, rfl, rfl, rfl, rfl, hl_data_4, hp, h⟩
      replace h := h.drew
      obtain ⟨ia_16, ja_16, hp⟩ := hp
      obtain ⟨a_16, ha_16⟩ := rdAddr (rowRd h 1 encL9 rfl) hl_data_4 ia_16 ja_16
      refine ⟨a_16, ha_16, ia_16, ja_16, ?_⟩
      obtain ⟨x_15, hx_15, hc⟩ := rdCell0 (rowRd h 1 encL9 rfl) ha_16 hl_data_4 ia_16 ja_16
      replace hp := hp x_15 hx_15
      refine ⟨_, hc _ rfl, ?_⟩
      obtain ⟨ia_17, ja_17, hp⟩ := hp
      obtain ⟨a_17, ha_17⟩ := rdAddr (rowRd h 1 encL9 rfl) hl_data_4 ia_17 ja_17
      refine ⟨a_17, ha_17, ia_17, ja_17, ?_⟩
      obtain ⟨x_16, hx_16, hc⟩ := rdCell0 (rowRd h 1 encL9 rfl) ha_17 hl_data_4 ia_17 ja_17
      replace hp := hp x_16 hx_16
      refine ⟨_, hc _ rfl, ?_⟩
      obtain ⟨ia_18, ja_18, hp⟩ := hp
      obtain ⟨a_18, ha_18⟩ := rdAddr (rowRd h 1 encL9 rfl) hl_data_4 ia_18 ja_18
      refine ⟨a_18, ha_18, ia_18, ja_18, ?_⟩
      refine rowSetW (ys := [(Value.string x_15)]) (x := x_15) h 1 encL9 rfl ha_18 hl_data_4 ia_18 ja_18 sz9 rfl rfl rfl ?_
      intro w h
      dsimp only [setH, setVs, setV] at h
      obtain ⟨ia_19, ja_19, hp⟩ := hp
      obtain ⟨a_19, ha_19⟩ := rdAddr (rowRd h 1 encL9 rfl) (lenSet hl_data_4) ia_19 ja_19
      refine ⟨a_19, ha_19, ia_19, ja_19, ?_⟩
      refine rowSetW (ys := [(Value.string x_16)]) (x := x_16) h 1 encL9 rfl ha_19 (lenSet hl_data_4) ia_19 ja_19 sz9 rfl rfl rfl ?_
      intro w h
      dsimp only [setH, setVs, setV] at h
      obtain ⟨n_11, hn, hp⟩ := hp
      exact ⟨n_11, hn, (List.set (List.set data_4 (Int.toNat j12) x_15) (Int.toNat (IntKind.wrap .i64 (j12 - 1))) x_16), s_11, rfl, rfl, rfl, rfl, rfl, rfl, rfl, rfl, (lenSet (lenSet hl_data_4)), hp, h⟩
    clear hq
    refine cond_both' hp (fun hp => ?_) (fun hp => ?_)
    · exact ⟨(List.set (List.set data_1 (Int.toNat i9_1) x_3) (Int.toNat (IntKind.wrap .i64 (i9_1 - 1))) x_4), s_3, rfl, rfl, rfl, rfl, rfl, rfl, rfl, rfl, (lenSet (lenSet hl_data_1)), hp, h⟩
    obtain ⟨I_2, ⟨n_8, h0⟩, hq⟩ := hp
    refine ⟨fun n_6 data0_5p data0_5l data0_5c a1_5 b2_5 cmp3_5 i9_5 j10_5 j11 w => ∃ (data_3 : List (ByteArray)), ∃ (s_8 : σ3), p_1 = data0_5p ∧ data.length = data0_5l ∧ c_1 = data0_5c ∧ a_1 = a1_5 ∧ b_1 = b2_5 ∧ (Value.func ff3 fa3 fc3) = cmp3_5 ∧ i9_1 = i9_5 ∧ j10 = j10_5 ∧ data.length = data_3.length ∧ I_2 n_6 data_3 j11 s_8 ∧ Mem (A3 s_8 :: row enc9 9 1 p_1 c_1 data_3 :: FL) w, ⟨n_8, (List.set (List.set data_1 (Int.toNat i9_1) x_3) (Int.toNat (IntKind.wrap .i64 (i9_1 - 1))) x_4), s_3, rfl, rfl, rfl, rfl, rfl, rfl, rfl, rfl, (lenSet (lenSet hl_data_1)), h0, h⟩, ?_⟩
    clear h0 h
    rintro n_6 data0_5p data0_5l data0_5c a1_5 b2_5 cmp3_5 i9_5 j10_5 j11 w ⟨data_3, s_8, rfl, rfl, rfl, rfl, rfl, rfl, rfl, rfl, hl_data_3, hp, h⟩
    replace hp := hq n_6 data_3 j11 s_8 hp
    clear hq
    unfold slices_partialInsertionSortCmpFunc_string_l5
    refine cond_both' hp (fun hp => ?_) (fun hp => ?_)
    · exact ⟨data_3, s_8, rfl, rfl, rfl, rfl, rfl, rfl, rfl, rfl, hl_data_3, hp, h⟩
    replace h := h.drew
    obtain ⟨ia_8, ja_8, hp⟩ := hp
    obtain ⟨a_8, ha_8⟩ := rdAddr (rowRd h 1 encL9 rfl) hl_data_3 ia_8 ja_8
    refine ⟨a_8, ha_8, ia_8, ja_8, ?_⟩
    obtain ⟨x_7, hx_7, hc⟩ := rdCell0 (rowRd h 1 encL9 rfl) ha_8 hl_data_3 ia_8 ja_8
    replace hp := hp x_7 hx_7
    refine ⟨_, hc _ rfl, ?_⟩
    obtain ⟨ia_9, ja_9, hp⟩ := hp
    obtain ⟨a_9, ha_9⟩ := rdAddr (rowRd h 1 encL9 rfl) hl_data_3 ia_9 ja_9
    refine ⟨a_9, ha_9, ia_9, ja_9, ?_⟩
    obtain ⟨x_8, hx_8, hc⟩ := rdCell0 (rowRd h 1 encL9 rfl) ha_9 hl_data_3 ia_9 ja_9
    replace hp := hp x_8 hx_8
    refine ⟨_, hc _ rfl, ?_⟩
    refine hY3 x_7 x_8 _ _ (row enc9 9 1 p_1 c_1 data_3 :: FL) _ _ (fun _ h => Mem.drop 1 h) h hp ?_
    intro t82 s_9 w h hp
    refine ⟨_, rfl, ?_⟩
    refine cond_both hp (fun hp => ?_) (fun hp => ?_)
    · exact ⟨data_3, s_9, rfl, rfl, rfl, rfl, rfl, rfl, rfl, rfl, hl_data_3, hp, h⟩
    replace h := h.drew
    obtain ⟨ia_10, ja_10, hp⟩ := hp
    obtain ⟨a_10, ha_10⟩ := rdAddr (rowRd h 1 encL9 rfl) hl_data_3 ia_10 ja_10
    refine ⟨a_10, ha_10, ia_10, ja_10, ?_⟩
    obtain ⟨x_9, hx_9, hc⟩ := rdCell0 (rowRd h 1 encL9 rfl) ha_10 hl_data_3 ia_10 ja_10
    replace hp := hp x_9 hx_9
    refine ⟨_, hc _ rfl, ?_⟩
    obtain ⟨ia_11, ja_11, hp⟩ := hp
    obtain ⟨a_11, ha_11⟩ := rdAddr (rowRd h 1 encL9 rfl) hl_data_3 ia_11 ja_11
    refine ⟨a_11, ha_11, ia_11, ja_11, ?_⟩
    obtain ⟨x_10, hx_10, hc⟩ := rdCell0 (rowRd h 1 encL9 rfl) ha_11 hl_data_3 ia_11 ja_11
    replace hp := hp x_10 hx_10
    refine ⟨_, hc _ rfl, ?_⟩
    obtain ⟨ia_12, ja_12, hp⟩ := hp
    obtain ⟨a_12, ha_12⟩ := rdAddr (rowRd h 1 encL9 rfl) hl_data_3 ia_12 ja_12
    refine ⟨a_12, ha_12, ia_12, ja_12, ?_⟩
    refine rowSetW (ys := [(Value.string x_9)]) (x := x_9) h 1 encL9 rfl ha_12 hl_data_3 ia_12 ja_12 sz9 rfl rfl rfl ?_
    intro w h
    dsimp only [setH, setVs, setV] at h
    obtain ⟨ia_13, ja_13, hp⟩ := hp
    obtain ⟨a_13, ha_13⟩ := rdAddr (rowRd h 1 encL9 rfl) (lenSet hl_data_3) ia_13 ja_13
    refine ⟨a_13, ha_13, ia_13, ja_13, ?_⟩
    refine rowSetW (ys := [(Value.string x_10)]) (x := x_10) h 1 encL9 rfl ha_13 (lenSet hl_data_3) ia_13 ja_13 sz9 rfl rfl rfl ?_
    intro w h
    dsimp only [setH, setVs, setV] at h
    obtain ⟨n_7, hn, hp⟩ := hp
    exact ⟨n_7, hn, (List.set (List.set data_3 (Int.toNat j11) x_9) (Int.toNat (IntKind.wrap .i64 (j11 - 1))) x_10), s_9, rfl, rfl, rfl, rfl, rfl, rfl, rfl, rfl, (lenSet (lenSet hl_data_3)), hp, h⟩
  clear hq
  obtain ⟨I_1, ⟨n_5, h0⟩, hq⟩ := hp
  refine ⟨fun n_3 data0_2p data0_2l data0_2c a1_2 b2_2 cmp3_2 i9_2 j10_2 w => ∃ (s_4 : σ3), p_1 = data0_2p ∧ data.length = data0_2l ∧ c_1 = data0_2c ∧ a_1 = a1_2 ∧ b_1 = b2_2 ∧ (Value.func ff3 fa3 fc3) = cmp3_2 ∧ j10 = j10_2 ∧ I_1 n_3 i9_2 s_4 ∧ Mem (A3 s_4 :: row enc9 9 1 p_1 c_1 data_1 :: FL) w, ⟨n_5, s_2, rfl, rfl, rfl, rfl, rfl, rfl, rfl, h0, h⟩, ?_⟩
  clear h0 h
  rintro n_3 data0_2p data0_2l data0_2c a1_2 b2_2 cmp3_2 i9_2 j10_2 w ⟨s_4, rfl, rfl, rfl, rfl, rfl, rfl, rfl, hp, h⟩
  replace hp := hq n_3 i9_2 s_4 hp
  clear hq
  unfold slices_partialInsertionSortCmpFunc_string_l6
  obtain ⟨Q_1, hq, hp⟩ := hp
  refine ⟨fun data0_3p data0_3l data0_3c a1_3 b2_3 cmp3_3 i9_3 j10_3 t36 w => ∃ (s_5 : σ3), p_1 = data0_3p ∧ data.length = data0_3l ∧ c_1 = data0_3c ∧ a_1 = a1_3 ∧ b_1 = b2_3 ∧ (Value.func ff3 fa3 fc3) = cmp3_3 ∧ i9_2 = i9_3 ∧ j10 = j10_3 ∧ Q_1 t36 s_5 ∧ Mem (A3 s_5 :: row enc9 9 1 p_1 c_1 data_1 :: FL) w, ?_, ?_⟩
  · rintro data0_3p data0_3l data0_3c a1_3 b2_3 cmp3_3 i9_3 j10_3 t36 w ⟨s_5, rfl, rfl, rfl, rfl, rfl, rfl, rfl, rfl, hp, h⟩
    replace hp := hq t36 s_5 hp
    unfold slices_partialInsertionSortCmpFunc_string_j7
    refine cond_both' hp (fun hp => ?_) (fun hp => ?_)
    · exact ⟨s_5, rfl, rfl, rfl, rfl, rfl, rfl, rfl, hp, h⟩
    obtain ⟨n_4, hn, hp⟩ := hp
    exact ⟨n_4, hn, s_5, rfl, rfl, rfl, rfl, rfl, rfl, rfl, hp, h⟩
  clear hq
  replace h := h.drew
  refine cond_both' hp (fun hp => ?_) (fun hp => ?_)
  · exact ⟨s_4, rfl, rfl, rfl, rfl, rfl, rfl, rfl, rfl, hp, h⟩
  obtain ⟨ia_2, ja_2, hp⟩ := hp
  obtain ⟨a_2, ha_2⟩ := rdAddr (rowRd h 1 encL9 rfl) hl_data_1 ia_2 ja_2
  refine ⟨a_2, ha_2, ia_2, ja_2, ?_⟩
  obtain ⟨x_1, hx_1, hc⟩ := rdCell0 (rowRd h 1 encL9 rfl) ha_2 hl_data_1 ia_2 ja_2
  replace hp := hp x_1 hx_1
  refine ⟨_, hc _ rfl, ?_⟩
  obtain ⟨ia_3, ja_3, hp⟩ := hp
  obtain ⟨a_3, ha_3⟩ := rdAddr (rowRd h 1 encL9 rfl) hl_data_1 ia_3 ja_3
  refine ⟨a_3, ha_3, ia_3, ja_3, ?_⟩
  obtain ⟨x_2, hx_2, hc⟩ := rdCell0 (rowRd h 1 encL9 rfl) ha_3 hl_data_1 ia_3 ja_3
  replace hp := hp x_2 hx_2
  refine ⟨_, hc _ rfl, ?_⟩
  refine hY3 x_1 x_2 _ _ (row enc9 9 1 p_1 c_1 data_1 :: FL) _ _ (fun _ h => Mem.drop 1 h) h hp ?_
  intro t33 s_6 w h hp
  refine ⟨_, rfl, ?_⟩
  exact ⟨s_6, rfl, rfl, rfl, rfl, rfl, rfl, rfl, rfl, hp, h⟩

/-! slices.partitionEqualCmpFunc[string] (44) -/
def slices_partitionEqualCmpFunc_string_wp {σ4 : Type} (data : List (ByteArray)) (a_1 : Int) (b_1 : Int) (pivot : Int) (s : σ4) (Y4 : (ByteArray) → (ByteArray) → σ4 → (Int → σ4 → Prop) → Prop) (K : Int → List (ByteArray) → σ4 → Prop) : Prop :=
  0 ≤ (pivot : Int) ∧ (pivot : Int) < ((data.length : Nat) : Int) ∧ (∀ (x_1 : ByteArray), data[Int.toNat pivot]? = some x_1 → (0 ≤ (a_1 : Int) ∧ (a_1 : Int) < ((data.length : Nat) : Int) ∧ (∀ (x_2 : ByteArray), data[Int.toNat a_1]? = some x_2 → (0 ≤ (a_1 : Int) ∧ (a_1 : Int) < ((data.length : Nat) : Int) ∧ (0 ≤ (pivot : Int) ∧ (pivot : Int) < ((data.length : Nat) : Int) ∧ (∃ (I : Nat → List (ByteArray) → Int → Int → σ4 → Prop), (∃ (n_10 : Nat), I n_10 (List.set (List.set data (Int.toNat a_1) x_1) (Int.toNat pivot) x_2) (IntKind.wrap .i64 (a_1 + 1)) (IntKind.wrap .i64 (b_1 - 1)) s) ∧ ∀ (n_2 : Nat) (data_1 : List (ByteArray)) (i11 : Int) (j12 : Int) (s_2 : σ4), I n_2 data_1 i11 j12 s_2 → (joinP2 (fun (i11_1 : Int) (s_3 : σ4) => joinP2 (fun (j12_4 : Int) (s_7 : σ4) => cond (decide ((i11_1 : Int) > j12_4)) (K i11_1 data_1 s_7) (0 ≤ (j12_4 : Int) ∧ (j12_4 : Int) < ((data.length : Nat) : Int) ∧ (∀ (x_9 : ByteArray), data_1[Int.toNat j12_4]? = some x_9 → (0 ≤ (i11_1 : Int) ∧ (i11_1 : Int) < ((data.length : Nat) : Int) ∧ (∀ (x_10 : ByteArray), data_1[Int.toNat i11_1]? = some x_10 → (0 ≤ (i11_1 : Int) ∧ (i11_1 : Int) < ((data.length : Nat) : Int) ∧ (0 ≤ (j12_4 : Int) ∧ (j12_4 : Int) < ((data.length : Nat) : Int) ∧ (∃ (n_9 : Nat), n_9 < n_2 ∧ I n_9 (List.set (List.set data_1 (Int.toNat i11_1) x_9) (Int.toNat j12_4) x_10) (IntKind.wrap .i64 (i11_1 + 1)) (IntKind.wrap .i64 (j12_4 - 1)) s_7)))))))) (fun (Q_2 : Int → σ4 → Prop) => ∃ (I_2 : Nat → Int → σ4 → Prop), (∃ (n_8 : Nat), I_2 n_8 j12 s_3) ∧ ∀ (n_6 : Nat) (j12_5 : Int) (s_8 : σ4), I_2 n_6 j12_5 s_8 → (joinP2 (fun (t65 : Bool) (s_9 : σ4) => cond t65 (∃ (n_7 : Nat), n_7 < n_6 ∧ I_2 n_7 (IntKind.wrap .i64 (j12_5 - 1)) s_9) (Q_2 j12_5 s_9)) (fun (Q_3 : Bool → σ4 → Prop) => cond (decide ((i11_1 : Int) ≤ j12_5)) (0 ≤ (a_1 : Int) ∧ (a_1 : Int) < ((data.length : Nat) : Int) ∧ (∀ (x_7 : ByteArray), data_1[Int.toNat a_1]? = some x_7 → (0 ≤ (j12_5 : Int) ∧ (j12_5 : Int) < ((data.length : Nat) : Int) ∧ (∀ (x_8 : ByteArray), data_1[Int.toNat j12_5]? = some x_8 → (Y4 x_7 x_8 s_8 (fun (t63 : Int) (s_10 : σ4) => Q_3 (decide ((t63 : Int) < 0)) s_10)))))) (Q_3 false s_8))))) (fun (Q : Int → σ4 → Prop) => ∃ (I_1 : Nat → Int → σ4 → Prop), (∃ (n_5 : Nat), I_1 n_5 i11 s_2) ∧ ∀ (n_3 : Nat) (i11_2 : Int) (s_4 : σ4), I_1 n_3 i11_2 s_4 → (joinP2 (fun (t47 : Bool) (s_5 : σ4) => cond t47 (∃ (n_4 : Nat), n_4 < n_3 ∧ I_1 n_4 (IntKind.wrap .i64 (i11_2 + 1)) s_5) (Q i11_2 s_5)) (fun (Q_1 : Bool → σ4 → Prop) => cond (decide ((i11_2 : Int) ≤ j12)) (0 ≤ (a_1 : Int) ∧ (a_1 : Int) < ((data.length : Nat) : Int) ∧ (∀ (x_5 : ByteArray), data_1[Int.toNat a_1]? = some x_5 → (0 ≤ (i11_2 : Int) ∧ (i11_2 : Int) < ((data.length : Nat) : Int) ∧ (∀ (x_6 : ByteArray), data_1[Int.toNat i11_2]? = some x_6 → (Y4 x_5 x_6 s_4 (fun (t44 : Int) (s_6 : σ4) => Q_1 (!(decide ((t44 : Int) < 0))) s_6)))))) (Q_1 false s_4)))))))))))
theorem slices_partitionEqualCmpFunc_string_ok {σ4 : Type} {A4 : σ4 → HP} {p_1 : Option Addr} {c_1 : Nat} {n_1 : Nat} {ff4 : Fn} {fa4 : Array Value} {fc4 : Array Value} {data : List (ByteArray)} {a_1 : Int} {b_1 : Int} {pivot : Int} {s : σ4} {Y4 : (ByteArray) → (ByteArray) → σ4 → (Int → σ4 → Prop) → Prop} {FL : List HP} {w : World} {K : Int → List (ByteArray) → σ4 → Prop} {R : Value → World → Prop}
  (hY4 : ∀ (x0 : ByteArray) (x1 : ByteArray) (s : σ4) (K : Int → σ4 → Prop) (FL2 : List HP) (w : World) (R : Value → World → Prop), (∀ w, Mem FL2 w → Mem FL w) → Mem (A4 s :: FL2) w → Y4 x0 x1 s K → (∀ (r : Int) (s : σ4) (w : World), Mem (A4 s :: FL2) w → K r s → R (Value.int .i64 r) w) → CalleeV Try.prog (Value.func ff4 fa4 fc4) #[(Value.string x0), (Value.string x1)] w R) (hn_p_1 : n_1 = data.length)
  (h : Mem (row enc9 9 1 p_1 c_1 data :: A4 s :: FL) w) (hp : slices_partitionEqualCmpFunc_string_wp data a_1 b_1 pivot s Y4 K)
  (hR : ∀ (r : Int) (data_1 : List (ByteArray)) (s_1 : σ4) (w : World), data.length = data_1.length → Mem (row enc9 9 1 p_1 c_1 data_1 :: A4 s_1 :: FL) w → K r data_1 s_1 → R (Value.int .i64 r) w) :
  CallV Try.prog 44 #[(Value.slice p_1 n_1 c_1), (Value.int .i64 a_1), (Value.int .i64 b_1), (Value.int .i64 pivot), (Value.func ff4 fa4 fc4)] w R := by
  refine slices_partitionEqualCmpFunc_string_call ?_
  unfold slices_partitionEqualCmpFunc_string
  unfold slices_partitionEqualCmpFunc_string_wp at hp
  subst hn_p_1
  have cpp_1 := rowCap h 0 rfl
  replace h := h.drew
  obtain ⟨ia_2, ja_2, hp⟩ := hp
  obtain ⟨a_2, ha_2⟩ := rdAddr (rowRd h 0 encL9 rfl) rfl ia_2 ja_2
  refine ⟨a_2, ha_2, ia_2, ja_2, ?_⟩
  obtain ⟨x_1, hx_1, hc⟩ := rdCell0 (rowRd h 0 encL9 rfl) ha_2 rfl ia_2 ja_2
  replace hp := hp x_1 hx_1
  refine ⟨_, hc _ rfl, ?_⟩
  obtain ⟨ia_3, ja_3, hp⟩ := hp
  obtain ⟨a_3, ha_3⟩ := rdAddr (rowRd h 0 encL9 rfl) rfl ia_3 ja_3
  refine ⟨a_3, ha_3, ia_3, ja_3, ?_⟩
  obtain ⟨x_2, hx_2, hc⟩ := rdCell0 (rowRd h 0 encL9 rfl) ha_3 rfl ia_3 ja_3
  replace hp := hp x_2 hx_2
  refine ⟨_, hc _ rfl, ?_⟩
  obtain ⟨ia_4, ja_4, hp⟩ := hp
  obtain ⟨a_4, ha_4⟩ := rdAddr (rowRd h 0 encL9 rfl) rfl ia_4 ja_4
  refine ⟨a_4, ha_4, ia_4, ja_4, ?_⟩
  refine rowSetW (ys := [(Value.string x_1)]) (x := x_1) h 0 encL9 rfl ha_4 rfl ia_4 ja_4 sz9 rfl rfl rfl ?_
  intro w h
  dsimp only [setH, setVs, setV] at h
  obtain ⟨ia_5, ja_5, hp⟩ := hp
  obtain ⟨a_5, ha_5⟩ := rdAddr (rowRd h 0 encL9 rfl) (lenSet rfl) ia_5 ja_5
  refine ⟨a_5, ha_5, ia_5, ja_5, ?_⟩
  refine rowSetW (ys := [(Value.string x_2)]) (x := x_2) h 0 encL9 rfl ha_5 (lenSet rfl) ia_5 ja_5 sz9 rfl rfl rfl ?_
  intro w h
  dsimp only [setH, setVs, setV] at h
  obtain ⟨I, ⟨n_10, h0⟩, hq⟩ := hp
  replace h := h.sel [1, 0] 0
  dsimp only [pickL, pickR, nthH, delH, dropH, List.cons_append, List.nil_append] at h
  refine ⟨fun n_2 data0p data0l data0c a1 cmp4 i11 j12 w => ∃ (data_1 : List (ByteArray)), ∃ (s_2 : σ4), p_1 = data0p ∧ data.length = data0l ∧ c_1 = data0c ∧ a_1 = a1 ∧ (Value.func ff4 fa4 fc4) = cmp4 ∧ data.length = data_1.length ∧ I n_2 data_1 i11 j12 s_2 ∧ Mem (A4 s_2 :: row enc9 9 1 p_1 c_1 data_1 :: FL) w, ⟨n_10, (List.set (List.set data (Int.toNat a_1) x_1) (Int.toNat pivot) x_2), s, rfl, rfl, rfl, rfl, rfl, (lenSet (lenSet rfl)), h0, h⟩, ?_⟩
  clear h0 h
  rintro n_2 data0p data0l data0c a1 cmp4 i11 j12 w ⟨data_1, s_2, rfl, rfl, rfl, rfl, rfl, hl_data_1, hp, h⟩
  replace hp := hq n_2 data_1 i11 j12 s_2 hp
  clear hq
  unfold slices_partitionEqualCmpFunc_string_l1
  obtain ⟨Q, hq, hp⟩ := hp
  refine ⟨fun data0_1p data0_1l data0_1c a1_1 cmp4_1 i11_1 j12_1 w => ∃ (s_3 : σ4), p_1 = data0_1p ∧ data.length = data0_1l ∧ c_1 = data0_1c ∧ a_1 = a1_1 ∧ (Value.func ff4 fa4 fc4) = cmp4_1 ∧ j12 = j12_1 ∧ Q i11_1 s_3 ∧ Mem (A4 s_3 :: row enc9 9 1 p_1 c_1 data_1 :: FL) w, ?_, ?_⟩
  · rintro data0_1p data0_1l data0_1c a1_1 cmp4_1 i11_1 j12_1 w ⟨s_3, rfl, rfl, rfl, rfl, rfl, rfl, hp, h⟩
    replace hp := hq i11_1 s_3 hp
    unfold slices_partitionEqualCmpFunc_string_j2
    obtain ⟨Q_2, hq, hp⟩ := hp
    refine ⟨fun data0_4p data0_4l data0_4c a1_4 cmp4_4 i11_4 j12_4 w => ∃ (s_7 : σ4), p_1 = data0_4p ∧ data.length = data0_4l ∧ c_1 = data0_4c ∧ a_1 = a1_4 ∧ (Value.func ff4 fa4 fc4) = cmp4_4 ∧ i11_1 = i11_4 ∧ Q_2 j12_4 s_7 ∧ Mem (A4 s_7 :: row enc9 9 1 p_1 c_1 data_1 :: FL) w, ?_, ?_⟩
    · rintro data0_4p data0_4l data0_4c a1_4 cmp4_4 i11_4 j12_4 w ⟨s_7, rfl, rfl, rfl, rfl, rfl, rfl, hp, h⟩
      replace hp := hq j12_4 s_7 hp
      unfold slices_partitionEqualCmpFunc_string_j3
      refine cond_both hp (fun hp => ?_) (fun hp => ?_)
      · replace h := h.sel [1, 0] 0
        dsimp only [pickL, pickR, nthH, delH, dropH, List.cons_append, List.nil_append] at h
        exact hR i11_1 data_1 s_7 _ hl_data_1 h hp
      replace h := h.drew
      obtain ⟨ia_10, ja_10, hp⟩ := hp
      obtain ⟨a_10, ha_10⟩ := rdAddr (rowRd h 1 encL9 rfl) hl_data_1 ia_10 ja_10
      refine ⟨a_10, ha_10, ia_10, ja_10, ?_⟩
      obtain ⟨x_9, hx_9, hc⟩ := rdCell0 (rowRd h 1 encL9 rfl) ha_10 hl_data_1 ia_10 ja_10
      replace hp := hp x_9 hx_9
      refine ⟨_, hc _ rfl, ?_⟩
      obtain ⟨ia_11, ja_11, hp⟩ := hp
      obtain ⟨a_11, ha_11⟩ := rdAddr (rowRd h 1 encL9 rfl) hl_data_1 ia_11 ja_11
      refine ⟨a_11, ha_11, ia_11, ja_11, ?_⟩
      obtain ⟨x_10, hx_10, hc⟩ := rdCell0 (rowRd h 1 encL9 rfl) ha_11 hl_data_1 ia_11 ja_11
      replace hp := hp x_10 hx_10
      refine ⟨_, hc _ rfl, ?_⟩
      obtain ⟨ia_12, ja_12, hp⟩ := hp
      obtain ⟨a_12, ha_12⟩ := rdAddr (rowRd h 1 encL9 rfl) hl_data_1 ia_12 ja_12
      refine ⟨a_12, ha_12, ia_12, ja_12, ?_⟩
      refine rowSetW (ys := [(Value.string x_9)]) (x := x_9) h 1 encL9 rfl ha_12 hl_data_1 ia_12 ja_12 sz9 rfl rfl rfl ?_
      intro w h
      dsimp only [setH, setVs, setV] at h
      obtain ⟨ia_13, ja_13, hp⟩ := hp
      obtain ⟨a_13, ha_13⟩ := rdAddr (rowRd h 1 encL9 rfl) (lenSet hl_data_1) ia_13 ja_13
      refine ⟨a_13, ha_13, ia_13, ja_13, ?_⟩
      refine rowSetW (ys := [(Value.string x_10)]) (x := x_10) h 1 encL9 rfl ha_13 (lenSet hl_data_1) ia_13 ja_13 sz9 rfl rfl rfl ?_
      intro w h
      dsimp only [setH, setVs, setV] at h
      obtain ⟨n_9, hn, hp⟩ := hp
      exact ⟨n_9, hn, (List.set (List.set data_1 (Int.toNat i11_1) x_9) (Int.toNat j12_4) x_10), s_7, rfl, rfl, rfl, rfl, rfl, (lenSet (lenSet hl_data_1)), hp, h⟩
    clear hq
    obtain ⟨I_2, ⟨n_8, h0⟩, hq⟩ := hp
    refine ⟨fun n_6 data0_5p data0_5l data0_5c a1_5 cmp4_5 i11_5 j12_5 w => ∃ (s_8 : σ4), p_1 = data0_5p ∧ data.length = data0_5l ∧ c_1 = data0_5c ∧ a_1 = a1_5 ∧ (Value.func ff4 fa4 fc4) = cmp4_5 ∧ i11_1 = i11_5 ∧ I_2 n_6 j12_5 s_8 ∧ Mem (A4 s_8 :: row enc9 9 1 p_1 c_1 data_1 :: FL) w, ⟨n_8, s_3, rfl, rfl, rfl, rfl, rfl, rfl, h0, h⟩, ?_⟩
    clear h0 h
    rintro n_6 data0_5p data0_5l data0_5c a1_5 cmp4_5 i11_5 j12_5 w ⟨s_8, rfl, rfl, rfl, rfl, rfl, rfl, hp, h⟩
    replace hp := hq n_6 j12_5 s_8 hp
    clear hq
    unfold slices_partitionEqualCmpFunc_string_l4
    obtain ⟨Q_3, hq, hp⟩ := hp
    refine ⟨fun data0_6p data0_6l data0_6c a1_6 cmp4_6 i11_6 j12_6 t65 w => ∃ (s_9 : σ4), p_1 = data0_6p ∧ data.length = data0_6l ∧ c_1 = data0_6c ∧ a_1 = a1_6 ∧ (Value.func ff4 fa4 fc4) = cmp4_6 ∧ i11_1 = i11_6 ∧ j12_5 = j12_6 ∧ Q_3 t65 s_9 ∧ Mem (A4 s_9 :: row enc9 9 1 p_1 c_1 data_1 :: FL) w, ?_, ?_⟩
    · rintro data0_6p data0_6l data0_6c a1_6 cmp4_6 i11_6 j12_6 t65 w ⟨s_9, rfl, rfl, rfl, rfl, rfl, rfl, rfl, hp, h⟩
      replace hp := hq t65 s_9 hp
      unfold slices_partitionEqualCmpFunc_string_j5
      refine cond_both' hp (fun hp => ?_) (fun hp => ?_)
      · exact ⟨s_9, rfl, rfl, rfl, rfl, rfl, rfl, hp, h⟩
      obtain ⟨n_7, hn, hp⟩ := hp
      exact ⟨n_7, hn, s_9, rfl, rfl, rfl, rfl, rfl, rfl, hp, h⟩
    clear hq
    replace h := h.drew
    refine cond_both' hp (fun hp => ?_) (fun hp => ?_)
    · exact ⟨s_8, rfl, rfl, rfl, rfl, rfl, rfl, rfl, hp, h⟩
    obtain ⟨ia_8, ja_8, hp⟩ := hp
    obtain ⟨a_8, ha_8⟩ := rdAddr (rowRd h 1 encL9 rfl) hl_data_1 ia_8 ja_8
    refine ⟨a_8, ha_8, ia_8, ja_8, ?_⟩
    obtain ⟨x_7, hx_7, hc⟩ := rdCell0 (rowRd h 1 encL9 rfl) ha_8 hl_data_1 ia_8 ja_8
    replace hp := hp x_7 hx_7
    refine ⟨_, hc _ rfl, ?_⟩
    obtain ⟨ia_9, ja_9, hp⟩ := hp
    obtain ⟨a_9, ha_9⟩ := rdAddr (rowRd h 1 encL9 rfl) hl_data_1 ia_9 ja_9
    refine ⟨a_9, ha_9, ia_9, ja_9, ?_⟩
    obtain ⟨x_8, hx_8, hc⟩ := rdCell0 (rowRd h 1 encL9 rfl) ha_9 hl_data_1 ia_9 ja_9
    replace hp := hp x_8 hx_8
    refine ⟨_, hc _ rfl, ?_⟩
    refine hY4 x_7 x_8 _ _ (row enc9 9 1 p_1 c_1 data_1 :: FL) _ _ (fun _ h => Mem.drop 1 h) h hp ?_
    intro t63 s_10 w h hp
    refine ⟨_, rfl, ?_⟩
    exact ⟨s_10, rfl, rfl, rfl, rfl, rfl, rfl, rfl, hp, h⟩
  clear hq
  obtain ⟨I_1, ⟨n_5, h0⟩, hq⟩ := hp
  refine ⟨fun n_3 data0_2p data0_2l data0_2c a1_2 cmp4_2 i11_2 j12_2 w => ∃ (s_4 : σ4), p_1 = data0_2p ∧ data.length = data0_2l ∧ c_1 = data0_2c ∧ a_1 = a1_2 ∧ (Value.func ff4 fa4 fc4) = cmp4_2 ∧ j12 = j12_2 ∧ I_1 n_3 i11_2 s_4 ∧ Mem (A4 s_4 :: row enc9 9 1 p_1 c_1 data_1 :: FL) w, ⟨n_5, s_2, rfl, rfl, rfl, rfl, rfl, rfl, h0, h⟩, ?_⟩
  clear h0 h
  rintro n_3 data0_2p data0_2l data0_2c a1_2 cmp4_2 i11_2 j12_2 w ⟨s_4, rfl, rfl, rfl, rfl, rfl, rfl, hp, h⟩
  replace hp := hq n_3 i11_2 s_4 hp
  clear hq
  unfold slices_partitionEqualCmpFunc_string_l6
  obtain ⟨Q_1, hq, hp⟩ := hp
  refine ⟨fun data0_3p data0_3l data0_3c a1_3 cmp4_3 i11_3 j12_3 t47 w => ∃ (s_5 : σ4), p_1 = data0_3p ∧ data.length = data0_3l ∧ c_1 = data0_3c ∧ a_1 = a1_3 ∧ (Value.func ff4 fa4 fc4) = cmp4_3 ∧ i11_2 = i11_3 ∧ j12 = j12_3 ∧ Q_1 t47 s_5 ∧ Mem (A4 s_5 :: row enc9 9 1 p_1 c_1 data_1 :: FL) w, ?_, ?_⟩
  · rintro data0_3p data0_3l data0_3c a1_3 cmp4_3 i11_3 j12_3 t47 w ⟨s_5, rfl, rfl, rfl, rfl, rfl, rfl, rfl, hp, h⟩
    replace hp := hq t47 s_5 hp
    unfold slices_partitionEqualCmpFunc_string_j7
    refine cond_both' hp (fun hp => ?_) (fun hp => ?_)
    · exact ⟨s_5, rfl, rfl, rfl, rfl, rfl, rfl, hp, h⟩
    obtain ⟨n_4, hn, hp⟩ := hp
    exact ⟨n_4, hn, s_5, rfl, rfl, rfl, rfl, rfl, rfl, hp, h⟩
  clear hq
  replace h := h.drew
  refine cond_both' hp (fun hp => ?_) (fun hp => ?_)
  · exact ⟨s_4, rfl, rfl, rfl, rfl, rfl, rfl, rfl, hp, h⟩
  obtain ⟨ia_6, ja_6, hp⟩ := hp
  obtain ⟨a_6, ha_6⟩ := rdAddr (rowRd h 1 encL9 rfl) hl_data_1 ia_6 ja_6
  refine ⟨a_6, ha_6, ia_6, ja_6, ?_⟩
  obtain ⟨x_5, hx_5, hc⟩ := rdCell0 (rowRd h 1 encL9 rfl) ha_6 hl_data_1 ia_6 ja_6
  replace hp := hp x_5 hx_5
  refine ⟨_, hc _ rfl, ?_⟩
  obtain ⟨ia_7, ja_7, hp⟩ := hp
  obtain ⟨a_7, ha_7⟩ := rdAddr (rowRd h 1 encL9 rfl) hl_data_1 ia_7 ja_7
  refine ⟨a_7, ha_7, ia_7, ja_7, ?_⟩
  obtain ⟨x_6, hx_6, hc⟩ := rdCell0 (rowRd h 1 encL9 rfl) ha_7 hl_data_1 ia_7 ja_7
  replace hp := hp x_6 hx_6
  refine ⟨_, hc _ rfl, ?_⟩
  refine hY4 x_5 x_6 _ _ (row enc9 9 1 p_1 c_1 data_1 :: FL) _ _ (fun _ h => Mem.drop 1 h) h hp ?_
  intro t44 s_6 w h hp
  refine ⟨_, rfl, ?_⟩
  exact ⟨s_6, rfl, rfl, rfl, rfl, rfl, rfl, rfl, hp, h⟩

end Go.Proofs.Ytdonkmbhlankiaa
