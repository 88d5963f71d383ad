/- Each function over plain data (printed by a program of this claim's author). -/
import Derived.Test.YtdonkmbhlankiaaL2
namespace Go.Proofs.Ytdonkmbhlankiaa
open Go Go.Eng Go.Proofs
set_option maxRecDepth 100000
set_option maxHeartbeats 2000000

/-! slices.partitionCmpFunc[string] (45) -/
def slices_partitionCmpFunc_string_wp {σ4 : Type} (data : List (ByteArray)) (a_1 : Int) (b_1 : Int) (pivot : Int) (s : σ4) (Y4 : (ByteArray) → (ByteArray) → σ4 → (Int → σ4 → Prop) → Prop) (K : Int → Bool → List (ByteArray) → σ4 → Prop) : Prop :=
  0 ≤ (pivot : Int) ∧ (pivot : Int) < ((data.length : Nat) : Int) ∧ (∀ (x_1 : ByteArray), data[Int.toNat pivot]? = some x_1 → (0 ≤ (a_1 : Int) ∧ (a_1 : Int) < ((data.length : Nat) : Int) ∧ (∀ (x_2 : ByteArray), data[Int.toNat a_1]? = some x_2 → (0 ≤ (a_1 : Int) ∧ (a_1 : Int) < ((data.length : Nat) : Int) ∧ (0 ≤ (pivot : Int) ∧ (pivot : Int) < ((data.length : Nat) : Int) ∧ (joinP2 (fun (i12 : Int) (s_2 : σ4) => joinP2 (fun (j13_3 : Int) (s_6 : σ4) => cond (decide ((i12 : Int) > j13_3)) (0 ≤ (a_1 : Int) ∧ (a_1 : Int) < ((data.length : Nat) : Int) ∧ (∀ (x_9 : ByteArray), (List.set (List.set data (Int.toNat a_1) x_1) (Int.toNat pivot) x_2)[Int.toNat a_1]? = some x_9 → (0 ≤ (j13_3 : Int) ∧ (j13_3 : Int) < ((data.length : Nat) : Int) ∧ (∀ (x_10 : ByteArray), (List.set (List.set data (Int.toNat a_1) x_1) (Int.toNat pivot) x_2)[Int.toNat j13_3]? = some x_10 → (0 ≤ (j13_3 : Int) ∧ (j13_3 : Int) < ((data.length : Nat) : Int) ∧ (0 ≤ (a_1 : Int) ∧ (a_1 : Int) < ((data.length : Nat) : Int) ∧ (K j13_3 true (List.set (List.set (List.set (List.set data (Int.toNat a_1) x_1) (Int.toNat pivot) x_2) (Int.toNat j13_3) x_9) (Int.toNat a_1) x_10) s_6))))))) (0 ≤ (j13_3 : Int) ∧ (j13_3 : Int) < ((data.length : Nat) : Int) ∧ (∀ (x_13 : ByteArray), (List.set (List.set data (Int.toNat a_1) x_1) (Int.toNat pivot) x_2)[Int.toNat j13_3]? = some x_13 → (0 ≤ (i12 : Int) ∧ (i12 : Int) < ((data.length : Nat) : Int) ∧ (∀ (x_14 : ByteArray), (List.set (List.set data (Int.toNat a_1) x_1) (Int.toNat pivot) x_2)[Int.toNat i12]? = some x_14 → (0 ≤ (i12 : Int) ∧ (i12 : Int) < ((data.length : Nat) : Int) ∧ (0 ≤ (j13_3 : Int) ∧ (j13_3 : Int) < ((data.length : Nat) : Int) ∧ (joinP3 (fun (data_1 : List (ByteArray)) (j13_6 : Int) (s_10 : σ4) => 0 ≤ (a_1 : Int) ∧ (a_1 : Int) < ((data.length : Nat) : Int) ∧ (∀ (x_25 : ByteArray), data_1[Int.toNat a_1]? = some x_25 → (0 ≤ (j13_6 : Int) ∧ (j13_6 : Int) < ((data.length : Nat) : Int) ∧ (∀ (x_26 : ByteArray), data_1[Int.toNat j13_6]? = some x_26 → (0 ≤ (j13_6 : Int) ∧ (j13_6 : Int) < ((data.length : Nat) : Int) ∧ (0 ≤ (a_1 : Int) ∧ (a_1 : Int) < ((data.length : Nat) : Int) ∧ (K j13_6 false (List.set (List.set data_1 (Int.toNat j13_6) x_25) (Int.toNat a_1) x_26) s_10))))))) (fun (Q_4 : List (ByteArray) → Int → σ4 → Prop) => ∃ (I_2 : Nat → List (ByteArray) → Int → Int → σ4 → Prop), (∃ (n_16 : Nat), I_2 n_16 (List.set (List.set (List.set (List.set data (Int.toNat a_1) x_1) (Int.toNat pivot) x_2) (Int.toNat i12) x_13) (Int.toNat j13_3) x_14) (IntKind.wrap .i64 (i12 + 1)) (IntKind.wrap .i64 (j13_3 - 1)) s_6) ∧ ∀ (n_8 : Nat) (data_2 : List (ByteArray)) (i12_6 : Int) (j13_7 : Int) (s_11 : σ4), I_2 n_8 data_2 i12_6 j13_7 s_11 → (joinP2 (fun (i12_7 : Int) (s_12 : σ4) => joinP2 (fun (j13_11 : Int) (s_16 : σ4) => cond (decide ((i12_7 : Int) > j13_11)) (Q_4 data_2 j13_11 s_16) (0 ≤ (j13_11 : Int) ∧ (j13_11 : Int) < ((data.length : Nat) : Int) ∧ (∀ (x_21 : ByteArray), data_2[Int.toNat j13_11]? = some x_21 → (0 ≤ (i12_7 : Int) ∧ (i12_7 : Int) < ((data.length : Nat) : Int) ∧ (∀ (x_22 : ByteArray), data_2[Int.toNat i12_7]? = some x_22 → (0 ≤ (i12_7 : Int) ∧ (i12_7 : Int) < ((data.length : Nat) : Int) ∧ (0 ≤ (j13_11 : Int) ∧ (j13_11 : Int) < ((data.length : Nat) : Int) ∧ (∃ (n_15 : Nat), n_15 < n_8 ∧ I_2 n_15 (List.set (List.set data_2 (Int.toNat i12_7) x_21) (Int.toNat j13_11) x_22) (IntKind.wrap .i64 (i12_7 + 1)) (IntKind.wrap .i64 (j13_11 - 1)) s_16)))))))) (fun (Q_7 : Int → σ4 → Prop) => ∃ (I_4 : Nat → Int → σ4 → Prop), (∃ (n_14 : Nat), I_4 n_14 j13_7 s_12) ∧ ∀ (n_12 : Nat) (j13_12 : Int) (s_17 : σ4), I_4 n_12 j13_12 s_17 → (joinP2 (fun (t139 : Bool) (s_18 : σ4) => cond t139 (∃ (n_13 : Nat), n_13 < n_12 ∧ I_4 n_13 (IntKind.wrap .i64 (j13_12 - 1)) s_18) (Q_7 j13_12 s_18)) (fun (Q_8 : Bool → σ4 → Prop) => cond (decide ((i12_7 : Int) ≤ j13_12)) (0 ≤ (j13_12 : Int) ∧ (j13_12 : Int) < ((data.length : Nat) : Int) ∧ (∀ (x_19 : ByteArray), data_2[Int.toNat j13_12]? = some x_19 → (0 ≤ (a_1 : Int) ∧ (a_1 : Int) < ((data.length : Nat) : Int) ∧ (∀ (x_20 : ByteArray), data_2[Int.toNat a_1]? = some x_20 → (Y4 x_19 x_20 s_17 (fun (t136 : Int) (s_19 : σ4) => Q_8 (!(decide ((t136 : Int) < 0))) s_19)))))) (Q_8 false s_17))))) (fun (Q_5 : Int → σ4 → Prop) => ∃ (I_3 : Nat → Int → σ4 → Prop), (∃ (n_11 : Nat), I_3 n_11 i12_6 s_11) ∧ ∀ (n_9 : Nat) (i12_8 : Int) (s_13 : σ4), I_3 n_9 i12_8 s_13 → (joinP2 (fun (t120 : Bool) (s_14 : σ4) => cond t120 (∃ (n_10 : Nat), n_10 < n_9 ∧ I_3 n_10 (IntKind.wrap .i64 (i12_8 + 1)) s_14) (Q_5 i12_8 s_14)) (fun (Q_6 : Bool → σ4 → Prop) => cond (decide ((i12_8 : Int) ≤ j13_7)) (0 ≤ (i12_8 : Int) ∧ (i12_8 : Int) < ((data.length : Nat) : Int) ∧ (∀ (x_17 : ByteArray), data_2[Int.toNat i12_8]? = some x_17 → (0 ≤ (a_1 : Int) ∧ (a_1 : Int) < ((data.length : Nat) : Int) ∧ (∀ (x_18 : ByteArray), data_2[Int.toNat a_1]? = some x_18 → (Y4 x_17 x_18 s_13 (fun (t118 : Int) (s_15 : σ4) => Q_6 (decide ((t118 : Int) < 0)) s_15)))))) (Q_6 false s_13)))))))))))))) (fun (Q_2 : Int → σ4 → Prop) => ∃ (I_1 : Nat → Int → σ4 → Prop), (∃ (n_7 : Nat), I_1 n_7 (IntKind.wrap .i64 (b_1 - 1)) s_2) ∧ ∀ (n_5 : Nat) (j13_4 : Int) (s_7 : σ4), I_1 n_5 j13_4 s_7 → (joinP2 (fun (t66 : Bool) (s_8 : σ4) => cond t66 (∃ (n_6 : Nat), n_6 < n_5 ∧ I_1 n_6 (IntKind.wrap .i64 (j13_4 - 1)) s_8) (Q_2 j13_4 s_8)) (fun (Q_3 : Bool → σ4 → Prop) => cond (decide ((i12 : Int) ≤ j13_4)) (0 ≤ (j13_4 : Int) ∧ (j13_4 : Int) < ((data.length : Nat) : Int) ∧ (∀ (x_7 : ByteArray), (List.set (List.set data (Int.toNat a_1) x_1) (Int.toNat pivot) x_2)[Int.toNat j13_4]? = some x_7 → (0 ≤ (a_1 : Int) ∧ (a_1 : Int) < ((data.length : Nat) : Int) ∧ (∀ (x_8 : ByteArray), (List.set (List.set data (Int.toNat a_1) x_1) (Int.toNat pivot) x_2)[Int.toNat a_1]? = some x_8 → (Y4 x_7 x_8 s_7 (fun (t63 : Int) (s_9 : σ4) => Q_3 (!(decide ((t63 : Int) < 0))) s_9)))))) (Q_3 false s_7))))) (fun (Q : Int → σ4 → Prop) => ∃ (I : Nat → Int → σ4 → Prop), (∃ (n_4 : Nat), I n_4 (IntKind.wrap .i64 (a_1 + 1)) s) ∧ ∀ (n_2 : Nat) (i12_1 : Int) (s_3 : σ4), I n_2 i12_1 s_3 → (joinP2 (fun (t47 : Bool) (s_4 : σ4) => cond t47 (∃ (n_3 : Nat), n_3 < n_2 ∧ I n_3 (IntKind.wrap .i64 (i12_1 + 1)) s_4) (Q i12_1 s_4)) (fun (Q_1 : Bool → σ4 → Prop) => cond (decide ((i12_1 : Int) ≤ (IntKind.wrap .i64 (b_1 - 1)))) (0 ≤ (i12_1 : Int) ∧ (i12_1 : Int) < ((data.length : Nat) : Int) ∧ (∀ (x_5 : ByteArray), (List.set (List.set data (Int.toNat a_1) x_1) (Int.toNat pivot) x_2)[Int.toNat i12_1]? = some x_5 → (0 ≤ (a_1 : Int) ∧ (a_1 : Int) < ((data.length : Nat) : Int) ∧ (∀ (x_6 : ByteArray), (List.set (List.set data (Int.toNat a_1) x_1) (Int.toNat pivot) x_2)[Int.toNat a_1]? = some x_6 → (Y4 x_5 x_6 s_3 (fun (t45 : Int) (s_5 : σ4) => Q_1 (decide ((t45 : Int) < 0)) s_5)))))) (Q_1 false s_3))))))))))
theorem slices_partitionCmpFunc_string_ok {σ4 : Type} {A4 : σ4 → HP} {p_1 : Option Addr} {c_1 : Nat} {n_1 : Nat} {ff4 : Fn} {fa4 : Array Value} {fc4 : Array Value} {data : List (ByteArray)} {a_1 : Int} {b_1 : Int} {pivot : Int} {s : σ4} {Y4 : (ByteArray) → (ByteArray) → σ4 → (Int → σ4 → Prop) → Prop} {FL : List HP} {w : World} {K : Int → Bool → List (ByteArray) → σ4 → Prop} {R : Value → World → Prop}
  (hY4 : ∀ (x0 : ByteArray) (x1 : ByteArray) (s : σ4) (K : Int → σ4 → Prop) (FL2 : List HP) (w : World) (R : Value → World → Prop), (∀ w, Mem FL2 w → Mem FL w) → Mem (A4 s :: FL2) w → Y4 x0 x1 s K → (∀ (r : Int) (s : σ4) (w : World), Mem (A4 s :: FL2) w → K r s → R (Value.int .i64 r) w) → CalleeV Try.prog (Value.func ff4 fa4 fc4) #[(Value.string x0), (Value.string x1)] w R) (hn_p_1 : n_1 = data.length)
  (h : Mem (row enc9 9 1 p_1 c_1 data :: A4 s :: FL) w) (hp : slices_partitionCmpFunc_string_wp data a_1 b_1 pivot s Y4 K)
  (hR : ∀ (r : Int) (r_1 : Bool) (data_1 : List (ByteArray)) (s_1 : σ4) (w : World), data.length = data_1.length → Mem (row enc9 9 1 p_1 c_1 data_1 :: A4 s_1 :: FL) w → K r r_1 data_1 s_1 → R (Value.tuple #[(Value.int .i64 r), (Value.bool r_1)]) w) :
  CallV Try.prog 45 #[(Value.slice p_1 n_1 c_1), (Value.int .i64 a_1), (Value.int .i64 b_1), (Value.int .i64 pivot), (Value.func ff4 fa4 fc4)] w R := by
  refine slices_partitionCmpFunc_string_call ?_
  unfold slices_partitionCmpFunc_string
  unfold slices_partitionCmpFunc_string_wp at hp
  subst hn_p_1
  have cpp_1 := rowCap h 0 rfl
  replace h := h.drew
  obtain ⟨ia_2, ja_2, hp⟩ := hp
  obtain ⟨a_2, ha_2⟩ := rdAddr (rowRd h 0 encL9 rfl) rfl ia_2 ja_2
  refine ⟨a_2, ha_2, ia_2, ja_2, ?_⟩
  obtain ⟨x_1, hx_1, hc⟩ := rdCell0 (rowRd h 0 encL9 rfl) ha_2 rfl ia_2 ja_2
  replace hp := hp x_1 hx_1
  refine ⟨_, hc _ rfl, ?_⟩
  obtain ⟨ia_3, ja_3, hp⟩ := hp
  obtain ⟨a_3, ha_3⟩ := rdAddr (rowRd h 0 encL9 rfl) rfl ia_3 ja_3
  refine ⟨a_3, ha_3, ia_3, ja_3, ?_⟩
  obtain ⟨x_2, hx_2, hc⟩ := rdCell0 (rowRd h 0 encL9 rfl) ha_3 rfl ia_3 ja_3
  replace hp := hp x_2 hx_2
  refine ⟨_, hc _ rfl, ?_⟩
  obtain ⟨ia_4, ja_4, hp⟩ := hp
  obtain ⟨a_4, ha_4⟩ := rdAddr (rowRd h 0 encL9 rfl) rfl ia_4 ja_4
  refine ⟨a_4, ha_4, ia_4, ja_4, ?_⟩
  refine rowSetW (ys := [(Value.string x_1)]) (x := x_1) h 0 encL9 rfl ha_4 rfl ia_4 ja_4 sz9 rfl rfl rfl ?_
  intro w h
  dsimp only [setH, setVs, setV] at h
  obtain ⟨ia_5, ja_5, hp⟩ := hp
  obtain ⟨a_5, ha_5⟩ := rdAddr (rowRd h 0 encL9 rfl) (lenSet rfl) ia_5 ja_5
  refine ⟨a_5, ha_5, ia_5, ja_5, ?_⟩
  refine rowSetW (ys := [(Value.string x_2)]) (x := x_2) h 0 encL9 rfl ha_5 (lenSet rfl) ia_5 ja_5 sz9 rfl rfl rfl ?_
  intro w h
  dsimp only [setH, setVs, setV] at h
  obtain ⟨Q, hq, hp⟩ := hp
  refine ⟨fun data0p data0l data0c a1 cmp4 i12 j13 w => ∃ (s_2 : σ4), p_1 = data0p ∧ data.length = data0l ∧ c_1 = data0c ∧ a_1 = a1 ∧ (Value.func ff4 fa4 fc4) = cmp4 ∧ (IntKind.wrap .i64 (b_1 - 1)) = j13 ∧ Q i12 s_2 ∧ Mem (A4 s_2 :: row enc9 9 1 p_1 c_1 (List.set (List.set data (Int.toNat a_1) x_1) (Int.toNat pivot) x_2) :: FL) w, ?_, ?_⟩
  · rintro data0p data0l data0c a1 cmp4 i12 j13 w ⟨s_2, rfl, rfl, rfl, rfl, rfl, rfl, hp, h⟩
    replace hp := hq i12 s_2 hp
    unfold slices_partitionCmpFunc_string_j1
    obtain ⟨Q_2, hq, hp⟩ := hp
    refine ⟨fun data0_3p data0_3l data0_3c a1_3 cmp4_3 i12_3 j13_3 w => ∃ (s_6 : σ4), p_1 = data0_3p ∧ data.length = data0_3l ∧ c_1 = data0_3c ∧ a_1 = a1_3 ∧ (Value.func ff4 fa4 fc4) = cmp4_3 ∧ i12 = i12_3 ∧ Q_2 j13_3 s_6 ∧ Mem (A4 s_6 :: row enc9 9 1 p_1 c_1 (List.set (List.set data (Int.toNat a_1) x_1) (Int.toNat pivot) x_2) :: FL) w, ?_, ?_⟩
    · rintro data0_3p data0_3l data0_3c a1_3 cmp4_3 i12_3 j13_3 w ⟨s_6, rfl, rfl, rfl, rfl, rfl, rfl, hp, h⟩
      replace hp := hq j13_3 s_6 hp
      unfold slices_partitionCmpFunc_string_j2
      refine cond_both hp (fun hp => ?_) (fun hp => ?_)
      · replace h := h.drew
        obtain ⟨ia_10, ja_10, hp⟩ := hp
        obtain ⟨a_10, ha_10⟩ := rdAddr (rowRd h 1 encL9 rfl) (lenSet (lenSet rfl)) ia_10 ja_10
        refine ⟨a_10, ha_10, ia_10, ja_10, ?_⟩
        obtain ⟨x_9, hx_9, hc⟩ := rdCell0 (rowRd h 1 encL9 rfl) ha_10 (lenSet (lenSet rfl)) ia_10 ja_10
        replace hp := hp x_9 hx_9
        refine ⟨_, hc _ rfl, ?_⟩
        obtain ⟨ia_11, ja_11, hp⟩ := hp
        obtain ⟨a_11, ha_11⟩ := rdAddr (rowRd h 1 encL9 rfl) (lenSet (lenSet rfl)) ia_11 ja_11
        refine ⟨a_11, ha_11, ia_11, ja_11, ?_⟩
        obtain ⟨x_10, hx_10, hc⟩ := rdCell0 (rowRd h 1 encL9 rfl) ha_11 (lenSet (lenSet rfl)) ia_11 ja_11
        replace hp := hp x_10 hx_10
        refine ⟨_, hc _ rfl, ?_⟩
        obtain ⟨ia_12, ja_12, hp⟩ := hp
        obtain ⟨a_12, ha_12⟩ := rdAddr (rowRd h 1 encL9 rfl) (lenSet (lenSet rfl)) ia_12 ja_12
        refine ⟨a_12, ha_12, ia_12, ja_12, ?_⟩
        refine rowSetW (ys := [(Value.string x_9)]) (x := x_9) h 1 encL9 rfl ha_12 (lenSet (lenSet rfl)) ia_12 ja_12 sz9 rfl rfl rfl ?_
        intro w h
        dsimp only [setH, setVs, setV] at h
        obtain ⟨ia_13, ja_13, hp⟩ := hp
        obtain ⟨a_13, ha_13⟩ := rdAddr (rowRd h 1 encL9 rfl) (lenSet (lenSet (lenSet rfl))) ia_13 ja_13
        refine ⟨a_13, ha_13, ia_13, ja_13, ?_⟩
        refine rowSetW (ys := [(Value.string x_10)]) (x := x_10) h 1 encL9 rfl ha_13 (lenSet (lenSet (lenSet rfl))) ia_13 ja_13 sz9 rfl rfl rfl ?_
        intro w h
        dsimp only [setH, setVs, setV] at h
        replace h := h.sel [1, 0] 0
        dsimp only [pickL, pickR, nthH, delH, dropH, List.cons_append, List.nil_append] at h
        exact hR j13_3 true (List.set (List.set (List.set (List.set data (Int.toNat a_1) x_1) (Int.toNat pivot) x_2) (Int.toNat j13_3) x_9) (Int.toNat a_1) x_10) s_6 _ (lenSet (lenSet (lenSet (lenSet rfl)))) h hp
      replace h := h.drew
      obtain ⟨ia_14, ja_14, hp⟩ := hp
      obtain ⟨a_14, ha_14⟩ := rdAddr (rowRd h 1 encL9 rfl) (lenSet (lenSet rfl)) ia_14 ja_14
      refine ⟨a_14, ha_14, ia_14, ja_14, ?_⟩
      obtain ⟨x_13, hx_13, hc⟩ := rdCell0 (rowRd h 1 encL9 rfl) ha_14 (lenSet (lenSet rfl)) ia_14 ja_14
      replace hp := hp x_13 hx_13
      refine ⟨_, hc _ rfl, ?_⟩
      obtain ⟨ia_15, ja_15, hp⟩ := hp
      obtain ⟨a_15, ha_15⟩ := rdAddr (rowRd h 1 encL9 rfl) (lenSet (lenSet rfl)) ia_15 ja_15
      refine ⟨a_15, ha_15, ia_15, ja_15, ?_⟩
      obtain ⟨x_14, hx_14, hc⟩ := rdCell0 (rowRd h 1 encL9 rfl) ha_15 (lenSet (lenSet rfl)) ia_15 ja_15
      replace hp := hp x_14 hx_14
      refine ⟨_, hc _ rfl, ?_⟩
      obtain ⟨ia_16, ja_16, hp⟩ := hp
      obtain ⟨a_16, ha_16⟩ := rdAddr (rowRd h 1 encL9 rfl) (lenSet (lenSet rfl)) ia_16 ja_16
      refine ⟨a_16, ha_16, ia_16, ja_16, ?_⟩
      refine rowSetW (ys := [(Value.string x_13)]) (x := x_13) h 1 encL9 rfl ha_16 (lenSet (lenSet rfl)) ia_16 ja_16 sz9 rfl rfl rfl ?_
      intro w h
      dsimp only [setH, setVs, setV] at h
      obtain ⟨ia_17, ja_17, hp⟩ := hp
      obtain ⟨a_17, ha_17⟩ := rdAddr (rowRd h 1 encL9 rfl) (lenSet (lenSet (lenSet rfl))) ia_17 ja_17
      refine ⟨a_17, ha_17, ia_17, ja_17, ?_⟩
      refine rowSetW (ys := [(Value.string x_14)]) (x := x_14) h 1 encL9 rfl ha_17 (lenSet (lenSet (lenSet rfl))) ia_17 ja_17 sz9 rfl rfl rfl ?_
      intro w h
      dsimp only [setH, setVs, setV] at h
      obtain ⟨Q_4, hq, hp⟩ := hp
      refine ⟨fun data0_6p data0_6l data0_6c a1_6 j13_6 w => ∃ (data_1 : List (ByteArray)), ∃ (s_10 : σ4), p_1 = data0_6p ∧ data.length = data0_6l ∧ c_1 = data0_6c ∧ a_1 = a1_6 ∧ data.length = data_1.length ∧ Q_4 data_1 j13_6 s_10 ∧ Mem (A4 s_10 :: row enc9 9 1 p_1 c_1 data_1 :: FL) w, ?_, ?_⟩
      · rintro data0_6p data0_6l data0_6c a1_6 j13_6 w ⟨data_1, s_10, rfl, rfl, rfl, rfl, hl_data_1, hp, h⟩
        replace hp := hq data_1 j13_6 s_10 hp
        unfold slices_partitionCmpFunc_string_j3
        replace h := h.drew
        obtain ⟨ia_26, ja_26, hp⟩ := hp
        obtain ⟨a_26, ha_26⟩ := rdAddr (rowRd h 1 encL9 rfl) hl_data_1 ia_26 ja_26
        refine ⟨a_26, ha_26, ia_26, ja_26, ?_⟩
        obtain ⟨x_25, hx_25, hc⟩ := rdCell0 (rowRd h 1 encL9 rfl) ha_26 hl_data_1 ia_26 ja_26
        replace hp := hp x_25 hx_25
        refine ⟨_, hc _ rfl, ?_⟩
        obtain ⟨ia_27, ja_27, hp⟩ := hp
        obtain ⟨a_27, ha_27⟩ := rdAddr (rowRd h 1 encL9 rfl) hl_data_1 ia_27 ja_27
        refine ⟨a_27, ha_27, ia_27, ja_27, ?_⟩
        obtain ⟨x_26, hx_26, hc⟩ := rdCell0 (rowRd h 1 encL9 rfl) ha_27 hl_data_1 ia_27 ja_27
        replace hp := hp x_26 hx_26
        refine ⟨_, hc _ rfl, ?_⟩
        obtain ⟨ia_28, ja_28, hp⟩ := hp
        obtain ⟨a_28, ha_28⟩ := rdAddr (rowRd h 1 encL9 rfl) hl_data_1 ia_28 ja_28
        refine ⟨a_28, ha_28, ia_28, ja_28, ?_⟩
        refine rowSetW (ys := [(Value.string x_25)]) (x := x_25) h 1 encL9 rfl ha_28 hl_data_1 ia_28 ja_28 sz9 rfl rfl rfl ?_
        intro w h
        dsimp only [setH, setVs, setV] at h
        obtain ⟨ia_29, ja_29, hp⟩ := hp
        obtain ⟨a_29, ha_29⟩ := rdAddr (rowRd h 1 encL9 rfl) (lenSet hl_data_1) ia_29 ja_29
        refine ⟨a_29, ha_29, ia_29, ja_29, ?_⟩
        refine rowSetW (ys := [(Value.string x_26)]) (x := x_26) h 1 encL9 rfl ha_29 (lenSet hl_data_1) ia_29 ja_29 sz9 rfl rfl rfl ?_
        intro w h
        dsimp only [setH, setVs, setV] at h
        replace h := h.sel [1, 0] 0
        dsimp only [pickL, pickR, nthH, delH, dropH, List.cons_append, List.nil_append] at h
        exact hR j13_6 false (List.set (List.set data_1 (Int.toNat j13_6) x_25) (Int.toNat a_1) x_26) s_10 _ (lenSet (lenSet hl_data_1)) h hp
      clear hq
      obtain ⟨I_2, ⟨n_16, h0⟩, hq⟩ := hp
      refine ⟨fun n_8 data0_7p data0_7l data0_7c a1_7 cmp4_6 i12_6 j13_7 w => ∃ (data_2 : List (ByteArray)), ∃ (s_11 : σ4), p_1 = data0_7p ∧ data.length = data0_7l ∧ c_1 = data0_7c ∧ a_1 = a1_7 ∧ (Value.func ff4 fa4 fc4) = cmp4_6 ∧ data.length = data_2.length ∧ I_2 n_8 data_2 i12_6 j13_7 s_11 ∧ Mem (A4 s_11 :: row enc9 9 1 p_1 c_1 data_2 :: FL) w, ⟨n_16, (List.set (List.set (List.set (List.set data (Int.toNat a_1) x_1) (Int.toNat pivot) x_2) (Int.toNat i12) x_13) (Int.toNat j13_3) x_14), s_6, rfl, rfl, rfl, rfl, rfl, (lenSet (lenSet (lenSet (lenSet rfl)))), h0, h⟩, ?_⟩
      clear h0 h
      rintro n_8 data0_7p data0_7l data0_7c a1_7 cmp4_6 i12_6 j13_7 w ⟨data_2, s_11, rfl, rfl, rfl, rfl, rfl, hl_data_2, hp, h⟩
      replace hp := hq n_8 data_2 i12_6 j13_7 s_11 hp
      clear hq
      unfold slices_partitionCmpFunc_string_l4
      obtain ⟨Q_5, hq, hp⟩ := hp
      refine ⟨fun data0_8p data0_8l data0_8c a1_8 cmp4_7 i12_7 j13_8 w => ∃ (s_12 : σ4), p_1 = data0_8p ∧ data.length = data0_8l ∧ c_1 = data0_8c ∧ a_1 = a1_8 ∧ (Value.func ff4 fa4 fc4) = cmp4_7 ∧ j13_7 = j13_8 ∧ Q_5 i12_7 s_12 ∧ Mem (A4 s_12 :: row enc9 9 1 p_1 c_1 data_2 :: FL) w, ?_, ?_⟩
      · rintro data0_8p data0_8l data0_8c a1_8 cmp4_7 i12_7 j13_8 w ⟨s_12, rfl, rfl, rfl, rfl, rfl, rfl, hp, h⟩
        replace hp := hq i12_7 s_12 hp
        unfold slices_partitionCmpFunc_string_j5
        obtain ⟨Q_7, hq, hp⟩ := hp
        refine ⟨fun data0_11p data0_11l data0_11c a1_11 cmp4_10 i12_10 j13_11 w => ∃ (s_16 : σ4), p_1 = data0_11p ∧ data.length = data0_11l ∧ c_1 = data0_11c ∧ a_1 = a1_11 ∧ (Value.func ff4 fa4 fc4) = cmp4_10 ∧ i12_7 = i12_10 ∧ Q_7 j13_11 s_16 ∧ Mem (A4 s_16 :: row enc9 9 1 p_1 c_1 data_2 :: FL) w, ?_, ?_⟩
        · rintro data0_11p data0_11l data0_11c a1_11 cmp4_10 i12_10 j13_11 w ⟨s_16, rfl, rfl, rfl, rfl, rfl, rfl, hp, h⟩
          replace hp := hq j13_11 s_16 hp
          unfold slices_partitionCmpFunc_string_j6
          refine cond_both hp (fun hp => ?_) (fun hp => ?_)
          · exact ⟨data_2, s_16, rfl, rfl, rfl, rfl, hl_data_2, hp, h⟩
          replace h := h.drew
          obtain ⟨ia_22, ja_22, hp⟩ := hp
          obtain ⟨a_22, ha_22⟩ := rdAddr (rowRd h 1 encL9 rfl) hl_data_2 ia_22 ja_22
          refine ⟨a_22, ha_22, ia_22, ja_22, ?_⟩
          obtain ⟨x_21, hx_21, hc⟩ := rdCell0 (rowRd h 1 encL9 rfl) ha_22 hl_data_2 ia_22 ja_22
          replace hp := hp x_21 hx_21
          refine ⟨_, hc _ rfl, ?_⟩
          obtain ⟨ia_23, ja_23, hp⟩ := hp
          obtain ⟨a_23, ha_23⟩ := rdAddr (rowRd h 1 encL9 rfl) hl_data_2 ia_23 ja_23
          refine ⟨a_23, ha_23, ia_23, ja_23, ?_⟩
          obtain ⟨x_22, hx_22, hc⟩ := rdCell0 (rowRd h 1 encL9 rfl) ha_23 hl_data_2 ia_23 ja_23
          replace hp := hp x_22 hx_22
          refine ⟨_, hc _ rfl, ?_⟩
          obtain ⟨ia_24, ja_24, hp⟩ := hp
          obtain ⟨a_24, ha_24⟩ := rdAddr (rowRd h 1 encL9 rfl) hl_data_2 ia_24 ja_24
          refine ⟨a_24, ha_24, ia_24, ja_24, ?_⟩
          refine rowSetW (ys := [(Value.string x_21)]) (x := x_21) h 1 encL9 rfl ha_24 hl_data_2 ia_24 ja_24 sz9 rfl rfl rfl ?_
          intro w h
          dsimp only [setH, setVs, setV] at h
          obtain ⟨ia_25, ja_25, hp⟩ := hp
          obtain ⟨a_25, ha_25⟩ := rdAddr (rowRd h 1 encL9 rfl) (lenSet hl_data_2) ia_25 ja_25
          refine ⟨a_25, ha_25, ia_25, ja_25, ?_⟩
          refine rowSetW (ys := [(Value.string x_22)]) (x := x_22) h 1 encL9 rfl ha_25 (lenSet hl_data_2) ia_25 ja_25 sz9 rfl rfl rfl ?_
          intro w h
          dsimp only [setH, setVs, setV] at h
          obtain ⟨n_15, hn, hp⟩ := hp
          exact ⟨n_15, hn, (List.set (List.set data_2 (Int.toNat i12_7) x_21) (Int.toNat j13_11) x_22), s_16, rfl, rfl, rfl, rfl, rfl, (lenSet (lenSet hl_data_2)), hp, h⟩
        clear hq
        obtain ⟨I_4, ⟨n_14, h0⟩, hq⟩ := hp
        refine ⟨fun n_12 data0_12p data0_12l data0_12c a1_12 cmp4_11 i12_11 j13_12 w => ∃ (s_17 : σ4), p_1 = data0_12p ∧ data.length = data0_12l ∧ c_1 = data0_12c ∧ a_1 = a1_12 ∧ (Value.func ff4 fa4 fc4) = cmp4_11 ∧ i12_7 = i12_11 ∧ I_4 n_12 j13_12 s_17 ∧ Mem (A4 s_17 :: row enc9 9 1 p_1 c_1 data_2 :: FL) w, ⟨n_14, s_12, rfl, rfl, rfl, rfl, rfl, rfl, h0, h⟩, ?_⟩
        clear h0 h
        rintro n_12 data0_12p data0_12l data0_12c a1_12 cmp4_11 i12_11 j13_12 w ⟨s_17, rfl, rfl, rfl, rfl, rfl, rfl, hp, h⟩
        replace hp := hq n_12 j13_12 s_17 hp
        clear hq
        unfold slices_partitionCmpFunc_string_l7
        obtain ⟨Q_8, hq, hp⟩ := hp
        refine ⟨fun data0_13p data0_13l data0_13c a1_13 cmp4_12 i12_12 j13_13 t139 w => ∃ (s_18 : σ4), p_1 = data0_13p ∧ data.length = data0_13l ∧ c_1 = data0_13c ∧ a_1 = a1_13 ∧ (Value.func ff4 fa4 fc4) = cmp4_12 ∧ i12_7 = i12_12 ∧ j13_12 = j13_13 ∧ Q_8 t139 s_18 ∧ Mem (A4 s_18 :: row enc9 9 1 p_1 c_1 data_2 :: FL) w, ?_, ?_⟩
        · rintro data0_13p data0_13l data0_13c a1_13 cmp4_12 i12_12 j13_13 t139 w ⟨s_18, rfl, rfl, rfl, rfl, rfl, rfl, rfl, hp, h⟩
          replace hp := hq t139 s_18 hp
          unfold slices_partitionCmpFunc_string_j8
          refine cond_both' hp (fun hp => ?_) (fun hp => ?_)
          · exact ⟨s_18, rfl, rfl, rfl, rfl, rfl, rfl, hp, h⟩
          obtain ⟨n_13, hn, hp⟩ := hp
          exact ⟨n_13, hn, s_18, rfl, rfl, rfl, rfl, rfl, rfl, hp, h⟩
        clear hq
        replace h := h.drew
        refine cond_both' hp (fun hp => ?_) (fun hp => ?_)
        · exact ⟨s_17, rfl, rfl, rfl, rfl, rfl, rfl, rfl, hp, h⟩
        obtain ⟨ia_20, ja_20, hp⟩ := hp
        obtain ⟨a_20, ha_20⟩ := rdAddr (rowRd h 1 encL9 rfl) hl_data_2 ia_20 ja_20
        refine ⟨a_20, ha_20, ia_20, ja_20, ?_⟩
        obtain ⟨x_19, hx_19, hc⟩ := rdCell0 (rowRd h 1 encL9 rfl) ha_20 hl_data_2 ia_20 ja_20
        replace hp := hp x_19 hx_19
        refine ⟨_, hc _ rfl, ?_⟩
        obtain ⟨ia_21, ja_21, hp⟩ := hp
        obtain ⟨a_21, ha_21⟩ := rdAddr (rowRd h 1 encL9 rfl) hl_data_2 ia_21 ja_21
        refine ⟨a_21, ha_21, ia_21, ja_21, ?_⟩
        obtain ⟨x_20, hx_20, hc⟩ := rdCell0 (rowRd h 1 encL9 rfl) ha_21 hl_data_2 ia_21 ja_21
        replace hp := hp x_20 hx_20
        refine ⟨_, hc _ rfl, ?_⟩
        refine hY4 x_19 x_20 _ _ (row enc9 9 1 p_1 c_1 data_2 :: FL) _ _ (fun _ h => Mem.drop 1 h) h hp ?_
        intro t136 s_19 w h hp
        refine ⟨_, rfl, ?_⟩
        exact ⟨s_19, rfl, rfl, rfl, rfl, rfl, rfl, rfl, hp, h⟩
      clear hq
      obtain ⟨I_3, ⟨n_11, h0⟩, hq⟩ := hp
      refine ⟨fun n_9 data0_9p data0_9l data0_9c a1_9 cmp4_8 i12_8 j13_9 w => ∃ (s_13 : σ4), p_1 = data0_9p ∧ data.length = data0_9l ∧ c_1 = data0_9c ∧ a_1 = a1_9 ∧ (Value.func ff4 fa4 fc4) = cmp4_8 ∧ j13_7 = j13_9 ∧ I_3 n_9 i12_8 s_13 ∧ Mem (A4 s_13 :: row enc9 9 1 p_1 c_1 data_2 :: FL) w, ⟨n_11, s_11, rfl, rfl, rfl, rfl, rfl, rfl, h0, h⟩, ?_⟩
      clear h0 h
      rintro n_9 data0_9p data0_9l data0_9c a1_9 cmp4_8 i12_8 j13_9 w ⟨s_13, rfl, rfl, rfl, rfl, rfl, rfl, hp, h⟩
      replace hp := hq n_9 i12_8 s_13 hp
      clear hq
      unfold slices_partitionCmpFunc_string_l9
      obtain ⟨Q_6, hq, hp⟩ := hp
      refine ⟨fun data0_10p data0_10l data0_10c a1_10 cmp4_9 i12_9 j13_10 t120 w => ∃ (s_14 : σ4), p_1 = data0_10p ∧ data.length = data0_10l ∧ c_1 = data0_10c ∧ a_1 = a1_10 ∧ (Value.func ff4 fa4 fc4) = cmp4_9 ∧ i12_8 = i12_9 ∧ j13_7 = j13_10 ∧ Q_6 t120 s_14 ∧ Mem (A4 s_14 :: row enc9 9 1 p_1 c_1 data_2 :: FL) w, ?_, ?_⟩
      · rintro data0_10p data0_10l data0_10c a1_10 cmp4_9 i12_9 j13_10 t120 w ⟨s_14, rfl, rfl, rfl, rfl, rfl, rfl, rfl, hp, h⟩
        replace hp := hq t120 s_14 hp
        unfold slices_partitionCmpFunc_string_j10
        refine cond_both' hp (fun hp => ?_) (fun hp => ?_)
        · exact ⟨s_14, rfl, rfl, rfl, rfl, rfl, rfl, hp, h⟩
        obtain ⟨n_10, hn, hp⟩ := hp
        exact ⟨n_10, hn, s_14, rfl, rfl, rfl, rfl, rfl, rfl, hp, h⟩
      clear hq
      replace h := h.drew
      refine cond_both' hp (fun hp => ?_) (fun hp => ?_)
      · exact ⟨s_13, rfl, rfl, rfl, rfl, rfl, rfl, rfl, hp, h⟩
      obtain ⟨ia_18, ja_18, hp⟩ := hp
      obtain ⟨a_18, ha_18⟩ := rdAddr (rowRd h 1 encL9 rfl) hl_data_2 ia_18 ja_18
      refine ⟨a_18, ha_18, ia_18, ja_18, ?_⟩
      obtain ⟨x_17, hx_17, hc⟩ := rdCell0 (rowRd h 1 encL9 rfl) ha_18 hl_data_2 ia_18 ja_18
      replace hp := hp x_17 hx_17
      refine ⟨_, hc _ rfl, ?_⟩
      obtain ⟨ia_19, ja_19, hp⟩ := hp
      obtain ⟨a_19, ha_19⟩ := rdAddr (rowRd h 1 encL9 rfl) hl_data_2 ia_19 ja_19
      refine ⟨a_19, ha_19, ia_19, ja_19, ?_⟩
      obtain ⟨x_18, hx_18, hc⟩ := rdCell0 (rowRd h 1 encL9 rfl) ha_19 hl_data_2 ia_19 ja_19
      replace hp := hp x_18 hx_18
      refine ⟨_, hc _ rfl, ?_⟩
      refine hY4 x_17 x_18 _ _ (row enc9 9 1 p_1 c_1 data_2 :: FL) _ _ (fun _ h => Mem.drop 1 h) h hp ?_
      intro t118 s_15 w h hp
      refine ⟨_, rfl, ?_⟩
      exact ⟨s_15, rfl, rfl, rfl, rfl, rfl, rfl, rfl, hp, h⟩
    clear hq
    obtain ⟨I_1, ⟨n_7, h0⟩, hq⟩ := hp
    refine ⟨fun n_5 data0_4p data0_4l data0_4c a1_4 cmp4_4 i12_4 j13_4 w => ∃ (s_7 : σ4), p_1 = data0_4p ∧ data.length = data0_4l ∧ c_1 = data0_4c ∧ a_1 = a1_4 ∧ (Value.func ff4 fa4 fc4) = cmp4_4 ∧ i12 = i12_4 ∧ I_1 n_5 j13_4 s_7 ∧ Mem (A4 s_7 :: row enc9 9 1 p_1 c_1 (List.set (List.set data (Int.toNat a_1) x_1) (Int.toNat pivot) x_2) :: FL) w, ⟨n_7, s_2, rfl, rfl, rfl, rfl, rfl, rfl, h0, h⟩, ?_⟩
    clear h0 h
    rintro n_5 data0_4p data0_4l data0_4c a1_4 cmp4_4 i12_4 j13_4 w ⟨s_7, rfl, rfl, rfl, rfl, rfl, rfl, hp, h⟩
    replace hp := hq n_5 j13_4 s_7 hp
    clear hq
    unfold slices_partitionCmpFunc_string_l11
    obtain ⟨Q_3, hq, hp⟩ := hp
    refine ⟨fun data0_5p data0_5l data0_5c a1_5 cmp4_5 i12_5 j13_5 t66 w => ∃ (s_8 : σ4), p_1 = data0_5p ∧ data.length = data0_5l ∧ c_1 = data0_5c ∧ a_1 = a1_5 ∧ (Value.func ff4 fa4 fc4) = cmp4_5 ∧ i12 = i12_5 ∧ j13_4 = j13_5 ∧ Q_3 t66 s_8 ∧ Mem (A4 s_8 :: row enc9 9 1 p_1 c_1 (List.set (List.set data (Int.toNat a_1) x_1) (Int.toNat pivot) x_2) :: FL) w, ?_, ?_⟩
    · rintro data0_5p data0_5l data0_5c a1_5 cmp4_5 i12_5 j13_5 t66 w ⟨s_8, rfl, rfl, rfl, rfl, rfl, rfl, rfl, hp, h⟩
      replace hp := hq t66 s_8 hp
      unfold slices_partitionCmpFunc_string_j12
      refine cond_both' hp (fun hp => ?_) (fun hp => ?_)
      · exact ⟨s_8, rfl, rfl, rfl, rfl, rfl, rfl, hp, h⟩
      obtain ⟨n_6, hn, hp⟩ := hp
      exact ⟨n_6, hn, s_8, rfl, rfl, rfl, rfl, rfl, rfl, hp, h⟩
    clear hq
    replace h := h.drew
    refine cond_both' hp (fun hp => ?_) (fun hp => ?_)
    · exact ⟨s_7, rfl, rfl, rfl, rfl, rfl, rfl, rfl, hp, h⟩
    obtain ⟨ia_8, ja_8, hp⟩ := hp
    obtain ⟨a_8, ha_8⟩ := rdAddr (rowRd h 1 encL9 rfl) (lenSet (lenSet rfl)) ia_8 ja_8
    refine ⟨a_8, ha_8, ia_8, ja_8, ?_⟩
    obtain ⟨x_7, hx_7, hc⟩ := rdCell0 (rowRd h 1 encL9 rfl) ha_8 (lenSet (lenSet rfl)) ia_8 ja_8
    replace hp := hp x_7 hx_7
    refine ⟨_, hc _ rfl, ?_⟩
    obtain ⟨ia_9, ja_9, hp⟩ := hp
    obtain ⟨a_9, ha_9⟩ := rdAddr (rowRd h 1 encL9 rfl) (lenSet (lenSet rfl)) ia_9 ja_9
    refine ⟨a_9, ha_9, ia_9, ja_9, ?_⟩
    obtain ⟨x_8, hx_8, hc⟩ := rdCell0 (rowRd h 1 encL9 rfl) ha_9 (lenSet (lenSet rfl)) ia_9 ja_9
    replace hp := hp x_8 hx_8
    refine ⟨_, hc _ rfl, ?_⟩
    refine hY4 x_7 x_8 _ _ (row enc9 9 1 p_1 c_1 (List.set (List.set data (Int.toNat a_1) x_1) (Int.toNat pivot) x_2) :: FL) _ _ (fun _ h => Mem.drop 1 h) h hp ?_
    intro t63 s_9 w h hp
    refine ⟨_, rfl, ?_⟩
    exact ⟨s_9, rfl, rfl, rfl, rfl, rfl, rfl, rfl, hp, h⟩
  clear hq
  obtain ⟨I, ⟨n_4, h0⟩, hq⟩ := hp
  replace h := h.sel [1, 0] 0
  dsimp only [pickL, pickR, nthH, delH, dropH, List.cons_append, List.nil_append] at h
  refine ⟨fun n_2 data0_1p data0_1l data0_1c a1_1 cmp4_1 i12_1 j13_1 w => ∃ (s_3 : σ4), p_1 = data0_1p ∧ data.length = data0_1l ∧ c_1 = data0_1c ∧ a_1 = a1_1 ∧ (Value.func ff4 fa4 fc4) = cmp4_1 ∧ (IntKind.wrap .i64 (b_1 - 1)) = j13_1 ∧ I n_2 i12_1 s_3 ∧ Mem (A4 s_3 :: row enc9 9 1 p_1 c_1 (List.set (List.set data (Int.toNat a_1) x_1) (Int.toNat pivot) x_2) :: FL) w, ⟨n_4, s, rfl, rfl, rfl, rfl, rfl, rfl, h0, h⟩, ?_⟩
  clear h0 h
  rintro n_2 data0_1p data0_1l data0_1c a1_1 cmp4_1 i12_1 j13_1 w ⟨s_3, rfl, rfl, rfl, rfl, rfl, rfl, hp, h⟩
  replace hp := hq n_2 i12_1 s_3 hp
  clear hq
  unfold slices_partitionCmpFunc_string_l13
  obtain ⟨Q_1, hq, hp⟩ := hp
  refine ⟨fun data0_2p data0_2l data0_2c a1_2 cmp4_2 i12_2 j13_2 t47 w => ∃ (s_4 : σ4), p_1 = data0_2p ∧ data.length = data0_2l ∧ c_1 = data0_2c ∧ a_1 = a1_2 ∧ (Value.func ff4 fa4 fc4) = cmp4_2 ∧ i12_1 = i12_2 ∧ (IntKind.wrap .i64 (b_1 - 1)) = j13_2 ∧ Q_1 t47 s_4 ∧ Mem (A4 s_4 :: row enc9 9 1 p_1 c_1 (List.set (List.set data (Int.toNat a_1) x_1) (Int.toNat pivot) x_2) :: FL) w, ?_, ?_⟩
  · rintro data0_2p data0_2l data0_2c a1_2 cmp4_2 i12_2 j13_2 t47 w ⟨s_4, rfl, rfl, rfl, rfl, rfl, rfl, rfl, hp, h⟩
    replace hp := hq t47 s_4 hp
    unfold slices_partitionCmpFunc_string_j14
    refine cond_both' hp (fun hp => ?_) (fun hp => ?_)
    · exact ⟨s_4, rfl, rfl, rfl, rfl, rfl, rfl, hp, h⟩
    obtain ⟨n_3, hn, hp⟩ := hp
    exact ⟨n_3, hn, s_4, rfl, rfl, rfl, rfl, rfl, rfl, hp, h⟩
  clear hq
  replace h := h.drew
  refine cond_both' hp (fun hp => ?_) (fun hp => ?_)
  · exact ⟨s_3, rfl, rfl, rfl, rfl, rfl, rfl, rfl, hp, h⟩
  obtain ⟨ia_6, ja_6, hp⟩ := hp
  obtain ⟨a_6, ha_6⟩ := rdAddr (rowRd h 1 encL9 rfl) (lenSet (lenSet rfl)) ia_6 ja_6
  refine ⟨a_6, ha_6, ia_6, ja_6, ?_⟩
  obtain ⟨x_5, hx_5, hc⟩ := rdCell0 (rowRd h 1 encL9 rfl) ha_6 (lenSet (lenSet rfl)) ia_6 ja_6
  replace hp := hp x_5 hx_5
  refine ⟨_, hc _ rfl, ?_⟩
  obtain ⟨ia_7, ja_7, hp⟩ := hp
  obtain ⟨a_7, ha_7⟩ := rdAddr (rowRd h 1 encL9 rfl) (lenSet (lenSet rfl)) ia_7 ja_7
  refine ⟨a_7, ha_7, ia_7, ja_7, ?_⟩
  obtain ⟨x_6, hx_6, hc⟩ := rdCell0 (rowRd h 1 encL9 rfl) ha_7 (lenSet (lenSet rfl)) ia_7 ja_7
  replace hp := hp x_6 hx_6
  refine ⟨_, hc _ rfl, ?_⟩
  refine hY4 x_5 x_6 _ _ (row enc9 9 1 p_1 c_1 (List.set (List.set data (Int.toNat a_1) x_1) (Int.toNat pivot) x_2) :: FL) _ _ (fun _ h => Mem.drop 1 h) h hp ?_
  intro t45 s_5 w h hp
  refine ⟨_, rfl, ?_⟩
  exact ⟨s_5, rfl, rfl, rfl, rfl, rfl, rfl, rfl, hp, h⟩

/-! slices.pdqsortCmpFunc[string] (34) -/
def slices_pdqsortCmpFunc_string_wp {σ4 : Type} (data : List (ByteArray)) (a_1 : Int) (b_1 : Int) (limit : Int) (s : σ4) (Y4 : (ByteArray) → (ByteArray) → σ4 → (Int → σ4 → Prop) → Prop) (K : List (ByteArray) → σ4 → Prop) : Prop :=
  ∃ (Crec : Nat → (List (ByteArray)) → (Int) → (Int) → (Int) → (σ4) → (List (ByteArray) → σ4 → Prop) → Prop), (∃ (n0 : Nat), Crec n0 data a_1 b_1 limit s K) ∧ ∀ (nrec : Nat) (data : List (ByteArray)) (a_1 : Int) (b_1 : Int) (limit : Int) (s : σ4) (K : List (ByteArray) → σ4 → Prop), Crec nrec data a_1 b_1 limit s K → (∃ (I : Nat → List (ByteArray) → Int → Int → Int → Bool → Bool → σ4 → Prop), (∃ (n_8 : Nat), I n_8 data a_1 b_1 limit true true s) ∧ ∀ (n_2 : Nat) (data_1 : List (ByteArray)) (a1 : Int) (b2 : Int) (limit3 : Int) (wasBalanced10 : Bool) (wasPartitioned11 : Bool) (s_2 : σ4), I n_2 data_1 a1 b2 limit3 wasBalanced10 wasPartitioned11 s_2 → (cond (decide (((IntKind.wrap .i64 (b2 - a1)) : Int) ≤ 12)) (slices_insertionSortCmpFunc_string_wp data_1 a1 b2 s_2 Y4 (fun (data_2 : List (ByteArray)) (s_3 : σ4) => K data_2 s_3)) (cond ((limit3 : Int) == 0) (slices_heapSortCmpFunc_string_wp data_1 a1 b2 s_2 Y4 (fun (data_3 : List (ByteArray)) (s_4 : σ4) => K data_3 s_4)) (joinP2 (fun (data_4 : List (ByteArray)) (limit3_1 : Int) => slices_choosePivotCmpFunc_string_wp data_4 a1 b2 s_2 Y4 (fun (r : Int) (r_1 : Int) (s_5 : σ4) => joinP3 (fun (data_6 : List (ByteArray)) (pivot13 : Int) (hint14 : Int) => joinP2 (fun (data_8 : List (ByteArray)) (s_6 : σ4) => joinP1 (fun (s_8 : σ4) => slices_partitionCmpFunc_string_wp data_8 a1 b2 pivot13 s_8 Y4 (fun (r_4 : Int) (r_5 : Bool) (data_11 : List (ByteArray)) (s_12 : σ4) => cond (decide (((IntKind.wrap .i64 (r_4 - a1)) : Int) < (IntKind.wrap .i64 (b2 - r_4)))) (∃ (n_5 : Nat), n_5 < nrec ∧ (Crec n_5 data_11 a1 r_4 limit3_1 s_12 (fun (data_12 : List (ByteArray)) (s_13 : σ4) => ∃ (n_4 : Nat), n_4 < n_2 ∧ I n_4 data_12 (IntKind.wrap .i64 (r_4 + 1)) b2 limit3_1 (decide (((IntKind.wrap .i64 (r_4 - a1)) : Int) ≥ (IntKind.wrap .i64 (Int.tdiv (IntKind.wrap .i64 (b2 - a1)) 8)))) r_5 s_13))) (∃ (n_7 : Nat), n_7 < nrec ∧ (Crec n_7 data_11 (IntKind.wrap .i64 (r_4 + 1)) b2 limit3_1 s_12 (fun (data_13 : List (ByteArray)) (s_14 : σ4) => ∃ (n_6 : Nat), n_6 < n_2 ∧ I n_6 data_13 a1 r_4 limit3_1 (decide (((IntKind.wrap .i64 (b2 - r_4)) : Int) ≥ (IntKind.wrap .i64 (Int.tdiv (IntKind.wrap .i64 (b2 - a1)) 8)))) r_5 s_14))))) (fun (Q_4 : σ4 → Prop) => joinP2 (fun (t97 : Bool) (s_9 : σ4) => cond t97 (slices_partitionEqualCmpFunc_string_wp data_8 a1 b2 pivot13 s_9 Y4 (fun (r_3 : Int) (data_10 : List (ByteArray)) (s_11 : σ4) => ∃ (n_3 : Nat), n_3 < n_2 ∧ I n_3 data_10 r_3 b2 limit3_1 wasBalanced10 wasPartitioned11 s_11)) (Q_4 s_9)) (fun (Q_5 : Bool → σ4 → Prop) => cond (decide ((a1 : Int) > 0)) (0 ≤ ((IntKind.wrap .i64 (a1 - 1)) : Int) ∧ ((IntKind.wrap .i64 (a1 - 1)) : Int) < ((data.length : Nat) : Int) ∧ (∀ (x_1 : ByteArray), data_8[Int.toNat (IntKind.wrap .i64 (a1 - 1))]? = some x_1 → (0 ≤ (pivot13 : Int) ∧ (pivot13 : Int) < ((data.length : Nat) : Int) ∧ (∀ (x_2 : ByteArray), data_8[Int.toNat pivot13]? = some x_2 → (Y4 x_1 x_2 s_6 (fun (t94 : Int) (s_10 : σ4) => Q_5 (!(decide ((t94 : Int) < 0))) s_10)))))) (Q_5 false s_6)))) (fun (Q_2 : List (ByteArray) → σ4 → Prop) => joinP1 (fun (t75 : Bool) => cond t75 (slices_partialInsertionSortCmpFunc_string_wp data_6 a1 b2 s_5 Y4 (fun (r_2 : Bool) (data_9 : List (ByteArray)) (s_7 : σ4) => cond r_2 (K data_9 s_7) (Q_2 data_9 s_7))) (Q_2 data_6 s_5)) (fun (Q_3 : Bool → Prop) => cond wasBalanced10 (cond wasPartitioned11 (Q_3 ((hint14 : Int) == 1)) (Q_3 false)) (Q_3 false)))) (fun (Q_1 : List (ByteArray) → Int → Int → Prop) => cond ((r_1 : Int) == 2) (slices_reverseRangeCmpFunc_string_wp data_4 a1 b2 s_5 Y4 (fun (data_7 : List (ByteArray)) => Q_1 data_7 (IntKind.wrap .i64 ((IntKind.wrap .i64 (b2 - 1)) - (IntKind.wrap .i64 (r - a1)))) 1)) (Q_1 data_4 r r_1)))) (fun (Q : List (ByteArray) → Int → Prop) => cond (!wasBalanced10) (slices_breakPatternsCmpFunc_string_wp data_1 a1 b2 s_2 Y4 (fun (data_5 : List (ByteArray)) => Q data_5 (IntKind.wrap .i64 (limit3 - 1)))) (Q data_1 limit3))))))
theorem slices_pdqsortCmpFunc_string_ok {σ4 : Type} {A4 : σ4 → HP} {p_1 : Option Addr} {c_1 : Nat} {n_1 : Nat} {ff4 : Fn} {fa4 : Array Value} {fc4 : Array Value} {data : List (ByteArray)} {a_1 : Int} {b_1 : Int} {limit : Int} {s : σ4} {Y4 : (ByteArray) → (ByteArray) → σ4 → (Int → σ4 → Prop) → Prop} {FL : List HP} {w : World} {K : List (ByteArray) → σ4 → Prop} {R : Value → World → Prop}
  (hY4 : ∀ (x0 : ByteArray) (x1 : ByteArray) (s : σ4) (K : Int → σ4 → Prop) (FL2 : List HP) (w : World) (R : Value → World → Prop), (∀ w, Mem FL2 w → Mem FL w) → Mem (A4 s :: FL2) w → Y4 x0 x1 s K → (∀ (r : Int) (s : σ4) (w : World), Mem (A4 s :: FL2) w → K r s → R (Value.int .i64 r) w) → CalleeV Try.prog (Value.func ff4 fa4 fc4) #[(Value.string x0), (Value.string x1)] w R) (hn_p_1 : n_1 = data.length)
  (h : Mem (row enc9 9 1 p_1 c_1 data :: A4 s :: FL) w) (hp : slices_pdqsortCmpFunc_string_wp data a_1 b_1 limit s Y4 K)
  (hR : ∀ (data_1 : List (ByteArray)) (s_1 : σ4) (w : World), data.length = data_1.length → Mem (row enc9 9 1 p_1 c_1 data_1 :: A4 s_1 :: FL) w → K data_1 s_1 → R undef w) :
  CallV Try.prog 34 #[(Value.slice p_1 n_1 c_1), (Value.int .i64 a_1), (Value.int .i64 b_1), (Value.int .i64 limit), (Value.func ff4 fa4 fc4)] w R := by
  unfold slices_pdqsortCmpFunc_string_wp at hp
  obtain ⟨Crec, ⟨n0, h0⟩, hq⟩ := hp
  have main : ∀ (nrec : Nat) {p_1 : Option Addr} {c_1 : Nat} {n_1 : Nat} {data : List (ByteArray)} {a_1 : Int} {b_1 : Int} {limit : Int} {s : σ4} {FL : List HP} {w : World} {K : List (ByteArray) → σ4 → Prop} {R : Value → World → Prop}
  (hY4 : ∀ (x0 : ByteArray) (x1 : ByteArray) (s : σ4) (K : Int → σ4 → Prop) (FL2 : List HP) (w : World) (R : Value → World → Prop), (∀ w, Mem FL2 w → Mem FL w) → Mem (A4 s :: FL2) w → Y4 x0 x1 s K → (∀ (r : Int) (s : σ4) (w : World), Mem (A4 s :: FL2) w → K r s → R (Value.int .i64 r) w) → CalleeV Try.prog (Value.func ff4 fa4 fc4) #[(Value.string x0), (Value.string x1)] w R) (hn_p_1 : n_1 = data.length)
    (h : Mem (row enc9 9 1 p_1 c_1 data :: A4 s :: FL) w) (hp : Crec nrec data a_1 b_1 limit s K)
  (hR : ∀ (data_1 : List (ByteArray)) (s_1 : σ4) (w : World), data.length = data_1.length → Mem (row enc9 9 1 p_1 c_1 data_1 :: A4 s_1 :: FL) w → K data_1 s_1 → R undef w),
    CallV Try.prog 34 #[(Value.slice p_1 n_1 c_1), (Value.int .i64 a_1), (Value.int .i64 b_1), (Value.int .i64 limit), (Value.func ff4 fa4 fc4)] w R := by
    intro nrec
    induction nrec using Nat.strongRecOn with
    | ind nrec ih =>
      intro p_1 c_1 n_1 data a_1 b_1 limit s FL w K R hY4 hn_p_1 h hp hR
      replace hp := hq nrec data a_1 b_1 limit s K hp
      refine slices_pdqsortCmpFunc_string_call ?_
      unfold slices_pdqsortCmpFunc_string
      subst hn_p_1
      have cpp_1 := rowCap h 0 rfl
      obtain ⟨I, ⟨n_8, h0⟩, hq⟩ := hp
      replace h := h.sel [1, 0] 0
      dsimp only [pickL, pickR, nthH, delH, dropH, List.cons_append, List.nil_append] at h
      refine ⟨fun n_2 data0p data0l data0c a1 b2 limit3 cmp4 wasBalanced10 wasPartitioned11 w => ∃ (data_1 : List (ByteArray)), ∃ (s_2 : σ4), p_1 = data0p ∧ data.length = data0l ∧ c_1 = data0c ∧ (Value.func ff4 fa4 fc4) = cmp4 ∧ data.length = data_1.length ∧ I n_2 data_1 a1 b2 limit3 wasBalanced10 wasPartitioned11 s_2 ∧ Mem (A4 s_2 :: row enc9 9 1 p_1 c_1 data_1 :: FL) w, ⟨n_8, data, s, rfl, rfl, rfl, rfl, rfl, h0, h⟩, ?_⟩
      clear h0 h
      rintro n_2 data0p data0l data0c a1 b2 limit3 cmp4 wasBalanced10 wasPartitioned11 w ⟨data_1, s_2, rfl, rfl, rfl, rfl, hl_data_1, hp, h⟩
      replace hp := hq n_2 data_1 a1 b2 limit3 wasBalanced10 wasPartitioned11 s_2 hp
      clear hq
      unfold slices_pdqsortCmpFunc_string_l1
      refine cond_both hp (fun hp => ?_) (fun hp => ?_)
      · replace h := h.pick [1, 0]
        dsimp only [pickL, pickR, nthH, delH, dropH, List.cons_append, List.nil_append] at h
        refine slices_insertionSortCmpFunc_string_ok (FL := FL) (A3 := A4) (Y3 := Y4) (σ3 := σ4) (s := s_2) (fun _ _ _ _ FL2 w R hx => hY4 _ _ _ _ FL2 w R (fun w h => (Mem.drop 0 (hx w h)))) hl_data_1 h hp ?_
        rintro data_2 s_3 w hl_data_2 h hp
        refine ⟨rfl, ?_⟩
        exact hR data_2 s_3 _ (Eq.trans hl_data_1 hl_data_2) h hp
      refine cond_both hp (fun hp => ?_) (fun hp => ?_)
      · replace h := h.pick [1, 0]
        dsimp only [pickL, pickR, nthH, delH, dropH, List.cons_append, List.nil_append] at h
        refine slices_heapSortCmpFunc_string_ok (FL := FL) (A3 := A4) (Y3 := Y4) (σ3 := σ4) (s := s_2) (fun _ _ _ _ FL2 w R hx => hY4 _ _ _ _ FL2 w R (fun w h => (Mem.drop 0 (hx w h)))) hl_data_1 h hp ?_
        rintro data_3 s_4 w hl_data_3 h hp
        refine ⟨rfl, ?_⟩
        exact hR data_3 s_4 _ (Eq.trans hl_data_1 hl_data_3) h hp
      obtain ⟨Q, hq, hp⟩ := hp
      refine ⟨fun data0_1p data0_1l data0_1c a1_1 b2_1 limit3_1 cmp4_1 wasBalanced10_1 wasPartitioned11_1 length12 w => ∃ (data_4 : List (ByteArray)), p_1 = data0_1p ∧ data.length = data0_1l ∧ c_1 = data0_1c ∧ a1 = a1_1 ∧ b2 = b2_1 ∧ (Value.func ff4 fa4 fc4) = cmp4_1 ∧ wasBalanced10 = wasBalanced10_1 ∧ wasPartitioned11 = wasPartitioned11_1 ∧ (IntKind.wrap .i64 (b2 - a1)) = length12 ∧ data.length = data_4.length ∧ Q data_4 limit3_1 ∧ Mem (A4 s_2 :: row enc9 9 1 p_1 c_1 data_4 :: FL) w, ?_, ?_⟩
      · rintro data0_1p data0_1l data0_1c a1_1 b2_1 limit3_1 cmp4_1 wasBalanced10_1 wasPartitioned11_1 length12 w ⟨data_4, rfl, rfl, rfl, rfl, rfl, rfl, rfl, rfl, rfl, hl_data_4, hp, h⟩
        replace hp := hq data_4 limit3_1 hp
        unfold slices_pdqsortCmpFunc_string_j2
        refine slices_choosePivotCmpFunc_string_ok (FL := row enc9 9 1 p_1 c_1 data_4 :: FL) (A3 := A4) (Y3 := Y4) (σ3 := σ4) (s := s_2) (fun _ _ _ _ FL2 w R hx => hY4 _ _ _ _ FL2 w R (fun w h => (Mem.drop 1 (hx w h)))) (fun w h => (rowRd h 0 encL9 rfl)) hl_data_4 cpp_1 h hp ?_
        intro r r_1 s_5 w h hp
        refine ⟨_, _, rfl, ?_⟩
        refine ⟨_, rfl, ?_⟩
        refine ⟨_, rfl, ?_⟩
        obtain ⟨Q_1, hq, hp⟩ := hp
        refine ⟨fun data0_2p data0_2l data0_2c a1_2 b2_2 limit3_2 cmp4_2 wasBalanced10_2 wasPartitioned11_2 length12_1 pivot13 hint14 w => ∃ (data_6 : List (ByteArray)), p_1 = data0_2p ∧ data.length = data0_2l ∧ c_1 = data0_2c ∧ a1 = a1_2 ∧ b2 = b2_2 ∧ limit3_1 = limit3_2 ∧ (Value.func ff4 fa4 fc4) = cmp4_2 ∧ wasBalanced10 = wasBalanced10_2 ∧ wasPartitioned11 = wasPartitioned11_2 ∧ (IntKind.wrap .i64 (b2 - a1)) = length12_1 ∧ data.length = data_6.length ∧ Q_1 data_6 pivot13 hint14 ∧ Mem (A4 s_5 :: row enc9 9 1 p_1 c_1 data_6 :: FL) w, ?_, ?_⟩
        · rintro data0_2p data0_2l data0_2c a1_2 b2_2 limit3_2 cmp4_2 wasBalanced10_2 wasPartitioned11_2 length12_1 pivot13 hint14 w ⟨data_6, rfl, rfl, rfl, rfl, rfl, rfl, rfl, rfl, rfl, rfl, hl_data_6, hp, h⟩
          replace hp := hq data_6 pivot13 hint14 hp
          unfold slices_pdqsortCmpFunc_string_j3
          obtain ⟨Q_2, hq, hp⟩ := hp
          refine ⟨fun data0_3p data0_3l data0_3c a1_3 b2_3 limit3_3 cmp4_3 wasBalanced10_3 wasPartitioned11_3 length12_2 pivot13_1 w => ∃ (data_8 : List (ByteArray)), ∃ (s_6 : σ4), p_1 = data0_3p ∧ data.length = data0_3l ∧ c_1 = data0_3c ∧ a1 = a1_3 ∧ b2 = b2_3 ∧ limit3_1 = limit3_3 ∧ (Value.func ff4 fa4 fc4) = cmp4_3 ∧ wasBalanced10 = wasBalanced10_3 ∧ wasPartitioned11 = wasPartitioned11_3 ∧ (IntKind.wrap .i64 (b2 - a1)) = length12_2 ∧ pivot13 = pivot13_1 ∧ data.length = data_8.length ∧ Q_2 data_8 s_6 ∧ Mem (A4 s_6 :: row enc9 9 1 p_1 c_1 data_8 :: FL) w, ?_, ?_⟩
          · rintro data0_3p data0_3l data0_3c a1_3 b2_3 limit3_3 cmp4_3 wasBalanced10_3 wasPartitioned11_3 length12_2 pivot13_1 w ⟨data_8, s_6, rfl, rfl, rfl, rfl, rfl, rfl, rfl, rfl, rfl, rfl, rfl, hl_data_8, hp, h⟩
            replace hp := hq data_8 s_6 hp
            unfold slices_pdqsortCmpFunc_string_j4
            obtain ⟨Q_4, hq, hp⟩ := hp
            refine ⟨fun data0_5p data0_5l data0_5c a1_5 b2_5 limit3_5 cmp4_5 length12_4 pivot13_3 w => ∃ (s_8 : σ4), p_1 = data0_5p ∧ data.length = data0_5l ∧ c_1 = data0_5c ∧ a1 = a1_5 ∧ b2 = b2_5 ∧ limit3_1 = limit3_5 ∧ (Value.func ff4 fa4 fc4) = cmp4_5 ∧ (IntKind.wrap .i64 (b2 - a1)) = length12_4 ∧ pivot13 = pivot13_3 ∧ Q_4 s_8 ∧ Mem (A4 s_8 :: row enc9 9 1 p_1 c_1 data_8 :: FL) w, ?_, ?_⟩
            · rintro data0_5p data0_5l data0_5c a1_5 b2_5 limit3_5 cmp4_5 length12_4 pivot13_3 w ⟨s_8, rfl, rfl, rfl, rfl, rfl, rfl, rfl, rfl, rfl, hp, h⟩
              replace hp := hq s_8 hp
              unfold slices_pdqsortCmpFunc_string_j5
              replace h := h.pick [1, 0]
              dsimp only [pickL, pickR, nthH, delH, dropH, List.cons_append, List.nil_append] at h
              refine slices_partitionCmpFunc_string_ok (FL := FL) (A4 := A4) (Y4 := Y4) (σ4 := σ4) (s := s_8) (fun _ _ _ _ FL2 w R hx => hY4 _ _ _ _ FL2 w R (fun w h => (Mem.drop 0 (hx w h)))) hl_data_8 h hp ?_
              rintro r_4 r_5 data_11 s_12 w hl_data_11 h hp
              refine ⟨_, _, rfl, ?_⟩
              refine ⟨_, rfl, ?_⟩
              refine ⟨by decide, ?_⟩
              refine cond_both hp (fun hp => ?_) (fun hp => ?_)
              · obtain ⟨n_5, hn_n_5, hp⟩ := hp
                refine ih n_5 hn_n_5 (FL := FL) (s := s_12) (fun _ _ _ _ FL2 w R hx => hY4 _ _ _ _ FL2 w R (fun w h => (Mem.drop 0 (hx w h)))) (Eq.trans hl_data_8 hl_data_11) h hp ?_
                rintro data_12 s_13 w hl_data_12 h hp
                refine ⟨rfl, ?_⟩
                replace h := h.sel [1, 0] 0
                dsimp only [pickL, pickR, nthH, delH, dropH, List.cons_append, List.nil_append] at h
                obtain ⟨n_4, hn, hp⟩ := hp
                exact ⟨n_4, hn, data_12, s_13, rfl, rfl, rfl, rfl, (Eq.trans (Eq.trans hl_data_8 hl_data_11) hl_data_12), hp, h⟩
              obtain ⟨n_7, hn_n_7, hp⟩ := hp
              refine ih n_7 hn_n_7 (FL := FL) (s := s_12) (fun _ _ _ _ FL2 w R hx => hY4 _ _ _ _ FL2 w R (fun w h => (Mem.drop 0 (hx w h)))) (Eq.trans hl_data_8 hl_data_11) h hp ?_
              rintro data_13 s_14 w hl_data_13 h hp
              refine ⟨rfl, ?_⟩
              replace h := h.sel [1, 0] 0
              dsimp only [pickL, pickR, nthH, delH, dropH, List.cons_append, List.nil_append] at h
              obtain ⟨n_6, hn, hp⟩ := hp
              exact ⟨n_6, hn, data_13, s_14, rfl, rfl, rfl, rfl, (Eq.trans (Eq.trans hl_data_8 hl_data_11) hl_data_13), hp, h⟩
            clear hq
            obtain ⟨Q_5, hq, hp⟩ := hp
            refine ⟨fun data0_6p data0_6l data0_6c a1_6 b2_6 limit3_6 cmp4_6 wasBalanced10_5 wasPartitioned11_5 length12_5 pivot13_4 t97 w => ∃ (s_9 : σ4), p_1 = data0_6p ∧ data.length = data0_6l ∧ c_1 = data0_6c ∧ a1 = a1_6 ∧ b2 = b2_6 ∧ limit3_1 = limit3_6 ∧ (Value.func ff4 fa4 fc4) = cmp4_6 ∧ wasBalanced10 = wasBalanced10_5 ∧ wasPartitioned11 = wasPartitioned11_5 ∧ (IntKind.wrap .i64 (b2 - a1)) = length12_5 ∧ pivot13 = pivot13_4 ∧ Q_5 t97 s_9 ∧ Mem (A4 s_9 :: row enc9 9 1 p_1 c_1 data_8 :: FL) w, ?_, ?_⟩
            · rintro data0_6p data0_6l data0_6c a1_6 b2_6 limit3_6 cmp4_6 wasBalanced10_5 wasPartitioned11_5 length12_5 pivot13_4 t97 w ⟨s_9, rfl, rfl, rfl, rfl, rfl, rfl, rfl, rfl, rfl, rfl, rfl, hp, h⟩
              replace hp := hq t97 s_9 hp
              unfold slices_pdqsortCmpFunc_string_j6
              refine cond_both' hp (fun hp => ?_) (fun hp => ?_)
              · exact ⟨s_9, rfl, rfl, rfl, rfl, rfl, rfl, rfl, rfl, rfl, hp, h⟩
              replace h := h.pick [1, 0]
              dsimp only [pickL, pickR, nthH, delH, dropH, List.cons_append, List.nil_append] at h
              refine slices_partitionEqualCmpFunc_string_ok (FL := FL) (A4 := A4) (Y4 := Y4) (σ4 := σ4) (s := s_9) (fun _ _ _ _ FL2 w R hx => hY4 _ _ _ _ FL2 w R (fun w h => (Mem.drop 0 (hx w h)))) hl_data_8 h hp ?_
              rintro r_3 data_10 s_11 w hl_data_10 h hp
              refine ⟨_, rfl, ?_⟩
              replace h := h.sel [1, 0] 0
              dsimp only [pickL, pickR, nthH, delH, dropH, List.cons_append, List.nil_append] at h
              obtain ⟨n_3, hn, hp⟩ := hp
              exact ⟨n_3, hn, data_10, s_11, rfl, rfl, rfl, rfl, (Eq.trans hl_data_8 hl_data_10), hp, h⟩
            clear hq
            replace h := h.drew
            refine cond_both' hp (fun hp => ?_) (fun hp => ?_)
            · exact ⟨s_6, rfl, rfl, rfl, rfl, rfl, rfl, rfl, rfl, rfl, rfl, rfl, hp, h⟩
            obtain ⟨ia_2, ja_2, hp⟩ := hp
            obtain ⟨a_2, ha_2⟩ := rdAddr (rowRd h 1 encL9 rfl) hl_data_8 ia_2 ja_2
            refine ⟨a_2, ha_2, ia_2, ja_2, ?_⟩
            obtain ⟨x_1, hx_1, hc⟩ := rdCell0 (rowRd h 1 encL9 rfl) ha_2 hl_data_8 ia_2 ja_2
            replace hp := hp x_1 hx_1
            refine ⟨_, hc _ rfl, ?_⟩
            obtain ⟨ia_3, ja_3, hp⟩ := hp
            obtain ⟨a_3, ha_3⟩ := rdAddr (rowRd h 1 encL9 rfl) hl_data_8 ia_3 ja_3
            refine ⟨a_3, ha_3, ia_3, ja_3, ?_⟩
            obtain ⟨x_2, hx_2, hc⟩ := rdCell0 (rowRd h 1 encL9 rfl) ha_3 hl_data_8 ia_3 ja_3
            replace hp := hp x_2 hx_2
            refine ⟨_, hc _ rfl, ?_⟩
            refine hY4 x_1 x_2 _ _ (row enc9 9 1 p_1 c_1 data_8 :: FL) _ _ (fun _ h => Mem.drop 1 h) h hp ?_
            intro t94 s_10 w h hp
            refine ⟨_, rfl, ?_⟩
            exact ⟨s_10, rfl, rfl, rfl, rfl, rfl, rfl, rfl, rfl, rfl, rfl, rfl, hp, h⟩
          clear hq
          obtain ⟨Q_3, hq, hp⟩ := hp
          refine ⟨fun data0_4p data0_4l data0_4c a1_4 b2_4 limit3_4 cmp4_4 wasBalanced10_4 wasPartitioned11_4 length12_3 pivot13_2 t75 w => p_1 = data0_4p ∧ data.length = data0_4l ∧ c_1 = data0_4c ∧ a1 = a1_4 ∧ b2 = b2_4 ∧ limit3_1 = limit3_4 ∧ (Value.func ff4 fa4 fc4) = cmp4_4 ∧ wasBalanced10 = wasBalanced10_4 ∧ wasPartitioned11 = wasPartitioned11_4 ∧ (IntKind.wrap .i64 (b2 - a1)) = length12_3 ∧ pivot13 = pivot13_2 ∧ Q_3 t75 ∧ Mem (A4 s_5 :: row enc9 9 1 p_1 c_1 data_6 :: FL) w, ?_, ?_⟩
          · rintro data0_4p data0_4l data0_4c a1_4 b2_4 limit3_4 cmp4_4 wasBalanced10_4 wasPartitioned11_4 length12_3 pivot13_2 t75 w ⟨rfl, rfl, rfl, rfl, rfl, rfl, rfl, rfl, rfl, rfl, rfl, hp, h⟩
            replace hp := hq t75 hp
            unfold slices_pdqsortCmpFunc_string_j7
            refine cond_both' hp (fun hp => ?_) (fun hp => ?_)
            · exact ⟨data_6, s_5, rfl, rfl, rfl, rfl, rfl, rfl, rfl, rfl, rfl, rfl, rfl, hl_data_6, hp, h⟩
            replace h := h.pick [1, 0]
            dsimp only [pickL, pickR, nthH, delH, dropH, List.cons_append, List.nil_append] at h
            refine slices_partialInsertionSortCmpFunc_string_ok (FL := FL) (A3 := A4) (Y3 := Y4) (σ3 := σ4) (s := s_5) (fun _ _ _ _ FL2 w R hx => hY4 _ _ _ _ FL2 w R (fun w h => (Mem.drop 0 (hx w h)))) hl_data_6 h hp ?_
            rintro r_2 data_9 s_7 w hl_data_9 h hp
            refine ⟨_, rfl, ?_⟩
            refine cond_both hp (fun hp => ?_) (fun hp => ?_)
            · exact hR data_9 s_7 _ (Eq.trans hl_data_6 hl_data_9) h hp
            replace h := h.sel [1, 0] 0
            dsimp only [pickL, pickR, nthH, delH, dropH, List.cons_append, List.nil_append] at h
            exact ⟨data_9, s_7, rfl, rfl, rfl, rfl, rfl, rfl, rfl, rfl, rfl, rfl, rfl, (Eq.trans hl_data_6 hl_data_9), hp, h⟩
          clear hq
          refine cond_both' hp (fun hp => ?_) (fun hp => ?_)
          · exact ⟨rfl, rfl, rfl, rfl, rfl, rfl, rfl, rfl, rfl, rfl, rfl, hp, h⟩
          refine cond_both hp (fun hp => ?_) (fun hp => ?_)
          · exact ⟨rfl, rfl, rfl, rfl, rfl, rfl, rfl, rfl, rfl, rfl, rfl, hp, h⟩
          exact ⟨rfl, rfl, rfl, rfl, rfl, rfl, rfl, rfl, rfl, rfl, rfl, hp, h⟩
        clear hq
        refine cond_both' hp (fun hp => ?_) (fun hp => ?_)
        · exact ⟨data_4, rfl, rfl, rfl, rfl, rfl, rfl, rfl, rfl, rfl, rfl, hl_data_4, hp, h⟩
        replace h := h.pick [1, 0]
        dsimp only [pickL, pickR, nthH, delH, dropH, List.cons_append, List.nil_append] at h
        refine slices_reverseRangeCmpFunc_string_ok (FL := FL) (A3 := A4) (Y3 := Y4) (σ3 := σ4) (s := s_5) (fun _ _ _ _ FL2 w R hx => hY4 _ _ _ _ FL2 w R (fun w h => (Mem.drop 0 (hx w h)))) hl_data_4 h hp ?_
        rintro data_7 w hl_data_7 h hp
        refine ⟨rfl, ?_⟩
        replace h := h.sel [1, 0] 0
        dsimp only [pickL, pickR, nthH, delH, dropH, List.cons_append, List.nil_append] at h
        exact ⟨data_7, rfl, rfl, rfl, rfl, rfl, rfl, rfl, rfl, rfl, rfl, (Eq.trans hl_data_4 hl_data_7), hp, h⟩
      clear hq
      refine cond_both' hp (fun hp => ?_) (fun hp => ?_)
      · exact ⟨data_1, rfl, rfl, rfl, rfl, rfl, rfl, rfl, rfl, rfl, hl_data_1, hp, h⟩
      replace h := h.pick [1, 0]
      dsimp only [pickL, pickR, nthH, delH, dropH, List.cons_append, List.nil_append] at h
      refine slices_breakPatternsCmpFunc_string_ok (FL := FL) (A3 := A4) (Y3 := Y4) (σ3 := σ4) (s := s_2) (fun _ _ _ _ FL2 w R hx => hY4 _ _ _ _ FL2 w R (fun w h => (Mem.drop 0 (hx w h)))) hl_data_1 h hp ?_
      rintro data_5 w hl_data_5 h hp
      refine ⟨rfl, ?_⟩
      replace h := h.sel [1, 0] 0
      dsimp only [pickL, pickR, nthH, delH, dropH, List.cons_append, List.nil_append] at h
      exact ⟨data_5, rfl, rfl, rfl, rfl, rfl, rfl, rfl, rfl, rfl, (Eq.trans hl_data_1 hl_data_5), hp, h⟩
  exact main n0 hY4 hn_p_1 h h0 hR

/-! slices.SortFunc[[]string,string] (28) -/
def slices_SortFunc_sl_string_string_wp {σ1 : Type} (x_1 : List (ByteArray)) (s : σ1) (Y1 : (ByteArray) → (ByteArray) → σ1 → (Int → σ1 → Prop) → Prop) (K : List (ByteArray) → σ1 → Prop) : Prop :=
  math_bits_Len_wp (IntKind.wrap .u64 ((x_1.length : Nat) : Int)) (fun (r : Int) => slices_pdqsortCmpFunc_string_wp x_1 0 ((x_1.length : Nat) : Int) r s Y1 (fun (data : List (ByteArray)) (s_2 : σ1) => K data s_2))
theorem slices_SortFunc_sl_string_string_ok {σ1 : Type} {A1 : σ1 → HP} {p_1 : Option Addr} {c_1 : Nat} {n_1 : Nat} {ff1 : Fn} {fa1 : Array Value} {fc1 : Array Value} {x_1 : List (ByteArray)} {s : σ1} {Y1 : (ByteArray) → (ByteArray) → σ1 → (Int → σ1 → Prop) → Prop} {FL : List HP} {w : World} {K : List (ByteArray) → σ1 → Prop} {R : Value → World → Prop}
  (hY1 : ∀ (x0 : ByteArray) (x1 : ByteArray) (s : σ1) (K : Int → σ1 → Prop) (FL2 : List HP) (w : World) (R : Value → World → Prop), (∀ w, Mem FL2 w → Mem FL w) → Mem (A1 s :: FL2) w → Y1 x0 x1 s K → (∀ (r : Int) (s : σ1) (w : World), Mem (A1 s :: FL2) w → K r s → R (Value.int .i64 r) w) → CalleeV Try.prog (Value.func ff1 fa1 fc1) #[(Value.string x0), (Value.string x1)] w R) (hn_p_1 : n_1 = x_1.length)
  (h : Mem (row enc9 9 1 p_1 c_1 x_1 :: A1 s :: FL) w) (hp : slices_SortFunc_sl_string_string_wp x_1 s Y1 K)
  (hR : ∀ (x_1_1 : List (ByteArray)) (s_1 : σ1) (w : World), x_1.length = x_1_1.length → Mem (row enc9 9 1 p_1 c_1 x_1_1 :: A1 s_1 :: FL) w → K x_1_1 s_1 → R undef w) :
  CallV Try.prog 28 #[(Value.slice p_1 n_1 c_1), (Value.func ff1 fa1 fc1)] w R := by
  refine slices_SortFunc_sl_string_string_call ?_
  unfold slices_SortFunc_sl_string_string
  unfold slices_SortFunc_sl_string_string_wp at hp
  subst hn_p_1
  have cpp_1 := rowCap h 0 rfl
  refine math_bits_Len_ok h hp ?_
  intro r w h hp
  refine ⟨_, rfl, ?_⟩
  refine slices_pdqsortCmpFunc_string_ok (FL := FL) (A4 := A1) (Y4 := Y1) (σ4 := σ1) (s := s) (fun _ _ _ _ FL2 w R hx => hY1 _ _ _ _ FL2 w R (fun w h => (Mem.drop 0 (hx w h)))) rfl h hp ?_
  rintro data s_2 w hl_data h hp
  refine ⟨rfl, ?_⟩
  exact hR data s_2 _ hl_data h hp

/-! slices.SortedFunc[string] (21) -/
def slices_SortedFunc_string_wp {σ1 : Type} (m_1 : List (ByteArray × Int)) (s : σ1) (Y1 : (ByteArray) → (ByteArray) → σ1 → (Int → σ1 → Prop) → Prop) (K : List (ByteArray) → σ1 → Prop) : Prop :=
  slices_Collect_string_wp m_1 (fun (rs : List (ByteArray)) => slices_SortFunc_sl_string_string_wp rs s Y1 (fun (x_1 : List (ByteArray)) (s_2 : σ1) => K x_1 s_2))
theorem slices_SortedFunc_string_ok {σ1 : Type} {A1 : σ1 → HP} {b_1 : Nat} {b_2 : Nat} {p_1 : List MapEntry × Nat} {ff1 : Fn} {fa1 : Array Value} {fc1 : Array Value} {m_1 : List (ByteArray × Int)} {s : σ1} {Y1 : (ByteArray) → (ByteArray) → σ1 → (Int → σ1 → Prop) → Prop} {FL : List HP} {w : World} {K : List (ByteArray) → σ1 → Prop} {R : Value → World → Prop}
  (hY1 : ∀ (x0 : ByteArray) (x1 : ByteArray) (s : σ1) (K : Int → σ1 → Prop) (FL2 : List HP) (w : World) (R : Value → World → Prop), (∀ w, Mem FL2 w → Mem FL w) → Mem (A1 s :: FL2) w → Y1 x0 x1 s K → (∀ (r : Int) (s : σ1) (w : World), Mem (A1 s :: FL2) w → K r s → R (Value.int .i64 r) w) → CalleeV Try.prog (Value.func ff1 fa1 fc1) #[(Value.string x0), (Value.string x1)] w R)
  (hM_m_1 : RoM FL b_2 va9 va3 p_1 m_1)
  (h : Mem (cel b_1 58 [(Value.map (some b_2))] :: A1 s :: FL) w) (hp : slices_SortedFunc_string_wp m_1 s Y1 K)
  (hR : ∀ (rs : List (ByteArray)) (s_1 : σ1) (p_2 : Option Addr) (n_1 : Nat) (c_1 : Nat) (w : World), n_1 = rs.length → Mem (row enc9 9 1 p_2 c_1 rs :: cel b_1 58 [(Value.map (some b_2))] :: A1 s_1 :: FL) w → K rs s_1 → R (Value.slice p_2 n_1 c_1) w) :
  CallV Try.prog 21 #[(Value.func (Fn.func 29) #[] #[(Value.pointer (some (Addr.mk b_1 0 none)))]), (Value.func ff1 fa1 fc1)] w R := by
  refine slices_SortedFunc_string_call ?_
  unfold slices_SortedFunc_string
  unfold slices_SortedFunc_string_wp at hp
  refine slices_Collect_string_ok (FL := A1 s :: FL) (hM_m_1.mono (fun w h => (h.drop 1))) h hp ?_
  rintro rs p_2 n_1 c_1 w rfl h hp
  have cpp_2 := rowCap h 0 rfl
  refine ⟨_, _, _, rfl, ?_⟩
  replace h := h.pick [0, 1]
  dsimp only [pickL, pickR, nthH, delH, dropH, List.cons_append, List.nil_append] at h
  refine slices_SortFunc_sl_string_string_ok (FL := cel b_1 58 [(Value.map (some b_2))] :: FL) (A1 := A1) (Y1 := Y1) (σ1 := σ1) (s := s) (fun _ _ _ _ FL2 w R hx => hY1 _ _ _ _ FL2 w R (fun w h => (Mem.drop 1 (hx w h)))) rfl h hp ?_
  rintro x_1 s_2 w hl_x_1 h hp
  refine ⟨rfl, ?_⟩
  replace h := h.sel [0, 1, 0] 0
  dsimp only [pickL, pickR, nthH, delH, dropH, List.cons_append, List.nil_append] at h
  exact hR x_1 s_2 p_2 rs.length c_1 _ hl_x_1 h hp

/-! (*embrasure/due.Table).Names (11) -/
def due_Table_Names_wp (at_ : List (ByteArray × Int)) (K : List (ByteArray) → Prop) : Prop :=
  maps_Keys_map_string_int_string_int_wp at_ (slices_SortedFunc_string_wp at_ () (fun x_1 x_2 s K_1 => due_Table_before_wp at_ x_1 x_2 (fun (r : Int) => K_1 r s)) (fun (rs : List (ByteArray)) (s_1 : (Unit)) => K rs))
theorem due_Table_Names_ok {b_1 : Nat} {b_2 : Nat} {p_1 : List MapEntry × Nat} {at_ : List (ByteArray × Int)} {FL : List HP} {w : World} {K : List (ByteArray) → Prop} {R : Value → World → Prop}
  (hM_at_ : RoM FL b_2 va9 va3 p_1 at_)
  (h : Mem (cel b_1 60 [(Value.map (some b_2))] :: FL) w) (hp : due_Table_Names_wp at_ K)
  (hR : ∀ (rs : List (ByteArray)) (p_2 : Option Addr) (n_1 : Nat) (c_1 : Nat) (w : World), n_1 = rs.length → Mem (row enc9 9 1 p_2 c_1 rs :: cel b_1 60 [(Value.map (some b_2))] :: FL) w → K rs → R (Value.slice p_2 n_1 c_1) w) :
  CallV Try.prog 11 #[(Value.pointer (some (Addr.mk b_1 0 none)))] w R := by
  refine due_Table_Names_call ?_
  unfold due_Table_Names
  unfold due_Table_Names_wp at hp
  refine ⟨_, rfl, ?_⟩
  refine ⟨_, cellL h 0 0 rfl rfl rfl, ?_⟩
  refine maps_Keys_map_string_int_string_int_ok (FL := cel b_1 60 [(Value.map (some b_2))] :: FL) (hM_at_.mono (fun w h => (h.drop 1))) h hp ?_
  intro b_3 w h hp
  refine ⟨_, _, _, rfl, ?_⟩
  replace h := h.pick [1]
  dsimp only [pickL, pickR, nthH, delH, dropH, List.cons_append, List.nil_append] at h
  replace h : Mem ((fun (_ : Unit) => HL [cel b_1 60 [(Value.map (some b_2))]]) () :: cel b_3 58 [(Value.map (some b_2))] :: FL) _ := h.pack 1 [cel b_1 60 [(Value.map (some b_2))]] rfl
  replace h := h.pick [1, 0]
  dsimp only [pickL, pickR, nthH, delH, dropH, List.cons_append, List.nil_append] at h
  refine slices_SortedFunc_string_ok (FL := FL) (A1 := (fun (_ : Unit) => HL [cel b_1 60 [(Value.map (some b_2))]])) (Y1 := (fun x_1 x_2 s K_1 => due_Table_before_wp at_ x_1 x_2 (fun (r : Int) => K_1 r s))) (σ1 := Unit) (s := ()) ?_ (hM_at_.mono (fun w h => (h.drop 0))) h hp ?_
  · intro x_1 x_2 s K FL2 w R hx h hp hR
    replace h := h.unpack
    dsimp only [pickL, pickR, nthH, delH, dropH, List.cons_append, List.nil_append] at h
    refine calleeFn (by kernel_rfl) ?_
    refine due_Table_before_ok (hM_at_.mono (fun w h_ => (by first | exact hx w h_ | exact Mem.drop 1 (hx w h_) | exact Mem.drop 2 (hx w h_) | exact Mem.drop 3 (hx w h_) | exact Mem.drop 4 (hx w h_) | exact Mem.drop 5 (hx w h_) | exact Mem.drop 6 (hx w h_) | exact Mem.drop 7 (hx w h_) | exact Mem.drop 8 (hx w h_) | exact Mem.drop 9 (hx w h_) | exact Mem.drop 10 (hx w h_) | exact Mem.drop 11 (hx w h_) | exact Mem.drop 12 (hx w h_) | exact Mem.drop 13 (hx w h_)))) h hp ?_
    intro r w h hp
    exact hR r s _ (h.pack 1 [cel b_1 60 [(Value.map (some b_2))]] rfl) hp
  rintro rs s_1 p_2 n_1 c_1 w rfl h hp
  have cpp_2 := rowCap h 0 rfl
  replace h := h.pick [2]
  dsimp only [pickL, pickR, nthH, delH, dropH, List.cons_append, List.nil_append] at h
  replace h := h.unpack
  dsimp only [pickL, pickR, nthH, delH, dropH, List.cons_append, List.nil_append] at h
  refine ⟨_, _, _, rfl, ?_⟩
  replace h := h.sel [1, 0] 1
  dsimp only [pickL, pickR, nthH, delH, dropH, List.cons_append, List.nil_append] at h
  exact hR rs p_2 rs.length c_1 _ rfl h hp

/-! (*embrasure/due.Table).At (20) -/
def due_Table_At_wp (at_ : List (ByteArray × Int)) (name : ByteArray) (K : Int → Bool → Prop) : Prop :=
  K (mapGet at_ name 0) (mapHas at_ name)
theorem due_Table_At_ok {b_1 : Nat} {b_2 : Nat} {p_1 : List MapEntry × Nat} {at_ : List (ByteArray × Int)} {name : ByteArray} {FL : List HP} {w : World} {K : Int → Bool → Prop} {R : Value → World → Prop}
  (hM_at_ : RoM FL b_2 va9 va3 p_1 at_)
  (h : Mem (cel b_1 60 [(Value.map (some b_2))] :: FL) w) (hp : due_Table_At_wp at_ name K)
  (hR : ∀ (r : Int) (r_1 : Bool) (w : World), Mem (cel b_1 60 [(Value.map (some b_2))] :: FL) w → K r r_1 → R (Value.tuple #[(Value.int .i64 r), (Value.bool r_1)]) w) :
  CallV Try.prog 20 #[(Value.pointer (some (Addr.mk b_1 0 none))), (Value.string name)] w R := by
  refine due_Table_At_call ?_
  unfold due_Table_At
  unfold due_Table_At_wp at hp
  refine ⟨_, rfl, ?_⟩
  refine ⟨_, cellL h 0 0 rfl rfl rfl, ?_⟩
  refine lookW2 (k := name) (d := 0) (hM_at_.map (h.drop 1)) mu58 kt9 (fun w => run_zeroValue zr3) ?_
  refine ⟨_, _, rfl, ?_⟩
  refine ⟨_, rfl, ?_⟩
  exact hR (mapGet at_ name 0) (mapHas at_ name) _ h hp

/-! embrasure/embrasurelaw06.same (19) -/
def embrasurelaw06_same_wp (at_ : List (ByteArray × Int)) (L : List (ByteArray × Int)) (K : Bool → Prop) : Prop :=
  due_Table_Names_wp at_ (fun (rs : List (ByteArray)) => cond ((((rs.length : Nat) : Int) : Int) != ((L.length : Nat) : Int)) (K false) (joinP0 (due_Table_Next_wp at_ (fun (r_2 : ByteArray) (r_3 : Int) (r_4 : Bool) => cond ((((L.length : Nat) : Int) : Int) == 0) (cond (!r_4) (cond (r_2 == ((ByteArray.mk ([]).toArray))) (K ((r_3 : Int) == 0)) (K false)) (K false)) (cond r_4 (0 ≤ (0 : Int) ∧ (0 : Int) < ((L.length : Nat) : Int) ∧ (∀ (x_5 : ByteArray × Int), L[Int.toNat 0]? = some x_5 → (cond (r_2 == x_5.1) (0 ≤ (0 : Int) ∧ (0 : Int) < ((L.length : Nat) : Int) ∧ (∀ (x_6 : ByteArray × Int), L[Int.toNat 0]? = some x_6 → (K ((r_3 : Int) == x_6.2)))) (K false)))) (K false)))) (fun (Q : Prop) => ∃ (I : Nat → Int → Prop), (∃ (n_4 : Nat), I n_4 0) ∧ ∀ (n_2 : Nat) (i6 : Int), I n_2 i6 → (cond (decide ((i6 : Int) < ((rs.length : Nat) : Int))) (0 ≤ (i6 : Int) ∧ (i6 : Int) < ((rs.length : Nat) : Int) ∧ (∀ (x_1 : ByteArray), rs[Int.toNat i6]? = some x_1 → (due_Table_At_wp at_ x_1 (fun (r : Int) (r_1 : Bool) => joinP1 (fun (t65 : Bool) => cond t65 (K false) (∃ (n_3 : Nat), n_3 < n_2 ∧ I n_3 (IntKind.wrap .i64 (i6 + 1)))) (fun (Q_1 : Bool → Prop) => 0 ≤ (i6 : Int) ∧ (i6 : Int) < ((rs.length : Nat) : Int) ∧ (∀ (x_2 : ByteArray), rs[Int.toNat i6]? = some x_2 → (0 ≤ (i6 : Int) ∧ (i6 : Int) < ((L.length : Nat) : Int) ∧ (∀ (x_3 : ByteArray × Int), L[Int.toNat i6]? = some x_3 → (cond (!(x_2 == x_3.1)) (Q_1 true) (cond (!r_1) (Q_1 true) (0 ≤ (i6 : Int) ∧ (i6 : Int) < ((L.length : Nat) : Int) ∧ (∀ (x_4 : ByteArray × Int), L[Int.toNat i6]? = some x_4 → (Q_1 ((r : Int) != x_4.2)))))))))))))) (Q )))))
theorem embrasurelaw06_same_ok {b_1 : Nat} {b_2 : Nat} {p_1 : List MapEntry × Nat} {b_3 : Nat} {p_2 : Option Addr} {c_1 : Nat} {at_ : List (ByteArray × Int)} {L : List (ByteArray × Int)} {FL : List HP} {w : World} {K : Bool → Prop} {R : Value → World → Prop}
  (hM_at_ : RoM FL b_2 va9 va3 p_1 at_)
  (h : Mem (cel b_1 60 [(Value.map (some b_2))] :: cel b_3 46 [(Value.slice p_2 L.length c_1)] :: row enc50 50 2 p_2 c_1 L :: FL) w) (hp : embrasurelaw06_same_wp at_ L K)
  (hR : ∀ (r : Bool) (w : World), Mem (cel b_1 60 [(Value.map (some b_2))] :: cel b_3 46 [(Value.slice p_2 L.length c_1)] :: row enc50 50 2 p_2 c_1 L :: FL) w → K r → R (Value.bool r) w) :
  CallV Try.prog 19 #[(Value.pointer (some (Addr.mk b_1 0 none))), (Value.pointer (some (Addr.mk b_3 0 none)))] w R := by
  refine embrasurelaw06_same_call ?_
  unfold embrasurelaw06_same
  unfold embrasurelaw06_same_wp at hp
  have cpp_2 := rowCap h 2 rfl
  refine due_Table_Names_ok (FL := cel b_3 46 [(Value.slice p_2 L.length c_1)] :: row enc50 50 2 p_2 c_1 L :: FL) (hM_at_.mono (fun w h => (h.drop 2))) h hp ?_
  rintro rs p_3 n_1 c_2 w rfl h hp
  have cpp_3 := rowCap h 0 rfl
  refine ⟨_, _, _, rfl, ?_⟩
  refine ⟨_, rfl, ?_⟩
  refine ⟨_, _, _, cellL h 2 0 rfl rfl rfl, ?_⟩
  refine cond_both hp (fun hp => ?_) (fun hp => ?_)
  · replace h := h.sel [1, 1, 1] 1
    dsimp only [pickL, pickR, nthH, delH, dropH, List.cons_append, List.nil_append] at h
    exact hR false _ h hp
  obtain ⟨Q, hq, hp⟩ := hp
  refine ⟨fun t0 r1 w => (some (Addr.mk b_1 0 none)) = t0 ∧ (some (Addr.mk b_3 0 none)) = r1 ∧ Q ∧ Mem (cel b_1 60 [(Value.map (some b_2))] :: cel b_3 46 [(Value.slice p_2 L.length c_1)] :: row enc50 50 2 p_2 c_1 L :: FL) w, ?_, ?_⟩
  · rintro t0 r1 w ⟨rfl, rfl, hp, h⟩
    replace hp := hq  hp
    unfold embrasurelaw06_same_j1
    refine due_Table_Next_ok (FL := cel b_3 46 [(Value.slice p_2 L.length c_1)] :: row enc50 50 2 p_2 c_1 L :: FL) (hM_at_.mono (fun w h => (h.drop 2))) h hp ?_
    intro r_2 r_3 r_4 w h hp
    refine ⟨_, _, _, rfl, ?_⟩
    refine ⟨_, rfl, ?_⟩
    refine ⟨_, rfl, ?_⟩
    refine ⟨_, rfl, ?_⟩
    refine ⟨_, _, _, cellL h 1 0 rfl rfl rfl, ?_⟩
    refine cond_both hp (fun hp => ?_) (fun hp => ?_)
    · refine cond_both' hp (fun hp => ?_) (fun hp => ?_)
      · exact hR false _ h hp
      refine eqlStr ?_
      refine ⟨_, rfl, ?_⟩
      refine cond_both hp (fun hp => ?_) (fun hp => ?_)
      · exact hR ((r_3 : Int) == 0) _ h hp
      exact hR false _ h hp
    refine cond_both' hp (fun hp => ?_) (fun hp => ?_)
    · exact hR false _ h hp
    refine ⟨_, rfl, ?_⟩
    refine ⟨_, _, _, cellL h 1 0 rfl rfl rfl, ?_⟩
    obtain ⟨ia_5, ja_5, hp⟩ := hp
    obtain ⟨a_5, ha_5⟩ := rdAddr (rowRd h 2 encL50 rfl) rfl ia_5 ja_5
    refine ⟨a_5, ha_5, ia_5, ja_5, ?_⟩
    obtain ⟨x_5, hx_5, hc⟩ := rdCell (rowRd h 2 encL50 rfl) ha_5 rfl ia_5 ja_5
    replace hp := hp x_5 hx_5
    refine ⟨_, hc 0 _ rfl, ?_⟩
    refine eqlStr ?_
    refine ⟨_, rfl, ?_⟩
    refine cond_both' hp (fun hp => ?_) (fun hp => ?_)
    · exact hR false _ h hp
    refine ⟨_, rfl, ?_⟩
    refine ⟨_, _, _, cellL h 1 0 rfl rfl rfl, ?_⟩
    obtain ⟨ia_6, ja_6, hp⟩ := hp
    obtain ⟨a_6, ha_6⟩ := rdAddr (rowRd h 2 encL50 rfl) rfl ia_6 ja_6
    refine ⟨a_6, ha_6, ia_6, ja_6, ?_⟩
    obtain ⟨x_6, hx_6, hc⟩ := rdCell (rowRd h 2 encL50 rfl) ha_6 rfl ia_6 ja_6
    replace hp := hp x_6 hx_6
    refine ⟨_, hc 1 _ rfl, ?_⟩
    exact hR ((r_3 : Int) == x_6.2) _ h hp
  clear hq
  obtain ⟨I, ⟨n_4, h0⟩, hq⟩ := hp
  replace h := h.sel [1, 1, 1, 0] 0
  dsimp only [pickL, pickR, nthH, delH, dropH, List.cons_append, List.nil_append] at h
  refine ⟨fun n_2 t0_1 r1_1 names5p names5l names5c i6 w => (some (Addr.mk b_1 0 none)) = t0_1 ∧ (some (Addr.mk b_3 0 none)) = r1_1 ∧ p_3 = names5p ∧ rs.length = names5l ∧ c_2 = names5c ∧ I n_2 i6 ∧ Mem (cel b_1 60 [(Value.map (some b_2))] :: cel b_3 46 [(Value.slice p_2 L.length c_1)] :: row enc50 50 2 p_2 c_1 L :: row enc9 9 1 p_3 c_2 rs :: FL) w, ⟨n_4, rfl, rfl, rfl, rfl, rfl, h0, h⟩, ?_⟩
  clear h0 h
  rintro n_2 t0_1 r1_1 names5p names5l names5c i6 w ⟨rfl, rfl, rfl, rfl, rfl, hp, h⟩
  replace hp := hq n_2 i6 hp
  clear hq
  unfold embrasurelaw06_same_l2
  refine cond_both' hp (fun hp => ?_) (fun hp => ?_)
  · replace h := h.sel [0, 0, 0] 1
    dsimp only [pickL, pickR, nthH, delH, dropH, List.cons_append, List.nil_append] at h
    exact ⟨rfl, rfl, hp, h⟩
  obtain ⟨ia_1, ja_1, hp⟩ := hp
  obtain ⟨a_1, ha_1⟩ := rdAddr (rowRd h 3 encL9 rfl) rfl ia_1 ja_1
  refine ⟨a_1, ha_1, ia_1, ja_1, ?_⟩
  obtain ⟨x_1, hx_1, hc⟩ := rdCell0 (rowRd h 3 encL9 rfl) ha_1 rfl ia_1 ja_1
  replace hp := hp x_1 hx_1
  refine ⟨_, hc _ rfl, ?_⟩
  refine due_Table_At_ok (FL := cel b_3 46 [(Value.slice p_2 L.length c_1)] :: row enc50 50 2 p_2 c_1 L :: row enc9 9 1 p_3 c_2 rs :: FL) (hM_at_.mono (fun w h => (h.drop 3))) h hp ?_
  intro r r_1 w h hp
  refine ⟨_, _, rfl, ?_⟩
  refine ⟨_, rfl, ?_⟩
  obtain ⟨Q_1, hq, hp⟩ := hp
  refine ⟨fun t0_2 r1_2 names5_1p names5_1l names5_1c i6_1 t65 w => (some (Addr.mk b_1 0 none)) = t0_2 ∧ (some (Addr.mk b_3 0 none)) = r1_2 ∧ p_3 = names5_1p ∧ rs.length = names5_1l ∧ c_2 = names5_1c ∧ i6 = i6_1 ∧ Q_1 t65 ∧ Mem (cel b_1 60 [(Value.map (some b_2))] :: cel b_3 46 [(Value.slice p_2 L.length c_1)] :: row enc50 50 2 p_2 c_1 L :: row enc9 9 1 p_3 c_2 rs :: FL) w, ?_, ?_⟩
  · rintro t0_2 r1_2 names5_1p names5_1l names5_1c i6_1 t65 w ⟨rfl, rfl, rfl, rfl, rfl, rfl, hp, h⟩
    replace hp := hq t65 hp
    unfold embrasurelaw06_same_j3
    refine cond_both' hp (fun hp => ?_) (fun hp => ?_)
    · obtain ⟨n_3, hn, hp⟩ := hp
      exact ⟨n_3, hn, rfl, rfl, rfl, rfl, rfl, hp, h⟩
    replace h := h.sel [0, 0, 0] 1
    dsimp only [pickL, pickR, nthH, delH, dropH, List.cons_append, List.nil_append] at h
    exact hR false _ h hp
  clear hq
  replace h := h.drew
  obtain ⟨ia_2, ja_2, hp⟩ := hp
  obtain ⟨a_2, ha_2⟩ := rdAddr (rowRd h 3 encL9 rfl) rfl ia_2 ja_2
  refine ⟨a_2, ha_2, ia_2, ja_2, ?_⟩
  obtain ⟨x_2, hx_2, hc⟩ := rdCell0 (rowRd h 3 encL9 rfl) ha_2 rfl ia_2 ja_2
  replace hp := hp x_2 hx_2
  refine ⟨_, hc _ rfl, ?_⟩
  refine ⟨_, rfl, ?_⟩
  refine ⟨_, _, _, cellL h 1 0 rfl rfl rfl, ?_⟩
  obtain ⟨ia_3, ja_3, hp⟩ := hp
  obtain ⟨a_3, ha_3⟩ := rdAddr (rowRd h 2 encL50 rfl) rfl ia_3 ja_3
  refine ⟨a_3, ha_3, ia_3, ja_3, ?_⟩
  obtain ⟨x_3, hx_3, hc⟩ := rdCell (rowRd h 2 encL50 rfl) ha_3 rfl ia_3 ja_3
  replace hp := hp x_3 hx_3
  refine ⟨_, hc 0 _ rfl, ?_⟩
  refine neqStr ?_
  refine ⟨_, rfl, ?_⟩
  refine ⟨rfl, ?_⟩
  refine cond_both hp (fun hp => ?_) (fun hp => ?_)
  · exact ⟨rfl, rfl, rfl, rfl, rfl, rfl, hp, h⟩
  refine cond_both hp (fun hp => ?_) (fun hp => ?_)
  · exact ⟨rfl, rfl, rfl, rfl, rfl, rfl, hp, h⟩
  refine ⟨_, rfl, ?_⟩
  refine ⟨_, _, _, cellL h 1 0 rfl rfl rfl, ?_⟩
  obtain ⟨ia_4, ja_4, hp⟩ := hp
  obtain ⟨a_4, ha_4⟩ := rdAddr (rowRd h 2 encL50 rfl) rfl ia_4 ja_4
  refine ⟨a_4, ha_4, ia_4, ja_4, ?_⟩
  obtain ⟨x_4, hx_4, hc⟩ := rdCell (rowRd h 2 encL50 rfl) ha_4 rfl ia_4 ja_4
  replace hp := hp x_4 hx_4
  refine ⟨_, hc 1 _ rfl, ?_⟩
  exact ⟨rfl, rfl, rfl, rfl, rfl, rfl, hp, h⟩

/-! embrasure/embrasurelaw06.DuePlays (5) -/
def embrasurelaw06_DuePlays_wp (script : List (Int × ByteArray × Int × Int × Int)) (K : Bool → Prop) : Prop :=
  embrasurelaw06_awake_wp (fun (r : Bool) => cond (!r) (K (false)) (embrasurelaw06_small_wp script (fun (r_1 : Bool) => cond (!r_1) (K (true)) (due_New_wp (fun (at_ : List (ByteArray × Int)) => joinP2 (fun (L : List (ByteArray × Int)) (m_1 : List (ByteArray × Int)) => K (true)) (fun (Q : List (ByteArray × Int) → List (ByteArray × Int) → Prop) => ∃ (I : Nat → List (ByteArray × Int) → Int → List (ByteArray × Int) → Prop), (∃ (n_15 : Nat), I n_15 ([] : List (ByteArray × Int)) 0 at_) ∧ ∀ (n_4 : Nat) (L_1 : List (ByteArray × Int)) (i5 : Int) (m_3 : List (ByteArray × Int)), I n_4 L_1 i5 m_3 → (joinP1 (fun (t29 : Bool) => cond t29 (0 ≤ (i5 : Int) ∧ (i5 : Int) < ((script.length : Nat) : Int) ∧ (∀ (x_1 : Int × ByteArray × Int × Int × Int), script[Int.toNat i5]? = some x_1 → (joinP2 (fun (L_2 : List (ByteArray × Int)) (m_6 : List (ByteArray × Int)) => embrasurelaw06_same_wp m_6 L_2 (fun (r_14 : Bool) => cond (!r_14) (K (false)) (∃ (n_14 : Nat), n_14 < n_4 ∧ I n_14 L_2 (IntKind.wrap .i64 (i5 + 1)) m_6))) (fun (Q_2 : List (ByteArray × Int) → List (ByteArray × Int) → Prop) => cond ((x_1.1 : Int) == 0) (due_Table_Set_wp m_3 x_1.2.1 x_1.2.2.1 (fun (r_2 : Int) (m_8 : List (ByteArray × Int)) => embrasureref06_Table_Set_wp L_1 x_1.2.1 x_1.2.2.1 (fun (r_3 : Int) (L_3 : List (ByteArray × Int)) => cond ((r_2 : Int) != r_3) (K (false)) (Q_2 L_3 m_8)))) (cond ((x_1.1 : Int) == 1) (due_Table_Drop_wp m_3 x_1.2.1 (fun (r_4 : Bool) (m_9 : List (ByteArray × Int)) => embrasureref06_Table_Drop_wp L_1 x_1.2.1 (fun (r_5 : Bool) (L_4 : List (ByteArray × Int)) => cond (!(r_4 == r_5)) (K (false)) (Q_2 L_4 m_9)))) (joinP3 (fun (x_2 : Int) (L_5 : List (ByteArray × Int)) (m_10 : List (ByteArray × Int)) => cond (decide ((x_2 : Int) < (if (50 : Int) < (if (1 : Int) > x_1.2.2.2.1 then 1 else x_1.2.2.2.1) then 50 else (if (1 : Int) > x_1.2.2.2.1 then 1 else x_1.2.2.2.1)))) (embrasureref06_Table_Take_wp L_5 x_1.2.2.1 (fun (r_11 : ByteArray) (r_12 : Int) (r_13 : Bool) (L_10 : List (ByteArray × Int)) => cond r_13 (K (false)) (Q_2 L_10 m_10))) (Q_2 L_5 m_10)) (fun (Q_3 : Int → List (ByteArray × Int) → List (ByteArray × Int) → Prop) => due_Table_Due_wp m_3 x_1.2.2.1 (fun (x_3 : Int) => due_Table_Due_c1_wp (0, 0, L_1) (fun x_5 x_6 (s : Nat × Int × (List (ByteArray × Int))) (m_12 : List (ByteArray × Int)) K_1 => s.1 = 0 ∧ (embrasureref06_Table_Take_wp s.2.2 x_1.2.2.1 (fun (r_6 : ByteArray) (r_7 : Int) (r_8 : Bool) (L_7 : List (ByteArray × Int)) => joinP1 (fun (t64 : Bool) => cond t64 (K_1 false (1, s.2.1, L_7) m_12) (joinP2 (fun (L_8 : List (ByteArray × Int)) (m_14 : List (ByteArray × Int)) => cond (decide (((IntKind.wrap .i64 (s.2.1 + 1)) : Int) ≥ (if (50 : Int) < (if (1 : Int) > x_1.2.2.2.1 then 1 else x_1.2.2.2.1) then 50 else (if (1 : Int) > x_1.2.2.2.1 then 1 else x_1.2.2.2.1)))) (K_1 false (2, (IntKind.wrap .i64 (s.2.1 + 1)), L_8) m_14) (K_1 true (0, (IntKind.wrap .i64 (s.2.1 + 1)), L_8) m_14)) (fun (Q_5 : List (ByteArray × Int) → List (ByteArray × Int) → Prop) => joinP1 (fun (t72 : Bool) => cond t72 (due_Table_Set_wp m_12 x_1.2.1 (IntKind.wrap .i64 (x_6 + x_1.2.2.2.2)) (fun (r_9 : Int) (m_17 : List (ByteArray × Int)) => embrasureref06_Table_Set_wp L_7 x_1.2.1 (IntKind.wrap .i64 (x_6 + x_1.2.2.2.2)) (fun (r_10 : Int) (L_9 : List (ByteArray × Int)) => Q_5 L_9 m_17))) (Q_5 L_7 m_12)) (fun (Q_6 : Bool → Prop) => cond (decide ((x_1.2.2.2.2 : Int) > 0)) (Q_6 (decide ((x_1.2.2.2.2 : Int) < 1073741824))) (Q_6 false))))) (fun (Q_4 : Bool → Prop) => cond (!r_8) (Q_4 true) (cond (!(r_6 == x_5)) (Q_4 true) (Q_4 ((r_7 : Int) != x_6))))))) m_3 x_3 (fun (m_18 : List (ByteArray × Int)) (s_1 : (Nat × Int × (List (ByteArray × Int)))) => (s_1.1 = 0 ∧ (Q_3 s_1.2.1 s_1.2.2 m_18)) ∨ (s_1.1 = 1 ∧ (K (false))) ∨ (s_1.1 = 2 ∧ (Q_3 s_1.2.1 s_1.2.2 m_18))))))))))) (Q L_1 m_3)) (fun (Q_1 : Bool → Prop) => cond (decide ((i5 : Int) < ((script.length : Nat) : Int))) (Q_1 (decide ((i5 : Int) < 60))) (Q_1 false)))))))))
theorem embrasurelaw06_DuePlays_ok {p_1 : Option Addr} {n_1 : Nat} {c_1 : Nat} {script : List (Int × ByteArray × Int × Int × Int)} {FL : List HP} {w : World} {K : Bool → Prop} {R : Value → World → Prop}
  (hF_script : ∀ w, Mem FL w → Rd w 5 p_1 enc48 script) (hl_script : n_1 = script.length) (hc_script : n_1 ≤ c_1)
  (h : Mem (FL) w) (hp : embrasurelaw06_DuePlays_wp script K)
  (hR : ∀ (r : Bool) (w : World), Mem (FL) w → K r → R (Value.bool r) w) :
  CallV Try.prog 5 #[(Value.slice p_1 n_1 c_1)] w R := by
  refine embrasurelaw06_DuePlays_call ?_
  unfold embrasurelaw06_DuePlays
  unfold embrasurelaw06_DuePlays_wp at hp
  subst hl_script
  replace h := marksNil h
  refine newL (o := [(Value.bool false)]) h ?_
  intro b_1 w h
  refine embrasurelaw06_awake_ok h hp ?_
  intro r w h hp
  refine ⟨_, rfl, ?_⟩
  refine cond_both hp (fun hp => ?_) (fun hp => ?_)
  · refine storeL (ys := [(Value.bool false)]) h 0 0 rfl rfl rfl sz4 rfl rfl ?_
    intro w h
    dsimp only [setH, setVs, setV] at h
    replace h := h.pick [1]
    dsimp only [pickL, pickR, nthH, delH, dropH, List.cons_append, List.nil_append] at h
    refine ⟨_, cellL h 1 0 rfl rfl rfl, ?_⟩
    replace h := h.sel [] 2
    dsimp only [pickL, pickR, nthH, delH, dropH, List.cons_append, List.nil_append] at h
    exact hR (false) _ h hp
  refine embrasurelaw06_small_ok (FL := cel b_1 4 [(Value.bool false)] :: marksP [] :: FL) (fun w h => (hF_script _ (h.drop 2))) rfl hc_script h hp ?_
  intro r_1 w h hp
  refine ⟨_, rfl, ?_⟩
  refine cond_both hp (fun hp => ?_) (fun hp => ?_)
  · refine storeL (ys := [(Value.bool true)]) h 0 0 rfl rfl rfl sz4 rfl rfl ?_
    intro w h
    dsimp only [setH, setVs, setV] at h
    replace h := h.pick [1]
    dsimp only [pickL, pickR, nthH, delH, dropH, List.cons_append, List.nil_append] at h
    refine ⟨_, cellL h 1 0 rfl rfl rfl, ?_⟩
    replace h := h.sel [] 2
    dsimp only [pickL, pickR, nthH, delH, dropH, List.cons_append, List.nil_append] at h
    exact hR (true) _ h hp
  refine due_New_ok h hp ?_
  intro at_ b_2 b_3 p_2 w h hp
  refine ⟨_, rfl, ?_⟩
  refine newL (o := [(Value.pointer none)]) h ?_
  intro b_4 w h
  refine storeL (ys := [(Value.pointer (some (Addr.mk b_2 0 none)))]) h 0 0 rfl rfl rfl sz24 rfl rfl ?_
  intro w h
  dsimp only [setH, setVs, setV] at h
  refine newL (o := [(Value.slice none 0 0)]) h ?_
  intro b_5 w h
  refine newL (o := [(Value.pointer none)]) h ?_
  intro b_6 w h
  refine storeL (ys := [(Value.pointer (some (Addr.mk b_5 0 none)))]) h 0 0 rfl rfl rfl sz43 rfl rfl ?_
  intro w h
  dsimp only [setH, setVs, setV] at h
  obtain ⟨Q, hq, hp⟩ := hp
  refine ⟨fun t2 m_2 w => ∃ (L : List (ByteArray × Int)), ∃ (p_3 : Option Addr), ∃ (n_2 : Nat), ∃ (c_2 : Nat), ∃ (m_1 : List (ByteArray × Int)), ∃ (p_4 : List MapEntry × Nat), (Addr.mk b_1 0 none) = t2 ∧ n_2 = L.length ∧ Q L m_1 ∧ Mem (cel b_6 43 [(Value.pointer (some (Addr.mk b_5 0 none)))] :: cel b_5 46 [(Value.slice p_3 n_2 c_2)] :: row enc50 50 2 p_3 c_2 L :: cel b_4 24 [(Value.pointer (some (Addr.mk b_2 0 none)))] :: cel b_2 60 [(Value.map (some b_3))] :: cel b_1 4 [(Value.bool false)] :: mapQ b_3 va9 va3 p_4 m_1 :: marksP m_2 :: FL) w, ?_, ?_⟩
  · rintro t2 m_2 w ⟨L, p_3, n_2, c_2, m_1, p_4, rfl, rfl, hp, h⟩
    replace hp := hq L m_1 hp
    unfold embrasurelaw06_DuePlays_j1
    have cpp_3 := rowCap h 2 rfl
    refine storeL (ys := [(Value.bool true)]) h 5 0 rfl rfl rfl sz4 rfl rfl ?_
    intro w h
    dsimp only [setH, setVs, setV] at h
    replace h := h.pick [7]
    dsimp only [pickL, pickR, nthH, delH, dropH, List.cons_append, List.nil_append] at h
    refine finishMarks _ h ?_
    intro w h
    refine ⟨_, cellL h 5 0 rfl rfl rfl, ?_⟩
    replace h := h.sel [] 7
    dsimp only [pickL, pickR, nthH, delH, dropH, List.cons_append, List.nil_append] at h
    exact hR (true) _ h hp
  clear hq
  obtain ⟨I, ⟨n_15, h0⟩, hq⟩ := hp
  replace h := rowNil enc50 50 2 h
  replace h := h.sel [1, 1, 0, 0, 0, 1, 0, 0] 0
  dsimp only [pickL, pickR, nthH, delH, dropH, List.cons_append, List.nil_append] at h
  refine ⟨fun n_4 script0p script0l script0c t2_1 t3 r4 i5 m_4 w => ∃ (L_1 : List (ByteArray × Int)), ∃ (p_5 : Option Addr), ∃ (n_3 : Nat), ∃ (c_3 : Nat), ∃ (m_3 : List (ByteArray × Int)), ∃ (p_6 : List MapEntry × Nat), p_1 = script0p ∧ script.length = script0l ∧ c_1 = script0c ∧ (Addr.mk b_1 0 none) = t2_1 ∧ (Addr.mk b_4 0 none) = t3 ∧ (Addr.mk b_6 0 none) = r4 ∧ n_3 = L_1.length ∧ I n_4 L_1 i5 m_3 ∧ Mem (cel b_6 43 [(Value.pointer (some (Addr.mk b_5 0 none)))] :: cel b_5 46 [(Value.slice p_5 n_3 c_3)] :: row enc50 50 2 p_5 c_3 L_1 :: cel b_4 24 [(Value.pointer (some (Addr.mk b_2 0 none)))] :: cel b_2 60 [(Value.map (some b_3))] :: cel b_1 4 [(Value.bool false)] :: mapQ b_3 va9 va3 p_6 m_3 :: marksP m_4 :: FL) w, ⟨n_15, ([] : List (ByteArray × Int)), none , 0, 0, at_, p_2, rfl, rfl, rfl, rfl, rfl, rfl, rfl, h0, h⟩, ?_⟩
  clear h0 h
  rintro n_4 script0p script0l script0c t2_1 t3 r4 i5 m_4 w ⟨L_1, p_5, n_3, c_3, m_3, p_6, rfl, rfl, rfl, rfl, rfl, rfl, rfl, hp, h⟩
  replace hp := hq n_4 L_1 i5 m_3 hp
  clear hq
  unfold embrasurelaw06_DuePlays_l2
  have cpp_5 := rowCap h 2 rfl
  obtain ⟨Q_1, hq, hp⟩ := hp
  refine ⟨fun script0_1p script0_1l script0_1c t2_2 t3_1 r4_1 i5_1 t29 m_5 w => p_1 = script0_1p ∧ script.length = script0_1l ∧ c_1 = script0_1c ∧ (Addr.mk b_1 0 none) = t2_2 ∧ (Addr.mk b_4 0 none) = t3_1 ∧ (Addr.mk b_6 0 none) = r4_1 ∧ i5 = i5_1 ∧ Q_1 t29 ∧ Mem (cel b_6 43 [(Value.pointer (some (Addr.mk b_5 0 none)))] :: cel b_5 46 [(Value.slice p_5 L_1.length c_3)] :: row enc50 50 2 p_5 c_3 L_1 :: cel b_4 24 [(Value.pointer (some (Addr.mk b_2 0 none)))] :: cel b_2 60 [(Value.map (some b_3))] :: cel b_1 4 [(Value.bool false)] :: mapQ b_3 va9 va3 p_6 m_3 :: marksP m_5 :: FL) w, ?_, ?_⟩
  · rintro script0_1p script0_1l script0_1c t2_2 t3_1 r4_1 i5_1 t29 m_5 w ⟨rfl, rfl, rfl, rfl, rfl, rfl, rfl, hp, h⟩
    replace hp := hq t29 hp
    unfold embrasurelaw06_DuePlays_j3
    refine cond_both' hp (fun hp => ?_) (fun hp => ?_)
    · exact ⟨L_1, p_5, L_1.length, c_3, m_3, p_6, rfl, rfl, hp, h⟩
    obtain ⟨ia_1, ja_1, hp⟩ := hp
    obtain ⟨a_1, ha_1⟩ := rdAddr (hF_script _ (h.drop 8)) rfl ia_1 ja_1
    refine ⟨a_1, ha_1, ia_1, ja_1, ?_⟩
    obtain ⟨x_1, hx_1, hc⟩ := rdCell (hF_script _ (h.drop 8)) ha_1 rfl ia_1 ja_1
    replace hp := hp x_1 hx_1
    refine ⟨_, hc 0 _ rfl, _, hc 1 _ rfl, _, hc 2 _ rfl, _, hc 3 _ rfl, _, hc 4 _ rfl, ?_⟩
    refine newL (o := [(Value.int .i64 0), (Value.string ((ByteArray.mk ([]).toArray))), (Value.int .i64 0), (Value.int .i64 0), (Value.int .i64 0)]) h ?_
    intro b_7 w h
    refine storeL (ys := [(Value.int .i64 x_1.1), (Value.string x_1.2.1), (Value.int .i64 x_1.2.2.1), (Value.int .i64 x_1.2.2.2.1), (Value.int .i64 x_1.2.2.2.2)]) h 0 0 rfl rfl rfl sz48 rfl rfl ?_
    intro w h
    dsimp only [setH, setVs, setV] at h
    obtain ⟨Q_2, hq, hp⟩ := hp
    refine ⟨fun script0_2p script0_2l script0_2c t2_3 t3_2 r4_2 i5_2 m_7 w => ∃ (L_2 : List (ByteArray × Int)), ∃ (p_7 : Option Addr), ∃ (n_5 : Nat), ∃ (c_4 : Nat), ∃ (m_6 : List (ByteArray × Int)), ∃ (p_8 : List MapEntry × Nat), p_1 = script0_2p ∧ script.length = script0_2l ∧ c_1 = script0_2c ∧ (Addr.mk b_1 0 none) = t2_3 ∧ (Addr.mk b_4 0 none) = t3_2 ∧ (Addr.mk b_6 0 none) = r4_2 ∧ i5 = i5_2 ∧ n_5 = L_2.length ∧ Q_2 L_2 m_6 ∧ Mem (cel b_7 48 [(Value.int .i64 x_1.1), (Value.string x_1.2.1), (Value.int .i64 x_1.2.2.1), (Value.int .i64 x_1.2.2.2.1), (Value.int .i64 x_1.2.2.2.2)] :: cel b_6 43 [(Value.pointer (some (Addr.mk b_5 0 none)))] :: cel b_5 46 [(Value.slice p_7 n_5 c_4)] :: row enc50 50 2 p_7 c_4 L_2 :: cel b_4 24 [(Value.pointer (some (Addr.mk b_2 0 none)))] :: cel b_2 60 [(Value.map (some b_3))] :: cel b_1 4 [(Value.bool false)] :: mapQ b_3 va9 va3 p_8 m_6 :: marksP m_7 :: FL) w, ?_, ?_⟩
    · rintro script0_2p script0_2l script0_2c t2_3 t3_2 r4_2 i5_2 m_7 w ⟨L_2, p_7, n_5, c_4, m_6, p_8, rfl, rfl, rfl, rfl, rfl, rfl, rfl, rfl, hp, h⟩
      replace hp := hq L_2 m_6 hp
      unfold embrasurelaw06_DuePlays_j4
      have cpp_7 := rowCap h 3 rfl
      refine ⟨_, cellL h 4 0 rfl rfl rfl, ?_⟩
      refine ⟨_, cellL h 1 0 rfl rfl rfl, ?_⟩
      replace h := h.pick [5, 2, 2]
      dsimp only [pickL, pickR, nthH, delH, dropH, List.cons_append, List.nil_append] at h
      have hMr_mk3 := romOf (h.drop 3) 4 rfl
      refine embrasurelaw06_same_ok (FL := cel b_7 48 [(Value.int .i64 x_1.1), (Value.string x_1.2.1), (Value.int .i64 x_1.2.2.1), (Value.int .i64 x_1.2.2.2.1), (Value.int .i64 x_1.2.2.2.2)] :: cel b_6 43 [(Value.pointer (some (Addr.mk b_5 0 none)))] :: cel b_4 24 [(Value.pointer (some (Addr.mk b_2 0 none)))] :: cel b_1 4 [(Value.bool false)] :: mapQ b_3 va9 va3 p_8 m_6 :: marksP m_7 :: FL) hMr_mk3 h hp ?_
      intro r_14 w h hp
      have cpp_7 := rowCap h 2 rfl
      refine ⟨_, rfl, ?_⟩
      refine cond_both' hp (fun hp => ?_) (fun hp => ?_)
      · replace h := h.sel [4, 1, 1, 2, 0, 1, 1, 1] 1
        dsimp only [pickL, pickR, nthH, delH, dropH, List.cons_append, List.nil_append] at h
        obtain ⟨n_14, hn, hp⟩ := hp
        exact ⟨n_14, hn, L_2, p_7, L_2.length, c_4, m_6, p_8, rfl, rfl, rfl, rfl, rfl, rfl, rfl, hp, h⟩
      refine storeL (ys := [(Value.bool false)]) h 6 0 rfl rfl rfl sz4 rfl rfl ?_
      intro w h
      dsimp only [setH, setVs, setV] at h
      replace h := h.pick [8]
      dsimp only [pickL, pickR, nthH, delH, dropH, List.cons_append, List.nil_append] at h
      refine finishMarks _ h ?_
      intro w h
      refine ⟨_, cellL h 6 0 rfl rfl rfl, ?_⟩
      replace h := h.sel [] 8
      dsimp only [pickL, pickR, nthH, delH, dropH, List.cons_append, List.nil_append] at h
      exact hR (false) _ h hp
    clear hq
    refine ⟨_, cellL h 0 0 rfl rfl rfl, ?_⟩
    refine cond_both hp (fun hp => ?_) (fun hp => ?_)
    · replace h := h.drew
      refine ⟨fun w => Mem (cel b_6 43 [(Value.pointer (some (Addr.mk b_5 0 none)))] :: cel b_7 48 [(Value.int .i64 x_1.1), (Value.string x_1.2.1), (Value.int .i64 x_1.2.2.1), (Value.int .i64 x_1.2.2.2.1), (Value.int .i64 x_1.2.2.2.2)] :: FL) w, (h.sel [1, 0] 7), ?_⟩
      refine ⟨_, cellL h 4 0 rfl rfl rfl, ?_⟩
      refine ⟨_, cellL h 0 1 rfl rfl rfl, ?_⟩
      refine ⟨_, cellL h 0 2 rfl rfl rfl, ?_⟩
      refine ⟨_, cellL h 1 0 rfl rfl rfl, ?_⟩
      refine ⟨?_, ?_⟩
      · intro w h
        change Mem _ _ at h
        refine ⟨_, cellL h 0 0 rfl rfl rfl, ?_⟩
        exact ⟨rfl, rfl⟩
      refine ⟨_, cellL h 0 1 rfl rfl rfl, ?_⟩
      refine ⟨?_, ?_⟩
      · intro w h
        change Mem _ _ at h
        refine ⟨_, cellL h 1 1 rfl rfl rfl, ?_⟩
        exact ⟨rfl, rfl⟩
      refine ⟨_, cellL h 0 2 rfl rfl rfl, ?_⟩
      refine ⟨?_, ?_⟩
      · intro w h
        change Mem _ _ at h
        refine ⟨_, cellL h 1 2 rfl rfl rfl, ?_⟩
        exact ⟨rfl, rfl⟩
      replace h := h.pick [5, 6]
      dsimp only [pickL, pickR, nthH, delH, dropH, List.cons_append, List.nil_append] at h
      refine due_Table_Set_ok h hp ?_
      intro r_2 m_8 p_9 w h hp
      refine ⟨_, rfl, ?_⟩
      refine ⟨(h.sel [3, 2] 7), ?_⟩
      replace h := h.pick [4, 4]
      dsimp only [pickL, pickR, nthH, delH, dropH, List.cons_append, List.nil_append] at h
      refine embrasureref06_Table_Set_ok h hp ?_
      rintro r_3 L_3 p_10 n_6 c_5 w rfl h hp
      have cpp_10 := rowCap h 1 rfl
      refine ⟨_, rfl, ?_⟩
      refine cond_both' hp (fun hp => ?_) (fun hp => ?_)
      · replace h := h.sel [4, 4, 0, 0, 2, 0, 1, 0, 0] 0
        dsimp only [pickL, pickR, nthH, delH, dropH, List.cons_append, List.nil_append] at h
        exact ⟨L_3, p_10, L_3.length, c_5, m_8, p_9, rfl, rfl, rfl, rfl, rfl, rfl, rfl, rfl, hp, h⟩
      refine storeL (ys := [(Value.bool false)]) h 7 0 rfl rfl rfl sz4 rfl rfl ?_
      intro w h
      dsimp only [setH, setVs, setV] at h
      replace h := h.pick [8]
      dsimp only [pickL, pickR, nthH, delH, dropH, List.cons_append, List.nil_append] at h
      refine finishMarks _ h ?_
      intro w h
      refine ⟨_, cellL h 7 0 rfl rfl rfl, ?_⟩
      replace h := h.sel [] 8
      dsimp only [pickL, pickR, nthH, delH, dropH, List.cons_append, List.nil_append] at h
      exact hR (false) _ h hp
    refine cond_both hp (fun hp => ?_) (fun hp => ?_)
    · replace h := h.drew
      refine ⟨fun w => Mem (cel b_6 43 [(Value.pointer (some (Addr.mk b_5 0 none)))] :: cel b_7 48 [(Value.int .i64 x_1.1), (Value.string x_1.2.1), (Value.int .i64 x_1.2.2.1), (Value.int .i64 x_1.2.2.2.1), (Value.int .i64 x_1.2.2.2.2)] :: FL) w, (h.sel [1, 0] 7), ?_⟩
      refine ⟨_, cellL h 4 0 rfl rfl rfl, ?_⟩
      refine ⟨_, cellL h 0 1 rfl rfl rfl, ?_⟩
      refine ⟨_, cellL h 1 0 rfl rfl rfl, ?_⟩
      refine ⟨?_, ?_⟩
      · intro w h
        change Mem _ _ at h
        refine ⟨_, cellL h 0 0 rfl rfl rfl, ?_⟩
        exact ⟨rfl, rfl⟩
      refine ⟨_, cellL h 0 1 rfl rfl rfl, ?_⟩
      refine ⟨?_, ?_⟩
      · intro w h
        change Mem _ _ at h
        refine ⟨_, cellL h 1 1 rfl rfl rfl, ?_⟩
        exact ⟨rfl, rfl⟩
      replace h := h.pick [5, 6]
      dsimp only [pickL, pickR, nthH, delH, dropH, List.cons_append, List.nil_append] at h
      refine due_Table_Drop_ok h hp ?_
      intro r_4 m_9 p_11 w h hp
      refine ⟨_, rfl, ?_⟩
      refine ⟨(h.sel [3, 2] 7), ?_⟩
      replace h := h.pick [4, 4]
      dsimp only [pickL, pickR, nthH, delH, dropH, List.cons_append, List.nil_append] at h
      refine embrasureref06_Table_Drop_ok h hp ?_
      rintro r_5 L_4 p_12 n_7 c_6 w rfl h hp
      have cpp_12 := rowCap h 1 rfl
      refine ⟨_, rfl, ?_⟩
      refine ⟨(h.sel [5, 4] 7), ?_⟩
      refine neqBool undB4 ?_
      refine ⟨_, rfl, ?_⟩
      refine ⟨rfl, ?_⟩
      refine cond_both' hp (fun hp => ?_) (fun hp => ?_)
      · replace h := h.sel [4, 4, 0, 0, 2, 0, 1, 0, 0] 0
        dsimp only [pickL, pickR, nthH, delH, dropH, List.cons_append, List.nil_append] at h
        exact ⟨L_4, p_12, L_4.length, c_6, m_9, p_11, rfl, rfl, rfl, rfl, rfl, rfl, rfl, rfl, hp, h⟩
      refine storeL (ys := [(Value.bool false)]) h 7 0 rfl rfl rfl sz4 rfl rfl ?_
      intro w h
      dsimp only [setH, setVs, setV] at h
      replace h := h.pick [8]
      dsimp only [pickL, pickR, nthH, delH, dropH, List.cons_append, List.nil_append] at h
      refine finishMarks _ h ?_
      intro w h
      refine ⟨_, cellL h 7 0 rfl rfl rfl, ?_⟩
      replace h := h.sel [] 8
      dsimp only [pickL, pickR, nthH, delH, dropH, List.cons_append, List.nil_append] at h
      exact hR (false) _ h hp
    refine newL (o := [(Value.int .i64 0)]) h ?_
    intro b_8 w h
    refine storeL (ys := [(Value.int .i64 0)]) h 0 0 rfl rfl rfl sz3 rfl rfl ?_
    intro w h
    dsimp only [setH, setVs, setV] at h
    obtain ⟨Q_3, hq, hp⟩ := hp
    refine ⟨fun script0_3p script0_3l script0_3c t2_4 t3_3 r4_3 i5_3 d6 n7 m_11 w => ∃ (x_2 : Int), ∃ (L_5 : List (ByteArray × Int)), ∃ (p_13 : Option Addr), ∃ (n_8 : Nat), ∃ (c_7 : Nat), ∃ (m_10 : List (ByteArray × Int)), ∃ (p_14 : List MapEntry × Nat), p_1 = script0_3p ∧ script.length = script0_3l ∧ c_1 = script0_3c ∧ (Addr.mk b_1 0 none) = t2_4 ∧ (Addr.mk b_4 0 none) = t3_3 ∧ (Addr.mk b_6 0 none) = r4_3 ∧ i5 = i5_3 ∧ (Addr.mk b_7 0 none) = d6 ∧ (Addr.mk b_8 0 none) = n7 ∧ n_8 = L_5.length ∧ Q_3 x_2 L_5 m_10 ∧ Mem (cel b_8 3 [(Value.int .i64 x_2)] :: cel b_7 48 [(Value.int .i64 x_1.1), (Value.string x_1.2.1), (Value.int .i64 x_1.2.2.1), (Value.int .i64 x_1.2.2.2.1), (Value.int .i64 x_1.2.2.2.2)] :: cel b_6 43 [(Value.pointer (some (Addr.mk b_5 0 none)))] :: cel b_5 46 [(Value.slice p_13 n_8 c_7)] :: row enc50 50 2 p_13 c_7 L_5 :: cel b_4 24 [(Value.pointer (some (Addr.mk b_2 0 none)))] :: cel b_2 60 [(Value.map (some b_3))] :: cel b_1 4 [(Value.bool false)] :: mapQ b_3 va9 va3 p_14 m_10 :: marksP m_11 :: FL) w, ?_, ?_⟩
    · rintro script0_3p script0_3l script0_3c t2_4 t3_3 r4_3 i5_3 d6 n7 m_11 w ⟨x_2, L_5, p_13, n_8, c_7, m_10, p_14, rfl, rfl, rfl, rfl, rfl, rfl, rfl, rfl, rfl, rfl, hp, h⟩
      replace hp := hq x_2 L_5 m_10 hp
      unfold embrasurelaw06_DuePlays_j5
      have cpp_13 := rowCap h 4 rfl
      refine ⟨_, cellL h 0 0 rfl rfl rfl, ?_⟩
      refine ⟨_, cellL h 1 3 rfl rfl rfl, ?_⟩
      refine cond_both' hp (fun hp => ?_) (fun hp => ?_)
      · replace h := h.sel [1, 1, 1, 1, 1, 1, 1, 1, 1] 1
        dsimp only [pickL, pickR, nthH, delH, dropH, List.cons_append, List.nil_append] at h
        exact ⟨L_5, p_13, L_5.length, c_7, m_10, p_14, rfl, rfl, rfl, rfl, rfl, rfl, rfl, rfl, hp, h⟩
      refine ⟨_, cellL h 2 0 rfl rfl rfl, ?_⟩
      refine ⟨_, cellL h 1 2 rfl rfl rfl, ?_⟩
      replace h := h.pick [3, 3]
      dsimp only [pickL, pickR, nthH, delH, dropH, List.cons_append, List.nil_append] at h
      refine embrasureref06_Table_Take_ok h hp ?_
      rintro r_11 r_12 r_13 L_10 p_24 n_13 c_13 w rfl h hp
      have cpp_24 := rowCap h 1 rfl
      refine ⟨_, _, _, rfl, ?_⟩
      refine ⟨_, _, rfl, ?_⟩
      refine newL (o := [(Value.string ((ByteArray.mk ([]).toArray))), (Value.int .i64 0)]) h ?_
      intro b_12 w h
      refine storeL (ys := [(Value.string r_11), (Value.int .i64 r_12)]) h 0 0 rfl rfl rfl sz50 rfl rfl ?_
      intro w h
      dsimp only [setH, setVs, setV] at h
      refine cond_both' hp (fun hp => ?_) (fun hp => ?_)
      · replace h := h.sel [4, 4, 1, 1, 2, 2, 2, 2, 2] 2
        dsimp only [pickL, pickR, nthH, delH, dropH, List.cons_append, List.nil_append] at h
        exact ⟨L_10, p_24, L_10.length, c_13, m_10, p_14, rfl, rfl, rfl, rfl, rfl, rfl, rfl, rfl, hp, h⟩
      refine storeL (ys := [(Value.bool false)]) h 8 0 rfl rfl rfl sz4 rfl rfl ?_
      intro w h
      dsimp only [setH, setVs, setV] at h
      replace h := h.pick [10]
      dsimp only [pickL, pickR, nthH, delH, dropH, List.cons_append, List.nil_append] at h
      refine finishMarks _ h ?_
      intro w h
      refine ⟨_, cellL h 8 0 rfl rfl rfl, ?_⟩
      replace h := h.sel [] 10
      dsimp only [pickL, pickR, nthH, delH, dropH, List.cons_append, List.nil_append] at h
      exact hR (false) _ h hp
    clear hq
    refine ⟨_, cellL h 5 0 rfl rfl rfl, ?_⟩
    refine ⟨_, cellL h 1 2 rfl rfl rfl, ?_⟩
    replace h := h.pick [6]
    dsimp only [pickL, pickR, nthH, delH, dropH, List.cons_append, List.nil_append] at h
    have hMr_mk3 := romOf (h.drop 1) 7 rfl
    refine due_Table_Due_ok (FL := cel b_8 3 [(Value.int .i64 0)] :: cel b_7 48 [(Value.int .i64 x_1.1), (Value.string x_1.2.1), (Value.int .i64 x_1.2.2.1), (Value.int .i64 x_1.2.2.2.1), (Value.int .i64 x_1.2.2.2.2)] :: cel b_6 43 [(Value.pointer (some (Addr.mk b_5 0 none)))] :: cel b_5 46 [(Value.slice p_5 L_1.length c_3)] :: row enc50 50 2 p_5 c_3 L_1 :: cel b_4 24 [(Value.pointer (some (Addr.mk b_2 0 none)))] :: cel b_1 4 [(Value.bool false)] :: mapQ b_3 va9 va3 p_6 m_3 :: marksP m_5 :: FL) hMr_mk3 h hp ?_
    intro x_3 b_9 b_10 w h hp
    refine ⟨_, _, _, rfl, ?_⟩
    intro e_1 fn_e_1 he_e_1 hr_e_1
    refine newO h ?_
    intro d w h
    refine newO h ?_
    intro l_1 w h
    replace h := h.pick [1, 12]
    dsimp only [pickL, pickR, nthH, delH, dropH, List.cons_append, List.nil_append] at h
    replace h := marksPush h
    show rangeCallW _ (Value.func (Fn.func 24) _ _) _ _ _
    refine rangeCallFn (by kernel_rfl) ?_
    replace h := h.pick [1, 4, 4, 4, 4, 4, 4, 4]
    dsimp only [pickL, pickR, nthH, delH, dropH, List.cons_append, List.nil_append] at h
    replace h : Mem ((fun (s : Nat × Int × (List (ByteArray × Int))) => exH fun (p_15 : Option Addr) => exH fun (c_8 : Nat) => HL [pt l_1 (loopS (embrasurelaw06_DuePlays_lo1 fn_e_1 e_1 d) s.1 (fun (n : Nat) => ((if n = 0 then none else (if n = 1 then (some .ret) else (some (.exit 3)))) : Option Code))), cel b_8 3 [(Value.int .i64 s.2.1)], cel b_7 48 [(Value.int .i64 x_1.1), (Value.string x_1.2.1), (Value.int .i64 x_1.2.2.1), (Value.int .i64 x_1.2.2.2.1), (Value.int .i64 x_1.2.2.2.2)], cel b_6 43 [(Value.pointer (some (Addr.mk b_5 0 none)))], cel b_5 46 [(Value.slice p_15 s.2.2.length c_8)], row enc50 50 2 p_15 c_8 s.2.2, cel b_4 24 [(Value.pointer (some (Addr.mk b_2 0 none)))], cel b_1 4 [(Value.bool false)]]) (0, 0, L_1) :: marksP (d :: m_5) :: cel b_9 24 [(Value.pointer (some (Addr.mk b_2 0 none)))] :: cel b_10 3 [(Value.int .i64 x_3)] :: cel b_2 60 [(Value.map (some b_3))] :: mapQ b_3 va9 va3 p_6 m_3 :: FL) _ := Mem.exsI p_5 (Mem.exsI c_3 (h.pack 8 [pt l_1 (loopS (embrasurelaw06_DuePlays_lo1 fn_e_1 e_1 d) 0 (fun (n : Nat) => ((if n = 0 then none else (if n = 1 then (some .ret) else (some (.exit 3)))) : Option Code))), cel b_8 3 [(Value.int .i64 0)], cel b_7 48 [(Value.int .i64 x_1.1), (Value.string x_1.2.1), (Value.int .i64 x_1.2.2.1), (Value.int .i64 x_1.2.2.2.1), (Value.int .i64 x_1.2.2.2.2)], cel b_6 43 [(Value.pointer (some (Addr.mk b_5 0 none)))], cel b_5 46 [(Value.slice p_5 L_1.length c_3)], row enc50 50 2 p_5 c_3 L_1, cel b_4 24 [(Value.pointer (some (Addr.mk b_2 0 none)))], cel b_1 4 [(Value.bool false)]] rfl))
    replace h := h.pick [2, 3, 3, 2, 0]
    dsimp only [pickL, pickR, nthH, delH, dropH, List.cons_append, List.nil_append] at h
    refine due_Table_Due_c1_ok (FL := marksP (d :: m_5) :: FL) (A0 := (fun (s : Nat × Int × (List (ByteArray × Int))) => exH fun (p_15 : Option Addr) => exH fun (c_8 : Nat) => HL [pt l_1 (loopS (embrasurelaw06_DuePlays_lo1 fn_e_1 e_1 d) s.1 (fun (n : Nat) => ((if n = 0 then none else (if n = 1 then (some .ret) else (some (.exit 3)))) : Option Code))), cel b_8 3 [(Value.int .i64 s.2.1)], cel b_7 48 [(Value.int .i64 x_1.1), (Value.string x_1.2.1), (Value.int .i64 x_1.2.2.1), (Value.int .i64 x_1.2.2.2.1), (Value.int .i64 x_1.2.2.2.2)], cel b_6 43 [(Value.pointer (some (Addr.mk b_5 0 none)))], cel b_5 46 [(Value.slice p_15 s.2.2.length c_8)], row enc50 50 2 p_15 c_8 s.2.2, cel b_4 24 [(Value.pointer (some (Addr.mk b_2 0 none)))], cel b_1 4 [(Value.bool false)]])) (Y0 := (fun x_5 x_6 (s : Nat × Int × (List (ByteArray × Int))) (m_12 : List (ByteArray × Int)) K_1 => s.1 = 0 ∧ (embrasureref06_Table_Take_wp s.2.2 x_1.2.2.1 (fun (r_6 : ByteArray) (r_7 : Int) (r_8 : Bool) (L_7 : List (ByteArray × Int)) => joinP1 (fun (t64 : Bool) => cond t64 (K_1 false (1, s.2.1, L_7) m_12) (joinP2 (fun (L_8 : List (ByteArray × Int)) (m_14 : List (ByteArray × Int)) => cond (decide (((IntKind.wrap .i64 (s.2.1 + 1)) : Int) ≥ (if (50 : Int) < (if (1 : Int) > x_1.2.2.2.1 then 1 else x_1.2.2.2.1) then 50 else (if (1 : Int) > x_1.2.2.2.1 then 1 else x_1.2.2.2.1)))) (K_1 false (2, (IntKind.wrap .i64 (s.2.1 + 1)), L_8) m_14) (K_1 true (0, (IntKind.wrap .i64 (s.2.1 + 1)), L_8) m_14)) (fun (Q_5 : List (ByteArray × Int) → List (ByteArray × Int) → Prop) => joinP1 (fun (t72 : Bool) => cond t72 (due_Table_Set_wp m_12 x_1.2.1 (IntKind.wrap .i64 (x_6 + x_1.2.2.2.2)) (fun (r_9 : Int) (m_17 : List (ByteArray × Int)) => embrasureref06_Table_Set_wp L_7 x_1.2.1 (IntKind.wrap .i64 (x_6 + x_1.2.2.2.2)) (fun (r_10 : Int) (L_9 : List (ByteArray × Int)) => Q_5 L_9 m_17))) (Q_5 L_7 m_12)) (fun (Q_6 : Bool → Prop) => cond (decide ((x_1.2.2.2.2 : Int) > 0)) (Q_6 (decide ((x_1.2.2.2.2 : Int) < 1073741824))) (Q_6 false))))) (fun (Q_4 : Bool → Prop) => cond (!r_8) (Q_4 true) (cond (!(r_6 == x_5)) (Q_4 true) (Q_4 ((r_7 : Int) != x_6)))))))) (σ0 := Nat × Int × (List (ByteArray × Int))) (s := (0, 0, L_1)) ?_ h hp ?_
    · intro x_5 x_6 s m_12 p_16 K_1 FL2 w R hx h hp hR
      obtain ⟨p_15, h⟩ := Mem.exs h
      obtain ⟨c_8, h⟩ := Mem.exs h
      replace h := h.unpack
      dsimp only [pickL, pickR, nthH, delH, dropH, List.cons_append, List.nil_append] at h
      obtain ⟨hst, hp⟩ := hp
      refine embrasurelaw06_DuePlays_r1_yield (by have := objAt h 0 rfl; rw [hst] at this; exact this) he_e_1 hr_e_1 ?_
      unfold embrasurelaw06_DuePlays_r1
      have cpp_15 := rowCap h 5 rfl
      refine ⟨_, (by have := objAt h 0 rfl; rw [hst] at this; exact this : _ = some (Obj.loop (embrasurelaw06_DuePlays_lo1 fn_e_1 e_1 d))), rfl, ?_⟩
      replace h := h.putK 0 rfl (.loop { embrasurelaw06_DuePlays_lo1 fn_e_1 e_1 d with state := .busy })
      dsimp only [setH] at h
      refine ⟨_, cellL h 3 0 rfl rfl rfl, ?_⟩
      refine ⟨_, cellL h 2 2 rfl rfl rfl, ?_⟩
      replace h := h.pick [4, 4]
      dsimp only [pickL, pickR, nthH, delH, dropH, List.cons_append, List.nil_append] at h
      refine embrasureref06_Table_Take_ok h hp ?_
      rintro r_6 r_7 r_8 L_7 p_17 n_10 c_9 w rfl h hp
      have cpp_17 := rowCap h 1 rfl
      refine ⟨_, _, _, rfl, ?_⟩
      refine ⟨_, _, rfl, ?_⟩
      refine newL (o := [(Value.string ((ByteArray.mk ([]).toArray))), (Value.int .i64 0)]) h ?_
      intro b_11 w h
      refine storeL (ys := [(Value.string r_6), (Value.int .i64 r_7)]) h 0 0 rfl rfl rfl sz50 rfl rfl ?_
      intro w h
      dsimp only [setH, setVs, setV] at h
      obtain ⟨Q_4, hq, hp⟩ := hp
      refine ⟨fun t2_5 t3_4 r4_4 d6_1 n7_1 at9 t64 m_13 w => (Addr.mk b_1 0 none) = t2_5 ∧ (Addr.mk b_4 0 none) = t3_4 ∧ (Addr.mk b_6 0 none) = r4_4 ∧ (Addr.mk b_7 0 none) = d6_1 ∧ (Addr.mk b_8 0 none) = n7_1 ∧ x_6 = at9 ∧ ([] : List Nat) = m_13 ∧ Q_4 t64 ∧ Mem (cel b_11 50 [(Value.string r_6), (Value.int .i64 r_7)] :: cel b_5 46 [(Value.slice p_17 L_7.length c_9)] :: row enc50 50 2 p_17 c_9 L_7 :: cel b_8 3 [(Value.int .i64 s.2.1)] :: cel b_7 48 [(Value.int .i64 x_1.1), (Value.string x_1.2.1), (Value.int .i64 x_1.2.2.1), (Value.int .i64 x_1.2.2.2.1), (Value.int .i64 x_1.2.2.2.2)] :: cel b_6 43 [(Value.pointer (some (Addr.mk b_5 0 none)))] :: cel b_4 24 [(Value.pointer (some (Addr.mk b_2 0 none)))] :: cel b_1 4 [(Value.bool false)] :: cel b_2 60 [(Value.map (some b_3))] :: pt l_1 (.loop { embrasurelaw06_DuePlays_lo1 fn_e_1 e_1 d with state := .busy }) :: mapQ b_3 va9 va3 p_16 m_12 :: FL2) w, ?_, ?_⟩
      · rintro t2_5 t3_4 r4_4 d6_1 n7_1 at9 t64 m_13 w ⟨rfl, rfl, rfl, rfl, rfl, rfl, rfl, hp, h⟩
        replace hp := hq t64 hp
        unfold embrasurelaw06_DuePlays_j6
        refine cond_both hp (fun hp => ?_) (fun hp => ?_)
        · refine storeL (ys := [(Value.bool false)]) h 7 0 rfl rfl rfl sz4 rfl rfl ?_
          intro w h
          dsimp only [setH, setVs, setV] at h
          refine ⟨_, objAt h 9 rfl, ?_⟩
          replace h := h.putK 9 rfl (loopS (embrasurelaw06_DuePlays_lo1 fn_e_1 e_1 d) 1 (fun (n : Nat) => ((if n = 0 then none else (if n = 1 then (some .ret) else (some (.exit 3)))) : Option Code)))
          dsimp only [setH] at h
          replace h := h.pick [9]
          dsimp only [pickL, pickR, nthH, delH, dropH, List.cons_append, List.nil_append] at h
          replace h := h.pick [0, 3, 3, 3, 1, 1, 1, 1]
          dsimp only [pickL, pickR, nthH, delH, dropH, List.cons_append, List.nil_append] at h
          replace h := h.sel [0, 0, 0, 0, 0, 0, 0, 0, 1, 1] 1
          dsimp only [pickL, pickR, nthH, delH, dropH, List.cons_append, List.nil_append] at h
          exact hR false (1, s.2.1, L_7) _ _ _ (Mem.exsI p_17 (Mem.exsI c_9 (h.pack 8 [pt l_1 (loopS (embrasurelaw06_DuePlays_lo1 fn_e_1 e_1 d) 1 (fun (n : Nat) => ((if n = 0 then none else (if n = 1 then (some .ret) else (some (.exit 3)))) : Option Code))), cel b_8 3 [(Value.int .i64 s.2.1)], cel b_7 48 [(Value.int .i64 x_1.1), (Value.string x_1.2.1), (Value.int .i64 x_1.2.2.1), (Value.int .i64 x_1.2.2.2.1), (Value.int .i64 x_1.2.2.2.2)], cel b_6 43 [(Value.pointer (some (Addr.mk b_5 0 none)))], cel b_5 46 [(Value.slice p_17 L_7.length c_9)], row enc50 50 2 p_17 c_9 L_7, cel b_4 24 [(Value.pointer (some (Addr.mk b_2 0 none)))], cel b_1 4 [(Value.bool false)]] rfl))) hp
        obtain ⟨Q_5, hq, hp⟩ := hp
        refine ⟨fun d6_2 n7_2 m_15 w => ∃ (L_8 : List (ByteArray × Int)), ∃ (p_18 : Option Addr), ∃ (n_11 : Nat), ∃ (c_10 : Nat), ∃ (m_14 : List (ByteArray × Int)), ∃ (p_19 : List MapEntry × Nat), (Addr.mk b_7 0 none) = d6_2 ∧ (Addr.mk b_8 0 none) = n7_2 ∧ ([] : List Nat) = m_15 ∧ n_11 = L_8.length ∧ Q_5 L_8 m_14 ∧ Mem (cel b_11 50 [(Value.string r_6), (Value.int .i64 r_7)] :: cel b_5 46 [(Value.slice p_18 n_11 c_10)] :: row enc50 50 2 p_18 c_10 L_8 :: cel b_8 3 [(Value.int .i64 s.2.1)] :: cel b_7 48 [(Value.int .i64 x_1.1), (Value.string x_1.2.1), (Value.int .i64 x_1.2.2.1), (Value.int .i64 x_1.2.2.2.1), (Value.int .i64 x_1.2.2.2.2)] :: cel b_6 43 [(Value.pointer (some (Addr.mk b_5 0 none)))] :: cel b_4 24 [(Value.pointer (some (Addr.mk b_2 0 none)))] :: cel b_1 4 [(Value.bool false)] :: cel b_2 60 [(Value.map (some b_3))] :: pt l_1 (.loop { embrasurelaw06_DuePlays_lo1 fn_e_1 e_1 d with state := .busy }) :: mapQ b_3 va9 va3 p_19 m_14 :: FL2) w, ?_, ?_⟩
        · rintro d6_2 n7_2 m_15 w ⟨L_8, p_18, n_11, c_10, m_14, p_19, rfl, rfl, rfl, rfl, hp, h⟩
          replace hp := hq L_8 m_14 hp
          unfold embrasurelaw06_DuePlays_j7
          have cpp_18 := rowCap h 2 rfl
          refine ⟨_, cellL h 3 0 rfl rfl rfl, ?_⟩
          refine storeL (ys := [(Value.int .i64 (IntKind.wrap .i64 (s.2.1 + 1)))]) h 3 0 rfl rfl rfl sz3 rfl rfl ?_
          intro w h
          dsimp only [setH, setVs, setV] at h
          refine ⟨_, cellL h 3 0 rfl rfl rfl, ?_⟩
          refine ⟨_, cellL h 4 3 rfl rfl rfl, ?_⟩
          refine cond_both hp (fun hp => ?_) (fun hp => ?_)
          · refine ⟨_, objAt h 9 rfl, ?_⟩
            replace h := h.putK 9 rfl (loopS (embrasurelaw06_DuePlays_lo1 fn_e_1 e_1 d) 2 (fun (n : Nat) => ((if n = 0 then none else (if n = 1 then (some .ret) else (some (.exit 3)))) : Option Code)))
            dsimp only [setH] at h
            replace h := h.pick [9]
            dsimp only [pickL, pickR, nthH, delH, dropH, List.cons_append, List.nil_append] at h
            replace h := h.pick [0, 3, 3, 3, 1, 1, 1, 1]
            dsimp only [pickL, pickR, nthH, delH, dropH, List.cons_append, List.nil_append] at h
            replace h := h.sel [0, 0, 0, 0, 0, 0, 0, 0, 1, 1] 1
            dsimp only [pickL, pickR, nthH, delH, dropH, List.cons_append, List.nil_append] at h
            exact hR false (2, (IntKind.wrap .i64 (s.2.1 + 1)), L_8) _ _ _ (Mem.exsI p_18 (Mem.exsI c_10 (h.pack 8 [pt l_1 (loopS (embrasurelaw06_DuePlays_lo1 fn_e_1 e_1 d) 2 (fun (n : Nat) => ((if n = 0 then none else (if n = 1 then (some .ret) else (some (.exit 3)))) : Option Code))), cel b_8 3 [(Value.int .i64 (IntKind.wrap .i64 (s.2.1 + 1)))], cel b_7 48 [(Value.int .i64 x_1.1), (Value.string x_1.2.1), (Value.int .i64 x_1.2.2.1), (Value.int .i64 x_1.2.2.2.1), (Value.int .i64 x_1.2.2.2.2)], cel b_6 43 [(Value.pointer (some (Addr.mk b_5 0 none)))], cel b_5 46 [(Value.slice p_18 L_8.length c_10)], row enc50 50 2 p_18 c_10 L_8, cel b_4 24 [(Value.pointer (some (Addr.mk b_2 0 none)))], cel b_1 4 [(Value.bool false)]] rfl))) hp
          refine ⟨_, objAt h 9 rfl, ?_⟩
          replace h := h.putK 9 rfl (loopS (embrasurelaw06_DuePlays_lo1 fn_e_1 e_1 d) 0 (fun (n : Nat) => ((if n = 0 then none else (if n = 1 then (some .ret) else (some (.exit 3)))) : Option Code)))
          dsimp only [setH] at h
          replace h := h.pick [9]
          dsimp only [pickL, pickR, nthH, delH, dropH, List.cons_append, List.nil_append] at h
          replace h := h.pick [0, 3, 3, 3, 1, 1, 1, 1]
          dsimp only [pickL, pickR, nthH, delH, dropH, List.cons_append, List.nil_append] at h
          replace h := h.sel [0, 0, 0, 0, 0, 0, 0, 0, 1, 1] 1
          dsimp only [pickL, pickR, nthH, delH, dropH, List.cons_append, List.nil_append] at h
          exact hR true (0, (IntKind.wrap .i64 (s.2.1 + 1)), L_8) _ _ _ (Mem.exsI p_18 (Mem.exsI c_10 (h.pack 8 [pt l_1 (loopS (embrasurelaw06_DuePlays_lo1 fn_e_1 e_1 d) 0 (fun (n : Nat) => ((if n = 0 then none else (if n = 1 then (some .ret) else (some (.exit 3)))) : Option Code))), cel b_8 3 [(Value.int .i64 (IntKind.wrap .i64 (s.2.1 + 1)))], cel b_7 48 [(Value.int .i64 x_1.1), (Value.string x_1.2.1), (Value.int .i64 x_1.2.2.1), (Value.int .i64 x_1.2.2.2.1), (Value.int .i64 x_1.2.2.2.2)], cel b_6 43 [(Value.pointer (some (Addr.mk b_5 0 none)))], cel b_5 46 [(Value.slice p_18 L_8.length c_10)], row enc50 50 2 p_18 c_10 L_8, cel b_4 24 [(Value.pointer (some (Addr.mk b_2 0 none)))], cel b_1 4 [(Value.bool false)]] rfl))) hp
        clear hq
        obtain ⟨Q_6, hq, hp⟩ := hp
        refine ⟨fun t3_5 r4_5 d6_3 n7_3 at9_1 t72 m_16 w => (Addr.mk b_4 0 none) = t3_5 ∧ (Addr.mk b_6 0 none) = r4_5 ∧ (Addr.mk b_7 0 none) = d6_3 ∧ (Addr.mk b_8 0 none) = n7_3 ∧ x_6 = at9_1 ∧ ([] : List Nat) = m_16 ∧ Q_6 t72 ∧ Mem (cel b_11 50 [(Value.string r_6), (Value.int .i64 r_7)] :: cel b_5 46 [(Value.slice p_17 L_7.length c_9)] :: row enc50 50 2 p_17 c_9 L_7 :: cel b_8 3 [(Value.int .i64 s.2.1)] :: cel b_7 48 [(Value.int .i64 x_1.1), (Value.string x_1.2.1), (Value.int .i64 x_1.2.2.1), (Value.int .i64 x_1.2.2.2.1), (Value.int .i64 x_1.2.2.2.2)] :: cel b_6 43 [(Value.pointer (some (Addr.mk b_5 0 none)))] :: cel b_4 24 [(Value.pointer (some (Addr.mk b_2 0 none)))] :: cel b_1 4 [(Value.bool false)] :: cel b_2 60 [(Value.map (some b_3))] :: pt l_1 (.loop { embrasurelaw06_DuePlays_lo1 fn_e_1 e_1 d with state := .busy }) :: mapQ b_3 va9 va3 p_16 m_12 :: FL2) w, ?_, ?_⟩
        · rintro t3_5 r4_5 d6_3 n7_3 at9_1 t72 m_16 w ⟨rfl, rfl, rfl, rfl, rfl, rfl, hp, h⟩
          replace hp := hq t72 hp
          unfold embrasurelaw06_DuePlays_j8
          refine cond_both' hp (fun hp => ?_) (fun hp => ?_)
          · exact ⟨L_7, p_17, L_7.length, c_9, m_12, p_16, rfl, rfl, rfl, rfl, hp, h⟩
          refine ⟨_, cellL h 6 0 rfl rfl rfl, ?_⟩
          refine ⟨_, cellL h 4 1 rfl rfl rfl, ?_⟩
          refine ⟨_, cellL h 4 4 rfl rfl rfl, ?_⟩
          replace h := h.pick [8, 9]
          dsimp only [pickL, pickR, nthH, delH, dropH, List.cons_append, List.nil_append] at h
          refine due_Table_Set_ok h hp ?_
          intro r_9 m_17 p_20 w h hp
          refine ⟨_, rfl, ?_⟩
          refine ⟨_, cellL h 7 0 rfl rfl rfl, ?_⟩
          refine ⟨_, cellL h 6 1 rfl rfl rfl, ?_⟩
          refine ⟨_, cellL h 6 4 rfl rfl rfl, ?_⟩
          replace h := h.pick [3, 3]
          dsimp only [pickL, pickR, nthH, delH, dropH, List.cons_append, List.nil_append] at h
          refine embrasureref06_Table_Set_ok h hp ?_
          rintro r_10 L_9 p_21 n_12 c_11 w rfl h hp
          have cpp_21 := rowCap h 1 rfl
          refine ⟨_, rfl, ?_⟩
          replace h := h.sel [4, 0, 0, 2, 2, 2, 2, 2, 0, 1, 0] 0
          dsimp only [pickL, pickR, nthH, delH, dropH, List.cons_append, List.nil_append] at h
          exact ⟨L_9, p_21, L_9.length, c_11, m_17, p_20, rfl, rfl, rfl, rfl, hp, h⟩
        clear hq
        refine ⟨_, cellL h 4 4 rfl rfl rfl, ?_⟩
        refine cond_both' hp (fun hp => ?_) (fun hp => ?_)
        · exact ⟨rfl, rfl, rfl, rfl, rfl, rfl, hp, h⟩
        refine ⟨_, cellL h 4 4 rfl rfl rfl, ?_⟩
        exact ⟨rfl, rfl, rfl, rfl, rfl, rfl, hp, h⟩
      clear hq
      refine cond_both hp (fun hp => ?_) (fun hp => ?_)
      · replace h := h.sel [0, 0, 0, 1, 1, 1, 1, 1, 1, 0, 0] 0
        dsimp only [pickL, pickR, nthH, delH, dropH, List.cons_append, List.nil_append] at h
        exact ⟨rfl, rfl, rfl, rfl, rfl, rfl, rfl, hp, h⟩
      refine ⟨_, cellL h 0 0 rfl rfl rfl, ?_⟩
      refine neqStr ?_
      refine ⟨_, rfl, ?_⟩
      refine cond_both hp (fun hp => ?_) (fun hp => ?_)
      · replace h := h.sel [0, 0, 0, 1, 1, 1, 1, 1, 1, 0, 0] 0
        dsimp only [pickL, pickR, nthH, delH, dropH, List.cons_append, List.nil_append] at h
        exact ⟨rfl, rfl, rfl, rfl, rfl, rfl, rfl, hp, h⟩
      refine ⟨_, cellL h 0 1 rfl rfl rfl, ?_⟩
      replace h := h.sel [0, 0, 0, 1, 1, 1, 1, 1, 1, 0, 0] 0
      dsimp only [pickL, pickR, nthH, delH, dropH, List.cons_append, List.nil_append] at h
      exact ⟨rfl, rfl, rfl, rfl, rfl, rfl, rfl, hp, h⟩
    intro m_18 s_1 p_22 w h hp
    replace h := h.pick [4]
    dsimp only [pickL, pickR, nthH, delH, dropH, List.cons_append, List.nil_append] at h
    obtain ⟨p_23, h⟩ := Mem.exs h
    obtain ⟨c_12, h⟩ := Mem.exs h
    replace h := h.unpack
    dsimp only [pickL, pickR, nthH, delH, dropH, List.cons_append, List.nil_append] at h
    have cpp_23 := rowCap h 5 rfl
    refine ⟨_, objAt h 0 rfl, loopS_ns _, ?_⟩
    replace h := h.putK 0 rfl (.loop { embrasurelaw06_DuePlays_lo1 fn_e_1 e_1 d with state := .exhausted, pending := (fun (n : Nat) => ((if n = 0 then none else (if n = 1 then (some .ret) else (some (.exit 3)))) : Option Code)) s_1.1 })
    dsimp only [setH] at h
    rcases hp with ⟨hst, hp⟩ | ⟨hst, hp⟩ | ⟨hst, hp⟩
    · refine Or.inl ?_
      refine ⟨congrArg (fun (n : Nat) => ((if n = 0 then none else (if n = 1 then (some .ret) else (some (.exit 3)))) : Option Code)) hst, ?_⟩
      replace h := h.sel [1, 1, 1, 1, 1, 1, 3, 1, 3, 3] 3
      dsimp only [pickL, pickR, nthH, delH, dropH, List.cons_append, List.nil_append] at h
      exact ⟨s_1.2.1, s_1.2.2, p_23, s_1.2.2.length, c_12, m_18, p_22, rfl, rfl, rfl, rfl, rfl, rfl, rfl, rfl, rfl, rfl, hp, h⟩
    · refine Or.inr (Or.inl ?_)
      refine ⟨congrArg (fun (n : Nat) => ((if n = 0 then none else (if n = 1 then (some .ret) else (some (.exit 3)))) : Option Code)) hst, ?_⟩
      replace h := h.pick [12]
      dsimp only [pickL, pickR, nthH, delH, dropH, List.cons_append, List.nil_append] at h
      refine finishMarks _ h ?_
      intro w h
      refine ⟨_, cellL h 7 0 rfl rfl rfl, ?_⟩
      replace h := h.sel [] 12
      dsimp only [pickL, pickR, nthH, delH, dropH, List.cons_append, List.nil_append] at h
      exact hR (false) _ h hp
    · refine Or.inr (Or.inr (?_))
      refine ⟨congrArg (fun (n : Nat) => ((if n = 0 then none else (if n = 1 then (some .ret) else (some (.exit 3)))) : Option Code)) hst, ?_⟩
      replace h := h.sel [1, 1, 1, 1, 1, 1, 3, 1, 3, 3] 3
      dsimp only [pickL, pickR, nthH, delH, dropH, List.cons_append, List.nil_append] at h
      exact ⟨s_1.2.1, s_1.2.2, p_23, s_1.2.2.length, c_12, m_18, p_22, rfl, rfl, rfl, rfl, rfl, rfl, rfl, rfl, rfl, rfl, hp, h⟩
  clear hq
  refine cond_both hp (fun hp => ?_) (fun hp => ?_)
  · exact ⟨rfl, rfl, rfl, rfl, rfl, rfl, rfl, hp, h⟩
  exact ⟨rfl, rfl, rfl, rfl, rfl, rfl, rfl, hp, h⟩

end Go.Proofs.Ytdonkmbhlankiaa
