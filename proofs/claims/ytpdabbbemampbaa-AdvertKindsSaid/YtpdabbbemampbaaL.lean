/- Each function over plain data (printed by a program of this claim's author). -/
import Derived.Test.YtpdabbbemampbaaL1
namespace Go.Proofs.Ytpdabbbemampbaa
open Go Go.Eng Go.Proofs
set_option maxRecDepth 100000
set_option maxHeartbeats 2000000

/-! (*embrasure/embrasureref21.Advert).Told (21) -/
def embrasureref21_Advert_Told_wp (Own : List (Int × Int)) (Mapped : List (Int × Int × Int × Bool × Int)) (Relays : List (Int × Int × Int × Bool × Int)) (now : Int) (seen : List (Int × Int)) (public_ : Bool) (K : List (Int × Int × Int × Bool) → Prop) : Prop :=
  joinP1 (fun (all : List (Int × Int × Int × Bool)) => joinP1 (fun (all_2 : List (Int × Int × Int × Bool)) => joinP1 (fun (all_4 : List (Int × Int × Int × Bool)) => joinP1 (fun (all_6 : List (Int × Int × Int × Bool)) => ∃ (I_4 : Nat → List (Int × Int × Int × Bool) → Int → Prop), (∃ (n_25 : Nat), I_4 n_25 ([] : List (Int × Int × Int × Bool)) 0) ∧ ∀ (n_18 : Nat) (out : List (Int × Int × Int × Bool)) (i15 : Int), I_4 n_18 out i15 → (cond (decide ((i15 : Int) < ((all_6.length : Nat) : Int))) (joinP1 (fun (fresh16 : Bool) => joinP1 (fun (t163 : Bool) => cond t163 (0 ≤ (i15 : Int) ∧ (i15 : Int) < ((all_6.length : Nat) : Int) ∧ (∀ (x_11 : Int × Int × Int × Bool), all_6[Int.toNat i15]? = some x_11 → ((out.length + [x_11].length) * 32 ≤ 140737488355328 ∧ (∃ (n_23 : Nat), n_23 < n_18 ∧ I_4 n_23 (out ++ [x_11]) (IntKind.wrap .i64 (i15 + 1)))))) (∃ (n_24 : Nat), n_24 < n_18 ∧ I_4 n_24 out (IntKind.wrap .i64 (i15 + 1)))) (fun (Q_6 : Bool → Prop) => cond fresh16 (Q_6 (decide ((((out.length : Nat) : Int) : Int) < 8))) (Q_6 false))) (fun (Q_5 : Bool → Prop) => ∃ (I_5 : Nat → Bool → Int → Prop), (∃ (n_22 : Nat), I_5 n_22 true 0) ∧ ∀ (n_19 : Nat) (fresh16_1 : Bool) (k17 : Int), I_5 n_19 fresh16_1 k17 → (cond (decide ((k17 : Int) < ((out.length : Nat) : Int))) (cond fresh16_1 (0 ≤ (k17 : Int) ∧ (k17 : Int) < ((out.length : Nat) : Int) ∧ (∀ (x_9 : Int × Int × Int × Bool), out[Int.toNat k17]? = some x_9 → (0 ≤ (i15 : Int) ∧ (i15 : Int) < ((all_6.length : Nat) : Int) ∧ (∀ (x_10 : Int × Int × Int × Bool), all_6[Int.toNat i15]? = some x_10 → (∃ (n_20 : Nat), n_20 < n_19 ∧ I_5 n_20 (!((((x_9.1 : Int) == x_10.1) && (((x_9.2.1 : Int) == x_10.2.1) && true)) && (((x_9.2.2.1 : Int) == x_10.2.2.1) && ((x_9.2.2.2 == x_10.2.2.2) && true)))) (IntKind.wrap .i64 (k17 + 1))))))) (∃ (n_21 : Nat), n_21 < n_19 ∧ I_5 n_21 false (IntKind.wrap .i64 (k17 + 1)))) (Q_5 fresh16_1)))) (K out))) (fun (Q_4 : List (Int × Int × Int × Bool) → Prop) => ∃ (I_3 : Nat → List (Int × Int × Int × Bool) → Int → Prop), (∃ (n_17 : Nat), I_3 n_17 all_4 0) ∧ ∀ (n_14 : Nat) (all_7 : List (Int × Int × Int × Bool)) (i13 : Int), I_3 n_14 all_7 i13 → (cond (decide ((i13 : Int) < ((Relays.length : Nat) : Int))) (0 ≤ (i13 : Int) ∧ (i13 : Int) < ((Relays.length : Nat) : Int) ∧ (∀ (x_7 : Int × Int × Int × Bool × Int), Relays[Int.toNat i13]? = some x_7 → (cond (decide ((x_7.2.2.2.2 : Int) > now)) (0 ≤ (i13 : Int) ∧ (i13 : Int) < ((Relays.length : Nat) : Int) ∧ (∀ (x_8 : Int × Int × Int × Bool × Int), Relays[Int.toNat i13]? = some x_8 → ((all_7.length + [(x_8.1, x_8.2.1, x_8.2.2.1, x_8.2.2.2.1)].length) * 32 ≤ 140737488355328 ∧ (∃ (n_15 : Nat), n_15 < n_14 ∧ I_3 n_15 (all_7 ++ [(x_8.1, x_8.2.1, x_8.2.2.1, x_8.2.2.2.1)]) (IntKind.wrap .i64 (i13 + 1)))))) (∃ (n_16 : Nat), n_16 < n_14 ∧ I_3 n_16 all_7 (IntKind.wrap .i64 (i13 + 1)))))) (Q_4 all_7)))) (fun (Q_2 : List (Int × Int × Int × Bool) → Prop) => ∃ (I_2 : Nat → List (Int × Int × Int × Bool) → Int → Prop), (∃ (n_13 : Nat), I_2 n_13 all_2 0) ∧ ∀ (n_10 : Nat) (all_5 : List (Int × Int × Int × Bool)) (i12 : Int), I_2 n_10 all_5 i12 → (joinP1 (fun (t88 : Bool) => cond t88 (0 ≤ (i12 : Int) ∧ (i12 : Int) < ((seen.length : Nat) : Int) ∧ (∀ (x_5 : Int × Int), seen[Int.toNat i12]? = some x_5 → (embrasureref03_May_wp x_5.1 x_5.2 (fun (r_1 : Bool) => cond r_1 (0 ≤ (i12 : Int) ∧ (i12 : Int) < ((seen.length : Nat) : Int) ∧ (∀ (x_6 : Int × Int), seen[Int.toNat i12]? = some x_6 → ((all_5.length + [(x_6.1, x_6.2, 0, false)].length) * 32 ≤ 140737488355328 ∧ (∃ (n_11 : Nat), n_11 < n_10 ∧ I_2 n_11 (all_5 ++ [(x_6.1, x_6.2, 0, false)]) (IntKind.wrap .i64 (i12 + 1)))))) (∃ (n_12 : Nat), n_12 < n_10 ∧ I_2 n_12 all_5 (IntKind.wrap .i64 (i12 + 1))))))) (Q_2 all_5)) (fun (Q_3 : Bool → Prop) => cond (decide ((i12 : Int) < ((seen.length : Nat) : Int))) (cond (decide ((i12 : Int) < 8)) (Q_3 public_) (Q_3 false)) (Q_3 false))))) (fun (Q_1 : List (Int × Int × Int × Bool) → Prop) => ∃ (I_1 : Nat → List (Int × Int × Int × Bool) → Int → Prop), (∃ (n_9 : Nat), I_1 n_9 all 0) ∧ ∀ (n_6 : Nat) (all_3 : List (Int × Int × Int × Bool)) (i11 : Int), I_1 n_6 all_3 i11 → (cond (decide ((i11 : Int) < ((Mapped.length : Nat) : Int))) (0 ≤ (i11 : Int) ∧ (i11 : Int) < ((Mapped.length : Nat) : Int) ∧ (∀ (x_3 : Int × Int × Int × Bool × Int), Mapped[Int.toNat i11]? = some x_3 → (cond (decide ((x_3.2.2.2.2 : Int) > now)) (0 ≤ (i11 : Int) ∧ (i11 : Int) < ((Mapped.length : Nat) : Int) ∧ (∀ (x_4 : Int × Int × Int × Bool × Int), Mapped[Int.toNat i11]? = some x_4 → ((all_3.length + [(x_4.1, x_4.2.1, x_4.2.2.1, x_4.2.2.2.1)].length) * 32 ≤ 140737488355328 ∧ (∃ (n_7 : Nat), n_7 < n_6 ∧ I_1 n_7 (all_3 ++ [(x_4.1, x_4.2.1, x_4.2.2.1, x_4.2.2.2.1)]) (IntKind.wrap .i64 (i11 + 1)))))) (∃ (n_8 : Nat), n_8 < n_6 ∧ I_1 n_8 all_3 (IntKind.wrap .i64 (i11 + 1)))))) (Q_1 all_3)))) (fun (Q : List (Int × Int × Int × Bool) → Prop) => ∃ (I : Nat → List (Int × Int × Int × Bool) → Int → Prop), (∃ (n_5 : Nat), I n_5 ([] : List (Int × Int × Int × Bool)) 0) ∧ ∀ (n_2 : Nat) (all_1 : List (Int × Int × Int × Bool)) (i10 : Int), I n_2 all_1 i10 → (cond (decide ((i10 : Int) < ((Own.length : Nat) : Int))) (0 ≤ (i10 : Int) ∧ (i10 : Int) < ((Own.length : Nat) : Int) ∧ (∀ (x_1 : Int × Int), Own[Int.toNat i10]? = some x_1 → (embrasureref21_Inside_wp x_1.1 (fun (r : Bool) => cond (!r) (0 ≤ (i10 : Int) ∧ (i10 : Int) < ((Own.length : Nat) : Int) ∧ (∀ (x_2 : Int × Int), Own[Int.toNat i10]? = some x_2 → ((all_1.length + [(x_2.1, x_2.2, 0, false)].length) * 32 ≤ 140737488355328 ∧ (∃ (n_3 : Nat), n_3 < n_2 ∧ I n_3 (all_1 ++ [(x_2.1, x_2.2, 0, false)]) (IntKind.wrap .i64 (i10 + 1)))))) (∃ (n_4 : Nat), n_4 < n_2 ∧ I n_4 all_1 (IntKind.wrap .i64 (i10 + 1))))))) (Q all_1)))
theorem embrasureref21_Advert_Told_ok {b_1 : Nat} {p_1 : Option Addr} {c_1 : Nat} {p_2 : Option Addr} {c_2 : Nat} {p_3 : Option Addr} {c_3 : Nat} {p_4 : Option Addr} {n_1 : Nat} {c_4 : Nat} {Own : List (Int × Int)} {Mapped : List (Int × Int × Int × Bool × Int)} {Relays : List (Int × Int × Int × Bool × Int)} {now : Int} {seen : List (Int × Int)} {public_ : Bool} {FL : List HP} {w : World} {K : List (Int × Int × Int × Bool) → Prop} {R : Value → World → Prop}
  (hF_seen : ∀ w, Mem FL w → Rd w 2 p_4 enc34 seen) (hl_seen : n_1 = seen.length) (hc_seen : n_1 ≤ c_4)
  (h : Mem (cel b_1 32 [(Value.slice p_1 Own.length c_1), (Value.slice p_2 Mapped.length c_2), (Value.slice p_3 Relays.length c_3)] :: row enc34 34 2 p_1 c_1 Own :: row enc63 63 5 p_2 c_2 Mapped :: row enc63 63 5 p_3 c_3 Relays :: FL) w) (hp : embrasureref21_Advert_Told_wp Own Mapped Relays now seen public_ K)
  (hR : ∀ (rs : List (Int × Int × Int × Bool)) (p_5 : Option Addr) (n_2 : Nat) (c_5 : Nat) (w : World), n_2 = rs.length → Mem (row enc36 36 4 p_5 c_5 rs :: cel b_1 32 [(Value.slice p_1 Own.length c_1), (Value.slice p_2 Mapped.length c_2), (Value.slice p_3 Relays.length c_3)] :: row enc34 34 2 p_1 c_1 Own :: row enc63 63 5 p_2 c_2 Mapped :: row enc63 63 5 p_3 c_3 Relays :: FL) w → K rs → R (Value.slice p_5 n_2 c_5) w) :
  CallV Try.prog 21 #[(Value.pointer (some (Addr.mk b_1 0 none))), (Value.int .i64 now), (Value.slice p_4 n_1 c_4), (Value.bool public_)] w R := by
  refine embrasureref21_Advert_Told_call ?_
  unfold embrasureref21_Advert_Told
  unfold embrasureref21_Advert_Told_wp at hp
  subst hl_seen
  have cpp_1 := rowCap h 1 rfl
  have cpp_2 := rowCap h 2 rfl
  have cpp_3 := rowCap h 3 rfl
  obtain ⟨Q, hq, hp⟩ := hp
  refine ⟨fun a0 now1 seen2p seen2l seen2c public3 all9p all9l all9c w => ∃ (all : List (Int × Int × Int × Bool)), (some (Addr.mk b_1 0 none)) = a0 ∧ now = now1 ∧ p_4 = seen2p ∧ seen.length = seen2l ∧ c_4 = seen2c ∧ public_ = public3 ∧ all9l = all.length ∧ Q all ∧ Mem (cel b_1 32 [(Value.slice p_1 Own.length c_1), (Value.slice p_2 Mapped.length c_2), (Value.slice p_3 Relays.length c_3)] :: row enc34 34 2 p_1 c_1 Own :: row enc63 63 5 p_2 c_2 Mapped :: row enc63 63 5 p_3 c_3 Relays :: row enc36 36 4 all9p all9c all :: FL) w, ?_, ?_⟩
  · rintro a0 now1 seen2p seen2l seen2c public3 all9p all9l all9c w ⟨all, rfl, rfl, rfl, rfl, rfl, rfl, rfl, hp, h⟩
    replace hp := hq all hp
    unfold embrasureref21_Advert_Told_j1
    have cpall9p := rowCap h 4 rfl
    obtain ⟨Q_1, hq, hp⟩ := hp
    refine ⟨fun a0_2 now1_2 seen2_2p seen2_2l seen2_2c public3_2 all9_2p all9_2l all9_2c w => ∃ (all_2 : List (Int × Int × Int × Bool)), (some (Addr.mk b_1 0 none)) = a0_2 ∧ now = now1_2 ∧ p_4 = seen2_2p ∧ seen.length = seen2_2l ∧ c_4 = seen2_2c ∧ public_ = public3_2 ∧ all9_2l = all_2.length ∧ Q_1 all_2 ∧ Mem (cel b_1 32 [(Value.slice p_1 Own.length c_1), (Value.slice p_2 Mapped.length c_2), (Value.slice p_3 Relays.length c_3)] :: row enc34 34 2 p_1 c_1 Own :: row enc63 63 5 p_2 c_2 Mapped :: row enc63 63 5 p_3 c_3 Relays :: row enc36 36 4 all9_2p all9_2c all_2 :: FL) w, ?_, ?_⟩
    · rintro a0_2 now1_2 seen2_2p seen2_2l seen2_2c public3_2 all9_2p all9_2l all9_2c w ⟨all_2, rfl, rfl, rfl, rfl, rfl, rfl, rfl, hp, h⟩
      replace hp := hq all_2 hp
      unfold embrasureref21_Advert_Told_j2
      have cpall9_2p := rowCap h 4 rfl
      obtain ⟨Q_2, hq, hp⟩ := hp
      refine ⟨fun a0_4 now1_4 all9_4p all9_4l all9_4c w => ∃ (all_4 : List (Int × Int × Int × Bool)), (some (Addr.mk b_1 0 none)) = a0_4 ∧ now = now1_4 ∧ all9_4l = all_4.length ∧ Q_2 all_4 ∧ Mem (cel b_1 32 [(Value.slice p_1 Own.length c_1), (Value.slice p_2 Mapped.length c_2), (Value.slice p_3 Relays.length c_3)] :: row enc34 34 2 p_1 c_1 Own :: row enc63 63 5 p_2 c_2 Mapped :: row enc63 63 5 p_3 c_3 Relays :: row enc36 36 4 all9_4p all9_4c all_4 :: FL) w, ?_, ?_⟩
      · rintro a0_4 now1_4 all9_4p all9_4l all9_4c w ⟨all_4, rfl, rfl, rfl, hp, h⟩
        replace hp := hq all_4 hp
        unfold embrasureref21_Advert_Told_j3
        have cpall9_4p := rowCap h 4 rfl
        obtain ⟨Q_4, hq, hp⟩ := hp
        refine ⟨fun all9_7p all9_7l all9_7c w => ∃ (all_6 : List (Int × Int × Int × Bool)), all9_7l = all_6.length ∧ Q_4 all_6 ∧ Mem (cel b_1 32 [(Value.slice p_1 Own.length c_1), (Value.slice p_2 Mapped.length c_2), (Value.slice p_3 Relays.length c_3)] :: row enc34 34 2 p_1 c_1 Own :: row enc63 63 5 p_2 c_2 Mapped :: row enc63 63 5 p_3 c_3 Relays :: row enc36 36 4 all9_7p all9_7c all_6 :: FL) w, ?_, ?_⟩
        · rintro all9_7p all9_7l all9_7c w ⟨all_6, rfl, hp, h⟩
          replace hp := hq all_6 hp
          unfold embrasureref21_Advert_Told_j4
          have cpall9_7p := rowCap h 4 rfl
          obtain ⟨I_4, ⟨n_25, h0⟩, hq⟩ := hp
          replace h := rowNil enc36 36 4 h
          replace h := h.sel [1, 1, 1, 1, 1, 0] 0
          dsimp only [pickL, pickR, nthH, delH, dropH, List.cons_append, List.nil_append] at h
          refine ⟨fun n_18 all9_9p all9_9l all9_9c out14p out14l out14c i15 w => ∃ (out : List (Int × Int × Int × Bool)), all9_7p = all9_9p ∧ all_6.length = all9_9l ∧ all9_7c = all9_9c ∧ out14l = out.length ∧ I_4 n_18 out i15 ∧ Mem (cel b_1 32 [(Value.slice p_1 Own.length c_1), (Value.slice p_2 Mapped.length c_2), (Value.slice p_3 Relays.length c_3)] :: row enc34 34 2 p_1 c_1 Own :: row enc63 63 5 p_2 c_2 Mapped :: row enc63 63 5 p_3 c_3 Relays :: row enc36 36 4 all9_7p all9_7c all_6 :: row enc36 36 4 out14p out14c out :: FL) w, ⟨n_25, ([] : List (Int × Int × Int × Bool)), rfl, rfl, rfl, rfl, h0, h⟩, ?_⟩
          clear h0 h
          rintro n_18 all9_9p all9_9l all9_9c out14p out14l out14c i15 w ⟨out, rfl, rfl, rfl, rfl, hp, h⟩
          replace hp := hq n_18 out i15 hp
          clear hq
          unfold embrasureref21_Advert_Told_l5
          have cpout14p := rowCap h 5 rfl
          refine cond_both' hp (fun hp => ?_) (fun hp => ?_)
          · replace h := h.sel [5, 0, 0, 0, 0] 1
            dsimp only [pickL, pickR, nthH, delH, dropH, List.cons_append, List.nil_append] at h
            exact hR out out14p out.length out14c _ rfl h hp
          obtain ⟨Q_5, hq, hp⟩ := hp
          refine ⟨fun all9_10p all9_10l all9_10c out14_1p out14_1l out14_1c i15_1 fresh16 w => all9_7p = all9_10p ∧ all_6.length = all9_10l ∧ all9_7c = all9_10c ∧ out14p = out14_1p ∧ out.length = out14_1l ∧ out14c = out14_1c ∧ i15 = i15_1 ∧ Q_5 fresh16 ∧ Mem (cel b_1 32 [(Value.slice p_1 Own.length c_1), (Value.slice p_2 Mapped.length c_2), (Value.slice p_3 Relays.length c_3)] :: row enc34 34 2 p_1 c_1 Own :: row enc63 63 5 p_2 c_2 Mapped :: row enc63 63 5 p_3 c_3 Relays :: row enc36 36 4 all9_7p all9_7c all_6 :: row enc36 36 4 out14p out14c out :: FL) w, ?_, ?_⟩
          · rintro all9_10p all9_10l all9_10c out14_1p out14_1l out14_1c i15_1 fresh16 w ⟨rfl, rfl, rfl, rfl, rfl, rfl, rfl, hp, h⟩
            replace hp := hq fresh16 hp
            unfold embrasureref21_Advert_Told_j6
            obtain ⟨Q_6, hq, hp⟩ := hp
            refine ⟨fun all9_12p all9_12l all9_12c out14_3p out14_3l out14_3c i15_3 t163 w => all9_7p = all9_12p ∧ all_6.length = all9_12l ∧ all9_7c = all9_12c ∧ out14p = out14_3p ∧ out.length = out14_3l ∧ out14c = out14_3c ∧ i15 = i15_3 ∧ Q_6 t163 ∧ Mem (cel b_1 32 [(Value.slice p_1 Own.length c_1), (Value.slice p_2 Mapped.length c_2), (Value.slice p_3 Relays.length c_3)] :: row enc34 34 2 p_1 c_1 Own :: row enc63 63 5 p_2 c_2 Mapped :: row enc63 63 5 p_3 c_3 Relays :: row enc36 36 4 all9_7p all9_7c all_6 :: row enc36 36 4 out14p out14c out :: FL) w, ?_, ?_⟩
            · rintro all9_12p all9_12l all9_12c out14_3p out14_3l out14_3c i15_3 t163 w ⟨rfl, rfl, rfl, rfl, rfl, rfl, rfl, hp, h⟩
              replace hp := hq t163 hp
              unfold embrasureref21_Advert_Told_j7
              refine cond_both' hp (fun hp => ?_) (fun hp => ?_)
              · obtain ⟨n_24, hn, hp⟩ := hp
                exact ⟨n_24, hn, out, rfl, rfl, rfl, rfl, hp, h⟩
              obtain ⟨ia_11, ja_11, hp⟩ := hp
              obtain ⟨a_11, ha_11⟩ := rdAddr (rowRd h 4 encL36 rfl) rfl ia_11 ja_11
              refine ⟨a_11, ha_11, ia_11, ja_11, ?_⟩
              obtain ⟨x_11, hx_11, hc⟩ := rdCell (rowRd h 4 encL36 rfl) ha_11 rfl ia_11 ja_11
              replace hp := hp x_11 hx_11
              refine ⟨_, hc 0 _ rfl, _, hc 1 _ rfl, _, hc 2 _ rfl, _, hc 3 _ rfl, ?_⟩
              refine newL (o := [(Value.int .u32 x_11.1), (Value.int .i64 x_11.2.1), (Value.int .i64 x_11.2.2.1), (Value.bool x_11.2.2.2)]) h ?_
              intro b_6 w h
              have sr_4 := (celRd h 0 encL36 rfl [x_11] rfl)
              obtain ⟨hb, hp⟩ := hp
              refine appendL slt48 und48 encL36 encO36 h 6 rfl rfl sr_4 rfl hb ?_
              intro p_10 c_9 w h
              dsimp only [setH, setVs, setV] at h
              have cpp_10 := rowCap h 6 rfl
              refine ⟨_, _, _, rfl, ?_⟩
              replace h := h.sel [1, 1, 1, 1, 1, 1] 1
              dsimp only [pickL, pickR, nthH, delH, dropH, List.cons_append, List.nil_append] at h
              obtain ⟨n_23, hn, hp⟩ := hp
              exact ⟨n_23, hn, (out ++ [x_11]), rfl, rfl, rfl, rfl, hp, h⟩
            clear hq
            refine cond_both hp (fun hp => ?_) (fun hp => ?_)
            · exact ⟨rfl, rfl, rfl, rfl, rfl, rfl, rfl, hp, h⟩
            exact ⟨rfl, rfl, rfl, rfl, rfl, rfl, rfl, hp, h⟩
          clear hq
          obtain ⟨I_5, ⟨n_22, h0⟩, hq⟩ := hp
          refine ⟨fun n_19 all9_11p all9_11l all9_11c out14_2p out14_2l out14_2c i15_2 fresh16_1 k17 w => all9_7p = all9_11p ∧ all_6.length = all9_11l ∧ all9_7c = all9_11c ∧ out14p = out14_2p ∧ out.length = out14_2l ∧ out14c = out14_2c ∧ i15 = i15_2 ∧ I_5 n_19 fresh16_1 k17 ∧ Mem (cel b_1 32 [(Value.slice p_1 Own.length c_1), (Value.slice p_2 Mapped.length c_2), (Value.slice p_3 Relays.length c_3)] :: row enc34 34 2 p_1 c_1 Own :: row enc63 63 5 p_2 c_2 Mapped :: row enc63 63 5 p_3 c_3 Relays :: row enc36 36 4 all9_7p all9_7c all_6 :: row enc36 36 4 out14p out14c out :: FL) w, ⟨n_22, rfl, rfl, rfl, rfl, rfl, rfl, rfl, h0, h⟩, ?_⟩
          clear h0 h
          rintro n_19 all9_11p all9_11l all9_11c out14_2p out14_2l out14_2c i15_2 fresh16_1 k17 w ⟨rfl, rfl, rfl, rfl, rfl, rfl, rfl, hp, h⟩
          replace hp := hq n_19 fresh16_1 k17 hp
          clear hq
          unfold embrasureref21_Advert_Told_l8
          refine cond_both' hp (fun hp => ?_) (fun hp => ?_)
          · exact ⟨rfl, rfl, rfl, rfl, rfl, rfl, rfl, hp, h⟩
          replace h := h.drew
          refine cond_both' hp (fun hp => ?_) (fun hp => ?_)
          · obtain ⟨n_21, hn, hp⟩ := hp
            exact ⟨n_21, hn, rfl, rfl, rfl, rfl, rfl, rfl, rfl, hp, h⟩
          obtain ⟨ia_9, ja_9, hp⟩ := hp
          obtain ⟨a_9, ha_9⟩ := rdAddr (rowRd h 5 encL36 rfl) rfl ia_9 ja_9
          refine ⟨a_9, ha_9, ia_9, ja_9, ?_⟩
          obtain ⟨x_9, hx_9, hc⟩ := rdCell (rowRd h 5 encL36 rfl) ha_9 rfl ia_9 ja_9
          replace hp := hp x_9 hx_9
          refine ⟨_, hc 0 _ rfl, _, hc 1 _ rfl, _, hc 2 _ rfl, _, hc 3 _ rfl, ?_⟩
          obtain ⟨ia_10, ja_10, hp⟩ := hp
          obtain ⟨a_10, ha_10⟩ := rdAddr (rowRd h 4 encL36 rfl) rfl ia_10 ja_10
          refine ⟨a_10, ha_10, ia_10, ja_10, ?_⟩
          obtain ⟨x_10, hx_10, hc⟩ := rdCell (rowRd h 4 encL36 rfl) ha_10 rfl ia_10 ja_10
          replace hp := hp x_10 hx_10
          refine ⟨_, hc 0 _ rfl, _, hc 1 _ rfl, _, hc 2 _ rfl, _, hc 3 _ rfl, ?_⟩
          refine neqAgg (xs := [(Value.int .u32 x_9.1), (Value.int .i64 x_9.2.1), (Value.int .i64 x_9.2.2.1), (Value.bool x_9.2.2.2)]) (ys := [(Value.int .u32 x_10.1), (Value.int .i64 x_10.2.1), (Value.int .i64 x_10.2.2.1), (Value.bool x_10.2.2.2)]) eqG36 eqA36 (eqT36 x_9.1 x_9.2.1 x_9.2.2.1 x_9.2.2.2 x_10.1 x_10.2.1 x_10.2.2.1 x_10.2.2.2) ?_
          refine ⟨_, rfl, ?_⟩
          refine ⟨rfl, ?_⟩
          obtain ⟨n_20, hn, hp⟩ := hp
          exact ⟨n_20, hn, rfl, rfl, rfl, rfl, rfl, rfl, rfl, hp, h⟩
        clear hq
        obtain ⟨I_3, ⟨n_17, h0⟩, hq⟩ := hp
        refine ⟨fun n_14 a0_7 now1_7 all9_8p all9_8l all9_8c i13 w => ∃ (all_7 : List (Int × Int × Int × Bool)), (some (Addr.mk b_1 0 none)) = a0_7 ∧ now = now1_7 ∧ all9_8l = all_7.length ∧ I_3 n_14 all_7 i13 ∧ Mem (cel b_1 32 [(Value.slice p_1 Own.length c_1), (Value.slice p_2 Mapped.length c_2), (Value.slice p_3 Relays.length c_3)] :: row enc34 34 2 p_1 c_1 Own :: row enc63 63 5 p_2 c_2 Mapped :: row enc63 63 5 p_3 c_3 Relays :: row enc36 36 4 all9_8p all9_8c all_7 :: FL) w, ⟨n_17, all_4, rfl, rfl, rfl, h0, h⟩, ?_⟩
        clear h0 h
        rintro n_14 a0_7 now1_7 all9_8p all9_8l all9_8c i13 w ⟨all_7, rfl, rfl, rfl, hp, h⟩
        replace hp := hq n_14 all_7 i13 hp
        clear hq
        unfold embrasureref21_Advert_Told_l9
        have cpall9_8p := rowCap h 4 rfl
        refine ⟨_, rfl, ?_⟩
        refine ⟨_, _, _, cellL h 0 2 rfl rfl rfl, ?_⟩
        refine cond_both' hp (fun hp => ?_) (fun hp => ?_)
        · exact ⟨all_7, rfl, hp, h⟩
        refine ⟨_, rfl, ?_⟩
        refine ⟨_, _, _, cellL h 0 2 rfl rfl rfl, ?_⟩
        obtain ⟨ia_7, ja_7, hp⟩ := hp
        obtain ⟨a_7, ha_7⟩ := rdAddr (rowRd h 3 encL63 rfl) rfl ia_7 ja_7
        refine ⟨a_7, ha_7, ia_7, ja_7, ?_⟩
        obtain ⟨x_7, hx_7, hc⟩ := rdCell (rowRd h 3 encL63 rfl) ha_7 rfl ia_7 ja_7
        replace hp := hp x_7 hx_7
        refine ⟨_, hc 4 _ rfl, ?_⟩
        refine cond_both' hp (fun hp => ?_) (fun hp => ?_)
        · obtain ⟨n_16, hn, hp⟩ := hp
          exact ⟨n_16, hn, all_7, rfl, rfl, rfl, hp, h⟩
        refine ⟨_, rfl, ?_⟩
        refine ⟨_, _, _, cellL h 0 2 rfl rfl rfl, ?_⟩
        obtain ⟨ia_8, ja_8, hp⟩ := hp
        obtain ⟨a_8, ha_8⟩ := rdAddr (rowRd h 3 encL63 rfl) rfl ia_8 ja_8
        refine ⟨a_8, ha_8, ia_8, ja_8, ?_⟩
        obtain ⟨x_8, hx_8, hc⟩ := rdCell2 (rowRd h 3 encL63 rfl) ha_8 rfl ia_8 ja_8
        replace hp := hp x_8 hx_8
        refine ⟨_, hc 0 0 _ rfl, _, hc 0 1 _ rfl, _, hc 0 2 _ rfl, _, hc 0 3 _ rfl, ?_⟩
        refine newL (o := [(Value.int .u32 x_8.1), (Value.int .i64 x_8.2.1), (Value.int .i64 x_8.2.2.1), (Value.bool x_8.2.2.2.1)]) h ?_
        intro b_5 w h
        have sr_3 := (celRd h 0 encL36 rfl [(x_8.1, x_8.2.1, x_8.2.2.1, x_8.2.2.2.1)] rfl)
        obtain ⟨hb, hp⟩ := hp
        refine appendL slt48 und48 encL36 encO36 h 5 rfl rfl sr_3 rfl hb ?_
        intro p_9 c_8 w h
        dsimp only [setH, setVs, setV] at h
        have cpp_9 := rowCap h 5 rfl
        refine ⟨_, _, _, rfl, ?_⟩
        replace h := h.sel [1, 1, 1, 1, 1] 1
        dsimp only [pickL, pickR, nthH, delH, dropH, List.cons_append, List.nil_append] at h
        obtain ⟨n_15, hn, hp⟩ := hp
        exact ⟨n_15, hn, (all_7 ++ [(x_8.1, x_8.2.1, x_8.2.2.1, x_8.2.2.2.1)]), rfl, rfl, rfl, hp, h⟩
      clear hq
      obtain ⟨I_2, ⟨n_13, h0⟩, hq⟩ := hp
      refine ⟨fun n_10 a0_5 now1_5 seen2_4p seen2_4l seen2_4c public3_4 all9_5p all9_5l all9_5c i12 w => ∃ (all_5 : List (Int × Int × Int × Bool)), (some (Addr.mk b_1 0 none)) = a0_5 ∧ now = now1_5 ∧ p_4 = seen2_4p ∧ seen.length = seen2_4l ∧ c_4 = seen2_4c ∧ public_ = public3_4 ∧ all9_5l = all_5.length ∧ I_2 n_10 all_5 i12 ∧ Mem (cel b_1 32 [(Value.slice p_1 Own.length c_1), (Value.slice p_2 Mapped.length c_2), (Value.slice p_3 Relays.length c_3)] :: row enc34 34 2 p_1 c_1 Own :: row enc63 63 5 p_2 c_2 Mapped :: row enc63 63 5 p_3 c_3 Relays :: row enc36 36 4 all9_5p all9_5c all_5 :: FL) w, ⟨n_13, all_2, rfl, rfl, rfl, rfl, rfl, rfl, rfl, h0, h⟩, ?_⟩
      clear h0 h
      rintro n_10 a0_5 now1_5 seen2_4p seen2_4l seen2_4c public3_4 all9_5p all9_5l all9_5c i12 w ⟨all_5, rfl, rfl, rfl, rfl, rfl, rfl, rfl, hp, h⟩
      replace hp := hq n_10 all_5 i12 hp
      clear hq
      unfold embrasureref21_Advert_Told_l10
      have cpall9_5p := rowCap h 4 rfl
      obtain ⟨Q_3, hq, hp⟩ := hp
      refine ⟨fun a0_6 now1_6 seen2_5p seen2_5l seen2_5c public3_5 all9_6p all9_6l all9_6c i12_1 t88 w => (some (Addr.mk b_1 0 none)) = a0_6 ∧ now = now1_6 ∧ p_4 = seen2_5p ∧ seen.length = seen2_5l ∧ c_4 = seen2_5c ∧ public_ = public3_5 ∧ all9_5p = all9_6p ∧ all_5.length = all9_6l ∧ all9_5c = all9_6c ∧ i12 = i12_1 ∧ Q_3 t88 ∧ Mem (cel b_1 32 [(Value.slice p_1 Own.length c_1), (Value.slice p_2 Mapped.length c_2), (Value.slice p_3 Relays.length c_3)] :: row enc34 34 2 p_1 c_1 Own :: row enc63 63 5 p_2 c_2 Mapped :: row enc63 63 5 p_3 c_3 Relays :: row enc36 36 4 all9_5p all9_5c all_5 :: FL) w, ?_, ?_⟩
      · rintro a0_6 now1_6 seen2_5p seen2_5l seen2_5c public3_5 all9_6p all9_6l all9_6c i12_1 t88 w ⟨rfl, rfl, rfl, rfl, rfl, rfl, rfl, rfl, rfl, rfl, hp, h⟩
        replace hp := hq t88 hp
        unfold embrasureref21_Advert_Told_j11
        refine cond_both' hp (fun hp => ?_) (fun hp => ?_)
        · exact ⟨all_5, rfl, rfl, rfl, hp, h⟩
        obtain ⟨ia_5, ja_5, hp⟩ := hp
        obtain ⟨a_5, ha_5⟩ := rdAddr (hF_seen _ (h.drop 5)) rfl ia_5 ja_5
        refine ⟨a_5, ha_5, ia_5, ja_5, ?_⟩
        obtain ⟨x_5, hx_5, hc⟩ := rdCell (hF_seen _ (h.drop 5)) ha_5 rfl ia_5 ja_5
        replace hp := hp x_5 hx_5
        refine ⟨_, hc 0 _ rfl, _, hc 1 _ rfl, ?_⟩
        refine embrasureref03_May_ok h hp ?_
        intro r_1 w h hp
        refine ⟨_, rfl, ?_⟩
        refine cond_both' hp (fun hp => ?_) (fun hp => ?_)
        · obtain ⟨n_12, hn, hp⟩ := hp
          exact ⟨n_12, hn, all_5, rfl, rfl, rfl, rfl, rfl, rfl, rfl, hp, h⟩
        obtain ⟨ia_6, ja_6, hp⟩ := hp
        obtain ⟨a_6, ha_6⟩ := rdAddr (hF_seen _ (h.drop 5)) rfl ia_6 ja_6
        refine ⟨a_6, ha_6, ia_6, ja_6, ?_⟩
        obtain ⟨x_6, hx_6, hc⟩ := rdCell (hF_seen _ (h.drop 5)) ha_6 rfl ia_6 ja_6
        replace hp := hp x_6 hx_6
        refine ⟨_, hc 0 _ rfl, _, hc 1 _ rfl, ?_⟩
        refine newL (o := [(Value.int .u32 x_6.1), (Value.int .i64 x_6.2), (Value.int .i64 0), (Value.bool false)]) h ?_
        intro b_4 w h
        have sr_2 := (celRd h 0 encL36 rfl [(x_6.1, x_6.2, 0, false)] rfl)
        obtain ⟨hb, hp⟩ := hp
        refine appendL slt48 und48 encL36 encO36 h 5 rfl rfl sr_2 rfl hb ?_
        intro p_8 c_7 w h
        dsimp only [setH, setVs, setV] at h
        have cpp_8 := rowCap h 5 rfl
        refine ⟨_, _, _, rfl, ?_⟩
        replace h := h.sel [1, 1, 1, 1, 1] 1
        dsimp only [pickL, pickR, nthH, delH, dropH, List.cons_append, List.nil_append] at h
        obtain ⟨n_11, hn, hp⟩ := hp
        exact ⟨n_11, hn, (all_5 ++ [(x_6.1, x_6.2, 0, false)]), rfl, rfl, rfl, rfl, rfl, rfl, rfl, hp, h⟩
      clear hq
      refine cond_both' hp (fun hp => ?_) (fun hp => ?_)
      · exact ⟨rfl, rfl, rfl, rfl, rfl, rfl, rfl, rfl, rfl, rfl, hp, h⟩
      refine cond_both hp (fun hp => ?_) (fun hp => ?_)
      · exact ⟨rfl, rfl, rfl, rfl, rfl, rfl, rfl, rfl, rfl, rfl, hp, h⟩
      exact ⟨rfl, rfl, rfl, rfl, rfl, rfl, rfl, rfl, rfl, rfl, hp, h⟩
    clear hq
    obtain ⟨I_1, ⟨n_9, h0⟩, hq⟩ := hp
    refine ⟨fun n_6 a0_3 now1_3 seen2_3p seen2_3l seen2_3c public3_3 all9_3p all9_3l all9_3c i11 w => ∃ (all_3 : List (Int × Int × Int × Bool)), (some (Addr.mk b_1 0 none)) = a0_3 ∧ now = now1_3 ∧ p_4 = seen2_3p ∧ seen.length = seen2_3l ∧ c_4 = seen2_3c ∧ public_ = public3_3 ∧ all9_3l = all_3.length ∧ I_1 n_6 all_3 i11 ∧ Mem (cel b_1 32 [(Value.slice p_1 Own.length c_1), (Value.slice p_2 Mapped.length c_2), (Value.slice p_3 Relays.length c_3)] :: row enc34 34 2 p_1 c_1 Own :: row enc63 63 5 p_2 c_2 Mapped :: row enc63 63 5 p_3 c_3 Relays :: row enc36 36 4 all9_3p all9_3c all_3 :: FL) w, ⟨n_9, all, rfl, rfl, rfl, rfl, rfl, rfl, rfl, h0, h⟩, ?_⟩
    clear h0 h
    rintro n_6 a0_3 now1_3 seen2_3p seen2_3l seen2_3c public3_3 all9_3p all9_3l all9_3c i11 w ⟨all_3, rfl, rfl, rfl, rfl, rfl, rfl, rfl, hp, h⟩
    replace hp := hq n_6 all_3 i11 hp
    clear hq
    unfold embrasureref21_Advert_Told_l12
    have cpall9_3p := rowCap h 4 rfl
    refine ⟨_, rfl, ?_⟩
    refine ⟨_, _, _, cellL h 0 1 rfl rfl rfl, ?_⟩
    refine cond_both' hp (fun hp => ?_) (fun hp => ?_)
    · exact ⟨all_3, rfl, rfl, rfl, rfl, rfl, rfl, rfl, hp, h⟩
    refine ⟨_, rfl, ?_⟩
    refine ⟨_, _, _, cellL h 0 1 rfl rfl rfl, ?_⟩
    obtain ⟨ia_3, ja_3, hp⟩ := hp
    obtain ⟨a_3, ha_3⟩ := rdAddr (rowRd h 2 encL63 rfl) rfl ia_3 ja_3
    refine ⟨a_3, ha_3, ia_3, ja_3, ?_⟩
    obtain ⟨x_3, hx_3, hc⟩ := rdCell (rowRd h 2 encL63 rfl) ha_3 rfl ia_3 ja_3
    replace hp := hp x_3 hx_3
    refine ⟨_, hc 4 _ rfl, ?_⟩
    refine cond_both' hp (fun hp => ?_) (fun hp => ?_)
    · obtain ⟨n_8, hn, hp⟩ := hp
      exact ⟨n_8, hn, all_3, rfl, rfl, rfl, rfl, rfl, rfl, rfl, hp, h⟩
    refine ⟨_, rfl, ?_⟩
    refine ⟨_, _, _, cellL h 0 1 rfl rfl rfl, ?_⟩
    obtain ⟨ia_4, ja_4, hp⟩ := hp
    obtain ⟨a_4, ha_4⟩ := rdAddr (rowRd h 2 encL63 rfl) rfl ia_4 ja_4
    refine ⟨a_4, ha_4, ia_4, ja_4, ?_⟩
    obtain ⟨x_4, hx_4, hc⟩ := rdCell2 (rowRd h 2 encL63 rfl) ha_4 rfl ia_4 ja_4
    replace hp := hp x_4 hx_4
    refine ⟨_, hc 0 0 _ rfl, _, hc 0 1 _ rfl, _, hc 0 2 _ rfl, _, hc 0 3 _ rfl, ?_⟩
    refine newL (o := [(Value.int .u32 x_4.1), (Value.int .i64 x_4.2.1), (Value.int .i64 x_4.2.2.1), (Value.bool x_4.2.2.2.1)]) h ?_
    intro b_3 w h
    have sr_1 := (celRd h 0 encL36 rfl [(x_4.1, x_4.2.1, x_4.2.2.1, x_4.2.2.2.1)] rfl)
    obtain ⟨hb, hp⟩ := hp
    refine appendL slt48 und48 encL36 encO36 h 5 rfl rfl sr_1 rfl hb ?_
    intro p_7 c_6 w h
    dsimp only [setH, setVs, setV] at h
    have cpp_7 := rowCap h 5 rfl
    refine ⟨_, _, _, rfl, ?_⟩
    replace h := h.sel [1, 1, 1, 1, 1] 1
    dsimp only [pickL, pickR, nthH, delH, dropH, List.cons_append, List.nil_append] at h
    obtain ⟨n_7, hn, hp⟩ := hp
    exact ⟨n_7, hn, (all_3 ++ [(x_4.1, x_4.2.1, x_4.2.2.1, x_4.2.2.2.1)]), rfl, rfl, rfl, rfl, rfl, rfl, rfl, hp, h⟩
  clear hq
  obtain ⟨I, ⟨n_5, h0⟩, hq⟩ := hp
  replace h := rowNil enc36 36 4 h
  replace h := h.sel [1, 1, 1, 1, 0] 0
  dsimp only [pickL, pickR, nthH, delH, dropH, List.cons_append, List.nil_append] at h
  refine ⟨fun n_2 a0_1 now1_1 seen2_1p seen2_1l seen2_1c public3_1 all9_1p all9_1l all9_1c i10 w => ∃ (all_1 : List (Int × Int × Int × Bool)), (some (Addr.mk b_1 0 none)) = a0_1 ∧ now = now1_1 ∧ p_4 = seen2_1p ∧ seen.length = seen2_1l ∧ c_4 = seen2_1c ∧ public_ = public3_1 ∧ all9_1l = all_1.length ∧ I n_2 all_1 i10 ∧ Mem (cel b_1 32 [(Value.slice p_1 Own.length c_1), (Value.slice p_2 Mapped.length c_2), (Value.slice p_3 Relays.length c_3)] :: row enc34 34 2 p_1 c_1 Own :: row enc63 63 5 p_2 c_2 Mapped :: row enc63 63 5 p_3 c_3 Relays :: row enc36 36 4 all9_1p all9_1c all_1 :: FL) w, ⟨n_5, ([] : List (Int × Int × Int × Bool)), rfl, rfl, rfl, rfl, rfl, rfl, rfl, h0, h⟩, ?_⟩
  clear h0 h
  rintro n_2 a0_1 now1_1 seen2_1p seen2_1l seen2_1c public3_1 all9_1p all9_1l all9_1c i10 w ⟨all_1, rfl, rfl, rfl, rfl, rfl, rfl, rfl, hp, h⟩
  replace hp := hq n_2 all_1 i10 hp
  clear hq
  unfold embrasureref21_Advert_Told_l13
  have cpall9_1p := rowCap h 4 rfl
  refine ⟨_, rfl, ?_⟩
  refine ⟨_, _, _, cellL h 0 0 rfl rfl rfl, ?_⟩
  refine cond_both' hp (fun hp => ?_) (fun hp => ?_)
  · exact ⟨all_1, rfl, rfl, rfl, rfl, rfl, rfl, rfl, hp, h⟩
  refine ⟨_, rfl, ?_⟩
  refine ⟨_, _, _, cellL h 0 0 rfl rfl rfl, ?_⟩
  obtain ⟨ia_1, ja_1, hp⟩ := hp
  obtain ⟨a_1, ha_1⟩ := rdAddr (rowRd h 1 encL34 rfl) rfl ia_1 ja_1
  refine ⟨a_1, ha_1, ia_1, ja_1, ?_⟩
  obtain ⟨x_1, hx_1, hc⟩ := rdCell (rowRd h 1 encL34 rfl) ha_1 rfl ia_1 ja_1
  replace hp := hp x_1 hx_1
  refine ⟨_, hc 0 _ rfl, ?_⟩
  refine embrasureref21_Inside_ok h hp ?_
  intro r w h hp
  refine ⟨_, rfl, ?_⟩
  refine cond_both' hp (fun hp => ?_) (fun hp => ?_)
  · obtain ⟨n_4, hn, hp⟩ := hp
    exact ⟨n_4, hn, all_1, rfl, rfl, rfl, rfl, rfl, rfl, rfl, hp, h⟩
  refine ⟨_, rfl, ?_⟩
  refine ⟨_, _, _, cellL h 0 0 rfl rfl rfl, ?_⟩
  obtain ⟨ia_2, ja_2, hp⟩ := hp
  obtain ⟨a_2, ha_2⟩ := rdAddr (rowRd h 1 encL34 rfl) rfl ia_2 ja_2
  refine ⟨a_2, ha_2, ia_2, ja_2, ?_⟩
  obtain ⟨x_2, hx_2, hc⟩ := rdCell (rowRd h 1 encL34 rfl) ha_2 rfl ia_2 ja_2
  replace hp := hp x_2 hx_2
  refine ⟨_, hc 0 _ rfl, _, hc 1 _ rfl, ?_⟩
  refine newL (o := [(Value.int .u32 x_2.1), (Value.int .i64 x_2.2), (Value.int .i64 0), (Value.bool false)]) h ?_
  intro b_2 w h
  have sr := (celRd h 0 encL36 rfl [(x_2.1, x_2.2, 0, false)] rfl)
  obtain ⟨hb, hp⟩ := hp
  refine appendL slt48 und48 encL36 encO36 h 5 rfl rfl sr rfl hb ?_
  intro p_5 c_5 w h
  dsimp only [setH, setVs, setV] at h
  have cpp_5 := rowCap h 5 rfl
  refine ⟨_, _, _, rfl, ?_⟩
  replace h := h.sel [1, 1, 1, 1, 1] 1
  dsimp only [pickL, pickR, nthH, delH, dropH, List.cons_append, List.nil_append] at h
  obtain ⟨n_3, hn, hp⟩ := hp
  exact ⟨n_3, hn, (all_1 ++ [(x_2.1, x_2.2, 0, false)]), rfl, rfl, rfl, rfl, rfl, rfl, rfl, hp, h⟩

/-! embrasure/embrasureref21.Places (19) -/
def embrasureref21_Places_wp (a_1 : List (Int × Int × Int × Bool)) (b_1 : List (Int × Int × Int × Bool)) (K : Bool → Prop) : Prop :=
  cond ((((a_1.length : Nat) : Int) : Int) != ((b_1.length : Nat) : Int)) (K false) (∃ (I : Nat → Int → Prop), (∃ (n_5 : Nat), I n_5 0) ∧ ∀ (n_3 : Nat) (i5 : Int), I n_3 i5 → (cond (decide ((i5 : Int) < ((a_1.length : Nat) : Int))) (0 ≤ (i5 : Int) ∧ (i5 : Int) < ((a_1.length : Nat) : Int) ∧ (∀ (x_1 : Int × Int × Int × Bool), a_1[Int.toNat i5]? = some x_1 → (0 ≤ (i5 : Int) ∧ (i5 : Int) < ((b_1.length : Nat) : Int) ∧ (∀ (x_2 : Int × Int × Int × Bool), b_1[Int.toNat i5]? = some x_2 → (cond (!((((x_1.1 : Int) == x_2.1) && (((x_1.2.1 : Int) == x_2.2.1) && true)) && (((x_1.2.2.1 : Int) == x_2.2.2.1) && ((x_1.2.2.2 == x_2.2.2.2) && true)))) (K false) (∃ (n_4 : Nat), n_4 < n_3 ∧ I n_4 (IntKind.wrap .i64 (i5 + 1)))))))) (K true)))
theorem embrasureref21_Places_ok {p_1 : Option Addr} {n_1 : Nat} {c_1 : Nat} {p_2 : Option Addr} {n_2 : Nat} {c_2 : Nat} {a_1 : List (Int × Int × Int × Bool)} {b_1 : List (Int × Int × Int × Bool)} {FL : List HP} {w : World} {K : Bool → Prop} {R : Value → World → Prop}
  (hF_a_1 : ∀ w, Mem FL w → Rd w 4 p_1 enc36 a_1) (hl_a_1 : n_1 = a_1.length) (hc_a_1 : n_1 ≤ c_1)
  (hF_b_1 : ∀ w, Mem FL w → Rd w 4 p_2 enc36 b_1) (hl_b_1 : n_2 = b_1.length) (hc_b_1 : n_2 ≤ c_2)
  (h : Mem (FL) w) (hp : embrasureref21_Places_wp a_1 b_1 K)
  (hR : ∀ (r : Bool) (w : World), Mem (FL) w → K r → R (Value.bool r) w) :
  CallV Try.prog 19 #[(Value.slice p_1 n_1 c_1), (Value.slice p_2 n_2 c_2)] w R := by
  refine embrasureref21_Places_call ?_
  unfold embrasureref21_Places
  unfold embrasureref21_Places_wp at hp
  subst hl_a_1
  subst hl_b_1
  refine cond_both hp (fun hp => ?_) (fun hp => ?_)
  · exact hR false _ h hp
  obtain ⟨I, ⟨n_5, h0⟩, hq⟩ := hp
  refine ⟨fun n_3 a0p a0l a0c b1p b1l b1c i5 w => p_1 = a0p ∧ a_1.length = a0l ∧ c_1 = a0c ∧ p_2 = b1p ∧ b_1.length = b1l ∧ c_2 = b1c ∧ I n_3 i5 ∧ Mem (FL) w, ⟨n_5, rfl, rfl, rfl, rfl, rfl, rfl, h0, h⟩, ?_⟩
  clear h0 h
  rintro n_3 a0p a0l a0c b1p b1l b1c i5 w ⟨rfl, rfl, rfl, rfl, rfl, rfl, hp, h⟩
  replace hp := hq n_3 i5 hp
  clear hq
  unfold embrasureref21_Places_l1
  refine cond_both' hp (fun hp => ?_) (fun hp => ?_)
  · exact hR true _ h hp
  replace h := h.drew
  obtain ⟨ia_2, ja_2, hp⟩ := hp
  obtain ⟨a_2, ha_2⟩ := rdAddr (hF_a_1 _ (h.drop 0)) rfl ia_2 ja_2
  refine ⟨a_2, ha_2, ia_2, ja_2, ?_⟩
  obtain ⟨x_1, hx_1, hc⟩ := rdCell (hF_a_1 _ (h.drop 0)) ha_2 rfl ia_2 ja_2
  replace hp := hp x_1 hx_1
  refine ⟨_, hc 0 _ rfl, _, hc 1 _ rfl, _, hc 2 _ rfl, _, hc 3 _ rfl, ?_⟩
  obtain ⟨ia_3, ja_3, hp⟩ := hp
  obtain ⟨a_3, ha_3⟩ := rdAddr (hF_b_1 _ (h.drop 0)) rfl ia_3 ja_3
  refine ⟨a_3, ha_3, ia_3, ja_3, ?_⟩
  obtain ⟨x_2, hx_2, hc⟩ := rdCell (hF_b_1 _ (h.drop 0)) ha_3 rfl ia_3 ja_3
  replace hp := hp x_2 hx_2
  refine ⟨_, hc 0 _ rfl, _, hc 1 _ rfl, _, hc 2 _ rfl, _, hc 3 _ rfl, ?_⟩
  refine neqAgg (xs := [(Value.int .u32 x_1.1), (Value.int .i64 x_1.2.1), (Value.int .i64 x_1.2.2.1), (Value.bool x_1.2.2.2)]) (ys := [(Value.int .u32 x_2.1), (Value.int .i64 x_2.2.1), (Value.int .i64 x_2.2.2.1), (Value.bool x_2.2.2.2)]) eqG36 eqA36 (eqT36 x_1.1 x_1.2.1 x_1.2.2.1 x_1.2.2.2 x_2.1 x_2.2.1 x_2.2.2.1 x_2.2.2.2) ?_
  refine ⟨_, rfl, ?_⟩
  refine ⟨rfl, ?_⟩
  refine cond_both hp (fun hp => ?_) (fun hp => ?_)
  · exact hR false _ h hp
  obtain ⟨n_4, hn, hp⟩ := hp
  exact ⟨n_4, hn, rfl, rfl, rfl, rfl, rfl, rfl, hp, h⟩

/-! embrasure/embrasurelaw21.AdvertPlays (4) -/
def embrasurelaw21_AdvertPlays_wp (script : List (Int × (List (Int × Int)) × Int × Int × Int × Bool × Int)) (seen : List (Int × Int)) (now : Int) (K : Bool → Prop) : Prop :=
  embrasurelaw21_awake_wp (fun (r : Bool) => cond (!r) (K false) (cond (decide ((((seen.length : Nat) : Int) : Int) > 40)) (K true) (advert_New_wp (fun (own : List (Int × Int)) (mapped : List ((Int × Int) × Int)) (relays : List ((Int × Int × Int × Bool) × Int)) => ∃ (I : Nat → List (Int × Int) → List (Int × Int × Int × Bool × Int) → List (Int × Int × Int × Bool × Int) → List (Int × Int) → Int → List ((Int × Int) × Int) → List ((Int × Int × Int × Bool) × Int) → Prop), (∃ (n_22 : Nat), I n_22 ([] : List (Int × Int)) ([] : List (Int × Int × Int × Bool × Int)) ([] : List (Int × Int × Int × Bool × Int)) own 0 mapped relays) ∧ ∀ (n_8 : Nat) (Own : List (Int × Int)) (Mapped : List (Int × Int × Int × Bool × Int)) (Relays : List (Int × Int × Int × Bool × Int)) (own_1 : List (Int × Int)) (i9 : Int) (m_1 : List ((Int × Int) × Int)) (m_2 : List ((Int × Int × Int × Bool) × Int)), I n_8 Own Mapped Relays own_1 i9 m_1 m_2 → (joinP1 (fun (t29 : Bool) => cond t29 (0 ≤ (i9 : Int) ∧ (i9 : Int) < ((script.length : Nat) : Int) ∧ (∀ (x_1 : Int × (List (Int × Int)) × Int × Int × Int × Bool × Int), script[Int.toNat i9]? = some x_1 → (cond (decide ((((x_1.2.1.length : Nat) : Int) : Int) > 40)) (K true) (joinP8 (fun (Own_1 : List (Int × Int)) (Mapped_1 : List (Int × Int × Int × Bool × Int)) (Relays_1 : List (Int × Int × Int × Bool × Int)) (own_2 : List (Int × Int)) (e11 : Int) (f12 : Int) (m_3 : List ((Int × Int) × Int)) (m_4 : List ((Int × Int × Int × Bool) × Int)) => joinP1 (fun (t142 : Bool) => cond t142 (K false) (∃ (n_21 : Nat), n_21 < n_8 ∧ I n_21 Own_1 Mapped_1 Relays_1 own_2 (IntKind.wrap .i64 (i9 + 1)) m_3 m_4)) (fun (Q_4 : Bool → Prop) => cond ((e11 : Int) != f12) (Q_4 true) (advert_Advert_Told_wp own_2 m_3 m_4 now seen true (fun (rs_2 : List (Int × Int × Int × Bool)) => embrasureref21_Advert_Told_wp Own_1 Mapped_1 Relays_1 now seen true (fun (rs_3 : List (Int × Int × Int × Bool)) => embrasureref21_Places_wp rs_2 rs_3 (fun (r_11 : Bool) => cond (!r_11) (Q_4 true) (advert_Advert_Told_wp own_2 m_3 m_4 now seen false (fun (rs_4 : List (Int × Int × Int × Bool)) => embrasureref21_Advert_Told_wp Own_1 Mapped_1 Relays_1 now seen false (fun (rs_5 : List (Int × Int × Int × Bool)) => embrasureref21_Places_wp rs_4 rs_5 (fun (r_12 : Bool) => Q_4 (!r_12))))))))))) (fun (Q_1 : List (Int × Int) → List (Int × Int × Int × Bool × Int) → List (Int × Int × Int × Bool × Int) → List (Int × Int) → Int → Int → List ((Int × Int) × Int) → List ((Int × Int × Int × Bool) × Int) → Prop) => cond ((x_1.1 : Int) == 0) (advert_Advert_Own_wp own_1 m_1 m_2 x_1.2.1 (fun (r_1 : Int) (own_3 : List (Int × Int)) => embrasureref21_Advert_SetOwn_wp Own x_1.2.1 (fun (r_2 : Int) (Own_2 : List (Int × Int)) => Q_1 Own_2 Mapped Relays own_3 r_1 r_2 m_1 m_2))) (cond ((x_1.1 : Int) == 1) (advert_Advert_Mapped_wp m_1 m_2 x_1.2.2.1 x_1.2.2.2.1 x_1.2.2.2.2.2.2 (fun (r_3 : Int) (m_5 : List ((Int × Int) × Int)) => joinP1 (fun (t98 : Bool) => cond t98 (embrasureref21_Set_wp Mapped x_1.2.2.1 x_1.2.2.2.1 0 false x_1.2.2.2.2.2.2 (fun (r_5 : Int) => Q_1 Own Mapped Relays own_1 r_3 r_5 m_5 m_2) (fun (rs : List (Int × Int × Int × Bool × Int)) (r_6 : Int) => Q_1 Own rs Relays own_1 r_3 r_6 m_5 m_2)) (Q_1 Own Mapped Relays own_1 r_3 1 m_5 m_2)) (fun (Q_2 : Bool → Prop) => embrasureref03_May_wp x_1.2.2.1 x_1.2.2.2.1 (fun (r_4 : Bool) => cond r_4 (Q_2 (decide ((x_1.2.2.2.2.2.2 : Int) ≤ 1099511627776))) (Q_2 false))))) (advert_Advert_Relay_wp m_1 m_2 x_1.2.2.1 x_1.2.2.2.1 x_1.2.2.2.2.1 x_1.2.2.2.2.2.1 x_1.2.2.2.2.2.2 (fun (r_7 : Int) (m_6 : List ((Int × Int × Int × Bool) × Int)) => joinP1 (fun (t56 : Bool) => cond t56 (embrasureref21_Set_wp Relays x_1.2.2.1 x_1.2.2.2.1 x_1.2.2.2.2.1 (true) x_1.2.2.2.2.2.2 (fun (r_9 : Int) => Q_1 Own Mapped Relays own_1 r_7 r_9 m_1 m_6) (fun (rs_1 : List (Int × Int × Int × Bool × Int)) (r_10 : Int) => Q_1 Own Mapped rs_1 own_1 r_7 r_10 m_1 m_6)) (Q_1 Own Mapped Relays own_1 r_7 1 m_1 m_6)) (fun (Q_3 : Bool → Prop) => embrasureref03_Place_wp x_1.2.2.1 x_1.2.2.2.1 x_1.2.2.2.2.1 (true) (fun (r_8 : Bool) => cond r_8 (Q_3 (decide ((x_1.2.2.2.2.2.2 : Int) ≤ 1099511627776))) (Q_3 false))))))))))) (K true)) (fun (Q : Bool → Prop) => cond (decide ((i9 : Int) < ((script.length : Nat) : Int))) (Q (decide ((i9 : Int) < 60))) (Q false)))))))
theorem embrasurelaw21_AdvertPlays_ok {p_1 : Option Addr} {n_1 : Nat} {c_1 : Nat} {p_2 : Option Addr} {n_2 : Nat} {c_2 : Nat} {script : List (Int × (List (Int × Int)) × Int × Int × Int × Bool × Int)} {seen : List (Int × Int)} {now : Int} {FL : List HP} {w : World} {K : Bool → Prop} {R : Value → World → Prop}
  (hF_script : ∀ w, Mem FL w → RdD w 7 p_1 (encR38 FL) script) (hl_script : n_1 = script.length) (hc_script : n_1 ≤ c_1)
  (hF_seen : ∀ w, Mem FL w → Rd w 2 p_2 enc34 seen) (hl_seen : n_2 = seen.length) (hc_seen : n_2 ≤ c_2)
  (h : Mem (FL) w) (hp : embrasurelaw21_AdvertPlays_wp script seen now K)
  (hR : ∀ (r : Bool) (w : World), Mem (FL) w → K r → R (Value.bool r) w) :
  CallV Try.prog 4 #[(Value.slice p_1 n_1 c_1), (Value.slice p_2 n_2 c_2), (Value.int .i64 now)] w R := by
  refine embrasurelaw21_AdvertPlays_call ?_
  unfold embrasurelaw21_AdvertPlays
  unfold embrasurelaw21_AdvertPlays_wp at hp
  subst hl_script
  subst hl_seen
  refine embrasurelaw21_awake_ok h hp ?_
  intro r w h hp
  refine ⟨_, rfl, ?_⟩
  refine cond_both hp (fun hp => ?_) (fun hp => ?_)
  · exact hR false _ h hp
  refine cond_both hp (fun hp => ?_) (fun hp => ?_)
  · exact hR true _ h hp
  refine advert_New_ok h hp ?_
  rintro own mapped relays b_1 p_3 n_3 c_3 b_2 p_4 b_3 p_5 w rfl h hp
  have cpp_3 := rowCap h 1 rfl
  refine ⟨_, rfl, ?_⟩
  refine newL (o := [(Value.slice none 0 0), (Value.slice none 0 0), (Value.slice none 0 0)]) h ?_
  intro b_4 w h
  obtain ⟨I, ⟨n_22, h0⟩, hq⟩ := hp
  replace h := rowNil enc34 34 2 h
  replace h := rowNil enc63 63 5 h
  replace h := rowNil enc63 63 5 h
  replace h := h.sel [3, 2, 1, 0, 0, 0, 0, 0] 0
  dsimp only [pickL, pickR, nthH, delH, dropH, List.cons_append, List.nil_append] at h
  refine ⟨fun n_8 script0p script0l script0c seen1p seen1l seen1c now2 a7 r8 i9 w => ∃ (Own : List (Int × Int)), ∃ (p_6 : Option Addr), ∃ (n_4 : Nat), ∃ (c_4 : Nat), ∃ (Mapped : List (Int × Int × Int × Bool × Int)), ∃ (p_7 : Option Addr), ∃ (n_5 : Nat), ∃ (c_5 : Nat), ∃ (Relays : List (Int × Int × Int × Bool × Int)), ∃ (p_8 : Option Addr), ∃ (n_6 : Nat), ∃ (c_6 : Nat), ∃ (own_1 : List (Int × Int)), ∃ (p_9 : Option Addr), ∃ (n_7 : Nat), ∃ (c_7 : Nat), ∃ (m_1 : List ((Int × Int) × Int)), ∃ (p_10 : List MapEntry × Nat), ∃ (m_2 : List ((Int × Int × Int × Bool) × Int)), ∃ (p_11 : List MapEntry × Nat), p_1 = script0p ∧ script.length = script0l ∧ c_1 = script0c ∧ p_2 = seen1p ∧ seen.length = seen1l ∧ c_2 = seen1c ∧ now = now2 ∧ (some (Addr.mk b_1 0 none)) = a7 ∧ (Addr.mk b_4 0 none) = r8 ∧ n_4 = Own.length ∧ n_5 = Mapped.length ∧ n_6 = Relays.length ∧ n_7 = own_1.length ∧ I n_8 Own Mapped Relays own_1 i9 m_1 m_2 ∧ Mem (cel b_4 32 [(Value.slice p_6 n_4 c_4), (Value.slice p_7 n_5 c_5), (Value.slice p_8 n_6 c_6)] :: row enc34 34 2 p_6 c_4 Own :: row enc63 63 5 p_7 c_5 Mapped :: row enc63 63 5 p_8 c_6 Relays :: cel b_1 58 [(Value.slice p_9 n_7 c_7), (Value.map (some b_2)), (Value.map (some b_3))] :: row enc34 34 2 p_9 c_7 own_1 :: mapQ b_2 va34 va3 p_10 m_1 :: mapQ b_3 va36 va3 p_11 m_2 :: FL) w, ⟨n_22, ([] : List (Int × Int)), none , 0, 0, ([] : List (Int × Int × Int × Bool × Int)), none  , 0, 0, ([] : List (Int × Int × Int × Bool × Int)), none   , 0, 0, own, p_3, own.length, c_3, mapped, p_4, relays, p_5, rfl, rfl, rfl, rfl, rfl, rfl, rfl, rfl, rfl, rfl, rfl, rfl, rfl, h0, h⟩, ?_⟩
  clear h0 h
  rintro n_8 script0p script0l script0c seen1p seen1l seen1c now2 a7 r8 i9 w ⟨Own, p_6, n_4, c_4, Mapped, p_7, n_5, c_5, Relays, p_8, n_6, c_6, own_1, p_9, n_7, c_7, m_1, p_10, m_2, p_11, rfl, rfl, rfl, rfl, rfl, rfl, rfl, rfl, rfl, rfl, rfl, rfl, rfl, hp, h⟩
  replace hp := hq n_8 Own Mapped Relays own_1 i9 m_1 m_2 hp
  clear hq
  unfold embrasurelaw21_AdvertPlays_l1
  have cpp_6 := rowCap h 1 rfl
  have cpp_7 := rowCap h 2 rfl
  have cpp_8 := rowCap h 3 rfl
  have cpp_9 := rowCap h 5 rfl
  obtain ⟨Q, hq, hp⟩ := hp
  refine ⟨fun script0_1p script0_1l script0_1c seen1_1p seen1_1l seen1_1c now2_1 a7_1 r8_1 i9_1 t29 w => p_1 = script0_1p ∧ script.length = script0_1l ∧ c_1 = script0_1c ∧ p_2 = seen1_1p ∧ seen.length = seen1_1l ∧ c_2 = seen1_1c ∧ now = now2_1 ∧ (some (Addr.mk b_1 0 none)) = a7_1 ∧ (Addr.mk b_4 0 none) = r8_1 ∧ i9 = i9_1 ∧ Q t29 ∧ Mem (cel b_4 32 [(Value.slice p_6 Own.length c_4), (Value.slice p_7 Mapped.length c_5), (Value.slice p_8 Relays.length c_6)] :: row enc34 34 2 p_6 c_4 Own :: row enc63 63 5 p_7 c_5 Mapped :: row enc63 63 5 p_8 c_6 Relays :: cel b_1 58 [(Value.slice p_9 own_1.length c_7), (Value.map (some b_2)), (Value.map (some b_3))] :: row enc34 34 2 p_9 c_7 own_1 :: mapQ b_2 va34 va3 p_10 m_1 :: mapQ b_3 va36 va3 p_11 m_2 :: FL) w, ?_, ?_⟩
  · rintro script0_1p script0_1l script0_1c seen1_1p seen1_1l seen1_1c now2_1 a7_1 r8_1 i9_1 t29 w ⟨rfl, rfl, rfl, rfl, rfl, rfl, rfl, rfl, rfl, rfl, hp, h⟩
    replace hp := hq t29 hp
    unfold embrasurelaw21_AdvertPlays_j2
    refine cond_both' hp (fun hp => ?_) (fun hp => ?_)
    · replace h := h.sel [] 8
      dsimp only [pickL, pickR, nthH, delH, dropH, List.cons_append, List.nil_append] at h
      exact hR true _ h hp
    obtain ⟨ia_1, ja_1, hp⟩ := hp
    obtain ⟨a_1, ha_1⟩ := rdAddrD (hF_script _ (h.drop 8)) rfl ia_1 ja_1
    refine ⟨a_1, ha_1, ia_1, ja_1, ?_⟩
    obtain ⟨x_1, hx_1, cs, hR, hc0, hc1, hc2⟩ := rdCellD (hF_script _ (h.drop 8)) ha_1 rfl ia_1 ja_1
    replace hp := hp x_1 hx_1
    obtain ⟨qp1, qn1, qc1, rfl, rfl, hc_qp1, hF_qp1⟩ := hR
    refine ⟨_, hc1 0 _ rfl, _, _, _, hc1 1 _ rfl, _, hc1 2 _ rfl, _, hc1 3 _ rfl, _, hc1 4 _ rfl, _, hc1 5 _ rfl, _, hc1 6 _ rfl, ?_⟩
    refine newL (o := [(Value.int .i64 0), (Value.slice none 0 0), (Value.int .u32 0), (Value.int .i64 0), (Value.int .i64 0), (Value.bool false), (Value.int .i64 0)]) h ?_
    intro b_5 w h
    refine storeL (ys := [(Value.int .i64 x_1.1), (Value.slice qp1 x_1.2.1.length qc1), (Value.int .u32 x_1.2.2.1), (Value.int .i64 x_1.2.2.2.1), (Value.int .i64 x_1.2.2.2.2.1), (Value.bool x_1.2.2.2.2.2.1), (Value.int .i64 x_1.2.2.2.2.2.2)]) h 0 0 rfl rfl rfl sz38 rfl rfl ?_
    intro w h
    dsimp only [setH, setVs, setV] at h
    refine ⟨_, _, _, cellL h 0 1 rfl rfl rfl, ?_⟩
    refine cond_both hp (fun hp => ?_) (fun hp => ?_)
    · replace h := h.sel [] 9
      dsimp only [pickL, pickR, nthH, delH, dropH, List.cons_append, List.nil_append] at h
      exact hR true _ h hp
    obtain ⟨Q_1, hq, hp⟩ := hp
    refine ⟨fun script0_2p script0_2l script0_2c seen1_2p seen1_2l seen1_2c now2_2 a7_2 r8_2 i9_2 e11 f12 w => ∃ (Own_1 : List (Int × Int)), ∃ (p_12 : Option Addr), ∃ (n_9 : Nat), ∃ (c_8 : Nat), ∃ (Mapped_1 : List (Int × Int × Int × Bool × Int)), ∃ (p_13 : Option Addr), ∃ (n_10 : Nat), ∃ (c_9 : Nat), ∃ (Relays_1 : List (Int × Int × Int × Bool × Int)), ∃ (p_14 : Option Addr), ∃ (n_11 : Nat), ∃ (c_10 : Nat), ∃ (own_2 : List (Int × Int)), ∃ (p_15 : Option Addr), ∃ (n_12 : Nat), ∃ (c_11 : Nat), ∃ (m_3 : List ((Int × Int) × Int)), ∃ (p_16 : List MapEntry × Nat), ∃ (m_4 : List ((Int × Int × Int × Bool) × Int)), ∃ (p_17 : List MapEntry × Nat), p_1 = script0_2p ∧ script.length = script0_2l ∧ c_1 = script0_2c ∧ p_2 = seen1_2p ∧ seen.length = seen1_2l ∧ c_2 = seen1_2c ∧ now = now2_2 ∧ (some (Addr.mk b_1 0 none)) = a7_2 ∧ (Addr.mk b_4 0 none) = r8_2 ∧ i9 = i9_2 ∧ n_9 = Own_1.length ∧ n_10 = Mapped_1.length ∧ n_11 = Relays_1.length ∧ n_12 = own_2.length ∧ Q_1 Own_1 Mapped_1 Relays_1 own_2 e11 f12 m_3 m_4 ∧ Mem (cel b_5 38 [(Value.int .i64 x_1.1), (Value.slice qp1 x_1.2.1.length qc1), (Value.int .u32 x_1.2.2.1), (Value.int .i64 x_1.2.2.2.1), (Value.int .i64 x_1.2.2.2.2.1), (Value.bool x_1.2.2.2.2.2.1), (Value.int .i64 x_1.2.2.2.2.2.2)] :: cel b_4 32 [(Value.slice p_12 n_9 c_8), (Value.slice p_13 n_10 c_9), (Value.slice p_14 n_11 c_10)] :: row enc34 34 2 p_12 c_8 Own_1 :: row enc63 63 5 p_13 c_9 Mapped_1 :: row enc63 63 5 p_14 c_10 Relays_1 :: cel b_1 58 [(Value.slice p_15 n_12 c_11), (Value.map (some b_2)), (Value.map (some b_3))] :: row enc34 34 2 p_15 c_11 own_2 :: mapQ b_2 va34 va3 p_16 m_3 :: mapQ b_3 va36 va3 p_17 m_4 :: FL) w, ?_, ?_⟩
    · rintro script0_2p script0_2l script0_2c seen1_2p seen1_2l seen1_2c now2_2 a7_2 r8_2 i9_2 e11 f12 w ⟨Own_1, p_12, n_9, c_8, Mapped_1, p_13, n_10, c_9, Relays_1, p_14, n_11, c_10, own_2, p_15, n_12, c_11, m_3, p_16, m_4, p_17, rfl, rfl, rfl, rfl, rfl, rfl, rfl, rfl, rfl, rfl, rfl, rfl, rfl, rfl, hp, h⟩
      replace hp := hq Own_1 Mapped_1 Relays_1 own_2 e11 f12 m_3 m_4 hp
      unfold embrasurelaw21_AdvertPlays_j3
      have cpp_12 := rowCap h 2 rfl
      have cpp_13 := rowCap h 3 rfl
      have cpp_14 := rowCap h 4 rfl
      have cpp_15 := rowCap h 6 rfl
      obtain ⟨Q_4, hq, hp⟩ := hp
      refine ⟨fun script0_5p script0_5l script0_5c seen1_5p seen1_5l seen1_5c now2_5 a7_5 r8_5 i9_5 t142 w => p_1 = script0_5p ∧ script.length = script0_5l ∧ c_1 = script0_5c ∧ p_2 = seen1_5p ∧ seen.length = seen1_5l ∧ c_2 = seen1_5c ∧ now = now2_5 ∧ (some (Addr.mk b_1 0 none)) = a7_5 ∧ (Addr.mk b_4 0 none) = r8_5 ∧ i9 = i9_5 ∧ Q_4 t142 ∧ Mem (cel b_5 38 [(Value.int .i64 x_1.1), (Value.slice qp1 x_1.2.1.length qc1), (Value.int .u32 x_1.2.2.1), (Value.int .i64 x_1.2.2.2.1), (Value.int .i64 x_1.2.2.2.2.1), (Value.bool x_1.2.2.2.2.2.1), (Value.int .i64 x_1.2.2.2.2.2.2)] :: cel b_4 32 [(Value.slice p_12 Own_1.length c_8), (Value.slice p_13 Mapped_1.length c_9), (Value.slice p_14 Relays_1.length c_10)] :: row enc34 34 2 p_12 c_8 Own_1 :: row enc63 63 5 p_13 c_9 Mapped_1 :: row enc63 63 5 p_14 c_10 Relays_1 :: cel b_1 58 [(Value.slice p_15 own_2.length c_11), (Value.map (some b_2)), (Value.map (some b_3))] :: row enc34 34 2 p_15 c_11 own_2 :: mapQ b_2 va34 va3 p_16 m_3 :: mapQ b_3 va36 va3 p_17 m_4 :: FL) w, ?_, ?_⟩
      · rintro script0_5p script0_5l script0_5c seen1_5p seen1_5l seen1_5c now2_5 a7_5 r8_5 i9_5 t142 w ⟨rfl, rfl, rfl, rfl, rfl, rfl, rfl, rfl, rfl, rfl, hp, h⟩
        replace hp := hq t142 hp
        unfold embrasurelaw21_AdvertPlays_j4
        refine cond_both hp (fun hp => ?_) (fun hp => ?_)
        · replace h := h.sel [] 9
          dsimp only [pickL, pickR, nthH, delH, dropH, List.cons_append, List.nil_append] at h
          exact hR false _ h hp
        replace h := h.sel [1, 1, 1, 1, 1, 1, 1, 1] 1
        dsimp only [pickL, pickR, nthH, delH, dropH, List.cons_append, List.nil_append] at h
        obtain ⟨n_21, hn, hp⟩ := hp
        exact ⟨n_21, hn, Own_1, p_12, Own_1.length, c_8, Mapped_1, p_13, Mapped_1.length, c_9, Relays_1, p_14, Relays_1.length, c_10, own_2, p_15, own_2.length, c_11, m_3, p_16, m_4, p_17, rfl, rfl, rfl, rfl, rfl, rfl, rfl, rfl, rfl, rfl, rfl, rfl, rfl, hp, h⟩
      clear hq
      refine cond_both hp (fun hp => ?_) (fun hp => ?_)
      · exact ⟨rfl, rfl, rfl, rfl, rfl, rfl, rfl, rfl, rfl, rfl, hp, h⟩
      replace h := h.pick [5, 5]
      dsimp only [pickL, pickR, nthH, delH, dropH, List.cons_append, List.nil_append] at h
      have hMr_mk2 := romOf (h.drop 2) 5 rfl
      have hMr_mk3 := romOf (h.drop 2) 6 rfl
      refine advert_Advert_Told_ok (FL := cel b_5 38 [(Value.int .i64 x_1.1), (Value.slice qp1 x_1.2.1.length qc1), (Value.int .u32 x_1.2.2.1), (Value.int .i64 x_1.2.2.2.1), (Value.int .i64 x_1.2.2.2.2.1), (Value.bool x_1.2.2.2.2.2.1), (Value.int .i64 x_1.2.2.2.2.2.2)] :: cel b_4 32 [(Value.slice p_12 Own_1.length c_8), (Value.slice p_13 Mapped_1.length c_9), (Value.slice p_14 Relays_1.length c_10)] :: row enc34 34 2 p_12 c_8 Own_1 :: row enc63 63 5 p_13 c_9 Mapped_1 :: row enc63 63 5 p_14 c_10 Relays_1 :: mapQ b_2 va34 va3 p_16 m_3 :: mapQ b_3 va36 va3 p_17 m_4 :: FL) (fun w h => (hF_seen _ (h.drop 7))) rfl hc_seen hMr_mk2 hMr_mk3 h hp ?_
      rintro rs_2 p_24 n_17 c_16 w rfl h hp
      have cpp_24 := rowCap h 0 rfl
      have cpp_15 := rowCap h 2 rfl
      refine ⟨_, _, _, rfl, ?_⟩
      replace h := h.pick [4, 4, 4, 4]
      dsimp only [pickL, pickR, nthH, delH, dropH, List.cons_append, List.nil_append] at h
      refine embrasureref21_Advert_Told_ok (FL := row enc36 36 4 p_24 c_16 rs_2 :: cel b_1 58 [(Value.slice p_15 own_2.length c_11), (Value.map (some b_2)), (Value.map (some b_3))] :: row enc34 34 2 p_15 c_11 own_2 :: cel b_5 38 [(Value.int .i64 x_1.1), (Value.slice qp1 x_1.2.1.length qc1), (Value.int .u32 x_1.2.2.1), (Value.int .i64 x_1.2.2.2.1), (Value.int .i64 x_1.2.2.2.2.1), (Value.bool x_1.2.2.2.2.2.1), (Value.int .i64 x_1.2.2.2.2.2.2)] :: mapQ b_2 va34 va3 p_16 m_3 :: mapQ b_3 va36 va3 p_17 m_4 :: FL) (fun w h => (hF_seen _ (h.drop 6))) rfl hc_seen h hp ?_
      rintro rs_3 p_25 n_18 c_17 w rfl h hp
      have cpp_25 := rowCap h 0 rfl
      have cpp_12 := rowCap h 2 rfl
      have cpp_13 := rowCap h 3 rfl
      have cpp_14 := rowCap h 4 rfl
      refine ⟨_, _, _, rfl, ?_⟩
      refine embrasureref21_Places_ok (FL := row enc36 36 4 p_25 c_17 rs_3 :: cel b_4 32 [(Value.slice p_12 Own_1.length c_8), (Value.slice p_13 Mapped_1.length c_9), (Value.slice p_14 Relays_1.length c_10)] :: row enc34 34 2 p_12 c_8 Own_1 :: row enc63 63 5 p_13 c_9 Mapped_1 :: row enc63 63 5 p_14 c_10 Relays_1 :: row enc36 36 4 p_24 c_16 rs_2 :: cel b_1 58 [(Value.slice p_15 own_2.length c_11), (Value.map (some b_2)), (Value.map (some b_3))] :: row enc34 34 2 p_15 c_11 own_2 :: cel b_5 38 [(Value.int .i64 x_1.1), (Value.slice qp1 x_1.2.1.length qc1), (Value.int .u32 x_1.2.2.1), (Value.int .i64 x_1.2.2.2.1), (Value.int .i64 x_1.2.2.2.2.1), (Value.bool x_1.2.2.2.2.2.1), (Value.int .i64 x_1.2.2.2.2.2.2)] :: mapQ b_2 va34 va3 p_16 m_3 :: mapQ b_3 va36 va3 p_17 m_4 :: FL) (fun w h => (rowRd h 5 encL36 rfl)) rfl cpp_24 (fun w h => (rowRd h 0 encL36 rfl)) rfl cpp_25 h hp ?_
      intro r_11 w h hp
      refine ⟨_, rfl, ?_⟩
      refine cond_both hp (fun hp => ?_) (fun hp => ?_)
      · replace h := h.sel [8, 1, 1, 1, 1, 2, 2, 2, 2] 2
        dsimp only [pickL, pickR, nthH, delH, dropH, List.cons_append, List.nil_append] at h
        exact ⟨rfl, rfl, rfl, rfl, rfl, rfl, rfl, rfl, rfl, rfl, hp, h⟩
      replace h := h.pick [6, 6]
      dsimp only [pickL, pickR, nthH, delH, dropH, List.cons_append, List.nil_append] at h
      have hMr_mk2 := romOf (h.drop 2) 7 rfl
      have hMr_mk3 := romOf (h.drop 2) 8 rfl
      refine advert_Advert_Told_ok (FL := row enc36 36 4 p_25 c_17 rs_3 :: cel b_4 32 [(Value.slice p_12 Own_1.length c_8), (Value.slice p_13 Mapped_1.length c_9), (Value.slice p_14 Relays_1.length c_10)] :: row enc34 34 2 p_12 c_8 Own_1 :: row enc63 63 5 p_13 c_9 Mapped_1 :: row enc63 63 5 p_14 c_10 Relays_1 :: row enc36 36 4 p_24 c_16 rs_2 :: cel b_5 38 [(Value.int .i64 x_1.1), (Value.slice qp1 x_1.2.1.length qc1), (Value.int .u32 x_1.2.2.1), (Value.int .i64 x_1.2.2.2.1), (Value.int .i64 x_1.2.2.2.2.1), (Value.bool x_1.2.2.2.2.2.1), (Value.int .i64 x_1.2.2.2.2.2.2)] :: mapQ b_2 va34 va3 p_16 m_3 :: mapQ b_3 va36 va3 p_17 m_4 :: FL) (fun w h => (hF_seen _ (h.drop 9))) rfl hc_seen hMr_mk2 hMr_mk3 h hp ?_
      rintro rs_4 p_26 n_19 c_18 w rfl h hp
      have cpp_26 := rowCap h 0 rfl
      have cpp_15 := rowCap h 2 rfl
      refine ⟨_, _, _, rfl, ?_⟩
      replace h := h.pick [4, 4, 4, 4]
      dsimp only [pickL, pickR, nthH, delH, dropH, List.cons_append, List.nil_append] at h
      refine embrasureref21_Advert_Told_ok (FL := row enc36 36 4 p_26 c_18 rs_4 :: cel b_1 58 [(Value.slice p_15 own_2.length c_11), (Value.map (some b_2)), (Value.map (some b_3))] :: row enc34 34 2 p_15 c_11 own_2 :: row enc36 36 4 p_25 c_17 rs_3 :: row enc36 36 4 p_24 c_16 rs_2 :: cel b_5 38 [(Value.int .i64 x_1.1), (Value.slice qp1 x_1.2.1.length qc1), (Value.int .u32 x_1.2.2.1), (Value.int .i64 x_1.2.2.2.1), (Value.int .i64 x_1.2.2.2.2.1), (Value.bool x_1.2.2.2.2.2.1), (Value.int .i64 x_1.2.2.2.2.2.2)] :: mapQ b_2 va34 va3 p_16 m_3 :: mapQ b_3 va36 va3 p_17 m_4 :: FL) (fun w h => (hF_seen _ (h.drop 8))) rfl hc_seen h hp ?_
      rintro rs_5 p_27 n_20 c_19 w rfl h hp
      have cpp_27 := rowCap h 0 rfl
      have cpp_12 := rowCap h 2 rfl
      have cpp_13 := rowCap h 3 rfl
      have cpp_14 := rowCap h 4 rfl
      refine ⟨_, _, _, rfl, ?_⟩
      refine embrasureref21_Places_ok (FL := row enc36 36 4 p_27 c_19 rs_5 :: cel b_4 32 [(Value.slice p_12 Own_1.length c_8), (Value.slice p_13 Mapped_1.length c_9), (Value.slice p_14 Relays_1.length c_10)] :: row enc34 34 2 p_12 c_8 Own_1 :: row enc63 63 5 p_13 c_9 Mapped_1 :: row enc63 63 5 p_14 c_10 Relays_1 :: row enc36 36 4 p_26 c_18 rs_4 :: cel b_1 58 [(Value.slice p_15 own_2.length c_11), (Value.map (some b_2)), (Value.map (some b_3))] :: row enc34 34 2 p_15 c_11 own_2 :: row enc36 36 4 p_25 c_17 rs_3 :: row enc36 36 4 p_24 c_16 rs_2 :: cel b_5 38 [(Value.int .i64 x_1.1), (Value.slice qp1 x_1.2.1.length qc1), (Value.int .u32 x_1.2.2.1), (Value.int .i64 x_1.2.2.2.1), (Value.int .i64 x_1.2.2.2.2.1), (Value.bool x_1.2.2.2.2.2.1), (Value.int .i64 x_1.2.2.2.2.2.2)] :: mapQ b_2 va34 va3 p_16 m_3 :: mapQ b_3 va36 va3 p_17 m_4 :: FL) (fun w h => (rowRd h 5 encL36 rfl)) rfl cpp_26 (fun w h => (rowRd h 0 encL36 rfl)) rfl cpp_27 h hp ?_
      intro r_12 w h hp
      refine ⟨_, rfl, ?_⟩
      replace h := h.sel [10, 1, 1, 1, 1, 2, 2, 4, 4] 4
      dsimp only [pickL, pickR, nthH, delH, dropH, List.cons_append, List.nil_append] at h
      exact ⟨rfl, rfl, rfl, rfl, rfl, rfl, rfl, rfl, rfl, rfl, hp, h⟩
    clear hq
    refine ⟨_, cellL h 0 0 rfl rfl rfl, ?_⟩
    refine cond_both hp (fun hp => ?_) (fun hp => ?_)
    · refine ⟨_, _, _, cellL h 0 1 rfl rfl rfl, ?_⟩
      replace h := h.pick [5, 5]
      dsimp only [pickL, pickR, nthH, delH, dropH, List.cons_append, List.nil_append] at h
      have hMr_mk2 := romOf (h.drop 2) 5 rfl
      have hMr_mk3 := romOf (h.drop 2) 6 rfl
      refine advert_Advert_Own_ok (FL := cel b_5 38 [(Value.int .i64 x_1.1), (Value.slice qp1 x_1.2.1.length qc1), (Value.int .u32 x_1.2.2.1), (Value.int .i64 x_1.2.2.2.1), (Value.int .i64 x_1.2.2.2.2.1), (Value.bool x_1.2.2.2.2.2.1), (Value.int .i64 x_1.2.2.2.2.2.2)] :: cel b_4 32 [(Value.slice p_6 Own.length c_4), (Value.slice p_7 Mapped.length c_5), (Value.slice p_8 Relays.length c_6)] :: row enc34 34 2 p_6 c_4 Own :: row enc63 63 5 p_7 c_5 Mapped :: row enc63 63 5 p_8 c_6 Relays :: mapQ b_2 va34 va3 p_10 m_1 :: mapQ b_3 va36 va3 p_11 m_2 :: FL) (fun w h => (hF_qp1 _ (h.drop 7))) rfl hc_qp1 hMr_mk2 hMr_mk3 h hp ?_
      rintro r_1 own_3 p_18 n_13 c_12 w rfl h hp
      have cpp_18 := rowCap h 1 rfl
      refine ⟨_, rfl, ?_⟩
      refine ⟨_, _, _, cellL h 2 1 rfl rfl rfl, ?_⟩
      replace h := h.pick [3, 3]
      dsimp only [pickL, pickR, nthH, delH, dropH, List.cons_append, List.nil_append] at h
      refine embrasureref21_Advert_SetOwn_ok (FL := cel b_1 58 [(Value.slice p_18 own_3.length c_12), (Value.map (some b_2)), (Value.map (some b_3))] :: row enc34 34 2 p_18 c_12 own_3 :: cel b_5 38 [(Value.int .i64 x_1.1), (Value.slice qp1 x_1.2.1.length qc1), (Value.int .u32 x_1.2.2.1), (Value.int .i64 x_1.2.2.2.1), (Value.int .i64 x_1.2.2.2.2.1), (Value.bool x_1.2.2.2.2.2.1), (Value.int .i64 x_1.2.2.2.2.2.2)] :: row enc63 63 5 p_7 c_5 Mapped :: row enc63 63 5 p_8 c_6 Relays :: mapQ b_2 va34 va3 p_10 m_1 :: mapQ b_3 va36 va3 p_11 m_2 :: FL) (fun w h => (hF_qp1 _ (h.drop 7))) rfl hc_qp1 h hp ?_
      rintro r_2 Own_2 p_19 n_14 c_13 w rfl h hp
      have cpp_19 := rowCap h 1 rfl
      refine ⟨_, rfl, ?_⟩
      replace h := h.sel [4, 0, 0, 2, 2, 0, 0, 0, 0] 0
      dsimp only [pickL, pickR, nthH, delH, dropH, List.cons_append, List.nil_append] at h
      exact ⟨Own_2, p_19, Own_2.length, c_13, Mapped, p_7, Mapped.length, c_5, Relays, p_8, Relays.length, c_6, own_3, p_18, own_3.length, c_12, m_1, p_10, m_2, p_11, rfl, rfl, rfl, rfl, rfl, rfl, rfl, rfl, rfl, rfl, rfl, rfl, rfl, rfl, hp, h⟩
    refine cond_both hp (fun hp => ?_) (fun hp => ?_)
    · refine ⟨_, cellL h 0 2 rfl rfl rfl, _, cellL h 0 3 rfl rfl rfl, ?_⟩
      refine ⟨_, cellL h 0 6 rfl rfl rfl, ?_⟩
      replace h := h.pick [5, 6]
      dsimp only [pickL, pickR, nthH, delH, dropH, List.cons_append, List.nil_append] at h
      have hMr_mk3 := romOf (h.drop 2) 6 rfl
      refine advert_Advert_Mapped_ok (FL := cel b_5 38 [(Value.int .i64 x_1.1), (Value.slice qp1 x_1.2.1.length qc1), (Value.int .u32 x_1.2.2.1), (Value.int .i64 x_1.2.2.2.1), (Value.int .i64 x_1.2.2.2.2.1), (Value.bool x_1.2.2.2.2.2.1), (Value.int .i64 x_1.2.2.2.2.2.2)] :: cel b_4 32 [(Value.slice p_6 Own.length c_4), (Value.slice p_7 Mapped.length c_5), (Value.slice p_8 Relays.length c_6)] :: row enc34 34 2 p_6 c_4 Own :: row enc63 63 5 p_7 c_5 Mapped :: row enc63 63 5 p_8 c_6 Relays :: row enc34 34 2 p_9 c_7 own_1 :: mapQ b_3 va36 va3 p_11 m_2 :: FL) hMr_mk3 h hp ?_
      intro r_3 m_5 p_20 w h hp
      refine ⟨_, rfl, ?_⟩
      obtain ⟨Q_2, hq, hp⟩ := hp
      refine ⟨fun script0_3p script0_3l script0_3c seen1_3p seen1_3l seen1_3c now2_3 a7_3 r8_3 i9_3 d10 e11_1 f12_1 t98 w => p_1 = script0_3p ∧ script.length = script0_3l ∧ c_1 = script0_3c ∧ p_2 = seen1_3p ∧ seen.length = seen1_3l ∧ c_2 = seen1_3c ∧ now = now2_3 ∧ (some (Addr.mk b_1 0 none)) = a7_3 ∧ (Addr.mk b_4 0 none) = r8_3 ∧ i9 = i9_3 ∧ (Addr.mk b_5 0 none) = d10 ∧ r_3 = e11_1 ∧ 1 = f12_1 ∧ Q_2 t98 ∧ Mem (cel b_1 58 [(Value.slice p_9 own_1.length c_7), (Value.map (some b_2)), (Value.map (some b_3))] :: row enc34 34 2 p_9 c_7 own_1 :: cel b_5 38 [(Value.int .i64 x_1.1), (Value.slice qp1 x_1.2.1.length qc1), (Value.int .u32 x_1.2.2.1), (Value.int .i64 x_1.2.2.2.1), (Value.int .i64 x_1.2.2.2.2.1), (Value.bool x_1.2.2.2.2.2.1), (Value.int .i64 x_1.2.2.2.2.2.2)] :: cel b_4 32 [(Value.slice p_6 Own.length c_4), (Value.slice p_7 Mapped.length c_5), (Value.slice p_8 Relays.length c_6)] :: row enc34 34 2 p_6 c_4 Own :: row enc63 63 5 p_7 c_5 Mapped :: row enc63 63 5 p_8 c_6 Relays :: mapQ b_2 va34 va3 p_20 m_5 :: mapQ b_3 va36 va3 p_11 m_2 :: FL) w, ?_, ?_⟩
      · rintro script0_3p script0_3l script0_3c seen1_3p seen1_3l seen1_3c now2_3 a7_3 r8_3 i9_3 d10 e11_1 f12_1 t98 w ⟨rfl, rfl, rfl, rfl, rfl, rfl, rfl, rfl, rfl, rfl, rfl, rfl, rfl, hp, h⟩
        replace hp := hq t98 hp
        unfold embrasurelaw21_AdvertPlays_j5
        refine cond_both' hp (fun hp => ?_) (fun hp => ?_)
        · replace h := h.sel [2, 2, 2, 2, 2, 0, 0, 0, 0] 0
          dsimp only [pickL, pickR, nthH, delH, dropH, List.cons_append, List.nil_append] at h
          exact ⟨Own, p_6, Own.length, c_4, Mapped, p_7, Mapped.length, c_5, Relays, p_8, Relays.length, c_6, own_1, p_9, own_1.length, c_7, m_5, p_20, m_2, p_11, rfl, rfl, rfl, rfl, rfl, rfl, rfl, rfl, rfl, rfl, rfl, rfl, rfl, rfl, hp, h⟩
        replace h := h.drew
        refine ⟨_, rfl, ?_⟩
        refine ⟨_, _, _, cellL h 3 1 rfl rfl rfl, ?_⟩
        refine ⟨_, cellL h 2 2 rfl rfl rfl, _, cellL h 2 3 rfl rfl rfl, ?_⟩
        refine ⟨_, cellL h 2 6 rfl rfl rfl, ?_⟩
        refine embrasureref21_Set_ok (FL := cel b_1 58 [(Value.slice p_9 own_1.length c_7), (Value.map (some b_2)), (Value.map (some b_3))] :: row enc34 34 2 p_9 c_7 own_1 :: cel b_5 38 [(Value.int .i64 x_1.1), (Value.slice qp1 x_1.2.1.length qc1), (Value.int .u32 x_1.2.2.1), (Value.int .i64 x_1.2.2.2.1), (Value.int .i64 x_1.2.2.2.2.1), (Value.bool x_1.2.2.2.2.2.1), (Value.int .i64 x_1.2.2.2.2.2.2)] :: cel b_4 32 [(Value.slice p_6 Own.length c_4), (Value.slice p_7 Mapped.length c_5), (Value.slice p_8 Relays.length c_6)] :: row enc34 34 2 p_6 c_4 Own :: row enc63 63 5 p_7 c_5 Mapped :: row enc63 63 5 p_8 c_6 Relays :: mapQ b_2 va34 va3 p_20 m_5 :: mapQ b_3 va36 va3 p_11 m_2 :: FL) (fun w h => (rowRd h 5 encL63 rfl)) rfl cpp_7 h hp ?_ ?_
        · intro r_5 w h hp
          refine ⟨_, _, _, _, rfl, ?_⟩
          refine ⟨_, _, _, rfl, ?_⟩
          refine ⟨_, rfl, ?_⟩
          refine ⟨_, rfl, ?_⟩
          refine storeL (ys := [(Value.slice p_7 Mapped.length c_5)]) h 3 1 rfl rfl rfl sz30 rfl rfl ?_
          intro w h
          dsimp only [setH, setVs, setV] at h
          replace h := h.sel [2, 2, 2, 2, 2, 0, 0, 0, 0] 0
          dsimp only [pickL, pickR, nthH, delH, dropH, List.cons_append, List.nil_append] at h
          exact ⟨Own, p_6, Own.length, c_4, Mapped, p_7, Mapped.length, c_5, Relays, p_8, Relays.length, c_6, own_1, p_9, own_1.length, c_7, m_5, p_20, m_2, p_11, rfl, rfl, rfl, rfl, rfl, rfl, rfl, rfl, rfl, rfl, rfl, rfl, rfl, rfl, hp, h⟩
        rintro rs r_6 p_21 n_15 c_14 w rfl h hp
        have cpp_21 := rowCap h 0 rfl
        refine ⟨_, _, _, _, rfl, ?_⟩
        refine ⟨_, _, _, rfl, ?_⟩
        refine ⟨_, rfl, ?_⟩
        refine ⟨_, rfl, ?_⟩
        refine storeL (ys := [(Value.slice p_21 rs.length c_14)]) h 4 1 rfl rfl rfl sz30 rfl rfl ?_
        intro w h
        dsimp only [setH, setVs, setV] at h
        replace h := h.sel [3, 3, 3, 0, 3, 0, 0, 1, 1] 1
        dsimp only [pickL, pickR, nthH, delH, dropH, List.cons_append, List.nil_append] at h
        exact ⟨Own, p_6, Own.length, c_4, rs, p_21, rs.length, c_14, Relays, p_8, Relays.length, c_6, own_1, p_9, own_1.length, c_7, m_5, p_20, m_2, p_11, rfl, rfl, rfl, rfl, rfl, rfl, rfl, rfl, rfl, rfl, rfl, rfl, rfl, rfl, hp, h⟩
      clear hq
      refine ⟨_, cellL h 2 2 rfl rfl rfl, _, cellL h 2 3 rfl rfl rfl, ?_⟩
      refine embrasureref03_May_ok h hp ?_
      intro r_4 w h hp
      refine ⟨_, rfl, ?_⟩
      refine cond_both' hp (fun hp => ?_) (fun hp => ?_)
      · replace h := h.sel [0, 6, 1, 1, 1, 1, 1, 0, 0] 0
        dsimp only [pickL, pickR, nthH, delH, dropH, List.cons_append, List.nil_append] at h
        exact ⟨rfl, rfl, rfl, rfl, rfl, rfl, rfl, rfl, rfl, rfl, rfl, rfl, rfl, hp, h⟩
      refine ⟨_, cellL h 2 6 rfl rfl rfl, ?_⟩
      replace h := h.sel [0, 6, 1, 1, 1, 1, 1, 0, 0] 0
      dsimp only [pickL, pickR, nthH, delH, dropH, List.cons_append, List.nil_append] at h
      exact ⟨rfl, rfl, rfl, rfl, rfl, rfl, rfl, rfl, rfl, rfl, rfl, rfl, rfl, hp, h⟩
    refine ⟨_, cellL h 0 2 rfl rfl rfl, _, cellL h 0 3 rfl rfl rfl, _, cellL h 0 4 rfl rfl rfl, _, cellL h 0 5 rfl rfl rfl, ?_⟩
    refine newL (o := [(Value.int .u32 0), (Value.int .i64 0), (Value.int .i64 0), (Value.bool false)]) h ?_
    intro b_6 w h
    refine storeL (ys := [(Value.int .u32 x_1.2.2.1), (Value.int .i64 x_1.2.2.2.1), (Value.int .i64 x_1.2.2.2.2.1), (Value.bool x_1.2.2.2.2.2.1)]) h 0 0 rfl rfl rfl sz36 rfl rfl ?_
    intro w h
    dsimp only [setH, setVs, setV] at h
    refine ⟨_, cellL h 0 0 rfl rfl rfl, _, cellL h 0 1 rfl rfl rfl, _, cellL h 0 2 rfl rfl rfl, _, cellL h 0 3 rfl rfl rfl, ?_⟩
    refine ⟨_, cellL h 1 6 rfl rfl rfl, ?_⟩
    replace h := h.pick [6, 8]
    dsimp only [pickL, pickR, nthH, delH, dropH, List.cons_append, List.nil_append] at h
    have hMr_mk2 := romOf (h.drop 2) 7 rfl
    refine advert_Advert_Relay_ok (FL := cel b_6 36 [(Value.int .u32 x_1.2.2.1), (Value.int .i64 x_1.2.2.2.1), (Value.int .i64 x_1.2.2.2.2.1), (Value.bool x_1.2.2.2.2.2.1)] :: cel b_5 38 [(Value.int .i64 x_1.1), (Value.slice qp1 x_1.2.1.length qc1), (Value.int .u32 x_1.2.2.1), (Value.int .i64 x_1.2.2.2.1), (Value.int .i64 x_1.2.2.2.2.1), (Value.bool x_1.2.2.2.2.2.1), (Value.int .i64 x_1.2.2.2.2.2.2)] :: cel b_4 32 [(Value.slice p_6 Own.length c_4), (Value.slice p_7 Mapped.length c_5), (Value.slice p_8 Relays.length c_6)] :: row enc34 34 2 p_6 c_4 Own :: row enc63 63 5 p_7 c_5 Mapped :: row enc63 63 5 p_8 c_6 Relays :: row enc34 34 2 p_9 c_7 own_1 :: mapQ b_2 va34 va3 p_10 m_1 :: FL) hMr_mk2 h hp ?_
    intro r_7 m_6 p_22 w h hp
    refine ⟨_, rfl, ?_⟩
    refine storeL (ys := [(Value.bool true)]) h 2 3 rfl rfl rfl sz4 rfl rfl ?_
    intro w h
    dsimp only [setH, setVs, setV] at h
    obtain ⟨Q_3, hq, hp⟩ := hp
    refine ⟨fun script0_4p script0_4l script0_4c seen1_4p seen1_4l seen1_4c now2_4 a7_4 r8_4 i9_4 d10_1 e11_2 f12_2 p13 t56 w => p_1 = script0_4p ∧ script.length = script0_4l ∧ c_1 = script0_4c ∧ p_2 = seen1_4p ∧ seen.length = seen1_4l ∧ c_2 = seen1_4c ∧ now = now2_4 ∧ (some (Addr.mk b_1 0 none)) = a7_4 ∧ (Addr.mk b_4 0 none) = r8_4 ∧ i9 = i9_4 ∧ (Addr.mk b_5 0 none) = d10_1 ∧ r_7 = e11_2 ∧ 1 = f12_2 ∧ (Addr.mk b_6 0 none) = p13 ∧ Q_3 t56 ∧ Mem (cel b_1 58 [(Value.slice p_9 own_1.length c_7), (Value.map (some b_2)), (Value.map (some b_3))] :: row enc34 34 2 p_9 c_7 own_1 :: cel b_6 36 [(Value.int .u32 x_1.2.2.1), (Value.int .i64 x_1.2.2.2.1), (Value.int .i64 x_1.2.2.2.2.1), (Value.bool true)] :: cel b_5 38 [(Value.int .i64 x_1.1), (Value.slice qp1 x_1.2.1.length qc1), (Value.int .u32 x_1.2.2.1), (Value.int .i64 x_1.2.2.2.1), (Value.int .i64 x_1.2.2.2.2.1), (Value.bool x_1.2.2.2.2.2.1), (Value.int .i64 x_1.2.2.2.2.2.2)] :: cel b_4 32 [(Value.slice p_6 Own.length c_4), (Value.slice p_7 Mapped.length c_5), (Value.slice p_8 Relays.length c_6)] :: row enc34 34 2 p_6 c_4 Own :: row enc63 63 5 p_7 c_5 Mapped :: row enc63 63 5 p_8 c_6 Relays :: mapQ b_3 va36 va3 p_22 m_6 :: mapQ b_2 va34 va3 p_10 m_1 :: FL) w, ?_, ?_⟩
    · rintro script0_4p script0_4l script0_4c seen1_4p seen1_4l seen1_4c now2_4 a7_4 r8_4 i9_4 d10_1 e11_2 f12_2 p13 t56 w ⟨rfl, rfl, rfl, rfl, rfl, rfl, rfl, rfl, rfl, rfl, rfl, rfl, rfl, rfl, hp, h⟩
      replace hp := hq t56 hp
      unfold embrasurelaw21_AdvertPlays_j6
      refine cond_both' hp (fun hp => ?_) (fun hp => ?_)
      · replace h := h.sel [3, 3, 3, 3, 3, 0, 0, 2, 1] 1
        dsimp only [pickL, pickR, nthH, delH, dropH, List.cons_append, List.nil_append] at h
        exact ⟨Own, p_6, Own.length, c_4, Mapped, p_7, Mapped.length, c_5, Relays, p_8, Relays.length, c_6, own_1, p_9, own_1.length, c_7, m_1, p_10, m_6, p_22, rfl, rfl, rfl, rfl, rfl, rfl, rfl, rfl, rfl, rfl, rfl, rfl, rfl, rfl, hp, h⟩
      replace h := h.drew
      refine ⟨_, rfl, ?_⟩
      refine ⟨_, _, _, cellL h 4 2 rfl rfl rfl, ?_⟩
      refine ⟨_, cellL h 2 0 rfl rfl rfl, _, cellL h 2 1 rfl rfl rfl, _, cellL h 2 2 rfl rfl rfl, _, cellL h 2 3 rfl rfl rfl, ?_⟩
      refine ⟨_, cellL h 3 6 rfl rfl rfl, ?_⟩
      refine embrasureref21_Set_ok (FL := cel b_1 58 [(Value.slice p_9 own_1.length c_7), (Value.map (some b_2)), (Value.map (some b_3))] :: row enc34 34 2 p_9 c_7 own_1 :: cel b_6 36 [(Value.int .u32 x_1.2.2.1), (Value.int .i64 x_1.2.2.2.1), (Value.int .i64 x_1.2.2.2.2.1), (Value.bool true)] :: cel b_5 38 [(Value.int .i64 x_1.1), (Value.slice qp1 x_1.2.1.length qc1), (Value.int .u32 x_1.2.2.1), (Value.int .i64 x_1.2.2.2.1), (Value.int .i64 x_1.2.2.2.2.1), (Value.bool x_1.2.2.2.2.2.1), (Value.int .i64 x_1.2.2.2.2.2.2)] :: cel b_4 32 [(Value.slice p_6 Own.length c_4), (Value.slice p_7 Mapped.length c_5), (Value.slice p_8 Relays.length c_6)] :: row enc34 34 2 p_6 c_4 Own :: row enc63 63 5 p_7 c_5 Mapped :: row enc63 63 5 p_8 c_6 Relays :: mapQ b_3 va36 va3 p_22 m_6 :: mapQ b_2 va34 va3 p_10 m_1 :: FL) (fun w h => (rowRd h 7 encL63 rfl)) rfl cpp_8 h hp ?_ ?_
      · intro r_9 w h hp
        refine ⟨_, _, _, _, rfl, ?_⟩
        refine ⟨_, _, _, rfl, ?_⟩
        refine ⟨_, rfl, ?_⟩
        refine ⟨_, rfl, ?_⟩
        refine storeL (ys := [(Value.slice p_8 Relays.length c_6)]) h 4 2 rfl rfl rfl sz30 rfl rfl ?_
        intro w h
        dsimp only [setH, setVs, setV] at h
        replace h := h.sel [3, 3, 3, 3, 3, 0, 0, 2, 1] 1
        dsimp only [pickL, pickR, nthH, delH, dropH, List.cons_append, List.nil_append] at h
        exact ⟨Own, p_6, Own.length, c_4, Mapped, p_7, Mapped.length, c_5, Relays, p_8, Relays.length, c_6, own_1, p_9, own_1.length, c_7, m_1, p_10, m_6, p_22, rfl, rfl, rfl, rfl, rfl, rfl, rfl, rfl, rfl, rfl, rfl, rfl, rfl, rfl, hp, h⟩
      rintro rs_1 r_10 p_23 n_16 c_15 w rfl h hp
      have cpp_23 := rowCap h 0 rfl
      refine ⟨_, _, _, _, rfl, ?_⟩
      refine ⟨_, _, _, rfl, ?_⟩
      refine ⟨_, rfl, ?_⟩
      refine ⟨_, rfl, ?_⟩
      refine storeL (ys := [(Value.slice p_23 rs_1.length c_15)]) h 5 2 rfl rfl rfl sz30 rfl rfl ?_
      intro w h
      dsimp only [setH, setVs, setV] at h
      replace h := h.sel [4, 4, 4, 4, 0, 0, 0, 3, 2] 2
      dsimp only [pickL, pickR, nthH, delH, dropH, List.cons_append, List.nil_append] at h
      exact ⟨Own, p_6, Own.length, c_4, Mapped, p_7, Mapped.length, c_5, rs_1, p_23, rs_1.length, c_15, own_1, p_9, own_1.length, c_7, m_1, p_10, m_6, p_22, rfl, rfl, rfl, rfl, rfl, rfl, rfl, rfl, rfl, rfl, rfl, rfl, rfl, rfl, hp, h⟩
    clear hq
    refine ⟨_, cellL h 2 0 rfl rfl rfl, _, cellL h 2 1 rfl rfl rfl, _, cellL h 2 2 rfl rfl rfl, _, cellL h 2 3 rfl rfl rfl, ?_⟩
    refine embrasureref03_Place_ok h hp ?_
    intro r_8 w h hp
    refine ⟨_, rfl, ?_⟩
    refine cond_both' hp (fun hp => ?_) (fun hp => ?_)
    · replace h := h.sel [0, 7, 1, 1, 1, 1, 1, 1, 0, 0] 0
      dsimp only [pickL, pickR, nthH, delH, dropH, List.cons_append, List.nil_append] at h
      exact ⟨rfl, rfl, rfl, rfl, rfl, rfl, rfl, rfl, rfl, rfl, rfl, rfl, rfl, rfl, hp, h⟩
    refine ⟨_, cellL h 3 6 rfl rfl rfl, ?_⟩
    replace h := h.sel [0, 7, 1, 1, 1, 1, 1, 1, 0, 0] 0
    dsimp only [pickL, pickR, nthH, delH, dropH, List.cons_append, List.nil_append] at h
    exact ⟨rfl, rfl, rfl, rfl, rfl, rfl, rfl, rfl, rfl, rfl, rfl, rfl, rfl, rfl, hp, h⟩
  clear hq
  refine cond_both hp (fun hp => ?_) (fun hp => ?_)
  · exact ⟨rfl, rfl, rfl, rfl, rfl, rfl, rfl, rfl, rfl, rfl, hp, h⟩
  exact ⟨rfl, rfl, rfl, rfl, rfl, rfl, rfl, rfl, rfl, rfl, hp, h⟩

/-! embrasure/embrasurelaw21.AdvertOver (5) -/
def embrasurelaw21_AdvertOver_wp (script : List (Int × (List (Int × Int)) × Int × Int × Int × Bool × Int)) (seen : List (Int × Int)) (now : Int) (K : Bool → Prop) : Prop :=
  embrasurelaw21_awake_wp (fun (r : Bool) => cond (!r) (K false) (cond (decide ((((seen.length : Nat) : Int) : Int) > 40)) (K true) (advert_New_wp (fun (own : List (Int × Int)) (mapped : List ((Int × Int) × Int)) (relays : List ((Int × Int × Int × Bool) × Int)) => joinP3 (fun (own_1 : List (Int × Int)) (m_1 : List ((Int × Int) × Int)) (m_2 : List ((Int × Int × Int × Bool) × Int)) => advert_Advert_Told_wp own_1 m_1 m_2 now seen false (fun (rs : List (Int × Int × Int × Bool)) => advert_Advert_Told_wp own_1 m_1 m_2 now seen true (fun (rs_1 : List (Int × Int × Int × Bool)) => joinP0 (joinP0 (K (decide ((((rs_1.length : Nat) : Int) : Int) ≤ 8))) (fun (Q_6 : Prop) => ∃ (I_4 : Nat → Int → Prop), (∃ (n_29 : Nat), I_4 n_29 0) ∧ ∀ (n_24 : Nat) (i16 : Int), I_4 n_24 i16 → (cond (decide ((i16 : Int) < ((rs_1.length : Nat) : Int))) (∃ (I_5 : Nat → Int → Prop), (∃ (n_28 : Nat), I_5 n_28 0) ∧ ∀ (n_25 : Nat) (k17 : Int), I_5 n_25 k17 → (cond (decide ((k17 : Int) < i16)) (0 ≤ (i16 : Int) ∧ (i16 : Int) < ((rs_1.length : Nat) : Int) ∧ (∀ (x_11 : Int × Int × Int × Bool), rs_1[Int.toNat i16]? = some x_11 → (0 ≤ (k17 : Int) ∧ (k17 : Int) < ((rs_1.length : Nat) : Int) ∧ (∀ (x_12 : Int × Int × Int × Bool), rs_1[Int.toNat k17]? = some x_12 → (cond ((((x_11.1 : Int) == x_12.1) && (((x_11.2.1 : Int) == x_12.2.1) && true)) && (((x_11.2.2.1 : Int) == x_12.2.2.1) && ((x_11.2.2.2 == x_12.2.2.2) && true))) (K false) (∃ (n_26 : Nat), n_26 < n_25 ∧ I_5 n_26 (IntKind.wrap .i64 (k17 + 1)))))))) (∃ (n_27 : Nat), n_27 < n_24 ∧ I_4 n_27 (IntKind.wrap .i64 (i16 + 1))))) (Q_6 )))) (fun (Q_2 : Prop) => ∃ (I_1 : Nat → Int → Prop), (∃ (n_23 : Nat), I_1 n_23 0) ∧ ∀ (n_14 : Nat) (i12 : Int), I_1 n_14 i12 → (cond (decide ((i12 : Int) < ((rs.length : Nat) : Int))) (joinP1 (fun (own13 : Bool) => joinP1 (fun (t162 : Bool) => cond t162 (K false) (∃ (n_22 : Nat), n_22 < n_14 ∧ I_1 n_22 (IntKind.wrap .i64 (i12 + 1)))) (fun (Q_5 : Bool → Prop) => cond (!own13) (Q_5 true) (0 ≤ (i12 : Int) ∧ (i12 : Int) < ((rs.length : Nat) : Int) ∧ (∀ (x_6 : Int × Int × Int × Bool), rs[Int.toNat i12]? = some x_6 → (cond (x_6.2.2.2) (Q_5 true) (0 ≤ (i12 : Int) ∧ (i12 : Int) < ((rs.length : Nat) : Int) ∧ (∀ (x_7 : Int × Int × Int × Bool), rs[Int.toNat i12]? = some x_7 → (cond ((x_7.2.2.1 : Int) != 0) (Q_5 true) (0 ≤ (i12 : Int) ∧ (i12 : Int) < ((rs.length : Nat) : Int) ∧ (∀ (x_8 : Int × Int × Int × Bool), rs[Int.toNat i12]? = some x_8 → (advert_Inside_wp x_8.1 (fun (r_4 : Bool) => cond r_4 (Q_5 true) (cond (decide ((i12 : Int) ≥ ((rs_1.length : Nat) : Int))) (Q_5 true) (0 ≤ (i12 : Int) ∧ (i12 : Int) < ((rs_1.length : Nat) : Int) ∧ (∀ (x_9 : Int × Int × Int × Bool), rs_1[Int.toNat i12]? = some x_9 → (0 ≤ (i12 : Int) ∧ (i12 : Int) < ((rs.length : Nat) : Int) ∧ (∀ (x_10 : Int × Int × Int × Bool), rs[Int.toNat i12]? = some x_10 → (Q_5 (!((((x_9.1 : Int) == x_10.1) && (((x_9.2.1 : Int) == x_10.2.1) && true)) && (((x_9.2.2.1 : Int) == x_10.2.2.1) && ((x_9.2.2.2 == x_10.2.2.2) && true)))))))))))))))))))))) (fun (Q_3 : Bool → Prop) => ∃ (I_2 : Nat → Bool → Int → Prop), (∃ (n_21 : Nat), I_2 n_21 false 0) ∧ ∀ (n_15 : Nat) (own13_1 : Bool) (k14 : Int), I_2 n_15 own13_1 k14 → (joinP1 (fun (t90 : Bool) => cond t90 (∃ (I_3 : Nat → Bool → Int → Prop), (∃ (n_20 : Nat), I_3 n_20 own13_1 0) ∧ ∀ (n_16 : Nat) (own13_3 : Bool) (j15 : Int), I_3 n_16 own13_3 j15 → (0 ≤ (k14 : Int) ∧ (k14 : Int) < ((script.length : Nat) : Int) ∧ (∀ (x_2 : Int × (List (Int × Int)) × Int × Int × Int × Bool × Int), script[Int.toNat k14]? = some x_2 → (cond (decide ((j15 : Int) < ((x_2.2.1.length : Nat) : Int))) (cond own13_3 (∃ (n_17 : Nat), n_17 < n_16 ∧ I_3 n_17 true (IntKind.wrap .i64 (j15 + 1))) (0 ≤ (k14 : Int) ∧ (k14 : Int) < ((script.length : Nat) : Int) ∧ (∀ (x_3 : Int × (List (Int × Int)) × Int × Int × Int × Bool × Int), script[Int.toNat k14]? = some x_3 → (0 ≤ (j15 : Int) ∧ (j15 : Int) < ((x_3.2.1.length : Nat) : Int) ∧ (∀ (x_4 : Int × Int), x_3.2.1[Int.toNat j15]? = some x_4 → (0 ≤ (i12 : Int) ∧ (i12 : Int) < ((rs.length : Nat) : Int) ∧ (∀ (x_5 : Int × Int × Int × Bool), rs[Int.toNat i12]? = some x_5 → (∃ (n_18 : Nat), n_18 < n_16 ∧ I_3 n_18 (((x_4.1 : Int) == x_5.1) && (((x_4.2 : Int) == x_5.2.1) && true)) (IntKind.wrap .i64 (j15 + 1)))))))))) (∃ (n_19 : Nat), n_19 < n_15 ∧ I_2 n_19 own13_3 (IntKind.wrap .i64 (k14 + 1))))))) (Q_3 own13_1)) (fun (Q_4 : Bool → Prop) => cond (decide ((k14 : Int) < ((script.length : Nat) : Int))) (Q_4 (decide ((k14 : Int) < 60))) (Q_4 false))))) (Q_2 )))))) (fun (Q : List (Int × Int) → List ((Int × Int) × Int) → List ((Int × Int × Int × Bool) × Int) → Prop) => ∃ (I : Nat → List (Int × Int) → Int → List ((Int × Int) × Int) → List ((Int × Int × Int × Bool) × Int) → Prop), (∃ (n_11 : Nat), I n_11 own 0 mapped relays) ∧ ∀ (n_6 : Nat) (own_2 : List (Int × Int)) (i8 : Int) (m_3 : List ((Int × Int) × Int)) (m_4 : List ((Int × Int × Int × Bool) × Int)), I n_6 own_2 i8 m_3 m_4 → (joinP1 (fun (t31 : Bool) => cond t31 (0 ≤ (i8 : Int) ∧ (i8 : Int) < ((script.length : Nat) : Int) ∧ (∀ (x_1 : Int × (List (Int × Int)) × Int × Int × Int × Bool × Int), script[Int.toNat i8]? = some x_1 → (cond (decide ((((x_1.2.1.length : Nat) : Int) : Int) > 40)) (K true) (cond ((x_1.1 : Int) == 1) (advert_Advert_Mapped_wp m_3 m_4 x_1.2.2.1 x_1.2.2.2.1 (if (now : Int) < x_1.2.2.2.2.2.2 then now else x_1.2.2.2.2.2.2) (fun (r_1 : Int) (m_5 : List ((Int × Int) × Int)) => ∃ (n_7 : Nat), n_7 < n_6 ∧ I n_7 own_2 (IntKind.wrap .i64 (i8 + 1)) m_5 m_4)) (cond ((x_1.1 : Int) == 2) (advert_Advert_Relay_wp m_3 m_4 x_1.2.2.1 x_1.2.2.2.1 x_1.2.2.2.2.1 x_1.2.2.2.2.2.1 (if (now : Int) < x_1.2.2.2.2.2.2 then now else x_1.2.2.2.2.2.2) (fun (r_2 : Int) (m_6 : List ((Int × Int × Int × Bool) × Int)) => ∃ (n_8 : Nat), n_8 < n_6 ∧ I n_8 own_2 (IntKind.wrap .i64 (i8 + 1)) m_3 m_6)) (advert_Advert_Own_wp own_2 m_3 m_4 x_1.2.1 (fun (r_3 : Int) (own_3 : List (Int × Int)) => ∃ (n_10 : Nat), n_10 < n_6 ∧ I n_10 own_3 (IntKind.wrap .i64 (i8 + 1)) m_3 m_4))))))) (Q own_2 m_3 m_4)) (fun (Q_1 : Bool → Prop) => cond (decide ((i8 : Int) < ((script.length : Nat) : Int))) (Q_1 (decide ((i8 : Int) < 60))) (Q_1 false))))))))
theorem embrasurelaw21_AdvertOver_ok {p_1 : Option Addr} {n_1 : Nat} {c_1 : Nat} {p_2 : Option Addr} {n_2 : Nat} {c_2 : Nat} {script : List (Int × (List (Int × Int)) × Int × Int × Int × Bool × Int)} {seen : List (Int × Int)} {now : Int} {FL : List HP} {w : World} {K : Bool → Prop} {R : Value → World → Prop}
  (hF_script : ∀ w, Mem FL w → RdD w 7 p_1 (encR38 FL) script) (hl_script : n_1 = script.length) (hc_script : n_1 ≤ c_1)
  (hF_seen : ∀ w, Mem FL w → Rd w 2 p_2 enc34 seen) (hl_seen : n_2 = seen.length) (hc_seen : n_2 ≤ c_2)
  (h : Mem (FL) w) (hp : embrasurelaw21_AdvertOver_wp script seen now K)
  (hR : ∀ (r : Bool) (w : World), Mem (FL) w → K r → R (Value.bool r) w) :
  CallV Try.prog 5 #[(Value.slice p_1 n_1 c_1), (Value.slice p_2 n_2 c_2), (Value.int .i64 now)] w R := by
  refine embrasurelaw21_AdvertOver_call ?_
  unfold embrasurelaw21_AdvertOver
  unfold embrasurelaw21_AdvertOver_wp at hp
  subst hl_script
  subst hl_seen
  refine embrasurelaw21_awake_ok h hp ?_
  intro r w h hp
  refine ⟨_, rfl, ?_⟩
  refine cond_both hp (fun hp => ?_) (fun hp => ?_)
  · exact hR false _ h hp
  refine cond_both hp (fun hp => ?_) (fun hp => ?_)
  · exact hR true _ h hp
  refine advert_New_ok h hp ?_
  rintro own mapped relays b_1 p_3 n_3 c_3 b_2 p_4 b_3 p_5 w rfl h hp
  have cpp_3 := rowCap h 1 rfl
  refine ⟨_, rfl, ?_⟩
  obtain ⟨Q, hq, hp⟩ := hp
  refine ⟨fun script0p script0l script0c seen1p seen1l seen1c now2 a7 w => ∃ (own_1 : List (Int × Int)), ∃ (p_6 : Option Addr), ∃ (n_4 : Nat), ∃ (c_4 : Nat), ∃ (m_1 : List ((Int × Int) × Int)), ∃ (p_7 : List MapEntry × Nat), ∃ (m_2 : List ((Int × Int × Int × Bool) × Int)), ∃ (p_8 : List MapEntry × Nat), p_1 = script0p ∧ script.length = script0l ∧ c_1 = script0c ∧ p_2 = seen1p ∧ seen.length = seen1l ∧ c_2 = seen1c ∧ now = now2 ∧ (some (Addr.mk b_1 0 none)) = a7 ∧ n_4 = own_1.length ∧ Q own_1 m_1 m_2 ∧ Mem (cel b_1 58 [(Value.slice p_6 n_4 c_4), (Value.map (some b_2)), (Value.map (some b_3))] :: row enc34 34 2 p_6 c_4 own_1 :: mapQ b_2 va34 va3 p_7 m_1 :: mapQ b_3 va36 va3 p_8 m_2 :: FL) w, ?_, ?_⟩
  · rintro script0p script0l script0c seen1p seen1l seen1c now2 a7 w ⟨own_1, p_6, n_4, c_4, m_1, p_7, m_2, p_8, rfl, rfl, rfl, rfl, rfl, rfl, rfl, rfl, rfl, hp, h⟩
    replace hp := hq own_1 m_1 m_2 hp
    unfold embrasurelaw21_AdvertOver_j1
    have cpp_6 := rowCap h 1 rfl
    have hMr_mk2 := romOf (h.drop 2) 0 rfl
    have hMr_mk3 := romOf (h.drop 2) 1 rfl
    refine advert_Advert_Told_ok (FL := mapQ b_2 va34 va3 p_7 m_1 :: mapQ b_3 va36 va3 p_8 m_2 :: FL) (fun w h => (hF_seen _ (h.drop 2))) rfl hc_seen hMr_mk2 hMr_mk3 h hp ?_
    rintro rs p_15 n_12 c_7 w rfl h hp
    have cpp_15 := rowCap h 0 rfl
    have cpp_6 := rowCap h 2 rfl
    refine ⟨_, _, _, rfl, ?_⟩
    replace h := h.pick [1, 1]
    dsimp only [pickL, pickR, nthH, delH, dropH, List.cons_append, List.nil_append] at h
    have hMr_mk2 := romOf (h.drop 2) 1 rfl
    have hMr_mk3 := romOf (h.drop 2) 2 rfl
    refine advert_Advert_Told_ok (FL := row enc36 36 4 p_15 c_7 rs :: mapQ b_2 va34 va3 p_7 m_1 :: mapQ b_3 va36 va3 p_8 m_2 :: FL) (fun w h => (hF_seen _ (h.drop 3))) rfl hc_seen hMr_mk2 hMr_mk3 h hp ?_
    rintro rs_1 p_16 n_13 c_8 w rfl h hp
    have cpp_16 := rowCap h 0 rfl
    have cpp_6 := rowCap h 2 rfl
    refine ⟨_, _, _, rfl, ?_⟩
    obtain ⟨Q_2, hq, hp⟩ := hp
    refine ⟨fun m11p m11l m11c w => p_16 = m11p ∧ rs_1.length = m11l ∧ c_8 = m11c ∧ Q_2 ∧ Mem (cel b_1 58 [(Value.slice p_6 own_1.length c_4), (Value.map (some b_2)), (Value.map (some b_3))] :: row enc34 34 2 p_6 c_4 own_1 :: mapQ b_2 va34 va3 p_7 m_1 :: mapQ b_3 va36 va3 p_8 m_2 :: row enc36 36 4 p_16 c_8 rs_1 :: FL) w, ?_, ?_⟩
    · rintro m11p m11l m11c w ⟨rfl, rfl, rfl, hp, h⟩
      replace hp := hq  hp
      unfold embrasurelaw21_AdvertOver_j2
      obtain ⟨Q_6, hq, hp⟩ := hp
      refine ⟨fun m11_7p m11_7l m11_7c w => p_16 = m11_7p ∧ rs_1.length = m11_7l ∧ c_8 = m11_7c ∧ Q_6 ∧ Mem (cel b_1 58 [(Value.slice p_6 own_1.length c_4), (Value.map (some b_2)), (Value.map (some b_3))] :: row enc34 34 2 p_6 c_4 own_1 :: mapQ b_2 va34 va3 p_7 m_1 :: mapQ b_3 va36 va3 p_8 m_2 :: row enc36 36 4 p_16 c_8 rs_1 :: FL) w, ?_, ?_⟩
      · rintro m11_7p m11_7l m11_7c w ⟨rfl, rfl, rfl, hp, h⟩
        replace hp := hq  hp
        unfold embrasurelaw21_AdvertOver_j3
        replace h := h.sel [] 5
        dsimp only [pickL, pickR, nthH, delH, dropH, List.cons_append, List.nil_append] at h
        exact hR (decide ((((rs_1.length : Nat) : Int) : Int) ≤ 8)) _ h hp
      clear hq
      obtain ⟨I_4, ⟨n_29, h0⟩, hq⟩ := hp
      refine ⟨fun n_24 m11_8p m11_8l m11_8c i16 w => p_16 = m11_8p ∧ rs_1.length = m11_8l ∧ c_8 = m11_8c ∧ I_4 n_24 i16 ∧ Mem (cel b_1 58 [(Value.slice p_6 own_1.length c_4), (Value.map (some b_2)), (Value.map (some b_3))] :: row enc34 34 2 p_6 c_4 own_1 :: mapQ b_2 va34 va3 p_7 m_1 :: mapQ b_3 va36 va3 p_8 m_2 :: row enc36 36 4 p_16 c_8 rs_1 :: FL) w, ⟨n_29, rfl, rfl, rfl, h0, h⟩, ?_⟩
      clear h0 h
      rintro n_24 m11_8p m11_8l m11_8c i16 w ⟨rfl, rfl, rfl, hp, h⟩
      replace hp := hq n_24 i16 hp
      clear hq
      unfold embrasurelaw21_AdvertOver_l4
      refine cond_both' hp (fun hp => ?_) (fun hp => ?_)
      · exact ⟨rfl, rfl, rfl, hp, h⟩
      obtain ⟨I_5, ⟨n_28, h0⟩, hq⟩ := hp
      refine ⟨fun n_25 m11_9p m11_9l m11_9c i16_1 k17 w => p_16 = m11_9p ∧ rs_1.length = m11_9l ∧ c_8 = m11_9c ∧ i16 = i16_1 ∧ I_5 n_25 k17 ∧ Mem (cel b_1 58 [(Value.slice p_6 own_1.length c_4), (Value.map (some b_2)), (Value.map (some b_3))] :: row enc34 34 2 p_6 c_4 own_1 :: mapQ b_2 va34 va3 p_7 m_1 :: mapQ b_3 va36 va3 p_8 m_2 :: row enc36 36 4 p_16 c_8 rs_1 :: FL) w, ⟨n_28, rfl, rfl, rfl, rfl, h0, h⟩, ?_⟩
      clear h0 h
      rintro n_25 m11_9p m11_9l m11_9c i16_1 k17 w ⟨rfl, rfl, rfl, rfl, hp, h⟩
      replace hp := hq n_25 k17 hp
      clear hq
      unfold embrasurelaw21_AdvertOver_l5
      refine cond_both' hp (fun hp => ?_) (fun hp => ?_)
      · obtain ⟨n_27, hn, hp⟩ := hp
        exact ⟨n_27, hn, rfl, rfl, rfl, hp, h⟩
      replace h := h.drew
      obtain ⟨ia_11, ja_11, hp⟩ := hp
      obtain ⟨a_11, ha_11⟩ := rdAddr (rowRd h 4 encL36 rfl) rfl ia_11 ja_11
      refine ⟨a_11, ha_11, ia_11, ja_11, ?_⟩
      obtain ⟨x_11, hx_11, hc⟩ := rdCell (rowRd h 4 encL36 rfl) ha_11 rfl ia_11 ja_11
      replace hp := hp x_11 hx_11
      refine ⟨_, hc 0 _ rfl, _, hc 1 _ rfl, _, hc 2 _ rfl, _, hc 3 _ rfl, ?_⟩
      obtain ⟨ia_12, ja_12, hp⟩ := hp
      obtain ⟨a_12, ha_12⟩ := rdAddr (rowRd h 4 encL36 rfl) rfl ia_12 ja_12
      refine ⟨a_12, ha_12, ia_12, ja_12, ?_⟩
      obtain ⟨x_12, hx_12, hc⟩ := rdCell (rowRd h 4 encL36 rfl) ha_12 rfl ia_12 ja_12
      replace hp := hp x_12 hx_12
      refine ⟨_, hc 0 _ rfl, _, hc 1 _ rfl, _, hc 2 _ rfl, _, hc 3 _ rfl, ?_⟩
      refine eqlAgg (xs := [(Value.int .u32 x_11.1), (Value.int .i64 x_11.2.1), (Value.int .i64 x_11.2.2.1), (Value.bool x_11.2.2.2)]) (ys := [(Value.int .u32 x_12.1), (Value.int .i64 x_12.2.1), (Value.int .i64 x_12.2.2.1), (Value.bool x_12.2.2.2)]) eqG36 eqA36 (eqT36 x_11.1 x_11.2.1 x_11.2.2.1 x_11.2.2.2 x_12.1 x_12.2.1 x_12.2.2.1 x_12.2.2.2) ?_
      refine ⟨_, rfl, ?_⟩
      refine ⟨rfl, ?_⟩
      refine cond_both' hp (fun hp => ?_) (fun hp => ?_)
      · obtain ⟨n_26, hn, hp⟩ := hp
        exact ⟨n_26, hn, rfl, rfl, rfl, rfl, hp, h⟩
      replace h := h.sel [] 5
      dsimp only [pickL, pickR, nthH, delH, dropH, List.cons_append, List.nil_append] at h
      exact hR false _ h hp
    clear hq
    obtain ⟨I_1, ⟨n_23, h0⟩, hq⟩ := hp
    replace h := h.sel [1, 1, 2, 2, 1, 0] 0
    dsimp only [pickL, pickR, nthH, delH, dropH, List.cons_append, List.nil_append] at h
    refine ⟨fun n_14 script0_3p script0_3l script0_3c l10p l10l l10c m11_1p m11_1l m11_1c i12 w => p_1 = script0_3p ∧ script.length = script0_3l ∧ c_1 = script0_3c ∧ p_15 = l10p ∧ rs.length = l10l ∧ c_7 = l10c ∧ p_16 = m11_1p ∧ rs_1.length = m11_1l ∧ c_8 = m11_1c ∧ I_1 n_14 i12 ∧ Mem (cel b_1 58 [(Value.slice p_6 own_1.length c_4), (Value.map (some b_2)), (Value.map (some b_3))] :: row enc34 34 2 p_6 c_4 own_1 :: mapQ b_2 va34 va3 p_7 m_1 :: mapQ b_3 va36 va3 p_8 m_2 :: row enc36 36 4 p_15 c_7 rs :: row enc36 36 4 p_16 c_8 rs_1 :: FL) w, ⟨n_23, rfl, rfl, rfl, rfl, rfl, rfl, rfl, rfl, rfl, h0, h⟩, ?_⟩
    clear h0 h
    rintro n_14 script0_3p script0_3l script0_3c l10p l10l l10c m11_1p m11_1l m11_1c i12 w ⟨rfl, rfl, rfl, rfl, rfl, rfl, rfl, rfl, rfl, hp, h⟩
    replace hp := hq n_14 i12 hp
    clear hq
    unfold embrasurelaw21_AdvertOver_l6
    refine cond_both' hp (fun hp => ?_) (fun hp => ?_)
    · replace h := h.sel [0, 0, 0, 0, 1] 1
      dsimp only [pickL, pickR, nthH, delH, dropH, List.cons_append, List.nil_append] at h
      exact ⟨rfl, rfl, rfl, hp, h⟩
    obtain ⟨Q_3, hq, hp⟩ := hp
    refine ⟨fun script0_4p script0_4l script0_4c l10_1p l10_1l l10_1c m11_2p m11_2l m11_2c i12_1 own13 w => p_1 = script0_4p ∧ script.length = script0_4l ∧ c_1 = script0_4c ∧ p_15 = l10_1p ∧ rs.length = l10_1l ∧ c_7 = l10_1c ∧ p_16 = m11_2p ∧ rs_1.length = m11_2l ∧ c_8 = m11_2c ∧ i12 = i12_1 ∧ Q_3 own13 ∧ Mem (cel b_1 58 [(Value.slice p_6 own_1.length c_4), (Value.map (some b_2)), (Value.map (some b_3))] :: row enc34 34 2 p_6 c_4 own_1 :: mapQ b_2 va34 va3 p_7 m_1 :: mapQ b_3 va36 va3 p_8 m_2 :: row enc36 36 4 p_15 c_7 rs :: row enc36 36 4 p_16 c_8 rs_1 :: FL) w, ?_, ?_⟩
    · rintro script0_4p script0_4l script0_4c l10_1p l10_1l l10_1c m11_2p m11_2l m11_2c i12_1 own13 w ⟨rfl, rfl, rfl, rfl, rfl, rfl, rfl, rfl, rfl, rfl, hp, h⟩
      replace hp := hq own13 hp
      unfold embrasurelaw21_AdvertOver_j7
      obtain ⟨Q_5, hq, hp⟩ := hp
      refine ⟨fun script0_8p script0_8l script0_8c l10_5p l10_5l l10_5c m11_6p m11_6l m11_6c i12_5 t162 w => p_1 = script0_8p ∧ script.length = script0_8l ∧ c_1 = script0_8c ∧ p_15 = l10_5p ∧ rs.length = l10_5l ∧ c_7 = l10_5c ∧ p_16 = m11_6p ∧ rs_1.length = m11_6l ∧ c_8 = m11_6c ∧ i12 = i12_5 ∧ Q_5 t162 ∧ Mem (cel b_1 58 [(Value.slice p_6 own_1.length c_4), (Value.map (some b_2)), (Value.map (some b_3))] :: row enc34 34 2 p_6 c_4 own_1 :: mapQ b_2 va34 va3 p_7 m_1 :: mapQ b_3 va36 va3 p_8 m_2 :: row enc36 36 4 p_15 c_7 rs :: row enc36 36 4 p_16 c_8 rs_1 :: FL) w, ?_, ?_⟩
      · rintro script0_8p script0_8l script0_8c l10_5p l10_5l l10_5c m11_6p m11_6l m11_6c i12_5 t162 w ⟨rfl, rfl, rfl, rfl, rfl, rfl, rfl, rfl, rfl, rfl, hp, h⟩
        replace hp := hq t162 hp
        unfold embrasurelaw21_AdvertOver_j8
        refine cond_both' hp (fun hp => ?_) (fun hp => ?_)
        · obtain ⟨n_22, hn, hp⟩ := hp
          exact ⟨n_22, hn, rfl, rfl, rfl, rfl, rfl, rfl, rfl, rfl, rfl, hp, h⟩
        replace h := h.sel [] 6
        dsimp only [pickL, pickR, nthH, delH, dropH, List.cons_append, List.nil_append] at h
        exact hR false _ h hp
      clear hq
      replace h := h.drew
      refine ⟨fun w => Mem (FL) w, (h.sel [] 6), ?_⟩
      refine cond_both hp (fun hp => ?_) (fun hp => ?_)
      · exact ⟨rfl, rfl, rfl, rfl, rfl, rfl, rfl, rfl, rfl, rfl, hp, h⟩
      obtain ⟨ia_6, ja_6, hp⟩ := hp
      obtain ⟨a_6, ha_6⟩ := rdAddr (rowRd h 4 encL36 rfl) rfl ia_6 ja_6
      refine ⟨a_6, ha_6, ia_6, ja_6, ?_⟩
      obtain ⟨x_6, hx_6, hc⟩ := rdCell (rowRd h 4 encL36 rfl) ha_6 rfl ia_6 ja_6
      replace hp := hp x_6 hx_6
      refine ⟨_, hc 3 _ rfl, ?_⟩
      refine cond_both hp (fun hp => ?_) (fun hp => ?_)
      · exact ⟨rfl, rfl, rfl, rfl, rfl, rfl, rfl, rfl, rfl, rfl, hp, h⟩
      obtain ⟨ia_7, ja_7, hp⟩ := hp
      obtain ⟨a_7, ha_7⟩ := rdAddr (rowRd h 4 encL36 rfl) rfl ia_7 ja_7
      refine ⟨a_7, ha_7, ia_7, ja_7, ?_⟩
      obtain ⟨x_7, hx_7, hc⟩ := rdCell (rowRd h 4 encL36 rfl) ha_7 rfl ia_7 ja_7
      replace hp := hp x_7 hx_7
      refine ⟨_, hc 2 _ rfl, ?_⟩
      refine cond_both hp (fun hp => ?_) (fun hp => ?_)
      · exact ⟨rfl, rfl, rfl, rfl, rfl, rfl, rfl, rfl, rfl, rfl, hp, h⟩
      obtain ⟨ia_8, ja_8, hp⟩ := hp
      obtain ⟨a_8, ha_8⟩ := rdAddr (rowRd h 4 encL36 rfl) rfl ia_8 ja_8
      refine ⟨a_8, ha_8, ia_8, ja_8, ?_⟩
      obtain ⟨x_8, hx_8, hc⟩ := rdCell2 (rowRd h 4 encL36 rfl) ha_8 rfl ia_8 ja_8
      replace hp := hp x_8 hx_8
      refine ⟨_, hc 0 0 _ rfl, ?_⟩
      refine advert_Inside_ok h hp ?_
      intro r_4 w h hp
      refine ⟨_, rfl, ?_⟩
      refine ⟨(h.sel [] 6), ?_⟩
      refine cond_both hp (fun hp => ?_) (fun hp => ?_)
      · exact ⟨rfl, rfl, rfl, rfl, rfl, rfl, rfl, rfl, rfl, rfl, hp, h⟩
      refine ⟨rfl, ?_⟩
      refine cond_both hp (fun hp => ?_) (fun hp => ?_)
      · exact ⟨rfl, rfl, rfl, rfl, rfl, rfl, rfl, rfl, rfl, rfl, hp, h⟩
      obtain ⟨ia_9, ja_9, hp⟩ := hp
      obtain ⟨a_9, ha_9⟩ := rdAddr (rowRd h 5 encL36 rfl) rfl ia_9 ja_9
      refine ⟨a_9, ha_9, ia_9, ja_9, ?_⟩
      obtain ⟨x_9, hx_9, hc⟩ := rdCell (rowRd h 5 encL36 rfl) ha_9 rfl ia_9 ja_9
      replace hp := hp x_9 hx_9
      refine ⟨_, hc 0 _ rfl, _, hc 1 _ rfl, _, hc 2 _ rfl, _, hc 3 _ rfl, ?_⟩
      obtain ⟨ia_10, ja_10, hp⟩ := hp
      obtain ⟨a_10, ha_10⟩ := rdAddr (rowRd h 4 encL36 rfl) rfl ia_10 ja_10
      refine ⟨a_10, ha_10, ia_10, ja_10, ?_⟩
      obtain ⟨x_10, hx_10, hc⟩ := rdCell (rowRd h 4 encL36 rfl) ha_10 rfl ia_10 ja_10
      replace hp := hp x_10 hx_10
      refine ⟨_, hc 0 _ rfl, _, hc 1 _ rfl, _, hc 2 _ rfl, _, hc 3 _ rfl, ?_⟩
      refine neqAgg (xs := [(Value.int .u32 x_9.1), (Value.int .i64 x_9.2.1), (Value.int .i64 x_9.2.2.1), (Value.bool x_9.2.2.2)]) (ys := [(Value.int .u32 x_10.1), (Value.int .i64 x_10.2.1), (Value.int .i64 x_10.2.2.1), (Value.bool x_10.2.2.2)]) eqG36 eqA36 (eqT36 x_9.1 x_9.2.1 x_9.2.2.1 x_9.2.2.2 x_10.1 x_10.2.1 x_10.2.2.1 x_10.2.2.2) ?_
      refine ⟨_, rfl, ?_⟩
      refine ⟨rfl, ?_⟩
      exact ⟨rfl, rfl, rfl, rfl, rfl, rfl, rfl, rfl, rfl, rfl, hp, h⟩
    clear hq
    obtain ⟨I_2, ⟨n_21, h0⟩, hq⟩ := hp
    refine ⟨fun n_15 script0_5p script0_5l script0_5c l10_2p l10_2l l10_2c m11_3p m11_3l m11_3c i12_2 own13_1 k14 w => p_1 = script0_5p ∧ script.length = script0_5l ∧ c_1 = script0_5c ∧ p_15 = l10_2p ∧ rs.length = l10_2l ∧ c_7 = l10_2c ∧ p_16 = m11_3p ∧ rs_1.length = m11_3l ∧ c_8 = m11_3c ∧ i12 = i12_2 ∧ I_2 n_15 own13_1 k14 ∧ Mem (cel b_1 58 [(Value.slice p_6 own_1.length c_4), (Value.map (some b_2)), (Value.map (some b_3))] :: row enc34 34 2 p_6 c_4 own_1 :: mapQ b_2 va34 va3 p_7 m_1 :: mapQ b_3 va36 va3 p_8 m_2 :: row enc36 36 4 p_15 c_7 rs :: row enc36 36 4 p_16 c_8 rs_1 :: FL) w, ⟨n_21, rfl, rfl, rfl, rfl, rfl, rfl, rfl, rfl, rfl, rfl, h0, h⟩, ?_⟩
    clear h0 h
    rintro n_15 script0_5p script0_5l script0_5c l10_2p l10_2l l10_2c m11_3p m11_3l m11_3c i12_2 own13_1 k14 w ⟨rfl, rfl, rfl, rfl, rfl, rfl, rfl, rfl, rfl, rfl, hp, h⟩
    replace hp := hq n_15 own13_1 k14 hp
    clear hq
    unfold embrasurelaw21_AdvertOver_l9
    obtain ⟨Q_4, hq, hp⟩ := hp
    refine ⟨fun script0_6p script0_6l script0_6c l10_3p l10_3l l10_3c m11_4p m11_4l m11_4c i12_3 own13_2 k14_1 t90 w => p_1 = script0_6p ∧ script.length = script0_6l ∧ c_1 = script0_6c ∧ p_15 = l10_3p ∧ rs.length = l10_3l ∧ c_7 = l10_3c ∧ p_16 = m11_4p ∧ rs_1.length = m11_4l ∧ c_8 = m11_4c ∧ i12 = i12_3 ∧ own13_1 = own13_2 ∧ k14 = k14_1 ∧ Q_4 t90 ∧ Mem (cel b_1 58 [(Value.slice p_6 own_1.length c_4), (Value.map (some b_2)), (Value.map (some b_3))] :: row enc34 34 2 p_6 c_4 own_1 :: mapQ b_2 va34 va3 p_7 m_1 :: mapQ b_3 va36 va3 p_8 m_2 :: row enc36 36 4 p_15 c_7 rs :: row enc36 36 4 p_16 c_8 rs_1 :: FL) w, ?_, ?_⟩
    · rintro script0_6p script0_6l script0_6c l10_3p l10_3l l10_3c m11_4p m11_4l m11_4c i12_3 own13_2 k14_1 t90 w ⟨rfl, rfl, rfl, rfl, rfl, rfl, rfl, rfl, rfl, rfl, rfl, rfl, hp, h⟩
      replace hp := hq t90 hp
      unfold embrasurelaw21_AdvertOver_j10
      refine cond_both' hp (fun hp => ?_) (fun hp => ?_)
      · exact ⟨rfl, rfl, rfl, rfl, rfl, rfl, rfl, rfl, rfl, rfl, hp, h⟩
      obtain ⟨I_3, ⟨n_20, h0⟩, hq⟩ := hp
      refine ⟨fun n_16 script0_7p script0_7l script0_7c l10_4p l10_4l l10_4c m11_5p m11_5l m11_5c i12_4 own13_3 k14_2 j15 w => p_1 = script0_7p ∧ script.length = script0_7l ∧ c_1 = script0_7c ∧ p_15 = l10_4p ∧ rs.length = l10_4l ∧ c_7 = l10_4c ∧ p_16 = m11_5p ∧ rs_1.length = m11_5l ∧ c_8 = m11_5c ∧ i12 = i12_4 ∧ k14 = k14_2 ∧ I_3 n_16 own13_3 j15 ∧ Mem (cel b_1 58 [(Value.slice p_6 own_1.length c_4), (Value.map (some b_2)), (Value.map (some b_3))] :: row enc34 34 2 p_6 c_4 own_1 :: mapQ b_2 va34 va3 p_7 m_1 :: mapQ b_3 va36 va3 p_8 m_2 :: row enc36 36 4 p_15 c_7 rs :: row enc36 36 4 p_16 c_8 rs_1 :: FL) w, ⟨n_20, rfl, rfl, rfl, rfl, rfl, rfl, rfl, rfl, rfl, rfl, rfl, h0, h⟩, ?_⟩
      clear h0 h
      rintro n_16 script0_7p script0_7l script0_7c l10_4p l10_4l l10_4c m11_5p m11_5l m11_5c i12_4 own13_3 k14_2 j15 w ⟨rfl, rfl, rfl, rfl, rfl, rfl, rfl, rfl, rfl, rfl, rfl, hp, h⟩
      replace hp := hq n_16 own13_3 j15 hp
      clear hq
      unfold embrasurelaw21_AdvertOver_l11
      obtain ⟨ia_2, ja_2, hp⟩ := hp
      obtain ⟨a_2, ha_2⟩ := rdAddrD (hF_script _ (h.drop 6)) rfl ia_2 ja_2
      refine ⟨a_2, ha_2, ia_2, ja_2, ?_⟩
      obtain ⟨x_2, hx_2, cs, hR, hc0, hc1, hc2⟩ := rdCellD (hF_script _ (h.drop 6)) ha_2 rfl ia_2 ja_2
      replace hp := hp x_2 hx_2
      obtain ⟨q_1p1, q_1n1, q_1c1, rfl, rfl, hc_q_1p1, hF_q_1p1⟩ := hR
      refine ⟨_, _, _, hc1 1 _ rfl, ?_⟩
      refine cond_both' hp (fun hp => ?_) (fun hp => ?_)
      · obtain ⟨n_19, hn, hp⟩ := hp
        exact ⟨n_19, hn, rfl, rfl, rfl, rfl, rfl, rfl, rfl, rfl, rfl, rfl, hp, h⟩
      replace h := h.drew
      refine cond_both hp (fun hp => ?_) (fun hp => ?_)
      · obtain ⟨n_17, hn, hp⟩ := hp
        exact ⟨n_17, hn, rfl, rfl, rfl, rfl, rfl, rfl, rfl, rfl, rfl, rfl, rfl, hp, h⟩
      obtain ⟨ia_3, ja_3, hp⟩ := hp
      obtain ⟨a_3, ha_3⟩ := rdAddrD (hF_script _ (h.drop 6)) rfl ia_3 ja_3
      refine ⟨a_3, ha_3, ia_3, ja_3, ?_⟩
      obtain ⟨x_3, hx_3, cs, hR, hc0, hc1, hc2⟩ := rdCellD (hF_script _ (h.drop 6)) ha_3 rfl ia_3 ja_3
      replace hp := hp x_3 hx_3
      obtain ⟨q_2p1, q_2n1, q_2c1, rfl, rfl, hc_q_2p1, hF_q_2p1⟩ := hR
      refine ⟨_, _, _, hc1 1 _ rfl, ?_⟩
      obtain ⟨ia_4, ja_4, hp⟩ := hp
      obtain ⟨a_4, ha_4⟩ := rdAddr (hF_q_2p1 _ (h.drop 6)) rfl ia_4 ja_4
      refine ⟨a_4, ha_4, ia_4, ja_4, ?_⟩
      obtain ⟨x_4, hx_4, hc⟩ := rdCell (hF_q_2p1 _ (h.drop 6)) ha_4 rfl ia_4 ja_4
      replace hp := hp x_4 hx_4
      refine ⟨_, hc 0 _ rfl, _, hc 1 _ rfl, ?_⟩
      obtain ⟨ia_5, ja_5, hp⟩ := hp
      obtain ⟨a_5, ha_5⟩ := rdAddr (rowRd h 4 encL36 rfl) rfl ia_5 ja_5
      refine ⟨a_5, ha_5, ia_5, ja_5, ?_⟩
      obtain ⟨x_5, hx_5, hc⟩ := rdCell2 (rowRd h 4 encL36 rfl) ha_5 rfl ia_5 ja_5
      replace hp := hp x_5 hx_5
      refine ⟨_, hc 0 0 _ rfl, _, hc 0 1 _ rfl, ?_⟩
      refine eqlAgg (xs := [(Value.int .u32 x_4.1), (Value.int .i64 x_4.2)]) (ys := [(Value.int .u32 x_5.1), (Value.int .i64 x_5.2.1)]) eqG34 eqA34 (eqT34 x_4.1 x_4.2 x_5.1 x_5.2.1) ?_
      refine ⟨_, rfl, ?_⟩
      refine ⟨rfl, ?_⟩
      obtain ⟨n_18, hn, hp⟩ := hp
      exact ⟨n_18, hn, rfl, rfl, rfl, rfl, rfl, rfl, rfl, rfl, rfl, rfl, rfl, hp, h⟩
    clear hq
    refine cond_both hp (fun hp => ?_) (fun hp => ?_)
    · exact ⟨rfl, rfl, rfl, rfl, rfl, rfl, rfl, rfl, rfl, rfl, rfl, rfl, hp, h⟩
    exact ⟨rfl, rfl, rfl, rfl, rfl, rfl, rfl, rfl, rfl, rfl, rfl, rfl, hp, h⟩
  clear hq
  obtain ⟨I, ⟨n_11, h0⟩, hq⟩ := hp
  refine ⟨fun n_6 script0_1p script0_1l script0_1c seen1_1p seen1_1l seen1_1c now2_1 a7_1 i8 w => ∃ (own_2 : List (Int × Int)), ∃ (p_9 : Option Addr), ∃ (n_5 : Nat), ∃ (c_5 : Nat), ∃ (m_3 : List ((Int × Int) × Int)), ∃ (p_10 : List MapEntry × Nat), ∃ (m_4 : List ((Int × Int × Int × Bool) × Int)), ∃ (p_11 : List MapEntry × Nat), p_1 = script0_1p ∧ script.length = script0_1l ∧ c_1 = script0_1c ∧ p_2 = seen1_1p ∧ seen.length = seen1_1l ∧ c_2 = seen1_1c ∧ now = now2_1 ∧ (some (Addr.mk b_1 0 none)) = a7_1 ∧ n_5 = own_2.length ∧ I n_6 own_2 i8 m_3 m_4 ∧ Mem (cel b_1 58 [(Value.slice p_9 n_5 c_5), (Value.map (some b_2)), (Value.map (some b_3))] :: row enc34 34 2 p_9 c_5 own_2 :: mapQ b_2 va34 va3 p_10 m_3 :: mapQ b_3 va36 va3 p_11 m_4 :: FL) w, ⟨n_11, own, p_3, own.length, c_3, mapped, p_4, relays, p_5, rfl, rfl, rfl, rfl, rfl, rfl, rfl, rfl, rfl, h0, h⟩, ?_⟩
  clear h0 h
  rintro n_6 script0_1p script0_1l script0_1c seen1_1p seen1_1l seen1_1c now2_1 a7_1 i8 w ⟨own_2, p_9, n_5, c_5, m_3, p_10, m_4, p_11, rfl, rfl, rfl, rfl, rfl, rfl, rfl, rfl, rfl, hp, h⟩
  replace hp := hq n_6 own_2 i8 m_3 m_4 hp
  clear hq
  unfold embrasurelaw21_AdvertOver_l12
  have cpp_9 := rowCap h 1 rfl
  obtain ⟨Q_1, hq, hp⟩ := hp
  refine ⟨fun script0_2p script0_2l script0_2c seen1_2p seen1_2l seen1_2c now2_2 a7_2 i8_1 t31 w => p_1 = script0_2p ∧ script.length = script0_2l ∧ c_1 = script0_2c ∧ p_2 = seen1_2p ∧ seen.length = seen1_2l ∧ c_2 = seen1_2c ∧ now = now2_2 ∧ (some (Addr.mk b_1 0 none)) = a7_2 ∧ i8 = i8_1 ∧ Q_1 t31 ∧ Mem (cel b_1 58 [(Value.slice p_9 own_2.length c_5), (Value.map (some b_2)), (Value.map (some b_3))] :: row enc34 34 2 p_9 c_5 own_2 :: mapQ b_2 va34 va3 p_10 m_3 :: mapQ b_3 va36 va3 p_11 m_4 :: FL) w, ?_, ?_⟩
  · rintro script0_2p script0_2l script0_2c seen1_2p seen1_2l seen1_2c now2_2 a7_2 i8_1 t31 w ⟨rfl, rfl, rfl, rfl, rfl, rfl, rfl, rfl, rfl, hp, h⟩
    replace hp := hq t31 hp
    unfold embrasurelaw21_AdvertOver_j13
    refine cond_both' hp (fun hp => ?_) (fun hp => ?_)
    · exact ⟨own_2, p_9, own_2.length, c_5, m_3, p_10, m_4, p_11, rfl, rfl, rfl, rfl, rfl, rfl, rfl, rfl, rfl, hp, h⟩
    obtain ⟨ia_1, ja_1, hp⟩ := hp
    obtain ⟨a_1, ha_1⟩ := rdAddrD (hF_script _ (h.drop 4)) rfl ia_1 ja_1
    refine ⟨a_1, ha_1, ia_1, ja_1, ?_⟩
    obtain ⟨x_1, hx_1, cs, hR, hc0, hc1, hc2⟩ := rdCellD (hF_script _ (h.drop 4)) ha_1 rfl ia_1 ja_1
    replace hp := hp x_1 hx_1
    obtain ⟨qp1, qn1, qc1, rfl, rfl, hc_qp1, hF_qp1⟩ := hR
    refine ⟨_, hc1 0 _ rfl, _, _, _, hc1 1 _ rfl, _, hc1 2 _ rfl, _, hc1 3 _ rfl, _, hc1 4 _ rfl, _, hc1 5 _ rfl, _, hc1 6 _ rfl, ?_⟩
    refine newL (o := [(Value.int .i64 0), (Value.slice none 0 0), (Value.int .u32 0), (Value.int .i64 0), (Value.int .i64 0), (Value.bool false), (Value.int .i64 0)]) h ?_
    intro b_4 w h
    refine storeL (ys := [(Value.int .i64 x_1.1), (Value.slice qp1 x_1.2.1.length qc1), (Value.int .u32 x_1.2.2.1), (Value.int .i64 x_1.2.2.2.1), (Value.int .i64 x_1.2.2.2.2.1), (Value.bool x_1.2.2.2.2.2.1), (Value.int .i64 x_1.2.2.2.2.2.2)]) h 0 0 rfl rfl rfl sz38 rfl rfl ?_
    intro w h
    dsimp only [setH, setVs, setV] at h
    refine ⟨_, _, _, cellL h 0 1 rfl rfl rfl, ?_⟩
    refine cond_both hp (fun hp => ?_) (fun hp => ?_)
    · replace h := h.sel [] 5
      dsimp only [pickL, pickR, nthH, delH, dropH, List.cons_append, List.nil_append] at h
      exact hR true _ h hp
    refine ⟨_, cellL h 0 0 rfl rfl rfl, ?_⟩
    refine cond_both hp (fun hp => ?_) (fun hp => ?_)
    · refine ⟨_, cellL h 0 2 rfl rfl rfl, _, cellL h 0 3 rfl rfl rfl, ?_⟩
      refine ⟨_, cellL h 0 6 rfl rfl rfl, ?_⟩
      replace h := h.pick [1, 2]
      dsimp only [pickL, pickR, nthH, delH, dropH, List.cons_append, List.nil_append] at h
      have hMr_mk3 := romOf (h.drop 2) 2 rfl
      refine advert_Advert_Mapped_ok (FL := cel b_4 38 [(Value.int .i64 x_1.1), (Value.slice qp1 x_1.2.1.length qc1), (Value.int .u32 x_1.2.2.1), (Value.int .i64 x_1.2.2.2.1), (Value.int .i64 x_1.2.2.2.2.1), (Value.bool x_1.2.2.2.2.2.1), (Value.int .i64 x_1.2.2.2.2.2.2)] :: row enc34 34 2 p_9 c_5 own_2 :: mapQ b_3 va36 va3 p_11 m_4 :: FL) hMr_mk3 h hp ?_
      intro r_1 m_5 p_12 w h hp
      refine ⟨_, rfl, ?_⟩
      replace h := h.sel [0, 2, 0, 1] 1
      dsimp only [pickL, pickR, nthH, delH, dropH, List.cons_append, List.nil_append] at h
      obtain ⟨n_7, hn, hp⟩ := hp
      exact ⟨n_7, hn, own_2, p_9, own_2.length, c_5, m_5, p_12, m_4, p_11, rfl, rfl, rfl, rfl, rfl, rfl, rfl, rfl, rfl, hp, h⟩
    refine ⟨_, cellL h 0 0 rfl rfl rfl, ?_⟩
    refine cond_both hp (fun hp => ?_) (fun hp => ?_)
    · refine ⟨_, cellL h 0 2 rfl rfl rfl, _, cellL h 0 3 rfl rfl rfl, _, cellL h 0 4 rfl rfl rfl, _, cellL h 0 5 rfl rfl rfl, ?_⟩
      refine ⟨_, cellL h 0 6 rfl rfl rfl, ?_⟩
      replace h := h.pick [1, 3]
      dsimp only [pickL, pickR, nthH, delH, dropH, List.cons_append, List.nil_append] at h
      have hMr_mk2 := romOf (h.drop 2) 2 rfl
      refine advert_Advert_Relay_ok (FL := cel b_4 38 [(Value.int .i64 x_1.1), (Value.slice qp1 x_1.2.1.length qc1), (Value.int .u32 x_1.2.2.1), (Value.int .i64 x_1.2.2.2.1), (Value.int .i64 x_1.2.2.2.2.1), (Value.bool x_1.2.2.2.2.2.1), (Value.int .i64 x_1.2.2.2.2.2.2)] :: row enc34 34 2 p_9 c_5 own_2 :: mapQ b_2 va34 va3 p_10 m_3 :: FL) hMr_mk2 h hp ?_
      intro r_2 m_6 p_13 w h hp
      refine ⟨_, rfl, ?_⟩
      replace h := h.sel [0, 2, 2, 0] 1
      dsimp only [pickL, pickR, nthH, delH, dropH, List.cons_append, List.nil_append] at h
      obtain ⟨n_8, hn, hp⟩ := hp
      exact ⟨n_8, hn, own_2, p_9, own_2.length, c_5, m_3, p_10, m_6, p_13, rfl, rfl, rfl, rfl, rfl, rfl, rfl, rfl, rfl, hp, h⟩
    refine ⟨_, _, _, cellL h 0 1 rfl rfl rfl, ?_⟩
    replace h := h.pick [1, 1]
    dsimp only [pickL, pickR, nthH, delH, dropH, List.cons_append, List.nil_append] at h
    have hMr_mk2 := romOf (h.drop 2) 1 rfl
    have hMr_mk3 := romOf (h.drop 2) 2 rfl
    refine advert_Advert_Own_ok (FL := cel b_4 38 [(Value.int .i64 x_1.1), (Value.slice qp1 x_1.2.1.length qc1), (Value.int .u32 x_1.2.2.1), (Value.int .i64 x_1.2.2.2.1), (Value.int .i64 x_1.2.2.2.2.1), (Value.bool x_1.2.2.2.2.2.1), (Value.int .i64 x_1.2.2.2.2.2.2)] :: mapQ b_2 va34 va3 p_10 m_3 :: mapQ b_3 va36 va3 p_11 m_4 :: FL) (fun w h => (hF_qp1 _ (h.drop 3))) rfl hc_qp1 hMr_mk2 hMr_mk3 h hp ?_
    rintro r_3 own_3 p_14 n_9 c_6 w rfl h hp
    have cpp_14 := rowCap h 1 rfl
    refine ⟨_, rfl, ?_⟩
    replace h := h.sel [0, 0, 1, 1] 1
    dsimp only [pickL, pickR, nthH, delH, dropH, List.cons_append, List.nil_append] at h
    obtain ⟨n_10, hn, hp⟩ := hp
    exact ⟨n_10, hn, own_3, p_14, own_3.length, c_6, m_3, p_10, m_4, p_11, rfl, rfl, rfl, rfl, rfl, rfl, rfl, rfl, rfl, hp, h⟩
  clear hq
  refine cond_both hp (fun hp => ?_) (fun hp => ?_)
  · exact ⟨rfl, rfl, rfl, rfl, rfl, rfl, rfl, rfl, rfl, hp, h⟩
  exact ⟨rfl, rfl, rfl, rfl, rfl, rfl, rfl, rfl, rfl, hp, h⟩

/-! embrasure/embrasurelaw21.has (22) -/
def embrasurelaw21_has_wp (l_1 : List (Int × Int)) (a_Host : Int) (a_Port : Int) (K : Bool → Prop) : Prop :=
  ∃ (I : Nat → Int → Prop), (∃ (n_4 : Nat), I n_4 0) ∧ ∀ (n_2 : Nat) (i5 : Int), I n_2 i5 → (cond (decide ((i5 : Int) < ((l_1.length : Nat) : Int))) (0 ≤ (i5 : Int) ∧ (i5 : Int) < ((l_1.length : Nat) : Int) ∧ (∀ (x_1 : Int × Int), l_1[Int.toNat i5]? = some x_1 → (cond (((x_1.1 : Int) == a_Host) && (((x_1.2 : Int) == a_Port) && true)) (K true) (∃ (n_3 : Nat), n_3 < n_2 ∧ I n_3 (IntKind.wrap .i64 (i5 + 1)))))) (K false))
theorem embrasurelaw21_has_ok {p_1 : Option Addr} {n_1 : Nat} {c_1 : Nat} {l_1 : List (Int × Int)} {a_Host : Int} {a_Port : Int} {FL : List HP} {w : World} {K : Bool → Prop} {R : Value → World → Prop}
  (hF_l_1 : ∀ w, Mem FL w → Rd w 2 p_1 enc34 l_1) (hl_l_1 : n_1 = l_1.length) (hc_l_1 : n_1 ≤ c_1)
  (h : Mem (FL) w) (hp : embrasurelaw21_has_wp l_1 a_Host a_Port K)
  (hR : ∀ (r : Bool) (w : World), Mem (FL) w → K r → R (Value.bool r) w) :
  CallV Try.prog 22 #[(Value.slice p_1 n_1 c_1), (Value.agg #[(Value.int .u32 a_Host), (Value.int .i64 a_Port)])] w R := by
  refine embrasurelaw21_has_call ?_
  unfold embrasurelaw21_has
  unfold embrasurelaw21_has_wp at hp
  subst hl_l_1
  refine newL (o := [(Value.int .u32 a_Host), (Value.int .i64 a_Port)]) h ?_
  intro b_1 w h
  obtain ⟨I, ⟨n_4, h0⟩, hq⟩ := hp
  refine ⟨fun n_2 l0p l0l l0c a3 i5 w => p_1 = l0p ∧ l_1.length = l0l ∧ c_1 = l0c ∧ (Addr.mk b_1 0 none) = a3 ∧ I n_2 i5 ∧ Mem (cel b_1 34 [(Value.int .u32 a_Host), (Value.int .i64 a_Port)] :: FL) w, ⟨n_4, rfl, rfl, rfl, rfl, h0, h⟩, ?_⟩
  clear h0 h
  rintro n_2 l0p l0l l0c a3 i5 w ⟨rfl, rfl, rfl, rfl, hp, h⟩
  replace hp := hq n_2 i5 hp
  clear hq
  unfold embrasurelaw21_has_l1
  refine cond_both' hp (fun hp => ?_) (fun hp => ?_)
  · replace h := h.sel [] 1
    dsimp only [pickL, pickR, nthH, delH, dropH, List.cons_append, List.nil_append] at h
    exact hR false _ h hp
  replace h := h.drew
  obtain ⟨ia_1, ja_1, hp⟩ := hp
  obtain ⟨a_1, ha_1⟩ := rdAddr (hF_l_1 _ (h.drop 1)) rfl ia_1 ja_1
  refine ⟨a_1, ha_1, ia_1, ja_1, ?_⟩
  obtain ⟨x_1, hx_1, hc⟩ := rdCell (hF_l_1 _ (h.drop 1)) ha_1 rfl ia_1 ja_1
  replace hp := hp x_1 hx_1
  refine ⟨_, hc 0 _ rfl, _, hc 1 _ rfl, ?_⟩
  refine ⟨_, cellL h 0 0 rfl rfl rfl, _, cellL h 0 1 rfl rfl rfl, ?_⟩
  refine eqlAgg (xs := [(Value.int .u32 x_1.1), (Value.int .i64 x_1.2)]) (ys := [(Value.int .u32 a_Host), (Value.int .i64 a_Port)]) eqG34 eqA34 (eqT34 x_1.1 x_1.2 a_Host a_Port) ?_
  refine ⟨_, rfl, ?_⟩
  refine ⟨rfl, ?_⟩
  refine cond_both' hp (fun hp => ?_) (fun hp => ?_)
  · obtain ⟨n_3, hn, hp⟩ := hp
    exact ⟨n_3, hn, rfl, rfl, rfl, rfl, hp, h⟩
  replace h := h.sel [] 1
  dsimp only [pickL, pickR, nthH, delH, dropH, List.cons_append, List.nil_append] at h
  exact hR true _ h hp

/-! embrasure/embrasurelaw21.AdvertKinds (6) -/
def embrasurelaw21_AdvertKinds_wp (own : List (Int × Int)) (seen : List (Int × Int)) (now : Int) (K : Bool → Prop) : Prop :=
  embrasurelaw21_awake_wp (fun (r : Bool) => cond (!r) (K false) (advert_New_wp (fun (own_1 : List (Int × Int)) (mapped : List ((Int × Int) × Int)) (relays : List ((Int × Int × Int × Bool) × Int)) => joinP1 (fun (t30 : Bool) => cond t30 (K (true)) (joinP0 (joinP1 (fun (t59 : Bool) => cond t59 (K true) (joinP4 (fun (own_3 : List (Int × Int)) (t75 : Bool) (m_1 : List ((Int × Int) × Int)) (m_2 : List ((Int × Int × Int × Bool) × Int)) => cond t75 (K false) (advert_Advert_Told_wp own_3 m_1 m_2 (IntKind.wrap .i64 now) seen true (fun (rs : List (Int × Int × Int × Bool)) => ∃ (I_1 : Nat → Int → Int → Prop), (∃ (n_18 : Nat), I_1 n_18 0 0) ∧ ∀ (n_11 : Nat) (last12 : Int) (i13 : Int), I_1 n_11 last12 i13 → (cond (decide ((i13 : Int) < ((rs.length : Nat) : Int))) (joinP1 (fun (kind14 : Int) => joinP1 (fun (kind14_2 : Int) => joinP1 (fun (kind14_3 : Int) => joinP1 (fun (t148 : Bool) => cond t148 (K false) (∃ (n_17 : Nat), n_17 < n_11 ∧ I_1 n_17 kind14_3 (IntKind.wrap .i64 (i13 + 1)))) (fun (Q_7 : Bool → Prop) => cond (decide ((kind14_3 : Int) < last12)) (Q_7 true) (cond ((kind14_3 : Int) == 2) (cond (decide (((IntKind.wrap .i64 now) : Int) ≥ 100)) (Q_7 true) (cond ((kind14_3 : Int) == 4) (Q_7 (decide (((IntKind.wrap .i64 now) : Int) ≥ 200))) (Q_7 false))) (cond ((kind14_3 : Int) == 4) (Q_7 (decide (((IntKind.wrap .i64 now) : Int) ≥ 200))) (Q_7 false))))) (fun (Q_6 : Int → Prop) => 0 ≤ (i13 : Int) ∧ (i13 : Int) < ((rs.length : Nat) : Int) ∧ (∀ (x_6 : Int × Int × Int × Bool), rs[Int.toNat i13]? = some x_6 → (cond (x_6.2.2.2) (Q_6 4) (Q_6 kind14_2))))) (fun (Q_5 : Int → Prop) => cond ((kind14 : Int) == 3) (0 ≤ (i13 : Int) ∧ (i13 : Int) < ((rs.length : Nat) : Int) ∧ (∀ (x_5 : Int × Int × Int × Bool), rs[Int.toNat i13]? = some x_5 → (cond (((x_5.1 : Int) == 3355443201) && (((x_5.2.1 : Int) == 9) && true)) (Q_5 2) (Q_5 kind14)))) (Q_5 kind14))) (fun (Q_4 : Int → Prop) => ∃ (I_2 : Nat → Int → Int → Prop), (∃ (n_16 : Nat), I_2 n_16 3 0) ∧ ∀ (n_12 : Nat) (kind14_1 : Int) (k15 : Int), I_2 n_12 kind14_1 k15 → (cond (decide ((k15 : Int) < ((own.length : Nat) : Int))) (0 ≤ (k15 : Int) ∧ (k15 : Int) < ((own.length : Nat) : Int) ∧ (∀ (x_2 : Int × Int), own[Int.toNat k15]? = some x_2 → (0 ≤ (i13 : Int) ∧ (i13 : Int) < ((rs.length : Nat) : Int) ∧ (∀ (x_3 : Int × Int × Int × Bool), rs[Int.toNat i13]? = some x_3 → (cond (((x_2.1 : Int) == x_3.1) && (((x_2.2 : Int) == x_3.2.1) && true)) (0 ≤ (k15 : Int) ∧ (k15 : Int) < ((own.length : Nat) : Int) ∧ (∀ (x_4 : Int × Int), own[Int.toNat k15]? = some x_4 → (advert_Inside_wp x_4.1 (fun (r_8 : Bool) => cond (!r_8) (∃ (n_13 : Nat), n_13 < n_12 ∧ I_2 n_13 1 (IntKind.wrap .i64 (k15 + 1))) (∃ (n_14 : Nat), n_14 < n_12 ∧ I_2 n_14 kind14_1 (IntKind.wrap .i64 (k15 + 1))))))) (∃ (n_15 : Nat), n_15 < n_12 ∧ I_2 n_15 kind14_1 (IntKind.wrap .i64 (k15 + 1)))))))) (Q_4 kind14_1)))) (K true))))) (fun (Q_3 : List (Int × Int) → Bool → List ((Int × Int) × Int) → List ((Int × Int × Int × Bool) × Int) → Prop) => advert_Advert_Own_wp own_1 mapped relays own (fun (r_5 : Int) (own_4 : List (Int × Int)) => cond ((r_5 : Int) != 0) (Q_3 own_4 true mapped relays) (advert_Advert_Mapped_wp mapped relays 3355443201 9 100 (fun (r_6 : Int) (m_3 : List ((Int × Int) × Int)) => cond ((r_6 : Int) != 0) (Q_3 own_4 true m_3 relays) (advert_Advert_Relay_wp m_3 relays 3372220417 9 3 (false) 200 (fun (r_7 : Int) (m_4 : List ((Int × Int × Int × Bool) × Int)) => Q_3 own_4 ((r_7 : Int) != 0) m_3 m_4)))))))) (fun (Q_2 : Bool → Prop) => embrasurelaw21_has_wp seen 3355443201 9 (fun (r_3 : Bool) => cond r_3 (Q_2 true) (embrasurelaw21_has_wp own 3355443201 9 (fun (r_4 : Bool) => Q_2 r_4))))) (fun (Q_1 : Prop) => ∃ (I : Nat → Int → Prop), (∃ (n_7 : Nat), I n_7 0) ∧ ∀ (n_4 : Nat) (i8 : Int), I n_4 i8 → (cond (decide ((i8 : Int) < ((own.length : Nat) : Int))) (0 ≤ (i8 : Int) ∧ (i8 : Int) < ((own.length : Nat) : Int) ∧ (∀ (x_1 : Int × Int), own[Int.toNat i8]? = some x_1 → (embrasureref03_May_wp x_1.1 x_1.2 (fun (r_1 : Bool) => cond (!r_1) (advert_Advert_Own_wp own_1 mapped relays own (fun (r_2 : Int) (own_2 : List (Int × Int)) => K ((r_2 : Int) == 1))) (∃ (n_6 : Nat), n_6 < n_4 ∧ I n_6 (IntKind.wrap .i64 (i8 + 1))))))) (Q_1 ))))) (fun (Q : Bool → Prop) => cond (decide ((((own.length : Nat) : Int) : Int) > 8)) (Q true) (Q (decide ((((seen.length : Nat) : Int) : Int) > 8)))))))
theorem embrasurelaw21_AdvertKinds_ok {p_1 : Option Addr} {n_1 : Nat} {c_1 : Nat} {p_2 : Option Addr} {n_2 : Nat} {c_2 : Nat} {own : List (Int × Int)} {seen : List (Int × Int)} {now : Int} {FL : List HP} {w : World} {K : Bool → Prop} {R : Value → World → Prop}
  (hF_own : ∀ w, Mem FL w → Rd w 2 p_1 enc34 own) (hl_own : n_1 = own.length) (hc_own : n_1 ≤ c_1)
  (hF_seen : ∀ w, Mem FL w → Rd w 2 p_2 enc34 seen) (hl_seen : n_2 = seen.length) (hc_seen : n_2 ≤ c_2)
  (h : Mem (FL) w) (hp : embrasurelaw21_AdvertKinds_wp own seen now K)
  (hR : ∀ (r : Bool) (w : World), Mem (FL) w → K r → R (Value.bool r) w) :
  CallV Try.prog 6 #[(Value.slice p_1 n_1 c_1), (Value.slice p_2 n_2 c_2), (Value.int .u8 now)] w R := by
  refine embrasurelaw21_AdvertKinds_call ?_
  unfold embrasurelaw21_AdvertKinds
  unfold embrasurelaw21_AdvertKinds_wp at hp
  subst hl_own
  subst hl_seen
  refine embrasurelaw21_awake_ok h hp ?_
  intro r w h hp
  refine ⟨_, rfl, ?_⟩
  refine cond_both hp (fun hp => ?_) (fun hp => ?_)
  · exact hR false _ h hp
  refine advert_New_ok h hp ?_
  rintro own_1 mapped relays b_1 p_3 n_3 c_3 b_2 p_4 b_3 p_5 w rfl h hp
  have cpp_3 := rowCap h 1 rfl
  refine ⟨_, rfl, ?_⟩
  obtain ⟨Q, hq, hp⟩ := hp
  refine ⟨fun own0p own0l own0c seen1p seen1l seen1c now2 a7 t30 w => p_1 = own0p ∧ own.length = own0l ∧ c_1 = own0c ∧ p_2 = seen1p ∧ seen.length = seen1l ∧ c_2 = seen1c ∧ now = now2 ∧ (some (Addr.mk b_1 0 none)) = a7 ∧ Q t30 ∧ Mem (cel b_1 58 [(Value.slice p_3 own_1.length c_3), (Value.map (some b_2)), (Value.map (some b_3))] :: row enc34 34 2 p_3 c_3 own_1 :: mapQ b_2 va34 va3 p_4 mapped :: mapQ b_3 va36 va3 p_5 relays :: FL) w, ?_, ?_⟩
  · rintro own0p own0l own0c seen1p seen1l seen1c now2 a7 t30 w ⟨rfl, rfl, rfl, rfl, rfl, rfl, rfl, rfl, hp, h⟩
    replace hp := hq t30 hp
    unfold embrasurelaw21_AdvertKinds_j1
    refine cond_both hp (fun hp => ?_) (fun hp => ?_)
    · refine neqPtrNil undP27 ?_
      refine ⟨_, rfl, ?_⟩
      replace h := h.sel [] 4
      dsimp only [pickL, pickR, nthH, delH, dropH, List.cons_append, List.nil_append] at h
      exact hR (true) _ h hp
    obtain ⟨Q_1, hq, hp⟩ := hp
    refine ⟨fun own0_1p own0_1l own0_1c seen1_1p seen1_1l seen1_1c now2_1 a7_1 w => p_1 = own0_1p ∧ own.length = own0_1l ∧ c_1 = own0_1c ∧ p_2 = seen1_1p ∧ seen.length = seen1_1l ∧ c_2 = seen1_1c ∧ now = now2_1 ∧ (some (Addr.mk b_1 0 none)) = a7_1 ∧ Q_1 ∧ Mem (cel b_1 58 [(Value.slice p_3 own_1.length c_3), (Value.map (some b_2)), (Value.map (some b_3))] :: row enc34 34 2 p_3 c_3 own_1 :: mapQ b_2 va34 va3 p_4 mapped :: mapQ b_3 va36 va3 p_5 relays :: FL) w, ?_, ?_⟩
    · rintro own0_1p own0_1l own0_1c seen1_1p seen1_1l seen1_1c now2_1 a7_1 w ⟨rfl, rfl, rfl, rfl, rfl, rfl, rfl, rfl, hp, h⟩
      replace hp := hq  hp
      unfold embrasurelaw21_AdvertKinds_j2
      refine newL (o := [(Value.int .u32 0), (Value.int .i64 0)]) h ?_
      intro b_4 w h
      refine storeL (ys := [(Value.int .u32 3355443201), (Value.int .i64 9)]) h 0 0 rfl rfl rfl sz34 rfl rfl ?_
      intro w h
      dsimp only [setH, setVs, setV] at h
      refine newL (o := [(Value.int .u32 0), (Value.int .i64 0), (Value.int .i64 0), (Value.bool false)]) h ?_
      intro b_5 w h
      refine storeL (ys := [(Value.int .u32 3372220417), (Value.int .i64 9), (Value.int .i64 3), (Value.bool false)]) h 0 0 rfl rfl rfl sz36 rfl rfl ?_
      intro w h
      dsimp only [setH, setVs, setV] at h
      obtain ⟨Q_2, hq, hp⟩ := hp
      refine ⟨fun own0_3p own0_3l own0_3c seen1_3p seen1_3l seen1_3c now2_3 a7_3 m9 p10 t59 w => p_1 = own0_3p ∧ own.length = own0_3l ∧ c_1 = own0_3c ∧ p_2 = seen1_3p ∧ seen.length = seen1_3l ∧ c_2 = seen1_3c ∧ now = now2_3 ∧ (some (Addr.mk b_1 0 none)) = a7_3 ∧ (Addr.mk b_4 0 none) = m9 ∧ (Addr.mk b_5 0 none) = p10 ∧ Q_2 t59 ∧ Mem (cel b_5 36 [(Value.int .u32 3372220417), (Value.int .i64 9), (Value.int .i64 3), (Value.bool false)] :: cel b_4 34 [(Value.int .u32 3355443201), (Value.int .i64 9)] :: cel b_1 58 [(Value.slice p_3 own_1.length c_3), (Value.map (some b_2)), (Value.map (some b_3))] :: row enc34 34 2 p_3 c_3 own_1 :: mapQ b_2 va34 va3 p_4 mapped :: mapQ b_3 va36 va3 p_5 relays :: FL) w, ?_, ?_⟩
      · rintro own0_3p own0_3l own0_3c seen1_3p seen1_3l seen1_3c now2_3 a7_3 m9 p10 t59 w ⟨rfl, rfl, rfl, rfl, rfl, rfl, rfl, rfl, rfl, rfl, hp, h⟩
        replace hp := hq t59 hp
        unfold embrasurelaw21_AdvertKinds_j3
        refine cond_both hp (fun hp => ?_) (fun hp => ?_)
        · replace h := h.sel [] 6
          dsimp only [pickL, pickR, nthH, delH, dropH, List.cons_append, List.nil_append] at h
          exact hR true _ h hp
        obtain ⟨Q_3, hq, hp⟩ := hp
        refine ⟨fun own0_4p own0_4l own0_4c seen1_4p seen1_4l seen1_4c now2_4 a7_4 m9_1 t75 w => ∃ (own_3 : List (Int × Int)), ∃ (p_7 : Option Addr), ∃ (n_8 : Nat), ∃ (c_5 : Nat), ∃ (m_1 : List ((Int × Int) × Int)), ∃ (p_8 : List MapEntry × Nat), ∃ (m_2 : List ((Int × Int × Int × Bool) × Int)), ∃ (p_9 : List MapEntry × Nat), p_1 = own0_4p ∧ own.length = own0_4l ∧ c_1 = own0_4c ∧ p_2 = seen1_4p ∧ seen.length = seen1_4l ∧ c_2 = seen1_4c ∧ now = now2_4 ∧ (some (Addr.mk b_1 0 none)) = a7_4 ∧ (Addr.mk b_4 0 none) = m9_1 ∧ n_8 = own_3.length ∧ Q_3 own_3 t75 m_1 m_2 ∧ Mem (cel b_5 36 [(Value.int .u32 3372220417), (Value.int .i64 9), (Value.int .i64 3), (Value.bool false)] :: cel b_4 34 [(Value.int .u32 3355443201), (Value.int .i64 9)] :: cel b_1 58 [(Value.slice p_7 n_8 c_5), (Value.map (some b_2)), (Value.map (some b_3))] :: row enc34 34 2 p_7 c_5 own_3 :: mapQ b_2 va34 va3 p_8 m_1 :: mapQ b_3 va36 va3 p_9 m_2 :: FL) w, ?_, ?_⟩
        · rintro own0_4p own0_4l own0_4c seen1_4p seen1_4l seen1_4c now2_4 a7_4 m9_1 t75 w ⟨own_3, p_7, n_8, c_5, m_1, p_8, m_2, p_9, rfl, rfl, rfl, rfl, rfl, rfl, rfl, rfl, rfl, rfl, hp, h⟩
          replace hp := hq own_3 t75 m_1 m_2 hp
          unfold embrasurelaw21_AdvertKinds_j4
          have cpp_7 := rowCap h 3 rfl
          refine cond_both hp (fun hp => ?_) (fun hp => ?_)
          · replace h := h.sel [] 6
            dsimp only [pickL, pickR, nthH, delH, dropH, List.cons_append, List.nil_append] at h
            exact hR false _ h hp
          replace h := h.pick [2, 2]
          dsimp only [pickL, pickR, nthH, delH, dropH, List.cons_append, List.nil_append] at h
          have hMr_mk2 := romOf (h.drop 2) 2 rfl
          have hMr_mk3 := romOf (h.drop 2) 3 rfl
          refine advert_Advert_Told_ok (FL := cel b_5 36 [(Value.int .u32 3372220417), (Value.int .i64 9), (Value.int .i64 3), (Value.bool false)] :: cel b_4 34 [(Value.int .u32 3355443201), (Value.int .i64 9)] :: mapQ b_2 va34 va3 p_8 m_1 :: mapQ b_3 va36 va3 p_9 m_2 :: FL) (fun w h => (hF_seen _ (h.drop 4))) rfl hc_seen hMr_mk2 hMr_mk3 h hp ?_
          rintro rs p_13 n_10 c_7 w rfl h hp
          have cpp_13 := rowCap h 0 rfl
          have cpp_7 := rowCap h 2 rfl
          refine ⟨_, _, _, rfl, ?_⟩
          obtain ⟨I_1, ⟨n_18, h0⟩, hq⟩ := hp
          replace h := h.sel [1, 1, 1, 1, 1, 1, 0] 0
          dsimp only [pickL, pickR, nthH, delH, dropH, List.cons_append, List.nil_append] at h
          refine ⟨fun n_11 own0_5p own0_5l own0_5c now2_5 m9_2 l11p l11l l11c last12 i13 w => p_1 = own0_5p ∧ own.length = own0_5l ∧ c_1 = own0_5c ∧ now = now2_5 ∧ (Addr.mk b_4 0 none) = m9_2 ∧ p_13 = l11p ∧ rs.length = l11l ∧ c_7 = l11c ∧ I_1 n_11 last12 i13 ∧ Mem (cel b_1 58 [(Value.slice p_7 own_3.length c_5), (Value.map (some b_2)), (Value.map (some b_3))] :: row enc34 34 2 p_7 c_5 own_3 :: cel b_5 36 [(Value.int .u32 3372220417), (Value.int .i64 9), (Value.int .i64 3), (Value.bool false)] :: cel b_4 34 [(Value.int .u32 3355443201), (Value.int .i64 9)] :: mapQ b_2 va34 va3 p_8 m_1 :: mapQ b_3 va36 va3 p_9 m_2 :: row enc36 36 4 p_13 c_7 rs :: FL) w, ⟨n_18, rfl, rfl, rfl, rfl, rfl, rfl, rfl, rfl, h0, h⟩, ?_⟩
          clear h0 h
          rintro n_11 own0_5p own0_5l own0_5c now2_5 m9_2 l11p l11l l11c last12 i13 w ⟨rfl, rfl, rfl, rfl, rfl, rfl, rfl, rfl, hp, h⟩
          replace hp := hq n_11 last12 i13 hp
          clear hq
          unfold embrasurelaw21_AdvertKinds_l5
          refine cond_both' hp (fun hp => ?_) (fun hp => ?_)
          · replace h := h.sel [] 7
            dsimp only [pickL, pickR, nthH, delH, dropH, List.cons_append, List.nil_append] at h
            exact hR true _ h hp
          obtain ⟨Q_4, hq, hp⟩ := hp
          refine ⟨fun own0_6p own0_6l own0_6c now2_6 m9_3 l11_1p l11_1l l11_1c last12_1 i13_1 kind14 w => p_1 = own0_6p ∧ own.length = own0_6l ∧ c_1 = own0_6c ∧ now = now2_6 ∧ (Addr.mk b_4 0 none) = m9_3 ∧ p_13 = l11_1p ∧ rs.length = l11_1l ∧ c_7 = l11_1c ∧ last12 = last12_1 ∧ i13 = i13_1 ∧ Q_4 kind14 ∧ Mem (cel b_1 58 [(Value.slice p_7 own_3.length c_5), (Value.map (some b_2)), (Value.map (some b_3))] :: row enc34 34 2 p_7 c_5 own_3 :: cel b_5 36 [(Value.int .u32 3372220417), (Value.int .i64 9), (Value.int .i64 3), (Value.bool false)] :: cel b_4 34 [(Value.int .u32 3355443201), (Value.int .i64 9)] :: mapQ b_2 va34 va3 p_8 m_1 :: mapQ b_3 va36 va3 p_9 m_2 :: row enc36 36 4 p_13 c_7 rs :: FL) w, ?_, ?_⟩
          · rintro own0_6p own0_6l own0_6c now2_6 m9_3 l11_1p l11_1l l11_1c last12_1 i13_1 kind14 w ⟨rfl, rfl, rfl, rfl, rfl, rfl, rfl, rfl, rfl, rfl, hp, h⟩
            replace hp := hq kind14 hp
            unfold embrasurelaw21_AdvertKinds_j6
            obtain ⟨Q_5, hq, hp⟩ := hp
            refine ⟨fun own0_8p own0_8l own0_8c now2_8 m9_5 l11_3p l11_3l l11_3c last12_3 i13_3 kind14_2 w => p_1 = own0_8p ∧ own.length = own0_8l ∧ c_1 = own0_8c ∧ now = now2_8 ∧ (Addr.mk b_4 0 none) = m9_5 ∧ p_13 = l11_3p ∧ rs.length = l11_3l ∧ c_7 = l11_3c ∧ last12 = last12_3 ∧ i13 = i13_3 ∧ Q_5 kind14_2 ∧ Mem (cel b_1 58 [(Value.slice p_7 own_3.length c_5), (Value.map (some b_2)), (Value.map (some b_3))] :: row enc34 34 2 p_7 c_5 own_3 :: cel b_5 36 [(Value.int .u32 3372220417), (Value.int .i64 9), (Value.int .i64 3), (Value.bool false)] :: cel b_4 34 [(Value.int .u32 3355443201), (Value.int .i64 9)] :: mapQ b_2 va34 va3 p_8 m_1 :: mapQ b_3 va36 va3 p_9 m_2 :: row enc36 36 4 p_13 c_7 rs :: FL) w, ?_, ?_⟩
            · rintro own0_8p own0_8l own0_8c now2_8 m9_5 l11_3p l11_3l l11_3c last12_3 i13_3 kind14_2 w ⟨rfl, rfl, rfl, rfl, rfl, rfl, rfl, rfl, rfl, rfl, hp, h⟩
              replace hp := hq kind14_2 hp
              unfold embrasurelaw21_AdvertKinds_j7
              obtain ⟨Q_6, hq, hp⟩ := hp
              refine ⟨fun own0_9p own0_9l own0_9c now2_9 m9_6 l11_4p l11_4l l11_4c last12_4 i13_4 kind14_3 w => p_1 = own0_9p ∧ own.length = own0_9l ∧ c_1 = own0_9c ∧ now = now2_9 ∧ (Addr.mk b_4 0 none) = m9_6 ∧ p_13 = l11_4p ∧ rs.length = l11_4l ∧ c_7 = l11_4c ∧ last12 = last12_4 ∧ i13 = i13_4 ∧ Q_6 kind14_3 ∧ Mem (cel b_1 58 [(Value.slice p_7 own_3.length c_5), (Value.map (some b_2)), (Value.map (some b_3))] :: row enc34 34 2 p_7 c_5 own_3 :: cel b_5 36 [(Value.int .u32 3372220417), (Value.int .i64 9), (Value.int .i64 3), (Value.bool false)] :: cel b_4 34 [(Value.int .u32 3355443201), (Value.int .i64 9)] :: mapQ b_2 va34 va3 p_8 m_1 :: mapQ b_3 va36 va3 p_9 m_2 :: row enc36 36 4 p_13 c_7 rs :: FL) w, ?_, ?_⟩
              · rintro own0_9p own0_9l own0_9c now2_9 m9_6 l11_4p l11_4l l11_4c last12_4 i13_4 kind14_3 w ⟨rfl, rfl, rfl, rfl, rfl, rfl, rfl, rfl, rfl, rfl, hp, h⟩
                replace hp := hq kind14_3 hp
                unfold embrasurelaw21_AdvertKinds_j8
                obtain ⟨Q_7, hq, hp⟩ := hp
                refine ⟨fun own0_10p own0_10l own0_10c now2_10 m9_7 l11_5p l11_5l l11_5c i13_5 kind14_4 t148 w => p_1 = own0_10p ∧ own.length = own0_10l ∧ c_1 = own0_10c ∧ now = now2_10 ∧ (Addr.mk b_4 0 none) = m9_7 ∧ p_13 = l11_5p ∧ rs.length = l11_5l ∧ c_7 = l11_5c ∧ i13 = i13_5 ∧ kind14_3 = kind14_4 ∧ Q_7 t148 ∧ Mem (cel b_1 58 [(Value.slice p_7 own_3.length c_5), (Value.map (some b_2)), (Value.map (some b_3))] :: row enc34 34 2 p_7 c_5 own_3 :: cel b_5 36 [(Value.int .u32 3372220417), (Value.int .i64 9), (Value.int .i64 3), (Value.bool false)] :: cel b_4 34 [(Value.int .u32 3355443201), (Value.int .i64 9)] :: mapQ b_2 va34 va3 p_8 m_1 :: mapQ b_3 va36 va3 p_9 m_2 :: row enc36 36 4 p_13 c_7 rs :: FL) w, ?_, ?_⟩
                · rintro own0_10p own0_10l own0_10c now2_10 m9_7 l11_5p l11_5l l11_5c i13_5 kind14_4 t148 w ⟨rfl, rfl, rfl, rfl, rfl, rfl, rfl, rfl, rfl, rfl, hp, h⟩
                  replace hp := hq t148 hp
                  unfold embrasurelaw21_AdvertKinds_j9
                  refine cond_both' hp (fun hp => ?_) (fun hp => ?_)
                  · obtain ⟨n_17, hn, hp⟩ := hp
                    exact ⟨n_17, hn, rfl, rfl, rfl, rfl, rfl, rfl, rfl, rfl, hp, h⟩
                  replace h := h.sel [] 7
                  dsimp only [pickL, pickR, nthH, delH, dropH, List.cons_append, List.nil_append] at h
                  exact hR false _ h hp
                clear hq
                refine cond_both hp (fun hp => ?_) (fun hp => ?_)
                · exact ⟨rfl, rfl, rfl, rfl, rfl, rfl, rfl, rfl, rfl, rfl, hp, h⟩
                refine cond_both' hp (fun hp => ?_) (fun hp => ?_)
                · refine cond_both hp (fun hp => ?_) (fun hp => ?_)
                  · exact ⟨rfl, rfl, rfl, rfl, rfl, rfl, rfl, rfl, rfl, rfl, hp, h⟩
                  exact ⟨rfl, rfl, rfl, rfl, rfl, rfl, rfl, rfl, rfl, rfl, hp, h⟩
                refine cond_both hp (fun hp => ?_) (fun hp => ?_)
                · exact ⟨rfl, rfl, rfl, rfl, rfl, rfl, rfl, rfl, rfl, rfl, hp, h⟩
                refine cond_both hp (fun hp => ?_) (fun hp => ?_)
                · exact ⟨rfl, rfl, rfl, rfl, rfl, rfl, rfl, rfl, rfl, rfl, hp, h⟩
                exact ⟨rfl, rfl, rfl, rfl, rfl, rfl, rfl, rfl, rfl, rfl, hp, h⟩
              clear hq
              obtain ⟨ia_6, ja_6, hp⟩ := hp
              obtain ⟨a_6, ha_6⟩ := rdAddr (rowRd h 6 encL36 rfl) rfl ia_6 ja_6
              refine ⟨a_6, ha_6, ia_6, ja_6, ?_⟩
              obtain ⟨x_6, hx_6, hc⟩ := rdCell (rowRd h 6 encL36 rfl) ha_6 rfl ia_6 ja_6
              replace hp := hp x_6 hx_6
              refine ⟨_, hc 3 _ rfl, ?_⟩
              refine cond_both hp (fun hp => ?_) (fun hp => ?_)
              · exact ⟨rfl, rfl, rfl, rfl, rfl, rfl, rfl, rfl, rfl, rfl, hp, h⟩
              exact ⟨rfl, rfl, rfl, rfl, rfl, rfl, rfl, rfl, rfl, rfl, hp, h⟩
            clear hq
            replace h := h.drew
            refine cond_both' hp (fun hp => ?_) (fun hp => ?_)
            · exact ⟨rfl, rfl, rfl, rfl, rfl, rfl, rfl, rfl, rfl, rfl, hp, h⟩
            obtain ⟨ia_5, ja_5, hp⟩ := hp
            obtain ⟨a_5, ha_5⟩ := rdAddr (rowRd h 6 encL36 rfl) rfl ia_5 ja_5
            refine ⟨a_5, ha_5, ia_5, ja_5, ?_⟩
            obtain ⟨x_5, hx_5, hc⟩ := rdCell2 (rowRd h 6 encL36 rfl) ha_5 rfl ia_5 ja_5
            replace hp := hp x_5 hx_5
            refine ⟨_, hc 0 0 _ rfl, _, hc 0 1 _ rfl, ?_⟩
            refine ⟨_, cellL h 3 0 rfl rfl rfl, _, cellL h 3 1 rfl rfl rfl, ?_⟩
            refine eqlAgg (xs := [(Value.int .u32 x_5.1), (Value.int .i64 x_5.2.1)]) (ys := [(Value.int .u32 3355443201), (Value.int .i64 9)]) eqG34 eqA34 (eqT34 x_5.1 x_5.2.1 3355443201 9) ?_
            refine ⟨_, rfl, ?_⟩
            refine ⟨rfl, ?_⟩
            refine cond_both hp (fun hp => ?_) (fun hp => ?_)
            · exact ⟨rfl, rfl, rfl, rfl, rfl, rfl, rfl, rfl, rfl, rfl, hp, h⟩
            exact ⟨rfl, rfl, rfl, rfl, rfl, rfl, rfl, rfl, rfl, rfl, hp, h⟩
          clear hq
          obtain ⟨I_2, ⟨n_16, h0⟩, hq⟩ := hp
          refine ⟨fun n_12 own0_7p own0_7l own0_7c now2_7 m9_4 l11_2p l11_2l l11_2c last12_2 i13_2 kind14_1 k15 w => p_1 = own0_7p ∧ own.length = own0_7l ∧ c_1 = own0_7c ∧ now = now2_7 ∧ (Addr.mk b_4 0 none) = m9_4 ∧ p_13 = l11_2p ∧ rs.length = l11_2l ∧ c_7 = l11_2c ∧ last12 = last12_2 ∧ i13 = i13_2 ∧ I_2 n_12 kind14_1 k15 ∧ Mem (cel b_1 58 [(Value.slice p_7 own_3.length c_5), (Value.map (some b_2)), (Value.map (some b_3))] :: row enc34 34 2 p_7 c_5 own_3 :: cel b_5 36 [(Value.int .u32 3372220417), (Value.int .i64 9), (Value.int .i64 3), (Value.bool false)] :: cel b_4 34 [(Value.int .u32 3355443201), (Value.int .i64 9)] :: mapQ b_2 va34 va3 p_8 m_1 :: mapQ b_3 va36 va3 p_9 m_2 :: row enc36 36 4 p_13 c_7 rs :: FL) w, ⟨n_16, rfl, rfl, rfl, rfl, rfl, rfl, rfl, rfl, rfl, rfl, h0, h⟩, ?_⟩
          clear h0 h
          rintro n_12 own0_7p own0_7l own0_7c now2_7 m9_4 l11_2p l11_2l l11_2c last12_2 i13_2 kind14_1 k15 w ⟨rfl, rfl, rfl, rfl, rfl, rfl, rfl, rfl, rfl, rfl, hp, h⟩
          replace hp := hq n_12 kind14_1 k15 hp
          clear hq
          unfold embrasurelaw21_AdvertKinds_l10
          refine cond_both' hp (fun hp => ?_) (fun hp => ?_)
          · exact ⟨rfl, rfl, rfl, rfl, rfl, rfl, rfl, rfl, rfl, rfl, hp, h⟩
          replace h := h.drew
          obtain ⟨ia_2, ja_2, hp⟩ := hp
          obtain ⟨a_2, ha_2⟩ := rdAddr (hF_own _ (h.drop 7)) rfl ia_2 ja_2
          refine ⟨a_2, ha_2, ia_2, ja_2, ?_⟩
          obtain ⟨x_2, hx_2, hc⟩ := rdCell (hF_own _ (h.drop 7)) ha_2 rfl ia_2 ja_2
          replace hp := hp x_2 hx_2
          refine ⟨_, hc 0 _ rfl, _, hc 1 _ rfl, ?_⟩
          obtain ⟨ia_3, ja_3, hp⟩ := hp
          obtain ⟨a_3, ha_3⟩ := rdAddr (rowRd h 6 encL36 rfl) rfl ia_3 ja_3
          refine ⟨a_3, ha_3, ia_3, ja_3, ?_⟩
          obtain ⟨x_3, hx_3, hc⟩ := rdCell2 (rowRd h 6 encL36 rfl) ha_3 rfl ia_3 ja_3
          replace hp := hp x_3 hx_3
          refine ⟨_, hc 0 0 _ rfl, _, hc 0 1 _ rfl, ?_⟩
          refine eqlAgg (xs := [(Value.int .u32 x_2.1), (Value.int .i64 x_2.2)]) (ys := [(Value.int .u32 x_3.1), (Value.int .i64 x_3.2.1)]) eqG34 eqA34 (eqT34 x_2.1 x_2.2 x_3.1 x_3.2.1) ?_
          refine ⟨_, rfl, ?_⟩
          refine ⟨rfl, ?_⟩
          refine cond_both' hp (fun hp => ?_) (fun hp => ?_)
          · obtain ⟨n_15, hn, hp⟩ := hp
            exact ⟨n_15, hn, rfl, rfl, rfl, rfl, rfl, rfl, rfl, rfl, rfl, rfl, hp, h⟩
          obtain ⟨ia_4, ja_4, hp⟩ := hp
          obtain ⟨a_4, ha_4⟩ := rdAddr (hF_own _ (h.drop 7)) rfl ia_4 ja_4
          refine ⟨a_4, ha_4, ia_4, ja_4, ?_⟩
          obtain ⟨x_4, hx_4, hc⟩ := rdCell (hF_own _ (h.drop 7)) ha_4 rfl ia_4 ja_4
          replace hp := hp x_4 hx_4
          refine ⟨_, hc 0 _ rfl, ?_⟩
          refine advert_Inside_ok h hp ?_
          intro r_8 w h hp
          refine ⟨_, rfl, ?_⟩
          refine cond_both hp (fun hp => ?_) (fun hp => ?_)
          · obtain ⟨n_13, hn, hp⟩ := hp
            exact ⟨n_13, hn, rfl, rfl, rfl, rfl, rfl, rfl, rfl, rfl, rfl, rfl, hp, h⟩
          obtain ⟨n_14, hn, hp⟩ := hp
          exact ⟨n_14, hn, rfl, rfl, rfl, rfl, rfl, rfl, rfl, rfl, rfl, rfl, hp, h⟩
        clear hq
        replace h := h.pick [2, 2]
        dsimp only [pickL, pickR, nthH, delH, dropH, List.cons_append, List.nil_append] at h
        have hMr_mk2 := romOf (h.drop 2) 2 rfl
        have hMr_mk3 := romOf (h.drop 2) 3 rfl
        refine advert_Advert_Own_ok (FL := cel b_5 36 [(Value.int .u32 3372220417), (Value.int .i64 9), (Value.int .i64 3), (Value.bool false)] :: cel b_4 34 [(Value.int .u32 3355443201), (Value.int .i64 9)] :: mapQ b_2 va34 va3 p_4 mapped :: mapQ b_3 va36 va3 p_5 relays :: FL) (fun w h => (hF_own _ (h.drop 4))) rfl hc_own hMr_mk2 hMr_mk3 h hp ?_
        rintro r_5 own_4 p_10 n_9 c_6 w rfl h hp
        have cpp_10 := rowCap h 1 rfl
        refine ⟨_, rfl, ?_⟩
        refine cond_both hp (fun hp => ?_) (fun hp => ?_)
        · replace h := h.sel [2, 2, 0, 0, 0, 0] 0
          dsimp only [pickL, pickR, nthH, delH, dropH, List.cons_append, List.nil_append] at h
          exact ⟨own_4, p_10, own_4.length, c_6, mapped, p_4, relays, p_5, rfl, rfl, rfl, rfl, rfl, rfl, rfl, rfl, rfl, rfl, hp, h⟩
        refine ⟨_, cellL h 3 0 rfl rfl rfl, _, cellL h 3 1 rfl rfl rfl, ?_⟩
        replace h := h.pick [0, 3]
        dsimp only [pickL, pickR, nthH, delH, dropH, List.cons_append, List.nil_append] at h
        have hMr_mk3 := romOf (h.drop 2) 3 rfl
        refine advert_Advert_Mapped_ok (FL := row enc34 34 2 p_10 c_6 own_4 :: cel b_5 36 [(Value.int .u32 3372220417), (Value.int .i64 9), (Value.int .i64 3), (Value.bool false)] :: cel b_4 34 [(Value.int .u32 3355443201), (Value.int .i64 9)] :: mapQ b_3 va36 va3 p_5 relays :: FL) hMr_mk3 h hp ?_
        intro r_6 m_3 p_11 w h hp
        refine ⟨_, rfl, ?_⟩
        refine cond_both hp (fun hp => ?_) (fun hp => ?_)
        · replace h := h.sel [3, 3, 0, 1, 0, 0] 0
          dsimp only [pickL, pickR, nthH, delH, dropH, List.cons_append, List.nil_append] at h
          exact ⟨own_4, p_10, own_4.length, c_6, m_3, p_11, relays, p_5, rfl, rfl, rfl, rfl, rfl, rfl, rfl, rfl, rfl, rfl, hp, h⟩
        refine ⟨_, cellL h 3 0 rfl rfl rfl, _, cellL h 3 1 rfl rfl rfl, _, cellL h 3 2 rfl rfl rfl, _, cellL h 3 3 rfl rfl rfl, ?_⟩
        replace h := h.pick [0, 4]
        dsimp only [pickL, pickR, nthH, delH, dropH, List.cons_append, List.nil_append] at h
        have hMr_mk2 := romOf (h.drop 2) 0 rfl
        refine advert_Advert_Relay_ok (FL := mapQ b_2 va34 va3 p_11 m_3 :: row enc34 34 2 p_10 c_6 own_4 :: cel b_5 36 [(Value.int .u32 3372220417), (Value.int .i64 9), (Value.int .i64 3), (Value.bool false)] :: cel b_4 34 [(Value.int .u32 3355443201), (Value.int .i64 9)] :: FL) hMr_mk2 h hp ?_
        intro r_7 m_4 p_12 w h hp
        refine ⟨_, rfl, ?_⟩
        replace h := h.sel [4, 4, 0, 2, 1, 0] 0
        dsimp only [pickL, pickR, nthH, delH, dropH, List.cons_append, List.nil_append] at h
        exact ⟨own_4, p_10, own_4.length, c_6, m_3, p_11, m_4, p_12, rfl, rfl, rfl, rfl, rfl, rfl, rfl, rfl, rfl, rfl, hp, h⟩
      clear hq
      refine ⟨_, cellL h 1 0 rfl rfl rfl, _, cellL h 1 1 rfl rfl rfl, ?_⟩
      refine embrasurelaw21_has_ok (FL := cel b_5 36 [(Value.int .u32 3372220417), (Value.int .i64 9), (Value.int .i64 3), (Value.bool false)] :: cel b_4 34 [(Value.int .u32 3355443201), (Value.int .i64 9)] :: cel b_1 58 [(Value.slice p_3 own_1.length c_3), (Value.map (some b_2)), (Value.map (some b_3))] :: row enc34 34 2 p_3 c_3 own_1 :: mapQ b_2 va34 va3 p_4 mapped :: mapQ b_3 va36 va3 p_5 relays :: FL) (fun w h => (hF_seen _ (h.drop 6))) rfl hc_seen h hp ?_
      intro r_3 w h hp
      refine ⟨_, rfl, ?_⟩
      refine cond_both hp (fun hp => ?_) (fun hp => ?_)
      · exact ⟨rfl, rfl, rfl, rfl, rfl, rfl, rfl, rfl, rfl, rfl, hp, h⟩
      refine ⟨_, cellL h 1 0 rfl rfl rfl, _, cellL h 1 1 rfl rfl rfl, ?_⟩
      refine embrasurelaw21_has_ok (FL := cel b_5 36 [(Value.int .u32 3372220417), (Value.int .i64 9), (Value.int .i64 3), (Value.bool false)] :: cel b_4 34 [(Value.int .u32 3355443201), (Value.int .i64 9)] :: cel b_1 58 [(Value.slice p_3 own_1.length c_3), (Value.map (some b_2)), (Value.map (some b_3))] :: row enc34 34 2 p_3 c_3 own_1 :: mapQ b_2 va34 va3 p_4 mapped :: mapQ b_3 va36 va3 p_5 relays :: FL) (fun w h => (hF_own _ (h.drop 6))) rfl hc_own h hp ?_
      intro r_4 w h hp
      refine ⟨_, rfl, ?_⟩
      exact ⟨rfl, rfl, rfl, rfl, rfl, rfl, rfl, rfl, rfl, rfl, hp, h⟩
    clear hq
    obtain ⟨I, ⟨n_7, h0⟩, hq⟩ := hp
    refine ⟨fun n_4 own0_2p own0_2l own0_2c seen1_2p seen1_2l seen1_2c now2_2 a7_2 i8 w => p_1 = own0_2p ∧ own.length = own0_2l ∧ c_1 = own0_2c ∧ p_2 = seen1_2p ∧ seen.length = seen1_2l ∧ c_2 = seen1_2c ∧ now = now2_2 ∧ (some (Addr.mk b_1 0 none)) = a7_2 ∧ I n_4 i8 ∧ Mem (cel b_1 58 [(Value.slice p_3 own_1.length c_3), (Value.map (some b_2)), (Value.map (some b_3))] :: row enc34 34 2 p_3 c_3 own_1 :: mapQ b_2 va34 va3 p_4 mapped :: mapQ b_3 va36 va3 p_5 relays :: FL) w, ⟨n_7, rfl, rfl, rfl, rfl, rfl, rfl, rfl, rfl, h0, h⟩, ?_⟩
    clear h0 h
    rintro n_4 own0_2p own0_2l own0_2c seen1_2p seen1_2l seen1_2c now2_2 a7_2 i8 w ⟨rfl, rfl, rfl, rfl, rfl, rfl, rfl, rfl, hp, h⟩
    replace hp := hq n_4 i8 hp
    clear hq
    unfold embrasurelaw21_AdvertKinds_l11
    refine cond_both' hp (fun hp => ?_) (fun hp => ?_)
    · exact ⟨rfl, rfl, rfl, rfl, rfl, rfl, rfl, rfl, hp, h⟩
    obtain ⟨ia_1, ja_1, hp⟩ := hp
    obtain ⟨a_1, ha_1⟩ := rdAddr (hF_own _ (h.drop 4)) rfl ia_1 ja_1
    refine ⟨a_1, ha_1, ia_1, ja_1, ?_⟩
    obtain ⟨x_1, hx_1, hc⟩ := rdCell (hF_own _ (h.drop 4)) ha_1 rfl ia_1 ja_1
    replace hp := hp x_1 hx_1
    refine ⟨_, hc 0 _ rfl, _, hc 1 _ rfl, ?_⟩
    refine embrasureref03_May_ok h hp ?_
    intro r_1 w h hp
    refine ⟨_, rfl, ?_⟩
    refine cond_both' hp (fun hp => ?_) (fun hp => ?_)
    · obtain ⟨n_6, hn, hp⟩ := hp
      exact ⟨n_6, hn, rfl, rfl, rfl, rfl, rfl, rfl, rfl, rfl, hp, h⟩
    have hMr_mk2 := romOf (h.drop 2) 0 rfl
    have hMr_mk3 := romOf (h.drop 2) 1 rfl
    refine advert_Advert_Own_ok (FL := mapQ b_2 va34 va3 p_4 mapped :: mapQ b_3 va36 va3 p_5 relays :: FL) (fun w h => (hF_own _ (h.drop 2))) rfl hc_own hMr_mk2 hMr_mk3 h hp ?_
    rintro r_2 own_2 p_6 n_5 c_4 w rfl h hp
    have cpp_6 := rowCap h 1 rfl
    refine ⟨_, rfl, ?_⟩
    replace h := h.sel [] 4
    dsimp only [pickL, pickR, nthH, delH, dropH, List.cons_append, List.nil_append] at h
    exact hR ((r_2 : Int) == 1) _ h hp
  clear hq
  refine eqlPtrNil undP27 ?_
  refine ⟨_, rfl, ?_⟩
  refine cond_ff ?_
  refine cond_both hp (fun hp => ?_) (fun hp => ?_)
  · exact ⟨rfl, rfl, rfl, rfl, rfl, rfl, rfl, rfl, hp, h⟩
  exact ⟨rfl, rfl, rfl, rfl, rfl, rfl, rfl, rfl, hp, h⟩

/-! embrasure/embrasurelaw21.AdvertFull (7) -/
def embrasurelaw21_AdvertFull_wp (n_1 : Int) (gone : Int) (K : Bool → Prop) : Prop :=
  embrasurelaw21_awake_wp (fun (r : Bool) => cond (!r) (K false) (advert_New_wp (fun (own : List (Int × Int)) (mapped : List ((Int × Int) × Int)) (relays : List ((Int × Int × Int × Bool) × Int)) => joinP2 (fun (m_1 : List ((Int × Int) × Int)) (m_2 : List ((Int × Int × Int × Bool) × Int)) => cond (decide (((Int.tmod (IntKind.wrap .i64 n_1) 30) : Int) < 20)) (K true) (advert_Advert_Mapped_wp m_1 m_2 7 7 50 (fun (r_4 : Int) (m_9 : List ((Int × Int) × Int)) => advert_Advert_Mapped_wp m_9 m_2 (IntKind.wrap .u32 (100 + (Int.tmod (IntKind.wrap .u32 gone) 20))) 1 0 (fun (r_5 : Int) (m_10 : List ((Int × Int) × Int)) => cond ((r_4 : Int) == 10) (cond ((r_5 : Int) == 0) (advert_Advert_Mapped_wp m_10 m_2 7 7 50 (fun (r_6 : Int) (m_11 : List ((Int × Int) × Int)) => cond ((r_6 : Int) == 0) (advert_Advert_Mapped_wp m_11 m_2 (IntKind.wrap .u32 (100 + (Int.tmod (IntKind.wrap .u32 gone) 20))) 1 50 (fun (r_7 : Int) (m_12 : List ((Int × Int) × Int)) => K ((r_7 : Int) == 10))) (K false))) (K false)) (K false))))) (fun (Q : List ((Int × Int) × Int) → List ((Int × Int × Int × Bool) × Int) → Prop) => ∃ (I : Nat → Int → List ((Int × Int) × Int) → List ((Int × Int × Int × Bool) × Int) → Prop), (∃ (n_5 : Nat), I n_5 0 mapped relays) ∧ ∀ (n_3 : Nat) (i7 : Int) (m_3 : List ((Int × Int) × Int)) (m_4 : List ((Int × Int × Int × Bool) × Int)), I n_3 i7 m_3 m_4 → (cond (decide ((i7 : Int) < (Int.tmod (IntKind.wrap .i64 n_1) 30))) (advert_Advert_Mapped_wp m_3 m_4 (IntKind.wrap .u32 (IntKind.wrap .i64 (100 + i7))) 1 50 (fun (r_1 : Int) (m_5 : List ((Int × Int) × Int)) => advert_Advert_Relay_wp m_5 m_4 (IntKind.wrap .u32 (IntKind.wrap .i64 (100 + i7))) 1 2 false 50 (fun (r_2 : Int) (m_6 : List ((Int × Int × Int × Bool) × Int)) => joinP0 (joinP2 (fun (t64 : Bool) (m_7 : List ((Int × Int) × Int)) => cond t64 (K false) (∃ (n_4 : Nat), n_4 < n_3 ∧ I n_4 (IntKind.wrap .i64 (i7 + 1)) m_7 m_6)) (fun (Q_3 : Bool → List ((Int × Int) × Int) → Prop) => cond (decide ((i7 : Int) < 20)) (advert_Advert_Mapped_wp m_5 m_6 (IntKind.wrap .u32 (IntKind.wrap .i64 (100 + i7))) 1 60 (fun (r_3 : Int) (m_8 : List ((Int × Int) × Int)) => Q_3 ((r_3 : Int) != 0) m_8)) (Q_3 false m_5))) (fun (Q_1 : Prop) => joinP1 (fun (t56 : Bool) => cond t56 (K false) (Q_1 )) (fun (Q_2 : Bool → Prop) => cond (!(((r_1 : Int) == 0) == (decide ((i7 : Int) < 20)))) (Q_2 true) (cond ((r_1 : Int) != r_2) (Q_2 true) (cond ((r_1 : Int) != 0) (Q_2 ((r_1 : Int) != 10)) (Q_2 false)))))))) (Q m_3 m_4))))))
theorem embrasurelaw21_AdvertFull_ok {n_1 : Int} {gone : Int} {FL : List HP} {w : World} {K : Bool → Prop} {R : Value → World → Prop}
  (h : Mem (FL) w) (hp : embrasurelaw21_AdvertFull_wp n_1 gone K)
  (hR : ∀ (r : Bool) (w : World), Mem (FL) w → K r → R (Value.bool r) w) :
  CallV Try.prog 7 #[(Value.int .u8 n_1), (Value.int .u8 gone)] w R := by
  refine embrasurelaw21_AdvertFull_call ?_
  unfold embrasurelaw21_AdvertFull
  unfold embrasurelaw21_AdvertFull_wp at hp
  refine embrasurelaw21_awake_ok h hp ?_
  intro r w h hp
  refine ⟨_, rfl, ?_⟩
  refine cond_both hp (fun hp => ?_) (fun hp => ?_)
  · exact hR false _ h hp
  refine advert_New_ok h hp ?_
  rintro own mapped relays b_1 p_1 n_2 c_1 b_2 p_2 b_3 p_3 w rfl h hp
  have cpp_1 := rowCap h 1 rfl
  refine ⟨_, rfl, ?_⟩
  refine eqlPtrNil undP27 ?_
  refine ⟨_, rfl, ?_⟩
  refine cond_ff ?_
  refine ⟨by decide, ?_⟩
  obtain ⟨Q, hq, hp⟩ := hp
  refine ⟨fun gone1 a5 k6 w => ∃ (m_1 : List ((Int × Int) × Int)), ∃ (p_4 : List MapEntry × Nat), ∃ (m_2 : List ((Int × Int × Int × Bool) × Int)), ∃ (p_5 : List MapEntry × Nat), gone = gone1 ∧ (some (Addr.mk b_1 0 none)) = a5 ∧ (Int.tmod (IntKind.wrap .i64 n_1) 30) = k6 ∧ Q m_1 m_2 ∧ Mem (cel b_1 58 [(Value.slice p_1 own.length c_1), (Value.map (some b_2)), (Value.map (some b_3))] :: row enc34 34 2 p_1 c_1 own :: mapQ b_2 va34 va3 p_4 m_1 :: mapQ b_3 va36 va3 p_5 m_2 :: FL) w, ?_, ?_⟩
  · rintro gone1 a5 k6 w ⟨m_1, p_4, m_2, p_5, rfl, rfl, rfl, hp, h⟩
    replace hp := hq m_1 m_2 hp
    unfold embrasurelaw21_AdvertFull_j1
    refine cond_both hp (fun hp => ?_) (fun hp => ?_)
    · replace h := h.sel [] 4
      dsimp only [pickL, pickR, nthH, delH, dropH, List.cons_append, List.nil_append] at h
      exact hR true _ h hp
    refine ⟨by decide, ?_⟩
    refine newL (o := [(Value.int .u32 0), (Value.int .i64 0)]) h ?_
    intro b_5 w h
    refine storeL (ys := [(Value.int .u32 7), (Value.int .i64 7)]) h 0 0 rfl rfl rfl sz34 rfl rfl ?_
    intro w h
    dsimp only [setH, setVs, setV] at h
    refine ⟨_, cellL h 0 0 rfl rfl rfl, _, cellL h 0 1 rfl rfl rfl, ?_⟩
    replace h := h.pick [1, 2]
    dsimp only [pickL, pickR, nthH, delH, dropH, List.cons_append, List.nil_append] at h
    have hMr_mk3 := romOf (h.drop 2) 2 rfl
    refine advert_Advert_Mapped_ok (FL := cel b_5 34 [(Value.int .u32 7), (Value.int .i64 7)] :: row enc34 34 2 p_1 c_1 own :: mapQ b_3 va36 va3 p_5 m_2 :: FL) hMr_mk3 h hp ?_
    intro r_4 m_9 p_12 w h hp
    refine ⟨_, rfl, ?_⟩
    have hMr_mk3 := romOf (h.drop 2) 2 rfl
    refine advert_Advert_Mapped_ok (FL := cel b_5 34 [(Value.int .u32 7), (Value.int .i64 7)] :: row enc34 34 2 p_1 c_1 own :: mapQ b_3 va36 va3 p_5 m_2 :: FL) hMr_mk3 h hp ?_
    intro r_5 m_10 p_13 w h hp
    refine ⟨_, rfl, ?_⟩
    refine cond_both' hp (fun hp => ?_) (fun hp => ?_)
    · replace h := h.sel [] 5
      dsimp only [pickL, pickR, nthH, delH, dropH, List.cons_append, List.nil_append] at h
      exact hR false _ h hp
    refine cond_both' hp (fun hp => ?_) (fun hp => ?_)
    · replace h := h.sel [] 5
      dsimp only [pickL, pickR, nthH, delH, dropH, List.cons_append, List.nil_append] at h
      exact hR false _ h hp
    refine ⟨_, cellL h 2 0 rfl rfl rfl, _, cellL h 2 1 rfl rfl rfl, ?_⟩
    have hMr_mk3 := romOf (h.drop 2) 2 rfl
    refine advert_Advert_Mapped_ok (FL := cel b_5 34 [(Value.int .u32 7), (Value.int .i64 7)] :: row enc34 34 2 p_1 c_1 own :: mapQ b_3 va36 va3 p_5 m_2 :: FL) hMr_mk3 h hp ?_
    intro r_6 m_11 p_14 w h hp
    refine ⟨_, rfl, ?_⟩
    refine cond_both' hp (fun hp => ?_) (fun hp => ?_)
    · replace h := h.sel [] 5
      dsimp only [pickL, pickR, nthH, delH, dropH, List.cons_append, List.nil_append] at h
      exact hR false _ h hp
    have hMr_mk3 := romOf (h.drop 2) 2 rfl
    refine advert_Advert_Mapped_ok (FL := cel b_5 34 [(Value.int .u32 7), (Value.int .i64 7)] :: row enc34 34 2 p_1 c_1 own :: mapQ b_3 va36 va3 p_5 m_2 :: FL) hMr_mk3 h hp ?_
    intro r_7 m_12 p_15 w h hp
    refine ⟨_, rfl, ?_⟩
    replace h := h.sel [] 5
    dsimp only [pickL, pickR, nthH, delH, dropH, List.cons_append, List.nil_append] at h
    exact hR ((r_7 : Int) == 10) _ h hp
  clear hq
  obtain ⟨I, ⟨n_5, h0⟩, hq⟩ := hp
  refine ⟨fun n_3 gone1_1 a5_1 k6_1 i7 w => ∃ (m_3 : List ((Int × Int) × Int)), ∃ (p_6 : List MapEntry × Nat), ∃ (m_4 : List ((Int × Int × Int × Bool) × Int)), ∃ (p_7 : List MapEntry × Nat), gone = gone1_1 ∧ (some (Addr.mk b_1 0 none)) = a5_1 ∧ (Int.tmod (IntKind.wrap .i64 n_1) 30) = k6_1 ∧ I n_3 i7 m_3 m_4 ∧ Mem (cel b_1 58 [(Value.slice p_1 own.length c_1), (Value.map (some b_2)), (Value.map (some b_3))] :: row enc34 34 2 p_1 c_1 own :: mapQ b_2 va34 va3 p_6 m_3 :: mapQ b_3 va36 va3 p_7 m_4 :: FL) w, ⟨n_5, mapped, p_2, relays, p_3, rfl, rfl, rfl, h0, h⟩, ?_⟩
  clear h0 h
  rintro n_3 gone1_1 a5_1 k6_1 i7 w ⟨m_3, p_6, m_4, p_7, rfl, rfl, rfl, hp, h⟩
  replace hp := hq n_3 i7 m_3 m_4 hp
  clear hq
  unfold embrasurelaw21_AdvertFull_l2
  refine cond_both' hp (fun hp => ?_) (fun hp => ?_)
  · exact ⟨m_3, p_6, m_4, p_7, rfl, rfl, rfl, hp, h⟩
  refine newL (o := [(Value.int .u32 0), (Value.int .i64 0)]) h ?_
  intro b_4 w h
  refine storeL (ys := [(Value.int .u32 (IntKind.wrap .u32 (IntKind.wrap .i64 (100 + i7)))), (Value.int .i64 1)]) h 0 0 rfl rfl rfl sz34 rfl rfl ?_
  intro w h
  dsimp only [setH, setVs, setV] at h
  refine ⟨_, cellL h 0 0 rfl rfl rfl, _, cellL h 0 1 rfl rfl rfl, ?_⟩
  replace h := h.pick [1, 2]
  dsimp only [pickL, pickR, nthH, delH, dropH, List.cons_append, List.nil_append] at h
  have hMr_mk3 := romOf (h.drop 2) 2 rfl
  refine advert_Advert_Mapped_ok (FL := cel b_4 34 [(Value.int .u32 (IntKind.wrap .u32 (IntKind.wrap .i64 (100 + i7)))), (Value.int .i64 1)] :: row enc34 34 2 p_1 c_1 own :: mapQ b_3 va36 va3 p_7 m_4 :: FL) hMr_mk3 h hp ?_
  intro r_1 m_5 p_8 w h hp
  refine ⟨_, rfl, ?_⟩
  refine ⟨_, cellL h 2 0 rfl rfl rfl, _, cellL h 2 1 rfl rfl rfl, ?_⟩
  replace h := h.pick [0, 3]
  dsimp only [pickL, pickR, nthH, delH, dropH, List.cons_append, List.nil_append] at h
  have hMr_mk2 := romOf (h.drop 2) 0 rfl
  refine advert_Advert_Relay_ok (FL := mapQ b_2 va34 va3 p_8 m_5 :: cel b_4 34 [(Value.int .u32 (IntKind.wrap .u32 (IntKind.wrap .i64 (100 + i7)))), (Value.int .i64 1)] :: row enc34 34 2 p_1 c_1 own :: FL) hMr_mk2 h hp ?_
  intro r_2 m_6 p_9 w h hp
  refine ⟨_, rfl, ?_⟩
  obtain ⟨Q_1, hq, hp⟩ := hp
  refine ⟨fun gone1_2 a5_2 k6_2 i7_1 x8 w => gone = gone1_2 ∧ (some (Addr.mk b_1 0 none)) = a5_2 ∧ (Int.tmod (IntKind.wrap .i64 n_1) 30) = k6_2 ∧ i7 = i7_1 ∧ (Addr.mk b_4 0 none) = x8 ∧ Q_1 ∧ Mem (cel b_1 58 [(Value.slice p_1 own.length c_1), (Value.map (some b_2)), (Value.map (some b_3))] :: row enc34 34 2 p_1 c_1 own :: cel b_4 34 [(Value.int .u32 (IntKind.wrap .u32 (IntKind.wrap .i64 (100 + i7)))), (Value.int .i64 1)] :: mapQ b_3 va36 va3 p_9 m_6 :: mapQ b_2 va34 va3 p_8 m_5 :: FL) w, ?_, ?_⟩
  · rintro gone1_2 a5_2 k6_2 i7_1 x8 w ⟨rfl, rfl, rfl, rfl, rfl, hp, h⟩
    replace hp := hq  hp
    unfold embrasurelaw21_AdvertFull_j3
    obtain ⟨Q_3, hq, hp⟩ := hp
    refine ⟨fun gone1_4 a5_4 k6_4 i7_3 t64 w => ∃ (m_7 : List ((Int × Int) × Int)), ∃ (p_10 : List MapEntry × Nat), gone = gone1_4 ∧ (some (Addr.mk b_1 0 none)) = a5_4 ∧ (Int.tmod (IntKind.wrap .i64 n_1) 30) = k6_4 ∧ i7 = i7_3 ∧ Q_3 t64 m_7 ∧ Mem (cel b_1 58 [(Value.slice p_1 own.length c_1), (Value.map (some b_2)), (Value.map (some b_3))] :: row enc34 34 2 p_1 c_1 own :: cel b_4 34 [(Value.int .u32 (IntKind.wrap .u32 (IntKind.wrap .i64 (100 + i7)))), (Value.int .i64 1)] :: mapQ b_3 va36 va3 p_9 m_6 :: mapQ b_2 va34 va3 p_10 m_7 :: FL) w, ?_, ?_⟩
    · rintro gone1_4 a5_4 k6_4 i7_3 t64 w ⟨m_7, p_10, rfl, rfl, rfl, rfl, hp, h⟩
      replace hp := hq t64 m_7 hp
      unfold embrasurelaw21_AdvertFull_j4
      refine cond_both hp (fun hp => ?_) (fun hp => ?_)
      · replace h := h.sel [] 5
        dsimp only [pickL, pickR, nthH, delH, dropH, List.cons_append, List.nil_append] at h
        exact hR false _ h hp
      replace h := h.sel [0, 0, 2, 1] 1
      dsimp only [pickL, pickR, nthH, delH, dropH, List.cons_append, List.nil_append] at h
      obtain ⟨n_4, hn, hp⟩ := hp
      exact ⟨n_4, hn, m_7, p_10, m_6, p_9, rfl, rfl, rfl, hp, h⟩
    clear hq
    refine cond_both' hp (fun hp => ?_) (fun hp => ?_)
    · exact ⟨m_5, p_8, rfl, rfl, rfl, rfl, hp, h⟩
    refine ⟨_, cellL h 2 0 rfl rfl rfl, _, cellL h 2 1 rfl rfl rfl, ?_⟩
    replace h := h.pick [0, 3]
    dsimp only [pickL, pickR, nthH, delH, dropH, List.cons_append, List.nil_append] at h
    have hMr_mk3 := romOf (h.drop 2) 2 rfl
    refine advert_Advert_Mapped_ok (FL := row enc34 34 2 p_1 c_1 own :: cel b_4 34 [(Value.int .u32 (IntKind.wrap .u32 (IntKind.wrap .i64 (100 + i7)))), (Value.int .i64 1)] :: mapQ b_3 va36 va3 p_9 m_6 :: FL) hMr_mk3 h hp ?_
    intro r_3 m_8 p_11 w h hp
    refine ⟨_, rfl, ?_⟩
    replace h := h.sel [0, 1, 1, 1, 0] 0
    dsimp only [pickL, pickR, nthH, delH, dropH, List.cons_append, List.nil_append] at h
    exact ⟨m_8, p_11, rfl, rfl, rfl, rfl, hp, h⟩
  clear hq
  obtain ⟨Q_2, hq, hp⟩ := hp
  refine ⟨fun gone1_3 a5_3 k6_3 i7_2 x8_1 t56 w => gone = gone1_3 ∧ (some (Addr.mk b_1 0 none)) = a5_3 ∧ (Int.tmod (IntKind.wrap .i64 n_1) 30) = k6_3 ∧ i7 = i7_2 ∧ (Addr.mk b_4 0 none) = x8_1 ∧ Q_2 t56 ∧ Mem (cel b_1 58 [(Value.slice p_1 own.length c_1), (Value.map (some b_2)), (Value.map (some b_3))] :: row enc34 34 2 p_1 c_1 own :: cel b_4 34 [(Value.int .u32 (IntKind.wrap .u32 (IntKind.wrap .i64 (100 + i7)))), (Value.int .i64 1)] :: mapQ b_3 va36 va3 p_9 m_6 :: mapQ b_2 va34 va3 p_8 m_5 :: FL) w, ?_, ?_⟩
  · rintro gone1_3 a5_3 k6_3 i7_2 x8_1 t56 w ⟨rfl, rfl, rfl, rfl, rfl, hp, h⟩
    replace hp := hq t56 hp
    unfold embrasurelaw21_AdvertFull_j5
    refine cond_both' hp (fun hp => ?_) (fun hp => ?_)
    · exact ⟨rfl, rfl, rfl, rfl, rfl, hp, h⟩
    replace h := h.sel [] 5
    dsimp only [pickL, pickR, nthH, delH, dropH, List.cons_append, List.nil_append] at h
    exact hR false _ h hp
  clear hq
  refine neqBool undB4 ?_
  refine ⟨_, rfl, ?_⟩
  refine cond_both hp (fun hp => ?_) (fun hp => ?_)
  · replace h := h.sel [0, 3, 2, 0, 0] 0
    dsimp only [pickL, pickR, nthH, delH, dropH, List.cons_append, List.nil_append] at h
    exact ⟨rfl, rfl, rfl, rfl, rfl, hp, h⟩
  refine cond_both hp (fun hp => ?_) (fun hp => ?_)
  · replace h := h.sel [0, 3, 2, 0, 0] 0
    dsimp only [pickL, pickR, nthH, delH, dropH, List.cons_append, List.nil_append] at h
    exact ⟨rfl, rfl, rfl, rfl, rfl, hp, h⟩
  refine cond_both hp (fun hp => ?_) (fun hp => ?_)
  · replace h := h.sel [0, 3, 2, 0, 0] 0
    dsimp only [pickL, pickR, nthH, delH, dropH, List.cons_append, List.nil_append] at h
    exact ⟨rfl, rfl, rfl, rfl, rfl, hp, h⟩
  replace h := h.sel [0, 3, 2, 0, 0] 0
  dsimp only [pickL, pickR, nthH, delH, dropH, List.cons_append, List.nil_append] at h
  exact ⟨rfl, rfl, rfl, rfl, rfl, hp, h⟩

end Go.Proofs.Ytpdabbbemampbaa
