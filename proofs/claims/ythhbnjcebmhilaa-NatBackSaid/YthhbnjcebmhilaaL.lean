/- Each function over plain data (printed by a program of this claim's author). -/
import Derived.Test.YthhbnjcebmhilaaL1
namespace Go.Proofs.Ythhbnjcebmhilaa
open Go Go.Eng Go.Proofs
set_option maxRecDepth 100000
set_option maxHeartbeats 2000000

/-! (*embrasure/nat.Nat).Reboot (15) -/
def nat_Nat_Reboot_wp (box : Int) (box_1 : Int) (box_2 : Int) (box_3 : Int) (box_4 : Int) (box_5 : Int) (box_6 : Int) (now : Int) (K : List (Option Nat) → Int → Prop) : Prop :=
  K ([] : List (Option Nat)) 0
theorem nat_Nat_Reboot_ok {b_1 : Nat} {p_1 : Option Addr} {n_1 : Nat} {c_1 : Nat} {box : Int} {box_1 : Int} {box_2 : Int} {box_3 : Int} {box_4 : Int} {box_5 : Int} {box_6 : Int} {now : Int} {FL : List HP} {w : World} {K : List (Option Nat) → Int → Prop} {R : Value → World → Prop}
  (h : Mem (cel b_1 64 [(Value.int .u32 box), (Value.int .i64 box_1), (Value.int .i64 box_2), (Value.int .i64 box_3), (Value.int .i64 box_4), (Value.int .i64 box_5), (Value.int .i64 box_6), (Value.slice p_1 n_1 c_1), (Value.int .i64 now)] :: FL) w) (hp : nat_Nat_Reboot_wp box box_1 box_2 box_3 box_4 box_5 box_6 now K)
  (hR : ∀ (list : List (Option Nat)) (now_1 : Int) (p_2 : Option Addr) (n_2 : Nat) (c_2 : Nat) (w : World), n_2 = list.length → Mem (cel b_1 64 [(Value.int .u32 box), (Value.int .i64 box_1), (Value.int .i64 box_2), (Value.int .i64 box_3), (Value.int .i64 box_4), (Value.int .i64 box_5), (Value.int .i64 box_6), (Value.slice p_2 n_2 c_2), (Value.int .i64 now_1)] :: row enc67 67 1 p_2 c_2 list :: FL) w → K list now_1 → R undef w) :
  CallV Try.prog 15 #[(Value.pointer (some (Addr.mk b_1 0 none)))] w R := by
  refine nat_Nat_Reboot_call ?_
  unfold nat_Nat_Reboot
  unfold nat_Nat_Reboot_wp at hp
  refine ⟨_, rfl, ?_⟩
  replace h := rowNil enc67 67 1 h
  refine storeL (ys := [(Value.slice none  0 0)]) h 1 7 rfl rfl rfl sz62 rfl rfl ?_
  intro w h
  dsimp only [setH, setVs, setV] at h
  refine ⟨_, rfl, ?_⟩
  refine storeL (ys := [(Value.int .i64 0)]) h 1 8 rfl rfl rfl sz3 rfl rfl ?_
  intro w h
  dsimp only [setH, setVs, setV] at h
  replace h := h.sel [1, 0] 0
  dsimp only [pickL, pickR, nthH, delH, dropH, List.cons_append, List.nil_append] at h
  exact hR ([] : List (Option Nat)) 0 (none ) 0 0 _ rfl h hp

/-! embrasure/embrasurelaw08.NatFull (5) -/
def embrasurelaw08_NatFull_wp (most : Int) (ports : Int) (to_Host : Int) (to_Port : Int) (K : Bool → Prop) : Prop :=
  embrasurelaw08_awake_wp (fun (r : Bool) => cond (!r) (K false) (embrasurelaw08_Box_wp 0 (fun (r_1 : Int) (r_2 : Int) (r_3 : Int) (r_4 : Int) (r_5 : Int) (r_6 : Int) (r_7 : Int) => nat_New_wp r_1 r_2 (IntKind.wrap .i64 (r_2 + (Int.tmod (IntKind.wrap .i64 ports) 12))) r_4 r_5 r_6 (IntKind.wrap .i64 (1 + (Int.tmod (IntKind.wrap .i64 most) 12))) (fun (r_8 : Int) => joinP1 (fun (t40 : Bool) => cond t40 (K false) (joinP0 (False) (fun (Q_1 : Prop) => ∃ (I : Nat → Prop), (∃ (n_4 : Nat), I n_4 ) ∧ ∀ (n_1 : Nat), I n_1  → (cond (decide ((0 : Int) < 2)) (joinP0 (False) (fun (Q_2 : Prop) => ∃ (I_1 : Nat → Prop), (∃ (n_3 : Nat), I_1 n_3 ) ∧ ∀ (n_2 : Nat), I_1 n_2  → (cond (decide ((0 : Int) < 14)) (False) (Q_2 )))) (Q_1 ))))) (fun (Q : Bool → Prop) => Q true)) (fun (r_9 : Int) (box : Int) (box_1 : Int) (box_2 : Int) (box_3 : Int) (box_4 : Int) (box_5 : Int) (box_6 : Int) (list : List (Option Nat)) (now : Int) => joinP1 (fun (t40_1 : Bool) => cond t40_1 (K false) (joinP3 (fun (list_1 : List (Option Nat)) (now_1 : Int) (m_1 : List (Nat × (Int × Int × Int × Int × Int × Int × Bool × (List (Int × Int))))) => nat_Nat_All_wp box box_1 box_2 box_3 box_4 box_5 box_6 list_1 now_1 0 m_1 (fun (rs_1 : List (Int × Int × Int × Int × Int × Int × Bool)) (list_8 : List (Option Nat)) (now_8 : Int) (m_7 : List (Nat × (Int × Int × Int × Int × Int × Int × Bool × (List (Int × Int))))) => K ((((rs_1.length : Nat) : Int) : Int) == 0))) (fun (Q_4 : List (Option Nat) → Int → List (Nat × (Int × Int × Int × Int × Int × Int × Bool × (List (Int × Int)))) → Prop) => ∃ (I_2 : Nat → List (Option Nat) → Int → Int → List (Nat × (Int × Int × Int × Int × Int × Int × Bool × (List (Int × Int)))) → Prop), (∃ (n_19 : Nat), I_2 n_19 list now 0 ([] : List (Nat × (Int × Int × Int × Int × Int × Int × Bool × (List (Int × Int)))))) ∧ ∀ (n_8 : Nat) (list_2 : List (Option Nat)) (now_2 : Int) (round11_3 : Int) (m_2 : List (Nat × (Int × Int × Int × Int × Int × Int × Bool × (List (Int × Int))))), I_2 n_8 list_2 now_2 round11_3 m_2 → (cond (decide ((round11_3 : Int) < 2)) (joinP3 (fun (list_3 : List (Option Nat)) (now_3 : Int) (m_3 : List (Nat × (Int × Int × Int × Int × Int × Int × Bool × (List (Int × Int))))) => nat_Nat_All_wp box box_1 box_2 box_3 box_4 box_5 box_6 list_3 now_3 0 m_3 (fun (rs : List (Int × Int × Int × Int × Int × Int × Bool)) (list_6 : List (Option Nat)) (now_6 : Int) (m_6 : List (Nat × (Int × Int × Int × Int × Int × Int × Bool × (List (Int × Int))))) => cond ((((rs.length : Nat) : Int) : Int) != (if ((IntKind.wrap .i64 ((IntKind.wrap .i64 ((IntKind.wrap .i64 (r_2 + (Int.tmod (IntKind.wrap .i64 ports) 12))) - r_2)) + 1)) : Int) < (IntKind.wrap .i64 (1 + (Int.tmod (IntKind.wrap .i64 most) 12))) then (IntKind.wrap .i64 ((IntKind.wrap .i64 ((IntKind.wrap .i64 (r_2 + (Int.tmod (IntKind.wrap .i64 ports) 12))) - r_2)) + 1)) else (IntKind.wrap .i64 (1 + (Int.tmod (IntKind.wrap .i64 most) 12))))) (K false) (nat_Nat_Reboot_wp box box_1 box_2 box_3 box_4 box_5 box_6 now_6 (fun (list_7 : List (Option Nat)) (now_7 : Int) => ∃ (n_18 : Nat), n_18 < n_8 ∧ I_2 n_18 list_7 now_7 (IntKind.wrap .i64 (round11_3 + 1)) m_6)))) (fun (Q_5 : List (Option Nat) → Int → List (Nat × (Int × Int × Int × Int × Int × Int × Bool × (List (Int × Int)))) → Prop) => ∃ (I_3 : Nat → List (Option Nat) → Int → Int → List (Nat × (Int × Int × Int × Int × Int × Int × Bool × (List (Int × Int)))) → Prop), (∃ (n_14 : Nat), I_3 n_14 list_2 now_2 0 m_2) ∧ ∀ (n_11 : Nat) (list_4 : List (Option Nat)) (now_4 : Int) (i12_1 : Int) (m_4 : List (Nat × (Int × Int × Int × Int × Int × Int × Bool × (List (Int × Int))))), I_3 n_11 list_4 now_4 i12_1 m_4 → (cond (decide ((i12_1 : Int) < 14)) (nat_Nat_Out_wp box box_1 box_2 box_3 box_4 box_5 box_6 list_4 now_4 0 (IntKind.wrap .u32 (IntKind.wrap .i64 (1 + i12_1))) 9 to_Host to_Port m_4 (fun (r_10 : Int) (r_11 : Int) (r_12 : Int) (list_5 : List (Option Nat)) (now_5 : Int) (m_5 : List (Nat × (Int × Int × Int × Int × Int × Int × Bool × (List (Int × Int))))) => cond ((r_12 : Int) == 1) (K true) (joinP1 (fun (t83 : Bool) => cond t83 (K false) (∃ (n_13 : Nat), n_13 < n_11 ∧ I_3 n_13 list_5 now_5 (IntKind.wrap .i64 (i12_1 + 1)) m_5)) (fun (Q_6 : Bool → Prop) => cond (!(((r_12 : Int) == 0) == (decide ((i12_1 : Int) < (if ((IntKind.wrap .i64 ((IntKind.wrap .i64 ((IntKind.wrap .i64 (r_2 + (Int.tmod (IntKind.wrap .i64 ports) 12))) - r_2)) + 1)) : Int) < (IntKind.wrap .i64 (1 + (Int.tmod (IntKind.wrap .i64 most) 12))) then (IntKind.wrap .i64 ((IntKind.wrap .i64 ((IntKind.wrap .i64 (r_2 + (Int.tmod (IntKind.wrap .i64 ports) 12))) - r_2)) + 1)) else (IntKind.wrap .i64 (1 + (Int.tmod (IntKind.wrap .i64 most) 12)))))))) (Q_6 true) (cond ((r_12 : Int) != 0) (Q_6 ((r_12 : Int) != 10)) (Q_6 false)))))) (Q_5 list_4 now_4 m_4)))) (Q_4 list_2 now_2 m_2))))) (fun (Q_3 : Bool → Prop) => Q_3 ((r_9 : Int) != 0))))))
theorem embrasurelaw08_NatFull_ok {most : Int} {ports : Int} {to_Host : Int} {to_Port : Int} {FL : List HP} {w : World} {K : Bool → Prop} {R : Value → World → Prop}
  (h : Mem (FL) w) (hp : embrasurelaw08_NatFull_wp most ports to_Host to_Port K)
  (hR : ∀ (r : Bool) (w : World), Mem (FL) w → K r → R (Value.bool r) w) :
  CallV Try.prog 5 #[(Value.int .u8 most), (Value.int .u8 ports), (Value.agg #[(Value.int .u32 to_Host), (Value.int .i64 to_Port)])] w R := by
  refine embrasurelaw08_NatFull_call ?_
  unfold embrasurelaw08_NatFull
  unfold embrasurelaw08_NatFull_wp at hp
  replace h := stoNil stoE71 (fun _ => default) h
  refine newL (o := [(Value.int .u32 to_Host), (Value.int .i64 to_Port)]) h ?_
  intro b_1 w h
  refine embrasurelaw08_awake_ok h hp ?_
  intro r w h hp
  refine ⟨_, rfl, ?_⟩
  refine cond_both hp (fun hp => ?_) (fun hp => ?_)
  · replace h := h.sel [] 2
    dsimp only [pickL, pickR, nthH, delH, dropH, List.cons_append, List.nil_append] at h
    exact hR false _ h hp
  refine embrasurelaw08_Box_ok h hp ?_
  intro r_1 r_2 r_3 r_4 r_5 r_6 r_7 w h hp
  refine ⟨_, _, _, _, _, _, _, rfl, ?_⟩
  refine newL (o := [(Value.int .u32 0), (Value.int .i64 0), (Value.int .i64 0), (Value.int .i64 0), (Value.int .i64 0), (Value.int .i64 0), (Value.int .i64 0)]) h ?_
  intro b_2 w h
  refine storeL (ys := [(Value.int .u32 r_1), (Value.int .i64 r_2), (Value.int .i64 r_3), (Value.int .i64 r_4), (Value.int .i64 r_5), (Value.int .i64 r_6), (Value.int .i64 r_7)]) h 0 0 rfl rfl rfl sz28 rfl rfl ?_
  intro w h
  dsimp only [setH, setVs, setV] at h
  refine ⟨by decide, ?_⟩
  refine storeL (ys := [(Value.int .i64 (IntKind.wrap .i64 (1 + (Int.tmod (IntKind.wrap .i64 most) 12))))]) h 0 6 rfl rfl rfl sz3 rfl rfl ?_
  intro w h
  dsimp only [setH, setVs, setV] at h
  refine ⟨_, cellL h 0 1 rfl rfl rfl, ?_⟩
  refine ⟨by decide, ?_⟩
  refine storeL (ys := [(Value.int .i64 (IntKind.wrap .i64 (r_2 + (Int.tmod (IntKind.wrap .i64 ports) 12))))]) h 0 2 rfl rfl rfl sz3 rfl rfl ?_
  intro w h
  dsimp only [setH, setVs, setV] at h
  refine ⟨_, cellL h 0 0 rfl rfl rfl, _, cellL h 0 1 rfl rfl rfl, _, cellL h 0 2 rfl rfl rfl, _, cellL h 0 3 rfl rfl rfl, _, cellL h 0 4 rfl rfl rfl, _, cellL h 0 5 rfl rfl rfl, _, cellL h 0 6 rfl rfl rfl, ?_⟩
  refine nat_New_ok h hp ?_ ?_
  · intro r_8 w h hp
    refine ⟨_, _, rfl, ?_⟩
    obtain ⟨Q, hq, hp⟩ := hp
    refine ⟨fun to5 box7 n8 t40 w => (Addr.mk b_1 0 none) = to5 ∧ (Addr.mk b_2 0 none) = box7 ∧ none = n8 ∧ Q t40 ∧ Mem (cel b_2 28 [(Value.int .u32 r_1), (Value.int .i64 r_2), (Value.int .i64 (IntKind.wrap .i64 (r_2 + (Int.tmod (IntKind.wrap .i64 ports) 12)))), (Value.int .i64 r_4), (Value.int .i64 r_5), (Value.int .i64 r_6), (Value.int .i64 (IntKind.wrap .i64 (1 + (Int.tmod (IntKind.wrap .i64 most) 12))))] :: cel b_1 24 [(Value.int .u32 to_Host), (Value.int .i64 to_Port)] :: stoP stoE71 (fun _ => default) ([] : List (Nat × (Int × Int × Int × Int × Int × Int × Bool × (List (Int × Int))))) :: FL) w, ?_, ?_⟩
    · rintro to5 box7 n8 t40 w ⟨rfl, rfl, rfl, hp, h⟩
      replace hp := hq t40 hp
      unfold embrasurelaw08_NatFull_j1
      refine cond_both hp (fun hp => ?_) (fun hp => ?_)
      · replace h := h.sel [] 3
        dsimp only [pickL, pickR, nthH, delH, dropH, List.cons_append, List.nil_append] at h
        exact hR false _ h hp
      refine ⟨_, cellL h 0 6 rfl rfl rfl, ?_⟩
      refine ⟨_, cellL h 0 2 rfl rfl rfl, ?_⟩
      refine ⟨_, cellL h 0 1 rfl rfl rfl, ?_⟩
      obtain ⟨Q_1, hq, hp⟩ := hp
      refine ⟨fun n8_1 w => none = n8_1 ∧ Q_1 ∧ Mem (cel b_2 28 [(Value.int .u32 r_1), (Value.int .i64 r_2), (Value.int .i64 (IntKind.wrap .i64 (r_2 + (Int.tmod (IntKind.wrap .i64 ports) 12)))), (Value.int .i64 r_4), (Value.int .i64 r_5), (Value.int .i64 r_6), (Value.int .i64 (IntKind.wrap .i64 (1 + (Int.tmod (IntKind.wrap .i64 most) 12))))] :: cel b_1 24 [(Value.int .u32 to_Host), (Value.int .i64 to_Port)] :: stoP stoE71 (fun _ => default) ([] : List (Nat × (Int × Int × Int × Int × Int × Int × Bool × (List (Int × Int))))) :: FL) w, ?_, ?_⟩
      · rintro n8_1 w ⟨rfl, hp, h⟩
        replace hp := hq  hp
        unfold embrasurelaw08_NatFull_j2
        exact hp.elim
      clear hq
      obtain ⟨I, ⟨n_4, h0⟩, hq⟩ := hp
      refine ⟨fun n_1 to5_1 n8_2 k10 round11 w => (Addr.mk b_1 0 none) = to5_1 ∧ none = n8_2 ∧ (if ((IntKind.wrap .i64 ((IntKind.wrap .i64 ((IntKind.wrap .i64 (r_2 + (Int.tmod (IntKind.wrap .i64 ports) 12))) - r_2)) + 1)) : Int) < (IntKind.wrap .i64 (1 + (Int.tmod (IntKind.wrap .i64 most) 12))) then (IntKind.wrap .i64 ((IntKind.wrap .i64 ((IntKind.wrap .i64 (r_2 + (Int.tmod (IntKind.wrap .i64 ports) 12))) - r_2)) + 1)) else (IntKind.wrap .i64 (1 + (Int.tmod (IntKind.wrap .i64 most) 12)))) = k10 ∧ 0 = round11 ∧ I n_1 ∧ Mem (cel b_2 28 [(Value.int .u32 r_1), (Value.int .i64 r_2), (Value.int .i64 (IntKind.wrap .i64 (r_2 + (Int.tmod (IntKind.wrap .i64 ports) 12)))), (Value.int .i64 r_4), (Value.int .i64 r_5), (Value.int .i64 r_6), (Value.int .i64 (IntKind.wrap .i64 (1 + (Int.tmod (IntKind.wrap .i64 most) 12))))] :: cel b_1 24 [(Value.int .u32 to_Host), (Value.int .i64 to_Port)] :: stoP stoE71 (fun _ => default) ([] : List (Nat × (Int × Int × Int × Int × Int × Int × Bool × (List (Int × Int))))) :: FL) w, ⟨n_4, rfl, rfl, rfl, rfl, h0, h⟩, ?_⟩
      clear h0 h
      rintro n_1 to5_1 n8_2 k10 round11 w ⟨rfl, rfl, rfl, rfl, hp, h⟩
      replace hp := hq n_1 hp
      clear hq
      unfold embrasurelaw08_NatFull_l3
      refine cond_both' hp (fun hp => ?_) (fun hp => ?_)
      · exact ⟨rfl, hp, h⟩
      obtain ⟨Q_2, hq, hp⟩ := hp
      refine ⟨fun to5_2 n8_3 k10_1 round11_1 w => (Addr.mk b_1 0 none) = to5_2 ∧ none = n8_3 ∧ (if ((IntKind.wrap .i64 ((IntKind.wrap .i64 ((IntKind.wrap .i64 (r_2 + (Int.tmod (IntKind.wrap .i64 ports) 12))) - r_2)) + 1)) : Int) < (IntKind.wrap .i64 (1 + (Int.tmod (IntKind.wrap .i64 most) 12))) then (IntKind.wrap .i64 ((IntKind.wrap .i64 ((IntKind.wrap .i64 (r_2 + (Int.tmod (IntKind.wrap .i64 ports) 12))) - r_2)) + 1)) else (IntKind.wrap .i64 (1 + (Int.tmod (IntKind.wrap .i64 most) 12)))) = k10_1 ∧ 0 = round11_1 ∧ Q_2 ∧ Mem (cel b_2 28 [(Value.int .u32 r_1), (Value.int .i64 r_2), (Value.int .i64 (IntKind.wrap .i64 (r_2 + (Int.tmod (IntKind.wrap .i64 ports) 12)))), (Value.int .i64 r_4), (Value.int .i64 r_5), (Value.int .i64 r_6), (Value.int .i64 (IntKind.wrap .i64 (1 + (Int.tmod (IntKind.wrap .i64 most) 12))))] :: cel b_1 24 [(Value.int .u32 to_Host), (Value.int .i64 to_Port)] :: stoP stoE71 (fun _ => default) ([] : List (Nat × (Int × Int × Int × Int × Int × Int × Bool × (List (Int × Int))))) :: FL) w, ?_, ?_⟩
      · rintro to5_2 n8_3 k10_1 round11_1 w ⟨rfl, rfl, rfl, rfl, hp, h⟩
        replace hp := hq  hp
        unfold embrasurelaw08_NatFull_j4
        exact hp.elim
      clear hq
      obtain ⟨I_1, ⟨n_3, h0⟩, hq⟩ := hp
      refine ⟨fun n_2 to5_3 n8_4 k10_2 round11_2 i12 w => (Addr.mk b_1 0 none) = to5_3 ∧ none = n8_4 ∧ (if ((IntKind.wrap .i64 ((IntKind.wrap .i64 ((IntKind.wrap .i64 (r_2 + (Int.tmod (IntKind.wrap .i64 ports) 12))) - r_2)) + 1)) : Int) < (IntKind.wrap .i64 (1 + (Int.tmod (IntKind.wrap .i64 most) 12))) then (IntKind.wrap .i64 ((IntKind.wrap .i64 ((IntKind.wrap .i64 (r_2 + (Int.tmod (IntKind.wrap .i64 ports) 12))) - r_2)) + 1)) else (IntKind.wrap .i64 (1 + (Int.tmod (IntKind.wrap .i64 most) 12)))) = k10_2 ∧ 0 = round11_2 ∧ 0 = i12 ∧ I_1 n_2 ∧ Mem (cel b_2 28 [(Value.int .u32 r_1), (Value.int .i64 r_2), (Value.int .i64 (IntKind.wrap .i64 (r_2 + (Int.tmod (IntKind.wrap .i64 ports) 12)))), (Value.int .i64 r_4), (Value.int .i64 r_5), (Value.int .i64 r_6), (Value.int .i64 (IntKind.wrap .i64 (1 + (Int.tmod (IntKind.wrap .i64 most) 12))))] :: cel b_1 24 [(Value.int .u32 to_Host), (Value.int .i64 to_Port)] :: stoP stoE71 (fun _ => default) ([] : List (Nat × (Int × Int × Int × Int × Int × Int × Bool × (List (Int × Int))))) :: FL) w, ⟨n_3, rfl, rfl, rfl, rfl, rfl, h0, h⟩, ?_⟩
      clear h0 h
      rintro n_2 to5_3 n8_4 k10_2 round11_2 i12 w ⟨rfl, rfl, rfl, rfl, rfl, hp, h⟩
      replace hp := hq n_2 hp
      clear hq
      unfold embrasurelaw08_NatFull_l5
      refine cond_both' hp (fun hp => ?_) (fun hp => ?_)
      · exact ⟨rfl, rfl, rfl, rfl, hp, h⟩
      refine ⟨_, cellL h 1 0 rfl rfl rfl, _, cellL h 1 1 rfl rfl rfl, ?_⟩
      exact hp.elim
    clear hq
    refine eqlPtrNN undP30 ?_
    refine ⟨_, rfl, ?_⟩
    refine cond_tt ?_
    exact ⟨rfl, rfl, rfl, hp, h⟩
  rintro r_9 box box_1 box_2 box_3 box_4 box_5 box_6 list now b_3 p_1 n_5 c_1 w rfl h hp
  have cpp_1 := rowCap h 1 rfl
  refine ⟨_, _, rfl, ?_⟩
  obtain ⟨Q_3, hq, hp⟩ := hp
  refine ⟨fun to5_4 box7_1 n8_5 t40_1 w => (Addr.mk b_1 0 none) = to5_4 ∧ (Addr.mk b_2 0 none) = box7_1 ∧ (some (Addr.mk b_3 0 none)) = n8_5 ∧ Q_3 t40_1 ∧ Mem (cel b_3 64 [(Value.int .u32 box), (Value.int .i64 box_1), (Value.int .i64 box_2), (Value.int .i64 box_3), (Value.int .i64 box_4), (Value.int .i64 box_5), (Value.int .i64 box_6), (Value.slice p_1 list.length c_1), (Value.int .i64 now)] :: row enc67 67 1 p_1 c_1 list :: cel b_2 28 [(Value.int .u32 r_1), (Value.int .i64 r_2), (Value.int .i64 (IntKind.wrap .i64 (r_2 + (Int.tmod (IntKind.wrap .i64 ports) 12)))), (Value.int .i64 r_4), (Value.int .i64 r_5), (Value.int .i64 r_6), (Value.int .i64 (IntKind.wrap .i64 (1 + (Int.tmod (IntKind.wrap .i64 most) 12))))] :: cel b_1 24 [(Value.int .u32 to_Host), (Value.int .i64 to_Port)] :: stoP stoE71 (fun _ => default) ([] : List (Nat × (Int × Int × Int × Int × Int × Int × Bool × (List (Int × Int))))) :: FL) w, ?_, ?_⟩
  · rintro to5_4 box7_1 n8_5 t40_1 w ⟨rfl, rfl, rfl, hp, h⟩
    replace hp := hq t40_1 hp
    unfold embrasurelaw08_NatFull_j1
    refine cond_both hp (fun hp => ?_) (fun hp => ?_)
    · replace h := h.sel [] 5
      dsimp only [pickL, pickR, nthH, delH, dropH, List.cons_append, List.nil_append] at h
      exact hR false _ h hp
    refine ⟨_, cellL h 2 6 rfl rfl rfl, ?_⟩
    refine ⟨_, cellL h 2 2 rfl rfl rfl, ?_⟩
    refine ⟨_, cellL h 2 1 rfl rfl rfl, ?_⟩
    obtain ⟨Q_4, hq, hp⟩ := hp
    refine ⟨fun n8_6 w => ∃ (list_1 : List (Option Nat)), ∃ (p_2 : Option Addr), ∃ (n_6 : Nat), ∃ (c_2 : Nat), ∃ (now_1 : Int), ∃ (m_1 : List (Nat × (Int × Int × Int × Int × Int × Int × Bool × (List (Int × Int))))), ∃ (hd : Nat → Option Addr × Nat), (some (Addr.mk b_3 0 none)) = n8_6 ∧ n_6 = list_1.length ∧ Q_4 list_1 now_1 m_1 ∧ Mem (cel b_3 64 [(Value.int .u32 box), (Value.int .i64 box_1), (Value.int .i64 box_2), (Value.int .i64 box_3), (Value.int .i64 box_4), (Value.int .i64 box_5), (Value.int .i64 box_6), (Value.slice p_2 n_6 c_2), (Value.int .i64 now_1)] :: row enc67 67 1 p_2 c_2 list_1 :: cel b_2 28 [(Value.int .u32 r_1), (Value.int .i64 r_2), (Value.int .i64 (IntKind.wrap .i64 (r_2 + (Int.tmod (IntKind.wrap .i64 ports) 12)))), (Value.int .i64 r_4), (Value.int .i64 r_5), (Value.int .i64 r_6), (Value.int .i64 (IntKind.wrap .i64 (1 + (Int.tmod (IntKind.wrap .i64 most) 12))))] :: cel b_1 24 [(Value.int .u32 to_Host), (Value.int .i64 to_Port)] :: stoP stoE71 hd m_1 :: FL) w, ?_, ?_⟩
    · rintro n8_6 w ⟨list_1, p_2, n_6, c_2, now_1, m_1, hd, rfl, rfl, hp, h⟩
      replace hp := hq list_1 now_1 m_1 hp
      unfold embrasurelaw08_NatFull_j2
      have cpp_2 := rowCap h 1 rfl
      replace h := h.pick [0, 0, 2]
      dsimp only [pickL, pickR, nthH, delH, dropH, List.cons_append, List.nil_append] at h
      refine nat_Nat_All_ok h hp ?_
      rintro rs_1 list_8 now_8 m_7 p_10 n_20 c_10 p_11 n_21 c_11 hd_6 w rfl rfl h hp
      have cpp_10 := rowCap h 0 rfl
      have cpp_11 := rowCap h 2 rfl
      refine ⟨_, _, _, rfl, ?_⟩
      replace h := h.sel [] 6
      dsimp only [pickL, pickR, nthH, delH, dropH, List.cons_append, List.nil_append] at h
      exact hR ((((rs_1.length : Nat) : Int) : Int) == 0) _ h hp
    clear hq
    obtain ⟨I_2, ⟨n_19, h0⟩, hq⟩ := hp
    refine ⟨fun n_8 to5_5 n8_7 k10_3 round11_3 w => ∃ (list_2 : List (Option Nat)), ∃ (p_3 : Option Addr), ∃ (n_7 : Nat), ∃ (c_3 : Nat), ∃ (now_2 : Int), ∃ (m_2 : List (Nat × (Int × Int × Int × Int × Int × Int × Bool × (List (Int × Int))))), ∃ (hd_1 : Nat → Option Addr × Nat), (Addr.mk b_1 0 none) = to5_5 ∧ (some (Addr.mk b_3 0 none)) = n8_7 ∧ (if ((IntKind.wrap .i64 ((IntKind.wrap .i64 ((IntKind.wrap .i64 (r_2 + (Int.tmod (IntKind.wrap .i64 ports) 12))) - r_2)) + 1)) : Int) < (IntKind.wrap .i64 (1 + (Int.tmod (IntKind.wrap .i64 most) 12))) then (IntKind.wrap .i64 ((IntKind.wrap .i64 ((IntKind.wrap .i64 (r_2 + (Int.tmod (IntKind.wrap .i64 ports) 12))) - r_2)) + 1)) else (IntKind.wrap .i64 (1 + (Int.tmod (IntKind.wrap .i64 most) 12)))) = k10_3 ∧ n_7 = list_2.length ∧ I_2 n_8 list_2 now_2 round11_3 m_2 ∧ Mem (cel b_3 64 [(Value.int .u32 box), (Value.int .i64 box_1), (Value.int .i64 box_2), (Value.int .i64 box_3), (Value.int .i64 box_4), (Value.int .i64 box_5), (Value.int .i64 box_6), (Value.slice p_3 n_7 c_3), (Value.int .i64 now_2)] :: row enc67 67 1 p_3 c_3 list_2 :: cel b_2 28 [(Value.int .u32 r_1), (Value.int .i64 r_2), (Value.int .i64 (IntKind.wrap .i64 (r_2 + (Int.tmod (IntKind.wrap .i64 ports) 12)))), (Value.int .i64 r_4), (Value.int .i64 r_5), (Value.int .i64 r_6), (Value.int .i64 (IntKind.wrap .i64 (1 + (Int.tmod (IntKind.wrap .i64 most) 12))))] :: cel b_1 24 [(Value.int .u32 to_Host), (Value.int .i64 to_Port)] :: stoP stoE71 hd_1 m_2 :: FL) w, ⟨n_19, list, p_1, list.length, c_1, now, ([] : List (Nat × (Int × Int × Int × Int × Int × Int × Bool × (List (Int × Int))))), (fun _ => default), rfl, rfl, rfl, rfl, h0, h⟩, ?_⟩
    clear h0 h
    rintro n_8 to5_5 n8_7 k10_3 round11_3 w ⟨list_2, p_3, n_7, c_3, now_2, m_2, hd_1, rfl, rfl, rfl, rfl, hp, h⟩
    replace hp := hq n_8 list_2 now_2 round11_3 m_2 hp
    clear hq
    unfold embrasurelaw08_NatFull_l3
    have cpp_3 := rowCap h 1 rfl
    refine cond_both' hp (fun hp => ?_) (fun hp => ?_)
    · exact ⟨list_2, p_3, list_2.length, c_3, now_2, m_2, hd_1, rfl, rfl, hp, h⟩
    obtain ⟨Q_5, hq, hp⟩ := hp
    refine ⟨fun to5_6 n8_8 k10_4 round11_4 w => ∃ (list_3 : List (Option Nat)), ∃ (p_4 : Option Addr), ∃ (n_9 : Nat), ∃ (c_4 : Nat), ∃ (now_3 : Int), ∃ (m_3 : List (Nat × (Int × Int × Int × Int × Int × Int × Bool × (List (Int × Int))))), ∃ (hd_2 : Nat → Option Addr × Nat), (Addr.mk b_1 0 none) = to5_6 ∧ (some (Addr.mk b_3 0 none)) = n8_8 ∧ (if ((IntKind.wrap .i64 ((IntKind.wrap .i64 ((IntKind.wrap .i64 (r_2 + (Int.tmod (IntKind.wrap .i64 ports) 12))) - r_2)) + 1)) : Int) < (IntKind.wrap .i64 (1 + (Int.tmod (IntKind.wrap .i64 most) 12))) then (IntKind.wrap .i64 ((IntKind.wrap .i64 ((IntKind.wrap .i64 (r_2 + (Int.tmod (IntKind.wrap .i64 ports) 12))) - r_2)) + 1)) else (IntKind.wrap .i64 (1 + (Int.tmod (IntKind.wrap .i64 most) 12)))) = k10_4 ∧ round11_3 = round11_4 ∧ n_9 = list_3.length ∧ Q_5 list_3 now_3 m_3 ∧ Mem (cel b_3 64 [(Value.int .u32 box), (Value.int .i64 box_1), (Value.int .i64 box_2), (Value.int .i64 box_3), (Value.int .i64 box_4), (Value.int .i64 box_5), (Value.int .i64 box_6), (Value.slice p_4 n_9 c_4), (Value.int .i64 now_3)] :: row enc67 67 1 p_4 c_4 list_3 :: cel b_2 28 [(Value.int .u32 r_1), (Value.int .i64 r_2), (Value.int .i64 (IntKind.wrap .i64 (r_2 + (Int.tmod (IntKind.wrap .i64 ports) 12)))), (Value.int .i64 r_4), (Value.int .i64 r_5), (Value.int .i64 r_6), (Value.int .i64 (IntKind.wrap .i64 (1 + (Int.tmod (IntKind.wrap .i64 most) 12))))] :: cel b_1 24 [(Value.int .u32 to_Host), (Value.int .i64 to_Port)] :: stoP stoE71 hd_2 m_3 :: FL) w, ?_, ?_⟩
    · rintro to5_6 n8_8 k10_4 round11_4 w ⟨list_3, p_4, n_9, c_4, now_3, m_3, hd_2, rfl, rfl, rfl, rfl, rfl, hp, h⟩
      replace hp := hq list_3 now_3 m_3 hp
      unfold embrasurelaw08_NatFull_j4
      have cpp_4 := rowCap h 1 rfl
      replace h := h.pick [0, 0, 2]
      dsimp only [pickL, pickR, nthH, delH, dropH, List.cons_append, List.nil_append] at h
      refine nat_Nat_All_ok h hp ?_
      rintro rs list_6 now_6 m_6 p_7 n_15 c_7 p_8 n_16 c_8 hd_5 w rfl rfl h hp
      have cpp_7 := rowCap h 0 rfl
      have cpp_8 := rowCap h 2 rfl
      refine ⟨_, _, _, rfl, ?_⟩
      refine cond_both hp (fun hp => ?_) (fun hp => ?_)
      · replace h := h.sel [] 6
        dsimp only [pickL, pickR, nthH, delH, dropH, List.cons_append, List.nil_append] at h
        exact hR false _ h hp
      replace h := h.pick [1]
      dsimp only [pickL, pickR, nthH, delH, dropH, List.cons_append, List.nil_append] at h
      refine nat_Nat_Reboot_ok h hp ?_
      rintro list_7 now_7 p_9 n_17 c_9 w rfl h hp
      have cpp_9 := rowCap h 1 rfl
      refine ⟨rfl, ?_⟩
      replace h := h.sel [0, 0, 3, 3, 2] 2
      dsimp only [pickL, pickR, nthH, delH, dropH, List.cons_append, List.nil_append] at h
      obtain ⟨n_18, hn, hp⟩ := hp
      exact ⟨n_18, hn, list_7, p_9, list_7.length, c_9, now_7, m_6, hd_5, rfl, rfl, rfl, rfl, hp, h⟩
    clear hq
    obtain ⟨I_3, ⟨n_14, h0⟩, hq⟩ := hp
    refine ⟨fun n_11 to5_7 n8_9 k10_5 round11_5 i12_1 w => ∃ (list_4 : List (Option Nat)), ∃ (p_5 : Option Addr), ∃ (n_10 : Nat), ∃ (c_5 : Nat), ∃ (now_4 : Int), ∃ (m_4 : List (Nat × (Int × Int × Int × Int × Int × Int × Bool × (List (Int × Int))))), ∃ (hd_3 : Nat → Option Addr × Nat), (Addr.mk b_1 0 none) = to5_7 ∧ (some (Addr.mk b_3 0 none)) = n8_9 ∧ (if ((IntKind.wrap .i64 ((IntKind.wrap .i64 ((IntKind.wrap .i64 (r_2 + (Int.tmod (IntKind.wrap .i64 ports) 12))) - r_2)) + 1)) : Int) < (IntKind.wrap .i64 (1 + (Int.tmod (IntKind.wrap .i64 most) 12))) then (IntKind.wrap .i64 ((IntKind.wrap .i64 ((IntKind.wrap .i64 (r_2 + (Int.tmod (IntKind.wrap .i64 ports) 12))) - r_2)) + 1)) else (IntKind.wrap .i64 (1 + (Int.tmod (IntKind.wrap .i64 most) 12)))) = k10_5 ∧ round11_3 = round11_5 ∧ n_10 = list_4.length ∧ I_3 n_11 list_4 now_4 i12_1 m_4 ∧ Mem (cel b_3 64 [(Value.int .u32 box), (Value.int .i64 box_1), (Value.int .i64 box_2), (Value.int .i64 box_3), (Value.int .i64 box_4), (Value.int .i64 box_5), (Value.int .i64 box_6), (Value.slice p_5 n_10 c_5), (Value.int .i64 now_4)] :: row enc67 67 1 p_5 c_5 list_4 :: cel b_2 28 [(Value.int .u32 r_1), (Value.int .i64 r_2), (Value.int .i64 (IntKind.wrap .i64 (r_2 + (Int.tmod (IntKind.wrap .i64 ports) 12)))), (Value.int .i64 r_4), (Value.int .i64 r_5), (Value.int .i64 r_6), (Value.int .i64 (IntKind.wrap .i64 (1 + (Int.tmod (IntKind.wrap .i64 most) 12))))] :: cel b_1 24 [(Value.int .u32 to_Host), (Value.int .i64 to_Port)] :: stoP stoE71 hd_3 m_4 :: FL) w, ⟨n_14, list_2, p_3, list_2.length, c_3, now_2, m_2, hd_1, rfl, rfl, rfl, rfl, rfl, h0, h⟩, ?_⟩
    clear h0 h
    rintro n_11 to5_7 n8_9 k10_5 round11_5 i12_1 w ⟨list_4, p_5, n_10, c_5, now_4, m_4, hd_3, rfl, rfl, rfl, rfl, rfl, hp, h⟩
    replace hp := hq n_11 list_4 now_4 i12_1 m_4 hp
    clear hq
    unfold embrasurelaw08_NatFull_l5
    have cpp_5 := rowCap h 1 rfl
    refine cond_both' hp (fun hp => ?_) (fun hp => ?_)
    · exact ⟨list_4, p_5, list_4.length, c_5, now_4, m_4, hd_3, rfl, rfl, rfl, rfl, rfl, hp, h⟩
    refine ⟨_, cellL h 3 0 rfl rfl rfl, _, cellL h 3 1 rfl rfl rfl, ?_⟩
    replace h := h.pick [0, 0, 2]
    dsimp only [pickL, pickR, nthH, delH, dropH, List.cons_append, List.nil_append] at h
    refine nat_Nat_Out_ok h hp ?_
    rintro r_10 r_11 r_12 list_5 now_5 m_5 p_6 n_12 c_6 hd_4 w rfl h hp
    have cpp_6 := rowCap h 1 rfl
    refine ⟨_, _, _, rfl, ?_⟩
    refine newL (o := [(Value.int .u32 0), (Value.int .i64 0)]) h ?_
    intro b_4 w h
    refine storeL (ys := [(Value.int .u32 r_10), (Value.int .i64 r_11)]) h 0 0 rfl rfl rfl sz24 rfl rfl ?_
    intro w h
    dsimp only [setH, setVs, setV] at h
    refine cond_both hp (fun hp => ?_) (fun hp => ?_)
    · replace h := h.sel [] 6
      dsimp only [pickL, pickR, nthH, delH, dropH, List.cons_append, List.nil_append] at h
      exact hR true _ h hp
    obtain ⟨Q_6, hq, hp⟩ := hp
    refine ⟨fun to5_8 n8_10 k10_6 round11_6 i12_2 t83 w => (Addr.mk b_1 0 none) = to5_8 ∧ (some (Addr.mk b_3 0 none)) = n8_10 ∧ (if ((IntKind.wrap .i64 ((IntKind.wrap .i64 ((IntKind.wrap .i64 (r_2 + (Int.tmod (IntKind.wrap .i64 ports) 12))) - r_2)) + 1)) : Int) < (IntKind.wrap .i64 (1 + (Int.tmod (IntKind.wrap .i64 most) 12))) then (IntKind.wrap .i64 ((IntKind.wrap .i64 ((IntKind.wrap .i64 (r_2 + (Int.tmod (IntKind.wrap .i64 ports) 12))) - r_2)) + 1)) else (IntKind.wrap .i64 (1 + (Int.tmod (IntKind.wrap .i64 most) 12)))) = k10_6 ∧ round11_3 = round11_6 ∧ i12_1 = i12_2 ∧ Q_6 t83 ∧ Mem (cel b_4 24 [(Value.int .u32 r_10), (Value.int .i64 r_11)] :: cel b_3 64 [(Value.int .u32 box), (Value.int .i64 box_1), (Value.int .i64 box_2), (Value.int .i64 box_3), (Value.int .i64 box_4), (Value.int .i64 box_5), (Value.int .i64 box_6), (Value.slice p_6 list_5.length c_6), (Value.int .i64 now_5)] :: row enc67 67 1 p_6 c_6 list_5 :: cel b_2 28 [(Value.int .u32 r_1), (Value.int .i64 r_2), (Value.int .i64 (IntKind.wrap .i64 (r_2 + (Int.tmod (IntKind.wrap .i64 ports) 12)))), (Value.int .i64 r_4), (Value.int .i64 r_5), (Value.int .i64 r_6), (Value.int .i64 (IntKind.wrap .i64 (1 + (Int.tmod (IntKind.wrap .i64 most) 12))))] :: cel b_1 24 [(Value.int .u32 to_Host), (Value.int .i64 to_Port)] :: stoP stoE71 hd_4 m_5 :: FL) w, ?_, ?_⟩
    · rintro to5_8 n8_10 k10_6 round11_6 i12_2 t83 w ⟨rfl, rfl, rfl, rfl, rfl, hp, h⟩
      replace hp := hq t83 hp
      unfold embrasurelaw08_NatFull_j6
      refine cond_both hp (fun hp => ?_) (fun hp => ?_)
      · replace h := h.sel [] 6
        dsimp only [pickL, pickR, nthH, delH, dropH, List.cons_append, List.nil_append] at h
        exact hR false _ h hp
      replace h := h.sel [1, 1, 1, 1, 1] 1
      dsimp only [pickL, pickR, nthH, delH, dropH, List.cons_append, List.nil_append] at h
      obtain ⟨n_13, hn, hp⟩ := hp
      exact ⟨n_13, hn, list_5, p_6, list_5.length, c_6, now_5, m_5, hd_4, rfl, rfl, rfl, rfl, rfl, hp, h⟩
    clear hq
    refine neqBool undB4 ?_
    refine ⟨_, rfl, ?_⟩
    refine cond_both hp (fun hp => ?_) (fun hp => ?_)
    · replace h := h.sel [0, 0, 0, 1, 1, 0] 0
      dsimp only [pickL, pickR, nthH, delH, dropH, List.cons_append, List.nil_append] at h
      exact ⟨rfl, rfl, rfl, rfl, rfl, hp, h⟩
    refine cond_both hp (fun hp => ?_) (fun hp => ?_)
    · replace h := h.sel [0, 0, 0, 1, 1, 0] 0
      dsimp only [pickL, pickR, nthH, delH, dropH, List.cons_append, List.nil_append] at h
      exact ⟨rfl, rfl, rfl, rfl, rfl, hp, h⟩
    replace h := h.sel [0, 0, 0, 1, 1, 0] 0
    dsimp only [pickL, pickR, nthH, delH, dropH, List.cons_append, List.nil_append] at h
    exact ⟨rfl, rfl, rfl, rfl, rfl, hp, h⟩
  clear hq
  refine eqlPtrNil undP30 ?_
  refine ⟨_, rfl, ?_⟩
  refine cond_ff ?_
  exact ⟨rfl, rfl, rfl, hp, h⟩

/-! (*embrasure/nat.Nat).Ask (16) -/
def nat_Nat_Ask_wp (box : Int) (box_1 : Int) (box_2 : Int) (box_3 : Int) (box_4 : Int) (box_5 : Int) (box_6 : Int) (list : List (Option Nat)) (now : Int) (now_1 : Int) (in_Host : Int) (in_Port : Int) (wish : Int) (until_ : Int) (m_1 : List (Nat × (Int × Int × Int × Int × Int × Int × Bool × (List (Int × Int))))) (K : Int → Int → List (Option Nat) → Int → List (Nat × (Int × Int × Int × Int × Int × Int × Bool × (List (Int × Int)))) → Prop) : Prop :=
  joinP3 (fun (list_2 : List (Option Nat)) (now_3 : Int) (t31 : Bool) => cond t31 (K 0 1 list_2 now_3 m_1) (nat_Nat_asked_wp box box_1 box_2 box_3 box_4 box_5 box_6 list_2 now_3 in_Host in_Port m_1 (fun (r_2 : Option Nat) => joinP3 (fun (list_4 : List (Option Nat)) (b_3 : Option Nat) (m_3 : List (Nat × (Int × Int × Int × Int × Int × Int × Bool × (List (Int × Int))))) => ∃ (b_4 : Nat), b_3 = some b_4 ∧ (∃ (x_1 : Int × Int × Int × Int × Int × Int × Bool × (List (Int × Int))), getS m_3 b_4 = some x_1 ∧ (K x_1.2.2.2.2.1 0 list_4 now_3 (putS m_3 b_4 (x_1.1, x_1.2.1, x_1.2.2.1, x_1.2.2.2.1, x_1.2.2.2.2.1, until_, x_1.2.2.2.2.2.2.1, x_1.2.2.2.2.2.2.2))))) (fun (Q_1 : List (Option Nat) → Option Nat → List (Nat × (Int × Int × Int × Int × Int × Int × Bool × (List (Int × Int)))) → Prop) => cond (Option.isNone r_2) (nat_Nat_made_wp box box_1 box_2 box_3 box_4 box_5 box_6 list_2 now_3 in_Host in_Port 0 0 0 0 true wish m_1 (fun (r_3 : Option Nat) (r_4 : Int) (list_5 : List (Option Nat)) (m_4 : List (Nat × (Int × Int × Int × Int × Int × Int × Bool × (List (Int × Int))))) => cond ((r_4 : Int) != 0) (K 0 r_4 list_5 now_3 m_4) (Q_1 list_5 r_3 m_4))) (Q_1 list_2 r_2 m_1))))) (fun (Q : List (Option Nat) → Int → Bool → Prop) => addr_May_wp in_Host in_Port (fun (r : Bool) => cond (!r) (Q list now true) (cond (decide ((until_ : Int) ≤ now_1)) (Q list now true) (cond (decide ((until_ : Int) > 1099511627776)) (Q list now true) (nat_Nat_on_wp box box_1 box_2 box_3 box_4 box_5 box_6 list now now_1 m_1 (fun (r_1 : Bool) (list_3 : List (Option Nat)) (now_4 : Int) => Q list_3 now_4 (!r_1)))))))
theorem nat_Nat_Ask_ok {b_1 : Nat} {p_1 : Option Addr} {c_1 : Nat} {hd : Nat → Option Addr × Nat} {box : Int} {box_1 : Int} {box_2 : Int} {box_3 : Int} {box_4 : Int} {box_5 : Int} {box_6 : Int} {list : List (Option Nat)} {now : Int} {now_1 : Int} {in_Host : Int} {in_Port : Int} {wish : Int} {until_ : Int} {m_1 : List (Nat × (Int × Int × Int × Int × Int × Int × Bool × (List (Int × Int))))} {FL : List HP} {w : World} {K : Int → Int → List (Option Nat) → Int → List (Nat × (Int × Int × Int × Int × Int × Int × Bool × (List (Int × Int)))) → Prop} {R : Value → World → Prop}
  (h : Mem (cel b_1 64 [(Value.int .u32 box), (Value.int .i64 box_1), (Value.int .i64 box_2), (Value.int .i64 box_3), (Value.int .i64 box_4), (Value.int .i64 box_5), (Value.int .i64 box_6), (Value.slice p_1 list.length c_1), (Value.int .i64 now)] :: row enc67 67 1 p_1 c_1 list :: stoP stoE71 hd m_1 :: FL) w) (hp : nat_Nat_Ask_wp box box_1 box_2 box_3 box_4 box_5 box_6 list now now_1 in_Host in_Port wish until_ m_1 K)
  (hR : ∀ (r : Int) (r_1 : Int) (list_1 : List (Option Nat)) (now_2 : Int) (m_2 : List (Nat × (Int × Int × Int × Int × Int × Int × Bool × (List (Int × Int))))) (p_2 : Option Addr) (n_1 : Nat) (c_2 : Nat) (hd_1 : Nat → Option Addr × Nat) (w : World), n_1 = list_1.length → Mem (cel b_1 64 [(Value.int .u32 box), (Value.int .i64 box_1), (Value.int .i64 box_2), (Value.int .i64 box_3), (Value.int .i64 box_4), (Value.int .i64 box_5), (Value.int .i64 box_6), (Value.slice p_2 n_1 c_2), (Value.int .i64 now_2)] :: row enc67 67 1 p_2 c_2 list_1 :: stoP stoE71 hd_1 m_2 :: FL) w → K r r_1 list_1 now_2 m_2 → R (Value.tuple #[(Value.int .i64 r), (Value.int .i64 r_1)]) w) :
  CallV Try.prog 16 #[(Value.pointer (some (Addr.mk b_1 0 none))), (Value.int .i64 now_1), (Value.agg #[(Value.int .u32 in_Host), (Value.int .i64 in_Port)]), (Value.int .i64 wish), (Value.int .i64 until_)] w R := by
  refine nat_Nat_Ask_call ?_
  unfold nat_Nat_Ask
  unfold nat_Nat_Ask_wp at hp
  have cpp_1 := rowCap h 1 rfl
  refine newL (o := [(Value.int .u32 in_Host), (Value.int .i64 in_Port)]) h ?_
  intro b_2 w h
  obtain ⟨Q, hq, hp⟩ := hp
  refine ⟨fun n0 wish3 until4 in7 t31 w => ∃ (list_2 : List (Option Nat)), ∃ (p_3 : Option Addr), ∃ (n_2 : Nat), ∃ (c_3 : Nat), ∃ (now_3 : Int), (some (Addr.mk b_1 0 none)) = n0 ∧ wish = wish3 ∧ until_ = until4 ∧ (Addr.mk b_2 0 none) = in7 ∧ n_2 = list_2.length ∧ Q list_2 now_3 t31 ∧ Mem (cel b_2 24 [(Value.int .u32 in_Host), (Value.int .i64 in_Port)] :: cel b_1 64 [(Value.int .u32 box), (Value.int .i64 box_1), (Value.int .i64 box_2), (Value.int .i64 box_3), (Value.int .i64 box_4), (Value.int .i64 box_5), (Value.int .i64 box_6), (Value.slice p_3 n_2 c_3), (Value.int .i64 now_3)] :: row enc67 67 1 p_3 c_3 list_2 :: stoP stoE71 hd m_1 :: FL) w, ?_, ?_⟩
  · rintro n0 wish3 until4 in7 t31 w ⟨list_2, p_3, n_2, c_3, now_3, rfl, rfl, rfl, rfl, rfl, hp, h⟩
    replace hp := hq list_2 now_3 t31 hp
    unfold nat_Nat_Ask_j1
    have cpp_3 := rowCap h 2 rfl
    refine cond_both hp (fun hp => ?_) (fun hp => ?_)
    · replace h := h.sel [1, 1, 1] 1
      dsimp only [pickL, pickR, nthH, delH, dropH, List.cons_append, List.nil_append] at h
      exact hR 0 1 list_2 now_3 m_1 p_3 list_2.length c_3 hd _ rfl h hp
    refine ⟨_, cellL h 0 0 rfl rfl rfl, _, cellL h 0 1 rfl rfl rfl, ?_⟩
    replace h := h.pick [1, 1]
    dsimp only [pickL, pickR, nthH, delH, dropH, List.cons_append, List.nil_append] at h
    have hSr71 := stoRo71 (h.drop 2) 1 rfl
    refine nat_Nat_asked_ok (FL := cel b_2 24 [(Value.int .u32 in_Host), (Value.int .i64 in_Port)] :: stoP stoE71 hd m_1 :: FL) hSr71 h hp ?_
    intro r_2 w h hp
    have cpp_3 := rowCap h 1 rfl
    refine ⟨_, rfl, ?_⟩
    obtain ⟨Q_1, hq, hp⟩ := hp
    refine ⟨fun until4_1 b12 w => ∃ (list_4 : List (Option Nat)), ∃ (p_5 : Option Addr), ∃ (n_4 : Nat), ∃ (c_5 : Nat), ∃ (b_3 : Option Nat), ∃ (m_3 : List (Nat × (Int × Int × Int × Int × Int × Int × Bool × (List (Int × Int))))), ∃ (hd_2 : Nat → Option Addr × Nat), until_ = until4_1 ∧ (pn b_3) = b12 ∧ n_4 = list_4.length ∧ Q_1 list_4 b_3 m_3 ∧ Mem (cel b_1 64 [(Value.int .u32 box), (Value.int .i64 box_1), (Value.int .i64 box_2), (Value.int .i64 box_3), (Value.int .i64 box_4), (Value.int .i64 box_5), (Value.int .i64 box_6), (Value.slice p_5 n_4 c_5), (Value.int .i64 now_3)] :: row enc67 67 1 p_5 c_5 list_4 :: cel b_2 24 [(Value.int .u32 in_Host), (Value.int .i64 in_Port)] :: stoP stoE71 hd_2 m_3 :: FL) w, ?_, ?_⟩
    · rintro until4_1 b12 w ⟨list_4, p_5, n_4, c_5, b_3, m_3, hd_2, rfl, rfl, rfl, hp, h⟩
      replace hp := hq list_4 b_3 m_3 hp
      unfold nat_Nat_Ask_j2
      have cpp_5 := rowCap h 1 rfl
      obtain ⟨b_4, hb_4, hp⟩ := hp
      refine ⟨_, pnSome hb_4, ?_⟩
      obtain ⟨x_1, hx_1, hp⟩ := hp
      replace h := stoOpen stoX71 h 3 rfl hx_1
      dsimp only [setH] at h
      obtain ⟨p_7, c_7, hux_1⟩ : ∃ p_7 c_7, hd_2 b_4 = (p_7, c_7) := ⟨_, _, rfl⟩
      rw [hux_1] at h
      replace h : Mem (cel b_4 71 [(Value.int .u32 x_1.1), (Value.int .i64 x_1.2.1), (Value.int .u32 x_1.2.2.1), (Value.int .i64 x_1.2.2.2.1), (Value.int .i64 x_1.2.2.2.2.1), (Value.int .i64 x_1.2.2.2.2.2.1), (Value.bool x_1.2.2.2.2.2.2.1), (Value.slice p_7 x_1.2.2.2.2.2.2.2.length c_7)] :: row enc24 24 2 p_7 c_7 x_1.2.2.2.2.2.2.2 :: cel b_1 64 [(Value.int .u32 box), (Value.int .i64 box_1), (Value.int .i64 box_2), (Value.int .i64 box_3), (Value.int .i64 box_4), (Value.int .i64 box_5), (Value.int .i64 box_6), (Value.slice p_5 list_4.length c_5), (Value.int .i64 now_3)] :: row enc67 67 1 p_5 c_5 list_4 :: cel b_2 24 [(Value.int .u32 in_Host), (Value.int .i64 in_Port)] :: stoP stoE71 hd_2 (delS m_3 b_4) :: FL) _ := h.unpack
      have cpp_7 := rowCap h 1 rfl
      refine storeL (ys := [(Value.int .i64 until_)]) h 0 5 rfl rfl rfl sz3 rfl rfl ?_
      intro w h
      dsimp only [setH, setVs, setV] at h
      refine ⟨_, pnSome hb_4, ?_⟩
      refine ⟨_, cellL h 0 4 rfl rfl rfl, ?_⟩
      replace h : Mem (stoE71 (p_7, c_7) b_4 (x_1.1, x_1.2.1, x_1.2.2.1, x_1.2.2.2.1, x_1.2.2.2.2.1, until_, x_1.2.2.2.2.2.2.1, x_1.2.2.2.2.2.2.2) :: cel b_1 64 [(Value.int .u32 box), (Value.int .i64 box_1), (Value.int .i64 box_2), (Value.int .i64 box_3), (Value.int .i64 box_4), (Value.int .i64 box_5), (Value.int .i64 box_6), (Value.slice p_5 list_4.length c_5), (Value.int .i64 now_3)] :: row enc67 67 1 p_5 c_5 list_4 :: cel b_2 24 [(Value.int .u32 in_Host), (Value.int .i64 in_Port)] :: stoP stoE71 hd_2 (delS m_3 b_4) :: FL) _ := h.pack 2 [cel b_4 71 [(Value.int .u32 x_1.1), (Value.int .i64 x_1.2.1), (Value.int .u32 x_1.2.2.1), (Value.int .i64 x_1.2.2.2.1), (Value.int .i64 x_1.2.2.2.2.1), (Value.int .i64 until_), (Value.bool x_1.2.2.2.2.2.2.1), (Value.slice p_7 x_1.2.2.2.2.2.2.2.length c_7)], row enc24 24 2 p_7 c_7 x_1.2.2.2.2.2.2.2] rfl
      replace h := stoClose h 3 (by simp only [List.length_cons]; omega) rfl
      dsimp only [setH] at h
      replace h := h.sel [0, 0, 1] 1
      dsimp only [pickL, pickR, nthH, delH, dropH, List.cons_append, List.nil_append] at h
      exact hR x_1.2.2.2.2.1 0 list_4 now_3 (putS m_3 b_4 (x_1.1, x_1.2.1, x_1.2.2.1, x_1.2.2.2.1, x_1.2.2.2.2.1, until_, x_1.2.2.2.2.2.2.1, x_1.2.2.2.2.2.2.2)) p_5 list_4.length c_5 (updF hd_2 b_4 (p_7, c_7)) _ rfl h hp
    clear hq
    refine eqlPn undP67 ?_
    refine ⟨_, rfl, ?_⟩
    refine cond_both' hp (fun hp => ?_) (fun hp => ?_)
    · exact ⟨list_2, p_3, list_2.length, c_3, r_2, m_1, hd, rfl, rfl, rfl, hp, h⟩
    refine ⟨_, cellL h 2 0 rfl rfl rfl, _, cellL h 2 1 rfl rfl rfl, ?_⟩
    replace h := h.pick [0, 0, 1]
    dsimp only [pickL, pickR, nthH, delH, dropH, List.cons_append, List.nil_append] at h
    refine nat_Nat_made_ok h hp ?_
    rintro r_3 r_4 list_5 m_4 p_6 n_5 c_6 hd_3 w rfl h hp
    have cpp_6 := rowCap h 1 rfl
    refine ⟨_, _, rfl, ?_⟩
    refine cond_both hp (fun hp => ?_) (fun hp => ?_)
    · replace h := h.sel [0, 0, 0] 1
      dsimp only [pickL, pickR, nthH, delH, dropH, List.cons_append, List.nil_append] at h
      exact hR 0 r_4 list_5 now_3 m_4 p_6 list_5.length c_6 hd_3 _ rfl h hp
    replace h := h.sel [0, 0, 1, 0] 0
    dsimp only [pickL, pickR, nthH, delH, dropH, List.cons_append, List.nil_append] at h
    exact ⟨list_5, p_6, list_5.length, c_6, r_3, m_4, hd_3, rfl, rfl, rfl, hp, h⟩
  clear hq
  refine ⟨_, cellL h 0 0 rfl rfl rfl, _, cellL h 0 1 rfl rfl rfl, ?_⟩
  refine addr_May_ok h hp ?_
  intro r w h hp
  refine ⟨_, rfl, ?_⟩
  refine cond_both hp (fun hp => ?_) (fun hp => ?_)
  · exact ⟨list, p_1, list.length, c_1, now, rfl, rfl, rfl, rfl, rfl, hp, h⟩
  refine cond_both hp (fun hp => ?_) (fun hp => ?_)
  · exact ⟨list, p_1, list.length, c_1, now, rfl, rfl, rfl, rfl, rfl, hp, h⟩
  refine cond_both hp (fun hp => ?_) (fun hp => ?_)
  · exact ⟨list, p_1, list.length, c_1, now, rfl, rfl, rfl, rfl, rfl, hp, h⟩
  replace h := h.pick [1, 1, 1]
  dsimp only [pickL, pickR, nthH, delH, dropH, List.cons_append, List.nil_append] at h
  refine nat_Nat_on_ok h hp ?_
  rintro r_1 list_3 now_4 p_4 n_3 c_4 w rfl h hp
  have cpp_4 := rowCap h 1 rfl
  refine ⟨_, rfl, ?_⟩
  replace h := h.sel [3, 0, 0, 0] 0
  dsimp only [pickL, pickR, nthH, delH, dropH, List.cons_append, List.nil_append] at h
  exact ⟨list_3, p_4, list_3.length, c_4, now_4, rfl, rfl, rfl, rfl, rfl, hp, h⟩

/-! embrasure/embrasurelaw08.NatBack (6) -/
def embrasurelaw08_NatBack_wp (classes : Int) (ends_x : Int) (ends_x_1 : Int) (ends_x_2 : Int) (ends_x_3 : Int) (script : List (Int × Int × Int × Int × Int × Int × Int × Int)) (K : Bool → Prop) : Prop :=
  embrasurelaw08_awake_wp (fun (r : Bool) => cond (!r) (K false) (embrasurelaw08_Box_wp classes (fun (r_1 : Int) (r_2 : Int) (r_3 : Int) (r_4 : Int) (r_5 : Int) (r_6 : Int) (r_7 : Int) => nat_New_wp r_1 r_2 r_3 r_4 r_5 r_6 r_7 (fun (r_8 : Int) => joinP1 (fun (t45 : Bool) => cond t45 (K false) (joinP0 (False) (fun (Q_1 : Prop) => ∃ (I : Nat → Int → Prop), (∃ (n_4 : Nat), I n_4 0) ∧ ∀ (n_2 : Nat) (i12 : Int), I n_2 i12 → (joinP1 (fun (t53 : Bool) => cond t53 (0 ≤ (i12 : Int) ∧ (i12 : Int) < ((script.length : Nat) : Int) ∧ (∀ (x_1 : Int × Int × Int × Int × Int × Int × Int × Int), script[Int.toNat i12]? = some x_1 → (cond ((x_1.1 : Int) == 0) (0 ≤ (i12 : Int) ∧ (i12 : Int) < ((script.length : Nat) : Int) ∧ (∀ (x_2 : Int × Int × Int × Int × Int × Int × Int × Int), script[Int.toNat i12]? = some x_2 → (0 ≤ (i12 : Int) ∧ (i12 : Int) < ((script.length : Nat) : Int) ∧ (∀ (x_3 : Int × Int × Int × Int × Int × Int × Int × Int), script[Int.toNat i12]? = some x_3 → (False))))) (joinP1 (fun (t88 : Bool) => cond t88 (0 ≤ (i12 : Int) ∧ (i12 : Int) < ((script.length : Nat) : Int) ∧ (∀ (x_6 : Int × Int × Int × Int × Int × Int × Int × Int), script[Int.toNat i12]? = some x_6 → (0 ≤ (i12 : Int) ∧ (i12 : Int) < ((script.length : Nat) : Int) ∧ (∀ (x_7 : Int × Int × Int × Int × Int × Int × Int × Int), script[Int.toNat i12]? = some x_7 → (0 ≤ (i12 : Int) ∧ (i12 : Int) < ((script.length : Nat) : Int) ∧ (∀ (x_8 : Int × Int × Int × Int × Int × Int × Int × Int), script[Int.toNat i12]? = some x_8 → (False))))))) (∃ (n_3 : Nat), n_3 < n_2 ∧ I n_3 (IntKind.wrap .i64 (i12 + 1)))) (fun (Q_3 : Bool → Prop) => 0 ≤ (i12 : Int) ∧ (i12 : Int) < ((script.length : Nat) : Int) ∧ (∀ (x_4 : Int × Int × Int × Int × Int × Int × Int × Int), script[Int.toNat i12]? = some x_4 → (cond ((x_4.1 : Int) == 2) (0 ≤ (i12 : Int) ∧ (i12 : Int) < ((script.length : Nat) : Int) ∧ (∀ (x_5 : Int × Int × Int × Int × Int × Int × Int × Int), script[Int.toNat i12]? = some x_5 → (Q_3 (!(((x_5.2.2.1 : Int) == ends_x) && (((x_5.2.2.2.1 : Int) == ends_x_1) && true)))))) (Q_3 false)))))))) (Q_1 )) (fun (Q_2 : Bool → Prop) => cond (decide ((i12 : Int) < ((script.length : Nat) : Int))) (Q_2 (decide ((i12 : Int) < 60))) (Q_2 false)))))) (fun (Q : Bool → Prop) => Q true)) (fun (r_9 : Int) (box : Int) (box_1 : Int) (box_2 : Int) (box_3 : Int) (box_4 : Int) (box_5 : Int) (box_6 : Int) (list : List (Option Nat)) (now : Int) => joinP1 (fun (t45_1 : Bool) => cond t45_1 (K false) (joinP3 (fun (list_1 : List (Option Nat)) (now_1 : Int) (m_1 : List (Nat × (Int × Int × Int × Int × Int × Int × Bool × (List (Int × Int))))) => nat_Nat_Out_wp box box_1 box_2 box_3 box_4 box_5 box_6 list_1 now_1 2 ends_x ends_x_1 ends_x_2 ends_x_3 m_1 (fun (r_15 : Int) (r_16 : Int) (r_17 : Int) (list_5 : List (Option Nat)) (now_5 : Int) (m_5 : List (Nat × (Int × Int × Int × Int × Int × Int × Bool × (List (Int × Int))))) => cond ((r_17 : Int) != 0) (cond ((r_17 : Int) == 10) (K true) (K ((r_17 : Int) == 1))) (nat_Nat_In_wp box box_1 box_2 box_3 box_4 box_5 box_6 list_5 now_5 3 r_16 ends_x_2 ends_x_3 m_5 (fun (r_18 : Int) (r_19 : Int) (r_20 : Int) (list_6 : List (Option Nat)) (now_6 : Int) (m_6 : List (Nat × (Int × Int × Int × Int × Int × Int × Bool × (List (Int × Int))))) => nat_Nat_In_wp box box_1 box_2 box_3 box_4 box_5 box_6 list_6 now_6 31 r_16 ends_x_2 ends_x_3 m_6 (fun (r_21 : Int) (r_22 : Int) (r_23 : Int) (list_7 : List (Option Nat)) (now_7 : Int) (m_7 : List (Nat × (Int × Int × Int × Int × Int × Int × Bool × (List (Int × Int))))) => joinP1 (fun (t173 : Bool) => cond t173 (K false) (nat_Nat_All_wp box box_1 box_2 box_3 box_4 box_5 box_6 list_7 now_7 31 m_7 (fun (rs : List (Int × Int × Int × Int × Int × Int × Bool)) (list_8 : List (Option Nat)) (now_8 : Int) (m_8 : List (Nat × (Int × Int × Int × Int × Int × Int × Bool × (List (Int × Int))))) => joinP0 (nat_Nat_In_wp box box_1 box_2 box_3 box_4 box_5 box_6 list_8 now_8 31 r_16 77 1 m_8 (fun (r_24 : Int) (r_25 : Int) (r_26 : Int) (list_9 : List (Option Nat)) (now_9 : Int) (m_9 : List (Nat × (Int × Int × Int × Int × Int × Int × Bool × (List (Int × Int))))) => joinP1 (fun (asked23 : Bool) => joinP1 (fun (sent24_2 : Bool) => cond sent24_2 (K true) (cond asked23 (K (((r_26 : Int) == 0) == true)) (K (((r_26 : Int) == 0) == ((r_5 : Int) == 0))))) (fun (Q_11 : Bool → Prop) => ∃ (I_4 : Nat → Bool → Int → Prop), (∃ (n_32 : Nat), I_4 n_32 ((ends_x_2 : Int) == 77) 0) ∧ ∀ (n_29 : Nat) (sent24_3 : Bool) (i26 : Int), I_4 n_29 sent24_3 i26 → (joinP1 (fun (t236 : Bool) => cond t236 (cond sent24_3 (∃ (n_30 : Nat), n_30 < n_29 ∧ I_4 n_30 true (IntKind.wrap .i64 (i26 + 1))) (0 ≤ (i26 : Int) ∧ (i26 : Int) < ((script.length : Nat) : Int) ∧ (∀ (x_21 : Int × Int × Int × Int × Int × Int × Int × Int), script[Int.toNat i26]? = some x_21 → (∃ (n_31 : Nat), n_31 < n_29 ∧ I_4 n_31 ((x_21.2.2.2.2.1 : Int) == 77) (IntKind.wrap .i64 (i26 + 1)))))) (Q_11 sent24_3)) (fun (Q_12 : Bool → Prop) => cond (decide ((i26 : Int) < ((script.length : Nat) : Int))) (Q_12 (decide ((i26 : Int) < 60))) (Q_12 false))))) (fun (Q_10 : Bool → Prop) => ∃ (I_3 : Nat → Bool → Int → Prop), (∃ (n_28 : Nat), I_3 n_28 false 0) ∧ ∀ (n_24 : Nat) (asked23_1 : Bool) (i25 : Int), I_3 n_24 asked23_1 i25 → (cond (decide ((i25 : Int) < ((rs.length : Nat) : Int))) (cond asked23_1 (∃ (n_25 : Nat), n_25 < n_24 ∧ I_3 n_25 true (IntKind.wrap .i64 (i25 + 1))) (0 ≤ (i25 : Int) ∧ (i25 : Int) < ((rs.length : Nat) : Int) ∧ (∀ (x_19 : Int × Int × Int × Int × Int × Int × Bool), rs[Int.toNat i25]? = some x_19 → (cond ((x_19.2.2.2.2.1 : Int) == r_16) (0 ≤ (i25 : Int) ∧ (i25 : Int) < ((rs.length : Nat) : Int) ∧ (∀ (x_20 : Int × Int × Int × Int × Int × Int × Bool), rs[Int.toNat i25]? = some x_20 → (∃ (n_26 : Nat), n_26 < n_24 ∧ I_3 n_26 x_20.2.2.2.2.2.2 (IntKind.wrap .i64 (i25 + 1))))) (∃ (n_27 : Nat), n_27 < n_24 ∧ I_3 n_27 false (IntKind.wrap .i64 (i25 + 1))))))) (Q_10 asked23_1))))) (fun (Q_9 : Prop) => ∃ (I_2 : Nat → Int → Prop), (∃ (n_22 : Nat), I_2 n_22 1) ∧ ∀ (n_20 : Nat) (i20 : Int), I_2 n_20 i20 → (cond (decide ((i20 : Int) < ((rs.length : Nat) : Int))) (0 ≤ ((IntKind.wrap .i64 (i20 - 1)) : Int) ∧ ((IntKind.wrap .i64 (i20 - 1)) : Int) < ((rs.length : Nat) : Int) ∧ (∀ (x_17 : Int × Int × Int × Int × Int × Int × Bool), rs[Int.toNat (IntKind.wrap .i64 (i20 - 1))]? = some x_17 → (0 ≤ (i20 : Int) ∧ (i20 : Int) < ((rs.length : Nat) : Int) ∧ (∀ (x_18 : Int × Int × Int × Int × Int × Int × Bool), rs[Int.toNat i20]? = some x_18 → (cond (decide ((x_17.2.2.2.2.1 : Int) ≥ x_18.2.2.2.2.1)) (K false) (∃ (n_21 : Nat), n_21 < n_20 ∧ I_2 n_21 (IntKind.wrap .i64 (i20 + 1)))))))) (Q_9 )))))) (fun (Q_8 : Bool → Prop) => cond ((r_20 : Int) != 0) (Q_8 true) (cond (!(((r_18 : Int) == ends_x) && (((r_19 : Int) == ends_x_1) && true))) (Q_8 true) (cond ((r_23 : Int) != 0) (Q_8 true) (cond (!(((r_21 : Int) == ends_x) && (((r_22 : Int) == ends_x_1) && true))) (Q_8 true) (cond ((r_15 : Int) != r_1) (Q_8 true) (cond (decide ((r_16 : Int) < r_2)) (Q_8 true) (Q_8 (decide ((r_16 : Int) > r_3)))))))))))))) (fun (Q_5 : List (Option Nat) → Int → List (Nat × (Int × Int × Int × Int × Int × Int × Bool × (List (Int × Int)))) → Prop) => ∃ (I_1 : Nat → List (Option Nat) → Int → Int → List (Nat × (Int × Int × Int × Int × Int × Int × Bool × (List (Int × Int)))) → Prop), (∃ (n_14 : Nat), I_1 n_14 list now 0 ([] : List (Nat × (Int × Int × Int × Int × Int × Int × Bool × (List (Int × Int)))))) ∧ ∀ (n_8 : Nat) (list_2 : List (Option Nat)) (now_2 : Int) (i12_3 : Int) (m_2 : List (Nat × (Int × Int × Int × Int × Int × Int × Bool × (List (Int × Int))))), I_1 n_8 list_2 now_2 i12_3 m_2 → (joinP1 (fun (t53_1 : Bool) => cond t53_1 (0 ≤ (i12_3 : Int) ∧ (i12_3 : Int) < ((script.length : Nat) : Int) ∧ (∀ (x_9 : Int × Int × Int × Int × Int × Int × Int × Int), script[Int.toNat i12_3]? = some x_9 → (cond ((x_9.1 : Int) == 0) (0 ≤ (i12_3 : Int) ∧ (i12_3 : Int) < ((script.length : Nat) : Int) ∧ (∀ (x_10 : Int × Int × Int × Int × Int × Int × Int × Int), script[Int.toNat i12_3]? = some x_10 → (0 ≤ (i12_3 : Int) ∧ (i12_3 : Int) < ((script.length : Nat) : Int) ∧ (∀ (x_11 : Int × Int × Int × Int × Int × Int × Int × Int), script[Int.toNat i12_3]? = some x_11 → (nat_Nat_Out_wp box box_1 box_2 box_3 box_4 box_5 box_6 list_2 now_2 1 x_10.2.2.1 x_10.2.2.2.1 x_11.2.2.2.2.1 x_11.2.2.2.2.2.1 m_2 (fun (r_10 : Int) (r_11 : Int) (r_12 : Int) (list_3 : List (Option Nat)) (now_3 : Int) (m_3 : List (Nat × (Int × Int × Int × Int × Int × Int × Bool × (List (Int × Int))))) => ∃ (n_10 : Nat), n_10 < n_8 ∧ I_1 n_10 list_3 now_3 (IntKind.wrap .i64 (i12_3 + 1)) m_3)))))) (joinP1 (fun (t88_1 : Bool) => cond t88_1 (0 ≤ (i12_3 : Int) ∧ (i12_3 : Int) < ((script.length : Nat) : Int) ∧ (∀ (x_14 : Int × Int × Int × Int × Int × Int × Int × Int), script[Int.toNat i12_3]? = some x_14 → (0 ≤ (i12_3 : Int) ∧ (i12_3 : Int) < ((script.length : Nat) : Int) ∧ (∀ (x_15 : Int × Int × Int × Int × Int × Int × Int × Int), script[Int.toNat i12_3]? = some x_15 → (0 ≤ (i12_3 : Int) ∧ (i12_3 : Int) < ((script.length : Nat) : Int) ∧ (∀ (x_16 : Int × Int × Int × Int × Int × Int × Int × Int), script[Int.toNat i12_3]? = some x_16 → (nat_Nat_Ask_wp box box_1 box_2 box_3 box_4 box_5 box_6 list_2 now_2 1 x_14.2.2.1 x_14.2.2.2.1 x_15.2.2.2.2.2.2.1 x_16.2.2.2.2.2.2.2 m_2 (fun (r_13 : Int) (r_14 : Int) (list_4 : List (Option Nat)) (now_4 : Int) (m_4 : List (Nat × (Int × Int × Int × Int × Int × Int × Bool × (List (Int × Int))))) => ∃ (n_12 : Nat), n_12 < n_8 ∧ I_1 n_12 list_4 now_4 (IntKind.wrap .i64 (i12_3 + 1)) m_4)))))))) (∃ (n_13 : Nat), n_13 < n_8 ∧ I_1 n_13 list_2 now_2 (IntKind.wrap .i64 (i12_3 + 1)) m_2)) (fun (Q_7 : Bool → Prop) => 0 ≤ (i12_3 : Int) ∧ (i12_3 : Int) < ((script.length : Nat) : Int) ∧ (∀ (x_12 : Int × Int × Int × Int × Int × Int × Int × Int), script[Int.toNat i12_3]? = some x_12 → (cond ((x_12.1 : Int) == 2) (0 ≤ (i12_3 : Int) ∧ (i12_3 : Int) < ((script.length : Nat) : Int) ∧ (∀ (x_13 : Int × Int × Int × Int × Int × Int × Int × Int), script[Int.toNat i12_3]? = some x_13 → (Q_7 (!(((x_13.2.2.1 : Int) == ends_x) && (((x_13.2.2.2.1 : Int) == ends_x_1) && true)))))) (Q_7 false)))))))) (Q_5 list_2 now_2 m_2)) (fun (Q_6 : Bool → Prop) => cond (decide ((i12_3 : Int) < ((script.length : Nat) : Int))) (Q_6 (decide ((i12_3 : Int) < 60))) (Q_6 false)))))) (fun (Q_4 : Bool → Prop) => Q_4 ((r_9 : Int) != 0))))))
theorem embrasurelaw08_NatBack_ok {p_1 : Option Addr} {n_1 : Nat} {c_1 : Nat} {classes : Int} {ends_x : Int} {ends_x_1 : Int} {ends_x_2 : Int} {ends_x_3 : Int} {script : List (Int × Int × Int × Int × Int × Int × Int × Int)} {FL : List HP} {w : World} {K : Bool → Prop} {R : Value → World → Prop}
  (hF_script : ∀ w, Mem FL w → Rd w 8 p_1 enc47 script) (hl_script : n_1 = script.length) (hc_script : n_1 ≤ c_1)
  (h : Mem (FL) w) (hp : embrasurelaw08_NatBack_wp classes ends_x ends_x_1 ends_x_2 ends_x_3 script K)
  (hR : ∀ (r : Bool) (w : World), Mem (FL) w → K r → R (Value.bool r) w) :
  CallV Try.prog 6 #[(Value.int .u8 classes), (Value.agg #[(Value.int .u32 ends_x), (Value.int .i64 ends_x_1), (Value.int .u32 ends_x_2), (Value.int .i64 ends_x_3)]), (Value.slice p_1 n_1 c_1)] w R := by
  refine embrasurelaw08_NatBack_call ?_
  unfold embrasurelaw08_NatBack
  unfold embrasurelaw08_NatBack_wp at hp
  subst hl_script
  replace h := stoNil stoE71 (fun _ => default) h
  refine newL (o := [(Value.int .u32 ends_x), (Value.int .i64 ends_x_1), (Value.int .u32 ends_x_2), (Value.int .i64 ends_x_3)]) h ?_
  intro b_1 w h
  refine embrasurelaw08_awake_ok h hp ?_
  intro r w h hp
  refine ⟨_, rfl, ?_⟩
  refine cond_both hp (fun hp => ?_) (fun hp => ?_)
  · replace h := h.sel [] 2
    dsimp only [pickL, pickR, nthH, delH, dropH, List.cons_append, List.nil_append] at h
    exact hR false _ h hp
  refine ⟨by decide, by decide, ?_⟩
  refine ⟨_, cellL h 0 0 rfl rfl rfl, _, cellL h 0 1 rfl rfl rfl, ?_⟩
  refine newL (o := [(Value.int .u32 0), (Value.int .i64 0)]) h ?_
  intro b_2 w h
  refine storeL (ys := [(Value.int .u32 ends_x), (Value.int .i64 ends_x_1)]) h 0 0 rfl rfl rfl sz24 rfl rfl ?_
  intro w h
  dsimp only [setH, setVs, setV] at h
  refine ⟨by decide, by decide, ?_⟩
  refine ⟨_, cellL h 1 2 rfl rfl rfl, _, cellL h 1 3 rfl rfl rfl, ?_⟩
  refine newL (o := [(Value.int .u32 0), (Value.int .i64 0)]) h ?_
  intro b_3 w h
  refine storeL (ys := [(Value.int .u32 ends_x_2), (Value.int .i64 ends_x_3)]) h 0 0 rfl rfl rfl sz24 rfl rfl ?_
  intro w h
  dsimp only [setH, setVs, setV] at h
  refine embrasurelaw08_Box_ok h hp ?_
  intro r_1 r_2 r_3 r_4 r_5 r_6 r_7 w h hp
  refine ⟨_, _, _, _, _, _, _, rfl, ?_⟩
  refine newL (o := [(Value.int .u32 0), (Value.int .i64 0), (Value.int .i64 0), (Value.int .i64 0), (Value.int .i64 0), (Value.int .i64 0), (Value.int .i64 0)]) h ?_
  intro b_4 w h
  refine storeL (ys := [(Value.int .u32 r_1), (Value.int .i64 r_2), (Value.int .i64 r_3), (Value.int .i64 r_4), (Value.int .i64 r_5), (Value.int .i64 r_6), (Value.int .i64 r_7)]) h 0 0 rfl rfl rfl sz28 rfl rfl ?_
  intro w h
  dsimp only [setH, setVs, setV] at h
  refine ⟨_, cellL h 0 0 rfl rfl rfl, _, cellL h 0 1 rfl rfl rfl, _, cellL h 0 2 rfl rfl rfl, _, cellL h 0 3 rfl rfl rfl, _, cellL h 0 4 rfl rfl rfl, _, cellL h 0 5 rfl rfl rfl, _, cellL h 0 6 rfl rfl rfl, ?_⟩
  refine nat_New_ok h hp ?_ ?_
  · intro r_8 w h hp
    refine ⟨_, _, rfl, ?_⟩
    obtain ⟨Q, hq, hp⟩ := hp
    refine ⟨fun script2p script2l script2c in7 to8 box9 n10 t45 w => p_1 = script2p ∧ script.length = script2l ∧ c_1 = script2c ∧ (Addr.mk b_2 0 none) = in7 ∧ (Addr.mk b_3 0 none) = to8 ∧ (Addr.mk b_4 0 none) = box9 ∧ none = n10 ∧ Q t45 ∧ Mem (cel b_4 28 [(Value.int .u32 r_1), (Value.int .i64 r_2), (Value.int .i64 r_3), (Value.int .i64 r_4), (Value.int .i64 r_5), (Value.int .i64 r_6), (Value.int .i64 r_7)] :: cel b_3 24 [(Value.int .u32 ends_x_2), (Value.int .i64 ends_x_3)] :: cel b_2 24 [(Value.int .u32 ends_x), (Value.int .i64 ends_x_1)] :: cel b_1 39 [(Value.int .u32 ends_x), (Value.int .i64 ends_x_1), (Value.int .u32 ends_x_2), (Value.int .i64 ends_x_3)] :: stoP stoE71 (fun _ => default) ([] : List (Nat × (Int × Int × Int × Int × Int × Int × Bool × (List (Int × Int))))) :: FL) w, ?_, ?_⟩
    · rintro script2p script2l script2c in7 to8 box9 n10 t45 w ⟨rfl, rfl, rfl, rfl, rfl, rfl, rfl, hp, h⟩
      replace hp := hq t45 hp
      unfold embrasurelaw08_NatBack_j1
      refine cond_both hp (fun hp => ?_) (fun hp => ?_)
      · replace h := h.sel [] 5
        dsimp only [pickL, pickR, nthH, delH, dropH, List.cons_append, List.nil_append] at h
        exact hR false _ h hp
      obtain ⟨Q_1, hq, hp⟩ := hp
      refine ⟨fun script2_1p script2_1l script2_1c in7_1 to8_1 box9_1 n10_1 w => p_1 = script2_1p ∧ script.length = script2_1l ∧ c_1 = script2_1c ∧ (Addr.mk b_2 0 none) = in7_1 ∧ (Addr.mk b_3 0 none) = to8_1 ∧ (Addr.mk b_4 0 none) = box9_1 ∧ none = n10_1 ∧ Q_1 ∧ Mem (cel b_4 28 [(Value.int .u32 r_1), (Value.int .i64 r_2), (Value.int .i64 r_3), (Value.int .i64 r_4), (Value.int .i64 r_5), (Value.int .i64 r_6), (Value.int .i64 r_7)] :: cel b_3 24 [(Value.int .u32 ends_x_2), (Value.int .i64 ends_x_3)] :: cel b_2 24 [(Value.int .u32 ends_x), (Value.int .i64 ends_x_1)] :: cel b_1 39 [(Value.int .u32 ends_x), (Value.int .i64 ends_x_1), (Value.int .u32 ends_x_2), (Value.int .i64 ends_x_3)] :: stoP stoE71 (fun _ => default) ([] : List (Nat × (Int × Int × Int × Int × Int × Int × Bool × (List (Int × Int))))) :: FL) w, ?_, ?_⟩
      · rintro script2_1p script2_1l script2_1c in7_1 to8_1 box9_1 n10_1 w ⟨rfl, rfl, rfl, rfl, rfl, rfl, rfl, hp, h⟩
        replace hp := hq  hp
        unfold embrasurelaw08_NatBack_j2
        refine ⟨_, cellL h 2 0 rfl rfl rfl, _, cellL h 2 1 rfl rfl rfl, ?_⟩
        refine ⟨_, cellL h 1 0 rfl rfl rfl, _, cellL h 1 1 rfl rfl rfl, ?_⟩
        exact hp.elim
      clear hq
      obtain ⟨I, ⟨n_4, h0⟩, hq⟩ := hp
      refine ⟨fun n_2 script2_2p script2_2l script2_2c in7_2 to8_2 box9_2 n10_2 i12 w => p_1 = script2_2p ∧ script.length = script2_2l ∧ c_1 = script2_2c ∧ (Addr.mk b_2 0 none) = in7_2 ∧ (Addr.mk b_3 0 none) = to8_2 ∧ (Addr.mk b_4 0 none) = box9_2 ∧ none = n10_2 ∧ I n_2 i12 ∧ Mem (cel b_4 28 [(Value.int .u32 r_1), (Value.int .i64 r_2), (Value.int .i64 r_3), (Value.int .i64 r_4), (Value.int .i64 r_5), (Value.int .i64 r_6), (Value.int .i64 r_7)] :: cel b_3 24 [(Value.int .u32 ends_x_2), (Value.int .i64 ends_x_3)] :: cel b_2 24 [(Value.int .u32 ends_x), (Value.int .i64 ends_x_1)] :: cel b_1 39 [(Value.int .u32 ends_x), (Value.int .i64 ends_x_1), (Value.int .u32 ends_x_2), (Value.int .i64 ends_x_3)] :: stoP stoE71 (fun _ => default) ([] : List (Nat × (Int × Int × Int × Int × Int × Int × Bool × (List (Int × Int))))) :: FL) w, ⟨n_4, rfl, rfl, rfl, rfl, rfl, rfl, rfl, h0, h⟩, ?_⟩
      clear h0 h
      rintro n_2 script2_2p script2_2l script2_2c in7_2 to8_2 box9_2 n10_2 i12 w ⟨rfl, rfl, rfl, rfl, rfl, rfl, rfl, hp, h⟩
      replace hp := hq n_2 i12 hp
      clear hq
      unfold embrasurelaw08_NatBack_l11
      obtain ⟨Q_2, hq, hp⟩ := hp
      refine ⟨fun script2_3p script2_3l script2_3c in7_3 to8_3 box9_3 n10_3 i12_1 t53 w => p_1 = script2_3p ∧ script.length = script2_3l ∧ c_1 = script2_3c ∧ (Addr.mk b_2 0 none) = in7_3 ∧ (Addr.mk b_3 0 none) = to8_3 ∧ (Addr.mk b_4 0 none) = box9_3 ∧ none = n10_3 ∧ i12 = i12_1 ∧ Q_2 t53 ∧ Mem (cel b_4 28 [(Value.int .u32 r_1), (Value.int .i64 r_2), (Value.int .i64 r_3), (Value.int .i64 r_4), (Value.int .i64 r_5), (Value.int .i64 r_6), (Value.int .i64 r_7)] :: cel b_3 24 [(Value.int .u32 ends_x_2), (Value.int .i64 ends_x_3)] :: cel b_2 24 [(Value.int .u32 ends_x), (Value.int .i64 ends_x_1)] :: cel b_1 39 [(Value.int .u32 ends_x), (Value.int .i64 ends_x_1), (Value.int .u32 ends_x_2), (Value.int .i64 ends_x_3)] :: stoP stoE71 (fun _ => default) ([] : List (Nat × (Int × Int × Int × Int × Int × Int × Bool × (List (Int × Int))))) :: FL) w, ?_, ?_⟩
      · rintro script2_3p script2_3l script2_3c in7_3 to8_3 box9_3 n10_3 i12_1 t53 w ⟨rfl, rfl, rfl, rfl, rfl, rfl, rfl, rfl, hp, h⟩
        replace hp := hq t53 hp
        unfold embrasurelaw08_NatBack_j12
        refine cond_both' hp (fun hp => ?_) (fun hp => ?_)
        · exact ⟨rfl, rfl, rfl, rfl, rfl, rfl, rfl, hp, h⟩
        obtain ⟨ia_1, ja_1, hp⟩ := hp
        obtain ⟨a_1, ha_1⟩ := rdAddr (hF_script _ (h.drop 5)) rfl ia_1 ja_1
        refine ⟨a_1, ha_1, ia_1, ja_1, ?_⟩
        obtain ⟨x_1, hx_1, hc⟩ := rdCell (hF_script _ (h.drop 5)) ha_1 rfl ia_1 ja_1
        replace hp := hp x_1 hx_1
        refine ⟨_, hc 0 _ rfl, ?_⟩
        refine cond_both hp (fun hp => ?_) (fun hp => ?_)
        · replace h := h.drew
          obtain ⟨ia_2, ja_2, hp⟩ := hp
          obtain ⟨a_2, ha_2⟩ := rdAddr (hF_script _ (h.drop 5)) rfl ia_2 ja_2
          refine ⟨a_2, ha_2, ia_2, ja_2, ?_⟩
          obtain ⟨x_2, hx_2, hc⟩ := rdCell2 (hF_script _ (h.drop 5)) ha_2 rfl ia_2 ja_2
          replace hp := hp x_2 hx_2
          refine ⟨_, hc 2 0 _ rfl, _, hc 2 1 _ rfl, ?_⟩
          obtain ⟨ia_3, ja_3, hp⟩ := hp
          obtain ⟨a_3, ha_3⟩ := rdAddr (hF_script _ (h.drop 5)) rfl ia_3 ja_3
          refine ⟨a_3, ha_3, ia_3, ja_3, ?_⟩
          obtain ⟨x_3, hx_3, hc⟩ := rdCell2 (hF_script _ (h.drop 5)) ha_3 rfl ia_3 ja_3
          replace hp := hp x_3 hx_3
          refine ⟨_, hc 4 0 _ rfl, _, hc 4 1 _ rfl, ?_⟩
          exact hp.elim
        obtain ⟨Q_3, hq, hp⟩ := hp
        refine ⟨fun script2_4p script2_4l script2_4c in7_4 to8_4 box9_4 n10_4 i12_2 t88 w => p_1 = script2_4p ∧ script.length = script2_4l ∧ c_1 = script2_4c ∧ (Addr.mk b_2 0 none) = in7_4 ∧ (Addr.mk b_3 0 none) = to8_4 ∧ (Addr.mk b_4 0 none) = box9_4 ∧ none = n10_4 ∧ i12 = i12_2 ∧ Q_3 t88 ∧ Mem (cel b_4 28 [(Value.int .u32 r_1), (Value.int .i64 r_2), (Value.int .i64 r_3), (Value.int .i64 r_4), (Value.int .i64 r_5), (Value.int .i64 r_6), (Value.int .i64 r_7)] :: cel b_3 24 [(Value.int .u32 ends_x_2), (Value.int .i64 ends_x_3)] :: cel b_2 24 [(Value.int .u32 ends_x), (Value.int .i64 ends_x_1)] :: cel b_1 39 [(Value.int .u32 ends_x), (Value.int .i64 ends_x_1), (Value.int .u32 ends_x_2), (Value.int .i64 ends_x_3)] :: stoP stoE71 (fun _ => default) ([] : List (Nat × (Int × Int × Int × Int × Int × Int × Bool × (List (Int × Int))))) :: FL) w, ?_, ?_⟩
        · rintro script2_4p script2_4l script2_4c in7_4 to8_4 box9_4 n10_4 i12_2 t88 w ⟨rfl, rfl, rfl, rfl, rfl, rfl, rfl, rfl, hp, h⟩
          replace hp := hq t88 hp
          unfold embrasurelaw08_NatBack_j13
          refine cond_both' hp (fun hp => ?_) (fun hp => ?_)
          · obtain ⟨n_3, hn, hp⟩ := hp
            exact ⟨n_3, hn, rfl, rfl, rfl, rfl, rfl, rfl, rfl, hp, h⟩
          replace h := h.drew
          obtain ⟨ia_6, ja_6, hp⟩ := hp
          obtain ⟨a_6, ha_6⟩ := rdAddr (hF_script _ (h.drop 5)) rfl ia_6 ja_6
          refine ⟨a_6, ha_6, ia_6, ja_6, ?_⟩
          obtain ⟨x_6, hx_6, hc⟩ := rdCell2 (hF_script _ (h.drop 5)) ha_6 rfl ia_6 ja_6
          replace hp := hp x_6 hx_6
          refine ⟨_, hc 2 0 _ rfl, _, hc 2 1 _ rfl, ?_⟩
          obtain ⟨ia_7, ja_7, hp⟩ := hp
          obtain ⟨a_7, ha_7⟩ := rdAddr (hF_script _ (h.drop 5)) rfl ia_7 ja_7
          refine ⟨a_7, ha_7, ia_7, ja_7, ?_⟩
          obtain ⟨x_7, hx_7, hc⟩ := rdCell (hF_script _ (h.drop 5)) ha_7 rfl ia_7 ja_7
          replace hp := hp x_7 hx_7
          refine ⟨_, hc 6 _ rfl, ?_⟩
          obtain ⟨ia_8, ja_8, hp⟩ := hp
          obtain ⟨a_8, ha_8⟩ := rdAddr (hF_script _ (h.drop 5)) rfl ia_8 ja_8
          refine ⟨a_8, ha_8, ia_8, ja_8, ?_⟩
          obtain ⟨x_8, hx_8, hc⟩ := rdCell (hF_script _ (h.drop 5)) ha_8 rfl ia_8 ja_8
          replace hp := hp x_8 hx_8
          refine ⟨_, hc 7 _ rfl, ?_⟩
          exact hp.elim
        clear hq
        replace h := h.drew
        obtain ⟨ia_4, ja_4, hp⟩ := hp
        obtain ⟨a_4, ha_4⟩ := rdAddr (hF_script _ (h.drop 5)) rfl ia_4 ja_4
        refine ⟨a_4, ha_4, ia_4, ja_4, ?_⟩
        obtain ⟨x_4, hx_4, hc⟩ := rdCell (hF_script _ (h.drop 5)) ha_4 rfl ia_4 ja_4
        replace hp := hp x_4 hx_4
        refine ⟨_, hc 0 _ rfl, ?_⟩
        refine cond_both' hp (fun hp => ?_) (fun hp => ?_)
        · exact ⟨rfl, rfl, rfl, rfl, rfl, rfl, rfl, rfl, hp, h⟩
        obtain ⟨ia_5, ja_5, hp⟩ := hp
        obtain ⟨a_5, ha_5⟩ := rdAddr (hF_script _ (h.drop 5)) rfl ia_5 ja_5
        refine ⟨a_5, ha_5, ia_5, ja_5, ?_⟩
        obtain ⟨x_5, hx_5, hc⟩ := rdCell2 (hF_script _ (h.drop 5)) ha_5 rfl ia_5 ja_5
        replace hp := hp x_5 hx_5
        refine ⟨_, hc 2 0 _ rfl, _, hc 2 1 _ rfl, ?_⟩
        refine ⟨_, cellL h 2 0 rfl rfl rfl, _, cellL h 2 1 rfl rfl rfl, ?_⟩
        refine neqAgg (xs := [(Value.int .u32 x_5.2.2.1), (Value.int .i64 x_5.2.2.2.1)]) (ys := [(Value.int .u32 ends_x), (Value.int .i64 ends_x_1)]) eqG24 eqA24 (eqT24 x_5.2.2.1 x_5.2.2.2.1 ends_x ends_x_1) ?_
        refine ⟨_, rfl, ?_⟩
        refine ⟨rfl, ?_⟩
        exact ⟨rfl, rfl, rfl, rfl, rfl, rfl, rfl, rfl, hp, h⟩
      clear hq
      refine cond_both hp (fun hp => ?_) (fun hp => ?_)
      · exact ⟨rfl, rfl, rfl, rfl, rfl, rfl, rfl, rfl, hp, h⟩
      exact ⟨rfl, rfl, rfl, rfl, rfl, rfl, rfl, rfl, hp, h⟩
    clear hq
    refine eqlPtrNN undP30 ?_
    refine ⟨_, rfl, ?_⟩
    refine cond_tt ?_
    exact ⟨rfl, rfl, rfl, rfl, rfl, rfl, rfl, hp, h⟩
  rintro r_9 box box_1 box_2 box_3 box_4 box_5 box_6 list now b_5 p_2 n_5 c_2 w rfl h hp
  have cpp_2 := rowCap h 1 rfl
  refine ⟨_, _, rfl, ?_⟩
  obtain ⟨Q_4, hq, hp⟩ := hp
  refine ⟨fun script2_5p script2_5l script2_5c in7_5 to8_5 box9_5 n10_5 t45_1 w => p_1 = script2_5p ∧ script.length = script2_5l ∧ c_1 = script2_5c ∧ (Addr.mk b_2 0 none) = in7_5 ∧ (Addr.mk b_3 0 none) = to8_5 ∧ (Addr.mk b_4 0 none) = box9_5 ∧ (some (Addr.mk b_5 0 none)) = n10_5 ∧ Q_4 t45_1 ∧ Mem (cel b_5 64 [(Value.int .u32 box), (Value.int .i64 box_1), (Value.int .i64 box_2), (Value.int .i64 box_3), (Value.int .i64 box_4), (Value.int .i64 box_5), (Value.int .i64 box_6), (Value.slice p_2 list.length c_2), (Value.int .i64 now)] :: row enc67 67 1 p_2 c_2 list :: cel b_4 28 [(Value.int .u32 r_1), (Value.int .i64 r_2), (Value.int .i64 r_3), (Value.int .i64 r_4), (Value.int .i64 r_5), (Value.int .i64 r_6), (Value.int .i64 r_7)] :: cel b_3 24 [(Value.int .u32 ends_x_2), (Value.int .i64 ends_x_3)] :: cel b_2 24 [(Value.int .u32 ends_x), (Value.int .i64 ends_x_1)] :: cel b_1 39 [(Value.int .u32 ends_x), (Value.int .i64 ends_x_1), (Value.int .u32 ends_x_2), (Value.int .i64 ends_x_3)] :: stoP stoE71 (fun _ => default) ([] : List (Nat × (Int × Int × Int × Int × Int × Int × Bool × (List (Int × Int))))) :: FL) w, ?_, ?_⟩
  · rintro script2_5p script2_5l script2_5c in7_5 to8_5 box9_5 n10_5 t45_1 w ⟨rfl, rfl, rfl, rfl, rfl, rfl, rfl, hp, h⟩
    replace hp := hq t45_1 hp
    unfold embrasurelaw08_NatBack_j1
    refine cond_both hp (fun hp => ?_) (fun hp => ?_)
    · replace h := h.sel [] 7
      dsimp only [pickL, pickR, nthH, delH, dropH, List.cons_append, List.nil_append] at h
      exact hR false _ h hp
    obtain ⟨Q_5, hq, hp⟩ := hp
    refine ⟨fun script2_6p script2_6l script2_6c in7_6 to8_6 box9_6 n10_6 w => ∃ (list_1 : List (Option Nat)), ∃ (p_3 : Option Addr), ∃ (n_6 : Nat), ∃ (c_3 : Nat), ∃ (now_1 : Int), ∃ (m_1 : List (Nat × (Int × Int × Int × Int × Int × Int × Bool × (List (Int × Int))))), ∃ (hd : Nat → Option Addr × Nat), p_1 = script2_6p ∧ script.length = script2_6l ∧ c_1 = script2_6c ∧ (Addr.mk b_2 0 none) = in7_6 ∧ (Addr.mk b_3 0 none) = to8_6 ∧ (Addr.mk b_4 0 none) = box9_6 ∧ (some (Addr.mk b_5 0 none)) = n10_6 ∧ n_6 = list_1.length ∧ Q_5 list_1 now_1 m_1 ∧ Mem (cel b_5 64 [(Value.int .u32 box), (Value.int .i64 box_1), (Value.int .i64 box_2), (Value.int .i64 box_3), (Value.int .i64 box_4), (Value.int .i64 box_5), (Value.int .i64 box_6), (Value.slice p_3 n_6 c_3), (Value.int .i64 now_1)] :: row enc67 67 1 p_3 c_3 list_1 :: cel b_4 28 [(Value.int .u32 r_1), (Value.int .i64 r_2), (Value.int .i64 r_3), (Value.int .i64 r_4), (Value.int .i64 r_5), (Value.int .i64 r_6), (Value.int .i64 r_7)] :: cel b_3 24 [(Value.int .u32 ends_x_2), (Value.int .i64 ends_x_3)] :: cel b_2 24 [(Value.int .u32 ends_x), (Value.int .i64 ends_x_1)] :: cel b_1 39 [(Value.int .u32 ends_x), (Value.int .i64 ends_x_1), (Value.int .u32 ends_x_2), (Value.int .i64 ends_x_3)] :: stoP stoE71 hd m_1 :: FL) w, ?_, ?_⟩
    · rintro script2_6p script2_6l script2_6c in7_6 to8_6 box9_6 n10_6 w ⟨list_1, p_3, n_6, c_3, now_1, m_1, hd, rfl, rfl, rfl, rfl, rfl, rfl, rfl, rfl, hp, h⟩
      replace hp := hq list_1 now_1 m_1 hp
      unfold embrasurelaw08_NatBack_j2
      have cpp_3 := rowCap h 1 rfl
      refine ⟨_, cellL h 4 0 rfl rfl rfl, _, cellL h 4 1 rfl rfl rfl, ?_⟩
      refine ⟨_, cellL h 3 0 rfl rfl rfl, _, cellL h 3 1 rfl rfl rfl, ?_⟩
      replace h := h.pick [0, 0, 4]
      dsimp only [pickL, pickR, nthH, delH, dropH, List.cons_append, List.nil_append] at h
      refine nat_Nat_Out_ok h hp ?_
      rintro r_15 r_16 r_17 list_5 now_5 m_5 p_7 n_15 c_7 hd_4 w rfl h hp
      have cpp_7 := rowCap h 1 rfl
      refine ⟨_, _, _, rfl, ?_⟩
      refine newL (o := [(Value.int .u32 0), (Value.int .i64 0)]) h ?_
      intro b_6 w h
      refine storeL (ys := [(Value.int .u32 r_15), (Value.int .i64 r_16)]) h 0 0 rfl rfl rfl sz24 rfl rfl ?_
      intro w h
      dsimp only [setH, setVs, setV] at h
      refine cond_both hp (fun hp => ?_) (fun hp => ?_)
      · refine cond_both hp (fun hp => ?_) (fun hp => ?_)
        · replace h := h.sel [] 8
          dsimp only [pickL, pickR, nthH, delH, dropH, List.cons_append, List.nil_append] at h
          exact hR true _ h hp
        replace h := h.sel [] 8
        dsimp only [pickL, pickR, nthH, delH, dropH, List.cons_append, List.nil_append] at h
        exact hR ((r_17 : Int) == 1) _ h hp
      refine ⟨_, cellL h 0 1 rfl rfl rfl, ?_⟩
      refine ⟨_, cellL h 5 0 rfl rfl rfl, _, cellL h 5 1 rfl rfl rfl, ?_⟩
      replace h := h.pick [1, 1, 1]
      dsimp only [pickL, pickR, nthH, delH, dropH, List.cons_append, List.nil_append] at h
      refine nat_Nat_In_ok h hp ?_
      rintro r_18 r_19 r_20 list_6 now_6 m_6 p_8 n_16 c_8 hd_5 w rfl h hp
      have cpp_8 := rowCap h 1 rfl
      refine ⟨_, _, _, rfl, ?_⟩
      refine newL (o := [(Value.int .u32 0), (Value.int .i64 0)]) h ?_
      intro b_7 w h
      refine storeL (ys := [(Value.int .u32 r_18), (Value.int .i64 r_19)]) h 0 0 rfl rfl rfl sz24 rfl rfl ?_
      intro w h
      dsimp only [setH, setVs, setV] at h
      refine ⟨_, cellL h 4 1 rfl rfl rfl, ?_⟩
      refine ⟨_, cellL h 6 0 rfl rfl rfl, _, cellL h 6 1 rfl rfl rfl, ?_⟩
      replace h := h.pick [1, 1, 1]
      dsimp only [pickL, pickR, nthH, delH, dropH, List.cons_append, List.nil_append] at h
      refine nat_Nat_In_ok h hp ?_
      rintro r_21 r_22 r_23 list_7 now_7 m_7 p_9 n_17 c_9 hd_6 w rfl h hp
      have cpp_9 := rowCap h 1 rfl
      refine ⟨_, _, _, rfl, ?_⟩
      refine newL (o := [(Value.int .u32 0), (Value.int .i64 0)]) h ?_
      intro b_8 w h
      refine storeL (ys := [(Value.int .u32 r_21), (Value.int .i64 r_22)]) h 0 0 rfl rfl rfl sz24 rfl rfl ?_
      intro w h
      dsimp only [setH, setVs, setV] at h
      obtain ⟨Q_8, hq, hp⟩ := hp
      refine ⟨fun script2_10p script2_10l script2_10c to8_10 box9_10 n10_10 a13 t173 w => p_1 = script2_10p ∧ script.length = script2_10l ∧ c_1 = script2_10c ∧ (Addr.mk b_3 0 none) = to8_10 ∧ (Addr.mk b_4 0 none) = box9_10 ∧ (some (Addr.mk b_5 0 none)) = n10_10 ∧ (Addr.mk b_6 0 none) = a13 ∧ Q_8 t173 ∧ Mem (cel b_8 24 [(Value.int .u32 r_21), (Value.int .i64 r_22)] :: cel b_5 64 [(Value.int .u32 box), (Value.int .i64 box_1), (Value.int .i64 box_2), (Value.int .i64 box_3), (Value.int .i64 box_4), (Value.int .i64 box_5), (Value.int .i64 box_6), (Value.slice p_9 list_7.length c_9), (Value.int .i64 now_7)] :: row enc67 67 1 p_9 c_9 list_7 :: cel b_7 24 [(Value.int .u32 r_18), (Value.int .i64 r_19)] :: cel b_6 24 [(Value.int .u32 r_15), (Value.int .i64 r_16)] :: cel b_4 28 [(Value.int .u32 r_1), (Value.int .i64 r_2), (Value.int .i64 r_3), (Value.int .i64 r_4), (Value.int .i64 r_5), (Value.int .i64 r_6), (Value.int .i64 r_7)] :: cel b_3 24 [(Value.int .u32 ends_x_2), (Value.int .i64 ends_x_3)] :: cel b_2 24 [(Value.int .u32 ends_x), (Value.int .i64 ends_x_1)] :: cel b_1 39 [(Value.int .u32 ends_x), (Value.int .i64 ends_x_1), (Value.int .u32 ends_x_2), (Value.int .i64 ends_x_3)] :: stoP stoE71 hd_6 m_7 :: FL) w, ?_, ?_⟩
      · rintro script2_10p script2_10l script2_10c to8_10 box9_10 n10_10 a13 t173 w ⟨rfl, rfl, rfl, rfl, rfl, rfl, rfl, hp, h⟩
        replace hp := hq t173 hp
        unfold embrasurelaw08_NatBack_j3
        refine cond_both hp (fun hp => ?_) (fun hp => ?_)
        · replace h := h.sel [] 10
          dsimp only [pickL, pickR, nthH, delH, dropH, List.cons_append, List.nil_append] at h
          exact hR false _ h hp
        replace h := h.pick [1, 1, 7]
        dsimp only [pickL, pickR, nthH, delH, dropH, List.cons_append, List.nil_append] at h
        refine nat_Nat_All_ok h hp ?_
        rintro rs list_8 now_8 m_8 p_10 n_18 c_10 p_11 n_19 c_11 hd_7 w rfl rfl h hp
        have cpp_10 := rowCap h 0 rfl
        have cpp_11 := rowCap h 2 rfl
        refine ⟨_, _, _, rfl, ?_⟩
        obtain ⟨Q_9, hq, hp⟩ := hp
        refine ⟨fun script2_11p script2_11l script2_11c to8_11 box9_11 n10_11 a13_1 l19p l19l l19c w => p_1 = script2_11p ∧ script.length = script2_11l ∧ c_1 = script2_11c ∧ (Addr.mk b_3 0 none) = to8_11 ∧ (Addr.mk b_4 0 none) = box9_11 ∧ (some (Addr.mk b_5 0 none)) = n10_11 ∧ (Addr.mk b_6 0 none) = a13_1 ∧ p_10 = l19p ∧ rs.length = l19l ∧ c_10 = l19c ∧ Q_9 ∧ Mem (cel b_5 64 [(Value.int .u32 box), (Value.int .i64 box_1), (Value.int .i64 box_2), (Value.int .i64 box_3), (Value.int .i64 box_4), (Value.int .i64 box_5), (Value.int .i64 box_6), (Value.slice p_11 list_8.length c_11), (Value.int .i64 now_8)] :: row enc67 67 1 p_11 c_11 list_8 :: cel b_8 24 [(Value.int .u32 r_21), (Value.int .i64 r_22)] :: cel b_7 24 [(Value.int .u32 r_18), (Value.int .i64 r_19)] :: cel b_6 24 [(Value.int .u32 r_15), (Value.int .i64 r_16)] :: cel b_4 28 [(Value.int .u32 r_1), (Value.int .i64 r_2), (Value.int .i64 r_3), (Value.int .i64 r_4), (Value.int .i64 r_5), (Value.int .i64 r_6), (Value.int .i64 r_7)] :: cel b_3 24 [(Value.int .u32 ends_x_2), (Value.int .i64 ends_x_3)] :: cel b_2 24 [(Value.int .u32 ends_x), (Value.int .i64 ends_x_1)] :: cel b_1 39 [(Value.int .u32 ends_x), (Value.int .i64 ends_x_1), (Value.int .u32 ends_x_2), (Value.int .i64 ends_x_3)] :: stoP stoE71 hd_7 m_8 :: row enc51 51 7 p_10 c_10 rs :: FL) w, ?_, ?_⟩
        · rintro script2_11p script2_11l script2_11c to8_11 box9_11 n10_11 a13_1 l19p l19l l19c w ⟨rfl, rfl, rfl, rfl, rfl, rfl, rfl, rfl, rfl, rfl, hp, h⟩
          replace hp := hq  hp
          unfold embrasurelaw08_NatBack_j4
          refine ⟨_, cellL h 4 1 rfl rfl rfl, ?_⟩
          replace h := h.pick [0, 0, 7]
          dsimp only [pickL, pickR, nthH, delH, dropH, List.cons_append, List.nil_append] at h
          refine nat_Nat_In_ok h hp ?_
          rintro r_24 r_25 r_26 list_9 now_9 m_9 p_12 n_23 c_12 hd_8 w rfl h hp
          have cpp_12 := rowCap h 1 rfl
          refine ⟨_, _, _, rfl, ?_⟩
          refine newL (o := [(Value.int .u32 0), (Value.int .i64 0)]) h ?_
          intro b_9 w h
          refine storeL (ys := [(Value.int .u32 r_24), (Value.int .i64 r_25)]) h 0 0 rfl rfl rfl sz24 rfl rfl ?_
          intro w h
          dsimp only [setH, setVs, setV] at h
          refine ⟨_, cellL h 8 0 rfl rfl rfl, ?_⟩
          obtain ⟨Q_10, hq, hp⟩ := hp
          refine ⟨fun script2_13p script2_13l script2_13c box9_13 k22 asked23 sent24 w => p_1 = script2_13p ∧ script.length = script2_13l ∧ c_1 = script2_13c ∧ (Addr.mk b_4 0 none) = box9_13 ∧ r_26 = k22 ∧ ((ends_x_2 : Int) == 77) = sent24 ∧ Q_10 asked23 ∧ Mem (cel b_9 24 [(Value.int .u32 r_24), (Value.int .i64 r_25)] :: cel b_5 64 [(Value.int .u32 box), (Value.int .i64 box_1), (Value.int .i64 box_2), (Value.int .i64 box_3), (Value.int .i64 box_4), (Value.int .i64 box_5), (Value.int .i64 box_6), (Value.slice p_12 list_9.length c_12), (Value.int .i64 now_9)] :: row enc67 67 1 p_12 c_12 list_9 :: cel b_8 24 [(Value.int .u32 r_21), (Value.int .i64 r_22)] :: cel b_7 24 [(Value.int .u32 r_18), (Value.int .i64 r_19)] :: cel b_6 24 [(Value.int .u32 r_15), (Value.int .i64 r_16)] :: cel b_4 28 [(Value.int .u32 r_1), (Value.int .i64 r_2), (Value.int .i64 r_3), (Value.int .i64 r_4), (Value.int .i64 r_5), (Value.int .i64 r_6), (Value.int .i64 r_7)] :: cel b_3 24 [(Value.int .u32 ends_x_2), (Value.int .i64 ends_x_3)] :: cel b_2 24 [(Value.int .u32 ends_x), (Value.int .i64 ends_x_1)] :: cel b_1 39 [(Value.int .u32 ends_x), (Value.int .i64 ends_x_1), (Value.int .u32 ends_x_2), (Value.int .i64 ends_x_3)] :: stoP stoE71 hd_8 m_9 :: FL) w, ?_, ?_⟩
          · rintro script2_13p script2_13l script2_13c box9_13 k22 asked23 sent24 w ⟨rfl, rfl, rfl, rfl, rfl, rfl, hp, h⟩
            replace hp := hq asked23 hp
            unfold embrasurelaw08_NatBack_j5
            obtain ⟨Q_11, hq, hp⟩ := hp
            refine ⟨fun box9_15 k22_2 asked23_2 sent24_2 w => (Addr.mk b_4 0 none) = box9_15 ∧ r_26 = k22_2 ∧ asked23 = asked23_2 ∧ Q_11 sent24_2 ∧ Mem (cel b_9 24 [(Value.int .u32 r_24), (Value.int .i64 r_25)] :: cel b_5 64 [(Value.int .u32 box), (Value.int .i64 box_1), (Value.int .i64 box_2), (Value.int .i64 box_3), (Value.int .i64 box_4), (Value.int .i64 box_5), (Value.int .i64 box_6), (Value.slice p_12 list_9.length c_12), (Value.int .i64 now_9)] :: row enc67 67 1 p_12 c_12 list_9 :: cel b_8 24 [(Value.int .u32 r_21), (Value.int .i64 r_22)] :: cel b_7 24 [(Value.int .u32 r_18), (Value.int .i64 r_19)] :: cel b_6 24 [(Value.int .u32 r_15), (Value.int .i64 r_16)] :: cel b_4 28 [(Value.int .u32 r_1), (Value.int .i64 r_2), (Value.int .i64 r_3), (Value.int .i64 r_4), (Value.int .i64 r_5), (Value.int .i64 r_6), (Value.int .i64 r_7)] :: cel b_3 24 [(Value.int .u32 ends_x_2), (Value.int .i64 ends_x_3)] :: cel b_2 24 [(Value.int .u32 ends_x), (Value.int .i64 ends_x_1)] :: cel b_1 39 [(Value.int .u32 ends_x), (Value.int .i64 ends_x_1), (Value.int .u32 ends_x_2), (Value.int .i64 ends_x_3)] :: stoP stoE71 hd_8 m_9 :: FL) w, ?_, ?_⟩
            · rintro box9_15 k22_2 asked23_2 sent24_2 w ⟨rfl, rfl, rfl, hp, h⟩
              replace hp := hq sent24_2 hp
              unfold embrasurelaw08_NatBack_j6
              refine cond_both hp (fun hp => ?_) (fun hp => ?_)
              · replace h := h.sel [] 11
                dsimp only [pickL, pickR, nthH, delH, dropH, List.cons_append, List.nil_append] at h
                exact hR true _ h hp
              refine cond_both hp (fun hp => ?_) (fun hp => ?_)
              · refine eqlBool undB4 ?_
                refine ⟨_, rfl, ?_⟩
                replace h := h.sel [] 11
                dsimp only [pickL, pickR, nthH, delH, dropH, List.cons_append, List.nil_append] at h
                exact hR (((r_26 : Int) == 0) == true) _ h hp
              refine ⟨_, cellL h 6 4 rfl rfl rfl, ?_⟩
              refine eqlBool undB4 ?_
              refine ⟨_, rfl, ?_⟩
              replace h := h.sel [] 11
              dsimp only [pickL, pickR, nthH, delH, dropH, List.cons_append, List.nil_append] at h
              exact hR (((r_26 : Int) == 0) == ((r_5 : Int) == 0)) _ h hp
            clear hq
            obtain ⟨I_4, ⟨n_32, h0⟩, hq⟩ := hp
            refine ⟨fun n_29 script2_15p script2_15l script2_15c box9_16 k22_3 asked23_3 sent24_3 i26 w => p_1 = script2_15p ∧ script.length = script2_15l ∧ c_1 = script2_15c ∧ (Addr.mk b_4 0 none) = box9_16 ∧ r_26 = k22_3 ∧ asked23 = asked23_3 ∧ I_4 n_29 sent24_3 i26 ∧ Mem (cel b_9 24 [(Value.int .u32 r_24), (Value.int .i64 r_25)] :: cel b_5 64 [(Value.int .u32 box), (Value.int .i64 box_1), (Value.int .i64 box_2), (Value.int .i64 box_3), (Value.int .i64 box_4), (Value.int .i64 box_5), (Value.int .i64 box_6), (Value.slice p_12 list_9.length c_12), (Value.int .i64 now_9)] :: row enc67 67 1 p_12 c_12 list_9 :: cel b_8 24 [(Value.int .u32 r_21), (Value.int .i64 r_22)] :: cel b_7 24 [(Value.int .u32 r_18), (Value.int .i64 r_19)] :: cel b_6 24 [(Value.int .u32 r_15), (Value.int .i64 r_16)] :: cel b_4 28 [(Value.int .u32 r_1), (Value.int .i64 r_2), (Value.int .i64 r_3), (Value.int .i64 r_4), (Value.int .i64 r_5), (Value.int .i64 r_6), (Value.int .i64 r_7)] :: cel b_3 24 [(Value.int .u32 ends_x_2), (Value.int .i64 ends_x_3)] :: cel b_2 24 [(Value.int .u32 ends_x), (Value.int .i64 ends_x_1)] :: cel b_1 39 [(Value.int .u32 ends_x), (Value.int .i64 ends_x_1), (Value.int .u32 ends_x_2), (Value.int .i64 ends_x_3)] :: stoP stoE71 hd_8 m_9 :: FL) w, ⟨n_32, rfl, rfl, rfl, rfl, rfl, rfl, h0, h⟩, ?_⟩
            clear h0 h
            rintro n_29 script2_15p script2_15l script2_15c box9_16 k22_3 asked23_3 sent24_3 i26 w ⟨rfl, rfl, rfl, rfl, rfl, rfl, hp, h⟩
            replace hp := hq n_29 sent24_3 i26 hp
            clear hq
            unfold embrasurelaw08_NatBack_l7
            obtain ⟨Q_12, hq, hp⟩ := hp
            refine ⟨fun script2_16p script2_16l script2_16c box9_17 k22_4 asked23_4 sent24_4 i26_1 t236 w => p_1 = script2_16p ∧ script.length = script2_16l ∧ c_1 = script2_16c ∧ (Addr.mk b_4 0 none) = box9_17 ∧ r_26 = k22_4 ∧ asked23 = asked23_4 ∧ sent24_3 = sent24_4 ∧ i26 = i26_1 ∧ Q_12 t236 ∧ Mem (cel b_9 24 [(Value.int .u32 r_24), (Value.int .i64 r_25)] :: cel b_5 64 [(Value.int .u32 box), (Value.int .i64 box_1), (Value.int .i64 box_2), (Value.int .i64 box_3), (Value.int .i64 box_4), (Value.int .i64 box_5), (Value.int .i64 box_6), (Value.slice p_12 list_9.length c_12), (Value.int .i64 now_9)] :: row enc67 67 1 p_12 c_12 list_9 :: cel b_8 24 [(Value.int .u32 r_21), (Value.int .i64 r_22)] :: cel b_7 24 [(Value.int .u32 r_18), (Value.int .i64 r_19)] :: cel b_6 24 [(Value.int .u32 r_15), (Value.int .i64 r_16)] :: cel b_4 28 [(Value.int .u32 r_1), (Value.int .i64 r_2), (Value.int .i64 r_3), (Value.int .i64 r_4), (Value.int .i64 r_5), (Value.int .i64 r_6), (Value.int .i64 r_7)] :: cel b_3 24 [(Value.int .u32 ends_x_2), (Value.int .i64 ends_x_3)] :: cel b_2 24 [(Value.int .u32 ends_x), (Value.int .i64 ends_x_1)] :: cel b_1 39 [(Value.int .u32 ends_x), (Value.int .i64 ends_x_1), (Value.int .u32 ends_x_2), (Value.int .i64 ends_x_3)] :: stoP stoE71 hd_8 m_9 :: FL) w, ?_, ?_⟩
            · rintro script2_16p script2_16l script2_16c box9_17 k22_4 asked23_4 sent24_4 i26_1 t236 w ⟨rfl, rfl, rfl, rfl, rfl, rfl, rfl, rfl, hp, h⟩
              replace hp := hq t236 hp
              unfold embrasurelaw08_NatBack_j8
              refine cond_both' hp (fun hp => ?_) (fun hp => ?_)
              · exact ⟨rfl, rfl, rfl, hp, h⟩
              refine cond_both hp (fun hp => ?_) (fun hp => ?_)
              · obtain ⟨n_30, hn, hp⟩ := hp
                exact ⟨n_30, hn, rfl, rfl, rfl, rfl, rfl, rfl, hp, h⟩
              obtain ⟨ia_21, ja_21, hp⟩ := hp
              obtain ⟨a_21, ha_21⟩ := rdAddr (hF_script _ (h.drop 11)) rfl ia_21 ja_21
              refine ⟨a_21, ha_21, ia_21, ja_21, ?_⟩
              obtain ⟨x_21, hx_21, hc⟩ := rdCell2 (hF_script _ (h.drop 11)) ha_21 rfl ia_21 ja_21
              replace hp := hp x_21 hx_21
              refine ⟨_, hc 4 0 _ rfl, ?_⟩
              obtain ⟨n_31, hn, hp⟩ := hp
              exact ⟨n_31, hn, rfl, rfl, rfl, rfl, rfl, rfl, hp, h⟩
            clear hq
            refine cond_both hp (fun hp => ?_) (fun hp => ?_)
            · exact ⟨rfl, rfl, rfl, rfl, rfl, rfl, rfl, rfl, hp, h⟩
            exact ⟨rfl, rfl, rfl, rfl, rfl, rfl, rfl, rfl, hp, h⟩
          clear hq
          obtain ⟨I_3, ⟨n_28, h0⟩, hq⟩ := hp
          replace h := h.sel [0, 0, 0, 1, 1, 1, 1, 1, 1, 1, 0, 0] 0
          dsimp only [pickL, pickR, nthH, delH, dropH, List.cons_append, List.nil_append] at h
          refine ⟨fun n_24 script2_14p script2_14l script2_14c box9_14 a13_3 l19_2p l19_2l l19_2c k22_1 asked23_1 sent24_1 i25 w => p_1 = script2_14p ∧ script.length = script2_14l ∧ c_1 = script2_14c ∧ (Addr.mk b_4 0 none) = box9_14 ∧ (Addr.mk b_6 0 none) = a13_3 ∧ p_10 = l19_2p ∧ rs.length = l19_2l ∧ c_10 = l19_2c ∧ r_26 = k22_1 ∧ ((ends_x_2 : Int) == 77) = sent24_1 ∧ I_3 n_24 asked23_1 i25 ∧ Mem (cel b_9 24 [(Value.int .u32 r_24), (Value.int .i64 r_25)] :: cel b_5 64 [(Value.int .u32 box), (Value.int .i64 box_1), (Value.int .i64 box_2), (Value.int .i64 box_3), (Value.int .i64 box_4), (Value.int .i64 box_5), (Value.int .i64 box_6), (Value.slice p_12 list_9.length c_12), (Value.int .i64 now_9)] :: row enc67 67 1 p_12 c_12 list_9 :: cel b_8 24 [(Value.int .u32 r_21), (Value.int .i64 r_22)] :: cel b_7 24 [(Value.int .u32 r_18), (Value.int .i64 r_19)] :: cel b_6 24 [(Value.int .u32 r_15), (Value.int .i64 r_16)] :: cel b_4 28 [(Value.int .u32 r_1), (Value.int .i64 r_2), (Value.int .i64 r_3), (Value.int .i64 r_4), (Value.int .i64 r_5), (Value.int .i64 r_6), (Value.int .i64 r_7)] :: cel b_3 24 [(Value.int .u32 ends_x_2), (Value.int .i64 ends_x_3)] :: cel b_2 24 [(Value.int .u32 ends_x), (Value.int .i64 ends_x_1)] :: cel b_1 39 [(Value.int .u32 ends_x), (Value.int .i64 ends_x_1), (Value.int .u32 ends_x_2), (Value.int .i64 ends_x_3)] :: stoP stoE71 hd_8 m_9 :: row enc51 51 7 p_10 c_10 rs :: FL) w, ⟨n_28, rfl, rfl, rfl, rfl, rfl, rfl, rfl, rfl, rfl, rfl, h0, h⟩, ?_⟩
          clear h0 h
          rintro n_24 script2_14p script2_14l script2_14c box9_14 a13_3 l19_2p l19_2l l19_2c k22_1 asked23_1 sent24_1 i25 w ⟨rfl, rfl, rfl, rfl, rfl, rfl, rfl, rfl, rfl, rfl, hp, h⟩
          replace hp := hq n_24 asked23_1 i25 hp
          clear hq
          unfold embrasurelaw08_NatBack_l9
          refine cond_both' hp (fun hp => ?_) (fun hp => ?_)
          · replace h := h.sel [0, 0, 0, 0, 0, 0, 0, 0, 0, 0, 0] 1
            dsimp only [pickL, pickR, nthH, delH, dropH, List.cons_append, List.nil_append] at h
            exact ⟨rfl, rfl, rfl, rfl, rfl, rfl, hp, h⟩
          replace h := h.drew
          refine cond_both hp (fun hp => ?_) (fun hp => ?_)
          · obtain ⟨n_25, hn, hp⟩ := hp
            exact ⟨n_25, hn, rfl, rfl, rfl, rfl, rfl, rfl, rfl, rfl, rfl, rfl, hp, h⟩
          obtain ⟨ia_19, ja_19, hp⟩ := hp
          obtain ⟨a_19, ha_19⟩ := rdAddr (rowRd h 11 encL51 rfl) rfl ia_19 ja_19
          refine ⟨a_19, ha_19, ia_19, ja_19, ?_⟩
          obtain ⟨x_19, hx_19, hc⟩ := rdCell (rowRd h 11 encL51 rfl) ha_19 rfl ia_19 ja_19
          replace hp := hp x_19 hx_19
          refine ⟨_, hc 4 _ rfl, ?_⟩
          refine ⟨_, cellL h 5 1 rfl rfl rfl, ?_⟩
          refine cond_both' hp (fun hp => ?_) (fun hp => ?_)
          · obtain ⟨n_27, hn, hp⟩ := hp
            exact ⟨n_27, hn, rfl, rfl, rfl, rfl, rfl, rfl, rfl, rfl, rfl, rfl, hp, h⟩
          obtain ⟨ia_20, ja_20, hp⟩ := hp
          obtain ⟨a_20, ha_20⟩ := rdAddr (rowRd h 11 encL51 rfl) rfl ia_20 ja_20
          refine ⟨a_20, ha_20, ia_20, ja_20, ?_⟩
          obtain ⟨x_20, hx_20, hc⟩ := rdCell (rowRd h 11 encL51 rfl) ha_20 rfl ia_20 ja_20
          replace hp := hp x_20 hx_20
          refine ⟨_, hc 6 _ rfl, ?_⟩
          obtain ⟨n_26, hn, hp⟩ := hp
          exact ⟨n_26, hn, rfl, rfl, rfl, rfl, rfl, rfl, rfl, rfl, rfl, rfl, hp, h⟩
        clear hq
        obtain ⟨I_2, ⟨n_22, h0⟩, hq⟩ := hp
        replace h := h.sel [1, 1, 2, 2, 2, 2, 2, 2, 2, 1, 0] 0
        dsimp only [pickL, pickR, nthH, delH, dropH, List.cons_append, List.nil_append] at h
        refine ⟨fun n_20 script2_12p script2_12l script2_12c to8_12 box9_12 n10_12 a13_2 l19_1p l19_1l l19_1c i20 w => p_1 = script2_12p ∧ script.length = script2_12l ∧ c_1 = script2_12c ∧ (Addr.mk b_3 0 none) = to8_12 ∧ (Addr.mk b_4 0 none) = box9_12 ∧ (some (Addr.mk b_5 0 none)) = n10_12 ∧ (Addr.mk b_6 0 none) = a13_2 ∧ p_10 = l19_1p ∧ rs.length = l19_1l ∧ c_10 = l19_1c ∧ I_2 n_20 i20 ∧ Mem (cel b_5 64 [(Value.int .u32 box), (Value.int .i64 box_1), (Value.int .i64 box_2), (Value.int .i64 box_3), (Value.int .i64 box_4), (Value.int .i64 box_5), (Value.int .i64 box_6), (Value.slice p_11 list_8.length c_11), (Value.int .i64 now_8)] :: row enc67 67 1 p_11 c_11 list_8 :: cel b_8 24 [(Value.int .u32 r_21), (Value.int .i64 r_22)] :: cel b_7 24 [(Value.int .u32 r_18), (Value.int .i64 r_19)] :: cel b_6 24 [(Value.int .u32 r_15), (Value.int .i64 r_16)] :: cel b_4 28 [(Value.int .u32 r_1), (Value.int .i64 r_2), (Value.int .i64 r_3), (Value.int .i64 r_4), (Value.int .i64 r_5), (Value.int .i64 r_6), (Value.int .i64 r_7)] :: cel b_3 24 [(Value.int .u32 ends_x_2), (Value.int .i64 ends_x_3)] :: cel b_2 24 [(Value.int .u32 ends_x), (Value.int .i64 ends_x_1)] :: cel b_1 39 [(Value.int .u32 ends_x), (Value.int .i64 ends_x_1), (Value.int .u32 ends_x_2), (Value.int .i64 ends_x_3)] :: stoP stoE71 hd_7 m_8 :: row enc51 51 7 p_10 c_10 rs :: FL) w, ⟨n_22, rfl, rfl, rfl, rfl, rfl, rfl, rfl, rfl, rfl, rfl, h0, h⟩, ?_⟩
        clear h0 h
        rintro n_20 script2_12p script2_12l script2_12c to8_12 box9_12 n10_12 a13_2 l19_1p l19_1l l19_1c i20 w ⟨rfl, rfl, rfl, rfl, rfl, rfl, rfl, rfl, rfl, rfl, hp, h⟩
        replace hp := hq n_20 i20 hp
        clear hq
        unfold embrasurelaw08_NatBack_l10
        refine cond_both' hp (fun hp => ?_) (fun hp => ?_)
        · exact ⟨rfl, rfl, rfl, rfl, rfl, rfl, rfl, rfl, rfl, rfl, hp, h⟩
        replace h := h.drew
        obtain ⟨ia_17, ja_17, hp⟩ := hp
        obtain ⟨a_17, ha_17⟩ := rdAddr (rowRd h 10 encL51 rfl) rfl ia_17 ja_17
        refine ⟨a_17, ha_17, ia_17, ja_17, ?_⟩
        obtain ⟨x_17, hx_17, hc⟩ := rdCell (rowRd h 10 encL51 rfl) ha_17 rfl ia_17 ja_17
        replace hp := hp x_17 hx_17
        refine ⟨_, hc 4 _ rfl, ?_⟩
        obtain ⟨ia_18, ja_18, hp⟩ := hp
        obtain ⟨a_18, ha_18⟩ := rdAddr (rowRd h 10 encL51 rfl) rfl ia_18 ja_18
        refine ⟨a_18, ha_18, ia_18, ja_18, ?_⟩
        obtain ⟨x_18, hx_18, hc⟩ := rdCell (rowRd h 10 encL51 rfl) ha_18 rfl ia_18 ja_18
        replace hp := hp x_18 hx_18
        refine ⟨_, hc 4 _ rfl, ?_⟩
        refine cond_both' hp (fun hp => ?_) (fun hp => ?_)
        · obtain ⟨n_21, hn, hp⟩ := hp
          exact ⟨n_21, hn, rfl, rfl, rfl, rfl, rfl, rfl, rfl, rfl, rfl, rfl, hp, h⟩
        replace h := h.sel [] 11
        dsimp only [pickL, pickR, nthH, delH, dropH, List.cons_append, List.nil_append] at h
        exact hR false _ h hp
      clear hq
      refine cond_both hp (fun hp => ?_) (fun hp => ?_)
      · replace h := h.sel [0, 0, 0, 1, 1, 1, 1, 1, 1, 0] 0
        dsimp only [pickL, pickR, nthH, delH, dropH, List.cons_append, List.nil_append] at h
        exact ⟨rfl, rfl, rfl, rfl, rfl, rfl, rfl, hp, h⟩
      refine ⟨_, cellL h 4 0 rfl rfl rfl, _, cellL h 4 1 rfl rfl rfl, ?_⟩
      refine ⟨_, cellL h 8 0 rfl rfl rfl, _, cellL h 8 1 rfl rfl rfl, ?_⟩
      refine neqAgg (xs := [(Value.int .u32 r_18), (Value.int .i64 r_19)]) (ys := [(Value.int .u32 ends_x), (Value.int .i64 ends_x_1)]) eqG24 eqA24 (eqT24 r_18 r_19 ends_x ends_x_1) ?_
      refine ⟨_, rfl, ?_⟩
      refine cond_both hp (fun hp => ?_) (fun hp => ?_)
      · replace h := h.sel [0, 0, 0, 1, 1, 1, 1, 1, 1, 0] 0
        dsimp only [pickL, pickR, nthH, delH, dropH, List.cons_append, List.nil_append] at h
        exact ⟨rfl, rfl, rfl, rfl, rfl, rfl, rfl, hp, h⟩
      refine cond_both hp (fun hp => ?_) (fun hp => ?_)
      · replace h := h.sel [0, 0, 0, 1, 1, 1, 1, 1, 1, 0] 0
        dsimp only [pickL, pickR, nthH, delH, dropH, List.cons_append, List.nil_append] at h
        exact ⟨rfl, rfl, rfl, rfl, rfl, rfl, rfl, hp, h⟩
      refine ⟨_, cellL h 0 0 rfl rfl rfl, _, cellL h 0 1 rfl rfl rfl, ?_⟩
      refine ⟨_, cellL h 8 0 rfl rfl rfl, _, cellL h 8 1 rfl rfl rfl, ?_⟩
      refine neqAgg (xs := [(Value.int .u32 r_21), (Value.int .i64 r_22)]) (ys := [(Value.int .u32 ends_x), (Value.int .i64 ends_x_1)]) eqG24 eqA24 (eqT24 r_21 r_22 ends_x ends_x_1) ?_
      refine ⟨_, rfl, ?_⟩
      refine cond_both hp (fun hp => ?_) (fun hp => ?_)
      · replace h := h.sel [0, 0, 0, 1, 1, 1, 1, 1, 1, 0] 0
        dsimp only [pickL, pickR, nthH, delH, dropH, List.cons_append, List.nil_append] at h
        exact ⟨rfl, rfl, rfl, rfl, rfl, rfl, rfl, hp, h⟩
      refine ⟨_, cellL h 5 0 rfl rfl rfl, ?_⟩
      refine ⟨_, cellL h 6 0 rfl rfl rfl, ?_⟩
      refine cond_both hp (fun hp => ?_) (fun hp => ?_)
      · replace h := h.sel [0, 0, 0, 1, 1, 1, 1, 1, 1, 0] 0
        dsimp only [pickL, pickR, nthH, delH, dropH, List.cons_append, List.nil_append] at h
        exact ⟨rfl, rfl, rfl, rfl, rfl, rfl, rfl, hp, h⟩
      refine ⟨_, cellL h 5 1 rfl rfl rfl, ?_⟩
      refine ⟨_, cellL h 6 1 rfl rfl rfl, ?_⟩
      refine cond_both hp (fun hp => ?_) (fun hp => ?_)
      · replace h := h.sel [0, 0, 0, 1, 1, 1, 1, 1, 1, 0] 0
        dsimp only [pickL, pickR, nthH, delH, dropH, List.cons_append, List.nil_append] at h
        exact ⟨rfl, rfl, rfl, rfl, rfl, rfl, rfl, hp, h⟩
      refine ⟨_, cellL h 5 1 rfl rfl rfl, ?_⟩
      refine ⟨_, cellL h 6 2 rfl rfl rfl, ?_⟩
      replace h := h.sel [0, 0, 0, 1, 1, 1, 1, 1, 1, 0] 0
      dsimp only [pickL, pickR, nthH, delH, dropH, List.cons_append, List.nil_append] at h
      exact ⟨rfl, rfl, rfl, rfl, rfl, rfl, rfl, hp, h⟩
    clear hq
    obtain ⟨I_1, ⟨n_14, h0⟩, hq⟩ := hp
    refine ⟨fun n_8 script2_7p script2_7l script2_7c in7_7 to8_7 box9_7 n10_7 i12_3 w => ∃ (list_2 : List (Option Nat)), ∃ (p_4 : Option Addr), ∃ (n_7 : Nat), ∃ (c_4 : Nat), ∃ (now_2 : Int), ∃ (m_2 : List (Nat × (Int × Int × Int × Int × Int × Int × Bool × (List (Int × Int))))), ∃ (hd_1 : Nat → Option Addr × Nat), p_1 = script2_7p ∧ script.length = script2_7l ∧ c_1 = script2_7c ∧ (Addr.mk b_2 0 none) = in7_7 ∧ (Addr.mk b_3 0 none) = to8_7 ∧ (Addr.mk b_4 0 none) = box9_7 ∧ (some (Addr.mk b_5 0 none)) = n10_7 ∧ n_7 = list_2.length ∧ I_1 n_8 list_2 now_2 i12_3 m_2 ∧ Mem (cel b_5 64 [(Value.int .u32 box), (Value.int .i64 box_1), (Value.int .i64 box_2), (Value.int .i64 box_3), (Value.int .i64 box_4), (Value.int .i64 box_5), (Value.int .i64 box_6), (Value.slice p_4 n_7 c_4), (Value.int .i64 now_2)] :: row enc67 67 1 p_4 c_4 list_2 :: cel b_4 28 [(Value.int .u32 r_1), (Value.int .i64 r_2), (Value.int .i64 r_3), (Value.int .i64 r_4), (Value.int .i64 r_5), (Value.int .i64 r_6), (Value.int .i64 r_7)] :: cel b_3 24 [(Value.int .u32 ends_x_2), (Value.int .i64 ends_x_3)] :: cel b_2 24 [(Value.int .u32 ends_x), (Value.int .i64 ends_x_1)] :: cel b_1 39 [(Value.int .u32 ends_x), (Value.int .i64 ends_x_1), (Value.int .u32 ends_x_2), (Value.int .i64 ends_x_3)] :: stoP stoE71 hd_1 m_2 :: FL) w, ⟨n_14, list, p_2, list.length, c_2, now, ([] : List (Nat × (Int × Int × Int × Int × Int × Int × Bool × (List (Int × Int))))), (fun _ => default), rfl, rfl, rfl, rfl, rfl, rfl, rfl, rfl, h0, h⟩, ?_⟩
    clear h0 h
    rintro n_8 script2_7p script2_7l script2_7c in7_7 to8_7 box9_7 n10_7 i12_3 w ⟨list_2, p_4, n_7, c_4, now_2, m_2, hd_1, rfl, rfl, rfl, rfl, rfl, rfl, rfl, rfl, hp, h⟩
    replace hp := hq n_8 list_2 now_2 i12_3 m_2 hp
    clear hq
    unfold embrasurelaw08_NatBack_l11
    have cpp_4 := rowCap h 1 rfl
    obtain ⟨Q_6, hq, hp⟩ := hp
    refine ⟨fun script2_8p script2_8l script2_8c in7_8 to8_8 box9_8 n10_8 i12_4 t53_1 w => p_1 = script2_8p ∧ script.length = script2_8l ∧ c_1 = script2_8c ∧ (Addr.mk b_2 0 none) = in7_8 ∧ (Addr.mk b_3 0 none) = to8_8 ∧ (Addr.mk b_4 0 none) = box9_8 ∧ (some (Addr.mk b_5 0 none)) = n10_8 ∧ i12_3 = i12_4 ∧ Q_6 t53_1 ∧ Mem (cel b_5 64 [(Value.int .u32 box), (Value.int .i64 box_1), (Value.int .i64 box_2), (Value.int .i64 box_3), (Value.int .i64 box_4), (Value.int .i64 box_5), (Value.int .i64 box_6), (Value.slice p_4 list_2.length c_4), (Value.int .i64 now_2)] :: row enc67 67 1 p_4 c_4 list_2 :: cel b_4 28 [(Value.int .u32 r_1), (Value.int .i64 r_2), (Value.int .i64 r_3), (Value.int .i64 r_4), (Value.int .i64 r_5), (Value.int .i64 r_6), (Value.int .i64 r_7)] :: cel b_3 24 [(Value.int .u32 ends_x_2), (Value.int .i64 ends_x_3)] :: cel b_2 24 [(Value.int .u32 ends_x), (Value.int .i64 ends_x_1)] :: cel b_1 39 [(Value.int .u32 ends_x), (Value.int .i64 ends_x_1), (Value.int .u32 ends_x_2), (Value.int .i64 ends_x_3)] :: stoP stoE71 hd_1 m_2 :: FL) w, ?_, ?_⟩
    · rintro script2_8p script2_8l script2_8c in7_8 to8_8 box9_8 n10_8 i12_4 t53_1 w ⟨rfl, rfl, rfl, rfl, rfl, rfl, rfl, rfl, hp, h⟩
      replace hp := hq t53_1 hp
      unfold embrasurelaw08_NatBack_j12
      refine cond_both' hp (fun hp => ?_) (fun hp => ?_)
      · exact ⟨list_2, p_4, list_2.length, c_4, now_2, m_2, hd_1, rfl, rfl, rfl, rfl, rfl, rfl, rfl, rfl, hp, h⟩
      obtain ⟨ia_9, ja_9, hp⟩ := hp
      obtain ⟨a_9, ha_9⟩ := rdAddr (hF_script _ (h.drop 7)) rfl ia_9 ja_9
      refine ⟨a_9, ha_9, ia_9, ja_9, ?_⟩
      obtain ⟨x_9, hx_9, hc⟩ := rdCell (hF_script _ (h.drop 7)) ha_9 rfl ia_9 ja_9
      replace hp := hp x_9 hx_9
      refine ⟨_, hc 0 _ rfl, ?_⟩
      refine cond_both hp (fun hp => ?_) (fun hp => ?_)
      · replace h := h.drew
        obtain ⟨ia_10, ja_10, hp⟩ := hp
        obtain ⟨a_10, ha_10⟩ := rdAddr (hF_script _ (h.drop 7)) rfl ia_10 ja_10
        refine ⟨a_10, ha_10, ia_10, ja_10, ?_⟩
        obtain ⟨x_10, hx_10, hc⟩ := rdCell2 (hF_script _ (h.drop 7)) ha_10 rfl ia_10 ja_10
        replace hp := hp x_10 hx_10
        refine ⟨_, hc 2 0 _ rfl, _, hc 2 1 _ rfl, ?_⟩
        obtain ⟨ia_11, ja_11, hp⟩ := hp
        obtain ⟨a_11, ha_11⟩ := rdAddr (hF_script _ (h.drop 7)) rfl ia_11 ja_11
        refine ⟨a_11, ha_11, ia_11, ja_11, ?_⟩
        obtain ⟨x_11, hx_11, hc⟩ := rdCell2 (hF_script _ (h.drop 7)) ha_11 rfl ia_11 ja_11
        replace hp := hp x_11 hx_11
        refine ⟨_, hc 4 0 _ rfl, _, hc 4 1 _ rfl, ?_⟩
        replace h := h.pick [0, 0, 4]
        dsimp only [pickL, pickR, nthH, delH, dropH, List.cons_append, List.nil_append] at h
        refine nat_Nat_Out_ok h hp ?_
        rintro r_10 r_11 r_12 list_3 now_3 m_3 p_5 n_9 c_5 hd_2 w rfl h hp
        have cpp_5 := rowCap h 1 rfl
        refine ⟨_, _, _, rfl, ?_⟩
        replace h := h.sel [0, 0, 1, 1, 1, 1, 0] 0
        dsimp only [pickL, pickR, nthH, delH, dropH, List.cons_append, List.nil_append] at h
        obtain ⟨n_10, hn, hp⟩ := hp
        exact ⟨n_10, hn, list_3, p_5, list_3.length, c_5, now_3, m_3, hd_2, rfl, rfl, rfl, rfl, rfl, rfl, rfl, rfl, hp, h⟩
      obtain ⟨Q_7, hq, hp⟩ := hp
      refine ⟨fun script2_9p script2_9l script2_9c in7_9 to8_9 box9_9 n10_9 i12_5 t88_1 w => p_1 = script2_9p ∧ script.length = script2_9l ∧ c_1 = script2_9c ∧ (Addr.mk b_2 0 none) = in7_9 ∧ (Addr.mk b_3 0 none) = to8_9 ∧ (Addr.mk b_4 0 none) = box9_9 ∧ (some (Addr.mk b_5 0 none)) = n10_9 ∧ i12_3 = i12_5 ∧ Q_7 t88_1 ∧ Mem (cel b_5 64 [(Value.int .u32 box), (Value.int .i64 box_1), (Value.int .i64 box_2), (Value.int .i64 box_3), (Value.int .i64 box_4), (Value.int .i64 box_5), (Value.int .i64 box_6), (Value.slice p_4 list_2.length c_4), (Value.int .i64 now_2)] :: row enc67 67 1 p_4 c_4 list_2 :: cel b_4 28 [(Value.int .u32 r_1), (Value.int .i64 r_2), (Value.int .i64 r_3), (Value.int .i64 r_4), (Value.int .i64 r_5), (Value.int .i64 r_6), (Value.int .i64 r_7)] :: cel b_3 24 [(Value.int .u32 ends_x_2), (Value.int .i64 ends_x_3)] :: cel b_2 24 [(Value.int .u32 ends_x), (Value.int .i64 ends_x_1)] :: cel b_1 39 [(Value.int .u32 ends_x), (Value.int .i64 ends_x_1), (Value.int .u32 ends_x_2), (Value.int .i64 ends_x_3)] :: stoP stoE71 hd_1 m_2 :: FL) w, ?_, ?_⟩
      · rintro script2_9p script2_9l script2_9c in7_9 to8_9 box9_9 n10_9 i12_5 t88_1 w ⟨rfl, rfl, rfl, rfl, rfl, rfl, rfl, rfl, hp, h⟩
        replace hp := hq t88_1 hp
        unfold embrasurelaw08_NatBack_j13
        refine cond_both' hp (fun hp => ?_) (fun hp => ?_)
        · obtain ⟨n_13, hn, hp⟩ := hp
          exact ⟨n_13, hn, list_2, p_4, list_2.length, c_4, now_2, m_2, hd_1, rfl, rfl, rfl, rfl, rfl, rfl, rfl, rfl, hp, h⟩
        replace h := h.drew
        obtain ⟨ia_14, ja_14, hp⟩ := hp
        obtain ⟨a_14, ha_14⟩ := rdAddr (hF_script _ (h.drop 7)) rfl ia_14 ja_14
        refine ⟨a_14, ha_14, ia_14, ja_14, ?_⟩
        obtain ⟨x_14, hx_14, hc⟩ := rdCell2 (hF_script _ (h.drop 7)) ha_14 rfl ia_14 ja_14
        replace hp := hp x_14 hx_14
        refine ⟨_, hc 2 0 _ rfl, _, hc 2 1 _ rfl, ?_⟩
        obtain ⟨ia_15, ja_15, hp⟩ := hp
        obtain ⟨a_15, ha_15⟩ := rdAddr (hF_script _ (h.drop 7)) rfl ia_15 ja_15
        refine ⟨a_15, ha_15, ia_15, ja_15, ?_⟩
        obtain ⟨x_15, hx_15, hc⟩ := rdCell (hF_script _ (h.drop 7)) ha_15 rfl ia_15 ja_15
        replace hp := hp x_15 hx_15
        refine ⟨_, hc 6 _ rfl, ?_⟩
        obtain ⟨ia_16, ja_16, hp⟩ := hp
        obtain ⟨a_16, ha_16⟩ := rdAddr (hF_script _ (h.drop 7)) rfl ia_16 ja_16
        refine ⟨a_16, ha_16, ia_16, ja_16, ?_⟩
        obtain ⟨x_16, hx_16, hc⟩ := rdCell (hF_script _ (h.drop 7)) ha_16 rfl ia_16 ja_16
        replace hp := hp x_16 hx_16
        refine ⟨_, hc 7 _ rfl, ?_⟩
        replace h := h.pick [0, 0, 4]
        dsimp only [pickL, pickR, nthH, delH, dropH, List.cons_append, List.nil_append] at h
        refine nat_Nat_Ask_ok h hp ?_
        rintro r_13 r_14 list_4 now_4 m_4 p_6 n_11 c_6 hd_3 w rfl h hp
        have cpp_6 := rowCap h 1 rfl
        refine ⟨_, _, rfl, ?_⟩
        replace h := h.sel [0, 0, 1, 1, 1, 1, 0] 0
        dsimp only [pickL, pickR, nthH, delH, dropH, List.cons_append, List.nil_append] at h
        obtain ⟨n_12, hn, hp⟩ := hp
        exact ⟨n_12, hn, list_4, p_6, list_4.length, c_6, now_4, m_4, hd_3, rfl, rfl, rfl, rfl, rfl, rfl, rfl, rfl, hp, h⟩
      clear hq
      replace h := h.drew
      obtain ⟨ia_12, ja_12, hp⟩ := hp
      obtain ⟨a_12, ha_12⟩ := rdAddr (hF_script _ (h.drop 7)) rfl ia_12 ja_12
      refine ⟨a_12, ha_12, ia_12, ja_12, ?_⟩
      obtain ⟨x_12, hx_12, hc⟩ := rdCell (hF_script _ (h.drop 7)) ha_12 rfl ia_12 ja_12
      replace hp := hp x_12 hx_12
      refine ⟨_, hc 0 _ rfl, ?_⟩
      refine cond_both' hp (fun hp => ?_) (fun hp => ?_)
      · exact ⟨rfl, rfl, rfl, rfl, rfl, rfl, rfl, rfl, hp, h⟩
      obtain ⟨ia_13, ja_13, hp⟩ := hp
      obtain ⟨a_13, ha_13⟩ := rdAddr (hF_script _ (h.drop 7)) rfl ia_13 ja_13
      refine ⟨a_13, ha_13, ia_13, ja_13, ?_⟩
      obtain ⟨x_13, hx_13, hc⟩ := rdCell2 (hF_script _ (h.drop 7)) ha_13 rfl ia_13 ja_13
      replace hp := hp x_13 hx_13
      refine ⟨_, hc 2 0 _ rfl, _, hc 2 1 _ rfl, ?_⟩
      refine ⟨_, cellL h 4 0 rfl rfl rfl, _, cellL h 4 1 rfl rfl rfl, ?_⟩
      refine neqAgg (xs := [(Value.int .u32 x_13.2.2.1), (Value.int .i64 x_13.2.2.2.1)]) (ys := [(Value.int .u32 ends_x), (Value.int .i64 ends_x_1)]) eqG24 eqA24 (eqT24 x_13.2.2.1 x_13.2.2.2.1 ends_x ends_x_1) ?_
      refine ⟨_, rfl, ?_⟩
      refine ⟨rfl, ?_⟩
      exact ⟨rfl, rfl, rfl, rfl, rfl, rfl, rfl, rfl, hp, h⟩
    clear hq
    refine cond_both hp (fun hp => ?_) (fun hp => ?_)
    · exact ⟨rfl, rfl, rfl, rfl, rfl, rfl, rfl, rfl, hp, h⟩
    exact ⟨rfl, rfl, rfl, rfl, rfl, rfl, rfl, rfl, hp, h⟩
  clear hq
  refine eqlPtrNil undP30 ?_
  refine ⟨_, rfl, ?_⟩
  refine cond_ff ?_
  exact ⟨rfl, rfl, rfl, rfl, rfl, rfl, rfl, hp, h⟩

/-! embrasure/embrasurelaw08.NatAsked (7) -/
def embrasurelaw08_NatAsked_wp (classes : Int) (in_Host : Int) (in_Port : Int) (others : List (Int × Int)) (K : Bool → Prop) : Prop :=
  embrasurelaw08_awake_wp (fun (r : Bool) => cond (!r) (K false) (embrasurelaw08_Box_wp classes (fun (r_1 : Int) (r_2 : Int) (r_3 : Int) (r_4 : Int) (r_5 : Int) (r_6 : Int) (r_7 : Int) => nat_New_wp r_1 r_2 r_3 r_4 r_5 r_6 r_7 (fun (r_8 : Int) => joinP1 (fun (t40 : Bool) => cond t40 (K (decide ((((others.length : Nat) : Int) : Int) > 20))) (False)) (fun (Q : Bool → Prop) => Q true)) (fun (r_9 : Int) (box : Int) (box_1 : Int) (box_2 : Int) (box_3 : Int) (box_4 : Int) (box_5 : Int) (box_6 : Int) (list : List (Option Nat)) (now : Int) => joinP1 (fun (t40_1 : Bool) => cond t40_1 (K (decide ((((others.length : Nat) : Int) : Int) > 20))) (nat_Nat_Ask_wp box box_1 box_2 box_3 box_4 box_5 box_6 list now 0 in_Host in_Port 40005 50 ([] : List (Nat × (Int × Int × Int × Int × Int × Int × Bool × (List (Int × Int))))) (fun (r_10 : Int) (r_11 : Int) (list_1 : List (Option Nat)) (now_1 : Int) (m_1 : List (Nat × (Int × Int × Int × Int × Int × Int × Bool × (List (Int × Int))))) => cond ((r_11 : Int) != 0) (K ((r_11 : Int) == 1)) (joinP3 (fun (list_2 : List (Option Nat)) (now_2 : Int) (m_2 : List (Nat × (Int × Int × Int × Int × Int × Int × Bool × (List (Int × Int))))) => nat_Nat_Ask_wp box box_1 box_2 box_3 box_4 box_5 box_6 list_2 now_2 2 in_Host in_Port 40009 60 m_2 (fun (r_21 : Int) (r_22 : Int) (list_8 : List (Option Nat)) (now_8 : Int) (m_8 : List (Nat × (Int × Int × Int × Int × Int × Int × Bool × (List (Int × Int))))) => nat_Nat_In_wp box box_1 box_2 box_3 box_4 box_5 box_6 list_8 now_8 59 r_10 5 5 m_8 (fun (r_23 : Int) (r_24 : Int) (r_25 : Int) (list_9 : List (Option Nat)) (now_9 : Int) (m_9 : List (Nat × (Int × Int × Int × Int × Int × Int × Bool × (List (Int × Int))))) => nat_Nat_In_wp box box_1 box_2 box_3 box_4 box_5 box_6 list_9 now_9 60 r_10 5 5 m_9 (fun (r_26 : Int) (r_27 : Int) (r_28 : Int) (list_10 : List (Option Nat)) (now_10 : Int) (m_10 : List (Nat × (Int × Int × Int × Int × Int × Int × Bool × (List (Int × Int))))) => cond ((r_10 : Int) == 40005) (cond ((r_22 : Int) == 0) (cond ((r_21 : Int) == r_10) (cond ((r_25 : Int) == 0) (cond (((r_23 : Int) == in_Host) && (((r_24 : Int) == in_Port) && true)) (cond ((r_28 : Int) == 8) (nat_Nat_All_wp box box_1 box_2 box_3 box_4 box_5 box_6 list_10 now_10 60 m_10 (fun (rs : List (Int × Int × Int × Int × Int × Int × Bool)) (list_11 : List (Option Nat)) (now_11 : Int) (m_11 : List (Nat × (Int × Int × Int × Int × Int × Int × Bool × (List (Int × Int))))) => K ((((rs.length : Nat) : Int) : Int) == 0))) (K false)) (K false)) (K false)) (K false)) (K false)) (K false))))) (fun (Q_2 : List (Option Nat) → Int → List (Nat × (Int × Int × Int × Int × Int × Int × Bool × (List (Int × Int)))) → Prop) => ∃ (I : Nat → List (Option Nat) → Int → Int → List (Nat × (Int × Int × Int × Int × Int × Int × Bool × (List (Int × Int)))) → Prop), (∃ (n_13 : Nat), I n_13 list_1 now_1 0 m_1) ∧ ∀ (n_6 : Nat) (list_3 : List (Option Nat)) (now_3 : Int) (i11 : Int) (m_3 : List (Nat × (Int × Int × Int × Int × Int × Int × Bool × (List (Int × Int))))), I n_6 list_3 now_3 i11 m_3 → (cond (decide ((i11 : Int) < ((others.length : Nat) : Int))) (joinP6 (fun (list_4 : List (Option Nat)) (now_4 : Int) (Host : Int) (Port : Int) (g13 : Int) (m_4 : List (Nat × (Int × Int × Int × Int × Int × Int × Bool × (List (Int × Int))))) => cond ((g13 : Int) == 1) (∃ (n_10 : Nat), n_10 < n_6 ∧ I n_10 list_4 now_4 (IntKind.wrap .i64 (i11 + 1)) m_4) (0 ≤ (i11 : Int) ∧ (i11 : Int) < ((others.length : Nat) : Int) ∧ (∀ (x_3 : Int × Int), others[Int.toNat i11]? = some x_3 → (nat_Nat_In_wp box box_1 box_2 box_3 box_4 box_5 box_6 list_4 now_4 1 r_10 x_3.1 x_3.2 m_4 (fun (r_18 : Int) (r_19 : Int) (r_20 : Int) (list_7 : List (Option Nat)) (now_7 : Int) (m_7 : List (Nat × (Int × Int × Int × Int × Int × Int × Bool × (List (Int × Int))))) => joinP1 (fun (t98 : Bool) => cond t98 (K false) (∃ (n_12 : Nat), n_12 < n_6 ∧ I n_12 list_7 now_7 (IntKind.wrap .i64 (i11 + 1)) m_7)) (fun (Q_4 : Bool → Prop) => cond ((g13 : Int) != 0) (Q_4 true) (cond ((Port : Int) != r_10) (Q_4 true) (cond ((r_20 : Int) != 0) (Q_4 true) (Q_4 (!(((r_18 : Int) == in_Host) && (((r_19 : Int) == in_Port) && true)))))))))))) (fun (Q_3 : List (Option Nat) → Int → Int → Int → Int → List (Nat × (Int × Int × Int × Int × Int × Int × Bool × (List (Int × Int)))) → Prop) => 0 ≤ (i11 : Int) ∧ (i11 : Int) < ((others.length : Nat) : Int) ∧ (∀ (x_2 : Int × Int), others[Int.toNat i11]? = some x_2 → ((nat_Nat_Out_wp box box_1 box_2 box_3 box_4 box_5 box_6 list_3 now_3 1 in_Host in_Port x_2.1 x_2.2 m_3 (fun (r_12 : Int) (r_13 : Int) (r_14 : Int) (list_5 : List (Option Nat)) (now_5 : Int) (m_5 : List (Nat × (Int × Int × Int × Int × Int × Int × Bool × (List (Int × Int))))) => Q_3 list_5 now_5 r_12 r_13 r_14 m_5)) ∧ (nat_Nat_Out_wp box box_1 box_2 box_3 box_4 box_5 box_6 list_3 now_3 1 in_Host in_Port x_2.1 x_2.2 m_3 (fun (r_15 : Int) (r_16 : Int) (r_17 : Int) (list_6 : List (Option Nat)) (now_6 : Int) (m_6 : List (Nat × (Int × Int × Int × Int × Int × Int × Bool × (List (Int × Int))))) => Q_3 list_6 now_6 r_15 r_16 r_17 m_6)))))) (Q_2 list_3 now_3 m_3))))))) (fun (Q_1 : Bool → Prop) => cond ((r_9 : Int) != 0) (Q_1 true) (Q_1 (decide ((((others.length : Nat) : Int) : Int) > 20))))))))
theorem embrasurelaw08_NatAsked_ok {p_1 : Option Addr} {n_1 : Nat} {c_1 : Nat} {classes : Int} {in_Host : Int} {in_Port : Int} {others : List (Int × Int)} {FL : List HP} {w : World} {K : Bool → Prop} {R : Value → World → Prop}
  (hF_others : ∀ w, Mem FL w → Rd w 2 p_1 enc24 others) (hl_others : n_1 = others.length) (hc_others : n_1 ≤ c_1)
  (h : Mem (FL) w) (hp : embrasurelaw08_NatAsked_wp classes in_Host in_Port others K)
  (hR : ∀ (r : Bool) (w : World), Mem (FL) w → K r → R (Value.bool r) w) :
  CallV Try.prog 7 #[(Value.int .u8 classes), (Value.agg #[(Value.int .u32 in_Host), (Value.int .i64 in_Port)]), (Value.slice p_1 n_1 c_1)] w R := by
  refine embrasurelaw08_NatAsked_call ?_
  unfold embrasurelaw08_NatAsked
  unfold embrasurelaw08_NatAsked_wp at hp
  subst hl_others
  replace h := stoNil stoE71 (fun _ => default) h
  refine newL (o := [(Value.int .u32 in_Host), (Value.int .i64 in_Port)]) h ?_
  intro b_1 w h
  refine embrasurelaw08_awake_ok h hp ?_
  intro r w h hp
  refine ⟨_, rfl, ?_⟩
  refine cond_both hp (fun hp => ?_) (fun hp => ?_)
  · replace h := h.sel [] 2
    dsimp only [pickL, pickR, nthH, delH, dropH, List.cons_append, List.nil_append] at h
    exact hR false _ h hp
  refine embrasurelaw08_Box_ok h hp ?_
  intro r_1 r_2 r_3 r_4 r_5 r_6 r_7 w h hp
  refine ⟨_, _, _, _, _, _, _, rfl, ?_⟩
  refine nat_New_ok h hp ?_ ?_
  · intro r_8 w h hp
    refine ⟨_, _, rfl, ?_⟩
    obtain ⟨Q, hq, hp⟩ := hp
    refine ⟨fun others2p others2l others2c in4 n7 t40 w => p_1 = others2p ∧ others.length = others2l ∧ c_1 = others2c ∧ (Addr.mk b_1 0 none) = in4 ∧ none = n7 ∧ Q t40 ∧ Mem (cel b_1 24 [(Value.int .u32 in_Host), (Value.int .i64 in_Port)] :: stoP stoE71 (fun _ => default) ([] : List (Nat × (Int × Int × Int × Int × Int × Int × Bool × (List (Int × Int))))) :: FL) w, ?_, ?_⟩
    · rintro others2p others2l others2c in4 n7 t40 w ⟨rfl, rfl, rfl, rfl, rfl, hp, h⟩
      replace hp := hq t40 hp
      unfold embrasurelaw08_NatAsked_j1
      refine cond_both' hp (fun hp => ?_) (fun hp => ?_)
      · refine ⟨_, cellL h 0 0 rfl rfl rfl, _, cellL h 0 1 rfl rfl rfl, ?_⟩
        exact hp.elim
      replace h := h.sel [] 2
      dsimp only [pickL, pickR, nthH, delH, dropH, List.cons_append, List.nil_append] at h
      exact hR (decide ((((others.length : Nat) : Int) : Int) > 20)) _ h hp
    clear hq
    refine eqlPtrNN undP30 ?_
    refine ⟨_, rfl, ?_⟩
    refine cond_tt ?_
    exact ⟨rfl, rfl, rfl, rfl, rfl, hp, h⟩
  rintro r_9 box box_1 box_2 box_3 box_4 box_5 box_6 list now b_2 p_2 n_2 c_2 w rfl h hp
  have cpp_2 := rowCap h 1 rfl
  refine ⟨_, _, rfl, ?_⟩
  obtain ⟨Q_1, hq, hp⟩ := hp
  refine ⟨fun others2_1p others2_1l others2_1c in4_1 n7_1 t40_1 w => p_1 = others2_1p ∧ others.length = others2_1l ∧ c_1 = others2_1c ∧ (Addr.mk b_1 0 none) = in4_1 ∧ (some (Addr.mk b_2 0 none)) = n7_1 ∧ Q_1 t40_1 ∧ Mem (cel b_2 64 [(Value.int .u32 box), (Value.int .i64 box_1), (Value.int .i64 box_2), (Value.int .i64 box_3), (Value.int .i64 box_4), (Value.int .i64 box_5), (Value.int .i64 box_6), (Value.slice p_2 list.length c_2), (Value.int .i64 now)] :: row enc67 67 1 p_2 c_2 list :: cel b_1 24 [(Value.int .u32 in_Host), (Value.int .i64 in_Port)] :: stoP stoE71 (fun _ => default) ([] : List (Nat × (Int × Int × Int × Int × Int × Int × Bool × (List (Int × Int))))) :: FL) w, ?_, ?_⟩
  · rintro others2_1p others2_1l others2_1c in4_1 n7_1 t40_1 w ⟨rfl, rfl, rfl, rfl, rfl, hp, h⟩
    replace hp := hq t40_1 hp
    unfold embrasurelaw08_NatAsked_j1
    refine cond_both hp (fun hp => ?_) (fun hp => ?_)
    · replace h := h.sel [] 4
      dsimp only [pickL, pickR, nthH, delH, dropH, List.cons_append, List.nil_append] at h
      exact hR (decide ((((others.length : Nat) : Int) : Int) > 20)) _ h hp
    refine ⟨_, cellL h 2 0 rfl rfl rfl, _, cellL h 2 1 rfl rfl rfl, ?_⟩
    replace h := h.pick [0, 0, 1]
    dsimp only [pickL, pickR, nthH, delH, dropH, List.cons_append, List.nil_append] at h
    refine nat_Nat_Ask_ok h hp ?_
    rintro r_10 r_11 list_1 now_1 m_1 p_3 n_3 c_3 hd w rfl h hp
    have cpp_3 := rowCap h 1 rfl
    refine ⟨_, _, rfl, ?_⟩
    refine cond_both hp (fun hp => ?_) (fun hp => ?_)
    · replace h := h.sel [] 4
      dsimp only [pickL, pickR, nthH, delH, dropH, List.cons_append, List.nil_append] at h
      exact hR ((r_11 : Int) == 1) _ h hp
    obtain ⟨Q_2, hq, hp⟩ := hp
    refine ⟨fun in4_2 n7_2 port9 w => ∃ (list_2 : List (Option Nat)), ∃ (p_4 : Option Addr), ∃ (n_4 : Nat), ∃ (c_4 : Nat), ∃ (now_2 : Int), ∃ (m_2 : List (Nat × (Int × Int × Int × Int × Int × Int × Bool × (List (Int × Int))))), ∃ (hd_1 : Nat → Option Addr × Nat), (Addr.mk b_1 0 none) = in4_2 ∧ (some (Addr.mk b_2 0 none)) = n7_2 ∧ r_10 = port9 ∧ n_4 = list_2.length ∧ Q_2 list_2 now_2 m_2 ∧ Mem (cel b_2 64 [(Value.int .u32 box), (Value.int .i64 box_1), (Value.int .i64 box_2), (Value.int .i64 box_3), (Value.int .i64 box_4), (Value.int .i64 box_5), (Value.int .i64 box_6), (Value.slice p_4 n_4 c_4), (Value.int .i64 now_2)] :: row enc67 67 1 p_4 c_4 list_2 :: cel b_1 24 [(Value.int .u32 in_Host), (Value.int .i64 in_Port)] :: stoP stoE71 hd_1 m_2 :: FL) w, ?_, ?_⟩
    · rintro in4_2 n7_2 port9 w ⟨list_2, p_4, n_4, c_4, now_2, m_2, hd_1, rfl, rfl, rfl, rfl, hp, h⟩
      replace hp := hq list_2 now_2 m_2 hp
      unfold embrasurelaw08_NatAsked_j2
      have cpp_4 := rowCap h 1 rfl
      refine ⟨_, cellL h 2 0 rfl rfl rfl, _, cellL h 2 1 rfl rfl rfl, ?_⟩
      replace h := h.pick [0, 0, 1]
      dsimp only [pickL, pickR, nthH, delH, dropH, List.cons_append, List.nil_append] at h
      refine nat_Nat_Ask_ok h hp ?_
      rintro r_21 r_22 list_8 now_8 m_8 p_10 n_14 c_10 hd_7 w rfl h hp
      have cpp_10 := rowCap h 1 rfl
      refine ⟨_, _, rfl, ?_⟩
      refine nat_Nat_In_ok h hp ?_
      rintro r_23 r_24 r_25 list_9 now_9 m_9 p_11 n_15 c_11 hd_8 w rfl h hp
      have cpp_11 := rowCap h 1 rfl
      refine ⟨_, _, _, rfl, ?_⟩
      refine newL (o := [(Value.int .u32 0), (Value.int .i64 0)]) h ?_
      intro b_7 w h
      refine storeL (ys := [(Value.int .u32 r_23), (Value.int .i64 r_24)]) h 0 0 rfl rfl rfl sz24 rfl rfl ?_
      intro w h
      dsimp only [setH, setVs, setV] at h
      replace h := h.pick [1, 1, 1]
      dsimp only [pickL, pickR, nthH, delH, dropH, List.cons_append, List.nil_append] at h
      refine nat_Nat_In_ok h hp ?_
      rintro r_26 r_27 r_28 list_10 now_10 m_10 p_12 n_16 c_12 hd_9 w rfl h hp
      have cpp_12 := rowCap h 1 rfl
      refine ⟨_, _, _, rfl, ?_⟩
      refine newL (o := [(Value.int .u32 0), (Value.int .i64 0)]) h ?_
      intro b_8 w h
      refine storeL (ys := [(Value.int .u32 r_26), (Value.int .i64 r_27)]) h 0 0 rfl rfl rfl sz24 rfl rfl ?_
      intro w h
      dsimp only [setH, setVs, setV] at h
      refine cond_both' hp (fun hp => ?_) (fun hp => ?_)
      · replace h := h.sel [] 6
        dsimp only [pickL, pickR, nthH, delH, dropH, List.cons_append, List.nil_append] at h
        exact hR false _ h hp
      refine cond_both' hp (fun hp => ?_) (fun hp => ?_)
      · replace h := h.sel [] 6
        dsimp only [pickL, pickR, nthH, delH, dropH, List.cons_append, List.nil_append] at h
        exact hR false _ h hp
      refine cond_both' hp (fun hp => ?_) (fun hp => ?_)
      · replace h := h.sel [] 6
        dsimp only [pickL, pickR, nthH, delH, dropH, List.cons_append, List.nil_append] at h
        exact hR false _ h hp
      refine cond_both' hp (fun hp => ?_) (fun hp => ?_)
      · replace h := h.sel [] 6
        dsimp only [pickL, pickR, nthH, delH, dropH, List.cons_append, List.nil_append] at h
        exact hR false _ h hp
      refine ⟨_, cellL h 4 0 rfl rfl rfl, _, cellL h 4 1 rfl rfl rfl, ?_⟩
      refine ⟨_, cellL h 5 0 rfl rfl rfl, _, cellL h 5 1 rfl rfl rfl, ?_⟩
      refine eqlAgg (xs := [(Value.int .u32 r_23), (Value.int .i64 r_24)]) (ys := [(Value.int .u32 in_Host), (Value.int .i64 in_Port)]) eqG24 eqA24 (eqT24 r_23 r_24 in_Host in_Port) ?_
      refine ⟨_, rfl, ?_⟩
      refine cond_both' hp (fun hp => ?_) (fun hp => ?_)
      · replace h := h.sel [] 6
        dsimp only [pickL, pickR, nthH, delH, dropH, List.cons_append, List.nil_append] at h
        exact hR false _ h hp
      refine cond_both' hp (fun hp => ?_) (fun hp => ?_)
      · replace h := h.sel [] 6
        dsimp only [pickL, pickR, nthH, delH, dropH, List.cons_append, List.nil_append] at h
        exact hR false _ h hp
      replace h := h.pick [1, 1, 1]
      dsimp only [pickL, pickR, nthH, delH, dropH, List.cons_append, List.nil_append] at h
      refine nat_Nat_All_ok h hp ?_
      rintro rs list_11 now_11 m_11 p_13 n_17 c_13 p_14 n_18 c_14 hd_10 w rfl rfl h hp
      have cpp_13 := rowCap h 0 rfl
      have cpp_14 := rowCap h 2 rfl
      refine ⟨_, _, _, rfl, ?_⟩
      replace h := h.sel [] 7
      dsimp only [pickL, pickR, nthH, delH, dropH, List.cons_append, List.nil_append] at h
      exact hR ((((rs.length : Nat) : Int) : Int) == 0) _ h hp
    clear hq
    obtain ⟨I, ⟨n_13, h0⟩, hq⟩ := hp
    replace h := h.sel [0, 0, 1, 0] 0
    dsimp only [pickL, pickR, nthH, delH, dropH, List.cons_append, List.nil_append] at h
    refine ⟨fun n_6 others2_2p others2_2l others2_2c in4_3 n7_3 port9_1 i11 w => ∃ (list_3 : List (Option Nat)), ∃ (p_5 : Option Addr), ∃ (n_5 : Nat), ∃ (c_5 : Nat), ∃ (now_3 : Int), ∃ (m_3 : List (Nat × (Int × Int × Int × Int × Int × Int × Bool × (List (Int × Int))))), ∃ (hd_2 : Nat → Option Addr × Nat), p_1 = others2_2p ∧ others.length = others2_2l ∧ c_1 = others2_2c ∧ (Addr.mk b_1 0 none) = in4_3 ∧ (some (Addr.mk b_2 0 none)) = n7_3 ∧ r_10 = port9_1 ∧ n_5 = list_3.length ∧ I n_6 list_3 now_3 i11 m_3 ∧ Mem (cel b_2 64 [(Value.int .u32 box), (Value.int .i64 box_1), (Value.int .i64 box_2), (Value.int .i64 box_3), (Value.int .i64 box_4), (Value.int .i64 box_5), (Value.int .i64 box_6), (Value.slice p_5 n_5 c_5), (Value.int .i64 now_3)] :: row enc67 67 1 p_5 c_5 list_3 :: cel b_1 24 [(Value.int .u32 in_Host), (Value.int .i64 in_Port)] :: stoP stoE71 hd_2 m_3 :: FL) w, ⟨n_13, list_1, p_3, list_1.length, c_3, now_1, m_1, hd, rfl, rfl, rfl, rfl, rfl, rfl, rfl, h0, h⟩, ?_⟩
    clear h0 h
    rintro n_6 others2_2p others2_2l others2_2c in4_3 n7_3 port9_1 i11 w ⟨list_3, p_5, n_5, c_5, now_3, m_3, hd_2, rfl, rfl, rfl, rfl, rfl, rfl, rfl, hp, h⟩
    replace hp := hq n_6 list_3 now_3 i11 m_3 hp
    clear hq
    unfold embrasurelaw08_NatAsked_l3
    have cpp_5 := rowCap h 1 rfl
    refine cond_both' hp (fun hp => ?_) (fun hp => ?_)
    · exact ⟨list_3, p_5, list_3.length, c_5, now_3, m_3, hd_2, rfl, rfl, rfl, rfl, hp, h⟩
    obtain ⟨Q_3, hq, hp⟩ := hp
    refine ⟨fun others2_3p others2_3l others2_3c in4_4 n7_4 port9_2 i11_1 a12 g13 w => ∃ (list_4 : List (Option Nat)), ∃ (p_6 : Option Addr), ∃ (n_7 : Nat), ∃ (c_6 : Nat), ∃ (now_4 : Int), ∃ (b_3 : Nat), ∃ (Host : Int), ∃ (Port : Int), ∃ (m_4 : List (Nat × (Int × Int × Int × Int × Int × Int × Bool × (List (Int × Int))))), ∃ (hd_3 : Nat → Option Addr × Nat), p_1 = others2_3p ∧ others.length = others2_3l ∧ c_1 = others2_3c ∧ (Addr.mk b_1 0 none) = in4_4 ∧ (some (Addr.mk b_2 0 none)) = n7_4 ∧ r_10 = port9_2 ∧ i11 = i11_1 ∧ (Addr.mk b_3 0 none) = a12 ∧ n_7 = list_4.length ∧ Q_3 list_4 now_4 Host Port g13 m_4 ∧ Mem (cel b_2 64 [(Value.int .u32 box), (Value.int .i64 box_1), (Value.int .i64 box_2), (Value.int .i64 box_3), (Value.int .i64 box_4), (Value.int .i64 box_5), (Value.int .i64 box_6), (Value.slice p_6 n_7 c_6), (Value.int .i64 now_4)] :: row enc67 67 1 p_6 c_6 list_4 :: cel b_1 24 [(Value.int .u32 in_Host), (Value.int .i64 in_Port)] :: stoP stoE71 hd_3 m_4 :: cel b_3 24 [(Value.int .u32 Host), (Value.int .i64 Port)] :: FL) w, ?_, ?_⟩
    · rintro others2_3p others2_3l others2_3c in4_4 n7_4 port9_2 i11_1 a12 g13 w ⟨list_4, p_6, n_7, c_6, now_4, b_3, Host, Port, m_4, hd_3, rfl, rfl, rfl, rfl, rfl, rfl, rfl, rfl, rfl, hp, h⟩
      replace hp := hq list_4 now_4 Host Port g13 m_4 hp
      unfold embrasurelaw08_NatAsked_j4
      have cpp_6 := rowCap h 1 rfl
      refine cond_both hp (fun hp => ?_) (fun hp => ?_)
      · replace h := h.sel [0, 0, 0, 0] 1
        dsimp only [pickL, pickR, nthH, delH, dropH, List.cons_append, List.nil_append] at h
        obtain ⟨n_10, hn, hp⟩ := hp
        exact ⟨n_10, hn, list_4, p_6, list_4.length, c_6, now_4, m_4, hd_3, rfl, rfl, rfl, rfl, rfl, rfl, rfl, hp, h⟩
      obtain ⟨ia_2, ja_2, hp⟩ := hp
      obtain ⟨a_2, ha_2⟩ := rdAddr (hF_others _ (h.drop 5)) rfl ia_2 ja_2
      refine ⟨a_2, ha_2, ia_2, ja_2, ?_⟩
      obtain ⟨x_3, hx_3, hc⟩ := rdCell (hF_others _ (h.drop 5)) ha_2 rfl ia_2 ja_2
      replace hp := hp x_3 hx_3
      refine ⟨_, hc 0 _ rfl, _, hc 1 _ rfl, ?_⟩
      replace h := h.pick [0, 0, 1]
      dsimp only [pickL, pickR, nthH, delH, dropH, List.cons_append, List.nil_append] at h
      refine nat_Nat_In_ok h hp ?_
      rintro r_18 r_19 r_20 list_7 now_7 m_7 p_9 n_11 c_9 hd_6 w rfl h hp
      have cpp_9 := rowCap h 1 rfl
      refine ⟨_, _, _, rfl, ?_⟩
      refine newL (o := [(Value.int .u32 0), (Value.int .i64 0)]) h ?_
      intro b_6 w h
      refine storeL (ys := [(Value.int .u32 r_18), (Value.int .i64 r_19)]) h 0 0 rfl rfl rfl sz24 rfl rfl ?_
      intro w h
      dsimp only [setH, setVs, setV] at h
      obtain ⟨Q_4, hq, hp⟩ := hp
      refine ⟨fun others2_4p others2_4l others2_4c in4_5 n7_5 port9_3 i11_2 t98 w => p_1 = others2_4p ∧ others.length = others2_4l ∧ c_1 = others2_4c ∧ (Addr.mk b_1 0 none) = in4_5 ∧ (some (Addr.mk b_2 0 none)) = n7_5 ∧ r_10 = port9_3 ∧ i11 = i11_2 ∧ Q_4 t98 ∧ Mem (cel b_6 24 [(Value.int .u32 r_18), (Value.int .i64 r_19)] :: cel b_2 64 [(Value.int .u32 box), (Value.int .i64 box_1), (Value.int .i64 box_2), (Value.int .i64 box_3), (Value.int .i64 box_4), (Value.int .i64 box_5), (Value.int .i64 box_6), (Value.slice p_9 list_7.length c_9), (Value.int .i64 now_7)] :: row enc67 67 1 p_9 c_9 list_7 :: cel b_1 24 [(Value.int .u32 in_Host), (Value.int .i64 in_Port)] :: cel b_3 24 [(Value.int .u32 Host), (Value.int .i64 Port)] :: stoP stoE71 hd_6 m_7 :: FL) w, ?_, ?_⟩
      · rintro others2_4p others2_4l others2_4c in4_5 n7_5 port9_3 i11_2 t98 w ⟨rfl, rfl, rfl, rfl, rfl, rfl, rfl, hp, h⟩
        replace hp := hq t98 hp
        unfold embrasurelaw08_NatAsked_j5
        refine cond_both hp (fun hp => ?_) (fun hp => ?_)
        · replace h := h.sel [] 6
          dsimp only [pickL, pickR, nthH, delH, dropH, List.cons_append, List.nil_append] at h
          exact hR false _ h hp
        replace h := h.sel [1, 1, 1, 2] 2
        dsimp only [pickL, pickR, nthH, delH, dropH, List.cons_append, List.nil_append] at h
        obtain ⟨n_12, hn, hp⟩ := hp
        exact ⟨n_12, hn, list_7, p_9, list_7.length, c_9, now_7, m_7, hd_6, rfl, rfl, rfl, rfl, rfl, rfl, rfl, hp, h⟩
      clear hq
      refine cond_both hp (fun hp => ?_) (fun hp => ?_)
      · replace h := h.sel [0, 0, 0, 1, 1, 0] 0
        dsimp only [pickL, pickR, nthH, delH, dropH, List.cons_append, List.nil_append] at h
        exact ⟨rfl, rfl, rfl, rfl, rfl, rfl, rfl, hp, h⟩
      refine ⟨_, cellL h 5 1 rfl rfl rfl, ?_⟩
      refine cond_both hp (fun hp => ?_) (fun hp => ?_)
      · replace h := h.sel [0, 0, 0, 1, 1, 0] 0
        dsimp only [pickL, pickR, nthH, delH, dropH, List.cons_append, List.nil_append] at h
        exact ⟨rfl, rfl, rfl, rfl, rfl, rfl, rfl, hp, h⟩
      refine cond_both hp (fun hp => ?_) (fun hp => ?_)
      · replace h := h.sel [0, 0, 0, 1, 1, 0] 0
        dsimp only [pickL, pickR, nthH, delH, dropH, List.cons_append, List.nil_append] at h
        exact ⟨rfl, rfl, rfl, rfl, rfl, rfl, rfl, hp, h⟩
      refine ⟨_, cellL h 0 0 rfl rfl rfl, _, cellL h 0 1 rfl rfl rfl, ?_⟩
      refine ⟨_, cellL h 4 0 rfl rfl rfl, _, cellL h 4 1 rfl rfl rfl, ?_⟩
      refine neqAgg (xs := [(Value.int .u32 r_18), (Value.int .i64 r_19)]) (ys := [(Value.int .u32 in_Host), (Value.int .i64 in_Port)]) eqG24 eqA24 (eqT24 r_18 r_19 in_Host in_Port) ?_
      refine ⟨_, rfl, ?_⟩
      replace h := h.sel [0, 0, 0, 1, 1, 0] 0
      dsimp only [pickL, pickR, nthH, delH, dropH, List.cons_append, List.nil_append] at h
      exact ⟨rfl, rfl, rfl, rfl, rfl, rfl, rfl, hp, h⟩
    clear hq
    replace h := h.drew
    refine ⟨fun w => Mem (cel b_1 24 [(Value.int .u32 in_Host), (Value.int .i64 in_Port)] :: FL) w, (h.sel [2] 3), ?_⟩
    refine ⟨_, cellL h 2 0 rfl rfl rfl, _, cellL h 2 1 rfl rfl rfl, ?_⟩
    refine ⟨?_, ?_⟩
    · intro w h
      change Mem _ _ at h
      refine ⟨_, cellL h 0 0 rfl rfl rfl, _, cellL h 0 1 rfl rfl rfl, ?_⟩
      exact ⟨rfl, rfl⟩
    obtain ⟨ia_1, ja_1, hp⟩ := hp
    obtain ⟨a_1, ha_1⟩ := rdAddr (hF_others _ (h.drop 4)) rfl ia_1 ja_1
    refine ⟨a_1, ha_1, ia_1, ja_1, ?_⟩
    obtain ⟨x_2, hx_2, hc⟩ := rdCell (hF_others _ (h.drop 4)) ha_1 rfl ia_1 ja_1
    replace hp := hp x_2 hx_2
    refine ⟨_, hc 0 _ rfl, _, hc 1 _ rfl, ?_⟩
    refine ⟨?_, ?_⟩
    · intro w h
      change Mem _ _ at h
      obtain ⟨x_1, hx_1, hcq⟩ := rdCell (hF_others _ (h.drop 1)) ha_1 rfl ia_1 ja_1
      obtain rfl : x_1 = x_2 := Option.some.inj (hx_1.symm.trans hx_2)
      refine ⟨_, hcq 0 _ rfl, _, hcq 1 _ rfl, ?_⟩
      exact ⟨rfl, rfl⟩
    refine ⟨?_, ?_⟩
    · replace hp := hp.1
      replace h := h.pick [0, 0, 1]
      dsimp only [pickL, pickR, nthH, delH, dropH, List.cons_append, List.nil_append] at h
      refine nat_Nat_Out_ok h hp ?_
      rintro r_12 r_13 r_14 list_5 now_5 m_5 p_7 n_8 c_7 hd_4 w rfl h hp
      have cpp_7 := rowCap h 1 rfl
      refine ⟨_, _, _, rfl, ?_⟩
      refine newL (o := [(Value.int .u32 0), (Value.int .i64 0)]) h ?_
      intro b_4 w h
      refine ⟨(h.sel [4] 4), ?_⟩
      refine storeL (ys := [(Value.int .u32 r_12), (Value.int .i64 r_13)]) h 0 0 rfl rfl rfl sz24 rfl rfl ?_
      intro w h
      dsimp only [setH, setVs, setV] at h
      replace h := h.sel [1, 1, 2, 1, 0] 0
      dsimp only [pickL, pickR, nthH, delH, dropH, List.cons_append, List.nil_append] at h
      exact ⟨list_5, p_7, list_5.length, c_7, now_5, b_4, r_12, r_13, m_5, hd_4, rfl, rfl, rfl, rfl, rfl, rfl, rfl, rfl, rfl, hp, h⟩
    replace hp := hp.2
    refine newL (o := [(Value.int .u32 0), (Value.int .i64 0)]) h ?_
    intro b_5 w h
    refine ⟨(h.sel [3] 4), ?_⟩
    replace h := h.pick [1, 1, 2]
    dsimp only [pickL, pickR, nthH, delH, dropH, List.cons_append, List.nil_append] at h
    refine nat_Nat_Out_ok h hp ?_
    rintro r_15 r_16 r_17 list_6 now_6 m_6 p_8 n_9 c_8 hd_5 w rfl h hp
    have cpp_8 := rowCap h 1 rfl
    refine ⟨_, _, _, rfl, ?_⟩
    refine storeL (ys := [(Value.int .u32 r_15), (Value.int .i64 r_16)]) h 3 0 rfl rfl rfl sz24 rfl rfl ?_
    intro w h
    dsimp only [setH, setVs, setV] at h
    replace h := h.sel [0, 0, 2, 0, 0] 0
    dsimp only [pickL, pickR, nthH, delH, dropH, List.cons_append, List.nil_append] at h
    exact ⟨list_6, p_8, list_6.length, c_8, now_6, b_5, r_15, r_16, m_6, hd_5, rfl, rfl, rfl, rfl, rfl, rfl, rfl, rfl, rfl, hp, h⟩
  clear hq
  refine eqlPtrNil undP30 ?_
  refine ⟨_, rfl, ?_⟩
  refine cond_ff ?_
  refine cond_both hp (fun hp => ?_) (fun hp => ?_)
  · exact ⟨rfl, rfl, rfl, rfl, rfl, hp, h⟩
  exact ⟨rfl, rfl, rfl, rfl, rfl, hp, h⟩

end Go.Proofs.Ythhbnjcebmhilaa
