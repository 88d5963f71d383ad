/- Each function over plain data (printed by a program of this claim's author). -/
import Derived.Test.YtbjodidajacilaaL1
namespace Go.Proofs.Ytbjodidajacilaa
open Go Go.Eng Go.Proofs
set_option maxRecDepth 100000
set_option maxHeartbeats 2000000

/-! (*embrasure/world.World).Way (9) -/
def world_World_Way_wp (boxes : List (Option Nat)) (behind : List (Int)) (hosts : List (Int × Int)) (last : Int) (now : Int) (host : Int) (port : Int) (to_Host : Int) (to_Port : Int) (m_1 : List (Nat × (Int × Int × Int × Int × Int × Int × Int × (List (Option Nat)) × Int))) (m_2 : List (Nat × (Int × Int × Int × Int × Int × Int × Bool × (List (Int × Int))))) (K : Int → Int → Int → Int → Int → Int → Int → List (Nat × (Int × Int × Int × Int × Int × Int × Int × (List (Option Nat)) × Int)) → List (Nat × (Int × Int × Int × Int × Int × Int × Bool × (List (Int × Int)))) → Prop) : Prop :=
  joinP1 (fun (t48 : Bool) => cond t48 (K 0 0 0 0 0 1 last m_1 m_2) (0 ≤ (host : Int) ∧ (host : Int) < ((hosts.length : Nat) : Int) ∧ (∀ (x_1 : Int × Int), hosts[Int.toNat host]? = some x_1 → (addr_May_wp x_1.1 port (fun (r_1 : Bool) => cond (!r_1) (K 0 0 0 0 0 1 last m_1 m_2) (0 ≤ (host : Int) ∧ (host : Int) < ((hosts.length : Nat) : Int) ∧ (∀ (x_2 : Int × Int), hosts[Int.toNat host]? = some x_2 → (joinP7 (fun (Host : Int) (Port : Int) (Host_1 : Int) (Port_1 : Int) (e18 : Int) (m_5 : List (Nat × (Int × Int × Int × Int × Int × Int × Int × (List (Option Nat)) × Int))) (m_6 : List (Nat × (Int × Int × Int × Int × Int × Int × Bool × (List (Int × Int))))) => K 0 0 0 0 0 e18 now m_5 m_6) (fun (Q_1 : Int → Int → Int → Int → Int → List (Nat × (Int × Int × Int × Int × Int × Int × Int × (List (Option Nat)) × Int)) → List (Nat × (Int × Int × Int × Int × Int × Int × Bool × (List (Int × Int)))) → Prop) => ∃ (I : Nat → Int → Int → Int → Int → Int → Int → Bool → List (Nat × (Int × Int × Int × Int × Int × Int × Int × (List (Option Nat)) × Int)) → List (Nat × (Int × Int × Int × Int × Int × Int × Bool × (List (Int × Int)))) → Prop), (∃ (n_6 : Nat), I n_6 x_1.1 port to_Host to_Port x_2.2 (-1) false m_1 m_2) ∧ ∀ (n_1 : Nat) (Host_2 : Int) (Port_2 : Int) (Host_3 : Int) (Port_3 : Int) (at15 : Int) (came16 : Int) (in17 : Bool) (m_7 : List (Nat × (Int × Int × Int × Int × Int × Int × Int × (List (Option Nat)) × Int))) (m_8 : List (Nat × (Int × Int × Int × Int × Int × Int × Bool × (List (Int × Int))))), I n_1 Host_2 Port_2 Host_3 Port_3 at15 came16 in17 m_7 m_8 → (slices_Index_sl_api_Site_api_Site_wp hosts Host_3 at15 (fun (r_2 : Int) => cond (decide ((r_2 : Int) ≥ 0)) (K r_2 Host_2 Port_2 Host_3 Port_3 0 now m_7 m_8) (world_World_box_wp boxes behind now at15 Host_3 m_7 (fun (r_3 : Int) (m_9 : List (Nat × (Int × Int × Int × Int × Int × Int × Int × (List (Option Nat)) × Int))) => joinP1 (fun (t121 : Bool) => cond t121 (0 ≤ (r_3 : Int) ∧ (r_3 : Int) < ((boxes.length : Nat) : Int) ∧ (∀ (x_3 : Option Nat), boxes[Int.toNat r_3]? = some x_3 → (∃ (b_6 : Nat), x_3 = some b_6 ∧ (∃ (x_4 : Int × Int × Int × Int × Int × Int × Int × (List (Option Nat)) × Int), getS m_9 b_6 = some x_4 ∧ (nat_Nat_In_wp x_4.1 x_4.2.1 x_4.2.2.1 x_4.2.2.2.1 x_4.2.2.2.2.1 x_4.2.2.2.2.2.1 x_4.2.2.2.2.2.2.1 x_4.2.2.2.2.2.2.2.1 x_4.2.2.2.2.2.2.2.2 now Port_3 Host_2 Port_2 m_8 (fun (r_4 : Int) (r_5 : Int) (r_6 : Int) (list : List (Option Nat)) (now_1 : Int) (m_10 : List (Nat × (Int × Int × Int × Int × Int × Int × Bool × (List (Int × Int))))) => cond ((r_6 : Int) != 0) (Q_1 Host_2 Port_2 r_4 r_5 r_6 (putS m_9 b_6 (x_4.1, x_4.2.1, x_4.2.2.1, x_4.2.2.2.1, x_4.2.2.2.2.1, x_4.2.2.2.2.2.1, x_4.2.2.2.2.2.2.1, list, now_1)) m_10) (∃ (n_3 : Nat), n_3 < n_1 ∧ I n_3 Host_2 Port_2 r_4 r_5 r_3 came16 true (putS m_9 b_6 (x_4.1, x_4.2.1, x_4.2.2.1, x_4.2.2.2.1, x_4.2.2.2.2.1, x_4.2.2.2.2.2.1, x_4.2.2.2.2.2.2.1, list, now_1)) m_10))))))) (joinP1 (fun (t147 : Bool) => cond t147 (Q_1 Host_2 Port_2 Host_3 Port_3 8 m_9 m_8) (0 ≤ (at15 : Int) ∧ (at15 : Int) < ((boxes.length : Nat) : Int) ∧ (∀ (x_5 : Option Nat), boxes[Int.toNat at15]? = some x_5 → (∃ (b_7 : Nat), x_5 = some b_7 ∧ (∃ (x_6 : Int × Int × Int × Int × Int × Int × Int × (List (Option Nat)) × Int), getS m_9 b_7 = some x_6 ∧ (nat_Nat_Out_wp x_6.1 x_6.2.1 x_6.2.2.1 x_6.2.2.2.1 x_6.2.2.2.2.1 x_6.2.2.2.2.2.1 x_6.2.2.2.2.2.2.1 x_6.2.2.2.2.2.2.2.1 x_6.2.2.2.2.2.2.2.2 now Host_2 Port_2 Host_3 Port_3 m_8 (fun (r_7 : Int) (r_8 : Int) (r_9 : Int) (list_1 : List (Option Nat)) (now_2 : Int) (m_11 : List (Nat × (Int × Int × Int × Int × Int × Int × Bool × (List (Int × Int))))) => cond ((r_9 : Int) != 0) (Q_1 r_7 r_8 Host_3 Port_3 r_9 (putS m_9 b_7 (x_6.1, x_6.2.1, x_6.2.2.1, x_6.2.2.2.1, x_6.2.2.2.2.1, x_6.2.2.2.2.2.1, x_6.2.2.2.2.2.2.1, list_1, now_2)) m_11) (0 ≤ (at15 : Int) ∧ (at15 : Int) < ((behind.length : Nat) : Int) ∧ (∀ (x_7 : Int), behind[Int.toNat at15]? = some x_7 → (∃ (n_5 : Nat), n_5 < n_1 ∧ I n_5 r_7 r_8 Host_3 Port_3 x_7 at15 in17 (putS m_9 b_7 (x_6.1, x_6.2.1, x_6.2.2.1, x_6.2.2.2.1, x_6.2.2.2.2.1, x_6.2.2.2.2.2.1, x_6.2.2.2.2.2.2.1, list_1, now_2)) m_11)))))))))) (fun (Q_3 : Bool → Prop) => cond ((r_3 : Int) != (-1)) (Q_3 true) (cond in17 (Q_3 true) (Q_3 ((at15 : Int) == (-1))))))) (fun (Q_2 : Bool → Prop) => cond ((r_3 : Int) != (-1)) (Q_2 ((r_3 : Int) != came16)) (Q_2 false))))))))))))))) (fun (Q : Bool → Prop) => cond (decide ((host : Int) < 0)) (Q true) (cond (decide ((host : Int) ≥ ((hosts.length : Nat) : Int))) (Q true) (addr_May_wp to_Host to_Port (fun (r : Bool) => cond (!r) (Q true) (cond (decide ((now : Int) < last)) (Q true) (Q (decide ((now : Int) > 1099511627776))))))))
theorem world_World_Way_ok {b_1 : Nat} {p_1 : Option Addr} {c_1 : Nat} {p_2 : Option Addr} {c_2 : Nat} {p_3 : Option Addr} {c_3 : Nat} {hd : Nat → Option Addr × Nat} {hd_1 : Nat → Option Addr × Nat} {boxes : List (Option Nat)} {behind : List (Int)} {hosts : List (Int × Int)} {last : Int} {now : Int} {host : Int} {port : Int} {to_Host : Int} {to_Port : Int} {m_1 : List (Nat × (Int × Int × Int × Int × Int × Int × Int × (List (Option Nat)) × Int))} {m_2 : List (Nat × (Int × Int × Int × Int × Int × Int × Bool × (List (Int × Int))))} {FL : List HP} {w : World} {K : Int → Int → Int → Int → Int → Int → Int → List (Nat × (Int × Int × Int × Int × Int × Int × Int × (List (Option Nat)) × Int)) → List (Nat × (Int × Int × Int × Int × Int × Int × Bool × (List (Int × Int)))) → Prop} {R : Value → World → Prop}
  (h : Mem (cel b_1 61 [(Value.slice p_1 boxes.length c_1), (Value.slice p_2 behind.length c_2), (Value.slice p_3 hosts.length c_3), (Value.int .i64 last)] :: row enc50 50 1 p_1 c_1 boxes :: row enc3 3 1 p_2 c_2 behind :: row enc42 42 2 p_3 c_3 hosts :: stoP stoE76 hd m_1 :: stoP stoE82 hd_1 m_2 :: FL) w) (hp : world_World_Way_wp boxes behind hosts last now host port to_Host to_Port m_1 m_2 K)
  (hR : ∀ (r : Int) (r_1 : Int) (r_2 : Int) (r_3 : Int) (r_4 : Int) (r_5 : Int) (last_1 : Int) (m_3 : List (Nat × (Int × Int × Int × Int × Int × Int × Int × (List (Option Nat)) × Int))) (m_4 : List (Nat × (Int × Int × Int × Int × Int × Int × Bool × (List (Int × Int))))) (hd_2 : Nat → Option Addr × Nat) (hd_3 : Nat → Option Addr × Nat) (w : World), Mem (cel b_1 61 [(Value.slice p_1 boxes.length c_1), (Value.slice p_2 behind.length c_2), (Value.slice p_3 hosts.length c_3), (Value.int .i64 last_1)] :: row enc50 50 1 p_1 c_1 boxes :: row enc3 3 1 p_2 c_2 behind :: row enc42 42 2 p_3 c_3 hosts :: stoP stoE76 hd_2 m_3 :: stoP stoE82 hd_3 m_4 :: FL) w → K r r_1 r_2 r_3 r_4 r_5 last_1 m_3 m_4 → R (Value.tuple #[(Value.int .i64 r), (Value.agg #[(Value.int .u32 r_1), (Value.int .i64 r_2)]), (Value.agg #[(Value.int .u32 r_3), (Value.int .i64 r_4)]), (Value.int .i64 r_5)]) w) :
  CallV Try.prog 9 #[(Value.pointer (some (Addr.mk b_1 0 none))), (Value.int .i64 now), (Value.int .i64 host), (Value.int .i64 port), (Value.agg #[(Value.int .u32 to_Host), (Value.int .i64 to_Port)])] w R := by
  refine world_World_Way_call ?_
  unfold world_World_Way
  unfold world_World_Way_wp at hp
  have cpp_1 := rowCap h 1 rfl
  have cpp_2 := rowCap h 2 rfl
  have cpp_3 := rowCap h 3 rfl
  refine newL (o := [(Value.int .u32 to_Host), (Value.int .i64 to_Port)]) h ?_
  intro b_2 w h
  refine newL (o := [(Value.int .u32 0), (Value.int .i64 0)]) h ?_
  intro b_3 w h
  refine newL (o := [(Value.int .u32 0), (Value.int .i64 0)]) h ?_
  intro b_4 w h
  obtain ⟨Q, hq, hp⟩ := hp
  refine ⟨fun w0 now1 host2 port3 to9 t11 t12 t48 w => (some (Addr.mk b_1 0 none)) = w0 ∧ now = now1 ∧ host = host2 ∧ port = port3 ∧ (Addr.mk b_2 0 none) = to9 ∧ (Addr.mk b_3 0 none) = t11 ∧ (Addr.mk b_4 0 none) = t12 ∧ Q t48 ∧ Mem (cel b_4 36 [(Value.int .u32 0), (Value.int .i64 0)] :: cel b_3 36 [(Value.int .u32 0), (Value.int .i64 0)] :: cel b_2 36 [(Value.int .u32 to_Host), (Value.int .i64 to_Port)] :: cel b_1 61 [(Value.slice p_1 boxes.length c_1), (Value.slice p_2 behind.length c_2), (Value.slice p_3 hosts.length c_3), (Value.int .i64 last)] :: row enc50 50 1 p_1 c_1 boxes :: row enc3 3 1 p_2 c_2 behind :: row enc42 42 2 p_3 c_3 hosts :: stoP stoE76 hd m_1 :: stoP stoE82 hd_1 m_2 :: FL) w, ?_, ?_⟩
  · rintro w0 now1 host2 port3 to9 t11 t12 t48 w ⟨rfl, rfl, rfl, rfl, rfl, rfl, rfl, hp, h⟩
    replace hp := hq t48 hp
    unfold world_World_Way_j1
    refine cond_both hp (fun hp => ?_) (fun hp => ?_)
    · refine storeL (ys := [(Value.int .u32 0), (Value.int .i64 0)]) h 1 0 rfl rfl rfl sz36 rfl rfl ?_
      intro w h
      dsimp only [setH, setVs, setV] at h
      refine storeL (ys := [(Value.int .u32 0), (Value.int .i64 0)]) h 0 0 rfl rfl rfl sz36 rfl rfl ?_
      intro w h
      dsimp only [setH, setVs, setV] at h
      refine ⟨_, cellL h 1 0 rfl rfl rfl, _, cellL h 1 1 rfl rfl rfl, ?_⟩
      refine ⟨_, cellL h 0 0 rfl rfl rfl, _, cellL h 0 1 rfl rfl rfl, ?_⟩
      replace h := h.sel [3, 3, 3, 3, 3, 3] 3
      dsimp only [pickL, pickR, nthH, delH, dropH, List.cons_append, List.nil_append] at h
      exact hR 0 0 0 0 0 1 last m_1 m_2 hd hd_1 _ h hp
    refine ⟨_, rfl, ?_⟩
    refine ⟨_, _, _, cellL h 3 2 rfl rfl rfl, ?_⟩
    obtain ⟨ia_1, ja_1, hp⟩ := hp
    obtain ⟨a_1, ha_1⟩ := rdAddr (rowRd h 6 encL42 rfl) rfl ia_1 ja_1
    refine ⟨a_1, ha_1, ia_1, ja_1, ?_⟩
    obtain ⟨x_1, hx_1, hc⟩ := rdCell (rowRd h 6 encL42 rfl) ha_1 rfl ia_1 ja_1
    replace hp := hp x_1 hx_1
    refine ⟨_, hc 0 _ rfl, ?_⟩
    refine newL (o := [(Value.int .u32 0), (Value.int .i64 0)]) h ?_
    intro b_5 w h
    refine storeL (ys := [(Value.int .u32 x_1.1), (Value.int .i64 port)]) h 0 0 rfl rfl rfl sz36 rfl rfl ?_
    intro w h
    dsimp only [setH, setVs, setV] at h
    refine ⟨_, cellL h 0 0 rfl rfl rfl, _, cellL h 0 1 rfl rfl rfl, ?_⟩
    refine addr_May_ok h hp ?_
    intro r_1 w h hp
    refine ⟨_, rfl, ?_⟩
    refine cond_both hp (fun hp => ?_) (fun hp => ?_)
    · refine storeL (ys := [(Value.int .u32 0), (Value.int .i64 0)]) h 2 0 rfl rfl rfl sz36 rfl rfl ?_
      intro w h
      dsimp only [setH, setVs, setV] at h
      refine storeL (ys := [(Value.int .u32 0), (Value.int .i64 0)]) h 1 0 rfl rfl rfl sz36 rfl rfl ?_
      intro w h
      dsimp only [setH, setVs, setV] at h
      refine ⟨_, cellL h 2 0 rfl rfl rfl, _, cellL h 2 1 rfl rfl rfl, ?_⟩
      refine ⟨_, cellL h 1 0 rfl rfl rfl, _, cellL h 1 1 rfl rfl rfl, ?_⟩
      replace h := h.sel [4, 4, 4, 4, 4, 4] 4
      dsimp only [pickL, pickR, nthH, delH, dropH, List.cons_append, List.nil_append] at h
      exact hR 0 0 0 0 0 1 last m_1 m_2 hd hd_1 _ h hp
    refine ⟨_, rfl, ?_⟩
    refine storeL (ys := [(Value.int .i64 now)]) h 4 3 rfl rfl rfl sz3 rfl rfl ?_
    intro w h
    dsimp only [setH, setVs, setV] at h
    refine ⟨_, rfl, ?_⟩
    refine ⟨_, _, _, cellL h 4 2 rfl rfl rfl, ?_⟩
    obtain ⟨ia_2, ja_2, hp⟩ := hp
    obtain ⟨a_2, ha_2⟩ := rdAddr (rowRd h 7 encL42 rfl) rfl ia_2 ja_2
    refine ⟨a_2, ha_2, ia_2, ja_2, ?_⟩
    obtain ⟨x_2, hx_2, hc⟩ := rdCell (rowRd h 7 encL42 rfl) ha_2 rfl ia_2 ja_2
    replace hp := hp x_2 hx_2
    refine ⟨_, hc 1 _ rfl, ?_⟩
    obtain ⟨Q_1, hq, hp⟩ := hp
    refine ⟨fun t11_1 t12_1 e18 w => ∃ (Host : Int), ∃ (Port : Int), ∃ (Host_1 : Int), ∃ (Port_1 : Int), ∃ (m_5 : List (Nat × (Int × Int × Int × Int × Int × Int × Int × (List (Option Nat)) × Int))), ∃ (hd_4 : Nat → Option Addr × Nat), ∃ (m_6 : List (Nat × (Int × Int × Int × Int × Int × Int × Bool × (List (Int × Int))))), ∃ (hd_5 : Nat → Option Addr × Nat), (Addr.mk b_3 0 none) = t11_1 ∧ (Addr.mk b_4 0 none) = t12_1 ∧ Q_1 Host Port Host_1 Port_1 e18 m_5 m_6 ∧ Mem (cel b_5 36 [(Value.int .u32 Host), (Value.int .i64 Port)] :: cel b_4 36 [(Value.int .u32 0), (Value.int .i64 0)] :: cel b_3 36 [(Value.int .u32 0), (Value.int .i64 0)] :: cel b_2 36 [(Value.int .u32 Host_1), (Value.int .i64 Port_1)] :: cel b_1 61 [(Value.slice p_1 boxes.length c_1), (Value.slice p_2 behind.length c_2), (Value.slice p_3 hosts.length c_3), (Value.int .i64 now)] :: row enc50 50 1 p_1 c_1 boxes :: row enc3 3 1 p_2 c_2 behind :: row enc42 42 2 p_3 c_3 hosts :: stoP stoE76 hd_4 m_5 :: stoP stoE82 hd_5 m_6 :: FL) w, ?_, ?_⟩
    · rintro t11_1 t12_1 e18 w ⟨Host, Port, Host_1, Port_1, m_5, hd_4, m_6, hd_5, rfl, rfl, hp, h⟩
      replace hp := hq Host Port Host_1 Port_1 e18 m_5 m_6 hp
      unfold world_World_Way_j2
      refine storeL (ys := [(Value.int .u32 0), (Value.int .i64 0)]) h 2 0 rfl rfl rfl sz36 rfl rfl ?_
      intro w h
      dsimp only [setH, setVs, setV] at h
      refine storeL (ys := [(Value.int .u32 0), (Value.int .i64 0)]) h 1 0 rfl rfl rfl sz36 rfl rfl ?_
      intro w h
      dsimp only [setH, setVs, setV] at h
      refine ⟨_, cellL h 2 0 rfl rfl rfl, _, cellL h 2 1 rfl rfl rfl, ?_⟩
      refine ⟨_, cellL h 1 0 rfl rfl rfl, _, cellL h 1 1 rfl rfl rfl, ?_⟩
      replace h := h.sel [4, 4, 4, 4, 4, 4] 4
      dsimp only [pickL, pickR, nthH, delH, dropH, List.cons_append, List.nil_append] at h
      exact hR 0 0 0 0 0 e18 now m_5 m_6 hd_4 hd_5 _ h hp
    clear hq
    obtain ⟨I, ⟨n_6, h0⟩, hq⟩ := hp
    refine ⟨fun n_1 w0_1 now1_1 to9_1 t11_2 t12_2 from14 at15 came16 in17 w => ∃ (Host_2 : Int), ∃ (Port_2 : Int), ∃ (Host_3 : Int), ∃ (Port_3 : Int), ∃ (m_7 : List (Nat × (Int × Int × Int × Int × Int × Int × Int × (List (Option Nat)) × Int))), ∃ (hd_6 : Nat → Option Addr × Nat), ∃ (m_8 : List (Nat × (Int × Int × Int × Int × Int × Int × Bool × (List (Int × Int))))), ∃ (hd_7 : Nat → Option Addr × Nat), (some (Addr.mk b_1 0 none)) = w0_1 ∧ now = now1_1 ∧ (Addr.mk b_2 0 none) = to9_1 ∧ (Addr.mk b_3 0 none) = t11_2 ∧ (Addr.mk b_4 0 none) = t12_2 ∧ (Addr.mk b_5 0 none) = from14 ∧ I n_1 Host_2 Port_2 Host_3 Port_3 at15 came16 in17 m_7 m_8 ∧ Mem (cel b_5 36 [(Value.int .u32 Host_2), (Value.int .i64 Port_2)] :: cel b_4 36 [(Value.int .u32 0), (Value.int .i64 0)] :: cel b_3 36 [(Value.int .u32 0), (Value.int .i64 0)] :: cel b_2 36 [(Value.int .u32 Host_3), (Value.int .i64 Port_3)] :: cel b_1 61 [(Value.slice p_1 boxes.length c_1), (Value.slice p_2 behind.length c_2), (Value.slice p_3 hosts.length c_3), (Value.int .i64 now)] :: row enc50 50 1 p_1 c_1 boxes :: row enc3 3 1 p_2 c_2 behind :: row enc42 42 2 p_3 c_3 hosts :: stoP stoE76 hd_6 m_7 :: stoP stoE82 hd_7 m_8 :: FL) w, ⟨n_6, x_1.1, port, to_Host, to_Port, m_1, hd, m_2, hd_1, rfl, rfl, rfl, rfl, rfl, rfl, h0, h⟩, ?_⟩
    clear h0 h
    rintro n_1 w0_1 now1_1 to9_1 t11_2 t12_2 from14 at15 came16 in17 w ⟨Host_2, Port_2, Host_3, Port_3, m_7, hd_6, m_8, hd_7, rfl, rfl, rfl, rfl, rfl, rfl, hp, h⟩
    replace hp := hq n_1 Host_2 Port_2 Host_3 Port_3 at15 came16 in17 m_7 m_8 hp
    clear hq
    unfold world_World_Way_l3
    replace h := h.drew
    refine ⟨_, rfl, ?_⟩
    refine ⟨_, _, _, cellL h 4 2 rfl rfl rfl, ?_⟩
    refine ⟨_, cellL h 3 0 rfl rfl rfl, ?_⟩
    refine slices_Index_sl_api_Site_api_Site_ok (FL := cel b_5 36 [(Value.int .u32 Host_2), (Value.int .i64 Port_2)] :: cel b_4 36 [(Value.int .u32 0), (Value.int .i64 0)] :: cel b_3 36 [(Value.int .u32 0), (Value.int .i64 0)] :: cel b_2 36 [(Value.int .u32 Host_3), (Value.int .i64 Port_3)] :: cel b_1 61 [(Value.slice p_1 boxes.length c_1), (Value.slice p_2 behind.length c_2), (Value.slice p_3 hosts.length c_3), (Value.int .i64 now)] :: row enc50 50 1 p_1 c_1 boxes :: row enc3 3 1 p_2 c_2 behind :: row enc42 42 2 p_3 c_3 hosts :: stoP stoE76 hd_6 m_7 :: stoP stoE82 hd_7 m_8 :: FL) (fun w h => (rowRd h 7 encL42 rfl)) rfl cpp_3 h hp ?_
    intro r_2 w h hp
    refine ⟨_, rfl, ?_⟩
    refine cond_both hp (fun hp => ?_) (fun hp => ?_)
    · replace h := h.drew
      refine ⟨fun w => Mem (cel b_2 36 [(Value.int .u32 Host_3), (Value.int .i64 Port_3)] :: FL) w, (h.sel [3] 9), ?_⟩
      refine ⟨_, cellL h 0 0 rfl rfl rfl, _, cellL h 0 1 rfl rfl rfl, ?_⟩
      refine ⟨_, cellL h 3 0 rfl rfl rfl, _, cellL h 3 1 rfl rfl rfl, ?_⟩
      refine ⟨?_, ?_⟩
      · intro w h
        change Mem _ _ at h
        refine ⟨_, cellL h 0 0 rfl rfl rfl, _, cellL h 0 1 rfl rfl rfl, ?_⟩
        exact ⟨rfl, rfl⟩
      refine storeL (ys := [(Value.int .u32 Host_2), (Value.int .i64 Port_2)]) h 2 0 rfl rfl rfl sz36 rfl rfl ?_
      intro w h
      dsimp only [setH, setVs, setV] at h
      refine ⟨(h.sel [3] 9), ?_⟩
      refine storeL (ys := [(Value.int .u32 Host_3), (Value.int .i64 Port_3)]) h 1 0 rfl rfl rfl sz36 rfl rfl ?_
      intro w h
      dsimp only [setH, setVs, setV] at h
      refine ⟨_, cellL h 2 0 rfl rfl rfl, _, cellL h 2 1 rfl rfl rfl, ?_⟩
      refine ⟨_, cellL h 1 0 rfl rfl rfl, _, cellL h 1 1 rfl rfl rfl, ?_⟩
      replace h := h.sel [4, 4, 4, 4, 4, 4] 4
      dsimp only [pickL, pickR, nthH, delH, dropH, List.cons_append, List.nil_append] at h
      exact hR r_2 Host_2 Port_2 Host_3 Port_3 0 now m_7 m_8 hd_6 hd_7 _ h hp
    refine ⟨_, cellL h 3 0 rfl rfl rfl, ?_⟩
    replace h := h.pick [4, 4, 4, 5]
    dsimp only [pickL, pickR, nthH, delH, dropH, List.cons_append, List.nil_append] at h
    refine world_World_box_ok h hp ?_
    intro r_3 m_9 hd_8 w h hp
    have cpp_1 := rowCap h 1 rfl
    have cpp_2 := rowCap h 2 rfl
    refine ⟨_, rfl, ?_⟩
    obtain ⟨Q_2, hq, hp⟩ := hp
    refine ⟨fun w0_2 now1_2 to9_2 t11_3 t12_3 from14_1 at15_1 came16_1 in17_1 i20 t121 w => (some (Addr.mk b_1 0 none)) = w0_2 ∧ now = now1_2 ∧ (Addr.mk b_2 0 none) = to9_2 ∧ (Addr.mk b_3 0 none) = t11_3 ∧ (Addr.mk b_4 0 none) = t12_3 ∧ (Addr.mk b_5 0 none) = from14_1 ∧ at15 = at15_1 ∧ came16 = came16_1 ∧ in17 = in17_1 ∧ r_3 = i20 ∧ Q_2 t121 ∧ Mem (cel b_1 61 [(Value.slice p_1 boxes.length c_1), (Value.slice p_2 behind.length c_2), (Value.slice p_3 hosts.length c_3), (Value.int .i64 now)] :: row enc50 50 1 p_1 c_1 boxes :: row enc3 3 1 p_2 c_2 behind :: row enc42 42 2 p_3 c_3 hosts :: cel b_5 36 [(Value.int .u32 Host_2), (Value.int .i64 Port_2)] :: cel b_4 36 [(Value.int .u32 0), (Value.int .i64 0)] :: cel b_3 36 [(Value.int .u32 0), (Value.int .i64 0)] :: cel b_2 36 [(Value.int .u32 Host_3), (Value.int .i64 Port_3)] :: stoP stoE76 hd_8 m_9 :: stoP stoE82 hd_7 m_8 :: FL) w, ?_, ?_⟩
    · rintro w0_2 now1_2 to9_2 t11_3 t12_3 from14_1 at15_1 came16_1 in17_1 i20 t121 w ⟨rfl, rfl, rfl, rfl, rfl, rfl, rfl, rfl, rfl, rfl, hp, h⟩
      replace hp := hq t121 hp
      unfold world_World_Way_j4
      refine cond_both hp (fun hp => ?_) (fun hp => ?_)
      · replace h := h.drew
        refine ⟨_, rfl, ?_⟩
        refine ⟨_, _, _, cellL h 0 0 rfl rfl rfl, ?_⟩
        obtain ⟨ia_3, ja_3, hp⟩ := hp
        obtain ⟨a_3, ha_3⟩ := rdAddr (rowRd h 1 encL50 rfl) rfl ia_3 ja_3
        refine ⟨a_3, ha_3, ia_3, ja_3, ?_⟩
        obtain ⟨x_3, hx_3, hc⟩ := rdCell0 (rowRd h 1 encL50 rfl) ha_3 rfl ia_3 ja_3
        replace hp := hp x_3 hx_3
        refine ⟨_, hc _ rfl, ?_⟩
        refine ⟨_, cellL h 7 1 rfl rfl rfl, ?_⟩
        refine ⟨_, cellL h 4 0 rfl rfl rfl, _, cellL h 4 1 rfl rfl rfl, ?_⟩
        obtain ⟨b_6, hb_6, hp⟩ := hp
        rw [pnSome hb_6]
        obtain ⟨x_4, hx_4, hp⟩ := hp
        replace h := stoOpen stoX76 h 8 rfl hx_4
        dsimp only [setH] at h
        obtain ⟨p_4, c_4, hux_4⟩ : ∃ p_4 c_4, hd_8 b_6 = (p_4, c_4) := ⟨_, _, rfl⟩
        rw [hux_4] at h
        replace h : Mem (cel b_6 76 [(Value.int .u32 x_4.1), (Value.int .i64 x_4.2.1), (Value.int .i64 x_4.2.2.1), (Value.int .i64 x_4.2.2.2.1), (Value.int .i64 x_4.2.2.2.2.1), (Value.int .i64 x_4.2.2.2.2.2.1), (Value.int .i64 x_4.2.2.2.2.2.2.1), (Value.slice p_4 x_4.2.2.2.2.2.2.2.1.length c_4), (Value.int .i64 x_4.2.2.2.2.2.2.2.2)] :: row enc77 77 1 p_4 c_4 x_4.2.2.2.2.2.2.2.1 :: cel b_1 61 [(Value.slice p_1 boxes.length c_1), (Value.slice p_2 behind.length c_2), (Value.slice p_3 hosts.length c_3), (Value.int .i64 now)] :: row enc50 50 1 p_1 c_1 boxes :: row enc3 3 1 p_2 c_2 behind :: row enc42 42 2 p_3 c_3 hosts :: cel b_5 36 [(Value.int .u32 Host_2), (Value.int .i64 Port_2)] :: cel b_4 36 [(Value.int .u32 0), (Value.int .i64 0)] :: cel b_3 36 [(Value.int .u32 0), (Value.int .i64 0)] :: cel b_2 36 [(Value.int .u32 Host_3), (Value.int .i64 Port_3)] :: stoP stoE76 hd_8 (delS m_9 b_6) :: stoP stoE82 hd_7 m_8 :: FL) _ := h.unpack
        have cpp_4 := rowCap h 1 rfl
        replace h := h.pick [0, 0, 9]
        dsimp only [pickL, pickR, nthH, delH, dropH, List.cons_append, List.nil_append] at h
        refine nat_Nat_In_ok h hp ?_
        rintro r_4 r_5 r_6 list now_1 m_10 p_5 n_2 c_5 hd_9 w rfl h hp
        have cpp_5 := rowCap h 1 rfl
        refine ⟨_, _, _, rfl, ?_⟩
        refine storeL (ys := [(Value.int .u32 r_4), (Value.int .i64 r_5)]) h 10 0 rfl rfl rfl sz36 rfl rfl ?_
        intro w h
        dsimp only [setH, setVs, setV] at h
        refine cond_both hp (fun hp => ?_) (fun hp => ?_)
        · replace h : Mem (stoE76 (p_5, c_5) b_6 (x_4.1, x_4.2.1, x_4.2.2.1, x_4.2.2.2.1, x_4.2.2.2.2.1, x_4.2.2.2.2.2.1, x_4.2.2.2.2.2.2.1, list, now_1) :: stoP stoE82 hd_9 m_10 :: cel b_1 61 [(Value.slice p_1 boxes.length c_1), (Value.slice p_2 behind.length c_2), (Value.slice p_3 hosts.length c_3), (Value.int .i64 now)] :: row enc50 50 1 p_1 c_1 boxes :: row enc3 3 1 p_2 c_2 behind :: row enc42 42 2 p_3 c_3 hosts :: cel b_5 36 [(Value.int .u32 Host_2), (Value.int .i64 Port_2)] :: cel b_4 36 [(Value.int .u32 0), (Value.int .i64 0)] :: cel b_3 36 [(Value.int .u32 0), (Value.int .i64 0)] :: cel b_2 36 [(Value.int .u32 r_4), (Value.int .i64 r_5)] :: stoP stoE76 hd_8 (delS m_9 b_6) :: FL) _ := h.pack 2 [cel b_6 76 [(Value.int .u32 x_4.1), (Value.int .i64 x_4.2.1), (Value.int .i64 x_4.2.2.1), (Value.int .i64 x_4.2.2.2.1), (Value.int .i64 x_4.2.2.2.2.1), (Value.int .i64 x_4.2.2.2.2.2.1), (Value.int .i64 x_4.2.2.2.2.2.2.1), (Value.slice p_5 list.length c_5), (Value.int .i64 now_1)], row enc77 77 1 p_5 c_5 list] rfl
          replace h := stoClose h 9 (by simp only [List.length_cons]; omega) rfl
          dsimp only [setH] at h
          replace h := h.sel [5, 5, 5, 5, 1, 1, 1, 1, 1, 0] 0
          dsimp only [pickL, pickR, nthH, delH, dropH, List.cons_append, List.nil_append] at h
          exact ⟨Host_2, Port_2, r_4, r_5, (putS m_9 b_6 (x_4.1, x_4.2.1, x_4.2.2.1, x_4.2.2.2.1, x_4.2.2.2.2.1, x_4.2.2.2.2.2.1, x_4.2.2.2.2.2.2.1, list, now_1)), (updF hd_8 b_6 (p_5, c_5)), m_10, hd_9, rfl, rfl, hp, h⟩
        replace h : Mem (stoE76 (p_5, c_5) b_6 (x_4.1, x_4.2.1, x_4.2.2.1, x_4.2.2.2.1, x_4.2.2.2.2.1, x_4.2.2.2.2.2.1, x_4.2.2.2.2.2.2.1, list, now_1) :: stoP stoE82 hd_9 m_10 :: cel b_1 61 [(Value.slice p_1 boxes.length c_1), (Value.slice p_2 behind.length c_2), (Value.slice p_3 hosts.length c_3), (Value.int .i64 now)] :: row enc50 50 1 p_1 c_1 boxes :: row enc3 3 1 p_2 c_2 behind :: row enc42 42 2 p_3 c_3 hosts :: cel b_5 36 [(Value.int .u32 Host_2), (Value.int .i64 Port_2)] :: cel b_4 36 [(Value.int .u32 0), (Value.int .i64 0)] :: cel b_3 36 [(Value.int .u32 0), (Value.int .i64 0)] :: cel b_2 36 [(Value.int .u32 r_4), (Value.int .i64 r_5)] :: stoP stoE76 hd_8 (delS m_9 b_6) :: FL) _ := h.pack 2 [cel b_6 76 [(Value.int .u32 x_4.1), (Value.int .i64 x_4.2.1), (Value.int .i64 x_4.2.2.1), (Value.int .i64 x_4.2.2.2.1), (Value.int .i64 x_4.2.2.2.2.1), (Value.int .i64 x_4.2.2.2.2.2.1), (Value.int .i64 x_4.2.2.2.2.2.2.1), (Value.slice p_5 list.length c_5), (Value.int .i64 now_1)], row enc77 77 1 p_5 c_5 list] rfl
        replace h := stoClose h 9 (by simp only [List.length_cons]; omega) rfl
        dsimp only [setH] at h
        replace h := h.sel [5, 5, 5, 5, 1, 1, 1, 1, 1, 0] 0
        dsimp only [pickL, pickR, nthH, delH, dropH, List.cons_append, List.nil_append] at h
        obtain ⟨n_3, hn, hp⟩ := hp
        exact ⟨n_3, hn, Host_2, Port_2, r_4, r_5, (putS m_9 b_6 (x_4.1, x_4.2.1, x_4.2.2.1, x_4.2.2.2.1, x_4.2.2.2.2.1, x_4.2.2.2.2.2.1, x_4.2.2.2.2.2.2.1, list, now_1)), (updF hd_8 b_6 (p_5, c_5)), m_10, hd_9, rfl, rfl, rfl, rfl, rfl, rfl, hp, h⟩
      obtain ⟨Q_3, hq, hp⟩ := hp
      refine ⟨fun w0_3 now1_3 to9_3 t11_4 t12_4 from14_2 at15_2 in17_2 t147 w => (some (Addr.mk b_1 0 none)) = w0_3 ∧ now = now1_3 ∧ (Addr.mk b_2 0 none) = to9_3 ∧ (Addr.mk b_3 0 none) = t11_4 ∧ (Addr.mk b_4 0 none) = t12_4 ∧ (Addr.mk b_5 0 none) = from14_2 ∧ at15 = at15_2 ∧ in17 = in17_2 ∧ Q_3 t147 ∧ Mem (cel b_1 61 [(Value.slice p_1 boxes.length c_1), (Value.slice p_2 behind.length c_2), (Value.slice p_3 hosts.length c_3), (Value.int .i64 now)] :: row enc50 50 1 p_1 c_1 boxes :: row enc3 3 1 p_2 c_2 behind :: row enc42 42 2 p_3 c_3 hosts :: cel b_5 36 [(Value.int .u32 Host_2), (Value.int .i64 Port_2)] :: cel b_4 36 [(Value.int .u32 0), (Value.int .i64 0)] :: cel b_3 36 [(Value.int .u32 0), (Value.int .i64 0)] :: cel b_2 36 [(Value.int .u32 Host_3), (Value.int .i64 Port_3)] :: stoP stoE76 hd_8 m_9 :: stoP stoE82 hd_7 m_8 :: FL) w, ?_, ?_⟩
      · rintro w0_3 now1_3 to9_3 t11_4 t12_4 from14_2 at15_2 in17_2 t147 w ⟨rfl, rfl, rfl, rfl, rfl, rfl, rfl, rfl, hp, h⟩
        replace hp := hq t147 hp
        unfold world_World_Way_j5
        refine cond_both hp (fun hp => ?_) (fun hp => ?_)
        · replace h := h.sel [4, 4, 4, 4, 0, 0, 0, 0, 0, 0] 0
          dsimp only [pickL, pickR, nthH, delH, dropH, List.cons_append, List.nil_append] at h
          exact ⟨Host_2, Port_2, Host_3, Port_3, m_9, hd_8, m_8, hd_7, rfl, rfl, hp, h⟩
        replace h := h.drew
        refine ⟨_, rfl, ?_⟩
        refine ⟨_, _, _, cellL h 0 0 rfl rfl rfl, ?_⟩
        obtain ⟨ia_4, ja_4, hp⟩ := hp
        obtain ⟨a_4, ha_4⟩ := rdAddr (rowRd h 1 encL50 rfl) rfl ia_4 ja_4
        refine ⟨a_4, ha_4, ia_4, ja_4, ?_⟩
        obtain ⟨x_5, hx_5, hc⟩ := rdCell0 (rowRd h 1 encL50 rfl) ha_4 rfl ia_4 ja_4
        replace hp := hp x_5 hx_5
        refine ⟨_, hc _ rfl, ?_⟩
        refine ⟨_, cellL h 4 0 rfl rfl rfl, _, cellL h 4 1 rfl rfl rfl, ?_⟩
        refine ⟨_, cellL h 7 0 rfl rfl rfl, _, cellL h 7 1 rfl rfl rfl, ?_⟩
        obtain ⟨b_7, hb_7, hp⟩ := hp
        rw [pnSome hb_7]
        obtain ⟨x_6, hx_6, hp⟩ := hp
        replace h := stoOpen stoX76 h 8 rfl hx_6
        dsimp only [setH] at h
        obtain ⟨p_6, c_6, hux_6⟩ : ∃ p_6 c_6, hd_8 b_7 = (p_6, c_6) := ⟨_, _, rfl⟩
        rw [hux_6] at h
        replace h : Mem (cel b_7 76 [(Value.int .u32 x_6.1), (Value.int .i64 x_6.2.1), (Value.int .i64 x_6.2.2.1), (Value.int .i64 x_6.2.2.2.1), (Value.int .i64 x_6.2.2.2.2.1), (Value.int .i64 x_6.2.2.2.2.2.1), (Value.int .i64 x_6.2.2.2.2.2.2.1), (Value.slice p_6 x_6.2.2.2.2.2.2.2.1.length c_6), (Value.int .i64 x_6.2.2.2.2.2.2.2.2)] :: row enc77 77 1 p_6 c_6 x_6.2.2.2.2.2.2.2.1 :: cel b_1 61 [(Value.slice p_1 boxes.length c_1), (Value.slice p_2 behind.length c_2), (Value.slice p_3 hosts.length c_3), (Value.int .i64 now)] :: row enc50 50 1 p_1 c_1 boxes :: row enc3 3 1 p_2 c_2 behind :: row enc42 42 2 p_3 c_3 hosts :: cel b_5 36 [(Value.int .u32 Host_2), (Value.int .i64 Port_2)] :: cel b_4 36 [(Value.int .u32 0), (Value.int .i64 0)] :: cel b_3 36 [(Value.int .u32 0), (Value.int .i64 0)] :: cel b_2 36 [(Value.int .u32 Host_3), (Value.int .i64 Port_3)] :: stoP stoE76 hd_8 (delS m_9 b_7) :: stoP stoE82 hd_7 m_8 :: FL) _ := h.unpack
        have cpp_6 := rowCap h 1 rfl
        replace h := h.pick [0, 0, 9]
        dsimp only [pickL, pickR, nthH, delH, dropH, List.cons_append, List.nil_append] at h
        refine nat_Nat_Out_ok h hp ?_
        rintro r_7 r_8 r_9 list_1 now_2 m_11 p_7 n_4 c_7 hd_10 w rfl h hp
        have cpp_7 := rowCap h 1 rfl
        refine ⟨_, _, _, rfl, ?_⟩
        refine storeL (ys := [(Value.int .u32 r_7), (Value.int .i64 r_8)]) h 7 0 rfl rfl rfl sz36 rfl rfl ?_
        intro w h
        dsimp only [setH, setVs, setV] at h
        refine cond_both hp (fun hp => ?_) (fun hp => ?_)
        · replace h : Mem (stoE76 (p_7, c_7) b_7 (x_6.1, x_6.2.1, x_6.2.2.1, x_6.2.2.2.1, x_6.2.2.2.2.1, x_6.2.2.2.2.2.1, x_6.2.2.2.2.2.2.1, list_1, now_2) :: stoP stoE82 hd_10 m_11 :: cel b_1 61 [(Value.slice p_1 boxes.length c_1), (Value.slice p_2 behind.length c_2), (Value.slice p_3 hosts.length c_3), (Value.int .i64 now)] :: row enc50 50 1 p_1 c_1 boxes :: row enc3 3 1 p_2 c_2 behind :: row enc42 42 2 p_3 c_3 hosts :: cel b_5 36 [(Value.int .u32 r_7), (Value.int .i64 r_8)] :: cel b_4 36 [(Value.int .u32 0), (Value.int .i64 0)] :: cel b_3 36 [(Value.int .u32 0), (Value.int .i64 0)] :: cel b_2 36 [(Value.int .u32 Host_3), (Value.int .i64 Port_3)] :: stoP stoE76 hd_8 (delS m_9 b_7) :: FL) _ := h.pack 2 [cel b_7 76 [(Value.int .u32 x_6.1), (Value.int .i64 x_6.2.1), (Value.int .i64 x_6.2.2.1), (Value.int .i64 x_6.2.2.2.1), (Value.int .i64 x_6.2.2.2.2.1), (Value.int .i64 x_6.2.2.2.2.2.1), (Value.int .i64 x_6.2.2.2.2.2.2.1), (Value.slice p_7 list_1.length c_7), (Value.int .i64 now_2)], row enc77 77 1 p_7 c_7 list_1] rfl
          replace h := stoClose h 9 (by simp only [List.length_cons]; omega) rfl
          dsimp only [setH] at h
          replace h := h.sel [5, 5, 5, 5, 1, 1, 1, 1, 1, 0] 0
          dsimp only [pickL, pickR, nthH, delH, dropH, List.cons_append, List.nil_append] at h
          exact ⟨r_7, r_8, Host_3, Port_3, (putS m_9 b_7 (x_6.1, x_6.2.1, x_6.2.2.1, x_6.2.2.2.1, x_6.2.2.2.2.1, x_6.2.2.2.2.2.1, x_6.2.2.2.2.2.2.1, list_1, now_2)), (updF hd_8 b_7 (p_7, c_7)), m_11, hd_10, rfl, rfl, hp, h⟩
        replace h := h.drew
        refine ⟨_, rfl, ?_⟩
        refine ⟨_, _, _, cellL h 3 1 rfl rfl rfl, ?_⟩
        obtain ⟨ia_5, ja_5, hp⟩ := hp
        obtain ⟨a_5, ha_5⟩ := rdAddr (rowRd h 5 encL3 rfl) rfl ia_5 ja_5
        refine ⟨a_5, ha_5, ia_5, ja_5, ?_⟩
        obtain ⟨x_7, hx_7, hc⟩ := rdCell0 (rowRd h 5 encL3 rfl) ha_5 rfl ia_5 ja_5
        replace hp := hp x_7 hx_7
        refine ⟨_, hc _ rfl, ?_⟩
        replace h : Mem (stoE76 (p_7, c_7) b_7 (x_6.1, x_6.2.1, x_6.2.2.1, x_6.2.2.2.1, x_6.2.2.2.2.1, x_6.2.2.2.2.2.1, x_6.2.2.2.2.2.2.1, list_1, now_2) :: stoP stoE82 hd_10 m_11 :: cel b_1 61 [(Value.slice p_1 boxes.length c_1), (Value.slice p_2 behind.length c_2), (Value.slice p_3 hosts.length c_3), (Value.int .i64 now)] :: row enc50 50 1 p_1 c_1 boxes :: row enc3 3 1 p_2 c_2 behind :: row enc42 42 2 p_3 c_3 hosts :: cel b_5 36 [(Value.int .u32 r_7), (Value.int .i64 r_8)] :: cel b_4 36 [(Value.int .u32 0), (Value.int .i64 0)] :: cel b_3 36 [(Value.int .u32 0), (Value.int .i64 0)] :: cel b_2 36 [(Value.int .u32 Host_3), (Value.int .i64 Port_3)] :: stoP stoE76 hd_8 (delS m_9 b_7) :: FL) _ := h.pack 2 [cel b_7 76 [(Value.int .u32 x_6.1), (Value.int .i64 x_6.2.1), (Value.int .i64 x_6.2.2.1), (Value.int .i64 x_6.2.2.2.1), (Value.int .i64 x_6.2.2.2.2.1), (Value.int .i64 x_6.2.2.2.2.2.1), (Value.int .i64 x_6.2.2.2.2.2.2.1), (Value.slice p_7 list_1.length c_7), (Value.int .i64 now_2)], row enc77 77 1 p_7 c_7 list_1] rfl
        replace h := stoClose h 9 (by simp only [List.length_cons]; omega) rfl
        dsimp only [setH] at h
        replace h := h.sel [5, 5, 5, 5, 1, 1, 1, 1, 1, 0] 0
        dsimp only [pickL, pickR, nthH, delH, dropH, List.cons_append, List.nil_append] at h
        obtain ⟨n_5, hn, hp⟩ := hp
        exact ⟨n_5, hn, r_7, r_8, Host_3, Port_3, (putS m_9 b_7 (x_6.1, x_6.2.1, x_6.2.2.1, x_6.2.2.2.1, x_6.2.2.2.2.1, x_6.2.2.2.2.2.1, x_6.2.2.2.2.2.2.1, list_1, now_2)), (updF hd_8 b_7 (p_7, c_7)), m_11, hd_10, rfl, rfl, rfl, rfl, rfl, rfl, hp, h⟩
      clear hq
      refine cond_both hp (fun hp => ?_) (fun hp => ?_)
      · exact ⟨rfl, rfl, rfl, rfl, rfl, rfl, rfl, rfl, hp, h⟩
      refine cond_both hp (fun hp => ?_) (fun hp => ?_)
      · exact ⟨rfl, rfl, rfl, rfl, rfl, rfl, rfl, rfl, hp, h⟩
      exact ⟨rfl, rfl, rfl, rfl, rfl, rfl, rfl, rfl, hp, h⟩
    clear hq
    refine cond_both hp (fun hp => ?_) (fun hp => ?_)
    · replace h := h.sel [0, 0, 0, 5, 1, 1, 1, 1, 0, 0] 0
      dsimp only [pickL, pickR, nthH, delH, dropH, List.cons_append, List.nil_append] at h
      exact ⟨rfl, rfl, rfl, rfl, rfl, rfl, rfl, rfl, rfl, rfl, hp, h⟩
    replace h := h.sel [0, 0, 0, 5, 1, 1, 1, 1, 0, 0] 0
    dsimp only [pickL, pickR, nthH, delH, dropH, List.cons_append, List.nil_append] at h
    exact ⟨rfl, rfl, rfl, rfl, rfl, rfl, rfl, rfl, rfl, rfl, hp, h⟩
  clear hq
  refine cond_both hp (fun hp => ?_) (fun hp => ?_)
  · exact ⟨rfl, rfl, rfl, rfl, rfl, rfl, rfl, hp, h⟩
  refine ⟨_, rfl, ?_⟩
  refine ⟨_, _, _, cellL h 3 2 rfl rfl rfl, ?_⟩
  refine cond_both hp (fun hp => ?_) (fun hp => ?_)
  · exact ⟨rfl, rfl, rfl, rfl, rfl, rfl, rfl, hp, h⟩
  refine ⟨_, cellL h 2 0 rfl rfl rfl, _, cellL h 2 1 rfl rfl rfl, ?_⟩
  refine addr_May_ok h hp ?_
  intro r w h hp
  refine ⟨_, rfl, ?_⟩
  refine cond_both hp (fun hp => ?_) (fun hp => ?_)
  · exact ⟨rfl, rfl, rfl, rfl, rfl, rfl, rfl, hp, h⟩
  refine ⟨_, rfl, ?_⟩
  refine ⟨_, cellL h 3 3 rfl rfl rfl, ?_⟩
  refine cond_both hp (fun hp => ?_) (fun hp => ?_)
  · exact ⟨rfl, rfl, rfl, rfl, rfl, rfl, rfl, hp, h⟩
  exact ⟨rfl, rfl, rfl, rfl, rfl, rfl, rfl, hp, h⟩

/-! (*embrasure/world.World).Outer (10) -/
def world_World_Outer_wp (hosts : List (Int × Int)) (last : Int) (host : Int) (K : Int → Prop) : Prop :=
  joinP1 (fun (t15 : Bool) => cond t15 (K (-1)) (0 ≤ (host : Int) ∧ (host : Int) < ((hosts.length : Nat) : Int) ∧ (∀ (x_1 : Int × Int), hosts[Int.toNat host]? = some x_1 → (K x_1.2)))) (fun (Q : Bool → Prop) => cond (decide ((host : Int) < 0)) (Q true) (Q (decide ((host : Int) ≥ ((hosts.length : Nat) : Int)))))
theorem world_World_Outer_ok {b_1 : Nat} {p_1 : Option Addr} {n_1 : Nat} {c_1 : Nat} {p_2 : Option Addr} {n_2 : Nat} {c_2 : Nat} {p_3 : Option Addr} {c_3 : Nat} {hosts : List (Int × Int)} {last : Int} {host : Int} {FL : List HP} {w : World} {K : Int → Prop} {R : Value → World → Prop}
  (h : Mem (cel b_1 61 [(Value.slice p_1 n_1 c_1), (Value.slice p_2 n_2 c_2), (Value.slice p_3 hosts.length c_3), (Value.int .i64 last)] :: row enc42 42 2 p_3 c_3 hosts :: FL) w) (hp : world_World_Outer_wp hosts last host K)
  (hR : ∀ (r : Int) (w : World), Mem (cel b_1 61 [(Value.slice p_1 n_1 c_1), (Value.slice p_2 n_2 c_2), (Value.slice p_3 hosts.length c_3), (Value.int .i64 last)] :: row enc42 42 2 p_3 c_3 hosts :: FL) w → K r → R (Value.int .i64 r) w) :
  CallV Try.prog 10 #[(Value.pointer (some (Addr.mk b_1 0 none))), (Value.int .i64 host)] w R := by
  refine world_World_Outer_call ?_
  unfold world_World_Outer
  unfold world_World_Outer_wp at hp
  have cpp_3 := rowCap h 1 rfl
  obtain ⟨Q, hq, hp⟩ := hp
  refine ⟨fun w0 host1 t15 w => (some (Addr.mk b_1 0 none)) = w0 ∧ host = host1 ∧ Q t15 ∧ Mem (cel b_1 61 [(Value.slice p_1 n_1 c_1), (Value.slice p_2 n_2 c_2), (Value.slice p_3 hosts.length c_3), (Value.int .i64 last)] :: row enc42 42 2 p_3 c_3 hosts :: FL) w, ?_, ?_⟩
  · rintro w0 host1 t15 w ⟨rfl, rfl, hp, h⟩
    replace hp := hq t15 hp
    unfold world_World_Outer_j1
    refine cond_both hp (fun hp => ?_) (fun hp => ?_)
    · exact hR (-1) _ h hp
    refine ⟨_, rfl, ?_⟩
    refine ⟨_, _, _, cellL h 0 2 rfl rfl rfl, ?_⟩
    obtain ⟨ia_1, ja_1, hp⟩ := hp
    obtain ⟨a_1, ha_1⟩ := rdAddr (rowRd h 1 encL42 rfl) rfl ia_1 ja_1
    refine ⟨a_1, ha_1, ia_1, ja_1, ?_⟩
    obtain ⟨x_1, hx_1, hc⟩ := rdCell (rowRd h 1 encL42 rfl) ha_1 rfl ia_1 ja_1
    replace hp := hp x_1 hx_1
    refine ⟨_, hc 1 _ rfl, ?_⟩
    exact hR x_1.2 _ h hp
  clear hq
  refine cond_both hp (fun hp => ?_) (fun hp => ?_)
  · exact ⟨rfl, rfl, hp, h⟩
  refine ⟨_, rfl, ?_⟩
  refine ⟨_, _, _, cellL h 0 2 rfl rfl rfl, ?_⟩
  exact ⟨rfl, rfl, hp, h⟩

/-! (*embrasure/world.World).Box (11) -/
def world_World_Box_wp (boxes : List (Option Nat)) (last : Int) (i : Int) (K : Prop) (KX1 : Option Nat → Prop) : Prop :=
  joinP1 (fun (t15 : Bool) => cond t15 (K ) (0 ≤ (i : Int) ∧ (i : Int) < ((boxes.length : Nat) : Int) ∧ (∀ (x_1 : Option Nat), boxes[Int.toNat i]? = some x_1 → (KX1 x_1)))) (fun (Q : Bool → Prop) => cond (decide ((i : Int) < 0)) (Q true) (Q (decide ((i : Int) ≥ ((boxes.length : Nat) : Int)))))
theorem world_World_Box_ok {b_1 : Nat} {p_1 : Option Addr} {c_1 : Nat} {p_2 : Option Addr} {n_1 : Nat} {c_2 : Nat} {p_3 : Option Addr} {n_2 : Nat} {c_3 : Nat} {boxes : List (Option Nat)} {last : Int} {i : Int} {FL : List HP} {w : World} {K : Prop} {KX1 : Option Nat → Prop} {R : Value → World → Prop}
  (h : Mem (cel b_1 61 [(Value.slice p_1 boxes.length c_1), (Value.slice p_2 n_1 c_2), (Value.slice p_3 n_2 c_3), (Value.int .i64 last)] :: row enc50 50 1 p_1 c_1 boxes :: FL) w) (hp : world_World_Box_wp boxes last i K KX1)
  (hR : ∀  (w : World), Mem (cel b_1 61 [(Value.slice p_1 boxes.length c_1), (Value.slice p_2 n_1 c_2), (Value.slice p_3 n_2 c_3), (Value.int .i64 last)] :: row enc50 50 1 p_1 c_1 boxes :: FL) w → K  → R (Value.pointer none) w)
  (hRX1 : ∀ (r : Option Nat) (w : World), Mem (cel b_1 61 [(Value.slice p_1 boxes.length c_1), (Value.slice p_2 n_1 c_2), (Value.slice p_3 n_2 c_3), (Value.int .i64 last)] :: row enc50 50 1 p_1 c_1 boxes :: FL) w → KX1 r → R (Value.pointer (pn r)) w) :
  CallV Try.prog 11 #[(Value.pointer (some (Addr.mk b_1 0 none))), (Value.int .i64 i)] w R := by
  refine world_World_Box_call ?_
  unfold world_World_Box
  unfold world_World_Box_wp at hp
  have cpp_1 := rowCap h 1 rfl
  obtain ⟨Q, hq, hp⟩ := hp
  refine ⟨fun w0 i1 t15 w => (some (Addr.mk b_1 0 none)) = w0 ∧ i = i1 ∧ Q t15 ∧ Mem (cel b_1 61 [(Value.slice p_1 boxes.length c_1), (Value.slice p_2 n_1 c_2), (Value.slice p_3 n_2 c_3), (Value.int .i64 last)] :: row enc50 50 1 p_1 c_1 boxes :: FL) w, ?_, ?_⟩
  · rintro w0 i1 t15 w ⟨rfl, rfl, hp, h⟩
    replace hp := hq t15 hp
    unfold world_World_Box_j1
    refine cond_both hp (fun hp => ?_) (fun hp => ?_)
    · exact hR _ h hp
    refine ⟨_, rfl, ?_⟩
    refine ⟨_, _, _, cellL h 0 0 rfl rfl rfl, ?_⟩
    obtain ⟨ia_1, ja_1, hp⟩ := hp
    obtain ⟨a_1, ha_1⟩ := rdAddr (rowRd h 1 encL50 rfl) rfl ia_1 ja_1
    refine ⟨a_1, ha_1, ia_1, ja_1, ?_⟩
    obtain ⟨x_1, hx_1, hc⟩ := rdCell0 (rowRd h 1 encL50 rfl) ha_1 rfl ia_1 ja_1
    replace hp := hp x_1 hx_1
    refine ⟨_, hc _ rfl, ?_⟩
    exact hRX1 x_1 _ h hp
  clear hq
  refine cond_both hp (fun hp => ?_) (fun hp => ?_)
  · exact ⟨rfl, rfl, hp, h⟩
  refine ⟨_, rfl, ?_⟩
  refine ⟨_, _, _, cellL h 0 0 rfl rfl rfl, ?_⟩
  exact ⟨rfl, rfl, hp, h⟩

/-! embrasure/embrasurelaw14.awake (6) -/
def embrasurelaw14_awake_wp  (K : Bool → Prop) : Prop :=
  embrasurelaw08_Box_wp 0 (fun (r : Int) (r_1 : Int) (r_2 : Int) (r_3 : Int) (r_4 : Int) (r_5 : Int) (r_6 : Int) => world_New_wp [(r, r_1, r_2, r_3, r_4, r_5, r_6)] [(-1)] [(167772161, 0), (134744072, (-1))] ([] : List (Nat × (Int × Int × Int × Int × Int × Int × Int × (List (Option Nat)) × Int))) (fun (r_7 : Int) (m_1 : List (Nat × (Int × Int × Int × Int × Int × Int × Int × (List (Option Nat)) × Int))) => joinP1 (fun (t26 : Bool) => cond t26 (K false) (False)) (fun (Q : Bool → Prop) => Q true)) (fun (r_8 : Int) (boxes : List (Option Nat)) (behind : List (Int)) (hosts : List (Int × Int)) (last : Int) (m_2 : List (Nat × (Int × Int × Int × Int × Int × Int × Int × (List (Option Nat)) × Int))) => joinP1 (fun (t26_1 : Bool) => cond t26_1 (K false) (world_World_Way_wp boxes behind hosts last 1 0 5 134744072 53 m_2 ([] : List (Nat × (Int × Int × Int × Int × Int × Int × Bool × (List (Int × Int))))) (fun (r_9 : Int) (r_10 : Int) (r_11 : Int) (r_12 : Int) (r_13 : Int) (r_14 : Int) (last_1 : Int) (m_3 : List (Nat × (Int × Int × Int × Int × Int × Int × Int × (List (Option Nat)) × Int))) (m_4 : List (Nat × (Int × Int × Int × Int × Int × Int × Bool × (List (Int × Int))))) => world_World_Way_wp boxes behind hosts last_1 1 1 53 r_10 r_11 m_3 m_4 (fun (r_15 : Int) (r_16 : Int) (r_17 : Int) (r_18 : Int) (r_19 : Int) (r_20 : Int) (last_2 : Int) (m_5 : List (Nat × (Int × Int × Int × Int × Int × Int × Int × (List (Option Nat)) × Int))) (m_6 : List (Nat × (Int × Int × Int × Int × Int × Int × Bool × (List (Int × Int))))) => cond ((r_14 : Int) == 0) (cond ((r_9 : Int) == 1) (cond ((r_10 : Int) == 3405803777) (cond ((r_13 : Int) == 53) (cond ((r_20 : Int) == 0) (cond ((r_15 : Int) == 0) (cond ((r_16 : Int) == 134744072) (cond ((r_19 : Int) == 5) (world_World_Outer_wp hosts last_2 0 (fun (r_21 : Int) => cond ((r_21 : Int) == 0) (world_World_Outer_wp hosts last_2 1 (fun (r_22 : Int) => cond ((r_22 : Int) == (-1)) (world_World_Box_wp boxes last_2 0 (K (false)) (fun (r_23 : Option Nat) => K (!(Option.isNone r_23)))) (K false))) (K false))) (K false)) (K false)) (K false)) (K false)) (K false)) (K false)) (K false)) (K false))))) (fun (Q_1 : Bool → Prop) => Q_1 ((r_8 : Int) != 0))))
theorem embrasurelaw14_awake_ok  {FL : List HP} {w : World} {K : Bool → Prop} {R : Value → World → Prop}
  (h : Mem (FL) w) (hp : embrasurelaw14_awake_wp  K)
  (hR : ∀ (r : Bool) (w : World), Mem (FL) w → K r → R (Value.bool r) w) :
  CallV Try.prog 6 #[] w R := by
  refine embrasurelaw14_awake_call ?_
  unfold embrasurelaw14_awake
  unfold embrasurelaw14_awake_wp at hp
  replace h := stoNil stoE76 (fun _ => default) h
  replace h := stoNil stoE82 (fun _ => default) h
  refine embrasurelaw08_Box_ok h hp ?_
  intro r r_1 r_2 r_3 r_4 r_5 r_6 w h hp
  refine ⟨_, _, _, _, _, _, _, rfl, ?_⟩
  refine newL (o := [(Value.int .u32 r), (Value.int .i64 r_1), (Value.int .i64 r_2), (Value.int .i64 r_3), (Value.int .i64 r_4), (Value.int .i64 r_5), (Value.int .i64 r_6)]) h ?_
  intro b_1 w h
  refine newL (o := [(Value.int .i64 (-1))]) h ?_
  intro b_2 w h
  refine newL (o := [(Value.int .u32 167772161), (Value.int .i64 0), (Value.int .u32 134744072), (Value.int .i64 (-1))]) h ?_
  intro b_3 w h
  replace h := h.pick [4]
  dsimp only [pickL, pickR, nthH, delH, dropH, List.cons_append, List.nil_append] at h
  refine world_New_ok (FL := cel b_3 42 [(Value.int .u32 167772161), (Value.int .i64 0), (Value.int .u32 134744072), (Value.int .i64 (-1))] :: cel b_2 3 [(Value.int .i64 (-1))] :: cel b_1 55 [(Value.int .u32 r), (Value.int .i64 r_1), (Value.int .i64 r_2), (Value.int .i64 r_3), (Value.int .i64 r_4), (Value.int .i64 r_5), (Value.int .i64 r_6)] :: stoP stoE82 (fun _ => default) ([] : List (Nat × (Int × Int × Int × Int × Int × Int × Bool × (List (Int × Int))))) :: FL) (fun w h => (celRd h 2 encL55 rfl [(r, r_1, r_2, r_3, r_4, r_5, r_6)] rfl)) rfl (Nat.le_refl _) (fun w h => (celRd h 1 encL3 rfl [(-1)] rfl)) rfl (Nat.le_refl _) (fun w h => (celRd h 0 encL42 rfl [(167772161, 0), (134744072, (-1))] rfl)) rfl (Nat.le_refl _) h hp ?_ ?_
  · intro r_7 m_1 hd w h hp
    refine ⟨_, _, rfl, ?_⟩
    obtain ⟨Q, hq, hp⟩ := hp
    refine ⟨fun w1 t26 w => none = w1 ∧ Q t26 ∧ Mem (cel b_3 42 [(Value.int .u32 167772161), (Value.int .i64 0), (Value.int .u32 134744072), (Value.int .i64 (-1))] :: cel b_2 3 [(Value.int .i64 (-1))] :: cel b_1 55 [(Value.int .u32 r), (Value.int .i64 r_1), (Value.int .i64 r_2), (Value.int .i64 r_3), (Value.int .i64 r_4), (Value.int .i64 r_5), (Value.int .i64 r_6)] :: stoP stoE76 hd m_1 :: stoP stoE82 (fun _ => default) ([] : List (Nat × (Int × Int × Int × Int × Int × Int × Bool × (List (Int × Int))))) :: FL) w, ?_, ?_⟩
    · rintro w1 t26 w ⟨rfl, hp, h⟩
      replace hp := hq t26 hp
      unfold embrasurelaw14_awake_j1
      refine cond_both' hp (fun hp => ?_) (fun hp => ?_)
      · exact hp.elim
      replace h := h.sel [] 5
      dsimp only [pickL, pickR, nthH, delH, dropH, List.cons_append, List.nil_append] at h
      exact hR false _ h hp
    clear hq
    refine eqlPtrNN undP30 ?_
    refine ⟨_, rfl, ?_⟩
    refine cond_tt ?_
    replace h := h.sel [1, 1, 1, 0, 0] 0
    dsimp only [pickL, pickR, nthH, delH, dropH, List.cons_append, List.nil_append] at h
    exact ⟨rfl, hp, h⟩
  rintro r_8 boxes behind hosts last m_2 b_4 p_1 n_1 c_1 p_2 n_2 c_2 p_3 n_3 c_3 hd_1 w rfl rfl rfl h hp
  have cpp_1 := rowCap h 1 rfl
  have cpp_2 := rowCap h 2 rfl
  have cpp_3 := rowCap h 3 rfl
  refine ⟨_, _, rfl, ?_⟩
  obtain ⟨Q_1, hq, hp⟩ := hp
  refine ⟨fun w1_1 t26_1 w => (some (Addr.mk b_4 0 none)) = w1_1 ∧ Q_1 t26_1 ∧ Mem (cel b_4 61 [(Value.slice p_1 boxes.length c_1), (Value.slice p_2 behind.length c_2), (Value.slice p_3 hosts.length c_3), (Value.int .i64 last)] :: row enc50 50 1 p_1 c_1 boxes :: row enc3 3 1 p_2 c_2 behind :: row enc42 42 2 p_3 c_3 hosts :: cel b_3 42 [(Value.int .u32 167772161), (Value.int .i64 0), (Value.int .u32 134744072), (Value.int .i64 (-1))] :: cel b_2 3 [(Value.int .i64 (-1))] :: cel b_1 55 [(Value.int .u32 r), (Value.int .i64 r_1), (Value.int .i64 r_2), (Value.int .i64 r_3), (Value.int .i64 r_4), (Value.int .i64 r_5), (Value.int .i64 r_6)] :: stoP stoE76 hd_1 m_2 :: stoP stoE82 (fun _ => default) ([] : List (Nat × (Int × Int × Int × Int × Int × Int × Bool × (List (Int × Int))))) :: FL) w, ?_, ?_⟩
  · rintro w1_1 t26_1 w ⟨rfl, hp, h⟩
    replace hp := hq t26_1 hp
    unfold embrasurelaw14_awake_j1
    refine cond_both hp (fun hp => ?_) (fun hp => ?_)
    · replace h := h.sel [] 9
      dsimp only [pickL, pickR, nthH, delH, dropH, List.cons_append, List.nil_append] at h
      exact hR false _ h hp
    replace h := h.pick [0, 0, 0, 0, 3, 3]
    dsimp only [pickL, pickR, nthH, delH, dropH, List.cons_append, List.nil_append] at h
    refine world_World_Way_ok h hp ?_
    intro r_9 r_10 r_11 r_12 r_13 r_14 last_1 m_3 m_4 hd_2 hd_3 w h hp
    have cpp_1 := rowCap h 1 rfl
    have cpp_2 := rowCap h 2 rfl
    have cpp_3 := rowCap h 3 rfl
    refine ⟨_, _, _, _, _, _, rfl, ?_⟩
    refine newL (o := [(Value.int .u32 0), (Value.int .i64 0)]) h ?_
    intro b_5 w h
    refine newL (o := [(Value.int .u32 0), (Value.int .i64 0)]) h ?_
    intro b_6 w h
    refine storeL (ys := [(Value.int .u32 r_10), (Value.int .i64 r_11)]) h 1 0 rfl rfl rfl sz36 rfl rfl ?_
    intro w h
    dsimp only [setH, setVs, setV] at h
    refine storeL (ys := [(Value.int .u32 r_12), (Value.int .i64 r_13)]) h 0 0 rfl rfl rfl sz36 rfl rfl ?_
    intro w h
    dsimp only [setH, setVs, setV] at h
    refine ⟨_, cellL h 1 0 rfl rfl rfl, _, cellL h 1 1 rfl rfl rfl, ?_⟩
    replace h := h.pick [2, 2, 2, 2, 2, 2]
    dsimp only [pickL, pickR, nthH, delH, dropH, List.cons_append, List.nil_append] at h
    refine world_World_Way_ok h hp ?_
    intro r_15 r_16 r_17 r_18 r_19 r_20 last_2 m_5 m_6 hd_4 hd_5 w h hp
    have cpp_1 := rowCap h 1 rfl
    have cpp_2 := rowCap h 2 rfl
    have cpp_3 := rowCap h 3 rfl
    refine ⟨_, _, _, _, _, _, rfl, ?_⟩
    refine newL (o := [(Value.int .u32 0), (Value.int .i64 0)]) h ?_
    intro b_7 w h
    refine newL (o := [(Value.int .u32 0), (Value.int .i64 0)]) h ?_
    intro b_8 w h
    refine storeL (ys := [(Value.int .u32 r_16), (Value.int .i64 r_17)]) h 1 0 rfl rfl rfl sz36 rfl rfl ?_
    intro w h
    dsimp only [setH, setVs, setV] at h
    refine storeL (ys := [(Value.int .u32 r_18), (Value.int .i64 r_19)]) h 0 0 rfl rfl rfl sz36 rfl rfl ?_
    intro w h
    dsimp only [setH, setVs, setV] at h
    refine cond_both' hp (fun hp => ?_) (fun hp => ?_)
    · replace h := h.sel [] 13
      dsimp only [pickL, pickR, nthH, delH, dropH, List.cons_append, List.nil_append] at h
      exact hR false _ h hp
    refine cond_both' hp (fun hp => ?_) (fun hp => ?_)
    · replace h := h.sel [] 13
      dsimp only [pickL, pickR, nthH, delH, dropH, List.cons_append, List.nil_append] at h
      exact hR false _ h hp
    refine ⟨_, cellL h 9 0 rfl rfl rfl, ?_⟩
    refine cond_both' hp (fun hp => ?_) (fun hp => ?_)
    · replace h := h.sel [] 13
      dsimp only [pickL, pickR, nthH, delH, dropH, List.cons_append, List.nil_append] at h
      exact hR false _ h hp
    refine ⟨_, cellL h 8 1 rfl rfl rfl, ?_⟩
    refine cond_both' hp (fun hp => ?_) (fun hp => ?_)
    · replace h := h.sel [] 13
      dsimp only [pickL, pickR, nthH, delH, dropH, List.cons_append, List.nil_append] at h
      exact hR false _ h hp
    refine cond_both' hp (fun hp => ?_) (fun hp => ?_)
    · replace h := h.sel [] 13
      dsimp only [pickL, pickR, nthH, delH, dropH, List.cons_append, List.nil_append] at h
      exact hR false _ h hp
    refine cond_both' hp (fun hp => ?_) (fun hp => ?_)
    · replace h := h.sel [] 13
      dsimp only [pickL, pickR, nthH, delH, dropH, List.cons_append, List.nil_append] at h
      exact hR false _ h hp
    refine ⟨_, cellL h 1 0 rfl rfl rfl, ?_⟩
    refine cond_both' hp (fun hp => ?_) (fun hp => ?_)
    · replace h := h.sel [] 13
      dsimp only [pickL, pickR, nthH, delH, dropH, List.cons_append, List.nil_append] at h
      exact hR false _ h hp
    refine ⟨_, cellL h 0 1 rfl rfl rfl, ?_⟩
    refine cond_both' hp (fun hp => ?_) (fun hp => ?_)
    · replace h := h.sel [] 13
      dsimp only [pickL, pickR, nthH, delH, dropH, List.cons_append, List.nil_append] at h
      exact hR false _ h hp
    replace h := h.pick [2, 4]
    dsimp only [pickL, pickR, nthH, delH, dropH, List.cons_append, List.nil_append] at h
    refine world_World_Outer_ok h hp ?_
    intro r_21 w h hp
    have cpp_3 := rowCap h 1 rfl
    refine ⟨_, rfl, ?_⟩
    refine cond_both' hp (fun hp => ?_) (fun hp => ?_)
    · replace h := h.sel [] 13
      dsimp only [pickL, pickR, nthH, delH, dropH, List.cons_append, List.nil_append] at h
      exact hR false _ h hp
    refine world_World_Outer_ok h hp ?_
    intro r_22 w h hp
    have cpp_3 := rowCap h 1 rfl
    refine ⟨_, rfl, ?_⟩
    refine cond_both' hp (fun hp => ?_) (fun hp => ?_)
    · replace h := h.sel [] 13
      dsimp only [pickL, pickR, nthH, delH, dropH, List.cons_append, List.nil_append] at h
      exact hR false _ h hp
    replace h := h.pick [0, 3]
    dsimp only [pickL, pickR, nthH, delH, dropH, List.cons_append, List.nil_append] at h
    refine world_World_Box_ok h hp ?_ ?_
    · intro w h hp
      have cpp_1 := rowCap h 1 rfl
      refine ⟨_, rfl, ?_⟩
      refine neqPtrNN undP50 ?_
      refine ⟨_, rfl, ?_⟩
      replace h := h.sel [] 13
      dsimp only [pickL, pickR, nthH, delH, dropH, List.cons_append, List.nil_append] at h
      exact hR (false) _ h hp
    intro r_23 w h hp
    have cpp_1 := rowCap h 1 rfl
    refine ⟨_, rfl, ?_⟩
    refine neqPn undP50 ?_
    refine ⟨_, rfl, ?_⟩
    replace h := h.sel [] 13
    dsimp only [pickL, pickR, nthH, delH, dropH, List.cons_append, List.nil_append] at h
    exact hR (!(Option.isNone r_23)) _ h hp
  clear hq
  refine eqlPtrNil undP30 ?_
  refine ⟨_, rfl, ?_⟩
  refine cond_ff ?_
  replace h := h.sel [0, 0, 0, 0, 1, 1, 1, 0, 0] 0
  dsimp only [pickL, pickR, nthH, delH, dropH, List.cons_append, List.nil_append] at h
  exact ⟨rfl, hp, h⟩

/-! embrasure/embrasurelaw14.Small (7) -/
def embrasurelaw14_Small_wp (p_Boxes : List (Int × Int × Int × Int × Int × Int × Int)) (p_Behind : List (Int)) (p_Hosts : List (Int × Int)) (K : Bool → Prop) : Prop :=
  cond (decide ((((p_Boxes.length : Nat) : Int) : Int) ≤ 40)) (cond (decide ((((p_Behind.length : Nat) : Int) : Int) ≤ 40)) (K (decide ((((p_Hosts.length : Nat) : Int) : Int) ≤ 40))) (K false)) (K false)
theorem embrasurelaw14_Small_ok {p_1 : Option Addr} {n_1 : Nat} {c_1 : Nat} {p_2 : Option Addr} {n_2 : Nat} {c_2 : Nat} {p_3 : Option Addr} {n_3 : Nat} {c_3 : Nat} {p_Boxes : List (Int × Int × Int × Int × Int × Int × Int)} {p_Behind : List (Int)} {p_Hosts : List (Int × Int)} {FL : List HP} {w : World} {K : Bool → Prop} {R : Value → World → Prop}
  (hF_p_Boxes : ∀ w, Mem FL w → Rd w 7 p_1 enc55 p_Boxes) (hl_p_Boxes : n_1 = p_Boxes.length) (hc_p_Boxes : n_1 ≤ c_1)
  (hF_p_Behind : ∀ w, Mem FL w → Rd w 1 p_2 enc3 p_Behind) (hl_p_Behind : n_2 = p_Behind.length) (hc_p_Behind : n_2 ≤ c_2)
  (hF_p_Hosts : ∀ w, Mem FL w → Rd w 2 p_3 enc42 p_Hosts) (hl_p_Hosts : n_3 = p_Hosts.length) (hc_p_Hosts : n_3 ≤ c_3)
  (h : Mem (FL) w) (hp : embrasurelaw14_Small_wp p_Boxes p_Behind p_Hosts K)
  (hR : ∀ (r : Bool) (w : World), Mem (FL) w → K r → R (Value.bool r) w) :
  CallV Try.prog 7 #[(Value.agg #[(Value.slice p_1 n_1 c_1), (Value.slice p_2 n_2 c_2), (Value.slice p_3 n_3 c_3)])] w R := by
  refine embrasurelaw14_Small_call ?_
  unfold embrasurelaw14_Small
  unfold embrasurelaw14_Small_wp at hp
  subst hl_p_Boxes
  subst hl_p_Behind
  subst hl_p_Hosts
  refine newL (o := [(Value.slice p_1 p_Boxes.length c_1), (Value.slice p_2 p_Behind.length c_2), (Value.slice p_3 p_Hosts.length c_3)]) h ?_
  intro b_1 w h
  refine ⟨_, _, _, cellL h 0 0 rfl rfl rfl, ?_⟩
  refine cond_both' hp (fun hp => ?_) (fun hp => ?_)
  · replace h := h.sel [] 1
    dsimp only [pickL, pickR, nthH, delH, dropH, List.cons_append, List.nil_append] at h
    exact hR false _ h hp
  refine ⟨_, _, _, cellL h 0 1 rfl rfl rfl, ?_⟩
  refine cond_both' hp (fun hp => ?_) (fun hp => ?_)
  · replace h := h.sel [] 1
    dsimp only [pickL, pickR, nthH, delH, dropH, List.cons_append, List.nil_append] at h
    exact hR false _ h hp
  refine ⟨_, _, _, cellL h 0 2 rfl rfl rfl, ?_⟩
  replace h := h.sel [] 1
  dsimp only [pickL, pickR, nthH, delH, dropH, List.cons_append, List.nil_append] at h
  exact hR (decide ((((p_Hosts.length : Nat) : Int) : Int) ≤ 40)) _ h hp

/-! embrasure/embrasurelaw14.WorldBack (3) -/
def embrasurelaw14_WorldBack_wp (p_Boxes : List (Int × Int × Int × Int × Int × Int × Int)) (p_Behind : List (Int)) (p_Hosts : List (Int × Int)) (script : List (Int × Int × Int × Int × Int × Bool)) (K : Bool → Prop) : Prop :=
  embrasurelaw14_awake_wp (fun (r : Bool) => cond (!r) (K false) (embrasurelaw14_Small_wp p_Boxes p_Behind p_Hosts (fun (r_1 : Bool) => cond (!r_1) (K true) (world_New_wp p_Boxes p_Behind p_Hosts ([] : List (Nat × (Int × Int × Int × Int × Int × Int × Int × (List (Option Nat)) × Int))) (fun (r_2 : Int) (m_1 : List (Nat × (Int × Int × Int × Int × Int × Int × Int × (List (Option Nat)) × Int))) => K ((r_2 : Int) == 1)) (fun (r_3 : Int) (boxes : List (Option Nat)) (behind : List (Int)) (hosts : List (Int × Int)) (last : Int) (m_2 : List (Nat × (Int × Int × Int × Int × Int × Int × Int × (List (Option Nat)) × Int))) => ∃ (I : Nat → Int → Int → Int → List (Nat × (Int × Int × Int × Int × Int × Int × Int × (List (Option Nat)) × Int)) → List (Nat × (Int × Int × Int × Int × Int × Int × Bool × (List (Int × Int)))) → Prop), (∃ (n_12 : Nat), I n_12 last 0 0 m_2 ([] : List (Nat × (Int × Int × Int × Int × Int × Int × Bool × (List (Int × Int)))))) ∧ ∀ (n_8 : Nat) (last_1 : Int) (now7 : Int) (i8 : Int) (m_3 : List (Nat × (Int × Int × Int × Int × Int × Int × Int × (List (Option Nat)) × Int))) (m_4 : List (Nat × (Int × Int × Int × Int × Int × Int × Bool × (List (Int × Int))))), I n_8 last_1 now7 i8 m_3 m_4 → (joinP1 (fun (t45 : Bool) => cond t45 (0 ≤ (i8 : Int) ∧ (i8 : Int) < ((script.length : Nat) : Int) ∧ (∀ (x_1 : Int × Int × Int × Int × Int × Bool), script[Int.toNat i8]? = some x_1 → (joinP1 (fun (now7_2 : Int) => world_World_Way_wp boxes behind hosts last_1 now7_2 x_1.2.1 x_1.2.2.1 x_1.2.2.2.1 x_1.2.2.2.2.1 m_3 m_4 (fun (r_4 : Int) (r_5 : Int) (r_6 : Int) (r_7 : Int) (r_8 : Int) (r_9 : Int) (last_2 : Int) (m_5 : List (Nat × (Int × Int × Int × Int × Int × Int × Int × (List (Option Nat)) × Int))) (m_6 : List (Nat × (Int × Int × Int × Int × Int × Int × Bool × (List (Int × Int))))) => cond ((r_9 : Int) != 0) (∃ (n_9 : Nat), n_9 < n_8 ∧ I n_9 last_2 now7_2 (IntKind.wrap .i64 (i8 + 1)) m_5 m_6) (0 ≤ (x_1.2.1 : Int) ∧ (x_1.2.1 : Int) < ((p_Hosts.length : Nat) : Int) ∧ (∀ (x_3 : Int × Int), p_Hosts[Int.toNat x_1.2.1]? = some x_3 → (joinP0 (joinP0 (world_World_Way_wp boxes behind hosts last_2 now7_2 r_4 r_8 r_5 r_6 m_5 m_6 (fun (r_14 : Int) (r_15 : Int) (r_16 : Int) (r_17 : Int) (r_18 : Int) (r_19 : Int) (last_3 : Int) (m_7 : List (Nat × (Int × Int × Int × Int × Int × Int × Int × (List (Option Nat)) × Int))) (m_8 : List (Nat × (Int × Int × Int × Int × Int × Int × Bool × (List (Int × Int))))) => joinP1 (fun (t143 : Bool) => cond t143 (K false) (∃ (n_11 : Nat), n_11 < n_8 ∧ I n_11 last_3 now7_2 (IntKind.wrap .i64 (i8 + 1)) m_7 m_8)) (fun (Q_7 : Bool → Prop) => cond ((r_19 : Int) != 0) (Q_7 true) (cond ((r_14 : Int) != x_1.2.1) (Q_7 true) (cond (!(((r_17 : Int) == x_3.1) && (((r_18 : Int) == x_1.2.2.1) && true))) (Q_7 true) (Q_7 (!(((r_15 : Int) == r_7) && (((r_16 : Int) == r_8) && true))))))))) (fun (Q_5 : Prop) => joinP1 (fun (t113 : Bool) => cond t113 (∃ (n_10 : Nat), n_10 < n_8 ∧ I n_10 last_2 now7_2 (IntKind.wrap .i64 (i8 + 1)) m_5 m_6) (Q_5 )) (fun (Q_6 : Bool → Prop) => world_World_Outer_wp hosts last_2 r_4 (fun (r_11 : Int) => cond ((r_11 : Int) != (-1)) (world_World_Outer_wp hosts last_2 r_4 (fun (r_12 : Int) => world_World_Outer_wp hosts last_2 x_1.2.1 (fun (r_13 : Int) => Q_6 ((r_12 : Int) != r_13)))) (Q_6 false))))) (fun (Q_3 : Prop) => joinP1 (fun (t99 : Bool) => cond t99 (K false) (Q_3 )) (fun (Q_4 : Bool → Prop) => world_World_Outer_wp hosts last_2 x_1.2.1 (fun (r_10 : Int) => cond ((r_10 : Int) == (-1)) (Q_4 (!(((r_5 : Int) == x_3.1) && (((r_6 : Int) == x_1.2.2.1) && true)))) (Q_4 false))))))))) (fun (Q_1 : Int → Prop) => joinP1 (fun (t59 : Bool) => cond t59 (Q_1 (IntKind.wrap .i64 (now7 + x_1.1))) (Q_1 now7)) (fun (Q_2 : Bool → Prop) => cond (decide ((x_1.1 : Int) > 0)) (Q_2 (decide ((x_1.1 : Int) < 8589934592))) (Q_2 false)))))) (K true)) (fun (Q : Bool → Prop) => cond (decide ((i8 : Int) < ((script.length : Nat) : Int))) (Q (decide ((i8 : Int) < 60))) (Q false))))))))
theorem embrasurelaw14_WorldBack_ok {p_1 : Option Addr} {n_1 : Nat} {c_1 : Nat} {p_2 : Option Addr} {n_2 : Nat} {c_2 : Nat} {p_3 : Option Addr} {n_3 : Nat} {c_3 : Nat} {p_4 : Option Addr} {n_4 : Nat} {c_4 : Nat} {p_Boxes : List (Int × Int × Int × Int × Int × Int × Int)} {p_Behind : List (Int)} {p_Hosts : List (Int × Int)} {script : List (Int × Int × Int × Int × Int × Bool)} {FL : List HP} {w : World} {K : Bool → Prop} {R : Value → World → Prop}
  (hF_p_Boxes : ∀ w, Mem FL w → Rd w 7 p_1 enc55 p_Boxes) (hl_p_Boxes : n_1 = p_Boxes.length) (hc_p_Boxes : n_1 ≤ c_1)
  (hF_p_Behind : ∀ w, Mem FL w → Rd w 1 p_2 enc3 p_Behind) (hl_p_Behind : n_2 = p_Behind.length) (hc_p_Behind : n_2 ≤ c_2)
  (hF_p_Hosts : ∀ w, Mem FL w → Rd w 2 p_3 enc42 p_Hosts) (hl_p_Hosts : n_3 = p_Hosts.length) (hc_p_Hosts : n_3 ≤ c_3)
  (hF_script : ∀ w, Mem FL w → Rd w 6 p_4 enc38 script) (hl_script : n_4 = script.length) (hc_script : n_4 ≤ c_4)
  (h : Mem (FL) w) (hp : embrasurelaw14_WorldBack_wp p_Boxes p_Behind p_Hosts script K)
  (hR : ∀ (r : Bool) (w : World), Mem (FL) w → K r → R (Value.bool r) w) :
  CallV Try.prog 3 #[(Value.agg #[(Value.slice p_1 n_1 c_1), (Value.slice p_2 n_2 c_2), (Value.slice p_3 n_3 c_3)]), (Value.slice p_4 n_4 c_4)] w R := by
  refine embrasurelaw14_WorldBack_call ?_
  unfold embrasurelaw14_WorldBack
  unfold embrasurelaw14_WorldBack_wp at hp
  subst hl_p_Boxes
  subst hl_p_Behind
  subst hl_p_Hosts
  subst hl_script
  replace h := stoNil stoE76 (fun _ => default) h
  replace h := stoNil stoE82 (fun _ => default) h
  refine newL (o := [(Value.slice p_1 p_Boxes.length c_1), (Value.slice p_2 p_Behind.length c_2), (Value.slice p_3 p_Hosts.length c_3)]) h ?_
  intro b_1 w h
  refine embrasurelaw14_awake_ok h hp ?_
  intro r w h hp
  refine ⟨_, rfl, ?_⟩
  refine cond_both hp (fun hp => ?_) (fun hp => ?_)
  · replace h := h.sel [] 3
    dsimp only [pickL, pickR, nthH, delH, dropH, List.cons_append, List.nil_append] at h
    exact hR false _ h hp
  refine ⟨_, _, _, cellL h 0 0 rfl rfl rfl, _, _, _, cellL h 0 1 rfl rfl rfl, _, _, _, cellL h 0 2 rfl rfl rfl, ?_⟩
  refine embrasurelaw14_Small_ok (FL := cel b_1 26 [(Value.slice p_1 p_Boxes.length c_1), (Value.slice p_2 p_Behind.length c_2), (Value.slice p_3 p_Hosts.length c_3)] :: stoP stoE82 (fun _ => default) ([] : List (Nat × (Int × Int × Int × Int × Int × Int × Bool × (List (Int × Int))))) :: stoP stoE76 (fun _ => default) ([] : List (Nat × (Int × Int × Int × Int × Int × Int × Int × (List (Option Nat)) × Int))) :: FL) (fun w h => (hF_p_Boxes _ (h.drop 3))) rfl hc_p_Boxes (fun w h => (hF_p_Behind _ (h.drop 3))) rfl hc_p_Behind (fun w h => (hF_p_Hosts _ (h.drop 3))) rfl hc_p_Hosts h hp ?_
  intro r_1 w h hp
  refine ⟨_, rfl, ?_⟩
  refine cond_both hp (fun hp => ?_) (fun hp => ?_)
  · replace h := h.sel [] 3
    dsimp only [pickL, pickR, nthH, delH, dropH, List.cons_append, List.nil_append] at h
    exact hR true _ h hp
  refine ⟨_, _, _, cellL h 0 0 rfl rfl rfl, ?_⟩
  refine ⟨_, _, _, cellL h 0 1 rfl rfl rfl, ?_⟩
  refine ⟨_, _, _, cellL h 0 2 rfl rfl rfl, ?_⟩
  replace h := h.pick [2]
  dsimp only [pickL, pickR, nthH, delH, dropH, List.cons_append, List.nil_append] at h
  refine world_New_ok (FL := cel b_1 26 [(Value.slice p_1 p_Boxes.length c_1), (Value.slice p_2 p_Behind.length c_2), (Value.slice p_3 p_Hosts.length c_3)] :: stoP stoE82 (fun _ => default) ([] : List (Nat × (Int × Int × Int × Int × Int × Int × Bool × (List (Int × Int))))) :: FL) (fun w h => (hF_p_Boxes _ (h.drop 2))) rfl hc_p_Boxes (fun w h => (hF_p_Behind _ (h.drop 2))) rfl hc_p_Behind (fun w h => (hF_p_Hosts _ (h.drop 2))) rfl hc_p_Hosts h hp ?_ ?_
  · intro r_2 m_1 hd w h hp
    refine ⟨_, _, rfl, ?_⟩
    refine eqlPtrNN undP30 ?_
    refine ⟨_, rfl, ?_⟩
    refine cond_tt ?_
    replace h := h.sel [] 3
    dsimp only [pickL, pickR, nthH, delH, dropH, List.cons_append, List.nil_append] at h
    exact hR ((r_2 : Int) == 1) _ h hp
  rintro r_3 boxes behind hosts last m_2 b_2 p_5 n_5 c_5 p_6 n_6 c_6 p_7 n_7 c_7 hd_1 w rfl rfl rfl h hp
  have cpp_5 := rowCap h 1 rfl
  have cpp_6 := rowCap h 2 rfl
  have cpp_7 := rowCap h 3 rfl
  refine ⟨_, _, rfl, ?_⟩
  refine eqlPtrNil undP30 ?_
  refine ⟨_, rfl, ?_⟩
  refine cond_ff ?_
  obtain ⟨I, ⟨n_12, h0⟩, hq⟩ := hp
  replace h := h.sel [0, 0, 0, 0, 1, 0, 0] 0
  dsimp only [pickL, pickR, nthH, delH, dropH, List.cons_append, List.nil_append] at h
  refine ⟨fun n_8 script1p script1l script1c p2 w5 now7 i8 w => ∃ (last_1 : Int), ∃ (m_3 : List (Nat × (Int × Int × Int × Int × Int × Int × Int × (List (Option Nat)) × Int))), ∃ (hd_2 : Nat → Option Addr × Nat), ∃ (m_4 : List (Nat × (Int × Int × Int × Int × Int × Int × Bool × (List (Int × Int))))), ∃ (hd_3 : Nat → Option Addr × Nat), p_4 = script1p ∧ script.length = script1l ∧ c_4 = script1c ∧ (Addr.mk b_1 0 none) = p2 ∧ (some (Addr.mk b_2 0 none)) = w5 ∧ I n_8 last_1 now7 i8 m_3 m_4 ∧ Mem (cel b_2 61 [(Value.slice p_5 boxes.length c_5), (Value.slice p_6 behind.length c_6), (Value.slice p_7 hosts.length c_7), (Value.int .i64 last_1)] :: row enc50 50 1 p_5 c_5 boxes :: row enc3 3 1 p_6 c_6 behind :: row enc42 42 2 p_7 c_7 hosts :: cel b_1 26 [(Value.slice p_1 p_Boxes.length c_1), (Value.slice p_2 p_Behind.length c_2), (Value.slice p_3 p_Hosts.length c_3)] :: stoP stoE76 hd_2 m_3 :: stoP stoE82 hd_3 m_4 :: FL) w, ⟨n_12, last, m_2, hd_1, ([] : List (Nat × (Int × Int × Int × Int × Int × Int × Bool × (List (Int × Int))))), (fun _ => default), rfl, rfl, rfl, rfl, rfl, h0, h⟩, ?_⟩
  clear h0 h
  rintro n_8 script1p script1l script1c p2 w5 now7 i8 w ⟨last_1, m_3, hd_2, m_4, hd_3, rfl, rfl, rfl, rfl, rfl, hp, h⟩
  replace hp := hq n_8 last_1 now7 i8 m_3 m_4 hp
  clear hq
  unfold embrasurelaw14_WorldBack_l1
  obtain ⟨Q, hq, hp⟩ := hp
  refine ⟨fun script1_1p script1_1l script1_1c p2_1 w5_1 now7_1 i8_1 t45 w => p_4 = script1_1p ∧ script.length = script1_1l ∧ c_4 = script1_1c ∧ (Addr.mk b_1 0 none) = p2_1 ∧ (some (Addr.mk b_2 0 none)) = w5_1 ∧ now7 = now7_1 ∧ i8 = i8_1 ∧ Q t45 ∧ Mem (cel b_2 61 [(Value.slice p_5 boxes.length c_5), (Value.slice p_6 behind.length c_6), (Value.slice p_7 hosts.length c_7), (Value.int .i64 last_1)] :: row enc50 50 1 p_5 c_5 boxes :: row enc3 3 1 p_6 c_6 behind :: row enc42 42 2 p_7 c_7 hosts :: cel b_1 26 [(Value.slice p_1 p_Boxes.length c_1), (Value.slice p_2 p_Behind.length c_2), (Value.slice p_3 p_Hosts.length c_3)] :: stoP stoE76 hd_2 m_3 :: stoP stoE82 hd_3 m_4 :: FL) w, ?_, ?_⟩
  · rintro script1_1p script1_1l script1_1c p2_1 w5_1 now7_1 i8_1 t45 w ⟨rfl, rfl, rfl, rfl, rfl, rfl, rfl, hp, h⟩
    replace hp := hq t45 hp
    unfold embrasurelaw14_WorldBack_j2
    refine cond_both' hp (fun hp => ?_) (fun hp => ?_)
    · replace h := h.sel [] 7
      dsimp only [pickL, pickR, nthH, delH, dropH, List.cons_append, List.nil_append] at h
      exact hR true _ h hp
    obtain ⟨ia_1, ja_1, hp⟩ := hp
    obtain ⟨a_1, ha_1⟩ := rdAddr (hF_script _ (h.drop 7)) rfl ia_1 ja_1
    refine ⟨a_1, ha_1, ia_1, ja_1, ?_⟩
    obtain ⟨x_1, hx_1, hc⟩ := rdCell (hF_script _ (h.drop 7)) ha_1 rfl ia_1 ja_1
    replace hp := hp x_1 hx_1
    refine ⟨_, hc 0 _ rfl, _, hc 1 _ rfl, _, hc 2 _ rfl, _, hc 3 _ rfl, _, hc 4 _ rfl, _, hc 5 _ rfl, ?_⟩
    refine newL (o := [(Value.int .i64 0), (Value.int .i64 0), (Value.int .i64 0), (Value.int .u32 0), (Value.int .i64 0), (Value.bool false)]) h ?_
    intro b_3 w h
    refine storeL (ys := [(Value.int .i64 x_1.1), (Value.int .i64 x_1.2.1), (Value.int .i64 x_1.2.2.1), (Value.int .u32 x_1.2.2.2.1), (Value.int .i64 x_1.2.2.2.2.1), (Value.bool x_1.2.2.2.2.2)]) h 0 0 rfl rfl rfl sz38 rfl rfl ?_
    intro w h
    dsimp only [setH, setVs, setV] at h
    obtain ⟨Q_1, hq, hp⟩ := hp
    refine ⟨fun script1_2p script1_2l script1_2c p2_2 w5_2 now7_2 i8_2 g9 w => p_4 = script1_2p ∧ script.length = script1_2l ∧ c_4 = script1_2c ∧ (Addr.mk b_1 0 none) = p2_2 ∧ (some (Addr.mk b_2 0 none)) = w5_2 ∧ i8 = i8_2 ∧ (Addr.mk b_3 0 none) = g9 ∧ Q_1 now7_2 ∧ Mem (cel b_3 38 [(Value.int .i64 x_1.1), (Value.int .i64 x_1.2.1), (Value.int .i64 x_1.2.2.1), (Value.int .u32 x_1.2.2.2.1), (Value.int .i64 x_1.2.2.2.2.1), (Value.bool x_1.2.2.2.2.2)] :: cel b_2 61 [(Value.slice p_5 boxes.length c_5), (Value.slice p_6 behind.length c_6), (Value.slice p_7 hosts.length c_7), (Value.int .i64 last_1)] :: row enc50 50 1 p_5 c_5 boxes :: row enc3 3 1 p_6 c_6 behind :: row enc42 42 2 p_7 c_7 hosts :: cel b_1 26 [(Value.slice p_1 p_Boxes.length c_1), (Value.slice p_2 p_Behind.length c_2), (Value.slice p_3 p_Hosts.length c_3)] :: stoP stoE76 hd_2 m_3 :: stoP stoE82 hd_3 m_4 :: FL) w, ?_, ?_⟩
    · rintro script1_2p script1_2l script1_2c p2_2 w5_2 now7_2 i8_2 g9 w ⟨rfl, rfl, rfl, rfl, rfl, rfl, rfl, hp, h⟩
      replace hp := hq now7_2 hp
      unfold embrasurelaw14_WorldBack_j3
      refine ⟨_, cellL h 0 1 rfl rfl rfl, ?_⟩
      refine ⟨_, cellL h 0 2 rfl rfl rfl, ?_⟩
      refine ⟨_, cellL h 0 3 rfl rfl rfl, _, cellL h 0 4 rfl rfl rfl, ?_⟩
      replace h := h.pick [1, 1, 1, 1, 2, 2]
      dsimp only [pickL, pickR, nthH, delH, dropH, List.cons_append, List.nil_append] at h
      refine world_World_Way_ok h hp ?_
      intro r_4 r_5 r_6 r_7 r_8 r_9 last_2 m_5 m_6 hd_4 hd_5 w h hp
      have cpp_5 := rowCap h 1 rfl
      have cpp_6 := rowCap h 2 rfl
      have cpp_7 := rowCap h 3 rfl
      refine ⟨_, _, _, _, _, _, rfl, ?_⟩
      refine newL (o := [(Value.int .u32 0), (Value.int .i64 0)]) h ?_
      intro b_4 w h
      refine newL (o := [(Value.int .u32 0), (Value.int .i64 0)]) h ?_
      intro b_5 w h
      refine storeL (ys := [(Value.int .u32 r_5), (Value.int .i64 r_6)]) h 1 0 rfl rfl rfl sz36 rfl rfl ?_
      intro w h
      dsimp only [setH, setVs, setV] at h
      refine storeL (ys := [(Value.int .u32 r_7), (Value.int .i64 r_8)]) h 0 0 rfl rfl rfl sz36 rfl rfl ?_
      intro w h
      dsimp only [setH, setVs, setV] at h
      refine cond_both hp (fun hp => ?_) (fun hp => ?_)
      · replace h := h.sel [2, 2, 2, 2, 5, 2, 2] 3
        dsimp only [pickL, pickR, nthH, delH, dropH, List.cons_append, List.nil_append] at h
        obtain ⟨n_9, hn, hp⟩ := hp
        exact ⟨n_9, hn, last_2, m_5, hd_4, m_6, hd_5, rfl, rfl, rfl, rfl, rfl, hp, h⟩
      replace h := h.drew
      refine ⟨fun w => Mem (cel b_1 26 [(Value.slice p_1 p_Boxes.length c_1), (Value.slice p_2 p_Behind.length c_2), (Value.slice p_3 p_Hosts.length c_3)] :: cel b_3 38 [(Value.int .i64 x_1.1), (Value.int .i64 x_1.2.1), (Value.int .i64 x_1.2.2.1), (Value.int .u32 x_1.2.2.2.1), (Value.int .i64 x_1.2.2.2.2.1), (Value.bool x_1.2.2.2.2.2)] :: FL) w, (h.sel [9, 8] 8), ?_⟩
      refine ⟨_, _, _, cellL h 9 2 rfl rfl rfl, ?_⟩
      refine ⟨?_, ?_⟩
      · intro w h
        change Mem _ _ at h
        refine ⟨_, _, _, cellL h 0 2 rfl rfl rfl, ?_⟩
        exact ⟨rfl, rfl⟩
      refine ⟨_, cellL h 8 1 rfl rfl rfl, ?_⟩
      refine ⟨?_, ?_⟩
      · intro w h
        change Mem _ _ at h
        refine ⟨_, cellL h 1 1 rfl rfl rfl, ?_⟩
        exact ⟨rfl, rfl⟩
      obtain ⟨ia_2, ja_2, hp⟩ := hp
      obtain ⟨a_2, ha_2⟩ := rdAddr (hF_p_Hosts _ (h.drop 10)) rfl ia_2 ja_2
      refine ⟨a_2, ha_2, ia_2, ja_2, ?_⟩
      obtain ⟨x_3, hx_3, hc⟩ := rdCell (hF_p_Hosts _ (h.drop 10)) ha_2 rfl ia_2 ja_2
      replace hp := hp x_3 hx_3
      refine ⟨_, hc 0 _ rfl, ?_⟩
      refine ⟨?_, ?_⟩
      · intro w h
        change Mem _ _ at h
        obtain ⟨x_2, hx_2, hcq⟩ := rdCell (hF_p_Hosts _ (h.drop 2)) ha_2 rfl ia_2 ja_2
        obtain rfl : x_2 = x_3 := Option.some.inj (hx_2.symm.trans hx_3)
        refine ⟨_, hcq 0 _ rfl, ?_⟩
        exact ⟨rfl, rfl⟩
      refine ⟨_, cellL h 8 2 rfl rfl rfl, ?_⟩
      refine ⟨?_, ?_⟩
      · intro w h
        change Mem _ _ at h
        refine ⟨_, cellL h 1 2 rfl rfl rfl, ?_⟩
        exact ⟨rfl, rfl⟩
      refine newL (o := [(Value.int .u32 0), (Value.int .i64 0)]) h ?_
      intro b_6 w h
      refine ⟨(h.sel [10, 9] 9), ?_⟩
      refine storeL (ys := [(Value.int .u32 x_3.1), (Value.int .i64 x_1.2.2.1)]) h 0 0 rfl rfl rfl sz36 rfl rfl ?_
      intro w h
      dsimp only [setH, setVs, setV] at h
      obtain ⟨Q_3, hq, hp⟩ := hp
      refine ⟨fun script1_4p script1_4l script1_4c p2_4 w5_4 now7_4 i8_4 g9_2 h10 from11 to12 own14 w => p_4 = script1_4p ∧ script.length = script1_4l ∧ c_4 = script1_4c ∧ (Addr.mk b_1 0 none) = p2_4 ∧ (some (Addr.mk b_2 0 none)) = w5_4 ∧ now7_2 = now7_4 ∧ i8 = i8_4 ∧ (Addr.mk b_3 0 none) = g9_2 ∧ r_4 = h10 ∧ (Addr.mk b_4 0 none) = from11 ∧ (Addr.mk b_5 0 none) = to12 ∧ (Addr.mk b_6 0 none) = own14 ∧ Q_3 ∧ Mem (cel b_6 36 [(Value.int .u32 x_3.1), (Value.int .i64 x_1.2.2.1)] :: cel b_5 36 [(Value.int .u32 r_7), (Value.int .i64 r_8)] :: cel b_4 36 [(Value.int .u32 r_5), (Value.int .i64 r_6)] :: cel b_2 61 [(Value.slice p_5 boxes.length c_5), (Value.slice p_6 behind.length c_6), (Value.slice p_7 hosts.length c_7), (Value.int .i64 last_2)] :: row enc50 50 1 p_5 c_5 boxes :: row enc3 3 1 p_6 c_6 behind :: row enc42 42 2 p_7 c_7 hosts :: cel b_3 38 [(Value.int .i64 x_1.1), (Value.int .i64 x_1.2.1), (Value.int .i64 x_1.2.2.1), (Value.int .u32 x_1.2.2.2.1), (Value.int .i64 x_1.2.2.2.2.1), (Value.bool x_1.2.2.2.2.2)] :: cel b_1 26 [(Value.slice p_1 p_Boxes.length c_1), (Value.slice p_2 p_Behind.length c_2), (Value.slice p_3 p_Hosts.length c_3)] :: stoP stoE76 hd_4 m_5 :: stoP stoE82 hd_5 m_6 :: FL) w, ?_, ?_⟩
      · rintro script1_4p script1_4l script1_4c p2_4 w5_4 now7_4 i8_4 g9_2 h10 from11 to12 own14 w ⟨rfl, rfl, rfl, rfl, rfl, rfl, rfl, rfl, rfl, rfl, rfl, rfl, hp, h⟩
        replace hp := hq  hp
        unfold embrasurelaw14_WorldBack_j4
        obtain ⟨Q_5, hq, hp⟩ := hp
        refine ⟨fun script1_6p script1_6l script1_6c p2_6 w5_6 now7_6 i8_6 g9_4 h10_2 from11_2 to12_2 own14_2 w => p_4 = script1_6p ∧ script.length = script1_6l ∧ c_4 = script1_6c ∧ (Addr.mk b_1 0 none) = p2_6 ∧ (some (Addr.mk b_2 0 none)) = w5_6 ∧ now7_2 = now7_6 ∧ i8 = i8_6 ∧ (Addr.mk b_3 0 none) = g9_4 ∧ r_4 = h10_2 ∧ (Addr.mk b_4 0 none) = from11_2 ∧ (Addr.mk b_5 0 none) = to12_2 ∧ (Addr.mk b_6 0 none) = own14_2 ∧ Q_5 ∧ Mem (cel b_6 36 [(Value.int .u32 x_3.1), (Value.int .i64 x_1.2.2.1)] :: cel b_5 36 [(Value.int .u32 r_7), (Value.int .i64 r_8)] :: cel b_4 36 [(Value.int .u32 r_5), (Value.int .i64 r_6)] :: cel b_2 61 [(Value.slice p_5 boxes.length c_5), (Value.slice p_6 behind.length c_6), (Value.slice p_7 hosts.length c_7), (Value.int .i64 last_2)] :: row enc50 50 1 p_5 c_5 boxes :: row enc3 3 1 p_6 c_6 behind :: row enc42 42 2 p_7 c_7 hosts :: cel b_3 38 [(Value.int .i64 x_1.1), (Value.int .i64 x_1.2.1), (Value.int .i64 x_1.2.2.1), (Value.int .u32 x_1.2.2.2.1), (Value.int .i64 x_1.2.2.2.2.1), (Value.bool x_1.2.2.2.2.2)] :: cel b_1 26 [(Value.slice p_1 p_Boxes.length c_1), (Value.slice p_2 p_Behind.length c_2), (Value.slice p_3 p_Hosts.length c_3)] :: stoP stoE76 hd_4 m_5 :: stoP stoE82 hd_5 m_6 :: FL) w, ?_, ?_⟩
        · rintro script1_6p script1_6l script1_6c p2_6 w5_6 now7_6 i8_6 g9_4 h10_2 from11_2 to12_2 own14_2 w ⟨rfl, rfl, rfl, rfl, rfl, rfl, rfl, rfl, rfl, rfl, rfl, rfl, hp, h⟩
          replace hp := hq  hp
          unfold embrasurelaw14_WorldBack_j5
          refine ⟨_, cellL h 1 1 rfl rfl rfl, ?_⟩
          refine ⟨_, cellL h 2 0 rfl rfl rfl, _, cellL h 2 1 rfl rfl rfl, ?_⟩
          replace h := h.pick [3, 3, 3, 3, 5, 5]
          dsimp only [pickL, pickR, nthH, delH, dropH, List.cons_append, List.nil_append] at h
          refine world_World_Way_ok h hp ?_
          intro r_14 r_15 r_16 r_17 r_18 r_19 last_3 m_7 m_8 hd_6 hd_7 w h hp
          have cpp_5 := rowCap h 1 rfl
          have cpp_6 := rowCap h 2 rfl
          have cpp_7 := rowCap h 3 rfl
          refine ⟨_, _, _, _, _, _, rfl, ?_⟩
          refine newL (o := [(Value.int .u32 0), (Value.int .i64 0)]) h ?_
          intro b_7 w h
          refine newL (o := [(Value.int .u32 0), (Value.int .i64 0)]) h ?_
          intro b_8 w h
          refine storeL (ys := [(Value.int .u32 r_15), (Value.int .i64 r_16)]) h 1 0 rfl rfl rfl sz36 rfl rfl ?_
          intro w h
          dsimp only [setH, setVs, setV] at h
          refine storeL (ys := [(Value.int .u32 r_17), (Value.int .i64 r_18)]) h 0 0 rfl rfl rfl sz36 rfl rfl ?_
          intro w h
          dsimp only [setH, setVs, setV] at h
          obtain ⟨Q_7, hq, hp⟩ := hp
          refine ⟨fun script1_8p script1_8l script1_8c p2_8 w5_8 now7_8 i8_8 t143 w => p_4 = script1_8p ∧ script.length = script1_8l ∧ c_4 = script1_8c ∧ (Addr.mk b_1 0 none) = p2_8 ∧ (some (Addr.mk b_2 0 none)) = w5_8 ∧ now7_2 = now7_8 ∧ i8 = i8_8 ∧ Q_7 t143 ∧ Mem (cel b_8 36 [(Value.int .u32 r_17), (Value.int .i64 r_18)] :: cel b_7 36 [(Value.int .u32 r_15), (Value.int .i64 r_16)] :: cel b_2 61 [(Value.slice p_5 boxes.length c_5), (Value.slice p_6 behind.length c_6), (Value.slice p_7 hosts.length c_7), (Value.int .i64 last_3)] :: row enc50 50 1 p_5 c_5 boxes :: row enc3 3 1 p_6 c_6 behind :: row enc42 42 2 p_7 c_7 hosts :: cel b_6 36 [(Value.int .u32 x_3.1), (Value.int .i64 x_1.2.2.1)] :: cel b_5 36 [(Value.int .u32 r_7), (Value.int .i64 r_8)] :: cel b_4 36 [(Value.int .u32 r_5), (Value.int .i64 r_6)] :: cel b_3 38 [(Value.int .i64 x_1.1), (Value.int .i64 x_1.2.1), (Value.int .i64 x_1.2.2.1), (Value.int .u32 x_1.2.2.2.1), (Value.int .i64 x_1.2.2.2.2.1), (Value.bool x_1.2.2.2.2.2)] :: cel b_1 26 [(Value.slice p_1 p_Boxes.length c_1), (Value.slice p_2 p_Behind.length c_2), (Value.slice p_3 p_Hosts.length c_3)] :: stoP stoE76 hd_6 m_7 :: stoP stoE82 hd_7 m_8 :: FL) w, ?_, ?_⟩
          · rintro script1_8p script1_8l script1_8c p2_8 w5_8 now7_8 i8_8 t143 w ⟨rfl, rfl, rfl, rfl, rfl, rfl, rfl, hp, h⟩
            replace hp := hq t143 hp
            unfold embrasurelaw14_WorldBack_j6
            refine cond_both hp (fun hp => ?_) (fun hp => ?_)
            · replace h := h.sel [] 13
              dsimp only [pickL, pickR, nthH, delH, dropH, List.cons_append, List.nil_append] at h
              exact hR false _ h hp
            replace h := h.sel [2, 2, 2, 2, 6, 6, 6] 6
            dsimp only [pickL, pickR, nthH, delH, dropH, List.cons_append, List.nil_append] at h
            obtain ⟨n_11, hn, hp⟩ := hp
            exact ⟨n_11, hn, last_3, m_7, hd_6, m_8, hd_7, rfl, rfl, rfl, rfl, rfl, hp, h⟩
          clear hq
          refine cond_both hp (fun hp => ?_) (fun hp => ?_)
          · replace h := h.sel [0, 0, 0, 0, 0, 0, 2, 2, 2, 2, 2, 0, 0] 0
            dsimp only [pickL, pickR, nthH, delH, dropH, List.cons_append, List.nil_append] at h
            exact ⟨rfl, rfl, rfl, rfl, rfl, rfl, rfl, hp, h⟩
          refine ⟨_, cellL h 11 1 rfl rfl rfl, ?_⟩
          refine cond_both hp (fun hp => ?_) (fun hp => ?_)
          · replace h := h.sel [0, 0, 0, 0, 0, 0, 2, 2, 2, 2, 2, 0, 0] 0
            dsimp only [pickL, pickR, nthH, delH, dropH, List.cons_append, List.nil_append] at h
            exact ⟨rfl, rfl, rfl, rfl, rfl, rfl, rfl, hp, h⟩
          refine ⟨_, cellL h 0 0 rfl rfl rfl, _, cellL h 0 1 rfl rfl rfl, ?_⟩
          refine ⟨_, cellL h 8 0 rfl rfl rfl, _, cellL h 8 1 rfl rfl rfl, ?_⟩
          refine neqAgg (xs := [(Value.int .u32 r_17), (Value.int .i64 r_18)]) (ys := [(Value.int .u32 x_3.1), (Value.int .i64 x_1.2.2.1)]) eqG36 eqA36 (eqT36 r_17 r_18 x_3.1 x_1.2.2.1) ?_
          refine ⟨_, rfl, ?_⟩
          refine cond_both hp (fun hp => ?_) (fun hp => ?_)
          · replace h := h.sel [0, 0, 0, 0, 0, 0, 2, 2, 2, 2, 2, 0, 0] 0
            dsimp only [pickL, pickR, nthH, delH, dropH, List.cons_append, List.nil_append] at h
            exact ⟨rfl, rfl, rfl, rfl, rfl, rfl, rfl, hp, h⟩
          refine ⟨_, cellL h 1 0 rfl rfl rfl, _, cellL h 1 1 rfl rfl rfl, ?_⟩
          refine ⟨_, cellL h 9 0 rfl rfl rfl, _, cellL h 9 1 rfl rfl rfl, ?_⟩
          refine neqAgg (xs := [(Value.int .u32 r_15), (Value.int .i64 r_16)]) (ys := [(Value.int .u32 r_7), (Value.int .i64 r_8)]) eqG36 eqA36 (eqT36 r_15 r_16 r_7 r_8) ?_
          refine ⟨_, rfl, ?_⟩
          replace h := h.sel [0, 0, 0, 0, 0, 0, 2, 2, 2, 2, 2, 0, 0] 0
          dsimp only [pickL, pickR, nthH, delH, dropH, List.cons_append, List.nil_append] at h
          exact ⟨rfl, rfl, rfl, rfl, rfl, rfl, rfl, hp, h⟩
        clear hq
        obtain ⟨Q_6, hq, hp⟩ := hp
        refine ⟨fun script1_7p script1_7l script1_7c p2_7 w5_7 now7_7 i8_7 g9_5 h10_3 from11_3 to12_3 own14_3 t113 w => p_4 = script1_7p ∧ script.length = script1_7l ∧ c_4 = script1_7c ∧ (Addr.mk b_1 0 none) = p2_7 ∧ (some (Addr.mk b_2 0 none)) = w5_7 ∧ now7_2 = now7_7 ∧ i8 = i8_7 ∧ (Addr.mk b_3 0 none) = g9_5 ∧ r_4 = h10_3 ∧ (Addr.mk b_4 0 none) = from11_3 ∧ (Addr.mk b_5 0 none) = to12_3 ∧ (Addr.mk b_6 0 none) = own14_3 ∧ Q_6 t113 ∧ Mem (cel b_6 36 [(Value.int .u32 x_3.1), (Value.int .i64 x_1.2.2.1)] :: cel b_5 36 [(Value.int .u32 r_7), (Value.int .i64 r_8)] :: cel b_4 36 [(Value.int .u32 r_5), (Value.int .i64 r_6)] :: cel b_2 61 [(Value.slice p_5 boxes.length c_5), (Value.slice p_6 behind.length c_6), (Value.slice p_7 hosts.length c_7), (Value.int .i64 last_2)] :: row enc50 50 1 p_5 c_5 boxes :: row enc3 3 1 p_6 c_6 behind :: row enc42 42 2 p_7 c_7 hosts :: cel b_3 38 [(Value.int .i64 x_1.1), (Value.int .i64 x_1.2.1), (Value.int .i64 x_1.2.2.1), (Value.int .u32 x_1.2.2.2.1), (Value.int .i64 x_1.2.2.2.2.1), (Value.bool x_1.2.2.2.2.2)] :: cel b_1 26 [(Value.slice p_1 p_Boxes.length c_1), (Value.slice p_2 p_Behind.length c_2), (Value.slice p_3 p_Hosts.length c_3)] :: stoP stoE76 hd_4 m_5 :: stoP stoE82 hd_5 m_6 :: FL) w, ?_, ?_⟩
        · rintro script1_7p script1_7l script1_7c p2_7 w5_7 now7_7 i8_7 g9_5 h10_3 from11_3 to12_3 own14_3 t113 w ⟨rfl, rfl, rfl, rfl, rfl, rfl, rfl, rfl, rfl, rfl, rfl, rfl, hp, h⟩
          replace hp := hq t113 hp
          unfold embrasurelaw14_WorldBack_j7
          refine cond_both' hp (fun hp => ?_) (fun hp => ?_)
          · exact ⟨rfl, rfl, rfl, rfl, rfl, rfl, rfl, rfl, rfl, rfl, rfl, rfl, hp, h⟩
          replace h := h.sel [3, 3, 3, 3, 4, 4, 4] 4
          dsimp only [pickL, pickR, nthH, delH, dropH, List.cons_append, List.nil_append] at h
          obtain ⟨n_10, hn, hp⟩ := hp
          exact ⟨n_10, hn, last_2, m_5, hd_4, m_6, hd_5, rfl, rfl, rfl, rfl, rfl, hp, h⟩
        clear hq
        replace h := h.drew
        refine ⟨fun w => Mem (cel b_3 38 [(Value.int .i64 x_1.1), (Value.int .i64 x_1.2.1), (Value.int .i64 x_1.2.2.1), (Value.int .u32 x_1.2.2.2.1), (Value.int .i64 x_1.2.2.2.2.1), (Value.bool x_1.2.2.2.2.2)] :: FL) w, (h.sel [7] 10), ?_⟩
        replace h := h.pick [3, 5]
        dsimp only [pickL, pickR, nthH, delH, dropH, List.cons_append, List.nil_append] at h
        refine world_World_Outer_ok h hp ?_
        intro r_11 w h hp
        have cpp_7 := rowCap h 1 rfl
        refine ⟨_, rfl, ?_⟩
        refine ⟨(h.sel [7] 10), ?_⟩
        refine cond_both' hp (fun hp => ?_) (fun hp => ?_)
        · replace h := h.sel [2, 2, 2, 0, 1, 1, 0, 0, 0, 0, 0] 0
          dsimp only [pickL, pickR, nthH, delH, dropH, List.cons_append, List.nil_append] at h
          exact ⟨rfl, rfl, rfl, rfl, rfl, rfl, rfl, rfl, rfl, rfl, rfl, rfl, hp, h⟩
        refine ⟨_, cellL h 7 1 rfl rfl rfl, ?_⟩
        refine ⟨?_, ?_⟩
        · intro w h
          change Mem _ _ at h
          refine ⟨_, cellL h 0 1 rfl rfl rfl, ?_⟩
          exact ⟨rfl, rfl⟩
        refine world_World_Outer_ok h hp ?_
        intro r_12 w h hp
        have cpp_7 := rowCap h 1 rfl
        refine ⟨_, rfl, ?_⟩
        refine ⟨(h.sel [7] 10), ?_⟩
        refine world_World_Outer_ok h hp ?_
        intro r_13 w h hp
        have cpp_7 := rowCap h 1 rfl
        refine ⟨_, rfl, ?_⟩
        refine ⟨(h.sel [7] 10), ?_⟩
        replace h := h.sel [2, 2, 2, 0, 1, 1, 0, 0, 0, 0, 0] 0
        dsimp only [pickL, pickR, nthH, delH, dropH, List.cons_append, List.nil_append] at h
        exact ⟨rfl, rfl, rfl, rfl, rfl, rfl, rfl, rfl, rfl, rfl, rfl, rfl, hp, h⟩
      clear hq
      obtain ⟨Q_4, hq, hp⟩ := hp
      refine ⟨fun script1_5p script1_5l script1_5c p2_5 w5_5 now7_5 i8_5 g9_3 h10_1 from11_1 to12_1 own14_1 t99 w => p_4 = script1_5p ∧ script.length = script1_5l ∧ c_4 = script1_5c ∧ (Addr.mk b_1 0 none) = p2_5 ∧ (some (Addr.mk b_2 0 none)) = w5_5 ∧ now7_2 = now7_5 ∧ i8 = i8_5 ∧ (Addr.mk b_3 0 none) = g9_3 ∧ r_4 = h10_1 ∧ (Addr.mk b_4 0 none) = from11_1 ∧ (Addr.mk b_5 0 none) = to12_1 ∧ (Addr.mk b_6 0 none) = own14_1 ∧ Q_4 t99 ∧ Mem (cel b_6 36 [(Value.int .u32 x_3.1), (Value.int .i64 x_1.2.2.1)] :: cel b_5 36 [(Value.int .u32 r_7), (Value.int .i64 r_8)] :: cel b_4 36 [(Value.int .u32 r_5), (Value.int .i64 r_6)] :: cel b_2 61 [(Value.slice p_5 boxes.length c_5), (Value.slice p_6 behind.length c_6), (Value.slice p_7 hosts.length c_7), (Value.int .i64 last_2)] :: row enc50 50 1 p_5 c_5 boxes :: row enc3 3 1 p_6 c_6 behind :: row enc42 42 2 p_7 c_7 hosts :: cel b_3 38 [(Value.int .i64 x_1.1), (Value.int .i64 x_1.2.1), (Value.int .i64 x_1.2.2.1), (Value.int .u32 x_1.2.2.2.1), (Value.int .i64 x_1.2.2.2.2.1), (Value.bool x_1.2.2.2.2.2)] :: cel b_1 26 [(Value.slice p_1 p_Boxes.length c_1), (Value.slice p_2 p_Behind.length c_2), (Value.slice p_3 p_Hosts.length c_3)] :: stoP stoE76 hd_4 m_5 :: stoP stoE82 hd_5 m_6 :: FL) w, ?_, ?_⟩
      · rintro script1_5p script1_5l script1_5c p2_5 w5_5 now7_5 i8_5 g9_3 h10_1 from11_1 to12_1 own14_1 t99 w ⟨rfl, rfl, rfl, rfl, rfl, rfl, rfl, rfl, rfl, rfl, rfl, rfl, hp, h⟩
        replace hp := hq t99 hp
        unfold embrasurelaw14_WorldBack_j8
        refine cond_both' hp (fun hp => ?_) (fun hp => ?_)
        · exact ⟨rfl, rfl, rfl, rfl, rfl, rfl, rfl, rfl, rfl, rfl, rfl, rfl, hp, h⟩
        replace h := h.sel [] 11
        dsimp only [pickL, pickR, nthH, delH, dropH, List.cons_append, List.nil_append] at h
        exact hR false _ h hp
      clear hq
      refine ⟨_, cellL h 9 1 rfl rfl rfl, ?_⟩
      replace h := h.pick [3, 5]
      dsimp only [pickL, pickR, nthH, delH, dropH, List.cons_append, List.nil_append] at h
      refine world_World_Outer_ok h hp ?_
      intro r_10 w h hp
      have cpp_7 := rowCap h 1 rfl
      refine ⟨_, rfl, ?_⟩
      refine cond_both' hp (fun hp => ?_) (fun hp => ?_)
      · replace h := h.sel [2, 2, 2, 0, 1, 1, 0, 2, 2, 0, 0] 0
        dsimp only [pickL, pickR, nthH, delH, dropH, List.cons_append, List.nil_append] at h
        exact ⟨rfl, rfl, rfl, rfl, rfl, rfl, rfl, rfl, rfl, rfl, rfl, rfl, hp, h⟩
      refine ⟨_, cellL h 4 0 rfl rfl rfl, _, cellL h 4 1 rfl rfl rfl, ?_⟩
      refine ⟨_, cellL h 2 0 rfl rfl rfl, _, cellL h 2 1 rfl rfl rfl, ?_⟩
      refine neqAgg (xs := [(Value.int .u32 r_5), (Value.int .i64 r_6)]) (ys := [(Value.int .u32 x_3.1), (Value.int .i64 x_1.2.2.1)]) eqG36 eqA36 (eqT36 r_5 r_6 x_3.1 x_1.2.2.1) ?_
      refine ⟨_, rfl, ?_⟩
      replace h := h.sel [2, 2, 2, 0, 1, 1, 0, 2, 2, 0, 0] 0
      dsimp only [pickL, pickR, nthH, delH, dropH, List.cons_append, List.nil_append] at h
      exact ⟨rfl, rfl, rfl, rfl, rfl, rfl, rfl, rfl, rfl, rfl, rfl, rfl, hp, h⟩
    clear hq
    obtain ⟨Q_2, hq, hp⟩ := hp
    refine ⟨fun script1_3p script1_3l script1_3c p2_3 w5_3 now7_3 i8_3 g9_1 t59 w => p_4 = script1_3p ∧ script.length = script1_3l ∧ c_4 = script1_3c ∧ (Addr.mk b_1 0 none) = p2_3 ∧ (some (Addr.mk b_2 0 none)) = w5_3 ∧ now7 = now7_3 ∧ i8 = i8_3 ∧ (Addr.mk b_3 0 none) = g9_1 ∧ Q_2 t59 ∧ Mem (cel b_3 38 [(Value.int .i64 x_1.1), (Value.int .i64 x_1.2.1), (Value.int .i64 x_1.2.2.1), (Value.int .u32 x_1.2.2.2.1), (Value.int .i64 x_1.2.2.2.2.1), (Value.bool x_1.2.2.2.2.2)] :: cel b_2 61 [(Value.slice p_5 boxes.length c_5), (Value.slice p_6 behind.length c_6), (Value.slice p_7 hosts.length c_7), (Value.int .i64 last_1)] :: row enc50 50 1 p_5 c_5 boxes :: row enc3 3 1 p_6 c_6 behind :: row enc42 42 2 p_7 c_7 hosts :: cel b_1 26 [(Value.slice p_1 p_Boxes.length c_1), (Value.slice p_2 p_Behind.length c_2), (Value.slice p_3 p_Hosts.length c_3)] :: stoP stoE76 hd_2 m_3 :: stoP stoE82 hd_3 m_4 :: FL) w, ?_, ?_⟩
    · rintro script1_3p script1_3l script1_3c p2_3 w5_3 now7_3 i8_3 g9_1 t59 w ⟨rfl, rfl, rfl, rfl, rfl, rfl, rfl, rfl, hp, h⟩
      replace hp := hq t59 hp
      unfold embrasurelaw14_WorldBack_j9
      refine cond_both' hp (fun hp => ?_) (fun hp => ?_)
      · exact ⟨rfl, rfl, rfl, rfl, rfl, rfl, rfl, hp, h⟩
      refine ⟨_, cellL h 0 0 rfl rfl rfl, ?_⟩
      exact ⟨rfl, rfl, rfl, rfl, rfl, rfl, rfl, hp, h⟩
    clear hq
    refine ⟨_, cellL h 0 0 rfl rfl rfl, ?_⟩
    refine cond_both' hp (fun hp => ?_) (fun hp => ?_)
    · exact ⟨rfl, rfl, rfl, rfl, rfl, rfl, rfl, rfl, hp, h⟩
    refine ⟨_, cellL h 0 0 rfl rfl rfl, ?_⟩
    exact ⟨rfl, rfl, rfl, rfl, rfl, rfl, rfl, rfl, hp, h⟩
  clear hq
  refine cond_both hp (fun hp => ?_) (fun hp => ?_)
  · exact ⟨rfl, rfl, rfl, rfl, rfl, rfl, rfl, hp, h⟩
  exact ⟨rfl, rfl, rfl, rfl, rfl, rfl, rfl, hp, h⟩

/-! embrasure/embrasurelaw14.WorldOpen (4) -/
def embrasurelaw14_WorldOpen_wp (p_Boxes : List (Int × Int × Int × Int × Int × Int × Int)) (p_Behind : List (Int)) (p_Hosts : List (Int × Int)) (ends_x : Int) (ends_x_1 : Int) (ports_x : Int) (ports_x_1 : Int) (K : Bool → Prop) : Prop :=
  embrasurelaw14_awake_wp (fun (r : Bool) => cond (!r) (K false) (embrasurelaw14_Small_wp p_Boxes p_Behind p_Hosts (fun (r_1 : Bool) => cond (!r_1) (K true) (world_New_wp p_Boxes p_Behind p_Hosts ([] : List (Nat × (Int × Int × Int × Int × Int × Int × Int × (List (Option Nat)) × Int))) (fun (r_2 : Int) (m_1 : List (Nat × (Int × Int × Int × Int × Int × Int × Int × (List (Option Nat)) × Int))) => K ((r_2 : Int) == 1)) (fun (r_3 : Int) (boxes : List (Option Nat)) (behind : List (Int)) (hosts : List (Int × Int)) (last : Int) (m_2 : List (Nat × (Int × Int × Int × Int × Int × Int × Int × (List (Option Nat)) × Int))) => joinP1 (fun (t77 : Bool) => cond t77 (K true) (0 ≤ (ends_x_1 : Int) ∧ (ends_x_1 : Int) < ((p_Hosts.length : Nat) : Int) ∧ (∀ (x_3 : Int × Int), p_Hosts[Int.toNat ends_x_1]? = some x_3 → (world_World_Way_wp boxes behind hosts last 0 ends_x (IntKind.wrap .i64 ports_x) x_3.1 (IntKind.wrap .i64 ports_x_1) m_2 ([] : List (Nat × (Int × Int × Int × Int × Int × Int × Bool × (List (Int × Int))))) (fun (r_4 : Int) (r_5 : Int) (r_6 : Int) (r_7 : Int) (r_8 : Int) (r_9 : Int) (last_1 : Int) (m_3 : List (Nat × (Int × Int × Int × Int × Int × Int × Int × (List (Option Nat)) × Int))) (m_4 : List (Nat × (Int × Int × Int × Int × Int × Int × Bool × (List (Int × Int))))) => 0 ≤ (ends_x_1 : Int) ∧ (ends_x_1 : Int) < ((p_Hosts.length : Nat) : Int) ∧ (∀ (x_4 : Int × Int), p_Hosts[Int.toNat ends_x_1]? = some x_4 → (cond ((x_4.2 : Int) == (-1)) (cond ((r_9 : Int) == 0) (cond ((r_4 : Int) == ends_x_1) (cond (((r_7 : Int) == x_3.1) && (((r_8 : Int) == (IntKind.wrap .i64 ports_x_1)) && true)) (0 ≤ (ends_x : Int) ∧ (ends_x : Int) < ((p_Hosts.length : Nat) : Int) ∧ (∀ (x_5 : Int × Int), p_Hosts[Int.toNat ends_x]? = some x_5 → (K (((r_5 : Int) == x_5.1) && (((r_6 : Int) == (IntKind.wrap .i64 ports_x)) && true))))) (K false)) (K false)) (K false)) (cond ((r_9 : Int) != 0) (K true) (K ((r_4 : Int) != ends_x_1)))))))))) (fun (Q : Bool → Prop) => cond (decide ((ends_x : Int) < 0)) (Q true) (cond (decide ((ends_x : Int) ≥ ((p_Hosts.length : Nat) : Int))) (Q true) (cond (decide ((ends_x_1 : Int) < 0)) (Q true) (cond (decide ((ends_x_1 : Int) ≥ ((p_Hosts.length : Nat) : Int))) (Q true) (cond ((ports_x : Int) == 0) (Q true) (cond ((ports_x_1 : Int) == 0) (Q true) (0 ≤ (ends_x : Int) ∧ (ends_x : Int) < ((p_Hosts.length : Nat) : Int) ∧ (∀ (x_1 : Int × Int), p_Hosts[Int.toNat ends_x]? = some x_1 → (Q ((x_1.2 : Int) != (-1))))))))))))))))
theorem embrasurelaw14_WorldOpen_ok {p_1 : Option Addr} {n_1 : Nat} {c_1 : Nat} {p_2 : Option Addr} {n_2 : Nat} {c_2 : Nat} {p_3 : Option Addr} {n_3 : Nat} {c_3 : Nat} {p_Boxes : List (Int × Int × Int × Int × Int × Int × Int)} {p_Behind : List (Int)} {p_Hosts : List (Int × Int)} {ends_x : Int} {ends_x_1 : Int} {ports_x : Int} {ports_x_1 : Int} {FL : List HP} {w : World} {K : Bool → Prop} {R : Value → World → Prop}
  (hF_p_Boxes : ∀ w, Mem FL w → Rd w 7 p_1 enc55 p_Boxes) (hl_p_Boxes : n_1 = p_Boxes.length) (hc_p_Boxes : n_1 ≤ c_1)
  (hF_p_Behind : ∀ w, Mem FL w → Rd w 1 p_2 enc3 p_Behind) (hl_p_Behind : n_2 = p_Behind.length) (hc_p_Behind : n_2 ≤ c_2)
  (hF_p_Hosts : ∀ w, Mem FL w → Rd w 2 p_3 enc42 p_Hosts) (hl_p_Hosts : n_3 = p_Hosts.length) (hc_p_Hosts : n_3 ≤ c_3)
  (h : Mem (FL) w) (hp : embrasurelaw14_WorldOpen_wp p_Boxes p_Behind p_Hosts ends_x ends_x_1 ports_x ports_x_1 K)
  (hR : ∀ (r : Bool) (w : World), Mem (FL) w → K r → R (Value.bool r) w) :
  CallV Try.prog 4 #[(Value.agg #[(Value.slice p_1 n_1 c_1), (Value.slice p_2 n_2 c_2), (Value.slice p_3 n_3 c_3)]), (Value.agg #[(Value.int .i64 ends_x), (Value.int .i64 ends_x_1)]), (Value.agg #[(Value.int .u16 ports_x), (Value.int .u16 ports_x_1)])] w R := by
  refine embrasurelaw14_WorldOpen_call ?_
  unfold embrasurelaw14_WorldOpen
  unfold embrasurelaw14_WorldOpen_wp at hp
  subst hl_p_Boxes
  subst hl_p_Behind
  subst hl_p_Hosts
  replace h := stoNil stoE76 (fun _ => default) h
  replace h := stoNil stoE82 (fun _ => default) h
  refine newL (o := [(Value.slice p_1 p_Boxes.length c_1), (Value.slice p_2 p_Behind.length c_2), (Value.slice p_3 p_Hosts.length c_3)]) h ?_
  intro b_1 w h
  refine newL (o := [(Value.int .i64 ends_x), (Value.int .i64 ends_x_1)]) h ?_
  intro b_2 w h
  refine newL (o := [(Value.int .u16 ports_x), (Value.int .u16 ports_x_1)]) h ?_
  intro b_3 w h
  refine embrasurelaw14_awake_ok h hp ?_
  intro r w h hp
  refine ⟨_, rfl, ?_⟩
  refine cond_both hp (fun hp => ?_) (fun hp => ?_)
  · replace h := h.sel [] 5
    dsimp only [pickL, pickR, nthH, delH, dropH, List.cons_append, List.nil_append] at h
    exact hR false _ h hp
  refine ⟨by decide, by decide, ?_⟩
  refine ⟨_, cellL h 1 0 rfl rfl rfl, ?_⟩
  refine ⟨by decide, by decide, ?_⟩
  refine ⟨_, cellL h 1 1 rfl rfl rfl, ?_⟩
  refine ⟨_, _, _, cellL h 2 0 rfl rfl rfl, _, _, _, cellL h 2 1 rfl rfl rfl, _, _, _, cellL h 2 2 rfl rfl rfl, ?_⟩
  refine embrasurelaw14_Small_ok (FL := cel b_3 47 [(Value.int .u16 ports_x), (Value.int .u16 ports_x_1)] :: cel b_2 45 [(Value.int .i64 ends_x), (Value.int .i64 ends_x_1)] :: cel b_1 26 [(Value.slice p_1 p_Boxes.length c_1), (Value.slice p_2 p_Behind.length c_2), (Value.slice p_3 p_Hosts.length c_3)] :: stoP stoE82 (fun _ => default) ([] : List (Nat × (Int × Int × Int × Int × Int × Int × Bool × (List (Int × Int))))) :: stoP stoE76 (fun _ => default) ([] : List (Nat × (Int × Int × Int × Int × Int × Int × Int × (List (Option Nat)) × Int))) :: FL) (fun w h => (hF_p_Boxes _ (h.drop 5))) rfl hc_p_Boxes (fun w h => (hF_p_Behind _ (h.drop 5))) rfl hc_p_Behind (fun w h => (hF_p_Hosts _ (h.drop 5))) rfl hc_p_Hosts h hp ?_
  intro r_1 w h hp
  refine ⟨_, rfl, ?_⟩
  refine cond_both hp (fun hp => ?_) (fun hp => ?_)
  · replace h := h.sel [] 5
    dsimp only [pickL, pickR, nthH, delH, dropH, List.cons_append, List.nil_append] at h
    exact hR true _ h hp
  refine ⟨_, _, _, cellL h 2 0 rfl rfl rfl, ?_⟩
  refine ⟨_, _, _, cellL h 2 1 rfl rfl rfl, ?_⟩
  refine ⟨_, _, _, cellL h 2 2 rfl rfl rfl, ?_⟩
  replace h := h.pick [4]
  dsimp only [pickL, pickR, nthH, delH, dropH, List.cons_append, List.nil_append] at h
  refine world_New_ok (FL := cel b_3 47 [(Value.int .u16 ports_x), (Value.int .u16 ports_x_1)] :: cel b_2 45 [(Value.int .i64 ends_x), (Value.int .i64 ends_x_1)] :: cel b_1 26 [(Value.slice p_1 p_Boxes.length c_1), (Value.slice p_2 p_Behind.length c_2), (Value.slice p_3 p_Hosts.length c_3)] :: stoP stoE82 (fun _ => default) ([] : List (Nat × (Int × Int × Int × Int × Int × Int × Bool × (List (Int × Int))))) :: FL) (fun w h => (hF_p_Boxes _ (h.drop 4))) rfl hc_p_Boxes (fun w h => (hF_p_Behind _ (h.drop 4))) rfl hc_p_Behind (fun w h => (hF_p_Hosts _ (h.drop 4))) rfl hc_p_Hosts h hp ?_ ?_
  · intro r_2 m_1 hd w h hp
    refine ⟨_, _, rfl, ?_⟩
    refine eqlPtrNN undP30 ?_
    refine ⟨_, rfl, ?_⟩
    refine cond_tt ?_
    replace h := h.sel [] 5
    dsimp only [pickL, pickR, nthH, delH, dropH, List.cons_append, List.nil_append] at h
    exact hR ((r_2 : Int) == 1) _ h hp
  rintro r_3 boxes behind hosts last m_2 b_4 p_4 n_4 c_4 p_5 n_5 c_5 p_6 n_6 c_6 hd_1 w rfl rfl rfl h hp
  have cpp_4 := rowCap h 1 rfl
  have cpp_5 := rowCap h 2 rfl
  have cpp_6 := rowCap h 3 rfl
  refine ⟨_, _, rfl, ?_⟩
  refine eqlPtrNil undP30 ?_
  refine ⟨_, rfl, ?_⟩
  refine cond_ff ?_
  obtain ⟨Q, hq, hp⟩ := hp
  refine ⟨fun p3 ports5 a7 b8 w9 t77 w => (Addr.mk b_1 0 none) = p3 ∧ (Addr.mk b_3 0 none) = ports5 ∧ ends_x = a7 ∧ ends_x_1 = b8 ∧ (some (Addr.mk b_4 0 none)) = w9 ∧ Q t77 ∧ Mem (cel b_4 61 [(Value.slice p_4 boxes.length c_4), (Value.slice p_5 behind.length c_5), (Value.slice p_6 hosts.length c_6), (Value.int .i64 last)] :: row enc50 50 1 p_4 c_4 boxes :: row enc3 3 1 p_5 c_5 behind :: row enc42 42 2 p_6 c_6 hosts :: cel b_3 47 [(Value.int .u16 ports_x), (Value.int .u16 ports_x_1)] :: cel b_2 45 [(Value.int .i64 ends_x), (Value.int .i64 ends_x_1)] :: cel b_1 26 [(Value.slice p_1 p_Boxes.length c_1), (Value.slice p_2 p_Behind.length c_2), (Value.slice p_3 p_Hosts.length c_3)] :: stoP stoE76 hd_1 m_2 :: stoP stoE82 (fun _ => default) ([] : List (Nat × (Int × Int × Int × Int × Int × Int × Bool × (List (Int × Int))))) :: FL) w, ?_, ?_⟩
  · rintro p3 ports5 a7 b8 w9 t77 w ⟨rfl, rfl, rfl, rfl, rfl, hp, h⟩
    replace hp := hq t77 hp
    unfold embrasurelaw14_WorldOpen_j1
    refine cond_both hp (fun hp => ?_) (fun hp => ?_)
    · replace h := h.sel [] 9
      dsimp only [pickL, pickR, nthH, delH, dropH, List.cons_append, List.nil_append] at h
      exact hR true _ h hp
    replace h := h.drew
    refine ⟨fun w => Mem (cel b_1 26 [(Value.slice p_1 p_Boxes.length c_1), (Value.slice p_2 p_Behind.length c_2), (Value.slice p_3 p_Hosts.length c_3)] :: cel b_3 47 [(Value.int .u16 ports_x), (Value.int .u16 ports_x_1)] :: FL) w, (h.sel [6, 4] 7), ?_⟩
    refine ⟨_, _, _, cellL h 6 2 rfl rfl rfl, ?_⟩
    refine ⟨?_, ?_⟩
    · intro w h
      change Mem _ _ at h
      refine ⟨_, _, _, cellL h 0 2 rfl rfl rfl, ?_⟩
      exact ⟨rfl, rfl⟩
    obtain ⟨ia_2, ja_2, hp⟩ := hp
    obtain ⟨a_2, ha_2⟩ := rdAddr (hF_p_Hosts _ (h.drop 9)) rfl ia_2 ja_2
    refine ⟨a_2, ha_2, ia_2, ja_2, ?_⟩
    obtain ⟨x_3, hx_3, hc⟩ := rdCell (hF_p_Hosts _ (h.drop 9)) ha_2 rfl ia_2 ja_2
    replace hp := hp x_3 hx_3
    refine ⟨_, hc 0 _ rfl, ?_⟩
    refine ⟨?_, ?_⟩
    · intro w h
      change Mem _ _ at h
      obtain ⟨x_2, hx_2, hcq⟩ := rdCell (hF_p_Hosts _ (h.drop 2)) ha_2 rfl ia_2 ja_2
      obtain rfl : x_2 = x_3 := Option.some.inj (hx_2.symm.trans hx_3)
      refine ⟨_, hcq 0 _ rfl, ?_⟩
      exact ⟨rfl, rfl⟩
    refine ⟨by decide, by decide, ?_⟩
    refine ⟨_, cellL h 4 1 rfl rfl rfl, ?_⟩
    refine ⟨?_, ?_⟩
    · intro w h
      change Mem _ _ at h
      refine ⟨_, cellL h 1 1 rfl rfl rfl, ?_⟩
      exact ⟨rfl, rfl⟩
    refine newL (o := [(Value.int .u32 0), (Value.int .i64 0)]) h ?_
    intro b_5 w h
    refine ⟨(h.sel [7, 5] 8), ?_⟩
    refine storeL (ys := [(Value.int .u32 x_3.1), (Value.int .i64 (IntKind.wrap .i64 ports_x_1))]) h 0 0 rfl rfl rfl sz36 rfl rfl ?_
    intro w h
    dsimp only [setH, setVs, setV] at h
    refine ⟨by decide, by decide, ?_⟩
    refine ⟨_, cellL h 5 0 rfl rfl rfl, ?_⟩
    refine ⟨_, cellL h 0 0 rfl rfl rfl, _, cellL h 0 1 rfl rfl rfl, ?_⟩
    replace h := h.pick [1, 1, 1, 1, 4, 4]
    dsimp only [pickL, pickR, nthH, delH, dropH, List.cons_append, List.nil_append] at h
    refine world_World_Way_ok h hp ?_
    intro r_4 r_5 r_6 r_7 r_8 r_9 last_1 m_3 m_4 hd_2 hd_3 w h hp
    have cpp_4 := rowCap h 1 rfl
    have cpp_5 := rowCap h 2 rfl
    have cpp_6 := rowCap h 3 rfl
    refine ⟨_, _, _, _, _, _, rfl, ?_⟩
    refine newL (o := [(Value.int .u32 0), (Value.int .i64 0)]) h ?_
    intro b_6 w h
    refine newL (o := [(Value.int .u32 0), (Value.int .i64 0)]) h ?_
    intro b_7 w h
    refine storeL (ys := [(Value.int .u32 r_5), (Value.int .i64 r_6)]) h 1 0 rfl rfl rfl sz36 rfl rfl ?_
    intro w h
    dsimp only [setH, setVs, setV] at h
    refine storeL (ys := [(Value.int .u32 r_7), (Value.int .i64 r_8)]) h 0 0 rfl rfl rfl sz36 rfl rfl ?_
    intro w h
    dsimp only [setH, setVs, setV] at h
    refine ⟨_, _, _, cellL h 11 2 rfl rfl rfl, ?_⟩
    obtain ⟨ia_3, ja_3, hp⟩ := hp
    obtain ⟨a_3, ha_3⟩ := rdAddr (hF_p_Hosts _ (h.drop 12)) rfl ia_3 ja_3
    refine ⟨a_3, ha_3, ia_3, ja_3, ?_⟩
    obtain ⟨x_4, hx_4, hc⟩ := rdCell (hF_p_Hosts _ (h.drop 12)) ha_3 rfl ia_3 ja_3
    replace hp := hp x_4 hx_4
    refine ⟨_, hc 1 _ rfl, ?_⟩
    refine cond_both' hp (fun hp => ?_) (fun hp => ?_)
    · refine cond_both hp (fun hp => ?_) (fun hp => ?_)
      · replace h := h.sel [] 12
        dsimp only [pickL, pickR, nthH, delH, dropH, List.cons_append, List.nil_append] at h
        exact hR true _ h hp
      replace h := h.sel [] 12
      dsimp only [pickL, pickR, nthH, delH, dropH, List.cons_append, List.nil_append] at h
      exact hR ((r_4 : Int) != ends_x_1) _ h hp
    replace h := h.drew
    refine cond_both' hp (fun hp => ?_) (fun hp => ?_)
    · replace h := h.sel [] 12
      dsimp only [pickL, pickR, nthH, delH, dropH, List.cons_append, List.nil_append] at h
      exact hR false _ h hp
    refine cond_both' hp (fun hp => ?_) (fun hp => ?_)
    · replace h := h.sel [] 12
      dsimp only [pickL, pickR, nthH, delH, dropH, List.cons_append, List.nil_append] at h
      exact hR false _ h hp
    refine ⟨_, cellL h 0 0 rfl rfl rfl, _, cellL h 0 1 rfl rfl rfl, ?_⟩
    refine ⟨_, cellL h 8 0 rfl rfl rfl, _, cellL h 8 1 rfl rfl rfl, ?_⟩
    refine eqlAgg (xs := [(Value.int .u32 r_7), (Value.int .i64 r_8)]) (ys := [(Value.int .u32 x_3.1), (Value.int .i64 (IntKind.wrap .i64 ports_x_1))]) eqG36 eqA36 (eqT36 r_7 r_8 x_3.1 (IntKind.wrap .i64 ports_x_1)) ?_
    refine ⟨_, rfl, ?_⟩
    refine ⟨rfl, ?_⟩
    refine cond_both' hp (fun hp => ?_) (fun hp => ?_)
    · replace h := h.sel [] 12
      dsimp only [pickL, pickR, nthH, delH, dropH, List.cons_append, List.nil_append] at h
      exact hR false _ h hp
    refine ⟨_, cellL h 1 0 rfl rfl rfl, _, cellL h 1 1 rfl rfl rfl, ?_⟩
    refine ⟨_, _, _, cellL h 11 2 rfl rfl rfl, ?_⟩
    obtain ⟨ia_4, ja_4, hp⟩ := hp
    obtain ⟨a_4, ha_4⟩ := rdAddr (hF_p_Hosts _ (h.drop 12)) rfl ia_4 ja_4
    refine ⟨a_4, ha_4, ia_4, ja_4, ?_⟩
    obtain ⟨x_5, hx_5, hc⟩ := rdCell (hF_p_Hosts _ (h.drop 12)) ha_4 rfl ia_4 ja_4
    replace hp := hp x_5 hx_5
    refine ⟨_, hc 0 _ rfl, ?_⟩
    refine ⟨by decide, by decide, ?_⟩
    refine ⟨_, cellL h 9 0 rfl rfl rfl, ?_⟩
    refine eqlAgg (xs := [(Value.int .u32 r_5), (Value.int .i64 r_6)]) (ys := [(Value.int .u32 x_5.1), (Value.int .i64 (IntKind.wrap .i64 ports_x))]) eqG36 eqA36 (eqT36 r_5 r_6 x_5.1 (IntKind.wrap .i64 ports_x)) ?_
    refine ⟨_, rfl, ?_⟩
    refine ⟨rfl, ?_⟩
    replace h := h.sel [] 12
    dsimp only [pickL, pickR, nthH, delH, dropH, List.cons_append, List.nil_append] at h
    exact hR (((r_5 : Int) == x_5.1) && (((r_6 : Int) == (IntKind.wrap .i64 ports_x)) && true)) _ h hp
  clear hq
  refine cond_both hp (fun hp => ?_) (fun hp => ?_)
  · replace h := h.sel [0, 0, 0, 0, 1, 1, 1, 0, 0] 0
    dsimp only [pickL, pickR, nthH, delH, dropH, List.cons_append, List.nil_append] at h
    exact ⟨rfl, rfl, rfl, rfl, rfl, hp, h⟩
  refine ⟨_, _, _, cellL h 7 2 rfl rfl rfl, ?_⟩
  refine cond_both hp (fun hp => ?_) (fun hp => ?_)
  · replace h := h.sel [0, 0, 0, 0, 1, 1, 1, 0, 0] 0
    dsimp only [pickL, pickR, nthH, delH, dropH, List.cons_append, List.nil_append] at h
    exact ⟨rfl, rfl, rfl, rfl, rfl, hp, h⟩
  refine cond_both hp (fun hp => ?_) (fun hp => ?_)
  · replace h := h.sel [0, 0, 0, 0, 1, 1, 1, 0, 0] 0
    dsimp only [pickL, pickR, nthH, delH, dropH, List.cons_append, List.nil_append] at h
    exact ⟨rfl, rfl, rfl, rfl, rfl, hp, h⟩
  refine ⟨_, _, _, cellL h 7 2 rfl rfl rfl, ?_⟩
  refine cond_both hp (fun hp => ?_) (fun hp => ?_)
  · replace h := h.sel [0, 0, 0, 0, 1, 1, 1, 0, 0] 0
    dsimp only [pickL, pickR, nthH, delH, dropH, List.cons_append, List.nil_append] at h
    exact ⟨rfl, rfl, rfl, rfl, rfl, hp, h⟩
  refine ⟨by decide, by decide, ?_⟩
  refine ⟨_, cellL h 5 0 rfl rfl rfl, ?_⟩
  refine cond_both hp (fun hp => ?_) (fun hp => ?_)
  · replace h := h.sel [0, 0, 0, 0, 1, 1, 1, 0, 0] 0
    dsimp only [pickL, pickR, nthH, delH, dropH, List.cons_append, List.nil_append] at h
    exact ⟨rfl, rfl, rfl, rfl, rfl, hp, h⟩
  refine ⟨by decide, by decide, ?_⟩
  refine ⟨_, cellL h 5 1 rfl rfl rfl, ?_⟩
  refine cond_both hp (fun hp => ?_) (fun hp => ?_)
  · replace h := h.sel [0, 0, 0, 0, 1, 1, 1, 0, 0] 0
    dsimp only [pickL, pickR, nthH, delH, dropH, List.cons_append, List.nil_append] at h
    exact ⟨rfl, rfl, rfl, rfl, rfl, hp, h⟩
  refine ⟨_, _, _, cellL h 7 2 rfl rfl rfl, ?_⟩
  obtain ⟨ia_1, ja_1, hp⟩ := hp
  obtain ⟨a_1, ha_1⟩ := rdAddr (hF_p_Hosts _ (h.drop 9)) rfl ia_1 ja_1
  refine ⟨a_1, ha_1, ia_1, ja_1, ?_⟩
  obtain ⟨x_1, hx_1, hc⟩ := rdCell (hF_p_Hosts _ (h.drop 9)) ha_1 rfl ia_1 ja_1
  replace hp := hp x_1 hx_1
  refine ⟨_, hc 1 _ rfl, ?_⟩
  replace h := h.sel [0, 0, 0, 0, 1, 1, 1, 0, 0] 0
  dsimp only [pickL, pickR, nthH, delH, dropH, List.cons_append, List.nil_append] at h
  exact ⟨rfl, rfl, rfl, rfl, rfl, hp, h⟩

/-! slices.SortFunc[[]embrasure/api.Binding,embrasure/api.Binding] (26) -/
def slices_SortFunc_sl_api_Binding_api_Binding_wp {σ1 : Type} (xs : List (Int × Int × Int × Int × Int × Int × Bool)) (s : σ1) (Y1 : (Int × Int × Int × Int × Int × Int × Bool) → (Int × Int × Int × Int × Int × Int × Bool) → σ1 → (Int → σ1 → Prop) → Prop) (K : List (Int × Int × Int × Int × Int × Int × Bool) → σ1 → Prop) : Prop := sortW xs s Y1 K
theorem slices_SortFunc_sl_api_Binding_api_Binding_ok {σ1 : Type} {A1 : σ1 → HP} {p_1 : Option Addr} {c_1 : Nat} {n_1 : Nat} {g1 : Nat} {fc1 : Array Value} {xs : List (Int × Int × Int × Int × Int × Int × Bool)} {s : σ1} {Y1 : (Int × Int × Int × Int × Int × Int × Bool) → (Int × Int × Int × Int × Int × Int × Bool) → σ1 → (Int → σ1 → Prop) → Prop} {FL : List HP} {w : World} {K : List (Int × Int × Int × Int × Int × Int × Bool) → σ1 → Prop} {R : Value → World → Prop}
  (hY1 : ∀ (x0 : (Int × Int × Int × Int × Int × Int × Bool)) (x1 : (Int × Int × Int × Int × Int × Int × Bool)) (s : σ1) (K : Int → σ1 → Prop) (FL2 : List HP) (w : World) (R : Value → World → Prop), (∀ w, Mem FL2 w → Mem FL w) → Mem (A1 s :: FL2) w → Y1 x0 x1 s K → (∀ (r : Int) (s : σ1) (w : World), Mem (A1 s :: FL2) w → K r s → R (Value.int .i64 r) w) → CalleeV Try.prog (Value.func (.func g1) #[] fc1) #[(Value.agg #[(Value.int .u32 x0.1), (Value.int .i64 x0.2.1), (Value.int .u32 x0.2.2.1), (Value.int .i64 x0.2.2.2.1), (Value.int .i64 x0.2.2.2.2.1), (Value.int .i64 x0.2.2.2.2.2.1), (Value.bool x0.2.2.2.2.2.2)]), (Value.agg #[(Value.int .u32 x1.1), (Value.int .i64 x1.2.1), (Value.int .u32 x1.2.2.1), (Value.int .i64 x1.2.2.2.1), (Value.int .i64 x1.2.2.2.2.1), (Value.int .i64 x1.2.2.2.2.2.1), (Value.bool x1.2.2.2.2.2.2)])] w R)
  (hn : n_1 = xs.length) (hg : hasBody Try.prog g1 = true) (he : ∀ args w, (callFunc g1 args).run Try.prog w = .ok (.enter g1 args) w) (hx : Exact (A1 s))
  (h : Mem (row enc79 79 7 p_1 c_1 xs :: A1 s :: FL) w) (hp : slices_SortFunc_sl_api_Binding_api_Binding_wp xs s Y1 K)
  (hR : ∀ (rs : List (Int × Int × Int × Int × Int × Int × Bool)) (s_1 : σ1) (w : World), xs.length = rs.length → Mem (row enc79 79 7 p_1 c_1 rs :: A1 s_1 :: FL) w → K rs s_1 → R (Value.tuple #[]) w) :
  CallV Try.prog 26 #[(Value.slice p_1 n_1 c_1), (Value.func (.func g1) #[] fc1)] w R :=
  sortL (ρ := lays26_ren) lays26 Try.isAgg79 Try.sizeOf79 encL79 (fun x v hv => by simp only [enc79, List.mem_cons, List.not_mem_nil, or_false] at hv; rcases hv with rfl | rfl | rfl | rfl | rfl | rfl | rfl <;> rfl) hg he hx hY1 hn h hp (fun rs s w hl => hR rs s w hl.symm)

/-! cmp.isNaN[int] (41) -/
def cmp_isNaN_int_wp (x_1 : Int) (K : Bool → Prop) : Prop :=
  K ((x_1 : Int) != x_1)
theorem cmp_isNaN_int_ok {x_1 : Int} {FL : List HP} {w : World} {K : Bool → Prop} {R : Value → World → Prop}
  (h : Mem (FL) w) (hp : cmp_isNaN_int_wp x_1 K)
  (hR : ∀ (r : Bool) (w : World), Mem (FL) w → K r → R (Value.bool r) w) :
  CallV Try.prog 41 #[(Value.int .i64 x_1)] w R := by
  refine cmp_isNaN_int_call ?_
  unfold cmp_isNaN_int
  unfold cmp_isNaN_int_wp at hp
  exact hR ((x_1 : Int) != x_1) _ h hp

/-! cmp.Compare[int] (28) -/
def cmp_Compare_int_wp (x_1 : Int) (y : Int) (K : Int → Prop) : Prop :=
  cmp_isNaN_int_wp x_1 (fun (r : Bool) => cmp_isNaN_int_wp y (fun (r_1 : Bool) => cond r (cond r_1 (K 0) (K (-1))) (cond r_1 (K 1) (cond (decide ((x_1 : Int) < y)) (K (-1)) (cond (decide ((x_1 : Int) > y)) (K 1) (K 0))))))
theorem cmp_Compare_int_ok {x_1 : Int} {y : Int} {FL : List HP} {w : World} {K : Int → Prop} {R : Value → World → Prop}
  (h : Mem (FL) w) (hp : cmp_Compare_int_wp x_1 y K)
  (hR : ∀ (r : Int) (w : World), Mem (FL) w → K r → R (Value.int .i64 r) w) :
  CallV Try.prog 28 #[(Value.int .i64 x_1), (Value.int .i64 y)] w R := by
  refine cmp_Compare_int_call ?_
  unfold cmp_Compare_int
  unfold cmp_Compare_int_wp at hp
  refine cmp_isNaN_int_ok h hp ?_
  intro r w h hp
  refine ⟨_, rfl, ?_⟩
  refine cmp_isNaN_int_ok h hp ?_
  intro r_1 w h hp
  refine ⟨_, rfl, ?_⟩
  refine cond_both hp (fun hp => ?_) (fun hp => ?_)
  · refine cond_both hp (fun hp => ?_) (fun hp => ?_)
    · exact hR 0 _ h hp
    exact hR (-1) _ h hp
  refine cond_both hp (fun hp => ?_) (fun hp => ?_)
  · exact hR 1 _ h hp
  refine cond_both hp (fun hp => ?_) (fun hp => ?_)
  · exact hR (-1) _ h hp
  refine cond_both hp (fun hp => ?_) (fun hp => ?_)
  · exact hR 1 _ h hp
  exact hR 0 _ h hp

/-! (*embrasure/nat.Nat).All$1 (27) -/
def nat_Nat_All_c1_wp (a_In : Int) (a_In_1 : Int) (a_To : Int) (a_To_1 : Int) (a_Port : Int) (a_Until : Int) (a_Asked : Bool) (b_In : Int) (b_In_1 : Int) (b_To : Int) (b_To_1 : Int) (b_Port : Int) (b_Until : Int) (b_Asked : Bool) (K : Int → Prop) : Prop :=
  cmp_Compare_int_wp a_Port b_Port (fun (r : Int) => K r)
theorem nat_Nat_All_c1_ok {a_In : Int} {a_In_1 : Int} {a_To : Int} {a_To_1 : Int} {a_Port : Int} {a_Until : Int} {a_Asked : Bool} {b_In : Int} {b_In_1 : Int} {b_To : Int} {b_To_1 : Int} {b_Port : Int} {b_Until : Int} {b_Asked : Bool} {FL : List HP} {w : World} {K : Int → Prop} {R : Value → World → Prop}
  (h : Mem (FL) w) (hp : nat_Nat_All_c1_wp a_In a_In_1 a_To a_To_1 a_Port a_Until a_Asked b_In b_In_1 b_To b_To_1 b_Port b_Until b_Asked K)
  (hR : ∀ (r : Int) (w : World), Mem (FL) w → K r → R (Value.int .i64 r) w) :
  CallV Try.prog 27 #[(Value.agg #[(Value.int .u32 a_In), (Value.int .i64 a_In_1), (Value.int .u32 a_To), (Value.int .i64 a_To_1), (Value.int .i64 a_Port), (Value.int .i64 a_Until), (Value.bool a_Asked)]), (Value.agg #[(Value.int .u32 b_In), (Value.int .i64 b_In_1), (Value.int .u32 b_To), (Value.int .i64 b_To_1), (Value.int .i64 b_Port), (Value.int .i64 b_Until), (Value.bool b_Asked)])] w R := by
  refine nat_Nat_All_c1_call ?_
  unfold nat_Nat_All_c1
  unfold nat_Nat_All_c1_wp at hp
  refine newL (o := [(Value.int .u32 a_In), (Value.int .i64 a_In_1), (Value.int .u32 a_To), (Value.int .i64 a_To_1), (Value.int .i64 a_Port), (Value.int .i64 a_Until), (Value.bool a_Asked)]) h ?_
  intro b_1 w h
  refine newL (o := [(Value.int .u32 b_In), (Value.int .i64 b_In_1), (Value.int .u32 b_To), (Value.int .i64 b_To_1), (Value.int .i64 b_Port), (Value.int .i64 b_Until), (Value.bool b_Asked)]) h ?_
  intro b_2 w h
  refine ⟨_, cellL h 1 4 rfl rfl rfl, ?_⟩
  refine ⟨_, cellL h 0 4 rfl rfl rfl, ?_⟩
  refine cmp_Compare_int_ok h hp ?_
  intro r w h hp
  refine ⟨_, rfl, ?_⟩
  replace h := h.sel [] 2
  dsimp only [pickL, pickR, nthH, delH, dropH, List.cons_append, List.nil_append] at h
  exact hR r _ h hp

/-! (*embrasure/nat.Nat).All (12) -/
def nat_Nat_All_wp (box : Int) (box_1 : Int) (box_2 : Int) (box_3 : Int) (box_4 : Int) (box_5 : Int) (box_6 : Int) (list : List (Option Nat)) (now : Int) (now_1 : Int) (m_1 : List (Nat × (Int × Int × Int × Int × Int × Int × Bool × (List (Int × Int))))) (K : List (Int × Int × Int × Int × Int × Int × Bool) → List (Option Nat) → Int → List (Nat × (Int × Int × Int × Int × Int × Int × Bool × (List (Int × Int)))) → Prop) : Prop :=
  nat_Nat_on_wp box box_1 box_2 box_3 box_4 box_5 box_6 list now now_1 m_1 (fun (r : Bool) (list_2 : List (Option Nat)) (now_3 : Int) => cond (!r) (K ([] : List (Int × Int × Int × Int × Int × Int × Bool)) list_2 now_3 m_1) (joinP2 (fun (out : List (Int × Int × Int × Int × Int × Int × Bool)) (m_3 : List (Nat × (Int × Int × Int × Int × Int × Int × Bool × (List (Int × Int))))) => slices_SortFunc_sl_api_Binding_api_Binding_wp out () (fun x_3 x_4 s K_1 => nat_Nat_All_c1_wp x_3.1 x_3.2.1 x_3.2.2.1 x_3.2.2.2.1 x_3.2.2.2.2.1 x_3.2.2.2.2.2.1 x_3.2.2.2.2.2.2 x_4.1 x_4.2.1 x_4.2.2.1 x_4.2.2.2.1 x_4.2.2.2.2.1 x_4.2.2.2.2.2.1 x_4.2.2.2.2.2.2 (fun (r : Int) => K_1 r s)) (fun (rs : List (Int × Int × Int × Int × Int × Int × Bool)) (s_1 : (Unit)) => K rs list_2 now_3 m_3)) (fun (Q : List (Int × Int × Int × Int × Int × Int × Bool) → List (Nat × (Int × Int × Int × Int × Int × Int × Bool × (List (Int × Int)))) → Prop) => ∃ (I : Nat → List (Int × Int × Int × Int × Int × Int × Bool) → Int → List (Nat × (Int × Int × Int × Int × Int × Int × Bool × (List (Int × Int)))) → Prop), (∃ (n_5 : Nat), I n_5 ([] : List (Int × Int × Int × Int × Int × Int × Bool)) 0 m_1) ∧ ∀ (n_3 : Nat) (out_1 : List (Int × Int × Int × Int × Int × Int × Bool)) (t17 : Int) (m_4 : List (Nat × (Int × Int × Int × Int × Int × Int × Bool × (List (Int × Int))))), I n_3 out_1 t17 m_4 → (cond (decide ((t17 : Int) < ((list_2.length : Nat) : Int))) (0 ≤ (t17 : Int) ∧ (t17 : Int) < ((list_2.length : Nat) : Int) ∧ (∀ (x_1 : Option Nat), list_2[Int.toNat t17]? = some x_1 → (∃ (b_2 : Nat), x_1 = some b_2 ∧ (∃ (x_2 : Int × Int × Int × Int × Int × Int × Bool × (List (Int × Int))), getS m_4 b_2 = some x_2 ∧ ((out_1.length + [(x_2.1, x_2.2.1, x_2.2.2.1, x_2.2.2.2.1, x_2.2.2.2.2.1, x_2.2.2.2.2.2.1, x_2.2.2.2.2.2.2.1)].length) * 56 ≤ 140737488355328 ∧ (∃ (n_4 : Nat), n_4 < n_3 ∧ I n_4 (out_1 ++ [(x_2.1, x_2.2.1, x_2.2.2.1, x_2.2.2.2.1, x_2.2.2.2.2.1, x_2.2.2.2.2.2.1, x_2.2.2.2.2.2.2.1)]) (IntKind.wrap .i64 (t17 + 1)) (putS m_4 b_2 x_2))))))) (Q out_1 m_4)))))
theorem nat_Nat_All_ok {b_1 : Nat} {p_1 : Option Addr} {c_1 : Nat} {hd : Nat → Option Addr × Nat} {box : Int} {box_1 : Int} {box_2 : Int} {box_3 : Int} {box_4 : Int} {box_5 : Int} {box_6 : Int} {list : List (Option Nat)} {now : Int} {now_1 : Int} {m_1 : List (Nat × (Int × Int × Int × Int × Int × Int × Bool × (List (Int × Int))))} {FL : List HP} {w : World} {K : List (Int × Int × Int × Int × Int × Int × Bool) → List (Option Nat) → Int → List (Nat × (Int × Int × Int × Int × Int × Int × Bool × (List (Int × Int)))) → Prop} {R : Value → World → Prop}
  (h : Mem (cel b_1 76 [(Value.int .u32 box), (Value.int .i64 box_1), (Value.int .i64 box_2), (Value.int .i64 box_3), (Value.int .i64 box_4), (Value.int .i64 box_5), (Value.int .i64 box_6), (Value.slice p_1 list.length c_1), (Value.int .i64 now)] :: row enc77 77 1 p_1 c_1 list :: stoP stoE82 hd m_1 :: FL) w) (hp : nat_Nat_All_wp box box_1 box_2 box_3 box_4 box_5 box_6 list now now_1 m_1 K)
  (hR : ∀ (rs : List (Int × Int × Int × Int × Int × Int × Bool)) (list_1 : List (Option Nat)) (now_2 : Int) (m_2 : List (Nat × (Int × Int × Int × Int × Int × Int × Bool × (List (Int × Int))))) (p_3 : Option Addr) (n_2 : Nat) (c_3 : Nat) (p_2 : Option Addr) (n_1 : Nat) (c_2 : Nat) (hd_1 : Nat → Option Addr × Nat) (w : World), n_2 = rs.length → n_1 = list_1.length → Mem (row enc79 79 7 p_3 c_3 rs :: cel b_1 76 [(Value.int .u32 box), (Value.int .i64 box_1), (Value.int .i64 box_2), (Value.int .i64 box_3), (Value.int .i64 box_4), (Value.int .i64 box_5), (Value.int .i64 box_6), (Value.slice p_2 n_1 c_2), (Value.int .i64 now_2)] :: row enc77 77 1 p_2 c_2 list_1 :: stoP stoE82 hd_1 m_2 :: FL) w → K rs list_1 now_2 m_2 → R (Value.slice p_3 n_2 c_3) w) :
  CallV Try.prog 12 #[(Value.pointer (some (Addr.mk b_1 0 none))), (Value.int .i64 now_1)] w R := by
  refine nat_Nat_All_call ?_
  unfold nat_Nat_All
  unfold nat_Nat_All_wp at hp
  have cpp_1 := rowCap h 1 rfl
  refine nat_Nat_on_ok h hp ?_
  rintro r list_2 now_3 p_3 n_2 c_3 w rfl h hp
  have cpp_3 := rowCap h 1 rfl
  refine ⟨_, rfl, ?_⟩
  refine cond_both hp (fun hp => ?_) (fun hp => ?_)
  · replace h := rowNil enc79 79 7 h
    exact hR ([] : List (Int × Int × Int × Int × Int × Int × Bool)) list_2 now_3 m_1 (none ) 0 0 p_3 list_2.length c_3 hd _ rfl rfl h hp
  obtain ⟨Q, hq, hp⟩ := hp
  refine ⟨fun out5p out5l out5c w => ∃ (out : List (Int × Int × Int × Int × Int × Int × Bool)), ∃ (m_3 : List (Nat × (Int × Int × Int × Int × Int × Int × Bool × (List (Int × Int))))), ∃ (hd_2 : Nat → Option Addr × Nat), out5l = out.length ∧ Q out m_3 ∧ Mem (cel b_1 76 [(Value.int .u32 box), (Value.int .i64 box_1), (Value.int .i64 box_2), (Value.int .i64 box_3), (Value.int .i64 box_4), (Value.int .i64 box_5), (Value.int .i64 box_6), (Value.slice p_3 list_2.length c_3), (Value.int .i64 now_3)] :: row enc77 77 1 p_3 c_3 list_2 :: stoP stoE82 hd_2 m_3 :: row enc79 79 7 out5p out5c out :: FL) w, ?_, ?_⟩
  · rintro out5p out5l out5c w ⟨out, m_3, hd_2, rfl, hp, h⟩
    replace hp := hq out m_3 hp
    unfold nat_Nat_All_j1
    have cpout5p := rowCap h 3 rfl
    replace h : Mem ((fun (_ : Unit) => HL []) () :: cel b_1 76 [(Value.int .u32 box), (Value.int .i64 box_1), (Value.int .i64 box_2), (Value.int .i64 box_3), (Value.int .i64 box_4), (Value.int .i64 box_5), (Value.int .i64 box_6), (Value.slice p_3 list_2.length c_3), (Value.int .i64 now_3)] :: row enc77 77 1 p_3 c_3 list_2 :: stoP stoE82 hd_2 m_3 :: row enc79 79 7 out5p out5c out :: FL) _ := h.pack 0 [] rfl
    replace h := h.pick [4, 0]
    dsimp only [pickL, pickR, nthH, delH, dropH, List.cons_append, List.nil_append] at h
    have hSr82 := stoRo82 (h.drop 2) 2 rfl
    refine slices_SortFunc_sl_api_Binding_api_Binding_ok (FL := cel b_1 76 [(Value.int .u32 box), (Value.int .i64 box_1), (Value.int .i64 box_2), (Value.int .i64 box_3), (Value.int .i64 box_4), (Value.int .i64 box_5), (Value.int .i64 box_6), (Value.slice p_3 list_2.length c_3), (Value.int .i64 now_3)] :: row enc77 77 1 p_3 c_3 list_2 :: stoP stoE82 hd_2 m_3 :: FL) (A1 := (fun (_ : Unit) => HL [])) (Y1 := (fun x_3 x_4 s K_1 => nat_Nat_All_c1_wp x_3.1 x_3.2.1 x_3.2.2.1 x_3.2.2.2.1 x_3.2.2.2.2.1 x_3.2.2.2.2.2.1 x_3.2.2.2.2.2.2 x_4.1 x_4.2.1 x_4.2.2.1 x_4.2.2.2.1 x_4.2.2.2.2.1 x_4.2.2.2.2.2.1 x_4.2.2.2.2.2.2 (fun (r : Int) => K_1 r s))) (σ1 := Unit) (s := ()) ?_ rfl (by kernel_rfl) (enters_of Try.func27 (by kernel_rfl) rfl) (by repeat (first | exact exact_nil | refine exact_cons (exact_cel _ _ _) ?_)) h hp ?_
    · intro x_3 x_4 s K FL2 w R hx h hp hR
      replace h := h.unpack
      dsimp only [pickL, pickR, nthH, delH, dropH, List.cons_append, List.nil_append] at h
      refine calleeFn (by kernel_rfl) ?_
      refine nat_Nat_All_c1_ok h hp ?_
      intro r w h hp
      exact hR r s _ (h.pack 0 [] rfl) hp
    rintro rs s_1 w hl_rs h hp
    replace h := h.pick [1]
    dsimp only [pickL, pickR, nthH, delH, dropH, List.cons_append, List.nil_append] at h
    replace h := h.unpack
    dsimp only [pickL, pickR, nthH, delH, dropH, List.cons_append, List.nil_append] at h
    refine ⟨rfl, ?_⟩
    exact hR rs list_2 now_3 m_3 out5p out.length out5c p_3 list_2.length c_3 hd_2 _ hl_rs rfl h hp
  clear hq
  refine ⟨_, rfl, ?_⟩
  refine ⟨_, _, _, cellL h 0 7 rfl rfl rfl, ?_⟩
  obtain ⟨I, ⟨n_5, h0⟩, hq⟩ := hp
  replace h := rowNil enc79 79 7 h
  replace h := h.sel [1, 1, 1, 0] 0
  dsimp only [pickL, pickR, nthH, delH, dropH, List.cons_append, List.nil_append] at h
  refine ⟨fun n_3 out5_1p out5_1l out5_1c t15p t15l t15c t16 t17 w => ∃ (out_1 : List (Int × Int × Int × Int × Int × Int × Bool)), ∃ (m_4 : List (Nat × (Int × Int × Int × Int × Int × Int × Bool × (List (Int × Int))))), ∃ (hd_3 : Nat → Option Addr × Nat), p_3 = t15p ∧ list_2.length = t15l ∧ c_3 = t15c ∧ ((list_2.length : Nat) : Int) = t16 ∧ out5_1l = out_1.length ∧ I n_3 out_1 t17 m_4 ∧ Mem (cel b_1 76 [(Value.int .u32 box), (Value.int .i64 box_1), (Value.int .i64 box_2), (Value.int .i64 box_3), (Value.int .i64 box_4), (Value.int .i64 box_5), (Value.int .i64 box_6), (Value.slice p_3 list_2.length c_3), (Value.int .i64 now_3)] :: row enc77 77 1 p_3 c_3 list_2 :: stoP stoE82 hd_3 m_4 :: row enc79 79 7 out5_1p out5_1c out_1 :: FL) w, ⟨n_5, ([] : List (Int × Int × Int × Int × Int × Int × Bool)), m_1, hd, rfl, rfl, rfl, rfl, rfl, h0, h⟩, ?_⟩
  clear h0 h
  rintro n_3 out5_1p out5_1l out5_1c t15p t15l t15c t16 t17 w ⟨out_1, m_4, hd_3, rfl, rfl, rfl, rfl, rfl, hp, h⟩
  replace hp := hq n_3 out_1 t17 m_4 hp
  clear hq
  unfold nat_Nat_All_l2
  have cpout5_1p := rowCap h 3 rfl
  refine cond_both' hp (fun hp => ?_) (fun hp => ?_)
  · exact ⟨out_1, m_4, hd_3, rfl, hp, h⟩
  obtain ⟨ia_1, ja_1, hp⟩ := hp
  obtain ⟨a_1, ha_1⟩ := rdAddr (rowRd h 1 encL77 rfl) rfl ia_1 ja_1
  refine ⟨a_1, ha_1, ia_1, ja_1, ?_⟩
  obtain ⟨x_1, hx_1, hc⟩ := rdCell0 (rowRd h 1 encL77 rfl) ha_1 rfl ia_1 ja_1
  replace hp := hp x_1 hx_1
  refine ⟨_, hc _ rfl, ?_⟩
  obtain ⟨b_2, hb_2, hp⟩ := hp
  refine ⟨_, pnSome hb_2, ?_⟩
  obtain ⟨x_2, hx_2, hp⟩ := hp
  replace h := stoOpen stoX82 h 2 rfl hx_2
  dsimp only [setH] at h
  obtain ⟨p_5, c_4, hux_2⟩ : ∃ p_5 c_4, hd_3 b_2 = (p_5, c_4) := ⟨_, _, rfl⟩
  rw [hux_2] at h
  replace h : Mem (cel b_2 82 [(Value.int .u32 x_2.1), (Value.int .i64 x_2.2.1), (Value.int .u32 x_2.2.2.1), (Value.int .i64 x_2.2.2.2.1), (Value.int .i64 x_2.2.2.2.2.1), (Value.int .i64 x_2.2.2.2.2.2.1), (Value.bool x_2.2.2.2.2.2.2.1), (Value.slice p_5 x_2.2.2.2.2.2.2.2.length c_4)] :: row enc36 36 2 p_5 c_4 x_2.2.2.2.2.2.2.2 :: cel b_1 76 [(Value.int .u32 box), (Value.int .i64 box_1), (Value.int .i64 box_2), (Value.int .i64 box_3), (Value.int .i64 box_4), (Value.int .i64 box_5), (Value.int .i64 box_6), (Value.slice p_3 list_2.length c_3), (Value.int .i64 now_3)] :: row enc77 77 1 p_3 c_3 list_2 :: stoP stoE82 hd_3 (delS m_4 b_2) :: row enc79 79 7 out5_1p out5_1c out_1 :: FL) _ := h.unpack
  have cpp_5 := rowCap h 1 rfl
  refine ⟨_, cellL h 0 0 rfl rfl rfl, _, cellL h 0 1 rfl rfl rfl, _, cellL h 0 2 rfl rfl rfl, _, cellL h 0 3 rfl rfl rfl, _, cellL h 0 4 rfl rfl rfl, _, cellL h 0 5 rfl rfl rfl, _, cellL h 0 6 rfl rfl rfl, ?_⟩
  refine newL (o := [(Value.int .u32 x_2.1), (Value.int .i64 x_2.2.1), (Value.int .u32 x_2.2.2.1), (Value.int .i64 x_2.2.2.2.1), (Value.int .i64 x_2.2.2.2.2.1), (Value.int .i64 x_2.2.2.2.2.2.1), (Value.bool x_2.2.2.2.2.2.2.1)]) h ?_
  intro b_3 w h
  have sr := (celRd h 0 encL79 rfl [(x_2.1, x_2.2.1, x_2.2.2.1, x_2.2.2.2.1, x_2.2.2.2.2.1, x_2.2.2.2.2.2.1, x_2.2.2.2.2.2.2.1)] rfl)
  obtain ⟨hb, hp⟩ := hp
  refine appendL slt49 und49 encL79 encO79 h 6 rfl rfl sr rfl hb ?_
  intro p_6 c_5 w h
  dsimp only [setH, setVs, setV] at h
  have cpp_6 := rowCap h 6 rfl
  refine ⟨_, _, _, rfl, ?_⟩
  replace h := h.pick [1, 1]
  dsimp only [pickL, pickR, nthH, delH, dropH, List.cons_append, List.nil_append] at h
  replace h : Mem (stoE82 (p_5, c_4) b_2 x_2 :: cel b_3 79 [(Value.int .u32 x_2.1), (Value.int .i64 x_2.2.1), (Value.int .u32 x_2.2.2.1), (Value.int .i64 x_2.2.2.2.1), (Value.int .i64 x_2.2.2.2.2.1), (Value.int .i64 x_2.2.2.2.2.2.1), (Value.bool x_2.2.2.2.2.2.2.1)] :: cel b_1 76 [(Value.int .u32 box), (Value.int .i64 box_1), (Value.int .i64 box_2), (Value.int .i64 box_3), (Value.int .i64 box_4), (Value.int .i64 box_5), (Value.int .i64 box_6), (Value.slice p_3 list_2.length c_3), (Value.int .i64 now_3)] :: row enc77 77 1 p_3 c_3 list_2 :: stoP stoE82 hd_3 (delS m_4 b_2) :: row enc79 79 7 p_6 c_5 (out_1 ++ [(x_2.1, x_2.2.1, x_2.2.2.1, x_2.2.2.2.1, x_2.2.2.2.2.1, x_2.2.2.2.2.2.1, x_2.2.2.2.2.2.2.1)]) :: FL) _ := h.pack 2 [cel b_2 82 [(Value.int .u32 x_2.1), (Value.int .i64 x_2.2.1), (Value.int .u32 x_2.2.2.1), (Value.int .i64 x_2.2.2.2.1), (Value.int .i64 x_2.2.2.2.2.1), (Value.int .i64 x_2.2.2.2.2.2.1), (Value.bool x_2.2.2.2.2.2.2.1), (Value.slice p_5 x_2.2.2.2.2.2.2.2.length c_4)], row enc36 36 2 p_5 c_4 x_2.2.2.2.2.2.2.2] rfl
  replace h := stoClose h 3 (by simp only [List.length_cons]; omega) rfl
  dsimp only [setH] at h
  replace h := h.sel [1, 1, 1, 1] 1
  dsimp only [pickL, pickR, nthH, delH, dropH, List.cons_append, List.nil_append] at h
  obtain ⟨n_4, hn, hp⟩ := hp
  exact ⟨n_4, hn, (out_1 ++ [(x_2.1, x_2.2.1, x_2.2.2.1, x_2.2.2.2.1, x_2.2.2.2.2.1, x_2.2.2.2.2.2.1, x_2.2.2.2.2.2.2.1)]), (putS m_4 b_2 x_2), (updF hd_3 b_2 (p_5, c_4)), rfl, rfl, rfl, rfl, rfl, hp, h⟩

/-! embrasure/embrasurelaw14.WorldTime (5) -/
def embrasurelaw14_WorldTime_wp (p_Boxes : List (Int × Int × Int × Int × Int × Int × Int)) (p_Behind : List (Int)) (p_Hosts : List (Int × Int)) (g_Wait : Int) (g_Host : Int) (g_Port : Int) (g_To : Int) (g_To_1 : Int) (g_Back : Bool) (now : Int) (K : Bool → Prop) : Prop :=
  embrasurelaw14_awake_wp (fun (r : Bool) => cond (!r) (K false) (embrasurelaw14_Small_wp p_Boxes p_Behind p_Hosts (fun (r_1 : Bool) => cond (!r_1) (K true) (world_New_wp p_Boxes p_Behind p_Hosts ([] : List (Nat × (Int × Int × Int × Int × Int × Int × Int × (List (Option Nat)) × Int))) (fun (r_2 : Int) (m_1 : List (Nat × (Int × Int × Int × Int × Int × Int × Int × (List (Option Nat)) × Int))) => K ((r_2 : Int) == 1)) (fun (r_3 : Int) (boxes : List (Option Nat)) (behind : List (Int)) (hosts : List (Int × Int)) (last : Int) (m_2 : List (Nat × (Int × Int × Int × Int × Int × Int × Int × (List (Option Nat)) × Int))) => joinP1 (fun (right9 : Bool) => world_World_Way_wp boxes behind hosts last now g_Host g_Port g_To g_To_1 m_2 ([] : List (Nat × (Int × Int × Int × Int × Int × Int × Bool × (List (Int × Int))))) (fun (r_4 : Int) (r_5 : Int) (r_6 : Int) (r_7 : Int) (r_8 : Int) (r_9 : Int) (last_1 : Int) (m_3 : List (Nat × (Int × Int × Int × Int × Int × Int × Int × (List (Option Nat)) × Int))) (m_4 : List (Nat × (Int × Int × Int × Int × Int × Int × Bool × (List (Int × Int))))) => cond right9 (K ((r_9 : Int) != 1)) (joinP2 (fun (m_5 : List (Nat × (Int × Int × Int × Int × Int × Int × Int × (List (Option Nat)) × Int))) (m_6 : List (Nat × (Int × Int × Int × Int × Int × Int × Bool × (List (Int × Int))))) => cond ((r_9 : Int) == 1) (cond ((r_4 : Int) == 0) (cond (((r_5 : Int) == 0) && (((r_6 : Int) == 0) && true)) (K (((r_7 : Int) == 0) && (((r_8 : Int) == 0) && true))) (K false)) (K false)) (K false)) (fun (Q_1 : List (Nat × (Int × Int × Int × Int × Int × Int × Int × (List (Option Nat)) × Int)) → List (Nat × (Int × Int × Int × Int × Int × Int × Bool × (List (Int × Int)))) → Prop) => ∃ (I : Nat → Int → List (Nat × (Int × Int × Int × Int × Int × Int × Int × (List (Option Nat)) × Int)) → List (Nat × (Int × Int × Int × Int × Int × Int × Bool × (List (Int × Int)))) → Prop), (∃ (n_11 : Nat), I n_11 0 m_3 m_4) ∧ ∀ (n_7 : Nat) (i14 : Int) (m_7 : List (Nat × (Int × Int × Int × Int × Int × Int × Int × (List (Option Nat)) × Int))) (m_8 : List (Nat × (Int × Int × Int × Int × Int × Int × Bool × (List (Int × Int))))), I n_7 i14 m_7 m_8 → (cond (decide ((i14 : Int) < ((p_Boxes.length : Nat) : Int))) (world_World_Box_wp boxes last_1 i14 (False) (fun (r_10 : Option Nat) => ∃ (b_6 : Nat), r_10 = some b_6 ∧ (∃ (x_1 : Int × Int × Int × Int × Int × Int × Int × (List (Option Nat)) × Int), getS m_7 b_6 = some x_1 ∧ (nat_Nat_All_wp x_1.1 x_1.2.1 x_1.2.2.1 x_1.2.2.2.1 x_1.2.2.2.2.1 x_1.2.2.2.2.2.1 x_1.2.2.2.2.2.2.1 x_1.2.2.2.2.2.2.2.1 x_1.2.2.2.2.2.2.2.2 1099511627776 m_8 (fun (rs : List (Int × Int × Int × Int × Int × Int × Bool)) (list : List (Option Nat)) (now_1 : Int) (m_9 : List (Nat × (Int × Int × Int × Int × Int × Int × Bool × (List (Int × Int))))) => cond ((((rs.length : Nat) : Int) : Int) != 0) (K false) (∃ (n_10 : Nat), n_10 < n_7 ∧ I n_10 (IntKind.wrap .i64 (i14 + 1)) (putS m_7 b_6 (x_1.1, x_1.2.1, x_1.2.2.1, x_1.2.2.2.1, x_1.2.2.2.2.1, x_1.2.2.2.2.2.1, x_1.2.2.2.2.2.2.1, list, now_1)) m_9)))))) (Q_1 m_7 m_8)))))) (fun (Q : Bool → Prop) => cond (decide ((now : Int) ≥ 0)) (cond (decide ((now : Int) ≤ 1099511627776)) (cond (decide ((g_Host : Int) ≥ 0)) (cond (decide ((g_Host : Int) < ((p_Hosts.length : Nat) : Int))) (cond (decide ((g_Port : Int) ≥ 1)) (cond (decide ((g_Port : Int) ≤ 65535)) (cond ((g_To : Int) != 0) (cond (decide ((g_To_1 : Int) ≥ 1)) (Q (decide ((g_To_1 : Int) ≤ 65535))) (Q false)) (Q false)) (Q false)) (Q false)) (Q false)) (Q false)) (Q false)) (Q false)))))))
theorem embrasurelaw14_WorldTime_ok {p_1 : Option Addr} {n_1 : Nat} {c_1 : Nat} {p_2 : Option Addr} {n_2 : Nat} {c_2 : Nat} {p_3 : Option Addr} {n_3 : Nat} {c_3 : Nat} {p_Boxes : List (Int × Int × Int × Int × Int × Int × Int)} {p_Behind : List (Int)} {p_Hosts : List (Int × Int)} {g_Wait : Int} {g_Host : Int} {g_Port : Int} {g_To : Int} {g_To_1 : Int} {g_Back : Bool} {now : Int} {FL : List HP} {w : World} {K : Bool → Prop} {R : Value → World → Prop}
  (hF_p_Boxes : ∀ w, Mem FL w → Rd w 7 p_1 enc55 p_Boxes) (hl_p_Boxes : n_1 = p_Boxes.length) (hc_p_Boxes : n_1 ≤ c_1)
  (hF_p_Behind : ∀ w, Mem FL w → Rd w 1 p_2 enc3 p_Behind) (hl_p_Behind : n_2 = p_Behind.length) (hc_p_Behind : n_2 ≤ c_2)
  (hF_p_Hosts : ∀ w, Mem FL w → Rd w 2 p_3 enc42 p_Hosts) (hl_p_Hosts : n_3 = p_Hosts.length) (hc_p_Hosts : n_3 ≤ c_3)
  (h : Mem (FL) w) (hp : embrasurelaw14_WorldTime_wp p_Boxes p_Behind p_Hosts g_Wait g_Host g_Port g_To g_To_1 g_Back now K)
  (hR : ∀ (r : Bool) (w : World), Mem (FL) w → K r → R (Value.bool r) w) :
  CallV Try.prog 5 #[(Value.agg #[(Value.slice p_1 n_1 c_1), (Value.slice p_2 n_2 c_2), (Value.slice p_3 n_3 c_3)]), (Value.agg #[(Value.int .i64 g_Wait), (Value.int .i64 g_Host), (Value.int .i64 g_Port), (Value.int .u32 g_To), (Value.int .i64 g_To_1), (Value.bool g_Back)]), (Value.int .i64 now)] w R := by
  refine embrasurelaw14_WorldTime_call ?_
  unfold embrasurelaw14_WorldTime
  unfold embrasurelaw14_WorldTime_wp at hp
  subst hl_p_Boxes
  subst hl_p_Behind
  subst hl_p_Hosts
  replace h := stoNil stoE76 (fun _ => default) h
  replace h := stoNil stoE82 (fun _ => default) h
  refine newL (o := [(Value.slice p_1 p_Boxes.length c_1), (Value.slice p_2 p_Behind.length c_2), (Value.slice p_3 p_Hosts.length c_3)]) h ?_
  intro b_1 w h
  refine newL (o := [(Value.int .i64 g_Wait), (Value.int .i64 g_Host), (Value.int .i64 g_Port), (Value.int .u32 g_To), (Value.int .i64 g_To_1), (Value.bool g_Back)]) h ?_
  intro b_2 w h
  refine embrasurelaw14_awake_ok h hp ?_
  intro r w h hp
  refine ⟨_, rfl, ?_⟩
  refine cond_both hp (fun hp => ?_) (fun hp => ?_)
  · replace h := h.sel [] 4
    dsimp only [pickL, pickR, nthH, delH, dropH, List.cons_append, List.nil_append] at h
    exact hR false _ h hp
  refine ⟨_, _, _, cellL h 1 0 rfl rfl rfl, _, _, _, cellL h 1 1 rfl rfl rfl, _, _, _, cellL h 1 2 rfl rfl rfl, ?_⟩
  refine embrasurelaw14_Small_ok (FL := cel b_2 38 [(Value.int .i64 g_Wait), (Value.int .i64 g_Host), (Value.int .i64 g_Port), (Value.int .u32 g_To), (Value.int .i64 g_To_1), (Value.bool g_Back)] :: cel b_1 26 [(Value.slice p_1 p_Boxes.length c_1), (Value.slice p_2 p_Behind.length c_2), (Value.slice p_3 p_Hosts.length c_3)] :: stoP stoE82 (fun _ => default) ([] : List (Nat × (Int × Int × Int × Int × Int × Int × Bool × (List (Int × Int))))) :: stoP stoE76 (fun _ => default) ([] : List (Nat × (Int × Int × Int × Int × Int × Int × Int × (List (Option Nat)) × Int))) :: FL) (fun w h => (hF_p_Boxes _ (h.drop 4))) rfl hc_p_Boxes (fun w h => (hF_p_Behind _ (h.drop 4))) rfl hc_p_Behind (fun w h => (hF_p_Hosts _ (h.drop 4))) rfl hc_p_Hosts h hp ?_
  intro r_1 w h hp
  refine ⟨_, rfl, ?_⟩
  refine cond_both hp (fun hp => ?_) (fun hp => ?_)
  · replace h := h.sel [] 4
    dsimp only [pickL, pickR, nthH, delH, dropH, List.cons_append, List.nil_append] at h
    exact hR true _ h hp
  refine ⟨_, _, _, cellL h 1 0 rfl rfl rfl, ?_⟩
  refine ⟨_, _, _, cellL h 1 1 rfl rfl rfl, ?_⟩
  refine ⟨_, _, _, cellL h 1 2 rfl rfl rfl, ?_⟩
  replace h := h.pick [3]
  dsimp only [pickL, pickR, nthH, delH, dropH, List.cons_append, List.nil_append] at h
  refine world_New_ok (FL := cel b_2 38 [(Value.int .i64 g_Wait), (Value.int .i64 g_Host), (Value.int .i64 g_Port), (Value.int .u32 g_To), (Value.int .i64 g_To_1), (Value.bool g_Back)] :: cel b_1 26 [(Value.slice p_1 p_Boxes.length c_1), (Value.slice p_2 p_Behind.length c_2), (Value.slice p_3 p_Hosts.length c_3)] :: stoP stoE82 (fun _ => default) ([] : List (Nat × (Int × Int × Int × Int × Int × Int × Bool × (List (Int × Int))))) :: FL) (fun w h => (hF_p_Boxes _ (h.drop 3))) rfl hc_p_Boxes (fun w h => (hF_p_Behind _ (h.drop 3))) rfl hc_p_Behind (fun w h => (hF_p_Hosts _ (h.drop 3))) rfl hc_p_Hosts h hp ?_ ?_
  · intro r_2 m_1 hd w h hp
    refine ⟨_, _, rfl, ?_⟩
    refine eqlPtrNN undP30 ?_
    refine ⟨_, rfl, ?_⟩
    refine cond_tt ?_
    replace h := h.sel [] 4
    dsimp only [pickL, pickR, nthH, delH, dropH, List.cons_append, List.nil_append] at h
    exact hR ((r_2 : Int) == 1) _ h hp
  rintro r_3 boxes behind hosts last m_2 b_3 p_4 n_4 c_4 p_5 n_5 c_5 p_6 n_6 c_6 hd_1 w rfl rfl rfl h hp
  have cpp_4 := rowCap h 1 rfl
  have cpp_5 := rowCap h 2 rfl
  have cpp_6 := rowCap h 3 rfl
  refine ⟨_, _, rfl, ?_⟩
  refine eqlPtrNil undP30 ?_
  refine ⟨_, rfl, ?_⟩
  refine cond_ff ?_
  obtain ⟨Q, hq, hp⟩ := hp
  refine ⟨fun now2 p3 g4 w7 right9 w => now = now2 ∧ (Addr.mk b_1 0 none) = p3 ∧ (Addr.mk b_2 0 none) = g4 ∧ (some (Addr.mk b_3 0 none)) = w7 ∧ Q right9 ∧ Mem (cel b_3 61 [(Value.slice p_4 boxes.length c_4), (Value.slice p_5 behind.length c_5), (Value.slice p_6 hosts.length c_6), (Value.int .i64 last)] :: row enc50 50 1 p_4 c_4 boxes :: row enc3 3 1 p_5 c_5 behind :: row enc42 42 2 p_6 c_6 hosts :: cel b_2 38 [(Value.int .i64 g_Wait), (Value.int .i64 g_Host), (Value.int .i64 g_Port), (Value.int .u32 g_To), (Value.int .i64 g_To_1), (Value.bool g_Back)] :: cel b_1 26 [(Value.slice p_1 p_Boxes.length c_1), (Value.slice p_2 p_Behind.length c_2), (Value.slice p_3 p_Hosts.length c_3)] :: stoP stoE76 hd_1 m_2 :: stoP stoE82 (fun _ => default) ([] : List (Nat × (Int × Int × Int × Int × Int × Int × Bool × (List (Int × Int))))) :: FL) w, ?_, ?_⟩
  · rintro now2 p3 g4 w7 right9 w ⟨rfl, rfl, rfl, rfl, hp, h⟩
    replace hp := hq right9 hp
    unfold embrasurelaw14_WorldTime_j1
    refine ⟨_, cellL h 4 1 rfl rfl rfl, ?_⟩
    refine ⟨_, cellL h 4 2 rfl rfl rfl, ?_⟩
    refine ⟨_, cellL h 4 3 rfl rfl rfl, _, cellL h 4 4 rfl rfl rfl, ?_⟩
    replace h := h.pick [0, 0, 0, 0, 2, 2]
    dsimp only [pickL, pickR, nthH, delH, dropH, List.cons_append, List.nil_append] at h
    refine world_World_Way_ok h hp ?_
    intro r_4 r_5 r_6 r_7 r_8 r_9 last_1 m_3 m_4 hd_2 hd_3 w h hp
    have cpp_4 := rowCap h 1 rfl
    have cpp_5 := rowCap h 2 rfl
    have cpp_6 := rowCap h 3 rfl
    refine ⟨_, _, _, _, _, _, rfl, ?_⟩
    refine newL (o := [(Value.int .u32 0), (Value.int .i64 0)]) h ?_
    intro b_4 w h
    refine newL (o := [(Value.int .u32 0), (Value.int .i64 0)]) h ?_
    intro b_5 w h
    refine storeL (ys := [(Value.int .u32 r_5), (Value.int .i64 r_6)]) h 1 0 rfl rfl rfl sz36 rfl rfl ?_
    intro w h
    dsimp only [setH, setVs, setV] at h
    refine storeL (ys := [(Value.int .u32 r_7), (Value.int .i64 r_8)]) h 0 0 rfl rfl rfl sz36 rfl rfl ?_
    intro w h
    dsimp only [setH, setVs, setV] at h
    refine cond_both hp (fun hp => ?_) (fun hp => ?_)
    · replace h := h.sel [] 10
      dsimp only [pickL, pickR, nthH, delH, dropH, List.cons_append, List.nil_append] at h
      exact hR ((r_9 : Int) != 1) _ h hp
    obtain ⟨Q_1, hq, hp⟩ := hp
    refine ⟨fun h10 from11 to12 f13 w => ∃ (m_5 : List (Nat × (Int × Int × Int × Int × Int × Int × Int × (List (Option Nat)) × Int))), ∃ (hd_4 : Nat → Option Addr × Nat), ∃ (m_6 : List (Nat × (Int × Int × Int × Int × Int × Int × Bool × (List (Int × Int))))), ∃ (hd_5 : Nat → Option Addr × Nat), r_4 = h10 ∧ (Addr.mk b_4 0 none) = from11 ∧ (Addr.mk b_5 0 none) = to12 ∧ r_9 = f13 ∧ Q_1 m_5 m_6 ∧ Mem (cel b_5 36 [(Value.int .u32 r_7), (Value.int .i64 r_8)] :: cel b_4 36 [(Value.int .u32 r_5), (Value.int .i64 r_6)] :: cel b_3 61 [(Value.slice p_4 boxes.length c_4), (Value.slice p_5 behind.length c_5), (Value.slice p_6 hosts.length c_6), (Value.int .i64 last_1)] :: row enc50 50 1 p_4 c_4 boxes :: row enc3 3 1 p_5 c_5 behind :: row enc42 42 2 p_6 c_6 hosts :: cel b_2 38 [(Value.int .i64 g_Wait), (Value.int .i64 g_Host), (Value.int .i64 g_Port), (Value.int .u32 g_To), (Value.int .i64 g_To_1), (Value.bool g_Back)] :: cel b_1 26 [(Value.slice p_1 p_Boxes.length c_1), (Value.slice p_2 p_Behind.length c_2), (Value.slice p_3 p_Hosts.length c_3)] :: stoP stoE76 hd_4 m_5 :: stoP stoE82 hd_5 m_6 :: FL) w, ?_, ?_⟩
    · rintro h10 from11 to12 f13 w ⟨m_5, hd_4, m_6, hd_5, rfl, rfl, rfl, rfl, hp, h⟩
      replace hp := hq m_5 m_6 hp
      unfold embrasurelaw14_WorldTime_j2
      refine cond_both' hp (fun hp => ?_) (fun hp => ?_)
      · replace h := h.sel [] 10
        dsimp only [pickL, pickR, nthH, delH, dropH, List.cons_append, List.nil_append] at h
        exact hR false _ h hp
      refine cond_both' hp (fun hp => ?_) (fun hp => ?_)
      · replace h := h.sel [] 10
        dsimp only [pickL, pickR, nthH, delH, dropH, List.cons_append, List.nil_append] at h
        exact hR false _ h hp
      refine ⟨_, cellL h 1 0 rfl rfl rfl, _, cellL h 1 1 rfl rfl rfl, ?_⟩
      refine eqlAgg (xs := [(Value.int .u32 r_5), (Value.int .i64 r_6)]) (ys := [(Value.int .u32 0), (Value.int .i64 0)]) eqG36 eqA36 (eqT36 r_5 r_6 0 0) ?_
      refine ⟨_, rfl, ?_⟩
      refine cond_both' hp (fun hp => ?_) (fun hp => ?_)
      · replace h := h.sel [] 10
        dsimp only [pickL, pickR, nthH, delH, dropH, List.cons_append, List.nil_append] at h
        exact hR false _ h hp
      refine ⟨_, cellL h 0 0 rfl rfl rfl, _, cellL h 0 1 rfl rfl rfl, ?_⟩
      refine eqlAgg (xs := [(Value.int .u32 r_7), (Value.int .i64 r_8)]) (ys := [(Value.int .u32 0), (Value.int .i64 0)]) eqG36 eqA36 (eqT36 r_7 r_8 0 0) ?_
      refine ⟨_, rfl, ?_⟩
      replace h := h.sel [] 10
      dsimp only [pickL, pickR, nthH, delH, dropH, List.cons_append, List.nil_append] at h
      exact hR (((r_7 : Int) == 0) && (((r_8 : Int) == 0) && true)) _ h hp
    clear hq
    obtain ⟨I, ⟨n_11, h0⟩, hq⟩ := hp
    replace h := h.sel [0, 0, 0, 0, 0, 0, 2, 2, 0, 0] 0
    dsimp only [pickL, pickR, nthH, delH, dropH, List.cons_append, List.nil_append] at h
    refine ⟨fun n_7 p3_1 w7_1 h10_1 from11_1 to12_1 f13_1 i14 w => ∃ (m_7 : List (Nat × (Int × Int × Int × Int × Int × Int × Int × (List (Option Nat)) × Int))), ∃ (hd_6 : Nat → Option Addr × Nat), ∃ (m_8 : List (Nat × (Int × Int × Int × Int × Int × Int × Bool × (List (Int × Int))))), ∃ (hd_7 : Nat → Option Addr × Nat), (Addr.mk b_1 0 none) = p3_1 ∧ (some (Addr.mk b_3 0 none)) = w7_1 ∧ r_4 = h10_1 ∧ (Addr.mk b_4 0 none) = from11_1 ∧ (Addr.mk b_5 0 none) = to12_1 ∧ r_9 = f13_1 ∧ I n_7 i14 m_7 m_8 ∧ Mem (cel b_5 36 [(Value.int .u32 r_7), (Value.int .i64 r_8)] :: cel b_4 36 [(Value.int .u32 r_5), (Value.int .i64 r_6)] :: cel b_3 61 [(Value.slice p_4 boxes.length c_4), (Value.slice p_5 behind.length c_5), (Value.slice p_6 hosts.length c_6), (Value.int .i64 last_1)] :: row enc50 50 1 p_4 c_4 boxes :: row enc3 3 1 p_5 c_5 behind :: row enc42 42 2 p_6 c_6 hosts :: cel b_2 38 [(Value.int .i64 g_Wait), (Value.int .i64 g_Host), (Value.int .i64 g_Port), (Value.int .u32 g_To), (Value.int .i64 g_To_1), (Value.bool g_Back)] :: cel b_1 26 [(Value.slice p_1 p_Boxes.length c_1), (Value.slice p_2 p_Behind.length c_2), (Value.slice p_3 p_Hosts.length c_3)] :: stoP stoE76 hd_6 m_7 :: stoP stoE82 hd_7 m_8 :: FL) w, ⟨n_11, m_3, hd_2, m_4, hd_3, rfl, rfl, rfl, rfl, rfl, rfl, h0, h⟩, ?_⟩
    clear h0 h
    rintro n_7 p3_1 w7_1 h10_1 from11_1 to12_1 f13_1 i14 w ⟨m_7, hd_6, m_8, hd_7, rfl, rfl, rfl, rfl, rfl, rfl, hp, h⟩
    replace hp := hq n_7 i14 m_7 m_8 hp
    clear hq
    unfold embrasurelaw14_WorldTime_l3
    refine ⟨_, _, _, cellL h 7 0 rfl rfl rfl, ?_⟩
    refine cond_both' hp (fun hp => ?_) (fun hp => ?_)
    · exact ⟨m_7, hd_6, m_8, hd_7, rfl, rfl, rfl, rfl, hp, h⟩
    replace h := h.pick [2, 2]
    dsimp only [pickL, pickR, nthH, delH, dropH, List.cons_append, List.nil_append] at h
    refine world_World_Box_ok h hp ?_ ?_
    · intro w h hp
      have cpp_4 := rowCap h 1 rfl
      refine ⟨_, rfl, ?_⟩
      exact hp.elim
    intro r_10 w h hp
    have cpp_4 := rowCap h 1 rfl
    refine ⟨_, rfl, ?_⟩
    obtain ⟨b_6, hb_6, hp⟩ := hp
    rw [pnSome hb_6]
    obtain ⟨x_1, hx_1, hp⟩ := hp
    replace h := stoOpen stoX76 h 8 rfl hx_1
    dsimp only [setH] at h
    obtain ⟨p_7, c_7, hux_1⟩ : ∃ p_7 c_7, hd_6 b_6 = (p_7, c_7) := ⟨_, _, rfl⟩
    rw [hux_1] at h
    replace h : Mem (cel b_6 76 [(Value.int .u32 x_1.1), (Value.int .i64 x_1.2.1), (Value.int .i64 x_1.2.2.1), (Value.int .i64 x_1.2.2.2.1), (Value.int .i64 x_1.2.2.2.2.1), (Value.int .i64 x_1.2.2.2.2.2.1), (Value.int .i64 x_1.2.2.2.2.2.2.1), (Value.slice p_7 x_1.2.2.2.2.2.2.2.1.length c_7), (Value.int .i64 x_1.2.2.2.2.2.2.2.2)] :: row enc77 77 1 p_7 c_7 x_1.2.2.2.2.2.2.2.1 :: cel b_3 61 [(Value.slice p_4 boxes.length c_4), (Value.slice p_5 behind.length c_5), (Value.slice p_6 hosts.length c_6), (Value.int .i64 last_1)] :: row enc50 50 1 p_4 c_4 boxes :: cel b_5 36 [(Value.int .u32 r_7), (Value.int .i64 r_8)] :: cel b_4 36 [(Value.int .u32 r_5), (Value.int .i64 r_6)] :: row enc3 3 1 p_5 c_5 behind :: row enc42 42 2 p_6 c_6 hosts :: cel b_2 38 [(Value.int .i64 g_Wait), (Value.int .i64 g_Host), (Value.int .i64 g_Port), (Value.int .u32 g_To), (Value.int .i64 g_To_1), (Value.bool g_Back)] :: cel b_1 26 [(Value.slice p_1 p_Boxes.length c_1), (Value.slice p_2 p_Behind.length c_2), (Value.slice p_3 p_Hosts.length c_3)] :: stoP stoE76 hd_6 (delS m_7 b_6) :: stoP stoE82 hd_7 m_8 :: FL) _ := h.unpack
    have cpp_7 := rowCap h 1 rfl
    replace h := h.pick [0, 0, 9]
    dsimp only [pickL, pickR, nthH, delH, dropH, List.cons_append, List.nil_append] at h
    refine nat_Nat_All_ok h hp ?_
    rintro rs list now_1 m_9 p_8 n_8 c_8 p_9 n_9 c_9 hd_8 w rfl rfl h hp
    have cpp_8 := rowCap h 0 rfl
    have cpp_9 := rowCap h 2 rfl
    refine ⟨_, _, _, rfl, ?_⟩
    refine cond_both hp (fun hp => ?_) (fun hp => ?_)
    · replace h := h.pick [1, 1]
      dsimp only [pickL, pickR, nthH, delH, dropH, List.cons_append, List.nil_append] at h
      replace h : Mem (stoE76 (p_9, c_9) b_6 (x_1.1, x_1.2.1, x_1.2.2.1, x_1.2.2.2.1, x_1.2.2.2.2.1, x_1.2.2.2.2.2.1, x_1.2.2.2.2.2.2.1, list, now_1) :: row enc79 79 7 p_8 c_8 rs :: stoP stoE82 hd_8 m_9 :: cel b_3 61 [(Value.slice p_4 boxes.length c_4), (Value.slice p_5 behind.length c_5), (Value.slice p_6 hosts.length c_6), (Value.int .i64 last_1)] :: row enc50 50 1 p_4 c_4 boxes :: cel b_5 36 [(Value.int .u32 r_7), (Value.int .i64 r_8)] :: cel b_4 36 [(Value.int .u32 r_5), (Value.int .i64 r_6)] :: row enc3 3 1 p_5 c_5 behind :: row enc42 42 2 p_6 c_6 hosts :: cel b_2 38 [(Value.int .i64 g_Wait), (Value.int .i64 g_Host), (Value.int .i64 g_Port), (Value.int .u32 g_To), (Value.int .i64 g_To_1), (Value.bool g_Back)] :: cel b_1 26 [(Value.slice p_1 p_Boxes.length c_1), (Value.slice p_2 p_Behind.length c_2), (Value.slice p_3 p_Hosts.length c_3)] :: stoP stoE76 hd_6 (delS m_7 b_6) :: FL) _ := h.pack 2 [cel b_6 76 [(Value.int .u32 x_1.1), (Value.int .i64 x_1.2.1), (Value.int .i64 x_1.2.2.1), (Value.int .i64 x_1.2.2.2.1), (Value.int .i64 x_1.2.2.2.2.1), (Value.int .i64 x_1.2.2.2.2.2.1), (Value.int .i64 x_1.2.2.2.2.2.2.1), (Value.slice p_9 list.length c_9), (Value.int .i64 now_1)], row enc77 77 1 p_9 c_9 list] rfl
      replace h := stoClose h 10 (by simp only [List.length_cons]; omega) rfl
      dsimp only [setH] at h
      replace h := h.sel [] 11
      dsimp only [pickL, pickR, nthH, delH, dropH, List.cons_append, List.nil_append] at h
      exact hR false _ h hp
    replace h := h.pick [1, 1]
    dsimp only [pickL, pickR, nthH, delH, dropH, List.cons_append, List.nil_append] at h
    replace h : Mem (stoE76 (p_9, c_9) b_6 (x_1.1, x_1.2.1, x_1.2.2.1, x_1.2.2.2.1, x_1.2.2.2.2.1, x_1.2.2.2.2.2.1, x_1.2.2.2.2.2.2.1, list, now_1) :: row enc79 79 7 p_8 c_8 rs :: stoP stoE82 hd_8 m_9 :: cel b_3 61 [(Value.slice p_4 boxes.length c_4), (Value.slice p_5 behind.length c_5), (Value.slice p_6 hosts.length c_6), (Value.int .i64 last_1)] :: row enc50 50 1 p_4 c_4 boxes :: cel b_5 36 [(Value.int .u32 r_7), (Value.int .i64 r_8)] :: cel b_4 36 [(Value.int .u32 r_5), (Value.int .i64 r_6)] :: row enc3 3 1 p_5 c_5 behind :: row enc42 42 2 p_6 c_6 hosts :: cel b_2 38 [(Value.int .i64 g_Wait), (Value.int .i64 g_Host), (Value.int .i64 g_Port), (Value.int .u32 g_To), (Value.int .i64 g_To_1), (Value.bool g_Back)] :: cel b_1 26 [(Value.slice p_1 p_Boxes.length c_1), (Value.slice p_2 p_Behind.length c_2), (Value.slice p_3 p_Hosts.length c_3)] :: stoP stoE76 hd_6 (delS m_7 b_6) :: FL) _ := h.pack 2 [cel b_6 76 [(Value.int .u32 x_1.1), (Value.int .i64 x_1.2.1), (Value.int .i64 x_1.2.2.1), (Value.int .i64 x_1.2.2.2.1), (Value.int .i64 x_1.2.2.2.2.1), (Value.int .i64 x_1.2.2.2.2.2.1), (Value.int .i64 x_1.2.2.2.2.2.2.1), (Value.slice p_9 list.length c_9), (Value.int .i64 now_1)], row enc77 77 1 p_9 c_9 list] rfl
    replace h := stoClose h 10 (by simp only [List.length_cons]; omega) rfl
    dsimp only [setH] at h
    replace h := h.sel [4, 4, 2, 2, 2, 2, 2, 2, 2, 1] 1
    dsimp only [pickL, pickR, nthH, delH, dropH, List.cons_append, List.nil_append] at h
    obtain ⟨n_10, hn, hp⟩ := hp
    exact ⟨n_10, hn, (putS m_7 b_6 (x_1.1, x_1.2.1, x_1.2.2.1, x_1.2.2.2.1, x_1.2.2.2.2.1, x_1.2.2.2.2.2.1, x_1.2.2.2.2.2.2.1, list, now_1)), (updF hd_6 b_6 (p_9, c_9)), m_9, hd_8, rfl, rfl, rfl, rfl, rfl, rfl, hp, h⟩
  clear hq
  refine cond_both' hp (fun hp => ?_) (fun hp => ?_)
  · replace h := h.sel [0, 0, 0, 0, 1, 1, 0, 0] 0
    dsimp only [pickL, pickR, nthH, delH, dropH, List.cons_append, List.nil_append] at h
    exact ⟨rfl, rfl, rfl, rfl, hp, h⟩
  refine cond_both' hp (fun hp => ?_) (fun hp => ?_)
  · replace h := h.sel [0, 0, 0, 0, 1, 1, 0, 0] 0
    dsimp only [pickL, pickR, nthH, delH, dropH, List.cons_append, List.nil_append] at h
    exact ⟨rfl, rfl, rfl, rfl, hp, h⟩
  refine ⟨_, cellL h 5 1 rfl rfl rfl, ?_⟩
  refine cond_both' hp (fun hp => ?_) (fun hp => ?_)
  · replace h := h.sel [0, 0, 0, 0, 1, 1, 0, 0] 0
    dsimp only [pickL, pickR, nthH, delH, dropH, List.cons_append, List.nil_append] at h
    exact ⟨rfl, rfl, rfl, rfl, hp, h⟩
  refine ⟨_, cellL h 5 1 rfl rfl rfl, ?_⟩
  refine ⟨_, _, _, cellL h 6 2 rfl rfl rfl, ?_⟩
  refine cond_both' hp (fun hp => ?_) (fun hp => ?_)
  · replace h := h.sel [0, 0, 0, 0, 1, 1, 0, 0] 0
    dsimp only [pickL, pickR, nthH, delH, dropH, List.cons_append, List.nil_append] at h
    exact ⟨rfl, rfl, rfl, rfl, hp, h⟩
  refine ⟨_, cellL h 5 2 rfl rfl rfl, ?_⟩
  refine cond_both' hp (fun hp => ?_) (fun hp => ?_)
  · replace h := h.sel [0, 0, 0, 0, 1, 1, 0, 0] 0
    dsimp only [pickL, pickR, nthH, delH, dropH, List.cons_append, List.nil_append] at h
    exact ⟨rfl, rfl, rfl, rfl, hp, h⟩
  refine ⟨_, cellL h 5 2 rfl rfl rfl, ?_⟩
  refine cond_both' hp (fun hp => ?_) (fun hp => ?_)
  · replace h := h.sel [0, 0, 0, 0, 1, 1, 0, 0] 0
    dsimp only [pickL, pickR, nthH, delH, dropH, List.cons_append, List.nil_append] at h
    exact ⟨rfl, rfl, rfl, rfl, hp, h⟩
  refine ⟨_, cellL h 5 3 rfl rfl rfl, ?_⟩
  refine cond_both' hp (fun hp => ?_) (fun hp => ?_)
  · replace h := h.sel [0, 0, 0, 0, 1, 1, 0, 0] 0
    dsimp only [pickL, pickR, nthH, delH, dropH, List.cons_append, List.nil_append] at h
    exact ⟨rfl, rfl, rfl, rfl, hp, h⟩
  refine ⟨_, cellL h 5 4 rfl rfl rfl, ?_⟩
  refine cond_both' hp (fun hp => ?_) (fun hp => ?_)
  · replace h := h.sel [0, 0, 0, 0, 1, 1, 0, 0] 0
    dsimp only [pickL, pickR, nthH, delH, dropH, List.cons_append, List.nil_append] at h
    exact ⟨rfl, rfl, rfl, rfl, hp, h⟩
  refine ⟨_, cellL h 5 4 rfl rfl rfl, ?_⟩
  replace h := h.sel [0, 0, 0, 0, 1, 1, 0, 0] 0
  dsimp only [pickL, pickR, nthH, delH, dropH, List.cons_append, List.nil_append] at h
  exact ⟨rfl, rfl, rfl, rfl, hp, h⟩

end Go.Proofs.Ytbjodidajacilaa
