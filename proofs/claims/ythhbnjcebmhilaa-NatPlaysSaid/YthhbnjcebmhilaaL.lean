/- Each function over plain data (printed by a program of this claim's author). -/
import Derived.Test.YthhbnjcebmhilaaL2
namespace Go.Proofs.Ythhbnjcebmhilaa
open Go Go.Eng Go.Proofs
set_option maxRecDepth 100000
set_option maxHeartbeats 2000000

/-! (*embrasure/nat.Nat).Ask (16) -/
def nat_Nat_Ask_wp (box : Int) (box_1 : Int) (box_2 : Int) (box_3 : Int) (box_4 : Int) (box_5 : Int) (box_6 : Int) (list : List (Option Nat)) (now : Int) (now_1 : Int) (in_Host : Int) (in_Port : Int) (wish : Int) (until_ : Int) (m_1 : List (Nat × (Int × Int × Int × Int × Int × Int × Bool × (List (Int × Int))))) (K : Int → Int → List (Option Nat) → Int → List (Nat × (Int × Int × Int × Int × Int × Int × Bool × (List (Int × Int)))) → Prop) : Prop :=
  joinP3 (fun (list_2 : List (Option Nat)) (now_3 : Int) (t31 : Bool) => cond t31 (K 0 1 list_2 now_3 m_1) (nat_Nat_asked_wp box box_1 box_2 box_3 box_4 box_5 box_6 list_2 now_3 in_Host in_Port m_1 (fun (r_2 : Option Nat) => joinP3 (fun (list_4 : List (Option Nat)) (b_3 : Option Nat) (m_3 : List (Nat × (Int × Int × Int × Int × Int × Int × Bool × (List (Int × Int))))) => ∃ (b_4 : Nat), b_3 = some b_4 ∧ (∃ (x_1 : Int × Int × Int × Int × Int × Int × Bool × (List (Int × Int))), getS m_3 b_4 = some x_1 ∧ (K x_1.2.2.2.2.1 0 list_4 now_3 (putS m_3 b_4 (x_1.1, x_1.2.1, x_1.2.2.1, x_1.2.2.2.1, x_1.2.2.2.2.1, until_, x_1.2.2.2.2.2.2.1, x_1.2.2.2.2.2.2.2))))) (fun (Q_1 : List (Option Nat) → Option Nat → List (Nat × (Int × Int × Int × Int × Int × Int × Bool × (List (Int × Int)))) → Prop) => cond (Option.isNone r_2) (nat_Nat_made_wp box box_1 box_2 box_3 box_4 box_5 box_6 list_2 now_3 in_Host in_Port 0 0 0 0 true wish m_1 (fun (r_3 : Option Nat) (r_4 : Int) (list_5 : List (Option Nat)) (m_4 : List (Nat × (Int × Int × Int × Int × Int × Int × Bool × (List (Int × Int))))) => cond ((r_4 : Int) != 0) (K 0 r_4 list_5 now_3 m_4) (Q_1 list_5 r_3 m_4))) (Q_1 list_2 r_2 m_1))))) (fun (Q : List (Option Nat) → Int → Bool → Prop) => addr_May_wp in_Host in_Port (fun (r : Bool) => cond (!r) (Q list now true) (cond (decide ((until_ : Int) ≤ now_1)) (Q list now true) (cond (decide ((until_ : Int) > 1099511627776)) (Q list now true) (nat_Nat_on_wp box box_1 box_2 box_3 box_4 box_5 box_6 list now now_1 m_1 (fun (r_1 : Bool) (list_3 : List (Option Nat)) (now_4 : Int) => Q list_3 now_4 (!r_1)))))))
theorem nat_Nat_Ask_ok {b_1 : Nat} {p_1 : Option Addr} {c_1 : Nat} {hd : Nat → Option Addr × Nat} {box : Int} {box_1 : Int} {box_2 : Int} {box_3 : Int} {box_4 : Int} {box_5 : Int} {box_6 : Int} {list : List (Option Nat)} {now : Int} {now_1 : Int} {in_Host : Int} {in_Port : Int} {wish : Int} {until_ : Int} {m_1 : List (Nat × (Int × Int × Int × Int × Int × Int × Bool × (List (Int × Int))))} {FL : List HP} {w : World} {K : Int → Int → List (Option Nat) → Int → List (Nat × (Int × Int × Int × Int × Int × Int × Bool × (List (Int × Int)))) → Prop} {R : Value → World → Prop}
  (h : Mem (cel b_1 64 [(Value.int .u32 box), (Value.int .i64 box_1), (Value.int .i64 box_2), (Value.int .i64 box_3), (Value.int .i64 box_4), (Value.int .i64 box_5), (Value.int .i64 box_6), (Value.slice p_1 list.length c_1), (Value.int .i64 now)] :: row enc67 67 1 p_1 c_1 list :: stoP stoE71 hd m_1 :: FL) w) (hp : nat_Nat_Ask_wp box box_1 box_2 box_3 box_4 box_5 box_6 list now now_1 in_Host in_Port wish until_ m_1 K)
  (hR : ∀ (r : Int) (r_1 : Int) (list_1 : List (Option Nat)) (now_2 : Int) (m_2 : List (Nat × (Int × Int × Int × Int × Int × Int × Bool × (List (Int × Int))))) (p_2 : Option Addr) (n_1 : Nat) (c_2 : Nat) (hd_1 : Nat → Option Addr × Nat) (w : World), n_1 = list_1.length → Mem (cel b_1 64 [(Value.int .u32 box), (Value.int .i64 box_1), (Value.int .i64 box_2), (Value.int .i64 box_3), (Value.int .i64 box_4), (Value.int .i64 box_5), (Value.int .i64 box_6), (Value.slice p_2 n_1 c_2), (Value.int .i64 now_2)] :: row enc67 67 1 p_2 c_2 list_1 :: stoP stoE71 hd_1 m_2 :: FL) w → K r r_1 list_1 now_2 m_2 → R (Value.tuple #[(Value.int .i64 r), (Value.int .i64 r_1)]) w) :
  CallV Try.prog 16 #[(Value.pointer (some (Addr.mk b_1 0 none))), (Value.int .i64 now_1), (Value.agg #[(Value.int .u32 in_Host), (Value.int .i64 in_Port)]), (Value.int .i64 wish), (Value.int .i64 until_)] w R := by
  refine nat_Nat_Ask_call ?_
  unfold nat_Nat_Ask
  unfold nat_Nat_Ask_wp at hp
  have cpp_1 := rowCap h 1 rfl
  refine newL (o := [(Value.int .u32 in_Host), (Value.int .i64 in_Port)]) h ?_
  intro b_2 w h
  obtain ⟨Q, hq, hp⟩ := hp
  refine ⟨fun n0 wish3 until4 in7 t31 w => ∃ (list_2 : List (Option Nat)), ∃ (p_3 : Option Addr), ∃ (n_2 : Nat), ∃ (c_3 : Nat), ∃ (now_3 : Int), (some (Addr.mk b_1 0 none)) = n0 ∧ wish = wish3 ∧ until_ = until4 ∧ (Addr.mk b_2 0 none) = in7 ∧ n_2 = list_2.length ∧ Q list_2 now_3 t31 ∧ Mem (cel b_2 24 [(Value.int .u32 in_Host), (Value.int .i64 in_Port)] :: cel b_1 64 [(Value.int .u32 box), (Value.int .i64 box_1), (Value.int .i64 box_2), (Value.int .i64 box_3), (Value.int .i64 box_4), (Value.int .i64 box_5), (Value.int .i64 box_6), (Value.slice p_3 n_2 c_3), (Value.int .i64 now_3)] :: row enc67 67 1 p_3 c_3 list_2 :: stoP stoE71 hd m_1 :: FL) w, ?_, ?_⟩
  · rintro n0 wish3 until4 in7 t31 w ⟨list_2, p_3, n_2, c_3, now_3, rfl, rfl, rfl, rfl, rfl, hp, h⟩
    replace hp := hq list_2 now_3 t31 hp
    unfold nat_Nat_Ask_j1
    have cpp_3 := rowCap h 2 rfl
    refine cond_both hp (fun hp => ?_) (fun hp => ?_)
    · replace h := h.sel [1, 1, 1] 1
      dsimp only [pickL, pickR, nthH, delH, dropH, List.cons_append, List.nil_append] at h
      exact hR 0 1 list_2 now_3 m_1 p_3 list_2.length c_3 hd _ rfl h hp
    refine ⟨_, cellL h 0 0 rfl rfl rfl, _, cellL h 0 1 rfl rfl rfl, ?_⟩
    replace h := h.pick [1, 1]
    dsimp only [pickL, pickR, nthH, delH, dropH, List.cons_append, List.nil_append] at h
    have hSr71 := stoRo71 (h.drop 2) 1 rfl
    refine nat_Nat_asked_ok (FL := cel b_2 24 [(Value.int .u32 in_Host), (Value.int .i64 in_Port)] :: stoP stoE71 hd m_1 :: FL) hSr71 h hp ?_
    intro r_2 w h hp
    have cpp_3 := rowCap h 1 rfl
    refine ⟨_, rfl, ?_⟩
    obtain ⟨Q_1, hq, hp⟩ := hp
    refine ⟨fun until4_1 b12 w => ∃ (list_4 : List (Option Nat)), ∃ (p_5 : Option Addr), ∃ (n_4 : Nat), ∃ (c_5 : Nat), ∃ (b_3 : Option Nat), ∃ (m_3 : List (Nat × (Int × Int × Int × Int × Int × Int × Bool × (List (Int × Int))))), ∃ (hd_2 : Nat → Option Addr × Nat), until_ = until4_1 ∧ (pn b_3) = b12 ∧ n_4 = list_4.length ∧ Q_1 list_4 b_3 m_3 ∧ Mem (cel b_1 64 [(Value.int .u32 box), (Value.int .i64 box_1), (Value.int .i64 box_2), (Value.int .i64 box_3), (Value.int .i64 box_4), (Value.int .i64 box_5), (Value.int .i64 box_6), (Value.slice p_5 n_4 c_5), (Value.int .i64 now_3)] :: row enc67 67 1 p_5 c_5 list_4 :: cel b_2 24 [(Value.int .u32 in_Host), (Value.int .i64 in_Port)] :: stoP stoE71 hd_2 m_3 :: FL) w, ?_, ?_⟩
    · rintro until4_1 b12 w ⟨list_4, p_5, n_4, c_5, b_3, m_3, hd_2, rfl, rfl, rfl, hp, h⟩
      replace hp := hq list_4 b_3 m_3 hp
      unfold nat_Nat_Ask_j2
      have cpp_5 := rowCap h 1 rfl
      obtain ⟨b_4, hb_4, hp⟩ := hp
      refine ⟨_, pnSome hb_4, ?_⟩
      obtain ⟨x_1, hx_1, hp⟩ := hp
      replace h := stoOpen stoX71 h 3 rfl hx_1
      dsimp only [setH] at h
      obtain ⟨p_7, c_7, hux_1⟩ : ∃ p_7 c_7, hd_2 b_4 = (p_7, c_7) := ⟨_, _, rfl⟩
      rw [hux_1] at h
      replace h : Mem (cel b_4 71 [(Value.int .u32 x_1.1), (Value.int .i64 x_1.2.1), (Value.int .u32 x_1.2.2.1), (Value.int .i64 x_1.2.2.2.1), (Value.int .i64 x_1.2.2.2.2.1), (Value.int .i64 x_1.2.2.2.2.2.1), (Value.bool x_1.2.2.2.2.2.2.1), (Value.slice p_7 x_1.2.2.2.2.2.2.2.length c_7)] :: row enc24 24 2 p_7 c_7 x_1.2.2.2.2.2.2.2 :: cel b_1 64 [(Value.int .u32 box), (Value.int .i64 box_1), (Value.int .i64 box_2), (Value.int .i64 box_3), (Value.int .i64 box_4), (Value.int .i64 box_5), (Value.int .i64 box_6), (Value.slice p_5 list_4.length c_5), (Value.int .i64 now_3)] :: row enc67 67 1 p_5 c_5 list_4 :: cel b_2 24 [(Value.int .u32 in_Host), (Value.int .i64 in_Port)] :: stoP stoE71 hd_2 (delS m_3 b_4) :: FL) _ := h.unpack
      have cpp_7 := rowCap h 1 rfl
      refine storeL (ys := [(Value.int .i64 until_)]) h 0 5 rfl rfl rfl sz3 rfl rfl ?_
      intro w h
      dsimp only [setH, setVs, setV] at h
      refine ⟨_, pnSome hb_4, ?_⟩
      refine ⟨_, cellL h 0 4 rfl rfl rfl, ?_⟩
      replace h : Mem (stoE71 (p_7, c_7) b_4 (x_1.1, x_1.2.1, x_1.2.2.1, x_1.2.2.2.1, x_1.2.2.2.2.1, until_, x_1.2.2.2.2.2.2.1, x_1.2.2.2.2.2.2.2) :: cel b_1 64 [(Value.int .u32 box), (Value.int .i64 box_1), (Value.int .i64 box_2), (Value.int .i64 box_3), (Value.int .i64 box_4), (Value.int .i64 box_5), (Value.int .i64 box_6), (Value.slice p_5 list_4.length c_5), (Value.int .i64 now_3)] :: row enc67 67 1 p_5 c_5 list_4 :: cel b_2 24 [(Value.int .u32 in_Host), (Value.int .i64 in_Port)] :: stoP stoE71 hd_2 (delS m_3 b_4) :: FL) _ := h.pack 2 [cel b_4 71 [(Value.int .u32 x_1.1), (Value.int .i64 x_1.2.1), (Value.int .u32 x_1.2.2.1), (Value.int .i64 x_1.2.2.2.1), (Value.int .i64 x_1.2.2.2.2.1), (Value.int .i64 until_), (Value.bool x_1.2.2.2.2.2.2.1), (Value.slice p_7 x_1.2.2.2.2.2.2.2.length c_7)], row enc24 24 2 p_7 c_7 x_1.2.2.2.2.2.2.2] rfl
      replace h := stoClose h 3 (by simp only [List.length_cons]; omega) rfl
      dsimp only [setH] at h
      replace h := h.sel [0, 0, 1] 1
      dsimp only [pickL, pickR, nthH, delH, dropH, List.cons_append, List.nil_append] at h
      exact hR x_1.2.2.2.2.1 0 list_4 now_3 (putS m_3 b_4 (x_1.1, x_1.2.1, x_1.2.2.1, x_1.2.2.2.1, x_1.2.2.2.2.1, until_, x_1.2.2.2.2.2.2.1, x_1.2.2.2.2.2.2.2)) p_5 list_4.length c_5 (updF hd_2 b_4 (p_7, c_7)) _ rfl h hp
    clear hq
    refine eqlPn undP67 ?_
    refine ⟨_, rfl, ?_⟩
    refine cond_both' hp (fun hp => ?_) (fun hp => ?_)
    · exact ⟨list_2, p_3, list_2.length, c_3, r_2, m_1, hd, rfl, rfl, rfl, hp, h⟩
    refine ⟨_, cellL h 2 0 rfl rfl rfl, _, cellL h 2 1 rfl rfl rfl, ?_⟩
    replace h := h.pick [0, 0, 1]
    dsimp only [pickL, pickR, nthH, delH, dropH, List.cons_append, List.nil_append] at h
    refine nat_Nat_made_ok h hp ?_
    rintro r_3 r_4 list_5 m_4 p_6 n_5 c_6 hd_3 w rfl h hp
    have cpp_6 := rowCap h 1 rfl
    refine ⟨_, _, rfl, ?_⟩
    refine ⟨_, rfl, ?_⟩
    refine ⟨_, rfl, ?_⟩
    refine cond_both hp (fun hp => ?_) (fun hp => ?_)
    · replace h := h.sel [0, 0, 0] 1
      dsimp only [pickL, pickR, nthH, delH, dropH, List.cons_append, List.nil_append] at h
      exact hR 0 r_4 list_5 now_3 m_4 p_6 list_5.length c_6 hd_3 _ rfl h hp
    replace h := h.sel [0, 0, 1, 0] 0
    dsimp only [pickL, pickR, nthH, delH, dropH, List.cons_append, List.nil_append] at h
    exact ⟨list_5, p_6, list_5.length, c_6, r_3, m_4, hd_3, rfl, rfl, rfl, hp, h⟩
  clear hq
  refine ⟨_, cellL h 0 0 rfl rfl rfl, _, cellL h 0 1 rfl rfl rfl, ?_⟩
  refine addr_May_ok h hp ?_
  intro r w h hp
  refine ⟨_, rfl, ?_⟩
  refine cond_both hp (fun hp => ?_) (fun hp => ?_)
  · exact ⟨list, p_1, list.length, c_1, now, rfl, rfl, rfl, rfl, rfl, hp, h⟩
  refine cond_both hp (fun hp => ?_) (fun hp => ?_)
  · exact ⟨list, p_1, list.length, c_1, now, rfl, rfl, rfl, rfl, rfl, hp, h⟩
  refine cond_both hp (fun hp => ?_) (fun hp => ?_)
  · exact ⟨list, p_1, list.length, c_1, now, rfl, rfl, rfl, rfl, rfl, hp, h⟩
  replace h := h.pick [1, 1, 1]
  dsimp only [pickL, pickR, nthH, delH, dropH, List.cons_append, List.nil_append] at h
  refine nat_Nat_on_ok h hp ?_
  rintro r_1 list_3 now_4 p_4 n_3 c_4 w rfl h hp
  have cpp_4 := rowCap h 1 rfl
  refine ⟨_, rfl, ?_⟩
  replace h := h.sel [3, 0, 0, 0] 0
  dsimp only [pickL, pickR, nthH, delH, dropH, List.cons_append, List.nil_append] at h
  exact ⟨list_3, p_4, list_3.length, c_4, now_4, rfl, rfl, rfl, rfl, rfl, hp, h⟩

/-! (*embrasure/embrasureref08.Nat).Ask (21) -/
def embrasureref08_Nat_Ask_wp (Box : Int) (Box_1 : Int) (Box_2 : Int) (Box_3 : Int) (Box_4 : Int) (Box_5 : Int) (Box_6 : Int) (L : List (Int × Int × Int × Int × Int × Int × Bool × (Option Addr × Nat × Nat))) (Now : Int) (now : Int) (in_Host : Int) (in_Port : Int) (wish : Int) (until_ : Int) (K : Int → Int → List (Int × Int × Int × Int × Int × Int × Bool × (Option Addr × Nat × Nat)) → Int → Prop) : Prop :=
  joinP3 (fun (L_2 : List (Int × Int × Int × Int × Int × Int × Bool × (Option Addr × Nat × Nat))) (Now_2 : Int) (t30 : Bool) => cond t30 (K 0 1 L_2 Now_2) (embrasureref08_Nat_find_wp Box Box_1 Box_2 Box_3 Box_4 Box_5 Box_6 L_2 Now_2 in_Host in_Port true 0 0 (fun (r_2 : Int) => joinP2 (fun (L_4 : List (Int × Int × Int × Int × Int × Int × Bool × (Option Addr × Nat × Nat))) (i12 : Int) => cond (decide ((i12 : Int) < 0)) (K 0 10 L_4 Now_2) (0 ≤ (i12 : Int) ∧ (i12 : Int) < ((L_4.length : Nat) : Int) ∧ (∀ (x_1 : Int × Int × Int × Int × Int × Int × Bool × (Option Addr × Nat × Nat)), L_4[Int.toNat i12]? = some x_1 → (0 ≤ (i12 : Int) ∧ (i12 : Int) < ((L_4.length : Nat) : Int) ∧ (∀ (x_2 : Int × Int × Int × Int × Int × Int × Bool × (Option Addr × Nat × Nat)), (List.set L_4 (Int.toNat i12) (x_1.1, x_1.2.1, x_1.2.2.1, x_1.2.2.2.1, x_1.2.2.2.2.1, until_, x_1.2.2.2.2.2.2.1, x_1.2.2.2.2.2.2.2))[Int.toNat i12]? = some x_2 → (K x_2.2.2.2.2.1 0 (List.set L_4 (Int.toNat i12) (x_1.1, x_1.2.1, x_1.2.2.1, x_1.2.2.2.1, x_1.2.2.2.2.1, until_, x_1.2.2.2.2.2.2.1, x_1.2.2.2.2.2.2.2)) Now_2)))))) (fun (Q_1 : List (Int × Int × Int × Int × Int × Int × Bool × (Option Addr × Nat × Nat)) → Int → Prop) => cond (decide ((r_2 : Int) < 0)) (embrasureref08_Nat_put_wp Box Box_1 Box_2 Box_3 Box_4 Box_5 Box_6 L_2 Now_2 in_Host in_Port 0 0 0 0 true wish (fun (r_3 : Int) (L_5 : List (Int × Int × Int × Int × Int × Int × Bool × (Option Addr × Nat × Nat))) => Q_1 L_5 r_3)) (Q_1 L_2 r_2))))) (fun (Q : List (Int × Int × Int × Int × Int × Int × Bool × (Option Addr × Nat × Nat)) → Int → Bool → Prop) => embrasureref03_May_wp in_Host in_Port (fun (r : Bool) => cond (!r) (Q L Now true) (cond (decide ((until_ : Int) ≤ now)) (Q L Now true) (cond (decide ((until_ : Int) > 1099511627776)) (Q L Now true) (embrasureref08_Nat_on_wp Box Box_1 Box_2 Box_3 Box_4 Box_5 Box_6 L Now now (fun (r_1 : Bool) (L_3 : List (Int × Int × Int × Int × Int × Int × Bool × (Option Addr × Nat × Nat))) (Now_3 : Int) => Q L_3 Now_3 (!r_1)))))))
theorem embrasureref08_Nat_Ask_ok {b_1 : Nat} {p_1 : Option Addr} {c_1 : Nat} {Box : Int} {Box_1 : Int} {Box_2 : Int} {Box_3 : Int} {Box_4 : Int} {Box_5 : Int} {Box_6 : Int} {L : List (Int × Int × Int × Int × Int × Int × Bool × (Option Addr × Nat × Nat))} {Now : Int} {now : Int} {in_Host : Int} {in_Port : Int} {wish : Int} {until_ : Int} {FL : List HP} {w : World} {K : Int → Int → List (Int × Int × Int × Int × Int × Int × Bool × (Option Addr × Nat × Nat)) → Int → Prop} {R : Value → World → Prop}
  (h : Mem (cel b_1 58 [(Value.int .u32 Box), (Value.int .i64 Box_1), (Value.int .i64 Box_2), (Value.int .i64 Box_3), (Value.int .i64 Box_4), (Value.int .i64 Box_5), (Value.int .i64 Box_6), (Value.slice p_1 L.length c_1), (Value.int .i64 Now)] :: row enc84 84 8 p_1 c_1 L :: FL) w) (hp : embrasureref08_Nat_Ask_wp Box Box_1 Box_2 Box_3 Box_4 Box_5 Box_6 L Now now in_Host in_Port wish until_ K)
  (hR : ∀ (r : Int) (r_1 : Int) (L_1 : List (Int × Int × Int × Int × Int × Int × Bool × (Option Addr × Nat × Nat))) (Now_1 : Int) (p_2 : Option Addr) (n_1 : Nat) (c_2 : Nat) (w : World), n_1 = L_1.length → Mem (cel b_1 58 [(Value.int .u32 Box), (Value.int .i64 Box_1), (Value.int .i64 Box_2), (Value.int .i64 Box_3), (Value.int .i64 Box_4), (Value.int .i64 Box_5), (Value.int .i64 Box_6), (Value.slice p_2 n_1 c_2), (Value.int .i64 Now_1)] :: row enc84 84 8 p_2 c_2 L_1 :: FL) w → K r r_1 L_1 Now_1 → R (Value.tuple #[(Value.int .i64 r), (Value.int .i64 r_1)]) w) :
  CallV Try.prog 21 #[(Value.pointer (some (Addr.mk b_1 0 none))), (Value.int .i64 now), (Value.agg #[(Value.int .u32 in_Host), (Value.int .i64 in_Port)]), (Value.int .i64 wish), (Value.int .i64 until_)] w R := by
  refine embrasureref08_Nat_Ask_call ?_
  unfold embrasureref08_Nat_Ask
  unfold embrasureref08_Nat_Ask_wp at hp
  have cpp_1 := rowCap h 1 rfl
  refine newL (o := [(Value.int .u32 in_Host), (Value.int .i64 in_Port)]) h ?_
  intro b_2 w h
  obtain ⟨Q, hq, hp⟩ := hp
  refine ⟨fun n0 wish3 until4 in7 t30 w => ∃ (L_2 : List (Int × Int × Int × Int × Int × Int × Bool × (Option Addr × Nat × Nat))), ∃ (p_3 : Option Addr), ∃ (n_2 : Nat), ∃ (c_3 : Nat), ∃ (Now_2 : Int), (some (Addr.mk b_1 0 none)) = n0 ∧ wish = wish3 ∧ until_ = until4 ∧ (Addr.mk b_2 0 none) = in7 ∧ n_2 = L_2.length ∧ Q L_2 Now_2 t30 ∧ Mem (cel b_2 24 [(Value.int .u32 in_Host), (Value.int .i64 in_Port)] :: cel b_1 58 [(Value.int .u32 Box), (Value.int .i64 Box_1), (Value.int .i64 Box_2), (Value.int .i64 Box_3), (Value.int .i64 Box_4), (Value.int .i64 Box_5), (Value.int .i64 Box_6), (Value.slice p_3 n_2 c_3), (Value.int .i64 Now_2)] :: row enc84 84 8 p_3 c_3 L_2 :: FL) w, ?_, ?_⟩
  · rintro n0 wish3 until4 in7 t30 w ⟨L_2, p_3, n_2, c_3, Now_2, rfl, rfl, rfl, rfl, rfl, hp, h⟩
    replace hp := hq L_2 Now_2 t30 hp
    unfold embrasureref08_Nat_Ask_j1
    have cpp_3 := rowCap h 2 rfl
    refine cond_both hp (fun hp => ?_) (fun hp => ?_)
    · replace h := h.sel [1, 1] 1
      dsimp only [pickL, pickR, nthH, delH, dropH, List.cons_append, List.nil_append] at h
      exact hR 0 1 L_2 Now_2 p_3 L_2.length c_3 _ rfl h hp
    refine ⟨_, cellL h 0 0 rfl rfl rfl, _, cellL h 0 1 rfl rfl rfl, ?_⟩
    replace h := h.pick [1, 1]
    dsimp only [pickL, pickR, nthH, delH, dropH, List.cons_append, List.nil_append] at h
    refine embrasureref08_Nat_find_ok h hp ?_
    intro r_2 w h hp
    have cpp_3 := rowCap h 1 rfl
    refine ⟨_, rfl, ?_⟩
    obtain ⟨Q_1, hq, hp⟩ := hp
    refine ⟨fun n0_1 until4_1 i12 w => ∃ (L_4 : List (Int × Int × Int × Int × Int × Int × Bool × (Option Addr × Nat × Nat))), ∃ (p_5 : Option Addr), ∃ (n_4 : Nat), ∃ (c_5 : Nat), (some (Addr.mk b_1 0 none)) = n0_1 ∧ until_ = until4_1 ∧ n_4 = L_4.length ∧ Q_1 L_4 i12 ∧ Mem (cel b_1 58 [(Value.int .u32 Box), (Value.int .i64 Box_1), (Value.int .i64 Box_2), (Value.int .i64 Box_3), (Value.int .i64 Box_4), (Value.int .i64 Box_5), (Value.int .i64 Box_6), (Value.slice p_5 n_4 c_5), (Value.int .i64 Now_2)] :: row enc84 84 8 p_5 c_5 L_4 :: cel b_2 24 [(Value.int .u32 in_Host), (Value.int .i64 in_Port)] :: FL) w, ?_, ?_⟩
    · rintro n0_1 until4_1 i12 w ⟨L_4, p_5, n_4, c_5, rfl, rfl, rfl, hp, h⟩
      replace hp := hq L_4 i12 hp
      unfold embrasureref08_Nat_Ask_j2
      have cpp_5 := rowCap h 1 rfl
      refine cond_both hp (fun hp => ?_) (fun hp => ?_)
      · replace h := h.sel [0, 0] 1
        dsimp only [pickL, pickR, nthH, delH, dropH, List.cons_append, List.nil_append] at h
        exact hR 0 10 L_4 Now_2 p_5 L_4.length c_5 _ rfl h hp
      refine ⟨_, rfl, ?_⟩
      refine ⟨_, _, _, cellL h 0 7 rfl rfl rfl, ?_⟩
      obtain ⟨ia_1, ja_1, hp⟩ := hp
      obtain ⟨a_1, ha_1⟩ := rdAddr (rowRd h 1 encL84 rfl) rfl ia_1 ja_1
      refine ⟨a_1, ha_1, ia_1, ja_1, ?_⟩
      obtain ⟨x_1, hx_1, -⟩ := rdCell (rowRd h 1 encL84 rfl) ha_1 rfl ia_1 ja_1
      replace hp := hp x_1 hx_1
      refine rowSetG2 (k2 := 5) (ys := [(Value.int .i64 until_)]) (x := (x_1.1, x_1.2.1, x_1.2.2.1, x_1.2.2.2.1, x_1.2.2.2.2.1, until_, x_1.2.2.2.2.2.2.1, x_1.2.2.2.2.2.2.2)) (x0 := x_1) (j := 0) h 1 encL84 rfl ha_1 rfl ia_1 ja_1 sz3 hx_1 rfl rfl rfl rfl ?_
      intro w h
      dsimp only [setH, setVs, setV] at h
      refine ⟨_, rfl, ?_⟩
      refine ⟨_, _, _, cellL h 0 7 rfl rfl rfl, ?_⟩
      obtain ⟨ia_2, ja_2, hp⟩ := hp
      obtain ⟨a_2, ha_2⟩ := rdAddr (rowRd h 1 encL84 rfl) (lenSet rfl) ia_2 ja_2
      refine ⟨a_2, ha_2, ia_2, ja_2, ?_⟩
      obtain ⟨x_2, hx_2, hc⟩ := rdCell2 (rowRd h 1 encL84 rfl) ha_2 (lenSet rfl) ia_2 ja_2
      replace hp := hp x_2 hx_2
      refine ⟨_, hc 0 4 _ rfl, ?_⟩
      replace h := h.sel [0, 0] 1
      dsimp only [pickL, pickR, nthH, delH, dropH, List.cons_append, List.nil_append] at h
      exact hR x_2.2.2.2.2.1 0 (List.set L_4 (Int.toNat i12) (x_1.1, x_1.2.1, x_1.2.2.1, x_1.2.2.2.1, x_1.2.2.2.2.1, until_, x_1.2.2.2.2.2.2.1, x_1.2.2.2.2.2.2.2)) Now_2 p_5 L_4.length c_5 _ (lenSet rfl) h hp
    clear hq
    refine cond_both' hp (fun hp => ?_) (fun hp => ?_)
    · exact ⟨L_2, p_3, L_2.length, c_3, rfl, rfl, rfl, hp, h⟩
    refine ⟨_, cellL h 2 0 rfl rfl rfl, _, cellL h 2 1 rfl rfl rfl, ?_⟩
    refine embrasureref08_Nat_put_ok h hp ?_
    rintro r_3 L_5 p_6 n_5 c_6 w rfl h hp
    have cpp_6 := rowCap h 1 rfl
    refine ⟨_, rfl, ?_⟩
    exact ⟨L_5, p_6, L_5.length, c_6, rfl, rfl, rfl, hp, h⟩
  clear hq
  refine ⟨_, cellL h 0 0 rfl rfl rfl, _, cellL h 0 1 rfl rfl rfl, ?_⟩
  refine embrasureref03_May_ok h hp ?_
  intro r w h hp
  refine ⟨_, rfl, ?_⟩
  refine cond_both hp (fun hp => ?_) (fun hp => ?_)
  · exact ⟨L, p_1, L.length, c_1, Now, rfl, rfl, rfl, rfl, rfl, hp, h⟩
  refine cond_both hp (fun hp => ?_) (fun hp => ?_)
  · exact ⟨L, p_1, L.length, c_1, Now, rfl, rfl, rfl, rfl, rfl, hp, h⟩
  refine cond_both hp (fun hp => ?_) (fun hp => ?_)
  · exact ⟨L, p_1, L.length, c_1, Now, rfl, rfl, rfl, rfl, rfl, hp, h⟩
  replace h := h.pick [1, 1]
  dsimp only [pickL, pickR, nthH, delH, dropH, List.cons_append, List.nil_append] at h
  refine embrasureref08_Nat_on_ok h hp ?_
  rintro r_1 L_3 Now_3 p_4 n_3 c_4 w rfl h hp
  have cpp_4 := rowCap h 1 rfl
  refine ⟨_, rfl, ?_⟩
  replace h := h.sel [2, 0, 0] 0
  dsimp only [pickL, pickR, nthH, delH, dropH, List.cons_append, List.nil_append] at h
  exact ⟨L_3, p_4, L_3.length, c_4, Now_3, rfl, rfl, rfl, rfl, rfl, hp, h⟩

/-! (*embrasure/nat.Nat).Drop$1 (44) -/
def nat_Nat_Drop_c1_wp (x_1 : Option Nat) (t : Option Nat) (m_1 : List (Nat × (Int × Int × Int × Int × Int × Int × Bool × (List (Int × Int))))) (K : Bool → Prop) : Prop :=
  (∀ (p_1 q : Nat), x_1 = some p_1 → t = some q → p_1 = q ∨ ((∃ x, getS m_1 p_1 = some x) ∧ ∃ x, getS m_1 q = some x)) ∧ (K (decide (x_1 = t)))
theorem nat_Nat_Drop_c1_ok {b_1 : Nat} {x_1 : Option Nat} {t : Option Nat} {m_1 : List (Nat × (Int × Int × Int × Int × Int × Int × Bool × (List (Int × Int))))} {FL : List HP} {w : World} {K : Bool → Prop} {R : Value → World → Prop}
  (hS71 : ∀ (b : Nat) (x : Int × Int × Int × Int × Int × Int × Bool × (List (Int × Int))), getS m_1 b = some x → roE71 FL b x)
  (h : Mem (cel b_1 67 [(Value.pointer (pn t))] :: FL) w) (hp : nat_Nat_Drop_c1_wp x_1 t m_1 K)
  (hR : ∀ (r : Bool) (w : World), Mem (cel b_1 67 [(Value.pointer (pn t))] :: FL) w → K r → R (Value.bool r) w) :
  CallV Try.prog 44 #[(Value.pointer (pn x_1)), (Value.pointer (some (Addr.mk b_1 0 none)))] w R := by
  refine nat_Nat_Drop_c1_call ?_
  unfold nat_Nat_Drop_c1
  unfold nat_Nat_Drop_c1_wp at hp
  refine ⟨_, cellL h 0 0 rfl rfl rfl, ?_⟩
  obtain ⟨hl_p_1, hp⟩ := hp
  refine eqlPO (n := 7) undQ67 sz71 (fun p q e1 e2 => (hl_p_1 p q e1 e2).imp id fun hl => ⟨hl.1.elim fun _ hx => roLive71 (hS71 _ _ hx) _ (h.drop 1), hl.2.elim fun _ hx => roLive71 (hS71 _ _ hx) _ (h.drop 1)⟩) ?_
  refine ⟨_, rfl, ?_⟩
  exact hR (decide (x_1 = t)) _ h hp

/-! (*embrasure/nat.Nat).Drop (22) -/
def nat_Nat_Drop_wp (box : Int) (box_1 : Int) (box_2 : Int) (box_3 : Int) (box_4 : Int) (box_5 : Int) (box_6 : Int) (list : List (Option Nat)) (now : Int) (now_1 : Int) (in_Host : Int) (in_Port : Int) (m_1 : List (Nat × (Int × Int × Int × Int × Int × Int × Bool × (List (Int × Int))))) (K : Bool → List (Option Nat) → Int → Prop) : Prop :=
  nat_Nat_on_wp box box_1 box_2 box_3 box_4 box_5 box_6 list now now_1 m_1 (fun (r : Bool) (list_2 : List (Option Nat)) (now_3 : Int) => cond (!r) (K false list_2 now_3) (nat_Nat_asked_wp box box_1 box_2 box_3 box_4 box_5 box_6 list_2 now_3 in_Host in_Port m_1 (fun (r_1 : Option Nat) => slices_DeleteFunc_nat_bound_nat_bound_wp list_2 () (fun x_1 s K_1 => nat_Nat_Drop_c1_wp x_1 r_1 m_1 (fun (r : Bool) => K_1 r s)) (fun (rs : List (Option Nat)) (s_1 : (Unit)) => K (!(Option.isNone r_1)) rs now_3))))
theorem nat_Nat_Drop_ok {b_1 : Nat} {p_1 : Option Addr} {c_1 : Nat} {hd : Nat → Option Addr × Nat} {box : Int} {box_1 : Int} {box_2 : Int} {box_3 : Int} {box_4 : Int} {box_5 : Int} {box_6 : Int} {list : List (Option Nat)} {now : Int} {now_1 : Int} {in_Host : Int} {in_Port : Int} {m_1 : List (Nat × (Int × Int × Int × Int × Int × Int × Bool × (List (Int × Int))))} {FL : List HP} {w : World} {K : Bool → List (Option Nat) → Int → Prop} {R : Value → World → Prop}
  (h : Mem (cel b_1 64 [(Value.int .u32 box), (Value.int .i64 box_1), (Value.int .i64 box_2), (Value.int .i64 box_3), (Value.int .i64 box_4), (Value.int .i64 box_5), (Value.int .i64 box_6), (Value.slice p_1 list.length c_1), (Value.int .i64 now)] :: row enc67 67 1 p_1 c_1 list :: stoP stoE71 hd m_1 :: FL) w) (hp : nat_Nat_Drop_wp box box_1 box_2 box_3 box_4 box_5 box_6 list now now_1 in_Host in_Port m_1 K)
  (hR : ∀ (r : Bool) (list_1 : List (Option Nat)) (now_2 : Int) (p_2 : Option Addr) (n_1 : Nat) (c_2 : Nat) (w : World), n_1 = list_1.length → Mem (cel b_1 64 [(Value.int .u32 box), (Value.int .i64 box_1), (Value.int .i64 box_2), (Value.int .i64 box_3), (Value.int .i64 box_4), (Value.int .i64 box_5), (Value.int .i64 box_6), (Value.slice p_2 n_1 c_2), (Value.int .i64 now_2)] :: row enc67 67 1 p_2 c_2 list_1 :: stoP stoE71 hd m_1 :: FL) w → K r list_1 now_2 → R (Value.bool r) w) :
  CallV Try.prog 22 #[(Value.pointer (some (Addr.mk b_1 0 none))), (Value.int .i64 now_1), (Value.agg #[(Value.int .u32 in_Host), (Value.int .i64 in_Port)])] w R := by
  refine nat_Nat_Drop_call ?_
  unfold nat_Nat_Drop
  unfold nat_Nat_Drop_wp at hp
  have cpp_1 := rowCap h 1 rfl
  refine newL (o := [(Value.int .u32 in_Host), (Value.int .i64 in_Port)]) h ?_
  intro b_2 w h
  replace h := h.pick [1, 1, 1]
  dsimp only [pickL, pickR, nthH, delH, dropH, List.cons_append, List.nil_append] at h
  refine nat_Nat_on_ok h hp ?_
  rintro r list_2 now_3 p_3 n_2 c_3 w rfl h hp
  have cpp_3 := rowCap h 1 rfl
  refine ⟨_, rfl, ?_⟩
  refine cond_both hp (fun hp => ?_) (fun hp => ?_)
  · replace h := h.sel [0, 0, 0] 1
    dsimp only [pickL, pickR, nthH, delH, dropH, List.cons_append, List.nil_append] at h
    exact hR false list_2 now_3 p_3 list_2.length c_3 _ rfl h hp
  refine ⟨_, cellL h 3 0 rfl rfl rfl, _, cellL h 3 1 rfl rfl rfl, ?_⟩
  have hSr71 := stoRo71 (h.drop 2) 0 rfl
  refine nat_Nat_asked_ok (FL := stoP stoE71 hd m_1 :: cel b_2 24 [(Value.int .u32 in_Host), (Value.int .i64 in_Port)] :: FL) hSr71 h hp ?_
  intro r_1 w h hp
  have cpp_3 := rowCap h 1 rfl
  refine ⟨_, rfl, ?_⟩
  refine newL (o := [(Value.pointer none)]) h ?_
  intro b_3 w h
  refine storeL (ys := [(Value.pointer (pn r_1))]) h 0 0 rfl rfl rfl sz67 rfl rfl ?_
  intro w h
  dsimp only [setH, setVs, setV] at h
  refine ⟨_, rfl, ?_⟩
  refine ⟨_, _, _, cellL h 1 7 rfl rfl rfl, ?_⟩
  replace h : Mem ((fun (_ : Unit) => HL [cel b_3 67 [(Value.pointer (pn r_1))]]) () :: cel b_1 64 [(Value.int .u32 box), (Value.int .i64 box_1), (Value.int .i64 box_2), (Value.int .i64 box_3), (Value.int .i64 box_4), (Value.int .i64 box_5), (Value.int .i64 box_6), (Value.slice p_3 list_2.length c_3), (Value.int .i64 now_3)] :: row enc67 67 1 p_3 c_3 list_2 :: stoP stoE71 hd m_1 :: cel b_2 24 [(Value.int .u32 in_Host), (Value.int .i64 in_Port)] :: FL) _ := h.pack 1 [cel b_3 67 [(Value.pointer (pn r_1))]] rfl
  replace h := h.pick [2, 0]
  dsimp only [pickL, pickR, nthH, delH, dropH, List.cons_append, List.nil_append] at h
  have hSr71 := stoRo71 (h.drop 2) 1 rfl
  refine slices_DeleteFunc_nat_bound_nat_bound_ok (FL := cel b_1 64 [(Value.int .u32 box), (Value.int .i64 box_1), (Value.int .i64 box_2), (Value.int .i64 box_3), (Value.int .i64 box_4), (Value.int .i64 box_5), (Value.int .i64 box_6), (Value.slice p_3 list_2.length c_3), (Value.int .i64 now_3)] :: stoP stoE71 hd m_1 :: cel b_2 24 [(Value.int .u32 in_Host), (Value.int .i64 in_Port)] :: FL) (A1 := (fun (_ : Unit) => HL [cel b_3 67 [(Value.pointer (pn r_1))]])) (Y1 := (fun x_1 s K_1 => nat_Nat_Drop_c1_wp x_1 r_1 m_1 (fun (r : Bool) => K_1 r s))) (σ1 := Unit) (s_1 := ()) ?_ rfl h hp ?_
  · intro x_1 s K FL2 w R hx h hp hR
    replace h := h.unpack
    dsimp only [pickL, pickR, nthH, delH, dropH, List.cons_append, List.nil_append] at h
    refine calleeFn (by kernel_rfl) ?_
    refine nat_Nat_Drop_c1_ok (fun b x hx_ => roEm71 (fun w h => (by first | exact hx _ h | exact hx _ (h.drop 1) | exact hx _ (h.drop 2) | exact hx _ (h.drop 3) | exact hx _ (h.drop 4) | exact hx _ (h.drop 5))) (hSr71 b x hx_)) h hp ?_
    intro r w h hp
    exact hR r s _ (h.pack 1 [cel b_3 67 [(Value.pointer (pn r_1))]] rfl) hp
  rintro rs s_1 p_4 n_3 c_4 w rfl h hp
  have cpp_4 := rowCap h 0 rfl
  replace h := h.pick [1]
  dsimp only [pickL, pickR, nthH, delH, dropH, List.cons_append, List.nil_append] at h
  replace h := h.unpack
  dsimp only [pickL, pickR, nthH, delH, dropH, List.cons_append, List.nil_append] at h
  refine ⟨_, _, _, rfl, ?_⟩
  refine ⟨_, rfl, ?_⟩
  refine storeL (ys := [(Value.slice p_4 rs.length c_4)]) h 2 7 rfl rfl rfl sz62 rfl rfl ?_
  intro w h
  dsimp only [setH, setVs, setV] at h
  refine ⟨_, cellL h 0 0 rfl rfl rfl, ?_⟩
  refine neqPn undP67 ?_
  refine ⟨_, rfl, ?_⟩
  replace h := h.sel [2, 1, 1] 2
  dsimp only [pickL, pickR, nthH, delH, dropH, List.cons_append, List.nil_append] at h
  exact hR (!(Option.isNone r_1)) rs now_3 p_4 rs.length c_4 _ rfl h hp

/-! (*embrasure/embrasureref08.Nat).Drop (23) -/
def embrasureref08_Nat_Drop_wp (Box : Int) (Box_1 : Int) (Box_2 : Int) (Box_3 : Int) (Box_4 : Int) (Box_5 : Int) (Box_6 : Int) (L : List (Int × Int × Int × Int × Int × Int × Bool × (Option Addr × Nat × Nat))) (Now : Int) (now : Int) (in_Host : Int) (in_Port : Int) (K : Bool → List (Int × Int × Int × Int × Int × Int × Bool × (Option Addr × Nat × Nat)) → Int → Prop) : Prop :=
  embrasureref08_Nat_on_wp Box Box_1 Box_2 Box_3 Box_4 Box_5 Box_6 L Now now (fun (r : Bool) (L_2 : List (Int × Int × Int × Int × Int × Int × Bool × (Option Addr × Nat × Nat))) (Now_2 : Int) => cond (!r) (K false L_2 Now_2) (embrasureref08_Nat_find_wp Box Box_1 Box_2 Box_3 Box_4 Box_5 Box_6 L_2 Now_2 in_Host in_Port true 0 0 (fun (r_1 : Int) => cond (decide ((r_1 : Int) < 0)) (K false L_2 Now_2) (0 ≤ (r_1 : Int) ∧ (r_1 : Int) ≤ ((L_2.length : Nat) : Int) ∧ (0 ≤ ((IntKind.wrap .i64 (r_1 + 1)) : Int) ∧ ((IntKind.wrap .i64 (r_1 + 1)) : Int) ≤ ((L_2.length : Nat) : Int) ∧ ((([] : List (Int × Int × Int × Int × Int × Int × Bool × (Option Addr × Nat × Nat))).length + ((L_2.take (Int.toNat r_1)).drop 0).length) * 80 ≤ 140737488355328 ∧ (((([] : List (Int × Int × Int × Int × Int × Int × Bool × (Option Addr × Nat × Nat))) ++ ((L_2.take (Int.toNat r_1)).drop 0)).length + ((L_2.take L_2.length).drop (Int.toNat (IntKind.wrap .i64 (r_1 + 1)))).length) * 80 ≤ 140737488355328 ∧ (K true ((([] : List (Int × Int × Int × Int × Int × Int × Bool × (Option Addr × Nat × Nat))) ++ ((L_2.take (Int.toNat r_1)).drop 0)) ++ ((L_2.take L_2.length).drop (Int.toNat (IntKind.wrap .i64 (r_1 + 1))))) Now_2))))))))
theorem embrasureref08_Nat_Drop_ok {b_1 : Nat} {p_1 : Option Addr} {c_1 : Nat} {Box : Int} {Box_1 : Int} {Box_2 : Int} {Box_3 : Int} {Box_4 : Int} {Box_5 : Int} {Box_6 : Int} {L : List (Int × Int × Int × Int × Int × Int × Bool × (Option Addr × Nat × Nat))} {Now : Int} {now : Int} {in_Host : Int} {in_Port : Int} {FL : List HP} {w : World} {K : Bool → List (Int × Int × Int × Int × Int × Int × Bool × (Option Addr × Nat × Nat)) → Int → Prop} {R : Value → World → Prop}
  (h : Mem (cel b_1 58 [(Value.int .u32 Box), (Value.int .i64 Box_1), (Value.int .i64 Box_2), (Value.int .i64 Box_3), (Value.int .i64 Box_4), (Value.int .i64 Box_5), (Value.int .i64 Box_6), (Value.slice p_1 L.length c_1), (Value.int .i64 Now)] :: row enc84 84 8 p_1 c_1 L :: FL) w) (hp : embrasureref08_Nat_Drop_wp Box Box_1 Box_2 Box_3 Box_4 Box_5 Box_6 L Now now in_Host in_Port K)
  (hR : ∀ (r : Bool) (L_1 : List (Int × Int × Int × Int × Int × Int × Bool × (Option Addr × Nat × Nat))) (Now_1 : Int) (p_2 : Option Addr) (n_1 : Nat) (c_2 : Nat) (w : World), n_1 = L_1.length → Mem (cel b_1 58 [(Value.int .u32 Box), (Value.int .i64 Box_1), (Value.int .i64 Box_2), (Value.int .i64 Box_3), (Value.int .i64 Box_4), (Value.int .i64 Box_5), (Value.int .i64 Box_6), (Value.slice p_2 n_1 c_2), (Value.int .i64 Now_1)] :: row enc84 84 8 p_2 c_2 L_1 :: FL) w → K r L_1 Now_1 → R (Value.bool r) w) :
  CallV Try.prog 23 #[(Value.pointer (some (Addr.mk b_1 0 none))), (Value.int .i64 now), (Value.agg #[(Value.int .u32 in_Host), (Value.int .i64 in_Port)])] w R := by
  refine embrasureref08_Nat_Drop_call ?_
  unfold embrasureref08_Nat_Drop
  unfold embrasureref08_Nat_Drop_wp at hp
  have cpp_1 := rowCap h 1 rfl
  refine newL (o := [(Value.int .u32 in_Host), (Value.int .i64 in_Port)]) h ?_
  intro b_2 w h
  replace h := h.pick [1, 1]
  dsimp only [pickL, pickR, nthH, delH, dropH, List.cons_append, List.nil_append] at h
  refine embrasureref08_Nat_on_ok h hp ?_
  rintro r L_2 Now_2 p_3 n_2 c_3 w rfl h hp
  have cpp_3 := rowCap h 1 rfl
  refine ⟨_, rfl, ?_⟩
  refine cond_both hp (fun hp => ?_) (fun hp => ?_)
  · replace h := h.sel [0, 0] 1
    dsimp only [pickL, pickR, nthH, delH, dropH, List.cons_append, List.nil_append] at h
    exact hR false L_2 Now_2 p_3 L_2.length c_3 _ rfl h hp
  refine ⟨_, cellL h 2 0 rfl rfl rfl, _, cellL h 2 1 rfl rfl rfl, ?_⟩
  refine embrasureref08_Nat_find_ok h hp ?_
  intro r_1 w h hp
  have cpp_3 := rowCap h 1 rfl
  refine ⟨_, rfl, ?_⟩
  refine cond_both hp (fun hp => ?_) (fun hp => ?_)
  · replace h := h.sel [0, 0] 1
    dsimp only [pickL, pickR, nthH, delH, dropH, List.cons_append, List.nil_append] at h
    exact hR false L_2 Now_2 p_3 L_2.length c_3 _ rfl h hp
  replace h := h.drew
  refine ⟨fun w => Mem (cel b_1 58 [(Value.int .u32 Box), (Value.int .i64 Box_1), (Value.int .i64 Box_2), (Value.int .i64 Box_3), (Value.int .i64 Box_4), (Value.int .i64 Box_5), (Value.int .i64 Box_6), (Value.slice p_3 L_2.length c_3), (Value.int .i64 Now_2)] :: FL) w, (h.sel [0] 2), ?_⟩
  refine ⟨_, rfl, ?_⟩
  refine ⟨_, _, _, cellL h 0 7 rfl rfl rfl, ?_⟩
  refine ⟨?_, ?_⟩
  · intro w h
    change Mem _ _ at h
    refine ⟨_, _, _, cellL h 0 7 rfl rfl rfl, ?_⟩
    exact ⟨rfl, rfl⟩
  obtain ⟨g_1ha, g_1hb, hp⟩ := hp
  have vg_1_lh : 0 ≤ (Int.toNat r_1) := (Nat.zero_le _)
  have vg_1_hm : (Int.toNat r_1) ≤ c_3 := (Nat.le_trans (natLe g_1ha g_1hb) cpp_3)
  have vg_1_mc : c_3 ≤ c_3 := (Nat.le_refl _)
  have vg_1_hl : (Int.toNat r_1) ≤ L_2.length := (leLen g_1ha g_1hb rfl)
  refine ⟨g_1ha, (leCap g_1hb cpp_3), ?_⟩
  refine ⟨_, rfl, ?_⟩
  refine ⟨_, _, _, cellL h 0 7 rfl rfl rfl, ?_⟩
  refine ⟨?_, ?_⟩
  · intro w h
    change Mem _ _ at h
    refine ⟨_, _, _, cellL h 0 7 rfl rfl rfl, ?_⟩
    exact ⟨rfl, rfl⟩
  obtain ⟨g_2la, g_2lb, hp⟩ := hp
  have vg_2_lh : (Int.toNat (IntKind.wrap .i64 (r_1 + 1))) ≤ L_2.length := (natLe g_2la g_2lb)
  have vg_2_hm : L_2.length ≤ c_3 := cpp_3
  have vg_2_mc : c_3 ≤ c_3 := (Nat.le_refl _)
  have vg_2_hl : L_2.length ≤ L_2.length := (Nat.le_of_eq rfl)
  refine ⟨g_2la, g_2lb, ?_⟩
  refine newL (o := []) h ?_
  intro b_3 w h
  refine ⟨(h.sel [1] 3), ?_⟩
  have sr := (Rd.view (rowRd h 2 encL84 rfl) (l := 0) (h := (Int.toNat r_1)) (m := c_3) vg_1_hm)
  replace h := rowOfCel h 0 encL84 rfl ([] : List (Int × Int × Int × Int × Int × Int × Bool × (Option Addr × Nat × Nat))) rfl
  dsimp only [setH, setVs, setV] at h
  obtain ⟨hb, hp⟩ := hp
  refine appendL slt56 und56 encL84 encO84 h 0 rfl rfl sr (viewLen vg_1_hl) hb ?_
  intro p_4 c_4 w h
  dsimp only [setH, setVs, setV] at h
  have cpp_4 := rowCap h 0 rfl
  refine ⟨_, _, _, rfl, ?_⟩
  refine ⟨(h.sel [1] 3), ?_⟩
  have sr_1 := (Rd.view (rowRd h 2 encL84 rfl) (l := (Int.toNat (IntKind.wrap .i64 (r_1 + 1)))) (h := L_2.length) (m := c_3) vg_2_hm)
  obtain ⟨hb, hp⟩ := hp
  refine appendL slt56 und56 encL84 encO84 h 0 rfl rfl sr_1 (viewLen vg_2_hl) hb ?_
  intro p_5 c_5 w h
  dsimp only [setH, setVs, setV] at h
  have cpp_5 := rowCap h 0 rfl
  refine ⟨_, _, _, rfl, ?_⟩
  refine ⟨_, rfl, ?_⟩
  refine storeL (ys := [(Value.slice p_5 ((([] : List (Int × Int × Int × Int × Int × Int × Bool × (Option Addr × Nat × Nat))) ++ ((L_2.take (Int.toNat r_1)).drop 0)) ++ ((L_2.take L_2.length).drop (Int.toNat (IntKind.wrap .i64 (r_1 + 1))))).length c_5)]) h 1 7 rfl rfl rfl sz56 rfl rfl ?_
  intro w h
  dsimp only [setH, setVs, setV] at h
  replace h := h.sel [1, 0] 2
  dsimp only [pickL, pickR, nthH, delH, dropH, List.cons_append, List.nil_append] at h
  exact hR true ((([] : List (Int × Int × Int × Int × Int × Int × Bool × (Option Addr × Nat × Nat))) ++ ((L_2.take (Int.toNat r_1)).drop 0)) ++ ((L_2.take L_2.length).drop (Int.toNat (IntKind.wrap .i64 (r_1 + 1))))) Now_2 p_5 (((([] : List (Int × Int × Int × Int × Int × Int × Bool × (Option Addr × Nat × Nat))) ++ ((L_2.take (Int.toNat r_1)).drop 0)) ++ ((L_2.take L_2.length).drop (Int.toNat (IntKind.wrap .i64 (r_1 + 1))))).length) c_5 _ rfl h hp

/-! (*embrasure/nat.Nat).Reboot (15) -/
def nat_Nat_Reboot_wp (box : Int) (box_1 : Int) (box_2 : Int) (box_3 : Int) (box_4 : Int) (box_5 : Int) (box_6 : Int) (now : Int) (K : List (Option Nat) → Int → Prop) : Prop :=
  K ([] : List (Option Nat)) 0
theorem nat_Nat_Reboot_ok {b_1 : Nat} {p_1 : Option Addr} {n_1 : Nat} {c_1 : Nat} {box : Int} {box_1 : Int} {box_2 : Int} {box_3 : Int} {box_4 : Int} {box_5 : Int} {box_6 : Int} {now : Int} {FL : List HP} {w : World} {K : List (Option Nat) → Int → Prop} {R : Value → World → Prop}
  (h : Mem (cel b_1 64 [(Value.int .u32 box), (Value.int .i64 box_1), (Value.int .i64 box_2), (Value.int .i64 box_3), (Value.int .i64 box_4), (Value.int .i64 box_5), (Value.int .i64 box_6), (Value.slice p_1 n_1 c_1), (Value.int .i64 now)] :: FL) w) (hp : nat_Nat_Reboot_wp box box_1 box_2 box_3 box_4 box_5 box_6 now K)
  (hR : ∀ (list : List (Option Nat)) (now_1 : Int) (p_2 : Option Addr) (n_2 : Nat) (c_2 : Nat) (w : World), n_2 = list.length → Mem (cel b_1 64 [(Value.int .u32 box), (Value.int .i64 box_1), (Value.int .i64 box_2), (Value.int .i64 box_3), (Value.int .i64 box_4), (Value.int .i64 box_5), (Value.int .i64 box_6), (Value.slice p_2 n_2 c_2), (Value.int .i64 now_1)] :: row enc67 67 1 p_2 c_2 list :: FL) w → K list now_1 → R undef w) :
  CallV Try.prog 15 #[(Value.pointer (some (Addr.mk b_1 0 none)))] w R := by
  refine nat_Nat_Reboot_call ?_
  unfold nat_Nat_Reboot
  unfold nat_Nat_Reboot_wp at hp
  refine ⟨_, rfl, ?_⟩
  replace h := rowNil enc67 67 1 h
  refine storeL (ys := [(Value.slice none  0 0)]) h 1 7 rfl rfl rfl sz62 rfl rfl ?_
  intro w h
  dsimp only [setH, setVs, setV] at h
  refine ⟨_, rfl, ?_⟩
  refine storeL (ys := [(Value.int .i64 0)]) h 1 8 rfl rfl rfl sz3 rfl rfl ?_
  intro w h
  dsimp only [setH, setVs, setV] at h
  replace h := h.sel [1, 0] 0
  dsimp only [pickL, pickR, nthH, delH, dropH, List.cons_append, List.nil_append] at h
  exact hR ([] : List (Option Nat)) 0 (none ) 0 0 _ rfl h hp

/-! slices.SortFunc[[]embrasure/api.Binding,embrasure/api.Binding] (33) -/
def slices_SortFunc_sl_api_Binding_api_Binding_wp {σ1 : Type} (xs : List (Int × Int × Int × Int × Int × Int × Bool)) (s : σ1) (Y1 : (Int × Int × Int × Int × Int × Int × Bool) → (Int × Int × Int × Int × Int × Int × Bool) → σ1 → (Int → σ1 → Prop) → Prop) (K : List (Int × Int × Int × Int × Int × Int × Bool) → σ1 → Prop) : Prop := sortW xs s Y1 K
theorem slices_SortFunc_sl_api_Binding_api_Binding_ok {σ1 : Type} {A1 : σ1 → HP} {p_1 : Option Addr} {c_1 : Nat} {n_1 : Nat} {g1 : Nat} {fc1 : Array Value} {xs : List (Int × Int × Int × Int × Int × Int × Bool)} {s : σ1} {Y1 : (Int × Int × Int × Int × Int × Int × Bool) → (Int × Int × Int × Int × Int × Int × Bool) → σ1 → (Int → σ1 → Prop) → Prop} {FL : List HP} {w : World} {K : List (Int × Int × Int × Int × Int × Int × Bool) → σ1 → Prop} {R : Value → World → Prop}
  (hY1 : ∀ (x0 : (Int × Int × Int × Int × Int × Int × Bool)) (x1 : (Int × Int × Int × Int × Int × Int × Bool)) (s : σ1) (K : Int → σ1 → Prop) (FL2 : List HP) (w : World) (R : Value → World → Prop), (∀ w, Mem FL2 w → Mem FL w) → Mem (A1 s :: FL2) w → Y1 x0 x1 s K → (∀ (r : Int) (s : σ1) (w : World), Mem (A1 s :: FL2) w → K r s → R (Value.int .i64 r) w) → CalleeV Try.prog (Value.func (.func g1) #[] fc1) #[(Value.agg #[(Value.int .u32 x0.1), (Value.int .i64 x0.2.1), (Value.int .u32 x0.2.2.1), (Value.int .i64 x0.2.2.2.1), (Value.int .i64 x0.2.2.2.2.1), (Value.int .i64 x0.2.2.2.2.2.1), (Value.bool x0.2.2.2.2.2.2)]), (Value.agg #[(Value.int .u32 x1.1), (Value.int .i64 x1.2.1), (Value.int .u32 x1.2.2.1), (Value.int .i64 x1.2.2.2.1), (Value.int .i64 x1.2.2.2.2.1), (Value.int .i64 x1.2.2.2.2.2.1), (Value.bool x1.2.2.2.2.2.2)])] w R)
  (hn : n_1 = xs.length) (hg : hasBody Try.prog g1 = true) (he : ∀ args w, (callFunc g1 args).run Try.prog w = .ok (.enter g1 args) w) (hx : Exact (A1 s))
  (h : Mem (row enc51 51 7 p_1 c_1 xs :: A1 s :: FL) w) (hp : slices_SortFunc_sl_api_Binding_api_Binding_wp xs s Y1 K)
  (hR : ∀ (rs : List (Int × Int × Int × Int × Int × Int × Bool)) (s_1 : σ1) (w : World), xs.length = rs.length → Mem (row enc51 51 7 p_1 c_1 rs :: A1 s_1 :: FL) w → K rs s_1 → R (Value.tuple #[]) w) :
  CallV Try.prog 33 #[(Value.slice p_1 n_1 c_1), (Value.func (.func g1) #[] fc1)] w R :=
  sortL (ρ := lays33_ren) lays33 Try.isAgg51 Try.sizeOf51 encL51 (fun x v hv => by simp only [enc51, List.mem_cons, List.not_mem_nil, or_false] at hv; rcases hv with rfl | rfl | rfl | rfl | rfl | rfl | rfl <;> rfl) hg he hx hY1 hn h hp (fun rs s w hl => hR rs s w hl.symm)

/-! cmp.isNaN[int] (57) -/
def cmp_isNaN_int_wp (x_1 : Int) (K : Bool → Prop) : Prop :=
  K ((x_1 : Int) != x_1)
theorem cmp_isNaN_int_ok {x_1 : Int} {FL : List HP} {w : World} {K : Bool → Prop} {R : Value → World → Prop}
  (h : Mem (FL) w) (hp : cmp_isNaN_int_wp x_1 K)
  (hR : ∀ (r : Bool) (w : World), Mem (FL) w → K r → R (Value.bool r) w) :
  CallV Try.prog 57 #[(Value.int .i64 x_1)] w R := by
  refine cmp_isNaN_int_call ?_
  unfold cmp_isNaN_int
  unfold cmp_isNaN_int_wp at hp
  exact hR ((x_1 : Int) != x_1) _ h hp

/-! cmp.Compare[int] (35) -/
def cmp_Compare_int_wp (x_1 : Int) (y : Int) (K : Int → Prop) : Prop :=
  cmp_isNaN_int_wp x_1 (fun (r : Bool) => cmp_isNaN_int_wp y (fun (r_1 : Bool) => cond r (cond r_1 (K 0) (K (-1))) (cond r_1 (K 1) (cond (decide ((x_1 : Int) < y)) (K (-1)) (cond (decide ((x_1 : Int) > y)) (K 1) (K 0))))))
theorem cmp_Compare_int_ok {x_1 : Int} {y : Int} {FL : List HP} {w : World} {K : Int → Prop} {R : Value → World → Prop}
  (h : Mem (FL) w) (hp : cmp_Compare_int_wp x_1 y K)
  (hR : ∀ (r : Int) (w : World), Mem (FL) w → K r → R (Value.int .i64 r) w) :
  CallV Try.prog 35 #[(Value.int .i64 x_1), (Value.int .i64 y)] w R := by
  refine cmp_Compare_int_call ?_
  unfold cmp_Compare_int
  unfold cmp_Compare_int_wp at hp
  refine cmp_isNaN_int_ok h hp ?_
  intro r w h hp
  refine ⟨_, rfl, ?_⟩
  refine cmp_isNaN_int_ok h hp ?_
  intro r_1 w h hp
  refine ⟨_, rfl, ?_⟩
  refine cond_both hp (fun hp => ?_) (fun hp => ?_)
  · refine cond_both hp (fun hp => ?_) (fun hp => ?_)
    · exact hR 0 _ h hp
    exact hR (-1) _ h hp
  refine cond_both hp (fun hp => ?_) (fun hp => ?_)
  · exact hR 1 _ h hp
  refine cond_both hp (fun hp => ?_) (fun hp => ?_)
  · exact hR (-1) _ h hp
  refine cond_both hp (fun hp => ?_) (fun hp => ?_)
  · exact hR 1 _ h hp
  exact hR 0 _ h hp

/-! (*embrasure/nat.Nat).All$1 (34) -/
def nat_Nat_All_c1_wp (a_In : Int) (a_In_1 : Int) (a_To : Int) (a_To_1 : Int) (a_Port : Int) (a_Until : Int) (a_Asked : Bool) (b_In : Int) (b_In_1 : Int) (b_To : Int) (b_To_1 : Int) (b_Port : Int) (b_Until : Int) (b_Asked : Bool) (K : Int → Prop) : Prop :=
  cmp_Compare_int_wp a_Port b_Port (fun (r : Int) => K r)
theorem nat_Nat_All_c1_ok {a_In : Int} {a_In_1 : Int} {a_To : Int} {a_To_1 : Int} {a_Port : Int} {a_Until : Int} {a_Asked : Bool} {b_In : Int} {b_In_1 : Int} {b_To : Int} {b_To_1 : Int} {b_Port : Int} {b_Until : Int} {b_Asked : Bool} {FL : List HP} {w : World} {K : Int → Prop} {R : Value → World → Prop}
  (h : Mem (FL) w) (hp : nat_Nat_All_c1_wp a_In a_In_1 a_To a_To_1 a_Port a_Until a_Asked b_In b_In_1 b_To b_To_1 b_Port b_Until b_Asked K)
  (hR : ∀ (r : Int) (w : World), Mem (FL) w → K r → R (Value.int .i64 r) w) :
  CallV Try.prog 34 #[(Value.agg #[(Value.int .u32 a_In), (Value.int .i64 a_In_1), (Value.int .u32 a_To), (Value.int .i64 a_To_1), (Value.int .i64 a_Port), (Value.int .i64 a_Until), (Value.bool a_Asked)]), (Value.agg #[(Value.int .u32 b_In), (Value.int .i64 b_In_1), (Value.int .u32 b_To), (Value.int .i64 b_To_1), (Value.int .i64 b_Port), (Value.int .i64 b_Until), (Value.bool b_Asked)])] w R := by
  refine nat_Nat_All_c1_call ?_
  unfold nat_Nat_All_c1
  unfold nat_Nat_All_c1_wp at hp
  refine newL (o := [(Value.int .u32 a_In), (Value.int .i64 a_In_1), (Value.int .u32 a_To), (Value.int .i64 a_To_1), (Value.int .i64 a_Port), (Value.int .i64 a_Until), (Value.bool a_Asked)]) h ?_
  intro b_1 w h
  refine newL (o := [(Value.int .u32 b_In), (Value.int .i64 b_In_1), (Value.int .u32 b_To), (Value.int .i64 b_To_1), (Value.int .i64 b_Port), (Value.int .i64 b_Until), (Value.bool b_Asked)]) h ?_
  intro b_2 w h
  refine ⟨_, cellL h 1 4 rfl rfl rfl, ?_⟩
  refine ⟨_, cellL h 0 4 rfl rfl rfl, ?_⟩
  refine cmp_Compare_int_ok h hp ?_
  intro r w h hp
  refine ⟨_, rfl, ?_⟩
  replace h := h.sel [] 2
  dsimp only [pickL, pickR, nthH, delH, dropH, List.cons_append, List.nil_append] at h
  exact hR r _ h hp

/-! (*embrasure/nat.Nat).All (14) -/
def nat_Nat_All_wp (box : Int) (box_1 : Int) (box_2 : Int) (box_3 : Int) (box_4 : Int) (box_5 : Int) (box_6 : Int) (list : List (Option Nat)) (now : Int) (now_1 : Int) (m_1 : List (Nat × (Int × Int × Int × Int × Int × Int × Bool × (List (Int × Int))))) (K : List (Int × Int × Int × Int × Int × Int × Bool) → List (Option Nat) → Int → List (Nat × (Int × Int × Int × Int × Int × Int × Bool × (List (Int × Int)))) → Prop) : Prop :=
  nat_Nat_on_wp box box_1 box_2 box_3 box_4 box_5 box_6 list now now_1 m_1 (fun (r : Bool) (list_2 : List (Option Nat)) (now_3 : Int) => cond (!r) (K ([] : List (Int × Int × Int × Int × Int × Int × Bool)) list_2 now_3 m_1) (joinP2 (fun (out : List (Int × Int × Int × Int × Int × Int × Bool)) (m_3 : List (Nat × (Int × Int × Int × Int × Int × Int × Bool × (List (Int × Int))))) => slices_SortFunc_sl_api_Binding_api_Binding_wp out () (fun x_3 x_4 s K_1 => nat_Nat_All_c1_wp x_3.1 x_3.2.1 x_3.2.2.1 x_3.2.2.2.1 x_3.2.2.2.2.1 x_3.2.2.2.2.2.1 x_3.2.2.2.2.2.2 x_4.1 x_4.2.1 x_4.2.2.1 x_4.2.2.2.1 x_4.2.2.2.2.1 x_4.2.2.2.2.2.1 x_4.2.2.2.2.2.2 (fun (r : Int) => K_1 r s)) (fun (rs : List (Int × Int × Int × Int × Int × Int × Bool)) (s_1 : (Unit)) => K rs list_2 now_3 m_3)) (fun (Q : List (Int × Int × Int × Int × Int × Int × Bool) → List (Nat × (Int × Int × Int × Int × Int × Int × Bool × (List (Int × Int)))) → Prop) => ∃ (I : Nat → List (Int × Int × Int × Int × Int × Int × Bool) → Int → List (Nat × (Int × Int × Int × Int × Int × Int × Bool × (List (Int × Int)))) → Prop), (∃ (n_5 : Nat), I n_5 ([] : List (Int × Int × Int × Int × Int × Int × Bool)) 0 m_1) ∧ ∀ (n_3 : Nat) (out_1 : List (Int × Int × Int × Int × Int × Int × Bool)) (t17 : Int) (m_4 : List (Nat × (Int × Int × Int × Int × Int × Int × Bool × (List (Int × Int))))), I n_3 out_1 t17 m_4 → (cond (decide ((t17 : Int) < ((list_2.length : Nat) : Int))) (0 ≤ (t17 : Int) ∧ (t17 : Int) < ((list_2.length : Nat) : Int) ∧ (∀ (x_1 : Option Nat), list_2[Int.toNat t17]? = some x_1 → (∃ (b_2 : Nat), x_1 = some b_2 ∧ (∃ (x_2 : Int × Int × Int × Int × Int × Int × Bool × (List (Int × Int))), getS m_4 b_2 = some x_2 ∧ ((out_1.length + [(x_2.1, x_2.2.1, x_2.2.2.1, x_2.2.2.2.1, x_2.2.2.2.2.1, x_2.2.2.2.2.2.1, x_2.2.2.2.2.2.2.1)].length) * 56 ≤ 140737488355328 ∧ (∃ (n_4 : Nat), n_4 < n_3 ∧ I n_4 (out_1 ++ [(x_2.1, x_2.2.1, x_2.2.2.1, x_2.2.2.2.1, x_2.2.2.2.2.1, x_2.2.2.2.2.2.1, x_2.2.2.2.2.2.2.1)]) (IntKind.wrap .i64 (t17 + 1)) (putS m_4 b_2 x_2))))))) (Q out_1 m_4)))))
theorem nat_Nat_All_ok {b_1 : Nat} {p_1 : Option Addr} {c_1 : Nat} {hd : Nat → Option Addr × Nat} {box : Int} {box_1 : Int} {box_2 : Int} {box_3 : Int} {box_4 : Int} {box_5 : Int} {box_6 : Int} {list : List (Option Nat)} {now : Int} {now_1 : Int} {m_1 : List (Nat × (Int × Int × Int × Int × Int × Int × Bool × (List (Int × Int))))} {FL : List HP} {w : World} {K : List (Int × Int × Int × Int × Int × Int × Bool) → List (Option Nat) → Int → List (Nat × (Int × Int × Int × Int × Int × Int × Bool × (List (Int × Int)))) → Prop} {R : Value → World → Prop}
  (h : Mem (cel b_1 64 [(Value.int .u32 box), (Value.int .i64 box_1), (Value.int .i64 box_2), (Value.int .i64 box_3), (Value.int .i64 box_4), (Value.int .i64 box_5), (Value.int .i64 box_6), (Value.slice p_1 list.length c_1), (Value.int .i64 now)] :: row enc67 67 1 p_1 c_1 list :: stoP stoE71 hd m_1 :: FL) w) (hp : nat_Nat_All_wp box box_1 box_2 box_3 box_4 box_5 box_6 list now now_1 m_1 K)
  (hR : ∀ (rs : List (Int × Int × Int × Int × Int × Int × Bool)) (list_1 : List (Option Nat)) (now_2 : Int) (m_2 : List (Nat × (Int × Int × Int × Int × Int × Int × Bool × (List (Int × Int))))) (p_3 : Option Addr) (n_2 : Nat) (c_3 : Nat) (p_2 : Option Addr) (n_1 : Nat) (c_2 : Nat) (hd_1 : Nat → Option Addr × Nat) (w : World), n_2 = rs.length → n_1 = list_1.length → Mem (row enc51 51 7 p_3 c_3 rs :: cel b_1 64 [(Value.int .u32 box), (Value.int .i64 box_1), (Value.int .i64 box_2), (Value.int .i64 box_3), (Value.int .i64 box_4), (Value.int .i64 box_5), (Value.int .i64 box_6), (Value.slice p_2 n_1 c_2), (Value.int .i64 now_2)] :: row enc67 67 1 p_2 c_2 list_1 :: stoP stoE71 hd_1 m_2 :: FL) w → K rs list_1 now_2 m_2 → R (Value.slice p_3 n_2 c_3) w) :
  CallV Try.prog 14 #[(Value.pointer (some (Addr.mk b_1 0 none))), (Value.int .i64 now_1)] w R := by
  refine nat_Nat_All_call ?_
  unfold nat_Nat_All
  unfold nat_Nat_All_wp at hp
  have cpp_1 := rowCap h 1 rfl
  refine nat_Nat_on_ok h hp ?_
  rintro r list_2 now_3 p_3 n_2 c_3 w rfl h hp
  have cpp_3 := rowCap h 1 rfl
  refine ⟨_, rfl, ?_⟩
  refine cond_both hp (fun hp => ?_) (fun hp => ?_)
  · replace h := rowNil enc51 51 7 h
    exact hR ([] : List (Int × Int × Int × Int × Int × Int × Bool)) list_2 now_3 m_1 (none ) 0 0 p_3 list_2.length c_3 hd _ rfl rfl h hp
  obtain ⟨Q, hq, hp⟩ := hp
  refine ⟨fun out5p out5l out5c w => ∃ (out : List (Int × Int × Int × Int × Int × Int × Bool)), ∃ (m_3 : List (Nat × (Int × Int × Int × Int × Int × Int × Bool × (List (Int × Int))))), ∃ (hd_2 : Nat → Option Addr × Nat), out5l = out.length ∧ Q out m_3 ∧ Mem (cel b_1 64 [(Value.int .u32 box), (Value.int .i64 box_1), (Value.int .i64 box_2), (Value.int .i64 box_3), (Value.int .i64 box_4), (Value.int .i64 box_5), (Value.int .i64 box_6), (Value.slice p_3 list_2.length c_3), (Value.int .i64 now_3)] :: row enc67 67 1 p_3 c_3 list_2 :: stoP stoE71 hd_2 m_3 :: row enc51 51 7 out5p out5c out :: FL) w, ?_, ?_⟩
  · rintro out5p out5l out5c w ⟨out, m_3, hd_2, rfl, hp, h⟩
    replace hp := hq out m_3 hp
    unfold nat_Nat_All_j1
    have cpout5p := rowCap h 3 rfl
    replace h : Mem ((fun (_ : Unit) => HL []) () :: cel b_1 64 [(Value.int .u32 box), (Value.int .i64 box_1), (Value.int .i64 box_2), (Value.int .i64 box_3), (Value.int .i64 box_4), (Value.int .i64 box_5), (Value.int .i64 box_6), (Value.slice p_3 list_2.length c_3), (Value.int .i64 now_3)] :: row enc67 67 1 p_3 c_3 list_2 :: stoP stoE71 hd_2 m_3 :: row enc51 51 7 out5p out5c out :: FL) _ := h.pack 0 [] rfl
    replace h := h.pick [4, 0]
    dsimp only [pickL, pickR, nthH, delH, dropH, List.cons_append, List.nil_append] at h
    have hSr71 := stoRo71 (h.drop 2) 2 rfl
    refine slices_SortFunc_sl_api_Binding_api_Binding_ok (FL := cel b_1 64 [(Value.int .u32 box), (Value.int .i64 box_1), (Value.int .i64 box_2), (Value.int .i64 box_3), (Value.int .i64 box_4), (Value.int .i64 box_5), (Value.int .i64 box_6), (Value.slice p_3 list_2.length c_3), (Value.int .i64 now_3)] :: row enc67 67 1 p_3 c_3 list_2 :: stoP stoE71 hd_2 m_3 :: FL) (A1 := (fun (_ : Unit) => HL [])) (Y1 := (fun x_3 x_4 s K_1 => nat_Nat_All_c1_wp x_3.1 x_3.2.1 x_3.2.2.1 x_3.2.2.2.1 x_3.2.2.2.2.1 x_3.2.2.2.2.2.1 x_3.2.2.2.2.2.2 x_4.1 x_4.2.1 x_4.2.2.1 x_4.2.2.2.1 x_4.2.2.2.2.1 x_4.2.2.2.2.2.1 x_4.2.2.2.2.2.2 (fun (r : Int) => K_1 r s))) (σ1 := Unit) (s := ()) ?_ rfl (by kernel_rfl) (enters_of Try.func34 (by kernel_rfl) rfl) (by repeat (first | exact exact_nil | refine exact_cons (exact_cel _ _ _) ?_)) h hp ?_
    · intro x_3 x_4 s K FL2 w R hx h hp hR
      replace h := h.unpack
      dsimp only [pickL, pickR, nthH, delH, dropH, List.cons_append, List.nil_append] at h
      refine calleeFn (by kernel_rfl) ?_
      refine nat_Nat_All_c1_ok h hp ?_
      intro r w h hp
      exact hR r s _ (h.pack 0 [] rfl) hp
    rintro rs s_1 w hl_rs h hp
    replace h := h.pick [1]
    dsimp only [pickL, pickR, nthH, delH, dropH, List.cons_append, List.nil_append] at h
    replace h := h.unpack
    dsimp only [pickL, pickR, nthH, delH, dropH, List.cons_append, List.nil_append] at h
    refine ⟨rfl, ?_⟩
    exact hR rs list_2 now_3 m_3 out5p out.length out5c p_3 list_2.length c_3 hd_2 _ hl_rs rfl h hp
  clear hq
  refine ⟨_, rfl, ?_⟩
  refine ⟨_, _, _, cellL h 0 7 rfl rfl rfl, ?_⟩
  obtain ⟨I, ⟨n_5, h0⟩, hq⟩ := hp
  replace h := rowNil enc51 51 7 h
  replace h := h.sel [1, 1, 1, 0] 0
  dsimp only [pickL, pickR, nthH, delH, dropH, List.cons_append, List.nil_append] at h
  refine ⟨fun n_3 out5_1p out5_1l out5_1c t15p t15l t15c t16 t17 w => ∃ (out_1 : List (Int × Int × Int × Int × Int × Int × Bool)), ∃ (m_4 : List (Nat × (Int × Int × Int × Int × Int × Int × Bool × (List (Int × Int))))), ∃ (hd_3 : Nat → Option Addr × Nat), p_3 = t15p ∧ list_2.length = t15l ∧ c_3 = t15c ∧ ((list_2.length : Nat) : Int) = t16 ∧ out5_1l = out_1.length ∧ I n_3 out_1 t17 m_4 ∧ Mem (cel b_1 64 [(Value.int .u32 box), (Value.int .i64 box_1), (Value.int .i64 box_2), (Value.int .i64 box_3), (Value.int .i64 box_4), (Value.int .i64 box_5), (Value.int .i64 box_6), (Value.slice p_3 list_2.length c_3), (Value.int .i64 now_3)] :: row enc67 67 1 p_3 c_3 list_2 :: stoP stoE71 hd_3 m_4 :: row enc51 51 7 out5_1p out5_1c out_1 :: FL) w, ⟨n_5, ([] : List (Int × Int × Int × Int × Int × Int × Bool)), m_1, hd, rfl, rfl, rfl, rfl, rfl, h0, h⟩, ?_⟩
  clear h0 h
  rintro n_3 out5_1p out5_1l out5_1c t15p t15l t15c t16 t17 w ⟨out_1, m_4, hd_3, rfl, rfl, rfl, rfl, rfl, hp, h⟩
  replace hp := hq n_3 out_1 t17 m_4 hp
  clear hq
  unfold nat_Nat_All_l2
  have cpout5_1p := rowCap h 3 rfl
  refine cond_both' hp (fun hp => ?_) (fun hp => ?_)
  · exact ⟨out_1, m_4, hd_3, rfl, hp, h⟩
  obtain ⟨ia_1, ja_1, hp⟩ := hp
  obtain ⟨a_1, ha_1⟩ := rdAddr (rowRd h 1 encL67 rfl) rfl ia_1 ja_1
  refine ⟨a_1, ha_1, ia_1, ja_1, ?_⟩
  obtain ⟨x_1, hx_1, hc⟩ := rdCell0 (rowRd h 1 encL67 rfl) ha_1 rfl ia_1 ja_1
  replace hp := hp x_1 hx_1
  refine ⟨_, hc _ rfl, ?_⟩
  obtain ⟨b_2, hb_2, hp⟩ := hp
  refine ⟨_, pnSome hb_2, ?_⟩
  obtain ⟨x_2, hx_2, hp⟩ := hp
  replace h := stoOpen stoX71 h 2 rfl hx_2
  dsimp only [setH] at h
  obtain ⟨p_5, c_4, hux_2⟩ : ∃ p_5 c_4, hd_3 b_2 = (p_5, c_4) := ⟨_, _, rfl⟩
  rw [hux_2] at h
  replace h : Mem (cel b_2 71 [(Value.int .u32 x_2.1), (Value.int .i64 x_2.2.1), (Value.int .u32 x_2.2.2.1), (Value.int .i64 x_2.2.2.2.1), (Value.int .i64 x_2.2.2.2.2.1), (Value.int .i64 x_2.2.2.2.2.2.1), (Value.bool x_2.2.2.2.2.2.2.1), (Value.slice p_5 x_2.2.2.2.2.2.2.2.length c_4)] :: row enc24 24 2 p_5 c_4 x_2.2.2.2.2.2.2.2 :: cel b_1 64 [(Value.int .u32 box), (Value.int .i64 box_1), (Value.int .i64 box_2), (Value.int .i64 box_3), (Value.int .i64 box_4), (Value.int .i64 box_5), (Value.int .i64 box_6), (Value.slice p_3 list_2.length c_3), (Value.int .i64 now_3)] :: row enc67 67 1 p_3 c_3 list_2 :: stoP stoE71 hd_3 (delS m_4 b_2) :: row enc51 51 7 out5_1p out5_1c out_1 :: FL) _ := h.unpack
  have cpp_5 := rowCap h 1 rfl
  refine ⟨_, cellL h 0 0 rfl rfl rfl, _, cellL h 0 1 rfl rfl rfl, _, cellL h 0 2 rfl rfl rfl, _, cellL h 0 3 rfl rfl rfl, _, cellL h 0 4 rfl rfl rfl, _, cellL h 0 5 rfl rfl rfl, _, cellL h 0 6 rfl rfl rfl, ?_⟩
  refine newL (o := [(Value.int .u32 x_2.1), (Value.int .i64 x_2.2.1), (Value.int .u32 x_2.2.2.1), (Value.int .i64 x_2.2.2.2.1), (Value.int .i64 x_2.2.2.2.2.1), (Value.int .i64 x_2.2.2.2.2.2.1), (Value.bool x_2.2.2.2.2.2.2.1)]) h ?_
  intro b_3 w h
  have sr := (celRd h 0 encL51 rfl [(x_2.1, x_2.2.1, x_2.2.2.1, x_2.2.2.2.1, x_2.2.2.2.2.1, x_2.2.2.2.2.2.1, x_2.2.2.2.2.2.2.1)] rfl)
  obtain ⟨hb, hp⟩ := hp
  refine appendL slt42 und42 encL51 encO51 h 6 rfl rfl sr rfl hb ?_
  intro p_6 c_5 w h
  dsimp only [setH, setVs, setV] at h
  have cpp_6 := rowCap h 6 rfl
  refine ⟨_, _, _, rfl, ?_⟩
  replace h := h.pick [1, 1]
  dsimp only [pickL, pickR, nthH, delH, dropH, List.cons_append, List.nil_append] at h
  replace h : Mem (stoE71 (p_5, c_4) b_2 x_2 :: cel b_3 51 [(Value.int .u32 x_2.1), (Value.int .i64 x_2.2.1), (Value.int .u32 x_2.2.2.1), (Value.int .i64 x_2.2.2.2.1), (Value.int .i64 x_2.2.2.2.2.1), (Value.int .i64 x_2.2.2.2.2.2.1), (Value.bool x_2.2.2.2.2.2.2.1)] :: cel b_1 64 [(Value.int .u32 box), (Value.int .i64 box_1), (Value.int .i64 box_2), (Value.int .i64 box_3), (Value.int .i64 box_4), (Value.int .i64 box_5), (Value.int .i64 box_6), (Value.slice p_3 list_2.length c_3), (Value.int .i64 now_3)] :: row enc67 67 1 p_3 c_3 list_2 :: stoP stoE71 hd_3 (delS m_4 b_2) :: row enc51 51 7 p_6 c_5 (out_1 ++ [(x_2.1, x_2.2.1, x_2.2.2.1, x_2.2.2.2.1, x_2.2.2.2.2.1, x_2.2.2.2.2.2.1, x_2.2.2.2.2.2.2.1)]) :: FL) _ := h.pack 2 [cel b_2 71 [(Value.int .u32 x_2.1), (Value.int .i64 x_2.2.1), (Value.int .u32 x_2.2.2.1), (Value.int .i64 x_2.2.2.2.1), (Value.int .i64 x_2.2.2.2.2.1), (Value.int .i64 x_2.2.2.2.2.2.1), (Value.bool x_2.2.2.2.2.2.2.1), (Value.slice p_5 x_2.2.2.2.2.2.2.2.length c_4)], row enc24 24 2 p_5 c_4 x_2.2.2.2.2.2.2.2] rfl
  replace h := stoClose h 3 (by simp only [List.length_cons]; omega) rfl
  dsimp only [setH] at h
  replace h := h.sel [1, 1, 1, 1] 1
  dsimp only [pickL, pickR, nthH, delH, dropH, List.cons_append, List.nil_append] at h
  obtain ⟨n_4, hn, hp⟩ := hp
  exact ⟨n_4, hn, (out_1 ++ [(x_2.1, x_2.2.1, x_2.2.2.1, x_2.2.2.2.1, x_2.2.2.2.2.1, x_2.2.2.2.2.2.1, x_2.2.2.2.2.2.2.1)]), (putS m_4 b_2 x_2), (updF hd_3 b_2 (p_5, c_4)), rfl, rfl, rfl, rfl, rfl, hp, h⟩

/-! (*embrasure/embrasureref08.Nat).All (25) -/
def embrasureref08_Nat_All_wp (Box : Int) (Box_1 : Int) (Box_2 : Int) (Box_3 : Int) (Box_4 : Int) (Box_5 : Int) (Box_6 : Int) (L : List (Int × Int × Int × Int × Int × Int × Bool × (Option Addr × Nat × Nat))) (Now : Int) (now : Int) (K : List (Int × Int × Int × Int × Int × Int × Bool) → List (Int × Int × Int × Int × Int × Int × Bool × (Option Addr × Nat × Nat)) → Int → Prop) : Prop :=
  embrasureref08_Nat_on_wp Box Box_1 Box_2 Box_3 Box_4 Box_5 Box_6 L Now now (fun (r : Bool) (L_2 : List (Int × Int × Int × Int × Int × Int × Bool × (Option Addr × Nat × Nat))) (Now_2 : Int) => cond (!r) (K ([] : List (Int × Int × Int × Int × Int × Int × Bool)) L_2 Now_2) (∃ (I : Nat → List (Int × Int × Int × Int × Int × Int × Bool) → Int → Prop), (∃ (n_5 : Nat), I n_5 ([] : List (Int × Int × Int × Int × Int × Int × Bool)) 0) ∧ ∀ (n_3 : Nat) (out : List (Int × Int × Int × Int × Int × Int × Bool)) (i6 : Int), I n_3 out i6 → (cond (decide ((i6 : Int) < ((L_2.length : Nat) : Int))) (0 ≤ (i6 : Int) ∧ (i6 : Int) < ((L_2.length : Nat) : Int) ∧ (∀ (x_1 : Int × Int × Int × Int × Int × Int × Bool × (Option Addr × Nat × Nat)), L_2[Int.toNat i6]? = some x_1 → ((out.length + [(x_1.1, x_1.2.1, x_1.2.2.1, x_1.2.2.2.1, x_1.2.2.2.2.1, x_1.2.2.2.2.2.1, x_1.2.2.2.2.2.2.1)].length) * 56 ≤ 140737488355328 ∧ (∃ (n_4 : Nat), n_4 < n_3 ∧ I n_4 (out ++ [(x_1.1, x_1.2.1, x_1.2.2.1, x_1.2.2.2.1, x_1.2.2.2.2.1, x_1.2.2.2.2.2.1, x_1.2.2.2.2.2.2.1)]) (IntKind.wrap .i64 (i6 + 1)))))) (K out L_2 Now_2))))
theorem embrasureref08_Nat_All_ok {b_1 : Nat} {p_1 : Option Addr} {c_1 : Nat} {Box : Int} {Box_1 : Int} {Box_2 : Int} {Box_3 : Int} {Box_4 : Int} {Box_5 : Int} {Box_6 : Int} {L : List (Int × Int × Int × Int × Int × Int × Bool × (Option Addr × Nat × Nat))} {Now : Int} {now : Int} {FL : List HP} {w : World} {K : List (Int × Int × Int × Int × Int × Int × Bool) → List (Int × Int × Int × Int × Int × Int × Bool × (Option Addr × Nat × Nat)) → Int → Prop} {R : Value → World → Prop}
  (h : Mem (cel b_1 58 [(Value.int .u32 Box), (Value.int .i64 Box_1), (Value.int .i64 Box_2), (Value.int .i64 Box_3), (Value.int .i64 Box_4), (Value.int .i64 Box_5), (Value.int .i64 Box_6), (Value.slice p_1 L.length c_1), (Value.int .i64 Now)] :: row enc84 84 8 p_1 c_1 L :: FL) w) (hp : embrasureref08_Nat_All_wp Box Box_1 Box_2 Box_3 Box_4 Box_5 Box_6 L Now now K)
  (hR : ∀ (rs : List (Int × Int × Int × Int × Int × Int × Bool)) (L_1 : List (Int × Int × Int × Int × Int × Int × Bool × (Option Addr × Nat × Nat))) (Now_1 : Int) (p_3 : Option Addr) (n_2 : Nat) (c_3 : Nat) (p_2 : Option Addr) (n_1 : Nat) (c_2 : Nat) (w : World), n_2 = rs.length → n_1 = L_1.length → Mem (row enc51 51 7 p_3 c_3 rs :: cel b_1 58 [(Value.int .u32 Box), (Value.int .i64 Box_1), (Value.int .i64 Box_2), (Value.int .i64 Box_3), (Value.int .i64 Box_4), (Value.int .i64 Box_5), (Value.int .i64 Box_6), (Value.slice p_2 n_1 c_2), (Value.int .i64 Now_1)] :: row enc84 84 8 p_2 c_2 L_1 :: FL) w → K rs L_1 Now_1 → R (Value.slice p_3 n_2 c_3) w) :
  CallV Try.prog 25 #[(Value.pointer (some (Addr.mk b_1 0 none))), (Value.int .i64 now)] w R := by
  refine embrasureref08_Nat_All_call ?_
  unfold embrasureref08_Nat_All
  unfold embrasureref08_Nat_All_wp at hp
  have cpp_1 := rowCap h 1 rfl
  refine embrasureref08_Nat_on_ok h hp ?_
  rintro r L_2 Now_2 p_3 n_2 c_3 w rfl h hp
  have cpp_3 := rowCap h 1 rfl
  refine ⟨_, rfl, ?_⟩
  refine cond_both hp (fun hp => ?_) (fun hp => ?_)
  · replace h := rowNil enc51 51 7 h
    exact hR ([] : List (Int × Int × Int × Int × Int × Int × Bool)) L_2 Now_2 (none ) 0 0 p_3 L_2.length c_3 _ rfl rfl h hp
  obtain ⟨I, ⟨n_5, h0⟩, hq⟩ := hp
  replace h := rowNil enc51 51 7 h
  replace h := h.sel [1, 1, 0] 0
  dsimp only [pickL, pickR, nthH, delH, dropH, List.cons_append, List.nil_append] at h
  refine ⟨fun n_3 n0 out5p out5l out5c i6 w => ∃ (out : List (Int × Int × Int × Int × Int × Int × Bool)), (some (Addr.mk b_1 0 none)) = n0 ∧ out5l = out.length ∧ I n_3 out i6 ∧ Mem (cel b_1 58 [(Value.int .u32 Box), (Value.int .i64 Box_1), (Value.int .i64 Box_2), (Value.int .i64 Box_3), (Value.int .i64 Box_4), (Value.int .i64 Box_5), (Value.int .i64 Box_6), (Value.slice p_3 L_2.length c_3), (Value.int .i64 Now_2)] :: row enc84 84 8 p_3 c_3 L_2 :: row enc51 51 7 out5p out5c out :: FL) w, ⟨n_5, ([] : List (Int × Int × Int × Int × Int × Int × Bool)), rfl, rfl, h0, h⟩, ?_⟩
  clear h0 h
  rintro n_3 n0 out5p out5l out5c i6 w ⟨out, rfl, rfl, hp, h⟩
  replace hp := hq n_3 out i6 hp
  clear hq
  unfold embrasureref08_Nat_All_l1
  have cpout5p := rowCap h 2 rfl
  refine ⟨_, rfl, ?_⟩
  refine ⟨_, _, _, cellL h 0 7 rfl rfl rfl, ?_⟩
  refine cond_both' hp (fun hp => ?_) (fun hp => ?_)
  · replace h := h.sel [2, 0, 0] 0
    dsimp only [pickL, pickR, nthH, delH, dropH, List.cons_append, List.nil_append] at h
    exact hR out L_2 Now_2 out5p out.length out5c p_3 L_2.length c_3 _ rfl rfl h hp
  refine ⟨_, rfl, ?_⟩
  refine ⟨_, _, _, cellL h 0 7 rfl rfl rfl, ?_⟩
  obtain ⟨ia_1, ja_1, hp⟩ := hp
  obtain ⟨a_1, ha_1⟩ := rdAddr (rowRd h 1 encL84 rfl) rfl ia_1 ja_1
  refine ⟨a_1, ha_1, ia_1, ja_1, ?_⟩
  obtain ⟨x_1, hx_1, hc⟩ := rdCell2 (rowRd h 1 encL84 rfl) ha_1 rfl ia_1 ja_1
  replace hp := hp x_1 hx_1
  refine ⟨_, hc 0 0 _ rfl, _, hc 0 1 _ rfl, _, hc 0 2 _ rfl, _, hc 0 3 _ rfl, _, hc 0 4 _ rfl, _, hc 0 5 _ rfl, _, hc 0 6 _ rfl, ?_⟩
  refine newL (o := [(Value.int .u32 x_1.1), (Value.int .i64 x_1.2.1), (Value.int .u32 x_1.2.2.1), (Value.int .i64 x_1.2.2.2.1), (Value.int .i64 x_1.2.2.2.2.1), (Value.int .i64 x_1.2.2.2.2.2.1), (Value.bool x_1.2.2.2.2.2.2.1)]) h ?_
  intro b_2 w h
  have sr := (celRd h 0 encL51 rfl [(x_1.1, x_1.2.1, x_1.2.2.1, x_1.2.2.2.1, x_1.2.2.2.2.1, x_1.2.2.2.2.2.1, x_1.2.2.2.2.2.2.1)] rfl)
  obtain ⟨hb, hp⟩ := hp
  refine appendL slt42 und42 encL51 encO51 h 3 rfl rfl sr rfl hb ?_
  intro p_5 c_4 w h
  dsimp only [setH, setVs, setV] at h
  have cpp_5 := rowCap h 3 rfl
  refine ⟨_, _, _, rfl, ?_⟩
  replace h := h.sel [1, 1, 1] 1
  dsimp only [pickL, pickR, nthH, delH, dropH, List.cons_append, List.nil_append] at h
  obtain ⟨n_4, hn, hp⟩ := hp
  exact ⟨n_4, hn, (out ++ [(x_1.1, x_1.2.1, x_1.2.2.1, x_1.2.2.2.1, x_1.2.2.2.2.1, x_1.2.2.2.2.2.1, x_1.2.2.2.2.2.2.1)]), rfl, rfl, hp, h⟩

/-! embrasure/embrasureref08.Same (24) -/
def embrasureref08_Same_wp (a_1 : List (Int × Int × Int × Int × Int × Int × Bool)) (b_1 : List (Int × Int × Int × Int × Int × Int × Bool)) (K : Bool → Prop) : Prop :=
  cond ((((a_1.length : Nat) : Int) : Int) != ((b_1.length : Nat) : Int)) (K false) (∃ (I : Nat → Int → Prop), (∃ (n_5 : Nat), I n_5 0) ∧ ∀ (n_3 : Nat) (i5 : Int), I n_3 i5 → (cond (decide ((i5 : Int) < ((a_1.length : Nat) : Int))) (0 ≤ (i5 : Int) ∧ (i5 : Int) < ((a_1.length : Nat) : Int) ∧ (∀ (x_1 : Int × Int × Int × Int × Int × Int × Bool), a_1[Int.toNat i5]? = some x_1 → (0 ≤ (i5 : Int) ∧ (i5 : Int) < ((b_1.length : Nat) : Int) ∧ (∀ (x_2 : Int × Int × Int × Int × Int × Int × Bool), b_1[Int.toNat i5]? = some x_2 → (cond (!((((x_1.1 : Int) == x_2.1) && (((x_1.2.1 : Int) == x_2.2.1) && true)) && ((((x_1.2.2.1 : Int) == x_2.2.2.1) && (((x_1.2.2.2.1 : Int) == x_2.2.2.2.1) && true)) && (((x_1.2.2.2.2.1 : Int) == x_2.2.2.2.2.1) && (((x_1.2.2.2.2.2.1 : Int) == x_2.2.2.2.2.2.1) && ((x_1.2.2.2.2.2.2 == x_2.2.2.2.2.2.2) && true)))))) (K false) (∃ (n_4 : Nat), n_4 < n_3 ∧ I n_4 (IntKind.wrap .i64 (i5 + 1)))))))) (K true)))
theorem embrasureref08_Same_ok {p_1 : Option Addr} {n_1 : Nat} {c_1 : Nat} {p_2 : Option Addr} {n_2 : Nat} {c_2 : Nat} {a_1 : List (Int × Int × Int × Int × Int × Int × Bool)} {b_1 : List (Int × Int × Int × Int × Int × Int × Bool)} {FL : List HP} {w : World} {K : Bool → Prop} {R : Value → World → Prop}
  (hF_a_1 : ∀ w, Mem FL w → Rd w 7 p_1 enc51 a_1) (hl_a_1 : n_1 = a_1.length) (hc_a_1 : n_1 ≤ c_1)
  (hF_b_1 : ∀ w, Mem FL w → Rd w 7 p_2 enc51 b_1) (hl_b_1 : n_2 = b_1.length) (hc_b_1 : n_2 ≤ c_2)
  (h : Mem (FL) w) (hp : embrasureref08_Same_wp a_1 b_1 K)
  (hR : ∀ (r : Bool) (w : World), Mem (FL) w → K r → R (Value.bool r) w) :
  CallV Try.prog 24 #[(Value.slice p_1 n_1 c_1), (Value.slice p_2 n_2 c_2)] w R := by
  refine embrasureref08_Same_call ?_
  unfold embrasureref08_Same
  unfold embrasureref08_Same_wp at hp
  subst hl_a_1
  subst hl_b_1
  refine cond_both hp (fun hp => ?_) (fun hp => ?_)
  · exact hR false _ h hp
  obtain ⟨I, ⟨n_5, h0⟩, hq⟩ := hp
  refine ⟨fun n_3 a0p a0l a0c b1p b1l b1c i5 w => p_1 = a0p ∧ a_1.length = a0l ∧ c_1 = a0c ∧ p_2 = b1p ∧ b_1.length = b1l ∧ c_2 = b1c ∧ I n_3 i5 ∧ Mem (FL) w, ⟨n_5, rfl, rfl, rfl, rfl, rfl, rfl, h0, h⟩, ?_⟩
  clear h0 h
  rintro n_3 a0p a0l a0c b1p b1l b1c i5 w ⟨rfl, rfl, rfl, rfl, rfl, rfl, hp, h⟩
  replace hp := hq n_3 i5 hp
  clear hq
  unfold embrasureref08_Same_l1
  refine cond_both' hp (fun hp => ?_) (fun hp => ?_)
  · exact hR true _ h hp
  replace h := h.drew
  obtain ⟨ia_2, ja_2, hp⟩ := hp
  obtain ⟨a_2, ha_2⟩ := rdAddr (hF_a_1 _ (h.drop 0)) rfl ia_2 ja_2
  refine ⟨a_2, ha_2, ia_2, ja_2, ?_⟩
  obtain ⟨x_1, hx_1, hc⟩ := rdCell (hF_a_1 _ (h.drop 0)) ha_2 rfl ia_2 ja_2
  replace hp := hp x_1 hx_1
  refine ⟨_, hc 0 _ rfl, _, hc 1 _ rfl, _, hc 2 _ rfl, _, hc 3 _ rfl, _, hc 4 _ rfl, _, hc 5 _ rfl, _, hc 6 _ rfl, ?_⟩
  obtain ⟨ia_3, ja_3, hp⟩ := hp
  obtain ⟨a_3, ha_3⟩ := rdAddr (hF_b_1 _ (h.drop 0)) rfl ia_3 ja_3
  refine ⟨a_3, ha_3, ia_3, ja_3, ?_⟩
  obtain ⟨x_2, hx_2, hc⟩ := rdCell (hF_b_1 _ (h.drop 0)) ha_3 rfl ia_3 ja_3
  replace hp := hp x_2 hx_2
  refine ⟨_, hc 0 _ rfl, _, hc 1 _ rfl, _, hc 2 _ rfl, _, hc 3 _ rfl, _, hc 4 _ rfl, _, hc 5 _ rfl, _, hc 6 _ rfl, ?_⟩
  refine neqAgg (xs := [(Value.int .u32 x_1.1), (Value.int .i64 x_1.2.1), (Value.int .u32 x_1.2.2.1), (Value.int .i64 x_1.2.2.2.1), (Value.int .i64 x_1.2.2.2.2.1), (Value.int .i64 x_1.2.2.2.2.2.1), (Value.bool x_1.2.2.2.2.2.2)]) (ys := [(Value.int .u32 x_2.1), (Value.int .i64 x_2.2.1), (Value.int .u32 x_2.2.2.1), (Value.int .i64 x_2.2.2.2.1), (Value.int .i64 x_2.2.2.2.2.1), (Value.int .i64 x_2.2.2.2.2.2.1), (Value.bool x_2.2.2.2.2.2.2)]) eqG51 eqA51 (eqT51 x_1.1 x_1.2.1 x_1.2.2.1 x_1.2.2.2.1 x_1.2.2.2.2.1 x_1.2.2.2.2.2.1 x_1.2.2.2.2.2.2 x_2.1 x_2.2.1 x_2.2.2.1 x_2.2.2.2.1 x_2.2.2.2.2.1 x_2.2.2.2.2.2.1 x_2.2.2.2.2.2.2) ?_
  refine ⟨_, rfl, ?_⟩
  refine ⟨rfl, ?_⟩
  refine cond_both hp (fun hp => ?_) (fun hp => ?_)
  · exact hR false _ h hp
  obtain ⟨n_4, hn, hp⟩ := hp
  exact ⟨n_4, hn, rfl, rfl, rfl, rfl, rfl, rfl, hp, h⟩

/-! embrasure/embrasurelaw08.NatPlays (8) -/
def embrasurelaw08_NatPlays_wp (box_Host : Int) (box_Lo : Int) (box_Hi : Int) (box_Map : Int) (box_Filter : Int) (box_Life : Int) (box_Most : Int) (script : List (Int × Int × Int × Int × Int × Int × Int × Int)) (K : Bool → Prop) : Prop :=
  embrasurelaw08_awake_wp (fun (r : Bool) => cond (!r) (K false) (nat_New_wp box_Host box_Lo box_Hi box_Map box_Filter box_Life box_Most (fun (r_1 : Int) => embrasureref08_May_wp box_Host box_Lo box_Hi box_Map box_Filter box_Life box_Most (fun (r_2 : Bool) => cond (!r_2) (K ((r_1 : Int) == 1)) (joinP1 (fun (t50 : Bool) => cond t50 (K false) (∃ (I : Nat → Prop), (∃ (n_3 : Nat), I n_3 ) ∧ ∀ (n_2 : Nat), I n_2  → (joinP1 (fun (t61 : Bool) => cond t61 (0 ≤ (0 : Int) ∧ (0 : Int) < ((script.length : Nat) : Int) ∧ (∀ (x_1 : Int × Int × Int × Int × Int × Int × Int × Int), script[Int.toNat 0]? = some x_1 → (joinP1 (fun (now8_2 : Int) => cond ((x_1.1 : Int) == 0) (False) (cond ((x_1.1 : Int) == 1) (False) (cond ((x_1.1 : Int) == 2) (False) (cond ((x_1.1 : Int) == 3) (False) (False))))) (fun (Q_2 : Int → Prop) => joinP1 (fun (t75 : Bool) => cond t75 (Q_2 (IntKind.wrap .i64 (0 + x_1.2.1))) (Q_2 0)) (fun (Q_3 : Bool → Prop) => cond (decide ((x_1.2.1 : Int) > (-100))) (Q_3 (decide ((x_1.2.1 : Int) < 1125899906842624))) (Q_3 false)))))) (K true)) (fun (Q_1 : Bool → Prop) => cond (decide ((0 : Int) < ((script.length : Nat) : Int))) (Q_1 (decide ((0 : Int) < 60))) (Q_1 false))))) (fun (Q : Bool → Prop) => Q true)))) (fun (r_3 : Int) (box : Int) (box_1 : Int) (box_2 : Int) (box_3 : Int) (box_4 : Int) (box_5 : Int) (box_6 : Int) (list : List (Option Nat)) (now : Int) => embrasureref08_May_wp box_Host box_Lo box_Hi box_Map box_Filter box_Life box_Most (fun (r_4 : Bool) => cond (!r_4) (K false) (joinP1 (fun (t50_1 : Bool) => cond t50_1 (K false) (∃ (I_1 : Nat → List (Int × Int × Int × Int × Int × Int × Bool × (Option Addr × Nat × Nat)) → Int → List (Option Nat) → Int → Int → Int → List ((Option Addr × Nat × Nat) × List (Int × Int)) → List (Nat × (Int × Int × Int × Int × Int × Int × Bool × (List (Int × Int)))) → Prop), (∃ (n_24 : Nat), I_1 n_24 ([] : List (Int × Int × Int × Int × Int × Int × Bool × (Option Addr × Nat × Nat))) 0 list now 0 0 ([] : List ((Option Addr × Nat × Nat) × List (Int × Int))) ([] : List (Nat × (Int × Int × Int × Int × Int × Int × Bool × (List (Int × Int)))))) ∧ ∀ (n_7 : Nat) (L : List (Int × Int × Int × Int × Int × Int × Bool × (Option Addr × Nat × Nat))) (Now : Int) (list_1 : List (Option Nat)) (now_1 : Int) (now8_5 : Int) (i9_5 : Int) (m_1 : List ((Option Addr × Nat × Nat) × List (Int × Int))) (m_2 : List (Nat × (Int × Int × Int × Int × Int × Int × Bool × (List (Int × Int))))), I_1 n_7 L Now list_1 now_1 now8_5 i9_5 m_1 m_2 → (joinP1 (fun (t61_1 : Bool) => cond t61_1 (0 ≤ (i9_5 : Int) ∧ (i9_5 : Int) < ((script.length : Nat) : Int) ∧ (∀ (x_2 : Int × Int × Int × Int × Int × Int × Int × Int), script[Int.toNat i9_5]? = some x_2 → (joinP1 (fun (now8_7 : Int) => joinP6 (fun (L_1 : List (Int × Int × Int × Int × Int × Int × Bool × (Option Addr × Nat × Nat))) (Now_1 : Int) (list_2 : List (Option Nat)) (now_2 : Int) (m_3 : List ((Option Addr × Nat × Nat) × List (Int × Int))) (m_4 : List (Nat × (Int × Int × Int × Int × Int × Int × Bool × (List (Int × Int))))) => nat_Nat_All_wp box box_1 box_2 box_3 box_4 box_5 box_6 list_2 now_2 now8_7 m_4 (fun (rs : List (Int × Int × Int × Int × Int × Int × Bool)) (list_8 : List (Option Nat)) (now_8 : Int) (m_9 : List (Nat × (Int × Int × Int × Int × Int × Int × Bool × (List (Int × Int))))) => embrasureref08_Nat_All_wp box_Host box_Lo box_Hi box_Map box_Filter box_Life box_Most L_1 Now_1 now8_7 (fun (rs_1 : List (Int × Int × Int × Int × Int × Int × Bool)) (L_6 : List (Int × Int × Int × Int × Int × Int × Bool × (Option Addr × Nat × Nat))) (Now_6 : Int) => embrasureref08_Same_wp rs rs_1 (fun (r_30 : Bool) => cond (!r_30) (K false) (∃ (n_23 : Nat), n_23 < n_7 ∧ I_1 n_23 L_6 Now_6 list_8 now_8 (if (0 : Int) > Now_6 then 0 else Now_6) (IntKind.wrap .i64 (i9_5 + 1)) m_3 m_9))))) (fun (Q_9 : List (Int × Int × Int × Int × Int × Int × Bool × (Option Addr × Nat × Nat)) → Int → List (Option Nat) → Int → List ((Option Addr × Nat × Nat) × List (Int × Int)) → List (Nat × (Int × Int × Int × Int × Int × Int × Bool × (List (Int × Int)))) → Prop) => cond ((x_2.1 : Int) == 0) (nat_Nat_Out_wp box box_1 box_2 box_3 box_4 box_5 box_6 list_1 now_1 now8_7 x_2.2.2.1 x_2.2.2.2.1 x_2.2.2.2.2.1 x_2.2.2.2.2.2.1 m_2 (fun (r_12 : Int) (r_13 : Int) (r_14 : Int) (list_3 : List (Option Nat)) (now_3 : Int) (m_5 : List (Nat × (Int × Int × Int × Int × Int × Int × Bool × (List (Int × Int))))) => embrasureref08_Nat_Out_wp box_Host box_Lo box_Hi box_Map box_Filter box_Life box_Most L Now now8_7 x_2.2.2.1 x_2.2.2.2.1 x_2.2.2.2.2.1 x_2.2.2.2.2.2.1 m_1 (fun (r_15 : Int) (r_16 : Int) (r_17 : Int) (L_2 : List (Int × Int × Int × Int × Int × Int × Bool × (Option Addr × Nat × Nat))) (Now_2 : Int) (m_6 : List ((Option Addr × Nat × Nat) × List (Int × Int))) => joinP1 (fun (t119 : Bool) => cond t119 (K false) (Q_9 L_2 Now_2 list_3 now_3 m_6 m_5)) (fun (Q_10 : Bool → Prop) => cond (!(((r_12 : Int) == r_15) && (((r_13 : Int) == r_16) && true))) (Q_10 true) (Q_10 ((r_14 : Int) != r_17)))))) (cond ((x_2.1 : Int) == 1) (nat_Nat_In_wp box box_1 box_2 box_3 box_4 box_5 box_6 list_1 now_1 now8_7 x_2.2.2.2.2.2.2.1 x_2.2.2.2.2.1 x_2.2.2.2.2.2.1 m_2 (fun (r_18 : Int) (r_19 : Int) (r_20 : Int) (list_4 : List (Option Nat)) (now_4 : Int) (m_7 : List (Nat × (Int × Int × Int × Int × Int × Int × Bool × (List (Int × Int))))) => embrasureref08_Nat_In_wp box_Host box_Lo box_Hi box_Map box_Filter box_Life box_Most L Now now8_7 x_2.2.2.2.2.2.2.1 x_2.2.2.2.2.1 x_2.2.2.2.2.2.1 m_1 (fun (r_21 : Int) (r_22 : Int) (r_23 : Int) (L_3 : List (Int × Int × Int × Int × Int × Int × Bool × (Option Addr × Nat × Nat))) (Now_3 : Int) => joinP1 (fun (t149 : Bool) => cond t149 (K false) (Q_9 L_3 Now_3 list_4 now_4 m_1 m_7)) (fun (Q_11 : Bool → Prop) => cond (!(((r_18 : Int) == r_21) && (((r_19 : Int) == r_22) && true))) (Q_11 true) (Q_11 ((r_20 : Int) != r_23)))))) (cond ((x_2.1 : Int) == 2) (nat_Nat_Ask_wp box box_1 box_2 box_3 box_4 box_5 box_6 list_1 now_1 now8_7 x_2.2.2.1 x_2.2.2.2.1 x_2.2.2.2.2.2.2.1 x_2.2.2.2.2.2.2.2 m_2 (fun (r_24 : Int) (r_25 : Int) (list_5 : List (Option Nat)) (now_5 : Int) (m_8 : List (Nat × (Int × Int × Int × Int × Int × Int × Bool × (List (Int × Int))))) => embrasureref08_Nat_Ask_wp box_Host box_Lo box_Hi box_Map box_Filter box_Life box_Most L Now now8_7 x_2.2.2.1 x_2.2.2.2.1 x_2.2.2.2.2.2.2.1 x_2.2.2.2.2.2.2.2 (fun (r_26 : Int) (r_27 : Int) (L_4 : List (Int × Int × Int × Int × Int × Int × Bool × (Option Addr × Nat × Nat))) (Now_4 : Int) => joinP1 (fun (t183 : Bool) => cond t183 (K false) (Q_9 L_4 Now_4 list_5 now_5 m_1 m_8)) (fun (Q_12 : Bool → Prop) => cond ((r_24 : Int) != r_26) (Q_12 true) (Q_12 ((r_25 : Int) != r_27)))))) (cond ((x_2.1 : Int) == 3) (nat_Nat_Drop_wp box box_1 box_2 box_3 box_4 box_5 box_6 list_1 now_1 now8_7 x_2.2.2.1 x_2.2.2.2.1 m_2 (fun (r_28 : Bool) (list_6 : List (Option Nat)) (now_6 : Int) => embrasureref08_Nat_Drop_wp box_Host box_Lo box_Hi box_Map box_Filter box_Life box_Most L Now now8_7 x_2.2.2.1 x_2.2.2.2.1 (fun (r_29 : Bool) (L_5 : List (Int × Int × Int × Int × Int × Int × Bool × (Option Addr × Nat × Nat))) (Now_5 : Int) => cond (!(r_28 == r_29)) (K false) (Q_9 L_5 Now_5 list_6 now_6 m_1 m_2)))) (nat_Nat_Reboot_wp box box_1 box_2 box_3 box_4 box_5 box_6 now_1 (fun (list_7 : List (Option Nat)) (now_7 : Int) => Q_9 ([] : List (Int × Int × Int × Int × Int × Int × Bool × (Option Addr × Nat × Nat))) 0 list_7 now_7 m_1 m_2))))))) (fun (Q_7 : Int → Prop) => joinP1 (fun (t75_1 : Bool) => cond t75_1 (Q_7 (IntKind.wrap .i64 (now8_5 + x_2.2.1))) (Q_7 now8_5)) (fun (Q_8 : Bool → Prop) => cond (decide ((x_2.2.1 : Int) > (-100))) (Q_8 (decide ((x_2.2.1 : Int) < 1125899906842624))) (Q_8 false)))))) (K true)) (fun (Q_6 : Bool → Prop) => cond (decide ((i9_5 : Int) < ((script.length : Nat) : Int))) (Q_6 (decide ((i9_5 : Int) < 60))) (Q_6 false))))) (fun (Q_5 : Bool → Prop) => cond ((r_3 : Int) != 0) (Q_5 true) (nat_Nat_Box_wp box box_1 box_2 box_3 box_4 box_5 box_6 now (fun (r_5 : Int) (r_6 : Int) (r_7 : Int) (r_8 : Int) (r_9 : Int) (r_10 : Int) (r_11 : Int) => Q_5 (!(((r_5 : Int) == box_Host) && (((r_6 : Int) == box_Lo) && (((r_7 : Int) == box_Hi) && (((r_8 : Int) == box_Map) && (((r_9 : Int) == box_Filter) && (((r_10 : Int) == box_Life) && (((r_11 : Int) == box_Most) && true))))))))))))))))
theorem embrasurelaw08_NatPlays_ok {p_1 : Option Addr} {n_1 : Nat} {c_1 : Nat} {box_Host : Int} {box_Lo : Int} {box_Hi : Int} {box_Map : Int} {box_Filter : Int} {box_Life : Int} {box_Most : Int} {script : List (Int × Int × Int × Int × Int × Int × Int × Int)} {FL : List HP} {w : World} {K : Bool → Prop} {R : Value → World → Prop}
  (hF_script : ∀ w, Mem FL w → Rd w 8 p_1 enc47 script) (hl_script : n_1 = script.length) (hc_script : n_1 ≤ c_1)
  (h : Mem (FL) w) (hp : embrasurelaw08_NatPlays_wp box_Host box_Lo box_Hi box_Map box_Filter box_Life box_Most script K)
  (hR : ∀ (r : Bool) (w : World), Mem (FL) w → K r → R (Value.bool r) w) :
  CallV Try.prog 8 #[(Value.agg #[(Value.int .u32 box_Host), (Value.int .i64 box_Lo), (Value.int .i64 box_Hi), (Value.int .i64 box_Map), (Value.int .i64 box_Filter), (Value.int .i64 box_Life), (Value.int .i64 box_Most)]), (Value.slice p_1 n_1 c_1)] w R := by
  refine embrasurelaw08_NatPlays_call ?_
  unfold embrasurelaw08_NatPlays
  unfold embrasurelaw08_NatPlays_wp at hp
  subst hl_script
  replace h := stoNil stoE71 (fun _ => default) h
  replace h := poolNil enc24 24 2 h
  refine newL (o := [(Value.int .u32 box_Host), (Value.int .i64 box_Lo), (Value.int .i64 box_Hi), (Value.int .i64 box_Map), (Value.int .i64 box_Filter), (Value.int .i64 box_Life), (Value.int .i64 box_Most)]) h ?_
  intro b_1 w h
  refine embrasurelaw08_awake_ok h hp ?_
  intro r w h hp
  refine ⟨_, rfl, ?_⟩
  refine cond_both hp (fun hp => ?_) (fun hp => ?_)
  · replace h := h.sel [] 3
    dsimp only [pickL, pickR, nthH, delH, dropH, List.cons_append, List.nil_append] at h
    exact hR false _ h hp
  refine ⟨_, cellL h 0 0 rfl rfl rfl, _, cellL h 0 1 rfl rfl rfl, _, cellL h 0 2 rfl rfl rfl, _, cellL h 0 3 rfl rfl rfl, _, cellL h 0 4 rfl rfl rfl, _, cellL h 0 5 rfl rfl rfl, _, cellL h 0 6 rfl rfl rfl, ?_⟩
  refine nat_New_ok h hp ?_ ?_
  · intro r_1 w h hp
    refine ⟨_, _, rfl, ?_⟩
    refine ⟨_, rfl, ?_⟩
    refine ⟨_, rfl, ?_⟩
    refine ⟨_, cellL h 0 0 rfl rfl rfl, _, cellL h 0 1 rfl rfl rfl, _, cellL h 0 2 rfl rfl rfl, _, cellL h 0 3 rfl rfl rfl, _, cellL h 0 4 rfl rfl rfl, _, cellL h 0 5 rfl rfl rfl, _, cellL h 0 6 rfl rfl rfl, ?_⟩
    refine embrasureref08_May_ok h hp ?_
    intro r_2 w h hp
    refine ⟨_, rfl, ?_⟩
    refine cond_both hp (fun hp => ?_) (fun hp => ?_)
    · refine eqlPtrNN undP30 ?_
      refine ⟨_, rfl, ?_⟩
      refine cond_tt ?_
      replace h := h.sel [] 3
      dsimp only [pickL, pickR, nthH, delH, dropH, List.cons_append, List.nil_append] at h
      exact hR ((r_1 : Int) == 1) _ h hp
    obtain ⟨Q, hq, hp⟩ := hp
    refine ⟨fun script1p script1l script1c box2 n5 t50 w => p_1 = script1p ∧ script.length = script1l ∧ c_1 = script1c ∧ (Addr.mk b_1 0 none) = box2 ∧ none = n5 ∧ Q t50 ∧ Mem (cel b_1 28 [(Value.int .u32 box_Host), (Value.int .i64 box_Lo), (Value.int .i64 box_Hi), (Value.int .i64 box_Map), (Value.int .i64 box_Filter), (Value.int .i64 box_Life), (Value.int .i64 box_Most)] :: poolP enc24 24 2 ([] : List ((Option Addr × Nat × Nat) × List (Int × Int))) :: stoP stoE71 (fun _ => default) ([] : List (Nat × (Int × Int × Int × Int × Int × Int × Bool × (List (Int × Int))))) :: FL) w, ?_, ?_⟩
    · rintro script1p script1l script1c box2 n5 t50 w ⟨rfl, rfl, rfl, rfl, rfl, hp, h⟩
      replace hp := hq t50 hp
      unfold embrasurelaw08_NatPlays_j1
      refine cond_both hp (fun hp => ?_) (fun hp => ?_)
      · replace h := h.sel [] 3
        dsimp only [pickL, pickR, nthH, delH, dropH, List.cons_append, List.nil_append] at h
        exact hR false _ h hp
      refine ⟨_, cellL h 0 0 rfl rfl rfl, _, cellL h 0 1 rfl rfl rfl, _, cellL h 0 2 rfl rfl rfl, _, cellL h 0 3 rfl rfl rfl, _, cellL h 0 4 rfl rfl rfl, _, cellL h 0 5 rfl rfl rfl, _, cellL h 0 6 rfl rfl rfl, ?_⟩
      refine newL (o := [(Value.int .u32 box_Host), (Value.int .i64 box_Lo), (Value.int .i64 box_Hi), (Value.int .i64 box_Map), (Value.int .i64 box_Filter), (Value.int .i64 box_Life), (Value.int .i64 box_Most), (Value.slice none 0 0), (Value.int .i64 0)]) h ?_
      intro b_2 w h
      obtain ⟨I, ⟨n_3, h0⟩, hq⟩ := hp
      refine ⟨fun n_2 script1_1p script1_1l script1_1c n5_1 r7 now8 i9 w => p_1 = script1_1p ∧ script.length = script1_1l ∧ c_1 = script1_1c ∧ none = n5_1 ∧ (Addr.mk b_2 0 none) = r7 ∧ 0 = now8 ∧ 0 = i9 ∧ I n_2 ∧ Mem (cel b_2 58 [(Value.int .u32 box_Host), (Value.int .i64 box_Lo), (Value.int .i64 box_Hi), (Value.int .i64 box_Map), (Value.int .i64 box_Filter), (Value.int .i64 box_Life), (Value.int .i64 box_Most), (Value.slice none 0 0), (Value.int .i64 0)] :: cel b_1 28 [(Value.int .u32 box_Host), (Value.int .i64 box_Lo), (Value.int .i64 box_Hi), (Value.int .i64 box_Map), (Value.int .i64 box_Filter), (Value.int .i64 box_Life), (Value.int .i64 box_Most)] :: poolP enc24 24 2 ([] : List ((Option Addr × Nat × Nat) × List (Int × Int))) :: stoP stoE71 (fun _ => default) ([] : List (Nat × (Int × Int × Int × Int × Int × Int × Bool × (List (Int × Int))))) :: FL) w, ⟨n_3, rfl, rfl, rfl, rfl, rfl, rfl, rfl, h0, h⟩, ?_⟩
      clear h0 h
      rintro n_2 script1_1p script1_1l script1_1c n5_1 r7 now8 i9 w ⟨rfl, rfl, rfl, rfl, rfl, rfl, rfl, hp, h⟩
      replace hp := hq n_2 hp
      clear hq
      unfold embrasurelaw08_NatPlays_l2
      obtain ⟨Q_1, hq, hp⟩ := hp
      refine ⟨fun script1_2p script1_2l script1_2c n5_2 r7_1 now8_1 i9_1 t61 w => p_1 = script1_2p ∧ script.length = script1_2l ∧ c_1 = script1_2c ∧ none = n5_2 ∧ (Addr.mk b_2 0 none) = r7_1 ∧ 0 = now8_1 ∧ 0 = i9_1 ∧ Q_1 t61 ∧ Mem (cel b_2 58 [(Value.int .u32 box_Host), (Value.int .i64 box_Lo), (Value.int .i64 box_Hi), (Value.int .i64 box_Map), (Value.int .i64 box_Filter), (Value.int .i64 box_Life), (Value.int .i64 box_Most), (Value.slice none 0 0), (Value.int .i64 0)] :: cel b_1 28 [(Value.int .u32 box_Host), (Value.int .i64 box_Lo), (Value.int .i64 box_Hi), (Value.int .i64 box_Map), (Value.int .i64 box_Filter), (Value.int .i64 box_Life), (Value.int .i64 box_Most)] :: poolP enc24 24 2 ([] : List ((Option Addr × Nat × Nat) × List (Int × Int))) :: stoP stoE71 (fun _ => default) ([] : List (Nat × (Int × Int × Int × Int × Int × Int × Bool × (List (Int × Int))))) :: FL) w, ?_, ?_⟩
      · rintro script1_2p script1_2l script1_2c n5_2 r7_1 now8_1 i9_1 t61 w ⟨rfl, rfl, rfl, rfl, rfl, rfl, rfl, hp, h⟩
        replace hp := hq t61 hp
        unfold embrasurelaw08_NatPlays_j3
        refine cond_both' hp (fun hp => ?_) (fun hp => ?_)
        · replace h := h.sel [] 4
          dsimp only [pickL, pickR, nthH, delH, dropH, List.cons_append, List.nil_append] at h
          exact hR true _ h hp
        obtain ⟨ia_1, ja_1, hp⟩ := hp
        obtain ⟨a_1, ha_1⟩ := rdAddr (hF_script _ (h.drop 4)) rfl ia_1 ja_1
        refine ⟨a_1, ha_1, ia_1, ja_1, ?_⟩
        obtain ⟨x_1, hx_1, hc⟩ := rdCell (hF_script _ (h.drop 4)) ha_1 rfl ia_1 ja_1
        replace hp := hp x_1 hx_1
        refine ⟨_, hc 0 _ rfl, _, hc 1 _ rfl, _, hc 2 _ rfl, _, hc 3 _ rfl, _, hc 4 _ rfl, _, hc 5 _ rfl, _, hc 6 _ rfl, _, hc 7 _ rfl, ?_⟩
        refine newL (o := [(Value.int .i64 0), (Value.int .i64 0), (Value.int .u32 0), (Value.int .i64 0), (Value.int .u32 0), (Value.int .i64 0), (Value.int .i64 0), (Value.int .i64 0)]) h ?_
        intro b_3 w h
        refine storeL (ys := [(Value.int .i64 x_1.1), (Value.int .i64 x_1.2.1), (Value.int .u32 x_1.2.2.1), (Value.int .i64 x_1.2.2.2.1), (Value.int .u32 x_1.2.2.2.2.1), (Value.int .i64 x_1.2.2.2.2.2.1), (Value.int .i64 x_1.2.2.2.2.2.2.1), (Value.int .i64 x_1.2.2.2.2.2.2.2)]) h 0 0 rfl rfl rfl sz47 rfl rfl ?_
        intro w h
        dsimp only [setH, setVs, setV] at h
        obtain ⟨Q_2, hq, hp⟩ := hp
        refine ⟨fun script1_3p script1_3l script1_3c n5_3 r7_2 now8_2 i9_2 d10 w => p_1 = script1_3p ∧ script.length = script1_3l ∧ c_1 = script1_3c ∧ none = n5_3 ∧ (Addr.mk b_2 0 none) = r7_2 ∧ 0 = i9_2 ∧ (Addr.mk b_3 0 none) = d10 ∧ Q_2 now8_2 ∧ Mem (cel b_3 47 [(Value.int .i64 x_1.1), (Value.int .i64 x_1.2.1), (Value.int .u32 x_1.2.2.1), (Value.int .i64 x_1.2.2.2.1), (Value.int .u32 x_1.2.2.2.2.1), (Value.int .i64 x_1.2.2.2.2.2.1), (Value.int .i64 x_1.2.2.2.2.2.2.1), (Value.int .i64 x_1.2.2.2.2.2.2.2)] :: cel b_2 58 [(Value.int .u32 box_Host), (Value.int .i64 box_Lo), (Value.int .i64 box_Hi), (Value.int .i64 box_Map), (Value.int .i64 box_Filter), (Value.int .i64 box_Life), (Value.int .i64 box_Most), (Value.slice none 0 0), (Value.int .i64 0)] :: cel b_1 28 [(Value.int .u32 box_Host), (Value.int .i64 box_Lo), (Value.int .i64 box_Hi), (Value.int .i64 box_Map), (Value.int .i64 box_Filter), (Value.int .i64 box_Life), (Value.int .i64 box_Most)] :: poolP enc24 24 2 ([] : List ((Option Addr × Nat × Nat) × List (Int × Int))) :: stoP stoE71 (fun _ => default) ([] : List (Nat × (Int × Int × Int × Int × Int × Int × Bool × (List (Int × Int))))) :: FL) w, ?_, ?_⟩
        · rintro script1_3p script1_3l script1_3c n5_3 r7_2 now8_2 i9_2 d10 w ⟨rfl, rfl, rfl, rfl, rfl, rfl, rfl, hp, h⟩
          replace hp := hq now8_2 hp
          unfold embrasurelaw08_NatPlays_j4
          refine ⟨fun script1_5p script1_5l script1_5c n5_5 r7_4 now8_4 i9_4 w => (False), ?_, ?_⟩
          · rintro script1_5p script1_5l script1_5c n5_5 r7_4 now8_4 i9_4 w (hF)
            · exact hF.elim
          refine ⟨_, cellL h 0 0 rfl rfl rfl, ?_⟩
          refine cond_both hp (fun hp => ?_) (fun hp => ?_)
          · refine ⟨_, cellL h 0 2 rfl rfl rfl, _, cellL h 0 3 rfl rfl rfl, ?_⟩
            refine ⟨_, cellL h 0 4 rfl rfl rfl, _, cellL h 0 5 rfl rfl rfl, ?_⟩
            exact hp.elim
          refine cond_both hp (fun hp => ?_) (fun hp => ?_)
          · refine ⟨_, cellL h 0 6 rfl rfl rfl, ?_⟩
            refine ⟨_, cellL h 0 4 rfl rfl rfl, _, cellL h 0 5 rfl rfl rfl, ?_⟩
            exact hp.elim
          refine cond_both hp (fun hp => ?_) (fun hp => ?_)
          · refine ⟨_, cellL h 0 2 rfl rfl rfl, _, cellL h 0 3 rfl rfl rfl, ?_⟩
            refine ⟨_, cellL h 0 6 rfl rfl rfl, ?_⟩
            refine ⟨_, cellL h 0 7 rfl rfl rfl, ?_⟩
            exact hp.elim
          refine cond_both' hp (fun hp => ?_) (fun hp => ?_)
          · exact hp.elim
          replace h := h.drew
          refine ⟨fun w => Mem (cel b_3 47 [(Value.int .i64 x_1.1), (Value.int .i64 x_1.2.1), (Value.int .u32 x_1.2.2.1), (Value.int .i64 x_1.2.2.2.1), (Value.int .u32 x_1.2.2.2.2.1), (Value.int .i64 x_1.2.2.2.2.2.1), (Value.int .i64 x_1.2.2.2.2.2.2.1), (Value.int .i64 x_1.2.2.2.2.2.2.2)] :: FL) w, (h.sel [0] 4), ?_⟩
          refine ⟨_, cellL h 0 2 rfl rfl rfl, _, cellL h 0 3 rfl rfl rfl, ?_⟩
          refine ⟨_, cellL h 0 2 rfl rfl rfl, _, cellL h 0 3 rfl rfl rfl, ?_⟩
          refine ⟨?_, ?_⟩
          · intro w h
            change Mem _ _ at h
            refine ⟨_, cellL h 0 2 rfl rfl rfl, _, cellL h 0 3 rfl rfl rfl, ?_⟩
            exact ⟨rfl, rfl⟩
          exact hp.elim
        clear hq
        obtain ⟨Q_3, hq, hp⟩ := hp
        refine ⟨fun script1_4p script1_4l script1_4c n5_4 r7_3 now8_3 i9_3 d10_1 t75 w => p_1 = script1_4p ∧ script.length = script1_4l ∧ c_1 = script1_4c ∧ none = n5_4 ∧ (Addr.mk b_2 0 none) = r7_3 ∧ 0 = now8_3 ∧ 0 = i9_3 ∧ (Addr.mk b_3 0 none) = d10_1 ∧ Q_3 t75 ∧ Mem (cel b_3 47 [(Value.int .i64 x_1.1), (Value.int .i64 x_1.2.1), (Value.int .u32 x_1.2.2.1), (Value.int .i64 x_1.2.2.2.1), (Value.int .u32 x_1.2.2.2.2.1), (Value.int .i64 x_1.2.2.2.2.2.1), (Value.int .i64 x_1.2.2.2.2.2.2.1), (Value.int .i64 x_1.2.2.2.2.2.2.2)] :: cel b_2 58 [(Value.int .u32 box_Host), (Value.int .i64 box_Lo), (Value.int .i64 box_Hi), (Value.int .i64 box_Map), (Value.int .i64 box_Filter), (Value.int .i64 box_Life), (Value.int .i64 box_Most), (Value.slice none 0 0), (Value.int .i64 0)] :: cel b_1 28 [(Value.int .u32 box_Host), (Value.int .i64 box_Lo), (Value.int .i64 box_Hi), (Value.int .i64 box_Map), (Value.int .i64 box_Filter), (Value.int .i64 box_Life), (Value.int .i64 box_Most)] :: poolP enc24 24 2 ([] : List ((Option Addr × Nat × Nat) × List (Int × Int))) :: stoP stoE71 (fun _ => default) ([] : List (Nat × (Int × Int × Int × Int × Int × Int × Bool × (List (Int × Int))))) :: FL) w, ?_, ?_⟩
        · rintro script1_4p script1_4l script1_4c n5_4 r7_3 now8_3 i9_3 d10_1 t75 w ⟨rfl, rfl, rfl, rfl, rfl, rfl, rfl, rfl, hp, h⟩
          replace hp := hq t75 hp
          unfold embrasurelaw08_NatPlays_j9
          refine cond_both' hp (fun hp => ?_) (fun hp => ?_)
          · exact ⟨rfl, rfl, rfl, rfl, rfl, rfl, rfl, hp, h⟩
          refine ⟨_, cellL h 0 1 rfl rfl rfl, ?_⟩
          exact ⟨rfl, rfl, rfl, rfl, rfl, rfl, rfl, hp, h⟩
        clear hq
        refine ⟨_, cellL h 0 1 rfl rfl rfl, ?_⟩
        refine cond_both' hp (fun hp => ?_) (fun hp => ?_)
        · exact ⟨rfl, rfl, rfl, rfl, rfl, rfl, rfl, rfl, hp, h⟩
        refine ⟨_, cellL h 0 1 rfl rfl rfl, ?_⟩
        exact ⟨rfl, rfl, rfl, rfl, rfl, rfl, rfl, rfl, hp, h⟩
      clear hq
      refine cond_both hp (fun hp => ?_) (fun hp => ?_)
      · exact ⟨rfl, rfl, rfl, rfl, rfl, rfl, rfl, hp, h⟩
      exact ⟨rfl, rfl, rfl, rfl, rfl, rfl, rfl, hp, h⟩
    clear hq
    replace h := h.drew
    refine ⟨fun w => Mem (cel b_1 28 [(Value.int .u32 box_Host), (Value.int .i64 box_Lo), (Value.int .i64 box_Hi), (Value.int .i64 box_Map), (Value.int .i64 box_Filter), (Value.int .i64 box_Life), (Value.int .i64 box_Most)] :: FL) w, (h.sel [0] 2), ?_⟩
    refine eqlPtrNN undP30 ?_
    refine ⟨_, rfl, ?_⟩
    refine ⟨rfl, ?_⟩
    refine cond_tt ?_
    exact ⟨rfl, rfl, rfl, rfl, rfl, hp, h⟩
  rintro r_3 box box_1 box_2 box_3 box_4 box_5 box_6 list now b_4 p_2 n_4 c_2 w rfl h hp
  have cpp_2 := rowCap h 1 rfl
  refine ⟨_, _, rfl, ?_⟩
  refine ⟨_, rfl, ?_⟩
  refine ⟨_, rfl, ?_⟩
  refine ⟨_, cellL h 2 0 rfl rfl rfl, _, cellL h 2 1 rfl rfl rfl, _, cellL h 2 2 rfl rfl rfl, _, cellL h 2 3 rfl rfl rfl, _, cellL h 2 4 rfl rfl rfl, _, cellL h 2 5 rfl rfl rfl, _, cellL h 2 6 rfl rfl rfl, ?_⟩
  refine embrasureref08_May_ok h hp ?_
  intro r_4 w h hp
  refine ⟨_, rfl, ?_⟩
  refine cond_both hp (fun hp => ?_) (fun hp => ?_)
  · refine eqlPtrNil undP30 ?_
    refine ⟨_, rfl, ?_⟩
    refine cond_ff ?_
    replace h := h.sel [] 5
    dsimp only [pickL, pickR, nthH, delH, dropH, List.cons_append, List.nil_append] at h
    exact hR false _ h hp
  obtain ⟨Q_5, hq, hp⟩ := hp
  refine ⟨fun script1_6p script1_6l script1_6c box2_1 n5_6 t50_1 w => p_1 = script1_6p ∧ script.length = script1_6l ∧ c_1 = script1_6c ∧ (Addr.mk b_1 0 none) = box2_1 ∧ (some (Addr.mk b_4 0 none)) = n5_6 ∧ Q_5 t50_1 ∧ Mem (cel b_4 64 [(Value.int .u32 box), (Value.int .i64 box_1), (Value.int .i64 box_2), (Value.int .i64 box_3), (Value.int .i64 box_4), (Value.int .i64 box_5), (Value.int .i64 box_6), (Value.slice p_2 list.length c_2), (Value.int .i64 now)] :: row enc67 67 1 p_2 c_2 list :: cel b_1 28 [(Value.int .u32 box_Host), (Value.int .i64 box_Lo), (Value.int .i64 box_Hi), (Value.int .i64 box_Map), (Value.int .i64 box_Filter), (Value.int .i64 box_Life), (Value.int .i64 box_Most)] :: poolP enc24 24 2 ([] : List ((Option Addr × Nat × Nat) × List (Int × Int))) :: stoP stoE71 (fun _ => default) ([] : List (Nat × (Int × Int × Int × Int × Int × Int × Bool × (List (Int × Int))))) :: FL) w, ?_, ?_⟩
  · rintro script1_6p script1_6l script1_6c box2_1 n5_6 t50_1 w ⟨rfl, rfl, rfl, rfl, rfl, hp, h⟩
    replace hp := hq t50_1 hp
    unfold embrasurelaw08_NatPlays_j1
    refine cond_both hp (fun hp => ?_) (fun hp => ?_)
    · replace h := h.sel [] 5
      dsimp only [pickL, pickR, nthH, delH, dropH, List.cons_append, List.nil_append] at h
      exact hR false _ h hp
    refine ⟨_, cellL h 2 0 rfl rfl rfl, _, cellL h 2 1 rfl rfl rfl, _, cellL h 2 2 rfl rfl rfl, _, cellL h 2 3 rfl rfl rfl, _, cellL h 2 4 rfl rfl rfl, _, cellL h 2 5 rfl rfl rfl, _, cellL h 2 6 rfl rfl rfl, ?_⟩
    refine newL (o := [(Value.int .u32 box_Host), (Value.int .i64 box_Lo), (Value.int .i64 box_Hi), (Value.int .i64 box_Map), (Value.int .i64 box_Filter), (Value.int .i64 box_Life), (Value.int .i64 box_Most), (Value.slice none 0 0), (Value.int .i64 0)]) h ?_
    intro b_5 w h
    obtain ⟨I_1, ⟨n_24, h0⟩, hq⟩ := hp
    replace h := rowNil enc84 84 8 h
    replace h := h.sel [1, 0, 0, 0, 0, 0, 0] 0
    dsimp only [pickL, pickR, nthH, delH, dropH, List.cons_append, List.nil_append] at h
    refine ⟨fun n_7 script1_7p script1_7l script1_7c n5_7 r7_5 now8_5 i9_5 w => ∃ (L : List (Int × Int × Int × Int × Int × Int × Bool × (Option Addr × Nat × Nat))), ∃ (p_3 : Option Addr), ∃ (n_5 : Nat), ∃ (c_3 : Nat), ∃ (Now : Int), ∃ (list_1 : List (Option Nat)), ∃ (p_4 : Option Addr), ∃ (n_6 : Nat), ∃ (c_4 : Nat), ∃ (now_1 : Int), ∃ (m_1 : List ((Option Addr × Nat × Nat) × List (Int × Int))), ∃ (m_2 : List (Nat × (Int × Int × Int × Int × Int × Int × Bool × (List (Int × Int))))), ∃ (hd : Nat → Option Addr × Nat), p_1 = script1_7p ∧ script.length = script1_7l ∧ c_1 = script1_7c ∧ (some (Addr.mk b_4 0 none)) = n5_7 ∧ (Addr.mk b_5 0 none) = r7_5 ∧ n_5 = L.length ∧ n_6 = list_1.length ∧ I_1 n_7 L Now list_1 now_1 now8_5 i9_5 m_1 m_2 ∧ Mem (cel b_5 58 [(Value.int .u32 box_Host), (Value.int .i64 box_Lo), (Value.int .i64 box_Hi), (Value.int .i64 box_Map), (Value.int .i64 box_Filter), (Value.int .i64 box_Life), (Value.int .i64 box_Most), (Value.slice p_3 n_5 c_3), (Value.int .i64 Now)] :: row enc84 84 8 p_3 c_3 L :: cel b_4 64 [(Value.int .u32 box), (Value.int .i64 box_1), (Value.int .i64 box_2), (Value.int .i64 box_3), (Value.int .i64 box_4), (Value.int .i64 box_5), (Value.int .i64 box_6), (Value.slice p_4 n_6 c_4), (Value.int .i64 now_1)] :: row enc67 67 1 p_4 c_4 list_1 :: cel b_1 28 [(Value.int .u32 box_Host), (Value.int .i64 box_Lo), (Value.int .i64 box_Hi), (Value.int .i64 box_Map), (Value.int .i64 box_Filter), (Value.int .i64 box_Life), (Value.int .i64 box_Most)] :: poolP enc24 24 2 m_1 :: stoP stoE71 hd m_2 :: FL) w, ⟨n_24, ([] : List (Int × Int × Int × Int × Int × Int × Bool × (Option Addr × Nat × Nat))), none  , 0, 0, 0, list, p_2, list.length, c_2, now, ([] : List ((Option Addr × Nat × Nat) × List (Int × Int))), ([] : List (Nat × (Int × Int × Int × Int × Int × Int × Bool × (List (Int × Int))))), (fun _ => default), rfl, rfl, rfl, rfl, rfl, rfl, rfl, h0, h⟩, ?_⟩
    clear h0 h
    rintro n_7 script1_7p script1_7l script1_7c n5_7 r7_5 now8_5 i9_5 w ⟨L, p_3, n_5, c_3, Now, list_1, p_4, n_6, c_4, now_1, m_1, m_2, hd, rfl, rfl, rfl, rfl, rfl, rfl, rfl, hp, h⟩
    replace hp := hq n_7 L Now list_1 now_1 now8_5 i9_5 m_1 m_2 hp
    clear hq
    unfold embrasurelaw08_NatPlays_l2
    have cpp_3 := rowCap h 1 rfl
    have cpp_4 := rowCap h 3 rfl
    obtain ⟨Q_6, hq, hp⟩ := hp
    refine ⟨fun script1_8p script1_8l script1_8c n5_8 r7_6 now8_6 i9_6 t61_1 w => p_1 = script1_8p ∧ script.length = script1_8l ∧ c_1 = script1_8c ∧ (some (Addr.mk b_4 0 none)) = n5_8 ∧ (Addr.mk b_5 0 none) = r7_6 ∧ now8_5 = now8_6 ∧ i9_5 = i9_6 ∧ Q_6 t61_1 ∧ Mem (cel b_5 58 [(Value.int .u32 box_Host), (Value.int .i64 box_Lo), (Value.int .i64 box_Hi), (Value.int .i64 box_Map), (Value.int .i64 box_Filter), (Value.int .i64 box_Life), (Value.int .i64 box_Most), (Value.slice p_3 L.length c_3), (Value.int .i64 Now)] :: row enc84 84 8 p_3 c_3 L :: cel b_4 64 [(Value.int .u32 box), (Value.int .i64 box_1), (Value.int .i64 box_2), (Value.int .i64 box_3), (Value.int .i64 box_4), (Value.int .i64 box_5), (Value.int .i64 box_6), (Value.slice p_4 list_1.length c_4), (Value.int .i64 now_1)] :: row enc67 67 1 p_4 c_4 list_1 :: cel b_1 28 [(Value.int .u32 box_Host), (Value.int .i64 box_Lo), (Value.int .i64 box_Hi), (Value.int .i64 box_Map), (Value.int .i64 box_Filter), (Value.int .i64 box_Life), (Value.int .i64 box_Most)] :: poolP enc24 24 2 m_1 :: stoP stoE71 hd m_2 :: FL) w, ?_, ?_⟩
    · rintro script1_8p script1_8l script1_8c n5_8 r7_6 now8_6 i9_6 t61_1 w ⟨rfl, rfl, rfl, rfl, rfl, rfl, rfl, hp, h⟩
      replace hp := hq t61_1 hp
      unfold embrasurelaw08_NatPlays_j3
      refine cond_both' hp (fun hp => ?_) (fun hp => ?_)
      · replace h := h.sel [] 7
        dsimp only [pickL, pickR, nthH, delH, dropH, List.cons_append, List.nil_append] at h
        exact hR true _ h hp
      obtain ⟨ia_2, ja_2, hp⟩ := hp
      obtain ⟨a_2, ha_2⟩ := rdAddr (hF_script _ (h.drop 7)) rfl ia_2 ja_2
      refine ⟨a_2, ha_2, ia_2, ja_2, ?_⟩
      obtain ⟨x_2, hx_2, hc⟩ := rdCell (hF_script _ (h.drop 7)) ha_2 rfl ia_2 ja_2
      replace hp := hp x_2 hx_2
      refine ⟨_, hc 0 _ rfl, _, hc 1 _ rfl, _, hc 2 _ rfl, _, hc 3 _ rfl, _, hc 4 _ rfl, _, hc 5 _ rfl, _, hc 6 _ rfl, _, hc 7 _ rfl, ?_⟩
      refine newL (o := [(Value.int .i64 0), (Value.int .i64 0), (Value.int .u32 0), (Value.int .i64 0), (Value.int .u32 0), (Value.int .i64 0), (Value.int .i64 0), (Value.int .i64 0)]) h ?_
      intro b_6 w h
      refine storeL (ys := [(Value.int .i64 x_2.1), (Value.int .i64 x_2.2.1), (Value.int .u32 x_2.2.2.1), (Value.int .i64 x_2.2.2.2.1), (Value.int .u32 x_2.2.2.2.2.1), (Value.int .i64 x_2.2.2.2.2.2.1), (Value.int .i64 x_2.2.2.2.2.2.2.1), (Value.int .i64 x_2.2.2.2.2.2.2.2)]) h 0 0 rfl rfl rfl sz47 rfl rfl ?_
      intro w h
      dsimp only [setH, setVs, setV] at h
      obtain ⟨Q_7, hq, hp⟩ := hp
      refine ⟨fun script1_9p script1_9l script1_9c n5_9 r7_7 now8_7 i9_7 d10_2 w => p_1 = script1_9p ∧ script.length = script1_9l ∧ c_1 = script1_9c ∧ (some (Addr.mk b_4 0 none)) = n5_9 ∧ (Addr.mk b_5 0 none) = r7_7 ∧ i9_5 = i9_7 ∧ (Addr.mk b_6 0 none) = d10_2 ∧ Q_7 now8_7 ∧ Mem (cel b_6 47 [(Value.int .i64 x_2.1), (Value.int .i64 x_2.2.1), (Value.int .u32 x_2.2.2.1), (Value.int .i64 x_2.2.2.2.1), (Value.int .u32 x_2.2.2.2.2.1), (Value.int .i64 x_2.2.2.2.2.2.1), (Value.int .i64 x_2.2.2.2.2.2.2.1), (Value.int .i64 x_2.2.2.2.2.2.2.2)] :: cel b_5 58 [(Value.int .u32 box_Host), (Value.int .i64 box_Lo), (Value.int .i64 box_Hi), (Value.int .i64 box_Map), (Value.int .i64 box_Filter), (Value.int .i64 box_Life), (Value.int .i64 box_Most), (Value.slice p_3 L.length c_3), (Value.int .i64 Now)] :: row enc84 84 8 p_3 c_3 L :: cel b_4 64 [(Value.int .u32 box), (Value.int .i64 box_1), (Value.int .i64 box_2), (Value.int .i64 box_3), (Value.int .i64 box_4), (Value.int .i64 box_5), (Value.int .i64 box_6), (Value.slice p_4 list_1.length c_4), (Value.int .i64 now_1)] :: row enc67 67 1 p_4 c_4 list_1 :: cel b_1 28 [(Value.int .u32 box_Host), (Value.int .i64 box_Lo), (Value.int .i64 box_Hi), (Value.int .i64 box_Map), (Value.int .i64 box_Filter), (Value.int .i64 box_Life), (Value.int .i64 box_Most)] :: poolP enc24 24 2 m_1 :: stoP stoE71 hd m_2 :: FL) w, ?_, ?_⟩
      · rintro script1_9p script1_9l script1_9c n5_9 r7_7 now8_7 i9_7 d10_2 w ⟨rfl, rfl, rfl, rfl, rfl, rfl, rfl, hp, h⟩
        replace hp := hq now8_7 hp
        unfold embrasurelaw08_NatPlays_j4
        obtain ⟨Q_9, hq, hp⟩ := hp
        refine ⟨fun script1_11p script1_11l script1_11c n5_11 r7_9 now8_9 i9_9 w => ∃ (L_1 : List (Int × Int × Int × Int × Int × Int × Bool × (Option Addr × Nat × Nat))), ∃ (p_5 : Option Addr), ∃ (n_8 : Nat), ∃ (c_5 : Nat), ∃ (Now_1 : Int), ∃ (list_2 : List (Option Nat)), ∃ (p_6 : Option Addr), ∃ (n_9 : Nat), ∃ (c_6 : Nat), ∃ (now_2 : Int), ∃ (m_3 : List ((Option Addr × Nat × Nat) × List (Int × Int))), ∃ (m_4 : List (Nat × (Int × Int × Int × Int × Int × Int × Bool × (List (Int × Int))))), ∃ (hd_1 : Nat → Option Addr × Nat), p_1 = script1_11p ∧ script.length = script1_11l ∧ c_1 = script1_11c ∧ (some (Addr.mk b_4 0 none)) = n5_11 ∧ (Addr.mk b_5 0 none) = r7_9 ∧ now8_7 = now8_9 ∧ i9_5 = i9_9 ∧ n_8 = L_1.length ∧ n_9 = list_2.length ∧ Q_9 L_1 Now_1 list_2 now_2 m_3 m_4 ∧ Mem (cel b_6 47 [(Value.int .i64 x_2.1), (Value.int .i64 x_2.2.1), (Value.int .u32 x_2.2.2.1), (Value.int .i64 x_2.2.2.2.1), (Value.int .u32 x_2.2.2.2.2.1), (Value.int .i64 x_2.2.2.2.2.2.1), (Value.int .i64 x_2.2.2.2.2.2.2.1), (Value.int .i64 x_2.2.2.2.2.2.2.2)] :: cel b_5 58 [(Value.int .u32 box_Host), (Value.int .i64 box_Lo), (Value.int .i64 box_Hi), (Value.int .i64 box_Map), (Value.int .i64 box_Filter), (Value.int .i64 box_Life), (Value.int .i64 box_Most), (Value.slice p_5 n_8 c_5), (Value.int .i64 Now_1)] :: row enc84 84 8 p_5 c_5 L_1 :: cel b_4 64 [(Value.int .u32 box), (Value.int .i64 box_1), (Value.int .i64 box_2), (Value.int .i64 box_3), (Value.int .i64 box_4), (Value.int .i64 box_5), (Value.int .i64 box_6), (Value.slice p_6 n_9 c_6), (Value.int .i64 now_2)] :: row enc67 67 1 p_6 c_6 list_2 :: cel b_1 28 [(Value.int .u32 box_Host), (Value.int .i64 box_Lo), (Value.int .i64 box_Hi), (Value.int .i64 box_Map), (Value.int .i64 box_Filter), (Value.int .i64 box_Life), (Value.int .i64 box_Most)] :: poolP enc24 24 2 m_3 :: stoP stoE71 hd_1 m_4 :: FL) w, ?_, ?_⟩
        · rintro script1_11p script1_11l script1_11c n5_11 r7_9 now8_9 i9_9 w ⟨L_1, p_5, n_8, c_5, Now_1, list_2, p_6, n_9, c_6, now_2, m_3, m_4, hd_1, rfl, rfl, rfl, rfl, rfl, rfl, rfl, rfl, rfl, hp, h⟩
          replace hp := hq L_1 Now_1 list_2 now_2 m_3 m_4 hp
          unfold embrasurelaw08_NatPlays_j5
          have cpp_5 := rowCap h 2 rfl
          have cpp_6 := rowCap h 4 rfl
          replace h := h.pick [3, 3, 5]
          dsimp only [pickL, pickR, nthH, delH, dropH, List.cons_append, List.nil_append] at h
          refine nat_Nat_All_ok h hp ?_
          rintro rs list_8 now_8 m_9 p_17 n_19 c_16 p_18 n_20 c_17 hd_5 w rfl rfl h hp
          have cpp_17 := rowCap h 0 rfl
          have cpp_18 := rowCap h 2 rfl
          refine ⟨_, _, _, rfl, ?_⟩
          replace h := h.pick [5, 5]
          dsimp only [pickL, pickR, nthH, delH, dropH, List.cons_append, List.nil_append] at h
          refine embrasureref08_Nat_All_ok h hp ?_
          rintro rs_1 L_6 Now_6 p_19 n_21 c_18 p_20 n_22 c_19 w rfl rfl h hp
          have cpp_19 := rowCap h 0 rfl
          have cpp_20 := rowCap h 2 rfl
          refine ⟨_, _, _, rfl, ?_⟩
          refine embrasureref08_Same_ok (FL := row enc51 51 7 p_19 c_18 rs_1 :: cel b_5 58 [(Value.int .u32 box_Host), (Value.int .i64 box_Lo), (Value.int .i64 box_Hi), (Value.int .i64 box_Map), (Value.int .i64 box_Filter), (Value.int .i64 box_Life), (Value.int .i64 box_Most), (Value.slice p_20 L_6.length c_19), (Value.int .i64 Now_6)] :: row enc84 84 8 p_20 c_19 L_6 :: row enc51 51 7 p_17 c_16 rs :: cel b_4 64 [(Value.int .u32 box), (Value.int .i64 box_1), (Value.int .i64 box_2), (Value.int .i64 box_3), (Value.int .i64 box_4), (Value.int .i64 box_5), (Value.int .i64 box_6), (Value.slice p_18 list_8.length c_17), (Value.int .i64 now_8)] :: row enc67 67 1 p_18 c_17 list_8 :: stoP stoE71 hd_5 m_9 :: cel b_6 47 [(Value.int .i64 x_2.1), (Value.int .i64 x_2.2.1), (Value.int .u32 x_2.2.2.1), (Value.int .i64 x_2.2.2.2.1), (Value.int .u32 x_2.2.2.2.2.1), (Value.int .i64 x_2.2.2.2.2.2.1), (Value.int .i64 x_2.2.2.2.2.2.2.1), (Value.int .i64 x_2.2.2.2.2.2.2.2)] :: cel b_1 28 [(Value.int .u32 box_Host), (Value.int .i64 box_Lo), (Value.int .i64 box_Hi), (Value.int .i64 box_Map), (Value.int .i64 box_Filter), (Value.int .i64 box_Life), (Value.int .i64 box_Most)] :: poolP enc24 24 2 m_3 :: FL) (fun w h => (rowRd h 3 encL51 rfl)) rfl cpp_17 (fun w h => (rowRd h 0 encL51 rfl)) rfl cpp_19 h hp ?_
          intro r_30 w h hp
          refine ⟨_, rfl, ?_⟩
          refine cond_both hp (fun hp => ?_) (fun hp => ?_)
          · replace h := h.sel [] 10
            dsimp only [pickL, pickR, nthH, delH, dropH, List.cons_append, List.nil_append] at h
            exact hR false _ h hp
          refine ⟨_, rfl, ?_⟩
          refine ⟨_, cellL h 1 8 rfl rfl rfl, ?_⟩
          replace h := h.sel [1, 1, 2, 2, 4, 4, 2] 3
          dsimp only [pickL, pickR, nthH, delH, dropH, List.cons_append, List.nil_append] at h
          obtain ⟨n_23, hn, hp⟩ := hp
          exact ⟨n_23, hn, L_6, p_20, L_6.length, c_19, Now_6, list_8, p_18, list_8.length, c_17, now_8, m_3, m_9, hd_5, rfl, rfl, rfl, rfl, rfl, rfl, rfl, hp, h⟩
        clear hq
        refine ⟨_, cellL h 0 0 rfl rfl rfl, ?_⟩
        refine cond_both hp (fun hp => ?_) (fun hp => ?_)
        · refine ⟨_, cellL h 0 2 rfl rfl rfl, _, cellL h 0 3 rfl rfl rfl, ?_⟩
          refine ⟨_, cellL h 0 4 rfl rfl rfl, _, cellL h 0 5 rfl rfl rfl, ?_⟩
          replace h := h.pick [3, 3, 5]
          dsimp only [pickL, pickR, nthH, delH, dropH, List.cons_append, List.nil_append] at h
          refine nat_Nat_Out_ok h hp ?_
          rintro r_12 r_13 r_14 list_3 now_3 m_5 p_7 n_10 c_7 hd_2 w rfl h hp
          have cpp_7 := rowCap h 1 rfl
          refine ⟨_, _, _, rfl, ?_⟩
          refine ⟨_, _, rfl, ?_⟩
          refine ⟨_, rfl, ?_⟩
          refine newL (o := [(Value.int .u32 0), (Value.int .i64 0)]) h ?_
          intro b_7 w h
          refine storeL (ys := [(Value.int .u32 r_12), (Value.int .i64 r_13)]) h 0 0 rfl rfl rfl sz24 rfl rfl ?_
          intro w h
          dsimp only [setH, setVs, setV] at h
          refine ⟨_, cellL h 4 2 rfl rfl rfl, _, cellL h 4 3 rfl rfl rfl, ?_⟩
          refine ⟨_, cellL h 4 4 rfl rfl rfl, _, cellL h 4 5 rfl rfl rfl, ?_⟩
          replace h := h.pick [5, 5, 6]
          dsimp only [pickL, pickR, nthH, delH, dropH, List.cons_append, List.nil_append] at h
          refine embrasureref08_Nat_Out_ok h hp ?_
          rintro r_15 r_16 r_17 L_2 Now_2 m_6 p_8 n_11 c_8 w rfl h hp
          have cpp_8 := rowCap h 1 rfl
          refine ⟨_, _, _, rfl, ?_⟩
          refine ⟨_, _, rfl, ?_⟩
          refine ⟨_, rfl, ?_⟩
          refine newL (o := [(Value.int .u32 0), (Value.int .i64 0)]) h ?_
          intro b_8 w h
          refine storeL (ys := [(Value.int .u32 r_15), (Value.int .i64 r_16)]) h 0 0 rfl rfl rfl sz24 rfl rfl ?_
          intro w h
          dsimp only [setH, setVs, setV] at h
          obtain ⟨Q_10, hq, hp⟩ := hp
          refine ⟨fun script1_12p script1_12l script1_12c n5_12 r7_10 now8_10 i9_10 t119 w => p_1 = script1_12p ∧ script.length = script1_12l ∧ c_1 = script1_12c ∧ (some (Addr.mk b_4 0 none)) = n5_12 ∧ (Addr.mk b_5 0 none) = r7_10 ∧ now8_7 = now8_10 ∧ i9_5 = i9_10 ∧ Q_10 t119 ∧ Mem (cel b_8 24 [(Value.int .u32 r_15), (Value.int .i64 r_16)] :: cel b_5 58 [(Value.int .u32 box_Host), (Value.int .i64 box_Lo), (Value.int .i64 box_Hi), (Value.int .i64 box_Map), (Value.int .i64 box_Filter), (Value.int .i64 box_Life), (Value.int .i64 box_Most), (Value.slice p_8 L_2.length c_8), (Value.int .i64 Now_2)] :: row enc84 84 8 p_8 c_8 L_2 :: cel b_7 24 [(Value.int .u32 r_12), (Value.int .i64 r_13)] :: cel b_4 64 [(Value.int .u32 box), (Value.int .i64 box_1), (Value.int .i64 box_2), (Value.int .i64 box_3), (Value.int .i64 box_4), (Value.int .i64 box_5), (Value.int .i64 box_6), (Value.slice p_7 list_3.length c_7), (Value.int .i64 now_3)] :: row enc67 67 1 p_7 c_7 list_3 :: cel b_6 47 [(Value.int .i64 x_2.1), (Value.int .i64 x_2.2.1), (Value.int .u32 x_2.2.2.1), (Value.int .i64 x_2.2.2.2.1), (Value.int .u32 x_2.2.2.2.2.1), (Value.int .i64 x_2.2.2.2.2.2.1), (Value.int .i64 x_2.2.2.2.2.2.2.1), (Value.int .i64 x_2.2.2.2.2.2.2.2)] :: cel b_1 28 [(Value.int .u32 box_Host), (Value.int .i64 box_Lo), (Value.int .i64 box_Hi), (Value.int .i64 box_Map), (Value.int .i64 box_Filter), (Value.int .i64 box_Life), (Value.int .i64 box_Most)] :: poolP enc24 24 2 m_6 :: stoP stoE71 hd_2 m_5 :: FL) w, ?_, ?_⟩
          · rintro script1_12p script1_12l script1_12c n5_12 r7_10 now8_10 i9_10 t119 w ⟨rfl, rfl, rfl, rfl, rfl, rfl, rfl, hp, h⟩
            replace hp := hq t119 hp
            unfold embrasurelaw08_NatPlays_j6
            refine cond_both hp (fun hp => ?_) (fun hp => ?_)
            · replace h := h.sel [] 10
              dsimp only [pickL, pickR, nthH, delH, dropH, List.cons_append, List.nil_append] at h
              exact hR false _ h hp
            replace h := h.sel [6, 1, 1, 2, 2, 2, 2, 2] 2
            dsimp only [pickL, pickR, nthH, delH, dropH, List.cons_append, List.nil_append] at h
            exact ⟨L_2, p_8, L_2.length, c_8, Now_2, list_3, p_7, list_3.length, c_7, now_3, m_6, m_5, hd_2, rfl, rfl, rfl, rfl, rfl, rfl, rfl, rfl, rfl, hp, h⟩
          clear hq
          refine ⟨_, cellL h 4 0 rfl rfl rfl, _, cellL h 4 1 rfl rfl rfl, ?_⟩
          refine ⟨_, cellL h 0 0 rfl rfl rfl, _, cellL h 0 1 rfl rfl rfl, ?_⟩
          refine neqAgg (xs := [(Value.int .u32 r_12), (Value.int .i64 r_13)]) (ys := [(Value.int .u32 r_15), (Value.int .i64 r_16)]) eqG24 eqA24 (eqT24 r_12 r_13 r_15 r_16) ?_
          refine ⟨_, rfl, ?_⟩
          refine cond_both hp (fun hp => ?_) (fun hp => ?_)
          · replace h := h.sel [0, 0, 0, 1, 1, 1, 2, 2, 0, 0] 0
            dsimp only [pickL, pickR, nthH, delH, dropH, List.cons_append, List.nil_append] at h
            exact ⟨rfl, rfl, rfl, rfl, rfl, rfl, rfl, hp, h⟩
          replace h := h.sel [0, 0, 0, 1, 1, 1, 2, 2, 0, 0] 0
          dsimp only [pickL, pickR, nthH, delH, dropH, List.cons_append, List.nil_append] at h
          exact ⟨rfl, rfl, rfl, rfl, rfl, rfl, rfl, hp, h⟩
        refine cond_both hp (fun hp => ?_) (fun hp => ?_)
        · refine ⟨_, cellL h 0 6 rfl rfl rfl, ?_⟩
          refine ⟨_, cellL h 0 4 rfl rfl rfl, _, cellL h 0 5 rfl rfl rfl, ?_⟩
          replace h := h.pick [3, 3, 5]
          dsimp only [pickL, pickR, nthH, delH, dropH, List.cons_append, List.nil_append] at h
          refine nat_Nat_In_ok h hp ?_
          rintro r_18 r_19 r_20 list_4 now_4 m_7 p_9 n_12 c_9 hd_3 w rfl h hp
          have cpp_9 := rowCap h 1 rfl
          refine ⟨_, _, _, rfl, ?_⟩
          refine ⟨_, _, rfl, ?_⟩
          refine ⟨_, rfl, ?_⟩
          refine newL (o := [(Value.int .u32 0), (Value.int .i64 0)]) h ?_
          intro b_9 w h
          refine storeL (ys := [(Value.int .u32 r_18), (Value.int .i64 r_19)]) h 0 0 rfl rfl rfl sz24 rfl rfl ?_
          intro w h
          dsimp only [setH, setVs, setV] at h
          refine ⟨_, cellL h 4 6 rfl rfl rfl, ?_⟩
          refine ⟨_, cellL h 4 4 rfl rfl rfl, _, cellL h 4 5 rfl rfl rfl, ?_⟩
          replace h := h.pick [5, 5, 6]
          dsimp only [pickL, pickR, nthH, delH, dropH, List.cons_append, List.nil_append] at h
          refine embrasureref08_Nat_In_ok h hp ?_
          rintro r_21 r_22 r_23 L_3 Now_3 p_10 n_13 c_10 w rfl h hp
          have cpp_10 := rowCap h 1 rfl
          refine ⟨_, _, _, rfl, ?_⟩
          refine ⟨_, _, rfl, ?_⟩
          refine ⟨_, rfl, ?_⟩
          refine newL (o := [(Value.int .u32 0), (Value.int .i64 0)]) h ?_
          intro b_10 w h
          refine storeL (ys := [(Value.int .u32 r_21), (Value.int .i64 r_22)]) h 0 0 rfl rfl rfl sz24 rfl rfl ?_
          intro w h
          dsimp only [setH, setVs, setV] at h
          obtain ⟨Q_11, hq, hp⟩ := hp
          refine ⟨fun script1_13p script1_13l script1_13c n5_13 r7_11 now8_11 i9_11 t149 w => p_1 = script1_13p ∧ script.length = script1_13l ∧ c_1 = script1_13c ∧ (some (Addr.mk b_4 0 none)) = n5_13 ∧ (Addr.mk b_5 0 none) = r7_11 ∧ now8_7 = now8_11 ∧ i9_5 = i9_11 ∧ Q_11 t149 ∧ Mem (cel b_10 24 [(Value.int .u32 r_21), (Value.int .i64 r_22)] :: cel b_5 58 [(Value.int .u32 box_Host), (Value.int .i64 box_Lo), (Value.int .i64 box_Hi), (Value.int .i64 box_Map), (Value.int .i64 box_Filter), (Value.int .i64 box_Life), (Value.int .i64 box_Most), (Value.slice p_10 L_3.length c_10), (Value.int .i64 Now_3)] :: row enc84 84 8 p_10 c_10 L_3 :: cel b_9 24 [(Value.int .u32 r_18), (Value.int .i64 r_19)] :: cel b_4 64 [(Value.int .u32 box), (Value.int .i64 box_1), (Value.int .i64 box_2), (Value.int .i64 box_3), (Value.int .i64 box_4), (Value.int .i64 box_5), (Value.int .i64 box_6), (Value.slice p_9 list_4.length c_9), (Value.int .i64 now_4)] :: row enc67 67 1 p_9 c_9 list_4 :: cel b_6 47 [(Value.int .i64 x_2.1), (Value.int .i64 x_2.2.1), (Value.int .u32 x_2.2.2.1), (Value.int .i64 x_2.2.2.2.1), (Value.int .u32 x_2.2.2.2.2.1), (Value.int .i64 x_2.2.2.2.2.2.1), (Value.int .i64 x_2.2.2.2.2.2.2.1), (Value.int .i64 x_2.2.2.2.2.2.2.2)] :: cel b_1 28 [(Value.int .u32 box_Host), (Value.int .i64 box_Lo), (Value.int .i64 box_Hi), (Value.int .i64 box_Map), (Value.int .i64 box_Filter), (Value.int .i64 box_Life), (Value.int .i64 box_Most)] :: poolP enc24 24 2 m_1 :: stoP stoE71 hd_3 m_7 :: FL) w, ?_, ?_⟩
          · rintro script1_13p script1_13l script1_13c n5_13 r7_11 now8_11 i9_11 t149 w ⟨rfl, rfl, rfl, rfl, rfl, rfl, rfl, hp, h⟩
            replace hp := hq t149 hp
            unfold embrasurelaw08_NatPlays_j7
            refine cond_both hp (fun hp => ?_) (fun hp => ?_)
            · replace h := h.sel [] 10
              dsimp only [pickL, pickR, nthH, delH, dropH, List.cons_append, List.nil_append] at h
              exact hR false _ h hp
            replace h := h.sel [6, 1, 1, 2, 2, 2, 2, 2] 2
            dsimp only [pickL, pickR, nthH, delH, dropH, List.cons_append, List.nil_append] at h
            exact ⟨L_3, p_10, L_3.length, c_10, Now_3, list_4, p_9, list_4.length, c_9, now_4, m_1, m_7, hd_3, rfl, rfl, rfl, rfl, rfl, rfl, rfl, rfl, rfl, hp, h⟩
          clear hq
          refine ⟨_, cellL h 4 0 rfl rfl rfl, _, cellL h 4 1 rfl rfl rfl, ?_⟩
          refine ⟨_, cellL h 0 0 rfl rfl rfl, _, cellL h 0 1 rfl rfl rfl, ?_⟩
          refine neqAgg (xs := [(Value.int .u32 r_18), (Value.int .i64 r_19)]) (ys := [(Value.int .u32 r_21), (Value.int .i64 r_22)]) eqG24 eqA24 (eqT24 r_18 r_19 r_21 r_22) ?_
          refine ⟨_, rfl, ?_⟩
          refine cond_both hp (fun hp => ?_) (fun hp => ?_)
          · replace h := h.sel [0, 0, 0, 1, 1, 1, 2, 2, 0, 0] 0
            dsimp only [pickL, pickR, nthH, delH, dropH, List.cons_append, List.nil_append] at h
            exact ⟨rfl, rfl, rfl, rfl, rfl, rfl, rfl, hp, h⟩
          replace h := h.sel [0, 0, 0, 1, 1, 1, 2, 2, 0, 0] 0
          dsimp only [pickL, pickR, nthH, delH, dropH, List.cons_append, List.nil_append] at h
          exact ⟨rfl, rfl, rfl, rfl, rfl, rfl, rfl, hp, h⟩
        refine cond_both hp (fun hp => ?_) (fun hp => ?_)
        · refine ⟨_, cellL h 0 2 rfl rfl rfl, _, cellL h 0 3 rfl rfl rfl, ?_⟩
          refine ⟨_, cellL h 0 6 rfl rfl rfl, ?_⟩
          refine ⟨_, cellL h 0 7 rfl rfl rfl, ?_⟩
          replace h := h.pick [3, 3, 5]
          dsimp only [pickL, pickR, nthH, delH, dropH, List.cons_append, List.nil_append] at h
          refine nat_Nat_Ask_ok h hp ?_
          rintro r_24 r_25 list_5 now_5 m_8 p_11 n_14 c_11 hd_4 w rfl h hp
          have cpp_11 := rowCap h 1 rfl
          refine ⟨_, _, rfl, ?_⟩
          refine ⟨_, rfl, ?_⟩
          refine ⟨_, rfl, ?_⟩
          refine ⟨_, cellL h 3 2 rfl rfl rfl, _, cellL h 3 3 rfl rfl rfl, ?_⟩
          refine ⟨_, cellL h 3 6 rfl rfl rfl, ?_⟩
          refine ⟨_, cellL h 3 7 rfl rfl rfl, ?_⟩
          replace h := h.pick [4, 4]
          dsimp only [pickL, pickR, nthH, delH, dropH, List.cons_append, List.nil_append] at h
          refine embrasureref08_Nat_Ask_ok h hp ?_
          rintro r_26 r_27 L_4 Now_4 p_12 n_15 c_12 w rfl h hp
          have cpp_12 := rowCap h 1 rfl
          refine ⟨_, _, rfl, ?_⟩
          refine ⟨_, rfl, ?_⟩
          refine ⟨_, rfl, ?_⟩
          obtain ⟨Q_12, hq, hp⟩ := hp
          refine ⟨fun script1_14p script1_14l script1_14c n5_14 r7_12 now8_12 i9_12 t183 w => p_1 = script1_14p ∧ script.length = script1_14l ∧ c_1 = script1_14c ∧ (some (Addr.mk b_4 0 none)) = n5_14 ∧ (Addr.mk b_5 0 none) = r7_12 ∧ now8_7 = now8_12 ∧ i9_5 = i9_12 ∧ Q_12 t183 ∧ Mem (cel b_5 58 [(Value.int .u32 box_Host), (Value.int .i64 box_Lo), (Value.int .i64 box_Hi), (Value.int .i64 box_Map), (Value.int .i64 box_Filter), (Value.int .i64 box_Life), (Value.int .i64 box_Most), (Value.slice p_12 L_4.length c_12), (Value.int .i64 Now_4)] :: row enc84 84 8 p_12 c_12 L_4 :: cel b_4 64 [(Value.int .u32 box), (Value.int .i64 box_1), (Value.int .i64 box_2), (Value.int .i64 box_3), (Value.int .i64 box_4), (Value.int .i64 box_5), (Value.int .i64 box_6), (Value.slice p_11 list_5.length c_11), (Value.int .i64 now_5)] :: row enc67 67 1 p_11 c_11 list_5 :: cel b_6 47 [(Value.int .i64 x_2.1), (Value.int .i64 x_2.2.1), (Value.int .u32 x_2.2.2.1), (Value.int .i64 x_2.2.2.2.1), (Value.int .u32 x_2.2.2.2.2.1), (Value.int .i64 x_2.2.2.2.2.2.1), (Value.int .i64 x_2.2.2.2.2.2.2.1), (Value.int .i64 x_2.2.2.2.2.2.2.2)] :: cel b_1 28 [(Value.int .u32 box_Host), (Value.int .i64 box_Lo), (Value.int .i64 box_Hi), (Value.int .i64 box_Map), (Value.int .i64 box_Filter), (Value.int .i64 box_Life), (Value.int .i64 box_Most)] :: stoP stoE71 hd_4 m_8 :: poolP enc24 24 2 m_1 :: FL) w, ?_, ?_⟩
          · rintro script1_14p script1_14l script1_14c n5_14 r7_12 now8_12 i9_12 t183 w ⟨rfl, rfl, rfl, rfl, rfl, rfl, rfl, hp, h⟩
            replace hp := hq t183 hp
            unfold embrasurelaw08_NatPlays_j8
            refine cond_both hp (fun hp => ?_) (fun hp => ?_)
            · replace h := h.sel [] 8
              dsimp only [pickL, pickR, nthH, delH, dropH, List.cons_append, List.nil_append] at h
              exact hR false _ h hp
            replace h := h.sel [4, 0, 0, 0, 0, 0, 1, 0] 0
            dsimp only [pickL, pickR, nthH, delH, dropH, List.cons_append, List.nil_append] at h
            exact ⟨L_4, p_12, L_4.length, c_12, Now_4, list_5, p_11, list_5.length, c_11, now_5, m_1, m_8, hd_4, rfl, rfl, rfl, rfl, rfl, rfl, rfl, rfl, rfl, hp, h⟩
          clear hq
          refine cond_both hp (fun hp => ?_) (fun hp => ?_)
          · replace h := h.sel [0, 0, 0, 0, 1, 1, 0, 0] 0
            dsimp only [pickL, pickR, nthH, delH, dropH, List.cons_append, List.nil_append] at h
            exact ⟨rfl, rfl, rfl, rfl, rfl, rfl, rfl, hp, h⟩
          replace h := h.sel [0, 0, 0, 0, 1, 1, 0, 0] 0
          dsimp only [pickL, pickR, nthH, delH, dropH, List.cons_append, List.nil_append] at h
          exact ⟨rfl, rfl, rfl, rfl, rfl, rfl, rfl, hp, h⟩
        refine cond_both' hp (fun hp => ?_) (fun hp => ?_)
        · replace h := h.pick [3]
          dsimp only [pickL, pickR, nthH, delH, dropH, List.cons_append, List.nil_append] at h
          refine nat_Nat_Reboot_ok h hp ?_
          rintro list_7 now_7 p_15 n_18 c_15 w rfl h hp
          have cpp_15 := rowCap h 1 rfl
          refine ⟨rfl, ?_⟩
          refine ⟨_, rfl, ?_⟩
          replace h := rowNil enc84 84 8 h
          refine storeL (ys := [(Value.slice none  0 0)]) h 4 7 rfl rfl rfl sz56 rfl rfl ?_
          intro w h
          dsimp only [setH, setVs, setV] at h
          refine ⟨_, rfl, ?_⟩
          refine storeL (ys := [(Value.int .i64 0)]) h 4 8 rfl rfl rfl sz3 rfl rfl ?_
          intro w h
          dsimp only [setH, setVs, setV] at h
          replace h := h.sel [3, 3, 0, 0, 0, 2, 2, 2] 2
          dsimp only [pickL, pickR, nthH, delH, dropH, List.cons_append, List.nil_append] at h
          exact ⟨([] : List (Int × Int × Int × Int × Int × Int × Bool × (Option Addr × Nat × Nat))), none , 0, 0, 0, list_7, p_15, list_7.length, c_15, now_7, m_1, m_2, hd, rfl, rfl, rfl, rfl, rfl, rfl, rfl, rfl, rfl, hp, h⟩
        replace h := h.drew
        refine ⟨fun w => Mem (cel b_6 47 [(Value.int .i64 x_2.1), (Value.int .i64 x_2.2.1), (Value.int .u32 x_2.2.2.1), (Value.int .i64 x_2.2.2.2.1), (Value.int .u32 x_2.2.2.2.2.1), (Value.int .i64 x_2.2.2.2.2.2.1), (Value.int .i64 x_2.2.2.2.2.2.2.1), (Value.int .i64 x_2.2.2.2.2.2.2.2)] :: FL) w, (h.sel [0] 7), ?_⟩
        refine ⟨_, cellL h 0 2 rfl rfl rfl, _, cellL h 0 3 rfl rfl rfl, ?_⟩
        refine ⟨_, cellL h 0 2 rfl rfl rfl, _, cellL h 0 3 rfl rfl rfl, ?_⟩
        refine ⟨?_, ?_⟩
        · intro w h
          change Mem _ _ at h
          refine ⟨_, cellL h 0 2 rfl rfl rfl, _, cellL h 0 3 rfl rfl rfl, ?_⟩
          exact ⟨rfl, rfl⟩
        replace h := h.pick [3, 3, 5]
        dsimp only [pickL, pickR, nthH, delH, dropH, List.cons_append, List.nil_append] at h
        refine nat_Nat_Drop_ok h hp ?_
        rintro r_28 list_6 now_6 p_13 n_16 c_13 w rfl h hp
        have cpp_13 := rowCap h 1 rfl
        refine ⟨_, rfl, ?_⟩
        refine ⟨(h.sel [3] 7), ?_⟩
        replace h := h.pick [4, 4]
        dsimp only [pickL, pickR, nthH, delH, dropH, List.cons_append, List.nil_append] at h
        refine embrasureref08_Nat_Drop_ok h hp ?_
        rintro r_29 L_5 Now_5 p_14 n_17 c_14 w rfl h hp
        have cpp_14 := rowCap h 1 rfl
        refine ⟨_, rfl, ?_⟩
        refine ⟨(h.sel [5] 7), ?_⟩
        refine neqBool undB4 ?_
        refine ⟨_, rfl, ?_⟩
        refine ⟨rfl, ?_⟩
        refine cond_both hp (fun hp => ?_) (fun hp => ?_)
        · replace h := h.sel [] 8
          dsimp only [pickL, pickR, nthH, delH, dropH, List.cons_append, List.nil_append] at h
          exact hR false _ h hp
        replace h := h.sel [5, 0, 0, 0, 0, 1, 1, 0] 0
        dsimp only [pickL, pickR, nthH, delH, dropH, List.cons_append, List.nil_append] at h
        exact ⟨L_5, p_14, L_5.length, c_14, Now_5, list_6, p_13, list_6.length, c_13, now_6, m_1, m_2, hd, rfl, rfl, rfl, rfl, rfl, rfl, rfl, rfl, rfl, hp, h⟩
      clear hq
      obtain ⟨Q_8, hq, hp⟩ := hp
      refine ⟨fun script1_10p script1_10l script1_10c n5_10 r7_8 now8_8 i9_8 d10_3 t75_1 w => p_1 = script1_10p ∧ script.length = script1_10l ∧ c_1 = script1_10c ∧ (some (Addr.mk b_4 0 none)) = n5_10 ∧ (Addr.mk b_5 0 none) = r7_8 ∧ now8_5 = now8_8 ∧ i9_5 = i9_8 ∧ (Addr.mk b_6 0 none) = d10_3 ∧ Q_8 t75_1 ∧ Mem (cel b_6 47 [(Value.int .i64 x_2.1), (Value.int .i64 x_2.2.1), (Value.int .u32 x_2.2.2.1), (Value.int .i64 x_2.2.2.2.1), (Value.int .u32 x_2.2.2.2.2.1), (Value.int .i64 x_2.2.2.2.2.2.1), (Value.int .i64 x_2.2.2.2.2.2.2.1), (Value.int .i64 x_2.2.2.2.2.2.2.2)] :: cel b_5 58 [(Value.int .u32 box_Host), (Value.int .i64 box_Lo), (Value.int .i64 box_Hi), (Value.int .i64 box_Map), (Value.int .i64 box_Filter), (Value.int .i64 box_Life), (Value.int .i64 box_Most), (Value.slice p_3 L.length c_3), (Value.int .i64 Now)] :: row enc84 84 8 p_3 c_3 L :: cel b_4 64 [(Value.int .u32 box), (Value.int .i64 box_1), (Value.int .i64 box_2), (Value.int .i64 box_3), (Value.int .i64 box_4), (Value.int .i64 box_5), (Value.int .i64 box_6), (Value.slice p_4 list_1.length c_4), (Value.int .i64 now_1)] :: row enc67 67 1 p_4 c_4 list_1 :: cel b_1 28 [(Value.int .u32 box_Host), (Value.int .i64 box_Lo), (Value.int .i64 box_Hi), (Value.int .i64 box_Map), (Value.int .i64 box_Filter), (Value.int .i64 box_Life), (Value.int .i64 box_Most)] :: poolP enc24 24 2 m_1 :: stoP stoE71 hd m_2 :: FL) w, ?_, ?_⟩
      · rintro script1_10p script1_10l script1_10c n5_10 r7_8 now8_8 i9_8 d10_3 t75_1 w ⟨rfl, rfl, rfl, rfl, rfl, rfl, rfl, rfl, hp, h⟩
        replace hp := hq t75_1 hp
        unfold embrasurelaw08_NatPlays_j9
        refine cond_both' hp (fun hp => ?_) (fun hp => ?_)
        · exact ⟨rfl, rfl, rfl, rfl, rfl, rfl, rfl, hp, h⟩
        refine ⟨_, cellL h 0 1 rfl rfl rfl, ?_⟩
        exact ⟨rfl, rfl, rfl, rfl, rfl, rfl, rfl, hp, h⟩
      clear hq
      refine ⟨_, cellL h 0 1 rfl rfl rfl, ?_⟩
      refine cond_both' hp (fun hp => ?_) (fun hp => ?_)
      · exact ⟨rfl, rfl, rfl, rfl, rfl, rfl, rfl, rfl, hp, h⟩
      refine ⟨_, cellL h 0 1 rfl rfl rfl, ?_⟩
      exact ⟨rfl, rfl, rfl, rfl, rfl, rfl, rfl, rfl, hp, h⟩
    clear hq
    refine cond_both hp (fun hp => ?_) (fun hp => ?_)
    · exact ⟨rfl, rfl, rfl, rfl, rfl, rfl, rfl, hp, h⟩
    exact ⟨rfl, rfl, rfl, rfl, rfl, rfl, rfl, hp, h⟩
  clear hq
  replace h := h.drew
  refine ⟨fun w => Mem (cel b_1 28 [(Value.int .u32 box_Host), (Value.int .i64 box_Lo), (Value.int .i64 box_Hi), (Value.int .i64 box_Map), (Value.int .i64 box_Filter), (Value.int .i64 box_Life), (Value.int .i64 box_Most)] :: FL) w, (h.sel [2] 4), ?_⟩
  refine eqlPtrNil undP30 ?_
  refine ⟨_, rfl, ?_⟩
  refine ⟨rfl, ?_⟩
  refine cond_ff ?_
  refine cond_both hp (fun hp => ?_) (fun hp => ?_)
  · exact ⟨rfl, rfl, rfl, rfl, rfl, hp, h⟩
  refine ⟨_, cellL h 2 0 rfl rfl rfl, _, cellL h 2 1 rfl rfl rfl, _, cellL h 2 2 rfl rfl rfl, _, cellL h 2 3 rfl rfl rfl, _, cellL h 2 4 rfl rfl rfl, _, cellL h 2 5 rfl rfl rfl, _, cellL h 2 6 rfl rfl rfl, ?_⟩
  refine ⟨?_, ?_⟩
  · intro w h
    change Mem _ _ at h
    refine ⟨_, cellL h 0 0 rfl rfl rfl, _, cellL h 0 1 rfl rfl rfl, _, cellL h 0 2 rfl rfl rfl, _, cellL h 0 3 rfl rfl rfl, _, cellL h 0 4 rfl rfl rfl, _, cellL h 0 5 rfl rfl rfl, _, cellL h 0 6 rfl rfl rfl, ?_⟩
    exact ⟨rfl, rfl⟩
  refine nat_Nat_Box_ok h hp ?_
  intro r_5 r_6 r_7 r_8 r_9 r_10 r_11 w h hp
  refine ⟨_, _, _, _, _, _, _, rfl, ?_⟩
  refine ⟨(h.sel [2] 4), ?_⟩
  refine neqAgg (xs := [(Value.int .u32 r_5), (Value.int .i64 r_6), (Value.int .i64 r_7), (Value.int .i64 r_8), (Value.int .i64 r_9), (Value.int .i64 r_10), (Value.int .i64 r_11)]) (ys := [(Value.int .u32 box_Host), (Value.int .i64 box_Lo), (Value.int .i64 box_Hi), (Value.int .i64 box_Map), (Value.int .i64 box_Filter), (Value.int .i64 box_Life), (Value.int .i64 box_Most)]) eqG28 eqA28 (eqT28 r_5 r_6 r_7 r_8 r_9 r_10 r_11 box_Host box_Lo box_Hi box_Map box_Filter box_Life box_Most) ?_
  refine ⟨_, rfl, ?_⟩
  refine ⟨rfl, ?_⟩
  exact ⟨rfl, rfl, rfl, rfl, rfl, hp, h⟩

end Go.Proofs.Ythhbnjcebmhilaa
