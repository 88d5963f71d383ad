/- Each function over plain data (printed by a program of this claim's author). -/
import Derived.Test.YtnmdnkmemjfoeaaL2
namespace Go.Proofs.Ytnmdnkmemjfoeaa
open Go Go.Eng Go.Proofs
set_option maxRecDepth 100000
set_option maxHeartbeats 2000000
def nN_Ask_wp (box box_1 box_2 box_3 box_4 box_5 box_6 : Int) (list : List (Option Nat)) (now now_1 in_Host in_Port wish until_ : Int) (m_1 : SBX) (K : Int → Int → List (Option Nat) → Int → SBX → Prop) : Prop :=
  joinP3 (fun (list_2 : List (Option Nat)) (now_3 : Int) (t31 : Bool) => cond t31 (K 0 1 list_2 now_3 m_1) (nN_asked_wp box box_1 box_2 box_3 box_4 box_5 box_6 list_2 now_3 in_Host in_Port m_1 (fun (r_2 : Option Nat) => joinP3 (fun (list_4 : List (Option Nat)) (b_3 : Option Nat) (m_3 : SBX) => ∃ (b_4 : Nat), b_3 = some b_4 ∧ (∃ (x_1 : Int × Int × Int × Int × Int × Int × Bool × (List (Int × Int))), getS m_3 b_4 = some x_1 ∧ (K x_1.2.2.2.2.1 0 list_4 now_3 (putS m_3 b_4 (x_1.1, x_1.2.1, x_1.2.2.1, x_1.2.2.2.1, x_1.2.2.2.2.1, until_, x_1.2.2.2.2.2.2.1, x_1.2.2.2.2.2.2.2))))) (fun (Q_1 : List (Option Nat) → Option Nat → SBX → Prop) => cond (Option.isNone r_2) (nN_made_wp box box_1 box_2 box_3 box_4 box_5 box_6 list_2 now_3 in_Host in_Port 0 0 0 0 true wish m_1 (fun (r_3 : Option Nat) (r_4 : Int) (list_5 : List (Option Nat)) (m_4 : SBX) => cond (r_4 != 0) (K 0 r_4 list_5 now_3 m_4) (Q_1 list_5 r_3 m_4))) (Q_1 list_2 r_2 m_1))))) (fun (Q : List (Option Nat) → Int → Bool → Prop) => addr_May_wp in_Host in_Port (fun (r : Bool) => cond (!r) (Q list now true) (cond (decide (until_ ≤ now_1)) (Q list now true) (cond (decide (until_ > 1099511627776)) (Q list now true) (nN_on_wp box box_1 box_2 box_3 box_4 box_5 box_6 list now now_1 m_1 (fun (r_1 : Bool) (list_3 : List (Option Nat)) (now_4 : Int) => Q list_3 now_4 (!r_1)))))))
theorem nN_Ask_ok {b_1 : Nat} {p_1 : Option Addr} {c_1 : Nat} {hd : Nat → Option Addr × Nat} {box box_1 box_2 box_3 box_4 box_5 box_6 : Int} {list : List (Option Nat)} {now now_1 in_Host in_Port wish until_ : Int} {m_1 : SBX} {FL : List HP} {w : World} {K : Int → Int → List (Option Nat) → Int → SBX → Prop} {R : Value → World → Prop}
  (h : Mem (cel b_1 71 [Value.int .u32 box, Value.int .i64 box_1, Value.int .i64 box_2, Value.int .i64 box_3, Value.int .i64 box_4, Value.int .i64 box_5, Value.int .i64 box_6, Value.slice p_1 list.length c_1, Value.int .i64 now] :: row enc82 82 1 p_1 c_1 list :: stoP stoE85 hd m_1 :: FL) w) (hp : nN_Ask_wp box box_1 box_2 box_3 box_4 box_5 box_6 list now now_1 in_Host in_Port wish until_ m_1 K)
  (hR : ∀ (r r_1 : Int) (list_1 : List (Option Nat)) (now_2 : Int) (m_2 : SBX) (p_2 : Option Addr) (n_1 c_2 : Nat) (hd_1 : Nat → Option Addr × Nat) (w : World), n_1 = list_1.length → Mem (cel b_1 71 [Value.int .u32 box, Value.int .i64 box_1, Value.int .i64 box_2, Value.int .i64 box_3, Value.int .i64 box_4, Value.int .i64 box_5, Value.int .i64 box_6, Value.slice p_2 n_1 c_2, Value.int .i64 now_2] :: row enc82 82 1 p_2 c_2 list_1 :: stoP stoE85 hd_1 m_2 :: FL) w → K r r_1 list_1 now_2 m_2 → R (Value.tuple #[Value.int .i64 r, Value.int .i64 r_1]) w) :
  CallV Try.prog 72 #[Value.pointer (some (Addr.mk b_1 0 none)), Value.int .i64 now_1, (Value.agg #[Value.int .u32 in_Host, Value.int .i64 in_Port]), Value.int .i64 wish, Value.int .i64 until_] w R := by
  refine nN_Ask_call ?_
  unfold nN_Ask
  unfold nN_Ask_wp at hp
  have cpp_1 := rowCap h 1 rfl
  refine newL (o := [Value.int .u32 in_Host, Value.int .i64 in_Port]) h ?_
  intro b_2 w h
  obtain ⟨Q, hq, hp⟩ := hp
  refine ⟨fun n0 wish3 until4 in7 t31 w => ∃ (list_2 : List (Option Nat)), ∃ (p_3 : Option Addr), ∃ (n_2 : Nat), ∃ (c_3 : Nat), ∃ (now_3 : Int), (some (Addr.mk b_1 0 none)) = n0 ∧ wish = wish3 ∧ until_ = until4 ∧ (Addr.mk b_2 0 none) = in7 ∧ n_2 = list_2.length ∧ Q list_2 now_3 t31 ∧ Mem (cel b_2 25 [Value.int .u32 in_Host, Value.int .i64 in_Port] :: cel b_1 71 [Value.int .u32 box, Value.int .i64 box_1, Value.int .i64 box_2, Value.int .i64 box_3, Value.int .i64 box_4, Value.int .i64 box_5, Value.int .i64 box_6, Value.slice p_3 n_2 c_3, Value.int .i64 now_3] :: row enc82 82 1 p_3 c_3 list_2 :: stoP stoE85 hd m_1 :: FL) w, ?_, ?_⟩
  · rintro n0 wish3 until4 in7 t31 w ⟨list_2, p_3, n_2, c_3, now_3, rfl, rfl, rfl, rfl, rfl, hp, h⟩
    replace hp := hq list_2 now_3 t31 hp
    unfold nN_Ask_j1
    have cpp_3 := rowCap h 2 rfl
    refine cond_both hp (fun hp => ?_) (fun hp => ?_)
    · replace h := h.sel [1, 1, 1] 1
      dsimp only [pickL, pickR, nthH, delH, dropH, List.cons_append, List.nil_append] at h
      exact hR 0 1 list_2 now_3 m_1 p_3 list_2.length c_3 hd _ rfl h hp
    refine ⟨_, cellL h 0 0 rfl rfl rfl, _, cellL h 0 1 rfl rfl rfl, ?_⟩
    replace h := h.pick [1, 1]
    dsimp only [pickL, pickR, nthH, delH, dropH, List.cons_append, List.nil_append] at h
    have hSr85 := stoRo85 (h.drop 2) 1 rfl
    refine nN_asked_ok (FL := cel b_2 25 [Value.int .u32 in_Host, Value.int .i64 in_Port] :: stoP stoE85 hd m_1 :: FL) hSr85 h hp ?_
    intro r_2 w h hp
    have cpp_3 := rowCap h 1 rfl
    refine ⟨_, rfl, ?_⟩
    obtain ⟨Q_1, hq, hp⟩ := hp
    refine ⟨fun until4_1 b12 w => ∃ (list_4 : List (Option Nat)), ∃ (p_5 : Option Addr), ∃ (n_4 : Nat), ∃ (c_5 : Nat), ∃ (b_3 : Option Nat), ∃ (m_3 : SBX), ∃ (hd_2 : Nat → Option Addr × Nat), until_ = until4_1 ∧ (pn b_3) = b12 ∧ n_4 = list_4.length ∧ Q_1 list_4 b_3 m_3 ∧ Mem (cel b_1 71 [Value.int .u32 box, Value.int .i64 box_1, Value.int .i64 box_2, Value.int .i64 box_3, Value.int .i64 box_4, Value.int .i64 box_5, Value.int .i64 box_6, Value.slice p_5 n_4 c_5, Value.int .i64 now_3] :: row enc82 82 1 p_5 c_5 list_4 :: cel b_2 25 [Value.int .u32 in_Host, Value.int .i64 in_Port] :: stoP stoE85 hd_2 m_3 :: FL) w, ?_, ?_⟩
    · rintro until4_1 b12 w ⟨list_4, p_5, n_4, c_5, b_3, m_3, hd_2, rfl, rfl, rfl, hp, h⟩
      replace hp := hq list_4 b_3 m_3 hp
      unfold nN_Ask_j2
      have cpp_5 := rowCap h 1 rfl
      obtain ⟨b_4, hb_4, hp⟩ := hp
      refine ⟨_, pnSome hb_4, ?_⟩
      obtain ⟨x_1, hx_1, hp⟩ := hp
      replace h := stoOpen stoX85 h 3 rfl hx_1
      dsimp only [setH] at h
      obtain ⟨p_7, c_7, hux_1⟩ : ∃ p_7 c_7, hd_2 b_4 = (p_7, c_7) := ⟨_, _, rfl⟩
      rw [hux_1] at h
      replace h : Mem (cel b_4 85 [Value.int .u32 x_1.1, Value.int .i64 x_1.2.1, Value.int .u32 x_1.2.2.1, Value.int .i64 x_1.2.2.2.1, Value.int .i64 x_1.2.2.2.2.1, Value.int .i64 x_1.2.2.2.2.2.1, Value.bool x_1.2.2.2.2.2.2.1, Value.slice p_7 x_1.2.2.2.2.2.2.2.length c_7] :: row enc25 25 2 p_7 c_7 x_1.2.2.2.2.2.2.2 :: cel b_1 71 [Value.int .u32 box, Value.int .i64 box_1, Value.int .i64 box_2, Value.int .i64 box_3, Value.int .i64 box_4, Value.int .i64 box_5, Value.int .i64 box_6, Value.slice p_5 list_4.length c_5, Value.int .i64 now_3] :: row enc82 82 1 p_5 c_5 list_4 :: cel b_2 25 [Value.int .u32 in_Host, Value.int .i64 in_Port] :: stoP stoE85 hd_2 (delS m_3 b_4) :: FL) _ := h.unpack
      have cpp_7 := rowCap h 1 rfl
      refine storeL (ys := [Value.int .i64 until_]) h 0 5 rfl rfl rfl sz3 rfl rfl ?_
      intro w h
      dsimp only [setH, setVs, setV] at h
      refine ⟨_, pnSome hb_4, ?_⟩
      refine ⟨_, cellL h 0 4 rfl rfl rfl, ?_⟩
      replace h : Mem (stoE85 (p_7, c_7) b_4 (x_1.1, x_1.2.1, x_1.2.2.1, x_1.2.2.2.1, x_1.2.2.2.2.1, until_, x_1.2.2.2.2.2.2.1, x_1.2.2.2.2.2.2.2) :: cel b_1 71 [Value.int .u32 box, Value.int .i64 box_1, Value.int .i64 box_2, Value.int .i64 box_3, Value.int .i64 box_4, Value.int .i64 box_5, Value.int .i64 box_6, Value.slice p_5 list_4.length c_5, Value.int .i64 now_3] :: row enc82 82 1 p_5 c_5 list_4 :: cel b_2 25 [Value.int .u32 in_Host, Value.int .i64 in_Port] :: stoP stoE85 hd_2 (delS m_3 b_4) :: FL) _ := h.pack 2 [cel b_4 85 [Value.int .u32 x_1.1, Value.int .i64 x_1.2.1, Value.int .u32 x_1.2.2.1, Value.int .i64 x_1.2.2.2.1, Value.int .i64 x_1.2.2.2.2.1, Value.int .i64 until_, Value.bool x_1.2.2.2.2.2.2.1, Value.slice p_7 x_1.2.2.2.2.2.2.2.length c_7], row enc25 25 2 p_7 c_7 x_1.2.2.2.2.2.2.2] rfl
      replace h := stoClose h 3 (by simp only [List.length_cons]; omega) rfl
      dsimp only [setH] at h
      replace h := h.sel [0, 0, 1] 1
      dsimp only [pickL, pickR, nthH, delH, dropH, List.cons_append, List.nil_append] at h
      exact hR x_1.2.2.2.2.1 0 list_4 now_3 (putS m_3 b_4 (x_1.1, x_1.2.1, x_1.2.2.1, x_1.2.2.2.1, x_1.2.2.2.2.1, until_, x_1.2.2.2.2.2.2.1, x_1.2.2.2.2.2.2.2)) p_5 list_4.length c_5 (updF hd_2 b_4 (p_7, c_7)) _ rfl h hp
    clear hq
    refine eqlPn undP82 ?_
    refine ⟨_, rfl, ?_⟩
    refine cond_both' hp (fun hp => ?_) (fun hp => ?_)
    · exact ⟨list_2, p_3, list_2.length, c_3, r_2, m_1, hd, rfl, rfl, rfl, hp, h⟩
    refine ⟨_, cellL h 2 0 rfl rfl rfl, _, cellL h 2 1 rfl rfl rfl, ?_⟩
    replace h := h.pick [0, 0, 1]
    dsimp only [pickL, pickR, nthH, delH, dropH, List.cons_append, List.nil_append] at h
    refine nN_made_ok h hp ?_
    rintro r_3 r_4 list_5 m_4 p_6 n_5 c_6 hd_3 w rfl h hp
    have cpp_6 := rowCap h 1 rfl
    refine ⟨_, _, rfl, ?_⟩
    refine ⟨_, rfl, ?_⟩
    refine ⟨_, rfl, ?_⟩
    refine cond_both hp (fun hp => ?_) (fun hp => ?_)
    · replace h := h.sel [0, 0, 0] 1
      dsimp only [pickL, pickR, nthH, delH, dropH, List.cons_append, List.nil_append] at h
      exact hR 0 r_4 list_5 now_3 m_4 p_6 list_5.length c_6 hd_3 _ rfl h hp
    replace h := h.sel [0, 0, 1, 0] 0
    dsimp only [pickL, pickR, nthH, delH, dropH, List.cons_append, List.nil_append] at h
    exact ⟨list_5, p_6, list_5.length, c_6, r_3, m_4, hd_3, rfl, rfl, rfl, hp, h⟩
  clear hq
  refine ⟨_, cellL h 0 0 rfl rfl rfl, _, cellL h 0 1 rfl rfl rfl, ?_⟩
  refine addr_May_ok h hp ?_
  intro r w h hp
  refine ⟨_, rfl, ?_⟩
  refine cond_both hp (fun hp => ?_) (fun hp => ?_)
  · exact ⟨list, p_1, list.length, c_1, now, rfl, rfl, rfl, rfl, rfl, hp, h⟩
  refine cond_both hp (fun hp => ?_) (fun hp => ?_)
  · exact ⟨list, p_1, list.length, c_1, now, rfl, rfl, rfl, rfl, rfl, hp, h⟩
  refine cond_both hp (fun hp => ?_) (fun hp => ?_)
  · exact ⟨list, p_1, list.length, c_1, now, rfl, rfl, rfl, rfl, rfl, hp, h⟩
  replace h := h.pick [1, 1, 1]
  dsimp only [pickL, pickR, nthH, delH, dropH, List.cons_append, List.nil_append] at h
  refine nN_on_ok h hp ?_
  rintro r_1 list_3 now_4 p_4 n_3 c_4 w rfl h hp
  have cpp_4 := rowCap h 1 rfl
  refine ⟨_, rfl, ?_⟩
  replace h := h.sel [3, 0, 0, 0] 0
  dsimp only [pickL, pickR, nthH, delH, dropH, List.cons_append, List.nil_append] at h
  exact ⟨list_3, p_4, list_3.length, c_4, now_4, rfl, rfl, rfl, rfl, rfl, hp, h⟩
def gG_grant_wp (box box_1 box_2 box_3 box_4 box_5 box_6 : Int) (list : List (Option Nat)) (now : Int) (g_1 g_2 : Bool) (g_3 boot now_1 : Int) (by_ : BYX) (now_2 in_Host in_Port l_Ver l_Inside l_Port l_Secs l_Nonce l_Result l_Epoch l_Host : Int) (m_1 : SBX) (K : Int → Int → Int → List (Option Nat) → Int → SBX → Prop) : Prop :=
  nN_Ask_wp box box_1 box_2 box_3 box_4 box_5 box_6 list now now_2 in_Host in_Port l_Port (IntKind.wrap .i64 (now_2 + (if (g_3 : Int) < l_Secs then g_3 else l_Secs))) m_1 (fun (r r_1 : Int) (list_2 : List (Option Nat)) (now_4 : Int) (m_3 : SBX) => cond (r_1 != 0) (K 0 0 r_1 list_2 now_4 m_3) (K r (if (g_3 : Int) < l_Secs then g_3 else l_Secs) 0 list_2 now_4 m_3))
theorem gG_grant_ok {b_1 b_2 : Nat} {p_1 : Option Addr} {c_1 b_3 : Nat} {p_2 : List MapEntry × Nat} {hd : Nat → Option Addr × Nat} {box box_1 box_2 box_3 box_4 box_5 box_6 : Int} {list : List (Option Nat)} {now : Int} {g_1 g_2 : Bool} {g_3 boot now_1 : Int} {by_ : BYX} {now_2 in_Host in_Port l_Ver l_Inside l_Port l_Secs l_Nonce l_Result l_Epoch l_Host : Int} {m_1 : SBX} {FL : List HP} {w : World} {K : Int → Int → Int → List (Option Nat) → Int → SBX → Prop} {R : Value → World → Prop}
  (hM_by_ : RoM FL b_3 va25 va111 p_2 by_)
  (h : Mem (cel b_1 75 [Value.pointer (some (Addr.mk b_2 0 none)), Value.bool g_1, Value.bool g_2, Value.int .i64 g_3, Value.int .i64 boot, Value.int .i64 now_1, Value.map (some b_3)] :: cel b_2 71 [Value.int .u32 box, Value.int .i64 box_1, Value.int .i64 box_2, Value.int .i64 box_3, Value.int .i64 box_4, Value.int .i64 box_5, Value.int .i64 box_6, Value.slice p_1 list.length c_1, Value.int .i64 now] :: row enc82 82 1 p_1 c_1 list :: stoP stoE85 hd m_1 :: FL) w) (hp : gG_grant_wp box box_1 box_2 box_3 box_4 box_5 box_6 list now g_1 g_2 g_3 boot now_1 by_ now_2 in_Host in_Port l_Ver l_Inside l_Port l_Secs l_Nonce l_Result l_Epoch l_Host m_1 K)
  (hR : ∀ (r r_1 r_2 : Int) (list_1 : List (Option Nat)) (now_3 : Int) (m_2 : SBX) (p_3 : Option Addr) (n_1 c_2 : Nat) (hd_1 : Nat → Option Addr × Nat) (w : World), n_1 = list_1.length → Mem (cel b_1 75 [Value.pointer (some (Addr.mk b_2 0 none)), Value.bool g_1, Value.bool g_2, Value.int .i64 g_3, Value.int .i64 boot, Value.int .i64 now_1, Value.map (some b_3)] :: cel b_2 71 [Value.int .u32 box, Value.int .i64 box_1, Value.int .i64 box_2, Value.int .i64 box_3, Value.int .i64 box_4, Value.int .i64 box_5, Value.int .i64 box_6, Value.slice p_3 n_1 c_2, Value.int .i64 now_3] :: row enc82 82 1 p_3 c_2 list_1 :: stoP stoE85 hd_1 m_2 :: FL) w → K r r_1 r_2 list_1 now_3 m_2 → R (Value.tuple #[Value.int .i64 r, Value.int .i64 r_1, Value.int .i64 r_2]) w) :
  CallV Try.prog 56 #[Value.pointer (some (Addr.mk b_1 0 none)), Value.int .i64 now_2, (Value.agg #[Value.int .u32 in_Host, Value.int .i64 in_Port]), (Value.agg #[Value.int .i64 l_Ver, Value.int .i64 l_Inside, Value.int .i64 l_Port, Value.int .i64 l_Secs, Value.int .u64 l_Nonce, Value.int .i64 l_Result, Value.int .i64 l_Epoch, Value.int .u32 l_Host])] w R := by
  refine gG_grant_call ?_
  unfold gG_grant
  unfold gG_grant_wp at hp
  have cpp_1 := rowCap h 2 rfl
  refine newL (o := [Value.int .u32 in_Host, Value.int .i64 in_Port]) h ?_
  intro b_4 w h
  refine newL (o := [Value.int .i64 l_Ver, Value.int .i64 l_Inside, Value.int .i64 l_Port, Value.int .i64 l_Secs, Value.int .u64 l_Nonce, Value.int .i64 l_Result, Value.int .i64 l_Epoch, Value.int .u32 l_Host]) h ?_
  intro b_5 w h
  replace h := h.drew
  refine ⟨_, cellL h 0 3 rfl rfl rfl, ?_⟩
  refine ⟨_, rfl, ?_⟩
  refine ⟨_, cellL h 2 3 rfl rfl rfl, ?_⟩
  replace h := h.drew
  refine ⟨_, rfl, ?_⟩
  refine ⟨_, cellL h 2 0 rfl rfl rfl, ?_⟩
  refine ⟨_, cellL h 1 0 rfl rfl rfl, _, cellL h 1 1 rfl rfl rfl, ?_⟩
  refine ⟨_, cellL h 0 2 rfl rfl rfl, ?_⟩
  replace h := h.pick [3, 3, 3]
  dsimp only [pickL, pickR, nthH, delH, dropH, List.cons_append, List.nil_append] at h
  refine nN_Ask_ok h hp ?_
  rintro r r_1 list_2 now_4 m_3 p_4 n_2 c_3 hd_2 w rfl h hp
  have cpp_4 := rowCap h 1 rfl
  refine ⟨_, _, rfl, ?_⟩
  refine ⟨_, rfl, ?_⟩
  refine ⟨_, rfl, ?_⟩
  refine cond_both hp (fun hp => ?_) (fun hp => ?_)
  · replace h := h.sel [5, 0, 0, 0] 2
    dsimp only [pickL, pickR, nthH, delH, dropH, List.cons_append, List.nil_append] at h
    exact hR 0 0 r_1 list_2 now_4 m_3 p_4 list_2.length c_3 hd_2 _ rfl h hp
  replace h := h.sel [5, 0, 0, 0] 2
  dsimp only [pickL, pickR, nthH, delH, dropH, List.cons_append, List.nil_append] at h
  exact hR r (if (g_3 : Int) < l_Secs then g_3 else l_Secs) 0 list_2 now_4 m_3 p_4 list_2.length c_3 hd_2 _ rfl h hp
def gG_pmp_wp (box box_1 box_2 box_3 box_4 box_5 box_6 : Int) (list : List (Option Nat)) (now : Int) (g_1 g_2 : Bool) (g_3 boot now_1 : Int) (by_ : BYX) (now_2 from_Host from_Port : Int) (b_4 : List (Int)) (m_1 : SBX) (K : List (Int) → List (Option Nat) → Int → BYX → SBX → Prop) : Prop :=
  gG_Epoch_wp box box_1 box_2 box_3 box_4 box_5 box_6 now g_1 g_2 g_3 boot now_1 by_ now_2 (fun (r : Int) => cond (!g_1) (pcp_Answer_wp 2 0 0 0 0 1 r 0 (fun (rs : List (Int)) => K rs list now by_ m_1)) (pmp_ReadAsk_wp b_4 (fun (r_1 r_2 r_3 r_4 r_5 r_6 r_7 r_8 : Int) (r_9 : Bool) (r_10 : Int) => cond (r_10 != 0) (K ([] : List (Int)) list now by_ m_1) (cond r_9 (nN_Box_wp box box_1 box_2 box_3 box_4 box_5 box_6 now (fun (r_11 r_12 r_13 r_14 r_15 r_16 r_17 : Int) => pmp_Answer_wp 0 0 0 0 0 0 r r_11 true (fun (rs_1 : List (Int)) => K rs_1 list now by_ m_1))) (cond (r_4 == 0) (gG_drop_wp box box_1 box_2 box_3 box_4 box_5 box_6 list now g_1 g_2 g_3 boot now_1 by_ now_2 from_Host r_2 m_1 (fun (list_2 : List (Option Nat)) (now_4 : Int) (m_4 : BYX) => pmp_Answer_wp 0 r_2 0 0 0 0 r 0 false (fun (rs_2 : List (Int)) => K rs_2 list_2 now_4 m_4 m_1))) (gG_grant_wp box box_1 box_2 box_3 box_4 box_5 box_6 list now g_1 g_2 g_3 boot now_1 by_ now_2 from_Host r_2 r_1 r_2 r_3 r_4 r_5 r_6 r_7 r_8 m_1 (fun (r_18 r_19 r_20 : Int) (list_3 : List (Option Nat)) (now_5 : Int) (m_5 : SBX) => joinP2 (fun (Result_ : Int) (m_6 : BYX) => pmp_Answer_wp 0 r_2 r_18 r_19 0 Result_ r 0 false (fun (rs_3 : List (Int)) => K rs_3 list_3 now_5 m_6 m_5)) (fun (Q : Int → BYX → Prop) => cond (r_20 == 0) (Q 0 (mapDel by_ (from_Host, r_2))) (cond (r_20 == 10) (Q 4 by_) (Q 2 by_))))))))))
theorem gG_pmp_ok {b_1 b_2 : Nat} {p_1 : Option Addr} {c_1 b_3 : Nat} {p_2 : List MapEntry × Nat} {p_3 : Option Addr} {n_1 c_2 : Nat} {hd : Nat → Option Addr × Nat} {box box_1 box_2 box_3 box_4 box_5 box_6 : Int} {list : List (Option Nat)} {now : Int} {g_1 g_2 : Bool} {g_3 boot now_1 : Int} {by_ : BYX} {now_2 from_Host from_Port : Int} {b_4 : List (Int)} {m_1 : SBX} {FL : List HP} {w : World} {K : List (Int) → List (Option Nat) → Int → BYX → SBX → Prop} {R : Value → World → Prop}
  (hF_b_4 : ∀ w, Mem FL w → Rd w 1 p_3 enc5 b_4) (hl_b_4 : n_1 = b_4.length) (hc_b_4 : n_1 ≤ c_2)
  (h : Mem (cel b_1 75 [Value.pointer (some (Addr.mk b_2 0 none)), Value.bool g_1, Value.bool g_2, Value.int .i64 g_3, Value.int .i64 boot, Value.int .i64 now_1, Value.map (some b_3)] :: cel b_2 71 [Value.int .u32 box, Value.int .i64 box_1, Value.int .i64 box_2, Value.int .i64 box_3, Value.int .i64 box_4, Value.int .i64 box_5, Value.int .i64 box_6, Value.slice p_1 list.length c_1, Value.int .i64 now] :: row enc82 82 1 p_1 c_1 list :: mapQ b_3 va25 va111 p_2 by_ :: stoP stoE85 hd m_1 :: FL) w) (hp : gG_pmp_wp box box_1 box_2 box_3 box_4 box_5 box_6 list now g_1 g_2 g_3 boot now_1 by_ now_2 from_Host from_Port b_4 m_1 K)
  (hR : ∀ (rs : List (Int)) (list_1 : List (Option Nat)) (now_3 : Int) (m_2 : BYX) (m_3 : SBX) (p_6 : Option Addr) (n_3 c_4 : Nat) (p_4 : Option Addr) (n_2 c_3 : Nat) (p_5 : List MapEntry × Nat) (hd_1 : Nat → Option Addr × Nat) (w : World), n_3 = rs.length → n_2 = list_1.length → Mem (row enc5 5 1 p_6 c_4 rs :: cel b_1 75 [Value.pointer (some (Addr.mk b_2 0 none)), Value.bool g_1, Value.bool g_2, Value.int .i64 g_3, Value.int .i64 boot, Value.int .i64 now_1, Value.map (some b_3)] :: cel b_2 71 [Value.int .u32 box, Value.int .i64 box_1, Value.int .i64 box_2, Value.int .i64 box_3, Value.int .i64 box_4, Value.int .i64 box_5, Value.int .i64 box_6, Value.slice p_4 n_2 c_3, Value.int .i64 now_3] :: row enc82 82 1 p_4 c_3 list_1 :: mapQ b_3 va25 va111 p_5 m_2 :: stoP stoE85 hd_1 m_3 :: FL) w → K rs list_1 now_3 m_2 m_3 → R (Value.slice p_6 n_3 c_4) w) :
  CallV Try.prog 28 #[Value.pointer (some (Addr.mk b_1 0 none)), Value.int .i64 now_2, (Value.agg #[Value.int .u32 from_Host, Value.int .i64 from_Port]), Value.slice p_3 n_1 c_2] w R := by
  refine gG_pmp_call ?_
  unfold gG_pmp
  unfold gG_pmp_wp at hp
  subst hl_b_4
  have cpp_1 := rowCap h 2 rfl
  refine newL (o := [Value.int .u32 from_Host, Value.int .i64 from_Port]) h ?_
  intro b_5 w h
  replace h := h.pick [1, 1]
  dsimp only [pickL, pickR, nthH, delH, dropH, List.cons_append, List.nil_append] at h
  have hMr_M_k1_6 := romOf (h.drop 2) 2 rfl
  refine gG_Epoch_ok (FL := cel b_5 25 [Value.int .u32 from_Host, Value.int .i64 from_Port] :: row enc82 82 1 p_1 c_1 list :: mapQ b_3 va25 va111 p_2 by_ :: stoP stoE85 hd m_1 :: FL) hMr_M_k1_6 h hp ?_
  intro r w h hp
  refine ⟨_, rfl, ?_⟩
  refine ⟨_, rfl, ?_⟩
  refine ⟨_, cellL h 0 1 rfl rfl rfl, ?_⟩
  refine cond_both hp (fun hp => ?_) (fun hp => ?_)
  · refine pcp_Answer_ok h hp ?_
    rintro rs p_6 n_3 c_4 w rfl h hp
    have cpp_6 := rowCap h 0 rfl
    refine ⟨_, _, _, rfl, ?_⟩
    replace h := h.sel [0, 0, 0, 1, 1, 1] 1
    dsimp only [pickL, pickR, nthH, delH, dropH, List.cons_append, List.nil_append] at h
    exact hR rs list now by_ m_1 p_6 rs.length c_4 p_1 list.length c_1 p_2 hd _ rfl rfl h hp
  refine pmp_ReadAsk_ok (FL := cel b_1 75 [Value.pointer (some (Addr.mk b_2 0 none)), Value.bool g_1, Value.bool g_2, Value.int .i64 g_3, Value.int .i64 boot, Value.int .i64 now_1, Value.map (some b_3)] :: cel b_2 71 [Value.int .u32 box, Value.int .i64 box_1, Value.int .i64 box_2, Value.int .i64 box_3, Value.int .i64 box_4, Value.int .i64 box_5, Value.int .i64 box_6, Value.slice p_1 list.length c_1, Value.int .i64 now] :: cel b_5 25 [Value.int .u32 from_Host, Value.int .i64 from_Port] :: row enc82 82 1 p_1 c_1 list :: mapQ b_3 va25 va111 p_2 by_ :: stoP stoE85 hd m_1 :: FL) (fun w h => (hF_b_4 _ (h.drop 6))) rfl hc_b_4 h hp ?_
  intro r_1 r_2 r_3 r_4 r_5 r_6 r_7 r_8 r_9 r_10 w h hp
  refine ⟨_, _, _, _, _, _, _, _, _, _, rfl, ?_⟩
  refine ⟨_, _, _, _, _, _, _, _, rfl, ?_⟩
  refine ⟨_, rfl, ?_⟩
  refine newL (o := [Value.int .i64 0, Value.int .i64 0, Value.int .i64 0, Value.int .i64 0, Value.int .u64 0, Value.int .i64 0, Value.int .i64 0, Value.int .u32 0]) h ?_
  intro b_6 w h
  refine storeL (ys := [Value.int .i64 r_1, Value.int .i64 r_2, Value.int .i64 r_3, Value.int .i64 r_4, Value.int .u64 r_5, Value.int .i64 r_6, Value.int .i64 r_7, Value.int .u32 r_8]) h 0 0 rfl rfl rfl sz41 rfl rfl ?_
  intro w h
  dsimp only [setH, setVs, setV] at h
  refine cond_both hp (fun hp => ?_) (fun hp => ?_)
  · replace h := rowNil enc5 5 1 h
    replace h := h.sel [0, 1, 1, 2, 2, 2] 2
    dsimp only [pickL, pickR, nthH, delH, dropH, List.cons_append, List.nil_append] at h
    exact hR ([] : List (Int)) list now by_ m_1 (none ) 0 0 p_1 list.length c_1 p_2 hd _ rfl rfl h hp
  refine cond_both hp (fun hp => ?_) (fun hp => ?_)
  · refine ⟨_, rfl, ?_⟩
    refine ⟨_, cellL h 1 0 rfl rfl rfl, ?_⟩
    replace h := h.pick [2]
    dsimp only [pickL, pickR, nthH, delH, dropH, List.cons_append, List.nil_append] at h
    refine nN_Box_ok h hp ?_
    intro r_11 r_12 r_13 r_14 r_15 r_16 r_17 w h hp
    refine ⟨_, _, _, _, _, _, _, rfl, ?_⟩
    refine pmp_Answer_ok h hp ?_
    rintro rs_1 p_8 n_4 c_5 w rfl h hp
    have cpp_8 := rowCap h 0 rfl
    refine ⟨_, _, _, rfl, ?_⟩
    replace h := h.sel [0, 2, 0, 2, 2, 2] 2
    dsimp only [pickL, pickR, nthH, delH, dropH, List.cons_append, List.nil_append] at h
    exact hR rs_1 list now by_ m_1 p_8 rs_1.length c_5 p_1 list.length c_1 p_2 hd _ rfl rfl h hp
  refine ⟨_, cellL h 3 0 rfl rfl rfl, ?_⟩
  refine ⟨_, cellL h 0 1 rfl rfl rfl, ?_⟩
  refine newL (o := [Value.int .u32 0, Value.int .i64 0]) h ?_
  intro b_7 w h
  refine storeL (ys := [Value.int .u32 from_Host, Value.int .i64 r_2]) h 0 0 rfl rfl rfl sz25 rfl rfl ?_
  intro w h
  dsimp only [setH, setVs, setV] at h
  refine ⟨_, cellL h 1 1 rfl rfl rfl, ?_⟩
  refine newL (o := [Value.int .i64 0, Value.int .i64 0, Value.int .i64 0, Value.int .i64 0, Value.int .u64 0, Value.int .i64 0, Value.int .i64 0, Value.int .u32 0]) h ?_
  intro b_8 w h
  refine storeL (ys := [Value.int .i64 0, Value.int .i64 r_2, Value.int .i64 0, Value.int .i64 0, Value.int .u64 0, Value.int .i64 0, Value.int .i64 r, Value.int .u32 0]) h 0 0 rfl rfl rfl sz41 rfl rfl ?_
  intro w h
  dsimp only [setH, setVs, setV] at h
  refine ⟨_, cellL h 2 3 rfl rfl rfl, ?_⟩
  refine cond_both hp (fun hp => ?_) (fun hp => ?_)
  · refine ⟨_, cellL h 1 0 rfl rfl rfl, _, cellL h 1 1 rfl rfl rfl, ?_⟩
    replace h := h.pick [3, 3, 4, 4, 4]
    dsimp only [pickL, pickR, nthH, delH, dropH, List.cons_append, List.nil_append] at h
    refine gG_drop_ok h hp ?_
    rintro list_2 now_4 m_4 p_9 n_5 c_6 p_10 w rfl h hp
    have cpp_9 := rowCap h 2 rfl
    refine ⟨rfl, ?_⟩
    refine ⟨_, cellL h 5 0 rfl rfl rfl, _, cellL h 5 1 rfl rfl rfl, _, cellL h 5 2 rfl rfl rfl, _, cellL h 5 3 rfl rfl rfl, _, cellL h 5 4 rfl rfl rfl, _, cellL h 5 5 rfl rfl rfl, _, cellL h 5 6 rfl rfl rfl, _, cellL h 5 7 rfl rfl rfl, ?_⟩
    refine pmp_Answer_ok h hp ?_
    rintro rs_2 p_11 n_6 c_7 w rfl h hp
    have cpp_11 := rowCap h 0 rfl
    refine ⟨_, _, _, rfl, ?_⟩
    replace h := h.sel [0, 0, 0, 0, 0, 0] 4
    dsimp only [pickL, pickR, nthH, delH, dropH, List.cons_append, List.nil_append] at h
    exact hR rs_2 list_2 now_4 m_4 m_1 p_11 rs_2.length c_7 p_9 list_2.length c_6 p_10 hd _ rfl rfl h hp
  refine ⟨_, cellL h 1 0 rfl rfl rfl, _, cellL h 1 1 rfl rfl rfl, ?_⟩
  refine ⟨_, cellL h 2 0 rfl rfl rfl, _, cellL h 2 1 rfl rfl rfl, _, cellL h 2 2 rfl rfl rfl, _, cellL h 2 3 rfl rfl rfl, _, cellL h 2 4 rfl rfl rfl, _, cellL h 2 5 rfl rfl rfl, _, cellL h 2 6 rfl rfl rfl, _, cellL h 2 7 rfl rfl rfl, ?_⟩
  replace h := h.pick [3, 3, 4, 5]
  dsimp only [pickL, pickR, nthH, delH, dropH, List.cons_append, List.nil_append] at h
  have hMr_M_k1_6 := romOf (h.drop 4) 4 rfl
  refine gG_grant_ok (FL := cel b_8 41 [Value.int .i64 0, Value.int .i64 r_2, Value.int .i64 0, Value.int .i64 0, Value.int .u64 0, Value.int .i64 0, Value.int .i64 r, Value.int .u32 0] :: cel b_7 25 [Value.int .u32 from_Host, Value.int .i64 r_2] :: cel b_6 41 [Value.int .i64 r_1, Value.int .i64 r_2, Value.int .i64 r_3, Value.int .i64 r_4, Value.int .u64 r_5, Value.int .i64 r_6, Value.int .i64 r_7, Value.int .u32 r_8] :: cel b_5 25 [Value.int .u32 from_Host, Value.int .i64 from_Port] :: mapQ b_3 va25 va111 p_2 by_ :: FL) hMr_M_k1_6 h hp ?_
  rintro r_18 r_19 r_20 list_3 now_5 m_5 p_12 n_7 c_8 hd_2 w rfl h hp
  have cpp_12 := rowCap h 2 rfl
  refine ⟨_, _, _, rfl, ?_⟩
  refine ⟨_, rfl, ?_⟩
  refine ⟨_, rfl, ?_⟩
  refine ⟨_, rfl, ?_⟩
  refine storeL (ys := [Value.int .i64 r_18]) h 4 2 rfl rfl rfl sz3 rfl rfl ?_
  intro w h
  dsimp only [setH, setVs, setV] at h
  refine storeL (ys := [Value.int .i64 r_19]) h 4 3 rfl rfl rfl sz3 rfl rfl ?_
  intro w h
  dsimp only [setH, setVs, setV] at h
  obtain ⟨Q, hq, hp⟩ := hp
  refine ⟨fun out14 w => ∃ (Result_ : Int), ∃ (m_6 : BYX), ∃ (p_13 : List MapEntry × Nat), (Addr.mk b_8 0 none) = out14 ∧ Q Result_ m_6 ∧ Mem (cel b_1 75 [Value.pointer (some (Addr.mk b_2 0 none)), Value.bool g_1, Value.bool g_2, Value.int .i64 g_3, Value.int .i64 boot, Value.int .i64 now_1, Value.map (some b_3)] :: cel b_2 71 [Value.int .u32 box, Value.int .i64 box_1, Value.int .i64 box_2, Value.int .i64 box_3, Value.int .i64 box_4, Value.int .i64 box_5, Value.int .i64 box_6, Value.slice p_12 list_3.length c_8, Value.int .i64 now_5] :: row enc82 82 1 p_12 c_8 list_3 :: cel b_8 41 [Value.int .i64 0, Value.int .i64 r_2, Value.int .i64 r_18, Value.int .i64 r_19, Value.int .u64 0, Value.int .i64 Result_, Value.int .i64 r, Value.int .u32 0] :: cel b_7 25 [Value.int .u32 from_Host, Value.int .i64 r_2] :: cel b_6 41 [Value.int .i64 r_1, Value.int .i64 r_2, Value.int .i64 r_3, Value.int .i64 r_4, Value.int .u64 r_5, Value.int .i64 r_6, Value.int .i64 r_7, Value.int .u32 r_8] :: cel b_5 25 [Value.int .u32 from_Host, Value.int .i64 from_Port] :: stoP stoE85 hd_2 m_5 :: mapQ b_3 va25 va111 p_13 m_6 :: FL) w, ?_, ?_⟩
  · rintro out14 w ⟨Result_, m_6, p_13, rfl, hp, h⟩
    replace hp := hq Result_ m_6 hp
    unfold gG_pmp_j1
    refine ⟨_, cellL h 3 0 rfl rfl rfl, _, cellL h 3 1 rfl rfl rfl, _, cellL h 3 2 rfl rfl rfl, _, cellL h 3 3 rfl rfl rfl, _, cellL h 3 4 rfl rfl rfl, _, cellL h 3 5 rfl rfl rfl, _, cellL h 3 6 rfl rfl rfl, _, cellL h 3 7 rfl rfl rfl, ?_⟩
    refine pmp_Answer_ok h hp ?_
    rintro rs_3 p_15 n_8 c_9 w rfl h hp
    have cpp_15 := rowCap h 0 rfl
    refine ⟨_, _, _, rfl, ?_⟩
    replace h := h.sel [0, 0, 0, 0, 5, 4] 4
    dsimp only [pickL, pickR, nthH, delH, dropH, List.cons_append, List.nil_append] at h
    exact hR rs_3 list_3 now_5 m_6 m_5 p_15 rs_3.length c_9 p_12 list_3.length c_8 p_13 hd_2 _ rfl rfl h hp
  clear hq
  refine cond_both hp (fun hp => ?_) (fun hp => ?_)
  · replace h := h.drew
    refine ⟨_, rfl, ?_⟩
    refine ⟨_, cellL h 0 6 rfl rfl rfl, ?_⟩
    refine ⟨_, cellL h 5 0 rfl rfl rfl, _, cellL h 5 1 rfl rfl rfl, ?_⟩
    refine mapDelG (k := (from_Host, r_2)) h 8 rfl mu73 kt25 ?_
    intro p_14 w h
    dsimp only [setH, setVs, setV] at h
    refine ⟨rfl, ?_⟩
    replace h := h.sel [0, 0, 0, 1, 1, 1, 1, 0, 0] 0
    dsimp only [pickL, pickR, nthH, delH, dropH, List.cons_append, List.nil_append] at h
    exact ⟨0, (mapDel by_ (from_Host, r_2)), p_14, rfl, hp, h⟩
  refine cond_both hp (fun hp => ?_) (fun hp => ?_)
  · refine storeL (ys := [Value.int .i64 4]) h 4 5 rfl rfl rfl sz3 rfl rfl ?_
    intro w h
    dsimp only [setH, setVs, setV] at h
    replace h := h.sel [0, 0, 0, 1, 1, 1, 1, 0, 0] 0
    dsimp only [pickL, pickR, nthH, delH, dropH, List.cons_append, List.nil_append] at h
    exact ⟨4, by_, p_2, rfl, hp, h⟩
  refine storeL (ys := [Value.int .i64 2]) h 4 5 rfl rfl rfl sz3 rfl rfl ?_
  intro w h
  dsimp only [setH, setVs, setV] at h
  replace h := h.sel [0, 0, 0, 1, 1, 1, 1, 0, 0] 0
  dsimp only [pickL, pickR, nthH, delH, dropH, List.cons_append, List.nil_append] at h
  exact ⟨2, by_, p_2, rfl, hp, h⟩
def pcp_get_wp (b_1 : List (Int)) (K : Int → Prop) : Prop :=
  ∃ (I : Nat → Int → Int → Prop), (∃ (n_4 : Nat), I n_4 0 0) ∧ ∀ (n_2 : Nat) (v3 t8 : Int), I n_2 v3 t8 → (cond (decide (t8 < ((b_1.length : Nat) : Int))) (0 ≤ t8 ∧ (t8 : Int) < ((b_1.length : Nat) : Int) ∧ (∀ (x_1 : Int), b_1[Int.toNat t8]? = some x_1 → (∃ (n_3 : Nat), n_3 < n_2 ∧ I n_3 (bitsV .or .u64 (IntKind.wrap .u64 (v3 * 2 ^ (min (Int.toNat 8) (IntKind.bits .u64)))) (IntKind.wrap .u64 x_1)) (IntKind.wrap .i64 (t8 + 1))))) (K v3))
theorem pcp_get_ok {p_1 : Option Addr} {n_1 c_1 : Nat} {b_1 : List (Int)} {FL : List HP} {w : World} {K : Int → Prop} {R : Value → World → Prop}
  (hF_b_1 : ∀ w, Mem FL w → Rd w 1 p_1 enc5 b_1) (hl_b_1 : n_1 = b_1.length) (hc_b_1 : n_1 ≤ c_1)
  (h : Mem (FL) w) (hp : pcp_get_wp b_1 K)
  (hR : ∀ (r : Int) (w : World), Mem (FL) w → K r → R (Value.int .u64 r) w) :
  CallV Try.prog 38 #[Value.slice p_1 n_1 c_1] w R := by
  refine pcp_get_call ?_
  unfold pcp_get
  unfold pcp_get_wp at hp
  subst hl_b_1
  obtain ⟨I, ⟨n_4, h0⟩, hq⟩ := hp
  refine ⟨fun n_2 v3 t6p t6l t6c t7 t8 w => p_1 = t6p ∧ b_1.length = t6l ∧ c_1 = t6c ∧ ((b_1.length : Nat) : Int) = t7 ∧ I n_2 v3 t8 ∧ Mem (FL) w, ⟨n_4, rfl, rfl, rfl, rfl, h0, h⟩, ?_⟩
  clear h0 h
  rintro n_2 v3 t6p t6l t6c t7 t8 w ⟨rfl, rfl, rfl, rfl, hp, h⟩
  replace hp := hq n_2 v3 t8 hp
  clear hq
  unfold pcp_get_l1
  refine cond_both' hp (fun hp => ?_) (fun hp => ?_)
  · exact hR v3 _ h hp
  obtain ⟨ia_1, ja_1, hp⟩ := hp
  obtain ⟨a_1, ha_1⟩ := rdAddr (hF_b_1 _ (h.drop 0)) rfl ia_1 ja_1
  refine ⟨a_1, ha_1, ia_1, ja_1, ?_⟩
  obtain ⟨x_1, hx_1, hc⟩ := rdCell0 (hF_b_1 _ (h.drop 0)) ha_1 rfl ia_1 ja_1
  replace hp := hp x_1 hx_1
  refine ⟨_, hc _ rfl, ?_⟩
  refine ⟨by decide, ?_⟩
  obtain ⟨n_3, hn, hp⟩ := hp
  exact ⟨n_3, hn, rfl, rfl, rfl, rfl, hp, h⟩
def pcp_mapped_wp (b_1 : List (Int)) (K : Int → Int → Int → Int → Int → Int → Int → Int → Prop) : Prop :=
  0 ≤ (8 : Int) ∧ (8 : Int) ≤ ((b_1.length : Nat) : Int) ∧ 0 ≤ (4 : Int) ∧ (4 : Int) ≤ (8 : Int) ∧ (0 ≤ (36 : Int) ∧ (36 : Int) ≤ ((b_1.length : Nat) : Int) ∧ 0 ≤ (28 : Int) ∧ (28 : Int) ≤ (36 : Int) ∧ (0 ≤ (42 : Int) ∧ (42 : Int) ≤ ((b_1.length : Nat) : Int) ∧ 0 ≤ (40 : Int) ∧ (40 : Int) ≤ (42 : Int) ∧ (0 ≤ (44 : Int) ∧ (44 : Int) ≤ ((b_1.length : Nat) : Int) ∧ 0 ≤ (42 : Int) ∧ (42 : Int) ≤ (44 : Int) ∧ (0 ≤ (60 : Int) ∧ (60 : Int) ≤ ((b_1.length : Nat) : Int) ∧ 0 ≤ (56 : Int) ∧ (56 : Int) ≤ (60 : Int) ∧ (pcp_get_wp ((b_1.take (Int.toNat 8)).drop (Int.toNat 4)) (fun (r : Int) => pcp_get_wp ((b_1.take (Int.toNat 36)).drop (Int.toNat 28)) (fun (r_1 : Int) => pcp_get_wp ((b_1.take (Int.toNat 42)).drop (Int.toNat 40)) (fun (r_2 : Int) => pcp_get_wp ((b_1.take (Int.toNat 44)).drop (Int.toNat 42)) (fun (r_3 : Int) => pcp_get_wp ((b_1.take (Int.toNat 60)).drop (Int.toNat 56)) (fun (r_4 : Int) => K 2 (IntKind.wrap .i64 r_2) (IntKind.wrap .i64 r_3) (IntKind.wrap .i64 r) r_1 0 0 (IntKind.wrap .u32 r_4)))))))))))
theorem pcp_mapped_ok {p_1 : Option Addr} {n_1 c_1 : Nat} {b_1 : List (Int)} {FL : List HP} {w : World} {K : Int → Int → Int → Int → Int → Int → Int → Int → Prop} {R : Value → World → Prop}
  (hF_b_1 : ∀ w, Mem FL w → Rd w 1 p_1 enc5 b_1) (hl_b_1 : n_1 = b_1.length) (hc_b_1 : n_1 ≤ c_1)
  (h : Mem (FL) w) (hp : pcp_mapped_wp b_1 K)
  (hR : ∀ (r r_1 r_2 r_3 r_4 r_5 r_6 r_7 : Int) (w : World), Mem (FL) w → K r r_1 r_2 r_3 r_4 r_5 r_6 r_7 → R (Value.agg #[Value.int .i64 r, Value.int .i64 r_1, Value.int .i64 r_2, Value.int .i64 r_3, Value.int .u64 r_4, Value.int .i64 r_5, Value.int .i64 r_6, Value.int .u32 r_7]) w) :
  CallV Try.prog 37 #[Value.slice p_1 n_1 c_1] w R := by
  refine pcp_mapped_call ?_
  unfold pcp_mapped
  unfold pcp_mapped_wp at hp
  subst hl_b_1
  refine newL (o := [Value.int .i64 0, Value.int .i64 0, Value.int .i64 0, Value.int .i64 0, Value.int .u64 0, Value.int .i64 0, Value.int .i64 0, Value.int .u32 0]) h ?_
  intro b_2 w h
  replace h := h.drew
  refine ⟨fun w => Mem (FL) w, (h.sel [] 1), ?_⟩
  obtain ⟨g_1ha, g_1hb, g_1la, g_1lb, hp⟩ := hp
  have vg_1_lh : (Int.toNat 4) ≤ (Int.toNat 8) := (natLe2 g_1la g_1ha g_1lb)
  have vg_1_hm : (Int.toNat 8) ≤ c_1 := (Nat.le_trans (natLe g_1ha g_1hb) hc_b_1)
  have vg_1_mc : c_1 ≤ c_1 := (Nat.le_refl _)
  have vg_1_hl : (Int.toNat 8) ≤ b_1.length := (leLen g_1ha g_1hb rfl)
  refine ⟨g_1ha, (leCap g_1hb hc_b_1), g_1la, (leNat g_1ha g_1lb), ?_⟩
  obtain ⟨g_2ha, g_2hb, g_2la, g_2lb, hp⟩ := hp
  have vg_2_lh : (Int.toNat 28) ≤ (Int.toNat 36) := (natLe2 g_2la g_2ha g_2lb)
  have vg_2_hm : (Int.toNat 36) ≤ c_1 := (Nat.le_trans (natLe g_2ha g_2hb) hc_b_1)
  have vg_2_mc : c_1 ≤ c_1 := (Nat.le_refl _)
  have vg_2_hl : (Int.toNat 36) ≤ b_1.length := (leLen g_2ha g_2hb rfl)
  refine ⟨g_2ha, (leCap g_2hb hc_b_1), g_2la, (leNat g_2ha g_2lb), ?_⟩
  obtain ⟨g_3ha, g_3hb, g_3la, g_3lb, hp⟩ := hp
  have vg_3_lh : (Int.toNat 40) ≤ (Int.toNat 42) := (natLe2 g_3la g_3ha g_3lb)
  have vg_3_hm : (Int.toNat 42) ≤ c_1 := (Nat.le_trans (natLe g_3ha g_3hb) hc_b_1)
  have vg_3_mc : c_1 ≤ c_1 := (Nat.le_refl _)
  have vg_3_hl : (Int.toNat 42) ≤ b_1.length := (leLen g_3ha g_3hb rfl)
  refine ⟨g_3ha, (leCap g_3hb hc_b_1), g_3la, (leNat g_3ha g_3lb), ?_⟩
  obtain ⟨g_4ha, g_4hb, g_4la, g_4lb, hp⟩ := hp
  have vg_4_lh : (Int.toNat 42) ≤ (Int.toNat 44) := (natLe2 g_4la g_4ha g_4lb)
  have vg_4_hm : (Int.toNat 44) ≤ c_1 := (Nat.le_trans (natLe g_4ha g_4hb) hc_b_1)
  have vg_4_mc : c_1 ≤ c_1 := (Nat.le_refl _)
  have vg_4_hl : (Int.toNat 44) ≤ b_1.length := (leLen g_4ha g_4hb rfl)
  refine ⟨g_4ha, (leCap g_4hb hc_b_1), g_4la, (leNat g_4ha g_4lb), ?_⟩
  obtain ⟨g_5ha, g_5hb, g_5la, g_5lb, hp⟩ := hp
  have vg_5_lh : (Int.toNat 56) ≤ (Int.toNat 60) := (natLe2 g_5la g_5ha g_5lb)
  have vg_5_hm : (Int.toNat 60) ≤ c_1 := (Nat.le_trans (natLe g_5ha g_5hb) hc_b_1)
  have vg_5_mc : c_1 ≤ c_1 := (Nat.le_refl _)
  have vg_5_hl : (Int.toNat 60) ≤ b_1.length := (leLen g_5ha g_5hb rfl)
  refine ⟨g_5ha, (leCap g_5hb hc_b_1), g_5la, (leNat g_5ha g_5lb), ?_⟩
  refine pcp_get_ok (FL := cel b_2 41 [Value.int .i64 0, Value.int .i64 0, Value.int .i64 0, Value.int .i64 0, Value.int .u64 0, Value.int .i64 0, Value.int .i64 0, Value.int .u32 0] :: FL) (fun w h => (Rd.view (hF_b_1 _ (h.drop 1)) (l := (Int.toNat 4)) (h := (Int.toNat 8)) (m := c_1) vg_1_hm)) (viewLen vg_1_hl) (Nat.sub_le_sub_right vg_1_hm _) h hp ?_
  intro r w h hp
  refine ⟨_, rfl, ?_⟩
  refine ⟨(h.sel [] 1), ?_⟩
  refine pcp_get_ok (FL := cel b_2 41 [Value.int .i64 0, Value.int .i64 0, Value.int .i64 0, Value.int .i64 0, Value.int .u64 0, Value.int .i64 0, Value.int .i64 0, Value.int .u32 0] :: FL) (fun w h => (Rd.view (hF_b_1 _ (h.drop 1)) (l := (Int.toNat 28)) (h := (Int.toNat 36)) (m := c_1) vg_2_hm)) (viewLen vg_2_hl) (Nat.sub_le_sub_right vg_2_hm _) h hp ?_
  intro r_1 w h hp
  refine ⟨_, rfl, ?_⟩
  refine ⟨(h.sel [] 1), ?_⟩
  refine pcp_get_ok (FL := cel b_2 41 [Value.int .i64 0, Value.int .i64 0, Value.int .i64 0, Value.int .i64 0, Value.int .u64 0, Value.int .i64 0, Value.int .i64 0, Value.int .u32 0] :: FL) (fun w h => (Rd.view (hF_b_1 _ (h.drop 1)) (l := (Int.toNat 40)) (h := (Int.toNat 42)) (m := c_1) vg_3_hm)) (viewLen vg_3_hl) (Nat.sub_le_sub_right vg_3_hm _) h hp ?_
  intro r_2 w h hp
  refine ⟨_, rfl, ?_⟩
  refine ⟨(h.sel [] 1), ?_⟩
  refine pcp_get_ok (FL := cel b_2 41 [Value.int .i64 0, Value.int .i64 0, Value.int .i64 0, Value.int .i64 0, Value.int .u64 0, Value.int .i64 0, Value.int .i64 0, Value.int .u32 0] :: FL) (fun w h => (Rd.view (hF_b_1 _ (h.drop 1)) (l := (Int.toNat 42)) (h := (Int.toNat 44)) (m := c_1) vg_4_hm)) (viewLen vg_4_hl) (Nat.sub_le_sub_right vg_4_hm _) h hp ?_
  intro r_3 w h hp
  refine ⟨_, rfl, ?_⟩
  refine ⟨(h.sel [] 1), ?_⟩
  refine pcp_get_ok (FL := cel b_2 41 [Value.int .i64 0, Value.int .i64 0, Value.int .i64 0, Value.int .i64 0, Value.int .u64 0, Value.int .i64 0, Value.int .i64 0, Value.int .u32 0] :: FL) (fun w h => (Rd.view (hF_b_1 _ (h.drop 1)) (l := (Int.toNat 56)) (h := (Int.toNat 60)) (m := c_1) vg_5_hm)) (viewLen vg_5_hl) (Nat.sub_le_sub_right vg_5_hm _) h hp ?_
  intro r_4 w h hp
  refine ⟨_, rfl, ?_⟩
  refine storeL (ys := [Value.int .i64 2, Value.int .i64 (IntKind.wrap .i64 r_2), Value.int .i64 (IntKind.wrap .i64 r_3), Value.int .i64 (IntKind.wrap .i64 r), Value.int .u64 r_1, Value.int .i64 0, Value.int .i64 0, Value.int .u32 (IntKind.wrap .u32 r_4)]) h 0 0 rfl rfl rfl sz41 rfl rfl ?_
  intro w h
  dsimp only [setH, setVs, setV] at h
  refine ⟨_, cellL h 0 0 rfl rfl rfl, _, cellL h 0 1 rfl rfl rfl, _, cellL h 0 2 rfl rfl rfl, _, cellL h 0 3 rfl rfl rfl, _, cellL h 0 4 rfl rfl rfl, _, cellL h 0 5 rfl rfl rfl, _, cellL h 0 6 rfl rfl rfl, _, cellL h 0 7 rfl rfl rfl, ?_⟩
  replace h := h.sel [] 1
  dsimp only [pickL, pickR, nthH, delH, dropH, List.cons_append, List.nil_append] at h
  exact hR 2 (IntKind.wrap .i64 r_2) (IntKind.wrap .i64 r_3) (IntKind.wrap .i64 r) r_1 0 0 (IntKind.wrap .u32 r_4) _ h hp
def pcp_Ask_wp (l_Ver l_Inside l_Port l_Secs l_Nonce l_Result l_Epoch l_Host client : Int) (K : List (Int) → Prop) : Prop :=
  joinP1 (fun (t17 : Bool) => cond t17 (K ([] : List (Int))) ((pcp_big_wp (IntKind.wrap .u64 l_Secs) 4 (fun (rs : List (Int)) => pcp_host16_wp client (fun (rs_1 : List (Int)) => pcp_row_wp l_Ver l_Inside l_Port l_Secs l_Nonce l_Result l_Epoch l_Host [[2, 1, 0, 0], rs, rs_1] (fun (rs_2 : List (Int)) => K rs_2)))) ∧ (pcp_big_wp (IntKind.wrap .u64 l_Secs) 4 (fun (rs_3 : List (Int)) => (pcp_host16_wp client (fun (rs_4 : List (Int)) => pcp_row_wp l_Ver l_Inside l_Port l_Secs l_Nonce l_Result l_Epoch l_Host [[2, 1, 0, 0], rs_3, rs_4] (fun (rs_5 : List (Int)) => K rs_5))) ∧ (pcp_host16_wp client (fun (rs_6 : List (Int)) => pcp_row_wp l_Ver l_Inside l_Port l_Secs l_Nonce l_Result l_Epoch l_Host [[2, 1, 0, 0], rs_3, rs_6] (fun (rs_7 : List (Int)) => K rs_7))))))) (fun (Q : Bool → Prop) => pcp_fits_wp l_Ver l_Inside l_Port l_Secs l_Nonce l_Result l_Epoch l_Host (fun (r : Bool) => cond (!r) (Q true) (cond (l_Result != 0) (Q true) (Q (l_Epoch != 0)))))
theorem pcp_Ask_ok {l_Ver l_Inside l_Port l_Secs l_Nonce l_Result l_Epoch l_Host client : Int} {FL : List HP} {w : World} {K : List (Int) → Prop} {R : Value → World → Prop}
  (h : Mem (FL) w) (hp : pcp_Ask_wp l_Ver l_Inside l_Port l_Secs l_Nonce l_Result l_Epoch l_Host client K)
  (hR : ∀ (rs : List (Int)) (p_1 : Option Addr) (n_1 c_1 : Nat) (w : World), n_1 = rs.length → Mem (row enc5 5 1 p_1 c_1 rs :: FL) w → K rs → R (Value.slice p_1 n_1 c_1) w) :
  CallV Try.prog 17 #[(Value.agg #[Value.int .i64 l_Ver, Value.int .i64 l_Inside, Value.int .i64 l_Port, Value.int .i64 l_Secs, Value.int .u64 l_Nonce, Value.int .i64 l_Result, Value.int .i64 l_Epoch, Value.int .u32 l_Host]), Value.int .u32 client] w R := by
  refine pcp_Ask_call ?_
  unfold pcp_Ask
  unfold pcp_Ask_wp at hp
  refine newL (o := [Value.int .i64 l_Ver, Value.int .i64 l_Inside, Value.int .i64 l_Port, Value.int .i64 l_Secs, Value.int .u64 l_Nonce, Value.int .i64 l_Result, Value.int .i64 l_Epoch, Value.int .u32 l_Host]) h ?_
  intro b_1 w h
  obtain ⟨Q, hq, hp⟩ := hp
  refine ⟨fun client1 l2 t17 w => client = client1 ∧ (Addr.mk b_1 0 none) = l2 ∧ Q t17 ∧ Mem (cel b_1 41 [Value.int .i64 l_Ver, Value.int .i64 l_Inside, Value.int .i64 l_Port, Value.int .i64 l_Secs, Value.int .u64 l_Nonce, Value.int .i64 l_Result, Value.int .i64 l_Epoch, Value.int .u32 l_Host] :: FL) w, ?_, ?_⟩
  · rintro client1 l2 t17 w ⟨rfl, rfl, hp, h⟩
    replace hp := hq t17 hp
    unfold pcp_Ask_j1
    refine cond_both hp (fun hp => ?_) (fun hp => ?_)
    · replace h := rowNil enc5 5 1 h
      replace h := h.sel [0] 1
      dsimp only [pickL, pickR, nthH, delH, dropH, List.cons_append, List.nil_append] at h
      exact hR ([] : List (Int)) (none ) 0 0 _ rfl h hp
    replace h := h.drew
    refine ⟨fun w => Mem (cel b_1 41 [Value.int .i64 l_Ver, Value.int .i64 l_Inside, Value.int .i64 l_Port, Value.int .i64 l_Secs, Value.int .u64 l_Nonce, Value.int .i64 l_Result, Value.int .i64 l_Epoch, Value.int .u32 l_Host] :: FL) w, (h.sel [0] 0), ?_⟩
    refine ⟨_, cellL h 0 0 rfl rfl rfl, _, cellL h 0 1 rfl rfl rfl, _, cellL h 0 2 rfl rfl rfl, _, cellL h 0 3 rfl rfl rfl, _, cellL h 0 4 rfl rfl rfl, _, cellL h 0 5 rfl rfl rfl, _, cellL h 0 6 rfl rfl rfl, _, cellL h 0 7 rfl rfl rfl, ?_⟩
    refine ⟨?_, ?_⟩
    · intro w h
      change Mem _ _ at h
      refine ⟨_, cellL h 0 0 rfl rfl rfl, _, cellL h 0 1 rfl rfl rfl, _, cellL h 0 2 rfl rfl rfl, _, cellL h 0 3 rfl rfl rfl, _, cellL h 0 4 rfl rfl rfl, _, cellL h 0 5 rfl rfl rfl, _, cellL h 0 6 rfl rfl rfl, _, cellL h 0 7 rfl rfl rfl, ?_⟩
      exact ⟨rfl, rfl⟩
    refine ⟨_, cellL h 0 3 rfl rfl rfl, ?_⟩
    refine ⟨?_, ?_⟩
    · intro w h
      change Mem _ _ at h
      refine ⟨_, cellL h 0 3 rfl rfl rfl, ?_⟩
      exact ⟨rfl, rfl⟩
    refine ⟨?_, ?_⟩
    · replace hp := hp.1
      refine newL (o := [Value.int .u8 2, Value.int .u8 1, Value.int .u8 0, Value.int .u8 0]) h ?_
      intro b_2 w h
      refine ⟨(h.sel [1] 1), ?_⟩
      refine pcp_big_ok h hp ?_
      rintro rs p_2 n_1 c_1 w rfl h hp
      have cpp_2 := rowCap h 0 rfl
      refine ⟨_, _, _, rfl, ?_⟩
      refine ⟨(h.sel [2] 2), ?_⟩
      refine pcp_host16_ok h hp ?_
      rintro rs_1 p_3 n_2 c_2 w rfl h hp
      have cpp_3 := rowCap h 0 rfl
      refine ⟨_, _, _, rfl, ?_⟩
      refine ⟨(h.sel [3] 3), ?_⟩
      refine newL (o := [Value.slice (some ⟨b_2, 0, none⟩) 4 4, Value.slice p_2 rs.length c_1, Value.slice p_3 rs_1.length c_2]) h ?_
      intro b_3 w h
      refine ⟨(h.sel [4] 4), ?_⟩
      refine pcp_row_ok (FL := cel b_3 22 [Value.slice (some ⟨b_2, 0, none⟩) 4 4, Value.slice p_2 rs.length c_1, Value.slice p_3 rs_1.length c_2] :: row enc5 5 1 p_3 c_2 rs_1 :: row enc5 5 1 p_2 c_1 rs :: cel b_2 5 [Value.int .u8 2, Value.int .u8 1, Value.int .u8 0, Value.int .u8 0] :: cel b_1 41 [Value.int .i64 l_Ver, Value.int .i64 l_Inside, Value.int .i64 l_Port, Value.int .i64 l_Secs, Value.int .u64 l_Nonce, Value.int .i64 l_Result, Value.int .i64 l_Epoch, Value.int .u32 l_Host] :: FL) (fun w h => celRdD (z := 1) h 0 rfl [[2, 1, 0, 0], rs, rs_1] [[Value.slice (some ⟨b_2, 0, none⟩) 4 4], [Value.slice p_2 rs.length c_1], [Value.slice p_3 rs_1.length c_2]] rfl rfl (Fa2.cons ⟨_, _, _, rfl, rfl, (Nat.le_refl _), (fun w h => (celRd h 3 encL5 rfl [2, 1, 0, 0] rfl))⟩ (Fa2.cons ⟨_, _, _, rfl, rfl, cpp_2, (fun w h => (rowRd h 2 encL5 rfl))⟩ (Fa2.cons ⟨_, _, _, rfl, rfl, cpp_3, (fun w h => (rowRd h 1 encL5 rfl))⟩ Fa2.nil)))) rfl (Nat.le_refl _) h hp ?_
      rintro rs_2 p_4 n_3 c_3 w rfl h hp
      have cpp_4 := rowCap h 0 rfl
      refine ⟨_, _, _, rfl, ?_⟩
      replace h := h.sel [0] 5
      dsimp only [pickL, pickR, nthH, delH, dropH, List.cons_append, List.nil_append] at h
      exact hR rs_2 p_4 rs_2.length c_3 _ rfl h hp
    replace hp := hp.2
    refine pcp_big_ok h hp ?_
    rintro rs_3 p_5 n_4 c_4 w rfl h hp
    have cpp_5 := rowCap h 0 rfl
    refine ⟨_, _, _, rfl, ?_⟩
    refine ⟨(h.sel [1] 1), ?_⟩
    refine ⟨?_, ?_⟩
    · replace hp := hp.1
      refine newL (o := [Value.int .u8 2, Value.int .u8 1, Value.int .u8 0, Value.int .u8 0]) h ?_
      intro b_4 w h
      refine ⟨(h.sel [2] 2), ?_⟩
      refine pcp_host16_ok h hp ?_
      rintro rs_4 p_6 n_5 c_5 w rfl h hp
      have cpp_6 := rowCap h 0 rfl
      refine ⟨_, _, _, rfl, ?_⟩
      refine ⟨(h.sel [3] 3), ?_⟩
      refine newL (o := [Value.slice (some ⟨b_4, 0, none⟩) 4 4, Value.slice p_5 rs_3.length c_4, Value.slice p_6 rs_4.length c_5]) h ?_
      intro b_5 w h
      refine ⟨(h.sel [4] 4), ?_⟩
      refine pcp_row_ok (FL := cel b_5 22 [Value.slice (some ⟨b_4, 0, none⟩) 4 4, Value.slice p_5 rs_3.length c_4, Value.slice p_6 rs_4.length c_5] :: row enc5 5 1 p_6 c_5 rs_4 :: cel b_4 5 [Value.int .u8 2, Value.int .u8 1, Value.int .u8 0, Value.int .u8 0] :: row enc5 5 1 p_5 c_4 rs_3 :: cel b_1 41 [Value.int .i64 l_Ver, Value.int .i64 l_Inside, Value.int .i64 l_Port, Value.int .i64 l_Secs, Value.int .u64 l_Nonce, Value.int .i64 l_Result, Value.int .i64 l_Epoch, Value.int .u32 l_Host] :: FL) (fun w h => celRdD (z := 1) h 0 rfl [[2, 1, 0, 0], rs_3, rs_4] [[Value.slice (some ⟨b_4, 0, none⟩) 4 4], [Value.slice p_5 rs_3.length c_4], [Value.slice p_6 rs_4.length c_5]] rfl rfl (Fa2.cons ⟨_, _, _, rfl, rfl, (Nat.le_refl _), (fun w h => (celRd h 2 encL5 rfl [2, 1, 0, 0] rfl))⟩ (Fa2.cons ⟨_, _, _, rfl, rfl, cpp_5, (fun w h => (rowRd h 3 encL5 rfl))⟩ (Fa2.cons ⟨_, _, _, rfl, rfl, cpp_6, (fun w h => (rowRd h 1 encL5 rfl))⟩ Fa2.nil)))) rfl (Nat.le_refl _) h hp ?_
      rintro rs_5 p_7 n_6 c_6 w rfl h hp
      have cpp_7 := rowCap h 0 rfl
      refine ⟨_, _, _, rfl, ?_⟩
      replace h := h.sel [0] 5
      dsimp only [pickL, pickR, nthH, delH, dropH, List.cons_append, List.nil_append] at h
      exact hR rs_5 p_7 rs_5.length c_6 _ rfl h hp
    replace hp := hp.2
    refine pcp_host16_ok h hp ?_
    rintro rs_6 p_8 n_7 c_7 w rfl h hp
    have cpp_8 := rowCap h 0 rfl
    refine ⟨_, _, _, rfl, ?_⟩
    refine ⟨(h.sel [2] 2), ?_⟩
    refine newL (o := [Value.int .u8 2, Value.int .u8 1, Value.int .u8 0, Value.int .u8 0]) h ?_
    intro b_6 w h
    refine ⟨(h.sel [3] 3), ?_⟩
    refine newL (o := [Value.slice (some ⟨b_6, 0, none⟩) 4 4, Value.slice p_5 rs_3.length c_4, Value.slice p_8 rs_6.length c_7]) h ?_
    intro b_7 w h
    refine ⟨(h.sel [4] 4), ?_⟩
    refine pcp_row_ok (FL := cel b_7 22 [Value.slice (some ⟨b_6, 0, none⟩) 4 4, Value.slice p_5 rs_3.length c_4, Value.slice p_8 rs_6.length c_7] :: cel b_6 5 [Value.int .u8 2, Value.int .u8 1, Value.int .u8 0, Value.int .u8 0] :: row enc5 5 1 p_8 c_7 rs_6 :: row enc5 5 1 p_5 c_4 rs_3 :: cel b_1 41 [Value.int .i64 l_Ver, Value.int .i64 l_Inside, Value.int .i64 l_Port, Value.int .i64 l_Secs, Value.int .u64 l_Nonce, Value.int .i64 l_Result, Value.int .i64 l_Epoch, Value.int .u32 l_Host] :: FL) (fun w h => celRdD (z := 1) h 0 rfl [[2, 1, 0, 0], rs_3, rs_6] [[Value.slice (some ⟨b_6, 0, none⟩) 4 4], [Value.slice p_5 rs_3.length c_4], [Value.slice p_8 rs_6.length c_7]] rfl rfl (Fa2.cons ⟨_, _, _, rfl, rfl, (Nat.le_refl _), (fun w h => (celRd h 1 encL5 rfl [2, 1, 0, 0] rfl))⟩ (Fa2.cons ⟨_, _, _, rfl, rfl, cpp_5, (fun w h => (rowRd h 3 encL5 rfl))⟩ (Fa2.cons ⟨_, _, _, rfl, rfl, cpp_8, (fun w h => (rowRd h 2 encL5 rfl))⟩ Fa2.nil)))) rfl (Nat.le_refl _) h hp ?_
    rintro rs_7 p_9 n_8 c_8 w rfl h hp
    have cpp_9 := rowCap h 0 rfl
    refine ⟨_, _, _, rfl, ?_⟩
    replace h := h.sel [0] 5
    dsimp only [pickL, pickR, nthH, delH, dropH, List.cons_append, List.nil_append] at h
    exact hR rs_7 p_9 rs_7.length c_8 _ rfl h hp
  clear hq
  refine ⟨_, cellL h 0 0 rfl rfl rfl, _, cellL h 0 1 rfl rfl rfl, _, cellL h 0 2 rfl rfl rfl, _, cellL h 0 3 rfl rfl rfl, _, cellL h 0 4 rfl rfl rfl, _, cellL h 0 5 rfl rfl rfl, _, cellL h 0 6 rfl rfl rfl, _, cellL h 0 7 rfl rfl rfl, ?_⟩
  refine pcp_fits_ok h hp ?_
  intro r w h hp
  refine ⟨_, rfl, ?_⟩
  refine cond_both hp (fun hp => ?_) (fun hp => ?_)
  · exact ⟨rfl, rfl, hp, h⟩
  refine ⟨_, cellL h 0 5 rfl rfl rfl, ?_⟩
  refine cond_both hp (fun hp => ?_) (fun hp => ?_)
  · exact ⟨rfl, rfl, hp, h⟩
  refine ⟨_, cellL h 0 6 rfl rfl rfl, ?_⟩
  exact ⟨rfl, rfl, hp, h⟩
def bytes_Equal_wp (a_1 : List (Int)) (b_1 : List (Int)) (K : Bool → Prop) : Prop :=
  K ((strOf a_1) == (strOf b_1))
theorem bytes_Equal_ok {p_1 : Option Addr} {n_1 c_1 : Nat} {p_2 : Option Addr} {n_2 c_2 : Nat} {a_1 : List (Int)} {b_1 : List (Int)} {FL : List HP} {w : World} {K : Bool → Prop} {R : Value → World → Prop}
  (hF_a_1 : ∀ w, Mem FL w → Rd w 1 p_1 enc5 a_1) (hl_a_1 : n_1 = a_1.length) (hc_a_1 : n_1 ≤ c_1)
  (hF_b_1 : ∀ w, Mem FL w → Rd w 1 p_2 enc5 b_1) (hl_b_1 : n_2 = b_1.length) (hc_b_1 : n_2 ≤ c_2)
  (h : Mem (FL) w) (hp : bytes_Equal_wp a_1 b_1 K)
  (hR : ∀ (r : Bool) (w : World), Mem (FL) w → K r → R (Value.bool r) w) :
  CallV Try.prog 39 #[Value.slice p_1 n_1 c_1, Value.slice p_2 n_2 c_2] w R := by
  refine bytes_Equal_call ?_
  unfold bytes_Equal
  unfold bytes_Equal_wp at hp
  subst hl_a_1
  subst hl_b_1
  refine bytesStr (enc := enc5) und22 undI5 undStr9 (hF_a_1 _ (h.drop 0)) (fun _ => rfl) rfl ?_
  refine ⟨_, rfl, ?_⟩
  refine bytesStr (enc := enc5) und22 undI5 undStr9 (hF_b_1 _ (h.drop 0)) (fun _ => rfl) rfl ?_
  refine ⟨_, rfl, ?_⟩
  refine eqlStr ?_
  refine ⟨_, rfl, ?_⟩
  exact hR ((strOf a_1) == (strOf b_1)) _ h hp
def pcp_ReadAsk_wp (b_1 : List (Int)) (K : Int → Int → Int → Int → Int → Int → Int → Int → Int → Int → Prop) : Prop :=
  cond ((((b_1.length : Nat) : Int) : Int) != 60) (K 0 0 0 0 0 0 0 0 0 3) (joinP9 (fun (Ver Inside Port Secs Nonce Result_ Epoch Host client6 : Int) => pcp_Ask_wp Ver Inside Port Secs Nonce Result_ Epoch Host client6 (fun (rs : List (Int)) => bytes_Equal_wp rs b_1 (fun (r_19 : Bool) => cond (!r_19) (K 0 0 0 0 0 0 0 0 0 3) (K Ver Inside Port Secs Nonce Result_ Epoch Host client6 0)))) (fun (Q : Int → Int → Int → Int → Int → Int → Int → Int → Int → Prop) => 0 ≤ (24 : Int) ∧ (24 : Int) ≤ ((b_1.length : Nat) : Int) ∧ 0 ≤ (20 : Int) ∧ (20 : Int) ≤ (24 : Int) ∧ ((pcp_mapped_wp b_1 (fun (r r_1 r_2 r_3 r_4 r_5 r_6 r_7 : Int) => (pcp_get_wp ((b_1.take (Int.toNat 24)).drop (Int.toNat 20)) (fun (r_8 : Int) => Q r r_1 r_2 r_3 r_4 r_5 r_6 r_7 (IntKind.wrap .u32 r_8))) ∧ (pcp_get_wp ((b_1.take (Int.toNat 24)).drop (Int.toNat 20)) (fun (r_9 : Int) => Q r r_1 r_2 r_3 r_4 r_5 r_6 r_7 (IntKind.wrap .u32 r_9))))) ∧ (pcp_mapped_wp b_1 (fun (r_10 r_11 r_12 r_13 r_14 r_15 r_16 r_17 : Int) => pcp_get_wp ((b_1.take (Int.toNat 24)).drop (Int.toNat 20)) (fun (r_18 : Int) => Q r_10 r_11 r_12 r_13 r_14 r_15 r_16 r_17 (IntKind.wrap .u32 r_18)))))))
theorem pcp_ReadAsk_ok {p_1 : Option Addr} {n_1 c_1 : Nat} {b_1 : List (Int)} {FL : List HP} {w : World} {K : Int → Int → Int → Int → Int → Int → Int → Int → Int → Int → Prop} {R : Value → World → Prop}
  (hF_b_1 : ∀ w, Mem FL w → Rd w 1 p_1 enc5 b_1) (hl_b_1 : n_1 = b_1.length) (hc_b_1 : n_1 ≤ c_1)
  (h : Mem (FL) w) (hp : pcp_ReadAsk_wp b_1 K)
  (hR : ∀ (r r_1 r_2 r_3 r_4 r_5 r_6 r_7 r_8 r_9 : Int) (w : World), Mem (FL) w → K r r_1 r_2 r_3 r_4 r_5 r_6 r_7 r_8 r_9 → R (Value.tuple #[(Value.agg #[Value.int .i64 r, Value.int .i64 r_1, Value.int .i64 r_2, Value.int .i64 r_3, Value.int .u64 r_4, Value.int .i64 r_5, Value.int .i64 r_6, Value.int .u32 r_7]), Value.int .u32 r_8, Value.int .i64 r_9]) w) :
  CallV Try.prog 57 #[Value.slice p_1 n_1 c_1] w R := by
  refine pcp_ReadAsk_call ?_
  unfold pcp_ReadAsk
  unfold pcp_ReadAsk_wp at hp
  subst hl_b_1
  refine newL (o := [Value.int .i64 0, Value.int .i64 0, Value.int .i64 0, Value.int .i64 0, Value.int .u64 0, Value.int .i64 0, Value.int .i64 0, Value.int .u32 0]) h ?_
  intro b_2 w h
  refine cond_both hp (fun hp => ?_) (fun hp => ?_)
  · refine storeL (ys := [Value.int .i64 0, Value.int .i64 0, Value.int .i64 0, Value.int .i64 0, Value.int .u64 0, Value.int .i64 0, Value.int .i64 0, Value.int .u32 0]) h 0 0 rfl rfl rfl sz41 rfl rfl ?_
    intro w h
    dsimp only [setH, setVs, setV] at h
    refine ⟨_, cellL h 0 0 rfl rfl rfl, _, cellL h 0 1 rfl rfl rfl, _, cellL h 0 2 rfl rfl rfl, _, cellL h 0 3 rfl rfl rfl, _, cellL h 0 4 rfl rfl rfl, _, cellL h 0 5 rfl rfl rfl, _, cellL h 0 6 rfl rfl rfl, _, cellL h 0 7 rfl rfl rfl, ?_⟩
    replace h := h.sel [] 1
    dsimp only [pickL, pickR, nthH, delH, dropH, List.cons_append, List.nil_append] at h
    exact hR 0 0 0 0 0 0 0 0 0 3 _ h hp
  obtain ⟨Q, hq, hp⟩ := hp
  refine ⟨fun b0p b0l b0c t2 l5 client6 w => ∃ (b_3 : Nat), ∃ (Ver : Int), ∃ (Inside : Int), ∃ (Port : Int), ∃ (Secs : Int), ∃ (Nonce : Int), ∃ (Result_ : Int), ∃ (Epoch : Int), ∃ (Host : Int), p_1 = b0p ∧ b_1.length = b0l ∧ c_1 = b0c ∧ (Addr.mk b_2 0 none) = t2 ∧ (Addr.mk b_3 0 none) = l5 ∧ Q Ver Inside Port Secs Nonce Result_ Epoch Host client6 ∧ Mem (cel b_2 41 [Value.int .i64 0, Value.int .i64 0, Value.int .i64 0, Value.int .i64 0, Value.int .u64 0, Value.int .i64 0, Value.int .i64 0, Value.int .u32 0] :: cel b_3 41 [Value.int .i64 Ver, Value.int .i64 Inside, Value.int .i64 Port, Value.int .i64 Secs, Value.int .u64 Nonce, Value.int .i64 Result_, Value.int .i64 Epoch, Value.int .u32 Host] :: FL) w, ?_, ?_⟩
  · rintro b0p b0l b0c t2 l5 client6 w ⟨b_3, Ver, Inside, Port, Secs, Nonce, Result_, Epoch, Host, rfl, rfl, rfl, rfl, rfl, hp, h⟩
    replace hp := hq Ver Inside Port Secs Nonce Result_ Epoch Host client6 hp
    unfold pcp_ReadAsk_j1
    refine ⟨_, cellL h 1 0 rfl rfl rfl, _, cellL h 1 1 rfl rfl rfl, _, cellL h 1 2 rfl rfl rfl, _, cellL h 1 3 rfl rfl rfl, _, cellL h 1 4 rfl rfl rfl, _, cellL h 1 5 rfl rfl rfl, _, cellL h 1 6 rfl rfl rfl, _, cellL h 1 7 rfl rfl rfl, ?_⟩
    refine pcp_Ask_ok h hp ?_
    rintro rs p_2 n_2 c_2 w rfl h hp
    have cpp_2 := rowCap h 0 rfl
    refine ⟨_, _, _, rfl, ?_⟩
    refine bytes_Equal_ok (FL := row enc5 5 1 p_2 c_2 rs :: cel b_2 41 [Value.int .i64 0, Value.int .i64 0, Value.int .i64 0, Value.int .i64 0, Value.int .u64 0, Value.int .i64 0, Value.int .i64 0, Value.int .u32 0] :: cel b_3 41 [Value.int .i64 Ver, Value.int .i64 Inside, Value.int .i64 Port, Value.int .i64 Secs, Value.int .u64 Nonce, Value.int .i64 Result_, Value.int .i64 Epoch, Value.int .u32 Host] :: FL) (fun w h => (rowRd h 0 encL5 rfl)) rfl cpp_2 (fun w h => (hF_b_1 _ (h.drop 3))) rfl hc_b_1 h hp ?_
    intro r_19 w h hp
    refine ⟨_, rfl, ?_⟩
    refine cond_both hp (fun hp => ?_) (fun hp => ?_)
    · refine storeL (ys := [Value.int .i64 0, Value.int .i64 0, Value.int .i64 0, Value.int .i64 0, Value.int .u64 0, Value.int .i64 0, Value.int .i64 0, Value.int .u32 0]) h 1 0 rfl rfl rfl sz41 rfl rfl ?_
      intro w h
      dsimp only [setH, setVs, setV] at h
      refine ⟨_, cellL h 1 0 rfl rfl rfl, _, cellL h 1 1 rfl rfl rfl, _, cellL h 1 2 rfl rfl rfl, _, cellL h 1 3 rfl rfl rfl, _, cellL h 1 4 rfl rfl rfl, _, cellL h 1 5 rfl rfl rfl, _, cellL h 1 6 rfl rfl rfl, _, cellL h 1 7 rfl rfl rfl, ?_⟩
      replace h := h.sel [] 3
      dsimp only [pickL, pickR, nthH, delH, dropH, List.cons_append, List.nil_append] at h
      exact hR 0 0 0 0 0 0 0 0 0 3 _ h hp
    refine ⟨_, cellL h 2 0 rfl rfl rfl, _, cellL h 2 1 rfl rfl rfl, _, cellL h 2 2 rfl rfl rfl, _, cellL h 2 3 rfl rfl rfl, _, cellL h 2 4 rfl rfl rfl, _, cellL h 2 5 rfl rfl rfl, _, cellL h 2 6 rfl rfl rfl, _, cellL h 2 7 rfl rfl rfl, ?_⟩
    refine storeL (ys := [Value.int .i64 Ver, Value.int .i64 Inside, Value.int .i64 Port, Value.int .i64 Secs, Value.int .u64 Nonce, Value.int .i64 Result_, Value.int .i64 Epoch, Value.int .u32 Host]) h 1 0 rfl rfl rfl sz41 rfl rfl ?_
    intro w h
    dsimp only [setH, setVs, setV] at h
    refine ⟨_, cellL h 1 0 rfl rfl rfl, _, cellL h 1 1 rfl rfl rfl, _, cellL h 1 2 rfl rfl rfl, _, cellL h 1 3 rfl rfl rfl, _, cellL h 1 4 rfl rfl rfl, _, cellL h 1 5 rfl rfl rfl, _, cellL h 1 6 rfl rfl rfl, _, cellL h 1 7 rfl rfl rfl, ?_⟩
    replace h := h.sel [] 3
    dsimp only [pickL, pickR, nthH, delH, dropH, List.cons_append, List.nil_append] at h
    exact hR Ver Inside Port Secs Nonce Result_ Epoch Host client6 0 _ h hp
  clear hq
  replace h := h.drew
  refine ⟨fun w => Mem (FL) w, (h.sel [] 1), ?_⟩
  obtain ⟨g_1ha, g_1hb, g_1la, g_1lb, hp⟩ := hp
  have vg_1_lh : (Int.toNat 20) ≤ (Int.toNat 24) := (natLe2 g_1la g_1ha g_1lb)
  have vg_1_hm : (Int.toNat 24) ≤ c_1 := (Nat.le_trans (natLe g_1ha g_1hb) hc_b_1)
  have vg_1_mc : c_1 ≤ c_1 := (Nat.le_refl _)
  have vg_1_hl : (Int.toNat 24) ≤ b_1.length := (leLen g_1ha g_1hb rfl)
  refine ⟨g_1ha, (leCap g_1hb hc_b_1), g_1la, (leNat g_1ha g_1lb), ?_⟩
  refine ⟨?_, ?_⟩
  · replace hp := hp.1
    refine pcp_mapped_ok (FL := cel b_2 41 [Value.int .i64 0, Value.int .i64 0, Value.int .i64 0, Value.int .i64 0, Value.int .u64 0, Value.int .i64 0, Value.int .i64 0, Value.int .u32 0] :: FL) (fun w h => (hF_b_1 _ (h.drop 1))) rfl hc_b_1 h hp ?_
    intro r r_1 r_2 r_3 r_4 r_5 r_6 r_7 w h hp
    refine ⟨_, _, _, _, _, _, _, _, rfl, ?_⟩
    refine ⟨(h.sel [] 1), ?_⟩
    refine ⟨?_, ?_⟩
    · replace hp := hp.1
      refine pcp_get_ok (FL := cel b_2 41 [Value.int .i64 0, Value.int .i64 0, Value.int .i64 0, Value.int .i64 0, Value.int .u64 0, Value.int .i64 0, Value.int .i64 0, Value.int .u32 0] :: FL) (fun w h => (Rd.view (hF_b_1 _ (h.drop 1)) (l := (Int.toNat 20)) (h := (Int.toNat 24)) (m := c_1) vg_1_hm)) (viewLen vg_1_hl) (Nat.sub_le_sub_right vg_1_hm _) h hp ?_
      intro r_8 w h hp
      refine ⟨_, rfl, ?_⟩
      refine newL (o := [Value.int .i64 0, Value.int .i64 0, Value.int .i64 0, Value.int .i64 0, Value.int .u64 0, Value.int .i64 0, Value.int .i64 0, Value.int .u32 0]) h ?_
      intro b_4 w h
      refine ⟨(h.sel [] 2), ?_⟩
      refine storeL (ys := [Value.int .i64 r, Value.int .i64 r_1, Value.int .i64 r_2, Value.int .i64 r_3, Value.int .u64 r_4, Value.int .i64 r_5, Value.int .i64 r_6, Value.int .u32 r_7]) h 0 0 rfl rfl rfl sz41 rfl rfl ?_
      intro w h
      dsimp only [setH, setVs, setV] at h
      replace h := h.sel [1, 0] 0
      dsimp only [pickL, pickR, nthH, delH, dropH, List.cons_append, List.nil_append] at h
      exact ⟨b_4, r, r_1, r_2, r_3, r_4, r_5, r_6, r_7, rfl, rfl, rfl, rfl, rfl, hp, h⟩
    replace hp := hp.2
    refine newL (o := [Value.int .i64 0, Value.int .i64 0, Value.int .i64 0, Value.int .i64 0, Value.int .u64 0, Value.int .i64 0, Value.int .i64 0, Value.int .u32 0]) h ?_
    intro b_5 w h
    refine ⟨(h.sel [] 2), ?_⟩
    refine pcp_get_ok (FL := cel b_5 41 [Value.int .i64 0, Value.int .i64 0, Value.int .i64 0, Value.int .i64 0, Value.int .u64 0, Value.int .i64 0, Value.int .i64 0, Value.int .u32 0] :: cel b_2 41 [Value.int .i64 0, Value.int .i64 0, Value.int .i64 0, Value.int .i64 0, Value.int .u64 0, Value.int .i64 0, Value.int .i64 0, Value.int .u32 0] :: FL) (fun w h => (Rd.view (hF_b_1 _ (h.drop 2)) (l := (Int.toNat 20)) (h := (Int.toNat 24)) (m := c_1) vg_1_hm)) (viewLen vg_1_hl) (Nat.sub_le_sub_right vg_1_hm _) h hp ?_
    intro r_9 w h hp
    refine ⟨_, rfl, ?_⟩
    refine storeL (ys := [Value.int .i64 r, Value.int .i64 r_1, Value.int .i64 r_2, Value.int .i64 r_3, Value.int .u64 r_4, Value.int .i64 r_5, Value.int .i64 r_6, Value.int .u32 r_7]) h 0 0 rfl rfl rfl sz41 rfl rfl ?_
    intro w h
    dsimp only [setH, setVs, setV] at h
    replace h := h.sel [1, 0] 0
    dsimp only [pickL, pickR, nthH, delH, dropH, List.cons_append, List.nil_append] at h
    exact ⟨b_5, r, r_1, r_2, r_3, r_4, r_5, r_6, r_7, rfl, rfl, rfl, rfl, rfl, hp, h⟩
  replace hp := hp.2
  refine newL (o := [Value.int .i64 0, Value.int .i64 0, Value.int .i64 0, Value.int .i64 0, Value.int .u64 0, Value.int .i64 0, Value.int .i64 0, Value.int .u32 0]) h ?_
  intro b_6 w h
  refine ⟨(h.sel [] 2), ?_⟩
  refine pcp_mapped_ok (FL := cel b_6 41 [Value.int .i64 0, Value.int .i64 0, Value.int .i64 0, Value.int .i64 0, Value.int .u64 0, Value.int .i64 0, Value.int .i64 0, Value.int .u32 0] :: cel b_2 41 [Value.int .i64 0, Value.int .i64 0, Value.int .i64 0, Value.int .i64 0, Value.int .u64 0, Value.int .i64 0, Value.int .i64 0, Value.int .u32 0] :: FL) (fun w h => (hF_b_1 _ (h.drop 2))) rfl hc_b_1 h hp ?_
  intro r_10 r_11 r_12 r_13 r_14 r_15 r_16 r_17 w h hp
  refine ⟨_, _, _, _, _, _, _, _, rfl, ?_⟩
  refine ⟨(h.sel [] 2), ?_⟩
  refine pcp_get_ok (FL := cel b_6 41 [Value.int .i64 0, Value.int .i64 0, Value.int .i64 0, Value.int .i64 0, Value.int .u64 0, Value.int .i64 0, Value.int .i64 0, Value.int .u32 0] :: cel b_2 41 [Value.int .i64 0, Value.int .i64 0, Value.int .i64 0, Value.int .i64 0, Value.int .u64 0, Value.int .i64 0, Value.int .i64 0, Value.int .u32 0] :: FL) (fun w h => (Rd.view (hF_b_1 _ (h.drop 2)) (l := (Int.toNat 20)) (h := (Int.toNat 24)) (m := c_1) vg_1_hm)) (viewLen vg_1_hl) (Nat.sub_le_sub_right vg_1_hm _) h hp ?_
  intro r_18 w h hp
  refine ⟨_, rfl, ?_⟩
  refine storeL (ys := [Value.int .i64 r_10, Value.int .i64 r_11, Value.int .i64 r_12, Value.int .i64 r_13, Value.int .u64 r_14, Value.int .i64 r_15, Value.int .i64 r_16, Value.int .u32 r_17]) h 0 0 rfl rfl rfl sz41 rfl rfl ?_
  intro w h
  dsimp only [setH, setVs, setV] at h
  replace h := h.sel [1, 0] 0
  dsimp only [pickL, pickR, nthH, delH, dropH, List.cons_append, List.nil_append] at h
  exact ⟨b_6, r_10, r_11, r_12, r_13, r_14, r_15, r_16, r_17, rfl, rfl, rfl, rfl, rfl, hp, h⟩
def sSortB_wp {σ1 : Type} (xs : List BIX) (s : σ1) (Y1 : BIX → BIX → σ1 → (Int → σ1 → Prop) → Prop) (K : List BIX → σ1 → Prop) : Prop := sortW xs s Y1 K
theorem sSortB_ok {σ1 : Type} {A1 : σ1 → HP} {p_1 : Option Addr} {c_1 n_1 g1 : Nat} {fc1 : Array Value} {xs : List BIX} {s : σ1} {Y1 : BIX → BIX → σ1 → (Int → σ1 → Prop) → Prop} {FL : List HP} {w : World} {K : List BIX → σ1 → Prop} {R : Value → World → Prop}
  (hY1 : ∀ (x0 : BIX) (x1 : BIX) (s : σ1) (K : Int → σ1 → Prop) (FL2 : List HP) (w : World) (R : Value → World → Prop), (∀ w, Mem FL2 w → Mem FL w) → Mem (A1 s :: FL2) w → Y1 x0 x1 s K → (∀ (r : Int) (s : σ1) (w : World), Mem (A1 s :: FL2) w → K r s → R (Value.int .i64 r) w) → CalleeV Try.prog (Value.func (.func g1) #[] fc1) #[(Value.agg #[Value.int .u32 x0.1, Value.int .i64 x0.2.1, Value.int .u32 x0.2.2.1, Value.int .i64 x0.2.2.2.1, Value.int .i64 x0.2.2.2.2.1, Value.int .i64 x0.2.2.2.2.2.1, Value.bool x0.2.2.2.2.2.2]), (Value.agg #[Value.int .u32 x1.1, Value.int .i64 x1.2.1, Value.int .u32 x1.2.2.1, Value.int .i64 x1.2.2.2.1, Value.int .i64 x1.2.2.2.2.1, Value.int .i64 x1.2.2.2.2.2.1, Value.bool x1.2.2.2.2.2.2])] w R)
  (hn : n_1 = xs.length) (hg : hasBody Try.prog g1 = true) (he : ∀ args w, (callFunc g1 args).run Try.prog w = .ok (.enter g1 args) w) (hx : Exact (A1 s))
  (h : Mem (row enc55 55 7 p_1 c_1 xs :: A1 s :: FL) w) (hp : sSortB_wp xs s Y1 K)
  (hR : ∀ (rs : List BIX) (s_1 : σ1) (w : World), xs.length = rs.length → Mem (row enc55 55 7 p_1 c_1 rs :: A1 s_1 :: FL) w → K rs s_1 → R (Value.tuple #[]) w) :
  CallV Try.prog 34 #[Value.slice p_1 n_1 c_1, Value.func (.func g1) #[] fc1] w R :=
  sortL (ρ := lays34_ren) lays34 Try.isAgg55 Try.sizeOf55 encL55 (fun x v hv => by simp only [enc55, List.mem_cons, List.not_mem_nil, or_false] at hv; rcases hv with rfl | rfl | rfl | rfl | rfl | rfl | rfl <;> rfl) hg he hx hY1 hn h hp (fun rs s w hl => hR rs s w hl.symm)
def cmp_isNaN_int_wp (x_1 : Int) (K : Bool → Prop) : Prop :=
  K (x_1 != x_1)
theorem cmp_isNaN_int_ok {x_1 : Int} {FL : List HP} {w : World} {K : Bool → Prop} {R : Value → World → Prop}
  (h : Mem (FL) w) (hp : cmp_isNaN_int_wp x_1 K)
  (hR : ∀ (r : Bool) (w : World), Mem (FL) w → K r → R (Value.bool r) w) :
  CallV Try.prog 64 #[Value.int .i64 x_1] w R := by
  refine cmp_isNaN_int_call ?_
  unfold cmp_isNaN_int
  unfold cmp_isNaN_int_wp at hp
  exact hR (x_1 != x_1) _ h hp
def cmp_Compare_int_wp (x_1 y : Int) (K : Int → Prop) : Prop :=
  cmp_isNaN_int_wp x_1 (fun (r : Bool) => cmp_isNaN_int_wp y (fun (r_1 : Bool) => cond r (cond r_1 (K 0) (K (-1))) (cond r_1 (K 1) (cond (decide (x_1 < y)) (K (-1)) (cond (decide (x_1 > y)) (K 1) (K 0))))))
theorem cmp_Compare_int_ok {x_1 y : Int} {FL : List HP} {w : World} {K : Int → Prop} {R : Value → World → Prop}
  (h : Mem (FL) w) (hp : cmp_Compare_int_wp x_1 y K)
  (hR : ∀ (r : Int) (w : World), Mem (FL) w → K r → R (Value.int .i64 r) w) :
  CallV Try.prog 36 #[Value.int .i64 x_1, Value.int .i64 y] w R := by
  refine cmp_Compare_int_call ?_
  unfold cmp_Compare_int
  unfold cmp_Compare_int_wp at hp
  refine cmp_isNaN_int_ok h hp ?_
  intro r w h hp
  refine ⟨_, rfl, ?_⟩
  refine cmp_isNaN_int_ok h hp ?_
  intro r_1 w h hp
  refine ⟨_, rfl, ?_⟩
  refine cond_both hp (fun hp => ?_) (fun hp => ?_)
  · refine cond_both hp (fun hp => ?_) (fun hp => ?_)
    · exact hR 0 _ h hp
    exact hR (-1) _ h hp
  refine cond_both hp (fun hp => ?_) (fun hp => ?_)
  · exact hR 1 _ h hp
  refine cond_both hp (fun hp => ?_) (fun hp => ?_)
  · exact hR (-1) _ h hp
  refine cond_both hp (fun hp => ?_) (fun hp => ?_)
  · exact hR 1 _ h hp
  exact hR 0 _ h hp
def nN_All_c1_wp (a_In a_In_1 a_To a_To_1 a_Port a_Until : Int) (a_Asked : Bool) (b_In b_In_1 b_To b_To_1 b_Port b_Until : Int) (b_Asked : Bool) (K : Int → Prop) : Prop :=
  cmp_Compare_int_wp a_Port b_Port (fun (r : Int) => K r)
theorem nN_All_c1_ok {a_In a_In_1 a_To a_To_1 a_Port a_Until : Int} {a_Asked : Bool} {b_In b_In_1 b_To b_To_1 b_Port b_Until : Int} {b_Asked : Bool} {FL : List HP} {w : World} {K : Int → Prop} {R : Value → World → Prop}
  (h : Mem (FL) w) (hp : nN_All_c1_wp a_In a_In_1 a_To a_To_1 a_Port a_Until a_Asked b_In b_In_1 b_To b_To_1 b_Port b_Until b_Asked K)
  (hR : ∀ (r : Int) (w : World), Mem (FL) w → K r → R (Value.int .i64 r) w) :
  CallV Try.prog 35 #[(Value.agg #[Value.int .u32 a_In, Value.int .i64 a_In_1, Value.int .u32 a_To, Value.int .i64 a_To_1, Value.int .i64 a_Port, Value.int .i64 a_Until, Value.bool a_Asked]), (Value.agg #[Value.int .u32 b_In, Value.int .i64 b_In_1, Value.int .u32 b_To, Value.int .i64 b_To_1, Value.int .i64 b_Port, Value.int .i64 b_Until, Value.bool b_Asked])] w R := by
  refine nN_All_c1_call ?_
  unfold nN_All_c1
  unfold nN_All_c1_wp at hp
  refine newL (o := [Value.int .u32 a_In, Value.int .i64 a_In_1, Value.int .u32 a_To, Value.int .i64 a_To_1, Value.int .i64 a_Port, Value.int .i64 a_Until, Value.bool a_Asked]) h ?_
  intro b_1 w h
  refine newL (o := [Value.int .u32 b_In, Value.int .i64 b_In_1, Value.int .u32 b_To, Value.int .i64 b_To_1, Value.int .i64 b_Port, Value.int .i64 b_Until, Value.bool b_Asked]) h ?_
  intro b_2 w h
  refine ⟨_, cellL h 1 4 rfl rfl rfl, ?_⟩
  refine ⟨_, cellL h 0 4 rfl rfl rfl, ?_⟩
  refine cmp_Compare_int_ok h hp ?_
  intro r w h hp
  refine ⟨_, rfl, ?_⟩
  replace h := h.sel [] 2
  dsimp only [pickL, pickR, nthH, delH, dropH, List.cons_append, List.nil_append] at h
  exact hR r _ h hp
def nN_All_wp (box box_1 box_2 box_3 box_4 box_5 box_6 : Int) (list : List (Option Nat)) (now now_1 : Int) (m_1 : SBX) (K : List BIX → List (Option Nat) → Int → SBX → Prop) : Prop :=
  nN_on_wp box box_1 box_2 box_3 box_4 box_5 box_6 list now now_1 m_1 (fun (r : Bool) (list_2 : List (Option Nat)) (now_3 : Int) => cond (!r) (K ([] : List BIX) list_2 now_3 m_1) (joinP2 (fun (out : List BIX) (m_3 : SBX) => sSortB_wp out () (fun x_3 x_4 s K_1 => nN_All_c1_wp x_3.1 x_3.2.1 x_3.2.2.1 x_3.2.2.2.1 x_3.2.2.2.2.1 x_3.2.2.2.2.2.1 x_3.2.2.2.2.2.2 x_4.1 x_4.2.1 x_4.2.2.1 x_4.2.2.2.1 x_4.2.2.2.2.1 x_4.2.2.2.2.2.1 x_4.2.2.2.2.2.2 (fun (r : Int) => K_1 r s)) (fun (rs : List BIX) (s_1 : (Unit)) => K rs list_2 now_3 m_3)) (fun (Q : List BIX → SBX → Prop) => ∃ (I : Nat → List BIX → Int → SBX → Prop), (∃ (n_5 : Nat), I n_5 ([] : List BIX) 0 m_1) ∧ ∀ (n_3 : Nat) (out_1 : List BIX) (t17 : Int) (m_4 : SBX), I n_3 out_1 t17 m_4 → (cond (decide (t17 < ((list_2.length : Nat) : Int))) (0 ≤ t17 ∧ (t17 : Int) < ((list_2.length : Nat) : Int) ∧ (∀ (x_1 : Option Nat), list_2[Int.toNat t17]? = some x_1 → (∃ (b_2 : Nat), x_1 = some b_2 ∧ (∃ (x_2 : Int × Int × Int × Int × Int × Int × Bool × (List (Int × Int))), getS m_4 b_2 = some x_2 ∧ ((out_1.length + [(x_2.1, x_2.2.1, x_2.2.2.1, x_2.2.2.2.1, x_2.2.2.2.2.1, x_2.2.2.2.2.2.1, x_2.2.2.2.2.2.2.1)].length) * 56 ≤ 140737488355328 ∧ (∃ (n_4 : Nat), n_4 < n_3 ∧ I n_4 (out_1 ++ [(x_2.1, x_2.2.1, x_2.2.2.1, x_2.2.2.2.1, x_2.2.2.2.2.1, x_2.2.2.2.2.2.1, x_2.2.2.2.2.2.2.1)]) (IntKind.wrap .i64 (t17 + 1)) (putS m_4 b_2 x_2))))))) (Q out_1 m_4)))))
theorem nN_All_ok {b_1 : Nat} {p_1 : Option Addr} {c_1 : Nat} {hd : Nat → Option Addr × Nat} {box box_1 box_2 box_3 box_4 box_5 box_6 : Int} {list : List (Option Nat)} {now now_1 : Int} {m_1 : SBX} {FL : List HP} {w : World} {K : List BIX → List (Option Nat) → Int → SBX → Prop} {R : Value → World → Prop}
  (h : Mem (cel b_1 71 [Value.int .u32 box, Value.int .i64 box_1, Value.int .i64 box_2, Value.int .i64 box_3, Value.int .i64 box_4, Value.int .i64 box_5, Value.int .i64 box_6, Value.slice p_1 list.length c_1, Value.int .i64 now] :: row enc82 82 1 p_1 c_1 list :: stoP stoE85 hd m_1 :: FL) w) (hp : nN_All_wp box box_1 box_2 box_3 box_4 box_5 box_6 list now now_1 m_1 K)
  (hR : ∀ (rs : List BIX) (list_1 : List (Option Nat)) (now_2 : Int) (m_2 : SBX) (p_3 : Option Addr) (n_2 c_3 : Nat) (p_2 : Option Addr) (n_1 c_2 : Nat) (hd_1 : Nat → Option Addr × Nat) (w : World), n_2 = rs.length → n_1 = list_1.length → Mem (row enc55 55 7 p_3 c_3 rs :: cel b_1 71 [Value.int .u32 box, Value.int .i64 box_1, Value.int .i64 box_2, Value.int .i64 box_3, Value.int .i64 box_4, Value.int .i64 box_5, Value.int .i64 box_6, Value.slice p_2 n_1 c_2, Value.int .i64 now_2] :: row enc82 82 1 p_2 c_2 list_1 :: stoP stoE85 hd_1 m_2 :: FL) w → K rs list_1 now_2 m_2 → R (Value.slice p_3 n_2 c_3) w) :
  CallV Try.prog 14 #[Value.pointer (some (Addr.mk b_1 0 none)), Value.int .i64 now_1] w R := by
  refine nN_All_call ?_
  unfold nN_All
  unfold nN_All_wp at hp
  have cpp_1 := rowCap h 1 rfl
  refine nN_on_ok h hp ?_
  rintro r list_2 now_3 p_3 n_2 c_3 w rfl h hp
  have cpp_3 := rowCap h 1 rfl
  refine ⟨_, rfl, ?_⟩
  refine cond_both hp (fun hp => ?_) (fun hp => ?_)
  · replace h := rowNil enc55 55 7 h
    exact hR ([] : List BIX) list_2 now_3 m_1 (none ) 0 0 p_3 list_2.length c_3 hd _ rfl rfl h hp
  obtain ⟨Q, hq, hp⟩ := hp
  refine ⟨fun out5p out5l out5c w => ∃ (out : List BIX), ∃ (m_3 : SBX), ∃ (hd_2 : Nat → Option Addr × Nat), out5l = out.length ∧ Q out m_3 ∧ Mem (cel b_1 71 [Value.int .u32 box, Value.int .i64 box_1, Value.int .i64 box_2, Value.int .i64 box_3, Value.int .i64 box_4, Value.int .i64 box_5, Value.int .i64 box_6, Value.slice p_3 list_2.length c_3, Value.int .i64 now_3] :: row enc82 82 1 p_3 c_3 list_2 :: stoP stoE85 hd_2 m_3 :: row enc55 55 7 out5p out5c out :: FL) w, ?_, ?_⟩
  · rintro out5p out5l out5c w ⟨out, m_3, hd_2, rfl, hp, h⟩
    replace hp := hq out m_3 hp
    unfold nN_All_j1
    have cpout5p := rowCap h 3 rfl
    replace h : Mem ((fun (_ : Unit) => HL []) () :: cel b_1 71 [Value.int .u32 box, Value.int .i64 box_1, Value.int .i64 box_2, Value.int .i64 box_3, Value.int .i64 box_4, Value.int .i64 box_5, Value.int .i64 box_6, Value.slice p_3 list_2.length c_3, Value.int .i64 now_3] :: row enc82 82 1 p_3 c_3 list_2 :: stoP stoE85 hd_2 m_3 :: row enc55 55 7 out5p out5c out :: FL) _ := h.pack 0 [] rfl
    replace h := h.pick [4, 0]
    dsimp only [pickL, pickR, nthH, delH, dropH, List.cons_append, List.nil_append] at h
    have hSr85 := stoRo85 (h.drop 2) 2 rfl
    refine sSortB_ok (FL := cel b_1 71 [Value.int .u32 box, Value.int .i64 box_1, Value.int .i64 box_2, Value.int .i64 box_3, Value.int .i64 box_4, Value.int .i64 box_5, Value.int .i64 box_6, Value.slice p_3 list_2.length c_3, Value.int .i64 now_3] :: row enc82 82 1 p_3 c_3 list_2 :: stoP stoE85 hd_2 m_3 :: FL) (A1 := (fun (_ : Unit) => HL [])) (Y1 := (fun x_3 x_4 s K_1 => nN_All_c1_wp x_3.1 x_3.2.1 x_3.2.2.1 x_3.2.2.2.1 x_3.2.2.2.2.1 x_3.2.2.2.2.2.1 x_3.2.2.2.2.2.2 x_4.1 x_4.2.1 x_4.2.2.1 x_4.2.2.2.1 x_4.2.2.2.2.1 x_4.2.2.2.2.2.1 x_4.2.2.2.2.2.2 (fun (r : Int) => K_1 r s))) (σ1 := Unit) (s := ()) ?_ rfl (by kernel_rfl) (enters_of Try.func35 (by kernel_rfl) rfl) (by repeat (first | exact exact_nil | refine exact_cons (exact_cel _ _ _) ?_)) h hp ?_
    · intro x_3 x_4 s K FL2 w R hx h hp hR
      replace h := h.unpack
      dsimp only [pickL, pickR, nthH, delH, dropH, List.cons_append, List.nil_append] at h
      refine calleeFn (by kernel_rfl) ?_
      refine nN_All_c1_ok h hp ?_
      intro r w h hp
      exact hR r s _ (h.pack 0 [] rfl) hp
    rintro rs s_1 w hl_rs h hp
    replace h := h.pick [1]
    dsimp only [pickL, pickR, nthH, delH, dropH, List.cons_append, List.nil_append] at h
    replace h := h.unpack
    dsimp only [pickL, pickR, nthH, delH, dropH, List.cons_append, List.nil_append] at h
    refine ⟨rfl, ?_⟩
    exact hR rs list_2 now_3 m_3 out5p out.length out5c p_3 list_2.length c_3 hd_2 _ hl_rs rfl h hp
  clear hq
  refine ⟨_, rfl, ?_⟩
  refine ⟨_, _, _, cellL h 0 7 rfl rfl rfl, ?_⟩
  obtain ⟨I, ⟨n_5, h0⟩, hq⟩ := hp
  replace h := rowNil enc55 55 7 h
  replace h := h.sel [1, 1, 1, 0] 0
  dsimp only [pickL, pickR, nthH, delH, dropH, List.cons_append, List.nil_append] at h
  refine ⟨fun n_3 out5_1p out5_1l out5_1c t15p t15l t15c t16 t17 w => ∃ (out_1 : List BIX), ∃ (m_4 : SBX), ∃ (hd_3 : Nat → Option Addr × Nat), p_3 = t15p ∧ list_2.length = t15l ∧ c_3 = t15c ∧ ((list_2.length : Nat) : Int) = t16 ∧ out5_1l = out_1.length ∧ I n_3 out_1 t17 m_4 ∧ Mem (cel b_1 71 [Value.int .u32 box, Value.int .i64 box_1, Value.int .i64 box_2, Value.int .i64 box_3, Value.int .i64 box_4, Value.int .i64 box_5, Value.int .i64 box_6, Value.slice p_3 list_2.length c_3, Value.int .i64 now_3] :: row enc82 82 1 p_3 c_3 list_2 :: stoP stoE85 hd_3 m_4 :: row enc55 55 7 out5_1p out5_1c out_1 :: FL) w, ⟨n_5, ([] : List BIX), m_1, hd, rfl, rfl, rfl, rfl, rfl, h0, h⟩, ?_⟩
  clear h0 h
  rintro n_3 out5_1p out5_1l out5_1c t15p t15l t15c t16 t17 w ⟨out_1, m_4, hd_3, rfl, rfl, rfl, rfl, rfl, hp, h⟩
  replace hp := hq n_3 out_1 t17 m_4 hp
  clear hq
  unfold nN_All_l2
  have cpout5_1p := rowCap h 3 rfl
  refine cond_both' hp (fun hp => ?_) (fun hp => ?_)
  · exact ⟨out_1, m_4, hd_3, rfl, hp, h⟩
  obtain ⟨ia_1, ja_1, hp⟩ := hp
  obtain ⟨a_1, ha_1⟩ := rdAddr (rowRd h 1 encL82 rfl) rfl ia_1 ja_1
  refine ⟨a_1, ha_1, ia_1, ja_1, ?_⟩
  obtain ⟨x_1, hx_1, hc⟩ := rdCell0 (rowRd h 1 encL82 rfl) ha_1 rfl ia_1 ja_1
  replace hp := hp x_1 hx_1
  refine ⟨_, hc _ rfl, ?_⟩
  obtain ⟨b_2, hb_2, hp⟩ := hp
  refine ⟨_, pnSome hb_2, ?_⟩
  obtain ⟨x_2, hx_2, hp⟩ := hp
  replace h := stoOpen stoX85 h 2 rfl hx_2
  dsimp only [setH] at h
  obtain ⟨p_5, c_4, hux_2⟩ : ∃ p_5 c_4, hd_3 b_2 = (p_5, c_4) := ⟨_, _, rfl⟩
  rw [hux_2] at h
  replace h : Mem (cel b_2 85 [Value.int .u32 x_2.1, Value.int .i64 x_2.2.1, Value.int .u32 x_2.2.2.1, Value.int .i64 x_2.2.2.2.1, Value.int .i64 x_2.2.2.2.2.1, Value.int .i64 x_2.2.2.2.2.2.1, Value.bool x_2.2.2.2.2.2.2.1, Value.slice p_5 x_2.2.2.2.2.2.2.2.length c_4] :: row enc25 25 2 p_5 c_4 x_2.2.2.2.2.2.2.2 :: cel b_1 71 [Value.int .u32 box, Value.int .i64 box_1, Value.int .i64 box_2, Value.int .i64 box_3, Value.int .i64 box_4, Value.int .i64 box_5, Value.int .i64 box_6, Value.slice p_3 list_2.length c_3, Value.int .i64 now_3] :: row enc82 82 1 p_3 c_3 list_2 :: stoP stoE85 hd_3 (delS m_4 b_2) :: row enc55 55 7 out5_1p out5_1c out_1 :: FL) _ := h.unpack
  have cpp_5 := rowCap h 1 rfl
  refine ⟨_, cellL h 0 0 rfl rfl rfl, _, cellL h 0 1 rfl rfl rfl, _, cellL h 0 2 rfl rfl rfl, _, cellL h 0 3 rfl rfl rfl, _, cellL h 0 4 rfl rfl rfl, _, cellL h 0 5 rfl rfl rfl, _, cellL h 0 6 rfl rfl rfl, ?_⟩
  refine newL (o := [Value.int .u32 x_2.1, Value.int .i64 x_2.2.1, Value.int .u32 x_2.2.2.1, Value.int .i64 x_2.2.2.2.1, Value.int .i64 x_2.2.2.2.2.1, Value.int .i64 x_2.2.2.2.2.2.1, Value.bool x_2.2.2.2.2.2.2.1]) h ?_
  intro b_3 w h
  have sr := (celRd h 0 encL55 rfl [(x_2.1, x_2.2.1, x_2.2.2.1, x_2.2.2.2.1, x_2.2.2.2.2.1, x_2.2.2.2.2.2.1, x_2.2.2.2.2.2.2.1)] rfl)
  obtain ⟨hb, hp⟩ := hp
  refine appendL slt45 und45 encL55 encO55 h 6 rfl rfl sr rfl hb ?_
  intro p_6 c_5 w h
  dsimp only [setH, setVs, setV] at h
  have cpp_6 := rowCap h 6 rfl
  refine ⟨_, _, _, rfl, ?_⟩
  replace h := h.pick [1, 1]
  dsimp only [pickL, pickR, nthH, delH, dropH, List.cons_append, List.nil_append] at h
  replace h : Mem (stoE85 (p_5, c_4) b_2 x_2 :: cel b_3 55 [Value.int .u32 x_2.1, Value.int .i64 x_2.2.1, Value.int .u32 x_2.2.2.1, Value.int .i64 x_2.2.2.2.1, Value.int .i64 x_2.2.2.2.2.1, Value.int .i64 x_2.2.2.2.2.2.1, Value.bool x_2.2.2.2.2.2.2.1] :: cel b_1 71 [Value.int .u32 box, Value.int .i64 box_1, Value.int .i64 box_2, Value.int .i64 box_3, Value.int .i64 box_4, Value.int .i64 box_5, Value.int .i64 box_6, Value.slice p_3 list_2.length c_3, Value.int .i64 now_3] :: row enc82 82 1 p_3 c_3 list_2 :: stoP stoE85 hd_3 (delS m_4 b_2) :: row enc55 55 7 p_6 c_5 (out_1 ++ [(x_2.1, x_2.2.1, x_2.2.2.1, x_2.2.2.2.1, x_2.2.2.2.2.1, x_2.2.2.2.2.2.1, x_2.2.2.2.2.2.2.1)]) :: FL) _ := h.pack 2 [cel b_2 85 [Value.int .u32 x_2.1, Value.int .i64 x_2.2.1, Value.int .u32 x_2.2.2.1, Value.int .i64 x_2.2.2.2.1, Value.int .i64 x_2.2.2.2.2.1, Value.int .i64 x_2.2.2.2.2.2.1, Value.bool x_2.2.2.2.2.2.2.1, Value.slice p_5 x_2.2.2.2.2.2.2.2.length c_4], row enc25 25 2 p_5 c_4 x_2.2.2.2.2.2.2.2] rfl
  replace h := stoClose h 3 (by simp only [List.length_cons]; omega) rfl
  dsimp only [setH] at h
  replace h := h.sel [1, 1, 1, 1] 1
  dsimp only [pickL, pickR, nthH, delH, dropH, List.cons_append, List.nil_append] at h
  obtain ⟨n_4, hn, hp⟩ := hp
  exact ⟨n_4, hn, (out_1 ++ [(x_2.1, x_2.2.1, x_2.2.2.1, x_2.2.2.2.1, x_2.2.2.2.2.1, x_2.2.2.2.2.2.1, x_2.2.2.2.2.2.2.1)]), (putS m_4 b_2 x_2), (updF hd_3 b_2 (p_5, c_4)), rfl, rfl, rfl, rfl, rfl, hp, h⟩
def gG_asked_wp (box box_1 box_2 box_3 box_4 box_5 box_6 : Int) (list : List (Option Nat)) (now : Int) (g_1 g_2 : Bool) (g_3 boot now_1 : Int) (by_ : BYX) (now_2 in_Host in_Port : Int) (m_1 : SBX) (K : Int → Int → Int → Int → Int → Int → Bool → Bool → List (Option Nat) → Int → SBX → Prop) : Prop :=
  joinP3 (fun (list_2 : List (Option Nat)) (now_4 : Int) (m_3 : SBX) => K 0 0 0 0 0 0 (false) false list_2 now_4 m_3) (fun (Q : List (Option Nat) → Int → SBX → Prop) => nN_All_wp box box_1 box_2 box_3 box_4 box_5 box_6 list now now_2 m_1 (fun (rs : List BIX) (list_3 : List (Option Nat)) (now_5 : Int) (m_4 : SBX) => ∃ (I : Nat → Int → Prop), (∃ (n_7 : Nat), I n_7 0) ∧ ∀ (n_5 : Nat) (t17 : Int), I n_5 t17 → (cond (decide (t17 < ((rs.length : Nat) : Int))) (0 ≤ t17 ∧ (t17 : Int) < ((rs.length : Nat) : Int) ∧ (∀ (x_1 : Int × Int × Int × Int × Int × Int × Bool), rs[Int.toNat t17]? = some x_1 → (joinP1 (fun (t28 : Bool) => cond t28 (K x_1.1 x_1.2.1 x_1.2.2.1 x_1.2.2.2.1 x_1.2.2.2.2.1 x_1.2.2.2.2.2.1 x_1.2.2.2.2.2.2 true list_3 now_5 m_4) (∃ (n_6 : Nat), n_6 < n_5 ∧ I n_6 (IntKind.wrap .i64 (t17 + 1)))) (fun (Q_1 : Bool → Prop) => cond (((x_1.1 : Int) == in_Host) && (((x_1.2.1 : Int) == in_Port) && true)) (Q_1 x_1.2.2.2.2.2.2) (Q_1 false))))) (Q list_3 now_5 m_4))))
theorem gG_asked_ok {b_1 b_2 : Nat} {p_1 : Option Addr} {c_1 b_3 : Nat} {p_2 : List MapEntry × Nat} {hd : Nat → Option Addr × Nat} {box box_1 box_2 box_3 box_4 box_5 box_6 : Int} {list : List (Option Nat)} {now : Int} {g_1 g_2 : Bool} {g_3 boot now_1 : Int} {by_ : BYX} {now_2 in_Host in_Port : Int} {m_1 : SBX} {FL : List HP} {w : World} {K : Int → Int → Int → Int → Int → Int → Bool → Bool → List (Option Nat) → Int → SBX → Prop} {R : Value → World → Prop}
  (hM_by_ : RoM FL b_3 va25 va111 p_2 by_)
  (h : Mem (cel b_1 75 [Value.pointer (some (Addr.mk b_2 0 none)), Value.bool g_1, Value.bool g_2, Value.int .i64 g_3, Value.int .i64 boot, Value.int .i64 now_1, Value.map (some b_3)] :: cel b_2 71 [Value.int .u32 box, Value.int .i64 box_1, Value.int .i64 box_2, Value.int .i64 box_3, Value.int .i64 box_4, Value.int .i64 box_5, Value.int .i64 box_6, Value.slice p_1 list.length c_1, Value.int .i64 now] :: row enc82 82 1 p_1 c_1 list :: stoP stoE85 hd m_1 :: FL) w) (hp : gG_asked_wp box box_1 box_2 box_3 box_4 box_5 box_6 list now g_1 g_2 g_3 boot now_1 by_ now_2 in_Host in_Port m_1 K)
  (hR : ∀ (r r_1 r_2 r_3 r_4 r_5 : Int) (r_6 r_7 : Bool) (list_1 : List (Option Nat)) (now_3 : Int) (m_2 : SBX) (p_3 : Option Addr) (n_1 c_2 : Nat) (hd_1 : Nat → Option Addr × Nat) (w : World), n_1 = list_1.length → Mem (cel b_1 75 [Value.pointer (some (Addr.mk b_2 0 none)), Value.bool g_1, Value.bool g_2, Value.int .i64 g_3, Value.int .i64 boot, Value.int .i64 now_1, Value.map (some b_3)] :: cel b_2 71 [Value.int .u32 box, Value.int .i64 box_1, Value.int .i64 box_2, Value.int .i64 box_3, Value.int .i64 box_4, Value.int .i64 box_5, Value.int .i64 box_6, Value.slice p_3 n_1 c_2, Value.int .i64 now_3] :: row enc82 82 1 p_3 c_2 list_1 :: stoP stoE85 hd_1 m_2 :: FL) w → K r r_1 r_2 r_3 r_4 r_5 r_6 r_7 list_1 now_3 m_2 → R (Value.tuple #[(Value.agg #[Value.int .u32 r, Value.int .i64 r_1, Value.int .u32 r_2, Value.int .i64 r_3, Value.int .i64 r_4, Value.int .i64 r_5, Value.bool r_6]), Value.bool r_7]) w) :
  CallV Try.prog 73 #[Value.pointer (some (Addr.mk b_1 0 none)), Value.int .i64 now_2, (Value.agg #[Value.int .u32 in_Host, Value.int .i64 in_Port])] w R := by
  refine gG_asked_call ?_
  unfold gG_asked
  unfold gG_asked_wp at hp
  have cpp_1 := rowCap h 2 rfl
  refine newL (o := [Value.int .u32 in_Host, Value.int .i64 in_Port]) h ?_
  intro b_4 w h
  refine newL (o := [Value.int .u32 0, Value.int .i64 0, Value.int .u32 0, Value.int .i64 0, Value.int .i64 0, Value.int .i64 0, Value.bool false]) h ?_
  intro b_5 w h
  obtain ⟨Q, hq, hp⟩ := hp
  refine ⟨fun t6 w => ∃ (list_2 : List (Option Nat)), ∃ (p_4 : Option Addr), ∃ (n_2 : Nat), ∃ (c_3 : Nat), ∃ (now_4 : Int), ∃ (m_3 : SBX), ∃ (hd_2 : Nat → Option Addr × Nat), (Addr.mk b_5 0 none) = t6 ∧ n_2 = list_2.length ∧ Q list_2 now_4 m_3 ∧ Mem (cel b_5 55 [Value.int .u32 0, Value.int .i64 0, Value.int .u32 0, Value.int .i64 0, Value.int .i64 0, Value.int .i64 0, Value.bool false] :: cel b_4 25 [Value.int .u32 in_Host, Value.int .i64 in_Port] :: cel b_1 75 [Value.pointer (some (Addr.mk b_2 0 none)), Value.bool g_1, Value.bool g_2, Value.int .i64 g_3, Value.int .i64 boot, Value.int .i64 now_1, Value.map (some b_3)] :: cel b_2 71 [Value.int .u32 box, Value.int .i64 box_1, Value.int .i64 box_2, Value.int .i64 box_3, Value.int .i64 box_4, Value.int .i64 box_5, Value.int .i64 box_6, Value.slice p_4 n_2 c_3, Value.int .i64 now_4] :: row enc82 82 1 p_4 c_3 list_2 :: stoP stoE85 hd_2 m_3 :: FL) w, ?_, ?_⟩
  · rintro t6 w ⟨list_2, p_4, n_2, c_3, now_4, m_3, hd_2, rfl, rfl, hp, h⟩
    replace hp := hq list_2 now_4 m_3 hp
    unfold gG_asked_j1
    have cpp_4 := rowCap h 4 rfl
    refine storeL (ys := [Value.int .u32 0, Value.int .i64 0, Value.int .u32 0, Value.int .i64 0, Value.int .i64 0, Value.int .i64 0, Value.bool false]) h 0 0 rfl rfl rfl sz55 rfl rfl ?_
    intro w h
    dsimp only [setH, setVs, setV] at h
    refine ⟨_, cellL h 0 0 rfl rfl rfl, _, cellL h 0 1 rfl rfl rfl, _, cellL h 0 2 rfl rfl rfl, _, cellL h 0 3 rfl rfl rfl, _, cellL h 0 4 rfl rfl rfl, _, cellL h 0 5 rfl rfl rfl, _, cellL h 0 6 rfl rfl rfl, ?_⟩
    replace h := h.sel [2, 2, 2, 2] 2
    dsimp only [pickL, pickR, nthH, delH, dropH, List.cons_append, List.nil_append] at h
    exact hR 0 0 0 0 0 0 (false) false list_2 now_4 m_3 p_4 list_2.length c_3 hd_2 _ rfl h hp
  clear hq
  refine ⟨_, rfl, ?_⟩
  refine ⟨_, cellL h 2 0 rfl rfl rfl, ?_⟩
  replace h := h.pick [3, 3, 3]
  dsimp only [pickL, pickR, nthH, delH, dropH, List.cons_append, List.nil_append] at h
  refine nN_All_ok h hp ?_
  rintro rs list_3 now_5 m_4 p_5 n_3 c_4 p_6 n_4 c_5 hd_3 w rfl rfl h hp
  have cpp_5 := rowCap h 0 rfl
  have cpp_6 := rowCap h 2 rfl
  refine ⟨_, _, _, rfl, ?_⟩
  obtain ⟨I, ⟨n_7, h0⟩, hq⟩ := hp
  replace h := h.sel [1, 1, 2, 2, 2, 1, 0] 0
  dsimp only [pickL, pickR, nthH, delH, dropH, List.cons_append, List.nil_append] at h
  refine ⟨fun n_5 in5 t6_1 t15p t15l t15c t16 t17 w => (Addr.mk b_4 0 none) = in5 ∧ (Addr.mk b_5 0 none) = t6_1 ∧ p_5 = t15p ∧ rs.length = t15l ∧ c_4 = t15c ∧ ((rs.length : Nat) : Int) = t16 ∧ I n_5 t17 ∧ Mem (cel b_2 71 [Value.int .u32 box, Value.int .i64 box_1, Value.int .i64 box_2, Value.int .i64 box_3, Value.int .i64 box_4, Value.int .i64 box_5, Value.int .i64 box_6, Value.slice p_6 list_3.length c_5, Value.int .i64 now_5] :: row enc82 82 1 p_6 c_5 list_3 :: cel b_5 55 [Value.int .u32 0, Value.int .i64 0, Value.int .u32 0, Value.int .i64 0, Value.int .i64 0, Value.int .i64 0, Value.bool false] :: cel b_4 25 [Value.int .u32 in_Host, Value.int .i64 in_Port] :: cel b_1 75 [Value.pointer (some (Addr.mk b_2 0 none)), Value.bool g_1, Value.bool g_2, Value.int .i64 g_3, Value.int .i64 boot, Value.int .i64 now_1, Value.map (some b_3)] :: stoP stoE85 hd_3 m_4 :: row enc55 55 7 p_5 c_4 rs :: FL) w, ⟨n_7, rfl, rfl, rfl, rfl, rfl, rfl, h0, h⟩, ?_⟩
  clear h0 h
  rintro n_5 in5 t6_1 t15p t15l t15c t16 t17 w ⟨rfl, rfl, rfl, rfl, rfl, rfl, hp, h⟩
  replace hp := hq n_5 t17 hp
  clear hq
  unfold gG_asked_l2
  refine cond_both' hp (fun hp => ?_) (fun hp => ?_)
  · replace h := h.sel [2, 2, 2, 0, 0, 0] 1
    dsimp only [pickL, pickR, nthH, delH, dropH, List.cons_append, List.nil_append] at h
    exact ⟨list_3, p_6, list_3.length, c_5, now_5, m_4, hd_3, rfl, rfl, hp, h⟩
  obtain ⟨ia_1, ja_1, hp⟩ := hp
  obtain ⟨a_1, ha_1⟩ := rdAddr (rowRd h 6 encL55 rfl) rfl ia_1 ja_1
  refine ⟨a_1, ha_1, ia_1, ja_1, ?_⟩
  obtain ⟨x_1, hx_1, hc⟩ := rdCell (rowRd h 6 encL55 rfl) ha_1 rfl ia_1 ja_1
  replace hp := hp x_1 hx_1
  refine ⟨_, hc 0 _ rfl, _, hc 1 _ rfl, _, hc 2 _ rfl, _, hc 3 _ rfl, _, hc 4 _ rfl, _, hc 5 _ rfl, _, hc 6 _ rfl, ?_⟩
  refine newL (o := [Value.int .u32 0, Value.int .i64 0, Value.int .u32 0, Value.int .i64 0, Value.int .i64 0, Value.int .i64 0, Value.bool false]) h ?_
  intro b_6 w h
  refine storeL (ys := [Value.int .u32 x_1.1, Value.int .i64 x_1.2.1, Value.int .u32 x_1.2.2.1, Value.int .i64 x_1.2.2.2.1, Value.int .i64 x_1.2.2.2.2.1, Value.int .i64 x_1.2.2.2.2.2.1, Value.bool x_1.2.2.2.2.2.2]) h 0 0 rfl rfl rfl sz55 rfl rfl ?_
  intro w h
  dsimp only [setH, setVs, setV] at h
  obtain ⟨Q_1, hq, hp⟩ := hp
  refine ⟨fun in5_1 t6_2 b9 t15_1p t15_1l t15_1c t16_1 t17_1 t28 w => (Addr.mk b_4 0 none) = in5_1 ∧ (Addr.mk b_5 0 none) = t6_2 ∧ (Addr.mk b_6 0 none) = b9 ∧ p_5 = t15_1p ∧ rs.length = t15_1l ∧ c_4 = t15_1c ∧ ((rs.length : Nat) : Int) = t16_1 ∧ t17 = t17_1 ∧ Q_1 t28 ∧ Mem (cel b_6 55 [Value.int .u32 x_1.1, Value.int .i64 x_1.2.1, Value.int .u32 x_1.2.2.1, Value.int .i64 x_1.2.2.2.1, Value.int .i64 x_1.2.2.2.2.1, Value.int .i64 x_1.2.2.2.2.2.1, Value.bool x_1.2.2.2.2.2.2] :: cel b_2 71 [Value.int .u32 box, Value.int .i64 box_1, Value.int .i64 box_2, Value.int .i64 box_3, Value.int .i64 box_4, Value.int .i64 box_5, Value.int .i64 box_6, Value.slice p_6 list_3.length c_5, Value.int .i64 now_5] :: row enc82 82 1 p_6 c_5 list_3 :: cel b_5 55 [Value.int .u32 0, Value.int .i64 0, Value.int .u32 0, Value.int .i64 0, Value.int .i64 0, Value.int .i64 0, Value.bool false] :: cel b_4 25 [Value.int .u32 in_Host, Value.int .i64 in_Port] :: cel b_1 75 [Value.pointer (some (Addr.mk b_2 0 none)), Value.bool g_1, Value.bool g_2, Value.int .i64 g_3, Value.int .i64 boot, Value.int .i64 now_1, Value.map (some b_3)] :: stoP stoE85 hd_3 m_4 :: row enc55 55 7 p_5 c_4 rs :: FL) w, ?_, ?_⟩
  · rintro in5_1 t6_2 b9 t15_1p t15_1l t15_1c t16_1 t17_1 t28 w ⟨rfl, rfl, rfl, rfl, rfl, rfl, rfl, rfl, hp, h⟩
    replace hp := hq t28 hp
    unfold gG_asked_j3
    refine cond_both' hp (fun hp => ?_) (fun hp => ?_)
    · replace h := h.sel [1, 1, 1, 1, 1, 1, 1] 1
      dsimp only [pickL, pickR, nthH, delH, dropH, List.cons_append, List.nil_append] at h
      obtain ⟨n_6, hn, hp⟩ := hp
      exact ⟨n_6, hn, rfl, rfl, rfl, rfl, rfl, rfl, hp, h⟩
    refine ⟨_, cellL h 0 0 rfl rfl rfl, _, cellL h 0 1 rfl rfl rfl, _, cellL h 0 2 rfl rfl rfl, _, cellL h 0 3 rfl rfl rfl, _, cellL h 0 4 rfl rfl rfl, _, cellL h 0 5 rfl rfl rfl, _, cellL h 0 6 rfl rfl rfl, ?_⟩
    refine storeL (ys := [Value.int .u32 x_1.1, Value.int .i64 x_1.2.1, Value.int .u32 x_1.2.2.1, Value.int .i64 x_1.2.2.2.1, Value.int .i64 x_1.2.2.2.2.1, Value.int .i64 x_1.2.2.2.2.2.1, Value.bool x_1.2.2.2.2.2.2]) h 3 0 rfl rfl rfl sz55 rfl rfl ?_
    intro w h
    dsimp only [setH, setVs, setV] at h
    refine ⟨_, cellL h 3 0 rfl rfl rfl, _, cellL h 3 1 rfl rfl rfl, _, cellL h 3 2 rfl rfl rfl, _, cellL h 3 3 rfl rfl rfl, _, cellL h 3 4 rfl rfl rfl, _, cellL h 3 5 rfl rfl rfl, _, cellL h 3 6 rfl rfl rfl, ?_⟩
    replace h := h.sel [5, 1, 1, 3] 4
    dsimp only [pickL, pickR, nthH, delH, dropH, List.cons_append, List.nil_append] at h
    exact hR x_1.1 x_1.2.1 x_1.2.2.1 x_1.2.2.2.1 x_1.2.2.2.2.1 x_1.2.2.2.2.2.1 x_1.2.2.2.2.2.2 true list_3 now_5 m_4 p_6 list_3.length c_5 hd_3 _ rfl h hp
  clear hq
  refine ⟨_, cellL h 0 0 rfl rfl rfl, _, cellL h 0 1 rfl rfl rfl, ?_⟩
  refine ⟨_, cellL h 4 0 rfl rfl rfl, _, cellL h 4 1 rfl rfl rfl, ?_⟩
  refine eqlAgg (xs := [Value.int .u32 x_1.1, Value.int .i64 x_1.2.1]) (ys := [Value.int .u32 in_Host, Value.int .i64 in_Port]) eqG25 eqA25 (eqT25 x_1.1 x_1.2.1 in_Host in_Port) ?_
  refine ⟨_, rfl, ?_⟩
  refine cond_both' hp (fun hp => ?_) (fun hp => ?_)
  · exact ⟨rfl, rfl, rfl, rfl, rfl, rfl, rfl, rfl, hp, h⟩
  refine ⟨_, cellL h 0 6 rfl rfl rfl, ?_⟩
  exact ⟨rfl, rfl, rfl, rfl, rfl, rfl, rfl, rfl, hp, h⟩
def gG_others_wp (box box_1 box_2 box_3 box_4 box_5 box_6 : Int) (list : List (Option Nat)) (now : Int) (g_1 g_2 : Bool) (g_3 boot now_1 : Int) (by_ : BYX) (now_2 in_Host in_Port l_Ver l_Inside l_Port l_Secs l_Nonce l_Result l_Epoch l_Host : Int) (m_1 : SBX) (K : Bool → List (Option Nat) → Int → SBX → Prop) : Prop :=
  gG_asked_wp box box_1 box_2 box_3 box_4 box_5 box_6 list now g_1 g_2 g_3 boot now_1 by_ now_2 in_Host in_Port m_1 (fun (r r_1 r_2 r_3 r_4 r_5 : Int) (r_6 r_7 : Bool) (list_2 : List (Option Nat)) (now_4 : Int) (m_3 : SBX) => cond r_7 (cond (!(mapHas by_ (in_Host, in_Port))) (K true list_2 now_4 m_3) (cond (((mapGet by_ (in_Host, in_Port) (0, 0)).1 : Int) != r_4) (K true list_2 now_4 m_3) (K (((mapGet by_ (in_Host, in_Port) (0, 0)).2 : Int) != l_Nonce) list_2 now_4 m_3))) (K false list_2 now_4 m_3))
theorem gG_others_ok {b_1 b_2 : Nat} {p_1 : Option Addr} {c_1 b_3 : Nat} {p_2 : List MapEntry × Nat} {hd : Nat → Option Addr × Nat} {box box_1 box_2 box_3 box_4 box_5 box_6 : Int} {list : List (Option Nat)} {now : Int} {g_1 g_2 : Bool} {g_3 boot now_1 : Int} {by_ : BYX} {now_2 in_Host in_Port l_Ver l_Inside l_Port l_Secs l_Nonce l_Result l_Epoch l_Host : Int} {m_1 : SBX} {FL : List HP} {w : World} {K : Bool → List (Option Nat) → Int → SBX → Prop} {R : Value → World → Prop}
  (hM_by_ : RoM FL b_3 va25 va111 p_2 by_)
  (h : Mem (cel b_1 75 [Value.pointer (some (Addr.mk b_2 0 none)), Value.bool g_1, Value.bool g_2, Value.int .i64 g_3, Value.int .i64 boot, Value.int .i64 now_1, Value.map (some b_3)] :: cel b_2 71 [Value.int .u32 box, Value.int .i64 box_1, Value.int .i64 box_2, Value.int .i64 box_3, Value.int .i64 box_4, Value.int .i64 box_5, Value.int .i64 box_6, Value.slice p_1 list.length c_1, Value.int .i64 now] :: row enc82 82 1 p_1 c_1 list :: stoP stoE85 hd m_1 :: FL) w) (hp : gG_others_wp box box_1 box_2 box_3 box_4 box_5 box_6 list now g_1 g_2 g_3 boot now_1 by_ now_2 in_Host in_Port l_Ver l_Inside l_Port l_Secs l_Nonce l_Result l_Epoch l_Host m_1 K)
  (hR : ∀ (r : Bool) (list_1 : List (Option Nat)) (now_3 : Int) (m_2 : SBX) (p_3 : Option Addr) (n_1 c_2 : Nat) (hd_1 : Nat → Option Addr × Nat) (w : World), n_1 = list_1.length → Mem (cel b_1 75 [Value.pointer (some (Addr.mk b_2 0 none)), Value.bool g_1, Value.bool g_2, Value.int .i64 g_3, Value.int .i64 boot, Value.int .i64 now_1, Value.map (some b_3)] :: cel b_2 71 [Value.int .u32 box, Value.int .i64 box_1, Value.int .i64 box_2, Value.int .i64 box_3, Value.int .i64 box_4, Value.int .i64 box_5, Value.int .i64 box_6, Value.slice p_3 n_1 c_2, Value.int .i64 now_3] :: row enc82 82 1 p_3 c_2 list_1 :: stoP stoE85 hd_1 m_2 :: FL) w → K r list_1 now_3 m_2 → R (Value.bool r) w) :
  CallV Try.prog 58 #[Value.pointer (some (Addr.mk b_1 0 none)), Value.int .i64 now_2, (Value.agg #[Value.int .u32 in_Host, Value.int .i64 in_Port]), (Value.agg #[Value.int .i64 l_Ver, Value.int .i64 l_Inside, Value.int .i64 l_Port, Value.int .i64 l_Secs, Value.int .u64 l_Nonce, Value.int .i64 l_Result, Value.int .i64 l_Epoch, Value.int .u32 l_Host])] w R := by
  refine gG_others_call ?_
  unfold gG_others
  unfold gG_others_wp at hp
  have cpp_1 := rowCap h 2 rfl
  refine newL (o := [Value.int .u32 in_Host, Value.int .i64 in_Port]) h ?_
  intro b_4 w h
  refine newL (o := [Value.int .i64 l_Ver, Value.int .i64 l_Inside, Value.int .i64 l_Port, Value.int .i64 l_Secs, Value.int .u64 l_Nonce, Value.int .i64 l_Result, Value.int .i64 l_Epoch, Value.int .u32 l_Host]) h ?_
  intro b_5 w h
  refine ⟨_, cellL h 1 0 rfl rfl rfl, _, cellL h 1 1 rfl rfl rfl, ?_⟩
  replace h := h.pick [2, 2, 2, 2]
  dsimp only [pickL, pickR, nthH, delH, dropH, List.cons_append, List.nil_append] at h
  refine gG_asked_ok (FL := cel b_5 41 [Value.int .i64 l_Ver, Value.int .i64 l_Inside, Value.int .i64 l_Port, Value.int .i64 l_Secs, Value.int .u64 l_Nonce, Value.int .i64 l_Result, Value.int .i64 l_Epoch, Value.int .u32 l_Host] :: cel b_4 25 [Value.int .u32 in_Host, Value.int .i64 in_Port] :: FL) (hM_by_.mono (fun w h => (h.drop 2))) h hp ?_
  rintro r r_1 r_2 r_3 r_4 r_5 r_6 r_7 list_2 now_4 m_3 p_4 n_2 c_3 hd_2 w rfl h hp
  have cpp_4 := rowCap h 2 rfl
  refine ⟨_, _, _, _, _, _, _, _, rfl, ?_⟩
  refine ⟨_, _, _, _, _, _, _, rfl, ?_⟩
  refine newL (o := [Value.int .u32 0, Value.int .i64 0, Value.int .u32 0, Value.int .i64 0, Value.int .i64 0, Value.int .i64 0, Value.bool false]) h ?_
  intro b_6 w h
  refine storeL (ys := [Value.int .u32 r, Value.int .i64 r_1, Value.int .u32 r_2, Value.int .i64 r_3, Value.int .i64 r_4, Value.int .i64 r_5, Value.bool r_6]) h 0 0 rfl rfl rfl sz55 rfl rfl ?_
  intro w h
  dsimp only [setH, setVs, setV] at h
  replace h := h.drew
  refine ⟨fun w => Mem (cel b_1 75 [Value.pointer (some (Addr.mk b_2 0 none)), Value.bool g_1, Value.bool g_2, Value.int .i64 g_3, Value.int .i64 boot, Value.int .i64 now_1, Value.map (some b_3)] :: cel b_4 25 [Value.int .u32 in_Host, Value.int .i64 in_Port] :: FL) w, (h.sel [1, 5] 5), ?_⟩
  refine ⟨_, rfl, ?_⟩
  refine ⟨_, cellL h 1 6 rfl rfl rfl, ?_⟩
  refine ⟨?_, ?_⟩
  · intro w h
    change Mem _ _ at h
    refine ⟨_, cellL h 0 6 rfl rfl rfl, ?_⟩
    exact ⟨rfl, rfl⟩
  refine ⟨_, cellL h 6 0 rfl rfl rfl, _, cellL h 6 1 rfl rfl rfl, ?_⟩
  refine ⟨?_, ?_⟩
  · intro w h
    change Mem _ _ at h
    refine ⟨_, cellL h 1 0 rfl rfl rfl, _, cellL h 1 1 rfl rfl rfl, ?_⟩
    exact ⟨rfl, rfl⟩
  refine lookW2 (k := (in_Host, in_Port)) (d := (0, 0)) (hM_by_.map (h.drop 7)) mu73 kt25 (fun w => run_zeroValue zr111) ?_
  refine ⟨_, _, _, rfl, ?_⟩
  refine ⟨?_, ?_⟩
  · intro w h
    change Mem _ _ at h
    refine lookW2 (k := (in_Host, in_Port)) (d := (0, 0)) (hM_by_.map (h.drop 2)) mu73 kt25 (fun w => run_zeroValue zr111) ?_
    refine ⟨_, _, _, rfl, ?_⟩
    exact ⟨rfl, rfl⟩
  refine ⟨_, _, rfl, ?_⟩
  refine newL (o := [Value.int .i64 0, Value.int .u64 0]) h ?_
  intro b_7 w h
  refine ⟨(h.sel [2, 6] 6), ?_⟩
  refine storeL (ys := [Value.int .i64 (mapGet by_ (in_Host, in_Port) (0, 0)).1, Value.int .u64 (mapGet by_ (in_Host, in_Port) (0, 0)).2]) h 0 0 rfl rfl rfl sz111 rfl rfl ?_
  intro w h
  dsimp only [setH, setVs, setV] at h
  refine cond_both' hp (fun hp => ?_) (fun hp => ?_)
  · replace h := h.sel [2, 2, 2, 2] 4
    dsimp only [pickL, pickR, nthH, delH, dropH, List.cons_append, List.nil_append] at h
    exact hR false list_2 now_4 m_3 p_4 list_2.length c_3 hd_2 _ rfl h hp
  refine cond_both hp (fun hp => ?_) (fun hp => ?_)
  · replace h := h.sel [2, 2, 2, 2] 4
    dsimp only [pickL, pickR, nthH, delH, dropH, List.cons_append, List.nil_append] at h
    exact hR true list_2 now_4 m_3 p_4 list_2.length c_3 hd_2 _ rfl h hp
  refine ⟨_, cellL h 0 0 rfl rfl rfl, ?_⟩
  refine ⟨_, cellL h 1 4 rfl rfl rfl, ?_⟩
  refine cond_both hp (fun hp => ?_) (fun hp => ?_)
  · replace h := h.sel [2, 2, 2, 2] 4
    dsimp only [pickL, pickR, nthH, delH, dropH, List.cons_append, List.nil_append] at h
    exact hR true list_2 now_4 m_3 p_4 list_2.length c_3 hd_2 _ rfl h hp
  refine ⟨_, cellL h 0 1 rfl rfl rfl, ?_⟩
  refine ⟨_, cellL h 6 4 rfl rfl rfl, ?_⟩
  replace h := h.sel [2, 2, 2, 2] 4
  dsimp only [pickL, pickR, nthH, delH, dropH, List.cons_append, List.nil_append] at h
  exact hR (((mapGet by_ (in_Host, in_Port) (0, 0)).2 : Int) != l_Nonce) list_2 now_4 m_3 p_4 list_2.length c_3 hd_2 _ rfl h hp
def gG_pcp_wp (box box_1 box_2 box_3 box_4 box_5 box_6 : Int) (list : List (Option Nat)) (now : Int) (g_1 g_2 : Bool) (g_3 boot now_1 : Int) (by_ : BYX) (now_2 from_Host from_Port : Int) (b_4 : List (Int)) (m_1 : SBX) (K : List (Int) → List (Option Nat) → Int → BYX → SBX → Prop) : Prop :=
  gG_Epoch_wp box box_1 box_2 box_3 box_4 box_5 box_6 now g_1 g_2 g_3 boot now_1 by_ now_2 (fun (r : Int) => cond (!g_2) (pmp_Answer_wp 0 0 0 0 0 1 r 0 true (fun (rs : List (Int)) => K rs list now by_ m_1)) (pcp_ReadAsk_wp b_4 (fun (r_1 r_2 r_3 r_4 r_5 r_6 r_7 r_8 r_9 r_10 : Int) => cond (r_10 != 0) (K ([] : List (Int)) list now by_ m_1) (cond (r_9 != from_Host) (pcp_Answer_wp 2 r_2 0 0 r_5 12 r 0 (fun (rs_1 : List (Int)) => K rs_1 list now by_ m_1)) (gG_others_wp box box_1 box_2 box_3 box_4 box_5 box_6 list now g_1 g_2 g_3 boot now_1 by_ now_2 from_Host r_2 r_1 r_2 r_3 r_4 r_5 r_6 r_7 r_8 m_1 (fun (r_11 : Bool) (list_2 : List (Option Nat)) (now_4 : Int) (m_4 : SBX) => cond r_11 (pcp_Answer_wp 2 r_2 0 0 r_5 2 r 0 (fun (rs_2 : List (Int)) => K rs_2 list_2 now_4 by_ m_4)) (cond (r_4 == 0) (gG_drop_wp box box_1 box_2 box_3 box_4 box_5 box_6 list_2 now_4 g_1 g_2 g_3 boot now_1 by_ now_2 from_Host r_2 m_4 (fun (list_3 : List (Option Nat)) (now_5 : Int) (m_5 : BYX) => pcp_Answer_wp 2 r_2 0 0 r_5 0 r 0 (fun (rs_3 : List (Int)) => K rs_3 list_3 now_5 m_5 m_4))) (gG_grant_wp box box_1 box_2 box_3 box_4 box_5 box_6 list_2 now_4 g_1 g_2 g_3 boot now_1 by_ now_2 from_Host r_2 r_1 r_2 r_3 r_4 r_5 r_6 r_7 r_8 m_4 (fun (r_12 r_13 r_14 : Int) (list_4 : List (Option Nat)) (now_6 : Int) (m_6 : SBX) => joinP3 (fun (Result_ Host : Int) (m_7 : BYX) => pcp_Answer_wp 2 r_2 r_12 r_13 r_5 Result_ r Host (fun (rs_4 : List (Int)) => K rs_4 list_4 now_6 m_7 m_6)) (fun (Q : Int → Int → BYX → Prop) => cond (r_14 == 0) (nN_Box_wp box box_1 box_2 box_3 box_4 box_5 box_6 now_6 (fun (r_15 r_16 r_17 r_18 r_19 r_20 r_21 : Int) => Q 0 r_15 (mapPut by_ (from_Host, r_2) (r_12, r_5)))) (cond (r_14 == 10) (Q 8 0 by_) (Q 3 0 by_))))))))))))
theorem gG_pcp_ok {b_1 b_2 : Nat} {p_1 : Option Addr} {c_1 b_3 : Nat} {p_2 : List MapEntry × Nat} {p_3 : Option Addr} {n_1 c_2 : Nat} {hd : Nat → Option Addr × Nat} {box box_1 box_2 box_3 box_4 box_5 box_6 : Int} {list : List (Option Nat)} {now : Int} {g_1 g_2 : Bool} {g_3 boot now_1 : Int} {by_ : BYX} {now_2 from_Host from_Port : Int} {b_4 : List (Int)} {m_1 : SBX} {FL : List HP} {w : World} {K : List (Int) → List (Option Nat) → Int → BYX → SBX → Prop} {R : Value → World → Prop}
  (hF_b_4 : ∀ w, Mem FL w → Rd w 1 p_3 enc5 b_4) (hl_b_4 : n_1 = b_4.length) (hc_b_4 : n_1 ≤ c_2)
  (h : Mem (cel b_1 75 [Value.pointer (some (Addr.mk b_2 0 none)), Value.bool g_1, Value.bool g_2, Value.int .i64 g_3, Value.int .i64 boot, Value.int .i64 now_1, Value.map (some b_3)] :: cel b_2 71 [Value.int .u32 box, Value.int .i64 box_1, Value.int .i64 box_2, Value.int .i64 box_3, Value.int .i64 box_4, Value.int .i64 box_5, Value.int .i64 box_6, Value.slice p_1 list.length c_1, Value.int .i64 now] :: row enc82 82 1 p_1 c_1 list :: mapQ b_3 va25 va111 p_2 by_ :: stoP stoE85 hd m_1 :: FL) w) (hp : gG_pcp_wp box box_1 box_2 box_3 box_4 box_5 box_6 list now g_1 g_2 g_3 boot now_1 by_ now_2 from_Host from_Port b_4 m_1 K)
  (hR : ∀ (rs : List (Int)) (list_1 : List (Option Nat)) (now_3 : Int) (m_2 : BYX) (m_3 : SBX) (p_6 : Option Addr) (n_3 c_4 : Nat) (p_4 : Option Addr) (n_2 c_3 : Nat) (p_5 : List MapEntry × Nat) (hd_1 : Nat → Option Addr × Nat) (w : World), n_3 = rs.length → n_2 = list_1.length → Mem (row enc5 5 1 p_6 c_4 rs :: cel b_1 75 [Value.pointer (some (Addr.mk b_2 0 none)), Value.bool g_1, Value.bool g_2, Value.int .i64 g_3, Value.int .i64 boot, Value.int .i64 now_1, Value.map (some b_3)] :: cel b_2 71 [Value.int .u32 box, Value.int .i64 box_1, Value.int .i64 box_2, Value.int .i64 box_3, Value.int .i64 box_4, Value.int .i64 box_5, Value.int .i64 box_6, Value.slice p_4 n_2 c_3, Value.int .i64 now_3] :: row enc82 82 1 p_4 c_3 list_1 :: mapQ b_3 va25 va111 p_5 m_2 :: stoP stoE85 hd_1 m_3 :: FL) w → K rs list_1 now_3 m_2 m_3 → R (Value.slice p_6 n_3 c_4) w) :
  CallV Try.prog 29 #[Value.pointer (some (Addr.mk b_1 0 none)), Value.int .i64 now_2, (Value.agg #[Value.int .u32 from_Host, Value.int .i64 from_Port]), Value.slice p_3 n_1 c_2] w R := by
  refine gG_pcp_call ?_
  unfold gG_pcp
  unfold gG_pcp_wp at hp
  subst hl_b_4
  have cpp_1 := rowCap h 2 rfl
  refine newL (o := [Value.int .u32 from_Host, Value.int .i64 from_Port]) h ?_
  intro b_5 w h
  replace h := h.pick [1, 1]
  dsimp only [pickL, pickR, nthH, delH, dropH, List.cons_append, List.nil_append] at h
  have hMr_M_k1_6 := romOf (h.drop 2) 2 rfl
  refine gG_Epoch_ok (FL := cel b_5 25 [Value.int .u32 from_Host, Value.int .i64 from_Port] :: row enc82 82 1 p_1 c_1 list :: mapQ b_3 va25 va111 p_2 by_ :: stoP stoE85 hd m_1 :: FL) hMr_M_k1_6 h hp ?_
  intro r w h hp
  refine ⟨_, rfl, ?_⟩
  refine ⟨_, rfl, ?_⟩
  refine ⟨_, cellL h 0 2 rfl rfl rfl, ?_⟩
  refine cond_both hp (fun hp => ?_) (fun hp => ?_)
  · refine pmp_Answer_ok h hp ?_
    rintro rs p_6 n_3 c_4 w rfl h hp
    have cpp_6 := rowCap h 0 rfl
    refine ⟨_, _, _, rfl, ?_⟩
    replace h := h.sel [0, 0, 0, 1, 1, 1] 1
    dsimp only [pickL, pickR, nthH, delH, dropH, List.cons_append, List.nil_append] at h
    exact hR rs list now by_ m_1 p_6 rs.length c_4 p_1 list.length c_1 p_2 hd _ rfl rfl h hp
  refine pcp_ReadAsk_ok (FL := cel b_1 75 [Value.pointer (some (Addr.mk b_2 0 none)), Value.bool g_1, Value.bool g_2, Value.int .i64 g_3, Value.int .i64 boot, Value.int .i64 now_1, Value.map (some b_3)] :: cel b_2 71 [Value.int .u32 box, Value.int .i64 box_1, Value.int .i64 box_2, Value.int .i64 box_3, Value.int .i64 box_4, Value.int .i64 box_5, Value.int .i64 box_6, Value.slice p_1 list.length c_1, Value.int .i64 now] :: cel b_5 25 [Value.int .u32 from_Host, Value.int .i64 from_Port] :: row enc82 82 1 p_1 c_1 list :: mapQ b_3 va25 va111 p_2 by_ :: stoP stoE85 hd m_1 :: FL) (fun w h => (hF_b_4 _ (h.drop 6))) rfl hc_b_4 h hp ?_
  intro r_1 r_2 r_3 r_4 r_5 r_6 r_7 r_8 r_9 r_10 w h hp
  refine ⟨_, _, _, _, _, _, _, _, _, _, rfl, ?_⟩
  refine ⟨_, _, _, _, _, _, _, _, rfl, ?_⟩
  refine ⟨_, rfl, ?_⟩
  refine ⟨_, rfl, ?_⟩
  refine newL (o := [Value.int .i64 0, Value.int .i64 0, Value.int .i64 0, Value.int .i64 0, Value.int .u64 0, Value.int .i64 0, Value.int .i64 0, Value.int .u32 0]) h ?_
  intro b_6 w h
  refine storeL (ys := [Value.int .i64 r_1, Value.int .i64 r_2, Value.int .i64 r_3, Value.int .i64 r_4, Value.int .u64 r_5, Value.int .i64 r_6, Value.int .i64 r_7, Value.int .u32 r_8]) h 0 0 rfl rfl rfl sz41 rfl rfl ?_
  intro w h
  dsimp only [setH, setVs, setV] at h
  refine cond_both hp (fun hp => ?_) (fun hp => ?_)
  · replace h := rowNil enc5 5 1 h
    replace h := h.sel [0, 1, 1, 2, 2, 2] 2
    dsimp only [pickL, pickR, nthH, delH, dropH, List.cons_append, List.nil_append] at h
    exact hR ([] : List (Int)) list now by_ m_1 (none ) 0 0 p_1 list.length c_1 p_2 hd _ rfl rfl h hp
  refine ⟨_, cellL h 3 0 rfl rfl rfl, ?_⟩
  refine ⟨_, cellL h 0 1 rfl rfl rfl, ?_⟩
  refine newL (o := [Value.int .u32 0, Value.int .i64 0]) h ?_
  intro b_7 w h
  refine storeL (ys := [Value.int .u32 from_Host, Value.int .i64 r_2]) h 0 0 rfl rfl rfl sz25 rfl rfl ?_
  intro w h
  dsimp only [setH, setVs, setV] at h
  refine ⟨_, cellL h 1 1 rfl rfl rfl, ?_⟩
  refine ⟨_, cellL h 1 4 rfl rfl rfl, ?_⟩
  refine newL (o := [Value.int .i64 0, Value.int .i64 0, Value.int .i64 0, Value.int .i64 0, Value.int .u64 0, Value.int .i64 0, Value.int .i64 0, Value.int .u32 0]) h ?_
  intro b_8 w h
  refine storeL (ys := [Value.int .i64 2, Value.int .i64 r_2, Value.int .i64 0, Value.int .i64 0, Value.int .u64 r_5, Value.int .i64 0, Value.int .i64 r, Value.int .u32 0]) h 0 0 rfl rfl rfl sz41 rfl rfl ?_
  intro w h
  dsimp only [setH, setVs, setV] at h
  refine ⟨_, cellL h 5 0 rfl rfl rfl, ?_⟩
  refine cond_both hp (fun hp => ?_) (fun hp => ?_)
  · refine storeL (ys := [Value.int .i64 12]) h 0 5 rfl rfl rfl sz3 rfl rfl ?_
    intro w h
    dsimp only [setH, setVs, setV] at h
    refine ⟨_, cellL h 0 0 rfl rfl rfl, _, cellL h 0 1 rfl rfl rfl, _, cellL h 0 2 rfl rfl rfl, _, cellL h 0 3 rfl rfl rfl, _, cellL h 0 4 rfl rfl rfl, _, cellL h 0 5 rfl rfl rfl, _, cellL h 0 6 rfl rfl rfl, _, cellL h 0 7 rfl rfl rfl, ?_⟩
    refine pcp_Answer_ok h hp ?_
    rintro rs_1 p_8 n_4 c_5 w rfl h hp
    have cpp_8 := rowCap h 0 rfl
    refine ⟨_, _, _, rfl, ?_⟩
    replace h := h.sel [0, 3, 3, 4, 4, 4] 4
    dsimp only [pickL, pickR, nthH, delH, dropH, List.cons_append, List.nil_append] at h
    exact hR rs_1 list now by_ m_1 p_8 rs_1.length c_5 p_1 list.length c_1 p_2 hd _ rfl rfl h hp
  refine ⟨_, cellL h 1 0 rfl rfl rfl, _, cellL h 1 1 rfl rfl rfl, ?_⟩
  refine ⟨_, cellL h 2 0 rfl rfl rfl, _, cellL h 2 1 rfl rfl rfl, _, cellL h 2 2 rfl rfl rfl, _, cellL h 2 3 rfl rfl rfl, _, cellL h 2 4 rfl rfl rfl, _, cellL h 2 5 rfl rfl rfl, _, cellL h 2 6 rfl rfl rfl, _, cellL h 2 7 rfl rfl rfl, ?_⟩
  replace h := h.pick [3, 3, 4, 5]
  dsimp only [pickL, pickR, nthH, delH, dropH, List.cons_append, List.nil_append] at h
  have hMr_M_k1_6 := romOf (h.drop 4) 4 rfl
  refine gG_others_ok (FL := cel b_8 41 [Value.int .i64 2, Value.int .i64 r_2, Value.int .i64 0, Value.int .i64 0, Value.int .u64 r_5, Value.int .i64 0, Value.int .i64 r, Value.int .u32 0] :: cel b_7 25 [Value.int .u32 from_Host, Value.int .i64 r_2] :: cel b_6 41 [Value.int .i64 r_1, Value.int .i64 r_2, Value.int .i64 r_3, Value.int .i64 r_4, Value.int .u64 r_5, Value.int .i64 r_6, Value.int .i64 r_7, Value.int .u32 r_8] :: cel b_5 25 [Value.int .u32 from_Host, Value.int .i64 from_Port] :: mapQ b_3 va25 va111 p_2 by_ :: FL) hMr_M_k1_6 h hp ?_
  rintro r_11 list_2 now_4 m_4 p_9 n_5 c_6 hd_2 w rfl h hp
  have cpp_9 := rowCap h 2 rfl
  refine ⟨_, rfl, ?_⟩
  refine cond_both hp (fun hp => ?_) (fun hp => ?_)
  · refine storeL (ys := [Value.int .i64 2]) h 4 5 rfl rfl rfl sz3 rfl rfl ?_
    intro w h
    dsimp only [setH, setVs, setV] at h
    refine ⟨_, cellL h 4 0 rfl rfl rfl, _, cellL h 4 1 rfl rfl rfl, _, cellL h 4 2 rfl rfl rfl, _, cellL h 4 3 rfl rfl rfl, _, cellL h 4 4 rfl rfl rfl, _, cellL h 4 5 rfl rfl rfl, _, cellL h 4 6 rfl rfl rfl, _, cellL h 4 7 rfl rfl rfl, ?_⟩
    refine pcp_Answer_ok h hp ?_
    rintro rs_2 p_10 n_6 c_7 w rfl h hp
    have cpp_10 := rowCap h 0 rfl
    refine ⟨_, _, _, rfl, ?_⟩
    replace h := h.sel [0, 0, 0, 0, 5, 0] 4
    dsimp only [pickL, pickR, nthH, delH, dropH, List.cons_append, List.nil_append] at h
    exact hR rs_2 list_2 now_4 by_ m_4 p_10 rs_2.length c_7 p_9 list_2.length c_6 p_2 hd_2 _ rfl rfl h hp
  refine ⟨_, cellL h 6 3 rfl rfl rfl, ?_⟩
  refine cond_both hp (fun hp => ?_) (fun hp => ?_)
  · refine ⟨_, cellL h 5 0 rfl rfl rfl, _, cellL h 5 1 rfl rfl rfl, ?_⟩
    replace h := h.pick [0, 0, 0, 5, 0]
    dsimp only [pickL, pickR, nthH, delH, dropH, List.cons_append, List.nil_append] at h
    refine gG_drop_ok h hp ?_
    rintro list_3 now_5 m_5 p_11 n_7 c_8 p_12 w rfl h hp
    have cpp_11 := rowCap h 2 rfl
    refine ⟨rfl, ?_⟩
    refine ⟨_, cellL h 5 0 rfl rfl rfl, _, cellL h 5 1 rfl rfl rfl, _, cellL h 5 2 rfl rfl rfl, _, cellL h 5 3 rfl rfl rfl, _, cellL h 5 4 rfl rfl rfl, _, cellL h 5 5 rfl rfl rfl, _, cellL h 5 6 rfl rfl rfl, _, cellL h 5 7 rfl rfl rfl, ?_⟩
    refine pcp_Answer_ok h hp ?_
    rintro rs_3 p_13 n_8 c_9 w rfl h hp
    have cpp_13 := rowCap h 0 rfl
    refine ⟨_, _, _, rfl, ?_⟩
    replace h := h.sel [0, 0, 0, 0, 0, 0] 4
    dsimp only [pickL, pickR, nthH, delH, dropH, List.cons_append, List.nil_append] at h
    exact hR rs_3 list_3 now_5 m_5 m_4 p_13 rs_3.length c_9 p_11 list_3.length c_8 p_12 hd_2 _ rfl rfl h hp
  refine ⟨_, cellL h 5 0 rfl rfl rfl, _, cellL h 5 1 rfl rfl rfl, ?_⟩
  refine ⟨_, cellL h 6 0 rfl rfl rfl, _, cellL h 6 1 rfl rfl rfl, _, cellL h 6 2 rfl rfl rfl, _, cellL h 6 3 rfl rfl rfl, _, cellL h 6 4 rfl rfl rfl, _, cellL h 6 5 rfl rfl rfl, _, cellL h 6 6 rfl rfl rfl, _, cellL h 6 7 rfl rfl rfl, ?_⟩
  have hMr_M_k1_6 := romOf (h.drop 4) 4 rfl
  refine gG_grant_ok (FL := cel b_8 41 [Value.int .i64 2, Value.int .i64 r_2, Value.int .i64 0, Value.int .i64 0, Value.int .u64 r_5, Value.int .i64 0, Value.int .i64 r, Value.int .u32 0] :: cel b_7 25 [Value.int .u32 from_Host, Value.int .i64 r_2] :: cel b_6 41 [Value.int .i64 r_1, Value.int .i64 r_2, Value.int .i64 r_3, Value.int .i64 r_4, Value.int .u64 r_5, Value.int .i64 r_6, Value.int .i64 r_7, Value.int .u32 r_8] :: cel b_5 25 [Value.int .u32 from_Host, Value.int .i64 from_Port] :: mapQ b_3 va25 va111 p_2 by_ :: FL) hMr_M_k1_6 h hp ?_
  rintro r_12 r_13 r_14 list_4 now_6 m_6 p_14 n_9 c_10 hd_3 w rfl h hp
  have cpp_14 := rowCap h 2 rfl
  refine ⟨_, _, _, rfl, ?_⟩
  refine ⟨_, rfl, ?_⟩
  refine ⟨_, rfl, ?_⟩
  refine ⟨_, rfl, ?_⟩
  refine storeL (ys := [Value.int .i64 r_12]) h 4 2 rfl rfl rfl sz3 rfl rfl ?_
  intro w h
  dsimp only [setH, setVs, setV] at h
  refine storeL (ys := [Value.int .i64 r_13]) h 4 3 rfl rfl rfl sz3 rfl rfl ?_
  intro w h
  dsimp only [setH, setVs, setV] at h
  obtain ⟨Q, hq, hp⟩ := hp
  refine ⟨fun out14 w => ∃ (Result_ : Int), ∃ (Host : Int), ∃ (m_7 : BYX), ∃ (p_15 : List MapEntry × Nat), (Addr.mk b_8 0 none) = out14 ∧ Q Result_ Host m_7 ∧ Mem (cel b_1 75 [Value.pointer (some (Addr.mk b_2 0 none)), Value.bool g_1, Value.bool g_2, Value.int .i64 g_3, Value.int .i64 boot, Value.int .i64 now_1, Value.map (some b_3)] :: cel b_2 71 [Value.int .u32 box, Value.int .i64 box_1, Value.int .i64 box_2, Value.int .i64 box_3, Value.int .i64 box_4, Value.int .i64 box_5, Value.int .i64 box_6, Value.slice p_14 list_4.length c_10, Value.int .i64 now_6] :: row enc82 82 1 p_14 c_10 list_4 :: cel b_8 41 [Value.int .i64 2, Value.int .i64 r_2, Value.int .i64 r_12, Value.int .i64 r_13, Value.int .u64 r_5, Value.int .i64 Result_, Value.int .i64 r, Value.int .u32 Host] :: cel b_7 25 [Value.int .u32 from_Host, Value.int .i64 r_2] :: cel b_6 41 [Value.int .i64 r_1, Value.int .i64 r_2, Value.int .i64 r_3, Value.int .i64 r_4, Value.int .u64 r_5, Value.int .i64 r_6, Value.int .i64 r_7, Value.int .u32 r_8] :: cel b_5 25 [Value.int .u32 from_Host, Value.int .i64 from_Port] :: stoP stoE85 hd_3 m_6 :: mapQ b_3 va25 va111 p_15 m_7 :: FL) w, ?_, ?_⟩
  · rintro out14 w ⟨Result_, Host, m_7, p_15, rfl, hp, h⟩
    replace hp := hq Result_ Host m_7 hp
    unfold gG_pcp_j1
    refine ⟨_, cellL h 3 0 rfl rfl rfl, _, cellL h 3 1 rfl rfl rfl, _, cellL h 3 2 rfl rfl rfl, _, cellL h 3 3 rfl rfl rfl, _, cellL h 3 4 rfl rfl rfl, _, cellL h 3 5 rfl rfl rfl, _, cellL h 3 6 rfl rfl rfl, _, cellL h 3 7 rfl rfl rfl, ?_⟩
    refine pcp_Answer_ok h hp ?_
    rintro rs_4 p_17 n_10 c_11 w rfl h hp
    have cpp_17 := rowCap h 0 rfl
    refine ⟨_, _, _, rfl, ?_⟩
    replace h := h.sel [0, 0, 0, 0, 5, 4] 4
    dsimp only [pickL, pickR, nthH, delH, dropH, List.cons_append, List.nil_append] at h
    exact hR rs_4 list_4 now_6 m_7 m_6 p_17 rs_4.length c_11 p_14 list_4.length c_10 p_15 hd_3 _ rfl rfl h hp
  clear hq
  refine cond_both' hp (fun hp => ?_) (fun hp => ?_)
  · refine cond_both hp (fun hp => ?_) (fun hp => ?_)
    · refine storeL (ys := [Value.int .i64 8]) h 4 5 rfl rfl rfl sz3 rfl rfl ?_
      intro w h
      dsimp only [setH, setVs, setV] at h
      replace h := h.sel [0, 0, 0, 1, 1, 1, 1, 0, 0] 0
      dsimp only [pickL, pickR, nthH, delH, dropH, List.cons_append, List.nil_append] at h
      exact ⟨8, 0, by_, p_2, rfl, hp, h⟩
    refine storeL (ys := [Value.int .i64 3]) h 4 5 rfl rfl rfl sz3 rfl rfl ?_
    intro w h
    dsimp only [setH, setVs, setV] at h
    replace h := h.sel [0, 0, 0, 1, 1, 1, 1, 0, 0] 0
    dsimp only [pickL, pickR, nthH, delH, dropH, List.cons_append, List.nil_append] at h
    exact ⟨3, 0, by_, p_2, rfl, hp, h⟩
  replace h := h.drew
  refine ⟨_, rfl, ?_⟩
  refine ⟨_, cellL h 0 6 rfl rfl rfl, ?_⟩
  refine ⟨_, cellL h 5 0 rfl rfl rfl, _, cellL h 5 1 rfl rfl rfl, ?_⟩
  refine ⟨_, cellL h 4 2 rfl rfl rfl, ?_⟩
  refine ⟨_, cellL h 6 4 rfl rfl rfl, ?_⟩
  refine mapPutG (k := (from_Host, r_2)) (v := (r_12, r_5)) h 8 rfl mu73 kt25 ?_
  intro p_16 w h
  dsimp only [setH, setVs, setV] at h
  refine ⟨_, rfl, ?_⟩
  refine ⟨_, cellL h 0 0 rfl rfl rfl, ?_⟩
  replace h := h.pick [1]
  dsimp only [pickL, pickR, nthH, delH, dropH, List.cons_append, List.nil_append] at h
  refine nN_Box_ok h hp ?_
  intro r_15 r_16 r_17 r_18 r_19 r_20 r_21 w h hp
  refine ⟨_, _, _, _, _, _, _, rfl, ?_⟩
  refine storeL (ys := [Value.int .u32 r_15]) h 4 7 rfl rfl rfl sz23 rfl rfl ?_
  intro w h
  dsimp only [setH, setVs, setV] at h
  replace h := h.sel [1, 0, 0, 1, 1, 1, 1, 0, 0] 0
  dsimp only [pickL, pickR, nthH, delH, dropH, List.cons_append, List.nil_append] at h
  exact ⟨0, r_15, (mapPut by_ (from_Host, r_2) (r_12, r_5)), p_16, rfl, hp, h⟩
def pcp_Version_wp (b_1 : List (Int)) (K : Int → Prop) : Prop :=
  cond ((((b_1.length : Nat) : Int) : Int) == 0) (K (-1)) (0 ≤ (0 : Int) ∧ (0 : Int) < ((b_1.length : Nat) : Int) ∧ (∀ (x_1 : Int), b_1[Int.toNat 0]? = some x_1 → (K (IntKind.wrap .i64 x_1))))
theorem pcp_Version_ok {p_1 : Option Addr} {n_1 c_1 : Nat} {b_1 : List (Int)} {FL : List HP} {w : World} {K : Int → Prop} {R : Value → World → Prop}
  (hF_b_1 : ∀ w, Mem FL w → Rd w 1 p_1 enc5 b_1) (hl_b_1 : n_1 = b_1.length) (hc_b_1 : n_1 ≤ c_1)
  (h : Mem (FL) w) (hp : pcp_Version_wp b_1 K)
  (hR : ∀ (r : Int) (w : World), Mem (FL) w → K r → R (Value.int .i64 r) w) :
  CallV Try.prog 30 #[Value.slice p_1 n_1 c_1] w R := by
  refine pcp_Version_call ?_
  unfold pcp_Version
  unfold pcp_Version_wp at hp
  subst hl_b_1
  refine cond_both hp (fun hp => ?_) (fun hp => ?_)
  · exact hR (-1) _ h hp
  obtain ⟨ia_1, ja_1, hp⟩ := hp
  obtain ⟨a_1, ha_1⟩ := rdAddr (hF_b_1 _ (h.drop 0)) rfl ia_1 ja_1
  refine ⟨a_1, ha_1, ia_1, ja_1, ?_⟩
  obtain ⟨x_1, hx_1, hc⟩ := rdCell0 (hF_b_1 _ (h.drop 0)) ha_1 rfl ia_1 ja_1
  replace hp := hp x_1 hx_1
  refine ⟨_, hc _ rfl, ?_⟩
  exact hR (IntKind.wrap .i64 x_1) _ h hp
def gG_Hear_wp (box box_1 box_2 box_3 box_4 box_5 box_6 : Int) (list : List (Option Nat)) (now : Int) (g_1 g_2 : Bool) (g_3 boot now_1 : Int) (by_ : BYX) (now_2 from_Host from_Port : Int) (b_4 : List (Int)) (m_1 : SBX) (K : List (Int) → Int → List (Option Nat) → Int → BYX → SBX → Prop) : Prop :=
  joinP0 (pcp_Version_wp b_4 (fun (r_2 : Int) => cond (r_2 == 0) (gG_pmp_wp box box_1 box_2 box_3 box_4 box_5 box_6 list now g_1 g_2 g_3 boot now_2 by_ now_2 from_Host from_Port b_4 m_1 (fun (rs_1 : List (Int)) (list_3 : List (Option Nat)) (now_6 : Int) (m_6 : BYX) (m_7 : SBX) => K rs_1 now_2 list_3 now_6 m_6 m_7)) (cond (r_2 == 2) (gG_pcp_wp box box_1 box_2 box_3 box_4 box_5 box_6 list now g_1 g_2 g_3 boot now_2 by_ now_2 from_Host from_Port b_4 m_1 (fun (rs : List (Int)) (list_2 : List (Option Nat)) (now_5 : Int) (m_4 : BYX) (m_5 : SBX) => K rs now_2 list_2 now_5 m_4 m_5)) (K ([] : List (Int)) now_2 list now by_ m_1)))) (fun (Q : Prop) => joinP1 (fun (t43 : Bool) => cond t43 (K ([] : List (Int)) now_1 list now by_ m_1) (Q )) (fun (Q_1 : Bool → Prop) => addr_May_wp from_Host from_Port (fun (r : Bool) => cond (!r) (Q_1 true) (gate_mayTime_wp now_2 (fun (r_1 : Bool) => cond (!r_1) (Q_1 true) (cond (decide (now_2 < now_1)) (Q_1 true) (cond (!g_1) (Q_1 (!g_2)) (Q_1 false))))))))
theorem gG_Hear_ok {b_1 b_2 : Nat} {p_1 : Option Addr} {c_1 b_3 : Nat} {p_2 : List MapEntry × Nat} {p_3 : Option Addr} {n_1 c_2 : Nat} {hd : Nat → Option Addr × Nat} {box box_1 box_2 box_3 box_4 box_5 box_6 : Int} {list : List (Option Nat)} {now : Int} {g_1 g_2 : Bool} {g_3 boot now_1 : Int} {by_ : BYX} {now_2 from_Host from_Port : Int} {b_4 : List (Int)} {m_1 : SBX} {FL : List HP} {w : World} {K : List (Int) → Int → List (Option Nat) → Int → BYX → SBX → Prop} {R : Value → World → Prop}
  (hF_b_4 : ∀ w, Mem FL w → Rd w 1 p_3 enc5 b_4) (hl_b_4 : n_1 = b_4.length) (hc_b_4 : n_1 ≤ c_2)
  (h : Mem (cel b_1 75 [Value.pointer (some (Addr.mk b_2 0 none)), Value.bool g_1, Value.bool g_2, Value.int .i64 g_3, Value.int .i64 boot, Value.int .i64 now_1, Value.map (some b_3)] :: cel b_2 71 [Value.int .u32 box, Value.int .i64 box_1, Value.int .i64 box_2, Value.int .i64 box_3, Value.int .i64 box_4, Value.int .i64 box_5, Value.int .i64 box_6, Value.slice p_1 list.length c_1, Value.int .i64 now] :: row enc82 82 1 p_1 c_1 list :: mapQ b_3 va25 va111 p_2 by_ :: stoP stoE85 hd m_1 :: FL) w) (hp : gG_Hear_wp box box_1 box_2 box_3 box_4 box_5 box_6 list now g_1 g_2 g_3 boot now_1 by_ now_2 from_Host from_Port b_4 m_1 K)
  (hR : ∀ (rs : List (Int)) (now_3 : Int) (list_1 : List (Option Nat)) (now_4 : Int) (m_2 : BYX) (m_3 : SBX) (p_6 : Option Addr) (n_3 c_4 : Nat) (p_4 : Option Addr) (n_2 c_3 : Nat) (p_5 : List MapEntry × Nat) (hd_1 : Nat → Option Addr × Nat) (w : World), n_3 = rs.length → n_2 = list_1.length → Mem (row enc5 5 1 p_6 c_4 rs :: cel b_1 75 [Value.pointer (some (Addr.mk b_2 0 none)), Value.bool g_1, Value.bool g_2, Value.int .i64 g_3, Value.int .i64 boot, Value.int .i64 now_3, Value.map (some b_3)] :: cel b_2 71 [Value.int .u32 box, Value.int .i64 box_1, Value.int .i64 box_2, Value.int .i64 box_3, Value.int .i64 box_4, Value.int .i64 box_5, Value.int .i64 box_6, Value.slice p_4 n_2 c_3, Value.int .i64 now_4] :: row enc82 82 1 p_4 c_3 list_1 :: mapQ b_3 va25 va111 p_5 m_2 :: stoP stoE85 hd_1 m_3 :: FL) w → K rs now_3 list_1 now_4 m_2 m_3 → R (Value.slice p_6 n_3 c_4) w) :
  CallV Try.prog 12 #[Value.pointer (some (Addr.mk b_1 0 none)), Value.int .i64 now_2, (Value.agg #[Value.int .u32 from_Host, Value.int .i64 from_Port]), Value.slice p_3 n_1 c_2] w R := by
  refine gG_Hear_call ?_
  unfold gG_Hear
  unfold gG_Hear_wp at hp
  subst hl_b_4
  have cpp_1 := rowCap h 2 rfl
  refine newL (o := [Value.int .u32 from_Host, Value.int .i64 from_Port]) h ?_
  intro b_5 w h
  obtain ⟨Q, hq, hp⟩ := hp
  refine ⟨fun g0 now1 b3p b3l b3c from6 w => (some (Addr.mk b_1 0 none)) = g0 ∧ now_2 = now1 ∧ p_3 = b3p ∧ b_4.length = b3l ∧ c_2 = b3c ∧ (Addr.mk b_5 0 none) = from6 ∧ Q ∧ Mem (cel b_5 25 [Value.int .u32 from_Host, Value.int .i64 from_Port] :: cel b_1 75 [Value.pointer (some (Addr.mk b_2 0 none)), Value.bool g_1, Value.bool g_2, Value.int .i64 g_3, Value.int .i64 boot, Value.int .i64 now_1, Value.map (some b_3)] :: cel b_2 71 [Value.int .u32 box, Value.int .i64 box_1, Value.int .i64 box_2, Value.int .i64 box_3, Value.int .i64 box_4, Value.int .i64 box_5, Value.int .i64 box_6, Value.slice p_1 list.length c_1, Value.int .i64 now] :: row enc82 82 1 p_1 c_1 list :: mapQ b_3 va25 va111 p_2 by_ :: stoP stoE85 hd m_1 :: FL) w, ?_, ?_⟩
  · rintro g0 now1 b3p b3l b3c from6 w ⟨rfl, rfl, rfl, rfl, rfl, rfl, hp, h⟩
    replace hp := hq  hp
    unfold gG_Hear_j1
    refine ⟨_, rfl, ?_⟩
    refine storeL (ys := [Value.int .i64 now_2]) h 1 5 rfl rfl rfl sz3 rfl rfl ?_
    intro w h
    dsimp only [setH, setVs, setV] at h
    refine makeMapL (ek := va3) (ev := fun v : Value => v) h ?_
    intro b_6 p_7 w h
    refine ⟨_, rfl, ?_⟩
    refine mapPutG (ek := va3) (ev := fun v : Value => v) (k := 0) (v := (Value.func (Fn.func 28) #[Value.pointer (some (Addr.mk b_1 0 none))] #[])) h 0 rfl mu80 kt3 ?_
    intro p_8 w h
    dsimp only [setH, setVs, setV] at h
    refine mapPutG (ek := va3) (ev := fun v : Value => v) (k := 2) (v := (Value.func (Fn.func 29) #[Value.pointer (some (Addr.mk b_1 0 none))] #[])) h 0 rfl mu80 kt3 ?_
    intro p_9 w h
    dsimp only [setH, setVs, setV] at h
    refine pcp_Version_ok (FL := mapQ b_6 va3 (fun v : Value => v) p_9 (mapPut (mapPut ([] : List (Int × Value)) 0 (Value.func (Fn.func 28) #[Value.pointer (some (Addr.mk b_1 0 none))] #[])) 2 (Value.func (Fn.func 29) #[Value.pointer (some (Addr.mk b_1 0 none))] #[])) :: cel b_5 25 [Value.int .u32 from_Host, Value.int .i64 from_Port] :: cel b_1 75 [Value.pointer (some (Addr.mk b_2 0 none)), Value.bool g_1, Value.bool g_2, Value.int .i64 g_3, Value.int .i64 boot, Value.int .i64 now_2, Value.map (some b_3)] :: cel b_2 71 [Value.int .u32 box, Value.int .i64 box_1, Value.int .i64 box_2, Value.int .i64 box_3, Value.int .i64 box_4, Value.int .i64 box_5, Value.int .i64 box_6, Value.slice p_1 list.length c_1, Value.int .i64 now] :: row enc82 82 1 p_1 c_1 list :: mapQ b_3 va25 va111 p_2 by_ :: stoP stoE85 hd m_1 :: FL) (fun w h => (hF_b_4 _ (h.drop 7))) rfl hc_b_4 h hp ?_
    intro r_2 w h hp
    refine ⟨_, rfl, ?_⟩
    by_cases hkk0 : (r_2 : Int) = 0
    · replace hp := condPos hkk0 hp
      refine lookF (ek := va3) (k := r_2) (v := (Value.func (Fn.func 28) #[Value.pointer (some (Addr.mk b_1 0 none))] #[])) (ok := true) (mapAt h 0 rfl) mu80 kt3 (fun w => run_zeroValue zr44) (by rw [hkk0]; rfl) (by rw [hkk0]; rfl) ?_
      refine ⟨_, _, rfl, ?_⟩
      refine cond_ff ?_
      refine ⟨_, cellL h 1 0 rfl rfl rfl, _, cellL h 1 1 rfl rfl rfl, ?_⟩
      replace h := h.pick [2, 2, 2, 2, 2]
      dsimp only [pickL, pickR, nthH, delH, dropH, List.cons_append, List.nil_append] at h
      refine gG_pmp_ok (FL := mapQ b_6 va3 (fun v : Value => v) p_9 (mapPut (mapPut ([] : List (Int × Value)) 0 (Value.func (Fn.func 28) #[Value.pointer (some (Addr.mk b_1 0 none))] #[])) 2 (Value.func (Fn.func 29) #[Value.pointer (some (Addr.mk b_1 0 none))] #[])) :: cel b_5 25 [Value.int .u32 from_Host, Value.int .i64 from_Port] :: FL) (fun w h => (hF_b_4 _ (h.drop 2))) rfl hc_b_4 h hp ?_
      rintro rs_1 list_3 now_6 m_6 m_7 p_14 n_5 c_6 p_15 n_6 c_7 p_16 hd_3 w rfl rfl h hp
      have cpp_14 := rowCap h 0 rfl
      have cpp_15 := rowCap h 3 rfl
      refine ⟨_, _, _, rfl, ?_⟩
      replace h := h.sel [0, 0, 0, 0, 0, 0] 2
      dsimp only [pickL, pickR, nthH, delH, dropH, List.cons_append, List.nil_append] at h
      exact hR rs_1 now_2 list_3 now_6 m_6 m_7 p_14 rs_1.length c_6 p_15 list_3.length c_7 p_16 hd_3 _ rfl rfl h hp
    replace hp := condNeg hkk0 hp
    by_cases hkk1 : (r_2 : Int) = 2
    · replace hp := condPos hkk1 hp
      refine lookF (ek := va3) (k := r_2) (v := (Value.func (Fn.func 29) #[Value.pointer (some (Addr.mk b_1 0 none))] #[])) (ok := true) (mapAt h 0 rfl) mu80 kt3 (fun w => run_zeroValue zr44) (by rw [hkk1]; rfl) (by rw [hkk1]; rfl) ?_
      refine ⟨_, _, rfl, ?_⟩
      refine cond_ff ?_
      refine ⟨_, cellL h 1 0 rfl rfl rfl, _, cellL h 1 1 rfl rfl rfl, ?_⟩
      replace h := h.pick [2, 2, 2, 2, 2]
      dsimp only [pickL, pickR, nthH, delH, dropH, List.cons_append, List.nil_append] at h
      refine gG_pcp_ok (FL := mapQ b_6 va3 (fun v : Value => v) p_9 (mapPut (mapPut ([] : List (Int × Value)) 0 (Value.func (Fn.func 28) #[Value.pointer (some (Addr.mk b_1 0 none))] #[])) 2 (Value.func (Fn.func 29) #[Value.pointer (some (Addr.mk b_1 0 none))] #[])) :: cel b_5 25 [Value.int .u32 from_Host, Value.int .i64 from_Port] :: FL) (fun w h => (hF_b_4 _ (h.drop 2))) rfl hc_b_4 h hp ?_
      rintro rs list_2 now_5 m_4 m_5 p_11 n_3 c_4 p_12 n_4 c_5 p_13 hd_2 w rfl rfl h hp
      have cpp_11 := rowCap h 0 rfl
      have cpp_12 := rowCap h 3 rfl
      refine ⟨_, _, _, rfl, ?_⟩
      replace h := h.sel [0, 0, 0, 0, 0, 0] 2
      dsimp only [pickL, pickR, nthH, delH, dropH, List.cons_append, List.nil_append] at h
      exact hR rs now_2 list_2 now_5 m_4 m_5 p_11 rs.length c_4 p_12 list_2.length c_5 p_13 hd_2 _ rfl rfl h hp
    replace hp := condNeg hkk1 hp
    refine lookF (ek := va3) (k := r_2) (v := Value.nilFunc) (ok := false) (mapAt h 0 rfl) mu80 kt3 (fun w => run_zeroValue zr44) (by simp [mapGet, mapPut, mapI, List.findIdx?_cons, hkk0, hkk1]) (by simp [mapHas, mapPut, mapI, List.findIdx?_cons, hkk0, hkk1]) ?_
    refine ⟨_, _, rfl, ?_⟩
    refine cond_tt ?_
    replace h := rowNil enc5 5 1 h
    replace h := h.sel [0, 2, 2, 2, 2, 2] 2
    dsimp only [pickL, pickR, nthH, delH, dropH, List.cons_append, List.nil_append] at h
    exact hR ([] : List (Int)) now_2 list now by_ m_1 (none  ) 0 0 p_1 list.length c_1 p_2 hd _ rfl rfl h hp
  clear hq
  obtain ⟨Q_1, hq, hp⟩ := hp
  refine ⟨fun g0_1 now1_1 b3_1p b3_1l b3_1c from6_1 t43 w => (some (Addr.mk b_1 0 none)) = g0_1 ∧ now_2 = now1_1 ∧ p_3 = b3_1p ∧ b_4.length = b3_1l ∧ c_2 = b3_1c ∧ (Addr.mk b_5 0 none) = from6_1 ∧ Q_1 t43 ∧ Mem (cel b_5 25 [Value.int .u32 from_Host, Value.int .i64 from_Port] :: cel b_1 75 [Value.pointer (some (Addr.mk b_2 0 none)), Value.bool g_1, Value.bool g_2, Value.int .i64 g_3, Value.int .i64 boot, Value.int .i64 now_1, Value.map (some b_3)] :: cel b_2 71 [Value.int .u32 box, Value.int .i64 box_1, Value.int .i64 box_2, Value.int .i64 box_3, Value.int .i64 box_4, Value.int .i64 box_5, Value.int .i64 box_6, Value.slice p_1 list.length c_1, Value.int .i64 now] :: row enc82 82 1 p_1 c_1 list :: mapQ b_3 va25 va111 p_2 by_ :: stoP stoE85 hd m_1 :: FL) w, ?_, ?_⟩
  · rintro g0_1 now1_1 b3_1p b3_1l b3_1c from6_1 t43 w ⟨rfl, rfl, rfl, rfl, rfl, rfl, hp, h⟩
    replace hp := hq t43 hp
    unfold gG_Hear_j2
    refine cond_both' hp (fun hp => ?_) (fun hp => ?_)
    · exact ⟨rfl, rfl, rfl, rfl, rfl, rfl, hp, h⟩
    replace h := rowNil enc5 5 1 h
    replace h := h.sel [0, 1, 1, 1, 1, 1] 1
    dsimp only [pickL, pickR, nthH, delH, dropH, List.cons_append, List.nil_append] at h
    exact hR ([] : List (Int)) now_1 list now by_ m_1 (none ) 0 0 p_1 list.length c_1 p_2 hd _ rfl rfl h hp
  clear hq
  refine ⟨_, cellL h 0 0 rfl rfl rfl, _, cellL h 0 1 rfl rfl rfl, ?_⟩
  refine addr_May_ok h hp ?_
  intro r w h hp
  refine ⟨_, rfl, ?_⟩
  refine cond_both hp (fun hp => ?_) (fun hp => ?_)
  · exact ⟨rfl, rfl, rfl, rfl, rfl, rfl, hp, h⟩
  refine gate_mayTime_ok h hp ?_
  intro r_1 w h hp
  refine ⟨_, rfl, ?_⟩
  refine cond_both hp (fun hp => ?_) (fun hp => ?_)
  · exact ⟨rfl, rfl, rfl, rfl, rfl, rfl, hp, h⟩
  refine ⟨_, rfl, ?_⟩
  refine ⟨_, cellL h 1 5 rfl rfl rfl, ?_⟩
  refine cond_both hp (fun hp => ?_) (fun hp => ?_)
  · exact ⟨rfl, rfl, rfl, rfl, rfl, rfl, hp, h⟩
  refine ⟨_, rfl, ?_⟩
  refine ⟨_, cellL h 1 1 rfl rfl rfl, ?_⟩
  refine cond_both' hp (fun hp => ?_) (fun hp => ?_)
  · exact ⟨rfl, rfl, rfl, rfl, rfl, rfl, hp, h⟩
  refine ⟨_, rfl, ?_⟩
  refine ⟨_, cellL h 1 2 rfl rfl rfl, ?_⟩
  exact ⟨rfl, rfl, rfl, rfl, rfl, rfl, hp, h⟩
def pmp_ReadAnswer_c1_wp (host : Bool) (t : List (Int)) (K : Int → Int → Int → Int → Int → Int → Int → Int → Prop) : Prop :=
  joinP8 (fun (Ver Inside Port Secs Nonce Result_ Epoch Host : Int) => joinP4 (fun (Inside_1 Port_1 Secs_1 Host_1 : Int) => K Ver Inside_1 Port_1 Secs_1 Nonce Result_ Epoch Host_1) (fun (Q_1 : Int → Int → Int → Int → Prop) => cond host (0 ≤ (12 : Int) ∧ (12 : Int) ≤ ((t.length : Nat) : Int) ∧ 0 ≤ (8 : Int) ∧ (8 : Int) ≤ (12 : Int) ∧ (pmp_get_wp ((t.take (Int.toNat 12)).drop (Int.toNat 8)) (fun (r_5 : Int) => Q_1 Inside Port Secs (IntKind.wrap .u32 r_5)))) (0 ≤ (10 : Int) ∧ (10 : Int) ≤ ((t.length : Nat) : Int) ∧ 0 ≤ (8 : Int) ∧ (8 : Int) ≤ (10 : Int) ∧ (0 ≤ (12 : Int) ∧ (12 : Int) ≤ ((t.length : Nat) : Int) ∧ 0 ≤ (10 : Int) ∧ (10 : Int) ≤ (12 : Int) ∧ (0 ≤ (16 : Int) ∧ (16 : Int) ≤ ((t.length : Nat) : Int) ∧ 0 ≤ (12 : Int) ∧ (12 : Int) ≤ (16 : Int) ∧ (pmp_get_wp ((t.take (Int.toNat 10)).drop (Int.toNat 8)) (fun (r_6 : Int) => pmp_get_wp ((t.take (Int.toNat 12)).drop (Int.toNat 10)) (fun (r_7 : Int) => pmp_get_wp ((t.take (Int.toNat 16)).drop (Int.toNat 12)) (fun (r_8 : Int) => Q_1 r_6 r_7 r_8 Host))))))))) (fun (Q : Int → Int → Int → Int → Int → Int → Int → Int → Prop) => 0 ≤ (4 : Int) ∧ (4 : Int) ≤ ((t.length : Nat) : Int) ∧ 0 ≤ (2 : Int) ∧ (2 : Int) ≤ (4 : Int) ∧ (0 ≤ (8 : Int) ∧ (8 : Int) ≤ ((t.length : Nat) : Int) ∧ 0 ≤ (4 : Int) ∧ (4 : Int) ≤ (8 : Int) ∧ ((pmp_get_wp ((t.take (Int.toNat 4)).drop (Int.toNat 2)) (fun (r : Int) => (pmp_get_wp ((t.take (Int.toNat 8)).drop (Int.toNat 4)) (fun (r_1 : Int) => Q 0 0 0 0 0 r r_1 0)) ∧ (pmp_get_wp ((t.take (Int.toNat 8)).drop (Int.toNat 4)) (fun (r_2 : Int) => Q 0 0 0 0 0 r r_2 0)))) ∧ (pmp_get_wp ((t.take (Int.toNat 4)).drop (Int.toNat 2)) (fun (r_3 : Int) => pmp_get_wp ((t.take (Int.toNat 8)).drop (Int.toNat 4)) (fun (r_4 : Int) => Q 0 0 0 0 0 r_3 r_4 0))))))
theorem pmp_ReadAnswer_c1_ok {b_1 : Nat} {p_1 : Option Addr} {n_1 c_1 : Nat} {host : Bool} {t : List (Int)} {FL : List HP} {w : World} {K : Int → Int → Int → Int → Int → Int → Int → Int → Prop} {R : Value → World → Prop}
  (hF_t : ∀ w, Mem FL w → Rd w 1 p_1 enc5 t) (hl_t : n_1 = t.length) (hc_t : n_1 ≤ c_1)
  (h : Mem (cel b_1 22 [Value.slice p_1 n_1 c_1] :: FL) w) (hp : pmp_ReadAnswer_c1_wp host t K)
  (hR : ∀ (r r_1 r_2 r_3 r_4 r_5 r_6 r_7 : Int) (w : World), Mem (cel b_1 22 [Value.slice p_1 t.length c_1] :: FL) w → K r r_1 r_2 r_3 r_4 r_5 r_6 r_7 → R (Value.agg #[Value.int .i64 r, Value.int .i64 r_1, Value.int .i64 r_2, Value.int .i64 r_3, Value.int .u64 r_4, Value.int .i64 r_5, Value.int .i64 r_6, Value.int .u32 r_7]) w) :
  CallV Try.prog 31 #[Value.bool host, Value.pointer (some (Addr.mk b_1 0 none))] w R := by
  refine pmp_ReadAnswer_c1_call ?_
  unfold pmp_ReadAnswer_c1
  unfold pmp_ReadAnswer_c1_wp at hp
  subst hl_t
  refine newL (o := [Value.int .i64 0, Value.int .i64 0, Value.int .i64 0, Value.int .i64 0, Value.int .u64 0, Value.int .i64 0, Value.int .i64 0, Value.int .u32 0]) h ?_
  intro b_2 w h
  obtain ⟨Q, hq, hp⟩ := hp
  refine ⟨fun host0 t1 t3 l4 w => ∃ (b_3 : Nat), ∃ (Ver : Int), ∃ (Inside : Int), ∃ (Port : Int), ∃ (Secs : Int), ∃ (Nonce : Int), ∃ (Result_ : Int), ∃ (Epoch : Int), ∃ (Host : Int), host = host0 ∧ (Addr.mk b_1 0 none) = t1 ∧ (Addr.mk b_2 0 none) = t3 ∧ (Addr.mk b_3 0 none) = l4 ∧ Q Ver Inside Port Secs Nonce Result_ Epoch Host ∧ Mem (cel b_2 41 [Value.int .i64 0, Value.int .i64 0, Value.int .i64 0, Value.int .i64 0, Value.int .u64 0, Value.int .i64 0, Value.int .i64 0, Value.int .u32 0] :: cel b_1 22 [Value.slice p_1 t.length c_1] :: cel b_3 41 [Value.int .i64 Ver, Value.int .i64 Inside, Value.int .i64 Port, Value.int .i64 Secs, Value.int .u64 Nonce, Value.int .i64 Result_, Value.int .i64 Epoch, Value.int .u32 Host] :: FL) w, ?_, ?_⟩
  · rintro host0 t1 t3 l4 w ⟨b_3, Ver, Inside, Port, Secs, Nonce, Result_, Epoch, Host, rfl, rfl, rfl, rfl, hp, h⟩
    replace hp := hq Ver Inside Port Secs Nonce Result_ Epoch Host hp
    unfold pmp_ReadAnswer_c1_j1
    obtain ⟨Q_1, hq, hp⟩ := hp
    refine ⟨fun t3_1 l4_1 w => ∃ (Inside_1 : Int), ∃ (Port_1 : Int), ∃ (Secs_1 : Int), ∃ (Host_1 : Int), (Addr.mk b_2 0 none) = t3_1 ∧ (Addr.mk b_3 0 none) = l4_1 ∧ Q_1 Inside_1 Port_1 Secs_1 Host_1 ∧ Mem (cel b_2 41 [Value.int .i64 0, Value.int .i64 0, Value.int .i64 0, Value.int .i64 0, Value.int .u64 0, Value.int .i64 0, Value.int .i64 0, Value.int .u32 0] :: cel b_1 22 [Value.slice p_1 t.length c_1] :: cel b_3 41 [Value.int .i64 Ver, Value.int .i64 Inside_1, Value.int .i64 Port_1, Value.int .i64 Secs_1, Value.int .u64 Nonce, Value.int .i64 Result_, Value.int .i64 Epoch, Value.int .u32 Host_1] :: FL) w, ?_, ?_⟩
    · rintro t3_1 l4_1 w ⟨Inside_1, Port_1, Secs_1, Host_1, rfl, rfl, hp, h⟩
      replace hp := hq Inside_1 Port_1 Secs_1 Host_1 hp
      unfold pmp_ReadAnswer_c1_j2
      refine ⟨_, cellL h 2 0 rfl rfl rfl, _, cellL h 2 1 rfl rfl rfl, _, cellL h 2 2 rfl rfl rfl, _, cellL h 2 3 rfl rfl rfl, _, cellL h 2 4 rfl rfl rfl, _, cellL h 2 5 rfl rfl rfl, _, cellL h 2 6 rfl rfl rfl, _, cellL h 2 7 rfl rfl rfl, ?_⟩
      refine storeL (ys := [Value.int .i64 Ver, Value.int .i64 Inside_1, Value.int .i64 Port_1, Value.int .i64 Secs_1, Value.int .u64 Nonce, Value.int .i64 Result_, Value.int .i64 Epoch, Value.int .u32 Host_1]) h 0 0 rfl rfl rfl sz41 rfl rfl ?_
      intro w h
      dsimp only [setH, setVs, setV] at h
      refine ⟨_, cellL h 0 0 rfl rfl rfl, _, cellL h 0 1 rfl rfl rfl, _, cellL h 0 2 rfl rfl rfl, _, cellL h 0 3 rfl rfl rfl, _, cellL h 0 4 rfl rfl rfl, _, cellL h 0 5 rfl rfl rfl, _, cellL h 0 6 rfl rfl rfl, _, cellL h 0 7 rfl rfl rfl, ?_⟩
      replace h := h.sel [1] 2
      dsimp only [pickL, pickR, nthH, delH, dropH, List.cons_append, List.nil_append] at h
      exact hR Ver Inside_1 Port_1 Secs_1 Nonce Result_ Epoch Host_1 _ h hp
    clear hq
    refine cond_both hp (fun hp => ?_) (fun hp => ?_)
    · refine ⟨_, _, _, cellL h 1 0 rfl rfl rfl, ?_⟩
      obtain ⟨g_3ha, g_3hb, g_3la, g_3lb, hp⟩ := hp
      have vg_3_lh : (Int.toNat 8) ≤ (Int.toNat 12) := (natLe2 g_3la g_3ha g_3lb)
      have vg_3_hm : (Int.toNat 12) ≤ c_1 := (Nat.le_trans (natLe g_3ha g_3hb) hc_t)
      have vg_3_mc : c_1 ≤ c_1 := (Nat.le_refl _)
      have vg_3_hl : (Int.toNat 12) ≤ t.length := (leLen g_3ha g_3hb rfl)
      refine ⟨g_3ha, (leCap g_3hb hc_t), g_3la, (leNat g_3ha g_3lb), ?_⟩
      refine pmp_get_ok (FL := cel b_2 41 [Value.int .i64 0, Value.int .i64 0, Value.int .i64 0, Value.int .i64 0, Value.int .u64 0, Value.int .i64 0, Value.int .i64 0, Value.int .u32 0] :: cel b_1 22 [Value.slice p_1 t.length c_1] :: cel b_3 41 [Value.int .i64 Ver, Value.int .i64 Inside, Value.int .i64 Port, Value.int .i64 Secs, Value.int .u64 Nonce, Value.int .i64 Result_, Value.int .i64 Epoch, Value.int .u32 Host] :: FL) (fun w h => (Rd.view (hF_t _ (h.drop 3)) (l := (Int.toNat 8)) (h := (Int.toNat 12)) (m := c_1) vg_3_hm)) (viewLen vg_3_hl) (Nat.sub_le_sub_right vg_3_hm _) h hp ?_
      intro r_5 w h hp
      refine ⟨_, rfl, ?_⟩
      refine storeL (ys := [Value.int .u32 (IntKind.wrap .u32 r_5)]) h 2 7 rfl rfl rfl sz23 rfl rfl ?_
      intro w h
      dsimp only [setH, setVs, setV] at h
      exact ⟨Inside, Port, Secs, (IntKind.wrap .u32 r_5), rfl, rfl, hp, h⟩
    replace h := h.drew
    refine ⟨fun w => Mem (cel b_1 22 [Value.slice p_1 t.length c_1] :: FL) w, (h.sel [1] 2), ?_⟩
    refine ⟨_, _, _, cellL h 1 0 rfl rfl rfl, ?_⟩
    obtain ⟨g_4ha, g_4hb, g_4la, g_4lb, hp⟩ := hp
    have vg_4_lh : (Int.toNat 8) ≤ (Int.toNat 10) := (natLe2 g_4la g_4ha g_4lb)
    have vg_4_hm : (Int.toNat 10) ≤ c_1 := (Nat.le_trans (natLe g_4ha g_4hb) hc_t)
    have vg_4_mc : c_1 ≤ c_1 := (Nat.le_refl _)
    have vg_4_hl : (Int.toNat 10) ≤ t.length := (leLen g_4ha g_4hb rfl)
    refine ⟨g_4ha, (leCap g_4hb hc_t), g_4la, (leNat g_4ha g_4lb), ?_⟩
    refine ⟨_, _, _, cellL h 1 0 rfl rfl rfl, ?_⟩
    refine ⟨?_, ?_⟩
    · intro w h
      change Mem _ _ at h
      refine ⟨_, _, _, cellL h 0 0 rfl rfl rfl, ?_⟩
      exact ⟨rfl, rfl⟩
    obtain ⟨g_5ha, g_5hb, g_5la, g_5lb, hp⟩ := hp
    have vg_5_lh : (Int.toNat 10) ≤ (Int.toNat 12) := (natLe2 g_5la g_5ha g_5lb)
    have vg_5_hm : (Int.toNat 12) ≤ c_1 := (Nat.le_trans (natLe g_5ha g_5hb) hc_t)
    have vg_5_mc : c_1 ≤ c_1 := (Nat.le_refl _)
    have vg_5_hl : (Int.toNat 12) ≤ t.length := (leLen g_5ha g_5hb rfl)
    refine ⟨g_5ha, (leCap g_5hb hc_t), g_5la, (leNat g_5ha g_5lb), ?_⟩
    refine ⟨_, _, _, cellL h 1 0 rfl rfl rfl, ?_⟩
    refine ⟨?_, ?_⟩
    · intro w h
      change Mem _ _ at h
      refine ⟨_, _, _, cellL h 0 0 rfl rfl rfl, ?_⟩
      exact ⟨rfl, rfl⟩
    obtain ⟨g_6ha, g_6hb, g_6la, g_6lb, hp⟩ := hp
    have vg_6_lh : (Int.toNat 12) ≤ (Int.toNat 16) := (natLe2 g_6la g_6ha g_6lb)
    have vg_6_hm : (Int.toNat 16) ≤ c_1 := (Nat.le_trans (natLe g_6ha g_6hb) hc_t)
    have vg_6_mc : c_1 ≤ c_1 := (Nat.le_refl _)
    have vg_6_hl : (Int.toNat 16) ≤ t.length := (leLen g_6ha g_6hb rfl)
    refine ⟨g_6ha, (leCap g_6hb hc_t), g_6la, (leNat g_6ha g_6lb), ?_⟩
    refine pmp_get_ok (FL := cel b_2 41 [Value.int .i64 0, Value.int .i64 0, Value.int .i64 0, Value.int .i64 0, Value.int .u64 0, Value.int .i64 0, Value.int .i64 0, Value.int .u32 0] :: cel b_1 22 [Value.slice p_1 t.length c_1] :: cel b_3 41 [Value.int .i64 Ver, Value.int .i64 Inside, Value.int .i64 Port, Value.int .i64 Secs, Value.int .u64 Nonce, Value.int .i64 Result_, Value.int .i64 Epoch, Value.int .u32 Host] :: FL) (fun w h => (Rd.view (hF_t _ (h.drop 3)) (l := (Int.toNat 8)) (h := (Int.toNat 10)) (m := c_1) vg_4_hm)) (viewLen vg_4_hl) (Nat.sub_le_sub_right vg_4_hm _) h hp ?_
    intro r_6 w h hp
    refine ⟨_, rfl, ?_⟩
    refine ⟨(h.sel [1] 2), ?_⟩
    refine pmp_get_ok (FL := cel b_2 41 [Value.int .i64 0, Value.int .i64 0, Value.int .i64 0, Value.int .i64 0, Value.int .u64 0, Value.int .i64 0, Value.int .i64 0, Value.int .u32 0] :: cel b_1 22 [Value.slice p_1 t.length c_1] :: cel b_3 41 [Value.int .i64 Ver, Value.int .i64 Inside, Value.int .i64 Port, Value.int .i64 Secs, Value.int .u64 Nonce, Value.int .i64 Result_, Value.int .i64 Epoch, Value.int .u32 Host] :: FL) (fun w h => (Rd.view (hF_t _ (h.drop 3)) (l := (Int.toNat 10)) (h := (Int.toNat 12)) (m := c_1) vg_5_hm)) (viewLen vg_5_hl) (Nat.sub_le_sub_right vg_5_hm _) h hp ?_
    intro r_7 w h hp
    refine ⟨_, rfl, ?_⟩
    refine ⟨(h.sel [1] 2), ?_⟩
    refine pmp_get_ok (FL := cel b_2 41 [Value.int .i64 0, Value.int .i64 0, Value.int .i64 0, Value.int .i64 0, Value.int .u64 0, Value.int .i64 0, Value.int .i64 0, Value.int .u32 0] :: cel b_1 22 [Value.slice p_1 t.length c_1] :: cel b_3 41 [Value.int .i64 Ver, Value.int .i64 Inside, Value.int .i64 Port, Value.int .i64 Secs, Value.int .u64 Nonce, Value.int .i64 Result_, Value.int .i64 Epoch, Value.int .u32 Host] :: FL) (fun w h => (Rd.view (hF_t _ (h.drop 3)) (l := (Int.toNat 12)) (h := (Int.toNat 16)) (m := c_1) vg_6_hm)) (viewLen vg_6_hl) (Nat.sub_le_sub_right vg_6_hm _) h hp ?_
    intro r_8 w h hp
    refine ⟨_, rfl, ?_⟩
    refine storeL (ys := [Value.int .i64 r_6]) h 2 1 rfl rfl rfl sz3 rfl rfl ?_
    intro w h
    dsimp only [setH, setVs, setV] at h
    refine storeL (ys := [Value.int .i64 r_7]) h 2 2 rfl rfl rfl sz3 rfl rfl ?_
    intro w h
    dsimp only [setH, setVs, setV] at h
    refine storeL (ys := [Value.int .i64 r_8]) h 2 3 rfl rfl rfl sz3 rfl rfl ?_
    intro w h
    dsimp only [setH, setVs, setV] at h
    exact ⟨r_6, r_7, r_8, Host, rfl, rfl, hp, h⟩
  clear hq
  replace h := h.drew
  refine ⟨fun w => Mem (cel b_1 22 [Value.slice p_1 t.length c_1] :: FL) w, (h.sel [1] 1), ?_⟩
  refine ⟨_, _, _, cellL h 1 0 rfl rfl rfl, ?_⟩
  refine ⟨?_, ?_⟩
  · intro w h
    change Mem _ _ at h
    refine ⟨_, _, _, cellL h 0 0 rfl rfl rfl, ?_⟩
    exact ⟨rfl, rfl⟩
  obtain ⟨g_1ha, g_1hb, g_1la, g_1lb, hp⟩ := hp
  have vg_1_lh : (Int.toNat 2) ≤ (Int.toNat 4) := (natLe2 g_1la g_1ha g_1lb)
  have vg_1_hm : (Int.toNat 4) ≤ c_1 := (Nat.le_trans (natLe g_1ha g_1hb) hc_t)
  have vg_1_mc : c_1 ≤ c_1 := (Nat.le_refl _)
  have vg_1_hl : (Int.toNat 4) ≤ t.length := (leLen g_1ha g_1hb rfl)
  refine ⟨g_1ha, (leCap g_1hb hc_t), g_1la, (leNat g_1ha g_1lb), ?_⟩
  refine ⟨_, _, _, cellL h 1 0 rfl rfl rfl, ?_⟩
  refine ⟨?_, ?_⟩
  · intro w h
    change Mem _ _ at h
    refine ⟨_, _, _, cellL h 0 0 rfl rfl rfl, ?_⟩
    exact ⟨rfl, rfl⟩
  obtain ⟨g_2ha, g_2hb, g_2la, g_2lb, hp⟩ := hp
  have vg_2_lh : (Int.toNat 4) ≤ (Int.toNat 8) := (natLe2 g_2la g_2ha g_2lb)
  have vg_2_hm : (Int.toNat 8) ≤ c_1 := (Nat.le_trans (natLe g_2ha g_2hb) hc_t)
  have vg_2_mc : c_1 ≤ c_1 := (Nat.le_refl _)
  have vg_2_hl : (Int.toNat 8) ≤ t.length := (leLen g_2ha g_2hb rfl)
  refine ⟨g_2ha, (leCap g_2hb hc_t), g_2la, (leNat g_2ha g_2lb), ?_⟩
  refine ⟨?_, ?_⟩
  · replace hp := hp.1
    refine pmp_get_ok (FL := cel b_2 41 [Value.int .i64 0, Value.int .i64 0, Value.int .i64 0, Value.int .i64 0, Value.int .u64 0, Value.int .i64 0, Value.int .i64 0, Value.int .u32 0] :: cel b_1 22 [Value.slice p_1 t.length c_1] :: FL) (fun w h => (Rd.view (hF_t _ (h.drop 2)) (l := (Int.toNat 2)) (h := (Int.toNat 4)) (m := c_1) vg_1_hm)) (viewLen vg_1_hl) (Nat.sub_le_sub_right vg_1_hm _) h hp ?_
    intro r w h hp
    refine ⟨_, rfl, ?_⟩
    refine ⟨(h.sel [1] 1), ?_⟩
    refine ⟨?_, ?_⟩
    · replace hp := hp.1
      refine pmp_get_ok (FL := cel b_2 41 [Value.int .i64 0, Value.int .i64 0, Value.int .i64 0, Value.int .i64 0, Value.int .u64 0, Value.int .i64 0, Value.int .i64 0, Value.int .u32 0] :: cel b_1 22 [Value.slice p_1 t.length c_1] :: FL) (fun w h => (Rd.view (hF_t _ (h.drop 2)) (l := (Int.toNat 4)) (h := (Int.toNat 8)) (m := c_1) vg_2_hm)) (viewLen vg_2_hl) (Nat.sub_le_sub_right vg_2_hm _) h hp ?_
      intro r_1 w h hp
      refine ⟨_, rfl, ?_⟩
      refine newL (o := [Value.int .i64 0, Value.int .i64 0, Value.int .i64 0, Value.int .i64 0, Value.int .u64 0, Value.int .i64 0, Value.int .i64 0, Value.int .u32 0]) h ?_
      intro b_4 w h
      refine ⟨(h.sel [2] 2), ?_⟩
      refine storeL (ys := [Value.int .i64 0, Value.int .i64 0, Value.int .i64 0, Value.int .i64 0, Value.int .u64 0, Value.int .i64 r, Value.int .i64 r_1, Value.int .u32 0]) h 0 0 rfl rfl rfl sz41 rfl rfl ?_
      intro w h
      dsimp only [setH, setVs, setV] at h
      replace h := h.sel [1, 1, 0] 0
      dsimp only [pickL, pickR, nthH, delH, dropH, List.cons_append, List.nil_append] at h
      exact ⟨b_4, 0, 0, 0, 0, 0, r, r_1, 0, rfl, rfl, rfl, rfl, hp, h⟩
    replace hp := hp.2
    refine newL (o := [Value.int .i64 0, Value.int .i64 0, Value.int .i64 0, Value.int .i64 0, Value.int .u64 0, Value.int .i64 0, Value.int .i64 0, Value.int .u32 0]) h ?_
    intro b_5 w h
    refine ⟨(h.sel [2] 2), ?_⟩
    refine pmp_get_ok (FL := cel b_5 41 [Value.int .i64 0, Value.int .i64 0, Value.int .i64 0, Value.int .i64 0, Value.int .u64 0, Value.int .i64 0, Value.int .i64 0, Value.int .u32 0] :: cel b_2 41 [Value.int .i64 0, Value.int .i64 0, Value.int .i64 0, Value.int .i64 0, Value.int .u64 0, Value.int .i64 0, Value.int .i64 0, Value.int .u32 0] :: cel b_1 22 [Value.slice p_1 t.length c_1] :: FL) (fun w h => (Rd.view (hF_t _ (h.drop 3)) (l := (Int.toNat 4)) (h := (Int.toNat 8)) (m := c_1) vg_2_hm)) (viewLen vg_2_hl) (Nat.sub_le_sub_right vg_2_hm _) h hp ?_
    intro r_2 w h hp
    refine ⟨_, rfl, ?_⟩
    refine storeL (ys := [Value.int .i64 0, Value.int .i64 0, Value.int .i64 0, Value.int .i64 0, Value.int .u64 0, Value.int .i64 r, Value.int .i64 r_2, Value.int .u32 0]) h 0 0 rfl rfl rfl sz41 rfl rfl ?_
    intro w h
    dsimp only [setH, setVs, setV] at h
    replace h := h.sel [1, 1, 0] 0
    dsimp only [pickL, pickR, nthH, delH, dropH, List.cons_append, List.nil_append] at h
    exact ⟨b_5, 0, 0, 0, 0, 0, r, r_2, 0, rfl, rfl, rfl, rfl, hp, h⟩
  replace hp := hp.2
  refine newL (o := [Value.int .i64 0, Value.int .i64 0, Value.int .i64 0, Value.int .i64 0, Value.int .u64 0, Value.int .i64 0, Value.int .i64 0, Value.int .u32 0]) h ?_
  intro b_6 w h
  refine ⟨(h.sel [2] 2), ?_⟩
  refine pmp_get_ok (FL := cel b_6 41 [Value.int .i64 0, Value.int .i64 0, Value.int .i64 0, Value.int .i64 0, Value.int .u64 0, Value.int .i64 0, Value.int .i64 0, Value.int .u32 0] :: cel b_2 41 [Value.int .i64 0, Value.int .i64 0, Value.int .i64 0, Value.int .i64 0, Value.int .u64 0, Value.int .i64 0, Value.int .i64 0, Value.int .u32 0] :: cel b_1 22 [Value.slice p_1 t.length c_1] :: FL) (fun w h => (Rd.view (hF_t _ (h.drop 3)) (l := (Int.toNat 2)) (h := (Int.toNat 4)) (m := c_1) vg_1_hm)) (viewLen vg_1_hl) (Nat.sub_le_sub_right vg_1_hm _) h hp ?_
  intro r_3 w h hp
  refine ⟨_, rfl, ?_⟩
  refine ⟨(h.sel [2] 2), ?_⟩
  refine pmp_get_ok (FL := cel b_6 41 [Value.int .i64 0, Value.int .i64 0, Value.int .i64 0, Value.int .i64 0, Value.int .u64 0, Value.int .i64 0, Value.int .i64 0, Value.int .u32 0] :: cel b_2 41 [Value.int .i64 0, Value.int .i64 0, Value.int .i64 0, Value.int .i64 0, Value.int .u64 0, Value.int .i64 0, Value.int .i64 0, Value.int .u32 0] :: cel b_1 22 [Value.slice p_1 t.length c_1] :: FL) (fun w h => (Rd.view (hF_t _ (h.drop 3)) (l := (Int.toNat 4)) (h := (Int.toNat 8)) (m := c_1) vg_2_hm)) (viewLen vg_2_hl) (Nat.sub_le_sub_right vg_2_hm _) h hp ?_
  intro r_4 w h hp
  refine ⟨_, rfl, ?_⟩
  refine storeL (ys := [Value.int .i64 0, Value.int .i64 0, Value.int .i64 0, Value.int .i64 0, Value.int .u64 0, Value.int .i64 r_3, Value.int .i64 r_4, Value.int .u32 0]) h 0 0 rfl rfl rfl sz41 rfl rfl ?_
  intro w h
  dsimp only [setH, setVs, setV] at h
  replace h := h.sel [1, 1, 0] 0
  dsimp only [pickL, pickR, nthH, delH, dropH, List.cons_append, List.nil_append] at h
  exact ⟨b_6, 0, 0, 0, 0, 0, r_3, r_4, 0, rfl, rfl, rfl, rfl, hp, h⟩
def pmp_ReadAnswer_wp (b_1 : List (Int)) (K : Int → Int → Int → Int → Int → Int → Int → Int → Bool → Int → Prop) : Prop :=
  pmp_read_wp b_1 12 16 () (fun x_1 s K_1 => pmp_ReadAnswer_c1_wp x_1 b_1 (fun (r r_1 r_2 r_3 r_4 r_5 r_6 r_7 : Int) => K_1 r r_1 r_2 r_3 r_4 r_5 r_6 r_7 s)) () (fun x_2 x_3 s_1 K_2 => pmp_Answer_wp x_2.1 x_2.2.1 x_2.2.2.1 x_2.2.2.2.1 x_2.2.2.2.2.1 x_2.2.2.2.2.2.1 x_2.2.2.2.2.2.2.1 x_2.2.2.2.2.2.2.2 x_3 (fun (rs : List (Int)) => K_2 rs s_1)) (fun (r r_1 r_2 r_3 r_4 r_5 r_6 r_7 : Int) (r_8 : Bool) (r_9 : Int) (s_2 : (Unit)) (s_3 : (Unit)) => K r r_1 r_2 r_3 r_4 r_5 r_6 r_7 r_8 r_9)
theorem pmp_ReadAnswer_ok {p_1 : Option Addr} {n_1 c_1 : Nat} {b_1 : List (Int)} {FL : List HP} {w : World} {K : Int → Int → Int → Int → Int → Int → Int → Int → Bool → Int → Prop} {R : Value → World → Prop}
  (hF_b_1 : ∀ w, Mem FL w → Rd w 1 p_1 enc5 b_1) (hl_b_1 : n_1 = b_1.length) (hc_b_1 : n_1 ≤ c_1)
  (h : Mem (FL) w) (hp : pmp_ReadAnswer_wp b_1 K)
  (hR : ∀ (r r_1 r_2 r_3 r_4 r_5 r_6 r_7 : Int) (r_8 : Bool) (r_9 : Int) (w : World), Mem (FL) w → K r r_1 r_2 r_3 r_4 r_5 r_6 r_7 r_8 r_9 → R (Value.tuple #[(Value.agg #[Value.int .i64 r, Value.int .i64 r_1, Value.int .i64 r_2, Value.int .i64 r_3, Value.int .u64 r_4, Value.int .i64 r_5, Value.int .i64 r_6, Value.int .u32 r_7]), Value.bool r_8, Value.int .i64 r_9]) w) :
  CallV Try.prog 13 #[Value.slice p_1 n_1 c_1] w R := by
  refine pmp_ReadAnswer_call ?_
  unfold pmp_ReadAnswer
  unfold pmp_ReadAnswer_wp at hp
  subst hl_b_1
  refine newL (o := [Value.slice p_1 b_1.length c_1]) h ?_
  intro b_2 w h
  refine newL (o := [Value.int .i64 0, Value.int .i64 0, Value.int .i64 0, Value.int .i64 0, Value.int .u64 0, Value.int .i64 0, Value.int .i64 0, Value.int .u32 0]) h ?_
  intro b_3 w h
  refine ⟨_, _, _, cellL h 1 0 rfl rfl rfl, ?_⟩
  replace h := h.pick [1]
  dsimp only [pickL, pickR, nthH, delH, dropH, List.cons_append, List.nil_append] at h
  replace h : Mem ((fun (_ : Unit) => HL [cel b_2 22 [Value.slice p_1 b_1.length c_1]]) () :: cel b_3 41 [Value.int .i64 0, Value.int .i64 0, Value.int .i64 0, Value.int .i64 0, Value.int .u64 0, Value.int .i64 0, Value.int .i64 0, Value.int .u32 0] :: FL) _ := h.pack 1 [cel b_2 22 [Value.slice p_1 b_1.length c_1]] rfl
  replace h : Mem ((fun (_ : Unit) => HL []) () :: (fun (_ : Unit) => HL [cel b_2 22 [Value.slice p_1 b_1.length c_1]]) () :: cel b_3 41 [Value.int .i64 0, Value.int .i64 0, Value.int .i64 0, Value.int .i64 0, Value.int .u64 0, Value.int .i64 0, Value.int .i64 0, Value.int .u32 0] :: FL) _ := h.pack 0 [] rfl
  replace h := h.pick [1, 0]
  dsimp only [pickL, pickR, nthH, delH, dropH, List.cons_append, List.nil_append] at h
  refine pmp_read_ok (FL := cel b_3 41 [Value.int .i64 0, Value.int .i64 0, Value.int .i64 0, Value.int .i64 0, Value.int .u64 0, Value.int .i64 0, Value.int .i64 0, Value.int .u32 0] :: FL) (A3 := (fun (_ : Unit) => HL [cel b_2 22 [Value.slice p_1 b_1.length c_1]])) (Y3 := (fun x_1 s K_1 => pmp_ReadAnswer_c1_wp x_1 b_1 (fun (r r_1 r_2 r_3 r_4 r_5 r_6 r_7 : Int) => K_1 r r_1 r_2 r_3 r_4 r_5 r_6 r_7 s))) (σ3 := Unit) (s := ()) ?_ (A4 := (fun (_ : Unit) => HL [])) (Y4 := (fun x_2 x_3 s_1 K_2 => pmp_Answer_wp x_2.1 x_2.2.1 x_2.2.2.1 x_2.2.2.2.1 x_2.2.2.2.2.1 x_2.2.2.2.2.2.1 x_2.2.2.2.2.2.2.1 x_2.2.2.2.2.2.2.2 x_3 (fun (rs : List (Int)) => K_2 rs s_1))) (σ4 := Unit) (s_1 := ()) ?_ (fun w h => (hF_b_1 _ (h.drop 1))) rfl hc_b_1 h hp ?_
  · intro x_1 s K FL2 w R hx h hp hR
    replace h := h.unpack
    dsimp only [pickL, pickR, nthH, delH, dropH, List.cons_append, List.nil_append] at h
    refine calleeFn (by kernel_rfl) ?_
    refine pmp_ReadAnswer_c1_ok (fun w h => by have h := hx w h; exact (hF_b_1 _ (h.drop 1))) rfl hc_b_1 h hp ?_
    intro r r_1 r_2 r_3 r_4 r_5 r_6 r_7 w h hp
    exact hR r r_1 r_2 r_3 r_4 r_5 r_6 r_7 s _ (h.pack 1 [cel b_2 22 [Value.slice p_1 b_1.length c_1]] rfl) hp
  · intro x_2 x_3 s_1 K FL2 w R hx h hp hR
    replace h := h.unpack
    dsimp only [pickL, pickR, nthH, delH, dropH, List.cons_append, List.nil_append] at h
    refine calleeFn (by kernel_rfl) ?_
    refine pmp_Answer_ok h hp ?_
    rintro rs p_1' n_ c_1' w rfl h hp
    replace h : Mem ((fun (_ : Unit) => HL []) s_1 :: row enc5 5 1 p_1' c_1' rs :: FL2) _ := h.pack 0 [] rfl
    replace h := h.pick [1]
    dsimp only [pickL, pickR, nthH, delH, dropH, List.cons_append, List.nil_append] at h
    exact hR rs s_1 p_1' c_1' _ h hp
  intro r r_1 r_2 r_3 r_4 r_5 r_6 r_7 r_8 r_9 s_2 s_3 w h hp
  replace h := h.unpack
  dsimp only [pickL, pickR, nthH, delH, dropH, List.cons_append, List.nil_append] at h
  replace h := h.pick [1]
  dsimp only [pickL, pickR, nthH, delH, dropH, List.cons_append, List.nil_append] at h
  replace h := h.unpack
  dsimp only [pickL, pickR, nthH, delH, dropH, List.cons_append, List.nil_append] at h
  refine ⟨_, _, _, _, _, _, _, _, _, _, rfl, ?_⟩
  refine ⟨_, _, _, _, _, _, _, _, rfl, ?_⟩
  refine ⟨_, rfl, ?_⟩
  refine storeL (ys := [Value.int .i64 r, Value.int .i64 r_1, Value.int .i64 r_2, Value.int .i64 r_3, Value.int .u64 r_4, Value.int .i64 r_5, Value.int .i64 r_6, Value.int .u32 r_7]) h 1 0 rfl rfl rfl sz41 rfl rfl ?_
  intro w h
  dsimp only [setH, setVs, setV] at h
  refine ⟨_, cellL h 1 0 rfl rfl rfl, _, cellL h 1 1 rfl rfl rfl, _, cellL h 1 2 rfl rfl rfl, _, cellL h 1 3 rfl rfl rfl, _, cellL h 1 4 rfl rfl rfl, _, cellL h 1 5 rfl rfl rfl, _, cellL h 1 6 rfl rfl rfl, _, cellL h 1 7 rfl rfl rfl, ?_⟩
  replace h := h.sel [] 2
  dsimp only [pickL, pickR, nthH, delH, dropH, List.cons_append, List.nil_append] at h
  exact hR r r_1 r_2 r_3 r_4 r_5 r_6 r_7 r_8 r_9 _ h hp
def law_awake_wp  (K : Bool → Prop) : Prop :=
  l8_Box_wp 0 (fun (r r_1 r_2 r_3 r_4 r_5 r_6 : Int) => nat_New_wp r r_1 r_2 r_3 r_4 r_5 r_6 (fun (r_7 : Int) => joinP1 (fun (t19 : Bool) => cond t19 (K false) (False)) (fun (Q : Bool → Prop) => Q true)) (fun (r_8 box box_1 box_2 box_3 box_4 box_5 box_6 : Int) (list : List (Option Nat)) (now : Int) => joinP1 (fun (t19_1 : Bool) => cond t19_1 (K false) (gate_New_wp box box_1 box_2 box_3 box_4 box_5 box_6 now true false 60 100 (fun (r_9 : Int) => joinP1 (fun (t31 : Bool) => cond t31 (K false) (False)) (fun (Q_2 : Bool → Prop) => Q_2 true)) (fun (r_10 : Int) (g_1 g_2 : Bool) (g_3 boot now_1 : Int) (by_ : BYX) => joinP1 (fun (t31_1 : Bool) => cond t31_1 (K false) (gG_Hear_wp box box_1 box_2 box_3 box_4 box_5 box_6 list now g_1 g_2 g_3 boot now_1 by_ 105 167772161 5 [0, 0] ([] : SBX) (fun (rs : List (Int)) (now_2 : Int) (list_1 : List (Option Nat)) (now_3 : Int) (m_1 : BYX) (m_2 : SBX) => pmp_ReadAnswer_wp rs (fun (r_11 r_12 r_13 r_14 r_15 r_16 r_17 r_18 : Int) (r_19 : Bool) (r_20 : Int) => cond (r_20 == 0) (cond r_19 (cond (r_17 == 5) (cond (r_18 == 3405803777) (gG_Epoch_wp box box_1 box_2 box_3 box_4 box_5 box_6 now_3 g_1 g_2 g_3 boot now_2 m_1 107 (fun (r_21 : Int) => cond (r_21 == 7) (gG_Hear_wp box box_1 box_2 box_3 box_4 box_5 box_6 list_1 now_3 g_1 g_2 g_3 boot now_2 m_1 105 1 5 [2] m_2 (fun (rs_1 : List (Int)) (now_4 : Int) (list_2 : List (Option Nat)) (now_5 : Int) (m_3 : BYX) (m_4 : SBX) => K ((((rs_1.length : Nat) : Int) : Int) == 12))) (K false))) (K false)) (K false)) (K false)) (K false))))) (fun (Q_3 : Bool → Prop) => Q_3 (r_10 != 0))))) (fun (Q_1 : Bool → Prop) => Q_1 (r_8 != 0))))
theorem law_awake_ok  {FL : List HP} {w : World} {K : Bool → Prop} {R : Value → World → Prop}
  (h : Mem (FL) w) (hp : law_awake_wp  K)
  (hR : ∀ (r : Bool) (w : World), Mem (FL) w → K r → R (Value.bool r) w) :
  CallV Try.prog 7 #[] w R := by
  refine law_awake_call ?_
  unfold law_awake
  unfold law_awake_wp at hp
  replace h := stoNil stoE85 (fun _ => default) h
  refine l8_Box_ok h hp ?_
  intro r r_1 r_2 r_3 r_4 r_5 r_6 w h hp
  refine ⟨_, _, _, _, _, _, _, rfl, ?_⟩
  refine nat_New_ok h hp ?_ ?_
  · intro r_7 w h hp
    refine ⟨_, _, rfl, ?_⟩
    refine ⟨_, rfl, ?_⟩
    refine ⟨_, rfl, ?_⟩
    obtain ⟨Q, hq, hp⟩ := hp
    refine ⟨fun n1 t19 w => none = n1 ∧ Q t19 ∧ Mem (stoP stoE85 (fun _ => default) ([] : SBX) :: FL) w, ?_, ?_⟩
    · rintro n1 t19 w ⟨rfl, hp, h⟩
      replace hp := hq t19 hp
      unfold law_awake_j1
      refine cond_both' hp (fun hp => ?_) (fun hp => ?_)
      · exact hp.elim
      replace h := h.sel [] 1
      dsimp only [pickL, pickR, nthH, delH, dropH, List.cons_append, List.nil_append] at h
      exact hR false _ h hp
    clear hq
    refine eqlPtrNN undP27 ?_
    refine ⟨_, rfl, ?_⟩
    refine cond_tt ?_
    exact ⟨rfl, hp, h⟩
  rintro r_8 box box_1 box_2 box_3 box_4 box_5 box_6 list now b_1 p_1 n_1 c_1 w rfl h hp
  have cpp_1 := rowCap h 1 rfl
  refine ⟨_, _, rfl, ?_⟩
  refine ⟨_, rfl, ?_⟩
  refine ⟨_, rfl, ?_⟩
  obtain ⟨Q_1, hq, hp⟩ := hp
  refine ⟨fun n1_1 t19_1 w => (some (Addr.mk b_1 0 none)) = n1_1 ∧ Q_1 t19_1 ∧ Mem (cel b_1 71 [Value.int .u32 box, Value.int .i64 box_1, Value.int .i64 box_2, Value.int .i64 box_3, Value.int .i64 box_4, Value.int .i64 box_5, Value.int .i64 box_6, Value.slice p_1 list.length c_1, Value.int .i64 now] :: row enc82 82 1 p_1 c_1 list :: stoP stoE85 (fun _ => default) ([] : SBX) :: FL) w, ?_, ?_⟩
  · rintro n1_1 t19_1 w ⟨rfl, hp, h⟩
    replace hp := hq t19_1 hp
    unfold law_awake_j1
    refine cond_both hp (fun hp => ?_) (fun hp => ?_)
    · replace h := h.sel [] 3
      dsimp only [pickL, pickR, nthH, delH, dropH, List.cons_append, List.nil_append] at h
      exact hR false _ h hp
    refine gate_New_ok h hp ?_ ?_
    · intro r_9 w h hp
      refine ⟨_, _, rfl, ?_⟩
      refine ⟨_, rfl, ?_⟩
      refine ⟨_, rfl, ?_⟩
      obtain ⟨Q_2, hq, hp⟩ := hp
      refine ⟨fun g3 t31 w => none = g3 ∧ Q_2 t31 ∧ Mem (cel b_1 71 [Value.int .u32 box, Value.int .i64 box_1, Value.int .i64 box_2, Value.int .i64 box_3, Value.int .i64 box_4, Value.int .i64 box_5, Value.int .i64 box_6, Value.slice p_1 list.length c_1, Value.int .i64 now] :: row enc82 82 1 p_1 c_1 list :: stoP stoE85 (fun _ => default) ([] : SBX) :: FL) w, ?_, ?_⟩
      · rintro g3 t31 w ⟨rfl, hp, h⟩
        replace hp := hq t31 hp
        unfold law_awake_j2
        refine cond_both hp (fun hp => ?_) (fun hp => ?_)
        · replace h := h.sel [] 3
          dsimp only [pickL, pickR, nthH, delH, dropH, List.cons_append, List.nil_append] at h
          exact hR false _ h hp
        refine newL (o := [Value.int .u8 0, Value.int .u8 0]) h ?_
        intro b_2 w h
        exact hp.elim
      clear hq
      refine eqlPtrNN undP34 ?_
      refine ⟨_, rfl, ?_⟩
      refine cond_tt ?_
      exact ⟨rfl, hp, h⟩
    intro r_10 g_1 g_2 g_3 boot now_1 by_ b_3 b_4 p_2 w h hp
    refine ⟨_, _, rfl, ?_⟩
    refine ⟨_, rfl, ?_⟩
    refine ⟨_, rfl, ?_⟩
    obtain ⟨Q_3, hq, hp⟩ := hp
    refine ⟨fun g3_1 t31_1 w => (some (Addr.mk b_3 0 none)) = g3_1 ∧ Q_3 t31_1 ∧ Mem (cel b_3 75 [Value.pointer (some (Addr.mk b_1 0 none)), Value.bool g_1, Value.bool g_2, Value.int .i64 g_3, Value.int .i64 boot, Value.int .i64 now_1, Value.map (some b_4)] :: cel b_1 71 [Value.int .u32 box, Value.int .i64 box_1, Value.int .i64 box_2, Value.int .i64 box_3, Value.int .i64 box_4, Value.int .i64 box_5, Value.int .i64 box_6, Value.slice p_1 list.length c_1, Value.int .i64 now] :: row enc82 82 1 p_1 c_1 list :: mapQ b_4 va25 va111 p_2 by_ :: stoP stoE85 (fun _ => default) ([] : SBX) :: FL) w, ?_, ?_⟩
    · rintro g3_1 t31_1 w ⟨rfl, hp, h⟩
      replace hp := hq t31_1 hp
      unfold law_awake_j2
      refine cond_both hp (fun hp => ?_) (fun hp => ?_)
      · replace h := h.sel [] 5
        dsimp only [pickL, pickR, nthH, delH, dropH, List.cons_append, List.nil_append] at h
        exact hR false _ h hp
      refine newL (o := [Value.int .u8 0, Value.int .u8 0]) h ?_
      intro b_5 w h
      replace h := h.pick [1, 1, 1, 1, 1]
      dsimp only [pickL, pickR, nthH, delH, dropH, List.cons_append, List.nil_append] at h
      refine gG_Hear_ok (FL := cel b_5 5 [Value.int .u8 0, Value.int .u8 0] :: FL) (fun w h => (celRd h 0 encL5 rfl [0, 0] rfl)) rfl (Nat.le_refl _) h hp ?_
      rintro rs now_2 list_1 now_3 m_1 m_2 p_3 n_2 c_2 p_4 n_3 c_3 p_5 hd w rfl rfl h hp
      have cpp_3 := rowCap h 0 rfl
      have cpp_4 := rowCap h 3 rfl
      refine ⟨_, _, _, rfl, ?_⟩
      refine pmp_ReadAnswer_ok (FL := row enc5 5 1 p_3 c_2 rs :: cel b_3 75 [Value.pointer (some (Addr.mk b_1 0 none)), Value.bool g_1, Value.bool g_2, Value.int .i64 g_3, Value.int .i64 boot, Value.int .i64 now_2, Value.map (some b_4)] :: cel b_1 71 [Value.int .u32 box, Value.int .i64 box_1, Value.int .i64 box_2, Value.int .i64 box_3, Value.int .i64 box_4, Value.int .i64 box_5, Value.int .i64 box_6, Value.slice p_4 list_1.length c_3, Value.int .i64 now_3] :: row enc82 82 1 p_4 c_3 list_1 :: mapQ b_4 va25 va111 p_5 m_1 :: stoP stoE85 hd m_2 :: cel b_5 5 [Value.int .u8 0, Value.int .u8 0] :: FL) (fun w h => (rowRd h 0 encL5 rfl)) rfl cpp_3 h hp ?_
      intro r_11 r_12 r_13 r_14 r_15 r_16 r_17 r_18 r_19 r_20 w h hp
      refine ⟨_, _, _, _, _, _, _, _, _, _, rfl, ?_⟩
      refine ⟨_, _, _, _, _, _, _, _, rfl, ?_⟩
      refine ⟨_, rfl, ?_⟩
      refine newL (o := [Value.int .i64 0, Value.int .i64 0, Value.int .i64 0, Value.int .i64 0, Value.int .u64 0, Value.int .i64 0, Value.int .i64 0, Value.int .u32 0]) h ?_
      intro b_6 w h
      refine storeL (ys := [Value.int .i64 r_11, Value.int .i64 r_12, Value.int .i64 r_13, Value.int .i64 r_14, Value.int .u64 r_15, Value.int .i64 r_16, Value.int .i64 r_17, Value.int .u32 r_18]) h 0 0 rfl rfl rfl sz41 rfl rfl ?_
      intro w h
      dsimp only [setH, setVs, setV] at h
      refine cond_both' hp (fun hp => ?_) (fun hp => ?_)
      · replace h := h.sel [] 8
        dsimp only [pickL, pickR, nthH, delH, dropH, List.cons_append, List.nil_append] at h
        exact hR false _ h hp
      refine cond_both' hp (fun hp => ?_) (fun hp => ?_)
      · replace h := h.sel [] 8
        dsimp only [pickL, pickR, nthH, delH, dropH, List.cons_append, List.nil_append] at h
        exact hR false _ h hp
      refine ⟨_, cellL h 0 6 rfl rfl rfl, ?_⟩
      refine cond_both' hp (fun hp => ?_) (fun hp => ?_)
      · replace h := h.sel [] 8
        dsimp only [pickL, pickR, nthH, delH, dropH, List.cons_append, List.nil_append] at h
        exact hR false _ h hp
      refine ⟨_, cellL h 0 7 rfl rfl rfl, ?_⟩
      refine cond_both' hp (fun hp => ?_) (fun hp => ?_)
      · replace h := h.sel [] 8
        dsimp only [pickL, pickR, nthH, delH, dropH, List.cons_append, List.nil_append] at h
        exact hR false _ h hp
      replace h := h.pick [2, 2]
      dsimp only [pickL, pickR, nthH, delH, dropH, List.cons_append, List.nil_append] at h
      have hMr_mk4 := romOf (h.drop 2) 3 rfl
      refine gG_Epoch_ok (FL := cel b_6 41 [Value.int .i64 r_11, Value.int .i64 r_12, Value.int .i64 r_13, Value.int .i64 r_14, Value.int .u64 r_15, Value.int .i64 r_16, Value.int .i64 r_17, Value.int .u32 r_18] :: row enc5 5 1 p_3 c_2 rs :: row enc82 82 1 p_4 c_3 list_1 :: mapQ b_4 va25 va111 p_5 m_1 :: stoP stoE85 hd m_2 :: cel b_5 5 [Value.int .u8 0, Value.int .u8 0] :: FL) hMr_mk4 h hp ?_
      intro r_21 w h hp
      refine ⟨_, rfl, ?_⟩
      refine cond_both' hp (fun hp => ?_) (fun hp => ?_)
      · replace h := h.sel [] 8
        dsimp only [pickL, pickR, nthH, delH, dropH, List.cons_append, List.nil_append] at h
        exact hR false _ h hp
      refine newL (o := [Value.int .u8 2]) h ?_
      intro b_7 w h
      replace h := h.pick [1, 1, 3, 3, 3]
      dsimp only [pickL, pickR, nthH, delH, dropH, List.cons_append, List.nil_append] at h
      refine gG_Hear_ok (FL := cel b_7 5 [Value.int .u8 2] :: cel b_6 41 [Value.int .i64 r_11, Value.int .i64 r_12, Value.int .i64 r_13, Value.int .i64 r_14, Value.int .u64 r_15, Value.int .i64 r_16, Value.int .i64 r_17, Value.int .u32 r_18] :: row enc5 5 1 p_3 c_2 rs :: cel b_5 5 [Value.int .u8 0, Value.int .u8 0] :: FL) (fun w h => (celRd h 0 encL5 rfl [2] rfl)) rfl (Nat.le_refl _) h hp ?_
      rintro rs_1 now_4 list_2 now_5 m_3 m_4 p_6 n_4 c_4 p_7 n_5 c_5 p_8 hd_1 w rfl rfl h hp
      have cpp_6 := rowCap h 0 rfl
      have cpp_7 := rowCap h 3 rfl
      refine ⟨_, _, _, rfl, ?_⟩
      replace h := h.sel [] 10
      dsimp only [pickL, pickR, nthH, delH, dropH, List.cons_append, List.nil_append] at h
      exact hR ((((rs_1.length : Nat) : Int) : Int) == 12) _ h hp
    clear hq
    refine eqlPtrNil undP34 ?_
    refine ⟨_, rfl, ?_⟩
    refine cond_ff ?_
    replace h := h.sel [0, 1, 1, 0, 0] 0
    dsimp only [pickL, pickR, nthH, delH, dropH, List.cons_append, List.nil_append] at h
    exact ⟨rfl, hp, h⟩
  clear hq
  refine eqlPtrNil undP27 ?_
  refine ⟨_, rfl, ?_⟩
  refine cond_ff ?_
  exact ⟨rfl, hp, h⟩
end Go.Proofs.Ytnmdnkmemjfoeaa
