/- Each function over plain data (printed by a program of this claim's author). -/
import Derived.Test.YtighenkbdiahpaaL5
namespace Go.Proofs.Ytighenkbdiahpaa
open Go Go.Eng Go.Proofs
set_option maxRecDepth 100000
set_option maxHeartbeats 2000000

/-! embrasure/pmp.read (39) -/
def pmp_read_wp {σ3 : Type} {σ4 : Type} (b_1 : List (Int)) (hostLen : Int) (portLen : Int) (s : σ3) (Y3 : (Bool) → σ3 → (Int → Int → Int → Int → Int → Int → Int → Int → σ3 → Prop) → Prop) (s_1 : σ4) (Y4 : (Int × Int × Int × Int × Int × Int × Int × Int) → (Bool) → σ4 → (List (Int) → σ4 → Prop) → Prop) (K : Int → Int → Int → Int → Int → Int → Int → Int → Bool → Int → σ3 → σ4 → Prop) : Prop :=
  joinP0 (Y3 ((((b_1.length : Nat) : Int) : Int) == hostLen) s (fun (t32_0 : Int) (t32_1 : Int) (t32_2 : Int) (t32_3 : Int) (t32_4 : Int) (t32_5 : Int) (t32_6 : Int) (t32_7 : Int) (s_4 : σ3) => Y4 (t32_0, t32_1, t32_2, t32_3, t32_4, t32_5, t32_6, t32_7) ((((b_1.length : Nat) : Int) : Int) == hostLen) s_1 (fun (rs : List (Int)) (s_5 : σ4) => slices_Equal_sl_byte_byte_wp rs b_1 (fun (r : Bool) => cond (!r) (K 0 0 0 0 0 0 0 0 false 3 s_4 s_5) (K t32_0 t32_1 t32_2 t32_3 t32_4 t32_5 t32_6 t32_7 ((((b_1.length : Nat) : Int) : Int) == hostLen) 0 s_4 s_5))))) (fun (Q : Prop) => joinP1 (fun (t24 : Bool) => cond t24 (K 0 0 0 0 0 0 0 0 false 3 s s_1) (Q )) (fun (Q_1 : Bool → Prop) => cond ((((b_1.length : Nat) : Int) : Int) != hostLen) (Q_1 ((((b_1.length : Nat) : Int) : Int) != portLen)) (Q_1 false)))
theorem pmp_read_ok {σ3 : Type} {A3 : σ3 → HP} {σ4 : Type} {A4 : σ4 → HP} {p_1 : Option Addr} {n_1 : Nat} {c_1 : Nat} {ff3 : Fn} {fa3 : Array Value} {fc3 : Array Value} {ff4 : Fn} {fa4 : Array Value} {fc4 : Array Value} {b_1 : List (Int)} {hostLen : Int} {portLen : Int} {s : σ3} {Y3 : (Bool) → σ3 → (Int → Int → Int → Int → Int → Int → Int → Int → σ3 → Prop) → Prop} {s_1 : σ4} {Y4 : (Int × Int × Int × Int × Int × Int × Int × Int) → (Bool) → σ4 → (List (Int) → σ4 → Prop) → Prop} {FL : List HP} {w : World} {K : Int → Int → Int → Int → Int → Int → Int → Int → Bool → Int → σ3 → σ4 → Prop} {R : Value → World → Prop}
  (hY3 : ∀ (x0 : Bool) (s : σ3) (K : Int → Int → Int → Int → Int → Int → Int → Int → σ3 → Prop) (FL2 : List HP) (w : World) (R : Value → World → Prop), (∀ w, Mem FL2 w → Mem FL w) → Mem (A3 s :: FL2) w → Y3 x0 s K → (∀ (r0 : Int) (r1 : Int) (r2 : Int) (r3 : Int) (r4 : Int) (r5 : Int) (r6 : Int) (r7 : Int) (s : σ3) (w : World), Mem (A3 s :: FL2) w → K r0 r1 r2 r3 r4 r5 r6 r7 s → R (Value.agg #[(Value.int .i64 r0), (Value.int .i64 r1), (Value.int .i64 r2), (Value.int .i64 r3), (Value.int .u64 r4), (Value.int .i64 r5), (Value.int .i64 r6), (Value.int .u32 r7)]) w) → CalleeV Try.prog (Value.func ff3 fa3 fc3) #[(Value.bool x0)] w R)
  (hY4 : ∀ (x0 : Int × Int × Int × Int × Int × Int × Int × Int) (x1 : Bool) (s : σ4) (K : List (Int) → σ4 → Prop) (FL2 : List HP) (w : World) (R : Value → World → Prop), (∀ w, Mem FL2 w → Mem FL w) → Mem (A4 s :: FL2) w → Y4 x0 x1 s K → (∀ (r : List (Int)) (s : σ4) (p : Option Addr) (c : Nat) (w : World), Mem (row enc5 5 1 p c r :: A4 s :: FL2) w → K r s → R (Value.slice p r.length c) w) → CalleeV Try.prog (Value.func ff4 fa4 fc4) #[(Value.agg #[(Value.int .i64 x0.1), (Value.int .i64 x0.2.1), (Value.int .i64 x0.2.2.1), (Value.int .i64 x0.2.2.2.1), (Value.int .u64 x0.2.2.2.2.1), (Value.int .i64 x0.2.2.2.2.2.1), (Value.int .i64 x0.2.2.2.2.2.2.1), (Value.int .u32 x0.2.2.2.2.2.2.2)]), (Value.bool x1)] w R)
  (hF_b_1 : ∀ w, Mem FL w → Rd w 1 p_1 enc5 b_1) (hl_b_1 : n_1 = b_1.length) (hc_b_1 : n_1 ≤ c_1)
  (h : Mem (A3 s :: A4 s_1 :: FL) w) (hp : pmp_read_wp b_1 hostLen portLen s Y3 s_1 Y4 K)
  (hR : ∀ (r : Int) (r_1 : Int) (r_2 : Int) (r_3 : Int) (r_4 : Int) (r_5 : Int) (r_6 : Int) (r_7 : Int) (r_8 : Bool) (r_9 : Int) (s_2 : σ3) (s_3 : σ4) (w : World), Mem (A3 s_2 :: A4 s_3 :: FL) w → K r r_1 r_2 r_3 r_4 r_5 r_6 r_7 r_8 r_9 s_2 s_3 → R (Value.tuple #[(Value.agg #[(Value.int .i64 r), (Value.int .i64 r_1), (Value.int .i64 r_2), (Value.int .i64 r_3), (Value.int .u64 r_4), (Value.int .i64 r_5), (Value.int .i64 r_6), (Value.int .u32 r_7)]), (Value.bool r_8), (Value.int .i64 r_9)]) w) :
  CallV Try.prog 39 #[(Value.slice p_1 n_1 c_1), (Value.int .i64 hostLen), (Value.int .i64 portLen), (Value.func ff3 fa3 fc3), (Value.func ff4 fa4 fc4)] w R := by
  refine pmp_read_call ?_
  unfold pmp_read
  unfold pmp_read_wp at hp
  subst hl_b_1
  refine newL (o := [(Value.int .i64 0), (Value.int .i64 0), (Value.int .i64 0), (Value.int .i64 0), (Value.int .u64 0), (Value.int .i64 0), (Value.int .i64 0), (Value.int .u32 0)]) h ?_
  intro b_2 w h
  obtain ⟨Q, hq, hp⟩ := hp
  refine ⟨fun b0p b0l b0c hostLen1 of3 tell4 t10 w => p_1 = b0p ∧ b_1.length = b0l ∧ c_1 = b0c ∧ hostLen = hostLen1 ∧ (Value.func ff3 fa3 fc3) = of3 ∧ (Value.func ff4 fa4 fc4) = tell4 ∧ (Addr.mk b_2 0 none) = t10 ∧ Q ∧ Mem (cel b_2 36 [(Value.int .i64 0), (Value.int .i64 0), (Value.int .i64 0), (Value.int .i64 0), (Value.int .u64 0), (Value.int .i64 0), (Value.int .i64 0), (Value.int .u32 0)] :: A3 s :: A4 s_1 :: FL) w, ?_, ?_⟩
  · rintro b0p b0l b0c hostLen1 of3 tell4 t10 w ⟨rfl, rfl, rfl, rfl, rfl, rfl, rfl, hp, h⟩
    replace hp := hq  hp
    unfold pmp_read_j1
    replace h := h.pick [1]
    dsimp only [pickL, pickR, nthH, delH, dropH, List.cons_append, List.nil_append] at h
    refine hY3 ((((b_1.length : Nat) : Int) : Int) == hostLen) _ _ (cel b_2 36 [(Value.int .i64 0), (Value.int .i64 0), (Value.int .i64 0), (Value.int .i64 0), (Value.int .u64 0), (Value.int .i64 0), (Value.int .i64 0), (Value.int .u32 0)] :: A4 s_1 :: FL) _ _ (fun _ h => Mem.drop 2 h) h hp ?_
    intro t32_0 t32_1 t32_2 t32_3 t32_4 t32_5 t32_6 t32_7 s_4 w h hp
    refine ⟨_, _, _, _, _, _, _, _, rfl, ?_⟩
    refine newL (o := [(Value.int .i64 0), (Value.int .i64 0), (Value.int .i64 0), (Value.int .i64 0), (Value.int .u64 0), (Value.int .i64 0), (Value.int .i64 0), (Value.int .u32 0)]) h ?_
    intro b_3 w h
    refine storeL (ys := [(Value.int .i64 t32_0), (Value.int .i64 t32_1), (Value.int .i64 t32_2), (Value.int .i64 t32_3), (Value.int .u64 t32_4), (Value.int .i64 t32_5), (Value.int .i64 t32_6), (Value.int .u32 t32_7)]) h 0 0 rfl rfl rfl sz36 rfl rfl ?_
    intro w h
    dsimp only [setH, setVs, setV] at h
    refine ⟨_, cellL h 0 0 rfl rfl rfl, _, cellL h 0 1 rfl rfl rfl, _, cellL h 0 2 rfl rfl rfl, _, cellL h 0 3 rfl rfl rfl, _, cellL h 0 4 rfl rfl rfl, _, cellL h 0 5 rfl rfl rfl, _, cellL h 0 6 rfl rfl rfl, _, cellL h 0 7 rfl rfl rfl, ?_⟩
    replace h := h.pick [3]
    dsimp only [pickL, pickR, nthH, delH, dropH, List.cons_append, List.nil_append] at h
    refine hY4 (t32_0, t32_1, t32_2, t32_3, t32_4, t32_5, t32_6, t32_7) ((((b_1.length : Nat) : Int) : Int) == hostLen) _ _ (cel b_3 36 [(Value.int .i64 t32_0), (Value.int .i64 t32_1), (Value.int .i64 t32_2), (Value.int .i64 t32_3), (Value.int .u64 t32_4), (Value.int .i64 t32_5), (Value.int .i64 t32_6), (Value.int .u32 t32_7)] :: A3 s_4 :: cel b_2 36 [(Value.int .i64 0), (Value.int .i64 0), (Value.int .i64 0), (Value.int .i64 0), (Value.int .u64 0), (Value.int .i64 0), (Value.int .i64 0), (Value.int .u32 0)] :: FL) _ _ (fun _ h => Mem.drop 3 h) h hp ?_
    intro rs s_5 p_2 c_2 w h hp
    have cpp_2 := rowCap h 0 rfl
    refine ⟨_, _, _, rfl, ?_⟩
    refine slices_Equal_sl_byte_byte_ok (FL := row enc5 5 1 p_2 c_2 rs :: A4 s_5 :: cel b_3 36 [(Value.int .i64 t32_0), (Value.int .i64 t32_1), (Value.int .i64 t32_2), (Value.int .i64 t32_3), (Value.int .u64 t32_4), (Value.int .i64 t32_5), (Value.int .i64 t32_6), (Value.int .u32 t32_7)] :: A3 s_4 :: cel b_2 36 [(Value.int .i64 0), (Value.int .i64 0), (Value.int .i64 0), (Value.int .i64 0), (Value.int .u64 0), (Value.int .i64 0), (Value.int .i64 0), (Value.int .u32 0)] :: FL) (fun w h => (rowRd h 0 encL5 rfl)) rfl cpp_2 (fun w h => (hF_b_1 _ (h.drop 5))) rfl hc_b_1 h hp ?_
    intro r w h hp
    refine ⟨_, rfl, ?_⟩
    refine cond_both hp (fun hp => ?_) (fun hp => ?_)
    · refine storeL (ys := [(Value.int .i64 0), (Value.int .i64 0), (Value.int .i64 0), (Value.int .i64 0), (Value.int .u64 0), (Value.int .i64 0), (Value.int .i64 0), (Value.int .u32 0)]) h 4 0 rfl rfl rfl sz36 rfl rfl ?_
      intro w h
      dsimp only [setH, setVs, setV] at h
      refine ⟨_, cellL h 4 0 rfl rfl rfl, _, cellL h 4 1 rfl rfl rfl, _, cellL h 4 2 rfl rfl rfl, _, cellL h 4 3 rfl rfl rfl, _, cellL h 4 4 rfl rfl rfl, _, cellL h 4 5 rfl rfl rfl, _, cellL h 4 6 rfl rfl rfl, _, cellL h 4 7 rfl rfl rfl, ?_⟩
      replace h := h.sel [3, 1] 3
      dsimp only [pickL, pickR, nthH, delH, dropH, List.cons_append, List.nil_append] at h
      exact hR 0 0 0 0 0 0 0 0 false 3 s_4 s_5 _ h hp
    refine ⟨_, cellL h 2 0 rfl rfl rfl, _, cellL h 2 1 rfl rfl rfl, _, cellL h 2 2 rfl rfl rfl, _, cellL h 2 3 rfl rfl rfl, _, cellL h 2 4 rfl rfl rfl, _, cellL h 2 5 rfl rfl rfl, _, cellL h 2 6 rfl rfl rfl, _, cellL h 2 7 rfl rfl rfl, ?_⟩
    refine storeL (ys := [(Value.int .i64 t32_0), (Value.int .i64 t32_1), (Value.int .i64 t32_2), (Value.int .i64 t32_3), (Value.int .u64 t32_4), (Value.int .i64 t32_5), (Value.int .i64 t32_6), (Value.int .u32 t32_7)]) h 4 0 rfl rfl rfl sz36 rfl rfl ?_
    intro w h
    dsimp only [setH, setVs, setV] at h
    refine ⟨_, cellL h 4 0 rfl rfl rfl, _, cellL h 4 1 rfl rfl rfl, _, cellL h 4 2 rfl rfl rfl, _, cellL h 4 3 rfl rfl rfl, _, cellL h 4 4 rfl rfl rfl, _, cellL h 4 5 rfl rfl rfl, _, cellL h 4 6 rfl rfl rfl, _, cellL h 4 7 rfl rfl rfl, ?_⟩
    replace h := h.sel [3, 1] 3
    dsimp only [pickL, pickR, nthH, delH, dropH, List.cons_append, List.nil_append] at h
    exact hR t32_0 t32_1 t32_2 t32_3 t32_4 t32_5 t32_6 t32_7 ((((b_1.length : Nat) : Int) : Int) == hostLen) 0 s_4 s_5 _ h hp
  clear hq
  obtain ⟨Q_1, hq, hp⟩ := hp
  refine ⟨fun b0_1p b0_1l b0_1c hostLen1_1 of3_1 tell4_1 t10_1 t24 w => p_1 = b0_1p ∧ b_1.length = b0_1l ∧ c_1 = b0_1c ∧ hostLen = hostLen1_1 ∧ (Value.func ff3 fa3 fc3) = of3_1 ∧ (Value.func ff4 fa4 fc4) = tell4_1 ∧ (Addr.mk b_2 0 none) = t10_1 ∧ Q_1 t24 ∧ Mem (cel b_2 36 [(Value.int .i64 0), (Value.int .i64 0), (Value.int .i64 0), (Value.int .i64 0), (Value.int .u64 0), (Value.int .i64 0), (Value.int .i64 0), (Value.int .u32 0)] :: A3 s :: A4 s_1 :: FL) w, ?_, ?_⟩
  · rintro b0_1p b0_1l b0_1c hostLen1_1 of3_1 tell4_1 t10_1 t24 w ⟨rfl, rfl, rfl, rfl, rfl, rfl, rfl, hp, h⟩
    replace hp := hq t24 hp
    unfold pmp_read_j2
    refine cond_both' hp (fun hp => ?_) (fun hp => ?_)
    · exact ⟨rfl, rfl, rfl, rfl, rfl, rfl, rfl, hp, h⟩
    refine storeL (ys := [(Value.int .i64 0), (Value.int .i64 0), (Value.int .i64 0), (Value.int .i64 0), (Value.int .u64 0), (Value.int .i64 0), (Value.int .i64 0), (Value.int .u32 0)]) h 0 0 rfl rfl rfl sz36 rfl rfl ?_
    intro w h
    dsimp only [setH, setVs, setV] at h
    refine ⟨_, cellL h 0 0 rfl rfl rfl, _, cellL h 0 1 rfl rfl rfl, _, cellL h 0 2 rfl rfl rfl, _, cellL h 0 3 rfl rfl rfl, _, cellL h 0 4 rfl rfl rfl, _, cellL h 0 5 rfl rfl rfl, _, cellL h 0 6 rfl rfl rfl, _, cellL h 0 7 rfl rfl rfl, ?_⟩
    replace h := h.sel [1, 1] 1
    dsimp only [pickL, pickR, nthH, delH, dropH, List.cons_append, List.nil_append] at h
    exact hR 0 0 0 0 0 0 0 0 false 3 s s_1 _ h hp
  clear hq
  refine cond_both hp (fun hp => ?_) (fun hp => ?_)
  · exact ⟨rfl, rfl, rfl, rfl, rfl, rfl, rfl, hp, h⟩
  exact ⟨rfl, rfl, rfl, rfl, rfl, rfl, rfl, hp, h⟩

/-! embrasure/pmp.mayAnswer (50) -/
def pmp_mayAnswer_wp (l_Ver : Int) (l_Inside : Int) (l_Port : Int) (l_Secs : Int) (l_Nonce : Int) (l_Result : Int) (l_Epoch : Int) (l_Host : Int) (host : Bool) (K : Bool → Prop) : Prop :=
  joinP4 (fun (Inside : Int) (Port : Int) (Secs : Int) (Host : Int) => pmp_fits_wp l_Ver l_Inside l_Port l_Secs l_Nonce l_Result l_Epoch l_Host (fun (r : Bool) => cond r (K (((l_Ver : Int) == 0) && (((l_Inside : Int) == Inside) && (((l_Port : Int) == Port) && (((l_Secs : Int) == Secs) && (((l_Nonce : Int) == 0) && (((l_Result : Int) == l_Result) && (((l_Epoch : Int) == l_Epoch) && (((l_Host : Int) == Host) && true))))))))) (K false))) (fun (Q : Int → Int → Int → Int → Prop) => cond host (Q 0 0 0 l_Host) (Q l_Inside l_Port l_Secs 0))
theorem pmp_mayAnswer_ok {l_Ver : Int} {l_Inside : Int} {l_Port : Int} {l_Secs : Int} {l_Nonce : Int} {l_Result : Int} {l_Epoch : Int} {l_Host : Int} {host : Bool} {FL : List HP} {w : World} {K : Bool → Prop} {R : Value → World → Prop}
  (h : Mem (FL) w) (hp : pmp_mayAnswer_wp l_Ver l_Inside l_Port l_Secs l_Nonce l_Result l_Epoch l_Host host K)
  (hR : ∀ (r : Bool) (w : World), Mem (FL) w → K r → R (Value.bool r) w) :
  CallV Try.prog 50 #[(Value.agg #[(Value.int .i64 l_Ver), (Value.int .i64 l_Inside), (Value.int .i64 l_Port), (Value.int .i64 l_Secs), (Value.int .u64 l_Nonce), (Value.int .i64 l_Result), (Value.int .i64 l_Epoch), (Value.int .u32 l_Host)]), (Value.bool host)] w R := by
  refine pmp_mayAnswer_call ?_
  unfold pmp_mayAnswer
  unfold pmp_mayAnswer_wp at hp
  refine newL (o := [(Value.int .i64 l_Ver), (Value.int .i64 l_Inside), (Value.int .i64 l_Port), (Value.int .i64 l_Secs), (Value.int .u64 l_Nonce), (Value.int .i64 l_Result), (Value.int .i64 l_Epoch), (Value.int .u32 l_Host)]) h ?_
  intro b_1 w h
  refine ⟨_, cellL h 0 1 rfl rfl rfl, ?_⟩
  refine ⟨_, cellL h 0 2 rfl rfl rfl, ?_⟩
  refine ⟨_, cellL h 0 3 rfl rfl rfl, ?_⟩
  refine ⟨_, cellL h 0 5 rfl rfl rfl, ?_⟩
  refine ⟨_, cellL h 0 6 rfl rfl rfl, ?_⟩
  refine newL (o := [(Value.int .i64 0), (Value.int .i64 0), (Value.int .i64 0), (Value.int .i64 0), (Value.int .u64 0), (Value.int .i64 0), (Value.int .i64 0), (Value.int .u32 0)]) h ?_
  intro b_2 w h
  refine storeL (ys := [(Value.int .i64 0), (Value.int .i64 l_Inside), (Value.int .i64 l_Port), (Value.int .i64 l_Secs), (Value.int .u64 0), (Value.int .i64 l_Result), (Value.int .i64 l_Epoch), (Value.int .u32 0)]) h 0 0 rfl rfl rfl sz36 rfl rfl ?_
  intro w h
  dsimp only [setH, setVs, setV] at h
  obtain ⟨Q, hq, hp⟩ := hp
  refine ⟨fun l2 bare5 w => ∃ (Inside : Int), ∃ (Port : Int), ∃ (Secs : Int), ∃ (Host : Int), (Addr.mk b_1 0 none) = l2 ∧ (Addr.mk b_2 0 none) = bare5 ∧ Q Inside Port Secs Host ∧ Mem (cel b_2 36 [(Value.int .i64 0), (Value.int .i64 Inside), (Value.int .i64 Port), (Value.int .i64 Secs), (Value.int .u64 0), (Value.int .i64 l_Result), (Value.int .i64 l_Epoch), (Value.int .u32 Host)] :: cel b_1 36 [(Value.int .i64 l_Ver), (Value.int .i64 l_Inside), (Value.int .i64 l_Port), (Value.int .i64 l_Secs), (Value.int .u64 l_Nonce), (Value.int .i64 l_Result), (Value.int .i64 l_Epoch), (Value.int .u32 l_Host)] :: FL) w, ?_, ?_⟩
  · rintro l2 bare5 w ⟨Inside, Port, Secs, Host, rfl, rfl, hp, h⟩
    replace hp := hq Inside Port Secs Host hp
    unfold pmp_mayAnswer_j1
    refine ⟨_, cellL h 1 0 rfl rfl rfl, _, cellL h 1 1 rfl rfl rfl, _, cellL h 1 2 rfl rfl rfl, _, cellL h 1 3 rfl rfl rfl, _, cellL h 1 4 rfl rfl rfl, _, cellL h 1 5 rfl rfl rfl, _, cellL h 1 6 rfl rfl rfl, _, cellL h 1 7 rfl rfl rfl, ?_⟩
    refine pmp_fits_ok h hp ?_
    intro r w h hp
    refine ⟨_, rfl, ?_⟩
    refine cond_both' hp (fun hp => ?_) (fun hp => ?_)
    · replace h := h.sel [] 2
      dsimp only [pickL, pickR, nthH, delH, dropH, List.cons_append, List.nil_append] at h
      exact hR false _ h hp
    refine ⟨_, cellL h 1 0 rfl rfl rfl, _, cellL h 1 1 rfl rfl rfl, _, cellL h 1 2 rfl rfl rfl, _, cellL h 1 3 rfl rfl rfl, _, cellL h 1 4 rfl rfl rfl, _, cellL h 1 5 rfl rfl rfl, _, cellL h 1 6 rfl rfl rfl, _, cellL h 1 7 rfl rfl rfl, ?_⟩
    refine ⟨_, cellL h 0 0 rfl rfl rfl, _, cellL h 0 1 rfl rfl rfl, _, cellL h 0 2 rfl rfl rfl, _, cellL h 0 3 rfl rfl rfl, _, cellL h 0 4 rfl rfl rfl, _, cellL h 0 5 rfl rfl rfl, _, cellL h 0 6 rfl rfl rfl, _, cellL h 0 7 rfl rfl rfl, ?_⟩
    refine eqlAgg (xs := [(Value.int .i64 l_Ver), (Value.int .i64 l_Inside), (Value.int .i64 l_Port), (Value.int .i64 l_Secs), (Value.int .u64 l_Nonce), (Value.int .i64 l_Result), (Value.int .i64 l_Epoch), (Value.int .u32 l_Host)]) (ys := [(Value.int .i64 0), (Value.int .i64 Inside), (Value.int .i64 Port), (Value.int .i64 Secs), (Value.int .u64 0), (Value.int .i64 l_Result), (Value.int .i64 l_Epoch), (Value.int .u32 Host)]) eqG36 eqA36 (eqT36 l_Ver l_Inside l_Port l_Secs l_Nonce l_Result l_Epoch l_Host 0 Inside Port Secs 0 l_Result l_Epoch Host) ?_
    refine ⟨_, rfl, ?_⟩
    replace h := h.sel [] 2
    dsimp only [pickL, pickR, nthH, delH, dropH, List.cons_append, List.nil_append] at h
    exact hR (((l_Ver : Int) == 0) && (((l_Inside : Int) == Inside) && (((l_Port : Int) == Port) && (((l_Secs : Int) == Secs) && (((l_Nonce : Int) == 0) && (((l_Result : Int) == l_Result) && (((l_Epoch : Int) == l_Epoch) && (((l_Host : Int) == Host) && true)))))))) _ h hp
  clear hq
  refine cond_both' hp (fun hp => ?_) (fun hp => ?_)
  · exact ⟨l_Inside, l_Port, l_Secs, 0, rfl, rfl, hp, h⟩
  refine ⟨_, cellL h 1 5 rfl rfl rfl, ?_⟩
  refine ⟨_, cellL h 1 6 rfl rfl rfl, ?_⟩
  refine ⟨_, cellL h 1 7 rfl rfl rfl, ?_⟩
  refine storeL (ys := [(Value.int .i64 0), (Value.int .i64 0), (Value.int .i64 0), (Value.int .i64 0), (Value.int .u64 0), (Value.int .i64 l_Result), (Value.int .i64 l_Epoch), (Value.int .u32 l_Host)]) h 0 0 rfl rfl rfl sz36 rfl rfl ?_
  intro w h
  dsimp only [setH, setVs, setV] at h
  exact ⟨0, 0, 0, l_Host, rfl, rfl, hp, h⟩

/-! embrasure/pmp.Answer (42) -/
def pmp_Answer_wp (l_Ver : Int) (l_Inside : Int) (l_Port : Int) (l_Secs : Int) (l_Nonce : Int) (l_Result : Int) (l_Epoch : Int) (l_Host : Int) (host : Bool) (K : List (Int) → Prop) : Prop :=
  pmp_mayAnswer_wp l_Ver l_Inside l_Port l_Secs l_Nonce l_Result l_Epoch l_Host host (fun (r : Bool) => cond (!r) (K ([] : List (Int))) (cond host (pmp_short_wp l_Result (fun (rs : List (Int)) => pmp_long_wp l_Epoch (fun (rs_1 : List (Int)) => pmp_long_wp (IntKind.wrap .i64 l_Host) (fun (rs_2 : List (Int)) => pmp_row_wp 128 [rs, rs_1, rs_2] (fun (rs_3 : List (Int)) => K rs_3))))) (pmp_short_wp l_Result (fun (rs_4 : List (Int)) => pmp_long_wp l_Epoch (fun (rs_5 : List (Int)) => pmp_short_wp l_Inside (fun (rs_6 : List (Int)) => pmp_short_wp l_Port (fun (rs_7 : List (Int)) => pmp_long_wp l_Secs (fun (rs_8 : List (Int)) => pmp_row_wp 129 [rs_4, rs_5, rs_6, rs_7, rs_8] (fun (rs_9 : List (Int)) => K rs_9)))))))))
theorem pmp_Answer_ok {l_Ver : Int} {l_Inside : Int} {l_Port : Int} {l_Secs : Int} {l_Nonce : Int} {l_Result : Int} {l_Epoch : Int} {l_Host : Int} {host : Bool} {FL : List HP} {w : World} {K : List (Int) → Prop} {R : Value → World → Prop}
  (h : Mem (FL) w) (hp : pmp_Answer_wp l_Ver l_Inside l_Port l_Secs l_Nonce l_Result l_Epoch l_Host host K)
  (hR : ∀ (rs : List (Int)) (p_1 : Option Addr) (n_1 : Nat) (c_1 : Nat) (w : World), n_1 = rs.length → Mem (row enc5 5 1 p_1 c_1 rs :: FL) w → K rs → R (Value.slice p_1 n_1 c_1) w) :
  CallV Try.prog 42 #[(Value.agg #[(Value.int .i64 l_Ver), (Value.int .i64 l_Inside), (Value.int .i64 l_Port), (Value.int .i64 l_Secs), (Value.int .u64 l_Nonce), (Value.int .i64 l_Result), (Value.int .i64 l_Epoch), (Value.int .u32 l_Host)]), (Value.bool host)] w R := by
  refine pmp_Answer_call ?_
  unfold pmp_Answer
  unfold pmp_Answer_wp at hp
  refine newL (o := [(Value.int .i64 l_Ver), (Value.int .i64 l_Inside), (Value.int .i64 l_Port), (Value.int .i64 l_Secs), (Value.int .u64 l_Nonce), (Value.int .i64 l_Result), (Value.int .i64 l_Epoch), (Value.int .u32 l_Host)]) h ?_
  intro b_1 w h
  refine ⟨_, cellL h 0 0 rfl rfl rfl, _, cellL h 0 1 rfl rfl rfl, _, cellL h 0 2 rfl rfl rfl, _, cellL h 0 3 rfl rfl rfl, _, cellL h 0 4 rfl rfl rfl, _, cellL h 0 5 rfl rfl rfl, _, cellL h 0 6 rfl rfl rfl, _, cellL h 0 7 rfl rfl rfl, ?_⟩
  refine pmp_mayAnswer_ok h hp ?_
  intro r w h hp
  refine ⟨_, rfl, ?_⟩
  refine cond_both hp (fun hp => ?_) (fun hp => ?_)
  · replace h := rowNil enc5 5 1 h
    replace h := h.sel [0] 1
    dsimp only [pickL, pickR, nthH, delH, dropH, List.cons_append, List.nil_append] at h
    exact hR ([] : List (Int)) (none ) 0 0 _ rfl h hp
  refine cond_both hp (fun hp => ?_) (fun hp => ?_)
  · replace h := h.drew
    refine ⟨fun w => Mem (cel b_1 36 [(Value.int .i64 l_Ver), (Value.int .i64 l_Inside), (Value.int .i64 l_Port), (Value.int .i64 l_Secs), (Value.int .u64 l_Nonce), (Value.int .i64 l_Result), (Value.int .i64 l_Epoch), (Value.int .u32 l_Host)] :: FL) w, (h.sel [0] 0), ?_⟩
    refine ⟨_, cellL h 0 5 rfl rfl rfl, ?_⟩
    refine ⟨_, cellL h 0 6 rfl rfl rfl, ?_⟩
    refine ⟨?_, ?_⟩
    · intro w h
      change Mem _ _ at h
      refine ⟨_, cellL h 0 6 rfl rfl rfl, ?_⟩
      exact ⟨rfl, rfl⟩
    refine ⟨_, cellL h 0 7 rfl rfl rfl, ?_⟩
    refine ⟨?_, ?_⟩
    · intro w h
      change Mem _ _ at h
      refine ⟨_, cellL h 0 7 rfl rfl rfl, ?_⟩
      exact ⟨rfl, rfl⟩
    refine pmp_short_ok h hp ?_
    rintro rs p_2 n_1 c_1 w rfl h hp
    have cpp_2 := rowCap h 0 rfl
    refine ⟨_, _, _, rfl, ?_⟩
    refine ⟨(h.sel [1] 1), ?_⟩
    refine pmp_long_ok h hp ?_
    rintro rs_1 p_3 n_2 c_2 w rfl h hp
    have cpp_3 := rowCap h 0 rfl
    refine ⟨_, _, _, rfl, ?_⟩
    refine ⟨(h.sel [2] 2), ?_⟩
    refine pmp_long_ok h hp ?_
    rintro rs_2 p_4 n_3 c_3 w rfl h hp
    have cpp_4 := rowCap h 0 rfl
    refine ⟨_, _, _, rfl, ?_⟩
    refine newL (o := [(Value.slice p_2 rs.length c_1), (Value.slice p_3 rs_1.length c_2), (Value.slice p_4 rs_2.length c_3)]) h ?_
    intro b_2 w h
    refine pmp_row_ok (FL := cel b_2 38 [(Value.slice p_2 rs.length c_1), (Value.slice p_3 rs_1.length c_2), (Value.slice p_4 rs_2.length c_3)] :: row enc5 5 1 p_4 c_3 rs_2 :: row enc5 5 1 p_3 c_2 rs_1 :: row enc5 5 1 p_2 c_1 rs :: cel b_1 36 [(Value.int .i64 l_Ver), (Value.int .i64 l_Inside), (Value.int .i64 l_Port), (Value.int .i64 l_Secs), (Value.int .u64 l_Nonce), (Value.int .i64 l_Result), (Value.int .i64 l_Epoch), (Value.int .u32 l_Host)] :: FL) (fun w h => celRdD (z := 1) h 0 rfl [rs, rs_1, rs_2] [[(Value.slice p_2 rs.length c_1)], [(Value.slice p_3 rs_1.length c_2)], [(Value.slice p_4 rs_2.length c_3)]] rfl rfl (Fa2.cons ⟨_, _, _, rfl, rfl, cpp_2, (fun w h => (rowRd h 3 encL5 rfl))⟩ (Fa2.cons ⟨_, _, _, rfl, rfl, cpp_3, (fun w h => (rowRd h 2 encL5 rfl))⟩ (Fa2.cons ⟨_, _, _, rfl, rfl, cpp_4, (fun w h => (rowRd h 1 encL5 rfl))⟩ Fa2.nil)))) rfl (Nat.le_refl _) h hp ?_
    rintro rs_3 p_5 n_4 c_4 w rfl h hp
    have cpp_5 := rowCap h 0 rfl
    refine ⟨_, _, _, rfl, ?_⟩
    replace h := h.sel [0] 5
    dsimp only [pickL, pickR, nthH, delH, dropH, List.cons_append, List.nil_append] at h
    exact hR rs_3 p_5 rs_3.length c_4 _ rfl h hp
  replace h := h.drew
  refine ⟨fun w => Mem (cel b_1 36 [(Value.int .i64 l_Ver), (Value.int .i64 l_Inside), (Value.int .i64 l_Port), (Value.int .i64 l_Secs), (Value.int .u64 l_Nonce), (Value.int .i64 l_Result), (Value.int .i64 l_Epoch), (Value.int .u32 l_Host)] :: FL) w, (h.sel [0] 0), ?_⟩
  refine ⟨_, cellL h 0 5 rfl rfl rfl, ?_⟩
  refine ⟨_, cellL h 0 6 rfl rfl rfl, ?_⟩
  refine ⟨?_, ?_⟩
  · intro w h
    change Mem _ _ at h
    refine ⟨_, cellL h 0 6 rfl rfl rfl, ?_⟩
    exact ⟨rfl, rfl⟩
  refine ⟨_, cellL h 0 1 rfl rfl rfl, ?_⟩
  refine ⟨?_, ?_⟩
  · intro w h
    change Mem _ _ at h
    refine ⟨_, cellL h 0 1 rfl rfl rfl, ?_⟩
    exact ⟨rfl, rfl⟩
  refine ⟨_, cellL h 0 2 rfl rfl rfl, ?_⟩
  refine ⟨?_, ?_⟩
  · intro w h
    change Mem _ _ at h
    refine ⟨_, cellL h 0 2 rfl rfl rfl, ?_⟩
    exact ⟨rfl, rfl⟩
  refine ⟨_, cellL h 0 3 rfl rfl rfl, ?_⟩
  refine ⟨?_, ?_⟩
  · intro w h
    change Mem _ _ at h
    refine ⟨_, cellL h 0 3 rfl rfl rfl, ?_⟩
    exact ⟨rfl, rfl⟩
  refine pmp_short_ok h hp ?_
  rintro rs_4 p_6 n_5 c_5 w rfl h hp
  have cpp_6 := rowCap h 0 rfl
  refine ⟨_, _, _, rfl, ?_⟩
  refine ⟨(h.sel [1] 1), ?_⟩
  refine pmp_long_ok h hp ?_
  rintro rs_5 p_7 n_6 c_6 w rfl h hp
  have cpp_7 := rowCap h 0 rfl
  refine ⟨_, _, _, rfl, ?_⟩
  refine ⟨(h.sel [2] 2), ?_⟩
  refine pmp_short_ok h hp ?_
  rintro rs_6 p_8 n_7 c_7 w rfl h hp
  have cpp_8 := rowCap h 0 rfl
  refine ⟨_, _, _, rfl, ?_⟩
  refine ⟨(h.sel [3] 3), ?_⟩
  refine pmp_short_ok h hp ?_
  rintro rs_7 p_9 n_8 c_8 w rfl h hp
  have cpp_9 := rowCap h 0 rfl
  refine ⟨_, _, _, rfl, ?_⟩
  refine ⟨(h.sel [4] 4), ?_⟩
  refine pmp_long_ok h hp ?_
  rintro rs_8 p_10 n_9 c_9 w rfl h hp
  have cpp_10 := rowCap h 0 rfl
  refine ⟨_, _, _, rfl, ?_⟩
  refine newL (o := [(Value.slice p_6 rs_4.length c_5), (Value.slice p_7 rs_5.length c_6), (Value.slice p_8 rs_6.length c_7), (Value.slice p_9 rs_7.length c_8), (Value.slice p_10 rs_8.length c_9)]) h ?_
  intro b_3 w h
  refine pmp_row_ok (FL := cel b_3 38 [(Value.slice p_6 rs_4.length c_5), (Value.slice p_7 rs_5.length c_6), (Value.slice p_8 rs_6.length c_7), (Value.slice p_9 rs_7.length c_8), (Value.slice p_10 rs_8.length c_9)] :: row enc5 5 1 p_10 c_9 rs_8 :: row enc5 5 1 p_9 c_8 rs_7 :: row enc5 5 1 p_8 c_7 rs_6 :: row enc5 5 1 p_7 c_6 rs_5 :: row enc5 5 1 p_6 c_5 rs_4 :: cel b_1 36 [(Value.int .i64 l_Ver), (Value.int .i64 l_Inside), (Value.int .i64 l_Port), (Value.int .i64 l_Secs), (Value.int .u64 l_Nonce), (Value.int .i64 l_Result), (Value.int .i64 l_Epoch), (Value.int .u32 l_Host)] :: FL) (fun w h => celRdD (z := 1) h 0 rfl [rs_4, rs_5, rs_6, rs_7, rs_8] [[(Value.slice p_6 rs_4.length c_5)], [(Value.slice p_7 rs_5.length c_6)], [(Value.slice p_8 rs_6.length c_7)], [(Value.slice p_9 rs_7.length c_8)], [(Value.slice p_10 rs_8.length c_9)]] rfl rfl (Fa2.cons ⟨_, _, _, rfl, rfl, cpp_6, (fun w h => (rowRd h 5 encL5 rfl))⟩ (Fa2.cons ⟨_, _, _, rfl, rfl, cpp_7, (fun w h => (rowRd h 4 encL5 rfl))⟩ (Fa2.cons ⟨_, _, _, rfl, rfl, cpp_8, (fun w h => (rowRd h 3 encL5 rfl))⟩ (Fa2.cons ⟨_, _, _, rfl, rfl, cpp_9, (fun w h => (rowRd h 2 encL5 rfl))⟩ (Fa2.cons ⟨_, _, _, rfl, rfl, cpp_10, (fun w h => (rowRd h 1 encL5 rfl))⟩ Fa2.nil)))))) rfl (Nat.le_refl _) h hp ?_
  rintro rs_9 p_11 n_10 c_10 w rfl h hp
  have cpp_11 := rowCap h 0 rfl
  refine ⟨_, _, _, rfl, ?_⟩
  replace h := h.sel [0] 7
  dsimp only [pickL, pickR, nthH, delH, dropH, List.cons_append, List.nil_append] at h
  exact hR rs_9 p_11 rs_9.length c_10 _ rfl h hp

/-! embrasure/pmp.ReadAnswer (28) -/
def pmp_ReadAnswer_wp (b_1 : List (Int)) (K : Int → Int → Int → Int → Int → Int → Int → Int → Bool → Int → Prop) : Prop :=
  pmp_read_wp b_1 12 16 () (fun x_1 s K_1 => pmp_ReadAnswer_c1_wp x_1 b_1 (fun (r : Int) (r_1 : Int) (r_2 : Int) (r_3 : Int) (r_4 : Int) (r_5 : Int) (r_6 : Int) (r_7 : Int) => K_1 r r_1 r_2 r_3 r_4 r_5 r_6 r_7 s)) () (fun x_2 x_3 s_1 K_2 => pmp_Answer_wp x_2.1 x_2.2.1 x_2.2.2.1 x_2.2.2.2.1 x_2.2.2.2.2.1 x_2.2.2.2.2.2.1 x_2.2.2.2.2.2.2.1 x_2.2.2.2.2.2.2.2 x_3 (fun (rs : List (Int)) => K_2 rs s_1)) (fun (r : Int) (r_1 : Int) (r_2 : Int) (r_3 : Int) (r_4 : Int) (r_5 : Int) (r_6 : Int) (r_7 : Int) (r_8 : Bool) (r_9 : Int) (s_2 : (Unit)) (s_3 : (Unit)) => K r r_1 r_2 r_3 r_4 r_5 r_6 r_7 r_8 r_9)
theorem pmp_ReadAnswer_ok {p_1 : Option Addr} {n_1 : Nat} {c_1 : Nat} {b_1 : List (Int)} {FL : List HP} {w : World} {K : Int → Int → Int → Int → Int → Int → Int → Int → Bool → Int → Prop} {R : Value → World → Prop}
  (hF_b_1 : ∀ w, Mem FL w → Rd w 1 p_1 enc5 b_1) (hl_b_1 : n_1 = b_1.length) (hc_b_1 : n_1 ≤ c_1)
  (h : Mem (FL) w) (hp : pmp_ReadAnswer_wp b_1 K)
  (hR : ∀ (r : Int) (r_1 : Int) (r_2 : Int) (r_3 : Int) (r_4 : Int) (r_5 : Int) (r_6 : Int) (r_7 : Int) (r_8 : Bool) (r_9 : Int) (w : World), Mem (FL) w → K r r_1 r_2 r_3 r_4 r_5 r_6 r_7 r_8 r_9 → R (Value.tuple #[(Value.agg #[(Value.int .i64 r), (Value.int .i64 r_1), (Value.int .i64 r_2), (Value.int .i64 r_3), (Value.int .u64 r_4), (Value.int .i64 r_5), (Value.int .i64 r_6), (Value.int .u32 r_7)]), (Value.bool r_8), (Value.int .i64 r_9)]) w) :
  CallV Try.prog 28 #[(Value.slice p_1 n_1 c_1)] w R := by
  refine pmp_ReadAnswer_call ?_
  unfold pmp_ReadAnswer
  unfold pmp_ReadAnswer_wp at hp
  subst hl_b_1
  refine newL (o := [(Value.slice p_1 b_1.length c_1)]) h ?_
  intro b_2 w h
  refine newL (o := [(Value.int .i64 0), (Value.int .i64 0), (Value.int .i64 0), (Value.int .i64 0), (Value.int .u64 0), (Value.int .i64 0), (Value.int .i64 0), (Value.int .u32 0)]) h ?_
  intro b_3 w h
  refine ⟨_, _, _, cellL h 1 0 rfl rfl rfl, ?_⟩
  replace h := h.pick [1]
  dsimp only [pickL, pickR, nthH, delH, dropH, List.cons_append, List.nil_append] at h
  replace h : Mem ((fun (_ : Unit) => HL [cel b_2 38 [(Value.slice p_1 b_1.length c_1)]]) () :: cel b_3 36 [(Value.int .i64 0), (Value.int .i64 0), (Value.int .i64 0), (Value.int .i64 0), (Value.int .u64 0), (Value.int .i64 0), (Value.int .i64 0), (Value.int .u32 0)] :: FL) _ := h.pack 1 [cel b_2 38 [(Value.slice p_1 b_1.length c_1)]] rfl
  replace h : Mem ((fun (_ : Unit) => HL []) () :: (fun (_ : Unit) => HL [cel b_2 38 [(Value.slice p_1 b_1.length c_1)]]) () :: cel b_3 36 [(Value.int .i64 0), (Value.int .i64 0), (Value.int .i64 0), (Value.int .i64 0), (Value.int .u64 0), (Value.int .i64 0), (Value.int .i64 0), (Value.int .u32 0)] :: FL) _ := h.pack 0 [] rfl
  replace h := h.pick [1, 0]
  dsimp only [pickL, pickR, nthH, delH, dropH, List.cons_append, List.nil_append] at h
  refine pmp_read_ok (FL := cel b_3 36 [(Value.int .i64 0), (Value.int .i64 0), (Value.int .i64 0), (Value.int .i64 0), (Value.int .u64 0), (Value.int .i64 0), (Value.int .i64 0), (Value.int .u32 0)] :: FL) (A3 := (fun (_ : Unit) => HL [cel b_2 38 [(Value.slice p_1 b_1.length c_1)]])) (Y3 := (fun x_1 s K_1 => pmp_ReadAnswer_c1_wp x_1 b_1 (fun (r : Int) (r_1 : Int) (r_2 : Int) (r_3 : Int) (r_4 : Int) (r_5 : Int) (r_6 : Int) (r_7 : Int) => K_1 r r_1 r_2 r_3 r_4 r_5 r_6 r_7 s))) (σ3 := Unit) (s := ()) ?_ (A4 := (fun (_ : Unit) => HL [])) (Y4 := (fun x_2 x_3 s_1 K_2 => pmp_Answer_wp x_2.1 x_2.2.1 x_2.2.2.1 x_2.2.2.2.1 x_2.2.2.2.2.1 x_2.2.2.2.2.2.1 x_2.2.2.2.2.2.2.1 x_2.2.2.2.2.2.2.2 x_3 (fun (rs : List (Int)) => K_2 rs s_1))) (σ4 := Unit) (s_1 := ()) ?_ (fun w h => (hF_b_1 _ (h.drop 1))) rfl hc_b_1 h hp ?_
  · intro x_1 s K FL2 w R hx h hp hR
    replace h := h.unpack
    dsimp only [pickL, pickR, nthH, delH, dropH, List.cons_append, List.nil_append] at h
    refine calleeFn (by kernel_rfl) ?_
    refine pmp_ReadAnswer_c1_ok (fun w h => by have h := hx w h; exact (hF_b_1 _ (h.drop 1))) rfl hc_b_1 h hp ?_
    intro r r_1 r_2 r_3 r_4 r_5 r_6 r_7 w h hp
    exact hR r r_1 r_2 r_3 r_4 r_5 r_6 r_7 s _ (h.pack 1 [cel b_2 38 [(Value.slice p_1 b_1.length c_1)]] rfl) hp
  · intro x_2 x_3 s_1 K FL2 w R hx h hp hR
    replace h := h.unpack
    dsimp only [pickL, pickR, nthH, delH, dropH, List.cons_append, List.nil_append] at h
    refine calleeFn (by kernel_rfl) ?_
    refine pmp_Answer_ok h hp ?_
    rintro rs p_1' n_ c_1' w rfl h hp
    replace h : Mem ((fun (_ : Unit) => HL []) s_1 :: row enc5 5 1 p_1' c_1' rs :: FL2) _ := h.pack 0 [] rfl
    replace h := h.pick [1]
    dsimp only [pickL, pickR, nthH, delH, dropH, List.cons_append, List.nil_append] at h
    exact hR rs s_1 p_1' c_1' _ h hp
  intro r r_1 r_2 r_3 r_4 r_5 r_6 r_7 r_8 r_9 s_2 s_3 w h hp
  replace h := h.unpack
  dsimp only [pickL, pickR, nthH, delH, dropH, List.cons_append, List.nil_append] at h
  replace h := h.pick [1]
  dsimp only [pickL, pickR, nthH, delH, dropH, List.cons_append, List.nil_append] at h
  replace h := h.unpack
  dsimp only [pickL, pickR, nthH, delH, dropH, List.cons_append, List.nil_append] at h
  refine ⟨_, _, _, _, _, _, _, _, _, _, rfl, ?_⟩
  refine ⟨_, _, _, _, _, _, _, _, rfl, ?_⟩
  refine ⟨_, rfl, ?_⟩
  refine storeL (ys := [(Value.int .i64 r), (Value.int .i64 r_1), (Value.int .i64 r_2), (Value.int .i64 r_3), (Value.int .u64 r_4), (Value.int .i64 r_5), (Value.int .i64 r_6), (Value.int .u32 r_7)]) h 1 0 rfl rfl rfl sz36 rfl rfl ?_
  intro w h
  dsimp only [setH, setVs, setV] at h
  refine ⟨_, cellL h 1 0 rfl rfl rfl, _, cellL h 1 1 rfl rfl rfl, _, cellL h 1 2 rfl rfl rfl, _, cellL h 1 3 rfl rfl rfl, _, cellL h 1 4 rfl rfl rfl, _, cellL h 1 5 rfl rfl rfl, _, cellL h 1 6 rfl rfl rfl, _, cellL h 1 7 rfl rfl rfl, ?_⟩
  replace h := h.sel [] 2
  dsimp only [pickL, pickR, nthH, delH, dropH, List.cons_append, List.nil_append] at h
  exact hR r r_1 r_2 r_3 r_4 r_5 r_6 r_7 r_8 r_9 _ h hp

/-! (*embrasure/mapper.Mapper).pmp (16) -/
def mapper_Mapper_pmp_wp (s : Int) (s_1 : Int) (s_2 : Int) (s_3 : Int) (s_4 : Int) (s_5 : Int) (s_6 : Int) (s_7 : Int) (host : Int) (secs : Int) (nonce : Int) (wish : Int) (wish_1 : Int) (outside : Int) (now : Int) (epoch : Int) (epochAt : Int) (hasEpoch : Bool) (b_2 : List (Int)) (m_1 : List ((Option Addr × Nat × Nat) × List (Int))) (K : List ((Option Addr × Nat × Nat)) → Int → Int → Int → Int → Int → Int → Int → Int → Int → Int → Int → Int → Bool → List ((Option Addr × Nat × Nat) × List (Int)) → Prop) : Prop :=
  pmp_ReadAnswer_wp b_2 (fun (r : Int) (r_1 : Int) (r_2 : Int) (r_3 : Int) (r_4 : Int) (r_5 : Int) (r_6 : Int) (r_7 : Int) (r_8 : Bool) (r_9 : Int) => cond ((r_9 : Int) != 0) (K ([] : List ((Option Addr × Nat × Nat))) s s_1 s_3 s_4 s_5 s_6 s_7 wish wish_1 outside epoch epochAt hasEpoch m_1) (cond ((r_5 : Int) == 1) (mapper_Mapper_unspoken_wp s s_1 s_2 s_3 s_4 s_5 s_6 s_7 host secs nonce wish wish_1 outside now epoch epochAt hasEpoch m_1 (fun (rs : List ((Option Addr × Nat × Nat))) (s_15 : Int) (s_16 : Int) (s_17 : Int) (s_18 : Int) (s_19 : Int) (s_20 : Int) (s_21 : Int) (hasEpoch_2 : Bool) (m_3 : List ((Option Addr × Nat × Nat) × List (Int))) => K rs s_15 s_16 s_17 s_18 s_19 s_20 s_21 wish wish_1 outside epoch epochAt hasEpoch_2 m_3)) (cond ((s_1 : Int) != 0) (K ([] : List ((Option Addr × Nat × Nat))) s s_1 s_3 s_4 s_5 s_6 s_7 wish wish_1 outside epoch epochAt hasEpoch m_1) (cond r_8 (joinP1 (fun (outside_2 : Int) => mapper_Mapper_take_wp s s_1 s_2 s_3 s_4 s_5 s_6 s_7 host secs nonce wish wish_1 outside_2 now epoch epochAt hasEpoch 0 0 0 0 0 r_5 r_6 0 0 m_1 (fun (rs_1 : List ((Option Addr × Nat × Nat))) (s_22 : Int) (s_23 : Int) (s_24 : Int) (s_25 : Int) (s_26 : Int) (s_27 : Int) (wish_4 : Int) (wish_5 : Int) (epoch_2 : Int) (epochAt_2 : Int) (hasEpoch_3 : Bool) (m_4 : List ((Option Addr × Nat × Nat) × List (Int))) => K rs_1 s_22 s_1 s_23 s_24 s_25 s_26 s_27 wish_4 wish_5 outside_2 epoch_2 epochAt_2 hasEpoch_3 m_4)) (fun (Q : Int → Prop) => cond ((r_5 : Int) == 0) (Q r_7) (Q outside))) (cond ((r_1 : Int) != s_2) (K ([] : List ((Option Addr × Nat × Nat))) s s_1 s_3 s_4 s_5 s_6 s_7 wish wish_1 outside epoch epochAt hasEpoch m_1) (mapper_Mapper_take_wp s s_1 s_2 s_3 s_4 s_5 s_6 s_7 host secs nonce wish wish_1 outside now epoch epochAt hasEpoch r r_1 r_2 r_3 r_4 r_5 r_6 r_7 outside m_1 (fun (rs_2 : List ((Option Addr × Nat × Nat))) (s_28 : Int) (s_29 : Int) (s_30 : Int) (s_31 : Int) (s_32 : Int) (s_33 : Int) (wish_6 : Int) (wish_7 : Int) (epoch_3 : Int) (epochAt_3 : Int) (hasEpoch_4 : Bool) (m_5 : List ((Option Addr × Nat × Nat) × List (Int))) => K rs_2 s_28 s_1 s_29 s_30 s_31 s_32 s_33 wish_6 wish_7 outside epoch_3 epochAt_3 hasEpoch_4 m_5)))))))
theorem mapper_Mapper_pmp_ok {b_1 : Nat} {p_1 : Option Addr} {n_1 : Nat} {c_1 : Nat} {s : Int} {s_1 : Int} {s_2 : Int} {s_3 : Int} {s_4 : Int} {s_5 : Int} {s_6 : Int} {s_7 : Int} {host : Int} {secs : Int} {nonce : Int} {wish : Int} {wish_1 : Int} {outside : Int} {now : Int} {epoch : Int} {epochAt : Int} {hasEpoch : Bool} {b_2 : List (Int)} {m_1 : List ((Option Addr × Nat × Nat) × List (Int))} {FL : List HP} {w : World} {K : List ((Option Addr × Nat × Nat)) → Int → Int → Int → Int → Int → Int → Int → Int → Int → Int → Int → Int → Bool → List ((Option Addr × Nat × Nat) × List (Int)) → Prop} {R : Value → World → Prop}
  (hF_b_2 : ∀ w, Mem FL w → Rd w 1 p_1 enc5 b_2) (hl_b_2 : n_1 = b_2.length) (hc_b_2 : n_1 ≤ c_1)
  (h : Mem (cel b_1 47 [(Value.int .i64 s), (Value.int .i64 s_1), (Value.int .i64 s_2), (Value.int .u32 s_3), (Value.int .i64 s_4), (Value.int .i64 s_5), (Value.int .i64 s_6), (Value.int .i64 s_7), (Value.int .u32 host), (Value.int .i64 secs), (Value.int .u64 nonce), (Value.int .u32 wish), (Value.int .i64 wish_1), (Value.int .u32 outside), (Value.int .i64 now), (Value.int .i64 epoch), (Value.int .i64 epochAt), (Value.bool hasEpoch)] :: poolP enc5 5 1 m_1 :: FL) w) (hp : mapper_Mapper_pmp_wp s s_1 s_2 s_3 s_4 s_5 s_6 s_7 host secs nonce wish wish_1 outside now epoch epochAt hasEpoch b_2 m_1 K)
  (hR : ∀ (rs : List ((Option Addr × Nat × Nat))) (s_8 : Int) (s_9 : Int) (s_10 : Int) (s_11 : Int) (s_12 : Int) (s_13 : Int) (s_14 : Int) (wish_2 : Int) (wish_3 : Int) (outside_1 : Int) (epoch_1 : Int) (epochAt_1 : Int) (hasEpoch_1 : Bool) (m_2 : List ((Option Addr × Nat × Nat) × List (Int))) (p_2 : Option Addr) (n_2 : Nat) (c_2 : Nat) (w : World), n_2 = rs.length → Mem (row enc38 38 1 p_2 c_2 rs :: cel b_1 47 [(Value.int .i64 s_8), (Value.int .i64 s_9), (Value.int .i64 s_2), (Value.int .u32 s_10), (Value.int .i64 s_11), (Value.int .i64 s_12), (Value.int .i64 s_13), (Value.int .i64 s_14), (Value.int .u32 host), (Value.int .i64 secs), (Value.int .u64 nonce), (Value.int .u32 wish_2), (Value.int .i64 wish_3), (Value.int .u32 outside_1), (Value.int .i64 now), (Value.int .i64 epoch_1), (Value.int .i64 epochAt_1), (Value.bool hasEpoch_1)] :: poolP enc5 5 1 m_2 :: FL) w → K rs s_8 s_9 s_10 s_11 s_12 s_13 s_14 wish_2 wish_3 outside_1 epoch_1 epochAt_1 hasEpoch_1 m_2 → R (Value.slice p_2 n_2 c_2) w) :
  CallV Try.prog 16 #[(Value.pointer (some (Addr.mk b_1 0 none))), (Value.slice p_1 n_1 c_1)] w R := by
  refine mapper_Mapper_pmp_call ?_
  unfold mapper_Mapper_pmp
  unfold mapper_Mapper_pmp_wp at hp
  subst hl_b_2
  refine pmp_ReadAnswer_ok (FL := cel b_1 47 [(Value.int .i64 s), (Value.int .i64 s_1), (Value.int .i64 s_2), (Value.int .u32 s_3), (Value.int .i64 s_4), (Value.int .i64 s_5), (Value.int .i64 s_6), (Value.int .i64 s_7), (Value.int .u32 host), (Value.int .i64 secs), (Value.int .u64 nonce), (Value.int .u32 wish), (Value.int .i64 wish_1), (Value.int .u32 outside), (Value.int .i64 now), (Value.int .i64 epoch), (Value.int .i64 epochAt), (Value.bool hasEpoch)] :: poolP enc5 5 1 m_1 :: FL) (fun w h => (hF_b_2 _ (h.drop 2))) rfl hc_b_2 h hp ?_
  intro r r_1 r_2 r_3 r_4 r_5 r_6 r_7 r_8 r_9 w h hp
  refine ⟨_, _, _, _, _, _, _, _, _, _, rfl, ?_⟩
  refine ⟨_, _, _, _, _, _, _, _, rfl, ?_⟩
  refine ⟨_, rfl, ?_⟩
  refine newL (o := [(Value.int .i64 0), (Value.int .i64 0), (Value.int .i64 0), (Value.int .i64 0), (Value.int .u64 0), (Value.int .i64 0), (Value.int .i64 0), (Value.int .u32 0)]) h ?_
  intro b_3 w h
  refine storeL (ys := [(Value.int .i64 r), (Value.int .i64 r_1), (Value.int .i64 r_2), (Value.int .i64 r_3), (Value.int .u64 r_4), (Value.int .i64 r_5), (Value.int .i64 r_6), (Value.int .u32 r_7)]) h 0 0 rfl rfl rfl sz36 rfl rfl ?_
  intro w h
  dsimp only [setH, setVs, setV] at h
  refine cond_both hp (fun hp => ?_) (fun hp => ?_)
  · replace h := rowNil enc38 38 1 h
    replace h := h.sel [0, 1, 1] 1
    dsimp only [pickL, pickR, nthH, delH, dropH, List.cons_append, List.nil_append] at h
    exact hR ([] : List ((Option Addr × Nat × Nat))) s s_1 s_3 s_4 s_5 s_6 s_7 wish wish_1 outside epoch epochAt hasEpoch m_1 (none ) 0 0 _ rfl h hp
  refine ⟨_, cellL h 0 5 rfl rfl rfl, ?_⟩
  refine cond_both hp (fun hp => ?_) (fun hp => ?_)
  · replace h := h.pick [1, 1]
    dsimp only [pickL, pickR, nthH, delH, dropH, List.cons_append, List.nil_append] at h
    refine mapper_Mapper_unspoken_ok h hp ?_
    rintro rs s_15 s_16 s_17 s_18 s_19 s_20 s_21 hasEpoch_2 m_3 p_3 n_2 c_2 w rfl h hp
    have cpp_3 := rowCap h 0 rfl
    refine ⟨_, _, _, rfl, ?_⟩
    replace h := h.sel [0, 0, 0] 1
    dsimp only [pickL, pickR, nthH, delH, dropH, List.cons_append, List.nil_append] at h
    exact hR rs s_15 s_16 s_17 s_18 s_19 s_20 s_21 wish wish_1 outside epoch epochAt hasEpoch_2 m_3 p_3 rs.length c_2 _ rfl h hp
  refine ⟨_, rfl, ?_⟩
  refine ⟨_, cellL h 1 1 rfl rfl rfl, ?_⟩
  refine cond_both hp (fun hp => ?_) (fun hp => ?_)
  · replace h := rowNil enc38 38 1 h
    replace h := h.sel [0, 1, 1] 1
    dsimp only [pickL, pickR, nthH, delH, dropH, List.cons_append, List.nil_append] at h
    exact hR ([] : List ((Option Addr × Nat × Nat))) s s_1 s_3 s_4 s_5 s_6 s_7 wish wish_1 outside epoch epochAt hasEpoch m_1 (none  ) 0 0 _ rfl h hp
  refine cond_both' hp (fun hp => ?_) (fun hp => ?_)
  · replace h := h.drew
    refine ⟨_, cellL h 0 1 rfl rfl rfl, ?_⟩
    refine ⟨_, rfl, ?_⟩
    refine ⟨_, cellL h 1 2 rfl rfl rfl, ?_⟩
    refine cond_both hp (fun hp => ?_) (fun hp => ?_)
    · replace h := rowNil enc38 38 1 h
      replace h := h.sel [0, 1, 1] 1
      dsimp only [pickL, pickR, nthH, delH, dropH, List.cons_append, List.nil_append] at h
      exact hR ([] : List ((Option Addr × Nat × Nat))) s s_1 s_3 s_4 s_5 s_6 s_7 wish wish_1 outside epoch epochAt hasEpoch m_1 (none   ) 0 0 _ rfl h hp
    replace h := h.drew
    refine ⟨_, cellL h 0 0 rfl rfl rfl, _, cellL h 0 1 rfl rfl rfl, _, cellL h 0 2 rfl rfl rfl, _, cellL h 0 3 rfl rfl rfl, _, cellL h 0 4 rfl rfl rfl, _, cellL h 0 5 rfl rfl rfl, _, cellL h 0 6 rfl rfl rfl, _, cellL h 0 7 rfl rfl rfl, ?_⟩
    refine ⟨_, rfl, ?_⟩
    refine ⟨_, cellL h 1 13 rfl rfl rfl, ?_⟩
    replace h := h.pick [1, 1]
    dsimp only [pickL, pickR, nthH, delH, dropH, List.cons_append, List.nil_append] at h
    refine mapper_Mapper_take_ok h hp ?_
    rintro rs_2 s_28 s_29 s_30 s_31 s_32 s_33 wish_6 wish_7 epoch_3 epochAt_3 hasEpoch_4 m_5 p_7 n_4 c_4 w rfl h hp
    have cpp_7 := rowCap h 0 rfl
    refine ⟨_, _, _, rfl, ?_⟩
    replace h := h.sel [0, 0, 0] 1
    dsimp only [pickL, pickR, nthH, delH, dropH, List.cons_append, List.nil_append] at h
    exact hR rs_2 s_28 s_1 s_29 s_30 s_31 s_32 s_33 wish_6 wish_7 outside epoch_3 epochAt_3 hasEpoch_4 m_5 p_7 rs_2.length c_4 _ rfl h hp
  obtain ⟨Q, hq, hp⟩ := hp
  refine ⟨fun m0 l5 w => ∃ (outside_2 : Int), (some (Addr.mk b_1 0 none)) = m0 ∧ (Addr.mk b_3 0 none) = l5 ∧ Q outside_2 ∧ Mem (cel b_3 36 [(Value.int .i64 r), (Value.int .i64 r_1), (Value.int .i64 r_2), (Value.int .i64 r_3), (Value.int .u64 r_4), (Value.int .i64 r_5), (Value.int .i64 r_6), (Value.int .u32 r_7)] :: cel b_1 47 [(Value.int .i64 s), (Value.int .i64 s_1), (Value.int .i64 s_2), (Value.int .u32 s_3), (Value.int .i64 s_4), (Value.int .i64 s_5), (Value.int .i64 s_6), (Value.int .i64 s_7), (Value.int .u32 host), (Value.int .i64 secs), (Value.int .u64 nonce), (Value.int .u32 wish), (Value.int .i64 wish_1), (Value.int .u32 outside_2), (Value.int .i64 now), (Value.int .i64 epoch), (Value.int .i64 epochAt), (Value.bool hasEpoch)] :: poolP enc5 5 1 m_1 :: FL) w, ?_, ?_⟩
  · rintro m0 l5 w ⟨outside_2, rfl, rfl, hp, h⟩
    replace hp := hq outside_2 hp
    unfold mapper_Mapper_pmp_j1
    refine ⟨_, cellL h 0 6 rfl rfl rfl, ?_⟩
    refine ⟨_, cellL h 0 5 rfl rfl rfl, ?_⟩
    replace h := h.pick [1, 1]
    dsimp only [pickL, pickR, nthH, delH, dropH, List.cons_append, List.nil_append] at h
    refine mapper_Mapper_take_ok h hp ?_
    rintro rs_1 s_22 s_23 s_24 s_25 s_26 s_27 wish_4 wish_5 epoch_2 epochAt_2 hasEpoch_3 m_4 p_5 n_3 c_3 w rfl h hp
    have cpp_5 := rowCap h 0 rfl
    refine ⟨_, _, _, rfl, ?_⟩
    replace h := h.sel [0, 0, 0] 1
    dsimp only [pickL, pickR, nthH, delH, dropH, List.cons_append, List.nil_append] at h
    exact hR rs_1 s_22 s_1 s_23 s_24 s_25 s_26 s_27 wish_4 wish_5 outside_2 epoch_2 epochAt_2 hasEpoch_3 m_4 p_5 rs_1.length c_3 _ rfl h hp
  clear hq
  refine ⟨_, cellL h 0 5 rfl rfl rfl, ?_⟩
  refine cond_both' hp (fun hp => ?_) (fun hp => ?_)
  · exact ⟨outside, rfl, rfl, hp, h⟩
  refine ⟨_, cellL h 0 7 rfl rfl rfl, ?_⟩
  refine ⟨_, rfl, ?_⟩
  refine storeL (ys := [(Value.int .u32 r_7)]) h 1 13 rfl rfl rfl sz22 rfl rfl ?_
  intro w h
  dsimp only [setH, setVs, setV] at h
  exact ⟨r_7, rfl, rfl, hp, h⟩

/-! (*embrasure/mapper.Mapper).Hear (8) -/
def mapper_Mapper_Hear_wp (s : Int) (s_1 : Int) (s_2 : Int) (s_3 : Int) (s_4 : Int) (s_5 : Int) (s_6 : Int) (s_7 : Int) (host : Int) (secs : Int) (nonce : Int) (wish : Int) (wish_1 : Int) (outside : Int) (now : Int) (epoch : Int) (epochAt : Int) (hasEpoch : Bool) (now_1 : Int) (b_2 : List (Int)) (m_1 : List ((Option Addr × Nat × Nat) × List (Int))) (K : List ((Option Addr × Nat × Nat)) → Int → Int → Int → Int → Int → Int → Int → Int → Int → Int → Int → Int → Int → Bool → List ((Option Addr × Nat × Nat) × List (Int)) → Prop) : Prop :=
  joinP2 (fun (now_3 : Int) (t26 : Bool) => cond t26 (K ([] : List ((Option Addr × Nat × Nat))) s s_1 s_3 s_4 s_5 s_6 s_7 wish wish_1 outside now_3 epoch epochAt hasEpoch m_1) (pcp_Version_wp b_2 (fun (r_1 : Int) => cond ((r_1 : Int) == 2) (mapper_Mapper_pcp_wp s s_1 s_2 s_3 s_4 s_5 s_6 s_7 host secs nonce wish wish_1 outside now_3 epoch epochAt hasEpoch b_2 m_1 (fun (rs : List ((Option Addr × Nat × Nat))) (s_15 : Int) (s_16 : Int) (s_17 : Int) (s_18 : Int) (s_19 : Int) (s_20 : Int) (s_21 : Int) (wish_4 : Int) (wish_5 : Int) (epoch_2 : Int) (epochAt_2 : Int) (hasEpoch_2 : Bool) (m_3 : List ((Option Addr × Nat × Nat) × List (Int))) => K rs s_15 s_16 s_17 s_18 s_19 s_20 s_21 wish_4 wish_5 outside now_3 epoch_2 epochAt_2 hasEpoch_2 m_3)) (mapper_Mapper_pmp_wp s s_1 s_2 s_3 s_4 s_5 s_6 s_7 host secs nonce wish wish_1 outside now_3 epoch epochAt hasEpoch b_2 m_1 (fun (rs_1 : List ((Option Addr × Nat × Nat))) (s_22 : Int) (s_23 : Int) (s_24 : Int) (s_25 : Int) (s_26 : Int) (s_27 : Int) (s_28 : Int) (wish_6 : Int) (wish_7 : Int) (outside_2 : Int) (epoch_3 : Int) (epochAt_3 : Int) (hasEpoch_3 : Bool) (m_4 : List ((Option Addr × Nat × Nat) × List (Int))) => K rs_1 s_22 s_23 s_24 s_25 s_26 s_27 s_28 wish_6 wish_7 outside_2 now_3 epoch_3 epochAt_3 hasEpoch_3 m_4))))) (fun (Q : Int → Bool → Prop) => cond ((s : Int) == 0) (Q now true) (cond ((s : Int) == 4) (Q now true) (mapper_Mapper_on_wp s s_1 s_2 s_3 s_4 s_5 s_6 s_7 host secs nonce wish wish_1 outside now epoch epochAt hasEpoch now_1 (fun (r : Bool) (now_4 : Int) => Q now_4 (!r)))))
theorem mapper_Mapper_Hear_ok {b_1 : Nat} {p_1 : Option Addr} {n_1 : Nat} {c_1 : Nat} {s : Int} {s_1 : Int} {s_2 : Int} {s_3 : Int} {s_4 : Int} {s_5 : Int} {s_6 : Int} {s_7 : Int} {host : Int} {secs : Int} {nonce : Int} {wish : Int} {wish_1 : Int} {outside : Int} {now : Int} {epoch : Int} {epochAt : Int} {hasEpoch : Bool} {now_1 : Int} {b_2 : List (Int)} {m_1 : List ((Option Addr × Nat × Nat) × List (Int))} {FL : List HP} {w : World} {K : List ((Option Addr × Nat × Nat)) → Int → Int → Int → Int → Int → Int → Int → Int → Int → Int → Int → Int → Int → Bool → List ((Option Addr × Nat × Nat) × List (Int)) → Prop} {R : Value → World → Prop}
  (hF_b_2 : ∀ w, Mem FL w → Rd w 1 p_1 enc5 b_2) (hl_b_2 : n_1 = b_2.length) (hc_b_2 : n_1 ≤ c_1)
  (h : Mem (cel b_1 47 [(Value.int .i64 s), (Value.int .i64 s_1), (Value.int .i64 s_2), (Value.int .u32 s_3), (Value.int .i64 s_4), (Value.int .i64 s_5), (Value.int .i64 s_6), (Value.int .i64 s_7), (Value.int .u32 host), (Value.int .i64 secs), (Value.int .u64 nonce), (Value.int .u32 wish), (Value.int .i64 wish_1), (Value.int .u32 outside), (Value.int .i64 now), (Value.int .i64 epoch), (Value.int .i64 epochAt), (Value.bool hasEpoch)] :: poolP enc5 5 1 m_1 :: FL) w) (hp : mapper_Mapper_Hear_wp s s_1 s_2 s_3 s_4 s_5 s_6 s_7 host secs nonce wish wish_1 outside now epoch epochAt hasEpoch now_1 b_2 m_1 K)
  (hR : ∀ (rs : List ((Option Addr × Nat × Nat))) (s_8 : Int) (s_9 : Int) (s_10 : Int) (s_11 : Int) (s_12 : Int) (s_13 : Int) (s_14 : Int) (wish_2 : Int) (wish_3 : Int) (outside_1 : Int) (now_2 : Int) (epoch_1 : Int) (epochAt_1 : Int) (hasEpoch_1 : Bool) (m_2 : List ((Option Addr × Nat × Nat) × List (Int))) (p_2 : Option Addr) (n_2 : Nat) (c_2 : Nat) (w : World), n_2 = rs.length → Mem (row enc38 38 1 p_2 c_2 rs :: cel b_1 47 [(Value.int .i64 s_8), (Value.int .i64 s_9), (Value.int .i64 s_2), (Value.int .u32 s_10), (Value.int .i64 s_11), (Value.int .i64 s_12), (Value.int .i64 s_13), (Value.int .i64 s_14), (Value.int .u32 host), (Value.int .i64 secs), (Value.int .u64 nonce), (Value.int .u32 wish_2), (Value.int .i64 wish_3), (Value.int .u32 outside_1), (Value.int .i64 now_2), (Value.int .i64 epoch_1), (Value.int .i64 epochAt_1), (Value.bool hasEpoch_1)] :: poolP enc5 5 1 m_2 :: FL) w → K rs s_8 s_9 s_10 s_11 s_12 s_13 s_14 wish_2 wish_3 outside_1 now_2 epoch_1 epochAt_1 hasEpoch_1 m_2 → R (Value.slice p_2 n_2 c_2) w) :
  CallV Try.prog 8 #[(Value.pointer (some (Addr.mk b_1 0 none))), (Value.int .i64 now_1), (Value.slice p_1 n_1 c_1)] w R := by
  refine mapper_Mapper_Hear_call ?_
  unfold mapper_Mapper_Hear
  unfold mapper_Mapper_Hear_wp at hp
  subst hl_b_2
  obtain ⟨Q, hq, hp⟩ := hp
  refine ⟨fun m0 b2p b2l b2c t26 w => ∃ (now_3 : Int), (some (Addr.mk b_1 0 none)) = m0 ∧ p_1 = b2p ∧ b_2.length = b2l ∧ c_1 = b2c ∧ Q now_3 t26 ∧ Mem (cel b_1 47 [(Value.int .i64 s), (Value.int .i64 s_1), (Value.int .i64 s_2), (Value.int .u32 s_3), (Value.int .i64 s_4), (Value.int .i64 s_5), (Value.int .i64 s_6), (Value.int .i64 s_7), (Value.int .u32 host), (Value.int .i64 secs), (Value.int .u64 nonce), (Value.int .u32 wish), (Value.int .i64 wish_1), (Value.int .u32 outside), (Value.int .i64 now_3), (Value.int .i64 epoch), (Value.int .i64 epochAt), (Value.bool hasEpoch)] :: poolP enc5 5 1 m_1 :: FL) w, ?_, ?_⟩
  · rintro m0 b2p b2l b2c t26 w ⟨now_3, rfl, rfl, rfl, rfl, hp, h⟩
    replace hp := hq now_3 t26 hp
    unfold mapper_Mapper_Hear_j1
    refine cond_both hp (fun hp => ?_) (fun hp => ?_)
    · replace h := rowNil enc38 38 1 h
      exact hR ([] : List ((Option Addr × Nat × Nat))) s s_1 s_3 s_4 s_5 s_6 s_7 wish wish_1 outside now_3 epoch epochAt hasEpoch m_1 (none ) 0 0 _ rfl h hp
    refine pcp_Version_ok (FL := cel b_1 47 [(Value.int .i64 s), (Value.int .i64 s_1), (Value.int .i64 s_2), (Value.int .u32 s_3), (Value.int .i64 s_4), (Value.int .i64 s_5), (Value.int .i64 s_6), (Value.int .i64 s_7), (Value.int .u32 host), (Value.int .i64 secs), (Value.int .u64 nonce), (Value.int .u32 wish), (Value.int .i64 wish_1), (Value.int .u32 outside), (Value.int .i64 now_3), (Value.int .i64 epoch), (Value.int .i64 epochAt), (Value.bool hasEpoch)] :: poolP enc5 5 1 m_1 :: FL) (fun w h => (hF_b_2 _ (h.drop 2))) rfl hc_b_2 h hp ?_
    intro r_1 w h hp
    refine ⟨_, rfl, ?_⟩
    refine cond_both hp (fun hp => ?_) (fun hp => ?_)
    · refine mapper_Mapper_pcp_ok (FL := FL) (fun w h => (hF_b_2 _ (h.drop 0))) rfl hc_b_2 h hp ?_
      rintro rs s_15 s_16 s_17 s_18 s_19 s_20 s_21 wish_4 wish_5 epoch_2 epochAt_2 hasEpoch_2 m_3 p_3 n_2 c_2 w rfl h hp
      have cpp_3 := rowCap h 0 rfl
      refine ⟨_, _, _, rfl, ?_⟩
      exact hR rs s_15 s_16 s_17 s_18 s_19 s_20 s_21 wish_4 wish_5 outside now_3 epoch_2 epochAt_2 hasEpoch_2 m_3 p_3 rs.length c_2 _ rfl h hp
    refine mapper_Mapper_pmp_ok (FL := FL) (fun w h => (hF_b_2 _ (h.drop 0))) rfl hc_b_2 h hp ?_
    rintro rs_1 s_22 s_23 s_24 s_25 s_26 s_27 s_28 wish_6 wish_7 outside_2 epoch_3 epochAt_3 hasEpoch_3 m_4 p_4 n_3 c_3 w rfl h hp
    have cpp_4 := rowCap h 0 rfl
    refine ⟨_, _, _, rfl, ?_⟩
    exact hR rs_1 s_22 s_23 s_24 s_25 s_26 s_27 s_28 wish_6 wish_7 outside_2 now_3 epoch_3 epochAt_3 hasEpoch_3 m_4 p_4 rs_1.length c_3 _ rfl h hp
  clear hq
  refine ⟨_, rfl, ?_⟩
  refine ⟨_, cellL h 0 0 rfl rfl rfl, ?_⟩
  refine cond_both hp (fun hp => ?_) (fun hp => ?_)
  · exact ⟨now, rfl, rfl, rfl, rfl, hp, h⟩
  refine ⟨_, rfl, ?_⟩
  refine ⟨_, cellL h 0 0 rfl rfl rfl, ?_⟩
  refine cond_both hp (fun hp => ?_) (fun hp => ?_)
  · exact ⟨now, rfl, rfl, rfl, rfl, hp, h⟩
  refine mapper_Mapper_on_ok h hp ?_
  intro r now_4 w h hp
  refine ⟨_, rfl, ?_⟩
  exact ⟨now_4, rfl, rfl, rfl, rfl, hp, h⟩

/-! embrasure/embrasurelaw12.MapperOver (3) -/
def embrasurelaw12_MapperOver_wp (c_Host : Int) (c_Inside : Int) (c_Secs : Int) (c_Nonce : Int) (secs : Int) (port : Int) (K : Bool → Prop) : Prop :=
  embrasurelaw12_awake_wp (fun (r : Bool) => cond (!r) (K false) (mapper_New_wp c_Host c_Inside c_Secs c_Nonce (fun (r_1 : Int) => embrasureref12_May_wp c_Host c_Inside c_Secs (fun (r_2 : Bool) => cond (!r_2) (K ((r_1 : Int) == 1)) (joinP1 (fun (t50 : Bool) => cond t50 (K (false)) (False)) (fun (Q : Bool → Prop) => Q true)))) (fun (r_3 : Int) (s : Int) (s_1 : Int) (s_2 : Int) (s_3 : Int) (s_4 : Int) (s_5 : Int) (s_6 : Int) (s_7 : Int) (host : Int) (secs_1 : Int) (nonce : Int) (wish : Int) (wish_1 : Int) (outside : Int) (now : Int) (epoch : Int) (epochAt : Int) (hasEpoch : Bool) => embrasureref12_May_wp c_Host c_Inside c_Secs (fun (r_4 : Bool) => cond (!r_4) (K false) (joinP1 (fun (t50_1 : Bool) => cond t50_1 (K (true)) (mapper_Mapper_Start_wp s s_1 s_2 s_3 s_4 s_5 s_6 s_7 host secs_1 nonce wish wish_1 outside now epoch epochAt hasEpoch 0 ([] : List ((Option Addr × Nat × Nat) × List (Int))) (fun (rs : List ((Option Addr × Nat × Nat))) (s_8 : Int) (s_9 : Int) (s_10 : Int) (s_11 : Int) (s_12 : Int) (s_13 : Int) (s_14 : Int) (now_1 : Int) (hasEpoch_1 : Bool) (m_1 : List ((Option Addr × Nat × Nat) × List (Int))) => pcp_Answer_wp 2 c_Inside (IntKind.wrap .i64 port) (IntKind.wrap .i64 (2 + (IntKind.wrap .i64 secs))) (IntKind.wrap .u64 (c_Nonce + 1)) 0 0 9 (fun (rs_1 : List (Int)) => mapper_Mapper_Hear_wp s_8 s_9 s_2 s_10 s_11 s_12 s_13 s_14 host secs_1 nonce wish wish_1 outside now_1 epoch epochAt hasEpoch_1 0 rs_1 m_1 (fun (rs_2 : List ((Option Addr × Nat × Nat))) (s_15 : Int) (s_16 : Int) (s_17 : Int) (s_18 : Int) (s_19 : Int) (s_20 : Int) (s_21 : Int) (wish_2 : Int) (wish_3 : Int) (outside_1 : Int) (now_2 : Int) (epoch_1 : Int) (epochAt_1 : Int) (hasEpoch_2 : Bool) (m_2 : List ((Option Addr × Nat × Nat) × List (Int))) => mapper_Mapper_State_wp s_15 s_16 s_2 s_17 s_18 s_19 s_20 s_21 host secs_1 nonce wish_2 wish_3 outside_1 now_2 epoch_1 epochAt_1 hasEpoch_2 (fun (r_5 : Int) (r_6 : Int) (r_7 : Int) (r_8 : Int) (r_9 : Int) (r_10 : Int) (r_11 : Int) (r_12 : Int) => cond ((r_5 : Int) != 1) (K false) (pcp_Answer_wp 2 c_Inside (IntKind.wrap .i64 port) (IntKind.wrap .i64 (2 + (IntKind.wrap .i64 secs))) c_Nonce 0 0 9 (fun (rs_3 : List (Int)) => mapper_Mapper_Hear_wp s_15 s_16 s_2 s_17 s_18 s_19 s_20 s_21 host secs_1 nonce wish_2 wish_3 outside_1 now_2 epoch_1 epochAt_1 hasEpoch_2 0 rs_3 m_2 (fun (rs_4 : List ((Option Addr × Nat × Nat))) (s_22 : Int) (s_23 : Int) (s_24 : Int) (s_25 : Int) (s_26 : Int) (s_27 : Int) (s_28 : Int) (wish_4 : Int) (wish_5 : Int) (outside_2 : Int) (now_3 : Int) (epoch_2 : Int) (epochAt_2 : Int) (hasEpoch_3 : Bool) (m_3 : List ((Option Addr × Nat × Nat) × List (Int))) => mapper_Mapper_State_wp s_22 s_23 s_2 s_24 s_25 s_26 s_27 s_28 host secs_1 nonce wish_4 wish_5 outside_2 now_3 epoch_2 epochAt_2 hasEpoch_3 (fun (r_13 : Int) (r_14 : Int) (r_15 : Int) (r_16 : Int) (r_17 : Int) (r_18 : Int) (r_19 : Int) (r_20 : Int) => joinP1 (fun (t108 : Bool) => cond t108 (K false) (mapper_Mapper_Tick_wp s_22 s_23 s_2 s_24 s_25 s_26 s_27 s_28 host secs_1 nonce wish_4 wish_5 outside_2 now_3 epoch_2 epochAt_2 hasEpoch_3 (IntKind.wrap .i64 ((IntKind.wrap .i64 (2 + (IntKind.wrap .i64 secs))) - 1)) m_3 (fun (rs_5 : List ((Option Addr × Nat × Nat))) (s_29 : Int) (s_30 : Int) (s_31 : Int) (s_32 : Int) (s_33 : Int) (s_34 : Int) (s_35 : Int) (now_4 : Int) (hasEpoch_4 : Bool) (m_4 : List ((Option Addr × Nat × Nat) × List (Int))) => mapper_Mapper_State_wp s_29 s_30 s_2 s_31 s_32 s_33 s_34 s_35 host secs_1 nonce wish_4 wish_5 outside_2 now_4 epoch_2 epochAt_2 hasEpoch_4 (fun (r_21 : Int) (r_22 : Int) (r_23 : Int) (r_24 : Int) (r_25 : Int) (r_26 : Int) (r_27 : Int) (r_28 : Int) => mapper_Mapper_Tick_wp s_29 s_30 s_2 s_31 s_32 s_33 s_34 s_35 host secs_1 nonce wish_4 wish_5 outside_2 now_4 epoch_2 epochAt_2 hasEpoch_4 (IntKind.wrap .i64 (2 + (IntKind.wrap .i64 secs))) m_4 (fun (rs_6 : List ((Option Addr × Nat × Nat))) (s_36 : Int) (s_37 : Int) (s_38 : Int) (s_39 : Int) (s_40 : Int) (s_41 : Int) (s_42 : Int) (now_5 : Int) (hasEpoch_5 : Bool) (m_5 : List ((Option Addr × Nat × Nat) × List (Int))) => mapper_Mapper_State_wp s_36 s_37 s_2 s_38 s_39 s_40 s_41 s_42 host secs_1 nonce wish_4 wish_5 outside_2 now_5 epoch_2 epochAt_2 hasEpoch_5 (fun (r_29 : Int) (r_30 : Int) (r_31 : Int) (r_32 : Int) (r_33 : Int) (r_34 : Int) (r_35 : Int) (r_36 : Int) => cond (((r_24 : Int) == r_16) && (((r_25 : Int) == r_17) && true)) (cond ((r_21 : Int) == 3) (cond ((r_29 : Int) == 1) (K (((r_32 : Int) == 0) && (((r_33 : Int) == 0) && true))) (K false)) (K false)) (K false))))))) (fun (Q_2 : Bool → Prop) => cond ((r_13 : Int) != 2) (Q_2 true) (cond ((r_18 : Int) != (IntKind.wrap .i64 (2 + (IntKind.wrap .i64 secs)))) (Q_2 true) (cond (!(((r_16 : Int) == 9) && (((r_17 : Int) == (IntKind.wrap .i64 port)) && true))) (Q_2 true) (Q_2 ((r_20 : Int) != (IntKind.wrap .i64 (Int.tdiv (IntKind.wrap .i64 (2 + (IntKind.wrap .i64 secs))) 2))))))))))))))))) (fun (Q_1 : Bool → Prop) => cond ((r_3 : Int) != 0) (Q_1 true) (Q_1 ((port : Int) == 0))))))))
theorem embrasurelaw12_MapperOver_ok {c_Host : Int} {c_Inside : Int} {c_Secs : Int} {c_Nonce : Int} {secs : Int} {port : Int} {FL : List HP} {w : World} {K : Bool → Prop} {R : Value → World → Prop}
  (h : Mem (FL) w) (hp : embrasurelaw12_MapperOver_wp c_Host c_Inside c_Secs c_Nonce secs port K)
  (hR : ∀ (r : Bool) (w : World), Mem (FL) w → K r → R (Value.bool r) w) :
  CallV Try.prog 3 #[(Value.agg #[(Value.int .u32 c_Host), (Value.int .i64 c_Inside), (Value.int .i64 c_Secs), (Value.int .u64 c_Nonce)]), (Value.int .u16 secs), (Value.int .u16 port)] w R := by
  refine embrasurelaw12_MapperOver_call ?_
  unfold embrasurelaw12_MapperOver
  unfold embrasurelaw12_MapperOver_wp at hp
  replace h := poolNil enc5 5 1 h
  refine newL (o := [(Value.int .u32 c_Host), (Value.int .i64 c_Inside), (Value.int .i64 c_Secs), (Value.int .u64 c_Nonce)]) h ?_
  intro b_1 w h
  refine embrasurelaw12_awake_ok h hp ?_
  intro r w h hp
  refine ⟨_, rfl, ?_⟩
  refine cond_both hp (fun hp => ?_) (fun hp => ?_)
  · replace h := h.sel [] 2
    dsimp only [pickL, pickR, nthH, delH, dropH, List.cons_append, List.nil_append] at h
    exact hR false _ h hp
  refine ⟨_, cellL h 0 0 rfl rfl rfl, ?_⟩
  refine ⟨_, cellL h 0 1 rfl rfl rfl, ?_⟩
  refine ⟨_, cellL h 0 2 rfl rfl rfl, ?_⟩
  refine ⟨_, cellL h 0 3 rfl rfl rfl, ?_⟩
  refine mapper_New_ok h hp ?_ ?_
  · intro r_1 w h hp
    refine ⟨_, _, rfl, ?_⟩
    refine ⟨_, rfl, ?_⟩
    refine ⟨_, rfl, ?_⟩
    refine ⟨_, cellL h 0 0 rfl rfl rfl, ?_⟩
    refine ⟨_, cellL h 0 1 rfl rfl rfl, ?_⟩
    refine ⟨_, cellL h 0 2 rfl rfl rfl, ?_⟩
    refine embrasureref12_May_ok h hp ?_
    intro r_2 w h hp
    refine ⟨_, rfl, ?_⟩
    refine cond_both hp (fun hp => ?_) (fun hp => ?_)
    · refine eqlPtrNN undP28 ?_
      refine ⟨_, rfl, ?_⟩
      refine cond_tt ?_
      replace h := h.sel [] 2
      dsimp only [pickL, pickR, nthH, delH, dropH, List.cons_append, List.nil_append] at h
      exact hR ((r_1 : Int) == 1) _ h hp
    obtain ⟨Q, hq, hp⟩ := hp
    refine ⟨fun secs1 port2 c3 m7 t50 w => secs = secs1 ∧ port = port2 ∧ (Addr.mk b_1 0 none) = c3 ∧ none = m7 ∧ Q t50 ∧ Mem (cel b_1 25 [(Value.int .u32 c_Host), (Value.int .i64 c_Inside), (Value.int .i64 c_Secs), (Value.int .u64 c_Nonce)] :: poolP enc5 5 1 ([] : List ((Option Addr × Nat × Nat) × List (Int))) :: FL) w, ?_, ?_⟩
    · rintro secs1 port2 c3 m7 t50 w ⟨rfl, rfl, rfl, rfl, hp, h⟩
      replace hp := hq t50 hp
      unfold embrasurelaw12_MapperOver_j1
      refine cond_both' hp (fun hp => ?_) (fun hp => ?_)
      · exact hp.elim
      refine neqPtrNN undP28 ?_
      refine ⟨_, rfl, ?_⟩
      replace h := h.sel [] 2
      dsimp only [pickL, pickR, nthH, delH, dropH, List.cons_append, List.nil_append] at h
      exact hR (false) _ h hp
    clear hq
    refine eqlPtrNN undP28 ?_
    refine ⟨_, rfl, ?_⟩
    refine cond_tt ?_
    exact ⟨rfl, rfl, rfl, rfl, hp, h⟩
  intro r_3 s s_1 s_2 s_3 s_4 s_5 s_6 s_7 host secs_1 nonce wish wish_1 outside now epoch epochAt hasEpoch b_2 w h hp
  refine ⟨_, _, rfl, ?_⟩
  refine ⟨_, rfl, ?_⟩
  refine ⟨_, rfl, ?_⟩
  refine ⟨_, cellL h 1 0 rfl rfl rfl, ?_⟩
  refine ⟨_, cellL h 1 1 rfl rfl rfl, ?_⟩
  refine ⟨_, cellL h 1 2 rfl rfl rfl, ?_⟩
  refine embrasureref12_May_ok h hp ?_
  intro r_4 w h hp
  refine ⟨_, rfl, ?_⟩
  refine cond_both hp (fun hp => ?_) (fun hp => ?_)
  · refine eqlPtrNil undP28 ?_
    refine ⟨_, rfl, ?_⟩
    refine cond_ff ?_
    replace h := h.sel [] 3
    dsimp only [pickL, pickR, nthH, delH, dropH, List.cons_append, List.nil_append] at h
    exact hR false _ h hp
  obtain ⟨Q_1, hq, hp⟩ := hp
  refine ⟨fun secs1_1 port2_1 c3_1 m7_1 t50_1 w => secs = secs1_1 ∧ port = port2_1 ∧ (Addr.mk b_1 0 none) = c3_1 ∧ (some (Addr.mk b_2 0 none)) = m7_1 ∧ Q_1 t50_1 ∧ Mem (cel b_2 47 [(Value.int .i64 s), (Value.int .i64 s_1), (Value.int .i64 s_2), (Value.int .u32 s_3), (Value.int .i64 s_4), (Value.int .i64 s_5), (Value.int .i64 s_6), (Value.int .i64 s_7), (Value.int .u32 host), (Value.int .i64 secs_1), (Value.int .u64 nonce), (Value.int .u32 wish), (Value.int .i64 wish_1), (Value.int .u32 outside), (Value.int .i64 now), (Value.int .i64 epoch), (Value.int .i64 epochAt), (Value.bool hasEpoch)] :: cel b_1 25 [(Value.int .u32 c_Host), (Value.int .i64 c_Inside), (Value.int .i64 c_Secs), (Value.int .u64 c_Nonce)] :: poolP enc5 5 1 ([] : List ((Option Addr × Nat × Nat) × List (Int))) :: FL) w, ?_, ?_⟩
  · rintro secs1_1 port2_1 c3_1 m7_1 t50_1 w ⟨rfl, rfl, rfl, rfl, hp, h⟩
    replace hp := hq t50_1 hp
    unfold embrasurelaw12_MapperOver_j1
    refine cond_both hp (fun hp => ?_) (fun hp => ?_)
    · refine neqPtrNil undP28 ?_
      refine ⟨_, rfl, ?_⟩
      replace h := h.sel [] 3
      dsimp only [pickL, pickR, nthH, delH, dropH, List.cons_append, List.nil_append] at h
      exact hR (true) _ h hp
    replace h := h.pick [0, 1]
    dsimp only [pickL, pickR, nthH, delH, dropH, List.cons_append, List.nil_append] at h
    refine mapper_Mapper_Start_ok h hp ?_
    rintro rs s_8 s_9 s_10 s_11 s_12 s_13 s_14 now_1 hasEpoch_1 m_1 p_1 n_1 c_1 w rfl h hp
    have cpp_1 := rowCap h 0 rfl
    refine ⟨_, _, _, rfl, ?_⟩
    refine ⟨_, cellL h 3 1 rfl rfl rfl, ?_⟩
    refine ⟨_, cellL h 3 3 rfl rfl rfl, ?_⟩
    refine newL (o := [(Value.int .i64 0), (Value.int .i64 0), (Value.int .i64 0), (Value.int .i64 0), (Value.int .u64 0), (Value.int .i64 0), (Value.int .i64 0), (Value.int .u32 0)]) h ?_
    intro b_3 w h
    refine storeL (ys := [(Value.int .i64 2), (Value.int .i64 c_Inside), (Value.int .i64 (IntKind.wrap .i64 port)), (Value.int .i64 (IntKind.wrap .i64 (2 + (IntKind.wrap .i64 secs)))), (Value.int .u64 (IntKind.wrap .u64 (c_Nonce + 1))), (Value.int .i64 0), (Value.int .i64 0), (Value.int .u32 9)]) h 0 0 rfl rfl rfl sz36 rfl rfl ?_
    intro w h
    dsimp only [setH, setVs, setV] at h
    refine ⟨_, cellL h 0 0 rfl rfl rfl, _, cellL h 0 1 rfl rfl rfl, _, cellL h 0 2 rfl rfl rfl, _, cellL h 0 3 rfl rfl rfl, _, cellL h 0 4 rfl rfl rfl, _, cellL h 0 5 rfl rfl rfl, _, cellL h 0 6 rfl rfl rfl, _, cellL h 0 7 rfl rfl rfl, ?_⟩
    refine pcp_Answer_ok h hp ?_
    rintro rs_1 p_2 n_2 c_2 w rfl h hp
    have cpp_2 := rowCap h 0 rfl
    refine ⟨_, _, _, rfl, ?_⟩
    replace h := h.pick [3, 3]
    dsimp only [pickL, pickR, nthH, delH, dropH, List.cons_append, List.nil_append] at h
    refine mapper_Mapper_Hear_ok (FL := row enc5 5 1 p_2 c_2 rs_1 :: cel b_3 36 [(Value.int .i64 2), (Value.int .i64 c_Inside), (Value.int .i64 (IntKind.wrap .i64 port)), (Value.int .i64 (IntKind.wrap .i64 (2 + (IntKind.wrap .i64 secs)))), (Value.int .u64 (IntKind.wrap .u64 (c_Nonce + 1))), (Value.int .i64 0), (Value.int .i64 0), (Value.int .u32 9)] :: row enc38 38 1 p_1 c_1 rs :: cel b_1 25 [(Value.int .u32 c_Host), (Value.int .i64 c_Inside), (Value.int .i64 c_Secs), (Value.int .u64 c_Nonce)] :: FL) (fun w h => (rowRd h 0 encL5 rfl)) rfl cpp_2 h hp ?_
    rintro rs_2 s_15 s_16 s_17 s_18 s_19 s_20 s_21 wish_2 wish_3 outside_1 now_2 epoch_1 epochAt_1 hasEpoch_2 m_2 p_3 n_3 c_3 w rfl h hp
    have cpp_3 := rowCap h 0 rfl
    refine ⟨_, _, _, rfl, ?_⟩
    replace h := h.pick [1]
    dsimp only [pickL, pickR, nthH, delH, dropH, List.cons_append, List.nil_append] at h
    refine mapper_Mapper_State_ok h hp ?_
    intro r_5 r_6 r_7 r_8 r_9 r_10 r_11 r_12 w h hp
    refine ⟨_, _, _, _, _, _, _, _, rfl, ?_⟩
    refine cond_both hp (fun hp => ?_) (fun hp => ?_)
    · replace h := h.sel [] 7
      dsimp only [pickL, pickR, nthH, delH, dropH, List.cons_append, List.nil_append] at h
      exact hR false _ h hp
    refine ⟨_, cellL h 6 3 rfl rfl rfl, ?_⟩
    refine storeL (ys := [(Value.int .u64 c_Nonce)]) h 4 4 rfl rfl rfl sz23 rfl rfl ?_
    intro w h
    dsimp only [setH, setVs, setV] at h
    refine ⟨_, cellL h 4 0 rfl rfl rfl, _, cellL h 4 1 rfl rfl rfl, _, cellL h 4 2 rfl rfl rfl, _, cellL h 4 3 rfl rfl rfl, _, cellL h 4 4 rfl rfl rfl, _, cellL h 4 5 rfl rfl rfl, _, cellL h 4 6 rfl rfl rfl, _, cellL h 4 7 rfl rfl rfl, ?_⟩
    refine pcp_Answer_ok h hp ?_
    rintro rs_3 p_4 n_4 c_4 w rfl h hp
    have cpp_4 := rowCap h 0 rfl
    refine ⟨_, _, _, rfl, ?_⟩
    replace h := h.pick [1, 2]
    dsimp only [pickL, pickR, nthH, delH, dropH, List.cons_append, List.nil_append] at h
    refine mapper_Mapper_Hear_ok (FL := row enc5 5 1 p_4 c_4 rs_3 :: row enc38 38 1 p_3 c_3 rs_2 :: row enc5 5 1 p_2 c_2 rs_1 :: cel b_3 36 [(Value.int .i64 2), (Value.int .i64 c_Inside), (Value.int .i64 (IntKind.wrap .i64 port)), (Value.int .i64 (IntKind.wrap .i64 (2 + (IntKind.wrap .i64 secs)))), (Value.int .u64 c_Nonce), (Value.int .i64 0), (Value.int .i64 0), (Value.int .u32 9)] :: row enc38 38 1 p_1 c_1 rs :: cel b_1 25 [(Value.int .u32 c_Host), (Value.int .i64 c_Inside), (Value.int .i64 c_Secs), (Value.int .u64 c_Nonce)] :: FL) (fun w h => (rowRd h 0 encL5 rfl)) rfl cpp_4 h hp ?_
    rintro rs_4 s_22 s_23 s_24 s_25 s_26 s_27 s_28 wish_4 wish_5 outside_2 now_3 epoch_2 epochAt_2 hasEpoch_3 m_3 p_5 n_5 c_5 w rfl h hp
    have cpp_5 := rowCap h 0 rfl
    refine ⟨_, _, _, rfl, ?_⟩
    replace h := h.pick [1]
    dsimp only [pickL, pickR, nthH, delH, dropH, List.cons_append, List.nil_append] at h
    refine mapper_Mapper_State_ok h hp ?_
    intro r_13 r_14 r_15 r_16 r_17 r_18 r_19 r_20 w h hp
    refine ⟨_, _, _, _, _, _, _, _, rfl, ?_⟩
    refine newL (o := [(Value.int .i64 0), (Value.int .i64 0), (Value.int .i64 0), (Value.int .u32 0), (Value.int .i64 0), (Value.int .i64 0), (Value.int .i64 0), (Value.int .i64 0)]) h ?_
    intro b_4 w h
    refine storeL (ys := [(Value.int .i64 r_13), (Value.int .i64 r_14), (Value.int .i64 r_15), (Value.int .u32 r_16), (Value.int .i64 r_17), (Value.int .i64 r_18), (Value.int .i64 r_19), (Value.int .i64 r_20)]) h 0 0 rfl rfl rfl sz43 rfl rfl ?_
    intro w h
    dsimp only [setH, setVs, setV] at h
    obtain ⟨Q_2, hq, hp⟩ := hp
    refine ⟨fun m7_2 l9 s10 t108 w => (some (Addr.mk b_2 0 none)) = m7_2 ∧ (Addr.mk b_3 0 none) = l9 ∧ (Addr.mk b_4 0 none) = s10 ∧ Q_2 t108 ∧ Mem (cel b_4 43 [(Value.int .i64 r_13), (Value.int .i64 r_14), (Value.int .i64 r_15), (Value.int .u32 r_16), (Value.int .i64 r_17), (Value.int .i64 r_18), (Value.int .i64 r_19), (Value.int .i64 r_20)] :: cel b_2 47 [(Value.int .i64 s_22), (Value.int .i64 s_23), (Value.int .i64 s_2), (Value.int .u32 s_24), (Value.int .i64 s_25), (Value.int .i64 s_26), (Value.int .i64 s_27), (Value.int .i64 s_28), (Value.int .u32 host), (Value.int .i64 secs_1), (Value.int .u64 nonce), (Value.int .u32 wish_4), (Value.int .i64 wish_5), (Value.int .u32 outside_2), (Value.int .i64 now_3), (Value.int .i64 epoch_2), (Value.int .i64 epochAt_2), (Value.bool hasEpoch_3)] :: cel b_3 36 [(Value.int .i64 2), (Value.int .i64 c_Inside), (Value.int .i64 (IntKind.wrap .i64 port)), (Value.int .i64 (IntKind.wrap .i64 (2 + (IntKind.wrap .i64 secs)))), (Value.int .u64 c_Nonce), (Value.int .i64 0), (Value.int .i64 0), (Value.int .u32 9)] :: cel b_1 25 [(Value.int .u32 c_Host), (Value.int .i64 c_Inside), (Value.int .i64 c_Secs), (Value.int .u64 c_Nonce)] :: poolP enc5 5 1 m_3 :: FL) w, ?_, ?_⟩
    · rintro m7_2 l9 s10 t108 w ⟨rfl, rfl, rfl, hp, h⟩
      replace hp := hq t108 hp
      unfold embrasurelaw12_MapperOver_j2
      refine cond_both hp (fun hp => ?_) (fun hp => ?_)
      · replace h := h.sel [] 5
        dsimp only [pickL, pickR, nthH, delH, dropH, List.cons_append, List.nil_append] at h
        exact hR false _ h hp
      refine ⟨_, cellL h 2 3 rfl rfl rfl, ?_⟩
      replace h := h.pick [1, 3]
      dsimp only [pickL, pickR, nthH, delH, dropH, List.cons_append, List.nil_append] at h
      refine mapper_Mapper_Tick_ok h hp ?_
      rintro rs_5 s_29 s_30 s_31 s_32 s_33 s_34 s_35 now_4 hasEpoch_4 m_4 p_6 n_6 c_6 w rfl h hp
      have cpp_6 := rowCap h 0 rfl
      refine ⟨_, _, _, rfl, ?_⟩
      replace h := h.pick [1]
      dsimp only [pickL, pickR, nthH, delH, dropH, List.cons_append, List.nil_append] at h
      refine mapper_Mapper_State_ok h hp ?_
      intro r_21 r_22 r_23 r_24 r_25 r_26 r_27 r_28 w h hp
      refine ⟨_, _, _, _, _, _, _, _, rfl, ?_⟩
      refine newL (o := [(Value.int .i64 0), (Value.int .i64 0), (Value.int .i64 0), (Value.int .u32 0), (Value.int .i64 0), (Value.int .i64 0), (Value.int .i64 0), (Value.int .i64 0)]) h ?_
      intro b_5 w h
      refine storeL (ys := [(Value.int .i64 r_21), (Value.int .i64 r_22), (Value.int .i64 r_23), (Value.int .u32 r_24), (Value.int .i64 r_25), (Value.int .i64 r_26), (Value.int .i64 r_27), (Value.int .i64 r_28)]) h 0 0 rfl rfl rfl sz43 rfl rfl ?_
      intro w h
      dsimp only [setH, setVs, setV] at h
      refine ⟨_, cellL h 5 3 rfl rfl rfl, ?_⟩
      replace h := h.pick [1, 2]
      dsimp only [pickL, pickR, nthH, delH, dropH, List.cons_append, List.nil_append] at h
      refine mapper_Mapper_Tick_ok h hp ?_
      rintro rs_6 s_36 s_37 s_38 s_39 s_40 s_41 s_42 now_5 hasEpoch_5 m_5 p_7 n_7 c_7 w rfl h hp
      have cpp_7 := rowCap h 0 rfl
      refine ⟨_, _, _, rfl, ?_⟩
      replace h := h.pick [1]
      dsimp only [pickL, pickR, nthH, delH, dropH, List.cons_append, List.nil_append] at h
      refine mapper_Mapper_State_ok h hp ?_
      intro r_29 r_30 r_31 r_32 r_33 r_34 r_35 r_36 w h hp
      refine ⟨_, _, _, _, _, _, _, _, rfl, ?_⟩
      refine newL (o := [(Value.int .i64 0), (Value.int .i64 0), (Value.int .i64 0), (Value.int .u32 0), (Value.int .i64 0), (Value.int .i64 0), (Value.int .i64 0), (Value.int .i64 0)]) h ?_
      intro b_6 w h
      refine storeL (ys := [(Value.int .i64 r_29), (Value.int .i64 r_30), (Value.int .i64 r_31), (Value.int .u32 r_32), (Value.int .i64 r_33), (Value.int .i64 r_34), (Value.int .i64 r_35), (Value.int .i64 r_36)]) h 0 0 rfl rfl rfl sz43 rfl rfl ?_
      intro w h
      dsimp only [setH, setVs, setV] at h
      refine ⟨_, cellL h 4 3 rfl rfl rfl, _, cellL h 4 4 rfl rfl rfl, ?_⟩
      refine ⟨_, cellL h 6 3 rfl rfl rfl, _, cellL h 6 4 rfl rfl rfl, ?_⟩
      refine eqlAgg (xs := [(Value.int .u32 r_24), (Value.int .i64 r_25)]) (ys := [(Value.int .u32 r_16), (Value.int .i64 r_17)]) eqG41 eqA41 (eqT41 r_24 r_25 r_16 r_17) ?_
      refine ⟨_, rfl, ?_⟩
      refine cond_both' hp (fun hp => ?_) (fun hp => ?_)
      · replace h := h.sel [] 9
        dsimp only [pickL, pickR, nthH, delH, dropH, List.cons_append, List.nil_append] at h
        exact hR false _ h hp
      refine ⟨_, cellL h 4 0 rfl rfl rfl, ?_⟩
      refine cond_both' hp (fun hp => ?_) (fun hp => ?_)
      · replace h := h.sel [] 9
        dsimp only [pickL, pickR, nthH, delH, dropH, List.cons_append, List.nil_append] at h
        exact hR false _ h hp
      refine ⟨_, cellL h 0 0 rfl rfl rfl, ?_⟩
      refine cond_both' hp (fun hp => ?_) (fun hp => ?_)
      · replace h := h.sel [] 9
        dsimp only [pickL, pickR, nthH, delH, dropH, List.cons_append, List.nil_append] at h
        exact hR false _ h hp
      refine ⟨_, cellL h 0 3 rfl rfl rfl, _, cellL h 0 4 rfl rfl rfl, ?_⟩
      refine eqlAgg (xs := [(Value.int .u32 r_32), (Value.int .i64 r_33)]) (ys := [(Value.int .u32 0), (Value.int .i64 0)]) eqG41 eqA41 (eqT41 r_32 r_33 0 0) ?_
      refine ⟨_, rfl, ?_⟩
      replace h := h.sel [] 9
      dsimp only [pickL, pickR, nthH, delH, dropH, List.cons_append, List.nil_append] at h
      exact hR (((r_32 : Int) == 0) && (((r_33 : Int) == 0) && true)) _ h hp
    clear hq
    refine ⟨_, cellL h 0 0 rfl rfl rfl, ?_⟩
    refine cond_both hp (fun hp => ?_) (fun hp => ?_)
    · replace h := h.sel [0, 0, 5, 6, 1] 5
      dsimp only [pickL, pickR, nthH, delH, dropH, List.cons_append, List.nil_append] at h
      exact ⟨rfl, rfl, rfl, hp, h⟩
    refine ⟨_, cellL h 0 5 rfl rfl rfl, ?_⟩
    refine ⟨_, cellL h 7 3 rfl rfl rfl, ?_⟩
    refine cond_both hp (fun hp => ?_) (fun hp => ?_)
    · replace h := h.sel [0, 0, 5, 6, 1] 5
      dsimp only [pickL, pickR, nthH, delH, dropH, List.cons_append, List.nil_append] at h
      exact ⟨rfl, rfl, rfl, hp, h⟩
    refine ⟨_, cellL h 0 3 rfl rfl rfl, _, cellL h 0 4 rfl rfl rfl, ?_⟩
    refine neqAgg (xs := [(Value.int .u32 r_16), (Value.int .i64 r_17)]) (ys := [(Value.int .u32 9), (Value.int .i64 (IntKind.wrap .i64 port))]) eqG41 eqA41 (eqT41 r_16 r_17 9 (IntKind.wrap .i64 port)) ?_
    refine ⟨_, rfl, ?_⟩
    refine cond_both hp (fun hp => ?_) (fun hp => ?_)
    · replace h := h.sel [0, 0, 5, 6, 1] 5
      dsimp only [pickL, pickR, nthH, delH, dropH, List.cons_append, List.nil_append] at h
      exact ⟨rfl, rfl, rfl, hp, h⟩
    refine ⟨_, cellL h 0 7 rfl rfl rfl, ?_⟩
    refine ⟨_, cellL h 7 3 rfl rfl rfl, ?_⟩
    refine ⟨by decide, ?_⟩
    replace h := h.sel [0, 0, 5, 6, 1] 5
    dsimp only [pickL, pickR, nthH, delH, dropH, List.cons_append, List.nil_append] at h
    exact ⟨rfl, rfl, rfl, hp, h⟩
  clear hq
  refine eqlPtrNil undP28 ?_
  refine ⟨_, rfl, ?_⟩
  refine cond_ff ?_
  refine cond_both hp (fun hp => ?_) (fun hp => ?_)
  · exact ⟨rfl, rfl, rfl, rfl, hp, h⟩
  exact ⟨rfl, rfl, rfl, rfl, hp, h⟩

end Go.Proofs.Ytighenkbdiahpaa
