/- Each function over plain data (printed by a program of this claim's author). -/
import Derived.Test.YtighenkbdiahpaaL3
namespace Go.Proofs.Ytighenkbdiahpaa
open Go Go.Eng Go.Proofs
set_option maxRecDepth 100000
set_option maxHeartbeats 2000000

/-! (*embrasure/mapper.Mapper).Tick (11) -/
def mapper_Mapper_Tick_wp (s : Int) (s_1 : Int) (s_2 : Int) (s_3 : Int) (s_4 : Int) (s_5 : Int) (s_6 : Int) (s_7 : Int) (host : Int) (secs : Int) (nonce : Int) (wish : Int) (wish_1 : Int) (outside : Int) (now : Int) (epoch : Int) (epochAt : Int) (hasEpoch : Bool) (now_1 : Int) (m_1 : List ((Option Addr × Nat × Nat) × List (Int))) (K : List ((Option Addr × Nat × Nat)) → Int → Int → Int → Int → Int → Int → Int → Int → Bool → List ((Option Addr × Nat × Nat) × List (Int)) → Prop) : Prop :=
  mapper_Mapper_on_wp s s_1 s_2 s_3 s_4 s_5 s_6 s_7 host secs nonce wish wish_1 outside now epoch epochAt hasEpoch now_1 (fun (r : Bool) (now_3 : Int) => cond (!r) (K ([] : List ((Option Addr × Nat × Nat))) s s_1 s_3 s_4 s_5 s_6 s_7 now_3 hasEpoch m_1) (mapper_Mapper_lost_wp s s_1 s_2 s_3 s_4 s_5 s_6 s_7 host secs nonce wish wish_1 outside now_3 epoch epochAt hasEpoch (fun (r_1 : Bool) => cond r_1 (mapper_Mapper_probe_wp s s_1 s_2 s_3 s_4 s_5 s_6 s_7 host secs nonce wish wish_1 outside now_3 epoch epochAt hasEpoch 2 m_1 (fun (rs : List ((Option Addr × Nat × Nat))) (s_15 : Int) (s_16 : Int) (s_17 : Int) (s_18 : Int) (s_19 : Int) (s_20 : Int) (s_21 : Int) (hasEpoch_2 : Bool) (m_3 : List ((Option Addr × Nat × Nat) × List (Int))) => K rs s_15 s_16 s_17 s_18 s_19 s_20 s_21 now_3 hasEpoch_2 m_3)) (cond ((s : Int) == 1) (joinP1 (fun (t44_3 : Bool) => cond t44_3 (K ([] : List ((Option Addr × Nat × Nat))) s s_1 s_3 s_4 s_5 s_6 s_7 now_3 hasEpoch m_1) (mapper_Mapper_probing_wp s s_1 s_2 s_3 s_4 s_5 s_6 s_7 host secs nonce wish wish_1 outside now_3 epoch epochAt hasEpoch m_1 (fun (rs_3 : List ((Option Addr × Nat × Nat))) (s_27 : Int) (s_28 : Int) (s_29 : Int) (s_30 : Int) (s_31 : Int) (s_32 : Int) (s_33 : Int) (hasEpoch_3 : Bool) (m_6 : List ((Option Addr × Nat × Nat) × List (Int))) => K rs_3 s_27 s_28 s_29 s_30 s_31 s_32 s_33 now_3 hasEpoch_3 m_6))) (fun (Q_3 : Bool → Prop) => Q_3 (decide ((now_1 : Int) < s_7)))) (cond ((s : Int) == 2) (joinP1 (fun (t44_2 : Bool) => cond t44_2 (K ([] : List ((Option Addr × Nat × Nat))) s s_1 s_3 s_4 s_5 s_6 s_7 now_3 hasEpoch m_1) (mapper_Mapper_holding_wp s s_1 s_2 s_3 s_4 s_5 s_6 s_7 host secs nonce wish wish_1 outside now_3 epoch epochAt hasEpoch m_1 (fun (rs_2 : List ((Option Addr × Nat × Nat))) (s_24 : Int) (s_25 : Int) (s_26 : Int) (m_5 : List ((Option Addr × Nat × Nat) × List (Int))) => K rs_2 s_24 s_1 s_3 s_4 s_5 s_25 s_26 now_3 hasEpoch m_5))) (fun (Q_2 : Bool → Prop) => Q_2 (decide ((now_1 : Int) < s_7)))) (cond ((s : Int) == 3) (joinP1 (fun (t44_1 : Bool) => cond t44_1 (K ([] : List ((Option Addr × Nat × Nat))) s s_1 s_3 s_4 s_5 s_6 s_7 now_3 hasEpoch m_1) (mapper_Mapper_renewing_wp s s_1 s_2 s_3 s_4 s_5 s_6 s_7 host secs nonce wish wish_1 outside now_3 epoch epochAt hasEpoch m_1 (fun (rs_1 : List ((Option Addr × Nat × Nat))) (s_22 : Int) (s_23 : Int) (m_4 : List ((Option Addr × Nat × Nat) × List (Int))) => K rs_1 s s_1 s_3 s_4 s_5 s_22 s_23 now_3 hasEpoch m_4))) (fun (Q_1 : Bool → Prop) => Q_1 (decide ((now_1 : Int) < s_7)))) (joinP1 (fun (t44 : Bool) => cond t44 (K ([] : List ((Option Addr × Nat × Nat))) s s_1 s_3 s_4 s_5 s_6 s_7 now_3 hasEpoch m_1) (False)) (fun (Q : Bool → Prop) => Q true))))))))
theorem mapper_Mapper_Tick_ok {b_1 : Nat} {s : Int} {s_1 : Int} {s_2 : Int} {s_3 : Int} {s_4 : Int} {s_5 : Int} {s_6 : Int} {s_7 : Int} {host : Int} {secs : Int} {nonce : Int} {wish : Int} {wish_1 : Int} {outside : Int} {now : Int} {epoch : Int} {epochAt : Int} {hasEpoch : Bool} {now_1 : Int} {m_1 : List ((Option Addr × Nat × Nat) × List (Int))} {FL : List HP} {w : World} {K : List ((Option Addr × Nat × Nat)) → Int → Int → Int → Int → Int → Int → Int → Int → Bool → List ((Option Addr × Nat × Nat) × List (Int)) → Prop} {R : Value → World → Prop}
  (h : Mem (cel b_1 47 [(Value.int .i64 s), (Value.int .i64 s_1), (Value.int .i64 s_2), (Value.int .u32 s_3), (Value.int .i64 s_4), (Value.int .i64 s_5), (Value.int .i64 s_6), (Value.int .i64 s_7), (Value.int .u32 host), (Value.int .i64 secs), (Value.int .u64 nonce), (Value.int .u32 wish), (Value.int .i64 wish_1), (Value.int .u32 outside), (Value.int .i64 now), (Value.int .i64 epoch), (Value.int .i64 epochAt), (Value.bool hasEpoch)] :: poolP enc5 5 1 m_1 :: FL) w) (hp : mapper_Mapper_Tick_wp s s_1 s_2 s_3 s_4 s_5 s_6 s_7 host secs nonce wish wish_1 outside now epoch epochAt hasEpoch now_1 m_1 K)
  (hR : ∀ (rs : List ((Option Addr × Nat × Nat))) (s_8 : Int) (s_9 : Int) (s_10 : Int) (s_11 : Int) (s_12 : Int) (s_13 : Int) (s_14 : Int) (now_2 : Int) (hasEpoch_1 : Bool) (m_2 : List ((Option Addr × Nat × Nat) × List (Int))) (p_1 : Option Addr) (n_1 : Nat) (c_1 : Nat) (w : World), n_1 = rs.length → Mem (row enc38 38 1 p_1 c_1 rs :: cel b_1 47 [(Value.int .i64 s_8), (Value.int .i64 s_9), (Value.int .i64 s_2), (Value.int .u32 s_10), (Value.int .i64 s_11), (Value.int .i64 s_12), (Value.int .i64 s_13), (Value.int .i64 s_14), (Value.int .u32 host), (Value.int .i64 secs), (Value.int .u64 nonce), (Value.int .u32 wish), (Value.int .i64 wish_1), (Value.int .u32 outside), (Value.int .i64 now_2), (Value.int .i64 epoch), (Value.int .i64 epochAt), (Value.bool hasEpoch_1)] :: poolP enc5 5 1 m_2 :: FL) w → K rs s_8 s_9 s_10 s_11 s_12 s_13 s_14 now_2 hasEpoch_1 m_2 → R (Value.slice p_1 n_1 c_1) w) :
  CallV Try.prog 11 #[(Value.pointer (some (Addr.mk b_1 0 none))), (Value.int .i64 now_1)] w R := by
  refine mapper_Mapper_Tick_call ?_
  unfold mapper_Mapper_Tick
  unfold mapper_Mapper_Tick_wp at hp
  refine mapper_Mapper_on_ok h hp ?_
  intro r now_3 w h hp
  refine ⟨_, rfl, ?_⟩
  refine cond_both hp (fun hp => ?_) (fun hp => ?_)
  · replace h := rowNil enc38 38 1 h
    exact hR ([] : List ((Option Addr × Nat × Nat))) s s_1 s_3 s_4 s_5 s_6 s_7 now_3 hasEpoch m_1 (none ) 0 0 _ rfl h hp
  refine mapper_Mapper_lost_ok h hp ?_
  intro r_1 w h hp
  refine ⟨_, rfl, ?_⟩
  refine cond_both hp (fun hp => ?_) (fun hp => ?_)
  · refine mapper_Mapper_probe_ok h hp ?_
    rintro rs s_15 s_16 s_17 s_18 s_19 s_20 s_21 hasEpoch_2 m_3 p_2 n_1 c_1 w rfl h hp
    have cpp_2 := rowCap h 0 rfl
    refine ⟨_, _, _, rfl, ?_⟩
    exact hR rs s_15 s_16 s_17 s_18 s_19 s_20 s_21 now_3 hasEpoch_2 m_3 p_2 rs.length c_1 _ rfl h hp
  refine makeMapL (ek := va3) (ev := fun v : Value => v) h ?_
  intro b_2 p_3 w h
  refine ⟨_, rfl, ?_⟩
  refine mapPutG (ek := va3) (ev := fun v : Value => v) (k := 1) (v := (Value.func (Fn.func 21) #[(Value.pointer (some (Addr.mk b_1 0 none)))] #[])) h 0 rfl mu55 kt3 ?_
  intro p_4 w h
  dsimp only [setH, setVs, setV] at h
  refine mapPutG (ek := va3) (ev := fun v : Value => v) (k := 2) (v := (Value.func (Fn.func 22) #[(Value.pointer (some (Addr.mk b_1 0 none)))] #[])) h 0 rfl mu55 kt3 ?_
  intro p_5 w h
  dsimp only [setH, setVs, setV] at h
  refine mapPutG (ek := va3) (ev := fun v : Value => v) (k := 3) (v := (Value.func (Fn.func 23) #[(Value.pointer (some (Addr.mk b_1 0 none)))] #[])) h 0 rfl mu55 kt3 ?_
  intro p_6 w h
  dsimp only [setH, setVs, setV] at h
  refine ⟨_, rfl, ?_⟩
  refine ⟨_, cellL h 1 0 rfl rfl rfl, ?_⟩
  by_cases hkk0 : (s : Int) = 1
  · replace hp := condPos hkk0 hp
    refine lookF (ek := va3) (k := s) (v := (Value.func (Fn.func 21) #[(Value.pointer (some (Addr.mk b_1 0 none)))] #[])) (ok := true) (mapAt h 0 rfl) mu55 kt3 (fun w => run_zeroValue zr54) (by rw [hkk0]; rfl) (by rw [hkk0]; rfl) ?_
    refine ⟨_, _, rfl, ?_⟩
    obtain ⟨Q_3, hq, hp⟩ := hp
    refine ⟨fun do6_3 t44_3 w => (Value.func (Fn.func 21) #[(Value.pointer (some (Addr.mk b_1 0 none)))] #[]) = do6_3 ∧ Q_3 t44_3 ∧ Mem (cel b_1 47 [(Value.int .i64 s), (Value.int .i64 s_1), (Value.int .i64 s_2), (Value.int .u32 s_3), (Value.int .i64 s_4), (Value.int .i64 s_5), (Value.int .i64 s_6), (Value.int .i64 s_7), (Value.int .u32 host), (Value.int .i64 secs), (Value.int .u64 nonce), (Value.int .u32 wish), (Value.int .i64 wish_1), (Value.int .u32 outside), (Value.int .i64 now_3), (Value.int .i64 epoch), (Value.int .i64 epochAt), (Value.bool hasEpoch)] :: poolP enc5 5 1 m_1 :: FL) w, ?_, ?_⟩
    · rintro do6_3 t44_3 w ⟨rfl, hp, h⟩
      replace hp := hq t44_3 hp
      unfold mapper_Mapper_Tick_j1
      refine cond_both hp (fun hp => ?_) (fun hp => ?_)
      · replace h := rowNil enc38 38 1 h
        exact hR ([] : List ((Option Addr × Nat × Nat))) s s_1 s_3 s_4 s_5 s_6 s_7 now_3 hasEpoch m_1 (none     ) 0 0 _ rfl h hp
      refine mapper_Mapper_probing_ok h hp ?_
      rintro rs_3 s_27 s_28 s_29 s_30 s_31 s_32 s_33 hasEpoch_3 m_6 p_13 n_4 c_4 w rfl h hp
      have cpp_13 := rowCap h 0 rfl
      refine ⟨_, _, _, rfl, ?_⟩
      exact hR rs_3 s_27 s_28 s_29 s_30 s_31 s_32 s_33 now_3 hasEpoch_3 m_6 p_13 rs_3.length c_4 _ rfl h hp
    clear hq
    refine cond_ff ?_
    refine ⟨_, rfl, ?_⟩
    refine ⟨_, cellL h 1 7 rfl rfl rfl, ?_⟩
    replace h := h.sel [1, 1] 1
    dsimp only [pickL, pickR, nthH, delH, dropH, List.cons_append, List.nil_append] at h
    exact ⟨rfl, hp, h⟩
  replace hp := condNeg hkk0 hp
  by_cases hkk1 : (s : Int) = 2
  · replace hp := condPos hkk1 hp
    refine lookF (ek := va3) (k := s) (v := (Value.func (Fn.func 22) #[(Value.pointer (some (Addr.mk b_1 0 none)))] #[])) (ok := true) (mapAt h 0 rfl) mu55 kt3 (fun w => run_zeroValue zr54) (by rw [hkk1]; rfl) (by rw [hkk1]; rfl) ?_
    refine ⟨_, _, rfl, ?_⟩
    obtain ⟨Q_2, hq, hp⟩ := hp
    refine ⟨fun do6_2 t44_2 w => (Value.func (Fn.func 22) #[(Value.pointer (some (Addr.mk b_1 0 none)))] #[]) = do6_2 ∧ Q_2 t44_2 ∧ Mem (cel b_1 47 [(Value.int .i64 s), (Value.int .i64 s_1), (Value.int .i64 s_2), (Value.int .u32 s_3), (Value.int .i64 s_4), (Value.int .i64 s_5), (Value.int .i64 s_6), (Value.int .i64 s_7), (Value.int .u32 host), (Value.int .i64 secs), (Value.int .u64 nonce), (Value.int .u32 wish), (Value.int .i64 wish_1), (Value.int .u32 outside), (Value.int .i64 now_3), (Value.int .i64 epoch), (Value.int .i64 epochAt), (Value.bool hasEpoch)] :: poolP enc5 5 1 m_1 :: FL) w, ?_, ?_⟩
    · rintro do6_2 t44_2 w ⟨rfl, hp, h⟩
      replace hp := hq t44_2 hp
      unfold mapper_Mapper_Tick_j1
      refine cond_both hp (fun hp => ?_) (fun hp => ?_)
      · replace h := rowNil enc38 38 1 h
        exact hR ([] : List ((Option Addr × Nat × Nat))) s s_1 s_3 s_4 s_5 s_6 s_7 now_3 hasEpoch m_1 (none    ) 0 0 _ rfl h hp
      refine mapper_Mapper_holding_ok h hp ?_
      rintro rs_2 s_24 s_25 s_26 m_5 p_11 n_3 c_3 w rfl h hp
      have cpp_11 := rowCap h 0 rfl
      refine ⟨_, _, _, rfl, ?_⟩
      exact hR rs_2 s_24 s_1 s_3 s_4 s_5 s_25 s_26 now_3 hasEpoch m_5 p_11 rs_2.length c_3 _ rfl h hp
    clear hq
    refine cond_ff ?_
    refine ⟨_, rfl, ?_⟩
    refine ⟨_, cellL h 1 7 rfl rfl rfl, ?_⟩
    replace h := h.sel [1, 1] 1
    dsimp only [pickL, pickR, nthH, delH, dropH, List.cons_append, List.nil_append] at h
    exact ⟨rfl, hp, h⟩
  replace hp := condNeg hkk1 hp
  by_cases hkk2 : (s : Int) = 3
  · replace hp := condPos hkk2 hp
    refine lookF (ek := va3) (k := s) (v := (Value.func (Fn.func 23) #[(Value.pointer (some (Addr.mk b_1 0 none)))] #[])) (ok := true) (mapAt h 0 rfl) mu55 kt3 (fun w => run_zeroValue zr54) (by rw [hkk2]; rfl) (by rw [hkk2]; rfl) ?_
    refine ⟨_, _, rfl, ?_⟩
    obtain ⟨Q_1, hq, hp⟩ := hp
    refine ⟨fun do6_1 t44_1 w => (Value.func (Fn.func 23) #[(Value.pointer (some (Addr.mk b_1 0 none)))] #[]) = do6_1 ∧ Q_1 t44_1 ∧ Mem (cel b_1 47 [(Value.int .i64 s), (Value.int .i64 s_1), (Value.int .i64 s_2), (Value.int .u32 s_3), (Value.int .i64 s_4), (Value.int .i64 s_5), (Value.int .i64 s_6), (Value.int .i64 s_7), (Value.int .u32 host), (Value.int .i64 secs), (Value.int .u64 nonce), (Value.int .u32 wish), (Value.int .i64 wish_1), (Value.int .u32 outside), (Value.int .i64 now_3), (Value.int .i64 epoch), (Value.int .i64 epochAt), (Value.bool hasEpoch)] :: poolP enc5 5 1 m_1 :: FL) w, ?_, ?_⟩
    · rintro do6_1 t44_1 w ⟨rfl, hp, h⟩
      replace hp := hq t44_1 hp
      unfold mapper_Mapper_Tick_j1
      refine cond_both hp (fun hp => ?_) (fun hp => ?_)
      · replace h := rowNil enc38 38 1 h
        exact hR ([] : List ((Option Addr × Nat × Nat))) s s_1 s_3 s_4 s_5 s_6 s_7 now_3 hasEpoch m_1 (none   ) 0 0 _ rfl h hp
      refine mapper_Mapper_renewing_ok h hp ?_
      rintro rs_1 s_22 s_23 m_4 p_9 n_2 c_2 w rfl h hp
      have cpp_9 := rowCap h 0 rfl
      refine ⟨_, _, _, rfl, ?_⟩
      exact hR rs_1 s s_1 s_3 s_4 s_5 s_22 s_23 now_3 hasEpoch m_4 p_9 rs_1.length c_2 _ rfl h hp
    clear hq
    refine cond_ff ?_
    refine ⟨_, rfl, ?_⟩
    refine ⟨_, cellL h 1 7 rfl rfl rfl, ?_⟩
    replace h := h.sel [1, 1] 1
    dsimp only [pickL, pickR, nthH, delH, dropH, List.cons_append, List.nil_append] at h
    exact ⟨rfl, hp, h⟩
  replace hp := condNeg hkk2 hp
  refine lookF (ek := va3) (k := s) (v := Value.nilFunc) (ok := false) (mapAt h 0 rfl) mu55 kt3 (fun w => run_zeroValue zr54) (by simp [mapGet, mapPut, mapI, List.findIdx?_cons, hkk0, hkk1, hkk2]) (by simp [mapHas, mapPut, mapI, List.findIdx?_cons, hkk0, hkk1, hkk2]) ?_
  refine ⟨_, _, rfl, ?_⟩
  obtain ⟨Q, hq, hp⟩ := hp
  refine ⟨fun do6 t44 w => Value.nilFunc = do6 ∧ Q t44 ∧ Mem (cel b_1 47 [(Value.int .i64 s), (Value.int .i64 s_1), (Value.int .i64 s_2), (Value.int .u32 s_3), (Value.int .i64 s_4), (Value.int .i64 s_5), (Value.int .i64 s_6), (Value.int .i64 s_7), (Value.int .u32 host), (Value.int .i64 secs), (Value.int .u64 nonce), (Value.int .u32 wish), (Value.int .i64 wish_1), (Value.int .u32 outside), (Value.int .i64 now_3), (Value.int .i64 epoch), (Value.int .i64 epochAt), (Value.bool hasEpoch)] :: poolP enc5 5 1 m_1 :: FL) w, ?_, ?_⟩
  · rintro do6 t44 w ⟨rfl, hp, h⟩
    replace hp := hq t44 hp
    unfold mapper_Mapper_Tick_j1
    refine cond_both' hp (fun hp => ?_) (fun hp => ?_)
    · exact hp.elim
    replace h := rowNil enc38 38 1 h
    exact hR ([] : List ((Option Addr × Nat × Nat))) s s_1 s_3 s_4 s_5 s_6 s_7 now_3 hasEpoch m_1 (none  ) 0 0 _ rfl h hp
  clear hq
  refine cond_tt ?_
  replace h := h.sel [1, 1] 1
  dsimp only [pickL, pickR, nthH, delH, dropH, List.cons_append, List.nil_append] at h
  exact ⟨rfl, hp, h⟩

/-! (*embrasure/mapper.Mapper).State (10) -/
def mapper_Mapper_State_wp (s : Int) (s_1 : Int) (s_2 : Int) (s_3 : Int) (s_4 : Int) (s_5 : Int) (s_6 : Int) (s_7 : Int) (host : Int) (secs : Int) (nonce : Int) (wish : Int) (wish_1 : Int) (outside : Int) (now : Int) (epoch : Int) (epochAt : Int) (hasEpoch : Bool) (K : Int → Int → Int → Int → Int → Int → Int → Int → Prop) : Prop :=
  K s s_1 s_2 s_3 s_4 s_5 s_6 s_7
theorem mapper_Mapper_State_ok {b_1 : Nat} {s : Int} {s_1 : Int} {s_2 : Int} {s_3 : Int} {s_4 : Int} {s_5 : Int} {s_6 : Int} {s_7 : Int} {host : Int} {secs : Int} {nonce : Int} {wish : Int} {wish_1 : Int} {outside : Int} {now : Int} {epoch : Int} {epochAt : Int} {hasEpoch : Bool} {FL : List HP} {w : World} {K : Int → Int → Int → Int → Int → Int → Int → Int → Prop} {R : Value → World → Prop}
  (h : Mem (cel b_1 47 [(Value.int .i64 s), (Value.int .i64 s_1), (Value.int .i64 s_2), (Value.int .u32 s_3), (Value.int .i64 s_4), (Value.int .i64 s_5), (Value.int .i64 s_6), (Value.int .i64 s_7), (Value.int .u32 host), (Value.int .i64 secs), (Value.int .u64 nonce), (Value.int .u32 wish), (Value.int .i64 wish_1), (Value.int .u32 outside), (Value.int .i64 now), (Value.int .i64 epoch), (Value.int .i64 epochAt), (Value.bool hasEpoch)] :: FL) w) (hp : mapper_Mapper_State_wp s s_1 s_2 s_3 s_4 s_5 s_6 s_7 host secs nonce wish wish_1 outside now epoch epochAt hasEpoch K)
  (hR : ∀ (r : Int) (r_1 : Int) (r_2 : Int) (r_3 : Int) (r_4 : Int) (r_5 : Int) (r_6 : Int) (r_7 : Int) (w : World), Mem (cel b_1 47 [(Value.int .i64 s), (Value.int .i64 s_1), (Value.int .i64 s_2), (Value.int .u32 s_3), (Value.int .i64 s_4), (Value.int .i64 s_5), (Value.int .i64 s_6), (Value.int .i64 s_7), (Value.int .u32 host), (Value.int .i64 secs), (Value.int .u64 nonce), (Value.int .u32 wish), (Value.int .i64 wish_1), (Value.int .u32 outside), (Value.int .i64 now), (Value.int .i64 epoch), (Value.int .i64 epochAt), (Value.bool hasEpoch)] :: FL) w → K r r_1 r_2 r_3 r_4 r_5 r_6 r_7 → R (Value.agg #[(Value.int .i64 r), (Value.int .i64 r_1), (Value.int .i64 r_2), (Value.int .u32 r_3), (Value.int .i64 r_4), (Value.int .i64 r_5), (Value.int .i64 r_6), (Value.int .i64 r_7)]) w) :
  CallV Try.prog 10 #[(Value.pointer (some (Addr.mk b_1 0 none)))] w R := by
  refine mapper_Mapper_State_call ?_
  unfold mapper_Mapper_State
  unfold mapper_Mapper_State_wp at hp
  refine newL (o := [(Value.int .i64 0), (Value.int .i64 0), (Value.int .i64 0), (Value.int .u32 0), (Value.int .i64 0), (Value.int .i64 0), (Value.int .i64 0), (Value.int .i64 0)]) h ?_
  intro b_2 w h
  refine ⟨_, rfl, ?_⟩
  refine ⟨_, cellL h 1 0 rfl rfl rfl, _, cellL h 1 1 rfl rfl rfl, _, cellL h 1 2 rfl rfl rfl, _, cellL h 1 3 rfl rfl rfl, _, cellL h 1 4 rfl rfl rfl, _, cellL h 1 5 rfl rfl rfl, _, cellL h 1 6 rfl rfl rfl, _, cellL h 1 7 rfl rfl rfl, ?_⟩
  refine storeL (ys := [(Value.int .i64 s), (Value.int .i64 s_1), (Value.int .i64 s_2), (Value.int .u32 s_3), (Value.int .i64 s_4), (Value.int .i64 s_5), (Value.int .i64 s_6), (Value.int .i64 s_7)]) h 0 0 rfl rfl rfl sz43 rfl rfl ?_
  intro w h
  dsimp only [setH, setVs, setV] at h
  refine ⟨_, cellL h 0 0 rfl rfl rfl, _, cellL h 0 1 rfl rfl rfl, _, cellL h 0 2 rfl rfl rfl, _, cellL h 0 3 rfl rfl rfl, _, cellL h 0 4 rfl rfl rfl, _, cellL h 0 5 rfl rfl rfl, _, cellL h 0 6 rfl rfl rfl, _, cellL h 0 7 rfl rfl rfl, ?_⟩
  replace h := h.sel [1] 1
  dsimp only [pickL, pickR, nthH, delH, dropH, List.cons_append, List.nil_append] at h
  exact hR s s_1 s_2 s_3 s_4 s_5 s_6 s_7 _ h hp

/-! embrasure/embrasurelaw12.awake (4) -/
def embrasurelaw12_awake_wp  (K : Bool → Prop) : Prop :=
  mapper_New_wp 5 80 60 9 (fun (r : Int) => mapper_New_wp 5 0 60 9 (fun (r_1 : Int) => joinP1 (fun (t20 : Bool) => cond t20 (K false) (False)) (fun (Q : Bool → Prop) => Q true)) (fun (r_2 : Int) (s : Int) (s_1 : Int) (s_2 : Int) (s_3 : Int) (s_4 : Int) (s_5 : Int) (s_6 : Int) (s_7 : Int) (host : Int) (secs : Int) (nonce : Int) (wish : Int) (wish_1 : Int) (outside : Int) (now : Int) (epoch : Int) (epochAt : Int) (hasEpoch : Bool) => joinP1 (fun (t20_1 : Bool) => cond t20_1 (K false) (False)) (fun (Q_1 : Bool → Prop) => Q_1 true))) (fun (r_3 : Int) (s_8 : Int) (s_9 : Int) (s_10 : Int) (s_11 : Int) (s_12 : Int) (s_13 : Int) (s_14 : Int) (s_15 : Int) (host_1 : Int) (secs_1 : Int) (nonce_1 : Int) (wish_2 : Int) (wish_3 : Int) (outside_1 : Int) (now_1 : Int) (epoch_1 : Int) (epochAt_1 : Int) (hasEpoch_1 : Bool) => mapper_New_wp 5 0 60 9 (fun (r_4 : Int) => joinP1 (fun (t20_2 : Bool) => cond t20_2 (K false) (mapper_Mapper_Start_wp s_8 s_9 s_10 s_11 s_12 s_13 s_14 s_15 host_1 secs_1 nonce_1 wish_2 wish_3 outside_1 now_1 epoch_1 epochAt_1 hasEpoch_1 0 ([] : List ((Option Addr × Nat × Nat) × List (Int))) (fun (rs : List ((Option Addr × Nat × Nat))) (s_16 : Int) (s_17 : Int) (s_18 : Int) (s_19 : Int) (s_20 : Int) (s_21 : Int) (s_22 : Int) (now_2 : Int) (hasEpoch_2 : Bool) (m_1 : List ((Option Addr × Nat × Nat) × List (Int))) => mapper_Mapper_Tick_wp s_16 s_17 s_10 s_18 s_19 s_20 s_21 s_22 host_1 secs_1 nonce_1 wish_2 wish_3 outside_1 now_2 epoch_1 epochAt_1 hasEpoch_2 1 m_1 (fun (rs_1 : List ((Option Addr × Nat × Nat))) (s_23 : Int) (s_24 : Int) (s_25 : Int) (s_26 : Int) (s_27 : Int) (s_28 : Int) (s_29 : Int) (now_3 : Int) (hasEpoch_3 : Bool) (m_2 : List ((Option Addr × Nat × Nat) × List (Int))) => cond ((r_4 : Int) == 1) (cond ((((rs.length : Nat) : Int) : Int) == 1) (0 ≤ (0 : Int) ∧ (0 : Int) < ((rs.length : Nat) : Int) ∧ (∀ (x_1 : (Option Addr × Nat × Nat)), rs[Int.toNat 0]? = some x_1 → (cond ((((x_1.2.1 : Nat) : Int) : Int) == 60) (cond ((((rs_1.length : Nat) : Int) : Int) == 1) (mapper_Mapper_Tick_wp s_23 s_24 s_10 s_25 s_26 s_27 s_28 s_29 host_1 secs_1 nonce_1 wish_2 wish_3 outside_1 now_3 epoch_1 epochAt_1 hasEpoch_3 2 m_2 (fun (rs_2 : List ((Option Addr × Nat × Nat))) (s_30 : Int) (s_31 : Int) (s_32 : Int) (s_33 : Int) (s_34 : Int) (s_35 : Int) (s_36 : Int) (now_4 : Int) (hasEpoch_4 : Bool) (m_3 : List ((Option Addr × Nat × Nat) × List (Int))) => cond ((((rs_2.length : Nat) : Int) : Int) == 0) (mapper_Mapper_State_wp s_30 s_31 s_10 s_32 s_33 s_34 s_35 s_36 host_1 secs_1 nonce_1 wish_2 wish_3 outside_1 now_4 epoch_1 epochAt_1 hasEpoch_4 (fun (r_5 : Int) (r_6 : Int) (r_7 : Int) (r_8 : Int) (r_9 : Int) (r_10 : Int) (r_11 : Int) (r_12 : Int) => K (((r_5 : Int) == 1) && (((r_6 : Int) == 2) && (((r_7 : Int) == 80) && ((((r_8 : Int) == 0) && (((r_9 : Int) == 0) && true)) && (((r_10 : Int) == 0) && (((r_11 : Int) == 2) && (((r_12 : Int) == 3) && true))))))))) (K false))) (K false)) (K false)))) (K false)) (K false))))) (fun (Q_2 : Bool → Prop) => Q_2 ((r_3 : Int) != 0))) (fun (r_13 : Int) (s_37 : Int) (s_38 : Int) (s_39 : Int) (s_40 : Int) (s_41 : Int) (s_42 : Int) (s_43 : Int) (s_44 : Int) (host_2 : Int) (secs_2 : Int) (nonce_2 : Int) (wish_4 : Int) (wish_5 : Int) (outside_2 : Int) (now_5 : Int) (epoch_2 : Int) (epochAt_2 : Int) (hasEpoch_5 : Bool) => joinP1 (fun (t20_3 : Bool) => cond t20_3 (K false) (mapper_Mapper_Start_wp s_8 s_9 s_10 s_11 s_12 s_13 s_14 s_15 host_1 secs_1 nonce_1 wish_2 wish_3 outside_1 now_1 epoch_1 epochAt_1 hasEpoch_1 0 ([] : List ((Option Addr × Nat × Nat) × List (Int))) (fun (rs_3 : List ((Option Addr × Nat × Nat))) (s_45 : Int) (s_46 : Int) (s_47 : Int) (s_48 : Int) (s_49 : Int) (s_50 : Int) (s_51 : Int) (now_6 : Int) (hasEpoch_6 : Bool) (m_4 : List ((Option Addr × Nat × Nat) × List (Int))) => mapper_Mapper_Tick_wp s_45 s_46 s_10 s_47 s_48 s_49 s_50 s_51 host_1 secs_1 nonce_1 wish_2 wish_3 outside_1 now_6 epoch_1 epochAt_1 hasEpoch_6 1 m_4 (fun (rs_4 : List ((Option Addr × Nat × Nat))) (s_52 : Int) (s_53 : Int) (s_54 : Int) (s_55 : Int) (s_56 : Int) (s_57 : Int) (s_58 : Int) (now_7 : Int) (hasEpoch_7 : Bool) (m_5 : List ((Option Addr × Nat × Nat) × List (Int))) => cond ((r_13 : Int) == 1) (cond ((((rs_3.length : Nat) : Int) : Int) == 1) (0 ≤ (0 : Int) ∧ (0 : Int) < ((rs_3.length : Nat) : Int) ∧ (∀ (x_2 : (Option Addr × Nat × Nat)), rs_3[Int.toNat 0]? = some x_2 → (cond ((((x_2.2.1 : Nat) : Int) : Int) == 60) (cond ((((rs_4.length : Nat) : Int) : Int) == 1) (mapper_Mapper_Tick_wp s_52 s_53 s_10 s_54 s_55 s_56 s_57 s_58 host_1 secs_1 nonce_1 wish_2 wish_3 outside_1 now_7 epoch_1 epochAt_1 hasEpoch_7 2 m_5 (fun (rs_5 : List ((Option Addr × Nat × Nat))) (s_59 : Int) (s_60 : Int) (s_61 : Int) (s_62 : Int) (s_63 : Int) (s_64 : Int) (s_65 : Int) (now_8 : Int) (hasEpoch_8 : Bool) (m_6 : List ((Option Addr × Nat × Nat) × List (Int))) => cond ((((rs_5.length : Nat) : Int) : Int) == 0) (mapper_Mapper_State_wp s_59 s_60 s_10 s_61 s_62 s_63 s_64 s_65 host_1 secs_1 nonce_1 wish_2 wish_3 outside_1 now_8 epoch_1 epochAt_1 hasEpoch_8 (fun (r_14 : Int) (r_15 : Int) (r_16 : Int) (r_17 : Int) (r_18 : Int) (r_19 : Int) (r_20 : Int) (r_21 : Int) => K (((r_14 : Int) == 1) && (((r_15 : Int) == 2) && (((r_16 : Int) == 80) && ((((r_17 : Int) == 0) && (((r_18 : Int) == 0) && true)) && (((r_19 : Int) == 0) && (((r_20 : Int) == 2) && (((r_21 : Int) == 3) && true))))))))) (K false))) (K false)) (K false)))) (K false)) (K false))))) (fun (Q_3 : Bool → Prop) => Q_3 ((r_3 : Int) != 0))))
theorem embrasurelaw12_awake_ok  {FL : List HP} {w : World} {K : Bool → Prop} {R : Value → World → Prop}
  (h : Mem (FL) w) (hp : embrasurelaw12_awake_wp  K)
  (hR : ∀ (r : Bool) (w : World), Mem (FL) w → K r → R (Value.bool r) w) :
  CallV Try.prog 4 #[] w R := by
  refine embrasurelaw12_awake_call ?_
  unfold embrasurelaw12_awake
  unfold embrasurelaw12_awake_wp at hp
  replace h := poolNil enc5 5 1 h
  refine mapper_New_ok h hp ?_ ?_
  · intro r w h hp
    refine ⟨_, _, rfl, ?_⟩
    refine ⟨_, rfl, ?_⟩
    refine ⟨_, rfl, ?_⟩
    refine mapper_New_ok h hp ?_ ?_
    · intro r_1 w h hp
      refine ⟨_, _, rfl, ?_⟩
      refine ⟨_, rfl, ?_⟩
      refine ⟨_, rfl, ?_⟩
      obtain ⟨Q, hq, hp⟩ := hp
      refine ⟨fun m1 f4 t20 w => none = m1 ∧ r_1 = f4 ∧ Q t20 ∧ Mem (poolP enc5 5 1 ([] : List ((Option Addr × Nat × Nat) × List (Int))) :: FL) w, ?_, ?_⟩
      · rintro m1 f4 t20 w ⟨rfl, rfl, hp, h⟩
        replace hp := hq t20 hp
        unfold embrasurelaw12_awake_j1
        refine cond_both' hp (fun hp => ?_) (fun hp => ?_)
        · exact hp.elim
        replace h := h.sel [] 1
        dsimp only [pickL, pickR, nthH, delH, dropH, List.cons_append, List.nil_append] at h
        exact hR false _ h hp
      clear hq
      refine eqlPtrNN undP28 ?_
      refine ⟨_, rfl, ?_⟩
      refine cond_tt ?_
      exact ⟨rfl, rfl, hp, h⟩
    intro r_2 s s_1 s_2 s_3 s_4 s_5 s_6 s_7 host secs nonce wish wish_1 outside now epoch epochAt hasEpoch b_1 w h hp
    refine ⟨_, _, rfl, ?_⟩
    refine ⟨_, rfl, ?_⟩
    refine ⟨_, rfl, ?_⟩
    obtain ⟨Q_1, hq, hp⟩ := hp
    refine ⟨fun m1_1 f4_1 t20_1 w => none = m1_1 ∧ r_2 = f4_1 ∧ Q_1 t20_1 ∧ Mem (cel b_1 47 [(Value.int .i64 s), (Value.int .i64 s_1), (Value.int .i64 s_2), (Value.int .u32 s_3), (Value.int .i64 s_4), (Value.int .i64 s_5), (Value.int .i64 s_6), (Value.int .i64 s_7), (Value.int .u32 host), (Value.int .i64 secs), (Value.int .u64 nonce), (Value.int .u32 wish), (Value.int .i64 wish_1), (Value.int .u32 outside), (Value.int .i64 now), (Value.int .i64 epoch), (Value.int .i64 epochAt), (Value.bool hasEpoch)] :: poolP enc5 5 1 ([] : List ((Option Addr × Nat × Nat) × List (Int))) :: FL) w, ?_, ?_⟩
    · rintro m1_1 f4_1 t20_1 w ⟨rfl, rfl, hp, h⟩
      replace hp := hq t20_1 hp
      unfold embrasurelaw12_awake_j1
      refine cond_both' hp (fun hp => ?_) (fun hp => ?_)
      · exact hp.elim
      replace h := h.sel [] 2
      dsimp only [pickL, pickR, nthH, delH, dropH, List.cons_append, List.nil_append] at h
      exact hR false _ h hp
    clear hq
    refine eqlPtrNN undP28 ?_
    refine ⟨_, rfl, ?_⟩
    refine cond_tt ?_
    exact ⟨rfl, rfl, hp, h⟩
  intro r_3 s_8 s_9 s_10 s_11 s_12 s_13 s_14 s_15 host_1 secs_1 nonce_1 wish_2 wish_3 outside_1 now_1 epoch_1 epochAt_1 hasEpoch_1 b_2 w h hp
  refine ⟨_, _, rfl, ?_⟩
  refine ⟨_, rfl, ?_⟩
  refine ⟨_, rfl, ?_⟩
  refine mapper_New_ok h hp ?_ ?_
  · intro r_4 w h hp
    refine ⟨_, _, rfl, ?_⟩
    refine ⟨_, rfl, ?_⟩
    refine ⟨_, rfl, ?_⟩
    obtain ⟨Q_2, hq, hp⟩ := hp
    refine ⟨fun m1_2 f4_2 t20_2 w => (some (Addr.mk b_2 0 none)) = m1_2 ∧ r_4 = f4_2 ∧ Q_2 t20_2 ∧ Mem (cel b_2 47 [(Value.int .i64 s_8), (Value.int .i64 s_9), (Value.int .i64 s_10), (Value.int .u32 s_11), (Value.int .i64 s_12), (Value.int .i64 s_13), (Value.int .i64 s_14), (Value.int .i64 s_15), (Value.int .u32 host_1), (Value.int .i64 secs_1), (Value.int .u64 nonce_1), (Value.int .u32 wish_2), (Value.int .i64 wish_3), (Value.int .u32 outside_1), (Value.int .i64 now_1), (Value.int .i64 epoch_1), (Value.int .i64 epochAt_1), (Value.bool hasEpoch_1)] :: poolP enc5 5 1 ([] : List ((Option Addr × Nat × Nat) × List (Int))) :: FL) w, ?_, ?_⟩
    · rintro m1_2 f4_2 t20_2 w ⟨rfl, rfl, hp, h⟩
      replace hp := hq t20_2 hp
      unfold embrasurelaw12_awake_j1
      refine cond_both hp (fun hp => ?_) (fun hp => ?_)
      · replace h := h.sel [] 2
        dsimp only [pickL, pickR, nthH, delH, dropH, List.cons_append, List.nil_append] at h
        exact hR false _ h hp
      refine mapper_Mapper_Start_ok h hp ?_
      rintro rs s_16 s_17 s_18 s_19 s_20 s_21 s_22 now_2 hasEpoch_2 m_1 p_1 n_1 c_1 w rfl h hp
      have cpp_1 := rowCap h 0 rfl
      refine ⟨_, _, _, rfl, ?_⟩
      replace h := h.pick [1, 1]
      dsimp only [pickL, pickR, nthH, delH, dropH, List.cons_append, List.nil_append] at h
      refine mapper_Mapper_Tick_ok h hp ?_
      rintro rs_1 s_23 s_24 s_25 s_26 s_27 s_28 s_29 now_3 hasEpoch_3 m_2 p_2 n_2 c_2 w rfl h hp
      have cpp_2 := rowCap h 0 rfl
      refine ⟨_, _, _, rfl, ?_⟩
      refine cond_both' hp (fun hp => ?_) (fun hp => ?_)
      · replace h := h.sel [] 4
        dsimp only [pickL, pickR, nthH, delH, dropH, List.cons_append, List.nil_append] at h
        exact hR false _ h hp
      refine cond_both' hp (fun hp => ?_) (fun hp => ?_)
      · replace h := h.sel [] 4
        dsimp only [pickL, pickR, nthH, delH, dropH, List.cons_append, List.nil_append] at h
        exact hR false _ h hp
      obtain ⟨ia_1, ja_1, hp⟩ := hp
      obtain ⟨a_1, ha_1⟩ := rdAddr (rowRd h 3 encL38 rfl) rfl ia_1 ja_1
      refine ⟨a_1, ha_1, ia_1, ja_1, ?_⟩
      obtain ⟨x_1, hx_1, hc⟩ := rdCell0 (rowRd h 3 encL38 rfl) ha_1 rfl ia_1 ja_1
      replace hp := hp x_1 hx_1
      refine ⟨_, _, _, hc _ rfl, ?_⟩
      refine cond_both' hp (fun hp => ?_) (fun hp => ?_)
      · replace h := h.sel [] 4
        dsimp only [pickL, pickR, nthH, delH, dropH, List.cons_append, List.nil_append] at h
        exact hR false _ h hp
      refine cond_both' hp (fun hp => ?_) (fun hp => ?_)
      · replace h := h.sel [] 4
        dsimp only [pickL, pickR, nthH, delH, dropH, List.cons_append, List.nil_append] at h
        exact hR false _ h hp
      replace h := h.pick [1, 1]
      dsimp only [pickL, pickR, nthH, delH, dropH, List.cons_append, List.nil_append] at h
      refine mapper_Mapper_Tick_ok h hp ?_
      rintro rs_2 s_30 s_31 s_32 s_33 s_34 s_35 s_36 now_4 hasEpoch_4 m_3 p_3 n_3 c_3 w rfl h hp
      have cpp_3 := rowCap h 0 rfl
      refine ⟨_, _, _, rfl, ?_⟩
      refine cond_both' hp (fun hp => ?_) (fun hp => ?_)
      · replace h := h.sel [] 5
        dsimp only [pickL, pickR, nthH, delH, dropH, List.cons_append, List.nil_append] at h
        exact hR false _ h hp
      replace h := h.pick [1]
      dsimp only [pickL, pickR, nthH, delH, dropH, List.cons_append, List.nil_append] at h
      refine mapper_Mapper_State_ok h hp ?_
      intro r_5 r_6 r_7 r_8 r_9 r_10 r_11 r_12 w h hp
      refine ⟨_, _, _, _, _, _, _, _, rfl, ?_⟩
      refine eqlAgg (xs := [(Value.int .i64 r_5), (Value.int .i64 r_6), (Value.int .i64 r_7), (Value.int .u32 r_8), (Value.int .i64 r_9), (Value.int .i64 r_10), (Value.int .i64 r_11), (Value.int .i64 r_12)]) (ys := [(Value.int .i64 1), (Value.int .i64 2), (Value.int .i64 80), (Value.int .u32 0), (Value.int .i64 0), (Value.int .i64 0), (Value.int .i64 2), (Value.int .i64 3)]) eqG43 eqA43 (eqT43 r_5 r_6 r_7 r_8 r_9 r_10 r_11 r_12 1 2 80 0 0 0 2 3) ?_
      refine ⟨_, rfl, ?_⟩
      replace h := h.sel [] 5
      dsimp only [pickL, pickR, nthH, delH, dropH, List.cons_append, List.nil_append] at h
      exact hR (((r_5 : Int) == 1) && (((r_6 : Int) == 2) && (((r_7 : Int) == 80) && ((((r_8 : Int) == 0) && (((r_9 : Int) == 0) && true)) && (((r_10 : Int) == 0) && (((r_11 : Int) == 2) && (((r_12 : Int) == 3) && true))))))) _ h hp
    clear hq
    refine eqlPtrNil undP28 ?_
    refine ⟨_, rfl, ?_⟩
    refine cond_ff ?_
    exact ⟨rfl, rfl, hp, h⟩
  intro r_13 s_37 s_38 s_39 s_40 s_41 s_42 s_43 s_44 host_2 secs_2 nonce_2 wish_4 wish_5 outside_2 now_5 epoch_2 epochAt_2 hasEpoch_5 b_3 w h hp
  refine ⟨_, _, rfl, ?_⟩
  refine ⟨_, rfl, ?_⟩
  refine ⟨_, rfl, ?_⟩
  obtain ⟨Q_3, hq, hp⟩ := hp
  refine ⟨fun m1_3 f4_3 t20_3 w => (some (Addr.mk b_2 0 none)) = m1_3 ∧ r_13 = f4_3 ∧ Q_3 t20_3 ∧ Mem (cel b_3 47 [(Value.int .i64 s_37), (Value.int .i64 s_38), (Value.int .i64 s_39), (Value.int .u32 s_40), (Value.int .i64 s_41), (Value.int .i64 s_42), (Value.int .i64 s_43), (Value.int .i64 s_44), (Value.int .u32 host_2), (Value.int .i64 secs_2), (Value.int .u64 nonce_2), (Value.int .u32 wish_4), (Value.int .i64 wish_5), (Value.int .u32 outside_2), (Value.int .i64 now_5), (Value.int .i64 epoch_2), (Value.int .i64 epochAt_2), (Value.bool hasEpoch_5)] :: cel b_2 47 [(Value.int .i64 s_8), (Value.int .i64 s_9), (Value.int .i64 s_10), (Value.int .u32 s_11), (Value.int .i64 s_12), (Value.int .i64 s_13), (Value.int .i64 s_14), (Value.int .i64 s_15), (Value.int .u32 host_1), (Value.int .i64 secs_1), (Value.int .u64 nonce_1), (Value.int .u32 wish_2), (Value.int .i64 wish_3), (Value.int .u32 outside_1), (Value.int .i64 now_1), (Value.int .i64 epoch_1), (Value.int .i64 epochAt_1), (Value.bool hasEpoch_1)] :: poolP enc5 5 1 ([] : List ((Option Addr × Nat × Nat) × List (Int))) :: FL) w, ?_, ?_⟩
  · rintro m1_3 f4_3 t20_3 w ⟨rfl, rfl, hp, h⟩
    replace hp := hq t20_3 hp
    unfold embrasurelaw12_awake_j1
    refine cond_both hp (fun hp => ?_) (fun hp => ?_)
    · replace h := h.sel [] 3
      dsimp only [pickL, pickR, nthH, delH, dropH, List.cons_append, List.nil_append] at h
      exact hR false _ h hp
    replace h := h.pick [1, 1]
    dsimp only [pickL, pickR, nthH, delH, dropH, List.cons_append, List.nil_append] at h
    refine mapper_Mapper_Start_ok h hp ?_
    rintro rs_3 s_45 s_46 s_47 s_48 s_49 s_50 s_51 now_6 hasEpoch_6 m_4 p_4 n_4 c_4 w rfl h hp
    have cpp_4 := rowCap h 0 rfl
    refine ⟨_, _, _, rfl, ?_⟩
    replace h := h.pick [1, 1]
    dsimp only [pickL, pickR, nthH, delH, dropH, List.cons_append, List.nil_append] at h
    refine mapper_Mapper_Tick_ok h hp ?_
    rintro rs_4 s_52 s_53 s_54 s_55 s_56 s_57 s_58 now_7 hasEpoch_7 m_5 p_5 n_5 c_5 w rfl h hp
    have cpp_5 := rowCap h 0 rfl
    refine ⟨_, _, _, rfl, ?_⟩
    refine cond_both' hp (fun hp => ?_) (fun hp => ?_)
    · replace h := h.sel [] 5
      dsimp only [pickL, pickR, nthH, delH, dropH, List.cons_append, List.nil_append] at h
      exact hR false _ h hp
    refine cond_both' hp (fun hp => ?_) (fun hp => ?_)
    · replace h := h.sel [] 5
      dsimp only [pickL, pickR, nthH, delH, dropH, List.cons_append, List.nil_append] at h
      exact hR false _ h hp
    obtain ⟨ia_2, ja_2, hp⟩ := hp
    obtain ⟨a_2, ha_2⟩ := rdAddr (rowRd h 3 encL38 rfl) rfl ia_2 ja_2
    refine ⟨a_2, ha_2, ia_2, ja_2, ?_⟩
    obtain ⟨x_2, hx_2, hc⟩ := rdCell0 (rowRd h 3 encL38 rfl) ha_2 rfl ia_2 ja_2
    replace hp := hp x_2 hx_2
    refine ⟨_, _, _, hc _ rfl, ?_⟩
    refine cond_both' hp (fun hp => ?_) (fun hp => ?_)
    · replace h := h.sel [] 5
      dsimp only [pickL, pickR, nthH, delH, dropH, List.cons_append, List.nil_append] at h
      exact hR false _ h hp
    refine cond_both' hp (fun hp => ?_) (fun hp => ?_)
    · replace h := h.sel [] 5
      dsimp only [pickL, pickR, nthH, delH, dropH, List.cons_append, List.nil_append] at h
      exact hR false _ h hp
    replace h := h.pick [1, 1]
    dsimp only [pickL, pickR, nthH, delH, dropH, List.cons_append, List.nil_append] at h
    refine mapper_Mapper_Tick_ok h hp ?_
    rintro rs_5 s_59 s_60 s_61 s_62 s_63 s_64 s_65 now_8 hasEpoch_8 m_6 p_6 n_6 c_6 w rfl h hp
    have cpp_6 := rowCap h 0 rfl
    refine ⟨_, _, _, rfl, ?_⟩
    refine cond_both' hp (fun hp => ?_) (fun hp => ?_)
    · replace h := h.sel [] 6
      dsimp only [pickL, pickR, nthH, delH, dropH, List.cons_append, List.nil_append] at h
      exact hR false _ h hp
    replace h := h.pick [1]
    dsimp only [pickL, pickR, nthH, delH, dropH, List.cons_append, List.nil_append] at h
    refine mapper_Mapper_State_ok h hp ?_
    intro r_14 r_15 r_16 r_17 r_18 r_19 r_20 r_21 w h hp
    refine ⟨_, _, _, _, _, _, _, _, rfl, ?_⟩
    refine eqlAgg (xs := [(Value.int .i64 r_14), (Value.int .i64 r_15), (Value.int .i64 r_16), (Value.int .u32 r_17), (Value.int .i64 r_18), (Value.int .i64 r_19), (Value.int .i64 r_20), (Value.int .i64 r_21)]) (ys := [(Value.int .i64 1), (Value.int .i64 2), (Value.int .i64 80), (Value.int .u32 0), (Value.int .i64 0), (Value.int .i64 0), (Value.int .i64 2), (Value.int .i64 3)]) eqG43 eqA43 (eqT43 r_14 r_15 r_16 r_17 r_18 r_19 r_20 r_21 1 2 80 0 0 0 2 3) ?_
    refine ⟨_, rfl, ?_⟩
    replace h := h.sel [] 6
    dsimp only [pickL, pickR, nthH, delH, dropH, List.cons_append, List.nil_append] at h
    exact hR (((r_14 : Int) == 1) && (((r_15 : Int) == 2) && (((r_16 : Int) == 80) && ((((r_17 : Int) == 0) && (((r_18 : Int) == 0) && true)) && (((r_19 : Int) == 0) && (((r_20 : Int) == 2) && (((r_21 : Int) == 3) && true))))))) _ h hp
  clear hq
  refine eqlPtrNil undP28 ?_
  refine ⟨_, rfl, ?_⟩
  refine cond_ff ?_
  exact ⟨rfl, rfl, hp, h⟩

/-! embrasure/embrasureref12.May (6) -/
def embrasureref12_May_wp (host : Int) (inside : Int) (secs : Int) (K : Bool → Prop) : Prop :=
  cond ((host : Int) != 0) (cond (decide ((inside : Int) ≥ 1)) (cond (decide ((inside : Int) ≤ 65535)) (cond (decide ((secs : Int) ≥ 1)) (K (decide ((secs : Int) ≤ 4294967295))) (K false)) (K false)) (K false)) (K false)
theorem embrasureref12_May_ok {host : Int} {inside : Int} {secs : Int} {FL : List HP} {w : World} {K : Bool → Prop} {R : Value → World → Prop}
  (h : Mem (FL) w) (hp : embrasureref12_May_wp host inside secs K)
  (hR : ∀ (r : Bool) (w : World), Mem (FL) w → K r → R (Value.bool r) w) :
  CallV Try.prog 6 #[(Value.int .u32 host), (Value.int .i64 inside), (Value.int .i64 secs)] w R := by
  refine embrasureref12_May_call ?_
  unfold embrasureref12_May
  unfold embrasureref12_May_wp at hp
  refine cond_both' hp (fun hp => ?_) (fun hp => ?_)
  · exact hR false _ h hp
  refine cond_both' hp (fun hp => ?_) (fun hp => ?_)
  · exact hR false _ h hp
  refine cond_both' hp (fun hp => ?_) (fun hp => ?_)
  · exact hR false _ h hp
  refine cond_both hp (fun hp => ?_) (fun hp => ?_)
  · exact hR (decide ((secs : Int) ≤ 4294967295)) _ h hp
  exact hR false _ h hp

/-! embrasure/pcp.Answer (9) -/
def pcp_Answer_wp (l_Ver : Int) (l_Inside : Int) (l_Port : Int) (l_Secs : Int) (l_Nonce : Int) (l_Result : Int) (l_Epoch : Int) (l_Host : Int) (K : List (Int) → Prop) : Prop :=
  pcp_fits_wp l_Ver l_Inside l_Port l_Secs l_Nonce l_Result l_Epoch l_Host (fun (r : Bool) => cond (!r) (K ([] : List (Int))) (((pcp_big_wp (IntKind.wrap .u64 l_Secs) 4 (fun (rs : List (Int)) => (pcp_big_wp (IntKind.wrap .u64 l_Epoch) 4 (fun (rs_1 : List (Int)) => 0 ≤ (12 : Int) ∧ 12 ≤ (12 : Int) ∧ (12 : Int) ≤ 140737488355328 ∧ ((1 : Nat) : Int) * 12 ≤ 140737488355328 ∧ (pcp_row_wp l_Ver l_Inside l_Port l_Secs l_Nonce l_Result l_Epoch l_Host [[2, 129, 0, (IntKind.wrap .u8 l_Result)], rs, rs_1, (List.replicate (Int.toNat 12) 0)] (fun (rs_2 : List (Int)) => K rs_2)))) ∧ (0 ≤ (12 : Int) ∧ 12 ≤ (12 : Int) ∧ (12 : Int) ≤ 140737488355328 ∧ ((1 : Nat) : Int) * 12 ≤ 140737488355328 ∧ (pcp_big_wp (IntKind.wrap .u64 l_Epoch) 4 (fun (rs_3 : List (Int)) => pcp_row_wp l_Ver l_Inside l_Port l_Secs l_Nonce l_Result l_Epoch l_Host [[2, 129, 0, (IntKind.wrap .u8 l_Result)], rs, rs_3, (List.replicate (Int.toNat 12) 0)] (fun (rs_4 : List (Int)) => K rs_4)))))) ∧ (0 ≤ (12 : Int) ∧ 12 ≤ (12 : Int) ∧ (12 : Int) ≤ 140737488355328 ∧ ((1 : Nat) : Int) * 12 ≤ 140737488355328 ∧ (pcp_big_wp (IntKind.wrap .u64 l_Secs) 4 (fun (rs_5 : List (Int)) => pcp_big_wp (IntKind.wrap .u64 l_Epoch) 4 (fun (rs_6 : List (Int)) => pcp_row_wp l_Ver l_Inside l_Port l_Secs l_Nonce l_Result l_Epoch l_Host [[2, 129, 0, (IntKind.wrap .u8 l_Result)], rs_5, rs_6, (List.replicate (Int.toNat 12) 0)] (fun (rs_7 : List (Int)) => K rs_7)))))) ∧ (pcp_big_wp (IntKind.wrap .u64 l_Secs) 4 (fun (rs_8 : List (Int)) => ((pcp_big_wp (IntKind.wrap .u64 l_Epoch) 4 (fun (rs_9 : List (Int)) => 0 ≤ (12 : Int) ∧ 12 ≤ (12 : Int) ∧ (12 : Int) ≤ 140737488355328 ∧ ((1 : Nat) : Int) * 12 ≤ 140737488355328 ∧ (pcp_row_wp l_Ver l_Inside l_Port l_Secs l_Nonce l_Result l_Epoch l_Host [[2, 129, 0, (IntKind.wrap .u8 l_Result)], rs_8, rs_9, (List.replicate (Int.toNat 12) 0)] (fun (rs_10 : List (Int)) => K rs_10)))) ∧ (0 ≤ (12 : Int) ∧ 12 ≤ (12 : Int) ∧ (12 : Int) ≤ 140737488355328 ∧ ((1 : Nat) : Int) * 12 ≤ 140737488355328 ∧ (pcp_big_wp (IntKind.wrap .u64 l_Epoch) 4 (fun (rs_11 : List (Int)) => pcp_row_wp l_Ver l_Inside l_Port l_Secs l_Nonce l_Result l_Epoch l_Host [[2, 129, 0, (IntKind.wrap .u8 l_Result)], rs_8, rs_11, (List.replicate (Int.toNat 12) 0)] (fun (rs_12 : List (Int)) => K rs_12))))) ∧ (pcp_big_wp (IntKind.wrap .u64 l_Epoch) 4 (fun (rs_13 : List (Int)) => (0 ≤ (12 : Int) ∧ 12 ≤ (12 : Int) ∧ (12 : Int) ≤ 140737488355328 ∧ ((1 : Nat) : Int) * 12 ≤ 140737488355328 ∧ (pcp_row_wp l_Ver l_Inside l_Port l_Secs l_Nonce l_Result l_Epoch l_Host [[2, 129, 0, (IntKind.wrap .u8 l_Result)], rs_8, rs_13, (List.replicate (Int.toNat 12) 0)] (fun (rs_14 : List (Int)) => K rs_14))) ∧ (0 ≤ (12 : Int) ∧ 12 ≤ (12 : Int) ∧ (12 : Int) ≤ 140737488355328 ∧ ((1 : Nat) : Int) * 12 ≤ 140737488355328 ∧ (pcp_row_wp l_Ver l_Inside l_Port l_Secs l_Nonce l_Result l_Epoch l_Host [[2, 129, 0, (IntKind.wrap .u8 l_Result)], rs_8, rs_13, (List.replicate (Int.toNat 12) 0)] (fun (rs_15 : List (Int)) => K rs_15))))) ∧ (0 ≤ (12 : Int) ∧ 12 ≤ (12 : Int) ∧ (12 : Int) ≤ 140737488355328 ∧ ((1 : Nat) : Int) * 12 ≤ 140737488355328 ∧ ((pcp_big_wp (IntKind.wrap .u64 l_Epoch) 4 (fun (rs_16 : List (Int)) => pcp_row_wp l_Ver l_Inside l_Port l_Secs l_Nonce l_Result l_Epoch l_Host [[2, 129, 0, (IntKind.wrap .u8 l_Result)], rs_8, rs_16, (List.replicate (Int.toNat 12) 0)] (fun (rs_17 : List (Int)) => K rs_17))) ∧ (pcp_big_wp (IntKind.wrap .u64 l_Epoch) 4 (fun (rs_18 : List (Int)) => pcp_row_wp l_Ver l_Inside l_Port l_Secs l_Nonce l_Result l_Epoch l_Host [[2, 129, 0, (IntKind.wrap .u8 l_Result)], rs_8, rs_18, (List.replicate (Int.toNat 12) 0)] (fun (rs_19 : List (Int)) => K rs_19))))))) ∧ (0 ≤ (12 : Int) ∧ 12 ≤ (12 : Int) ∧ (12 : Int) ≤ 140737488355328 ∧ ((1 : Nat) : Int) * 12 ≤ 140737488355328 ∧ ((pcp_big_wp (IntKind.wrap .u64 l_Secs) 4 (fun (rs_20 : List (Int)) => pcp_big_wp (IntKind.wrap .u64 l_Epoch) 4 (fun (rs_21 : List (Int)) => pcp_row_wp l_Ver l_Inside l_Port l_Secs l_Nonce l_Result l_Epoch l_Host [[2, 129, 0, (IntKind.wrap .u8 l_Result)], rs_20, rs_21, (List.replicate (Int.toNat 12) 0)] (fun (rs_22 : List (Int)) => K rs_22)))) ∧ (pcp_big_wp (IntKind.wrap .u64 l_Secs) 4 (fun (rs_23 : List (Int)) => (pcp_big_wp (IntKind.wrap .u64 l_Epoch) 4 (fun (rs_24 : List (Int)) => pcp_row_wp l_Ver l_Inside l_Port l_Secs l_Nonce l_Result l_Epoch l_Host [[2, 129, 0, (IntKind.wrap .u8 l_Result)], rs_23, rs_24, (List.replicate (Int.toNat 12) 0)] (fun (rs_25 : List (Int)) => K rs_25))) ∧ (pcp_big_wp (IntKind.wrap .u64 l_Epoch) 4 (fun (rs_26 : List (Int)) => pcp_row_wp l_Ver l_Inside l_Port l_Secs l_Nonce l_Result l_Epoch l_Host [[2, 129, 0, (IntKind.wrap .u8 l_Result)], rs_23, rs_26, (List.replicate (Int.toNat 12) 0)] (fun (rs_27 : List (Int)) => K rs_27)))))))))
theorem pcp_Answer_ok {l_Ver : Int} {l_Inside : Int} {l_Port : Int} {l_Secs : Int} {l_Nonce : Int} {l_Result : Int} {l_Epoch : Int} {l_Host : Int} {FL : List HP} {w : World} {K : List (Int) → Prop} {R : Value → World → Prop}
  (h : Mem (FL) w) (hp : pcp_Answer_wp l_Ver l_Inside l_Port l_Secs l_Nonce l_Result l_Epoch l_Host K)
  (hR : ∀ (rs : List (Int)) (p_1 : Option Addr) (n_1 : Nat) (c_1 : Nat) (w : World), n_1 = rs.length → Mem (row enc5 5 1 p_1 c_1 rs :: FL) w → K rs → R (Value.slice p_1 n_1 c_1) w) :
  CallV Try.prog 9 #[(Value.agg #[(Value.int .i64 l_Ver), (Value.int .i64 l_Inside), (Value.int .i64 l_Port), (Value.int .i64 l_Secs), (Value.int .u64 l_Nonce), (Value.int .i64 l_Result), (Value.int .i64 l_Epoch), (Value.int .u32 l_Host)])] w R := by
  refine pcp_Answer_call ?_
  unfold pcp_Answer
  unfold pcp_Answer_wp at hp
  refine newL (o := [(Value.int .i64 l_Ver), (Value.int .i64 l_Inside), (Value.int .i64 l_Port), (Value.int .i64 l_Secs), (Value.int .u64 l_Nonce), (Value.int .i64 l_Result), (Value.int .i64 l_Epoch), (Value.int .u32 l_Host)]) h ?_
  intro b_1 w h
  refine ⟨_, cellL h 0 0 rfl rfl rfl, _, cellL h 0 1 rfl rfl rfl, _, cellL h 0 2 rfl rfl rfl, _, cellL h 0 3 rfl rfl rfl, _, cellL h 0 4 rfl rfl rfl, _, cellL h 0 5 rfl rfl rfl, _, cellL h 0 6 rfl rfl rfl, _, cellL h 0 7 rfl rfl rfl, ?_⟩
  refine pcp_fits_ok h hp ?_
  intro r w h hp
  refine ⟨_, rfl, ?_⟩
  refine cond_both hp (fun hp => ?_) (fun hp => ?_)
  · replace h := rowNil enc5 5 1 h
    replace h := h.sel [0] 1
    dsimp only [pickL, pickR, nthH, delH, dropH, List.cons_append, List.nil_append] at h
    exact hR ([] : List (Int)) (none ) 0 0 _ rfl h hp
  replace h := h.drew
  refine ⟨fun w => Mem (cel b_1 36 [(Value.int .i64 l_Ver), (Value.int .i64 l_Inside), (Value.int .i64 l_Port), (Value.int .i64 l_Secs), (Value.int .u64 l_Nonce), (Value.int .i64 l_Result), (Value.int .i64 l_Epoch), (Value.int .u32 l_Host)] :: FL) w, (h.sel [0] 0), ?_⟩
  refine ⟨_, cellL h 0 0 rfl rfl rfl, _, cellL h 0 1 rfl rfl rfl, _, cellL h 0 2 rfl rfl rfl, _, cellL h 0 3 rfl rfl rfl, _, cellL h 0 4 rfl rfl rfl, _, cellL h 0 5 rfl rfl rfl, _, cellL h 0 6 rfl rfl rfl, _, cellL h 0 7 rfl rfl rfl, ?_⟩
  refine ⟨?_, ?_⟩
  · intro w h
    change Mem _ _ at h
    refine ⟨_, cellL h 0 0 rfl rfl rfl, _, cellL h 0 1 rfl rfl rfl, _, cellL h 0 2 rfl rfl rfl, _, cellL h 0 3 rfl rfl rfl, _, cellL h 0 4 rfl rfl rfl, _, cellL h 0 5 rfl rfl rfl, _, cellL h 0 6 rfl rfl rfl, _, cellL h 0 7 rfl rfl rfl, ?_⟩
    exact ⟨rfl, rfl⟩
  refine ⟨_, cellL h 0 5 rfl rfl rfl, ?_⟩
  refine ⟨?_, ?_⟩
  · intro w h
    change Mem _ _ at h
    refine ⟨_, cellL h 0 5 rfl rfl rfl, ?_⟩
    exact ⟨rfl, rfl⟩
  refine ⟨_, cellL h 0 3 rfl rfl rfl, ?_⟩
  refine ⟨?_, ?_⟩
  · intro w h
    change Mem _ _ at h
    refine ⟨_, cellL h 0 3 rfl rfl rfl, ?_⟩
    exact ⟨rfl, rfl⟩
  refine ⟨_, cellL h 0 6 rfl rfl rfl, ?_⟩
  refine ⟨?_, ?_⟩
  · intro w h
    change Mem _ _ at h
    refine ⟨_, cellL h 0 6 rfl rfl rfl, ?_⟩
    exact ⟨rfl, rfl⟩
  refine ⟨?_, ?_⟩
  · replace hp := hp.1
    refine newL (o := [(Value.int .u8 2), (Value.int .u8 129), (Value.int .u8 0), (Value.int .u8 (IntKind.wrap .u8 l_Result))]) h ?_
    intro b_2 w h
    refine ⟨(h.sel [1] 1), ?_⟩
    refine ⟨?_, ?_⟩
    · replace hp := hp.1
      refine pcp_big_ok h hp ?_
      rintro rs p_2 n_1 c_1 w rfl h hp
      have cpp_2 := rowCap h 0 rfl
      refine ⟨_, _, _, rfl, ?_⟩
      refine ⟨(h.sel [2] 2), ?_⟩
      refine ⟨?_, ?_⟩
      · replace hp := hp.1
        refine pcp_big_ok h hp ?_
        rintro rs_1 p_3 n_2 c_2 w rfl h hp
        have cpp_3 := rowCap h 0 rfl
        refine ⟨_, _, _, rfl, ?_⟩
        refine ⟨(h.sel [3] 3), ?_⟩
        obtain ⟨g_1a, g_1b, g_1d, g_1e, hp⟩ := hp
        refine ⟨g_1a, g_1b, g_1d, g_1e, ?_⟩
        have g_1c : 0 ≤ (12 : Int) := Int.le_trans g_1a g_1b
        refine makeL (x0 := 0) (T := 5) h encL5 rfl (natLe2 g_1a g_1c g_1b) ?_
        intro b_3 w h
        refine ⟨(h.sel [4] 4), ?_⟩
        refine newL (o := [(Value.slice (some ⟨b_2, 0, none⟩) 4 4), (Value.slice p_2 rs.length c_1), (Value.slice p_3 rs_1.length c_2), (Value.slice (some ⟨b_3, 0, none⟩) (Int.toNat 12) (Int.toNat 12))]) h ?_
        intro b_4 w h
        refine ⟨(h.sel [5] 5), ?_⟩
        refine pcp_row_ok (FL := cel b_4 38 [(Value.slice (some ⟨b_2, 0, none⟩) 4 4), (Value.slice p_2 rs.length c_1), (Value.slice p_3 rs_1.length c_2), (Value.slice (some ⟨b_3, 0, none⟩) (Int.toNat 12) (Int.toNat 12))] :: row enc5 5 1 (some ⟨b_3, 0, none⟩) (Int.toNat 12) (List.replicate (Int.toNat 12) 0) :: row enc5 5 1 p_3 c_2 rs_1 :: row enc5 5 1 p_2 c_1 rs :: cel b_2 5 [(Value.int .u8 2), (Value.int .u8 129), (Value.int .u8 0), (Value.int .u8 (IntKind.wrap .u8 l_Result))] :: cel b_1 36 [(Value.int .i64 l_Ver), (Value.int .i64 l_Inside), (Value.int .i64 l_Port), (Value.int .i64 l_Secs), (Value.int .u64 l_Nonce), (Value.int .i64 l_Result), (Value.int .i64 l_Epoch), (Value.int .u32 l_Host)] :: FL) (fun w h => celRdD (z := 1) h 0 rfl [[2, 129, 0, (IntKind.wrap .u8 l_Result)], rs, rs_1, (List.replicate (Int.toNat 12) 0)] [[(Value.slice (some ⟨b_2, 0, none⟩) 4 4)], [(Value.slice p_2 rs.length c_1)], [(Value.slice p_3 rs_1.length c_2)], [(Value.slice (some ⟨b_3, 0, none⟩) (Int.toNat 12) (Int.toNat 12))]] rfl rfl (Fa2.cons ⟨_, _, _, rfl, rfl, (Nat.le_refl _), (fun w h => (celRd h 4 encL5 rfl [2, 129, 0, (IntKind.wrap .u8 l_Result)] rfl))⟩ (Fa2.cons ⟨_, _, _, rfl, rfl, cpp_2, (fun w h => (rowRd h 3 encL5 rfl))⟩ (Fa2.cons ⟨_, _, _, rfl, rfl, cpp_3, (fun w h => (rowRd h 2 encL5 rfl))⟩ (Fa2.cons ⟨_, _, _, rfl, (List.length_replicate).symm, (natLe2 g_1a g_1c g_1b), (fun w h => (rowRd h 1 encL5 rfl))⟩ Fa2.nil))))) rfl (Nat.le_refl _) h hp ?_
        rintro rs_2 p_4 n_3 c_3 w rfl h hp
        have cpp_4 := rowCap h 0 rfl
        refine ⟨_, _, _, rfl, ?_⟩
        replace h := h.sel [0] 6
        dsimp only [pickL, pickR, nthH, delH, dropH, List.cons_append, List.nil_append] at h
        exact hR rs_2 p_4 rs_2.length c_3 _ rfl h hp
      replace hp := hp.2
      obtain ⟨g_2a, g_2b, g_2d, g_2e, hp⟩ := hp
      refine ⟨g_2a, g_2b, g_2d, g_2e, ?_⟩
      have g_2c : 0 ≤ (12 : Int) := Int.le_trans g_2a g_2b
      refine makeL (x0 := 0) (T := 5) h encL5 rfl (natLe2 g_2a g_2c g_2b) ?_
      intro b_5 w h
      refine ⟨(h.sel [3] 3), ?_⟩
      refine pcp_big_ok h hp ?_
      rintro rs_3 p_5 n_4 c_4 w rfl h hp
      have cpp_5 := rowCap h 0 rfl
      refine ⟨_, _, _, rfl, ?_⟩
      refine ⟨(h.sel [4] 4), ?_⟩
      refine newL (o := [(Value.slice (some ⟨b_2, 0, none⟩) 4 4), (Value.slice p_2 rs.length c_1), (Value.slice p_5 rs_3.length c_4), (Value.slice (some ⟨b_5, 0, none⟩) (Int.toNat 12) (Int.toNat 12))]) h ?_
      intro b_6 w h
      refine ⟨(h.sel [5] 5), ?_⟩
      refine pcp_row_ok (FL := cel b_6 38 [(Value.slice (some ⟨b_2, 0, none⟩) 4 4), (Value.slice p_2 rs.length c_1), (Value.slice p_5 rs_3.length c_4), (Value.slice (some ⟨b_5, 0, none⟩) (Int.toNat 12) (Int.toNat 12))] :: row enc5 5 1 p_5 c_4 rs_3 :: row enc5 5 1 (some ⟨b_5, 0, none⟩) (Int.toNat 12) (List.replicate (Int.toNat 12) 0) :: row enc5 5 1 p_2 c_1 rs :: cel b_2 5 [(Value.int .u8 2), (Value.int .u8 129), (Value.int .u8 0), (Value.int .u8 (IntKind.wrap .u8 l_Result))] :: cel b_1 36 [(Value.int .i64 l_Ver), (Value.int .i64 l_Inside), (Value.int .i64 l_Port), (Value.int .i64 l_Secs), (Value.int .u64 l_Nonce), (Value.int .i64 l_Result), (Value.int .i64 l_Epoch), (Value.int .u32 l_Host)] :: FL) (fun w h => celRdD (z := 1) h 0 rfl [[2, 129, 0, (IntKind.wrap .u8 l_Result)], rs, rs_3, (List.replicate (Int.toNat 12) 0)] [[(Value.slice (some ⟨b_2, 0, none⟩) 4 4)], [(Value.slice p_2 rs.length c_1)], [(Value.slice p_5 rs_3.length c_4)], [(Value.slice (some ⟨b_5, 0, none⟩) (Int.toNat 12) (Int.toNat 12))]] rfl rfl (Fa2.cons ⟨_, _, _, rfl, rfl, (Nat.le_refl _), (fun w h => (celRd h 4 encL5 rfl [2, 129, 0, (IntKind.wrap .u8 l_Result)] rfl))⟩ (Fa2.cons ⟨_, _, _, rfl, rfl, cpp_2, (fun w h => (rowRd h 3 encL5 rfl))⟩ (Fa2.cons ⟨_, _, _, rfl, rfl, cpp_5, (fun w h => (rowRd h 1 encL5 rfl))⟩ (Fa2.cons ⟨_, _, _, rfl, (List.length_replicate).symm, (natLe2 g_2a g_2c g_2b), (fun w h => (rowRd h 2 encL5 rfl))⟩ Fa2.nil))))) rfl (Nat.le_refl _) h hp ?_
      rintro rs_4 p_6 n_5 c_5 w rfl h hp
      have cpp_6 := rowCap h 0 rfl
      refine ⟨_, _, _, rfl, ?_⟩
      replace h := h.sel [0] 6
      dsimp only [pickL, pickR, nthH, delH, dropH, List.cons_append, List.nil_append] at h
      exact hR rs_4 p_6 rs_4.length c_5 _ rfl h hp
    replace hp := hp.2
    obtain ⟨g_3a, g_3b, g_3d, g_3e, hp⟩ := hp
    refine ⟨g_3a, g_3b, g_3d, g_3e, ?_⟩
    have g_3c : 0 ≤ (12 : Int) := Int.le_trans g_3a g_3b
    refine makeL (x0 := 0) (T := 5) h encL5 rfl (natLe2 g_3a g_3c g_3b) ?_
    intro b_7 w h
    refine ⟨(h.sel [2] 2), ?_⟩
    refine pcp_big_ok h hp ?_
    rintro rs_5 p_7 n_6 c_6 w rfl h hp
    have cpp_7 := rowCap h 0 rfl
    refine ⟨_, _, _, rfl, ?_⟩
    refine ⟨(h.sel [3] 3), ?_⟩
    refine pcp_big_ok h hp ?_
    rintro rs_6 p_8 n_7 c_7 w rfl h hp
    have cpp_8 := rowCap h 0 rfl
    refine ⟨_, _, _, rfl, ?_⟩
    refine ⟨(h.sel [4] 4), ?_⟩
    refine newL (o := [(Value.slice (some ⟨b_2, 0, none⟩) 4 4), (Value.slice p_7 rs_5.length c_6), (Value.slice p_8 rs_6.length c_7), (Value.slice (some ⟨b_7, 0, none⟩) (Int.toNat 12) (Int.toNat 12))]) h ?_
    intro b_8 w h
    refine ⟨(h.sel [5] 5), ?_⟩
    refine pcp_row_ok (FL := cel b_8 38 [(Value.slice (some ⟨b_2, 0, none⟩) 4 4), (Value.slice p_7 rs_5.length c_6), (Value.slice p_8 rs_6.length c_7), (Value.slice (some ⟨b_7, 0, none⟩) (Int.toNat 12) (Int.toNat 12))] :: row enc5 5 1 p_8 c_7 rs_6 :: row enc5 5 1 p_7 c_6 rs_5 :: row enc5 5 1 (some ⟨b_7, 0, none⟩) (Int.toNat 12) (List.replicate (Int.toNat 12) 0) :: cel b_2 5 [(Value.int .u8 2), (Value.int .u8 129), (Value.int .u8 0), (Value.int .u8 (IntKind.wrap .u8 l_Result))] :: cel b_1 36 [(Value.int .i64 l_Ver), (Value.int .i64 l_Inside), (Value.int .i64 l_Port), (Value.int .i64 l_Secs), (Value.int .u64 l_Nonce), (Value.int .i64 l_Result), (Value.int .i64 l_Epoch), (Value.int .u32 l_Host)] :: FL) (fun w h => celRdD (z := 1) h 0 rfl [[2, 129, 0, (IntKind.wrap .u8 l_Result)], rs_5, rs_6, (List.replicate (Int.toNat 12) 0)] [[(Value.slice (some ⟨b_2, 0, none⟩) 4 4)], [(Value.slice p_7 rs_5.length c_6)], [(Value.slice p_8 rs_6.length c_7)], [(Value.slice (some ⟨b_7, 0, none⟩) (Int.toNat 12) (Int.toNat 12))]] rfl rfl (Fa2.cons ⟨_, _, _, rfl, rfl, (Nat.le_refl _), (fun w h => (celRd h 4 encL5 rfl [2, 129, 0, (IntKind.wrap .u8 l_Result)] rfl))⟩ (Fa2.cons ⟨_, _, _, rfl, rfl, cpp_7, (fun w h => (rowRd h 2 encL5 rfl))⟩ (Fa2.cons ⟨_, _, _, rfl, rfl, cpp_8, (fun w h => (rowRd h 1 encL5 rfl))⟩ (Fa2.cons ⟨_, _, _, rfl, (List.length_replicate).symm, (natLe2 g_3a g_3c g_3b), (fun w h => (rowRd h 3 encL5 rfl))⟩ Fa2.nil))))) rfl (Nat.le_refl _) h hp ?_
    rintro rs_7 p_9 n_8 c_8 w rfl h hp
    have cpp_9 := rowCap h 0 rfl
    refine ⟨_, _, _, rfl, ?_⟩
    replace h := h.sel [0] 6
    dsimp only [pickL, pickR, nthH, delH, dropH, List.cons_append, List.nil_append] at h
    exact hR rs_7 p_9 rs_7.length c_8 _ rfl h hp
  refine ⟨?_, ?_⟩
  · replace hp := hp.2.1
    refine pcp_big_ok h hp ?_
    rintro rs_8 p_10 n_9 c_9 w rfl h hp
    have cpp_10 := rowCap h 0 rfl
    refine ⟨_, _, _, rfl, ?_⟩
    refine ⟨(h.sel [1] 1), ?_⟩
    refine ⟨?_, ?_⟩
    · replace hp := hp.1
      refine newL (o := [(Value.int .u8 2), (Value.int .u8 129), (Value.int .u8 0), (Value.int .u8 (IntKind.wrap .u8 l_Result))]) h ?_
      intro b_9 w h
      refine ⟨(h.sel [2] 2), ?_⟩
      refine ⟨?_, ?_⟩
      · replace hp := hp.1
        refine pcp_big_ok h hp ?_
        rintro rs_9 p_11 n_10 c_10 w rfl h hp
        have cpp_11 := rowCap h 0 rfl
        refine ⟨_, _, _, rfl, ?_⟩
        refine ⟨(h.sel [3] 3), ?_⟩
        obtain ⟨g_4a, g_4b, g_4d, g_4e, hp⟩ := hp
        refine ⟨g_4a, g_4b, g_4d, g_4e, ?_⟩
        have g_4c : 0 ≤ (12 : Int) := Int.le_trans g_4a g_4b
        refine makeL (x0 := 0) (T := 5) h encL5 rfl (natLe2 g_4a g_4c g_4b) ?_
        intro b_10 w h
        refine ⟨(h.sel [4] 4), ?_⟩
        refine newL (o := [(Value.slice (some ⟨b_9, 0, none⟩) 4 4), (Value.slice p_10 rs_8.length c_9), (Value.slice p_11 rs_9.length c_10), (Value.slice (some ⟨b_10, 0, none⟩) (Int.toNat 12) (Int.toNat 12))]) h ?_
        intro b_11 w h
        refine ⟨(h.sel [5] 5), ?_⟩
        refine pcp_row_ok (FL := cel b_11 38 [(Value.slice (some ⟨b_9, 0, none⟩) 4 4), (Value.slice p_10 rs_8.length c_9), (Value.slice p_11 rs_9.length c_10), (Value.slice (some ⟨b_10, 0, none⟩) (Int.toNat 12) (Int.toNat 12))] :: row enc5 5 1 (some ⟨b_10, 0, none⟩) (Int.toNat 12) (List.replicate (Int.toNat 12) 0) :: row enc5 5 1 p_11 c_10 rs_9 :: cel b_9 5 [(Value.int .u8 2), (Value.int .u8 129), (Value.int .u8 0), (Value.int .u8 (IntKind.wrap .u8 l_Result))] :: row enc5 5 1 p_10 c_9 rs_8 :: cel b_1 36 [(Value.int .i64 l_Ver), (Value.int .i64 l_Inside), (Value.int .i64 l_Port), (Value.int .i64 l_Secs), (Value.int .u64 l_Nonce), (Value.int .i64 l_Result), (Value.int .i64 l_Epoch), (Value.int .u32 l_Host)] :: FL) (fun w h => celRdD (z := 1) h 0 rfl [[2, 129, 0, (IntKind.wrap .u8 l_Result)], rs_8, rs_9, (List.replicate (Int.toNat 12) 0)] [[(Value.slice (some ⟨b_9, 0, none⟩) 4 4)], [(Value.slice p_10 rs_8.length c_9)], [(Value.slice p_11 rs_9.length c_10)], [(Value.slice (some ⟨b_10, 0, none⟩) (Int.toNat 12) (Int.toNat 12))]] rfl rfl (Fa2.cons ⟨_, _, _, rfl, rfl, (Nat.le_refl _), (fun w h => (celRd h 3 encL5 rfl [2, 129, 0, (IntKind.wrap .u8 l_Result)] rfl))⟩ (Fa2.cons ⟨_, _, _, rfl, rfl, cpp_10, (fun w h => (rowRd h 4 encL5 rfl))⟩ (Fa2.cons ⟨_, _, _, rfl, rfl, cpp_11, (fun w h => (rowRd h 2 encL5 rfl))⟩ (Fa2.cons ⟨_, _, _, rfl, (List.length_replicate).symm, (natLe2 g_4a g_4c g_4b), (fun w h => (rowRd h 1 encL5 rfl))⟩ Fa2.nil))))) rfl (Nat.le_refl _) h hp ?_
        rintro rs_10 p_12 n_11 c_11 w rfl h hp
        have cpp_12 := rowCap h 0 rfl
        refine ⟨_, _, _, rfl, ?_⟩
        replace h := h.sel [0] 6
        dsimp only [pickL, pickR, nthH, delH, dropH, List.cons_append, List.nil_append] at h
        exact hR rs_10 p_12 rs_10.length c_11 _ rfl h hp
      replace hp := hp.2
      obtain ⟨g_5a, g_5b, g_5d, g_5e, hp⟩ := hp
      refine ⟨g_5a, g_5b, g_5d, g_5e, ?_⟩
      have g_5c : 0 ≤ (12 : Int) := Int.le_trans g_5a g_5b
      refine makeL (x0 := 0) (T := 5) h encL5 rfl (natLe2 g_5a g_5c g_5b) ?_
      intro b_12 w h
      refine ⟨(h.sel [3] 3), ?_⟩
      refine pcp_big_ok h hp ?_
      rintro rs_11 p_13 n_12 c_12 w rfl h hp
      have cpp_13 := rowCap h 0 rfl
      refine ⟨_, _, _, rfl, ?_⟩
      refine ⟨(h.sel [4] 4), ?_⟩
      refine newL (o := [(Value.slice (some ⟨b_9, 0, none⟩) 4 4), (Value.slice p_10 rs_8.length c_9), (Value.slice p_13 rs_11.length c_12), (Value.slice (some ⟨b_12, 0, none⟩) (Int.toNat 12) (Int.toNat 12))]) h ?_
      intro b_13 w h
      refine ⟨(h.sel [5] 5), ?_⟩
      refine pcp_row_ok (FL := cel b_13 38 [(Value.slice (some ⟨b_9, 0, none⟩) 4 4), (Value.slice p_10 rs_8.length c_9), (Value.slice p_13 rs_11.length c_12), (Value.slice (some ⟨b_12, 0, none⟩) (Int.toNat 12) (Int.toNat 12))] :: row enc5 5 1 p_13 c_12 rs_11 :: row enc5 5 1 (some ⟨b_12, 0, none⟩) (Int.toNat 12) (List.replicate (Int.toNat 12) 0) :: cel b_9 5 [(Value.int .u8 2), (Value.int .u8 129), (Value.int .u8 0), (Value.int .u8 (IntKind.wrap .u8 l_Result))] :: row enc5 5 1 p_10 c_9 rs_8 :: cel b_1 36 [(Value.int .i64 l_Ver), (Value.int .i64 l_Inside), (Value.int .i64 l_Port), (Value.int .i64 l_Secs), (Value.int .u64 l_Nonce), (Value.int .i64 l_Result), (Value.int .i64 l_Epoch), (Value.int .u32 l_Host)] :: FL) (fun w h => celRdD (z := 1) h 0 rfl [[2, 129, 0, (IntKind.wrap .u8 l_Result)], rs_8, rs_11, (List.replicate (Int.toNat 12) 0)] [[(Value.slice (some ⟨b_9, 0, none⟩) 4 4)], [(Value.slice p_10 rs_8.length c_9)], [(Value.slice p_13 rs_11.length c_12)], [(Value.slice (some ⟨b_12, 0, none⟩) (Int.toNat 12) (Int.toNat 12))]] rfl rfl (Fa2.cons ⟨_, _, _, rfl, rfl, (Nat.le_refl _), (fun w h => (celRd h 3 encL5 rfl [2, 129, 0, (IntKind.wrap .u8 l_Result)] rfl))⟩ (Fa2.cons ⟨_, _, _, rfl, rfl, cpp_10, (fun w h => (rowRd h 4 encL5 rfl))⟩ (Fa2.cons ⟨_, _, _, rfl, rfl, cpp_13, (fun w h => (rowRd h 1 encL5 rfl))⟩ (Fa2.cons ⟨_, _, _, rfl, (List.length_replicate).symm, (natLe2 g_5a g_5c g_5b), (fun w h => (rowRd h 2 encL5 rfl))⟩ Fa2.nil))))) rfl (Nat.le_refl _) h hp ?_
      rintro rs_12 p_14 n_13 c_13 w rfl h hp
      have cpp_14 := rowCap h 0 rfl
      refine ⟨_, _, _, rfl, ?_⟩
      replace h := h.sel [0] 6
      dsimp only [pickL, pickR, nthH, delH, dropH, List.cons_append, List.nil_append] at h
      exact hR rs_12 p_14 rs_12.length c_13 _ rfl h hp
    refine ⟨?_, ?_⟩
    · replace hp := hp.2.1
      refine pcp_big_ok h hp ?_
      rintro rs_13 p_15 n_14 c_14 w rfl h hp
      have cpp_15 := rowCap h 0 rfl
      refine ⟨_, _, _, rfl, ?_⟩
      refine ⟨(h.sel [2] 2), ?_⟩
      refine ⟨?_, ?_⟩
      · replace hp := hp.1
        refine newL (o := [(Value.int .u8 2), (Value.int .u8 129), (Value.int .u8 0), (Value.int .u8 (IntKind.wrap .u8 l_Result))]) h ?_
        intro b_14 w h
        refine ⟨(h.sel [3] 3), ?_⟩
        obtain ⟨g_6a, g_6b, g_6d, g_6e, hp⟩ := hp
        refine ⟨g_6a, g_6b, g_6d, g_6e, ?_⟩
        have g_6c : 0 ≤ (12 : Int) := Int.le_trans g_6a g_6b
        refine makeL (x0 := 0) (T := 5) h encL5 rfl (natLe2 g_6a g_6c g_6b) ?_
        intro b_15 w h
        refine ⟨(h.sel [4] 4), ?_⟩
        refine newL (o := [(Value.slice (some ⟨b_14, 0, none⟩) 4 4), (Value.slice p_10 rs_8.length c_9), (Value.slice p_15 rs_13.length c_14), (Value.slice (some ⟨b_15, 0, none⟩) (Int.toNat 12) (Int.toNat 12))]) h ?_
        intro b_16 w h
        refine ⟨(h.sel [5] 5), ?_⟩
        refine pcp_row_ok (FL := cel b_16 38 [(Value.slice (some ⟨b_14, 0, none⟩) 4 4), (Value.slice p_10 rs_8.length c_9), (Value.slice p_15 rs_13.length c_14), (Value.slice (some ⟨b_15, 0, none⟩) (Int.toNat 12) (Int.toNat 12))] :: row enc5 5 1 (some ⟨b_15, 0, none⟩) (Int.toNat 12) (List.replicate (Int.toNat 12) 0) :: cel b_14 5 [(Value.int .u8 2), (Value.int .u8 129), (Value.int .u8 0), (Value.int .u8 (IntKind.wrap .u8 l_Result))] :: row enc5 5 1 p_15 c_14 rs_13 :: row enc5 5 1 p_10 c_9 rs_8 :: cel b_1 36 [(Value.int .i64 l_Ver), (Value.int .i64 l_Inside), (Value.int .i64 l_Port), (Value.int .i64 l_Secs), (Value.int .u64 l_Nonce), (Value.int .i64 l_Result), (Value.int .i64 l_Epoch), (Value.int .u32 l_Host)] :: FL) (fun w h => celRdD (z := 1) h 0 rfl [[2, 129, 0, (IntKind.wrap .u8 l_Result)], rs_8, rs_13, (List.replicate (Int.toNat 12) 0)] [[(Value.slice (some ⟨b_14, 0, none⟩) 4 4)], [(Value.slice p_10 rs_8.length c_9)], [(Value.slice p_15 rs_13.length c_14)], [(Value.slice (some ⟨b_15, 0, none⟩) (Int.toNat 12) (Int.toNat 12))]] rfl rfl (Fa2.cons ⟨_, _, _, rfl, rfl, (Nat.le_refl _), (fun w h => (celRd h 2 encL5 rfl [2, 129, 0, (IntKind.wrap .u8 l_Result)] rfl))⟩ (Fa2.cons ⟨_, _, _, rfl, rfl, cpp_10, (fun w h => (rowRd h 4 encL5 rfl))⟩ (Fa2.cons ⟨_, _, _, rfl, rfl, cpp_15, (fun w h => (rowRd h 3 encL5 rfl))⟩ (Fa2.cons ⟨_, _, _, rfl, (List.length_replicate).symm, (natLe2 g_6a g_6c g_6b), (fun w h => (rowRd h 1 encL5 rfl))⟩ Fa2.nil))))) rfl (Nat.le_refl _) h hp ?_
        rintro rs_14 p_16 n_15 c_15 w rfl h hp
        have cpp_16 := rowCap h 0 rfl
        refine ⟨_, _, _, rfl, ?_⟩
        replace h := h.sel [0] 6
        dsimp only [pickL, pickR, nthH, delH, dropH, List.cons_append, List.nil_append] at h
        exact hR rs_14 p_16 rs_14.length c_15 _ rfl h hp
      replace hp := hp.2
      obtain ⟨g_7a, g_7b, g_7d, g_7e, hp⟩ := hp
      refine ⟨g_7a, g_7b, g_7d, g_7e, ?_⟩
      have g_7c : 0 ≤ (12 : Int) := Int.le_trans g_7a g_7b
      refine makeL (x0 := 0) (T := 5) h encL5 rfl (natLe2 g_7a g_7c g_7b) ?_
      intro b_17 w h
      refine ⟨(h.sel [3] 3), ?_⟩
      refine newL (o := [(Value.int .u8 2), (Value.int .u8 129), (Value.int .u8 0), (Value.int .u8 (IntKind.wrap .u8 l_Result))]) h ?_
      intro b_18 w h
      refine ⟨(h.sel [4] 4), ?_⟩
      refine newL (o := [(Value.slice (some ⟨b_18, 0, none⟩) 4 4), (Value.slice p_10 rs_8.length c_9), (Value.slice p_15 rs_13.length c_14), (Value.slice (some ⟨b_17, 0, none⟩) (Int.toNat 12) (Int.toNat 12))]) h ?_
      intro b_19 w h
      refine ⟨(h.sel [5] 5), ?_⟩
      refine pcp_row_ok (FL := cel b_19 38 [(Value.slice (some ⟨b_18, 0, none⟩) 4 4), (Value.slice p_10 rs_8.length c_9), (Value.slice p_15 rs_13.length c_14), (Value.slice (some ⟨b_17, 0, none⟩) (Int.toNat 12) (Int.toNat 12))] :: cel b_18 5 [(Value.int .u8 2), (Value.int .u8 129), (Value.int .u8 0), (Value.int .u8 (IntKind.wrap .u8 l_Result))] :: row enc5 5 1 (some ⟨b_17, 0, none⟩) (Int.toNat 12) (List.replicate (Int.toNat 12) 0) :: row enc5 5 1 p_15 c_14 rs_13 :: row enc5 5 1 p_10 c_9 rs_8 :: cel b_1 36 [(Value.int .i64 l_Ver), (Value.int .i64 l_Inside), (Value.int .i64 l_Port), (Value.int .i64 l_Secs), (Value.int .u64 l_Nonce), (Value.int .i64 l_Result), (Value.int .i64 l_Epoch), (Value.int .u32 l_Host)] :: FL) (fun w h => celRdD (z := 1) h 0 rfl [[2, 129, 0, (IntKind.wrap .u8 l_Result)], rs_8, rs_13, (List.replicate (Int.toNat 12) 0)] [[(Value.slice (some ⟨b_18, 0, none⟩) 4 4)], [(Value.slice p_10 rs_8.length c_9)], [(Value.slice p_15 rs_13.length c_14)], [(Value.slice (some ⟨b_17, 0, none⟩) (Int.toNat 12) (Int.toNat 12))]] rfl rfl (Fa2.cons ⟨_, _, _, rfl, rfl, (Nat.le_refl _), (fun w h => (celRd h 1 encL5 rfl [2, 129, 0, (IntKind.wrap .u8 l_Result)] rfl))⟩ (Fa2.cons ⟨_, _, _, rfl, rfl, cpp_10, (fun w h => (rowRd h 4 encL5 rfl))⟩ (Fa2.cons ⟨_, _, _, rfl, rfl, cpp_15, (fun w h => (rowRd h 3 encL5 rfl))⟩ (Fa2.cons ⟨_, _, _, rfl, (List.length_replicate).symm, (natLe2 g_7a g_7c g_7b), (fun w h => (rowRd h 2 encL5 rfl))⟩ Fa2.nil))))) rfl (Nat.le_refl _) h hp ?_
      rintro rs_15 p_17 n_16 c_16 w rfl h hp
      have cpp_17 := rowCap h 0 rfl
      refine ⟨_, _, _, rfl, ?_⟩
      replace h := h.sel [0] 6
      dsimp only [pickL, pickR, nthH, delH, dropH, List.cons_append, List.nil_append] at h
      exact hR rs_15 p_17 rs_15.length c_16 _ rfl h hp
    replace hp := hp.2.2
    obtain ⟨g_8a, g_8b, g_8d, g_8e, hp⟩ := hp
    refine ⟨g_8a, g_8b, g_8d, g_8e, ?_⟩
    have g_8c : 0 ≤ (12 : Int) := Int.le_trans g_8a g_8b
    refine makeL (x0 := 0) (T := 5) h encL5 rfl (natLe2 g_8a g_8c g_8b) ?_
    intro b_20 w h
    refine ⟨(h.sel [2] 2), ?_⟩
    refine ⟨?_, ?_⟩
    · replace hp := hp.1
      refine newL (o := [(Value.int .u8 2), (Value.int .u8 129), (Value.int .u8 0), (Value.int .u8 (IntKind.wrap .u8 l_Result))]) h ?_
      intro b_21 w h
      refine ⟨(h.sel [3] 3), ?_⟩
      refine pcp_big_ok h hp ?_
      rintro rs_16 p_18 n_17 c_17 w rfl h hp
      have cpp_18 := rowCap h 0 rfl
      refine ⟨_, _, _, rfl, ?_⟩
      refine ⟨(h.sel [4] 4), ?_⟩
      refine newL (o := [(Value.slice (some ⟨b_21, 0, none⟩) 4 4), (Value.slice p_10 rs_8.length c_9), (Value.slice p_18 rs_16.length c_17), (Value.slice (some ⟨b_20, 0, none⟩) (Int.toNat 12) (Int.toNat 12))]) h ?_
      intro b_22 w h
      refine ⟨(h.sel [5] 5), ?_⟩
      refine pcp_row_ok (FL := cel b_22 38 [(Value.slice (some ⟨b_21, 0, none⟩) 4 4), (Value.slice p_10 rs_8.length c_9), (Value.slice p_18 rs_16.length c_17), (Value.slice (some ⟨b_20, 0, none⟩) (Int.toNat 12) (Int.toNat 12))] :: row enc5 5 1 p_18 c_17 rs_16 :: cel b_21 5 [(Value.int .u8 2), (Value.int .u8 129), (Value.int .u8 0), (Value.int .u8 (IntKind.wrap .u8 l_Result))] :: row enc5 5 1 (some ⟨b_20, 0, none⟩) (Int.toNat 12) (List.replicate (Int.toNat 12) 0) :: row enc5 5 1 p_10 c_9 rs_8 :: cel b_1 36 [(Value.int .i64 l_Ver), (Value.int .i64 l_Inside), (Value.int .i64 l_Port), (Value.int .i64 l_Secs), (Value.int .u64 l_Nonce), (Value.int .i64 l_Result), (Value.int .i64 l_Epoch), (Value.int .u32 l_Host)] :: FL) (fun w h => celRdD (z := 1) h 0 rfl [[2, 129, 0, (IntKind.wrap .u8 l_Result)], rs_8, rs_16, (List.replicate (Int.toNat 12) 0)] [[(Value.slice (some ⟨b_21, 0, none⟩) 4 4)], [(Value.slice p_10 rs_8.length c_9)], [(Value.slice p_18 rs_16.length c_17)], [(Value.slice (some ⟨b_20, 0, none⟩) (Int.toNat 12) (Int.toNat 12))]] rfl rfl (Fa2.cons ⟨_, _, _, rfl, rfl, (Nat.le_refl _), (fun w h => (celRd h 2 encL5 rfl [2, 129, 0, (IntKind.wrap .u8 l_Result)] rfl))⟩ (Fa2.cons ⟨_, _, _, rfl, rfl, cpp_10, (fun w h => (rowRd h 4 encL5 rfl))⟩ (Fa2.cons ⟨_, _, _, rfl, rfl, cpp_18, (fun w h => (rowRd h 1 encL5 rfl))⟩ (Fa2.cons ⟨_, _, _, rfl, (List.length_replicate).symm, (natLe2 g_8a g_8c g_8b), (fun w h => (rowRd h 3 encL5 rfl))⟩ Fa2.nil))))) rfl (Nat.le_refl _) h hp ?_
      rintro rs_17 p_19 n_18 c_18 w rfl h hp
      have cpp_19 := rowCap h 0 rfl
      refine ⟨_, _, _, rfl, ?_⟩
      replace h := h.sel [0] 6
      dsimp only [pickL, pickR, nthH, delH, dropH, List.cons_append, List.nil_append] at h
      exact hR rs_17 p_19 rs_17.length c_18 _ rfl h hp
    replace hp := hp.2
    refine pcp_big_ok h hp ?_
    rintro rs_18 p_20 n_19 c_19 w rfl h hp
    have cpp_20 := rowCap h 0 rfl
    refine ⟨_, _, _, rfl, ?_⟩
    refine ⟨(h.sel [3] 3), ?_⟩
    refine newL (o := [(Value.int .u8 2), (Value.int .u8 129), (Value.int .u8 0), (Value.int .u8 (IntKind.wrap .u8 l_Result))]) h ?_
    intro b_23 w h
    refine ⟨(h.sel [4] 4), ?_⟩
    refine newL (o := [(Value.slice (some ⟨b_23, 0, none⟩) 4 4), (Value.slice p_10 rs_8.length c_9), (Value.slice p_20 rs_18.length c_19), (Value.slice (some ⟨b_20, 0, none⟩) (Int.toNat 12) (Int.toNat 12))]) h ?_
    intro b_24 w h
    refine ⟨(h.sel [5] 5), ?_⟩
    refine pcp_row_ok (FL := cel b_24 38 [(Value.slice (some ⟨b_23, 0, none⟩) 4 4), (Value.slice p_10 rs_8.length c_9), (Value.slice p_20 rs_18.length c_19), (Value.slice (some ⟨b_20, 0, none⟩) (Int.toNat 12) (Int.toNat 12))] :: cel b_23 5 [(Value.int .u8 2), (Value.int .u8 129), (Value.int .u8 0), (Value.int .u8 (IntKind.wrap .u8 l_Result))] :: row enc5 5 1 p_20 c_19 rs_18 :: row enc5 5 1 (some ⟨b_20, 0, none⟩) (Int.toNat 12) (List.replicate (Int.toNat 12) 0) :: row enc5 5 1 p_10 c_9 rs_8 :: cel b_1 36 [(Value.int .i64 l_Ver), (Value.int .i64 l_Inside), (Value.int .i64 l_Port), (Value.int .i64 l_Secs), (Value.int .u64 l_Nonce), (Value.int .i64 l_Result), (Value.int .i64 l_Epoch), (Value.int .u32 l_Host)] :: FL) (fun w h => celRdD (z := 1) h 0 rfl [[2, 129, 0, (IntKind.wrap .u8 l_Result)], rs_8, rs_18, (List.replicate (Int.toNat 12) 0)] [[(Value.slice (some ⟨b_23, 0, none⟩) 4 4)], [(Value.slice p_10 rs_8.length c_9)], [(Value.slice p_20 rs_18.length c_19)], [(Value.slice (some ⟨b_20, 0, none⟩) (Int.toNat 12) (Int.toNat 12))]] rfl rfl (Fa2.cons ⟨_, _, _, rfl, rfl, (Nat.le_refl _), (fun w h => (celRd h 1 encL5 rfl [2, 129, 0, (IntKind.wrap .u8 l_Result)] rfl))⟩ (Fa2.cons ⟨_, _, _, rfl, rfl, cpp_10, (fun w h => (rowRd h 4 encL5 rfl))⟩ (Fa2.cons ⟨_, _, _, rfl, rfl, cpp_20, (fun w h => (rowRd h 2 encL5 rfl))⟩ (Fa2.cons ⟨_, _, _, rfl, (List.length_replicate).symm, (natLe2 g_8a g_8c g_8b), (fun w h => (rowRd h 3 encL5 rfl))⟩ Fa2.nil))))) rfl (Nat.le_refl _) h hp ?_
    rintro rs_19 p_21 n_20 c_20 w rfl h hp
    have cpp_21 := rowCap h 0 rfl
    refine ⟨_, _, _, rfl, ?_⟩
    replace h := h.sel [0] 6
    dsimp only [pickL, pickR, nthH, delH, dropH, List.cons_append, List.nil_append] at h
    exact hR rs_19 p_21 rs_19.length c_20 _ rfl h hp
  replace hp := hp.2.2
  obtain ⟨g_9a, g_9b, g_9d, g_9e, hp⟩ := hp
  refine ⟨g_9a, g_9b, g_9d, g_9e, ?_⟩
  have g_9c : 0 ≤ (12 : Int) := Int.le_trans g_9a g_9b
  refine makeL (x0 := 0) (T := 5) h encL5 rfl (natLe2 g_9a g_9c g_9b) ?_
  intro b_25 w h
  refine ⟨(h.sel [1] 1), ?_⟩
  refine ⟨?_, ?_⟩
  · replace hp := hp.1
    refine newL (o := [(Value.int .u8 2), (Value.int .u8 129), (Value.int .u8 0), (Value.int .u8 (IntKind.wrap .u8 l_Result))]) h ?_
    intro b_26 w h
    refine ⟨(h.sel [2] 2), ?_⟩
    refine pcp_big_ok h hp ?_
    rintro rs_20 p_22 n_21 c_21 w rfl h hp
    have cpp_22 := rowCap h 0 rfl
    refine ⟨_, _, _, rfl, ?_⟩
    refine ⟨(h.sel [3] 3), ?_⟩
    refine pcp_big_ok h hp ?_
    rintro rs_21 p_23 n_22 c_22 w rfl h hp
    have cpp_23 := rowCap h 0 rfl
    refine ⟨_, _, _, rfl, ?_⟩
    refine ⟨(h.sel [4] 4), ?_⟩
    refine newL (o := [(Value.slice (some ⟨b_26, 0, none⟩) 4 4), (Value.slice p_22 rs_20.length c_21), (Value.slice p_23 rs_21.length c_22), (Value.slice (some ⟨b_25, 0, none⟩) (Int.toNat 12) (Int.toNat 12))]) h ?_
    intro b_27 w h
    refine ⟨(h.sel [5] 5), ?_⟩
    refine pcp_row_ok (FL := cel b_27 38 [(Value.slice (some ⟨b_26, 0, none⟩) 4 4), (Value.slice p_22 rs_20.length c_21), (Value.slice p_23 rs_21.length c_22), (Value.slice (some ⟨b_25, 0, none⟩) (Int.toNat 12) (Int.toNat 12))] :: row enc5 5 1 p_23 c_22 rs_21 :: row enc5 5 1 p_22 c_21 rs_20 :: cel b_26 5 [(Value.int .u8 2), (Value.int .u8 129), (Value.int .u8 0), (Value.int .u8 (IntKind.wrap .u8 l_Result))] :: row enc5 5 1 (some ⟨b_25, 0, none⟩) (Int.toNat 12) (List.replicate (Int.toNat 12) 0) :: cel b_1 36 [(Value.int .i64 l_Ver), (Value.int .i64 l_Inside), (Value.int .i64 l_Port), (Value.int .i64 l_Secs), (Value.int .u64 l_Nonce), (Value.int .i64 l_Result), (Value.int .i64 l_Epoch), (Value.int .u32 l_Host)] :: FL) (fun w h => celRdD (z := 1) h 0 rfl [[2, 129, 0, (IntKind.wrap .u8 l_Result)], rs_20, rs_21, (List.replicate (Int.toNat 12) 0)] [[(Value.slice (some ⟨b_26, 0, none⟩) 4 4)], [(Value.slice p_22 rs_20.length c_21)], [(Value.slice p_23 rs_21.length c_22)], [(Value.slice (some ⟨b_25, 0, none⟩) (Int.toNat 12) (Int.toNat 12))]] rfl rfl (Fa2.cons ⟨_, _, _, rfl, rfl, (Nat.le_refl _), (fun w h => (celRd h 3 encL5 rfl [2, 129, 0, (IntKind.wrap .u8 l_Result)] rfl))⟩ (Fa2.cons ⟨_, _, _, rfl, rfl, cpp_22, (fun w h => (rowRd h 2 encL5 rfl))⟩ (Fa2.cons ⟨_, _, _, rfl, rfl, cpp_23, (fun w h => (rowRd h 1 encL5 rfl))⟩ (Fa2.cons ⟨_, _, _, rfl, (List.length_replicate).symm, (natLe2 g_9a g_9c g_9b), (fun w h => (rowRd h 4 encL5 rfl))⟩ Fa2.nil))))) rfl (Nat.le_refl _) h hp ?_
    rintro rs_22 p_24 n_23 c_23 w rfl h hp
    have cpp_24 := rowCap h 0 rfl
    refine ⟨_, _, _, rfl, ?_⟩
    replace h := h.sel [0] 6
    dsimp only [pickL, pickR, nthH, delH, dropH, List.cons_append, List.nil_append] at h
    exact hR rs_22 p_24 rs_22.length c_23 _ rfl h hp
  replace hp := hp.2
  refine pcp_big_ok h hp ?_
  rintro rs_23 p_25 n_24 c_24 w rfl h hp
  have cpp_25 := rowCap h 0 rfl
  refine ⟨_, _, _, rfl, ?_⟩
  refine ⟨(h.sel [2] 2), ?_⟩
  refine ⟨?_, ?_⟩
  · replace hp := hp.1
    refine newL (o := [(Value.int .u8 2), (Value.int .u8 129), (Value.int .u8 0), (Value.int .u8 (IntKind.wrap .u8 l_Result))]) h ?_
    intro b_28 w h
    refine ⟨(h.sel [3] 3), ?_⟩
    refine pcp_big_ok h hp ?_
    rintro rs_24 p_26 n_25 c_25 w rfl h hp
    have cpp_26 := rowCap h 0 rfl
    refine ⟨_, _, _, rfl, ?_⟩
    refine ⟨(h.sel [4] 4), ?_⟩
    refine newL (o := [(Value.slice (some ⟨b_28, 0, none⟩) 4 4), (Value.slice p_25 rs_23.length c_24), (Value.slice p_26 rs_24.length c_25), (Value.slice (some ⟨b_25, 0, none⟩) (Int.toNat 12) (Int.toNat 12))]) h ?_
    intro b_29 w h
    refine ⟨(h.sel [5] 5), ?_⟩
    refine pcp_row_ok (FL := cel b_29 38 [(Value.slice (some ⟨b_28, 0, none⟩) 4 4), (Value.slice p_25 rs_23.length c_24), (Value.slice p_26 rs_24.length c_25), (Value.slice (some ⟨b_25, 0, none⟩) (Int.toNat 12) (Int.toNat 12))] :: row enc5 5 1 p_26 c_25 rs_24 :: cel b_28 5 [(Value.int .u8 2), (Value.int .u8 129), (Value.int .u8 0), (Value.int .u8 (IntKind.wrap .u8 l_Result))] :: row enc5 5 1 p_25 c_24 rs_23 :: row enc5 5 1 (some ⟨b_25, 0, none⟩) (Int.toNat 12) (List.replicate (Int.toNat 12) 0) :: cel b_1 36 [(Value.int .i64 l_Ver), (Value.int .i64 l_Inside), (Value.int .i64 l_Port), (Value.int .i64 l_Secs), (Value.int .u64 l_Nonce), (Value.int .i64 l_Result), (Value.int .i64 l_Epoch), (Value.int .u32 l_Host)] :: FL) (fun w h => celRdD (z := 1) h 0 rfl [[2, 129, 0, (IntKind.wrap .u8 l_Result)], rs_23, rs_24, (List.replicate (Int.toNat 12) 0)] [[(Value.slice (some ⟨b_28, 0, none⟩) 4 4)], [(Value.slice p_25 rs_23.length c_24)], [(Value.slice p_26 rs_24.length c_25)], [(Value.slice (some ⟨b_25, 0, none⟩) (Int.toNat 12) (Int.toNat 12))]] rfl rfl (Fa2.cons ⟨_, _, _, rfl, rfl, (Nat.le_refl _), (fun w h => (celRd h 2 encL5 rfl [2, 129, 0, (IntKind.wrap .u8 l_Result)] rfl))⟩ (Fa2.cons ⟨_, _, _, rfl, rfl, cpp_25, (fun w h => (rowRd h 3 encL5 rfl))⟩ (Fa2.cons ⟨_, _, _, rfl, rfl, cpp_26, (fun w h => (rowRd h 1 encL5 rfl))⟩ (Fa2.cons ⟨_, _, _, rfl, (List.length_replicate).symm, (natLe2 g_9a g_9c g_9b), (fun w h => (rowRd h 4 encL5 rfl))⟩ Fa2.nil))))) rfl (Nat.le_refl _) h hp ?_
    rintro rs_25 p_27 n_26 c_26 w rfl h hp
    have cpp_27 := rowCap h 0 rfl
    refine ⟨_, _, _, rfl, ?_⟩
    replace h := h.sel [0] 6
    dsimp only [pickL, pickR, nthH, delH, dropH, List.cons_append, List.nil_append] at h
    exact hR rs_25 p_27 rs_25.length c_26 _ rfl h hp
  replace hp := hp.2
  refine pcp_big_ok h hp ?_
  rintro rs_26 p_28 n_27 c_27 w rfl h hp
  have cpp_28 := rowCap h 0 rfl
  refine ⟨_, _, _, rfl, ?_⟩
  refine ⟨(h.sel [3] 3), ?_⟩
  refine newL (o := [(Value.int .u8 2), (Value.int .u8 129), (Value.int .u8 0), (Value.int .u8 (IntKind.wrap .u8 l_Result))]) h ?_
  intro b_30 w h
  refine ⟨(h.sel [4] 4), ?_⟩
  refine newL (o := [(Value.slice (some ⟨b_30, 0, none⟩) 4 4), (Value.slice p_25 rs_23.length c_24), (Value.slice p_28 rs_26.length c_27), (Value.slice (some ⟨b_25, 0, none⟩) (Int.toNat 12) (Int.toNat 12))]) h ?_
  intro b_31 w h
  refine ⟨(h.sel [5] 5), ?_⟩
  refine pcp_row_ok (FL := cel b_31 38 [(Value.slice (some ⟨b_30, 0, none⟩) 4 4), (Value.slice p_25 rs_23.length c_24), (Value.slice p_28 rs_26.length c_27), (Value.slice (some ⟨b_25, 0, none⟩) (Int.toNat 12) (Int.toNat 12))] :: cel b_30 5 [(Value.int .u8 2), (Value.int .u8 129), (Value.int .u8 0), (Value.int .u8 (IntKind.wrap .u8 l_Result))] :: row enc5 5 1 p_28 c_27 rs_26 :: row enc5 5 1 p_25 c_24 rs_23 :: row enc5 5 1 (some ⟨b_25, 0, none⟩) (Int.toNat 12) (List.replicate (Int.toNat 12) 0) :: cel b_1 36 [(Value.int .i64 l_Ver), (Value.int .i64 l_Inside), (Value.int .i64 l_Port), (Value.int .i64 l_Secs), (Value.int .u64 l_Nonce), (Value.int .i64 l_Result), (Value.int .i64 l_Epoch), (Value.int .u32 l_Host)] :: FL) (fun w h => celRdD (z := 1) h 0 rfl [[2, 129, 0, (IntKind.wrap .u8 l_Result)], rs_23, rs_26, (List.replicate (Int.toNat 12) 0)] [[(Value.slice (some ⟨b_30, 0, none⟩) 4 4)], [(Value.slice p_25 rs_23.length c_24)], [(Value.slice p_28 rs_26.length c_27)], [(Value.slice (some ⟨b_25, 0, none⟩) (Int.toNat 12) (Int.toNat 12))]] rfl rfl (Fa2.cons ⟨_, _, _, rfl, rfl, (Nat.le_refl _), (fun w h => (celRd h 1 encL5 rfl [2, 129, 0, (IntKind.wrap .u8 l_Result)] rfl))⟩ (Fa2.cons ⟨_, _, _, rfl, rfl, cpp_25, (fun w h => (rowRd h 3 encL5 rfl))⟩ (Fa2.cons ⟨_, _, _, rfl, rfl, cpp_28, (fun w h => (rowRd h 2 encL5 rfl))⟩ (Fa2.cons ⟨_, _, _, rfl, (List.length_replicate).symm, (natLe2 g_9a g_9c g_9b), (fun w h => (rowRd h 4 encL5 rfl))⟩ Fa2.nil))))) rfl (Nat.le_refl _) h hp ?_
  rintro rs_27 p_29 n_28 c_28 w rfl h hp
  have cpp_29 := rowCap h 0 rfl
  refine ⟨_, _, _, rfl, ?_⟩
  replace h := h.sel [0] 6
  dsimp only [pickL, pickR, nthH, delH, dropH, List.cons_append, List.nil_append] at h
  exact hR rs_27 p_29 rs_27.length c_28 _ rfl h hp

/-! embrasure/pcp.Version (14) -/
def pcp_Version_wp (b_1 : List (Int)) (K : Int → Prop) : Prop :=
  cond ((((b_1.length : Nat) : Int) : Int) == 0) (K (-1)) (0 ≤ (0 : Int) ∧ (0 : Int) < ((b_1.length : Nat) : Int) ∧ (∀ (x_1 : Int), b_1[Int.toNat 0]? = some x_1 → (K (IntKind.wrap .i64 x_1))))
theorem pcp_Version_ok {p_1 : Option Addr} {n_1 : Nat} {c_1 : Nat} {b_1 : List (Int)} {FL : List HP} {w : World} {K : Int → Prop} {R : Value → World → Prop}
  (hF_b_1 : ∀ w, Mem FL w → Rd w 1 p_1 enc5 b_1) (hl_b_1 : n_1 = b_1.length) (hc_b_1 : n_1 ≤ c_1)
  (h : Mem (FL) w) (hp : pcp_Version_wp b_1 K)
  (hR : ∀ (r : Int) (w : World), Mem (FL) w → K r → R (Value.int .i64 r) w) :
  CallV Try.prog 14 #[(Value.slice p_1 n_1 c_1)] w R := by
  refine pcp_Version_call ?_
  unfold pcp_Version
  unfold pcp_Version_wp at hp
  subst hl_b_1
  refine cond_both hp (fun hp => ?_) (fun hp => ?_)
  · exact hR (-1) _ h hp
  obtain ⟨ia_1, ja_1, hp⟩ := hp
  obtain ⟨a_1, ha_1⟩ := rdAddr (hF_b_1 _ (h.drop 0)) rfl ia_1 ja_1
  refine ⟨a_1, ha_1, ia_1, ja_1, ?_⟩
  obtain ⟨x_1, hx_1, hc⟩ := rdCell0 (hF_b_1 _ (h.drop 0)) ha_1 rfl ia_1 ja_1
  replace hp := hp x_1 hx_1
  refine ⟨_, hc _ rfl, ?_⟩
  exact hR (IntKind.wrap .i64 x_1) _ h hp

end Go.Proofs.Ytighenkbdiahpaa
