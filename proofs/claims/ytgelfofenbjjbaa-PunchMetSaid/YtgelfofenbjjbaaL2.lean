/- Each function over plain data (printed by a program of this claim's author). -/
import Derived.Test.YtgelfofenbjjbaaL1
namespace Go.Proofs.Ytgelfofenbjjbaa
open Go Go.Eng Go.Proofs
set_option maxRecDepth 100000
set_option maxHeartbeats 2000000

/-! (*embrasure/punch.Puncher).Hear (11) -/
def punch_Puncher_Hear_wp (h_1 : Int) (h_2 : Bool) (h_3 : Int) (h_4 : Int) (h_5 : List (Int × Int)) (own : List (Int × Int)) (marks : List (Int × Int)) (mean : Int) (dev : Int) (any : Bool) (now : Int) (now_1 : Int) (m_Kind : Int) (m_Nums : List (Int)) (m_Addrs : List (Int × Int)) (m_Body : List (Int)) (m_1 : List ((Option Addr × Nat × Nat) × List (Int))) (m_2 : List ((Option Addr × Nat × Nat) × List (Int))) (m_3 : List ((Option Addr × Nat × Nat) × List (Int × Int))) (K : List (Int × (Option Addr × Nat × Nat) × Int × (Option Addr × Nat × Nat) × (Option Addr × Nat × Nat) × (Option Addr × Nat × Nat)) → Int → Int → Int → List (Int × Int) → Int → List (Int × Int) → Int → Int → Bool → List ((Option Addr × Nat × Nat) × List (Int)) → List ((Option Addr × Nat × Nat) × List (Int)) → List ((Option Addr × Nat × Nat) × List (Int × Int)) → Prop) : Prop :=
  cond ((m_Kind : Int) == 17) (joinP2 (fun (now_6 : Int) (t31_2 : Bool) => cond t31_2 (K ([] : List (Int × (Option Addr × Nat × Nat) × Int × (Option Addr × Nat × Nat) × (Option Addr × Nat × Nat) × (Option Addr × Nat × Nat))) h_1 h_3 h_4 h_5 now_6 marks mean dev any m_1 m_2 m_3) (punch_Puncher_heardPunch_wp h_1 h_2 h_3 h_4 h_5 own marks mean dev any now_6 m_Kind m_Nums m_Addrs m_Body m_1 m_2 m_3 (fun (rs_1 : List (Int × (Option Addr × Nat × Nat) × Int × (Option Addr × Nat × Nat) × (Option Addr × Nat × Nat) × (Option Addr × Nat × Nat))) (h_12 : Int) (h_13 : Int) (h_14 : Int) (h_15 : List (Int × Int)) (marks_2 : List (Int × Int)) (mean_2 : Int) (dev_2 : Int) (any_2 : Bool) (m_8 : List ((Option Addr × Nat × Nat) × List (Int))) (m_9 : List ((Option Addr × Nat × Nat) × List (Int))) (m_10 : List ((Option Addr × Nat × Nat) × List (Int × Int))) => K rs_1 h_12 h_13 h_14 h_15 now_6 marks_2 mean_2 dev_2 any_2 m_8 m_9 m_10))) (fun (Q_2 : Int → Bool → Prop) => wire_May_wp m_Kind m_Nums m_Addrs m_Body (fun (r_2 : Bool) => cond (!r_2) (Q_2 now true) (punch_Puncher_on_wp h_1 h_2 h_3 h_4 mean dev any now now_1 (fun (r_3 : Bool) (now_7 : Int) => Q_2 now_7 (!r_3)))))) (cond ((m_Kind : Int) == 18) (joinP2 (fun (now_4 : Int) (t31_1 : Bool) => cond t31_1 (K ([] : List (Int × (Option Addr × Nat × Nat) × Int × (Option Addr × Nat × Nat) × (Option Addr × Nat × Nat) × (Option Addr × Nat × Nat))) h_1 h_3 h_4 h_5 now_4 marks mean dev any m_1 m_2 m_3) (punch_Puncher_heardSync_wp h_1 h_2 h_3 h_4 h_5 mean dev any now_4 m_Kind m_Nums m_Addrs m_Body m_3 (fun (rs : List (Int × (Option Addr × Nat × Nat) × Int × (Option Addr × Nat × Nat) × (Option Addr × Nat × Nat) × (Option Addr × Nat × Nat))) (h_10 : Int) (h_11 : Int) (m_7 : List ((Option Addr × Nat × Nat) × List (Int × Int))) => K rs h_10 h_3 h_11 h_5 now_4 marks mean dev any m_1 m_2 m_7))) (fun (Q_1 : Int → Bool → Prop) => wire_May_wp m_Kind m_Nums m_Addrs m_Body (fun (r : Bool) => cond (!r) (Q_1 now true) (punch_Puncher_on_wp h_1 h_2 h_3 h_4 mean dev any now now_1 (fun (r_1 : Bool) (now_5 : Int) => Q_1 now_5 (!r_1)))))) (joinP2 (fun (now_3 : Int) (t31 : Bool) => cond t31 (K ([] : List (Int × (Option Addr × Nat × Nat) × Int × (Option Addr × Nat × Nat) × (Option Addr × Nat × Nat) × (Option Addr × Nat × Nat))) h_1 h_3 h_4 h_5 now_3 marks mean dev any m_1 m_2 m_3) (False)) (fun (Q : Int → Bool → Prop) => Q now true)))
theorem punch_Puncher_Hear_ok {b_1 : Nat} {p_1 : Option Addr} {c_1 : Nat} {p_2 : Option Addr} {c_2 : Nat} {b_2 : Nat} {p_3 : Option Addr} {c_3 : Nat} {p_4 : Option Addr} {n_1 : Nat} {c_4 : Nat} {p_5 : Option Addr} {n_2 : Nat} {c_5 : Nat} {p_6 : Option Addr} {n_3 : Nat} {c_6 : Nat} {h_1 : Int} {h_2 : Bool} {h_3 : Int} {h_4 : Int} {h_5 : List (Int × Int)} {own : List (Int × Int)} {marks : List (Int × Int)} {mean : Int} {dev : Int} {any : Bool} {now : Int} {now_1 : Int} {m_Kind : Int} {m_Nums : List (Int)} {m_Addrs : List (Int × Int)} {m_Body : List (Int)} {m_1 : List ((Option Addr × Nat × Nat) × List (Int))} {m_2 : List ((Option Addr × Nat × Nat) × List (Int))} {m_3 : List ((Option Addr × Nat × Nat) × List (Int × Int))} {FL : List HP} {w : World} {K : List (Int × (Option Addr × Nat × Nat) × Int × (Option Addr × Nat × Nat) × (Option Addr × Nat × Nat) × (Option Addr × Nat × Nat)) → Int → Int → Int → List (Int × Int) → Int → List (Int × Int) → Int → Int → Bool → List ((Option Addr × Nat × Nat) × List (Int)) → List ((Option Addr × Nat × Nat) × List (Int)) → List ((Option Addr × Nat × Nat) × List (Int × Int)) → Prop} {R : Value → World → Prop}
  (hF_m_Nums : ∀ w, Mem (poolP enc5 5 1 m_1 :: poolP enc52 52 1 m_2 :: poolP enc55 55 2 m_3 :: FL) w → Rd w 1 p_4 enc52 m_Nums) (hl_m_Nums : n_1 = m_Nums.length) (hc_m_Nums : n_1 ≤ c_4)
  (hF_m_Addrs : ∀ w, Mem (poolP enc5 5 1 m_1 :: poolP enc52 52 1 m_2 :: poolP enc55 55 2 m_3 :: FL) w → Rd w 2 p_5 enc55 m_Addrs) (hl_m_Addrs : n_2 = m_Addrs.length) (hc_m_Addrs : n_2 ≤ c_5)
  (hF_m_Body : ∀ w, Mem (poolP enc5 5 1 m_1 :: poolP enc52 52 1 m_2 :: poolP enc55 55 2 m_3 :: FL) w → Rd w 1 p_6 enc5 m_Body) (hl_m_Body : n_3 = m_Body.length) (hc_m_Body : n_3 ≤ c_6)
  (h : Mem (cel b_1 64 [(Value.int .i64 h_1), (Value.bool h_2), (Value.int .i64 h_3), (Value.int .i64 h_4), (Value.slice p_1 h_5.length c_1), (Value.slice p_2 own.length c_2), (Value.pointer (some (Addr.mk b_2 0 none))), (Value.int .i64 now)] :: row enc55 55 2 p_1 c_1 h_5 :: row enc55 55 2 p_2 c_2 own :: cel b_2 74 [(Value.slice p_3 marks.length c_3), (Value.int .i64 mean), (Value.int .i64 dev), (Value.bool any)] :: row enc86 86 2 p_3 c_3 marks :: poolP enc5 5 1 m_1 :: poolP enc52 52 1 m_2 :: poolP enc55 55 2 m_3 :: FL) w) (hp : punch_Puncher_Hear_wp h_1 h_2 h_3 h_4 h_5 own marks mean dev any now now_1 m_Kind m_Nums m_Addrs m_Body m_1 m_2 m_3 K)
  (hR : ∀ (rs : List (Int × (Option Addr × Nat × Nat) × Int × (Option Addr × Nat × Nat) × (Option Addr × Nat × Nat) × (Option Addr × Nat × Nat))) (h_6 : Int) (h_7 : Int) (h_8 : Int) (h_9 : List (Int × Int)) (now_2 : Int) (marks_1 : List (Int × Int)) (mean_1 : Int) (dev_1 : Int) (any_1 : Bool) (m_4 : List ((Option Addr × Nat × Nat) × List (Int))) (m_5 : List ((Option Addr × Nat × Nat) × List (Int))) (m_6 : List ((Option Addr × Nat × Nat) × List (Int × Int))) (p_9 : Option Addr) (n_6 : Nat) (c_9 : Nat) (p_7 : Option Addr) (n_4 : Nat) (c_7 : Nat) (p_8 : Option Addr) (n_5 : Nat) (c_8 : Nat) (w : World), n_6 = rs.length → n_4 = h_9.length → n_5 = marks_1.length → Mem (row enc39 39 6 p_9 c_9 rs :: cel b_1 64 [(Value.int .i64 h_6), (Value.bool h_2), (Value.int .i64 h_7), (Value.int .i64 h_8), (Value.slice p_7 n_4 c_7), (Value.slice p_2 own.length c_2), (Value.pointer (some (Addr.mk b_2 0 none))), (Value.int .i64 now_2)] :: row enc55 55 2 p_7 c_7 h_9 :: row enc55 55 2 p_2 c_2 own :: cel b_2 74 [(Value.slice p_8 n_5 c_8), (Value.int .i64 mean_1), (Value.int .i64 dev_1), (Value.bool any_1)] :: row enc86 86 2 p_8 c_8 marks_1 :: poolP enc5 5 1 m_4 :: poolP enc52 52 1 m_5 :: poolP enc55 55 2 m_6 :: FL) w → K rs h_6 h_7 h_8 h_9 now_2 marks_1 mean_1 dev_1 any_1 m_4 m_5 m_6 → R (Value.slice p_9 n_6 c_9) w) :
  CallV Try.prog 11 #[(Value.pointer (some (Addr.mk b_1 0 none))), (Value.int .i64 now_1), (Value.agg #[(Value.int .i64 m_Kind), (Value.slice p_4 n_1 c_4), (Value.slice p_5 n_2 c_5), (Value.slice p_6 n_3 c_6)])] w R := by
  refine punch_Puncher_Hear_call ?_
  unfold punch_Puncher_Hear
  unfold punch_Puncher_Hear_wp at hp
  subst hl_m_Nums
  subst hl_m_Addrs
  subst hl_m_Body
  have cpp_1 := rowCap h 1 rfl
  have cpp_2 := rowCap h 2 rfl
  have cpp_3 := rowCap h 4 rfl
  refine newL (o := [(Value.int .i64 m_Kind), (Value.slice p_4 m_Nums.length c_4), (Value.slice p_5 m_Addrs.length c_5), (Value.slice p_6 m_Body.length c_6)]) h ?_
  intro b_3 w h
  refine makeMapL (ek := va3) (ev := fun v : Value => v) h ?_
  intro b_4 p_9 w h
  refine ⟨_, rfl, ?_⟩
  refine mapPutG (ek := va3) (ev := fun v : Value => v) (k := 17) (v := (Value.func (Fn.func 26) #[] #[])) h 0 rfl mu69 kt3 ?_
  intro p_10 w h
  dsimp only [setH, setVs, setV] at h
  refine mapPutG (ek := va3) (ev := fun v : Value => v) (k := 18) (v := (Value.func (Fn.func 27) #[] #[])) h 0 rfl mu69 kt3 ?_
  intro p_11 w h
  dsimp only [setH, setVs, setV] at h
  refine ⟨_, cellL h 1 0 rfl rfl rfl, ?_⟩
  by_cases hkk0 : (m_Kind : Int) = 17
  · replace hp := condPos hkk0 hp
    refine lookF (ek := va3) (k := m_Kind) (v := (Value.func (Fn.func 26) #[] #[])) (ok := true) (mapAt h 0 rfl) mu69 kt3 (fun w => run_zeroValue zr67) (by rw [hkk0]; rfl) (by rw [hkk0]; rfl) ?_
    refine ⟨_, _, rfl, ?_⟩
    obtain ⟨Q_2, hq, hp⟩ := hp
    refine ⟨fun p0_2 m5_2 do8_2 t31_2 w => ∃ (now_6 : Int), (some (Addr.mk b_1 0 none)) = p0_2 ∧ (Addr.mk b_3 0 none) = m5_2 ∧ (Value.func (Fn.func 26) #[] #[]) = do8_2 ∧ Q_2 now_6 t31_2 ∧ Mem (cel b_3 37 [(Value.int .i64 m_Kind), (Value.slice p_4 m_Nums.length c_4), (Value.slice p_5 m_Addrs.length c_5), (Value.slice p_6 m_Body.length c_6)] :: cel b_1 64 [(Value.int .i64 h_1), (Value.bool h_2), (Value.int .i64 h_3), (Value.int .i64 h_4), (Value.slice p_1 h_5.length c_1), (Value.slice p_2 own.length c_2), (Value.pointer (some (Addr.mk b_2 0 none))), (Value.int .i64 now_6)] :: row enc55 55 2 p_1 c_1 h_5 :: row enc55 55 2 p_2 c_2 own :: cel b_2 74 [(Value.slice p_3 marks.length c_3), (Value.int .i64 mean), (Value.int .i64 dev), (Value.bool any)] :: row enc86 86 2 p_3 c_3 marks :: poolP enc5 5 1 m_1 :: poolP enc52 52 1 m_2 :: poolP enc55 55 2 m_3 :: FL) w, ?_, ?_⟩
    · rintro p0_2 m5_2 do8_2 t31_2 w ⟨now_6, rfl, rfl, rfl, hp, h⟩
      replace hp := hq now_6 t31_2 hp
      unfold punch_Puncher_Hear_j1
      refine cond_both hp (fun hp => ?_) (fun hp => ?_)
      · replace h := rowNil enc39 39 6 h
        replace h := h.sel [0, 1, 1, 1, 1, 1, 1, 1, 1] 1
        dsimp only [pickL, pickR, nthH, delH, dropH, List.cons_append, List.nil_append] at h
        exact hR ([] : List (Int × (Option Addr × Nat × Nat) × Int × (Option Addr × Nat × Nat) × (Option Addr × Nat × Nat) × (Option Addr × Nat × Nat))) h_1 h_3 h_4 h_5 now_6 marks mean dev any m_1 m_2 m_3 (none   ) 0 0 p_1 h_5.length c_1 p_3 marks.length c_3 _ rfl rfl rfl h hp
      refine ⟨_, cellL h 0 0 rfl rfl rfl, _, _, _, cellL h 0 1 rfl rfl rfl, _, _, _, cellL h 0 2 rfl rfl rfl, _, _, _, cellL h 0 3 rfl rfl rfl, ?_⟩
      replace h := h.pick [1, 1, 1, 1, 1, 1, 1, 1]
      dsimp only [pickL, pickR, nthH, delH, dropH, List.cons_append, List.nil_append] at h
      refine punch_Puncher_heardPunch_ok (FL := cel b_3 37 [(Value.int .i64 m_Kind), (Value.slice p_4 m_Nums.length c_4), (Value.slice p_5 m_Addrs.length c_5), (Value.slice p_6 m_Body.length c_6)] :: FL) (fun w h => (hF_m_Nums _ (Mem.pick (Mem.pick (Mem.pick (h.sel [0, 0, 0] 1) [1, 1]) [1, 1]) [1, 1]))) rfl hc_m_Nums (fun w h => (hF_m_Addrs _ (Mem.pick (Mem.pick (Mem.pick (h.sel [0, 0, 0] 1) [1, 1]) [1, 1]) [1, 1]))) rfl hc_m_Addrs (fun w h => (hF_m_Body _ (Mem.pick (Mem.pick (Mem.pick (h.sel [0, 0, 0] 1) [1, 1]) [1, 1]) [1, 1]))) rfl hc_m_Body h hp ?_
      rintro rs_1 h_12 h_13 h_14 h_15 marks_2 mean_2 dev_2 any_2 m_8 m_9 m_10 p_16 n_7 c_10 p_17 n_8 c_11 p_18 n_9 c_12 w rfl rfl rfl h hp
      have cpp_16 := rowCap h 0 rfl
      have cpp_17 := rowCap h 2 rfl
      have cpp_2 := rowCap h 3 rfl
      have cpp_18 := rowCap h 5 rfl
      refine ⟨_, _, _, rfl, ?_⟩
      replace h := h.sel [0, 0, 0, 0, 0, 0, 0, 0, 0] 1
      dsimp only [pickL, pickR, nthH, delH, dropH, List.cons_append, List.nil_append] at h
      exact hR rs_1 h_12 h_13 h_14 h_15 now_6 marks_2 mean_2 dev_2 any_2 m_8 m_9 m_10 p_16 rs_1.length c_10 p_17 h_15.length c_11 p_18 marks_2.length c_12 _ rfl rfl rfl h hp
    clear hq
    refine cond_ff ?_
    refine ⟨_, cellL h 1 0 rfl rfl rfl, _, _, _, cellL h 1 1 rfl rfl rfl, _, _, _, cellL h 1 2 rfl rfl rfl, _, _, _, cellL h 1 3 rfl rfl rfl, ?_⟩
    refine wire_May_ok (FL := mapQ b_4 va3 (fun v : Value => v) p_11 (mapPut (mapPut ([] : List (Int × Value)) 17 (Value.func (Fn.func 26) #[] #[])) 18 (Value.func (Fn.func 27) #[] #[])) :: cel b_3 37 [(Value.int .i64 m_Kind), (Value.slice p_4 m_Nums.length c_4), (Value.slice p_5 m_Addrs.length c_5), (Value.slice p_6 m_Body.length c_6)] :: cel b_1 64 [(Value.int .i64 h_1), (Value.bool h_2), (Value.int .i64 h_3), (Value.int .i64 h_4), (Value.slice p_1 h_5.length c_1), (Value.slice p_2 own.length c_2), (Value.pointer (some (Addr.mk b_2 0 none))), (Value.int .i64 now)] :: row enc55 55 2 p_1 c_1 h_5 :: row enc55 55 2 p_2 c_2 own :: cel b_2 74 [(Value.slice p_3 marks.length c_3), (Value.int .i64 mean), (Value.int .i64 dev), (Value.bool any)] :: row enc86 86 2 p_3 c_3 marks :: poolP enc5 5 1 m_1 :: poolP enc52 52 1 m_2 :: poolP enc55 55 2 m_3 :: FL) (fun w h => (hF_m_Nums _ (Mem.pick (Mem.pick (Mem.pick (h.sel [7, 7, 7] 7) [1, 1]) [1, 1]) [1, 1]))) rfl hc_m_Nums (fun w h => (hF_m_Addrs _ (Mem.pick (Mem.pick (Mem.pick (h.sel [7, 7, 7] 7) [1, 1]) [1, 1]) [1, 1]))) rfl hc_m_Addrs (fun w h => (hF_m_Body _ (Mem.pick (Mem.pick (Mem.pick (h.sel [7, 7, 7] 7) [1, 1]) [1, 1]) [1, 1]))) rfl hc_m_Body h hp ?_
    intro r_2 w h hp
    refine ⟨_, rfl, ?_⟩
    refine cond_both hp (fun hp => ?_) (fun hp => ?_)
    · replace h := h.sel [1, 1, 1, 1, 1, 1, 1, 1, 1] 1
      dsimp only [pickL, pickR, nthH, delH, dropH, List.cons_append, List.nil_append] at h
      exact ⟨now, rfl, rfl, rfl, hp, h⟩
    replace h := h.pick [2, 4]
    dsimp only [pickL, pickR, nthH, delH, dropH, List.cons_append, List.nil_append] at h
    refine punch_Puncher_on_ok h hp ?_
    intro r_3 now_7 w h hp
    refine ⟨_, rfl, ?_⟩
    replace h := h.sel [3, 0, 2, 2, 0, 1, 1, 1, 1] 1
    dsimp only [pickL, pickR, nthH, delH, dropH, List.cons_append, List.nil_append] at h
    exact ⟨now_7, rfl, rfl, rfl, hp, h⟩
  replace hp := condNeg hkk0 hp
  by_cases hkk1 : (m_Kind : Int) = 18
  · replace hp := condPos hkk1 hp
    refine lookF (ek := va3) (k := m_Kind) (v := (Value.func (Fn.func 27) #[] #[])) (ok := true) (mapAt h 0 rfl) mu69 kt3 (fun w => run_zeroValue zr67) (by rw [hkk1]; rfl) (by rw [hkk1]; rfl) ?_
    refine ⟨_, _, rfl, ?_⟩
    obtain ⟨Q_1, hq, hp⟩ := hp
    refine ⟨fun p0_1 m5_1 do8_1 t31_1 w => ∃ (now_4 : Int), (some (Addr.mk b_1 0 none)) = p0_1 ∧ (Addr.mk b_3 0 none) = m5_1 ∧ (Value.func (Fn.func 27) #[] #[]) = do8_1 ∧ Q_1 now_4 t31_1 ∧ Mem (cel b_3 37 [(Value.int .i64 m_Kind), (Value.slice p_4 m_Nums.length c_4), (Value.slice p_5 m_Addrs.length c_5), (Value.slice p_6 m_Body.length c_6)] :: cel b_1 64 [(Value.int .i64 h_1), (Value.bool h_2), (Value.int .i64 h_3), (Value.int .i64 h_4), (Value.slice p_1 h_5.length c_1), (Value.slice p_2 own.length c_2), (Value.pointer (some (Addr.mk b_2 0 none))), (Value.int .i64 now_4)] :: row enc55 55 2 p_1 c_1 h_5 :: row enc55 55 2 p_2 c_2 own :: cel b_2 74 [(Value.slice p_3 marks.length c_3), (Value.int .i64 mean), (Value.int .i64 dev), (Value.bool any)] :: row enc86 86 2 p_3 c_3 marks :: poolP enc5 5 1 m_1 :: poolP enc52 52 1 m_2 :: poolP enc55 55 2 m_3 :: FL) w, ?_, ?_⟩
    · rintro p0_1 m5_1 do8_1 t31_1 w ⟨now_4, rfl, rfl, rfl, hp, h⟩
      replace hp := hq now_4 t31_1 hp
      unfold punch_Puncher_Hear_j1
      refine cond_both hp (fun hp => ?_) (fun hp => ?_)
      · replace h := rowNil enc39 39 6 h
        replace h := h.sel [0, 1, 1, 1, 1, 1, 1, 1, 1] 1
        dsimp only [pickL, pickR, nthH, delH, dropH, List.cons_append, List.nil_append] at h
        exact hR ([] : List (Int × (Option Addr × Nat × Nat) × Int × (Option Addr × Nat × Nat) × (Option Addr × Nat × Nat) × (Option Addr × Nat × Nat))) h_1 h_3 h_4 h_5 now_4 marks mean dev any m_1 m_2 m_3 (none  ) 0 0 p_1 h_5.length c_1 p_3 marks.length c_3 _ rfl rfl rfl h hp
      refine ⟨_, cellL h 0 0 rfl rfl rfl, _, _, _, cellL h 0 1 rfl rfl rfl, _, _, _, cellL h 0 2 rfl rfl rfl, _, _, _, cellL h 0 3 rfl rfl rfl, ?_⟩
      replace h := h.pick [1, 1, 2, 5]
      dsimp only [pickL, pickR, nthH, delH, dropH, List.cons_append, List.nil_append] at h
      refine punch_Puncher_heardSync_ok (FL := cel b_3 37 [(Value.int .i64 m_Kind), (Value.slice p_4 m_Nums.length c_4), (Value.slice p_5 m_Addrs.length c_5), (Value.slice p_6 m_Body.length c_6)] :: row enc55 55 2 p_2 c_2 own :: row enc86 86 2 p_3 c_3 marks :: poolP enc5 5 1 m_1 :: poolP enc52 52 1 m_2 :: FL) (fun w h => (hF_m_Nums _ (Mem.pick (Mem.pick (Mem.pick (h.sel [4, 4, 0] 3) [1, 1]) [1, 1]) [1, 1]))) rfl hc_m_Nums (fun w h => (hF_m_Addrs _ (Mem.pick (Mem.pick (Mem.pick (h.sel [4, 4, 0] 3) [1, 1]) [1, 1]) [1, 1]))) rfl hc_m_Addrs (fun w h => (hF_m_Body _ (Mem.pick (Mem.pick (Mem.pick (h.sel [4, 4, 0] 3) [1, 1]) [1, 1]) [1, 1]))) rfl hc_m_Body h hp ?_
      rintro rs h_10 h_11 m_7 p_14 n_6 c_9 w rfl h hp
      have cpp_14 := rowCap h 0 rfl
      have cpp_1 := rowCap h 2 rfl
      refine ⟨_, _, _, rfl, ?_⟩
      replace h := h.sel [0, 0, 0, 3, 0, 2, 2, 2, 0] 1
      dsimp only [pickL, pickR, nthH, delH, dropH, List.cons_append, List.nil_append] at h
      exact hR rs h_10 h_3 h_11 h_5 now_4 marks mean dev any m_1 m_2 m_7 p_14 rs.length c_9 p_1 h_5.length c_1 p_3 marks.length c_3 _ rfl rfl rfl h hp
    clear hq
    refine cond_ff ?_
    refine ⟨_, cellL h 1 0 rfl rfl rfl, _, _, _, cellL h 1 1 rfl rfl rfl, _, _, _, cellL h 1 2 rfl rfl rfl, _, _, _, cellL h 1 3 rfl rfl rfl, ?_⟩
    refine wire_May_ok (FL := mapQ b_4 va3 (fun v : Value => v) p_11 (mapPut (mapPut ([] : List (Int × Value)) 17 (Value.func (Fn.func 26) #[] #[])) 18 (Value.func (Fn.func 27) #[] #[])) :: cel b_3 37 [(Value.int .i64 m_Kind), (Value.slice p_4 m_Nums.length c_4), (Value.slice p_5 m_Addrs.length c_5), (Value.slice p_6 m_Body.length c_6)] :: cel b_1 64 [(Value.int .i64 h_1), (Value.bool h_2), (Value.int .i64 h_3), (Value.int .i64 h_4), (Value.slice p_1 h_5.length c_1), (Value.slice p_2 own.length c_2), (Value.pointer (some (Addr.mk b_2 0 none))), (Value.int .i64 now)] :: row enc55 55 2 p_1 c_1 h_5 :: row enc55 55 2 p_2 c_2 own :: cel b_2 74 [(Value.slice p_3 marks.length c_3), (Value.int .i64 mean), (Value.int .i64 dev), (Value.bool any)] :: row enc86 86 2 p_3 c_3 marks :: poolP enc5 5 1 m_1 :: poolP enc52 52 1 m_2 :: poolP enc55 55 2 m_3 :: FL) (fun w h => (hF_m_Nums _ (Mem.pick (Mem.pick (Mem.pick (h.sel [7, 7, 7] 7) [1, 1]) [1, 1]) [1, 1]))) rfl hc_m_Nums (fun w h => (hF_m_Addrs _ (Mem.pick (Mem.pick (Mem.pick (h.sel [7, 7, 7] 7) [1, 1]) [1, 1]) [1, 1]))) rfl hc_m_Addrs (fun w h => (hF_m_Body _ (Mem.pick (Mem.pick (Mem.pick (h.sel [7, 7, 7] 7) [1, 1]) [1, 1]) [1, 1]))) rfl hc_m_Body h hp ?_
    intro r w h hp
    refine ⟨_, rfl, ?_⟩
    refine cond_both hp (fun hp => ?_) (fun hp => ?_)
    · replace h := h.sel [1, 1, 1, 1, 1, 1, 1, 1, 1] 1
      dsimp only [pickL, pickR, nthH, delH, dropH, List.cons_append, List.nil_append] at h
      exact ⟨now, rfl, rfl, rfl, hp, h⟩
    replace h := h.pick [2, 4]
    dsimp only [pickL, pickR, nthH, delH, dropH, List.cons_append, List.nil_append] at h
    refine punch_Puncher_on_ok h hp ?_
    intro r_1 now_5 w h hp
    refine ⟨_, rfl, ?_⟩
    replace h := h.sel [3, 0, 2, 2, 0, 1, 1, 1, 1] 1
    dsimp only [pickL, pickR, nthH, delH, dropH, List.cons_append, List.nil_append] at h
    exact ⟨now_5, rfl, rfl, rfl, hp, h⟩
  replace hp := condNeg hkk1 hp
  refine lookF (ek := va3) (k := m_Kind) (v := Value.nilFunc) (ok := false) (mapAt h 0 rfl) mu69 kt3 (fun w => run_zeroValue zr67) (by simp [mapGet, mapPut, mapI, List.findIdx?_cons, hkk0, hkk1]) (by simp [mapHas, mapPut, mapI, List.findIdx?_cons, hkk0, hkk1]) ?_
  refine ⟨_, _, rfl, ?_⟩
  obtain ⟨Q, hq, hp⟩ := hp
  refine ⟨fun p0 m5 do8 t31 w => ∃ (now_3 : Int), (some (Addr.mk b_1 0 none)) = p0 ∧ (Addr.mk b_3 0 none) = m5 ∧ Value.nilFunc = do8 ∧ Q now_3 t31 ∧ Mem (cel b_3 37 [(Value.int .i64 m_Kind), (Value.slice p_4 m_Nums.length c_4), (Value.slice p_5 m_Addrs.length c_5), (Value.slice p_6 m_Body.length c_6)] :: cel b_1 64 [(Value.int .i64 h_1), (Value.bool h_2), (Value.int .i64 h_3), (Value.int .i64 h_4), (Value.slice p_1 h_5.length c_1), (Value.slice p_2 own.length c_2), (Value.pointer (some (Addr.mk b_2 0 none))), (Value.int .i64 now_3)] :: row enc55 55 2 p_1 c_1 h_5 :: row enc55 55 2 p_2 c_2 own :: cel b_2 74 [(Value.slice p_3 marks.length c_3), (Value.int .i64 mean), (Value.int .i64 dev), (Value.bool any)] :: row enc86 86 2 p_3 c_3 marks :: poolP enc5 5 1 m_1 :: poolP enc52 52 1 m_2 :: poolP enc55 55 2 m_3 :: FL) w, ?_, ?_⟩
  · rintro p0 m5 do8 t31 w ⟨now_3, rfl, rfl, rfl, hp, h⟩
    replace hp := hq now_3 t31 hp
    unfold punch_Puncher_Hear_j1
    refine cond_both' hp (fun hp => ?_) (fun hp => ?_)
    · refine ⟨_, cellL h 0 0 rfl rfl rfl, _, _, _, cellL h 0 1 rfl rfl rfl, _, _, _, cellL h 0 2 rfl rfl rfl, _, _, _, cellL h 0 3 rfl rfl rfl, ?_⟩
      exact hp.elim
    replace h := rowNil enc39 39 6 h
    replace h := h.sel [0, 1, 1, 1, 1, 1, 1, 1, 1] 1
    dsimp only [pickL, pickR, nthH, delH, dropH, List.cons_append, List.nil_append] at h
    exact hR ([] : List (Int × (Option Addr × Nat × Nat) × Int × (Option Addr × Nat × Nat) × (Option Addr × Nat × Nat) × (Option Addr × Nat × Nat))) h_1 h_3 h_4 h_5 now_3 marks mean dev any m_1 m_2 m_3 (none ) 0 0 p_1 h_5.length c_1 p_3 marks.length c_3 _ rfl rfl rfl h hp
  clear hq
  refine cond_tt ?_
  replace h := h.sel [1, 1, 1, 1, 1, 1, 1, 1, 1] 1
  dsimp only [pickL, pickR, nthH, delH, dropH, List.cons_append, List.nil_append] at h
  exact ⟨now, rfl, rfl, rfl, hp, h⟩

/-! (*embrasure/punch.Puncher).again (29) -/
def punch_Puncher_again_wp (h_1 : Int) (h_2 : Bool) (h_3 : Int) (h_4 : Int) (own : List (Int × Int)) (marks : List (Int × Int)) (mean : Int) (dev : Int) (any : Bool) (now : Int) (m_1 : List ((Option Addr × Nat × Nat) × List (Int))) (m_2 : List ((Option Addr × Nat × Nat) × List (Int))) (m_3 : List ((Option Addr × Nat × Nat) × List (Int × Int))) (K : List (Int × (Option Addr × Nat × Nat) × Int × (Option Addr × Nat × Nat) × (Option Addr × Nat × Nat) × (Option Addr × Nat × Nat)) → Int → Int → Int → List (Int × Int) → List ((Option Addr × Nat × Nat) × List (Int)) → List ((Option Addr × Nat × Nat) × List (Int)) → List ((Option Addr × Nat × Nat) × List (Int × Int)) → Prop) : Prop :=
  cond (decide ((h_3 : Int) ≥ 3)) (K [(2, ((none, 0, 0) : Option Addr × Nat × Nat), 0, ((none, 0, 0) : Option Addr × Nat × Nat), ((none, 0, 0) : Option Addr × Nat × Nat), ((none, 0, 0) : Option Addr × Nat × Nat))] 5 h_3 0 marks m_1 m_2 m_3) (punch_Puncher_ask_wp h_1 h_2 (IntKind.wrap .i64 (h_3 + 1)) h_4 own marks mean dev any now m_1 m_2 m_3 (fun (rs : List (Int × (Option Addr × Nat × Nat) × Int × (Option Addr × Nat × Nat) × (Option Addr × Nat × Nat) × (Option Addr × Nat × Nat))) (h_8 : Int) (h_9 : Int) (marks_2 : List (Int × Int)) (m_7 : List ((Option Addr × Nat × Nat) × List (Int))) (m_8 : List ((Option Addr × Nat × Nat) × List (Int))) (m_9 : List ((Option Addr × Nat × Nat) × List (Int × Int))) => K rs h_8 (IntKind.wrap .i64 (h_3 + 1)) h_9 marks_2 m_7 m_8 m_9))
theorem punch_Puncher_again_ok {b_1 : Nat} {p_1 : Option Addr} {n_1 : Nat} {c_1 : Nat} {p_2 : Option Addr} {c_2 : Nat} {b_2 : Nat} {p_3 : Option Addr} {c_3 : Nat} {h_1 : Int} {h_2 : Bool} {h_3 : Int} {h_4 : Int} {own : List (Int × Int)} {marks : List (Int × Int)} {mean : Int} {dev : Int} {any : Bool} {now : Int} {m_1 : List ((Option Addr × Nat × Nat) × List (Int))} {m_2 : List ((Option Addr × Nat × Nat) × List (Int))} {m_3 : List ((Option Addr × Nat × Nat) × List (Int × Int))} {FL : List HP} {w : World} {K : List (Int × (Option Addr × Nat × Nat) × Int × (Option Addr × Nat × Nat) × (Option Addr × Nat × Nat) × (Option Addr × Nat × Nat)) → Int → Int → Int → List (Int × Int) → List ((Option Addr × Nat × Nat) × List (Int)) → List ((Option Addr × Nat × Nat) × List (Int)) → List ((Option Addr × Nat × Nat) × List (Int × Int)) → Prop} {R : Value → World → Prop}
  (h : Mem (cel b_1 64 [(Value.int .i64 h_1), (Value.bool h_2), (Value.int .i64 h_3), (Value.int .i64 h_4), (Value.slice p_1 n_1 c_1), (Value.slice p_2 own.length c_2), (Value.pointer (some (Addr.mk b_2 0 none))), (Value.int .i64 now)] :: row enc55 55 2 p_2 c_2 own :: cel b_2 74 [(Value.slice p_3 marks.length c_3), (Value.int .i64 mean), (Value.int .i64 dev), (Value.bool any)] :: row enc86 86 2 p_3 c_3 marks :: poolP enc5 5 1 m_1 :: poolP enc52 52 1 m_2 :: poolP enc55 55 2 m_3 :: FL) w) (hp : punch_Puncher_again_wp h_1 h_2 h_3 h_4 own marks mean dev any now m_1 m_2 m_3 K)
  (hR : ∀ (rs : List (Int × (Option Addr × Nat × Nat) × Int × (Option Addr × Nat × Nat) × (Option Addr × Nat × Nat) × (Option Addr × Nat × Nat))) (h_5 : Int) (h_6 : Int) (h_7 : Int) (marks_1 : List (Int × Int)) (m_4 : List ((Option Addr × Nat × Nat) × List (Int))) (m_5 : List ((Option Addr × Nat × Nat) × List (Int))) (m_6 : List ((Option Addr × Nat × Nat) × List (Int × Int))) (p_5 : Option Addr) (n_3 : Nat) (c_5 : Nat) (p_4 : Option Addr) (n_2 : Nat) (c_4 : Nat) (w : World), n_3 = rs.length → n_2 = marks_1.length → Mem (row enc39 39 6 p_5 c_5 rs :: cel b_1 64 [(Value.int .i64 h_5), (Value.bool h_2), (Value.int .i64 h_6), (Value.int .i64 h_7), (Value.slice p_1 n_1 c_1), (Value.slice p_2 own.length c_2), (Value.pointer (some (Addr.mk b_2 0 none))), (Value.int .i64 now)] :: row enc55 55 2 p_2 c_2 own :: cel b_2 74 [(Value.slice p_4 n_2 c_4), (Value.int .i64 mean), (Value.int .i64 dev), (Value.bool any)] :: row enc86 86 2 p_4 c_4 marks_1 :: poolP enc5 5 1 m_4 :: poolP enc52 52 1 m_5 :: poolP enc55 55 2 m_6 :: FL) w → K rs h_5 h_6 h_7 marks_1 m_4 m_5 m_6 → R (Value.slice p_5 n_3 c_5) w) :
  CallV Try.prog 29 #[(Value.pointer (some (Addr.mk b_1 0 none)))] w R := by
  refine punch_Puncher_again_call ?_
  unfold punch_Puncher_again
  unfold punch_Puncher_again_wp at hp
  have cpp_2 := rowCap h 1 rfl
  have cpp_3 := rowCap h 3 rfl
  refine ⟨_, rfl, ?_⟩
  refine ⟨_, cellL h 0 2 rfl rfl rfl, ?_⟩
  refine cond_both hp (fun hp => ?_) (fun hp => ?_)
  · refine ⟨_, rfl, ?_⟩
    refine storeL (ys := [(Value.int .i64 5)]) h 0 0 rfl rfl rfl sz3 rfl rfl ?_
    intro w h
    dsimp only [setH, setVs, setV] at h
    refine ⟨_, rfl, ?_⟩
    refine storeL (ys := [(Value.int .i64 0)]) h 0 3 rfl rfl rfl sz3 rfl rfl ?_
    intro w h
    dsimp only [setH, setVs, setV] at h
    refine newL (o := [(Value.int .i64 2), (Value.slice none 0 0), (Value.int .i64 0), (Value.slice none 0 0), (Value.slice none 0 0), (Value.slice none 0 0)]) h ?_
    intro b_3 w h
    replace h := rowOfCel h 0 encL39 rfl [(2, ((none, 0, 0) : Option Addr × Nat × Nat), 0, ((none, 0, 0) : Option Addr × Nat × Nat), ((none, 0, 0) : Option Addr × Nat × Nat), ((none, 0, 0) : Option Addr × Nat × Nat))] rfl
    dsimp only [setH, setVs, setV] at h
    exact hR [(2, ((none, 0, 0) : Option Addr × Nat × Nat), 0, ((none, 0, 0) : Option Addr × Nat × Nat), ((none, 0, 0) : Option Addr × Nat × Nat), ((none, 0, 0) : Option Addr × Nat × Nat))] 5 h_3 0 marks m_1 m_2 m_3 (some ⟨b_3, 0, none⟩) 1 1 p_3 marks.length c_3 _ rfl rfl h hp
  refine ⟨_, rfl, ?_⟩
  refine ⟨_, cellL h 0 2 rfl rfl rfl, ?_⟩
  refine ⟨_, rfl, ?_⟩
  refine storeL (ys := [(Value.int .i64 (IntKind.wrap .i64 (h_3 + 1)))]) h 0 2 rfl rfl rfl sz3 rfl rfl ?_
  intro w h
  dsimp only [setH, setVs, setV] at h
  refine punch_Puncher_ask_ok h hp ?_
  rintro rs h_8 h_9 marks_2 m_7 m_8 m_9 p_5 n_3 c_5 p_6 n_4 c_6 w rfl rfl h hp
  have cpp_5 := rowCap h 0 rfl
  have cpp_2 := rowCap h 2 rfl
  have cpp_6 := rowCap h 4 rfl
  refine ⟨_, _, _, rfl, ?_⟩
  exact hR rs h_8 (IntKind.wrap .i64 (h_3 + 1)) h_9 marks_2 m_7 m_8 m_9 p_5 rs.length c_5 p_6 marks_2.length c_6 _ rfl rfl h hp

/-! (*embrasure/punch.Puncher).still (31) -/
def punch_Puncher_still_wp (h_1 : Int) (h_2 : Bool) (h_3 : Int) (h_4 : Int) (mean : Int) (dev : Int) (any : Bool) (now : Int) (K : List (Int × (Option Addr × Nat × Nat) × Int × (Option Addr × Nat × Nat) × (Option Addr × Nat × Nat) × (Option Addr × Nat × Nat)) → Int → Int → Int → Prop) : Prop :=
  K ([] : List (Int × (Option Addr × Nat × Nat) × Int × (Option Addr × Nat × Nat) × (Option Addr × Nat × Nat) × (Option Addr × Nat × Nat))) 0 0 0
theorem punch_Puncher_still_ok {b_1 : Nat} {p_1 : Option Addr} {n_1 : Nat} {c_1 : Nat} {p_2 : Option Addr} {n_2 : Nat} {c_2 : Nat} {b_2 : Nat} {p_3 : Option Addr} {n_3 : Nat} {c_3 : Nat} {h_1 : Int} {h_2 : Bool} {h_3 : Int} {h_4 : Int} {mean : Int} {dev : Int} {any : Bool} {now : Int} {FL : List HP} {w : World} {K : List (Int × (Option Addr × Nat × Nat) × Int × (Option Addr × Nat × Nat) × (Option Addr × Nat × Nat) × (Option Addr × Nat × Nat)) → Int → Int → Int → Prop} {R : Value → World → Prop}
  (h : Mem (cel b_1 64 [(Value.int .i64 h_1), (Value.bool h_2), (Value.int .i64 h_3), (Value.int .i64 h_4), (Value.slice p_1 n_1 c_1), (Value.slice p_2 n_2 c_2), (Value.pointer (some (Addr.mk b_2 0 none))), (Value.int .i64 now)] :: cel b_2 74 [(Value.slice p_3 n_3 c_3), (Value.int .i64 mean), (Value.int .i64 dev), (Value.bool any)] :: FL) w) (hp : punch_Puncher_still_wp h_1 h_2 h_3 h_4 mean dev any now K)
  (hR : ∀ (rs : List (Int × (Option Addr × Nat × Nat) × Int × (Option Addr × Nat × Nat) × (Option Addr × Nat × Nat) × (Option Addr × Nat × Nat))) (h_5 : Int) (h_6 : Int) (h_7 : Int) (p_4 : Option Addr) (n_4 : Nat) (c_4 : Nat) (w : World), n_4 = rs.length → Mem (row enc39 39 6 p_4 c_4 rs :: cel b_1 64 [(Value.int .i64 h_5), (Value.bool h_2), (Value.int .i64 h_6), (Value.int .i64 h_7), (Value.slice p_1 n_1 c_1), (Value.slice p_2 n_2 c_2), (Value.pointer (some (Addr.mk b_2 0 none))), (Value.int .i64 now)] :: cel b_2 74 [(Value.slice p_3 n_3 c_3), (Value.int .i64 mean), (Value.int .i64 dev), (Value.bool any)] :: FL) w → K rs h_5 h_6 h_7 → R (Value.slice p_4 n_4 c_4) w) :
  CallV Try.prog 31 #[(Value.pointer (some (Addr.mk b_1 0 none)))] w R := by
  refine punch_Puncher_still_call ?_
  unfold punch_Puncher_still
  unfold punch_Puncher_still_wp at hp
  refine ⟨_, rfl, ?_⟩
  refine storeL (ys := [(Value.int .i64 0)]) h 0 0 rfl rfl rfl sz3 rfl rfl ?_
  intro w h
  dsimp only [setH, setVs, setV] at h
  refine ⟨_, rfl, ?_⟩
  refine storeL (ys := [(Value.int .i64 0)]) h 0 2 rfl rfl rfl sz3 rfl rfl ?_
  intro w h
  dsimp only [setH, setVs, setV] at h
  refine ⟨_, rfl, ?_⟩
  refine storeL (ys := [(Value.int .i64 0)]) h 0 3 rfl rfl rfl sz3 rfl rfl ?_
  intro w h
  dsimp only [setH, setVs, setV] at h
  replace h := rowNil enc39 39 6 h
  exact hR ([] : List (Int × (Option Addr × Nat × Nat) × Int × (Option Addr × Nat × Nat) × (Option Addr × Nat × Nat) × (Option Addr × Nat × Nat))) 0 0 0 (none ) 0 0 _ rfl h hp

/-! (*embrasure/punch.Puncher).Tick (12) -/
def punch_Puncher_Tick_wp (h_1 : Int) (h_2 : Bool) (h_3 : Int) (h_4 : Int) (h_5 : List (Int × Int)) (own : List (Int × Int)) (marks : List (Int × Int)) (mean : Int) (dev : Int) (any : Bool) (now : Int) (now_1 : Int) (m_1 : List ((Option Addr × Nat × Nat) × List (Int))) (m_2 : List ((Option Addr × Nat × Nat) × List (Int))) (m_3 : List ((Option Addr × Nat × Nat) × List (Int × Int))) (K : List (Int × (Option Addr × Nat × Nat) × Int × (Option Addr × Nat × Nat) × (Option Addr × Nat × Nat) × (Option Addr × Nat × Nat)) → Int → Int → Int → Int → List (Int × Int) → List ((Option Addr × Nat × Nat) × List (Int)) → List ((Option Addr × Nat × Nat) × List (Int)) → List ((Option Addr × Nat × Nat) × List (Int × Int)) → Prop) : Prop :=
  joinP2 (fun (now_3 : Int) (t17 : Bool) => cond t17 (K ([] : List (Int × (Option Addr × Nat × Nat) × Int × (Option Addr × Nat × Nat) × (Option Addr × Nat × Nat) × (Option Addr × Nat × Nat))) h_1 h_3 h_4 now_3 marks m_1 m_2 m_3) (cond ((h_1 : Int) == 1) (punch_Puncher_again_wp h_1 h_2 h_3 h_4 own marks mean dev any now_3 m_1 m_2 m_3 (fun (rs : List (Int × (Option Addr × Nat × Nat) × Int × (Option Addr × Nat × Nat) × (Option Addr × Nat × Nat) × (Option Addr × Nat × Nat))) (h_9 : Int) (h_10 : Int) (h_11 : Int) (marks_2 : List (Int × Int)) (m_7 : List ((Option Addr × Nat × Nat) × List (Int))) (m_8 : List ((Option Addr × Nat × Nat) × List (Int))) (m_9 : List ((Option Addr × Nat × Nat) × List (Int × Int))) => K rs h_9 h_10 h_11 now_3 marks_2 m_7 m_8 m_9)) (cond ((h_1 : Int) == 2) (cond h_2 (punch_Puncher_dial_wp h_1 h_2 h_3 h_4 h_5 mean dev any now_3 m_3 (fun (rs_1 : List (Int × (Option Addr × Nat × Nat) × Int × (Option Addr × Nat × Nat) × (Option Addr × Nat × Nat) × (Option Addr × Nat × Nat))) (h_12 : Int) (h_13 : Int) (m_10 : List ((Option Addr × Nat × Nat) × List (Int × Int))) => K rs_1 h_12 h_3 h_13 now_3 marks m_1 m_2 m_10)) (punch_Puncher_still_wp h_1 h_2 h_3 h_4 mean dev any now_3 (fun (rs_2 : List (Int × (Option Addr × Nat × Nat) × Int × (Option Addr × Nat × Nat) × (Option Addr × Nat × Nat) × (Option Addr × Nat × Nat))) (h_14 : Int) (h_15 : Int) (h_16 : Int) => K rs_2 h_14 h_15 h_16 now_3 marks m_1 m_2 m_3))) (cond ((h_1 : Int) == 3) (cond h_2 (punch_Puncher_again_wp h_1 h_2 h_3 h_4 own marks mean dev any now_3 m_1 m_2 m_3 (fun (rs_3 : List (Int × (Option Addr × Nat × Nat) × Int × (Option Addr × Nat × Nat) × (Option Addr × Nat × Nat) × (Option Addr × Nat × Nat))) (h_17 : Int) (h_18 : Int) (h_19 : Int) (marks_3 : List (Int × Int)) (m_11 : List ((Option Addr × Nat × Nat) × List (Int))) (m_12 : List ((Option Addr × Nat × Nat) × List (Int))) (m_13 : List ((Option Addr × Nat × Nat) × List (Int × Int))) => K rs_3 h_17 h_18 h_19 now_3 marks_3 m_11 m_12 m_13)) (punch_Puncher_still_wp h_1 h_2 h_3 h_4 mean dev any now_3 (fun (rs_4 : List (Int × (Option Addr × Nat × Nat) × Int × (Option Addr × Nat × Nat) × (Option Addr × Nat × Nat) × (Option Addr × Nat × Nat))) (h_20 : Int) (h_21 : Int) (h_22 : Int) => K rs_4 h_20 h_21 h_22 now_3 marks m_1 m_2 m_3))) (K ([] : List (Int × (Option Addr × Nat × Nat) × Int × (Option Addr × Nat × Nat) × (Option Addr × Nat × Nat) × (Option Addr × Nat × Nat))) h_1 h_3 h_4 now_3 marks m_1 m_2 m_3))))) (fun (Q : Int → Bool → Prop) => punch_Puncher_on_wp h_1 h_2 h_3 h_4 mean dev any now now_1 (fun (r : Bool) (now_4 : Int) => cond (!r) (Q now_4 true) (Q now_4 (decide ((now_1 : Int) < h_4)))))
theorem punch_Puncher_Tick_ok {b_1 : Nat} {p_1 : Option Addr} {c_1 : Nat} {p_2 : Option Addr} {c_2 : Nat} {b_2 : Nat} {p_3 : Option Addr} {c_3 : Nat} {h_1 : Int} {h_2 : Bool} {h_3 : Int} {h_4 : Int} {h_5 : List (Int × Int)} {own : List (Int × Int)} {marks : List (Int × Int)} {mean : Int} {dev : Int} {any : Bool} {now : Int} {now_1 : Int} {m_1 : List ((Option Addr × Nat × Nat) × List (Int))} {m_2 : List ((Option Addr × Nat × Nat) × List (Int))} {m_3 : List ((Option Addr × Nat × Nat) × List (Int × Int))} {FL : List HP} {w : World} {K : List (Int × (Option Addr × Nat × Nat) × Int × (Option Addr × Nat × Nat) × (Option Addr × Nat × Nat) × (Option Addr × Nat × Nat)) → Int → Int → Int → Int → List (Int × Int) → List ((Option Addr × Nat × Nat) × List (Int)) → List ((Option Addr × Nat × Nat) × List (Int)) → List ((Option Addr × Nat × Nat) × List (Int × Int)) → Prop} {R : Value → World → Prop}
  (h : Mem (cel b_1 64 [(Value.int .i64 h_1), (Value.bool h_2), (Value.int .i64 h_3), (Value.int .i64 h_4), (Value.slice p_1 h_5.length c_1), (Value.slice p_2 own.length c_2), (Value.pointer (some (Addr.mk b_2 0 none))), (Value.int .i64 now)] :: row enc55 55 2 p_1 c_1 h_5 :: row enc55 55 2 p_2 c_2 own :: cel b_2 74 [(Value.slice p_3 marks.length c_3), (Value.int .i64 mean), (Value.int .i64 dev), (Value.bool any)] :: row enc86 86 2 p_3 c_3 marks :: poolP enc5 5 1 m_1 :: poolP enc52 52 1 m_2 :: poolP enc55 55 2 m_3 :: FL) w) (hp : punch_Puncher_Tick_wp h_1 h_2 h_3 h_4 h_5 own marks mean dev any now now_1 m_1 m_2 m_3 K)
  (hR : ∀ (rs : List (Int × (Option Addr × Nat × Nat) × Int × (Option Addr × Nat × Nat) × (Option Addr × Nat × Nat) × (Option Addr × Nat × Nat))) (h_6 : Int) (h_7 : Int) (h_8 : Int) (now_2 : Int) (marks_1 : List (Int × Int)) (m_4 : List ((Option Addr × Nat × Nat) × List (Int))) (m_5 : List ((Option Addr × Nat × Nat) × List (Int))) (m_6 : List ((Option Addr × Nat × Nat) × List (Int × Int))) (p_5 : Option Addr) (n_2 : Nat) (c_5 : Nat) (p_4 : Option Addr) (n_1 : Nat) (c_4 : Nat) (w : World), n_2 = rs.length → n_1 = marks_1.length → Mem (row enc39 39 6 p_5 c_5 rs :: cel b_1 64 [(Value.int .i64 h_6), (Value.bool h_2), (Value.int .i64 h_7), (Value.int .i64 h_8), (Value.slice p_1 h_5.length c_1), (Value.slice p_2 own.length c_2), (Value.pointer (some (Addr.mk b_2 0 none))), (Value.int .i64 now_2)] :: row enc55 55 2 p_1 c_1 h_5 :: row enc55 55 2 p_2 c_2 own :: cel b_2 74 [(Value.slice p_4 n_1 c_4), (Value.int .i64 mean), (Value.int .i64 dev), (Value.bool any)] :: row enc86 86 2 p_4 c_4 marks_1 :: poolP enc5 5 1 m_4 :: poolP enc52 52 1 m_5 :: poolP enc55 55 2 m_6 :: FL) w → K rs h_6 h_7 h_8 now_2 marks_1 m_4 m_5 m_6 → R (Value.slice p_5 n_2 c_5) w) :
  CallV Try.prog 12 #[(Value.pointer (some (Addr.mk b_1 0 none))), (Value.int .i64 now_1)] w R := by
  refine punch_Puncher_Tick_call ?_
  unfold punch_Puncher_Tick
  unfold punch_Puncher_Tick_wp at hp
  have cpp_1 := rowCap h 1 rfl
  have cpp_2 := rowCap h 2 rfl
  have cpp_3 := rowCap h 4 rfl
  obtain ⟨Q, hq, hp⟩ := hp
  refine ⟨fun p0 t17 w => ∃ (now_3 : Int), (some (Addr.mk b_1 0 none)) = p0 ∧ Q now_3 t17 ∧ Mem (cel b_1 64 [(Value.int .i64 h_1), (Value.bool h_2), (Value.int .i64 h_3), (Value.int .i64 h_4), (Value.slice p_1 h_5.length c_1), (Value.slice p_2 own.length c_2), (Value.pointer (some (Addr.mk b_2 0 none))), (Value.int .i64 now_3)] :: row enc55 55 2 p_1 c_1 h_5 :: row enc55 55 2 p_2 c_2 own :: cel b_2 74 [(Value.slice p_3 marks.length c_3), (Value.int .i64 mean), (Value.int .i64 dev), (Value.bool any)] :: row enc86 86 2 p_3 c_3 marks :: poolP enc5 5 1 m_1 :: poolP enc52 52 1 m_2 :: poolP enc55 55 2 m_3 :: FL) w, ?_, ?_⟩
  · rintro p0 t17 w ⟨now_3, rfl, hp, h⟩
    replace hp := hq now_3 t17 hp
    unfold punch_Puncher_Tick_j1
    refine cond_both hp (fun hp => ?_) (fun hp => ?_)
    · replace h := rowNil enc39 39 6 h
      exact hR ([] : List (Int × (Option Addr × Nat × Nat) × Int × (Option Addr × Nat × Nat) × (Option Addr × Nat × Nat) × (Option Addr × Nat × Nat))) h_1 h_3 h_4 now_3 marks m_1 m_2 m_3 (none ) 0 0 p_3 marks.length c_3 _ rfl rfl h hp
    refine ⟨_, rfl, ?_⟩
    refine ⟨_, cellL h 0 0 rfl rfl rfl, ?_⟩
    refine cond_both hp (fun hp => ?_) (fun hp => ?_)
    · replace h := h.pick [0, 1, 1, 1, 1, 1, 1]
      dsimp only [pickL, pickR, nthH, delH, dropH, List.cons_append, List.nil_append] at h
      refine punch_Puncher_again_ok h hp ?_
      rintro rs h_9 h_10 h_11 marks_2 m_7 m_8 m_9 p_6 n_2 c_5 p_7 n_3 c_6 w rfl rfl h hp
      have cpp_6 := rowCap h 0 rfl
      have cpp_2 := rowCap h 2 rfl
      have cpp_7 := rowCap h 4 rfl
      refine ⟨_, _, _, rfl, ?_⟩
      replace h := h.sel [0, 0, 6, 0, 0, 0, 0, 0, 0] 0
      dsimp only [pickL, pickR, nthH, delH, dropH, List.cons_append, List.nil_append] at h
      exact hR rs h_9 h_10 h_11 now_3 marks_2 m_7 m_8 m_9 p_6 rs.length c_5 p_7 marks_2.length c_6 _ rfl rfl h hp
    refine cond_both hp (fun hp => ?_) (fun hp => ?_)
    · refine ⟨_, rfl, ?_⟩
      refine ⟨_, cellL h 0 1 rfl rfl rfl, ?_⟩
      refine cond_both' hp (fun hp => ?_) (fun hp => ?_)
      · replace h := h.pick [0, 2]
        dsimp only [pickL, pickR, nthH, delH, dropH, List.cons_append, List.nil_append] at h
        refine punch_Puncher_still_ok h hp ?_
        rintro rs_2 h_14 h_15 h_16 p_9 n_5 c_8 w rfl h hp
        have cpp_9 := rowCap h 0 rfl
        refine ⟨_, _, _, rfl, ?_⟩
        replace h := h.sel [0, 0, 1, 1, 0, 0, 0, 0, 0] 0
        dsimp only [pickL, pickR, nthH, delH, dropH, List.cons_append, List.nil_append] at h
        exact hR rs_2 h_14 h_15 h_16 now_3 marks m_1 m_2 m_3 p_9 rs_2.length c_8 p_3 marks.length c_3 _ rfl rfl h hp
      replace h := h.pick [0, 0, 1, 4]
      dsimp only [pickL, pickR, nthH, delH, dropH, List.cons_append, List.nil_append] at h
      refine punch_Puncher_dial_ok h hp ?_
      rintro rs_1 h_12 h_13 m_10 p_8 n_4 c_7 w rfl h hp
      have cpp_8 := rowCap h 0 rfl
      have cpp_1 := rowCap h 2 rfl
      refine ⟨_, _, _, rfl, ?_⟩
      replace h := h.sel [0, 0, 0, 2, 0, 1, 1, 1, 0] 0
      dsimp only [pickL, pickR, nthH, delH, dropH, List.cons_append, List.nil_append] at h
      exact hR rs_1 h_12 h_3 h_13 now_3 marks m_1 m_2 m_10 p_8 rs_1.length c_7 p_3 marks.length c_3 _ rfl rfl h hp
    refine cond_both' hp (fun hp => ?_) (fun hp => ?_)
    · replace h := rowNil enc39 39 6 h
      exact hR ([] : List (Int × (Option Addr × Nat × Nat) × Int × (Option Addr × Nat × Nat) × (Option Addr × Nat × Nat) × (Option Addr × Nat × Nat))) h_1 h_3 h_4 now_3 marks m_1 m_2 m_3 (none  ) 0 0 p_3 marks.length c_3 _ rfl rfl h hp
    refine ⟨_, rfl, ?_⟩
    refine ⟨_, cellL h 0 1 rfl rfl rfl, ?_⟩
    refine cond_both' hp (fun hp => ?_) (fun hp => ?_)
    · replace h := h.pick [0, 2]
      dsimp only [pickL, pickR, nthH, delH, dropH, List.cons_append, List.nil_append] at h
      refine punch_Puncher_still_ok h hp ?_
      rintro rs_4 h_20 h_21 h_22 p_12 n_8 c_11 w rfl h hp
      have cpp_12 := rowCap h 0 rfl
      refine ⟨_, _, _, rfl, ?_⟩
      replace h := h.sel [0, 0, 1, 1, 0, 0, 0, 0, 0] 0
      dsimp only [pickL, pickR, nthH, delH, dropH, List.cons_append, List.nil_append] at h
      exact hR rs_4 h_20 h_21 h_22 now_3 marks m_1 m_2 m_3 p_12 rs_4.length c_11 p_3 marks.length c_3 _ rfl rfl h hp
    replace h := h.pick [0, 1, 1, 1, 1, 1, 1]
    dsimp only [pickL, pickR, nthH, delH, dropH, List.cons_append, List.nil_append] at h
    refine punch_Puncher_again_ok h hp ?_
    rintro rs_3 h_17 h_18 h_19 marks_3 m_11 m_12 m_13 p_10 n_6 c_9 p_11 n_7 c_10 w rfl rfl h hp
    have cpp_10 := rowCap h 0 rfl
    have cpp_2 := rowCap h 2 rfl
    have cpp_11 := rowCap h 4 rfl
    refine ⟨_, _, _, rfl, ?_⟩
    replace h := h.sel [0, 0, 6, 0, 0, 0, 0, 0, 0] 0
    dsimp only [pickL, pickR, nthH, delH, dropH, List.cons_append, List.nil_append] at h
    exact hR rs_3 h_17 h_18 h_19 now_3 marks_3 m_11 m_12 m_13 p_10 rs_3.length c_9 p_11 marks_3.length c_10 _ rfl rfl h hp
  clear hq
  replace h := h.pick [0, 2]
  dsimp only [pickL, pickR, nthH, delH, dropH, List.cons_append, List.nil_append] at h
  refine punch_Puncher_on_ok h hp ?_
  intro r now_4 w h hp
  refine ⟨_, rfl, ?_⟩
  refine cond_both hp (fun hp => ?_) (fun hp => ?_)
  · replace h := h.sel [0, 1, 1, 0, 0, 0, 0, 0] 0
    dsimp only [pickL, pickR, nthH, delH, dropH, List.cons_append, List.nil_append] at h
    exact ⟨now_4, rfl, hp, h⟩
  refine ⟨_, rfl, ?_⟩
  refine ⟨_, cellL h 0 3 rfl rfl rfl, ?_⟩
  replace h := h.sel [0, 1, 1, 0, 0, 0, 0, 0] 0
  dsimp only [pickL, pickR, nthH, delH, dropH, List.cons_append, List.nil_append] at h
  exact ⟨now_4, rfl, hp, h⟩

/-! embrasure/embrasurelaw27.awake (7) -/
def embrasurelaw27_awake_wp  (K : Bool → Prop) : Prop :=
  punch_New_wp [(1, 1)] (fun (r : Int) => joinP1 (fun (t18 : Bool) => cond t18 (K false) (False)) (fun (Q : Bool → Prop) => Q true)) (fun (r_1 : Int) (h_1 : Int) (h_2 : Bool) (h_3 : Int) (h_4 : Int) (h_5 : List (Int × Int)) (own : List (Int × Int)) (marks : List (Int × Int)) (mean : Int) (dev : Int) (any : Bool) (now : Int) => joinP1 (fun (t18_1 : Bool) => cond t18_1 (K false) (punch_Puncher_Begin_wp h_1 h_2 h_3 h_4 own marks mean dev any now 0 ([] : List ((Option Addr × Nat × Nat) × List (Int))) ([] : List ((Option Addr × Nat × Nat) × List (Int))) ([] : List ((Option Addr × Nat × Nat) × List (Int × Int))) (fun (rs : List (Int × (Option Addr × Nat × Nat) × Int × (Option Addr × Nat × Nat) × (Option Addr × Nat × Nat) × (Option Addr × Nat × Nat))) (h_6 : Int) (h_7 : Bool) (h_8 : Int) (h_9 : Int) (now_1 : Int) (marks_1 : List (Int × Int)) (m_1 : List ((Option Addr × Nat × Nat) × List (Int))) (m_2 : List ((Option Addr × Nat × Nat) × List (Int))) (m_3 : List ((Option Addr × Nat × Nat) × List (Int × Int))) => punch_Puncher_Hear_wp h_6 h_7 h_8 h_9 h_5 own marks_1 mean dev any now_1 20 17 [1, 1] [(2, 2)] ([] : List (Int)) m_1 m_2 m_3 (fun (rs_1 : List (Int × (Option Addr × Nat × Nat) × Int × (Option Addr × Nat × Nat) × (Option Addr × Nat × Nat) × (Option Addr × Nat × Nat))) (h_10 : Int) (h_11 : Int) (h_12 : Int) (h_13 : List (Int × Int)) (now_2 : Int) (marks_2 : List (Int × Int)) (mean_1 : Int) (dev_1 : Int) (any_1 : Bool) (m_4 : List ((Option Addr × Nat × Nat) × List (Int))) (m_5 : List ((Option Addr × Nat × Nat) × List (Int))) (m_6 : List ((Option Addr × Nat × Nat) × List (Int × Int))) => punch_Puncher_Tick_wp h_10 h_7 h_11 h_12 h_13 own marks_2 mean_1 dev_1 any_1 now_2 29 m_4 m_5 m_6 (fun (rs_2 : List (Int × (Option Addr × Nat × Nat) × Int × (Option Addr × Nat × Nat) × (Option Addr × Nat × Nat) × (Option Addr × Nat × Nat))) (h_14 : Int) (h_15 : Int) (h_16 : Int) (now_3 : Int) (marks_3 : List (Int × Int)) (m_7 : List ((Option Addr × Nat × Nat) × List (Int))) (m_8 : List ((Option Addr × Nat × Nat) × List (Int))) (m_9 : List ((Option Addr × Nat × Nat) × List (Int × Int))) => punch_Puncher_Tick_wp h_14 h_7 h_15 h_16 h_13 own marks_3 mean_1 dev_1 any_1 now_3 30 m_7 m_8 m_9 (fun (rs_3 : List (Int × (Option Addr × Nat × Nat) × Int × (Option Addr × Nat × Nat) × (Option Addr × Nat × Nat) × (Option Addr × Nat × Nat))) (h_17 : Int) (h_18 : Int) (h_19 : Int) (now_4 : Int) (marks_4 : List (Int × Int)) (m_10 : List ((Option Addr × Nat × Nat) × List (Int))) (m_11 : List ((Option Addr × Nat × Nat) × List (Int))) (m_12 : List ((Option Addr × Nat × Nat) × List (Int × Int))) => cond ((((rs.length : Nat) : Int) : Int) == 1) (0 ≤ (0 : Int) ∧ (0 : Int) < ((rs.length : Nat) : Int) ∧ (∀ (x_1 : Int × (Option Addr × Nat × Nat) × Int × (Option Addr × Nat × Nat) × (Option Addr × Nat × Nat) × (Option Addr × Nat × Nat)), rs[Int.toNat 0]? = some x_1 → (cond ((x_1.2.2.1 : Int) == 17) (cond ((((rs_1.length : Nat) : Int) : Int) == 1) (0 ≤ (0 : Int) ∧ (0 : Int) < ((rs_1.length : Nat) : Int) ∧ (∀ (x_2 : Int × (Option Addr × Nat × Nat) × Int × (Option Addr × Nat × Nat) × (Option Addr × Nat × Nat) × (Option Addr × Nat × Nat)), rs_1[Int.toNat 0]? = some x_2 → (cond ((x_2.2.2.1 : Int) == 18) (cond ((((rs_2.length : Nat) : Int) : Int) == 0) (cond ((((rs_3.length : Nat) : Int) : Int) == 1) (0 ≤ (0 : Int) ∧ (0 : Int) < ((rs_3.length : Nat) : Int) ∧ (∀ (x_3 : Int × (Option Addr × Nat × Nat) × Int × (Option Addr × Nat × Nat) × (Option Addr × Nat × Nat) × (Option Addr × Nat × Nat)), rs_3[Int.toNat 0]? = some x_3 → (cond ((x_3.1 : Int) == 1) (0 ≤ (0 : Int) ∧ (0 : Int) < ((rs_3.length : Nat) : Int) ∧ (∀ (x_4 : Int × (Option Addr × Nat × Nat) × Int × (Option Addr × Nat × Nat) × (Option Addr × Nat × Nat) × (Option Addr × Nat × Nat)), rs_3[Int.toNat 0]? = some x_4 → (∃ (xs : List (Int × Int)), PH m_12 x_4.2.1 xs ∧ (0 ≤ (0 : Int) ∧ (0 : Int) < ((x_4.2.1.2.1 : Nat) : Int) ∧ (∀ (x_5 : Int × Int), xs[Int.toNat 0]? = some x_5 → (K ((x_5.1 : Int) == 2))))))) (K false)))) (K false)) (K false)) (K false)))) (K false)) (K false)))) (K false))))))) (fun (Q_1 : Bool → Prop) => Q_1 ((r_1 : Int) != 0)))
theorem embrasurelaw27_awake_ok  {FL : List HP} {w : World} {K : Bool → Prop} {R : Value → World → Prop}
  (h : Mem (FL) w) (hp : embrasurelaw27_awake_wp  K)
  (hR : ∀ (r : Bool) (w : World), Mem (FL) w → K r → R (Value.bool r) w) :
  CallV Try.prog 7 #[] w R := by
  refine embrasurelaw27_awake_call ?_
  unfold embrasurelaw27_awake
  unfold embrasurelaw27_awake_wp at hp
  replace h := poolNil enc5 5 1 h
  replace h := poolNil enc52 52 1 h
  replace h := poolNil enc55 55 2 h
  refine newL (o := [(Value.int .u32 1), (Value.int .i64 1)]) h ?_
  intro b_1 w h
  refine punch_New_ok (FL := cel b_1 55 [(Value.int .u32 1), (Value.int .i64 1)] :: poolP enc55 55 2 ([] : List ((Option Addr × Nat × Nat) × List (Int × Int))) :: poolP enc52 52 1 ([] : List ((Option Addr × Nat × Nat) × List (Int))) :: poolP enc5 5 1 ([] : List ((Option Addr × Nat × Nat) × List (Int))) :: FL) (fun w h => (celRd h 0 encL55 rfl [(1, 1)] rfl)) rfl (Nat.le_refl _) h hp ?_ ?_
  · intro r w h hp
    refine ⟨_, _, rfl, ?_⟩
    refine ⟨_, rfl, ?_⟩
    refine ⟨_, rfl, ?_⟩
    obtain ⟨Q, hq, hp⟩ := hp
    refine ⟨fun p1 t18 w => none = p1 ∧ Q t18 ∧ Mem (cel b_1 55 [(Value.int .u32 1), (Value.int .i64 1)] :: poolP enc55 55 2 ([] : List ((Option Addr × Nat × Nat) × List (Int × Int))) :: poolP enc52 52 1 ([] : List ((Option Addr × Nat × Nat) × List (Int))) :: poolP enc5 5 1 ([] : List ((Option Addr × Nat × Nat) × List (Int))) :: FL) w, ?_, ?_⟩
    · rintro p1 t18 w ⟨rfl, hp, h⟩
      replace hp := hq t18 hp
      unfold embrasurelaw27_awake_j1
      refine cond_both' hp (fun hp => ?_) (fun hp => ?_)
      · exact hp.elim
      replace h := h.sel [] 4
      dsimp only [pickL, pickR, nthH, delH, dropH, List.cons_append, List.nil_append] at h
      exact hR false _ h hp
    clear hq
    refine eqlPtrNN undP27 ?_
    refine ⟨_, rfl, ?_⟩
    refine cond_tt ?_
    exact ⟨rfl, hp, h⟩
  rintro r_1 h_1 h_2 h_3 h_4 h_5 own marks mean dev any now b_2 p_1 n_1 c_1 p_2 n_2 c_2 b_3 p_3 n_3 c_3 w rfl rfl rfl h hp
  have cpp_1 := rowCap h 1 rfl
  have cpp_2 := rowCap h 2 rfl
  have cpp_3 := rowCap h 4 rfl
  refine ⟨_, _, rfl, ?_⟩
  refine ⟨_, rfl, ?_⟩
  refine ⟨_, rfl, ?_⟩
  obtain ⟨Q_1, hq, hp⟩ := hp
  refine ⟨fun p1_1 t18_1 w => (some (Addr.mk b_2 0 none)) = p1_1 ∧ Q_1 t18_1 ∧ Mem (cel b_2 64 [(Value.int .i64 h_1), (Value.bool h_2), (Value.int .i64 h_3), (Value.int .i64 h_4), (Value.slice p_1 h_5.length c_1), (Value.slice p_2 own.length c_2), (Value.pointer (some (Addr.mk b_3 0 none))), (Value.int .i64 now)] :: row enc55 55 2 p_1 c_1 h_5 :: row enc55 55 2 p_2 c_2 own :: cel b_3 74 [(Value.slice p_3 marks.length c_3), (Value.int .i64 mean), (Value.int .i64 dev), (Value.bool any)] :: row enc86 86 2 p_3 c_3 marks :: cel b_1 55 [(Value.int .u32 1), (Value.int .i64 1)] :: poolP enc55 55 2 ([] : List ((Option Addr × Nat × Nat) × List (Int × Int))) :: poolP enc52 52 1 ([] : List ((Option Addr × Nat × Nat) × List (Int))) :: poolP enc5 5 1 ([] : List ((Option Addr × Nat × Nat) × List (Int))) :: FL) w, ?_, ?_⟩
  · rintro p1_1 t18_1 w ⟨rfl, hp, h⟩
    replace hp := hq t18_1 hp
    unfold embrasurelaw27_awake_j1
    refine cond_both hp (fun hp => ?_) (fun hp => ?_)
    · replace h := h.sel [] 9
      dsimp only [pickL, pickR, nthH, delH, dropH, List.cons_append, List.nil_append] at h
      exact hR false _ h hp
    replace h := h.pick [0, 1, 1, 1, 4, 3, 2]
    dsimp only [pickL, pickR, nthH, delH, dropH, List.cons_append, List.nil_append] at h
    refine punch_Puncher_Begin_ok h hp ?_
    rintro rs h_6 h_7 h_8 h_9 now_1 marks_1 m_1 m_2 m_3 p_4 n_4 c_4 p_5 n_5 c_5 w rfl rfl h hp
    have cpp_4 := rowCap h 0 rfl
    have cpp_2 := rowCap h 2 rfl
    have cpp_5 := rowCap h 4 rfl
    refine ⟨_, _, _, rfl, ?_⟩
    refine newL (o := [(Value.int .u64 1), (Value.int .u64 1)]) h ?_
    intro b_4 w h
    refine newL (o := [(Value.int .u32 2), (Value.int .i64 2)]) h ?_
    intro b_5 w h
    replace h := h.pick [3, 9, 3, 3, 3, 3, 3, 3]
    dsimp only [pickL, pickR, nthH, delH, dropH, List.cons_append, List.nil_append] at h
    refine punch_Puncher_Hear_ok (FL := cel b_5 55 [(Value.int .u32 2), (Value.int .i64 2)] :: cel b_4 52 [(Value.int .u64 1), (Value.int .u64 1)] :: row enc39 39 6 p_4 c_4 rs :: cel b_1 55 [(Value.int .u32 1), (Value.int .i64 1)] :: FL) (fun w h => (celRd h 4 encL52 rfl [1, 1] rfl)) rfl (Nat.le_refl _) (fun w h => (celRd h 3 encL55 rfl [(2, 2)] rfl)) rfl (Nat.le_refl _) (fun w h => Rd.nil) rfl (Nat.le_refl _) h hp ?_
    rintro rs_1 h_10 h_11 h_12 h_13 now_2 marks_2 mean_1 dev_1 any_1 m_4 m_5 m_6 p_6 n_6 c_6 p_7 n_7 c_7 p_8 n_8 c_8 w rfl rfl rfl h hp
    have cpp_6 := rowCap h 0 rfl
    have cpp_7 := rowCap h 2 rfl
    have cpp_2 := rowCap h 3 rfl
    have cpp_8 := rowCap h 5 rfl
    refine ⟨_, _, _, rfl, ?_⟩
    replace h := h.pick [1, 1, 1, 1, 1, 1, 1, 1]
    dsimp only [pickL, pickR, nthH, delH, dropH, List.cons_append, List.nil_append] at h
    refine punch_Puncher_Tick_ok h hp ?_
    rintro rs_2 h_14 h_15 h_16 now_3 marks_3 m_7 m_8 m_9 p_9 n_9 c_9 p_10 n_10 c_10 w rfl rfl h hp
    have cpp_9 := rowCap h 0 rfl
    have cpp_7 := rowCap h 2 rfl
    have cpp_2 := rowCap h 3 rfl
    have cpp_10 := rowCap h 5 rfl
    refine ⟨_, _, _, rfl, ?_⟩
    replace h := h.pick [1, 1, 1, 1, 1, 1, 1, 1]
    dsimp only [pickL, pickR, nthH, delH, dropH, List.cons_append, List.nil_append] at h
    refine punch_Puncher_Tick_ok h hp ?_
    rintro rs_3 h_17 h_18 h_19 now_4 marks_4 m_10 m_11 m_12 p_11 n_11 c_11 p_12 n_12 c_12 w rfl rfl h hp
    have cpp_11 := rowCap h 0 rfl
    have cpp_7 := rowCap h 2 rfl
    have cpp_2 := rowCap h 3 rfl
    have cpp_12 := rowCap h 5 rfl
    refine ⟨_, _, _, rfl, ?_⟩
    refine cond_both' hp (fun hp => ?_) (fun hp => ?_)
    · replace h := h.sel [] 15
      dsimp only [pickL, pickR, nthH, delH, dropH, List.cons_append, List.nil_append] at h
      exact hR false _ h hp
    obtain ⟨ia_1, ja_1, hp⟩ := hp
    obtain ⟨a_1, ha_1⟩ := rdAddr (rowRd h 13 encL39 rfl) rfl ia_1 ja_1
    refine ⟨a_1, ha_1, ia_1, ja_1, ?_⟩
    obtain ⟨x_1, hx_1, hc⟩ := rdCell2 (rowRd h 13 encL39 rfl) ha_1 rfl ia_1 ja_1
    replace hp := hp x_1 hx_1
    refine ⟨_, hc 2 0 _ rfl, ?_⟩
    refine cond_both' hp (fun hp => ?_) (fun hp => ?_)
    · replace h := h.sel [] 15
      dsimp only [pickL, pickR, nthH, delH, dropH, List.cons_append, List.nil_append] at h
      exact hR false _ h hp
    refine cond_both' hp (fun hp => ?_) (fun hp => ?_)
    · replace h := h.sel [] 15
      dsimp only [pickL, pickR, nthH, delH, dropH, List.cons_append, List.nil_append] at h
      exact hR false _ h hp
    obtain ⟨ia_2, ja_2, hp⟩ := hp
    obtain ⟨a_2, ha_2⟩ := rdAddr (rowRd h 10 encL39 rfl) rfl ia_2 ja_2
    refine ⟨a_2, ha_2, ia_2, ja_2, ?_⟩
    obtain ⟨x_2, hx_2, hc⟩ := rdCell2 (rowRd h 10 encL39 rfl) ha_2 rfl ia_2 ja_2
    replace hp := hp x_2 hx_2
    refine ⟨_, hc 2 0 _ rfl, ?_⟩
    refine cond_both' hp (fun hp => ?_) (fun hp => ?_)
    · replace h := h.sel [] 15
      dsimp only [pickL, pickR, nthH, delH, dropH, List.cons_append, List.nil_append] at h
      exact hR false _ h hp
    refine cond_both' hp (fun hp => ?_) (fun hp => ?_)
    · replace h := h.sel [] 15
      dsimp only [pickL, pickR, nthH, delH, dropH, List.cons_append, List.nil_append] at h
      exact hR false _ h hp
    refine cond_both' hp (fun hp => ?_) (fun hp => ?_)
    · replace h := h.sel [] 15
      dsimp only [pickL, pickR, nthH, delH, dropH, List.cons_append, List.nil_append] at h
      exact hR false _ h hp
    obtain ⟨ia_3, ja_3, hp⟩ := hp
    obtain ⟨a_3, ha_3⟩ := rdAddr (rowRd h 0 encL39 rfl) rfl ia_3 ja_3
    refine ⟨a_3, ha_3, ia_3, ja_3, ?_⟩
    obtain ⟨x_3, hx_3, hc⟩ := rdCell (rowRd h 0 encL39 rfl) ha_3 rfl ia_3 ja_3
    replace hp := hp x_3 hx_3
    refine ⟨_, hc 0 _ rfl, ?_⟩
    refine cond_both' hp (fun hp => ?_) (fun hp => ?_)
    · replace h := h.sel [] 15
      dsimp only [pickL, pickR, nthH, delH, dropH, List.cons_append, List.nil_append] at h
      exact hR false _ h hp
    obtain ⟨ia_4, ja_4, hp⟩ := hp
    obtain ⟨a_4, ha_4⟩ := rdAddr (rowRd h 0 encL39 rfl) rfl ia_4 ja_4
    refine ⟨a_4, ha_4, ia_4, ja_4, ?_⟩
    obtain ⟨x_4, hx_4, hc⟩ := rdCell (rowRd h 0 encL39 rfl) ha_4 rfl ia_4 ja_4
    replace hp := hp x_4 hx_4
    refine ⟨_, _, _, hc 1 _ rfl, ?_⟩
    obtain ⟨xs, hq_xs, hp⟩ := hp
    have hl_xs := poolLen h 8 rfl hq_xs
    have hc_xs := poolCap h 8 rfl hq_xs
    obtain ⟨ia_5, ja_5, hp⟩ := hp
    obtain ⟨a_5, ha_5⟩ := rdAddr (poolRd h 8 encL55 rfl hq_xs) hl_xs ia_5 ja_5
    refine ⟨a_5, ha_5, ia_5, ja_5, ?_⟩
    obtain ⟨x_5, hx_5, hc⟩ := rdCell (poolRd h 8 encL55 rfl hq_xs) ha_5 hl_xs ia_5 ja_5
    replace hp := hp x_5 hx_5
    refine ⟨_, hc 0 _ rfl, ?_⟩
    replace h := h.sel [] 15
    dsimp only [pickL, pickR, nthH, delH, dropH, List.cons_append, List.nil_append] at h
    exact hR ((x_5.1 : Int) == 2) _ h hp
  clear hq
  refine eqlPtrNil undP27 ?_
  refine ⟨_, rfl, ?_⟩
  refine cond_ff ?_
  exact ⟨rfl, hp, h⟩

/-! embrasure/embrasureref03.May (18) -/
def embrasureref03_May_wp (a_Host : Int) (a_Port : Int) (K : Bool → Prop) : Prop :=
  cond (decide ((a_Host : Int) > 0)) (cond (decide ((a_Port : Int) > 0)) (K (decide ((a_Port : Int) < 65536))) (K false)) (K false)
theorem embrasureref03_May_ok {a_Host : Int} {a_Port : Int} {FL : List HP} {w : World} {K : Bool → Prop} {R : Value → World → Prop}
  (h : Mem (FL) w) (hp : embrasureref03_May_wp a_Host a_Port K)
  (hR : ∀ (r : Bool) (w : World), Mem (FL) w → K r → R (Value.bool r) w) :
  CallV Try.prog 18 #[(Value.agg #[(Value.int .u32 a_Host), (Value.int .i64 a_Port)])] w R := by
  refine embrasureref03_May_call ?_
  unfold embrasureref03_May
  unfold embrasureref03_May_wp at hp
  refine newL (o := [(Value.int .u32 a_Host), (Value.int .i64 a_Port)]) h ?_
  intro b_1 w h
  refine ⟨_, cellL h 0 0 rfl rfl rfl, ?_⟩
  refine cond_both' hp (fun hp => ?_) (fun hp => ?_)
  · replace h := h.sel [] 1
    dsimp only [pickL, pickR, nthH, delH, dropH, List.cons_append, List.nil_append] at h
    exact hR false _ h hp
  refine ⟨_, cellL h 0 1 rfl rfl rfl, ?_⟩
  refine cond_both' hp (fun hp => ?_) (fun hp => ?_)
  · replace h := h.sel [] 1
    dsimp only [pickL, pickR, nthH, delH, dropH, List.cons_append, List.nil_append] at h
    exact hR false _ h hp
  refine ⟨_, cellL h 0 1 rfl rfl rfl, ?_⟩
  replace h := h.sel [] 1
  dsimp only [pickL, pickR, nthH, delH, dropH, List.cons_append, List.nil_append] at h
  exact hR (decide ((a_Port : Int) < 65536)) _ h hp

/-! embrasure/embrasurelaw27.May (8) -/
def embrasurelaw27_May_wp (l_1 : List (Int × Int)) (K : Bool → Prop) : Prop :=
  joinP0 (K (decide ((((l_1.length : Nat) : Int) : Int) ≤ 8))) (fun (Q : Prop) => ∃ (I : Nat → Int → Prop), (∃ (n_4 : Nat), I n_4 0) ∧ ∀ (n_2 : Nat) (i3 : Int), I n_2 i3 → (cond (decide ((i3 : Int) < ((l_1.length : Nat) : Int))) (0 ≤ (i3 : Int) ∧ (i3 : Int) < ((l_1.length : Nat) : Int) ∧ (∀ (x_1 : Int × Int), l_1[Int.toNat i3]? = some x_1 → (embrasureref03_May_wp x_1.1 x_1.2 (fun (r : Bool) => cond (!r) (K false) (∃ (n_3 : Nat), n_3 < n_2 ∧ I n_3 (IntKind.wrap .i64 (i3 + 1))))))) (Q )))
theorem embrasurelaw27_May_ok {p_1 : Option Addr} {n_1 : Nat} {c_1 : Nat} {l_1 : List (Int × Int)} {FL : List HP} {w : World} {K : Bool → Prop} {R : Value → World → Prop}
  (hF_l_1 : ∀ w, Mem FL w → Rd w 2 p_1 enc55 l_1) (hl_l_1 : n_1 = l_1.length) (hc_l_1 : n_1 ≤ c_1)
  (h : Mem (FL) w) (hp : embrasurelaw27_May_wp l_1 K)
  (hR : ∀ (r : Bool) (w : World), Mem (FL) w → K r → R (Value.bool r) w) :
  CallV Try.prog 8 #[(Value.slice p_1 n_1 c_1)] w R := by
  refine embrasurelaw27_May_call ?_
  unfold embrasurelaw27_May
  unfold embrasurelaw27_May_wp at hp
  subst hl_l_1
  obtain ⟨Q, hq, hp⟩ := hp
  refine ⟨fun l0p l0l l0c w => p_1 = l0p ∧ l_1.length = l0l ∧ c_1 = l0c ∧ Q ∧ Mem (FL) w, ?_, ?_⟩
  · rintro l0p l0l l0c w ⟨rfl, rfl, rfl, hp, h⟩
    replace hp := hq  hp
    unfold embrasurelaw27_May_j1
    exact hR (decide ((((l_1.length : Nat) : Int) : Int) ≤ 8)) _ h hp
  clear hq
  obtain ⟨I, ⟨n_4, h0⟩, hq⟩ := hp
  refine ⟨fun n_2 l0_1p l0_1l l0_1c i3 w => p_1 = l0_1p ∧ l_1.length = l0_1l ∧ c_1 = l0_1c ∧ I n_2 i3 ∧ Mem (FL) w, ⟨n_4, rfl, rfl, rfl, h0, h⟩, ?_⟩
  clear h0 h
  rintro n_2 l0_1p l0_1l l0_1c i3 w ⟨rfl, rfl, rfl, hp, h⟩
  replace hp := hq n_2 i3 hp
  clear hq
  unfold embrasurelaw27_May_l2
  refine cond_both' hp (fun hp => ?_) (fun hp => ?_)
  · exact ⟨rfl, rfl, rfl, hp, h⟩
  obtain ⟨ia_1, ja_1, hp⟩ := hp
  obtain ⟨a_1, ha_1⟩ := rdAddr (hF_l_1 _ (h.drop 0)) rfl ia_1 ja_1
  refine ⟨a_1, ha_1, ia_1, ja_1, ?_⟩
  obtain ⟨x_1, hx_1, hc⟩ := rdCell (hF_l_1 _ (h.drop 0)) ha_1 rfl ia_1 ja_1
  replace hp := hp x_1 hx_1
  refine ⟨_, hc 0 _ rfl, _, hc 1 _ rfl, ?_⟩
  refine embrasureref03_May_ok h hp ?_
  intro r w h hp
  refine ⟨_, rfl, ?_⟩
  refine cond_both hp (fun hp => ?_) (fun hp => ?_)
  · exact hR false _ h hp
  obtain ⟨n_3, hn, hp⟩ := hp
  exact ⟨n_3, hn, rfl, rfl, rfl, hp, h⟩

/-! embrasure/embrasureref05.Small (15) -/
def embrasureref05_Small_wp (m_Kind : Int) (m_Nums : List (Int)) (m_Addrs : List (Int × Int)) (m_Body : List (Int)) (K : Bool → Prop) : Prop :=
  cond (decide ((((m_Nums.length : Nat) : Int) : Int) ≤ 40)) (cond (decide ((((m_Addrs.length : Nat) : Int) : Int) ≤ 40)) (K (decide ((((m_Body.length : Nat) : Int) : Int) ≤ 3000))) (K false)) (K false)
theorem embrasureref05_Small_ok {p_1 : Option Addr} {n_1 : Nat} {c_1 : Nat} {p_2 : Option Addr} {n_2 : Nat} {c_2 : Nat} {p_3 : Option Addr} {n_3 : Nat} {c_3 : Nat} {m_Kind : Int} {m_Nums : List (Int)} {m_Addrs : List (Int × Int)} {m_Body : List (Int)} {FL : List HP} {w : World} {K : Bool → Prop} {R : Value → World → Prop}
  (hF_m_Nums : ∀ w, Mem FL w → Rd w 1 p_1 enc52 m_Nums) (hl_m_Nums : n_1 = m_Nums.length) (hc_m_Nums : n_1 ≤ c_1)
  (hF_m_Addrs : ∀ w, Mem FL w → Rd w 2 p_2 enc55 m_Addrs) (hl_m_Addrs : n_2 = m_Addrs.length) (hc_m_Addrs : n_2 ≤ c_2)
  (hF_m_Body : ∀ w, Mem FL w → Rd w 1 p_3 enc5 m_Body) (hl_m_Body : n_3 = m_Body.length) (hc_m_Body : n_3 ≤ c_3)
  (h : Mem (FL) w) (hp : embrasureref05_Small_wp m_Kind m_Nums m_Addrs m_Body K)
  (hR : ∀ (r : Bool) (w : World), Mem (FL) w → K r → R (Value.bool r) w) :
  CallV Try.prog 15 #[(Value.agg #[(Value.int .i64 m_Kind), (Value.slice p_1 n_1 c_1), (Value.slice p_2 n_2 c_2), (Value.slice p_3 n_3 c_3)])] w R := by
  refine embrasureref05_Small_call ?_
  unfold embrasureref05_Small
  unfold embrasureref05_Small_wp at hp
  subst hl_m_Nums
  subst hl_m_Addrs
  subst hl_m_Body
  refine newL (o := [(Value.int .i64 m_Kind), (Value.slice p_1 m_Nums.length c_1), (Value.slice p_2 m_Addrs.length c_2), (Value.slice p_3 m_Body.length c_3)]) h ?_
  intro b_1 w h
  refine ⟨_, _, _, cellL h 0 1 rfl rfl rfl, ?_⟩
  refine cond_both' hp (fun hp => ?_) (fun hp => ?_)
  · replace h := h.sel [] 1
    dsimp only [pickL, pickR, nthH, delH, dropH, List.cons_append, List.nil_append] at h
    exact hR false _ h hp
  refine ⟨_, _, _, cellL h 0 2 rfl rfl rfl, ?_⟩
  refine cond_both' hp (fun hp => ?_) (fun hp => ?_)
  · replace h := h.sel [] 1
    dsimp only [pickL, pickR, nthH, delH, dropH, List.cons_append, List.nil_append] at h
    exact hR false _ h hp
  refine ⟨_, _, _, cellL h 0 3 rfl rfl rfl, ?_⟩
  replace h := h.sel [] 1
  dsimp only [pickL, pickR, nthH, delH, dropH, List.cons_append, List.nil_append] at h
  exact hR (decide ((((m_Body.length : Nat) : Int) : Int) ≤ 3000)) _ h hp

/-! embrasure/embrasurelaw27.asks (16) -/
def embrasurelaw27_asks_wp (l_1 : List (Int × (Option Addr × Nat × Nat) × Int × (Option Addr × Nat × Nat) × (Option Addr × Nat × Nat) × (Option Addr × Nat × Nat))) (K : Int → Prop) : Prop :=
  ∃ (I : Nat → Int → Int → Prop), (∃ (n_5 : Nat), I n_5 0 0) ∧ ∀ (n_2 : Nat) (n3 : Int) (i4 : Int), I n_2 n3 i4 → (cond (decide ((i4 : Int) < ((l_1.length : Nat) : Int))) (joinP1 (fun (t25 : Bool) => cond t25 (∃ (n_3 : Nat), n_3 < n_2 ∧ I n_3 (IntKind.wrap .i64 (n3 + 1)) (IntKind.wrap .i64 (i4 + 1))) (∃ (n_4 : Nat), n_4 < n_2 ∧ I n_4 n3 (IntKind.wrap .i64 (i4 + 1)))) (fun (Q : Bool → Prop) => 0 ≤ (i4 : Int) ∧ (i4 : Int) < ((l_1.length : Nat) : Int) ∧ (∀ (x_1 : Int × (Option Addr × Nat × Nat) × Int × (Option Addr × Nat × Nat) × (Option Addr × Nat × Nat) × (Option Addr × Nat × Nat)), l_1[Int.toNat i4]? = some x_1 → (cond ((x_1.1 : Int) == 0) (0 ≤ (i4 : Int) ∧ (i4 : Int) < ((l_1.length : Nat) : Int) ∧ (∀ (x_2 : Int × (Option Addr × Nat × Nat) × Int × (Option Addr × Nat × Nat) × (Option Addr × Nat × Nat) × (Option Addr × Nat × Nat)), l_1[Int.toNat i4]? = some x_2 → (Q ((x_2.2.2.1 : Int) == 17)))) (Q false))))) (K n3))
theorem embrasurelaw27_asks_ok {p_1 : Option Addr} {n_1 : Nat} {c_1 : Nat} {l_1 : List (Int × (Option Addr × Nat × Nat) × Int × (Option Addr × Nat × Nat) × (Option Addr × Nat × Nat) × (Option Addr × Nat × Nat))} {FL : List HP} {w : World} {K : Int → Prop} {R : Value → World → Prop}
  (hF_l_1 : ∀ w, Mem FL w → Rd w 6 p_1 enc39 l_1) (hl_l_1 : n_1 = l_1.length) (hc_l_1 : n_1 ≤ c_1)
  (h : Mem (FL) w) (hp : embrasurelaw27_asks_wp l_1 K)
  (hR : ∀ (r : Int) (w : World), Mem (FL) w → K r → R (Value.int .i64 r) w) :
  CallV Try.prog 16 #[(Value.slice p_1 n_1 c_1)] w R := by
  refine embrasurelaw27_asks_call ?_
  unfold embrasurelaw27_asks
  unfold embrasurelaw27_asks_wp at hp
  subst hl_l_1
  obtain ⟨I, ⟨n_5, h0⟩, hq⟩ := hp
  refine ⟨fun n_2 l0p l0l l0c n3 i4 w => p_1 = l0p ∧ l_1.length = l0l ∧ c_1 = l0c ∧ I n_2 n3 i4 ∧ Mem (FL) w, ⟨n_5, rfl, rfl, rfl, h0, h⟩, ?_⟩
  clear h0 h
  rintro n_2 l0p l0l l0c n3 i4 w ⟨rfl, rfl, rfl, hp, h⟩
  replace hp := hq n_2 n3 i4 hp
  clear hq
  unfold embrasurelaw27_asks_l1
  refine cond_both' hp (fun hp => ?_) (fun hp => ?_)
  · exact hR n3 _ h hp
  obtain ⟨Q, hq, hp⟩ := hp
  refine ⟨fun l0_1p l0_1l l0_1c n3_1 i4_1 t25 w => p_1 = l0_1p ∧ l_1.length = l0_1l ∧ c_1 = l0_1c ∧ n3 = n3_1 ∧ i4 = i4_1 ∧ Q t25 ∧ Mem (FL) w, ?_, ?_⟩
  · rintro l0_1p l0_1l l0_1c n3_1 i4_1 t25 w ⟨rfl, rfl, rfl, rfl, rfl, hp, h⟩
    replace hp := hq t25 hp
    unfold embrasurelaw27_asks_j2
    refine cond_both hp (fun hp => ?_) (fun hp => ?_)
    · obtain ⟨n_3, hn, hp⟩ := hp
      exact ⟨n_3, hn, rfl, rfl, rfl, hp, h⟩
    obtain ⟨n_4, hn, hp⟩ := hp
    exact ⟨n_4, hn, rfl, rfl, rfl, hp, h⟩
  clear hq
  obtain ⟨ia_1, ja_1, hp⟩ := hp
  obtain ⟨a_1, ha_1⟩ := rdAddr (hF_l_1 _ (h.drop 0)) rfl ia_1 ja_1
  refine ⟨a_1, ha_1, ia_1, ja_1, ?_⟩
  obtain ⟨x_1, hx_1, hc⟩ := rdCell (hF_l_1 _ (h.drop 0)) ha_1 rfl ia_1 ja_1
  replace hp := hp x_1 hx_1
  refine ⟨_, hc 0 _ rfl, ?_⟩
  refine cond_both' hp (fun hp => ?_) (fun hp => ?_)
  · exact ⟨rfl, rfl, rfl, rfl, rfl, hp, h⟩
  obtain ⟨ia_2, ja_2, hp⟩ := hp
  obtain ⟨a_2, ha_2⟩ := rdAddr (hF_l_1 _ (h.drop 0)) rfl ia_2 ja_2
  refine ⟨a_2, ha_2, ia_2, ja_2, ?_⟩
  obtain ⟨x_2, hx_2, hc⟩ := rdCell2 (hF_l_1 _ (h.drop 0)) ha_2 rfl ia_2 ja_2
  replace hp := hp x_2 hx_2
  refine ⟨_, hc 2 0 _ rfl, ?_⟩
  exact ⟨rfl, rfl, rfl, rfl, rfl, hp, h⟩

/-! (*embrasure/punch.Puncher).State (14) -/
def punch_Puncher_State_wp (h_1 : Int) (h_2 : Bool) (h_3 : Int) (h_4 : Int) (h_5 : List (Int × Int)) (mean : Int) (dev : Int) (any : Bool) (now : Int) (K : Int → Bool → Int → Int → List (Int × Int) → Prop) : Prop :=
  slices_Clone_sl_api_Addr_api_Addr_wp h_5 (fun (rs : List (Int × Int)) => K h_1 h_2 h_3 h_4 rs)
theorem punch_Puncher_State_ok {b_1 : Nat} {p_1 : Option Addr} {c_1 : Nat} {p_2 : Option Addr} {n_1 : Nat} {c_2 : Nat} {b_2 : Nat} {p_3 : Option Addr} {n_2 : Nat} {c_3 : Nat} {h_1 : Int} {h_2 : Bool} {h_3 : Int} {h_4 : Int} {h_5 : List (Int × Int)} {mean : Int} {dev : Int} {any : Bool} {now : Int} {FL : List HP} {w : World} {K : Int → Bool → Int → Int → List (Int × Int) → Prop} {R : Value → World → Prop}
  (h : Mem (cel b_1 64 [(Value.int .i64 h_1), (Value.bool h_2), (Value.int .i64 h_3), (Value.int .i64 h_4), (Value.slice p_1 h_5.length c_1), (Value.slice p_2 n_1 c_2), (Value.pointer (some (Addr.mk b_2 0 none))), (Value.int .i64 now)] :: row enc55 55 2 p_1 c_1 h_5 :: cel b_2 74 [(Value.slice p_3 n_2 c_3), (Value.int .i64 mean), (Value.int .i64 dev), (Value.bool any)] :: FL) w) (hp : punch_Puncher_State_wp h_1 h_2 h_3 h_4 h_5 mean dev any now K)
  (hR : ∀ (r : Int) (r_1 : Bool) (r_2 : Int) (r_3 : Int) (rs : List (Int × Int)) (p_4 : Option Addr) (n_3 : Nat) (c_4 : Nat) (w : World), n_3 = rs.length → Mem (row enc55 55 2 p_4 c_4 rs :: cel b_1 64 [(Value.int .i64 h_1), (Value.bool h_2), (Value.int .i64 h_3), (Value.int .i64 h_4), (Value.slice p_1 h_5.length c_1), (Value.slice p_2 n_1 c_2), (Value.pointer (some (Addr.mk b_2 0 none))), (Value.int .i64 now)] :: row enc55 55 2 p_1 c_1 h_5 :: cel b_2 74 [(Value.slice p_3 n_2 c_3), (Value.int .i64 mean), (Value.int .i64 dev), (Value.bool any)] :: FL) w → K r r_1 r_2 r_3 rs → R (Value.agg #[(Value.int .i64 r), (Value.bool r_1), (Value.int .i64 r_2), (Value.int .i64 r_3), (Value.slice p_4 n_3 c_4)]) w) :
  CallV Try.prog 14 #[(Value.pointer (some (Addr.mk b_1 0 none)))] w R := by
  refine punch_Puncher_State_call ?_
  unfold punch_Puncher_State
  unfold punch_Puncher_State_wp at hp
  have cpp_1 := rowCap h 1 rfl
  refine newL (o := [(Value.int .i64 0), (Value.bool false), (Value.int .i64 0), (Value.int .i64 0), (Value.slice none 0 0)]) h ?_
  intro b_3 w h
  refine ⟨_, rfl, ?_⟩
  refine ⟨_, cellL h 1 0 rfl rfl rfl, _, cellL h 1 1 rfl rfl rfl, _, cellL h 1 2 rfl rfl rfl, _, cellL h 1 3 rfl rfl rfl, _, _, _, cellL h 1 4 rfl rfl rfl, ?_⟩
  refine newL (o := [(Value.int .i64 0), (Value.bool false), (Value.int .i64 0), (Value.int .i64 0), (Value.slice none 0 0)]) h ?_
  intro b_4 w h
  refine storeL (ys := [(Value.int .i64 h_1), (Value.bool h_2), (Value.int .i64 h_3), (Value.int .i64 h_4), (Value.slice p_1 h_5.length c_1)]) h 0 0 rfl rfl rfl sz42 rfl rfl ?_
  intro w h
  dsimp only [setH, setVs, setV] at h
  refine ⟨_, rfl, ?_⟩
  refine ⟨_, _, _, cellL h 2 4 rfl rfl rfl, ?_⟩
  refine slices_Clone_sl_api_Addr_api_Addr_ok (FL := cel b_4 42 [(Value.int .i64 h_1), (Value.bool h_2), (Value.int .i64 h_3), (Value.int .i64 h_4), (Value.slice p_1 h_5.length c_1)] :: cel b_3 42 [(Value.int .i64 0), (Value.bool false), (Value.int .i64 0), (Value.int .i64 0), (Value.slice none 0 0)] :: cel b_1 64 [(Value.int .i64 h_1), (Value.bool h_2), (Value.int .i64 h_3), (Value.int .i64 h_4), (Value.slice p_1 h_5.length c_1), (Value.slice p_2 n_1 c_2), (Value.pointer (some (Addr.mk b_2 0 none))), (Value.int .i64 now)] :: row enc55 55 2 p_1 c_1 h_5 :: cel b_2 74 [(Value.slice p_3 n_2 c_3), (Value.int .i64 mean), (Value.int .i64 dev), (Value.bool any)] :: FL) (fun w h => (rowRd h 3 encL55 rfl)) rfl cpp_1 h hp ?_
  rintro rs p_4 n_3 c_4 w rfl h hp
  have cpp_4 := rowCap h 0 rfl
  refine ⟨_, _, _, rfl, ?_⟩
  refine storeL (ys := [(Value.slice p_4 rs.length c_4)]) h 1 4 rfl rfl rfl sz22 rfl rfl ?_
  intro w h
  dsimp only [setH, setVs, setV] at h
  refine ⟨_, cellL h 1 0 rfl rfl rfl, _, cellL h 1 1 rfl rfl rfl, _, cellL h 1 2 rfl rfl rfl, _, cellL h 1 3 rfl rfl rfl, _, _, _, cellL h 1 4 rfl rfl rfl, ?_⟩
  refine storeL (ys := [(Value.int .i64 h_1), (Value.bool h_2), (Value.int .i64 h_3), (Value.int .i64 h_4), (Value.slice p_4 rs.length c_4)]) h 2 0 rfl rfl rfl sz42 rfl rfl ?_
  intro w h
  dsimp only [setH, setVs, setV] at h
  refine ⟨_, cellL h 2 0 rfl rfl rfl, _, cellL h 2 1 rfl rfl rfl, _, cellL h 2 2 rfl rfl rfl, _, cellL h 2 3 rfl rfl rfl, _, _, _, cellL h 2 4 rfl rfl rfl, ?_⟩
  replace h := h.sel [0, 2, 2, 2] 2
  dsimp only [pickL, pickR, nthH, delH, dropH, List.cons_append, List.nil_append] at h
  exact hR h_1 h_2 h_3 h_4 rs p_4 rs.length c_4 _ rfl h hp

/-! embrasure/embrasurelaw27.PunchEnds (4) -/
def embrasurelaw27_PunchEnds_wp (own : List (Int × Int)) (script : List (Int × Int × Int × (List (Int)) × (List (Int × Int)) × (List (Int)))) (m_1 : List ((Option Addr × Nat × Nat) × List (Int))) (m_2 : List ((Option Addr × Nat × Nat) × List (Int))) (m_3 : List ((Option Addr × Nat × Nat) × List (Int × Int))) (K : Bool → List ((Option Addr × Nat × Nat) × List (Int)) → List ((Option Addr × Nat × Nat) × List (Int)) → List ((Option Addr × Nat × Nat) × List (Int × Int)) → Prop) : Prop :=
  embrasurelaw27_awake_wp (fun (r : Bool) => cond (!r) (K false m_1 m_2 m_3) (embrasurelaw27_May_wp own (fun (r_1 : Bool) => cond (!r_1) (K true m_1 m_2 m_3) (punch_New_wp own (fun (r_2 : Int) => joinP1 (fun (t28 : Bool) => cond t28 (K false m_1 m_2 m_3) (False)) (fun (Q : Bool → Prop) => Q true)) (fun (r_3 : Int) (h_1 : Int) (h_2 : Bool) (h_3 : Int) (h_4 : Int) (h_5 : List (Int × Int)) (own_1 : List (Int × Int)) (marks : List (Int × Int)) (mean : Int) (dev : Int) (any : Bool) (now : Int) => joinP1 (fun (t28_1 : Bool) => cond t28_1 (K false m_1 m_2 m_3) (punch_Puncher_Begin_wp h_1 h_2 h_3 h_4 own_1 marks mean dev any now 0 m_1 m_2 m_3 (fun (rs : List (Int × (Option Addr × Nat × Nat) × Int × (Option Addr × Nat × Nat) × (Option Addr × Nat × Nat) × (Option Addr × Nat × Nat))) (h_6 : Int) (h_7 : Bool) (h_8 : Int) (h_9 : Int) (now_1 : Int) (marks_1 : List (Int × Int)) (m_7 : List ((Option Addr × Nat × Nat) × List (Int))) (m_8 : List ((Option Addr × Nat × Nat) × List (Int))) (m_9 : List ((Option Addr × Nat × Nat) × List (Int × Int))) => joinP14 (fun (h_10 : Int) (h_11 : Int) (h_12 : Int) (h_13 : List (Int × Int)) (now_2 : Int) (marks_2 : List (Int × Int)) (mean_1 : Int) (dev_1 : Int) (any_1 : Bool) (told7 : Int) (now8 : Int) (m_10 : List ((Option Addr × Nat × Nat) × List (Int))) (m_11 : List ((Option Addr × Nat × Nat) × List (Int))) (m_12 : List ((Option Addr × Nat × Nat) × List (Int × Int))) => joinP10 (fun (h_25 : Int) (h_26 : Int) (h_27 : Int) (now_6 : Int) (marks_6 : List (Int × Int)) (told7_3 : Int) (now8_3 : Int) (m_22 : List ((Option Addr × Nat × Nat) × List (Int))) (m_23 : List ((Option Addr × Nat × Nat) × List (Int))) (m_24 : List ((Option Addr × Nat × Nat) × List (Int × Int))) => punch_Puncher_State_wp h_25 h_7 h_26 h_27 h_13 mean_1 dev_1 any_1 now_6 (fun (r_7 : Int) (r_8 : Bool) (r_9 : Int) (r_10 : Int) (rs_4 : List (Int × Int)) => cond (decide ((told7_3 : Int) ≤ 3)) (cond ((r_7 : Int) == 5) (cond ((r_10 : Int) == 0) (punch_Puncher_Tick_wp h_25 h_7 h_26 h_27 h_13 own_1 marks_6 mean_1 dev_1 any_1 now_6 (IntKind.wrap .i64 (now8_3 + 20000)) m_22 m_23 m_24 (fun (rs_5 : List (Int × (Option Addr × Nat × Nat) × Int × (Option Addr × Nat × Nat) × (Option Addr × Nat × Nat) × (Option Addr × Nat × Nat))) (h_34 : Int) (h_35 : Int) (h_36 : Int) (now_9 : Int) (marks_9 : List (Int × Int)) (m_31 : List ((Option Addr × Nat × Nat) × List (Int))) (m_32 : List ((Option Addr × Nat × Nat) × List (Int))) (m_33 : List ((Option Addr × Nat × Nat) × List (Int × Int))) => K ((((rs_5.length : Nat) : Int) : Int) == 0) m_31 m_32 m_33)) (K false m_22 m_23 m_24)) (K false m_22 m_23 m_24)) (K false m_22 m_23 m_24))) (fun (Q_4 : Int → Int → Int → Int → List (Int × Int) → Int → Int → List ((Option Addr × Nat × Nat) × List (Int)) → List ((Option Addr × Nat × Nat) × List (Int)) → List ((Option Addr × Nat × Nat) × List (Int × Int)) → Prop) => ∃ (I_1 : Nat → Int → Int → Int → Int → List (Int × Int) → Int → Int → Int → List ((Option Addr × Nat × Nat) × List (Int)) → List ((Option Addr × Nat × Nat) × List (Int)) → List ((Option Addr × Nat × Nat) × List (Int × Int)) → Prop), (∃ (n_27 : Nat), I_1 n_27 h_10 h_11 h_12 now_2 marks_2 told7 now8 0 m_10 m_11 m_12) ∧ ∀ (n_23 : Nat) (h_28 : Int) (h_29 : Int) (h_30 : Int) (now_7 : Int) (marks_7 : List (Int × Int)) (told7_4 : Int) (now8_4 : Int) (i11 : Int) (m_25 : List ((Option Addr × Nat × Nat) × List (Int))) (m_26 : List ((Option Addr × Nat × Nat) × List (Int))) (m_27 : List ((Option Addr × Nat × Nat) × List (Int × Int))), I_1 n_23 h_28 h_29 h_30 now_7 marks_7 told7_4 now8_4 i11 m_25 m_26 m_27 → (cond (decide ((i11 : Int) < 12)) (punch_Puncher_Tick_wp h_28 h_7 h_29 h_30 h_13 own_1 marks_7 mean_1 dev_1 any_1 now_7 (IntKind.wrap .i64 (now8_4 + 20000)) m_25 m_26 m_27 (fun (rs_3 : List (Int × (Option Addr × Nat × Nat) × Int × (Option Addr × Nat × Nat) × (Option Addr × Nat × Nat) × (Option Addr × Nat × Nat))) (h_31 : Int) (h_32 : Int) (h_33 : Int) (now_8 : Int) (marks_8 : List (Int × Int)) (m_28 : List ((Option Addr × Nat × Nat) × List (Int))) (m_29 : List ((Option Addr × Nat × Nat) × List (Int))) (m_30 : List ((Option Addr × Nat × Nat) × List (Int × Int))) => embrasurelaw27_asks_wp rs_3 (fun (r_6 : Int) => ∃ (n_26 : Nat), n_26 < n_23 ∧ I_1 n_26 h_31 h_32 h_33 now_8 marks_8 (IntKind.wrap .i64 (told7_4 + r_6)) (IntKind.wrap .i64 (now8_4 + 20000)) (IntKind.wrap .i64 (i11 + 1)) m_28 m_29 m_30))) (Q_4 h_28 h_29 h_30 now_7 marks_7 told7_4 now8_4 m_25 m_26 m_27)))) (fun (Q_2 : Int → Int → Int → List (Int × Int) → Int → List (Int × Int) → Int → Int → Bool → Int → Int → List ((Option Addr × Nat × Nat) × List (Int)) → List ((Option Addr × Nat × Nat) × List (Int)) → List ((Option Addr × Nat × Nat) × List (Int × Int)) → Prop) => ∃ (I : Nat → Int → Int → Int → List (Int × Int) → Int → List (Int × Int) → Int → Int → Bool → Int → Int → Int → List ((Option Addr × Nat × Nat) × List (Int)) → List ((Option Addr × Nat × Nat) × List (Int)) → List ((Option Addr × Nat × Nat) × List (Int × Int)) → Prop), (∃ (n_20 : Nat), I n_20 h_6 h_8 h_9 h_5 now_1 marks_1 mean dev any 1 0 0 m_7 m_8 m_9) ∧ ∀ (n_12 : Nat) (h_14 : Int) (h_15 : Int) (h_16 : Int) (h_17 : List (Int × Int)) (now_3 : Int) (marks_3 : List (Int × Int)) (mean_2 : Int) (dev_2 : Int) (any_2 : Bool) (told7_1 : Int) (now8_1 : Int) (i9 : Int) (m_13 : List ((Option Addr × Nat × Nat) × List (Int))) (m_14 : List ((Option Addr × Nat × Nat) × List (Int))) (m_15 : List ((Option Addr × Nat × Nat) × List (Int × Int))), I n_12 h_14 h_15 h_16 h_17 now_3 marks_3 mean_2 dev_2 any_2 told7_1 now8_1 i9 m_13 m_14 m_15 → (joinP1 (fun (t38 : Bool) => cond t38 (0 ≤ (i9 : Int) ∧ (i9 : Int) < ((script.length : Nat) : Int) ∧ (∀ (x_1 : Int × Int × Int × (List (Int)) × (List (Int × Int)) × (List (Int))), script[Int.toNat i9]? = some x_1 → (embrasureref05_Small_wp x_1.2.2.1 x_1.2.2.2.1 x_1.2.2.2.2.1 x_1.2.2.2.2.2 (fun (r_4 : Bool) => cond (!r_4) (K true m_13 m_14 m_15) (cond ((x_1.1 : Int) == 2) (punch_Puncher_Hear_wp h_14 h_7 h_15 h_16 h_17 own_1 marks_3 mean_2 dev_2 any_2 now_3 (IntKind.wrap .i64 (now8_1 + (if (100 : Int) < (if (0 : Int) > x_1.2.1 then 0 else x_1.2.1) then 100 else (if (0 : Int) > x_1.2.1 then 0 else x_1.2.1)))) x_1.2.2.1 x_1.2.2.2.1 x_1.2.2.2.2.1 x_1.2.2.2.2.2 m_13 m_14 m_15 (fun (rs_1 : List (Int × (Option Addr × Nat × Nat) × Int × (Option Addr × Nat × Nat) × (Option Addr × Nat × Nat) × (Option Addr × Nat × Nat))) (h_18 : Int) (h_19 : Int) (h_20 : Int) (h_21 : List (Int × Int)) (now_4 : Int) (marks_4 : List (Int × Int)) (mean_3 : Int) (dev_3 : Int) (any_3 : Bool) (m_16 : List ((Option Addr × Nat × Nat) × List (Int))) (m_17 : List ((Option Addr × Nat × Nat) × List (Int))) (m_18 : List ((Option Addr × Nat × Nat) × List (Int × Int))) => ∃ (n_16 : Nat), n_16 < n_12 ∧ I n_16 h_18 h_19 h_20 h_21 now_4 marks_4 mean_3 dev_3 any_3 told7_1 (IntKind.wrap .i64 (now8_1 + (if (100 : Int) < (if (0 : Int) > x_1.2.1 then 0 else x_1.2.1) then 100 else (if (0 : Int) > x_1.2.1 then 0 else x_1.2.1)))) (IntKind.wrap .i64 (i9 + 1)) m_16 m_17 m_18)) (punch_Puncher_Tick_wp h_14 h_7 h_15 h_16 h_17 own_1 marks_3 mean_2 dev_2 any_2 now_3 (IntKind.wrap .i64 (now8_1 + (if (100 : Int) < (if (0 : Int) > x_1.2.1 then 0 else x_1.2.1) then 100 else (if (0 : Int) > x_1.2.1 then 0 else x_1.2.1)))) m_13 m_14 m_15 (fun (rs_2 : List (Int × (Option Addr × Nat × Nat) × Int × (Option Addr × Nat × Nat) × (Option Addr × Nat × Nat) × (Option Addr × Nat × Nat))) (h_22 : Int) (h_23 : Int) (h_24 : Int) (now_5 : Int) (marks_5 : List (Int × Int)) (m_19 : List ((Option Addr × Nat × Nat) × List (Int))) (m_20 : List ((Option Addr × Nat × Nat) × List (Int))) (m_21 : List ((Option Addr × Nat × Nat) × List (Int × Int))) => embrasurelaw27_asks_wp rs_2 (fun (r_5 : Int) => ∃ (n_19 : Nat), n_19 < n_12 ∧ I n_19 h_22 h_23 h_24 h_17 now_5 marks_5 mean_2 dev_2 any_2 (IntKind.wrap .i64 (told7_1 + r_5)) (IntKind.wrap .i64 (now8_1 + (if (100 : Int) < (if (0 : Int) > x_1.2.1 then 0 else x_1.2.1) then 100 else (if (0 : Int) > x_1.2.1 then 0 else x_1.2.1)))) (IntKind.wrap .i64 (i9 + 1)) m_19 m_20 m_21)))))))) (Q_2 h_14 h_15 h_16 h_17 now_3 marks_3 mean_2 dev_2 any_2 told7_1 now8_1 m_13 m_14 m_15)) (fun (Q_3 : Bool → Prop) => cond (decide ((i9 : Int) < ((script.length : Nat) : Int))) (Q_3 (decide ((i9 : Int) < 60))) (Q_3 false))))))) (fun (Q_1 : Bool → Prop) => Q_1 ((r_3 : Int) != 0)))))))
theorem embrasurelaw27_PunchEnds_ok {p_1 : Option Addr} {n_1 : Nat} {c_1 : Nat} {p_2 : Option Addr} {n_2 : Nat} {c_2 : Nat} {own : List (Int × Int)} {script : List (Int × Int × Int × (List (Int)) × (List (Int × Int)) × (List (Int)))} {m_1 : List ((Option Addr × Nat × Nat) × List (Int))} {m_2 : List ((Option Addr × Nat × Nat) × List (Int))} {m_3 : List ((Option Addr × Nat × Nat) × List (Int × Int))} {FL : List HP} {w : World} {K : Bool → List ((Option Addr × Nat × Nat) × List (Int)) → List ((Option Addr × Nat × Nat) × List (Int)) → List ((Option Addr × Nat × Nat) × List (Int × Int)) → Prop} {R : Value → World → Prop}
  (hF_own : ∀ w, Mem FL w → Rd w 2 p_1 enc55 own) (hl_own : n_1 = own.length) (hc_own : n_1 ≤ c_1)
  (hF_script : ∀ w, Mem FL w → RdD w 6 p_2 (encR47 FL) script) (hl_script : n_2 = script.length) (hc_script : n_2 ≤ c_2)
  (h : Mem (poolP enc5 5 1 m_1 :: poolP enc52 52 1 m_2 :: poolP enc55 55 2 m_3 :: FL) w) (hp : embrasurelaw27_PunchEnds_wp own script m_1 m_2 m_3 K)
  (hR : ∀ (r : Bool) (m_4 : List ((Option Addr × Nat × Nat) × List (Int))) (m_5 : List ((Option Addr × Nat × Nat) × List (Int))) (m_6 : List ((Option Addr × Nat × Nat) × List (Int × Int))) (w : World), Mem (poolP enc5 5 1 m_4 :: poolP enc52 52 1 m_5 :: poolP enc55 55 2 m_6 :: FL) w → K r m_4 m_5 m_6 → R (Value.bool r) w) :
  CallV Try.prog 4 #[(Value.slice p_1 n_1 c_1), (Value.slice p_2 n_2 c_2)] w R := by
  refine embrasurelaw27_PunchEnds_call ?_
  unfold embrasurelaw27_PunchEnds
  unfold embrasurelaw27_PunchEnds_wp at hp
  subst hl_own
  subst hl_script
  refine embrasurelaw27_awake_ok h hp ?_
  intro r w h hp
  refine ⟨_, rfl, ?_⟩
  refine cond_both hp (fun hp => ?_) (fun hp => ?_)
  · exact hR false m_1 m_2 m_3 _ h hp
  refine embrasurelaw27_May_ok (FL := poolP enc5 5 1 m_1 :: poolP enc52 52 1 m_2 :: poolP enc55 55 2 m_3 :: FL) (fun w h => (hF_own _ (h.drop 3))) rfl hc_own h hp ?_
  intro r_1 w h hp
  refine ⟨_, rfl, ?_⟩
  refine cond_both hp (fun hp => ?_) (fun hp => ?_)
  · exact hR true m_1 m_2 m_3 _ h hp
  refine punch_New_ok (FL := poolP enc5 5 1 m_1 :: poolP enc52 52 1 m_2 :: poolP enc55 55 2 m_3 :: FL) (fun w h => (hF_own _ (h.drop 3))) rfl hc_own h hp ?_ ?_
  · intro r_2 w h hp
    refine ⟨_, _, rfl, ?_⟩
    refine ⟨_, rfl, ?_⟩
    refine ⟨_, rfl, ?_⟩
    obtain ⟨Q, hq, hp⟩ := hp
    refine ⟨fun script1p script1l script1c p5 t28 w => p_2 = script1p ∧ script.length = script1l ∧ c_2 = script1c ∧ none = p5 ∧ Q t28 ∧ Mem (poolP enc5 5 1 m_1 :: poolP enc52 52 1 m_2 :: poolP enc55 55 2 m_3 :: FL) w, ?_, ?_⟩
    · rintro script1p script1l script1c p5 t28 w ⟨rfl, rfl, rfl, rfl, hp, h⟩
      replace hp := hq t28 hp
      unfold embrasurelaw27_PunchEnds_j1
      refine cond_both hp (fun hp => ?_) (fun hp => ?_)
      · exact hR false m_1 m_2 m_3 _ h hp
      exact hp.elim
    clear hq
    refine eqlPtrNN undP27 ?_
    refine ⟨_, rfl, ?_⟩
    refine cond_tt ?_
    exact ⟨rfl, rfl, rfl, rfl, hp, h⟩
  rintro r_3 h_1 h_2 h_3 h_4 h_5 own_1 marks mean dev any now b_1 p_3 n_3 c_3 p_4 n_4 c_4 b_2 p_5 n_5 c_5 w rfl rfl rfl h hp
  have cpp_3 := rowCap h 1 rfl
  have cpp_4 := rowCap h 2 rfl
  have cpp_5 := rowCap h 4 rfl
  refine ⟨_, _, rfl, ?_⟩
  refine ⟨_, rfl, ?_⟩
  refine ⟨_, rfl, ?_⟩
  obtain ⟨Q_1, hq, hp⟩ := hp
  refine ⟨fun script1_1p script1_1l script1_1c p5_1 t28_1 w => p_2 = script1_1p ∧ script.length = script1_1l ∧ c_2 = script1_1c ∧ (some (Addr.mk b_1 0 none)) = p5_1 ∧ Q_1 t28_1 ∧ Mem (cel b_1 64 [(Value.int .i64 h_1), (Value.bool h_2), (Value.int .i64 h_3), (Value.int .i64 h_4), (Value.slice p_3 h_5.length c_3), (Value.slice p_4 own_1.length c_4), (Value.pointer (some (Addr.mk b_2 0 none))), (Value.int .i64 now)] :: row enc55 55 2 p_3 c_3 h_5 :: row enc55 55 2 p_4 c_4 own_1 :: cel b_2 74 [(Value.slice p_5 marks.length c_5), (Value.int .i64 mean), (Value.int .i64 dev), (Value.bool any)] :: row enc86 86 2 p_5 c_5 marks :: poolP enc5 5 1 m_1 :: poolP enc52 52 1 m_2 :: poolP enc55 55 2 m_3 :: FL) w, ?_, ?_⟩
  · rintro script1_1p script1_1l script1_1c p5_1 t28_1 w ⟨rfl, rfl, rfl, rfl, hp, h⟩
    replace hp := hq t28_1 hp
    unfold embrasurelaw27_PunchEnds_j1
    refine cond_both hp (fun hp => ?_) (fun hp => ?_)
    · replace h := h.sel [5, 5, 5] 5
      dsimp only [pickL, pickR, nthH, delH, dropH, List.cons_append, List.nil_append] at h
      exact hR false m_1 m_2 m_3 _ h hp
    replace h := h.pick [0, 1, 1, 1, 1, 1, 1]
    dsimp only [pickL, pickR, nthH, delH, dropH, List.cons_append, List.nil_append] at h
    refine punch_Puncher_Begin_ok h hp ?_
    rintro rs h_6 h_7 h_8 h_9 now_1 marks_1 m_7 m_8 m_9 p_6 n_6 c_6 p_7 n_7 c_7 w rfl rfl h hp
    have cpp_6 := rowCap h 0 rfl
    have cpp_4 := rowCap h 2 rfl
    have cpp_7 := rowCap h 4 rfl
    refine ⟨_, _, _, rfl, ?_⟩
    obtain ⟨Q_2, hq, hp⟩ := hp
    refine ⟨fun p5_2 told7 now8 w => ∃ (h_10 : Int), ∃ (h_11 : Int), ∃ (h_12 : Int), ∃ (h_13 : List (Int × Int)), ∃ (p_8 : Option Addr), ∃ (n_8 : Nat), ∃ (c_8 : Nat), ∃ (now_2 : Int), ∃ (marks_2 : List (Int × Int)), ∃ (p_9 : Option Addr), ∃ (n_9 : Nat), ∃ (c_9 : Nat), ∃ (mean_1 : Int), ∃ (dev_1 : Int), ∃ (any_1 : Bool), ∃ (m_10 : List ((Option Addr × Nat × Nat) × List (Int))), ∃ (m_11 : List ((Option Addr × Nat × Nat) × List (Int))), ∃ (m_12 : List ((Option Addr × Nat × Nat) × List (Int × Int))), (some (Addr.mk b_1 0 none)) = p5_2 ∧ n_8 = h_13.length ∧ n_9 = marks_2.length ∧ Q_2 h_10 h_11 h_12 h_13 now_2 marks_2 mean_1 dev_1 any_1 told7 now8 m_10 m_11 m_12 ∧ Mem (cel b_1 64 [(Value.int .i64 h_10), (Value.bool h_7), (Value.int .i64 h_11), (Value.int .i64 h_12), (Value.slice p_8 n_8 c_8), (Value.slice p_4 own_1.length c_4), (Value.pointer (some (Addr.mk b_2 0 none))), (Value.int .i64 now_2)] :: row enc55 55 2 p_8 c_8 h_13 :: row enc55 55 2 p_4 c_4 own_1 :: cel b_2 74 [(Value.slice p_9 n_9 c_9), (Value.int .i64 mean_1), (Value.int .i64 dev_1), (Value.bool any_1)] :: row enc86 86 2 p_9 c_9 marks_2 :: poolP enc5 5 1 m_10 :: poolP enc52 52 1 m_11 :: poolP enc55 55 2 m_12 :: FL) w, ?_, ?_⟩
    · rintro p5_2 told7 now8 w ⟨h_10, h_11, h_12, h_13, p_8, n_8, c_8, now_2, marks_2, p_9, n_9, c_9, mean_1, dev_1, any_1, m_10, m_11, m_12, rfl, rfl, rfl, hp, h⟩
      replace hp := hq h_10 h_11 h_12 h_13 now_2 marks_2 mean_1 dev_1 any_1 told7 now8 m_10 m_11 m_12 hp
      unfold embrasurelaw27_PunchEnds_j2
      have cpp_8 := rowCap h 1 rfl
      have cpp_9 := rowCap h 4 rfl
      obtain ⟨Q_4, hq, hp⟩ := hp
      refine ⟨fun p5_5 told7_3 now8_3 w => ∃ (h_25 : Int), ∃ (h_26 : Int), ∃ (h_27 : Int), ∃ (now_6 : Int), ∃ (marks_6 : List (Int × Int)), ∃ (p_17 : Option Addr), ∃ (n_21 : Nat), ∃ (c_17 : Nat), ∃ (m_22 : List ((Option Addr × Nat × Nat) × List (Int))), ∃ (m_23 : List ((Option Addr × Nat × Nat) × List (Int))), ∃ (m_24 : List ((Option Addr × Nat × Nat) × List (Int × Int))), (some (Addr.mk b_1 0 none)) = p5_5 ∧ n_21 = marks_6.length ∧ Q_4 h_25 h_26 h_27 now_6 marks_6 told7_3 now8_3 m_22 m_23 m_24 ∧ Mem (cel b_1 64 [(Value.int .i64 h_25), (Value.bool h_7), (Value.int .i64 h_26), (Value.int .i64 h_27), (Value.slice p_8 h_13.length c_8), (Value.slice p_4 own_1.length c_4), (Value.pointer (some (Addr.mk b_2 0 none))), (Value.int .i64 now_6)] :: row enc55 55 2 p_8 c_8 h_13 :: row enc55 55 2 p_4 c_4 own_1 :: cel b_2 74 [(Value.slice p_17 n_21 c_17), (Value.int .i64 mean_1), (Value.int .i64 dev_1), (Value.bool any_1)] :: row enc86 86 2 p_17 c_17 marks_6 :: poolP enc5 5 1 m_22 :: poolP enc52 52 1 m_23 :: poolP enc55 55 2 m_24 :: FL) w, ?_, ?_⟩
      · rintro p5_5 told7_3 now8_3 w ⟨h_25, h_26, h_27, now_6, marks_6, p_17, n_21, c_17, m_22, m_23, m_24, rfl, rfl, hp, h⟩
        replace hp := hq h_25 h_26 h_27 now_6 marks_6 told7_3 now8_3 m_22 m_23 m_24 hp
        unfold embrasurelaw27_PunchEnds_j3
        have cpp_17 := rowCap h 4 rfl
        replace h := h.pick [0, 0, 1]
        dsimp only [pickL, pickR, nthH, delH, dropH, List.cons_append, List.nil_append] at h
        refine punch_Puncher_State_ok h hp ?_
        rintro r_7 r_8 r_9 r_10 rs_4 p_21 n_28 c_21 w rfl h hp
        have cpp_21 := rowCap h 0 rfl
        have cpp_8 := rowCap h 2 rfl
        refine ⟨_, _, _, _, _, _, _, rfl, ?_⟩
        refine newL (o := [(Value.int .i64 0), (Value.bool false), (Value.int .i64 0), (Value.int .i64 0), (Value.slice none 0 0)]) h ?_
        intro b_4 w h
        refine storeL (ys := [(Value.int .i64 r_7), (Value.bool r_8), (Value.int .i64 r_9), (Value.int .i64 r_10), (Value.slice p_21 rs_4.length c_21)]) h 0 0 rfl rfl rfl sz42 rfl rfl ?_
        intro w h
        dsimp only [setH, setVs, setV] at h
        refine cond_both' hp (fun hp => ?_) (fun hp => ?_)
        · replace h := h.sel [7, 7, 7] 7
          dsimp only [pickL, pickR, nthH, delH, dropH, List.cons_append, List.nil_append] at h
          exact hR false m_22 m_23 m_24 _ h hp
        refine ⟨_, cellL h 0 0 rfl rfl rfl, ?_⟩
        refine cond_both' hp (fun hp => ?_) (fun hp => ?_)
        · replace h := h.sel [7, 7, 7] 7
          dsimp only [pickL, pickR, nthH, delH, dropH, List.cons_append, List.nil_append] at h
          exact hR false m_22 m_23 m_24 _ h hp
        refine ⟨_, cellL h 0 3 rfl rfl rfl, ?_⟩
        refine cond_both' hp (fun hp => ?_) (fun hp => ?_)
        · replace h := h.sel [7, 7, 7] 7
          dsimp only [pickL, pickR, nthH, delH, dropH, List.cons_append, List.nil_append] at h
          exact hR false m_22 m_23 m_24 _ h hp
        replace h := h.pick [2, 2, 3, 2, 2, 2, 2, 2]
        dsimp only [pickL, pickR, nthH, delH, dropH, List.cons_append, List.nil_append] at h
        refine punch_Puncher_Tick_ok h hp ?_
        rintro rs_5 h_34 h_35 h_36 now_9 marks_9 m_31 m_32 m_33 p_22 n_29 c_22 p_23 n_30 c_23 w rfl rfl h hp
        have cpp_22 := rowCap h 0 rfl
        have cpp_8 := rowCap h 2 rfl
        have cpp_4 := rowCap h 3 rfl
        have cpp_23 := rowCap h 5 rfl
        refine ⟨_, _, _, rfl, ?_⟩
        replace h := h.sel [6, 6, 6] 8
        dsimp only [pickL, pickR, nthH, delH, dropH, List.cons_append, List.nil_append] at h
        exact hR ((((rs_5.length : Nat) : Int) : Int) == 0) m_31 m_32 m_33 _ h hp
      clear hq
      obtain ⟨I_1, ⟨n_27, h0⟩, hq⟩ := hp
      refine ⟨fun n_23 p5_6 told7_4 now8_4 i11 w => ∃ (h_28 : Int), ∃ (h_29 : Int), ∃ (h_30 : Int), ∃ (now_7 : Int), ∃ (marks_7 : List (Int × Int)), ∃ (p_18 : Option Addr), ∃ (n_22 : Nat), ∃ (c_18 : Nat), ∃ (m_25 : List ((Option Addr × Nat × Nat) × List (Int))), ∃ (m_26 : List ((Option Addr × Nat × Nat) × List (Int))), ∃ (m_27 : List ((Option Addr × Nat × Nat) × List (Int × Int))), (some (Addr.mk b_1 0 none)) = p5_6 ∧ n_22 = marks_7.length ∧ I_1 n_23 h_28 h_29 h_30 now_7 marks_7 told7_4 now8_4 i11 m_25 m_26 m_27 ∧ Mem (cel b_1 64 [(Value.int .i64 h_28), (Value.bool h_7), (Value.int .i64 h_29), (Value.int .i64 h_30), (Value.slice p_8 h_13.length c_8), (Value.slice p_4 own_1.length c_4), (Value.pointer (some (Addr.mk b_2 0 none))), (Value.int .i64 now_7)] :: row enc55 55 2 p_8 c_8 h_13 :: row enc55 55 2 p_4 c_4 own_1 :: cel b_2 74 [(Value.slice p_18 n_22 c_18), (Value.int .i64 mean_1), (Value.int .i64 dev_1), (Value.bool any_1)] :: row enc86 86 2 p_18 c_18 marks_7 :: poolP enc5 5 1 m_25 :: poolP enc52 52 1 m_26 :: poolP enc55 55 2 m_27 :: FL) w, ⟨n_27, h_10, h_11, h_12, now_2, marks_2, p_9, marks_2.length, c_9, m_10, m_11, m_12, rfl, rfl, h0, h⟩, ?_⟩
      clear h0 h
      rintro n_23 p5_6 told7_4 now8_4 i11 w ⟨h_28, h_29, h_30, now_7, marks_7, p_18, n_22, c_18, m_25, m_26, m_27, rfl, rfl, hp, h⟩
      replace hp := hq n_23 h_28 h_29 h_30 now_7 marks_7 told7_4 now8_4 i11 m_25 m_26 m_27 hp
      clear hq
      unfold embrasurelaw27_PunchEnds_l4
      have cpp_18 := rowCap h 4 rfl
      refine cond_both' hp (fun hp => ?_) (fun hp => ?_)
      · exact ⟨h_28, h_29, h_30, now_7, marks_7, p_18, marks_7.length, c_18, m_25, m_26, m_27, rfl, rfl, hp, h⟩
      refine punch_Puncher_Tick_ok h hp ?_
      rintro rs_3 h_31 h_32 h_33 now_8 marks_8 m_28 m_29 m_30 p_19 n_24 c_19 p_20 n_25 c_20 w rfl rfl h hp
      have cpp_19 := rowCap h 0 rfl
      have cpp_8 := rowCap h 2 rfl
      have cpp_4 := rowCap h 3 rfl
      have cpp_20 := rowCap h 5 rfl
      refine ⟨_, _, _, rfl, ?_⟩
      refine embrasurelaw27_asks_ok (FL := row enc39 39 6 p_19 c_19 rs_3 :: cel b_1 64 [(Value.int .i64 h_31), (Value.bool h_7), (Value.int .i64 h_32), (Value.int .i64 h_33), (Value.slice p_8 h_13.length c_8), (Value.slice p_4 own_1.length c_4), (Value.pointer (some (Addr.mk b_2 0 none))), (Value.int .i64 now_8)] :: row enc55 55 2 p_8 c_8 h_13 :: row enc55 55 2 p_4 c_4 own_1 :: cel b_2 74 [(Value.slice p_20 marks_8.length c_20), (Value.int .i64 mean_1), (Value.int .i64 dev_1), (Value.bool any_1)] :: row enc86 86 2 p_20 c_20 marks_8 :: poolP enc5 5 1 m_28 :: poolP enc52 52 1 m_29 :: poolP enc55 55 2 m_30 :: FL) (fun w h => (rowRd h 0 encL39 rfl)) rfl cpp_19 h hp ?_
      intro r_6 w h hp
      refine ⟨_, rfl, ?_⟩
      replace h := h.sel [1, 1, 1, 1, 1, 1, 1, 1] 1
      dsimp only [pickL, pickR, nthH, delH, dropH, List.cons_append, List.nil_append] at h
      obtain ⟨n_26, hn, hp⟩ := hp
      exact ⟨n_26, hn, h_31, h_32, h_33, now_8, marks_8, p_20, marks_8.length, c_20, m_28, m_29, m_30, rfl, rfl, hp, h⟩
    clear hq
    obtain ⟨I, ⟨n_20, h0⟩, hq⟩ := hp
    replace h := h.sel [1, 7, 1, 1, 1, 1, 1, 1] 1
    dsimp only [pickL, pickR, nthH, delH, dropH, List.cons_append, List.nil_append] at h
    refine ⟨fun n_12 script1_2p script1_2l script1_2c p5_3 told7_1 now8_1 i9 w => ∃ (h_14 : Int), ∃ (h_15 : Int), ∃ (h_16 : Int), ∃ (h_17 : List (Int × Int)), ∃ (p_10 : Option Addr), ∃ (n_10 : Nat), ∃ (c_10 : Nat), ∃ (now_3 : Int), ∃ (marks_3 : List (Int × Int)), ∃ (p_11 : Option Addr), ∃ (n_11 : Nat), ∃ (c_11 : Nat), ∃ (mean_2 : Int), ∃ (dev_2 : Int), ∃ (any_2 : Bool), ∃ (m_13 : List ((Option Addr × Nat × Nat) × List (Int))), ∃ (m_14 : List ((Option Addr × Nat × Nat) × List (Int))), ∃ (m_15 : List ((Option Addr × Nat × Nat) × List (Int × Int))), p_2 = script1_2p ∧ script.length = script1_2l ∧ c_2 = script1_2c ∧ (some (Addr.mk b_1 0 none)) = p5_3 ∧ n_10 = h_17.length ∧ n_11 = marks_3.length ∧ I n_12 h_14 h_15 h_16 h_17 now_3 marks_3 mean_2 dev_2 any_2 told7_1 now8_1 i9 m_13 m_14 m_15 ∧ Mem (cel b_1 64 [(Value.int .i64 h_14), (Value.bool h_7), (Value.int .i64 h_15), (Value.int .i64 h_16), (Value.slice p_10 n_10 c_10), (Value.slice p_4 own_1.length c_4), (Value.pointer (some (Addr.mk b_2 0 none))), (Value.int .i64 now_3)] :: row enc55 55 2 p_10 c_10 h_17 :: row enc55 55 2 p_4 c_4 own_1 :: cel b_2 74 [(Value.slice p_11 n_11 c_11), (Value.int .i64 mean_2), (Value.int .i64 dev_2), (Value.bool any_2)] :: row enc86 86 2 p_11 c_11 marks_3 :: poolP enc5 5 1 m_13 :: poolP enc52 52 1 m_14 :: poolP enc55 55 2 m_15 :: FL) w, ⟨n_20, h_6, h_8, h_9, h_5, p_3, h_5.length, c_3, now_1, marks_1, p_7, marks_1.length, c_7, mean, dev, any, m_7, m_8, m_9, rfl, rfl, rfl, rfl, rfl, rfl, h0, h⟩, ?_⟩
    clear h0 h
    rintro n_12 script1_2p script1_2l script1_2c p5_3 told7_1 now8_1 i9 w ⟨h_14, h_15, h_16, h_17, p_10, n_10, c_10, now_3, marks_3, p_11, n_11, c_11, mean_2, dev_2, any_2, m_13, m_14, m_15, rfl, rfl, rfl, rfl, rfl, rfl, hp, h⟩
    replace hp := hq n_12 h_14 h_15 h_16 h_17 now_3 marks_3 mean_2 dev_2 any_2 told7_1 now8_1 i9 m_13 m_14 m_15 hp
    clear hq
    unfold embrasurelaw27_PunchEnds_l5
    have cpp_10 := rowCap h 1 rfl
    have cpp_11 := rowCap h 4 rfl
    obtain ⟨Q_3, hq, hp⟩ := hp
    refine ⟨fun script1_3p script1_3l script1_3c p5_4 told7_2 now8_2 i9_1 t38 w => p_2 = script1_3p ∧ script.length = script1_3l ∧ c_2 = script1_3c ∧ (some (Addr.mk b_1 0 none)) = p5_4 ∧ told7_1 = told7_2 ∧ now8_1 = now8_2 ∧ i9 = i9_1 ∧ Q_3 t38 ∧ Mem (cel b_1 64 [(Value.int .i64 h_14), (Value.bool h_7), (Value.int .i64 h_15), (Value.int .i64 h_16), (Value.slice p_10 h_17.length c_10), (Value.slice p_4 own_1.length c_4), (Value.pointer (some (Addr.mk b_2 0 none))), (Value.int .i64 now_3)] :: row enc55 55 2 p_10 c_10 h_17 :: row enc55 55 2 p_4 c_4 own_1 :: cel b_2 74 [(Value.slice p_11 marks_3.length c_11), (Value.int .i64 mean_2), (Value.int .i64 dev_2), (Value.bool any_2)] :: row enc86 86 2 p_11 c_11 marks_3 :: poolP enc5 5 1 m_13 :: poolP enc52 52 1 m_14 :: poolP enc55 55 2 m_15 :: FL) w, ?_, ?_⟩
    · rintro script1_3p script1_3l script1_3c p5_4 told7_2 now8_2 i9_1 t38 w ⟨rfl, rfl, rfl, rfl, rfl, rfl, rfl, hp, h⟩
      replace hp := hq t38 hp
      unfold embrasurelaw27_PunchEnds_j6
      refine cond_both' hp (fun hp => ?_) (fun hp => ?_)
      · exact ⟨h_14, h_15, h_16, h_17, p_10, h_17.length, c_10, now_3, marks_3, p_11, marks_3.length, c_11, mean_2, dev_2, any_2, m_13, m_14, m_15, rfl, rfl, rfl, hp, h⟩
      obtain ⟨ia_1, ja_1, hp⟩ := hp
      obtain ⟨a_1, ha_1⟩ := rdAddrD (hF_script _ (h.drop 8)) rfl ia_1 ja_1
      refine ⟨a_1, ha_1, ia_1, ja_1, ?_⟩
      obtain ⟨x_1, hx_1, cs, hR, hc0, hc1, hc2⟩ := rdCellD (hF_script _ (h.drop 8)) ha_1 rfl ia_1 ja_1
      replace hp := hp x_1 hx_1
      obtain ⟨qp3, qn3, qc3, qp4, qn4, qc4, qp5, qn5, qc5, rfl, rfl, hc_qp3, hF_qp3, rfl, hc_qp4, hF_qp4, rfl, hc_qp5, hF_qp5⟩ := hR
      refine ⟨_, hc1 0 _ rfl, _, hc1 1 _ rfl, _, hc1 2 _ rfl, _, _, _, hc1 3 _ rfl, _, _, _, hc1 4 _ rfl, _, _, _, hc1 5 _ rfl, ?_⟩
      refine newL (o := [(Value.int .i64 0), (Value.int .i64 0), (Value.int .i64 0), (Value.slice none 0 0), (Value.slice none 0 0), (Value.slice none 0 0)]) h ?_
      intro b_3 w h
      refine storeL (ys := [(Value.int .i64 x_1.1), (Value.int .i64 x_1.2.1), (Value.int .i64 x_1.2.2.1), (Value.slice qp3 x_1.2.2.2.1.length qc3), (Value.slice qp4 x_1.2.2.2.2.1.length qc4), (Value.slice qp5 x_1.2.2.2.2.2.length qc5)]) h 0 0 rfl rfl rfl sz47 rfl rfl ?_
      intro w h
      dsimp only [setH, setVs, setV] at h
      refine ⟨_, cellL h 0 2 rfl rfl rfl, _, _, _, cellL h 0 3 rfl rfl rfl, _, _, _, cellL h 0 4 rfl rfl rfl, _, _, _, cellL h 0 5 rfl rfl rfl, ?_⟩
      refine embrasureref05_Small_ok (FL := cel b_3 47 [(Value.int .i64 x_1.1), (Value.int .i64 x_1.2.1), (Value.int .i64 x_1.2.2.1), (Value.slice qp3 x_1.2.2.2.1.length qc3), (Value.slice qp4 x_1.2.2.2.2.1.length qc4), (Value.slice qp5 x_1.2.2.2.2.2.length qc5)] :: cel b_1 64 [(Value.int .i64 h_14), (Value.bool h_7), (Value.int .i64 h_15), (Value.int .i64 h_16), (Value.slice p_10 h_17.length c_10), (Value.slice p_4 own_1.length c_4), (Value.pointer (some (Addr.mk b_2 0 none))), (Value.int .i64 now_3)] :: row enc55 55 2 p_10 c_10 h_17 :: row enc55 55 2 p_4 c_4 own_1 :: cel b_2 74 [(Value.slice p_11 marks_3.length c_11), (Value.int .i64 mean_2), (Value.int .i64 dev_2), (Value.bool any_2)] :: row enc86 86 2 p_11 c_11 marks_3 :: poolP enc5 5 1 m_13 :: poolP enc52 52 1 m_14 :: poolP enc55 55 2 m_15 :: FL) (fun w h => (hF_qp3 _ (h.drop 9))) rfl hc_qp3 (fun w h => (hF_qp4 _ (h.drop 9))) rfl hc_qp4 (fun w h => (hF_qp5 _ (h.drop 9))) rfl hc_qp5 h hp ?_
      intro r_4 w h hp
      refine ⟨_, rfl, ?_⟩
      refine cond_both hp (fun hp => ?_) (fun hp => ?_)
      · replace h := h.sel [6, 6, 6] 6
        dsimp only [pickL, pickR, nthH, delH, dropH, List.cons_append, List.nil_append] at h
        exact hR true m_13 m_14 m_15 _ h hp
      refine ⟨_, cellL h 0 1 rfl rfl rfl, ?_⟩
      refine ⟨_, cellL h 0 0 rfl rfl rfl, ?_⟩
      refine cond_both hp (fun hp => ?_) (fun hp => ?_)
      · refine ⟨_, cellL h 0 2 rfl rfl rfl, _, _, _, cellL h 0 3 rfl rfl rfl, _, _, _, cellL h 0 4 rfl rfl rfl, _, _, _, cellL h 0 5 rfl rfl rfl, ?_⟩
        replace h := h.pick [1, 1, 1, 1, 1, 1, 1, 1]
        dsimp only [pickL, pickR, nthH, delH, dropH, List.cons_append, List.nil_append] at h
        refine punch_Puncher_Hear_ok (FL := cel b_3 47 [(Value.int .i64 x_1.1), (Value.int .i64 x_1.2.1), (Value.int .i64 x_1.2.2.1), (Value.slice qp3 x_1.2.2.2.1.length qc3), (Value.slice qp4 x_1.2.2.2.2.1.length qc4), (Value.slice qp5 x_1.2.2.2.2.2.length qc5)] :: FL) (fun w h => (hF_qp3 _ (h.drop 4))) rfl hc_qp3 (fun w h => (hF_qp4 _ (h.drop 4))) rfl hc_qp4 (fun w h => (hF_qp5 _ (h.drop 4))) rfl hc_qp5 h hp ?_
        rintro rs_1 h_18 h_19 h_20 h_21 now_4 marks_4 mean_3 dev_3 any_3 m_16 m_17 m_18 p_12 n_13 c_12 p_13 n_14 c_13 p_14 n_15 c_14 w rfl rfl rfl h hp
        have cpp_12 := rowCap h 0 rfl
        have cpp_13 := rowCap h 2 rfl
        have cpp_4 := rowCap h 3 rfl
        have cpp_14 := rowCap h 5 rfl
        refine ⟨_, _, _, rfl, ?_⟩
        replace h := h.sel [1, 1, 1, 1, 1, 1, 1, 1] 2
        dsimp only [pickL, pickR, nthH, delH, dropH, List.cons_append, List.nil_append] at h
        obtain ⟨n_16, hn, hp⟩ := hp
        exact ⟨n_16, hn, h_18, h_19, h_20, h_21, p_13, h_21.length, c_13, now_4, marks_4, p_14, marks_4.length, c_14, mean_3, dev_3, any_3, m_16, m_17, m_18, rfl, rfl, rfl, rfl, rfl, rfl, hp, h⟩
      replace h := h.pick [1, 1, 1, 1, 1, 1, 1, 1]
      dsimp only [pickL, pickR, nthH, delH, dropH, List.cons_append, List.nil_append] at h
      refine punch_Puncher_Tick_ok h hp ?_
      rintro rs_2 h_22 h_23 h_24 now_5 marks_5 m_19 m_20 m_21 p_15 n_17 c_15 p_16 n_18 c_16 w rfl rfl h hp
      have cpp_15 := rowCap h 0 rfl
      have cpp_10 := rowCap h 2 rfl
      have cpp_4 := rowCap h 3 rfl
      have cpp_16 := rowCap h 5 rfl
      refine ⟨_, _, _, rfl, ?_⟩
      refine embrasurelaw27_asks_ok (FL := row enc39 39 6 p_15 c_15 rs_2 :: cel b_1 64 [(Value.int .i64 h_22), (Value.bool h_7), (Value.int .i64 h_23), (Value.int .i64 h_24), (Value.slice p_10 h_17.length c_10), (Value.slice p_4 own_1.length c_4), (Value.pointer (some (Addr.mk b_2 0 none))), (Value.int .i64 now_5)] :: row enc55 55 2 p_10 c_10 h_17 :: row enc55 55 2 p_4 c_4 own_1 :: cel b_2 74 [(Value.slice p_16 marks_5.length c_16), (Value.int .i64 mean_2), (Value.int .i64 dev_2), (Value.bool any_2)] :: row enc86 86 2 p_16 c_16 marks_5 :: poolP enc5 5 1 m_19 :: poolP enc52 52 1 m_20 :: poolP enc55 55 2 m_21 :: cel b_3 47 [(Value.int .i64 x_1.1), (Value.int .i64 x_1.2.1), (Value.int .i64 x_1.2.2.1), (Value.slice qp3 x_1.2.2.2.1.length qc3), (Value.slice qp4 x_1.2.2.2.2.1.length qc4), (Value.slice qp5 x_1.2.2.2.2.2.length qc5)] :: FL) (fun w h => (rowRd h 0 encL39 rfl)) rfl cpp_15 h hp ?_
      intro r_5 w h hp
      refine ⟨_, rfl, ?_⟩
      replace h := h.sel [1, 1, 1, 1, 1, 1, 1, 1] 2
      dsimp only [pickL, pickR, nthH, delH, dropH, List.cons_append, List.nil_append] at h
      obtain ⟨n_19, hn, hp⟩ := hp
      exact ⟨n_19, hn, h_22, h_23, h_24, h_17, p_10, h_17.length, c_10, now_5, marks_5, p_16, marks_5.length, c_16, mean_2, dev_2, any_2, m_19, m_20, m_21, rfl, rfl, rfl, rfl, rfl, rfl, hp, h⟩
    clear hq
    refine cond_both hp (fun hp => ?_) (fun hp => ?_)
    · exact ⟨rfl, rfl, rfl, rfl, rfl, rfl, rfl, hp, h⟩
    exact ⟨rfl, rfl, rfl, rfl, rfl, rfl, rfl, hp, h⟩
  clear hq
  refine eqlPtrNil undP27 ?_
  refine ⟨_, rfl, ?_⟩
  refine cond_ff ?_
  exact ⟨rfl, rfl, rfl, rfl, hp, h⟩

/-! (*embrasure/punch.Puncher).Meet (17) -/
def punch_Puncher_Meet_wp (h_1 : Int) (h_2 : Bool) (h_3 : Int) (h_4 : Int) (mean : Int) (dev : Int) (any : Bool) (now : Int) (K : Int → Int → Prop) : Prop :=
  K 4 0
theorem punch_Puncher_Meet_ok {b_1 : Nat} {p_1 : Option Addr} {n_1 : Nat} {c_1 : Nat} {p_2 : Option Addr} {n_2 : Nat} {c_2 : Nat} {b_2 : Nat} {p_3 : Option Addr} {n_3 : Nat} {c_3 : Nat} {h_1 : Int} {h_2 : Bool} {h_3 : Int} {h_4 : Int} {mean : Int} {dev : Int} {any : Bool} {now : Int} {FL : List HP} {w : World} {K : Int → Int → Prop} {R : Value → World → Prop}
  (h : Mem (cel b_1 64 [(Value.int .i64 h_1), (Value.bool h_2), (Value.int .i64 h_3), (Value.int .i64 h_4), (Value.slice p_1 n_1 c_1), (Value.slice p_2 n_2 c_2), (Value.pointer (some (Addr.mk b_2 0 none))), (Value.int .i64 now)] :: cel b_2 74 [(Value.slice p_3 n_3 c_3), (Value.int .i64 mean), (Value.int .i64 dev), (Value.bool any)] :: FL) w) (hp : punch_Puncher_Meet_wp h_1 h_2 h_3 h_4 mean dev any now K)
  (hR : ∀ (h_5 : Int) (h_6 : Int) (w : World), Mem (cel b_1 64 [(Value.int .i64 h_5), (Value.bool h_2), (Value.int .i64 h_3), (Value.int .i64 h_6), (Value.slice p_1 n_1 c_1), (Value.slice p_2 n_2 c_2), (Value.pointer (some (Addr.mk b_2 0 none))), (Value.int .i64 now)] :: cel b_2 74 [(Value.slice p_3 n_3 c_3), (Value.int .i64 mean), (Value.int .i64 dev), (Value.bool any)] :: FL) w → K h_5 h_6 → R undef w) :
  CallV Try.prog 17 #[(Value.pointer (some (Addr.mk b_1 0 none)))] w R := by
  refine punch_Puncher_Meet_call ?_
  unfold punch_Puncher_Meet
  unfold punch_Puncher_Meet_wp at hp
  refine ⟨_, rfl, ?_⟩
  refine storeL (ys := [(Value.int .i64 4)]) h 0 0 rfl rfl rfl sz3 rfl rfl ?_
  intro w h
  dsimp only [setH, setVs, setV] at h
  refine ⟨_, rfl, ?_⟩
  refine storeL (ys := [(Value.int .i64 0)]) h 0 3 rfl rfl rfl sz3 rfl rfl ?_
  intro w h
  dsimp only [setH, setVs, setV] at h
  exact hR 4 0 _ h hp

/-! embrasure/embrasurelaw27.PunchMet (6) -/
def embrasurelaw27_PunchMet_wp (own : List (Int × Int)) (first : Bool) (script : List (Int × Int × Int × (List (Int)) × (List (Int × Int)) × (List (Int)))) (m_1 : List ((Option Addr × Nat × Nat) × List (Int))) (m_2 : List ((Option Addr × Nat × Nat) × List (Int))) (m_3 : List ((Option Addr × Nat × Nat) × List (Int × Int))) (K : Bool → List ((Option Addr × Nat × Nat) × List (Int)) → List ((Option Addr × Nat × Nat) × List (Int)) → List ((Option Addr × Nat × Nat) × List (Int × Int)) → Prop) : Prop :=
  embrasurelaw27_awake_wp (fun (r : Bool) => cond (!r) (K false m_1 m_2 m_3) (embrasurelaw27_May_wp own (fun (r_1 : Bool) => cond (!r_1) (K true m_1 m_2 m_3) (punch_New_wp own (fun (r_2 : Int) => joinP1 (fun (t30 : Bool) => cond t30 (K false m_1 m_2 m_3) (cond first (False) (False))) (fun (Q : Bool → Prop) => Q true)) (fun (r_3 : Int) (h_1 : Int) (h_2 : Bool) (h_3 : Int) (h_4 : Int) (h_5 : List (Int × Int)) (own_1 : List (Int × Int)) (marks : List (Int × Int)) (mean : Int) (dev : Int) (any : Bool) (now : Int) => joinP1 (fun (t30_1 : Bool) => cond t30_1 (K false m_1 m_2 m_3) (joinP10 (fun (h_6 : Int) (h_7 : Bool) (h_8 : Int) (h_9 : Int) (now_1 : Int) (marks_1 : List (Int × Int)) (now9_1 : Int) (m_7 : List ((Option Addr × Nat × Nat) × List (Int))) (m_8 : List ((Option Addr × Nat × Nat) × List (Int))) (m_9 : List ((Option Addr × Nat × Nat) × List (Int × Int))) => punch_Puncher_State_wp h_6 h_7 h_8 h_9 h_5 mean dev any now_1 (fun (r_8 : Int) (r_9 : Bool) (r_10 : Int) (r_11 : Int) (rs_3 : List (Int × Int)) => ∃ (I_1 : Nat → Int → Bool → Int → Int → List (Int × Int) → Int → List (Int × Int) → Int → Int → Bool → Int → Int → List ((Option Addr × Nat × Nat) × List (Int)) → List ((Option Addr × Nat × Nat) × List (Int)) → List ((Option Addr × Nat × Nat) × List (Int × Int)) → Prop), (∃ (n_33 : Nat), I_1 n_33 h_6 h_7 h_8 h_9 h_5 now_1 marks_1 mean dev any now9_1 0 m_7 m_8 m_9) ∧ ∀ (n_20 : Nat) (h_25 : Int) (h_26 : Bool) (h_27 : Int) (h_28 : Int) (h_29 : List (Int × Int)) (now_6 : Int) (marks_6 : List (Int × Int)) (mean_1 : Int) (dev_1 : Int) (any_1 : Bool) (now9_4 : Int) (i12 : Int) (m_22 : List ((Option Addr × Nat × Nat) × List (Int))) (m_23 : List ((Option Addr × Nat × Nat) × List (Int))) (m_24 : List ((Option Addr × Nat × Nat) × List (Int × Int))), I_1 n_20 h_25 h_26 h_27 h_28 h_29 now_6 marks_6 mean_1 dev_1 any_1 now9_4 i12 m_22 m_23 m_24 → (joinP1 (fun (t58 : Bool) => cond t58 (0 ≤ (i12 : Int) ∧ (i12 : Int) < ((script.length : Nat) : Int) ∧ (∀ (x_1 : Int × Int × Int × (List (Int)) × (List (Int × Int)) × (List (Int))), script[Int.toNat i12]? = some x_1 → (joinP1 (fun (t89 : Bool) => cond t89 (K true m_22 m_23 m_24) (joinP14 (fun (h_30 : Int) (h_31 : Bool) (h_32 : Int) (h_33 : Int) (h_34 : List (Int × Int)) (now_7 : Int) (marks_7 : List (Int × Int)) (mean_2 : Int) (dev_2 : Int) (any_2 : Bool) (n14 : Int) (m_25 : List ((Option Addr × Nat × Nat) × List (Int))) (m_26 : List ((Option Addr × Nat × Nat) × List (Int))) (m_27 : List ((Option Addr × Nat × Nat) × List (Int × Int))) => joinP1 (fun (t127 : Bool) => cond t127 (K false m_25 m_26 m_27) (∃ (n_32 : Nat), n_32 < n_20 ∧ I_1 n_32 h_30 h_31 h_32 h_33 h_34 now_7 marks_7 mean_2 dev_2 any_2 (IntKind.wrap .i64 (now9_4 + (if (1000 : Int) < (if (0 : Int) > x_1.2.1 then 0 else x_1.2.1) then 1000 else (if (0 : Int) > x_1.2.1 then 0 else x_1.2.1)))) (IntKind.wrap .i64 (i12 + 1)) m_25 m_26 m_27)) (fun (Q_8 : Bool → Prop) => cond ((n14 : Int) != 0) (Q_8 true) (punch_Puncher_State_wp h_30 h_31 h_32 h_33 h_34 mean_2 dev_2 any_2 now_7 (fun (r_12 : Int) (r_13 : Bool) (r_14 : Int) (r_15 : Int) (rs_7 : List (Int × Int)) => cond ((r_12 : Int) != r_8) (Q_8 true) (punch_Puncher_State_wp h_30 h_31 h_32 h_33 h_34 mean_2 dev_2 any_2 now_7 (fun (r_16 : Int) (r_17 : Bool) (r_18 : Int) (r_19 : Int) (rs_8 : List (Int × Int)) => Q_8 ((r_19 : Int) != 0))))))) (fun (Q_7 : Int → Bool → Int → Int → List (Int × Int) → Int → List (Int × Int) → Int → Int → Bool → Int → List ((Option Addr × Nat × Nat) × List (Int)) → List ((Option Addr × Nat × Nat) × List (Int)) → List ((Option Addr × Nat × Nat) × List (Int × Int)) → Prop) => cond ((x_1.1 : Int) == 0) (punch_Puncher_Begin_wp h_25 h_26 h_27 h_28 own_1 marks_6 mean_1 dev_1 any_1 now_6 (IntKind.wrap .i64 (now9_4 + (if (1000 : Int) < (if (0 : Int) > x_1.2.1 then 0 else x_1.2.1) then 1000 else (if (0 : Int) > x_1.2.1 then 0 else x_1.2.1)))) m_22 m_23 m_24 (fun (rs_4 : List (Int × (Option Addr × Nat × Nat) × Int × (Option Addr × Nat × Nat) × (Option Addr × Nat × Nat) × (Option Addr × Nat × Nat))) (h_35 : Int) (h_36 : Bool) (h_37 : Int) (h_38 : Int) (now_8 : Int) (marks_8 : List (Int × Int)) (m_28 : List ((Option Addr × Nat × Nat) × List (Int))) (m_29 : List ((Option Addr × Nat × Nat) × List (Int))) (m_30 : List ((Option Addr × Nat × Nat) × List (Int × Int))) => Q_7 h_35 h_36 h_37 h_38 h_29 now_8 marks_8 mean_1 dev_1 any_1 ((rs_4.length : Nat) : Int) m_28 m_29 m_30)) (cond ((x_1.1 : Int) == 1) (punch_Puncher_Tick_wp h_25 h_26 h_27 h_28 h_29 own_1 marks_6 mean_1 dev_1 any_1 now_6 (IntKind.wrap .i64 (now9_4 + (if (1000 : Int) < (if (0 : Int) > x_1.2.1 then 0 else x_1.2.1) then 1000 else (if (0 : Int) > x_1.2.1 then 0 else x_1.2.1)))) m_22 m_23 m_24 (fun (rs_5 : List (Int × (Option Addr × Nat × Nat) × Int × (Option Addr × Nat × Nat) × (Option Addr × Nat × Nat) × (Option Addr × Nat × Nat))) (h_39 : Int) (h_40 : Int) (h_41 : Int) (now_9 : Int) (marks_9 : List (Int × Int)) (m_31 : List ((Option Addr × Nat × Nat) × List (Int))) (m_32 : List ((Option Addr × Nat × Nat) × List (Int))) (m_33 : List ((Option Addr × Nat × Nat) × List (Int × Int))) => Q_7 h_39 h_26 h_40 h_41 h_29 now_9 marks_9 mean_1 dev_1 any_1 ((rs_5.length : Nat) : Int) m_31 m_32 m_33)) (cond ((x_1.1 : Int) == 2) (punch_Puncher_Hear_wp h_25 h_26 h_27 h_28 h_29 own_1 marks_6 mean_1 dev_1 any_1 now_6 (IntKind.wrap .i64 (now9_4 + (if (1000 : Int) < (if (0 : Int) > x_1.2.1 then 0 else x_1.2.1) then 1000 else (if (0 : Int) > x_1.2.1 then 0 else x_1.2.1)))) x_1.2.2.1 x_1.2.2.2.1 x_1.2.2.2.2.1 x_1.2.2.2.2.2 m_22 m_23 m_24 (fun (rs_6 : List (Int × (Option Addr × Nat × Nat) × Int × (Option Addr × Nat × Nat) × (Option Addr × Nat × Nat) × (Option Addr × Nat × Nat))) (h_42 : Int) (h_43 : Int) (h_44 : Int) (h_45 : List (Int × Int)) (now_10 : Int) (marks_10 : List (Int × Int)) (mean_3 : Int) (dev_3 : Int) (any_3 : Bool) (m_34 : List ((Option Addr × Nat × Nat) × List (Int))) (m_35 : List ((Option Addr × Nat × Nat) × List (Int))) (m_36 : List ((Option Addr × Nat × Nat) × List (Int × Int))) => Q_7 h_42 h_26 h_43 h_44 h_45 now_10 marks_10 mean_3 dev_3 any_3 ((rs_6.length : Nat) : Int) m_34 m_35 m_36)) (Q_7 h_25 h_26 h_27 h_28 h_29 now_6 marks_6 mean_1 dev_1 any_1 0 m_22 m_23 m_24)))))) (fun (Q_6 : Bool → Prop) => cond (decide ((((x_1.2.2.2.1.length : Nat) : Int) : Int) > 40)) (Q_6 true) (cond (decide ((((x_1.2.2.2.2.1.length : Nat) : Int) : Int) > 40)) (Q_6 true) (Q_6 (decide ((((x_1.2.2.2.2.2.length : Nat) : Int) : Int) > 3000)))))))) (K true m_22 m_23 m_24)) (fun (Q_5 : Bool → Prop) => cond (decide ((i12 : Int) < ((script.length : Nat) : Int))) (Q_5 (decide ((i12 : Int) < 60))) (Q_5 false))))) (fun (Q_3 : Int → Bool → Int → Int → Int → List (Int × Int) → Int → List ((Option Addr × Nat × Nat) × List (Int)) → List ((Option Addr × Nat × Nat) × List (Int)) → List ((Option Addr × Nat × Nat) × List (Int × Int)) → Prop) => cond first (punch_Puncher_Begin_wp h_1 h_2 h_3 h_4 own_1 marks mean dev any now 0 m_1 m_2 m_3 (fun (rs : List (Int × (Option Addr × Nat × Nat) × Int × (Option Addr × Nat × Nat) × (Option Addr × Nat × Nat) × (Option Addr × Nat × Nat))) (h_10 : Int) (h_11 : Bool) (h_12 : Int) (h_13 : Int) (now_2 : Int) (marks_2 : List (Int × Int)) (m_10 : List ((Option Addr × Nat × Nat) × List (Int))) (m_11 : List ((Option Addr × Nat × Nat) × List (Int))) (m_12 : List ((Option Addr × Nat × Nat) × List (Int × Int))) => joinP9 (fun (h_14 : Int) (h_15 : Int) (h_16 : Int) (now_3 : Int) (marks_3 : List (Int × Int)) (now9_2 : Int) (m_13 : List ((Option Addr × Nat × Nat) × List (Int))) (m_14 : List ((Option Addr × Nat × Nat) × List (Int))) (m_15 : List ((Option Addr × Nat × Nat) × List (Int × Int))) => punch_Puncher_State_wp h_14 h_11 h_15 h_16 h_5 mean dev any now_3 (fun (r_4 : Int) (r_5 : Bool) (r_6 : Int) (r_7 : Int) (rs_2 : List (Int × Int)) => cond ((r_4 : Int) != 5) (K false m_13 m_14 m_15) (Q_3 h_14 h_11 h_15 h_16 now_3 marks_3 now9_2 m_13 m_14 m_15))) (fun (Q_4 : Int → Int → Int → Int → List (Int × Int) → Int → List ((Option Addr × Nat × Nat) × List (Int)) → List ((Option Addr × Nat × Nat) × List (Int)) → List ((Option Addr × Nat × Nat) × List (Int × Int)) → Prop) => ∃ (I : Nat → Int → Int → Int → Int → List (Int × Int) → Int → Int → List ((Option Addr × Nat × Nat) × List (Int)) → List ((Option Addr × Nat × Nat) × List (Int)) → List ((Option Addr × Nat × Nat) × List (Int × Int)) → Prop), (∃ (n_15 : Nat), I n_15 h_10 h_12 h_13 now_2 marks_2 0 0 m_10 m_11 m_12) ∧ ∀ (n_11 : Nat) (h_17 : Int) (h_18 : Int) (h_19 : Int) (now_4 : Int) (marks_4 : List (Int × Int)) (now9_3 : Int) (i10 : Int) (m_16 : List ((Option Addr × Nat × Nat) × List (Int))) (m_17 : List ((Option Addr × Nat × Nat) × List (Int))) (m_18 : List ((Option Addr × Nat × Nat) × List (Int × Int))), I n_11 h_17 h_18 h_19 now_4 marks_4 now9_3 i10 m_16 m_17 m_18 → (cond (decide ((i10 : Int) < 12)) (punch_Puncher_Tick_wp h_17 h_11 h_18 h_19 h_5 own_1 marks_4 mean dev any now_4 (IntKind.wrap .i64 (now9_3 + 20000)) m_16 m_17 m_18 (fun (rs_1 : List (Int × (Option Addr × Nat × Nat) × Int × (Option Addr × Nat × Nat) × (Option Addr × Nat × Nat) × (Option Addr × Nat × Nat))) (h_20 : Int) (h_21 : Int) (h_22 : Int) (now_5 : Int) (marks_5 : List (Int × Int)) (m_19 : List ((Option Addr × Nat × Nat) × List (Int))) (m_20 : List ((Option Addr × Nat × Nat) × List (Int))) (m_21 : List ((Option Addr × Nat × Nat) × List (Int × Int))) => ∃ (n_14 : Nat), n_14 < n_11 ∧ I n_14 h_20 h_21 h_22 now_5 marks_5 (IntKind.wrap .i64 (now9_3 + 20000)) (IntKind.wrap .i64 (i10 + 1)) m_19 m_20 m_21)) (Q_4 h_17 h_18 h_19 now_4 marks_4 now9_3 m_16 m_17 m_18))))) (punch_Puncher_Meet_wp h_1 h_2 h_3 h_4 mean dev any now (fun (h_23 : Int) (h_24 : Int) => Q_3 h_23 h_2 h_3 h_24 now marks 0 m_1 m_2 m_3))))) (fun (Q_2 : Bool → Prop) => Q_2 ((r_3 : Int) != 0)))))))
theorem embrasurelaw27_PunchMet_ok {p_1 : Option Addr} {n_1 : Nat} {c_1 : Nat} {p_2 : Option Addr} {n_2 : Nat} {c_2 : Nat} {own : List (Int × Int)} {first : Bool} {script : List (Int × Int × Int × (List (Int)) × (List (Int × Int)) × (List (Int)))} {m_1 : List ((Option Addr × Nat × Nat) × List (Int))} {m_2 : List ((Option Addr × Nat × Nat) × List (Int))} {m_3 : List ((Option Addr × Nat × Nat) × List (Int × Int))} {FL : List HP} {w : World} {K : Bool → List ((Option Addr × Nat × Nat) × List (Int)) → List ((Option Addr × Nat × Nat) × List (Int)) → List ((Option Addr × Nat × Nat) × List (Int × Int)) → Prop} {R : Value → World → Prop}
  (hF_own : ∀ w, Mem FL w → Rd w 2 p_1 enc55 own) (hl_own : n_1 = own.length) (hc_own : n_1 ≤ c_1)
  (hF_script : ∀ w, Mem FL w → RdD w 6 p_2 (encR47 FL) script) (hl_script : n_2 = script.length) (hc_script : n_2 ≤ c_2)
  (h : Mem (poolP enc5 5 1 m_1 :: poolP enc52 52 1 m_2 :: poolP enc55 55 2 m_3 :: FL) w) (hp : embrasurelaw27_PunchMet_wp own first script m_1 m_2 m_3 K)
  (hR : ∀ (r : Bool) (m_4 : List ((Option Addr × Nat × Nat) × List (Int))) (m_5 : List ((Option Addr × Nat × Nat) × List (Int))) (m_6 : List ((Option Addr × Nat × Nat) × List (Int × Int))) (w : World), Mem (poolP enc5 5 1 m_4 :: poolP enc52 52 1 m_5 :: poolP enc55 55 2 m_6 :: FL) w → K r m_4 m_5 m_6 → R (Value.bool r) w) :
  CallV Try.prog 6 #[(Value.slice p_1 n_1 c_1), (Value.bool first), (Value.slice p_2 n_2 c_2)] w R := by
  refine embrasurelaw27_PunchMet_call ?_
  unfold embrasurelaw27_PunchMet
  unfold embrasurelaw27_PunchMet_wp at hp
  subst hl_own
  subst hl_script
  refine embrasurelaw27_awake_ok h hp ?_
  intro r w h hp
  refine ⟨_, rfl, ?_⟩
  refine cond_both hp (fun hp => ?_) (fun hp => ?_)
  · exact hR false m_1 m_2 m_3 _ h hp
  refine embrasurelaw27_May_ok (FL := poolP enc5 5 1 m_1 :: poolP enc52 52 1 m_2 :: poolP enc55 55 2 m_3 :: FL) (fun w h => (hF_own _ (h.drop 3))) rfl hc_own h hp ?_
  intro r_1 w h hp
  refine ⟨_, rfl, ?_⟩
  refine cond_both hp (fun hp => ?_) (fun hp => ?_)
  · exact hR true m_1 m_2 m_3 _ h hp
  refine punch_New_ok (FL := poolP enc5 5 1 m_1 :: poolP enc52 52 1 m_2 :: poolP enc55 55 2 m_3 :: FL) (fun w h => (hF_own _ (h.drop 3))) rfl hc_own h hp ?_ ?_
  · intro r_2 w h hp
    refine ⟨_, _, rfl, ?_⟩
    refine ⟨_, rfl, ?_⟩
    refine ⟨_, rfl, ?_⟩
    obtain ⟨Q, hq, hp⟩ := hp
    refine ⟨fun first1 script2p script2l script2c p7 t30 w => first = first1 ∧ p_2 = script2p ∧ script.length = script2l ∧ c_2 = script2c ∧ none = p7 ∧ Q t30 ∧ Mem (poolP enc5 5 1 m_1 :: poolP enc52 52 1 m_2 :: poolP enc55 55 2 m_3 :: FL) w, ?_, ?_⟩
    · rintro first1 script2p script2l script2c p7 t30 w ⟨rfl, rfl, rfl, rfl, rfl, hp, h⟩
      replace hp := hq t30 hp
      unfold embrasurelaw27_PunchMet_j1
      refine cond_both hp (fun hp => ?_) (fun hp => ?_)
      · exact hR false m_1 m_2 m_3 _ h hp
      refine ⟨fun script2_1p script2_1l script2_1c p7_1 now9 w => (False), ?_, ?_⟩
      · rintro script2_1p script2_1l script2_1c p7_1 now9 w (hF)
        · exact hF.elim
      refine cond_both hp (fun hp => ?_) (fun hp => ?_)
      · exact hp.elim
      exact hp.elim
    clear hq
    refine eqlPtrNN undP27 ?_
    refine ⟨_, rfl, ?_⟩
    refine cond_tt ?_
    exact ⟨rfl, rfl, rfl, rfl, rfl, hp, h⟩
  rintro r_3 h_1 h_2 h_3 h_4 h_5 own_1 marks mean dev any now b_1 p_3 n_3 c_3 p_4 n_4 c_4 b_2 p_5 n_5 c_5 w rfl rfl rfl h hp
  have cpp_3 := rowCap h 1 rfl
  have cpp_4 := rowCap h 2 rfl
  have cpp_5 := rowCap h 4 rfl
  refine ⟨_, _, rfl, ?_⟩
  refine ⟨_, rfl, ?_⟩
  refine ⟨_, rfl, ?_⟩
  obtain ⟨Q_2, hq, hp⟩ := hp
  refine ⟨fun first1_1 script2_2p script2_2l script2_2c p7_2 t30_1 w => first = first1_1 ∧ p_2 = script2_2p ∧ script.length = script2_2l ∧ c_2 = script2_2c ∧ (some (Addr.mk b_1 0 none)) = p7_2 ∧ Q_2 t30_1 ∧ Mem (cel b_1 64 [(Value.int .i64 h_1), (Value.bool h_2), (Value.int .i64 h_3), (Value.int .i64 h_4), (Value.slice p_3 h_5.length c_3), (Value.slice p_4 own_1.length c_4), (Value.pointer (some (Addr.mk b_2 0 none))), (Value.int .i64 now)] :: row enc55 55 2 p_3 c_3 h_5 :: row enc55 55 2 p_4 c_4 own_1 :: cel b_2 74 [(Value.slice p_5 marks.length c_5), (Value.int .i64 mean), (Value.int .i64 dev), (Value.bool any)] :: row enc86 86 2 p_5 c_5 marks :: poolP enc5 5 1 m_1 :: poolP enc52 52 1 m_2 :: poolP enc55 55 2 m_3 :: FL) w, ?_, ?_⟩
  · rintro first1_1 script2_2p script2_2l script2_2c p7_2 t30_1 w ⟨rfl, rfl, rfl, rfl, rfl, hp, h⟩
    replace hp := hq t30_1 hp
    unfold embrasurelaw27_PunchMet_j1
    refine cond_both hp (fun hp => ?_) (fun hp => ?_)
    · replace h := h.sel [5, 5, 5] 5
      dsimp only [pickL, pickR, nthH, delH, dropH, List.cons_append, List.nil_append] at h
      exact hR false m_1 m_2 m_3 _ h hp
    obtain ⟨Q_3, hq, hp⟩ := hp
    refine ⟨fun script2_3p script2_3l script2_3c p7_3 now9_1 w => ∃ (h_6 : Int), ∃ (h_7 : Bool), ∃ (h_8 : Int), ∃ (h_9 : Int), ∃ (now_1 : Int), ∃ (marks_1 : List (Int × Int)), ∃ (p_6 : Option Addr), ∃ (n_6 : Nat), ∃ (c_6 : Nat), ∃ (m_7 : List ((Option Addr × Nat × Nat) × List (Int))), ∃ (m_8 : List ((Option Addr × Nat × Nat) × List (Int))), ∃ (m_9 : List ((Option Addr × Nat × Nat) × List (Int × Int))), p_2 = script2_3p ∧ script.length = script2_3l ∧ c_2 = script2_3c ∧ (some (Addr.mk b_1 0 none)) = p7_3 ∧ n_6 = marks_1.length ∧ Q_3 h_6 h_7 h_8 h_9 now_1 marks_1 now9_1 m_7 m_8 m_9 ∧ Mem (cel b_1 64 [(Value.int .i64 h_6), (Value.bool h_7), (Value.int .i64 h_8), (Value.int .i64 h_9), (Value.slice p_3 h_5.length c_3), (Value.slice p_4 own_1.length c_4), (Value.pointer (some (Addr.mk b_2 0 none))), (Value.int .i64 now_1)] :: row enc55 55 2 p_3 c_3 h_5 :: row enc55 55 2 p_4 c_4 own_1 :: cel b_2 74 [(Value.slice p_6 n_6 c_6), (Value.int .i64 mean), (Value.int .i64 dev), (Value.bool any)] :: row enc86 86 2 p_6 c_6 marks_1 :: poolP enc5 5 1 m_7 :: poolP enc52 52 1 m_8 :: poolP enc55 55 2 m_9 :: FL) w, ?_, ?_⟩
    · rintro script2_3p script2_3l script2_3c p7_3 now9_1 w ⟨h_6, h_7, h_8, h_9, now_1, marks_1, p_6, n_6, c_6, m_7, m_8, m_9, rfl, rfl, rfl, rfl, rfl, hp, h⟩
      replace hp := hq h_6 h_7 h_8 h_9 now_1 marks_1 now9_1 m_7 m_8 m_9 hp
      unfold embrasurelaw27_PunchMet_j2
      have cpp_6 := rowCap h 4 rfl
      replace h := h.pick [0, 0, 1]
      dsimp only [pickL, pickR, nthH, delH, dropH, List.cons_append, List.nil_append] at h
      refine punch_Puncher_State_ok h hp ?_
      rintro r_8 r_9 r_10 r_11 rs_3 p_14 n_17 c_14 w rfl h hp
      have cpp_14 := rowCap h 0 rfl
      have cpp_3 := rowCap h 2 rfl
      refine ⟨_, _, _, _, _, _, _, rfl, ?_⟩
      refine newL (o := [(Value.int .i64 0), (Value.bool false), (Value.int .i64 0), (Value.int .i64 0), (Value.slice none 0 0)]) h ?_
      intro b_3 w h
      refine storeL (ys := [(Value.int .i64 r_8), (Value.bool r_9), (Value.int .i64 r_10), (Value.int .i64 r_11), (Value.slice p_14 rs_3.length c_14)]) h 0 0 rfl rfl rfl sz42 rfl rfl ?_
      intro w h
      dsimp only [setH, setVs, setV] at h
      obtain ⟨I_1, ⟨n_33, h0⟩, hq⟩ := hp
      replace h := h.sel [0, 0, 0, 0, 1, 0, 0, 0, 0, 0] 0
      dsimp only [pickL, pickR, nthH, delH, dropH, List.cons_append, List.nil_append] at h
      refine ⟨fun n_20 script2_6p script2_6l script2_6c p7_6 now9_4 h11 i12 w => ∃ (h_25 : Int), ∃ (h_26 : Bool), ∃ (h_27 : Int), ∃ (h_28 : Int), ∃ (h_29 : List (Int × Int)), ∃ (p_15 : Option Addr), ∃ (n_18 : Nat), ∃ (c_15 : Nat), ∃ (now_6 : Int), ∃ (marks_6 : List (Int × Int)), ∃ (p_16 : Option Addr), ∃ (n_19 : Nat), ∃ (c_16 : Nat), ∃ (mean_1 : Int), ∃ (dev_1 : Int), ∃ (any_1 : Bool), ∃ (m_22 : List ((Option Addr × Nat × Nat) × List (Int))), ∃ (m_23 : List ((Option Addr × Nat × Nat) × List (Int))), ∃ (m_24 : List ((Option Addr × Nat × Nat) × List (Int × Int))), p_2 = script2_6p ∧ script.length = script2_6l ∧ c_2 = script2_6c ∧ (some (Addr.mk b_1 0 none)) = p7_6 ∧ (Addr.mk b_3 0 none) = h11 ∧ n_18 = h_29.length ∧ n_19 = marks_6.length ∧ I_1 n_20 h_25 h_26 h_27 h_28 h_29 now_6 marks_6 mean_1 dev_1 any_1 now9_4 i12 m_22 m_23 m_24 ∧ Mem (cel b_3 42 [(Value.int .i64 r_8), (Value.bool r_9), (Value.int .i64 r_10), (Value.int .i64 r_11), (Value.slice p_14 rs_3.length c_14)] :: row enc55 55 2 p_14 c_14 rs_3 :: cel b_1 64 [(Value.int .i64 h_25), (Value.bool h_26), (Value.int .i64 h_27), (Value.int .i64 h_28), (Value.slice p_15 n_18 c_15), (Value.slice p_4 own_1.length c_4), (Value.pointer (some (Addr.mk b_2 0 none))), (Value.int .i64 now_6)] :: row enc55 55 2 p_15 c_15 h_29 :: row enc55 55 2 p_4 c_4 own_1 :: cel b_2 74 [(Value.slice p_16 n_19 c_16), (Value.int .i64 mean_1), (Value.int .i64 dev_1), (Value.bool any_1)] :: row enc86 86 2 p_16 c_16 marks_6 :: poolP enc5 5 1 m_22 :: poolP enc52 52 1 m_23 :: poolP enc55 55 2 m_24 :: FL) w, ⟨n_33, h_6, h_7, h_8, h_9, h_5, p_3, h_5.length, c_3, now_1, marks_1, p_6, marks_1.length, c_6, mean, dev, any, m_7, m_8, m_9, rfl, rfl, rfl, rfl, rfl, rfl, rfl, h0, h⟩, ?_⟩
      clear h0 h
      rintro n_20 script2_6p script2_6l script2_6c p7_6 now9_4 h11 i12 w ⟨h_25, h_26, h_27, h_28, h_29, p_15, n_18, c_15, now_6, marks_6, p_16, n_19, c_16, mean_1, dev_1, any_1, m_22, m_23, m_24, rfl, rfl, rfl, rfl, rfl, rfl, rfl, hp, h⟩
      replace hp := hq n_20 h_25 h_26 h_27 h_28 h_29 now_6 marks_6 mean_1 dev_1 any_1 now9_4 i12 m_22 m_23 m_24 hp
      clear hq
      unfold embrasurelaw27_PunchMet_l3
      have cpp_15 := rowCap h 3 rfl
      have cpp_16 := rowCap h 6 rfl
      obtain ⟨Q_5, hq, hp⟩ := hp
      refine ⟨fun script2_7p script2_7l script2_7c p7_7 now9_5 h11_1 i12_1 t58 w => p_2 = script2_7p ∧ script.length = script2_7l ∧ c_2 = script2_7c ∧ (some (Addr.mk b_1 0 none)) = p7_7 ∧ now9_4 = now9_5 ∧ (Addr.mk b_3 0 none) = h11_1 ∧ i12 = i12_1 ∧ Q_5 t58 ∧ Mem (cel b_3 42 [(Value.int .i64 r_8), (Value.bool r_9), (Value.int .i64 r_10), (Value.int .i64 r_11), (Value.slice p_14 rs_3.length c_14)] :: row enc55 55 2 p_14 c_14 rs_3 :: cel b_1 64 [(Value.int .i64 h_25), (Value.bool h_26), (Value.int .i64 h_27), (Value.int .i64 h_28), (Value.slice p_15 h_29.length c_15), (Value.slice p_4 own_1.length c_4), (Value.pointer (some (Addr.mk b_2 0 none))), (Value.int .i64 now_6)] :: row enc55 55 2 p_15 c_15 h_29 :: row enc55 55 2 p_4 c_4 own_1 :: cel b_2 74 [(Value.slice p_16 marks_6.length c_16), (Value.int .i64 mean_1), (Value.int .i64 dev_1), (Value.bool any_1)] :: row enc86 86 2 p_16 c_16 marks_6 :: poolP enc5 5 1 m_22 :: poolP enc52 52 1 m_23 :: poolP enc55 55 2 m_24 :: FL) w, ?_, ?_⟩
      · rintro script2_7p script2_7l script2_7c p7_7 now9_5 h11_1 i12_1 t58 w ⟨rfl, rfl, rfl, rfl, rfl, rfl, rfl, hp, h⟩
        replace hp := hq t58 hp
        unfold embrasurelaw27_PunchMet_j4
        refine cond_both' hp (fun hp => ?_) (fun hp => ?_)
        · replace h := h.sel [7, 7, 7] 7
          dsimp only [pickL, pickR, nthH, delH, dropH, List.cons_append, List.nil_append] at h
          exact hR true m_22 m_23 m_24 _ h hp
        obtain ⟨ia_1, ja_1, hp⟩ := hp
        obtain ⟨a_1, ha_1⟩ := rdAddrD (hF_script _ (h.drop 10)) rfl ia_1 ja_1
        refine ⟨a_1, ha_1, ia_1, ja_1, ?_⟩
        obtain ⟨x_1, hx_1, cs, hR, hc0, hc1, hc2⟩ := rdCellD (hF_script _ (h.drop 10)) ha_1 rfl ia_1 ja_1
        replace hp := hp x_1 hx_1
        obtain ⟨qp3, qn3, qc3, qp4, qn4, qc4, qp5, qn5, qc5, rfl, rfl, hc_qp3, hF_qp3, rfl, hc_qp4, hF_qp4, rfl, hc_qp5, hF_qp5⟩ := hR
        refine ⟨_, hc1 0 _ rfl, _, hc1 1 _ rfl, _, hc1 2 _ rfl, _, _, _, hc1 3 _ rfl, _, _, _, hc1 4 _ rfl, _, _, _, hc1 5 _ rfl, ?_⟩
        refine newL (o := [(Value.int .i64 0), (Value.int .i64 0), (Value.int .i64 0), (Value.slice none 0 0), (Value.slice none 0 0), (Value.slice none 0 0)]) h ?_
        intro b_4 w h
        refine storeL (ys := [(Value.int .i64 x_1.1), (Value.int .i64 x_1.2.1), (Value.int .i64 x_1.2.2.1), (Value.slice qp3 x_1.2.2.2.1.length qc3), (Value.slice qp4 x_1.2.2.2.2.1.length qc4), (Value.slice qp5 x_1.2.2.2.2.2.length qc5)]) h 0 0 rfl rfl rfl sz47 rfl rfl ?_
        intro w h
        dsimp only [setH, setVs, setV] at h
        refine ⟨_, cellL h 0 1 rfl rfl rfl, ?_⟩
        obtain ⟨Q_6, hq, hp⟩ := hp
        refine ⟨fun script2_8p script2_8l script2_8c p7_8 now9_6 h11_2 i12_2 d13 t89 w => p_2 = script2_8p ∧ script.length = script2_8l ∧ c_2 = script2_8c ∧ (some (Addr.mk b_1 0 none)) = p7_8 ∧ (IntKind.wrap .i64 (now9_4 + (if (1000 : Int) < (if (0 : Int) > x_1.2.1 then 0 else x_1.2.1) then 1000 else (if (0 : Int) > x_1.2.1 then 0 else x_1.2.1)))) = now9_6 ∧ (Addr.mk b_3 0 none) = h11_2 ∧ i12 = i12_2 ∧ (Addr.mk b_4 0 none) = d13 ∧ Q_6 t89 ∧ Mem (cel b_4 47 [(Value.int .i64 x_1.1), (Value.int .i64 x_1.2.1), (Value.int .i64 x_1.2.2.1), (Value.slice qp3 x_1.2.2.2.1.length qc3), (Value.slice qp4 x_1.2.2.2.2.1.length qc4), (Value.slice qp5 x_1.2.2.2.2.2.length qc5)] :: cel b_3 42 [(Value.int .i64 r_8), (Value.bool r_9), (Value.int .i64 r_10), (Value.int .i64 r_11), (Value.slice p_14 rs_3.length c_14)] :: row enc55 55 2 p_14 c_14 rs_3 :: cel b_1 64 [(Value.int .i64 h_25), (Value.bool h_26), (Value.int .i64 h_27), (Value.int .i64 h_28), (Value.slice p_15 h_29.length c_15), (Value.slice p_4 own_1.length c_4), (Value.pointer (some (Addr.mk b_2 0 none))), (Value.int .i64 now_6)] :: row enc55 55 2 p_15 c_15 h_29 :: row enc55 55 2 p_4 c_4 own_1 :: cel b_2 74 [(Value.slice p_16 marks_6.length c_16), (Value.int .i64 mean_1), (Value.int .i64 dev_1), (Value.bool any_1)] :: row enc86 86 2 p_16 c_16 marks_6 :: poolP enc5 5 1 m_22 :: poolP enc52 52 1 m_23 :: poolP enc55 55 2 m_24 :: FL) w, ?_, ?_⟩
        · rintro script2_8p script2_8l script2_8c p7_8 now9_6 h11_2 i12_2 d13 t89 w ⟨rfl, rfl, rfl, rfl, rfl, rfl, rfl, rfl, hp, h⟩
          replace hp := hq t89 hp
          unfold embrasurelaw27_PunchMet_j5
          refine cond_both hp (fun hp => ?_) (fun hp => ?_)
          · replace h := h.sel [8, 8, 8] 8
            dsimp only [pickL, pickR, nthH, delH, dropH, List.cons_append, List.nil_append] at h
            exact hR true m_22 m_23 m_24 _ h hp
          obtain ⟨Q_7, hq, hp⟩ := hp
          refine ⟨fun script2_9p script2_9l script2_9c p7_9 now9_7 h11_3 i12_3 n14 w => ∃ (h_30 : Int), ∃ (h_31 : Bool), ∃ (h_32 : Int), ∃ (h_33 : Int), ∃ (h_34 : List (Int × Int)), ∃ (p_17 : Option Addr), ∃ (n_21 : Nat), ∃ (c_17 : Nat), ∃ (now_7 : Int), ∃ (marks_7 : List (Int × Int)), ∃ (p_18 : Option Addr), ∃ (n_22 : Nat), ∃ (c_18 : Nat), ∃ (mean_2 : Int), ∃ (dev_2 : Int), ∃ (any_2 : Bool), ∃ (m_25 : List ((Option Addr × Nat × Nat) × List (Int))), ∃ (m_26 : List ((Option Addr × Nat × Nat) × List (Int))), ∃ (m_27 : List ((Option Addr × Nat × Nat) × List (Int × Int))), p_2 = script2_9p ∧ script.length = script2_9l ∧ c_2 = script2_9c ∧ (some (Addr.mk b_1 0 none)) = p7_9 ∧ (IntKind.wrap .i64 (now9_4 + (if (1000 : Int) < (if (0 : Int) > x_1.2.1 then 0 else x_1.2.1) then 1000 else (if (0 : Int) > x_1.2.1 then 0 else x_1.2.1)))) = now9_7 ∧ (Addr.mk b_3 0 none) = h11_3 ∧ i12 = i12_3 ∧ n_21 = h_34.length ∧ n_22 = marks_7.length ∧ Q_7 h_30 h_31 h_32 h_33 h_34 now_7 marks_7 mean_2 dev_2 any_2 n14 m_25 m_26 m_27 ∧ Mem (cel b_4 47 [(Value.int .i64 x_1.1), (Value.int .i64 x_1.2.1), (Value.int .i64 x_1.2.2.1), (Value.slice qp3 x_1.2.2.2.1.length qc3), (Value.slice qp4 x_1.2.2.2.2.1.length qc4), (Value.slice qp5 x_1.2.2.2.2.2.length qc5)] :: cel b_3 42 [(Value.int .i64 r_8), (Value.bool r_9), (Value.int .i64 r_10), (Value.int .i64 r_11), (Value.slice p_14 rs_3.length c_14)] :: row enc55 55 2 p_14 c_14 rs_3 :: cel b_1 64 [(Value.int .i64 h_30), (Value.bool h_31), (Value.int .i64 h_32), (Value.int .i64 h_33), (Value.slice p_17 n_21 c_17), (Value.slice p_4 own_1.length c_4), (Value.pointer (some (Addr.mk b_2 0 none))), (Value.int .i64 now_7)] :: row enc55 55 2 p_17 c_17 h_34 :: row enc55 55 2 p_4 c_4 own_1 :: cel b_2 74 [(Value.slice p_18 n_22 c_18), (Value.int .i64 mean_2), (Value.int .i64 dev_2), (Value.bool any_2)] :: row enc86 86 2 p_18 c_18 marks_7 :: poolP enc5 5 1 m_25 :: poolP enc52 52 1 m_26 :: poolP enc55 55 2 m_27 :: FL) w, ?_, ?_⟩
          · rintro script2_9p script2_9l script2_9c p7_9 now9_7 h11_3 i12_3 n14 w ⟨h_30, h_31, h_32, h_33, h_34, p_17, n_21, c_17, now_7, marks_7, p_18, n_22, c_18, mean_2, dev_2, any_2, m_25, m_26, m_27, rfl, rfl, rfl, rfl, rfl, rfl, rfl, rfl, rfl, hp, h⟩
            replace hp := hq h_30 h_31 h_32 h_33 h_34 now_7 marks_7 mean_2 dev_2 any_2 n14 m_25 m_26 m_27 hp
            unfold embrasurelaw27_PunchMet_j6
            have cpp_17 := rowCap h 4 rfl
            have cpp_18 := rowCap h 7 rfl
            obtain ⟨Q_8, hq, hp⟩ := hp
            refine ⟨fun script2_10p script2_10l script2_10c p7_10 now9_8 h11_4 i12_4 t127 w => p_2 = script2_10p ∧ script.length = script2_10l ∧ c_2 = script2_10c ∧ (some (Addr.mk b_1 0 none)) = p7_10 ∧ (IntKind.wrap .i64 (now9_4 + (if (1000 : Int) < (if (0 : Int) > x_1.2.1 then 0 else x_1.2.1) then 1000 else (if (0 : Int) > x_1.2.1 then 0 else x_1.2.1)))) = now9_8 ∧ (Addr.mk b_3 0 none) = h11_4 ∧ i12 = i12_4 ∧ Q_8 t127 ∧ Mem (cel b_4 47 [(Value.int .i64 x_1.1), (Value.int .i64 x_1.2.1), (Value.int .i64 x_1.2.2.1), (Value.slice qp3 x_1.2.2.2.1.length qc3), (Value.slice qp4 x_1.2.2.2.2.1.length qc4), (Value.slice qp5 x_1.2.2.2.2.2.length qc5)] :: cel b_3 42 [(Value.int .i64 r_8), (Value.bool r_9), (Value.int .i64 r_10), (Value.int .i64 r_11), (Value.slice p_14 rs_3.length c_14)] :: row enc55 55 2 p_14 c_14 rs_3 :: cel b_1 64 [(Value.int .i64 h_30), (Value.bool h_31), (Value.int .i64 h_32), (Value.int .i64 h_33), (Value.slice p_17 h_34.length c_17), (Value.slice p_4 own_1.length c_4), (Value.pointer (some (Addr.mk b_2 0 none))), (Value.int .i64 now_7)] :: row enc55 55 2 p_17 c_17 h_34 :: row enc55 55 2 p_4 c_4 own_1 :: cel b_2 74 [(Value.slice p_18 marks_7.length c_18), (Value.int .i64 mean_2), (Value.int .i64 dev_2), (Value.bool any_2)] :: row enc86 86 2 p_18 c_18 marks_7 :: poolP enc5 5 1 m_25 :: poolP enc52 52 1 m_26 :: poolP enc55 55 2 m_27 :: FL) w, ?_, ?_⟩
            · rintro script2_10p script2_10l script2_10c p7_10 now9_8 h11_4 i12_4 t127 w ⟨rfl, rfl, rfl, rfl, rfl, rfl, rfl, hp, h⟩
              replace hp := hq t127 hp
              unfold embrasurelaw27_PunchMet_j7
              refine cond_both hp (fun hp => ?_) (fun hp => ?_)
              · replace h := h.sel [8, 8, 8] 8
                dsimp only [pickL, pickR, nthH, delH, dropH, List.cons_append, List.nil_append] at h
                exact hR false m_25 m_26 m_27 _ h hp
              replace h := h.sel [1, 1, 1, 1, 1, 1, 1, 1, 1, 1] 1
              dsimp only [pickL, pickR, nthH, delH, dropH, List.cons_append, List.nil_append] at h
              obtain ⟨n_32, hn, hp⟩ := hp
              exact ⟨n_32, hn, h_30, h_31, h_32, h_33, h_34, p_17, h_34.length, c_17, now_7, marks_7, p_18, marks_7.length, c_18, mean_2, dev_2, any_2, m_25, m_26, m_27, rfl, rfl, rfl, rfl, rfl, rfl, rfl, hp, h⟩
            clear hq
            replace h := h.drew
            refine ⟨fun w => Mem (cel b_3 42 [(Value.int .i64 r_8), (Value.bool r_9), (Value.int .i64 r_10), (Value.int .i64 r_11), (Value.slice p_14 rs_3.length c_14)] :: FL) w, (h.sel [1] 10), ?_⟩
            refine cond_both hp (fun hp => ?_) (fun hp => ?_)
            · exact ⟨rfl, rfl, rfl, rfl, rfl, rfl, rfl, hp, h⟩
            refine ⟨_, cellL h 1 0 rfl rfl rfl, ?_⟩
            refine ⟨?_, ?_⟩
            · intro w h
              change Mem _ _ at h
              refine ⟨_, cellL h 0 0 rfl rfl rfl, ?_⟩
              exact ⟨rfl, rfl⟩
            replace h := h.pick [3, 3, 4]
            dsimp only [pickL, pickR, nthH, delH, dropH, List.cons_append, List.nil_append] at h
            refine punch_Puncher_State_ok h hp ?_
            rintro r_12 r_13 r_14 r_15 rs_7 p_26 n_30 c_26 w rfl h hp
            have cpp_26 := rowCap h 0 rfl
            have cpp_17 := rowCap h 2 rfl
            refine ⟨_, _, _, _, _, _, _, rfl, ?_⟩
            refine ⟨(h.sel [5] 11), ?_⟩
            refine cond_both hp (fun hp => ?_) (fun hp => ?_)
            · replace h := h.sel [4, 4, 4, 1, 1, 2, 1, 1, 1, 1, 1] 1
              dsimp only [pickL, pickR, nthH, delH, dropH, List.cons_append, List.nil_append] at h
              exact ⟨rfl, rfl, rfl, rfl, rfl, rfl, rfl, hp, h⟩
            replace h := h.pick [1, 1, 1]
            dsimp only [pickL, pickR, nthH, delH, dropH, List.cons_append, List.nil_append] at h
            refine punch_Puncher_State_ok h hp ?_
            rintro r_16 r_17 r_18 r_19 rs_8 p_27 n_31 c_27 w rfl h hp
            have cpp_27 := rowCap h 0 rfl
            have cpp_17 := rowCap h 2 rfl
            refine ⟨_, _, _, _, _, _, _, rfl, ?_⟩
            replace h := h.sel [5, 5, 5, 1, 1, 3, 1, 2, 2, 2, 2] 2
            dsimp only [pickL, pickR, nthH, delH, dropH, List.cons_append, List.nil_append] at h
            exact ⟨rfl, rfl, rfl, rfl, rfl, rfl, rfl, hp, h⟩
          clear hq
          refine ⟨_, cellL h 0 0 rfl rfl rfl, ?_⟩
          refine cond_both hp (fun hp => ?_) (fun hp => ?_)
          · replace h := h.pick [3, 4, 4, 4, 4, 4, 4]
            dsimp only [pickL, pickR, nthH, delH, dropH, List.cons_append, List.nil_append] at h
            refine punch_Puncher_Begin_ok h hp ?_
            rintro rs_4 h_35 h_36 h_37 h_38 now_8 marks_8 m_28 m_29 m_30 p_19 n_23 c_19 p_20 n_24 c_20 w rfl rfl h hp
            have cpp_19 := rowCap h 0 rfl
            have cpp_4 := rowCap h 2 rfl
            have cpp_20 := rowCap h 4 rfl
            refine ⟨_, _, _, rfl, ?_⟩
            replace h := h.sel [8, 8, 8, 1, 7, 1, 1, 1, 1, 1, 1] 1
            dsimp only [pickL, pickR, nthH, delH, dropH, List.cons_append, List.nil_append] at h
            exact ⟨h_35, h_36, h_37, h_38, h_29, p_15, h_29.length, c_15, now_8, marks_8, p_20, marks_8.length, c_20, mean_1, dev_1, any_1, m_28, m_29, m_30, rfl, rfl, rfl, rfl, rfl, rfl, rfl, rfl, rfl, hp, h⟩
          refine cond_both hp (fun hp => ?_) (fun hp => ?_)
          · replace h := h.pick [3, 3, 3, 3, 3, 3, 3, 3]
            dsimp only [pickL, pickR, nthH, delH, dropH, List.cons_append, List.nil_append] at h
            refine punch_Puncher_Tick_ok h hp ?_
            rintro rs_5 h_39 h_40 h_41 now_9 marks_9 m_31 m_32 m_33 p_21 n_25 c_21 p_22 n_26 c_22 w rfl rfl h hp
            have cpp_21 := rowCap h 0 rfl
            have cpp_15 := rowCap h 2 rfl
            have cpp_4 := rowCap h 3 rfl
            have cpp_22 := rowCap h 5 rfl
            refine ⟨_, _, _, rfl, ?_⟩
            replace h := h.sel [9, 9, 9, 1, 1, 1, 1, 1, 1, 1, 1] 1
            dsimp only [pickL, pickR, nthH, delH, dropH, List.cons_append, List.nil_append] at h
            exact ⟨h_39, h_26, h_40, h_41, h_29, p_15, h_29.length, c_15, now_9, marks_9, p_22, marks_9.length, c_22, mean_1, dev_1, any_1, m_31, m_32, m_33, rfl, rfl, rfl, rfl, rfl, rfl, rfl, rfl, rfl, hp, h⟩
          refine cond_both' hp (fun hp => ?_) (fun hp => ?_)
          · exact ⟨h_25, h_26, h_27, h_28, h_29, p_15, h_29.length, c_15, now_6, marks_6, p_16, marks_6.length, c_16, mean_1, dev_1, any_1, m_22, m_23, m_24, rfl, rfl, rfl, rfl, rfl, rfl, rfl, rfl, rfl, hp, h⟩
          refine ⟨_, cellL h 0 2 rfl rfl rfl, _, _, _, cellL h 0 3 rfl rfl rfl, _, _, _, cellL h 0 4 rfl rfl rfl, _, _, _, cellL h 0 5 rfl rfl rfl, ?_⟩
          replace h := h.pick [3, 3, 3, 3, 3, 3, 3, 3]
          dsimp only [pickL, pickR, nthH, delH, dropH, List.cons_append, List.nil_append] at h
          refine punch_Puncher_Hear_ok (FL := cel b_4 47 [(Value.int .i64 x_1.1), (Value.int .i64 x_1.2.1), (Value.int .i64 x_1.2.2.1), (Value.slice qp3 x_1.2.2.2.1.length qc3), (Value.slice qp4 x_1.2.2.2.2.1.length qc4), (Value.slice qp5 x_1.2.2.2.2.2.length qc5)] :: cel b_3 42 [(Value.int .i64 r_8), (Value.bool r_9), (Value.int .i64 r_10), (Value.int .i64 r_11), (Value.slice p_14 rs_3.length c_14)] :: row enc55 55 2 p_14 c_14 rs_3 :: FL) (fun w h => (hF_qp3 _ (h.drop 6))) rfl hc_qp3 (fun w h => (hF_qp4 _ (h.drop 6))) rfl hc_qp4 (fun w h => (hF_qp5 _ (h.drop 6))) rfl hc_qp5 h hp ?_
          rintro rs_6 h_42 h_43 h_44 h_45 now_10 marks_10 mean_3 dev_3 any_3 m_34 m_35 m_36 p_23 n_27 c_23 p_24 n_28 c_24 p_25 n_29 c_25 w rfl rfl rfl h hp
          have cpp_23 := rowCap h 0 rfl
          have cpp_24 := rowCap h 2 rfl
          have cpp_4 := rowCap h 3 rfl
          have cpp_25 := rowCap h 5 rfl
          refine ⟨_, _, _, rfl, ?_⟩
          replace h := h.sel [9, 9, 9, 1, 1, 1, 1, 1, 1, 1, 1] 1
          dsimp only [pickL, pickR, nthH, delH, dropH, List.cons_append, List.nil_append] at h
          exact ⟨h_42, h_26, h_43, h_44, h_45, p_24, h_45.length, c_24, now_10, marks_10, p_25, marks_10.length, c_25, mean_3, dev_3, any_3, m_34, m_35, m_36, rfl, rfl, rfl, rfl, rfl, rfl, rfl, rfl, rfl, hp, h⟩
        clear hq
        refine ⟨_, _, _, cellL h 0 3 rfl rfl rfl, ?_⟩
        refine cond_both hp (fun hp => ?_) (fun hp => ?_)
        · exact ⟨rfl, rfl, rfl, rfl, rfl, rfl, rfl, rfl, hp, h⟩
        refine ⟨_, _, _, cellL h 0 4 rfl rfl rfl, ?_⟩
        refine cond_both hp (fun hp => ?_) (fun hp => ?_)
        · exact ⟨rfl, rfl, rfl, rfl, rfl, rfl, rfl, rfl, hp, h⟩
        refine ⟨_, _, _, cellL h 0 5 rfl rfl rfl, ?_⟩
        exact ⟨rfl, rfl, rfl, rfl, rfl, rfl, rfl, rfl, hp, h⟩
      clear hq
      refine cond_both hp (fun hp => ?_) (fun hp => ?_)
      · exact ⟨rfl, rfl, rfl, rfl, rfl, rfl, rfl, hp, h⟩
      exact ⟨rfl, rfl, rfl, rfl, rfl, rfl, rfl, hp, h⟩
    clear hq
    refine cond_both' hp (fun hp => ?_) (fun hp => ?_)
    · replace h := h.pick [0, 2]
      dsimp only [pickL, pickR, nthH, delH, dropH, List.cons_append, List.nil_append] at h
      refine punch_Puncher_Meet_ok h hp ?_
      intro h_23 h_24 w h hp
      refine ⟨rfl, ?_⟩
      replace h := h.sel [0, 1, 1, 0, 0, 0, 0, 0] 0
      dsimp only [pickL, pickR, nthH, delH, dropH, List.cons_append, List.nil_append] at h
      exact ⟨h_23, h_2, h_3, h_24, now, marks, p_5, marks.length, c_5, m_1, m_2, m_3, rfl, rfl, rfl, rfl, rfl, hp, h⟩
    replace h := h.pick [0, 1, 1, 1, 1, 1, 1]
    dsimp only [pickL, pickR, nthH, delH, dropH, List.cons_append, List.nil_append] at h
    refine punch_Puncher_Begin_ok h hp ?_
    rintro rs h_10 h_11 h_12 h_13 now_2 marks_2 m_10 m_11 m_12 p_7 n_7 c_7 p_8 n_8 c_8 w rfl rfl h hp
    have cpp_7 := rowCap h 0 rfl
    have cpp_4 := rowCap h 2 rfl
    have cpp_8 := rowCap h 4 rfl
    refine ⟨_, _, _, rfl, ?_⟩
    obtain ⟨Q_4, hq, hp⟩ := hp
    refine ⟨fun script2_4p script2_4l script2_4c p7_4 now9_2 w => ∃ (h_14 : Int), ∃ (h_15 : Int), ∃ (h_16 : Int), ∃ (now_3 : Int), ∃ (marks_3 : List (Int × Int)), ∃ (p_9 : Option Addr), ∃ (n_9 : Nat), ∃ (c_9 : Nat), ∃ (m_13 : List ((Option Addr × Nat × Nat) × List (Int))), ∃ (m_14 : List ((Option Addr × Nat × Nat) × List (Int))), ∃ (m_15 : List ((Option Addr × Nat × Nat) × List (Int × Int))), p_2 = script2_4p ∧ script.length = script2_4l ∧ c_2 = script2_4c ∧ (some (Addr.mk b_1 0 none)) = p7_4 ∧ n_9 = marks_3.length ∧ Q_4 h_14 h_15 h_16 now_3 marks_3 now9_2 m_13 m_14 m_15 ∧ Mem (cel b_1 64 [(Value.int .i64 h_14), (Value.bool h_11), (Value.int .i64 h_15), (Value.int .i64 h_16), (Value.slice p_3 h_5.length c_3), (Value.slice p_4 own_1.length c_4), (Value.pointer (some (Addr.mk b_2 0 none))), (Value.int .i64 now_3)] :: row enc55 55 2 p_3 c_3 h_5 :: row enc55 55 2 p_4 c_4 own_1 :: cel b_2 74 [(Value.slice p_9 n_9 c_9), (Value.int .i64 mean), (Value.int .i64 dev), (Value.bool any)] :: row enc86 86 2 p_9 c_9 marks_3 :: poolP enc5 5 1 m_13 :: poolP enc52 52 1 m_14 :: poolP enc55 55 2 m_15 :: FL) w, ?_, ?_⟩
    · rintro script2_4p script2_4l script2_4c p7_4 now9_2 w ⟨h_14, h_15, h_16, now_3, marks_3, p_9, n_9, c_9, m_13, m_14, m_15, rfl, rfl, rfl, rfl, rfl, hp, h⟩
      replace hp := hq h_14 h_15 h_16 now_3 marks_3 now9_2 m_13 m_14 m_15 hp
      unfold embrasurelaw27_PunchMet_j8
      have cpp_9 := rowCap h 4 rfl
      replace h := h.pick [0, 0, 1]
      dsimp only [pickL, pickR, nthH, delH, dropH, List.cons_append, List.nil_append] at h
      refine punch_Puncher_State_ok h hp ?_
      rintro r_4 r_5 r_6 r_7 rs_2 p_13 n_16 c_13 w rfl h hp
      have cpp_13 := rowCap h 0 rfl
      have cpp_3 := rowCap h 2 rfl
      refine ⟨_, _, _, _, _, _, _, rfl, ?_⟩
      refine cond_both hp (fun hp => ?_) (fun hp => ?_)
      · replace h := h.sel [6, 6, 6] 6
        dsimp only [pickL, pickR, nthH, delH, dropH, List.cons_append, List.nil_append] at h
        exact hR false m_13 m_14 m_15 _ h hp
      replace h := h.sel [1, 1, 2, 1, 1, 1, 1, 1] 1
      dsimp only [pickL, pickR, nthH, delH, dropH, List.cons_append, List.nil_append] at h
      exact ⟨h_14, h_11, h_15, h_16, now_3, marks_3, p_9, marks_3.length, c_9, m_13, m_14, m_15, rfl, rfl, rfl, rfl, rfl, hp, h⟩
    clear hq
    obtain ⟨I, ⟨n_15, h0⟩, hq⟩ := hp
    replace h := h.sel [1, 7, 1, 1, 1, 1, 1, 1] 1
    dsimp only [pickL, pickR, nthH, delH, dropH, List.cons_append, List.nil_append] at h
    refine ⟨fun n_11 script2_5p script2_5l script2_5c p7_5 now9_3 i10 w => ∃ (h_17 : Int), ∃ (h_18 : Int), ∃ (h_19 : Int), ∃ (now_4 : Int), ∃ (marks_4 : List (Int × Int)), ∃ (p_10 : Option Addr), ∃ (n_10 : Nat), ∃ (c_10 : Nat), ∃ (m_16 : List ((Option Addr × Nat × Nat) × List (Int))), ∃ (m_17 : List ((Option Addr × Nat × Nat) × List (Int))), ∃ (m_18 : List ((Option Addr × Nat × Nat) × List (Int × Int))), p_2 = script2_5p ∧ script.length = script2_5l ∧ c_2 = script2_5c ∧ (some (Addr.mk b_1 0 none)) = p7_5 ∧ n_10 = marks_4.length ∧ I n_11 h_17 h_18 h_19 now_4 marks_4 now9_3 i10 m_16 m_17 m_18 ∧ Mem (cel b_1 64 [(Value.int .i64 h_17), (Value.bool h_11), (Value.int .i64 h_18), (Value.int .i64 h_19), (Value.slice p_3 h_5.length c_3), (Value.slice p_4 own_1.length c_4), (Value.pointer (some (Addr.mk b_2 0 none))), (Value.int .i64 now_4)] :: row enc55 55 2 p_3 c_3 h_5 :: row enc55 55 2 p_4 c_4 own_1 :: cel b_2 74 [(Value.slice p_10 n_10 c_10), (Value.int .i64 mean), (Value.int .i64 dev), (Value.bool any)] :: row enc86 86 2 p_10 c_10 marks_4 :: poolP enc5 5 1 m_16 :: poolP enc52 52 1 m_17 :: poolP enc55 55 2 m_18 :: FL) w, ⟨n_15, h_10, h_12, h_13, now_2, marks_2, p_8, marks_2.length, c_8, m_10, m_11, m_12, rfl, rfl, rfl, rfl, rfl, h0, h⟩, ?_⟩
    clear h0 h
    rintro n_11 script2_5p script2_5l script2_5c p7_5 now9_3 i10 w ⟨h_17, h_18, h_19, now_4, marks_4, p_10, n_10, c_10, m_16, m_17, m_18, rfl, rfl, rfl, rfl, rfl, hp, h⟩
    replace hp := hq n_11 h_17 h_18 h_19 now_4 marks_4 now9_3 i10 m_16 m_17 m_18 hp
    clear hq
    unfold embrasurelaw27_PunchMet_l9
    have cpp_10 := rowCap h 4 rfl
    refine cond_both' hp (fun hp => ?_) (fun hp => ?_)
    · exact ⟨h_17, h_18, h_19, now_4, marks_4, p_10, marks_4.length, c_10, m_16, m_17, m_18, rfl, rfl, rfl, rfl, rfl, hp, h⟩
    refine punch_Puncher_Tick_ok h hp ?_
    rintro rs_1 h_20 h_21 h_22 now_5 marks_5 m_19 m_20 m_21 p_11 n_12 c_11 p_12 n_13 c_12 w rfl rfl h hp
    have cpp_11 := rowCap h 0 rfl
    have cpp_3 := rowCap h 2 rfl
    have cpp_4 := rowCap h 3 rfl
    have cpp_12 := rowCap h 5 rfl
    refine ⟨_, _, _, rfl, ?_⟩
    replace h := h.sel [1, 1, 1, 1, 1, 1, 1, 1] 1
    dsimp only [pickL, pickR, nthH, delH, dropH, List.cons_append, List.nil_append] at h
    obtain ⟨n_14, hn, hp⟩ := hp
    exact ⟨n_14, hn, h_20, h_21, h_22, now_5, marks_5, p_12, marks_5.length, c_12, m_19, m_20, m_21, rfl, rfl, rfl, rfl, rfl, hp, h⟩
  clear hq
  refine eqlPtrNil undP27 ?_
  refine ⟨_, rfl, ?_⟩
  refine cond_ff ?_
  exact ⟨rfl, rfl, rfl, rfl, rfl, hp, h⟩

end Go.Proofs.Ytgelfofenbjjbaa
