/- Each function over plain data (printed by a program of this claim's author). -/
import Derived.Test.YtdonkmbhlankiaaL2
namespace Go.Proofs.Ytdonkmbhlankiaa
open Go Go.Eng Go.Proofs
set_option maxRecDepth 100000
set_option maxHeartbeats 2000000

/-! embrasure/embrasurelaw06.DueFull (3) -/
def embrasurelaw06_DueFull_wp (at_ : List (Int)) (extra : ByteArray) (K : Bool → Prop) : Prop :=
  embrasurelaw06_awake_wp (fun (r : Bool) => cond (!r) (K (false)) (due_New_wp (fun (at__1 : List (ByteArray × Int)) => joinP2 (fun (name6 : ByteArray) (m_1 : List (ByteArray × Int)) => joinP2 (fun (t63 : Bool) (m_7 : List (ByteArray × Int)) => cond t63 (K (false)) (cond (decide ((((extra.size : Nat) : Int) : Int) > 60)) (K (true)) (joinP3 (fun (x_2 : Int) (x_3 : Int) (m_11 : List (ByteArray × Int)) => due_Table_Next_wp m_11 (fun (r_4 : ByteArray) (r_5 : Int) (r_6 : Bool) => cond ((x_3 : Int) == 200) (cond (!r_6) (due_Table_Drop_wp m_11 extra (fun (r_7 : Bool) (m_14 : List (ByteArray × Int)) => K (!r_7))) (K (false))) (K (false)))) (fun (Q_3 : Int → Int → List (ByteArray × Int) → Prop) => due_Table_Due_wp m_7 1073741824 (fun (x_4 : Int) => due_Table_Due_c1_wp (0, 0, 0) (fun x_7 x_8 (s : Nat × Int × Int) K_1 => s.1 = 0 ∧ (cond (decide ((x_8 : Int) < s.2.1)) (K_1 false (1, s.2.1, s.2.2)) (K_1 true (0, x_8, (IntKind.wrap .i64 (s.2.2 + 1)))))) m_7 x_4 (fun (m_13 : List (ByteArray × Int)) (s_1 : (Nat × Int × Int)) => (s_1.1 = 0 ∧ (Q_3 s_1.2.1 s_1.2.2 m_13)) ∨ (s_1.1 ≠ 0 ∧ (K (false))))))))) (fun (Q_2 : Bool → List (ByteArray × Int) → Prop) => due_Table_Set_wp m_1 (ByteArray.mk ([97, 110, 111, 116, 104, 101, 114]).toArray) 5 (fun (r_2 : Int) (m_9 : List (ByteArray × Int)) => cond ((r_2 : Int) != 10) (Q_2 true m_9) (due_Table_Set_wp m_9 name6 7 (fun (r_3 : Int) (m_10 : List (ByteArray × Int)) => cond ((r_3 : Int) != 0) (Q_2 true m_10) (due_Table_Names_wp m_10 (fun (rs : List (ByteArray)) => Q_2 ((((rs.length : Nat) : Int) : Int) != 200) m_10))))))) (fun (Q : ByteArray → List (ByteArray × Int) → Prop) => ∃ (I : Nat → ByteArray → Int → List (ByteArray × Int) → Prop), (∃ (n_4 : Nat), I n_4 (ByteArray.mk ([]).toArray) 0 at__1) ∧ ∀ (n_2 : Nat) (name6_1 : ByteArray) (i7 : Int) (m_3 : List (ByteArray × Int)), I n_2 name6_1 i7 m_3 → (cond (decide ((i7 : Int) < 200)) (joinP1 (fun (x8 : Int) => due_Table_Set_wp m_3 (strOf [110, (IntKind.wrap .u8 (IntKind.wrap .i64 (97 + (IntKind.wrap .i64 (Int.tdiv i7 26))))), (IntKind.wrap .u8 (IntKind.wrap .i64 (97 + (Int.tmod i7 26))))]) x8 (fun (r_1 : Int) (m_6 : List (ByteArray × Int)) => cond ((r_1 : Int) != 0) (K (false)) (∃ (n_3 : Nat), n_3 < n_2 ∧ I n_3 (strOf [110, (IntKind.wrap .u8 (IntKind.wrap .i64 (97 + (IntKind.wrap .i64 (Int.tdiv i7 26))))), (IntKind.wrap .u8 (IntKind.wrap .i64 (97 + (Int.tmod i7 26))))]) (IntKind.wrap .i64 (i7 + 1)) m_6))) (fun (Q_1 : Int → Prop) => cond (decide ((((at_.length : Nat) : Int) : Int) > 0)) ((((at_.length : Nat) : Int) : Int) ≠ 0 ∧ (0 ≤ ((Int.tmod i7 ((at_.length : Nat) : Int)) : Int) ∧ ((Int.tmod i7 ((at_.length : Nat) : Int)) : Int) < ((at_.length : Nat) : Int) ∧ (∀ (x_1 : Int), at_[Int.toNat (Int.tmod i7 ((at_.length : Nat) : Int))]? = some x_1 → (Q_1 (IntKind.wrap .i64 x_1))))) (Q_1 0))) (Q name6_1 m_3))))))
theorem embrasurelaw06_DueFull_ok {p_1 : Option Addr} {n_1 : Nat} {c_1 : Nat} {at_ : List (Int)} {extra : ByteArray} {FL : List HP} {w : World} {K : Bool → Prop} {R : Value → World → Prop}
  (hF_at_ : ∀ w, Mem FL w → Rd w 1 p_1 enc26 at_) (hl_at_ : n_1 = at_.length) (hc_at_ : n_1 ≤ c_1)
  (h : Mem (FL) w) (hp : embrasurelaw06_DueFull_wp at_ extra K)
  (hR : ∀ (r : Bool) (w : World), Mem (FL) w → K r → R (Value.bool r) w) :
  CallV Try.prog 3 #[(Value.slice p_1 n_1 c_1), (Value.string extra)] w R := by
  refine embrasurelaw06_DueFull_call ?_
  unfold embrasurelaw06_DueFull
  unfold embrasurelaw06_DueFull_wp at hp
  subst hl_at_
  replace h := marksNil h
  refine newL (o := [(Value.bool false)]) h ?_
  intro b_1 w h
  refine embrasurelaw06_awake_ok h hp ?_
  intro r w h hp
  refine ⟨_, rfl, ?_⟩
  refine cond_both hp (fun hp => ?_) (fun hp => ?_)
  · refine storeL (ys := [(Value.bool false)]) h 0 0 rfl rfl rfl sz4 rfl rfl ?_
    intro w h
    dsimp only [setH, setVs, setV] at h
    replace h := h.pick [1]
    dsimp only [pickL, pickR, nthH, delH, dropH, List.cons_append, List.nil_append] at h
    refine ⟨_, cellL h 1 0 rfl rfl rfl, ?_⟩
    replace h := h.sel [] 2
    dsimp only [pickL, pickR, nthH, delH, dropH, List.cons_append, List.nil_append] at h
    exact hR (false) _ h hp
  refine due_New_ok h hp ?_
  intro at__1 b_2 b_3 p_2 w h hp
  refine ⟨_, rfl, ?_⟩
  obtain ⟨Q, hq, hp⟩ := hp
  refine ⟨fun extra1 t4 t5 name6 m_2 w => ∃ (m_1 : List (ByteArray × Int)), ∃ (p_3 : List MapEntry × Nat), extra = extra1 ∧ (Addr.mk b_1 0 none) = t4 ∧ (some (Addr.mk b_2 0 none)) = t5 ∧ Q name6 m_1 ∧ Mem (cel b_2 60 [(Value.map (some b_3))] :: cel b_1 4 [(Value.bool false)] :: mapQ b_3 va9 va3 p_3 m_1 :: marksP m_2 :: FL) w, ?_, ?_⟩
  · rintro extra1 t4 t5 name6 m_2 w ⟨m_1, p_3, rfl, rfl, rfl, hp, h⟩
    replace hp := hq name6 m_1 hp
    unfold embrasurelaw06_DueFull_j1
    obtain ⟨Q_2, hq, hp⟩ := hp
    refine ⟨fun extra1_3 t4_3 t5_3 t63 m_8 w => ∃ (m_7 : List (ByteArray × Int)), ∃ (p_6 : List MapEntry × Nat), extra = extra1_3 ∧ (Addr.mk b_1 0 none) = t4_3 ∧ (some (Addr.mk b_2 0 none)) = t5_3 ∧ Q_2 t63 m_7 ∧ Mem (cel b_2 60 [(Value.map (some b_3))] :: cel b_1 4 [(Value.bool false)] :: mapQ b_3 va9 va3 p_6 m_7 :: marksP m_8 :: FL) w, ?_, ?_⟩
    · rintro extra1_3 t4_3 t5_3 t63 m_8 w ⟨m_7, p_6, rfl, rfl, rfl, hp, h⟩
      replace hp := hq t63 m_7 hp
      unfold embrasurelaw06_DueFull_j2
      refine cond_both hp (fun hp => ?_) (fun hp => ?_)
      · refine storeL (ys := [(Value.bool false)]) h 1 0 rfl rfl rfl sz4 rfl rfl ?_
        intro w h
        dsimp only [setH, setVs, setV] at h
        replace h := h.pick [3]
        dsimp only [pickL, pickR, nthH, delH, dropH, List.cons_append, List.nil_append] at h
        refine finishMarks _ h ?_
        intro w h
        refine ⟨_, cellL h 1 0 rfl rfl rfl, ?_⟩
        replace h := h.sel [] 3
        dsimp only [pickL, pickR, nthH, delH, dropH, List.cons_append, List.nil_append] at h
        exact hR (false) _ h hp
      refine cond_both hp (fun hp => ?_) (fun hp => ?_)
      · refine storeL (ys := [(Value.bool true)]) h 1 0 rfl rfl rfl sz4 rfl rfl ?_
        intro w h
        dsimp only [setH, setVs, setV] at h
        replace h := h.pick [3]
        dsimp only [pickL, pickR, nthH, delH, dropH, List.cons_append, List.nil_append] at h
        refine finishMarks _ h ?_
        intro w h
        refine ⟨_, cellL h 1 0 rfl rfl rfl, ?_⟩
        replace h := h.sel [] 3
        dsimp only [pickL, pickR, nthH, delH, dropH, List.cons_append, List.nil_append] at h
        exact hR (true) _ h hp
      refine newL (o := [(Value.int .i64 0)]) h ?_
      intro b_5 w h
      refine storeL (ys := [(Value.int .i64 0)]) h 0 0 rfl rfl rfl sz3 rfl rfl ?_
      intro w h
      dsimp only [setH, setVs, setV] at h
      refine newL (o := [(Value.int .i64 0)]) h ?_
      intro b_6 w h
      refine storeL (ys := [(Value.int .i64 0)]) h 0 0 rfl rfl rfl sz3 rfl rfl ?_
      intro w h
      dsimp only [setH, setVs, setV] at h
      obtain ⟨Q_3, hq, hp⟩ := hp
      refine ⟨fun extra1_4 t4_4 t5_4 n9 m_12 w => ∃ (x_2 : Int), ∃ (x_3 : Int), ∃ (m_11 : List (ByteArray × Int)), ∃ (p_10 : List MapEntry × Nat), extra = extra1_4 ∧ (Addr.mk b_1 0 none) = t4_4 ∧ (some (Addr.mk b_2 0 none)) = t5_4 ∧ (Addr.mk b_5 0 none) = n9 ∧ Q_3 x_2 x_3 m_11 ∧ Mem (cel b_6 3 [(Value.int .i64 x_2)] :: cel b_5 3 [(Value.int .i64 x_3)] :: cel b_2 60 [(Value.map (some b_3))] :: cel b_1 4 [(Value.bool false)] :: mapQ b_3 va9 va3 p_10 m_11 :: marksP m_12 :: FL) w, ?_, ?_⟩
      · rintro extra1_4 t4_4 t5_4 n9 m_12 w ⟨x_2, x_3, m_11, p_10, rfl, rfl, rfl, rfl, hp, h⟩
        replace hp := hq x_2 x_3 m_11 hp
        unfold embrasurelaw06_DueFull_j3
        replace h := h.pick [2]
        dsimp only [pickL, pickR, nthH, delH, dropH, List.cons_append, List.nil_append] at h
        have hMr_mk3 := romOf (h.drop 1) 3 rfl
        refine due_Table_Next_ok (FL := cel b_6 3 [(Value.int .i64 x_2)] :: cel b_5 3 [(Value.int .i64 x_3)] :: cel b_1 4 [(Value.bool false)] :: mapQ b_3 va9 va3 p_10 m_11 :: marksP m_12 :: FL) hMr_mk3 h hp ?_
        intro r_4 r_5 r_6 w h hp
        refine ⟨_, _, _, rfl, ?_⟩
        refine ⟨_, rfl, ?_⟩
        refine ⟨_, rfl, ?_⟩
        refine ⟨_, cellL h 2 0 rfl rfl rfl, ?_⟩
        refine cond_both' hp (fun hp => ?_) (fun hp => ?_)
        · refine storeL (ys := [(Value.bool false)]) h 3 0 rfl rfl rfl sz4 rfl rfl ?_
          intro w h
          dsimp only [setH, setVs, setV] at h
          replace h := h.pick [5]
          dsimp only [pickL, pickR, nthH, delH, dropH, List.cons_append, List.nil_append] at h
          refine finishMarks _ h ?_
          intro w h
          refine ⟨_, cellL h 3 0 rfl rfl rfl, ?_⟩
          replace h := h.sel [] 5
          dsimp only [pickL, pickR, nthH, delH, dropH, List.cons_append, List.nil_append] at h
          exact hR (false) _ h hp
        refine cond_both' hp (fun hp => ?_) (fun hp => ?_)
        · refine storeL (ys := [(Value.bool false)]) h 3 0 rfl rfl rfl sz4 rfl rfl ?_
          intro w h
          dsimp only [setH, setVs, setV] at h
          replace h := h.pick [5]
          dsimp only [pickL, pickR, nthH, delH, dropH, List.cons_append, List.nil_append] at h
          refine finishMarks _ h ?_
          intro w h
          refine ⟨_, cellL h 3 0 rfl rfl rfl, ?_⟩
          replace h := h.sel [] 5
          dsimp only [pickL, pickR, nthH, delH, dropH, List.cons_append, List.nil_append] at h
          exact hR (false) _ h hp
        replace h := h.pick [0, 3]
        dsimp only [pickL, pickR, nthH, delH, dropH, List.cons_append, List.nil_append] at h
        refine due_Table_Drop_ok h hp ?_
        intro r_7 m_14 p_12 w h hp
        refine ⟨_, rfl, ?_⟩
        refine storeL (ys := [(Value.bool (!r_7))]) h 4 0 rfl rfl rfl sz4 rfl rfl ?_
        intro w h
        dsimp only [setH, setVs, setV] at h
        replace h := h.pick [5]
        dsimp only [pickL, pickR, nthH, delH, dropH, List.cons_append, List.nil_append] at h
        refine finishMarks _ h ?_
        intro w h
        refine ⟨_, cellL h 4 0 rfl rfl rfl, ?_⟩
        replace h := h.sel [] 5
        dsimp only [pickL, pickR, nthH, delH, dropH, List.cons_append, List.nil_append] at h
        exact hR (!r_7) _ h hp
      clear hq
      replace h := h.pick [2]
      dsimp only [pickL, pickR, nthH, delH, dropH, List.cons_append, List.nil_append] at h
      have hMr_mk3 := romOf (h.drop 1) 3 rfl
      refine due_Table_Due_ok (FL := cel b_6 3 [(Value.int .i64 0)] :: cel b_5 3 [(Value.int .i64 0)] :: cel b_1 4 [(Value.bool false)] :: mapQ b_3 va9 va3 p_6 m_7 :: marksP m_8 :: FL) hMr_mk3 h hp ?_
      intro x_4 b_7 b_8 w h hp
      refine ⟨_, _, _, rfl, ?_⟩
      intro e_1 fn_e_1 he_e_1 hr_e_1
      refine newO h ?_
      intro d w h
      refine newO h ?_
      intro l_1 w h
      replace h := h.pick [1, 8]
      dsimp only [pickL, pickR, nthH, delH, dropH, List.cons_append, List.nil_append] at h
      replace h := marksPush h
      show rangeCallW _ (Value.func (Fn.func 24) _ _) _ _ _
      refine rangeCallFn (by kernel_rfl) ?_
      replace h := h.pick [1, 4, 4, 4]
      dsimp only [pickL, pickR, nthH, delH, dropH, List.cons_append, List.nil_append] at h
      replace h : Mem ((fun (s : Nat × Int × Int) => HL [pt l_1 (loopS (embrasurelaw06_DueFull_lo1 fn_e_1 e_1 d) s.1 (fun (n : Nat) => ((if n = 0 then none else (some .ret)) : Option Code))), cel b_6 3 [(Value.int .i64 s.2.1)], cel b_5 3 [(Value.int .i64 s.2.2)], cel b_1 4 [(Value.bool false)]]) (0, 0, 0) :: marksP (d :: m_8) :: cel b_7 24 [(Value.pointer (some (Addr.mk b_2 0 none)))] :: cel b_8 3 [(Value.int .i64 x_4)] :: cel b_2 60 [(Value.map (some b_3))] :: mapQ b_3 va9 va3 p_6 m_7 :: FL) _ := h.pack 4 [pt l_1 (loopS (embrasurelaw06_DueFull_lo1 fn_e_1 e_1 d) 0 (fun (n : Nat) => ((if n = 0 then none else (some .ret)) : Option Code))), cel b_6 3 [(Value.int .i64 0)], cel b_5 3 [(Value.int .i64 0)], cel b_1 4 [(Value.bool false)]] rfl
      replace h := h.pick [2, 3, 3, 2, 0]
      dsimp only [pickL, pickR, nthH, delH, dropH, List.cons_append, List.nil_append] at h
      refine due_Table_Due_c1_ok (FL := marksP (d :: m_8) :: FL) (A0 := (fun (s : Nat × Int × Int) => HL [pt l_1 (loopS (embrasurelaw06_DueFull_lo1 fn_e_1 e_1 d) s.1 (fun (n : Nat) => ((if n = 0 then none else (some .ret)) : Option Code))), cel b_6 3 [(Value.int .i64 s.2.1)], cel b_5 3 [(Value.int .i64 s.2.2)], cel b_1 4 [(Value.bool false)]])) (Y0 := (fun x_7 x_8 (s : Nat × Int × Int) K_1 => s.1 = 0 ∧ (cond (decide ((x_8 : Int) < s.2.1)) (K_1 false (1, s.2.1, s.2.2)) (K_1 true (0, x_8, (IntKind.wrap .i64 (s.2.2 + 1))))))) (σ0 := Nat × Int × Int) (s := (0, 0, 0)) ?_ h hp ?_
      · intro x_7 x_8 s K_1 FL2 w R hx h hp hR
        replace h := h.unpack
        dsimp only [pickL, pickR, nthH, delH, dropH, List.cons_append, List.nil_append] at h
        obtain ⟨hst, hp⟩ := hp
        refine embrasurelaw06_DueFull_r1_yield (by have := objAt h 0 rfl; rw [hst] at this; exact this) he_e_1 hr_e_1 ?_
        unfold embrasurelaw06_DueFull_r1
        refine ⟨_, (by have := objAt h 0 rfl; rw [hst] at this; exact this : _ = some (Obj.loop (embrasurelaw06_DueFull_lo1 fn_e_1 e_1 d))), rfl, ?_⟩
        replace h := h.putK 0 rfl (.loop { embrasurelaw06_DueFull_lo1 fn_e_1 e_1 d with state := .busy })
        dsimp only [setH] at h
        refine ⟨_, cellL h 1 0 rfl rfl rfl, ?_⟩
        refine cond_both hp (fun hp => ?_) (fun hp => ?_)
        · refine storeL (ys := [(Value.bool false)]) h 3 0 rfl rfl rfl sz4 rfl rfl ?_
          intro w h
          dsimp only [setH, setVs, setV] at h
          refine ⟨_, objAt h 0 rfl, ?_⟩
          replace h := h.putK 0 rfl (loopS (embrasurelaw06_DueFull_lo1 fn_e_1 e_1 d) 1 (fun (n : Nat) => ((if n = 0 then none else (some .ret)) : Option Code)))
          dsimp only [setH] at h
          exact hR false (1, s.2.1, s.2.2) _ (h.pack 4 [pt l_1 (loopS (embrasurelaw06_DueFull_lo1 fn_e_1 e_1 d) 1 (fun (n : Nat) => ((if n = 0 then none else (some .ret)) : Option Code))), cel b_6 3 [(Value.int .i64 s.2.1)], cel b_5 3 [(Value.int .i64 s.2.2)], cel b_1 4 [(Value.bool false)]] rfl) hp
        refine storeL (ys := [(Value.int .i64 x_8)]) h 1 0 rfl rfl rfl sz3 rfl rfl ?_
        intro w h
        dsimp only [setH, setVs, setV] at h
        refine ⟨_, cellL h 2 0 rfl rfl rfl, ?_⟩
        refine storeL (ys := [(Value.int .i64 (IntKind.wrap .i64 (s.2.2 + 1)))]) h 2 0 rfl rfl rfl sz3 rfl rfl ?_
        intro w h
        dsimp only [setH, setVs, setV] at h
        refine ⟨_, objAt h 0 rfl, ?_⟩
        replace h := h.putK 0 rfl (loopS (embrasurelaw06_DueFull_lo1 fn_e_1 e_1 d) 0 (fun (n : Nat) => ((if n = 0 then none else (some .ret)) : Option Code)))
        dsimp only [setH] at h
        exact hR true (0, x_8, (IntKind.wrap .i64 (s.2.2 + 1))) _ (h.pack 4 [pt l_1 (loopS (embrasurelaw06_DueFull_lo1 fn_e_1 e_1 d) 0 (fun (n : Nat) => ((if n = 0 then none else (some .ret)) : Option Code))), cel b_6 3 [(Value.int .i64 x_8)], cel b_5 3 [(Value.int .i64 (IntKind.wrap .i64 (s.2.2 + 1)))], cel b_1 4 [(Value.bool false)]] rfl) hp
      intro m_13 s_1 p_11 w h hp
      replace h := h.pick [4]
      dsimp only [pickL, pickR, nthH, delH, dropH, List.cons_append, List.nil_append] at h
      replace h := h.unpack
      dsimp only [pickL, pickR, nthH, delH, dropH, List.cons_append, List.nil_append] at h
      refine ⟨_, objAt h 0 rfl, loopS_ns _, ?_⟩
      replace h := h.putK 0 rfl (.loop { embrasurelaw06_DueFull_lo1 fn_e_1 e_1 d with state := .exhausted, pending := (fun (n : Nat) => ((if n = 0 then none else (some .ret)) : Option Code)) s_1.1 })
      dsimp only [setH] at h
      rcases hp with ⟨hst, hp⟩ | ⟨hst, hp⟩
      · refine Or.inl ?_
        refine ⟨congrArg (fun (n : Nat) => ((if n = 0 then none else (some .ret)) : Option Code)) hst, ?_⟩
        replace h := h.sel [1, 1, 3, 1, 3, 3] 3
        dsimp only [pickL, pickR, nthH, delH, dropH, List.cons_append, List.nil_append] at h
        exact ⟨s_1.2.1, s_1.2.2, m_13, p_11, rfl, rfl, rfl, rfl, hp, h⟩
      · refine Or.inr (?_)
        refine ⟨show (fun (n : Nat) => ((if n = 0 then none else (some .ret)) : Option Code)) s_1.1 = _ from if_neg hst, ?_⟩
        replace h := h.pick [8]
        dsimp only [pickL, pickR, nthH, delH, dropH, List.cons_append, List.nil_append] at h
        refine finishMarks _ h ?_
        intro w h
        refine ⟨_, cellL h 3 0 rfl rfl rfl, ?_⟩
        replace h := h.sel [] 8
        dsimp only [pickL, pickR, nthH, delH, dropH, List.cons_append, List.nil_append] at h
        exact hR (false) _ h hp
    clear hq
    replace h := h.pick [0, 1]
    dsimp only [pickL, pickR, nthH, delH, dropH, List.cons_append, List.nil_append] at h
    refine due_Table_Set_ok h hp ?_
    intro r_2 m_9 p_7 w h hp
    refine ⟨_, rfl, ?_⟩
    refine cond_both hp (fun hp => ?_) (fun hp => ?_)
    · replace h := h.sel [0, 1, 0, 0] 0
      dsimp only [pickL, pickR, nthH, delH, dropH, List.cons_append, List.nil_append] at h
      exact ⟨m_9, p_7, rfl, rfl, rfl, hp, h⟩
    refine due_Table_Set_ok h hp ?_
    intro r_3 m_10 p_8 w h hp
    refine ⟨_, rfl, ?_⟩
    refine cond_both hp (fun hp => ?_) (fun hp => ?_)
    · replace h := h.sel [0, 1, 0, 0] 0
      dsimp only [pickL, pickR, nthH, delH, dropH, List.cons_append, List.nil_append] at h
      exact ⟨m_10, p_8, rfl, rfl, rfl, hp, h⟩
    have hMr_mk3 := romOf (h.drop 1) 0 rfl
    refine due_Table_Names_ok (FL := mapQ b_3 va9 va3 p_8 m_10 :: cel b_1 4 [(Value.bool false)] :: marksP m_2 :: FL) hMr_mk3 h hp ?_
    rintro rs p_9 n_5 c_2 w rfl h hp
    have cpp_9 := rowCap h 0 rfl
    refine ⟨_, _, _, rfl, ?_⟩
    replace h := h.sel [1, 2, 1, 1] 1
    dsimp only [pickL, pickR, nthH, delH, dropH, List.cons_append, List.nil_append] at h
    exact ⟨m_10, p_8, rfl, rfl, rfl, hp, h⟩
  clear hq
  obtain ⟨I, ⟨n_4, h0⟩, hq⟩ := hp
  replace h := h.sel [0, 1, 0, 0] 0
  dsimp only [pickL, pickR, nthH, delH, dropH, List.cons_append, List.nil_append] at h
  refine ⟨fun n_2 at0p at0l at0c extra1_1 t4_1 t5_1 name6_1 i7 m_4 w => ∃ (m_3 : List (ByteArray × Int)), ∃ (p_4 : List MapEntry × Nat), p_1 = at0p ∧ at_.length = at0l ∧ c_1 = at0c ∧ extra = extra1_1 ∧ (Addr.mk b_1 0 none) = t4_1 ∧ (some (Addr.mk b_2 0 none)) = t5_1 ∧ I n_2 name6_1 i7 m_3 ∧ Mem (cel b_2 60 [(Value.map (some b_3))] :: cel b_1 4 [(Value.bool false)] :: mapQ b_3 va9 va3 p_4 m_3 :: marksP m_4 :: FL) w, ⟨n_4, at__1, p_2, rfl, rfl, rfl, rfl, rfl, rfl, h0, h⟩, ?_⟩
  clear h0 h
  rintro n_2 at0p at0l at0c extra1_1 t4_1 t5_1 name6_1 i7 m_4 w ⟨m_3, p_4, rfl, rfl, rfl, rfl, rfl, rfl, hp, h⟩
  replace hp := hq n_2 name6_1 i7 m_3 hp
  clear hq
  unfold embrasurelaw06_DueFull_l4
  refine cond_both' hp (fun hp => ?_) (fun hp => ?_)
  · exact ⟨m_3, p_4, rfl, rfl, rfl, hp, h⟩
  obtain ⟨Q_1, hq, hp⟩ := hp
  refine ⟨fun at0_1p at0_1l at0_1c extra1_2 t4_2 t5_2 i7_1 x8 m_5 w => p_1 = at0_1p ∧ at_.length = at0_1l ∧ c_1 = at0_1c ∧ extra = extra1_2 ∧ (Addr.mk b_1 0 none) = t4_2 ∧ (some (Addr.mk b_2 0 none)) = t5_2 ∧ i7 = i7_1 ∧ Q_1 x8 ∧ Mem (cel b_2 60 [(Value.map (some b_3))] :: cel b_1 4 [(Value.bool false)] :: mapQ b_3 va9 va3 p_4 m_3 :: marksP m_5 :: FL) w, ?_, ?_⟩
  · rintro at0_1p at0_1l at0_1c extra1_2 t4_2 t5_2 i7_1 x8 m_5 w ⟨rfl, rfl, rfl, rfl, rfl, rfl, rfl, hp, h⟩
    replace hp := hq x8 hp
    unfold embrasurelaw06_DueFull_j5
    refine ⟨by decide, ?_⟩
    refine ⟨by decide, ?_⟩
    refine newL (o := [(Value.int .u8 110), (Value.int .u8 (IntKind.wrap .u8 (IntKind.wrap .i64 (97 + (IntKind.wrap .i64 (Int.tdiv i7 26)))))), (Value.int .u8 (IntKind.wrap .u8 (IntKind.wrap .i64 (97 + (Int.tmod i7 26)))))]) h ?_
    intro b_4 w h
    refine bytesStr (enc := enc5) und27 undI5 undStr9 (celRd h 0 encL5 rfl [110, (IntKind.wrap .u8 (IntKind.wrap .i64 (97 + (IntKind.wrap .i64 (Int.tdiv i7 26))))), (IntKind.wrap .u8 (IntKind.wrap .i64 (97 + (Int.tmod i7 26))))] rfl) (fun _ => rfl) rfl ?_
    refine ⟨_, rfl, ?_⟩
    replace h := h.pick [1, 2]
    dsimp only [pickL, pickR, nthH, delH, dropH, List.cons_append, List.nil_append] at h
    refine due_Table_Set_ok h hp ?_
    intro r_1 m_6 p_5 w h hp
    refine ⟨_, rfl, ?_⟩
    refine cond_both' hp (fun hp => ?_) (fun hp => ?_)
    · replace h := h.sel [0, 2, 0, 1] 1
      dsimp only [pickL, pickR, nthH, delH, dropH, List.cons_append, List.nil_append] at h
      obtain ⟨n_3, hn, hp⟩ := hp
      exact ⟨n_3, hn, m_6, p_5, rfl, rfl, rfl, rfl, rfl, rfl, hp, h⟩
    refine storeL (ys := [(Value.bool false)]) h 3 0 rfl rfl rfl sz4 rfl rfl ?_
    intro w h
    dsimp only [setH, setVs, setV] at h
    replace h := h.pick [4]
    dsimp only [pickL, pickR, nthH, delH, dropH, List.cons_append, List.nil_append] at h
    refine finishMarks _ h ?_
    intro w h
    refine ⟨_, cellL h 3 0 rfl rfl rfl, ?_⟩
    replace h := h.sel [] 4
    dsimp only [pickL, pickR, nthH, delH, dropH, List.cons_append, List.nil_append] at h
    exact hR (false) _ h hp
  clear hq
  refine cond_both' hp (fun hp => ?_) (fun hp => ?_)
  · exact ⟨rfl, rfl, rfl, rfl, rfl, rfl, rfl, hp, h⟩
  refine ⟨hp.1, ?_⟩
  replace hp := hp.2
  obtain ⟨ia_1, ja_1, hp⟩ := hp
  obtain ⟨a_1, ha_1⟩ := rdAddr (hF_at_ _ (h.drop 4)) rfl ia_1 ja_1
  refine ⟨a_1, ha_1, ia_1, ja_1, ?_⟩
  obtain ⟨x_1, hx_1, hc⟩ := rdCell0 (hF_at_ _ (h.drop 4)) ha_1 rfl ia_1 ja_1
  replace hp := hp x_1 hx_1
  refine ⟨_, hc _ rfl, ?_⟩
  exact ⟨rfl, rfl, rfl, rfl, rfl, rfl, rfl, hp, h⟩

/-! embrasure/embrasurelaw06.DueParts (4) -/
def embrasurelaw06_DueParts_wp (times : List (Int)) (now_x : Int) (now_x_1 : Int) (K : Bool → Prop) : Prop :=
  embrasurelaw06_awake_wp (fun (r : Bool) => cond (!r) (K false) (cond (decide ((((times.length : Nat) : Int) : Int) > 60)) (K true) (due_New_wp (fun (at_ : List (ByteArray × Int)) => due_New_wp (fun (at__1 : List (ByteArray × Int)) => joinP2 (fun (m_1 : List (ByteArray × Int)) (m_2 : List (ByteArray × Int)) => joinP2 (fun (x_3 : ByteArray) (m_12 : List (ByteArray × Int)) => joinP2 (fun (x_8 : ByteArray) (m_15 : List (ByteArray × Int)) => joinP2 (fun (x_13 : ByteArray) (m_18 : List (ByteArray × Int)) => cond (x_8 == x_13) (due_Table_Names_wp m_15 (fun (rs : List (ByteArray)) => due_Table_Names_wp m_18 (fun (rs_1 : List (ByteArray)) => K ((((rs.length : Nat) : Int) : Int) == ((rs_1.length : Nat) : Int))))) (K false)) (fun (Q_4 : ByteArray → List (ByteArray × Int) → Prop) => due_Table_Due_wp m_1 (IntKind.wrap .i64 (if (now_x_1 : Int) > now_x then now_x_1 else now_x)) (fun (x_14 : Int) => due_Table_Due_c1_wp (0, ((ByteArray.mk ([]).toArray))) (fun x_16 x_17 (s_4 : Nat × ByteArray) K_3 => s_4.1 = 0 ∧ (s_4.2.size + x_16.size ≤ 9223372036854775807 ∧ (K_3 true (0, (s_4.2 ++ x_16))))) m_1 x_14 (fun (m_20 : List (ByteArray × Int)) (s_5 : (Nat × ByteArray)) => (s_5.1 = 0 ∧ (Q_4 s_5.2 m_20)))))) (fun (Q_3 : ByteArray → List (ByteArray × Int) → Prop) => due_Table_Due_wp m_12 (IntKind.wrap .i64 (if (now_x_1 : Int) > now_x then now_x_1 else now_x)) (fun (x_9 : Int) => due_Table_Due_c1_wp (0, x_3) (fun x_11 x_12 (s_2 : Nat × ByteArray) K_2 => s_2.1 = 0 ∧ (s_2.2.size + x_11.size ≤ 9223372036854775807 ∧ (K_2 true (0, (s_2.2 ++ x_11))))) m_12 x_9 (fun (m_17 : List (ByteArray × Int)) (s_3 : (Nat × ByteArray)) => (s_3.1 = 0 ∧ (Q_3 s_3.2 m_17)))))) (fun (Q_2 : ByteArray → List (ByteArray × Int) → Prop) => due_Table_Due_wp m_2 (IntKind.wrap .i64 (if (now_x_1 : Int) < now_x then now_x_1 else now_x)) (fun (x_4 : Int) => due_Table_Due_c1_wp (0, ((ByteArray.mk ([]).toArray))) (fun x_6 x_7 (s : Nat × ByteArray) K_1 => s.1 = 0 ∧ (s.2.size + x_6.size ≤ 9223372036854775807 ∧ (K_1 true (0, (s.2 ++ x_6))))) m_2 x_4 (fun (m_14 : List (ByteArray × Int)) (s_1 : (Nat × ByteArray)) => (s_1.1 = 0 ∧ (Q_2 s_1.2 m_14)))))) (fun (Q : List (ByteArray × Int) → List (ByteArray × Int) → Prop) => ∃ (I : Nat → Int → List (ByteArray × Int) → List (ByteArray × Int) → Prop), (∃ (n_4 : Nat), I n_4 0 at__1 at_) ∧ ∀ (n_2 : Nat) (i7 : Int) (m_4 : List (ByteArray × Int)) (m_5 : List (ByteArray × Int)), I n_2 i7 m_4 m_5 → (cond (decide ((i7 : Int) < ((times.length : Nat) : Int))) (joinP3 (fun (t58 : Bool) (m_7 : List (ByteArray × Int)) (m_8 : List (ByteArray × Int)) => cond t58 (K false) (∃ (n_3 : Nat), n_3 < n_2 ∧ I n_3 (IntKind.wrap .i64 (i7 + 1)) m_7 m_8)) (fun (Q_1 : Bool → List (ByteArray × Int) → List (ByteArray × Int) → Prop) => 0 ≤ (i7 : Int) ∧ (i7 : Int) < ((times.length : Nat) : Int) ∧ (∀ (x_1 : Int), times[Int.toNat i7]? = some x_1 → (due_Table_Set_wp m_5 (strOf [(IntKind.wrap .u8 (IntKind.wrap .i64 (97 + (Int.tmod i7 26)))), (IntKind.wrap .u8 (IntKind.wrap .i64 (48 + (IntKind.wrap .i64 (Int.tdiv i7 26)))))]) (IntKind.wrap .i64 x_1) (fun (r_1 : Int) (m_10 : List (ByteArray × Int)) => cond ((r_1 : Int) != 0) (Q_1 true m_4 m_10) (0 ≤ (i7 : Int) ∧ (i7 : Int) < ((times.length : Nat) : Int) ∧ (∀ (x_2 : Int), times[Int.toNat i7]? = some x_2 → (due_Table_Set_wp m_4 (strOf [(IntKind.wrap .u8 (IntKind.wrap .i64 (97 + (Int.tmod i7 26)))), (IntKind.wrap .u8 (IntKind.wrap .i64 (48 + (IntKind.wrap .i64 (Int.tdiv i7 26)))))]) (IntKind.wrap .i64 x_2) (fun (r_2 : Int) (m_11 : List (ByteArray × Int)) => Q_1 ((r_2 : Int) != 0) m_11 m_10))))))))) (Q m_4 m_5))))))))
theorem embrasurelaw06_DueParts_ok {p_1 : Option Addr} {n_1 : Nat} {c_1 : Nat} {times : List (Int)} {now_x : Int} {now_x_1 : Int} {FL : List HP} {w : World} {K : Bool → Prop} {R : Value → World → Prop}
  (hF_times : ∀ w, Mem FL w → Rd w 1 p_1 enc26 times) (hl_times : n_1 = times.length) (hc_times : n_1 ≤ c_1)
  (h : Mem (FL) w) (hp : embrasurelaw06_DueParts_wp times now_x now_x_1 K)
  (hR : ∀ (r : Bool) (w : World), Mem (FL) w → K r → R (Value.bool r) w) :
  CallV Try.prog 4 #[(Value.slice p_1 n_1 c_1), (Value.agg #[(Value.int .u16 now_x), (Value.int .u16 now_x_1)])] w R := by
  refine embrasurelaw06_DueParts_call ?_
  unfold embrasurelaw06_DueParts
  unfold embrasurelaw06_DueParts_wp at hp
  subst hl_times
  replace h := marksNil h
  refine newL (o := [(Value.int .u16 now_x), (Value.int .u16 now_x_1)]) h ?_
  intro b_1 w h
  refine embrasurelaw06_awake_ok h hp ?_
  intro r w h hp
  refine ⟨_, rfl, ?_⟩
  refine cond_both hp (fun hp => ?_) (fun hp => ?_)
  · replace h := h.pick [1]
    dsimp only [pickL, pickR, nthH, delH, dropH, List.cons_append, List.nil_append] at h
    replace h := h.sel [] 2
    dsimp only [pickL, pickR, nthH, delH, dropH, List.cons_append, List.nil_append] at h
    exact hR false _ h hp
  refine cond_both hp (fun hp => ?_) (fun hp => ?_)
  · replace h := h.pick [1]
    dsimp only [pickL, pickR, nthH, delH, dropH, List.cons_append, List.nil_append] at h
    replace h := h.sel [] 2
    dsimp only [pickL, pickR, nthH, delH, dropH, List.cons_append, List.nil_append] at h
    exact hR true _ h hp
  refine due_New_ok h hp ?_
  intro at_ b_2 b_3 p_2 w h hp
  refine ⟨_, rfl, ?_⟩
  refine due_New_ok h hp ?_
  intro at__1 b_4 b_5 p_3 w h hp
  refine ⟨_, rfl, ?_⟩
  obtain ⟨Q, hq, hp⟩ := hp
  refine ⟨fun now3 t4 a5 b6 m_3 w => ∃ (m_1 : List (ByteArray × Int)), ∃ (p_4 : List MapEntry × Nat), ∃ (m_2 : List (ByteArray × Int)), ∃ (p_5 : List MapEntry × Nat), (Addr.mk b_1 0 none) = now3 ∧ false = t4 ∧ (some (Addr.mk b_2 0 none)) = a5 ∧ (some (Addr.mk b_4 0 none)) = b6 ∧ Q m_1 m_2 ∧ Mem (cel b_4 60 [(Value.map (some b_5))] :: cel b_2 60 [(Value.map (some b_3))] :: cel b_1 39 [(Value.int .u16 now_x), (Value.int .u16 now_x_1)] :: mapQ b_5 va9 va3 p_4 m_1 :: mapQ b_3 va9 va3 p_5 m_2 :: marksP m_3 :: FL) w, ?_, ?_⟩
  · rintro now3 t4 a5 b6 m_3 w ⟨m_1, p_4, m_2, p_5, rfl, rfl, rfl, rfl, hp, h⟩
    replace hp := hq m_1 m_2 hp
    unfold embrasurelaw06_DueParts_j1
    refine ⟨by decide, by decide, ?_⟩
    refine ⟨_, cellL h 2 0 rfl rfl rfl, ?_⟩
    refine ⟨by decide, by decide, ?_⟩
    refine ⟨_, cellL h 2 1 rfl rfl rfl, ?_⟩
    refine ⟨by decide, by decide, ?_⟩
    refine ⟨_, cellL h 2 0 rfl rfl rfl, ?_⟩
    refine ⟨by decide, by decide, ?_⟩
    refine ⟨_, cellL h 2 1 rfl rfl rfl, ?_⟩
    refine newL (o := [(Value.string ((ByteArray.mk ([]).toArray)))]) h ?_
    intro b_7 w h
    refine storeL (ys := [(Value.string ((ByteArray.mk ([]).toArray)))]) h 0 0 rfl rfl rfl sz9 rfl rfl ?_
    intro w h
    dsimp only [setH, setVs, setV] at h
    refine newL (o := [(Value.string ((ByteArray.mk ([]).toArray)))]) h ?_
    intro b_8 w h
    refine storeL (ys := [(Value.string ((ByteArray.mk ([]).toArray)))]) h 0 0 rfl rfl rfl sz9 rfl rfl ?_
    intro w h
    dsimp only [setH, setVs, setV] at h
    obtain ⟨Q_2, hq, hp⟩ := hp
    refine ⟨fun t4_3 a5_3 b6_3 two10 x11 y12 m_13 w => ∃ (x_3 : ByteArray), ∃ (m_12 : List (ByteArray × Int)), ∃ (p_12 : List MapEntry × Nat), false = t4_3 ∧ (some (Addr.mk b_2 0 none)) = a5_3 ∧ (some (Addr.mk b_4 0 none)) = b6_3 ∧ (IntKind.wrap .i64 (if (now_x_1 : Int) > now_x then now_x_1 else now_x)) = two10 ∧ (Addr.mk b_7 0 none) = x11 ∧ (Addr.mk b_8 0 none) = y12 ∧ Q_2 x_3 m_12 ∧ Mem (cel b_8 9 [(Value.string ((ByteArray.mk ([]).toArray)))] :: cel b_7 9 [(Value.string x_3)] :: cel b_4 60 [(Value.map (some b_5))] :: cel b_2 60 [(Value.map (some b_3))] :: cel b_1 39 [(Value.int .u16 now_x), (Value.int .u16 now_x_1)] :: mapQ b_5 va9 va3 p_4 m_1 :: mapQ b_3 va9 va3 p_12 m_12 :: marksP m_13 :: FL) w, ?_, ?_⟩
    · rintro t4_3 a5_3 b6_3 two10 x11 y12 m_13 w ⟨x_3, m_12, p_12, rfl, rfl, rfl, rfl, rfl, rfl, hp, h⟩
      replace hp := hq x_3 m_12 hp
      unfold embrasurelaw06_DueParts_j2
      obtain ⟨Q_3, hq, hp⟩ := hp
      refine ⟨fun t4_4 a5_4 b6_4 two10_1 x11_1 y12_1 m_16 w => ∃ (x_8 : ByteArray), ∃ (m_15 : List (ByteArray × Int)), ∃ (p_14 : List MapEntry × Nat), false = t4_4 ∧ (some (Addr.mk b_2 0 none)) = a5_4 ∧ (some (Addr.mk b_4 0 none)) = b6_4 ∧ (IntKind.wrap .i64 (if (now_x_1 : Int) > now_x then now_x_1 else now_x)) = two10_1 ∧ (Addr.mk b_7 0 none) = x11_1 ∧ (Addr.mk b_8 0 none) = y12_1 ∧ Q_3 x_8 m_15 ∧ Mem (cel b_8 9 [(Value.string ((ByteArray.mk ([]).toArray)))] :: cel b_7 9 [(Value.string x_8)] :: cel b_4 60 [(Value.map (some b_5))] :: cel b_2 60 [(Value.map (some b_3))] :: cel b_1 39 [(Value.int .u16 now_x), (Value.int .u16 now_x_1)] :: mapQ b_5 va9 va3 p_4 m_1 :: mapQ b_3 va9 va3 p_14 m_15 :: marksP m_16 :: FL) w, ?_, ?_⟩
      · rintro t4_4 a5_4 b6_4 two10_1 x11_1 y12_1 m_16 w ⟨x_8, m_15, p_14, rfl, rfl, rfl, rfl, rfl, rfl, hp, h⟩
        replace hp := hq x_8 m_15 hp
        unfold embrasurelaw06_DueParts_j3
        obtain ⟨Q_4, hq, hp⟩ := hp
        refine ⟨fun a5_5 b6_5 x11_2 y12_2 m_19 w => ∃ (x_13 : ByteArray), ∃ (m_18 : List (ByteArray × Int)), ∃ (p_16 : List MapEntry × Nat), (some (Addr.mk b_2 0 none)) = a5_5 ∧ (some (Addr.mk b_4 0 none)) = b6_5 ∧ (Addr.mk b_7 0 none) = x11_2 ∧ (Addr.mk b_8 0 none) = y12_2 ∧ Q_4 x_13 m_18 ∧ Mem (cel b_8 9 [(Value.string x_13)] :: cel b_7 9 [(Value.string x_8)] :: cel b_4 60 [(Value.map (some b_5))] :: cel b_2 60 [(Value.map (some b_3))] :: cel b_1 39 [(Value.int .u16 now_x), (Value.int .u16 now_x_1)] :: mapQ b_5 va9 va3 p_16 m_18 :: mapQ b_3 va9 va3 p_14 m_15 :: marksP m_19 :: FL) w, ?_, ?_⟩
        · rintro a5_5 b6_5 x11_2 y12_2 m_19 w ⟨x_13, m_18, p_16, rfl, rfl, rfl, rfl, hp, h⟩
          replace hp := hq x_13 m_18 hp
          unfold embrasurelaw06_DueParts_j4
          refine ⟨_, cellL h 1 0 rfl rfl rfl, ?_⟩
          refine ⟨_, cellL h 0 0 rfl rfl rfl, ?_⟩
          refine eqlStr ?_
          refine ⟨_, rfl, ?_⟩
          refine cond_both' hp (fun hp => ?_) (fun hp => ?_)
          · replace h := h.pick [7]
            dsimp only [pickL, pickR, nthH, delH, dropH, List.cons_append, List.nil_append] at h
            refine finishMarks _ h ?_
            intro w h
            replace h := h.sel [] 7
            dsimp only [pickL, pickR, nthH, delH, dropH, List.cons_append, List.nil_append] at h
            exact hR false _ h hp
          replace h := h.pick [3]
          dsimp only [pickL, pickR, nthH, delH, dropH, List.cons_append, List.nil_append] at h
          have hMr_mk5 := romOf (h.drop 1) 4 rfl
          have hMr_mk3 := romOf (h.drop 1) 5 rfl
          refine due_Table_Names_ok (FL := cel b_8 9 [(Value.string x_13)] :: cel b_7 9 [(Value.string x_8)] :: cel b_4 60 [(Value.map (some b_5))] :: cel b_1 39 [(Value.int .u16 now_x), (Value.int .u16 now_x_1)] :: mapQ b_5 va9 va3 p_16 m_18 :: mapQ b_3 va9 va3 p_14 m_15 :: marksP m_19 :: FL) hMr_mk3 h hp ?_
          rintro rs p_18 n_5 c_2 w rfl h hp
          have cpp_18 := rowCap h 0 rfl
          refine ⟨_, _, _, rfl, ?_⟩
          replace h := h.pick [4]
          dsimp only [pickL, pickR, nthH, delH, dropH, List.cons_append, List.nil_append] at h
          have hMr_mk5 := romOf (h.drop 1) 5 rfl
          have hMr_mk3 := romOf (h.drop 1) 6 rfl
          refine due_Table_Names_ok (FL := row enc9 9 1 p_18 c_2 rs :: cel b_2 60 [(Value.map (some b_3))] :: cel b_8 9 [(Value.string x_13)] :: cel b_7 9 [(Value.string x_8)] :: cel b_1 39 [(Value.int .u16 now_x), (Value.int .u16 now_x_1)] :: mapQ b_5 va9 va3 p_16 m_18 :: mapQ b_3 va9 va3 p_14 m_15 :: marksP m_19 :: FL) hMr_mk5 h hp ?_
          rintro rs_1 p_19 n_6 c_3 w rfl h hp
          have cpp_19 := rowCap h 0 rfl
          refine ⟨_, _, _, rfl, ?_⟩
          replace h := h.pick [9]
          dsimp only [pickL, pickR, nthH, delH, dropH, List.cons_append, List.nil_append] at h
          refine finishMarks _ h ?_
          intro w h
          replace h := h.sel [] 9
          dsimp only [pickL, pickR, nthH, delH, dropH, List.cons_append, List.nil_append] at h
          exact hR ((((rs.length : Nat) : Int) : Int) == ((rs_1.length : Nat) : Int)) _ h hp
        clear hq
        replace h := h.pick [2]
        dsimp only [pickL, pickR, nthH, delH, dropH, List.cons_append, List.nil_append] at h
        have hMr_mk5 := romOf (h.drop 1) 4 rfl
        have hMr_mk3 := romOf (h.drop 1) 5 rfl
        refine due_Table_Due_ok (FL := cel b_8 9 [(Value.string ((ByteArray.mk ([]).toArray)))] :: cel b_7 9 [(Value.string x_8)] :: cel b_2 60 [(Value.map (some b_3))] :: cel b_1 39 [(Value.int .u16 now_x), (Value.int .u16 now_x_1)] :: mapQ b_5 va9 va3 p_4 m_1 :: mapQ b_3 va9 va3 p_14 m_15 :: marksP m_16 :: FL) hMr_mk5 h hp ?_
        intro x_14 b_13 b_14 w h hp
        refine ⟨_, _, _, rfl, ?_⟩
        intro e_3 fn_e_3 he_e_3 hr_e_3
        refine newO h ?_
        intro d_2 w h
        refine newO h ?_
        intro l_3 w h
        replace h := h.pick [1, 10]
        dsimp only [pickL, pickR, nthH, delH, dropH, List.cons_append, List.nil_append] at h
        replace h := marksPush h
        show rangeCallW _ (Value.func (Fn.func 24) _ _) _ _ _
        refine rangeCallFn (by kernel_rfl) ?_
        replace h := h.pick [1, 4, 4, 4, 4]
        dsimp only [pickL, pickR, nthH, delH, dropH, List.cons_append, List.nil_append] at h
        replace h : Mem ((fun (s_4 : Nat × ByteArray) => HL [pt l_3 (loopS (embrasurelaw06_DueParts_lo1 fn_e_3 e_3 d_2) s_4.1 (fun (n : Nat) => (none : Option Code))), cel b_8 9 [(Value.string s_4.2)], cel b_7 9 [(Value.string x_8)], cel b_2 60 [(Value.map (some b_3))], cel b_1 39 [(Value.int .u16 now_x), (Value.int .u16 now_x_1)]]) (0, ((ByteArray.mk ([]).toArray))) :: marksP (d_2 :: m_16) :: cel b_13 24 [(Value.pointer (some (Addr.mk b_4 0 none)))] :: cel b_14 3 [(Value.int .i64 x_14)] :: cel b_4 60 [(Value.map (some b_5))] :: mapQ b_5 va9 va3 p_4 m_1 :: mapQ b_3 va9 va3 p_14 m_15 :: FL) _ := h.pack 5 [pt l_3 (loopS (embrasurelaw06_DueParts_lo1 fn_e_3 e_3 d_2) 0 (fun (n : Nat) => (none : Option Code))), cel b_8 9 [(Value.string ((ByteArray.mk ([]).toArray)))], cel b_7 9 [(Value.string x_8)], cel b_2 60 [(Value.map (some b_3))], cel b_1 39 [(Value.int .u16 now_x), (Value.int .u16 now_x_1)]] rfl
        replace h := h.pick [2, 3, 3, 2, 0]
        dsimp only [pickL, pickR, nthH, delH, dropH, List.cons_append, List.nil_append] at h
        have hMr_mk3 := romOf (h.drop 5) 1 rfl
        refine due_Table_Due_c1_ok (FL := marksP (d_2 :: m_16) :: mapQ b_3 va9 va3 p_14 m_15 :: FL) (A0 := (fun (s_4 : Nat × ByteArray) => HL [pt l_3 (loopS (embrasurelaw06_DueParts_lo1 fn_e_3 e_3 d_2) s_4.1 (fun (n : Nat) => (none : Option Code))), cel b_8 9 [(Value.string s_4.2)], cel b_7 9 [(Value.string x_8)], cel b_2 60 [(Value.map (some b_3))], cel b_1 39 [(Value.int .u16 now_x), (Value.int .u16 now_x_1)]])) (Y0 := (fun x_16 x_17 (s_4 : Nat × ByteArray) K_3 => s_4.1 = 0 ∧ (s_4.2.size + x_16.size ≤ 9223372036854775807 ∧ (K_3 true (0, (s_4.2 ++ x_16)))))) (σ0 := Nat × ByteArray) (s := (0, ((ByteArray.mk ([]).toArray)))) ?_ h hp ?_
        · intro x_16 x_17 s_4 K_3 FL2 w R hx h hp hR
          replace h := h.unpack
          dsimp only [pickL, pickR, nthH, delH, dropH, List.cons_append, List.nil_append] at h
          obtain ⟨hst, hp⟩ := hp
          refine embrasurelaw06_DueParts_r1_yield (by have := objAt h 0 rfl; rw [hst] at this; exact this) he_e_3 hr_e_3 ?_
          unfold embrasurelaw06_DueParts_r1
          have hMx_mk3 := hMr_mk3.mono hx
          refine ⟨_, (by have := objAt h 0 rfl; rw [hst] at this; exact this : _ = some (Obj.loop (embrasurelaw06_DueParts_lo1 fn_e_3 e_3 d_2))), rfl, ?_⟩
          replace h := h.putK 0 rfl (.loop { embrasurelaw06_DueParts_lo1 fn_e_3 e_3 d_2 with state := .busy })
          dsimp only [setH] at h
          refine ⟨_, cellL h 1 0 rfl rfl rfl, ?_⟩
          refine addStr hp.1 ?_
          replace hp := hp.2
          refine ⟨_, rfl, ?_⟩
          refine storeL (ys := [(Value.string (s_4.2 ++ x_16))]) h 1 0 rfl rfl rfl sz9 rfl rfl ?_
          intro w h
          dsimp only [setH, setVs, setV] at h
          refine ⟨_, objAt h 0 rfl, ?_⟩
          replace h := h.putK 0 rfl (loopS (embrasurelaw06_DueParts_lo1 fn_e_3 e_3 d_2) 0 (fun (n : Nat) => (none : Option Code)))
          dsimp only [setH] at h
          exact hR true (0, (s_4.2 ++ x_16)) _ (h.pack 5 [pt l_3 (loopS (embrasurelaw06_DueParts_lo1 fn_e_3 e_3 d_2) 0 (fun (n : Nat) => (none : Option Code))), cel b_8 9 [(Value.string (s_4.2 ++ x_16))], cel b_7 9 [(Value.string x_8)], cel b_2 60 [(Value.map (some b_3))], cel b_1 39 [(Value.int .u16 now_x), (Value.int .u16 now_x_1)]] rfl) hp
        intro m_20 s_5 p_17 w h hp
        replace h := h.pick [4]
        dsimp only [pickL, pickR, nthH, delH, dropH, List.cons_append, List.nil_append] at h
        replace h := h.unpack
        dsimp only [pickL, pickR, nthH, delH, dropH, List.cons_append, List.nil_append] at h
        refine ⟨_, objAt h 0 rfl, loopS_ns _, ?_⟩
        replace h := h.putK 0 rfl (.loop { embrasurelaw06_DueParts_lo1 fn_e_3 e_3 d_2 with state := .exhausted, pending := (fun (n : Nat) => (none : Option Code)) s_5.1 })
        dsimp only [setH] at h
        obtain ⟨hst, hp⟩ := hp
        refine ⟨congrArg (fun (n : Nat) => (none : Option Code)) hst, ?_⟩
        replace h := h.sel [1, 1, 4, 1, 1, 3, 4, 3] 3
        dsimp only [pickL, pickR, nthH, delH, dropH, List.cons_append, List.nil_append] at h
        exact ⟨s_5.2, m_20, p_17, rfl, rfl, rfl, rfl, hp, h⟩
      clear hq
      replace h := h.pick [3]
      dsimp only [pickL, pickR, nthH, delH, dropH, List.cons_append, List.nil_append] at h
      have hMr_mk5 := romOf (h.drop 1) 4 rfl
      have hMr_mk3 := romOf (h.drop 1) 5 rfl
      refine due_Table_Due_ok (FL := cel b_8 9 [(Value.string ((ByteArray.mk ([]).toArray)))] :: cel b_7 9 [(Value.string x_3)] :: cel b_4 60 [(Value.map (some b_5))] :: cel b_1 39 [(Value.int .u16 now_x), (Value.int .u16 now_x_1)] :: mapQ b_5 va9 va3 p_4 m_1 :: mapQ b_3 va9 va3 p_12 m_12 :: marksP m_13 :: FL) hMr_mk3 h hp ?_
      intro x_9 b_11 b_12 w h hp
      refine ⟨_, _, _, rfl, ?_⟩
      intro e_2 fn_e_2 he_e_2 hr_e_2
      refine newO h ?_
      intro d_1 w h
      refine newO h ?_
      intro l_2 w h
      replace h := h.pick [1, 10]
      dsimp only [pickL, pickR, nthH, delH, dropH, List.cons_append, List.nil_append] at h
      replace h := marksPush h
      show rangeCallW _ (Value.func (Fn.func 24) _ _) _ _ _
      refine rangeCallFn (by kernel_rfl) ?_
      replace h := h.pick [1, 4, 4, 4, 4]
      dsimp only [pickL, pickR, nthH, delH, dropH, List.cons_append, List.nil_append] at h
      replace h : Mem ((fun (s_2 : Nat × ByteArray) => HL [pt l_2 (loopS (embrasurelaw06_DueParts_lo2 fn_e_2 e_2 d_1) s_2.1 (fun (n : Nat) => (none : Option Code))), cel b_8 9 [(Value.string ((ByteArray.mk ([]).toArray)))], cel b_7 9 [(Value.string s_2.2)], cel b_4 60 [(Value.map (some b_5))], cel b_1 39 [(Value.int .u16 now_x), (Value.int .u16 now_x_1)]]) (0, x_3) :: marksP (d_1 :: m_13) :: cel b_11 24 [(Value.pointer (some (Addr.mk b_2 0 none)))] :: cel b_12 3 [(Value.int .i64 x_9)] :: cel b_2 60 [(Value.map (some b_3))] :: mapQ b_5 va9 va3 p_4 m_1 :: mapQ b_3 va9 va3 p_12 m_12 :: FL) _ := h.pack 5 [pt l_2 (loopS (embrasurelaw06_DueParts_lo2 fn_e_2 e_2 d_1) 0 (fun (n : Nat) => (none : Option Code))), cel b_8 9 [(Value.string ((ByteArray.mk ([]).toArray)))], cel b_7 9 [(Value.string x_3)], cel b_4 60 [(Value.map (some b_5))], cel b_1 39 [(Value.int .u16 now_x), (Value.int .u16 now_x_1)]] rfl
      replace h := h.pick [2, 3, 4, 2, 0]
      dsimp only [pickL, pickR, nthH, delH, dropH, List.cons_append, List.nil_append] at h
      have hMr_mk5 := romOf (h.drop 5) 1 rfl
      refine due_Table_Due_c1_ok (FL := marksP (d_1 :: m_13) :: mapQ b_5 va9 va3 p_4 m_1 :: FL) (A0 := (fun (s_2 : Nat × ByteArray) => HL [pt l_2 (loopS (embrasurelaw06_DueParts_lo2 fn_e_2 e_2 d_1) s_2.1 (fun (n : Nat) => (none : Option Code))), cel b_8 9 [(Value.string ((ByteArray.mk ([]).toArray)))], cel b_7 9 [(Value.string s_2.2)], cel b_4 60 [(Value.map (some b_5))], cel b_1 39 [(Value.int .u16 now_x), (Value.int .u16 now_x_1)]])) (Y0 := (fun x_11 x_12 (s_2 : Nat × ByteArray) K_2 => s_2.1 = 0 ∧ (s_2.2.size + x_11.size ≤ 9223372036854775807 ∧ (K_2 true (0, (s_2.2 ++ x_11)))))) (σ0 := Nat × ByteArray) (s := (0, x_3)) ?_ h hp ?_
      · intro x_11 x_12 s_2 K_2 FL2 w R hx h hp hR
        replace h := h.unpack
        dsimp only [pickL, pickR, nthH, delH, dropH, List.cons_append, List.nil_append] at h
        obtain ⟨hst, hp⟩ := hp
        refine embrasurelaw06_DueParts_r2_yield (by have := objAt h 0 rfl; rw [hst] at this; exact this) he_e_2 hr_e_2 ?_
        unfold embrasurelaw06_DueParts_r2
        have hMx_mk5 := hMr_mk5.mono hx
        refine ⟨_, (by have := objAt h 0 rfl; rw [hst] at this; exact this : _ = some (Obj.loop (embrasurelaw06_DueParts_lo2 fn_e_2 e_2 d_1))), rfl, ?_⟩
        replace h := h.putK 0 rfl (.loop { embrasurelaw06_DueParts_lo2 fn_e_2 e_2 d_1 with state := .busy })
        dsimp only [setH] at h
        refine ⟨_, cellL h 2 0 rfl rfl rfl, ?_⟩
        refine addStr hp.1 ?_
        replace hp := hp.2
        refine ⟨_, rfl, ?_⟩
        refine storeL (ys := [(Value.string (s_2.2 ++ x_11))]) h 2 0 rfl rfl rfl sz9 rfl rfl ?_
        intro w h
        dsimp only [setH, setVs, setV] at h
        refine ⟨_, objAt h 0 rfl, ?_⟩
        replace h := h.putK 0 rfl (loopS (embrasurelaw06_DueParts_lo2 fn_e_2 e_2 d_1) 0 (fun (n : Nat) => (none : Option Code)))
        dsimp only [setH] at h
        exact hR true (0, (s_2.2 ++ x_11)) _ (h.pack 5 [pt l_2 (loopS (embrasurelaw06_DueParts_lo2 fn_e_2 e_2 d_1) 0 (fun (n : Nat) => (none : Option Code))), cel b_8 9 [(Value.string ((ByteArray.mk ([]).toArray)))], cel b_7 9 [(Value.string (s_2.2 ++ x_11))], cel b_4 60 [(Value.map (some b_5))], cel b_1 39 [(Value.int .u16 now_x), (Value.int .u16 now_x_1)]] rfl) hp
      intro m_17 s_3 p_15 w h hp
      replace h := h.pick [4]
      dsimp only [pickL, pickR, nthH, delH, dropH, List.cons_append, List.nil_append] at h
      replace h := h.unpack
      dsimp only [pickL, pickR, nthH, delH, dropH, List.cons_append, List.nil_append] at h
      refine ⟨_, objAt h 0 rfl, loopS_ns _, ?_⟩
      replace h := h.putK 0 rfl (.loop { embrasurelaw06_DueParts_lo2 fn_e_2 e_2 d_1 with state := .exhausted, pending := (fun (n : Nat) => (none : Option Code)) s_3.1 })
      dsimp only [setH] at h
      obtain ⟨hst, hp⟩ := hp
      refine ⟨congrArg (fun (n : Nat) => (none : Option Code)) hst, ?_⟩
      replace h := h.sel [1, 1, 1, 3, 1, 5, 3, 3] 3
      dsimp only [pickL, pickR, nthH, delH, dropH, List.cons_append, List.nil_append] at h
      exact ⟨s_3.2, m_17, p_15, rfl, rfl, rfl, rfl, rfl, rfl, hp, h⟩
    clear hq
    replace h := h.pick [3]
    dsimp only [pickL, pickR, nthH, delH, dropH, List.cons_append, List.nil_append] at h
    have hMr_mk5 := romOf (h.drop 1) 4 rfl
    have hMr_mk3 := romOf (h.drop 1) 5 rfl
    refine due_Table_Due_ok (FL := cel b_8 9 [(Value.string ((ByteArray.mk ([]).toArray)))] :: cel b_7 9 [(Value.string ((ByteArray.mk ([]).toArray)))] :: cel b_4 60 [(Value.map (some b_5))] :: cel b_1 39 [(Value.int .u16 now_x), (Value.int .u16 now_x_1)] :: mapQ b_5 va9 va3 p_4 m_1 :: mapQ b_3 va9 va3 p_5 m_2 :: marksP m_3 :: FL) hMr_mk3 h hp ?_
    intro x_4 b_9 b_10 w h hp
    refine ⟨_, _, _, rfl, ?_⟩
    intro e_1 fn_e_1 he_e_1 hr_e_1
    refine newO h ?_
    intro d w h
    refine newO h ?_
    intro l_1 w h
    replace h := h.pick [1, 10]
    dsimp only [pickL, pickR, nthH, delH, dropH, List.cons_append, List.nil_append] at h
    replace h := marksPush h
    show rangeCallW _ (Value.func (Fn.func 24) _ _) _ _ _
    refine rangeCallFn (by kernel_rfl) ?_
    replace h := h.pick [1, 4, 4, 4, 4]
    dsimp only [pickL, pickR, nthH, delH, dropH, List.cons_append, List.nil_append] at h
    replace h : Mem ((fun (s : Nat × ByteArray) => HL [pt l_1 (loopS (embrasurelaw06_DueParts_lo3 fn_e_1 e_1 d) s.1 (fun (n : Nat) => (none : Option Code))), cel b_8 9 [(Value.string ((ByteArray.mk ([]).toArray)))], cel b_7 9 [(Value.string s.2)], cel b_4 60 [(Value.map (some b_5))], cel b_1 39 [(Value.int .u16 now_x), (Value.int .u16 now_x_1)]]) (0, ((ByteArray.mk ([]).toArray))) :: marksP (d :: m_3) :: cel b_9 24 [(Value.pointer (some (Addr.mk b_2 0 none)))] :: cel b_10 3 [(Value.int .i64 x_4)] :: cel b_2 60 [(Value.map (some b_3))] :: mapQ b_5 va9 va3 p_4 m_1 :: mapQ b_3 va9 va3 p_5 m_2 :: FL) _ := h.pack 5 [pt l_1 (loopS (embrasurelaw06_DueParts_lo3 fn_e_1 e_1 d) 0 (fun (n : Nat) => (none : Option Code))), cel b_8 9 [(Value.string ((ByteArray.mk ([]).toArray)))], cel b_7 9 [(Value.string ((ByteArray.mk ([]).toArray)))], cel b_4 60 [(Value.map (some b_5))], cel b_1 39 [(Value.int .u16 now_x), (Value.int .u16 now_x_1)]] rfl
    replace h := h.pick [2, 3, 4, 2, 0]
    dsimp only [pickL, pickR, nthH, delH, dropH, List.cons_append, List.nil_append] at h
    have hMr_mk5 := romOf (h.drop 5) 1 rfl
    refine due_Table_Due_c1_ok (FL := marksP (d :: m_3) :: mapQ b_5 va9 va3 p_4 m_1 :: FL) (A0 := (fun (s : Nat × ByteArray) => HL [pt l_1 (loopS (embrasurelaw06_DueParts_lo3 fn_e_1 e_1 d) s.1 (fun (n : Nat) => (none : Option Code))), cel b_8 9 [(Value.string ((ByteArray.mk ([]).toArray)))], cel b_7 9 [(Value.string s.2)], cel b_4 60 [(Value.map (some b_5))], cel b_1 39 [(Value.int .u16 now_x), (Value.int .u16 now_x_1)]])) (Y0 := (fun x_6 x_7 (s : Nat × ByteArray) K_1 => s.1 = 0 ∧ (s.2.size + x_6.size ≤ 9223372036854775807 ∧ (K_1 true (0, (s.2 ++ x_6)))))) (σ0 := Nat × ByteArray) (s := (0, ((ByteArray.mk ([]).toArray)))) ?_ h hp ?_
    · intro x_6 x_7 s K_1 FL2 w R hx h hp hR
      replace h := h.unpack
      dsimp only [pickL, pickR, nthH, delH, dropH, List.cons_append, List.nil_append] at h
      obtain ⟨hst, hp⟩ := hp
      refine embrasurelaw06_DueParts_r3_yield (by have := objAt h 0 rfl; rw [hst] at this; exact this) he_e_1 hr_e_1 ?_
      unfold embrasurelaw06_DueParts_r3
      have hMx_mk5 := hMr_mk5.mono hx
      refine ⟨_, (by have := objAt h 0 rfl; rw [hst] at this; exact this : _ = some (Obj.loop (embrasurelaw06_DueParts_lo3 fn_e_1 e_1 d))), rfl, ?_⟩
      replace h := h.putK 0 rfl (.loop { embrasurelaw06_DueParts_lo3 fn_e_1 e_1 d with state := .busy })
      dsimp only [setH] at h
      refine ⟨_, cellL h 2 0 rfl rfl rfl, ?_⟩
      refine addStr hp.1 ?_
      replace hp := hp.2
      refine ⟨_, rfl, ?_⟩
      refine storeL (ys := [(Value.string (s.2 ++ x_6))]) h 2 0 rfl rfl rfl sz9 rfl rfl ?_
      intro w h
      dsimp only [setH, setVs, setV] at h
      refine ⟨_, objAt h 0 rfl, ?_⟩
      replace h := h.putK 0 rfl (loopS (embrasurelaw06_DueParts_lo3 fn_e_1 e_1 d) 0 (fun (n : Nat) => (none : Option Code)))
      dsimp only [setH] at h
      exact hR true (0, (s.2 ++ x_6)) _ (h.pack 5 [pt l_1 (loopS (embrasurelaw06_DueParts_lo3 fn_e_1 e_1 d) 0 (fun (n : Nat) => (none : Option Code))), cel b_8 9 [(Value.string ((ByteArray.mk ([]).toArray)))], cel b_7 9 [(Value.string (s.2 ++ x_6))], cel b_4 60 [(Value.map (some b_5))], cel b_1 39 [(Value.int .u16 now_x), (Value.int .u16 now_x_1)]] rfl) hp
    intro m_14 s_1 p_13 w h hp
    replace h := h.pick [4]
    dsimp only [pickL, pickR, nthH, delH, dropH, List.cons_append, List.nil_append] at h
    replace h := h.unpack
    dsimp only [pickL, pickR, nthH, delH, dropH, List.cons_append, List.nil_append] at h
    refine ⟨_, objAt h 0 rfl, loopS_ns _, ?_⟩
    replace h := h.putK 0 rfl (.loop { embrasurelaw06_DueParts_lo3 fn_e_1 e_1 d with state := .exhausted, pending := (fun (n : Nat) => (none : Option Code)) s_1.1 })
    dsimp only [setH] at h
    obtain ⟨hst, hp⟩ := hp
    refine ⟨congrArg (fun (n : Nat) => (none : Option Code)) hst, ?_⟩
    replace h := h.sel [1, 1, 1, 3, 1, 5, 3, 3] 3
    dsimp only [pickL, pickR, nthH, delH, dropH, List.cons_append, List.nil_append] at h
    exact ⟨s_1.2, m_14, p_13, rfl, rfl, rfl, rfl, rfl, rfl, hp, h⟩
  clear hq
  obtain ⟨I, ⟨n_4, h0⟩, hq⟩ := hp
  replace h := h.sel [0, 1, 2, 0, 0, 0] 0
  dsimp only [pickL, pickR, nthH, delH, dropH, List.cons_append, List.nil_append] at h
  refine ⟨fun n_2 times0p times0l times0c now3_1 t4_1 a5_1 b6_1 i7 m_6 w => ∃ (m_4 : List (ByteArray × Int)), ∃ (p_6 : List MapEntry × Nat), ∃ (m_5 : List (ByteArray × Int)), ∃ (p_7 : List MapEntry × Nat), p_1 = times0p ∧ times.length = times0l ∧ c_1 = times0c ∧ (Addr.mk b_1 0 none) = now3_1 ∧ false = t4_1 ∧ (some (Addr.mk b_2 0 none)) = a5_1 ∧ (some (Addr.mk b_4 0 none)) = b6_1 ∧ I n_2 i7 m_4 m_5 ∧ Mem (cel b_4 60 [(Value.map (some b_5))] :: cel b_2 60 [(Value.map (some b_3))] :: cel b_1 39 [(Value.int .u16 now_x), (Value.int .u16 now_x_1)] :: mapQ b_5 va9 va3 p_6 m_4 :: mapQ b_3 va9 va3 p_7 m_5 :: marksP m_6 :: FL) w, ⟨n_4, at__1, p_3, at_, p_2, rfl, rfl, rfl, rfl, rfl, rfl, rfl, h0, h⟩, ?_⟩
  clear h0 h
  rintro n_2 times0p times0l times0c now3_1 t4_1 a5_1 b6_1 i7 m_6 w ⟨m_4, p_6, m_5, p_7, rfl, rfl, rfl, rfl, rfl, rfl, rfl, hp, h⟩
  replace hp := hq n_2 i7 m_4 m_5 hp
  clear hq
  unfold embrasurelaw06_DueParts_l5
  refine cond_both' hp (fun hp => ?_) (fun hp => ?_)
  · exact ⟨m_4, p_6, m_5, p_7, rfl, rfl, rfl, rfl, hp, h⟩
  refine ⟨by decide, ?_⟩
  refine ⟨by decide, ?_⟩
  refine newL (o := [(Value.int .u8 (IntKind.wrap .u8 (IntKind.wrap .i64 (97 + (Int.tmod i7 26))))), (Value.int .u8 (IntKind.wrap .u8 (IntKind.wrap .i64 (48 + (IntKind.wrap .i64 (Int.tdiv i7 26))))))]) h ?_
  intro b_6 w h
  refine bytesStr (enc := enc5) und27 undI5 undStr9 (celRd h 0 encL5 rfl [(IntKind.wrap .u8 (IntKind.wrap .i64 (97 + (Int.tmod i7 26)))), (IntKind.wrap .u8 (IntKind.wrap .i64 (48 + (IntKind.wrap .i64 (Int.tdiv i7 26)))))] rfl) (fun _ => rfl) rfl ?_
  refine ⟨_, rfl, ?_⟩
  obtain ⟨Q_1, hq, hp⟩ := hp
  refine ⟨fun times0_1p times0_1l times0_1c now3_2 t4_2 a5_2 b6_2 i7_1 t58 m_9 w => ∃ (m_7 : List (ByteArray × Int)), ∃ (p_8 : List MapEntry × Nat), ∃ (m_8 : List (ByteArray × Int)), ∃ (p_9 : List MapEntry × Nat), p_1 = times0_1p ∧ times.length = times0_1l ∧ c_1 = times0_1c ∧ (Addr.mk b_1 0 none) = now3_2 ∧ false = t4_2 ∧ (some (Addr.mk b_2 0 none)) = a5_2 ∧ (some (Addr.mk b_4 0 none)) = b6_2 ∧ i7 = i7_1 ∧ Q_1 t58 m_7 m_8 ∧ Mem (cel b_6 5 [(Value.int .u8 (IntKind.wrap .u8 (IntKind.wrap .i64 (97 + (Int.tmod i7 26))))), (Value.int .u8 (IntKind.wrap .u8 (IntKind.wrap .i64 (48 + (IntKind.wrap .i64 (Int.tdiv i7 26))))))] :: cel b_4 60 [(Value.map (some b_5))] :: cel b_2 60 [(Value.map (some b_3))] :: cel b_1 39 [(Value.int .u16 now_x), (Value.int .u16 now_x_1)] :: mapQ b_5 va9 va3 p_8 m_7 :: mapQ b_3 va9 va3 p_9 m_8 :: marksP m_9 :: FL) w, ?_, ?_⟩
  · rintro times0_1p times0_1l times0_1c now3_2 t4_2 a5_2 b6_2 i7_1 t58 m_9 w ⟨m_7, p_8, m_8, p_9, rfl, rfl, rfl, rfl, rfl, rfl, rfl, rfl, hp, h⟩
    replace hp := hq t58 m_7 m_8 hp
    unfold embrasurelaw06_DueParts_j6
    refine cond_both' hp (fun hp => ?_) (fun hp => ?_)
    · replace h := h.sel [1, 1, 1, 1, 1, 1] 1
      dsimp only [pickL, pickR, nthH, delH, dropH, List.cons_append, List.nil_append] at h
      obtain ⟨n_3, hn, hp⟩ := hp
      exact ⟨n_3, hn, m_7, p_8, m_8, p_9, rfl, rfl, rfl, rfl, rfl, rfl, rfl, hp, h⟩
    replace h := h.pick [6]
    dsimp only [pickL, pickR, nthH, delH, dropH, List.cons_append, List.nil_append] at h
    refine finishMarks _ h ?_
    intro w h
    replace h := h.sel [] 6
    dsimp only [pickL, pickR, nthH, delH, dropH, List.cons_append, List.nil_append] at h
    exact hR false _ h hp
  clear hq
  obtain ⟨ia_1, ja_1, hp⟩ := hp
  obtain ⟨a_1, ha_1⟩ := rdAddr (hF_times _ (h.drop 7)) rfl ia_1 ja_1
  refine ⟨a_1, ha_1, ia_1, ja_1, ?_⟩
  obtain ⟨x_1, hx_1, hc⟩ := rdCell0 (hF_times _ (h.drop 7)) ha_1 rfl ia_1 ja_1
  replace hp := hp x_1 hx_1
  refine ⟨_, hc _ rfl, ?_⟩
  replace h := h.pick [2, 4]
  dsimp only [pickL, pickR, nthH, delH, dropH, List.cons_append, List.nil_append] at h
  refine due_Table_Set_ok h hp ?_
  intro r_1 m_10 p_10 w h hp
  refine ⟨_, rfl, ?_⟩
  refine cond_both hp (fun hp => ?_) (fun hp => ?_)
  · replace h := h.sel [2, 2, 0, 1, 1, 0, 0] 0
    dsimp only [pickL, pickR, nthH, delH, dropH, List.cons_append, List.nil_append] at h
    exact ⟨m_4, p_6, m_10, p_10, rfl, rfl, rfl, rfl, rfl, rfl, rfl, rfl, hp, h⟩
  obtain ⟨ia_2, ja_2, hp⟩ := hp
  obtain ⟨a_2, ha_2⟩ := rdAddr (hF_times _ (h.drop 7)) rfl ia_2 ja_2
  refine ⟨a_2, ha_2, ia_2, ja_2, ?_⟩
  obtain ⟨x_2, hx_2, hc⟩ := rdCell0 (hF_times _ (h.drop 7)) ha_2 rfl ia_2 ja_2
  replace hp := hp x_2 hx_2
  refine ⟨_, hc _ rfl, ?_⟩
  replace h := h.pick [3, 4]
  dsimp only [pickL, pickR, nthH, delH, dropH, List.cons_append, List.nil_append] at h
  refine due_Table_Set_ok h hp ?_
  intro r_2 m_11 p_11 w h hp
  refine ⟨_, rfl, ?_⟩
  replace h := h.sel [4, 0, 1, 2, 0, 0, 0] 0
  dsimp only [pickL, pickR, nthH, delH, dropH, List.cons_append, List.nil_append] at h
  exact ⟨m_11, p_11, m_10, p_10, rfl, rfl, rfl, rfl, rfl, rfl, rfl, rfl, hp, h⟩

/-! (*embrasure/due.Table).At (20) -/
def due_Table_At_wp (at_ : List (ByteArray × Int)) (name : ByteArray) (K : Int → Bool → Prop) : Prop :=
  K (mapGet at_ name 0) (mapHas at_ name)
theorem due_Table_At_ok {b_1 : Nat} {b_2 : Nat} {p_1 : List MapEntry × Nat} {at_ : List (ByteArray × Int)} {name : ByteArray} {FL : List HP} {w : World} {K : Int → Bool → Prop} {R : Value → World → Prop}
  (hM_at_ : RoM FL b_2 va9 va3 p_1 at_)
  (h : Mem (cel b_1 60 [(Value.map (some b_2))] :: FL) w) (hp : due_Table_At_wp at_ name K)
  (hR : ∀ (r : Int) (r_1 : Bool) (w : World), Mem (cel b_1 60 [(Value.map (some b_2))] :: FL) w → K r r_1 → R (Value.tuple #[(Value.int .i64 r), (Value.bool r_1)]) w) :
  CallV Try.prog 20 #[(Value.pointer (some (Addr.mk b_1 0 none))), (Value.string name)] w R := by
  refine due_Table_At_call ?_
  unfold due_Table_At
  unfold due_Table_At_wp at hp
  refine ⟨_, rfl, ?_⟩
  refine ⟨_, cellL h 0 0 rfl rfl rfl, ?_⟩
  refine lookW2 (k := name) (d := 0) (hM_at_.map (h.drop 1)) mu58 kt9 (fun w => run_zeroValue zr3) ?_
  refine ⟨_, _, rfl, ?_⟩
  refine ⟨_, rfl, ?_⟩
  exact hR (mapGet at_ name 0) (mapHas at_ name) _ h hp

/-! embrasure/embrasurelaw06.DueAgain (6) -/
def embrasurelaw06_DueAgain_wp (names : List (ByteArray)) (times : List (Int)) (drop : Int) (K : Bool → Prop) : Prop :=
  embrasurelaw06_awake_wp (fun (r : Bool) => cond (!r) (K (false)) (joinP1 (fun (t26 : Bool) => cond t26 (K (true)) (due_New_wp (fun (at_ : List (ByteArray × Int)) => joinP1 (fun (m_2 : List (ByteArray × Int)) => joinP2 (fun (x_7 : ByteArray) (m_11 : List (ByteArray × Int)) => due_Table_Names_wp m_11 (fun (rs : List (ByteArray)) => joinP2 (fun (x_9 : Int) (m_14 : List (ByteArray × Int)) => due_Table_Next_wp m_14 (fun (r_6 : ByteArray) (r_7 : Int) (r_8 : Bool) => cond ((x_9 : Int) == 0) (K (!r_8)) (K (false)))) (fun (Q_5 : Int → List (ByteArray × Int) → Prop) => due_Table_Due_wp m_11 1073741824 (fun (x_10 : Int) => due_Table_Due_c1_wp (0, ((rs.length : Nat) : Int)) (fun x_12 x_13 (s : Nat × Int) K_1 => s.1 = 0 ∧ (cond (x_12 == x_7) (K_1 false (1, s.2)) (K_1 true (0, (IntKind.wrap .i64 (s.2 - 1)))))) m_11 x_10 (fun (m_16 : List (ByteArray × Int)) (s_1 : (Nat × Int)) => (s_1.1 = 0 ∧ (Q_5 s_1.2 m_16)) ∨ (s_1.1 ≠ 0 ∧ (K (false)))))))) (fun (Q_4 : ByteArray → List (ByteArray × Int) → Prop) => cond (decide ((((names.length : Nat) : Int) : Int) > 0)) ((((names.length : Nat) : Int) : Int) ≠ 0 ∧ (0 ≤ ((Int.tmod (IntKind.wrap .i64 drop) ((names.length : Nat) : Int)) : Int) ∧ ((Int.tmod (IntKind.wrap .i64 drop) ((names.length : Nat) : Int)) : Int) < ((names.length : Nat) : Int) ∧ (∀ (x_8 : ByteArray), names[Int.toNat (Int.tmod (IntKind.wrap .i64 drop) ((names.length : Nat) : Int))]? = some x_8 → (due_Table_Drop_wp m_2 x_8 (fun (r_5 : Bool) (m_13 : List (ByteArray × Int)) => cond (!r_5) (K (false)) (Q_4 x_8 m_13)))))) (Q_4 (ByteArray.mk ([]).toArray) m_2))) (fun (Q_1 : List (ByteArray × Int) → Prop) => ∃ (I : Nat → Int → List (ByteArray × Int) → Prop), (∃ (n_5 : Nat), I n_5 0 at_) ∧ ∀ (n_3 : Nat) (i8 : Int) (m_4 : List (ByteArray × Int)), I n_3 i8 m_4 → (cond (decide ((i8 : Int) < ((names.length : Nat) : Int))) (0 ≤ (i8 : Int) ∧ (i8 : Int) < ((names.length : Nat) : Int) ∧ (∀ (x_1 : ByteArray), names[Int.toNat i8]? = some x_1 → (cond (decide ((((x_1.size : Nat) : Int) : Int) > 60)) (K (true)) (joinP2 (fun (t63 : Bool) (m_6 : List (ByteArray × Int)) => cond t63 (K (false)) (0 ≤ (i8 : Int) ∧ (i8 : Int) < ((names.length : Nat) : Int) ∧ (∀ (x_5 : ByteArray), names[Int.toNat i8]? = some x_5 → (due_Table_At_wp m_6 x_5 (fun (r_3 : Int) (r_4 : Bool) => joinP1 (fun (t86 : Bool) => cond t86 (K (false)) (∃ (n_4 : Nat), n_4 < n_3 ∧ I n_4 (IntKind.wrap .i64 (i8 + 1)) m_6)) (fun (Q_3 : Bool → Prop) => cond (!r_4) (Q_3 true) ((((times.length : Nat) : Int) : Int) ≠ 0 ∧ (0 ≤ ((Int.tmod i8 ((times.length : Nat) : Int)) : Int) ∧ ((Int.tmod i8 ((times.length : Nat) : Int)) : Int) < ((times.length : Nat) : Int) ∧ (∀ (x_6 : Int), times[Int.toNat (Int.tmod i8 ((times.length : Nat) : Int))]? = some x_6 → (Q_3 ((r_3 : Int) != (IntKind.wrap .i64 x_6)))))))))))) (fun (Q_2 : Bool → List (ByteArray × Int) → Prop) => 0 ≤ (i8 : Int) ∧ (i8 : Int) < ((names.length : Nat) : Int) ∧ (∀ (x_2 : ByteArray), names[Int.toNat i8]? = some x_2 → (due_Table_Set_wp m_4 x_2 9 (fun (r_1 : Int) (m_8 : List (ByteArray × Int)) => cond ((r_1 : Int) != 0) (Q_2 true m_8) (0 ≤ (i8 : Int) ∧ (i8 : Int) < ((names.length : Nat) : Int) ∧ (∀ (x_3 : ByteArray), names[Int.toNat i8]? = some x_3 → ((((times.length : Nat) : Int) : Int) ≠ 0 ∧ (0 ≤ ((Int.tmod i8 ((times.length : Nat) : Int)) : Int) ∧ ((Int.tmod i8 ((times.length : Nat) : Int)) : Int) < ((times.length : Nat) : Int) ∧ (∀ (x_4 : Int), times[Int.toNat (Int.tmod i8 ((times.length : Nat) : Int))]? = some x_4 → (due_Table_Set_wp m_8 x_3 (IntKind.wrap .i64 x_4) (fun (r_2 : Int) (m_9 : List (ByteArray × Int)) => Q_2 ((r_2 : Int) != 0) m_9))))))))))))))) (Q_1 m_4)))))) (fun (Q : Bool → Prop) => cond (decide ((((names.length : Nat) : Int) : Int) > 60)) (Q true) (Q ((((times.length : Nat) : Int) : Int) == 0)))))
theorem embrasurelaw06_DueAgain_ok {p_1 : Option Addr} {n_1 : Nat} {c_1 : Nat} {p_2 : Option Addr} {n_2 : Nat} {c_2 : Nat} {names : List (ByteArray)} {times : List (Int)} {drop : Int} {FL : List HP} {w : World} {K : Bool → Prop} {R : Value → World → Prop}
  (hF_names : ∀ w, Mem FL w → Rd w 1 p_1 enc9 names) (hl_names : n_1 = names.length) (hc_names : n_1 ≤ c_1)
  (hF_times : ∀ w, Mem FL w → Rd w 1 p_2 enc26 times) (hl_times : n_2 = times.length) (hc_times : n_2 ≤ c_2)
  (h : Mem (FL) w) (hp : embrasurelaw06_DueAgain_wp names times drop K)
  (hR : ∀ (r : Bool) (w : World), Mem (FL) w → K r → R (Value.bool r) w) :
  CallV Try.prog 6 #[(Value.slice p_1 n_1 c_1), (Value.slice p_2 n_2 c_2), (Value.int .u8 drop)] w R := by
  refine embrasurelaw06_DueAgain_call ?_
  unfold embrasurelaw06_DueAgain
  unfold embrasurelaw06_DueAgain_wp at hp
  subst hl_names
  subst hl_times
  replace h := marksNil h
  refine newL (o := [(Value.bool false)]) h ?_
  intro b_1 w h
  refine embrasurelaw06_awake_ok h hp ?_
  intro r w h hp
  refine ⟨_, rfl, ?_⟩
  refine cond_both hp (fun hp => ?_) (fun hp => ?_)
  · refine storeL (ys := [(Value.bool false)]) h 0 0 rfl rfl rfl sz4 rfl rfl ?_
    intro w h
    dsimp only [setH, setVs, setV] at h
    replace h := h.pick [1]
    dsimp only [pickL, pickR, nthH, delH, dropH, List.cons_append, List.nil_append] at h
    refine ⟨_, cellL h 1 0 rfl rfl rfl, ?_⟩
    replace h := h.sel [] 2
    dsimp only [pickL, pickR, nthH, delH, dropH, List.cons_append, List.nil_append] at h
    exact hR (false) _ h hp
  obtain ⟨Q, hq, hp⟩ := hp
  refine ⟨fun names0p names0l names0c times1p times1l times1c drop2 t6 t26 m_1 w => p_1 = names0p ∧ names.length = names0l ∧ c_1 = names0c ∧ p_2 = times1p ∧ times.length = times1l ∧ c_2 = times1c ∧ drop = drop2 ∧ (Addr.mk b_1 0 none) = t6 ∧ Q t26 ∧ Mem (cel b_1 4 [(Value.bool false)] :: marksP m_1 :: FL) w, ?_, ?_⟩
  · rintro names0p names0l names0c times1p times1l times1c drop2 t6 t26 m_1 w ⟨rfl, rfl, rfl, rfl, rfl, rfl, rfl, rfl, hp, h⟩
    replace hp := hq t26 hp
    unfold embrasurelaw06_DueAgain_j1
    refine cond_both hp (fun hp => ?_) (fun hp => ?_)
    · refine storeL (ys := [(Value.bool true)]) h 0 0 rfl rfl rfl sz4 rfl rfl ?_
      intro w h
      dsimp only [setH, setVs, setV] at h
      replace h := h.pick [1]
      dsimp only [pickL, pickR, nthH, delH, dropH, List.cons_append, List.nil_append] at h
      refine finishMarks _ h ?_
      intro w h
      refine ⟨_, cellL h 0 0 rfl rfl rfl, ?_⟩
      replace h := h.sel [] 1
      dsimp only [pickL, pickR, nthH, delH, dropH, List.cons_append, List.nil_append] at h
      exact hR (true) _ h hp
    refine due_New_ok h hp ?_
    intro at_ b_2 b_3 p_3 w h hp
    refine ⟨_, rfl, ?_⟩
    obtain ⟨Q_1, hq, hp⟩ := hp
    refine ⟨fun names0_1p names0_1l names0_1c drop2_1 t6_1 t7 m_3 w => ∃ (m_2 : List (ByteArray × Int)), ∃ (p_4 : List MapEntry × Nat), p_1 = names0_1p ∧ names.length = names0_1l ∧ c_1 = names0_1c ∧ drop = drop2_1 ∧ (Addr.mk b_1 0 none) = t6_1 ∧ (some (Addr.mk b_2 0 none)) = t7 ∧ Q_1 m_2 ∧ Mem (cel b_2 60 [(Value.map (some b_3))] :: cel b_1 4 [(Value.bool false)] :: mapQ b_3 va9 va3 p_4 m_2 :: marksP m_3 :: FL) w, ?_, ?_⟩
    · rintro names0_1p names0_1l names0_1c drop2_1 t6_1 t7 m_3 w ⟨m_2, p_4, rfl, rfl, rfl, rfl, rfl, rfl, hp, h⟩
      replace hp := hq m_2 hp
      unfold embrasurelaw06_DueAgain_j2
      refine newL (o := [(Value.string ((ByteArray.mk ([]).toArray)))]) h ?_
      intro b_4 w h
      refine storeL (ys := [(Value.string ((ByteArray.mk ([]).toArray)))]) h 0 0 rfl rfl rfl sz9 rfl rfl ?_
      intro w h
      dsimp only [setH, setVs, setV] at h
      obtain ⟨Q_4, hq, hp⟩ := hp
      refine ⟨fun t6_5 t7_4 gone11 m_12 w => ∃ (x_7 : ByteArray), ∃ (m_11 : List (ByteArray × Int)), ∃ (p_9 : List MapEntry × Nat), (Addr.mk b_1 0 none) = t6_5 ∧ (some (Addr.mk b_2 0 none)) = t7_4 ∧ (Addr.mk b_4 0 none) = gone11 ∧ Q_4 x_7 m_11 ∧ Mem (cel b_4 9 [(Value.string x_7)] :: cel b_2 60 [(Value.map (some b_3))] :: cel b_1 4 [(Value.bool false)] :: mapQ b_3 va9 va3 p_9 m_11 :: marksP m_12 :: FL) w, ?_, ?_⟩
      · rintro t6_5 t7_4 gone11 m_12 w ⟨x_7, m_11, p_9, rfl, rfl, rfl, hp, h⟩
        replace hp := hq x_7 m_11 hp
        unfold embrasurelaw06_DueAgain_j3
        replace h := h.pick [1]
        dsimp only [pickL, pickR, nthH, delH, dropH, List.cons_append, List.nil_append] at h
        have hMr_mk3 := romOf (h.drop 1) 2 rfl
        refine due_Table_Names_ok (FL := cel b_4 9 [(Value.string x_7)] :: cel b_1 4 [(Value.bool false)] :: mapQ b_3 va9 va3 p_9 m_11 :: marksP m_12 :: FL) hMr_mk3 h hp ?_
        rintro rs p_11 n_6 c_3 w rfl h hp
        have cpp_11 := rowCap h 0 rfl
        refine ⟨_, _, _, rfl, ?_⟩
        refine newL (o := [(Value.int .i64 0)]) h ?_
        intro b_5 w h
        refine storeL (ys := [(Value.int .i64 ((rs.length : Nat) : Int))]) h 0 0 rfl rfl rfl sz3 rfl rfl ?_
        intro w h
        dsimp only [setH, setVs, setV] at h
        obtain ⟨Q_5, hq, hp⟩ := hp
        refine ⟨fun t6_6 t7_5 n12 m_15 w => ∃ (x_9 : Int), ∃ (m_14 : List (ByteArray × Int)), ∃ (p_12 : List MapEntry × Nat), (Addr.mk b_1 0 none) = t6_6 ∧ (some (Addr.mk b_2 0 none)) = t7_5 ∧ (Addr.mk b_5 0 none) = n12 ∧ Q_5 x_9 m_14 ∧ Mem (cel b_5 3 [(Value.int .i64 x_9)] :: cel b_2 60 [(Value.map (some b_3))] :: cel b_4 9 [(Value.string x_7)] :: cel b_1 4 [(Value.bool false)] :: mapQ b_3 va9 va3 p_12 m_14 :: marksP m_15 :: FL) w, ?_, ?_⟩
        · rintro t6_6 t7_5 n12 m_15 w ⟨x_9, m_14, p_12, rfl, rfl, rfl, hp, h⟩
          replace hp := hq x_9 m_14 hp
          unfold embrasurelaw06_DueAgain_j4
          replace h := h.pick [1]
          dsimp only [pickL, pickR, nthH, delH, dropH, List.cons_append, List.nil_append] at h
          have hMr_mk3 := romOf (h.drop 1) 3 rfl
          refine due_Table_Next_ok (FL := cel b_5 3 [(Value.int .i64 x_9)] :: cel b_4 9 [(Value.string x_7)] :: cel b_1 4 [(Value.bool false)] :: mapQ b_3 va9 va3 p_12 m_14 :: marksP m_15 :: FL) hMr_mk3 h hp ?_
          intro r_6 r_7 r_8 w h hp
          refine ⟨_, _, _, rfl, ?_⟩
          refine ⟨_, rfl, ?_⟩
          refine ⟨_, rfl, ?_⟩
          refine ⟨_, cellL h 1 0 rfl rfl rfl, ?_⟩
          refine cond_both hp (fun hp => ?_) (fun hp => ?_)
          · refine storeL (ys := [(Value.bool (!r_8))]) h 3 0 rfl rfl rfl sz4 rfl rfl ?_
            intro w h
            dsimp only [setH, setVs, setV] at h
            replace h := h.pick [5]
            dsimp only [pickL, pickR, nthH, delH, dropH, List.cons_append, List.nil_append] at h
            refine finishMarks _ h ?_
            intro w h
            refine ⟨_, cellL h 3 0 rfl rfl rfl, ?_⟩
            replace h := h.sel [] 5
            dsimp only [pickL, pickR, nthH, delH, dropH, List.cons_append, List.nil_append] at h
            exact hR (!r_8) _ h hp
          refine storeL (ys := [(Value.bool false)]) h 3 0 rfl rfl rfl sz4 rfl rfl ?_
          intro w h
          dsimp only [setH, setVs, setV] at h
          replace h := h.pick [5]
          dsimp only [pickL, pickR, nthH, delH, dropH, List.cons_append, List.nil_append] at h
          refine finishMarks _ h ?_
          intro w h
          refine ⟨_, cellL h 3 0 rfl rfl rfl, ?_⟩
          replace h := h.sel [] 5
          dsimp only [pickL, pickR, nthH, delH, dropH, List.cons_append, List.nil_append] at h
          exact hR (false) _ h hp
        clear hq
        replace h := h.pick [2]
        dsimp only [pickL, pickR, nthH, delH, dropH, List.cons_append, List.nil_append] at h
        have hMr_mk3 := romOf (h.drop 1) 4 rfl
        refine due_Table_Due_ok (FL := cel b_5 3 [(Value.int .i64 ((rs.length : Nat) : Int))] :: row enc9 9 1 p_11 c_3 rs :: cel b_4 9 [(Value.string x_7)] :: cel b_1 4 [(Value.bool false)] :: mapQ b_3 va9 va3 p_9 m_11 :: marksP m_12 :: FL) hMr_mk3 h hp ?_
        intro x_10 b_6 b_7 w h hp
        refine ⟨_, _, _, rfl, ?_⟩
        intro e_1 fn_e_1 he_e_1 hr_e_1
        refine newO h ?_
        intro d w h
        refine newO h ?_
        intro l_1 w h
        replace h := h.pick [1, 9]
        dsimp only [pickL, pickR, nthH, delH, dropH, List.cons_append, List.nil_append] at h
        replace h := marksPush h
        show rangeCallW _ (Value.func (Fn.func 24) _ _) _ _ _
        refine rangeCallFn (by kernel_rfl) ?_
        replace h := h.pick [1, 4, 4, 4, 4]
        dsimp only [pickL, pickR, nthH, delH, dropH, List.cons_append, List.nil_append] at h
        replace h := h.pick [0, 0, 1, 1, 0]
        dsimp only [pickL, pickR, nthH, delH, dropH, List.cons_append, List.nil_append] at h
        replace h : Mem ((fun (s : Nat × Int) => HL [pt l_1 (loopS (embrasurelaw06_DueAgain_lo1 fn_e_1 e_1 d) s.1 (fun (n : Nat) => ((if n = 0 then none else (some .ret)) : Option Code))), cel b_5 3 [(Value.int .i64 s.2)], cel b_4 9 [(Value.string x_7)], cel b_1 4 [(Value.bool false)], row enc9 9 1 p_11 c_3 rs]) (0, ((rs.length : Nat) : Int)) :: marksP (d :: m_12) :: cel b_6 24 [(Value.pointer (some (Addr.mk b_2 0 none)))] :: cel b_7 3 [(Value.int .i64 x_10)] :: cel b_2 60 [(Value.map (some b_3))] :: mapQ b_3 va9 va3 p_9 m_11 :: FL) _ := h.pack 5 [pt l_1 (loopS (embrasurelaw06_DueAgain_lo1 fn_e_1 e_1 d) 0 (fun (n : Nat) => ((if n = 0 then none else (some .ret)) : Option Code))), cel b_5 3 [(Value.int .i64 ((rs.length : Nat) : Int))], cel b_4 9 [(Value.string x_7)], cel b_1 4 [(Value.bool false)], row enc9 9 1 p_11 c_3 rs] rfl
        replace h := h.pick [2, 3, 3, 2, 0]
        dsimp only [pickL, pickR, nthH, delH, dropH, List.cons_append, List.nil_append] at h
        refine due_Table_Due_c1_ok (FL := marksP (d :: m_12) :: FL) (A0 := (fun (s : Nat × Int) => HL [pt l_1 (loopS (embrasurelaw06_DueAgain_lo1 fn_e_1 e_1 d) s.1 (fun (n : Nat) => ((if n = 0 then none else (some .ret)) : Option Code))), cel b_5 3 [(Value.int .i64 s.2)], cel b_4 9 [(Value.string x_7)], cel b_1 4 [(Value.bool false)], row enc9 9 1 p_11 c_3 rs])) (Y0 := (fun x_12 x_13 (s : Nat × Int) K_1 => s.1 = 0 ∧ (cond (x_12 == x_7) (K_1 false (1, s.2)) (K_1 true (0, (IntKind.wrap .i64 (s.2 - 1))))))) (σ0 := Nat × Int) (s := (0, ((rs.length : Nat) : Int))) ?_ h hp ?_
        · intro x_12 x_13 s K_1 FL2 w R hx h hp hR
          replace h := h.unpack
          dsimp only [pickL, pickR, nthH, delH, dropH, List.cons_append, List.nil_append] at h
          obtain ⟨hst, hp⟩ := hp
          refine embrasurelaw06_DueAgain_r1_yield (by have := objAt h 0 rfl; rw [hst] at this; exact this) he_e_1 hr_e_1 ?_
          unfold embrasurelaw06_DueAgain_r1
          refine ⟨_, (by have := objAt h 0 rfl; rw [hst] at this; exact this : _ = some (Obj.loop (embrasurelaw06_DueAgain_lo1 fn_e_1 e_1 d))), rfl, ?_⟩
          replace h := h.putK 0 rfl (.loop { embrasurelaw06_DueAgain_lo1 fn_e_1 e_1 d with state := .busy })
          dsimp only [setH] at h
          refine ⟨_, cellL h 2 0 rfl rfl rfl, ?_⟩
          refine eqlStr ?_
          refine ⟨_, rfl, ?_⟩
          refine cond_both hp (fun hp => ?_) (fun hp => ?_)
          · refine storeL (ys := [(Value.bool false)]) h 3 0 rfl rfl rfl sz4 rfl rfl ?_
            intro w h
            dsimp only [setH, setVs, setV] at h
            refine ⟨_, objAt h 0 rfl, ?_⟩
            replace h := h.putK 0 rfl (loopS (embrasurelaw06_DueAgain_lo1 fn_e_1 e_1 d) 1 (fun (n : Nat) => ((if n = 0 then none else (some .ret)) : Option Code)))
            dsimp only [setH] at h
            exact hR false (1, s.2) _ (h.pack 5 [pt l_1 (loopS (embrasurelaw06_DueAgain_lo1 fn_e_1 e_1 d) 1 (fun (n : Nat) => ((if n = 0 then none else (some .ret)) : Option Code))), cel b_5 3 [(Value.int .i64 s.2)], cel b_4 9 [(Value.string x_7)], cel b_1 4 [(Value.bool false)], row enc9 9 1 p_11 c_3 rs] rfl) hp
          refine ⟨_, cellL h 1 0 rfl rfl rfl, ?_⟩
          refine storeL (ys := [(Value.int .i64 (IntKind.wrap .i64 (s.2 - 1)))]) h 1 0 rfl rfl rfl sz3 rfl rfl ?_
          intro w h
          dsimp only [setH, setVs, setV] at h
          refine ⟨_, objAt h 0 rfl, ?_⟩
          replace h := h.putK 0 rfl (loopS (embrasurelaw06_DueAgain_lo1 fn_e_1 e_1 d) 0 (fun (n : Nat) => ((if n = 0 then none else (some .ret)) : Option Code)))
          dsimp only [setH] at h
          exact hR true (0, (IntKind.wrap .i64 (s.2 - 1))) _ (h.pack 5 [pt l_1 (loopS (embrasurelaw06_DueAgain_lo1 fn_e_1 e_1 d) 0 (fun (n : Nat) => ((if n = 0 then none else (some .ret)) : Option Code))), cel b_5 3 [(Value.int .i64 (IntKind.wrap .i64 (s.2 - 1)))], cel b_4 9 [(Value.string x_7)], cel b_1 4 [(Value.bool false)], row enc9 9 1 p_11 c_3 rs] rfl) hp
        intro m_16 s_1 p_13 w h hp
        replace h := h.pick [4]
        dsimp only [pickL, pickR, nthH, delH, dropH, List.cons_append, List.nil_append] at h
        replace h := h.unpack
        dsimp only [pickL, pickR, nthH, delH, dropH, List.cons_append, List.nil_append] at h
        refine ⟨_, objAt h 0 rfl, loopS_ns _, ?_⟩
        replace h := h.putK 0 rfl (.loop { embrasurelaw06_DueAgain_lo1 fn_e_1 e_1 d with state := .exhausted, pending := (fun (n : Nat) => ((if n = 0 then none else (some .ret)) : Option Code)) s_1.1 })
        dsimp only [setH] at h
        rcases hp with ⟨hst, hp⟩ | ⟨hst, hp⟩
        · refine Or.inl ?_
          refine ⟨congrArg (fun (n : Nat) => ((if n = 0 then none else (some .ret)) : Option Code)) hst, ?_⟩
          replace h := h.sel [1, 5, 1, 1, 4, 4] 4
          dsimp only [pickL, pickR, nthH, delH, dropH, List.cons_append, List.nil_append] at h
          exact ⟨s_1.2, m_16, p_13, rfl, rfl, rfl, hp, h⟩
        · refine Or.inr (?_)
          refine ⟨show (fun (n : Nat) => ((if n = 0 then none else (some .ret)) : Option Code)) s_1.1 = _ from if_neg hst, ?_⟩
          replace h := h.pick [9]
          dsimp only [pickL, pickR, nthH, delH, dropH, List.cons_append, List.nil_append] at h
          refine finishMarks _ h ?_
          intro w h
          refine ⟨_, cellL h 3 0 rfl rfl rfl, ?_⟩
          replace h := h.sel [] 9
          dsimp only [pickL, pickR, nthH, delH, dropH, List.cons_append, List.nil_append] at h
          exact hR (false) _ h hp
      clear hq
      refine cond_both' hp (fun hp => ?_) (fun hp => ?_)
      · exact ⟨((ByteArray.mk ([]).toArray)), m_2, p_4, rfl, rfl, rfl, hp, h⟩
      refine ⟨hp.1, ?_⟩
      replace hp := hp.2
      obtain ⟨ia_7, ja_7, hp⟩ := hp
      obtain ⟨a_7, ha_7⟩ := rdAddr (hF_names _ (h.drop 5)) rfl ia_7 ja_7
      refine ⟨a_7, ha_7, ia_7, ja_7, ?_⟩
      obtain ⟨x_8, hx_8, hc⟩ := rdCell0 (hF_names _ (h.drop 5)) ha_7 rfl ia_7 ja_7
      replace hp := hp x_8 hx_8
      refine ⟨_, hc _ rfl, ?_⟩
      refine storeL (ys := [(Value.string x_8)]) h 0 0 rfl rfl rfl sz9 rfl rfl ?_
      intro w h
      dsimp only [setH, setVs, setV] at h
      refine ⟨_, cellL h 0 0 rfl rfl rfl, ?_⟩
      replace h := h.pick [1, 2]
      dsimp only [pickL, pickR, nthH, delH, dropH, List.cons_append, List.nil_append] at h
      refine due_Table_Drop_ok h hp ?_
      intro r_5 m_13 p_10 w h hp
      refine ⟨_, rfl, ?_⟩
      refine cond_both' hp (fun hp => ?_) (fun hp => ?_)
      · replace h := h.sel [2, 0, 1, 0, 0] 0
        dsimp only [pickL, pickR, nthH, delH, dropH, List.cons_append, List.nil_append] at h
        exact ⟨x_8, m_13, p_10, rfl, rfl, rfl, hp, h⟩
      refine storeL (ys := [(Value.bool false)]) h 3 0 rfl rfl rfl sz4 rfl rfl ?_
      intro w h
      dsimp only [setH, setVs, setV] at h
      replace h := h.pick [4]
      dsimp only [pickL, pickR, nthH, delH, dropH, List.cons_append, List.nil_append] at h
      refine finishMarks _ h ?_
      intro w h
      refine ⟨_, cellL h 3 0 rfl rfl rfl, ?_⟩
      replace h := h.sel [] 4
      dsimp only [pickL, pickR, nthH, delH, dropH, List.cons_append, List.nil_append] at h
      exact hR (false) _ h hp
    clear hq
    obtain ⟨I, ⟨n_5, h0⟩, hq⟩ := hp
    replace h := h.sel [0, 1, 0, 0] 0
    dsimp only [pickL, pickR, nthH, delH, dropH, List.cons_append, List.nil_append] at h
    refine ⟨fun n_3 names0_2p names0_2l names0_2c times1_1p times1_1l times1_1c drop2_2 t6_2 t7_1 i8 m_5 w => ∃ (m_4 : List (ByteArray × Int)), ∃ (p_5 : List MapEntry × Nat), p_1 = names0_2p ∧ names.length = names0_2l ∧ c_1 = names0_2c ∧ p_2 = times1_1p ∧ times.length = times1_1l ∧ c_2 = times1_1c ∧ drop = drop2_2 ∧ (Addr.mk b_1 0 none) = t6_2 ∧ (some (Addr.mk b_2 0 none)) = t7_1 ∧ I n_3 i8 m_4 ∧ Mem (cel b_2 60 [(Value.map (some b_3))] :: cel b_1 4 [(Value.bool false)] :: mapQ b_3 va9 va3 p_5 m_4 :: marksP m_5 :: FL) w, ⟨n_5, at_, p_3, rfl, rfl, rfl, rfl, rfl, rfl, rfl, rfl, rfl, h0, h⟩, ?_⟩
    clear h0 h
    rintro n_3 names0_2p names0_2l names0_2c times1_1p times1_1l times1_1c drop2_2 t6_2 t7_1 i8 m_5 w ⟨m_4, p_5, rfl, rfl, rfl, rfl, rfl, rfl, rfl, rfl, rfl, hp, h⟩
    replace hp := hq n_3 i8 m_4 hp
    clear hq
    unfold embrasurelaw06_DueAgain_l5
    refine cond_both' hp (fun hp => ?_) (fun hp => ?_)
    · exact ⟨m_4, p_5, rfl, rfl, rfl, rfl, rfl, rfl, hp, h⟩
    obtain ⟨ia_1, ja_1, hp⟩ := hp
    obtain ⟨a_1, ha_1⟩ := rdAddr (hF_names _ (h.drop 4)) rfl ia_1 ja_1
    refine ⟨a_1, ha_1, ia_1, ja_1, ?_⟩
    obtain ⟨x_1, hx_1, hc⟩ := rdCell0 (hF_names _ (h.drop 4)) ha_1 rfl ia_1 ja_1
    replace hp := hp x_1 hx_1
    refine ⟨_, hc _ rfl, ?_⟩
    refine cond_both hp (fun hp => ?_) (fun hp => ?_)
    · refine storeL (ys := [(Value.bool true)]) h 1 0 rfl rfl rfl sz4 rfl rfl ?_
      intro w h
      dsimp only [setH, setVs, setV] at h
      replace h := h.pick [3]
      dsimp only [pickL, pickR, nthH, delH, dropH, List.cons_append, List.nil_append] at h
      refine finishMarks _ h ?_
      intro w h
      refine ⟨_, cellL h 1 0 rfl rfl rfl, ?_⟩
      replace h := h.sel [] 3
      dsimp only [pickL, pickR, nthH, delH, dropH, List.cons_append, List.nil_append] at h
      exact hR (true) _ h hp
    obtain ⟨Q_2, hq, hp⟩ := hp
    refine ⟨fun names0_3p names0_3l names0_3c times1_2p times1_2l times1_2c drop2_3 t6_3 t7_2 i8_1 t63 m_7 w => ∃ (m_6 : List (ByteArray × Int)), ∃ (p_6 : List MapEntry × Nat), p_1 = names0_3p ∧ names.length = names0_3l ∧ c_1 = names0_3c ∧ p_2 = times1_2p ∧ times.length = times1_2l ∧ c_2 = times1_2c ∧ drop = drop2_3 ∧ (Addr.mk b_1 0 none) = t6_3 ∧ (some (Addr.mk b_2 0 none)) = t7_2 ∧ i8 = i8_1 ∧ Q_2 t63 m_6 ∧ Mem (cel b_2 60 [(Value.map (some b_3))] :: cel b_1 4 [(Value.bool false)] :: mapQ b_3 va9 va3 p_6 m_6 :: marksP m_7 :: FL) w, ?_, ?_⟩
    · rintro names0_3p names0_3l names0_3c times1_2p times1_2l times1_2c drop2_3 t6_3 t7_2 i8_1 t63 m_7 w ⟨m_6, p_6, rfl, rfl, rfl, rfl, rfl, rfl, rfl, rfl, rfl, rfl, hp, h⟩
      replace hp := hq t63 m_6 hp
      unfold embrasurelaw06_DueAgain_j6
      refine cond_both hp (fun hp => ?_) (fun hp => ?_)
      · refine storeL (ys := [(Value.bool false)]) h 1 0 rfl rfl rfl sz4 rfl rfl ?_
        intro w h
        dsimp only [setH, setVs, setV] at h
        replace h := h.pick [3]
        dsimp only [pickL, pickR, nthH, delH, dropH, List.cons_append, List.nil_append] at h
        refine finishMarks _ h ?_
        intro w h
        refine ⟨_, cellL h 1 0 rfl rfl rfl, ?_⟩
        replace h := h.sel [] 3
        dsimp only [pickL, pickR, nthH, delH, dropH, List.cons_append, List.nil_append] at h
        exact hR (false) _ h hp
      obtain ⟨ia_5, ja_5, hp⟩ := hp
      obtain ⟨a_5, ha_5⟩ := rdAddr (hF_names _ (h.drop 4)) rfl ia_5 ja_5
      refine ⟨a_5, ha_5, ia_5, ja_5, ?_⟩
      obtain ⟨x_5, hx_5, hc⟩ := rdCell0 (hF_names _ (h.drop 4)) ha_5 rfl ia_5 ja_5
      replace hp := hp x_5 hx_5
      refine ⟨_, hc _ rfl, ?_⟩
      have hMr_mk3 := romOf (h.drop 1) 1 rfl
      refine due_Table_At_ok (FL := cel b_1 4 [(Value.bool false)] :: mapQ b_3 va9 va3 p_6 m_6 :: marksP m_7 :: FL) hMr_mk3 h hp ?_
      intro r_3 r_4 w h hp
      refine ⟨_, _, rfl, ?_⟩
      refine ⟨_, rfl, ?_⟩
      obtain ⟨Q_3, hq, hp⟩ := hp
      refine ⟨fun names0_4p names0_4l names0_4c times1_3p times1_3l times1_3c drop2_4 t6_4 t7_3 i8_2 t86 m_10 w => p_1 = names0_4p ∧ names.length = names0_4l ∧ c_1 = names0_4c ∧ p_2 = times1_3p ∧ times.length = times1_3l ∧ c_2 = times1_3c ∧ drop = drop2_4 ∧ (Addr.mk b_1 0 none) = t6_4 ∧ (some (Addr.mk b_2 0 none)) = t7_3 ∧ i8 = i8_2 ∧ Q_3 t86 ∧ Mem (cel b_2 60 [(Value.map (some b_3))] :: cel b_1 4 [(Value.bool false)] :: mapQ b_3 va9 va3 p_6 m_6 :: marksP m_10 :: FL) w, ?_, ?_⟩
      · rintro names0_4p names0_4l names0_4c times1_3p times1_3l times1_3c drop2_4 t6_4 t7_3 i8_2 t86 m_10 w ⟨rfl, rfl, rfl, rfl, rfl, rfl, rfl, rfl, rfl, rfl, hp, h⟩
        replace hp := hq t86 hp
        unfold embrasurelaw06_DueAgain_j7
        refine cond_both' hp (fun hp => ?_) (fun hp => ?_)
        · obtain ⟨n_4, hn, hp⟩ := hp
          exact ⟨n_4, hn, m_6, p_6, rfl, rfl, rfl, rfl, rfl, rfl, rfl, rfl, rfl, hp, h⟩
        refine storeL (ys := [(Value.bool false)]) h 1 0 rfl rfl rfl sz4 rfl rfl ?_
        intro w h
        dsimp only [setH, setVs, setV] at h
        replace h := h.pick [3]
        dsimp only [pickL, pickR, nthH, delH, dropH, List.cons_append, List.nil_append] at h
        refine finishMarks _ h ?_
        intro w h
        refine ⟨_, cellL h 1 0 rfl rfl rfl, ?_⟩
        replace h := h.sel [] 3
        dsimp only [pickL, pickR, nthH, delH, dropH, List.cons_append, List.nil_append] at h
        exact hR (false) _ h hp
      clear hq
      refine cond_both hp (fun hp => ?_) (fun hp => ?_)
      · exact ⟨rfl, rfl, rfl, rfl, rfl, rfl, rfl, rfl, rfl, rfl, hp, h⟩
      refine ⟨hp.1, ?_⟩
      replace hp := hp.2
      obtain ⟨ia_6, ja_6, hp⟩ := hp
      obtain ⟨a_6, ha_6⟩ := rdAddr (hF_times _ (h.drop 4)) rfl ia_6 ja_6
      refine ⟨a_6, ha_6, ia_6, ja_6, ?_⟩
      obtain ⟨x_6, hx_6, hc⟩ := rdCell0 (hF_times _ (h.drop 4)) ha_6 rfl ia_6 ja_6
      replace hp := hp x_6 hx_6
      refine ⟨_, hc _ rfl, ?_⟩
      exact ⟨rfl, rfl, rfl, rfl, rfl, rfl, rfl, rfl, rfl, rfl, hp, h⟩
    clear hq
    replace h := h.drew
    refine ⟨fun w => Mem (FL) w, (h.sel [] 4), ?_⟩
    obtain ⟨ia_2, ja_2, hp⟩ := hp
    obtain ⟨a_2, ha_2⟩ := rdAddr (hF_names _ (h.drop 4)) rfl ia_2 ja_2
    refine ⟨a_2, ha_2, ia_2, ja_2, ?_⟩
    obtain ⟨x_2, hx_2, hc⟩ := rdCell0 (hF_names _ (h.drop 4)) ha_2 rfl ia_2 ja_2
    replace hp := hp x_2 hx_2
    refine ⟨_, hc _ rfl, ?_⟩
    replace h := h.pick [0, 1]
    dsimp only [pickL, pickR, nthH, delH, dropH, List.cons_append, List.nil_append] at h
    refine due_Table_Set_ok h hp ?_
    intro r_1 m_8 p_7 w h hp
    refine ⟨_, rfl, ?_⟩
    refine ⟨(h.sel [] 4), ?_⟩
    refine cond_both hp (fun hp => ?_) (fun hp => ?_)
    · replace h := h.sel [0, 1, 0, 0] 0
      dsimp only [pickL, pickR, nthH, delH, dropH, List.cons_append, List.nil_append] at h
      exact ⟨m_8, p_7, rfl, rfl, rfl, rfl, rfl, rfl, rfl, rfl, rfl, rfl, hp, h⟩
    obtain ⟨ia_3, ja_3, hp⟩ := hp
    obtain ⟨a_3, ha_3⟩ := rdAddr (hF_names _ (h.drop 4)) rfl ia_3 ja_3
    refine ⟨a_3, ha_3, ia_3, ja_3, ?_⟩
    obtain ⟨x_3, hx_3, hc⟩ := rdCell0 (hF_names _ (h.drop 4)) ha_3 rfl ia_3 ja_3
    replace hp := hp x_3 hx_3
    refine ⟨_, hc _ rfl, ?_⟩
    refine ⟨rfl, ?_⟩
    refine ⟨hp.1, ?_⟩
    replace hp := hp.2
    obtain ⟨ia_4, ja_4, hp⟩ := hp
    obtain ⟨a_4, ha_4⟩ := rdAddr (hF_times _ (h.drop 4)) rfl ia_4 ja_4
    refine ⟨a_4, ha_4, ia_4, ja_4, ?_⟩
    obtain ⟨x_4, hx_4, hc⟩ := rdCell0 (hF_times _ (h.drop 4)) ha_4 rfl ia_4 ja_4
    replace hp := hp x_4 hx_4
    refine ⟨_, hc _ rfl, ?_⟩
    refine due_Table_Set_ok h hp ?_
    intro r_2 m_9 p_8 w h hp
    refine ⟨_, rfl, ?_⟩
    replace h := h.sel [0, 1, 0, 0] 0
    dsimp only [pickL, pickR, nthH, delH, dropH, List.cons_append, List.nil_append] at h
    exact ⟨m_9, p_8, rfl, rfl, rfl, rfl, rfl, rfl, rfl, rfl, rfl, rfl, hp, h⟩
  clear hq
  refine cond_both hp (fun hp => ?_) (fun hp => ?_)
  · exact ⟨rfl, rfl, rfl, rfl, rfl, rfl, rfl, rfl, hp, h⟩
  exact ⟨rfl, rfl, rfl, rfl, rfl, rfl, rfl, rfl, hp, h⟩

/-! embrasure/embrasurelaw06.DueNames (7) -/
def embrasurelaw06_DueNames_wp (names : List (ByteArray)) (times : List (Int)) (K : Bool → Prop) : Prop :=
  embrasurelaw06_awake_wp (fun (r : Bool) => cond (!r) (K false) (joinP1 (fun (t25 : Bool) => cond t25 (K true) (due_New_wp (fun (at_ : List (ByteArray × Int)) => joinP1 (fun (m_1 : List (ByteArray × Int)) => due_Table_Names_wp m_1 (fun (rs : List (ByteArray)) => joinP0 (joinP0 (K (decide ((((rs.length : Nat) : Int) : Int) ≤ ((names.length : Nat) : Int)))) (fun (Q_4 : Prop) => ∃ (I_2 : Nat → Int → Prop), (∃ (n_16 : Nat), I_2 n_16 0) ∧ ∀ (n_10 : Nat) (i13 : Int), I_2 n_10 i13 → (cond (decide ((i13 : Int) < ((names.length : Nat) : Int))) (joinP1 (fun (there14 : Bool) => cond (!there14) (K false) (∃ (n_15 : Nat), n_15 < n_10 ∧ I_2 n_15 (IntKind.wrap .i64 (i13 + 1)))) (fun (Q_5 : Bool → Prop) => ∃ (I_3 : Nat → Bool → Int → Prop), (∃ (n_14 : Nat), I_3 n_14 false 0) ∧ ∀ (n_11 : Nat) (there14_1 : Bool) (k15 : Int), I_3 n_11 there14_1 k15 → (cond (decide ((k15 : Int) < ((rs.length : Nat) : Int))) (cond there14_1 (∃ (n_12 : Nat), n_12 < n_11 ∧ I_3 n_12 true (IntKind.wrap .i64 (k15 + 1))) (0 ≤ (k15 : Int) ∧ (k15 : Int) < ((rs.length : Nat) : Int) ∧ (∀ (x_8 : ByteArray), rs[Int.toNat k15]? = some x_8 → (0 ≤ (i13 : Int) ∧ (i13 : Int) < ((names.length : Nat) : Int) ∧ (∀ (x_9 : ByteArray), names[Int.toNat i13]? = some x_9 → (∃ (n_13 : Nat), n_13 < n_11 ∧ I_3 n_13 (x_8 == x_9) (IntKind.wrap .i64 (k15 + 1)))))))) (Q_5 there14_1)))) (Q_4 )))) (fun (Q_2 : Prop) => ∃ (I_1 : Nat → Int → Prop), (∃ (n_9 : Nat), I_1 n_9 1) ∧ ∀ (n_7 : Nat) (i8 : Int), I_1 n_7 i8 → (cond (decide ((i8 : Int) < ((rs.length : Nat) : Int))) (0 ≤ ((IntKind.wrap .i64 (i8 - 1)) : Int) ∧ ((IntKind.wrap .i64 (i8 - 1)) : Int) < ((rs.length : Nat) : Int) ∧ (∀ (x_4 : ByteArray), rs[Int.toNat (IntKind.wrap .i64 (i8 - 1))]? = some x_4 → (due_Table_At_wp m_1 x_4 (fun (r_2 : Int) (r_3 : Bool) => 0 ≤ (i8 : Int) ∧ (i8 : Int) < ((rs.length : Nat) : Int) ∧ (∀ (x_5 : ByteArray), rs[Int.toNat i8]? = some x_5 → (due_Table_At_wp m_1 x_5 (fun (r_4 : Int) (r_5 : Bool) => joinP1 (fun (t107 : Bool) => cond t107 (K false) (∃ (n_8 : Nat), n_8 < n_7 ∧ I_1 n_8 (IntKind.wrap .i64 (i8 + 1)))) (fun (Q_3 : Bool → Prop) => cond (!r_3) (Q_3 true) (cond (!r_5) (Q_3 true) (cond (decide ((r_2 : Int) > r_4)) (Q_3 true) (cond ((r_2 : Int) == r_4) (0 ≤ ((IntKind.wrap .i64 (i8 - 1)) : Int) ∧ ((IntKind.wrap .i64 (i8 - 1)) : Int) < ((rs.length : Nat) : Int) ∧ (∀ (x_6 : ByteArray), rs[Int.toNat (IntKind.wrap .i64 (i8 - 1))]? = some x_6 → (0 ≤ (i8 : Int) ∧ (i8 : Int) < ((rs.length : Nat) : Int) ∧ (∀ (x_7 : ByteArray), rs[Int.toNat i8]? = some x_7 → (Q_3 (!(Op.bytesLess (ByteArray.toList x_6) (ByteArray.toList x_7)))))))) (Q_3 false)))))))))))) (Q_2 ))))) (fun (Q_1 : List (ByteArray × Int) → Prop) => ∃ (I : Nat → Int → List (ByteArray × Int) → Prop), (∃ (n_5 : Nat), I n_5 0 at_) ∧ ∀ (n_3 : Nat) (i6 : Int) (m_2 : List (ByteArray × Int)), I n_3 i6 m_2 → (cond (decide ((i6 : Int) < ((names.length : Nat) : Int))) (0 ≤ (i6 : Int) ∧ (i6 : Int) < ((names.length : Nat) : Int) ∧ (∀ (x_1 : ByteArray), names[Int.toNat i6]? = some x_1 → (cond (decide ((((x_1.size : Nat) : Int) : Int) > 60)) (K true) (0 ≤ (i6 : Int) ∧ (i6 : Int) < ((names.length : Nat) : Int) ∧ (∀ (x_2 : ByteArray), names[Int.toNat i6]? = some x_2 → ((((times.length : Nat) : Int) : Int) ≠ 0 ∧ (0 ≤ ((Int.tmod i6 ((times.length : Nat) : Int)) : Int) ∧ ((Int.tmod i6 ((times.length : Nat) : Int)) : Int) < ((times.length : Nat) : Int) ∧ (∀ (x_3 : Int), times[Int.toNat (Int.tmod i6 ((times.length : Nat) : Int))]? = some x_3 → (due_Table_Set_wp m_2 x_2 (IntKind.wrap .i64 x_3) (fun (r_1 : Int) (m_3 : List (ByteArray × Int)) => ∃ (n_4 : Nat), n_4 < n_3 ∧ I n_4 (IntKind.wrap .i64 (i6 + 1)) m_3)))))))))) (Q_1 m_2)))))) (fun (Q : Bool → Prop) => cond (decide ((((names.length : Nat) : Int) : Int) > 60)) (Q true) (Q ((((times.length : Nat) : Int) : Int) == 0)))))
theorem embrasurelaw06_DueNames_ok {p_1 : Option Addr} {n_1 : Nat} {c_1 : Nat} {p_2 : Option Addr} {n_2 : Nat} {c_2 : Nat} {names : List (ByteArray)} {times : List (Int)} {FL : List HP} {w : World} {K : Bool → Prop} {R : Value → World → Prop}
  (hF_names : ∀ w, Mem FL w → Rd w 1 p_1 enc9 names) (hl_names : n_1 = names.length) (hc_names : n_1 ≤ c_1)
  (hF_times : ∀ w, Mem FL w → Rd w 1 p_2 enc5 times) (hl_times : n_2 = times.length) (hc_times : n_2 ≤ c_2)
  (h : Mem (FL) w) (hp : embrasurelaw06_DueNames_wp names times K)
  (hR : ∀ (r : Bool) (w : World), Mem (FL) w → K r → R (Value.bool r) w) :
  CallV Try.prog 7 #[(Value.slice p_1 n_1 c_1), (Value.slice p_2 n_2 c_2)] w R := by
  refine embrasurelaw06_DueNames_call ?_
  unfold embrasurelaw06_DueNames
  unfold embrasurelaw06_DueNames_wp at hp
  subst hl_names
  subst hl_times
  refine embrasurelaw06_awake_ok h hp ?_
  intro r w h hp
  refine ⟨_, rfl, ?_⟩
  refine cond_both hp (fun hp => ?_) (fun hp => ?_)
  · exact hR false _ h hp
  obtain ⟨Q, hq, hp⟩ := hp
  refine ⟨fun names0p names0l names0c times1p times1l times1c t25 w => p_1 = names0p ∧ names.length = names0l ∧ c_1 = names0c ∧ p_2 = times1p ∧ times.length = times1l ∧ c_2 = times1c ∧ Q t25 ∧ Mem (FL) w, ?_, ?_⟩
  · rintro names0p names0l names0c times1p times1l times1c t25 w ⟨rfl, rfl, rfl, rfl, rfl, rfl, hp, h⟩
    replace hp := hq t25 hp
    unfold embrasurelaw06_DueNames_j1
    refine cond_both hp (fun hp => ?_) (fun hp => ?_)
    · exact hR true _ h hp
    refine due_New_ok h hp ?_
    intro at_ b_1 b_2 p_3 w h hp
    refine ⟨_, rfl, ?_⟩
    obtain ⟨Q_1, hq, hp⟩ := hp
    refine ⟨fun names0_1p names0_1l names0_1c t5 w => ∃ (m_1 : List (ByteArray × Int)), ∃ (p_4 : List MapEntry × Nat), p_1 = names0_1p ∧ names.length = names0_1l ∧ c_1 = names0_1c ∧ (some (Addr.mk b_1 0 none)) = t5 ∧ Q_1 m_1 ∧ Mem (cel b_1 60 [(Value.map (some b_2))] :: mapQ b_2 va9 va3 p_4 m_1 :: FL) w, ?_, ?_⟩
    · rintro names0_1p names0_1l names0_1c t5 w ⟨m_1, p_4, rfl, rfl, rfl, rfl, hp, h⟩
      replace hp := hq m_1 hp
      unfold embrasurelaw06_DueNames_j2
      have hMr_mk2 := romOf (h.drop 1) 0 rfl
      refine due_Table_Names_ok (FL := mapQ b_2 va9 va3 p_4 m_1 :: FL) hMr_mk2 h hp ?_
      rintro rs p_7 n_6 c_3 w rfl h hp
      have cpp_7 := rowCap h 0 rfl
      refine ⟨_, _, _, rfl, ?_⟩
      obtain ⟨Q_2, hq, hp⟩ := hp
      refine ⟨fun names0_3p names0_3l names0_3c l7p l7l l7c w => p_1 = names0_3p ∧ names.length = names0_3l ∧ c_1 = names0_3c ∧ p_7 = l7p ∧ rs.length = l7l ∧ c_3 = l7c ∧ Q_2 ∧ Mem (cel b_1 60 [(Value.map (some b_2))] :: mapQ b_2 va9 va3 p_4 m_1 :: row enc9 9 1 p_7 c_3 rs :: FL) w, ?_, ?_⟩
      · rintro names0_3p names0_3l names0_3c l7p l7l l7c w ⟨rfl, rfl, rfl, rfl, rfl, rfl, hp, h⟩
        replace hp := hq  hp
        unfold embrasurelaw06_DueNames_j3
        obtain ⟨Q_4, hq, hp⟩ := hp
        refine ⟨fun names0_6p names0_6l names0_6c l7_3p l7_3l l7_3c w => p_1 = names0_6p ∧ names.length = names0_6l ∧ c_1 = names0_6c ∧ p_7 = l7_3p ∧ rs.length = l7_3l ∧ c_3 = l7_3c ∧ Q_4 ∧ Mem (cel b_1 60 [(Value.map (some b_2))] :: mapQ b_2 va9 va3 p_4 m_1 :: row enc9 9 1 p_7 c_3 rs :: FL) w, ?_, ?_⟩
        · rintro names0_6p names0_6l names0_6c l7_3p l7_3l l7_3c w ⟨rfl, rfl, rfl, rfl, rfl, rfl, hp, h⟩
          replace hp := hq  hp
          unfold embrasurelaw06_DueNames_j4
          replace h := h.sel [] 3
          dsimp only [pickL, pickR, nthH, delH, dropH, List.cons_append, List.nil_append] at h
          exact hR (decide ((((rs.length : Nat) : Int) : Int) ≤ ((names.length : Nat) : Int))) _ h hp
        clear hq
        obtain ⟨I_2, ⟨n_16, h0⟩, hq⟩ := hp
        refine ⟨fun n_10 names0_7p names0_7l names0_7c l7_4p l7_4l l7_4c i13 w => p_1 = names0_7p ∧ names.length = names0_7l ∧ c_1 = names0_7c ∧ p_7 = l7_4p ∧ rs.length = l7_4l ∧ c_3 = l7_4c ∧ I_2 n_10 i13 ∧ Mem (cel b_1 60 [(Value.map (some b_2))] :: mapQ b_2 va9 va3 p_4 m_1 :: row enc9 9 1 p_7 c_3 rs :: FL) w, ⟨n_16, rfl, rfl, rfl, rfl, rfl, rfl, h0, h⟩, ?_⟩
        clear h0 h
        rintro n_10 names0_7p names0_7l names0_7c l7_4p l7_4l l7_4c i13 w ⟨rfl, rfl, rfl, rfl, rfl, rfl, hp, h⟩
        replace hp := hq n_10 i13 hp
        clear hq
        unfold embrasurelaw06_DueNames_l5
        refine cond_both' hp (fun hp => ?_) (fun hp => ?_)
        · exact ⟨rfl, rfl, rfl, rfl, rfl, rfl, hp, h⟩
        obtain ⟨Q_5, hq, hp⟩ := hp
        refine ⟨fun names0_8p names0_8l names0_8c l7_5p l7_5l l7_5c i13_1 there14 w => p_1 = names0_8p ∧ names.length = names0_8l ∧ c_1 = names0_8c ∧ p_7 = l7_5p ∧ rs.length = l7_5l ∧ c_3 = l7_5c ∧ i13 = i13_1 ∧ Q_5 there14 ∧ Mem (cel b_1 60 [(Value.map (some b_2))] :: mapQ b_2 va9 va3 p_4 m_1 :: row enc9 9 1 p_7 c_3 rs :: FL) w, ?_, ?_⟩
        · rintro names0_8p names0_8l names0_8c l7_5p l7_5l l7_5c i13_1 there14 w ⟨rfl, rfl, rfl, rfl, rfl, rfl, rfl, hp, h⟩
          replace hp := hq there14 hp
          unfold embrasurelaw06_DueNames_j6
          refine cond_both' hp (fun hp => ?_) (fun hp => ?_)
          · obtain ⟨n_15, hn, hp⟩ := hp
            exact ⟨n_15, hn, rfl, rfl, rfl, rfl, rfl, rfl, hp, h⟩
          replace h := h.sel [] 3
          dsimp only [pickL, pickR, nthH, delH, dropH, List.cons_append, List.nil_append] at h
          exact hR false _ h hp
        clear hq
        obtain ⟨I_3, ⟨n_14, h0⟩, hq⟩ := hp
        refine ⟨fun n_11 names0_9p names0_9l names0_9c l7_6p l7_6l l7_6c i13_2 there14_1 k15 w => p_1 = names0_9p ∧ names.length = names0_9l ∧ c_1 = names0_9c ∧ p_7 = l7_6p ∧ rs.length = l7_6l ∧ c_3 = l7_6c ∧ i13 = i13_2 ∧ I_3 n_11 there14_1 k15 ∧ Mem (cel b_1 60 [(Value.map (some b_2))] :: mapQ b_2 va9 va3 p_4 m_1 :: row enc9 9 1 p_7 c_3 rs :: FL) w, ⟨n_14, rfl, rfl, rfl, rfl, rfl, rfl, rfl, h0, h⟩, ?_⟩
        clear h0 h
        rintro n_11 names0_9p names0_9l names0_9c l7_6p l7_6l l7_6c i13_2 there14_1 k15 w ⟨rfl, rfl, rfl, rfl, rfl, rfl, rfl, hp, h⟩
        replace hp := hq n_11 there14_1 k15 hp
        clear hq
        unfold embrasurelaw06_DueNames_l7
        refine cond_both' hp (fun hp => ?_) (fun hp => ?_)
        · exact ⟨rfl, rfl, rfl, rfl, rfl, rfl, rfl, hp, h⟩
        replace h := h.drew
        refine cond_both hp (fun hp => ?_) (fun hp => ?_)
        · obtain ⟨n_12, hn, hp⟩ := hp
          exact ⟨n_12, hn, rfl, rfl, rfl, rfl, rfl, rfl, rfl, hp, h⟩
        obtain ⟨ia_8, ja_8, hp⟩ := hp
        obtain ⟨a_8, ha_8⟩ := rdAddr (rowRd h 2 encL9 rfl) rfl ia_8 ja_8
        refine ⟨a_8, ha_8, ia_8, ja_8, ?_⟩
        obtain ⟨x_8, hx_8, hc⟩ := rdCell0 (rowRd h 2 encL9 rfl) ha_8 rfl ia_8 ja_8
        replace hp := hp x_8 hx_8
        refine ⟨_, hc _ rfl, ?_⟩
        obtain ⟨ia_9, ja_9, hp⟩ := hp
        obtain ⟨a_9, ha_9⟩ := rdAddr (hF_names _ (h.drop 3)) rfl ia_9 ja_9
        refine ⟨a_9, ha_9, ia_9, ja_9, ?_⟩
        obtain ⟨x_9, hx_9, hc⟩ := rdCell0 (hF_names _ (h.drop 3)) ha_9 rfl ia_9 ja_9
        replace hp := hp x_9 hx_9
        refine ⟨_, hc _ rfl, ?_⟩
        refine eqlStr ?_
        refine ⟨_, rfl, ?_⟩
        refine ⟨rfl, ?_⟩
        obtain ⟨n_13, hn, hp⟩ := hp
        exact ⟨n_13, hn, rfl, rfl, rfl, rfl, rfl, rfl, rfl, hp, h⟩
      clear hq
      obtain ⟨I_1, ⟨n_9, h0⟩, hq⟩ := hp
      replace h := h.sel [1, 1, 0] 0
      dsimp only [pickL, pickR, nthH, delH, dropH, List.cons_append, List.nil_append] at h
      refine ⟨fun n_7 names0_4p names0_4l names0_4c t5_2 l7_1p l7_1l l7_1c i8 w => p_1 = names0_4p ∧ names.length = names0_4l ∧ c_1 = names0_4c ∧ (some (Addr.mk b_1 0 none)) = t5_2 ∧ p_7 = l7_1p ∧ rs.length = l7_1l ∧ c_3 = l7_1c ∧ I_1 n_7 i8 ∧ Mem (cel b_1 60 [(Value.map (some b_2))] :: mapQ b_2 va9 va3 p_4 m_1 :: row enc9 9 1 p_7 c_3 rs :: FL) w, ⟨n_9, rfl, rfl, rfl, rfl, rfl, rfl, rfl, h0, h⟩, ?_⟩
      clear h0 h
      rintro n_7 names0_4p names0_4l names0_4c t5_2 l7_1p l7_1l l7_1c i8 w ⟨rfl, rfl, rfl, rfl, rfl, rfl, rfl, hp, h⟩
      replace hp := hq n_7 i8 hp
      clear hq
      unfold embrasurelaw06_DueNames_l8
      refine cond_both' hp (fun hp => ?_) (fun hp => ?_)
      · exact ⟨rfl, rfl, rfl, rfl, rfl, rfl, hp, h⟩
      obtain ⟨ia_4, ja_4, hp⟩ := hp
      obtain ⟨a_4, ha_4⟩ := rdAddr (rowRd h 2 encL9 rfl) rfl ia_4 ja_4
      refine ⟨a_4, ha_4, ia_4, ja_4, ?_⟩
      obtain ⟨x_4, hx_4, hc⟩ := rdCell0 (rowRd h 2 encL9 rfl) ha_4 rfl ia_4 ja_4
      replace hp := hp x_4 hx_4
      refine ⟨_, hc _ rfl, ?_⟩
      have hMr_mk2 := romOf (h.drop 1) 0 rfl
      refine due_Table_At_ok (FL := mapQ b_2 va9 va3 p_4 m_1 :: row enc9 9 1 p_7 c_3 rs :: FL) hMr_mk2 h hp ?_
      intro r_2 r_3 w h hp
      refine ⟨_, _, rfl, ?_⟩
      refine ⟨_, rfl, ?_⟩
      obtain ⟨ia_5, ja_5, hp⟩ := hp
      obtain ⟨a_5, ha_5⟩ := rdAddr (rowRd h 2 encL9 rfl) rfl ia_5 ja_5
      refine ⟨a_5, ha_5, ia_5, ja_5, ?_⟩
      obtain ⟨x_5, hx_5, hc⟩ := rdCell0 (rowRd h 2 encL9 rfl) ha_5 rfl ia_5 ja_5
      replace hp := hp x_5 hx_5
      refine ⟨_, hc _ rfl, ?_⟩
      have hMr_mk2 := romOf (h.drop 1) 0 rfl
      refine due_Table_At_ok (FL := mapQ b_2 va9 va3 p_4 m_1 :: row enc9 9 1 p_7 c_3 rs :: FL) hMr_mk2 h hp ?_
      intro r_4 r_5 w h hp
      refine ⟨_, _, rfl, ?_⟩
      refine ⟨_, rfl, ?_⟩
      obtain ⟨Q_3, hq, hp⟩ := hp
      refine ⟨fun names0_5p names0_5l names0_5c t5_3 l7_2p l7_2l l7_2c i8_1 t107 w => p_1 = names0_5p ∧ names.length = names0_5l ∧ c_1 = names0_5c ∧ (some (Addr.mk b_1 0 none)) = t5_3 ∧ p_7 = l7_2p ∧ rs.length = l7_2l ∧ c_3 = l7_2c ∧ i8 = i8_1 ∧ Q_3 t107 ∧ Mem (cel b_1 60 [(Value.map (some b_2))] :: mapQ b_2 va9 va3 p_4 m_1 :: row enc9 9 1 p_7 c_3 rs :: FL) w, ?_, ?_⟩
      · rintro names0_5p names0_5l names0_5c t5_3 l7_2p l7_2l l7_2c i8_1 t107 w ⟨rfl, rfl, rfl, rfl, rfl, rfl, rfl, rfl, hp, h⟩
        replace hp := hq t107 hp
        unfold embrasurelaw06_DueNames_j9
        refine cond_both' hp (fun hp => ?_) (fun hp => ?_)
        · obtain ⟨n_8, hn, hp⟩ := hp
          exact ⟨n_8, hn, rfl, rfl, rfl, rfl, rfl, rfl, rfl, hp, h⟩
        replace h := h.sel [] 3
        dsimp only [pickL, pickR, nthH, delH, dropH, List.cons_append, List.nil_append] at h
        exact hR false _ h hp
      clear hq
      replace h := h.drew
      refine cond_both hp (fun hp => ?_) (fun hp => ?_)
      · exact ⟨rfl, rfl, rfl, rfl, rfl, rfl, rfl, rfl, hp, h⟩
      refine cond_both hp (fun hp => ?_) (fun hp => ?_)
      · exact ⟨rfl, rfl, rfl, rfl, rfl, rfl, rfl, rfl, hp, h⟩
      refine cond_both hp (fun hp => ?_) (fun hp => ?_)
      · exact ⟨rfl, rfl, rfl, rfl, rfl, rfl, rfl, rfl, hp, h⟩
      refine cond_both' hp (fun hp => ?_) (fun hp => ?_)
      · exact ⟨rfl, rfl, rfl, rfl, rfl, rfl, rfl, rfl, hp, h⟩
      obtain ⟨ia_6, ja_6, hp⟩ := hp
      obtain ⟨a_6, ha_6⟩ := rdAddr (rowRd h 2 encL9 rfl) rfl ia_6 ja_6
      refine ⟨a_6, ha_6, ia_6, ja_6, ?_⟩
      obtain ⟨x_6, hx_6, hc⟩ := rdCell0 (rowRd h 2 encL9 rfl) ha_6 rfl ia_6 ja_6
      replace hp := hp x_6 hx_6
      refine ⟨_, hc _ rfl, ?_⟩
      obtain ⟨ia_7, ja_7, hp⟩ := hp
      obtain ⟨a_7, ha_7⟩ := rdAddr (rowRd h 2 encL9 rfl) rfl ia_7 ja_7
      refine ⟨a_7, ha_7, ia_7, ja_7, ?_⟩
      obtain ⟨x_7, hx_7, hc⟩ := rdCell0 (rowRd h 2 encL9 rfl) ha_7 rfl ia_7 ja_7
      replace hp := hp x_7 hx_7
      refine ⟨_, hc _ rfl, ?_⟩
      refine geqStr ?_
      refine ⟨_, rfl, ?_⟩
      refine ⟨rfl, ?_⟩
      exact ⟨rfl, rfl, rfl, rfl, rfl, rfl, rfl, rfl, hp, h⟩
    clear hq
    obtain ⟨I, ⟨n_5, h0⟩, hq⟩ := hp
    refine ⟨fun n_3 names0_2p names0_2l names0_2c times1_1p times1_1l times1_1c t5_1 i6 w => ∃ (m_2 : List (ByteArray × Int)), ∃ (p_5 : List MapEntry × Nat), p_1 = names0_2p ∧ names.length = names0_2l ∧ c_1 = names0_2c ∧ p_2 = times1_1p ∧ times.length = times1_1l ∧ c_2 = times1_1c ∧ (some (Addr.mk b_1 0 none)) = t5_1 ∧ I n_3 i6 m_2 ∧ Mem (cel b_1 60 [(Value.map (some b_2))] :: mapQ b_2 va9 va3 p_5 m_2 :: FL) w, ⟨n_5, at_, p_3, rfl, rfl, rfl, rfl, rfl, rfl, rfl, h0, h⟩, ?_⟩
    clear h0 h
    rintro n_3 names0_2p names0_2l names0_2c times1_1p times1_1l times1_1c t5_1 i6 w ⟨m_2, p_5, rfl, rfl, rfl, rfl, rfl, rfl, rfl, hp, h⟩
    replace hp := hq n_3 i6 m_2 hp
    clear hq
    unfold embrasurelaw06_DueNames_l10
    refine cond_both' hp (fun hp => ?_) (fun hp => ?_)
    · exact ⟨m_2, p_5, rfl, rfl, rfl, rfl, hp, h⟩
    obtain ⟨ia_1, ja_1, hp⟩ := hp
    obtain ⟨a_1, ha_1⟩ := rdAddr (hF_names _ (h.drop 2)) rfl ia_1 ja_1
    refine ⟨a_1, ha_1, ia_1, ja_1, ?_⟩
    obtain ⟨x_1, hx_1, hc⟩ := rdCell0 (hF_names _ (h.drop 2)) ha_1 rfl ia_1 ja_1
    replace hp := hp x_1 hx_1
    refine ⟨_, hc _ rfl, ?_⟩
    refine cond_both hp (fun hp => ?_) (fun hp => ?_)
    · replace h := h.sel [] 2
      dsimp only [pickL, pickR, nthH, delH, dropH, List.cons_append, List.nil_append] at h
      exact hR true _ h hp
    replace h := h.drew
    obtain ⟨ia_2, ja_2, hp⟩ := hp
    obtain ⟨a_2, ha_2⟩ := rdAddr (hF_names _ (h.drop 2)) rfl ia_2 ja_2
    refine ⟨a_2, ha_2, ia_2, ja_2, ?_⟩
    obtain ⟨x_2, hx_2, hc⟩ := rdCell0 (hF_names _ (h.drop 2)) ha_2 rfl ia_2 ja_2
    replace hp := hp x_2 hx_2
    refine ⟨_, hc _ rfl, ?_⟩
    refine ⟨rfl, ?_⟩
    refine ⟨hp.1, ?_⟩
    replace hp := hp.2
    obtain ⟨ia_3, ja_3, hp⟩ := hp
    obtain ⟨a_3, ha_3⟩ := rdAddr (hF_times _ (h.drop 2)) rfl ia_3 ja_3
    refine ⟨a_3, ha_3, ia_3, ja_3, ?_⟩
    obtain ⟨x_3, hx_3, hc⟩ := rdCell0 (hF_times _ (h.drop 2)) ha_3 rfl ia_3 ja_3
    replace hp := hp x_3 hx_3
    refine ⟨_, hc _ rfl, ?_⟩
    refine due_Table_Set_ok h hp ?_
    intro r_1 m_3 p_6 w h hp
    refine ⟨_, rfl, ?_⟩
    obtain ⟨n_4, hn, hp⟩ := hp
    exact ⟨n_4, hn, m_3, p_6, rfl, rfl, rfl, rfl, rfl, rfl, rfl, hp, h⟩
  clear hq
  refine cond_both hp (fun hp => ?_) (fun hp => ?_)
  · exact ⟨rfl, rfl, rfl, rfl, rfl, rfl, hp, h⟩
  exact ⟨rfl, rfl, rfl, rfl, rfl, rfl, hp, h⟩

end Go.Proofs.Ytdonkmbhlankiaa
