/- Each function over plain data (printed by a program of this claim's author). -/
import Derived.Test.YtdgjmiacfpihnaaD
import Derived.Test.YtdgjmiacfpihnaaEngQ
namespace Go.Proofs.Ytdgjmiacfpihnaa
open Go Go.Eng Go.Proofs
set_option maxRecDepth 100000
set_option maxHeartbeats 2000000

def enc3 (x : Int) : List Value := [(Value.int .i64 x)]
theorem encL3 : ∀ x, (enc3 x).length = 1 := fun _ => rfl
theorem encO3 : ∀ x, ∀ v ∈ enc3 x, v.oneCell' = true := by intro x v hv; simp only [enc3, List.mem_cons, List.not_mem_nil, or_false] at hv; rcases hv with rfl <;> rfl
def enc4 (x : Bool) : List Value := [(Value.bool x)]
theorem encL4 : ∀ x, (enc4 x).length = 1 := fun _ => rfl
theorem encO4 : ∀ x, ∀ v ∈ enc4 x, v.oneCell' = true := by intro x v hv; simp only [enc4, List.mem_cons, List.not_mem_nil, or_false] at hv; rcases hv with rfl <;> rfl
def enc5 (x : Int) : List Value := [(Value.int .u8 x)]
theorem encL5 : ∀ x, (enc5 x).length = 1 := fun _ => rfl
theorem encO5 : ∀ x, ∀ v ∈ enc5 x, v.oneCell' = true := by intro x v hv; simp only [enc5, List.mem_cons, List.not_mem_nil, or_false] at hv; rcases hv with rfl <;> rfl
def enc39 (x : Int × Int × Int × Int × Int × (Option Addr × Nat × Nat)) : List Value := [(Value.int .i64 x.1), (Value.int .u32 x.2.1), (Value.int .i64 x.2.2.1), (Value.int .u32 x.2.2.2.1), (Value.int .i64 x.2.2.2.2.1), (Value.slice x.2.2.2.2.2.1 x.2.2.2.2.2.2.1 x.2.2.2.2.2.2.2)]
theorem encL39 : ∀ x, (enc39 x).length = 6 := fun _ => rfl
theorem encO39 : ∀ x, ∀ v ∈ enc39 x, v.oneCell' = true := by intro x v hv; simp only [enc39, List.mem_cons, List.not_mem_nil, or_false] at hv; rcases hv with rfl | rfl | rfl | rfl | rfl | rfl <;> rfl
theorem sz3 : sizeT Try.prog 3 = some 1 := by kernel_rfl
theorem sz4 : sizeT Try.prog 4 = some 1 := by kernel_rfl
theorem sz5 : sizeT Try.prog 5 = some 1 := by kernel_rfl
theorem sz22 : sizeT Try.prog 22 = some 1 := by kernel_rfl
theorem sz26 : sizeT Try.prog 26 = some 1 := by kernel_rfl
theorem sz30 : sizeT Try.prog 30 = some 2 := by kernel_rfl
theorem sz37 : sizeT Try.prog 37 = some 7 := by kernel_rfl
theorem sz39 : sizeT Try.prog 39 = some 6 := by kernel_rfl
theorem sz47 : sizeT Try.prog 47 = some 1 := by kernel_rfl
theorem sz48 : sizeT Try.prog 48 = some 1 := by kernel_rfl
def encR22 (FL : List HP) (x : (List (Int))) (cs : List Value) : Prop := ∃ (p0 : Option Addr) (n0 c0 : Nat), cs = [(Value.slice p0 n0 c0)] ∧ n0 = x.length ∧ n0 ≤ c0 ∧ (∀ w, Mem FL w → Rd w 1 p0 enc5 x)
theorem encRm22 {FL FL2 : List HP} (hx : ∀ w, Mem FL2 w → Mem FL w) (x : (List (Int))) (cs : List Value) : encR22 FL x cs → encR22 FL2 x cs := by
  rintro ⟨p0, n0, c0, rfl, l0, k0, F0⟩
  exact ⟨p0, n0, c0, rfl, l0, k0, (fun w h => F0 w (hx w h))⟩
def encR37 (FL : List HP) (x : Int × Int × Int × Int × Int × Int × (List (Int))) (cs : List Value) : Prop := ∃ (p6 : Option Addr) (n6 c6 : Nat), cs = [(Value.int .i64 x.1), (Value.int .i64 x.2.1), (Value.int .u32 x.2.2.1), (Value.int .i64 x.2.2.2.1), (Value.int .u32 x.2.2.2.2.1), (Value.int .i64 x.2.2.2.2.2.1), (Value.slice p6 n6 c6)] ∧ n6 = x.2.2.2.2.2.2.length ∧ n6 ≤ c6 ∧ (∀ w, Mem FL w → Rd w 1 p6 enc5 x.2.2.2.2.2.2)
theorem encRm37 {FL FL2 : List HP} (hx : ∀ w, Mem FL2 w → Mem FL w) (x : Int × Int × Int × Int × Int × Int × (List (Int))) (cs : List Value) : encR37 FL x cs → encR37 FL2 x cs := by
  rintro ⟨p6, n6, c6, rfl, l6, k6, F6⟩
  exact ⟨p6, n6, c6, rfl, l6, k6, (fun w h => F6 w (hx w h))⟩
theorem eqG30 : Try.prog.eqGuardType Try.prog.depth 30 = false := by kernel_rfl
theorem eqA30 : isAggB Try.prog 30 = true := by kernel_rfl
theorem eqT30 (a0 : Int) (a1 : Int) (b0 : Int) (b1 : Int) : eqT Try.prog 20 30 [(Value.int .u32 a0), (Value.int .i64 a1)] [(Value.int .u32 b0), (Value.int .i64 b1)] = some (((a0 : Int) == b0) && (((a1 : Int) == b1) && true)) := by kernel_rfl
theorem zr39 : zeroOf Try.prog 39 = some (Value.agg #[(Value.int .i64 0), (Value.int .u32 0), (Value.int .i64 0), (Value.int .u32 0), (Value.int .i64 0), (Value.slice none 0 0)]) := by kernel_rfl
theorem slt22 : SlT Try.prog 22 5 (Value.int .u8 0) 1 1 := ⟨by kernel_rfl, by kernel_rfl, by kernel_rfl, by decide⟩
theorem slt34 : SlT Try.prog 34 3 (Value.int .i64 0) 1 8 := ⟨by kernel_rfl, by kernel_rfl, by kernel_rfl, by decide⟩
theorem slt48 : SlT Try.prog 48 39 (Value.agg #[(Value.int .i64 0), (Value.int .u32 0), (Value.int .i64 0), (Value.int .u32 0), (Value.int .i64 0), (Value.slice none 0 0)]) 6 64 := ⟨by kernel_rfl, by kernel_rfl, by kernel_rfl, by decide⟩
theorem undI5 : Try.prog.underlying 5 = some (.int .u8) := by kernel_rfl
theorem undStr9 : Try.prog.underlying 9 = some .string := by kernel_rfl
theorem undP26 : Try.prog.underlying 26 = some (.pointer (Try.prog.pointee 26)) := by kernel_rfl
theorem und22 : Try.prog.underlying 22 = some (.slice 5) := by kernel_rfl
theorem und34 : Try.prog.underlying 34 = some (.slice 3) := by kernel_rfl
theorem und48 : Try.prog.underlying 48 = some (.slice 39) := by kernel_rfl


/-! embrasure/net.New (9) -/
def net_New_wp  (K : List (Int × Int × Int × Int × Int × (Option Addr × Nat × Nat)) → Int → Prop) : Prop :=
  K ([] : List (Int × Int × Int × Int × Int × (Option Addr × Nat × Nat))) 0
theorem net_New_ok  {FL : List HP} {w : World} {K : List (Int × Int × Int × Int × Int × (Option Addr × Nat × Nat)) → Int → Prop} {R : Value → World → Prop}
  (h : Mem (FL) w) (hp : net_New_wp  K)
  (hR : ∀ (list : List (Int × Int × Int × Int × Int × (Option Addr × Nat × Nat))) (last : Int) (b_1 : Nat) (p_1 : Option Addr) (n_1 : Nat) (c_1 : Nat) (w : World), n_1 = list.length → Mem (cel b_1 59 [(Value.slice p_1 n_1 c_1), (Value.int .i64 last)] :: row enc39 39 6 p_1 c_1 list :: FL) w → K list last → R (Value.pointer (some (Addr.mk b_1 0 none))) w) :
  CallV Try.prog 9 #[] w R := by
  refine net_New_call ?_
  unfold net_New
  unfold net_New_wp at hp
  refine newL (o := [(Value.slice none 0 0), (Value.int .i64 0)]) h ?_
  intro b_1 w h
  replace h := rowNil enc39 39 6 h
  replace h := h.sel [1, 0] 0
  dsimp only [pickL, pickR, nthH, delH, dropH, List.cons_append, List.nil_append] at h
  exact hR ([] : List (Int × Int × Int × Int × Int × (Option Addr × Nat × Nat))) 0 b_1 (none ) 0 0 _ rfl h hp

/-! embrasure/addr.May (22) -/
def addr_May_wp (a_Host : Int) (a_Port : Int) (K : Bool → Prop) : Prop :=
  cond ((a_Host : Int) != 0) (cond (decide ((a_Port : Int) ≥ 1)) (K (decide ((a_Port : Int) ≤ 65535))) (K false)) (K false)
theorem addr_May_ok {a_Host : Int} {a_Port : Int} {FL : List HP} {w : World} {K : Bool → Prop} {R : Value → World → Prop}
  (h : Mem (FL) w) (hp : addr_May_wp a_Host a_Port K)
  (hR : ∀ (r : Bool) (w : World), Mem (FL) w → K r → R (Value.bool r) w) :
  CallV Try.prog 22 #[(Value.agg #[(Value.int .u32 a_Host), (Value.int .i64 a_Port)])] w R := by
  refine addr_May_call ?_
  unfold addr_May
  unfold addr_May_wp at hp
  refine newL (o := [(Value.int .u32 a_Host), (Value.int .i64 a_Port)]) h ?_
  intro b_1 w h
  refine ⟨_, cellL h 0 0 rfl rfl rfl, ?_⟩
  refine cond_both' hp (fun hp => ?_) (fun hp => ?_)
  · replace h := h.sel [] 1
    dsimp only [pickL, pickR, nthH, delH, dropH, List.cons_append, List.nil_append] at h
    exact hR false _ h hp
  refine ⟨_, cellL h 0 1 rfl rfl rfl, ?_⟩
  refine cond_both' hp (fun hp => ?_) (fun hp => ?_)
  · replace h := h.sel [] 1
    dsimp only [pickL, pickR, nthH, delH, dropH, List.cons_append, List.nil_append] at h
    exact hR false _ h hp
  refine ⟨_, cellL h 0 1 rfl rfl rfl, ?_⟩
  replace h := h.sel [] 1
  dsimp only [pickL, pickR, nthH, delH, dropH, List.cons_append, List.nil_append] at h
  exact hR (decide ((a_Port : Int) ≤ 65535)) _ h hp

/-! bytes.Clone (31) -/
def bytes_Clone_wp (b_1 : List (Int)) (K : List (Int) → Prop) : Prop :=
  ∀ (nil : Bool), (nil = true → b_1 = []) → (cond nil (K ([] : List (Int))) ((([] : List (Int)).length + b_1.length) * 1 ≤ 140737488355328 ∧ (K (([] : List (Int)) ++ b_1))))
theorem bytes_Clone_ok {p_1 : Option Addr} {n_1 : Nat} {c_1 : Nat} {b_1 : List (Int)} {FL : List HP} {w : World} {K : List (Int) → Prop} {R : Value → World → Prop}
  (hF_b_1 : ∀ w, Mem FL w → Rd w 1 p_1 enc5 b_1) (hl_b_1 : n_1 = b_1.length) (hc_b_1 : n_1 ≤ c_1)
  (h : Mem (FL) w) (hp : bytes_Clone_wp b_1 K)
  (hR : ∀ (rs : List (Int)) (p_2 : Option Addr) (n_2 : Nat) (c_2 : Nat) (w : World), n_2 = rs.length → Mem (row enc5 5 1 p_2 c_2 rs :: FL) w → K rs → R (Value.slice p_2 n_2 c_2) w) :
  CallV Try.prog 31 #[(Value.slice p_1 n_1 c_1)] w R := by
  refine bytes_Clone_call ?_
  unfold bytes_Clone
  unfold bytes_Clone_wp at hp
  subst hl_b_1
  obtain ⟨nil, hnil⟩ : ∃ b : Bool, Option.isNone p_1 = b := ⟨_, rfl⟩
  replace hp := hp nil (nilEmpty (hF_b_1 _ (h.drop 0)) hnil)
  refine eqlSlNil und22 hnil ?_
  refine ⟨_, rfl, ?_⟩
  refine cond_both hp (fun hp => ?_) (fun hp => ?_)
  · replace h := rowNil enc5 5 1 h
    exact hR ([] : List (Int)) (none ) 0 0 _ rfl h hp
  refine newL (o := []) h ?_
  intro b_2 w h
  have sr := (hF_b_1 _ (h.drop 1))
  replace h := rowOfCel h 0 encL5 rfl ([] : List (Int)) rfl
  dsimp only [setH, setVs, setV] at h
  obtain ⟨hb, hp⟩ := hp
  refine appendL slt22 und22 encL5 encO5 h 0 rfl rfl sr rfl hb ?_
  intro p_3 c_2 w h
  dsimp only [setH, setVs, setV] at h
  have cpp_3 := rowCap h 0 rfl
  refine ⟨_, _, _, rfl, ?_⟩
  exact hR (([] : List (Int)) ++ b_1) p_3 ((([] : List (Int)) ++ b_1).length) c_2 _ rfl h hp

/-! (*embrasure/net.Net).put (23) -/
def net_Net_put_wp (list : List (Int × Int × Int × Int × Int × (Option Addr × Nat × Nat))) (last : Int) (s_No : Int) (s_From : Int) (s_From_1 : Int) (s_To : Int) (s_To_1 : Int) (s_Bytes : List (Int)) (m_1 : List ((Option Addr × Nat × Nat) × List (Int))) (K : Int → Int → List (Int × Int × Int × Int × Int × (Option Addr × Nat × Nat)) → Int → List ((Option Addr × Nat × Nat) × List (Int)) → Prop) : Prop :=
  cond (decide ((((list.length : Nat) : Int) : Int) ≥ 300)) (K 0 10 list last m_1) (bytes_Clone_wp s_Bytes (fun (rs : List (Int)) => ∀ (hd : Option Addr × Nat × Nat), hd.2.1 = rs.length → ((list.length + [((IntKind.wrap .i64 (last + 1)), s_From, s_From_1, s_To, s_To_1, hd)].length) * 64 ≤ 140737488355328 ∧ (K (IntKind.wrap .i64 (last + 1)) 0 (list ++ [((IntKind.wrap .i64 (last + 1)), s_From, s_From_1, s_To, s_To_1, hd)]) (IntKind.wrap .i64 (last + 1)) (m_1 ++ [(hd, rs)])))))
theorem net_Net_put_ok {b_1 : Nat} {p_1 : Option Addr} {c_1 : Nat} {p_2 : Option Addr} {n_1 : Nat} {c_2 : Nat} {list : List (Int × Int × Int × Int × Int × (Option Addr × Nat × Nat))} {last : Int} {s_No : Int} {s_From : Int} {s_From_1 : Int} {s_To : Int} {s_To_1 : Int} {s_Bytes : List (Int)} {m_1 : List ((Option Addr × Nat × Nat) × List (Int))} {FL : List HP} {w : World} {K : Int → Int → List (Int × Int × Int × Int × Int × (Option Addr × Nat × Nat)) → Int → List ((Option Addr × Nat × Nat) × List (Int)) → Prop} {R : Value → World → Prop}
  (hF_s_Bytes : ∀ w, Mem (poolP enc5 5 1 m_1 :: FL) w → Rd w 1 p_2 enc5 s_Bytes) (hl_s_Bytes : n_1 = s_Bytes.length) (hc_s_Bytes : n_1 ≤ c_2)
  (h : Mem (cel b_1 59 [(Value.slice p_1 list.length c_1), (Value.int .i64 last)] :: row enc39 39 6 p_1 c_1 list :: poolP enc5 5 1 m_1 :: FL) w) (hp : net_Net_put_wp list last s_No s_From s_From_1 s_To s_To_1 s_Bytes m_1 K)
  (hR : ∀ (r : Int) (r_1 : Int) (list_1 : List (Int × Int × Int × Int × Int × (Option Addr × Nat × Nat))) (last_1 : Int) (m_2 : List ((Option Addr × Nat × Nat) × List (Int))) (p_3 : Option Addr) (n_2 : Nat) (c_3 : Nat) (w : World), n_2 = list_1.length → Mem (cel b_1 59 [(Value.slice p_3 n_2 c_3), (Value.int .i64 last_1)] :: row enc39 39 6 p_3 c_3 list_1 :: poolP enc5 5 1 m_2 :: FL) w → K r r_1 list_1 last_1 m_2 → R (Value.tuple #[(Value.int .i64 r), (Value.int .i64 r_1)]) w) :
  CallV Try.prog 23 #[(Value.pointer (some (Addr.mk b_1 0 none))), (Value.agg #[(Value.int .i64 s_No), (Value.int .u32 s_From), (Value.int .i64 s_From_1), (Value.int .u32 s_To), (Value.int .i64 s_To_1), (Value.slice p_2 n_1 c_2)])] w R := by
  refine net_Net_put_call ?_
  unfold net_Net_put
  unfold net_Net_put_wp at hp
  subst hl_s_Bytes
  have cpp_1 := rowCap h 1 rfl
  refine newL (o := [(Value.int .i64 s_No), (Value.int .u32 s_From), (Value.int .i64 s_From_1), (Value.int .u32 s_To), (Value.int .i64 s_To_1), (Value.slice p_2 s_Bytes.length c_2)]) h ?_
  intro b_2 w h
  refine ⟨_, rfl, ?_⟩
  refine ⟨_, _, _, cellL h 1 0 rfl rfl rfl, ?_⟩
  refine cond_both hp (fun hp => ?_) (fun hp => ?_)
  · replace h := h.sel [1, 1, 1] 1
    dsimp only [pickL, pickR, nthH, delH, dropH, List.cons_append, List.nil_append] at h
    exact hR 0 10 list last m_1 p_1 list.length c_1 _ rfl h hp
  refine ⟨_, rfl, ?_⟩
  refine ⟨_, cellL h 1 1 rfl rfl rfl, ?_⟩
  refine ⟨_, rfl, ?_⟩
  refine storeL (ys := [(Value.int .i64 (IntKind.wrap .i64 (last + 1)))]) h 1 1 rfl rfl rfl sz3 rfl rfl ?_
  intro w h
  dsimp only [setH, setVs, setV] at h
  replace h := h.drew
  refine ⟨fun w => Mem (cel b_1 59 [(Value.slice p_1 list.length c_1), (Value.int .i64 (IntKind.wrap .i64 (last + 1)))] :: FL) w, (h.sel [1] 3), ?_⟩
  refine ⟨_, rfl, ?_⟩
  refine ⟨_, cellL h 1 1 rfl rfl rfl, ?_⟩
  refine ⟨?_, ?_⟩
  · intro w h
    change Mem _ _ at h
    refine ⟨_, cellL h 0 1 rfl rfl rfl, ?_⟩
    exact ⟨rfl, rfl⟩
  refine ⟨_, _, _, cellL h 0 5 rfl rfl rfl, ?_⟩
  refine bytes_Clone_ok (FL := cel b_2 39 [(Value.int .i64 s_No), (Value.int .u32 s_From), (Value.int .i64 s_From_1), (Value.int .u32 s_To), (Value.int .i64 s_To_1), (Value.slice p_2 s_Bytes.length c_2)] :: cel b_1 59 [(Value.slice p_1 list.length c_1), (Value.int .i64 (IntKind.wrap .i64 (last + 1)))] :: row enc39 39 6 p_1 c_1 list :: poolP enc5 5 1 m_1 :: FL) (fun w h => (hF_s_Bytes _ (h.sel [3] 3))) rfl hc_s_Bytes h hp ?_
  rintro rs p_4 n_3 c_4 w rfl h hp
  have cpp_4 := rowCap h 0 rfl
  refine ⟨_, _, _, rfl, ?_⟩
  refine ⟨(h.sel [2] 4), ?_⟩
  refine storeL (ys := [(Value.int .i64 (IntKind.wrap .i64 (last + 1)))]) h 1 0 rfl rfl rfl sz3 rfl rfl ?_
  intro w h
  dsimp only [setH, setVs, setV] at h
  refine storeL (ys := [(Value.slice p_4 rs.length c_4)]) h 1 5 rfl rfl rfl sz22 rfl rfl ?_
  intro w h
  dsimp only [setH, setVs, setV] at h
  replace h := h.drew
  refine ⟨fun w => Mem (cel b_1 59 [(Value.slice p_1 list.length c_1), (Value.int .i64 (IntKind.wrap .i64 (last + 1)))] :: FL) w, (h.sel [2] 4), ?_⟩
  refine ⟨_, rfl, ?_⟩
  refine ⟨_, _, _, cellL h 2 0 rfl rfl rfl, ?_⟩
  refine ⟨?_, ?_⟩
  · intro w h
    change Mem _ _ at h
    refine ⟨_, _, _, cellL h 0 0 rfl rfl rfl, ?_⟩
    exact ⟨rfl, rfl⟩
  refine ⟨_, cellL h 1 0 rfl rfl rfl, _, cellL h 1 1 rfl rfl rfl, _, cellL h 1 2 rfl rfl rfl, _, cellL h 1 3 rfl rfl rfl, _, cellL h 1 4 rfl rfl rfl, _, _, _, cellL h 1 5 rfl rfl rfl, ?_⟩
  replace h := h.pick [0, 3]
  dsimp only [pickL, pickR, nthH, delH, dropH, List.cons_append, List.nil_append] at h
  let hd : Hd := (p_4, rs.length, c_4)
  replace hp := hp hd rfl
  replace h : Mem (poolP enc5 5 1 (m_1 ++ [(hd, rs)]) :: cel b_2 39 [(Value.int .i64 (IntKind.wrap .i64 (last + 1))), (Value.int .u32 s_From), (Value.int .i64 s_From_1), (Value.int .u32 s_To), (Value.int .i64 s_To_1), (Value.slice hd.1 hd.2.1 hd.2.2)] :: cel b_1 59 [(Value.slice p_1 list.length c_1), (Value.int .i64 (IntKind.wrap .i64 (last + 1)))] :: row enc39 39 6 p_1 c_1 list :: FL) _ := poolPush h
  refine newL (o := [(Value.int .i64 (IntKind.wrap .i64 (last + 1))), (Value.int .u32 s_From), (Value.int .i64 s_From_1), (Value.int .u32 s_To), (Value.int .i64 s_To_1), (Value.slice hd.1 hd.2.1 hd.2.2)]) h ?_
  intro b_3 w h
  refine ⟨(h.sel [3] 4), ?_⟩
  have sr := (celRd h 0 encL39 rfl [((IntKind.wrap .i64 (last + 1)), s_From, s_From_1, s_To, s_To_1, hd)] rfl)
  obtain ⟨hb, hp⟩ := hp
  refine appendL slt48 und48 encL39 encO39 h 4 rfl rfl sr rfl hb ?_
  intro p_5 c_5 w h
  dsimp only [setH, setVs, setV] at h
  have cpp_5 := rowCap h 4 rfl
  refine ⟨_, _, _, rfl, ?_⟩
  refine ⟨_, rfl, ?_⟩
  refine storeL (ys := [(Value.slice p_5 (list ++ [((IntKind.wrap .i64 (last + 1)), s_From, s_From_1, s_To, s_To_1, hd)]).length c_5)]) h 3 0 rfl rfl rfl sz48 rfl rfl ?_
  intro w h
  dsimp only [setH, setVs, setV] at h
  refine ⟨_, cellL h 2 0 rfl rfl rfl, ?_⟩
  replace h := h.sel [3, 3, 1] 2
  dsimp only [pickL, pickR, nthH, delH, dropH, List.cons_append, List.nil_append] at h
  exact hR (IntKind.wrap .i64 (last + 1)) 0 (list ++ [((IntKind.wrap .i64 (last + 1)), s_From, s_From_1, s_To, s_To_1, hd)]) (IntKind.wrap .i64 (last + 1)) (m_1 ++ [(hd, rs)]) p_5 ((list ++ [((IntKind.wrap .i64 (last + 1)), s_From, s_From_1, s_To, s_To_1, hd)]).length) c_5 _ rfl h hp

/-! (*embrasure/net.Net).Send (10) -/
def net_Net_Send_wp (list : List (Int × Int × Int × Int × Int × (Option Addr × Nat × Nat))) (last : Int) (from_Host : Int) (from_Port : Int) (to_Host : Int) (to_Port : Int) (b_2 : List (Int)) (m_1 : List ((Option Addr × Nat × Nat) × List (Int))) (K : Int → Int → List (Int × Int × Int × Int × Int × (Option Addr × Nat × Nat)) → Int → List ((Option Addr × Nat × Nat) × List (Int)) → Prop) : Prop :=
  joinP1 (fun (t22 : Bool) => cond t22 (K 0 1 list last m_1) (net_Net_put_wp list last 0 from_Host from_Port to_Host to_Port b_2 m_1 (fun (r_2 : Int) (r_3 : Int) (list_2 : List (Int × Int × Int × Int × Int × (Option Addr × Nat × Nat))) (last_2 : Int) (m_3 : List ((Option Addr × Nat × Nat) × List (Int))) => K r_2 r_3 list_2 last_2 m_3))) (fun (Q : Bool → Prop) => addr_May_wp from_Host from_Port (fun (r : Bool) => cond (!r) (Q true) (addr_May_wp to_Host to_Port (fun (r_1 : Bool) => cond (!r_1) (Q true) (Q (decide ((((b_2.length : Nat) : Int) : Int) > 1200)))))))
theorem net_Net_Send_ok {b_1 : Nat} {p_1 : Option Addr} {c_1 : Nat} {p_2 : Option Addr} {n_1 : Nat} {c_2 : Nat} {list : List (Int × Int × Int × Int × Int × (Option Addr × Nat × Nat))} {last : Int} {from_Host : Int} {from_Port : Int} {to_Host : Int} {to_Port : Int} {b_2 : List (Int)} {m_1 : List ((Option Addr × Nat × Nat) × List (Int))} {FL : List HP} {w : World} {K : Int → Int → List (Int × Int × Int × Int × Int × (Option Addr × Nat × Nat)) → Int → List ((Option Addr × Nat × Nat) × List (Int)) → Prop} {R : Value → World → Prop}
  (hF_b_2 : ∀ w, Mem FL w → Rd w 1 p_2 enc5 b_2) (hl_b_2 : n_1 = b_2.length) (hc_b_2 : n_1 ≤ c_2)
  (h : Mem (cel b_1 59 [(Value.slice p_1 list.length c_1), (Value.int .i64 last)] :: row enc39 39 6 p_1 c_1 list :: poolP enc5 5 1 m_1 :: FL) w) (hp : net_Net_Send_wp list last from_Host from_Port to_Host to_Port b_2 m_1 K)
  (hR : ∀ (r : Int) (r_1 : Int) (list_1 : List (Int × Int × Int × Int × Int × (Option Addr × Nat × Nat))) (last_1 : Int) (m_2 : List ((Option Addr × Nat × Nat) × List (Int))) (p_3 : Option Addr) (n_2 : Nat) (c_3 : Nat) (w : World), n_2 = list_1.length → Mem (cel b_1 59 [(Value.slice p_3 n_2 c_3), (Value.int .i64 last_1)] :: row enc39 39 6 p_3 c_3 list_1 :: poolP enc5 5 1 m_2 :: FL) w → K r r_1 list_1 last_1 m_2 → R (Value.tuple #[(Value.int .i64 r), (Value.int .i64 r_1)]) w) :
  CallV Try.prog 10 #[(Value.pointer (some (Addr.mk b_1 0 none))), (Value.agg #[(Value.int .u32 from_Host), (Value.int .i64 from_Port)]), (Value.agg #[(Value.int .u32 to_Host), (Value.int .i64 to_Port)]), (Value.slice p_2 n_1 c_2)] w R := by
  refine net_Net_Send_call ?_
  unfold net_Net_Send
  unfold net_Net_Send_wp at hp
  subst hl_b_2
  have cpp_1 := rowCap h 1 rfl
  refine newL (o := [(Value.int .u32 from_Host), (Value.int .i64 from_Port)]) h ?_
  intro b_3 w h
  refine newL (o := [(Value.int .u32 to_Host), (Value.int .i64 to_Port)]) h ?_
  intro b_4 w h
  obtain ⟨Q, hq, hp⟩ := hp
  refine ⟨fun n0 b3p b3l b3c from5 to6 t22 w => (some (Addr.mk b_1 0 none)) = n0 ∧ p_2 = b3p ∧ b_2.length = b3l ∧ c_2 = b3c ∧ (Addr.mk b_3 0 none) = from5 ∧ (Addr.mk b_4 0 none) = to6 ∧ Q t22 ∧ Mem (cel b_4 30 [(Value.int .u32 to_Host), (Value.int .i64 to_Port)] :: cel b_3 30 [(Value.int .u32 from_Host), (Value.int .i64 from_Port)] :: cel b_1 59 [(Value.slice p_1 list.length c_1), (Value.int .i64 last)] :: row enc39 39 6 p_1 c_1 list :: poolP enc5 5 1 m_1 :: FL) w, ?_, ?_⟩
  · rintro n0 b3p b3l b3c from5 to6 t22 w ⟨rfl, rfl, rfl, rfl, rfl, rfl, hp, h⟩
    replace hp := hq t22 hp
    unfold net_Net_Send_j1
    refine cond_both hp (fun hp => ?_) (fun hp => ?_)
    · replace h := h.sel [2, 2, 2] 2
      dsimp only [pickL, pickR, nthH, delH, dropH, List.cons_append, List.nil_append] at h
      exact hR 0 1 list last m_1 p_1 list.length c_1 _ rfl h hp
    refine ⟨_, cellL h 1 0 rfl rfl rfl, _, cellL h 1 1 rfl rfl rfl, ?_⟩
    refine ⟨_, cellL h 0 0 rfl rfl rfl, _, cellL h 0 1 rfl rfl rfl, ?_⟩
    replace h := h.pick [2, 2, 2]
    dsimp only [pickL, pickR, nthH, delH, dropH, List.cons_append, List.nil_append] at h
    refine net_Net_put_ok (FL := cel b_4 30 [(Value.int .u32 to_Host), (Value.int .i64 to_Port)] :: cel b_3 30 [(Value.int .u32 from_Host), (Value.int .i64 from_Port)] :: FL) (fun w h => (fun (h : Mem (cel b_4 30 [(Value.int .u32 to_Host), (Value.int .i64 to_Port)] :: cel b_3 30 [(Value.int .u32 from_Host), (Value.int .i64 from_Port)] :: FL) w) => (hF_b_2 _ (h.drop 2))) (h.drop 1)) rfl hc_b_2 h hp ?_
    rintro r_2 r_3 list_2 last_2 m_3 p_4 n_3 c_4 w rfl h hp
    have cpp_4 := rowCap h 1 rfl
    refine ⟨_, _, rfl, ?_⟩
    refine ⟨_, rfl, ?_⟩
    refine ⟨_, rfl, ?_⟩
    replace h := h.sel [0, 0, 0] 2
    dsimp only [pickL, pickR, nthH, delH, dropH, List.cons_append, List.nil_append] at h
    exact hR r_2 r_3 list_2 last_2 m_3 p_4 list_2.length c_4 _ rfl h hp
  clear hq
  refine ⟨_, cellL h 1 0 rfl rfl rfl, _, cellL h 1 1 rfl rfl rfl, ?_⟩
  refine addr_May_ok h hp ?_
  intro r w h hp
  refine ⟨_, rfl, ?_⟩
  refine cond_both hp (fun hp => ?_) (fun hp => ?_)
  · exact ⟨rfl, rfl, rfl, rfl, rfl, rfl, hp, h⟩
  refine ⟨_, cellL h 0 0 rfl rfl rfl, _, cellL h 0 1 rfl rfl rfl, ?_⟩
  refine addr_May_ok h hp ?_
  intro r_1 w h hp
  refine ⟨_, rfl, ?_⟩
  refine cond_both hp (fun hp => ?_) (fun hp => ?_)
  · exact ⟨rfl, rfl, rfl, rfl, rfl, rfl, hp, h⟩
  exact ⟨rfl, rfl, rfl, rfl, rfl, rfl, hp, h⟩

/-! (*embrasure/net.Net).place$1 (33) -/
def net_Net_place_c1_wp (s_No : Int) (s_From : Int) (s_From_1 : Int) (s_To : Int) (s_To_1 : Int) (s_Bytes : Option Addr × Nat × Nat) (t : Int) (K : Bool → Prop) : Prop :=
  K ((s_No : Int) == t)
theorem net_Net_place_c1_ok {b_1 : Nat} {s_No : Int} {s_From : Int} {s_From_1 : Int} {s_To : Int} {s_To_1 : Int} {s_Bytes : Option Addr × Nat × Nat} {t : Int} {FL : List HP} {w : World} {K : Bool → Prop} {R : Value → World → Prop}
  (h : Mem (cel b_1 3 [(Value.int .i64 t)] :: FL) w) (hp : net_Net_place_c1_wp s_No s_From s_From_1 s_To s_To_1 s_Bytes t K)
  (hR : ∀ (r : Bool) (w : World), Mem (cel b_1 3 [(Value.int .i64 t)] :: FL) w → K r → R (Value.bool r) w) :
  CallV Try.prog 33 #[(Value.agg #[(Value.int .i64 s_No), (Value.int .u32 s_From), (Value.int .i64 s_From_1), (Value.int .u32 s_To), (Value.int .i64 s_To_1), (Value.slice s_Bytes.1 s_Bytes.2.1 s_Bytes.2.2)]), (Value.pointer (some (Addr.mk b_1 0 none)))] w R := by
  refine net_Net_place_c1_call ?_
  unfold net_Net_place_c1
  unfold net_Net_place_c1_wp at hp
  refine newL (o := [(Value.int .i64 s_No), (Value.int .u32 s_From), (Value.int .i64 s_From_1), (Value.int .u32 s_To), (Value.int .i64 s_To_1), (Value.slice s_Bytes.1 s_Bytes.2.1 s_Bytes.2.2)]) h ?_
  intro b_2 w h
  refine ⟨_, cellL h 0 0 rfl rfl rfl, ?_⟩
  refine ⟨_, cellL h 1 0 rfl rfl rfl, ?_⟩
  replace h := h.sel [1] 1
  dsimp only [pickL, pickR, nthH, delH, dropH, List.cons_append, List.nil_append] at h
  exact hR ((s_No : Int) == t) _ h hp

/-! slices.IndexFunc[[]embrasure/api.Sent,embrasure/api.Sent] (32) -/
def slices_IndexFunc_sl_api_Sent_api_Sent_wp {σ1 : Type} (s : List (Int × Int × Int × Int × Int × (Option Addr × Nat × Nat))) (s_1 : σ1) (Y1 : (Int × Int × Int × Int × Int × (Option Addr × Nat × Nat)) → σ1 → (Bool → σ1 → Prop) → Prop) (K : Int → σ1 → Prop) : Prop :=
  ∃ (I : Nat → Int → σ1 → Prop), (∃ (n_4 : Nat), I n_4 0 s_1) ∧ ∀ (n_2 : Nat) (t8 : Int) (s_3 : σ1), I n_2 t8 s_3 → (cond (decide ((t8 : Int) < ((s.length : Nat) : Int))) (0 ≤ (t8 : Int) ∧ (t8 : Int) < ((s.length : Nat) : Int) ∧ (∀ (x_1 : Int × Int × Int × Int × Int × (Option Addr × Nat × Nat)), s[Int.toNat t8]? = some x_1 → (Y1 x_1 s_3 (fun (t16 : Bool) (s_4 : σ1) => cond t16 (K t8 s_4) (∃ (n_3 : Nat), n_3 < n_2 ∧ I n_3 (IntKind.wrap .i64 (t8 + 1)) s_4))))) (K (-1) s_3))
theorem slices_IndexFunc_sl_api_Sent_api_Sent_ok {σ1 : Type} {A1 : σ1 → HP} {p_1 : Option Addr} {n_1 : Nat} {c_1 : Nat} {ff1 : Fn} {fa1 : Array Value} {fc1 : Array Value} {s : List (Int × Int × Int × Int × Int × (Option Addr × Nat × Nat))} {s_1 : σ1} {Y1 : (Int × Int × Int × Int × Int × (Option Addr × Nat × Nat)) → σ1 → (Bool → σ1 → Prop) → Prop} {FL : List HP} {w : World} {K : Int → σ1 → Prop} {R : Value → World → Prop}
  (hY1 : ∀ (x0 : Int × Int × Int × Int × Int × (Option Addr × Nat × Nat)) (s : σ1) (K : Bool → σ1 → Prop) (FL2 : List HP) (w : World) (R : Value → World → Prop), (∀ w, Mem FL2 w → Mem FL w) → Mem (A1 s :: FL2) w → Y1 x0 s K → (∀ (r : Bool) (s : σ1) (w : World), Mem (A1 s :: FL2) w → K r s → R (Value.bool r) w) → CalleeV Try.prog (Value.func ff1 fa1 fc1) #[(Value.agg #[(Value.int .i64 x0.1), (Value.int .u32 x0.2.1), (Value.int .i64 x0.2.2.1), (Value.int .u32 x0.2.2.2.1), (Value.int .i64 x0.2.2.2.2.1), (Value.slice x0.2.2.2.2.2.1 x0.2.2.2.2.2.2.1 x0.2.2.2.2.2.2.2)])] w R)
  (hF_s : ∀ w, Mem FL w → Rd w 6 p_1 enc39 s) (hl_s : n_1 = s.length) (hc_s : n_1 ≤ c_1)
  (h : Mem (A1 s_1 :: FL) w) (hp : slices_IndexFunc_sl_api_Sent_api_Sent_wp s s_1 Y1 K)
  (hR : ∀ (r : Int) (s_2 : σ1) (w : World), Mem (A1 s_2 :: FL) w → K r s_2 → R (Value.int .i64 r) w) :
  CallV Try.prog 32 #[(Value.slice p_1 n_1 c_1), (Value.func ff1 fa1 fc1)] w R := by
  refine slices_IndexFunc_sl_api_Sent_api_Sent_call ?_
  unfold slices_IndexFunc_sl_api_Sent_api_Sent
  unfold slices_IndexFunc_sl_api_Sent_api_Sent_wp at hp
  subst hl_s
  obtain ⟨I, ⟨n_4, h0⟩, hq⟩ := hp
  refine ⟨fun n_2 s0p s0l s0c f1 t7 t8 w => ∃ (s_3 : σ1), p_1 = s0p ∧ s.length = s0l ∧ c_1 = s0c ∧ (Value.func ff1 fa1 fc1) = f1 ∧ ((s.length : Nat) : Int) = t7 ∧ I n_2 t8 s_3 ∧ Mem (A1 s_3 :: FL) w, ⟨n_4, s_1, rfl, rfl, rfl, rfl, rfl, h0, h⟩, ?_⟩
  clear h0 h
  rintro n_2 s0p s0l s0c f1 t7 t8 w ⟨s_3, rfl, rfl, rfl, rfl, rfl, hp, h⟩
  replace hp := hq n_2 t8 s_3 hp
  clear hq
  unfold slices_IndexFunc_sl_api_Sent_api_Sent_l1
  refine cond_both' hp (fun hp => ?_) (fun hp => ?_)
  · exact hR (-1) s_3 _ h hp
  obtain ⟨ia_1, ja_1, hp⟩ := hp
  obtain ⟨a_1, ha_1⟩ := rdAddr (hF_s _ (h.drop 1)) rfl ia_1 ja_1
  refine ⟨a_1, ha_1, ia_1, ja_1, ?_⟩
  obtain ⟨x_1, hx_1, hc⟩ := rdCell (hF_s _ (h.drop 1)) ha_1 rfl ia_1 ja_1
  replace hp := hp x_1 hx_1
  refine ⟨_, hc 0 _ rfl, _, hc 1 _ rfl, _, hc 2 _ rfl, _, hc 3 _ rfl, _, hc 4 _ rfl, _, _, _, hc 5 _ rfl, ?_⟩
  refine hY1 x_1 _ _ (FL) _ _ (fun _ h => Mem.drop 0 h) h hp ?_
  intro t16 s_4 w h hp
  refine ⟨_, rfl, ?_⟩
  refine cond_both hp (fun hp => ?_) (fun hp => ?_)
  · exact hR t8 s_4 _ h hp
  obtain ⟨n_3, hn, hp⟩ := hp
  exact ⟨n_3, hn, s_4, rfl, rfl, rfl, rfl, rfl, hp, h⟩

/-! (*embrasure/net.Net).place (24) -/
def net_Net_place_wp (list : List (Int × Int × Int × Int × Int × (Option Addr × Nat × Nat))) (last : Int) (no : Int) (K : Int → Prop) : Prop :=
  slices_IndexFunc_sl_api_Sent_api_Sent_wp list () (fun x_1 s K_1 => net_Net_place_c1_wp x_1.1 x_1.2.1 x_1.2.2.1 x_1.2.2.2.1 x_1.2.2.2.2.1 x_1.2.2.2.2.2 no (fun (r : Bool) => K_1 r s)) (fun (r : Int) (s_1 : (Unit)) => K r)
theorem net_Net_place_ok {b_1 : Nat} {p_1 : Option Addr} {c_1 : Nat} {list : List (Int × Int × Int × Int × Int × (Option Addr × Nat × Nat))} {last : Int} {no : Int} {FL : List HP} {w : World} {K : Int → Prop} {R : Value → World → Prop}
  (h : Mem (cel b_1 59 [(Value.slice p_1 list.length c_1), (Value.int .i64 last)] :: row enc39 39 6 p_1 c_1 list :: FL) w) (hp : net_Net_place_wp list last no K)
  (hR : ∀ (r : Int) (w : World), Mem (cel b_1 59 [(Value.slice p_1 list.length c_1), (Value.int .i64 last)] :: row enc39 39 6 p_1 c_1 list :: FL) w → K r → R (Value.int .i64 r) w) :
  CallV Try.prog 24 #[(Value.pointer (some (Addr.mk b_1 0 none))), (Value.int .i64 no)] w R := by
  refine net_Net_place_call ?_
  unfold net_Net_place
  unfold net_Net_place_wp at hp
  have cpp_1 := rowCap h 1 rfl
  refine newL (o := [(Value.int .i64 no)]) h ?_
  intro b_2 w h
  refine ⟨_, rfl, ?_⟩
  refine ⟨_, _, _, cellL h 1 0 rfl rfl rfl, ?_⟩
  replace h : Mem ((fun (_ : Unit) => HL [cel b_2 3 [(Value.int .i64 no)]]) () :: cel b_1 59 [(Value.slice p_1 list.length c_1), (Value.int .i64 last)] :: row enc39 39 6 p_1 c_1 list :: FL) _ := h.pack 1 [cel b_2 3 [(Value.int .i64 no)]] rfl
  refine slices_IndexFunc_sl_api_Sent_api_Sent_ok (FL := cel b_1 59 [(Value.slice p_1 list.length c_1), (Value.int .i64 last)] :: row enc39 39 6 p_1 c_1 list :: FL) (A1 := (fun (_ : Unit) => HL [cel b_2 3 [(Value.int .i64 no)]])) (Y1 := (fun x_1 s K_1 => net_Net_place_c1_wp x_1.1 x_1.2.1 x_1.2.2.1 x_1.2.2.2.1 x_1.2.2.2.2.1 x_1.2.2.2.2.2 no (fun (r : Bool) => K_1 r s))) (σ1 := Unit) (s_1 := ()) ?_ (fun w h => (rowRd h 1 encL39 rfl)) rfl cpp_1 h hp ?_
  · intro x_1 s K FL2 w R hx h hp hR
    replace h := h.unpack
    dsimp only [pickL, pickR, nthH, delH, dropH, List.cons_append, List.nil_append] at h
    refine calleeFn (by kernel_rfl) ?_
    refine net_Net_place_c1_ok h hp ?_
    intro r w h hp
    exact hR r s _ (h.pack 1 [cel b_2 3 [(Value.int .i64 no)]] rfl) hp
  intro r s_1 w h hp
  replace h := h.unpack
  dsimp only [pickL, pickR, nthH, delH, dropH, List.cons_append, List.nil_append] at h
  refine ⟨_, rfl, ?_⟩
  replace h := h.sel [1, 1] 1
  dsimp only [pickL, pickR, nthH, delH, dropH, List.cons_append, List.nil_append] at h
  exact hR r _ h hp

/-! (*embrasure/net.Net).Copy (11) -/
def net_Net_Copy_wp (list : List (Int × Int × Int × Int × Int × (Option Addr × Nat × Nat))) (last : Int) (no : Int) (m_1 : List ((Option Addr × Nat × Nat) × List (Int))) (K : Int → Int → List (Int × Int × Int × Int × Int × (Option Addr × Nat × Nat)) → Int → List ((Option Addr × Nat × Nat) × List (Int)) → Prop) : Prop :=
  net_Net_place_wp list last no (fun (r : Int) => cond (decide ((r : Int) < 0)) (K 0 5 list last m_1) (0 ≤ (r : Int) ∧ (r : Int) < ((list.length : Nat) : Int) ∧ (∀ (x_1 : Int × Int × Int × Int × Int × (Option Addr × Nat × Nat)), list[Int.toNat r]? = some x_1 → (∃ (xs : List (Int)), PH m_1 x_1.2.2.2.2.2 xs ∧ (net_Net_put_wp list last x_1.1 x_1.2.1 x_1.2.2.1 x_1.2.2.2.1 x_1.2.2.2.2.1 xs m_1 (fun (r_1 : Int) (r_2 : Int) (list_2 : List (Int × Int × Int × Int × Int × (Option Addr × Nat × Nat))) (last_2 : Int) (m_3 : List ((Option Addr × Nat × Nat) × List (Int))) => K r_1 r_2 list_2 last_2 m_3))))))
theorem net_Net_Copy_ok {b_1 : Nat} {p_1 : Option Addr} {c_1 : Nat} {list : List (Int × Int × Int × Int × Int × (Option Addr × Nat × Nat))} {last : Int} {no : Int} {m_1 : List ((Option Addr × Nat × Nat) × List (Int))} {FL : List HP} {w : World} {K : Int → Int → List (Int × Int × Int × Int × Int × (Option Addr × Nat × Nat)) → Int → List ((Option Addr × Nat × Nat) × List (Int)) → Prop} {R : Value → World → Prop}
  (h : Mem (cel b_1 59 [(Value.slice p_1 list.length c_1), (Value.int .i64 last)] :: row enc39 39 6 p_1 c_1 list :: poolP enc5 5 1 m_1 :: FL) w) (hp : net_Net_Copy_wp list last no m_1 K)
  (hR : ∀ (r : Int) (r_1 : Int) (list_1 : List (Int × Int × Int × Int × Int × (Option Addr × Nat × Nat))) (last_1 : Int) (m_2 : List ((Option Addr × Nat × Nat) × List (Int))) (p_2 : Option Addr) (n_1 : Nat) (c_2 : Nat) (w : World), n_1 = list_1.length → Mem (cel b_1 59 [(Value.slice p_2 n_1 c_2), (Value.int .i64 last_1)] :: row enc39 39 6 p_2 c_2 list_1 :: poolP enc5 5 1 m_2 :: FL) w → K r r_1 list_1 last_1 m_2 → R (Value.tuple #[(Value.int .i64 r), (Value.int .i64 r_1)]) w) :
  CallV Try.prog 11 #[(Value.pointer (some (Addr.mk b_1 0 none))), (Value.int .i64 no)] w R := by
  refine net_Net_Copy_call ?_
  unfold net_Net_Copy
  unfold net_Net_Copy_wp at hp
  have cpp_1 := rowCap h 1 rfl
  refine net_Net_place_ok h hp ?_
  intro r w h hp
  have cpp_1 := rowCap h 1 rfl
  refine ⟨_, rfl, ?_⟩
  refine cond_both hp (fun hp => ?_) (fun hp => ?_)
  · exact hR 0 5 list last m_1 p_1 list.length c_1 _ rfl h hp
  refine ⟨_, rfl, ?_⟩
  refine ⟨_, _, _, cellL h 0 0 rfl rfl rfl, ?_⟩
  obtain ⟨ia_1, ja_1, hp⟩ := hp
  obtain ⟨a_1, ha_1⟩ := rdAddr (rowRd h 1 encL39 rfl) rfl ia_1 ja_1
  refine ⟨a_1, ha_1, ia_1, ja_1, ?_⟩
  obtain ⟨x_1, hx_1, hc⟩ := rdCell (rowRd h 1 encL39 rfl) ha_1 rfl ia_1 ja_1
  replace hp := hp x_1 hx_1
  refine ⟨_, hc 0 _ rfl, _, hc 1 _ rfl, _, hc 2 _ rfl, _, hc 3 _ rfl, _, hc 4 _ rfl, _, _, _, hc 5 _ rfl, ?_⟩
  obtain ⟨xs, hq_xs, hp⟩ := hp
  have hl_xs := poolLen h 2 rfl hq_xs
  have hc_xs := poolCap h 2 rfl hq_xs
  refine net_Net_put_ok (FL := FL) (fun w h => (poolRd h 0 encL5 rfl hq_xs)) hl_xs hc_xs h hp ?_
  rintro r_1 r_2 list_2 last_2 m_3 p_3 n_2 c_3 w rfl h hp
  have cpp_3 := rowCap h 1 rfl
  refine ⟨_, _, rfl, ?_⟩
  refine ⟨_, rfl, ?_⟩
  refine ⟨_, rfl, ?_⟩
  exact hR r_1 r_2 list_2 last_2 m_3 p_3 list_2.length c_3 _ rfl h hp

/-! slices.Delete[[]embrasure/api.Sent,embrasure/api.Sent] (25) -/
def slices_Delete_sl_api_Sent_api_Sent_wp (s : List (Int × Int × Int × Int × Int × (Option Addr × Nat × Nat))) (i : Int) (j : Int) (K : List (Int × Int × Int × Int × Int × (Option Addr × Nat × Nat)) → Prop) : Prop :=
  0 ≤ (((s.length : Nat) : Int) : Int) ∧ (((s.length : Nat) : Int) : Int) ≤ ((s.length : Nat) : Int) ∧ 0 ≤ (j : Int) ∧ (j : Int) ≤ (((s.length : Nat) : Int) : Int) ∧ 0 ≤ (i : Int) ∧ (i : Int) ≤ (j : Int) ∧ (cond ((i : Int) == j) (K s) (0 ≤ (i : Int) ∧ (i : Int) ≤ ((s.length : Nat) : Int) ∧ (0 ≤ (j : Int) ∧ (j : Int) ≤ ((s.length : Nat) : Int) ∧ (K (((s.take (Int.toNat i)).drop 0) ++ ((s.take s.length).drop (Int.toNat j)))))))
theorem slices_Delete_sl_api_Sent_api_Sent_ok {p_1 : Option Addr} {c_1 : Nat} {n_1 : Nat} {s : List (Int × Int × Int × Int × Int × (Option Addr × Nat × Nat))} {i : Int} {j : Int} {FL : List HP} {w : World} {K : List (Int × Int × Int × Int × Int × (Option Addr × Nat × Nat)) → Prop} {R : Value → World → Prop} (hn_p_1 : n_1 = s.length)
  (h : Mem (row enc39 39 6 p_1 c_1 s :: FL) w) (hp : slices_Delete_sl_api_Sent_api_Sent_wp s i j K)
  (hR : ∀ (rs : List (Int × Int × Int × Int × Int × (Option Addr × Nat × Nat))) (p_2 : Option Addr) (n_2 : Nat) (c_2 : Nat) (w : World), n_2 = rs.length → Mem (row enc39 39 6 p_2 c_2 rs :: FL) w → K rs → R (Value.slice p_2 n_2 c_2) w) :
  CallV Try.prog 25 #[(Value.slice p_1 n_1 c_1), (Value.int .i64 i), (Value.int .i64 j)] w R := by
  refine slices_Delete_sl_api_Sent_api_Sent_call ?_
  unfold slices_Delete_sl_api_Sent_api_Sent
  unfold slices_Delete_sl_api_Sent_api_Sent_wp at hp
  subst hn_p_1
  have cpp_1 := rowCap h 0 rfl
  obtain ⟨g_1ma, g_1mb, g_1ha, g_1hb, g_1la, g_1lb, hp⟩ := hp
  have vg_1_lh : (Int.toNat i) ≤ (Int.toNat j) := (natLe2 g_1la g_1ha g_1lb)
  have vg_1_hm : (Int.toNat j) ≤ (Int.toNat ((s.length : Nat) : Int)) := (natLe2 g_1ha g_1ma g_1hb)
  have vg_1_mc : (Int.toNat ((s.length : Nat) : Int)) ≤ c_1 := (Nat.le_trans (natLe g_1ma g_1mb) cpp_1)
  have vg_1_hl : (Int.toNat j) ≤ s.length := (leLen g_1ha (Int.le_trans g_1hb g_1mb) rfl)
  refine ⟨g_1ma, (leCap g_1mb cpp_1), g_1ha, (leNat g_1ma g_1hb), g_1la, (leNat g_1ha g_1lb), ?_⟩
  refine cond_both hp (fun hp => ?_) (fun hp => ?_)
  · exact hR s p_1 s.length c_1 _ rfl h hp
  replace h := h.drew
  obtain ⟨g_2ha, g_2hb, hp⟩ := hp
  have vg_2_lh : 0 ≤ (Int.toNat i) := (Nat.zero_le _)
  have vg_2_hm : (Int.toNat i) ≤ c_1 := (Nat.le_trans (natLe g_2ha g_2hb) cpp_1)
  have vg_2_mc : c_1 ≤ c_1 := (Nat.le_refl _)
  have vg_2_hl : (Int.toNat i) ≤ s.length := (leLen g_2ha g_2hb rfl)
  refine ⟨g_2ha, (leCap g_2hb cpp_1), ?_⟩
  obtain ⟨g_3la, g_3lb, hp⟩ := hp
  have vg_3_lh : (Int.toNat j) ≤ s.length := (natLe g_3la g_3lb)
  have vg_3_hm : s.length ≤ c_1 := cpp_1
  have vg_3_mc : c_1 ≤ c_1 := (Nat.le_refl _)
  have vg_3_hl : s.length ≤ s.length := (Nat.le_of_eq rfl)
  refine ⟨g_3la, g_3lb, ?_⟩
  have sr := (Rd.view (rowRd h 0 encL39 rfl) (l := (Int.toNat j)) (h := s.length) (m := c_1) vg_3_hm)
  replace h := rowShrink h 0 encL39 rfl (l := 0) (hi := (Int.toNat i)) (m := c_1) vg_2_lh vg_2_hm vg_2_mc vg_2_hl
  dsimp only [setH, setVs, setV] at h
  refine appendRoomL slt48 und48 encL39 encO39 h 0 rfl (viewLen vg_2_hl) sr (viewLen vg_3_hl) (by simp only [List.length_drop, List.length_take]; omega) ?_
  intro w h
  dsimp only [setH, setVs, setV] at h
  refine ⟨_, _, _, rfl, ?_⟩
  have hXg_4 : (((s.take (Int.toNat i)).drop 0) ++ ((s.take s.length).drop (Int.toNat j))).length ≤ (Int.toNat ((s.length : Nat) : Int)) := by simp only [List.length_append, List.length_drop, List.length_take]; omega
  refine ⟨by omega, by omega, by omega, by omega, ?_⟩
  refine clearBeyondL (x0 := (0, 0, 0, 0, 0, ((none, 0, 0) : Option Addr × Nat × Nat))) (lo := (Int.toNat (((((s.take (Int.toNat i)).drop 0) ++ ((s.take s.length).drop (Int.toNat j))).length : Nat) : Int))) (hi := (Int.toNat ((s.length : Nat) : Int))) (m := (c_1 - 0)) und48 zr39 h 0 encL39 rfl rfl rfl (Nat.le_of_eq (Int.toNat_natCast _).symm) (by omega) (Nat.le_refl _) rfl ?_
  intro w h
  refine ⟨rfl, ?_⟩
  exact hR (((s.take (Int.toNat i)).drop 0) ++ ((s.take s.length).drop (Int.toNat j))) (slAddr p_1 6 0 c_1) ((((s.take (Int.toNat i)).drop 0) ++ ((s.take s.length).drop (Int.toNat j))).length) (c_1 - 0) _ rfl h hp

/-! (*embrasure/net.Net).Take (12) -/
def net_Net_Take_wp (list : List (Int × Int × Int × Int × Int × (Option Addr × Nat × Nat))) (last : Int) (no : Int) (m_1 : List ((Option Addr × Nat × Nat) × List (Int))) (K : Int → Int → Int → Int → Int → Option Addr × Nat × Nat → Int → List (Int × Int × Int × Int × Int × (Option Addr × Nat × Nat)) → List ((Option Addr × Nat × Nat) × List (Int)) → Prop) : Prop :=
  net_Net_place_wp list last no (fun (r : Int) => cond (decide ((r : Int) < 0)) (∀ (hd : Option Addr × Nat × Nat), hd.2.1 = ([] : List (Int)).length → (K 0 0 0 0 0 hd 5 list (m_1 ++ [(hd, ([] : List (Int)))]))) (0 ≤ (r : Int) ∧ (r : Int) < ((list.length : Nat) : Int) ∧ (∀ (x_1 : Int × Int × Int × Int × Int × (Option Addr × Nat × Nat)), list[Int.toNat r]? = some x_1 → (slices_Delete_sl_api_Sent_api_Sent_wp list r (IntKind.wrap .i64 (r + 1)) (fun (rs : List (Int × Int × Int × Int × Int × (Option Addr × Nat × Nat))) => K x_1.1 x_1.2.1 x_1.2.2.1 x_1.2.2.2.1 x_1.2.2.2.2.1 x_1.2.2.2.2.2 0 rs m_1)))))
theorem net_Net_Take_ok {b_1 : Nat} {p_1 : Option Addr} {c_1 : Nat} {list : List (Int × Int × Int × Int × Int × (Option Addr × Nat × Nat))} {last : Int} {no : Int} {m_1 : List ((Option Addr × Nat × Nat) × List (Int))} {FL : List HP} {w : World} {K : Int → Int → Int → Int → Int → Option Addr × Nat × Nat → Int → List (Int × Int × Int × Int × Int × (Option Addr × Nat × Nat)) → List ((Option Addr × Nat × Nat) × List (Int)) → Prop} {R : Value → World → Prop}
  (h : Mem (cel b_1 59 [(Value.slice p_1 list.length c_1), (Value.int .i64 last)] :: row enc39 39 6 p_1 c_1 list :: poolP enc5 5 1 m_1 :: FL) w) (hp : net_Net_Take_wp list last no m_1 K)
  (hR : ∀ (r : Int) (r_1 : Int) (r_2 : Int) (r_3 : Int) (r_4 : Int) (hd : Option Addr × Nat × Nat) (r_5 : Int) (list_1 : List (Int × Int × Int × Int × Int × (Option Addr × Nat × Nat))) (m_2 : List ((Option Addr × Nat × Nat) × List (Int))) (p_2 : Option Addr) (n_1 : Nat) (c_2 : Nat) (w : World), n_1 = list_1.length → Mem (cel b_1 59 [(Value.slice p_2 n_1 c_2), (Value.int .i64 last)] :: row enc39 39 6 p_2 c_2 list_1 :: poolP enc5 5 1 m_2 :: FL) w → K r r_1 r_2 r_3 r_4 hd r_5 list_1 m_2 → R (Value.tuple #[(Value.agg #[(Value.int .i64 r), (Value.int .u32 r_1), (Value.int .i64 r_2), (Value.int .u32 r_3), (Value.int .i64 r_4), (Value.slice hd.1 hd.2.1 hd.2.2)]), (Value.int .i64 r_5)]) w) :
  CallV Try.prog 12 #[(Value.pointer (some (Addr.mk b_1 0 none))), (Value.int .i64 no)] w R := by
  refine net_Net_Take_call ?_
  unfold net_Net_Take
  unfold net_Net_Take_wp at hp
  have cpp_1 := rowCap h 1 rfl
  refine newL (o := [(Value.int .i64 0), (Value.int .u32 0), (Value.int .i64 0), (Value.int .u32 0), (Value.int .i64 0), (Value.slice none 0 0)]) h ?_
  intro b_2 w h
  replace h := h.pick [1, 1]
  dsimp only [pickL, pickR, nthH, delH, dropH, List.cons_append, List.nil_append] at h
  refine net_Net_place_ok h hp ?_
  intro r w h hp
  have cpp_1 := rowCap h 1 rfl
  refine ⟨_, rfl, ?_⟩
  refine cond_both hp (fun hp => ?_) (fun hp => ?_)
  · replace h := rowNil enc5 5 1 h
    refine storeL (ys := [(Value.int .i64 0), (Value.int .u32 0), (Value.int .i64 0), (Value.int .u32 0), (Value.int .i64 0), (Value.slice none  0 0)]) h 3 0 rfl rfl rfl sz39 rfl rfl ?_
    intro w h
    dsimp only [setH, setVs, setV] at h
    refine ⟨_, cellL h 3 0 rfl rfl rfl, _, cellL h 3 1 rfl rfl rfl, _, cellL h 3 2 rfl rfl rfl, _, cellL h 3 3 rfl rfl rfl, _, cellL h 3 4 rfl rfl rfl, _, _, _, cellL h 3 5 rfl rfl rfl, ?_⟩
    replace h := h.pick [0, 3]
    dsimp only [pickL, pickR, nthH, delH, dropH, List.cons_append, List.nil_append] at h
    let hd : Hd := (none , ([] : List (Int)).length, 0)
    replace hp := hp hd rfl
    replace h : Mem (poolP enc5 5 1 (m_1 ++ [(hd, ([] : List (Int)))]) :: cel b_1 59 [(Value.slice p_1 list.length c_1), (Value.int .i64 last)] :: row enc39 39 6 p_1 c_1 list :: cel b_2 39 [(Value.int .i64 0), (Value.int .u32 0), (Value.int .i64 0), (Value.int .u32 0), (Value.int .i64 0), (Value.slice hd.1 hd.2.1 hd.2.2)] :: FL) _ := poolPush h
    replace h := h.sel [1, 1, 0] 1
    dsimp only [pickL, pickR, nthH, delH, dropH, List.cons_append, List.nil_append] at h
    exact hR 0 0 0 0 0 hd 5 list (m_1 ++ [(hd, ([] : List (Int)))]) p_1 list.length c_1 _ rfl h hp
  refine ⟨_, rfl, ?_⟩
  refine ⟨_, _, _, cellL h 0 0 rfl rfl rfl, ?_⟩
  obtain ⟨ia_1, ja_1, hp⟩ := hp
  obtain ⟨a_1, ha_1⟩ := rdAddr (rowRd h 1 encL39 rfl) rfl ia_1 ja_1
  refine ⟨a_1, ha_1, ia_1, ja_1, ?_⟩
  obtain ⟨x_1, hx_1, hc⟩ := rdCell (rowRd h 1 encL39 rfl) ha_1 rfl ia_1 ja_1
  replace hp := hp x_1 hx_1
  refine ⟨_, hc 0 _ rfl, _, hc 1 _ rfl, _, hc 2 _ rfl, _, hc 3 _ rfl, _, hc 4 _ rfl, _, _, _, hc 5 _ rfl, ?_⟩
  refine newL (o := [(Value.int .i64 0), (Value.int .u32 0), (Value.int .i64 0), (Value.int .u32 0), (Value.int .i64 0), (Value.slice none 0 0)]) h ?_
  intro b_3 w h
  refine storeL (ys := [(Value.int .i64 x_1.1), (Value.int .u32 x_1.2.1), (Value.int .i64 x_1.2.2.1), (Value.int .u32 x_1.2.2.2.1), (Value.int .i64 x_1.2.2.2.2.1), (Value.slice x_1.2.2.2.2.2.1 x_1.2.2.2.2.2.2.1 x_1.2.2.2.2.2.2.2)]) h 0 0 rfl rfl rfl sz39 rfl rfl ?_
  intro w h
  dsimp only [setH, setVs, setV] at h
  refine ⟨_, rfl, ?_⟩
  refine ⟨_, _, _, cellL h 1 0 rfl rfl rfl, ?_⟩
  replace h := h.pick [2]
  dsimp only [pickL, pickR, nthH, delH, dropH, List.cons_append, List.nil_append] at h
  refine slices_Delete_sl_api_Sent_api_Sent_ok (FL := cel b_3 39 [(Value.int .i64 x_1.1), (Value.int .u32 x_1.2.1), (Value.int .i64 x_1.2.2.1), (Value.int .u32 x_1.2.2.2.1), (Value.int .i64 x_1.2.2.2.2.1), (Value.slice x_1.2.2.2.2.2.1 x_1.2.2.2.2.2.2.1 x_1.2.2.2.2.2.2.2)] :: cel b_1 59 [(Value.slice p_1 list.length c_1), (Value.int .i64 last)] :: cel b_2 39 [(Value.int .i64 0), (Value.int .u32 0), (Value.int .i64 0), (Value.int .u32 0), (Value.int .i64 0), (Value.slice none 0 0)] :: poolP enc5 5 1 m_1 :: FL) rfl h hp ?_
  rintro rs p_4 n_2 c_3 w rfl h hp
  have cpp_4 := rowCap h 0 rfl
  refine ⟨_, _, _, rfl, ?_⟩
  refine ⟨_, rfl, ?_⟩
  refine storeL (ys := [(Value.slice p_4 rs.length c_3)]) h 2 0 rfl rfl rfl sz48 rfl rfl ?_
  intro w h
  dsimp only [setH, setVs, setV] at h
  refine ⟨_, cellL h 1 0 rfl rfl rfl, _, cellL h 1 1 rfl rfl rfl, _, cellL h 1 2 rfl rfl rfl, _, cellL h 1 3 rfl rfl rfl, _, cellL h 1 4 rfl rfl rfl, _, _, _, cellL h 1 5 rfl rfl rfl, ?_⟩
  refine storeL (ys := [(Value.int .i64 x_1.1), (Value.int .u32 x_1.2.1), (Value.int .i64 x_1.2.2.1), (Value.int .u32 x_1.2.2.2.1), (Value.int .i64 x_1.2.2.2.2.1), (Value.slice x_1.2.2.2.2.2.1 x_1.2.2.2.2.2.2.1 x_1.2.2.2.2.2.2.2)]) h 3 0 rfl rfl rfl sz39 rfl rfl ?_
  intro w h
  dsimp only [setH, setVs, setV] at h
  refine ⟨_, cellL h 3 0 rfl rfl rfl, _, cellL h 3 1 rfl rfl rfl, _, cellL h 3 2 rfl rfl rfl, _, cellL h 3 3 rfl rfl rfl, _, cellL h 3 4 rfl rfl rfl, _, _, _, cellL h 3 5 rfl rfl rfl, ?_⟩
  replace h := h.sel [2, 0, 2] 2
  dsimp only [pickL, pickR, nthH, delH, dropH, List.cons_append, List.nil_append] at h
  exact hR x_1.1 x_1.2.1 x_1.2.2.1 x_1.2.2.2.1 x_1.2.2.2.2.1 x_1.2.2.2.2.2 0 rs m_1 p_4 rs.length c_3 _ rfl h hp

/-! (*embrasure/net.Net).Count (13) -/
def net_Net_Count_wp (list : List (Int × Int × Int × Int × Int × (Option Addr × Nat × Nat))) (last : Int) (K : Int → Prop) : Prop :=
  K ((list.length : Nat) : Int)
theorem net_Net_Count_ok {b_1 : Nat} {p_1 : Option Addr} {c_1 : Nat} {list : List (Int × Int × Int × Int × Int × (Option Addr × Nat × Nat))} {last : Int} {FL : List HP} {w : World} {K : Int → Prop} {R : Value → World → Prop}
  (h : Mem (cel b_1 59 [(Value.slice p_1 list.length c_1), (Value.int .i64 last)] :: row enc39 39 6 p_1 c_1 list :: FL) w) (hp : net_Net_Count_wp list last K)
  (hR : ∀ (r : Int) (w : World), Mem (cel b_1 59 [(Value.slice p_1 list.length c_1), (Value.int .i64 last)] :: row enc39 39 6 p_1 c_1 list :: FL) w → K r → R (Value.int .i64 r) w) :
  CallV Try.prog 13 #[(Value.pointer (some (Addr.mk b_1 0 none)))] w R := by
  refine net_Net_Count_call ?_
  unfold net_Net_Count
  unfold net_Net_Count_wp at hp
  have cpp_1 := rowCap h 1 rfl
  refine ⟨_, rfl, ?_⟩
  refine ⟨_, _, _, cellL h 0 0 rfl rfl rfl, ?_⟩
  exact hR ((list.length : Nat) : Int) _ h hp

/-! (*embrasure/net.Net).At (14) -/
def net_Net_At_wp (list : List (Int × Int × Int × Int × Int × (Option Addr × Nat × Nat))) (last : Int) (place : Int) (K : Int → Prop) : Prop :=
  cond ((((list.length : Nat) : Int) : Int) == 0) (K 0) ((((list.length : Nat) : Int) : Int) ≠ 0 ∧ ((((list.length : Nat) : Int) : Int) ≠ 0 ∧ (0 ≤ ((Int.tmod (IntKind.wrap .i64 ((Int.tmod place ((list.length : Nat) : Int)) + ((list.length : Nat) : Int))) ((list.length : Nat) : Int)) : Int) ∧ ((Int.tmod (IntKind.wrap .i64 ((Int.tmod place ((list.length : Nat) : Int)) + ((list.length : Nat) : Int))) ((list.length : Nat) : Int)) : Int) < ((list.length : Nat) : Int) ∧ (∀ (x_1 : Int × Int × Int × Int × Int × (Option Addr × Nat × Nat)), list[Int.toNat (Int.tmod (IntKind.wrap .i64 ((Int.tmod place ((list.length : Nat) : Int)) + ((list.length : Nat) : Int))) ((list.length : Nat) : Int))]? = some x_1 → (K x_1.1)))))
theorem net_Net_At_ok {b_1 : Nat} {p_1 : Option Addr} {c_1 : Nat} {list : List (Int × Int × Int × Int × Int × (Option Addr × Nat × Nat))} {last : Int} {place : Int} {FL : List HP} {w : World} {K : Int → Prop} {R : Value → World → Prop}
  (h : Mem (cel b_1 59 [(Value.slice p_1 list.length c_1), (Value.int .i64 last)] :: row enc39 39 6 p_1 c_1 list :: FL) w) (hp : net_Net_At_wp list last place K)
  (hR : ∀ (r : Int) (w : World), Mem (cel b_1 59 [(Value.slice p_1 list.length c_1), (Value.int .i64 last)] :: row enc39 39 6 p_1 c_1 list :: FL) w → K r → R (Value.int .i64 r) w) :
  CallV Try.prog 14 #[(Value.pointer (some (Addr.mk b_1 0 none))), (Value.int .i64 place)] w R := by
  refine net_Net_At_call ?_
  unfold net_Net_At
  unfold net_Net_At_wp at hp
  have cpp_1 := rowCap h 1 rfl
  refine ⟨_, rfl, ?_⟩
  refine ⟨_, _, _, cellL h 0 0 rfl rfl rfl, ?_⟩
  refine cond_both hp (fun hp => ?_) (fun hp => ?_)
  · exact hR 0 _ h hp
  replace h := h.drew
  refine ⟨_, rfl, ?_⟩
  refine ⟨_, _, _, cellL h 0 0 rfl rfl rfl, ?_⟩
  refine ⟨hp.1, ?_⟩
  replace hp := hp.2
  refine ⟨hp.1, ?_⟩
  replace hp := hp.2
  obtain ⟨ia_1, ja_1, hp⟩ := hp
  obtain ⟨a_1, ha_1⟩ := rdAddr (rowRd h 1 encL39 rfl) rfl ia_1 ja_1
  refine ⟨a_1, ha_1, ia_1, ja_1, ?_⟩
  obtain ⟨x_1, hx_1, hc⟩ := rdCell (rowRd h 1 encL39 rfl) ha_1 rfl ia_1 ja_1
  replace hp := hp x_1 hx_1
  refine ⟨_, hc 0 _ rfl, ?_⟩
  exact hR x_1.1 _ h hp

/-! embrasure/embrasurelaw13.awake (7) -/
def embrasurelaw13_awake_wp  (K : Bool → Prop) : Prop :=
  net_New_wp (fun (list : List (Int × Int × Int × Int × Int × (Option Addr × Nat × Nat))) (last : Int) => net_Net_Send_wp list last 1 1 1 1 [104, 105] ([] : List ((Option Addr × Nat × Nat) × List (Int))) (fun (r : Int) (r_1 : Int) (list_1 : List (Int × Int × Int × Int × Int × (Option Addr × Nat × Nat))) (last_1 : Int) (m_1 : List ((Option Addr × Nat × Nat) × List (Int))) => net_Net_Copy_wp list_1 last_1 1 m_1 (fun (r_2 : Int) (r_3 : Int) (list_2 : List (Int × Int × Int × Int × Int × (Option Addr × Nat × Nat))) (last_2 : Int) (m_2 : List ((Option Addr × Nat × Nat) × List (Int))) => net_Net_Take_wp list_2 last_2 1 m_2 (fun (r_4 : Int) (r_5 : Int) (r_6 : Int) (r_7 : Int) (r_8 : Int) (hd : Option Addr × Nat × Nat) (r_9 : Int) (list_3 : List (Int × Int × Int × Int × Int × (Option Addr × Nat × Nat))) (m_3 : List ((Option Addr × Nat × Nat) × List (Int))) => net_Net_Take_wp list_3 last_2 1 m_3 (fun (r_10 : Int) (r_11 : Int) (r_12 : Int) (r_13 : Int) (r_14 : Int) (hd_1 : Option Addr × Nat × Nat) (r_15 : Int) (list_4 : List (Int × Int × Int × Int × Int × (Option Addr × Nat × Nat))) (m_4 : List ((Option Addr × Nat × Nat) × List (Int))) => cond ((r : Int) == 1) (cond ((r_1 : Int) == 0) (cond ((r_2 : Int) == 2) (cond ((r_3 : Int) == 0) (cond ((r_9 : Int) == 0) (∃ (xs : List (Int)), PH m_4 hd xs ∧ (cond ((strOf xs) == ((ByteArray.mk ([104, 105]).toArray))) (cond ((r_15 : Int) == 5) (net_Net_Count_wp list_4 last_2 (fun (r_16 : Int) => cond ((r_16 : Int) == 1) (net_Net_At_wp list_4 last_2 (-7) (fun (r_17 : Int) => K ((r_17 : Int) == 2))) (K false))) (K false)) (K false))) (K false)) (K false)) (K false)) (K false)) (K false))))))
theorem embrasurelaw13_awake_ok  {FL : List HP} {w : World} {K : Bool → Prop} {R : Value → World → Prop}
  (h : Mem (FL) w) (hp : embrasurelaw13_awake_wp  K)
  (hR : ∀ (r : Bool) (w : World), Mem (FL) w → K r → R (Value.bool r) w) :
  CallV Try.prog 7 #[] w R := by
  refine embrasurelaw13_awake_call ?_
  unfold embrasurelaw13_awake
  unfold embrasurelaw13_awake_wp at hp
  replace h := poolNil enc5 5 1 h
  refine net_New_ok h hp ?_
  rintro list last b_1 p_1 n_1 c_1 w rfl h hp
  have cpp_1 := rowCap h 1 rfl
  refine ⟨_, rfl, ?_⟩
  refine eqlPtrNil undP26 ?_
  refine ⟨_, rfl, ?_⟩
  refine cond_ff ?_
  refine newL (o := [(Value.int .u32 0), (Value.int .i64 0)]) h ?_
  intro b_2 w h
  refine storeL (ys := [(Value.int .u32 1), (Value.int .i64 1)]) h 0 0 rfl rfl rfl sz30 rfl rfl ?_
  intro w h
  dsimp only [setH, setVs, setV] at h
  refine ⟨_, cellL h 0 0 rfl rfl rfl, _, cellL h 0 1 rfl rfl rfl, ?_⟩
  refine ⟨_, cellL h 0 0 rfl rfl rfl, _, cellL h 0 1 rfl rfl rfl, ?_⟩
  refine newL (o := [(Value.int .u8 104), (Value.int .u8 105)]) h ?_
  intro b_3 w h
  refine convBytesC und22 undI5 h 0 rfl ?_
  intro w h
  dsimp only [setH, setVs, setV] at h
  refine ⟨_, _, _, rfl, ?_⟩
  replace h := h.pick [2, 2, 2]
  dsimp only [pickL, pickR, nthH, delH, dropH, List.cons_append, List.nil_append] at h
  refine net_Net_Send_ok (FL := celF b_3 5 [(Value.int .u8 104), (Value.int .u8 105)] :: cel b_2 30 [(Value.int .u32 1), (Value.int .i64 1)] :: FL) (fun w h => (celRdF h 0 encL5 rfl [104, 105] rfl)) rfl (Nat.le_refl _) h hp ?_
  rintro r r_1 list_1 last_1 m_1 p_2 n_2 c_2 w rfl h hp
  have cpp_2 := rowCap h 1 rfl
  refine ⟨_, _, rfl, ?_⟩
  refine ⟨_, rfl, ?_⟩
  refine ⟨_, rfl, ?_⟩
  refine net_Net_Copy_ok h hp ?_
  rintro r_2 r_3 list_2 last_2 m_2 p_3 n_3 c_3 w rfl h hp
  have cpp_3 := rowCap h 1 rfl
  refine ⟨_, _, rfl, ?_⟩
  refine ⟨_, rfl, ?_⟩
  refine ⟨_, rfl, ?_⟩
  refine net_Net_Take_ok h hp ?_
  rintro r_4 r_5 r_6 r_7 r_8 hd r_9 list_3 m_3 p_4 n_4 c_4 w rfl h hp
  have cpp_4 := rowCap h 1 rfl
  refine ⟨_, _, _, _, _, _, _, _, _, rfl, ?_⟩
  refine ⟨_, _, _, _, _, _, _, _, rfl, ?_⟩
  refine ⟨_, rfl, ?_⟩
  refine newL (o := [(Value.int .i64 0), (Value.int .u32 0), (Value.int .i64 0), (Value.int .u32 0), (Value.int .i64 0), (Value.slice none 0 0)]) h ?_
  intro b_4 w h
  refine storeL (ys := [(Value.int .i64 r_4), (Value.int .u32 r_5), (Value.int .i64 r_6), (Value.int .u32 r_7), (Value.int .i64 r_8), (Value.slice hd.1 hd.2.1 hd.2.2)]) h 0 0 rfl rfl rfl sz39 rfl rfl ?_
  intro w h
  dsimp only [setH, setVs, setV] at h
  replace h := h.pick [1, 1, 1]
  dsimp only [pickL, pickR, nthH, delH, dropH, List.cons_append, List.nil_append] at h
  refine net_Net_Take_ok h hp ?_
  rintro r_10 r_11 r_12 r_13 r_14 hd_1 r_15 list_4 m_4 p_5 n_5 c_5 w rfl h hp
  have cpp_5 := rowCap h 1 rfl
  refine ⟨_, _, _, _, _, _, _, _, _, rfl, ?_⟩
  refine ⟨_, _, _, _, _, _, _, _, rfl, ?_⟩
  refine ⟨_, rfl, ?_⟩
  refine newL (o := [(Value.int .i64 0), (Value.int .u32 0), (Value.int .i64 0), (Value.int .u32 0), (Value.int .i64 0), (Value.slice none 0 0)]) h ?_
  intro b_5 w h
  refine storeL (ys := [(Value.int .i64 r_10), (Value.int .u32 r_11), (Value.int .i64 r_12), (Value.int .u32 r_13), (Value.int .i64 r_14), (Value.slice hd_1.1 hd_1.2.1 hd_1.2.2)]) h 0 0 rfl rfl rfl sz39 rfl rfl ?_
  intro w h
  dsimp only [setH, setVs, setV] at h
  refine cond_both' hp (fun hp => ?_) (fun hp => ?_)
  · replace h := h.sel [] 7
    dsimp only [pickL, pickR, nthH, delH, dropH, List.cons_append, List.nil_append] at h
    exact hR false _ h hp
  refine cond_both' hp (fun hp => ?_) (fun hp => ?_)
  · replace h := h.sel [] 7
    dsimp only [pickL, pickR, nthH, delH, dropH, List.cons_append, List.nil_append] at h
    exact hR false _ h hp
  refine cond_both' hp (fun hp => ?_) (fun hp => ?_)
  · replace h := h.sel [] 7
    dsimp only [pickL, pickR, nthH, delH, dropH, List.cons_append, List.nil_append] at h
    exact hR false _ h hp
  refine cond_both' hp (fun hp => ?_) (fun hp => ?_)
  · replace h := h.sel [] 7
    dsimp only [pickL, pickR, nthH, delH, dropH, List.cons_append, List.nil_append] at h
    exact hR false _ h hp
  refine cond_both' hp (fun hp => ?_) (fun hp => ?_)
  · replace h := h.sel [] 7
    dsimp only [pickL, pickR, nthH, delH, dropH, List.cons_append, List.nil_append] at h
    exact hR false _ h hp
  refine ⟨_, _, _, cellL h 4 5 rfl rfl rfl, ?_⟩
  obtain ⟨xs, hq_xs, hp⟩ := hp
  have hl_xs := poolLen h 3 rfl hq_xs
  have hc_xs := poolCap h 3 rfl hq_xs
  refine bytesStr (enc := enc5) und22 undI5 undStr9 (poolRd h 3 encL5 rfl hq_xs) (fun _ => rfl) hl_xs ?_
  refine ⟨_, rfl, ?_⟩
  refine eqlStr ?_
  refine ⟨_, rfl, ?_⟩
  refine cond_both' hp (fun hp => ?_) (fun hp => ?_)
  · replace h := h.sel [] 7
    dsimp only [pickL, pickR, nthH, delH, dropH, List.cons_append, List.nil_append] at h
    exact hR false _ h hp
  refine cond_both' hp (fun hp => ?_) (fun hp => ?_)
  · replace h := h.sel [] 7
    dsimp only [pickL, pickR, nthH, delH, dropH, List.cons_append, List.nil_append] at h
    exact hR false _ h hp
  replace h := h.pick [1, 1]
  dsimp only [pickL, pickR, nthH, delH, dropH, List.cons_append, List.nil_append] at h
  refine net_Net_Count_ok h hp ?_
  intro r_16 w h hp
  have cpp_5 := rowCap h 1 rfl
  refine ⟨_, rfl, ?_⟩
  refine cond_both' hp (fun hp => ?_) (fun hp => ?_)
  · replace h := h.sel [] 7
    dsimp only [pickL, pickR, nthH, delH, dropH, List.cons_append, List.nil_append] at h
    exact hR false _ h hp
  refine net_Net_At_ok h hp ?_
  intro r_17 w h hp
  have cpp_5 := rowCap h 1 rfl
  refine ⟨_, rfl, ?_⟩
  replace h := h.sel [] 7
  dsimp only [pickL, pickR, nthH, delH, dropH, List.cons_append, List.nil_append] at h
  exact hR ((r_17 : Int) == 2) _ h hp

/-! embrasure/embrasurelaw13.small (8) -/
def embrasurelaw13_small_wp (l_1 : List (Int × Int × Int × Int × Int × Int × (List (Int)))) (K : Bool → Prop) : Prop :=
  ∃ (I : Nat → Int → Prop), (∃ (n_4 : Nat), I n_4 0) ∧ ∀ (n_2 : Nat) (i3 : Int), I n_2 i3 → (joinP1 (fun (t11 : Bool) => cond t11 (0 ≤ (i3 : Int) ∧ (i3 : Int) < ((l_1.length : Nat) : Int) ∧ (∀ (x_1 : Int × Int × Int × Int × Int × Int × (List (Int))), l_1[Int.toNat i3]? = some x_1 → (cond (decide ((((x_1.2.2.2.2.2.2.length : Nat) : Int) : Int) > 1300)) (K false) (∃ (n_3 : Nat), n_3 < n_2 ∧ I n_3 (IntKind.wrap .i64 (i3 + 1)))))) (K true)) (fun (Q : Bool → Prop) => cond (decide ((i3 : Int) < ((l_1.length : Nat) : Int))) (Q (decide ((i3 : Int) < 100))) (Q false)))
theorem embrasurelaw13_small_ok {p_1 : Option Addr} {n_1 : Nat} {c_1 : Nat} {l_1 : List (Int × Int × Int × Int × Int × Int × (List (Int)))} {FL : List HP} {w : World} {K : Bool → Prop} {R : Value → World → Prop}
  (hF_l_1 : ∀ w, Mem FL w → RdD w 7 p_1 (encR37 FL) l_1) (hl_l_1 : n_1 = l_1.length) (hc_l_1 : n_1 ≤ c_1)
  (h : Mem (FL) w) (hp : embrasurelaw13_small_wp l_1 K)
  (hR : ∀ (r : Bool) (w : World), Mem (FL) w → K r → R (Value.bool r) w) :
  CallV Try.prog 8 #[(Value.slice p_1 n_1 c_1)] w R := by
  refine embrasurelaw13_small_call ?_
  unfold embrasurelaw13_small
  unfold embrasurelaw13_small_wp at hp
  subst hl_l_1
  obtain ⟨I, ⟨n_4, h0⟩, hq⟩ := hp
  refine ⟨fun n_2 l0p l0l l0c i3 w => p_1 = l0p ∧ l_1.length = l0l ∧ c_1 = l0c ∧ I n_2 i3 ∧ Mem (FL) w, ⟨n_4, rfl, rfl, rfl, h0, h⟩, ?_⟩
  clear h0 h
  rintro n_2 l0p l0l l0c i3 w ⟨rfl, rfl, rfl, hp, h⟩
  replace hp := hq n_2 i3 hp
  clear hq
  unfold embrasurelaw13_small_l1
  obtain ⟨Q, hq, hp⟩ := hp
  refine ⟨fun l0_1p l0_1l l0_1c i3_1 t11 w => p_1 = l0_1p ∧ l_1.length = l0_1l ∧ c_1 = l0_1c ∧ i3 = i3_1 ∧ Q t11 ∧ Mem (FL) w, ?_, ?_⟩
  · rintro l0_1p l0_1l l0_1c i3_1 t11 w ⟨rfl, rfl, rfl, rfl, hp, h⟩
    replace hp := hq t11 hp
    unfold embrasurelaw13_small_j2
    refine cond_both' hp (fun hp => ?_) (fun hp => ?_)
    · exact hR true _ h hp
    obtain ⟨ia_1, ja_1, hp⟩ := hp
    obtain ⟨a_1, ha_1⟩ := rdAddrD (hF_l_1 _ (h.drop 0)) rfl ia_1 ja_1
    refine ⟨a_1, ha_1, ia_1, ja_1, ?_⟩
    obtain ⟨x_1, hx_1, cs, hR, hc0, hc1, hc2⟩ := rdCellD (hF_l_1 _ (h.drop 0)) ha_1 rfl ia_1 ja_1
    replace hp := hp x_1 hx_1
    obtain ⟨qp6, qn6, qc6, rfl, rfl, hc_qp6, hF_qp6⟩ := hR
    refine ⟨_, _, _, hc1 6 _ rfl, ?_⟩
    refine cond_both hp (fun hp => ?_) (fun hp => ?_)
    · exact hR false _ h hp
    obtain ⟨n_3, hn, hp⟩ := hp
    exact ⟨n_3, hn, rfl, rfl, rfl, hp, h⟩
  clear hq
  refine cond_both hp (fun hp => ?_) (fun hp => ?_)
  · exact ⟨rfl, rfl, rfl, rfl, hp, h⟩
  exact ⟨rfl, rfl, rfl, rfl, hp, h⟩

/-! embrasure/embrasurelaw13.NetOnce (3) -/
def embrasurelaw13_NetOnce_wp (b_1 : List (Int)) (copies : Int) (script : List (Int × Int × Int × Int × Int × Int × (List (Int)))) (K : Bool → Prop) : Prop :=
  embrasurelaw13_awake_wp (fun (r : Bool) => cond (!r) (K false) (joinP1 (fun (t39 : Bool) => cond t39 (K true) (net_New_wp (fun (list : List (Int × Int × Int × Int × Int × (Option Addr × Nat × Nat))) (last : Int) => (([] : List (Int)).length + b_1.length) * 1 ≤ 140737488355328 ∧ (net_Net_Send_wp list last 1 2 3 4 (([] : List (Int)) ++ b_1) ([] : List ((Option Addr × Nat × Nat) × List (Int))) (fun (r_2 : Int) (r_3 : Int) (list_1 : List (Int × Int × Int × Int × Int × (Option Addr × Nat × Nat))) (last_1 : Int) (m_1 : List ((Option Addr × Nat × Nat) × List (Int))) => joinP4 (fun (list_2 : List (Int × Int × Int × Int × Int × (Option Addr × Nat × Nat))) (last_2 : Int) (nos : List (Int)) (m_2 : List ((Option Addr × Nat × Nat) × List (Int))) => joinP0 (joinP3 (fun (list_5 : List (Int × Int × Int × Int × Int × (Option Addr × Nat × Nat))) (last_5 : Int) (m_5 : List ((Option Addr × Nat × Nat) × List (Int))) => joinP2 (fun (list_8 : List (Int × Int × Int × Int × Int × (Option Addr × Nat × Nat))) (m_8 : List ((Option Addr × Nat × Nat) × List (Int))) => joinP3 (fun (list_12 : List (Int × Int × Int × Int × Int × (Option Addr × Nat × Nat))) (last_8 : Int) (m_12 : List ((Option Addr × Nat × Nat) × List (Int))) => net_Net_Send_wp list_12 last_8 1 2 3 4 ([] : List (Int)) m_12 (fun (r_23 : Int) (r_24 : Int) (list_15 : List (Int × Int × Int × Int × Int × (Option Addr × Nat × Nat))) (last_11 : Int) (m_15 : List ((Option Addr × Nat × Nat) × List (Int))) => net_Net_At_wp list_15 last_11 0 (fun (r_25 : Int) => net_Net_Copy_wp list_15 last_11 r_25 m_15 (fun (r_26 : Int) (r_27 : Int) (list_16 : List (Int × Int × Int × Int × Int × (Option Addr × Nat × Nat))) (last_12 : Int) (m_16 : List ((Option Addr × Nat × Nat) × List (Int))) => cond ((r_3 : Int) == 0) (cond ((r_24 : Int) == 10) (K ((r_27 : Int) == 10)) (K false)) (K false))))) (fun (Q_7 : List (Int × Int × Int × Int × Int × (Option Addr × Nat × Nat)) → Int → List ((Option Addr × Nat × Nat) × List (Int)) → Prop) => ∃ (I_4 : Nat → List (Int × Int × Int × Int × Int × (Option Addr × Nat × Nat)) → Int → List ((Option Addr × Nat × Nat) × List (Int)) → Prop), (∃ (n_33 : Nat), I_4 n_33 list_8 last_5 m_8) ∧ ∀ (n_30 : Nat) (list_13 : List (Int × Int × Int × Int × Int × (Option Addr × Nat × Nat))) (last_9 : Int) (m_13 : List ((Option Addr × Nat × Nat) × List (Int))), I_4 n_30 list_13 last_9 m_13 → (net_Net_Count_wp list_13 last_9 (fun (r_20 : Int) => cond (decide ((r_20 : Int) < 300)) (net_Net_Send_wp list_13 last_9 1 2 3 4 ([] : List (Int)) m_13 (fun (r_21 : Int) (r_22 : Int) (list_14 : List (Int × Int × Int × Int × Int × (Option Addr × Nat × Nat))) (last_10 : Int) (m_14 : List ((Option Addr × Nat × Nat) × List (Int))) => cond ((r_22 : Int) != 0) (K false) (∃ (n_32 : Nat), n_32 < n_30 ∧ I_4 n_32 list_14 last_10 m_14))) (Q_7 list_13 last_9 m_13))))) (fun (Q_5 : List (Int × Int × Int × Int × Int × (Option Addr × Nat × Nat)) → List ((Option Addr × Nat × Nat) × List (Int)) → Prop) => ∃ (I_3 : Nat → List (Int × Int × Int × Int × Int × (Option Addr × Nat × Nat)) → Int → List ((Option Addr × Nat × Nat) × List (Int)) → Prop), (∃ (n_27 : Nat), I_3 n_27 list_5 0 m_5) ∧ ∀ (n_23 : Nat) (list_9 : List (Int × Int × Int × Int × Int × (Option Addr × Nat × Nat))) (i19 : Int) (m_9 : List ((Option Addr × Nat × Nat) × List (Int))), I_3 n_23 list_9 i19 m_9 → (cond (decide ((i19 : Int) < ((nos.length : Nat) : Int))) (0 ≤ (i19 : Int) ∧ (i19 : Int) < ((nos.length : Nat) : Int) ∧ (∀ (x_7 : Int), nos[Int.toNat i19]? = some x_7 → (net_Net_Take_wp list_9 last_5 x_7 m_9 (fun (r_8 : Int) (r_9 : Int) (r_10 : Int) (r_11 : Int) (r_12 : Int) (hd : Option Addr × Nat × Nat) (r_13 : Int) (list_10 : List (Int × Int × Int × Int × Int × (Option Addr × Nat × Nat))) (m_10 : List ((Option Addr × Nat × Nat) × List (Int))) => 0 ≤ (i19 : Int) ∧ (i19 : Int) < ((nos.length : Nat) : Int) ∧ (∀ (x_8 : Int), nos[Int.toNat i19]? = some x_8 → (net_Net_Take_wp list_10 last_5 x_8 m_10 (fun (r_14 : Int) (r_15 : Int) (r_16 : Int) (r_17 : Int) (r_18 : Int) (hd_1 : Option Addr × Nat × Nat) (r_19 : Int) (list_11 : List (Int × Int × Int × Int × Int × (Option Addr × Nat × Nat))) (m_11 : List ((Option Addr × Nat × Nat) × List (Int))) => joinP1 (fun (t180 : Bool) => cond t180 (K false) (∃ (n_26 : Nat), n_26 < n_23 ∧ I_3 n_26 list_11 (IntKind.wrap .i64 (i19 + 1)) m_11)) (fun (Q_6 : Bool → Prop) => cond ((r_13 : Int) != 0) (Q_6 true) (cond ((r_19 : Int) != 5) (Q_6 true) (cond (!(((r_9 : Int) == 1) && (((r_10 : Int) == 2) && true))) (Q_6 true) (cond (!(((r_11 : Int) == 3) && (((r_12 : Int) == 4) && true))) (Q_6 true) ((∃ (xs : List (Int)), PH m_11 hd xs ∧ (cond (!((strOf xs) == (strOf b_1))) (Q_6 true) (0 ≤ (i19 : Int) ∧ (i19 : Int) < ((nos.length : Nat) : Int) ∧ (∀ (x_9 : Int), nos[Int.toNat i19]? = some x_9 → (Q_6 ((r_8 : Int) != x_9)))))) ∧ (∃ (xs_1 : List (Int)), PH m_11 hd xs_1 ∧ (cond (!((strOf xs_1) == (strOf b_1))) (Q_6 true) (0 ≤ (i19 : Int) ∧ (i19 : Int) < ((nos.length : Nat) : Int) ∧ (∀ (x_10 : Int), nos[Int.toNat i19]? = some x_10 → (Q_6 ((r_8 : Int) != x_10)))))))))))))))))) (Q_5 list_9 m_9)))) (fun (Q_3 : List (Int × Int × Int × Int × Int × (Option Addr × Nat × Nat)) → Int → List ((Option Addr × Nat × Nat) × List (Int)) → Prop) => ∃ (I_2 : Nat → List (Int × Int × Int × Int × Int × (Option Addr × Nat × Nat)) → Int → Int → List ((Option Addr × Nat × Nat) × List (Int)) → Prop), (∃ (n_20 : Nat), I_2 n_20 list_2 last_2 0 m_2) ∧ ∀ (n_16 : Nat) (list_6 : List (Int × Int × Int × Int × Int × (Option Addr × Nat × Nat))) (last_6 : Int) (i18 : Int) (m_6 : List ((Option Addr × Nat × Nat) × List (Int))), I_2 n_16 list_6 last_6 i18 m_6 → (joinP1 (fun (t96 : Bool) => cond t96 (0 ≤ (i18 : Int) ∧ (i18 : Int) < ((script.length : Nat) : Int) ∧ (∀ (x_3 : Int × Int × Int × Int × Int × Int × (List (Int))), script[Int.toNat i18]? = some x_3 → (cond ((x_3.1 : Int) == 0) (0 ≤ (i18 : Int) ∧ (i18 : Int) < ((script.length : Nat) : Int) ∧ (∀ (x_4 : Int × Int × Int × Int × Int × Int × (List (Int))), script[Int.toNat i18]? = some x_4 → (0 ≤ (i18 : Int) ∧ (i18 : Int) < ((script.length : Nat) : Int) ∧ (∀ (x_5 : Int × Int × Int × Int × Int × Int × (List (Int))), script[Int.toNat i18]? = some x_5 → (0 ≤ (i18 : Int) ∧ (i18 : Int) < ((script.length : Nat) : Int) ∧ (∀ (x_6 : Int × Int × Int × Int × Int × Int × (List (Int))), script[Int.toNat i18]? = some x_6 → (net_Net_Send_wp list_6 last_6 x_4.2.2.1 x_4.2.2.2.1 x_5.2.2.2.2.1 x_5.2.2.2.2.2.1 x_6.2.2.2.2.2.2 m_6 (fun (r_6 : Int) (r_7 : Int) (list_7 : List (Int × Int × Int × Int × Int × (Option Addr × Nat × Nat))) (last_7 : Int) (m_7 : List ((Option Addr × Nat × Nat) × List (Int))) => ∃ (n_18 : Nat), n_18 < n_16 ∧ I_2 n_18 list_7 last_7 (IntKind.wrap .i64 (i18 + 1)) m_7)))))))) (∃ (n_19 : Nat), n_19 < n_16 ∧ I_2 n_19 list_6 last_6 (IntKind.wrap .i64 (i18 + 1)) m_6)))) (Q_3 list_6 last_6 m_6)) (fun (Q_4 : Bool → Prop) => cond (decide ((i18 : Int) < ((script.length : Nat) : Int))) (Q_4 (decide ((i18 : Int) < 100))) (Q_4 false))))) (fun (Q_2 : Prop) => ∃ (I_1 : Nat → List (Int) → Int → Prop), (∃ (n_13 : Nat), I_1 n_13 (([] : List (Int)) ++ b_1) 0) ∧ ∀ (n_11 : Nat) (own : List (Int)) (i17 : Int), I_1 n_11 own i17 → (cond (decide ((i17 : Int) < (((([] : List (Int)) ++ b_1).length : Nat) : Int))) (0 ≤ (i17 : Int) ∧ (i17 : Int) < (((([] : List (Int)) ++ b_1).length : Nat) : Int) ∧ (∀ (x_1 : Int), own[Int.toNat i17]? = some x_1 → (0 ≤ (i17 : Int) ∧ (i17 : Int) < (((([] : List (Int)) ++ b_1).length : Nat) : Int) ∧ (∃ (n_12 : Nat), n_12 < n_11 ∧ I_1 n_12 (List.set own (Int.toNat i17) (IntKind.wrap .u8 (x_1 + 1))) (IntKind.wrap .i64 (i17 + 1)))))) (Q_2 )))) (fun (Q_1 : List (Int × Int × Int × Int × Int × (Option Addr × Nat × Nat)) → Int → List (Int) → List ((Option Addr × Nat × Nat) × List (Int)) → Prop) => ∃ (I : Nat → List (Int × Int × Int × Int × Int × (Option Addr × Nat × Nat)) → Int → List (Int) → Int → List ((Option Addr × Nat × Nat) × List (Int)) → Prop), (∃ (n_10 : Nat), I n_10 list_1 last_1 [r_2] 0 m_1) ∧ ∀ (n_7 : Nat) (list_3 : List (Int × Int × Int × Int × Int × (Option Addr × Nat × Nat))) (last_3 : Int) (nos_1 : List (Int)) (i14 : Int) (m_3 : List ((Option Addr × Nat × Nat) × List (Int))), I n_7 list_3 last_3 nos_1 i14 m_3 → (cond (decide ((i14 : Int) < (Int.tmod (IntKind.wrap .i64 copies) 20))) (net_Net_Copy_wp list_3 last_3 r_2 m_3 (fun (r_4 : Int) (r_5 : Int) (list_4 : List (Int × Int × Int × Int × Int × (Option Addr × Nat × Nat))) (last_4 : Int) (m_4 : List ((Option Addr × Nat × Nat) × List (Int))) => cond ((r_5 : Int) != 0) (K false) ((nos_1.length + [r_4].length) * 8 ≤ 140737488355328 ∧ (∃ (n_9 : Nat), n_9 < n_7 ∧ I n_9 list_4 last_4 (nos_1 ++ [r_4]) (IntKind.wrap .i64 (i14 + 1)) m_4)))) (Q_1 list_3 last_3 nos_1 m_3)))))))) (fun (Q : Bool → Prop) => cond (decide ((((b_1.length : Nat) : Int) : Int) > 1200)) (Q true) (embrasurelaw13_small_wp script (fun (r_1 : Bool) => Q (!r_1))))))
theorem embrasurelaw13_NetOnce_ok {p_1 : Option Addr} {n_1 : Nat} {c_1 : Nat} {p_2 : Option Addr} {n_2 : Nat} {c_2 : Nat} {b_1 : List (Int)} {copies : Int} {script : List (Int × Int × Int × Int × Int × Int × (List (Int)))} {FL : List HP} {w : World} {K : Bool → Prop} {R : Value → World → Prop}
  (hF_b_1 : ∀ w, Mem FL w → Rd w 1 p_1 enc5 b_1) (hl_b_1 : n_1 = b_1.length) (hc_b_1 : n_1 ≤ c_1)
  (hF_script : ∀ w, Mem FL w → RdD w 7 p_2 (encR37 FL) script) (hl_script : n_2 = script.length) (hc_script : n_2 ≤ c_2)
  (h : Mem (FL) w) (hp : embrasurelaw13_NetOnce_wp b_1 copies script K)
  (hR : ∀ (r : Bool) (w : World), Mem (FL) w → K r → R (Value.bool r) w) :
  CallV Try.prog 3 #[(Value.slice p_1 n_1 c_1), (Value.int .u8 copies), (Value.slice p_2 n_2 c_2)] w R := by
  refine embrasurelaw13_NetOnce_call ?_
  unfold embrasurelaw13_NetOnce
  unfold embrasurelaw13_NetOnce_wp at hp
  subst hl_b_1
  subst hl_script
  replace h := poolNil enc5 5 1 h
  refine embrasurelaw13_awake_ok h hp ?_
  intro r w h hp
  refine ⟨_, rfl, ?_⟩
  refine cond_both hp (fun hp => ?_) (fun hp => ?_)
  · replace h := h.sel [] 1
    dsimp only [pickL, pickR, nthH, delH, dropH, List.cons_append, List.nil_append] at h
    exact hR false _ h hp
  obtain ⟨Q, hq, hp⟩ := hp
  refine ⟨fun b0p b0l b0c copies1 script2p script2l script2c t39 w => p_1 = b0p ∧ b_1.length = b0l ∧ c_1 = b0c ∧ copies = copies1 ∧ p_2 = script2p ∧ script.length = script2l ∧ c_2 = script2c ∧ Q t39 ∧ Mem (poolP enc5 5 1 ([] : List ((Option Addr × Nat × Nat) × List (Int))) :: FL) w, ?_, ?_⟩
  · rintro b0p b0l b0c copies1 script2p script2l script2c t39 w ⟨rfl, rfl, rfl, rfl, rfl, rfl, rfl, hp, h⟩
    replace hp := hq t39 hp
    unfold embrasurelaw13_NetOnce_j1
    refine cond_both hp (fun hp => ?_) (fun hp => ?_)
    · replace h := h.sel [] 1
      dsimp only [pickL, pickR, nthH, delH, dropH, List.cons_append, List.nil_append] at h
      exact hR true _ h hp
    refine net_New_ok h hp ?_
    rintro list last b_2 p_3 n_3 c_3 w rfl h hp
    have cpp_3 := rowCap h 1 rfl
    refine ⟨_, rfl, ?_⟩
    refine newL (o := []) h ?_
    intro b_3 w h
    have sr := (hF_b_1 _ (h.drop 4))
    replace h := rowOfCel h 0 encL5 rfl ([] : List (Int)) rfl
    dsimp only [setH, setVs, setV] at h
    obtain ⟨hb, hp⟩ := hp
    refine appendL slt22 und22 encL5 encO5 h 0 rfl rfl sr rfl hb ?_
    intro p_4 c_4 w h
    dsimp only [setH, setVs, setV] at h
    have cpp_4 := rowCap h 0 rfl
    refine ⟨_, _, _, rfl, ?_⟩
    refine newL (o := [(Value.int .u32 0), (Value.int .i64 0)]) h ?_
    intro b_4 w h
    refine storeL (ys := [(Value.int .u32 1), (Value.int .i64 2)]) h 0 0 rfl rfl rfl sz30 rfl rfl ?_
    intro w h
    dsimp only [setH, setVs, setV] at h
    refine newL (o := [(Value.int .u32 0), (Value.int .i64 0)]) h ?_
    intro b_5 w h
    refine storeL (ys := [(Value.int .u32 3), (Value.int .i64 4)]) h 0 0 rfl rfl rfl sz30 rfl rfl ?_
    intro w h
    dsimp only [setH, setVs, setV] at h
    refine ⟨_, cellL h 1 0 rfl rfl rfl, _, cellL h 1 1 rfl rfl rfl, ?_⟩
    refine ⟨_, cellL h 0 0 rfl rfl rfl, _, cellL h 0 1 rfl rfl rfl, ?_⟩
    replace h := h.pick [3, 3, 3]
    dsimp only [pickL, pickR, nthH, delH, dropH, List.cons_append, List.nil_append] at h
    refine net_Net_Send_ok (FL := cel b_5 30 [(Value.int .u32 3), (Value.int .i64 4)] :: cel b_4 30 [(Value.int .u32 1), (Value.int .i64 2)] :: row enc5 5 1 p_4 c_4 (([] : List (Int)) ++ b_1) :: FL) (fun w h => (rowRd h 2 encL5 rfl)) rfl cpp_4 h hp ?_
    rintro r_2 r_3 list_1 last_1 m_1 p_5 n_4 c_5 w rfl h hp
    have cpp_5 := rowCap h 1 rfl
    refine ⟨_, _, rfl, ?_⟩
    refine ⟨_, rfl, ?_⟩
    refine ⟨_, rfl, ?_⟩
    refine newL (o := [(Value.int .i64 r_2)]) h ?_
    intro b_6 w h
    obtain ⟨Q_1, hq, hp⟩ := hp
    refine ⟨fun b0_1p b0_1l b0_1c script2_1p script2_1l script2_1c n7 own8p own8l own8c from9 to10 e12 nos13p nos13l nos13c w => ∃ (list_2 : List (Int × Int × Int × Int × Int × (Option Addr × Nat × Nat))), ∃ (p_6 : Option Addr), ∃ (n_5 : Nat), ∃ (c_6 : Nat), ∃ (last_2 : Int), ∃ (nos : List (Int)), ∃ (m_2 : List ((Option Addr × Nat × Nat) × List (Int))), p_1 = b0_1p ∧ b_1.length = b0_1l ∧ c_1 = b0_1c ∧ p_2 = script2_1p ∧ script.length = script2_1l ∧ c_2 = script2_1c ∧ (some (Addr.mk b_2 0 none)) = n7 ∧ p_4 = own8p ∧ (([] : List (Int)) ++ b_1).length = own8l ∧ c_4 = own8c ∧ (Addr.mk b_4 0 none) = from9 ∧ (Addr.mk b_5 0 none) = to10 ∧ r_3 = e12 ∧ n_5 = list_2.length ∧ nos13l = nos.length ∧ Q_1 list_2 last_2 nos m_2 ∧ Mem (cel b_2 59 [(Value.slice p_6 n_5 c_6), (Value.int .i64 last_2)] :: row enc39 39 6 p_6 c_6 list_2 :: cel b_5 30 [(Value.int .u32 3), (Value.int .i64 4)] :: cel b_4 30 [(Value.int .u32 1), (Value.int .i64 2)] :: poolP enc5 5 1 m_2 :: row enc5 5 1 p_4 c_4 (([] : List (Int)) ++ b_1) :: row enc3 3 1 nos13p nos13c nos :: FL) w, ?_, ?_⟩
    · rintro b0_1p b0_1l b0_1c script2_1p script2_1l script2_1c n7 own8p own8l own8c from9 to10 e12 nos13p nos13l nos13c w ⟨list_2, p_6, n_5, c_6, last_2, nos, m_2, rfl, rfl, rfl, rfl, rfl, rfl, rfl, rfl, rfl, rfl, rfl, rfl, rfl, rfl, rfl, hp, h⟩
      replace hp := hq list_2 last_2 nos m_2 hp
      unfold embrasurelaw13_NetOnce_j2
      have cpp_6 := rowCap h 1 rfl
      have cpnos13p := rowCap h 6 rfl
      obtain ⟨Q_2, hq, hp⟩ := hp
      refine ⟨fun b0_3p b0_3l b0_3c script2_3p script2_3l script2_3c n7_2 from9_2 to10_2 e12_2 nos13_2p nos13_2l nos13_2c w => p_1 = b0_3p ∧ b_1.length = b0_3l ∧ c_1 = b0_3c ∧ p_2 = script2_3p ∧ script.length = script2_3l ∧ c_2 = script2_3c ∧ (some (Addr.mk b_2 0 none)) = n7_2 ∧ (Addr.mk b_4 0 none) = from9_2 ∧ (Addr.mk b_5 0 none) = to10_2 ∧ r_3 = e12_2 ∧ nos13p = nos13_2p ∧ nos.length = nos13_2l ∧ nos13c = nos13_2c ∧ Q_2 ∧ Mem (cel b_2 59 [(Value.slice p_6 list_2.length c_6), (Value.int .i64 last_2)] :: row enc39 39 6 p_6 c_6 list_2 :: cel b_5 30 [(Value.int .u32 3), (Value.int .i64 4)] :: cel b_4 30 [(Value.int .u32 1), (Value.int .i64 2)] :: poolP enc5 5 1 m_2 :: row enc3 3 1 nos13p nos13c nos :: FL) w, ?_, ?_⟩
      · rintro b0_3p b0_3l b0_3c script2_3p script2_3l script2_3c n7_2 from9_2 to10_2 e12_2 nos13_2p nos13_2l nos13_2c w ⟨rfl, rfl, rfl, rfl, rfl, rfl, rfl, rfl, rfl, rfl, rfl, rfl, rfl, hp, h⟩
        replace hp := hq  hp
        unfold embrasurelaw13_NetOnce_j3
        obtain ⟨Q_3, hq, hp⟩ := hp
        refine ⟨fun b0_5p b0_5l b0_5c n7_4 from9_4 to10_4 e12_4 nos13_4p nos13_4l nos13_4c w => ∃ (list_5 : List (Int × Int × Int × Int × Int × (Option Addr × Nat × Nat))), ∃ (p_10 : Option Addr), ∃ (n_14 : Nat), ∃ (c_10 : Nat), ∃ (last_5 : Int), ∃ (m_5 : List ((Option Addr × Nat × Nat) × List (Int))), p_1 = b0_5p ∧ b_1.length = b0_5l ∧ c_1 = b0_5c ∧ (some (Addr.mk b_2 0 none)) = n7_4 ∧ (Addr.mk b_4 0 none) = from9_4 ∧ (Addr.mk b_5 0 none) = to10_4 ∧ r_3 = e12_4 ∧ nos13p = nos13_4p ∧ nos.length = nos13_4l ∧ nos13c = nos13_4c ∧ n_14 = list_5.length ∧ Q_3 list_5 last_5 m_5 ∧ Mem (cel b_2 59 [(Value.slice p_10 n_14 c_10), (Value.int .i64 last_5)] :: row enc39 39 6 p_10 c_10 list_5 :: cel b_5 30 [(Value.int .u32 3), (Value.int .i64 4)] :: cel b_4 30 [(Value.int .u32 1), (Value.int .i64 2)] :: poolP enc5 5 1 m_5 :: row enc3 3 1 nos13p nos13c nos :: FL) w, ?_, ?_⟩
        · rintro b0_5p b0_5l b0_5c n7_4 from9_4 to10_4 e12_4 nos13_4p nos13_4l nos13_4c w ⟨list_5, p_10, n_14, c_10, last_5, m_5, rfl, rfl, rfl, rfl, rfl, rfl, rfl, rfl, rfl, rfl, rfl, hp, h⟩
          replace hp := hq list_5 last_5 m_5 hp
          unfold embrasurelaw13_NetOnce_j4
          have cpp_10 := rowCap h 1 rfl
          obtain ⟨Q_5, hq, hp⟩ := hp
          refine ⟨fun n7_7 from9_7 to10_7 e12_7 w => ∃ (list_8 : List (Int × Int × Int × Int × Int × (Option Addr × Nat × Nat))), ∃ (p_13 : Option Addr), ∃ (n_21 : Nat), ∃ (c_13 : Nat), ∃ (m_8 : List ((Option Addr × Nat × Nat) × List (Int))), (some (Addr.mk b_2 0 none)) = n7_7 ∧ (Addr.mk b_4 0 none) = from9_7 ∧ (Addr.mk b_5 0 none) = to10_7 ∧ r_3 = e12_7 ∧ n_21 = list_8.length ∧ Q_5 list_8 m_8 ∧ Mem (cel b_2 59 [(Value.slice p_13 n_21 c_13), (Value.int .i64 last_5)] :: row enc39 39 6 p_13 c_13 list_8 :: cel b_5 30 [(Value.int .u32 3), (Value.int .i64 4)] :: cel b_4 30 [(Value.int .u32 1), (Value.int .i64 2)] :: poolP enc5 5 1 m_8 :: FL) w, ?_, ?_⟩
          · rintro n7_7 from9_7 to10_7 e12_7 w ⟨list_8, p_13, n_21, c_13, m_8, rfl, rfl, rfl, rfl, rfl, hp, h⟩
            replace hp := hq list_8 m_8 hp
            unfold embrasurelaw13_NetOnce_j5
            have cpp_13 := rowCap h 1 rfl
            obtain ⟨Q_7, hq, hp⟩ := hp
            refine ⟨fun n7_10 from9_10 to10_10 e12_10 w => ∃ (list_12 : List (Int × Int × Int × Int × Int × (Option Addr × Nat × Nat))), ∃ (p_17 : Option Addr), ∃ (n_28 : Nat), ∃ (c_17 : Nat), ∃ (last_8 : Int), ∃ (m_12 : List ((Option Addr × Nat × Nat) × List (Int))), (some (Addr.mk b_2 0 none)) = n7_10 ∧ (Addr.mk b_4 0 none) = from9_10 ∧ (Addr.mk b_5 0 none) = to10_10 ∧ r_3 = e12_10 ∧ n_28 = list_12.length ∧ Q_7 list_12 last_8 m_12 ∧ Mem (cel b_2 59 [(Value.slice p_17 n_28 c_17), (Value.int .i64 last_8)] :: row enc39 39 6 p_17 c_17 list_12 :: cel b_5 30 [(Value.int .u32 3), (Value.int .i64 4)] :: cel b_4 30 [(Value.int .u32 1), (Value.int .i64 2)] :: poolP enc5 5 1 m_12 :: FL) w, ?_, ?_⟩
            · rintro n7_10 from9_10 to10_10 e12_10 w ⟨list_12, p_17, n_28, c_17, last_8, m_12, rfl, rfl, rfl, rfl, rfl, hp, h⟩
              replace hp := hq list_12 last_8 m_12 hp
              unfold embrasurelaw13_NetOnce_j6
              have cpp_17 := rowCap h 1 rfl
              refine ⟨_, cellL h 3 0 rfl rfl rfl, _, cellL h 3 1 rfl rfl rfl, ?_⟩
              refine ⟨_, cellL h 2 0 rfl rfl rfl, _, cellL h 2 1 rfl rfl rfl, ?_⟩
              replace h := h.pick [0, 0, 2]
              dsimp only [pickL, pickR, nthH, delH, dropH, List.cons_append, List.nil_append] at h
              refine net_Net_Send_ok (FL := cel b_5 30 [(Value.int .u32 3), (Value.int .i64 4)] :: cel b_4 30 [(Value.int .u32 1), (Value.int .i64 2)] :: FL) (fun w h => Rd.nil) rfl (Nat.le_refl _) h hp ?_
              rintro r_23 r_24 list_15 last_11 m_15 p_20 n_34 c_20 w rfl h hp
              have cpp_20 := rowCap h 1 rfl
              refine ⟨_, _, rfl, ?_⟩
              refine ⟨_, rfl, ?_⟩
              refine ⟨_, rfl, ?_⟩
              refine net_Net_At_ok h hp ?_
              intro r_25 w h hp
              have cpp_20 := rowCap h 1 rfl
              refine ⟨_, rfl, ?_⟩
              refine net_Net_Copy_ok h hp ?_
              rintro r_26 r_27 list_16 last_12 m_16 p_21 n_35 c_21 w rfl h hp
              have cpp_21 := rowCap h 1 rfl
              refine ⟨_, _, rfl, ?_⟩
              refine ⟨_, rfl, ?_⟩
              refine ⟨_, rfl, ?_⟩
              refine cond_both' hp (fun hp => ?_) (fun hp => ?_)
              · replace h := h.sel [] 5
                dsimp only [pickL, pickR, nthH, delH, dropH, List.cons_append, List.nil_append] at h
                exact hR false _ h hp
              refine cond_both hp (fun hp => ?_) (fun hp => ?_)
              · replace h := h.sel [] 5
                dsimp only [pickL, pickR, nthH, delH, dropH, List.cons_append, List.nil_append] at h
                exact hR ((r_27 : Int) == 10) _ h hp
              replace h := h.sel [] 5
              dsimp only [pickL, pickR, nthH, delH, dropH, List.cons_append, List.nil_append] at h
              exact hR false _ h hp
            clear hq
            obtain ⟨I_4, ⟨n_33, h0⟩, hq⟩ := hp
            refine ⟨fun n_30 n7_11 from9_11 to10_11 e12_11 w => ∃ (list_13 : List (Int × Int × Int × Int × Int × (Option Addr × Nat × Nat))), ∃ (p_18 : Option Addr), ∃ (n_29 : Nat), ∃ (c_18 : Nat), ∃ (last_9 : Int), ∃ (m_13 : List ((Option Addr × Nat × Nat) × List (Int))), (some (Addr.mk b_2 0 none)) = n7_11 ∧ (Addr.mk b_4 0 none) = from9_11 ∧ (Addr.mk b_5 0 none) = to10_11 ∧ r_3 = e12_11 ∧ n_29 = list_13.length ∧ I_4 n_30 list_13 last_9 m_13 ∧ Mem (cel b_2 59 [(Value.slice p_18 n_29 c_18), (Value.int .i64 last_9)] :: row enc39 39 6 p_18 c_18 list_13 :: cel b_5 30 [(Value.int .u32 3), (Value.int .i64 4)] :: cel b_4 30 [(Value.int .u32 1), (Value.int .i64 2)] :: poolP enc5 5 1 m_13 :: FL) w, ⟨n_33, list_8, p_13, list_8.length, c_13, last_5, m_8, rfl, rfl, rfl, rfl, rfl, h0, h⟩, ?_⟩
            clear h0 h
            rintro n_30 n7_11 from9_11 to10_11 e12_11 w ⟨list_13, p_18, n_29, c_18, last_9, m_13, rfl, rfl, rfl, rfl, rfl, hp, h⟩
            replace hp := hq n_30 list_13 last_9 m_13 hp
            clear hq
            unfold embrasurelaw13_NetOnce_l7
            have cpp_18 := rowCap h 1 rfl
            refine net_Net_Count_ok h hp ?_
            intro r_20 w h hp
            have cpp_18 := rowCap h 1 rfl
            refine ⟨_, rfl, ?_⟩
            refine cond_both' hp (fun hp => ?_) (fun hp => ?_)
            · exact ⟨list_13, p_18, list_13.length, c_18, last_9, m_13, rfl, rfl, rfl, rfl, rfl, hp, h⟩
            refine ⟨_, cellL h 3 0 rfl rfl rfl, _, cellL h 3 1 rfl rfl rfl, ?_⟩
            refine ⟨_, cellL h 2 0 rfl rfl rfl, _, cellL h 2 1 rfl rfl rfl, ?_⟩
            replace h := h.pick [0, 0, 2]
            dsimp only [pickL, pickR, nthH, delH, dropH, List.cons_append, List.nil_append] at h
            refine net_Net_Send_ok (FL := cel b_5 30 [(Value.int .u32 3), (Value.int .i64 4)] :: cel b_4 30 [(Value.int .u32 1), (Value.int .i64 2)] :: FL) (fun w h => Rd.nil) rfl (Nat.le_refl _) h hp ?_
            rintro r_21 r_22 list_14 last_10 m_14 p_19 n_31 c_19 w rfl h hp
            have cpp_19 := rowCap h 1 rfl
            refine ⟨_, _, rfl, ?_⟩
            refine ⟨_, rfl, ?_⟩
            refine ⟨_, rfl, ?_⟩
            refine cond_both hp (fun hp => ?_) (fun hp => ?_)
            · replace h := h.sel [] 5
              dsimp only [pickL, pickR, nthH, delH, dropH, List.cons_append, List.nil_append] at h
              exact hR false _ h hp
            replace h := h.sel [0, 0, 1, 1, 0] 0
            dsimp only [pickL, pickR, nthH, delH, dropH, List.cons_append, List.nil_append] at h
            obtain ⟨n_32, hn, hp⟩ := hp
            exact ⟨n_32, hn, list_14, p_19, list_14.length, c_19, last_10, m_14, rfl, rfl, rfl, rfl, rfl, hp, h⟩
          clear hq
          obtain ⟨I_3, ⟨n_27, h0⟩, hq⟩ := hp
          refine ⟨fun n_23 b0_8p b0_8l b0_8c n7_8 from9_8 to10_8 e12_8 nos13_7p nos13_7l nos13_7c i19 w => ∃ (list_9 : List (Int × Int × Int × Int × Int × (Option Addr × Nat × Nat))), ∃ (p_14 : Option Addr), ∃ (n_22 : Nat), ∃ (c_14 : Nat), ∃ (m_9 : List ((Option Addr × Nat × Nat) × List (Int))), p_1 = b0_8p ∧ b_1.length = b0_8l ∧ c_1 = b0_8c ∧ (some (Addr.mk b_2 0 none)) = n7_8 ∧ (Addr.mk b_4 0 none) = from9_8 ∧ (Addr.mk b_5 0 none) = to10_8 ∧ r_3 = e12_8 ∧ nos13p = nos13_7p ∧ nos.length = nos13_7l ∧ nos13c = nos13_7c ∧ n_22 = list_9.length ∧ I_3 n_23 list_9 i19 m_9 ∧ Mem (cel b_2 59 [(Value.slice p_14 n_22 c_14), (Value.int .i64 last_5)] :: row enc39 39 6 p_14 c_14 list_9 :: cel b_5 30 [(Value.int .u32 3), (Value.int .i64 4)] :: cel b_4 30 [(Value.int .u32 1), (Value.int .i64 2)] :: poolP enc5 5 1 m_9 :: row enc3 3 1 nos13p nos13c nos :: FL) w, ⟨n_27, list_5, p_10, list_5.length, c_10, m_5, rfl, rfl, rfl, rfl, rfl, rfl, rfl, rfl, rfl, rfl, rfl, h0, h⟩, ?_⟩
          clear h0 h
          rintro n_23 b0_8p b0_8l b0_8c n7_8 from9_8 to10_8 e12_8 nos13_7p nos13_7l nos13_7c i19 w ⟨list_9, p_14, n_22, c_14, m_9, rfl, rfl, rfl, rfl, rfl, rfl, rfl, rfl, rfl, rfl, rfl, hp, h⟩
          replace hp := hq n_23 list_9 i19 m_9 hp
          clear hq
          unfold embrasurelaw13_NetOnce_l8
          have cpp_14 := rowCap h 1 rfl
          refine cond_both' hp (fun hp => ?_) (fun hp => ?_)
          · replace h := h.sel [0, 0, 0, 0, 0] 1
            dsimp only [pickL, pickR, nthH, delH, dropH, List.cons_append, List.nil_append] at h
            exact ⟨list_9, p_14, list_9.length, c_14, m_9, rfl, rfl, rfl, rfl, rfl, hp, h⟩
          obtain ⟨ia_7, ja_7, hp⟩ := hp
          obtain ⟨a_7, ha_7⟩ := rdAddr (rowRd h 5 encL3 rfl) rfl ia_7 ja_7
          refine ⟨a_7, ha_7, ia_7, ja_7, ?_⟩
          obtain ⟨x_7, hx_7, hc⟩ := rdCell0 (rowRd h 5 encL3 rfl) ha_7 rfl ia_7 ja_7
          replace hp := hp x_7 hx_7
          refine ⟨_, hc _ rfl, ?_⟩
          replace h := h.pick [0, 0, 2]
          dsimp only [pickL, pickR, nthH, delH, dropH, List.cons_append, List.nil_append] at h
          refine net_Net_Take_ok h hp ?_
          rintro r_8 r_9 r_10 r_11 r_12 hd r_13 list_10 m_10 p_15 n_24 c_15 w rfl h hp
          have cpp_15 := rowCap h 1 rfl
          refine ⟨_, _, _, _, _, _, _, _, _, rfl, ?_⟩
          refine ⟨_, _, _, _, _, _, _, _, rfl, ?_⟩
          refine ⟨_, rfl, ?_⟩
          refine newL (o := [(Value.int .i64 0), (Value.int .u32 0), (Value.int .i64 0), (Value.int .u32 0), (Value.int .i64 0), (Value.slice none 0 0)]) h ?_
          intro b_8 w h
          refine storeL (ys := [(Value.int .i64 r_8), (Value.int .u32 r_9), (Value.int .i64 r_10), (Value.int .u32 r_11), (Value.int .i64 r_12), (Value.slice hd.1 hd.2.1 hd.2.2)]) h 0 0 rfl rfl rfl sz39 rfl rfl ?_
          intro w h
          dsimp only [setH, setVs, setV] at h
          obtain ⟨ia_8, ja_8, hp⟩ := hp
          obtain ⟨a_8, ha_8⟩ := rdAddr (rowRd h 6 encL3 rfl) rfl ia_8 ja_8
          refine ⟨a_8, ha_8, ia_8, ja_8, ?_⟩
          obtain ⟨x_8, hx_8, hc⟩ := rdCell0 (rowRd h 6 encL3 rfl) ha_8 rfl ia_8 ja_8
          replace hp := hp x_8 hx_8
          refine ⟨_, hc _ rfl, ?_⟩
          replace h := h.pick [1, 1, 1]
          dsimp only [pickL, pickR, nthH, delH, dropH, List.cons_append, List.nil_append] at h
          refine net_Net_Take_ok h hp ?_
          rintro r_14 r_15 r_16 r_17 r_18 hd_1 r_19 list_11 m_11 p_16 n_25 c_16 w rfl h hp
          have cpp_16 := rowCap h 1 rfl
          refine ⟨_, _, _, _, _, _, _, _, _, rfl, ?_⟩
          refine ⟨_, _, _, _, _, _, _, _, rfl, ?_⟩
          refine ⟨_, rfl, ?_⟩
          refine newL (o := [(Value.int .i64 0), (Value.int .u32 0), (Value.int .i64 0), (Value.int .u32 0), (Value.int .i64 0), (Value.slice none 0 0)]) h ?_
          intro b_9 w h
          refine storeL (ys := [(Value.int .i64 r_14), (Value.int .u32 r_15), (Value.int .i64 r_16), (Value.int .u32 r_17), (Value.int .i64 r_18), (Value.slice hd_1.1 hd_1.2.1 hd_1.2.2)]) h 0 0 rfl rfl rfl sz39 rfl rfl ?_
          intro w h
          dsimp only [setH, setVs, setV] at h
          obtain ⟨Q_6, hq, hp⟩ := hp
          refine ⟨fun b0_9p b0_9l b0_9c n7_9 from9_9 to10_9 e12_9 nos13_8p nos13_8l nos13_8c i19_1 t180 w => p_1 = b0_9p ∧ b_1.length = b0_9l ∧ c_1 = b0_9c ∧ (some (Addr.mk b_2 0 none)) = n7_9 ∧ (Addr.mk b_4 0 none) = from9_9 ∧ (Addr.mk b_5 0 none) = to10_9 ∧ r_3 = e12_9 ∧ nos13p = nos13_8p ∧ nos.length = nos13_8l ∧ nos13c = nos13_8c ∧ i19 = i19_1 ∧ Q_6 t180 ∧ Mem (cel b_9 39 [(Value.int .i64 r_14), (Value.int .u32 r_15), (Value.int .i64 r_16), (Value.int .u32 r_17), (Value.int .i64 r_18), (Value.slice hd_1.1 hd_1.2.1 hd_1.2.2)] :: cel b_2 59 [(Value.slice p_16 list_11.length c_16), (Value.int .i64 last_5)] :: row enc39 39 6 p_16 c_16 list_11 :: cel b_8 39 [(Value.int .i64 r_8), (Value.int .u32 r_9), (Value.int .i64 r_10), (Value.int .u32 r_11), (Value.int .i64 r_12), (Value.slice hd.1 hd.2.1 hd.2.2)] :: cel b_5 30 [(Value.int .u32 3), (Value.int .i64 4)] :: cel b_4 30 [(Value.int .u32 1), (Value.int .i64 2)] :: poolP enc5 5 1 m_11 :: row enc3 3 1 nos13p nos13c nos :: FL) w, ?_, ?_⟩
          · rintro b0_9p b0_9l b0_9c n7_9 from9_9 to10_9 e12_9 nos13_8p nos13_8l nos13_8c i19_1 t180 w ⟨rfl, rfl, rfl, rfl, rfl, rfl, rfl, rfl, rfl, rfl, rfl, hp, h⟩
            replace hp := hq t180 hp
            unfold embrasurelaw13_NetOnce_j9
            refine cond_both hp (fun hp => ?_) (fun hp => ?_)
            · replace h := h.sel [] 8
              dsimp only [pickL, pickR, nthH, delH, dropH, List.cons_append, List.nil_append] at h
              exact hR false _ h hp
            replace h := h.sel [1, 1, 2, 2, 2, 2] 2
            dsimp only [pickL, pickR, nthH, delH, dropH, List.cons_append, List.nil_append] at h
            obtain ⟨n_26, hn, hp⟩ := hp
            exact ⟨n_26, hn, list_11, p_16, list_11.length, c_16, m_11, rfl, rfl, rfl, rfl, rfl, rfl, rfl, rfl, rfl, rfl, rfl, hp, h⟩
          clear hq
          replace h := h.drew
          refine ⟨fun w => Mem (cel b_8 39 [(Value.int .i64 r_8), (Value.int .u32 r_9), (Value.int .i64 r_10), (Value.int .u32 r_11), (Value.int .i64 r_12), (Value.slice hd.1 hd.2.1 hd.2.2)] :: FL) w, (h.sel [4] 7), ?_⟩
          refine cond_both hp (fun hp => ?_) (fun hp => ?_)
          · replace h := h.sel [0, 0, 0, 1, 1, 1, 0, 0] 0
            dsimp only [pickL, pickR, nthH, delH, dropH, List.cons_append, List.nil_append] at h
            exact ⟨rfl, rfl, rfl, rfl, rfl, rfl, rfl, rfl, rfl, rfl, rfl, hp, h⟩
          refine cond_both hp (fun hp => ?_) (fun hp => ?_)
          · replace h := h.sel [0, 0, 0, 1, 1, 1, 0, 0] 0
            dsimp only [pickL, pickR, nthH, delH, dropH, List.cons_append, List.nil_append] at h
            exact ⟨rfl, rfl, rfl, rfl, rfl, rfl, rfl, rfl, rfl, rfl, rfl, hp, h⟩
          refine ⟨_, cellL h 4 1 rfl rfl rfl, _, cellL h 4 2 rfl rfl rfl, ?_⟩
          refine ⟨_, cellL h 6 0 rfl rfl rfl, _, cellL h 6 1 rfl rfl rfl, ?_⟩
          refine neqAgg (xs := [(Value.int .u32 r_9), (Value.int .i64 r_10)]) (ys := [(Value.int .u32 1), (Value.int .i64 2)]) eqG30 eqA30 (eqT30 r_9 r_10 1 2) ?_
          refine ⟨_, rfl, ?_⟩
          refine ⟨rfl, ?_⟩
          refine cond_both hp (fun hp => ?_) (fun hp => ?_)
          · replace h := h.sel [0, 0, 0, 1, 1, 1, 0, 0] 0
            dsimp only [pickL, pickR, nthH, delH, dropH, List.cons_append, List.nil_append] at h
            exact ⟨rfl, rfl, rfl, rfl, rfl, rfl, rfl, rfl, rfl, rfl, rfl, hp, h⟩
          refine ⟨_, cellL h 4 3 rfl rfl rfl, _, cellL h 4 4 rfl rfl rfl, ?_⟩
          refine ⟨_, cellL h 5 0 rfl rfl rfl, _, cellL h 5 1 rfl rfl rfl, ?_⟩
          refine neqAgg (xs := [(Value.int .u32 r_11), (Value.int .i64 r_12)]) (ys := [(Value.int .u32 3), (Value.int .i64 4)]) eqG30 eqA30 (eqT30 r_11 r_12 3 4) ?_
          refine ⟨_, rfl, ?_⟩
          refine ⟨rfl, ?_⟩
          refine cond_both hp (fun hp => ?_) (fun hp => ?_)
          · replace h := h.sel [0, 0, 0, 1, 1, 1, 0, 0] 0
            dsimp only [pickL, pickR, nthH, delH, dropH, List.cons_append, List.nil_append] at h
            exact ⟨rfl, rfl, rfl, rfl, rfl, rfl, rfl, rfl, rfl, rfl, rfl, hp, h⟩
          refine ⟨_, _, _, cellL h 4 5 rfl rfl rfl, ?_⟩
          refine ⟨?_, ?_⟩
          · intro w h
            change Mem _ _ at h
            refine ⟨_, _, _, cellL h 0 5 rfl rfl rfl, ?_⟩
            exact ⟨rfl, rfl⟩
          refine ⟨?_, ?_⟩
          · replace hp := hp.1
            obtain ⟨xs, hq_xs, hp⟩ := hp
            have hl_xs := poolLen h 3 rfl hq_xs
            have hc_xs := poolCap h 3 rfl hq_xs
            refine bytesStr (enc := enc5) und22 undI5 undStr9 (poolRd h 3 encL5 rfl hq_xs) (fun _ => rfl) hl_xs ?_
            refine ⟨_, rfl, ?_⟩
            refine ⟨(h.sel [4] 7), ?_⟩
            refine bytesStr (enc := enc5) und22 undI5 undStr9 (hF_b_1 _ (h.drop 8)) (fun _ => rfl) rfl ?_
            refine ⟨_, rfl, ?_⟩
            refine ⟨(h.sel [4] 7), ?_⟩
            refine neqStr ?_
            refine ⟨_, rfl, ?_⟩
            refine ⟨rfl, ?_⟩
            refine cond_both hp (fun hp => ?_) (fun hp => ?_)
            · replace h := h.sel [0, 0, 0, 1, 1, 1, 0, 0] 0
              dsimp only [pickL, pickR, nthH, delH, dropH, List.cons_append, List.nil_append] at h
              exact ⟨rfl, rfl, rfl, rfl, rfl, rfl, rfl, rfl, rfl, rfl, rfl, hp, h⟩
            refine ⟨_, cellL h 4 0 rfl rfl rfl, ?_⟩
            obtain ⟨ia_9, ja_9, hp⟩ := hp
            obtain ⟨a_9, ha_9⟩ := rdAddr (rowRd h 7 encL3 rfl) rfl ia_9 ja_9
            refine ⟨a_9, ha_9, ia_9, ja_9, ?_⟩
            obtain ⟨x_9, hx_9, hc⟩ := rdCell0 (rowRd h 7 encL3 rfl) ha_9 rfl ia_9 ja_9
            replace hp := hp x_9 hx_9
            refine ⟨_, hc _ rfl, ?_⟩
            replace h := h.sel [0, 0, 0, 1, 1, 1, 0, 0] 0
            dsimp only [pickL, pickR, nthH, delH, dropH, List.cons_append, List.nil_append] at h
            exact ⟨rfl, rfl, rfl, rfl, rfl, rfl, rfl, rfl, rfl, rfl, rfl, hp, h⟩
          replace hp := hp.2
          refine bytesStr (enc := enc5) und22 undI5 undStr9 (hF_b_1 _ (h.drop 8)) (fun _ => rfl) rfl ?_
          refine ⟨_, rfl, ?_⟩
          refine ⟨(h.sel [4] 7), ?_⟩
          obtain ⟨xs_1, hq_xs_1, hp⟩ := hp
          have hl_xs_1 := poolLen h 3 rfl hq_xs_1
          have hc_xs_1 := poolCap h 3 rfl hq_xs_1
          refine bytesStr (enc := enc5) und22 undI5 undStr9 (poolRd h 3 encL5 rfl hq_xs_1) (fun _ => rfl) hl_xs_1 ?_
          refine ⟨_, rfl, ?_⟩
          refine ⟨(h.sel [4] 7), ?_⟩
          refine neqStr ?_
          refine ⟨_, rfl, ?_⟩
          refine ⟨rfl, ?_⟩
          refine cond_both hp (fun hp => ?_) (fun hp => ?_)
          · replace h := h.sel [0, 0, 0, 1, 1, 1, 0, 0] 0
            dsimp only [pickL, pickR, nthH, delH, dropH, List.cons_append, List.nil_append] at h
            exact ⟨rfl, rfl, rfl, rfl, rfl, rfl, rfl, rfl, rfl, rfl, rfl, hp, h⟩
          refine ⟨_, cellL h 4 0 rfl rfl rfl, ?_⟩
          obtain ⟨ia_10, ja_10, hp⟩ := hp
          obtain ⟨a_10, ha_10⟩ := rdAddr (rowRd h 7 encL3 rfl) rfl ia_10 ja_10
          refine ⟨a_10, ha_10, ia_10, ja_10, ?_⟩
          obtain ⟨x_10, hx_10, hc⟩ := rdCell0 (rowRd h 7 encL3 rfl) ha_10 rfl ia_10 ja_10
          replace hp := hp x_10 hx_10
          refine ⟨_, hc _ rfl, ?_⟩
          replace h := h.sel [0, 0, 0, 1, 1, 1, 0, 0] 0
          dsimp only [pickL, pickR, nthH, delH, dropH, List.cons_append, List.nil_append] at h
          exact ⟨rfl, rfl, rfl, rfl, rfl, rfl, rfl, rfl, rfl, rfl, rfl, hp, h⟩
        clear hq
        obtain ⟨I_2, ⟨n_20, h0⟩, hq⟩ := hp
        refine ⟨fun n_16 b0_6p b0_6l b0_6c script2_5p script2_5l script2_5c n7_5 from9_5 to10_5 e12_5 nos13_5p nos13_5l nos13_5c i18 w => ∃ (list_6 : List (Int × Int × Int × Int × Int × (Option Addr × Nat × Nat))), ∃ (p_11 : Option Addr), ∃ (n_15 : Nat), ∃ (c_11 : Nat), ∃ (last_6 : Int), ∃ (m_6 : List ((Option Addr × Nat × Nat) × List (Int))), p_1 = b0_6p ∧ b_1.length = b0_6l ∧ c_1 = b0_6c ∧ p_2 = script2_5p ∧ script.length = script2_5l ∧ c_2 = script2_5c ∧ (some (Addr.mk b_2 0 none)) = n7_5 ∧ (Addr.mk b_4 0 none) = from9_5 ∧ (Addr.mk b_5 0 none) = to10_5 ∧ r_3 = e12_5 ∧ nos13p = nos13_5p ∧ nos.length = nos13_5l ∧ nos13c = nos13_5c ∧ n_15 = list_6.length ∧ I_2 n_16 list_6 last_6 i18 m_6 ∧ Mem (cel b_2 59 [(Value.slice p_11 n_15 c_11), (Value.int .i64 last_6)] :: row enc39 39 6 p_11 c_11 list_6 :: cel b_5 30 [(Value.int .u32 3), (Value.int .i64 4)] :: cel b_4 30 [(Value.int .u32 1), (Value.int .i64 2)] :: poolP enc5 5 1 m_6 :: row enc3 3 1 nos13p nos13c nos :: FL) w, ⟨n_20, list_2, p_6, list_2.length, c_6, last_2, m_2, rfl, rfl, rfl, rfl, rfl, rfl, rfl, rfl, rfl, rfl, rfl, rfl, rfl, rfl, h0, h⟩, ?_⟩
        clear h0 h
        rintro n_16 b0_6p b0_6l b0_6c script2_5p script2_5l script2_5c n7_5 from9_5 to10_5 e12_5 nos13_5p nos13_5l nos13_5c i18 w ⟨list_6, p_11, n_15, c_11, last_6, m_6, rfl, rfl, rfl, rfl, rfl, rfl, rfl, rfl, rfl, rfl, rfl, rfl, rfl, rfl, hp, h⟩
        replace hp := hq n_16 list_6 last_6 i18 m_6 hp
        clear hq
        unfold embrasurelaw13_NetOnce_l10
        have cpp_11 := rowCap h 1 rfl
        obtain ⟨Q_4, hq, hp⟩ := hp
        refine ⟨fun b0_7p b0_7l b0_7c script2_6p script2_6l script2_6c n7_6 from9_6 to10_6 e12_6 nos13_6p nos13_6l nos13_6c i18_1 t96 w => p_1 = b0_7p ∧ b_1.length = b0_7l ∧ c_1 = b0_7c ∧ p_2 = script2_6p ∧ script.length = script2_6l ∧ c_2 = script2_6c ∧ (some (Addr.mk b_2 0 none)) = n7_6 ∧ (Addr.mk b_4 0 none) = from9_6 ∧ (Addr.mk b_5 0 none) = to10_6 ∧ r_3 = e12_6 ∧ nos13p = nos13_6p ∧ nos.length = nos13_6l ∧ nos13c = nos13_6c ∧ i18 = i18_1 ∧ Q_4 t96 ∧ Mem (cel b_2 59 [(Value.slice p_11 list_6.length c_11), (Value.int .i64 last_6)] :: row enc39 39 6 p_11 c_11 list_6 :: cel b_5 30 [(Value.int .u32 3), (Value.int .i64 4)] :: cel b_4 30 [(Value.int .u32 1), (Value.int .i64 2)] :: poolP enc5 5 1 m_6 :: row enc3 3 1 nos13p nos13c nos :: FL) w, ?_, ?_⟩
        · rintro b0_7p b0_7l b0_7c script2_6p script2_6l script2_6c n7_6 from9_6 to10_6 e12_6 nos13_6p nos13_6l nos13_6c i18_1 t96 w ⟨rfl, rfl, rfl, rfl, rfl, rfl, rfl, rfl, rfl, rfl, rfl, rfl, rfl, rfl, hp, h⟩
          replace hp := hq t96 hp
          unfold embrasurelaw13_NetOnce_j11
          refine cond_both' hp (fun hp => ?_) (fun hp => ?_)
          · exact ⟨list_6, p_11, list_6.length, c_11, last_6, m_6, rfl, rfl, rfl, rfl, rfl, rfl, rfl, rfl, rfl, rfl, rfl, hp, h⟩
          obtain ⟨ia_3, ja_3, hp⟩ := hp
          obtain ⟨a_3, ha_3⟩ := rdAddrD (hF_script _ (h.drop 6)) rfl ia_3 ja_3
          refine ⟨a_3, ha_3, ia_3, ja_3, ?_⟩
          obtain ⟨x_3, hx_3, cs, hR, hc0, hc1, hc2⟩ := rdCellD (hF_script _ (h.drop 6)) ha_3 rfl ia_3 ja_3
          replace hp := hp x_3 hx_3
          obtain ⟨qp6, qn6, qc6, rfl, rfl, hc_qp6, hF_qp6⟩ := hR
          refine ⟨_, hc1 0 _ rfl, ?_⟩
          refine cond_both' hp (fun hp => ?_) (fun hp => ?_)
          · obtain ⟨n_19, hn, hp⟩ := hp
            exact ⟨n_19, hn, list_6, p_11, list_6.length, c_11, last_6, m_6, rfl, rfl, rfl, rfl, rfl, rfl, rfl, rfl, rfl, rfl, rfl, rfl, rfl, rfl, hp, h⟩
          replace h := h.drew
          obtain ⟨ia_4, ja_4, hp⟩ := hp
          obtain ⟨a_4, ha_4⟩ := rdAddrD (hF_script _ (h.drop 6)) rfl ia_4 ja_4
          refine ⟨a_4, ha_4, ia_4, ja_4, ?_⟩
          obtain ⟨x_4, hx_4, cs, hR, hc0, hc1, hc2⟩ := rdCellD (hF_script _ (h.drop 6)) ha_4 rfl ia_4 ja_4
          replace hp := hp x_4 hx_4
          obtain ⟨q_1p6, q_1n6, q_1c6, rfl, rfl, hc_q_1p6, hF_q_1p6⟩ := hR
          refine ⟨_, hc2 2 0 _ rfl, _, hc2 2 1 _ rfl, ?_⟩
          obtain ⟨ia_5, ja_5, hp⟩ := hp
          obtain ⟨a_5, ha_5⟩ := rdAddrD (hF_script _ (h.drop 6)) rfl ia_5 ja_5
          refine ⟨a_5, ha_5, ia_5, ja_5, ?_⟩
          obtain ⟨x_5, hx_5, cs, hR, hc0, hc1, hc2⟩ := rdCellD (hF_script _ (h.drop 6)) ha_5 rfl ia_5 ja_5
          replace hp := hp x_5 hx_5
          obtain ⟨q_2p6, q_2n6, q_2c6, rfl, rfl, hc_q_2p6, hF_q_2p6⟩ := hR
          refine ⟨_, hc2 4 0 _ rfl, _, hc2 4 1 _ rfl, ?_⟩
          obtain ⟨ia_6, ja_6, hp⟩ := hp
          obtain ⟨a_6, ha_6⟩ := rdAddrD (hF_script _ (h.drop 6)) rfl ia_6 ja_6
          refine ⟨a_6, ha_6, ia_6, ja_6, ?_⟩
          obtain ⟨x_6, hx_6, cs, hR, hc0, hc1, hc2⟩ := rdCellD (hF_script _ (h.drop 6)) ha_6 rfl ia_6 ja_6
          replace hp := hp x_6 hx_6
          obtain ⟨q_3p6, q_3n6, q_3c6, rfl, rfl, hc_q_3p6, hF_q_3p6⟩ := hR
          refine ⟨_, _, _, hc1 6 _ rfl, ?_⟩
          replace h := h.pick [0, 0, 2]
          dsimp only [pickL, pickR, nthH, delH, dropH, List.cons_append, List.nil_append] at h
          refine net_Net_Send_ok (FL := cel b_5 30 [(Value.int .u32 3), (Value.int .i64 4)] :: cel b_4 30 [(Value.int .u32 1), (Value.int .i64 2)] :: row enc3 3 1 nos13p nos13c nos :: FL) (fun w h => (hF_q_3p6 _ (h.drop 3))) rfl hc_q_3p6 h hp ?_
          rintro r_6 r_7 list_7 last_7 m_7 p_12 n_17 c_12 w rfl h hp
          have cpp_12 := rowCap h 1 rfl
          refine ⟨_, _, rfl, ?_⟩
          replace h := h.sel [0, 0, 1, 1, 0, 0] 0
          dsimp only [pickL, pickR, nthH, delH, dropH, List.cons_append, List.nil_append] at h
          obtain ⟨n_18, hn, hp⟩ := hp
          exact ⟨n_18, hn, list_7, p_12, list_7.length, c_12, last_7, m_7, rfl, rfl, rfl, rfl, rfl, rfl, rfl, rfl, rfl, rfl, rfl, rfl, rfl, rfl, hp, h⟩
        clear hq
        refine cond_both hp (fun hp => ?_) (fun hp => ?_)
        · exact ⟨rfl, rfl, rfl, rfl, rfl, rfl, rfl, rfl, rfl, rfl, rfl, rfl, rfl, rfl, hp, h⟩
        exact ⟨rfl, rfl, rfl, rfl, rfl, rfl, rfl, rfl, rfl, rfl, rfl, rfl, rfl, rfl, hp, h⟩
      clear hq
      obtain ⟨I_1, ⟨n_13, h0⟩, hq⟩ := hp
      refine ⟨fun n_11 b0_4p b0_4l b0_4c script2_4p script2_4l script2_4c n7_3 own8_2p own8_2l own8_2c from9_3 to10_3 e12_3 nos13_3p nos13_3l nos13_3c i17 w => ∃ (own : List (Int)), p_1 = b0_4p ∧ b_1.length = b0_4l ∧ c_1 = b0_4c ∧ p_2 = script2_4p ∧ script.length = script2_4l ∧ c_2 = script2_4c ∧ (some (Addr.mk b_2 0 none)) = n7_3 ∧ p_4 = own8_2p ∧ (([] : List (Int)) ++ b_1).length = own8_2l ∧ c_4 = own8_2c ∧ (Addr.mk b_4 0 none) = from9_3 ∧ (Addr.mk b_5 0 none) = to10_3 ∧ r_3 = e12_3 ∧ nos13p = nos13_3p ∧ nos.length = nos13_3l ∧ nos13c = nos13_3c ∧ (([] : List (Int)) ++ b_1).length = own.length ∧ I_1 n_11 own i17 ∧ Mem (cel b_2 59 [(Value.slice p_6 list_2.length c_6), (Value.int .i64 last_2)] :: row enc39 39 6 p_6 c_6 list_2 :: cel b_5 30 [(Value.int .u32 3), (Value.int .i64 4)] :: cel b_4 30 [(Value.int .u32 1), (Value.int .i64 2)] :: poolP enc5 5 1 m_2 :: row enc5 5 1 p_4 c_4 own :: row enc3 3 1 nos13p nos13c nos :: FL) w, ⟨n_13, (([] : List (Int)) ++ b_1), rfl, rfl, rfl, rfl, rfl, rfl, rfl, rfl, rfl, rfl, rfl, rfl, rfl, rfl, rfl, rfl, rfl, h0, h⟩, ?_⟩
      clear h0 h
      rintro n_11 b0_4p b0_4l b0_4c script2_4p script2_4l script2_4c n7_3 own8_2p own8_2l own8_2c from9_3 to10_3 e12_3 nos13_3p nos13_3l nos13_3c i17 w ⟨own, rfl, rfl, rfl, rfl, rfl, rfl, rfl, rfl, rfl, rfl, rfl, rfl, rfl, rfl, rfl, rfl, hl_own, hp, h⟩
      replace hp := hq n_11 own i17 hp
      clear hq
      unfold embrasurelaw13_NetOnce_l12
      refine cond_both' hp (fun hp => ?_) (fun hp => ?_)
      · replace h := h.sel [0, 0, 0, 0, 0, 1] 1
        dsimp only [pickL, pickR, nthH, delH, dropH, List.cons_append, List.nil_append] at h
        exact ⟨rfl, rfl, rfl, rfl, rfl, rfl, rfl, rfl, rfl, rfl, rfl, rfl, rfl, hp, h⟩
      obtain ⟨ia_1, ja_1, hp⟩ := hp
      obtain ⟨a_1, ha_1⟩ := rdAddr (rowRd h 5 encL5 rfl) hl_own ia_1 ja_1
      refine ⟨a_1, ha_1, ia_1, ja_1, ?_⟩
      obtain ⟨x_1, hx_1, hc⟩ := rdCell0 (rowRd h 5 encL5 rfl) ha_1 hl_own ia_1 ja_1
      replace hp := hp x_1 hx_1
      refine ⟨_, hc _ rfl, ?_⟩
      obtain ⟨ia_2, ja_2, hp⟩ := hp
      obtain ⟨a_2, ha_2⟩ := rdAddr (rowRd h 5 encL5 rfl) hl_own ia_2 ja_2
      refine ⟨a_2, ha_2, ia_2, ja_2, ?_⟩
      refine rowSetW (ys := [(Value.int .u8 (IntKind.wrap .u8 (x_1 + 1)))]) (x := (IntKind.wrap .u8 (x_1 + 1))) h 5 encL5 rfl ha_2 hl_own ia_2 ja_2 sz5 rfl rfl rfl ?_
      intro w h
      dsimp only [setH, setVs, setV] at h
      obtain ⟨n_12, hn, hp⟩ := hp
      exact ⟨n_12, hn, (List.set own (Int.toNat i17) (IntKind.wrap .u8 (x_1 + 1))), rfl, rfl, rfl, rfl, rfl, rfl, rfl, rfl, rfl, rfl, rfl, rfl, rfl, rfl, rfl, rfl, (lenSet hl_own), hp, h⟩
    clear hq
    obtain ⟨I, ⟨n_10, h0⟩, hq⟩ := hp
    replace h := rowOfCel h 0 encL3 rfl [r_2] rfl
    dsimp only [setH, setVs, setV] at h
    replace h := h.sel [1, 1, 2, 2, 1, 1, 0] 0
    dsimp only [pickL, pickR, nthH, delH, dropH, List.cons_append, List.nil_append] at h
    refine ⟨fun n_7 b0_2p b0_2l b0_2c copies1_1 script2_2p script2_2l script2_2c n7_1 own8_1p own8_1l own8_1c from9_1 to10_1 no11 e12_1 nos13_1p nos13_1l nos13_1c i14 w => ∃ (list_3 : List (Int × Int × Int × Int × Int × (Option Addr × Nat × Nat))), ∃ (p_7 : Option Addr), ∃ (n_6 : Nat), ∃ (c_7 : Nat), ∃ (last_3 : Int), ∃ (nos_1 : List (Int)), ∃ (m_3 : List ((Option Addr × Nat × Nat) × List (Int))), p_1 = b0_2p ∧ b_1.length = b0_2l ∧ c_1 = b0_2c ∧ copies = copies1_1 ∧ p_2 = script2_2p ∧ script.length = script2_2l ∧ c_2 = script2_2c ∧ (some (Addr.mk b_2 0 none)) = n7_1 ∧ p_4 = own8_1p ∧ (([] : List (Int)) ++ b_1).length = own8_1l ∧ c_4 = own8_1c ∧ (Addr.mk b_4 0 none) = from9_1 ∧ (Addr.mk b_5 0 none) = to10_1 ∧ r_2 = no11 ∧ r_3 = e12_1 ∧ n_6 = list_3.length ∧ nos13_1l = nos_1.length ∧ I n_7 list_3 last_3 nos_1 i14 m_3 ∧ Mem (cel b_2 59 [(Value.slice p_7 n_6 c_7), (Value.int .i64 last_3)] :: row enc39 39 6 p_7 c_7 list_3 :: cel b_5 30 [(Value.int .u32 3), (Value.int .i64 4)] :: cel b_4 30 [(Value.int .u32 1), (Value.int .i64 2)] :: poolP enc5 5 1 m_3 :: row enc5 5 1 p_4 c_4 (([] : List (Int)) ++ b_1) :: row enc3 3 1 nos13_1p nos13_1c nos_1 :: FL) w, ⟨n_10, list_1, p_5, list_1.length, c_5, last_1, [r_2], m_1, rfl, rfl, rfl, rfl, rfl, rfl, rfl, rfl, rfl, rfl, rfl, rfl, rfl, rfl, rfl, rfl, rfl, h0, h⟩, ?_⟩
    clear h0 h
    rintro n_7 b0_2p b0_2l b0_2c copies1_1 script2_2p script2_2l script2_2c n7_1 own8_1p own8_1l own8_1c from9_1 to10_1 no11 e12_1 nos13_1p nos13_1l nos13_1c i14 w ⟨list_3, p_7, n_6, c_7, last_3, nos_1, m_3, rfl, rfl, rfl, rfl, rfl, rfl, rfl, rfl, rfl, rfl, rfl, rfl, rfl, rfl, rfl, rfl, rfl, hp, h⟩
    replace hp := hq n_7 list_3 last_3 nos_1 i14 m_3 hp
    clear hq
    unfold embrasurelaw13_NetOnce_l13
    have cpp_7 := rowCap h 1 rfl
    have cpnos13_1p := rowCap h 6 rfl
    refine ⟨by decide, ?_⟩
    refine cond_both' hp (fun hp => ?_) (fun hp => ?_)
    · exact ⟨list_3, p_7, list_3.length, c_7, last_3, nos_1, m_3, rfl, rfl, rfl, rfl, rfl, rfl, rfl, rfl, rfl, rfl, rfl, rfl, rfl, rfl, rfl, hp, h⟩
    replace h := h.pick [0, 0, 2]
    dsimp only [pickL, pickR, nthH, delH, dropH, List.cons_append, List.nil_append] at h
    refine net_Net_Copy_ok h hp ?_
    rintro r_4 r_5 list_4 last_4 m_4 p_8 n_8 c_8 w rfl h hp
    have cpp_8 := rowCap h 1 rfl
    refine ⟨_, _, rfl, ?_⟩
    refine ⟨_, rfl, ?_⟩
    refine ⟨_, rfl, ?_⟩
    refine cond_both hp (fun hp => ?_) (fun hp => ?_)
    · replace h := h.sel [] 7
      dsimp only [pickL, pickR, nthH, delH, dropH, List.cons_append, List.nil_append] at h
      exact hR false _ h hp
    refine newL (o := [(Value.int .i64 r_4)]) h ?_
    intro b_7 w h
    have sr_1 := (celRd h 0 encL3 rfl [r_4] rfl)
    obtain ⟨hb, hp⟩ := hp
    refine appendL slt34 und34 encL3 encO3 h 7 rfl rfl sr_1 rfl hb ?_
    intro p_9 c_9 w h
    dsimp only [setH, setVs, setV] at h
    have cpp_9 := rowCap h 7 rfl
    refine ⟨_, _, _, rfl, ?_⟩
    replace h := h.sel [1, 1, 2, 2, 1, 1, 1] 1
    dsimp only [pickL, pickR, nthH, delH, dropH, List.cons_append, List.nil_append] at h
    obtain ⟨n_9, hn, hp⟩ := hp
    exact ⟨n_9, hn, list_4, p_8, list_4.length, c_8, last_4, (nos_1 ++ [r_4]), m_4, rfl, rfl, rfl, rfl, rfl, rfl, rfl, rfl, rfl, rfl, rfl, rfl, rfl, rfl, rfl, rfl, rfl, hp, h⟩
  clear hq
  refine cond_both hp (fun hp => ?_) (fun hp => ?_)
  · exact ⟨rfl, rfl, rfl, rfl, rfl, rfl, rfl, hp, h⟩
  refine embrasurelaw13_small_ok (FL := poolP enc5 5 1 ([] : List ((Option Addr × Nat × Nat) × List (Int))) :: FL) (fun w h => RdD.mono (encRm37 (fun w h => h.drop 1)) (hF_script _ (h.drop 1))) rfl hc_script h hp ?_
  intro r_1 w h hp
  refine ⟨_, rfl, ?_⟩
  exact ⟨rfl, rfl, rfl, rfl, rfl, rfl, rfl, hp, h⟩

/-! embrasure/embrasurelaw13.NetPlaces (4) -/
def embrasurelaw13_NetPlaces_wp (n_1 : Int) (places : List (Int)) (K : Bool → Prop) : Prop :=
  embrasurelaw13_awake_wp (fun (r : Bool) => cond (!r) (K false) (net_New_wp (fun (list : List (Int × Int × Int × Int × Int × (Option Addr × Nat × Nat))) (last : Int) => joinP3 (fun (list_1 : List (Int × Int × Int × Int × Int × (Option Addr × Nat × Nat))) (last_1 : Int) (m_1 : List ((Option Addr × Nat × Nat) × List (Int))) => 0 ≤ ((IntKind.wrap .i64 ((Int.tmod (IntKind.wrap .i64 n_1) 60) + 1)) : Int) ∧ (IntKind.wrap .i64 ((Int.tmod (IntKind.wrap .i64 n_1) 60) + 1)) ≤ ((IntKind.wrap .i64 ((Int.tmod (IntKind.wrap .i64 n_1) 60) + 1)) : Int) ∧ ((IntKind.wrap .i64 ((Int.tmod (IntKind.wrap .i64 n_1) 60) + 1)) : Int) ≤ 140737488355328 ∧ ((1 : Nat) : Int) * (IntKind.wrap .i64 ((Int.tmod (IntKind.wrap .i64 n_1) 60) + 1)) ≤ 140737488355328 ∧ (joinP2 (fun (list_4 : List (Int × Int × Int × Int × Int × (Option Addr × Nat × Nat))) (m_4 : List ((Option Addr × Nat × Nat) × List (Int))) => net_Net_At_wp list_4 last_1 0 (fun (r_11 : Int) => K ((r_11 : Int) == 0))) (fun (Q_1 : List (Int × Int × Int × Int × Int × (Option Addr × Nat × Nat)) → List ((Option Addr × Nat × Nat) × List (Int)) → Prop) => ∃ (I_1 : Nat → List (Int × Int × Int × Int × Int × (Option Addr × Nat × Nat)) → List (Bool) → Int → List ((Option Addr × Nat × Nat) × List (Int)) → Prop), (∃ (n_15 : Nat), I_1 n_15 list_1 (List.replicate (Int.toNat (IntKind.wrap .i64 ((Int.tmod (IntKind.wrap .i64 n_1) 60) + 1))) false) 0 m_1) ∧ ∀ (n_12 : Nat) (list_5 : List (Int × Int × Int × Int × Int × (Option Addr × Nat × Nat))) (taken : List (Bool)) (i12 : Int) (m_5 : List ((Option Addr × Nat × Nat) × List (Int))), I_1 n_12 list_5 taken i12 m_5 → (cond (decide ((i12 : Int) < (Int.tmod (IntKind.wrap .i64 n_1) 60))) (joinP1 (fun (place13 : Int) => net_Net_At_wp list_5 last_1 place13 (fun (r_3 : Int) => net_Net_Take_wp list_5 last_1 r_3 m_5 (fun (r_4 : Int) (r_5 : Int) (r_6 : Int) (r_7 : Int) (r_8 : Int) (hd : Option Addr × Nat × Nat) (r_9 : Int) (list_6 : List (Int × Int × Int × Int × Int × (Option Addr × Nat × Nat))) (m_6 : List ((Option Addr × Nat × Nat) × List (Int))) => joinP1 (fun (t102 : Bool) => cond t102 (K false) (0 ≤ (r_3 : Int) ∧ (r_3 : Int) < (((Int.toNat (IntKind.wrap .i64 ((Int.tmod (IntKind.wrap .i64 n_1) 60) + 1))) : Nat) : Int) ∧ (∃ (n_14 : Nat), n_14 < n_12 ∧ I_1 n_14 list_6 (List.set taken (Int.toNat r_3) true) (IntKind.wrap .i64 (i12 + 1)) m_6))) (fun (Q_3 : Bool → Prop) => cond ((r_9 : Int) != 0) (Q_3 true) (cond (decide ((r_3 : Int) < 1)) (Q_3 true) (cond (decide ((r_3 : Int) > (Int.tmod (IntKind.wrap .i64 n_1) 60))) (Q_3 true) (0 ≤ (r_3 : Int) ∧ (r_3 : Int) < (((Int.toNat (IntKind.wrap .i64 ((Int.tmod (IntKind.wrap .i64 n_1) 60) + 1))) : Nat) : Int) ∧ (∀ (x_2 : Bool), taken[Int.toNat r_3]? = some x_2 → (cond x_2 (Q_3 true) (∃ (xs : List (Int)), PH m_6 hd xs ∧ (0 ≤ (0 : Int) ∧ (0 : Int) < ((hd.2.1 : Nat) : Int) ∧ (∀ (x_3 : Int), xs[Int.toNat 0]? = some x_3 → (cond (((IntKind.wrap .i64 x_3) : Int) != (IntKind.wrap .i64 (r_3 - 1))) (Q_3 true) (net_Net_Count_wp list_6 last_1 (fun (r_10 : Int) => Q_3 ((r_10 : Int) != (IntKind.wrap .i64 ((IntKind.wrap .i64 ((Int.tmod (IntKind.wrap .i64 n_1) 60) - 1)) - i12)))))))))))))))))) (fun (Q_2 : Int → Prop) => cond (decide ((i12 : Int) < ((places.length : Nat) : Int))) (0 ≤ (i12 : Int) ∧ (i12 : Int) < ((places.length : Nat) : Int) ∧ (∀ (x_1 : Int), places[Int.toNat i12]? = some x_1 → (Q_2 x_1))) (Q_2 i12))) (Q_1 list_5 m_5))))) (fun (Q : List (Int × Int × Int × Int × Int × (Option Addr × Nat × Nat)) → Int → List ((Option Addr × Nat × Nat) × List (Int)) → Prop) => ∃ (I : Nat → List (Int × Int × Int × Int × Int × (Option Addr × Nat × Nat)) → Int → Int → List ((Option Addr × Nat × Nat) × List (Int)) → Prop), (∃ (n_9 : Nat), I n_9 list last 0 ([] : List ((Option Addr × Nat × Nat) × List (Int)))) ∧ ∀ (n_6 : Nat) (list_2 : List (Int × Int × Int × Int × Int × (Option Addr × Nat × Nat))) (last_2 : Int) (i8 : Int) (m_2 : List ((Option Addr × Nat × Nat) × List (Int))), I n_6 list_2 last_2 i8 m_2 → (cond (decide ((i8 : Int) < (Int.tmod (IntKind.wrap .i64 n_1) 60))) (net_Net_Send_wp list_2 last_2 1 1 1 1 [(IntKind.wrap .u8 i8)] m_2 (fun (r_1 : Int) (r_2 : Int) (list_3 : List (Int × Int × Int × Int × Int × (Option Addr × Nat × Nat))) (last_3 : Int) (m_3 : List ((Option Addr × Nat × Nat) × List (Int))) => cond ((r_2 : Int) != 0) (K false) (∃ (n_8 : Nat), n_8 < n_6 ∧ I n_8 list_3 last_3 (IntKind.wrap .i64 (i8 + 1)) m_3))) (Q list_2 last_2 m_2))))))
theorem embrasurelaw13_NetPlaces_ok {p_1 : Option Addr} {n_2 : Nat} {c_1 : Nat} {n_1 : Int} {places : List (Int)} {FL : List HP} {w : World} {K : Bool → Prop} {R : Value → World → Prop}
  (hF_places : ∀ w, Mem FL w → Rd w 1 p_1 enc3 places) (hl_places : n_2 = places.length) (hc_places : n_2 ≤ c_1)
  (h : Mem (FL) w) (hp : embrasurelaw13_NetPlaces_wp n_1 places K)
  (hR : ∀ (r : Bool) (w : World), Mem (FL) w → K r → R (Value.bool r) w) :
  CallV Try.prog 4 #[(Value.int .u8 n_1), (Value.slice p_1 n_2 c_1)] w R := by
  refine embrasurelaw13_NetPlaces_call ?_
  unfold embrasurelaw13_NetPlaces
  unfold embrasurelaw13_NetPlaces_wp at hp
  subst hl_places
  replace h := poolNil enc5 5 1 h
  refine embrasurelaw13_awake_ok h hp ?_
  intro r w h hp
  refine ⟨_, rfl, ?_⟩
  refine cond_both hp (fun hp => ?_) (fun hp => ?_)
  · replace h := h.sel [] 1
    dsimp only [pickL, pickR, nthH, delH, dropH, List.cons_append, List.nil_append] at h
    exact hR false _ h hp
  refine ⟨by decide, ?_⟩
  refine net_New_ok h hp ?_
  rintro list last b_1 p_2 n_3 c_2 w rfl h hp
  have cpp_2 := rowCap h 1 rfl
  refine ⟨_, rfl, ?_⟩
  refine newL (o := [(Value.int .u32 0), (Value.int .i64 0)]) h ?_
  intro b_2 w h
  refine storeL (ys := [(Value.int .u32 1), (Value.int .i64 1)]) h 0 0 rfl rfl rfl sz30 rfl rfl ?_
  intro w h
  dsimp only [setH, setVs, setV] at h
  obtain ⟨Q, hq, hp⟩ := hp
  refine ⟨fun places1p places1l places1c k5 x6 w => ∃ (list_1 : List (Int × Int × Int × Int × Int × (Option Addr × Nat × Nat))), ∃ (p_3 : Option Addr), ∃ (n_4 : Nat), ∃ (c_3 : Nat), ∃ (last_1 : Int), ∃ (m_1 : List ((Option Addr × Nat × Nat) × List (Int))), p_1 = places1p ∧ places.length = places1l ∧ c_1 = places1c ∧ (Int.tmod (IntKind.wrap .i64 n_1) 60) = k5 ∧ (some (Addr.mk b_1 0 none)) = x6 ∧ n_4 = list_1.length ∧ Q list_1 last_1 m_1 ∧ Mem (cel b_2 30 [(Value.int .u32 1), (Value.int .i64 1)] :: cel b_1 59 [(Value.slice p_3 n_4 c_3), (Value.int .i64 last_1)] :: row enc39 39 6 p_3 c_3 list_1 :: poolP enc5 5 1 m_1 :: FL) w, ?_, ?_⟩
  · rintro places1p places1l places1c k5 x6 w ⟨list_1, p_3, n_4, c_3, last_1, m_1, rfl, rfl, rfl, rfl, rfl, rfl, hp, h⟩
    replace hp := hq list_1 last_1 m_1 hp
    unfold embrasurelaw13_NetPlaces_j1
    have cpp_3 := rowCap h 2 rfl
    obtain ⟨g_1a, g_1b, g_1d, g_1e, hp⟩ := hp
    refine ⟨g_1a, g_1b, g_1d, g_1e, ?_⟩
    have g_1c : 0 ≤ ((IntKind.wrap .i64 ((Int.tmod (IntKind.wrap .i64 n_1) 60) + 1)) : Int) := Int.le_trans g_1a g_1b
    refine makeL (x0 := false) (T := 4) h encL4 rfl (natLe2 g_1a g_1c g_1b) ?_
    intro b_4 w h
    obtain ⟨Q_1, hq, hp⟩ := hp
    refine ⟨fun x6_2 w => ∃ (list_4 : List (Int × Int × Int × Int × Int × (Option Addr × Nat × Nat))), ∃ (p_6 : Option Addr), ∃ (n_10 : Nat), ∃ (c_6 : Nat), ∃ (m_4 : List ((Option Addr × Nat × Nat) × List (Int))), (some (Addr.mk b_1 0 none)) = x6_2 ∧ n_10 = list_4.length ∧ Q_1 list_4 m_4 ∧ Mem (cel b_2 30 [(Value.int .u32 1), (Value.int .i64 1)] :: cel b_1 59 [(Value.slice p_6 n_10 c_6), (Value.int .i64 last_1)] :: row enc39 39 6 p_6 c_6 list_4 :: poolP enc5 5 1 m_4 :: FL) w, ?_, ?_⟩
    · rintro x6_2 w ⟨list_4, p_6, n_10, c_6, m_4, rfl, rfl, hp, h⟩
      replace hp := hq list_4 m_4 hp
      unfold embrasurelaw13_NetPlaces_j2
      have cpp_6 := rowCap h 2 rfl
      replace h := h.pick [1, 1]
      dsimp only [pickL, pickR, nthH, delH, dropH, List.cons_append, List.nil_append] at h
      refine net_Net_At_ok h hp ?_
      intro r_11 w h hp
      have cpp_6 := rowCap h 1 rfl
      refine ⟨_, rfl, ?_⟩
      replace h := h.sel [] 4
      dsimp only [pickL, pickR, nthH, delH, dropH, List.cons_append, List.nil_append] at h
      exact hR ((r_11 : Int) == 0) _ h hp
    clear hq
    obtain ⟨I_1, ⟨n_15, h0⟩, hq⟩ := hp
    replace h := h.sel [1, 1, 1, 1, 0] 0
    dsimp only [pickL, pickR, nthH, delH, dropH, List.cons_append, List.nil_append] at h
    refine ⟨fun n_12 places1_2p places1_2l places1_2c k5_2 x6_3 taken11p taken11l taken11c i12 w => ∃ (list_5 : List (Int × Int × Int × Int × Int × (Option Addr × Nat × Nat))), ∃ (p_7 : Option Addr), ∃ (n_11 : Nat), ∃ (c_7 : Nat), ∃ (taken : List (Bool)), ∃ (m_5 : List ((Option Addr × Nat × Nat) × List (Int))), p_1 = places1_2p ∧ places.length = places1_2l ∧ c_1 = places1_2c ∧ (Int.tmod (IntKind.wrap .i64 n_1) 60) = k5_2 ∧ (some (Addr.mk b_1 0 none)) = x6_3 ∧ (some ⟨b_4, 0, none⟩) = taken11p ∧ (Int.toNat (IntKind.wrap .i64 ((Int.tmod (IntKind.wrap .i64 n_1) 60) + 1))) = taken11l ∧ (Int.toNat (IntKind.wrap .i64 ((Int.tmod (IntKind.wrap .i64 n_1) 60) + 1))) = taken11c ∧ n_11 = list_5.length ∧ (Int.toNat (IntKind.wrap .i64 ((Int.tmod (IntKind.wrap .i64 n_1) 60) + 1))) = taken.length ∧ I_1 n_12 list_5 taken i12 m_5 ∧ Mem (cel b_2 30 [(Value.int .u32 1), (Value.int .i64 1)] :: cel b_1 59 [(Value.slice p_7 n_11 c_7), (Value.int .i64 last_1)] :: row enc39 39 6 p_7 c_7 list_5 :: poolP enc5 5 1 m_5 :: row enc4 4 1 (some ⟨b_4, 0, none⟩) (Int.toNat (IntKind.wrap .i64 ((Int.tmod (IntKind.wrap .i64 n_1) 60) + 1))) taken :: FL) w, ⟨n_15, list_1, p_3, list_1.length, c_3, (List.replicate (Int.toNat (IntKind.wrap .i64 ((Int.tmod (IntKind.wrap .i64 n_1) 60) + 1))) false), m_1, rfl, rfl, rfl, rfl, rfl, rfl, rfl, rfl, rfl, (List.length_replicate).symm, h0, h⟩, ?_⟩
    clear h0 h
    rintro n_12 places1_2p places1_2l places1_2c k5_2 x6_3 taken11p taken11l taken11c i12 w ⟨list_5, p_7, n_11, c_7, taken, m_5, rfl, rfl, rfl, rfl, rfl, rfl, rfl, rfl, rfl, hl_taken, hp, h⟩
    replace hp := hq n_12 list_5 taken i12 m_5 hp
    clear hq
    unfold embrasurelaw13_NetPlaces_l3
    have cpp_7 := rowCap h 2 rfl
    refine cond_both' hp (fun hp => ?_) (fun hp => ?_)
    · replace h := h.sel [0, 0, 0, 0] 1
      dsimp only [pickL, pickR, nthH, delH, dropH, List.cons_append, List.nil_append] at h
      exact ⟨list_5, p_7, list_5.length, c_7, m_5, rfl, rfl, hp, h⟩
    obtain ⟨Q_2, hq, hp⟩ := hp
    refine ⟨fun places1_3p places1_3l places1_3c k5_3 x6_4 taken11_1p taken11_1l taken11_1c i12_1 place13 w => p_1 = places1_3p ∧ places.length = places1_3l ∧ c_1 = places1_3c ∧ (Int.tmod (IntKind.wrap .i64 n_1) 60) = k5_3 ∧ (some (Addr.mk b_1 0 none)) = x6_4 ∧ (some ⟨b_4, 0, none⟩) = taken11_1p ∧ (Int.toNat (IntKind.wrap .i64 ((Int.tmod (IntKind.wrap .i64 n_1) 60) + 1))) = taken11_1l ∧ (Int.toNat (IntKind.wrap .i64 ((Int.tmod (IntKind.wrap .i64 n_1) 60) + 1))) = taken11_1c ∧ i12 = i12_1 ∧ Q_2 place13 ∧ Mem (cel b_2 30 [(Value.int .u32 1), (Value.int .i64 1)] :: cel b_1 59 [(Value.slice p_7 list_5.length c_7), (Value.int .i64 last_1)] :: row enc39 39 6 p_7 c_7 list_5 :: poolP enc5 5 1 m_5 :: row enc4 4 1 (some ⟨b_4, 0, none⟩) (Int.toNat (IntKind.wrap .i64 ((Int.tmod (IntKind.wrap .i64 n_1) 60) + 1))) taken :: FL) w, ?_, ?_⟩
    · rintro places1_3p places1_3l places1_3c k5_3 x6_4 taken11_1p taken11_1l taken11_1c i12_1 place13 w ⟨rfl, rfl, rfl, rfl, rfl, rfl, rfl, rfl, rfl, hp, h⟩
      replace hp := hq place13 hp
      unfold embrasurelaw13_NetPlaces_j4
      replace h := h.pick [1, 1]
      dsimp only [pickL, pickR, nthH, delH, dropH, List.cons_append, List.nil_append] at h
      refine net_Net_At_ok h hp ?_
      intro r_3 w h hp
      have cpp_7 := rowCap h 1 rfl
      refine ⟨_, rfl, ?_⟩
      replace h := h.pick [0, 0, 1]
      dsimp only [pickL, pickR, nthH, delH, dropH, List.cons_append, List.nil_append] at h
      refine net_Net_Take_ok h hp ?_
      rintro r_4 r_5 r_6 r_7 r_8 hd r_9 list_6 m_6 p_8 n_13 c_8 w rfl h hp
      have cpp_8 := rowCap h 1 rfl
      refine ⟨_, _, _, _, _, _, _, _, _, rfl, ?_⟩
      refine ⟨_, _, _, _, _, _, _, _, rfl, ?_⟩
      refine ⟨_, rfl, ?_⟩
      refine newL (o := [(Value.int .i64 0), (Value.int .u32 0), (Value.int .i64 0), (Value.int .u32 0), (Value.int .i64 0), (Value.slice none 0 0)]) h ?_
      intro b_5 w h
      refine storeL (ys := [(Value.int .i64 r_4), (Value.int .u32 r_5), (Value.int .i64 r_6), (Value.int .u32 r_7), (Value.int .i64 r_8), (Value.slice hd.1 hd.2.1 hd.2.2)]) h 0 0 rfl rfl rfl sz39 rfl rfl ?_
      intro w h
      dsimp only [setH, setVs, setV] at h
      obtain ⟨Q_3, hq, hp⟩ := hp
      refine ⟨fun places1_4p places1_4l places1_4c k5_4 x6_5 taken11_2p taken11_2l taken11_2c i12_2 no14 t102 w => p_1 = places1_4p ∧ places.length = places1_4l ∧ c_1 = places1_4c ∧ (Int.tmod (IntKind.wrap .i64 n_1) 60) = k5_4 ∧ (some (Addr.mk b_1 0 none)) = x6_5 ∧ (some ⟨b_4, 0, none⟩) = taken11_2p ∧ (Int.toNat (IntKind.wrap .i64 ((Int.tmod (IntKind.wrap .i64 n_1) 60) + 1))) = taken11_2l ∧ (Int.toNat (IntKind.wrap .i64 ((Int.tmod (IntKind.wrap .i64 n_1) 60) + 1))) = taken11_2c ∧ i12 = i12_2 ∧ r_3 = no14 ∧ Q_3 t102 ∧ Mem (cel b_5 39 [(Value.int .i64 r_4), (Value.int .u32 r_5), (Value.int .i64 r_6), (Value.int .u32 r_7), (Value.int .i64 r_8), (Value.slice hd.1 hd.2.1 hd.2.2)] :: cel b_1 59 [(Value.slice p_8 list_6.length c_8), (Value.int .i64 last_1)] :: row enc39 39 6 p_8 c_8 list_6 :: cel b_2 30 [(Value.int .u32 1), (Value.int .i64 1)] :: poolP enc5 5 1 m_6 :: row enc4 4 1 (some ⟨b_4, 0, none⟩) (Int.toNat (IntKind.wrap .i64 ((Int.tmod (IntKind.wrap .i64 n_1) 60) + 1))) taken :: FL) w, ?_, ?_⟩
      · rintro places1_4p places1_4l places1_4c k5_4 x6_5 taken11_2p taken11_2l taken11_2c i12_2 no14 t102 w ⟨rfl, rfl, rfl, rfl, rfl, rfl, rfl, rfl, rfl, rfl, hp, h⟩
        replace hp := hq t102 hp
        unfold embrasurelaw13_NetPlaces_j5
        refine cond_both hp (fun hp => ?_) (fun hp => ?_)
        · replace h := h.sel [] 6
          dsimp only [pickL, pickR, nthH, delH, dropH, List.cons_append, List.nil_append] at h
          exact hR false _ h hp
        obtain ⟨ia_4, ja_4, hp⟩ := hp
        obtain ⟨a_4, ha_4⟩ := rdAddr (rowRd h 5 encL4 rfl) hl_taken ia_4 ja_4
        refine ⟨a_4, ha_4, ia_4, ja_4, ?_⟩
        refine rowSetW (ys := [(Value.bool true)]) (x := true) h 5 encL4 rfl ha_4 hl_taken ia_4 ja_4 sz4 rfl rfl rfl ?_
        intro w h
        dsimp only [setH, setVs, setV] at h
        replace h := h.sel [3, 1, 1, 1, 1] 1
        dsimp only [pickL, pickR, nthH, delH, dropH, List.cons_append, List.nil_append] at h
        obtain ⟨n_14, hn, hp⟩ := hp
        exact ⟨n_14, hn, list_6, p_8, list_6.length, c_8, (List.set taken (Int.toNat r_3) true), m_6, rfl, rfl, rfl, rfl, rfl, rfl, rfl, rfl, rfl, (lenSet hl_taken), hp, h⟩
      clear hq
      refine cond_both hp (fun hp => ?_) (fun hp => ?_)
      · replace h := h.sel [0, 0, 0, 1, 0, 0] 0
        dsimp only [pickL, pickR, nthH, delH, dropH, List.cons_append, List.nil_append] at h
        exact ⟨rfl, rfl, rfl, rfl, rfl, rfl, rfl, rfl, rfl, rfl, hp, h⟩
      refine cond_both hp (fun hp => ?_) (fun hp => ?_)
      · replace h := h.sel [0, 0, 0, 1, 0, 0] 0
        dsimp only [pickL, pickR, nthH, delH, dropH, List.cons_append, List.nil_append] at h
        exact ⟨rfl, rfl, rfl, rfl, rfl, rfl, rfl, rfl, rfl, rfl, hp, h⟩
      refine cond_both hp (fun hp => ?_) (fun hp => ?_)
      · replace h := h.sel [0, 0, 0, 1, 0, 0] 0
        dsimp only [pickL, pickR, nthH, delH, dropH, List.cons_append, List.nil_append] at h
        exact ⟨rfl, rfl, rfl, rfl, rfl, rfl, rfl, rfl, rfl, rfl, hp, h⟩
      obtain ⟨ia_2, ja_2, hp⟩ := hp
      obtain ⟨a_2, ha_2⟩ := rdAddr (rowRd h 5 encL4 rfl) hl_taken ia_2 ja_2
      refine ⟨a_2, ha_2, ia_2, ja_2, ?_⟩
      obtain ⟨x_2, hx_2, hc⟩ := rdCell0 (rowRd h 5 encL4 rfl) ha_2 hl_taken ia_2 ja_2
      replace hp := hp x_2 hx_2
      refine ⟨_, hc _ rfl, ?_⟩
      refine cond_both hp (fun hp => ?_) (fun hp => ?_)
      · replace h := h.sel [0, 0, 0, 1, 0, 0] 0
        dsimp only [pickL, pickR, nthH, delH, dropH, List.cons_append, List.nil_append] at h
        exact ⟨rfl, rfl, rfl, rfl, rfl, rfl, rfl, rfl, rfl, rfl, hp, h⟩
      refine ⟨_, _, _, cellL h 0 5 rfl rfl rfl, ?_⟩
      obtain ⟨xs, hq_xs, hp⟩ := hp
      have hl_xs := poolLen h 3 rfl hq_xs
      have hc_xs := poolCap h 3 rfl hq_xs
      obtain ⟨ia_3, ja_3, hp⟩ := hp
      obtain ⟨a_3, ha_3⟩ := rdAddr (poolRd h 3 encL5 rfl hq_xs) hl_xs ia_3 ja_3
      refine ⟨a_3, ha_3, ia_3, ja_3, ?_⟩
      obtain ⟨x_3, hx_3, hc⟩ := rdCell0 (poolRd h 3 encL5 rfl hq_xs) ha_3 hl_xs ia_3 ja_3
      replace hp := hp x_3 hx_3
      refine ⟨_, hc _ rfl, ?_⟩
      refine cond_both hp (fun hp => ?_) (fun hp => ?_)
      · replace h := h.sel [0, 0, 0, 1, 0, 0] 0
        dsimp only [pickL, pickR, nthH, delH, dropH, List.cons_append, List.nil_append] at h
        exact ⟨rfl, rfl, rfl, rfl, rfl, rfl, rfl, rfl, rfl, rfl, hp, h⟩
      replace h := h.pick [1, 1]
      dsimp only [pickL, pickR, nthH, delH, dropH, List.cons_append, List.nil_append] at h
      refine net_Net_Count_ok h hp ?_
      intro r_10 w h hp
      have cpp_8 := rowCap h 1 rfl
      refine ⟨_, rfl, ?_⟩
      replace h := h.sel [2, 0, 0, 1, 0, 0] 0
      dsimp only [pickL, pickR, nthH, delH, dropH, List.cons_append, List.nil_append] at h
      exact ⟨rfl, rfl, rfl, rfl, rfl, rfl, rfl, rfl, rfl, rfl, hp, h⟩
    clear hq
    refine cond_both' hp (fun hp => ?_) (fun hp => ?_)
    · exact ⟨rfl, rfl, rfl, rfl, rfl, rfl, rfl, rfl, rfl, hp, h⟩
    obtain ⟨ia_1, ja_1, hp⟩ := hp
    obtain ⟨a_1, ha_1⟩ := rdAddr (hF_places _ (h.drop 5)) rfl ia_1 ja_1
    refine ⟨a_1, ha_1, ia_1, ja_1, ?_⟩
    obtain ⟨x_1, hx_1, hc⟩ := rdCell0 (hF_places _ (h.drop 5)) ha_1 rfl ia_1 ja_1
    replace hp := hp x_1 hx_1
    refine ⟨_, hc _ rfl, ?_⟩
    exact ⟨rfl, rfl, rfl, rfl, rfl, rfl, rfl, rfl, rfl, hp, h⟩
  clear hq
  obtain ⟨I, ⟨n_9, h0⟩, hq⟩ := hp
  refine ⟨fun n_6 places1_1p places1_1l places1_1c k5_1 x6_1 a7 i8 w => ∃ (list_2 : List (Int × Int × Int × Int × Int × (Option Addr × Nat × Nat))), ∃ (p_4 : Option Addr), ∃ (n_5 : Nat), ∃ (c_4 : Nat), ∃ (last_2 : Int), ∃ (m_2 : List ((Option Addr × Nat × Nat) × List (Int))), p_1 = places1_1p ∧ places.length = places1_1l ∧ c_1 = places1_1c ∧ (Int.tmod (IntKind.wrap .i64 n_1) 60) = k5_1 ∧ (some (Addr.mk b_1 0 none)) = x6_1 ∧ (Addr.mk b_2 0 none) = a7 ∧ n_5 = list_2.length ∧ I n_6 list_2 last_2 i8 m_2 ∧ Mem (cel b_2 30 [(Value.int .u32 1), (Value.int .i64 1)] :: cel b_1 59 [(Value.slice p_4 n_5 c_4), (Value.int .i64 last_2)] :: row enc39 39 6 p_4 c_4 list_2 :: poolP enc5 5 1 m_2 :: FL) w, ⟨n_9, list, p_2, list.length, c_2, last, ([] : List ((Option Addr × Nat × Nat) × List (Int))), rfl, rfl, rfl, rfl, rfl, rfl, rfl, h0, h⟩, ?_⟩
  clear h0 h
  rintro n_6 places1_1p places1_1l places1_1c k5_1 x6_1 a7 i8 w ⟨list_2, p_4, n_5, c_4, last_2, m_2, rfl, rfl, rfl, rfl, rfl, rfl, rfl, hp, h⟩
  replace hp := hq n_6 list_2 last_2 i8 m_2 hp
  clear hq
  unfold embrasurelaw13_NetPlaces_l6
  have cpp_4 := rowCap h 2 rfl
  refine cond_both' hp (fun hp => ?_) (fun hp => ?_)
  · exact ⟨list_2, p_4, list_2.length, c_4, last_2, m_2, rfl, rfl, rfl, rfl, rfl, rfl, hp, h⟩
  refine ⟨_, cellL h 0 0 rfl rfl rfl, _, cellL h 0 1 rfl rfl rfl, ?_⟩
  refine ⟨_, cellL h 0 0 rfl rfl rfl, _, cellL h 0 1 rfl rfl rfl, ?_⟩
  refine newL (o := [(Value.int .u8 (IntKind.wrap .u8 i8))]) h ?_
  intro b_3 w h
  replace h := h.pick [2, 2, 2]
  dsimp only [pickL, pickR, nthH, delH, dropH, List.cons_append, List.nil_append] at h
  refine net_Net_Send_ok (FL := cel b_3 5 [(Value.int .u8 (IntKind.wrap .u8 i8))] :: cel b_2 30 [(Value.int .u32 1), (Value.int .i64 1)] :: FL) (fun w h => (celRd h 0 encL5 rfl [(IntKind.wrap .u8 i8)] rfl)) rfl (Nat.le_refl _) h hp ?_
  rintro r_1 r_2 list_3 last_3 m_3 p_5 n_7 c_5 w rfl h hp
  have cpp_5 := rowCap h 1 rfl
  refine ⟨_, _, rfl, ?_⟩
  refine ⟨_, rfl, ?_⟩
  refine ⟨_, rfl, ?_⟩
  refine cond_both hp (fun hp => ?_) (fun hp => ?_)
  · replace h := h.sel [] 5
    dsimp only [pickL, pickR, nthH, delH, dropH, List.cons_append, List.nil_append] at h
    exact hR false _ h hp
  replace h := h.sel [4, 0, 0, 0] 1
  dsimp only [pickL, pickR, nthH, delH, dropH, List.cons_append, List.nil_append] at h
  obtain ⟨n_8, hn, hp⟩ := hp
  exact ⟨n_8, hn, list_3, p_5, list_3.length, c_5, last_3, m_3, rfl, rfl, rfl, rfl, rfl, rfl, rfl, hp, h⟩

/-! embrasure/embrasureref03.May (26) -/
def embrasureref03_May_wp (a_Host : Int) (a_Port : Int) (K : Bool → Prop) : Prop :=
  cond (decide ((a_Host : Int) > 0)) (cond (decide ((a_Port : Int) > 0)) (K (decide ((a_Port : Int) < 65536))) (K false)) (K false)
theorem embrasureref03_May_ok {a_Host : Int} {a_Port : Int} {FL : List HP} {w : World} {K : Bool → Prop} {R : Value → World → Prop}
  (h : Mem (FL) w) (hp : embrasureref03_May_wp a_Host a_Port K)
  (hR : ∀ (r : Bool) (w : World), Mem (FL) w → K r → R (Value.bool r) w) :
  CallV Try.prog 26 #[(Value.agg #[(Value.int .u32 a_Host), (Value.int .i64 a_Port)])] w R := by
  refine embrasureref03_May_call ?_
  unfold embrasureref03_May
  unfold embrasureref03_May_wp at hp
  refine newL (o := [(Value.int .u32 a_Host), (Value.int .i64 a_Port)]) h ?_
  intro b_1 w h
  refine ⟨_, cellL h 0 0 rfl rfl rfl, ?_⟩
  refine cond_both' hp (fun hp => ?_) (fun hp => ?_)
  · replace h := h.sel [] 1
    dsimp only [pickL, pickR, nthH, delH, dropH, List.cons_append, List.nil_append] at h
    exact hR false _ h hp
  refine ⟨_, cellL h 0 1 rfl rfl rfl, ?_⟩
  refine cond_both' hp (fun hp => ?_) (fun hp => ?_)
  · replace h := h.sel [] 1
    dsimp only [pickL, pickR, nthH, delH, dropH, List.cons_append, List.nil_append] at h
    exact hR false _ h hp
  refine ⟨_, cellL h 0 1 rfl rfl rfl, ?_⟩
  replace h := h.sel [] 1
  dsimp only [pickL, pickR, nthH, delH, dropH, List.cons_append, List.nil_append] at h
  exact hR (decide ((a_Port : Int) < 65536)) _ h hp

/-! (*embrasure/embrasureref13.Net).put (27) -/
def embrasureref13_Net_put_wp (L : List (Int × Int × Int × Int × Int × (Option Addr × Nat × Nat))) (Last : Int) (s_No : Int) (s_From : Int) (s_From_1 : Int) (s_To : Int) (s_To_1 : Int) (s_Bytes : List (Int)) (m_1 : List ((Option Addr × Nat × Nat) × List (Int))) (K : Int → Int → List (Int × Int × Int × Int × Int × (Option Addr × Nat × Nat)) → Int → List ((Option Addr × Nat × Nat) × List (Int)) → Prop) : Prop :=
  cond (decide ((((L.length : Nat) : Int) : Int) ≥ 300)) (K 0 10 L Last m_1) ((([] : List (Int)).length + s_Bytes.length) * 1 ≤ 140737488355328 ∧ (∀ (hd : Option Addr × Nat × Nat), hd.2.1 = (([] : List (Int)) ++ s_Bytes).length → ((L.length + [((IntKind.wrap .i64 (Last + 1)), s_From, s_From_1, s_To, s_To_1, hd)].length) * 64 ≤ 140737488355328 ∧ (K (IntKind.wrap .i64 (Last + 1)) 0 (L ++ [((IntKind.wrap .i64 (Last + 1)), s_From, s_From_1, s_To, s_To_1, hd)]) (IntKind.wrap .i64 (Last + 1)) (m_1 ++ [(hd, (([] : List (Int)) ++ s_Bytes))])))))
theorem embrasureref13_Net_put_ok {b_1 : Nat} {p_1 : Option Addr} {c_1 : Nat} {p_2 : Option Addr} {n_1 : Nat} {c_2 : Nat} {L : List (Int × Int × Int × Int × Int × (Option Addr × Nat × Nat))} {Last : Int} {s_No : Int} {s_From : Int} {s_From_1 : Int} {s_To : Int} {s_To_1 : Int} {s_Bytes : List (Int)} {m_1 : List ((Option Addr × Nat × Nat) × List (Int))} {FL : List HP} {w : World} {K : Int → Int → List (Int × Int × Int × Int × Int × (Option Addr × Nat × Nat)) → Int → List ((Option Addr × Nat × Nat) × List (Int)) → Prop} {R : Value → World → Prop}
  (hF_s_Bytes : ∀ w, Mem (poolP enc5 5 1 m_1 :: FL) w → Rd w 1 p_2 enc5 s_Bytes) (hl_s_Bytes : n_1 = s_Bytes.length) (hc_s_Bytes : n_1 ≤ c_2)
  (h : Mem (cel b_1 50 [(Value.slice p_1 L.length c_1), (Value.int .i64 Last)] :: row enc39 39 6 p_1 c_1 L :: poolP enc5 5 1 m_1 :: FL) w) (hp : embrasureref13_Net_put_wp L Last s_No s_From s_From_1 s_To s_To_1 s_Bytes m_1 K)
  (hR : ∀ (r : Int) (r_1 : Int) (L_1 : List (Int × Int × Int × Int × Int × (Option Addr × Nat × Nat))) (Last_1 : Int) (m_2 : List ((Option Addr × Nat × Nat) × List (Int))) (p_3 : Option Addr) (n_2 : Nat) (c_3 : Nat) (w : World), n_2 = L_1.length → Mem (cel b_1 50 [(Value.slice p_3 n_2 c_3), (Value.int .i64 Last_1)] :: row enc39 39 6 p_3 c_3 L_1 :: poolP enc5 5 1 m_2 :: FL) w → K r r_1 L_1 Last_1 m_2 → R (Value.tuple #[(Value.int .i64 r), (Value.int .i64 r_1)]) w) :
  CallV Try.prog 27 #[(Value.pointer (some (Addr.mk b_1 0 none))), (Value.agg #[(Value.int .i64 s_No), (Value.int .u32 s_From), (Value.int .i64 s_From_1), (Value.int .u32 s_To), (Value.int .i64 s_To_1), (Value.slice p_2 n_1 c_2)])] w R := by
  refine embrasureref13_Net_put_call ?_
  unfold embrasureref13_Net_put
  unfold embrasureref13_Net_put_wp at hp
  subst hl_s_Bytes
  have cpp_1 := rowCap h 1 rfl
  refine newL (o := [(Value.int .i64 s_No), (Value.int .u32 s_From), (Value.int .i64 s_From_1), (Value.int .u32 s_To), (Value.int .i64 s_To_1), (Value.slice p_2 s_Bytes.length c_2)]) h ?_
  intro b_2 w h
  refine ⟨_, rfl, ?_⟩
  refine ⟨_, _, _, cellL h 1 0 rfl rfl rfl, ?_⟩
  refine cond_both hp (fun hp => ?_) (fun hp => ?_)
  · replace h := h.sel [1, 1, 1] 1
    dsimp only [pickL, pickR, nthH, delH, dropH, List.cons_append, List.nil_append] at h
    exact hR 0 10 L Last m_1 p_1 L.length c_1 _ rfl h hp
  refine ⟨_, rfl, ?_⟩
  refine ⟨_, cellL h 1 1 rfl rfl rfl, ?_⟩
  refine ⟨_, rfl, ?_⟩
  refine storeL (ys := [(Value.int .i64 (IntKind.wrap .i64 (Last + 1)))]) h 1 1 rfl rfl rfl sz3 rfl rfl ?_
  intro w h
  dsimp only [setH, setVs, setV] at h
  refine ⟨_, rfl, ?_⟩
  refine ⟨_, cellL h 1 1 rfl rfl rfl, ?_⟩
  refine storeL (ys := [(Value.int .i64 (IntKind.wrap .i64 (Last + 1)))]) h 0 0 rfl rfl rfl sz3 rfl rfl ?_
  intro w h
  dsimp only [setH, setVs, setV] at h
  refine newL (o := []) h ?_
  intro b_3 w h
  refine ⟨_, _, _, cellL h 1 5 rfl rfl rfl, ?_⟩
  have sr := (hF_s_Bytes _ (h.sel [4] 4))
  replace h := rowOfCel h 0 encL5 rfl ([] : List (Int)) rfl
  dsimp only [setH, setVs, setV] at h
  obtain ⟨hb, hp⟩ := hp
  refine appendL slt22 und22 encL5 encO5 h 0 rfl rfl sr rfl hb ?_
  intro p_4 c_4 w h
  dsimp only [setH, setVs, setV] at h
  have cpp_4 := rowCap h 0 rfl
  refine ⟨_, _, _, rfl, ?_⟩
  refine storeL (ys := [(Value.slice p_4 (([] : List (Int)) ++ s_Bytes).length c_4)]) h 1 5 rfl rfl rfl sz22 rfl rfl ?_
  intro w h
  dsimp only [setH, setVs, setV] at h
  replace h := h.drew
  refine ⟨fun w => Mem (cel b_1 50 [(Value.slice p_1 L.length c_1), (Value.int .i64 (IntKind.wrap .i64 (Last + 1)))] :: FL) w, (h.sel [2] 4), ?_⟩
  refine ⟨_, rfl, ?_⟩
  refine ⟨_, _, _, cellL h 2 0 rfl rfl rfl, ?_⟩
  refine ⟨?_, ?_⟩
  · intro w h
    change Mem _ _ at h
    refine ⟨_, _, _, cellL h 0 0 rfl rfl rfl, ?_⟩
    exact ⟨rfl, rfl⟩
  refine ⟨_, cellL h 1 0 rfl rfl rfl, _, cellL h 1 1 rfl rfl rfl, _, cellL h 1 2 rfl rfl rfl, _, cellL h 1 3 rfl rfl rfl, _, cellL h 1 4 rfl rfl rfl, _, _, _, cellL h 1 5 rfl rfl rfl, ?_⟩
  replace h := h.pick [0, 3]
  dsimp only [pickL, pickR, nthH, delH, dropH, List.cons_append, List.nil_append] at h
  let hd : Hd := (p_4, (([] : List (Int)) ++ s_Bytes).length, c_4)
  replace hp := hp hd rfl
  replace h : Mem (poolP enc5 5 1 (m_1 ++ [(hd, (([] : List (Int)) ++ s_Bytes))]) :: cel b_2 39 [(Value.int .i64 (IntKind.wrap .i64 (Last + 1))), (Value.int .u32 s_From), (Value.int .i64 s_From_1), (Value.int .u32 s_To), (Value.int .i64 s_To_1), (Value.slice hd.1 hd.2.1 hd.2.2)] :: cel b_1 50 [(Value.slice p_1 L.length c_1), (Value.int .i64 (IntKind.wrap .i64 (Last + 1)))] :: row enc39 39 6 p_1 c_1 L :: FL) _ := poolPush h
  refine newL (o := [(Value.int .i64 (IntKind.wrap .i64 (Last + 1))), (Value.int .u32 s_From), (Value.int .i64 s_From_1), (Value.int .u32 s_To), (Value.int .i64 s_To_1), (Value.slice hd.1 hd.2.1 hd.2.2)]) h ?_
  intro b_4 w h
  refine ⟨(h.sel [3] 4), ?_⟩
  have sr_1 := (celRd h 0 encL39 rfl [((IntKind.wrap .i64 (Last + 1)), s_From, s_From_1, s_To, s_To_1, hd)] rfl)
  obtain ⟨hb, hp⟩ := hp
  refine appendL slt48 und48 encL39 encO39 h 4 rfl rfl sr_1 rfl hb ?_
  intro p_5 c_5 w h
  dsimp only [setH, setVs, setV] at h
  have cpp_5 := rowCap h 4 rfl
  refine ⟨_, _, _, rfl, ?_⟩
  refine ⟨_, rfl, ?_⟩
  refine storeL (ys := [(Value.slice p_5 (L ++ [((IntKind.wrap .i64 (Last + 1)), s_From, s_From_1, s_To, s_To_1, hd)]).length c_5)]) h 3 0 rfl rfl rfl sz48 rfl rfl ?_
  intro w h
  dsimp only [setH, setVs, setV] at h
  refine ⟨_, rfl, ?_⟩
  refine ⟨_, cellL h 3 1 rfl rfl rfl, ?_⟩
  replace h := h.sel [3, 3, 1] 2
  dsimp only [pickL, pickR, nthH, delH, dropH, List.cons_append, List.nil_append] at h
  exact hR (IntKind.wrap .i64 (Last + 1)) 0 (L ++ [((IntKind.wrap .i64 (Last + 1)), s_From, s_From_1, s_To, s_To_1, hd)]) (IntKind.wrap .i64 (Last + 1)) (m_1 ++ [(hd, (([] : List (Int)) ++ s_Bytes))]) p_5 ((L ++ [((IntKind.wrap .i64 (Last + 1)), s_From, s_From_1, s_To, s_To_1, hd)]).length) c_5 _ rfl h hp

/-! (*embrasure/embrasureref13.Net).Send (15) -/
def embrasureref13_Net_Send_wp (L : List (Int × Int × Int × Int × Int × (Option Addr × Nat × Nat))) (Last : Int) (from_Host : Int) (from_Port : Int) (to_Host : Int) (to_Port : Int) (b_2 : List (Int)) (m_1 : List ((Option Addr × Nat × Nat) × List (Int))) (K : Int → Int → List (Int × Int × Int × Int × Int × (Option Addr × Nat × Nat)) → Int → List ((Option Addr × Nat × Nat) × List (Int)) → Prop) : Prop :=
  joinP1 (fun (t22 : Bool) => cond t22 (K 0 1 L Last m_1) (embrasureref13_Net_put_wp L Last 0 from_Host from_Port to_Host to_Port b_2 m_1 (fun (r_2 : Int) (r_3 : Int) (L_2 : List (Int × Int × Int × Int × Int × (Option Addr × Nat × Nat))) (Last_2 : Int) (m_3 : List ((Option Addr × Nat × Nat) × List (Int))) => K r_2 r_3 L_2 Last_2 m_3))) (fun (Q : Bool → Prop) => embrasureref03_May_wp from_Host from_Port (fun (r : Bool) => cond (!r) (Q true) (embrasureref03_May_wp to_Host to_Port (fun (r_1 : Bool) => cond (!r_1) (Q true) (Q (decide ((((b_2.length : Nat) : Int) : Int) > 1200)))))))
theorem embrasureref13_Net_Send_ok {b_1 : Nat} {p_1 : Option Addr} {c_1 : Nat} {p_2 : Option Addr} {n_1 : Nat} {c_2 : Nat} {L : List (Int × Int × Int × Int × Int × (Option Addr × Nat × Nat))} {Last : Int} {from_Host : Int} {from_Port : Int} {to_Host : Int} {to_Port : Int} {b_2 : List (Int)} {m_1 : List ((Option Addr × Nat × Nat) × List (Int))} {FL : List HP} {w : World} {K : Int → Int → List (Int × Int × Int × Int × Int × (Option Addr × Nat × Nat)) → Int → List ((Option Addr × Nat × Nat) × List (Int)) → Prop} {R : Value → World → Prop}
  (hF_b_2 : ∀ w, Mem FL w → Rd w 1 p_2 enc5 b_2) (hl_b_2 : n_1 = b_2.length) (hc_b_2 : n_1 ≤ c_2)
  (h : Mem (cel b_1 50 [(Value.slice p_1 L.length c_1), (Value.int .i64 Last)] :: row enc39 39 6 p_1 c_1 L :: poolP enc5 5 1 m_1 :: FL) w) (hp : embrasureref13_Net_Send_wp L Last from_Host from_Port to_Host to_Port b_2 m_1 K)
  (hR : ∀ (r : Int) (r_1 : Int) (L_1 : List (Int × Int × Int × Int × Int × (Option Addr × Nat × Nat))) (Last_1 : Int) (m_2 : List ((Option Addr × Nat × Nat) × List (Int))) (p_3 : Option Addr) (n_2 : Nat) (c_3 : Nat) (w : World), n_2 = L_1.length → Mem (cel b_1 50 [(Value.slice p_3 n_2 c_3), (Value.int .i64 Last_1)] :: row enc39 39 6 p_3 c_3 L_1 :: poolP enc5 5 1 m_2 :: FL) w → K r r_1 L_1 Last_1 m_2 → R (Value.tuple #[(Value.int .i64 r), (Value.int .i64 r_1)]) w) :
  CallV Try.prog 15 #[(Value.pointer (some (Addr.mk b_1 0 none))), (Value.agg #[(Value.int .u32 from_Host), (Value.int .i64 from_Port)]), (Value.agg #[(Value.int .u32 to_Host), (Value.int .i64 to_Port)]), (Value.slice p_2 n_1 c_2)] w R := by
  refine embrasureref13_Net_Send_call ?_
  unfold embrasureref13_Net_Send
  unfold embrasureref13_Net_Send_wp at hp
  subst hl_b_2
  have cpp_1 := rowCap h 1 rfl
  refine newL (o := [(Value.int .u32 from_Host), (Value.int .i64 from_Port)]) h ?_
  intro b_3 w h
  refine newL (o := [(Value.int .u32 to_Host), (Value.int .i64 to_Port)]) h ?_
  intro b_4 w h
  obtain ⟨Q, hq, hp⟩ := hp
  refine ⟨fun n0 b3p b3l b3c from5 to6 t22 w => (some (Addr.mk b_1 0 none)) = n0 ∧ p_2 = b3p ∧ b_2.length = b3l ∧ c_2 = b3c ∧ (Addr.mk b_3 0 none) = from5 ∧ (Addr.mk b_4 0 none) = to6 ∧ Q t22 ∧ Mem (cel b_4 30 [(Value.int .u32 to_Host), (Value.int .i64 to_Port)] :: cel b_3 30 [(Value.int .u32 from_Host), (Value.int .i64 from_Port)] :: cel b_1 50 [(Value.slice p_1 L.length c_1), (Value.int .i64 Last)] :: row enc39 39 6 p_1 c_1 L :: poolP enc5 5 1 m_1 :: FL) w, ?_, ?_⟩
  · rintro n0 b3p b3l b3c from5 to6 t22 w ⟨rfl, rfl, rfl, rfl, rfl, rfl, hp, h⟩
    replace hp := hq t22 hp
    unfold embrasureref13_Net_Send_j1
    refine cond_both hp (fun hp => ?_) (fun hp => ?_)
    · replace h := h.sel [2, 2, 2] 2
      dsimp only [pickL, pickR, nthH, delH, dropH, List.cons_append, List.nil_append] at h
      exact hR 0 1 L Last m_1 p_1 L.length c_1 _ rfl h hp
    refine ⟨_, cellL h 1 0 rfl rfl rfl, _, cellL h 1 1 rfl rfl rfl, ?_⟩
    refine ⟨_, cellL h 0 0 rfl rfl rfl, _, cellL h 0 1 rfl rfl rfl, ?_⟩
    replace h := h.pick [2, 2, 2]
    dsimp only [pickL, pickR, nthH, delH, dropH, List.cons_append, List.nil_append] at h
    refine embrasureref13_Net_put_ok (FL := cel b_4 30 [(Value.int .u32 to_Host), (Value.int .i64 to_Port)] :: cel b_3 30 [(Value.int .u32 from_Host), (Value.int .i64 from_Port)] :: FL) (fun w h => (fun (h : Mem (cel b_4 30 [(Value.int .u32 to_Host), (Value.int .i64 to_Port)] :: cel b_3 30 [(Value.int .u32 from_Host), (Value.int .i64 from_Port)] :: FL) w) => (hF_b_2 _ (h.drop 2))) (h.drop 1)) rfl hc_b_2 h hp ?_
    rintro r_2 r_3 L_2 Last_2 m_3 p_4 n_3 c_4 w rfl h hp
    have cpp_4 := rowCap h 1 rfl
    refine ⟨_, _, rfl, ?_⟩
    refine ⟨_, rfl, ?_⟩
    refine ⟨_, rfl, ?_⟩
    replace h := h.sel [0, 0, 0] 2
    dsimp only [pickL, pickR, nthH, delH, dropH, List.cons_append, List.nil_append] at h
    exact hR r_2 r_3 L_2 Last_2 m_3 p_4 L_2.length c_4 _ rfl h hp
  clear hq
  refine ⟨_, cellL h 1 0 rfl rfl rfl, _, cellL h 1 1 rfl rfl rfl, ?_⟩
  refine embrasureref03_May_ok h hp ?_
  intro r w h hp
  refine ⟨_, rfl, ?_⟩
  refine cond_both hp (fun hp => ?_) (fun hp => ?_)
  · exact ⟨rfl, rfl, rfl, rfl, rfl, rfl, hp, h⟩
  refine ⟨_, cellL h 0 0 rfl rfl rfl, _, cellL h 0 1 rfl rfl rfl, ?_⟩
  refine embrasureref03_May_ok h hp ?_
  intro r_1 w h hp
  refine ⟨_, rfl, ?_⟩
  refine cond_both hp (fun hp => ?_) (fun hp => ?_)
  · exact ⟨rfl, rfl, rfl, rfl, rfl, rfl, hp, h⟩
  exact ⟨rfl, rfl, rfl, rfl, rfl, rfl, hp, h⟩

/-! (*embrasure/embrasureref13.Net).find (28) -/
def embrasureref13_Net_find_wp (L : List (Int × Int × Int × Int × Int × (Option Addr × Nat × Nat))) (Last : Int) (no : Int) (K : Int → Prop) : Prop :=
  ∃ (I : Nat → Int → Prop), (∃ (n_3 : Nat), I n_3 0) ∧ ∀ (n_1 : Nat) (i5 : Int), I n_1 i5 → (cond (decide ((i5 : Int) < ((L.length : Nat) : Int))) (0 ≤ (i5 : Int) ∧ (i5 : Int) < ((L.length : Nat) : Int) ∧ (∀ (x_1 : Int × Int × Int × Int × Int × (Option Addr × Nat × Nat)), L[Int.toNat i5]? = some x_1 → (cond ((x_1.1 : Int) == no) (K i5) (∃ (n_2 : Nat), n_2 < n_1 ∧ I n_2 (IntKind.wrap .i64 (i5 + 1)))))) (K (-1)))
theorem embrasureref13_Net_find_ok {b_1 : Nat} {p_1 : Option Addr} {c_1 : Nat} {L : List (Int × Int × Int × Int × Int × (Option Addr × Nat × Nat))} {Last : Int} {no : Int} {FL : List HP} {w : World} {K : Int → Prop} {R : Value → World → Prop}
  (h : Mem (cel b_1 50 [(Value.slice p_1 L.length c_1), (Value.int .i64 Last)] :: row enc39 39 6 p_1 c_1 L :: FL) w) (hp : embrasureref13_Net_find_wp L Last no K)
  (hR : ∀ (r : Int) (w : World), Mem (cel b_1 50 [(Value.slice p_1 L.length c_1), (Value.int .i64 Last)] :: row enc39 39 6 p_1 c_1 L :: FL) w → K r → R (Value.int .i64 r) w) :
  CallV Try.prog 28 #[(Value.pointer (some (Addr.mk b_1 0 none))), (Value.int .i64 no)] w R := by
  refine embrasureref13_Net_find_call ?_
  unfold embrasureref13_Net_find
  unfold embrasureref13_Net_find_wp at hp
  have cpp_1 := rowCap h 1 rfl
  obtain ⟨I, ⟨n_3, h0⟩, hq⟩ := hp
  refine ⟨fun n_1 n0 no1 i5 w => (some (Addr.mk b_1 0 none)) = n0 ∧ no = no1 ∧ I n_1 i5 ∧ Mem (cel b_1 50 [(Value.slice p_1 L.length c_1), (Value.int .i64 Last)] :: row enc39 39 6 p_1 c_1 L :: FL) w, ⟨n_3, rfl, rfl, h0, h⟩, ?_⟩
  clear h0 h
  rintro n_1 n0 no1 i5 w ⟨rfl, rfl, hp, h⟩
  replace hp := hq n_1 i5 hp
  clear hq
  unfold embrasureref13_Net_find_l1
  refine ⟨_, rfl, ?_⟩
  refine ⟨_, _, _, cellL h 0 0 rfl rfl rfl, ?_⟩
  refine cond_both' hp (fun hp => ?_) (fun hp => ?_)
  · exact hR (-1) _ h hp
  refine ⟨_, rfl, ?_⟩
  refine ⟨_, _, _, cellL h 0 0 rfl rfl rfl, ?_⟩
  obtain ⟨ia_1, ja_1, hp⟩ := hp
  obtain ⟨a_1, ha_1⟩ := rdAddr (rowRd h 1 encL39 rfl) rfl ia_1 ja_1
  refine ⟨a_1, ha_1, ia_1, ja_1, ?_⟩
  obtain ⟨x_1, hx_1, hc⟩ := rdCell (rowRd h 1 encL39 rfl) ha_1 rfl ia_1 ja_1
  replace hp := hp x_1 hx_1
  refine ⟨_, hc 0 _ rfl, ?_⟩
  refine cond_both hp (fun hp => ?_) (fun hp => ?_)
  · exact hR i5 _ h hp
  obtain ⟨n_2, hn, hp⟩ := hp
  exact ⟨n_2, hn, rfl, rfl, hp, h⟩

/-! (*embrasure/embrasureref13.Net).Copy (16) -/
def embrasureref13_Net_Copy_wp (L : List (Int × Int × Int × Int × Int × (Option Addr × Nat × Nat))) (Last : Int) (no : Int) (m_1 : List ((Option Addr × Nat × Nat) × List (Int))) (K : Int → Int → List (Int × Int × Int × Int × Int × (Option Addr × Nat × Nat)) → Int → List ((Option Addr × Nat × Nat) × List (Int)) → Prop) : Prop :=
  embrasureref13_Net_find_wp L Last no (fun (r : Int) => cond (decide ((r : Int) < 0)) (K 0 5 L Last m_1) (0 ≤ (r : Int) ∧ (r : Int) < ((L.length : Nat) : Int) ∧ (∀ (x_1 : Int × Int × Int × Int × Int × (Option Addr × Nat × Nat)), L[Int.toNat r]? = some x_1 → (∃ (xs : List (Int)), PH m_1 x_1.2.2.2.2.2 xs ∧ (embrasureref13_Net_put_wp L Last x_1.1 x_1.2.1 x_1.2.2.1 x_1.2.2.2.1 x_1.2.2.2.2.1 xs m_1 (fun (r_1 : Int) (r_2 : Int) (L_2 : List (Int × Int × Int × Int × Int × (Option Addr × Nat × Nat))) (Last_2 : Int) (m_3 : List ((Option Addr × Nat × Nat) × List (Int))) => K r_1 r_2 L_2 Last_2 m_3))))))
theorem embrasureref13_Net_Copy_ok {b_1 : Nat} {p_1 : Option Addr} {c_1 : Nat} {L : List (Int × Int × Int × Int × Int × (Option Addr × Nat × Nat))} {Last : Int} {no : Int} {m_1 : List ((Option Addr × Nat × Nat) × List (Int))} {FL : List HP} {w : World} {K : Int → Int → List (Int × Int × Int × Int × Int × (Option Addr × Nat × Nat)) → Int → List ((Option Addr × Nat × Nat) × List (Int)) → Prop} {R : Value → World → Prop}
  (h : Mem (cel b_1 50 [(Value.slice p_1 L.length c_1), (Value.int .i64 Last)] :: row enc39 39 6 p_1 c_1 L :: poolP enc5 5 1 m_1 :: FL) w) (hp : embrasureref13_Net_Copy_wp L Last no m_1 K)
  (hR : ∀ (r : Int) (r_1 : Int) (L_1 : List (Int × Int × Int × Int × Int × (Option Addr × Nat × Nat))) (Last_1 : Int) (m_2 : List ((Option Addr × Nat × Nat) × List (Int))) (p_2 : Option Addr) (n_1 : Nat) (c_2 : Nat) (w : World), n_1 = L_1.length → Mem (cel b_1 50 [(Value.slice p_2 n_1 c_2), (Value.int .i64 Last_1)] :: row enc39 39 6 p_2 c_2 L_1 :: poolP enc5 5 1 m_2 :: FL) w → K r r_1 L_1 Last_1 m_2 → R (Value.tuple #[(Value.int .i64 r), (Value.int .i64 r_1)]) w) :
  CallV Try.prog 16 #[(Value.pointer (some (Addr.mk b_1 0 none))), (Value.int .i64 no)] w R := by
  refine embrasureref13_Net_Copy_call ?_
  unfold embrasureref13_Net_Copy
  unfold embrasureref13_Net_Copy_wp at hp
  have cpp_1 := rowCap h 1 rfl
  refine embrasureref13_Net_find_ok h hp ?_
  intro r w h hp
  have cpp_1 := rowCap h 1 rfl
  refine ⟨_, rfl, ?_⟩
  refine cond_both hp (fun hp => ?_) (fun hp => ?_)
  · exact hR 0 5 L Last m_1 p_1 L.length c_1 _ rfl h hp
  refine ⟨_, rfl, ?_⟩
  refine ⟨_, _, _, cellL h 0 0 rfl rfl rfl, ?_⟩
  obtain ⟨ia_1, ja_1, hp⟩ := hp
  obtain ⟨a_1, ha_1⟩ := rdAddr (rowRd h 1 encL39 rfl) rfl ia_1 ja_1
  refine ⟨a_1, ha_1, ia_1, ja_1, ?_⟩
  obtain ⟨x_1, hx_1, hc⟩ := rdCell (rowRd h 1 encL39 rfl) ha_1 rfl ia_1 ja_1
  replace hp := hp x_1 hx_1
  refine ⟨_, hc 0 _ rfl, _, hc 1 _ rfl, _, hc 2 _ rfl, _, hc 3 _ rfl, _, hc 4 _ rfl, _, _, _, hc 5 _ rfl, ?_⟩
  obtain ⟨xs, hq_xs, hp⟩ := hp
  have hl_xs := poolLen h 2 rfl hq_xs
  have hc_xs := poolCap h 2 rfl hq_xs
  refine embrasureref13_Net_put_ok (FL := FL) (fun w h => (poolRd h 0 encL5 rfl hq_xs)) hl_xs hc_xs h hp ?_
  rintro r_1 r_2 L_2 Last_2 m_3 p_3 n_2 c_3 w rfl h hp
  have cpp_3 := rowCap h 1 rfl
  refine ⟨_, _, rfl, ?_⟩
  refine ⟨_, rfl, ?_⟩
  refine ⟨_, rfl, ?_⟩
  exact hR r_1 r_2 L_2 Last_2 m_3 p_3 L_2.length c_3 _ rfl h hp

/-! (*embrasure/embrasureref13.Net).At (17) -/
def embrasureref13_Net_At_wp (L : List (Int × Int × Int × Int × Int × (Option Addr × Nat × Nat))) (Last : Int) (place : Int) (K : Int → Prop) : Prop :=
  cond ((((L.length : Nat) : Int) : Int) == 0) (K 0) ((((L.length : Nat) : Int) : Int) ≠ 0 ∧ (joinP1 (fun (k5 : Int) => 0 ≤ (k5 : Int) ∧ (k5 : Int) < ((L.length : Nat) : Int) ∧ (∀ (x_1 : Int × Int × Int × Int × Int × (Option Addr × Nat × Nat)), L[Int.toNat k5]? = some x_1 → (K x_1.1))) (fun (Q : Int → Prop) => cond (decide (((Int.tmod place ((L.length : Nat) : Int)) : Int) < 0)) (Q (IntKind.wrap .i64 ((Int.tmod place ((L.length : Nat) : Int)) + ((L.length : Nat) : Int)))) (Q (Int.tmod place ((L.length : Nat) : Int))))))
theorem embrasureref13_Net_At_ok {b_1 : Nat} {p_1 : Option Addr} {c_1 : Nat} {L : List (Int × Int × Int × Int × Int × (Option Addr × Nat × Nat))} {Last : Int} {place : Int} {FL : List HP} {w : World} {K : Int → Prop} {R : Value → World → Prop}
  (h : Mem (cel b_1 50 [(Value.slice p_1 L.length c_1), (Value.int .i64 Last)] :: row enc39 39 6 p_1 c_1 L :: FL) w) (hp : embrasureref13_Net_At_wp L Last place K)
  (hR : ∀ (r : Int) (w : World), Mem (cel b_1 50 [(Value.slice p_1 L.length c_1), (Value.int .i64 Last)] :: row enc39 39 6 p_1 c_1 L :: FL) w → K r → R (Value.int .i64 r) w) :
  CallV Try.prog 17 #[(Value.pointer (some (Addr.mk b_1 0 none))), (Value.int .i64 place)] w R := by
  refine embrasureref13_Net_At_call ?_
  unfold embrasureref13_Net_At
  unfold embrasureref13_Net_At_wp at hp
  have cpp_1 := rowCap h 1 rfl
  refine ⟨_, rfl, ?_⟩
  refine ⟨_, _, _, cellL h 0 0 rfl rfl rfl, ?_⟩
  refine cond_both hp (fun hp => ?_) (fun hp => ?_)
  · exact hR 0 _ h hp
  refine ⟨_, rfl, ?_⟩
  refine ⟨_, _, _, cellL h 0 0 rfl rfl rfl, ?_⟩
  refine ⟨hp.1, ?_⟩
  replace hp := hp.2
  obtain ⟨Q, hq, hp⟩ := hp
  refine ⟨fun n0 k5 w => (some (Addr.mk b_1 0 none)) = n0 ∧ Q k5 ∧ Mem (cel b_1 50 [(Value.slice p_1 L.length c_1), (Value.int .i64 Last)] :: row enc39 39 6 p_1 c_1 L :: FL) w, ?_, ?_⟩
  · rintro n0 k5 w ⟨rfl, hp, h⟩
    replace hp := hq k5 hp
    unfold embrasureref13_Net_At_j1
    refine ⟨_, rfl, ?_⟩
    refine ⟨_, _, _, cellL h 0 0 rfl rfl rfl, ?_⟩
    obtain ⟨ia_1, ja_1, hp⟩ := hp
    obtain ⟨a_1, ha_1⟩ := rdAddr (rowRd h 1 encL39 rfl) rfl ia_1 ja_1
    refine ⟨a_1, ha_1, ia_1, ja_1, ?_⟩
    obtain ⟨x_1, hx_1, hc⟩ := rdCell (rowRd h 1 encL39 rfl) ha_1 rfl ia_1 ja_1
    replace hp := hp x_1 hx_1
    refine ⟨_, hc 0 _ rfl, ?_⟩
    exact hR x_1.1 _ h hp
  clear hq
  refine cond_both' hp (fun hp => ?_) (fun hp => ?_)
  · exact ⟨rfl, hp, h⟩
  refine ⟨_, rfl, ?_⟩
  refine ⟨_, _, _, cellL h 0 0 rfl rfl rfl, ?_⟩
  exact ⟨rfl, hp, h⟩

/-! (*embrasure/embrasureref13.Net).Take (18) -/
def embrasureref13_Net_Take_wp (L : List (Int × Int × Int × Int × Int × (Option Addr × Nat × Nat))) (Last : Int) (no : Int) (m_1 : List ((Option Addr × Nat × Nat) × List (Int))) (K : Int → Int → Int → Int → Int → Option Addr × Nat × Nat → Int → List (Int × Int × Int × Int × Int × (Option Addr × Nat × Nat)) → List ((Option Addr × Nat × Nat) × List (Int)) → Prop) : Prop :=
  embrasureref13_Net_find_wp L Last no (fun (r : Int) => cond (decide ((r : Int) < 0)) (∀ (hd : Option Addr × Nat × Nat), hd.2.1 = ([] : List (Int)).length → (K 0 0 0 0 0 hd 5 L (m_1 ++ [(hd, ([] : List (Int)))]))) (0 ≤ (r : Int) ∧ (r : Int) < ((L.length : Nat) : Int) ∧ (∀ (x_1 : Int × Int × Int × Int × Int × (Option Addr × Nat × Nat)), L[Int.toNat r]? = some x_1 → (0 ≤ (r : Int) ∧ (r : Int) ≤ ((L.length : Nat) : Int) ∧ (0 ≤ ((IntKind.wrap .i64 (r + 1)) : Int) ∧ ((IntKind.wrap .i64 (r + 1)) : Int) ≤ ((L.length : Nat) : Int) ∧ ((([] : List (Int × Int × Int × Int × Int × (Option Addr × Nat × Nat))).length + ((L.take (Int.toNat r)).drop 0).length) * 64 ≤ 140737488355328 ∧ (((([] : List (Int × Int × Int × Int × Int × (Option Addr × Nat × Nat))) ++ ((L.take (Int.toNat r)).drop 0)).length + ((L.take L.length).drop (Int.toNat (IntKind.wrap .i64 (r + 1)))).length) * 64 ≤ 140737488355328 ∧ (K x_1.1 x_1.2.1 x_1.2.2.1 x_1.2.2.2.1 x_1.2.2.2.2.1 x_1.2.2.2.2.2 0 ((([] : List (Int × Int × Int × Int × Int × (Option Addr × Nat × Nat))) ++ ((L.take (Int.toNat r)).drop 0)) ++ ((L.take L.length).drop (Int.toNat (IntKind.wrap .i64 (r + 1))))) m_1))))))))
theorem embrasureref13_Net_Take_ok {b_1 : Nat} {p_1 : Option Addr} {c_1 : Nat} {L : List (Int × Int × Int × Int × Int × (Option Addr × Nat × Nat))} {Last : Int} {no : Int} {m_1 : List ((Option Addr × Nat × Nat) × List (Int))} {FL : List HP} {w : World} {K : Int → Int → Int → Int → Int → Option Addr × Nat × Nat → Int → List (Int × Int × Int × Int × Int × (Option Addr × Nat × Nat)) → List ((Option Addr × Nat × Nat) × List (Int)) → Prop} {R : Value → World → Prop}
  (h : Mem (cel b_1 50 [(Value.slice p_1 L.length c_1), (Value.int .i64 Last)] :: row enc39 39 6 p_1 c_1 L :: poolP enc5 5 1 m_1 :: FL) w) (hp : embrasureref13_Net_Take_wp L Last no m_1 K)
  (hR : ∀ (r : Int) (r_1 : Int) (r_2 : Int) (r_3 : Int) (r_4 : Int) (hd : Option Addr × Nat × Nat) (r_5 : Int) (L_1 : List (Int × Int × Int × Int × Int × (Option Addr × Nat × Nat))) (m_2 : List ((Option Addr × Nat × Nat) × List (Int))) (p_2 : Option Addr) (n_1 : Nat) (c_2 : Nat) (w : World), n_1 = L_1.length → Mem (cel b_1 50 [(Value.slice p_2 n_1 c_2), (Value.int .i64 Last)] :: row enc39 39 6 p_2 c_2 L_1 :: poolP enc5 5 1 m_2 :: FL) w → K r r_1 r_2 r_3 r_4 hd r_5 L_1 m_2 → R (Value.tuple #[(Value.agg #[(Value.int .i64 r), (Value.int .u32 r_1), (Value.int .i64 r_2), (Value.int .u32 r_3), (Value.int .i64 r_4), (Value.slice hd.1 hd.2.1 hd.2.2)]), (Value.int .i64 r_5)]) w) :
  CallV Try.prog 18 #[(Value.pointer (some (Addr.mk b_1 0 none))), (Value.int .i64 no)] w R := by
  refine embrasureref13_Net_Take_call ?_
  unfold embrasureref13_Net_Take
  unfold embrasureref13_Net_Take_wp at hp
  have cpp_1 := rowCap h 1 rfl
  refine newL (o := [(Value.int .i64 0), (Value.int .u32 0), (Value.int .i64 0), (Value.int .u32 0), (Value.int .i64 0), (Value.slice none 0 0)]) h ?_
  intro b_2 w h
  replace h := h.pick [1, 1]
  dsimp only [pickL, pickR, nthH, delH, dropH, List.cons_append, List.nil_append] at h
  refine embrasureref13_Net_find_ok h hp ?_
  intro r w h hp
  have cpp_1 := rowCap h 1 rfl
  refine ⟨_, rfl, ?_⟩
  refine cond_both hp (fun hp => ?_) (fun hp => ?_)
  · replace h := rowNil enc5 5 1 h
    refine storeL (ys := [(Value.int .i64 0), (Value.int .u32 0), (Value.int .i64 0), (Value.int .u32 0), (Value.int .i64 0), (Value.slice none  0 0)]) h 3 0 rfl rfl rfl sz39 rfl rfl ?_
    intro w h
    dsimp only [setH, setVs, setV] at h
    refine ⟨_, cellL h 3 0 rfl rfl rfl, _, cellL h 3 1 rfl rfl rfl, _, cellL h 3 2 rfl rfl rfl, _, cellL h 3 3 rfl rfl rfl, _, cellL h 3 4 rfl rfl rfl, _, _, _, cellL h 3 5 rfl rfl rfl, ?_⟩
    replace h := h.pick [0, 3]
    dsimp only [pickL, pickR, nthH, delH, dropH, List.cons_append, List.nil_append] at h
    let hd : Hd := (none , ([] : List (Int)).length, 0)
    replace hp := hp hd rfl
    replace h : Mem (poolP enc5 5 1 (m_1 ++ [(hd, ([] : List (Int)))]) :: cel b_1 50 [(Value.slice p_1 L.length c_1), (Value.int .i64 Last)] :: row enc39 39 6 p_1 c_1 L :: cel b_2 39 [(Value.int .i64 0), (Value.int .u32 0), (Value.int .i64 0), (Value.int .u32 0), (Value.int .i64 0), (Value.slice hd.1 hd.2.1 hd.2.2)] :: FL) _ := poolPush h
    replace h := h.sel [1, 1, 0] 1
    dsimp only [pickL, pickR, nthH, delH, dropH, List.cons_append, List.nil_append] at h
    exact hR 0 0 0 0 0 hd 5 L (m_1 ++ [(hd, ([] : List (Int)))]) p_1 L.length c_1 _ rfl h hp
  refine ⟨_, rfl, ?_⟩
  refine ⟨_, _, _, cellL h 0 0 rfl rfl rfl, ?_⟩
  obtain ⟨ia_1, ja_1, hp⟩ := hp
  obtain ⟨a_1, ha_1⟩ := rdAddr (rowRd h 1 encL39 rfl) rfl ia_1 ja_1
  refine ⟨a_1, ha_1, ia_1, ja_1, ?_⟩
  obtain ⟨x_1, hx_1, hc⟩ := rdCell (rowRd h 1 encL39 rfl) ha_1 rfl ia_1 ja_1
  replace hp := hp x_1 hx_1
  refine ⟨_, hc 0 _ rfl, _, hc 1 _ rfl, _, hc 2 _ rfl, _, hc 3 _ rfl, _, hc 4 _ rfl, _, _, _, hc 5 _ rfl, ?_⟩
  refine newL (o := [(Value.int .i64 0), (Value.int .u32 0), (Value.int .i64 0), (Value.int .u32 0), (Value.int .i64 0), (Value.slice none 0 0)]) h ?_
  intro b_3 w h
  refine storeL (ys := [(Value.int .i64 x_1.1), (Value.int .u32 x_1.2.1), (Value.int .i64 x_1.2.2.1), (Value.int .u32 x_1.2.2.2.1), (Value.int .i64 x_1.2.2.2.2.1), (Value.slice x_1.2.2.2.2.2.1 x_1.2.2.2.2.2.2.1 x_1.2.2.2.2.2.2.2)]) h 0 0 rfl rfl rfl sz39 rfl rfl ?_
  intro w h
  dsimp only [setH, setVs, setV] at h
  replace h := h.drew
  refine ⟨fun w => Mem (cel b_1 50 [(Value.slice p_1 L.length c_1), (Value.int .i64 Last)] :: FL) w, (h.sel [1] 4), ?_⟩
  refine ⟨_, rfl, ?_⟩
  refine ⟨_, _, _, cellL h 1 0 rfl rfl rfl, ?_⟩
  refine ⟨?_, ?_⟩
  · intro w h
    change Mem _ _ at h
    refine ⟨_, _, _, cellL h 0 0 rfl rfl rfl, ?_⟩
    exact ⟨rfl, rfl⟩
  obtain ⟨g_1ha, g_1hb, hp⟩ := hp
  have vg_1_lh : 0 ≤ (Int.toNat r) := (Nat.zero_le _)
  have vg_1_hm : (Int.toNat r) ≤ c_1 := (Nat.le_trans (natLe g_1ha g_1hb) cpp_1)
  have vg_1_mc : c_1 ≤ c_1 := (Nat.le_refl _)
  have vg_1_hl : (Int.toNat r) ≤ L.length := (leLen g_1ha g_1hb rfl)
  refine ⟨g_1ha, (leCap g_1hb cpp_1), ?_⟩
  refine ⟨_, rfl, ?_⟩
  refine ⟨_, _, _, cellL h 1 0 rfl rfl rfl, ?_⟩
  refine ⟨?_, ?_⟩
  · intro w h
    change Mem _ _ at h
    refine ⟨_, _, _, cellL h 0 0 rfl rfl rfl, ?_⟩
    exact ⟨rfl, rfl⟩
  obtain ⟨g_2la, g_2lb, hp⟩ := hp
  have vg_2_lh : (Int.toNat (IntKind.wrap .i64 (r + 1))) ≤ L.length := (natLe g_2la g_2lb)
  have vg_2_hm : L.length ≤ c_1 := cpp_1
  have vg_2_mc : c_1 ≤ c_1 := (Nat.le_refl _)
  have vg_2_hl : L.length ≤ L.length := (Nat.le_of_eq rfl)
  refine ⟨g_2la, g_2lb, ?_⟩
  refine newL (o := []) h ?_
  intro b_4 w h
  refine ⟨(h.sel [2] 5), ?_⟩
  have sr := (Rd.view (rowRd h 3 encL39 rfl) (l := 0) (h := (Int.toNat r)) (m := c_1) vg_1_hm)
  replace h := rowOfCel h 0 encL39 rfl ([] : List (Int × Int × Int × Int × Int × (Option Addr × Nat × Nat))) rfl
  dsimp only [setH, setVs, setV] at h
  obtain ⟨hb, hp⟩ := hp
  refine appendL slt48 und48 encL39 encO39 h 0 rfl rfl sr (viewLen vg_1_hl) hb ?_
  intro p_4 c_3 w h
  dsimp only [setH, setVs, setV] at h
  have cpp_4 := rowCap h 0 rfl
  refine ⟨_, _, _, rfl, ?_⟩
  refine ⟨(h.sel [2] 5), ?_⟩
  have sr_1 := (Rd.view (rowRd h 3 encL39 rfl) (l := (Int.toNat (IntKind.wrap .i64 (r + 1)))) (h := L.length) (m := c_1) vg_2_hm)
  obtain ⟨hb, hp⟩ := hp
  refine appendL slt48 und48 encL39 encO39 h 0 rfl rfl sr_1 (viewLen vg_2_hl) hb ?_
  intro p_5 c_4 w h
  dsimp only [setH, setVs, setV] at h
  have cpp_5 := rowCap h 0 rfl
  refine ⟨_, _, _, rfl, ?_⟩
  refine ⟨_, rfl, ?_⟩
  refine storeL (ys := [(Value.slice p_5 ((([] : List (Int × Int × Int × Int × Int × (Option Addr × Nat × Nat))) ++ ((L.take (Int.toNat r)).drop 0)) ++ ((L.take L.length).drop (Int.toNat (IntKind.wrap .i64 (r + 1))))).length c_4)]) h 2 0 rfl rfl rfl sz48 rfl rfl ?_
  intro w h
  dsimp only [setH, setVs, setV] at h
  refine ⟨_, cellL h 1 0 rfl rfl rfl, _, cellL h 1 1 rfl rfl rfl, _, cellL h 1 2 rfl rfl rfl, _, cellL h 1 3 rfl rfl rfl, _, cellL h 1 4 rfl rfl rfl, _, _, _, cellL h 1 5 rfl rfl rfl, ?_⟩
  refine storeL (ys := [(Value.int .i64 x_1.1), (Value.int .u32 x_1.2.1), (Value.int .i64 x_1.2.2.1), (Value.int .u32 x_1.2.2.2.1), (Value.int .i64 x_1.2.2.2.2.1), (Value.slice x_1.2.2.2.2.2.1 x_1.2.2.2.2.2.2.1 x_1.2.2.2.2.2.2.2)]) h 4 0 rfl rfl rfl sz39 rfl rfl ?_
  intro w h
  dsimp only [setH, setVs, setV] at h
  refine ⟨_, cellL h 4 0 rfl rfl rfl, _, cellL h 4 1 rfl rfl rfl, _, cellL h 4 2 rfl rfl rfl, _, cellL h 4 3 rfl rfl rfl, _, cellL h 4 4 rfl rfl rfl, _, _, _, cellL h 4 5 rfl rfl rfl, ?_⟩
  replace h := h.sel [2, 0, 3] 3
  dsimp only [pickL, pickR, nthH, delH, dropH, List.cons_append, List.nil_append] at h
  exact hR x_1.1 x_1.2.1 x_1.2.2.1 x_1.2.2.2.1 x_1.2.2.2.2.1 x_1.2.2.2.2.2 0 ((([] : List (Int × Int × Int × Int × Int × (Option Addr × Nat × Nat))) ++ ((L.take (Int.toNat r)).drop 0)) ++ ((L.take L.length).drop (Int.toNat (IntKind.wrap .i64 (r + 1))))) m_1 p_5 (((([] : List (Int × Int × Int × Int × Int × (Option Addr × Nat × Nat))) ++ ((L.take (Int.toNat r)).drop 0)) ++ ((L.take L.length).drop (Int.toNat (IntKind.wrap .i64 (r + 1))))).length) c_4 _ rfl h hp

/-! embrasure/embrasureref01.Same (21) -/
def embrasureref01_Same_wp (a_1 : List (Int)) (b_1 : List (Int)) (K : Bool → Prop) : Prop :=
  cond ((((a_1.length : Nat) : Int) : Int) != ((b_1.length : Nat) : Int)) (K false) (∃ (I : Nat → Int → Prop), (∃ (n_5 : Nat), I n_5 0) ∧ ∀ (n_3 : Nat) (i5 : Int), I n_3 i5 → (cond (decide ((i5 : Int) < ((a_1.length : Nat) : Int))) (0 ≤ (i5 : Int) ∧ (i5 : Int) < ((a_1.length : Nat) : Int) ∧ (∀ (x_1 : Int), a_1[Int.toNat i5]? = some x_1 → (0 ≤ (i5 : Int) ∧ (i5 : Int) < ((b_1.length : Nat) : Int) ∧ (∀ (x_2 : Int), b_1[Int.toNat i5]? = some x_2 → (cond ((x_1 : Int) != x_2) (K false) (∃ (n_4 : Nat), n_4 < n_3 ∧ I n_4 (IntKind.wrap .i64 (i5 + 1)))))))) (K true)))
theorem embrasureref01_Same_ok {p_1 : Option Addr} {n_1 : Nat} {c_1 : Nat} {p_2 : Option Addr} {n_2 : Nat} {c_2 : Nat} {a_1 : List (Int)} {b_1 : List (Int)} {FL : List HP} {w : World} {K : Bool → Prop} {R : Value → World → Prop}
  (hF_a_1 : ∀ w, Mem FL w → Rd w 1 p_1 enc5 a_1) (hl_a_1 : n_1 = a_1.length) (hc_a_1 : n_1 ≤ c_1)
  (hF_b_1 : ∀ w, Mem FL w → Rd w 1 p_2 enc5 b_1) (hl_b_1 : n_2 = b_1.length) (hc_b_1 : n_2 ≤ c_2)
  (h : Mem (FL) w) (hp : embrasureref01_Same_wp a_1 b_1 K)
  (hR : ∀ (r : Bool) (w : World), Mem (FL) w → K r → R (Value.bool r) w) :
  CallV Try.prog 21 #[(Value.slice p_1 n_1 c_1), (Value.slice p_2 n_2 c_2)] w R := by
  refine embrasureref01_Same_call ?_
  unfold embrasureref01_Same
  unfold embrasureref01_Same_wp at hp
  subst hl_a_1
  subst hl_b_1
  refine cond_both hp (fun hp => ?_) (fun hp => ?_)
  · exact hR false _ h hp
  obtain ⟨I, ⟨n_5, h0⟩, hq⟩ := hp
  refine ⟨fun n_3 a0p a0l a0c b1p b1l b1c i5 w => p_1 = a0p ∧ a_1.length = a0l ∧ c_1 = a0c ∧ p_2 = b1p ∧ b_1.length = b1l ∧ c_2 = b1c ∧ I n_3 i5 ∧ Mem (FL) w, ⟨n_5, rfl, rfl, rfl, rfl, rfl, rfl, h0, h⟩, ?_⟩
  clear h0 h
  rintro n_3 a0p a0l a0c b1p b1l b1c i5 w ⟨rfl, rfl, rfl, rfl, rfl, rfl, hp, h⟩
  replace hp := hq n_3 i5 hp
  clear hq
  unfold embrasureref01_Same_l1
  refine cond_both' hp (fun hp => ?_) (fun hp => ?_)
  · exact hR true _ h hp
  replace h := h.drew
  obtain ⟨ia_2, ja_2, hp⟩ := hp
  obtain ⟨a_2, ha_2⟩ := rdAddr (hF_a_1 _ (h.drop 0)) rfl ia_2 ja_2
  refine ⟨a_2, ha_2, ia_2, ja_2, ?_⟩
  obtain ⟨x_1, hx_1, hc⟩ := rdCell0 (hF_a_1 _ (h.drop 0)) ha_2 rfl ia_2 ja_2
  replace hp := hp x_1 hx_1
  refine ⟨_, hc _ rfl, ?_⟩
  obtain ⟨ia_3, ja_3, hp⟩ := hp
  obtain ⟨a_3, ha_3⟩ := rdAddr (hF_b_1 _ (h.drop 0)) rfl ia_3 ja_3
  refine ⟨a_3, ha_3, ia_3, ja_3, ?_⟩
  obtain ⟨x_2, hx_2, hc⟩ := rdCell0 (hF_b_1 _ (h.drop 0)) ha_3 rfl ia_3 ja_3
  replace hp := hp x_2 hx_2
  refine ⟨_, hc _ rfl, ?_⟩
  refine cond_both hp (fun hp => ?_) (fun hp => ?_)
  · exact hR false _ h hp
  obtain ⟨n_4, hn, hp⟩ := hp
  exact ⟨n_4, hn, rfl, rfl, rfl, rfl, rfl, rfl, hp, h⟩

/-! embrasure/embrasureref13.Same (19) -/
def embrasureref13_Same_wp (a_No : Int) (a_From : Int) (a_From_1 : Int) (a_To : Int) (a_To_1 : Int) (a_Bytes : List (Int)) (b_No : Int) (b_From : Int) (b_From_1 : Int) (b_To : Int) (b_To_1 : Int) (b_Bytes : List (Int)) (K : Bool → Prop) : Prop :=
  cond ((a_No : Int) == b_No) (cond (((a_From : Int) == b_From) && (((a_From_1 : Int) == b_From_1) && true)) (cond (((a_To : Int) == b_To) && (((a_To_1 : Int) == b_To_1) && true)) (embrasureref01_Same_wp a_Bytes b_Bytes (fun (r : Bool) => K r)) (K false)) (K false)) (K false)
theorem embrasureref13_Same_ok {p_1 : Option Addr} {n_1 : Nat} {c_1 : Nat} {p_2 : Option Addr} {n_2 : Nat} {c_2 : Nat} {a_No : Int} {a_From : Int} {a_From_1 : Int} {a_To : Int} {a_To_1 : Int} {a_Bytes : List (Int)} {b_No : Int} {b_From : Int} {b_From_1 : Int} {b_To : Int} {b_To_1 : Int} {b_Bytes : List (Int)} {FL : List HP} {w : World} {K : Bool → Prop} {R : Value → World → Prop}
  (hF_a_Bytes : ∀ w, Mem FL w → Rd w 1 p_1 enc5 a_Bytes) (hl_a_Bytes : n_1 = a_Bytes.length) (hc_a_Bytes : n_1 ≤ c_1)
  (hF_b_Bytes : ∀ w, Mem FL w → Rd w 1 p_2 enc5 b_Bytes) (hl_b_Bytes : n_2 = b_Bytes.length) (hc_b_Bytes : n_2 ≤ c_2)
  (h : Mem (FL) w) (hp : embrasureref13_Same_wp a_No a_From a_From_1 a_To a_To_1 a_Bytes b_No b_From b_From_1 b_To b_To_1 b_Bytes K)
  (hR : ∀ (r : Bool) (w : World), Mem (FL) w → K r → R (Value.bool r) w) :
  CallV Try.prog 19 #[(Value.agg #[(Value.int .i64 a_No), (Value.int .u32 a_From), (Value.int .i64 a_From_1), (Value.int .u32 a_To), (Value.int .i64 a_To_1), (Value.slice p_1 n_1 c_1)]), (Value.agg #[(Value.int .i64 b_No), (Value.int .u32 b_From), (Value.int .i64 b_From_1), (Value.int .u32 b_To), (Value.int .i64 b_To_1), (Value.slice p_2 n_2 c_2)])] w R := by
  refine embrasureref13_Same_call ?_
  unfold embrasureref13_Same
  unfold embrasureref13_Same_wp at hp
  subst hl_a_Bytes
  subst hl_b_Bytes
  refine newL (o := [(Value.int .i64 a_No), (Value.int .u32 a_From), (Value.int .i64 a_From_1), (Value.int .u32 a_To), (Value.int .i64 a_To_1), (Value.slice p_1 a_Bytes.length c_1)]) h ?_
  intro b_1 w h
  refine newL (o := [(Value.int .i64 b_No), (Value.int .u32 b_From), (Value.int .i64 b_From_1), (Value.int .u32 b_To), (Value.int .i64 b_To_1), (Value.slice p_2 b_Bytes.length c_2)]) h ?_
  intro b_2 w h
  refine ⟨_, cellL h 1 0 rfl rfl rfl, ?_⟩
  refine ⟨_, cellL h 0 0 rfl rfl rfl, ?_⟩
  refine cond_both' hp (fun hp => ?_) (fun hp => ?_)
  · replace h := h.sel [] 2
    dsimp only [pickL, pickR, nthH, delH, dropH, List.cons_append, List.nil_append] at h
    exact hR false _ h hp
  refine ⟨_, cellL h 1 1 rfl rfl rfl, _, cellL h 1 2 rfl rfl rfl, ?_⟩
  refine ⟨_, cellL h 0 1 rfl rfl rfl, _, cellL h 0 2 rfl rfl rfl, ?_⟩
  refine eqlAgg (xs := [(Value.int .u32 a_From), (Value.int .i64 a_From_1)]) (ys := [(Value.int .u32 b_From), (Value.int .i64 b_From_1)]) eqG30 eqA30 (eqT30 a_From a_From_1 b_From b_From_1) ?_
  refine ⟨_, rfl, ?_⟩
  refine cond_both' hp (fun hp => ?_) (fun hp => ?_)
  · replace h := h.sel [] 2
    dsimp only [pickL, pickR, nthH, delH, dropH, List.cons_append, List.nil_append] at h
    exact hR false _ h hp
  refine ⟨_, cellL h 1 3 rfl rfl rfl, _, cellL h 1 4 rfl rfl rfl, ?_⟩
  refine ⟨_, cellL h 0 3 rfl rfl rfl, _, cellL h 0 4 rfl rfl rfl, ?_⟩
  refine eqlAgg (xs := [(Value.int .u32 a_To), (Value.int .i64 a_To_1)]) (ys := [(Value.int .u32 b_To), (Value.int .i64 b_To_1)]) eqG30 eqA30 (eqT30 a_To a_To_1 b_To b_To_1) ?_
  refine ⟨_, rfl, ?_⟩
  refine cond_both' hp (fun hp => ?_) (fun hp => ?_)
  · replace h := h.sel [] 2
    dsimp only [pickL, pickR, nthH, delH, dropH, List.cons_append, List.nil_append] at h
    exact hR false _ h hp
  refine ⟨_, _, _, cellL h 1 5 rfl rfl rfl, ?_⟩
  refine ⟨_, _, _, cellL h 0 5 rfl rfl rfl, ?_⟩
  refine embrasureref01_Same_ok (FL := cel b_2 39 [(Value.int .i64 b_No), (Value.int .u32 b_From), (Value.int .i64 b_From_1), (Value.int .u32 b_To), (Value.int .i64 b_To_1), (Value.slice p_2 b_Bytes.length c_2)] :: cel b_1 39 [(Value.int .i64 a_No), (Value.int .u32 a_From), (Value.int .i64 a_From_1), (Value.int .u32 a_To), (Value.int .i64 a_To_1), (Value.slice p_1 a_Bytes.length c_1)] :: FL) (fun w h => (hF_a_Bytes _ (h.drop 2))) rfl hc_a_Bytes (fun w h => (hF_b_Bytes _ (h.drop 2))) rfl hc_b_Bytes h hp ?_
  intro r w h hp
  refine ⟨_, rfl, ?_⟩
  replace h := h.sel [] 2
  dsimp only [pickL, pickR, nthH, delH, dropH, List.cons_append, List.nil_append] at h
  exact hR r _ h hp

/-! slices.Clone[[]embrasure/api.Sent,embrasure/api.Sent] (29) -/
def slices_Clone_sl_api_Sent_api_Sent_wp (s : List (Int × Int × Int × Int × Int × (Option Addr × Nat × Nat))) (K : List (Int × Int × Int × Int × Int × (Option Addr × Nat × Nat)) → Prop) : Prop :=
  ∀ (nil : Bool), (nil = true → s = []) → (cond nil (K ([] : List (Int × Int × Int × Int × Int × (Option Addr × Nat × Nat)))) ((([] : List (Int × Int × Int × Int × Int × (Option Addr × Nat × Nat))).length + s.length) * 64 ≤ 140737488355328 ∧ (K (([] : List (Int × Int × Int × Int × Int × (Option Addr × Nat × Nat))) ++ s))))
theorem slices_Clone_sl_api_Sent_api_Sent_ok {p_1 : Option Addr} {n_1 : Nat} {c_1 : Nat} {s : List (Int × Int × Int × Int × Int × (Option Addr × Nat × Nat))} {FL : List HP} {w : World} {K : List (Int × Int × Int × Int × Int × (Option Addr × Nat × Nat)) → Prop} {R : Value → World → Prop}
  (hF_s : ∀ w, Mem FL w → Rd w 6 p_1 enc39 s) (hl_s : n_1 = s.length) (hc_s : n_1 ≤ c_1)
  (h : Mem (FL) w) (hp : slices_Clone_sl_api_Sent_api_Sent_wp s K)
  (hR : ∀ (rs : List (Int × Int × Int × Int × Int × (Option Addr × Nat × Nat))) (p_2 : Option Addr) (n_2 : Nat) (c_2 : Nat) (w : World), n_2 = rs.length → Mem (row enc39 39 6 p_2 c_2 rs :: FL) w → K rs → R (Value.slice p_2 n_2 c_2) w) :
  CallV Try.prog 29 #[(Value.slice p_1 n_1 c_1)] w R := by
  refine slices_Clone_sl_api_Sent_api_Sent_call ?_
  unfold slices_Clone_sl_api_Sent_api_Sent
  unfold slices_Clone_sl_api_Sent_api_Sent_wp at hp
  subst hl_s
  obtain ⟨nil, hnil⟩ : ∃ b : Bool, Option.isNone p_1 = b := ⟨_, rfl⟩
  replace hp := hp nil (nilEmpty (hF_s _ (h.drop 0)) hnil)
  refine eqlSlNil und48 hnil ?_
  refine ⟨_, rfl, ?_⟩
  refine cond_both hp (fun hp => ?_) (fun hp => ?_)
  · replace h := rowNil enc39 39 6 h
    exact hR ([] : List (Int × Int × Int × Int × Int × (Option Addr × Nat × Nat))) (none ) 0 0 _ rfl h hp
  refine newL (o := []) h ?_
  intro b_1 w h
  have sr := (hF_s _ (h.drop 1))
  replace h := rowOfCel h 0 encL39 rfl ([] : List (Int × Int × Int × Int × Int × (Option Addr × Nat × Nat))) rfl
  dsimp only [setH, setVs, setV] at h
  obtain ⟨hb, hp⟩ := hp
  refine appendL slt48 und48 encL39 encO39 h 0 rfl rfl sr rfl hb ?_
  intro p_3 c_2 w h
  dsimp only [setH, setVs, setV] at h
  have cpp_3 := rowCap h 0 rfl
  refine ⟨_, _, _, rfl, ?_⟩
  exact hR (([] : List (Int × Int × Int × Int × Int × (Option Addr × Nat × Nat))) ++ s) p_3 ((([] : List (Int × Int × Int × Int × Int × (Option Addr × Nat × Nat))) ++ s).length) c_2 _ rfl h hp

/-! (*embrasure/net.Net).All$1 (30) -/
def net_Net_All_c1_wp {σ0 : Type} (s : σ0) (Y0 : (Int × Int × Int × Int × Int × (List (Int))) → σ0 → (Bool → σ0 → Prop) → Prop) (t : List (Int × Int × Int × Int × Int × (Option Addr × Nat × Nat))) (m_1 : List ((Option Addr × Nat × Nat) × List (Int))) (K : σ0 → Prop) : Prop :=
  ∃ (I : Nat → Int → σ0 → Prop), (∃ (n_5 : Nat), I n_5 0 s) ∧ ∀ (n_2 : Nat) (t7 : Int) (s_2 : σ0), I n_2 t7 s_2 → (cond (decide ((t7 : Int) < ((t.length : Nat) : Int))) (0 ≤ (t7 : Int) ∧ (t7 : Int) < ((t.length : Nat) : Int) ∧ (∀ (x_1 : Int × Int × Int × Int × Int × (Option Addr × Nat × Nat)), t[Int.toNat t7]? = some x_1 → (∃ (xs : List (Int)), PH m_1 x_1.2.2.2.2.2 xs ∧ (bytes_Clone_wp xs (fun (rs : List (Int)) => Y0 (x_1.1, x_1.2.1, x_1.2.2.1, x_1.2.2.2.1, x_1.2.2.2.2.1, rs) s_2 (fun (t17 : Bool) (s_3 : σ0) => cond (!t17) (K s_3) (∃ (n_4 : Nat), n_4 < n_2 ∧ I n_4 (IntKind.wrap .i64 (t7 + 1)) s_3))))))) (K s_2))
theorem net_Net_All_c1_ok {σ0 : Type} {A0 : σ0 → HP} {ff0 : Fn} {fa0 : Array Value} {fc0 : Array Value} {b_1 : Nat} {p_1 : Option Addr} {n_1 : Nat} {c_1 : Nat} {s : σ0} {Y0 : (Int × Int × Int × Int × Int × (List (Int))) → σ0 → (Bool → σ0 → Prop) → Prop} {t : List (Int × Int × Int × Int × Int × (Option Addr × Nat × Nat))} {m_1 : List ((Option Addr × Nat × Nat) × List (Int))} {FL : List HP} {w : World} {K : σ0 → Prop} {R : Value → World → Prop}
  (hY0 : ∀ (x0 : Int × Int × Int × Int × Int × (List (Int))) (qx0p5 : Option Addr) (qx0c5 : Nat) (s : σ0) (K : Bool → σ0 → Prop) (FL2 : List HP) (w : World) (R : Value → World → Prop), (∀ w, Mem FL2 w → Mem FL w) → Mem (row enc5 5 1 qx0p5 qx0c5 x0.2.2.2.2.2 :: A0 s :: FL2) w → Y0 x0 s K → (∀ (r : Bool) (s : σ0) (w : World), Mem (A0 s :: FL2) w → K r s → R (Value.bool r) w) → CalleeV Try.prog (Value.func ff0 fa0 fc0) #[(Value.agg #[(Value.int .i64 x0.1), (Value.int .u32 x0.2.1), (Value.int .i64 x0.2.2.1), (Value.int .u32 x0.2.2.2.1), (Value.int .i64 x0.2.2.2.2.1), (Value.slice qx0p5 x0.2.2.2.2.2.length qx0c5)])] w R)
  (hF_t : ∀ w, Mem FL w → Rd w 6 p_1 enc39 t) (hl_t : n_1 = t.length) (hc_t : n_1 ≤ c_1)
  (hP5 : RoPool enc5 1 FL m_1)
  (h : Mem (cel b_1 48 [(Value.slice p_1 n_1 c_1)] :: A0 s :: FL) w) (hp : net_Net_All_c1_wp s Y0 t m_1 K)
  (hR : ∀ (s_1 : σ0) (w : World), Mem (cel b_1 48 [(Value.slice p_1 t.length c_1)] :: A0 s_1 :: FL) w → K s_1 → R undef w) :
  CallV Try.prog 30 #[(Value.func ff0 fa0 fc0), (Value.pointer (some (Addr.mk b_1 0 none)))] w R := by
  refine net_Net_All_c1_call ?_
  unfold net_Net_All_c1
  unfold net_Net_All_c1_wp at hp
  subst hl_t
  refine ⟨_, _, _, cellL h 0 0 rfl rfl rfl, ?_⟩
  obtain ⟨I, ⟨n_5, h0⟩, hq⟩ := hp
  refine ⟨fun n_2 yield0 t5p t5l t5c t6 t7 w => ∃ (s_2 : σ0), (Value.func ff0 fa0 fc0) = yield0 ∧ p_1 = t5p ∧ t.length = t5l ∧ c_1 = t5c ∧ ((t.length : Nat) : Int) = t6 ∧ I n_2 t7 s_2 ∧ Mem (cel b_1 48 [(Value.slice p_1 t.length c_1)] :: A0 s_2 :: FL) w, ⟨n_5, s, rfl, rfl, rfl, rfl, rfl, h0, h⟩, ?_⟩
  clear h0 h
  rintro n_2 yield0 t5p t5l t5c t6 t7 w ⟨s_2, rfl, rfl, rfl, rfl, rfl, hp, h⟩
  replace hp := hq n_2 t7 s_2 hp
  clear hq
  unfold net_Net_All_c1_l1
  refine cond_both' hp (fun hp => ?_) (fun hp => ?_)
  · exact hR s_2 _ h hp
  obtain ⟨ia_1, ja_1, hp⟩ := hp
  obtain ⟨a_1, ha_1⟩ := rdAddr (hF_t _ (h.drop 2)) rfl ia_1 ja_1
  refine ⟨a_1, ha_1, ia_1, ja_1, ?_⟩
  obtain ⟨x_1, hx_1, hc⟩ := rdCell (hF_t _ (h.drop 2)) ha_1 rfl ia_1 ja_1
  replace hp := hp x_1 hx_1
  refine ⟨_, hc 0 _ rfl, _, hc 1 _ rfl, _, hc 2 _ rfl, _, hc 3 _ rfl, _, hc 4 _ rfl, _, _, _, hc 5 _ rfl, ?_⟩
  refine newL (o := [(Value.int .i64 0), (Value.int .u32 0), (Value.int .i64 0), (Value.int .u32 0), (Value.int .i64 0), (Value.slice none 0 0)]) h ?_
  intro b_2 w h
  refine storeL (ys := [(Value.int .i64 x_1.1), (Value.int .u32 x_1.2.1), (Value.int .i64 x_1.2.2.1), (Value.int .u32 x_1.2.2.2.1), (Value.int .i64 x_1.2.2.2.2.1), (Value.slice x_1.2.2.2.2.2.1 x_1.2.2.2.2.2.2.1 x_1.2.2.2.2.2.2.2)]) h 0 0 rfl rfl rfl sz39 rfl rfl ?_
  intro w h
  dsimp only [setH, setVs, setV] at h
  refine ⟨_, _, _, cellL h 0 5 rfl rfl rfl, ?_⟩
  obtain ⟨xs, hq_xs, hp⟩ := hp
  have hl_xs := (hP5.1 _ _ hq_xs).1
  have hc_xs := (hP5.1 _ _ hq_xs).2
  refine bytes_Clone_ok (FL := cel b_2 39 [(Value.int .i64 x_1.1), (Value.int .u32 x_1.2.1), (Value.int .i64 x_1.2.2.1), (Value.int .u32 x_1.2.2.2.1), (Value.int .i64 x_1.2.2.2.2.1), (Value.slice x_1.2.2.2.2.2.1 x_1.2.2.2.2.2.2.1 x_1.2.2.2.2.2.2.2)] :: cel b_1 48 [(Value.slice p_1 t.length c_1)] :: A0 s_2 :: FL) (fun w h => (hP5.2 _ _ hq_xs _ (h.drop 3))) hl_xs hc_xs h hp ?_
  rintro rs p_2 n_3 c_2 w rfl h hp
  have cpp_2 := rowCap h 0 rfl
  refine ⟨_, _, _, rfl, ?_⟩
  refine storeL (ys := [(Value.slice p_2 rs.length c_2)]) h 1 5 rfl rfl rfl sz22 rfl rfl ?_
  intro w h
  dsimp only [setH, setVs, setV] at h
  refine ⟨_, cellL h 1 0 rfl rfl rfl, _, cellL h 1 1 rfl rfl rfl, _, cellL h 1 2 rfl rfl rfl, _, cellL h 1 3 rfl rfl rfl, _, cellL h 1 4 rfl rfl rfl, _, _, _, cellL h 1 5 rfl rfl rfl, ?_⟩
  replace h := h.pick [0, 2]
  dsimp only [pickL, pickR, nthH, delH, dropH, List.cons_append, List.nil_append] at h
  refine hY0 (x_1.1, x_1.2.1, x_1.2.2.1, x_1.2.2.2.1, x_1.2.2.2.2.1, rs) p_2 c_2 _ _ (cel b_2 39 [(Value.int .i64 x_1.1), (Value.int .u32 x_1.2.1), (Value.int .i64 x_1.2.2.1), (Value.int .u32 x_1.2.2.2.1), (Value.int .i64 x_1.2.2.2.2.1), (Value.slice p_2 rs.length c_2)] :: cel b_1 48 [(Value.slice p_1 t.length c_1)] :: FL) _ _ (fun _ h => Mem.drop 2 h) h hp ?_
  intro t17 s_3 w h hp
  refine ⟨_, rfl, ?_⟩
  refine cond_both hp (fun hp => ?_) (fun hp => ?_)
  · replace h := h.sel [2, 0] 1
    dsimp only [pickL, pickR, nthH, delH, dropH, List.cons_append, List.nil_append] at h
    exact hR s_3 _ h hp
  replace h := h.sel [2, 0] 1
  dsimp only [pickL, pickR, nthH, delH, dropH, List.cons_append, List.nil_append] at h
  obtain ⟨n_4, hn, hp⟩ := hp
  exact ⟨n_4, hn, s_3, rfl, rfl, rfl, rfl, rfl, hp, h⟩

/-! (*embrasure/net.Net).All (20) -/
def net_Net_All_wp (list : List (Int × Int × Int × Int × Int × (Option Addr × Nat × Nat))) (last : Int) (K : List (Int × Int × Int × Int × Int × (Option Addr × Nat × Nat)) → Prop) : Prop :=
  slices_Clone_sl_api_Sent_api_Sent_wp list (fun (rs : List (Int × Int × Int × Int × Int × (Option Addr × Nat × Nat))) => K rs)
theorem net_Net_All_ok {b_1 : Nat} {p_1 : Option Addr} {c_1 : Nat} {list : List (Int × Int × Int × Int × Int × (Option Addr × Nat × Nat))} {last : Int} {FL : List HP} {w : World} {K : List (Int × Int × Int × Int × Int × (Option Addr × Nat × Nat)) → Prop} {R : Value → World → Prop}
  (h : Mem (cel b_1 59 [(Value.slice p_1 list.length c_1), (Value.int .i64 last)] :: row enc39 39 6 p_1 c_1 list :: FL) w) (hp : net_Net_All_wp list last K)
  (hR : ∀ (x_1 : List (Int × Int × Int × Int × Int × (Option Addr × Nat × Nat))) (b_2 : Nat) (p_2 : Option Addr) (n_1 : Nat) (c_2 : Nat) (w : World), n_1 = x_1.length → Mem (cel b_2 48 [(Value.slice p_2 n_1 c_2)] :: row enc39 39 6 p_2 c_2 x_1 :: cel b_1 59 [(Value.slice p_1 list.length c_1), (Value.int .i64 last)] :: row enc39 39 6 p_1 c_1 list :: FL) w → K x_1 → R (Value.func (Fn.func 30) #[] #[(Value.pointer (some (Addr.mk b_2 0 none)))]) w) :
  CallV Try.prog 20 #[(Value.pointer (some (Addr.mk b_1 0 none)))] w R := by
  refine net_Net_All_call ?_
  unfold net_Net_All
  unfold net_Net_All_wp at hp
  have cpp_1 := rowCap h 1 rfl
  refine ⟨_, rfl, ?_⟩
  refine ⟨_, _, _, cellL h 0 0 rfl rfl rfl, ?_⟩
  refine slices_Clone_sl_api_Sent_api_Sent_ok (FL := cel b_1 59 [(Value.slice p_1 list.length c_1), (Value.int .i64 last)] :: row enc39 39 6 p_1 c_1 list :: FL) (fun w h => (rowRd h 1 encL39 rfl)) rfl cpp_1 h hp ?_
  rintro rs p_2 n_1 c_2 w rfl h hp
  have cpp_2 := rowCap h 0 rfl
  refine ⟨_, _, _, rfl, ?_⟩
  refine newL (o := [(Value.slice none 0 0)]) h ?_
  intro b_2 w h
  refine storeL (ys := [(Value.slice p_2 rs.length c_2)]) h 0 0 rfl rfl rfl sz48 rfl rfl ?_
  intro w h
  dsimp only [setH, setVs, setV] at h
  exact hR rs b_2 p_2 rs.length c_2 _ rfl h hp

/-! embrasure/embrasurelaw13.NetPlays (5) -/
def embrasurelaw13_NetPlays_wp (script : List (Int × Int × Int × Int × Int × Int × (List (Int)))) (K : Bool → Prop) : Prop :=
  embrasurelaw13_awake_wp (fun (r : Bool) => cond (!r) (K (false)) (embrasurelaw13_small_wp script (fun (r_1 : Bool) => cond (!r_1) (K (true)) (net_New_wp (fun (list : List (Int × Int × Int × Int × Int × (Option Addr × Nat × Nat))) (last : Int) => joinP5 (fun (L : List (Int × Int × Int × Int × Int × (Option Addr × Nat × Nat))) (Last : Int) (list_1 : List (Int × Int × Int × Int × Int × (Option Addr × Nat × Nat))) (last_1 : Int) (m_1 : List ((Option Addr × Nat × Nat) × List (Int))) => K (true)) (fun (Q : List (Int × Int × Int × Int × Int × (Option Addr × Nat × Nat)) → Int → List (Int × Int × Int × Int × Int × (Option Addr × Nat × Nat)) → Int → List ((Option Addr × Nat × Nat) × List (Int)) → Prop) => ∃ (I : Nat → List (Int × Int × Int × Int × Int × (Option Addr × Nat × Nat)) → Int → List (Int × Int × Int × Int × Int × (Option Addr × Nat × Nat)) → Int → Int → List ((Option Addr × Nat × Nat) × List (Int)) → Prop), (∃ (n_19 : Nat), I n_19 ([] : List (Int × Int × Int × Int × Int × (Option Addr × Nat × Nat))) 0 list last 0 ([] : List ((Option Addr × Nat × Nat) × List (Int)))) ∧ ∀ (n_7 : Nat) (L_1 : List (Int × Int × Int × Int × Int × (Option Addr × Nat × Nat))) (Last_1 : Int) (list_2 : List (Int × Int × Int × Int × Int × (Option Addr × Nat × Nat))) (last_2 : Int) (i5 : Int) (m_3 : List ((Option Addr × Nat × Nat) × List (Int))), I n_7 L_1 Last_1 list_2 last_2 i5 m_3 → (joinP1 (fun (t37 : Bool) => cond t37 (0 ≤ (i5 : Int) ∧ (i5 : Int) < ((script.length : Nat) : Int) ∧ (∀ (x_1 : Int × Int × Int × Int × Int × Int × (List (Int))), script[Int.toNat i5]? = some x_1 → (joinP5 (fun (L_2 : List (Int × Int × Int × Int × Int × (Option Addr × Nat × Nat))) (Last_2 : Int) (list_3 : List (Int × Int × Int × Int × Int × (Option Addr × Nat × Nat))) (last_3 : Int) (m_6 : List ((Option Addr × Nat × Nat) × List (Int))) => joinP1 (fun (x_2 : Int) => joinP1 (fun (t174 : Bool) => cond t174 (K (false)) (∃ (n_18 : Nat), n_18 < n_7 ∧ I n_18 L_2 Last_2 list_3 last_3 (IntKind.wrap .i64 (i5 + 1)) m_6)) (fun (Q_9 : Bool → Prop) => cond ((x_2 : Int) != ((L_2.length : Nat) : Int)) (Q_9 true) (net_Net_Count_wp list_3 last_3 (fun (r_26 : Int) => Q_9 ((r_26 : Int) != x_2))))) (fun (Q_7 : Int → Prop) => net_Net_All_wp list_3 last_3 (fun (x_3 : List (Int × Int × Int × Int × Int × (Option Addr × Nat × Nat))) => net_Net_All_c1_wp (0, 0) (fun x_5 (s : Nat × Int) K_1 => s.1 = 0 ∧ (joinP1 (fun (t159 : Bool) => cond t159 (K_1 false (1, s.2)) (K_1 true (0, (IntKind.wrap .i64 (s.2 + 1))))) (fun (Q_8 : Bool → Prop) => cond (decide ((s.2 : Int) ≥ ((L_2.length : Nat) : Int))) (Q_8 true) (0 ≤ (s.2 : Int) ∧ (s.2 : Int) < ((L_2.length : Nat) : Int) ∧ (∀ (x_6 : Int × Int × Int × Int × Int × (Option Addr × Nat × Nat)), L_2[Int.toNat s.2]? = some x_6 → (∃ (xs_2 : List (Int)), PH m_6 x_6.2.2.2.2.2 xs_2 ∧ (embrasureref13_Same_wp x_5.1 x_5.2.1 x_5.2.2.1 x_5.2.2.2.1 x_5.2.2.2.2.1 x_5.2.2.2.2.2 x_6.1 x_6.2.1 x_6.2.2.1 x_6.2.2.2.1 x_6.2.2.2.2.1 xs_2 (fun (r_25 : Bool) => Q_8 (!r_25))))))))) x_3 m_6 (fun (s_1 : (Nat × Int)) => (s_1.1 = 0 ∧ (Q_7 s_1.2)) ∨ (s_1.1 ≠ 0 ∧ (K (false))))))) (fun (Q_2 : List (Int × Int × Int × Int × Int × (Option Addr × Nat × Nat)) → Int → List (Int × Int × Int × Int × Int × (Option Addr × Nat × Nat)) → Int → List ((Option Addr × Nat × Nat) × List (Int)) → Prop) => cond ((x_1.1 : Int) == 0) (net_Net_Send_wp list_2 last_2 x_1.2.2.1 x_1.2.2.2.1 x_1.2.2.2.2.1 x_1.2.2.2.2.2.1 x_1.2.2.2.2.2.2 m_3 (fun (r_2 : Int) (r_3 : Int) (list_4 : List (Int × Int × Int × Int × Int × (Option Addr × Nat × Nat))) (last_4 : Int) (m_8 : List ((Option Addr × Nat × Nat) × List (Int))) => embrasureref13_Net_Send_wp L_1 Last_1 x_1.2.2.1 x_1.2.2.2.1 x_1.2.2.2.2.1 x_1.2.2.2.2.2.1 x_1.2.2.2.2.2.2 m_8 (fun (r_4 : Int) (r_5 : Int) (L_3 : List (Int × Int × Int × Int × Int × (Option Addr × Nat × Nat))) (Last_3 : Int) (m_9 : List ((Option Addr × Nat × Nat) × List (Int))) => joinP1 (fun (t113 : Bool) => cond t113 (K (false)) (Q_2 L_3 Last_3 list_4 last_4 m_9)) (fun (Q_3 : Bool → Prop) => cond ((r_2 : Int) != r_4) (Q_3 true) (Q_3 ((r_3 : Int) != r_5)))))) (cond ((x_1.1 : Int) == 2) (net_Net_Copy_wp list_2 last_2 x_1.2.1 m_3 (fun (r_6 : Int) (r_7 : Int) (list_5 : List (Int × Int × Int × Int × Int × (Option Addr × Nat × Nat))) (last_5 : Int) (m_11 : List ((Option Addr × Nat × Nat) × List (Int))) => embrasureref13_Net_Copy_wp L_1 Last_1 x_1.2.1 m_11 (fun (r_8 : Int) (r_9 : Int) (L_4 : List (Int × Int × Int × Int × Int × (Option Addr × Nat × Nat))) (Last_4 : Int) (m_12 : List ((Option Addr × Nat × Nat) × List (Int))) => joinP1 (fun (t137 : Bool) => cond t137 (K (false)) (Q_2 L_4 Last_4 list_5 last_5 m_12)) (fun (Q_4 : Bool → Prop) => cond ((r_6 : Int) != r_8) (Q_4 true) (Q_4 ((r_7 : Int) != r_9)))))) (joinP2 (fun (L_5 : List (Int × Int × Int × Int × Int × (Option Addr × Nat × Nat))) (no15 : Int) => net_Net_Take_wp list_2 last_2 no15 m_3 (fun (r_12 : Int) (r_13 : Int) (r_14 : Int) (r_15 : Int) (r_16 : Int) (hd : Option Addr × Nat × Nat) (r_17 : Int) (list_6 : List (Int × Int × Int × Int × Int × (Option Addr × Nat × Nat))) (m_15 : List ((Option Addr × Nat × Nat) × List (Int))) => embrasureref13_Net_Take_wp L_5 Last_1 no15 m_15 (fun (r_18 : Int) (r_19 : Int) (r_20 : Int) (r_21 : Int) (r_22 : Int) (hd_1 : Option Addr × Nat × Nat) (r_23 : Int) (L_6 : List (Int × Int × Int × Int × Int × (Option Addr × Nat × Nat))) (m_16 : List ((Option Addr × Nat × Nat) × List (Int))) => joinP1 (fun (t81 : Bool) => cond t81 (K (false)) (Q_2 L_6 Last_1 list_6 last_2 m_16)) (fun (Q_6 : Bool → Prop) => ∃ (xs : List (Int)), PH m_16 hd xs ∧ (∃ (xs_1 : List (Int)), PH m_16 hd_1 xs_1 ∧ (embrasureref13_Same_wp r_12 r_13 r_14 r_15 r_16 xs r_18 r_19 r_20 r_21 r_22 xs_1 (fun (r_24 : Bool) => cond (!r_24) (Q_6 true) (Q_6 ((r_17 : Int) != r_23))))))))) (fun (Q_5 : List (Int × Int × Int × Int × Int × (Option Addr × Nat × Nat)) → Int → Prop) => cond ((x_1.1 : Int) == 3) (net_Net_At_wp list_2 last_2 x_1.2.1 (fun (r_10 : Int) => embrasureref13_Net_At_wp L_1 Last_1 x_1.2.1 (fun (r_11 : Int) => cond ((r_10 : Int) != r_11) (K (false)) (Q_5 L_1 r_10)))) (Q_5 L_1 x_1.2.1)))))))) (Q L_1 Last_1 list_2 last_2 m_3)) (fun (Q_1 : Bool → Prop) => cond (decide ((i5 : Int) < ((script.length : Nat) : Int))) (Q_1 (decide ((i5 : Int) < 100))) (Q_1 false)))))))))
theorem embrasurelaw13_NetPlays_ok {p_1 : Option Addr} {n_1 : Nat} {c_1 : Nat} {script : List (Int × Int × Int × Int × Int × Int × (List (Int)))} {FL : List HP} {w : World} {K : Bool → Prop} {R : Value → World → Prop}
  (hF_script : ∀ w, Mem FL w → RdD w 7 p_1 (encR37 FL) script) (hl_script : n_1 = script.length) (hc_script : n_1 ≤ c_1)
  (h : Mem (FL) w) (hp : embrasurelaw13_NetPlays_wp script K)
  (hR : ∀ (r : Bool) (w : World), Mem (FL) w → K r → R (Value.bool r) w) :
  CallV Try.prog 5 #[(Value.slice p_1 n_1 c_1)] w R := by
  refine embrasurelaw13_NetPlays_call ?_
  unfold embrasurelaw13_NetPlays
  unfold embrasurelaw13_NetPlays_wp at hp
  subst hl_script
  replace h := marksNil h
  replace h := poolNil enc5 5 1 h
  refine newL (o := [(Value.bool false)]) h ?_
  intro b_1 w h
  refine embrasurelaw13_awake_ok h hp ?_
  intro r w h hp
  refine ⟨_, rfl, ?_⟩
  refine cond_both hp (fun hp => ?_) (fun hp => ?_)
  · refine storeL (ys := [(Value.bool false)]) h 0 0 rfl rfl rfl sz4 rfl rfl ?_
    intro w h
    dsimp only [setH, setVs, setV] at h
    replace h := h.pick [2]
    dsimp only [pickL, pickR, nthH, delH, dropH, List.cons_append, List.nil_append] at h
    refine ⟨_, cellL h 1 0 rfl rfl rfl, ?_⟩
    replace h := h.sel [] 3
    dsimp only [pickL, pickR, nthH, delH, dropH, List.cons_append, List.nil_append] at h
    exact hR (false) _ h hp
  refine embrasurelaw13_small_ok (FL := cel b_1 4 [(Value.bool false)] :: poolP enc5 5 1 ([] : List ((Option Addr × Nat × Nat) × List (Int))) :: marksP [] :: FL) (fun w h => RdD.mono (encRm37 (fun w h => h.drop 3)) (hF_script _ (h.drop 3))) rfl hc_script h hp ?_
  intro r_1 w h hp
  refine ⟨_, rfl, ?_⟩
  refine cond_both hp (fun hp => ?_) (fun hp => ?_)
  · refine storeL (ys := [(Value.bool true)]) h 0 0 rfl rfl rfl sz4 rfl rfl ?_
    intro w h
    dsimp only [setH, setVs, setV] at h
    replace h := h.pick [2]
    dsimp only [pickL, pickR, nthH, delH, dropH, List.cons_append, List.nil_append] at h
    refine ⟨_, cellL h 1 0 rfl rfl rfl, ?_⟩
    replace h := h.sel [] 3
    dsimp only [pickL, pickR, nthH, delH, dropH, List.cons_append, List.nil_append] at h
    exact hR (true) _ h hp
  refine net_New_ok h hp ?_
  rintro list last b_2 p_2 n_2 c_2 w rfl h hp
  have cpp_2 := rowCap h 1 rfl
  refine ⟨_, rfl, ?_⟩
  refine newL (o := [(Value.slice none 0 0), (Value.int .i64 0)]) h ?_
  intro b_3 w h
  refine newL (o := [(Value.pointer none)]) h ?_
  intro b_4 w h
  refine storeL (ys := [(Value.pointer (some (Addr.mk b_3 0 none)))]) h 0 0 rfl rfl rfl sz47 rfl rfl ?_
  intro w h
  dsimp only [setH, setVs, setV] at h
  obtain ⟨Q, hq, hp⟩ := hp
  refine ⟨fun t2 m_2 w => ∃ (L : List (Int × Int × Int × Int × Int × (Option Addr × Nat × Nat))), ∃ (p_3 : Option Addr), ∃ (n_3 : Nat), ∃ (c_3 : Nat), ∃ (Last : Int), ∃ (list_1 : List (Int × Int × Int × Int × Int × (Option Addr × Nat × Nat))), ∃ (p_4 : Option Addr), ∃ (n_4 : Nat), ∃ (c_4 : Nat), ∃ (last_1 : Int), ∃ (m_1 : List ((Option Addr × Nat × Nat) × List (Int))), (Addr.mk b_1 0 none) = t2 ∧ n_3 = L.length ∧ n_4 = list_1.length ∧ Q L Last list_1 last_1 m_1 ∧ Mem (cel b_4 47 [(Value.pointer (some (Addr.mk b_3 0 none)))] :: cel b_3 50 [(Value.slice p_3 n_3 c_3), (Value.int .i64 Last)] :: row enc39 39 6 p_3 c_3 L :: cel b_2 59 [(Value.slice p_4 n_4 c_4), (Value.int .i64 last_1)] :: row enc39 39 6 p_4 c_4 list_1 :: cel b_1 4 [(Value.bool false)] :: poolP enc5 5 1 m_1 :: marksP m_2 :: FL) w, ?_, ?_⟩
  · rintro t2 m_2 w ⟨L, p_3, n_3, c_3, Last, list_1, p_4, n_4, c_4, last_1, m_1, rfl, rfl, rfl, hp, h⟩
    replace hp := hq L Last list_1 last_1 m_1 hp
    unfold embrasurelaw13_NetPlays_j1
    have cpp_3 := rowCap h 2 rfl
    have cpp_4 := rowCap h 4 rfl
    refine storeL (ys := [(Value.bool true)]) h 5 0 rfl rfl rfl sz4 rfl rfl ?_
    intro w h
    dsimp only [setH, setVs, setV] at h
    replace h := h.pick [7]
    dsimp only [pickL, pickR, nthH, delH, dropH, List.cons_append, List.nil_append] at h
    refine finishMarks _ h ?_
    intro w h
    refine ⟨_, cellL h 5 0 rfl rfl rfl, ?_⟩
    replace h := h.sel [] 7
    dsimp only [pickL, pickR, nthH, delH, dropH, List.cons_append, List.nil_append] at h
    exact hR (true) _ h hp
  clear hq
  obtain ⟨I, ⟨n_19, h0⟩, hq⟩ := hp
  replace h := rowNil enc39 39 6 h
  replace h := h.sel [1, 1, 0, 0, 0, 0, 0, 0] 0
  dsimp only [pickL, pickR, nthH, delH, dropH, List.cons_append, List.nil_append] at h
  refine ⟨fun n_7 script0p script0l script0c t2_1 n3 r4 i5 m_4 w => ∃ (L_1 : List (Int × Int × Int × Int × Int × (Option Addr × Nat × Nat))), ∃ (p_5 : Option Addr), ∃ (n_5 : Nat), ∃ (c_5 : Nat), ∃ (Last_1 : Int), ∃ (list_2 : List (Int × Int × Int × Int × Int × (Option Addr × Nat × Nat))), ∃ (p_6 : Option Addr), ∃ (n_6 : Nat), ∃ (c_6 : Nat), ∃ (last_2 : Int), ∃ (m_3 : List ((Option Addr × Nat × Nat) × List (Int))), p_1 = script0p ∧ script.length = script0l ∧ c_1 = script0c ∧ (Addr.mk b_1 0 none) = t2_1 ∧ (some (Addr.mk b_2 0 none)) = n3 ∧ (Addr.mk b_4 0 none) = r4 ∧ n_5 = L_1.length ∧ n_6 = list_2.length ∧ I n_7 L_1 Last_1 list_2 last_2 i5 m_3 ∧ Mem (cel b_4 47 [(Value.pointer (some (Addr.mk b_3 0 none)))] :: cel b_3 50 [(Value.slice p_5 n_5 c_5), (Value.int .i64 Last_1)] :: row enc39 39 6 p_5 c_5 L_1 :: cel b_2 59 [(Value.slice p_6 n_6 c_6), (Value.int .i64 last_2)] :: row enc39 39 6 p_6 c_6 list_2 :: cel b_1 4 [(Value.bool false)] :: poolP enc5 5 1 m_3 :: marksP m_4 :: FL) w, ⟨n_19, ([] : List (Int × Int × Int × Int × Int × (Option Addr × Nat × Nat))), none , 0, 0, 0, list, p_2, list.length, c_2, last, ([] : List ((Option Addr × Nat × Nat) × List (Int))), rfl, rfl, rfl, rfl, rfl, rfl, rfl, rfl, h0, h⟩, ?_⟩
  clear h0 h
  rintro n_7 script0p script0l script0c t2_1 n3 r4 i5 m_4 w ⟨L_1, p_5, n_5, c_5, Last_1, list_2, p_6, n_6, c_6, last_2, m_3, rfl, rfl, rfl, rfl, rfl, rfl, rfl, rfl, hp, h⟩
  replace hp := hq n_7 L_1 Last_1 list_2 last_2 i5 m_3 hp
  clear hq
  unfold embrasurelaw13_NetPlays_l2
  have cpp_5 := rowCap h 2 rfl
  have cpp_6 := rowCap h 4 rfl
  obtain ⟨Q_1, hq, hp⟩ := hp
  refine ⟨fun script0_1p script0_1l script0_1c t2_2 n3_1 r4_1 i5_1 t37 m_5 w => p_1 = script0_1p ∧ script.length = script0_1l ∧ c_1 = script0_1c ∧ (Addr.mk b_1 0 none) = t2_2 ∧ (some (Addr.mk b_2 0 none)) = n3_1 ∧ (Addr.mk b_4 0 none) = r4_1 ∧ i5 = i5_1 ∧ Q_1 t37 ∧ Mem (cel b_4 47 [(Value.pointer (some (Addr.mk b_3 0 none)))] :: cel b_3 50 [(Value.slice p_5 L_1.length c_5), (Value.int .i64 Last_1)] :: row enc39 39 6 p_5 c_5 L_1 :: cel b_2 59 [(Value.slice p_6 list_2.length c_6), (Value.int .i64 last_2)] :: row enc39 39 6 p_6 c_6 list_2 :: cel b_1 4 [(Value.bool false)] :: poolP enc5 5 1 m_3 :: marksP m_5 :: FL) w, ?_, ?_⟩
  · rintro script0_1p script0_1l script0_1c t2_2 n3_1 r4_1 i5_1 t37 m_5 w ⟨rfl, rfl, rfl, rfl, rfl, rfl, rfl, hp, h⟩
    replace hp := hq t37 hp
    unfold embrasurelaw13_NetPlays_j3
    refine cond_both' hp (fun hp => ?_) (fun hp => ?_)
    · exact ⟨L_1, p_5, L_1.length, c_5, Last_1, list_2, p_6, list_2.length, c_6, last_2, m_3, rfl, rfl, rfl, hp, h⟩
    obtain ⟨ia_1, ja_1, hp⟩ := hp
    obtain ⟨a_1, ha_1⟩ := rdAddrD (hF_script _ (h.drop 8)) rfl ia_1 ja_1
    refine ⟨a_1, ha_1, ia_1, ja_1, ?_⟩
    obtain ⟨x_1, hx_1, cs, hR, hc0, hc1, hc2⟩ := rdCellD (hF_script _ (h.drop 8)) ha_1 rfl ia_1 ja_1
    replace hp := hp x_1 hx_1
    obtain ⟨qp6, qn6, qc6, rfl, rfl, hc_qp6, hF_qp6⟩ := hR
    refine ⟨_, hc1 0 _ rfl, _, hc1 1 _ rfl, _, hc1 2 _ rfl, _, hc1 3 _ rfl, _, hc1 4 _ rfl, _, hc1 5 _ rfl, _, _, _, hc1 6 _ rfl, ?_⟩
    refine newL (o := [(Value.int .i64 0), (Value.int .i64 0), (Value.int .u32 0), (Value.int .i64 0), (Value.int .u32 0), (Value.int .i64 0), (Value.slice none 0 0)]) h ?_
    intro b_5 w h
    refine storeL (ys := [(Value.int .i64 x_1.1), (Value.int .i64 x_1.2.1), (Value.int .u32 x_1.2.2.1), (Value.int .i64 x_1.2.2.2.1), (Value.int .u32 x_1.2.2.2.2.1), (Value.int .i64 x_1.2.2.2.2.2.1), (Value.slice qp6 x_1.2.2.2.2.2.2.length qc6)]) h 0 0 rfl rfl rfl sz37 rfl rfl ?_
    intro w h
    dsimp only [setH, setVs, setV] at h
    obtain ⟨Q_2, hq, hp⟩ := hp
    refine ⟨fun script0_2p script0_2l script0_2c t2_3 n3_2 r4_2 i5_2 m_7 w => ∃ (L_2 : List (Int × Int × Int × Int × Int × (Option Addr × Nat × Nat))), ∃ (p_7 : Option Addr), ∃ (n_8 : Nat), ∃ (c_7 : Nat), ∃ (Last_2 : Int), ∃ (list_3 : List (Int × Int × Int × Int × Int × (Option Addr × Nat × Nat))), ∃ (p_8 : Option Addr), ∃ (n_9 : Nat), ∃ (c_8 : Nat), ∃ (last_3 : Int), ∃ (m_6 : List ((Option Addr × Nat × Nat) × List (Int))), p_1 = script0_2p ∧ script.length = script0_2l ∧ c_1 = script0_2c ∧ (Addr.mk b_1 0 none) = t2_3 ∧ (some (Addr.mk b_2 0 none)) = n3_2 ∧ (Addr.mk b_4 0 none) = r4_2 ∧ i5 = i5_2 ∧ n_8 = L_2.length ∧ n_9 = list_3.length ∧ Q_2 L_2 Last_2 list_3 last_3 m_6 ∧ Mem (cel b_5 37 [(Value.int .i64 x_1.1), (Value.int .i64 x_1.2.1), (Value.int .u32 x_1.2.2.1), (Value.int .i64 x_1.2.2.2.1), (Value.int .u32 x_1.2.2.2.2.1), (Value.int .i64 x_1.2.2.2.2.2.1), (Value.slice qp6 x_1.2.2.2.2.2.2.length qc6)] :: cel b_4 47 [(Value.pointer (some (Addr.mk b_3 0 none)))] :: cel b_3 50 [(Value.slice p_7 n_8 c_7), (Value.int .i64 Last_2)] :: row enc39 39 6 p_7 c_7 L_2 :: cel b_2 59 [(Value.slice p_8 n_9 c_8), (Value.int .i64 last_3)] :: row enc39 39 6 p_8 c_8 list_3 :: cel b_1 4 [(Value.bool false)] :: poolP enc5 5 1 m_6 :: marksP m_7 :: FL) w, ?_, ?_⟩
    · rintro script0_2p script0_2l script0_2c t2_3 n3_2 r4_2 i5_2 m_7 w ⟨L_2, p_7, n_8, c_7, Last_2, list_3, p_8, n_9, c_8, last_3, m_6, rfl, rfl, rfl, rfl, rfl, rfl, rfl, rfl, rfl, hp, h⟩
      replace hp := hq L_2 Last_2 list_3 last_3 m_6 hp
      unfold embrasurelaw13_NetPlays_j4
      have cpp_7 := rowCap h 3 rfl
      have cpp_8 := rowCap h 5 rfl
      refine newL (o := [(Value.int .i64 0)]) h ?_
      intro b_8 w h
      refine storeL (ys := [(Value.int .i64 0)]) h 0 0 rfl rfl rfl sz3 rfl rfl ?_
      intro w h
      dsimp only [setH, setVs, setV] at h
      obtain ⟨Q_7, hq, hp⟩ := hp
      refine ⟨fun script0_7p script0_7l script0_7c t2_8 n3_7 r4_7 i5_7 k20 m_18 w => ∃ (x_2 : Int), p_1 = script0_7p ∧ script.length = script0_7l ∧ c_1 = script0_7c ∧ (Addr.mk b_1 0 none) = t2_8 ∧ (some (Addr.mk b_2 0 none)) = n3_7 ∧ (Addr.mk b_4 0 none) = r4_7 ∧ i5 = i5_7 ∧ (Addr.mk b_8 0 none) = k20 ∧ Q_7 x_2 ∧ Mem (cel b_8 3 [(Value.int .i64 x_2)] :: cel b_5 37 [(Value.int .i64 x_1.1), (Value.int .i64 x_1.2.1), (Value.int .u32 x_1.2.2.1), (Value.int .i64 x_1.2.2.2.1), (Value.int .u32 x_1.2.2.2.2.1), (Value.int .i64 x_1.2.2.2.2.2.1), (Value.slice qp6 x_1.2.2.2.2.2.2.length qc6)] :: cel b_4 47 [(Value.pointer (some (Addr.mk b_3 0 none)))] :: cel b_3 50 [(Value.slice p_7 L_2.length c_7), (Value.int .i64 Last_2)] :: row enc39 39 6 p_7 c_7 L_2 :: cel b_2 59 [(Value.slice p_8 list_3.length c_8), (Value.int .i64 last_3)] :: row enc39 39 6 p_8 c_8 list_3 :: cel b_1 4 [(Value.bool false)] :: poolP enc5 5 1 m_6 :: marksP m_18 :: FL) w, ?_, ?_⟩
      · rintro script0_7p script0_7l script0_7c t2_8 n3_7 r4_7 i5_7 k20 m_18 w ⟨x_2, rfl, rfl, rfl, rfl, rfl, rfl, rfl, rfl, hp, h⟩
        replace hp := hq x_2 hp
        unfold embrasurelaw13_NetPlays_j5
        obtain ⟨Q_9, hq, hp⟩ := hp
        refine ⟨fun script0_8p script0_8l script0_8c t2_10 n3_8 r4_8 i5_8 t174 m_20 w => p_1 = script0_8p ∧ script.length = script0_8l ∧ c_1 = script0_8c ∧ (Addr.mk b_1 0 none) = t2_10 ∧ (some (Addr.mk b_2 0 none)) = n3_8 ∧ (Addr.mk b_4 0 none) = r4_8 ∧ i5 = i5_8 ∧ Q_9 t174 ∧ Mem (cel b_8 3 [(Value.int .i64 x_2)] :: cel b_5 37 [(Value.int .i64 x_1.1), (Value.int .i64 x_1.2.1), (Value.int .u32 x_1.2.2.1), (Value.int .i64 x_1.2.2.2.1), (Value.int .u32 x_1.2.2.2.2.1), (Value.int .i64 x_1.2.2.2.2.2.1), (Value.slice qp6 x_1.2.2.2.2.2.2.length qc6)] :: cel b_4 47 [(Value.pointer (some (Addr.mk b_3 0 none)))] :: cel b_3 50 [(Value.slice p_7 L_2.length c_7), (Value.int .i64 Last_2)] :: row enc39 39 6 p_7 c_7 L_2 :: cel b_2 59 [(Value.slice p_8 list_3.length c_8), (Value.int .i64 last_3)] :: row enc39 39 6 p_8 c_8 list_3 :: cel b_1 4 [(Value.bool false)] :: poolP enc5 5 1 m_6 :: marksP m_20 :: FL) w, ?_, ?_⟩
        · rintro script0_8p script0_8l script0_8c t2_10 n3_8 r4_8 i5_8 t174 m_20 w ⟨rfl, rfl, rfl, rfl, rfl, rfl, rfl, hp, h⟩
          replace hp := hq t174 hp
          unfold embrasurelaw13_NetPlays_j6
          refine cond_both' hp (fun hp => ?_) (fun hp => ?_)
          · replace h := h.sel [2, 2, 2, 2, 2, 2, 2, 2] 2
            dsimp only [pickL, pickR, nthH, delH, dropH, List.cons_append, List.nil_append] at h
            obtain ⟨n_18, hn, hp⟩ := hp
            exact ⟨n_18, hn, L_2, p_7, L_2.length, c_7, Last_2, list_3, p_8, list_3.length, c_8, last_3, m_6, rfl, rfl, rfl, rfl, rfl, rfl, rfl, rfl, hp, h⟩
          refine storeL (ys := [(Value.bool false)]) h 7 0 rfl rfl rfl sz4 rfl rfl ?_
          intro w h
          dsimp only [setH, setVs, setV] at h
          replace h := h.pick [9]
          dsimp only [pickL, pickR, nthH, delH, dropH, List.cons_append, List.nil_append] at h
          refine finishMarks _ h ?_
          intro w h
          refine ⟨_, cellL h 7 0 rfl rfl rfl, ?_⟩
          replace h := h.sel [] 9
          dsimp only [pickL, pickR, nthH, delH, dropH, List.cons_append, List.nil_append] at h
          exact hR (false) _ h hp
        clear hq
        replace h := h.drew
        refine ⟨fun w => Mem (cel b_8 3 [(Value.int .i64 x_2)] :: FL) w, (h.sel [0] 9), ?_⟩
        refine ⟨_, cellL h 0 0 rfl rfl rfl, ?_⟩
        refine ⟨_, cellL h 2 0 rfl rfl rfl, ?_⟩
        refine ⟨_, rfl, ?_⟩
        refine ⟨_, _, _, cellL h 3 0 rfl rfl rfl, ?_⟩
        refine ⟨rfl, ?_⟩
        refine cond_both hp (fun hp => ?_) (fun hp => ?_)
        · exact ⟨rfl, rfl, rfl, rfl, rfl, rfl, rfl, hp, h⟩
        refine ⟨_, cellL h 0 0 rfl rfl rfl, ?_⟩
        refine ⟨?_, ?_⟩
        · intro w h
          change Mem _ _ at h
          refine ⟨_, cellL h 0 0 rfl rfl rfl, ?_⟩
          exact ⟨rfl, rfl⟩
        replace h := h.pick [5, 5]
        dsimp only [pickL, pickR, nthH, delH, dropH, List.cons_append, List.nil_append] at h
        refine net_Net_Count_ok h hp ?_
        intro r_26 w h hp
        have cpp_8 := rowCap h 1 rfl
        refine ⟨_, rfl, ?_⟩
        refine ⟨(h.sel [2] 9), ?_⟩
        replace h := h.sel [2, 2, 2, 2, 2, 0, 0, 0, 0, 0] 0
        dsimp only [pickL, pickR, nthH, delH, dropH, List.cons_append, List.nil_append] at h
        exact ⟨rfl, rfl, rfl, rfl, rfl, rfl, rfl, hp, h⟩
      clear hq
      replace h := h.pick [5, 5]
      dsimp only [pickL, pickR, nthH, delH, dropH, List.cons_append, List.nil_append] at h
      refine net_Net_All_ok h hp ?_
      rintro x_3 b_9 p_16 n_17 c_16 w rfl h hp
      have cpp_16 := rowCap h 1 rfl
      have cpp_8 := rowCap h 3 rfl
      refine ⟨_, _, _, rfl, ?_⟩
      intro e_1 fn_e_1 he_e_1 hr_e_1
      refine newO h ?_
      intro d w h
      refine newO h ?_
      intro l_1 w h
      replace h := h.pick [1, 12]
      dsimp only [pickL, pickR, nthH, delH, dropH, List.cons_append, List.nil_append] at h
      replace h := marksPush h
      show rangeCallW _ (Value.func (Fn.func 30) _ _) _ _ _
      refine rangeCallFn (by kernel_rfl) ?_
      replace h := h.pick [1, 3, 3, 3, 3, 3, 3, 3, 3]
      dsimp only [pickL, pickR, nthH, delH, dropH, List.cons_append, List.nil_append] at h
      replace h : Mem ((fun (s : Nat × Int) => HL [pt l_1 (loopS (embrasurelaw13_NetPlays_lo1 fn_e_1 e_1 d) s.1 (fun (n : Nat) => ((if n = 0 then none else (some .ret)) : Option Code))), cel b_2 59 [(Value.slice p_8 list_3.length c_8), (Value.int .i64 last_3)], row enc39 39 6 p_8 c_8 list_3, cel b_8 3 [(Value.int .i64 s.2)], cel b_5 37 [(Value.int .i64 x_1.1), (Value.int .i64 x_1.2.1), (Value.int .u32 x_1.2.2.1), (Value.int .i64 x_1.2.2.2.1), (Value.int .u32 x_1.2.2.2.2.1), (Value.int .i64 x_1.2.2.2.2.2.1), (Value.slice qp6 x_1.2.2.2.2.2.2.length qc6)], cel b_4 47 [(Value.pointer (some (Addr.mk b_3 0 none)))], cel b_3 50 [(Value.slice p_7 L_2.length c_7), (Value.int .i64 Last_2)], row enc39 39 6 p_7 c_7 L_2, cel b_1 4 [(Value.bool false)]]) (0, 0) :: marksP (d :: m_7) :: cel b_9 48 [(Value.slice p_16 x_3.length c_16)] :: row enc39 39 6 p_16 c_16 x_3 :: poolP enc5 5 1 m_6 :: FL) _ := h.pack 9 [pt l_1 (loopS (embrasurelaw13_NetPlays_lo1 fn_e_1 e_1 d) 0 (fun (n : Nat) => ((if n = 0 then none else (some .ret)) : Option Code))), cel b_2 59 [(Value.slice p_8 list_3.length c_8), (Value.int .i64 last_3)], row enc39 39 6 p_8 c_8 list_3, cel b_8 3 [(Value.int .i64 0)], cel b_5 37 [(Value.int .i64 x_1.1), (Value.int .i64 x_1.2.1), (Value.int .u32 x_1.2.2.1), (Value.int .i64 x_1.2.2.2.1), (Value.int .u32 x_1.2.2.2.2.1), (Value.int .i64 x_1.2.2.2.2.2.1), (Value.slice qp6 x_1.2.2.2.2.2.2.length qc6)], cel b_4 47 [(Value.pointer (some (Addr.mk b_3 0 none)))], cel b_3 50 [(Value.slice p_7 L_2.length c_7), (Value.int .i64 Last_2)], row enc39 39 6 p_7 c_7 L_2, cel b_1 4 [(Value.bool false)]] rfl
      replace h := h.pick [2, 0]
      dsimp only [pickL, pickR, nthH, delH, dropH, List.cons_append, List.nil_append] at h
      have hPr5 := roPool (h.drop 2) 2 encL5 rfl
      refine net_Net_All_c1_ok (FL := marksP (d :: m_7) :: row enc39 39 6 p_16 c_16 x_3 :: poolP enc5 5 1 m_6 :: FL) (A0 := (fun (s : Nat × Int) => HL [pt l_1 (loopS (embrasurelaw13_NetPlays_lo1 fn_e_1 e_1 d) s.1 (fun (n : Nat) => ((if n = 0 then none else (some .ret)) : Option Code))), cel b_2 59 [(Value.slice p_8 list_3.length c_8), (Value.int .i64 last_3)], row enc39 39 6 p_8 c_8 list_3, cel b_8 3 [(Value.int .i64 s.2)], cel b_5 37 [(Value.int .i64 x_1.1), (Value.int .i64 x_1.2.1), (Value.int .u32 x_1.2.2.1), (Value.int .i64 x_1.2.2.2.1), (Value.int .u32 x_1.2.2.2.2.1), (Value.int .i64 x_1.2.2.2.2.2.1), (Value.slice qp6 x_1.2.2.2.2.2.2.length qc6)], cel b_4 47 [(Value.pointer (some (Addr.mk b_3 0 none)))], cel b_3 50 [(Value.slice p_7 L_2.length c_7), (Value.int .i64 Last_2)], row enc39 39 6 p_7 c_7 L_2, cel b_1 4 [(Value.bool false)]])) (Y0 := (fun x_5 (s : Nat × Int) K_1 => s.1 = 0 ∧ (joinP1 (fun (t159 : Bool) => cond t159 (K_1 false (1, s.2)) (K_1 true (0, (IntKind.wrap .i64 (s.2 + 1))))) (fun (Q_8 : Bool → Prop) => cond (decide ((s.2 : Int) ≥ ((L_2.length : Nat) : Int))) (Q_8 true) (0 ≤ (s.2 : Int) ∧ (s.2 : Int) < ((L_2.length : Nat) : Int) ∧ (∀ (x_6 : Int × Int × Int × Int × Int × (Option Addr × Nat × Nat)), L_2[Int.toNat s.2]? = some x_6 → (∃ (xs_2 : List (Int)), PH m_6 x_6.2.2.2.2.2 xs_2 ∧ (embrasureref13_Same_wp x_5.1 x_5.2.1 x_5.2.2.1 x_5.2.2.2.1 x_5.2.2.2.2.1 x_5.2.2.2.2.2 x_6.1 x_6.2.1 x_6.2.2.1 x_6.2.2.2.1 x_6.2.2.2.2.1 xs_2 (fun (r_25 : Bool) => Q_8 (!r_25)))))))))) (σ0 := Nat × Int) (s := (0, 0)) ?_ (fun w h => (rowRd h 1 encL39 rfl)) rfl cpp_16 hPr5 h hp ?_
      · intro x_5 qx_5p5 qx_5c5 s K_1 FL2 w R hx h hp hR
        replace h := h.pick [1]
        dsimp only [pickL, pickR, nthH, delH, dropH, List.cons_append, List.nil_append] at h
        replace h := h.unpack
        dsimp only [pickL, pickR, nthH, delH, dropH, List.cons_append, List.nil_append] at h
        obtain ⟨hst, hp⟩ := hp
        refine embrasurelaw13_NetPlays_r1_yield (by have := objAt h 0 rfl; rw [hst] at this; exact this) he_e_1 hr_e_1 ?_
        unfold embrasurelaw13_NetPlays_r1
        have hPx5 := hPr5.mono hx
        have cpqx_5p5 := rowCap h 9 rfl
        refine newL (o := [(Value.int .i64 0), (Value.int .u32 0), (Value.int .i64 0), (Value.int .u32 0), (Value.int .i64 0), (Value.slice none 0 0)]) h ?_
        intro b_10 w h
        refine storeL (ys := [(Value.int .i64 x_5.1), (Value.int .u32 x_5.2.1), (Value.int .i64 x_5.2.2.1), (Value.int .u32 x_5.2.2.2.1), (Value.int .i64 x_5.2.2.2.2.1), (Value.slice qx_5p5 x_5.2.2.2.2.2.length qx_5c5)]) h 0 0 rfl rfl rfl sz39 rfl rfl ?_
        intro w h
        dsimp only [setH, setVs, setV] at h
        refine ⟨_, (by have := objAt h 1 rfl; rw [hst] at this; exact this : _ = some (Obj.loop (embrasurelaw13_NetPlays_lo1 fn_e_1 e_1 d))), rfl, ?_⟩
        replace h := h.putK 1 rfl (.loop { embrasurelaw13_NetPlays_lo1 fn_e_1 e_1 d with state := .busy })
        dsimp only [setH] at h
        obtain ⟨Q_8, hq, hp⟩ := hp
        refine ⟨fun t2_9 k20_1 t159 m_19 w => (Addr.mk b_1 0 none) = t2_9 ∧ (Addr.mk b_8 0 none) = k20_1 ∧ ([] : List Nat) = m_19 ∧ Q_8 t159 ∧ Mem (cel b_10 39 [(Value.int .i64 x_5.1), (Value.int .u32 x_5.2.1), (Value.int .i64 x_5.2.2.1), (Value.int .u32 x_5.2.2.2.1), (Value.int .i64 x_5.2.2.2.2.1), (Value.slice qx_5p5 x_5.2.2.2.2.2.length qx_5c5)] :: row enc5 5 1 qx_5p5 qx_5c5 x_5.2.2.2.2.2 :: cel b_2 59 [(Value.slice p_8 list_3.length c_8), (Value.int .i64 last_3)] :: row enc39 39 6 p_8 c_8 list_3 :: cel b_8 3 [(Value.int .i64 s.2)] :: cel b_5 37 [(Value.int .i64 x_1.1), (Value.int .i64 x_1.2.1), (Value.int .u32 x_1.2.2.1), (Value.int .i64 x_1.2.2.2.1), (Value.int .u32 x_1.2.2.2.2.1), (Value.int .i64 x_1.2.2.2.2.2.1), (Value.slice qp6 x_1.2.2.2.2.2.2.length qc6)] :: cel b_4 47 [(Value.pointer (some (Addr.mk b_3 0 none)))] :: cel b_3 50 [(Value.slice p_7 L_2.length c_7), (Value.int .i64 Last_2)] :: row enc39 39 6 p_7 c_7 L_2 :: cel b_1 4 [(Value.bool false)] :: pt l_1 (.loop { embrasurelaw13_NetPlays_lo1 fn_e_1 e_1 d with state := .busy }) :: FL2) w, ?_, ?_⟩
        · rintro t2_9 k20_1 t159 m_19 w ⟨rfl, rfl, rfl, hp, h⟩
          replace hp := hq t159 hp
          unfold embrasurelaw13_NetPlays_j7
          refine cond_both hp (fun hp => ?_) (fun hp => ?_)
          · refine storeL (ys := [(Value.bool false)]) h 9 0 rfl rfl rfl sz4 rfl rfl ?_
            intro w h
            dsimp only [setH, setVs, setV] at h
            refine ⟨_, objAt h 10 rfl, ?_⟩
            replace h := h.putK 10 rfl (loopS (embrasurelaw13_NetPlays_lo1 fn_e_1 e_1 d) 1 (fun (n : Nat) => ((if n = 0 then none else (some .ret)) : Option Code)))
            dsimp only [setH] at h
            replace h := h.pick [10]
            dsimp only [pickL, pickR, nthH, delH, dropH, List.cons_append, List.nil_append] at h
            replace h := h.sel [0, 2, 2, 2, 2, 2, 2, 2, 2] 2
            dsimp only [pickL, pickR, nthH, delH, dropH, List.cons_append, List.nil_append] at h
            exact hR false (1, s.2) _ (h.pack 9 [pt l_1 (loopS (embrasurelaw13_NetPlays_lo1 fn_e_1 e_1 d) 1 (fun (n : Nat) => ((if n = 0 then none else (some .ret)) : Option Code))), cel b_2 59 [(Value.slice p_8 list_3.length c_8), (Value.int .i64 last_3)], row enc39 39 6 p_8 c_8 list_3, cel b_8 3 [(Value.int .i64 s.2)], cel b_5 37 [(Value.int .i64 x_1.1), (Value.int .i64 x_1.2.1), (Value.int .u32 x_1.2.2.1), (Value.int .i64 x_1.2.2.2.1), (Value.int .u32 x_1.2.2.2.2.1), (Value.int .i64 x_1.2.2.2.2.2.1), (Value.slice qp6 x_1.2.2.2.2.2.2.length qc6)], cel b_4 47 [(Value.pointer (some (Addr.mk b_3 0 none)))], cel b_3 50 [(Value.slice p_7 L_2.length c_7), (Value.int .i64 Last_2)], row enc39 39 6 p_7 c_7 L_2, cel b_1 4 [(Value.bool false)]] rfl) hp
          refine ⟨_, cellL h 4 0 rfl rfl rfl, ?_⟩
          refine storeL (ys := [(Value.int .i64 (IntKind.wrap .i64 (s.2 + 1)))]) h 4 0 rfl rfl rfl sz3 rfl rfl ?_
          intro w h
          dsimp only [setH, setVs, setV] at h
          refine ⟨_, objAt h 10 rfl, ?_⟩
          replace h := h.putK 10 rfl (loopS (embrasurelaw13_NetPlays_lo1 fn_e_1 e_1 d) 0 (fun (n : Nat) => ((if n = 0 then none else (some .ret)) : Option Code)))
          dsimp only [setH] at h
          replace h := h.pick [10]
          dsimp only [pickL, pickR, nthH, delH, dropH, List.cons_append, List.nil_append] at h
          replace h := h.sel [0, 2, 2, 2, 2, 2, 2, 2, 2] 2
          dsimp only [pickL, pickR, nthH, delH, dropH, List.cons_append, List.nil_append] at h
          exact hR true (0, (IntKind.wrap .i64 (s.2 + 1))) _ (h.pack 9 [pt l_1 (loopS (embrasurelaw13_NetPlays_lo1 fn_e_1 e_1 d) 0 (fun (n : Nat) => ((if n = 0 then none else (some .ret)) : Option Code))), cel b_2 59 [(Value.slice p_8 list_3.length c_8), (Value.int .i64 last_3)], row enc39 39 6 p_8 c_8 list_3, cel b_8 3 [(Value.int .i64 (IntKind.wrap .i64 (s.2 + 1)))], cel b_5 37 [(Value.int .i64 x_1.1), (Value.int .i64 x_1.2.1), (Value.int .u32 x_1.2.2.1), (Value.int .i64 x_1.2.2.2.1), (Value.int .u32 x_1.2.2.2.2.1), (Value.int .i64 x_1.2.2.2.2.2.1), (Value.slice qp6 x_1.2.2.2.2.2.2.length qc6)], cel b_4 47 [(Value.pointer (some (Addr.mk b_3 0 none)))], cel b_3 50 [(Value.slice p_7 L_2.length c_7), (Value.int .i64 Last_2)], row enc39 39 6 p_7 c_7 L_2, cel b_1 4 [(Value.bool false)]] rfl) hp
        clear hq
        replace h := h.drew
        refine ⟨_, cellL h 4 0 rfl rfl rfl, ?_⟩
        refine ⟨_, cellL h 6 0 rfl rfl rfl, ?_⟩
        refine ⟨_, rfl, ?_⟩
        refine ⟨_, _, _, cellL h 7 0 rfl rfl rfl, ?_⟩
        refine ⟨rfl, ?_⟩
        refine cond_both hp (fun hp => ?_) (fun hp => ?_)
        · replace h := h.sel [0, 9, 1, 1, 1, 1, 1, 1, 1, 1, 0] 0
          dsimp only [pickL, pickR, nthH, delH, dropH, List.cons_append, List.nil_append] at h
          exact ⟨rfl, rfl, rfl, hp, h⟩
        refine ⟨_, cellL h 0 0 rfl rfl rfl, _, cellL h 0 1 rfl rfl rfl, _, cellL h 0 2 rfl rfl rfl, _, cellL h 0 3 rfl rfl rfl, _, cellL h 0 4 rfl rfl rfl, _, _, _, cellL h 0 5 rfl rfl rfl, ?_⟩
        refine ⟨_, cellL h 6 0 rfl rfl rfl, ?_⟩
        refine ⟨_, rfl, ?_⟩
        refine ⟨_, _, _, cellL h 7 0 rfl rfl rfl, ?_⟩
        refine ⟨_, cellL h 4 0 rfl rfl rfl, ?_⟩
        obtain ⟨ia_2, ja_2, hp⟩ := hp
        obtain ⟨a_2, ha_2⟩ := rdAddr (rowRd h 8 encL39 rfl) rfl ia_2 ja_2
        refine ⟨a_2, ha_2, ia_2, ja_2, ?_⟩
        obtain ⟨x_6, hx_6, hc⟩ := rdCell (rowRd h 8 encL39 rfl) ha_2 rfl ia_2 ja_2
        replace hp := hp x_6 hx_6
        refine ⟨_, hc 0 _ rfl, _, hc 1 _ rfl, _, hc 2 _ rfl, _, hc 3 _ rfl, _, hc 4 _ rfl, _, _, _, hc 5 _ rfl, ?_⟩
        obtain ⟨xs_2, hq_xs_2, hp⟩ := hp
        have hl_xs_2 := (hPx5.1 _ _ hq_xs_2).1
        have hc_xs_2 := (hPx5.1 _ _ hq_xs_2).2
        refine embrasureref13_Same_ok (FL := cel b_10 39 [(Value.int .i64 x_5.1), (Value.int .u32 x_5.2.1), (Value.int .i64 x_5.2.2.1), (Value.int .u32 x_5.2.2.2.1), (Value.int .i64 x_5.2.2.2.2.1), (Value.slice qx_5p5 x_5.2.2.2.2.2.length qx_5c5)] :: pt l_1 (.loop { embrasurelaw13_NetPlays_lo1 fn_e_1 e_1 d with state := .busy }) :: cel b_2 59 [(Value.slice p_8 list_3.length c_8), (Value.int .i64 last_3)] :: row enc39 39 6 p_8 c_8 list_3 :: cel b_8 3 [(Value.int .i64 s.2)] :: cel b_5 37 [(Value.int .i64 x_1.1), (Value.int .i64 x_1.2.1), (Value.int .u32 x_1.2.2.1), (Value.int .i64 x_1.2.2.2.1), (Value.int .u32 x_1.2.2.2.2.1), (Value.int .i64 x_1.2.2.2.2.2.1), (Value.slice qp6 x_1.2.2.2.2.2.2.length qc6)] :: cel b_4 47 [(Value.pointer (some (Addr.mk b_3 0 none)))] :: cel b_3 50 [(Value.slice p_7 L_2.length c_7), (Value.int .i64 Last_2)] :: row enc39 39 6 p_7 c_7 L_2 :: cel b_1 4 [(Value.bool false)] :: row enc5 5 1 qx_5p5 qx_5c5 x_5.2.2.2.2.2 :: FL2) (fun w h => (rowRd h 10 encL5 rfl)) rfl cpqx_5p5 (fun w h => (hPx5.2 _ _ hq_xs_2 _ (h.drop 11))) hl_xs_2 hc_xs_2 h hp ?_
        intro r_25 w h hp
        refine ⟨_, rfl, ?_⟩
        replace h := h.sel [0, 9, 1, 1, 1, 1, 1, 1, 1, 1, 0] 0
        dsimp only [pickL, pickR, nthH, delH, dropH, List.cons_append, List.nil_append] at h
        exact ⟨rfl, rfl, rfl, hp, h⟩
      intro s_1 w h hp
      replace h := h.pick [1]
      dsimp only [pickL, pickR, nthH, delH, dropH, List.cons_append, List.nil_append] at h
      replace h := h.unpack
      dsimp only [pickL, pickR, nthH, delH, dropH, List.cons_append, List.nil_append] at h
      refine ⟨_, objAt h 0 rfl, loopS_ns _, ?_⟩
      replace h := h.putK 0 rfl (.loop { embrasurelaw13_NetPlays_lo1 fn_e_1 e_1 d with state := .exhausted, pending := (fun (n : Nat) => ((if n = 0 then none else (some .ret)) : Option Code)) s_1.1 })
      dsimp only [setH] at h
      rcases hp with ⟨hst, hp⟩ | ⟨hst, hp⟩
      · refine Or.inl ?_
        refine ⟨congrArg (fun (n : Nat) => ((if n = 0 then none else (some .ret)) : Option Code)) hst, ?_⟩
        replace h := h.sel [3, 3, 3, 3, 3, 1, 1, 1, 4, 2] 3
        dsimp only [pickL, pickR, nthH, delH, dropH, List.cons_append, List.nil_append] at h
        exact ⟨s_1.2, rfl, rfl, rfl, rfl, rfl, rfl, rfl, rfl, hp, h⟩
      · refine Or.inr (?_)
        refine ⟨show (fun (n : Nat) => ((if n = 0 then none else (some .ret)) : Option Code)) s_1.1 = _ from if_neg hst, ?_⟩
        replace h := h.pick [10]
        dsimp only [pickL, pickR, nthH, delH, dropH, List.cons_append, List.nil_append] at h
        refine finishMarks _ h ?_
        intro w h
        refine ⟨_, cellL h 8 0 rfl rfl rfl, ?_⟩
        replace h := h.sel [] 12
        dsimp only [pickL, pickR, nthH, delH, dropH, List.cons_append, List.nil_append] at h
        exact hR (false) _ h hp
    clear hq
    refine ⟨_, cellL h 0 0 rfl rfl rfl, ?_⟩
    refine cond_both hp (fun hp => ?_) (fun hp => ?_)
    · refine ⟨_, cellL h 0 2 rfl rfl rfl, _, cellL h 0 3 rfl rfl rfl, ?_⟩
      refine ⟨_, cellL h 0 4 rfl rfl rfl, _, cellL h 0 5 rfl rfl rfl, ?_⟩
      refine ⟨_, _, _, cellL h 0 6 rfl rfl rfl, ?_⟩
      replace h := h.pick [4, 4, 5]
      dsimp only [pickL, pickR, nthH, delH, dropH, List.cons_append, List.nil_append] at h
      refine net_Net_Send_ok (FL := cel b_5 37 [(Value.int .i64 x_1.1), (Value.int .i64 x_1.2.1), (Value.int .u32 x_1.2.2.1), (Value.int .i64 x_1.2.2.2.1), (Value.int .u32 x_1.2.2.2.2.1), (Value.int .i64 x_1.2.2.2.2.2.1), (Value.slice qp6 x_1.2.2.2.2.2.2.length qc6)] :: cel b_4 47 [(Value.pointer (some (Addr.mk b_3 0 none)))] :: cel b_3 50 [(Value.slice p_5 L_1.length c_5), (Value.int .i64 Last_1)] :: row enc39 39 6 p_5 c_5 L_1 :: cel b_1 4 [(Value.bool false)] :: marksP m_5 :: FL) (fun w h => (hF_qp6 _ (h.drop 6))) rfl hc_qp6 h hp ?_
      rintro r_2 r_3 list_4 last_4 m_8 p_9 n_10 c_9 w rfl h hp
      have cpp_9 := rowCap h 1 rfl
      refine ⟨_, _, rfl, ?_⟩
      refine ⟨_, rfl, ?_⟩
      refine ⟨_, rfl, ?_⟩
      refine ⟨_, cellL h 4 0 rfl rfl rfl, ?_⟩
      refine ⟨_, cellL h 3 2 rfl rfl rfl, _, cellL h 3 3 rfl rfl rfl, ?_⟩
      refine ⟨_, cellL h 3 4 rfl rfl rfl, _, cellL h 3 5 rfl rfl rfl, ?_⟩
      refine ⟨_, _, _, cellL h 3 6 rfl rfl rfl, ?_⟩
      replace h := h.pick [5, 5, 2]
      dsimp only [pickL, pickR, nthH, delH, dropH, List.cons_append, List.nil_append] at h
      refine embrasureref13_Net_Send_ok (FL := cel b_2 59 [(Value.slice p_9 list_4.length c_9), (Value.int .i64 last_4)] :: row enc39 39 6 p_9 c_9 list_4 :: cel b_5 37 [(Value.int .i64 x_1.1), (Value.int .i64 x_1.2.1), (Value.int .u32 x_1.2.2.1), (Value.int .i64 x_1.2.2.2.1), (Value.int .u32 x_1.2.2.2.2.1), (Value.int .i64 x_1.2.2.2.2.2.1), (Value.slice qp6 x_1.2.2.2.2.2.2.length qc6)] :: cel b_4 47 [(Value.pointer (some (Addr.mk b_3 0 none)))] :: cel b_1 4 [(Value.bool false)] :: marksP m_5 :: FL) (fun w h => (hF_qp6 _ (h.drop 6))) rfl hc_qp6 h hp ?_
      rintro r_4 r_5 L_3 Last_3 m_9 p_10 n_11 c_10 w rfl h hp
      have cpp_10 := rowCap h 1 rfl
      refine ⟨_, _, rfl, ?_⟩
      refine ⟨_, rfl, ?_⟩
      refine ⟨_, rfl, ?_⟩
      obtain ⟨Q_3, hq, hp⟩ := hp
      refine ⟨fun script0_3p script0_3l script0_3c t2_4 n3_3 r4_3 i5_3 t113 m_10 w => p_1 = script0_3p ∧ script.length = script0_3l ∧ c_1 = script0_3c ∧ (Addr.mk b_1 0 none) = t2_4 ∧ (some (Addr.mk b_2 0 none)) = n3_3 ∧ (Addr.mk b_4 0 none) = r4_3 ∧ i5 = i5_3 ∧ Q_3 t113 ∧ Mem (cel b_3 50 [(Value.slice p_10 L_3.length c_10), (Value.int .i64 Last_3)] :: row enc39 39 6 p_10 c_10 L_3 :: cel b_2 59 [(Value.slice p_9 list_4.length c_9), (Value.int .i64 last_4)] :: row enc39 39 6 p_9 c_9 list_4 :: cel b_5 37 [(Value.int .i64 x_1.1), (Value.int .i64 x_1.2.1), (Value.int .u32 x_1.2.2.1), (Value.int .i64 x_1.2.2.2.1), (Value.int .u32 x_1.2.2.2.2.1), (Value.int .i64 x_1.2.2.2.2.2.1), (Value.slice qp6 x_1.2.2.2.2.2.2.length qc6)] :: cel b_4 47 [(Value.pointer (some (Addr.mk b_3 0 none)))] :: cel b_1 4 [(Value.bool false)] :: poolP enc5 5 1 m_9 :: marksP m_10 :: FL) w, ?_, ?_⟩
      · rintro script0_3p script0_3l script0_3c t2_4 n3_3 r4_3 i5_3 t113 m_10 w ⟨rfl, rfl, rfl, rfl, rfl, rfl, rfl, hp, h⟩
        replace hp := hq t113 hp
        unfold embrasurelaw13_NetPlays_j8
        refine cond_both' hp (fun hp => ?_) (fun hp => ?_)
        · replace h := h.sel [4, 4, 0, 0, 0, 0, 0, 0, 0] 0
          dsimp only [pickL, pickR, nthH, delH, dropH, List.cons_append, List.nil_append] at h
          exact ⟨L_3, p_10, L_3.length, c_10, Last_3, list_4, p_9, list_4.length, c_9, last_4, m_9, rfl, rfl, rfl, rfl, rfl, rfl, rfl, rfl, rfl, hp, h⟩
        refine storeL (ys := [(Value.bool false)]) h 6 0 rfl rfl rfl sz4 rfl rfl ?_
        intro w h
        dsimp only [setH, setVs, setV] at h
        replace h := h.pick [8]
        dsimp only [pickL, pickR, nthH, delH, dropH, List.cons_append, List.nil_append] at h
        refine finishMarks _ h ?_
        intro w h
        refine ⟨_, cellL h 6 0 rfl rfl rfl, ?_⟩
        replace h := h.sel [] 8
        dsimp only [pickL, pickR, nthH, delH, dropH, List.cons_append, List.nil_append] at h
        exact hR (false) _ h hp
      clear hq
      refine cond_both hp (fun hp => ?_) (fun hp => ?_)
      · replace h := h.sel [0, 0, 1, 1, 1, 1, 1, 0, 0] 0
        dsimp only [pickL, pickR, nthH, delH, dropH, List.cons_append, List.nil_append] at h
        exact ⟨rfl, rfl, rfl, rfl, rfl, rfl, rfl, hp, h⟩
      replace h := h.sel [0, 0, 1, 1, 1, 1, 1, 0, 0] 0
      dsimp only [pickL, pickR, nthH, delH, dropH, List.cons_append, List.nil_append] at h
      exact ⟨rfl, rfl, rfl, rfl, rfl, rfl, rfl, hp, h⟩
    refine cond_both hp (fun hp => ?_) (fun hp => ?_)
    · refine ⟨_, cellL h 0 1 rfl rfl rfl, ?_⟩
      replace h := h.pick [4, 4, 5]
      dsimp only [pickL, pickR, nthH, delH, dropH, List.cons_append, List.nil_append] at h
      refine net_Net_Copy_ok h hp ?_
      rintro r_6 r_7 list_5 last_5 m_11 p_11 n_12 c_11 w rfl h hp
      have cpp_11 := rowCap h 1 rfl
      refine ⟨_, _, rfl, ?_⟩
      refine ⟨_, rfl, ?_⟩
      refine ⟨_, rfl, ?_⟩
      refine ⟨_, cellL h 4 0 rfl rfl rfl, ?_⟩
      refine ⟨_, cellL h 3 1 rfl rfl rfl, ?_⟩
      replace h := h.pick [5, 5, 2]
      dsimp only [pickL, pickR, nthH, delH, dropH, List.cons_append, List.nil_append] at h
      refine embrasureref13_Net_Copy_ok h hp ?_
      rintro r_8 r_9 L_4 Last_4 m_12 p_12 n_13 c_12 w rfl h hp
      have cpp_12 := rowCap h 1 rfl
      refine ⟨_, _, rfl, ?_⟩
      refine ⟨_, rfl, ?_⟩
      refine ⟨_, rfl, ?_⟩
      obtain ⟨Q_4, hq, hp⟩ := hp
      refine ⟨fun script0_4p script0_4l script0_4c t2_5 n3_4 r4_4 i5_4 t137 m_13 w => p_1 = script0_4p ∧ script.length = script0_4l ∧ c_1 = script0_4c ∧ (Addr.mk b_1 0 none) = t2_5 ∧ (some (Addr.mk b_2 0 none)) = n3_4 ∧ (Addr.mk b_4 0 none) = r4_4 ∧ i5 = i5_4 ∧ Q_4 t137 ∧ Mem (cel b_3 50 [(Value.slice p_12 L_4.length c_12), (Value.int .i64 Last_4)] :: row enc39 39 6 p_12 c_12 L_4 :: cel b_2 59 [(Value.slice p_11 list_5.length c_11), (Value.int .i64 last_5)] :: row enc39 39 6 p_11 c_11 list_5 :: cel b_5 37 [(Value.int .i64 x_1.1), (Value.int .i64 x_1.2.1), (Value.int .u32 x_1.2.2.1), (Value.int .i64 x_1.2.2.2.1), (Value.int .u32 x_1.2.2.2.2.1), (Value.int .i64 x_1.2.2.2.2.2.1), (Value.slice qp6 x_1.2.2.2.2.2.2.length qc6)] :: cel b_4 47 [(Value.pointer (some (Addr.mk b_3 0 none)))] :: cel b_1 4 [(Value.bool false)] :: poolP enc5 5 1 m_12 :: marksP m_13 :: FL) w, ?_, ?_⟩
      · rintro script0_4p script0_4l script0_4c t2_5 n3_4 r4_4 i5_4 t137 m_13 w ⟨rfl, rfl, rfl, rfl, rfl, rfl, rfl, hp, h⟩
        replace hp := hq t137 hp
        unfold embrasurelaw13_NetPlays_j9
        refine cond_both' hp (fun hp => ?_) (fun hp => ?_)
        · replace h := h.sel [4, 4, 0, 0, 0, 0, 0, 0, 0] 0
          dsimp only [pickL, pickR, nthH, delH, dropH, List.cons_append, List.nil_append] at h
          exact ⟨L_4, p_12, L_4.length, c_12, Last_4, list_5, p_11, list_5.length, c_11, last_5, m_12, rfl, rfl, rfl, rfl, rfl, rfl, rfl, rfl, rfl, hp, h⟩
        refine storeL (ys := [(Value.bool false)]) h 6 0 rfl rfl rfl sz4 rfl rfl ?_
        intro w h
        dsimp only [setH, setVs, setV] at h
        replace h := h.pick [8]
        dsimp only [pickL, pickR, nthH, delH, dropH, List.cons_append, List.nil_append] at h
        refine finishMarks _ h ?_
        intro w h
        refine ⟨_, cellL h 6 0 rfl rfl rfl, ?_⟩
        replace h := h.sel [] 8
        dsimp only [pickL, pickR, nthH, delH, dropH, List.cons_append, List.nil_append] at h
        exact hR (false) _ h hp
      clear hq
      refine cond_both hp (fun hp => ?_) (fun hp => ?_)
      · replace h := h.sel [0, 0, 1, 1, 1, 1, 1, 0, 0] 0
        dsimp only [pickL, pickR, nthH, delH, dropH, List.cons_append, List.nil_append] at h
        exact ⟨rfl, rfl, rfl, rfl, rfl, rfl, rfl, hp, h⟩
      replace h := h.sel [0, 0, 1, 1, 1, 1, 1, 0, 0] 0
      dsimp only [pickL, pickR, nthH, delH, dropH, List.cons_append, List.nil_append] at h
      exact ⟨rfl, rfl, rfl, rfl, rfl, rfl, rfl, hp, h⟩
    refine ⟨_, cellL h 0 1 rfl rfl rfl, ?_⟩
    obtain ⟨Q_5, hq, hp⟩ := hp
    refine ⟨fun script0_5p script0_5l script0_5c t2_6 n3_5 r4_5 i5_5 no15 m_14 w => ∃ (L_5 : List (Int × Int × Int × Int × Int × (Option Addr × Nat × Nat))), ∃ (p_13 : Option Addr), ∃ (n_14 : Nat), ∃ (c_13 : Nat), p_1 = script0_5p ∧ script.length = script0_5l ∧ c_1 = script0_5c ∧ (Addr.mk b_1 0 none) = t2_6 ∧ (some (Addr.mk b_2 0 none)) = n3_5 ∧ (Addr.mk b_4 0 none) = r4_5 ∧ i5 = i5_5 ∧ n_14 = L_5.length ∧ Q_5 L_5 no15 ∧ Mem (cel b_5 37 [(Value.int .i64 x_1.1), (Value.int .i64 x_1.2.1), (Value.int .u32 x_1.2.2.1), (Value.int .i64 x_1.2.2.2.1), (Value.int .u32 x_1.2.2.2.2.1), (Value.int .i64 x_1.2.2.2.2.2.1), (Value.slice qp6 x_1.2.2.2.2.2.2.length qc6)] :: cel b_4 47 [(Value.pointer (some (Addr.mk b_3 0 none)))] :: cel b_3 50 [(Value.slice p_13 n_14 c_13), (Value.int .i64 Last_1)] :: row enc39 39 6 p_13 c_13 L_5 :: cel b_2 59 [(Value.slice p_6 list_2.length c_6), (Value.int .i64 last_2)] :: row enc39 39 6 p_6 c_6 list_2 :: cel b_1 4 [(Value.bool false)] :: poolP enc5 5 1 m_3 :: marksP m_14 :: FL) w, ?_, ?_⟩
    · rintro script0_5p script0_5l script0_5c t2_6 n3_5 r4_5 i5_5 no15 m_14 w ⟨L_5, p_13, n_14, c_13, rfl, rfl, rfl, rfl, rfl, rfl, rfl, rfl, hp, h⟩
      replace hp := hq L_5 no15 hp
      unfold embrasurelaw13_NetPlays_j10
      have cpp_13 := rowCap h 3 rfl
      replace h := h.pick [4, 4, 5]
      dsimp only [pickL, pickR, nthH, delH, dropH, List.cons_append, List.nil_append] at h
      refine net_Net_Take_ok h hp ?_
      rintro r_12 r_13 r_14 r_15 r_16 hd r_17 list_6 m_15 p_14 n_15 c_14 w rfl h hp
      have cpp_14 := rowCap h 1 rfl
      refine ⟨_, _, _, _, _, _, _, _, _, rfl, ?_⟩
      refine ⟨_, _, _, _, _, _, _, _, rfl, ?_⟩
      refine ⟨_, rfl, ?_⟩
      refine newL (o := [(Value.int .i64 0), (Value.int .u32 0), (Value.int .i64 0), (Value.int .u32 0), (Value.int .i64 0), (Value.slice none 0 0)]) h ?_
      intro b_6 w h
      refine storeL (ys := [(Value.int .i64 r_12), (Value.int .u32 r_13), (Value.int .i64 r_14), (Value.int .u32 r_15), (Value.int .i64 r_16), (Value.slice hd.1 hd.2.1 hd.2.2)]) h 0 0 rfl rfl rfl sz39 rfl rfl ?_
      intro w h
      dsimp only [setH, setVs, setV] at h
      refine ⟨_, cellL h 5 0 rfl rfl rfl, ?_⟩
      replace h := h.pick [6, 6, 3]
      dsimp only [pickL, pickR, nthH, delH, dropH, List.cons_append, List.nil_append] at h
      refine embrasureref13_Net_Take_ok h hp ?_
      rintro r_18 r_19 r_20 r_21 r_22 hd_1 r_23 L_6 m_16 p_15 n_16 c_15 w rfl h hp
      have cpp_15 := rowCap h 1 rfl
      refine ⟨_, _, _, _, _, _, _, _, _, rfl, ?_⟩
      refine ⟨_, _, _, _, _, _, _, _, rfl, ?_⟩
      refine ⟨_, rfl, ?_⟩
      refine newL (o := [(Value.int .i64 0), (Value.int .u32 0), (Value.int .i64 0), (Value.int .u32 0), (Value.int .i64 0), (Value.slice none 0 0)]) h ?_
      intro b_7 w h
      refine storeL (ys := [(Value.int .i64 r_18), (Value.int .u32 r_19), (Value.int .i64 r_20), (Value.int .u32 r_21), (Value.int .i64 r_22), (Value.slice hd_1.1 hd_1.2.1 hd_1.2.2)]) h 0 0 rfl rfl rfl sz39 rfl rfl ?_
      intro w h
      dsimp only [setH, setVs, setV] at h
      obtain ⟨Q_6, hq, hp⟩ := hp
      refine ⟨fun script0_6p script0_6l script0_6c t2_7 n3_6 r4_6 i5_6 t81 m_17 w => p_1 = script0_6p ∧ script.length = script0_6l ∧ c_1 = script0_6c ∧ (Addr.mk b_1 0 none) = t2_7 ∧ (some (Addr.mk b_2 0 none)) = n3_6 ∧ (Addr.mk b_4 0 none) = r4_6 ∧ i5 = i5_6 ∧ Q_6 t81 ∧ Mem (cel b_7 39 [(Value.int .i64 r_18), (Value.int .u32 r_19), (Value.int .i64 r_20), (Value.int .u32 r_21), (Value.int .i64 r_22), (Value.slice hd_1.1 hd_1.2.1 hd_1.2.2)] :: cel b_3 50 [(Value.slice p_15 L_6.length c_15), (Value.int .i64 Last_1)] :: row enc39 39 6 p_15 c_15 L_6 :: cel b_6 39 [(Value.int .i64 r_12), (Value.int .u32 r_13), (Value.int .i64 r_14), (Value.int .u32 r_15), (Value.int .i64 r_16), (Value.slice hd.1 hd.2.1 hd.2.2)] :: cel b_2 59 [(Value.slice p_14 list_6.length c_14), (Value.int .i64 last_2)] :: row enc39 39 6 p_14 c_14 list_6 :: cel b_5 37 [(Value.int .i64 x_1.1), (Value.int .i64 x_1.2.1), (Value.int .u32 x_1.2.2.1), (Value.int .i64 x_1.2.2.2.1), (Value.int .u32 x_1.2.2.2.2.1), (Value.int .i64 x_1.2.2.2.2.2.1), (Value.slice qp6 x_1.2.2.2.2.2.2.length qc6)] :: cel b_4 47 [(Value.pointer (some (Addr.mk b_3 0 none)))] :: cel b_1 4 [(Value.bool false)] :: poolP enc5 5 1 m_16 :: marksP m_17 :: FL) w, ?_, ?_⟩
      · rintro script0_6p script0_6l script0_6c t2_7 n3_6 r4_6 i5_6 t81 m_17 w ⟨rfl, rfl, rfl, rfl, rfl, rfl, rfl, hp, h⟩
        replace hp := hq t81 hp
        unfold embrasurelaw13_NetPlays_j11
        refine cond_both' hp (fun hp => ?_) (fun hp => ?_)
        · replace h := h.sel [6, 6, 1, 1, 2, 2, 2, 2, 2] 2
          dsimp only [pickL, pickR, nthH, delH, dropH, List.cons_append, List.nil_append] at h
          exact ⟨L_6, p_15, L_6.length, c_15, Last_1, list_6, p_14, list_6.length, c_14, last_2, m_16, rfl, rfl, rfl, rfl, rfl, rfl, rfl, rfl, rfl, hp, h⟩
        refine storeL (ys := [(Value.bool false)]) h 8 0 rfl rfl rfl sz4 rfl rfl ?_
        intro w h
        dsimp only [setH, setVs, setV] at h
        replace h := h.pick [10]
        dsimp only [pickL, pickR, nthH, delH, dropH, List.cons_append, List.nil_append] at h
        refine finishMarks _ h ?_
        intro w h
        refine ⟨_, cellL h 8 0 rfl rfl rfl, ?_⟩
        replace h := h.sel [] 10
        dsimp only [pickL, pickR, nthH, delH, dropH, List.cons_append, List.nil_append] at h
        exact hR (false) _ h hp
      clear hq
      refine ⟨_, cellL h 4 0 rfl rfl rfl, _, cellL h 4 1 rfl rfl rfl, _, cellL h 4 2 rfl rfl rfl, _, cellL h 4 3 rfl rfl rfl, _, cellL h 4 4 rfl rfl rfl, _, _, _, cellL h 4 5 rfl rfl rfl, ?_⟩
      refine ⟨_, cellL h 0 0 rfl rfl rfl, _, cellL h 0 1 rfl rfl rfl, _, cellL h 0 2 rfl rfl rfl, _, cellL h 0 3 rfl rfl rfl, _, cellL h 0 4 rfl rfl rfl, _, _, _, cellL h 0 5 rfl rfl rfl, ?_⟩
      obtain ⟨xs, hq_xs, hp⟩ := hp
      have hl_xs := poolLen h 3 rfl hq_xs
      have hc_xs := poolCap h 3 rfl hq_xs
      obtain ⟨xs_1, hq_xs_1, hp⟩ := hp
      have hl_xs_1 := poolLen h 3 rfl hq_xs_1
      have hc_xs_1 := poolCap h 3 rfl hq_xs_1
      refine embrasureref13_Same_ok (FL := cel b_7 39 [(Value.int .i64 r_18), (Value.int .u32 r_19), (Value.int .i64 r_20), (Value.int .u32 r_21), (Value.int .i64 r_22), (Value.slice hd_1.1 hd_1.2.1 hd_1.2.2)] :: cel b_3 50 [(Value.slice p_15 L_6.length c_15), (Value.int .i64 Last_1)] :: row enc39 39 6 p_15 c_15 L_6 :: poolP enc5 5 1 m_16 :: cel b_6 39 [(Value.int .i64 r_12), (Value.int .u32 r_13), (Value.int .i64 r_14), (Value.int .u32 r_15), (Value.int .i64 r_16), (Value.slice hd.1 hd.2.1 hd.2.2)] :: cel b_2 59 [(Value.slice p_14 list_6.length c_14), (Value.int .i64 last_2)] :: row enc39 39 6 p_14 c_14 list_6 :: cel b_5 37 [(Value.int .i64 x_1.1), (Value.int .i64 x_1.2.1), (Value.int .u32 x_1.2.2.1), (Value.int .i64 x_1.2.2.2.1), (Value.int .u32 x_1.2.2.2.2.1), (Value.int .i64 x_1.2.2.2.2.2.1), (Value.slice qp6 x_1.2.2.2.2.2.2.length qc6)] :: cel b_4 47 [(Value.pointer (some (Addr.mk b_3 0 none)))] :: cel b_1 4 [(Value.bool false)] :: marksP m_14 :: FL) (fun w h => (poolRd h 3 encL5 rfl hq_xs)) hl_xs hc_xs (fun w h => (poolRd h 3 encL5 rfl hq_xs_1)) hl_xs_1 hc_xs_1 h hp ?_
      intro r_24 w h hp
      refine ⟨_, rfl, ?_⟩
      refine cond_both hp (fun hp => ?_) (fun hp => ?_)
      · replace h := h.sel [0, 0, 0, 1, 1, 1, 1, 1, 1, 0, 0] 0
        dsimp only [pickL, pickR, nthH, delH, dropH, List.cons_append, List.nil_append] at h
        exact ⟨rfl, rfl, rfl, rfl, rfl, rfl, rfl, hp, h⟩
      replace h := h.sel [0, 0, 0, 1, 1, 1, 1, 1, 1, 0, 0] 0
      dsimp only [pickL, pickR, nthH, delH, dropH, List.cons_append, List.nil_append] at h
      exact ⟨rfl, rfl, rfl, rfl, rfl, rfl, rfl, hp, h⟩
    clear hq
    refine ⟨_, cellL h 0 0 rfl rfl rfl, ?_⟩
    refine cond_both' hp (fun hp => ?_) (fun hp => ?_)
    · exact ⟨L_1, p_5, L_1.length, c_5, rfl, rfl, rfl, rfl, rfl, rfl, rfl, rfl, hp, h⟩
    refine ⟨_, cellL h 0 1 rfl rfl rfl, ?_⟩
    replace h := h.pick [4, 4]
    dsimp only [pickL, pickR, nthH, delH, dropH, List.cons_append, List.nil_append] at h
    refine net_Net_At_ok h hp ?_
    intro r_10 w h hp
    have cpp_6 := rowCap h 1 rfl
    refine ⟨_, rfl, ?_⟩
    refine ⟨_, cellL h 3 0 rfl rfl rfl, ?_⟩
    refine ⟨_, cellL h 2 1 rfl rfl rfl, ?_⟩
    replace h := h.pick [4, 4]
    dsimp only [pickL, pickR, nthH, delH, dropH, List.cons_append, List.nil_append] at h
    refine embrasureref13_Net_At_ok h hp ?_
    intro r_11 w h hp
    have cpp_5 := rowCap h 1 rfl
    refine ⟨_, rfl, ?_⟩
    refine cond_both' hp (fun hp => ?_) (fun hp => ?_)
    · replace h := h.sel [4, 4, 0, 0, 0, 0, 0, 0, 0] 0
      dsimp only [pickL, pickR, nthH, delH, dropH, List.cons_append, List.nil_append] at h
      exact ⟨L_1, p_5, L_1.length, c_5, rfl, rfl, rfl, rfl, rfl, rfl, rfl, rfl, hp, h⟩
    refine storeL (ys := [(Value.bool false)]) h 6 0 rfl rfl rfl sz4 rfl rfl ?_
    intro w h
    dsimp only [setH, setVs, setV] at h
    replace h := h.pick [8]
    dsimp only [pickL, pickR, nthH, delH, dropH, List.cons_append, List.nil_append] at h
    refine finishMarks _ h ?_
    intro w h
    refine ⟨_, cellL h 6 0 rfl rfl rfl, ?_⟩
    replace h := h.sel [] 8
    dsimp only [pickL, pickR, nthH, delH, dropH, List.cons_append, List.nil_append] at h
    exact hR (false) _ h hp
  clear hq
  refine cond_both hp (fun hp => ?_) (fun hp => ?_)
  · exact ⟨rfl, rfl, rfl, rfl, rfl, rfl, rfl, hp, h⟩
  exact ⟨rfl, rfl, rfl, rfl, rfl, rfl, rfl, hp, h⟩

end Go.Proofs.Ytdgjmiacfpihnaa
