/- Each function over plain data (printed by a program of this claim's author). -/
import Derived.Test.YtighenkbdiahpaaD
import Derived.Test.YtighenkbdiahpaaEngQ
namespace Go.Proofs.Ytighenkbdiahpaa
open Go Go.Eng Go.Proofs
set_option maxRecDepth 100000
set_option maxHeartbeats 2000000

def enc4 (x : Bool) : List Value := [(Value.bool x)]
theorem encL4 : ∀ x, (enc4 x).length = 1 := fun _ => rfl
theorem encO4 : ∀ x, ∀ v ∈ enc4 x, v.oneCell' = true := by intro x v hv; simp only [enc4, List.mem_cons, List.not_mem_nil, or_false] at hv; rcases hv with rfl <;> rfl
def enc5 (x : Int) : List Value := [(Value.int .u8 x)]
theorem encL5 : ∀ x, (enc5 x).length = 1 := fun _ => rfl
theorem encO5 : ∀ x, ∀ v ∈ enc5 x, v.oneCell' = true := by intro x v hv; simp only [enc5, List.mem_cons, List.not_mem_nil, or_false] at hv; rcases hv with rfl <;> rfl
def enc36 (x : Int × Int × Int × Int × Int × Int × Int × Int) : List Value := [(Value.int .i64 x.1), (Value.int .i64 x.2.1), (Value.int .i64 x.2.2.1), (Value.int .i64 x.2.2.2.1), (Value.int .u64 x.2.2.2.2.1), (Value.int .i64 x.2.2.2.2.2.1), (Value.int .i64 x.2.2.2.2.2.2.1), (Value.int .u32 x.2.2.2.2.2.2.2)]
theorem encL36 : ∀ x, (enc36 x).length = 8 := fun _ => rfl
theorem encO36 : ∀ x, ∀ v ∈ enc36 x, v.oneCell' = true := by intro x v hv; simp only [enc36, List.mem_cons, List.not_mem_nil, or_false] at hv; rcases hv with rfl | rfl | rfl | rfl | rfl | rfl | rfl | rfl <;> rfl
def enc38 (x : (Option Addr × Nat × Nat)) : List Value := [(Value.slice x.1 x.2.1 x.2.2)]
theorem encL38 : ∀ x, (enc38 x).length = 1 := fun _ => rfl
theorem encO38 : ∀ x, ∀ v ∈ enc38 x, v.oneCell' = true := by intro x v hv; simp only [enc38, List.mem_cons, List.not_mem_nil, or_false] at hv; rcases hv with rfl <;> rfl
def va3 (x : Int) : Value := (Value.int .i64 x)
theorem sz3 : sizeT Try.prog 3 = some 1 := by kernel_rfl
theorem sz4 : sizeT Try.prog 4 = some 1 := by kernel_rfl
theorem sz5 : sizeT Try.prog 5 = some 1 := by kernel_rfl
theorem sz22 : sizeT Try.prog 22 = some 1 := by kernel_rfl
theorem sz23 : sizeT Try.prog 23 = some 1 := by kernel_rfl
theorem sz36 : sizeT Try.prog 36 = some 8 := by kernel_rfl
theorem sz41 : sizeT Try.prog 41 = some 2 := by kernel_rfl
theorem sz43 : sizeT Try.prog 43 = some 8 := by kernel_rfl
def encR38 (FL : List HP) (x : (List (Int))) (cs : List Value) : Prop := ∃ (p0 : Option Addr) (n0 c0 : Nat), cs = [(Value.slice p0 n0 c0)] ∧ n0 = x.length ∧ n0 ≤ c0 ∧ (∀ w, Mem FL w → Rd w 1 p0 enc5 x)
theorem encRm38 {FL FL2 : List HP} (hx : ∀ w, Mem FL2 w → Mem FL w) (x : (List (Int))) (cs : List Value) : encR38 FL x cs → encR38 FL2 x cs := by
  rintro ⟨p0, n0, c0, rfl, l0, k0, F0⟩
  exact ⟨p0, n0, c0, rfl, l0, k0, (fun w h => F0 w (hx w h))⟩
theorem eqG36 : Try.prog.eqGuardType Try.prog.depth 36 = false := by kernel_rfl
theorem eqA36 : isAggB Try.prog 36 = true := by kernel_rfl
theorem eqT36 (a0 : Int) (a1 : Int) (a2 : Int) (a3 : Int) (a4 : Int) (a5 : Int) (a6 : Int) (a7 : Int) (b0 : Int) (b1 : Int) (b2 : Int) (b3 : Int) (b4 : Int) (b5 : Int) (b6 : Int) (b7 : Int) : eqT Try.prog 20 36 [(Value.int .i64 a0), (Value.int .i64 a1), (Value.int .i64 a2), (Value.int .i64 a3), (Value.int .u64 a4), (Value.int .i64 a5), (Value.int .i64 a6), (Value.int .u32 a7)] [(Value.int .i64 b0), (Value.int .i64 b1), (Value.int .i64 b2), (Value.int .i64 b3), (Value.int .u64 b4), (Value.int .i64 b5), (Value.int .i64 b6), (Value.int .u32 b7)] = some (((a0 : Int) == b0) && (((a1 : Int) == b1) && (((a2 : Int) == b2) && (((a3 : Int) == b3) && (((a4 : Int) == b4) && (((a5 : Int) == b5) && (((a6 : Int) == b6) && (((a7 : Int) == b7) && true)))))))) := by kernel_rfl
theorem eqG41 : Try.prog.eqGuardType Try.prog.depth 41 = false := by kernel_rfl
theorem eqA41 : isAggB Try.prog 41 = true := by kernel_rfl
theorem eqT41 (a0 : Int) (a1 : Int) (b0 : Int) (b1 : Int) : eqT Try.prog 20 41 [(Value.int .u32 a0), (Value.int .i64 a1)] [(Value.int .u32 b0), (Value.int .i64 b1)] = some (((a0 : Int) == b0) && (((a1 : Int) == b1) && true)) := by kernel_rfl
theorem eqG43 : Try.prog.eqGuardType Try.prog.depth 43 = false := by kernel_rfl
theorem eqA43 : isAggB Try.prog 43 = true := by kernel_rfl
theorem eqT43 (a0 : Int) (a1 : Int) (a2 : Int) (a3 : Int) (a4 : Int) (a5 : Int) (a6 : Int) (a7 : Int) (b0 : Int) (b1 : Int) (b2 : Int) (b3 : Int) (b4 : Int) (b5 : Int) (b6 : Int) (b7 : Int) : eqT Try.prog 20 43 [(Value.int .i64 a0), (Value.int .i64 a1), (Value.int .i64 a2), (Value.int .u32 a3), (Value.int .i64 a4), (Value.int .i64 a5), (Value.int .i64 a6), (Value.int .i64 a7)] [(Value.int .i64 b0), (Value.int .i64 b1), (Value.int .i64 b2), (Value.int .u32 b3), (Value.int .i64 b4), (Value.int .i64 b5), (Value.int .i64 b6), (Value.int .i64 b7)] = some (((a0 : Int) == b0) && (((a1 : Int) == b1) && (((a2 : Int) == b2) && ((((a3 : Int) == b3) && (((a4 : Int) == b4) && true)) && (((a5 : Int) == b5) && (((a6 : Int) == b6) && (((a7 : Int) == b7) && true))))))) := by kernel_rfl
theorem zr54 : zeroOf Try.prog 54 = some Value.nilFunc := by kernel_rfl
theorem mu55 : Try.prog.underlying 55 = some (.map 3 54) := by kernel_rfl
theorem kt3 : KeyT Try.prog 3 va3 := keyInt (by kernel_rfl)
theorem slt38 : SlT Try.prog 38 5 (Value.int .u8 0) 1 1 := ⟨by kernel_rfl, by kernel_rfl, by kernel_rfl, by decide⟩
theorem undI5 : Try.prog.underlying 5 = some (.int .u8) := by kernel_rfl
theorem undn3 : Try.prog.underlying 3 = some (.int .i64) := by kernel_rfl
theorem undStr9 : Try.prog.underlying 9 = some .string := by kernel_rfl
theorem undP28 : Try.prog.underlying 28 = some (.pointer (Try.prog.pointee 28)) := by kernel_rfl
theorem und38 : Try.prog.underlying 38 = some (.slice 5) := by kernel_rfl




/-! embrasure/mapper.New (5) -/
def mapper_New_wp (host : Int) (inside : Int) (secs : Int) (nonce : Int) (K : Int → Prop) (KX1 : Int → Int → Int → Int → Int → Int → Int → Int → Int → Int → Int → Int → Int → Int → Int → Int → Int → Int → Bool → Prop) : Prop :=
  joinP1 (fun (t27 : Bool) => cond t27 (K 1) (KX1 0 0 0 inside 0 0 0 0 0 host secs nonce 0 0 0 0 0 0 false)) (fun (Q : Bool → Prop) => cond ((host : Int) == 0) (Q true) (cond (decide ((inside : Int) < 1)) (Q true) (cond (decide ((inside : Int) > 65535)) (Q true) (cond (decide ((secs : Int) < 1)) (Q true) (Q (decide ((secs : Int) > 4294967295)))))))
theorem mapper_New_ok {host : Int} {inside : Int} {secs : Int} {nonce : Int} {FL : List HP} {w : World} {K : Int → Prop} {KX1 : Int → Int → Int → Int → Int → Int → Int → Int → Int → Int → Int → Int → Int → Int → Int → Int → Int → Int → Bool → Prop} {R : Value → World → Prop}
  (h : Mem (FL) w) (hp : mapper_New_wp host inside secs nonce K KX1)
  (hR : ∀ (r : Int) (w : World), Mem (FL) w → K r → R (Value.tuple #[(Value.pointer none), (Value.int .i64 r)]) w)
  (hRX1 : ∀ (r : Int) (s : Int) (s_1 : Int) (s_2 : Int) (s_3 : Int) (s_4 : Int) (s_5 : Int) (s_6 : Int) (s_7 : Int) (host_1 : Int) (secs_1 : Int) (nonce_1 : Int) (wish : Int) (wish_1 : Int) (outside : Int) (now : Int) (epoch : Int) (epochAt : Int) (hasEpoch : Bool) (b_1 : Nat) (w : World), Mem (cel b_1 47 [(Value.int .i64 s), (Value.int .i64 s_1), (Value.int .i64 s_2), (Value.int .u32 s_3), (Value.int .i64 s_4), (Value.int .i64 s_5), (Value.int .i64 s_6), (Value.int .i64 s_7), (Value.int .u32 host_1), (Value.int .i64 secs_1), (Value.int .u64 nonce_1), (Value.int .u32 wish), (Value.int .i64 wish_1), (Value.int .u32 outside), (Value.int .i64 now), (Value.int .i64 epoch), (Value.int .i64 epochAt), (Value.bool hasEpoch)] :: FL) w → KX1 r s s_1 s_2 s_3 s_4 s_5 s_6 s_7 host_1 secs_1 nonce_1 wish wish_1 outside now epoch epochAt hasEpoch → R (Value.tuple #[(Value.pointer (some (Addr.mk b_1 0 none))), (Value.int .i64 r)]) w) :
  CallV Try.prog 5 #[(Value.int .u32 host), (Value.int .i64 inside), (Value.int .i64 secs), (Value.int .u64 nonce)] w R := by
  refine mapper_New_call ?_
  unfold mapper_New
  unfold mapper_New_wp at hp
  obtain ⟨Q, hq, hp⟩ := hp
  refine ⟨fun host0 inside1 secs2 nonce3 t27 w => host = host0 ∧ inside = inside1 ∧ secs = secs2 ∧ nonce = nonce3 ∧ Q t27 ∧ Mem (FL) w, ?_, ?_⟩
  · rintro host0 inside1 secs2 nonce3 t27 w ⟨rfl, rfl, rfl, rfl, hp, h⟩
    replace hp := hq t27 hp
    unfold mapper_New_j1
    refine cond_both hp (fun hp => ?_) (fun hp => ?_)
    · exact hR 1 _ h hp
    refine newL (o := [(Value.int .i64 0), (Value.int .i64 0), (Value.int .i64 inside), (Value.int .u32 0), (Value.int .i64 0), (Value.int .i64 0), (Value.int .i64 0), (Value.int .i64 0), (Value.int .u32 host), (Value.int .i64 secs), (Value.int .u64 nonce), (Value.int .u32 0), (Value.int .i64 0), (Value.int .u32 0), (Value.int .i64 0), (Value.int .i64 0), (Value.int .i64 0), (Value.bool false)]) h ?_
    intro b_1 w h
    exact hRX1 0 0 0 inside 0 0 0 0 0 host secs nonce 0 0 0 0 0 0 false b_1 _ h hp
  clear hq
  refine cond_both hp (fun hp => ?_) (fun hp => ?_)
  · exact ⟨rfl, rfl, rfl, rfl, hp, h⟩
  refine cond_both hp (fun hp => ?_) (fun hp => ?_)
  · exact ⟨rfl, rfl, rfl, rfl, hp, h⟩
  refine cond_both hp (fun hp => ?_) (fun hp => ?_)
  · exact ⟨rfl, rfl, rfl, rfl, hp, h⟩
  refine cond_both hp (fun hp => ?_) (fun hp => ?_)
  · exact ⟨rfl, rfl, rfl, rfl, hp, h⟩
  exact ⟨rfl, rfl, rfl, rfl, hp, h⟩

/-! (*embrasure/mapper.Mapper).on (12) -/
def mapper_Mapper_on_wp (s : Int) (s_1 : Int) (s_2 : Int) (s_3 : Int) (s_4 : Int) (s_5 : Int) (s_6 : Int) (s_7 : Int) (host : Int) (secs : Int) (nonce : Int) (wish : Int) (wish_1 : Int) (outside : Int) (now : Int) (epoch : Int) (epochAt : Int) (hasEpoch : Bool) (now_1 : Int) (K : Bool → Int → Prop) : Prop :=
  joinP1 (fun (t14 : Bool) => cond t14 (K false now) (K true now_1)) (fun (Q : Bool → Prop) => cond (decide ((now_1 : Int) < now)) (Q true) (Q (decide ((now_1 : Int) > 1099511627776))))
theorem mapper_Mapper_on_ok {b_1 : Nat} {s : Int} {s_1 : Int} {s_2 : Int} {s_3 : Int} {s_4 : Int} {s_5 : Int} {s_6 : Int} {s_7 : Int} {host : Int} {secs : Int} {nonce : Int} {wish : Int} {wish_1 : Int} {outside : Int} {now : Int} {epoch : Int} {epochAt : Int} {hasEpoch : Bool} {now_1 : Int} {FL : List HP} {w : World} {K : Bool → Int → Prop} {R : Value → World → Prop}
  (h : Mem (cel b_1 47 [(Value.int .i64 s), (Value.int .i64 s_1), (Value.int .i64 s_2), (Value.int .u32 s_3), (Value.int .i64 s_4), (Value.int .i64 s_5), (Value.int .i64 s_6), (Value.int .i64 s_7), (Value.int .u32 host), (Value.int .i64 secs), (Value.int .u64 nonce), (Value.int .u32 wish), (Value.int .i64 wish_1), (Value.int .u32 outside), (Value.int .i64 now), (Value.int .i64 epoch), (Value.int .i64 epochAt), (Value.bool hasEpoch)] :: FL) w) (hp : mapper_Mapper_on_wp s s_1 s_2 s_3 s_4 s_5 s_6 s_7 host secs nonce wish wish_1 outside now epoch epochAt hasEpoch now_1 K)
  (hR : ∀ (r : Bool) (now_2 : Int) (w : World), Mem (cel b_1 47 [(Value.int .i64 s), (Value.int .i64 s_1), (Value.int .i64 s_2), (Value.int .u32 s_3), (Value.int .i64 s_4), (Value.int .i64 s_5), (Value.int .i64 s_6), (Value.int .i64 s_7), (Value.int .u32 host), (Value.int .i64 secs), (Value.int .u64 nonce), (Value.int .u32 wish), (Value.int .i64 wish_1), (Value.int .u32 outside), (Value.int .i64 now_2), (Value.int .i64 epoch), (Value.int .i64 epochAt), (Value.bool hasEpoch)] :: FL) w → K r now_2 → R (Value.bool r) w) :
  CallV Try.prog 12 #[(Value.pointer (some (Addr.mk b_1 0 none))), (Value.int .i64 now_1)] w R := by
  refine mapper_Mapper_on_call ?_
  unfold mapper_Mapper_on
  unfold mapper_Mapper_on_wp at hp
  obtain ⟨Q, hq, hp⟩ := hp
  refine ⟨fun m0 now1 t14 w => (some (Addr.mk b_1 0 none)) = m0 ∧ now_1 = now1 ∧ Q t14 ∧ Mem (cel b_1 47 [(Value.int .i64 s), (Value.int .i64 s_1), (Value.int .i64 s_2), (Value.int .u32 s_3), (Value.int .i64 s_4), (Value.int .i64 s_5), (Value.int .i64 s_6), (Value.int .i64 s_7), (Value.int .u32 host), (Value.int .i64 secs), (Value.int .u64 nonce), (Value.int .u32 wish), (Value.int .i64 wish_1), (Value.int .u32 outside), (Value.int .i64 now), (Value.int .i64 epoch), (Value.int .i64 epochAt), (Value.bool hasEpoch)] :: FL) w, ?_, ?_⟩
  · rintro m0 now1 t14 w ⟨rfl, rfl, hp, h⟩
    replace hp := hq t14 hp
    unfold mapper_Mapper_on_j1
    refine cond_both hp (fun hp => ?_) (fun hp => ?_)
    · exact hR false now _ h hp
    refine ⟨_, rfl, ?_⟩
    refine storeL (ys := [(Value.int .i64 now_1)]) h 0 14 rfl rfl rfl sz3 rfl rfl ?_
    intro w h
    dsimp only [setH, setVs, setV] at h
    exact hR true now_1 _ h hp
  clear hq
  refine ⟨_, rfl, ?_⟩
  refine ⟨_, cellL h 0 14 rfl rfl rfl, ?_⟩
  refine cond_both hp (fun hp => ?_) (fun hp => ?_)
  · exact ⟨rfl, rfl, hp, h⟩
  exact ⟨rfl, rfl, hp, h⟩

/-! embrasure/back.may (46) -/
def back_may_wp (first : Int) (most : Int) (K : Bool → Prop) : Prop :=
  cond (decide ((first : Int) ≥ 1)) (cond (decide ((first : Int) ≤ most)) (K (decide ((most : Int) ≤ 1099511627776))) (K false)) (K false)
theorem back_may_ok {first : Int} {most : Int} {FL : List HP} {w : World} {K : Bool → Prop} {R : Value → World → Prop}
  (h : Mem (FL) w) (hp : back_may_wp first most K)
  (hR : ∀ (r : Bool) (w : World), Mem (FL) w → K r → R (Value.bool r) w) :
  CallV Try.prog 46 #[(Value.int .i64 first), (Value.int .i64 most)] w R := by
  refine back_may_call ?_
  unfold back_may
  unfold back_may_wp at hp
  refine cond_both' hp (fun hp => ?_) (fun hp => ?_)
  · exact hR false _ h hp
  refine cond_both hp (fun hp => ?_) (fun hp => ?_)
  · exact hR (decide ((most : Int) ≤ 1099511627776)) _ h hp
  exact hR false _ h hp

/-! embrasure/back.Wait (32) -/
def back_Wait_wp (first : Int) (most : Int) (n_1 : Int) (K : Int → Int → Prop) : Prop :=
  joinP1 (fun (t16 : Bool) => cond t16 (K 0 1) (∃ (I : Nat → Int → Int → Prop), (∃ (n_4 : Nat), I n_4 n_1 first) ∧ ∀ (n_2 : Nat) (n2_1 : Int) (wait8 : Int), I n_2 n2_1 wait8 → (joinP1 (fun (t24 : Bool) => cond t24 (∃ (n_3 : Nat), n_3 < n_2 ∧ I n_3 (IntKind.wrap .i64 (n2_1 - 1)) (if (most : Int) < (IntKind.wrap .i64 (2 * wait8)) then most else (IntKind.wrap .i64 (2 * wait8)))) (K wait8 0)) (fun (Q_1 : Bool → Prop) => cond (decide ((wait8 : Int) < most)) (Q_1 (decide ((n2_1 : Int) > 0))) (Q_1 false))))) (fun (Q : Bool → Prop) => back_may_wp first most (fun (r : Bool) => cond (!r) (Q true) (Q (decide ((n_1 : Int) < 0)))))
theorem back_Wait_ok {first : Int} {most : Int} {n_1 : Int} {FL : List HP} {w : World} {K : Int → Int → Prop} {R : Value → World → Prop}
  (h : Mem (FL) w) (hp : back_Wait_wp first most n_1 K)
  (hR : ∀ (r : Int) (r_1 : Int) (w : World), Mem (FL) w → K r r_1 → R (Value.tuple #[(Value.int .i64 r), (Value.int .i64 r_1)]) w) :
  CallV Try.prog 32 #[(Value.int .i64 first), (Value.int .i64 most), (Value.int .i64 n_1)] w R := by
  refine back_Wait_call ?_
  unfold back_Wait
  unfold back_Wait_wp at hp
  obtain ⟨Q, hq, hp⟩ := hp
  refine ⟨fun first0 most1 n2 t16 w => first = first0 ∧ most = most1 ∧ n_1 = n2 ∧ Q t16 ∧ Mem (FL) w, ?_, ?_⟩
  · rintro first0 most1 n2 t16 w ⟨rfl, rfl, rfl, hp, h⟩
    replace hp := hq t16 hp
    unfold back_Wait_j1
    refine cond_both hp (fun hp => ?_) (fun hp => ?_)
    · exact hR 0 1 _ h hp
    obtain ⟨I, ⟨n_4, h0⟩, hq⟩ := hp
    refine ⟨fun n_2 most1_1 n2_1 wait8 w => most = most1_1 ∧ I n_2 n2_1 wait8 ∧ Mem (FL) w, ⟨n_4, rfl, h0, h⟩, ?_⟩
    clear h0 h
    rintro n_2 most1_1 n2_1 wait8 w ⟨rfl, hp, h⟩
    replace hp := hq n_2 n2_1 wait8 hp
    clear hq
    unfold back_Wait_l2
    obtain ⟨Q_1, hq, hp⟩ := hp
    refine ⟨fun most1_2 n2_2 wait8_1 t24 w => most = most1_2 ∧ n2_1 = n2_2 ∧ wait8 = wait8_1 ∧ Q_1 t24 ∧ Mem (FL) w, ?_, ?_⟩
    · rintro most1_2 n2_2 wait8_1 t24 w ⟨rfl, rfl, rfl, hp, h⟩
      replace hp := hq t24 hp
      unfold back_Wait_j3
      refine cond_both' hp (fun hp => ?_) (fun hp => ?_)
      · exact hR wait8 0 _ h hp
      obtain ⟨n_3, hn, hp⟩ := hp
      exact ⟨n_3, hn, rfl, hp, h⟩
    clear hq
    refine cond_both hp (fun hp => ?_) (fun hp => ?_)
    · exact ⟨rfl, rfl, rfl, hp, h⟩
    exact ⟨rfl, rfl, rfl, hp, h⟩
  clear hq
  refine back_may_ok h hp ?_
  intro r w h hp
  refine ⟨_, rfl, ?_⟩
  refine cond_both hp (fun hp => ?_) (fun hp => ?_)
  · exact ⟨rfl, rfl, rfl, hp, h⟩
  exact ⟨rfl, rfl, rfl, hp, h⟩

/-! embrasure/pcp.fits (17) -/
def pcp_fits_wp (l_Ver : Int) (l_Inside : Int) (l_Port : Int) (l_Secs : Int) (l_Nonce : Int) (l_Result : Int) (l_Epoch : Int) (l_Host : Int) (K : Bool → Prop) : Prop :=
  joinP1 (fun (ports3 : Bool) => cond ((l_Ver : Int) == 2) (cond ports3 (cond (decide ((l_Secs : Int) ≥ 0)) (cond (decide ((l_Secs : Int) ≤ 4294967295)) (cond (decide ((l_Epoch : Int) ≥ 0)) (cond (decide ((l_Epoch : Int) ≤ 4294967295)) (cond (decide ((l_Result : Int) ≥ 0)) (K (decide ((l_Result : Int) ≤ 255))) (K false)) (K false)) (K false)) (K false)) (K false)) (K false)) (K false)) (fun (Q : Bool → Prop) => cond (decide ((l_Inside : Int) ≥ 0)) (cond (decide ((l_Inside : Int) ≤ 65535)) (cond (decide ((l_Port : Int) ≥ 0)) (Q (decide ((l_Port : Int) ≤ 65535))) (Q false)) (Q false)) (Q false))
theorem pcp_fits_ok {l_Ver : Int} {l_Inside : Int} {l_Port : Int} {l_Secs : Int} {l_Nonce : Int} {l_Result : Int} {l_Epoch : Int} {l_Host : Int} {FL : List HP} {w : World} {K : Bool → Prop} {R : Value → World → Prop}
  (h : Mem (FL) w) (hp : pcp_fits_wp l_Ver l_Inside l_Port l_Secs l_Nonce l_Result l_Epoch l_Host K)
  (hR : ∀ (r : Bool) (w : World), Mem (FL) w → K r → R (Value.bool r) w) :
  CallV Try.prog 17 #[(Value.agg #[(Value.int .i64 l_Ver), (Value.int .i64 l_Inside), (Value.int .i64 l_Port), (Value.int .i64 l_Secs), (Value.int .u64 l_Nonce), (Value.int .i64 l_Result), (Value.int .i64 l_Epoch), (Value.int .u32 l_Host)])] w R := by
  refine pcp_fits_call ?_
  unfold pcp_fits
  unfold pcp_fits_wp at hp
  refine newL (o := [(Value.int .i64 l_Ver), (Value.int .i64 l_Inside), (Value.int .i64 l_Port), (Value.int .i64 l_Secs), (Value.int .u64 l_Nonce), (Value.int .i64 l_Result), (Value.int .i64 l_Epoch), (Value.int .u32 l_Host)]) h ?_
  intro b_1 w h
  obtain ⟨Q, hq, hp⟩ := hp
  refine ⟨fun l1 ports3 w => (Addr.mk b_1 0 none) = l1 ∧ Q ports3 ∧ Mem (cel b_1 36 [(Value.int .i64 l_Ver), (Value.int .i64 l_Inside), (Value.int .i64 l_Port), (Value.int .i64 l_Secs), (Value.int .u64 l_Nonce), (Value.int .i64 l_Result), (Value.int .i64 l_Epoch), (Value.int .u32 l_Host)] :: FL) w, ?_, ?_⟩
  · rintro l1 ports3 w ⟨rfl, hp, h⟩
    replace hp := hq ports3 hp
    unfold pcp_fits_j1
    refine ⟨_, cellL h 0 0 rfl rfl rfl, ?_⟩
    refine cond_both' hp (fun hp => ?_) (fun hp => ?_)
    · replace h := h.sel [] 1
      dsimp only [pickL, pickR, nthH, delH, dropH, List.cons_append, List.nil_append] at h
      exact hR false _ h hp
    refine cond_both' hp (fun hp => ?_) (fun hp => ?_)
    · replace h := h.sel [] 1
      dsimp only [pickL, pickR, nthH, delH, dropH, List.cons_append, List.nil_append] at h
      exact hR false _ h hp
    refine ⟨_, cellL h 0 3 rfl rfl rfl, ?_⟩
    refine cond_both' hp (fun hp => ?_) (fun hp => ?_)
    · replace h := h.sel [] 1
      dsimp only [pickL, pickR, nthH, delH, dropH, List.cons_append, List.nil_append] at h
      exact hR false _ h hp
    refine ⟨_, cellL h 0 3 rfl rfl rfl, ?_⟩
    refine cond_both' hp (fun hp => ?_) (fun hp => ?_)
    · replace h := h.sel [] 1
      dsimp only [pickL, pickR, nthH, delH, dropH, List.cons_append, List.nil_append] at h
      exact hR false _ h hp
    refine ⟨_, cellL h 0 6 rfl rfl rfl, ?_⟩
    refine cond_both' hp (fun hp => ?_) (fun hp => ?_)
    · replace h := h.sel [] 1
      dsimp only [pickL, pickR, nthH, delH, dropH, List.cons_append, List.nil_append] at h
      exact hR false _ h hp
    refine ⟨_, cellL h 0 6 rfl rfl rfl, ?_⟩
    refine cond_both' hp (fun hp => ?_) (fun hp => ?_)
    · replace h := h.sel [] 1
      dsimp only [pickL, pickR, nthH, delH, dropH, List.cons_append, List.nil_append] at h
      exact hR false _ h hp
    refine ⟨_, cellL h 0 5 rfl rfl rfl, ?_⟩
    refine cond_both' hp (fun hp => ?_) (fun hp => ?_)
    · replace h := h.sel [] 1
      dsimp only [pickL, pickR, nthH, delH, dropH, List.cons_append, List.nil_append] at h
      exact hR false _ h hp
    refine ⟨_, cellL h 0 5 rfl rfl rfl, ?_⟩
    replace h := h.sel [] 1
    dsimp only [pickL, pickR, nthH, delH, dropH, List.cons_append, List.nil_append] at h
    exact hR (decide ((l_Result : Int) ≤ 255)) _ h hp
  clear hq
  refine ⟨_, cellL h 0 1 rfl rfl rfl, ?_⟩
  refine cond_both' hp (fun hp => ?_) (fun hp => ?_)
  · exact ⟨rfl, hp, h⟩
  refine ⟨_, cellL h 0 1 rfl rfl rfl, ?_⟩
  refine cond_both' hp (fun hp => ?_) (fun hp => ?_)
  · exact ⟨rfl, hp, h⟩
  refine ⟨_, cellL h 0 2 rfl rfl rfl, ?_⟩
  refine cond_both' hp (fun hp => ?_) (fun hp => ?_)
  · exact ⟨rfl, hp, h⟩
  refine ⟨_, cellL h 0 2 rfl rfl rfl, ?_⟩
  exact ⟨rfl, hp, h⟩

/-! embrasure/pcp.big (19) -/
def pcp_big_wp (v : Int) (n_1 : Int) (K : List (Int) → Prop) : Prop :=
  0 ≤ (n_1 : Int) ∧ n_1 ≤ (n_1 : Int) ∧ (n_1 : Int) ≤ 140737488355328 ∧ ((1 : Nat) : Int) * n_1 ≤ 140737488355328 ∧ (∃ (I : Nat → List (Int) → Int → Prop), (∃ (n_4 : Nat), I n_4 (List.replicate (Int.toNat n_1) 0) 0) ∧ ∀ (n_2 : Nat) (out : List (Int)) (t10 : Int), I n_2 out t10 → (cond (decide ((t10 : Int) < n_1)) (0 ≤ ((IntKind.wrap .i64 (8 * t10)) : Int) ∧ (0 ≤ ((IntKind.wrap .i64 ((IntKind.wrap .i64 (n_1 - 1)) - t10)) : Int) ∧ ((IntKind.wrap .i64 ((IntKind.wrap .i64 (n_1 - 1)) - t10)) : Int) < (((Int.toNat n_1) : Nat) : Int) ∧ (∃ (n_3 : Nat), n_3 < n_2 ∧ I n_3 (List.set out (Int.toNat (IntKind.wrap .i64 ((IntKind.wrap .i64 (n_1 - 1)) - t10))) (IntKind.wrap .u8 (Int.fdiv v (2 ^ (min (Int.toNat (IntKind.wrap .i64 (8 * t10))) (IntKind.bits .u64)))))) (IntKind.wrap .i64 (t10 + 1))))) (K out)))
theorem pcp_big_ok {v : Int} {n_1 : Int} {FL : List HP} {w : World} {K : List (Int) → Prop} {R : Value → World → Prop}
  (h : Mem (FL) w) (hp : pcp_big_wp v n_1 K)
  (hR : ∀ (rs : List (Int)) (p_1 : Option Addr) (n_2 : Nat) (c_1 : Nat) (w : World), n_2 = rs.length → Mem (row enc5 5 1 p_1 c_1 rs :: FL) w → K rs → R (Value.slice p_1 n_2 c_1) w) :
  CallV Try.prog 19 #[(Value.int .u64 v), (Value.int .i64 n_1)] w R := by
  refine pcp_big_call ?_
  unfold pcp_big
  unfold pcp_big_wp at hp
  obtain ⟨g_1a, g_1b, g_1d, g_1e, hp⟩ := hp
  refine ⟨g_1a, g_1b, g_1d, g_1e, ?_⟩
  have g_1c : 0 ≤ (n_1 : Int) := Int.le_trans g_1a g_1b
  refine makeL (x0 := 0) (T := 5) h encL5 rfl (natLe2 g_1a g_1c g_1b) ?_
  intro b_1 w h
  obtain ⟨I, ⟨n_4, h0⟩, hq⟩ := hp
  refine ⟨fun n_2 v0 n1 out5p out5l out5c t9 t10 w => ∃ (out : List (Int)), v = v0 ∧ n_1 = n1 ∧ (some ⟨b_1, 0, none⟩) = out5p ∧ (Int.toNat n_1) = out5l ∧ (Int.toNat n_1) = out5c ∧ n_1 = t9 ∧ (Int.toNat n_1) = out.length ∧ I n_2 out t10 ∧ Mem (row enc5 5 1 (some ⟨b_1, 0, none⟩) (Int.toNat n_1) out :: FL) w, ⟨n_4, (List.replicate (Int.toNat n_1) 0), rfl, rfl, rfl, rfl, rfl, rfl, (List.length_replicate).symm, h0, h⟩, ?_⟩
  clear h0 h
  rintro n_2 v0 n1 out5p out5l out5c t9 t10 w ⟨out, rfl, rfl, rfl, rfl, rfl, rfl, hl_out, hp, h⟩
  replace hp := hq n_2 out t10 hp
  clear hq
  unfold pcp_big_l1
  refine cond_both' hp (fun hp => ?_) (fun hp => ?_)
  · exact hR out (some ⟨b_1, 0, none⟩) (Int.toNat n_1) (Int.toNat n_1) _ hl_out h hp
  refine ⟨hp.1, ?_⟩
  replace hp := hp.2
  obtain ⟨ia_1, ja_1, hp⟩ := hp
  obtain ⟨a_1, ha_1⟩ := rdAddr (rowRd h 0 encL5 rfl) hl_out ia_1 ja_1
  refine ⟨a_1, ha_1, ia_1, ja_1, ?_⟩
  refine rowSetW (ys := [(Value.int .u8 (IntKind.wrap .u8 (Int.fdiv v (2 ^ (min (Int.toNat (IntKind.wrap .i64 (8 * t10))) (IntKind.bits .u64))))))]) (x := (IntKind.wrap .u8 (Int.fdiv v (2 ^ (min (Int.toNat (IntKind.wrap .i64 (8 * t10))) (IntKind.bits .u64)))))) h 0 encL5 rfl ha_1 hl_out ia_1 ja_1 sz5 rfl rfl rfl ?_
  intro w h
  dsimp only [setH, setVs, setV] at h
  obtain ⟨n_3, hn, hp⟩ := hp
  exact ⟨n_3, hn, (List.set out (Int.toNat (IntKind.wrap .i64 ((IntKind.wrap .i64 (n_1 - 1)) - t10))) (IntKind.wrap .u8 (Int.fdiv v (2 ^ (min (Int.toNat (IntKind.wrap .i64 (8 * t10))) (IntKind.bits .u64)))))), rfl, rfl, rfl, rfl, rfl, rfl, (lenSet hl_out), hp, h⟩

/-! slices.Grow[[]byte,byte] (43) -/
def slices_Grow_sl_byte_byte_wp (n_1 : Int) (K : List (Int) → Prop) : Prop :=
  cond (decide ((n_1 : Int) < 0)) (False) (cond (decide (((IntKind.wrap .i64 (n_1 - (IntKind.wrap .i64 (((0 : Nat) : Int) - ((0 : Nat) : Int))))) : Int) > 0)) (0 ≤ (((0 : Nat) : Int) : Int) ∧ (((0 : Nat) : Int) : Int) ≤ ((0 : Nat) : Int) ∧ (0 ≤ ((IntKind.wrap .i64 (n_1 - (IntKind.wrap .i64 (((0 : Nat) : Int) - ((0 : Nat) : Int))))) : Int) ∧ (([] : List (Int)).length + Int.toNat (IntKind.wrap .i64 (n_1 - (IntKind.wrap .i64 (((0 : Nat) : Int) - ((0 : Nat) : Int)))))) * 1 ≤ 140737488355328 ∧ (0 ≤ (((0 : Nat) : Int) : Int) ∧ (((0 : Nat) : Int) : Int) ≤ (((([] : List (Int)) ++ List.replicate (Int.toNat (IntKind.wrap .i64 (n_1 - (IntKind.wrap .i64 (((0 : Nat) : Int) - ((0 : Nat) : Int)))))) 0).length : Nat) : Int) ∧ (K (((([] : List (Int)) ++ List.replicate (Int.toNat (IntKind.wrap .i64 (n_1 - (IntKind.wrap .i64 (((0 : Nat) : Int) - ((0 : Nat) : Int)))))) 0).take (Int.toNat ((0 : Nat) : Int))).drop 0))))) (K ([] : List (Int))))
theorem slices_Grow_sl_byte_byte_ok {n_1 : Int} {FL : List HP} {w : World} {K : List (Int) → Prop} {R : Value → World → Prop}
  (h : Mem (FL) w) (hp : slices_Grow_sl_byte_byte_wp n_1 K)
  (hR : ∀ (rs : List (Int)) (p_1 : Option Addr) (n_2 : Nat) (c_1 : Nat) (w : World), n_2 = rs.length → Mem (row enc5 5 1 p_1 c_1 rs :: FL) w → K rs → R (Value.slice p_1 n_2 c_1) w) :
  CallV Try.prog 43 #[(Value.slice none 0 0), (Value.int .i64 n_1)] w R := by
  refine slices_Grow_sl_byte_byte_call ?_
  unfold slices_Grow_sl_byte_byte
  unfold slices_Grow_sl_byte_byte_wp at hp
  refine cond_both hp (fun hp => ?_) (fun hp => ?_)
  · exact hp.elim
  refine capL und38 ?_
  refine ⟨_, rfl, ?_⟩
  refine cond_both' hp (fun hp => ?_) (fun hp => ?_)
  · replace h := rowNil enc5 5 1 h
    exact hR ([] : List (Int)) (none  ) 0 0 _ rfl h hp
  refine capL und38 ?_
  refine ⟨_, rfl, ?_⟩
  obtain ⟨g_1a, g_1b, hp⟩ := hp
  refine ⟨g_1a, g_1b, ?_⟩
  replace h := rowNil enc5 5 1 h
  obtain ⟨za, zb, hp⟩ := hp
  refine appendZ (x0 := 0) slt38 undn3 encL5 encO5 rfl h 0 rfl rfl (by decide) za zb ?_
  intro p_2 c_1 w h
  dsimp only [setH, setVs, setV] at h
  have cpp_2 := rowCap h 0 rfl
  refine ⟨_, _, _, rfl, ?_⟩
  obtain ⟨g_2ha, g_2hb, hp⟩ := hp
  have vg_2_lh : 0 ≤ (Int.toNat ((0 : Nat) : Int)) := (Nat.zero_le _)
  have vg_2_hm : (Int.toNat ((0 : Nat) : Int)) ≤ c_1 := (Nat.le_trans (natLe g_2ha g_2hb) cpp_2)
  have vg_2_mc : c_1 ≤ c_1 := (Nat.le_refl _)
  have vg_2_hl : (Int.toNat ((0 : Nat) : Int)) ≤ (([] : List (Int)) ++ List.replicate (Int.toNat (IntKind.wrap .i64 (n_1 - (IntKind.wrap .i64 (((0 : Nat) : Int) - ((0 : Nat) : Int)))))) 0).length := (leLen g_2ha g_2hb rfl)
  refine ⟨g_2ha, (leCap g_2hb cpp_2), ?_⟩
  replace h := rowShrink h 0 encL5 rfl (l := 0) (hi := (Int.toNat ((0 : Nat) : Int))) (m := c_1) vg_2_lh vg_2_hm vg_2_mc vg_2_hl
  dsimp only [setH, setVs, setV] at h
  exact hR (((([] : List (Int)) ++ List.replicate (Int.toNat (IntKind.wrap .i64 (n_1 - (IntKind.wrap .i64 (((0 : Nat) : Int) - ((0 : Nat) : Int)))))) 0).take (Int.toNat ((0 : Nat) : Int))).drop 0) (slAddr p_2 1 0 c_1) ((Int.toNat ((0 : Nat) : Int)) - 0) (c_1 - 0) _ (viewLen vg_2_hl) h hp

/-! slices.Concat[[]byte,byte] (29) -/
def slices_Concat_sl_byte_byte_wp (slices : List ((List (Int)))) (K : List (Int) → Prop) : Prop :=
  joinP1 (fun (size3 : Int) => slices_Grow_sl_byte_byte_wp size3 (fun (rs : List (Int)) => ∃ (I_1 : Nat → List (Int) → Int → Prop), (∃ (n_8 : Nat), I_1 n_8 rs 0) ∧ ∀ (n_6 : Nat) (newslice : List (Int)) (t27 : Int), I_1 n_6 newslice t27 → (cond (decide ((t27 : Int) < ((slices.length : Nat) : Int))) (0 ≤ (t27 : Int) ∧ (t27 : Int) < ((slices.length : Nat) : Int) ∧ (∀ (x_2 : (List (Int))), slices[Int.toNat t27]? = some x_2 → ((newslice.length + x_2.length) * 1 ≤ 140737488355328 ∧ (∃ (n_7 : Nat), n_7 < n_6 ∧ I_1 n_7 (newslice ++ x_2) (IntKind.wrap .i64 (t27 + 1)))))) (K newslice)))) (fun (Q : Int → Prop) => ∃ (I : Nat → Int → Int → Prop), (∃ (n_4 : Nat), I n_4 0 0) ∧ ∀ (n_2 : Nat) (size3_1 : Int) (t11 : Int), I n_2 size3_1 t11 → (cond (decide ((t11 : Int) < ((slices.length : Nat) : Int))) (0 ≤ (t11 : Int) ∧ (t11 : Int) < ((slices.length : Nat) : Int) ∧ (∀ (x_1 : (List (Int))), slices[Int.toNat t11]? = some x_1 → (cond (decide (((IntKind.wrap .i64 (size3_1 + ((x_1.length : Nat) : Int))) : Int) < 0)) (False) (∃ (n_3 : Nat), n_3 < n_2 ∧ I n_3 (IntKind.wrap .i64 (size3_1 + ((x_1.length : Nat) : Int))) (IntKind.wrap .i64 (t11 + 1)))))) (Q size3_1)))
theorem slices_Concat_sl_byte_byte_ok {p_1 : Option Addr} {n_1 : Nat} {c_1 : Nat} {slices : List ((List (Int)))} {FL : List HP} {w : World} {K : List (Int) → Prop} {R : Value → World → Prop}
  (hF_slices : ∀ w, Mem FL w → RdD w 1 p_1 (encR38 FL) slices) (hl_slices : n_1 = slices.length) (hc_slices : n_1 ≤ c_1)
  (h : Mem (FL) w) (hp : slices_Concat_sl_byte_byte_wp slices K)
  (hR : ∀ (rs : List (Int)) (p_2 : Option Addr) (n_2 : Nat) (c_2 : Nat) (w : World), n_2 = rs.length → Mem (row enc5 5 1 p_2 c_2 rs :: FL) w → K rs → R (Value.slice p_2 n_2 c_2) w) :
  CallV Try.prog 29 #[(Value.slice p_1 n_1 c_1)] w R := by
  refine slices_Concat_sl_byte_byte_call ?_
  unfold slices_Concat_sl_byte_byte
  unfold slices_Concat_sl_byte_byte_wp at hp
  subst hl_slices
  obtain ⟨Q, hq, hp⟩ := hp
  refine ⟨fun slices0p slices0l slices0c size3 w => p_1 = slices0p ∧ slices.length = slices0l ∧ c_1 = slices0c ∧ Q size3 ∧ Mem (FL) w, ?_, ?_⟩
  · rintro slices0p slices0l slices0c size3 w ⟨rfl, rfl, rfl, hp, h⟩
    replace hp := hq size3 hp
    unfold slices_Concat_sl_byte_byte_j1
    refine slices_Grow_sl_byte_byte_ok h hp ?_
    rintro rs p_2 n_5 c_2 w rfl h hp
    have cpp_2 := rowCap h 0 rfl
    refine ⟨_, _, _, rfl, ?_⟩
    obtain ⟨I_1, ⟨n_8, h0⟩, hq⟩ := hp
    refine ⟨fun n_6 newslice6p newslice6l newslice6c t25p t25l t25c t26 t27 w => ∃ (newslice : List (Int)), p_1 = t25p ∧ slices.length = t25l ∧ c_1 = t25c ∧ ((slices.length : Nat) : Int) = t26 ∧ newslice6l = newslice.length ∧ I_1 n_6 newslice t27 ∧ Mem (row enc5 5 1 newslice6p newslice6c newslice :: FL) w, ⟨n_8, rs, rfl, rfl, rfl, rfl, rfl, h0, h⟩, ?_⟩
    clear h0 h
    rintro n_6 newslice6p newslice6l newslice6c t25p t25l t25c t26 t27 w ⟨newslice, rfl, rfl, rfl, rfl, rfl, hp, h⟩
    replace hp := hq n_6 newslice t27 hp
    clear hq
    unfold slices_Concat_sl_byte_byte_l2
    have cpnewslice6p := rowCap h 0 rfl
    refine cond_both' hp (fun hp => ?_) (fun hp => ?_)
    · exact hR newslice newslice6p newslice.length newslice6c _ rfl h hp
    obtain ⟨ia_2, ja_2, hp⟩ := hp
    obtain ⟨a_2, ha_2⟩ := rdAddrD (hF_slices _ (h.drop 1)) rfl ia_2 ja_2
    refine ⟨a_2, ha_2, ia_2, ja_2, ?_⟩
    obtain ⟨x_2, hx_2, cs, hR, hc0, hc1, hc2⟩ := rdCellD (hF_slices _ (h.drop 1)) ha_2 rfl ia_2 ja_2
    replace hp := hp x_2 hx_2
    obtain ⟨q_1p0, q_1n0, q_1c0, rfl, rfl, hc_q_1p0, hF_q_1p0⟩ := hR
    refine ⟨_, _, _, hc0 _ rfl, ?_⟩
    have sr := (hF_q_1p0 _ (h.drop 1))
    obtain ⟨hb, hp⟩ := hp
    refine appendL slt38 und38 encL5 encO5 h 0 rfl rfl sr rfl hb ?_
    intro p_3 c_3 w h
    dsimp only [setH, setVs, setV] at h
    have cpp_3 := rowCap h 0 rfl
    refine ⟨_, _, _, rfl, ?_⟩
    obtain ⟨n_7, hn, hp⟩ := hp
    exact ⟨n_7, hn, (newslice ++ x_2), rfl, rfl, rfl, rfl, rfl, hp, h⟩
  clear hq
  obtain ⟨I, ⟨n_4, h0⟩, hq⟩ := hp
  refine ⟨fun n_2 slices0_1p slices0_1l slices0_1c size3_1 t9p t9l t9c t10 t11 w => p_1 = slices0_1p ∧ slices.length = slices0_1l ∧ c_1 = slices0_1c ∧ p_1 = t9p ∧ slices.length = t9l ∧ c_1 = t9c ∧ ((slices.length : Nat) : Int) = t10 ∧ I n_2 size3_1 t11 ∧ Mem (FL) w, ⟨n_4, rfl, rfl, rfl, rfl, rfl, rfl, rfl, h0, h⟩, ?_⟩
  clear h0 h
  rintro n_2 slices0_1p slices0_1l slices0_1c size3_1 t9p t9l t9c t10 t11 w ⟨rfl, rfl, rfl, rfl, rfl, rfl, rfl, hp, h⟩
  replace hp := hq n_2 size3_1 t11 hp
  clear hq
  unfold slices_Concat_sl_byte_byte_l3
  refine cond_both' hp (fun hp => ?_) (fun hp => ?_)
  · exact ⟨rfl, rfl, rfl, hp, h⟩
  obtain ⟨ia_1, ja_1, hp⟩ := hp
  obtain ⟨a_1, ha_1⟩ := rdAddrD (hF_slices _ (h.drop 0)) rfl ia_1 ja_1
  refine ⟨a_1, ha_1, ia_1, ja_1, ?_⟩
  obtain ⟨x_1, hx_1, cs, hR, hc0, hc1, hc2⟩ := rdCellD (hF_slices _ (h.drop 0)) ha_1 rfl ia_1 ja_1
  replace hp := hp x_1 hx_1
  obtain ⟨qp0, qn0, qc0, rfl, rfl, hc_qp0, hF_qp0⟩ := hR
  refine ⟨_, _, _, hc0 _ rfl, ?_⟩
  refine cond_both hp (fun hp => ?_) (fun hp => ?_)
  · exact hp.elim
  obtain ⟨n_3, hn, hp⟩ := hp
  exact ⟨n_3, hn, rfl, rfl, rfl, rfl, rfl, rfl, rfl, hp, h⟩

/-! embrasure/pcp.host16 (44) -/
def pcp_host16_wp (h_1 : Int) (K : List (Int) → Prop) : Prop :=
  (0 ≤ (10 : Int) ∧ 10 ≤ (10 : Int) ∧ (10 : Int) ≤ 140737488355328 ∧ ((1 : Nat) : Int) * 10 ≤ 140737488355328 ∧ ((pcp_big_wp (IntKind.wrap .u64 h_1) 4 (fun (rs : List (Int)) => slices_Concat_sl_byte_byte_wp [(List.replicate (Int.toNat 10) 0), [255, 255], rs] (fun (rs_1 : List (Int)) => K rs_1))) ∧ (pcp_big_wp (IntKind.wrap .u64 h_1) 4 (fun (rs_2 : List (Int)) => slices_Concat_sl_byte_byte_wp [(List.replicate (Int.toNat 10) 0), [255, 255], rs_2] (fun (rs_3 : List (Int)) => K rs_3))))) ∧ ((0 ≤ (10 : Int) ∧ 10 ≤ (10 : Int) ∧ (10 : Int) ≤ 140737488355328 ∧ ((1 : Nat) : Int) * 10 ≤ 140737488355328 ∧ (pcp_big_wp (IntKind.wrap .u64 h_1) 4 (fun (rs_4 : List (Int)) => slices_Concat_sl_byte_byte_wp [(List.replicate (Int.toNat 10) 0), [255, 255], rs_4] (fun (rs_5 : List (Int)) => K rs_5)))) ∧ (pcp_big_wp (IntKind.wrap .u64 h_1) 4 (fun (rs_6 : List (Int)) => 0 ≤ (10 : Int) ∧ 10 ≤ (10 : Int) ∧ (10 : Int) ≤ 140737488355328 ∧ ((1 : Nat) : Int) * 10 ≤ 140737488355328 ∧ (slices_Concat_sl_byte_byte_wp [(List.replicate (Int.toNat 10) 0), [255, 255], rs_6] (fun (rs_7 : List (Int)) => K rs_7))))) ∧ (pcp_big_wp (IntKind.wrap .u64 h_1) 4 (fun (rs_8 : List (Int)) => (0 ≤ (10 : Int) ∧ 10 ≤ (10 : Int) ∧ (10 : Int) ≤ 140737488355328 ∧ ((1 : Nat) : Int) * 10 ≤ 140737488355328 ∧ (slices_Concat_sl_byte_byte_wp [(List.replicate (Int.toNat 10) 0), [255, 255], rs_8] (fun (rs_9 : List (Int)) => K rs_9))) ∧ (0 ≤ (10 : Int) ∧ 10 ≤ (10 : Int) ∧ (10 : Int) ≤ 140737488355328 ∧ ((1 : Nat) : Int) * 10 ≤ 140737488355328 ∧ (slices_Concat_sl_byte_byte_wp [(List.replicate (Int.toNat 10) 0), [255, 255], rs_8] (fun (rs_10 : List (Int)) => K rs_10)))))
theorem pcp_host16_ok {h_1 : Int} {FL : List HP} {w : World} {K : List (Int) → Prop} {R : Value → World → Prop}
  (h : Mem (FL) w) (hp : pcp_host16_wp h_1 K)
  (hR : ∀ (rs : List (Int)) (p_1 : Option Addr) (n_1 : Nat) (c_1 : Nat) (w : World), n_1 = rs.length → Mem (row enc5 5 1 p_1 c_1 rs :: FL) w → K rs → R (Value.slice p_1 n_1 c_1) w) :
  CallV Try.prog 44 #[(Value.int .u32 h_1)] w R := by
  refine pcp_host16_call ?_
  unfold pcp_host16
  unfold pcp_host16_wp at hp
  replace h := h.drew
  refine ⟨?_, ?_⟩
  · replace hp := hp.1
    obtain ⟨g_1a, g_1b, g_1d, g_1e, hp⟩ := hp
    refine ⟨g_1a, g_1b, g_1d, g_1e, ?_⟩
    have g_1c : 0 ≤ (10 : Int) := Int.le_trans g_1a g_1b
    refine makeL (x0 := 0) (T := 5) h encL5 rfl (natLe2 g_1a g_1c g_1b) ?_
    intro b_1 w h
    refine ⟨?_, ?_⟩
    · replace hp := hp.1
      refine newL (o := [(Value.int .u8 255), (Value.int .u8 255)]) h ?_
      intro b_2 w h
      refine pcp_big_ok h hp ?_
      rintro rs p_1 n_1 c_1 w rfl h hp
      have cpp_1 := rowCap h 0 rfl
      refine ⟨_, _, _, rfl, ?_⟩
      refine newL (o := [(Value.slice (some ⟨b_1, 0, none⟩) (Int.toNat 10) (Int.toNat 10)), (Value.slice (some ⟨b_2, 0, none⟩) 2 2), (Value.slice p_1 rs.length c_1)]) h ?_
      intro b_3 w h
      refine slices_Concat_sl_byte_byte_ok (FL := cel b_3 38 [(Value.slice (some ⟨b_1, 0, none⟩) (Int.toNat 10) (Int.toNat 10)), (Value.slice (some ⟨b_2, 0, none⟩) 2 2), (Value.slice p_1 rs.length c_1)] :: row enc5 5 1 p_1 c_1 rs :: cel b_2 5 [(Value.int .u8 255), (Value.int .u8 255)] :: row enc5 5 1 (some ⟨b_1, 0, none⟩) (Int.toNat 10) (List.replicate (Int.toNat 10) 0) :: FL) (fun w h => celRdD (z := 1) h 0 rfl [(List.replicate (Int.toNat 10) 0), [255, 255], rs] [[(Value.slice (some ⟨b_1, 0, none⟩) (Int.toNat 10) (Int.toNat 10))], [(Value.slice (some ⟨b_2, 0, none⟩) 2 2)], [(Value.slice p_1 rs.length c_1)]] rfl rfl (Fa2.cons ⟨_, _, _, rfl, (List.length_replicate).symm, (natLe2 g_1a g_1c g_1b), (fun w h => (rowRd h 3 encL5 rfl))⟩ (Fa2.cons ⟨_, _, _, rfl, rfl, (Nat.le_refl _), (fun w h => (celRd h 2 encL5 rfl [255, 255] rfl))⟩ (Fa2.cons ⟨_, _, _, rfl, rfl, cpp_1, (fun w h => (rowRd h 1 encL5 rfl))⟩ Fa2.nil)))) rfl (Nat.le_refl _) h hp ?_
      rintro rs_1 p_2 n_2 c_2 w rfl h hp
      have cpp_2 := rowCap h 0 rfl
      refine ⟨_, _, _, rfl, ?_⟩
      replace h := h.sel [0] 4
      dsimp only [pickL, pickR, nthH, delH, dropH, List.cons_append, List.nil_append] at h
      exact hR rs_1 p_2 rs_1.length c_2 _ rfl h hp
    replace hp := hp.2
    refine pcp_big_ok h hp ?_
    rintro rs_2 p_3 n_3 c_3 w rfl h hp
    have cpp_3 := rowCap h 0 rfl
    refine ⟨_, _, _, rfl, ?_⟩
    refine newL (o := [(Value.int .u8 255), (Value.int .u8 255)]) h ?_
    intro b_4 w h
    refine newL (o := [(Value.slice (some ⟨b_1, 0, none⟩) (Int.toNat 10) (Int.toNat 10)), (Value.slice (some ⟨b_4, 0, none⟩) 2 2), (Value.slice p_3 rs_2.length c_3)]) h ?_
    intro b_5 w h
    refine slices_Concat_sl_byte_byte_ok (FL := cel b_5 38 [(Value.slice (some ⟨b_1, 0, none⟩) (Int.toNat 10) (Int.toNat 10)), (Value.slice (some ⟨b_4, 0, none⟩) 2 2), (Value.slice p_3 rs_2.length c_3)] :: cel b_4 5 [(Value.int .u8 255), (Value.int .u8 255)] :: row enc5 5 1 p_3 c_3 rs_2 :: row enc5 5 1 (some ⟨b_1, 0, none⟩) (Int.toNat 10) (List.replicate (Int.toNat 10) 0) :: FL) (fun w h => celRdD (z := 1) h 0 rfl [(List.replicate (Int.toNat 10) 0), [255, 255], rs_2] [[(Value.slice (some ⟨b_1, 0, none⟩) (Int.toNat 10) (Int.toNat 10))], [(Value.slice (some ⟨b_4, 0, none⟩) 2 2)], [(Value.slice p_3 rs_2.length c_3)]] rfl rfl (Fa2.cons ⟨_, _, _, rfl, (List.length_replicate).symm, (natLe2 g_1a g_1c g_1b), (fun w h => (rowRd h 3 encL5 rfl))⟩ (Fa2.cons ⟨_, _, _, rfl, rfl, (Nat.le_refl _), (fun w h => (celRd h 1 encL5 rfl [255, 255] rfl))⟩ (Fa2.cons ⟨_, _, _, rfl, rfl, cpp_3, (fun w h => (rowRd h 2 encL5 rfl))⟩ Fa2.nil)))) rfl (Nat.le_refl _) h hp ?_
    rintro rs_3 p_4 n_4 c_4 w rfl h hp
    have cpp_4 := rowCap h 0 rfl
    refine ⟨_, _, _, rfl, ?_⟩
    replace h := h.sel [0] 4
    dsimp only [pickL, pickR, nthH, delH, dropH, List.cons_append, List.nil_append] at h
    exact hR rs_3 p_4 rs_3.length c_4 _ rfl h hp
  refine ⟨?_, ?_⟩
  · replace hp := hp.2.1
    refine newL (o := [(Value.int .u8 255), (Value.int .u8 255)]) h ?_
    intro b_6 w h
    refine ⟨?_, ?_⟩
    · replace hp := hp.1
      obtain ⟨g_2a, g_2b, g_2d, g_2e, hp⟩ := hp
      refine ⟨g_2a, g_2b, g_2d, g_2e, ?_⟩
      have g_2c : 0 ≤ (10 : Int) := Int.le_trans g_2a g_2b
      refine makeL (x0 := 0) (T := 5) h encL5 rfl (natLe2 g_2a g_2c g_2b) ?_
      intro b_7 w h
      refine pcp_big_ok h hp ?_
      rintro rs_4 p_5 n_5 c_5 w rfl h hp
      have cpp_5 := rowCap h 0 rfl
      refine ⟨_, _, _, rfl, ?_⟩
      refine newL (o := [(Value.slice (some ⟨b_7, 0, none⟩) (Int.toNat 10) (Int.toNat 10)), (Value.slice (some ⟨b_6, 0, none⟩) 2 2), (Value.slice p_5 rs_4.length c_5)]) h ?_
      intro b_8 w h
      refine slices_Concat_sl_byte_byte_ok (FL := cel b_8 38 [(Value.slice (some ⟨b_7, 0, none⟩) (Int.toNat 10) (Int.toNat 10)), (Value.slice (some ⟨b_6, 0, none⟩) 2 2), (Value.slice p_5 rs_4.length c_5)] :: row enc5 5 1 p_5 c_5 rs_4 :: row enc5 5 1 (some ⟨b_7, 0, none⟩) (Int.toNat 10) (List.replicate (Int.toNat 10) 0) :: cel b_6 5 [(Value.int .u8 255), (Value.int .u8 255)] :: FL) (fun w h => celRdD (z := 1) h 0 rfl [(List.replicate (Int.toNat 10) 0), [255, 255], rs_4] [[(Value.slice (some ⟨b_7, 0, none⟩) (Int.toNat 10) (Int.toNat 10))], [(Value.slice (some ⟨b_6, 0, none⟩) 2 2)], [(Value.slice p_5 rs_4.length c_5)]] rfl rfl (Fa2.cons ⟨_, _, _, rfl, (List.length_replicate).symm, (natLe2 g_2a g_2c g_2b), (fun w h => (rowRd h 2 encL5 rfl))⟩ (Fa2.cons ⟨_, _, _, rfl, rfl, (Nat.le_refl _), (fun w h => (celRd h 3 encL5 rfl [255, 255] rfl))⟩ (Fa2.cons ⟨_, _, _, rfl, rfl, cpp_5, (fun w h => (rowRd h 1 encL5 rfl))⟩ Fa2.nil)))) rfl (Nat.le_refl _) h hp ?_
      rintro rs_5 p_6 n_6 c_6 w rfl h hp
      have cpp_6 := rowCap h 0 rfl
      refine ⟨_, _, _, rfl, ?_⟩
      replace h := h.sel [0] 4
      dsimp only [pickL, pickR, nthH, delH, dropH, List.cons_append, List.nil_append] at h
      exact hR rs_5 p_6 rs_5.length c_6 _ rfl h hp
    replace hp := hp.2
    refine pcp_big_ok h hp ?_
    rintro rs_6 p_7 n_7 c_7 w rfl h hp
    have cpp_7 := rowCap h 0 rfl
    refine ⟨_, _, _, rfl, ?_⟩
    obtain ⟨g_3a, g_3b, g_3d, g_3e, hp⟩ := hp
    refine ⟨g_3a, g_3b, g_3d, g_3e, ?_⟩
    have g_3c : 0 ≤ (10 : Int) := Int.le_trans g_3a g_3b
    refine makeL (x0 := 0) (T := 5) h encL5 rfl (natLe2 g_3a g_3c g_3b) ?_
    intro b_9 w h
    refine newL (o := [(Value.slice (some ⟨b_9, 0, none⟩) (Int.toNat 10) (Int.toNat 10)), (Value.slice (some ⟨b_6, 0, none⟩) 2 2), (Value.slice p_7 rs_6.length c_7)]) h ?_
    intro b_10 w h
    refine slices_Concat_sl_byte_byte_ok (FL := cel b_10 38 [(Value.slice (some ⟨b_9, 0, none⟩) (Int.toNat 10) (Int.toNat 10)), (Value.slice (some ⟨b_6, 0, none⟩) 2 2), (Value.slice p_7 rs_6.length c_7)] :: row enc5 5 1 (some ⟨b_9, 0, none⟩) (Int.toNat 10) (List.replicate (Int.toNat 10) 0) :: row enc5 5 1 p_7 c_7 rs_6 :: cel b_6 5 [(Value.int .u8 255), (Value.int .u8 255)] :: FL) (fun w h => celRdD (z := 1) h 0 rfl [(List.replicate (Int.toNat 10) 0), [255, 255], rs_6] [[(Value.slice (some ⟨b_9, 0, none⟩) (Int.toNat 10) (Int.toNat 10))], [(Value.slice (some ⟨b_6, 0, none⟩) 2 2)], [(Value.slice p_7 rs_6.length c_7)]] rfl rfl (Fa2.cons ⟨_, _, _, rfl, (List.length_replicate).symm, (natLe2 g_3a g_3c g_3b), (fun w h => (rowRd h 1 encL5 rfl))⟩ (Fa2.cons ⟨_, _, _, rfl, rfl, (Nat.le_refl _), (fun w h => (celRd h 3 encL5 rfl [255, 255] rfl))⟩ (Fa2.cons ⟨_, _, _, rfl, rfl, cpp_7, (fun w h => (rowRd h 2 encL5 rfl))⟩ Fa2.nil)))) rfl (Nat.le_refl _) h hp ?_
    rintro rs_7 p_8 n_8 c_8 w rfl h hp
    have cpp_8 := rowCap h 0 rfl
    refine ⟨_, _, _, rfl, ?_⟩
    replace h := h.sel [0] 4
    dsimp only [pickL, pickR, nthH, delH, dropH, List.cons_append, List.nil_append] at h
    exact hR rs_7 p_8 rs_7.length c_8 _ rfl h hp
  replace hp := hp.2.2
  refine pcp_big_ok h hp ?_
  rintro rs_8 p_9 n_9 c_9 w rfl h hp
  have cpp_9 := rowCap h 0 rfl
  refine ⟨_, _, _, rfl, ?_⟩
  refine ⟨?_, ?_⟩
  · replace hp := hp.1
    obtain ⟨g_4a, g_4b, g_4d, g_4e, hp⟩ := hp
    refine ⟨g_4a, g_4b, g_4d, g_4e, ?_⟩
    have g_4c : 0 ≤ (10 : Int) := Int.le_trans g_4a g_4b
    refine makeL (x0 := 0) (T := 5) h encL5 rfl (natLe2 g_4a g_4c g_4b) ?_
    intro b_11 w h
    refine newL (o := [(Value.int .u8 255), (Value.int .u8 255)]) h ?_
    intro b_12 w h
    refine newL (o := [(Value.slice (some ⟨b_11, 0, none⟩) (Int.toNat 10) (Int.toNat 10)), (Value.slice (some ⟨b_12, 0, none⟩) 2 2), (Value.slice p_9 rs_8.length c_9)]) h ?_
    intro b_13 w h
    refine slices_Concat_sl_byte_byte_ok (FL := cel b_13 38 [(Value.slice (some ⟨b_11, 0, none⟩) (Int.toNat 10) (Int.toNat 10)), (Value.slice (some ⟨b_12, 0, none⟩) 2 2), (Value.slice p_9 rs_8.length c_9)] :: cel b_12 5 [(Value.int .u8 255), (Value.int .u8 255)] :: row enc5 5 1 (some ⟨b_11, 0, none⟩) (Int.toNat 10) (List.replicate (Int.toNat 10) 0) :: row enc5 5 1 p_9 c_9 rs_8 :: FL) (fun w h => celRdD (z := 1) h 0 rfl [(List.replicate (Int.toNat 10) 0), [255, 255], rs_8] [[(Value.slice (some ⟨b_11, 0, none⟩) (Int.toNat 10) (Int.toNat 10))], [(Value.slice (some ⟨b_12, 0, none⟩) 2 2)], [(Value.slice p_9 rs_8.length c_9)]] rfl rfl (Fa2.cons ⟨_, _, _, rfl, (List.length_replicate).symm, (natLe2 g_4a g_4c g_4b), (fun w h => (rowRd h 2 encL5 rfl))⟩ (Fa2.cons ⟨_, _, _, rfl, rfl, (Nat.le_refl _), (fun w h => (celRd h 1 encL5 rfl [255, 255] rfl))⟩ (Fa2.cons ⟨_, _, _, rfl, rfl, cpp_9, (fun w h => (rowRd h 3 encL5 rfl))⟩ Fa2.nil)))) rfl (Nat.le_refl _) h hp ?_
    rintro rs_9 p_10 n_10 c_10 w rfl h hp
    have cpp_10 := rowCap h 0 rfl
    refine ⟨_, _, _, rfl, ?_⟩
    replace h := h.sel [0] 4
    dsimp only [pickL, pickR, nthH, delH, dropH, List.cons_append, List.nil_append] at h
    exact hR rs_9 p_10 rs_9.length c_10 _ rfl h hp
  replace hp := hp.2
  refine newL (o := [(Value.int .u8 255), (Value.int .u8 255)]) h ?_
  intro b_14 w h
  obtain ⟨g_5a, g_5b, g_5d, g_5e, hp⟩ := hp
  refine ⟨g_5a, g_5b, g_5d, g_5e, ?_⟩
  have g_5c : 0 ≤ (10 : Int) := Int.le_trans g_5a g_5b
  refine makeL (x0 := 0) (T := 5) h encL5 rfl (natLe2 g_5a g_5c g_5b) ?_
  intro b_15 w h
  refine newL (o := [(Value.slice (some ⟨b_15, 0, none⟩) (Int.toNat 10) (Int.toNat 10)), (Value.slice (some ⟨b_14, 0, none⟩) 2 2), (Value.slice p_9 rs_8.length c_9)]) h ?_
  intro b_16 w h
  refine slices_Concat_sl_byte_byte_ok (FL := cel b_16 38 [(Value.slice (some ⟨b_15, 0, none⟩) (Int.toNat 10) (Int.toNat 10)), (Value.slice (some ⟨b_14, 0, none⟩) 2 2), (Value.slice p_9 rs_8.length c_9)] :: row enc5 5 1 (some ⟨b_15, 0, none⟩) (Int.toNat 10) (List.replicate (Int.toNat 10) 0) :: cel b_14 5 [(Value.int .u8 255), (Value.int .u8 255)] :: row enc5 5 1 p_9 c_9 rs_8 :: FL) (fun w h => celRdD (z := 1) h 0 rfl [(List.replicate (Int.toNat 10) 0), [255, 255], rs_8] [[(Value.slice (some ⟨b_15, 0, none⟩) (Int.toNat 10) (Int.toNat 10))], [(Value.slice (some ⟨b_14, 0, none⟩) 2 2)], [(Value.slice p_9 rs_8.length c_9)]] rfl rfl (Fa2.cons ⟨_, _, _, rfl, (List.length_replicate).symm, (natLe2 g_5a g_5c g_5b), (fun w h => (rowRd h 1 encL5 rfl))⟩ (Fa2.cons ⟨_, _, _, rfl, rfl, (Nat.le_refl _), (fun w h => (celRd h 2 encL5 rfl [255, 255] rfl))⟩ (Fa2.cons ⟨_, _, _, rfl, rfl, cpp_9, (fun w h => (rowRd h 3 encL5 rfl))⟩ Fa2.nil)))) rfl (Nat.le_refl _) h hp ?_
  rintro rs_10 p_11 n_11 c_11 w rfl h hp
  have cpp_11 := rowCap h 0 rfl
  refine ⟨_, _, _, rfl, ?_⟩
  replace h := h.sel [0] 4
  dsimp only [pickL, pickR, nthH, delH, dropH, List.cons_append, List.nil_append] at h
  exact hR rs_10 p_11 rs_10.length c_11 _ rfl h hp

end Go.Proofs.Ytighenkbdiahpaa
