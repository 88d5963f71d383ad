/- The plain side of the statements on pcp: each function's answer. -/
import Derived.Test.YtdacemiaihidaaaP
namespace Go.Proofs.Ytdacemiaihidaaa
open Go Go.Eng

/-! ### Bytes -/

theorem bigF_add : ∀ (n m : Nat) (v : Int), bigF v (m + n) = bigF (v / 256 ^ n) m ++ bigF v n
  | 0, m, v => by simp [bigF]
  | n + 1, m, v => by
    show bigF v (m + n + 1) = _
    rw [bigF, bigF_add n m (v / 256), bigF]
    have e : v / 256 / 256 ^ n = v / 256 ^ (n + 1) := by
      rw [Int.pow_succ, Int.mul_comm, Int.ediv_ediv_of_nonneg (by omega)]
    rw [e, List.append_assoc]

theorem bigF_mod (n : Nat) (v : Int) : bigF (v % 256 ^ n) n = bigF v n := by
  have := bigF_num n (bigF v n) (bigF_len n v) (bigF_bytes n v)
  rwa [num_bigF] at this

theorem num_app (xs : List Int) : ∀ (n : Nat) (ys : List Int), ys.length = n → num (xs ++ ys) = num xs * 256 ^ n + num ys
  | 0, ys, hl => by
    obtain rfl := List.length_eq_zero_iff.1 hl
    simp [num_nil]
  | n + 1, ys, hl => by
    rcases List.eq_nil_or_concat ys with rfl | ⟨zs, c, rfl⟩
    · simp at hl
    · rw [List.concat_eq_append] at *
      rw [← List.append_assoc, num_snoc, num_snoc, num_app xs n zs (by simpa using hl), Int.pow_succ, Int.add_mul, Int.mul_assoc]
      omega

theorem num_lt8 {xs : List Int} (hl : xs.length ≤ 8) (hb : isBytes xs) : 0 ≤ num xs ∧ num xs < 18446744073709551616 := by
  have h := num_bound _ xs rfl hb
  revert h
  have : xs.length = 0 ∨ xs.length = 1 ∨ xs.length = 2 ∨ xs.length = 3 ∨ xs.length = 4 ∨ xs.length = 5 ∨ xs.length = 6 ∨ xs.length = 7 ∨ xs.length = 8 := by omega
  rcases this with e | e | e | e | e | e | e | e | e <;> rw [e] <;> intro h <;> simp at h <;> omega

theorem pget_wp {b : List Int} {K : Int → Prop} (hl : b.length ≤ 8) (hb : isBytes b) (hK : K (num b)) : pcp_get_wp b K := by
  unfold pcp_get_wp
  refine ⟨fun n v i => 0 ≤ i ∧ i ≤ b.length ∧ n = b.length - i.toNat ∧ v = num (b.take i.toNat), ⟨_, by omega, by omega, rfl, rfl⟩, ?_⟩
  rintro n v i ⟨h0, h1, rfl, rfl⟩
  refine cond_d (fun hlt => ?_) (fun hge => ?_)
  · refine ⟨h0, hlt, fun x hx => ?_⟩
    have hs := num_step hx
    have hx2 := hb x (List.mem_of_getElem? hx)
    have hb1 := num_lt8 (xs := b.take i.toNat) (by rw [List.length_take]; omega) (isBytes_take _ hb)
    have hb2 := num_lt8 (xs := b.take (i.toNat + 1)) (by rw [List.length_take]; omega) (isBytes_take _ hb)
    have e1 : num (b.take i.toNat) * 2 ^ (min (Int.toNat 8) (IntKind.bits .u64)) = num (b.take i.toNat) * 256 := rfl
    obtain ⟨m, hm⟩ : ∃ m : Nat, num (b.take i.toNat) = m := ⟨(num (b.take i.toNat)).toNat, by omega⟩
    obtain ⟨c, rfl⟩ : ∃ c : Nat, x = c := ⟨x.toNat, by omega⟩
    have e2 : bitsV .or .u64 (IntKind.wrap .u64 (num (b.take i.toNat) * 2 ^ (min (Int.toNat 8) (IntKind.bits .u64)))) (IntKind.wrap .u64 (c : Int)) = num (b.take (i.toNat + 1)) := by
      rw [e1, wrap_u64 (by omega) (by omega), wrap_u64 (by omega) (by omega), hs, hm, or_low rfl (by omega) (by omega), wrap_u64 (by omega) (by omega)]
    refine ⟨_, ?_, ?_, ?_, rfl, ?_⟩
    all_goals rw [wrap_i64 (x := i + 1) (by omega) (by omega)]
    · omega
    · omega
    · omega
    · rw [e2]
      congr 2
      omega
  · rw [show i.toNat = b.length by omega, List.take_length]
    exact hK

theorem strOf_inj {xs ys : List Int} (hx : isBytes xs) (hy : isBytes ys) (h : strOf xs = strOf ys) : xs = ys := by
  have h1 : (xs.map fun n => UInt8.ofNat n.toNat) = (ys.map fun n => UInt8.ofNat n.toNat) := by
    have := congrArg (fun b => b.data.toList) h
    simpa [strOf] using this
  have key : ∀ (zs : List Int), isBytes zs → (zs.map fun n => UInt8.ofNat n.toNat).map (fun u => (u.toNat : Int)) = zs := by
    intro zs hz
    rw [List.map_map]
    conv => rhs; rw [← List.map_id zs]
    apply List.map_congr_left
    intro a ha
    have := hz a ha
    simp only [Function.comp, id]
    rw [UInt8.toNat_ofNat_of_lt' (by show a.toNat < 256; omega)]
    omega
  rw [← key xs hx, h1, key ys hy]

theorem ba_beq (a b : ByteArray) : (a == b) = decide (a = b) := by
  cases a with
  | mk x =>
    cases b with
    | mk y =>
      show (x == y) = _
      by_cases h : x = y
      · subst h; simp
      · rw [decide_eq_false (by simpa using h)]
        simpa using h

theorem bequal_wp {xs ys : List Int} {K : Bool → Prop} (hx : isBytes xs) (hy : isBytes ys) (hK : K (decide (xs = ys))) : bytes_Equal_wp xs ys K := by
  unfold bytes_Equal_wp
  rw [ba_beq]
  by_cases h : xs = ys
  · subst h; simpa using hK
  · rw [decide_eq_false (fun he => h (strOf_inj hx hy he))]
    rwa [decide_eq_false h] at hK

theorem div_pow (v : Int) (i : Nat) : v / 256 ^ i / 256 = v / 256 ^ (i + 1) := by
  rw [Int.pow_succ, Int.ediv_ediv_of_nonneg (Int.le_of_lt (Int.pow_pos (by omega)))]

theorem pbig_wp {v : Int} {k : Nat} {K : List Int → Prop} (hk : k ≤ 8) (hK : K (bigF v k)) : pcp_big_wp v (k : Int) K := by
  unfold pcp_big_wp
  refine ⟨by omega, by omega, by omega, by omega, ?_⟩
  refine ⟨fun n out i => 0 ≤ i ∧ i ≤ k ∧ n = k - i.toNat ∧ ∃ suf, out = List.replicate (k - i.toNat) 0 ++ suf ∧ bigF v k = bigF (v / 256 ^ i.toNat) (k - i.toNat) ++ suf, ⟨_, by omega, by omega, rfl, [], by simp, by simp⟩, ?_⟩
  rintro n out i ⟨hi0, hi1, rfl, suf, rfl, hs⟩
  refine cond_d (fun hlt => ?_) (fun hge => ?_)
  · obtain ⟨j, rfl⟩ : ∃ j : Nat, i = j := ⟨i.toNat, by omega⟩
    rw [Int.toNat_natCast] at hs ⊢
    obtain ⟨d, hd⟩ : ∃ d, k - j = d + 1 := ⟨k - j - 1, by omega⟩
    rw [wrap_i64 (x := 8 * (j : Int)) (by omega) (by omega), wrap_i64 (x := (k : Int) - 1) (by omega) (by omega), wrap_i64 (x := (k : Int) - 1 - j) (by omega) (by omega), wrap_i64 (x := (j : Int) + 1) (by omega) (by omega)]
    have e8 : (8 * (j : Int)).toNat = 8 * j := by omega
    have em : min (8 * (j : Int)).toNat (IntKind.bits .u64) = 8 * j := by
      rw [e8]; exact Nat.min_eq_left (by show 8 * j ≤ 64; omega)
    have ep : (2 : Int) ^ (8 * j) = 256 ^ j := by rw [Int.pow_mul]; rfl
    rw [em, wrap_mod8, fdiv_pow, ep]
    have ei : ((k : Int) - 1 - j).toNat = d := by omega
    have ej : ((j : Int) + 1).toNat = j + 1 := by omega
    have ek : k - (j + 1) = d := by omega
    refine ⟨by omega, by omega, by omega, _, ?_, by omega, by omega, rfl, (v / 256 ^ j % 256) :: suf, ?_, ?_⟩
    · omega
    · rw [ej, ek, Int.toNat_natCast, hd, ei, List.replicate_succ', List.append_assoc, List.set_append, if_neg (by simp)]
      simp
    · rw [ej, ek, hs, hd, bigF, div_pow, List.append_assoc]
      rfl
  · have : i.toNat = k := by omega
    rw [this, Nat.sub_self] at hs ⊢
    rw [show List.replicate 0 (0 : Int) ++ suf = bigF v k from hs.symm]
    exact hK

theorem pb2 {v : Int} {K : List Int → Prop} (hK : K (bigF v 2)) : pcp_big_wp v 2 K := pbig_wp (k := 2) (by omega) hK
theorem pb4 {v : Int} {K : List Int → Prop} (hK : K (bigF v 4)) : pcp_big_wp v 4 K := pbig_wp (k := 4) (by omega) hK
theorem pb8 {v : Int} {K : List Int → Prop} (hK : K (bigF v 8)) : pcp_big_wp v 8 K := pbig_wp (k := 8) (by omega) hK

/-! ### Requests and answers -/

def hostF (h : Int) : List Int := [0, 0, 0, 0, 0, 0, 0, 0, 0, 0, 255, 255] ++ bigF h 4
def tailF (n i p h : Int) : List Int := [0, 0, 0, 0] ++ bigF n 8 ++ [17, 0, 0, 0] ++ bigF i 2 ++ bigF p 2 ++ hostF h

theorem hostF_len (h : Int) : (hostF h).length = 16 := by simp [hostF, bigF_len]
theorem tailF_len (n i p h : Int) : (tailF n i p h).length = 36 := by simp [tailF, hostF_len, bigF_len]
theorem hostF_bytes (h : Int) : isBytes (hostF h) := isBytes_app.2 ⟨by unfold isBytes; decide, bigF_bytes _ _⟩
theorem tailF_bytes (n i p h : Int) : isBytes (tailF n i p h) := by
  simp only [tailF, isBytes_app]
  exact ⟨⟨⟨⟨⟨by unfold isBytes; decide, bigF_bytes _ _⟩, by unfold isBytes; decide⟩, bigF_bytes _ _⟩, bigF_bytes _ _⟩, hostF_bytes _⟩

theorem cc {xs : List (List Int)} {ys : List Int} {K : List Int → Prop} (hl : xs.length ≤ 1000) (hx : ∀ x ∈ xs, x.length ≤ 1000) (he : xs.flatten = ys) (hK : K ys) : slices_Concat_sl_byte_byte_wp xs K := by
  subst he; exact concat_wp hl hx hK

theorem host16_wp {h : Int} {K : List Int → Prop} (h0 : 0 ≤ h) (h1 : h ≤ 4294967295) (hK : K (hostF h)) : pcp_host16_wp h K := by
  unfold pcp_host16_wp
  rw [wrap_u64 (x := h) (by omega) (by omega)]
  repeat' first
    | refine pb4 ?_
    | exact cc (by simp) (by simp [bigF_len]) (by simp [hostF, List.replicate]) hK
    | refine And.intro ?_ ?_
    | omega

theorem mapping_wp {v i p s n r e h : Int} {K : List Int → Prop} (i0 : 0 ≤ i) (i1 : i ≤ 65535) (p0 : 0 ≤ p) (p1 : p ≤ 65535) (h0 : 0 ≤ h) (h1 : h ≤ 4294967295) (hK : K (tailF n i p h)) : pcp_mapping_wp v i p s n r e h K := by
  unfold pcp_mapping_wp
  rw [wrap_u64 (x := i) (by omega) (by omega), wrap_u64 (x := p) (by omega) (by omega)]
  have fin : slices_Concat_sl_byte_byte_wp [List.replicate (Int.toNat 4) 0, bigF n 8, [17, 0, 0, 0], bigF i 2, bigF p 2, hostF h] K :=
    cc (by simp) (by simp [bigF_len, hostF_len]) (by simp [tailF, List.replicate]) hK
  repeat' first
    | refine pb2 ?_
    | refine pb8 ?_
    | refine host16_wp h0 h1 ?_
    | exact fin
    | refine And.intro ?_ ?_
    | omega

theorem prow_wp {v i p s n r e h : Int} {xs : List (List Int)} {ys : List Int} {K : List Int → Prop} (hl : xs.length ≤ 1000) (hx : ∀ x ∈ xs, x.length ≤ 1000) (he : xs.flatten = ys) (hy : ys.length ≤ 1000)
    (i0 : 0 ≤ i) (i1 : i ≤ 65535) (p0 : 0 ≤ p) (p1 : p ≤ 65535) (h0 : 0 ≤ h) (h1 : h ≤ 4294967295) (hK : K (ys ++ tailF n i p h)) : pcp_row_wp v i p s n r e h xs K := by
  unfold pcp_row_wp
  refine cc hl hx he (mapping_wp i0 i1 p0 p1 h0 h1 ⟨?_, hK⟩)
  rw [tailF_len]; omega

def fitP (v i p s r e : Int) : Prop := v = 2 ∧ (0 ≤ i ∧ i ≤ 65535) ∧ (0 ≤ p ∧ p ≤ 65535) ∧ (0 ≤ s ∧ s ≤ 4294967295) ∧ (0 ≤ e ∧ e ≤ 4294967295) ∧ (0 ≤ r ∧ r ≤ 255)
instance (v i p s r e : Int) : Decidable (fitP v i p s r e) := by unfold fitP; infer_instance

theorem pfits_wp {v i p s n r e h : Int} {K : Bool → Prop} (hK : K (decide (fitP v i p s r e))) : pcp_fits_wp v i p s n r e h K := by
  unfold pcp_fits_wp
  refine ⟨fun b => (b = true ↔ (0 ≤ i ∧ i ≤ 65535) ∧ (0 ≤ p ∧ p ≤ 65535)), fun b hb => ?_, ?_⟩
  · cases b with
    | true =>
      have hr := hb.1 rfl
      refine cond_e (fun a1 => cond_t rfl (cond_d (fun a3 => cond_d (fun a4 => cond_d (fun a5 => cond_d (fun a6 => cond_d (fun a7 => ?_) (fun a7 => ?_)) (fun a6 => ?_)) (fun a5 => ?_)) (fun a4 => ?_)) (fun a3 => ?_))) (fun a1 => ?_)
      all_goals refine dec_key hK _ ?_
      all_goals simp only [fitP, decide_eq_true_eq, Bool.false_eq_true]
      all_goals constructor <;> intro hh <;> first | omega | exact hh.elim
    | false =>
      have hn : ¬ ((0 ≤ i ∧ i ≤ 65535) ∧ (0 ≤ p ∧ p ≤ 65535)) := fun hq => by have := hb.2 hq; cases this
      refine cond_e (fun a1 => cond_f rfl ?_) (fun a1 => ?_)
      all_goals refine dec_key hK _ ?_
      all_goals simp only [fitP, Bool.false_eq_true]
      all_goals constructor <;> intro hh <;> first | omega | exact hh.elim
  · refine cond_d (fun a3 => cond_d (fun a4 => cond_d (fun a5 => ?_) (fun a5 => ?_)) (fun a4 => ?_)) (fun a3 => ?_)
    all_goals simp only [decide_eq_true_eq, Bool.false_eq_true]
    all_goals constructor <;> intro hh <;> first | omega | exact hh.elim

def paskP (v i p s r e : Int) : Prop := fitP v i p s r e ∧ r = 0 ∧ e = 0
instance (v i p s r e : Int) : Decidable (paskP v i p s r e) := by unfold paskP; infer_instance
def paskF (v i p s n r e h c : Int) : List Int := if paskP v i p s r e then [2, 1, 0, 0] ++ bigF s 4 ++ hostF c ++ tailF n i p h else []
def pansF (v i p s n r e h : Int) : List Int := if fitP v i p s r e then [2, 129, 0, r] ++ bigF s 4 ++ bigF e 4 ++ List.replicate 12 0 ++ tailF n i p h else []

theorem pask_wp {v i p s n r e h c : Int} {K : List Int → Prop} (h0 : 0 ≤ h) (h1 : h ≤ 4294967295) (c0 : 0 ≤ c) (c1 : c ≤ 4294967295) (hK : K (paskF v i p s n r e h c)) : pcp_Ask_wp v i p s n r e h c K := by
  unfold pcp_Ask_wp
  refine ⟨fun t => (t = true ↔ ¬ paskP v i p s r e), fun t ht => ?_, ?_⟩
  · unfold paskF at hK
    refine cond_b (fun h1 => ?_) (fun h2 => ?_)
    · rwa [if_neg (ht.1 h1)] at hK
    · have hp : paskP v i p s r e := by
        by_cases hq : paskP v i p s r e
        · exact hq
        · have := ht.2 hq; rw [h2] at this; cases this
      rw [if_pos hp] at hK
      have hf := hp.1
      unfold fitP at hf
      rw [wrap_u64 (x := s) (by omega) (by omega)]
      have fin : pcp_row_wp v i p s n r e h [[2, 1, 0, 0], bigF s 4, hostF c] K :=
        prow_wp (ys := [2, 1, 0, 0] ++ bigF s 4 ++ hostF c) (by simp) (by simp [bigF_len, hostF_len]) (by simp) (by simp [bigF_len, hostF_len]) (by omega) (by omega) (by omega) (by omega) h0 h1 hK
      repeat' first
        | refine pb4 ?_
        | refine host16_wp c0 c1 ?_
        | exact fin
        | refine And.intro ?_ ?_
  · refine pfits_wp (cond_b (fun h1 => ?_) (fun h1 => cond_n (fun h2 => ?_) (fun h2 => ?_)))
    · simp at h1; simp [paskP, h1]
    · simp [paskP, h2]
    · simp at h1; subst h2; simp [paskP, h1]

theorem pans_wp {v i p s n r e h : Int} {K : List Int → Prop} (h0 : 0 ≤ h) (h1 : h ≤ 4294967295) (hK : K (pansF v i p s n r e h)) : pcp_Answer_wp v i p s n r e h K := by
  unfold pcp_Answer_wp
  unfold pansF at hK
  refine pfits_wp (cond_b (fun h2 => ?_) (fun h2 => ?_))
  · have : ¬ fitP v i p s r e := by simpa using h2
    rwa [if_neg this] at hK
  · have hp : fitP v i p s r e := by simpa using h2
    rw [if_pos hp] at hK
    have hf := hp
    unfold fitP at hf
    rw [wrap_u64 (x := s) (by omega) (by omega), wrap_u64 (x := e) (by omega) (by omega), wrap_u8 (x := r) (by omega) (by omega)]
    have fin : pcp_row_wp v i p s n r e h [[2, 129, 0, r], bigF s 4, bigF e 4, List.replicate (Int.toNat 12) 0] K :=
      prow_wp (ys := [2, 129, 0, r] ++ bigF s 4 ++ bigF e 4 ++ List.replicate 12 0) (by simp) (by simp [bigF_len]) (by simp) (by simp [bigF_len]) (by omega) (by omega) (by omega) (by omega) h0 h1 hK
    repeat' first
      | refine pb4 ?_
      | exact fin
      | refine And.intro ?_ ?_
      | omega

/-! ### The document's -/

theorem rb2 {v : Int} {K : List Int → Prop} (h0 : 0 ≤ v) (h1 : v ≤ 9223372036854775807) (hK : K (bigF v 2)) : embrasureref09_Big_wp v 2 K := big_wp (k := 2) (by omega) h0 h1 hK
theorem rb4 {v : Int} {K : List Int → Prop} (h0 : 0 ≤ v) (h1 : v ≤ 9223372036854775807) (hK : K (bigF v 4)) : embrasureref09_Big_wp v 4 K := big_wp (k := 4) (by omega) h0 h1 hK

theorem rhost_wp {h : Int} {K : List Int → Prop} (h0 : 0 ≤ h) (h1 : h ≤ 4294967295) (hK : K (hostF h)) : embrasureref10_host_wp h K := by
  unfold embrasureref10_host_wp
  rw [wrap_i64 (x := h) (by omega) (by omega)]
  exact rb4 (by omega) (by omega) ⟨by simp [bigF_len], hK⟩

theorem rnonce_wp {n : Int} {K : List Int → Prop} (n0 : 0 ≤ n) (n1 : n ≤ 18446744073709551615) (hK : K ([0, 0, 0, 0] ++ bigF n 8)) : embrasureref10_nonce_wp n K := by
  unfold embrasureref10_nonce_wp
  rw [tdiv_pos n0, tmod_pos n0, wrap_u64 (by omega) (by omega), wrap_i64 (by omega) (by omega), wrap_i64 (by omega) (by omega)]
  refine rb4 (by omega) (by omega) ⟨by simp [bigF_len], rb4 (by omega) (by omega) ⟨by simp [bigF_len], ?_⟩⟩
  have e : bigF n 8 = bigF (n / 4294967296) 4 ++ bigF (n % 4294967296) 4 := by
    rw [show (8 : Nat) = 4 + 4 from rfl, bigF_add 4 4 n]
    have := bigF_mod 4 n
    rw [show (256 : Int) ^ 4 = 4294967296 from rfl] at this ⊢
    rw [this]
  rw [e, ← List.append_assoc] at hK
  exact hK

theorem rtail_wp {v i p s n r e h : Int} {K : List Int → Prop} (n0 : 0 ≤ n) (n1 : n ≤ 18446744073709551615) (i0 : 0 ≤ i) (i1 : i ≤ 65535) (p0 : 0 ≤ p) (p1 : p ≤ 65535) (h0 : 0 ≤ h) (h1 : h ≤ 4294967295)
    (hK : K (tailF n i p h)) : embrasureref10_tail_wp v i p s n r e h K := by
  unfold embrasureref10_tail_wp
  refine rnonce_wp n0 n1 ⟨by simp [bigF_len], rb2 (by omega) (by omega) ⟨by simp [bigF_len], rb2 (by omega) (by omega) ⟨by simp [bigF_len], rhost_wp h0 h1 ⟨by simp [bigF_len, hostF_len], ?_⟩⟩⟩⟩
  exact hK

theorem rmay_wp {v i p s n r e h : Int} {K : Bool → Prop} (hK : K (decide (fitP v i p s r e))) : embrasureref10_may_wp v i p s n r e h K := by
  unfold embrasureref10_may_wp
  refine ⟨fun b => (b = true ↔ ¬ (v = 2 ∧ (0 ≤ i ∧ i ≤ 65535) ∧ (0 ≤ p ∧ p ≤ 65535) ∧ (0 ≤ s ∧ s ≤ 4294967295))), fun b hb => ?_, ?_⟩
  · refine cond_b (fun a2 => ?_) (fun a2 => cond_d (fun a3 => cond_d (fun a4 => cond_d (fun a5 => ?_) (fun a5 => ?_)) (fun a4 => ?_)) (fun a3 => ?_))
    all_goals refine dec_key hK _ ?_
    all_goals simp only [fitP, decide_eq_true_eq, Bool.false_eq_true]
    · have a2' := hb.1 a2
      constructor <;> intro hh <;> first | omega | exact hh.elim
    all_goals
      have a2' : v = 2 ∧ (0 ≤ i ∧ i ≤ 65535) ∧ (0 ≤ p ∧ p ≤ 65535) ∧ (0 ≤ s ∧ s ≤ 4294967295) := by
        by_cases hq : v = 2 ∧ (0 ≤ i ∧ i ≤ 65535) ∧ (0 ≤ p ∧ p ≤ 65535) ∧ (0 ≤ s ∧ s ≤ 4294967295)
        · exact hq
        · have := hb.2 hq; rw [a2] at this; cases this
      constructor <;> intro hh <;> first | omega | exact hh.elim
  · refine cond_n (fun a1 => ?_) (fun a1 => cond_d (fun a2 => ?_) (fun a2 => cond_d (fun a3 => ?_) (fun a3 => cond_d (fun a4 => ?_) (fun a4 => cond_d (fun a5 => ?_) (fun a5 => cond_d (fun a6 => ?_) (fun a6 => ?_))))))
    all_goals simp only [decide_eq_true_eq, true_iff]
    all_goals omega

theorem rask_wp {v i p s n r e h c : Int} {K : List Int → Prop} (n0 : 0 ≤ n) (n1 : n ≤ 18446744073709551615) (h0 : 0 ≤ h) (h1 : h ≤ 4294967295) (c0 : 0 ≤ c) (c1 : c ≤ 4294967295) (hK : K (paskF v i p s n r e h c)) : embrasureref10_Ask_wp v i p s n r e h c K := by
  unfold embrasureref10_Ask_wp
  refine ⟨fun t => (t = true ↔ ¬ paskP v i p s r e), fun t ht => ?_, ?_⟩
  · unfold paskF at hK
    refine cond_b (fun h1 => ?_) (fun h2 => ?_)
    · rwa [if_neg (ht.1 h1)] at hK
    · have hp : paskP v i p s r e := by
        by_cases hq : paskP v i p s r e
        · exact hq
        · have := ht.2 hq; rw [h2] at this; cases this
      rw [if_pos hp] at hK
      have hf := hp.1
      unfold fitP at hf
      refine rb4 (by omega) (by omega) ⟨by simp [bigF_len], rhost_wp c0 c1 ⟨by simp [bigF_len, hostF_len], rtail_wp n0 n1 (by omega) (by omega) (by omega) (by omega) h0 h1 ⟨by simp [bigF_len, hostF_len, tailF_len], ?_⟩⟩⟩
      exact hK
  · refine rmay_wp (cond_b (fun h1 => ?_) (fun h1 => cond_n (fun h2 => ?_) (fun h2 => ?_)))
    · simp at h1; simp [paskP, h1]
    · simp [paskP, h2]
    · simp at h1; subst h2; simp [paskP, h1]

theorem rans_wp {v i p s n r e h : Int} {K : List Int → Prop} (n0 : 0 ≤ n) (n1 : n ≤ 18446744073709551615) (h0 : 0 ≤ h) (h1 : h ≤ 4294967295) (hK : K (pansF v i p s n r e h)) : embrasureref10_Answer_wp v i p s n r e h K := by
  unfold embrasureref10_Answer_wp
  unfold pansF at hK
  refine rmay_wp (cond_b (fun h2 => ?_) (fun h2 => ?_))
  · have : ¬ fitP v i p s r e := by simpa using h2
    rwa [if_neg this] at hK
  · have hp : fitP v i p s r e := by simpa using h2
    rw [if_pos hp] at hK
    have hf := hp
    unfold fitP at hf
    rw [wrap_u8 (x := r) (by omega) (by omega)]
    refine ⟨fun out => out = [2, 129, 0, r] ++ bigF s 4 ++ bigF e 4, ?_, ?_⟩
    · rintro out rfl
      refine ⟨by omega, by simp [bigF_len], rtail_wp n0 n1 (by omega) (by omega) (by omega) (by omega) h0 h1 ⟨by simp [bigF_len, tailF_len], ?_⟩⟩
      exact hK
    · constructor
      all_goals exact rb4 (by omega) (by omega) ⟨by simp [bigF_len], rb4 (by omega) (by omega) ⟨by simp [bigF_len], rfl⟩⟩

end Go.Proofs.Ytdacemiaihidaaa
