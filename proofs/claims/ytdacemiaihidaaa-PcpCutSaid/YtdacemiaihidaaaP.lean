/- The plain side: the elder protocol, bytes. -/
import Derived.Test.YtdacemiaihidaaaL
import Derived.Test.YtdacemiaihidaaaEngS
namespace Go.Proofs.Ytdacemiaihidaaa
open Go Go.Eng

theorem equal_wp {s t : List Int} {K : Bool → Prop} (hl : s.length ≤ 1000000) (hK : K (decide (s = t))) : slices_Equal_sl_byte_byte_wp s t K := by
  unfold slices_Equal_sl_byte_byte_wp
  refine cond_n (fun he => ?_) (fun he => ?_)
  · have : ¬ s = t := fun e => he (by rw [e])
    rwa [decide_eq_false this] at hK
  · refine ⟨fun n i => 0 ≤ i ∧ i ≤ s.length ∧ n = s.length - i.toNat ∧ ∀ j, j < i.toNat → s[j]? = t[j]?, ⟨_, by omega, by omega, rfl, by omega⟩, ?_⟩
    rintro n i ⟨h0, h1, rfl, hj⟩
    refine cond_d (fun hlt => ?_) (fun hge => ?_)
    · refine ⟨h0, hlt, fun x hx => ⟨h0, by omega, fun y hy => ?_⟩⟩
      refine cond_n (fun hne => ?_) (fun heq => ?_)
      · have : ¬ s = t := fun e => by
          subst e; rw [hx] at hy; exact hne (Option.some.inj hy)
        rwa [decide_eq_false this] at hK
      · subst heq
        refine ⟨_, ?_, ?_, ?_, rfl, ?_⟩
        all_goals rw [wrap_i64 (by omega) (by omega)]
        · omega
        · omega
        · omega
        · intro j hj'
          by_cases e : j = i.toNat
          · subst e; rw [hx, hy]
          · exact hj j (by omega)
    · have : s = t := by
        apply List.ext_getElem?
        intro j
        by_cases h : j < i.toNat
        · exact hj j h
        · rw [List.getElem?_eq_none (by omega), List.getElem?_eq_none (by omega)]
      rwa [decide_eq_true this] at hK

theorem same_wp {s t : List Int} {K : Bool → Prop} (hl : s.length ≤ 1000000) (hK : K (decide (s = t))) : embrasureref01_Same_wp s t K := equal_wp hl hK

theorem num_lt7 {xs : List Int} (hl : xs.length ≤ 7) (hb : isBytes xs) : 0 ≤ num xs ∧ num xs < 72057594037927936 := by
  have h := num_bound _ xs rfl hb
  revert h
  have : xs.length = 0 ∨ xs.length = 1 ∨ xs.length = 2 ∨ xs.length = 3 ∨ xs.length = 4 ∨ xs.length = 5 ∨ xs.length = 6 ∨ xs.length = 7 := by omega
  rcases this with e | e | e | e | e | e | e | e <;> rw [e] <;> intro h <;> simp at h <;> omega

theorem take_len {xs : List Int} {t : Nat} (h : t ≤ xs.length) : (xs.take t).length = t := by rw [List.length_take]; omega

theorem get_wp {b : List Int} {K : Int → Prop} (hl : b.length ≤ 7) (hb : isBytes b) (hK : K (num b)) : pmp_get_wp b K := by
  unfold pmp_get_wp
  refine ⟨fun n v i => 0 ≤ i ∧ i ≤ b.length ∧ n = b.length - i.toNat ∧ v = num (b.take i.toNat), ⟨_, by omega, by omega, rfl, rfl⟩, ?_⟩
  rintro n v i ⟨h0, h1, rfl, rfl⟩
  refine cond_d (fun hlt => ?_) (fun hge => ?_)
  · refine ⟨h0, hlt, fun x hx => ?_⟩
    have hs := num_step hx
    have hx2 := hb x (List.mem_of_getElem? hx)
    have hb1 := num_lt7 (xs := b.take i.toNat) (by rw [List.length_take]; omega) (isBytes_take _ hb)
    have hb2 := num_lt7 (xs := b.take (i.toNat + 1)) (by rw [List.length_take]; omega) (isBytes_take _ hb)
    have e1 : num (b.take i.toNat) * 2 ^ (min (Int.toNat 8) (IntKind.bits .i64)) = num (b.take i.toNat) * 256 := rfl
    obtain ⟨m, hm⟩ : ∃ m : Nat, num (b.take i.toNat) = m := ⟨(num (b.take i.toNat)).toNat, by omega⟩
    obtain ⟨c, rfl⟩ : ∃ c : Nat, x = c := ⟨x.toNat, by omega⟩
    have e2 : bitsV .or .i64 (IntKind.wrap .i64 (num (b.take i.toNat) * 2 ^ (min (Int.toNat 8) (IntKind.bits .i64)))) (IntKind.wrap .i64 (c : Int)) = num (b.take (i.toNat + 1)) := by
      rw [e1, wrap_i64 (by omega) (by omega), wrap_i64 (by omega) (by omega), hs, hm, or_low rfl (by omega) (by omega), wrap_i64 (by omega) (by omega)]
    refine ⟨_, ?_, ?_, ?_, rfl, ?_⟩
    all_goals rw [wrap_i64 (x := i + 1) (by omega) (by omega)]
    · omega
    · omega
    · omega
    · rw [e2]
      congr 2
      omega
  · rw [show i.toNat = b.length by omega, List.take_length]
    exact hK

theorem num_wp {b : List Int} {K : Int → Prop} (hl : b.length ≤ 7) (hb : isBytes b) (hK : K (num b)) : embrasureref09_Num_wp b K := by
  unfold embrasureref09_Num_wp
  refine ⟨fun n v i => 0 ≤ i ∧ i ≤ b.length ∧ n = b.length - i.toNat ∧ v = num (b.take i.toNat), ⟨_, by omega, by omega, rfl, rfl⟩, ?_⟩
  rintro n v i ⟨h0, h1, rfl, rfl⟩
  refine cond_d (fun hlt => ?_) (fun hge => ?_)
  · refine ⟨h0, hlt, fun x hx => ?_⟩
    have hs := num_step hx
    have hx2 := hb x (List.mem_of_getElem? hx)
    have hb1 := num_lt7 (xs := b.take i.toNat) (by rw [List.length_take]; omega) (isBytes_take _ hb)
    have hb2 := num_lt7 (xs := b.take (i.toNat + 1)) (by rw [List.length_take]; omega) (isBytes_take _ hb)
    refine ⟨_, ?_, ?_, ?_, rfl, ?_⟩
    all_goals rw [wrap_i64 (x := i + 1) (by omega) (by omega)]
    · omega
    · omega
    · omega
    · rw [wrap_i64 (x := _ * 256) (by omega) (by omega), wrap_i64 (x := x) (by omega) (by omega), wrap_i64 (by omega) (by omega), ← hs]
      congr 2
      omega
  · rw [show i.toNat = b.length by omega, List.take_length]
    exact hK

theorem short_wp {n : Int} {K : List Int → Prop} (hK : K (bigF n 2)) : pmp_short_wp n K := by
  unfold pmp_short_wp
  have e : Int.fdiv n (2 ^ (min (Int.toNat 8) (IntKind.bits .i64))) = n / 256 := fdiv_pow n 8
  rw [e, wrap_mod8, wrap_mod8]
  exact hK

theorem big4 (n : Int) : bigF (n / 65536) 2 ++ bigF n 2 = bigF n 4 := by
  simp only [bigF, List.nil_append, List.cons_append, List.append_assoc, List.cons.injEq, and_true]
  omega

theorem long_wp {n : Int} {K : List Int → Prop} (hK : K (bigF n 4)) : pmp_long_wp n K := by
  unfold pmp_long_wp
  have e : Int.fdiv n (2 ^ (min (Int.toNat 16) (IntKind.bits .i64))) = n / 65536 := fdiv_pow n 16
  rw [e]
  refine short_wp (short_wp ⟨by simp [bigF_len], ?_⟩)
  rw [big4]
  exact hK

theorem big_wp {v : Int} {k : Nat} {K : List Int → Prop} (hk : k ≤ 100) (h0 : 0 ≤ v) (h1 : v ≤ 9223372036854775807) (hK : K (bigF v k)) : embrasureref09_Big_wp v (k : Int) K := by
  unfold embrasureref09_Big_wp
  refine ⟨by omega, by omega, by omega, by omega, ?_⟩
  refine ⟨fun n w out i => -1 ≤ i ∧ i < k ∧ n = (i + 1).toNat ∧ 0 ≤ w ∧ w ≤ 9223372036854775807 ∧ ∃ suf, out = List.replicate (i + 1).toNat 0 ++ suf ∧ bigF v k = bigF w (i + 1).toNat ++ suf, ⟨k, ?_⟩, ?_⟩
  · rw [wrap_i64 (by omega) (by omega)]
    refine ⟨by omega, by omega, by omega, h0, h1, [], ?_, ?_⟩
    · rw [List.append_nil]; congr 1; omega
    · rw [List.append_nil]; congr 1; omega
  · rintro n w out i ⟨hi0, hi1, rfl, hw0, hw1, suf, rfl, hs⟩
    refine cond_d (fun hge => ?_) (fun hlt => ?_)
    · refine ⟨by omega, by omega, ?_⟩
      obtain ⟨j, rfl⟩ : ∃ j : Nat, i = j := ⟨i.toNat, by omega⟩
      have ej : ((j : Int) + 1).toNat = j + 1 := by omega
      have ej2 : ((j : Int) - 1 + 1).toNat = j := by omega
      rw [ej] at hs ⊢
      rw [wrap_i64 (x := (j : Int) - 1) (by omega) (by omega), tdiv_pos hw0, tmod_pos hw0, wrap_i64 (by omega) (by omega), wrap_u8 (by omega) (by omega)]
      refine ⟨_, ?_, by omega, by omega, rfl, by omega, by omega, (w % 256) :: suf, ?_, ?_⟩
      · omega
      · rw [ej2, Int.toNat_natCast, List.replicate_succ', List.append_assoc, List.set_append, if_neg (by simp)]
        simp
      · rw [ej2, hs, bigF, List.append_assoc]
        rfl
    · obtain rfl : i = -1 := by omega
      rw [show ((-1 : Int) + 1).toNat = 0 from rfl] at hs ⊢
      rw [show List.replicate 0 (0 : Int) ++ suf = bigF v k from hs.symm]
      exact hK

theorem grow_wp {n : Int} {K : List Int → Prop} (h0 : 0 ≤ n) (h1 : n ≤ 1000000000) (hK : K []) : slices_Grow_sl_byte_byte_wp n K := by
  unfold slices_Grow_sl_byte_byte_wp
  have e : IntKind.wrap .i64 (n - (IntKind.wrap .i64 (((0 : Nat) : Int) - ((0 : Nat) : Int)))) = n := by
    rw [wrap_i64 (x := ((0 : Nat) : Int) - ((0 : Nat) : Int)) (by omega) (by omega), wrap_i64 (by omega) (by omega)]; omega
  rw [e]
  refine cond_d (fun h => by omega) (fun _ => ?_)
  refine cond_d (fun _ => ?_) (fun _ => hK)
  refine ⟨by omega, by omega, h0, ?_, by omega, by omega, ?_⟩
  · simp; omega
  · simpa using hK

theorem flat_take {xs : List (List Int)} {i : Nat} {x : List Int} (h : xs[i]? = some x) : (xs.take (i + 1)).flatten = (xs.take i).flatten ++ x := by
  rw [List.take_add_one, h]
  simp

theorem flat_le {xs : List (List Int)} (hx : ∀ x ∈ xs, x.length ≤ 1000) : ∀ i, i ≤ 1000 → (xs.take i).flatten.length ≤ 1000 * i
  | 0, _ => by simp
  | i + 1, hi => by
    have := flat_le hx i (by omega)
    rw [List.take_add_one]
    cases h : xs[i]? with
    | none => simp at *; omega
    | some x =>
      have := hx x (List.mem_of_getElem? h)
      simp at *
      omega

theorem concat_wp {xs : List (List Int)} {K : List Int → Prop} (hl : xs.length ≤ 1000) (hx : ∀ x ∈ xs, x.length ≤ 1000) (hK : K xs.flatten) : slices_Concat_sl_byte_byte_wp xs K := by
  unfold slices_Concat_sl_byte_byte_wp
  refine ⟨fun s => 0 ≤ s ∧ s ≤ 1000000000, ?_, ?_⟩
  · rintro s ⟨hs0, hs1⟩
    refine grow_wp hs0 hs1 ?_
    refine ⟨fun n v i => 0 ≤ i ∧ i ≤ xs.length ∧ n = xs.length - i.toNat ∧ v = (xs.take i.toNat).flatten, ⟨_, by omega, by omega, rfl, by simp⟩, ?_⟩
    rintro n v i ⟨h0, h1, rfl, rfl⟩
    refine cond_d (fun hlt => ?_) (fun hge => ?_)
    · refine ⟨h0, hlt, fun x hxi => ?_⟩
      have h2 := flat_le hx i.toNat (by omega)
      have h3 := hx x (List.mem_of_getElem? hxi)
      refine ⟨by omega, ?_⟩
      rw [← flat_take hxi, wrap_i64 (by omega) (by omega)]
      refine ⟨_, ?_, ?_, ?_, rfl, ?_⟩
      · omega
      · omega
      · omega
      · congr 2; omega
    · rw [show i.toNat = xs.length by omega, List.take_length]
      exact hK
  · refine ⟨fun n s i => 0 ≤ i ∧ i ≤ xs.length ∧ n = xs.length - i.toNat ∧ s = (((xs.take i.toNat).flatten.length : Nat) : Int), ⟨_, by omega, by omega, rfl, by simp⟩, ?_⟩
    rintro n s i ⟨h0, h1, rfl, rfl⟩
    have h2 := flat_le hx i.toNat (by omega)
    refine cond_d (fun hlt => ?_) (fun hge => ?_)
    · refine ⟨h0, hlt, fun x hxi => ?_⟩
      have h3 := hx x (List.mem_of_getElem? hxi)
      rw [wrap_i64 (by omega) (by omega), wrap_i64 (by omega) (by omega)]
      refine cond_d (fun h => by omega) (fun _ => ?_)
      refine ⟨_, ?_, ?_, ?_, rfl, ?_⟩
      · omega
      · omega
      · omega
      · have := congrArg List.length (flat_take hxi)
        rw [List.length_append] at this
        rw [show (i + 1).toNat = i.toNat + 1 by omega, this]
        omega
    · omega

theorem row_wp {op : Int} {xs : List (List Int)} {K : List Int → Prop} (h0 : 0 ≤ op) (h1 : op ≤ 255) (hl : xs.length ≤ 1000) (hx : ∀ x ∈ xs, x.length ≤ 1000) (hK : K ([0, op] ++ xs.flatten)) : pmp_row_wp op xs K := by
  unfold pmp_row_wp
  refine concat_wp hl hx ?_
  rw [wrap_u8 h0 h1]
  have := flat_le hx xs.length (by omega)
  rw [List.take_length] at this
  refine ⟨?_, hK⟩
  simp at *
  omega



theorem dec_key {P : Prop} [Decidable P] {K : Bool → Prop} (hK : K (decide P)) (b : Bool) (h : b = true ↔ P) : K b := by
  have : b = decide P := by
    cases b with
    | true => exact (decide_eq_true (h.1 rfl)).symm
    | false => exact (decide_eq_false (fun hp => by have := h.2 hp; cases this)).symm
  rwa [this]

def fitsP (i p s r e : Int) : Prop := (0 ≤ i ∧ i ≤ 65535) ∧ (0 ≤ p ∧ p ≤ 65535) ∧ (0 ≤ s ∧ s ≤ 4294967295) ∧ (0 ≤ r ∧ r ≤ 65535) ∧ (0 ≤ e ∧ e ≤ 4294967295)
instance (i p s r e : Int) : Decidable (fitsP i p s r e) := by unfold fitsP; infer_instance

theorem fits_wp {v i p s n r e h : Int} {K : Bool → Prop} (hK : K (decide (fitsP i p s r e))) : pmp_fits_wp v i p s n r e h K := by
  unfold pmp_fits_wp
  refine cond_d (fun h1 => cond_d (fun h2 => cond_d (fun h3 => cond_d (fun h4 => cond_d (fun h5 => cond_d (fun h6 => cond_d (fun h7 => cond_d (fun h8 => cond_d (fun h9 => ?_) (fun h9 => ?_)) (fun h8 => ?_)) (fun h7 => ?_)) (fun h6 => ?_)) (fun h5 => ?_)) (fun h4 => ?_)) (fun h3 => ?_)) (fun h2 => ?_)) (fun h1 => ?_)
  all_goals refine dec_key hK _ ?_
  all_goals simp only [fitsP, decide_eq_true_eq, Bool.false_eq_true]
  all_goals constructor <;> intro hh <;> first | omega | exact hh.elim

def zeroP (v n r e h : Int) : Prop := v = 0 ∧ n = 0 ∧ r = 0 ∧ e = 0 ∧ h = 0
def askP (v i p s n r e h : Int) (host : Bool) : Prop := fitsP i p s r e ∧ (v = 0 ∧ n = 0 ∧ r = 0 ∧ e = 0 ∧ h = 0) ∧ (host = true → i = 0 ∧ p = 0 ∧ s = 0)
instance (v i p s n r e h : Int) (host : Bool) : Decidable (askP v i p s n r e h host) := by unfold askP; infer_instance

theorem mayAsk_wp {v i p s n r e h : Int} {host : Bool} {K : Bool → Prop} (hK : K (decide (askP v i p s n r e h host))) : pmp_mayAsk_wp v i p s n r e h host K := by
  unfold pmp_mayAsk_wp
  refine fits_wp ?_
  refine cond_b (fun h1 => cond_b (fun h2 => cond_b (fun h3 => ?_) (fun h3 => ?_)) (fun h2 => ?_)) (fun h1 => ?_)
  all_goals refine dec_key hK _ ?_
  all_goals simp [askP] at *
  · exact ⟨h1, h2, by simp [h3]⟩
  · subst h3
    constructor
    · intro h; exact ⟨h1, by omega, by omega⟩
    · intro h; have := h.2.1; have := h.2.2 rfl; omega
  · intro _ a b c d e; exfalso; simp_all
  · intro h; exact absurd h h1

def askF (v i p s n r e h : Int) (host : Bool) : List Int :=
  if askP v i p s n r e h host then (if host then [0, 0] else [0, 1, 0, 0] ++ bigF i 2 ++ bigF p 2 ++ bigF s 4) else []

theorem ask_wp {v i p s n r e h : Int} {host : Bool} {K : List Int → Prop} (hK : K (askF v i p s n r e h host)) : pmp_Ask_wp v i p s n r e h host K := by
  unfold pmp_Ask_wp
  refine mayAsk_wp ?_
  unfold askF at hK
  refine cond_b (fun h1 => ?_) (fun h1 => ?_)
  · have : ¬ askP v i p s n r e h host := by simpa using h1
    rwa [if_neg this] at hK
  · have : askP v i p s n r e h host := by simpa using h1
    rw [if_pos this] at hK
    refine cond_b (fun h2 => ?_) (fun h2 => ?_)
    · rw [if_pos h2] at hK
      exact row_wp (by omega) (by omega) (by simp) (by simp) (by simpa using hK)
    · rw [if_neg (by simp [h2])] at hK
      refine short_wp (short_wp (short_wp (long_wp (row_wp (by omega) (by omega) (by simp) (by simp [bigF_len]) ?_))))
      simpa [bigF] using hK

/-! ### Answers -/

def ansP (v i p s n r e h : Int) (host : Bool) : Prop := fitsP i p s r e ∧ (v = 0 ∧ n = 0) ∧ (host = true → i = 0 ∧ p = 0 ∧ s = 0) ∧ (host = false → h = 0)
instance (v i p s n r e h : Int) (host : Bool) : Decidable (ansP v i p s n r e h host) := by unfold ansP; infer_instance

theorem mayAnswer_wp {v i p s n r e h : Int} {host : Bool} {K : Bool → Prop} (hK : K (decide (ansP v i p s n r e h host))) : pmp_mayAnswer_wp v i p s n r e h host K := by
  unfold pmp_mayAnswer_wp
  refine joinP4.i ?_
  refine cond_b (fun h0 => ?_) (fun h0 => ?_)
  all_goals subst h0; refine fits_wp (cond_b (fun h1 => ?_) (fun h1 => ?_))
  all_goals refine dec_key hK _ ?_
  all_goals simp [ansP] at *
  · constructor
    · intro h; exact ⟨h1, by omega, by omega⟩
    · intro h; omega
  · intro h; exact absurd h h1
  · constructor
    · intro h; exact ⟨h1, by omega, by omega⟩
    · intro h; omega
  · intro h; exact absurd h h1

def ansF (v i p s n r e h : Int) (host : Bool) : List Int :=
  if ansP v i p s n r e h host then (if host then [0, 128] ++ bigF r 2 ++ bigF e 4 ++ bigF h 4 else [0, 129] ++ bigF r 2 ++ bigF e 4 ++ bigF i 2 ++ bigF p 2 ++ bigF s 4) else []

theorem answer_wp {v i p s n r e h : Int} {host : Bool} {K : List Int → Prop} (h0 : 0 ≤ h) (h1 : h ≤ 4294967295) (hK : K (ansF v i p s n r e h host)) : pmp_Answer_wp v i p s n r e h host K := by
  unfold pmp_Answer_wp
  refine mayAnswer_wp ?_
  unfold ansF at hK
  refine cond_b (fun h1 => ?_) (fun h1 => ?_)
  · have : ¬ ansP v i p s n r e h host := by simpa using h1
    rwa [if_neg this] at hK
  · have : ansP v i p s n r e h host := by simpa using h1
    rw [if_pos this] at hK
    refine cond_b (fun h2 => ?_) (fun h2 => ?_)
    · rw [if_pos h2] at hK
      rw [wrap_i64 (x := h) (by omega) (by omega)]
      refine short_wp (long_wp (long_wp (row_wp (by omega) (by omega) (by simp) (by simp [bigF_len]) ?_)))
      simpa using hK
    · rw [if_neg (by simp [h2])] at hK
      refine short_wp (long_wp (short_wp (short_wp (long_wp (row_wp (by omega) (by omega) (by simp) (by simp [bigF_len]) ?_)))))
      simpa using hK


def seg (b : List Int) (l h : Nat) : List Int := (b.take h).drop l

theorem seg_bytes {b : List Int} {l h : Nat} (hb : isBytes b) : isBytes (seg b l h) := isBytes_drop _ (isBytes_take _ hb)
theorem seg_len {b : List Int} {l h : Nat} (hl : h ≤ b.length) : (seg b l h).length = h - l := by unfold seg; rw [List.length_drop, List.length_take]; omega
theorem seg_le {b : List Int} {l h : Nat} (hd : h - l ≤ 7) : (seg b l h).length ≤ 7 := by unfold seg; rw [List.length_drop, List.length_take]; omega
theorem num4 {xs : List Int} (hl : xs.length ≤ 4) (hb : isBytes xs) : 0 ≤ num xs ∧ num xs ≤ 4294967295 := by
  have h := num_bound _ xs rfl hb
  revert h
  have : xs.length = 0 ∨ xs.length = 1 ∨ xs.length = 2 ∨ xs.length = 3 ∨ xs.length = 4 := by omega
  rcases this with e | e | e | e | e <;> rw [e] <;> intro h <;> simp at h <;> omega

def rI (b : List Int) : Int := if b.length = 12 then num (seg b 4 6) else 0
def rP (b : List Int) : Int := if b.length = 12 then num (seg b 6 8) else 0
def rS (b : List Int) : Int := if b.length = 12 then num (seg b 8 12) else 0
def raOK (b : List Int) : Prop := (b.length = 2 ∨ b.length = 12) ∧ askF 0 (rI b) (rP b) (rS b) 0 0 0 0 (decide (b.length = 2)) = b

theorem eq_len (b : List Int) (k : Nat) : ((((b.length : Nat) : Int) : Int) == (k : Int)) = decide (b.length = k) := by
  by_cases h : b.length = k
  · subst h; simp
  · rw [decide_eq_false h]; simp; omega

theorem askF_len (v i p s n r e h : Int) (host : Bool) : (askF v i p s n r e h host).length ≤ 12 := by
  unfold askF
  split
  · split <;> simp [bigF_len]
  · simp
theorem ansF_len (v i p s n r e h : Int) (host : Bool) : (ansF v i p s n r e h host).length ≤ 16 := by
  unfold ansF
  split
  · split <;> simp [bigF_len]
  · simp

section
variable {b : List Int} {K : Int → Int → Int → Int → Int → Int → Int → Int → Bool → Int → Prop}

theorem readAsk_wp (hb : isBytes b) (h1 : raOK b → K 0 (rI b) (rP b) (rS b) 0 0 0 0 (decide (b.length = 2)) 0) (h2 : ¬ raOK b → K 0 0 0 0 0 0 0 0 false 3) : pmp_ReadAsk_wp b K := by
  unfold pmp_ReadAsk_wp pmp_read_wp
  have hend : (b.length = 2 ∨ b.length = 12) → slices_Equal_sl_byte_byte_wp (askF 0 (rI b) (rP b) (rS b) 0 0 0 0 (decide (b.length = 2))) b (fun r => cond (!r) (K 0 0 0 0 0 0 0 0 false 3) (K 0 (rI b) (rP b) (rS b) 0 0 0 0 (decide (b.length = 2)) 0)) := by
    intro hl
    refine equal_wp (Nat.le_trans (askF_len _ _ _ _ _ _ _ _ _) (by omega)) (cond_b (fun h => ?_) (fun h => ?_))
    · refine h2 fun hq => ?_
      simp at h
      exact h hq.2
    · refine h1 ⟨hl, ?_⟩
      simpa using h
  refine ⟨b.length = 2 ∨ b.length = 12, fun hq => ?_, joinP1.i ?_⟩
  · have e2 : ((((b.length : Nat) : Int) : Int) == 2) = decide (b.length = 2) := eq_len b 2
    rw [e2]
    dsimp only
    unfold pmp_ReadAsk_c1_wp
    refine cond_b (fun h => ?_) (fun h => ?_)
    · have hl : b.length = 2 := by simpa using h
      refine ask_wp ?_
      have e := hend (.inl hl)
      simp only [rI, rP, rS, hl] at e ⊢
      exact e
    · have hl : b.length = 12 := by rcases hq with h' | h'; · simp [h'] at h
                                    · exact h'
      refine ⟨by omega, by omega, by omega, by omega, by omega, by omega, by omega, by omega, by omega, by omega, by omega, by omega, ?_⟩
      refine get_wp (b := seg b 4 6) (seg_le (by omega)) (seg_bytes hb) (get_wp (b := seg b 6 8) (seg_le (by omega)) (seg_bytes hb) (get_wp (b := seg b 8 12) (seg_le (by omega)) (seg_bytes hb) ?_))
      refine ask_wp ?_
      have e := hend (.inr hl)
      simp only [rI, rP, rS, hl, if_true] at e ⊢
      exact e
  · refine cond_n (fun h => ?_) (fun h => ?_)
    · refine cond_n (fun h' => h2 fun hq => ?_) (fun h' => ?_)
      · rcases hq.1 with a | a <;> omega
      · right; omega
    · refine cond_f rfl ?_
      left; omega

def aR (b : List Int) : Int := num (seg b 2 4)
def aE (b : List Int) : Int := num (seg b 4 8)
def aH (b : List Int) : Int := if b.length = 12 then num (seg b 8 12) else 0
def aI (b : List Int) : Int := if b.length = 12 then 0 else num (seg b 8 10)
def aP (b : List Int) : Int := if b.length = 12 then 0 else num (seg b 10 12)
def aS (b : List Int) : Int := if b.length = 12 then 0 else num (seg b 12 16)
def anOK (b : List Int) : Prop := (b.length = 12 ∨ b.length = 16) ∧ ansF 0 (aI b) (aP b) (aS b) 0 (aR b) (aE b) (aH b) (decide (b.length = 12)) = b

theorem aH_b (hb : isBytes b) : 0 ≤ aH b ∧ aH b ≤ 4294967295 := by
  unfold aH
  split
  · exact num4 (by unfold seg; rw [List.length_drop, List.length_take]; omega) (seg_bytes hb)
  · omega

theorem c1_wp {K : Int → Int → Int → Int → Int → Int → Int → Int → Prop} (hb : isBytes b) (hl : b.length = 12 ∨ b.length = 16) (hK : K 0 (aI b) (aP b) (aS b) 0 (aR b) (aE b) (aH b)) : pmp_ReadAnswer_c1_wp (decide (b.length = 12)) b K := by
  unfold pmp_ReadAnswer_c1_wp
  refine ⟨fun v i p s n r e h => v = 0 ∧ i = 0 ∧ p = 0 ∧ s = 0 ∧ n = 0 ∧ r = aR b ∧ e = aE b ∧ h = 0, ?_, ?_⟩
  · rintro v i p s n r e h ⟨rfl, rfl, rfl, rfl, rfl, rfl, rfl, rfl⟩
    refine joinP4.i (cond_b (fun h => ?_) (fun h => ?_))
    · have hl : b.length = 12 := by simpa using h
      refine ⟨by omega, by omega, by omega, by omega, ?_⟩
      refine get_wp (b := seg b 8 12) (seg_le (by omega)) (seg_bytes hb) ?_
      have := aH_b hb
      simp only [aI, aP, aS, aH, hl, if_true] at hK this
      rw [wrap_u32 this.1 this.2]
      exact hK
    · have hl' : ¬ b.length = 12 := by simpa using h
      refine ⟨by omega, by omega, by omega, by omega, by omega, by omega, by omega, by omega, by omega, by omega, by omega, by omega, ?_⟩
      refine get_wp (b := seg b 8 10) (seg_le (by omega)) (seg_bytes hb) (get_wp (b := seg b 10 12) (seg_le (by omega)) (seg_bytes hb) (get_wp (b := seg b 12 16) (seg_le (by omega)) (seg_bytes hb) ?_))
      simp only [aI, aP, aS, aH, hl', if_false] at hK
      exact hK
  · refine ⟨by omega, by omega, by omega, by omega, by omega, by omega, by omega, by omega, ⟨?_, ?_⟩⟩
    · refine get_wp (b := seg b 2 4) (seg_le (by omega)) (seg_bytes hb) ⟨get_wp (b := seg b 4 8) (seg_le (by omega)) (seg_bytes hb) ?_, get_wp (b := seg b 4 8) (seg_le (by omega)) (seg_bytes hb) ?_⟩
      · exact ⟨rfl, rfl, rfl, rfl, rfl, rfl, rfl, rfl⟩
      · exact ⟨rfl, rfl, rfl, rfl, rfl, rfl, rfl, rfl⟩
    · refine get_wp (b := seg b 2 4) (seg_le (by omega)) (seg_bytes hb) (get_wp (b := seg b 4 8) (seg_le (by omega)) (seg_bytes hb) ?_)
      exact ⟨rfl, rfl, rfl, rfl, rfl, rfl, rfl, rfl⟩

theorem readAns_wp (hb : isBytes b) (h1 : anOK b → K 0 (aI b) (aP b) (aS b) 0 (aR b) (aE b) (aH b) (decide (b.length = 12)) 0) (h2 : ¬ anOK b → K 0 0 0 0 0 0 0 0 false 3) : pmp_ReadAnswer_wp b K := by
  unfold pmp_ReadAnswer_wp pmp_read_wp
  refine ⟨b.length = 12 ∨ b.length = 16, fun hq => ?_, joinP1.i ?_⟩
  · have e2 : ((((b.length : Nat) : Int) : Int) == 12) = decide (b.length = 12) := eq_len b 12
    rw [e2]
    refine c1_wp hb hq (answer_wp (aH_b hb).1 (aH_b hb).2 ?_)
    refine equal_wp (Nat.le_trans (ansF_len _ _ _ _ _ _ _ _ _) (by omega)) (cond_b (fun h => ?_) (fun h => ?_))
    · refine h2 fun hq => ?_
      simp at h
      exact h hq.2
    · refine h1 ⟨hq, ?_⟩
      simpa using h
  · refine cond_n (fun h => ?_) (fun h => ?_)
    · refine cond_n (fun h' => h2 fun hq => ?_) (fun h' => ?_)
      · rcases hq.1 with a | a <;> omega
      · right; omega
    · refine cond_f rfl ?_
      left; omega

end

end Go.Proofs.Ytdacemiaihidaaa
