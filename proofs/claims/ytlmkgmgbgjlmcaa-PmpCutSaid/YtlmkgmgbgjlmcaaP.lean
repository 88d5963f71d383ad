/- The plain side of the statements on pmp: each function's answer. -/
import Derived.Test.YtlmkgmgbgjlmcaaL
import Derived.Test.YtlmkgmgbgjlmcaaEngS
namespace Go.Proofs.Ytlmkgmgbgjlmcaa
open Go Go.Eng

theorem equal_wp {s t : List Int} {K : Bool → Prop} (hl : s.length ≤ 1000000) (hK : K (decide (s = t))) : slices_Equal_sl_byte_byte_wp s t K := by
  unfold slices_Equal_sl_byte_byte_wp
  refine cond_n (fun he => ?_) (fun he => ?_)
  · have : ¬ s = t := fun e => he (by rw [e])
    rwa [decide_eq_false this] at hK
  · refine ⟨fun n i => 0 ≤ i ∧ i ≤ s.length ∧ n = s.length - i.toNat ∧ ∀ j, j < i.toNat → s[j]? = t[j]?, ⟨_, by omega, by omega, rfl, by omega⟩, ?_⟩
    rintro n i ⟨h0, h1, rfl, hj⟩
    refine cond_d (fun hlt => ?_) (fun hge => ?_)
    · refine ⟨h0, hlt, fun x hx => ⟨h0, by omega, fun y hy => ?_⟩⟩
      refine cond_n (fun hne => ?_) (fun heq => ?_)
      · have : ¬ s = t := fun e => by
          subst e; rw [hx] at hy; exact hne (Option.some.inj hy)
        rwa [decide_eq_false this] at hK
      · subst heq
        refine ⟨_, ?_, ?_, ?_, rfl, ?_⟩
        all_goals rw [wrap_i64 (by omega) (by omega)]
        · omega
        · omega
        · omega
        · intro j hj'
          by_cases e : j = i.toNat
          · subst e; rw [hx, hy]
          · exact hj j (by omega)
    · have : s = t := by
        apply List.ext_getElem?
        intro j
        by_cases h : j < i.toNat
        · exact hj j h
        · rw [List.getElem?_eq_none (by omega), List.getElem?_eq_none (by omega)]
      rwa [decide_eq_true this] at hK

theorem same_wp {s t : List Int} {K : Bool → Prop} (hl : s.length ≤ 1000000) (hK : K (decide (s = t))) : embrasureref01_Same_wp s t K := equal_wp hl hK

theorem num_lt7 {xs : List Int} (hl : xs.length ≤ 7) (hb : isBytes xs) : 0 ≤ num xs ∧ num xs < 72057594037927936 := by
  have h := num_bound _ xs rfl hb
  revert h
  have : xs.length = 0 ∨ xs.length = 1 ∨ xs.length = 2 ∨ xs.length = 3 ∨ xs.length = 4 ∨ xs.length = 5 ∨ xs.length = 6 ∨ xs.length = 7 := by omega
  rcases this with e | e | e | e | e | e | e | e <;> rw [e] <;> intro h <;> simp at h <;> omega

theorem take_len {xs : List Int} {t : Nat} (h : t ≤ xs.length) : (xs.take t).length = t := by rw [List.length_take]; omega

theorem get_wp {b : List Int} {K : Int → Prop} (hl : b.length ≤ 7) (hb : isBytes b) (hK : K (num b)) : pmp_get_wp b K := by
  unfold pmp_get_wp
  refine ⟨fun n v i => 0 ≤ i ∧ i ≤ b.length ∧ n = b.length - i.toNat ∧ v = num (b.take i.toNat), ⟨_, by omega, by omega, rfl, rfl⟩, ?_⟩
  rintro n v i ⟨h0, h1, rfl, rfl⟩
  refine cond_d (fun hlt => ?_) (fun hge => ?_)
  · refine ⟨h0, hlt, fun x hx => ?_⟩
    have hs := num_step hx
    have hx2 := hb x (List.mem_of_getElem? hx)
    have hb1 := num_lt7 (xs := b.take i.toNat) (by rw [List.length_take]; omega) (isBytes_take _ hb)
    have hb2 := num_lt7 (xs := b.take (i.toNat + 1)) (by rw [List.length_take]; omega) (isBytes_take _ hb)
    have e1 : num (b.take i.toNat) * 2 ^ (min (Int.toNat 8) (IntKind.bits .i64)) = num (b.take i.toNat) * 256 := rfl
    obtain ⟨m, hm⟩ : ∃ m : Nat, num (b.take i.toNat) = m := ⟨(num (b.take i.toNat)).toNat, by omega⟩
    obtain ⟨c, rfl⟩ : ∃ c : Nat, x = c := ⟨x.toNat, by omega⟩
    have e2 : bitsV .or .i64 (IntKind.wrap .i64 (num (b.take i.toNat) * 2 ^ (min (Int.toNat 8) (IntKind.bits .i64)))) (IntKind.wrap .i64 (c : Int)) = num (b.take (i.toNat + 1)) := by
      rw [e1, wrap_i64 (by omega) (by omega), wrap_i64 (by omega) (by omega), hs, hm, or_low rfl (by omega) (by omega), wrap_i64 (by omega) (by omega)]
    refine ⟨_, ?_, ?_, ?_, rfl, ?_⟩
    all_goals rw [wrap_i64 (x := i + 1) (by omega) (by omega)]
    · omega
    · omega
    · omega
    · rw [e2]
      congr 2
      omega
  · rw [show i.toNat = b.length by omega, List.take_length]
    exact hK

theorem num_wp {b : List Int} {K : Int → Prop} (hl : b.length ≤ 7) (hb : isBytes b) (hK : K (num b)) : embrasureref09_Num_wp b K := by
  unfold embrasureref09_Num_wp
  refine ⟨fun n v i => 0 ≤ i ∧ i ≤ b.length ∧ n = b.length - i.toNat ∧ v = num (b.take i.toNat), ⟨_, by omega, by omega, rfl, rfl⟩, ?_⟩
  rintro n v i ⟨h0, h1, rfl, rfl⟩
  refine cond_d (fun hlt => ?_) (fun hge => ?_)
  · refine ⟨h0, hlt, fun x hx => ?_⟩
    have hs := num_step hx
    have hx2 := hb x (List.mem_of_getElem? hx)
    have hb1 := num_lt7 (xs := b.take i.toNat) (by rw [List.length_take]; omega) (isBytes_take _ hb)
    have hb2 := num_lt7 (xs := b.take (i.toNat + 1)) (by rw [List.length_take]; omega) (isBytes_take _ hb)
    refine ⟨_, ?_, ?_, ?_, rfl, ?_⟩
    all_goals rw [wrap_i64 (x := i + 1) (by omega) (by omega)]
    · omega
    · omega
    · omega
    · rw [wrap_i64 (x := _ * 256) (by omega) (by omega), wrap_i64 (x := x) (by omega) (by omega), wrap_i64 (by omega) (by omega), ← hs]
      congr 2
      omega
  · rw [show i.toNat = b.length by omega, List.take_length]
    exact hK

theorem short_wp {n : Int} {K : List Int → Prop} (hK : K (bigF n 2)) : pmp_short_wp n K := by
  unfold pmp_short_wp
  have e : Int.fdiv n (2 ^ (min (Int.toNat 8) (IntKind.bits .i64))) = n / 256 := fdiv_pow n 8
  rw [e, wrap_mod8, wrap_mod8]
  exact hK

theorem big4 (n : Int) : bigF (n / 65536) 2 ++ bigF n 2 = bigF n 4 := by
  simp only [bigF, List.nil_append, List.cons_append, List.append_assoc, List.cons.injEq, and_true]
  omega

theorem long_wp {n : Int} {K : List Int → Prop} (hK : K (bigF n 4)) : pmp_long_wp n K := by
  unfold pmp_long_wp
  have e : Int.fdiv n (2 ^ (min (Int.toNat 16) (IntKind.bits .i64))) = n / 65536 := fdiv_pow n 16
  rw [e]
  refine short_wp (short_wp ⟨by simp [bigF_len], ?_⟩)
  rw [big4]
  exact hK

theorem big_wp {v : Int} {k : Nat} {K : List Int → Prop} (hk : k ≤ 100) (h0 : 0 ≤ v) (h1 : v ≤ 9223372036854775807) (hK : K (bigF v k)) : embrasureref09_Big_wp v (k : Int) K := by
  unfold embrasureref09_Big_wp
  refine ⟨by omega, by omega, by omega, by omega, ?_⟩
  refine ⟨fun n w out i => -1 ≤ i ∧ i < k ∧ n = (i + 1).toNat ∧ 0 ≤ w ∧ w ≤ 9223372036854775807 ∧ ∃ suf, out = List.replicate (i + 1).toNat 0 ++ suf ∧ bigF v k = bigF w (i + 1).toNat ++ suf, ⟨k, ?_⟩, ?_⟩
  · rw [wrap_i64 (by omega) (by omega)]
    refine ⟨by omega, by omega, by omega, h0, h1, [], ?_, ?_⟩
    · rw [List.append_nil]; congr 1; omega
    · rw [List.append_nil]; congr 1; omega
  · rintro n w out i ⟨hi0, hi1, rfl, hw0, hw1, suf, rfl, hs⟩
    refine cond_d (fun hge => ?_) (fun hlt => ?_)
    · refine ⟨by omega, by omega, ?_⟩
      obtain ⟨j, rfl⟩ : ∃ j : Nat, i = j := ⟨i.toNat, by omega⟩
      have ej : ((j : Int) + 1).toNat = j + 1 := by omega
      have ej2 : ((j : Int) - 1 + 1).toNat = j := by omega
      rw [ej] at hs ⊢
      rw [wrap_i64 (x := (j : Int) - 1) (by omega) (by omega), tdiv_pos hw0, tmod_pos hw0, wrap_i64 (by omega) (by omega), wrap_u8 (by omega) (by omega)]
      refine ⟨_, ?_, by omega, by omega, rfl, by omega, by omega, (w % 256) :: suf, ?_, ?_⟩
      · omega
      · rw [ej2, Int.toNat_natCast, List.replicate_succ', List.append_assoc, List.set_append, if_neg (by simp)]
        simp
      · rw [ej2, hs, bigF, List.append_assoc]
        rfl
    · obtain rfl : i = -1 := by omega
      rw [show ((-1 : Int) + 1).toNat = 0 from rfl] at hs ⊢
      rw [show List.replicate 0 (0 : Int) ++ suf = bigF v k from hs.symm]
      exact hK

theorem grow_wp {n : Int} {K : List Int → Prop} (h0 : 0 ≤ n) (h1 : n ≤ 1000000000) (hK : K []) : slices_Grow_sl_byte_byte_wp n K := by
  unfold slices_Grow_sl_byte_byte_wp
  have e : IntKind.wrap .i64 (n - (IntKind.wrap .i64 (((0 : Nat) : Int) - ((0 : Nat) : Int)))) = n := by
    rw [wrap_i64 (x := ((0 : Nat) : Int) - ((0 : Nat) : Int)) (by omega) (by omega), wrap_i64 (by omega) (by omega)]; omega
  rw [e]
  refine cond_d (fun h => by omega) (fun _ => ?_)
  refine cond_d (fun _ => ?_) (fun _ => hK)
  refine ⟨by omega, by omega, h0, ?_, by omega, by omega, ?_⟩
  · simp; omega
  · simpa using hK

theorem flat_take {xs : List (List Int)} {i : Nat} {x : List Int} (h : xs[i]? = some x) : (xs.take (i + 1)).flatten = (xs.take i).flatten ++ x := by
  rw [List.take_add_one, h]
  simp

theorem flat_le {xs : List (List Int)} (hx : ∀ x ∈ xs, x.length ≤ 1000) : ∀ i, i ≤ 1000 → (xs.take i).flatten.length ≤ 1000 * i
  | 0, _ => by simp
  | i + 1, hi => by
    have := flat_le hx i (by omega)
    rw [List.take_add_one]
    cases h : xs[i]? with
    | none => simp at *; omega
    | some x =>
      have := hx x (List.mem_of_getElem? h)
      simp at *
      omega

theorem concat_wp {xs : List (List Int)} {K : List Int → Prop} (hl : xs.length ≤ 1000) (hx : ∀ x ∈ xs, x.length ≤ 1000) (hK : K xs.flatten) : slices_Concat_sl_byte_byte_wp xs K := by
  unfold slices_Concat_sl_byte_byte_wp
  refine ⟨fun s => 0 ≤ s ∧ s ≤ 1000000000, ?_, ?_⟩
  · rintro s ⟨hs0, hs1⟩
    refine grow_wp hs0 hs1 ?_
    refine ⟨fun n v i => 0 ≤ i ∧ i ≤ xs.length ∧ n = xs.length - i.toNat ∧ v = (xs.take i.toNat).flatten, ⟨_, by omega, by omega, rfl, by simp⟩, ?_⟩
    rintro n v i ⟨h0, h1, rfl, rfl⟩
    refine cond_d (fun hlt => ?_) (fun hge => ?_)
    · refine ⟨h0, hlt, fun x hxi => ?_⟩
      have h2 := flat_le hx i.toNat (by omega)
      have h3 := hx x (List.mem_of_getElem? hxi)
      refine ⟨by omega, ?_⟩
      rw [← flat_take hxi, wrap_i64 (by omega) (by omega)]
      refine ⟨_, ?_, ?_, ?_, rfl, ?_⟩
      · omega
      · omega
      · omega
      · congr 2; omega
    · rw [show i.toNat = xs.length by omega, List.take_length]
      exact hK
  · refine ⟨fun n s i => 0 ≤ i ∧ i ≤ xs.length ∧ n = xs.length - i.toNat ∧ s = (((xs.take i.toNat).flatten.length : Nat) : Int), ⟨_, by omega, by omega, rfl, by simp⟩, ?_⟩
    rintro n s i ⟨h0, h1, rfl, rfl⟩
    have h2 := flat_le hx i.toNat (by omega)
    refine cond_d (fun hlt => ?_) (fun hge => ?_)
    · refine ⟨h0, hlt, fun x hxi => ?_⟩
      have h3 := hx x (List.mem_of_getElem? hxi)
      rw [wrap_i64 (by omega) (by omega), wrap_i64 (by omega) (by omega)]
      refine cond_d (fun h => by omega) (fun _ => ?_)
      refine ⟨_, ?_, ?_, ?_, rfl, ?_⟩
      · omega
      · omega
      · omega
      · have := congrArg List.length (flat_take hxi)
        rw [List.length_append] at this
        rw [show (i + 1).toNat = i.toNat + 1 by omega, this]
        omega
    · omega

theorem row_wp {op : Int} {xs : List (List Int)} {K : List Int → Prop} (h0 : 0 ≤ op) (h1 : op ≤ 255) (hl : xs.length ≤ 1000) (hx : ∀ x ∈ xs, x.length ≤ 1000) (hK : K ([0, op] ++ xs.flatten)) : pmp_row_wp op xs K := by
  unfold pmp_row_wp
  refine concat_wp hl hx ?_
  rw [wrap_u8 h0 h1]
  have := flat_le hx xs.length (by omega)
  rw [List.take_length] at this
  refine ⟨?_, hK⟩
  simp at *
  omega

end Go.Proofs.Ytlmkgmgbgjlmcaa
