/-
  The engine, part S: numbers and their bytes.
-/
import Derived.Test.YtdonkmbhlankiaaEngP
namespace Go.Eng
open Go

theorem or_low {k : IntKind} (hk : k.bits = 64) {m c : Nat} (hm : m * 256 + c < 18446744073709551616) (hc : c < 256) :
    bitsV .or k ((m : Int) * 256) (c : Int) = k.wrap ((m : Int) * 256 + c) := by
  have h1 : (BitVec.ofInt k.bits ((m : Int) * 256)).toNat = m * 256 := by
    have : ((m : Int) * 256) = ((m * 256 : Nat) : Int) := by omega
    rw [this, BitVec.ofInt_natCast, BitVec.toNat_ofNat, hk]
    refine Nat.mod_eq_of_lt (Nat.lt_of_lt_of_eq (m := 18446744073709551616) (Nat.lt_of_le_of_lt (Nat.le_add_right _ c) hm) (by decide))
  have h2 : (BitVec.ofInt k.bits (c : Int)).toNat = c := by
    rw [BitVec.ofInt_natCast, BitVec.toNat_ofNat, hk]
    refine Nat.mod_eq_of_lt (Nat.lt_of_lt_of_eq (m := 18446744073709551616) (Nat.lt_of_le_of_lt (Nat.le_add_left _ _) hm) (by decide))
  have h3 : m * 256 ||| c = m * 256 + c := by
    have := Nat.two_pow_add_eq_or_of_lt (i := 8) (b := c) (by simpa using hc) m
    rw [show (2 : Nat) ^ 8 = 256 from rfl] at this
    rw [Nat.mul_comm, ← this]
  show k.wrap ((BitVec.ofInt k.bits ((m : Int) * 256) ||| BitVec.ofInt k.bits (c : Int)).toNat : Int) = _
  rw [BitVec.toNat_or, h1, h2, h3]
  congr 1

def isBytes (xs : List Int) : Prop := ∀ x ∈ xs, 0 ≤ x ∧ x ≤ 255

theorem isBytes_app {xs ys : List Int} : isBytes (xs ++ ys) ↔ isBytes xs ∧ isBytes ys := by
  unfold isBytes
  constructor
  · intro h; exact ⟨fun x hx => h x (by simp [hx]), fun x hx => h x (by simp [hx])⟩
  · rintro ⟨h1, h2⟩ x hx
    rcases List.mem_append.1 hx with h | h
    · exact h1 x h
    · exact h2 x h
theorem isBytes_nil : isBytes [] := fun x hx => by simp at hx
theorem isBytes_cons {x : Int} {xs : List Int} : isBytes (x :: xs) ↔ (0 ≤ x ∧ x ≤ 255) ∧ isBytes xs := by
  unfold isBytes; simp
theorem isBytes_take {xs : List Int} (n : Nat) (h : isBytes xs) : isBytes (xs.take n) := fun x hx => h x (List.mem_of_mem_take hx)
theorem isBytes_drop {xs : List Int} (n : Nat) (h : isBytes xs) : isBytes (xs.drop n) := fun x hx => h x (List.mem_of_mem_drop hx)

/-- The number of bytes, the greatest first. -/
def num (xs : List Int) : Int := xs.foldl (fun v c => v * 256 + c) 0

theorem num_snoc (xs : List Int) (c : Int) : num (xs ++ [c]) = num xs * 256 + c := by simp [num]
theorem num_nil : num [] = 0 := rfl

/-- A number's last bytes, the greatest first. -/
def bigF (v : Int) : Nat → List Int
  | 0 => []
  | n + 1 => bigF (v / 256) n ++ [v % 256]

theorem bigF_len : ∀ (n : Nat) (v : Int), (bigF v n).length = n
  | 0, _ => rfl
  | n + 1, v => by simp [bigF, bigF_len n]

theorem bigF_bytes : ∀ (n : Nat) (v : Int), isBytes (bigF v n)
  | 0, _ => isBytes_nil
  | n + 1, v => by
    rw [bigF, isBytes_app]
    refine ⟨bigF_bytes n _, ?_⟩
    rw [isBytes_cons]
    exact ⟨by omega, isBytes_nil⟩

theorem num_bigF : ∀ (n : Nat) (v : Int), num (bigF v n) = v % 256 ^ n
  | 0, v => by simp [bigF, num_nil, Int.emod_one]
  | n + 1, v => by
    rw [bigF, num_snoc, num_bigF n]
    have hp : (0 : Int) < 256 ^ n := Int.pow_pos (by omega)
    rw [Int.pow_succ]
    generalize hq : (256 : Int) ^ n = q at *
    have e1 := Int.emod_add_mul_ediv v 256
    have e2 := Int.emod_add_mul_ediv (v / 256) q
    have h1 := Int.emod_nonneg (v / 256) (show q ≠ 0 by omega)
    have h2 := Int.emod_lt_of_pos (v / 256) hp
    have h3 := Int.emod_nonneg v (show (256 : Int) ≠ 0 by omega)
    have h4 := Int.emod_lt_of_pos v (show (0 : Int) < 256 by omega)
    have e3 : v = (v / 256 % q * 256 + v % 256) + (q * 256) * (v / 256 / q) := by
      rw [Int.mul_right_comm q 256]
      have : v / 256 = v / 256 % q + q * (v / 256 / q) := e2.symm
      omega
    symm
    conv => lhs; rw [e3]
    rw [Int.add_mul_emod_self_left]
    refine Int.emod_eq_of_lt (by omega) ?_
    have : v / 256 % q + 1 ≤ q := by omega
    have := Int.mul_le_mul_of_nonneg_right this (show (0 : Int) ≤ 256 by omega)
    omega

theorem num_bound : ∀ (n : Nat) (xs : List Int), xs.length = n → isBytes xs → 0 ≤ num xs ∧ num xs < 256 ^ n
  | 0, xs, hl, _ => by
    obtain rfl := List.length_eq_zero_iff.1 hl
    simp [num_nil]
  | n + 1, xs, hl, hb => by
    rcases List.eq_nil_or_concat xs with rfl | ⟨ys, c, rfl⟩
    · simp at hl
    · rw [List.concat_eq_append] at *
      rw [isBytes_app, isBytes_cons] at hb
      have := num_bound n ys (by simpa using hl) hb.1
      rw [num_snoc, Int.pow_succ]
      generalize (256 : Int) ^ n = q at *
      have := Int.mul_le_mul_of_nonneg_right (show num ys + 1 ≤ q by omega) (show (0 : Int) ≤ 256 by omega)
      omega

theorem bigF_num : ∀ (n : Nat) (xs : List Int), xs.length = n → isBytes xs → bigF (num xs) n = xs
  | 0, xs, hl, _ => by
    obtain rfl := List.length_eq_zero_iff.1 hl
    rfl
  | n + 1, xs, hl, hb => by
    rcases List.eq_nil_or_concat xs with rfl | ⟨ys, c, rfl⟩
    · simp at hl
    · rw [List.concat_eq_append] at *
      rw [isBytes_app, isBytes_cons] at hb
      rw [num_snoc, bigF]
      have e1 : (num ys * 256 + c) / 256 = num ys := by omega
      have e2 : (num ys * 256 + c) % 256 = c := by omega
      rw [e1, e2, bigF_num n ys (by simpa using hl) hb.1]

/-- Numbers within bounds are told by their bytes. -/
theorem bigF_inj {n : Nat} {v w : Int} (hv : 0 ≤ v) (hv2 : v < 256 ^ n) (hw : 0 ≤ w) (hw2 : w < 256 ^ n) (h : bigF v n = bigF w n) : v = w := by
  have := congrArg num h
  rwa [num_bigF, num_bigF, Int.emod_eq_of_lt hv hv2, Int.emod_eq_of_lt hw hw2] at this

theorem num_bigF_lt {n : Nat} {v : Int} (hv : 0 ≤ v) (hv2 : v < 256 ^ n) : num (bigF v n) = v := by
  rw [num_bigF, Int.emod_eq_of_lt hv hv2]

/-- One step of reading a number. -/
theorem num_step {xs : List Int} {t : Nat} {x : Int} (h : xs[t]? = some x) : num (xs.take (t + 1)) = num (xs.take t) * 256 + x := by
  rw [List.take_add_one, h]
  exact num_snoc _ _

/-- Two rows of bytes, compared. -/
theorem wrap_mod8 (x : Int) : IntKind.wrap .u8 x = x % 256 := by
  simp [IntKind.wrap, IntKind.signed, IntKind.bits]

theorem fdiv_pow (x : Int) (n : Nat) : Int.fdiv x (2 ^ n) = x / 2 ^ n :=
  Int.fdiv_eq_ediv_of_nonneg _ (Int.le_of_lt (Int.pow_pos (by omega)))

end Go.Eng
