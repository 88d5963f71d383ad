/-
  The engine, part P: small facts for the plain side.
-/
import Derived.Test.YtdonkmbhlankiaaEngM
namespace Go.Eng
open Go

theorem wrap_i64 {x : Int} (h1 : -9223372036854775808 ≤ x) (h2 : x ≤ 9223372036854775807) : IntKind.wrap .i64 x = x := by
  have e : IntKind.wrap .i64 x = if x % 18446744073709551616 ≥ 9223372036854775808 then x % 18446744073709551616 - 18446744073709551616 else x % 18446744073709551616 := by
    simp [IntKind.wrap, IntKind.signed, IntKind.bits]
  rw [e]
  split <;> omega

theorem wrap_u64 {x : Int} (h1 : 0 ≤ x) (h2 : x ≤ 18446744073709551615) : IntKind.wrap .u64 x = x := by
  simp only [IntKind.wrap, IntKind.signed, IntKind.bits]
  simp
  omega

theorem wrap_u32 {x : Int} (h1 : 0 ≤ x) (h2 : x ≤ 4294967295) : IntKind.wrap .u32 x = x := by
  simp only [IntKind.wrap, IntKind.signed, IntKind.bits]
  simp
  omega

theorem wrap_u16 {x : Int} (h1 : 0 ≤ x) (h2 : x ≤ 65535) : IntKind.wrap .u16 x = x := by
  simp only [IntKind.wrap, IntKind.signed, IntKind.bits]
  simp
  omega

theorem wrap_u8 {x : Int} (h1 : 0 ≤ x) (h2 : x ≤ 255) : IntKind.wrap .u8 x = x := by
  simp only [IntKind.wrap, IntKind.signed, IntKind.bits]
  simp
  omega

theorem tdiv_pos {a b : Int} (h : 0 ≤ a) : Int.tdiv a b = a / b := Int.tdiv_eq_ediv_of_nonneg h
theorem tmod_pos {a b : Int} (h : 0 ≤ a) : Int.tmod a b = a % b := Int.tmod_eq_emod_of_nonneg h

theorem cond_d {p : Prop} [Decidable p] {T F : Prop} (ht : p → T) (hf : ¬p → F) : cond (decide p) T F := by
  by_cases h : p
  · simp only [h, decide_true, cond_true]; exact ht h
  · simp only [h, decide_false, cond_false]; exact hf h

theorem cond_e {a b : Int} {T F : Prop} (ht : a = b → T) (hf : a ≠ b → F) : cond (a == b) T F := by
  by_cases h : a = b
  · simp only [h, beq_self_eq_true, cond_true]; exact ht h
  · have : (a == b) = false := by simpa using h
    rw [this]; exact hf h

theorem cond_n {a b : Int} {T F : Prop} (ht : a ≠ b → T) (hf : a = b → F) : cond (a != b) T F := by
  by_cases h : a = b
  · have : (a != b) = false := by simpa using h
    rw [this]; exact hf h
  · have : (a != b) = true := by simpa using h
    rw [this]; exact ht h

theorem cond_b {b : Bool} {T F : Prop} (ht : b = true → T) (hf : b = false → F) : cond b T F := cond_i ht hf

theorem cond_t {b : Bool} {T F : Prop} (h : b = true) (ht : T) : cond b T F := by subst h; exact ht
theorem cond_f {b : Bool} {T F : Prop} (h : b = false) (hf : F) : cond b T F := by subst h; exact hf

/-- Where the first one stands; -1: nowhere. -/
def idx {α : Type} (f : α → Bool) (l : List α) : Int := match l.findIdx? f with
  | some i => (i : Int)
  | none => -1

end Go.Eng
