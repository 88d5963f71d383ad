/- The laws of the puncher, as the rows ask for them (plain side). -/
import Derived.Test.YtgelfofenbjjbaaS
namespace Go.Proofs.Ytgelfofenbjjbaa
open Go Go.Eng

theorem ink_u8 {x : Int} (h : inK .u8 x) : 0 ≤ x ∧ x ≤ 255 := h
theorem ink_u16 {x : Int} (h : inK .u16 x) : 0 ≤ x ∧ x ≤ 65535 := h
theorem ink_u32 {x : Int} (h : inK .u32 x) : 0 ≤ x := And.left (b := x ≤ 4294967295) h
theorem ink_u64 {x : Int} (h : inK .u64 x) : 0 ≤ x ∧ x ≤ 18446744073709551615 := h

abbrev okOwn (x : Int × Int) : Prop := inK .u32 x.1 ∧ inK .i64 x.2
abbrev okScr (x : Int × Int × Int × (List (Int)) × (List (Int × Int)) × (List (Int))) : Prop := inK .i64 x.1 ∧ inK .i64 x.2.1 ∧ inK .i64 x.2.2.1 ∧ ((∀ a ∈ x.2.2.2.1, inK .u64 a) ∧ x.2.2.2.1.length ≤ 9223372036854775807) ∧ ((∀ a ∈ x.2.2.2.2.1, okOwn a) ∧ x.2.2.2.2.1.length ≤ 9223372036854775807) ∧ ((∀ a ∈ x.2.2.2.2.2, inK .u8 a) ∧ x.2.2.2.2.2.length ≤ 9223372036854775807)

theorem okScr_do {x : Dos} (h : okScr x) : okDo x := ⟨h.2.2.2.1.2, h.2.2.2.2.1.2, fun y hy => ink_u64 (h.2.2.2.1.1 y hy)⟩

theorem punchEnds_plain {own : List (Int × Int)} {script : List Dos} (h0 : ∀ a ∈ own, okOwn a) (hl : own.length ≤ 9223372036854775807) (h1 : ∀ x ∈ script, okScr x) (_ : script.length ≤ 9223372036854775807) :
    embrasurelaw27_PunchEnds_wp own script [] [] [] (fun r _ _ _ => r = true) :=
  punchEnds_plain0 hl (fun a ha => ink_u32 (h0 a ha).1) (fun x hx => okScr_do (h1 x hx))

theorem punchMet_plain {own : List (Int × Int)} {first : Bool} {script : List Dos} (h0 : ∀ a ∈ own, okOwn a) (hl : own.length ≤ 9223372036854775807) (h1 : ∀ x ∈ script, okScr x) (_ : script.length ≤ 9223372036854775807) :
    embrasurelaw27_PunchMet_wp own first script [] [] [] (fun r _ _ _ => r = true) :=
  punchMet_plain0 hl (fun a ha => ink_u32 (h0 a ha).1) (fun x hx => okScr_do (h1 x hx))

theorem punchStill_plain {own : List (Int × Int)} {x y late : Int} (h0 : ∀ a ∈ own, okOwn a) (hl : own.length ≤ 9223372036854775807) (hx : inK .u8 x) (hy : inK .u8 y) (hz : inK .u8 late) :
    embrasurelaw27_PunchStill_wp own x y late (· = true) :=
  punchStill_plain0 hl (fun a ha => ink_u32 (h0 a ha).1) (ink_u8 hx).1 (ink_u8 hx).2 (ink_u8 hy).1 (ink_u8 hy).2 (ink_u8 hz).1 (ink_u8 hz).2

theorem punchTogether_plain {a b : List (Int × Int)} {delay start : Int} (h0 : ∀ x ∈ a, okOwn x) (hl : a.length ≤ 9223372036854775807) (h1 : ∀ x ∈ b, okOwn x) (hl' : b.length ≤ 9223372036854775807) (hd : inK .u8 delay) (hs : inK .u16 start) :
    embrasurelaw27_PunchTogether_wp a b delay start (· = true) :=
  punchTogether_plain0 hl hl' (fun x hx => ink_u32 (h0 x hx).1) (fun x hx => ink_u32 (h1 x hx).1) (ink_u8 hd).1 (ink_u8 hd).2 (ink_u16 hs).1 (ink_u16 hs).2

end Go.Proofs.Ytgelfofenbjjbaa
