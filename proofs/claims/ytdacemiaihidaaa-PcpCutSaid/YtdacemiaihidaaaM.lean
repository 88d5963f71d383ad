/- The plain side: datagrams read; the statements on pcp. -/
import Derived.Test.YtdacemiaihidaaaQ
import Derived.Test.YtdacemiaihidaaaEngR
namespace Go.Proofs.Ytdacemiaihidaaa
open Go Go.Eng

theorem seg_le8 {b : List Int} {l h : Nat} (hd : h - l ≤ 8) : (seg b l h).length ≤ 8 := by unfold seg; rw [List.length_drop, List.length_take]; omega
theorem seg4 {b : List Int} {l h : Nat} (hd : h - l ≤ 4) (hb : isBytes b) : 0 ≤ num (seg b l h) ∧ num (seg b l h) ≤ 4294967295 :=
  num4 (by unfold seg; rw [List.length_drop, List.length_take]; omega) (seg_bytes hb)
theorem seg8 {b : List Int} {l h : Nat} (hd : h - l ≤ 8) (hb : isBytes b) : 0 ≤ num (seg b l h) ∧ num (seg b l h) ≤ 18446744073709551615 := by
  have := num_lt8 (seg_le8 hd) (seg_bytes (l := l) (h := h) hb)
  omega

theorem seg_app {b : List Int} {l m h : Nat} (h1 : l ≤ m) (h2 : m ≤ h) (h3 : h ≤ b.length) : seg b l h = seg b l m ++ seg b m h := by
  have e : (b.take h).take m = b.take m := by rw [List.take_take, Nat.min_eq_left h2]
  unfold seg
  conv => lhs; rw [← List.take_append_drop m (b.take h), e]
  rw [List.drop_append, List.length_take, Nat.min_eq_left (by omega), show l - m = 0 by omega, List.drop_zero]

def gI (b : List Int) : Int := num (seg b 40 42)
def gP (b : List Int) : Int := num (seg b 42 44)
def gS (b : List Int) : Int := num (seg b 4 8)
def gN (b : List Int) : Int := num (seg b 28 36)
def gH (b : List Int) : Int := num (seg b 56 60)
def gC (b : List Int) : Int := num (seg b 20 24)
def gE (b : List Int) : Int := num (seg b 8 12)
def gR (b : List Int) : Int := b[3]?.getD 0
def praOK (b : List Int) : Prop := b.length = 60 ∧ paskF 2 (gI b) (gP b) (gS b) (gN b) 0 0 (gH b) (gC b) = b
def panOK (b : List Int) : Prop := b.length = 60 ∧ pansF 2 (gI b) (gP b) (gS b) (gN b) (gR b) (gE b) (gH b) = b

section
variable {b : List Int}

theorem mapped_wp {K : Int → Int → Int → Int → Int → Int → Int → Int → Prop} (hb : isBytes b) (hl : b.length = 60) (hK : K 2 (gI b) (gP b) (gS b) (gN b) 0 0 (gH b)) : pcp_mapped_wp b K := by
  unfold pcp_mapped_wp
  refine ⟨by omega, by omega, by omega, by omega, by omega, by omega, by omega, by omega, by omega, by omega, by omega, by omega, by omega, by omega, by omega, by omega, by omega, by omega, by omega, by omega, ?_⟩
  refine pget_wp (b := seg b 4 8) (seg_le8 (by omega)) (seg_bytes hb) (pget_wp (b := seg b 28 36) (seg_le8 (by omega)) (seg_bytes hb) (pget_wp (b := seg b 40 42) (seg_le8 (by omega)) (seg_bytes hb)
    (pget_wp (b := seg b 42 44) (seg_le8 (by omega)) (seg_bytes hb) (pget_wp (b := seg b 56 60) (seg_le8 (by omega)) (seg_bytes hb) ?_))))
  have h1 := seg4 (b := b) (l := 4) (h := 8) (by omega) hb
  have h2 := seg4 (b := b) (l := 40) (h := 42) (by omega) hb
  have h3 := seg4 (b := b) (l := 42) (h := 44) (by omega) hb
  have h4 := seg4 (b := b) (l := 56) (h := 60) (by omega) hb
  rw [wrap_i64 (x := num (seg b 4 8)) (by omega) (by omega), wrap_i64 (x := num (seg b 40 42)) (by omega) (by omega), wrap_i64 (x := num (seg b 42 44)) (by omega) (by omega), wrap_u32 (by omega) (by omega)]
  exact hK

theorem rof_wp {K : Int → Int → Int → Int → Int → Int → Int → Int → Prop} (hb : isBytes b) (hl : b.length = 60) (hK : K 2 (gI b) (gP b) (gS b) (gN b) 0 0 (gH b)) : embrasureref10_of_wp b K := by
  unfold embrasureref10_of_wp
  have h4 := seg4 (b := b) (l := 56) (h := 60) (by omega) hb
  refine ⟨fun v i p s n r e h => v = 2 ∧ i = gI b ∧ p = gP b ∧ s = gS b ∧ n = 0 ∧ r = 0 ∧ e = 0 ∧ h = gH b, ?_, ?_⟩
  · rintro v i p s n r e h ⟨rfl, rfl, rfl, rfl, rfl, rfl, rfl, rfl⟩
    refine ⟨by omega, by omega, by omega, by omega, by omega, by omega, by omega, by omega, ?_⟩
    refine num_wp (b := seg b 28 32) (seg_le (by omega)) (seg_bytes hb) (num_wp (b := seg b 32 36) (seg_le (by omega)) (seg_bytes hb) ?_)
    have h1 := seg4 (b := b) (l := 28) (h := 32) (by omega) hb
    have h2 := seg4 (b := b) (l := 32) (h := 36) (by omega) hb
    rw [wrap_u64 (x := num (seg b 28 32)) (by omega) (by omega), wrap_u64 (x := num (seg b 32 36)) (by omega) (by omega), wrap_u64 (x := num (seg b 28 32) * 4294967296) (by omega) (by omega), wrap_u64 (by omega) (by omega)]
    have e : gN b = num (seg b 28 32) * 4294967296 + num (seg b 32 36) := by
      unfold gN
      rw [seg_app (l := 28) (m := 32) (h := 36) (by omega) (by omega) (by omega), num_app _ 4 _ (seg_len (by omega))]
      rfl
    rw [← e]
    exact hK
  · refine ⟨by omega, by omega, by omega, by omega, by omega, by omega, by omega, by omega, by omega, by omega, by omega, by omega, by omega, by omega, by omega, by omega, ?_⟩
    have fin : (2 : Int) = 2 ∧ num (seg b 40 42) = gI b ∧ num (seg b 42 44) = gP b ∧ num (seg b 4 8) = gS b ∧ (0 : Int) = 0 ∧ (0 : Int) = 0 ∧ (0 : Int) = 0 ∧ IntKind.wrap .u32 (num (seg b 56 60)) = gH b :=
      ⟨rfl, rfl, rfl, rfl, rfl, rfl, rfl, wrap_u32 h4.1 h4.2⟩
    repeat' first
      | refine num_wp (b := seg b 4 8) (seg_le (by omega)) (seg_bytes hb) ?_
      | refine num_wp (b := seg b 40 42) (seg_le (by omega)) (seg_bytes hb) ?_
      | refine num_wp (b := seg b 42 44) (seg_le (by omega)) (seg_bytes hb) ?_
      | refine num_wp (b := seg b 56 60) (seg_le (by omega)) (seg_bytes hb) ?_
      | exact fin
      | refine And.intro ?_ ?_

end
end Go.Proofs.Ytdacemiaihidaaa
