/- The plain side of what PCP's and NAT-PMP's datagrams are (from the statements on these). -/
import Derived.Test.YtnmdnkmemjfoeaaL5
import Derived.Test.YtnmdnkmemjfoeaaEngV
import Derived.Test.YtnmdnkmemjfoeaaEngS
import Derived.Test.YtnmdnkmemjfoeaaEngR
import Derived.Test.YtnmdnkmemjfoeaaEngU
import Derived.Test.YtnmdnkmemjfoeaaEngP
namespace Go.Proofs.Ytnmdnkmemjfoeaa
open Go Go.Eng
theorem equal_wp {s t : List Int} {K : Bool → Prop} (hl : s.length ≤ 1000000) (hK : K (decide (s = t))) : sEqY_wp s t K := by
  unfold sEqY_wp
  refine cond_n (fun he => ?_) (fun he => ?_)
  · have : ¬ s = t := fun e => he (by rw [e])
    rwa [decide_eq_false this] at hK
  · refine ⟨fun n i => 0 ≤ i ∧ i ≤ s.length ∧ n = s.length - i.toNat ∧ ∀ j, j < i.toNat → s[j]? = t[j]?, ⟨_, by omega, by omega, rfl, by omega⟩, ?_⟩
    rintro n i ⟨h0, h1, rfl, hj⟩
    refine cond_d (fun hlt => ?_) (fun hge => ?_)
    · refine ⟨h0, hlt, fun x hx => ⟨h0, by omega, fun y hy => ?_⟩⟩
      refine cond_n (fun hne => ?_) (fun heq => ?_)
      · have : ¬ s = t := fun e => by
          subst e; rw [hx] at hy; exact hne (Option.some.inj hy)
        rwa [decide_eq_false this] at hK
      · subst heq
        refine ⟨_, ?_, ?_, ?_, rfl, ?_⟩
        all_goals rw [wrap_i64 (by omega) (by omega)]
        · omega
        · omega
        · omega
        · intro j hj'
          by_cases e : j = i.toNat
          · subst e; rw [hx, hy]
          · exact hj j (by omega)
    · have : s = t := by
        apply List.ext_getElem?
        intro j
        by_cases h : j < i.toNat
        · exact hj j h
        · rw [List.getElem?_eq_none (by omega), List.getElem?_eq_none (by omega)]
      rwa [decide_eq_true this] at hK
theorem num_lt7 {xs : List Int} (hl : xs.length ≤ 7) (hb : isBytes xs) : 0 ≤ num xs ∧ num xs < 72057594037927936 := by
  have h := num_bound _ xs rfl hb
  revert h
  have : xs.length = 0 ∨ xs.length = 1 ∨ xs.length = 2 ∨ xs.length = 3 ∨ xs.length = 4 ∨ xs.length = 5 ∨ xs.length = 6 ∨ xs.length = 7 := by omega
  rcases this with e | e | e | e | e | e | e | e <;> rw [e] <;> intro h <;> simp at h <;> omega
theorem get_wp {b : List Int} {K : Int → Prop} (hl : b.length ≤ 7) (hb : isBytes b) (hK : K (num b)) : pmp_get_wp b K := by
  unfold pmp_get_wp
  refine ⟨fun n v i => 0 ≤ i ∧ i ≤ b.length ∧ n = b.length - i.toNat ∧ v = num (b.take i.toNat), ⟨_, by omega, by omega, rfl, rfl⟩, ?_⟩
  rintro n v i ⟨h0, h1, rfl, rfl⟩
  refine cond_d (fun hlt => ?_) (fun hge => ?_)
  · refine ⟨h0, hlt, fun x hx => ?_⟩
    have hs := num_step hx
    have hx2 := hb x (List.mem_of_getElem? hx)
    have hb1 := num_lt7 (xs := b.take i.toNat) (by rw [List.length_take]; omega) (isBytes_take _ hb)
    have hb2 := num_lt7 (xs := b.take (i.toNat + 1)) (by rw [List.length_take]; omega) (isBytes_take _ hb)
    have e1 : num (b.take i.toNat) * 2 ^ (min (Int.toNat 8) (IntKind.bits .i64)) = num (b.take i.toNat) * 256 := rfl
    obtain ⟨m, hm⟩ : ∃ m : Nat, num (b.take i.toNat) = m := ⟨(num (b.take i.toNat)).toNat, by omega⟩
    obtain ⟨c, rfl⟩ : ∃ c : Nat, x = c := ⟨x.toNat, by omega⟩
    have e2 : bitsV .or .i64 (IntKind.wrap .i64 (num (b.take i.toNat) * 2 ^ (min (Int.toNat 8) (IntKind.bits .i64)))) (IntKind.wrap .i64 (c : Int)) = num (b.take (i.toNat + 1)) := by
      rw [e1, wrap_i64 (by omega) (by omega), wrap_i64 (by omega) (by omega), hs, hm, or_low rfl (by omega) (by omega), wrap_i64 (by omega) (by omega)]
    refine ⟨_, ?_, ?_, ?_, rfl, ?_⟩
    all_goals rw [wrap_i64 (x := i + 1) (by omega) (by omega)]
    · omega
    · omega
    · omega
    · rw [e2]
      congr 2
      omega
  · rw [show i.toNat = b.length by omega, List.take_length]
    exact hK
theorem short_wp {n : Int} {K : List Int → Prop} (hK : K (bigF n 2)) : pmp_short_wp n K := by
  unfold pmp_short_wp
  have e : Int.fdiv n (2 ^ (min (Int.toNat 8) (IntKind.bits .i64))) = n / 256 := fdiv_pow n 8
  rw [e, wrap_mod8, wrap_mod8]
  exact hK
theorem big4 (n : Int) : bigF (n / 65536) 2 ++ bigF n 2 = bigF n 4 := by
  simp only [bigF, List.nil_append, List.cons_append, List.append_assoc, List.cons.injEq, and_true]
  omega
theorem long_wp {n : Int} {K : List Int → Prop} (hK : K (bigF n 4)) : pmp_long_wp n K := by
  unfold pmp_long_wp
  have e : Int.fdiv n (2 ^ (min (Int.toNat 16) (IntKind.bits .i64))) = n / 65536 := fdiv_pow n 16
  rw [e]
  refine short_wp (short_wp ⟨by simp [bigF_len], ?_⟩)
  rw [big4]
  exact hK
theorem grow_wp {n : Int} {K : List Int → Prop} (h0 : 0 ≤ n) (h1 : n ≤ 1000000000) (hK : K []) : sGrowY_wp n K := by
  unfold sGrowY_wp
  have e : IntKind.wrap .i64 (n - (IntKind.wrap .i64 (((0 : Nat) : Int) - ((0 : Nat) : Int)))) = n := by
    rw [wrap_i64 (x := ((0 : Nat) : Int) - ((0 : Nat) : Int)) (by omega) (by omega), wrap_i64 (by omega) (by omega)]; omega
  rw [e]
  refine cond_d (fun h => by omega) (fun _ => ?_)
  refine cond_d (fun _ => ?_) (fun _ => hK)
  refine ⟨by omega, by omega, h0, ?_, by omega, by omega, ?_⟩
  · simp; omega
  · simpa using hK
theorem flat_take {xs : List (List Int)} {i : Nat} {x : List Int} (h : xs[i]? = some x) : (xs.take (i + 1)).flatten = (xs.take i).flatten ++ x := by
  rw [List.take_add_one, h]
  simp
theorem flat_le {xs : List (List Int)} (hx : ∀ x ∈ xs, x.length ≤ 1000) : ∀ i, i ≤ 1000 → (xs.take i).flatten.length ≤ 1000 * i
  | 0, _ => by simp
  | i + 1, hi => by
    have := flat_le hx i (by omega)
    rw [List.take_add_one]
    cases h : xs[i]? with
    | none => simp at *; omega
    | some x =>
      have := hx x (List.mem_of_getElem? h)
      simp at *
      omega
theorem concat_wp {xs : List (List Int)} {K : List Int → Prop} (hl : xs.length ≤ 1000) (hx : ∀ x ∈ xs, x.length ≤ 1000) (hK : K xs.flatten) : sCatY_wp xs K := by
  unfold sCatY_wp
  refine ⟨fun s => 0 ≤ s ∧ s ≤ 1000000000, ?_, ?_⟩
  · rintro s ⟨hs0, hs1⟩
    refine grow_wp hs0 hs1 ?_
    refine ⟨fun n v i => 0 ≤ i ∧ i ≤ xs.length ∧ n = xs.length - i.toNat ∧ v = (xs.take i.toNat).flatten, ⟨_, by omega, by omega, rfl, by simp⟩, ?_⟩
    rintro n v i ⟨h0, h1, rfl, rfl⟩
    refine cond_d (fun hlt => ?_) (fun hge => ?_)
    · refine ⟨h0, hlt, fun x hxi => ?_⟩
      have h2 := flat_le hx i.toNat (by omega)
      have h3 := hx x (List.mem_of_getElem? hxi)
      refine ⟨by omega, ?_⟩
      rw [← flat_take hxi, wrap_i64 (by omega) (by omega)]
      refine ⟨_, ?_, ?_, ?_, rfl, ?_⟩
      · omega
      · omega
      · omega
      · congr 2; omega
    · rw [show i.toNat = xs.length by omega, List.take_length]
      exact hK
  · refine ⟨fun n s i => 0 ≤ i ∧ i ≤ xs.length ∧ n = xs.length - i.toNat ∧ s = (((xs.take i.toNat).flatten.length : Nat) : Int), ⟨_, by omega, by omega, rfl, by simp⟩, ?_⟩
    rintro n s i ⟨h0, h1, rfl, rfl⟩
    have h2 := flat_le hx i.toNat (by omega)
    refine cond_d (fun hlt => ?_) (fun hge => ?_)
    · refine ⟨h0, hlt, fun x hxi => ?_⟩
      have h3 := hx x (List.mem_of_getElem? hxi)
      rw [wrap_i64 (by omega) (by omega), wrap_i64 (by omega) (by omega)]
      refine cond_d (fun h => by omega) (fun _ => ?_)
      refine ⟨_, ?_, ?_, ?_, rfl, ?_⟩
      · omega
      · omega
      · omega
      · have := congrArg List.length (flat_take hxi)
        rw [List.length_append] at this
        rw [show (i + 1).toNat = i.toNat + 1 by omega, this]
        omega
    · omega
theorem row_wp {op : Int} {xs : List (List Int)} {K : List Int → Prop} (h0 : 0 ≤ op) (h1 : op ≤ 255) (hl : xs.length ≤ 1000) (hx : ∀ x ∈ xs, x.length ≤ 1000) (hK : K ([0, op] ++ xs.flatten)) : pmp_row_wp op xs K := by
  unfold pmp_row_wp
  refine concat_wp hl hx ?_
  rw [wrap_u8 h0 h1]
  have := flat_le hx xs.length (by omega)
  rw [List.take_length] at this
  refine ⟨?_, hK⟩
  simp at *
  omega
theorem dec_key {P : Prop} [Decidable P] {K : Bool → Prop} (hK : K (decide P)) (b : Bool) (h : b = true ↔ P) : K b := by
  have : b = decide P := by
    cases b with
    | true => exact (decide_eq_true (h.1 rfl)).symm
    | false => exact (decide_eq_false (fun hp => by have := h.2 hp; cases this)).symm
  rwa [this]
def fitsP (i p s r e : Int) : Prop := (0 ≤ i ∧ i ≤ 65535) ∧ (0 ≤ p ∧ p ≤ 65535) ∧ (0 ≤ s ∧ s ≤ 4294967295) ∧ (0 ≤ r ∧ r ≤ 65535) ∧ (0 ≤ e ∧ e ≤ 4294967295)
instance (i p s r e : Int) : Decidable (fitsP i p s r e) := by unfold fitsP; infer_instance
theorem fits_wp {v i p s n r e h : Int} {K : Bool → Prop} (hK : K (decide (fitsP i p s r e))) : pmp_fits_wp v i p s n r e h K := by
  unfold pmp_fits_wp
  refine cond_d (fun h1 => cond_d (fun h2 => cond_d (fun h3 => cond_d (fun h4 => cond_d (fun h5 => cond_d (fun h6 => cond_d (fun h7 => cond_d (fun h8 => cond_d (fun h9 => ?_) (fun h9 => ?_)) (fun h8 => ?_)) (fun h7 => ?_)) (fun h6 => ?_)) (fun h5 => ?_)) (fun h4 => ?_)) (fun h3 => ?_)) (fun h2 => ?_)) (fun h1 => ?_)
  all_goals refine dec_key hK _ ?_
  all_goals simp only [fitsP, decide_eq_true_eq, Bool.false_eq_true]
  all_goals constructor <;> intro hh <;> first | omega | exact hh.elim
def askP (v i p s n r e h : Int) (host : Bool) : Prop := fitsP i p s r e ∧ (v = 0 ∧ n = 0 ∧ r = 0 ∧ e = 0 ∧ h = 0) ∧ (host = true → i = 0 ∧ p = 0 ∧ s = 0)
instance (v i p s n r e h : Int) (host : Bool) : Decidable (askP v i p s n r e h host) := by unfold askP; infer_instance
theorem mayAsk_wp {v i p s n r e h : Int} {host : Bool} {K : Bool → Prop} (hK : K (decide (askP v i p s n r e h host))) : pmp_mayAsk_wp v i p s n r e h host K := by
  unfold pmp_mayAsk_wp
  refine fits_wp ?_
  refine cond_b (fun h1 => cond_b (fun h2 => cond_b (fun h3 => ?_) (fun h3 => ?_)) (fun h2 => ?_)) (fun h1 => ?_)
  all_goals refine dec_key hK _ ?_
  all_goals simp [askP] at *
  · exact ⟨h1, h2, by simp [h3]⟩
  · subst h3
    constructor
    · intro h; exact ⟨h1, by omega, by omega⟩
    · intro h; have := h.2.1; have := h.2.2 rfl; omega
  · intro _ a b c d e; exfalso; simp_all
  · intro h; exact absurd h h1
def askF (v i p s n r e h : Int) (host : Bool) : List Int :=
  if askP v i p s n r e h host then (if host then [0, 0] else [0, 1, 0, 0] ++ bigF i 2 ++ bigF p 2 ++ bigF s 4) else []
theorem ask_wp {v i p s n r e h : Int} {host : Bool} {K : List Int → Prop} (hK : K (askF v i p s n r e h host)) : pmp_Ask_wp v i p s n r e h host K := by
  unfold pmp_Ask_wp
  refine mayAsk_wp ?_
  unfold askF at hK
  refine cond_b (fun h1 => ?_) (fun h1 => ?_)
  · have : ¬ askP v i p s n r e h host := by simpa using h1
    rwa [if_neg this] at hK
  · have : askP v i p s n r e h host := by simpa using h1
    rw [if_pos this] at hK
    refine cond_b (fun h2 => ?_) (fun h2 => ?_)
    · rw [if_pos h2] at hK
      exact row_wp (by omega) (by omega) (by simp) (by simp) (by simpa using hK)
    · rw [if_neg (by simp [h2])] at hK
      refine short_wp (short_wp (short_wp (long_wp (row_wp (by omega) (by omega) (by simp) (by simp [bigF_len]) ?_))))
      simpa [bigF] using hK
def ansP (v i p s n r e h : Int) (host : Bool) : Prop := fitsP i p s r e ∧ (v = 0 ∧ n = 0) ∧ (host = true → i = 0 ∧ p = 0 ∧ s = 0) ∧ (host = false → h = 0)
instance (v i p s n r e h : Int) (host : Bool) : Decidable (ansP v i p s n r e h host) := by unfold ansP; infer_instance
theorem mayAnswer_wp {v i p s n r e h : Int} {host : Bool} {K : Bool → Prop} (hK : K (decide (ansP v i p s n r e h host))) : pmp_mayAnswer_wp v i p s n r e h host K := by
  unfold pmp_mayAnswer_wp
  refine joinP4.i ?_
  refine cond_b (fun h0 => ?_) (fun h0 => ?_)
  all_goals subst h0; refine fits_wp (cond_b (fun h1 => ?_) (fun h1 => ?_))
  all_goals refine dec_key hK _ ?_
  all_goals simp [ansP] at *
  · constructor
    · intro h; exact ⟨h1, by omega, by omega⟩
    · intro h; omega
  · intro h; exact absurd h h1
  · constructor
    · intro h; exact ⟨h1, by omega, by omega⟩
    · intro h; omega
  · intro h; exact absurd h h1
def ansF (v i p s n r e h : Int) (host : Bool) : List Int :=
  if ansP v i p s n r e h host then (if host then [0, 128] ++ bigF r 2 ++ bigF e 4 ++ bigF h 4 else [0, 129] ++ bigF r 2 ++ bigF e 4 ++ bigF i 2 ++ bigF p 2 ++ bigF s 4) else []
theorem answer_wp {v i p s n r e h : Int} {host : Bool} {K : List Int → Prop} (h0 : 0 ≤ h) (h1 : h ≤ 4294967295) (hK : K (ansF v i p s n r e h host)) : pmp_Answer_wp v i p s n r e h host K := by
  unfold pmp_Answer_wp
  refine mayAnswer_wp ?_
  unfold ansF at hK
  refine cond_b (fun h1 => ?_) (fun h1 => ?_)
  · have : ¬ ansP v i p s n r e h host := by simpa using h1
    rwa [if_neg this] at hK
  · have : ansP v i p s n r e h host := by simpa using h1
    rw [if_pos this] at hK
    refine cond_b (fun h2 => ?_) (fun h2 => ?_)
    · rw [if_pos h2] at hK
      rw [wrap_i64 (x := h) (by omega) (by omega)]
      refine short_wp (long_wp (long_wp (row_wp (by omega) (by omega) (by simp) (by simp [bigF_len]) ?_)))
      simpa using hK
    · rw [if_neg (by simp [h2])] at hK
      refine short_wp (long_wp (short_wp (short_wp (long_wp (row_wp (by omega) (by omega) (by simp) (by simp [bigF_len]) ?_)))))
      simpa using hK
def seg (b : List Int) (l h : Nat) : List Int := (b.take h).drop l
theorem seg_bytes {b : List Int} {l h : Nat} (hb : isBytes b) : isBytes (seg b l h) := isBytes_drop _ (isBytes_take _ hb)
theorem seg_le {b : List Int} {l h : Nat} (hd : h - l ≤ 7) : (seg b l h).length ≤ 7 := by unfold seg; rw [List.length_drop, List.length_take]; omega
theorem num4 {xs : List Int} (hl : xs.length ≤ 4) (hb : isBytes xs) : 0 ≤ num xs ∧ num xs ≤ 4294967295 := by
  have h := num_bound _ xs rfl hb
  revert h
  have : xs.length = 0 ∨ xs.length = 1 ∨ xs.length = 2 ∨ xs.length = 3 ∨ xs.length = 4 := by omega
  rcases this with e | e | e | e | e <;> rw [e] <;> intro h <;> simp at h <;> omega
def rI (b : List Int) : Int := if b.length = 12 then num (seg b 4 6) else 0
def rP (b : List Int) : Int := if b.length = 12 then num (seg b 6 8) else 0
def rS (b : List Int) : Int := if b.length = 12 then num (seg b 8 12) else 0
def raOK (b : List Int) : Prop := (b.length = 2 ∨ b.length = 12) ∧ askF 0 (rI b) (rP b) (rS b) 0 0 0 0 (decide (b.length = 2)) = b
theorem eq_len (b : List Int) (k : Nat) : ((((b.length : Nat) : Int) : Int) == (k : Int)) = decide (b.length = k) := by
  by_cases h : b.length = k
  · subst h; simp
  · rw [decide_eq_false h]; simp; omega
theorem askF_len (v i p s n r e h : Int) (host : Bool) : (askF v i p s n r e h host).length ≤ 12 := by
  unfold askF
  split
  · split <;> simp [bigF_len]
  · simp
theorem ansF_len (v i p s n r e h : Int) (host : Bool) : (ansF v i p s n r e h host).length ≤ 16 := by
  unfold ansF
  split
  · split <;> simp [bigF_len]
  · simp
section
variable {b : List Int} {K : Int → Int → Int → Int → Int → Int → Int → Int → Bool → Int → Prop}
theorem readAsk_wp (hb : isBytes b) (h1 : raOK b → K 0 (rI b) (rP b) (rS b) 0 0 0 0 (decide (b.length = 2)) 0) (h2 : ¬ raOK b → K 0 0 0 0 0 0 0 0 false 3) : pmp_ReadAsk_wp b K := by
  unfold pmp_ReadAsk_wp pmp_read_wp
  have hend : (b.length = 2 ∨ b.length = 12) → sEqY_wp (askF 0 (rI b) (rP b) (rS b) 0 0 0 0 (decide (b.length = 2))) b (fun r => cond (!r) (K 0 0 0 0 0 0 0 0 false 3) (K 0 (rI b) (rP b) (rS b) 0 0 0 0 (decide (b.length = 2)) 0)) := by
    intro hl
    refine equal_wp (Nat.le_trans (askF_len _ _ _ _ _ _ _ _ _) (by omega)) (cond_b (fun h => ?_) (fun h => ?_))
    · refine h2 fun hq => ?_
      simp at h
      exact h hq.2
    · refine h1 ⟨hl, ?_⟩
      simpa using h
  refine ⟨b.length = 2 ∨ b.length = 12, fun hq => ?_, joinP1.i ?_⟩
  · have e2 : ((((b.length : Nat) : Int) : Int) == 2) = decide (b.length = 2) := eq_len b 2
    rw [e2]
    dsimp only
    unfold pmp_ReadAsk_c1_wp
    refine cond_b (fun h => ?_) (fun h => ?_)
    · have hl : b.length = 2 := by simpa using h
      refine ask_wp ?_
      have e := hend (.inl hl)
      simp only [rI, rP, rS, hl] at e ⊢
      exact e
    · have hl : b.length = 12 := by rcases hq with h' | h'; · simp [h'] at h
                                    · exact h'
      refine ⟨by omega, by omega, by omega, by omega, by omega, by omega, by omega, by omega, by omega, by omega, by omega, by omega, ?_⟩
      refine get_wp (b := seg b 4 6) (seg_le (by omega)) (seg_bytes hb) (get_wp (b := seg b 6 8) (seg_le (by omega)) (seg_bytes hb) (get_wp (b := seg b 8 12) (seg_le (by omega)) (seg_bytes hb) ?_))
      refine ask_wp ?_
      have e := hend (.inr hl)
      simp only [rI, rP, rS, hl, if_true] at e ⊢
      exact e
  · refine cond_n (fun h => ?_) (fun h => ?_)
    · refine cond_n (fun h' => h2 fun hq => ?_) (fun h' => ?_)
      · rcases hq.1 with a | a <;> omega
      · right; omega
    · refine cond_f rfl ?_
      left; omega
def aR (b : List Int) : Int := num (seg b 2 4)
def aE (b : List Int) : Int := num (seg b 4 8)
def aH (b : List Int) : Int := if b.length = 12 then num (seg b 8 12) else 0
def aI (b : List Int) : Int := if b.length = 12 then 0 else num (seg b 8 10)
def aP (b : List Int) : Int := if b.length = 12 then 0 else num (seg b 10 12)
def aS (b : List Int) : Int := if b.length = 12 then 0 else num (seg b 12 16)
def anOK (b : List Int) : Prop := (b.length = 12 ∨ b.length = 16) ∧ ansF 0 (aI b) (aP b) (aS b) 0 (aR b) (aE b) (aH b) (decide (b.length = 12)) = b
theorem aH_b (hb : isBytes b) : 0 ≤ aH b ∧ aH b ≤ 4294967295 := by
  unfold aH
  split
  · exact num4 (by unfold seg; rw [List.length_drop, List.length_take]; omega) (seg_bytes hb)
  · omega
theorem c1_wp {K : Int → Int → Int → Int → Int → Int → Int → Int → Prop} (hb : isBytes b) (hl : b.length = 12 ∨ b.length = 16) (hK : K 0 (aI b) (aP b) (aS b) 0 (aR b) (aE b) (aH b)) : pmp_ReadAnswer_c1_wp (decide (b.length = 12)) b K := by
  unfold pmp_ReadAnswer_c1_wp
  refine ⟨fun v i p s n r e h => v = 0 ∧ i = 0 ∧ p = 0 ∧ s = 0 ∧ n = 0 ∧ r = aR b ∧ e = aE b ∧ h = 0, ?_, ?_⟩
  · rintro v i p s n r e h ⟨rfl, rfl, rfl, rfl, rfl, rfl, rfl, rfl⟩
    refine joinP4.i (cond_b (fun h => ?_) (fun h => ?_))
    · have hl : b.length = 12 := by simpa using h
      refine ⟨by omega, by omega, by omega, by omega, ?_⟩
      refine get_wp (b := seg b 8 12) (seg_le (by omega)) (seg_bytes hb) ?_
      have := aH_b hb
      simp only [aI, aP, aS, aH, hl, if_true] at hK this
      rw [wrap_u32 this.1 this.2]
      exact hK
    · have hl' : ¬ b.length = 12 := by simpa using h
      refine ⟨by omega, by omega, by omega, by omega, by omega, by omega, by omega, by omega, by omega, by omega, by omega, by omega, ?_⟩
      refine get_wp (b := seg b 8 10) (seg_le (by omega)) (seg_bytes hb) (get_wp (b := seg b 10 12) (seg_le (by omega)) (seg_bytes hb) (get_wp (b := seg b 12 16) (seg_le (by omega)) (seg_bytes hb) ?_))
      simp only [aI, aP, aS, aH, hl', if_false] at hK
      exact hK
  · refine ⟨by omega, by omega, by omega, by omega, by omega, by omega, by omega, by omega, ⟨?_, ?_⟩⟩
    · refine get_wp (b := seg b 2 4) (seg_le (by omega)) (seg_bytes hb) ⟨get_wp (b := seg b 4 8) (seg_le (by omega)) (seg_bytes hb) ?_, get_wp (b := seg b 4 8) (seg_le (by omega)) (seg_bytes hb) ?_⟩
      · exact ⟨rfl, rfl, rfl, rfl, rfl, rfl, rfl, rfl⟩
      · exact ⟨rfl, rfl, rfl, rfl, rfl, rfl, rfl, rfl⟩
    · refine get_wp (b := seg b 2 4) (seg_le (by omega)) (seg_bytes hb) (get_wp (b := seg b 4 8) (seg_le (by omega)) (seg_bytes hb) ?_)
      exact ⟨rfl, rfl, rfl, rfl, rfl, rfl, rfl, rfl⟩
theorem readAns_wp (hb : isBytes b) (h1 : anOK b → K 0 (aI b) (aP b) (aS b) 0 (aR b) (aE b) (aH b) (decide (b.length = 12)) 0) (h2 : ¬ anOK b → K 0 0 0 0 0 0 0 0 false 3) : pmp_ReadAnswer_wp b K := by
  unfold pmp_ReadAnswer_wp pmp_read_wp
  refine ⟨b.length = 12 ∨ b.length = 16, fun hq => ?_, joinP1.i ?_⟩
  · have e2 : ((((b.length : Nat) : Int) : Int) == 12) = decide (b.length = 12) := eq_len b 12
    rw [e2]
    refine c1_wp hb hq (answer_wp (aH_b hb).1 (aH_b hb).2 ?_)
    refine equal_wp (Nat.le_trans (ansF_len _ _ _ _ _ _ _ _ _) (by omega)) (cond_b (fun h => ?_) (fun h => ?_))
    · refine h2 fun hq => ?_
      simp at h
      exact h hq.2
    · refine h1 ⟨hq, ?_⟩
      simpa using h
  · refine cond_n (fun h => ?_) (fun h => ?_)
    · refine cond_n (fun h' => h2 fun hq => ?_) (fun h' => ?_)
      · rcases hq.1 with a | a <;> omega
      · right; omega
    · refine cond_f rfl ?_
      left; omega
end
theorem num_lt8 {xs : List Int} (hl : xs.length ≤ 8) (hb : isBytes xs) : 0 ≤ num xs ∧ num xs < 18446744073709551616 := by
  have h := num_bound _ xs rfl hb
  revert h
  have : xs.length = 0 ∨ xs.length = 1 ∨ xs.length = 2 ∨ xs.length = 3 ∨ xs.length = 4 ∨ xs.length = 5 ∨ xs.length = 6 ∨ xs.length = 7 ∨ xs.length = 8 := by omega
  rcases this with e | e | e | e | e | e | e | e | e <;> rw [e] <;> intro h <;> simp at h <;> omega
theorem pget_wp {b : List Int} {K : Int → Prop} (hl : b.length ≤ 8) (hb : isBytes b) (hK : K (num b)) : pcp_get_wp b K := by
  unfold pcp_get_wp
  refine ⟨fun n v i => 0 ≤ i ∧ i ≤ b.length ∧ n = b.length - i.toNat ∧ v = num (b.take i.toNat), ⟨_, by omega, by omega, rfl, rfl⟩, ?_⟩
  rintro n v i ⟨h0, h1, rfl, rfl⟩
  refine cond_d (fun hlt => ?_) (fun hge => ?_)
  · refine ⟨h0, hlt, fun x hx => ?_⟩
    have hs := num_step hx
    have hx2 := hb x (List.mem_of_getElem? hx)
    have hb1 := num_lt8 (xs := b.take i.toNat) (by rw [List.length_take]; omega) (isBytes_take _ hb)
    have hb2 := num_lt8 (xs := b.take (i.toNat + 1)) (by rw [List.length_take]; omega) (isBytes_take _ hb)
    have e1 : num (b.take i.toNat) * 2 ^ (min (Int.toNat 8) (IntKind.bits .u64)) = num (b.take i.toNat) * 256 := rfl
    obtain ⟨m, hm⟩ : ∃ m : Nat, num (b.take i.toNat) = m := ⟨(num (b.take i.toNat)).toNat, by omega⟩
    obtain ⟨c, rfl⟩ : ∃ c : Nat, x = c := ⟨x.toNat, by omega⟩
    have e2 : bitsV .or .u64 (IntKind.wrap .u64 (num (b.take i.toNat) * 2 ^ (min (Int.toNat 8) (IntKind.bits .u64)))) (IntKind.wrap .u64 (c : Int)) = num (b.take (i.toNat + 1)) := by
      rw [e1, wrap_u64 (by omega) (by omega), wrap_u64 (by omega) (by omega), hs, hm, or_low rfl (by omega) (by omega), wrap_u64 (by omega) (by omega)]
    refine ⟨_, ?_, ?_, ?_, rfl, ?_⟩
    all_goals rw [wrap_i64 (x := i + 1) (by omega) (by omega)]
    · omega
    · omega
    · omega
    · rw [e2]
      congr 2
      omega
  · rw [show i.toNat = b.length by omega, List.take_length]
    exact hK
theorem strOf_inj {xs ys : List Int} (hx : isBytes xs) (hy : isBytes ys) (h : strOf xs = strOf ys) : xs = ys := by
  have h1 : (xs.map fun n => UInt8.ofNat n.toNat) = (ys.map fun n => UInt8.ofNat n.toNat) := by
    have := congrArg (fun b => b.data.toList) h
    simpa [strOf] using this
  have key : ∀ (zs : List Int), isBytes zs → (zs.map fun n => UInt8.ofNat n.toNat).map (fun u => (u.toNat : Int)) = zs := by
    intro zs hz
    rw [List.map_map]
    conv => rhs; rw [← List.map_id zs]
    apply List.map_congr_left
    intro a ha
    have := hz a ha
    simp only [Function.comp, id]
    rw [UInt8.toNat_ofNat_of_lt' (by show a.toNat < 256; omega)]
    omega
  rw [← key xs hx, h1, key ys hy]
theorem ba_beq (a b : ByteArray) : (a == b) = decide (a = b) := by
  cases a with
  | mk x =>
    cases b with
    | mk y =>
      show (x == y) = _
      by_cases h : x = y
      · subst h; simp
      · rw [decide_eq_false (by simpa using h)]
        simpa using h
theorem bequal_wp {xs ys : List Int} {K : Bool → Prop} (hx : isBytes xs) (hy : isBytes ys) (hK : K (decide (xs = ys))) : bytes_Equal_wp xs ys K := by
  unfold bytes_Equal_wp
  rw [ba_beq]
  by_cases h : xs = ys
  · subst h; simpa using hK
  · rw [decide_eq_false (fun he => h (strOf_inj hx hy he))]
    rwa [decide_eq_false h] at hK
theorem div_pow (v : Int) (i : Nat) : v / 256 ^ i / 256 = v / 256 ^ (i + 1) := by
  rw [Int.pow_succ, Int.ediv_ediv_of_nonneg (Int.le_of_lt (Int.pow_pos (by omega)))]
theorem pbig_wp {v : Int} {k : Nat} {K : List Int → Prop} (hk : k ≤ 8) (hK : K (bigF v k)) : pcp_big_wp v (k : Int) K := by
  unfold pcp_big_wp
  refine ⟨by omega, by omega, by omega, by omega, ?_⟩
  refine ⟨fun n out i => 0 ≤ i ∧ i ≤ k ∧ n = k - i.toNat ∧ ∃ suf, out = List.replicate (k - i.toNat) 0 ++ suf ∧ bigF v k = bigF (v / 256 ^ i.toNat) (k - i.toNat) ++ suf, ⟨_, by omega, by omega, rfl, [], by simp, by simp⟩, ?_⟩
  rintro n out i ⟨hi0, hi1, rfl, suf, rfl, hs⟩
  refine cond_d (fun hlt => ?_) (fun hge => ?_)
  · obtain ⟨j, rfl⟩ : ∃ j : Nat, i = j := ⟨i.toNat, by omega⟩
    rw [Int.toNat_natCast] at hs ⊢
    obtain ⟨d, hd⟩ : ∃ d, k - j = d + 1 := ⟨k - j - 1, by omega⟩
    rw [wrap_i64 (x := 8 * (j : Int)) (by omega) (by omega), wrap_i64 (x := (k : Int) - 1) (by omega) (by omega), wrap_i64 (x := (k : Int) - 1 - j) (by omega) (by omega), wrap_i64 (x := (j : Int) + 1) (by omega) (by omega)]
    have e8 : (8 * (j : Int)).toNat = 8 * j := by omega
    have em : min (8 * (j : Int)).toNat (IntKind.bits .u64) = 8 * j := by
      rw [e8]; exact Nat.min_eq_left (by show 8 * j ≤ 64; omega)
    have ep : (2 : Int) ^ (8 * j) = 256 ^ j := by rw [Int.pow_mul]; rfl
    rw [em, wrap_mod8, fdiv_pow, ep]
    have ei : ((k : Int) - 1 - j).toNat = d := by omega
    have ej : ((j : Int) + 1).toNat = j + 1 := by omega
    have ek : k - (j + 1) = d := by omega
    refine ⟨by omega, by omega, by omega, _, ?_, by omega, by omega, rfl, (v / 256 ^ j % 256) :: suf, ?_, ?_⟩
    · omega
    · rw [ej, ek, Int.toNat_natCast, hd, ei, List.replicate_succ', List.append_assoc, List.set_append, if_neg (by simp)]
      simp
    · rw [ej, ek, hs, hd, bigF, div_pow, List.append_assoc]
      rfl
  · have : i.toNat = k := by omega
    rw [this, Nat.sub_self] at hs ⊢
    rw [show List.replicate 0 (0 : Int) ++ suf = bigF v k from hs.symm]
    exact hK
theorem pb2 {v : Int} {K : List Int → Prop} (hK : K (bigF v 2)) : pcp_big_wp v 2 K := pbig_wp (k := 2) (by omega) hK
theorem pb4 {v : Int} {K : List Int → Prop} (hK : K (bigF v 4)) : pcp_big_wp v 4 K := pbig_wp (k := 4) (by omega) hK
theorem pb8 {v : Int} {K : List Int → Prop} (hK : K (bigF v 8)) : pcp_big_wp v 8 K := pbig_wp (k := 8) (by omega) hK
def hostF (h : Int) : List Int := [0, 0, 0, 0, 0, 0, 0, 0, 0, 0, 255, 255] ++ bigF h 4
def tailF (n i p h : Int) : List Int := [0, 0, 0, 0] ++ bigF n 8 ++ [17, 0, 0, 0] ++ bigF i 2 ++ bigF p 2 ++ hostF h
theorem hostF_len (h : Int) : (hostF h).length = 16 := by simp [hostF, bigF_len]
theorem tailF_len (n i p h : Int) : (tailF n i p h).length = 36 := by simp [tailF, hostF_len, bigF_len]
theorem hostF_bytes (h : Int) : isBytes (hostF h) := isBytes_app.2 ⟨by unfold isBytes; decide, bigF_bytes _ _⟩
theorem tailF_bytes (n i p h : Int) : isBytes (tailF n i p h) := by
  simp only [tailF, isBytes_app]
  exact ⟨⟨⟨⟨⟨by unfold isBytes; decide, bigF_bytes _ _⟩, by unfold isBytes; decide⟩, bigF_bytes _ _⟩, bigF_bytes _ _⟩, hostF_bytes _⟩
theorem cc {xs : List (List Int)} {ys : List Int} {K : List Int → Prop} (hl : xs.length ≤ 1000) (hx : ∀ x ∈ xs, x.length ≤ 1000) (he : xs.flatten = ys) (hK : K ys) : sCatY_wp xs K := by
  subst he; exact concat_wp hl hx hK
theorem host16_wp {h : Int} {K : List Int → Prop} (h0 : 0 ≤ h) (h1 : h ≤ 4294967295) (hK : K (hostF h)) : pcp_host16_wp h K := by
  unfold pcp_host16_wp
  rw [wrap_u64 (x := h) (by omega) (by omega)]
  repeat' first
    | refine pb4 ?_
    | exact cc (by simp) (by simp [bigF_len]) (by simp [hostF, List.replicate]) hK
    | refine And.intro ?_ ?_
    | omega
theorem mapping_wp {v i p s n r e h : Int} {K : List Int → Prop} (i0 : 0 ≤ i) (i1 : i ≤ 65535) (p0 : 0 ≤ p) (p1 : p ≤ 65535) (h0 : 0 ≤ h) (h1 : h ≤ 4294967295) (hK : K (tailF n i p h)) : pcp_mapping_wp v i p s n r e h K := by
  unfold pcp_mapping_wp
  rw [wrap_u64 (x := i) (by omega) (by omega), wrap_u64 (x := p) (by omega) (by omega)]
  have fin : sCatY_wp [List.replicate (Int.toNat 4) 0, bigF n 8, [17, 0, 0, 0], bigF i 2, bigF p 2, hostF h] K :=
    cc (by simp) (by simp [bigF_len, hostF_len]) (by simp [tailF, List.replicate]) hK
  repeat' first
    | refine pb2 ?_
    | refine pb8 ?_
    | refine host16_wp h0 h1 ?_
    | exact fin
    | refine And.intro ?_ ?_
    | omega
theorem prow_wp {v i p s n r e h : Int} {xs : List (List Int)} {ys : List Int} {K : List Int → Prop} (hl : xs.length ≤ 1000) (hx : ∀ x ∈ xs, x.length ≤ 1000) (he : xs.flatten = ys) (hy : ys.length ≤ 1000)
    (i0 : 0 ≤ i) (i1 : i ≤ 65535) (p0 : 0 ≤ p) (p1 : p ≤ 65535) (h0 : 0 ≤ h) (h1 : h ≤ 4294967295) (hK : K (ys ++ tailF n i p h)) : pcp_row_wp v i p s n r e h xs K := by
  unfold pcp_row_wp
  refine cc hl hx he (mapping_wp i0 i1 p0 p1 h0 h1 ⟨?_, hK⟩)
  rw [tailF_len]; omega
def fitP (v i p s r e : Int) : Prop := v = 2 ∧ (0 ≤ i ∧ i ≤ 65535) ∧ (0 ≤ p ∧ p ≤ 65535) ∧ (0 ≤ s ∧ s ≤ 4294967295) ∧ (0 ≤ e ∧ e ≤ 4294967295) ∧ (0 ≤ r ∧ r ≤ 255)
instance (v i p s r e : Int) : Decidable (fitP v i p s r e) := by unfold fitP; infer_instance
theorem pfits_wp {v i p s n r e h : Int} {K : Bool → Prop} (hK : K (decide (fitP v i p s r e))) : pcp_fits_wp v i p s n r e h K := by
  unfold pcp_fits_wp
  refine ⟨fun b => (b = true ↔ (0 ≤ i ∧ i ≤ 65535) ∧ (0 ≤ p ∧ p ≤ 65535)), fun b hb => ?_, ?_⟩
  · cases b with
    | true =>
      have hr := hb.1 rfl
      refine cond_e (fun a1 => cond_t rfl (cond_d (fun a3 => cond_d (fun a4 => cond_d (fun a5 => cond_d (fun a6 => cond_d (fun a7 => ?_) (fun a7 => ?_)) (fun a6 => ?_)) (fun a5 => ?_)) (fun a4 => ?_)) (fun a3 => ?_))) (fun a1 => ?_)
      all_goals refine dec_key hK _ ?_
      all_goals simp only [fitP, decide_eq_true_eq, Bool.false_eq_true]
      all_goals constructor <;> intro hh <;> first | omega | exact hh.elim
    | false =>
      have hn : ¬ ((0 ≤ i ∧ i ≤ 65535) ∧ (0 ≤ p ∧ p ≤ 65535)) := fun hq => by have := hb.2 hq; cases this
      refine cond_e (fun a1 => cond_f rfl ?_) (fun a1 => ?_)
      all_goals refine dec_key hK _ ?_
      all_goals simp only [fitP, Bool.false_eq_true]
      all_goals constructor <;> intro hh <;> first | omega | exact hh.elim
  · refine cond_d (fun a3 => cond_d (fun a4 => cond_d (fun a5 => ?_) (fun a5 => ?_)) (fun a4 => ?_)) (fun a3 => ?_)
    all_goals simp only [decide_eq_true_eq, Bool.false_eq_true]
    all_goals constructor <;> intro hh <;> first | omega | exact hh.elim
def paskP (v i p s r e : Int) : Prop := fitP v i p s r e ∧ r = 0 ∧ e = 0
instance (v i p s r e : Int) : Decidable (paskP v i p s r e) := by unfold paskP; infer_instance
def paskF (v i p s n r e h c : Int) : List Int := if paskP v i p s r e then [2, 1, 0, 0] ++ bigF s 4 ++ hostF c ++ tailF n i p h else []
def pansF (v i p s n r e h : Int) : List Int := if fitP v i p s r e then [2, 129, 0, r] ++ bigF s 4 ++ bigF e 4 ++ List.replicate 12 0 ++ tailF n i p h else []
theorem pask_wp {v i p s n r e h c : Int} {K : List Int → Prop} (h0 : 0 ≤ h) (h1 : h ≤ 4294967295) (c0 : 0 ≤ c) (c1 : c ≤ 4294967295) (hK : K (paskF v i p s n r e h c)) : pcp_Ask_wp v i p s n r e h c K := by
  unfold pcp_Ask_wp
  refine ⟨fun t => (t = true ↔ ¬ paskP v i p s r e), fun t ht => ?_, ?_⟩
  · unfold paskF at hK
    refine cond_b (fun h1 => ?_) (fun h2 => ?_)
    · rwa [if_neg (ht.1 h1)] at hK
    · have hp : paskP v i p s r e := by
        by_cases hq : paskP v i p s r e
        · exact hq
        · have := ht.2 hq; rw [h2] at this; cases this
      rw [if_pos hp] at hK
      have hf := hp.1
      unfold fitP at hf
      rw [wrap_u64 (x := s) (by omega) (by omega)]
      have fin : pcp_row_wp v i p s n r e h [[2, 1, 0, 0], bigF s 4, hostF c] K :=
        prow_wp (ys := [2, 1, 0, 0] ++ bigF s 4 ++ hostF c) (by simp) (by simp [bigF_len, hostF_len]) (by simp) (by simp [bigF_len, hostF_len]) (by omega) (by omega) (by omega) (by omega) h0 h1 hK
      repeat' first
        | refine pb4 ?_
        | refine host16_wp c0 c1 ?_
        | exact fin
        | refine And.intro ?_ ?_
  · refine pfits_wp (cond_b (fun h1 => ?_) (fun h1 => cond_n (fun h2 => ?_) (fun h2 => ?_)))
    · simp at h1; simp [paskP, h1]
    · simp [paskP, h2]
    · simp at h1; subst h2; simp [paskP, h1]
theorem pans_wp {v i p s n r e h : Int} {K : List Int → Prop} (h0 : 0 ≤ h) (h1 : h ≤ 4294967295) (hK : K (pansF v i p s n r e h)) : pcp_Answer_wp v i p s n r e h K := by
  unfold pcp_Answer_wp
  unfold pansF at hK
  refine pfits_wp (cond_b (fun h2 => ?_) (fun h2 => ?_))
  · have : ¬ fitP v i p s r e := by simpa using h2
    rwa [if_neg this] at hK
  · have hp : fitP v i p s r e := by simpa using h2
    rw [if_pos hp] at hK
    have hf := hp
    unfold fitP at hf
    rw [wrap_u64 (x := s) (by omega) (by omega), wrap_u64 (x := e) (by omega) (by omega), wrap_u8 (x := r) (by omega) (by omega)]
    have fin : pcp_row_wp v i p s n r e h [[2, 129, 0, r], bigF s 4, bigF e 4, List.replicate (Int.toNat 12) 0] K :=
      prow_wp (ys := [2, 129, 0, r] ++ bigF s 4 ++ bigF e 4 ++ List.replicate 12 0) (by simp) (by simp [bigF_len]) (by simp) (by simp [bigF_len]) (by omega) (by omega) (by omega) (by omega) h0 h1 hK
    repeat' first
      | refine pb4 ?_
      | exact fin
      | refine And.intro ?_ ?_
      | omega
theorem seg_le8 {b : List Int} {l h : Nat} (hd : h - l ≤ 8) : (seg b l h).length ≤ 8 := by unfold seg; rw [List.length_drop, List.length_take]; omega
theorem seg4 {b : List Int} {l h : Nat} (hd : h - l ≤ 4) (hb : isBytes b) : 0 ≤ num (seg b l h) ∧ num (seg b l h) ≤ 4294967295 :=
  num4 (by unfold seg; rw [List.length_drop, List.length_take]; omega) (seg_bytes hb)
def gI (b : List Int) : Int := num (seg b 40 42)
def gP (b : List Int) : Int := num (seg b 42 44)
def gS (b : List Int) : Int := num (seg b 4 8)
def gN (b : List Int) : Int := num (seg b 28 36)
def gH (b : List Int) : Int := num (seg b 56 60)
def gC (b : List Int) : Int := num (seg b 20 24)
def praOK (b : List Int) : Prop := b.length = 60 ∧ paskF 2 (gI b) (gP b) (gS b) (gN b) 0 0 (gH b) (gC b) = b
section
variable {b : List Int}
theorem mapped_wp {K : Int → Int → Int → Int → Int → Int → Int → Int → Prop} (hb : isBytes b) (hl : b.length = 60) (hK : K 2 (gI b) (gP b) (gS b) (gN b) 0 0 (gH b)) : pcp_mapped_wp b K := by
  unfold pcp_mapped_wp
  refine ⟨by omega, by omega, by omega, by omega, by omega, by omega, by omega, by omega, by omega, by omega, by omega, by omega, by omega, by omega, by omega, by omega, by omega, by omega, by omega, by omega, ?_⟩
  refine pget_wp (b := seg b 4 8) (seg_le8 (by omega)) (seg_bytes hb) (pget_wp (b := seg b 28 36) (seg_le8 (by omega)) (seg_bytes hb) (pget_wp (b := seg b 40 42) (seg_le8 (by omega)) (seg_bytes hb)
    (pget_wp (b := seg b 42 44) (seg_le8 (by omega)) (seg_bytes hb) (pget_wp (b := seg b 56 60) (seg_le8 (by omega)) (seg_bytes hb) ?_))))
  have h1 := seg4 (b := b) (l := 4) (h := 8) (by omega) hb
  have h2 := seg4 (b := b) (l := 40) (h := 42) (by omega) hb
  have h3 := seg4 (b := b) (l := 42) (h := 44) (by omega) hb
  have h4 := seg4 (b := b) (l := 56) (h := 60) (by omega) hb
  rw [wrap_i64 (x := num (seg b 4 8)) (by omega) (by omega), wrap_i64 (x := num (seg b 40 42)) (by omega) (by omega), wrap_i64 (x := num (seg b 42 44)) (by omega) (by omega), wrap_u32 (by omega) (by omega)]
  exact hK
end
theorem askF_bytes (v i p s n r e h : Int) (host : Bool) : isBytes (askF v i p s n r e h host) := by
  unfold askF
  split
  · split
    · unfold isBytes; decide
    · simp only [isBytes_app]
      exact ⟨⟨⟨by unfold isBytes; decide, bigF_bytes _ _⟩, bigF_bytes _ _⟩, bigF_bytes _ _⟩
  · exact isBytes_nil
theorem ansF_bytes (v i p s n r e h : Int) (host : Bool) : isBytes (ansF v i p s n r e h host) := by
  unfold ansF
  split
  · split
    · simp only [isBytes_app]
      exact ⟨⟨⟨by unfold isBytes; decide, bigF_bytes _ _⟩, bigF_bytes _ _⟩, bigF_bytes _ _⟩
    · simp only [isBytes_app]
      exact ⟨⟨⟨⟨⟨by unfold isBytes; decide, bigF_bytes _ _⟩, bigF_bytes _ _⟩, bigF_bytes _ _⟩, bigF_bytes _ _⟩, bigF_bytes _ _⟩
  · exact isBytes_nil
theorem paskF_bytes {v i p s n r e h c : Int} : isBytes (paskF v i p s n r e h c) := by
  unfold paskF
  split
  · simp only [isBytes_app]
    exact ⟨⟨⟨by unfold isBytes; decide, bigF_bytes _ _⟩, hostF_bytes _⟩, tailF_bytes _ _ _ _⟩
  · exact isBytes_nil
theorem ver_wp {b : List Int} {K : Int → Prop} (hb : isBytes b) (hK : ∀ x, b[0]? = some x → K x) (hN : b = [] → K (-1)) : pcp_Version_wp b K := by
  unfold pcp_Version_wp
  refine cond_e (fun h => hN (List.length_eq_zero_iff.1 (by omega))) (fun h => ⟨by omega, by omega, fun x hx => ?_⟩)
  have := hb x (List.mem_of_getElem? hx)
  rw [wrap_i64 (by omega) (by omega)]
  exact hK x hx
section
variable {b : List Int} {K : Int → Int → Int → Int → Int → Int → Int → Int → Int → Int → Prop} {K' : Int → Int → Int → Int → Int → Int → Int → Int → Int → Prop}
theorem preadAsk_wp (hb : isBytes b) (h1 : praOK b → K 2 (gI b) (gP b) (gS b) (gN b) 0 0 (gH b) (gC b) 0) (h2 : ¬ praOK b → K 0 0 0 0 0 0 0 0 0 3) : pcp_ReadAsk_wp b K := by
  unfold pcp_ReadAsk_wp
  refine cond_n (fun h => h2 fun hq => h (by have := hq.1; omega)) (fun h => ?_)
  have hl : b.length = 60 := by omega
  have hH := seg4 (b := b) (l := 56) (h := 60) (by omega) hb
  have hC := seg4 (b := b) (l := 20) (h := 24) (by omega) hb
  refine ⟨fun v i p s n r e h c => v = 2 ∧ i = gI b ∧ p = gP b ∧ s = gS b ∧ n = gN b ∧ r = 0 ∧ e = 0 ∧ h = gH b ∧ c = gC b, ?_, ?_⟩
  · rintro v i p s n r e h c ⟨rfl, rfl, rfl, rfl, rfl, rfl, rfl, rfl, rfl⟩
    refine pask_wp hH.1 hH.2 hC.1 hC.2 (bequal_wp paskF_bytes hb (cond_b (fun h => h2 fun hq => ?_) (fun h => h1 ⟨hl, ?_⟩)))
    · simp at h; exact h hq.2
    · simpa using h
  · have fin : (2 : Int) = 2 ∧ gI b = gI b ∧ gP b = gP b ∧ gS b = gS b ∧ gN b = gN b ∧ (0 : Int) = 0 ∧ (0 : Int) = 0 ∧ gH b = gH b ∧ IntKind.wrap .u32 (num (seg b 20 24)) = gC b :=
      ⟨rfl, rfl, rfl, rfl, rfl, rfl, rfl, rfl, wrap_u32 hC.1 hC.2⟩
    refine ⟨by omega, by omega, by omega, by omega, ?_⟩
    repeat' first
      | refine mapped_wp hb hl ?_
      | refine pget_wp (b := seg b 20 24) (seg_le8 (by omega)) (seg_bytes hb) ?_
      | exact fin
      | refine And.intro ?_ ?_
end
end Go.Proofs.Ytnmdnkmemjfoeaa
