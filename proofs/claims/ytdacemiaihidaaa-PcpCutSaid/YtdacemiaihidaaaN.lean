/- The plain side: the statements on pcp. -/
import Derived.Test.YtdacemiaihidaaaM
namespace Go.Proofs.Ytdacemiaihidaaa
open Go Go.Eng

theorem askF_bytes (v i p s n r e h : Int) (host : Bool) : isBytes (askF v i p s n r e h host) := by
  unfold askF
  split
  · split
    · unfold isBytes; decide
    · simp only [isBytes_app]
      exact ⟨⟨⟨by unfold isBytes; decide, bigF_bytes _ _⟩, bigF_bytes _ _⟩, bigF_bytes _ _⟩
  · exact isBytes_nil
theorem ansF_bytes (v i p s n r e h : Int) (host : Bool) : isBytes (ansF v i p s n r e h host) := by
  unfold ansF
  split
  · split
    · simp only [isBytes_app]
      exact ⟨⟨⟨by unfold isBytes; decide, bigF_bytes _ _⟩, bigF_bytes _ _⟩, bigF_bytes _ _⟩
    · simp only [isBytes_app]
      exact ⟨⟨⟨⟨⟨by unfold isBytes; decide, bigF_bytes _ _⟩, bigF_bytes _ _⟩, bigF_bytes _ _⟩, bigF_bytes _ _⟩, bigF_bytes _ _⟩
  · exact isBytes_nil

theorem paskF_bytes {v i p s n r e h c : Int} : isBytes (paskF v i p s n r e h c) := by
  unfold paskF
  split
  · simp only [isBytes_app]
    exact ⟨⟨⟨by unfold isBytes; decide, bigF_bytes _ _⟩, hostF_bytes _⟩, tailF_bytes _ _ _ _⟩
  · exact isBytes_nil
theorem pansF_bytes {v i p s n r e h : Int} : isBytes (pansF v i p s n r e h) := by
  unfold pansF
  split
  · rename_i hp
    unfold fitP at hp
    simp only [isBytes_app]
    refine ⟨⟨⟨⟨?_, bigF_bytes _ _⟩, bigF_bytes _ _⟩, by unfold isBytes; decide⟩, tailF_bytes _ _ _ _⟩
    intro x hx
    simp only [List.mem_cons, List.not_mem_nil, or_false] at hx
    omega
  · exact isBytes_nil
theorem paskF_len {v i p s n r e h c : Int} : (paskF v i p s n r e h c).length = 60 ∨ (paskF v i p s n r e h c).length = 0 := by
  unfold paskF
  split
  · left; simp [bigF_len, hostF_len, tailF_len]
  · right; rfl
theorem pansF_len {v i p s n r e h : Int} : (pansF v i p s n r e h).length = 60 ∨ (pansF v i p s n r e h).length = 0 := by
  unfold pansF
  split
  · left; simp [bigF_len, tailF_len]
  · right; rfl
theorem paskF_ne {v i p s n r e h c : Int} (hl : (paskF v i p s n r e h c).length ≠ 0) : paskP v i p s r e := by
  unfold paskF at hl
  by_cases hp : paskP v i p s r e
  · exact hp
  · rw [if_neg hp] at hl; exact absurd rfl hl
theorem pansF_ne {v i p s n r e h : Int} (hl : (pansF v i p s n r e h).length ≠ 0) : fitP v i p s r e := by
  unfold pansF at hl
  by_cases hp : fitP v i p s r e
  · exact hp
  · rw [if_neg hp] at hl; exact absurd rfl hl

theorem tail_read {pre b : List Int} {n i p h : Int} (hb : b = pre ++ tailF n i p h) (hl : pre.length = 24) (n0 : 0 ≤ n) (n1 : n ≤ 18446744073709551615) (i0 : 0 ≤ i) (i1 : i ≤ 65535) (p0 : 0 ≤ p) (p1 : p ≤ 65535) (h0 : 0 ≤ h) (h1 : h ≤ 4294967295) :
    gN b = n ∧ gI b = i ∧ gP b = p ∧ gH b = h := by
  have sg : ∀ l m, seg b (24 + l) (24 + m) = seg (tailF n i p h) l m := by
    intro l m
    subst hb
    unfold seg
    rw [← hl, List.take_length_add_append, List.drop_length_add_append]
  refine ⟨?_, ?_, ?_, ?_⟩
  · show num (seg b (24 + 4) (24 + 12)) = n
    rw [sg]
    show num (bigF n 8) = n
    exact num_bigF_lt (by omega) (by simp; omega)
  · show num (seg b (24 + 16) (24 + 18)) = i
    rw [sg]
    show num (bigF i 2) = i
    exact num_bigF_lt (by omega) (by simp; omega)
  · show num (seg b (24 + 18) (24 + 20)) = p
    rw [sg]
    show num (bigF p 2) = p
    exact num_bigF_lt (by omega) (by simp; omega)
  · show num (seg b (24 + 32) (24 + 36)) = h
    rw [sg]
    show num (bigF h 4) = h
    exact num_bigF_lt (by omega) (by simp; omega)

theorem pask_read {v i p s n r e h c : Int} (n0 : 0 ≤ n) (n1 : n ≤ 18446744073709551615) (h0 : 0 ≤ h) (h1 : h ≤ 4294967295) (c0 : 0 ≤ c) (c1 : c ≤ 4294967295) (hp : paskP v i p s r e) :
    praOK (paskF v i p s n r e h c) ∧ gI (paskF v i p s n r e h c) = i ∧ gP (paskF v i p s n r e h c) = p ∧ gS (paskF v i p s n r e h c) = s ∧ gN (paskF v i p s n r e h c) = n ∧ gH (paskF v i p s n r e h c) = h ∧ gC (paskF v i p s n r e h c) = c := by
  have hp' := hp
  obtain ⟨hf, rfl, rfl⟩ := hp'
  have hf' := hf
  unfold fitP at hf'
  obtain ⟨rfl, hi, hpp, hs, -, -⟩ := hf'
  generalize hb : paskF 2 i p s n 0 0 h c = b
  have eb : b = ([2, 1, 0, 0] ++ bigF s 4 ++ hostF c) ++ tailF n i p h := by
    rw [← hb]; unfold paskF; rw [if_pos hp]
  obtain ⟨q1, q2, q3, q4⟩ := tail_read eb (by simp [bigF_len, hostF_len]) n0 n1 hi.1 hi.2 hpp.1 hpp.2 h0 h1
  have q5 : gS b = s := by
    rw [eb]
    show num (bigF s 4) = s
    exact num_bigF_lt (by omega) (by simp; omega)
  have q6 : gC b = c := by
    rw [eb]
    show num (bigF c 4) = c
    exact num_bigF_lt (by omega) (by simp; omega)
  refine ⟨⟨by rw [eb]; simp [bigF_len, hostF_len, tailF_len], ?_⟩, q2, q3, q5, q1, q4, q6⟩
  rw [q1, q2, q3, q4, q5, q6, hb]

theorem pans_read {v i p s n r e h : Int} (n0 : 0 ≤ n) (n1 : n ≤ 18446744073709551615) (h0 : 0 ≤ h) (h1 : h ≤ 4294967295) (hp : fitP v i p s r e) :
    panOK (pansF v i p s n r e h) ∧ gI (pansF v i p s n r e h) = i ∧ gP (pansF v i p s n r e h) = p ∧ gS (pansF v i p s n r e h) = s ∧ gN (pansF v i p s n r e h) = n ∧ gR (pansF v i p s n r e h) = r ∧ gE (pansF v i p s n r e h) = e ∧ gH (pansF v i p s n r e h) = h := by
  have hf' := hp
  unfold fitP at hf'
  obtain ⟨rfl, hi, hpp, hs, he, hr⟩ := hf'
  generalize hb : pansF 2 i p s n r e h = b
  have eb : b = ([2, 129, 0, r] ++ bigF s 4 ++ bigF e 4 ++ List.replicate 12 0) ++ tailF n i p h := by
    rw [← hb]; unfold pansF; rw [if_pos hp]
  obtain ⟨q1, q2, q3, q4⟩ := tail_read eb (by simp [bigF_len]) n0 n1 hi.1 hi.2 hpp.1 hpp.2 h0 h1
  have q5 : gS b = s := by
    rw [eb]
    show num (bigF s 4) = s
    exact num_bigF_lt (by omega) (by simp; omega)
  have q6 : gE b = e := by
    rw [eb]
    show num (bigF e 4) = e
    exact num_bigF_lt (by omega) (by simp; omega)
  have q7 : gR b = r := by
    rw [eb]; rfl
  refine ⟨⟨by rw [eb]; simp [bigF_len, tailF_len], ?_⟩, q2, q3, q5, q1, q7, q6, q4⟩
  rw [q1, q2, q3, q4, q5, q6, q7, hb]

theorem pask_head {b : List Int} (h : praOK b) : b[0]? = some 2 ∧ b[1]? = some 1 := by
  obtain ⟨hl, h⟩ := h
  unfold paskF at h
  split at h
  · rw [← h]; exact ⟨rfl, rfl⟩
  · rw [← h] at hl; simp at hl
theorem pans_head {b : List Int} (h : panOK b) : b[0]? = some 2 ∧ b[1]? = some 129 := by
  obtain ⟨hl, h⟩ := h
  unfold pansF at h
  split at h
  · rw [← h]; exact ⟨rfl, rfl⟩
  · rw [← h] at hl; simp at hl
theorem pnot_both {b : List Int} (h1 : praOK b) (h2 : panOK b) : False := by
  have a := (pask_head h1).2
  rw [(pans_head h2).2] at a
  cases a

theorem ver_wp {b : List Int} {K : Int → Prop} (hb : isBytes b) (hK : ∀ x, b[0]? = some x → K x) (hN : b = [] → K (-1)) : pcp_Version_wp b K := by
  unfold pcp_Version_wp
  refine cond_e (fun h => hN (List.length_eq_zero_iff.1 (by omega))) (fun h => ⟨by omega, by omega, fun x hx => ?_⟩)
  have := hb x (List.mem_of_getElem? hx)
  rw [wrap_i64 (by omega) (by omega)]
  exact hK x hx

section
variable {b : List Int} {K : Int → Int → Int → Int → Int → Int → Int → Int → Int → Int → Prop} {K' : Int → Int → Int → Int → Int → Int → Int → Int → Int → Prop}

theorem preadAsk_wp (hb : isBytes b) (h1 : praOK b → K 2 (gI b) (gP b) (gS b) (gN b) 0 0 (gH b) (gC b) 0) (h2 : ¬ praOK b → K 0 0 0 0 0 0 0 0 0 3) : pcp_ReadAsk_wp b K := by
  unfold pcp_ReadAsk_wp
  refine cond_n (fun h => h2 fun hq => h (by have := hq.1; omega)) (fun h => ?_)
  have hl : b.length = 60 := by omega
  have hH := seg4 (b := b) (l := 56) (h := 60) (by omega) hb
  have hC := seg4 (b := b) (l := 20) (h := 24) (by omega) hb
  refine ⟨fun v i p s n r e h c => v = 2 ∧ i = gI b ∧ p = gP b ∧ s = gS b ∧ n = gN b ∧ r = 0 ∧ e = 0 ∧ h = gH b ∧ c = gC b, ?_, ?_⟩
  · rintro v i p s n r e h c ⟨rfl, rfl, rfl, rfl, rfl, rfl, rfl, rfl, rfl⟩
    refine pask_wp hH.1 hH.2 hC.1 hC.2 (bequal_wp paskF_bytes hb (cond_b (fun h => h2 fun hq => ?_) (fun h => h1 ⟨hl, ?_⟩)))
    · simp at h; exact h hq.2
    · simpa using h
  · have fin : (2 : Int) = 2 ∧ gI b = gI b ∧ gP b = gP b ∧ gS b = gS b ∧ gN b = gN b ∧ (0 : Int) = 0 ∧ (0 : Int) = 0 ∧ gH b = gH b ∧ IntKind.wrap .u32 (num (seg b 20 24)) = gC b :=
      ⟨rfl, rfl, rfl, rfl, rfl, rfl, rfl, rfl, wrap_u32 hC.1 hC.2⟩
    refine ⟨by omega, by omega, by omega, by omega, ?_⟩
    repeat' first
      | refine mapped_wp hb hl ?_
      | refine pget_wp (b := seg b 20 24) (seg_le8 (by omega)) (seg_bytes hb) ?_
      | exact fin
      | refine And.intro ?_ ?_

theorem prreadAsk_wp (hb : isBytes b) (h1 : praOK b → K 2 (gI b) (gP b) (gS b) (gN b) 0 0 (gH b) (gC b) 0) (h2 : ¬ praOK b → K 0 0 0 0 0 0 0 0 0 3) : embrasureref10_ReadAsk_wp b K := by
  unfold embrasureref10_ReadAsk_wp
  refine cond_n (fun h => h2 fun hq => h (by have := hq.1; omega)) (fun h => ?_)
  have hl : b.length = 60 := by omega
  have hH := seg4 (b := b) (l := 56) (h := 60) (by omega) hb
  have hC := seg4 (b := b) (l := 20) (h := 24) (by omega) hb
  have hN := seg8 (b := b) (l := 28) (h := 36) (by omega) hb
  refine rof_wp hb hl ⟨by omega, by omega, by omega, by omega, num_wp (b := seg b 20 24) (seg_le (by omega)) (seg_bytes hb) ?_⟩
  rw [wrap_u32 hC.1 hC.2]
  refine rask_wp hN.1 hN.2 hH.1 hH.2 hC.1 hC.2 (same_wp ?_ (cond_b (fun h => h2 fun hq => ?_) (fun h => h1 ⟨hl, ?_⟩)))
  · rcases @paskF_len 2 (gI b) (gP b) (gS b) (gN b) 0 0 (gH b) (num (seg b 20 24)) with z | z <;> omega
  · simp at h; exact h hq.2
  · rw [Bool.not_eq_false'] at h; exact of_decide_eq_true h

theorem preadAns_wp (hb : isBytes b) (h1 : panOK b → K' 2 (gI b) (gP b) (gS b) (gN b) (gR b) (gE b) (gH b) 0) (h2 : ¬ panOK b → K' 0 0 0 0 0 0 0 0 3) : pcp_ReadAnswer_wp b K' := by
  unfold pcp_ReadAnswer_wp
  refine cond_n (fun h => h2 fun hq => h (by have := hq.1; omega)) (fun h => ?_)
  have hl : b.length = 60 := by omega
  have hH := seg4 (b := b) (l := 56) (h := 60) (by omega) hb
  have hE := seg4 (b := b) (l := 8) (h := 12) (by omega) hb
  refine mapped_wp hb hl ⟨by omega, by omega, fun x hx => ⟨by omega, by omega, by omega, by omega, pget_wp (b := seg b 8 12) (seg_le8 (by omega)) (seg_bytes hb) ?_⟩⟩
  have hxb := hb x (List.mem_of_getElem? hx)
  have hx3 : x = gR b := by
    have : b[3]? = some x := hx
    simp [gR, this]
  rw [wrap_i64 (x := x) (by omega) (by omega), wrap_i64 (by omega) (by omega), hx3]
  refine pans_wp hH.1 hH.2 (bequal_wp pansF_bytes hb (cond_b (fun h => h2 fun hq => ?_) (fun h => h1 ⟨hl, ?_⟩)))
  · simp at h; exact h hq.2
  · rw [Bool.not_eq_false'] at h; exact of_decide_eq_true h

theorem prreadAns_wp (hb : isBytes b) (h1 : panOK b → K' 2 (gI b) (gP b) (gS b) (gN b) (gR b) (gE b) (gH b) 0) (h2 : ¬ panOK b → K' 0 0 0 0 0 0 0 0 3) : embrasureref10_ReadAnswer_wp b K' := by
  unfold embrasureref10_ReadAnswer_wp
  refine cond_n (fun h => h2 fun hq => h (by have := hq.1; omega)) (fun h => ?_)
  have hl : b.length = 60 := by omega
  have hH := seg4 (b := b) (l := 56) (h := 60) (by omega) hb
  have hE := seg4 (b := b) (l := 8) (h := 12) (by omega) hb
  have hN := seg8 (b := b) (l := 28) (h := 36) (by omega) hb
  refine rof_wp hb hl ⟨by omega, by omega, fun x hx => ⟨by omega, by omega, by omega, by omega, num_wp (b := seg b 8 12) (seg_le (by omega)) (seg_bytes hb) ?_⟩⟩
  have hxb := hb x (List.mem_of_getElem? hx)
  have hx3 : x = gR b := by
    have : b[3]? = some x := hx
    simp [gR, this]
  rw [wrap_i64 (x := x) (by omega) (by omega), hx3]
  refine rans_wp hN.1 hN.2 hH.1 hH.2 (same_wp ?_ (cond_b (fun h => h2 fun hq => ?_) (fun h => h1 ⟨hl, ?_⟩)))
  · rcases @pansF_len 2 (gI b) (gP b) (gS b) (gN b) (gR b) (num (seg b 8 12)) (gH b) with z | z <;> omega
  · simp at h; exact h hq.2
  · rw [Bool.not_eq_false'] at h; exact of_decide_eq_true h

end

theorem awake_wp {K : Bool → Prop} (hK : K true) : embrasurelaw10_awake_wp K := by
  unfold embrasurelaw10_awake_wp
  refine pask_wp (by omega) (by omega) (by omega) (by omega) ?_
  have hp : paskP 2 5 7 60 0 0 := by decide
  obtain ⟨hr, a1, a2, a3, a4, a5, a6⟩ := pask_read (v := 2) (i := 5) (p := 7) (s := 60) (n := 9) (r := 0) (e := 0) (h := 0) (c := 3) (by omega) (by omega) (by omega) (by omega) (by omega) (by omega) hp
  have hb := @paskF_bytes 2 5 7 60 9 0 0 0 3
  have hl := hr.1
  obtain ⟨g0, g1⟩ := pask_head hr
  generalize paskF 2 5 7 60 9 0 0 0 3 = b at *
  refine preadAsk_wp hb (fun h1 => ?_) (fun h1 => absurd hr h1)
  refine preadAns_wp hb (fun h2 => (pnot_both h1 h2).elim) (fun _ => ?_)
  rw [a4, a2, a6]
  refine cond_t (by rw [hl]; rfl) ⟨by omega, by omega, fun x hx => ?_⟩
  obtain rfl : x = 2 := by
    have : b[0]? = some x := hx
    rw [g0] at this; exact (Option.some.inj this).symm
  refine cond_t rfl ⟨by omega, by omega, fun x hx => ?_⟩
  obtain rfl : x = 1 := by
    have : b[1]? = some x := hx
    rw [g1] at this; exact (Option.some.inj this).symm
  refine cond_t rfl (cond_t rfl (cond_t rfl (cond_t rfl (cond_t rfl (cond_t rfl ?_)))))
  refine ver_wp hb (fun x hx => ?_) (fun h => by rw [h] at hl; cases hl)
  obtain rfl : x = 2 := by rw [g0] at hx; exact (Option.some.inj hx).symm
  exact cond_t rfl (ver_wp isBytes_nil (fun x hx => by simp at hx) (fun _ => hK))

theorem agT {v i p s n r e h v' i' p' s' n' r' e' h' : Int} (a : v = v') (b : i = i') (c : p = p') (d : s = s') (f : n = n') (g : r = r') (k : e = e') (l : h = h') :
    (((v : Int) == v') && (((i : Int) == i') && (((p : Int) == p') && (((s : Int) == s') && (((n : Int) == n') && (((r : Int) == r') && (((e : Int) == e') && (((h : Int) == h') && true)))))))) = true := by
  subst a b c d f g k l; simp

theorem pcpReads_plain {b : List Int} (hb : ∀ x ∈ b, inK .u8 x) (hl : b.length ≤ 9223372036854775807) : embrasurelaw10_PcpReads_wp b (· = true) := by
  have hb : isBytes b := fun x hx => by have := hb x hx; simp [inK, IntKind.min, IntKind.max, IntKind.signed, IntKind.bits] at this; omega
  unfold embrasurelaw10_PcpReads_wp
  refine awake_wp (cond_f rfl (cond_d (fun _ => rfl) (fun hlen => ⟨by simp; omega, ?_⟩)))
  rw [List.nil_append]
  have same : ∀ {K : Bool → Prop}, K true → embrasureref01_Same_wp b b K := fun {K} h => same_wp (by omega) (by simpa using h)
  have vers : ∀ {Q : Bool → Prop}, Q false → cond (decide ((((b.length : Nat) : Int) : Int) > 0)) (0 ≤ (0 : Int) ∧ (0 : Int) < ((b.length : Nat) : Int) ∧ (∀ (x_2 : Int), b[Int.toNat 0]? = some x_2 → (pcp_Version_wp b (fun (r_40 : Int) => Q ((r_40 : Int) != (IntKind.wrap .i64 x_2)))))) (Q false) := by
    intro Q hQ
    refine cond_d (fun h => ⟨by omega, by omega, fun x hx => ?_⟩) (fun _ => hQ)
    have hx' : b[0]? = some x := hx
    have := hb x (List.mem_of_getElem? hx')
    refine ver_wp hb (fun y hy => ?_) (fun h => by rw [h] at hx'; simp at hx')
    rw [hx'] at hy
    cases hy
    rw [wrap_i64 (by omega) (by omega)]
    simpa using hQ
  refine preadAsk_wp hb (fun h1 => ?_) (fun h1 => ?_)
  · refine prreadAsk_wp hb (fun _ => ?_) (fun h => absurd h1 h)
    refine preadAns_wp hb (fun h2 => (pnot_both h1 h2).elim) (fun h2 => ?_)
    refine prreadAns_wp hb (fun h => absurd h h2) (fun _ => ?_)
    refine joinP0.i ⟨fun t => t = false, ?_, vers (Q := fun t => t = false) rfl⟩
    rintro t rfl
    refine cond_f rfl ?_
    refine cond_t (agT rfl rfl rfl rfl rfl rfl rfl rfl) (cond_t (by simp) (cond_t rfl (cond_t (agT rfl rfl rfl rfl rfl rfl rfl rfl) (cond_t rfl (same (cond_t rfl (cond_f rfl rfl)))))))
  · refine prreadAsk_wp hb (fun h => absurd h h1) (fun _ => ?_)
    refine preadAns_wp hb (fun h2 => ?_) (fun h2 => ?_)
    · refine prreadAns_wp hb (fun _ => ?_) (fun h => absurd h2 h)
      refine joinP0.i ⟨fun t => t = false, ?_, vers (Q := fun t => t = false) rfl⟩
      rintro t rfl
      refine cond_f rfl ?_
      refine cond_t (agT rfl rfl rfl rfl rfl rfl rfl rfl) (cond_t rfl (cond_t rfl (cond_t (agT rfl rfl rfl rfl rfl rfl rfl rfl) (cond_t rfl (same (cond_t rfl (cond_t rfl rfl)))))))
    · refine prreadAns_wp hb (fun h => absurd h h2) (fun _ => ?_)
      refine joinP0.i ⟨fun t => t = false, ?_, vers (Q := fun t => t = false) rfl⟩
      rintro t rfl
      refine cond_f rfl ?_
      refine cond_t (agT rfl rfl rfl rfl rfl rfl rfl rfl) (cond_t rfl (cond_t rfl (cond_t (agT rfl rfl rfl rfl rfl rfl rfl rfl) (cond_t rfl (same (cond_t rfl (cond_t rfl rfl)))))))

theorem u32b {h : Int} (hh : inK .u32 h) : 0 ≤ h ∧ h ≤ 4294967295 := by simp [inK, IntKind.min, IntKind.max, IntKind.signed, IntKind.bits] at hh; omega
theorem u64b {h : Int} (hh : inK .u64 h) : 0 ≤ h ∧ h ≤ 18446744073709551615 := by simp [inK, IntKind.min, IntKind.max, IntKind.signed, IntKind.bits] at hh; omega

theorem pcpTells_plain {v i p s n r e h c : Int} (_ : inK .i64 v) (_ : inK .i64 i) (_ : inK .i64 p) (_ : inK .i64 s) (hn : inK .u64 n) (_ : inK .i64 r) (_ : inK .i64 e) (hh : inK .u32 h) (hc : inK .u32 c) :
    embrasurelaw10_PcpTells_wp v i p s n r e h c (· = true) := by
  have hh := u32b hh
  have hc := u32b hc
  have hn := u64b hn
  unfold embrasurelaw10_PcpTells_wp
  refine awake_wp (cond_f rfl (pask_wp hh.1 hh.2 hc.1 hc.2 (pans_wp hh.1 hh.2 ⟨fun t => t = false, ?_, ?_⟩)))
  · rintro t rfl
    refine cond_f rfl ?_
    have la := @paskF_len v i p s n r e h c
    have lb := @pansF_len v i p s n r e h
    refine preadAsk_wp paskF_bytes (fun h1 => ?_) (fun h1 => ?_)
    · have hp := paskF_ne (by have h0 := h1.1; omega : (paskF v i p s n r e h c).length ≠ 0)
      obtain ⟨-, a1, a2, a3, a4, a5, a6⟩ := pask_read hn.1 hn.2 hh.1 hh.2 hc.1 hc.2 hp
      have hne : ¬ ((paskF v i p s n r e h c).length : Int) = 0 := by have h0 := h1.1; omega
      have z := hp.1
      unfold fitP at z
      have hv : (2 : Int) = v := z.1.symm
      have hr : (0 : Int) = r := hp.2.1.symm
      have he : (0 : Int) = e := hp.2.2.symm
      refine preadAns_wp pansF_bytes (fun h2 => ?_) (fun h2 => ?_)
      · have hq := pansF_ne (by have h0 := h2.1; omega : (pansF v i p s n r e h).length ≠ 0)
        obtain ⟨-, b1, b2, b3, b4, b5, b6, b7⟩ := pans_read hn.1 hn.2 hh.1 hh.2 hq
        refine cond_e (fun hz => absurd hz hne) (fun _ => ?_)
        refine cond_t rfl (cond_t (agT hv a1 a2 a3 a4 hr he a5) (cond_t (by rw [a6]; simp) (cond_e (fun _ => rfl) (fun _ => ?_))))
        exact cond_t rfl (agT hv b1 b2 b3 b4 b5 b6 b7)
      · refine cond_e (fun hz => absurd hz hne) (fun _ => ?_)
        refine cond_t rfl (cond_t (agT hv a1 a2 a3 a4 hr he a5) (cond_t (by rw [a6]; simp) (cond_e (fun _ => rfl) (fun hz2 => ?_))))
        exact absurd (pans_read hn.1 hn.2 hh.1 hh.2 (pansF_ne (by omega : (pansF v i p s n r e h).length ≠ 0))).1 h2
    · have hz0 : ¬ (paskF v i p s n r e h c).length ≠ 0 := fun hz => h1 (pask_read hn.1 hn.2 hh.1 hh.2 hc.1 hc.2 (paskF_ne hz)).1
      refine preadAns_wp pansF_bytes (fun h2 => ?_) (fun h2 => ?_)
      all_goals refine cond_e (fun _ => ?_) (fun hz => absurd (by omega) hz0)
      · refine cond_e (fun _ => rfl) (fun hz2 => ?_)
        have hq := pansF_ne (by omega : (pansF v i p s n r e h).length ≠ 0)
        obtain ⟨-, b1, b2, b3, b4, b5, b6, b7⟩ := pans_read hn.1 hn.2 hh.1 hh.2 hq
        have hv : (2 : Int) = v := by unfold fitP at hq; exact hq.1.symm
        exact cond_t rfl (agT hv b1 b2 b3 b4 b5 b6 b7)
      · refine cond_e (fun _ => rfl) (fun hz2 => ?_)
        exact absurd (pans_read hn.1 hn.2 hh.1 hh.2 (pansF_ne (by omega : (pansF v i p s n r e h).length ≠ 0))).1 h2
  · have la := @paskF_len v i p s n r e h c
    have lb := @pansF_len v i p s n r e h
    refine rask_wp hn.1 hn.2 hh.1 hh.2 hc.1 hc.2 (same_wp (by omega) (cond_f (by simp) ?_))
    refine rans_wp hn.1 hn.2 hh.1 hh.2 (same_wp (by omega) ?_)
    simp

theorem pask_inj {v i p s n r e h c v' i' p' s' n' r' e' h' c' : Int} (hn : 0 ≤ n ∧ n ≤ 18446744073709551615) (hh : 0 ≤ h ∧ h ≤ 4294967295) (hc : 0 ≤ c ∧ c ≤ 4294967295)
    (hn' : 0 ≤ n' ∧ n' ≤ 18446744073709551615) (hh' : 0 ≤ h' ∧ h' ≤ 4294967295) (hc' : 0 ≤ c' ∧ c' ≤ 4294967295) (hp : paskP v i p s r e) (hp' : paskP v' i' p' s' r' e')
    (he : paskF v i p s n r e h c = paskF v' i' p' s' n' r' e' h' c') : v = v' ∧ i = i' ∧ p = p' ∧ s = s' ∧ n = n' ∧ r = r' ∧ e = e' ∧ h = h' ∧ c = c' := by
  obtain ⟨-, a1, a2, a3, a4, a5, a6⟩ := pask_read hn.1 hn.2 hh.1 hh.2 hc.1 hc.2 hp
  obtain ⟨-, b1, b2, b3, b4, b5, b6⟩ := pask_read hn'.1 hn'.2 hh'.1 hh'.2 hc'.1 hc'.2 hp'
  rw [he] at a1 a2 a3 a4 a5 a6
  unfold paskP fitP at hp hp'
  exact ⟨by omega, a1.symm.trans b1, a2.symm.trans b2, a3.symm.trans b3, a4.symm.trans b4, by omega, by omega, a5.symm.trans b5, a6.symm.trans b6⟩

theorem pcpApart_plain {v i p s n r e h v' i' p' s' n' r' e' h' c c' : Int} (_ : inK .i64 v) (_ : inK .i64 i) (_ : inK .i64 p) (_ : inK .i64 s) (hn : inK .u64 n) (_ : inK .i64 r) (_ : inK .i64 e) (hh : inK .u32 h)
    (_ : inK .i64 v') (_ : inK .i64 i') (_ : inK .i64 p') (_ : inK .i64 s') (hn' : inK .u64 n') (_ : inK .i64 r') (_ : inK .i64 e') (hh' : inK .u32 h') (hc : inK .u32 c) (hc' : inK .u32 c') :
    embrasurelaw10_PcpApart_wp v i p s n r e h v' i' p' s' n' r' e' h' c c' (· = true) := by
  have hh := u32b hh
  have hc := u32b hc
  have hn := u64b hn
  have hh' := u32b hh'
  have hc' := u32b hc'
  have hn' := u64b hn'
  have la := @paskF_len v i p s n r e h c
  have la' := @paskF_len v' i' p' s' n' r' e' h' c'
  have lb := @pansF_len v i p s n r e h
  unfold embrasurelaw10_PcpApart_wp
  refine awake_wp (cond_f rfl (pask_wp hh.1 hh.2 hc.1 hc.2 (pask_wp hh'.1 hh'.2 hc'.1 hc'.2 (joinP0.i ⟨fun t => t = false, ?_, ?_⟩))))
  · rintro t rfl
    refine cond_f rfl (ask_wp ?_)
    have l1 := askF_len 0 i p s 0 0 0 0 false
    have l2 := ansF_len 0 i p s 0 0 0 0 false
    refine preadAsk_wp (askF_bytes _ _ _ _ _ _ _ _ _) (fun hq => absurd hq.1 (by omega)) (fun _ => ?_)
    refine answer_wp (by omega) (by omega) (preadAns_wp (ansF_bytes _ _ _ _ _ _ _ _ _) (fun hq => absurd hq.1 (by omega)) (fun _ => ?_))
    refine readAsk_wp paskF_bytes (fun hq => absurd hq.1 (by omega)) (fun _ => ?_)
    refine pans_wp hh.1 hh.2 (readAns_wp pansF_bytes (fun hq => absurd hq.1 (by omega)) (fun _ => ?_))
    exact cond_t rfl (cond_t rfl (cond_t rfl rfl))
  · refine cond_d (fun h1 => cond_d (fun h2 => ?_) (fun _ => rfl)) (fun _ => rfl)
    refine same_wp (by omega) ?_
    have hp := paskF_ne (by omega : (paskF v i p s n r e h c).length ≠ 0)
    have hp' := paskF_ne (by omega : (paskF v' i' p' s' n' r' e' h' c').length ≠ 0)
    refine cond_b (fun hq => ?_) (fun hq => ?_)
    · simp at hq
      obtain ⟨rfl, rfl, rfl, rfl, rfl, rfl, rfl, rfl⟩ := hq
      by_cases he : c = c'
      · subst he; simp
      · have hne : ¬ paskF v i p s n r e h c = paskF v i p s n r e h c' := fun hf => he (pask_inj hn hh hc hn' hh' hc' hp hp' hf).2.2.2.2.2.2.2.2
        rw [decide_eq_false hne]
        simp [he]
    · have hne : ¬ paskF v i p s n r e h c = paskF v' i' p' s' n' r' e' h' c' := fun hf => by
        have q := pask_inj hn hh hc hn' hh' hc' hp hp' hf
        rw [agT q.1 q.2.1 q.2.2.1 q.2.2.2.1 q.2.2.2.2.1 q.2.2.2.2.2.1 q.2.2.2.2.2.2.1 q.2.2.2.2.2.2.2.1] at hq
        cases hq
      rw [decide_eq_false hne]
      rfl

theorem xorv {w : Int} (h0 : 1 ≤ w) (h1 : w ≤ 200) : bitsV .xor .u8 2 w ≠ 2 ∧ 0 ≤ bitsV .xor .u8 2 w ∧ bitsV .xor .u8 2 w ≤ 255 := by
  have key : ∀ n : Fin 201, 0 < n.val → (bitsV .xor .u8 2 (n.val : Int) ≠ 2 ∧ 0 ≤ bitsV .xor .u8 2 (n.val : Int) ∧ bitsV .xor .u8 2 (n.val : Int) ≤ 255) := by decide +kernel
  obtain ⟨k, rfl⟩ : ∃ k : Nat, w = k := ⟨w.toNat, by omega⟩
  exact key ⟨k, by omega⟩ (by show 0 < k; omega)

theorem isBytes_set {xs : List Int} {k : Nat} {x : Int} (hb : isBytes xs) (h0 : 0 ≤ x) (h1 : x ≤ 255) : isBytes (xs.set k x) := by
  intro y hy
  rcases List.mem_or_eq_of_mem_set hy with h | h
  · exact hb y h
  · omega

theorem pcpCut_plain {v i p s n r e h c at_ : Int} (_ : inK .i64 v) (_ : inK .i64 i) (_ : inK .i64 p) (_ : inK .i64 s) (hn : inK .u64 n) (_ : inK .i64 r) (_ : inK .i64 e) (hh : inK .u32 h) (hc : inK .u32 c) (ha : inK .u8 at_) :
    embrasurelaw10_PcpCut_wp v i p s n r e h c at_ (· = true) := by
  have hh := u32b hh
  have hc := u32b hc
  have hn := u64b hn
  have ha : 0 ≤ at_ ∧ at_ ≤ 255 := by simp [inK, IntKind.min, IntKind.max, IntKind.signed, IntKind.bits] at ha; omega
  unfold embrasurelaw10_PcpCut_wp
  refine awake_wp (cond_f rfl (pask_wp hh.1 hh.2 hc.1 hc.2 (pans_wp hh.1 hh.2 ?_)))
  refine ⟨fun n t => 0 ≤ t ∧ t ≤ 2 ∧ n = 2 - t.toNat, ⟨_, by omega, by omega, rfl⟩, ?_⟩
  rintro m t ⟨h0, h1, rfl⟩
  refine cond_d (fun hlt => ⟨h0, hlt, fun x hx => ?_⟩) (fun _ => rfl)
  have fin : ∃ n, n < 2 - t.toNat ∧ 0 ≤ IntKind.wrap .i64 (t + 1) ∧ IntKind.wrap .i64 (t + 1) ≤ 2 ∧ n = 2 - (IntKind.wrap .i64 (t + 1)).toNat := by
    rw [wrap_i64 (by omega) (by omega)]
    exact ⟨_, by omega, by omega, by omega, rfl⟩
  refine cond_e (fun _ => fin) (fun hne => ?_)
  have hxx : isBytes x ∧ x.length = 60 ∧ x[0]? = some 2 := by
    have hm := List.mem_of_getElem? hx
    simp only [List.mem_cons, List.not_mem_nil, or_false] at hm
    rcases hm with rfl | rfl
    · have q := (pask_read hn.1 hn.2 hh.1 hh.2 hc.1 hc.2 (paskF_ne (by omega : (paskF v i p s n r e h c).length ≠ 0))).1
      exact ⟨paskF_bytes, q.1, (pask_head q).1⟩
    · have q := (pans_read hn.1 hn.2 hh.1 hh.2 (pansF_ne (by omega : (pansF v i p s n r e h).length ≠ 0))).1
      exact ⟨pansF_bytes, q.1, (pans_head q).1⟩
  obtain ⟨hb, hlen, hx0⟩ := hxx
  have hm0 : 0 ≤ Int.tmod (IntKind.wrap .i64 at_) 60 ∧ Int.tmod (IntKind.wrap .i64 at_) 60 < 60 := by
    rw [wrap_i64 (by omega) (by omega), tmod_pos ha.1]
    omega
  rw [List.nil_append]
  refine ⟨by simp; omega, by omega, by omega, fun y hy => ⟨by omega, by omega, joinP0.i ?_⟩⟩
  obtain rfl : y = 2 := by
    have : x[0]? = some y := hy
    rw [hx0] at this; exact (Option.some.inj this).symm
  rw [wrap_u8 (x := 1 + Int.tmod at_ 200) (by rw [tmod_pos ha.1]; omega) (by rw [tmod_pos ha.1]; omega)]
  have hw := xorv (w := 1 + Int.tmod at_ 200) (by rw [tmod_pos ha.1]; omega) (by rw [tmod_pos ha.1]; omega)
  generalize bitsV .xor .u8 2 (1 + Int.tmod at_ 200) = w at hw ⊢
  generalize Int.tmod (IntKind.wrap .i64 at_) 60 = q at hm0 ⊢
  rw [List.drop_zero]
  have hall : ∀ z ∈ [x.take q.toNat, x ++ [at_], x.set (Int.toNat 0) w], isBytes z ∧ ¬ praOK z ∧ ¬ panOK z := by
    intro z hz
    simp only [List.mem_cons, List.not_mem_nil, or_false] at hz
    rcases hz with rfl | rfl | rfl
    · have hcl : (x.take q.toNat).length = q.toNat := by rw [List.length_take]; omega
      exact ⟨isBytes_take _ hb, fun hr => absurd hr.1 (by omega), fun hr => absurd hr.1 (by omega)⟩
    · have hcl : (x ++ [at_]).length = 61 := by rw [List.length_append, hlen]; rfl
      exact ⟨isBytes_app.2 ⟨hb, isBytes_cons.2 ⟨ha, isBytes_nil⟩⟩, fun hr => absurd hr.1 (by omega), fun hr => absurd hr.1 (by omega)⟩
    · have v0 : (x.set (Int.toNat 0) w)[0]? = some w := by
        show (x.set 0 w)[0]? = some w
        rw [List.getElem?_set_self (by omega)]
      refine ⟨isBytes_set hb hw.2.1 hw.2.2, fun hr => ?_, fun hr => ?_⟩
      · have := (pask_head hr).1; rw [v0] at this; injection this with this; exact hw.1 this
      · have := (pans_head hr).1; rw [v0] at this; injection this with this; exact hw.1 this
  have fin2 : cond ((((x.length : Nat) : Int) : Int) != 60) (false = true) (pcp_Version_wp x (fun (r_1 : Int) => cond ((r_1 : Int) != 2) (false = true) (∃ n, n < 2 - t.toNat ∧ 0 ≤ IntKind.wrap .i64 (t + 1) ∧ IntKind.wrap .i64 (t + 1) ≤ 2 ∧ n = 2 - (IntKind.wrap .i64 (t + 1)).toNat))) := by
    refine cond_n (fun h => absurd (by omega) h) (fun _ => ver_wp hb (fun y hy => ?_) (fun h => by rw [h] at hlen; cases hlen))
    rw [hx0] at hy
    cases hy
    exact cond_f rfl fin
  have body : ∀ (G : Prop), G → ∃ (I : Nat → Int → Prop), (∃ (n : Nat), I n 0) ∧ ∀ (n : Nat) (t : Int), I n t → (cond (decide ((t : Int) < ((3 : Nat) : Int))) (0 ≤ (t : Int) ∧ (t : Int) < ((3 : Nat) : Int) ∧ (∀ (z : (List (Int))), [x.take q.toNat, x ++ [at_], x.set (Int.toNat 0) w][Int.toNat t]? = some z →
      (pcp_ReadAsk_wp z (fun (_ : Int) (_ : Int) (_ : Int) (_ : Int) (_ : Int) (_ : Int) (_ : Int) (_ : Int) (_ : Int) (r_11 : Int) => pcp_ReadAnswer_wp z (fun (_ : Int) (_ : Int) (_ : Int) (_ : Int) (_ : Int) (_ : Int) (_ : Int) (_ : Int) (r_20 : Int) => joinP1 (fun (t79 : Bool) => cond t79 (false = true) (∃ (n_7 : Nat), n_7 < n ∧ I n_7 (IntKind.wrap .i64 (t + 1)))) (fun (Q_1 : Bool → Prop) => cond ((r_11 : Int) != 3) (Q_1 true) (Q_1 ((r_20 : Int) != 3)))))))) G) := by
    intro G hG
    refine ⟨fun n t => 0 ≤ t ∧ t ≤ 3 ∧ n = 3 - t.toNat, ⟨_, by omega, by omega, rfl⟩, ?_⟩
    rintro m t ⟨h0, h1, rfl⟩
    refine cond_d (fun hlt => ⟨h0, hlt, fun z hz => ?_⟩) (fun _ => hG)
    obtain ⟨z1, z2, z3⟩ := hall z (List.mem_of_getElem? hz)
    refine preadAsk_wp z1 (fun hq => absurd hq z2) (fun _ => preadAns_wp z1 (fun hq => absurd hq z3) (fun _ => joinP1.i ?_))
    refine cond_f rfl (cond_f rfl ?_)
    rw [wrap_i64 (by omega) (by omega)]
    exact ⟨_, by omega, by omega, by omega, rfl⟩
  refine ⟨hm0.1, by omega, ⟨⟨by simp; omega, by simp; omega, body _ fin2⟩, ⟨by simp; omega, by simp; omega, body _ fin2⟩⟩, ⟨by simp; omega, by simp; omega, body _ fin2⟩⟩

end Go.Proofs.Ytdacemiaihidaaa
