/- The plain side: the statements on pmp. -/
import Derived.Test.YtlmkgmgbgjlmcaaM
import Derived.Test.YtlmkgmgbgjlmcaaEngR
namespace Go.Proofs.Ytlmkgmgbgjlmcaa
open Go Go.Eng

theorem big2 (i : Int) : bigF i 2 = [i / 256 % 256, i % 256] := rfl
theorem big4' (i : Int) : bigF i 4 = [i / 256 / 256 / 256 % 256, i / 256 / 256 % 256, i / 256 % 256, i % 256] := rfl

theorem askF_bytes (v i p s n r e h : Int) (host : Bool) : isBytes (askF v i p s n r e h host) := by
  unfold askF
  split
  · split
    · unfold isBytes; decide
    · simp only [isBytes_app]
      exact ⟨⟨⟨by unfold isBytes; decide, bigF_bytes _ _⟩, bigF_bytes _ _⟩, bigF_bytes _ _⟩
  · exact isBytes_nil
theorem ansF_bytes (v i p s n r e h : Int) (host : Bool) : isBytes (ansF v i p s n r e h host) := by
  unfold ansF
  split
  · split
    · simp only [isBytes_app]
      exact ⟨⟨⟨by unfold isBytes; decide, bigF_bytes _ _⟩, bigF_bytes _ _⟩, bigF_bytes _ _⟩
    · simp only [isBytes_app]
      exact ⟨⟨⟨⟨⟨by unfold isBytes; decide, bigF_bytes _ _⟩, bigF_bytes _ _⟩, bigF_bytes _ _⟩, bigF_bytes _ _⟩, bigF_bytes _ _⟩
  · exact isBytes_nil

theorem ask_read {v i p s n r e h : Int} {host : Bool} (hp : askP v i p s n r e h host) :
    raOK (askF v i p s n r e h host) ∧ rI (askF v i p s n r e h host) = i ∧ rP (askF v i p s n r e h host) = p ∧ rS (askF v i p s n r e h host) = s ∧ decide ((askF v i p s n r e h host).length = 2) = host := by
  have hp' := hp
  obtain ⟨hf, ⟨rfl, rfl, rfl, rfl, rfl⟩, hh⟩ := hp'
  cases host with
  | true =>
    obtain ⟨rfl, rfl, rfl⟩ := hh rfl
    have e : askF 0 0 0 0 0 0 0 0 true = [0, 0] := by decide
    rw [e]
    refine ⟨⟨by decide, ?_⟩, by decide, by decide, by decide, by decide⟩
    exact e
  | false =>
    have e : askF 0 i p s 0 0 0 0 false = [0, 1, 0, 0] ++ bigF i 2 ++ bigF p 2 ++ bigF s 4 := by
      unfold askF; rw [if_pos hp]; rfl
    have hl : (askF 0 i p s 0 0 0 0 false).length = 12 := by rw [e]; simp [bigF_len]
    unfold fitsP at hf
    have h1 : rI (askF 0 i p s 0 0 0 0 false) = i := by
      unfold rI; rw [if_pos hl, e]
      show num (bigF i 2) = i
      exact num_bigF_lt (by omega) (by simp; omega)
    have h2 : rP (askF 0 i p s 0 0 0 0 false) = p := by
      unfold rP; rw [if_pos hl, e]
      show num (bigF p 2) = p
      exact num_bigF_lt (by omega) (by simp; omega)
    have h3 : rS (askF 0 i p s 0 0 0 0 false) = s := by
      unfold rS; rw [if_pos hl, e]
      show num (bigF s 4) = s
      exact num_bigF_lt (by omega) (by simp; omega)
    have h4 : decide ((askF 0 i p s 0 0 0 0 false).length = 2) = false := by rw [hl]; rfl
    refine ⟨⟨.inr hl, ?_⟩, h1, h2, h3, h4⟩
    rw [h1, h2, h3, h4]

theorem ans_read {v i p s n r e h : Int} {host : Bool} (h0 : 0 ≤ h) (h1 : h ≤ 4294967295) (hp : ansP v i p s n r e h host) :
    let b := ansF v i p s n r e h host
    anOK b ∧ aI b = i ∧ aP b = p ∧ aS b = s ∧ aR b = r ∧ aE b = e ∧ aH b = h ∧ decide (b.length = 12) = host := by
  have hp' := hp
  obtain ⟨hf, ⟨rfl, rfl⟩, hh, hz⟩ := hp'
  unfold fitsP at hf
  intro b
  cases host with
  | true =>
    obtain ⟨rfl, rfl, rfl⟩ := hh rfl
    have eb : b = [0, 128] ++ bigF r 2 ++ bigF e 4 ++ bigF h 4 := by
      show ansF _ _ _ _ _ _ _ _ _ = _
      unfold ansF; rw [if_pos hp]; rfl
    have hl : b.length = 12 := by rw [eb]; simp [bigF_len]
    have q1 : aI b = 0 := by unfold aI; rw [if_pos hl]
    have q2 : aP b = 0 := by unfold aP; rw [if_pos hl]
    have q3 : aS b = 0 := by unfold aS; rw [if_pos hl]
    have q4 : aR b = r := by
      unfold aR; rw [eb]
      show num (bigF r 2) = r
      exact num_bigF_lt (by omega) (by simp; omega)
    have q5 : aE b = e := by
      unfold aE; rw [eb]
      show num (bigF e 4) = e
      exact num_bigF_lt (by omega) (by simp; omega)
    have q6 : aH b = h := by
      unfold aH; rw [if_pos hl, eb]
      show num (bigF h 4) = h
      exact num_bigF_lt (by omega) (by simp; omega)
    have q7 : decide (b.length = 12) = true := by rw [hl]; rfl
    refine ⟨⟨.inl hl, ?_⟩, q1, q2, q3, q4, q5, q6, q7⟩
    rw [q1, q2, q3, q4, q5, q6, q7]
  | false =>
    obtain rfl := hz rfl
    have eb : b = [0, 129] ++ bigF r 2 ++ bigF e 4 ++ bigF i 2 ++ bigF p 2 ++ bigF s 4 := by
      show ansF _ _ _ _ _ _ _ _ _ = _
      unfold ansF; rw [if_pos hp]; rfl
    have hl : b.length = 16 := by rw [eb]; simp [bigF_len]
    have hl' : ¬ b.length = 12 := by omega
    have q1 : aI b = i := by
      unfold aI; rw [if_neg hl', eb]
      show num (bigF i 2) = i
      exact num_bigF_lt (by omega) (by simp; omega)
    have q2 : aP b = p := by
      unfold aP; rw [if_neg hl', eb]
      show num (bigF p 2) = p
      exact num_bigF_lt (by omega) (by simp; omega)
    have q3 : aS b = s := by
      unfold aS; rw [if_neg hl', eb]
      show num (bigF s 4) = s
      exact num_bigF_lt (by omega) (by simp; omega)
    have q4 : aR b = r := by
      unfold aR; rw [eb]
      show num (bigF r 2) = r
      exact num_bigF_lt (by omega) (by simp; omega)
    have q5 : aE b = e := by
      unfold aE; rw [eb]
      show num (bigF e 4) = e
      exact num_bigF_lt (by omega) (by simp; omega)
    have q6 : aH b = 0 := by unfold aH; rw [if_neg hl']
    have q7 : decide (b.length = 12) = false := by rw [hl]; rfl
    refine ⟨⟨.inr hl, ?_⟩, q1, q2, q3, q4, q5, q6, q7⟩
    rw [q1, q2, q3, q4, q5, q6, q7]

theorem ask_head {b : List Int} (h : raOK b) : b[0]? = some 0 ∧ (b.length = 12 → b[1]? = some 1) := by
  obtain ⟨hl, h⟩ := h
  unfold askF at h
  split at h
  · split at h
    · rename_i h2
      rw [← h]
      exact ⟨rfl, fun h => by cases h⟩
    · rw [← h]
      exact ⟨rfl, fun _ => rfl⟩
  · rw [← h] at hl; simp at hl

theorem ans_head {b : List Int} (h : anOK b) : b[0]? = some 0 ∧ (b.length = 12 → b[1]? = some 128) ∧ (b.length = 16 → b[1]? = some 129) := by
  obtain ⟨hl, h⟩ := h
  unfold ansF at h
  split at h
  · split at h
    · rename_i h2
      rw [← h]
      refine ⟨rfl, fun _ => rfl, fun h => ?_⟩
      simp [bigF_len] at h
    · rw [← h]
      refine ⟨rfl, fun h => ?_, fun _ => rfl⟩
      simp [bigF_len] at h
  · rw [← h] at hl; simp at hl

theorem not_both {b : List Int} (h1 : raOK b) (h2 : anOK b) : False := by
  have h3 := ask_head h1
  have h4 := ans_head h2
  rcases h1.1 with e | e
  · rcases h2.1 with f | f <;> omega
  · have := h3.2 e
    rw [h4.2.1 e] at this
    cases this

theorem awake_wp {K : Bool → Prop} (hK : K true) : embrasurelaw09_awake_wp K := by
  unfold embrasurelaw09_awake_wp
  refine ask_wp ?_
  have e : askF 0 5 7 60 0 0 0 0 false = [0, 1, 0, 0, 0, 5, 0, 7, 0, 0, 0, 60] := by decide
  have hr := ask_read (v := 0) (i := 5) (p := 7) (s := 60) (n := 0) (r := 0) (e := 0) (h := 0) (host := false) (by decide)
  have hb := askF_bytes 0 5 7 60 0 0 0 0 false
  rw [e] at hr hb ⊢
  refine readAsk_wp hb (fun h1 => ?_) (fun h1 => absurd hr.1 h1)
  refine readAns_wp hb (fun h2 => (not_both h1 h2).elim) (fun _ => ?_)
  refine cond_t (by decide) ⟨by decide, by decide, fun x hx => ?_⟩
  obtain rfl : x = 1 := by simpa using hx.symm
  refine cond_t (by decide) ⟨by decide, by decide, fun x hx => ?_⟩
  obtain rfl : x = 60 := by simpa using hx.symm
  refine cond_t (by decide) (cond_t (by decide) (cond_t (by decide) (cond_t (by rw [hr.2.2.1]; decide) (cond_t (by decide) ?_))))
  refine answer_wp (by omega) (by omega) ?_
  have e2 : ((ansF 0 0 0 0 0 0 0 9 true).length : Int) = 12 := by decide
  rw [show ((((ansF 0 0 0 0 0 0 0 9 true).length : Nat) : Int) == 12) = true by rw [e2]; rfl]
  exact hK

theorem pmpReads_plain {b : List Int} (hb : ∀ x ∈ b, inK .u8 x) (hl : b.length ≤ 9223372036854775807) : embrasurelaw09_PmpReads_wp b (· = true) := by
  have hb : isBytes b := fun x hx => by have := hb x hx; simp [inK, IntKind.min, IntKind.max, IntKind.signed, IntKind.bits] at this; omega
  unfold embrasurelaw09_PmpReads_wp
  refine awake_wp (cond_f rfl (cond_d (fun _ => rfl) (fun hlen => ⟨by simp; omega, ?_⟩)))
  rw [List.nil_append]
  have same : ∀ (P : Prop), (∀ {K : Bool → Prop}, K true → embrasureref01_Same_wp b b K) := fun _ K h => same_wp (by omega) (by simpa using h)
  have ag : ∀ {i p s n r e h : Int}, (((0 : Int) == 0) && ((i == i) && ((p == p) && ((s == s) && ((n == n) && ((r == r) && ((e == e) && ((h == h) && true)))))))) = true := by intros; simp
  refine readAsk_wp hb (fun h1 => ?_) (fun h1 => ?_)
  · refine rreadAsk_wp hb (fun _ => ?_) (fun h => absurd h1 h)
    refine readAns_wp hb (fun h2 => (not_both h1 h2).elim) (fun h2 => ?_)
    refine rreadAns_wp hb (fun h => absurd h h2) (fun _ => ?_)
    refine cond_t ag (cond_t (by simp) (cond_t rfl (cond_t ag (cond_t rfl (cond_t rfl ?_)))))
    refine same True ?_
    exact cond_t rfl (cond_f rfl rfl)
  · refine rreadAsk_wp hb (fun h => absurd h h1) (fun _ => ?_)
    have fin : embrasureref01_Same_wp b b (fun r => cond r (cond ((3 : Int) != 0) (true = true) (false = true)) (false = true)) := same True (cond_t rfl (cond_t rfl rfl))
    refine readAns_wp hb (fun h2 => ?_) (fun h2 => ?_)
    · refine rreadAns_wp hb (fun _ => ?_) (fun h => absurd h2 h)
      refine cond_t ag (cond_t rfl (cond_t rfl (cond_t ag (cond_t (by simp) (cond_t rfl ?_)))))
      exact same True (cond_t rfl (cond_t rfl rfl))
    · refine rreadAns_wp hb (fun h => absurd h h2) (fun _ => ?_)
      refine cond_t ag (cond_t rfl (cond_t rfl (cond_t ag (cond_t rfl (cond_t rfl ?_)))))
      exact same True (cond_t rfl (cond_t rfl rfl))

theorem askF_ne {v i p s n r e h : Int} {host : Bool} (hl : (askF v i p s n r e h host).length ≠ 0) : askP v i p s n r e h host := by
  unfold askF at hl
  by_cases hp : askP v i p s n r e h host
  · exact hp
  · rw [if_neg hp] at hl; exact absurd rfl hl
theorem ansF_ne {v i p s n r e h : Int} {host : Bool} (hl : (ansF v i p s n r e h host).length ≠ 0) : ansP v i p s n r e h host := by
  unfold ansF at hl
  by_cases hp : ansP v i p s n r e h host
  · exact hp
  · rw [if_neg hp] at hl; exact absurd rfl hl

theorem agT {v i p s n r e h v' i' p' s' n' r' e' h' : Int} (a : v = v') (b : i = i') (c : p = p') (d : s = s') (f : n = n') (g : r = r') (k : e = e') (l : h = h') :
    (((v : Int) == v') && (((i : Int) == i') && (((p : Int) == p') && (((s : Int) == s') && (((n : Int) == n') && (((r : Int) == r') && (((e : Int) == e') && (((h : Int) == h') && true)))))))) = true := by
  subst a b c d f g k l; simp

theorem pmpTells_plain {v i p s n r e h : Int} {host : Bool} (_ : inK .i64 v) (_ : inK .i64 i) (_ : inK .i64 p) (_ : inK .i64 s) (_ : inK .u64 n) (_ : inK .i64 r) (_ : inK .i64 e) (hh : inK .u32 h) :
    embrasurelaw09_PmpTells_wp v i p s n r e h host (· = true) := by
  have hh : 0 ≤ h ∧ h ≤ 4294967295 := by simp [inK, IntKind.min, IntKind.max, IntKind.signed, IntKind.bits] at hh; omega
  unfold embrasurelaw09_PmpTells_wp
  refine awake_wp (cond_f rfl (ask_wp (answer_wp hh.1 hh.2 ⟨fun t => t = false, ?_, ?_⟩)))
  · rintro t rfl
    refine cond_f rfl ?_
    refine readAsk_wp (askF_bytes _ _ _ _ _ _ _ _ _) (fun h1 => ?_) (fun h1 => ?_)
    · have hp := askF_ne (by have h0 := h1.1; omega : (askF v i p s n r e h host).length ≠ 0)
      obtain ⟨-, a1, a2, a3, a4⟩ := ask_read hp
      have z := hp.2.1
      have hne : ¬ ((askF v i p s n r e h host).length : Int) = 0 := by have h0 := h1.1; omega
      refine readAns_wp (ansF_bytes _ _ _ _ _ _ _ _ _) (fun h2 => ?_) (fun h2 => ?_)
      · have hq := ansF_ne (by have h0 := h2.1; omega : (ansF v i p s n r e h host).length ≠ 0)
        obtain ⟨-, b1, b2, b3, b4, b5, b6, b7⟩ := ans_read hh.1 hh.2 hq
        refine cond_e (fun hz => absurd hz hne) (fun _ => ?_)
        refine cond_t rfl (cond_t (agT z.1.symm a1 a2 a3 z.2.1.symm z.2.2.1.symm z.2.2.2.1.symm z.2.2.2.2.symm) (cond_t (by rw [a4]; simp) (cond_e (fun _ => rfl) (fun _ => ?_))))
        refine cond_t rfl (cond_t (agT z.1.symm b1 b2 b3 z.2.1.symm b4 b5 b6) ?_)
        rw [b7]; simp
      · refine cond_e (fun hz => absurd hz hne) (fun _ => ?_)
        refine cond_t rfl (cond_t (agT z.1.symm a1 a2 a3 z.2.1.symm z.2.2.1.symm z.2.2.2.1.symm z.2.2.2.2.symm) (cond_t (by rw [a4]; simp) (cond_e (fun _ => rfl) (fun hz2 => ?_))))
        exact absurd (ans_read hh.1 hh.2 (ansF_ne (by omega : (ansF v i p s n r e h host).length ≠ 0))).1 h2
    · refine readAns_wp (ansF_bytes _ _ _ _ _ _ _ _ _) (fun h2 => ?_) (fun h2 => ?_)
      all_goals refine cond_e (fun hz => ?_) (fun hz => absurd (ask_read (askF_ne (by omega : (askF v i p s n r e h host).length ≠ 0))).1 h1)
      · refine cond_e (fun _ => rfl) (fun hz2 => ?_)
        have hq := ansF_ne (by omega : (ansF v i p s n r e h host).length ≠ 0)
        obtain ⟨-, b1, b2, b3, b4, b5, b6, b7⟩ := ans_read hh.1 hh.2 hq
        have z := hq.2.1
        refine cond_t rfl (cond_t (agT z.1.symm b1 b2 b3 z.2.symm b4 b5 b6) ?_)
        rw [b7]; simp
      · refine cond_e (fun _ => rfl) (fun hz2 => ?_)
        exact absurd (ans_read hh.1 hh.2 (ansF_ne (by omega : (ansF v i p s n r e h host).length ≠ 0))).1 h2
  · refine rask_wp (same_wp (Nat.le_trans (askF_len _ _ _ _ _ _ _ _ _) (by omega)) (cond_f (by simp) ?_))
    refine ranswer_wp hh.1 hh.2 (same_wp (Nat.le_trans (ansF_len _ _ _ _ _ _ _ _ _) (by omega)) ?_)
    simp

theorem ans_ask {v i p s n r e h : Int} {host : Bool} (h1 : raOK (ansF v i p s n r e h host)) (h0 : 0 ≤ h) (h2 : h ≤ 4294967295) : False :=
  not_both h1 (ans_read h0 h2 (ansF_ne (by have h0 := h1.1; omega : (ansF v i p s n r e h host).length ≠ 0))).1
theorem ask_ans {v i p s n r e h : Int} {host : Bool} (h1 : anOK (askF v i p s n r e h host)) : False :=
  not_both (ask_read (askF_ne (by have h0 := h1.1; omega : (askF v i p s n r e h host).length ≠ 0))).1 h1

theorem ask_inj {v i p s n r e h v' i' p' s' n' r' e' h' : Int} {host host' : Bool} (hp : askP v i p s n r e h host) (hp' : askP v' i' p' s' n' r' e' h' host')
    (he : askF v i p s n r e h host = askF v' i' p' s' n' r' e' h' host') : v = v' ∧ i = i' ∧ p = p' ∧ s = s' ∧ n = n' ∧ r = r' ∧ e = e' ∧ h = h' ∧ host = host' := by
  have a := ask_read hp
  have b := ask_read hp'
  rw [he] at a
  have z := hp.2.1
  have z' := hp'.2.1
  refine ⟨by omega, by rw [← a.2.1, b.2.1], by rw [← a.2.2.1, b.2.2.1], by rw [← a.2.2.2.1, b.2.2.2.1], by omega, by omega, by omega, by omega, by rw [← a.2.2.2.2, b.2.2.2.2]⟩

theorem pmpApart_plain {v i p s n r e h v' i' p' s' n' r' e' h' : Int} {host host' : Bool} (_ : inK .i64 v) (_ : inK .i64 i) (_ : inK .i64 p) (_ : inK .i64 s) (_ : inK .u64 n) (_ : inK .i64 r) (_ : inK .i64 e) (hh : inK .u32 h)
    (_ : inK .i64 v') (_ : inK .i64 i') (_ : inK .i64 p') (_ : inK .i64 s') (_ : inK .u64 n') (_ : inK .i64 r') (_ : inK .i64 e') (_ : inK .u32 h') :
    embrasurelaw09_PmpApart_wp v i p s n r e h v' i' p' s' n' r' e' h' host host' (· = true) := by
  have hh : 0 ≤ h ∧ h ≤ 4294967295 := by simp [inK, IntKind.min, IntKind.max, IntKind.signed, IntKind.bits] at hh; omega
  unfold embrasurelaw09_PmpApart_wp
  refine awake_wp (cond_f rfl (ask_wp (ask_wp (joinP0.i ⟨fun t => t = false, ?_, ?_⟩))))
  · rintro t rfl
    refine cond_f rfl ?_
    refine readAns_wp (askF_bytes _ _ _ _ _ _ _ _ _) (fun h1 => (ask_ans h1).elim) (fun _ => ?_)
    refine answer_wp hh.1 hh.2 (readAsk_wp (ansF_bytes _ _ _ _ _ _ _ _ _) (fun h1 => (ans_ask h1 hh.1 hh.2).elim) (fun _ => ?_))
    exact cond_t rfl rfl
  · refine cond_d (fun h1 => cond_d (fun h2 => ?_) (fun _ => rfl)) (fun _ => rfl)
    refine same_wp (Nat.le_trans (askF_len _ _ _ _ _ _ _ _ _) (by omega)) ?_
    have hp := askF_ne (by omega : (askF v i p s n r e h host).length ≠ 0)
    have hp' := askF_ne (by omega : (askF v' i' p' s' n' r' e' h' host').length ≠ 0)
    refine cond_b (fun hq => ?_) (fun hq => ?_)
    · simp at hq
      obtain ⟨rfl, rfl, rfl, rfl, rfl, rfl, rfl, rfl⟩ := hq
      by_cases he : host = host'
      · subst he; simp
      · have hn : ¬ askF v i p s n r e h host = askF v i p s n r e h host' := fun hf => he (ask_inj hp hp' hf).2.2.2.2.2.2.2.2
        rw [decide_eq_false hn]
        simp [he]
    · have hn : ¬ askF v i p s n r e h host = askF v' i' p' s' n' r' e' h' host' := fun hf => by
        have q := ask_inj hp hp' hf
        rw [agT q.1 q.2.1 q.2.2.1 q.2.2.2.1 q.2.2.2.2.1 q.2.2.2.2.2.1 q.2.2.2.2.2.2.1 q.2.2.2.2.2.2.2.1] at hq
        cases hq
      rw [decide_eq_false hn]
      rfl

theorem isBytes_set {xs : List Int} {k : Nat} {x : Int} (hb : isBytes xs) (h0 : 0 ≤ x) (h1 : x ≤ 255) : isBytes (xs.set k x) := by
  intro y hy
  rcases List.mem_or_eq_of_mem_set hy with h | h
  · exact hb y h
  · omega

theorem pmpCut_plain {v i p s n r e h : Int} {host : Bool} {at_ : Int} (_ : inK .i64 v) (_ : inK .i64 i) (_ : inK .i64 p) (_ : inK .i64 s) (_ : inK .u64 n) (_ : inK .i64 r) (_ : inK .i64 e) (hh : inK .u32 h) (ha : inK .u8 at_) :
    embrasurelaw09_PmpCut_wp v i p s n r e h host at_ (· = true) := by
  have hh : 0 ≤ h ∧ h ≤ 4294967295 := by simp [inK, IntKind.min, IntKind.max, IntKind.signed, IntKind.bits] at hh; omega
  have ha : 0 ≤ at_ ∧ at_ ≤ 255 := by simp [inK, IntKind.min, IntKind.max, IntKind.signed, IntKind.bits] at ha; omega
  unfold embrasurelaw09_PmpCut_wp
  refine awake_wp (cond_f rfl (ask_wp (answer_wp hh.1 hh.2 (joinP0.i ?_))))
  refine ⟨fun n t => 0 ≤ t ∧ t ≤ 2 ∧ n = 2 - t.toNat, ⟨_, by omega, by omega, rfl⟩, ?_⟩
  rintro m t ⟨h0, h1, rfl⟩
  refine cond_d (fun hlt => ⟨h0, hlt, fun x hx => ?_⟩) (fun _ => ?_)
  rotate_left
  · exact ask_wp (same_wp (Nat.le_trans (askF_len _ _ _ _ _ _ _ _ _) (by omega)) (by simp))
  have fin : ∃ n, n < 2 - t.toNat ∧ 0 ≤ IntKind.wrap .i64 (t + 1) ∧ IntKind.wrap .i64 (t + 1) ≤ 2 ∧ n = 2 - (IntKind.wrap .i64 (t + 1)).toNat := by
    rw [wrap_i64 (by omega) (by omega)]
    exact ⟨_, by omega, by omega, by omega, rfl⟩
  refine cond_e (fun _ => fin) (fun hne => ?_)
  have hxx : isBytes x ∧ (raOK x ∨ anOK x) := by
    have hm := List.mem_of_getElem? hx
    simp only [List.mem_cons, List.not_mem_nil, or_false] at hm
    rcases hm with rfl | rfl
    · exact ⟨askF_bytes _ _ _ _ _ _ _ _ _, .inl (ask_read (askF_ne (by omega))).1⟩
    · exact ⟨ansF_bytes _ _ _ _ _ _ _ _ _, .inr (ans_read hh.1 hh.2 (ansF_ne (by omega))).1⟩
  obtain ⟨hb, hx3⟩ := hxx
  have hlen : x.length = 2 ∨ x.length = 12 ∨ x.length = 16 := by
    rcases hx3 with q | q
    · rcases q.1 with a | a <;> omega
    · rcases q.1 with a | a <;> omega
  have hm0 : 0 ≤ Int.tmod (IntKind.wrap .i64 at_) ((x.length : Nat) : Int) ∧ Int.tmod (IntKind.wrap .i64 at_) ((x.length : Nat) : Int) < ((x.length : Nat) : Int) := by
    rw [wrap_i64 (by omega) (by omega), tmod_pos ha.1]
    exact ⟨Int.emod_nonneg _ (by omega), Int.emod_lt_of_pos _ (by omega)⟩
  refine ⟨by omega, hm0.1, by omega, by simp; omega, by simp; omega, by simp; omega, by omega, by simp; omega, ?_⟩
  generalize (Int.tmod (IntKind.wrap .i64 at_) ((x.length : Nat) : Int)) = q at hm0 ⊢
  rw [List.nil_append, List.drop_zero, wrap_u8 (x := 1 + Int.tmod at_ 200) (by rw [tmod_pos ha.1]; omega) (by rw [tmod_pos ha.1]; omega)]
  have hw : 1 ≤ 1 + Int.tmod at_ 200 ∧ 1 + Int.tmod at_ 200 ≤ 255 := by rw [tmod_pos ha.1]; omega
  generalize (1 + Int.tmod at_ 200) = w at hw ⊢
  have hcl : (x.take q.toNat).length = q.toNat := by rw [List.length_take]; omega
  have hcb : isBytes (x.take q.toNat) := isBytes_take _ hb
  have hdb : isBytes (x ++ [at_]) := isBytes_app.2 ⟨hb, isBytes_cons.2 ⟨ha, isBytes_nil⟩⟩
  have hvb : isBytes (x.set (Int.toNat 0) w) := isBytes_set hb (by omega) (by omega)
  have c1 : raOK (x.take q.toNat) → (x.take q.toNat).length = 2 := fun hr => by
    rcases hr.1 with a | a
    · exact a
    · have g := (ask_head hr).2 a
      rcases hx3 with z | z
      · rcases z.1 with y | y <;> omega
      · have h16 : x.length = 16 := by rcases z.1 with y | y <;> omega
        have g2 := (ans_head z).2.2 h16
        rw [List.getElem?_take, if_pos (by omega), g2] at g
        cases g
  have c2 : anOK (x.take q.toNat) → (x.take q.toNat).length = 12 := fun hr => by
    rcases hr.1 with a | a
    · exact a
    · omega
  have d1 : ¬ raOK (x ++ [at_]) := fun hr => by
    have := hr.1; rw [List.length_append, List.length_singleton] at this; omega
  have d2 : ¬ anOK (x ++ [at_]) := fun hr => by
    have := hr.1; rw [List.length_append, List.length_singleton] at this; omega
  have v0 : (x.set (Int.toNat 0) w)[0]? = some w := by
    show (x.set 0 w)[0]? = some w
    rw [List.getElem?_set_self (by omega)]
  have v1 : ¬ raOK (x.set (Int.toNat 0) w) := fun hr => by
    have := (ask_head hr).1; rw [v0] at this; injection this with this; omega
  have v2 : ¬ anOK (x.set (Int.toNat 0) w) := fun hr => by
    have := (ans_head hr).1; rw [v0] at this; injection this with this; omega
  refine readAsk_wp hcb (fun a1 => ?_) (fun a1 => ?_)
  all_goals refine readAsk_wp hdb (fun a2 => absurd a2 d1) (fun _ => readAsk_wp hvb (fun a3 => absurd a3 v1) (fun _ => ?_))
  all_goals refine readAns_wp hcb (fun a4 => ?_) (fun a4 => ?_)
  all_goals refine readAns_wp hdb (fun a5 => absurd a5 d2) (fun _ => readAns_wp hvb (fun a6 => absurd a6 v2) (fun _ => joinP1.i ?_))
  · exact cond_t rfl (cond_f (by rw [c1 a1]; rfl) (cond_f rfl (cond_f rfl (cond_t rfl (cond_f (by rw [c2 a4]; rfl) (cond_f rfl (cond_f rfl fin)))))))
  · exact cond_t rfl (cond_f (by rw [c1 a1]; rfl) (cond_f rfl (cond_f rfl (cond_f rfl (cond_f rfl (cond_f rfl fin))))))
  · exact cond_f rfl (cond_f rfl (cond_f rfl (cond_t rfl (cond_f (by rw [c2 a4]; rfl) (cond_f rfl (cond_f rfl fin))))))
  · exact cond_f rfl (cond_f rfl (cond_f rfl (cond_f rfl (cond_f rfl (cond_f rfl fin)))))

end Go.Proofs.Ytlmkgmgbgjlmcaa
