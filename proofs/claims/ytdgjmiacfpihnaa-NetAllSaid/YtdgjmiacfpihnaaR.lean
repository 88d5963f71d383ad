/- The plain side of the statements on datagrams on their way: the reference; NetPlays, NetAll. -/
import Derived.Test.YtdgjmiacfpihnaaQ
namespace Go.Proofs.Ytdgjmiacfpihnaa
open Go Go.Eng
set_option maxRecDepth 20000

theorem rmay_wp {h p : Int} {K : Bool → Prop} (h0 : 0 ≤ h) (hK : K (decide (mayA h p))) : embrasureref03_May_wp h p K := by
  unfold embrasureref03_May_wp
  refine cond_d (fun a => cond_d (fun b => ?_) (fun b => ?_)) (fun a => ?_)
  all_goals refine dec_key hK _ ?_
  all_goals unfold mayA
  all_goals simp only [decide_eq_true_eq, Bool.false_eq_true]
  all_goals constructor <;> intro hh <;> first | omega | exact hh.elim

theorem rfind_wp {L : List Sn} {last no : Int} {K : Int → Prop} (hl : L.length ≤ 300) (h0 : (∀ x ∈ L, x.1 ≠ no) → K (-1)) (h1 : ∀ (i : Nat) (x : Sn), L[i]? = some x → x.1 = no → K i) : embrasureref13_Net_find_wp L last no K := by
  unfold embrasureref13_Net_find_wp
  refine ⟨fun n i => 0 ≤ i ∧ i ≤ L.length ∧ n = L.length - i.toNat ∧ ∀ x ∈ L.take i.toNat, x.1 ≠ no, ⟨_, by omega, by omega, rfl, by simp⟩, ?_⟩
  rintro n i ⟨i0, i1, rfl, hn⟩
  refine cond_d (fun hlt => ⟨i0, hlt, fun x hx => cond_e (fun e => ?_) (fun e => ?_)⟩) (fun hge => h0 (by rw [take_all hge i1] at hn; exact hn))
  · have := h1 i.toNat x hx e
    rw [show ((i.toNat : Nat) : Int) = i by omega] at this
    exact this
  · rw [wrap_i64 (by omega) (by omega)]
    refine ⟨L.length - (i + 1).toNat, by omega, by omega, by omega, rfl, ?_⟩
    rw [take_snoc i0 hx]
    intro y hy
    rcases List.mem_append.1 hy with hy | hy
    · exact hn y hy
    · simp only [List.mem_cons, List.not_mem_nil, or_false] at hy
      subst hy; exact e

theorem rput_wp {L : List Sn} {last no f fp t tp : Int} {b : List Int} {m : Pool} {K : Int → Int → List Sn → Int → Pool → Prop} (hl : L.length ≤ 300) (h0 : 0 ≤ last) (h1 : last ≤ 1000000)
    (hfull : L.length ≥ 300 → K 0 10 L last m) (hb : L.length < 300 → b.length ≤ 1000000) (hok : L.length < 300 → ∀ hd : Option Addr × Nat × Nat, hd.2.1 = b.length → K (last + 1) 0 (L ++ [(last + 1, f, fp, t, tp, hd)]) (last + 1) (m ++ [(hd, b)])) :
    embrasureref13_Net_put_wp L last no f fp t tp b m K := by
  unfold embrasureref13_Net_put_wp
  refine cond_d (fun h => hfull (by omega)) (fun h => ?_)
  rw [wrap_i64 (by omega) (by omega)]
  have hb := hb (by omega)
  have hok := hok (by omega)
  rw [List.nil_append]
  exact ⟨by simp only [List.length_nil]; omega, fun hd hh => ⟨by simp only [List.length_cons, List.length_nil]; omega, hok hd hh⟩⟩

theorem rsend_wp {L : List Sn} {last f fp t tp : Int} {b : List Int} {m : Pool} {K : Int → Int → List Sn → Int → Pool → Prop} (hf : 0 ≤ f) (ht : 0 ≤ t) (hl : L.length ≤ 300) (h0 : 0 ≤ last) (h1 : last ≤ 1000000)
    (hbad : ¬ (mayA f fp ∧ mayA t tp ∧ b.length ≤ 1200) → K 0 1 L last m) (hfull : mayA f fp ∧ mayA t tp ∧ b.length ≤ 1200 → L.length ≥ 300 → K 0 10 L last m)
    (hok : mayA f fp ∧ mayA t tp ∧ b.length ≤ 1200 → L.length < 300 → ∀ hd : Option Addr × Nat × Nat, hd.2.1 = b.length → K (last + 1) 0 (L ++ [(last + 1, f, fp, t, tp, hd)]) (last + 1) (m ++ [(hd, b)])) :
    embrasureref13_Net_Send_wp L last f fp t tp b m K := by
  unfold embrasureref13_Net_Send_wp
  refine ⟨fun x => (x = true ↔ ¬ (mayA f fp ∧ mayA t tp ∧ b.length ≤ 1200)), fun x hx => ?_, ?_⟩
  · by_cases hq : mayA f fp ∧ mayA t tp ∧ b.length ≤ 1200
    · exact cond_f (by cases x with | false => rfl | true => exact absurd hq (hx.1 rfl)) (rput_wp hl h0 h1 (hfull hq) (fun _ => by omega) (hok hq))
    · exact cond_t (hx.2 hq) (hbad hq)
  · refine rmay_wp hf (cond_b (fun a => ?_) (fun a => rmay_wp ht (cond_b (fun c => ?_) (fun c => ?_))))
    all_goals simp only [Bool.not_eq_true', decide_eq_false_iff_not, Bool.not_eq_false', decide_eq_true_eq, true_iff] at *
    · exact fun q => a q.1
    · exact fun q => c q.2.1
    · exact ⟨fun z q => by have := q.2.2; omega, fun z => by
        refine Classical.byContradiction fun hc => z ⟨a, c, by omega⟩⟩

theorem rcopy_wp {L : List Sn} {last no : Int} {m : Pool} {K : Int → Int → List Sn → Int → Pool → Prop} (hl : L.length ≤ 300) (h0 : 0 ≤ last) (h1 : last ≤ 1000000)
    (hno : (∀ x ∈ L, x.1 ≠ no) → K 0 5 L last m)
    (hyes : ∀ (i : Nat) (x : Sn), L[i]? = some x → x.1 = no → ∃ b, PH m x.2.2.2.2.2 b ∧ (L.length ≥ 300 → K 0 10 L last m) ∧ (L.length < 300 → b.length ≤ 1000000) ∧ (L.length < 300 → ∀ hd : Option Addr × Nat × Nat, hd.2.1 = b.length → K (last + 1) 0 (L ++ [(last + 1, x.2.1, x.2.2.1, x.2.2.2.1, x.2.2.2.2.1, hd)]) (last + 1) (m ++ [(hd, b)]))) :
    embrasureref13_Net_Copy_wp L last no m K := by
  unfold embrasureref13_Net_Copy_wp
  refine rfind_wp hl (fun h => cond_t (by decide) (hno h)) (fun i x hx e => cond_f (by simp only [decide_eq_false_iff_not]; omega) ?_)
  have hi := (List.getElem?_eq_some_iff.1 hx).1
  refine ⟨by omega, by omega, fun y hy => ?_⟩
  rw [Int.toNat_natCast] at hy
  obtain rfl : x = y := Option.some.inj (hx.symm.trans hy)
  obtain ⟨b, hb, hf, hs, hk⟩ := hyes i x hx e
  exact ⟨b, hb, rput_wp hl h0 h1 hf hs hk⟩

theorem rtake_wp {L : List Sn} {last no : Int} {m : Pool} {K : Int → Int → Int → Int → Int → Option Addr × Nat × Nat → Int → List Sn → Pool → Prop} (hl : L.length ≤ 300)
    (hno : (∀ x ∈ L, x.1 ≠ no) → ∀ hd : Option Addr × Nat × Nat, hd.2.1 = 0 → K 0 0 0 0 0 hd 5 L (m ++ [(hd, [])]))
    (hyes : ∀ (i : Nat) (x : Sn), L[i]? = some x → x.1 = no → K x.1 x.2.1 x.2.2.1 x.2.2.2.1 x.2.2.2.2.1 x.2.2.2.2.2 0 (L.eraseIdx i) m) : embrasureref13_Net_Take_wp L last no m K := by
  unfold embrasureref13_Net_Take_wp
  refine rfind_wp hl (fun h => cond_t (by decide) (hno h)) (fun i x hx e => cond_f (by simp only [decide_eq_false_iff_not]; omega) ?_)
  have hi := (List.getElem?_eq_some_iff.1 hx).1
  refine ⟨by omega, by omega, fun y hy => ?_⟩
  rw [Int.toNat_natCast] at hy ⊢
  obtain rfl : x = y := Option.some.inj (hx.symm.trans hy)
  rw [wrap_i64 (by omega) (by omega), show ((i : Int) + 1).toNat = i + 1 by omega, List.take_length, List.drop_zero, List.nil_append]
  refine ⟨by omega, by omega, by omega, by omega, ?_, ?_, ?_⟩
  · rw [List.length_take]; simp only [List.length_nil]; omega
  · rw [List.length_take, List.length_drop]; omega
  · rw [← List.eraseIdx_eq_take_drop_succ]
    exact hyes i x hx e

theorem rat_wp {L : List Sn} {last p : Int} {K : Int → Prop} (hl : L.length ≤ 300) (h0 : L = [] → K 0) (h1 : ∀ x, L[spot L.length p]? = some x → K x.1) : embrasureref13_Net_At_wp L last p K := by
  unfold embrasureref13_Net_At_wp
  refine cond_e (fun e => h0 (List.eq_nil_of_length_eq_zero (by omega))) (fun e => ⟨e, ?_⟩)
  have hn : (0 : Int) < L.length := by omega
  have b1 : -(L.length : Int) < Int.tmod p L.length ∧ Int.tmod p L.length < L.length := by
    have h2 := Int.tmod_lt_of_pos p hn
    have h3 : -(L.length : Int) < Int.tmod p L.length := by
      have := Int.tmod_lt_of_pos (-p) hn
      rw [Int.neg_tmod] at this
      omega
    exact ⟨h3, h2⟩
  refine ⟨fun k => 0 ≤ k ∧ k < L.length ∧ k.toNat = spot L.length p, fun k hk => ⟨hk.1, hk.2.1, fun x hx => h1 x (by rw [← hk.2.2]; exact hx)⟩, cond_d (fun h => ?_) (fun h => ?_)⟩
  · rw [wrap_i64 (by omega) (by omega)]
    refine ⟨by omega, by omega, ?_⟩
    unfold spot
    rw [Int.tmod_eq_of_lt (a := Int.tmod p L.length + L.length) (by omega) (by omega)]
  · refine ⟨by omega, by omega, ?_⟩
    unfold spot
    rw [Int.tmod_eq_emod_of_nonneg (a := Int.tmod p L.length + L.length) (by omega), Int.add_emod_right, Int.emod_eq_of_lt (by omega) (by omega)]

theorem same1_wp {b : List Int} {K : Bool → Prop} (hb : b.length ≤ 1000000) (hK : K true) : embrasureref01_Same_wp b b K := by
  unfold embrasureref01_Same_wp
  refine cond_n (fun h => absurd rfl h) (fun _ => ?_)
  refine ⟨fun n i => 0 ≤ i ∧ i ≤ b.length ∧ n = b.length - i.toNat, ⟨_, by omega, by omega, rfl⟩, ?_⟩
  rintro n i ⟨i0, i1, rfl⟩
  refine cond_d (fun hlt => ⟨i0, hlt, fun x hx => ⟨i0, hlt, fun y hy => ?_⟩⟩) (fun _ => hK)
  obtain rfl : x = y := Option.some.inj (hx.symm.trans hy)
  rw [wrap_i64 (by omega) (by omega)]
  exact cond_n (fun h => absurd rfl h) (fun _ => ⟨b.length - (i + 1).toNat, by omega, by omega, by omega, rfl⟩)

theorem same_wp {a f fp t tp : Int} {b : List Int} {K : Bool → Prop} (hb : b.length ≤ 1000000) (hK : K true) : embrasureref13_Same_wp a f fp t tp b a f fp t tp b K := by
  unfold embrasureref13_Same_wp
  exact cond_t (by simp) (cond_t (by simp) (cond_t (by simp) (same1_wp hb hK)))

theorem all_wp {L : List Sn} {last : Int} {K : List Sn → Prop} (hl : L.length ≤ 300) (hK : K L) : net_Net_All_wp L last K := by
  unfold net_Net_All_wp slices_Clone_sl_api_Sent_api_Sent_wp
  intro nil hn
  refine cond_b (fun e => ?_) (fun e => ⟨by simp only [List.length_nil]; omega, by rw [List.nil_append]; exact hK⟩)
  rw [hn e] at hK; exact hK

theorem bclone_wp {b : List Int} {K : List Int → Prop} (hl : b.length ≤ 1000000) (hK : K b) : bytes_Clone_wp b K := by
  unfold bytes_Clone_wp
  intro nil hn
  refine cond_b (fun e => ?_) (fun e => ⟨by simp only [List.length_nil]; omega, by rw [List.nil_append]; exact hK⟩)
  rw [hn e] at hK; exact hK

/-! ### NetPlays -/

/-- Both sides. -/
structure Bo (L M : List Sn) (last : Int) (m : Pool) : Prop where
  srt : L.Pairwise fun x y => x.1 < y.1
  le : ∀ x ∈ L, x.1 ≤ last
  len : L.length = M.length
  l3 : L.length ≤ 300
  l0 : 0 ≤ last
  rel : ∀ (i : Nat) (x y : Sn), L[i]? = some x → M[i]? = some y → x.1 = y.1 ∧ x.2.1 = y.2.1 ∧ x.2.2.1 = y.2.2.1 ∧ x.2.2.2.1 = y.2.2.2.1 ∧ x.2.2.2.2.1 = y.2.2.2.2.1 ∧ ∃ b : List Int, PH m x.2.2.2.2.2 b ∧ PH m y.2.2.2.2.2 b ∧ b.length ≤ 1300

theorem Bo.mono {L M : List Sn} {last : Int} {m : Pool} (h : Bo L M last m) (l : Pool) : Bo L M last (m ++ l) :=
  ⟨h.srt, h.le, h.len, h.l3, h.l0, fun i x y hx hy => by
    obtain ⟨a1, a2, a3, a4, a5, b, b1, b2, b3⟩ := h.rel i x y hx hy
    exact ⟨a1, a2, a3, a4, a5, b, b1.mono _, b2.mono _, b3⟩⟩

theorem Bo.push {L M : List Sn} {last : Int} {m : Pool} (h : Bo L M last m) (hl : L.length < 300) (f fp t tp : Int) (hd hd2 : Option Addr × Nat × Nat) {b : List Int} (hb : b.length ≤ 1300) : Bo (L ++ [(last + 1, f, fp, t, tp, hd)]) (M ++ [(last + 1, f, fp, t, tp, hd2)]) (last + 1) ((m ++ [(hd, b)]) ++ [(hd2, b)]) := by
  have hlen := h.len
  refine ⟨?_, fun x hx => ?_, ?_, ?_, ?_, fun i x y hx hy => ?_⟩
  · rw [List.pairwise_append]
    refine ⟨h.srt, by simp, fun x hx y hy => ?_⟩
    simp only [List.mem_cons, List.not_mem_nil, or_false] at hy
    subst hy
    have := h.le x hx
    omega
  · rcases List.mem_append.1 hx with hx | hx
    · have := h.le x hx; omega
    · simp only [List.mem_cons, List.not_mem_nil, or_false] at hx
      subst hx; simp
  · rw [List.length_append, List.length_append]; simp only [List.length_cons, List.length_nil]; omega
  · rw [List.length_append]; simp only [List.length_cons, List.length_nil]; omega
  · have := h.l0; omega
  · rcases Nat.lt_trichotomy i L.length with hi | hi | hi
    · rw [List.getElem?_append_left hi] at hx
      rw [List.getElem?_append_left (by omega)] at hy
      obtain ⟨a1, a2, a3, a4, a5, b', b1, b2, b3⟩ := h.rel i x y hx hy
      exact ⟨a1, a2, a3, a4, a5, b', (b1.mono _).mono _, (b2.mono _).mono _, b3⟩
    · have ex : x = (last + 1, f, fp, t, tp, hd) := by subst hi; simpa using hx.symm
      have ey : y = (last + 1, f, fp, t, tp, hd2) := by rw [hi, hlen] at hy; simpa using hy.symm
      subst ex; subst ey
      exact ⟨rfl, rfl, rfl, rfl, rfl, b, PH.mono PH.new _, PH.new, hb⟩
    · rw [List.getElem?_eq_none (by rw [List.length_append]; simp only [List.length_cons, List.length_nil]; omega)] at hx
      cases hx

theorem Bo.erase {L M : List Sn} {last : Int} {m : Pool} (h : Bo L M last m) (i : Nat) : Bo (L.eraseIdx i) (M.eraseIdx i) last m := by
  have hlen := h.len
  have hsub := List.eraseIdx_sublist L i
  refine ⟨h.srt.sublist hsub, fun x hx => h.le x (hsub.subset hx), ?_, Nat.le_trans hsub.length_le h.l3, h.l0, fun j x y hx hy => ?_⟩
  · rw [List.length_eraseIdx, List.length_eraseIdx, hlen]
  · rw [List.getElem?_eraseIdx] at hx hy
    split at hx
    · rw [if_pos (by assumption)] at hy
      exact h.rel j x y hx hy
    · rw [if_neg (by assumption)] at hy
      exact h.rel (j + 1) x y hx hy

theorem Bo.uniq {L M : List Sn} {last : Int} {m : Pool} (h : Bo L M last m) {i j : Nat} {x y : Sn} (hx : L[i]? = some x) (hy : M[j]? = some y) (e : x.1 = y.1) : i = j := by
  obtain ⟨h1, rfl⟩ := List.getElem?_eq_some_iff.1 hx
  have hj := (List.getElem?_eq_some_iff.1 hy).1
  have hlen := h.len
  have hz : L[j]? = some L[j] := List.getElem?_eq_getElem (by omega)
  have e2 := (h.rel j _ _ hz hy).1
  have hs := h.srt
  rw [List.pairwise_iff_getElem] at hs
  rcases Nat.lt_trichotomy i j with hh | hh | hh
  · have := hs i j h1 (by omega) hh; omega
  · exact hh
  · have := hs j i (by omega) h1 hh; omega

/-- The one is there just if the other one is. -/
theorem Bo.none {L M : List Sn} {last no : Int} {m : Pool} (h : Bo L M last m) (hn : ∀ x ∈ L, x.1 ≠ no) {j : Nat} {y : Sn} (hy : M[j]? = some y) : y.1 ≠ no := by
  have hj := (List.getElem?_eq_some_iff.1 hy).1
  have hlen := h.len
  have hz : L[j]? = some L[j] := List.getElem?_eq_getElem (by omega)
  have e2 := (h.rel j _ _ hz hy).1
  have := hn _ (List.mem_of_getElem? hz)
  omega

theorem Bo.other {L M : List Sn} {last : Int} {m : Pool} (h : Bo L M last m) {i : Nat} {x : Sn} (hx : L[i]? = some x) : ∃ y, M[i]? = some y ∧ x.1 = y.1 := by
  have hi := (List.getElem?_eq_some_iff.1 hx).1
  have hlen := h.len
  have hz : M[i]? = some M[i] := List.getElem?_eq_getElem (by omega)
  exact ⟨_, hz, (h.rel i _ _ hx hz).1⟩

theorem netPlays_plain {script : List (Int × Int × Int × Int × Int × Int × (List Int))}
    (hs : ∀ x ∈ script, inK .i64 x.1 ∧ inK .i64 x.2.1 ∧ inK .u32 x.2.2.1 ∧ inK .i64 x.2.2.2.1 ∧ inK .u32 x.2.2.2.2.1 ∧ inK .i64 x.2.2.2.2.2.1 ∧ ((∀ a ∈ x.2.2.2.2.2.2, inK .u8 a) ∧ x.2.2.2.2.2.2.length ≤ 9223372036854775807)) (hsl : script.length ≤ 9223372036854775807) :
    embrasurelaw13_NetPlays_wp script (· = true) := by
  have u32b : ∀ {h : Int}, inK .u32 h → 0 ≤ h := by intro h hh; simp [inK, IntKind.min, IntKind.max, IntKind.signed, IntKind.bits] at hh; omega
  unfold embrasurelaw13_NetPlays_wp
  refine awake_wp (cond_f rfl (small_wp hsl (fun r => cond_b (fun _ => rfl) (fun _ => ?_))))
  unfold net_New_wp
  refine ⟨fun _ _ _ _ _ => True, fun _ _ _ _ _ _ => rfl, ?_⟩
  refine ⟨fun n M Last L last i m => 0 ≤ i ∧ i ≤ 100 ∧ n = 100 - i.toNat ∧ Last = last ∧ last ≤ i ∧ Bo L M last m, ⟨_, by omega, by omega, rfl, rfl, by omega, ⟨.nil, by simp, rfl, by simp, by omega, by simp⟩⟩, ?_⟩
  rintro n M _ L last i m ⟨i0, i1, rfl, rfl, hla, hB⟩
  refine ⟨fun t => t = true → i < script.length ∧ i < 100, fun t ht => cond_b (fun e => ?_) (fun _ => trivial), ?_⟩
  rotate_left
  · exact cond_d (fun h => by simp only [decide_eq_true_eq]; exact fun h2 => ⟨h, h2⟩) (fun _ => by simp)
  obtain ⟨hlt, h100⟩ := ht e
  refine ⟨i0, hlt, fun x hx => ?_⟩
  obtain ⟨-, -, hf, -, htt, -, -⟩ := hs x (List.mem_of_getElem? hx)
  have hf := u32b hf
  have htt := u32b htt
  have hlen := hB.len
  have hl3 := hB.l3
  have hl0 := hB.l0
  refine ⟨fun M Last L last' m => Last = last' ∧ last' ≤ i + 1 ∧ Bo L M last' m, fun M _ L last' m hQ => ?_, ?_⟩
  · obtain ⟨rfl, hla, hB⟩ := hQ
    have hlen := hB.len
    have hl3 := hB.l3
    refine ⟨fun k => k = L.length, fun k hk => ?_, ?_⟩
    · subst hk
      refine ⟨fun t => t = false, fun t ht => ?_, ?_⟩
      · subst ht
        rw [wrap_i64 (by omega) (by omega)]
        exact cond_f rfl ⟨100 - (i + 1).toNat, by omega, by omega, by omega, rfl, rfl, hla, hB⟩
      · unfold net_Net_Count_wp
        exact cond_n (fun h => absurd (by omega) h) (fun _ => by simp)
    · refine all_wp hl3 ?_
      unfold net_Net_All_c1_wp
      refine ⟨fun n t7 s => 0 ≤ t7 ∧ t7 ≤ L.length ∧ n = L.length - t7.toNat ∧ s = (0, t7), ⟨_, by omega, by omega, rfl, rfl⟩, ?_⟩
      rintro n t7 s ⟨t0, t1, rfl, rfl⟩
      refine cond_d (fun hlt => ⟨t0, hlt, fun y hy => ?_⟩) (fun hge => .inl ⟨rfl, by show t7 = _; omega⟩)
      obtain ⟨z, hz, -⟩ := hB.other hy
      obtain ⟨a1, a2, a3, a4, a5, b, b1, b2, b3⟩ := hB.rel _ _ _ hy hz
      refine ⟨b, b1, bclone_wp (by omega) ⟨rfl, ?_⟩⟩
      refine ⟨fun t => t = false, fun t ht => ?_, ?_⟩
      · subst ht
        rw [wrap_i64 (by omega) (by omega)]
        exact cond_f rfl (cond_f rfl ⟨L.length - (t7 + 1).toNat, by omega, by omega, by omega, rfl, rfl⟩)
      · refine cond_f (by simp only [decide_eq_false_iff_not]; omega) ⟨t0, by omega, fun z2 hz2 => ?_⟩
        obtain rfl : z = z2 := Option.some.inj (hz.symm.trans hz2)
        refine ⟨b, b2, ?_⟩
        rw [← a1, ← a2, ← a3, ← a4, ← a5]
        exact same_wp (show b.length ≤ 1000000 by omega) rfl
  · have hrl : M.length ≤ 300 := by omega
    refine cond_e (fun _ => ?_) (fun _ => cond_e (fun _ => ?_) (fun _ => ?_))
    · -- sent
      have fin : ∀ {a c : Int} {M' L' : List Sn} {last' : Int} {m' : Pool}, last' ≤ i + 1 → Bo L' M' last' m' → joinP1 (fun (t113 : Bool) => cond t113 (false = true) (last' = last' ∧ last' ≤ i + 1 ∧ Bo L' M' last' m')) (fun (Q_3 : Bool → Prop) => cond ((a : Int) != a) (Q_3 true) (Q_3 ((c : Int) != c))) := by
        intro a c M' L' last' m' h1 h2
        exact joinP1.i (cond_n (fun h => absurd rfl h) (fun _ => cond_n (fun h => absurd rfl h) (fun _ => ⟨rfl, h1, h2⟩)))
      refine send_wp hl3 hl0 (by omega) (fun hb => ?_) (fun hg hfu => ?_) (fun hg hlt3 hd hh => ?_)
      · exact rsend_wp hf htt hrl hl0 (by omega) (fun _ => fin (by omega) hB) (fun h => absurd h hb) (fun h => absurd h hb)
      · exact rsend_wp hf htt hrl hl0 (by omega) (fun h => absurd hg h) (fun _ _ => fin (by omega) hB) (fun _ h => by omega)
      · exact rsend_wp hf htt hrl hl0 (by omega) (fun h => absurd hg h) (fun _ h => by omega) (fun _ _ hd2 hh2 => fin (by omega) (hB.push hlt3 _ _ _ _ hd hd2 (by have := hg.2.2; omega)))
    · -- copied
      have fin : ∀ {a c : Int} {M' L' : List Sn} {last' : Int} {m' : Pool}, last' ≤ i + 1 → Bo L' M' last' m' → joinP1 (fun (t113 : Bool) => cond t113 (false = true) (last' = last' ∧ last' ≤ i + 1 ∧ Bo L' M' last' m')) (fun (Q_3 : Bool → Prop) => cond ((a : Int) != a) (Q_3 true) (Q_3 ((c : Int) != c))) := by
        intro a c M' L' last' m' h1 h2
        exact joinP1.i (cond_n (fun h => absurd rfl h) (fun _ => cond_n (fun h => absurd rfl h) (fun _ => ⟨rfl, h1, h2⟩)))
      refine copy_wp hl3 hl0 (by omega) (fun hn => ?_) (fun j y hy e => ?_)
      · exact rcopy_wp hrl hl0 (by omega) (fun _ => fin (by omega) hB) (fun k z hz e2 => absurd e2 (hB.none hn hz))
      · obtain ⟨z, hz, ez⟩ := hB.other hy
        obtain ⟨a1, a2, a3, a4, a5, b, b1, b2, b3⟩ := hB.rel _ _ _ hy hz
        have hzm := List.mem_of_getElem? hz
        refine ⟨b, b1, fun hfu => ?_, fun _ => by omega, fun hlt3 hd hh => ?_⟩
        · refine rcopy_wp hrl hl0 (by omega) (fun h => absurd (by omega) (h z hzm)) (fun k z2 hz2 e2 => ?_)
          obtain rfl : j = k := hB.uniq hy hz2 (by omega)
          obtain rfl : z = z2 := Option.some.inj (hz.symm.trans hz2)
          exact ⟨b, b2, fun _ => fin (by omega) hB, fun h => by omega, fun h => by omega⟩
        · refine rcopy_wp hrl hl0 (by omega) (fun h => absurd (by omega) (h z hzm)) (fun k z2 hz2 e2 => ?_)
          obtain rfl : j = k := hB.uniq hy hz2 (by omega)
          obtain rfl : z = z2 := Option.some.inj (hz.symm.trans hz2)
          refine ⟨b, b2.mono _, fun h => by omega, fun _ => by omega, fun _ hd2 hh2 => fin (by omega) ?_⟩
          rw [← a2, ← a3, ← a4, ← a5]
          exact hB.push hlt3 _ _ _ _ hd hd2 (by omega)
    · -- taken
      refine ⟨fun M' _ => M' = M, fun M' no hM => ?_, cond_e (fun _ => ?_) (fun _ => rfl)⟩
      · subst hM
        refine take_wp hl3 (fun hn hd hh => ?_) (fun j y hy e => ?_)
        · refine rtake_wp hrl (fun _ hd2 hh2 => ?_) (fun k z hz e2 => absurd e2 (hB.none hn hz))
          refine ⟨fun t => t = false, fun t ht => cond_f ht ⟨rfl, by omega, (hB.mono _).mono _⟩, ⟨[], PH.mono PH.new _, [], PH.new, same_wp (by simp) (cond_f rfl rfl)⟩⟩
        · obtain ⟨z, hz, ez⟩ := hB.other hy
          have hzm := List.mem_of_getElem? hz
          refine rtake_wp hrl (fun h => absurd (by omega) (h z hzm)) (fun k z2 hz2 e2 => ?_)
          obtain rfl : j = k := hB.uniq hy hz2 (by omega)
          obtain rfl : z = z2 := Option.some.inj (hz.symm.trans hz2)
          obtain ⟨a1, a2, a3, a4, a5, b, b1, b2, b3⟩ := hB.rel _ _ _ hy hz
          refine ⟨fun t => t = false, fun t ht => cond_f ht ⟨rfl, by omega, hB.erase j⟩, ⟨b, b1, b, b2, ?_⟩⟩
          rw [← a1, ← a2, ← a3, ← a4, ← a5]
          exact same_wp (by omega) (cond_f rfl rfl)
      · refine at_wp hl3 (fun h => ?_) (fun y hy => ?_)
        · have hM : M = [] := List.eq_nil_of_length_eq_zero (by rw [← hlen, h]; rfl)
          exact rat_wp hrl (fun _ => cond_n (fun h => absurd rfl h) (fun _ => rfl)) (fun z hz => by rw [hM] at hz; simp at hz)
        · obtain ⟨z, hz, ez⟩ := hB.other hy
          refine rat_wp hrl (fun h => by rw [h] at hz; simp at hz) (fun z2 hz2 => ?_)
          rw [← hlen] at hz2
          obtain rfl : z = z2 := Option.some.inj (hz.symm.trans hz2)
          exact cond_n (fun h => absurd ez h) (fun _ => rfl)

end Go.Proofs.Ytdgjmiacfpihnaa
