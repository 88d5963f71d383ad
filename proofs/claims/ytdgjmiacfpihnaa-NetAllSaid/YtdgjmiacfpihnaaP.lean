/- The plain side of the statements on datagrams on their way: what each function of the program answers. -/
import Derived.Test.YtdgjmiacfpihnaaL
import Derived.Test.YtdgjmiacfpihnaaEngV
import Derived.Test.YtdgjmiacfpihnaaEngR
import Derived.Test.YtdgjmiacfpihnaaEngJ
namespace Go.Proofs.Ytdgjmiacfpihnaa
open Go Go.Eng

/-- A datagram: its number, from, to, its bytes' header. -/
abbrev Sn := Int × Int × Int × Int × Int × (Option Addr × Nat × Nat)
abbrev Pool := List ((Option Addr × Nat × Nat) × List Int)

def mayA (h p : Int) : Prop := h ≠ 0 ∧ 1 ≤ p ∧ p ≤ 65535
instance (h p : Int) : Decidable (mayA h p) := by unfold mayA; infer_instance

theorem dec_key {P : Prop} [Decidable P] {K : Bool → Prop} (hK : K (decide P)) (b : Bool) (h : b = true ↔ P) : K b := by
  have : decide P = b := by
    cases b with
    | true => simpa using h.1 rfl
    | false => simp only [decide_eq_false_iff_not]; intro hp; exact absurd (h.2 hp) (by simp)
  rwa [← this]

theorem may_wp {h p : Int} {K : Bool → Prop} (hK : K (decide (mayA h p))) : addr_May_wp h p K := by
  unfold addr_May_wp
  refine cond_n (fun a => cond_d (fun b => ?_) (fun b => ?_)) (fun a => ?_)
  all_goals refine dec_key hK _ ?_
  all_goals unfold mayA
  all_goals simp only [decide_eq_true_eq, Bool.false_eq_true]
  all_goals constructor <;> intro hh <;> first | omega | exact hh.elim

theorem i64b {h : Int} (hh : inK .i64 h) : -9223372036854775808 ≤ h ∧ h ≤ 9223372036854775807 := by simp [inK, IntKind.min, IntKind.max, IntKind.signed, IntKind.bits] at hh; omega
theorem u8b {h : Int} (hh : inK .u8 h) : 0 ≤ h ∧ h ≤ 255 := by simp [inK, IntKind.min, IntKind.max, IntKind.signed, IntKind.bits] at hh; omega

theorem take_snoc {α : Type} {l : List α} {i : Int} {x : α} (h0 : 0 ≤ i) (hx : l[i.toNat]? = some x) : l.take (i + 1).toNat = l.take i.toNat ++ [x] := by
  obtain ⟨hi, rfl⟩ := List.getElem?_eq_some_iff.1 hx
  rw [show (i + 1).toNat = i.toNat + 1 by omega, List.take_succ_eq_append_getElem hi]

theorem take_all {α : Type} {l : List α} {i : Int} (h : ¬ i < l.length) (h1 : i ≤ l.length) : l.take i.toNat = l := by
  rw [show i.toNat = l.length by omega, List.take_length]

theorem place_wp {L : List Sn} {last no : Int} {K : Int → Prop} (hl : L.length ≤ 300) (h0 : (∀ x ∈ L, x.1 ≠ no) → K (-1)) (h1 : ∀ (i : Nat) (x : Sn), L[i]? = some x → x.1 = no → K i) : net_Net_place_wp L last no K := by
  unfold net_Net_place_wp slices_IndexFunc_sl_api_Sent_api_Sent_wp
  refine ⟨fun n i _ => 0 ≤ i ∧ i ≤ L.length ∧ n = L.length - i.toNat ∧ ∀ x ∈ L.take i.toNat, x.1 ≠ no, ⟨_, by omega, by omega, rfl, by simp⟩, ?_⟩
  rintro n i _ ⟨i0, i1, rfl, hn⟩
  refine cond_d (fun hlt => ⟨i0, hlt, fun x hx => ?_⟩) (fun hge => h0 (by rw [take_all hge i1] at hn; exact hn))
  unfold net_Net_place_c1_wp
  refine cond_e (fun e => ?_) (fun e => ?_)
  · have := h1 i.toNat x hx e
    rw [show ((i.toNat : Nat) : Int) = i by omega] at this
    exact this
  · rw [wrap_i64 (by omega) (by omega)]
    refine ⟨L.length - (i + 1).toNat, by omega, by omega, by omega, rfl, ?_⟩
    rw [take_snoc i0 hx]
    intro y hy
    rcases List.mem_append.1 hy with hy | hy
    · exact hn y hy
    · simp only [List.mem_cons, List.not_mem_nil, or_false] at hy
      subst hy; exact e

theorem put_wp {L : List Sn} {last no f fp t tp : Int} {b : List Int} {m : Pool} {K : Int → Int → List Sn → Int → Pool → Prop} (hl : L.length ≤ 300) (h0 : 0 ≤ last) (h1 : last ≤ 1000000)
    (hfull : L.length ≥ 300 → K 0 10 L last m) (hb : L.length < 300 → b.length ≤ 1000000) (hok : L.length < 300 → ∀ hd : Option Addr × Nat × Nat, hd.2.1 = b.length → K (last + 1) 0 (L ++ [(last + 1, f, fp, t, tp, hd)]) (last + 1) (m ++ [(hd, b)])) :
    net_Net_put_wp L last no f fp t tp b m K := by
  unfold net_Net_put_wp
  refine cond_d (fun h => hfull (by omega)) (fun h => ?_)
  rw [wrap_i64 (by omega) (by omega)]
  have hb := hb (by omega)
  have hok := hok (by omega)
  intro nil hn
  refine cond_b (fun e => ?_) (fun e => ⟨by simp only [List.length_nil]; omega, ?_⟩)
  · rw [hn e] at hok
    exact fun hd hh => ⟨by simp only [List.length_cons, List.length_nil]; omega, hok hd hh⟩
  · rw [List.nil_append]
    exact fun hd hh => ⟨by simp only [List.length_cons, List.length_nil]; omega, hok hd hh⟩

theorem send_wp {L : List Sn} {last f fp t tp : Int} {b : List Int} {m : Pool} {K : Int → Int → List Sn → Int → Pool → Prop} (hl : L.length ≤ 300) (h0 : 0 ≤ last) (h1 : last ≤ 1000000)
    (hbad : ¬ (mayA f fp ∧ mayA t tp ∧ b.length ≤ 1200) → K 0 1 L last m) (hfull : mayA f fp ∧ mayA t tp ∧ b.length ≤ 1200 → L.length ≥ 300 → K 0 10 L last m)
    (hok : mayA f fp ∧ mayA t tp ∧ b.length ≤ 1200 → L.length < 300 → ∀ hd : Option Addr × Nat × Nat, hd.2.1 = b.length → K (last + 1) 0 (L ++ [(last + 1, f, fp, t, tp, hd)]) (last + 1) (m ++ [(hd, b)])) :
    net_Net_Send_wp L last f fp t tp b m K := by
  unfold net_Net_Send_wp
  refine ⟨fun x => (x = true ↔ ¬ (mayA f fp ∧ mayA t tp ∧ b.length ≤ 1200)), fun x hx => ?_, ?_⟩
  · by_cases hq : mayA f fp ∧ mayA t tp ∧ b.length ≤ 1200
    · exact cond_f (by cases x with | false => rfl | true => exact absurd hq (hx.1 rfl)) (put_wp hl h0 h1 (hfull hq) (fun _ => by omega) (hok hq))
    · exact cond_t (hx.2 hq) (hbad hq)
  · refine may_wp (cond_b (fun a => ?_) (fun a => may_wp (cond_b (fun c => ?_) (fun c => ?_))))
    all_goals simp only [Bool.not_eq_true', decide_eq_false_iff_not, Bool.not_eq_false', decide_eq_true_eq, true_iff] at *
    · exact fun q => a q.1
    · exact fun q => c q.2.1
    · exact ⟨fun z q => by have := q.2.2; omega, fun z => by
        refine Classical.byContradiction fun hc => z ⟨a, c, by omega⟩⟩

theorem copy_wp {L : List Sn} {last no : Int} {m : Pool} {K : Int → Int → List Sn → Int → Pool → Prop} (hl : L.length ≤ 300) (h0 : 0 ≤ last) (h1 : last ≤ 1000000)
    (hno : (∀ x ∈ L, x.1 ≠ no) → K 0 5 L last m)
    (hyes : ∀ (i : Nat) (x : Sn), L[i]? = some x → x.1 = no → ∃ b, PH m x.2.2.2.2.2 b ∧ (L.length ≥ 300 → K 0 10 L last m) ∧ (L.length < 300 → b.length ≤ 1000000) ∧ (L.length < 300 → ∀ hd : Option Addr × Nat × Nat, hd.2.1 = b.length → K (last + 1) 0 (L ++ [(last + 1, x.2.1, x.2.2.1, x.2.2.2.1, x.2.2.2.2.1, hd)]) (last + 1) (m ++ [(hd, b)]))) :
    net_Net_Copy_wp L last no m K := by
  unfold net_Net_Copy_wp
  refine place_wp hl (fun h => cond_t (by decide) (hno h)) (fun i x hx e => cond_f (by simp only [decide_eq_false_iff_not]; omega) ?_)
  have hi := (List.getElem?_eq_some_iff.1 hx).1
  refine ⟨by omega, by omega, fun y hy => ?_⟩
  rw [Int.toNat_natCast] at hy
  obtain rfl : x = y := Option.some.inj (hx.symm.trans hy)
  obtain ⟨b, hb, hf, hs, hk⟩ := hyes i x hx e
  exact ⟨b, hb, put_wp hl h0 h1 hf hs hk⟩

theorem delete_wp {L : List Sn} {i : Nat} {K : List Sn → Prop} (hl : L.length ≤ 300) (hi : i < L.length) (hK : K (L.eraseIdx i)) : slices_Delete_sl_api_Sent_api_Sent_wp L i (IntKind.wrap .i64 (i + 1)) K := by
  unfold slices_Delete_sl_api_Sent_api_Sent_wp
  rw [wrap_i64 (by omega) (by omega)]
  refine ⟨by omega, by omega, by omega, by omega, by omega, by omega, cond_e (fun e => by omega) (fun _ => ⟨by omega, by omega, by omega, by omega, ?_⟩)⟩
  rw [Int.toNat_natCast, show ((i : Int) + 1).toNat = i + 1 by omega, List.take_length, List.drop_zero, ← List.eraseIdx_eq_take_drop_succ]
  exact hK

theorem take_wp {L : List Sn} {last no : Int} {m : Pool} {K : Int → Int → Int → Int → Int → Option Addr × Nat × Nat → Int → List Sn → Pool → Prop} (hl : L.length ≤ 300)
    (hno : (∀ x ∈ L, x.1 ≠ no) → ∀ hd : Option Addr × Nat × Nat, hd.2.1 = 0 → K 0 0 0 0 0 hd 5 L (m ++ [(hd, [])]))
    (hyes : ∀ (i : Nat) (x : Sn), L[i]? = some x → x.1 = no → K x.1 x.2.1 x.2.2.1 x.2.2.2.1 x.2.2.2.2.1 x.2.2.2.2.2 0 (L.eraseIdx i) m) : net_Net_Take_wp L last no m K := by
  unfold net_Net_Take_wp
  refine place_wp hl (fun h => cond_t (by decide) (hno h)) (fun i x hx e => cond_f (by simp only [decide_eq_false_iff_not]; omega) ?_)
  have hi := (List.getElem?_eq_some_iff.1 hx).1
  refine ⟨by omega, by omega, fun y hy => ?_⟩
  rw [Int.toNat_natCast] at hy
  obtain rfl : x = y := Option.some.inj (hx.symm.trans hy)
  exact delete_wp hl hi (hyes i x hx e)

/-- The place that a number leads to. -/
def spot (n : Nat) (p : Int) : Nat := (Int.tmod (Int.tmod p n + n) n).toNat

theorem at_wp {L : List Sn} {last p : Int} {K : Int → Prop} (hl : L.length ≤ 300) (h0 : L = [] → K 0) (h1 : ∀ x, L[spot L.length p]? = some x → K x.1) : net_Net_At_wp L last p K := by
  unfold net_Net_At_wp
  refine cond_e (fun e => h0 (List.eq_nil_of_length_eq_zero (by omega))) (fun e => ⟨e, e, ?_⟩)
  have hn : (0 : Int) < L.length := by omega
  have b1 : -(L.length : Int) < Int.tmod p L.length ∧ Int.tmod p L.length < L.length := by
    have h2 := Int.tmod_lt_of_pos p hn
    have h3 : -(L.length : Int) < Int.tmod p L.length := by
      have := Int.tmod_lt_of_pos (-p) hn
      rw [Int.neg_tmod] at this
      omega
    exact ⟨h3, h2⟩
  rw [wrap_i64 (by omega) (by omega)]
  have b2 := Int.tmod_nonneg (a := Int.tmod p L.length + L.length) (L.length : Int) (by omega)
  have b3 := Int.tmod_lt_of_pos (Int.tmod p L.length + L.length) hn
  exact ⟨b2, b3, fun x hx => h1 x hx⟩

theorem spot_lt {n : Nat} (h : 0 < n) (p : Int) : spot n p < n := by
  have hn : (0 : Int) < n := by omega
  have b1 : -(n : Int) < Int.tmod p n := by
    have := Int.tmod_lt_of_pos (-p) hn
    rw [Int.neg_tmod] at this
    omega
  have b2 := Int.tmod_nonneg (a := Int.tmod p n + n) (n : Int) (by omega)
  have b3 := Int.tmod_lt_of_pos (Int.tmod p n + n) hn
  unfold spot
  omega

theorem awake_wp {K : Bool → Prop} (hK : K true) : embrasurelaw13_awake_wp K := by
  unfold embrasurelaw13_awake_wp net_New_wp
  have m1 : mayA 1 1 := by decide
  refine send_wp (by decide) (by decide) (by decide) (fun h => absurd ⟨m1, m1, by decide⟩ h) (fun _ h => absurd h (by decide)) (fun _ _ hd hh => ?_)
  refine copy_wp (by simp) (by decide) (by decide) (fun h => absurd rfl (h (1, 1, 1, 1, 1, hd) (by simp))) (fun i x hx e => ?_)
  have hx2 : x = (1, 1, 1, 1, 1, hd) := by
    have := List.mem_of_getElem? hx
    simpa using this
  subst hx2
  refine ⟨[104, 105], .inr (by simp), fun h => absurd h (by simp), fun _ => by decide, fun _ hd2 hh2 => ?_⟩
  refine take_wp (by simp) (fun h => absurd rfl (h (1, 1, 1, 1, 1, hd) (by simp))) (fun i x hx e => ?_)
  have hi : i = 0 ∧ x = (1, 1, 1, 1, 1, hd) := by
    match i, hx with
    | 0, hx => exact ⟨rfl, by simpa using hx.symm⟩
    | 1, hx =>
      exfalso
      have : x = (2, 1, 1, 1, 1, hd2) := by simpa using hx.symm
      rw [this] at e
      simp at e
  obtain ⟨rfl, rfl⟩ := hi
  refine take_wp (by simp) (fun _ hd3 hh3 => ?_) (fun j x hx e => ?_)
  · refine cond_t rfl (cond_t rfl (cond_t rfl (cond_t rfl (cond_t rfl ⟨[104, 105], .inr (by simp), cond_t (by decide) (cond_t rfl ?_)⟩))))
    unfold net_Net_Count_wp
    refine cond_t rfl (at_wp (by simp) (fun h => by simp at h) (fun x hx => ?_))
    have : x = (2, 1, 1, 1, 1, hd2) := by
      have := List.mem_of_getElem? hx
      simpa using this
    subst this
    exact hK
  · exfalso
    have : x = (2, 1, 1, 1, 1, hd2) := by
      have := List.mem_of_getElem? hx
      simpa using this
    rw [this] at e
    simp at e

/-! ### NetPlaces -/

/-- All that is still on its way. -/
structure Plc (k : Int) (i : Int) (L : List Sn) (taken : List Bool) (m : Pool) : Prop where
  srt : L.Pairwise fun x y => x.1 < y.1
  len : (L.length : Int) = k - i
  tl : (taken.length : Int) = k + 1
  all : ∀ x ∈ L, 1 ≤ x.1 ∧ x.1 ≤ k ∧ taken[x.1.toNat]? = some false ∧ x.2.2.2.2.2.2.1 = 1 ∧ PH m x.2.2.2.2.2 [x.1 - 1]

theorem erase_ne {L : List Sn} (hs : L.Pairwise fun x y => x.1 < y.1) {j : Nat} {x : Sn} (hx : L[j]? = some x) : ∀ y ∈ L.eraseIdx j, y.1 ≠ x.1 := by
  intro y hy
  rw [List.mem_eraseIdx_iff_getElem?] at hy
  obtain ⟨i, hne, hi⟩ := hy
  obtain ⟨h1, rfl⟩ := List.getElem?_eq_some_iff.1 hi
  obtain ⟨h2, rfl⟩ := List.getElem?_eq_some_iff.1 hx
  rw [List.pairwise_iff_getElem] at hs
  rcases Nat.lt_trichotomy i j with h | h | h
  · have := hs i j h1 h2 h; omega
  · exact absurd h hne
  · have := hs j i h2 h1 h; omega

theorem netPlaces_plain {n : Int} {places : List Int} (hn : inK .u8 n) (_ : ∀ x ∈ places, inK .i64 x) (_ : places.length ≤ 9223372036854775807) : embrasurelaw13_NetPlaces_wp n places (· = true) := by
  have hn := u8b hn
  unfold embrasurelaw13_NetPlaces_wp
  have ek : Int.tmod (IntKind.wrap .i64 n) 60 = n % 60 := by rw [wrap_i64 (by omega) (by omega), tmod_pos hn.1]
  rw [ek]
  have hk : 0 ≤ n % 60 ∧ n % 60 < 60 := by omega
  generalize n % 60 = k at hk ⊢
  rw [wrap_i64 (x := k + 1) (by omega) (by omega), wrap_i64 (x := k - 1) (by omega) (by omega)]
  refine awake_wp (cond_f rfl ?_)
  unfold net_New_wp
  refine ⟨fun L last m => L.Pairwise (fun x y => x.1 < y.1) ∧ (L.length : Int) = k ∧ ∀ x ∈ L, 1 ≤ x.1 ∧ x.1 ≤ k ∧ x.2.2.2.2.2.2.1 = 1 ∧ PH m x.2.2.2.2.2 [x.1 - 1], fun L last m hS => ?_, ?_⟩
  · obtain ⟨hsrt, hlen, hall⟩ := hS
    refine ⟨by omega, by omega, by omega, by omega, ?_⟩
    refine ⟨fun L m => L = [], fun L m hL => at_wp (by rw [hL]; decide) (fun _ => rfl) (fun x hx => by rw [hL] at hx; simp at hx), ?_⟩
    refine ⟨fun n L taken i m => 0 ≤ i ∧ i ≤ k ∧ n = k.toNat - i.toNat ∧ Plc k i L taken m, ⟨_, by omega, by omega, rfl, ⟨hsrt, by omega, by rw [List.length_replicate]; omega, fun x hx => ?_⟩⟩, ?_⟩
    · obtain ⟨h1, h2, h3, h4⟩ := hall x hx
      refine ⟨h1, h2, ?_, h3, h4⟩
      rw [List.getElem?_replicate, if_pos (by omega)]
    · rintro n L taken i m ⟨i0, i1, rfl, hP⟩
      refine cond_d (fun hlt => ?_) (fun hge => List.eq_nil_of_length_eq_zero (by have := hP.len; omega))
      have hL := hP.len
      have hL2 : L.length ≤ 300 := by omega
      refine ⟨fun _ => True, fun pl _ => ?_, cond_d (fun h => ⟨i0, h, fun _ _ => trivial⟩) (fun _ => trivial)⟩
      refine at_wp hL2 (fun h => by rw [h] at hL; simp at hL; omega) (fun y hy => ?_)
      have hym := List.mem_of_getElem? hy
      refine take_wp hL2 (fun h => absurd rfl (h y hym)) (fun j x hx e => ?_)
      have hxm := List.mem_of_getElem? hx
      have hj := (List.getElem?_eq_some_iff.1 hx).1
      obtain ⟨h1, h2, h3, h4, h5⟩ := hP.all x hxm
      have htl := hP.tl
      rw [← e]
      have hel : (((L.eraseIdx j).length : Nat) : Int) = k - i - 1 := by rw [List.length_eraseIdx, if_pos hj]; omega
      refine ⟨fun t => t = false, fun t ht => ?_, ?_⟩
      · subst ht
        refine cond_f rfl ⟨by omega, by omega, ?_⟩
        rw [wrap_i64 (by omega) (by omega)]
        refine ⟨k.toNat - (i + 1).toNat, by omega, by omega, by omega, rfl, ⟨hP.srt.sublist (List.eraseIdx_sublist _ _), by omega, by rw [List.length_set]; omega, fun z hz => ?_⟩⟩
        have hz2 := (List.eraseIdx_sublist L j).subset hz
        have hne := erase_ne hP.srt hx z hz
        obtain ⟨z1, z2, z3, z4, z5⟩ := hP.all z hz2
        refine ⟨z1, z2, ?_, z4, z5⟩
        rw [List.getElem?_set_ne (by omega)]
        exact z3
      · refine cond_f rfl (cond_f (by simp only [decide_eq_false_iff_not]; omega) (cond_f (by simp only [decide_eq_false_iff_not]; omega) ⟨by omega, by omega, fun b hb => ?_⟩))
        rw [h3] at hb
        obtain rfl : false = b := Option.some.inj hb
        refine cond_f rfl ⟨_, h5, by decide, by rw [h4]; decide, fun v hv => ?_⟩
        obtain rfl : x.1 - 1 = v := by simpa using hv
        rw [wrap_i64 (x := x.1 - 1) (by omega) (by omega)]
        refine cond_f (by simp) ?_
        unfold net_Net_Count_wp
        rw [hel, wrap_i64 (by omega) (by omega)]
        show (_ != _) = false
        rw [bne_eq_false_iff_eq]
        omega
  · refine ⟨fun n L last i m => 0 ≤ i ∧ i ≤ k ∧ n = k.toNat - i.toNat ∧ last = i ∧ L.Pairwise (fun x y => x.1 < y.1) ∧ (L.length : Int) = i ∧ ∀ x ∈ L, 1 ≤ x.1 ∧ x.1 ≤ i ∧ x.2.2.2.2.2.2.1 = 1 ∧ PH m x.2.2.2.2.2 [x.1 - 1], ⟨_, by omega, by omega, rfl, rfl, .nil, rfl, by simp⟩, ?_⟩
    rintro n L last i m ⟨i0, i1, rfl, rfl, hs, hl, hall⟩
    have m1 : mayA 1 1 := by decide
    refine cond_d (fun hlt => send_wp (by omega) (by omega) (by omega) (fun h => absurd ⟨m1, m1, by simp⟩ h) (fun _ h => by omega) (fun _ _ hd hh => cond_f rfl ?_)) (fun hge => ?_)
    · rw [wrap_u8 (by omega) (by omega), wrap_i64 (by omega) (by omega)]
      refine ⟨k.toNat - (last + 1).toNat, by omega, by omega, by omega, rfl, rfl, ?_, by rw [List.length_append]; simp only [List.length_cons, List.length_nil]; omega, ?_⟩
      · rw [List.pairwise_append]
        refine ⟨hs, by simp, fun x hx y hy => ?_⟩
        simp only [List.mem_cons, List.not_mem_nil, or_false] at hy
        subst hy
        have := hall x hx
        omega
      · intro x hx
        rcases List.mem_append.1 hx with hx | hx
        · obtain ⟨h1, h2, h3, h4⟩ := hall x hx
          exact ⟨h1, by omega, h3, h4.mono _⟩
        · simp only [List.mem_cons, List.not_mem_nil, or_false] at hx
          subst hx
          refine ⟨by omega, by omega, hh, ?_⟩
          rw [show last + 1 - 1 = last by omega]
          exact PH.new
    · have : last = k := by omega
      subst this
      exact ⟨hs, hl, hall⟩

end Go.Proofs.Ytdgjmiacfpihnaa
