/- The plain side of the statements on datagrams on their way: NetOnce. -/
import Derived.Test.YtdgjmiacfpihnaaP
namespace Go.Proofs.Ytdgjmiacfpihnaa
open Go Go.Eng
set_option maxRecDepth 20000

theorem small_wp {l : List (Int × Int × Int × Int × Int × Int × (List Int))} {K : Bool → Prop} (hl : l.length ≤ 9223372036854775807) (hK : ∀ r, K r) : embrasurelaw13_small_wp l K := by
  unfold embrasurelaw13_small_wp
  refine ⟨fun n i => 0 ≤ i ∧ i ≤ l.length ∧ n = l.length - i.toNat, ⟨_, by omega, by omega, rfl⟩, ?_⟩
  rintro n i ⟨i0, i1, rfl⟩
  refine ⟨fun t => t = true → i < l.length, fun t ht => cond_b (fun e => ⟨i0, ht e, fun x hx => cond_d (fun _ => hK _) (fun _ => ?_)⟩) (fun _ => hK _), cond_d (fun h _ => h) (fun _ h => by cases h)⟩
  have := ht e
  rw [wrap_i64 (by omega) (by omega)]
  exact ⟨l.length - (i + 1).toNat, by omega, by omega, by omega, rfl⟩

/-- Rising numbers, all readable. -/
structure Way (L : List Sn) (last : Int) (m : Pool) : Prop where
  srt : L.Pairwise fun x y => x.1 < y.1
  le : ∀ x ∈ L, x.1 ≤ last
  rd : ∀ x ∈ L, ∃ xs, PH m x.2.2.2.2.2 xs
  len : L.length ≤ 300
  l0 : 0 ≤ last
  l1 : last ≤ 200 + L.length

theorem Way.push {L : List Sn} {last : Int} {m : Pool} (h : Way L last m) (hl : L.length < 300) (f fp t tp : Int) (hd : Option Addr × Nat × Nat) (b : List Int) : Way (L ++ [(last + 1, f, fp, t, tp, hd)]) (last + 1) (m ++ [(hd, b)]) := by
  refine ⟨?_, fun x hx => ?_, fun x hx => ?_, ?_, ?_, ?_⟩
  · rw [List.pairwise_append]
    refine ⟨h.srt, by simp, fun x hx y hy => ?_⟩
    simp only [List.mem_cons, List.not_mem_nil, or_false] at hy
    subst hy
    have := h.le x hx
    omega
  · rcases List.mem_append.1 hx with hx | hx
    · have := h.le x hx; omega
    · simp only [List.mem_cons, List.not_mem_nil, or_false] at hx
      subst hx; simp
  · rcases List.mem_append.1 hx with hx | hx
    · obtain ⟨xs, hp⟩ := h.rd x hx
      exact ⟨xs, hp.mono _⟩
    · simp only [List.mem_cons, List.not_mem_nil, or_false] at hx
      subst hx
      exact ⟨b, PH.new⟩
  · rw [List.length_append]; simp only [List.length_cons, List.length_nil]; omega
  · have := h.l0; omega
  · rw [List.length_append]; simp only [List.length_cons, List.length_nil]; have := h.l1; omega

theorem Way.mono {L : List Sn} {last : Int} {m : Pool} (h : Way L last m) (l : Pool) : Way L last (m ++ l) :=
  ⟨h.srt, h.le, fun x hx => by obtain ⟨xs, hp⟩ := h.rd x hx; exact ⟨xs, hp.mono _⟩, h.len, h.l0, h.l1⟩

theorem Way.lastle {L : List Sn} {last : Int} {m : Pool} (h : Way L last m) : last ≤ 1000000 := by have := h.l1; have := h.len; omega

/-- What was sent with these numbers. -/
def Own (b : List Int) (L : List Sn) (m : Pool) (no : Int) : Prop := ∃ hd : Option Addr × Nat × Nat, (no, 1, 2, 3, 4, hd) ∈ L ∧ PH m hd b

theorem Own.push {b : List Int} {L : List Sn} {m : Pool} {no : Int} (h : Own b L m no) (y : List Sn) (l : Pool) : Own b (L ++ y) (m ++ l) no := by
  obtain ⟨hd, h1, h2⟩ := h
  exact ⟨hd, List.mem_append.2 (.inl h1), h2.mono _⟩

theorem way_uniq {L : List Sn} (hs : L.Pairwise fun x y => x.1 < y.1) {x y : Sn} (hx : x ∈ L) (hy : y ∈ L) (e : x.1 = y.1) : x = y := by
  obtain ⟨i, h1, rfl⟩ := List.getElem_of_mem hx
  obtain ⟨j, h2, rfl⟩ := List.getElem_of_mem hy
  rw [List.pairwise_iff_getElem] at hs
  rcases Nat.lt_trichotomy i j with h | h | h
  · have := hs i j h1 h2 h; omega
  · subst h; rfl
  · have := hs j i h2 h1 h; omega

theorem ba_self (a : ByteArray) : (a == a) = true := by
  cases a with
  | mk x =>
    show (x == x) = true
    simp

theorem netOnce_plain {b : List Int} {copies : Int} {script : List (Int × Int × Int × Int × Int × Int × (List Int))} (_ : ∀ x ∈ b, inK .u8 x) (_ : b.length ≤ 9223372036854775807) (hc : inK .u8 copies)
    (_ : ∀ x ∈ script, inK .i64 x.1 ∧ inK .i64 x.2.1 ∧ inK .u32 x.2.2.1 ∧ inK .i64 x.2.2.2.1 ∧ inK .u32 x.2.2.2.2.1 ∧ inK .i64 x.2.2.2.2.2.1 ∧ ((∀ a ∈ x.2.2.2.2.2.2, inK .u8 a) ∧ x.2.2.2.2.2.2.length ≤ 9223372036854775807)) (hsl : script.length ≤ 9223372036854775807) :
    embrasurelaw13_NetOnce_wp b copies script (· = true) := by
  have hc := u8b hc
  unfold embrasurelaw13_NetOnce_wp
  have ek : Int.tmod (IntKind.wrap .i64 copies) 20 = copies % 20 := by rw [wrap_i64 (by omega) (by omega), tmod_pos hc.1]
  rw [ek]
  have hk : 0 ≤ copies % 20 ∧ copies % 20 < 20 := by omega
  generalize copies % 20 = k at hk ⊢
  refine awake_wp (cond_f rfl ?_)
  refine ⟨fun t => t = false → b.length ≤ 1200, fun t ht => cond_b (fun _ => rfl) (fun e => ?_), cond_d (fun _ h => by cases h) (fun h => small_wp hsl (fun _ _ => by omega))⟩
  have hb := ht e
  unfold net_New_wp
  refine ⟨by simp only [List.length_nil]; omega, ?_⟩
  have m1 : mayA 1 2 := by decide
  have m2 : mayA 3 4 := by decide
  rw [List.nil_append]
  refine send_wp (by simp) (by omega) (by omega) (fun h => absurd ⟨m1, m2, hb⟩ h) (fun _ h => by simp at h) (fun _ _ hd hh => ?_)
  have w0 : Way ([] ++ [(0 + 1, 1, 2, 3, 4, hd)]) (0 + 1) ([] ++ [(hd, b)]) := Way.push ⟨.nil, by simp, by simp, by simp, by omega, by simp⟩ (by simp) 1 2 3 4 hd b
  have o0 : Own b ([] ++ [(0 + 1, 1, 2, 3, 4, hd)]) ([] ++ [(hd, b)]) 1 := ⟨hd, by simp, PH.new⟩
  -- the copies
  refine ⟨fun L last nos m => Way L last m ∧ last ≤ 20 ∧ nos.length ≤ 20 ∧ nos.Pairwise (· < ·) ∧ ∀ no ∈ nos, Own b L m no, fun L last nos m hB => ?_, ?_⟩
  rotate_left
  · refine ⟨fun n L last nos i m => 0 ≤ i ∧ i ≤ k ∧ n = k.toNat - i.toNat ∧ last = i + 1 ∧ (L.length : Int) = i + 1 ∧ (nos.length : Int) = i + 1 ∧ Way L last m ∧ nos.Pairwise (· < ·) ∧ (∀ no ∈ nos, no ≤ last ∧ Own b L m no) ∧ Own b L m 1, ⟨_, by omega, by omega, rfl, by omega, by simp, by simp, w0, by simp, fun no hno => ?_, o0⟩, ?_⟩
    · obtain rfl : no = 0 + 1 := by simpa using hno
      exact ⟨by omega, o0⟩
    · rintro n L last nos i m ⟨i0, i1, rfl, hla, hL, hn, hW, hs, hno, h1⟩
      refine cond_d (fun hlt => ?_) (fun hge => ⟨hW, by omega, by omega, hs, fun no h => (hno no h).2⟩)
      obtain ⟨hd1, hm1, hp1⟩ := h1
      refine copy_wp hW.len hW.l0 hW.lastle (fun h => absurd rfl (h _ hm1)) (fun j x hx e => ?_)
      have hx2 : x = (1, 1, 2, 3, 4, hd1) := way_uniq hW.srt (List.mem_of_getElem? hx) hm1 e
      subst hx2
      refine ⟨b, hp1, fun h => by omega, fun _ => by omega, fun hlt3 hd2 hh2 => cond_f rfl ⟨by simp only [List.length_cons, List.length_nil]; omega, ?_⟩⟩
      rw [wrap_i64 (by omega) (by omega)]
      have hW2 := hW.push hlt3 1 2 3 4 hd2 b
      refine ⟨k.toNat - (i + 1).toNat, by omega, by omega, by omega, rfl, by omega, by rw [List.length_append]; simp only [List.length_cons, List.length_nil]; omega, by rw [List.length_append]; simp only [List.length_cons, List.length_nil]; omega, hW2, ?_, fun no h => ?_, Own.push ⟨hd1, hm1, hp1⟩ _ _⟩
      · rw [List.pairwise_append]
        refine ⟨hs, by simp, fun x hx y hy => ?_⟩
        simp only [List.mem_cons, List.not_mem_nil, or_false] at hy
        subst hy
        have := (hno x hx).1
        omega
      · rcases List.mem_append.1 h with h | h
        · obtain ⟨h3, h4⟩ := hno no h
          exact ⟨by omega, h4.push _ _⟩
        · simp only [List.mem_cons, List.not_mem_nil, or_false] at h
          subst h
          exact ⟨by omega, hd2, by simp, PH.new⟩
  obtain ⟨hW, hla, hnl, hns, hno⟩ := hB
  -- its own bytes are written over
  refine joinP0.i ?_
  refine ⟨fun n own i => 0 ≤ i ∧ i ≤ b.length ∧ n = b.length - i.toNat ∧ own.length = b.length, ⟨_, by omega, by omega, rfl, rfl⟩, ?_⟩
  rintro n own i ⟨i0, i1, rfl, hol⟩
  refine cond_d (fun hlt => ⟨i0, hlt, fun x hx => ⟨i0, hlt, ?_⟩⟩) (fun _ => ?_)
  · rw [wrap_i64 (by omega) (by omega)]
    exact ⟨b.length - (i + 1).toNat, by omega, by omega, by omega, rfl, by rw [List.length_set]; exact hol⟩
  -- others are sent
  refine ⟨fun L last m => Way L last m ∧ ∀ no ∈ nos, Own b L m no, fun L2 last2 m3 hB => ?_, ?_⟩
  rotate_left
  · refine ⟨fun n L last i m => 0 ≤ i ∧ i ≤ script.length ∧ n = script.length - i.toNat ∧ Way L last m ∧ ∀ no ∈ nos, Own b L m no, ⟨_, by omega, by omega, rfl, hW, hno⟩, ?_⟩
    rintro n L last i m ⟨i0, i1, rfl, hW, hno⟩
    refine ⟨fun t => t = true → i < script.length, fun t ht => cond_b (fun e => ?_) (fun _ => ⟨hW, hno⟩), cond_d (fun h _ => h) (fun _ h => by cases h)⟩
    have hlt := ht e
    rw [wrap_i64 (by omega) (by omega)]
    refine ⟨i0, hlt, fun x hx => cond_e (fun _ => ⟨i0, hlt, fun x2 hx2 => ⟨i0, hlt, fun x3 hx3 => ⟨i0, hlt, fun x4 hx4 => ?_⟩⟩⟩) (fun _ => ⟨script.length - (i + 1).toNat, by omega, by omega, by omega, rfl, hW, hno⟩)⟩
    refine send_wp hW.len hW.l0 hW.lastle (fun _ => ⟨script.length - (i + 1).toNat, by omega, by omega, by omega, rfl, hW, hno⟩) (fun _ _ => ⟨script.length - (i + 1).toNat, by omega, by omega, by omega, rfl, hW, hno⟩) (fun _ hlt3 hd2 hh2 => ⟨script.length - (i + 1).toNat, by omega, by omega, by omega, rfl, hW.push hlt3 _ _ _ _ hd2 _, fun no h => (hno no h).push _ _⟩)
  clear hW hno
  obtain ⟨hW, hno⟩ := hB
  -- all are taken
  refine ⟨fun L m => Way L last2 m ∨ (∃ j : Nat, j ≤ 20 ∧ L.Pairwise (fun x y : Sn => x.1 < y.1) ∧ (∀ x ∈ L, x.1 ≤ last2) ∧ (∀ x ∈ L, ∃ xs, PH m x.2.2.2.2.2 xs) ∧ L.length + j ≤ 300 ∧ 0 ≤ last2 ∧ last2 ≤ 200 + L.length + j), fun L m hB => ?_, ?_⟩
  rotate_left
  · refine ⟨fun n L i m => 0 ≤ i ∧ i ≤ nos.length ∧ n = nos.length - i.toNat ∧ L.Pairwise (fun x y : Sn => x.1 < y.1) ∧ (∀ x ∈ L, x.1 ≤ last2) ∧ (∀ x ∈ L, ∃ xs, PH m x.2.2.2.2.2 xs) ∧ L.length + i ≤ 300 ∧ last2 ≤ 200 + L.length + i ∧ ∀ no ∈ nos.drop i.toNat, Own b L m no, ⟨_, by omega, by omega, rfl, hW.srt, hW.le, hW.rd, by have := hW.len; omega, by have := hW.l1; omega, by simpa using hno⟩, ?_⟩
    rintro n L i m ⟨i0, i1, rfl, hs, hle, hrd, hL, hl1, hno⟩
    refine cond_d (fun hlt => ⟨i0, hlt, fun no hn => ?_⟩) (fun hge => .inr ⟨i.toNat, by omega, hs, hle, hrd, by omega, hW.l0, by omega⟩)
    have hdr : nos.drop i.toNat = no :: nos.drop (i + 1).toNat := by
      obtain ⟨hi, rfl⟩ := List.getElem?_eq_some_iff.1 hn
      rw [show (i + 1).toNat = i.toNat + 1 by omega, List.drop_eq_getElem_cons hi]
    obtain ⟨hd1, hm1, hp1⟩ := hno no (by rw [hdr]; exact List.mem_cons_self ..)
    refine take_wp (by omega) (fun h => absurd rfl (h _ hm1)) (fun j x hx e => ?_)
    have hx2 : x = (no, 1, 2, 3, 4, hd1) := way_uniq hs (List.mem_of_getElem? hx) hm1 e
    subst hx2
    have hj := (List.getElem?_eq_some_iff.1 hx).1
    have hne := erase_ne hs hx
    have hel : (L.eraseIdx j).length = L.length - 1 := by rw [List.length_eraseIdx, if_pos hj]
    refine ⟨i0, hlt, fun no2 hn2 => ?_⟩
    obtain rfl : no = no2 := Option.some.inj (hn.symm.trans hn2)
    refine take_wp (by omega) (fun _ hd2 hh2 => ?_) (fun j2 y hy e2 => absurd e2 (hne y (List.mem_of_getElem? hy)))
    refine ⟨fun t => t = false, fun t ht => ?_, ?_⟩
    · subst ht
      rw [wrap_i64 (by omega) (by omega)]
      have hsub := List.eraseIdx_sublist L j
      refine cond_f rfl ⟨nos.length - (i + 1).toNat, by omega, by omega, by omega, rfl, hs.sublist hsub, fun z hz => hle z (hsub.subset hz), fun z hz => ?_, by omega, by omega, fun no' h => ?_⟩
      · obtain ⟨xs, hp⟩ := hrd z (hsub.subset hz)
        exact ⟨xs, hp.mono _⟩
      · obtain ⟨hd3, hm3, hp3⟩ := hno no' (by rw [hdr]; exact List.mem_cons_of_mem _ h)
        refine ⟨hd3, ?_, hp3.mono _⟩
        obtain ⟨q, hq⟩ := List.getElem?_of_mem hm3
        refine List.mem_eraseIdx_iff_getElem?.2 ⟨q, fun hqj => ?_, hq⟩
        subst hqj
        have e3 := Option.some.inj (hq.symm.trans hx)
        have hp5 : (nos.drop i.toNat).Pairwise (· < ·) := hns.sublist (List.drop_sublist _ _)
        rw [hdr, List.pairwise_cons] at hp5
        have := hp5.1 no' h
        have e4 : no' = no := congrArg Prod.fst e3
        omega
    · have fin : ∀ {Q : Bool → Prop}, Q false → ∃ xs, PH (m ++ [(hd2, [])]) hd1 xs ∧ (cond (!((strOf xs) == (strOf b))) (Q true) (0 ≤ (i : Int) ∧ (i : Int) < ((nos.length : Nat) : Int) ∧ (∀ (x_9 : Int), nos[Int.toNat i]? = some x_9 → (Q ((no : Int) != x_9))))) := by
        intro Q hQ
        refine ⟨b, hp1.mono _, cond_f (by rw [ba_self]; rfl) ⟨i0, hlt, fun no3 hn3 => ?_⟩⟩
        obtain rfl : no = no3 := Option.some.inj (hn.symm.trans hn3)
        rw [show ((no : Int) != no) = false by simp]
        exact hQ
      exact cond_f rfl (cond_f rfl (cond_f rfl (cond_f rfl ⟨fin (Q := fun t => t = false) rfl, fin (Q := fun t => t = false) rfl⟩)))
  -- filled up
  have hB2 : ∃ j : Nat, j ≤ 20 ∧ L.Pairwise (fun x y : Sn => x.1 < y.1) ∧ (∀ x ∈ L, x.1 ≤ last2) ∧ (∀ x ∈ L, ∃ xs, PH m x.2.2.2.2.2 xs) ∧ L.length + j ≤ 300 ∧ 0 ≤ last2 ∧ last2 ≤ 200 + L.length + j := by
    rcases hB with h | h
    · exact ⟨0, by omega, h.srt, h.le, h.rd, by have := h.len; omega, h.l0, by have := h.l1; omega⟩
    · exact h
  obtain ⟨j, hj, hs, hle, hrd, hL, hl0, hl1⟩ := hB2
  refine ⟨fun L last m => L.length = 300 ∧ 0 ≤ last ∧ last ≤ 1000 ∧ ∀ x ∈ L, ∃ xs, PH m x.2.2.2.2.2 xs, fun L last m hB => ?_, ?_⟩
  · obtain ⟨hL, hl0, hl1, hrd⟩ := hB
    refine send_wp (by omega) hl0 (by omega) (fun h => absurd ⟨m1, m2, by simp⟩ h) (fun _ _ => ?_) (fun _ h => by omega)
    refine at_wp (by omega) (fun h => by rw [h] at hL; simp at hL) (fun x hx => ?_)
    have hxm := List.mem_of_getElem? hx
    refine copy_wp (by omega) hl0 (by omega) (fun h => absurd rfl (h x hxm)) (fun i y hy e => ?_)
    obtain ⟨xs, hp⟩ := hrd y (List.mem_of_getElem? hy)
    exact ⟨xs, hp, fun _ => cond_t rfl (cond_t rfl rfl), fun h => by omega, fun h => by omega⟩
  · refine ⟨fun n L last m => L.length + n = 300 ∧ 0 ≤ last ∧ last ≤ 220 + L.length ∧ ∀ x ∈ L, ∃ xs, PH m x.2.2.2.2.2 xs, ⟨300 - L.length, by omega, hl0, by omega, hrd⟩, ?_⟩
    intro n L last m hI
    have hL : L.length + n = 300 := hI.1
    have hl0 : 0 ≤ last := hI.2.1
    have hl1 : last ≤ 220 + L.length := hI.2.2.1
    have hrd : ∀ x ∈ L, ∃ xs, PH m x.2.2.2.2.2 xs := hI.2.2.2
    unfold net_Net_Count_wp
    refine cond_d (fun hlt => ?_) (fun hge => ?_)
    rotate_left
    · have hL3 : L.length = 300 := by omega
      exact And.intro hL3 (And.intro hl0 (And.intro (by omega) hrd))
    refine send_wp (by omega) hl0 (by omega) (fun h => absurd ⟨m1, m2, by simp⟩ h) (fun _ h => by omega) (fun _ hlt3 hd2 hh2 => cond_f rfl ?_)
    refine ⟨n - 1, by omega, ?_, by omega, ?_, fun x hx => ?_⟩
    · rw [List.length_append]; simp only [List.length_cons, List.length_nil]; omega
    · rw [List.length_append]; simp only [List.length_cons, List.length_nil]; omega
    · rcases List.mem_append.1 hx with hx | hx
      · obtain ⟨xs, hp⟩ := hrd x hx
        exact ⟨xs, hp.mono _⟩
      · simp only [List.mem_cons, List.not_mem_nil, or_false] at hx
        subst hx
        exact ⟨_, PH.new⟩

end Go.Proofs.Ytdgjmiacfpihnaa
