/- The plain side of the statements on datagrams on their way: NetAll. -/
import Derived.Test.YtdgjmiacfpihnaaR
namespace Go.Proofs.Ytdgjmiacfpihnaa
open Go Go.Eng
set_option maxRecDepth 20000

/-- What was sent as the j-th. -/
def Sent (l : List (List Int)) (L : List Sn) (m : Pool) (j : Nat) : Prop := ∃ (hd : Option Addr × Nat × Nat) (b : List Int), (((j : Nat) : Int) + 1, 1, 1, 1, 1, hd) ∈ L ∧ l[j]? = some b ∧ PH m hd b ∧ b.length ≤ 1200

theorem Sent.push {l : List (List Int)} {L : List Sn} {m : Pool} {j : Nat} (h : Sent l L m j) (y : List Sn) (p : Pool) : Sent l (L ++ y) (m ++ p) j := by
  obtain ⟨hd, b, h1, h2, h3, h4⟩ := h
  exact ⟨hd, b, List.mem_append.2 (.inl h1), h2, h3.mono _, h4⟩

theorem netAll_plain {list : List (List Int)} {stop : Int} (_ : ∀ x ∈ list, (∀ a ∈ x, inK .u8 a) ∧ x.length ≤ 9223372036854775807) (_ : list.length ≤ 9223372036854775807) (hst : inK .u8 stop) : embrasurelaw13_NetAll_wp list stop (· = true) := by
  have hst := u8b hst
  unfold embrasurelaw13_NetAll_wp
  rw [wrap_i64 (x := stop) (by omega) (by omega)]
  refine awake_wp (cond_f rfl (cond_d (fun _ => rfl) (fun h60 => ?_)))
  unfold net_New_wp
  have m1 : mayA 1 1 := by decide
  refine ⟨fun L last m => (L.length : Int) = list.length ∧ last = list.length ∧ Way L last m ∧ (∀ j : Nat, j < list.length → Sent list L m j) ∧ ∀ x ∈ L, ∃ b : List Int, PH m x.2.2.2.2.2 b ∧ b.length ≤ 1200, fun L last m hS => ?_, ?_⟩
  rotate_left
  · refine ⟨fun n L last i m => 0 ≤ i ∧ i ≤ list.length ∧ n = list.length - i.toNat ∧ (L.length : Int) = i ∧ last = i ∧ Way L last m ∧ (∀ j : Nat, (j : Int) < i → Sent list L m j) ∧ ∀ x ∈ L, ∃ b : List Int, PH m x.2.2.2.2.2 b ∧ b.length ≤ 1200, ⟨_, by omega, by omega, rfl, rfl, rfl, ⟨.nil, by simp, by simp, by simp, by omega, by simp⟩, fun j h => by omega, by simp⟩, ?_⟩
    rintro n L last i m ⟨i0, i1, rfl, hL, rfl, hW, hj, hc⟩
    refine cond_d (fun hlt => ⟨i0, hlt, fun b hb => cond_d (fun _ => rfl) (fun hb12 => ⟨i0, hlt, fun b2 hb2 => ?_⟩)⟩) (fun hge => ?_)
    · obtain rfl : b = b2 := Option.some.inj (hb.symm.trans hb2)
      rw [wrap_i64 (by omega) (by omega)]
      refine send_wp hW.len hW.l0 hW.lastle (fun h => absurd ⟨m1, m1, by omega⟩ h) (fun _ h => by omega) (fun _ hlt3 hd hh => ⟨list.length - (last + 1).toNat, by omega, by omega, by omega, rfl, ?_, rfl, hW.push hlt3 _ _ _ _ hd b, fun j hjl => ?_, fun x hx => ?_⟩)
      · rw [List.length_append]; simp only [List.length_cons, List.length_nil]; omega
      · by_cases hjj : (j : Int) < last
        · exact (hj j hjj).push _ _
        · refine ⟨hd, b, List.mem_append.2 (.inr ?_), ?_, PH.new, by omega⟩
          · rw [show ((j : Nat) : Int) = last by omega]; simp
          · rw [show j = last.toNat by omega]; exact hb
      · rcases List.mem_append.1 hx with hx | hx
        · obtain ⟨b', h1, h2⟩ := hc x hx
          exact ⟨b', h1.mono _, h2⟩
        · simp only [List.mem_cons, List.not_mem_nil, or_false] at hx
          subst hx
          exact ⟨b, PH.new, by omega⟩
    · exact ⟨by omega, by omega, hW, fun j h => hj j (by omega), hc⟩
  obtain ⟨hL, rfl, hW, hj, hc⟩ := hS
  have hlr : L.length ≤ 60 := by omega
  refine ⟨fun c L' last' m' => 0 ≤ c ∧ c ≤ list.length ∧ (c = list.length ∨ c = stop) ∧ (L'.length : Int) = list.length + c ∧ Way L' last' m' ∧ ∀ j : Nat, j < list.length → Sent list L' m' j, fun c L' last' m' hS => ?_, ?_⟩
  · obtain ⟨c0, c1, hcs, hL', hW', hj'⟩ := hS
    refine joinP0.i ?_
    refine ⟨fun t => t = false, fun t ht => cond_f ht ?_, ?_⟩
    · refine ⟨fun n L i m => 0 ≤ i ∧ i ≤ list.length ∧ n = list.length - i.toNat ∧ L.length ≤ 300 ∧ L.Pairwise (fun x y : Sn => x.1 < y.1) ∧ ∀ j : Nat, i ≤ j → j < list.length → Sent list L m j, ⟨_, by omega, by omega, rfl, hW'.len, hW'.srt, fun j _ h => hj' j h⟩, ?_⟩
      rintro n L i m ⟨i0, i1, rfl, hl3, hs, hj⟩
      refine cond_d (fun hlt => ?_) (fun _ => rfl)
      rw [wrap_i64 (by omega) (by omega)]
      obtain ⟨hd, b, hm, hb, hp, hbl⟩ := hj i.toNat (by omega) (by omega)
      rw [show ((i.toNat : Nat) : Int) = i by omega] at hm
      refine take_wp hl3 (fun h => absurd rfl (h _ hm)) (fun q x hx e => ?_)
      have hx2 : x = (i + 1, 1, 1, 1, 1, hd) := way_uniq hs (List.mem_of_getElem? hx) hm e
      subst hx2
      have hsub := List.eraseIdx_sublist L q
      refine ⟨fun t => t = false, fun t ht => cond_f ht ⟨list.length - (i + 1).toNat, by omega, by omega, by omega, rfl, Nat.le_trans hsub.length_le hl3, hs.sublist hsub, fun j h1 h2 => ?_⟩, ?_⟩
      · obtain ⟨hd3, b3, hm3, hb3, hp3, hl3'⟩ := hj j (by omega) h2
        refine ⟨hd3, b3, ?_, hb3, hp3, hl3'⟩
        obtain ⟨r, hr⟩ := List.getElem?_of_mem hm3
        refine List.mem_eraseIdx_iff_getElem?.2 ⟨r, fun hrq => ?_, hr⟩
        subst hrq
        have e3 := Option.some.inj (hr.symm.trans hx)
        have e4 : ((j : Nat) : Int) + 1 = i + 1 := congrArg Prod.fst e3
        omega
      · refine cond_f rfl ⟨i0, hlt, fun b2 hb2 => ?_⟩
        obtain rfl : b = b2 := Option.some.inj (hb.symm.trans hb2)
        exact ⟨b, hp, same1_wp (by omega) rfl⟩
    · have hco : ∀ {Q : Bool → Prop}, Q false → net_Net_Count_wp L' last' (fun (r_5 : Int) => Q ((r_5 : Int) != (IntKind.wrap .i64 (((list.length : Nat) : Int) + c)))) := by
        intro Q hQ
        unfold net_Net_Count_wp
        rw [wrap_i64 (by omega) (by omega)]
        show Q (((L'.length : Nat) : Int) != (list.length : Int) + c)
        rw [show (((L'.length : Nat) : Int) != (list.length : Int) + c) = false by rw [bne_eq_false_iff_eq]; omega]
        exact hQ
      refine cond_n (fun h1 => cond_n (fun h2 => ?_) (fun _ => hco (Q := fun t => t = false) rfl)) (fun _ => hco (Q := fun t => t = false) rfl)
      rcases hcs with h | h
      · exact absurd h h1
      · exact absurd h h2
  · refine all_wp hW.len ?_
    unfold net_Net_All_c1_wp
    refine ⟨fun n t7 s => 0 ≤ t7 ∧ t7 ≤ L.length ∧ n = L.length - t7.toNat ∧ s.1 = 0 ∧ s.2.2.2.1 = t7 ∧ (s.2.1.length : Int) = list.length + t7 ∧ Way s.2.1 s.2.2.1 (m ++ s.2.2.2.2) ∧ ∀ j : Nat, j < list.length → Sent list s.2.1 (m ++ s.2.2.2.2) j, ⟨_, by omega, by omega, rfl, rfl, rfl, by simp only; omega, by simpa using hW, by simpa using hj⟩, ?_⟩
    rintro n t7 ⟨st, L2, la, c, m2⟩ ⟨t0, t1, rfl, hst0, hct, hl2, hW2, hj2⟩
    simp only at hst0 hct hl2 hW2 hj2
    subst hst0; subst hct
    refine cond_d (fun hlt => ⟨t0, hlt, fun y hy => ?_⟩) (fun hge => .inl ⟨rfl, (show 0 ≤ c by omega), (show c ≤ list.length by omega), .inl (show c = list.length by omega), (show ((L2.length : Nat) : Int) = list.length + c by omega), hW2, hj2⟩)
    obtain ⟨b, hb, hbl⟩ := hc y (List.mem_of_getElem? hy)
    refine ⟨b, hb, bclone_wp (by omega) ⟨rfl, ?_⟩⟩
    refine ⟨fun _ => True, fun _ _ => ?_, ?_⟩
    · simp only
      rw [wrap_i64 (by omega) (by omega)]
      refine send_wp hW2.len hW2.l0 hW2.lastle (fun h => absurd ⟨m1, m1, by simp⟩ h) (fun _ h => by omega) (fun _ hlt3 hd hh => ?_)
      have hW3 := hW2.push hlt3 1 1 1 1 hd ([] : List Int)
      rw [List.append_assoc] at hW3
      have hj3 : ∀ j : Nat, j < list.length → Sent list (L2 ++ [(la + 1, 1, 1, 1, 1, hd)]) (m ++ (m2 ++ [(hd, [])])) j := fun j h => by rw [← List.append_assoc]; exact (hj2 j h).push _ _
      have hl3 : (((L2 ++ [(la + 1, 1, 1, 1, 1, hd)]).length : Nat) : Int) = list.length + (c + 1) := by rw [List.length_append]; simp only [List.length_cons, List.length_nil]; omega
      refine cond_e (fun e => ?_) (fun e => ?_)
      · exact cond_t rfl (.inr ⟨by simp, by omega, by omega, .inr e, hl3, hW3, hj3⟩)
      · exact cond_f rfl ⟨L.length - (c + 1).toNat, by omega, by omega, by omega, rfl, trivial, trivial, hl3, hW3, hj3⟩
    · refine ⟨fun n B k => 0 ≤ k ∧ k ≤ b.length ∧ n = b.length - k.toNat ∧ B.length = b.length, ⟨_, by omega, by omega, rfl, rfl⟩, ?_⟩
      rintro n B k ⟨k0, k1, rfl, hB⟩
      refine cond_d (fun hklt => ⟨k0, hklt, fun v hv => ⟨k0, hklt, ?_⟩⟩) (fun _ => trivial)
      rw [wrap_i64 (by omega) (by omega)]
      exact ⟨b.length - (k + 1).toNat, by omega, by omega, by omega, rfl, by rw [List.length_set]; exact hB⟩

end Go.Proofs.Ytdgjmiacfpihnaa
