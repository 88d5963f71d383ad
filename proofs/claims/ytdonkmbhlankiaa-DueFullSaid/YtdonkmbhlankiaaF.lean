/- The laws of the table: full. -/
import Derived.Test.YtdonkmbhlankiaaT
namespace Go.Proofs.Ytdonkmbhlankiaa
open Go Go.Eng Go.Proofs Go.Sort
set_option maxRecDepth 20000
set_option maxHeartbeats 2000000

def nm (k : Nat) : ByteArray := strOf [110, ((97 + k / 26 : Nat) : Int), ((97 + k % 26 : Nat) : Int)]

theorem nm_bytes {k : Nat} (hk : k < 200) : (nm k).data.toList.map UInt8.toNat = [110, 97 + k / 26, 97 + k % 26] := by
  show [UInt8.toNat (UInt8.ofNat 110), UInt8.toNat (UInt8.ofNat (97 + k / 26)), UInt8.toNat (UInt8.ofNat (97 + k % 26))] = _
  rw [UInt8.toNat_ofNat_of_lt' (by show 110 < 256; omega), UInt8.toNat_ofNat_of_lt' (by show 97 + k / 26 < 256; omega), UInt8.toNat_ofNat_of_lt' (by show 97 + k % 26 < 256; omega)]

theorem nm_inj {i j : Nat} (hi : i < 200) (hj : j < 200) (h : nm i = nm j) : i = j := by
  have := nm_bytes hi
  rw [h, nm_bytes hj] at this
  simp only [List.cons.injEq, and_true, true_and] at this
  omega

theorem nm_eq {k : Nat} (hk : k < 200) : strOf [110, (IntKind.wrap .u8 (IntKind.wrap .i64 (97 + (IntKind.wrap .i64 (Int.tdiv (k : Int) 26))))), (IntKind.wrap .u8 (IntKind.wrap .i64 (97 + (Int.tmod (k : Int) 26))))] = nm k := by
  have e1 : Int.tdiv (k : Int) 26 = ((k / 26 : Nat) : Int) := rfl
  have e2 : Int.tmod (k : Int) 26 = ((k % 26 : Nat) : Int) := rfl
  have h1 : k / 26 < 8 := by omega
  have h2 : k % 26 < 26 := by omega
  rw [e1, e2, wrap_i64 (x := ((k / 26 : Nat) : Int)) (by omega) (by omega), wrap_i64 (x := 97 + ((k / 26 : Nat) : Int)) (by omega) (by omega), wrap_i64 (x := 97 + ((k % 26 : Nat) : Int)) (by omega) (by omega), wrap_u8 (by omega) (by omega), wrap_u8 (by omega) (by omega)]
  unfold nm
  rw [show 97 + ((k / 26 : Nat) : Int) = ((97 + k / 26 : Nat) : Int) by omega, show 97 + ((k % 26 : Nat) : Int) = ((97 + k % 26 : Nat) : Int) by omega]

theorem tell_full {K : TM → Nat × Int × Int → Prop} : ∀ (L : TM) (last : Int) (c : Nat), L.Pairwise elt → (∀ p ∈ L, last ≤ p.2 ∧ p.2 ≤ 65535) → c + L.length ≤ 1000 → (∀ last', K [] (0, last', ((c + L.length : Nat) : Int))) →
    TellP (fun _ _ s => s.1 = 0) (fun _ a s => if a < s.2.1 then (false, (1, s.2.1, s.2.2)) else (true, (0, a, IntKind.wrap .i64 (s.2.2 + 1)))) 1073741824 L ((0, last, (c : Int)) : Nat × Int × Int) K
  | [], last, c, _, _, _, hK => hK last
  | p :: L, last, c, hs, hp, hl, hK => by
    have h1 := hp p List.mem_cons_self
    rw [List.pairwise_cons] at hs
    rw [List.length_cons] at hl
    rw [TellP, if_neg (by omega)]
    dsimp only
    rw [if_neg (show ¬ p.2 < last by omega), if_pos rfl, wp1 (by omega)]
    refine ⟨rfl, tell_full L _ _ hs.2 (fun q hq => ⟨?_, (hp q (List.mem_cons_of_mem _ hq)).2⟩) (by omega) fun last' => ?_⟩
    · have := hs.1 q hq
      unfold elt at this
      omega
    · have := hK last'
      rw [List.length_cons] at this
      rw [show c + 1 + L.length = c + (L.length + 1) by omega]; exact this

structure Full (k : Nat) (name : ByteArray) (m : TM) : Prop where
  kn : KN m
  len : m.length = k
  small : Small m
  has : ∀ x, mapHas m x = true → ∃ j, j < k ∧ x = nm j
  last : k = 0 ∨ mapHas m name = true

theorem dueFull_plain {times : List Int} {extra : ByteArray} (ht : ∀ x ∈ times, inK .u16 x) (hl : times.length ≤ maxLen) (_ : extra.size ≤ maxLen) : embrasurelaw06_DueFull_wp times extra (· = true) := by
  unfold embrasurelaw06_DueFull_wp
  refine awake_wp (cond_f rfl ?_)
  unfold due_New_wp
  refine ⟨fun name m => Full 200 name m, ?_, ?_⟩
  · intro name m hF
    have hlen := hF.len
    refine ⟨fun t m1 => t = false ∧ KN m1 ∧ m1.length = 200 ∧ Small m1, ?_, ?_⟩
    · rintro t m1 ⟨rfl, hk1, hl1, hs1⟩
      refine cond_f rfl (cond_d (fun _ => rfl) (fun _ => ?_))
      obtain ⟨L, hL⟩ := exists_rep m1 hk1
      have hLl := hL.len
      refine joinP3.i ?_
      unfold due_Table_Due_wp
      refine due_wp (ok := fun _ _ s => s.1 = 0) (step := fun _ a s => if a < s.2.1 then (false, (1, s.2.1, s.2.2)) else (true, (0, a, IntKind.wrap .i64 (s.2.2 + 1)))) ?_ hL (by omega) (tell_full L 0 0 hL.sorted (fun p hp => hs1 p (hL.perm.mem_iff.1 hp)) (by omega) ?_)
      · intro x a s N hok hN
        refine ⟨hok, cond_d (fun h2 => ?_) (fun h2 => ?_)⟩
        · rw [if_pos h2] at hN; exact hN
        · rw [if_neg h2] at hN; exact hN
      · intro last' m' hm' hl'
        refine Or.inl ⟨rfl, ?_⟩
        refine next_wp hm' (by omega) (fun _ => ?_) (fun p M e => by cases e)
        dsimp only
        rw [Nat.zero_add, hLl, hl1]
        refine cond_t rfl (cond_t rfl ?_)
        unfold due_Table_Drop_wp
        have hz : m' = [] := List.eq_nil_of_length_eq_zero (by rw [← hm'.len]; rfl)
        subst hz
        rfl
    · have hno : mapHas m (ByteArray.mk ([97, 110, 111, 116, 104, 101, 114]).toArray) = false := by
        cases hx : mapHas m (ByteArray.mk ([97, 110, 111, 116, 104, 101, 114]).toArray) with
        | false => rfl
        | true =>
          obtain ⟨j, _, e⟩ := hF.has _ hx
          have : (7 : Nat) = 3 := congrArg ByteArray.size e
          omega
      have hn : mapHas m name = true := by
        rcases hF.last with h | h
        · omega
        · exact h
      refine set_full (by decide) (by decide) hno (by omega) (cond_f (by decide) ?_)
      refine set_wp (by decide) (by decide) (Or.inl hn) (cond_f (by decide) ?_)
      obtain ⟨L, hL⟩ := exists_rep _ (hF.kn.put name 7)
      have hl2 : (mapPut m name 7).length = 200 := by rw [length_put, if_pos hn]; exact hlen
      refine names_wp hL (by omega) ⟨?_, hF.kn.put _ _, hl2, hF.small.put hF.kn (by decide) (by decide)⟩
      rw [List.length_map, hL.len, hl2]; rfl
  · refine ⟨fun n name i m => ∃ k : Nat, i = k ∧ k ≤ 200 ∧ Full k name m ∧ n = 200 - k, ⟨_, 0, rfl, Nat.zero_le _, ⟨KN.nil, rfl, Small.nil, fun x hx => (by have h : (false = true) := hx; cases h), Or.inl rfl⟩, rfl⟩, ?_⟩
    rintro n name i m ⟨k, rfl, hk, hF, rfl⟩
    have hlen := hF.len
    refine cond_d (fun hlt => ?_) (fun hge => ?_)
    · have hk2 : k < 200 := by omega
      rw [nm_eq hk2, wp1 (by omega)]
      have hno : mapHas m (nm k) = false := by
        cases hx : mapHas m (nm k) with
        | false => rfl
        | true =>
          obtain ⟨j, hj, e⟩ := hF.has _ hx
          have := nm_inj hk2 (by omega) e
          omega
      refine ⟨fun v => 0 ≤ v ∧ v ≤ 65535, ?_, ?_⟩
      · rintro v ⟨h0, h1⟩
        refine set_wp h0 (by omega) (Or.inr (by omega)) (cond_f (by decide) ⟨200 - (k + 1), by omega, k + 1, rfl, by omega, ⟨hF.kn.put _ _, ?_, hF.small.put hF.kn h0 h1, fun x hx => ?_, Or.inr ?_⟩, rfl⟩)
        · rw [length_put, hno]; simp [hlen]
        · rw [mapHas_put hF.kn, Bool.or_eq_true, decide_eq_true_eq] at hx
          rcases hx with h | h
          · exact ⟨k, by omega, h⟩
          · obtain ⟨j, hj, e⟩ := hF.has x h
            exact ⟨j, by omega, e⟩
        · rw [mapHas_put hF.kn, decide_eq_true rfl]; rfl
      · refine cond_d (fun hpos => ⟨by omega, ?_⟩) (fun _ => ⟨by decide, by decide⟩)
        rw [tmodN]
        have hmod : k % times.length < times.length := Nat.mod_lt _ (by omega)
        refine ⟨by omega, by omega, fun v hv => ?_⟩
        have hv0 : 0 ≤ v ∧ v ≤ 65535 := by
          have := ht _ (List.mem_of_getElem? hv)
          simpa [inK] using this
        rw [wrap_i64 (by omega) (by omega)]; exact hv0
    · have e : k = 200 := by omega
      subst e; exact hF

end Go.Proofs.Ytdonkmbhlankiaa
