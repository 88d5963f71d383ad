/- The laws of the table: what every one asks first, the names. -/
import Derived.Test.YtdonkmbhlankiaaR
import Derived.Test.YtdonkmbhlankiaaEngR
namespace Go.Proofs.Ytdonkmbhlankiaa
open Go Go.Eng Go.Proofs Go.Sort
set_option maxRecDepth 20000
set_option maxHeartbeats 2000000

theorem ba_beq (a b : ByteArray) : (a == b) = decide (a = b) := by
  cases a with
  | mk x =>
    cases b with
    | mk y =>
      show (x == y) = _
      by_cases h : x = y
      · subst h; simp
      · rw [decide_eq_false (by simpa using h)]
        simpa using h

theorem ba_self (a : ByteArray) : (a == a) = true := by rw [ba_beq]; exact decide_eq_true rfl

theorem set_wp {m : TM} {name : ByteArray} {v : Int} {K : Int → TM → Prop} (h0 : 0 ≤ v) (h1 : v ≤ 1099511627776) (hl : mapHas m name = true ∨ m.length < 200) (hK : K 0 (mapPut m name v)) : due_Table_Set_wp m name v K := by
  unfold due_Table_Set_wp
  refine joinP0.i ⟨fun t => t = false, ?_, ?_⟩
  · rintro t rfl
    refine ⟨fun t => t = false, ?_, ?_⟩
    · rintro t rfl; exact hK
    · refine cond_b (fun h => ?_) (fun _ => rfl)
      rcases hl with hl | hl
      · rw [hl] at h; cases h
      · exact decide_eq_false (by omega)
  · exact cond_d (fun h => absurd h (by omega)) (fun _ => decide_eq_false (by omega))

theorem set_arg {m : TM} {name : ByteArray} {v : Int} {K : Int → TM → Prop} (h0 : v < 0) (hK : K 1 m) : due_Table_Set_wp m name v K := by
  unfold due_Table_Set_wp
  refine joinP0.i ⟨fun t => t = true, ?_, ?_⟩
  · rintro t rfl; exact hK
  · exact cond_d (fun _ => rfl) (fun h => absurd h0 h)

theorem set_full {m : TM} {name : ByteArray} {v : Int} {K : Int → TM → Prop} (h0 : 0 ≤ v) (h1 : v ≤ 1099511627776) (hh : mapHas m name = false) (hl : 200 ≤ m.length) (hK : K 10 m) : due_Table_Set_wp m name v K := by
  unfold due_Table_Set_wp
  refine joinP0.i ⟨fun t => t = false, ?_, ?_⟩
  · rintro t rfl
    refine ⟨fun t => t = true, ?_, ?_⟩
    · rintro t rfl; exact hK
    · refine cond_b (fun _ => decide_eq_true (by omega)) (fun h => ?_)
      rw [hh] at h; cases h
  · exact cond_d (fun h => absurd h (by omega)) (fun _ => decide_eq_false (by omega))

def bA : ByteArray := ByteArray.mk ([97]).toArray
def bB : ByteArray := ByteArray.mk ([98]).toArray
def bC : ByteArray := ByteArray.mk ([99]).toArray

theorem awake_m : mapPut (mapPut (mapPut ([] : TM) bA 5) bB 3) bC 9 = [(bA, 5), (bB, 3), (bC, 9)] := by kernel_rfl
theorem awake_rep : Rep [(bA, 5), (bB, 3), (bC, 9)] [(bB, 3), (bA, 5), (bC, 9)] where
  kn := by unfold KN; decide
  perm := List.Perm.swap _ _ _
  sorted := by simp [elt]

theorem awake_wp {K : Bool → Prop} (h : K true) : embrasurelaw06_awake_wp K := by
  unfold embrasurelaw06_awake_wp due_New_wp
  refine set_wp (by decide) (by decide) (Or.inr (by decide)) ?_
  refine set_wp (by decide) (by decide) (Or.inr (by decide)) ?_
  refine set_wp (by decide) (by decide) (Or.inr (by decide)) ?_
  have e : mapPut (mapPut (mapPut ([] : TM) (ByteArray.mk ([97]).toArray) 5) (ByteArray.mk ([98]).toArray) 3) (ByteArray.mk ([99]).toArray) 9 = [(bA, 5), (bB, 3), (bC, 9)] := awake_m
  rw [e]
  refine joinP2.i ?_
  unfold due_Table_Due_wp
  refine due_wp (ok := fun x a s => s.1 = 0 ∧ s.2.size + x.size ≤ 9223372036854775807) (step := fun x a s => if a > 6 then (false, (1, s.2)) else (true, (0, s.2 ++ x))) ?_ awake_rep (by decide) ?_
  · intro x a s N hok hN
    refine ⟨hok.1, cond_d (fun h2 => ?_) (fun h2 => ⟨hok.2, ?_⟩)⟩
    · rw [if_pos h2] at hN; exact hN
    · rw [if_neg h2] at hN; exact hN
  · refine ⟨⟨rfl, by decide⟩, ⟨⟨rfl, by decide⟩, ?_⟩⟩
    rintro m' hm' -
    refine Or.inl ⟨rfl, ?_⟩
    have hz : m'.length ≤ 1000 := by rw [← hm'.len]; decide
    refine next_wp hm' hz (fun e => by cases e) (fun p M e => ?_)
    cases e
    refine cond_t (by decide) (cond_t (by decide) (cond_t (by decide) (cond_t rfl (set_arg (by decide) (cond_t (by decide) ?_)))))
    unfold due_Table_Drop_wp
    have hh : mapHas m' (ByteArray.mk ([97]).toArray) = false := by
      cases hx : mapHas m' (ByteArray.mk ([97]).toArray) with
      | false => rfl
      | true =>
        obtain ⟨v, hv⟩ := mapHas_iff.1 hx
        have := hm'.perm.mem_iff.2 hv
        have h2 := List.mem_singleton.1 this
        have h3 : ByteArray.mk ([97]).toArray = bC := congrArg Prod.fst h2
        exact absurd h3 (by decide)
    rw [hh]; exact h

theorem tmodN {k l : Nat} : Int.tmod (k : Int) (l : Int) = ((k % l : Nat) : Int) := rfl

/-- The table behind the first sets: their names and no others. -/
structure Nams (names : List ByteArray) (k : Nat) (m : TM) : Prop where
  kn : KN m
  len : m.length ≤ k
  has : ∀ x, mapHas m x = true ↔ x ∈ names.take k

theorem Nams.nil (names : List ByteArray) : Nams names 0 [] := ⟨KN.nil, Nat.le_refl _, fun x => by
  rw [mapHas_iff]; simp⟩

theorem Nams.put {names : List ByteArray} {k : Nat} {m : TM} (h : Nams names k m) {x : ByteArray} (hx : names[k]? = some x) (v : Int) : Nams names (k + 1) (mapPut m x v) := by
  refine ⟨h.kn.put x v, ?_, fun y => ?_⟩
  · have := length_put (m := m) (k := x) (v := v)
    have := h.len
    split at * <;> omega
  · rw [mapHas_put h.kn, Bool.or_eq_true, decide_eq_true_eq, h.has y, List.take_add_one, hx]
    simp [or_comm]

theorem dueNames_plain {names : List ByteArray} {times : List Int} (_ : ∀ x ∈ names, x.size ≤ maxLen) (_ : names.length ≤ maxLen) (ht : ∀ x ∈ times, inK .u8 x) (_ : times.length ≤ maxLen) : embrasurelaw06_DueNames_wp names times (· = true) := by
  unfold embrasurelaw06_DueNames_wp
  refine awake_wp (cond_f rfl ?_)
  refine ⟨fun t => t = false → names.length ≤ 60 ∧ times.length ≠ 0, ?_, ?_⟩
  · intro t htt
    refine cond_b (fun _ => rfl) (fun h => ?_)
    obtain ⟨h60, ht0⟩ := htt h
    unfold due_New_wp
    refine ⟨fun m => Nams names names.length m, ?_, ?_⟩
    · intro m hN
      obtain ⟨L, hL⟩ := exists_rep m hN.kn
      have hlen := hN.len
      have hLl := hL.len
      refine names_wp hL (by omega) ?_
      have hrl : (L.map fun x => x.1).length = L.length := List.length_map _
      refine ⟨True, fun _ => ⟨True, fun _ => decide_eq_true (by rw [hrl]; omega), ?_⟩, ?_⟩
      · refine ⟨fun n i => ∃ k : Nat, i = k ∧ k ≤ names.length ∧ n = names.length - k, ⟨_, 0, rfl, Nat.zero_le _, rfl⟩, ?_⟩
        rintro n i ⟨k, rfl, hk, rfl⟩
        refine cond_d (fun hlt => ?_) (fun _ => trivial)
        have hk2 : k < names.length := by omega
        refine ⟨fun t => t = true, ?_, ?_⟩
        · rintro t rfl
          exact cond_f rfl ⟨names.length - (k + 1), by omega, k + 1, wp1 (by omega), by omega, rfl⟩
        · have hm : names[k] ∈ L.map fun x => x.1 := by
            have h3 := (hN.has names[k]).2 (by rw [List.take_length]; exact List.getElem_mem hk2)
            obtain ⟨v, hv⟩ := mapHas_iff.1 h3
            exact List.mem_map.2 ⟨_, hL.perm.mem_iff.2 hv, rfl⟩
          obtain ⟨p, hp, he⟩ := List.getElem_of_mem hm
          refine ⟨fun n t j => ∃ q : Nat, j = q ∧ q ≤ L.length ∧ (t = true ∨ q ≤ p) ∧ n = L.length - q, ⟨_, 0, rfl, Nat.zero_le _, Or.inr (Nat.zero_le _), rfl⟩, ?_⟩
          rintro n t j ⟨q, rfl, hq, htq, rfl⟩
          rw [hrl] at hp
          refine cond_d (fun h4 => ?_) (fun h4 => ?_)
          · rw [hrl] at h4
            refine cond_b (fun ht => ⟨L.length - (q + 1), by omega, q + 1, wp1 (by omega), by omega, Or.inl rfl, rfl⟩) (fun hf => ?_)
            refine ⟨by omega, by rw [hrl]; omega, fun x hx => ⟨by omega, by omega, fun y hy => ?_⟩⟩
            rw [Int.toNat_natCast] at hx hy
            refine ⟨L.length - (q + 1), by omega, q + 1, wp1 (by omega), by omega, ?_, rfl⟩
            by_cases hqp : q = p
            · left
              subst hqp
              have e1 : (L.map fun x => x.1)[q]? = some names[k] := by rw [List.getElem?_eq_getElem (by rw [hrl]; exact hp), he]
              rw [e1] at hx
              rw [List.getElem?_eq_getElem hk2] at hy
              cases hx; cases hy
              exact ba_self _
            · right
              rcases htq with h5 | h5
              · rw [h5] at hf; cases hf
              · omega
          · rw [hrl] at h4
            rcases htq with h5 | h5
            · exact h5
            · omega
      · refine ⟨fun n i => ∃ k : Nat, i = ((k + 1 : Nat) : Int) ∧ k ≤ L.length ∧ n = L.length - k, ⟨_, 0, rfl, Nat.zero_le _, rfl⟩, ?_⟩
        rintro n i ⟨k, rfl, hk, rfl⟩
        refine cond_d (fun hlt => ?_) (fun _ => trivial)
        rw [hrl] at hlt
        rw [wm1 (by omega) (by omega), Nat.add_sub_cancel, wp1 (by omega), hrl]
        have h0 : k < L.length := by omega
        have h1 : k + 1 < L.length := by omega
        have ra : ∀ x, (L.map fun x => x.1)[Int.toNat ((k : Nat) : Int)]? = some x → x = L[k].1 := fun x hx => by
          rw [Int.toNat_natCast, List.getElem?_map, List.getElem?_eq_getElem h0] at hx
          cases hx; rfl
        have rb : ∀ x, (L.map fun x => x.1)[Int.toNat ((k + 1 : Nat) : Int)]? = some x → x = L[k + 1].1 := fun x hx => by
          rw [Int.toNat_natCast, List.getElem?_map, List.getElem?_eq_getElem h1] at hx
          cases hx; rfl
        have hx0 : ∀ p ∈ L, mapHas m p.1 = true := fun p hp => mapHas_iff.2 ⟨p.2, hL.perm.mem_iff.1 hp⟩
        have hel : elt L[k] L[k + 1] := List.pairwise_iff_getElem.1 hL.sorted k (k + 1) h0 h1 (by omega)
        refine ⟨by omega, by omega, fun x hx => ?_⟩
        obtain rfl := ra x hx
        unfold due_Table_At_wp
        rw [hx0 _ (List.getElem_mem h0), hL.get (List.getElem_mem h0)]
        refine ⟨by omega, by omega, fun x hx => ?_⟩
        obtain rfl := rb x hx
        rw [hx0 _ (List.getElem_mem h1), hL.get (List.getElem_mem h1)]
        refine ⟨fun t => t = false, ?_, ?_⟩
        · rintro t rfl
          exact ⟨L.length - (k + 1), by omega, k + 1, rfl, by omega, rfl⟩
        · refine cond_f rfl (cond_f rfl (cond_d (fun h5 => ?_) (fun h5 => cond_e (fun h6 => ?_) (fun _ => rfl))))
          · unfold elt at hel; omega
          · refine ⟨by omega, by omega, fun x hx => ⟨by omega, by omega, fun y hy => ?_⟩⟩
            obtain rfl := ra x hx
            obtain rfl := rb y hy
            unfold elt at hel
            have h7 : cmpB L[k].1 L[k + 1].1 < 0 := by omega
            rw [Lib.toList_data, Lib.toList_data, bytesLess_cb]
            have h8 : Lib.compareBytes L[k].1.data.toList L[k + 1].1.data.toList < 0 := h7
            rw [decide_eq_true h8]; rfl
    · refine ⟨fun n i m => ∃ k : Nat, i = k ∧ k ≤ names.length ∧ Nams names k m ∧ n = names.length - k, ⟨_, 0, rfl, Nat.zero_le _, Nams.nil names, rfl⟩, ?_⟩
      rintro n i m ⟨k, rfl, hk, hN, rfl⟩
      refine cond_d (fun hlt => ?_) (fun hge => ?_)
      · refine ⟨by omega, by omega, fun x hx => cond_d (fun _ => rfl) (fun h6 => ⟨by omega, by omega, fun y hy => ⟨by omega, ?_⟩⟩)⟩
        rw [Int.toNat_natCast] at hy
        have hmod : k % times.length < times.length := Nat.mod_lt _ (by omega)
        rw [tmodN]
        refine ⟨by omega, by omega, fun v hv => ?_⟩
        have hvk := ht v (List.mem_of_getElem? hv)
        have hv0 : 0 ≤ v ∧ v ≤ 255 := by simpa [inK] using hvk
        have := hN.len
        rw [wrap_i64 (by omega) (by omega), wp1 (by omega)]
        exact set_wp (by omega) (by omega) (Or.inr (by omega)) ⟨names.length - (k + 1), by omega, k + 1, rfl, by omega, hN.put hy v, rfl⟩
      · have e : k = names.length := by omega
        rw [← e]; exact hN
  · refine cond_d (fun h => fun e => by cases e) (fun h => fun e => ?_)
    have : ¬ ((times.length : Nat) : Int) = 0 := by simpa using e
    omega

end Go.Proofs.Ytdonkmbhlankiaa
