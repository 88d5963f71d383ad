/- The plain side of the statements on rtt: marks that come back in any order. -/
import Derived.Test.YtffjmcfcfdnbkaaQ
namespace Go.Proofs.Ytffjmcfcfdnbkaa
open Go Go.Eng

def mk1 (times : List Int) (j : Nat) : Int × Int := ((j : Int), times.getD j 0)
def mkL (times : List Int) (c : Nat → Bool) (m : Nat) : List (Int × Int) := ((List.range m).filter fun j => !(c j)).map (mk1 times)

theorem mkL_mem {times : List Int} {c : Nat → Bool} {m : Nat} {x : Int × Int} : x ∈ mkL times c m ↔ ∃ j, j < m ∧ c j = false ∧ x = mk1 times j := by
  unfold mkL
  simp only [List.mem_map, List.mem_filter, List.mem_range, Bool.not_eq_true']
  constructor
  · rintro ⟨j, ⟨h1, h2⟩, rfl⟩; exact ⟨j, h1, h2, rfl⟩
  · rintro ⟨j, h1, h2, rfl⟩; exact ⟨j, ⟨h1, h2⟩, rfl⟩

theorem eraseP_filter (k : Int) : ∀ (l : List (Int × Int)), l.Pairwise (fun a b => a.1 ≠ b.1) → l.eraseP (fun x => x.1 == k) = l.filter (fun x => !(x.1 == k))
  | [], _ => rfl
  | x :: l, h => by
    rw [List.pairwise_cons] at h
    by_cases hx : x.1 = k
    · have hb : (x.1 == k) = true := by simpa using hx
      rw [List.eraseP_cons_of_pos (p := fun x : Int × Int => x.1 == k) hb, List.filter_cons_of_neg (by simp [hb])]
      symm
      rw [List.filter_eq_self]
      intro y hy
      have := h.1 y hy
      rw [hx] at this
      simpa using Ne.symm this
    · have hb : ¬ (x.1 == k) = true := by simpa using hx
      rw [List.eraseP_cons_of_neg (p := fun x : Int × Int => x.1 == k) hb, List.filter_cons_of_pos (by simpa using hx), eraseP_filter k l h.2]

theorem mkL_pair (times : List Int) (c : Nat → Bool) (m : Nat) : (mkL times c m).Pairwise (fun a b => a.1 ≠ b.1) := by
  unfold mkL
  rw [List.pairwise_map]
  refine List.Pairwise.imp ?_ (List.Pairwise.filter _ List.pairwise_lt_range)
  intro a b hab
  simp only [mk1]
  omega

theorem mkL_erase (times : List Int) (c c' : Nat → Bool) (m k : Nat) (h : ∀ j, j < m → c' j = (c j || j == k)) : (mkL times c m).eraseP (fun x => x.1 == (k : Int)) = mkL times c' m := by
  rw [eraseP_filter _ _ (mkL_pair _ _ _)]
  unfold mkL
  rw [List.filter_map, List.filter_filter]
  congr 1
  apply List.filter_congr
  intro j hj
  rw [List.mem_range] at hj
  rw [h j hj]
  simp only [Function.comp, mk1]
  by_cases e : j = k
  · subst e; simp
  · have : ((j : Int) == (k : Int)) = false := by rw [beq_eq_false_iff_ne]; omega
    rw [this]
    have : (j == k) = false := by simpa using e
    rw [this]
    simp

theorem mkL_length_le (times : List Int) (c : Nat → Bool) (m : Nat) : (mkL times c m).length ≤ m := by
  unfold mkL
  rw [List.length_map]
  exact Nat.le_trans (List.length_filter_le _ _) (by simp)

theorem rttMarks_plain {times order : List Int} (ht : ∀ x ∈ times, Eng.inK .u16 x) (_ : times.length ≤ 9223372036854775807) (ho : ∀ x ∈ order, Eng.inK .u8 x) (_ : order.length ≤ 9223372036854775807) :
    embrasurelaw26_RttMarks_wp times order (· = true) := by
  unfold embrasurelaw26_RttMarks_wp
  refine awake_wp (cond_f rfl (cond_d (fun _ => rfl) (fun h30 => ?_)))
  unfold rtt_New_wp
  have hN : times.length ≤ 30 := by omega
  rw [wrap_i64 (x := ((times.length : Nat) : Int) + 1) (by omega) (by omega)]
  refine ⟨fun ms => ms = mkL times (fun _ => false) times.length, ?_, ?_⟩
  · rintro ms rfl
    refine ⟨by omega, by omega, by omega, by omega, ?_⟩
    refine ⟨fun ms mean dev any came => came.length = times.length + 1 ∧ ms = mkL times (fun j => came.getD j false) times.length, ?_, ?_⟩
    · rintro ms mean dev any came ⟨hcl, rfl⟩
      refine ⟨fun n => n = ((mkL times (fun j => came.getD j false) times.length).length : Int), ?_, ?_⟩
      · rintro n rfl
        unfold rtt_Meter_Open_wp
        simp
      · refine ⟨fun n c i => n = times.length - i.toNat ∧ 0 ≤ i ∧ i ≤ times.length ∧ c = ((mkL times (fun j => came.getD j false) i.toNat).length : Int), ⟨_, rfl, by omega, by omega, rfl⟩, ?_⟩
        rintro n c i ⟨rfl, h0, h1, rfl⟩
        have hle := mkL_length_le times (fun j => came.getD j false) i.toNat
        refine cond_d (fun hlt => ?_) (fun hge => ?_)
        · refine ⟨h0, by omega, fun x hx => ?_⟩
          have hget : came.getD i.toNat false = x := by rw [List.getD_eq_getElem?_getD, hx]; rfl
          have hstep : mkL times (fun j => came.getD j false) (i.toNat + 1) = mkL times (fun j => came.getD j false) i.toNat ++ (if x then [] else [mk1 times i.toNat]) := by
            unfold mkL
            rw [List.range_succ, List.filter_append, List.map_append]
            congr 1
            have hget2 : came[i.toNat]?.getD false = x := by rw [hx]; rfl
            cases x <;> simp [List.filter_cons, hget2]
          rw [wrap_i64 (x := i + 1) (by omega) (by omega)]
          have e : (i + 1).toNat = i.toNat + 1 := by omega
          cases x with
          | true =>
            refine cond_f rfl ⟨_, ?_, rfl, by omega, by omega, ?_⟩
            · omega
            · rw [e, hstep]; simp
          | false =>
            refine cond_t rfl ⟨_, ?_, rfl, by omega, by omega, ?_⟩
            · omega
            · rw [wrap_i64 (by omega) (by omega), e, hstep]; simp
        · have : i.toNat = times.length := by omega
          rw [this]
    · refine ⟨fun n ms mean dev any came i => n = 100 - i.toNat ∧ 0 ≤ i ∧ i ≤ 100 ∧ came.length = times.length + 1 ∧ ms = mkL times (fun j => came.getD j false) times.length ∧ 0 ≤ mean ∧ mean ≤ 80007,
        ⟨100, by omega, by omega, by omega, by simp, ?_, by omega, by omega⟩, ?_⟩
      · congr 1
        funext j
        rw [List.getD_eq_getElem?_getD, List.getElem?_replicate]
        split <;> rfl
      rintro n ms mean dev any came i ⟨rfl, hi0, hi1, hcl, rfl, hm0, hm1⟩
      refine joinP1.i (cond_d (fun hlt => cond_d (fun hpos => cond_d (fun h100 => ?_) (fun _ => ⟨hcl, rfl⟩)) (fun _ => ⟨hcl, rfl⟩)) (fun _ => ⟨hcl, rfl⟩))
      refine ⟨hi0, hlt, fun x hx => ⟨by omega, ?_⟩⟩
      have hx' : 0 ≤ x ∧ x ≤ 255 := ho x (List.mem_of_getElem? hx)
      rw [wrap_i64 (x := x) (by omega) (by omega), tmod_pos hx'.1]
      have hk0 := Int.emod_nonneg x (b := (times.length : Int)) (by omega)
      have hk1 := Int.emod_lt_of_pos x (b := (times.length : Int)) (by omega)
      generalize x % (times.length : Int) = k at hk0 hk1 ⊢
      rw [wrap_u64 hk0 (by omega)]
      obtain ⟨k, rfl⟩ : ∃ k' : Nat, k = (k' : Int) := ⟨k.toNat, by omega⟩
      have hkN : k < times.length := by omega
      have hle := mkL_length_le times (fun j => came.getD j false) times.length
      have hnext : ∀ (mean2 : Int), 0 ≤ mean2 ∧ mean2 ≤ 80007 → ∀ (came' : List Bool) (ms' : List (Int × Int)), came'.length = times.length + 1 → ms' = mkL times (fun j => came'.getD j false) times.length →
          ∃ n, n < 100 - i.toNat ∧ n = 100 - (IntKind.wrap .i64 (i + 1)).toNat ∧ 0 ≤ IntKind.wrap .i64 (i + 1) ∧ IntKind.wrap .i64 (i + 1) ≤ 100 ∧ came'.length = times.length + 1 ∧
            ms' = mkL times (fun j => came'.getD j false) times.length ∧ 0 ≤ mean2 ∧ mean2 ≤ 80007 := by
        intro mean2 hm came' ms' h1 h2
        rw [wrap_i64 (x := i + 1) (by omega) (by omega)]
        exact ⟨_, by omega, rfl, by omega, by omega, h1, h2, hm.1, hm.2⟩
      refine got_wp (by omega) hm0 hm1 (by omega) (by omega) (fun hneg => ?_) (fun y hge hy => ?_)
      · refine ⟨hk0, by omega, fun b hb => ?_⟩
        have hget : came.getD k false = b := by rw [List.getD_eq_getElem?_getD, show k = (k : Int).toNat by omega, hb]; rfl
        cases b with
        | true => exact cond_t rfl (cond_f rfl (hnext mean ⟨hm0, hm1⟩ came _ hcl rfl))
        | false =>
          exfalso
          have := pos_mem (l := mkL times (fun j => came.getD j false) times.length) (no := k) ⟨mk1 times k, mkL_mem.2 ⟨k, hkN, hget, rfl⟩, rfl⟩
          omega
      · have hmem := List.mem_of_getElem? hy
        obtain ⟨j, hj, hcj, rfl⟩ := mkL_mem.1 hmem
        have hjk : j = k := by
          have := pos_mem (l := mkL times (fun j => came.getD j false) times.length) (no := k) (by
            rcases Classical.em (∃ x ∈ mkL times (fun j => came.getD j false) times.length, x.1 = (k : Int)) with h | h
            · exact h
            · have := pos_none (l := mkL times (fun j => came.getD j false) times.length) (no := k) (fun x hx he => h ⟨x, hx, he⟩)
              omega)
          obtain ⟨-, z, hz, -, hz1, -⟩ := this
          rw [hy] at hz
          cases hz
          simp only [mk1] at hz1
          omega
        subst hjk
        have htj : 0 ≤ times[j] ∧ times[j] ≤ 65535 := ht _ (List.getElem_mem _)
        have hgd : times.getD j 0 = times[j] := by rw [List.getD_eq_getElem?_getD, List.getElem?_eq_getElem hj]; rfl
        have hpm := pos_mem (l := mkL times (fun j => came.getD j false) times.length) (no := j) ⟨mk1 times j, hmem, rfl⟩
        obtain ⟨-, -, -, -, -, her⟩ := hpm
        rw [her]
        simp only [mk1, hgd]
        refine ⟨htj.1, by omega, hk0, by omega, fun b hb => ?_⟩
        have hget : came.getD j false = b := by rw [List.getD_eq_getElem?_getD, show j = (j : Int).toNat by omega, hb]; rfl
        rw [hcj] at hget
        subst hget
        refine cond_f rfl (joinP1.i (cond_f rfl ⟨hk0, hk1, fun u hu => ?_⟩))
        rw [show ((j : Int)).toNat = j by omega, List.getElem?_eq_getElem hj] at hu
        cases hu
        rw [wrap_i64 (x := times[j]) (by omega) (by omega), wrap_i64 (x := 70000 - times[j]) (by omega) (by omega)]
        have es : (if (10000 : Int) < 70000 - times[j] then 10000 else 70000 - times[j]) = min (70000 - times[j]) 10000 := by split <;> omega
        rw [es]
        refine cond_f (by simp) ⟨hk0, by omega, ?_⟩
        generalize hS : min (70000 - times[j]) 10000 = s
        refine hnext _ ?_ _ _ (by simpa using hcl) ?_
        · unfold sampleM
          split <;> omega
        · rw [show ((j : Int)).toNat = j by omega]
          refine mkL_erase _ _ _ _ _ (fun q hq => ?_)
          rw [List.getD_eq_getElem?_getD, List.getD_eq_getElem?_getD, List.getElem?_set]
          by_cases e : j = q
          · subst e
            rw [if_pos rfl, if_pos (by omega)]
            simp
          · have : (q == j) = false := by simpa using Ne.symm e
            simp [e, this]
  · refine ⟨fun n ms i => n = times.length - i.toNat ∧ 0 ≤ i ∧ i ≤ times.length ∧ ms = mkL times (fun _ => false) i.toNat, ⟨_, rfl, by omega, by omega, rfl⟩, ?_⟩
    rintro n ms i ⟨rfl, h0, h1, rfl⟩
    refine cond_d (fun hlt => ?_) (fun hge => ?_)
    · refine joinP2.i ⟨h0, hlt, fun x hx => ?_⟩
      have hx' : 0 ≤ x ∧ x ≤ 65535 := ht x (List.mem_of_getElem? hx)
      rw [wrap_i64 (x := x) (by omega) (by omega), wrap_u64 h0 (by omega)]
      have hle := mkL_length_le times (fun _ => false) i.toNat
      refine sent_wp (by omega) (by omega) (by omega) (cond_f rfl ?_)
      have hgd : times.getD i.toNat 0 = x := by rw [List.getD_eq_getElem?_getD, hx]; rfl
      have hs : sentL (mkL times (fun _ => false) i.toNat) i x = mkL times (fun _ => false) (i.toNat + 1) := by
        rw [sentL_eq, List.eraseP_of_forall_not (by
          intro a ha
          obtain ⟨j, hj, -, rfl⟩ := mkL_mem.1 ha
          simp only [mk1]
          simp
          omega)]
        rw [if_neg (by simp; omega)]
        unfold mkL
        rw [List.range_succ, List.filter_append, List.map_append]
        congr 1
        have hgd2 : times[i.toNat]?.getD 0 = x := by rw [hx]; rfl
        simp [mk1, hgd2]
        omega
      have hlen : (mkL times (fun _ => false) (i.toNat + 1)).length = i.toNat + 1 := by
        unfold mkL
        rw [List.length_map, List.filter_eq_self.2 (by simp)]
        simp
      rw [hs, wrap_i64 (x := i + 1) (by omega) (by omega)]
      unfold rtt_Meter_Open_wp
      rw [hlen]
      refine cond_n (fun h => absurd (by omega) h) (fun _ => ⟨_, ?_, rfl, by omega, by omega, ?_⟩)
      · omega
      · rw [show (i + 1).toNat = i.toNat + 1 by omega]
    · rw [show i.toNat = times.length by omega]

end Go.Proofs.Ytffjmcfcfdnbkaa
