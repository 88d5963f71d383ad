/- The law of the table: plays, the whole. -/
import Derived.Test.YtdonkmbhlankiaaT
import Derived.Test.YtdonkmbhlankiaaEngR
namespace Go.Proofs.Ytdonkmbhlankiaa
open Go Go.Eng Go.Proofs Go.Sort
set_option maxRecDepth 20000
set_option maxHeartbeats 2000000

theorem same_wp {m L : TM} {K : Bool → Prop} (hR : Rep m L) (hB : Bd m) (hK : K true) : embrasurelaw06_same_wp m L K := by
  unfold embrasurelaw06_same_wp
  have hLl := hR.len
  have hBl := hB.len
  refine names_wp hR (by omega) ?_
  have hrl : (L.map fun x => x.1).length = L.length := List.length_map _
  rw [hrl]
  refine cond_f (by simp) ⟨True, fun _ => ?_, ?_⟩
  · refine next_wp hR (by omega) (fun e => ?_) (fun p M e => ?_)
    · subst e
      refine cond_t (by decide) (cond_t rfl (cond_t (by decide) ?_))
      exact hK
    · subst e
      refine cond_f (by simp <;> omega) (cond_t rfl ⟨by decide, by simp <;> omega, fun x hx => ?_⟩)
      obtain rfl : p = x := by simpa using hx
      rw [ba_self]
      refine cond_t rfl ⟨by decide, by simp <;> omega, fun x hx => ?_⟩
      obtain rfl : p = x := by simpa using hx
      rw [beq_self_eq_true]; exact hK
  · refine ⟨fun n i => ∃ k : Nat, i = k ∧ k ≤ L.length ∧ n = L.length - k, ⟨_, 0, rfl, Nat.zero_le _, rfl⟩, ?_⟩
    rintro n i ⟨k, rfl, hk, rfl⟩
    refine cond_d (fun h => ⟨by omega, by omega, fun x hx => ?_⟩) (fun _ => trivial)
    have hk2 : k < L.length := by omega
    have ra : ∀ x, (L.map fun x => x.1)[Int.toNat ((k : Nat) : Int)]? = some x → x = L[k].1 := fun x hx => by
      rw [Int.toNat_natCast, List.getElem?_map, List.getElem?_eq_getElem hk2] at hx
      cases hx; rfl
    have rb : ∀ x, L[Int.toNat ((k : Nat) : Int)]? = some x → x = L[k] := fun x hx => by
      rw [Int.toNat_natCast, List.getElem?_eq_getElem hk2] at hx
      cases hx; rfl
    obtain rfl := ra x hx
    unfold due_Table_At_wp
    have hh : mapHas m L[k].1 = true := mapHas_iff.2 ⟨L[k].2, hR.perm.mem_iff.1 (List.getElem_mem hk2)⟩
    rw [hh, hR.get (List.getElem_mem hk2)]
    refine ⟨fun t => t = false, ?_, ?_⟩
    · rintro t rfl
      exact ⟨L.length - (k + 1), by omega, k + 1, wp1 (by omega), by omega, rfl⟩
    · refine ⟨by omega, by omega, fun y hy => ⟨by omega, by omega, fun z hz => ?_⟩⟩
      obtain rfl := ra y hy
      obtain rfl := rb z hz
      rw [ba_self]
      refine cond_f rfl (cond_f rfl ⟨by omega, by omega, fun z hz => ?_⟩)
      obtain rfl := rb z hz
      simp

theorem small_wp {l : List (Int × ByteArray × Int × Int × Int)} {K : Bool → Prop} (h : ∀ b, (b = true → ∀ i x, i < 60 → l[i]? = some x → x.2.1.size ≤ 60) → K b) : embrasurelaw06_small_wp l K := by
  unfold embrasurelaw06_small_wp
  refine ⟨fun n i => ∃ k : Nat, i = k ∧ k ≤ 60 ∧ (∀ j x, j < k → l[j]? = some x → x.2.1.size ≤ 60) ∧ n = 60 - k, ⟨_, 0, rfl, by omega, fun j x hj => by omega, rfl⟩, ?_⟩
  rintro n i ⟨k, rfl, hk, hs, rfl⟩
  refine ⟨fun t => (t = true → k < l.length ∧ k < 60) ∧ (t = false → ¬ (k < l.length ∧ k < 60)), ?_, ?_⟩
  · rintro t ⟨h1, h2⟩
    refine cond_b (fun ht => ?_) (fun ht => ?_)
    · obtain ⟨h3, h4⟩ := h1 ht
      refine ⟨by omega, by omega, fun x hx => ?_⟩
      rw [Int.toNat_natCast] at hx
      refine cond_d (fun _ => h false fun e => by cases e) (fun h5 => ⟨60 - (k + 1), by omega, k + 1, wp1 (by omega), by omega, fun j y hj hy => ?_, rfl⟩)
      by_cases hjk : j = k
      · subst hjk
        rw [hx] at hy; cases hy
        omega
      · exact hs j y (by omega) hy
    · refine h true fun _ i x hi hx => hs i x ?_ hx
      have hil : i < l.length := by
        rcases Nat.lt_or_ge i l.length with h | h
        · exact h
        · rw [List.getElem?_eq_none h] at hx; cases hx
      have := h2 ht
      omega
  · refine cond_d (fun h1 => ⟨fun e => ⟨by omega, by have := of_decide_eq_true e; omega⟩, fun e => by have := of_decide_eq_false e; omega⟩) (fun h1 => ⟨fun e => (by cases e), fun _ => by omega⟩)

theorem Bd.del {m : TM} (h : Bd m) (hn : KN m) (x : ByteArray) : Bd (mapDel m x) := by
  refine ⟨?_, fun p hp => h.vals p ((mem_del hn (k' := p.1) (v' := p.2)).1 hp).2, fun p hp => h.sz p ((mem_del hn (k' := p.1) (v' := p.2)).1 hp).2⟩
  have := h.len
  rw [length_del]
  split <;> omega

theorem duePlays_plain {script : List (Int × ByteArray × Int × Int × Int)} (_ : ∀ x ∈ script, inK .i64 x.1 ∧ x.2.1.size ≤ maxLen ∧ inK .i64 x.2.2.1 ∧ inK .i64 x.2.2.2.1 ∧ inK .i64 x.2.2.2.2) (_ : script.length ≤ maxLen) : embrasurelaw06_DuePlays_wp script (· = true) := by
  unfold embrasurelaw06_DuePlays_wp
  refine awake_wp (cond_f rfl (small_wp fun b hb => cond_b (fun _ => rfl) (fun hb2 => ?_)))
  have hsm := hb (by simpa using hb2)
  unfold due_New_wp
  refine ⟨fun _ _ => True, fun _ _ _ => rfl, ?_⟩
  refine ⟨fun n L i m => ∃ k : Nat, i = k ∧ k ≤ 60 ∧ Rep m L ∧ Bd m ∧ n = 60 - k, ⟨_, 0, rfl, by omega, ⟨KN.nil, List.Perm.refl _, List.Pairwise.nil⟩, ⟨by simp, (fun _ h => by cases h), (fun _ h => by cases h)⟩, rfl⟩, ?_⟩
  rintro n L i m ⟨k, rfl, hk, hR, hB, rfl⟩
  refine ⟨fun t => t = true → k < script.length ∧ k < 60, ?_, ?_⟩
  · intro t ht
    refine cond_b (fun h => ?_) (fun _ => trivial)
    obtain ⟨h1, h60⟩ := ht h
    refine ⟨by omega, by omega, fun x hx => ?_⟩
    rw [Int.toNat_natCast] at hx
    have hname : x.2.1.size ≤ 60 := hsm k x h60 hx
    refine ⟨fun L2 m2 => Rep m2 L2 ∧ Bd m2, ?_, ?_⟩
    · rintro L2 m2 ⟨g1, g2⟩
      exact same_wp g1 g2 (cond_f rfl ⟨60 - (k + 1), by omega, k + 1, wp1 (by omega), by omega, g1, g2, rfl⟩)
    · refine cond_e (fun _ => ?_) (fun _ => cond_e (fun _ => ?_) (fun _ => ?_))
      · refine sets_wp (K := fun r r' m' L' => cond (r != r') (false = true) (Rep m' L' ∧ Bd m')) hR hB hname fun r m' L' g1 g2 => ?_
        exact cond_n (fun h => absurd rfl h) (fun _ => ⟨g1, g2⟩)
      · unfold due_Table_Drop_wp
        have hLl := hR.len
        have hBl := hB.len
        refine rdrop_wp (by omega) (fun hno => ?_) (fun A q B e hq => ?_)
        · have hh : mapHas m x.2.1 = false := by
            cases hx2 : mapHas m x.2.1 with
            | false => rfl
            | true =>
              obtain ⟨v, hv⟩ := mapHas_iff.1 hx2
              exact absurd rfl (hno _ (hR.perm.mem_iff.2 hv))
          rw [hh]
          refine cond_f rfl ⟨Rep.of_mem (hR.kn.del _) hR.sorted fun q => ?_, hB.del hR.kn _⟩
          obtain ⟨q1, q2⟩ := q
          rw [mem_del hR.kn, ← hR.perm.mem_iff]
          exact ⟨fun h => ⟨hno _ h, h⟩, fun h => h.2⟩
        · have hh : mapHas m x.2.1 = true := mapHas_iff.2 ⟨q.2, hR.perm.mem_iff.1 (by rw [e, ← hq]; simp)⟩
          rw [hh]
          have hs := hR.sorted
          have hnd := hR.nd
          rw [e] at hs
          rw [e, List.map_append, List.map_cons] at hnd
          have hnd2 := List.perm_middle.nodup_iff.1 hnd
          rw [List.nodup_cons] at hnd2
          refine cond_f rfl ⟨Rep.of_mem (hR.kn.del _) (hs.sublist (List.Sublist.append_left (List.sublist_cons_self q B) A)) fun r => ?_, hB.del hR.kn _⟩
          obtain ⟨r1, r2⟩ := r
          rw [mem_del hR.kn, ← hR.perm.mem_iff]
          constructor
          · intro hr
            refine ⟨fun er => hnd2.1 ?_, by rw [e]; rcases List.mem_append.1 hr with h | h <;> simp [h]⟩
            rw [hq, ← er, ← List.map_append]
            exact List.mem_map.2 ⟨(r1, r2), hr, rfl⟩
          · rintro ⟨hne, hr⟩
            rw [e] at hr
            rcases List.mem_append.1 hr with h | h
            · exact List.mem_append_left _ h
            · rcases List.mem_cons.1 h with h | h
              · exact absurd (by rw [← hq, ← h]) hne
              · exact List.mem_append_right _ h
      · obtain ⟨M, hM⟩ : ∃ M, (if (50 : Int) < (if (1 : Int) > x.2.2.2.1 then 1 else x.2.2.2.1) then 50 else (if (1 : Int) > x.2.2.2.1 then 1 else x.2.2.2.1)) = M := ⟨_, rfl⟩
        have hM1 : 1 ≤ M ∧ M ≤ 50 := by
          rw [← hM]
          split <;> split <;> omega
        rw [hM]
        refine ⟨fun c L2 m2 => Rep m2 L2 ∧ Bd m2 ∧ (c < M → (L2 = [] ∨ ∃ p N, L2 = p :: N ∧ p.2 > x.2.2.1)), ?_, ?_⟩
        · rintro c L2 m2 ⟨g1, g2, g3⟩
          refine cond_d (fun h => rtake_nil (g3 h) (cond_f rfl ⟨g1, g2⟩)) (fun _ => ⟨g1, g2⟩)
        · unfold due_Table_Due_wp due_Table_Due_c1_wp
          refine ⟨fun n m1 s => ∃ (L1 : TM) (c : Nat), s = (0, (c : Int), L1) ∧ Rep m1 L1 ∧ Bd m1 ∧ (c : Int) < M ∧ n = 60 - c, ⟨_, L, 0, rfl, hR, hB, by omega, rfl⟩, ?_⟩
          rintro n m1 s ⟨L1, c, rfl, hR1, hB1, hc, rfl⟩
          have hl1 := hB1.len
          refine next_wp hR1 (by omega) (fun e => ?_) (fun p N e => ?_)
          · refine joinP1.i ?_
            exact Or.inl ⟨rfl, hR1, hB1, fun _ => Or.inl e⟩
          · refine joinP1.i ?_
            show cond (decide (x.2.2.1 < p.2)) _ _
            refine cond_d (fun h2 => Or.inl ⟨rfl, hR1, hB1, fun _ => Or.inr ⟨p, N, e, h2⟩⟩) (fun h2 => ?_)
            subst e
            unfold due_Table_Drop_wp
            have hR2 := hR1.tail
            have hB2 := hB1.del hR1.kn p.1
            refine ⟨rfl, rtake_cons h2 ⟨fun t => t = false, ?_, ?_⟩⟩
            · rintro t rfl
              refine cond_f rfl ⟨fun L8 m8 => Rep m8 L8 ∧ Bd m8, ?_, ?_⟩
              · rintro L8 m8 ⟨g1, g2⟩
                dsimp only
                rw [wp1 (by omega)]
                refine cond_d (fun h3 => ?_) (fun h3 => ?_)
                · exact Or.inr (Or.inr ⟨rfl, g1, g2, fun h => by omega⟩)
                · exact ⟨60 - (c + 1), by omega, L8, c + 1, rfl, g1, g2, by omega, rfl⟩
              · refine ⟨fun _ => True, ?_, ?_⟩
                · rintro t -
                  refine cond_b (fun _ => ?_) (fun _ => ⟨hR2, hB2⟩)
                  exact sets_wp (K := fun _ _ m' L' => Rep m' L' ∧ Bd m') hR2 hB2 hname fun _ _ _ g1 g2 => ⟨g1, g2⟩
                · exact cond_d (fun _ => trivial) (fun _ => trivial)
            · refine cond_f rfl (cond_f (by rw [ba_self]; rfl) (by simp))
  · exact cond_d (fun h1 => fun e => ⟨by omega, by have := of_decide_eq_true e; omega⟩) (fun _ => fun e => by cases e)

end Go.Proofs.Ytdonkmbhlankiaa
