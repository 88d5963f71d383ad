/- The laws of the table: what every one asks first, the names. -/
import Derived.Test.YtdonkmbhlankiaaR
import Derived.Test.YtdonkmbhlankiaaEngR
namespace Go.Proofs.Ytdonkmbhlankiaa
open Go Go.Eng Go.Proofs Go.Sort
set_option maxRecDepth 20000
set_option maxHeartbeats 2000000

theorem ba_beq (a b : ByteArray) : (a == b) = decide (a = b) := by
  cases a with
  | mk x =>
    cases b with
    | mk y =>
      show (x == y) = _
      by_cases h : x = y
      · subst h; simp
      · rw [decide_eq_false (by simpa using h)]
        simpa using h

theorem ba_self (a : ByteArray) : (a == a) = true := by rw [ba_beq]; exact decide_eq_true rfl

theorem set_wp {m : TM} {name : ByteArray} {v : Int} {K : Int → TM → Prop} (h0 : 0 ≤ v) (h1 : v ≤ 1099511627776) (hl : mapHas m name = true ∨ m.length < 200) (hK : K 0 (mapPut m name v)) : due_Table_Set_wp m name v K := by
  unfold due_Table_Set_wp
  refine joinP0.i ⟨fun t => t = false, ?_, ?_⟩
  · rintro t rfl
    refine ⟨fun t => t = false, ?_, ?_⟩
    · rintro t rfl; exact hK
    · refine cond_b (fun h => ?_) (fun _ => rfl)
      rcases hl with hl | hl
      · rw [hl] at h; cases h
      · exact decide_eq_false (by omega)
  · exact cond_d (fun h => absurd h (by omega)) (fun _ => decide_eq_false (by omega))

theorem set_arg {m : TM} {name : ByteArray} {v : Int} {K : Int → TM → Prop} (h0 : v < 0) (hK : K 1 m) : due_Table_Set_wp m name v K := by
  unfold due_Table_Set_wp
  refine joinP0.i ⟨fun t => t = true, ?_, ?_⟩
  · rintro t rfl; exact hK
  · exact cond_d (fun _ => rfl) (fun h => absurd h0 h)

theorem set_full {m : TM} {name : ByteArray} {v : Int} {K : Int → TM → Prop} (h0 : 0 ≤ v) (h1 : v ≤ 1099511627776) (hh : mapHas m name = false) (hl : 200 ≤ m.length) (hK : K 10 m) : due_Table_Set_wp m name v K := by
  unfold due_Table_Set_wp
  refine joinP0.i ⟨fun t => t = false, ?_, ?_⟩
  · rintro t rfl
    refine ⟨fun t => t = true, ?_, ?_⟩
    · rintro t rfl; exact hK
    · refine cond_b (fun _ => decide_eq_true (by omega)) (fun h => ?_)
      rw [hh] at h; cases h
  · exact cond_d (fun h => absurd h (by omega)) (fun _ => decide_eq_false (by omega))

def bA : ByteArray := ByteArray.mk ([97]).toArray
def bB : ByteArray := ByteArray.mk ([98]).toArray
def bC : ByteArray := ByteArray.mk ([99]).toArray

theorem awake_m : mapPut (mapPut (mapPut ([] : TM) bA 5) bB 3) bC 9 = [(bA, 5), (bB, 3), (bC, 9)] := by kernel_rfl
theorem awake_rep : Rep [(bA, 5), (bB, 3), (bC, 9)] [(bB, 3), (bA, 5), (bC, 9)] where
  kn := by unfold KN; decide
  perm := List.Perm.swap _ _ _
  sorted := by simp [elt]

theorem awake_wp {K : Bool → Prop} (h : K true) : embrasurelaw06_awake_wp K := by
  unfold embrasurelaw06_awake_wp due_New_wp
  refine set_wp (by decide) (by decide) (Or.inr (by decide)) ?_
  refine set_wp (by decide) (by decide) (Or.inr (by decide)) ?_
  refine set_wp (by decide) (by decide) (Or.inr (by decide)) ?_
  have e : mapPut (mapPut (mapPut ([] : TM) (ByteArray.mk ([97]).toArray) 5) (ByteArray.mk ([98]).toArray) 3) (ByteArray.mk ([99]).toArray) 9 = [(bA, 5), (bB, 3), (bC, 9)] := awake_m
  rw [e]
  refine joinP2.i ?_
  unfold due_Table_Due_wp
  refine due_wp (ok := fun x a s => s.1 = 0 ∧ s.2.size + x.size ≤ 9223372036854775807) (step := fun x a s => if a > 6 then (false, (1, s.2)) else (true, (0, s.2 ++ x))) ?_ awake_rep (by decide) ?_
  · intro x a s m N hok hN
    refine ⟨hok.1, cond_d (fun h2 => ?_) (fun h2 => ⟨hok.2, ?_⟩)⟩
    · rw [if_pos h2] at hN; exact hN
    · rw [if_neg h2] at hN; exact hN
  · refine ⟨⟨rfl, by decide⟩, ⟨⟨rfl, by decide⟩, ?_⟩⟩
    rintro m' hm' -
    refine Or.inl ⟨rfl, ?_⟩
    have hz : m'.length ≤ 1000 := by rw [← hm'.len]; decide
    refine next_wp hm' hz (fun e => by cases e) (fun p M e => ?_)
    cases e
    refine cond_t (by decide) (cond_t (by decide) (cond_t (by decide) (cond_t rfl (set_arg (by decide) (cond_t (by decide) ?_)))))
    unfold due_Table_Drop_wp
    have hh : mapHas m' (ByteArray.mk ([97]).toArray) = false := by
      cases hx : mapHas m' (ByteArray.mk ([97]).toArray) with
      | false => rfl
      | true =>
        obtain ⟨v, hv⟩ := mapHas_iff.1 hx
        have := hm'.perm.mem_iff.2 hv
        have h2 := List.mem_singleton.1 this
        have h3 : ByteArray.mk ([97]).toArray = bC := congrArg Prod.fst h2
        exact absurd h3 (by decide)
    rw [hh]; exact h

end Go.Proofs.Ytdonkmbhlankiaa
