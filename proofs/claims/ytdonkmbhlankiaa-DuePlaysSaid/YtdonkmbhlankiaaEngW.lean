/-
  The engine, part W: an append that has room, a clearing behind a slice's end.
-/
import Derived.Test.YtdonkmbhlankiaaEngT
namespace Go.Eng
open Go Go.RowKit

section
variable {P : Program} {A : HP} {w : World} {len cap : Nat} {p : Option Addr} {cs : List Value}

theorem append_room {t tx ty e : TypeId} {i : TypeInfo} (ht : P.underlying t = some (.slice e)) (hi : P.info? e = some i)
    {x : Value} {n : Nat} {news : List Value} (h : Holds (slP e i.size p len cap cs * A) w) (hs : Src P i.size tx x n news w) (hroom : len + n ≤ cap) {K : Value → World → Prop}
    (hK : ∀ w', Holds (slP e i.size p (len + n) cap (cs ++ news) * A) w' → K (.slice p (len + n) cap) w') :
    RunW P (Builtin.append_ #[t, tx] ty #[.slice p len cap, x]) K w := by
  obtain ⟨hl, hlc⟩ := slP.length h
  have hnl := hs.newsLen
  rcases slP.open h with ⟨rfl, rfl, rfl, rfl, hA⟩ | ⟨b, off, c, rfl, hsz, hr, hA⟩
  · obtain rfl : n = 0 := by omega
    obtain rfl : news = [] := List.length_eq_zero_iff.1 (by simpa using hnl)
    refine ⟨.slice none 0 0, w, ?_, hK w (slP.nil hA)⟩
    have hsz : sizeT P e = some i.size := by simp [sizeT, hi]
    rcases hs.kind with ⟨e', hk⟩ | hk
    all_goals
      simp only [Builtin.append_, Sem.run_bind, List.getElem?_toArray, List.getElem?_cons_zero, List.getElem?_cons_succ, Result.andThen, run_underlying ht, run_sizeOf hsz, run_underlying hk, Sem.run_pure, Bool.false_eq_true, if_false, hs.len w, Nat.add_zero, Nat.le_refl, if_true]
      simp [Sem.run_bind, Result.andThen, hs.cells]
  · have hfit : off + len * i.size + news.length ≤ c.size := by
      have : len * i.size + n * i.size ≤ cap * i.size := by rw [← Nat.add_mul]; exact Nat.mul_le_mul_right _ hroom
      omega
    refine ⟨_, _, run_append_room_src w t tx ty e i ht hi b off len cap x n news hs hroom (fun j hj => ?_) (fun j hj => hA.unfrozen _), ?_⟩
    · rw [hA.cell]
      simp; omega
    · refine hK _ (slP.of_pt (c := setMany c (off + len * i.size) news) ?_ hroom (by rw [setMany_size]; exact hsz) ?_ (Holds.setCells news _ _ _ hA))
      · rw [List.length_append, hl, hnl, Nat.add_mul]
      · intro j hj
        rw [List.length_append] at hj
        rw [setMany_get _ _ _ _ hfit]
        by_cases hj1 : j < cs.length
        · rw [if_neg (by omega), hr j hj1, List.getElem?_append_left hj1]
        · rw [if_pos (by omega), List.getElem?_append_right (by omega)]
          congr 1
          omega

end

section
variable {P : Program} {α : Type} {enc : α → List Value} {L : List HP} {w : World} {T : TypeId} {z : Nat} {p : Option Addr} {cap n : Nat} {xs : List α}

theorem appendRoomL {t tx ty e e' : TypeId} {zv : Value} {bytes : Nat} (hS : SlT P t e zv z bytes) (htx : P.underlying tx = some (.slice e')) (hz : ∀ x, (enc x).length = z) (hone : ∀ x, ∀ v ∈ enc x, v.oneCell' = true)
    (h : Mem L w) (k : Nat) (hk : nthH L k = row enc e z p cap xs) (hl : n = xs.length) {q : Option Addr} {m c : Nat} {ys : List α} (hr : Rd w z q enc ys) (hm : m = ys.length)
    (hroom : xs.length + ys.length ≤ cap) {K : Value → World → Prop}
    (hK : ∀ w', Mem (setH L k (row enc e z p cap (xs ++ ys))) w' → K (.slice p (xs ++ ys).length cap) w') :
    RunW P (Builtin.append_ #[t, tx] ty #[.slice p n cap, .slice q m c]) K w := by
  obtain ⟨i, hi, hz0, hz1, hz2⟩ : ∃ i, P.info? e = some i ∧ i.zero = some zv ∧ i.size = z ∧ i.bytes = bytes := by
    have := hS.info
    cases hi : P.info? e with
    | none => rw [hi] at this; simp at this
    | some i => rw [hi] at this; simp at this; exact ⟨i, rfl, this.1, this.2.1, this.2.2⟩
  subst hz1
  have h0 := h.at k
  rw [hk] at h0
  subst hl
  have hsrc := Rd.src (P := P) hz hone htx (c := c) hr hm
  subst hm
  refine append_room hS.under hi h0 hsrc hroom ?_
  intro w' h'
  have hlen : xs.length + ys.length = (xs ++ ys).length := by simp
  have hc : xs.flatMap enc ++ ys.flatMap enc = (xs ++ ys).flatMap enc := by simp
  rw [hlen]
  refine hK w' (HL_set_le L k _ ?_)
  unfold row
  rw [← hc, ← hlen]
  exact h'

/-- A clearing behind the end. -/
theorem clearBeyondL {t ty e : TypeId} {zv : Value} {x0 : α} {lo hi m c : Nat} {K : Value → World → Prop} (ht : P.underlying t = some (.slice e)) (hzv : zeroOf P e = some zv) (h : Mem L w) (k : Nat) (hz : ∀ x, (enc x).length = z)
    (hk : nthH L k = row enc T z p cap xs) (hx : enc x0 = zv.cells.toList) (hok : ((enc x0).all okCell) = true) (h0 : xs.length ≤ lo) (h2 : hi ≤ m) (h3 : m ≤ cap) (hn : n = hi - lo)
    (hK : ∀ w', Mem L w' → K (.tuple #[]) w') :
    RunW P (Builtin.clear_ #[t] ty #[.slice (slAddr p z lo m) n c]) K w := by
  subst hn
  rcases Nat.eq_zero_or_pos (hi - lo) with e0 | e0
  · refine ⟨.tuple #[], w, ?_, hK w h⟩
    rw [e0]
    generalize slAddr p z lo m = q
    cases q <;> simp [Builtin.clear_, run_underlying ht, Sem.run_bind, Result.andThen, Sem.run]
  · have hall : ((List.replicate (hi - lo) x0).flatMap enc).all okCell = true := by
      rw [List.all_eq_true] at hok ⊢
      intro v hv
      rw [List.mem_flatMap] at hv
      obtain ⟨x, hx', hv⟩ := hv
      rw [List.mem_replicate] at hx'
      rw [hx'.2] at hv
      exact hok v hv
    have hA0 := h.at k
    rw [hk] at hA0
    have hlen := flatMap_len hz xs
    obtain ⟨hle, hcap⟩ := slP.length hA0
    rcases slP.open hA0 with ⟨-, hc0, hx0, -, -⟩ | ⟨b, off, c', rfl, hsz, hr, hA⟩
    · omega
    have hzl := flatMap_len hz (List.replicate (hi - lo) x0)
    rw [List.length_replicate] at hzl
    have hA' : Holds (cel b T c'.toList * HL (delH L k)) w := by unfold cel; simpa using hA
    have hmul : hi * z ≤ cap * z := Nat.mul_le_mul_right _ (by omega)
    have hhi : hi * z = lo * z + (hi - lo) * z := by rw [← Nat.add_mul]; congr 1; omega
    have hlo : xs.length * z ≤ lo * z := Nat.mul_le_mul_right _ h0
    have hne : m ≠ lo := by omega
    have ha : slAddr (some (⟨b, off, none⟩ : Addr)) z lo m = some ⟨b, off + lo * z, none⟩ := by
      unfold slAddr; rw [if_neg hne]; simp [Addr_add_mk]
    rw [ha]
    have hst := storeCells_mem (L := delH L k) (T := T) (b := b) (K := fun w' => K (.tuple #[]) w') ((List.replicate (hi - lo) x0).flatMap enc) c'.toList (off + lo * z) 0 w hA' (by simp only [Array.length_toList, hzl]; omega) hall (fun w' h' => hK w' ?_)
    · obtain ⟨w', hw1, hw2⟩ := storeCellsW_run (P := P) _ _ _ hst
      refine ⟨.tuple #[], w', ?_, hw1⟩
      obtain ⟨j, hj⟩ : ∃ j, hi - lo = j + 1 := ⟨hi - lo - 1, by omega⟩
      have hzc := zeroCells_eq (zv := zv.cells) hz hx (hi - lo)
      rw [hj] at hzc hw2 ⊢
      simp [Builtin.clear_, run_underlying ht, Sem.run_bind, Result.andThen, run_zeroValue hzv, hzc, hw2]
    · rw [Nat.add_zero] at h'
      unfold Mem
      rw [HL_nth L k, hk]
      refine slP.of_pt (c := (setVs c'.toList (off + lo * z) ((List.replicate (hi - lo) x0).flatMap enc)).toArray) (by rw [hlen]) hcap ?_ ?_ h'
      · simp only [List.size_toArray, setVs_length, Array.length_toList]; exact hsz
      · intro q hq
        rw [List.getElem?_toArray, setVs_get _ _ _ _ (by simp only [Array.length_toList, hzl]; omega), if_neg (by omega), Array.getElem?_toList]
        exact hr q hq

end
end Go.Eng
