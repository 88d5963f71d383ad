/-
  The engine, part N: more steps: capacities, rows of zeros behind a row, slices of slices that were just made.
-/
import Derived.Test.YtdonkmbhlankiaaEngM
import Derived.Lib.AppendZerosOnto
namespace Go.Eng
open Go Go.RowKit Go.Lib

theorem capL {P : Program} {t ty e : TypeId} {p : Option Addr} {n c : Nat} {K : Value → World → Prop} {w : World} (hu : P.underlying t = some (.slice e)) (hK : K (.int .i64 ((c : Nat) : Int)) w) :
    RunW P (Builtin.cap_ #[t] ty #[.slice p n c]) K w :=
  ⟨_, w, by simp [Builtin.cap_, run_underlying hu, Sem.run_bind, Result.andThen, goInt], hK⟩

section
variable {P : Program}

theorem run_append_room_zeros (w : World) (t tn ty e : TypeId) (i : TypeInfo) (z : Value) (kq kn : IntKind) (ht : P.underlying t = some (.slice e)) (htn : P.underlying tn = some (.int kn)) (hi : P.info? e = some i) (hz : i.zero = some z)
    (hzs : z.cells.size = i.size) (h1 : ∀ u ∈ z.cells.toList, u.oneCell' = true) (b off sLen sCap k : Nat) (h0 : 0 < k) (hs : 0 < i.size) (hroom : sLen + k ≤ sCap) (h63 : (k : Int) ≤ 9223372036854775807) (h48 : k * i.bytes ≤ 281474976710656)
    (hc : ∀ j, j < k * i.size → (w.cell? ⟨b, off + sLen * i.size + j, none⟩).isSome = true) (hf : ∀ j, j < k * i.size → w.frozen? ⟨b, off + sLen * i.size + j, none⟩ = false) :
    (Builtin.append_ #[t, tn] ty #[.slice (some ⟨b, off, none⟩) sLen sCap, .int kq k]).run P w = .ok (.slice (some ⟨b, off, none⟩) (sLen + k) sCap) (w.setCells b (off + sLen * i.size) (Builtin.zeroCells z.cells k).toList) := by
  have hl : (Builtin.zeroCells z.cells k).toList.length = k * i.size := by rw [Array.length_toList, size_zeroCells, hzs]
  have hone : ∀ v ∈ (Builtin.zeroCells z.cells k).toList, v.oneCell' = true := by
    intro v hv
    rw [zeroCells_eq (α := Unit) (enc := fun _ => z.cells.toList) (z := i.size) (zv := z.cells) (x0 := ()) (fun _ => by rw [Array.length_toList, hzs]) rfl k, List.mem_flatMap] at hv
    obtain ⟨x, -, hv⟩ := hv
    exact h1 v hv
  have hst := run_storeCells_cells (P := P) b (off + sLen * i.size) (Builtin.zeroCells z.cells k).toList 0 w (by rw [hl]; simpa using hc) (by rw [hl]; simpa using hf) hone
  simp only [Nat.add_zero] at hst
  have hk : k ≠ 0 := by omega
  have hw : IntKind.i64.wrap (k : Int) = k := by rw [IntKind.wrap_i64]; omega
  have h48i : ¬ (281474976710656 < (k : Int) * (i.bytes : Int)) := by
    rw [← Int.natCast_mul]
    omega
  have hneg : ¬ ((k : Int) < 0) := by omega
  have hns : ¬ (k * i.size = 0) := Nat.mul_ne_zero hk (by omega)
  simp [Builtin.append_, run_underlying ht, run_underlying htn, sizeOf, typeInfo, zeroValue, hi, hz, asInt, asIntOf, hw, hroom, hneg, hns, h48i, Addr.add_lit, hst]

theorem run_append_zero_zeros (w : World) (t tn ty e : TypeId) (i : TypeInfo) (z : Value) (kq kn : IntKind) (ht : P.underlying t = some (.slice e)) (htn : P.underlying tn = some (.int kn)) (hi : P.info? e = some i) (p : Option Addr) (sLen sCap : Nat) (hle : sLen ≤ sCap) :
    (Builtin.append_ #[t, tn] ty #[.slice p sLen sCap, .int kq 0]).run P w = .ok (.slice p sLen sCap) w := by
  have hw : IntKind.i64.wrap (0 : Int) = 0 := by rw [IntKind.wrap_i64]; omega
  cases p <;> simp [Builtin.append_, run_underlying ht, run_underlying htn, sizeOf, typeInfo, zeroValue, hi, asInt, asIntOf, hw, hle, storeCells]

variable {α : Type} {enc : α → List Value} {L : List HP} {w : World} {z : Nat} {p : Option Addr} {cap n : Nat} {xs : List α}

theorem appendZ {t tn ty e : TypeId} {kq kn : IntKind} {zv : Value} {bytes : Nat} {x0 : α} (hS : SlT P t e zv z bytes) (htn : P.underlying tn = some (.int kn)) (hz : ∀ x, (enc x).length = z) (hone : ∀ x, ∀ v ∈ enc x, v.oneCell' = true)
    (hx : enc x0 = zv.cells.toList) (h : Mem L w) (k : Nat) (hk : nthH L k = row enc e z p cap xs) (hl : n = xs.length) {m : Int} (h0z : 0 < z) (m0 : 0 ≤ m)
    (hb : (xs.length + m.toNat) * bytes ≤ 140737488355328) {K : Value → World → Prop}
    (hK : ∀ p' cap' w', Mem (setH L k (row enc e z p' cap' (xs ++ List.replicate m.toNat x0))) w' → K (.slice p' (xs ++ List.replicate m.toNat x0).length cap') w') :
    RunW P (Builtin.append_ #[t, tn] ty #[.slice p n cap, .int kq m]) K w := by
  obtain ⟨i, hi, hz0, hz1, hz2⟩ : ∃ i, P.info? e = some i ∧ i.zero = some zv ∧ i.size = z ∧ i.bytes = bytes := by
    have := hS.info
    cases hi : P.info? e with
    | none => rw [hi] at this; simp at this
    | some i => rw [hi] at this; simp at this; exact ⟨i, rfl, this.1, this.2.1, this.2.2⟩
  subst hz1
  subst hz2
  subst hl
  obtain ⟨m, rfl⟩ : ∃ j : Nat, m = (j : Int) := ⟨m.toNat, by omega⟩
  simp only [Int.toNat_natCast] at *
  have hpos := hS.pos
  have hle : xs.length + m ≤ 140737488355328 := Nat.le_trans (Nat.le_mul_of_pos_right _ hpos) hb
  have hmb : m * i.bytes ≤ 140737488355328 := Nat.le_trans (Nat.mul_le_mul_right _ (Nat.le_add_left _ _)) hb
  have h0 := h.at k
  rw [hk] at h0
  obtain ⟨hl, hlc⟩ := slP.length h0
  have hlx := flatMap_len hz xs
  rcases Nat.eq_zero_or_pos m with rfl | hm
  · refine ⟨_, _, run_append_zero_zeros w t tn ty e i zv kq kn hS.under htn hi p xs.length cap hlc, ?_⟩
    have := hK p cap w (HL_set_le L k _ (by simpa using h0))
    simpa using this
  have hzc := zeroCells_eq (zv := zv.cells) hz hx m
  have h1 : ∀ u ∈ zv.cells.toList, u.oneCell' = true := fun u hu => hone x0 u (by rw [hx]; exact hu)
  have hnl : (Builtin.zeroCells zv.cells m).toList.length = m * i.size := by rw [Array.length_toList, size_zeroCells, hS.size]
  by_cases hroom : xs.length + m ≤ cap
  · rcases slP.open h0 with ⟨-, hc0, hx0, -, -⟩ | ⟨b, off, c, rfl, hsz, hr, hA⟩
    · omega
    · have hfit : off + xs.length * i.size + m * i.size ≤ c.size := by
        have : xs.length * i.size + m * i.size ≤ cap * i.size := by rw [← Nat.add_mul]; exact Nat.mul_le_mul_right _ hroom
        omega
      refine ⟨_, _, run_append_room_zeros w t tn ty e i zv kq kn hS.under htn hi hz0 hS.size h1 b off xs.length cap m hm h0z hroom (by omega) (by omega) (fun j hj => ?_) (fun j hj => hA.unfrozen _), ?_⟩
      · rw [hA.cell]
        simp; omega
      · have hlen : xs.length + m = (xs ++ List.replicate m x0).length := by simp
        rw [hlen]
        refine hK _ _ _ (HL_set_le L k _ ?_)
        unfold row
        rw [← hlen]
        refine slP.of_pt (c := setMany c (off + xs.length * i.size) (Builtin.zeroCells zv.cells m).toList) ?_ hroom (by rw [setMany_size]; exact hsz) ?_ (Holds.setCells _ _ _ _ hA)
        · rw [flatMap_len hz]; simp
        · intro j hj
          rw [setMany_get _ _ _ _ (by rw [hnl]; exact hfit)]
          rw [List.flatMap_append, List.length_append, ← hzc, hnl] at hj
          rw [List.flatMap_append, ← hzc]
          by_cases hj1 : j < (xs.flatMap enc).length
          · rw [if_neg (by omega), hr j hj1, List.getElem?_append_left hj1]
          · rw [if_pos (by omega), List.getElem?_append_right (by omega)]
            congr 1
            omega
  · have hg : cap < xs.length + m := by omega
    have hold : (Builtin.firstCells i.size xs.length (.slice p xs.length cap)).run P w.drew = .ok (xs.flatMap enc).toArray w.drew := by
      rcases slP.open h0 with ⟨rfl, -, -, he, hA⟩ | ⟨b, off, c, rfl, hsz, hr, hA⟩
      · rw [he]; exact run_firstCells_none w.drew _ _ _ _
      · refine run_firstCells_some w.drew _ _ _ _ _ _ hl (fun j v hj => ?_)
        have hjl := (List.getElem?_eq_some_iff.1 hj).1
        rw [Addr_add_mk]
        have hc := hA.drew.cell (off + j)
        rw [hc, hr j hjl, hj]
    refine ⟨_, _, run_append_grow_zeros w t tn ty e i zv kq kn hS.under htn hi hz0 p xs.length cap _ hold m hm h0z hg (by omega) (by omega) (growslice_fits hg hb), ?_⟩
    have hA : Holds _ w := h0.right
    have hal := hA.drew.alloc (.cells ((xs.flatMap enc).toArray ++ Builtin.zeroCells zv.cells m ++ Builtin.zeroCells zv.cells (grownCap w (xs.length + m) cap e - (xs.length + m))) e)
    have hge := grownCap_ge w (xs.length + m) cap e
    have hlen : xs.length + m = (xs ++ List.replicate m x0).length := by simp
    have hca : ((xs ++ List.replicate m x0).flatMap enc).toArray = (xs.flatMap enc).toArray ++ Builtin.zeroCells zv.cells m := by
      apply Array.ext'
      simp [← hzc]
    rw [← hca] at hal ⊢
    have := hK (some ⟨w.heap.size, 0, none⟩) (grownCap w (xs.length + m) cap e) _ (HL_set_le L k _ (by
      unfold row
      rw [← hlen]
      refine slP.of_pt ?_ hge ?_ ?_ hal
      · rw [flatMap_len hz]; simp
      · simp only [Array.size_append, List.size_toArray, size_zeroCells, hS.size]
        rw [flatMap_len hz, ← hlen]
        have : (xs.length + m) * i.size + (grownCap w (xs.length + m) cap e - (xs.length + m)) * i.size = grownCap w (xs.length + m) cap e * i.size := by
          rw [← Nat.add_mul]; congr 1; omega
        omega
      · intro j hj
        rw [Nat.zero_add, Array.getElem?_append_left (by simpa using hj)]
        simp))
    rw [← hlen] at this
    exact this

end

/-! ### A slice of slices that was just made -/

section
variable {α : Type} {L : List HP} {w : World} {T z : Nat} {R : α → List Value → Prop}

/-- The cells of a block, cut in pieces. -/
inductive Fa2 (R : α → List Value → Prop) : List α → List (List Value) → Prop
  | nil : Fa2 R [] []
  | cons {x cs xs css} : R x cs → Fa2 R xs css → Fa2 R (x :: xs) (cs :: css)

theorem Fa2.get {R : α → List Value → Prop} {xs : List α} {css : List (List Value)} (hl : ∀ cs ∈ css, cs.length = z) (h : Fa2 R xs css) : ∀ (i : Nat) (x : α), xs[i]? = some x →
    ∃ cs, R x cs ∧ ∀ j v, cs[j]? = some v → css.flatten[i * z + j]? = some v := by
  induction h with
  | nil => intro i x hx; simp at hx
  | @cons y cs xs css hr _ ih =>
    intro i x hx
    have hcl : cs.length = z := hl cs (by simp)
    cases i with
    | zero =>
      simp at hx
      subst hx
      refine ⟨cs, hr, fun j v hj => ?_⟩
      have := (List.getElem?_eq_some_iff.1 hj).1
      rw [List.flatten_cons, List.getElem?_append_left (by omega), Nat.zero_mul, Nat.zero_add, hj]
    | succ i =>
      rw [List.getElem?_cons_succ] at hx
      obtain ⟨cs', h1, h2⟩ := ih (fun c hc => hl c (by simp [hc])) i x hx
      refine ⟨cs', h1, fun j v hj => ?_⟩
      rw [List.flatten_cons, List.getElem?_append_right (by rw [hcl, Nat.add_mul]; omega), ← h2 j v hj]
      congr 1
      rw [hcl, Nat.add_mul]; omega

theorem RdD.nil : RdD w z none R ([] : List α) := fun i x hx => by simp at hx

theorem celRdD {b : Nat} {vs : List Value} (h : Mem L w) (k : Nat) (hk : nthH L k = cel b T vs) (xs : List α) (css : List (List Value)) (hl : (css.all fun cs => cs.length == z) = true) (hv : vs = css.flatten) (hr : Fa2 R xs css) :
    RdD w z (some ⟨b, 0, none⟩) R xs := by
  replace hl : ∀ cs ∈ css, cs.length = z := fun cs hc => by
    have := List.all_eq_true.1 hl cs hc
    simpa using this
  have h2 := h.at k
  rw [hk] at h2
  intro i x hi
  obtain ⟨cs, h3, h4⟩ := hr.get hl i x hi
  refine ⟨b, 0, cs, rfl, h3, fun j v hj => ?_⟩
  rw [ix_eq] at hj
  rw [Holds.cell h2]
  simp only [hv, Nat.zero_add, List.getElem?_toArray]
  exact h4 j v hj

end

/-! ### A literal, read at an index that is open -/

section
variable {L : List HP} {w : World} {T : TypeId}

theorem litCell1 {b : Nat} {vs : List Value} {v : Value} (h : Mem L w) (k : Nat) (hk : nthH L k = cel b T vs) {i : Int} {m z j : Nat} (e : i.toNat = m) (hv : vs[m * z + j]? = some v) :
    w.cell? (((⟨b, 0, none⟩ : Addr).add (i.toNat * z)).add j) = some v := by
  have h2 := h.at k
  rw [hk] at h2
  rw [Addr_add_mk, Addr_add_mk, Holds.cell h2, e]
  simpa using hv

theorem litCell0 {b : Nat} {vs : List Value} {v : Value} (h : Mem L w) (k : Nat) (hk : nthH L k = cel b T vs) {i : Int} {m z j : Nat} (e : i.toNat = m) (hv : vs[m * z + j]? = some v) (hj : j = 0 := by rfl) :
    w.cell? ((⟨b, 0, none⟩ : Addr).add (i.toNat * z)) = some v := by
  subst hj
  have h2 := h.at k
  rw [hk] at h2
  rw [Addr_add_mk, Holds.cell h2, e]
  simpa using hv

end
end Go.Eng
