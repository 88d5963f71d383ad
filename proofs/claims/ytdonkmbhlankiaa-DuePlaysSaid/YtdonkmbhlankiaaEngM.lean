/-
  The engine, part M: memory as a list of parts; the steps of a walk over it.
-/
import Derived.Test.YtdonkmbhlankiaaEngH
import Derived.Laws.BytesArg
import Derived.Laws.BytesString
namespace Go.Eng
open Go Go.RowKit

def HL : List HP → HP
  | [] => emp
  | A :: L => A * HL L

def Mem (L : List HP) (w : World) : Prop := Holds (HL L) w

def nthH : List HP → Nat → HP
  | [], _ => emp
  | A :: _, 0 => A
  | _ :: L, k + 1 => nthH L k

def delH : List HP → Nat → List HP
  | [], _ => []
  | _ :: L, 0 => L
  | A :: L, k + 1 => A :: delH L k

def setH : List HP → Nat → HP → List HP
  | [], _, _ => []
  | _ :: L, 0, B => B :: L
  | A :: L, k + 1, B => A :: setH L k B

def pickL : List Nat → List HP → List HP
  | [], _ => []
  | k :: ks, L => nthH L k :: pickL ks (delH L k)

def pickR : List Nat → List HP → List HP
  | [], L => L
  | k :: ks, L => pickR ks (delH L k)

def dropH : Nat → List HP → List HP
  | 0, L => L
  | _ + 1, [] => []
  | n + 1, _ :: L => dropH n L

theorem HL_nth : ∀ (L : List HP) (k : Nat), HL L = nthH L k * HL (delH L k)
  | [], _ => by simp only [HL, nthH, delH]; rw [emp_star]
  | _ :: _, 0 => rfl
  | A :: L, k + 1 => by
    simp only [HL, nthH, delH]
    rw [HL_nth L k]
    ac_rfl

theorem HL_append : ∀ (L M : List HP), HL (L ++ M) = HL L * HL M
  | [], M => by simp only [HL, List.nil_append]; rw [emp_star]
  | A :: L, M => by simp only [HL, List.cons_append]; rw [HL_append L M]; ac_rfl

theorem HL_pick : ∀ (ks : List Nat) (L : List HP), HL L = HL (pickL ks L) * HL (pickR ks L)
  | [], L => by simp only [pickL, pickR, HL]; rw [emp_star]
  | k :: ks, L => by
    simp only [pickL, pickR, HL]
    rw [HL_nth L k, HL_pick ks (delH L k)]
    ac_rfl

section
variable {L : List HP} {w : World}

theorem Mem.drew (h : Mem L w) : Mem L w.drew := Holds.drew h

theorem Mem.pick (h : Mem L w) (ks : List Nat) : Mem (pickL ks L ++ pickR ks L) w := by
  unfold Mem at *
  rw [HL_append, ← HL_pick]
  exact h

theorem Mem.drop : ∀ (n : Nat) {L : List HP}, Mem L w → Mem (dropH n L) w
  | 0, _, h => h
  | _ + 1, [], h => h
  | n + 1, _ :: _, h => Mem.drop n (Holds.right h)

/-- The picked parts, and what lies behind n of the others. -/
theorem Mem.sel (h : Mem L w) (ks : List Nat) (n : Nat) : Mem (pickL ks L ++ dropH n (pickR ks L)) w := by
  unfold Mem at *
  rw [HL_pick ks L] at h
  rw [HL_append]
  revert h
  generalize pickR ks L = M
  generalize HL (pickL ks L) = A
  intro h
  induction n generalizing M with
  | zero => exact h
  | succ n ih =>
    cases M with
    | nil => exact h
    | cons B M =>
      refine ih M ?_
      simp only [HL] at h
      rw [star_left_comm] at h
      exact h.right

theorem Mem.at (h : Mem L w) (k : Nat) : Holds (nthH L k * HL (delH L k)) w := by
  unfold Mem at h
  rw [HL_nth L k] at h
  exact h

theorem HL_set : ∀ (L : List HP) (k : Nat) (B : HP), k < L.length → HL (setH L k B) = B * HL (delH L k)
  | [], _, _, h => by simp at h
  | _ :: _, 0, _, _ => rfl
  | A :: L, k + 1, B, h => by
    simp only [HL, setH, delH]
    rw [HL_set L k B (by simpa using h)]
    ac_rfl

theorem HL_set_le (L : List HP) (k : Nat) (B : HP) {w : World} (h : Holds (B * HL (delH L k)) w) : Mem (setH L k B) w := by
  by_cases hk : k < L.length
  · unfold Mem; rw [HL_set L k B hk]; exact h
  · have : ∀ (L : List HP) (k : Nat), ¬ k < L.length → setH L k B = L ∧ delH L k = L := by
      intro L
      induction L with
      | nil => intro k _; exact ⟨rfl, rfl⟩
      | cons A L ih =>
        intro k hk
        cases k with
        | zero => simp at hk
        | succ k =>
          have := ih k (by simpa using hk)
          simp only [setH, delH, this.1, this.2]
          exact ⟨trivial, trivial⟩
    obtain ⟨h1, h2⟩ := this L k hk
    rw [h2] at h
    rw [h1]
    exact h.right

theorem Mem.pack (h : Mem L w) (n : Nat) : ∀ (M : List HP), L = M ++ dropH n L → Mem (HL M :: dropH n L) w := by
  intro M e
  unfold Mem at *
  rw [e, HL_append] at h
  exact h

/-- Some parts, as one. -/
theorem Mem.packs (h : Mem L w) (ks : List Nat) : Mem (HL (pickL ks L) :: pickR ks L) w := by
  unfold Mem at *
  rw [HL_pick ks L] at h
  exact h

theorem Mem.unpack {M : List HP} (h : Mem (HL M :: L) w) : Mem (M ++ L) w := by
  unfold Mem at *
  rw [HL_append]
  exact h

theorem Mem.exs {α : Type} {A : α → HP} (h : Mem (exH A :: L) w) : ∃ x, Mem (A x :: L) w := Holds.ex h

theorem Mem.exsI {α : Type} {A : α → HP} (x : α) (h : Mem (A x :: L) w) : Mem (exH A :: L) w := Holds.ex_intro x h

theorem Mem.lft {p : Prop} (h : Mem (Eng.lift p :: L) w) : p ∧ Mem L w := Holds.lift h

theorem Mem.lftI {p : Prop} (hp : p) (h : Mem L w) : Mem (Eng.lift p :: L) w := Holds.lift_intro hp h

end

/-! ### Blocks of cells -/

def cel (b : Nat) (T : TypeId) (vs : List Value) : HP := pt b (.cells vs.toArray T (0, 0))

def ix {α : Type} : List α → Nat → Option α
  | [], _ => none
  | a :: _, 0 => some a
  | _ :: l, i + 1 => ix l i

theorem ix_eq {α : Type} : ∀ (l : List α) (i : Nat), ix l i = l[i]?
  | [], i => by simp [ix]
  | a :: _, 0 => by simp [ix]
  | _ :: l, i + 1 => by simp [ix, ix_eq l i]

def setV : List Value → Nat → Value → List Value
  | [], _, _ => []
  | _ :: l, 0, v => v :: l
  | a :: l, i + 1, v => a :: setV l i v

theorem setV_eq : ∀ (l : List Value) (i : Nat) (v : Value), setV l i v = l.set i v
  | [], _, _ => by simp [setV]
  | _ :: _, 0, _ => by simp [setV]
  | _ :: l, i + 1, v => by simp [setV, setV_eq l i v]

def setVs : List Value → Nat → List Value → List Value
  | l, _, [] => l
  | l, i, v :: vs => setVs (setV l i v) (i + 1) vs

section
variable {L : List HP} {w : World} {b : Nat} {T : TypeId} {vs : List Value}

theorem cellL (h : Mem L w) (k i : Nat) {v : Value} {a : Addr} (hk : nthH L k = cel b T vs) (ha : a = ⟨b, i, none⟩) (hv : ix vs i = some v) : w.cell? a = some v := by
  have := h.at k
  rw [hk] at this
  rw [ha, Holds.cell this i]
  simpa [ix_eq] using hv

theorem newL {o : List Value} (h : Mem L w) {K : Nat → World → Prop} (hK : ∀ b w', Mem (cel b T o :: L) w' → K b w') : NewW (.cells o.toArray T) K w :=
  hK _ _ (Holds.alloc h _)

theorem newO {o : Obj} (h : Mem L w) {K : Nat → World → Prop} (hK : ∀ b w', Mem (pt b o :: L) w' → K b w') : NewW o K w :=
  hK _ _ (Holds.alloc h _)

theorem Addr_add_mk (b i n : Nat) : (⟨b, i, none⟩ : Addr).add n = ⟨b, i + n, none⟩ := by
  unfold Addr.add
  by_cases h0 : n = 0
  · subst h0; rfl
  · rw [if_neg h0]

theorem storeCells_mem {K : World → Prop} : ∀ (ys vs : List Value) (i j : Nat) (w : World), Holds (cel b T vs * HL L) w → i + j + ys.length ≤ vs.length → (ys.all okCell) = true →
    (∀ w', Holds (cel b T (setVs vs (i + j) ys) * HL L) w' → K w') → storeCellsW ⟨b, i, none⟩ K ys j w
  | [], vs, i, j, w, h, _, _, hK => hK w h
  | y :: ys, vs, i, j, w, h, hl, hy, hK => by
    simp only [List.all_cons, Bool.and_eq_true] at hy
    simp only [List.length_cons] at hl
    unfold storeCellsW
    rw [if_pos hy.1, Addr_add_mk]
    refine ⟨?_, Holds.unfrozen h _, ?_⟩
    · rw [Holds.cell h]
      exact ⟨vs[i + j]'(by omega), by simp⟩
    · have h1 := Holds.setCell h (i + j) y
      have e : cel b T (setV vs (i + j) y) = pt b (.cells (vs.toArray.setIfInBounds (i + j) y) T (0, 0)) := by
        unfold cel
        rw [setV_eq]
        simp
      rw [← e] at h1
      have hlen : (setV vs (i + j) y).length = vs.length := by rw [setV_eq]; simp
      refine storeCells_mem ys (setV vs (i + j) y) i (j + 1) _ h1 (by omega) hy.2 (fun w' h' => hK w' ?_)
      have : setVs vs (i + j) (y :: ys) = setVs (setV vs (i + j) y) (i + j + 1) ys := rfl
      rw [this]
      exact h'

theorem storeL {P : Program} {t : TypeId} {a : Addr} {x : Value} {ys : List Value} {K : World → Prop} (h : Mem L w) (k i : Nat) (hk : nthH L k = cel b T vs) (ha : a = ⟨b, i, none⟩) (hy : x.cells.toList = ys) (hs : sizeT P t = some ys.length)
    (hl : Nat.ble (i + ys.length) vs.length = true) (hx : (ys.all okCell) = true)
    (hK : ∀ w', Mem (setH L k (cel b T (setVs vs i ys))) w' → K w') : storeW P t (.pointer (some a)) x K w := by
  have h1 := h.at k
  rw [hk] at h1
  unfold storeW
  simp only []
  have hs' : sizeT P t = some x.cells.size := by rw [hs, ← hy]; simp
  rw [if_pos hs', ha, hy]
  exact storeCells_mem ys vs i 0 w h1 (by simpa using Nat.le_of_ble_eq_true hl) hx (fun w' h' => hK w' (HL_set_le L k _ h'))

end

/-! ### Rows -/

def row {α : Type} (enc : α → List Value) (T : TypeId) (z : Nat) (p : Option Addr) (cap : Nat) (xs : List α) : HP := slP T z p xs.length cap (xs.flatMap enc)

/-- What is read of a slice that starts at p: the elements xs. -/
def Rd {α : Type} (w : World) (z : Nat) (p : Option Addr) (enc : α → List Value) (xs : List α) : Prop :=
  ∀ i x, xs[i]? = some x → ∃ b off, p = some ⟨b, off, none⟩ ∧ ∀ j v, ix (enc x) j = some v → w.cell? ⟨b, off + i * z + j, none⟩ = some v

theorem flatMap_get {α : Type} {enc : α → List Value} {z : Nat} (hz : ∀ x, (enc x).length = z) : ∀ (xs : List α) (i j : Nat) (x : α), xs[i]? = some x → j < z → (xs.flatMap enc)[i * z + j]? = (enc x)[j]?
  | [], i, j, x, h, _ => by simp at h
  | y :: ys, 0, j, x, h, hj => by
    obtain rfl : y = x := by simpa using h
    simp only [List.flatMap_cons, Nat.zero_mul, Nat.zero_add]
    rw [List.getElem?_append_left (by rw [hz]; exact hj)]
  | y :: ys, i + 1, j, x, h, hj => by
    simp only [List.flatMap_cons]
    rw [List.getElem?_append_right (by rw [hz, Nat.succ_mul]; omega), hz, show (i + 1) * z + j - z = i * z + j by rw [Nat.succ_mul]; omega]
    exact flatMap_get hz ys i j x (by simpa using h) hj

theorem flatMap_len {α : Type} {enc : α → List Value} {z : Nat} (hz : ∀ x, (enc x).length = z) (xs : List α) : (xs.flatMap enc).length = xs.length * z := by
  induction xs with
  | nil => simp
  | cons x xs ih => simp [List.flatMap_cons, hz, ih, Nat.succ_mul, Nat.add_comm]

section
variable {α : Type} {enc : α → List Value} {L : List HP} {w : World} {T : TypeId} {z : Nat} {p : Option Addr} {cap n : Nat} {xs : List α}

theorem ix_lt {β : Type} {l : List β} {j : Nat} {v : β} (h : ix l j = some v) : j < l.length := by
  rw [ix_eq] at h
  exact (List.getElem?_eq_some_iff.1 h).1

theorem rowRd (h : Mem L w) (k : Nat) (hz : ∀ x, (enc x).length = z) (hk : nthH L k = row enc T z p cap xs) : Rd w z p enc xs := by
  have h1 := h.at k
  rw [hk] at h1
  intro i x hx
  have hi := (List.getElem?_eq_some_iff.1 hx).1
  by_cases hz0 : z = 0
  · rcases slP.open h1 with ⟨-, -, hl, -, -⟩ | ⟨b, off, c, rfl, hsz, hr, hA⟩
    · omega
    · refine ⟨b, off, rfl, fun j v hj => ?_⟩
      have := ix_lt hj
      rw [hz] at this
      omega
  · have hlen := flatMap_len hz xs
    have hpos : 0 < xs.length * z := Nat.mul_pos (by omega) (by omega)
    obtain ⟨b, off, hp, hc⟩ := slP.read h1 (by rw [hlen]; exact hpos)
    refine ⟨b, off, hp, fun j v hj => ?_⟩
    have hjz := ix_lt hj
    rw [hz] at hjz
    have hlt : i * z + j < (xs.flatMap enc).length := by
      rw [hlen]
      have : (i + 1) * z ≤ xs.length * z := Nat.mul_le_mul_right _ hi
      rw [Nat.succ_mul] at this
      omega
    rw [Nat.add_assoc, hc _ hlt, flatMap_get hz xs i j x hx hjz, ← ix_eq, hj]

theorem rowCap (h : Mem L w) (k : Nat) (hk : nthH L k = row enc T z p cap xs) : xs.length ≤ cap := by
  have h1 := h.at k
  rw [hk] at h1
  exact (slP.length h1).2

theorem rdAddr {i : Int} (hr : Rd w z p enc xs) (hl : n = xs.length) (i0 : 0 ≤ i) (i1 : i < (n : Int)) : ∃ a, p = some a := by
  subst hl
  have hi : i.toNat < xs.length := by omega
  obtain ⟨b, off, hp, -⟩ := hr i.toNat _ (List.getElem?_eq_getElem hi)
  exact ⟨_, hp⟩

theorem rdCell {i : Int} {a : Addr} (hr : Rd w z p enc xs) (ha : p = some a) (hl : n = xs.length) (i0 : 0 ≤ i) (i1 : i < (n : Int)) :
    ∃ x, xs[i.toNat]? = some x ∧ ∀ j v, ix (enc x) j = some v → w.cell? ((a.add (i.toNat * z)).add j) = some v := by
  subst hl
  have hi : i.toNat < xs.length := by omega
  refine ⟨_, List.getElem?_eq_getElem hi, fun j v hj => ?_⟩
  obtain ⟨b, off, hp, hc⟩ := hr i.toNat _ (List.getElem?_eq_getElem hi)
  rw [ha] at hp
  cases hp
  rw [Addr_add_mk, Addr_add_mk]
  exact hc j v hj

theorem rdCell0 {i : Int} {a : Addr} (hr : Rd w z p enc xs) (ha : p = some a) (hl : n = xs.length) (i0 : 0 ≤ i) (i1 : i < (n : Int)) :
    ∃ x, xs[i.toNat]? = some x ∧ ∀ v, ix (enc x) 0 = some v → w.cell? (a.add (i.toNat * z)) = some v := by
  obtain ⟨x, hx, hc⟩ := rdCell hr ha hl i0 i1
  refine ⟨x, hx, fun v hv => ?_⟩
  have := hc 0 v hv
  have e : ∀ a : Addr, a.add 0 = a := fun a => by unfold Addr.add; rw [if_pos rfl]
  rw [e] at this
  exact this

theorem addr_add_zero (a : Addr) : a.add 0 = a := by unfold Addr.add; rw [if_pos rfl]

theorem addr_add_add (a : Addr) (m n : Nat) : (a.add m).add n = a.add (m + n) := by
  unfold Addr.add
  by_cases hm : m = 0
  · subst hm; simp
  · by_cases hn : n = 0
    · subst hn; simp
    · have : m + n ≠ 0 := by omega
      simp only [hm, hn, this, if_false]
      simp [Nat.add_assoc]

theorem rdCell2 {i : Int} {a : Addr} (hr : Rd w z p enc xs) (ha : p = some a) (hl : n = xs.length) (i0 : 0 ≤ i) (i1 : i < (n : Int)) :
    ∃ x, xs[i.toNat]? = some x ∧ ∀ j k v, ix (enc x) (j + k) = some v → w.cell? (((a.add (i.toNat * z)).add j).add k) = some v := by
  obtain ⟨x, hx, hc⟩ := rdCell hr ha hl i0 i1
  refine ⟨x, hx, fun j k v hv => ?_⟩
  rw [addr_add_add]
  exact hc _ _ hv

theorem rdCell3 {i : Int} {a : Addr} (hr : Rd w z p enc xs) (ha : p = some a) (hl : n = xs.length) (i0 : 0 ≤ i) (i1 : i < (n : Int)) :
    ∃ x, xs[i.toNat]? = some x ∧ ∀ j k l v, ix (enc x) (j + k + l) = some v → w.cell? ((((a.add (i.toNat * z)).add j).add k).add l) = some v := by
  obtain ⟨x, hx, hc⟩ := rdCell hr ha hl i0 i1
  refine ⟨x, hx, fun j k l v hv => ?_⟩
  rw [addr_add_add, addr_add_add]
  exact hc _ _ (by rw [Nat.add_assoc] at hv; exact hv)

/-- What is read of a slice whose elements hold slices. -/
def RdD {α : Type} (w : World) (z : Nat) (p : Option Addr) (R : α → List Value → Prop) (xs : List α) : Prop :=
  ∀ i x, xs[i]? = some x → ∃ b off cs, p = some ⟨b, off, none⟩ ∧ R x cs ∧ ∀ j v, ix cs j = some v → w.cell? ⟨b, off + i * z + j, none⟩ = some v

section
variable {R R' : α → List Value → Prop}

theorem RdD.mono (hR : ∀ x cs, R x cs → R' x cs) (h : RdD w z p R xs) : RdD w z p R' xs := by
  intro i x hx
  obtain ⟨b, off, cs, h1, h2, h3⟩ := h i x hx
  exact ⟨b, off, cs, h1, hR _ _ h2, h3⟩

theorem rdAddrD {i : Int} (hr : RdD w z p R xs) (hl : n = xs.length) (i0 : 0 ≤ i) (i1 : i < (n : Int)) : ∃ a, p = some a := by
  subst hl
  have hi : i.toNat < xs.length := by omega
  obtain ⟨b, off, cs, hp, -⟩ := hr i.toNat _ (List.getElem?_eq_getElem hi)
  exact ⟨_, hp⟩

theorem rdCellD {i : Int} {a : Addr} (hr : RdD w z p R xs) (ha : p = some a) (hl : n = xs.length) (i0 : 0 ≤ i) (i1 : i < (n : Int)) :
    ∃ x, xs[i.toNat]? = some x ∧ ∃ cs, R x cs ∧ (∀ v, ix cs 0 = some v → w.cell? (a.add (i.toNat * z)) = some v) ∧ (∀ j v, ix cs j = some v → w.cell? ((a.add (i.toNat * z)).add j) = some v) ∧
      ∀ j k v, ix cs (j + k) = some v → w.cell? (((a.add (i.toNat * z)).add j).add k) = some v := by
  subst hl
  have hi : i.toNat < xs.length := by omega
  obtain ⟨b, off, cs, hp, hR, hc⟩ := hr i.toNat _ (List.getElem?_eq_getElem hi)
  rw [ha] at hp
  cases hp
  have e0 : ∀ a : Addr, a.add 0 = a := fun a => by unfold Addr.add; rw [if_pos rfl]
  refine ⟨_, List.getElem?_eq_getElem hi, cs, hR, fun v hv => ?_, fun j v hj => ?_, fun j k v hj => ?_⟩
  · rw [Addr_add_mk]; exact hc 0 v hv
  · rw [Addr_add_mk, Addr_add_mk]; exact hc j v hj
  · rw [addr_add_add, Addr_add_mk, Addr_add_mk]; exact hc _ v hj

end

theorem viewLen {l h : Nat} (h1 : h ≤ xs.length) : h - l = ((xs.take h).drop l).length := by
  simp [List.length_drop, List.length_take]
  omega

/-- A view of a slice. -/
theorem Rd.view (hr : Rd w z p enc xs) {l h m : Nat} (hm : h ≤ m) : Rd w z (slAddr p z l m) enc ((xs.take h).drop l) := by
  intro i x hx
  rw [List.getElem?_drop, List.getElem?_take] at hx
  split at hx
  · rename_i hlt
    obtain ⟨b, off, hp, hc⟩ := hr (l + i) x hx
    subst hp
    unfold slAddr
    have hne : m ≠ l := by omega
    rw [if_neg hne]
    refine ⟨b, off + l * z, by simp [Addr_add_mk], fun j v hj => ?_⟩
    have := hc j v hj
    rw [Nat.add_mul] at this
    rw [Nat.add_assoc off]
    exact this
  · simp at hx

/-- A row is left at a view of it. -/
theorem rowShrink (h : Mem L w) (k : Nat) (hz : ∀ x, (enc x).length = z) (hk : nthH L k = row enc T z p cap xs) {l hi m : Nat} (h1 : l ≤ hi) (h2 : hi ≤ m) (h3 : m ≤ cap) (h4 : hi ≤ xs.length) :
    Mem (setH L k (row enc T z (slAddr p z l m) (m - l) ((xs.take hi).drop l))) w := by
  refine HL_set_le L k _ ?_
  have h0 := h.at k
  rw [hk] at h0
  unfold row at h0 ⊢
  have hlen := flatMap_len hz xs
  have hlen' := flatMap_len hz ((xs.take hi).drop l)
  have hll : ((xs.take hi).drop l).length = hi - l := (viewLen h4).symm
  rcases slP.open h0 with ⟨rfl, rfl, hl, hcs, hA⟩ | ⟨b, off, c, rfl, hsz, hr, hA⟩
  · obtain rfl : m = 0 := by omega
    obtain rfl : hi = 0 := by omega
    obtain rfl : l = 0 := by omega
    simp [slAddr]
    exact slP.nil hA
  · have hoff : ∃ off', slAddr (some (⟨b, off, none⟩ : Addr)) z l m = some ⟨b, off', none⟩ ∧ (m ≠ l → off' = off + l * z) ∧ off' + (m - l) * z ≤ c.size := by
      unfold slAddr
      by_cases e : m = l
      · rw [if_pos e]
        refine ⟨off, rfl, fun h => absurd e h, ?_⟩
        have : m - l = 0 := by omega
        rw [this]
        omega
      · rw [if_neg e]
        refine ⟨off + l * z, by simp [Addr_add_mk], fun _ => rfl, ?_⟩
        have : l * z + (m - l) * z = m * z := by rw [← Nat.add_mul]; congr 1; omega
        have := Nat.mul_le_mul_right z h3
        omega
    obtain ⟨off', e1, e2, e3⟩ := hoff
    rw [e1]
    refine slP.of_pt (c := c) hlen' (by omega) e3 ?_ hA
    intro j hj
    rw [hlen', hll] at hj
    have hne : m ≠ l := by
      intro e
      have : hi - l = 0 := by omega
      rw [this] at hj
      simp at hj
    rw [e2 hne]
    have hz0 : 0 < z := by
      rcases Nat.eq_zero_or_pos z with e | e
      · subst e; simp at hj
      · exact e
    obtain ⟨i, r, hi', hr', rfl⟩ : ∃ i r, i < hi - l ∧ r < z ∧ j = i * z + r := by
      refine ⟨j / z, j % z, ?_, Nat.mod_lt _ hz0, ?_⟩
      · exact Nat.div_lt_of_lt_mul (by rw [Nat.mul_comm]; exact hj)
      · rw [Nat.mul_comm]; exact (Nat.div_add_mod j z).symm
    have hx : l + i < xs.length := by omega
    have hg : ((xs.take hi).drop l)[i]? = some xs[l + i] := by
      rw [List.getElem?_drop, List.getElem?_take, if_pos (by omega), List.getElem?_eq_getElem hx]
    rw [flatMap_get hz _ i r _ hg hr', ← flatMap_get hz xs (l + i) r _ (List.getElem?_eq_getElem hx) hr']
    rw [show off + l * z + (i * z + r) = off + ((l + i) * z + r) by rw [Nat.add_mul]; omega]
    refine hr _ ?_
    rw [hlen]
    have : (l + i + 1) * z ≤ xs.length * z := Nat.mul_le_mul_right _ hx
    rw [Nat.succ_mul] at this
    omega

theorem setVs_length : ∀ (ys l : List Value) (i : Nat), (setVs l i ys).length = l.length
  | [], _, _ => rfl
  | y :: ys, l, i => by
    show (setVs (setV l i y) (i + 1) ys).length = l.length
    rw [setVs_length ys, setV_eq]
    simp

theorem setVs_get : ∀ (ys l : List Value) (i k : Nat), i + ys.length ≤ l.length → (setVs l i ys)[k]? = if i ≤ k ∧ k < i + ys.length then ys[k - i]? else l[k]?
  | [], l, i, k, _ => by
    have : ¬ (i ≤ k ∧ k < i + ([] : List Value).length) := by simp only [List.length_nil]; omega
    rw [if_neg this]
    rfl
  | y :: ys, l, i, k, h => by
    show (setVs (setV l i y) (i + 1) ys)[k]? = _
    simp only [List.length_cons] at h
    rw [setVs_get ys _ _ _ (by rw [setV_eq]; simp; omega), setV_eq]
    by_cases h1 : i + 1 ≤ k ∧ k < i + 1 + ys.length
    · rw [if_pos h1, if_pos (by simp only [List.length_cons]; omega)]
      obtain ⟨d, rfl⟩ : ∃ d, k = i + 1 + d := ⟨k - (i + 1), by omega⟩
      have e1 : i + 1 + d - (i + 1) = d := by omega
      have e2 : i + 1 + d - i = d + 1 := by omega
      rw [e1, e2]
      rfl
    · rw [if_neg h1]
      by_cases h2 : k = i
      · subst h2
        rw [if_pos (by simp only [List.length_cons]; omega), List.getElem?_set_self (by omega), Nat.sub_self]
        rfl
      · rw [if_neg (by simp only [List.length_cons]; omega), List.getElem?_set_ne (Ne.symm h2)]

/-- A store into an element of a row. -/
theorem rowSetG {P : Program} {t : TypeId} {a : Addr} {i : Int} {j : Nat} {v : Value} {ys : List Value} {x0 x : α} {K : World → Prop} (h : Mem L w) (k : Nat) (hz : ∀ x, (enc x).length = z) (hk : nthH L k = row enc T z p cap xs)
    (ha : p = some a) (hl : n = xs.length) (i0 : 0 ≤ i) (i1 : i < (n : Int)) (hs : sizeT P t = some ys.length) (hx : xs[i.toNat]? = some x0) (hy : v.cells.toList = ys) (hok : (ys.all okCell) = true)
    (hj : Nat.ble (j + ys.length) z = true) (hn : enc x = setVs (enc x0) j ys)
    (hK : ∀ w', Mem (setH L k (row enc T z p cap (xs.set i.toNat x))) w' → K w') : storeW P t (.pointer (some ((a.add (i.toNat * z)).add j))) v K w := by
  subst hl
  have hj := Nat.le_of_ble_eq_true hj
  have h0 := h.at k
  rw [hk] at h0
  have hlen := flatMap_len hz xs
  obtain ⟨hle, hcap⟩ := slP.length h0
  rcases slP.open h0 with ⟨rfl, -, -, -, -⟩ | ⟨b, off, c, rfl, hsz, hr, hA⟩
  · simp at ha
  cases ha
  have hi : i.toNat < xs.length := by omega
  have hmul : (i.toNat + 1) * z ≤ xs.length * z := Nat.mul_le_mul_right _ hi
  rw [Nat.succ_mul] at hmul
  have hcapz : xs.length * z ≤ cap * z := Nat.mul_le_mul_right _ hcap
  unfold storeW
  simp only []
  have hs' : sizeT P t = some v.cells.size := by rw [hs, ← hy]; simp
  rw [if_pos hs', hy, Addr_add_mk, Addr_add_mk]
  have hA' : Holds (cel b T c.toList * HL (delH L k)) w := by unfold cel; simpa using hA
  refine storeCells_mem (L := delH L k) (T := T) (b := b) ys c.toList (off + i.toNat * z + j) 0 w hA' (by simp; omega) hok (fun w' h' => hK w' (HL_set_le L k _ ?_))
  rw [Nat.add_zero] at h'
  unfold row
  have hlen' := flatMap_len hz (xs.set i.toNat x)
  refine slP.of_pt (c := (setVs c.toList (off + i.toNat * z + j) ys).toArray) (by rw [hlen']) (by simpa using hcap) ?_ ?_ h'
  · simp [setVs_length]; omega
  · intro q hq
    rw [hlen', List.length_set] at hq
    have hz0 : 0 < z := by
      rcases Nat.eq_zero_or_pos z with e | e
      · subst e; simp at hq
      · exact e
    obtain ⟨i', r, hi', hr', rfl⟩ : ∃ i' r, i' < xs.length ∧ r < z ∧ q = i' * z + r := by
      refine ⟨q / z, q % z, ?_, Nat.mod_lt _ hz0, ?_⟩
      · exact Nat.div_lt_of_lt_mul (by rw [Nat.mul_comm]; exact hq)
      · rw [Nat.mul_comm]; exact (Nat.div_add_mod q z).symm
    rw [List.getElem?_toArray, setVs_get _ _ _ _ (by simp; omega)]
    by_cases e : i' = i.toNat
    · subst e
      have hg : (xs.set i.toNat x)[i.toNat]? = some x := by simp [hi]
      rw [flatMap_get hz _ i.toNat r x hg hr', hn, setVs_get _ _ _ _ (by rw [hz]; exact hj)]
      by_cases hc : j ≤ r ∧ r < j + ys.length
      · rw [if_pos (by omega), if_pos hc]
        congr 1
        omega
      · rw [if_neg (by omega), if_neg hc]
        have := hr (i.toNat * z + r) (by rw [hlen]; omega)
        rw [Array.getElem?_toList, this, flatMap_get hz xs i.toNat r x0 hx hr']
    · have hout : ¬ (off + i.toNat * z + j ≤ off + (i' * z + r) ∧ off + (i' * z + r) < off + i.toNat * z + j + ys.length) := by
        rcases Nat.lt_or_gt_of_ne e with h1 | h1
        · have : (i' + 1) * z ≤ i.toNat * z := Nat.mul_le_mul_right _ h1
          rw [Nat.succ_mul] at this
          omega
        · have : (i.toNat + 1) * z ≤ i' * z := Nat.mul_le_mul_right _ h1
          rw [Nat.succ_mul] at this
          omega
      rw [if_neg hout]
      have hg : (xs.set i.toNat x)[i']? = some xs[i'] := by rw [List.getElem?_set_ne (Ne.symm e), List.getElem?_eq_getElem hi']
      have hb : (i' + 1) * z ≤ xs.length * z := Nat.mul_le_mul_right _ hi'
      rw [Nat.succ_mul] at hb
      rw [Array.getElem?_toList, hr (i' * z + r) (by rw [hlen]; omega), flatMap_get hz xs i' r _ (List.getElem?_eq_getElem hi') hr', flatMap_get hz _ i' r _ hg hr']

/-- Elements written into a row. -/
theorem rowWrite (h : Mem L w) (k : Nat) (hz : ∀ x, (enc x).length = z) (hk : nthH L k = row enc T z p cap xs) (lo : Nat) (zs : List α) (hl : lo + zs.length ≤ xs.length) (hpos : 0 < zs.length)
    (hok : ((zs.flatMap enc).all okCell) = true) : ∃ b off, p = some ⟨b, off, none⟩ ∧ ∀ K : World → Prop, (∀ w', Mem (setH L k (row enc T z p cap (xs.take lo ++ zs ++ xs.drop (lo + zs.length)))) w' → K w') →
      storeCellsW ⟨b, off + lo * z, none⟩ K (zs.flatMap enc) 0 w := by
  have h0 := h.at k
  rw [hk] at h0
  have hlen := flatMap_len hz xs
  obtain ⟨hle, hcap⟩ := slP.length h0
  rcases slP.open h0 with ⟨-, -, hx0, -, -⟩ | ⟨b, off, c, rfl, hsz, hr, hA⟩
  · omega
  refine ⟨b, off, rfl, fun K hK => ?_⟩
  have hzl := flatMap_len hz zs
  have hmul : (lo + zs.length) * z ≤ xs.length * z := Nat.mul_le_mul_right _ hl
  rw [Nat.add_mul] at hmul
  have hcapz : xs.length * z ≤ cap * z := Nat.mul_le_mul_right _ hcap
  have hA' : Holds (cel b T c.toList * HL (delH L k)) w := by unfold cel; simpa using hA
  refine storeCells_mem (L := delH L k) (T := T) (b := b) (zs.flatMap enc) c.toList (off + lo * z) 0 w hA' (by simp only [Array.length_toList, hzl]; omega) hok (fun w' h' => hK w' (HL_set_le L k _ ?_))
  rw [Nat.add_zero] at h'
  unfold row
  have hnl : (xs.take lo ++ zs ++ xs.drop (lo + zs.length)).length = xs.length := by simp; omega
  have hlen' := flatMap_len hz (xs.take lo ++ zs ++ xs.drop (lo + zs.length))
  refine slP.of_pt (c := (setVs c.toList (off + lo * z) (zs.flatMap enc)).toArray) (by rw [hlen']) (by rw [hnl]; exact hcap) ?_ ?_ h'
  · simp only [List.size_toArray, setVs_length, Array.length_toList]; exact hsz
  · intro q hq
    rw [hlen', hnl] at hq
    have hz0 : 0 < z := by
      rcases Nat.eq_zero_or_pos z with e | e
      · subst e; simp at hq
      · exact e
    obtain ⟨i', r, hi', hr', rfl⟩ : ∃ i' r, i' < xs.length ∧ r < z ∧ q = i' * z + r := by
      refine ⟨q / z, q % z, ?_, Nat.mod_lt _ hz0, ?_⟩
      · exact Nat.div_lt_of_lt_mul (by rw [Nat.mul_comm]; exact hq)
      · rw [Nat.mul_comm]; exact (Nat.div_add_mod q z).symm
    rw [List.getElem?_toArray, setVs_get _ _ _ _ (by simp only [Array.length_toList, hzl]; omega), hzl]
    have hb : (i' + 1) * z ≤ xs.length * z := Nat.mul_le_mul_right _ hi'
    rw [Nat.succ_mul] at hb
    by_cases e : lo ≤ i' ∧ i' < lo + zs.length
    · have h1 : lo * z ≤ i' * z := Nat.mul_le_mul_right _ e.1
      have h2 : (i' + 1) * z ≤ (lo + zs.length) * z := Nat.mul_le_mul_right _ e.2
      rw [Nat.succ_mul, Nat.add_mul] at h2
      rw [if_pos (by omega)]
      obtain ⟨d, rfl⟩ : ∃ d, i' = lo + d := ⟨i' - lo, by omega⟩
      have hd : d < zs.length := by omega
      have hg : (xs.take lo ++ zs ++ xs.drop (lo + zs.length))[lo + d]? = some zs[d] := by
        rw [List.append_assoc, List.getElem?_append_right (by simp; omega)]
        have : lo + d - (xs.take lo).length = d := by simp; omega
        rw [this, List.getElem?_append_left hd, List.getElem?_eq_getElem hd]
      rw [flatMap_get hz _ (lo + d) r _ hg hr', ← flatMap_get hz zs d r _ (List.getElem?_eq_getElem hd) hr']
      congr 1
      rw [Nat.add_mul]
      omega
    · have hout : ¬ (off + lo * z ≤ off + (i' * z + r) ∧ off + (i' * z + r) < off + lo * z + zs.length * z) := by
        rcases Nat.lt_or_ge i' lo with h1 | h1
        · have : (i' + 1) * z ≤ lo * z := Nat.mul_le_mul_right _ h1
          rw [Nat.succ_mul] at this
          omega
        · have : (lo + zs.length) * z ≤ i' * z := Nat.mul_le_mul_right _ (by omega)
          rw [Nat.add_mul] at this
          omega
      rw [if_neg hout, Array.getElem?_toList, hr (i' * z + r) (by rw [hlen]; omega), flatMap_get hz xs i' r _ (List.getElem?_eq_getElem hi') hr']
      have hg : (xs.take lo ++ zs ++ xs.drop (lo + zs.length))[i']? = some xs[i'] := by
        rcases Nat.lt_or_ge i' lo with h1 | h1
        · rw [List.append_assoc, List.getElem?_append_left (by simp; omega), List.getElem?_take, if_pos h1, List.getElem?_eq_getElem hi']
        · rw [List.getElem?_append_right (by simp; omega), List.getElem?_drop]
          have : lo + zs.length + (i' - (xs.take lo ++ zs).length) = i' := by simp; omega
          rw [this, List.getElem?_eq_getElem hi']
      rw [flatMap_get hz _ i' r _ hg hr']

theorem zeroCells_eq {zv : Array Value} {x0 : α} (hz : ∀ x, (enc x).length = z) (hx : enc x0 = zv.toList) (n : Nat) : (Builtin.zeroCells zv n).toList = (List.replicate n x0).flatMap enc := by
  have hs : zv.size = z := by rw [← hz x0, hx]; simp
  apply List.ext_getElem?
  intro i
  by_cases hi : i < n * z
  · have hz0 : 0 < z := by
      rcases Nat.eq_zero_or_pos z with e | e
      · subst e; simp at hi
      · exact e
    have hm := Nat.mod_lt i hz0
    have e : i = i / z * z + i % z := by rw [Nat.mul_comm]; exact (Nat.div_add_mod i z).symm
    have hq : i / z < n := Nat.div_lt_of_lt_mul (by rw [Nat.mul_comm]; exact hi)
    have h1 : ((List.replicate n x0).flatMap enc)[i]? = (enc x0)[i % z]? := by
      conv => lhs; rw [e]
      exact flatMap_get hz _ _ _ _ (by simp [hq]) hm
    rw [h1, hx]
    simp only [Builtin.zeroCells, Array.getElem?_toList, Array.getElem?_map, hs]
    rw [Array.getElem?_range]
    rw [if_pos hi]
    simp only [Option.map_some]
    have hzs : i % z < zv.size := by rw [hs]; exact hm
    rw [Array.getElem?_eq_getElem hzs, getElem!_pos zv _ hzs]
  · rw [List.getElem?_eq_none, List.getElem?_eq_none]
    · rw [flatMap_len hz]; simp; omega
    · simp [Builtin.zeroCells, hs]; omega

theorem clearL {P : Program} {t ty e : TypeId} {zv : Value} {x0 : α} {lo hi m n c : Nat} {K : Value → World → Prop} (ht : P.underlying t = some (.slice e)) (hzv : zeroOf P e = some zv) (h : Mem L w) (k : Nat) (hz : ∀ x, (enc x).length = z)
    (hk : nthH L k = row enc T z p cap xs) (hx : enc x0 = zv.cells.toList) (hok : ((enc x0).all okCell) = true) (h1 : lo ≤ hi) (h2 : hi ≤ m) (h4 : hi ≤ xs.length) (hn : n = hi - lo)
    (hK : ∀ w', Mem (setH L k (row enc T z p cap (xs.take lo ++ List.replicate (hi - lo) x0 ++ xs.drop hi))) w' → K (.tuple #[]) w') :
    RunW P (Builtin.clear_ #[t] ty #[.slice (slAddr p z lo m) n c]) K w := by
  subst hn
  rcases Nat.eq_zero_or_pos (hi - lo) with e0 | e0
  · refine ⟨.tuple #[], w, ?_, hK w (HL_set_le L k _ ?_)⟩
    · rw [e0]
      generalize slAddr p z lo m = q
      cases q <;> simp [Builtin.clear_, run_underlying ht, Sem.run_bind, Result.andThen, Sem.run]
    · obtain rfl : hi = lo := by omega
      rw [Nat.sub_self, List.replicate_zero, List.append_nil, List.take_append_drop]
      have := h.at k
      rw [hk] at this
      exact this
  · have hall : ((List.replicate (hi - lo) x0).flatMap enc).all okCell = true := by
      rw [List.all_eq_true] at hok ⊢
      intro v hv
      rw [List.mem_flatMap] at hv
      obtain ⟨x, hx', hv⟩ := hv
      rw [List.mem_replicate] at hx'
      rw [hx'.2] at hv
      exact hok v hv
    obtain ⟨b, off, rfl, hst⟩ := rowWrite h k hz hk lo (List.replicate (hi - lo) x0) (by simp; omega) (by simpa using e0) hall
    have hne : m ≠ lo := by omega
    have ha : slAddr (some (⟨b, off, none⟩ : Addr)) z lo m = some ⟨b, off + lo * z, none⟩ := by
      unfold slAddr; rw [if_neg hne]; simp [Addr_add_mk]
    rw [ha]
    have hlen : lo + (List.replicate (hi - lo) x0).length = hi := by simp; omega
    rw [hlen] at hst
    obtain ⟨w', hw1, hw2⟩ := storeCellsW_run (P := P) _ _ _ (hst (fun w' => K (.tuple #[]) w') hK)
    refine ⟨.tuple #[], w', ?_, hw1⟩
    obtain ⟨j, hj⟩ : ∃ j, hi - lo = j + 1 := ⟨hi - lo - 1, by omega⟩
    have hzc := zeroCells_eq (zv := zv.cells) hz hx (hi - lo)
    rw [hj] at hzc hw2 ⊢
    simp [Builtin.clear_, run_underlying ht, Sem.run_bind, Result.andThen, run_zeroValue hzv, hzc, hw2]

theorem setVs_all (ys l : List Value) (h : ys.length = l.length) : setVs l 0 ys = ys := by
  apply List.ext_getElem?
  intro k
  rw [setVs_get _ _ _ _ (by omega)]
  by_cases hk : k < ys.length
  · rw [if_pos (by omega)]; rfl
  · rw [if_neg (by omega), List.getElem?_eq_none (by omega), List.getElem?_eq_none (by omega)]

/-- An element stored whole. -/
theorem rowSetW {P : Program} {t : TypeId} {a : Addr} {i : Int} {v : Value} {ys : List Value} {x : α} {K : World → Prop} (h : Mem L w) (k : Nat) (hz : ∀ x, (enc x).length = z) (hk : nthH L k = row enc T z p cap xs)
    (ha : p = some a) (hl : n = xs.length) (i0 : 0 ≤ i) (i1 : i < (n : Int)) (hs : sizeT P t = some ys.length) (hy : v.cells.toList = ys) (hok : (ys.all okCell) = true) (hn : enc x = ys)
    (hK : ∀ w', Mem (setH L k (row enc T z p cap (xs.set i.toNat x))) w' → K w') : storeW P t (.pointer (some (a.add (i.toNat * z)))) v K w := by
  have hx : xs[i.toNat]? = some (xs[i.toNat]'(by omega)) := List.getElem?_eq_getElem (by omega)
  have hzl : ys.length = z := by rw [← hn, hz]
  have := rowSetG (P := P) (t := t) (j := 0) (v := v) (x := x) h k hz hk ha hl i0 i1 hs hx hy hok (by rw [hzl]; simp) (by rw [setVs_all _ _ (by rw [hz, hzl]), hn]) hK
  rwa [addr_add_zero] at this

theorem makeL {l c : Int} {x0 : α} {zs : List Value} {K : Nat → World → Prop} (h : Mem L w) (hz : ∀ x, (enc x).length = z) (hx : enc x0 = zs) (hl : l.toNat ≤ c.toNat)
    (hK : ∀ b w', Mem (row enc T z (some ⟨b, 0, none⟩) c.toNat (List.replicate l.toNat x0) :: L) w' → K b w') : NewW (.cells (zeros c.toNat zs) T) K w := by
  refine newO h fun b w' h' => hK b w' ?_
  unfold Mem at *
  simp only [HL] at h' ⊢
  unfold row
  have hzl : zs.length = z := by rw [← hx, hz]
  have hf : ∀ n, (List.replicate n zs).flatten.length = n * z := fun n => by simp [hzl]
  refine slP.of_pt (c := zeros c.toNat zs) (by rw [flatMap_len hz]) (by simpa using hl) (by simp [zeros, hzl]) ?_ h'
  intro j hj
  rw [flatMap_len hz, List.length_replicate] at hj
  have hrep : (List.replicate l.toNat x0).flatMap enc = (List.replicate l.toNat zs).flatten := by
    rw [List.flatMap_def, List.map_replicate, hx]
  rw [hrep, Nat.zero_add]
  unfold zeros
  rw [List.getElem?_toArray]
  obtain ⟨d, hd⟩ : ∃ d, c.toNat = l.toNat + d := ⟨c.toNat - l.toNat, by omega⟩
  rw [hd, ← List.replicate_append_replicate, List.flatten_append, List.getElem?_append_left (by rw [hf]; exact hj)]

theorem rowNil {α : Type} (enc : α → List Value) (T : TypeId) (z : Nat) {L : List HP} {w : World} (h : Mem L w) : Mem (row enc T z none 0 [] :: L) w := slP.nil h

theorem rowOfCel {b : Nat} {vs : List Value} (h : Mem L w) (k : Nat) (hz : ∀ x, (enc x).length = z) (hk : nthH L k = cel b T vs) (xs : List α) (hx : vs = xs.flatMap enc) :
    Mem (setH L k (row enc T z (some ⟨b, 0, none⟩) xs.length xs)) w := by
  refine HL_set_le L k _ ?_
  have h0 := h.at k
  rw [hk] at h0
  unfold row
  have hlen := flatMap_len hz xs
  refine slP.of_pt (c := vs.toArray) hlen (Nat.le_refl _) ?_ ?_ h0
  · simp [hx, hlen]
  · intro j hj
    simp [hx]

/-- What lies in a block of cells reads as a slice. -/
theorem celRd {b : Nat} {vs : List Value} (h : Mem L w) (k : Nat) (hz : ∀ x, (enc x).length = z) (hk : nthH L k = cel b T vs) (xs : List α) (hx : vs = xs.flatMap enc) : Rd w z (some ⟨b, 0, none⟩) enc xs := by
  have h2 := h.at k
  rw [hk] at h2
  intro i x hi
  have hil := (List.getElem?_eq_some_iff.1 hi).1
  refine ⟨b, 0, rfl, fun j v hj => ?_⟩
  have hjz := ix_lt hj
  rw [hz] at hjz
  rw [Holds.cell h2]
  simp only [hx, Nat.zero_add, List.getElem?_toArray]
  rw [flatMap_get hz xs i j x hi hjz, ← ix_eq, hj]

end

/-! ### Append -/

section
variable {α : Type} {enc : α → List Value} {L : List HP} {w : World} {z : Nat} {p : Option Addr} {cap n : Nat} {xs : List α} {P : Program}

theorem Rd.cells (hz : ∀ x, (enc x).length = z) (hr : Rd w z p enc xs) (h0 : 0 < xs.length * z) : ∃ b off, p = some ⟨b, off, none⟩ ∧ ∀ j v, (xs.flatMap enc)[j]? = some v → w.cell? ⟨b, off + j, none⟩ = some v := by
  have hx : 0 < xs.length := Nat.pos_of_mul_pos_right h0
  have hz0 : 0 < z := Nat.pos_of_mul_pos_left h0
  obtain ⟨b, off, hp, -⟩ := hr 0 _ (List.getElem?_eq_getElem hx)
  refine ⟨b, off, hp, fun j v hj => ?_⟩
  have hjl := (List.getElem?_eq_some_iff.1 hj).1
  rw [flatMap_len hz] at hjl
  have hi : j / z < xs.length := Nat.div_lt_of_lt_mul (by rw [Nat.mul_comm]; exact hjl)
  obtain ⟨b', off', hp', hc⟩ := hr (j / z) _ (List.getElem?_eq_getElem hi)
  rw [hp] at hp'
  cases hp'
  have e : j = j / z * z + j % z := by rw [Nat.mul_comm]; exact (Nat.div_add_mod j z).symm
  have hm := Nat.mod_lt j hz0
  have := hc (j % z) v (by rw [ix_eq, ← flatMap_get hz xs (j / z) (j % z) _ (List.getElem?_eq_getElem hi) hm, ← e, hj])
  rw [Nat.add_assoc, ← e] at this
  exact this


structure SlT (P : Program) (t e : TypeId) (zv : Value) (z bytes : Nat) : Prop where
  under : P.underlying t = some (.slice e)
  info : (P.info? e).map (fun i => (i.zero, i.size, i.bytes)) = some (some zv, z, bytes)
  size : zv.cells.size = z
  pos : 0 < bytes

theorem Rd.src (hz : ∀ x, (enc x).length = z) (hone : ∀ x, ∀ v ∈ enc x, v.oneCell' = true) {tx e' : TypeId} (hk : P.underlying tx = some (.slice e')) {c : Nat} (hr : Rd w z p enc xs) (hl : n = xs.length) :
    Src P z tx (.slice p n c) n (xs.flatMap enc) w := by
  subst hl
  have h1 : ∀ u ∈ xs.flatMap enc, u.oneCell' = true := by
    intro u hu
    rw [List.mem_flatMap] at hu
    obtain ⟨x, -, hx⟩ := hu
    exact hone x u hx
  cases p with
  | none =>
    cases xs with
    | nil => exact Src.ofNil w hk c
    | cons x xs => obtain ⟨b, off, hp, -⟩ := hr 0 x (by simp); exact absurd hp (by simp)
  | some a =>
    refine Src.ofSlice w hk a _ c _ (flatMap_len hz xs) (fun j u hj => ?_) h1
    have hjl := (List.getElem?_eq_some_iff.1 hj).1
    rw [flatMap_len hz] at hjl
    obtain ⟨b, off, hp, hc⟩ := Rd.cells hz hr (by omega)
    cases hp
    rw [Addr_add_mk]
    exact hc j u hj

theorem appendL {t tx ty e e' : TypeId} {zv : Value} {bytes : Nat} (hS : SlT P t e zv z bytes) (htx : P.underlying tx = some (.slice e')) (hz : ∀ x, (enc x).length = z) (hone : ∀ x, ∀ v ∈ enc x, v.oneCell' = true)
    (h : Mem L w) (k : Nat) (hk : nthH L k = row enc e z p cap xs) (hl : n = xs.length) {q : Option Addr} {m c : Nat} {ys : List α} (hr : Rd w z q enc ys) (hm : m = ys.length)
    (hb : (xs.length + ys.length) * bytes ≤ 140737488355328) {K : Value → World → Prop}
    (hK : ∀ p' cap' w', Mem (setH L k (row enc e z p' cap' (xs ++ ys))) w' → K (.slice p' (xs ++ ys).length cap') w') :
    RunW P (Builtin.append_ #[t, tx] ty #[.slice p n cap, .slice q m c]) K w := by
  obtain ⟨i, hi, hz0, hz1, hz2⟩ : ∃ i, P.info? e = some i ∧ i.zero = some zv ∧ i.size = z ∧ i.bytes = bytes := by
    have := hS.info
    cases hi : P.info? e with
    | none => rw [hi] at this; simp at this
    | some i => rw [hi] at this; simp at this; exact ⟨i, rfl, this.1, this.2.1, this.2.2⟩
  subst hz1
  subst hz2
  have h0 := h.at k
  rw [hk] at h0
  subst hl
  have hsrc := Rd.src (P := P) hz hone htx (c := c) hr hm
  subst hm
  have hpos := hS.pos
  have hle : xs.length + ys.length ≤ 140737488355328 := Nat.le_trans (Nat.le_mul_of_pos_right _ hpos) hb
  refine append_own hS.under hi hz0 hS.size h0 hsrc (by omega) hb ?_
  intro p' cap' w' h'
  have hlen : xs.length + ys.length = (xs ++ ys).length := by simp
  have hc : xs.flatMap enc ++ ys.flatMap enc = (xs ++ ys).flatMap enc := by simp
  rw [hlen]
  refine hK p' cap' w' (HL_set_le L k _ ?_)
  unfold row
  rw [← hc, ← hlen]
  exact h'

end

/-! ### Whole blocks, marks, loops over functions -/

section
variable {L : List HP} {w : World}

theorem objAt {b : Nat} {o : Obj} (h : Mem L w) (k : Nat) (hk : nthH L k = pt b o) : w.heap[b]? = some o := by
  have := h.at k
  rw [hk] at this
  exact Holds.block this

theorem Mem.putK {b : Nat} {o : Obj} (h : Mem L w) (k : Nat) (hk : nthH L k = pt b o) (o' : Obj) : Mem (setH L k (pt b o')) (w.putObj b o') := by
  have := h.at k
  rw [hk] at this
  exact HL_set_le L k _ (Holds.put this o')

/-- The marks that a function has laid for what a round may defer. -/
def marksP : List Nat → HP
  | [] => emp
  | d :: m => pt d (.deferred (some [])) * marksP m

theorem marksNil (h : Mem L w) : Mem (marksP [] :: L) w := by
  unfold Mem at *
  show Holds (emp * HL L) w
  rw [emp_star]
  exact h

theorem marksPush {d : Nat} {m : List Nat} (h : Mem (pt d (.deferred (some [])) :: marksP m :: L) w) : Mem (marksP (d :: m) :: L) w := by
  unfold Mem at *
  show Holds ((pt d (.deferred (some [])) * marksP m) * HL L) w
  simp only [HL] at h
  rw [star_assoc]
  exact h

theorem marksPop {d : Nat} {m : List Nat} (h : Mem (marksP (d :: m) :: L) w) : w.heap[d]? = some (.deferred (some [])) ∧ Mem (marksP m :: L) (w.putObj d (.deferred none)) := by
  unfold Mem at *
  have h : Holds ((pt d (.deferred (some [])) * marksP m) * HL L) w := h
  rw [star_assoc] at h
  exact ⟨h.block, (Holds.put h _).right⟩

theorem finishMarks {k : World → Prop} : ∀ (m : List Nat) {w : World}, Mem (marksP m :: L) w → (∀ w', Mem L w' → k w') → finishW k m w
  | [], _, h, hk => hk _ (Holds.right h)
  | _ :: m, _, h, hk => ⟨(marksPop h).1, finishMarks m (marksPop h).2 hk⟩

end

/-- A loop over a function: how it stands. -/
def loopS (lo : Loop) (n : Nat) (pd : Nat → Option Code) : Obj := .loop { lo with state := if n = 0 then .ready else .done, pending := pd n }

theorem loopS_ns (n : Nat) : (if n = 0 then LoopState.ready else LoopState.done) ≠ .busy := by split <;> simp

theorem rangeCallFn {P : Program} {f : FuncId} {a c : Array Value} {l : Nat} {w : World} {R : World → Prop} (hb : hasBody P f = true) (h : CallV P f (a ++ #[.func (.yield l) #[] #[]] ++ c) w (fun _ w' => R w')) : rangeCallW P (.func (.func f) a c) l w R := by
  unfold rangeCallW
  simp only [hb, if_true]
  exact h

theorem calleeY {P : Program} {l : Nat} {args : Array Value} {w : World} {R : Value → World → Prop} (h : YieldV P l args w R) : CalleeV P (Value.func (.yield l) #[] #[]) args w R := by
  unfold CalleeV
  simpa using h

/-! ### Small steps -/

theorem leCap {i : Int} {n c : Nat} (h : i ≤ (n : Int)) (hc : n ≤ c) : i ≤ (c : Int) := by omega
theorem leNat {i j : Int} (h0 : 0 ≤ j) (h : i ≤ j) : i ≤ ((j.toNat : Nat) : Int) := by omega
theorem natLe {i : Int} {n : Nat} (_h0 : 0 ≤ i) (h : i ≤ (n : Int)) : i.toNat ≤ n := by omega
theorem natLe2 {i j : Int} (_h0 : 0 ≤ i) (_h1 : 0 ≤ j) (h : i ≤ j) : i.toNat ≤ j.toNat := by omega
theorem leLen {i : Int} {n m : Nat} (_h0 : 0 ≤ i) (h : i ≤ (n : Int)) (hl : n = m) : i.toNat ≤ m := by omega

theorem binS_run {P : Program} {op : BinOp} {t : TypeId} {x y : Operand} {a b : Value} {w : World} {v : Value} (hg : (eqGuard op t x y a b).run P w = .ok () w) (h : (binOp op t a b).run P w = .ok v w) :
    (binS op t x y a b).run P w = .ok v w := by
  unfold binS
  rw [Sem.run_bind, hg]
  exact h

theorem guardPtr {P : Program} {op : BinOp} {t : TypeId} {x y : Operand} {p q : Option Addr} {w : World} : (eqGuard op t x y (.pointer p) (.pointer q)).run P w = .ok () w := by
  unfold eqGuard
  split <;> simp

theorem eqlPtrNil {P : Program} {t : TypeId} {x y : Operand} {a : Addr} {K : Value → World → Prop} {w : World} (hu : P.underlying t = some (.pointer (P.pointee t))) (hK : K (.bool false) w) :
    RunW P (binS .eql t x y (.pointer (some a)) (.pointer none)) K w :=
  ⟨_, _, binS_run guardPtr (run_eql_pointer_nil w t (some a) hu), hK⟩

theorem neqPtrNil {P : Program} {t : TypeId} {x y : Operand} {a : Addr} {K : Value → World → Prop} {w : World} (hu : P.underlying t = some (.pointer (P.pointee t))) (hK : K (.bool true) w) :
    RunW P (binS .neq t x y (.pointer (some a)) (.pointer none)) K w :=
  ⟨_, _, binS_run guardPtr (run_neq_pointer_nil w t (some a) hu), hK⟩

theorem guardBool {P : Program} {op : BinOp} {t : TypeId} {x y : Operand} {p q : Bool} {w : World} : (eqGuard op t x y (.bool p) (.bool q)).run P w = .ok () w := by
  unfold eqGuard
  split <;> simp

theorem eqlBool {P : Program} {t : TypeId} {x y : Operand} {a b : Bool} {K : Value → World → Prop} {w : World} (hu : P.underlying t = some .bool) (hK : K (.bool (a == b)) w) :
    RunW P (binS .eql t x y (.bool a) (.bool b)) K w :=
  ⟨_, _, binS_run guardBool (run_eql_bool w t a b hu), hK⟩

theorem neqBool {P : Program} {t : TypeId} {x y : Operand} {a b : Bool} {K : Value → World → Prop} {w : World} (hu : P.underlying t = some .bool) (hK : K (.bool (!(a == b))) w) :
    RunW P (binS .neq t x y (.bool a) (.bool b)) K w :=
  ⟨_, _, binS_run guardBool (run_neq_bool w t a b hu), hK⟩

/-! ### Slices against nil, conversions -/

theorem Rd.nil {α : Type} {w : World} {z : Nat} {enc : α → List Value} : Rd w z none enc ([] : List α) := fun i x hx => by simp at hx

theorem nilEmpty {α : Type} {w : World} {z : Nat} {p : Option Addr} {enc : α → List Value} {xs : List α} {b : Bool} (hr : Rd w z p enc xs) (hb : p.isNone = b) (h : b = true) : xs = [] := by
  subst hb
  cases p with
  | some a => simp at h
  | none =>
    cases xs with
    | nil => rfl
    | cons x xs => obtain ⟨b, off, hp, -⟩ := hr 0 x (by simp); simp at hp

theorem guardSl {P : Program} {op : BinOp} {t : TypeId} {x y : Operand} {p q : Option Addr} {n c n' c' : Nat} {w : World} : (eqGuard op t x y (.slice p n c) (.slice q n' c')).run P w = .ok () w := by
  unfold eqGuard
  split <;> simp

theorem run_eql_slnil {P : Program} (w : World) (t e : TypeId) (a : Option Addr) (n c n' c' : Nat) (h : P.underlying t = some (.slice e)) :
    (binOp .eql t (.slice a n c) (.slice none n' c')).run P w = .ok (.bool a.isNone) w ∧ (binOp .neq t (.slice a n c) (.slice none n' c')).run P w = .ok (.bool (!a.isNone)) w := by
  have h1 : ∀ d, (Op.equalIn (d + 1) t (.slice a n c) (.slice none n' c')).run P w = .ok a.isNone w := by
    intro d
    cases a <;> simp [Op.equalIn, run_underlying h, Sem.run_bind, Result.andThen]
  constructor
  · simp only [binOp]
    simp [Op.equal, Op.maxDepth, h1 9999]
  · simp only [binOp]
    simp [Op.equal, Op.maxDepth, h1 9999]

theorem eqlSlNil {P : Program} {t e : TypeId} {x y : Operand} {p : Option Addr} {n c n' c' : Nat} {b : Bool} {K : Value → World → Prop} {w : World} (hu : P.underlying t = some (.slice e)) (hb : p.isNone = b) (hK : K (.bool b) w) :
    RunW P (binS .eql t x y (.slice p n c) (.slice none n' c')) K w := by
  subst hb
  exact ⟨_, _, binS_run guardSl (run_eql_slnil w t e p n c n' c' hu).1, hK⟩

theorem neqSlNil {P : Program} {t e : TypeId} {x y : Operand} {p : Option Addr} {n c n' c' : Nat} {b : Bool} {K : Value → World → Prop} {w : World} (hu : P.underlying t = some (.slice e)) (hb : p.isNone = b) (hK : K (.bool (!b)) w) :
    RunW P (binS .neq t x y (.slice p n c) (.slice none n' c')) K w := by
  subst hb
  exact ⟨_, _, binS_run guardSl (run_eql_slnil w t e p n c n' c' hu).2, hK⟩

theorem guardStr {P : Program} {op : BinOp} {t : TypeId} {x y : Operand} {p q : ByteArray} {w : World} : (eqGuard op t x y (.string p) (.string q)).run P w = .ok () w := by
  unfold eqGuard
  split <;> simp

theorem run_eql_str {P : Program} (w : World) (t : TypeId) (a b : ByteArray) : (binOp .eql t (.string a) (.string b)).run P w = .ok (.bool (a == b)) w ∧ (binOp .neq t (.string a) (.string b)).run P w = .ok (.bool (!(a == b))) w := by
  constructor
  · unfold binOp
    simp [Op.stringOp, beq_toListBytes]
  · unfold binOp
    simp [Op.stringOp, beq_toListBytes]

theorem eqlStr {P : Program} {t : TypeId} {x y : Operand} {a b : ByteArray} {K : Value → World → Prop} {w : World} (hK : K (.bool (a == b)) w) : RunW P (binS .eql t x y (.string a) (.string b)) K w :=
  ⟨_, _, binS_run guardStr (run_eql_str w t a b).1, hK⟩

theorem neqStr {P : Program} {t : TypeId} {x y : Operand} {a b : ByteArray} {K : Value → World → Prop} {w : World} (hK : K (.bool (!(a == b))) w) : RunW P (binS .neq t x y (.string a) (.string b)) K w :=
  ⟨_, _, binS_run guardStr (run_eql_str w t a b).2, hK⟩

/-- The string of some bytes. -/
def strOf (xs : List Int) : ByteArray := ⟨(xs.map fun n => UInt8.ofNat n.toNat).toArray⟩

theorem bytesStr {P : Program} {src dst e : TypeId} {p : Option Addr} {n c : Nat} {xs : List Int} {enc : Int → List Value} {K : Value → World → Prop} {w : World} (hs : P.underlying src = some (.slice e)) (he : P.underlying e = some (.int .u8)) (hd : P.underlying dst = some .string)
    (hr : Rd w 1 p enc xs) (henc : ∀ x, enc x = [.int .u8 x]) (hl : n = xs.length) (hK : K (.string (strOf xs)) w) : RunW P (convert src dst (.slice p n c)) K w := by
  subst hl
  cases p with
  | none =>
    cases xs with
    | nil => exact ⟨_, _, run_convert_bytes_nil w src e hs he _ _ dst hd, hK⟩
    | cons x xs => obtain ⟨b, off, hp, -⟩ := hr 0 x (by simp); simp at hp
  | some a =>
    by_cases h0 : xs = []
    · subst h0
      refine ⟨.string ByteArray.empty, w, ?_, hK⟩
      rw [run_convert_bytes_string w src dst e _ _ c hs he hd]
      exact run_bytesToString w a 0 c [] (by simp [loadCells, loadCellsFrom])
    · obtain ⟨b, off, hp, -⟩ := hr 0 _ (List.getElem?_eq_getElem (List.length_pos_iff.2 h0))
      cases hp
      refine ⟨_, _, run_convert_bytes_arg w src e hs he b off xs.length c xs rfl (fun i hi => ?_) dst hd, hK⟩
      obtain ⟨b', off', hp', hc⟩ := hr i _ (List.getElem?_eq_getElem hi)
      cases hp'
      have := hc 0 (.int .u8 xs[i]) (by rw [henc]; rfl)
      rw [Nat.mul_one, Nat.add_zero] at this
      rw [this]
      simp [List.getD, hi]

/-- A block of which something may be frozen. -/
def celF (b : Nat) (T : TypeId) (vs : List Value) : HP := exH fun fr : Nat × Nat => pt b (.cells vs.toArray T fr)

theorem celRdF {α : Type} {enc : α → List Value} {L : List HP} {w : World} {T : TypeId} {z b : Nat} {vs : List Value} (h : Mem L w) (k : Nat) (hz : ∀ x, (enc x).length = z) (hk : nthH L k = celF b T vs) (xs : List α) (hx : vs = xs.flatMap enc) : Rd w z (some ⟨b, 0, none⟩) enc xs := by
  have h2 := h.at k
  rw [hk] at h2
  obtain ⟨fr, h2⟩ := Holds.ex h2
  intro i x hi
  refine ⟨b, 0, rfl, fun j v hj => ?_⟩
  have hjz := ix_lt hj
  rw [hz] at hjz
  rw [Holds.cell h2]
  simp only [hx, Nat.zero_add, List.getElem?_toArray]
  rw [flatMap_get hz xs i j x hi hjz, ← ix_eq, hj]

theorem convBytesC {P : Program} {t e : TypeId} {L : List HP} {w : World} {T : TypeId} {b n c : Nat} {vs : List Value} {K : Value → World → Prop} (hs : P.underlying t = some (.slice e)) (he : P.underlying e = some (.int .u8)) (h : Mem L w) (k : Nat) (hk : nthH L k = cel b T vs)
    (hK : ∀ w', Mem (setH L k (celF b T vs)) w' → K (.slice (some ⟨b, 0, none⟩) n c) w') : RunW P (convert t t (.slice (some ⟨b, 0, none⟩) n c)) K w := by
  have h0 := h.at k
  rw [hk] at h0
  have hb : w.heap[b]? = some (.cells vs.toArray T (0, 0)) := Holds.block h0
  have hlt : b < w.heap.size := Holds.lt h0
  refine ⟨_, w.freeze ⟨b, vs.length, none⟩ 1, ?_, hK _ (HL_set_le L k _ ?_)⟩
  · have hsh : w.shape? b = some (T, vs.length) := by simp [World.shape?, hb]
    simp only [convert, Sem.run_bind, run_underlying hs, Result.andThen, run_underlying he, beq_self_eq_true]
    simp [markStringish, Sem.run_bind, Result.andThen, shape, Sem.run, hsh]
  · refine Holds.ex_intro (vs.length, vs.length + 1) ?_
    refine Holds.turn h0 ?_ ?_ ?_ ?_ ?_ ?_
    · simp [World.freeze]
    · simp [World.freeze]
    · simp [World.freeze]
    · simp [World.freeze]
    · simp [World.freeze, Array.getElem?_modify, hb]
    · intro i hi
      simp only [World.freeze]
      simp [Array.getElem?_modify, Ne.symm hi]

/-! ### Structs held against each other -/

def partL (P : Program) (t : TypeId) (cs : List Value) (off : Nat) : Option (List Value) :=
  if isAggB P t = true then (match sizeT P t with
    | some n => some ((cs.drop off).take n)
    | none => none) else (if (P.underlying t).isSome = true then (match cs[off]? with
    | some v => some [v]
    | none => none) else none)

mutual
def eqT (P : Program) : Nat → TypeId → List Value → List Value → Option Bool
  | 0, _, _, _ => none
  | d + 1, t, xs, ys =>
    match P.underlying t with
    | some (.int _) => match xs, ys with
      | [.int k a], [.int k' b] => if k = k' then some (a == b) else none
      | _, _ => none
    | some .bool => match xs, ys with
      | [.bool a], [.bool b] => some (a == b)
      | _, _ => none
    | some (.struct fs) => if P.stoodInHeld t = true then none else eqF P d fs.toList xs ys
    | _ => none
def eqF (P : Program) : Nat → List Field → List Value → List Value → Option Bool
  | 0, _, _, _ => none
  | _ + 1, [], _, _ => some true
  | d + 1, f :: fs, xs, ys => if f.name = "_" then none else
    match partL P f.type xs f.offset, partL P f.type ys f.offset with
    | some a, some b => match eqT P d f.type a b, eqF P d fs xs ys with
      | some r, some r' => some (r && r')
      | _, _ => none
    | _, _ => none
end

/-- A value out of its cells. -/
def valOf (P : Program) (t : TypeId) (cs : List Value) : Value := if isAggB P t = true then .agg cs.toArray else cs.headD undef

theorem part_run {P : Program} {t : TypeId} {cs : List Value} {off : Nat} {a : List Value} {w : World} (h : partL P t cs off = some a) : (part t cs.toArray off).run P w = .ok (valOf P t a) w := by
  unfold partL at h
  split at h
  · rename_i hagg
    split at h
    · rename_i n hn
      cases h
      simp only [part, Sem.run_bind, run_isAgg (isAgg_some hagg), Result.andThen, hagg, if_true, run_sizeOf hn, valOf, Sem.run_pure]
      congr 2
      apply Array.ext'
      simp [List.extract_eq_take_drop]
    · simp at h
  · rename_i hagg
    split at h
    · rename_i hu
      split at h
      · rename_i v hv
        cases h
        have hagg' : isAggB P t = false := by simpa using hagg
        simp only [part, Sem.run_bind, run_isAgg hu, Result.andThen, hagg', valOf, List.getElem?_toArray, hv]
        simp
      · simp at h
    · simp at h

theorem eqT_run {P : Program} : ∀ (d : Nat), (∀ (t : TypeId) (xs ys : List Value) (r : Bool) (D : Nat) (w : World), eqT P d t xs ys = some r → (Op.equalIn (D + d) t (valOf P t xs) (valOf P t ys)).run P w = .ok r w) ∧
    (∀ (fs : List Field) (xs ys : List Value) (r : Bool) (D : Nat) (w : World), eqF P d fs xs ys = some r → (Op.eqFields (D + d) xs.toArray ys.toArray fs).run P w = .ok r w)
  | 0 => ⟨fun t xs ys r D w h => by simp [eqT] at h, fun fs xs ys r D w h => by simp [eqF] at h⟩
  | d + 1 => by
    obtain ⟨ih1, ih2⟩ := eqT_run (P := P) d
    constructor
    · intro t xs ys r D w h
      unfold eqT at h
      split at h
      · rename_i k ht
        split at h
        · split at h
          · rename_i hk
            subst hk
            cases h
            have hagg : isAggB P t = false := by simp [isAggB, ht]
            simp only [valOf, hagg, Bool.false_eq_true, if_false, List.headD]
            rw [← Nat.add_assoc]
            exact run_equalIn_int w _ t _ _ _ _ ht
          · simp at h
        · simp at h
      · rename_i ht
        split at h
        · cases h
          have hagg : isAggB P t = false := by simp [isAggB, ht]
          simp only [valOf, hagg, Bool.false_eq_true, if_false, List.headD]
          rw [← Nat.add_assoc]
          exact run_equalIn_bool' w _ t _ _ ht
        · simp at h
      · rename_i fs ht
        split at h
        · simp at h
        · rename_i hst
          have hagg : isAggB P t = true := by simp [isAggB, ht]
          simp only [valOf, hagg, if_true]
          have hf : P.fieldsOf t = fs := by simp [Program.fieldsOf, ht]
          rw [← Nat.add_assoc, run_equalIn_agg w _ t _ _ (by rw [hf]; exact ht) (by simpa using hst), hf]
          exact ih2 _ _ _ _ _ _ h
      · simp at h
    · intro fs xs ys r D w h
      cases fs with
      | nil =>
        simp only [eqF] at h
        cases h
        simp [Op.eqFields]
      | cons f fs =>
        simp only [eqF] at h
        split at h
        · simp at h
        · rename_i hn
          split at h
          · rename_i a b ha hb
            split at h
            · rename_i r1 r2 h1 h2
              cases h
              have e1 := ih1 _ _ _ _ (D + 1) w h1
              have e2 := ih2 _ _ _ _ (D + 1) w h2
              have hD : D + 1 + d = D + (d + 1) := by omega
              rw [hD] at e1 e2
              simp only [Op.eqFields, hn, ne_eq, not_false_eq_true, if_true, Sem.run_bind, part_run ha, part_run hb, Result.andThen, e1]
              cases r1 <;> simp [e2]
            · simp at h
          · simp at h

theorem eqlAgg {P : Program} {t : TypeId} {x y : Operand} {xs ys : List Value} {r : Bool} {K : Value → World → Prop} {w : World} (hg : P.eqGuardType P.depth t = false) (hagg : isAggB P t = true) (h : eqT P 20 t xs ys = some r) (hK : K (.bool r) w) :
    RunW P (binS .eql t x y (.agg xs.toArray) (.agg ys.toArray)) K w := by
  refine ⟨_, _, binS_run (run_eqGuard_agg w .eql t x y _ _ hg) ?_, hK⟩
  have := (eqT_run (P := P) 20).1 t xs ys r 9980 w h
  simp only [valOf, hagg, if_true] at this
  rw [run_eql_struct, this]
  rfl

theorem neqAgg {P : Program} {t : TypeId} {x y : Operand} {xs ys : List Value} {r : Bool} {K : Value → World → Prop} {w : World} (hg : P.eqGuardType P.depth t = false) (hagg : isAggB P t = true) (h : eqT P 20 t xs ys = some r) (hK : K (.bool (!r)) w) :
    RunW P (binS .neq t x y (.agg xs.toArray) (.agg ys.toArray)) K w := by
  refine ⟨_, _, binS_run (run_eqGuard_agg w .neq t x y _ _ hg) ?_, hK⟩
  have := (eqT_run (P := P) 20).1 t xs ys r 9980 w h
  simp only [valOf, hagg, if_true] at this
  rw [run_neq_struct, this]
  rfl

theorem lenSet {α : Type} {n i : Nat} {x : α} {xs : List α} (h : n = xs.length) : n = (List.set xs i x).length := by rw [List.length_set]; exact h

theorem lenClear {α : Type} {n lo hi : Nat} {x : α} {xs : List α} (h : n = xs.length) (h1 : lo ≤ hi) (h2 : hi ≤ xs.length) : n = (xs.take lo ++ List.replicate (hi - lo) x ++ xs.drop hi).length := by simp; omega

theorem cond_both {b : Bool} {T F T' F' : Prop} (hp : cond b T' F') (ht : T' → T) (hf : F' → F) : cond b T F := by
  cases b
  · exact hf hp
  · exact ht hp

theorem cond_both' {b : Bool} {T F T' F' : Prop} (hp : cond b T' F') (hf : F' → F) (ht : T' → T) : cond b T F := cond_both hp ht hf

theorem cond_i {b : Bool} {T F : Prop} (ht : b = true → T) (hf : b = false → F) : cond b T F := by
  cases b
  · exact hf rfl
  · exact ht rfl

theorem calleeFn {P : Program} {f : FuncId} {a c args : Array Value} {w : World} {R : Value → World → Prop} (hb : hasBody P f = true) (h : CallV P f (a ++ args ++ c) w R) : CalleeV P (.func (.func f) a c) args w R := by
  unfold CalleeV
  simp only [hb, if_true]
  exact h

/-! ### Where pieces meet -/

def joinP0 (rest : Prop) (a : (Prop) → Prop) : Prop := ∃ Q : Prop, (Q  → rest ) ∧ a Q
theorem joinP0.i {rest : Prop} {a : (Prop) → Prop} (h : a rest) : joinP0 rest a := ⟨rest, fun h => h, h⟩
def joinP1 {α0 : Type} (rest : α0 → Prop) (a : (α0 → Prop) → Prop) : Prop := ∃ Q : α0 → Prop, (∀ x0, Q x0 → rest x0) ∧ a Q
theorem joinP1.i {α0 : Type} {rest : α0 → Prop} {a : (α0 → Prop) → Prop} (h : a rest) : joinP1 rest a := ⟨rest, fun _ h => h, h⟩
def joinP2 {α0 α1 : Type} (rest : α0 → α1 → Prop) (a : (α0 → α1 → Prop) → Prop) : Prop := ∃ Q : α0 → α1 → Prop, (∀ x0 x1, Q x0 x1 → rest x0 x1) ∧ a Q
theorem joinP2.i {α0 α1 : Type} {rest : α0 → α1 → Prop} {a : (α0 → α1 → Prop) → Prop} (h : a rest) : joinP2 rest a := ⟨rest, fun _ _ h => h, h⟩
def joinP3 {α0 α1 α2 : Type} (rest : α0 → α1 → α2 → Prop) (a : (α0 → α1 → α2 → Prop) → Prop) : Prop := ∃ Q : α0 → α1 → α2 → Prop, (∀ x0 x1 x2, Q x0 x1 x2 → rest x0 x1 x2) ∧ a Q
theorem joinP3.i {α0 α1 α2 : Type} {rest : α0 → α1 → α2 → Prop} {a : (α0 → α1 → α2 → Prop) → Prop} (h : a rest) : joinP3 rest a := ⟨rest, fun _ _ _ h => h, h⟩
def joinP4 {α0 α1 α2 α3 : Type} (rest : α0 → α1 → α2 → α3 → Prop) (a : (α0 → α1 → α2 → α3 → Prop) → Prop) : Prop := ∃ Q : α0 → α1 → α2 → α3 → Prop, (∀ x0 x1 x2 x3, Q x0 x1 x2 x3 → rest x0 x1 x2 x3) ∧ a Q
theorem joinP4.i {α0 α1 α2 α3 : Type} {rest : α0 → α1 → α2 → α3 → Prop} {a : (α0 → α1 → α2 → α3 → Prop) → Prop} (h : a rest) : joinP4 rest a := ⟨rest, fun _ _ _ _ h => h, h⟩
def joinP5 {α0 α1 α2 α3 α4 : Type} (rest : α0 → α1 → α2 → α3 → α4 → Prop) (a : (α0 → α1 → α2 → α3 → α4 → Prop) → Prop) : Prop := ∃ Q : α0 → α1 → α2 → α3 → α4 → Prop, (∀ x0 x1 x2 x3 x4, Q x0 x1 x2 x3 x4 → rest x0 x1 x2 x3 x4) ∧ a Q
theorem joinP5.i {α0 α1 α2 α3 α4 : Type} {rest : α0 → α1 → α2 → α3 → α4 → Prop} {a : (α0 → α1 → α2 → α3 → α4 → Prop) → Prop} (h : a rest) : joinP5 rest a := ⟨rest, fun _ _ _ _ _ h => h, h⟩
def joinP6 {α0 α1 α2 α3 α4 α5 : Type} (rest : α0 → α1 → α2 → α3 → α4 → α5 → Prop) (a : (α0 → α1 → α2 → α3 → α4 → α5 → Prop) → Prop) : Prop := ∃ Q : α0 → α1 → α2 → α3 → α4 → α5 → Prop, (∀ x0 x1 x2 x3 x4 x5, Q x0 x1 x2 x3 x4 x5 → rest x0 x1 x2 x3 x4 x5) ∧ a Q
theorem joinP6.i {α0 α1 α2 α3 α4 α5 : Type} {rest : α0 → α1 → α2 → α3 → α4 → α5 → Prop} {a : (α0 → α1 → α2 → α3 → α4 → α5 → Prop) → Prop} (h : a rest) : joinP6 rest a := ⟨rest, fun _ _ _ _ _ _ h => h, h⟩
def joinP7 {α0 α1 α2 α3 α4 α5 α6 : Type} (rest : α0 → α1 → α2 → α3 → α4 → α5 → α6 → Prop) (a : (α0 → α1 → α2 → α3 → α4 → α5 → α6 → Prop) → Prop) : Prop := ∃ Q : α0 → α1 → α2 → α3 → α4 → α5 → α6 → Prop, (∀ x0 x1 x2 x3 x4 x5 x6, Q x0 x1 x2 x3 x4 x5 x6 → rest x0 x1 x2 x3 x4 x5 x6) ∧ a Q
theorem joinP7.i {α0 α1 α2 α3 α4 α5 α6 : Type} {rest : α0 → α1 → α2 → α3 → α4 → α5 → α6 → Prop} {a : (α0 → α1 → α2 → α3 → α4 → α5 → α6 → Prop) → Prop} (h : a rest) : joinP7 rest a := ⟨rest, fun _ _ _ _ _ _ _ h => h, h⟩
def joinP8 {α0 α1 α2 α3 α4 α5 α6 α7 : Type} (rest : α0 → α1 → α2 → α3 → α4 → α5 → α6 → α7 → Prop) (a : (α0 → α1 → α2 → α3 → α4 → α5 → α6 → α7 → Prop) → Prop) : Prop := ∃ Q : α0 → α1 → α2 → α3 → α4 → α5 → α6 → α7 → Prop, (∀ x0 x1 x2 x3 x4 x5 x6 x7, Q x0 x1 x2 x3 x4 x5 x6 x7 → rest x0 x1 x2 x3 x4 x5 x6 x7) ∧ a Q
theorem joinP8.i {α0 α1 α2 α3 α4 α5 α6 α7 : Type} {rest : α0 → α1 → α2 → α3 → α4 → α5 → α6 → α7 → Prop} {a : (α0 → α1 → α2 → α3 → α4 → α5 → α6 → α7 → Prop) → Prop} (h : a rest) : joinP8 rest a := ⟨rest, fun _ _ _ _ _ _ _ _ h => h, h⟩
def joinP9 {α0 α1 α2 α3 α4 α5 α6 α7 α8 : Type} (rest : α0 → α1 → α2 → α3 → α4 → α5 → α6 → α7 → α8 → Prop) (a : (α0 → α1 → α2 → α3 → α4 → α5 → α6 → α7 → α8 → Prop) → Prop) : Prop := ∃ Q : α0 → α1 → α2 → α3 → α4 → α5 → α6 → α7 → α8 → Prop, (∀ x0 x1 x2 x3 x4 x5 x6 x7 x8, Q x0 x1 x2 x3 x4 x5 x6 x7 x8 → rest x0 x1 x2 x3 x4 x5 x6 x7 x8) ∧ a Q
theorem joinP9.i {α0 α1 α2 α3 α4 α5 α6 α7 α8 : Type} {rest : α0 → α1 → α2 → α3 → α4 → α5 → α6 → α7 → α8 → Prop} {a : (α0 → α1 → α2 → α3 → α4 → α5 → α6 → α7 → α8 → Prop) → Prop} (h : a rest) : joinP9 rest a := ⟨rest, fun _ _ _ _ _ _ _ _ _ h => h, h⟩
def joinP10 {α0 α1 α2 α3 α4 α5 α6 α7 α8 α9 : Type} (rest : α0 → α1 → α2 → α3 → α4 → α5 → α6 → α7 → α8 → α9 → Prop) (a : (α0 → α1 → α2 → α3 → α4 → α5 → α6 → α7 → α8 → α9 → Prop) → Prop) : Prop := ∃ Q : α0 → α1 → α2 → α3 → α4 → α5 → α6 → α7 → α8 → α9 → Prop, (∀ x0 x1 x2 x3 x4 x5 x6 x7 x8 x9, Q x0 x1 x2 x3 x4 x5 x6 x7 x8 x9 → rest x0 x1 x2 x3 x4 x5 x6 x7 x8 x9) ∧ a Q
theorem joinP10.i {α0 α1 α2 α3 α4 α5 α6 α7 α8 α9 : Type} {rest : α0 → α1 → α2 → α3 → α4 → α5 → α6 → α7 → α8 → α9 → Prop} {a : (α0 → α1 → α2 → α3 → α4 → α5 → α6 → α7 → α8 → α9 → Prop) → Prop} (h : a rest) : joinP10 rest a := ⟨rest, fun _ _ _ _ _ _ _ _ _ _ h => h, h⟩
def joinP11 {α0 α1 α2 α3 α4 α5 α6 α7 α8 α9 α10 : Type} (rest : α0 → α1 → α2 → α3 → α4 → α5 → α6 → α7 → α8 → α9 → α10 → Prop) (a : (α0 → α1 → α2 → α3 → α4 → α5 → α6 → α7 → α8 → α9 → α10 → Prop) → Prop) : Prop := ∃ Q : α0 → α1 → α2 → α3 → α4 → α5 → α6 → α7 → α8 → α9 → α10 → Prop, (∀ x0 x1 x2 x3 x4 x5 x6 x7 x8 x9 x10, Q x0 x1 x2 x3 x4 x5 x6 x7 x8 x9 x10 → rest x0 x1 x2 x3 x4 x5 x6 x7 x8 x9 x10) ∧ a Q
theorem joinP11.i {α0 α1 α2 α3 α4 α5 α6 α7 α8 α9 α10 : Type} {rest : α0 → α1 → α2 → α3 → α4 → α5 → α6 → α7 → α8 → α9 → α10 → Prop} {a : (α0 → α1 → α2 → α3 → α4 → α5 → α6 → α7 → α8 → α9 → α10 → Prop) → Prop} (h : a rest) : joinP11 rest a := ⟨rest, fun _ _ _ _ _ _ _ _ _ _ _ h => h, h⟩
def joinP12 {α0 α1 α2 α3 α4 α5 α6 α7 α8 α9 α10 α11 : Type} (rest : α0 → α1 → α2 → α3 → α4 → α5 → α6 → α7 → α8 → α9 → α10 → α11 → Prop) (a : (α0 → α1 → α2 → α3 → α4 → α5 → α6 → α7 → α8 → α9 → α10 → α11 → Prop) → Prop) : Prop := ∃ Q : α0 → α1 → α2 → α3 → α4 → α5 → α6 → α7 → α8 → α9 → α10 → α11 → Prop, (∀ x0 x1 x2 x3 x4 x5 x6 x7 x8 x9 x10 x11, Q x0 x1 x2 x3 x4 x5 x6 x7 x8 x9 x10 x11 → rest x0 x1 x2 x3 x4 x5 x6 x7 x8 x9 x10 x11) ∧ a Q
theorem joinP12.i {α0 α1 α2 α3 α4 α5 α6 α7 α8 α9 α10 α11 : Type} {rest : α0 → α1 → α2 → α3 → α4 → α5 → α6 → α7 → α8 → α9 → α10 → α11 → Prop} {a : (α0 → α1 → α2 → α3 → α4 → α5 → α6 → α7 → α8 → α9 → α10 → α11 → Prop) → Prop} (h : a rest) : joinP12 rest a := ⟨rest, fun _ _ _ _ _ _ _ _ _ _ _ _ h => h, h⟩
def joinP13 {α0 α1 α2 α3 α4 α5 α6 α7 α8 α9 α10 α11 α12 : Type} (rest : α0 → α1 → α2 → α3 → α4 → α5 → α6 → α7 → α8 → α9 → α10 → α11 → α12 → Prop) (a : (α0 → α1 → α2 → α3 → α4 → α5 → α6 → α7 → α8 → α9 → α10 → α11 → α12 → Prop) → Prop) : Prop := ∃ Q : α0 → α1 → α2 → α3 → α4 → α5 → α6 → α7 → α8 → α9 → α10 → α11 → α12 → Prop, (∀ x0 x1 x2 x3 x4 x5 x6 x7 x8 x9 x10 x11 x12, Q x0 x1 x2 x3 x4 x5 x6 x7 x8 x9 x10 x11 x12 → rest x0 x1 x2 x3 x4 x5 x6 x7 x8 x9 x10 x11 x12) ∧ a Q
theorem joinP13.i {α0 α1 α2 α3 α4 α5 α6 α7 α8 α9 α10 α11 α12 : Type} {rest : α0 → α1 → α2 → α3 → α4 → α5 → α6 → α7 → α8 → α9 → α10 → α11 → α12 → Prop} {a : (α0 → α1 → α2 → α3 → α4 → α5 → α6 → α7 → α8 → α9 → α10 → α11 → α12 → Prop) → Prop} (h : a rest) : joinP13 rest a := ⟨rest, fun _ _ _ _ _ _ _ _ _ _ _ _ _ h => h, h⟩
def joinP14 {α0 α1 α2 α3 α4 α5 α6 α7 α8 α9 α10 α11 α12 α13 : Type} (rest : α0 → α1 → α2 → α3 → α4 → α5 → α6 → α7 → α8 → α9 → α10 → α11 → α12 → α13 → Prop) (a : (α0 → α1 → α2 → α3 → α4 → α5 → α6 → α7 → α8 → α9 → α10 → α11 → α12 → α13 → Prop) → Prop) : Prop := ∃ Q : α0 → α1 → α2 → α3 → α4 → α5 → α6 → α7 → α8 → α9 → α10 → α11 → α12 → α13 → Prop, (∀ x0 x1 x2 x3 x4 x5 x6 x7 x8 x9 x10 x11 x12 x13, Q x0 x1 x2 x3 x4 x5 x6 x7 x8 x9 x10 x11 x12 x13 → rest x0 x1 x2 x3 x4 x5 x6 x7 x8 x9 x10 x11 x12 x13) ∧ a Q
theorem joinP14.i {α0 α1 α2 α3 α4 α5 α6 α7 α8 α9 α10 α11 α12 α13 : Type} {rest : α0 → α1 → α2 → α3 → α4 → α5 → α6 → α7 → α8 → α9 → α10 → α11 → α12 → α13 → Prop} {a : (α0 → α1 → α2 → α3 → α4 → α5 → α6 → α7 → α8 → α9 → α10 → α11 → α12 → α13 → Prop) → Prop} (h : a rest) : joinP14 rest a := ⟨rest, fun _ _ _ _ _ _ _ _ _ _ _ _ _ _ h => h, h⟩
def joinP15 {α0 α1 α2 α3 α4 α5 α6 α7 α8 α9 α10 α11 α12 α13 α14 : Type} (rest : α0 → α1 → α2 → α3 → α4 → α5 → α6 → α7 → α8 → α9 → α10 → α11 → α12 → α13 → α14 → Prop) (a : (α0 → α1 → α2 → α3 → α4 → α5 → α6 → α7 → α8 → α9 → α10 → α11 → α12 → α13 → α14 → Prop) → Prop) : Prop := ∃ Q : α0 → α1 → α2 → α3 → α4 → α5 → α6 → α7 → α8 → α9 → α10 → α11 → α12 → α13 → α14 → Prop, (∀ x0 x1 x2 x3 x4 x5 x6 x7 x8 x9 x10 x11 x12 x13 x14, Q x0 x1 x2 x3 x4 x5 x6 x7 x8 x9 x10 x11 x12 x13 x14 → rest x0 x1 x2 x3 x4 x5 x6 x7 x8 x9 x10 x11 x12 x13 x14) ∧ a Q
theorem joinP15.i {α0 α1 α2 α3 α4 α5 α6 α7 α8 α9 α10 α11 α12 α13 α14 : Type} {rest : α0 → α1 → α2 → α3 → α4 → α5 → α6 → α7 → α8 → α9 → α10 → α11 → α12 → α13 → α14 → Prop} {a : (α0 → α1 → α2 → α3 → α4 → α5 → α6 → α7 → α8 → α9 → α10 → α11 → α12 → α13 → α14 → Prop) → Prop} (h : a rest) : joinP15 rest a := ⟨rest, fun _ _ _ _ _ _ _ _ _ _ _ _ _ _ _ h => h, h⟩
def joinP16 {α0 α1 α2 α3 α4 α5 α6 α7 α8 α9 α10 α11 α12 α13 α14 α15 : Type} (rest : α0 → α1 → α2 → α3 → α4 → α5 → α6 → α7 → α8 → α9 → α10 → α11 → α12 → α13 → α14 → α15 → Prop) (a : (α0 → α1 → α2 → α3 → α4 → α5 → α6 → α7 → α8 → α9 → α10 → α11 → α12 → α13 → α14 → α15 → Prop) → Prop) : Prop := ∃ Q : α0 → α1 → α2 → α3 → α4 → α5 → α6 → α7 → α8 → α9 → α10 → α11 → α12 → α13 → α14 → α15 → Prop, (∀ x0 x1 x2 x3 x4 x5 x6 x7 x8 x9 x10 x11 x12 x13 x14 x15, Q x0 x1 x2 x3 x4 x5 x6 x7 x8 x9 x10 x11 x12 x13 x14 x15 → rest x0 x1 x2 x3 x4 x5 x6 x7 x8 x9 x10 x11 x12 x13 x14 x15) ∧ a Q
theorem joinP16.i {α0 α1 α2 α3 α4 α5 α6 α7 α8 α9 α10 α11 α12 α13 α14 α15 : Type} {rest : α0 → α1 → α2 → α3 → α4 → α5 → α6 → α7 → α8 → α9 → α10 → α11 → α12 → α13 → α14 → α15 → Prop} {a : (α0 → α1 → α2 → α3 → α4 → α5 → α6 → α7 → α8 → α9 → α10 → α11 → α12 → α13 → α14 → α15 → Prop) → Prop} (h : a rest) : joinP16 rest a := ⟨rest, fun _ _ _ _ _ _ _ _ _ _ _ _ _ _ _ _ h => h, h⟩
def joinP17 {α0 α1 α2 α3 α4 α5 α6 α7 α8 α9 α10 α11 α12 α13 α14 α15 α16 : Type} (rest : α0 → α1 → α2 → α3 → α4 → α5 → α6 → α7 → α8 → α9 → α10 → α11 → α12 → α13 → α14 → α15 → α16 → Prop) (a : (α0 → α1 → α2 → α3 → α4 → α5 → α6 → α7 → α8 → α9 → α10 → α11 → α12 → α13 → α14 → α15 → α16 → Prop) → Prop) : Prop := ∃ Q : α0 → α1 → α2 → α3 → α4 → α5 → α6 → α7 → α8 → α9 → α10 → α11 → α12 → α13 → α14 → α15 → α16 → Prop, (∀ x0 x1 x2 x3 x4 x5 x6 x7 x8 x9 x10 x11 x12 x13 x14 x15 x16, Q x0 x1 x2 x3 x4 x5 x6 x7 x8 x9 x10 x11 x12 x13 x14 x15 x16 → rest x0 x1 x2 x3 x4 x5 x6 x7 x8 x9 x10 x11 x12 x13 x14 x15 x16) ∧ a Q
theorem joinP17.i {α0 α1 α2 α3 α4 α5 α6 α7 α8 α9 α10 α11 α12 α13 α14 α15 α16 : Type} {rest : α0 → α1 → α2 → α3 → α4 → α5 → α6 → α7 → α8 → α9 → α10 → α11 → α12 → α13 → α14 → α15 → α16 → Prop} {a : (α0 → α1 → α2 → α3 → α4 → α5 → α6 → α7 → α8 → α9 → α10 → α11 → α12 → α13 → α14 → α15 → α16 → Prop) → Prop} (h : a rest) : joinP17 rest a := ⟨rest, fun _ _ _ _ _ _ _ _ _ _ _ _ _ _ _ _ _ h => h, h⟩
def joinP18 {α0 α1 α2 α3 α4 α5 α6 α7 α8 α9 α10 α11 α12 α13 α14 α15 α16 α17 : Type} (rest : α0 → α1 → α2 → α3 → α4 → α5 → α6 → α7 → α8 → α9 → α10 → α11 → α12 → α13 → α14 → α15 → α16 → α17 → Prop) (a : (α0 → α1 → α2 → α3 → α4 → α5 → α6 → α7 → α8 → α9 → α10 → α11 → α12 → α13 → α14 → α15 → α16 → α17 → Prop) → Prop) : Prop := ∃ Q : α0 → α1 → α2 → α3 → α4 → α5 → α6 → α7 → α8 → α9 → α10 → α11 → α12 → α13 → α14 → α15 → α16 → α17 → Prop, (∀ x0 x1 x2 x3 x4 x5 x6 x7 x8 x9 x10 x11 x12 x13 x14 x15 x16 x17, Q x0 x1 x2 x3 x4 x5 x6 x7 x8 x9 x10 x11 x12 x13 x14 x15 x16 x17 → rest x0 x1 x2 x3 x4 x5 x6 x7 x8 x9 x10 x11 x12 x13 x14 x15 x16 x17) ∧ a Q
theorem joinP18.i {α0 α1 α2 α3 α4 α5 α6 α7 α8 α9 α10 α11 α12 α13 α14 α15 α16 α17 : Type} {rest : α0 → α1 → α2 → α3 → α4 → α5 → α6 → α7 → α8 → α9 → α10 → α11 → α12 → α13 → α14 → α15 → α16 → α17 → Prop} {a : (α0 → α1 → α2 → α3 → α4 → α5 → α6 → α7 → α8 → α9 → α10 → α11 → α12 → α13 → α14 → α15 → α16 → α17 → Prop) → Prop} (h : a rest) : joinP18 rest a := ⟨rest, fun _ _ _ _ _ _ _ _ _ _ _ _ _ _ _ _ _ _ h => h, h⟩
def joinP19 {α0 α1 α2 α3 α4 α5 α6 α7 α8 α9 α10 α11 α12 α13 α14 α15 α16 α17 α18 : Type} (rest : α0 → α1 → α2 → α3 → α4 → α5 → α6 → α7 → α8 → α9 → α10 → α11 → α12 → α13 → α14 → α15 → α16 → α17 → α18 → Prop) (a : (α0 → α1 → α2 → α3 → α4 → α5 → α6 → α7 → α8 → α9 → α10 → α11 → α12 → α13 → α14 → α15 → α16 → α17 → α18 → Prop) → Prop) : Prop := ∃ Q : α0 → α1 → α2 → α3 → α4 → α5 → α6 → α7 → α8 → α9 → α10 → α11 → α12 → α13 → α14 → α15 → α16 → α17 → α18 → Prop, (∀ x0 x1 x2 x3 x4 x5 x6 x7 x8 x9 x10 x11 x12 x13 x14 x15 x16 x17 x18, Q x0 x1 x2 x3 x4 x5 x6 x7 x8 x9 x10 x11 x12 x13 x14 x15 x16 x17 x18 → rest x0 x1 x2 x3 x4 x5 x6 x7 x8 x9 x10 x11 x12 x13 x14 x15 x16 x17 x18) ∧ a Q
theorem joinP19.i {α0 α1 α2 α3 α4 α5 α6 α7 α8 α9 α10 α11 α12 α13 α14 α15 α16 α17 α18 : Type} {rest : α0 → α1 → α2 → α3 → α4 → α5 → α6 → α7 → α8 → α9 → α10 → α11 → α12 → α13 → α14 → α15 → α16 → α17 → α18 → Prop} {a : (α0 → α1 → α2 → α3 → α4 → α5 → α6 → α7 → α8 → α9 → α10 → α11 → α12 → α13 → α14 → α15 → α16 → α17 → α18 → Prop) → Prop} (h : a rest) : joinP19 rest a := ⟨rest, fun _ _ _ _ _ _ _ _ _ _ _ _ _ _ _ _ _ _ _ h => h, h⟩
def joinP20 {α0 α1 α2 α3 α4 α5 α6 α7 α8 α9 α10 α11 α12 α13 α14 α15 α16 α17 α18 α19 : Type} (rest : α0 → α1 → α2 → α3 → α4 → α5 → α6 → α7 → α8 → α9 → α10 → α11 → α12 → α13 → α14 → α15 → α16 → α17 → α18 → α19 → Prop) (a : (α0 → α1 → α2 → α3 → α4 → α5 → α6 → α7 → α8 → α9 → α10 → α11 → α12 → α13 → α14 → α15 → α16 → α17 → α18 → α19 → Prop) → Prop) : Prop := ∃ Q : α0 → α1 → α2 → α3 → α4 → α5 → α6 → α7 → α8 → α9 → α10 → α11 → α12 → α13 → α14 → α15 → α16 → α17 → α18 → α19 → Prop, (∀ x0 x1 x2 x3 x4 x5 x6 x7 x8 x9 x10 x11 x12 x13 x14 x15 x16 x17 x18 x19, Q x0 x1 x2 x3 x4 x5 x6 x7 x8 x9 x10 x11 x12 x13 x14 x15 x16 x17 x18 x19 → rest x0 x1 x2 x3 x4 x5 x6 x7 x8 x9 x10 x11 x12 x13 x14 x15 x16 x17 x18 x19) ∧ a Q
theorem joinP20.i {α0 α1 α2 α3 α4 α5 α6 α7 α8 α9 α10 α11 α12 α13 α14 α15 α16 α17 α18 α19 : Type} {rest : α0 → α1 → α2 → α3 → α4 → α5 → α6 → α7 → α8 → α9 → α10 → α11 → α12 → α13 → α14 → α15 → α16 → α17 → α18 → α19 → Prop} {a : (α0 → α1 → α2 → α3 → α4 → α5 → α6 → α7 → α8 → α9 → α10 → α11 → α12 → α13 → α14 → α15 → α16 → α17 → α18 → α19 → Prop) → Prop} (h : a rest) : joinP20 rest a := ⟨rest, fun _ _ _ _ _ _ _ _ _ _ _ _ _ _ _ _ _ _ _ _ h => h, h⟩
def joinP21 {α0 α1 α2 α3 α4 α5 α6 α7 α8 α9 α10 α11 α12 α13 α14 α15 α16 α17 α18 α19 α20 : Type} (rest : α0 → α1 → α2 → α3 → α4 → α5 → α6 → α7 → α8 → α9 → α10 → α11 → α12 → α13 → α14 → α15 → α16 → α17 → α18 → α19 → α20 → Prop) (a : (α0 → α1 → α2 → α3 → α4 → α5 → α6 → α7 → α8 → α9 → α10 → α11 → α12 → α13 → α14 → α15 → α16 → α17 → α18 → α19 → α20 → Prop) → Prop) : Prop := ∃ Q : α0 → α1 → α2 → α3 → α4 → α5 → α6 → α7 → α8 → α9 → α10 → α11 → α12 → α13 → α14 → α15 → α16 → α17 → α18 → α19 → α20 → Prop, (∀ x0 x1 x2 x3 x4 x5 x6 x7 x8 x9 x10 x11 x12 x13 x14 x15 x16 x17 x18 x19 x20, Q x0 x1 x2 x3 x4 x5 x6 x7 x8 x9 x10 x11 x12 x13 x14 x15 x16 x17 x18 x19 x20 → rest x0 x1 x2 x3 x4 x5 x6 x7 x8 x9 x10 x11 x12 x13 x14 x15 x16 x17 x18 x19 x20) ∧ a Q
theorem joinP21.i {α0 α1 α2 α3 α4 α5 α6 α7 α8 α9 α10 α11 α12 α13 α14 α15 α16 α17 α18 α19 α20 : Type} {rest : α0 → α1 → α2 → α3 → α4 → α5 → α6 → α7 → α8 → α9 → α10 → α11 → α12 → α13 → α14 → α15 → α16 → α17 → α18 → α19 → α20 → Prop} {a : (α0 → α1 → α2 → α3 → α4 → α5 → α6 → α7 → α8 → α9 → α10 → α11 → α12 → α13 → α14 → α15 → α16 → α17 → α18 → α19 → α20 → Prop) → Prop} (h : a rest) : joinP21 rest a := ⟨rest, fun _ _ _ _ _ _ _ _ _ _ _ _ _ _ _ _ _ _ _ _ _ h => h, h⟩
def joinP22 {α0 α1 α2 α3 α4 α5 α6 α7 α8 α9 α10 α11 α12 α13 α14 α15 α16 α17 α18 α19 α20 α21 : Type} (rest : α0 → α1 → α2 → α3 → α4 → α5 → α6 → α7 → α8 → α9 → α10 → α11 → α12 → α13 → α14 → α15 → α16 → α17 → α18 → α19 → α20 → α21 → Prop) (a : (α0 → α1 → α2 → α3 → α4 → α5 → α6 → α7 → α8 → α9 → α10 → α11 → α12 → α13 → α14 → α15 → α16 → α17 → α18 → α19 → α20 → α21 → Prop) → Prop) : Prop := ∃ Q : α0 → α1 → α2 → α3 → α4 → α5 → α6 → α7 → α8 → α9 → α10 → α11 → α12 → α13 → α14 → α15 → α16 → α17 → α18 → α19 → α20 → α21 → Prop, (∀ x0 x1 x2 x3 x4 x5 x6 x7 x8 x9 x10 x11 x12 x13 x14 x15 x16 x17 x18 x19 x20 x21, Q x0 x1 x2 x3 x4 x5 x6 x7 x8 x9 x10 x11 x12 x13 x14 x15 x16 x17 x18 x19 x20 x21 → rest x0 x1 x2 x3 x4 x5 x6 x7 x8 x9 x10 x11 x12 x13 x14 x15 x16 x17 x18 x19 x20 x21) ∧ a Q
theorem joinP22.i {α0 α1 α2 α3 α4 α5 α6 α7 α8 α9 α10 α11 α12 α13 α14 α15 α16 α17 α18 α19 α20 α21 : Type} {rest : α0 → α1 → α2 → α3 → α4 → α5 → α6 → α7 → α8 → α9 → α10 → α11 → α12 → α13 → α14 → α15 → α16 → α17 → α18 → α19 → α20 → α21 → Prop} {a : (α0 → α1 → α2 → α3 → α4 → α5 → α6 → α7 → α8 → α9 → α10 → α11 → α12 → α13 → α14 → α15 → α16 → α17 → α18 → α19 → α20 → α21 → Prop) → Prop} (h : a rest) : joinP22 rest a := ⟨rest, fun _ _ _ _ _ _ _ _ _ _ _ _ _ _ _ _ _ _ _ _ _ _ h => h, h⟩
def joinP23 {α0 α1 α2 α3 α4 α5 α6 α7 α8 α9 α10 α11 α12 α13 α14 α15 α16 α17 α18 α19 α20 α21 α22 : Type} (rest : α0 → α1 → α2 → α3 → α4 → α5 → α6 → α7 → α8 → α9 → α10 → α11 → α12 → α13 → α14 → α15 → α16 → α17 → α18 → α19 → α20 → α21 → α22 → Prop) (a : (α0 → α1 → α2 → α3 → α4 → α5 → α6 → α7 → α8 → α9 → α10 → α11 → α12 → α13 → α14 → α15 → α16 → α17 → α18 → α19 → α20 → α21 → α22 → Prop) → Prop) : Prop := ∃ Q : α0 → α1 → α2 → α3 → α4 → α5 → α6 → α7 → α8 → α9 → α10 → α11 → α12 → α13 → α14 → α15 → α16 → α17 → α18 → α19 → α20 → α21 → α22 → Prop, (∀ x0 x1 x2 x3 x4 x5 x6 x7 x8 x9 x10 x11 x12 x13 x14 x15 x16 x17 x18 x19 x20 x21 x22, Q x0 x1 x2 x3 x4 x5 x6 x7 x8 x9 x10 x11 x12 x13 x14 x15 x16 x17 x18 x19 x20 x21 x22 → rest x0 x1 x2 x3 x4 x5 x6 x7 x8 x9 x10 x11 x12 x13 x14 x15 x16 x17 x18 x19 x20 x21 x22) ∧ a Q
theorem joinP23.i {α0 α1 α2 α3 α4 α5 α6 α7 α8 α9 α10 α11 α12 α13 α14 α15 α16 α17 α18 α19 α20 α21 α22 : Type} {rest : α0 → α1 → α2 → α3 → α4 → α5 → α6 → α7 → α8 → α9 → α10 → α11 → α12 → α13 → α14 → α15 → α16 → α17 → α18 → α19 → α20 → α21 → α22 → Prop} {a : (α0 → α1 → α2 → α3 → α4 → α5 → α6 → α7 → α8 → α9 → α10 → α11 → α12 → α13 → α14 → α15 → α16 → α17 → α18 → α19 → α20 → α21 → α22 → Prop) → Prop} (h : a rest) : joinP23 rest a := ⟨rest, fun _ _ _ _ _ _ _ _ _ _ _ _ _ _ _ _ _ _ _ _ _ _ _ h => h, h⟩
def joinP24 {α0 α1 α2 α3 α4 α5 α6 α7 α8 α9 α10 α11 α12 α13 α14 α15 α16 α17 α18 α19 α20 α21 α22 α23 : Type} (rest : α0 → α1 → α2 → α3 → α4 → α5 → α6 → α7 → α8 → α9 → α10 → α11 → α12 → α13 → α14 → α15 → α16 → α17 → α18 → α19 → α20 → α21 → α22 → α23 → Prop) (a : (α0 → α1 → α2 → α3 → α4 → α5 → α6 → α7 → α8 → α9 → α10 → α11 → α12 → α13 → α14 → α15 → α16 → α17 → α18 → α19 → α20 → α21 → α22 → α23 → Prop) → Prop) : Prop := ∃ Q : α0 → α1 → α2 → α3 → α4 → α5 → α6 → α7 → α8 → α9 → α10 → α11 → α12 → α13 → α14 → α15 → α16 → α17 → α18 → α19 → α20 → α21 → α22 → α23 → Prop, (∀ x0 x1 x2 x3 x4 x5 x6 x7 x8 x9 x10 x11 x12 x13 x14 x15 x16 x17 x18 x19 x20 x21 x22 x23, Q x0 x1 x2 x3 x4 x5 x6 x7 x8 x9 x10 x11 x12 x13 x14 x15 x16 x17 x18 x19 x20 x21 x22 x23 → rest x0 x1 x2 x3 x4 x5 x6 x7 x8 x9 x10 x11 x12 x13 x14 x15 x16 x17 x18 x19 x20 x21 x22 x23) ∧ a Q
theorem joinP24.i {α0 α1 α2 α3 α4 α5 α6 α7 α8 α9 α10 α11 α12 α13 α14 α15 α16 α17 α18 α19 α20 α21 α22 α23 : Type} {rest : α0 → α1 → α2 → α3 → α4 → α5 → α6 → α7 → α8 → α9 → α10 → α11 → α12 → α13 → α14 → α15 → α16 → α17 → α18 → α19 → α20 → α21 → α22 → α23 → Prop} {a : (α0 → α1 → α2 → α3 → α4 → α5 → α6 → α7 → α8 → α9 → α10 → α11 → α12 → α13 → α14 → α15 → α16 → α17 → α18 → α19 → α20 → α21 → α22 → α23 → Prop) → Prop} (h : a rest) : joinP24 rest a := ⟨rest, fun _ _ _ _ _ _ _ _ _ _ _ _ _ _ _ _ _ _ _ _ _ _ _ _ h => h, h⟩

end Go.Eng
