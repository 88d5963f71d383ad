/-
  The engine, part H: separate pieces of memory.
-/
import Derived.Test.YtdonkmbhlankiaaEngG
import Derived.Deep.AppendSrc
import Derived.Below
namespace Go.Eng
open Go Go.RowKit

/-- What is asked of a part of the heap (and of what no operation turns: the outside, the output). -/
structure Out where
  os : Os
  tape : Nat → Question → Nat
  drawn : Nat

def HP := (Nat → Option Obj) → Out → Array (Nat × ByteArray) → Prop

def star (A B : HP) : HP := fun h o u => ∃ h1 h2 : Nat → Option Obj, (∀ i, h1 i = none ∨ h2 i = none) ∧ (∀ i, h i = (h1 i).or (h2 i)) ∧ A h1 o u ∧ B h2 o u

instance : Mul HP := ⟨star⟩

def Holds (A : HP) (w : World) : Prop := ∃ h n, n ≤ w.drawn ∧ A h ⟨w.os, w.tape, n⟩ w.output ∧ ∀ i o, h i = some o → w.heap[i]? = some o

def pt (b : Nat) (x : Obj) : HP := fun h _ _ => ∀ i, h i = if i = b then some x else none

def lift (p : Prop) : HP := fun h _ _ => p ∧ ∀ i, h i = none

def exH {α : Type} (A : α → HP) : HP := fun h o u => ∃ x, A x h o u

def emp : HP := fun h _ _ => ∀ i, h i = none

theorem star_def (A B : HP) : A * B = star A B := rfl

theorem star_comm (A B : HP) : A * B = B * A := by
  funext h o u
  apply propext
  constructor
  · rintro ⟨h1, h2, hd, hu, ha, hb⟩
    refine ⟨h2, h1, fun i => (hd i).symm, fun i => ?_, hb, ha⟩
    rw [hu i]
    rcases hd i with h | h <;> simp [h]
  · rintro ⟨h1, h2, hd, hu, ha, hb⟩
    refine ⟨h2, h1, fun i => (hd i).symm, fun i => ?_, hb, ha⟩
    rw [hu i]
    rcases hd i with h | h <;> simp [h]

theorem star_assoc (A B C : HP) : A * B * C = A * (B * C) := by
  funext h o u
  apply propext
  constructor
  · rintro ⟨h12, h3, hd, hu, ⟨h1, h2, hd', hu', ha, hb⟩, hc⟩
    refine ⟨h1, fun i => (h2 i).or (h3 i), fun i => ?_, fun i => ?_, ha, h2, h3, fun i => ?_, fun i => rfl, hb, hc⟩
    · have := hd i; rw [hu' i] at this
      rcases hd' i with h | h <;> rcases this with g | g <;> simp_all
    · rw [hu i, hu' i]; cases h1 i <;> rfl
    · have := hd i; rw [hu' i] at this
      rcases this with g | g
      · left; revert g; cases h1 i <;> cases h2 i <;> simp
      · right; exact g
  · rintro ⟨h1, h23, hd, hu, ha, h2, h3, hd', hu', hb, hc⟩
    have orr : ∀ a b c : Option Obj, a.or (b.or c) = (a.or b).or c := fun a b c => by cases a <;> rfl
    refine ⟨fun i => (h1 i).or (h2 i), h3, fun i => ?_, fun i => ?_, ⟨h1, h2, fun i => ?_, fun i => rfl, ha, hb⟩, hc⟩
    · have := hd i; rw [hu' i] at this
      rcases hd' i with h | h
      · rcases this with g | g
        · left; simp [g, h]
        · right; revert g; rw [h]; simp
      · right; exact h
    · rw [hu i, hu' i]; exact orr _ _ _
    · have := hd i; rw [hu' i] at this
      rcases this with g | g
      · left; exact g
      · right; revert g; cases h2 i <;> simp

instance : Std.Associative (α := HP) (· * ·) := ⟨star_assoc⟩
instance : Std.Commutative (α := HP) (· * ·) := ⟨star_comm⟩

theorem star_left_comm (A B C : HP) : A * (B * C) = B * (A * C) := by ac_rfl

theorem emp_star (A : HP) : emp * A = A := by
  funext h o u
  apply propext
  constructor
  · rintro ⟨h1, h2, hd, hu, ha, hb⟩
    have : h = h2 := by funext i; rw [hu i, ha i]; rfl
    rw [this]; exact hb
  · intro ha
    exact ⟨fun _ => none, h, fun i => .inl rfl, fun i => rfl, fun i => rfl, ha⟩

theorem star_emp (A : HP) : A * emp = A := by rw [star_comm, emp_star]

section
variable {A B C : HP} {w : World} {b b' : Nat} {x x' : Obj}

theorem Holds.left (h : Holds (A * B) w) : Holds A w := by
  obtain ⟨h, nn, hnn, ⟨h1, h2, hd, hu, ha, hb⟩, hs⟩ := h
  exact ⟨h1, nn, hnn, ha, fun i o hi => hs i o (by rw [hu i, hi]; rfl)⟩

theorem Holds.right (h : Holds (A * B) w) : Holds B w := by
  rw [star_comm] at h; exact h.left

theorem Holds.block (h : Holds (pt b x * A) w) : w.heap[b]? = some x := by
  obtain ⟨h, nn, hnn, ha, hs⟩ := h.left
  exact hs b x (by rw [ha b]; simp)

theorem Holds.lt (h : Holds (pt b x * A) w) : b < w.heap.size := (Array.getElem?_eq_some_iff.1 h.block).1

theorem Holds.ne (h : Holds (pt b x * (pt b' x' * A)) w) : b ≠ b' := by
  obtain ⟨h, nn, hnn, ⟨h1, h2, hd, hu, ha, h3, h4, hd', hu', hb, hc⟩, hs⟩ := h
  intro e
  subst e
  have := hd b
  rw [ha b, hu' b, hb b] at this
  simp at this

theorem Holds.cell {c : Array Value} {T : TypeId} {fr : Nat × Nat} (h : Holds (pt b (.cells c T fr) * A) w) (i : Nat) : w.cell? ⟨b, i, none⟩ = c[i]? := by
  simp [World.cell?, h.block]

theorem Holds.unfrozen {c : Array Value} {T : TypeId} (h : Holds (pt b (.cells c T (0, 0)) * A) w) (i : Nat) : w.frozen? ⟨b, i, none⟩ = false := by
  simp [World.frozen?, h.block]

theorem Holds.mono {A' : HP} (h : Holds A w) (hA : ∀ h o u, A h o u → A' h o u) : Holds A' w := by
  obtain ⟨h, nn, hnn, ha, hs⟩ := h
  exact ⟨h, nn, hnn, hA _ _ _ ha, hs⟩

theorem Holds.ex {α : Type} {A : α → HP} (h : Holds (exH A * B) w) : ∃ x, Holds (A x * B) w := by
  obtain ⟨h, nn, hnn, ⟨h1, h2, hd, hu, ⟨x, ha⟩, hb⟩, hs⟩ := h
  exact ⟨x, h, nn, hnn, ⟨h1, h2, hd, hu, ha, hb⟩, hs⟩

theorem Holds.ex_intro {α : Type} {A : α → HP} (x : α) (h : Holds (A x * B) w) : Holds (exH A * B) w := by
  obtain ⟨h, nn, hnn, ⟨h1, h2, hd, hu, ha, hb⟩, hs⟩ := h
  exact ⟨h, nn, hnn, ⟨h1, h2, hd, hu, ⟨x, ha⟩, hb⟩, hs⟩

theorem Holds.lift {p : Prop} (h : Holds (lift p * A) w) : p ∧ Holds A w := by
  obtain ⟨h, nn, hnn, ⟨h1, h2, hd, hu, ⟨hp, h0⟩, hb⟩, hs⟩ := h
  refine ⟨hp, h, nn, hnn, ?_, hs⟩
  have : h = h2 := by funext i; rw [hu i, h0 i]; rfl
  rw [this]; exact hb

theorem Holds.lift_intro {p : Prop} (hp : p) (h : Holds A w) : Holds (Eng.lift p * A) w := by
  obtain ⟨h, nn, hnn, ha, hs⟩ := h
  exact ⟨h, nn, hnn, ⟨fun _ => none, h, fun i => .inl rfl, fun i => rfl, ⟨hp, fun _ => rfl⟩, ha⟩, hs⟩

theorem Holds.drew (h : Holds A w) : Holds A w.drew := by
  obtain ⟨h, n, hn, ha, hs⟩ := h
  exact ⟨h, n, Nat.le_succ_of_le hn, ha, hs⟩

theorem Holds.alloc (h : Holds A w) (o : Obj) : Holds (pt w.heap.size o * A) (w.alloc o) := by
  obtain ⟨h, nn, hnn, ha, hs⟩ := h
  have hlt : ∀ i, w.heap.size ≤ i → h i = none := by
    intro i hi
    cases hh : h i with
    | none => rfl
    | some o => have := (Array.getElem?_eq_some_iff.1 (hs i o hh)).1; omega
  refine ⟨fun i => if i = w.heap.size then some o else h i, nn, hnn, ⟨fun i => if i = w.heap.size then some o else none, h, fun i => ?_, fun i => ?_, fun i => rfl, ha⟩, fun i o' hi => ?_⟩
  · by_cases e : i = w.heap.size
    · right; exact hlt i (by omega)
    · left; simp [e]
  · by_cases e : i = w.heap.size <;> simp [e]
  · simp only at hi
    show (w.heap.push o)[i]? = some o'
    by_cases e : i = w.heap.size
    · rw [if_pos e] at hi
      subst e
      simpa using hi
    · rw [if_neg e] at hi
      have := hs i o' hi
      have hlt' := (Array.getElem?_eq_some_iff.1 this).1
      rw [Array.getElem?_push_lt hlt']
      rw [← this, Array.getElem?_eq_getElem hlt']

/-- Block b becomes x'; whatever else is there stays. -/
theorem Holds.turn {w' : World} (h : Holds (pt b x * A) w) (ho : w'.os = w.os) (hu : w'.output = w.output) (ht : w'.tape = w.tape) (hd' : w.drawn ≤ w'.drawn) (hb : w'.heap[b]? = some x') (hr : ∀ i, i ≠ b → w'.heap[i]? = w.heap[i]?) :
    Holds (pt b x' * A) w' := by
  obtain ⟨h, nn, hnn, ⟨h1, h2, hd, hun, ha, hA⟩, hs⟩ := h
  have h2b : h2 b = none := by
    rcases hd b with g | g
    · rw [ha b] at g; simp at g
    · exact g
  refine ⟨fun i => if i = b then some x' else h2 i, nn, Nat.le_trans hnn hd', ⟨fun i => if i = b then some x' else none, h2, fun i => ?_, fun i => ?_, fun i => rfl, by rw [ho, hu, ht]; exact hA⟩, fun i o hi => ?_⟩
  · by_cases e : i = b
    · right; rw [e]; exact h2b
    · left; simp [e]
  · by_cases e : i = b <;> simp [e]
  · simp only at hi
    by_cases e : i = b
    · rw [if_pos e] at hi; rw [e, hb]; exact hi
    · rw [if_neg e] at hi
      rw [hr i e]
      exact hs i o (by rw [hun i, ha i, if_neg e, hi]; rfl)

theorem Holds.put (h : Holds (pt b x * A) w) (x' : Obj) : Holds (pt b x' * A) (w.putObj b x') :=
  h.turn rfl rfl rfl (Nat.le_refl _) (World.putObj_heap_same h.lt) (fun _ hi => World.putObj_heap_other hi)

theorem Holds.setCell {c : Array Value} {T : TypeId} {fr : Nat × Nat} (h : Holds (pt b (.cells c T fr) * A) w) (i : Nat) (v : Value) :
    Holds (pt b (.cells (c.setIfInBounds i v) T fr) * A) (w.setCell ⟨b, i, none⟩ v) := by
  refine h.turn rfl rfl rfl (Nat.le_refl _) ?_ (fun j hj => Below.heap_setCell w _ _ j hj)
  have hb := h.block
  have hlt := h.lt
  simp only [World.setCell]
  rw [Array.getElem?_modify]
  simp [hb]

end

/-! ### Slices that are owned -/

/-- The slice (p, len, cap) of elements of type T, z cells each, owns its row, whose first cells are cs. -/
def slP (T : TypeId) (z : Nat) (p : Option Addr) (len cap : Nat) (cs : List Value) : HP := fun h _ _ =>
  cs.length = len * z ∧ len ≤ cap ∧
    ((p = none ∧ cap = 0 ∧ ∀ i, h i = none) ∨
     (∃ b off c, p = some ⟨b, off, none⟩ ∧ off + cap * z ≤ c.size ∧ (∀ j, j < cs.length → c[off + j]? = cs[j]?) ∧ ∀ i, h i = if i = b then some (.cells c T (0, 0)) else none))

section
variable {A : HP} {w : World} {T : TypeId} {z len cap : Nat} {p : Option Addr} {cs : List Value}

theorem slP.length (h : Holds (slP T z p len cap cs * A) w) : cs.length = len * z ∧ len ≤ cap := by
  obtain ⟨h, nn, hnn, ⟨h1, h2, -⟩, -⟩ := h.left
  exact ⟨h1, h2⟩

theorem slP.nil (h : Holds A w) : Holds (slP T z none 0 0 [] * A) w := by
  obtain ⟨h, nn, hnn, ha, hs⟩ := h
  exact ⟨h, nn, hnn, ⟨fun _ => none, h, fun i => .inl rfl, fun i => rfl, ⟨by simp, Nat.le_refl _, .inl ⟨rfl, rfl, fun _ => rfl⟩⟩, ha⟩, hs⟩

theorem slP.of_pt {b off : Nat} {c : Array Value} (hl : cs.length = len * z) (hc : len ≤ cap) (hs : off + cap * z ≤ c.size) (hr : ∀ j, j < cs.length → c[off + j]? = cs[j]?)
    (h : Holds (pt b (.cells c T (0, 0)) * A) w) : Holds (slP T z (some ⟨b, off, none⟩) len cap cs * A) w := by
  obtain ⟨h, nn, hnn, ⟨h1, h2, hd, hu, ha, hb⟩, hh⟩ := h
  exact ⟨h, nn, hnn, ⟨h1, h2, hd, hu, ⟨hl, hc, .inr ⟨b, off, c, rfl, hs, hr, ha⟩⟩, hb⟩, hh⟩

/-- It is nil, or lies in a block. -/
theorem slP.open (h : Holds (slP T z p len cap cs * A) w) :
    (p = none ∧ cap = 0 ∧ len = 0 ∧ cs = [] ∧ Holds A w) ∨
    ∃ b off c, p = some ⟨b, off, none⟩ ∧ off + cap * z ≤ c.size ∧ (∀ j, j < cs.length → c[off + j]? = cs[j]?) ∧ Holds (pt b (.cells c T (0, 0)) * A) w := by
  obtain ⟨hl, hc⟩ := slP.length h
  obtain ⟨h, nn, hnn, ⟨h1, h2, hd, hu, ⟨-, -, ha⟩, hb⟩, hh⟩ := h
  rcases ha with ⟨rfl, rfl, h0⟩ | ⟨b, off, c, rfl, hs, hr, h0⟩
  · left
    obtain rfl : len = 0 := by omega
    refine ⟨rfl, rfl, rfl, List.length_eq_zero_iff.1 (by simpa using hl), h, nn, hnn, ?_, hh⟩
    have : h = h2 := by funext i; rw [hu i, h0 i]; rfl
    rw [this]; exact hb
  · exact .inr ⟨b, off, c, rfl, hs, hr, h, nn, hnn, ⟨h1, h2, hd, hu, h0, hb⟩, hh⟩

theorem slP.read (h : Holds (slP T z p len cap cs * A) w) (h0 : 0 < cs.length) : ∃ b off, p = some ⟨b, off, none⟩ ∧ ∀ j, j < cs.length → w.cell? ⟨b, off + j, none⟩ = cs[j]? := by
  rcases slP.open h with ⟨-, -, -, rfl, -⟩ | ⟨b, off, c, rfl, hs, hr, h⟩
  · simp at h0
  · exact ⟨b, off, rfl, fun j hj => by rw [h.cell, hr j hj]⟩

def setMany (c : Array Value) (o : Nat) : List Value → Array Value
  | [] => c
  | v :: vs => setMany (c.setIfInBounds o v) (o + 1) vs

theorem setMany_size (vs : List Value) : ∀ (c : Array Value) (o : Nat), (setMany c o vs).size = c.size := by
  induction vs with
  | nil => intro c o; rfl
  | cons v vs ih => intro c o; simp [setMany, ih]

theorem setMany_get (vs : List Value) : ∀ (c : Array Value) (o i : Nat), o + vs.length ≤ c.size → (setMany c o vs)[i]? = if o ≤ i ∧ i < o + vs.length then vs[i - o]? else c[i]? := by
  induction vs with
  | nil => intro c o i _; simp [setMany]; intro h1 h2; omega
  | cons v vs ih =>
    intro c o i h
    simp only [List.length_cons] at h
    simp only [setMany]
    rw [ih _ _ _ (by simp; omega)]
    by_cases h1 : o + 1 ≤ i ∧ i < o + 1 + vs.length
    · rw [if_pos h1, if_pos (by simp; omega)]
      obtain ⟨k, rfl⟩ : ∃ k, i = o + 1 + k := ⟨i - (o + 1), by omega⟩
      have e1 : o + 1 + k - (o + 1) = k := by omega
      have e2 : o + 1 + k - o = k + 1 := by omega
      rw [e1, e2]; rfl
    · rw [if_neg h1]
      by_cases h2 : i = o
      · subst h2
        rw [if_pos (by simp)]
        simp [Array.getElem?_setIfInBounds_self]
        omega
      · rw [if_neg (by simp; omega), Array.getElem?_setIfInBounds_ne (Ne.symm h2)]

theorem Holds.setCells {b : Nat} {fr : Nat × Nat} (vs : List Value) : ∀ (o : Nat) (c : Array Value) (w : World), Holds (pt b (.cells c T fr) * A) w →
    Holds (pt b (.cells (setMany c o vs) T fr) * A) (w.setCells b o vs) := by
  induction vs with
  | nil => intro o c w h; exact h
  | cons v vs ih => intro o c w h; exact ih (o + 1) _ _ (h.setCell o v)

end

section
variable {P : Program} {A : HP} {w : World} {len cap : Nat} {p : Option Addr} {cs : List Value}

theorem append_own {t tx ty e : TypeId} {i : TypeInfo} {zv : Value} (ht : P.underlying t = some (.slice e)) (hi : P.info? e = some i) (hz : i.zero = some zv) (hzs : zv.cells.size = i.size)
    {x : Value} {n : Nat} {news : List Value} (h : Holds (slP e i.size p len cap cs * A) w) (hs : Src P i.size tx x n news w)
    (h63 : ((len + n : Nat) : Int) ≤ 9223372036854775807) (hbytes : (len + n) * i.bytes ≤ 140737488355328) {K : Value → World → Prop}
    (hK : ∀ p' cap' w', Holds (slP e i.size p' (len + n) cap' (cs ++ news) * A) w' → K (.slice p' (len + n) cap') w') :
    RunW P (Builtin.append_ #[t, tx] ty #[.slice p len cap, x]) K w := by
  obtain ⟨hl, hlc⟩ := slP.length h
  have hnl := hs.newsLen
  by_cases hroom : len + n ≤ cap
  · rcases slP.open h with ⟨rfl, rfl, rfl, rfl, hA⟩ | ⟨b, off, c, rfl, hsz, hr, hA⟩
    · obtain rfl : n = 0 := by omega
      obtain rfl : news = [] := List.length_eq_zero_iff.1 (by simpa using hnl)
      refine ⟨.slice none 0 0, w, ?_, hK none 0 w (slP.nil hA)⟩
      have hsz : sizeT P e = some i.size := by simp [sizeT, hi]
      rcases hs.kind with ⟨e', hk⟩ | hk
      all_goals
        simp only [Builtin.append_, Sem.run_bind, List.getElem?_toArray, List.getElem?_cons_zero, List.getElem?_cons_succ, Result.andThen, run_underlying ht, run_sizeOf hsz, run_underlying hk, Sem.run_pure, Bool.false_eq_true, if_false, hs.len w, Nat.add_zero, Nat.le_refl, if_true]
        simp [Sem.run_bind, Result.andThen, hs.cells]
    · have hfit : off + len * i.size + news.length ≤ c.size := by
        have : len * i.size + n * i.size ≤ cap * i.size := by rw [← Nat.add_mul]; exact Nat.mul_le_mul_right _ hroom
        omega
      refine ⟨_, _, run_append_room_src w t tx ty e i ht hi b off len cap x n news hs hroom (fun j hj => ?_) (fun j hj => hA.unfrozen _), ?_⟩
      · rw [hA.cell]
        simp; omega
      · refine hK _ _ _ (slP.of_pt (c := setMany c (off + len * i.size) news) ?_ hroom (by rw [setMany_size]; exact hsz) ?_ (Holds.setCells news _ _ _ hA))
        · rw [List.length_append, hl, hnl, Nat.add_mul]
        · intro j hj
          rw [List.length_append] at hj
          rw [setMany_get _ _ _ _ hfit]
          by_cases hj1 : j < cs.length
          · rw [if_neg (by omega), hr j hj1, List.getElem?_append_left hj1]
          · rw [if_pos (by omega), List.getElem?_append_right (by omega)]
            congr 1
            omega
  · have hg : cap < len + n := by omega
    have hold : (Builtin.firstCells i.size len (.slice p len cap)).run P w.drew = .ok cs.toArray w.drew := by
      rcases slP.open h with ⟨rfl, rfl, rfl, rfl, hA⟩ | ⟨b, off, c, rfl, hsz, hr, hA⟩
      · exact run_firstCells_none w.drew _ _ _ _
      · refine run_firstCells_some w.drew _ _ _ _ _ cs hl (fun j v hj => ?_)
        have hjl := (List.getElem?_eq_some_iff.1 hj).1
        have : (⟨b, off, none⟩ : Addr).add j = ⟨b, off + j, none⟩ := by
          unfold Addr.add
          by_cases h0 : j = 0
          · subst h0; rfl
          · rw [if_neg h0]
        rw [this]
        have hc := hA.drew.cell (off + j)
        rw [hc, hr j hjl, hj]
    refine ⟨_, _, run_append_grow_src w t tx ty e i zv ht hi hz p len cap cs hold x n news hs hg h63 (growslice_fits hg hbytes), ?_⟩
    have hA : Holds A w := h.right
    have hal := hA.drew.alloc (.cells ((cs ++ news).toArray ++ Builtin.zeroCells zv.cells (grownCap w (len + n) cap e - (len + n))) e)
    have hge := grownCap_ge w (len + n) cap e
    refine hK _ _ _ (slP.of_pt (c := (cs ++ news).toArray ++ Builtin.zeroCells zv.cells (grownCap w (len + n) cap e - (len + n))) ?_ hge ?_ ?_ hal)
    · rw [List.length_append, hl, hnl, Nat.add_mul]
    · simp only [Array.size_append, List.size_toArray, List.length_append, size_zeroCells, hl, hnl, hzs]
      have : (len + n) * i.size + (grownCap w (len + n) cap e - (len + n)) * i.size = grownCap w (len + n) cap e * i.size := by
        rw [← Nat.add_mul]; congr 1; omega
      rw [Nat.add_mul] at this
      omega
    · intro j hj
      rw [Nat.zero_add, Array.getElem?_append_left (by simpa using hj)]
      simp

end
end Go.Eng
