/- Rows that are never written again: a pool, and the headers that lead into it. -/
import Derived.Test.YtdonkmbhlankiaaEngU
namespace Go.Eng
open Go

abbrev Hd := Option Addr × Nat × Nat

section
variable {α : Type}

/-- A row of the pool. -/
def poolE (enc : α → List Value) (T : TypeId) (z : Nat) (e : Hd × List α) : HP := HL [row enc T z e.1.1 e.1.2.2 e.2, Eng.lift (e.1.2.1 = e.2.length)]

/-- All its rows. -/
def poolP (enc : α → List Value) (T : TypeId) (z : Nat) (m : List (Hd × List α)) : HP := HL (m.map (poolE enc T z))

/-- A header leads to a content. -/
def PH (m : List (Hd × List α)) (h : Hd) (xs : List α) : Prop := (h.2.1 = 0 ∧ xs = []) ∨ (h, xs) ∈ m

theorem PH.mono {m : List (Hd × List α)} {h : Hd} {xs : List α} (hp : PH m h xs) (l : List (Hd × List α)) : PH (m ++ l) h xs := by
  rcases hp with hp | hp
  · exact .inl hp
  · exact .inr (List.mem_append.2 (.inl hp))

theorem PH.new {m : List (Hd × List α)} {h : Hd} {xs : List α} : PH (m ++ [(h, xs)]) h xs := .inr (by simp)

theorem PH.nil {m : List (Hd × List α)} {p : Option Addr} {c : Nat} : PH m (p, 0, c) [] := .inl ⟨rfl, rfl⟩

end

theorem Mem.packA {M L : List HP} {w : World} (h : Mem (M ++ L) w) : Mem (HL M :: L) w := by
  unfold Mem at *
  rw [HL_append] at h
  exact h

section
variable {α : Type} {enc : α → List Value} {T : TypeId} {z : Nat} {m : List (Hd × List α)} {L : List HP} {w : World}

theorem poolNil (enc : α → List Value) (T : TypeId) (z : Nat) (h : Mem L w) : Mem (poolP enc T z [] :: L) w := Mem.packA (M := []) h

theorem poolPush {p : Option Addr} {cap : Nat} {xs : List α} (h : Mem (row enc T z p cap xs :: poolP enc T z m :: L) w) : Mem (poolP enc T z (m ++ [((p, xs.length, cap), xs)]) :: L) w := by
  have h1 : Mem (poolP enc T z m :: row enc T z p cap xs :: L) w := h.pick [1]
  have h2 : Mem (m.map (poolE enc T z) ++ (row enc T z p cap xs :: L)) w := h1.unpack
  have key : ∀ (M : List HP), Mem (M ++ (row enc T z p cap xs :: L)) w → Mem (M ++ (poolE enc T z ((p, xs.length, cap), xs) :: L)) w := by
    intro M hM
    unfold Mem at *
    rw [HL_append] at hM ⊢
    have e : Holds (HL M * HL (poolE enc T z ((p, xs.length, cap), xs) :: L)) w := by
      have h3 : Mem (row enc T z p cap xs :: HL M :: L) w := by
        have h4 : Mem (HL M :: row enc T z p cap xs :: L) w := hM
        exact h4.pick [1]
      have h5 : Mem (Eng.lift (((p, xs.length, cap), xs).1.2.1 = ((p, xs.length, cap), xs).2.length) :: row enc T z p cap xs :: HL M :: L) w := Mem.lftI rfl h3
      have h6 : Mem (row enc T z p cap xs :: Eng.lift (((p, xs.length, cap), xs).1.2.1 = ((p, xs.length, cap), xs).2.length) :: HL M :: L) w := h5.pick [1]
      have h7 : Mem (poolE enc T z ((p, xs.length, cap), xs) :: HL M :: L) w := Mem.packA (M := [row enc T z p cap xs, Eng.lift (((p, xs.length, cap), xs).1.2.1 = ((p, xs.length, cap), xs).2.length)]) h6
      have h8 : Mem (HL M :: poolE enc T z ((p, xs.length, cap), xs) :: L) w := h7.pick [1]
      exact h8
    exact e
  have h9 := key _ h2
  have e : m.map (poolE enc T z) ++ (poolE enc T z ((p, xs.length, cap), xs) :: L) = (m ++ [((p, xs.length, cap), xs)]).map (poolE enc T z) ++ L := by simp
  rw [e] at h9
  exact Mem.packA h9

theorem poolMem {e : Hd × List α} : ∀ (m : List (Hd × List α)) (R : List HP), Mem (m.map (poolE enc T z) ++ R) w → e ∈ m → ∃ L', Mem (poolE enc T z e :: L') w
  | x :: m, R, h, he => by
    rcases List.mem_cons.1 he with rfl | he
    · exact ⟨_, h⟩
    · exact poolMem m R (h.drop 1) he

theorem poolAt (h : Mem L w) (k : Nat) (hk : nthH L k = poolP enc T z m) {e : Hd × List α} (he : e ∈ m) : (∃ L', Mem (row enc T z e.1.1 e.1.2.2 e.2 :: L') w) ∧ e.1.2.1 = e.2.length := by
  have h1 := h.at k
  rw [hk] at h1
  have h2 : Mem (poolP enc T z m :: delH L k) w := h1
  obtain ⟨L', h3⟩ := poolMem m _ h2.unpack he
  have h4 : Mem ([row enc T z e.1.1 e.1.2.2 e.2, Eng.lift (e.1.2.1 = e.2.length)] ++ L') w := Mem.unpack h3
  have h5 : Mem (Eng.lift (e.1.2.1 = e.2.length) :: L') w := h4.drop 1
  exact ⟨⟨_, h4⟩, h5.lft.1⟩

theorem poolRd (h : Mem L w) (k : Nat) (hz : ∀ x, (enc x).length = z) (hk : nthH L k = poolP enc T z m) {hd : Hd} {xs : List α} (hp : PH m hd xs) : Rd w z hd.1 enc xs := by
  rcases hp with ⟨-, rfl⟩ | hp
  · intro i x hx; simp at hx
  · obtain ⟨⟨L', h1⟩, -⟩ := poolAt h k hk hp
    exact rowRd h1 0 hz rfl

theorem poolLen (h : Mem L w) (k : Nat) (hk : nthH L k = poolP enc T z m) {hd : Hd} {xs : List α} (hp : PH m hd xs) : hd.2.1 = xs.length := by
  rcases hp with ⟨h0, rfl⟩ | hp
  · simpa using h0
  · exact (poolAt h k hk hp).2

theorem poolCap (h : Mem L w) (k : Nat) (hk : nthH L k = poolP enc T z m) {hd : Hd} {xs : List α} (hp : PH m hd xs) : hd.2.1 ≤ hd.2.2 := by
  rcases hp with ⟨h0, rfl⟩ | hp
  · omega
  · obtain ⟨⟨L', h1⟩, h2⟩ := poolAt h k hk hp
    have := rowCap h1 0 rfl
    simp only at h2 this
    omega

/-- The pool as a frame holds it. -/
def RoPool (enc : α → List Value) (z : Nat) (FL : List HP) (m : List (Hd × List α)) : Prop :=
  (∀ hd xs, PH m hd xs → hd.2.1 = xs.length ∧ hd.2.1 ≤ hd.2.2) ∧ ∀ hd xs, PH m hd xs → ∀ w, Mem FL w → Rd w z hd.1 enc xs

theorem roPool (h : Mem L w) (k : Nat) (hz : ∀ x, (enc x).length = z) (hk : nthH L k = poolP enc T z m) : RoPool enc z L m :=
  ⟨fun _ _ hp => ⟨poolLen h k hk hp, poolCap h k hk hp⟩, fun _ _ hp _ h' => poolRd h' k hz hk hp⟩

theorem RoPool.mono {FL FL2 : List HP} (h : RoPool enc z FL m) (hx : ∀ w, Mem FL2 w → Mem FL w) : RoPool enc z FL2 m := ⟨h.1, fun hd xs hp w h' => h.2 hd xs hp w (hx w h')⟩

theorem poolBack {e : Hd × List α} (h : Mem (poolP enc T z (m ++ [e]) :: L) w) : Mem (poolP enc T z m :: L) w := by
  have h1 : Mem ((m ++ [e]).map (poolE enc T z) ++ L) w := Mem.unpack h
  have e1 : (m ++ [e]).map (poolE enc T z) ++ L = m.map (poolE enc T z) ++ (poolE enc T z e :: L) := by simp
  rw [e1] at h1
  have h2 : Mem (HL (m.map (poolE enc T z)) :: poolE enc T z e :: L) w := Mem.packA h1
  have h3 : Mem (poolE enc T z e :: HL (m.map (poolE enc T z)) :: L) w := h2.pick [1]
  exact h3.drop 1

theorem poolMerge {m2 : List (Hd × List α)} (h : Mem (poolP enc T z m :: poolP enc T z m2 :: L) w) : Mem (poolP enc T z (m ++ m2) :: L) w := by
  have h1 : Mem (m.map (poolE enc T z) ++ (poolP enc T z m2 :: L)) w := Mem.unpack h
  have h2 : Holds (HL (m.map (poolE enc T z)) * HL (poolP enc T z m2 :: L)) w := by
    unfold Mem at h1; rw [HL_append] at h1; exact h1
  have h3 : Mem (poolP enc T z m2 :: HL (m.map (poolE enc T z)) :: L) w := Mem.pick (L := HL (m.map (poolE enc T z)) :: poolP enc T z m2 :: L) h2 [1]
  have h4 : Mem (m2.map (poolE enc T z) ++ (HL (m.map (poolE enc T z)) :: L)) w := Mem.unpack h3
  have h5 : Mem (HL (m2.map (poolE enc T z)) :: HL (m.map (poolE enc T z)) :: L) w := Mem.packA h4
  have h6 : Mem (HL (m.map (poolE enc T z)) :: HL (m2.map (poolE enc T z)) :: L) w := h5.pick [1]
  have h7 : Mem (m.map (poolE enc T z) ++ (HL (m2.map (poolE enc T z)) :: L)) w := Mem.unpack h6
  have e : Holds (HL (m.map (poolE enc T z)) * HL (HL (m2.map (poolE enc T z)) :: L)) w := by
    unfold Mem at h7; rw [HL_append] at h7; exact h7
  have h8 : Mem (m.map (poolE enc T z) ++ (m2.map (poolE enc T z) ++ L)) w := by
    unfold Mem
    rw [HL_append, HL_append]
    exact e
  have e2 : m.map (poolE enc T z) ++ (m2.map (poolE enc T z) ++ L) = (m ++ m2).map (poolE enc T z) ++ L := by simp
  rw [e2] at h8
  exact Mem.packA h8

end

/-- A map of functions, whose content is known. -/
theorem lookF {κ : Type} [DecidableEq κ] {P : Program} {w : World} {b : Nat} {ek : κ → Value} {p : List MapEntry × Nat} {m : List (κ × Value)} {mt t et : TypeId} {k : κ} {d v : Value} {ok : Bool} {K : Value → World → Prop}
    (hm : MapAt w b ek (fun v : Value => v) p m) (hu : P.underlying mt = some (.map t et)) (hk : KeyT P t ek) (hz : ∀ w, (zeroValue et).run P w = .ok d w) (hv : mapGet m k d = v) (ho : mapHas m k = ok) (hK : K (.tuple #[v, .bool ok]) w) :
    RunW P (Instr.lookup mt (.map (some b)) (ek k) true) K w := by
  refine lookW2 (ev := fun v : Value => v) (d := d) hm hu hk hz ?_
  show K (.tuple #[mapGet m k d, .bool (mapHas m k)]) w
  rw [hv, ho]
  exact hK

theorem condPos {a b : Int} {T F : Prop} (h : a = b) (hp : cond (a == b) T F) : T := by
  subst h; simpa using hp

theorem condNeg {a b : Int} {T F : Prop} (h : a ≠ b) (hp : cond (a == b) T F) : F := by
  have : (a == b) = false := by simpa using h
  rw [this] at hp; exact hp


end Go.Eng
