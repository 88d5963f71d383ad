/-
  The engine, part X: blocks that pointers in data lead to: a store.
-/
import Derived.Test.YtdonkmbhlankiaaEngW
import Derived.LaidEqlPtr
namespace Go.Eng
open Go Go.RowKit

/-- A pointer that data hold, by its block. -/
def pn (e : Option Nat) : Option Addr := e.map fun b => ⟨b, 0, none⟩

theorem pnSome {e : Option Nat} {b : Nat} (h : e = some b) : pn e = some ⟨b, 0, none⟩ := by subst h; rfl
theorem pn_isNone (e : Option Nat) : (pn e).isNone = e.isNone := by cases e <;> rfl

theorem eqlPn {P : Program} {t : TypeId} {x y : Operand} {e : Option Nat} {K : Value → World → Prop} {w : World} (hu : P.underlying t = some (.pointer (P.pointee t))) (hK : K (.bool e.isNone) w) :
    RunW P (binS .eql t x y (.pointer (pn e)) (.pointer none)) K w :=
  ⟨_, _, binS_run guardPtr (run_eql_pointer_nil w t (pn e) hu), by rw [pn_isNone]; exact hK⟩

theorem neqPn {P : Program} {t : TypeId} {x y : Operand} {e : Option Nat} {K : Value → World → Prop} {w : World} (hu : P.underlying t = some (.pointer (P.pointee t))) (hK : K (.bool (!e.isNone)) w) :
    RunW P (binS .neq t x y (.pointer (pn e)) (.pointer none)) K w :=
  ⟨_, _, binS_run guardPtr (run_neq_pointer_nil w t (pn e) hu), by rw [pn_isNone]; exact hK⟩

section
variable {β η : Type}

def getS (m : List (Nat × β)) (b : Nat) : Option β := (m.find? fun p => p.1 == b).map (·.2)
def delS (m : List (Nat × β)) (b : Nat) : List (Nat × β) := m.filter fun p => !(p.1 == b)
def putS (m : List (Nat × β)) (b : Nat) (x : β) : List (Nat × β) := (b, x) :: delS m b

theorem getS_nil (b : Nat) : getS ([] : List (Nat × β)) b = none := rfl
theorem getS_cons (p : Nat × β) (m : List (Nat × β)) (b : Nat) : getS (p :: m) b = if p.1 = b then some p.2 else getS m b := by
  unfold getS
  rw [List.find?_cons]
  by_cases h : p.1 = b
  · simp [h]
  · have : (p.1 == b) = false := by simpa using h
    rw [this, if_neg h]

theorem getS_del (m : List (Nat × β)) (b c : Nat) : getS (delS m b) c = if c = b then none else getS m c := by
  induction m with
  | nil => simp [delS, getS_nil]
  | cons p m ih =>
    unfold delS at ih ⊢
    rw [List.filter_cons]
    by_cases h : p.1 = b
    · simp only [h, beq_self_eq_true, Bool.not_true, Bool.false_eq_true, if_false]
      rw [ih, getS_cons]
      by_cases hc : c = b
      · simp [hc]
      · rw [if_neg hc, if_neg hc, if_neg (by rw [h]; exact fun e => hc e.symm)]
    · have hb : (p.1 == b) = false := by simpa using h
      simp only [hb, Bool.not_false, if_true]
      rw [getS_cons, ih, getS_cons]
      by_cases hc : p.1 = c
      · rw [if_pos hc, if_pos hc, if_neg (by rw [← hc]; exact h)]
      · rw [if_neg hc, if_neg hc]

theorem getS_put (m : List (Nat × β)) (b c : Nat) (x : β) : getS (putS m b x) c = if c = b then some x else getS m c := by
  unfold putS
  rw [getS_cons, getS_del]
  by_cases h : c = b
  · simp [h]
  · rw [if_neg h, if_neg h, if_neg (fun e => h e.symm)]

theorem delS_fresh {m : List (Nat × β)} {b : Nat} (h : getS m b = none) : delS m b = m := by
  unfold delS
  rw [List.filter_eq_self]
  intro p hp
  unfold getS at h
  rw [Option.map_eq_none_iff, List.find?_eq_none] at h
  simpa using h p hp

/-- The blocks of a store; u: what is kept of each that the plain side doesn't see. -/
def stoP (E : η → Nat → β → HP) (u : Nat → η) : List (Nat × β) → HP
  | [] => emp
  | p :: m => E (u p.1) p.1 p.2 * stoP E u m

def updF (u : Nat → η) (b : Nat) (v : η) : Nat → η := fun c => if c = b then v else u c

/-- Two blocks of a store are two. -/
structure StoE (E : η → Nat → β → HP) : Prop where
  two : ∀ (u v : η) (b : Nat) (x y : β) (A : HP) (w : World), ¬ Holds (E u b x * (E v b y * A)) w
  new : ∀ (o : Obj) (v : η) (b : Nat) (y : β) (A : HP) (w : World), ¬ Holds (pt b o * (E v b y * A)) w

variable {E : η → Nat → β → HP} {u : Nat → η} {w : World}

theorem stoP_del : ∀ (m : List (Nat × β)) (A : HP) (b : Nat) (hE : ∀ (v : η) (y : β) (B : HP), ¬ Holds (E v b y * (A * B)) w), Holds (A * stoP E u m) w → Holds (A * stoP E u (delS m b)) w
  | [], A, b, hE, h => h
  | p :: m, A, b, hE, h => by
    have h' : Holds (A * (E (u p.1) p.1 p.2 * stoP E u m)) w := h
    unfold delS
    rw [List.filter_cons]
    by_cases hb : p.1 = b
    · rw [star_left_comm] at h'
      subst hb
      exact absurd h' (hE _ _ _)
    · have e : (p.1 == b) = false := by simpa using hb
      simp only [e, Bool.not_false, if_true]
      show Holds (A * (E (u p.1) p.1 p.2 * stoP E u (delS m b))) w
      rw [← star_assoc] at h' ⊢
      exact stoP_del m (A * E (u p.1) p.1 p.2) b (fun v y B hh => hE v y (E (u p.1) p.1 p.2 * B) (by rwa [star_assoc] at hh)) h'

theorem stoTake (hE : StoE E) : ∀ (m : List (Nat × β)) (A : HP) {b : Nat} {x : β}, getS m b = some x → Holds (stoP E u m * A) w → Holds (E (u b) b x * (stoP E u (delS m b) * A)) w
  | [], A, b, x, hx, h => by simp [getS_nil] at hx
  | p :: m, A, b, x, hx, h => by
    have h' : Holds (E (u p.1) p.1 p.2 * stoP E u m * A) w := h
    rw [getS_cons] at hx
    by_cases hb : p.1 = b
    · rw [if_pos hb] at hx
      cases hx
      subst hb
      have h2 : Holds (E (u p.1) p.1 p.2 * A * stoP E u m) w := by
        have : E (u p.1) p.1 p.2 * A * stoP E u m = E (u p.1) p.1 p.2 * stoP E u m * A := by ac_rfl
        rw [this]; exact h'
      have h3 := stoP_del m (E (u p.1) p.1 p.2 * A) p.1 (fun v y B hh => hE.two v (u p.1) p.1 y p.2 (A * B) w (by rwa [star_assoc] at hh)) h2
      have e1 : delS (p :: m) p.1 = delS m p.1 := by unfold delS; rw [List.filter_cons]; simp
      rw [e1]
      have : E (u p.1) p.1 p.2 * (stoP E u (delS m p.1) * A) = E (u p.1) p.1 p.2 * A * stoP E u (delS m p.1) := by ac_rfl
      rw [this]; exact h3
    · rw [if_neg hb] at hx
      have h2 : Holds (stoP E u m * (E (u p.1) p.1 p.2 * A)) w := by
        have : stoP E u m * (E (u p.1) p.1 p.2 * A) = E (u p.1) p.1 p.2 * stoP E u m * A := by ac_rfl
        rw [this]; exact h'
      have h3 := stoTake hE m _ hx h2
      have e1 : delS (p :: m) b = p :: delS m b := by
        unfold delS; rw [List.filter_cons]
        have : (p.1 == b) = false := by simpa using hb
        simp [this]
      rw [e1]
      show Holds (E (u b) b x * (E (u p.1) p.1 p.2 * stoP E u (delS m b) * A)) w
      have : E (u b) b x * (E (u p.1) p.1 p.2 * stoP E u (delS m b) * A) = E (u b) b x * (stoP E u (delS m b) * (E (u p.1) p.1 p.2 * A)) := by ac_rfl
      rw [this]; exact h3

theorem stoP_upd (b : Nat) (v : η) : ∀ (m : List (Nat × β)), stoP E (updF u b v) (delS m b) = stoP E u (delS m b)
  | [] => rfl
  | p :: m => by
    unfold delS
    rw [List.filter_cons]
    by_cases hb : p.1 = b
    · simp only [hb, beq_self_eq_true, Bool.not_true, Bool.false_eq_true, if_false]
      exact stoP_upd b v m
    · have e : (p.1 == b) = false := by simpa using hb
      simp only [e, Bool.not_false, if_true]
      show E (updF u b v p.1) p.1 p.2 * stoP E (updF u b v) (delS m b) = E (u p.1) p.1 p.2 * stoP E u (delS m b)
      rw [stoP_upd b v m]
      unfold updF
      rw [if_neg hb]

variable {L : List HP} {m : List (Nat × β)} {b : Nat} {x : β}

theorem stoOpen (hE : StoE E) (h : Mem L w) (k : Nat) (hk : nthH L k = stoP E u m) (hx : getS m b = some x) : Mem (E (u b) b x :: setH L k (stoP E u (delS m b))) w := by
  have h0 := h.at k
  rw [hk] at h0
  have h1 := stoTake hE m _ hx h0
  show Holds (E (u b) b x * HL (setH L k (stoP E u (delS m b)))) w
  by_cases hl : k < L.length
  · rw [HL_set L k _ hl]; exact h1
  · exfalso
    have : ∀ (L : List HP) (k : Nat), ¬ k < L.length → nthH L k = emp ∧ delH L k = L := by
      intro L
      induction L with
      | nil => intro k _; exact ⟨rfl, rfl⟩
      | cons A L ih =>
        intro k hk
        cases k with
        | zero => simp at hk
        | succ k =>
          have := ih k (by simpa using hk)
          simp only [nthH, delH, this.1, this.2]
          exact ⟨trivial, trivial⟩
    have e := (this L k hl).1
    rw [hk] at e
    have e2 : stoP E u m * stoP E u m = stoP E u m := by rw [e, emp_star]
    rw [← e2, star_assoc] at h0
    have h2 := stoTake hE m _ hx h0
    have h3 : Holds (stoP E u m * (E (u b) b x * (stoP E u (delS m b) * HL (delH L k)))) w := by
      have : stoP E u m * (E (u b) b x * (stoP E u (delS m b) * HL (delH L k))) = E (u b) b x * (stoP E u (delS m b) * (stoP E u m * HL (delH L k))) := by ac_rfl
      rw [this]; exact h2
    have h4 := stoTake hE m _ hx h3
    have h5 : Holds (E (u b) b x * (E (u b) b x * (stoP E u (delS m b) * (stoP E u (delS m b) * HL (delH L k))))) w := by
      have : E (u b) b x * (E (u b) b x * (stoP E u (delS m b) * (stoP E u (delS m b) * HL (delH L k)))) = E (u b) b x * (stoP E u (delS m b) * (E (u b) b x * (stoP E u (delS m b) * HL (delH L k)))) := by ac_rfl
      rw [this]; exact h4
    exact hE.two _ _ _ _ _ _ _ h5

theorem stoClose {v : η} (h : Mem (E v b x :: L) w) (k : Nat) (hl : k < L.length) (hk : nthH L k = stoP E u (delS m b)) : Mem (setH L k (stoP E (updF u b v) (putS m b x))) w := by
  unfold Mem
  rw [HL_set L k _ hl]
  show Holds (E (updF u b v b) b x * stoP E (updF u b v) (delS m b) * HL (delH L k)) w
  rw [stoP_upd]
  have e : updF u b v b = v := by unfold updF; rw [if_pos rfl]
  rw [e]
  have h0 : Holds (E v b x * HL L) w := h
  rw [HL_nth L k, hk] at h0
  rw [star_assoc]
  exact h0

theorem stoFresh {o : Obj} (hE : StoE E) (h : Mem (pt b o :: L) w) (k : Nat) (hk : nthH L k = stoP E u m) : getS m b = none := by
  cases hx : getS m b with
  | none => rfl
  | some x =>
    exfalso
    have h0 : Holds (pt b o * HL L) w := h
    rw [HL_nth L k, hk, star_left_comm] at h0
    have h1 := stoTake hE m _ hx h0
    have : E (u b) b x * (stoP E u (delS m b) * (pt b o * HL (delH L k))) = pt b o * (E (u b) b x * (stoP E u (delS m b) * HL (delH L k))) := by ac_rfl
    rw [this] at h1
    exact hE.new _ _ _ _ _ _ h1

theorem stoFreshen (h : Mem L w) (k : Nat) (hk : nthH L k = stoP E u m) (hx : getS m b = none) : Mem (setH L k (stoP E u (delS m b))) w := by
  rw [delS_fresh hx]
  refine HL_set_le L k _ ?_
  have := h.at k
  rwa [hk] at this

theorem stoNil (E : η → Nat → β → HP) (u : Nat → η) (h : Mem L w) : Mem (stoP E u [] :: L) w := by
  show Holds (emp * HL L) w
  rw [emp_star]; exact h

end

/-- A block of cells is no other one. -/
theorem cel_two {b : Nat} {T T' : TypeId} {vs vs' : List Value} {A B C : HP} {w : World} : ¬ Holds ((cel b T vs * A) * ((cel b T' vs' * B) * C)) w := by
  intro h
  have : (cel b T vs * A) * ((cel b T' vs' * B) * C) = cel b T vs * (cel b T' vs' * (A * (B * C))) := by ac_rfl
  rw [this] at h
  exact Holds.ne h rfl

theorem pt_two {b : Nat} {o : Obj} {T' : TypeId} {vs' : List Value} {B C : HP} {w : World} : ¬ Holds (pt b o * ((cel b T' vs' * B) * C)) w := by
  intro h
  have : pt b o * ((cel b T' vs' * B) * C) = pt b o * (cel b T' vs' * (B * C)) := by ac_rfl
  rw [this] at h
  exact Holds.ne h rfl


/-- A block of cells that is not frozen. -/
def LiveC (w : World) (b : Nat) : Prop := ∃ cs T, w.heap[b]? = some (.cells cs T (0, 0))

theorem liveC {L : List HP} {w : World} {b : Nat} {T : TypeId} {vs : List Value} (h : Mem L w) (k : Nat) (hk : nthH L k = cel b T vs) : LiveC w b := ⟨_, _, objAt h k hk⟩

theorem eqlPP {P : Program} {t te n : Nat} {x y : Operand} {p q : Nat} {K : Value → World → Prop} {w : World} (hu : P.underlying t = some (.pointer te)) (hs : sizeT P te = some (n + 1)) (hl : p = q ∨ (LiveC w p ∧ LiveC w q)) (hK : K (.bool (decide (p = q))) w) :
    RunW P (binS .eql t x y (.pointer (some ⟨p, 0, none⟩)) (.pointer (some ⟨q, 0, none⟩))) K w := by
  unfold sizeT at hs
  cases hi : P.info? te with
  | none => rw [hi] at hs; simp at hs
  | some j =>
    rw [hi] at hs
    have hj : j.size ≠ 0 := by
      have : j.size = n + 1 := by simpa using hs
      omega
    by_cases e : p = q
    · subst e
      refine ⟨_, _, binS_run guardPtr (run_eql_ptr_same w _ hu hi), ?_⟩
      rw [decide_eq_true rfl] at hK
      exact hK
    · rcases hl with h | ⟨⟨c1, t1, h1⟩, ⟨c2, t2, h2⟩⟩
      · exact absurd h e
      · refine ⟨_, _, binS_run guardPtr (run_eql_ptr_other w hu hi hj (fun h => e (by injection h)) h1 h2), ?_⟩
        rw [decide_eq_false e] at hK
        exact hK

theorem run_eql_nil_ptr {P : Program} {tp te : TypeId} (w : World) (a : Option Addr) (hp : P.underlying tp = some (.pointer te)) :
    (binOp .eql tp (.pointer none) (.pointer a)).run P w = .ok (.bool a.isNone) w := by
  have h : ∀ d : Nat, (Op.equalIn (d + 1) tp (.pointer none) (.pointer a)).run P w = .ok a.isNone w := fun d => by
    cases a <;> simp [Op.equalIn, run_underlying hp]
  simp only [binOp]
  simp [Op.equal, Op.maxDepth, h 9999]

/-- Two pointers, each of which may be nil. -/
theorem eqlPO {P : Program} {t te n : Nat} {x y : Operand} {p q : Option Nat} {K : Value → World → Prop} {w : World} (hu : P.underlying t = some (.pointer te)) (hs : sizeT P te = some (n + 1)) (hl : ∀ a b, p = some a → q = some b → a = b ∨ (LiveC w a ∧ LiveC w b)) (hK : K (.bool (decide (p = q))) w) :
    RunW P (binS .eql t x y (.pointer (pn p)) (.pointer (pn q))) K w := by
  cases p with
  | none =>
    refine ⟨_, _, binS_run guardPtr (run_eql_nil_ptr w (pn q) hu), ?_⟩
    have e : (pn q).isNone = decide (none = q) := by cases q <;> rfl
    rw [e]
    exact hK
  | some a =>
    cases q with
    | none =>
      have hu' : P.underlying t = some (.pointer (P.pointee t)) := by
        unfold Program.pointee
        rw [hu]
      exact ⟨_, _, binS_run guardPtr (run_eql_pointer_nil w t (some ⟨a, 0, none⟩) hu'), hK⟩
    | some b =>
      refine eqlPP hu hs (hl a b rfl rfl) ?_
      have e : decide (some a = some b) = decide (a = b) := by simp
      rw [← e]
      exact hK

end Go.Eng
