/-
  The engine, part G: code, functions, ranges over functions.
-/
import Derived.Test.YtdonkmbhlankiaaEngF
import Derived.RangeFuncNested
import Derived.Scope
namespace Go.Eng
open Go

variable {P : Program}

abbrev KE := Exit → EE → List Nat → World → Prop

def thenK (n : EE → List Nat → World → Prop) (K : KE) : KE
  | .normal, e, m, w => n e m w
  | .ret, e, m, w => K .ret e m w
  | .exit id, e, m, w => K (.exit id) e m w
  | .goto l, e, m, w => K (.goto l) e m w
  | .panic _, _, _, _ => False
  | .outgrown, _, _, _ => False

def blockK (id : Nat) (K : KE) : KE
  | .normal, e, m, w => K .normal e m w
  | .ret, e, m, w => K .ret e m w
  | .exit id', e, m, w => if id' = id then K .normal e m w else K (.exit id') e m w
  | .goto l, e, m, w => K (.goto l) e m w
  | .panic _, _, _, _ => False
  | .outgrown, _, _, _ => False

def noGotoK (K : KE) : KE
  | .normal, e, m, w => K .normal e m w
  | .ret, e, m, w => K .ret e m w
  | .exit id, e, m, w => K (.exit id) e m w
  | _, _, _, _ => False

/-- What the denotation of a function is told: how many temporaries there are, whether marks are kept, and where pieces meet, with what lives there. -/
structure Cx where
  n : Nat
  mm : Bool
  cuts : List (Nat × List (Nat × TC))

noncomputable def findCutL (p : Nat) (cs : List (Nat × List (Nat × TC))) : Option (List (Nat × TC)) :=
  List.rec (motive := fun _ => Option (List (Nat × TC))) none (fun c _ ih => cond (Nat.beq c.1 p) (some c.2) ih) cs

noncomputable def findCut (x : Cx) (p : Nat) : Option (List (Nat × TC)) := findCutL p x.cuts

noncomputable def selE (l : List (Nat × TC)) (E : EE) : EE :=
  List.rec (motive := fun _ => EE) [] (fun p _ ih => cond (knownT E p.1) ((p.1, getE E p.1) :: ih) ih) l

theorem selE_rel {E : EE} {e : Env} (h : Rel E e) : ∀ l, Rel (selE l E) e
  | [] => Rel.nil e
  | p :: l => by
    show Rel (cond (knownT E p.1) ((p.1, getE E p.1) :: selE l E) (selE l E)) e
    cases hk : knownT E p.1 with
    | false => exact selE_rel h l
    | true => exact (selE_rel h l).cons (h.get hk)

/-- The numbers of the blocks that a round's body may leave. -/
def exitsOf : Code → List Nat
  | .seq a b => (exitsOf a) ++ (exitsOf b).filter fun i => !(exitsOf a).contains i
  | .cond _ a b => (exitsOf a) ++ (exitsOf b).filter fun i => !(exitsOf a).contains i
  | .block id c => (exitsOf c).filter fun i => !(i == id)
  | .loop c => exitsOf c
  | .scope c => exitsOf c
  | .exit id => [id]
  | _ => []

def hasRet : Code → Bool
  | .seq a b => hasRet a || hasRet b
  | .cond _ a b => hasRet a || hasRet b
  | .block _ c => hasRet c
  | .loop c => hasRet c
  | .scope c => hasRet c
  | .ret => true
  | _ => false

def jumpIds (K : KE) (j : Option Code) (e : EE) (m : List Nat) (w : World) : List Nat → Prop
  | [] => j = some .ret ∧ K .ret e m w
  | [id] => j = some (.exit id) ∧ K (.exit id) e m w
  | id :: ids => (j = some (.exit id) ∧ K (.exit id) e m w) ∨ jumpIds K j e m w ids

/-- Where the code goes on behind a range over a function, by what is pending. -/
def jumpK (K : KE) (ids : List Nat) (ret : Bool) (j : Option Code) (e : EE) (m : List Nat) (w : World) : Prop :=
  match ids, ret with
  | [], false => j = none ∧ K .normal e m w
  | [], true => (j = none ∧ K .normal e m w) ∨ (j = some .ret ∧ K .ret e m w)
  | id :: ids, false => (j = none ∧ K .normal e m w) ∨ jumpIds K j e m w (id :: ids)
  | id :: ids, true => (j = none ∧ K .normal e m w) ∨ (j = some .ret ∧ K .ret e m w) ∨ jumpIds K j e m w (id :: ids)

theorem jumpIds_out {K : KE} {j : Option Code} {e : EE} {m : List Nat} {w : World} : ∀ {ids : List Nat}, jumpIds K j e m w ids → (j = some .ret ∧ K .ret e m w) ∨ ∃ id, j = some (.exit id) ∧ K (.exit id) e m w
  | [], h => .inl h
  | [_], h => .inr ⟨_, h⟩
  | _ :: _ :: _, h => by
    rcases h with h | h
    · exact .inr ⟨_, h⟩
    · exact jumpIds_out h

theorem jumpK_out {K : KE} {ids : List Nat} {ret : Bool} {j : Option Code} {e : EE} {m : List Nat} {w : World} (h : jumpK K ids ret j e m w) :
    (j = none ∧ K .normal e m w) ∨ (j = some .ret ∧ K .ret e m w) ∨ ∃ id, j = some (.exit id) ∧ K (.exit id) e m w := by
  unfold jumpK at h
  split at h
  · exact .inl h
  · rcases h with h | h
    · exact .inl h
    · exact .inr (.inl h)
  · rcases h with h | h
    · exact .inl h
    · exact .inr (jumpIds_out h)
  · rcases h with h | h | h
    · exact .inl h
    · exact .inr (.inl h)
    · exact .inr (jumpIds_out h)

def rangeEnd (K : KE) (ids : List Nat) (ret : Bool) (l : Nat) (e : EE) (m : List Nat) (w : World) : Prop :=
  ∃ r : Loop, w.heap[l]? = some (.loop r) ∧ r.state ≠ .busy ∧ jumpK K ids ret r.pending e m (w.putObj l (.loop { r with state := .exhausted }))

def rangeCallW (P : Program) (fv : Value) (l : Nat) (w : World) (R : World → Prop) : Prop :=
  match fv with
  | .func (.func f) first captured => if hasBody P f = true then CallV P f (first ++ #[.func (.yield l) #[] #[]] ++ captured) w (fun _ w' => R w') else False
  | _ => False

def RangeW (P : Program) (n : Nat) (ro : Option Nat) (fv : Value) (ps : Array Tmp) (as bd : Code) (K : KE) (Es E : EE) (m : List Nat) (w : World) : Prop :=
  match ro with
  | none => ∀ (e : Env) (fn : FuncId), e.length = n → Rel Es e → NewW (.deferred (some [])) (fun d w1 => NewW (.loop { state := .ready, pending := none, fn, tmps := e.toArray, params := ps, assign := as, body := bd, defers := d })
      (fun l w2 => rangeCallW P fv l w2 (rangeEnd K (exitsOf bd) (hasRet bd) l E (d :: m))) w1) w
  | some l0 => ∃ r0 : Loop, w.heap[l0]? = some (.loop r0) ∧ ∀ (e : Env) (fn : FuncId), e.length = n → Rel Es e → NewW (.loop { state := .ready, pending := none, fn, tmps := e.toArray, params := ps, assign := as, body := bd, defers := r0.defers })
      (fun l w2 => rangeCallW P fv l w2 (rangeEnd K (exitsOf bd) (hasRet bd) l E m)) w

noncomputable def den (P : Program) (ro : Option Nat) (x : Cx) : Nat → Code → KE → EE → List Nat → World → Prop
  | _, .skip, K, e, m, w => K .normal e m w
  | _, .region _ ops false, K, e, m, w => denOps P ops (fun e' w' => K .normal e' m w') ops.toList [] e w
  | _, .region _ ops true, K, e, m, w => DrawW P ops (fun e' w' => K .normal e' m w') e w
  | p, .seq a b, K, e, m, w => match findCut x (2 * p + 1) with
    | none => den P ro x (2 * p) a (thenK (fun e m w => den P ro x (2 * p + 1) b K e m w) K) e m w
    | some l => ∃ Q : JT l x.mm, allJ l x.mm Q (fun e m w => den P ro x (2 * p + 1) b K e m w) ∧ den P ro x (2 * p) a (thenK (appJ l x.mm Q) K) e m w
  | p, .cond c t f, K, e, m, w => cond (knownX e c) (match evE e c with
    | .bool b => cond b (den P ro x (2 * p) t K e m w) (den P ro x (2 * p + 1) f K e m w)
    | _ => False) False
  | p, .block id c, K, e, m, w => den P ro x (2 * p) c (blockK id K) e m w
  | p, .loop c, K, e, m, w => match findCut x (2 * p) with
    | none => False
    | some l => ∃ I : Nat → JT l x.mm, (∃ n, appJ l x.mm (I n) e m w) ∧
        ∀ n, allJ l x.mm (I n) (fun e m w => den P ro x (2 * p) c (thenK (fun e m w => ∃ n', n' < n ∧ appJ l x.mm (I n') e m w) K) e m w)
  | p, .rangeFunc f ps as bd, K, e, m, w => cond (knownX e f) (RangeW P x.n ro (evE e f) ps as bd K (match findCut x (2 * p) with
      | none => e
      | some l => selE l e) e m w) False
  | _, .exit id, K, e, m, w => K (.exit id) e m w
  | _, .ret, K, e, m, w => K .ret e m w
  | _, .label _, K, e, m, w => K .normal e m w
  | p, .scope c, K, e, m, w => match ro with
    | none => den P ro x (2 * p) c (noGotoK K) e m w
    | some _ => False
  | _, _, _, _, _, _ => False

def cA : Code → Code
  | .seq a _ => a
  | .cond _ a _ => a
  | .block _ c => c
  | .loop c => c
  | .scope c => c
  | .rangeFunc _ _ a _ => a
  | c => c

def cB : Code → Code
  | .seq _ b => b
  | .cond _ _ b => b
  | .rangeFunc _ _ _ b => b
  | c => c

def marksOf (m : List Nat) : List Deferred := m.map fun r => { target := .collected r, args := #[] }

def Qof (n : Nat) (K : KE) : Exit → Act → World → Prop
  | .panic _, _, _ => False
  | .outgrown, _, _ => False
  | x, a, w => ∃ E e m, Rel E e ∧ e.length = n ∧ a = ⟨e.toArray, marksOf m⟩ ∧ K x E m w

theorem least {p : Nat → Prop} (h : ∃ n, p n) : ∃ n, p n ∧ ∀ k, p k → n ≤ k := by
  obtain ⟨n, hn⟩ := h
  induction n using Nat.strongRecOn with
  | _ n ih =>
    by_cases hk : ∃ k, k < n ∧ p k
    · obtain ⟨k, hk1, hk2⟩ := hk
      exact ih k hk1 hk2
    · exact ⟨n, hn, fun k hp => Nat.le_of_not_lt fun hlt => hk ⟨k, hlt, hp⟩⟩

/-- What is asked of a piece of code once: no select, no defer in a region that draws; no temporary at or beyond n is written. -/
def okOps (ops : Array Oper) : Bool := ops.all fun o => match o.op with | .select .. => false | .defer _ => false | _ => true

def okCode (n : Nat) : Code → Bool
  | .region _ ops true => okOps ops && ops.all (dstOk n)
  | .region _ ops false => ops.toList.all (dstOk n)
  | .seq a b => okCode n a && okCode n b
  | .cond _ a b => okCode n a && okCode n b
  | .block _ c => okCode n c
  | .loop c => okCode n c
  | .scope c => okCode n c
  | _ => true

theorem okOps_spec {ops : Array Oper} (h : okOps ops = true) (j : Nat) (o : Oper) (hj : ops[j]? = some o) : (∀ cs b, o.op ≠ .select cs b) ∧ ∀ c, o.op ≠ .defer c := by
  unfold okOps at h
  rw [Array.all_eq_true_iff_forall_mem] at h
  have := h o (Array.mem_of_getElem? hj)
  constructor
  · intro cs b hc; simp [hc] at this
  · intro c hc; simp [hc] at this

theorem rangeCall_run {n : Nat} {ro : Option Nat} {ps : Array Tmp} {g : Operand} {as bd : Code} {K : KE} {E : EE} {e : Env} {m m' : List Nat} {w w2 : World} {fn : FuncId} {l : Nat} (hP : Plain P)
    (hrel : Rel E e) (hn : e.length = n) (hg : knownX E g = true)
    (he : (Instr.enterLoop fn e.toArray ps as bd ro).run P w = .ok (l, marksOf m') w2)
    {ids : List Nat} {ret : Bool} (h : rangeCallW P (evE E g) l w2 (rangeEnd K ids ret l E (m' ++ m))) :
    ∃ (l : Nat) (mark : List Deferred) (w₁ : World) (d : Deferred) (w₁' : World) (f : FuncId) (args : Array Value) (w₂ : World),
      (Instr.enterLoop fn e.toArray ps as bd (FW ro).round).run P w = .ok (l, mark) w₁ ∧
      (resolve (⟨e.toArray, marksOf m⟩ : Act).eval (rangeCall g l) 0).run P w₁ = .ok d w₁' ∧
      (∀ f', Target.leads P w₁' d.target d.args = some f' → (FW ro).fn f') ∧
      (invoke d.target d.args).run P w₁' = .ok (.enter f args) w₂ ∧
      ((FW ro).depth.isSome = true → 1 ≤ 0) ∧
      CallsIn (FW ro) (0 - 1) P f args w₂ (rangePost (FW ro) 0 P l (Qof n K) { (⟨e.toArray, marksOf m⟩ : Act) with defers := mark ++ marksOf m }) := by
  rw [← hrel.ev hg] at h
  unfold rangeCallW at h
  split at h
  · rename_i f first captured hf
    split at h
    · rename_i hb
      refine ⟨l, marksOf m', w2, { target := .fn (.func f) captured, args := first ++ #[.func (.yield l) #[] #[]] }, w2, f, first ++ #[.func (.yield l) #[] #[]] ++ captured, w2, he, ?_, fun _ _ => trivial, ?_, ?_, ?_⟩
      · rw [eval_ev]
        simp only [resolve, rangeCall, hf, Deferred.ofValue, Sem.run_pure]
        simp [ev]
      · simp only [invoke, run_callFunc hP hb]
      · intro hh; exact absurd hh (by simp [FW, Fence.wide])
      · have hcs := (callsIn_wide (n := 0 - 1)).2 h
        refine CallsIn.mono (F := FW ro) hcs ?_
        rintro e' w' ⟨v, rfl, r, hl, hs, hj⟩
        refine ⟨r.pending, _, run_endLoop hl hs, ?_⟩
        have hm : marksOf m' ++ marksOf m = marksOf (m' ++ m) := by simp [marksOf]
        rw [hm]
        rcases jumpK_out hj with ⟨hp, hj⟩ | ⟨hp, hj⟩ | ⟨id, hp, hj⟩
        · rw [hp] at hj ⊢; exact ⟨E, e, m' ++ m, hrel, hn, rfl, hj⟩
        · rw [hp] at hj ⊢; exact wpIn_ret ⟨E, e, _, hrel, hn, rfl, hj⟩
        · rw [hp] at hj ⊢; exact wpIn_exit ⟨E, e, _, hrel, hn, rfl, hj⟩
    · exact h.elim
  · exact h.elim

theorem den_sound (hP : Plain P) (hm : P.follows .mixedOrders = true) (x : Cx) : ∀ (c : Code) (ro : Option Nat) (p : Nat) (K : KE) (E : EE) (e : Env) (m : List Nat) (w : World), okCode x.n c = true → e.length = x.n → Rel E e →
    den P ro x p c K E m w → c.wpIn (FW ro) 0 P (Qof x.n K) ⟨e.toArray, marksOf m⟩ w := by
  intro c
  induction c with
  | skip => intro ro p K E e m w _ hn hr h; unfold den at h; exact wpIn_skip ⟨E, e, m, hr, hn, rfl, h⟩
  | region id ops draw =>
    intro ro p K E e m w hok hn hr h
    cases draw with
    | false =>
      unfold den at h
      exact wpIn_region_list (denOps_sound hP (Q := Qof x.n K) (n := x.n) (fun E' e' w' hr' hn' hk => ⟨E', e', m, hr', hn', rfl, hk⟩) _ _ _ _ _ hok hn hr h)
    | true =>
      unfold den at h
      simp only [okCode, Bool.and_eq_true] at hok
      exact DrawW_sound hP hm (Q := Qof x.n K) (okOps_spec hok.1) (fun _ _ _ h => h) (fun E' e' w' hr' hn' hk => ⟨E', e', m, hr', hn', rfl, hk⟩) hok.2 hn hr h
  | seq a b iha ihb =>
    intro ro p K E e m w hok hn hr h
    simp only [okCode, Bool.and_eq_true] at hok
    unfold den at h
    have key : ∀ N : EE → List Nat → World → Prop, den P ro x (2 * p) a (thenK N K) E m w → (∀ E e m w, e.length = x.n → Rel E e → N E m w → b.wpIn (FW ro) 0 P (Qof x.n K) ⟨e.toArray, marksOf m⟩ w) →
        (Code.seq a b).wpIn (FW ro) 0 P (Qof x.n K) ⟨e.toArray, marksOf m⟩ w := by
      intro N h hN
      refine wpIn_seq (wpIn_mono (iha ro _ _ _ e m w hok.1 hn hr h) ?_)
      intro y a' w' hq
      cases y
      case normal => obtain ⟨E', e', m', hr', hn', rfl, hk⟩ := hq; exact hN _ _ _ _ hn' hr' hk
      case panic => exact hq.elim
      case outgrown => exact hq.elim
      all_goals exact hq
    split at h
    · exact key _ h fun E' e' m' w' hn' hr' hk => ihb ro _ K _ e' m' w' hok.2 hn' hr' hk
    · obtain ⟨Q, hall, h⟩ := h
      refine key _ h fun E' e' m' w' hn' hr' hk => ?_
      obtain ⟨E2, hE2, hd⟩ := allJ_app hall hk
      exact ihb ro _ K _ e' m' w' hok.2 hn' (hE2 _ hr') hd
  | cond c t f iht ihf =>
    intro ro p K E e m w hok hn hr h
    simp only [okCode, Bool.and_eq_true] at hok
    unfold den at h
    cases hk : knownX E c with
    | false => rw [hk] at h; exact h.elim
    | true =>
    rw [hk] at h
    simp only [cond_true] at h
    split at h
    · rename_i b hb
      refine wpIn_cond (t := b) (by rw [eval_ev, hr.ev hk]; exact hb) ?_
      cases b
      · exact ihf ro _ K _ e m w hok.2 hn hr h
      · exact iht ro _ K _ e m w hok.1 hn hr h
    · exact h.elim
  | block id c ih =>
    intro ro p K E e m w hok hn hr h
    unfold den at h
    refine wpIn_block (wpIn_mono (ih ro _ _ _ e m w hok hn hr h) ?_)
    intro y a' w' hq
    cases y
    case exit id' =>
      obtain ⟨E', e', m', hr', hn', rfl, hk⟩ := hq
      simp only [blockK] at hk
      simp only [Exit.inBlock]
      split at hk
      · rename_i hid; rw [if_pos hid]; exact ⟨E', e', m', hr', hn', rfl, hk⟩
      · rename_i hid; rw [if_neg hid]; exact ⟨E', e', m', hr', hn', rfl, hk⟩
    case panic => exact hq.elim
    case outgrown => exact hq.elim
    all_goals exact hq
  | loop c ih =>
    intro ro p K E e m w hok hn hr h
    unfold den at h
    split at h
    · exact h.elim
    · rename_i l hl
      obtain ⟨I, ⟨n0, h0⟩, hstep⟩ := h
      have hdec : ∀ (a : Act) (w : World), ∃ k : Nat, (∃ n' E e m, e.length = x.n ∧ Rel E e ∧ a = (⟨e.toArray, marksOf m⟩ : Act) ∧ appJ l x.mm (I n') E m w) →
          (∃ E e m, e.length = x.n ∧ Rel E e ∧ a = (⟨e.toArray, marksOf m⟩ : Act) ∧ appJ l x.mm (I k) E m w) ∧ ∀ n' E e m, e.length = x.n → Rel E e → a = (⟨e.toArray, marksOf m⟩ : Act) → appJ l x.mm (I n') E m w → k ≤ n' := by
        intro a w
        by_cases hx : ∃ n' E e m, e.length = x.n ∧ Rel E e ∧ a = (⟨e.toArray, marksOf m⟩ : Act) ∧ appJ l x.mm (I n') E m w
        · obtain ⟨k, hk1, hk2⟩ := least hx
          exact ⟨k, fun _ => ⟨hk1, fun n' E e m hl hr ha hi => hk2 n' ⟨E, e, m, hl, hr, ha, hi⟩⟩⟩
        · exact ⟨0, fun h => absurd h hx⟩
      refine wpIn_loop (fun a w => ∃ n' E e m, e.length = x.n ∧ Rel E e ∧ a = (⟨e.toArray, marksOf m⟩ : Act) ∧ appJ l x.mm (I n') E m w) (fun a w => Classical.choose (hdec a w)) ⟨n0, E, e, m, hn, hr, rfl, h0⟩ ?_
      intro a1 w1 hI1
      obtain ⟨⟨E1, e1, m1, hn1, hr1, rfl, hi1⟩, hmin⟩ := Classical.choose_spec (hdec a1 w1) hI1
      obtain ⟨E2, hE2, hd⟩ := allJ_app (hstep _) hi1
      refine wpIn_mono (ih ro _ _ _ e1 m1 w1 hok hn1 (hE2 _ hr1) hd) ?_
      intro y a' w' hq
      cases y
      case normal =>
        obtain ⟨E', e', m', hr', hn', rfl, n', hlt, hi'⟩ := hq
        refine ⟨⟨n', E', e', m', hn', hr', rfl, hi'⟩, ?_⟩
        have := (Classical.choose_spec (hdec ⟨e'.toArray, marksOf m'⟩ w') ⟨n', E', e', m', hn', hr', rfl, hi'⟩).2 n' E' e' m' hn' hr' rfl hi'
        exact Nat.lt_of_le_of_lt this hlt
      case panic => exact hq.elim
      case outgrown => exact hq.elim
      all_goals exact hq
  | rangeFunc g ps as bd iha ihb =>
    intro ro p K E e m w hok hn hr h
    unfold den at h
    cases hg : knownX E g with
    | false => rw [hg] at h; exact h.elim
    | true =>
    rw [hg] at h
    simp only [cond_true] at h
    have hsel : Rel (match findCut x (2 * p) with
      | none => E
      | some l => selE l E) e := by
      split
      · exact hr
      · exact selE_rel hr _
    refine wpIn_rangeFunc (fun fn _ => ?_)
    cases ro with
    | none =>
      have h := h e fn hn hsel
      exact rangeCall_run (m' := [w.heap.size]) hP hr hn hg (run_enterLoop_outer fn _ _ _ _) (by simpa [NewW] using h)
    | some l0 =>
      obtain ⟨r0, hl0, h⟩ := h
      have h := h e fn hn hsel
      exact rangeCall_run (m' := []) hP hr hn hg (run_enterLoop_inner hl0 fn _ _ _ _) h
  | exit id => intro ro p K E e m w _ hn hr h; unfold den at h; exact wpIn_exit ⟨E, e, m, hr, hn, rfl, h⟩
  | ret => intro ro p K E e m w _ hn hr h; unfold den at h; exact wpIn_ret ⟨E, e, m, hr, hn, rfl, h⟩
  | scope c ih =>
    intro ro p K E e m w hok hn hr h
    unfold den at h
    cases ro with
    | some l => exact h.elim
    | none =>
      have h1 := ih none _ _ _ e m w hok hn hr h
      refine (wpIn_wide (n := 0)).2 (wp_scope_straight ((wpIn_wide (n := 0)).1 (wpIn_mono (F := Fence.wide) h1 ?_)))
      intro y a' w' hq
      cases y
      case goto => obtain ⟨E', e', m', hr', hn', rfl, hk⟩ := hq; exact hk.elim
      case panic => exact hq.elim
      case outgrown => exact hq.elim
      all_goals exact hq
  | label l => intro ro p K E e m w _ hn hr h; unfold den at h; exact wpIn_label ⟨E, e, m, hr, hn, rfl, h⟩
  | goto l => intro ro p K E e m w _ _ _ h; unfold den at h; exact h.elim
  | refuse s => intro ro p K E e m w _ _ _ h; unfold den at h; exact h.elim

/-! ### A function -/

def finishW (k : World → Prop) : List Nat → World → Prop
  | [], w => k w
  | r :: rs, w => w.heap[r]? = some (.deferred (some [])) ∧ finishW k rs (w.putObj r (.deferred none))

noncomputable def resW (P : Program) (e : EE) (w : World) : List ResultVar → (List Value → Prop) → Prop
  | [], K => K []
  | .tmp t :: rs, K => cond (knownT e t) (resW P e w rs (fun vs => K (getE e t :: vs))) False
  | .cell a t :: rs, K => cond (knownT e a) (loadW P t (getE e a) (fun v => resW P e w rs (fun vs => K (v :: vs))) w) False

def packV : List Value → Value
  | [v] => v
  | vs => .tuple vs.toArray

noncomputable def retK (P : Program) (rs : List ResultVar) (R : Value → World → Prop) : KE
  | .normal, e, m, w => finishW (fun w' => resW P e w' rs (fun vs => R (packV vs) w')) m w
  | .ret, e, m, w => finishW (fun w' => resW P e w' rs (fun vs => R (packV vs) w')) m w
  | _, _, _, _ => False

def resOne (tmps : Array Value) : ResultVar → Sem Value
  | .tmp t => pure (tmps.getD t undef)
  | .cell a t => do loadVar t (← asAddr (tmps.getD a undef))

theorem results_eq (fn : Func) (tmps : Array Value) : results fn tmps = (do let vs ← fn.results.mapM (resOne tmps); pure (if h : vs.size = 1 then vs[0] else .tuple vs)) := rfl

theorem resW_run {E : EE} {e : Env} {w : World} (hr : Rel E e) : ∀ (rs : List ResultVar) (K : List Value → Prop), resW P E w rs K → ∃ vs, K vs ∧
    (rs.mapM (resOne e.toArray)).run P w = .ok vs w
  | [], K, h => ⟨[], h, by simp⟩
  | .tmp t :: rs, K, h => by
    unfold resW at h
    cases hk : knownT E t with
    | false => rw [hk] at h; exact h.elim
    | true =>
    rw [hk] at h
    obtain ⟨vs, h1, h2⟩ := resW_run hr rs _ h
    refine ⟨_, h1, ?_⟩
    have hg := hr.get hk
    simp only [List.mapM_cons, resOne, Sem.run_bind, Sem.run_pure, Result.andThen, h2, ← hg]
    simp
  | .cell a t :: rs, K, h => by
    unfold resW at h
    cases hk : knownT E a with
    | false => rw [hk] at h; exact h.elim
    | true =>
    rw [hk] at h
    obtain ⟨v, h1, h2⟩ := loadW_run (P := P) h
    obtain ⟨vs, h3, h4⟩ := resW_run hr rs _ h1
    refine ⟨_, h3, ?_⟩
    have hv : (do loadVar t (← asAddr (e.toArray.getD a undef)) : Sem Value).run P w = .ok v w := by
      have hg : e.toArray.getD a undef = getE E a := by rw [← hr.get hk]; simp
      rw [hg]
      revert h2
      generalize getE E a = x
      intro h2
      cases x <;> simp [Instr.loadAt, Instr.sureAddr, stuck, Sem.run_bind, Result.andThen] at h2
      rename_i p
      cases p with
      | none => simp [Sem.run_bind, Result.andThen, Sem.run] at h2
      | some p => simp only [Sem.run_pure] at h2; simp [asAddr, Sem.run_bind, Result.andThen, h2]
    simp only [List.mapM_cons, resOne]
    rw [Sem.run_bind, hv]
    simp only [Sem.run_bind, Sem.run_pure, Result.andThen, h4]

theorem finishW_leaves {fn : Func} {E : EE} {e : Env} {R : Value → World → Prop} (hr : Rel E e) : ∀ (m : List Nat) (w : World), finishW (fun w' => resW P E w' fn.results.toList (fun vs => R (packV vs) w')) m w →
    LeavesInM Fence.wide 0 P fn e.toArray (fun en w' => ∃ v, en = .returned v ∧ R v w') (marksOf m) .returning w
  | [], w, h => by
    obtain ⟨vs, h1, h2⟩ := resW_run (P := P) hr _ _ h
    refine ⟨packV vs, ?_, _, rfl, h1⟩
    have hrun : (fn.results.mapM (resOne e.toArray)).run P w = .ok vs.toArray w := by
      rw [Array.mapM_eq_mapM_toList]
      simp only [map_eq_pure_bind, Sem.run_bind, h2, Result.andThen]
      simp
    rw [results_eq]
    simp only [Sem.run_bind, hrun, Result.andThen, Sem.run_pure]
    congr 1
    cases vs with
    | nil => simp [packV]
    | cons v vs =>
      cases vs with
      | nil => simp [packV]
      | cons u us => simp [packV]
  | r :: rs, w, h => by
    obtain ⟨h1, h2⟩ := h
    exact ⟨by simp, .inl ⟨r, _, rfl, run_takeDeferred h1, finishW_leaves hr rs _ h2⟩⟩

noncomputable def argsE : List Value → Nat → EE
  | [], _ => []
  | v :: vs, i => (i, v) :: argsE vs (i + 1)

theorem argsE_rel {e : Env} : ∀ (vs : List Value) (i : Nat), (∀ j, j < vs.length → e[i + j]? = vs[j]?) → Rel (argsE vs i) e
  | [], i, _ => Rel.nil e
  | v :: vs, i, h => by
    refine (argsE_rel vs (i + 1) fun j hj => ?_).cons ?_
    · rw [show i + 1 + j = i + (j + 1) by omega, h (j + 1) (by simpa using hj)]; simp
    · have := h 0 (by simp)
      simp only [Nat.add_zero] at this
      simp [this]

/-- A function's contract out of its body's denotation. -/
theorem call_of_den (hP : Plain P) (hm : P.follows .mixedOrders = true) {f : FuncId} {fn : Func} {c : Code} {args : List Value} {w : World} {R : Value → World → Prop} {x : Cx}
    (hf : P.funcs[f]? = some fn) (hb : fn.body = some c) (hn : fn.ntmps = x.n) (hok : okCode x.n c = true) (hl : Nat.ble args.length x.n = true)
    (h : den P none x 1 c (retK P fn.results.toList R) (argsE args 0) [] w) : CallV P f args.toArray w R := by
  have hl := Nat.le_of_ble_eq_true hl
  refine (callsIn_wide (n := 0)).1 (callsIn_of_wp_marks hf hb trivial ?_)
  have h1 := den_sound hP hm x c none 1 _ _ (args ++ List.replicate (fn.ntmps - args.length) undef) _ _ hok (by simp; omega) (argsE_rel args 0 fun j hj => by rw [Nat.zero_add, List.getElem?_append_left hj]) h
  have he : (args ++ List.replicate (fn.ntmps - args.length) undef).toArray = args.toArray ++ Array.replicate (fn.ntmps - args.toArray.size) undef := by simp
  rw [he] at h1
  refine wpIn_mono h1 ?_
  intro y a' w' hq
  cases y
  case normal => obtain ⟨E', e', m', hr, hn, rfl, hk⟩ := hq; exact finishW_leaves hr _ _ hk
  case ret => obtain ⟨E', e', m', hr, hn, rfl, hk⟩ := hq; exact finishW_leaves hr _ _ hk
  case panic => exact hq.elim
  case outgrown => exact hq.elim
  all_goals (obtain ⟨E', e', m', hr, hn, rfl, hk⟩ := hq; exact hk.elim)

/-! ### A round of a loop over a function -/

def roundK (l : Nat) (R : Value → World → Prop) : KE
  | .normal, _, _, w => ∃ r : Loop, w.heap[l]? = some (.loop r) ∧ R (.bool true) (w.putObj l (.loop { r with state := .ready, pending := none }))
  | .ret, _, _, w => ∃ r : Loop, w.heap[l]? = some (.loop r) ∧ R (.bool false) (w.putObj l (.loop { r with state := .done, pending := some .ret }))
  | .exit id, _, _, w => ∃ r : Loop, w.heap[l]? = some (.loop r) ∧ R (.bool false) (w.putObj l (.loop { r with state := .done, pending := some (.exit id) }))
  | _, _, _, _ => False

def assignK (l : Nat) (bd : KE → EE → List Nat → World → Prop) (R : Value → World → Prop) : KE
  | .normal, e, m, w => ∃ r : Loop, w.heap[l]? = some (.loop r) ∧ r.state = .ready ∧ bd (roundK l R) e m (w.putObj l (.loop { r with state := .busy }))
  | _, _, _, _ => False

/-- The parameters of a round are written. -/
noncomputable def parE : List Tmp → List Value → EE → EE
  | t :: ts, v :: vs, E => parE ts vs ((t, v) :: E)
  | _, _, E => E

theorem parE_rel {n : Nat} : ∀ (ts : List Tmp) (vs : List Value) (E : EE) (e : Env), ts.all (fun t => Nat.blt t n) = true → e.length = n → Rel E e →
    ∃ e', (ts.zip vs).foldl (fun tmps (p : Tmp × Value) => tmps.setIfInBounds p.1 p.2) e.toArray = e'.toArray ∧ e'.length = n ∧ Rel (parE ts vs E) e'
  | [], vs, E, e, _, hn, hr => ⟨e, by simp, hn, by cases vs <;> exact hr⟩
  | t :: ts, [], E, e, _, hn, hr => ⟨e, by simp, hn, hr⟩
  | t :: ts, v :: vs, E, e, ht, hn, hr => by
    simp only [List.all_cons, Bool.and_eq_true] at ht
    have ht1 : t < n := by simpa using ht.1
    obtain ⟨e', h1, h2, h3⟩ := parE_rel ts vs ((t, v) :: E) (e.set t v) ht.2 (by simpa using hn) (hr.put (d := some t) (fun t' h => by cases h; rw [hn]; exact ht1) v)
    refine ⟨e', ?_, h2, h3⟩
    rw [← h1]
    simp

theorem yield_of_den (hP : Plain P) (hm : P.follows .mixedOrders = true) {x : Cx} {l : Nat} {r : Loop} {args : Array Value} {w : World} {R : Value → World → Prop} {p p2 : Nat} {E : EE} {e : Env}
    (hl : w.heap[l]? = some (.loop r)) (hs : args.size = r.params.size) (ht : r.tmps = e.toArray) (hn : e.length = x.n) (hr : Rel E e) (hps : r.params.toList.all (fun t => Nat.blt t x.n) = true)
    (hok : okCode x.n r.assign = true) (hok2 : okCode x.n r.body = true)
    (h : den P (some l) x p r.assign (assignK l (den P (some l) x p2 r.body) R) (parE r.params.toList args.toList E) [] w) : YieldV P l args w R := by
  refine ⟨r, hl, hs, ?_⟩
  obtain ⟨e1, he1, hn1, hr1⟩ := parE_rel r.params.toList args.toList E e hps hn hr
  have he : (r.params.zip args).foldl (fun tmps (t, a) => tmps.setIfInBounds t a) r.tmps = e1.toArray := by
    rw [← he1, ht, ← Array.foldl_toList, Array.toList_zip]
  rw [he]
  refine roundIn_of_wpIn trivial ?_
  have h1 := den_sound hP hm x r.assign (some l) p _ _ e1 [] w hok hn1 hr1 h
  refine wpIn_mono (F := FW (some l)) h1 ?_
  intro y a' w' hq
  cases y
  case normal =>
    obtain ⟨E', e', m', hr, hn, rfl, r', hl', hst, hd⟩ := hq
    refine ⟨_, run_beginRound hl' hst, ?_⟩
    have h2 := den_sound hP hm x r.body (some l) p2 _ _ e' m' _ hok2 hn hr hd
    refine wpIn_mono (F := FW (some l)) h2 ?_
    intro y a'' w'' hq
    cases y
    case normal => obtain ⟨E2, e2, m2, hr2, hn2, rfl, r2, hl2, hR⟩ := hq; exact ⟨_, _, run_endRound none hl2, _, rfl, hR⟩
    case ret => obtain ⟨E2, e2, m2, hr2, hn2, rfl, r2, hl2, hR⟩ := hq; exact ⟨_, _, run_endRound (some .ret) hl2, _, rfl, hR⟩
    case exit id => obtain ⟨E2, e2, m2, hr2, hn2, rfl, r2, hl2, hR⟩ := hq; exact ⟨_, _, run_endRound (some (.exit id)) hl2, _, rfl, hR⟩
    case panic => exact hq.elim
    case outgrown => exact hq.elim
    all_goals (obtain ⟨E2, e2, m2, hr2, hn2, rfl, hk⟩ := hq; exact hk.elim)
  case panic => exact hq.elim
  case outgrown => exact hq.elim
  all_goals (obtain ⟨E', e', m', hr, hn, rfl, hk⟩ := hq; exact hk.elim)

end Go.Eng
