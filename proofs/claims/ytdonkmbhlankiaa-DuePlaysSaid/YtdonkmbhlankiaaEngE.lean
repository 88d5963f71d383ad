/-
  The engine, part E: regions, in the order of the text, and in whatever order.
-/
import Derived.Test.YtdonkmbhlankiaaEngD
import Derived.OrdersIn
namespace Go.Eng
open Go

variable {P : Program}

def slotOf (ops : Array Oper) (j : Nat) : Option Tmp := (ops[j]?).bind (·.dst)

/-- One operation, its guard resolved or asked. -/
noncomputable def denOps (P : Program) (ops : Array Oper) (K : EE → World → Prop) : List Oper → List Nat → EE → World → Prop
  | [], _, e, w => K e w
  | o :: rest, res, e, w =>
    match o.guard with
    | none => opE P o e (fun v w' => denOps P ops K rest res (putD e o.dst v) w') w
    | some (j, want) =>
      match slotOf ops j with
      | none => denOps P ops K rest res (putD e o.dst undef) w
      | some s => cond (knownT e s)
        (match getE e s with
        | .bool b =>
          if res.contains j = true then
            cond (b == want) (opE P o e (fun v w' => denOps P ops K rest res (putD e o.dst v) w') w) (denOps P ops K rest res (putD e o.dst undef) w)
          else
            cond b
              (cond want (opE P o (putD e (some s) (.bool true)) (fun v w' => denOps P ops K rest (j :: res) (putD (putD e (some s) (.bool true)) o.dst v) w') w)
                (denOps P ops K rest (j :: res) (putD (putD e (some s) (.bool true)) o.dst undef) w))
              (cond want (denOps P ops K rest (j :: res) (putD (putD e (some s) (.bool false)) o.dst undef) w)
                (opE P o (putD e (some s) (.bool false)) (fun v w' => denOps P ops K rest (j :: res) (putD (putD e (some s) (.bool false)) o.dst v) w') w))
        | _ => denOps P ops K rest res (putD e o.dst undef) w) False

def bOf : Value → Option Bool
  | .bool b => some b
  | _ => none

theorem yielded_ev {ops : Array Oper} {e : Env} {j : Nat} : yielded ops e.toArray j = (slotOf ops j).bind (fun s => bOf (e.getD s undef)) := by
  unfold yielded slotOf
  cases h : (ops[j]?).bind (·.dst) with
  | none => rfl
  | some s =>
    simp only [Option.bind_some, List.getElem?_toArray, List.getD_eq_getElem?_getD]
    cases e[s]? with
    | none => rfl
    | some v => cases v <;> rfl

/-- To write a temporary once more what it holds turns nothing. -/
theorem Rel.again {E : EE} {e : Env} (h : Rel E e) {s : Nat} {v : Value} (hk : knownT E s = true) (hv : getE E s = v) : Rel (putD E (some s) v) e :=
  h.cons (by rw [h.get hk, hv])

def dstOk (n : Nat) (o : Oper) : Bool :=
  match o.dst with
  | some d => Nat.blt d n
  | none => true

theorem dstOk_spec {n : Nat} {o : Oper} (h : dstOk n o = true) : ∀ t, o.dst = some t → t < n := by
  intro t ht
  simp only [dstOk, ht] at h
  simpa using h

theorem putE_length (e : Env) (d : Option Tmp) (v : Value) : (putE e d v).length = e.length := by cases d <;> simp [putE]

theorem denOps_sound (hP : Plain P) {ro : Option Nat} {ops : Array Oper} {K : EE → World → Prop} {ds : List Deferred} {Q : Exit → Act → World → Prop} {n : Nat}
    (hK : ∀ E e w, Rel E e → e.length = n → K E w → Q .normal ⟨e.toArray, ds⟩ w) : ∀ (l : List Oper) (res : List Nat) (E : EE) (e : Env) (w : World), (l.all (dstOk n)) = true → e.length = n → Rel E e → denOps P ops K l res E w →
    wpListIn (FW ro) 0 P ops Q l ⟨e.toArray, ds⟩ w
  | [], res, E, e, w, _, hn, hr, h => hK _ _ _ hr hn h
  | o :: rest, res, E, e, w, hd, hn, hr, h => by
    simp only [List.all_cons, Bool.and_eq_true] at hd
    have hdo : ∀ t, o.dst = some t → t < e.length := by rw [hn]; exact dstOk_spec hd.1
    have go : ∀ res' E', Rel E' e → opE P o E' (fun v w' => denOps P ops K rest res' (putD E' o.dst v) w') w → Oper.wpIn (FW ro) 0 P o ⟨e.toArray, ds⟩ w (wpListIn (FW ro) 0 P ops Q rest) Q :=
      fun res' E' hr' h => opE_sound hP hr' h (fun v w' hk => denOps_sound hP hK rest res' _ _ _ hd.2 (by rw [putE_length]; exact hn) (hr'.put hdo v) hk)
    have sk : ∀ res' E', Rel E' e → denOps P ops K rest res' (putD E' o.dst undef) w → (∀ f, o.about P w (⟨e.toArray, ds⟩ : Act).eval = some f → (FW ro).fn f) ∧ wpListIn (FW ro) 0 P ops Q rest ((⟨e.toArray, ds⟩ : Act).put o.dst undef) w :=
      fun res' E' hr' h => ⟨fun _ _ => trivial, by rw [put_putE]; exact denOps_sound hP hK rest res' _ _ _ hd.2 (by rw [putE_length]; exact hn) (hr'.put hdo undef) h⟩
    unfold wpListIn
    unfold denOps at h
    cases hg : o.guard with
    | none =>
      simp only [hg] at h
      rw [if_pos (by simp [Region.wanted, hg])]
      exact go _ _ hr h
    | some g =>
      obtain ⟨j, want⟩ := g
      simp only [hg] at h
      have hw : Region.wanted o (yielded ops e.toArray) = (yielded ops e.toArray j == some want) := by simp [Region.wanted, hg]
      show if Region.wanted o (yielded ops e.toArray) = true then _ else _
      have no : yielded ops e.toArray j = none → ∀ res' E', Rel E' e → denOps P ops K rest res' (putD E' o.dst undef) w →
          if Region.wanted o (yielded ops e.toArray) = true then Oper.wpIn (FW ro) 0 P o ⟨e.toArray, ds⟩ w (wpListIn (FW ro) 0 P ops Q rest) Q
          else (∀ f, o.about P w (⟨e.toArray, ds⟩ : Act).eval = some f → (FW ro).fn f) ∧ wpListIn (FW ro) 0 P ops Q rest ((⟨e.toArray, ds⟩ : Act).put o.dst undef) w := by
        intro hy res' E' hr' h
        rw [if_neg (by rw [hw, hy]; simp)]
        exact sk _ _ hr' h
      have ys : ∀ b, yielded ops e.toArray j = some b → ∀ res' E', Rel E' e → (if want = b then opE P o E' (fun v w' => denOps P ops K rest res' (putD E' o.dst v) w') w else denOps P ops K rest res' (putD E' o.dst undef) w) →
          if Region.wanted o (yielded ops e.toArray) = true then Oper.wpIn (FW ro) 0 P o ⟨e.toArray, ds⟩ w (wpListIn (FW ro) 0 P ops Q rest) Q
          else (∀ f, o.about P w (⟨e.toArray, ds⟩ : Act).eval = some f → (FW ro).fn f) ∧ wpListIn (FW ro) 0 P ops Q rest ((⟨e.toArray, ds⟩ : Act).put o.dst undef) w := by
        intro b hy res' E' hr' h
        by_cases hb : want = b
        · rw [if_pos hb] at h
          rw [if_pos (by rw [hw, hy, hb]; simp)]
          exact go _ _ hr' h
        · rw [if_neg hb] at h
          rw [if_neg (by rw [hw, hy]; simpa using Ne.symm hb)]
          exact sk _ _ hr' h
      have hy := yielded_ev (ops := ops) (e := e) (j := j)
      cases hs : slotOf ops j with
      | none => simp only [hs] at h hy; exact no hy _ _ hr h
      | some s =>
        simp only [hs, Option.bind_some] at h hy
        cases hk : knownT E s with
        | false => rw [hk] at h; exact h.elim
        | true =>
        rw [hk] at h
        simp only [cond_true] at h
        rw [hr.get hk] at hy
        cases hv : getE E s
        case bool b =>
          simp only [hv] at h hy
          simp only [bOf] at h hy
          have ha := hr.again hk hv
          split at h
          · cases b <;> cases want <;> exact ys _ hy _ _ hr (by simpa using h)
          · cases b <;> cases want <;> exact ys _ hy _ _ ha (by simpa using h)
        all_goals (simp only [hv] at h hy; simp only [bOf] at h hy; exact no hy _ _ hr h)

/-! ### A region that draws its order -/

def mayRead : Op → Bool
  | .load .. => true
  | .lookup .. => true
  | .entry .. => true
  | .binOp .. => true
  | .index .. => true
  | .slice .. => true
  | .call { callee := .builtin .len, .. } => true
  | .call { callee := .builtin .cap, .. } => true
  | _ => false

def intV : Value → Bool
  | .int _ _ => true
  | _ => false

def pureAt (P : Program) (o : Oper) (ρ : Operand → Value) : Bool :=
  match o.op with
  | .move _ => true
  | .assign _ => true
  | .pick .. => true
  | .build .. => true
  | .nilCheck _ => true
  | .unOp .. => true
  | .makeFunc .. => true
  | .fieldAddr .. => true
  | .field .. => true
  | .indexAddr .. => true
  | .extract .. => true
  | .binOp _ _ x y _ => intV (ρ x) && intV (ρ y)
  | .convert s d x => match P.underlying s, P.underlying d, ρ x with
    | some (.int _), some (.int _), .int _ _ => true
    | _, _, _ => false
  | .slice t x _ _ _ => match elemT P t, ρ x with
    | some (none, _), .slice _ _ _ => true
    | _, _ => false
  | .call { callee := .builtin .min, .. } => true
  | .call { callee := .builtin .max, .. } => true
  | _ => false

/-- j comes behind i, over at most so many edges. -/
def anc (ops : Array Oper) : Nat → Nat → Nat → Bool
  | 0, _, _ => false
  | f + 1, j, i => match ops[j]? with
    | some oj => oj.after.toList.any fun e => Region.binds .any e && (e.on == i || anc ops f e.on i)
    | none => false

/-- The ops that come ahead of one, as bits, out of those of the ones ahead. -/
def upM (acc : List Nat) (o : Oper) : Nat := o.after.toList.foldl (fun m e => cond (Region.binds .any e) (m ||| 2 ^ e.on ||| acc.getD e.on 0) m) 0

def ancs : List Oper → List Nat → List Nat
  | [], acc => acc
  | o :: l, acc => ancs l (acc ++ [upM acc o])

/-- j comes behind i, over few edges, or over any. -/
def ancB (ops : Array Oper) (j i : Nat) : Bool := anc ops 4 j i || ((ancs ops.toList []).getD j 0).testBit i

theorem upM_spec {ops : Array Oper} {acc : List Nat} (hacc : ∀ j i, (acc.getD j 0).testBit i = true → ∃ f, anc ops f j i = true) {j : Nat} {o : Oper} (ho : ops[j]? = some o) (i : Nat) (h : (upM acc o).testBit i = true) : ∃ f, anc ops f j i = true := by
  have key : ∀ (l : List Edge) (m : Nat), (∀ e ∈ l, e ∈ o.after.toList) → (m.testBit i = true → ∃ f, anc ops f j i = true) → (l.foldl (fun m e => cond (Region.binds .any e) (m ||| 2 ^ e.on ||| acc.getD e.on 0) m) m).testBit i = true → ∃ f, anc ops f j i = true := by
    intro l
    induction l with
    | nil => intro m _ hm h; exact hm h
    | cons e l ih =>
      intro m hl hm h
      refine ih _ (fun e' he' => hl e' (List.mem_cons_of_mem _ he')) (fun h2 => ?_) h
      dsimp only at h2
      cases hb : Region.binds .any e with
      | false => rw [hb] at h2; exact hm h2
      | true =>
        rw [hb] at h2
        simp only [cond_true, Nat.testBit_or, Bool.or_eq_true] at h2
        have he : e ∈ o.after.toList := hl e (List.mem_cons_self ..)
        rcases h2 with (h2 | h2) | h2
        · exact hm h2
        · rw [Nat.testBit_two_pow] at h2
          refine ⟨1, ?_⟩
          simp only [anc, ho, List.any_eq_true]
          exact ⟨e, he, by simpa [hb] using h2⟩
        · obtain ⟨f, hf⟩ := hacc _ _ h2
          refine ⟨f + 1, ?_⟩
          simp only [anc, ho, List.any_eq_true]
          exact ⟨e, he, by simp [hb, hf]⟩
  exact key _ 0 (fun _ h => h) (by simp) h

theorem ancs_spec {ops : Array Oper} : ∀ (l pre : List Oper) (acc : List Nat), pre ++ l = ops.toList → acc.length = pre.length → (∀ j i, (acc.getD j 0).testBit i = true → ∃ f, anc ops f j i = true) →
    ∀ j i, ((ancs l acc).getD j 0).testBit i = true → ∃ f, anc ops f j i = true
  | [], pre, acc, _, _, ha, j, i, h => ha j i h
  | o :: l, pre, acc, hp, hl, ha, j, i, h => by
    refine ancs_spec l (pre ++ [o]) (acc ++ [upM acc o]) (by simpa using hp) (by simp [hl]) (fun j i h => ?_) j i h
    rcases Nat.lt_trichotomy j acc.length with hj | hj | hj
    · refine ha j i ?_
      simpa [List.getD, List.getElem?_append_left hj] using h
    · subst hj
      have ho : ops[acc.length]? = some o := by
        rw [← Array.getElem?_toList, ← hp, hl]
        simp
      refine upM_spec ha ho i ?_
      simpa [List.getD] using h
    · rw [List.getD, List.getElem?_eq_none (by simp; omega)] at h
      simp at h

theorem ancB_anc {ops : Array Oper} {j i : Nat} (h : ∀ f, anc ops f j i = false) : ancB ops j i = false := by
  unfold ancB
  rw [h 4, Bool.false_or, Bool.eq_false_iff]
  intro hc
  obtain ⟨f, hf⟩ := ancs_spec (ops := ops) ops.toList [] [] rfl rfl (by simp) j i hc
  rw [h f] at hf
  cases hf

/-- An operation that turns no world. -/
def quietOp (P : Program) (o : Oper) : Bool :=
  match o.op with
  | .move _ => true
  | .assign _ => true
  | .pick .. => true
  | .build .. => true
  | .nilCheck _ => true
  | .unOp .. => true
  | .makeFunc .. => true
  | .fieldAddr .. => true
  | .field .. => true
  | .indexAddr .. => true
  | .extract .. => true
  | .convert s d _ => match P.underlying s, P.underlying d with
    | some (.int _), some (.int _) => true
    | _, _ => false
  | .call { callee := .builtin .min, .. } => true
  | .call { callee := .builtin .max, .. } => true
  | _ => mayRead o.op

/-- Whatever may come ahead of i turns no world. -/
def calm (P : Program) (ops : Array Oper) (i : Nat) : Bool :=
  (List.range ops.size).all fun j => match ops[j]? with
    | some oj => quietOp P oj || ancB ops j i
    | none => true

/-- So it is where some have been done. -/
def calmL (P : Program) (ops : Array Oper) (listed : Array Bool) (i : Nat) : Bool :=
  (List.range ops.size).all fun j => match ops[j]? with
    | some oj => quietOp P oj || ancB ops j i || listed.getD j false
    | none => true

theorem calm_L {P : Program} {ops : Array Oper} {listed : Array Bool} {i : Nat} (h : calm P ops i = true) : calmL P ops listed i = true := by
  unfold calm at h
  unfold calmL
  rw [List.all_eq_true] at h ⊢
  intro j hj
  have := h j hj
  revert this
  cases ops[j]? with
  | none => intro _; rfl
  | some oj => intro this; simp only [this, Bool.true_or]

/-- An operation that reads, but for one on numbers. -/
def readsN (P : Program) (o : Oper) : Bool := mayRead o.op && !(match o.op with
  | .binOp _ t _ _ _ => (match P.underlying t with | some (.int _) => true | _ => false)
  | _ => false)

def needS (P : Program) (ops : Array Oper) (j : Nat) : Bool :=
  (List.range ops.size).any fun i => match ops[i]? with
    | some oi => readsN P oi && !(calm P ops i) && !(ancB ops j i)
    | none => false

/-- Some operation reads what others may turn. -/
def restless (P : Program) (ops : Array Oper) : Bool :=
  (List.range ops.size).any fun i => match ops[i]? with
    | some oi => readsN P oi && !(calm P ops i)
    | none => false

def isLoad : Op → Bool
  | .load .. => true
  | _ => false

/-- What may be done with an operation that may come up: 0 taken (no world), 1 taken (it reads), 2 passed over, 3 its guard is asked, 4 it acts, 5 nothing. -/
noncomputable def clsOf (P : Program) (ops : Array Oper) (res : List Nat) (e : EE) (o : Oper) : Nat :=
  let base : Nat := if pureAt P o (evE e) = true then 0 else if mayRead o.op = true then 1 else 4
  match o.guard with
  | none => base
  | some (j, want) =>
    match slotOf ops j with
    | none => 2
    | some s => cond (knownT e s)
      (match getE e s with
      | .bool b => if res.contains j = true then cond (b == want) base 2 else 3
      | _ => 2) 5

noncomputable def findTake (P : Program) (ops : Array Oper) (res : List Nat) (e : EE) : List Nat → Option Nat
  | [] => none
  | i :: is => match ops[i]? with
    | some o => if (clsOf P ops res e o == 4) = true then findTake P ops res e is else some i
    | none => findTake P ops res e is

def effAll (step : Nat → Prop) : List Nat → Prop
  | [] => True
  | [i] => step i
  | i :: j :: is => step i ∧ effAll step (j :: is)

theorem effAll_mem {step : Nat → Prop} : ∀ {l : List Nat}, effAll step l → ∀ i ∈ l, step i
  | [], _, i, hi => by simp at hi
  | [a], h, i, hi => by
    obtain rfl : i = a := by simpa using hi
    exact h
  | a :: b :: l, h, i, hi => by
    rcases List.mem_cons.1 hi with rfl | hi
    · exact h.1
    · exact effAll_mem h.2 i hi

noncomputable def drawGo (P : Program) (ops : Array Oper) (S : World → Prop) (K : EE → World → Prop) : Nat → Nat → Bool → Array Bool → List Nat → EE → World → Prop
  | 0, _, _, listed, _, e, w => if (Region.ready .any ops listed).isEmpty = true then K e w else False
  | fuel + 1, m, ok, listed, res, e, w =>
    match Region.ready .any ops listed with
    | [] => K e w
    | r :: rs =>
      match m with
      | 0 => False
      | m' + 1 =>
        match findTake P ops res e (r :: rs) with
        | some i => match ops[i]? with
          | none => False
          | some o =>
            match clsOf P ops res e o with
            | 0 => if Region.free .any ops listed i = true then opE P o e (fun v _ => drawGo P ops S K fuel m' ok (listed.setIfInBounds i true) res (putD e o.dst v) w) w else False
            | 1 => if Region.free .any ops listed i = true then
                cond (calmL P ops listed i)
                  (cond (isLoad o.op) (opE P o e (fun v _ => drawGo P ops S K fuel m' ok (listed.setIfInBounds i true) res (putD e o.dst v) w) w)
                    (opE P o e (fun v w' => w' = w ∧ drawGo P ops S K fuel m' ok (listed.setIfInBounds i true) res (putD e o.dst v) w) w))
                  (cond ok (cond (readsN P o) (opE P o e (fun v _ => (∀ w2, S w2 → opE P o e (fun v' w3 => v' = v ∧ w3 = w2) w2) ∧ drawGo P ops S K fuel m' ok (listed.setIfInBounds i true) res (putD e o.dst v) w) w) False) False) else False
            | 2 => if Region.free .any ops listed i = true then drawGo P ops S K fuel m' ok (listed.setIfInBounds i true) res (putD e o.dst undef) w else False
            | 3 => match o.guard with
              | none => False
              | some (j, _) => match slotOf ops j with
                | none => False
                | some s => cond (knownT e s) (match getE e s with
                  | .bool b => cond b (drawGo P ops S K fuel (m' + 1) ok listed (j :: res) (putD e (some s) (.bool true)) w) (drawGo P ops S K fuel (m' + 1) ok listed (j :: res) (putD e (some s) (.bool false)) w)
                  | _ => False) False
            | _ => False
        | none => effAll (fun i => match ops[i]? with
            | none => False
            | some o => cond (quietOp P o) False (cond (needS P ops i)
                (opE P o e (fun v w' => S w' ∧ drawGo P ops S K fuel m' true (listed.setIfInBounds i true) res (putD e o.dst v) w') w)
                (opE P o e (fun v w' => drawGo P ops S K fuel m' false (listed.setIfInBounds i true) res (putD e o.dst v) w') w))) (r :: rs)

noncomputable def DrawW (P : Program) (ops : Array Oper) (K : EE → World → Prop) (e : EE) (w : World) : Prop :=
  cond (restless P ops) (∃ S : World → Prop, S w.drew ∧ drawGo P ops S K (2 * ops.size + 1) ops.size true (Array.replicate ops.size false) [] e w.drew)
    (drawGo P ops (fun _ => True) K (2 * ops.size + 1) ops.size true (Array.replicate ops.size false) [] e w.drew)

end Go.Eng
