/-
  The engine, part A: a denotation of the program's code as a predicate on worlds, and its soundness over the walk's laws.
-/
import Derived.WalkKit
import Derived.RangeFuncRecord
import Derived.RangeFuncCalls
namespace Go.Eng
open Go

/- A tower: what names it is unfolded ahead of 'denL'. -/
def tw0 : Nat := 0
def tw1 : Nat := tw0
def tw2 : Nat := tw1
def tw3 : Nat := tw2

abbrev Env := List Value
abbrev Kt := Exit → Env → List Nat → World → Prop

def ev (e : Env) : Operand → Value
  | .tmp t => e.getD t undef
  | .const v => v
  | .global g => .pointer (some ⟨g, 0, none⟩)
  | .func f => .func (.func f) #[] #[]

def putE (e : Env) (d : Option Tmp) (v : Value) : Env :=
  match d with
  | some d => e.set d v
  | none => e

/-- The temporaries that are known: what was written last lies ahead. -/
abbrev EE := List (Nat × Value)

noncomputable def findE (t : Nat) (E : EE) : Option Value :=
  List.rec (motive := fun _ => Option Value) none (fun p _ ih => cond (Nat.beq p.1 t) (some p.2) ih) E

noncomputable def getE (E : EE) (t : Nat) : Value := Option.casesOn (motive := fun _ => Value) (findE t E) undef (fun v => v)

noncomputable def knownT (E : EE) (t : Nat) : Bool := Option.casesOn (motive := fun _ => Bool) (findE t E) false (fun _ => true)

noncomputable def evE (E : EE) : Operand → Value
  | .tmp t => getE E t
  | .const v => v
  | .global g => .pointer (some ⟨g, 0, none⟩)
  | .func f => .func (.func f) #[] #[]

noncomputable def knownX (E : EE) : Operand → Bool
  | .tmp t => knownT E t
  | _ => true

noncomputable def knownL (E : EE) (l : List Operand) : Bool := List.rec (motive := fun _ => Bool) true (fun x _ ih => cond (knownX E x) ih false) l

def putD (E : EE) (d : Option Tmp) (v : Value) : EE :=
  match d with
  | some d => (d, v) :: E
  | none => E

/-- What is known in E stands in the row e. -/
def Rel (E : EE) (e : Env) : Prop := ∀ t v, findE t E = some v → e.getD t undef = v

theorem Rel.nil (e : Env) : Rel [] e := fun t v h => by simp [findE] at h

theorem findE_cons (t t' : Nat) (v : Value) (E : EE) : findE t ((t', v) :: E) = cond (Nat.beq t' t) (some v) (findE t E) := rfl

theorem Rel.cons {E : EE} {e : Env} {t : Nat} {v : Value} (h : Rel E e) (hv : e.getD t undef = v) : Rel ((t, v) :: E) e := by
  intro t' v' h'
  rw [findE_cons] at h'
  cases hb : Nat.beq t t' with
  | true =>
    rw [hb] at h'
    have : t = t' := Nat.eq_of_beq_eq_true hb
    subst this
    simp only [cond_true, Option.some.injEq] at h'
    rw [← h']; exact hv
  | false => rw [hb] at h'; exact h t' v' h'

theorem Rel.put {E : EE} {e : Env} (h : Rel E e) {d : Option Tmp} (hd : ∀ t, d = some t → t < e.length) (v : Value) : Rel (putD E d v) (putE e d v) := by
  cases d with
  | none => exact h
  | some d =>
    have hd := hd d rfl
    intro t' v' h'
    simp only [putD, findE_cons] at h'
    cases hb : Nat.beq d t' with
    | true =>
      rw [hb] at h'
      have : d = t' := Nat.eq_of_beq_eq_true hb
      subst this
      simp only [cond_true, Option.some.injEq] at h'
      simp [putE, hd, h']
    | false =>
      rw [hb] at h'
      have hne : d ≠ t' := fun e1 => by subst e1; simp at hb
      have := h t' v' h'
      simp only [putE]
      rw [← this]
      simp [List.getElem?_set_ne hne]

theorem knownT_get {E : EE} {t : Nat} (h : knownT E t = true) : findE t E = some (getE E t) := by
  unfold knownT at h
  unfold getE
  cases hf : findE t E with
  | none => rw [hf] at h; exact absurd h (by simp)
  | some v => rfl

theorem Rel.get {E : EE} {e : Env} (h : Rel E e) {t : Nat} (hk : knownT E t = true) : e.getD t undef = getE E t := h t _ (knownT_get hk)

theorem Rel.ev {E : EE} {e : Env} (h : Rel E e) {x : Operand} (hk : knownX E x = true) : Eng.ev e x = evE E x := by
  cases x <;> simp only [evE, Eng.ev]
  exact h.get hk

theorem knownL_mem {E : EE} : ∀ {l : List Operand}, knownL E l = true → ∀ x ∈ l, knownX E x = true
  | [], _, x, hx => by simp at hx
  | y :: l, h, x, hx => by
    have h' : cond (knownX E y) (knownL E l) false = true := h
    cases hy : knownX E y with
    | false => rw [hy] at h'; exact absurd h' (by simp)
    | true =>
      rw [hy] at h'
      rcases List.mem_cons.1 hx with rfl | hx
      · exact hy
      · exact knownL_mem h' x hx

def opsOf : Op → List Operand
  | .alloc _ | .ready _ | .waits _ => []
  | .move x | .assign x | .box _ x | .load _ x | .nilCheck x | .unOp _ _ x | .convert _ _ x | .sliceToArrayPointer _ x | .makeInterface _ x
  | .makeChan _ x | .fieldAddr _ x _ | .field _ x _ | .range _ x | .next x _ | .entry x | .typeAssert x _ _ _ | .extract x _ | .panic x | .recv _ x _ => [x]
  | .pick c a b => [c, a, b]
  | .build _ ps | .buildSlice _ _ ps => ps.toList.map (·.2)
  | .store _ a v | .binOp _ _ a v _ | .makeSlice _ a v | .indexAddr _ a v | .index _ a v | .lookup _ a v _ | .mapEntry _ a v | .send a v => [a, v]
  | .makeFunc _ first captured => first.toList ++ captured.toList
  | .makeMap _ r => r.toList
  | .slice _ x l h m => x :: (l.toList ++ (h.toList ++ m.toList))
  | .mapUpdate _ m k v | .entryStore _ m k v | .insert _ m k v => [m, k, v]
  | .call c | .go c | .defer c => (match c.callee with | .value f => [f] | .invoke r _ => [r] | .builtin _ => []) ++ c.args.toList
  | .select _ _ => []

theorem opsOf_mem (o : Op) (hs : ∀ cs b, o ≠ .select cs b) : ∀ x ∈ o.operands, x ∈ opsOf o := by
  intro x hx
  cases o <;> simp only [Op.operands] at hx <;> simp only [opsOf]
  case select cs b => exact absurd rfl (hs cs b)
  case call c => unfold Call.operands at hx; cases hc : c.callee <;> simp_all
  case go c => unfold Call.operands at hx; cases hc : c.callee <;> simp_all
  case defer c => unfold Call.operands at hx; cases hc : c.callee <;> simp_all
  case slice t y lo hi mx => cases lo <;> cases hi <;> cases mx <;> simp_all
  case makeMap t r => cases r <;> simp_all
  all_goals (first | (simp at hx; done) | simpa using hx)

def FW (ro : Option Nat) : Fence := { Fence.wide with round := ro }

def CallV (P : Program) (f : FuncId) (args : Array Value) (w : World) (R : Value → World → Prop) : Prop :=
  Calls P f args w (fun e w' => ∃ v, e = .returned v ∧ R v w')

def YieldV (P : Program) (l : Nat) (args : Array Value) (w : World) (R : Value → World → Prop) : Prop :=
  ∃ r : Loop, w.heap[l]? = some (.loop r) ∧ args.size = r.params.size ∧
    RoundIn Fence.wide 0 P l r.fn ((r.params.zip args).foldl (fun tmps (t, a) => tmps.setIfInBounds t a) r.tmps) r.assign r.body w
      (fun e w' => ∃ v, e = .returned v ∧ R v w')

def hasBody (P : Program) (f : FuncId) : Bool :=
  match P.funcs[f]? with
  | some fn => fn.body.isSome
  | none => false

/-- No function of the program is the one that counts goroutines. -/
def Plain (P : Program) : Prop := ∀ (f : Nat) (fn : Func), P.funcs[f]? = some fn → fn.name ≠ "runtime.NumGoroutine"

/-- A function without a body: what the model says of it. -/
def ExtV (P : Program) (f : FuncId) (args : Array Value) (w : World) (R : Value → World → Prop) : Prop := ∃ v w', (callFunc f args).run P w = .ok (.value v) w' ∧ R v w'

def CalleeV (P : Program) (fv : Value) (args : Array Value) (w : World) (R : Value → World → Prop) : Prop :=
  match fv with
  | .func (.func f) first captured => if hasBody P f = true then CallV P f (first ++ args ++ captured) w R else ExtV P f (first ++ args ++ captured) w R
  | .func (.yield l) first _ => YieldV P l (first ++ args) w R
  | _ => False

def RunW (P : Program) (s : Sem Value) (K : Value → World → Prop) (w : World) : Prop :=
  ∃ v w', s.run P w = .ok v w' ∧ K v w'

def RunU (P : Program) (s : Sem Unit) (K : World → Prop) (w : World) : Prop :=
  ∃ w', s.run P w = .ok () w' ∧ K w'

def NewW (o : Obj) (K : Nat → World → Prop) (w : World) : Prop := K w.heap.size (w.alloc o)

inductive Sh where
  | int (k : IntKind) | bool | str | ptr | slice | map | raw | addr
  deriving Inhabited

def leaves (P : Program) : Nat → TypeId → List Sh
  | 0, _ => []
  | d + 1, t =>
    match P.underlying t with
    | some (.int k) => [.int k]
    | some .bool => [.bool]
    | some .string => [.str]
    | some (.pointer _) => [.ptr]
    | some (.slice _) => [.slice]
    | some (.map _ _) => [.map]
    | some (.struct fs) => fs.toList.flatMap fun f => leaves P d f.type
    | some (.array n e) => (List.replicate n (leaves P d e)).flatten
    | some (.func ..) => [.raw]
    | some (.interface _) => [.raw]
    | _ => []

def isAggB (P : Program) (t : TypeId) : Bool :=
  match P.underlying t with
  | some (.struct _) => true
  | some (.array _ _) => true
  | _ => false

def sizeT (P : Program) (t : TypeId) : Option Nat := (P.info? t).map (·.size)

def rdLeaf (s : Sh) (a : Addr) (K : Value → Prop) (w : World) : Prop :=
  match s with
  | .int k => ∃ n : Int, w.cell? a = some (.int k n) ∧ K (.int k n)
  | .bool => ∃ b : Bool, w.cell? a = some (.bool b) ∧ K (.bool b)
  | .str => ∃ s : ByteArray, w.cell? a = some (.string s) ∧ K (.string s)
  | .ptr => ∃ p : Option Addr, w.cell? a = some (.pointer p) ∧ K (.pointer p)
  | .slice => ∃ (p : Option Addr) (l c : Nat), w.cell? a = some (.slice p l c) ∧ K (.slice p l c)
  | .map => ∃ r : Option Nat, w.cell? a = some (.map r) ∧ K (.map r)
  | .raw => ∃ v : Value, w.cell? a = some v ∧ K v
  | .addr => ∃ b : Addr, w.cell? a = some (.pointer (some b)) ∧ K (.pointer (some b))

def rdLeaves (a : Addr) (K : List Value → Prop) (w : World) : List Sh → Nat → Prop
  | [], _ => K []
  | s :: ss, i => rdLeaf s (a.add i) (fun v => rdLeaves a (fun vs => K (v :: vs)) w ss (i + 1)) w

def loadW (P : Program) (t : TypeId) (v : Value) (K : Value → Prop) (w : World) : Prop :=
  match v with
  | .pointer (some a) =>
    if isAggB P t = true then
      (if sizeT P t = some (leaves P 8 t).length then rdLeaves a (fun vs => K (.agg vs.toArray)) w (leaves P 8 t) 0 else False)
    else (if (P.underlying t).isSome = true then
      match leaves P 8 t with
      | [s] => rdLeaf s a K w
      | _ => False
      else False)
  | _ => False

inductive TC where
  | leaf (s : Sh)
  | agg (ss : List Sh)
  deriving Inhabited

inductive TSh where
  | one (c : TC)
  | tup (cs : List TC)
  | fn
  deriving Inhabited

def exS (s : Sh) (K : Value → Prop) : Prop :=
  match tw3, s with
  | _, .int k => ∃ n : Int, K (.int k n)
  | _, .bool => ∃ b : Bool, K (.bool b)
  | _, .str => ∃ s : ByteArray, K (.string s)
  | _, .ptr => ∃ p : Option Addr, K (.pointer p)
  | _, .slice => ∃ (p : Option Addr) (l c : Nat), K (.slice p l c)
  | _, .map => ∃ r : Option Nat, K (.map r)
  | _, .raw => ∃ v : Value, K v
  | _, .addr => ∃ b : Addr, K (.pointer (some b))

def exLs : List Sh → (List Value → Prop) → Prop
  | [], K => K []
  | s :: ss, K => exS s (fun v => exLs ss (fun vs => K (v :: vs)))

def exC (c : TC) (K : Value → Prop) : Prop :=
  match c with
  | .leaf s => exS s K
  | .agg ss => exLs ss (fun vs => K (.agg vs.toArray))

def exCs : List TC → (List Value → Prop) → Prop
  | [], K => K []
  | c :: cs, K => exC c (fun v => exCs cs (fun vs => K (v :: vs)))

def tyK (t : TSh) (K : Value → Prop) (v : Value) : Prop :=
  match t with
  | .one (.leaf .raw) => K v
  | .one c => exC c (fun x => v = x ∧ K x)
  | .tup cs => exCs cs (fun xs => v = .tuple xs.toArray ∧ K (.tuple xs.toArray))
  | .fn => ∃ (f : Fn) (a c : Array Value), v = .func f a c ∧ K (.func f a c)

def tcOf (P : Program) (t : TypeId) : TC :=
  if isAggB P t = true then .agg (leaves P 8 t) else match leaves P 8 t with
    | [s] => .leaf s
    | _ => .leaf .raw

def tshOf (P : Program) (t : TypeId) : TSh :=
  match P.underlying t with
  | some (.tuple ts) => .tup (ts.toList.map (tcOf P))
  | _ => .one (tcOf P t)

/-- The form of what a call hands back: a function is known as one. -/
def tshC (P : Program) (t : TypeId) : TSh :=
  match P.underlying t with
  | some (.func ..) => .fn
  | _ => tshOf P t

theorem exS_out {s : Sh} {K : Value → Prop} (h : exS s K) : ∃ v, K v := by
  cases s <;> simp only [exS] at h
  case slice => obtain ⟨p, l, c, h⟩ := h; exact ⟨_, h⟩
  case raw => exact h
  all_goals (obtain ⟨x, h⟩ := h; exact ⟨_, h⟩)

theorem exLs_out : ∀ {ss : List Sh} {K : List Value → Prop}, exLs ss K → ∃ vs, K vs
  | [], _, h => ⟨[], h⟩
  | _ :: _, _, h => by
    obtain ⟨v, h⟩ := exS_out h
    obtain ⟨vs, h⟩ := exLs_out h
    exact ⟨_, h⟩

theorem exC_out {c : TC} {K : Value → Prop} (h : exC c K) : ∃ v, K v := by
  cases c
  · exact exS_out h
  · obtain ⟨vs, h⟩ := exLs_out h; exact ⟨_, h⟩

theorem exCs_out : ∀ {cs : List TC} {K : List Value → Prop}, exCs cs K → ∃ vs, K vs
  | [], _, h => ⟨[], h⟩
  | _ :: _, _, h => by
    obtain ⟨v, h⟩ := exC_out h
    obtain ⟨vs, h⟩ := exCs_out h
    exact ⟨_, h⟩

theorem tyK_out {t : TSh} {K : Value → Prop} {v : Value} (h : tyK t K v) : K v := by
  unfold tyK at h
  split at h
  · exact h
  · obtain ⟨x, hx, h2⟩ := exC_out h; rw [hx]; exact h2
  · obtain ⟨x, hx, h2⟩ := exCs_out h; rw [hx]; exact h2
  · obtain ⟨f, a, c, rfl, h2⟩ := h; exact h2

def RunT (P : Program) (t : TSh) (s : Sem Value) (K : Value → World → Prop) (w : World) : Prop :=
  RunW P s (fun v w' => tyK t (fun x => K x w') v) w

theorem RunT_out {P : Program} {t : TSh} {s : Sem Value} {K : Value → World → Prop} {w : World} (h : RunT P t s K w) : ∃ v w', s.run P w = .ok v w' ∧ K v w' := by
  obtain ⟨v, w', h1, h2⟩ := h
  exact ⟨v, w', h1, tyK_out h2⟩

def tInt : TSh := .one (.leaf (.int .i64))
def tBool : TSh := .one (.leaf .bool)
def tStr : TSh := .one (.leaf .str)
def tSlice : TSh := .one (.leaf .slice)
def tUnit : TSh := .tup []

def binS (op : BinOp) (t : TypeId) (x y : Operand) (a b : Value) : Sem Value := do eqGuard op t x y a b; binOp op t a b

def binSh : BinOp → TSh
  | .add => tStr
  | _ => tBool

def okCell : Value → Bool
  | .agg _ => false
  | .tuple _ => false
  | _ => true

def storeCellsW (a : Addr) (K : World → Prop) : List Value → Nat → World → Prop
  | [], _, w => K w
  | v :: vs, i, w => if okCell v = true then (∃ v0, w.cell? (a.add i) = some v0) ∧ w.frozen? (a.add i) = false ∧ storeCellsW a K vs (i + 1) (w.setCell (a.add i) v) else False

def storeW (P : Program) (t : TypeId) (p x : Value) (K : World → Prop) (w : World) : Prop :=
  match p with
  | .pointer (some a) => if sizeT P t = some x.cells.size then storeCellsW a K x.cells.toList 0 w else False
  | _ => False

def bitsV (op : BinOp) (k : IntKind) (x y : Int) : Int :=
  let a := BitVec.ofInt k.bits x
  let b := BitVec.ofInt k.bits y
  match op with
  | .and => k.wrap (a &&& b).toNat
  | .or => k.wrap (a ||| b).toNat
  | .xor => k.wrap (a ^^^ b).toNat
  | _ => k.wrap (a &&& ~~~b).toNat

def intOp (op : BinOp) (k : IntKind) (a b : Int) (K : Value → Prop) : Prop :=
  match op with
  | .add => K (.int k (k.wrap (a + b)))
  | .sub => K (.int k (k.wrap (a - b)))
  | .mul => K (.int k (k.wrap (a * b)))
  | .quo => b ≠ 0 ∧ K (.int k (k.wrap (a.tdiv b)))
  | .rem => b ≠ 0 ∧ K (.int k (a.tmod b))
  | .and | .or | .xor | .andNot => K (.int k (bitsV op k a b))
  | .eql => K (.bool (a == b))
  | .neq => K (.bool (a != b))
  | .lss => K (.bool (decide (a < b)))
  | .leq => K (.bool (decide (a ≤ b)))
  | .gtr => K (.bool (decide (a > b)))
  | .geq => K (.bool (decide (a ≥ b)))
  | _ => False

def shiftOp (op : BinOp) (k : IntKind) (x y : Int) (K : Value → Prop) : Prop :=
  match op with
  | .shl => 0 ≤ y ∧ K (.int k (k.wrap (x * 2 ^ (min y.toNat k.bits))))
  | .shr => 0 ≤ y ∧ K (.int k (x.fdiv (2 ^ (min y.toNat k.bits))))
  | _ => False

def isShift : BinOp → Bool
  | .shl => true
  | .shr => true
  | _ => false

def binW (P : Program) (op : BinOp) (t : TypeId) (x y : Operand) (a b : Value) (K : Value → World → Prop) (w : World) : Prop :=
  match a, b with
  | .int k m, .int k' n =>
    if isShift op = true then shiftOp op k m n (fun v => K v w)
    else if k = k' then intOp op k m n (fun v => K v w) else False
  | a, b => RunT P (binSh op) (binS op t x y a b) K w

def unW (op : UnOp) (a : Value) (K : Value → Prop) : Prop :=
  match op, a with
  | .not, .bool b => K (.bool (!b))
  | .neg, .int k n => K (.int k (k.wrap (0 - n)))
  | .xor, .int k n => K (.int k (bitsV .xor k (if k.signed then -1 else k.max) n))
  | _, _ => False

def fieldOff (P : Program) (s : TypeId) (f : Nat) : Option (TypeId × Nat) :=
  match P.underlying s with
  | some (.struct fs) => (fs[f]?).map fun x => (x.type, x.offset)
  | _ => none

def fieldAddrW (P : Program) (s : TypeId) (v : Value) (f : Nat) (K : Value → Prop) : Prop :=
  match v with
  | .pointer (some a) =>
    match fieldOff P s f with
    | some (t, off) => match sizeT P t with
      | some (_ + 1) => K (.pointer (some (a.add off)))
      | _ => False
    | none => False
  | _ => False

def partV (P : Program) (t : TypeId) (cs : Array Value) (off : Nat) : Option Value :=
  if isAggB P t = true then
    match sizeT P t with
    | some n => some (.agg (cs.extract off (off + n)))
    | none => none
  else if (P.underlying t).isSome = true then cs[off]? else none

def fieldW (P : Program) (s : TypeId) (v : Value) (f : Nat) (K : Value → Prop) : Prop :=
  match v with
  | .agg cs =>
    match fieldOff P s f with
    | some (t, off) => match partV P t cs off with
      | some x => K x
      | none => False
    | none => False
  | _ => False

def elemT (P : Program) (t : TypeId) : Option (Option Nat × TypeId) :=
  match P.underlying t with
  | some (.slice e) => some (none, e)
  | some (.array n e) => some (some n, e)
  | _ => none

def indexAddrW (P : Program) (t : TypeId) (x i : Value) (K : Value → Prop) : Prop :=
  match i with
  | .int _ n =>
    match elemT P t with
    | some (none, el) =>
      match x with
      | .slice p len _ => match sizeT P el with
        | some sz => ∃ a, p = some a ∧ 0 ≤ n ∧ n < (len : Int) ∧ K (.pointer (some (a.add (n.toNat * sz))))
        | none => False
      | _ => False
    | some (some len, el) =>
      match x with
      | .pointer (some a) => match sizeT P el with
        | some sz => 0 ≤ n ∧ n < (len : Int) ∧ K (.pointer (some (a.add (n.toNat * sz))))
        | none => False
      | _ => False
    | none => False
  | _ => False

def indexW (P : Program) (rt t : TypeId) (x i : Value) (K : Value → World → Prop) (w : World) : Prop :=
  match x, i with
  | .string s, .int _ n => if (match P.underlying t with | some .string => true | _ => false) = true then ∃ b : UInt8, 0 ≤ n ∧ s[n.toNat]? = some b ∧ K (.int .u8 b.toNat) w else False
  | x, i => RunT P (tshOf P rt) (Instr.index t x i) K w

def slAddr (p : Option Addr) (sz l m : Nat) : Option Addr := if m = l then p else p.map (·.add (l * sz))

def bndW (v : Option Value) (y dflt : Nat) (K : Nat → Prop) : Prop :=
  match tw3, v with
  | _, none => K dflt
  | _, some (.int _ n) => 0 ≤ n ∧ n ≤ (y : Int) ∧ K n.toNat
  | _, _ => False

def sliceW (P : Program) (t : TypeId) (x : Value) (lo hi mx : Option Value) (K : Value → World → Prop) (w : World) : Prop :=
  match elemT P t, x with
  | some (none, el), .slice p len cap =>
    match sizeT P el with
    | some sz =>
      bndW mx cap cap fun m => (if mx.isSome && hi.isNone then False else
        bndW hi m len fun h => bndW lo h 0 fun l => K (.slice (slAddr p sz l m) (h - l) (m - l)) w)
    | none => False
  | _, x => RunT P (match P.underlying t with | some .string => tStr | _ => tSlice) (Instr.sliceAt t x lo hi mx) K w

def zeroOf (P : Program) (t : TypeId) : Option Value := (P.info? t).bind (·.zero)

def allocW (P : Program) (t : TypeId) (K : Value → World → Prop) (w : World) : Prop :=
  match zeroOf P t with
  | some z => NewW (.cells z.cells t) (fun b w' => K (.pointer (some ⟨b, 0, none⟩)) w') w
  | none => False

def boxW (t : TypeId) (v : Value) (K : Value → World → Prop) (w : World) : Prop :=
  NewW (.cells v.cells t) (fun b w' => K (.pointer (some ⟨b, 0, none⟩)) w') w

def places (P : Program) (t : TypeId) : Option (Nat → Option (Nat × Nat)) :=
  match P.underlying t with
  | some (.struct fs) => match fs.toList.mapM (fun f => (sizeT P f.type).map fun n => (f.offset, n)) with
    | some l => some (fun i => l[i]?)
    | none => none
  | some (.array _ e) => match sizeT P e with
    | some n => some (fun i => some (i * n, n))
    | none => none
  | _ => none

def buildW (P : Program) (t : TypeId) (parts : List (Nat × Value)) (K : Value → Prop) : Prop :=
  match zeroOf P t, places P t with
  | some z, some pl => match Instr.fill pl z.cells parts with
    | some cells => K (.agg cells)
    | none => False
  | _, _ => False

def zeros (n : Nat) (z : List Value) : Array Value := (List.replicate n z).flatten.toArray

def buildSliceW (P : Program) (t : TypeId) (len : Nat) (parts : List (Nat × Value)) (K : Value → World → Prop) (w : World) : Prop :=
  match elemT P t with
  | some (none, el) => match sizeT P el, zeroOf P el with
    | some (sz + 1), some z =>
      if len * (sz + 1) ≤ 2 ^ 24 ∧ z.cells.size = sz + 1 then
        match Instr.fill (fun i => some (i * (sz + 1), sz + 1)) (zeros len z.cells.toList) parts with
        | some cells => NewW (.cells cells el) (fun b w' => K (.slice (some ⟨b, 0, none⟩) len len) w') w
        | none => False
      else False
    | _, _ => False
  | _ => False

def makeSliceW (P : Program) (t : TypeId) (l c : Value) (K : Value → World → Prop) (w : World) : Prop :=
  match elemT P t, l, c with
  | some (none, el), .int _ l, .int _ c => match P.info? el with
    | some i => match i.zero with
      | some z => if z.cells.size = i.size then 0 ≤ l ∧ l ≤ c ∧ c ≤ 140737488355328 ∧ (i.bytes : Int) * c ≤ 140737488355328 ∧
          NewW (.cells (zeros c.toNat z.cells.toList) el) (fun b w' => K (.slice (some ⟨b, 0, none⟩) l.toNat c.toNat) w') w else False
      | none => False
    | none => False
  | _, _, _ => False

def nilCheckW (v : Value) (K : Value → Prop) : Prop :=
  match tw3, v with
  | _, .pointer p => ∃ a, p = some a ∧ K (.pointer (some a))
  | _, .func (.func f) a b => K (.func (.func f) a b)
  | _, .func (.yield l) a b => K (.func (.yield l) a b)
  | _, _ => False

def convW (P : Program) (s d : TypeId) (v : Value) (K : Value → World → Prop) (w : World) : Prop :=
  match P.underlying s, P.underlying d, v with
  | some (.int _), some (.int k), .int _ n => K (.int k (k.wrap n)) w
  | _, _, v => RunT P (tshOf P d) (convert s d v) K w

def lenW (P : Program) (ts : Array TypeId) (t : TypeId) (args : Array Value) (K : Value → World → Prop) (w : World) : Prop :=
  match args.toList with
  | [.slice _ l _] => if (match (ts[0]?).bind P.underlying with | some (.slice _) => true | _ => false) = true then K (.int .i64 l) w else False
  | [.string s] => if (match (ts[0]?).bind P.underlying with | some .string => true | _ => false) = true then K (.int .i64 s.size) w else False
  | _ => RunT P tInt (Builtin.len_ ts t args) K w

def min2W (a b : Value) (K : Value → Prop) : Prop :=
  match tw3, a, b with
  | _, .int k x, .int _ y => K (.int k (if y < x then y else x))
  | _, _, _ => False

def max2W (a b : Value) (K : Value → Prop) : Prop :=
  match tw3, a, b with
  | _, .int k x, .int _ y => K (.int k (if y > x then y else x))
  | _, _, _ => False

def minW (f : Value → Value → (Value → Prop) → Prop) : List Value → Value → (Value → Prop) → Prop
  | [], v, K => K v
  | y :: ys, v, K => f v y fun r => minW f ys r K

def builtinW (P : Program) (b : Builtin) (ts : Array TypeId) (t : TypeId) (args : Array Value) (K : Value → World → Prop) (w : World) : Prop :=
  match b with
  | .len => lenW P ts t args K w
  | .min => match args.toList with
    | v :: vs => minW min2W vs v (fun r => K r w)
    | [] => False
  | .max => match args.toList with
    | v :: vs => minW max2W vs v (fun r => K r w)
    | [] => False
  | .append => RunT P tSlice (Builtin.append_ ts t args) K w
  | .cap => RunT P tInt (Builtin.cap_ ts t args) K w
  | .clear => RunT P tUnit (Builtin.clear_ ts t args) K w
  | .copy => RunT P tInt (Builtin.copy_ ts t args) K w
  | .delete => RunT P tUnit (Builtin.delete_ ts t args) K w
  | _ => False

def callW (P : Program) (c : Call) (t : TypeId) (ρ : Operand → Value) (K : Value → World → Prop) (w : World) : Prop :=
  match c.callee with
  | .value f => CalleeV P (ρ f) (c.args.map ρ) w (fun v w' => tyK (tshC P t) (fun x => K x w') v)
  | .builtin b => builtinW P b c.argTypes t (c.args.map ρ) K w
  | .invoke .. => False

def pickW (c a b : Value) (K : Value → Prop) : Prop :=
  match tw3, c with
  | _, .bool t => match t with
    | true => K a
    | false => K b
  | _, _ => False

/-- What is taken out of a tuple has its type's form; a bool is as it is. -/
def tyX (t : TSh) (K : Value → Prop) (v : Value) : Prop :=
  match t with
  | .one (.leaf .bool) => K v
  | t => tyK t K v

theorem tyX_out {t : TSh} {K : Value → Prop} {v : Value} (h : tyX t K v) : K v := by
  unfold tyX at h
  split at h
  · exact h
  · exact tyK_out h

def extractW (P : Program) (t : TypeId) (v : Value) (i : Nat) (K : Value → Prop) : Prop :=
  match tw3, v with
  | _, .tuple vs => match vs[i]? with
    | some x => tyX (tshOf P t) K x
    | none => False
  | _, _ => False

/-- What 'next' gives: nothing more; or a key and a value. -/
def nextT (K : Value → Prop) (v : Value) : Prop := (v = .tuple #[.bool false] ∧ K (.tuple #[.bool false])) ∨ ∃ k x : Value, v = .tuple #[.bool true, k, x] ∧ K (.tuple #[.bool true, k, x])

theorem nextT_out {K : Value → Prop} {v : Value} (h : nextT K v) : K v := by
  rcases h with ⟨rfl, h⟩ | ⟨k, x, rfl, h⟩ <;> exact h

/-- A pair. -/
def entryT (K : Value → Prop) (v : Value) : Prop := ∃ k x : Value, v = .tuple #[k, x] ∧ K (.tuple #[k, x])

theorem entryT_out {K : Value → Prop} {v : Value} (h : entryT K v) : K v := by
  obtain ⟨k, x, rfl, h⟩ := h; exact h

/-- What one operation does: K of its value and of the world behind it. -/
def opW (P : Program) (o : Oper) (ρ : Operand → Value) (K : Value → World → Prop) (w : World) : Prop :=
  match o.op with
  | .move x => K (ρ x) w
  | .assign x => K (ρ x) w
  | .pick c a b => pickW (ρ c) (ρ a) (ρ b) (fun v => K v w)
  | .alloc t => allocW P t K w
  | .box t x => boxW t (ρ x) K w
  | .build t parts => buildW P t (parts.toList.map fun (i, x) => (i, ρ x)) (fun v => K v w)
  | .buildSlice t len parts => buildSliceW P t len (parts.toList.map fun (i, x) => (i, ρ x)) K w
  | .load t a => loadW P t (ρ a) (fun v => K v w) w
  | .store t a x => storeW P t (ρ a) (ρ x) (fun w' => K undef w') w
  | .nilCheck x => nilCheckW (ρ x) (fun v => K v w)
  | .binOp op t x y _ => binW P op t x y (ρ x) (ρ y) K w
  | .unOp op _ x => unW op (ρ x) (fun v => K v w)
  | .convert s d x => convW P s d (ρ x) K w
  | .makeFunc fn first captured => K (.func fn (first.map ρ) (captured.map ρ)) w
  | .makeMap t r => RunT P (.one (.leaf .map)) (Instr.makeMap t (r.map ρ)) K w
  | .makeSlice t l c => makeSliceW P t (ρ l) (ρ c) K w
  | .slice t x lo hi mx => sliceW P t (ρ x) (lo.map ρ) (hi.map ρ) (mx.map ρ) K w
  | .fieldAddr s x f => fieldAddrW P s (ρ x) f (fun v => K v w)
  | .field s x f => fieldW P s (ρ x) f (fun v => K v w)
  | .indexAddr t x i => indexAddrW P t (ρ x) (ρ i) (fun v => K v w)
  | .index t x i => indexW P o.type t (ρ x) (ρ i) K w
  | .lookup t x i ok => RunT P (tshOf P o.type) (Instr.lookup t (ρ x) (ρ i) ok) K w
  | .mapUpdate t m k x => RunU P (Instr.mapUpdate t (ρ m) (ρ k) (ρ x)) (fun w' => K undef w') w
  | .insert t m k x => RunU P (Instr.mapUpdate t (ρ m) (ρ k) (ρ x)) (fun w' => K undef w') w
  | .mapEntry t m k => RunW P (Instr.mapEntry t (ρ m) (ρ k)) (fun v w' => entryT (fun x => K x w') v) w
  | .entryStore t m s x => RunU P (Instr.entryStore t (ρ m) (ρ s) (ρ x)) (fun w' => K undef w') w
  | .range t x => RunT P (.one (.leaf .ptr)) (Instr.range t (ρ x)) K w
  | .next it s => RunW P (Instr.next (ρ it) s o.type) (fun v w' => nextT (fun x => K x w') v) w
  | .entry it => RunW P (Instr.entry (ρ it)) (fun v w' => entryT (fun x => K x w') v) w
  | .extract t i => extractW P o.type (ρ t) i (fun v => K v w)
  | .call c => callW P c o.type ρ K w
  | _ => False

noncomputable def opE (P : Program) (o : Oper) (E : EE) (K : Value → World → Prop) (w : World) : Prop :=
  cond (knownL E (opsOf o.op)) (opW P o (evE E) K w) False

/-! ### What stands where pieces of code meet: a predicate on the temporaries that live there -/

def ST (s : Sh) (X : Type) : Type :=
  match s with
  | .int _ => Int → X
  | .bool => Bool → X
  | .str => ByteArray → X
  | .ptr => Option Addr → X
  | .slice => Option Addr → Nat → Nat → X
  | .map => Option Nat → X
  | .raw => Value → X
  | .addr => Addr → X

def allS {X : Type} (s : Sh) (Q : ST s X) (f : X → Value → Prop) : Prop :=
  match s, Q with
  | .int k, Q => ∀ n : Int, f (Q n) (.int k n)
  | .bool, Q => ∀ b : Bool, f (Q b) (.bool b)
  | .str, Q => ∀ s : ByteArray, f (Q s) (.string s)
  | .ptr, Q => ∀ p : Option Addr, f (Q p) (.pointer p)
  | .slice, Q => ∀ (p : Option Addr) (l c : Nat), f (Q p l c) (.slice p l c)
  | .map, Q => ∀ r : Option Nat, f (Q r) (.map r)
  | .raw, Q => ∀ v : Value, f (Q v) v
  | .addr, Q => ∀ a : Addr, f (Q a) (.pointer (some a))

def appS {X : Type} (s : Sh) (Q : ST s X) (v : Value) (k : X → Prop) : Prop :=
  match s, Q, v with
  | .int i, Q, .int j n => if i = j then k (Q n) else False
  | .bool, Q, .bool b => k (Q b)
  | .str, Q, .string s => k (Q s)
  | .ptr, Q, .pointer p => k (Q p)
  | .slice, Q, .slice p l c => k (Q p l c)
  | .map, Q, .map r => k (Q r)
  | .raw, Q, v => k (Q v)
  | .addr, Q, .pointer (some a) => k (Q a)
  | _, _, _ => False

theorem allS_app {X : Type} {s : Sh} {Q : ST s X} {f : X → Value → Prop} {v : Value} {k : X → Prop} (h : allS s Q f) (h' : appS s Q v k) : ∃ x, f x v ∧ k x := by
  unfold appS at h'
  split at h'
  · split at h'
    · rename_i hk; subst hk; exact ⟨_, h _, h'⟩
    · exact h'.elim
  · exact ⟨_, h _, h'⟩
  · exact ⟨_, h _, h'⟩
  · exact ⟨_, h _, h'⟩
  · exact ⟨_, h _ _ _, h'⟩
  · exact ⟨_, h _, h'⟩
  · exact ⟨_, h _, h'⟩
  · exact ⟨_, h _, h'⟩
  · exact h'.elim

def STs : List Sh → Type → Type
  | [], X => X
  | s :: ss, X => ST s (STs ss X)

def allSs {X : Type} : (ss : List Sh) → STs ss X → (X → List Value → Prop) → Prop
  | [], Q, f => f Q []
  | s :: ss, Q, f => allS s Q (fun Q' v => allSs ss Q' (fun x vs => f x (v :: vs)))

def appSs {X : Type} : (ss : List Sh) → STs ss X → List Value → (X → Prop) → Prop
  | [], Q, [], k => k Q
  | s :: ss, Q, v :: vs, k => appS s Q v (fun Q' => appSs ss Q' vs k)
  | _, _, _, _ => False

theorem allSs_app {X : Type} : ∀ {ss : List Sh} {Q : STs ss X} {f : X → List Value → Prop} {vs : List Value} {k : X → Prop}, allSs ss Q f → appSs ss Q vs k → ∃ x, f x vs ∧ k x
  | [], Q, f, [], k, h, h' => ⟨Q, h, h'⟩
  | [], _, _, _ :: _, _, _, h' => h'.elim
  | _ :: _, _, _, [], _, _, h' => h'.elim
  | s :: ss, Q, f, v :: vs, k, h, h' => by
    obtain ⟨Q', h1, h2⟩ := allS_app h h'
    exact allSs_app (f := fun x us => f x (v :: us)) (vs := vs) h1 h2

def CT (c : TC) (X : Type) : Type :=
  match c with
  | .leaf s => ST s X
  | .agg ss => STs ss X

def allC {X : Type} (c : TC) (Q : CT c X) (f : X → Value → Prop) : Prop :=
  match c, Q with
  | .leaf s, Q => allS s Q f
  | .agg ss, Q => allSs ss Q (fun x vs => f x (.agg vs.toArray))

def appC {X : Type} (c : TC) (Q : CT c X) (v : Value) (k : X → Prop) : Prop :=
  match c, Q, v with
  | .leaf s, Q, v => appS s Q v k
  | .agg ss, Q, .agg vs => appSs ss Q vs.toList k
  | _, _, _ => False

theorem allC_app {X : Type} {c : TC} {Q : CT c X} {f : X → Value → Prop} {v : Value} {k : X → Prop} (h : allC c Q f) (h' : appC c Q v k) : ∃ x, f x v ∧ k x := by
  unfold appC at h'
  split at h'
  · exact allS_app h h'
  · obtain ⟨x, h1, h2⟩ := allSs_app h h'
    exact ⟨x, by simpa using h1, h2⟩
  · exact h'.elim

def MT (b : Bool) : Type :=
  match b with
  | true => List Nat → World → Prop
  | false => World → Prop

def MT.app (b : Bool) (Q : MT b) (m : List Nat) (w : World) : Prop :=
  match b, Q, m with
  | true, Q, m => Q m w
  | false, Q, [] => Q w
  | _, _, _ => False

def MT.all (b : Bool) (Q : MT b) (f : List Nat → World → Prop) : Prop :=
  match b, Q with
  | true, Q => ∀ m w, Q m w → f m w
  | false, Q => ∀ w, Q w → f [] w

theorem MT.all_app {b : Bool} {Q : MT b} {f : List Nat → World → Prop} {m : List Nat} {w : World} (h : MT.all b Q f) (h' : MT.app b Q m w) : f m w := by
  cases b
  · cases m with
    | nil => exact h _ h'
    | cons r m => exact h'.elim
  · exact h _ _ h'

def JT : List (Nat × TC) → Bool → Type
  | [], b => MT b
  | p :: l, b => CT p.2 (JT l b)

def allJ : (l : List (Nat × TC)) → (b : Bool) → JT l b → (EE → List Nat → World → Prop) → Prop
  | [], b, Q, f => MT.all b Q (f [])
  | p :: l, b, Q, f => allC p.2 Q (fun Q' v => allJ l b Q' (fun E => f ((p.1, v) :: E)))

noncomputable def appJ : (l : List (Nat × TC)) → (b : Bool) → JT l b → EE → List Nat → World → Prop
  | [], b, Q, _, m, w => MT.app b Q m w
  | p :: l, b, Q, E, m, w => cond (knownT E p.1) (appC p.2 Q (getE E p.1) (fun Q' => appJ l b Q' E m w)) False

theorem allJ_app : ∀ {l : List (Nat × TC)} {b : Bool} {Q : JT l b} {f : EE → List Nat → World → Prop} {E : EE} {m : List Nat} {w : World}, allJ l b Q f → appJ l b Q E m w →
    ∃ E', (∀ e, Rel E e → Rel E' e) ∧ f E' m w
  | [], b, Q, f, E, m, w, h, h' => ⟨[], fun e _ => Rel.nil e, MT.all_app h h'⟩
  | p :: l, b, Q, f, E, m, w, h, h' => by
    unfold appJ at h'
    cases hk : knownT E p.1 with
    | false => rw [hk] at h'; exact h'.elim
    | true =>
      rw [hk] at h'
      obtain ⟨Q', h1, h2⟩ := allC_app h h'
      obtain ⟨E', h3, h4⟩ := allJ_app h1 h2
      exact ⟨_, fun e hr => (h3 e hr).cons (hr.get hk), h4⟩

end Go.Eng
