/-
  The engine, part U: maps: their entries in the order in which they came.
-/
import Derived.Test.YtdonkmbhlankiaaEngM
import Derived.Maps.RangeRun
namespace Go.Eng
open Go Go.RowKit

section
variable {κ υ : Type}

/-- The entries of a map are these pairs. -/
structure MOk (ek : κ → Value) (ev : υ → Value) (es : List MapEntry) (clock : Nat) (m : List (κ × υ)) : Prop where
  ents : es.map (fun e => (e.key, e.val)) = m.map (fun x => (ek x.1, ev x.2))
  born : ∀ e ∈ es, e.born < clock
  nd : (es.map fun e => e.born).Nodup

/-- A map: what lies in its block (p) holds these pairs. -/
def mapQ (b : Nat) (ek : κ → Value) (ev : υ → Value) (p : List MapEntry × Nat) (m : List (κ × υ)) : HP := lift (MOk ek ev p.1 p.2 m) * pt b (.map p.1.toArray p.2)

/-- A map as the world has it. -/
structure MapAt (w : World) (b : Nat) (ek : κ → Value) (ev : υ → Value) (p : List MapEntry × Nat) (m : List (κ × υ)) : Prop where
  ok : MOk ek ev p.1 p.2 m
  at_ : w.heap[b]? = some (.map p.1.toArray p.2)

/-- A map that is read alone: it lies in memory that is of this form. -/
structure RoM (FL : List HP) (b : Nat) (ek : κ → Value) (ev : υ → Value) (p : List MapEntry × Nat) (m : List (κ × υ)) : Prop where
  ok : MOk ek ev p.1 p.2 m
  at_ : ∀ w, Mem FL w → w.heap[b]? = some (.map p.1.toArray p.2)

theorem RoM.mono {FL FL2 : List HP} {b : Nat} {ek : κ → Value} {ev : υ → Value} {p : List MapEntry × Nat} {m : List (κ × υ)} (h : RoM FL b ek ev p m) (hx : ∀ w, Mem FL2 w → Mem FL w) : RoM FL2 b ek ev p m := ⟨h.ok, fun w hw => h.at_ w (hx w hw)⟩
theorem RoM.map {FL : List HP} {b : Nat} {ek : κ → Value} {ev : υ → Value} {p : List MapEntry × Nat} {m : List (κ × υ)} (h : RoM FL b ek ev p m) {w : World} (hw : Mem FL w) : MapAt w b ek ev p m := ⟨h.ok, h.at_ w hw⟩

/-- Where a key stands. -/
def mapI [DecidableEq κ] (m : List (κ × υ)) (k : κ) : Option Nat := m.findIdx? fun x => decide (k = x.1)

/-- What the machine asks of a key's type. -/
structure KeyT [DecidableEq κ] (P : Program) (t : TypeId) (ek : κ → Value) : Prop where
  chk : ∀ (e : Bool) (k : κ) (w : World), (Instr.checkKey e 10000 t (ek k)).run P w = .ok () w
  find : ∀ (k : κ) (es : List MapEntry) (ks : List κ) (w : World), (es.map fun e => e.key) = ks.map ek → (Instr.findKey t (ek k) es).run P w = .ok ((ks.findIdx? fun x => decide (k = x)).bind fun i => (es[i]?).map fun e => (i, e.val)) w
  stays : ∀ k, Instr.sameBits 10000 (ek k) (ek k) = true

/-- A key of one cell. -/
theorem findNow_run {P : Program} [DecidableEq κ] {t : TypeId} {d : TypeDesc} {ek : κ → Value} (hd : P.underlying t = some d) (hs : ∀ a b : κ, Instr.sameNow d (ek a) (ek b) = some (decide (a = b))) (k : κ) :
    ∀ (es : List MapEntry) (ks : List κ) (i : Nat), (es.map fun e => e.key) = ks.map ek → Instr.findNow d (ek k) es i = some ((ks.findIdx? fun x => decide (k = x)).bind fun j => (es[j]?).map fun e => (i + j, e.val))
  | [], ks, i, h => by
    have : ks = [] := by simpa using h.symm
    subst this
    rfl
  | e :: es, [], i, h => by simp at h
  | e :: es, x :: ks, i, h => by
    simp only [List.map_cons, List.cons.injEq] at h
    unfold Instr.findNow
    rw [h.1, hs k x]
    by_cases hx : k = x
    · simp [List.findIdx?_cons, hx]
    · simp only [hx, decide_false]
      rw [findNow_run hd hs k es ks (i + 1) h.2, List.findIdx?_cons]
      simp only [hx, decide_false, Bool.false_eq_true, if_false]
      cases hf : ks.findIdx? fun x => decide (k = x) with
      | none => simp
      | some j =>
        simp only [Option.bind_some, Option.map_some, List.getElem?_cons_succ]
        congr 1
        cases es[j]? with
        | none => rfl
        | some e' => simp; omega

theorem mapQ.open {L : List HP} {w : World} {b : Nat} {ek : κ → Value} {ev : υ → Value} {p : List MapEntry × Nat} {m : List (κ × υ)} (h : Mem (mapQ b ek ev p m :: L) w) : MOk ek ev p.1 p.2 m ∧ Mem (pt b (.map p.1.toArray p.2) :: L) w := by
  have h : Holds ((lift (MOk ek ev p.1 p.2 m) * pt b (.map p.1.toArray p.2)) * HL L) w := h
  rw [star_assoc] at h
  exact h.lift

theorem mapQ.close {L : List HP} {w : World} {b : Nat} {ek : κ → Value} {ev : υ → Value} {p : List MapEntry × Nat} {m : List (κ × υ)} (hm : MOk ek ev p.1 p.2 m) (h : Mem (pt b (.map p.1.toArray p.2) :: L) w) : Mem (mapQ b ek ev p m :: L) w := by
  show Holds ((lift (MOk ek ev p.1 p.2 m) * pt b (.map p.1.toArray p.2)) * HL L) w
  rw [star_assoc]
  exact Holds.lift_intro hm h

theorem mapAt {L : List HP} {w : World} {b : Nat} {ek : κ → Value} {ev : υ → Value} {p : List MapEntry × Nat} {m : List (κ × υ)} (h : Mem L w) (j : Nat) (hj : nthH L j = mapQ b ek ev p m) : MapAt w b ek ev p m := by
  have h2 := h.at j
  rw [hj] at h2
  obtain ⟨hm, h3⟩ := mapQ.open (L := delH L j) h2
  exact ⟨hm, Holds.block h3⟩

theorem romOf {L : List HP} {w : World} {b : Nat} {ek : κ → Value} {ev : υ → Value} {p : List MapEntry × Nat} {m : List (κ × υ)} (h : Mem L w) (j : Nat) (hj : nthH L j = mapQ b ek ev p m) : RoM L b ek ev p m :=
  ⟨(mapAt h j hj).ok, fun _ hw => (mapAt hw j hj).at_⟩

theorem getMap {P : Program} {w : World} {r : Nat} {es : Array MapEntry} {clock : Nat} (hb : w.heap[r]? = some (.map es clock)) : (getObj r).run P w = .ok (.map es clock) w := by simp [getObj, Sem.run, hb]
theorem setMap {P : Program} {w : World} {r : Nat} {es : Array MapEntry} {clock : Nat} (o : Obj) (hb : w.heap[r]? = some (.map es clock)) : (setObj r o).run P w = .ok () (w.putObj r o) := by simp [setObj, Sem.run, hb, World.putObj]

theorem MOk.keys {ek : κ → Value} {ev : υ → Value} {es : List MapEntry} {clock : Nat} {m : List (κ × υ)} (h : MOk ek ev es clock m) : (es.map fun e => e.key) = (m.map fun x => x.1).map ek := by
  have := congrArg (List.map Prod.fst) h.ents
  simpa [List.map_map, Function.comp_def] using this

theorem MOk.val {ek : κ → Value} {ev : υ → Value} {es : List MapEntry} {clock : Nat} {m : List (κ × υ)} (h : MOk ek ev es clock m) {i : Nat} {x : κ × υ} (hx : m[i]? = some x) : ∃ e, es[i]? = some e ∧ e.key = ek x.1 ∧ e.val = ev x.2 := by
  have := congrArg (fun l => l[i]?) h.ents
  simp only [List.getElem?_map, hx, Option.map_some] at this
  cases he : es[i]? with
  | none => rw [he] at this; simp at this
  | some e => rw [he] at this; simp at this; exact ⟨e, rfl, this.1, this.2⟩

theorem find_map [DecidableEq κ] {m : List (κ × υ)} {k : κ} : ((m.map fun x => x.1).findIdx? fun x => decide (k = x)) = mapI m k := by
  unfold mapI
  rw [List.findIdx?_map]
  rfl

/-- What an update makes of it. -/
def mapPut [DecidableEq κ] (m : List (κ × υ)) (k : κ) (v : υ) : List (κ × υ) := match mapI m k with
  | some i => m.set i (k, v)
  | none => m ++ [(k, v)]

def mapDel [DecidableEq κ] (m : List (κ × υ)) (k : κ) : List (κ × υ) := match mapI m k with
  | some i => m.eraseIdx i
  | none => m

theorem mapI_some [DecidableEq κ] {m : List (κ × υ)} {k : κ} {i : Nat} (h : mapI m k = some i) : ∃ v, m[i]? = some (k, v) ∧ i < m.length := by
  unfold mapI at h
  obtain ⟨hi, hp, -⟩ := List.findIdx?_eq_some_iff_getElem.1 h
  refine ⟨m[i].2, ?_, hi⟩
  rw [List.getElem?_eq_getElem hi]
  simp at hp
  rw [hp]

theorem MOk.put [DecidableEq κ] {ek : κ → Value} {ev : υ → Value} {es : List MapEntry} {clock : Nat} {m : List (κ × υ)} (h : MOk ek ev es clock m) {i : Nat} (k : κ) (v : υ) :
    MOk ek ev (es.modify i fun e => { e with key := ek k, val := ev v }) clock (m.set i (k, v)) := by
  refine ⟨?_, fun e he => ?_, ?_⟩
  · apply List.ext_getElem?
    intro j
    have hj := congrArg (fun l => l[j]?) h.ents
    simp only [List.getElem?_map, List.getElem?_modify, List.getElem?_set] at hj ⊢
    by_cases e : i = j
    · subst e
      simp only [if_true]
      have hl := congrArg List.length h.ents
      simp only [List.length_map] at hl
      by_cases hi : i < m.length
      · simp [hi, List.getElem?_eq_getElem (show i < es.length by omega)]
      · simp [hi, List.getElem?_eq_none (show es.length ≤ i by omega)]
    · simp only [if_neg e]
      simpa using hj
  · obtain ⟨j, hj⟩ := List.getElem?_of_mem he
    rw [List.getElem?_modify] at hj
    cases hej : es[j]? with
    | none => rw [hej] at hj; simp at hj
    | some e' =>
      rw [hej] at hj
      have := h.born e' (List.mem_of_getElem? hej)
      split at hj <;> (simp at hj; subst hj; exact this)
  · have : ((es.modify i fun e => { e with key := ek k, val := ev v }).map fun e => e.born) = es.map fun e => e.born := by
      apply List.ext_getElem?
      intro j
      simp only [List.getElem?_map, List.getElem?_modify]
      cases es[j]? with
      | none => rfl
      | some e => split <;> rfl
    rw [this]
    exact h.nd

theorem MOk.push {ek : κ → Value} {ev : υ → Value} {es : List MapEntry} {clock : Nat} {m : List (κ × υ)} (h : MOk ek ev es clock m) (k : κ) (v : υ) :
    MOk ek ev (es ++ [{ key := ek k, val := ev v, born := clock }]) (clock + 1) (m ++ [(k, v)]) := by
  refine ⟨by rw [List.map_append, List.map_append, h.ents]; rfl, fun e he => ?_, ?_⟩
  · rcases List.mem_append.1 he with he | he
    · have := h.born e he; omega
    · simp at he; subst he; exact Nat.lt_succ_self _
  · rw [List.map_append, List.nodup_append]
    refine ⟨h.nd, by simp, fun a ha b hb => ?_⟩
    obtain ⟨e, he, rfl⟩ := List.mem_map.1 ha
    simp at hb; subst hb
    have := h.born e he
    omega

theorem mapErase {α β : Type} (f : α → β) : ∀ (l : List α) (i : Nat), (l.eraseIdx i).map f = (l.map f).eraseIdx i
  | [], i => by simp
  | a :: l, 0 => rfl
  | a :: l, i + 1 => by simp [mapErase f l i]

theorem MOk.del {ek : κ → Value} {ev : υ → Value} {es : List MapEntry} {clock : Nat} {m : List (κ × υ)} (h : MOk ek ev es clock m) (i : Nat) : MOk ek ev (es.eraseIdx i) clock (m.eraseIdx i) := by
  refine ⟨?_, fun e he => h.born e ((List.eraseIdx_sublist es i).subset he), h.nd.sublist ((List.eraseIdx_sublist es i).map _)⟩
  rw [mapErase, h.ents, ← mapErase]

/-! ### Keys -/

/-- A key of one cell that the machine compares at once. -/
theorem keyOne {P : Program} [DecidableEq κ] {t : TypeId} {d : TypeDesc} {ek : κ → Value} (hd : P.underlying t = some d) (hs : ∀ a b : κ, Instr.sameNow d (ek a) (ek b) = some (decide (a = b)))
    (hc : ∀ (e : Bool) (k : κ) (w : World), (Instr.checkKey e 10000 t (ek k)).run P w = .ok () w) (hb : ∀ k, Instr.sameBits 10000 (ek k) (ek k) = true) : KeyT P t ek := by
  refine ⟨hc, fun k es ks w h => ?_, hb⟩
  have := findNow_run hd hs k es ks 0 h
  simp only [Instr.findKey, Sem.run_bind, run_underlying hd, Result.andThen, this, Sem.run_pure, Nat.zero_add]

theorem asking_run {P : Program} [DecidableEq κ] {t : TypeId} {ek : κ → Value} (he : ∀ (a b : κ) (w : World), (Op.equal t (ek a) (ek b)).run P w = .ok (decide (a = b)) w) (k : κ) : ∀ (es : List MapEntry) (ks : List κ) (i : Nat) (w : World), (es.map fun e => e.key) = ks.map ek →
    (Instr.findAsking t (ek k) es i).run P w = .ok ((ks.findIdx? fun x => decide (k = x)).bind fun j => (es[j]?).map fun e => (i + j, e.val)) w
  | [], ks, i, w, h => by
    have : ks = [] := by simpa using h.symm
    subst this
    rfl
  | e :: es, [], i, w, h => by simp at h
  | e :: es, x :: ks, i, w, h => by
    simp only [List.map_cons, List.cons.injEq] at h
    unfold Instr.findAsking
    simp only [Sem.run_bind, h.1, he, Result.andThen]
    by_cases hx : k = x
    · simp [List.findIdx?_cons, hx]
    · simp only [hx, decide_false, Bool.false_eq_true, if_false]
      rw [asking_run he k es ks (i + 1) w h.2, List.findIdx?_cons]
      simp only [hx, decide_false, Bool.false_eq_true, if_false]
      cases hf : ks.findIdx? fun x => decide (k = x) with
      | none => simp
      | some j =>
        simp only [Option.bind_some, Option.map_some, List.getElem?_cons_succ]
        congr 1
        cases es[j]? with
        | none => rfl
        | some e' => simp; omega

/-- A key of several cells. -/
theorem keyAgg {P : Program} [DecidableEq κ] {t : TypeId} {d : TypeDesc} {ek : κ → Value} (hd : P.underlying t = some d) (hn : ∀ a b : κ, Instr.sameNow d (ek a) (ek b) = none) (he : ∀ (a b : κ) (w : World), (Op.equal t (ek a) (ek b)).run P w = .ok (decide (a = b)) w)
    (hc : ∀ (e : Bool) (k : κ) (w : World), (Instr.checkKey e 10000 t (ek k)).run P w = .ok () w) (hb : ∀ k, Instr.sameBits 10000 (ek k) (ek k) = true) : KeyT P t ek := by
  refine ⟨hc, fun k es ks w h => ?_, hb⟩
  have ha := asking_run he k es ks 0 w h
  simp only [Nat.zero_add] at ha
  cases es with
  | nil =>
    have : ks = [] := by simpa using h.symm
    subst this
    simp [Instr.findKey, Sem.run_bind, run_underlying hd, Result.andThen, Instr.findNow]
  | cons e es =>
    cases ks with
    | nil => simp at h
    | cons x ks =>
      have hk : e.key = ek x := by simp only [List.map_cons, List.cons.injEq] at h; exact h.1
      have : Instr.findNow d (ek k) (e :: es) 0 = none := by
        unfold Instr.findNow
        rw [hk, hn]
      simp only [Instr.findKey, Sem.run_bind, run_underlying hd, Result.andThen, this]
      exact ha

theorem strBeq (a b : ByteArray) : (a == b) = decide (a = b) := by
  obtain ⟨a⟩ := a; obtain ⟨b⟩ := b
  show (a == b) = _
  rw [Bool.eq_iff_iff]
  simp

theorem sameInt (n : Nat) (K : IntKind) (x : Int) : Instr.sameBits n (.int K x) (.int K x) = true := by cases n <;> simp [Instr.sameBits]
theorem sameBool (n : Nat) (x : Bool) : Instr.sameBits n (.bool x) (.bool x) = true := by cases n <;> simp [Instr.sameBits]
theorem sameStr (n : Nat) (x : ByteArray) : Instr.sameBits n (.string x) (.string x) = true := by cases n <;> simp [Instr.sameBits, strBeq]

theorem sameAgg (n : Nat) (l : List Value) (h : ∀ v ∈ l, Instr.sameBits n v v = true) : Instr.sameBits (n + 1) (.agg l.toArray) (.agg l.toArray) = true := by
  simp only [Instr.sameBits, beq_self_eq_true, Bool.true_and, List.all_eq_true]
  intro x hx
  have : ∀ (l : List Value) (x : Value × Value), x ∈ l.zip l → x.1 = x.2 ∧ x.1 ∈ l := by
    intro l
    induction l with
    | nil => intro x hx; simp at hx
    | cons a l ih =>
      intro x hx
      rw [List.zip_cons_cons, List.mem_cons] at hx
      rcases hx with rfl | hx
      · exact ⟨rfl, List.mem_cons_self ..⟩
      · exact ⟨(ih x hx).1, List.mem_cons_of_mem _ (ih x hx).2⟩
  obtain ⟨h1, h2⟩ := this l x hx
  obtain ⟨a, c⟩ := x
  simp only at h1 h2
  subst h1
  exact h a h2

theorem keyInt {P : Program} {t : TypeId} {K : IntKind} (hd : P.underlying t = some (.int K)) : KeyT P t (fun n : Int => Value.int K n) :=
  keyOne hd (fun a b => by simp only [Instr.sameNow, if_true, Option.some.injEq]; rw [Bool.eq_iff_iff]; simp) (fun e k w => MapKept.run_checkKey hd (by simp [MapKept.IsKey]) e 9999) (fun k => sameInt _ _ _)

theorem keyStr {P : Program} {t : TypeId} (hd : P.underlying t = some .string) : KeyT P t (fun s : ByteArray => Value.string s) :=
  keyOne hd (fun a b => by simp only [Instr.sameNow, strBeq]) (fun e k w => MapKept.run_checkKey hd (by simp [MapKept.IsKey]) e 9999) (fun k => sameStr _ _)

def isStructB (P : Program) (t : TypeId) : Bool := match P.underlying t with
  | some (.struct _) => true
  | _ => false

/-- A key that is a struct. -/
theorem keyStruct {P : Program} [DecidableEq κ] {t : TypeId} {enc : κ → List Value} {ek : κ → Value} (he : ∀ k, ek k = .agg (enc k).toArray) (hs : isStructB P t = true) (hagg : isAggB P t = true)
    (heq : ∀ a b : κ, eqT P 20 t (enc a) (enc b) = some (decide (a = b))) (hc : ∀ (e : Bool) (k : κ) (w : World), (Instr.checkKey e 10000 t (ek k)).run P w = .ok () w)
    (hb : ∀ k, ∀ v ∈ enc k, Instr.sameBits 9999 v v = true) : KeyT P t ek := by
  unfold isStructB at hs
  split at hs
  case h_2 => exact absurd hs (by simp)
  rename_i fs hd
  refine keyAgg hd (fun a b => by rw [he, he]; rfl) (fun a b w => ?_) hc (fun k => by rw [he]; exact sameAgg 9999 _ (hb k))
  have := (eqT_run (P := P) 20).1 t (enc a) (enc b) _ 9980 w (heq a b)
  simp only [valOf, hagg, if_true] at this
  rw [he, he]
  exact this

/-! ### The operations -/

/-- What stands at a key; else the zero. -/
def mapGet [DecidableEq κ] (m : List (κ × υ)) (k : κ) (d : υ) : υ := ((mapI m k).bind fun i => (m[i]?).map fun x => x.2).getD d
def mapHas [DecidableEq κ] (m : List (κ × υ)) (k : κ) : Bool := (mapI m k).isSome

/-- What an entry that is asked for makes of it. -/
def mapEnt [DecidableEq κ] (m : List (κ × υ)) (k : κ) (z : υ) : List (κ × υ) := match mapI m k with
  | some _ => m
  | none => m ++ [(k, z)]

section
variable {P : Program} {w : World} {b : Nat} {mt t et : TypeId} {ek : κ → Value} {ev : υ → Value} {p : List MapEntry × Nat} {m : List (κ × υ)} {k : κ}

theorem findAt [DecidableEq κ] (hm : MapAt w b ek ev p m) (hk : KeyT P t ek) (k : κ) : (Instr.findKey t (ek k) p.1).run P w = .ok ((mapI m k).bind fun i => (p.1[i]?).map fun e => (i, e.val)) w := by
  have := hk.find k p.1 (m.map fun x => x.1) w hm.ok.keys
  rwa [find_map] at this

theorem lookupW0 [DecidableEq κ] {z : Value} {ok : Bool} {K : Value → World → Prop} (hm : MapAt w b ek ev p m) (hu : P.underlying mt = some (.map t et)) (hk : KeyT P t ek) (hz : ∀ w, (zeroValue et).run P w = .ok z w)
    (hK : K (if ok then .tuple #[((mapI m k).bind fun i => (m[i]?).map fun x => ev x.2).getD z, .bool ((mapI m k).isSome)] else ((mapI m k).bind fun i => (m[i]?).map fun x => ev x.2).getD z) w) :
    RunW P (Instr.lookup mt (.map (some b)) (ek k) ok) K w := by
  have hf := findAt hm hk k
  refine ⟨_, w, ?_, hK⟩
  simp only [Instr.lookup, Sem.run_bind, run_underlying hu, Result.andThen, getMap hm.at_, Sem.run_pure, hk.chk, hf]
  cases hi : mapI m k with
  | none => simp only [Option.bind_none, hz, Result.andThen, Sem.run_pure, Sem.run_bind, Option.getD_none, Option.isSome_none]
  | some i =>
    have hil : i < m.length := by
      unfold mapI at hi
      exact (List.findIdx?_eq_some_iff_getElem.1 hi).1
    obtain ⟨e, he, -, hv⟩ := hm.ok.val (List.getElem?_eq_getElem hil)
    simp only [Option.bind_some, he, Option.map_some, List.getElem?_eq_getElem hil, Result.andThen, Sem.run_pure, Sem.run_bind, Option.getD_some, Option.isSome_some, hv]

theorem mapGet_ev [DecidableEq κ] {d : υ} : ((mapI m k).bind fun i => (m[i]?).map fun x => ev x.2).getD (ev d) = ev (mapGet m k d) := by
  unfold mapGet
  cases mapI m k with
  | none => rfl
  | some i =>
    simp only [Option.bind_some]
    cases m[i]? <;> rfl

/-- A look. -/
theorem lookW [DecidableEq κ] {d : υ} {K : Value → World → Prop} (hm : MapAt w b ek ev p m) (hu : P.underlying mt = some (.map t et)) (hk : KeyT P t ek) (hz : ∀ w, (zeroValue et).run P w = .ok (ev d) w) (hK : K (ev (mapGet m k d)) w) :
    RunW P (Instr.lookup mt (.map (some b)) (ek k) false) K w := lookupW0 (ok := false) hm hu hk hz (by rw [if_neg (by simp), mapGet_ev]; exact hK)

theorem lookW2 [DecidableEq κ] {d : υ} {K : Value → World → Prop} (hm : MapAt w b ek ev p m) (hu : P.underlying mt = some (.map t et)) (hk : KeyT P t ek) (hz : ∀ w, (zeroValue et).run P w = .ok (ev d) w) (hK : K (.tuple #[ev (mapGet m k d), .bool (mapHas m k)]) w) :
    RunW P (Instr.lookup mt (.map (some b)) (ek k) true) K w := lookupW0 (ok := true) hm hu hk hz (by rw [if_pos rfl, mapGet_ev]; exact hK)

theorem MOk.length {es : List MapEntry} {c : Nat} (h : MOk ek ev es c m) : es.length = m.length := by
  have := congrArg List.length h.ents
  simpa using this

theorem lenMapW {ty : TypeId} {K : Value → World → Prop} (hm : MapAt w b ek ev p m) (hu : P.underlying mt = some (.map t et)) (hK : K (.int .i64 m.length) w) :
    RunW P (Builtin.len_ #[mt] ty #[.map (some b)]) K w := by
  refine ⟨_, w, ?_, hK⟩
  have := hm.ok.length
  simp only [Builtin.len_, List.getElem?_toArray, List.getElem?_cons_zero, Sem.run_bind, run_underlying hu, Result.andThen, getMap hm.at_, Sem.run_pure, goInt, List.size_toArray, this]

/-- A map is made. -/
theorem makeMapL {L : List HP} {K : Value → World → Prop} (h : Mem L w) (hK : ∀ b p w', Mem (mapQ b ek ev p ([] : List (κ × υ)) :: L) w' → K (.map (some b)) w') :
    RunW P (Instr.makeMap mt none) K w := by
  refine ⟨_, _, ?_, hK w.heap.size ([], 0) (w.alloc (.map #[] 0)) (mapQ.close ⟨rfl, fun e he => by simp at he, by simp⟩ (Holds.alloc h _))⟩
  simp [Instr.makeMap, Sem.run_bind, run_newObj_alloc, Result.andThen]

theorem makeMapN {L : List HP} {x : Int} {K : Value → World → Prop} (h : Mem L w) (hu : P.underlying mt = some (.map t et)) (hK : ∀ b p w', Mem (mapQ b ek ev p ([] : List (κ × υ)) :: L) w' → K (.map (some b)) w') :
    RunW P (Instr.makeMap mt (some (.int .i64 x))) K w := by
  refine ⟨_, _, ?_, hK w.heap.size ([], 0) (w.alloc (.map #[] 0)) (mapQ.close ⟨rfl, fun e he => by simp at he, by simp⟩ (Holds.alloc h _))⟩
  simp [Instr.makeMap, Sem.run_bind, run_newObj_alloc, Result.andThen, run_underlying hu, asInt, asIntOf]

/-- An entry is set. -/
theorem mapPutL [DecidableEq κ] {L : List HP} {v : υ} {K : World → Prop}
    (h : Mem (mapQ b ek ev p m :: L) w) (hu : P.underlying mt = some (.map t et)) (hk : KeyT P t ek) (hK : ∀ p' w', Mem (mapQ b ek ev p' (mapPut m k v) :: L) w' → K w') :
    RunU P (Instr.mapUpdate mt (.map (some b)) (ek k) (ev v)) K w := by
  obtain ⟨hm, h⟩ := mapQ.open h
  have hb : w.heap[b]? = some (.map p.1.toArray p.2) := Holds.block h
  have hf := findAt ⟨hm, hb⟩ hk k
  unfold mapPut at hK
  cases hi : mapI m k with
  | none =>
    rw [hi] at hf hK
    refine ⟨w.putObj b (.map (p.1 ++ [({ key := ek k, val := ev v, born := p.2 } : MapEntry)]).toArray (p.2 + 1)), ?_, hK _ _ (mapQ.close (p := (_, _)) (hm.push k v) (Holds.put h _))⟩
    simp only [Instr.mapUpdate, Sem.run_bind, run_underlying hu, Result.andThen, getMap hb, Sem.run_pure, hk.chk, hf, Option.bind_none]
    rw [setMap _ hb]
    simp
  | some i =>
    rw [hi] at hf hK
    obtain ⟨v0, hmi, hil⟩ := mapI_some hi
    obtain ⟨e, he, he1, he2⟩ := hm.val hmi
    refine ⟨w.putObj b (.map (p.1.modify i fun e => { e with key := ek k, val := ev v }).toArray p.2), ?_, hK _ _ (mapQ.close (p := (_, _)) (hm.put k v) (Holds.put h _))⟩
    simp only [Instr.mapUpdate, Sem.run_bind, run_underlying hu, Result.andThen, getMap hb, Sem.run_pure, hk.chk, hf, Option.bind_some, he, Option.map_some, List.getElem?_toArray, Option.getD_some, Instr.keyThatStays, he1, hk.stays, if_true]
    rw [setMap _ hb]
    simp

/-- An entry is taken out. -/
theorem mapDelL [DecidableEq κ] {L : List HP} {kt ty : TypeId} {K : Value → World → Prop}
    (h : Mem (mapQ b ek ev p m :: L) w) (hu : P.underlying mt = some (.map t et)) (hk : KeyT P t ek) (hK : ∀ p' w', Mem (mapQ b ek ev p' (mapDel m k) :: L) w' → K (.tuple #[]) w') :
    RunW P (Builtin.delete_ #[mt, kt] ty #[.map (some b), ek k]) K w := by
  obtain ⟨hm, h⟩ := mapQ.open h
  have hb : w.heap[b]? = some (.map p.1.toArray p.2) := Holds.block h
  have hf := findAt ⟨hm, hb⟩ hk k
  unfold mapDel at hK
  cases hi : mapI m k with
  | none =>
    rw [hi] at hf hK
    refine ⟨_, w.putObj b (.map p.1.toArray p.2), ?_, hK p _ (mapQ.close hm (Holds.put h _))⟩
    simp only [Builtin.delete_, List.getElem?_toArray, List.getElem?_cons_zero, List.getElem?_cons_succ, Sem.run_bind, run_underlying hu, Result.andThen, getMap hb, Sem.run_pure, hk.chk, hf, Option.bind_none]
    rw [setMap _ hb]
  | some i =>
    rw [hi] at hf hK
    obtain ⟨v0, hmi, hil⟩ := mapI_some hi
    obtain ⟨e, he, he1, he2⟩ := hm.val hmi
    refine ⟨_, w.putObj b (.map (p.1.eraseIdx i).toArray p.2), ?_, hK _ _ (mapQ.close (p := (_, _)) (hm.del i) (Holds.put h _))⟩
    simp only [Builtin.delete_, List.getElem?_toArray, List.getElem?_cons_zero, List.getElem?_cons_succ, Sem.run_bind, run_underlying hu, Result.andThen, getMap hb, Sem.run_pure, hk.chk, hf, Option.bind_some, he, Option.map_some]
    rw [setMap _ hb]
    simp

/-- All are taken out. -/
theorem mapClearL {L : List HP} {ty : TypeId} {K : Value → World → Prop}
    (h : Mem (mapQ b ek ev p m :: L) w) (hu : P.underlying mt = some (.map t et)) (hK : ∀ p' w', Mem (mapQ b ek ev p' ([] : List (κ × υ)) :: L) w' → K (.tuple #[]) w') :
    RunW P (Builtin.clear_ #[mt] ty #[.map (some b)]) K w := by
  obtain ⟨hm, h⟩ := mapQ.open h
  have hb : w.heap[b]? = some (.map p.1.toArray p.2) := Holds.block h
  refine ⟨_, w.putObj b (.map #[] p.2), ?_, hK ([], p.2) _ (mapQ.close ⟨rfl, fun e he => by simp at he, by simp⟩ (Holds.put h _))⟩
  simp only [Builtin.clear_, List.getElem?_toArray, List.getElem?_cons_zero, Sem.run_bind, run_underlying hu, Result.andThen, getMap hb, Sem.run_pure]
  rw [setMap _ hb]

/-- That a stamp is the entry's of key k in the block p; m: what was there before it was asked for. -/
def StampOf [DecidableEq κ] (ek : κ → Value) (p : List MapEntry × Nat) (m : List (κ × υ)) (k : κ) (z : υ) (st : Int) : Prop :=
  ∃ i e, p.1[i]? = some e ∧ (e.born : Int) = st ∧ (mapI (mapEnt m k z) k = some i)

theorem mapI_append [DecidableEq κ] {v : υ} (h : mapI m k = none) : mapI (m ++ [(k, v)]) k = some m.length := by
  unfold mapI at h ⊢
  rw [List.findIdx?_append, h]
  simp [List.findIdx?_cons]

/-- An entry is asked for: (its value, its stamp). -/
theorem mapEntL [DecidableEq κ] {L : List HP} {d : υ} {K : Value → World → Prop}
    (h : Mem (mapQ b ek ev p m :: L) w) (hu : P.underlying mt = some (.map t et)) (hk : KeyT P t ek) (hz : ∀ w, (zeroValue et).run P w = .ok (ev d) w)
    (hK : ∀ p' st w', StampOf ek p' m k d st → Mem (mapQ b ek ev p' (mapEnt m k d) :: L) w' → K (.tuple #[ev (mapGet m k d), .int .i64 st]) w') :
    RunW P (Instr.mapEntry mt (.map (some b)) (ek k)) K w := by
  obtain ⟨hm, h⟩ := mapQ.open h
  have hb : w.heap[b]? = some (.map p.1.toArray p.2) := Holds.block h
  have hf := findAt ⟨hm, hb⟩ hk k
  unfold StampOf mapEnt mapGet at hK
  cases hi : mapI m k with
  | none =>
    simp only [hi] at hf hK
    refine ⟨_, w.putObj b (.map (p.1 ++ [({ key := ek k, val := ev d, born := p.2 } : MapEntry)]).toArray (p.2 + 1)), ?_, hK (_, _) p.2 _ ⟨p.1.length, _, by simp; rfl, rfl, ?_⟩ (mapQ.close (p := (_, _)) (hm.push k d) (Holds.put h _))⟩
    · simp only [Instr.mapEntry, Sem.run_bind, run_underlying hu, Result.andThen, getMap hb, Sem.run_pure, hk.chk, hf, Option.bind_none, hz]
      rw [setMap _ hb]
      simp [goInt]
    · rw [mapI_append hi, hm.length]
  | some i =>
    simp only [hi] at hf hK
    obtain ⟨v0, hmi, hil⟩ := mapI_some hi
    obtain ⟨e, he, he1, he2⟩ := hm.val hmi
    have hsame : (p.1.modify i fun e => { e with key := ek k }) = p.1 := by
      apply List.ext_getElem?
      intro j
      rw [List.getElem?_modify]
      by_cases hj : i = j
      · subst hj
        rw [he]
        show some (if i = i then ({ e with key := ek k } : MapEntry) else e) = some e
        rw [if_pos rfl, ← show e.key = ek k from he1]
      · simp [hj]
    refine ⟨_, w.putObj b (.map p.1.toArray p.2), ?_, hK p e.born _ ⟨i, e, he, rfl, rfl⟩ (mapQ.close hm (Holds.put h _))⟩
    simp only [Instr.mapEntry, Sem.run_bind, run_underlying hu, Result.andThen, getMap hb, Sem.run_pure, hk.chk, hf, Option.bind_some, he, Option.map_some, List.getElem?_toArray, Option.getD_some, Instr.keyThatStays, he1, hk.stays, if_true]
    rw [setMap _ hb]
    simp [goInt, hsame, he2, hmi]

theorem find_stamp : ∀ (es : List MapEntry) (i : Nat) (e : MapEntry), (es.map fun e => e.born).Nodup → es[i]? = some e → es.findIdx? (fun x => (x.born : Int) == (e.born : Int)) = some i
  | [], i, e, _, h => by simp at h
  | a :: es, 0, e, hn, h => by simp at h; subst h; simp [List.findIdx?_cons]
  | a :: es, i + 1, e, hn, h => by
    simp only [List.map_cons, List.nodup_cons] at hn
    simp only [List.getElem?_cons_succ] at h
    have hne : a.born ≠ e.born := fun c => hn.1 (c ▸ List.mem_map.2 ⟨e, List.mem_of_getElem? h, rfl⟩)
    rw [List.findIdx?_cons]
    have : ((a.born : Int) == (e.born : Int)) = false := by rw [beq_eq_false_iff_ne]; omega
    rw [this, find_stamp es i e hn.2 h]
    rfl

theorem mapPut_ent [DecidableEq κ] {z v : υ} : mapPut (mapEnt m k z) k v = mapPut m k v := by
  unfold mapEnt
  cases hi : mapI m k with
  | some i => rfl
  | none =>
    simp only []
    unfold mapPut
    rw [mapI_append hi, hi]
    simp

theorem mapGet_ent [DecidableEq κ] {z : υ} (k' : κ) : mapGet (mapEnt m k z) k' z = mapGet m k' z := by
  unfold mapEnt
  cases hi : mapI m k with
  | some i => rfl
  | none =>
    simp only []
    unfold mapGet mapI
    rw [List.findIdx?_append]
    cases hj : m.findIdx? (fun x => decide (k' = x.1)) with
    | some j =>
      have hl := (List.findIdx?_eq_some_iff_getElem.1 hj).1
      simp [List.getElem?_append_left hl]
    | none =>
      by_cases e : k' = k
      · subst e; simp [List.findIdx?_cons]
      · simp [List.findIdx?_cons, e]

/-- The entry that was asked for is set. -/
theorem entryStoreL [DecidableEq κ] {L : List HP} {d v : υ} {st : Int} {K : World → Prop} (hs : StampOf ek p m k d st)
    (h : Mem (mapQ b ek ev p (mapEnt m k d) :: L) w) (hK : ∀ p' w', Mem (mapQ b ek ev p' (mapPut m k v) :: L) w' → K w') :
    RunU P (Instr.entryStore mt (.map (some b)) (.int .i64 st) (ev v)) K w := by
  obtain ⟨hm, h⟩ := mapQ.open h
  have hb : w.heap[b]? = some (.map p.1.toArray p.2) := Holds.block h
  obtain ⟨i, e, he, rfl, hi⟩ := hs
  obtain ⟨v0, hmi, hil⟩ := mapI_some hi
  obtain ⟨e', he', he1, he2⟩ := hm.val hmi
  rw [he] at he'; cases he'
  have hmod : (p.1.modify i fun e => { e with key := ek k, val := ev v }) = p.1.modify i fun e => { e with val := ev v } := by
    apply List.ext_getElem?
    intro j
    rw [List.getElem?_modify, List.getElem?_modify]
    by_cases hj : i = j
    · subst hj
      rw [he]
      show some (if i = i then ({ e with key := ek k, val := ev v } : MapEntry) else e) = some (if i = i then ({ e with val := ev v } : MapEntry) else e)
      rw [if_pos rfl, if_pos rfl, ← show e.key = ek k from he1]
    · simp [hj]
  have hput : (mapEnt m k d).set i (k, v) = mapPut m k v := by
    rw [← mapPut_ent (z := d)]
    unfold mapPut
    rw [hi]
  have h2 := hm.put (i := i) k v
  rw [hmod, hput] at h2
  refine ⟨w.putObj b (.map (p.1.modify i fun e => { e with val := ev v }).toArray p.2), ?_, hK _ _ (mapQ.close (p := (_, _)) h2 (Holds.put h _))⟩
  have hfi := find_stamp p.1 i e hm.nd he
  simp only [Instr.entryStore, Sem.run_bind, Result.andThen, getMap hb, asInt, asIntOf, Sem.run_pure, List.findIdx?_toArray, hfi]
  rw [setMap _ hb]
  simp

/-! ### Those forms at a part of the memory -/

theorem mapPutG [DecidableEq κ] {L : List HP} {v : υ} {K : World → Prop}
    (h : Mem L w) (j : Nat) (hj : nthH L j = mapQ b ek ev p m) (hu : P.underlying mt = some (.map t et)) (hk : KeyT P t ek) (hK : ∀ p' w', Mem (setH L j (mapQ b ek ev p' (mapPut m k v))) w' → K w') :
    RunU P (Instr.mapUpdate mt (.map (some b)) (ek k) (ev v)) K w := by
  have h2 := h.at j
  rw [hj] at h2
  exact mapPutL (L := delH L j) h2 hu hk fun p' w' h' => hK p' w' (HL_set_le L j _ h')

theorem mapDelG [DecidableEq κ] {L : List HP} {kt ty : TypeId} {K : Value → World → Prop}
    (h : Mem L w) (j : Nat) (hj : nthH L j = mapQ b ek ev p m) (hu : P.underlying mt = some (.map t et)) (hk : KeyT P t ek) (hK : ∀ p' w', Mem (setH L j (mapQ b ek ev p' (mapDel m k))) w' → K (.tuple #[]) w') :
    RunW P (Builtin.delete_ #[mt, kt] ty #[.map (some b), ek k]) K w := by
  have h2 := h.at j
  rw [hj] at h2
  exact mapDelL (L := delH L j) h2 hu hk fun p' w' h' => hK p' w' (HL_set_le L j _ h')

theorem mapClearG {L : List HP} {ty : TypeId} {K : Value → World → Prop}
    (h : Mem L w) (j : Nat) (hj : nthH L j = mapQ b ek ev p m) (hu : P.underlying mt = some (.map t et)) (hK : ∀ p' w', Mem (setH L j (mapQ b ek ev p' ([] : List (κ × υ)))) w' → K (.tuple #[]) w') :
    RunW P (Builtin.clear_ #[mt] ty #[.map (some b)]) K w := by
  have h2 := h.at j
  rw [hj] at h2
  exact mapClearL (L := delH L j) h2 hu fun p' w' h' => hK p' w' (HL_set_le L j _ h')

theorem mapEntG [DecidableEq κ] {L : List HP} {d : υ} {K : Value → Value → World → Prop}
    (h : Mem L w) (j : Nat) (hj : nthH L j = mapQ b ek ev p m) (hu : P.underlying mt = some (.map t et)) (hk : KeyT P t ek) (hz : ∀ w, (zeroValue et).run P w = .ok (ev d) w)
    (hK : ∀ p' st w', StampOf ek p' m k d st → Mem (setH L j (mapQ b ek ev p' (mapEnt m k d))) w' → K (ev (mapGet m k d)) (.int .i64 st) w') :
    RunW P (Instr.mapEntry mt (.map (some b)) (ek k)) (fun v w' => ∃ k x : Value, v = .tuple #[k, x] ∧ K k x w') w := by
  have h2 := h.at j
  rw [hj] at h2
  exact mapEntL (L := delH L j) (K := fun v w' => ∃ k x : Value, v = .tuple #[k, x] ∧ K k x w') h2 hu hk hz fun p' st w' hs h' => ⟨_, _, rfl, hK p' st w' hs (HL_set_le L j _ h')⟩

theorem entryStoreG [DecidableEq κ] {L : List HP} {d v : υ} {st : Int} {K : World → Prop} (hs : StampOf ek p m k d st)
    (h : Mem L w) (j : Nat) (hj : nthH L j = mapQ b ek ev p (mapEnt m k d)) (hK : ∀ p' w', Mem (setH L j (mapQ b ek ev p' (mapPut m k v))) w' → K w') :
    RunU P (Instr.entryStore mt (.map (some b)) (.int .i64 st) (ev v)) K w := by
  have h2 := h.at j
  rw [hj] at h2
  exact entryStoreL (L := delH L j) hs h2 fun p' w' h' => hK p' w' (HL_set_le L j _ h')

/-! ### A map that is gone through -/

/-- One who goes through a map: the entry that he stands at, who is left. -/
def itQ (l b : Nat) (ek : κ → Value) (ev : υ → Value) (p : List MapEntry × Nat) (cur : Option (κ × υ)) (lf : List (κ × υ)) : HP := exH fun seen : Array Nat =>
  lift (((p.1.filter fun e => !seen.contains e.born).map fun e => (e.key, e.val)) = (lf.map fun x => (ek x.1, ev x.2)) ∧ ∀ x, cur = some x → ∃ e s, e ∈ p.1 ∧ seen = Array.push s e.born ∧ e.key = ek x.1 ∧ e.val = ev x.2) * pt l (.mapIter (some b) p.2 seen p.2)

variable {l : Nat} {cur : Option (κ × υ)} {lf : List (κ × υ)}

theorem itQ.open {L : List HP} (h : Mem (itQ l b ek ev p cur lf :: L) w) : ∃ seen, ((p.1.filter fun e => !Array.contains seen e.born).map fun e => (e.key, e.val)) = (lf.map fun x => (ek x.1, ev x.2)) ∧ (∀ x, cur = some x → ∃ e s, e ∈ p.1 ∧ seen = Array.push s e.born ∧ e.key = ek x.1 ∧ e.val = ev x.2) ∧
    Mem (pt l (.mapIter (some b) p.2 seen p.2) :: L) w := by
  obtain ⟨seen, h⟩ := Holds.ex h
  rw [star_assoc] at h
  obtain ⟨⟨h1, h2⟩, h⟩ := h.lift
  exact ⟨seen, h1, h2, h⟩

theorem itQ.close {L : List HP} {seen : Array Nat} (h1 : ((p.1.filter fun e => !Array.contains seen e.born).map fun e => (e.key, e.val)) = (lf.map fun x => (ek x.1, ev x.2))) (h2 : ∀ x, cur = some x → ∃ e s, e ∈ p.1 ∧ seen = Array.push s e.born ∧ e.key = ek x.1 ∧ e.val = ev x.2)
    (h : Mem (pt l (.mapIter (some b) p.2 seen p.2) :: L) w) : Mem (itQ l b ek ev p cur lf :: L) w := by
  refine Holds.ex_intro seen ?_
  rw [star_assoc]
  exact Holds.lift_intro ⟨h1, h2⟩ h

theorem itForget {L : List HP} (h : Mem L w) (j : Nat) (hj : nthH L j = itQ l b ek ev p cur lf) : Mem (setH L j (itQ l b ek ev p none lf)) w := by
  have h2 := h.at j
  rw [hj] at h2
  obtain ⟨seen, h1, -, h3⟩ := itQ.open (L := delH L j) h2
  exact HL_set_le L j _ (itQ.close h1 (fun x e => by cases e) h3)

theorem rangeW {L : List HP} {K : Value → World → Prop} (h : Mem L w) (hm : MapAt w b ek ev p m) (hu : P.underlying mt = some (.map t et))
    (hK : ∀ l w', Mem (itQ l b ek ev p none m :: L) w' → K (.pointer (some ⟨l, 0, none⟩)) w') : RunW P (Instr.range mt (.map (some b))) K w := by
  refine ⟨_, _, ?_, hK w.heap.size (w.alloc (.mapIter (some b) p.2 #[] p.2)) (itQ.close (seen := #[]) ?_ (fun x e => by cases e) (Holds.alloc h _))⟩
  · simp [Instr.range, Sem.run_bind, run_underlying hu, getMap hm.at_, run_newObj_alloc, Result.andThen]
  · have : (p.1.filter fun e => !Array.contains (#[] : Array Nat) e.born) = p.1 := List.filter_eq_self.2 fun e _ => by simp
    rw [this]; exact hm.ok.ents

theorem eraseBorn : ∀ (F : List MapEntry) (i : Nat) (e : MapEntry), (F.map fun x => x.born).Nodup → F[i]? = some e → (F.filter fun x => !(x.born == e.born)) = F.eraseIdx i
  | [], i, e, _, h => by simp at h
  | a :: F, 0, e, hn, h => by
    simp at h; subst h
    simp only [List.map_cons, List.nodup_cons] at hn
    rw [List.filter_cons_of_neg (by simp), List.eraseIdx_cons_zero]
    refine List.filter_eq_self.2 fun x hx => ?_
    have : x.born ≠ a.born := fun c => hn.1 (c ▸ List.mem_map.2 ⟨x, hx, rfl⟩)
    simpa using this
  | a :: F, i + 1, e, hn, h => by
    simp only [List.map_cons, List.nodup_cons] at hn
    simp only [List.getElem?_cons_succ] at h
    have hne : a.born ≠ e.born := fun c => hn.1 (c ▸ List.mem_map.2 ⟨e, List.mem_of_getElem? h, rfl⟩)
    rw [List.filter_cons_of_pos (by simpa using hne), List.eraseIdx_cons_succ, eraseBorn F i e hn.2 h]

theorem nextL {L : List HP} {ty : TypeId} {K0 : World → Prop} {K1 : Value → Value → World → Prop} (h : Mem (itQ l b ek ev p cur lf :: L) w) (hm : MapAt w b ek ev p m)
    (h0 : lf = [] → K0 w)
    (h1 : ∀ (i : Nat) (x : κ × υ) (w' : World), lf[i]? = some x → Mem (itQ l b ek ev p (some x) (lf.eraseIdx i) :: L) w' → K1 (ek x.1) (ev x.2) w') :
    RunW P (Instr.next (.pointer (some ⟨l, 0, none⟩)) false ty) (fun v w' => (v = .tuple #[.bool false] ∧ K0 w') ∨ ∃ k x : Value, v = .tuple #[.bool true, k, x] ∧ K1 k x w') w := by
  obtain ⟨seen, hl, -, h⟩ := itQ.open h
  have hr : w.heap[l]? = some (.mapIter (some b) p.2 seen p.2) := Holds.block h
  have hlist : (leftOf p.1.toArray seen).toList = p.1.filter fun e => !Array.contains seen e.born := by unfold leftOf; simp
  rcases run_next_at (P := P) w ty l b p.2 p.2 seen p.1.toArray p.2 hr hm.at_ (fun x hx => hm.ok.born x (by simpa using hx)) (Nat.le_refl _) with ⟨hz, hrun⟩ | ⟨e, he, w1, hw1, hrun⟩
  · refine ⟨_, w, hrun, Or.inl ⟨rfl, h0 ?_⟩⟩
    have hz2 : (p.1.filter fun e => !Array.contains seen e.born) = [] := by rw [← hlist]; simpa using hz
    rw [hz2] at hl
    simpa using hl.symm
  · rw [hlist] at he
    obtain ⟨i, hi⟩ := List.getElem?_of_mem he
    have hx := congrArg (fun q => q[i]?) hl
    simp only [List.getElem?_map, hi, Option.map_some] at hx
    cases hlx : lf[i]? with
    | none => rw [hlx] at hx; simp at hx
    | some x =>
      rw [hlx] at hx
      simp at hx
      refine ⟨_, _, hrun, Or.inr ⟨e.key, e.val, rfl, ?_⟩⟩
      rw [hx.1, hx.2]
      refine h1 i x _ hlx (itQ.close (seen := seen.push e.born) ?_ ?_ ?_)
      · have hnd : ((p.1.filter fun e => !Array.contains seen e.born).map fun x => x.born).Nodup := hm.ok.nd.sublist (List.filter_sublist.map _)
        have e1 : (p.1.filter fun x => !Array.contains (seen.push e.born) x.born) = (p.1.filter fun x => !Array.contains seen x.born).eraseIdx i := by
          rw [← eraseBorn _ i e hnd hi, List.filter_filter]
          congr 1
          funext x
          by_cases hxe : x.born = e.born <;> simp [Array.contains_push, hxe]
        rw [e1, mapErase, hl, mapErase]
      · rintro y hy
        cases hy
        exact ⟨e, seen, (List.mem_filter.1 he).1, rfl, hx.1, hx.2⟩
      · have hw : Mem (pt l (.mapIter (some b) p.2 seen p.2) :: L) w1 := by
          rcases hw1 with rfl | rfl
          · exact h
          · exact Mem.drew h
        exact Holds.put hw _

/-- The next one: any that is left. -/
theorem nextG {L : List HP} {ty : TypeId} {K0 : World → Prop} {K1 : Value → Value → World → Prop} (h : Mem L w) (j : Nat) (hj : nthH L j = itQ l b ek ev p cur lf) (hm : MapAt w b ek ev p m)
    (h0 : lf = [] → K0 w)
    (h1 : ∀ (i : Nat) (x : κ × υ) (w' : World), lf[i]? = some x → Mem (setH L j (itQ l b ek ev p (some x) (lf.eraseIdx i))) w' → K1 (ek x.1) (ev x.2) w') :
    RunW P (Instr.next (.pointer (some ⟨l, 0, none⟩)) false ty) (fun v w' => (v = .tuple #[.bool false] ∧ K0 w') ∨ ∃ k x : Value, v = .tuple #[.bool true, k, x] ∧ K1 k x w') w := by
  have h2 := h.at j
  rw [hj] at h2
  exact nextL (L := delH L j) h2 hm h0 fun i x w' e h' => h1 i x w' e (HL_set_le L j _ h')

/-- The entry that he stands at. -/
theorem entryG {L : List HP} {x : κ × υ} {K : Value → Value → World → Prop} (h : Mem L w) (j : Nat) (hj : nthH L j = itQ l b ek ev p (some x) lf) (hm : MapAt w b ek ev p m)
    (hK : K (ek x.1) (ev x.2) w) : RunW P (Instr.entry (.pointer (some ⟨l, 0, none⟩))) (fun v w' => ∃ k x : Value, v = .tuple #[k, x] ∧ K k x w') w := by
  have h2 := h.at j
  rw [hj] at h2
  obtain ⟨seen, -, hc, h3⟩ := itQ.open (L := delH L j) h2
  obtain ⟨e, s, he, rfl, hk, hv⟩ := hc x rfl
  have hr : w.heap[l]? = some (.mapIter (some b) p.2 (s.push e.born) p.2) := Holds.block h3
  refine ⟨_, _, run_entry_at w l b p.2 s p.1.toArray p.2 e hr hm.at_ (by simpa using he) (by simpa using hm.ok.nd), e.key, e.val, rfl, ?_⟩
  rw [hk, hv]; exact hK

end

end
end Go.Eng
