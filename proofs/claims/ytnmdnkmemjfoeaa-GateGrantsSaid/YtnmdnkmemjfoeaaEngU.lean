/-
  The engine, part U: maps: their entries in the order in which they came.
-/
import Derived.Test.YtnmdnkmemjfoeaaEngM
import Derived.Maps.RangeRun
namespace Go.Eng
open Go Go.RowKit
section
variable {κ υ : Type}
/-- The entries of a map are these pairs. -/
structure MOk (ek : κ → Value) (ev : υ → Value) (es : List MapEntry) (clock : Nat) (m : List (κ × υ)) : Prop where
  ents : es.map (fun e => (e.key, e.val)) = m.map (fun x => (ek x.1, ev x.2))
  born : ∀ e ∈ es, e.born < clock
  nd : (es.map fun e => e.born).Nodup
/-- A map: what lies in its block (p) holds these pairs. -/
def mapQ (b : Nat) (ek : κ → Value) (ev : υ → Value) (p : List MapEntry × Nat) (m : List (κ × υ)) : HP := lift (MOk ek ev p.1 p.2 m) * pt b (.map p.1.toArray p.2)
/-- A map as the world has it. -/
structure MapAt (w : World) (b : Nat) (ek : κ → Value) (ev : υ → Value) (p : List MapEntry × Nat) (m : List (κ × υ)) : Prop where
  ok : MOk ek ev p.1 p.2 m
  at_ : w.heap[b]? = some (.map p.1.toArray p.2)
/-- A map that is read alone: it lies in memory that is of this form. -/
structure RoM (FL : List HP) (b : Nat) (ek : κ → Value) (ev : υ → Value) (p : List MapEntry × Nat) (m : List (κ × υ)) : Prop where
  ok : MOk ek ev p.1 p.2 m
  at_ : ∀ w, Mem FL w → w.heap[b]? = some (.map p.1.toArray p.2)
theorem RoM.mono {FL FL2 : List HP} {b : Nat} {ek : κ → Value} {ev : υ → Value} {p : List MapEntry × Nat} {m : List (κ × υ)} (h : RoM FL b ek ev p m) (hx : ∀ w, Mem FL2 w → Mem FL w) : RoM FL2 b ek ev p m := ⟨h.ok, fun w hw => h.at_ w (hx w hw)⟩
theorem RoM.map {FL : List HP} {b : Nat} {ek : κ → Value} {ev : υ → Value} {p : List MapEntry × Nat} {m : List (κ × υ)} (h : RoM FL b ek ev p m) {w : World} (hw : Mem FL w) : MapAt w b ek ev p m := ⟨h.ok, h.at_ w hw⟩
/-- Where a key stands. -/
def mapI [DecidableEq κ] (m : List (κ × υ)) (k : κ) : Option Nat := m.findIdx? fun x => decide (k = x.1)
/-- What the machine asks of a key's type. -/
structure KeyT [DecidableEq κ] (P : Program) (t : TypeId) (ek : κ → Value) : Prop where
  chk : ∀ (e : Bool) (k : κ) (w : World), (Instr.checkKey e 10000 t (ek k)).run P w = .ok () w
  find : ∀ (k : κ) (es : List MapEntry) (ks : List κ) (w : World), (es.map fun e => e.key) = ks.map ek → (Instr.findKey t (ek k) es).run P w = .ok ((ks.findIdx? fun x => decide (k = x)).bind fun i => (es[i]?).map fun e => (i, e.val)) w
  stays : ∀ k, Instr.sameBits 10000 (ek k) (ek k) = true
/-- A key of one cell. -/
theorem findNow_run {P : Program} [DecidableEq κ] {t : TypeId} {d : TypeDesc} {ek : κ → Value} (hd : P.underlying t = some d) (hs : ∀ a b : κ, Instr.sameNow d (ek a) (ek b) = some (decide (a = b))) (k : κ) :
    ∀ (es : List MapEntry) (ks : List κ) (i : Nat), (es.map fun e => e.key) = ks.map ek → Instr.findNow d (ek k) es i = some ((ks.findIdx? fun x => decide (k = x)).bind fun j => (es[j]?).map fun e => (i + j, e.val))
  | [], ks, i, h => by
    have : ks = [] := by simpa using h.symm
    subst this
    rfl
  | e :: es, [], i, h => by simp at h
  | e :: es, x :: ks, i, h => by
    simp only [List.map_cons, List.cons.injEq] at h
    unfold Instr.findNow
    rw [h.1, hs k x]
    by_cases hx : k = x
    · simp [List.findIdx?_cons, hx]
    · simp only [hx, decide_false]
      rw [findNow_run hd hs k es ks (i + 1) h.2, List.findIdx?_cons]
      simp only [hx, decide_false, Bool.false_eq_true, if_false]
      cases hf : ks.findIdx? fun x => decide (k = x) with
      | none => simp
      | some j =>
        simp only [Option.bind_some, Option.map_some, List.getElem?_cons_succ]
        congr 1
        cases es[j]? with
        | none => rfl
        | some e' => simp; omega
theorem mapQ.open {L : List HP} {w : World} {b : Nat} {ek : κ → Value} {ev : υ → Value} {p : List MapEntry × Nat} {m : List (κ × υ)} (h : Mem (mapQ b ek ev p m :: L) w) : MOk ek ev p.1 p.2 m ∧ Mem (pt b (.map p.1.toArray p.2) :: L) w := by
  have h : Holds ((lift (MOk ek ev p.1 p.2 m) * pt b (.map p.1.toArray p.2)) * HL L) w := h
  rw [star_assoc] at h
  exact h.lift
theorem mapQ.close {L : List HP} {w : World} {b : Nat} {ek : κ → Value} {ev : υ → Value} {p : List MapEntry × Nat} {m : List (κ × υ)} (hm : MOk ek ev p.1 p.2 m) (h : Mem (pt b (.map p.1.toArray p.2) :: L) w) : Mem (mapQ b ek ev p m :: L) w := by
  show Holds ((lift (MOk ek ev p.1 p.2 m) * pt b (.map p.1.toArray p.2)) * HL L) w
  rw [star_assoc]
  exact Holds.lift_intro hm h
theorem mapAt {L : List HP} {w : World} {b : Nat} {ek : κ → Value} {ev : υ → Value} {p : List MapEntry × Nat} {m : List (κ × υ)} (h : Mem L w) (j : Nat) (hj : nthH L j = mapQ b ek ev p m) : MapAt w b ek ev p m := by
  have h2 := h.at j
  rw [hj] at h2
  obtain ⟨hm, h3⟩ := mapQ.open (L := delH L j) h2
  exact ⟨hm, Holds.block h3⟩
theorem romOf {L : List HP} {w : World} {b : Nat} {ek : κ → Value} {ev : υ → Value} {p : List MapEntry × Nat} {m : List (κ × υ)} (h : Mem L w) (j : Nat) (hj : nthH L j = mapQ b ek ev p m) : RoM L b ek ev p m :=
  ⟨(mapAt h j hj).ok, fun _ hw => (mapAt hw j hj).at_⟩
theorem getMap {P : Program} {w : World} {r : Nat} {es : Array MapEntry} {clock : Nat} (hb : w.heap[r]? = some (.map es clock)) : (getObj r).run P w = .ok (.map es clock) w := by simp [getObj, Sem.run, hb]
theorem setMap {P : Program} {w : World} {r : Nat} {es : Array MapEntry} {clock : Nat} (o : Obj) (hb : w.heap[r]? = some (.map es clock)) : (setObj r o).run P w = .ok () (w.putObj r o) := by simp [setObj, Sem.run, hb, World.putObj]
theorem MOk.keys {ek : κ → Value} {ev : υ → Value} {es : List MapEntry} {clock : Nat} {m : List (κ × υ)} (h : MOk ek ev es clock m) : (es.map fun e => e.key) = (m.map fun x => x.1).map ek := by
  have := congrArg (List.map Prod.fst) h.ents
  simpa [List.map_map, Function.comp_def] using this
theorem MOk.val {ek : κ → Value} {ev : υ → Value} {es : List MapEntry} {clock : Nat} {m : List (κ × υ)} (h : MOk ek ev es clock m) {i : Nat} {x : κ × υ} (hx : m[i]? = some x) : ∃ e, es[i]? = some e ∧ e.key = ek x.1 ∧ e.val = ev x.2 := by
  have := congrArg (fun l => l[i]?) h.ents
  simp only [List.getElem?_map, hx, Option.map_some] at this
  cases he : es[i]? with
  | none => rw [he] at this; simp at this
  | some e => rw [he] at this; simp at this; exact ⟨e, rfl, this.1, this.2⟩
theorem find_map [DecidableEq κ] {m : List (κ × υ)} {k : κ} : ((m.map fun x => x.1).findIdx? fun x => decide (k = x)) = mapI m k := by
  unfold mapI
  rw [List.findIdx?_map]
  rfl
/-- What an update makes of it. -/
def mapPut [DecidableEq κ] (m : List (κ × υ)) (k : κ) (v : υ) : List (κ × υ) := match mapI m k with
  | some i => m.set i (k, v)
  | none => m ++ [(k, v)]
def mapDel [DecidableEq κ] (m : List (κ × υ)) (k : κ) : List (κ × υ) := match mapI m k with
  | some i => m.eraseIdx i
  | none => m
theorem mapI_some [DecidableEq κ] {m : List (κ × υ)} {k : κ} {i : Nat} (h : mapI m k = some i) : ∃ v, m[i]? = some (k, v) ∧ i < m.length := by
  unfold mapI at h
  obtain ⟨hi, hp, -⟩ := List.findIdx?_eq_some_iff_getElem.1 h
  refine ⟨m[i].2, ?_, hi⟩
  rw [List.getElem?_eq_getElem hi]
  simp at hp
  rw [hp]
theorem MOk.put [DecidableEq κ] {ek : κ → Value} {ev : υ → Value} {es : List MapEntry} {clock : Nat} {m : List (κ × υ)} (h : MOk ek ev es clock m) {i : Nat} (k : κ) (v : υ) :
    MOk ek ev (es.modify i fun e => { e with key := ek k, val := ev v }) clock (m.set i (k, v)) := by
  refine ⟨?_, fun e he => ?_, ?_⟩
  · apply List.ext_getElem?
    intro j
    have hj := congrArg (fun l => l[j]?) h.ents
    simp only [List.getElem?_map, List.getElem?_modify, List.getElem?_set] at hj ⊢
    by_cases e : i = j
    · subst e
      simp only [if_true]
      have hl := congrArg List.length h.ents
      simp only [List.length_map] at hl
      by_cases hi : i < m.length
      · simp [hi, List.getElem?_eq_getElem (show i < es.length by omega)]
      · simp [hi, List.getElem?_eq_none (show es.length ≤ i by omega)]
    · simp only [if_neg e]
      simpa using hj
  · obtain ⟨j, hj⟩ := List.getElem?_of_mem he
    rw [List.getElem?_modify] at hj
    cases hej : es[j]? with
    | none => rw [hej] at hj; simp at hj
    | some e' =>
      rw [hej] at hj
      have := h.born e' (List.mem_of_getElem? hej)
      split at hj <;> (simp at hj; subst hj; exact this)
  · have : ((es.modify i fun e => { e with key := ek k, val := ev v }).map fun e => e.born) = es.map fun e => e.born := by
      apply List.ext_getElem?
      intro j
      simp only [List.getElem?_map, List.getElem?_modify]
      cases es[j]? with
      | none => rfl
      | some e => split <;> rfl
    rw [this]
    exact h.nd
theorem MOk.push {ek : κ → Value} {ev : υ → Value} {es : List MapEntry} {clock : Nat} {m : List (κ × υ)} (h : MOk ek ev es clock m) (k : κ) (v : υ) :
    MOk ek ev (es ++ [{ key := ek k, val := ev v, born := clock }]) (clock + 1) (m ++ [(k, v)]) := by
  refine ⟨by rw [List.map_append, List.map_append, h.ents]; rfl, fun e he => ?_, ?_⟩
  · rcases List.mem_append.1 he with he | he
    · have := h.born e he; omega
    · simp at he; subst he; exact Nat.lt_succ_self _
  · rw [List.map_append, List.nodup_append]
    refine ⟨h.nd, by simp, fun a ha b hb => ?_⟩
    obtain ⟨e, he, rfl⟩ := List.mem_map.1 ha
    simp at hb; subst hb
    have := h.born e he
    omega
theorem mapErase {α β : Type} (f : α → β) : ∀ (l : List α) (i : Nat), (l.eraseIdx i).map f = (l.map f).eraseIdx i
  | [], i => by simp
  | a :: l, 0 => rfl
  | a :: l, i + 1 => by simp [mapErase f l i]
theorem MOk.del {ek : κ → Value} {ev : υ → Value} {es : List MapEntry} {clock : Nat} {m : List (κ × υ)} (h : MOk ek ev es clock m) (i : Nat) : MOk ek ev (es.eraseIdx i) clock (m.eraseIdx i) := by
  refine ⟨?_, fun e he => h.born e ((List.eraseIdx_sublist es i).subset he), h.nd.sublist ((List.eraseIdx_sublist es i).map _)⟩
  rw [mapErase, h.ents, ← mapErase]
/-- A key of one cell that the machine compares at once. -/
theorem keyOne {P : Program} [DecidableEq κ] {t : TypeId} {d : TypeDesc} {ek : κ → Value} (hd : P.underlying t = some d) (hs : ∀ a b : κ, Instr.sameNow d (ek a) (ek b) = some (decide (a = b)))
    (hc : ∀ (e : Bool) (k : κ) (w : World), (Instr.checkKey e 10000 t (ek k)).run P w = .ok () w) (hb : ∀ k, Instr.sameBits 10000 (ek k) (ek k) = true) : KeyT P t ek := by
  refine ⟨hc, fun k es ks w h => ?_, hb⟩
  have := findNow_run hd hs k es ks 0 h
  simp only [Instr.findKey, Sem.run_bind, run_underlying hd, Result.andThen, this, Sem.run_pure, Nat.zero_add]
theorem asking_run {P : Program} [DecidableEq κ] {t : TypeId} {ek : κ → Value} (he : ∀ (a b : κ) (w : World), (Op.equal t (ek a) (ek b)).run P w = .ok (decide (a = b)) w) (k : κ) : ∀ (es : List MapEntry) (ks : List κ) (i : Nat) (w : World), (es.map fun e => e.key) = ks.map ek →
    (Instr.findAsking t (ek k) es i).run P w = .ok ((ks.findIdx? fun x => decide (k = x)).bind fun j => (es[j]?).map fun e => (i + j, e.val)) w
  | [], ks, i, w, h => by
    have : ks = [] := by simpa using h.symm
    subst this
    rfl
  | e :: es, [], i, w, h => by simp at h
  | e :: es, x :: ks, i, w, h => by
    simp only [List.map_cons, List.cons.injEq] at h
    unfold Instr.findAsking
    simp only [Sem.run_bind, h.1, he, Result.andThen]
    by_cases hx : k = x
    · simp [List.findIdx?_cons, hx]
    · simp only [hx, decide_false, Bool.false_eq_true, if_false]
      rw [asking_run he k es ks (i + 1) w h.2, List.findIdx?_cons]
      simp only [hx, decide_false, Bool.false_eq_true, if_false]
      cases hf : ks.findIdx? fun x => decide (k = x) with
      | none => simp
      | some j =>
        simp only [Option.bind_some, Option.map_some, List.getElem?_cons_succ]
        congr 1
        cases es[j]? with
        | none => rfl
        | some e' => simp; omega
/-- A key of several cells. -/
theorem keyAgg {P : Program} [DecidableEq κ] {t : TypeId} {d : TypeDesc} {ek : κ → Value} (hd : P.underlying t = some d) (hn : ∀ a b : κ, Instr.sameNow d (ek a) (ek b) = none) (he : ∀ (a b : κ) (w : World), (Op.equal t (ek a) (ek b)).run P w = .ok (decide (a = b)) w)
    (hc : ∀ (e : Bool) (k : κ) (w : World), (Instr.checkKey e 10000 t (ek k)).run P w = .ok () w) (hb : ∀ k, Instr.sameBits 10000 (ek k) (ek k) = true) : KeyT P t ek := by
  refine ⟨hc, fun k es ks w h => ?_, hb⟩
  have ha := asking_run he k es ks 0 w h
  simp only [Nat.zero_add] at ha
  cases es with
  | nil =>
    have : ks = [] := by simpa using h.symm
    subst this
    simp [Instr.findKey, Sem.run_bind, run_underlying hd, Result.andThen, Instr.findNow]
  | cons e es =>
    cases ks with
    | nil => simp at h
    | cons x ks =>
      have hk : e.key = ek x := by simp only [List.map_cons, List.cons.injEq] at h; exact h.1
      have : Instr.findNow d (ek k) (e :: es) 0 = none := by
        unfold Instr.findNow
        rw [hk, hn]
      simp only [Instr.findKey, Sem.run_bind, run_underlying hd, Result.andThen, this]
      exact ha
theorem sameInt (n : Nat) (K : IntKind) (x : Int) : Instr.sameBits n (.int K x) (.int K x) = true := by cases n <;> simp [Instr.sameBits]
theorem sameAgg (n : Nat) (l : List Value) (h : ∀ v ∈ l, Instr.sameBits n v v = true) : Instr.sameBits (n + 1) (.agg l.toArray) (.agg l.toArray) = true := by
  simp only [Instr.sameBits, beq_self_eq_true, Bool.true_and, List.all_eq_true]
  intro x hx
  have : ∀ (l : List Value) (x : Value × Value), x ∈ l.zip l → x.1 = x.2 ∧ x.1 ∈ l := by
    intro l
    induction l with
    | nil => intro x hx; simp at hx
    | cons a l ih =>
      intro x hx
      rw [List.zip_cons_cons, List.mem_cons] at hx
      rcases hx with rfl | hx
      · exact ⟨rfl, List.mem_cons_self ..⟩
      · exact ⟨(ih x hx).1, List.mem_cons_of_mem _ (ih x hx).2⟩
  obtain ⟨h1, h2⟩ := this l x hx
  obtain ⟨a, c⟩ := x
  simp only at h1 h2
  subst h1
  exact h a h2
theorem keyInt {P : Program} {t : TypeId} {K : IntKind} (hd : P.underlying t = some (.int K)) : KeyT P t (fun n : Int => Value.int K n) :=
  keyOne hd (fun a b => by simp only [Instr.sameNow, if_true, Option.some.injEq]; rw [Bool.eq_iff_iff]; simp) (fun e k w => MapKept.run_checkKey hd (by simp [MapKept.IsKey]) e 9999) (fun k => sameInt _ _ _)
def isStructB (P : Program) (t : TypeId) : Bool := match P.underlying t with
  | some (.struct _) => true
  | _ => false
/-- A key that is a struct. -/
theorem keyStruct {P : Program} [DecidableEq κ] {t : TypeId} {enc : κ → List Value} {ek : κ → Value} (he : ∀ k, ek k = .agg (enc k).toArray) (hs : isStructB P t = true) (hagg : isAggB P t = true)
    (heq : ∀ a b : κ, eqT P 20 t (enc a) (enc b) = some (decide (a = b))) (hc : ∀ (e : Bool) (k : κ) (w : World), (Instr.checkKey e 10000 t (ek k)).run P w = .ok () w)
    (hb : ∀ k, ∀ v ∈ enc k, Instr.sameBits 9999 v v = true) : KeyT P t ek := by
  unfold isStructB at hs
  split at hs
  case h_2 => exact absurd hs (by simp)
  rename_i fs hd
  refine keyAgg hd (fun a b => by rw [he, he]; rfl) (fun a b w => ?_) hc (fun k => by rw [he]; exact sameAgg 9999 _ (hb k))
  have := (eqT_run (P := P) 20).1 t (enc a) (enc b) _ 9980 w (heq a b)
  simp only [valOf, hagg, if_true] at this
  rw [he, he]
  exact this
/-- What stands at a key; else the zero. -/
def mapGet [DecidableEq κ] (m : List (κ × υ)) (k : κ) (d : υ) : υ := ((mapI m k).bind fun i => (m[i]?).map fun x => x.2).getD d
def mapHas [DecidableEq κ] (m : List (κ × υ)) (k : κ) : Bool := (mapI m k).isSome
section
variable {P : Program} {w : World} {b : Nat} {mt t et : TypeId} {ek : κ → Value} {ev : υ → Value} {p : List MapEntry × Nat} {m : List (κ × υ)} {k : κ}
theorem findAt [DecidableEq κ] (hm : MapAt w b ek ev p m) (hk : KeyT P t ek) (k : κ) : (Instr.findKey t (ek k) p.1).run P w = .ok ((mapI m k).bind fun i => (p.1[i]?).map fun e => (i, e.val)) w := by
  have := hk.find k p.1 (m.map fun x => x.1) w hm.ok.keys
  rwa [find_map] at this
theorem lookupW0 [DecidableEq κ] {z : Value} {ok : Bool} {K : Value → World → Prop} (hm : MapAt w b ek ev p m) (hu : P.underlying mt = some (.map t et)) (hk : KeyT P t ek) (hz : ∀ w, (zeroValue et).run P w = .ok z w)
    (hK : K (if ok then .tuple #[((mapI m k).bind fun i => (m[i]?).map fun x => ev x.2).getD z, .bool ((mapI m k).isSome)] else ((mapI m k).bind fun i => (m[i]?).map fun x => ev x.2).getD z) w) :
    RunW P (Instr.lookup mt (.map (some b)) (ek k) ok) K w := by
  have hf := findAt hm hk k
  refine ⟨_, w, ?_, hK⟩
  simp only [Instr.lookup, Sem.run_bind, run_underlying hu, Result.andThen, getMap hm.at_, Sem.run_pure, hk.chk, hf]
  cases hi : mapI m k with
  | none => simp only [Option.bind_none, hz, Result.andThen, Sem.run_pure, Sem.run_bind, Option.getD_none, Option.isSome_none]
  | some i =>
    have hil : i < m.length := by
      unfold mapI at hi
      exact (List.findIdx?_eq_some_iff_getElem.1 hi).1
    obtain ⟨e, he, -, hv⟩ := hm.ok.val (List.getElem?_eq_getElem hil)
    simp only [Option.bind_some, he, Option.map_some, List.getElem?_eq_getElem hil, Result.andThen, Sem.run_pure, Sem.run_bind, Option.getD_some, Option.isSome_some, hv]
theorem mapGet_ev [DecidableEq κ] {d : υ} : ((mapI m k).bind fun i => (m[i]?).map fun x => ev x.2).getD (ev d) = ev (mapGet m k d) := by
  unfold mapGet
  cases mapI m k with
  | none => rfl
  | some i =>
    simp only [Option.bind_some]
    cases m[i]? <;> rfl
theorem lookW2 [DecidableEq κ] {d : υ} {K : Value → World → Prop} (hm : MapAt w b ek ev p m) (hu : P.underlying mt = some (.map t et)) (hk : KeyT P t ek) (hz : ∀ w, (zeroValue et).run P w = .ok (ev d) w) (hK : K (.tuple #[ev (mapGet m k d), .bool (mapHas m k)]) w) :
    RunW P (Instr.lookup mt (.map (some b)) (ek k) true) K w := lookupW0 (ok := true) hm hu hk hz (by rw [if_pos rfl, mapGet_ev]; exact hK)
/-- A map is made. -/
theorem makeMapL {L : List HP} {K : Value → World → Prop} (h : Mem L w) (hK : ∀ b p w', Mem (mapQ b ek ev p ([] : List (κ × υ)) :: L) w' → K (.map (some b)) w') :
    RunW P (Instr.makeMap mt none) K w := by
  refine ⟨_, _, ?_, hK w.heap.size ([], 0) (w.alloc (.map #[] 0)) (mapQ.close ⟨rfl, fun e he => by simp at he, by simp⟩ (Holds.alloc h _))⟩
  simp [Instr.makeMap, Sem.run_bind, run_newObj_alloc, Result.andThen]
/-- An entry is set. -/
theorem mapPutL [DecidableEq κ] {L : List HP} {v : υ} {K : World → Prop}
    (h : Mem (mapQ b ek ev p m :: L) w) (hu : P.underlying mt = some (.map t et)) (hk : KeyT P t ek) (hK : ∀ p' w', Mem (mapQ b ek ev p' (mapPut m k v) :: L) w' → K w') :
    RunU P (Instr.mapUpdate mt (.map (some b)) (ek k) (ev v)) K w := by
  obtain ⟨hm, h⟩ := mapQ.open h
  have hb : w.heap[b]? = some (.map p.1.toArray p.2) := Holds.block h
  have hf := findAt ⟨hm, hb⟩ hk k
  unfold mapPut at hK
  cases hi : mapI m k with
  | none =>
    rw [hi] at hf hK
    refine ⟨w.putObj b (.map (p.1 ++ [({ key := ek k, val := ev v, born := p.2 } : MapEntry)]).toArray (p.2 + 1)), ?_, hK _ _ (mapQ.close (p := (_, _)) (hm.push k v) (Holds.put h _))⟩
    simp only [Instr.mapUpdate, Sem.run_bind, run_underlying hu, Result.andThen, getMap hb, Sem.run_pure, hk.chk, hf, Option.bind_none]
    rw [setMap _ hb]
    simp
  | some i =>
    rw [hi] at hf hK
    obtain ⟨v0, hmi, hil⟩ := mapI_some hi
    obtain ⟨e, he, he1, he2⟩ := hm.val hmi
    refine ⟨w.putObj b (.map (p.1.modify i fun e => { e with key := ek k, val := ev v }).toArray p.2), ?_, hK _ _ (mapQ.close (p := (_, _)) (hm.put k v) (Holds.put h _))⟩
    simp only [Instr.mapUpdate, Sem.run_bind, run_underlying hu, Result.andThen, getMap hb, Sem.run_pure, hk.chk, hf, Option.bind_some, he, Option.map_some, List.getElem?_toArray, Option.getD_some, Instr.keyThatStays, he1, hk.stays, if_true]
    rw [setMap _ hb]
    simp
/-- An entry is taken out. -/
theorem mapDelL [DecidableEq κ] {L : List HP} {kt ty : TypeId} {K : Value → World → Prop}
    (h : Mem (mapQ b ek ev p m :: L) w) (hu : P.underlying mt = some (.map t et)) (hk : KeyT P t ek) (hK : ∀ p' w', Mem (mapQ b ek ev p' (mapDel m k) :: L) w' → K (.tuple #[]) w') :
    RunW P (Builtin.delete_ #[mt, kt] ty #[.map (some b), ek k]) K w := by
  obtain ⟨hm, h⟩ := mapQ.open h
  have hb : w.heap[b]? = some (.map p.1.toArray p.2) := Holds.block h
  have hf := findAt ⟨hm, hb⟩ hk k
  unfold mapDel at hK
  cases hi : mapI m k with
  | none =>
    rw [hi] at hf hK
    refine ⟨_, w.putObj b (.map p.1.toArray p.2), ?_, hK p _ (mapQ.close hm (Holds.put h _))⟩
    simp only [Builtin.delete_, List.getElem?_toArray, List.getElem?_cons_zero, List.getElem?_cons_succ, Sem.run_bind, run_underlying hu, Result.andThen, getMap hb, Sem.run_pure, hk.chk, hf, Option.bind_none]
    rw [setMap _ hb]
  | some i =>
    rw [hi] at hf hK
    obtain ⟨v0, hmi, hil⟩ := mapI_some hi
    obtain ⟨e, he, he1, he2⟩ := hm.val hmi
    refine ⟨_, w.putObj b (.map (p.1.eraseIdx i).toArray p.2), ?_, hK _ _ (mapQ.close (p := (_, _)) (hm.del i) (Holds.put h _))⟩
    simp only [Builtin.delete_, List.getElem?_toArray, List.getElem?_cons_zero, List.getElem?_cons_succ, Sem.run_bind, run_underlying hu, Result.andThen, getMap hb, Sem.run_pure, hk.chk, hf, Option.bind_some, he, Option.map_some]
    rw [setMap _ hb]
    simp
theorem mapPutG [DecidableEq κ] {L : List HP} {v : υ} {K : World → Prop}
    (h : Mem L w) (j : Nat) (hj : nthH L j = mapQ b ek ev p m) (hu : P.underlying mt = some (.map t et)) (hk : KeyT P t ek) (hK : ∀ p' w', Mem (setH L j (mapQ b ek ev p' (mapPut m k v))) w' → K w') :
    RunU P (Instr.mapUpdate mt (.map (some b)) (ek k) (ev v)) K w := by
  have h2 := h.at j
  rw [hj] at h2
  exact mapPutL (L := delH L j) h2 hu hk fun p' w' h' => hK p' w' (HL_set_le L j _ h')
theorem mapDelG [DecidableEq κ] {L : List HP} {kt ty : TypeId} {K : Value → World → Prop}
    (h : Mem L w) (j : Nat) (hj : nthH L j = mapQ b ek ev p m) (hu : P.underlying mt = some (.map t et)) (hk : KeyT P t ek) (hK : ∀ p' w', Mem (setH L j (mapQ b ek ev p' (mapDel m k))) w' → K (.tuple #[]) w') :
    RunW P (Builtin.delete_ #[mt, kt] ty #[.map (some b), ek k]) K w := by
  have h2 := h.at j
  rw [hj] at h2
  exact mapDelL (L := delH L j) h2 hu hk fun p' w' h' => hK p' w' (HL_set_le L j _ h')
variable {l : Nat} {cur : Option (κ × υ)} {lf : List (κ × υ)}
end
end
end Go.Eng
