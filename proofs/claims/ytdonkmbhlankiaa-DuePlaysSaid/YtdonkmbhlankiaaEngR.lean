/-
  The engine, part R: the row's frame: arguments opened, old memory kept.
-/
import Derived.Test.YtdonkmbhlankiaaEngM
import Derived.ProofKit
import Derived.Carry
import Derived.ChangeSame
import Derived.OpenShut
namespace Go.Eng
open Go Go.RowKit Go.WideShapes Go.ChangeShapes

/-! ### Old memory -/

structure Kept (W w' : World) : Prop where
  os : w'.os = W.os
  tape : w'.tape = W.tape
  drawn : W.drawn ≤ w'.drawn
  output : w'.output = W.output
  block : ∀ k, k < W.heap.size → w'.heap[k]? = W.heap[k]?

def oldP (W : World) : HP := fun h o u => (o.os = W.os ∧ o.tape = W.tape ∧ W.drawn ≤ o.drawn) ∧ u = W.output ∧ ∀ i, h i = W.heap[i]?

theorem oldP.start (W : World) : Mem [oldP W] W := by
  refine ⟨fun i => W.heap[i]?, W.drawn, Nat.le_refl _, ?_, fun i o h => h⟩
  show (oldP W * emp) _ _ _
  rw [star_emp]
  exact ⟨⟨rfl, rfl, Nat.le_refl _⟩, rfl, fun _ => rfl⟩

theorem oldP.kept {W w' : World} (h : Mem [oldP W] w') : Kept W w' := by
  obtain ⟨f, n, hn, hf, hs⟩ := h
  have hf : (oldP W * emp) f ⟨w'.os, w'.tape, n⟩ w'.output := hf
  rw [star_emp] at hf
  obtain ⟨⟨h1, h4, h5⟩, h2, h3⟩ := hf
  refine ⟨h1, h4, Nat.le_trans h5 hn, h2, fun k hk => ?_⟩
  have : f k = some W.heap[k] := by rw [h3 k]; simp [hk]
  rw [hs k _ this]
  simp [hk]

/-- What holds of a world holds of one that keeps it. -/
theorem Holds.kept {A : HP} {W w' : World} (h : Holds A W) (hk : Kept W w') : Holds A w' := by
  obtain ⟨f, n, hn, ha, hs⟩ := h
  refine ⟨f, n, Nat.le_trans hn hk.drawn, ?_, fun i o hi => ?_⟩
  · rw [hk.os, hk.tape, hk.output]; exact ha
  · have := hs i o hi
    rw [hk.block i (Array.getElem?_eq_some_iff.1 this).1, this]

theorem Kept.cell {W w' : World} (h : Kept W w') {a : Addr} {v : Value} (hc : W.cell? a = some v) : w'.cell? a = some v := by
  have hb : a.block < W.heap.size := by
    unfold World.cell? at hc
    split at hc
    · rename_i hh; exact (Array.getElem?_eq_some_iff.1 hh).1
    · simp at hc
  rw [← hc]
  unfold World.cell?
  rw [h.block _ hb]

theorem rdOld {α : Type} {W : World} {z : Nat} {p : Option Addr} {enc : α → List Value} {xs : List α} (hr : Rd W z p enc xs) (w : World) (h : Mem [oldP W] w) : Rd w z p enc xs := by
  intro i x hx
  obtain ⟨b, off, hp, hc⟩ := hr i x hx
  exact ⟨b, off, hp, fun j v hj => (oldP.kept h).cell (hc j v hj)⟩

theorem rdOldD {α : Type} {W : World} {z : Nat} {p : Option Addr} {R : α → List Value → Prop} {xs : List α} (hr : RdD W z p R xs) (w : World) (h : Mem [oldP W] w) : RdD w z p R xs := by
  intro i x hx
  obtain ⟨b, off, cs, hp, hR, hc⟩ := hr i x hx
  exact ⟨b, off, cs, hp, hR, fun j v hj => (oldP.kept h).cell (hc j v hj)⟩

theorem Kept.same {W w' : World} (h : Kept W w') {p : MemPlace} (hp : p.block < W.heap.size) : W.sameAt w' p :=
  Below.same (w' := { w' with tape := W.tape }) (W := W) ⟨h.os, rfl, h.output, by
    show W.heap.size ≤ w'.heap.size
    rcases Nat.lt_or_ge w'.heap.size W.heap.size with hlt | hge
    · have := h.block w'.heap.size hlt
      rw [Array.getElem?_eq_none (by omega)] at this
      have h2 : W.heap[w'.heap.size]? = some W.heap[w'.heap.size] := by simp [hlt]
      rw [h2] at this
      simp at this
    · exact hge, h.block⟩ hp

section
variable {H : Type} {enc : TypeId × Value → H} {P : Program}

theorem Kept.trod {t : TypeId} (hl : laidOutB P = true) (hr : P.readableRec t = true) (hrow : t < P.types.size) {W W' : World} {v : Value} {d : DataW H} {ps : List MemPlace}
    (h : DataW.Trod enc P W 0 (fun _ => true) true t v d ps) (hb : Kept W W') (hlt : ∀ x ∈ ps, x.block < W.heap.size) (sp : Nat → Bool) (hsp : ∀ x ∈ ps, sp x.block = true) :
    DataW.Trod enc P W' 0 sp true t v d ps :=
  WideElems.Trod_stays hl hr hrow h (fun x hx => hb.same (hlt x hx)) (fun x hx => hsp x hx)

theorem post_of_kept {f : Func} {s : ChangeSpec} {apart fresh handsOn again : Bool} {W W' : World} {args : Array Value} {v : Value} {ds gs : List (DataW H)} {before pa pv : List MemPlace}
    (hW : DataW.Whole enc P f.params.toList s.vars apart W args.toList ds gs before)
    (hres : ∀ (b : Nat) (sp : Nat → Bool) (hd : Bool), DataW.TrodAll enc P W' b sp hd f.resultTypes.toList (v.resultList f.resultTypes.size) (s.fn H (ds ++ gs)).results [])
    (hargs : ∀ sp : Nat → Bool, (∀ p ∈ before, sp p.block = true) → DataW.TrodAll enc P W' 0 sp true f.params.toList args.toList (s.fn H (ds ++ gs)).args pa)
    (hvars : ∀ sp : Nat → Bool, (∀ p ∈ before, sp p.block = true) → DataW.TrodVars enc P W' sp s.vars (s.fn H (ds ++ gs)).vars pv)
    (hps : before = pa ++ pv) (hb : Kept W W')
    (hok : ∀ (j : Nat) (t : TypeId) (r : Value), f.resultTypes[j]? = some t → (v.resultList f.resultTypes.size)[j]? = some r → Value.okWide P W' .any 0 t r) :
    s.post enc P f apart fresh handsOn again W args v W' := by
  have hlt : ∀ p ∈ before, p.block < W.heap.size := fun p hp => hW.lt p hp
  have hold : ∀ p ∈ before, (fun b => decide (b < W.heap.size)) p.block = true := fun p hp => by simpa using hlt p hp
  have hframe : W.keptBut W' (· ∈ before) := ⟨hb.os, hb.output, fun i hi => by rw [hb.block i hi]; split <;> simp_all⟩
  refine ⟨ds, gs, before, [], pa, pv, hW, hres _ _ _, hargs _ hold, hvars _ hold, World.keptBut_mono (fun p hp => ⟨hp, ?_⟩) hframe, fun _ => ?_⟩
  · rw [hps, List.mem_append] at hp
    exact Or.inr hp
  · obtain ⟨_, _, _, _, _, hz, hn⟩ := hW
    refine ⟨hok, _, _, ([] ++ pa) ++ pv, ⟨[] ++ pa, pv, trodAll_append (hargs _ (fun _ _ => rfl)) (hres _ _ _), hvars _ (fun _ _ => rfl), rfl, ?_, ?_⟩, ?_⟩
    · intro b off hp
      have hin : MemPlace.cell b off ∈ before := by rw [hps]; simpa using hp
      rw [World.frozen?_of_block (w := W) (hb.block _ (hlt _ hin))]
      exact hz b off hin
    · intro ha
      have := hn ha
      rw [hps] at this
      simpa using this
    · intro p hp _
      rw [hps]
      simpa using hp

/-- All arguments read as they did. -/
theorem Kept.trodAll (hl : laidOutB P = true) {W W' : World} (hb : Kept W W') (sp : Nat → Bool) : ∀ (ts : List TypeId) (vs : List Value) (ds : List (DataW H)) (ps : List MemPlace),
    (ts.all fun t => P.readableRec t && decide (t < P.types.size)) = true → DataW.TrodAll enc P W 0 (fun _ => true) true ts vs ds ps → (∀ x ∈ ps, x.block < W.heap.size) → (∀ x ∈ ps, sp x.block = true) →
    DataW.TrodAll enc P W' 0 sp true ts vs ds ps
  | [], [], [], ps, _, h, _, _ => h
  | t :: ts, v :: vs, d :: ds, ps, hr, h, hlt, hsp => by
    obtain ⟨p, q, h1, h2, rfl⟩ := h
    simp only [List.all_cons, Bool.and_eq_true, decide_eq_true_eq] at hr
    exact ⟨p, q, Kept.trod hl hr.1.1 hr.1.2 h1 hb (fun x hx => hlt x (by simp [hx])) sp (fun x hx => hsp x (by simp [hx])),
      Kept.trodAll hl hb sp ts vs ds q hr.2 h2 (fun x hx => hlt x (by simp [hx])) (fun x hx => hsp x (by simp [hx])), rfl⟩
  | [], [], _ :: _, _, _, h, _, _ => h.elim
  | [], _ :: _, _, _, _, h, _, _ => by cases ‹List (DataW H)› <;> exact h.elim
  | _ :: _, [], _, _, _, h, _, _ => h.elim
  | _ :: _, _ :: _, [], _, _, h, _, _ => h.elim

end

/-! ### What arguments hold -/

def inK : IntKind → Int → Prop
  | .i8, n => -128 ≤ n ∧ n ≤ 127
  | .i16, n => -32768 ≤ n ∧ n ≤ 32767
  | .i32, n => -2147483648 ≤ n ∧ n ≤ 2147483647
  | .i64, n => -9223372036854775808 ≤ n ∧ n ≤ 9223372036854775807
  | .u8, n => 0 ≤ n ∧ n ≤ 255
  | .u16, n => 0 ≤ n ∧ n ≤ 65535
  | .u32, n => 0 ≤ n ∧ n ≤ 4294967295
  | .u64, n => 0 ≤ n ∧ n ≤ 18446744073709551615

theorem inK_of {k : IntKind} {n : Int} (h : (Lit.int k n).wf = true) : inK k n := by
  cases k
  · exact bounds_i8 h
  · exact bounds_i16 h
  · exact bounds_i32 h
  · exact bounds_i64 h
  · exact bounds_u8 h
  · exact bounds_u16 h
  · exact bounds_u32 h
  · exact bounds_u64 h

inductive Lf where
  | int (k : IntKind) | bool | str | sl (e : TypeId)

mutual
def flatT (P : Program) : Nat → TypeId → Option (List Lf)
  | 0, _ => none
  | d + 1, t =>
    match P.underlying t with
    | some (.int k) => some [.int k]
    | some .bool => some [.bool]
    | some .string => some [.str]
    | some (.slice e) => some [.sl e]
    | some (.struct fs) => match flatF P d fs.toList 0 with
      | some ls => if ls.length = P.cellsOf t then some ls else none
      | none => none
    | some (.array n e) => match flatT P d e with
      | some ls => if ls.length = P.cellsOf e ∧ n * ls.length = P.cellsOf t then some (List.replicate n ls).flatten else none
      | none => none
    | _ => none
def flatF (P : Program) : Nat → List Field → Nat → Option (List Lf)
  | 0, _, _ => none
  | _ + 1, [], _ => some []
  | d + 1, f :: fs, off => match flatT P d f.type with
    | some ls => if f.offset = off ∧ ls.length = P.cellsOf f.type then (match flatF P d fs (off + ls.length) with
      | some rs => some (ls ++ rs)
      | none => none) else none
    | none => none
end

section
variable {H : Type} (enc : TypeId × Value → H) (P : Program) (w : World)

def L1 : Lf → Value → Prop
  | .int k, v => ∃ n : Int, v = .int k n ∧ inK k n
  | .bool, v => ∃ b : Bool, v = .bool b
  | .str, v => ∃ s : ByteArray, v = .string s ∧ s.size ≤ maxLen
  | .sl e, v => ∃ (p : Option Addr) (n c : Nat), v = .slice p n c ∧ n ≤ c ∧ c ≤ maxLen ∧ (p = none → c = 0) ∧
      ∀ a, p = some a → ∀ i, i < n → ∃ cs, cs.length = P.cellsOf e ∧ (∀ j v, cs[j]? = some v → w.cell? ((a.add (i * P.cellsOf e)).add j) = some v) ∧ ∃ fuel x, DataW.trod enc P w 0 (fun _ => true) true fuel e cs = some x

def LO : List Lf → List Value → Prop
  | [], cs => cs = []
  | l :: ls, cs => ∃ v vs, cs = v :: vs ∧ L1 enc P w l v ∧ LO ls vs

end

section
variable {H : Type} {enc : TypeId × Value → H} {P : Program} {w : World}

theorem LO_len : ∀ {ls : List Lf} {cs : List Value}, LO enc P w ls cs → cs.length = ls.length
  | [], cs, h => by simp only [LO] at h; simp [h]
  | l :: ls, cs, h => by
    obtain ⟨v, vs, rfl, -, h⟩ := h
    simp [LO_len h]

theorem LO_append : ∀ {ls rs : List Lf} {cs ds : List Value}, LO enc P w ls cs → LO enc P w rs ds → LO enc P w (ls ++ rs) (cs ++ ds)
  | [], rs, cs, ds, h, h' => by simp only [LO] at h; simpa [h] using h'
  | l :: ls, rs, cs, ds, h, h' => by
    obtain ⟨v, vs, rfl, h1, h⟩ := h
    exact ⟨v, vs ++ ds, rfl, h1, LO_append h h'⟩

theorem cells_get {a : Addr} {n : Nat} {cs : List Value} (h : w.cells? 0 a n = some cs) : cs.length = n ∧ ∀ j v, cs[j]? = some v → w.cell? (a.add j) = some v := by
  unfold World.cells? at h
  simp only [Nat.zero_le, if_true] at h
  have hl : cs.length = n := by have := mapM_some_length h; rw [List.length_range] at this; exact this
  refine ⟨hl, fun j v hj => ?_⟩
  have hjl := (List.getElem?_eq_some_iff.1 hj).1
  have := mapM_some_get h j j (List.getElem?_range (by omega))
  rw [this, hj]

theorem trod_leaves : ∀ (d : Nat), (∀ (t : TypeId) (ls : List Lf), flatT P d t = some ls → ∀ (fuel : Nat) (cs : List Value) (x : DataW H × List MemPlace), DataW.trod enc P w 0 (fun _ => true) true fuel t cs = some x → LO enc P w ls cs) ∧
    (∀ (fs : List Field) (off : Nat) (ls : List Lf), flatF P d fs off = some ls → ∀ (fuel : Nat) (cs : List Value), (∀ f ∈ fs, ∃ x, DataW.trod enc P w 0 (fun _ => true) true fuel f.type ((cs.drop f.offset).take (P.cellsOf f.type)) = some x) → off + ls.length = cs.length → LO enc P w ls (cs.drop off))
  | 0 => ⟨fun t ls h => by simp [flatT] at h, fun fs off ls h => by simp [flatF] at h⟩
  | d + 1 => by
    obtain ⟨ih1, ih2⟩ := trod_leaves d
    constructor
    · intro t ls hf fuel cs x h
      unfold flatT at hf
      split at hf
      · rename_i k ht
        cases hf
        obtain ⟨n, rfl, -, hw⟩ := DataW.trod_int ht h
        exact ⟨_, _, rfl, ⟨n, rfl, inK_of hw⟩, rfl⟩
      · rename_i ht
        cases hf
        obtain ⟨b, rfl, -⟩ := DataW.trod_bool ht h
        exact ⟨_, _, rfl, ⟨b, rfl⟩, rfl⟩
      · rename_i ht
        cases hf
        obtain ⟨s, rfl, -, hs⟩ := DataW.trod_string ht h
        exact ⟨_, _, rfl, ⟨s, rfl, hs⟩, rfl⟩
      · rename_i e ht
        cases hf
        rcases DataW.trod_slice ht h with ⟨rfl, -⟩ | ⟨a, len, cap, elems, rest, n, rfl, rfl, rfl, hb, hl, hm, hlen, hel, hsp, hns⟩
        · exact ⟨_, _, rfl, ⟨none, 0, 0, rfl, Nat.le_refl _, Nat.zero_le _, fun _ => rfl, fun a ha => by simp at ha⟩, rfl⟩
        · refine ⟨_, _, rfl, ⟨some a, len, cap, rfl, hl, hm, fun ha => by simp at ha, fun a' ha i hi => ?_⟩, rfl⟩
          cases ha
          have h1 := hel i hi
          have : i < elems.length := by omega
          rw [List.getElem?_eq_getElem this, Option.bind_eq_some_iff] at h1
          obtain ⟨cs, hc, hx⟩ := h1
          obtain ⟨hc1, hc2⟩ := cells_get hc
          exact ⟨cs, hc1, hc2, _, _, hx⟩
      · rename_i fs ht
        split at hf
        · rename_i ls' hl
          split at hf
          · rename_i hlen
            cases hf
            obtain ⟨xs, n, rfl, -, hcl, hxl, hall⟩ := DataW.trod_struct ht h
            have := ih2 _ _ _ hl n cs (fun f hf => ?_) (by omega)
            · simpa using this
            · obtain ⟨i, hi, rfl⟩ := List.getElem_of_mem hf
              have hi' : i < fs.size := by simpa using hi
              have h2 := hall i _ (by rw [Array.getElem?_eq_getElem hi'])
              rw [List.getElem?_eq_getElem (by omega)] at h2
              exact ⟨_, by simpa using h2⟩
          · simp at hf
        · simp at hf
      · rename_i n e ht
        split at hf
        · rename_i ls' hl
          split at hf
          · rename_i hlen
            cases hf
            obtain ⟨xs, m, rfl, -, hcl, hxl, hel⟩ := DataW.trod_array ht h
            have key : ∀ m', m' ≤ n → LO enc P w (List.replicate m' ls').flatten (cs.take (m' * P.cellsOf e)) := by
              intro m'
              induction m' with
              | zero => intro _; simp [LO]
              | succ m' ih =>
                intro hm
                have h1 := hel m' (by omega)
                rw [List.getElem?_eq_getElem (by omega)] at h1
                have h2 := ih1 e ls' hl _ _ _ h1
                have h3 := LO_append (ih (by omega)) h2
                have e1 : (List.replicate (m' + 1) ls').flatten = (List.replicate m' ls').flatten ++ ls' := by
                  rw [List.replicate_succ', List.flatten_append]; simp
                have e2 : cs.take ((m' + 1) * P.cellsOf e) = cs.take (m' * P.cellsOf e) ++ (cs.drop (m' * P.cellsOf e)).take (P.cellsOf e) := by
                  rw [Nat.succ_mul, List.take_add]
                rw [e1, e2]
                exact h3
            have := key n (Nat.le_refl _)
            rw [← hlen.1, hlen.2, ← hcl, List.take_length] at this
            exact this
          · simp at hf
        · simp at hf
      · simp at hf
    · intro fs off ls hf fuel cs hall hlen
      cases fs with
      | nil =>
        simp only [flatF] at hf
        cases hf
        simp only [List.length_nil] at hlen
        simp only [LO]
        exact List.drop_eq_nil_of_le (by omega)
      | cons f fs =>
        simp only [flatF] at hf
        split at hf
        · rename_i ls' hl
          split at hf
          · rename_i hc
            obtain ⟨ho, hl2⟩ := hc
            split at hf
            · rename_i rs hr
              cases hf
              rw [List.length_append] at hlen
              obtain ⟨x, hx⟩ := hall f (by simp)
              have h1 := ih1 f.type ls' hl _ _ _ hx
              have h2 := ih2 fs (off + ls'.length) rs hr fuel cs (fun g hg => hall g (by simp [hg])) (by omega)
              have e1 : cs.drop off = (cs.drop f.offset).take (P.cellsOf f.type) ++ cs.drop (off + ls'.length) := by
                rw [ho, ← hl2]
                rw [show off + ls'.length = off + ls'.length from rfl, ← List.drop_drop, List.take_append_drop]
              rw [e1]
              exact LO_append h1 h2
            · simp at hf
          · simp at hf
        · simp at hf

/-- What a slice of flat elements holds. -/
theorem L1_slice {α : Type} {e : TypeId} {z : Nat} {en : α → List Value} {ok : α → Prop} {v : Value} (hz : P.cellsOf e = z) (hz0 : 0 < z)
    (dec : ∀ (fuel : Nat) (cs : List Value) (x : DataW H × List MemPlace), DataW.trod enc P w 0 (fun _ => true) true fuel e cs = some x → ∃ y : α, cs = en y ∧ ok y) (h : L1 enc P w (.sl e) v) :
    ∃ (p : Option Addr) (xs : List α) (c : Nat), v = .slice p xs.length c ∧ xs.length ≤ c ∧ xs.length ≤ 9223372036854775807 ∧ (∀ x ∈ xs, ok x) ∧ Rd w z p en xs := by
  obtain ⟨p, n, c, rfl, hn, hc, hnone, hall⟩ := h
  unfold maxLen at hc
  cases p with
  | none =>
    have := hnone rfl
    obtain rfl : n = 0 := by omega
    exact ⟨none, [], c, rfl, Nat.zero_le _, Nat.zero_le _, by simp, fun i x hx => by simp at hx⟩
  | some a =>
    have hall := hall a rfl
    have key : ∀ m, m ≤ n → ∃ xs : List α, xs.length = m ∧ (∀ x ∈ xs, ok x ∧ (en x).length = z) ∧ ∀ i x, xs[i]? = some x → ∀ j v, (en x)[j]? = some v → w.cell? ((a.add (i * z)).add j) = some v := by
      intro m
      induction m with
      | zero => intro _; exact ⟨[], rfl, by simp, fun i x hx => by simp at hx⟩
      | succ m ih =>
        intro hm
        obtain ⟨xs, h1, h2, h3⟩ := ih (by omega)
        obtain ⟨cs, hc1, hc2, fuel, x, hx⟩ := hall m (by omega)
        obtain ⟨y, rfl, hy⟩ := dec _ _ _ hx
        refine ⟨xs ++ [y], by simp [h1], ?_, ?_⟩
        · intro u hu
          rcases List.mem_append.1 hu with hu | hu
          · exact h2 u hu
          · obtain rfl : u = y := by simpa using hu
            exact ⟨hy, by rw [hc1, hz]⟩
        · intro i u hu j v hv
          by_cases hi : i < xs.length
          · rw [List.getElem?_append_left hi] at hu; exact h3 i u hu j v hv
          · rw [List.getElem?_append_right (by omega)] at hu
            have hi0 : i = xs.length := by
              have := (List.getElem?_eq_some_iff.1 hu).1
              simp at this
              omega
            subst hi0
            simp at hu
            subst hu
            rw [h1, ← hz]
            exact hc2 j v hv
    obtain ⟨xs, h1, h2, h3⟩ := key n (Nat.le_refl _)
    subst h1
    refine ⟨some a, xs, c, rfl, hn, by omega, fun x hx => (h2 x hx).1, ?_⟩
    intro i x hx
    have hi := (List.getElem?_eq_some_iff.1 hx).1
    have hx0 : xs[0]? = some xs[0] := List.getElem?_eq_getElem (by omega)
    have hl0 := (h2 xs[0] (List.getElem_mem _)).2
    have hv0 : (en xs[0])[0]? = some (en xs[0])[0] := List.getElem?_eq_getElem (by omega)
    have hc0 := h3 0 _ hx0 0 _ hv0
    rw [Nat.zero_mul, addr_add_zero, addr_add_zero] at hc0
    have hs : a.spot = none := by
      unfold World.cell? at hc0
      split at hc0
      · split at hc0
        · simp at hc0
        · rename_i hh; simpa using hh
      · simp at hc0
    obtain ⟨b, off, spot⟩ := a
    simp only at hs
    subst hs
    refine ⟨b, off, rfl, fun j v hj => ?_⟩
    rw [ix_eq] at hj
    have := h3 i x hx j v hj
    rw [Addr_add_mk, Addr_add_mk] at this
    exact this

/-- What a slice of elements that hold slices holds. -/
theorem L1_sliceD {α : Type} {e : TypeId} {z : Nat} {R : α → List Value → Prop} {ok : α → Prop} {v : Value} (hz : P.cellsOf e = z) (hz0 : 0 < z)
    (dec : ∀ (fuel : Nat) (cs : List Value) (x : DataW H × List MemPlace), DataW.trod enc P w 0 (fun _ => true) true fuel e cs = some x → ∃ y : α, R y cs ∧ ok y) (h : L1 enc P w (.sl e) v) :
    ∃ (p : Option Addr) (xs : List α) (c : Nat), v = .slice p xs.length c ∧ xs.length ≤ c ∧ xs.length ≤ 9223372036854775807 ∧ (∀ x ∈ xs, ok x) ∧ RdD w z p R xs := by
  obtain ⟨p, n, c, rfl, hn, hc, hnone, hall⟩ := h
  unfold maxLen at hc
  cases p with
  | none =>
    have := hnone rfl
    obtain rfl : n = 0 := by omega
    exact ⟨none, [], c, rfl, Nat.zero_le _, Nat.zero_le _, by simp, fun i x hx => by simp at hx⟩
  | some a =>
    have hall := hall a rfl
    have key : ∀ m, m ≤ n → ∃ xs : List α, xs.length = m ∧ (∀ x ∈ xs, ok x) ∧ ∀ i x, xs[i]? = some x → ∃ cs, R x cs ∧ cs.length = z ∧ ∀ j v, cs[j]? = some v → w.cell? ((a.add (i * z)).add j) = some v := by
      intro m
      induction m with
      | zero => intro _; exact ⟨[], rfl, by simp, fun i x hx => by simp at hx⟩
      | succ m ih =>
        intro hm
        obtain ⟨xs, h1, h2, h3⟩ := ih (by omega)
        obtain ⟨cs, hc1, hc2, fuel, x, hx⟩ := hall m (by omega)
        obtain ⟨y, hyR, hy⟩ := dec _ _ _ hx
        refine ⟨xs ++ [y], by simp [h1], ?_, ?_⟩
        · intro u hu
          rcases List.mem_append.1 hu with hu | hu
          · exact h2 u hu
          · obtain rfl : u = y := by simpa using hu
            exact hy
        · intro i u hu
          by_cases hi : i < xs.length
          · rw [List.getElem?_append_left hi] at hu; exact h3 i u hu
          · rw [List.getElem?_append_right (by omega)] at hu
            have hi0 : i = xs.length := by
              have := (List.getElem?_eq_some_iff.1 hu).1
              simp at this
              omega
            subst hi0
            simp at hu
            subst hu
            refine ⟨cs, hyR, by rw [hc1, hz], fun j v hv => ?_⟩
            rw [h1, ← hz]
            exact hc2 j v hv
    obtain ⟨xs, h1, h2, h3⟩ := key n (Nat.le_refl _)
    subst h1
    refine ⟨some a, xs, c, rfl, hn, by omega, h2, ?_⟩
    intro i x hx
    have hi := (List.getElem?_eq_some_iff.1 hx).1
    have hx0 : xs[0]? = some xs[0] := List.getElem?_eq_getElem (by omega)
    obtain ⟨cs0, -, hl0, hcc0⟩ := h3 0 _ hx0
    have hv0 : cs0[0]? = some (cs0[0]'(by omega)) := List.getElem?_eq_getElem (by omega)
    have hc0 := hcc0 0 _ hv0
    rw [Nat.zero_mul, addr_add_zero, addr_add_zero] at hc0
    have hs : a.spot = none := by
      unfold World.cell? at hc0
      split at hc0
      · split at hc0
        · simp at hc0
        · rename_i hh; simpa using hh
      · simp at hc0
    obtain ⟨b, off, spot⟩ := a
    simp only at hs
    subst hs
    obtain ⟨cs, hR, -, hcc⟩ := h3 i x hx
    refine ⟨b, off, cs, rfl, hR, fun j v hj => ?_⟩
    rw [ix_eq] at hj
    have := hcc j v hj
    rw [Addr_add_mk, Addr_add_mk] at this
    exact this

end
end Go.Eng
