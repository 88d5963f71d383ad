/-
  The engine, part B: each operation's denotation is sound over the walk's laws.
-/
import Derived.Test.YtdonkmbhlankiaaEngA
namespace Go.Eng
open Go

variable {P : Program}

theorem eval_ev (e : Env) (ds : List Deferred) : (⟨e.toArray, ds⟩ : Act).eval = ev e := by
  funext x
  cases x <;> simp [Act.eval, ev]

theorem put_putE (e : Env) (ds : List Deferred) (d : Option Tmp) (v : Value) : (⟨e.toArray, ds⟩ : Act).put d v = ⟨(putE e d v).toArray, ds⟩ := by
  cases d <;> simp [Act.put, putE]

theorem wpIn_value {ro : Option Nat} {o : Oper} {a : Act} {w w' : World} {v : Value} {next : Act → World → Prop} {Q : Exit → Act → World → Prop}
    (hd : ∀ c, o.op ≠ .defer c) (h : (execOp a.eval o).run P w = .ok (.value v) w') (hn : next (a.put o.dst v) w') : o.wpIn (FW ro) 0 P a w next Q := by
  refine ⟨fun _ _ => trivial, ?_⟩
  rw [Oper.semAt_eq _ _ _ hd, h]
  exact hn

theorem wpIn_skipped {ro : Option Nat} {o : Oper} {a : Act} {w w' : World} {next : Act → World → Prop} {Q : Exit → Act → World → Prop}
    (hd : ∀ c, o.op ≠ .defer c) (h : (execOp a.eval o).run P w = .ok .skip w') (hn : next (a.put o.dst undef) w') : o.wpIn (FW ro) 0 P a w next Q := by
  refine ⟨fun _ _ => trivial, ?_⟩
  rw [Oper.semAt_eq _ _ _ hd, h]
  exact hn

theorem run_value {s : Sem Value} {w w' : World} {v : Value} (h : s.run P w = .ok v w') : (do pure (Next.value (← s)) : Sem Next).run P w = .ok (.value v) w' := by
  simp [Sem.run_bind, h, Result.andThen, Sem.run]

theorem run_unit {s : Sem Unit} {w w' : World} (h : s.run P w = .ok () w') : (do s; pure Next.skip : Sem Next).run P w = .ok .skip w' := by
  simp [Sem.run_bind, h, Result.andThen, Sem.run]

theorem run_underlying {t : TypeId} {d : TypeDesc} {w : World} (h : P.underlying t = some d) : (underlying t).run P w = .ok d w := by
  simp [underlying, program, Sem.run_bind, Sem.run, Result.andThen, h]

theorem run_sizeOf {t : TypeId} {n : Nat} {w : World} (h : sizeT P t = some n) : (sizeOf t).run P w = .ok n w := by
  unfold sizeT at h
  cases hi : P.info? t with
  | none => simp [hi] at h
  | some i =>
    simp [hi] at h
    simp [sizeOf, typeInfo, program, Sem.run_bind, Sem.run, Result.andThen, hi, h]

theorem run_zeroValue {t : TypeId} {z : Value} {w : World} (h : zeroOf P t = some z) : (zeroValue t).run P w = .ok z w := by
  unfold zeroOf at h
  cases hi : P.info? t with
  | none => simp [hi] at h
  | some i =>
    simp [hi] at h
    simp [zeroValue, typeInfo, program, Sem.run_bind, Sem.run, Result.andThen, hi, h]

theorem run_isAgg {t : TypeId} {w : World} (h : (P.underlying t).isSome = true) : (isAgg t).run P w = .ok (isAggB P t) w := by
  cases hd : P.underlying t with
  | none => simp [hd] at h
  | some d => cases d <;> simp [isAgg, isAggB, Sem.run_bind, run_underlying hd, hd, Result.andThen, Sem.run]

theorem isAgg_some {t : TypeId} (h : isAggB P t = true) : (P.underlying t).isSome = true := by
  unfold isAggB at h
  cases hd : P.underlying t with
  | none => simp [hd] at h
  | some d => rfl

theorem run_load {a : Addr} {v : Value} {w : World} (h : w.cell? a = some v) : (load a).run P w = .ok v w := by
  simp [load, Sem.run, h]

theorem rdLeaf_run {s : Sh} {a : Addr} {K : Value → Prop} {w : World} (h : rdLeaf s a K w) : ∃ v, w.cell? a = some v ∧ K v := by
  cases s <;> simp only [rdLeaf] at h
  case int k => obtain ⟨n, h1, h2⟩ := h; exact ⟨_, h1, h2⟩
  case bool => obtain ⟨n, h1, h2⟩ := h; exact ⟨_, h1, h2⟩
  case str => obtain ⟨n, h1, h2⟩ := h; exact ⟨_, h1, h2⟩
  case ptr => obtain ⟨n, h1, h2⟩ := h; exact ⟨_, h1, h2⟩
  case slice => obtain ⟨p, l, c, h1, h2⟩ := h; exact ⟨_, h1, h2⟩
  case map => obtain ⟨n, h1, h2⟩ := h; exact ⟨_, h1, h2⟩
  case addr => obtain ⟨n, h1, h2⟩ := h; exact ⟨_, h1, h2⟩
  case raw => exact h

theorem rdLeaves_run {a : Addr} {w : World} : ∀ (ss : List Sh) (i : Nat) (acc : Array Value) (K : List Value → Prop), rdLeaves a K w ss i →
    ∃ vs, K vs ∧ (loadCellsFrom a i ss.length acc).run P w = .ok (acc ++ vs.toArray) w
  | [], i, acc, K, h => ⟨[], h, by simp [loadCellsFrom, Sem.run]⟩
  | s :: ss, i, acc, K, h => by
    obtain ⟨v, hv, hk⟩ := rdLeaf_run h
    obtain ⟨vs, h1, h2⟩ := rdLeaves_run ss (i + 1) (acc.push v) _ hk
    refine ⟨v :: vs, h1, ?_⟩
    simp [loadCellsFrom, Sem.run_bind, run_load hv, Result.andThen, h2]

theorem loadW_run {t : TypeId} {v : Value} {K : Value → Prop} {w : World} (h : loadW P t v K w) : ∃ x, K x ∧ (Instr.loadAt t v).run P w = .ok x w := by
  unfold loadW at h
  split at h
  · rename_i a
    split at h
    · rename_i hagg
      split at h
      · rename_i hsz
        obtain ⟨vs, h1, h2⟩ := rdLeaves_run (P := P) _ _ #[] _ h
        refine ⟨_, h1, ?_⟩
        simp only [Instr.loadAt, Instr.sureAddr, loadVar, Sem.run_bind, Sem.run_pure, Result.andThen, run_isAgg (isAgg_some hagg), hagg, if_true, run_sizeOf hsz, loadCells, h2]
        simp [Sem.run]
      · exact h.elim
    · rename_i hagg
      split at h
      · rename_i hs
        split at h
        · obtain ⟨x, h1, h2⟩ := rdLeaf_run h
          refine ⟨x, h2, ?_⟩
          have hagg' : isAggB P t = false := by simpa using hagg
          simp only [Instr.loadAt, Instr.sureAddr, loadVar, Sem.run_bind, Sem.run_pure, Result.andThen, run_isAgg hs, hagg', Bool.false_eq_true, if_false, run_load h1]
        · exact h.elim
      · exact h.elim
  · exact h.elim

theorem run_store {a : Addr} {v v0 : Value} {w : World} (hc : okCell v = true) (h : w.cell? a = some v0) (hf : w.frozen? a = false) : (store a v).run P w = .ok () (w.setCell a v) := by
  cases v <;> simp_all [store, Sem.run, okCell]

theorem storeCellsW_run {a : Addr} {K : World → Prop} : ∀ (vs : List Value) (i : Nat) (w : World), storeCellsW a K vs i w → ∃ w', K w' ∧ (storeCells a vs i).run P w = .ok () w'
  | [], i, w, h => ⟨w, h, by simp [storeCells, Sem.run]⟩
  | v :: vs, i, w, h => by
    unfold storeCellsW at h
    split at h
    · rename_i hok
      obtain ⟨⟨v0, h0⟩, hf, h⟩ := h
      obtain ⟨w', h1, h2⟩ := storeCellsW_run vs (i + 1) _ h
      exact ⟨w', h1, by simp [storeCells, Sem.run_bind, run_store hok h0 hf, Result.andThen, h2]⟩
    · exact h.elim

theorem storeW_run {t : TypeId} {p x : Value} {K : World → Prop} {w : World} (h : storeW P t p x K w) : ∃ w', K w' ∧ (Instr.storeAt t p x).run P w = .ok () w' := by
  unfold storeW at h
  split at h
  · split at h
    · rename_i hs
      obtain ⟨w', h1, h2⟩ := storeCellsW_run (P := P) _ _ _ h
      refine ⟨w', h1, ?_⟩
      simp only [Instr.storeAt, Instr.sureAddr, storeVar, Sem.run_bind, Sem.run_pure, Result.andThen, run_sizeOf hs]
      simp [h2, Sem.run_bind, Sem.run_pure, Result.andThen]
    · exact h.elim
  · exact h.elim

theorem run_newVar {t : TypeId} {v : Value} {w : World} : (newVar t v).run P w = .ok ⟨w.heap.size, 0, none⟩ (w.alloc (.cells v.cells t)) := by
  simp [newVar, newRow, Sem.run_bind, run_newObj_alloc, Result.andThen]

theorem run_newRow {t : TypeId} {c : Array Value} {w : World} : (newRow t c).run P w = .ok ⟨w.heap.size, 0, none⟩ (w.alloc (.cells c t)) := by
  simp [newRow, Sem.run_bind, run_newObj_alloc, Result.andThen]

theorem boundsOk {x : Int} {y : Nat} {k : IntKind} {code : BoundsCode} {w : World} (h0 : 0 ≤ x) (h1 : x ≤ (y : Int)) : (Instr.sliceBound (.int k x) y code).run P w = .ok x.toNat w := by
  simp [Instr.sliceBound, asIntOf, Sem.run_bind, Result.andThen, h0, h1]

theorem elemT_slice {t el : TypeId} (h : elemT P t = some (none, el)) : P.underlying t = some (.slice el) := by
  unfold elemT at h
  cases hd : P.underlying t with
  | none => simp [hd] at h
  | some d => cases d <;> simp_all

theorem elemT_array {t el : TypeId} {n : Nat} (h : elemT P t = some (some n, el)) : P.underlying t = some (.array n el) := by
  unfold elemT at h
  cases hd : P.underlying t with
  | none => simp [hd] at h
  | some d => cases d <;> simp_all

theorem indexAddrW_run {t : TypeId} {x i : Value} {K : Value → Prop} {w : World} (h : indexAddrW P t x i K) : ∃ v, K v ∧ (Instr.indexAt t x i).run P w = .ok v w := by
  unfold indexAddrW at h
  split at h
  · rename_i k n
    split at h
    · rename_i el he
      split at h
      · rename_i p len c
        split at h
        · rename_i sz hsz
          obtain ⟨a, rfl, h0, h1, hk⟩ := h
          refine ⟨_, hk, ?_⟩
          have hu := elemT_slice he
          simp [Instr.indexAt, asIntOf, Sem.run_bind, Result.andThen, run_underlying hu, h0, h1, run_sizeOf hsz]
        · exact h.elim
      · exact h.elim
    · rename_i len el he
      split at h
      · rename_i a
        split at h
        · rename_i sz hsz
          obtain ⟨h0, h1, hk⟩ := h
          refine ⟨_, hk, ?_⟩
          have hu := elemT_array he
          simp [Instr.indexAt, asIntOf, Sem.run_bind, Result.andThen, run_underlying hu, h0, h1, run_sizeOf hsz, Instr.sureAddr]
        · exact h.elim
      · exact h.elim
    · exact h.elim
  · exact h.elim

theorem fieldAddrW_run {s : TypeId} {v : Value} {f : Nat} {K : Value → Prop} {w : World} (h : fieldAddrW P s v f K) : ∃ x, K x ∧ (Instr.fieldAt s v f).run P w = .ok x w := by
  unfold fieldAddrW at h
  split at h
  · rename_i a
    split at h
    · rename_i t off ho
      split at h
      · rename_i n hsz
        refine ⟨_, h, ?_⟩
        unfold fieldOff at ho
        split at ho
        · rename_i fs hu
          cases hf : fs[f]? with
          | none => simp [hf] at ho
          | some y =>
            simp [hf] at ho
            obtain ⟨rfl, rfl⟩ := ho
            simp [Instr.fieldAt, Sem.run_bind, Result.andThen, run_underlying hu, hf, Instr.sureAddr, fieldPlace, run_sizeOf hsz]
        · exact absurd ho (by simp)
      · exact h.elim
    · exact h.elim
  · exact h.elim

theorem partV_run {t : TypeId} {cs : Array Value} {off : Nat} {x : Value} {w : World} (h : partV P t cs off = some x) : (part t cs off).run P w = .ok x w := by
  unfold partV at h
  split at h
  · rename_i ha
    split at h
    · rename_i n hn
      obtain rfl : _ = x := by simpa using h
      simp [part, Sem.run_bind, Result.andThen, run_isAgg (isAgg_some ha), ha, run_sizeOf hn]
    · exact absurd h (by simp)
  · rename_i ha
    split at h
    · rename_i hs
      have ha' : isAggB P t = false := by simpa using ha
      simp [part, Sem.run_bind, Result.andThen, run_isAgg hs, ha', h]
    · exact absurd h (by simp)

theorem fieldW_run {s : TypeId} {v : Value} {f : Nat} {K : Value → Prop} {w : World} (h : fieldW P s v f K) : ∃ x, K x ∧ (Instr.field s v f).run P w = .ok x w := by
  unfold fieldW at h
  split at h
  · rename_i cs
    split at h
    · rename_i t off ho
      split at h
      · rename_i x hx
        refine ⟨_, h, ?_⟩
        unfold fieldOff at ho
        split at ho
        · rename_i fs hu
          cases hf : fs[f]? with
          | none => simp [hf] at ho
          | some y =>
            simp [hf] at ho
            obtain ⟨rfl, rfl⟩ := ho
            simp [Instr.field, Sem.run_bind, Result.andThen, run_underlying hu, hf, asAgg, partV_run hx]
        · exact absurd ho (by simp)
      · exact h.elim
    · exact h.elim
  · exact h.elim

theorem indexW_run {rt t : TypeId} {x i : Value} {K : Value → World → Prop} {w : World} (h : indexW P rt t x i K w) : ∃ v w', K v w' ∧ (Instr.index t x i).run P w = .ok v w' := by
  unfold indexW at h
  split at h
  · rename_i s k n
    split at h
    · rename_i hu
      obtain ⟨b, h0, h1, hk⟩ := h
      refine ⟨_, _, hk, ?_⟩
      cases hd : P.underlying t with
      | none => simp [hd] at hu
      | some d =>
        cases d <;> simp [hd] at hu
        simp [Instr.index, asIntOf, Sem.run_bind, Result.andThen, run_underlying hd, h0, h1]
    · exact h.elim
  · obtain ⟨v, w', h1, h2⟩ := RunT_out h
    exact ⟨v, w', h2, h1⟩

end Go.Eng
