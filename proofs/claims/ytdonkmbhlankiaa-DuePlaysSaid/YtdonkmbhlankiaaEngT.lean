/-
  The engine, part T: pointers that may be nil, addresses two places deep, known tests.
-/
import Derived.Test.YtdonkmbhlankiaaEngN
import Derived.Test.YtdonkmbhlankiaaEngS
namespace Go.Eng
open Go Go.RowKit

theorem cond_tt {T F : Prop} (h : T) : cond true T F := h
theorem cond_ff {T F : Prop} (h : F) : cond false T F := h

section
variable {P : Program}

theorem eqlPtrNN {t : TypeId} {x y : Operand} {K : Value → World → Prop} {w : World} (hu : P.underlying t = some (.pointer (P.pointee t))) (hK : K (.bool true) w) :
    RunW P (binS .eql t x y (.pointer none) (.pointer none)) K w :=
  ⟨_, _, binS_run guardPtr (run_eql_pointer_nil w t none hu), hK⟩

theorem neqPtrNN {t : TypeId} {x y : Operand} {K : Value → World → Prop} {w : World} (hu : P.underlying t = some (.pointer (P.pointee t))) (hK : K (.bool false) w) :
    RunW P (binS .neq t x y (.pointer none) (.pointer none)) K w :=
  ⟨_, _, binS_run guardPtr (run_neq_pointer_nil w t none hu), hK⟩

/-- Two numbers. -/
theorem run_equalIn_arr2 {t e : TypeId} {k : IntKind} (ht : P.underlying t = some (.array 2 e)) (he : P.underlying e = some (.int k)) (hs : sizeT P e = some 1) (d : Nat) (a0 a1 b0 b1 : Int) (w : World) :
    (Op.equalIn (d + 2) t (.agg #[.int k a0, .int k a1]) (.agg #[.int k b0, .int k b1])).run P w = .ok (a0 == b0 && (a1 == b1 && true)) w := by
  have hp : ∀ (i : Nat) (x : Array Value) (v : Value), x[i]? = some v → (part e x i).run P w = .ok v w := fun i x v hv => by
    simp [part, Sem.run_bind, run_isAgg (P := P) (t := e) (w := w) (by rw [he]; rfl), isAggB, he, Result.andThen, hv]
  have h0 : ∀ a b : Int, (Op.equalIn (d + 1) e (.int k a) (.int k b)).run P w = .ok (a == b) w := fun a b => by
    simp [Op.equalIn, Sem.run_bind, run_underlying he, Result.andThen]
  unfold Op.equalIn
  rw [Sem.run_bind, run_underlying ht]
  simp only [Result.andThen]
  rw [Sem.run_bind, run_sizeOf hs]
  simp only [Result.andThen]
  rw [Std.Legacy.Range.forIn_eq_forIn_range']
  have hr : List.range' ({ stop := 2, step_pos := Nat.one_pos } : Std.Legacy.Range).start ({ stop := 2, step_pos := Nat.one_pos } : Std.Legacy.Range).size ({ stop := 2, step_pos := Nat.one_pos } : Std.Legacy.Range).step = [0, 1] := rfl
  rw [hr]
  simp only [List.forIn_cons, List.forIn_nil, Nat.zero_mul, Nat.one_mul]
  have q0 : ∀ x y : Int, (part e #[.int k x, .int k y] 0).run P w = .ok (.int k x) w := fun x y => hp 0 _ _ rfl
  have q1 : ∀ x y : Int, (part e #[.int k x, .int k y] 1).run P w = .ok (.int k y) w := fun x y => hp 1 _ _ rfl
  clear hp hr
  by_cases e0 : a0 = b0 <;> by_cases e1 : a1 = b1 <;> simp [Sem.run_bind, q0, q1, Result.andThen, h0, e0, e1]

theorem eqlArr2 {t e : TypeId} {k : IntKind} {x y : Operand} {a0 a1 b0 b1 : Int} {K : Value → World → Prop} {w : World} (ht : P.underlying t = some (.array 2 e)) (he : P.underlying e = some (.int k)) (hs : sizeT P e = some 1) (hg : P.eqGuardType P.depth t = false)
    (hK : K (.bool (a0 == b0 && (a1 == b1 && true))) w) : RunW P (binS .eql t x y (.agg #[.int k a0, .int k a1]) (.agg #[.int k b0, .int k b1])) K w := by
  refine ⟨_, _, binS_run (run_eqGuard_agg w .eql t x y _ _ hg) ?_, hK⟩
  have : (Op.equalIn 10000 t (.agg #[.int k a0, .int k a1]) (.agg #[.int k b0, .int k b1])).run P w = _ := run_equalIn_arr2 ht he hs 9998 a0 a1 b0 b1 w
  rw [run_eql_struct, this]
  rfl

theorem neqArr2 {t e : TypeId} {k : IntKind} {x y : Operand} {a0 a1 b0 b1 : Int} {K : Value → World → Prop} {w : World} (ht : P.underlying t = some (.array 2 e)) (he : P.underlying e = some (.int k)) (hs : sizeT P e = some 1) (hg : P.eqGuardType P.depth t = false)
    (hK : K (.bool (!(a0 == b0 && (a1 == b1 && true)))) w) : RunW P (binS .neq t x y (.agg #[.int k a0, .int k a1]) (.agg #[.int k b0, .int k b1])) K w := by
  refine ⟨_, _, binS_run (run_eqGuard_agg w .neq t x y _ _ hg) ?_, hK⟩
  have : (Op.equalIn 10000 t (.agg #[.int k a0, .int k a1]) (.agg #[.int k b0, .int k b1])).run P w = _ := run_equalIn_arr2 ht he hs 9998 a0 a1 b0 b1 w
  rw [run_neq_struct, this]
  rfl

end

section
variable {α : Type} {enc : α → List Value} {L : List HP} {w : World} {T : TypeId} {z : Nat} {p : Option Addr} {cap n : Nat} {xs : List α}

theorem rowSetG2 {P : Program} {t : TypeId} {a : Addr} {i : Int} {j k2 : Nat} {v : Value} {ys : List Value} {x0 x : α} {K : World → Prop} (h : Mem L w) (k : Nat) (hz : ∀ x, (enc x).length = z) (hk : nthH L k = row enc T z p cap xs)
    (ha : p = some a) (hl : n = xs.length) (i0 : 0 ≤ i) (i1 : i < (n : Int)) (hs : sizeT P t = some ys.length) (hx : xs[i.toNat]? = some x0) (hy : v.cells.toList = ys) (hok : (ys.all okCell) = true)
    (hj : Nat.ble (j + k2 + ys.length) z = true) (hn : enc x = setVs (enc x0) (j + k2) ys)
    (hK : ∀ w', Mem (setH L k (row enc T z p cap (xs.set i.toNat x))) w' → K w') : storeW P t (.pointer (some (((a.add (i.toNat * z)).add j).add k2))) v K w := by
  rw [addr_add_add _ j k2]
  exact rowSetG (j := j + k2) h k hz hk ha hl i0 i1 hs hx hy hok hj hn hK

end
end Go.Eng
