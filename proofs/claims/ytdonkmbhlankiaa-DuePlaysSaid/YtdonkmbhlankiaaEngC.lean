/-
  The engine, part C: the remaining operations' soundness, and the one theorem for an operation.
-/
import Derived.Test.YtdonkmbhlankiaaEngB
namespace Go.Eng
open Go

variable {P : Program}

theorem intOp_run {op : BinOp} {k : IntKind} {a b : Int} {K : Value → Prop} {t : TypeId} {w : World} (hs : isShift op = false) (h : intOp op k a b K) : ∃ v, K v ∧ (binOp op t (.int k a) (.int k b)).run P w = .ok v w := by
  cases op <;> simp only [intOp, isShift] at h hs <;> try exact h.elim
  all_goals first | (refine ⟨_, h, ?_⟩; simp [binOp, Op.intArith, Op.intBits, Op.intCmp, bitsV]; done) | skip
  all_goals first | (obtain ⟨h0, h1⟩ := h; refine ⟨_, h1, ?_⟩; simp [binOp, Op.intDiv, h0]; done) | skip
  all_goals simp at hs

theorem binW_run {op : BinOp} {t : TypeId} {x y : Operand} {a b : Value} {K : Value → World → Prop} {w : World} (h : binW P op t x y a b K w) :
    ∃ v w', K v w' ∧ (do eqGuard op t x y a b; binOp op t a b : Sem Value).run P w = .ok v w' := by
  unfold binW at h
  split at h
  · rename_i k m k' n
    have hg : (eqGuard op t x y (.int k m) (.int k' n)) = pure () := by
      unfold eqGuard
      cases op <;> rfl
    rw [hg]
    split at h
    · rename_i hsh
      have hcase : op = .shl ∨ op = .shr := by cases op <;> simp_all [isShift]
      rcases hcase with rfl | rfl
      all_goals
        simp only [shiftOp] at h
        obtain ⟨h0, h1⟩ := h
        have h0' : ¬ n < 0 := by omega
        exact ⟨_, _, h1, by simp [binOp, Op.shift, h0']⟩
    · rename_i hsh
      split at h
      · rename_i hk
        subst hk
        obtain ⟨v, h1, h2⟩ := intOp_run (P := P) (t := t) (w := w) (by simpa using hsh) h
        exact ⟨v, w, h1, by simpa using h2⟩
      · exact h.elim
  · obtain ⟨v, w', h1, h2⟩ := RunT_out h
    exact ⟨v, w', h2, h1⟩

theorem unW_run {op : UnOp} {a : Value} {K : Value → Prop} {w : World} (h : unW op a K) : ∃ v, K v ∧ (Op.unary op a).run P w = .ok v w := by
  unfold unW at h
  split at h
  · exact ⟨_, h, by simp [Op.unary]⟩
  · exact ⟨_, h, by simp [Op.unary, Op.intArith]⟩
  · exact ⟨_, h, by simp [Op.unary, Op.intBits, bitsV]⟩
  · exact h.elim

theorem bndW_run {v : Option Value} {y d : Nat} {K : Nat → Prop} (h : bndW v y d K) :
    ∃ n, K n ∧ ((v = none ∧ n = d) ∨ ∃ x, v = some x ∧ ∀ (code : BoundsCode) (w : World), (Instr.sliceBound x y code).run P w = .ok n w) := by
  unfold bndW at h
  split at h
  · exact ⟨d, h, .inl ⟨rfl, rfl⟩⟩
  · rename_i k n
    obtain ⟨h0, h1, hk⟩ := h
    exact ⟨_, hk, .inr ⟨_, rfl, fun code w => boundsOk h0 h1⟩⟩
  · exact h.elim

theorem sliceW_run {t : TypeId} {x : Value} {lo hi mx : Option Value} {K : Value → World → Prop} {w : World} (h : sliceW P t x lo hi mx K w) :
    ∃ v w', K v w' ∧ (Instr.sliceAt t x lo hi mx).run P w = .ok v w' := by
  unfold sliceW at h
  split at h
  · rename_i el p len cap he
    split at h
    · rename_i sz hsz
      obtain ⟨m, h, hm⟩ := bndW_run (P := P) h
      split at h
      · exact h.elim
      · rename_i hmh
        obtain ⟨hh, h, hhi⟩ := bndW_run (P := P) h
        obtain ⟨l, h, hl⟩ := bndW_run (P := P) h
        refine ⟨_, _, h, ?_⟩
        have hu := elemT_slice he
        rcases hm with ⟨rfl, rfl⟩ | ⟨vm, rfl, hm⟩ <;> rcases hhi with ⟨rfl, rfl⟩ | ⟨vh, rfl, hhi⟩ <;> rcases hl with ⟨rfl, rfl⟩ | ⟨vl, rfl, hl⟩ <;>
          simp_all [Instr.sliceAt, Instr.slice, Instr.sliceBounds, Sem.run_bind, Result.andThen, run_underlying hu, run_sizeOf hsz, slAddr]
    · exact h.elim
  · obtain ⟨v, w', h1, h2⟩ := RunT_out h
    exact ⟨v, w', h2, h1⟩

theorem allocW_run {t : TypeId} {K : Value → World → Prop} {w : World} (h : allocW P t K w) : ∃ v w', K v w' ∧ (Instr.alloc t true (.tuple #[])).run P w = .ok v w' := by
  unfold allocW at h
  split at h
  · rename_i z hz
    refine ⟨_, _, h, ?_⟩
    simp [Instr.alloc, Sem.run_bind, Result.andThen, run_zeroValue hz, run_newVar]
  · exact h.elim

theorem boxW_run {t : TypeId} {x : Value} {K : Value → World → Prop} {w : World} (h : boxW t x K w) : ∃ v w', K v w' ∧ (Instr.box t x).run P w = .ok v w' := by
  refine ⟨_, _, h, ?_⟩
  simp [Instr.box, Sem.run_bind, Result.andThen, run_newVar]

theorem mapM_places {fs : List Field} {w : World} : ∀ {l : List (Nat × Nat)}, fs.mapM (fun f => (sizeT P f.type).map fun n => (f.offset, n)) = some l →
    (fs.mapM (fun f => do pure (f.offset, ← sizeOf f.type) : Field → Sem (Nat × Nat))).run P w = .ok l w := by
  induction fs with
  | nil => intro l h; obtain rfl : l = [] := by simpa using h.symm
           simp
  | cons f fs ih =>
    intro l h
    simp only [List.mapM_cons] at h
    cases hs : sizeT P f.type with
    | none => simp [hs] at h
    | some n =>
      simp only [hs, Option.map_some, Option.bind_eq_bind, Option.bind_some, Option.pure_def] at h
      cases hr : fs.mapM (fun f => (sizeT P f.type).map fun n => (f.offset, n)) with
      | none => simp [hr] at h
      | some r =>
        simp only [hr, Option.bind_some, Option.some.injEq] at h
        subst h
        have := ih hr
        simp only [List.mapM_cons, Sem.run_bind, Result.andThen, run_sizeOf hs, Sem.run_pure, this]

theorem buildW_run {t : TypeId} {parts : Array (Nat × Value)} {K : Value → Prop} {w : World} (h : buildW P t parts.toList K) : ∃ v, K v ∧ (Instr.build t parts).run P w = .ok v w := by
  unfold buildW at h
  split at h
  · rename_i z pl hz hp
    split at h
    · rename_i cells hc
      refine ⟨_, h, ?_⟩
      unfold places at hp
      split at hp
      · rename_i fs hu
        split at hp
        · rename_i l hl
          obtain rfl : _ = pl := by simpa using hp
          have hm := mapM_places (P := P) (w := w) hl
          have hm' : (fs.mapM (fun f => do pure (f.offset, ← sizeOf f.type) : Field → Sem (Nat × Nat))).run P w = .ok l.toArray w := by
            rw [Array.mapM_eq_mapM_toList]
            simp only [map_eq_pure_bind, Sem.run_bind, hm, Result.andThen]
            simp
          simp only [Instr.build, Sem.run_bind, Result.andThen, run_zeroValue hz, run_underlying hu, hm', List.getElem?_toArray, hc]
          simp
        · exact absurd hp (by simp)
      · rename_i n e hu
        split at hp
        · rename_i sz hsz
          obtain rfl : _ = pl := by simpa using hp
          simp only [Instr.build, Sem.run_bind, Result.andThen, run_zeroValue hz, run_underlying hu, run_sizeOf hsz, hc]
          simp
        · exact absurd hp (by simp)
      · exact absurd hp (by simp)
    · exact h.elim
  · exact h.elim

theorem zeros_list (l : List Value) (n : Nat) : (List.range (n * l.length)).map (fun i => l[i % l.length]!) = (List.replicate n l).flatten := by
  induction n with
  | zero => simp
  | succ n ih =>
    rw [Nat.succ_mul, List.range_add, List.map_append, ih, List.replicate_succ', List.flatten_append]
    congr 1
    simp only [List.map_map, List.flatten_cons, List.flatten_nil, List.append_nil]
    apply List.ext_getElem
    · simp
    · intro i h1 h2
      simp only [List.length_map, List.length_range] at h1
      simp [Nat.mod_eq_of_lt h1, h2]

theorem zeros_eq (z : Array Value) (n : Nat) : (Array.range (n * z.size)).map (fun i => z[i % z.size]!) = zeros n z.toList := by
  have := zeros_list z.toList n
  simp only [Array.length_toList] at this
  unfold zeros
  rw [← this]
  apply Array.ext'
  simp only [Array.toList_map, Array.toList_range]
  apply List.map_congr_left
  intro i _
  simp [Array.getElem!_eq_getD]

theorem buildSliceW_run {t : TypeId} {len : Nat} {parts : Array (Nat × Value)} {K : Value → World → Prop} {w : World} (h : buildSliceW P t len parts.toList K w) :
    ∃ v w', K v w' ∧ (Instr.buildSlice t len parts).run P w = .ok v w' := by
  unfold buildSliceW at h
  split at h
  · rename_i el he
    split at h
    · rename_i sz z hsz hz
      split at h
      · rename_i hle
        obtain ⟨hle, hzs⟩ := hle
        split at h
        · rename_i cells hc
          refine ⟨_, _, h, ?_⟩
          have hu := elemT_slice he
          have hle' : ¬ (2 ^ 24 < len * (sz + 1)) := by omega
          have hz2 := zeros_eq z.cells len
          rw [hzs] at hz2
          by_cases hl : len * (sz + 1) = 0
          · have hl0 : len = 0 := by
              rcases Nat.mul_eq_zero.1 hl with h | h
              · exact h
              · omega
            subst hl0
            have e : ∀ z : Array Value, (Array.range 0).map (fun j => z[j % z.size]!) = #[] := fun z => by apply Array.ext' ; simp
            have e2 : zeros 0 z.cells.toList = #[] := by simp [zeros]
            rw [e2] at hc
            simp only [Instr.buildSlice, Sem.run_bind, Result.andThen, run_underlying hu, run_sizeOf hsz, hle', gt_iff_lt, if_false, hl, if_true, Sem.run_pure, e, hc, run_newRow]
            rw [if_neg (by omega)]
            simp only [Sem.run_bind, Result.andThen, Sem.run_pure, run_newRow]
          · simp only [Instr.buildSlice, Sem.run_bind, Result.andThen, run_underlying hu, run_sizeOf hsz, hle', gt_iff_lt, if_false, hl, run_zeroValue hz, Sem.run_pure, hzs, hz2, hc, run_newRow]
        · exact h.elim
      · exact h.elim
    · exact h.elim
  · exact h.elim

theorem makeSliceW_run {t : TypeId} {l c : Value} {K : Value → World → Prop} {w : World} (h : makeSliceW P t l c K w) :
    ∃ v w', K v w' ∧ (Instr.makeSlice t l c).run P w = .ok v w' := by
  unfold makeSliceW at h
  split at h
  · rename_i el kl l kc c he
    split at h
    · rename_i i hi
      split at h
      · rename_i z hz
        split at h
        case isFalse => exact h.elim
        rename_i hzs
        obtain ⟨h0, h1, h2, h3, hk⟩ := h
        have hz2 := zeros_eq z.cells c.toNat
        rw [hzs] at hz2
        refine ⟨_, _, hk, ?_⟩
        have hu := elemT_slice he
        have hl : IntKind.i64.wrap l = l := IntWalk.i64_in _ (by omega)
        have hc : IntKind.i64.wrap c = c := IntWalk.i64_in _ (by omega)
        have hti : (typeInfo el).run P w = .ok i w := by simp [typeInfo, program, Sem.run_bind, Sem.run, Result.andThen, hi]
        have hsz : sizeT P el = some i.size := by simp [sizeT, hi]
        have hzz : zeroOf P el = some z := by simp [zeroOf, hi, hz]
        have hbc : ¬ (2 ^ 48 < (i.bytes : Int) * c) := by omega
        have hc0 : ¬ c < 0 := by omega
        have hl0 : ¬ l < 0 := by omega
        have hlc : ¬ c < l := by omega
        have hrm : ¬ roomBytes < c.toNat * i.bytes := by
          unfold roomBytes
          have : ((c.toNat * i.bytes : Nat) : Int) = i.bytes * c := by
            rw [Int.natCast_mul, Int.toNat_of_nonneg (by omega), Int.mul_comm]
          omega
        simp only [Instr.makeSlice, asInt, asIntOf, Sem.run_bind, Result.andThen, run_underlying hu, Sem.run_pure, hti, hl, hc, gt_iff_lt, hbc, hc0, hl0, hlc, decide_false, Bool.or_false, Bool.false_or, Bool.false_eq_true, if_false, askRoom, hrm, run_sizeOf hsz]
        by_cases hn : c.toNat * i.size = 0
        · have e : ∀ z : Array Value, (Array.range 0).map (fun j => z[j % z.size]!) = #[] := fun z => by apply Array.ext' ; simp
          have e2 : zeros c.toNat z.cells.toList = #[] := by
            rw [← hz2, hn]; apply Array.ext' ; simp
          simp only [hn, if_true, Sem.run_pure, e, e2, run_newRow, Sem.run_bind, Result.andThen]
        · simp only [hn, if_false, Sem.run_pure, run_newRow, Sem.run_bind, Result.andThen, run_zeroValue hzz, hzs, hz2]
      · exact h.elim
    · exact h.elim
  · exact h.elim

end Go.Eng
