/-
  The engine, part D: one operation is sound.
-/
import Derived.Test.YtdonkmbhlankiaaEngC
import Derived.OrdersIn
namespace Go.Eng
open Go

variable {P : Program}

theorem convW_run {s d : TypeId} {v : Value} {K : Value → World → Prop} {w : World} (h : convW P s d v K w) : ∃ x w', K x w' ∧ (convert s d v).run P w = .ok x w' := by
  unfold convW at h
  split at h
  · rename_i k1 k2 k3 n h1 h2
    exact ⟨_, _, h, by simp [convert, Sem.run_bind, Result.andThen, run_underlying h1, run_underlying h2, Conv.intToInt]⟩
  · obtain ⟨x, w', h1, h2⟩ := RunT_out h
    exact ⟨x, w', h2, h1⟩

theorem lenW_run {ts : Array TypeId} {t : TypeId} {args : Array Value} {K : Value → World → Prop} {w : World} (h : lenW P ts t args K w) :
    ∃ x w', K x w' ∧ (Builtin.len_ ts t args).run P w = .ok x w' := by
  unfold lenW at h
  split at h
  · rename_i a l c hl
    split at h
    · rename_i ht
      refine ⟨_, _, h, ?_⟩
      cases h0 : ts[0]? with
      | none => simp [h0] at ht
      | some t0 =>
        cases hd : P.underlying t0 with
        | none => simp [h0, hd] at ht
        | some d =>
          cases d <;> simp [h0, hd] at ht
          have ha : args[0]? = some (.slice a l c) := by rw [← Array.getElem?_toList, hl]; rfl
          simp [Builtin.len_, h0, ha, Sem.run_bind, Result.andThen, run_underlying hd, goInt]
    · exact h.elim
  · rename_i s hl
    split at h
    · rename_i ht
      refine ⟨_, _, h, ?_⟩
      cases h0 : ts[0]? with
      | none => simp [h0] at ht
      | some t0 =>
        cases hd : P.underlying t0 with
        | none => simp [h0, hd] at ht
        | some d =>
          cases d <;> simp [h0, hd] at ht
          have ha : args[0]? = some (.string s) := by rw [← Array.getElem?_toList, hl]; rfl
          simp [Builtin.len_, h0, ha, Sem.run_bind, Result.andThen, run_underlying hd, goInt]
    · exact h.elim
  · obtain ⟨x, w', h1, h2⟩ := RunT_out h
    exact ⟨x, w', h2, h1⟩

theorem minW_run {w : World} : ∀ (l : List Value) (v : Value) (K : Value → Prop), minW min2W l v K → ∃ x, K x ∧ (l.foldlM Builtin.min2 v).run P w = .ok x w
  | [], v, K, h => ⟨v, h, by simp [List.foldlM]⟩
  | y :: ys, v, K, h => by
    simp only [minW] at h
    unfold min2W at h
    split at h
    · obtain ⟨x, h1, h2⟩ := minW_run (w := w) ys _ K h
      exact ⟨x, h1, by simpa [List.foldlM, Builtin.min2, Sem.run_bind, Result.andThen] using h2⟩
    · exact h.elim

theorem maxW_run {w : World} : ∀ (l : List Value) (v : Value) (K : Value → Prop), minW max2W l v K → ∃ x, K x ∧ (l.foldlM Builtin.max2 v).run P w = .ok x w
  | [], v, K, h => ⟨v, h, by simp [List.foldlM]⟩
  | y :: ys, v, K, h => by
    simp only [minW] at h
    unfold max2W at h
    split at h
    · obtain ⟨x, h1, h2⟩ := maxW_run (w := w) ys _ K h
      exact ⟨x, h1, by simpa [List.foldlM, Builtin.max2, Sem.run_bind, Result.andThen] using h2⟩
    · exact h.elim

theorem builtinW_run {b : Builtin} {ts : Array TypeId} {t : TypeId} {cs : Array Bool} {args : Array Value} {K : Value → World → Prop} {w : World} (h : builtinW P b ts t args K w) :
    ∃ x w', K x w' ∧ (builtin b ts t cs args).run P w = .ok (.value x) w' := by
  unfold builtinW at h
  split at h
  · obtain ⟨x, w', h1, h2⟩ := lenW_run h
    exact ⟨x, w', h1, run_value h2⟩
  · split at h
    · rename_i v vs hl
      obtain ⟨x, h1, h2⟩ := minW_run (P := P) (w := w) _ _ _ h
      exact ⟨x, w, h1, run_value (by simp [Builtin.min_, hl, h2])⟩
    · exact h.elim
  · split at h
    · rename_i v vs hl
      obtain ⟨x, h1, h2⟩ := maxW_run (P := P) (w := w) _ _ _ h
      exact ⟨x, w, h1, run_value (by simp [Builtin.max_, hl, h2])⟩
    · exact h.elim
  · obtain ⟨x, w', h1, h2⟩ := RunT_out h; exact ⟨x, w', h2, run_value h1⟩
  · obtain ⟨x, w', h1, h2⟩ := RunT_out h; exact ⟨x, w', h2, run_value h1⟩
  · obtain ⟨x, w', h1, h2⟩ := RunT_out h; exact ⟨x, w', h2, run_value h1⟩
  · obtain ⟨x, w', h1, h2⟩ := RunT_out h; exact ⟨x, w', h2, run_value h1⟩
  · obtain ⟨x, w', h1, h2⟩ := RunT_out h; exact ⟨x, w', h2, run_value h1⟩
  · exact h.elim

theorem run_callFunc {f : FuncId} {args : Array Value} {w : World} (hP : Plain P) (hb : hasBody P f = true) : (callFunc f args).run P w = .ok (.enter f args) w := by
  unfold hasBody at hb
  cases hf : P.funcs[f]? with
  | none => simp [hf] at hb
  | some fn =>
    simp only [hf] at hb
    have hn := hP f fn hf
    have hn' : (fn.name == "runtime.NumGoroutine") = false := by simpa using hn
    have hb' : fn.body.isNone = false := by
      cases h : fn.body <;> simp_all
    simp only [callFunc, program, Sem.run_bind, Sem.run, Result.andThen, hf, hn', hb', Bool.false_eq_true, if_false, Sem.run_pure]

theorem nilCheckW_run {v : Value} {K : Value → Prop} (h : nilCheckW v K) {ρ : Operand → Value} {o : Oper} {x : Operand} (ho : o.op = .nilCheck x) (hx : ρ x = v) (w : World) :
    ∃ y, K y ∧ (execOp ρ o).run P w = .ok (.value y) w := by
  unfold nilCheckW at h
  split at h
  · obtain ⟨a, rfl, hk⟩ := h
    exact ⟨_, hk, by simp [execOp, ho, hx]⟩
  · exact ⟨_, h, by simp [execOp, ho, hx]⟩
  · exact ⟨_, h, by simp [execOp, ho, hx]⟩
  · exact h.elim

theorem callW_sound (hP : Plain P) {ro : Option Nat} {o : Oper} {c : Call} (ho : o.op = .call c) {e : Env} {ρ : Operand → Value} (hρ : execOp (ev e) o = execOp ρ o) {ds : List Deferred} {w : World} {next : Act → World → Prop} {Q : Exit → Act → World → Prop}
    {K : Value → World → Prop} (h : callW P c o.type ρ K w) (hK : ∀ v w', K v w' → next ⟨(putE e o.dst v).toArray, ds⟩ w') : o.wpIn (FW ro) 0 P ⟨e.toArray, ds⟩ w next Q := by
  have hd : ∀ c, o.op ≠ .defer c := by rw [ho]; intro c; simp
  unfold callW at h
  split at h
  · rename_i f hc
    unfold CalleeV at h
    split at h
    · rename_i g first captured hf
      split at h
      · rename_i hb
        have hr : (execOp ρ o).run P w = .ok (.enter g (first ++ c.args.map ρ ++ captured)) w := by
          simp only [execOp, ho, resolve, hc, hf, Deferred.ofValue, Sem.run_bind, Sem.run_pure, Result.andThen, invoke, run_callFunc hP hb]
        refine ⟨fun _ _ => trivial, ?_⟩
        rw [Oper.semAt_eq _ _ _ hd, eval_ev, hρ, hr, Oper.uponIn_enter]
        refine ⟨fun hh => absurd hh (by simp [FW, Fence.wide]), ?_⟩
        have hcs := (callsIn_wide (n := 0)).2 h
        refine CallsIn.mono (F := FW ro) hcs ?_
        rintro e' w' ⟨v, rfl, hk⟩
        show next _ _
        rw [put_putE]
        exact hK _ _ (tyK_out hk)
      · obtain ⟨v, w', h1, h2⟩ := h
        refine wpIn_value hd (w' := w') (v := v) ?_ (by rw [put_putE]; exact hK _ _ (tyK_out h2))
        rw [eval_ev, hρ]
        simp only [execOp, ho, resolve, hc, hf, Deferred.ofValue, Sem.run_bind, Sem.run_pure, Result.andThen, invoke]
        exact h1
    · rename_i l first captured hf
      obtain ⟨r, hl, hs, hrd⟩ := h
      have hr : (execOp ρ o).run P w = .ok (.round l r.fn ((r.params.zip (first ++ c.args.map ρ)).foldl (fun tmps (t, a) => tmps.setIfInBounds t a) r.tmps) r.assign r.body) w := by
        simp only [execOp, ho, resolve, hc, hf, Deferred.ofValue, Sem.run_bind, Sem.run_pure, Result.andThen, invoke, run_yield hl hs]
      refine ⟨fun _ _ => trivial, ?_⟩
      rw [Oper.semAt_eq _ _ _ hd, eval_ev, hρ, hr, Oper.uponIn_round]
      refine ⟨fun hh => absurd hh (by simp [FW, Fence.wide]), ?_⟩
      refine RoundIn.mono (F := FW ro) hrd ?_
      rintro e' w' ⟨v, rfl, hk⟩
      show next _ _
      rw [put_putE]
      exact hK _ _ (tyK_out hk)
    · exact h.elim
  · rename_i b hc
    obtain ⟨x, w', h1, h2⟩ := builtinW_run (cs := c.args.map fun | .const _ => true | _ => false) h
    refine wpIn_value hd (w' := w') (v := x) ?_ (by rw [put_putE]; exact hK _ _ h1)
    rw [eval_ev, hρ]
    simp only [execOp, ho, resolve, hc, Sem.run_bind, Sem.run_pure, Result.andThen, invoke]
    exact h2
  · exact h.elim

/-- One operation. -/
theorem opW_sound (hP : Plain P) {ro : Option Nat} {o : Oper} {e : Env} {ρ : Operand → Value} (hρ : execOp (ev e) o = execOp ρ o) {ds : List Deferred} {w : World} {next : Act → World → Prop} {Q : Exit → Act → World → Prop}
    {K : Value → World → Prop} (h : opW P o ρ K w) (hK : ∀ v w', K v w' → next ⟨(putE e o.dst v).toArray, ds⟩ w') : o.wpIn (FW ro) 0 P ⟨e.toArray, ds⟩ w next Q := by
  have val : (∀ c, o.op ≠ .defer c) → ∀ v w', K v w' → (execOp ρ o).run P w = .ok (.value v) w' → o.wpIn (FW ro) 0 P ⟨e.toArray, ds⟩ w next Q := by
    intro hd v w' hk hr
    exact wpIn_value hd (by rw [eval_ev, hρ]; exact hr) (by rw [put_putE]; exact hK _ _ hk)
  have skp : (∀ c, o.op ≠ .defer c) → ∀ w', K undef w' → (execOp ρ o).run P w = .ok .skip w' → o.wpIn (FW ro) 0 P ⟨e.toArray, ds⟩ w next Q := by
    intro hd w' hk hr
    exact wpIn_skipped hd (by rw [eval_ev, hρ]; exact hr) (by rw [put_putE]; exact hK _ _ hk)
  unfold opW at h
  split at h
  case h_1 x ho => exact val (by rw [ho]; simp) _ _ h (by simp [execOp, ho])
  case h_2 x ho => exact val (by rw [ho]; simp) _ _ h (by simp [execOp, ho])
  case h_3 c a b ho =>
    unfold pickW at h
    split at h
    · rename_i t ht
      split at h <;> exact val (by rw [ho]; simp) _ _ h (by simp [execOp, ho, ht, asBool])
    · exact h.elim
  case h_4 t ho => obtain ⟨v, w', h1, h2⟩ := allocW_run h; exact val (by rw [ho]; simp) _ _ h1 (by simp only [execOp, ho]; exact run_value h2)
  case h_5 t x ho => obtain ⟨v, w', h1, h2⟩ := boxW_run h; exact val (by rw [ho]; simp) _ _ h1 (by simp only [execOp, ho]; exact run_value h2)
  case h_6 t parts ho =>
    have hp : (parts.toList.map fun (i, x) => (i, ρ x)) = (parts.map fun (i, x) => (i, ρ x)).toList := by simp
    rw [hp] at h
    obtain ⟨v, h1, h2⟩ := buildW_run (w := w) h; exact val (by rw [ho]; simp) _ _ h1 (by simp only [execOp, ho]; exact run_value h2)
  case h_7 t len parts ho =>
    have hp : (parts.toList.map fun (i, x) => (i, ρ x)) = (parts.map fun (i, x) => (i, ρ x)).toList := by simp
    rw [hp] at h
    obtain ⟨v, w', h1, h2⟩ := buildSliceW_run h; exact val (by rw [ho]; simp) _ _ h1 (by simp only [execOp, ho]; exact run_value h2)
  case h_8 t a ho => obtain ⟨v, h1, h2⟩ := loadW_run h; exact val (by rw [ho]; simp) _ _ h1 (by simp only [execOp, ho]; exact run_value h2)
  case h_9 t a x ho => obtain ⟨w', h1, h2⟩ := storeW_run h; exact skp (by rw [ho]; simp) _ h1 (by simp only [execOp, ho]; exact run_unit h2)
  case h_10 x ho => obtain ⟨v, h1, h2⟩ := nilCheckW_run (P := P) h ho rfl w; exact val (by rw [ho]; simp) _ _ h1 h2
  case h_11 op t x y yt ho => obtain ⟨v, w', h1, h2⟩ := binW_run h; exact val (by rw [ho]; simp) _ _ h1 (by simp only [execOp, ho]; exact run_value h2)
  case h_12 op t x ho => obtain ⟨v, h1, h2⟩ := unW_run (P := P) (w := w) h; exact val (by rw [ho]; simp) _ _ h1 (by simp only [execOp, ho]; exact run_value h2)
  case h_13 s d x ho => obtain ⟨v, w', h1, h2⟩ := convW_run h; exact val (by rw [ho]; simp) _ _ h1 (by simp only [execOp, ho]; exact run_value h2)
  case h_14 fn fi ca ho => exact val (by rw [ho]; simp) _ _ h (by simp only [execOp, ho]; exact run_value (by simp [Instr.makeFunc]))
  case h_15 t r ho => obtain ⟨v, w', h2, h1⟩ := RunT_out h; exact val (by rw [ho]; simp) _ _ h1 (by simp only [execOp, ho]; exact run_value h2)
  case h_16 t l c ho => obtain ⟨v, w', h1, h2⟩ := makeSliceW_run h; exact val (by rw [ho]; simp) _ _ h1 (by simp only [execOp, ho]; exact run_value h2)
  case h_17 t x lo hi mx ho => obtain ⟨v, w', h1, h2⟩ := sliceW_run h; exact val (by rw [ho]; simp) _ _ h1 (by simp only [execOp, ho]; exact run_value h2)
  case h_18 s x f ho => obtain ⟨v, h1, h2⟩ := fieldAddrW_run (w := w) h; exact val (by rw [ho]; simp) _ _ h1 (by simp only [execOp, ho]; exact run_value h2)
  case h_19 s x f ho => obtain ⟨v, h1, h2⟩ := fieldW_run (w := w) h; exact val (by rw [ho]; simp) _ _ h1 (by simp only [execOp, ho]; exact run_value h2)
  case h_20 t x i ho => obtain ⟨v, h1, h2⟩ := indexAddrW_run (w := w) h; exact val (by rw [ho]; simp) _ _ h1 (by simp only [execOp, ho]; exact run_value h2)
  case h_21 t x i ho => obtain ⟨v, w', h1, h2⟩ := indexW_run h; exact val (by rw [ho]; simp) _ _ h1 (by simp only [execOp, ho]; exact run_value h2)
  case h_22 t x i ok ho => obtain ⟨v, w', h2, h1⟩ := RunT_out h; exact val (by rw [ho]; simp) _ _ h1 (by simp only [execOp, ho]; exact run_value h2)
  case h_23 t m k x ho => obtain ⟨w', h2, h1⟩ := h; exact skp (by rw [ho]; simp) _ h1 (by simp only [execOp, ho]; exact run_unit h2)
  case h_24 t m k x ho => obtain ⟨w', h2, h1⟩ := h; exact skp (by rw [ho]; simp) _ h1 (by simp only [execOp, ho]; exact run_unit h2)
  case h_25 t m k ho => obtain ⟨v, w', h2, h1⟩ := h; exact val (by rw [ho]; simp) _ _ (entryT_out h1) (by simp only [execOp, ho]; exact run_value h2)
  case h_26 t m s x ho => obtain ⟨w', h2, h1⟩ := h; exact skp (by rw [ho]; simp) _ h1 (by simp only [execOp, ho]; exact run_unit h2)
  case h_27 t x ho => obtain ⟨v, w', h2, h1⟩ := RunT_out h; exact val (by rw [ho]; simp) _ _ h1 (by simp only [execOp, ho]; exact run_value h2)
  case h_28 it s ho => obtain ⟨v, w', h2, h1⟩ := h; exact val (by rw [ho]; simp) _ _ (nextT_out h1) (by simp only [execOp, ho]; exact run_value h2)
  case h_29 it ho => obtain ⟨v, w', h2, h1⟩ := h; exact val (by rw [ho]; simp) _ _ (entryT_out h1) (by simp only [execOp, ho]; exact run_value h2)
  case h_30 t i ho =>
    unfold extractW at h
    split at h
    · split at h
      · rename_i vs hv x hx
        exact val (by rw [ho]; simp) _ _ (tyX_out h) (by simp only [execOp, ho]; exact run_value (by simp only [Instr.extract, vs, hx]; simp))
      · exact h.elim
    · exact h.elim
  case h_31 c ho => exact callW_sound hP ho hρ h hK
  case h_32 => exact h.elim

/-- One operation, of what is known. -/
theorem opE_sound (hP : Plain P) {ro : Option Nat} {o : Oper} {E : EE} {e : Env} (hr : Rel E e) {ds : List Deferred} {w : World} {next : Act → World → Prop} {Q : Exit → Act → World → Prop}
    {K : Value → World → Prop} (h : opE P o E K w) (hK : ∀ v w', K v w' → next ⟨(putE e o.dst v).toArray, ds⟩ w') : o.wpIn (FW ro) 0 P ⟨e.toArray, ds⟩ w next Q := by
  unfold opE at h
  cases hk : knownL E (opsOf o.op) with
  | false => rw [hk] at h; exact h.elim
  | true =>
    rw [hk] at h
    have hs : ∀ cs b, o.op ≠ .select cs b := fun cs b ho => by
      simp only [opW, ho] at h
      exact h.elim
    exact opW_sound hP (execOp_congr o hs fun x hx => hr.ev (knownL_mem hk x (opsOf_mem o.op hs x hx))) h hK

theorem plain_of {P : Program} (h : (P.funcs.toList.all fun fn => !(fn.name == "runtime.NumGoroutine")) = true) : Plain P := by
  intro f fn hf hn
  rw [List.all_eq_true] at h
  have := h fn (by rw [Array.mem_toList_iff]; exact Array.mem_of_getElem? hf)
  simp [hn] at this

end Go.Eng
