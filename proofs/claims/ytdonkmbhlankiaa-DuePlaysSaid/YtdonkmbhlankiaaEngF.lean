/-
  The engine, part F: a region that draws its order is sound.
-/
import Derived.Test.YtdonkmbhlankiaaEngE
namespace Go.Eng
open Go

variable {P : Program} {F : Fence} {n : Nat} {ops : Array Oper} {Q : Exit → Act → World → Prop} {S : World → Prop}

def quietAt (P : Program) (ops : Array Oper) (i : Nat) : Bool :=
  match ops[i]? with
  | some o => quietOp P o
  | none => true

/-- What is listed has all that it waits for listed. -/
def ClosedL (ops : Array Oper) (listed : Array Bool) : Prop :=
  ∀ (k : Nat) (o : Oper), ops[k]? = some o → listed.getD k false = true → ∀ e ∈ o.after, Region.binds .any e = true → listed.getD e.on false = true

theorem ClosedL.none (n : Nat) : ClosedL ops (Array.replicate n false) := by
  intro k o _ h
  rcases Nat.lt_or_ge k n with hk | hk
  · simp [hk] at h
  · simp [Array.getElem?_eq_none (xs := Array.replicate n false) (i := k) (by simpa using hk)] at h

theorem ClosedL.put {listed : Array Bool} (h : ClosedL ops listed) {j : Nat} (hj : j ∈ Region.ready .any ops listed) : ClosedL ops (listed.setIfInBounds j true) := by
  intro k o ho hk e he hb
  obtain ⟨-, oj, hoj, hall⟩ := mem_ready.1 hj
  by_cases hjk : j = k
  · subst hjk
    rw [hoj] at ho
    cases ho
    exact getD_set_true (hall e he hb)
  · rw [getD_set_ne false hjk] at hk
    exact getD_set_true (h k o ho hk e he hb)

theorem anc_listed {listed : Array Bool} (hc : ClosedL ops listed) : ∀ (f j i : Nat), (∀ o, ops[j]? = some o → ∀ e ∈ o.after, Region.binds .any e = true → listed.getD e.on false = true) →
    anc ops f j i = true → listed.getD i false = true
  | 0, j, i, _, h => by simp [anc] at h
  | f + 1, j, i, hj, h => by
    unfold anc at h
    split at h
    · rename_i oj hoj
      rw [List.any_eq_true] at h
      obtain ⟨e, he, h⟩ := h
      simp only [Bool.and_eq_true, Bool.or_eq_true, beq_iff_eq] at h
      obtain ⟨hb, h⟩ := h
      have hl := hj oj hoj e (by simpa using he) hb
      rcases h with rfl | h
      · exact hl
      · exact anc_listed hc f e.on i (fun o ho e' he' hb' => hc _ o ho hl e' he' hb') h
    · simp at h

def wpAnyS (F : Fence) (n : Nat) (P : Program) (ops : Array Oper) (Q : Exit → Act → World → Prop) (S : World → Prop) : Nat → Array Bool → Act → World → Prop
  | 0, listed, a, w => Region.ready .any ops listed = [] ∧ Q .normal a w
  | fuel + 1, listed, a, w =>
    (Region.ready .any ops listed = [] → Q .normal a w) ∧
    ∀ i ∈ Region.ready .any ops listed, wpOpIn F n P ops Q i (fun a' w' => ((needS P ops i = true → S w → S w') ∧ (quietAt P ops i = true → w' = w)) ∧ wpAnyS F n P ops Q S fuel (listed.setIfInBounds i true) a' w') a w

theorem wpAnyIn_of_S : ∀ (fuel : Nat) (listed : Array Bool) (a : Act) (w : World), wpAnyS F n P ops Q S fuel listed a w → wpAnyIn F n P .any ops Q fuel listed a w
  | 0, _, _, _, h => h
  | fuel + 1, _, _, _, h => ⟨h.1, fun i hi => wpOpIn_mono (fun a' w' h' => wpAnyIn_of_S fuel _ a' w' h'.2) (h.2 i hi)⟩

/-- In every world that meets T, operation 'o' yields 'v', or it is passed over. -/
def YieldsT (P : Program) (ops : Array Oper) (T : World → Prop) (o : Oper) (v : Value) (a : Act) : Prop :=
  (Region.wanted o (yielded ops a.tmps) = true ∧ (∀ c, o.op ≠ .defer c) ∧ ∀ w, T w → (execOp a.eval o).run P w = .ok (.value v) w) ∨
  (Region.wanted o (yielded ops a.tmps) = false ∧ v = undef)

theorem YieldsT.wpOpIn {ro : Option Nat} {T : World → Prop} {i : Nat} {o : Oper} {v : Value} {a : Act} (hi : ops[i]? = some o) (hy : YieldsT P ops T o v a)
    {K : Act → World → Prop} {w : World} (hT : T w) (h : K (a.put o.dst v) w) : wpOpIn (FW ro) 0 P ops Q i K a w := by
  unfold Go.wpOpIn
  simp only [hi]
  rcases hy with ⟨hw, hd, hv⟩ | ⟨hw, rfl⟩
  · rw [if_pos hw]
    exact wpIn_value hd (hv w hT) h
  · rw [if_neg (by rw [hw]; simp)]
    exact ⟨fun _ _ => trivial, h⟩

theorem YieldsT.of_same {T : World → Prop} {o : Oper} {v : Value} {a a' : Act} (hy : YieldsT P ops T o v a) (he : execOp a'.eval o = execOp a.eval o)
    (hw : Region.wanted o (yielded ops a'.tmps) = Region.wanted o (yielded ops a.tmps)) : YieldsT P ops T o v a' := by
  unfold YieldsT at *
  rw [he, hw]
  exact hy

theorem wpOpIn_putT {ro : Option Nat} {T : World → Prop} {j : Nat} {oi oj : Oper} {v : Value} (hj : ops[j]? = some oj) (hap : oi.apart ops oj = true)
    (hsi : ∀ cs b, oi.op ≠ .select cs b) (hsj : ∀ cs b, oj.op ≠ .select cs b) (hdj : ∀ c, oj.op ≠ .defer c)
    (hQ : ∀ c a w, Q (.panic c) (a.put oi.dst v) w → Q (.panic c) a w) {K : Act → World → Prop} {a : Act} {w : World}
    (hy : YieldsT P ops T oi v a) (h : wpOpIn (FW ro) 0 P ops Q j K (a.put oi.dst v) w) :
    wpOpIn (FW ro) 0 P ops Q j (fun a' w' => YieldsT P ops T oi v a' ∧ K (a'.put oi.dst v) w') a w := by
  obtain ⟨h1, h2, h3⟩ := Oper.apart_spec hap
  have keep : ∀ (a : Act), YieldsT P ops T oi v a → ∀ u, YieldsT P ops T oi v (a.put oj.dst u) := fun a hy u =>
    hy.of_same (execOp_put oi hsi a oj.dst u h3) (wanted_put oi a oj.dst u h3)
  have keepD : ∀ d, YieldsT P ops T oi v { a with defers := d :: a.defers } := fun d => hy.of_same rfl rfl
  unfold wpOpIn at *
  simp only [hj] at *
  rw [wanted_put oj a oi.dst v h1] at h
  split
  · rename_i hw
    simp only [hw, if_true] at h
    unfold Oper.wpIn at *
    refine ⟨fun _ _ => trivial, ?_⟩
    have h := h.2
    rw [Oper.semAt_eq _ _ _ hdj, execOp_put oj hsj a oi.dst v h1] at h
    rw [Oper.semAt_eq _ _ _ hdj]
    generalize (execOp a.eval oj).run P w = r at *
    cases r with
    | ok x w' =>
      cases x <;> simp only [Oper.uponIn] at h ⊢
      case value u => exact ⟨keep a hy u, by rw [← Act.put_comm a v u h2]; exact h⟩
      case skip => exact ⟨keep a hy _, by rw [← Act.put_comm a v undef h2]; exact h⟩
      case defer d =>
        refine ⟨keep _ (keepD d) _, ?_⟩
        rw [← Act.put_comm _ v undef h2, ← Act.put_defers]
        exact h
      case enter f args =>
        refine ⟨h.1, CallsIn.mono h.2 fun e w'' he => ?_⟩
        cases e with
        | returned u => exact ⟨keep a hy u, by rw [← Act.put_comm a v u h2]; exact he⟩
        | panicked c => exact hQ _ _ _ he
        | outgrown => exact he
      case row row args => exact ⟨h.1, RowsIn.mono h.2 fun u w'' he => ⟨keep a hy u, by rw [← Act.put_comm a v u h2]; exact he⟩⟩
      case round l f tmps assign body =>
        refine ⟨h.1, RoundIn.mono h.2 fun e w'' he => ?_⟩
        cases e with
        | returned u => exact ⟨keep a hy u, by rw [← Act.put_comm a v u h2]; exact he⟩
        | panicked c => exact hQ _ _ _ he
        | outgrown => exact he
    | halt x w' =>
      cases x <;> simp only [Oper.uponIn] at h ⊢
      case panic u => exact hQ _ _ _ h
  · rename_i hw
    simp only [hw] at h
    exact ⟨fun _ _ => trivial, keep a hy _, by rw [← Act.put_comm a v undef h2]; exact h.2⟩

theorem wpAnyS_first {ro : Option Nat} {T : World → Prop} {i : Nat} {oi : Oper} {v : Value} (hi : ops[i]? = some oi) (hsel : ∀ (j : Nat) (o : Oper), ops[j]? = some o → (∀ cs b, o.op ≠ .select cs b) ∧ ∀ c, o.op ≠ .defer c)
    (hQ : ∀ c a w, Q (.panic c) (a.put oi.dst v) w → Q (.panic c) a w)
    :
    ∀ (fuel : Nat) (listed : Array Bool) (a : Act) (w : World), ClosedL ops listed →
      (∀ j oj, ops[j]? = some oj → listed.getD j true = false → (∀ f, anc ops f j i = false) → ∀ w w', T w → (needS P ops j = true → S w → S w') → (quietAt P ops j = true → w' = w) → T w') →
      (∀ j oj, ops[j]? = some oj → j ≠ i → listed.getD j true = false → (∀ e ∈ oj.after, Region.binds .any e = true → e.on ≠ i) → oi.apart ops oj = true) →
      i ∈ Region.ready .any ops listed → YieldsT P ops T oi v a → T w →
      wpAnyS (FW ro) 0 P ops Q S fuel (listed.setIfInBounds i true) (a.put oi.dst v) w → wpAnyS (FW ro) 0 P ops Q S (fuel + 1) listed a w := by
  intro fuel
  induction fuel with
  | zero =>
    intro listed a w _ _ _ hr hy hT H
    refine ⟨fun h => (by rw [h] at hr; cases hr), fun j hj => ?_⟩
    by_cases hji : j = i
    · subst hji; exact hy.wpOpIn hi hT ⟨⟨fun _ h => h, fun _ => rfl⟩, H⟩
    · have := ready_mono hj hji
      rw [H.1] at this
      cases this
  | succ fuel ih =>
    intro listed a w hcl hTS hfree hr hy hT H
    refine ⟨fun h => (by rw [h] at hr; cases hr), fun j hj => ?_⟩
    by_cases hji : j = i
    · subst hji; exact hy.wpOpIn hi hT ⟨⟨fun _ h => h, fun _ => rfl⟩, H⟩
    · have h1 := H.2 j (ready_mono hj hji)
      obtain ⟨hjun, oj, hoj, hall⟩ := mem_ready.1 hj
      have hiun : listed.getD i false = false := by
        have h0 := (mem_ready.1 hr).1
        rcases Nat.lt_or_ge i listed.size with h' | h'
        · simp [h'] at h0 ⊢; exact h0
        · simp [Array.getElem?_eq_none h']
      have hnot : ∀ e ∈ oj.after, Region.binds .any e = true → e.on ≠ i := fun e he hb heq => by
        have h1 := hall e he hb
        rw [heq, hiun] at h1
        cases h1
      have hanc : ∀ f, anc ops f j i = false := fun f => by
        cases ha : anc ops f j i with
        | false => rfl
        | true =>
          have := anc_listed hcl f j i (fun o ho e he hb => by rw [hoj] at ho; cases ho; exact hall e he hb) ha
          rw [hiun] at this
          cases this
      have h2 := wpOpIn_putT hoj (hfree j oj hoj hji hjun hnot) (hsel i oi hi).1 (hsel j oj hoj).1 (hsel j oj hoj).2 hQ hy h1
      have hfree' : ∀ k ok, ops[k]? = some ok → k ≠ i → (listed.setIfInBounds j true).getD k true = false →
          (∀ e ∈ ok.after, Region.binds .any e = true → e.on ≠ i) → oi.apart ops ok = true := fun k ok hk hki hun hno => by
        refine hfree k ok hk hki ?_ hno
        by_cases hjk : j = k
        · subst hjk; exact hjun
        · rw [getD_set_ne true hjk] at hun; exact hun
      have hTS' : ∀ k ok, ops[k]? = some ok → (listed.setIfInBounds j true).getD k true = false → (∀ f, anc ops f k i = false) → ∀ w w', T w → (needS P ops k = true → S w → S w') → (quietAt P ops k = true → w' = w) → T w' := fun k ok hk hun => by
        refine hTS k ok hk ?_
        by_cases hjk : j = k
        · subst hjk; exact hjun
        · rw [getD_set_ne true hjk] at hun; exact hun
      refine wpOpIn_mono (fun a' w' h3 => ⟨h3.2.1, ih (listed.setIfInBounds j true) a' w' (hcl.put hj) hTS' hfree' (ready_mono hr (Ne.symm hji)) h3.1 (hTS j oj hoj hjun hanc w w' hT h3.2.1.1 h3.2.1.2) ?_⟩) h2
      rw [Array.setIfInBounds_comm _ _ hji]
      exact h3.2.2

theorem wpAnyS_done {listed : Array Bool} {a : Act} {w : World} (hr : Region.ready .any ops listed = []) (h : Q .normal a w) : ∀ fuel, wpAnyS F n P ops Q S fuel listed a w
  | 0 => ⟨hr, h⟩
  | _ + 1 => ⟨fun _ => h, by rw [hr]; simp⟩

/-! ### What yields in whatever world -/

theorem maxW_all : ∀ (l : List Value) (v : Value) (K : Value → Prop), minW max2W l v K → ∃ x, K x ∧ ∀ w, (l.foldlM Builtin.max2 v).run P w = .ok x w
  | [], v, K, h => ⟨v, h, fun w => by simp [List.foldlM]⟩
  | y :: ys, v, K, h => by
    simp only [minW] at h
    unfold max2W at h
    split at h
    · obtain ⟨x, h1, h2⟩ := maxW_all ys _ K h
      exact ⟨x, h1, fun w => by simpa [List.foldlM, Builtin.max2, Sem.run_bind, Result.andThen] using h2 w⟩
    · exact h.elim

theorem minW_all : ∀ (l : List Value) (v : Value) (K : Value → Prop), minW min2W l v K → ∃ x, K x ∧ ∀ w, (l.foldlM Builtin.min2 v).run P w = .ok x w
  | [], v, K, h => ⟨v, h, fun w => by simp [List.foldlM]⟩
  | y :: ys, v, K, h => by
    simp only [minW] at h
    unfold min2W at h
    split at h
    · obtain ⟨x, h1, h2⟩ := minW_all ys _ K h
      exact ⟨x, h1, fun w => by simpa [List.foldlM, Builtin.min2, Sem.run_bind, Result.andThen] using h2 w⟩
    · exact h.elim

theorem pure_yields {o : Oper} {ρ : Operand → Value} {K : Value → World → Prop} {w : World} (hp : pureAt P o ρ = true) (h : opW P o ρ K w) :
    ∃ v, K v w ∧ ∀ w', (execOp ρ o).run P w' = .ok (.value v) w' := by
  unfold pureAt at hp
  unfold opW at h
  cases ho : o.op <;> simp only [ho, Bool.false_eq_true] at hp <;> simp only [ho] at h
  case move x => exact ⟨_, h, fun w' => by simp [execOp, ho]⟩
  case assign x => exact ⟨_, h, fun w' => by simp [execOp, ho]⟩
  case pick c a b =>
    unfold pickW at h
    split at h
    · rename_i t ht
      split at h <;> exact ⟨_, h, fun w' => by simp [execOp, ho, ht, asBool]⟩
    · exact h.elim
  case build t parts =>
    have hp : (parts.toList.map fun (i, x) => (i, ρ x)) = (parts.map fun (i, x) => (i, ρ x)).toList := by simp
    rw [hp] at h
    have h' : buildW P t (parts.map fun (i, x) => (i, ρ x)).toList (fun v => K v w ∧ ∀ w', (Instr.build t (parts.map fun (i, x) => (i, ρ x))).run P w' = .ok v w') := by
      unfold buildW at h ⊢
      split at h
      · split at h
        · rename_i z pl hz hpl _ cells hc
          refine ⟨h, fun w' => ?_⟩
          have hb : buildW P t (parts.map fun (i, x) => (i, ρ x)).toList (fun v => v = .agg cells) := by
            unfold buildW; simp only [hz, hpl, hc]
          obtain ⟨v, rfl, h2⟩ := buildW_run (w := w') hb
          exact h2
        · exact h.elim
      · exact h.elim
    obtain ⟨v, ⟨h1, h3⟩, h2⟩ := buildW_run (w := w) h'
    exact ⟨v, h1, fun w' => by simp only [execOp, ho]; exact run_value (h3 w')⟩
  case nilCheck x =>
    unfold nilCheckW at h
    split at h
    · rename_i hx; obtain ⟨a, rfl, hk⟩ := h; exact ⟨_, hk, fun w' => by simp [execOp, ho, hx]⟩
    · rename_i hx; exact ⟨_, h, fun w' => by simp [execOp, ho, hx]⟩
    · rename_i hx; exact ⟨_, h, fun w' => by simp [execOp, ho, hx]⟩
    · exact h.elim
  case unOp op t x =>
    unfold unW at h
    split at h
    · rename_i hx; exact ⟨_, h, fun w' => by simp only [execOp, ho]; exact run_value (by simp [hx, Op.unary])⟩
    · rename_i hx; exact ⟨_, h, fun w' => by simp only [execOp, ho]; exact run_value (by simp [hx, Op.unary, Op.intArith])⟩
    · rename_i hx; exact ⟨_, h, fun w' => by simp only [execOp, ho]; exact run_value (by simp [hx, Op.unary, Op.intBits, bitsV])⟩
    · exact h.elim
  case makeFunc fn fi ca => exact ⟨_, h, fun w' => by simp only [execOp, ho]; exact run_value (by simp [Instr.makeFunc])⟩
  case fieldAddr s x f =>
    have : fieldAddrW P s (ρ x) f (fun v => K v w ∧ ∀ w', (Instr.fieldAt s (ρ x) f).run P w' = .ok v w') := by
      unfold fieldAddrW at h ⊢
      split at h
      · split at h
        · split at h
          · rename_i a hx _ t off ho1 _ m hs
            refine ⟨h, fun w' => ?_⟩
            have hb : fieldAddrW P s (.pointer (some a)) f (fun v => v = .pointer (some (a.add off))) := by unfold fieldAddrW; simp only [ho1, hs]
            obtain ⟨v, rfl, h2⟩ := fieldAddrW_run (w := w') hb
            rw [hx]; exact h2
          · exact h.elim
        · exact h.elim
      · exact h.elim
    obtain ⟨v, ⟨h1, h3⟩, _⟩ := fieldAddrW_run (w := w) this
    exact ⟨v, h1, fun w' => by simp only [execOp, ho]; exact run_value (h3 w')⟩
  case field s x f =>
    have : fieldW P s (ρ x) f (fun v => K v w ∧ ∀ w', (Instr.field s (ρ x) f).run P w' = .ok v w') := by
      unfold fieldW at h ⊢
      split at h
      · split at h
        · split at h
          · rename_i a hx _ t off ho1 _ m hs
            refine ⟨h, fun w' => ?_⟩
            have hb : fieldW P s (.agg a) f (fun v => v = m) := by unfold fieldW; simp only [ho1, hs]
            obtain ⟨v, rfl, h2⟩ := fieldW_run (w := w') hb
            rw [hx]; exact h2
          · exact h.elim
        · exact h.elim
      · exact h.elim
    obtain ⟨v, ⟨h1, h3⟩, _⟩ := fieldW_run (w := w) this
    exact ⟨v, h1, fun w' => by simp only [execOp, ho]; exact run_value (h3 w')⟩
  case indexAddr t x i =>
    unfold indexAddrW at h
    split at h
    · rename_i k m hi
      split at h
      · rename_i el he
        split at h
        · rename_i p len c hx
          split at h
          · rename_i sz hsz
            obtain ⟨a, rfl, h0, h1, hk⟩ := h
            have hu := elemT_slice he
            refine ⟨_, hk, fun w' => ?_⟩
            simp only [execOp, ho]
            refine run_value ?_
            rw [hi, hx]
            simp [Instr.indexAt, asIntOf, Sem.run_bind, Result.andThen, run_underlying hu, h0, h1, run_sizeOf hsz]
          · exact h.elim
        · exact h.elim
      · rename_i len el he
        split at h
        · rename_i a hx
          split at h
          · rename_i sz hsz
            obtain ⟨h0, h1, hk⟩ := h
            have hu := elemT_array he
            refine ⟨_, hk, fun w' => ?_⟩
            simp only [execOp, ho]
            refine run_value ?_
            rw [hi, hx]
            simp [Instr.indexAt, asIntOf, Sem.run_bind, Result.andThen, run_underlying hu, h0, h1, run_sizeOf hsz, Instr.sureAddr]
          · exact h.elim
        · exact h.elim
      · exact h.elim
    · exact h.elim
  case extract t i =>
    unfold extractW at h
    split at h
    · split at h
      · rename_i hv _ x hx
        exact ⟨_, tyX_out h, fun w' => by simp only [execOp, ho]; exact run_value (by simp only [Instr.extract, hv, hx]; simp)⟩
      · exact h.elim
    · exact h.elim
  case binOp op t x y yt =>
    cases hx : ρ x <;> cases hy : ρ y <;> simp only [hx, hy, intV, Bool.and_self, Bool.and_true, Bool.true_and, Bool.and_false, Bool.false_and, Bool.false_eq_true] at hp
    rename_i k m k' r
    have : binW P op t x y (.int k m) (.int k' r) (fun v w' => w' = w ∧ K v w) w := by
      rw [hx, hy] at h
      simp only [binW] at h ⊢
      split at h
      · rename_i hs
        rw [if_pos hs]
        cases op <;> simp_all [shiftOp]
      · rename_i hs
        rw [if_neg hs]
        split at h
        · rename_i hk
          rw [if_pos hk]
          cases op <;> simp_all [intOp]
        · exact h.elim
    have hb := this
    simp only [binW] at this
    split at this
    · rename_i hs
      have hg : ∀ z : Op, True := fun _ => trivial
      cases op <;> simp only [isShift, Bool.false_eq_true] at hs
      all_goals
        simp only [shiftOp] at this
        obtain ⟨h0, -, h1⟩ := this
        have h0' : ¬ r < 0 := by omega
        exact ⟨_, h1, fun w' => by simp only [execOp, ho]; exact run_value (by simp [hx, hy, eqGuard, binOp, Op.shift, h0'])⟩
    · rename_i hs
      split at this
      · rename_i hk
        subst hk
        cases op <;> simp only [intOp] at this <;> try exact this.elim
        all_goals first
          | (obtain ⟨-, h1⟩ := this; exact ⟨_, h1, fun w' => by simp only [execOp, ho]; exact run_value (by simp [hx, hy, eqGuard, binOp, Op.intArith, Op.intBits, Op.intCmp, bitsV])⟩)
          | (obtain ⟨h0, -, h1⟩ := this; exact ⟨_, h1, fun w' => by simp only [execOp, ho]; exact run_value (by simp [hx, hy, eqGuard, binOp, Op.intDiv, h0])⟩)
      · exact this.elim
  case convert s d x =>
    split at hp
    · rename_i k1 k2 k3 m h1 h2 h3
      rw [h3] at h
      simp only [convW, h1, h2] at h
      exact ⟨_, h, fun w' => by simp only [execOp, ho]; exact run_value (by simp [h3, convert, Sem.run_bind, Result.andThen, run_underlying h1, run_underlying h2, Conv.intToInt])⟩
    · exact absurd hp (by simp)
  case slice t x lo hi mx =>
    split at hp
    · rename_i el p len cap he hx
      rw [hx] at h
      unfold sliceW at h
      simp only [he] at h
      split at h
      · rename_i sz hsz
        obtain ⟨m, h, hm⟩ := bndW_run (P := P) h
        split at h
        · exact h.elim
        · rename_i hmh
          obtain ⟨hh, h, hhi⟩ := bndW_run (P := P) h
          obtain ⟨l, h, hl⟩ := bndW_run (P := P) h
          refine ⟨_, h, fun w' => ?_⟩
          simp only [execOp, ho]
          refine run_value ?_
          rw [hx]
          have hu := elemT_slice he
          generalize lo.map ρ = lo' at *
          generalize hi.map ρ = hi' at *
          generalize mx.map ρ = mx' at *
          rcases hm with ⟨rfl, rfl⟩ | ⟨vm, rfl, hm⟩ <;> rcases hhi with ⟨rfl, rfl⟩ | ⟨vh, rfl, hhi⟩ <;> rcases hl with ⟨rfl, rfl⟩ | ⟨vl, rfl, hl⟩ <;>
            simp_all [Instr.sliceAt, Instr.slice, Instr.sliceBounds, Sem.run_bind, Result.andThen, run_underlying hu, run_sizeOf hsz, slAddr]
      · exact h.elim
    · exact absurd hp (by simp)
  case call c =>
    obtain ⟨cal, args, ats⟩ := c
    cases cal <;> try (simp at hp; done)
    rename_i b
    cases b <;> try (simp at hp; done)
    · simp only [callW, builtinW] at h
      split at h
      · rename_i v vs hl
        obtain ⟨x, h1, h2⟩ := maxW_all (P := P) vs v _ h
        have hm : Builtin.max_ ats o.type (args.map ρ) = vs.foldlM Builtin.max2 v := by simp only [Builtin.max_, hl]
        exact ⟨x, h1, fun w' => by
          have h3 := h2 w'
          simp only [execOp, ho, resolve, Sem.run_bind, Sem.run_pure, Result.andThen, invoke, builtin, hm, h3]⟩
      · exact h.elim
    · simp only [callW, builtinW] at h
      split at h
      · rename_i v vs hl
        obtain ⟨x, h1, h2⟩ := minW_all (P := P) vs v _ h
        have hm : Builtin.min_ ats o.type (args.map ρ) = vs.foldlM Builtin.min2 v := by simp only [Builtin.min_, hl]
        exact ⟨x, h1, fun w' => by
          have h3 := h2 w'
          simp only [execOp, ho, resolve, Sem.run_bind, Sem.run_pure, Result.andThen, invoke, builtin, hm, h3]⟩
      · exact h.elim

/-! ### The region -/

theorem mayRead_run {o : Oper} {ρ : Operand → Value} {K : Value → World → Prop} {w : World} (hr : mayRead o.op = true) (h : opW P o ρ K w) :
    ∃ v w', K v w' ∧ (execOp ρ o).run P w = .ok (.value v) w' := by
  unfold opW at h
  cases ho : o.op <;> simp only [ho, mayRead, Bool.false_eq_true] at hr <;> simp only [ho] at h
  case load t a => obtain ⟨v, h1, h2⟩ := loadW_run h; exact ⟨v, w, h1, by simp only [execOp, ho]; exact run_value h2⟩
  case binOp op t x y yt => obtain ⟨v, w', h1, h2⟩ := binW_run h; exact ⟨v, w', h1, by simp only [execOp, ho]; exact run_value h2⟩
  case index t x i => obtain ⟨v, w', h1, h2⟩ := indexW_run h; exact ⟨v, w', h1, by simp only [execOp, ho]; exact run_value h2⟩
  case slice t x lo hi mx => obtain ⟨v, w', h1, h2⟩ := sliceW_run h; exact ⟨v, w', h1, by simp only [execOp, ho]; exact run_value h2⟩
  case lookup t x i ok => obtain ⟨v, w', h2, h1⟩ := RunT_out h; exact ⟨v, w', h1, by simp only [execOp, ho]; exact run_value h2⟩
  case entry it => obtain ⟨v, w', h2, h1⟩ := h; exact ⟨v, w', entryT_out h1, by simp only [execOp, ho]; exact run_value h2⟩
  case call c =>
    obtain ⟨cal, args, ats⟩ := c
    cases cal <;> try (simp at hr; done)
    rename_i b
    cases b <;> try (simp at hr; done)
    all_goals
      simp only [callW] at h
      obtain ⟨x, w', h1, h2⟩ := builtinW_run (cs := args.map fun | .const _ => true | _ => false) h
      exact ⟨x, w', h1, by
        simp only [execOp, ho, resolve, Sem.run_bind, Sem.run_pure, Result.andThen, invoke]
        exact h2⟩

theorem findTake_mem {res : List Nat} {e : EE} {i : Nat} : ∀ {l : List Nat}, findTake P ops res e l = some i → i ∈ l
  | [], h => by simp [findTake] at h
  | j :: js, h => by
    unfold findTake at h
    split at h
    · split at h
      · exact List.mem_cons_of_mem _ (findTake_mem h)
      · simp at h; simp [h]
    · exact List.mem_cons_of_mem _ (findTake_mem h)

theorem findTake_none {res : List Nat} {e : EE} : ∀ {l : List Nat}, findTake P ops res e l = none → ∀ (r : Nat) (o : Oper), r ∈ l → ops[r]? = some o → clsOf P ops res e o = 4
  | [], _, r, o, hr, _ => by simp at hr
  | i :: is, h, r, o, hr, ho => by
    unfold findTake at h
    rcases List.mem_cons.1 hr with rfl | hr
    · simp only [ho] at h
      split at h
      · rename_i h4; simpa using h4
      · exact absurd h (by simp)
    · split at h
      · split at h
        · exact findTake_none h r o hr ho
        · exact absurd h (by simp)
      · exact findTake_none h r o hr ho

/-- What the number says. -/
theorem clsOf_spec {res : List Nat} {E : EE} {e : Env} (hr : Rel E e) {o : Oper} {c : Nat} (h : clsOf P ops res E o = c) (h3 : c ≠ 3) (h5 : c ≠ 5) :
    (Region.wanted o (yielded ops e.toArray) = true ∧ (c = 0 → pureAt P o (evE E) = true) ∧ (c = 1 → mayRead o.op = true) ∧ c ≠ 2) ∨
    (Region.wanted o (yielded ops e.toArray) = false ∧ c = 2) := by
  have base : ∀ c : Nat, (if pureAt P o (evE E) = true then 0 else if mayRead o.op = true then 1 else 4) = c → (c = 0 → pureAt P o (evE E) = true) ∧ (c = 1 → mayRead o.op = true) ∧ c ≠ 2 := by
    intro c hc
    subst hc
    by_cases h1 : pureAt P o (evE E) = true
    · simp [h1]
    · by_cases h2 : mayRead o.op = true
      · simp [h1, h2]
      · simp [h1, h2]
  unfold clsOf at h
  cases hg : o.guard with
  | none => simp only [hg] at h; exact .inl ⟨by simp [Region.wanted, hg], base c h⟩
  | some g =>
    obtain ⟨j, want⟩ := g
    simp only [hg] at h
    have hy := yielded_ev (ops := ops) (e := e) (j := j)
    have hw : Region.wanted o (yielded ops e.toArray) = (yielded ops e.toArray j == some want) := by simp [Region.wanted, hg]
    rw [hw, hy]
    cases hs : slotOf ops j with
    | none => simp only [hs] at h; exact .inr ⟨rfl, h.symm⟩
    | some s =>
      simp only [hs, Option.bind_some] at h ⊢
      cases hk : knownT E s with
      | false => rw [hk] at h; exact absurd h.symm h5
      | true =>
      rw [hk] at h
      simp only [cond_true] at h
      rw [hr.get hk]
      cases hv : getE E s
      case bool b =>
        simp only [hv] at h
        split at h
        · cases b <;> cases want
          · exact .inl ⟨rfl, base c h⟩
          · exact .inr ⟨rfl, h.symm⟩
          · exact .inr ⟨rfl, h.symm⟩
          · exact .inl ⟨rfl, base c h⟩
        · exact absurd h.symm h3
      all_goals (simp only [hv] at h; exact .inr ⟨rfl, h.symm⟩)

theorem pureAt_ndefer {o : Oper} {ρ : Operand → Value} (h : pureAt P o ρ = true) : ∀ c, o.op ≠ .defer c := by
  intro c hc
  simp [pureAt, hc] at h

theorem mayRead_ndefer {o : Oper} (h : mayRead o.op = true) : ∀ c, o.op ≠ .defer c := by
  intro c hc
  simp [mayRead, hc] at h

theorem isLoad_run {o : Oper} {ρ : Operand → Value} {K : Value → World → Prop} {w : World} (hr : isLoad o.op = true) (h : opW P o ρ K w) :
    ∃ v, K v w ∧ (execOp ρ o).run P w = .ok (.value v) w := by
  unfold opW at h
  cases ho : o.op <;> simp only [ho, isLoad, Bool.false_eq_true] at hr <;> simp only [ho] at h
  case load t a => obtain ⟨v, h1, h2⟩ := loadW_run h; exact ⟨v, h1, by simp only [execOp, ho]; exact run_value h2⟩

/-- What is known decides it. -/
theorem opE_out {o : Oper} {E : EE} {e : Env} (hr : Rel E e) (hs : ∀ cs b, o.op ≠ .select cs b) {K : Value → World → Prop} {w : World} (h : opE P o E K w) :
    execOp (ev e) o = execOp (evE E) o ∧ opW P o (evE E) K w := by
  unfold opE at h
  cases hk : knownL E (opsOf o.op) with
  | false => rw [hk] at h; exact h.elim
  | true =>
    rw [hk] at h
    exact ⟨execOp_congr o hs fun x hx => hr.ev (knownL_mem hk x (opsOf_mem o.op hs x hx)), h⟩

theorem quiet_at {i : Nat} {o : Oper} (ho : ops[i]? = some o) (h : quietOp P o = false) : quietAt P ops i = true → False := by
  unfold quietAt
  rw [ho]
  simp [h]

theorem drawGo_sound (hP : Plain P) {ro : Option Nat} {K : EE → World → Prop} {ds : List Deferred} {n : Nat}
    (hsel : ∀ (j : Nat) (o : Oper), ops[j]? = some o → (∀ cs b, o.op ≠ .select cs b) ∧ ∀ c, o.op ≠ .defer c)
    (hQ : ∀ c a w, ¬ Q (.panic c) a w) (hK : ∀ E e w, Rel E e → e.length = n → K E w → Q .normal ⟨e.toArray, ds⟩ w) (hdst : ops.all (dstOk n) = true) :
    ∀ (fuel m : Nat) (ok : Bool) (listed : Array Bool) (res : List Nat) (E : EE) (e : Env) (w : World), ClosedL ops listed → e.length = n → Rel E e → (ok = true → S w) →
      drawGo P ops S K fuel m ok listed res E w → wpAnyS (FW ro) 0 P ops Q S m listed ⟨e.toArray, ds⟩ w
  | 0, m, ok, listed, res, E, e, w, hcl, hn, hr, hok, h => by
    unfold drawGo at h
    split at h
    · rename_i hr'
      exact wpAnyS_done (by simpa using hr') (hK _ _ _ hr hn h) m
    · exact h.elim
  | fuel + 1, m, ok, listed, res, E, e, w, hcl, hn, hrel, hok, h => by
    have hput : ∀ (i : Nat) (o : Oper) (v : Value), ops[i]? = some o → Rel (putD E o.dst v) (putE e o.dst v) ∧ (putE e o.dst v).length = n := fun i o v ho =>
      ⟨hrel.put (by rw [hn]; exact dstOk_spec ((Array.all_eq_true_iff_forall_mem.1 hdst) o (Array.mem_of_getElem? ho))) v, by rw [putE_length]; exact hn⟩
    unfold drawGo at h
    split at h
    · rename_i hr
      exact wpAnyS_done hr (hK _ _ _ hrel hn h) m
    · rename_i r rs hr
      split at h
      · exact h.elim
      · rename_i m'
        split at h
        · rename_i i hf
          have hi : i ∈ Region.ready .any ops listed := by rw [hr]; exact findTake_mem hf
          have hcl' := hcl.put hi
          split at h
          · exact h.elim
          · rename_i o ho
            split at h
            · rename_i hc
              split at h
              · rename_i hfree
                rcases clsOf_spec hrel hc (by decide) (by decide) with ⟨hw, hp, -, -⟩ | ⟨-, h2⟩
                · obtain ⟨hx, h⟩ := opE_out hrel (hsel i o ho).1 h
                  obtain ⟨v, hk, hrun⟩ := pure_yields (hp rfl) h
                  refine wpAnyS_first (T := fun _ => True) ho hsel (fun c a w hh => absurd hh (hQ _ _ _)) m' listed _ w hcl (fun _ _ _ _ _ _ _ _ _ _ => trivial) (Region.free_spec ho hfree) hi
                    (.inl ⟨hw, pureAt_ndefer (hp rfl), fun w' _ => by rw [eval_ev, hx]; exact hrun w'⟩) trivial (by rw [put_putE]; exact drawGo_sound hP hsel hQ hK hdst fuel m' ok _ res _ _ w hcl' (hput i o v ho).2 (hput i o v ho).1 hok hk)
                · exact absurd h2 (by decide)
              · exact h.elim
            · rename_i hc
              split at h
              · rename_i hfree
                rcases clsOf_spec hrel hc (by decide) (by decide) with ⟨hw, -, hp, -⟩ | ⟨-, h2⟩
                · cases hcalm : calmL P ops listed i with
                  | true =>
                    rw [hcalm] at h
                    simp only [cond_true] at h
                    have htop : ∃ v, execOp (ev e) o = execOp (evE E) o ∧ (execOp (evE E) o).run P w = .ok (.value v) w ∧ drawGo P ops S K fuel m' ok (listed.setIfInBounds i true) res (putD E o.dst v) w := by
                      cases hl : isLoad o.op with
                      | true =>
                        rw [hl] at h
                        obtain ⟨hx, h⟩ := opE_out hrel (hsel i o ho).1 h
                        obtain ⟨v, h1, h2⟩ := isLoad_run hl h
                        exact ⟨v, hx, h2, h1⟩
                      | false =>
                        rw [hl] at h
                        obtain ⟨hx, h⟩ := opE_out hrel (hsel i o ho).1 h
                        obtain ⟨v, w', ⟨rfl, h1⟩, h2⟩ := mayRead_run (hp rfl) h
                        exact ⟨v, hx, h2, h1⟩
                    obtain ⟨v, hx, hrun, hk⟩ := htop
                    refine wpAnyS_first (T := fun w2 => w2 = w) ho hsel (fun c a w hh => absurd hh (hQ _ _ _)) m' listed _ w hcl (fun j oj hj hun hno w1 w' hw1 hn hq => ?_) (Region.free_spec ho hfree) hi
                      (.inl ⟨hw, mayRead_ndefer (hp rfl), fun w' hw' => by rw [hw', eval_ev, hx]; exact hrun⟩) rfl (by rw [put_putE]; exact drawGo_sound hP hsel hQ hK hdst fuel m' ok _ res _ _ w hcl' (hput i o v ho).2 (hput i o v ho).1 hok hk)
                    rw [← hw1]
                    refine hq ?_
                    unfold calmL at hcalm
                    rw [List.all_eq_true] at hcalm
                    have := hcalm j (by have := (Array.getElem?_eq_some_iff.1 hj).1; simpa using this)
                    have hun2 : listed.getD j false = false := by
                      rcases Nat.lt_or_ge j listed.size with h' | h'
                      · simp [h'] at hun ⊢; exact hun
                      · simp [Array.getElem?_eq_none h']
                    simp only [hj, ancB_anc hno, hun2, Bool.or_false] at this
                    unfold quietAt
                    rw [hj]
                    exact this
                  | false =>
                    rw [hcalm] at h
                    simp only [cond_false] at h
                    cases ok with
                    | false => exact h.elim
                    | true =>
                    simp only [cond_true] at h
                    cases hN : readsN P o with
                    | false => rw [hN] at h; exact h.elim
                    | true =>
                    rw [hN] at h
                    simp only [cond_true] at h
                    obtain ⟨hx, h⟩ := opE_out hrel (hsel i o ho).1 h
                    obtain ⟨v, w', ⟨hall, hk⟩, -⟩ := mayRead_run (hp rfl) h
                    have hrun : ∀ w2, S w2 → (execOp (evE E) o).run P w2 = .ok (.value v) w2 := fun w2 h2 => by
                      obtain ⟨-, h3⟩ := opE_out hrel (hsel i o ho).1 (hall w2 h2)
                      obtain ⟨v', w3, ⟨rfl, rfl⟩, h4⟩ := mayRead_run (hp rfl) h3
                      exact h4
                    refine wpAnyS_first (T := S) ho hsel (fun c a w hh => absurd hh (hQ _ _ _)) m' listed _ w hcl (fun j oj hj hun hno w1 w' hw1 hn _ => ?_) (Region.free_spec ho hfree) hi
                      (.inl ⟨hw, mayRead_ndefer (hp rfl), fun w' hw' => by rw [eval_ev, hx]; exact hrun w' hw'⟩) (hok rfl) (by rw [put_putE]; exact drawGo_sound hP hsel hQ hK hdst fuel m' true _ res _ _ w hcl' (hput i o v ho).2 (hput i o v ho).1 hok hk)
                    refine hn ?_ hw1
                    unfold needS
                    rw [List.any_eq_true]
                    refine ⟨i, ?_, ?_⟩
                    · have := (Array.getElem?_eq_some_iff.1 ho).1
                      simpa using this
                    · have hcalm2 : calm P ops i = false := by
                        cases hc2 : calm P ops i with
                        | false => rfl
                        | true => rw [calm_L hc2] at hcalm; cases hcalm
                      simp only [ho, hN, hcalm2, ancB_anc hno, Bool.true_and, Bool.not_false]
                · exact absurd h2 (by decide)
              · exact h.elim
            · rename_i hc
              split at h
              · rename_i hfree
                rcases clsOf_spec hrel hc (by decide) (by decide) with ⟨-, -, -, h2⟩ | ⟨hw, -⟩
                · exact absurd rfl h2
                · refine wpAnyS_first (T := fun _ => True) ho hsel (fun c a w hh => absurd hh (hQ _ _ _)) m' listed _ w hcl (fun _ _ _ _ _ _ _ _ _ _ => trivial) (Region.free_spec ho hfree) hi
                    (.inr ⟨hw, rfl⟩) trivial (by rw [put_putE]; exact drawGo_sound hP hsel hQ hK hdst fuel m' ok _ res _ _ w hcl' (hput i o undef ho).2 (hput i o undef ho).1 hok h)
              · exact h.elim
            · split at h
              · exact h.elim
              · split at h
                · exact h.elim
                · rename_i s hs
                  cases hk : knownT E s with
                  | false => rw [hk] at h; exact h.elim
                  | true =>
                  rw [hk] at h
                  simp only [cond_true] at h
                  split at h
                  · rename_i b hb
                    cases b
                    · exact drawGo_sound hP hsel hQ hK hdst fuel (m' + 1) ok listed _ _ e w hcl hn (hrel.again hk hb) hok h
                    · exact drawGo_sound hP hsel hQ hK hdst fuel (m' + 1) ok listed _ _ e w hcl hn (hrel.again hk hb) hok h
                  · exact h.elim
            · exact h.elim
        · rename_i hf
          refine ⟨fun h0 => absurd (hr ▸ h0) (by simp), fun i hi => ?_⟩
          have hcl' := hcl.put hi
          rw [hr] at hi
          have h := effAll_mem h i hi
          split at h
          · exact h.elim
          · rename_i o ho
            have hc := findTake_none hf i o hi ho
            cases hq : quietOp P o with
            | true => rw [hq] at h; exact h.elim
            | false =>
            rw [hq] at h
            simp only [cond_false] at h
            rcases clsOf_spec hrel hc (by decide) (by decide) with ⟨hw, -, -, -⟩ | ⟨-, h2⟩
            · unfold wpOpIn
              simp only [ho]
              rw [if_pos hw]
              cases hns : needS P ops i with
              | true =>
                rw [hns] at h
                exact opE_sound hP hrel h (fun v w' hk => ⟨⟨fun _ _ => hk.1, fun hh => (quiet_at ho hq hh).elim⟩, drawGo_sound hP hsel hQ hK hdst fuel m' true _ res _ _ w' hcl' (hput i o v ho).2 (hput i o v ho).1 (fun _ => hk.1) hk.2⟩)
              | false =>
                rw [hns] at h
                exact opE_sound hP hrel h (fun v w' hk => ⟨⟨fun hh _ => absurd hh (by simp), fun hh => (quiet_at ho hq hh).elim⟩, drawGo_sound hP hsel hQ hK hdst fuel m' false _ res _ _ w' hcl' (hput i o v ho).2 (hput i o v ho).1 (fun hh => absurd hh (by simp)) hk⟩)
            · exact absurd h2 (by decide)

/-- The region. -/
theorem DrawW_sound (hP : Plain P) (hm : P.follows .mixedOrders = true) {ro : Option Nat} {id : Nat} {K : EE → World → Prop} {ds : List Deferred} {n : Nat}
    (hsel : ∀ (j : Nat) (o : Oper), ops[j]? = some o → (∀ cs b, o.op ≠ .select cs b) ∧ ∀ c, o.op ≠ .defer c)
    (hQ : ∀ c a w, ¬ Q (.panic c) a w) (hK : ∀ E e w, Rel E e → e.length = n → K E w → Q .normal ⟨e.toArray, ds⟩ w) (hdst : ops.all (dstOk n) = true)
    {E : EE} {e : Env} {w : World} (hn : e.length = n) (hr : Rel E e) (h : DrawW P ops K E w) : (Code.region id ops true).wpIn (FW ro) 0 P Q ⟨e.toArray, ds⟩ w := by
  unfold DrawW at h
  cases hre : restless P ops with
  | true =>
    rw [hre] at h
    obtain ⟨S, hS, h⟩ := h
    exact wpIn_region_any hm (wpAnyIn_of_S (S := S) _ _ _ _ (drawGo_sound hP hsel hQ hK hdst _ _ _ _ _ _ _ _ (ClosedL.none _) hn hr (fun _ => hS) h))
  | false =>
    rw [hre] at h
    exact wpIn_region_any hm (wpAnyIn_of_S (S := fun _ => True) _ _ _ _ (drawGo_sound hP hsel hQ hK hdst _ _ _ _ _ _ _ _ (ClosedL.none _) hn hr (fun _ => trivial) h))

end Go.Eng
