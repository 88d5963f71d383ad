/-
  The engine, part Y: two lists side by side.
-/
import Derived.Test.YtnmdnkmemjfoeaaEngX
import Derived.Test.YtnmdnkmemjfoeaaEngV
namespace Go.Eng
open Go
/-- Two lists, element for element. -/
inductive All2 {α β : Type} (R : α → β → Prop) : List α → List β → Prop
  | nil : All2 R [] []
  | cons {a b as bs} : R a b → All2 R as bs → All2 R (a :: as) (b :: bs)
namespace All2
variable {α β : Type} {R R' : α → β → Prop} {l l2 : List α} {k k2 : List β}
theorem length (h : All2 R l k) : l.length = k.length := by
  induction h with
  | nil => rfl
  | cons _ _ ih => simp [ih]
theorem mono (h : All2 R l k) (hr : ∀ a ∈ l, ∀ b, R a b → R' a b) : All2 R' l k := by
  induction h with
  | nil => exact .nil
  | cons h1 _ ih => exact .cons (hr _ (by simp) _ h1) (ih fun a ha b hb => hr a (by simp [ha]) b hb)
theorem get (h : All2 R l k) : ∀ (i : Nat) (a : α), l[i]? = some a → ∃ b, k[i]? = some b ∧ R a b := by
  induction h with
  | nil => intro i a ha; simp at ha
  | cons h1 _ ih =>
    intro i a ha
    cases i with
    | zero => simp at ha; subst ha; exact ⟨_, rfl, h1⟩
    | succ i => exact ih i a (by simpa using ha)
theorem mem (h : All2 R l k) {a : α} (ha : a ∈ l) : ∃ b ∈ k, R a b := by
  obtain ⟨i, hi⟩ := List.getElem?_of_mem ha
  obtain ⟨b, h1, h2⟩ := h.get i a hi
  exact ⟨b, List.mem_of_getElem? h1, h2⟩
theorem filter (h : All2 R l k) {f : α → Bool} {g : β → Bool} (hf : ∀ a b, R a b → f a = g b) : All2 R (l.filter f) (k.filter g) := by
  induction h with
  | nil => exact .nil
  | cons h1 _ ih =>
    rw [List.filter_cons, List.filter_cons, hf _ _ h1]
    split
    · exact .cons h1 ih
    · exact ih
theorem append (h : All2 R l k) (h2 : All2 R l2 k2) : All2 R (l ++ l2) (k ++ k2) := by
  induction h with
  | nil => exact h2
  | cons h1 _ ih => exact .cons h1 ih
theorem snoc (h : All2 R l k) {a : α} {b : β} (hr : R a b) : All2 R (l ++ [a]) (k ++ [b]) := h.append (.cons hr .nil)
theorem monoI (h : All2 R l k) (hr : ∀ (j : Nat) (c : α) (d : β), l[j]? = some c → R c d → R' c d) : All2 R' l k := by
  induction h with
  | nil => exact .nil
  | cons h1 _ ih => exact .cons (hr 0 _ _ rfl h1) (ih fun j c d hc hd => hr (j + 1) c d (by simpa using hc) hd)
/-- One element turns. -/
theorem set (h : All2 R l k) : ∀ (i : Nat) (b : β) (a : α), l[i]? = some a → R' a b → (∀ (j : Nat) (c : α) (d : β), j ≠ i → l[j]? = some c → R c d → R' c d) → All2 R' l (k.set i b) := by
  induction h with
  | nil => intro i b a ha; simp at ha
  | @cons x y xs ys h1 h2 ih =>
    intro i b a ha hab hr
    cases i with
    | zero =>
      simp at ha
      subst ha
      refine .cons hab ?_
      refine h2.monoI fun j c d hc hd => hr (j + 1) c d (by omega) (by simpa using hc) hd
    | succ i =>
      refine .cons (hr 0 x y (by omega) rfl h1) (ih i b a (by simpa using ha) hab fun j c d hj hc hd => hr (j + 1) c d (by omega) (by simpa using hc) hd)
theorem take (h : All2 R l k) : ∀ n, All2 R (l.take n) (k.take n) := by
  induction h with
  | nil => intro n; simp; exact .nil
  | cons h1 _ ih =>
    intro n
    cases n with
    | zero => exact .nil
    | succ n => exact .cons h1 (ih n)
end All2
end Go.Eng
