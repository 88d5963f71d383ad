/- Rows that are never written again: a pool, and the headers that lead into it. -/
import Derived.Test.YtnmdnkmemjfoeaaEngU
namespace Go.Eng
open Go
/-- A map of functions, whose content is known. -/
theorem lookF {κ : Type} [DecidableEq κ] {P : Program} {w : World} {b : Nat} {ek : κ → Value} {p : List MapEntry × Nat} {m : List (κ × Value)} {mt t et : TypeId} {k : κ} {d v : Value} {ok : Bool} {K : Value → World → Prop}
    (hm : MapAt w b ek (fun v : Value => v) p m) (hu : P.underlying mt = some (.map t et)) (hk : KeyT P t ek) (hz : ∀ w, (zeroValue et).run P w = .ok d w) (hv : mapGet m k d = v) (ho : mapHas m k = ok) (hK : K (.tuple #[v, .bool ok]) w) :
    RunW P (Instr.lookup mt (.map (some b)) (ek k) true) K w := by
  refine lookW2 (ev := fun v : Value => v) (d := d) hm hu hk hz ?_
  show K (.tuple #[mapGet m k d, .bool (mapHas m k)]) w
  rw [hv, ho]
  exact hK
theorem condPos {a b : Int} {T F : Prop} (h : a = b) (hp : cond (a == b) T F) : T := by
  subst h; simpa using hp
theorem condNeg {a b : Int} {T F : Prop} (h : a ≠ b) (hp : cond (a == b) T F) : F := by
  have : (a == b) = false := by simpa using h
  rw [this] at hp; exact hp
end Go.Eng
