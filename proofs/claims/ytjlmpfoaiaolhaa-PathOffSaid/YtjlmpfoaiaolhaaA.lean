/- The plain side: what the document fixes. -/
import Derived.Test.YtjlmpfoaiaolhaaO
namespace Go.Proofs.Ytjlmpfoaiaolhaa
open Go Go.Eng

theorem new_wp {own : Int} {l : List Pl} {K : List Pl → Int → Int → Int → Int → Int → Bool → Int → Prop} (hl : l.length ≤ 9223372036854775000) (hK : K (ways own l) 0 0 0 0 0 false 0) : path_New_wp own l K := by
  unfold path_New_wp
  exact ways_wp hl hK

theorem awake_wp {K : Bool → Prop} (hK : K true) : embrasurelaw29_awake_wp K := by
  unfold embrasurelaw29_awake_wp
  refine new_wp (by simp) ?_
  have e : ways 1 [(7, 7, 3, true), (8, 8, 0, false)] = [(8, 8, 0, false), (7, 7, 3, true)] := by decide
  rw [e]
  refine start_wp ⟨fun _ => ⟨fun h => absurd h (by simp), fun x _ hx => ?_⟩, fun h => absurd ⟨⟨by omega, by omega⟩, .inl rfl⟩ h⟩
  cases hx
  refine tick_wp (by omega) (by omega) ⟨fun h => absurd h.2.2 (by omega), fun _ => ?_⟩
  refine tick_wp (by omega) (by omega) ⟨fun _ => ⟨fun h => absurd h (by simp), fun x _ hx => ?_⟩, fun h => absurd ⟨⟨by omega, by omega⟩, rfl, by omega⟩ h⟩
  cases hx
  refine open_wp (fun _ => ?_) (fun h => absurd ⟨⟨by omega, by omega⟩, rfl⟩ h)
  refine cond_t rfl (cond_t rfl (cond_t rfl (cond_t rfl (cond_t rfl (cond_t rfl ?_)))))
  unfold path_Walker_State_wp
  refine cond_t rfl (punched_wp (by omega) (fun _ => cond_t rfl hK) (fun h => absurd ⟨⟨by omega, by omega⟩, rfl, by decide⟩ h))

end Go.Proofs.Ytjlmpfoaiaolhaa
