/- The plain side: what the document fixes; WorldOpen. -/
import Derived.Test.YtbjodidajacilaaV
namespace Go.Proofs.Ytbjodidajacilaa
open Go Go.Eng

theorem i64b {h : Int} (hh : inK .i64 h) : -9223372036854775808 ≤ h ∧ h ≤ 9223372036854775807 := by simp [inK, IntKind.min, IntKind.max, IntKind.signed, IntKind.bits] at hh; omega
theorem u16b {h : Int} (hh : inK .u16 h) : 0 ≤ h ∧ h ≤ 65535 := by simp [inK, IntKind.min, IntKind.max, IntKind.signed, IntKind.bits] at hh; omega

theorem box0_wp {K : Int → Int → Int → Int → Int → Int → Int → Prop} (hK : K 3405803777 40000 40009 0 0 30 12) : embrasurelaw08_Box_wp 0 K := by
  unfold embrasurelaw08_Box_wp
  exact hK

def st0 : List BS := [((3405803777, 40000, 40009, 0, 0, 30, 12), [], 0)]
def hosts0 : List (Int × Int) := [(167772161, 0), (134744072, -1)]

theorem nw0 : NW [((3405803777, 40000, 40009, 0, 0, 30, 12) : CF)] [-1] hosts0 := by
  refine ⟨by decide, by decide, rfl, fun c hc => ?_, fun i x hx => ?_, fun s hs => ?_, ?_⟩
  · simp at hc; subst hc; unfold mayB; decide
  · cases i with
    | zero => simp at hx; subst hx; omega
    | succ i => simp at hx
  · simp [hosts0] at hs; rcases hs with rfl | rfl <;> decide
  · unfold apartP; decide

theorem gs_fresh {boxes : List CF} {behind : List Int} {hosts : List (Int × Int)} (h : NW boxes behind hosts) : ∀ s ∈ (boxes.map fun c => ((c, [], 0) : BS)), GS s := fun s hs => by
  obtain ⟨c, hc, rfl⟩ := List.mem_map.1 hs
  exact ⟨h.may c hc, by show (0 : Int) ≤ 0; omega, by simp, fun x hx => by simp at hx⟩

theorem outer_wp {hosts : List (Int × Int)} {last i : Int} {K : Int → Prop} (h0 : i < 0 ∨ i ≥ hosts.length → K (-1)) (h1 : ∀ x, 0 ≤ i → hosts[i.toNat]? = some x → K x.2) : world_World_Outer_wp hosts last i K := by
  unfold world_World_Outer_wp
  refine ⟨fun t => (t = true ↔ i < 0 ∨ i ≥ hosts.length), fun t ht => cond_b (fun e => h0 (ht.1 e)) (fun e => ?_), cond_d (fun a => by simp [a]) (fun a => by simp; omega)⟩
  have hc : ¬ (i < 0 ∨ i ≥ hosts.length) := fun hc => by rw [ht.2 hc] at e; cases e
  exact ⟨by omega, by omega, fun x hx => h1 x (by omega) hx⟩

theorem wbox_wp {bx : List (Option Nat)} {last i : Int} {K : Prop} {KX : Option Nat → Prop} (h0 : i < 0 ∨ i ≥ bx.length → K) (h1 : ∀ x, 0 ≤ i → bx[i.toNat]? = some x → KX x) : world_World_Box_wp bx last i K KX := by
  unfold world_World_Box_wp
  refine ⟨fun t => (t = true ↔ i < 0 ∨ i ≥ bx.length), fun t ht => cond_b (fun e => h0 (ht.1 e)) (fun e => ?_), cond_d (fun a => by simp [a]) (fun a => by simp; omega)⟩
  have hc : ¬ (i < 0 ∨ i ≥ bx.length) := fun hc => by rw [ht.2 hc] at e; cases e
  exact ⟨by omega, by omega, fun x hx => h1 x (by omega) hx⟩

theorem way1 : wayF [-1] hosts0 1 40 167772161 5 134744072 53 0 (-1) false st0 = ((1, (3405803777, 40000), (134744072, 53), 0), [((3405803777, 40000, 40009, 0, 0, 30, 12), [(167772161, 5, 0, 0, 40000, 31, false, [(134744072, 53)])], 1)]) := rfl
theorem way2 : wayF [-1] hosts0 1 40 134744072 53 3405803777 40000 (-1) (-1) false [((3405803777, 40000, 40009, 0, 0, 30, 12), [(167772161, 5, 0, 0, 40000, 31, false, [(134744072, 53)])], 1)] = ((0, (134744072, 53), (167772161, 5), 0), [((3405803777, 40000, 40009, 0, 0, 30, 12), [(167772161, 5, 0, 0, 40000, 31, false, [(134744072, 53)])], 1)]) := rfl

theorem awake_wp {K : Bool → Prop} (hK : K true) : embrasurelaw14_awake_wp K := by
  unfold embrasurelaw14_awake_wp
  refine box0_wp (new_wp (by simp) (fun h => absurd nw0 h) (fun bx m hn g1 g2 g3 => joinP1.i (cond_f rfl ?_)))
  have hr := fresh g1 g2 g3
  have hg := gs_fresh hn
  have hbh : ∀ (i : Nat) (x : Int), ([-1] : List Int)[i]? = some x → -1 ≤ x ∧ x < i := fun i x hx => ⟨(hn.bh i x hx).1, (hn.bh i x hx).2.1⟩
  refine way_wp hr hg rfl (by simp) (by simp) hbh (fun s hs => hn.hb s hs) (fun h => absurd ⟨by omega, by decide, by unfold mayP; omega, by omega, by omega, fun x hx => by simp at hx; subst hx; unfold mayP; decide⟩ h) (fun _ x hx r er m1 mb1 ls1 hr1 hg1 hl1 => ?_)
  simp at hx; subst hx
  have er1 : r = wayF [-1] hosts0 1 40 167772161 5 134744072 53 0 (-1) false st0 := er
  rw [way1] at er1
  subst er1
  refine way_wp hr1 hg1 rfl (by simp) (by simp) hbh (fun s hs => hn.hb s hs) (fun h => absurd ⟨by omega, by decide, by unfold mayP; decide, by omega, by omega, fun x hx => by simp at hx; subst hx; unfold mayP; decide⟩ h) (fun _ x hx r2 er2 m2 mb2 ls2 hr2 hg2 hl2 => ?_)
  simp at hx; subst hx
  have er3 : r2 = wayF [-1] hosts0 1 40 134744072 53 3405803777 40000 (-1) (-1) false [((3405803777, 40000, 40009, 0, 0, 30, 12), [(167772161, 5, 0, 0, 40000, 31, false, [(134744072, 53)])], 1)] := er2
  rw [way2] at er3
  subst er3
  refine cond_t rfl (cond_t rfl (cond_t rfl (cond_t rfl (cond_t rfl (cond_t rfl (cond_t rfl (cond_t rfl (outer_wp (fun h => absurd h (by simp)) (fun x _ hx => ?_)))))))))
  simp at hx; subst hx
  refine cond_t rfl (outer_wp (fun h => absurd h (by simp)) (fun x _ hx => ?_))
  simp at hx; subst hx
  refine cond_t rfl (wbox_wp (fun h => absurd h (by simp at g1; omega)) (fun x _ hx => ?_))
  obtain ⟨b, g4, -⟩ := g3 0 _ rfl
  have hx2 : bx[0]? = some x := hx
  rw [g4] at hx2
  cases hx2
  exact hK

end Go.Proofs.Ytbjodidajacilaa
