/- The plain side: PathWays. -/
import Derived.Test.YtjlmpfoaiaolhaaC
namespace Go.Proofs.Ytjlmpfoaiaolhaa
open Go Go.Eng

theorem u32b {h : Int} (hh : inK .u32 h) : 0 ≤ h ∧ h ≤ 4294967295 := by simp [inK, IntKind.min, IntKind.max, IntKind.signed, IntKind.bits] at hh; omega

theorem ways_le (own : Int) (l : List Pl) : (ways own l).length ≤ 8 := by rw [ways_upto]; exact upto_le _ _ _

theorem pathWays_plain {own : Int} {places : List Pl} (ho : inK .u32 own) (hp : ∀ x ∈ places, inK .u32 x.1 ∧ inK .i64 x.2.1 ∧ inK .i64 x.2.2.1 ∧ True) (hl : places.length ≤ 9223372036854775807) :
    embrasurelaw29_PathWays_wp own places (· = true) := by
  have ho := u32b ho
  have hu : ∀ x ∈ places, uP x := fun x hx => u32b (hp x hx).1
  unfold embrasurelaw29_PathWays_wp
  refine awake_wp (cond_f rfl (cond_d (fun _ => rfl) (fun hlen => ways_wp (by omega) (ways_wp (by have := ways_le own places; omega) ⟨by simp; omega, by simp; omega, ?_⟩))))
  rw [List.nil_append]
  refine ways_wp (by simp; omega) ⟨fun bare => bare = places.filter fun x => !x.2.2.2, ?_, ?_⟩
  · rintro bare rfl
    have hb := ways_bare own places
    have hw := ways_le own places
    refine ways_wp (by have := List.length_filter_le (fun x : Pl => !x.2.2.2) places; omega) ⟨fun t => t = false, ?_, ?_⟩
    · rintro t rfl
      refine cond_f rfl ⟨by omega, by have := hb.1; omega, places_wp (by have := hb.1; omega) ?_⟩
      rw [List.drop_zero, Int.toNat_natCast, ← hb.2]
      simp
    · refine places_wp (by omega) (cond_f (by rw [ways_ways]; simp) (places_wp (by omega) (cond_f (by rw [ways_twice]; simp) (rways_wp hu ho (by omega) (places_wp (by omega) (cond_f (by simp) ?_))))))
      have := hb.1
      simp
      omega
  · refine ⟨fun n bare i => 0 ≤ i ∧ i ≤ places.length ∧ n = places.length - i.toNat ∧ bare = (places.take i.toNat).filter fun x => !x.2.2.2, ⟨_, by omega, by omega, rfl, by simp⟩, ?_⟩
    rintro n bare i ⟨h0, h1, rfl, rfl⟩
    have hble := List.length_filter_le (fun x : Pl => !x.2.2.2) (places.take i.toNat)
    rw [List.length_take] at hble
    refine cond_d (fun hlt => ⟨h0, hlt, fun x hx => ?_⟩) (fun hge => ?_)
    · have hn : (places.take (i.toNat + 1)).filter (fun x => !x.2.2.2) = (places.take i.toNat).filter (fun x => !x.2.2.2) ++ (if x.2.2.2 then [] else [x]) := by
        rw [List.take_add_one, hx, Option.toList_some, List.filter_append]
        congr 1
        cases hv : x.2.2.2 <;> simp [hv]
      rw [wrap_i64 (by omega) (by omega)]
      have ei : (i + 1).toNat = i.toNat + 1 := by omega
      dsimp only
      rw [ei, hn]
      refine cond_b (fun a => ⟨h0, hlt, fun y hy => ?_⟩) (fun a => ?_)
      · rw [hx] at hy
        cases hy
        have a : x.2.2.2 = false := by simpa using a
        refine ⟨by simp; omega, _, ?_, by omega, by omega, rfl, ?_⟩
        · omega
        · rw [a]; rfl
      · have a : x.2.2.2 = true := by simpa using a
        refine ⟨_, ?_, by omega, by omega, rfl, ?_⟩
        · omega
        · rw [a]; simp
    · show _ = _
      rw [show i.toNat = places.length by omega, List.take_length]

end Go.Proofs.Ytjlmpfoaiaolhaa
