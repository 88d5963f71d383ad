/- The plain side: NatBack, joined. -/
import Derived.Test.YthhbnjcebmhilaaR4
namespace Go.Proofs.Ythhbnjcebmhilaa
open Go Go.Eng

/-- What was sent to the one host. -/
def sent77 (th : Int) (script : List (Int × Int × Int × Int × Int × Int × Int × Int)) (n : Nat) : Prop := th = 77 ∨ ∃ j < n, ∃ d, script[j]? = some d ∧ d.2.2.2.2.1 = 77

theorem natBack_plain {c : Int} {ih ip th tp : Int} {script : List (Int × Int × Int × Int × Int × Int × Int × Int)} (hc : inK .u8 c) (h1 : inK .u32 ih) (h2 : inK .i64 ip) (h3 : inK .u32 th) (h4 : inK .i64 tp) {ok : (Int × Int × Int × Int × Int × Int × Int × Int) → Prop} (_ : ∀ x ∈ script, ok x) (hl : script.length ≤ 9223372036854775807) :
    embrasurelaw08_NatBack_wp c ih ip th tp script (· = true) := by
  have hc := u8b hc
  unfold embrasurelaw08_NatBack_wp
  refine awake_wp (cond_f rfl (box_wp hc (newNat_wp (fun h => absurd (by unfold mayB; omega) h) (fun _ => joinP1.i (cond_f rfl ?_)))))
  generalize c % 3 = mp
  generalize hfi : c / 3 % 3 = fi
  have S77 : ∀ hh, (hh = 77 → sent77 th script 60) ↔ (fun hh : Int => hh = 77 → sent77 th script 60) hh := fun _ => Iff.rfl
  refine ⟨fun l now m => ∃ bs, (now = 0 ∨ now = 1) ∧ Rep m l bs ∧ IV ih ip (fun hh => hh = 77 → sent77 th script 60) bs, ?_,
    fun n l now i m => ∃ bs, (now = 0 ∨ now = 1) ∧ 0 ≤ i ∧ i ≤ script.length ∧ i ≤ 60 ∧ n = (61 - i).toNat ∧ Rep m l bs ∧ IV ih ip (fun hh => hh = 77 → sent77 th script 60) bs, ⟨_, [], .inl rfl, by omega, by omega, by omega, rfl, Rep.nil _, IV.nil⟩, ?_⟩
  · rintro l now m ⟨bs, hnow, hr, hv⟩
    have hbl := hv.len
    refine out_wp hr (by omega) (by omega) (by omega) (by omega) (by omega) hv.ok (fun _ => cond_t rfl (cond_f rfl rfl)) (fun hm l1 m1 hr1 _ => ?_)
    have hv1 := (hv.live 2).out (mp := mp) (t := 2) (jh := ih) (jp := ip) (th := th) (tp := tp) (fun e => .inl e)
    rcases (hv.live 2).own (mp := mp) (t := 2) (th := th) (tp := tp) (by omega) with e | ⟨y, bs1, e, hy, y1, y2, y3, y4, y5⟩
    · rw [e]; exact cond_t rfl (cond_t rfl rfl)
    rw [e] at hr1 hv1 ⊢
    dsimp only at hr1 hv1 ⊢
    have hb1 := hv1.len
    have hpr := hv1.rg y hy
    refine cond_f rfl (in_wp hr1 (by omega) hv1.ok (fun h => absurd ⟨hm.2.1, by omega, by omega⟩ h) (fun _ l2 m2 hr2 _ => ?_))
    have hv2 := hv1.live 3
    have hy2 : y ∈ live 3 bs1 := live_mem hy (by omega)
    have hb2 := hv2.len
    rw [natIn_mem hv2.nd hy2, letsB_to y5, if_pos rfl]
    refine in_wp hr2 (by omega) hv2.ok (fun h => absurd ⟨hm.2.1, by omega, by omega⟩ h) (fun _ l3 m3 hr3 _ => ?_)
    have hv3 := hv2.live 31
    have hy3 : y ∈ live 31 (live 3 bs1) := live_mem hy2 (by omega)
    have hb3 := hv3.len
    rw [natIn_mem hv3.nd hy3, letsB_to y5, if_pos rfl]
    refine joinP1.i (cond_f rfl (cond_f (by simp [y1, y2]) (cond_f rfl (cond_f (by simp [y1, y2]) (cond_f rfl (cond_d (fun h => absurd hpr.1 (by omega)) (fun _ => ?_)))))))
    refine cond_f (by simp; omega) ?_
    generalize live 31 (live 3 bs1) = bs3 at hv3 hy3 hb3 hr3
    refine all_wp hr3 (by omega) (fun h => absurd (by omega) h) (fun _ l4 m4 rs hr4 _ hperm hsort => ?_)
    have hv4 := hv3.live 31
    have hy4 : y ∈ live 31 bs3 := live_mem hy3 (by omega)
    generalize live 31 bs3 = bs4 at hv4 hy4 hr4 hperm
    have hb4 := hv4.len
    have hrl := hperm.length_eq
    rw [List.length_map] at hrl
    have hrn : (rs.map fun a => a.2.2.2.2.1).Nodup := by
      have h6 := hperm.map (fun a : BI => a.2.2.2.2.1)
      have e6 : ((bs4.map bi).map fun a : BI => a.2.2.2.2.1) = bs4.map port := by rw [List.map_map]; rfl
      rw [e6] at h6
      exact h6.nodup_iff.2 hv4.nd
    refine ⟨True, fun _ => ?_, fun n i => 1 ≤ i ∧ n = (100 - i).toNat ∧ i ≤ rs.length + 1, ⟨_, by omega, rfl, by omega⟩, ?_⟩
    · have hb4' := hb4
      refine in_wp hr4 (by omega) hv4.ok (fun h => absurd ⟨by unfold mayP; omega, by omega, by omega⟩ h) (fun _ l5 m5 hr5 _ => ?_)
      have hv5 := hv4.live 31
      have hy5 : y ∈ live 31 bs4 := live_mem hy4 (by omega)
      rw [natIn_mem hv5.nd hy5]
      refine ⟨fun a => a = false, ?_, fun n a i => a = false ∧ 0 ≤ i ∧ i ≤ rs.length ∧ n = (rs.length - i).toNat, ⟨_, rfl, by omega, by omega, rfl⟩, ?_⟩
      · rintro a rfl
        refine ⟨fun s => (s = true ↔ sent77 th script 60), fun s hs => ?_, fun n s i => 0 ≤ i ∧ i ≤ script.length ∧ i ≤ 60 ∧ n = (61 - i).toNat ∧ (s = true ↔ sent77 th script i.toNat), ⟨_, by omega, by omega, by omega, rfl, ?_⟩, ?_⟩
        · refine cond_b (fun _ => rfl) (fun e7 => cond_f rfl ?_)
          have hns : ¬ sent77 th script 60 := fun h => by rw [hs.2 h] at e7; cases e7
          rw [letsB_not y3 fun a ha e8 => hns (hv1.sn y hy a ha e8)]
          by_cases hf0 : fi = 0
          · simp [hf0]
          · have : (fi == 0) = false := by simpa using hf0
            simp [this]
        · unfold sent77
          simp
        · rintro n s i ⟨i0, i1, i2, rfl, hs⟩
          refine ⟨fun t => (t = true ↔ i < script.length ∧ i < 60), fun t ht => ?_, cond_d (fun a => ?_) (fun a => ?_)⟩
          · refine cond_b (fun e9 => ?_) (fun e9 => ?_)
            · have hlt := ht.1 e9
              have hnx : (IntKind.wrap .i64 (i + 1)).toNat = i.toNat + 1 := by rw [wrap_i64 (by omega) (by omega)]; omega
              refine cond_b (fun es => ⟨_, ?_, ?_, ?_, ?_, rfl, ?_⟩) (fun es => ⟨i0, hlt.1, fun d hd => ⟨_, ?_, ?_, ?_, ?_, rfl, ?_⟩⟩)
              all_goals try rw [hnx]
              all_goals try rw [wrap_i64 (by omega) (by omega)]
              all_goals try omega
              · rcases hs.1 es with h | ⟨j, hj, h⟩
                · exact ⟨fun _ => .inl h, fun _ => rfl⟩
                · exact ⟨fun _ => .inr ⟨j, by omega, h⟩, fun _ => rfl⟩
              · have hns : ¬ sent77 th script i.toNat := fun h => by rw [hs.2 h] at es; cases es
                rw [beq_iff_eq]
                constructor
                · intro h; exact .inr ⟨i.toNat, by omega, d, hd, h⟩
                · rintro (h | ⟨j, hj, d', hd', h⟩)
                  · exact absurd (.inl h) hns
                  · by_cases ej : j = i.toNat
                    · subst ej; rw [hd] at hd'; cases hd'; exact h
                    · exact absurd (.inr ⟨j, by omega, d', hd', h⟩) hns
            · have hge : ¬ (i < script.length ∧ i < 60) := fun h => by rw [ht.2 h] at e9; cases e9
              show s = true ↔ _
              rw [hs]
              constructor
              · rintro (h | ⟨j, hj, h⟩)
                · exact .inl h
                · exact .inr ⟨j, by omega, h⟩
              · rintro (h | ⟨j, hj, d, hd, h⟩)
                · exact .inl h
                · have := (List.getElem?_eq_some_iff.1 hd).1
                  exact .inr ⟨j, by omega, d, hd, h⟩
          · simp only [decide_eq_true_eq]; omega
          · simp only [Bool.false_eq_true, false_iff]; omega
      · rintro n a i ⟨rfl, i0, i1, rfl⟩
        refine cond_d (fun hlt => cond_f rfl ⟨i0, hlt, fun x hx => cond_b (fun e9 => ⟨i0, hlt, fun x' hx' => ⟨_, ?_, ?_, ?_, ?_, rfl⟩⟩) (fun e9 => ⟨_, ?_, rfl, ?_, ?_, rfl⟩)⟩) (fun _ => rfl)
        all_goals try rw [wrap_i64 (by omega) (by omega)]
        all_goals try omega
        rw [hx] at hx'; cases hx'
        have hm9 := hperm.mem_iff.1 (List.mem_of_getElem? hx)
        obtain ⟨z, hz, rfl⟩ := List.mem_map.1 hm9
        have : z = y := nd_eq hv4.nd hz hy4 (by exact beq_iff_eq.1 e9)
        rw [this]
        exact y3
    · rintro n i ⟨i0, rfl, i1⟩
      refine cond_d (fun hlt => ?_) (fun _ => trivial)
      rw [wrap_i64 (x := i - 1) (by omega) (by omega), wrap_i64 (x := i + 1) (by omega) (by omega)]
      refine ⟨by omega, by omega, fun a ha => ⟨by omega, hlt, fun b hb => cond_d (fun hge => ?_) (fun _ => ⟨_, by omega, by omega, rfl, by omega⟩)⟩⟩
      exfalso
      obtain ⟨ha1, ha2⟩ := List.getElem?_eq_some_iff.1 ha
      obtain ⟨hb1', hb2'⟩ := List.getElem?_eq_some_iff.1 hb
      have hle := List.pairwise_iff_getElem.1 hsort _ _ ha1 hb1' (by omega)
      rw [ha2, hb2'] at hle
      have he : (rs.map fun a => a.2.2.2.2.1)[(i - 1).toNat]'(by simpa using ha1) = (rs.map fun a => a.2.2.2.2.1)[i.toNat]'(by simpa using hb1') := by
        simp only [List.getElem_map, ha2, hb2']; omega
      have := (List.getElem_inj hrn).1 he
      omega
  · rintro n l now i m ⟨bs, hnow, i0, i1, i2, rfl, hr, hv⟩
    have hbl := hv.len
    refine ⟨fun t => (t = true ↔ i < script.length ∧ i < 60), fun t ht => ?_, cond_d (fun a => ?_) (fun a => ?_)⟩
    · refine cond_b (fun e9 => ?_) (fun e9 => ⟨bs, hnow, hr, hv⟩)
      have hlt := ht.1 e9
      have hil : i.toNat < script.length := by omega
      obtain ⟨d, hd⟩ : ∃ d, script[i.toNat]? = some d := ⟨_, List.getElem?_eq_getElem hil⟩
      have hnext : ∀ (l' : List (Option Nat)) (now' : Int) (m' : SB) (bs' : List BX), (now' = 0 ∨ now' = 1) → Rep m' l' bs' → IV ih ip (fun hh => hh = 77 → sent77 th script 60) bs' → ∃ n2, n2 < (61 - i).toNat ∧ ∃ bs, (now' = 0 ∨ now' = 1) ∧ 0 ≤ IntKind.wrap .i64 (i + 1) ∧ IntKind.wrap .i64 (i + 1) ≤ script.length ∧ IntKind.wrap .i64 (i + 1) ≤ 60 ∧ n2 = (61 - IntKind.wrap .i64 (i + 1)).toNat ∧ Rep m' l' bs ∧ IV ih ip (fun hh => hh = 77 → sent77 th script 60) bs := by
        intro l' now' m' bs' hn' hr' hv'
        rw [wrap_i64 (by omega) (by omega)]
        exact ⟨_, by omega, bs', hn', by omega, by omega, by omega, rfl, hr', hv'⟩
      refine ⟨i0, hlt.1, fun x1 hx1 => cond_b (fun _ => ⟨i0, hlt.1, fun x2 hx2 => ⟨i0, hlt.1, fun x3 hx3 => ?_⟩⟩) (fun _ => ?_)⟩
      · rw [hd] at hx2 hx3; cases hx2; cases hx3
        refine out_wp hr (by omega) (by omega) (by omega) (by omega) (by omega) hv.ok (fun _ => hnext _ _ _ bs hnow hr hv) (fun _ l' m' hr' _ => hnext _ _ _ _ (.inr rfl) hr' ?_)
        exact (hv.live 1).out fun e => .inr ⟨i.toNat, by omega, d, hd, e⟩
      · refine ⟨fun t => (t = true → ¬ (d.2.2.1 = ih ∧ d.2.2.2.1 = ip)), fun t ht => ?_, ⟨i0, hlt.1, fun x4 hx4 => cond_b (fun _ => ⟨i0, hlt.1, fun x5 hx5 => ?_⟩) (fun _ => by simp)⟩⟩
        · refine cond_b (fun e8 => ⟨i0, hlt.1, fun x6 hx6 => ⟨i0, hlt.1, fun x7 hx7 => ⟨i0, hlt.1, fun x8 hx8 => ?_⟩⟩⟩) (fun _ => hnext _ _ _ bs hnow hr hv)
          rw [hd] at hx6 hx7 hx8; cases hx6; cases hx7; cases hx8
          refine ask_wp hr (by omega) (by omega) (by omega) (fun _ => hnext _ _ _ bs hnow hr hv) (fun _ l' m' hr' _ => hnext _ _ _ _ (.inr rfl) hr' ?_)
          exact (hv.live 1).ask (ht e8)
        · rw [hd] at hx5; cases hx5
          rintro e8 ⟨ha, hb⟩
          rw [ha, hb] at e8
          simp at e8
    · simp only [decide_eq_true_eq]; omega
    · simp only [Bool.false_eq_true, false_iff]; omega

end Go.Proofs.Ythhbnjcebmhilaa
