/- The plain side: WorldBack. -/
import Derived.Test.YtbjodidajacilaaR4
namespace Go.Proofs.Ytbjodidajacilaa
open Go Go.Eng

theorem fwd_back {boxes : List CF} {behind : List Int} {hosts : List (Int × Int)} {t : Int} {st : List BS} (hn : NW boxes behind hosts) (hw : WI boxes t st) (ht : t < 1099511627776) {g : Nat} {A a0 pt th tp : Int} (hg : hosts[g]? = some (A, a0)) (hf : mayP A pt) (hto : mayP th tp)
    {r : RW × List BS} (er : r = wayF behind hosts t 40 A pt th tp a0 (-1) false st) (hz : r.1.2.2.2 = 0) :
    (a0 = -1 → r.1.2.1 = (A, pt)) ∧ 0 ≤ r.1.1 ∧ ∃ xh, hosts[r.1.1.toNat]? = some xh ∧ (xh.2 = -1 ∨ xh.2 = a0 →
      mayP xh.1 r.1.2.2.1.2 ∧ mayP r.1.2.1.1 r.1.2.1.2 ∧ (wayF behind hosts t 40 xh.1 r.1.2.2.1.2 r.1.2.1.1 r.1.2.1.2 xh.2 (-1) false r.2).1 = ((g : Int), r.1.2.2.1, (A, pt), 0)) := by
  have hbh := hn.bh'
  have hgb := hn.hb _ (List.mem_of_getElem? hg)
  have hgb1 : -1 ≤ a0 := hgb.1
  rcases lev (n := 39) er hz with ⟨i, hil, hi, rfl⟩ | ⟨j, s, hj, hbj, hs, hc, e1⟩ | ⟨hne, s, x, hs, hx, hc, e1⟩
  · refine ⟨fun _ => rfl, by show (0 : Int) ≤ i; omega, (th, a0), by show hosts[(i : Int).toNat]? = _; rw [Int.toNat_natCast]; exact hi, fun _ => ⟨hto, hf, ?_⟩⟩
    show (wayF behind hosts t (39 + 1) th tp A pt a0 (-1) false st).1 = _
    rw [back_end hn hg]
  · rw [e1] at hz ⊢
    obtain ⟨q1, q2, xh, q3, q4⟩ := inn_fin 39 _ _ _ _ _ _ _ hz
    have hlt := hbh _ _ hbj
    have hle := q4.le hbh
    exact ⟨fun _ => q1, q2, xh, q3, fun h => absurd h (by omega)⟩
  · refine ⟨fun h => absurd h hne, ?_⟩
    have ha : 0 ≤ a0 := by omega
    have hxb := hbh _ _ hx
    obtain ⟨w1, w2, w3⟩ := hw.all s (List.mem_of_getElem? hs)
    obtain ⟨y, y1, y2, y3, y4, y5, y6, y7, y8⟩ := outS_own w1 w2 ht hc
    have hw1 := hw.outS hs A pt th tp
    have hsl := (List.getElem?_eq_some_iff.1 hs).1
    have g1 : (st.set a0.toNat (outS s t A pt th tp).2)[a0.toNat]? = some (outS s t A pt th tp).2 := List.getElem?_set_self hsl
    obtain ⟨v1, v2, v3⟩ := hw1.all _ (List.mem_of_getElem? g1)
    rw [y2] at e1
    have eH : s.1.1 = (outS s t A pt th tp).2.1.1 := by rw [y7]
    dsimp only at e1
    rw [eH] at e1
    generalize hs' : (outS s t A pt th tp).2 = s' at *
    generalize hst1 : st.set a0.toNat s' = st1 at *
    have hsrc : mayP s'.1.1 (port y) := ⟨v1.may.1, (v2.rg y y1).1, (v2.rg y y1).2⟩
    rcases lev (n := 38) e1 hz with ⟨i, hil, hi, rfl⟩ | ⟨j, s2, hj, hbj, hs2, hc2, e2⟩ | ⟨hne2, s2, x2, hs2, hx2, hc2, e2⟩
    · refine ⟨by show (0 : Int) ≤ i; omega, (th, x), by show hosts[(i : Int).toNat]? = _; rw [Int.toNat_natCast]; exact hi, fun h => ⟨hto, hsrc, ?_⟩⟩
      show (wayF behind hosts t (39 + 1) th tp s'.1.1 (port y) x (-1) false st1).1 = _
      obtain ⟨st2, e3, -, -⟩ := back_step (n := 39) (came := -1) (inn := false) hn hw1 (by omega) g1 hx hto y1 y5 y6 (by omega)
      rw [e3, y3, y4, show ((a0.toNat : Nat) : Int) = a0 by omega]
      show (wayF behind hosts t (38 + 1) th tp A pt a0 (-1) true st2).1 = _
      rw [back_end hn hg]
    · rw [e2] at hz ⊢
      obtain ⟨q1, q2, xh, q3, q4⟩ := inn_fin 38 _ _ _ _ _ _ _ hz
      have hlt := hbh _ _ hbj
      have hle := q4.le hbh
      refine ⟨q2, xh, q3, fun h => ?_⟩
      exfalso
      rcases h with h | h
      · omega
      · rw [h] at q4
        cases q4 with
        | refl => exact hj rfl
        | step h0 h1 h2 =>
          rw [hx] at h1; cases h1
          have := h2.le hbh
          omega
    · have hx0 : 0 ≤ x := by omega
      have hx2b := (hn.bh _ _ hx).2.2 hx0
      rw [hx2] at hx2b
      have hx21 : x2 = -1 := by cases hx2b; rfl
      obtain ⟨u1, u2, u3⟩ := hw1.all s2 (List.mem_of_getElem? hs2)
      obtain ⟨z, z1, z2, z3, z4, z5, z6, z7, z8⟩ := outS_own u1 u2 ht hc2
      have hw2 := hw1.outS hs2 s'.1.1 (port y) th tp
      have hsl2 := (List.getElem?_eq_some_iff.1 hs2).1
      have g2 : (st1.set x.toNat (outS s2 t s'.1.1 (port y) th tp).2)[x.toNat]? = some (outS s2 t s'.1.1 (port y) th tp).2 := List.getElem?_set_self hsl2
      have g3 : (st1.set x.toNat (outS s2 t s'.1.1 (port y) th tp).2)[a0.toNat]? = some s' := by rw [List.getElem?_set_ne (by omega)]; exact g1
      obtain ⟨k1, k2, k3⟩ := hw2.all _ (List.mem_of_getElem? g2)
      rw [z2] at e2
      have eH2 : s2.1.1 = (outS s2 t s'.1.1 (port y) th tp).2.1.1 := by rw [z7]
      dsimp only at e2
      rw [eH2] at e2
      generalize hs2' : (outS s2 t s'.1.1 (port y) th tp).2 = s2' at *
      generalize hst2 : st1.set x.toNat s2' = st2 at *
      have hsrc2 : mayP s2'.1.1 (port z) := ⟨k1.may.1, (k2.rg z z1).1, (k2.rg z z1).2⟩
      rcases lev (n := 37) e2 hz with ⟨i, hil, hi, rfl⟩ | ⟨j, s3, hj, hbj, hs3, hc3, e3⟩ | ⟨hne3, -⟩
      · refine ⟨by show (0 : Int) ≤ i; omega, (th, x2), by show hosts[(i : Int).toNat]? = _; rw [Int.toNat_natCast]; exact hi, fun h => ⟨hto, hsrc2, ?_⟩⟩
        show (wayF behind hosts t (39 + 1) th tp s2'.1.1 (port z) x2 (-1) false st2).1 = _
        obtain ⟨st3, e4, w4, same⟩ := back_step (n := 39) (came := -1) (inn := false) hn hw2 (by omega) g2 hx2 hto z1 z5 z6 (by omega)
        rw [e4, z3, z4, show ((x.toNat : Nat) : Int) = x by omega]
        have g4 : st3[a0.toNat]? = some s' := by rw [same _ (by omega)]; exact g3
        show (wayF behind hosts t (38 + 1) th tp s'.1.1 (port y) x (-1) true st3).1 = _
        obtain ⟨st4, e5, -, -⟩ := back_step (n := 38) (came := -1) (inn := true) hn w4 (by omega) g4 hx hto y1 y5 y6 (by omega)
        rw [e5, y3, y4, show ((a0.toNat : Nat) : Int) = a0 by omega]
        show (wayF behind hosts t (37 + 1) th tp A pt a0 (-1) true st4).1 = _
        rw [back_end hn hg]
      · rw [e3] at hz ⊢
        obtain ⟨q1, q2, xh, q3, q4⟩ := inn_fin 37 _ _ _ _ _ _ _ hz
        have hlt := hbh _ _ hbj
        have hle := q4.le hbh
        refine ⟨q2, xh, q3, fun h => ?_⟩
        exfalso
        rcases h with h | h
        · omega
        · rw [h] at q4
          cases q4 with
          | refl => rw [Int.toNat_natCast] at hx; rw [hbj] at hx; cases hx; omega
          | step h0 h1 h2 =>
            rw [hx] at h1; cases h1
            cases h2 with
            | refl => exact hj rfl
            | step h3 h4 h5 =>
              rw [hx2] at h4; cases h4
              have := h5.le hbh
              omega
      · exact absurd hx21 hne3

theorem worldBack_plain {boxes : List CF} {behind : List Int} {hosts : List (Int × Int)} {script : List (Int × Int × Int × Int × Int × Bool)} {ok1 : CF → Prop} (hk1 : ∀ x ∈ boxes, ok1 x) (hl1 : boxes.length ≤ 9223372036854775807) {ok2 : Int → Prop} (hk2 : ∀ x ∈ behind, ok2 x) (hl2 : behind.length ≤ 9223372036854775807) {ok3 : Int × Int → Prop} (hk3 : ∀ x ∈ hosts, ok3 x) (hl3 : hosts.length ≤ 9223372036854775807)
    {ok4 : (Int × Int × Int × Int × Int × Bool) → Prop} (hk4 : ∀ x ∈ script, ok4 x) (hl4 : script.length ≤ 9223372036854775807) : embrasurelaw14_WorldBack_wp boxes behind hosts script (· = true) := by
  unfold embrasurelaw14_WorldBack_wp
  refine awake_wp (cond_f rfl (small_wp (cond_t rfl rfl) (fun s1 s2 s3 => cond_f rfl (new_wp (by omega) (fun _ _ => rfl) (fun bx m hn g1 g2 g3 => ?_)))))
  have hr := fresh g1 g2 g3
  have hg := gs_fresh hn
  have hw0 : WI boxes 0 (boxes.map fun c => (c, [], 0)) := by
    refine ⟨by rw [List.map_map]; exact List.map_id boxes, fun s hs => ⟨hg s hs, ?_⟩⟩
    obtain ⟨c, -, rfl⟩ := List.mem_map.1 hs
    exact ⟨⟨by simp, fun x hx => by simp at hx, fun x hx => by simp at hx⟩, Int.le_refl _⟩
  have slen : ∀ {t : Int} {st : List BS}, WI boxes t st → st.length = boxes.length := fun h => by rw [← h.cfg]; simp
  refine ⟨fun n last now i m mb => ∃ ls st, WR m mb bx ls st ∧ WI boxes last st ∧ 0 ≤ last ∧ last ≤ now ∧ now ≤ i * 8589934592 ∧ 0 ≤ i ∧ i ≤ 60 ∧ i ≤ script.length ∧ n = (61 - i).toNat, ⟨_, _, _, hr, hw0, by omega, by omega, by omega, by omega, by omega, by omega, rfl⟩, ?_⟩
  rintro n last now i m mb ⟨ls, st, hr', hw, l0, l1, n1, i0, i1, i2, rfl⟩
  refine ⟨fun q => (q = true ↔ i < script.length ∧ i < 60), fun q hq => cond_b (fun e => ?_) (fun _ => rfl), cond_d (fun a => by simp; omega) (fun a => by simp; omega)⟩
  have hlt := hq.1 e
  refine ⟨i0, hlt.1, fun d hd => ⟨fun t => now ≤ t ∧ t ≤ now + 8589934592, ?_, ?_⟩⟩
  · rintro t ⟨t1, t2⟩
    have hwt : WI boxes t st := ⟨hw.cfg, fun s hs => by obtain ⟨a, b, c⟩ := hw.all s hs; exact ⟨a, b, by omega⟩⟩
    have next : ∀ {m' : SN} {mb' : SB} {ls' : List (List (Option Nat))} {st' : List BS} {last' : Int}, WR m' mb' bx ls' st' → WI boxes last' st' → 0 ≤ last' → last' ≤ t → ∃ n2, n2 < (61 - i).toNat ∧ ∃ ls st, WR m' mb' bx ls st ∧ WI boxes last' st ∧ 0 ≤ last' ∧ last' ≤ t ∧ t ≤ IntKind.wrap .i64 (i + 1) * 8589934592 ∧ 0 ≤ IntKind.wrap .i64 (i + 1) ∧ IntKind.wrap .i64 (i + 1) ≤ 60 ∧ IntKind.wrap .i64 (i + 1) ≤ script.length ∧ n2 = (61 - IntKind.wrap .i64 (i + 1)).toNat := by
      intro m' mb' ls' st' last' h1 h2 h3 h4
      rw [wrap_i64 (by omega) (by omega)]
      exact ⟨_, by omega, ls', st', h1, h2, h3, h4, by omega, by omega, by omega, by omega, rfl⟩
    have hhb : ∀ s ∈ hosts, -1 ≤ s.2 ∧ s.2 < st.length := fun s hs => by have := hn.hb s hs; rw [slen hw]; exact this
    refine way_wp hr' (fun s hs => (hwt.all s hs).1) (by rw [slen hw]; exact hn.be) (by rw [slen hw]; exact hn.bl) hn.hl hn.bh' hhb (fun _ => cond_t rfl (next hr' hw l0 (by omega))) (fun hok x hx r er m1 mb1 ls1 hr1 hg1 hl1 => ?_)
    have hw1 : WI boxes t r.2 := by rw [er]; exact hwt.way _ _ _ _ _ _ _ _
    refine cond_n (fun _ => next hr1 hw1 (by omega) (by omega)) (fun hz => ⟨hok.1, hok.2.1, fun x3 hx3 => ?_⟩)
    rw [hx] at hx3; cases hx3
    obtain ⟨f1, f2, xh, f3, f4⟩ := fwd_back hn hwt (by omega) hx (hok.2.2.2.2.2 x hx) hok.2.2.1 er hz
    have hhl := (List.getElem?_eq_some_iff.1 f3).1
    refine joinP0.i ⟨fun q => q = false, fun q hq => ?_, outer_wp (fun h => absurd h (by have := hok.1; have := hok.2.1; omega)) (fun y _ hy => ?_)⟩
    · refine cond_f hq (joinP0.i ⟨fun q => (q = false → xh.2 = -1 ∨ xh.2 = x.2), fun q hq => cond_b (fun _ => next hr1 hw1 (by omega) (by omega)) (fun e => ?_), outer_wp (fun h => absurd h (by omega)) (fun y _ hy => ?_)⟩)
      · obtain ⟨b1, b2, b3⟩ := f4 (hq e)
        have hhb1 : ∀ s ∈ hosts, -1 ≤ s.2 ∧ s.2 < r.2.length := fun s hs => by rw [hl1]; exact hhb s hs
        refine way_wp hr1 hg1 (by rw [slen hw1]; exact hn.be) (by rw [slen hw1]; exact hn.bl) hn.hl hn.bh' hhb1 (fun h => absurd ⟨f2, by omega, b2, by omega, by omega, fun z hz2 => by rw [f3] at hz2; cases hz2; exact b1⟩ h) (fun _ z hz2 r2 er2 m2 mb2 ls2 hr2 hg2 hl2 => ?_)
        rw [f3] at hz2; cases hz2
        rw [← er2] at b3
        have hw2 : WI boxes t r2.2 := by rw [er2]; exact hw1.way _ _ _ _ _ _ _ _
        rw [b3]
        refine joinP1.i (cond_f rfl (cond_f (by have := hok.1; simp; omega) (cond_f (by simp) (cond_f (by simp) (next hr2 hw2 (by omega) (by omega))))))
      · rw [f3] at hy; cases hy
        refine cond_n (fun hne => outer_wp (fun h => absurd h (by omega)) (fun y2 _ hy2 => outer_wp (fun h => absurd h (by have := hok.1; have := hok.2.1; omega)) (fun y3 _ hy3 => fun e => ?_))) (fun h => fun _ => .inl h)
        rw [f3] at hy2; cases hy2
        rw [hx] at hy3; cases hy3
        right
        simpa using e
    · rw [hx] at hy; cases hy
      refine cond_e (fun h => ?_) (fun _ => rfl)
      rw [f1 h]
      simp
  · refine ⟨fun q => (q = true → 0 < d.1 ∧ d.1 < 8589934592), fun q hq => cond_b (fun e2 => ?_) (fun _ => ⟨by omega, by omega⟩), cond_d (fun h => ?_) (fun h => ?_)⟩
    · have := hq e2
      rw [wrap_i64 (by omega) (by omega)]
      exact ⟨by omega, by omega⟩
    · simp only [decide_eq_true_eq]; omega
    · simp

end Go.Proofs.Ytbjodidajacilaa
