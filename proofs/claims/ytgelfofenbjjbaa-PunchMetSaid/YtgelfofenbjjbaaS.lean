/- The laws of the puncher that go on and on: PunchEnds, PunchMet (plain side). -/
import Derived.Test.YtgelfofenbjjbaaR
namespace Go.Proofs.Ytgelfofenbjjbaa
open Go Go.Eng

/-- What holds of every puncher. -/
structure PK (try' now : Int) (other marks : List (Int × Int)) (mean : Int) : Prop where
  t0 : 0 ≤ try'
  t3 : try' ≤ 3
  n0 : 0 ≤ now
  ml : marks.length ≤ 30
  mt : ∀ x ∈ marks, 0 ≤ x.2 ∧ x.2 ≤ now
  e0 : 0 ≤ mean
  e1 : mean ≤ 80007
  ol : other.length ≤ 8

/-- What holds of one that began, at a time. -/
structure EK (st try' next now : Int) (other marks : List (Int × Int)) (mean T : Int) : Prop where
  pk : PK try' now other marks mean
  st_ : st = 1 ∨ st = 2 ∨ st = 3 ∨ st = 5
  t1 : 1 ≤ try'
  now_ : now ≤ T
  next_ : next ≤ T + 10000
  gone : st = 5 → next = 0

def rank (st try' : Int) : Int := if st = 5 then 0 else if st = 2 then 5 - try' else 4 - try'

theorem PK.later {try' now n : Int} {other marks : List (Int × Int)} {mean : Int} (h : PK try' now other marks mean) (hn : now ≤ n) : PK try' n other marks mean :=
  ⟨h.t0, h.t3, by have := h.n0; omega, h.ml, fun x hx => ⟨(h.mt x hx).1, by have := (h.mt x hx).2; omega⟩, h.e0, h.e1, h.ol⟩

theorem tick_ends {st try' next mean dev now n T : Int} {any : Bool} {other own marks : List (Int × Int)} {m1 m2 : MI} {m3 : MA} {K : List Stp → Int → Int → Int → Int → List (Int × Int) → MI → MI → MA → Prop} (hl : own.length ≤ 8) (hT : T ≤ n) (hn : n ≤ 1099511627776) (e : EK st try' next now other marks mean T)
    (h : ∀ rs st2 try2 next2 now2 marks2 m1' m2' m3', rs.length ≤ 1 → EK st2 try2 next2 now2 other marks2 mean n → asksF rs = try2 - try' → (next ≤ n → rank st2 try2 ≤ rank st try' - 1 ∨ st = 5 ∧ st2 = 5 ∧ rs = []) → K rs st2 try2 next2 now2 marks2 m1' m2' m3') :
    punch_Puncher_Tick_wp st true try' next other own marks mean dev any now n m1 m2 m3 K := by
  have h0 := e.pk.t0; have h3 := e.pk.t3; have ho := e.pk.ol; have hm := e.pk.ml; have hn0 := e.pk.n0; have he0 := e.pk.e0; have he1 := e.pk.e1; have ht1 := e.t1; have hnow := e.now_; have hnx := e.next_; have hst := e.st_
  refine tick_wp hl (by omega) h0 (by omega) hn0 he0 (by omega) (fun hx => absurd ⟨by omega, hn⟩ hx) (fun _ _ hx => ?_) (fun ha hb hc => ⟨fun hs hg => ?_, fun hs hg hd hd1 hd2 _ _ _ => ?_, fun hs _ hd _ => ?_, fun _ hx => (by cases hx), fun n1 n2 n3 => ?_⟩)
  · exact h _ _ _ _ _ _ _ _ _ (by simp) ⟨e.pk.later (by omega), hst, ht1, by omega, by omega, e.gone⟩ (by simp [asksF]) (fun hx2 => by omega)
  · refine h _ _ _ _ _ _ _ _ _ (by simp) ⟨e.pk.later (by omega), by omega, ht1, by omega, by omega, fun _ => rfl⟩ (by simp [asksF]) (fun _ => .inl ?_)
    unfold rank
    rw [if_pos rfl, if_neg (by omega), if_neg (by omega)]
    omega
  · have hw := wait_bounds mean dev any
    refine h _ _ _ _ _ _ _ _ _ (by simp) ⟨⟨by omega, by omega, by omega, sentL_len hm, sentL_at (p := fun x => 0 ≤ x.2 ∧ x.2 ≤ n) (fun x hx => ⟨(e.pk.mt x hx).1, by have := (e.pk.mt x hx).2; omega⟩) ⟨by show (0 : Int) ≤ n; omega, Int.le_refl n⟩, he0, he1, ho⟩, by omega, by omega, by omega, by omega, fun hx => by omega⟩ (by simp [asksF]; omega) (fun _ => .inl ?_)
    unfold rank
    rw [if_neg (by omega), if_neg (by omega), if_neg (by omega), if_neg (by omega)]
    omega
  · refine h _ _ _ _ _ _ _ _ _ (by simp) ⟨e.pk.later (by omega), by omega, ht1, by omega, by omega, fun hx => by omega⟩ (by simp [asksF]) (fun _ => .inl ?_)
    unfold rank
    rw [if_neg (by omega), if_neg (by omega), if_neg (by omega), if_pos hs]
    omega
  · have : st = 5 := by omega
    exact h _ _ _ _ _ _ _ _ _ (by simp) ⟨e.pk.later (by omega), hst, ht1, by omega, by omega, e.gone⟩ (by simp [asksF]) (fun _ => .inr ⟨this, this, rfl⟩)

theorem hear_ends {st try' next mean dev now n T kind : Int} {any : Bool} {other own marks addrs : List (Int × Int)} {nums body : List Int} {m1 m2 : MI} {m3 : MA} {K : List Stp → Int → Int → Int → List (Int × Int) → Int → List (Int × Int) → Int → Int → Bool → MI → MI → MA → Prop} (hl : own.length ≤ 8) (hT : T ≤ n) (hn : n ≤ 1099511627776) (e : EK st try' next now other marks mean T)
    (hnl : nums.length ≤ 9223372036854775807) (hal : addrs.length ≤ 9223372036854775807) (hu : ∀ x ∈ nums, 0 ≤ x ∧ x ≤ 18446744073709551615)
    (h : ∀ rs st2 next2 other2 now2 marks2 mean2 dev2 any2 m1' m2' m3', EK st2 try' next2 now2 other2 marks2 mean2 n → K rs st2 try' next2 other2 now2 marks2 mean2 dev2 any2 m1' m2' m3') :
    punch_Puncher_Hear_wp st true try' next other own marks mean dev any now n kind nums addrs body m1 m2 m3 K := by
  have h0 := e.pk.t0; have h3 := e.pk.t3; have ho := e.pk.ol; have hm := e.pk.ml; have hn0 := e.pk.n0; have he0 := e.pk.e0; have he1 := e.pk.e1; have ht1 := e.t1; have hnow := e.now_; have hnx := e.next_; have hst := e.st_
  refine hear_wp hl (by omega) h0 h3 (by omega) hn0 he0 he1 e.pk.mt hnl hal hu (fun _ => ?_) ⟨fun _ _ _ _ _ => ?_, fun _ _ _ hx => ?_, fun ha hb ho8 hc r marks' mean' dev' any' G hd _ => ?_, fun _ _ hx => ?_⟩
  · exact h _ _ _ _ _ _ _ _ _ _ _ _ ⟨e.pk, hst, ht1, by omega, by omega, e.gone⟩
  · exact h _ _ _ _ _ _ _ _ _ _ _ _ ⟨e.pk.later (by omega), hst, ht1, by omega, by omega, e.gone⟩
  · obtain ⟨-, a, -, -, -, hf, -⟩ := hx; cases hf
  · have r0 := G.r0; have r1 := G.r1
    refine h _ _ _ _ _ _ _ _ _ _ _ _ ⟨⟨h0, h3, by omega, by have := G.len; omega, fun x hx => ⟨(e.pk.mt x (G.sub x hx)).1, by have := (e.pk.mt x (G.sub x hx)).2; omega⟩, G.m0, G.m1, ho8⟩, by omega, ht1, by omega, by omega, fun hx => by omega⟩
  · obtain ⟨-, -, hf, -⟩ := hx; cases hf

/-- What holds of one that met the other one, or gave up. -/
structure DK (st try' next now : Int) (other marks : List (Int × Int)) (mean s0 : Int) : Prop where
  pk : PK try' now other marks mean
  st_ : st = s0
  s45 : s0 = 4 ∨ s0 = 5
  next_ : next = 0

theorem tick_done {st try' next mean dev now n s0 : Int} {first any : Bool} {other own marks : List (Int × Int)} {m1 m2 : MI} {m3 : MA} {K : List Stp → Int → Int → Int → Int → List (Int × Int) → MI → MI → MA → Prop} (hl : own.length ≤ 8) (e : DK st try' next now other marks mean s0)
    (h : ∀ now2, DK st try' next now2 other marks mean s0 → K [] st try' next now2 marks m1 m2 m3) :
    punch_Puncher_Tick_wp st first try' next other own marks mean dev any now n m1 m2 m3 K := by
  have h0 := e.pk.t0; have ho := e.pk.ol; have hm := e.pk.ml; have hn0 := e.pk.n0; have he0 := e.pk.e0; have he1 := e.pk.e1; have hst := e.st_; have hs := e.s45
  refine tick_wp hl (by omega) h0 (by omega) hn0 he0 (by omega) (fun _ => h _ e) (fun ha _ _ => h _ ⟨e.pk.later ha, hst, hs, e.next_⟩) (fun ha hb hc => ⟨fun hx => by omega, fun hx => by omega, fun hx => by omega, fun hx => by omega, fun _ _ _ => h _ ⟨e.pk.later ha, hst, hs, e.next_⟩⟩)

theorem hear_done {st try' next mean dev now n s0 kind : Int} {first any : Bool} {other own marks addrs : List (Int × Int)} {nums body : List Int} {m1 m2 : MI} {m3 : MA} {K : List Stp → Int → Int → Int → List (Int × Int) → Int → List (Int × Int) → Int → Int → Bool → MI → MI → MA → Prop} (hl : own.length ≤ 8) (e : DK st try' next now other marks mean s0)
    (hnl : nums.length ≤ 9223372036854775807) (hal : addrs.length ≤ 9223372036854775807) (hu : ∀ x ∈ nums, 0 ≤ x ∧ x ≤ 18446744073709551615)
    (h : ∀ now2, DK st try' next now2 other marks mean s0 → K [] st try' next other now2 marks mean dev any m1 m2 m3) :
    punch_Puncher_Hear_wp st first try' next other own marks mean dev any now n kind nums addrs body m1 m2 m3 K := by
  have h0 := e.pk.t0; have h3 := e.pk.t3; have ho := e.pk.ol; have hm := e.pk.ml; have hn0 := e.pk.n0; have he0 := e.pk.e0; have he1 := e.pk.e1; have hst := e.st_; have hs := e.s45
  refine hear_wp hl (by omega) h0 h3 (by omega) hn0 he0 he1 e.pk.mt hnl hal hu (fun _ => h _ e) ⟨fun ha _ _ _ _ => h _ ⟨e.pk.later ha, hst, hs, e.next_⟩, fun _ _ _ hx => ?_, fun _ _ _ hx => ?_, fun _ _ hx => ?_⟩
  · obtain ⟨-, a, -, -, -, -, h4, h5, -⟩ := hx; omega
  · obtain ⟨-, a, -, -, -, -, h1, -⟩ := hx; omega
  · obtain ⟨-, -, -, h2⟩ := hx; omega

theorem small_wp {kind : Int} {nums body : List Int} {addrs : List (Int × Int)} {K : Bool → Prop} (h : ∀ b, K b) : embrasureref05_Small_wp kind nums addrs body K := by
  unfold embrasureref05_Small_wp
  exact cond_d (fun _ => cond_d (fun _ => h _) (fun _ => h _)) (fun _ => h _)

abbrev Dos := Int × Int × Int × List Int × List (Int × Int) × List Int
/-- What the script's own words may be. -/
def okDo (x : Dos) : Prop := x.2.2.2.1.length ≤ 9223372036854775807 ∧ x.2.2.2.2.1.length ≤ 9223372036854775807 ∧ ∀ y ∈ x.2.2.2.1, 0 ≤ y ∧ y ≤ 18446744073709551615

theorem punchEnds_plain0 {own : List (Int × Int)} {script : List Dos} {m1 m2 : MI} {m3 : MA} (hl : own.length ≤ 9223372036854775807) (hu : ∀ a ∈ own, 0 ≤ a.1) (hs : ∀ x ∈ script, okDo x) :
    embrasurelaw27_PunchEnds_wp own script m1 m2 m3 (fun r _ _ _ => r = true) := by
  unfold embrasurelaw27_PunchEnds_wp
  refine awake_wp (cond_f rfl ?_)
  refine lawMay_wp hl hu fun b hb => ?_
  cases b with
  | false => rfl
  | true =>
    obtain ⟨h8, hok⟩ := hb rfl
    refine cond_f rfl (new_wp h8 hok (joinP1.i (cond_f rfl ?_)))
    refine begin_wp h8 (by decide) (by decide) (by decide) (by decide) (fun hx => absurd rfl hx) (fun _ => ⟨by decide, by decide, fun hd hd1 hd2 e e1 e2 => ?_⟩)
    refine ⟨fun st tr nx oth now mk mean dev any told T _ _ _ => EK st tr nx now oth mk mean T ∧ told = tr ∧ 0 ≤ T ∧ T ≤ 6000, ?_, ?_⟩
    · rintro st tr nx oth now mk mean dev any told T m4 m5 m6 ⟨E, rfl, hT0, hT1⟩
      refine joinP10.i ⟨fun n st2 tr2 nx2 now2 mk2 told2 T2 i _ _ _ => EK st2 tr2 nx2 now2 oth mk2 mean T2 ∧ told2 = tr2 ∧ 0 ≤ i ∧ i ≤ 12 ∧ n = 12 - i.toNat ∧ 0 ≤ T2 ∧ T2 ≤ 6000 + 20000 * i ∧ rank st2 tr2 ≤ max 0 (4 - i), ⟨_, E, rfl, by decide, by decide, rfl, hT0, by omega, ?_⟩, ?_⟩
      · have := E.st_; have := E.t1
        unfold rank
        split <;> (try split) <;> omega
      · rintro n st2 tr2 nx2 now2 mk2 told2 T2 i m7 m8 m9 ⟨E2, rfl, hi0, hi1, rfl, hT20, hT21, hr⟩
        have hp0 := E2.pk.t0; have hp3 := E2.pk.t3; have hp1 := E2.t1
        refine cond_d (fun hlt => ?_) (fun hge => ?_)
        · rw [wrap_i64 (x := T2 + 20000) (by omega) (by omega)]
          refine tick_ends h8 (by omega) (by omega) E2 (fun rs st3 tr3 nx3 now3 mk3 _ _ _ hrs E3 hask hrank => ?_)
          have hq0 := E3.pk.t0; have hq3 := E3.pk.t3
          refine asks_wp (by omega) ?_
          rw [wrap_i64 (x := i + 1) (by omega) (by omega), wrap_i64 (by omega) (by omega)]
          have hnx := E2.next_
          refine ⟨_, ?_, E3, by omega, by omega, by omega, rfl, by omega, by omega, ?_⟩
          · omega
          · rcases hrank (by omega) with hrank | ⟨-, hrank, -⟩
            · omega
            · unfold rank; rw [if_pos hrank]; omega
        · have hst5 : st2 = 5 := by
            have := E2.st_
            unfold rank at hr
            by_cases h5 : st2 = 5
            · exact h5
            · rw [if_neg h5] at hr
              split at hr <;> omega
          have hol := E.pk.ol
          refine state_wp (by omega) ?_
          refine cond_d (fun _ => ?_) (fun hx => by omega)
          subst hst5
          have hgone := E2.gone rfl
          subst hgone
          refine cond_t rfl (cond_t rfl ?_)
          rw [wrap_i64 (x := T2 + 20000) (by omega) (by omega)]
          refine tick_ends h8 (by omega) (by omega) E2 (fun rs st3 tr3 nx3 now3 mk3 _ _ _ hrs E3 hask hrank => ?_)
          rcases hrank (by omega) with hrank | ⟨-, -, hrank⟩
          · unfold rank at hrank
            have := E3.st_; have := E3.pk.t3
            rw [if_pos rfl] at hrank
            split at hrank <;> (try split at hrank) <;> omega
          · subst hrank; rfl
    · refine ⟨fun n st tr nx oth now mk mean dev any told T i _ _ _ => EK st tr nx now oth mk mean T ∧ told = tr ∧ 0 ≤ T ∧ T ≤ 100 * i ∧ 0 ≤ i ∧ i ≤ 60 ∧ n = 60 - i.toNat, ⟨_, ⟨⟨by decide, by decide, by decide, by decide, by decide, by decide, by decide, by decide⟩, by decide, by decide, by decide, by decide, by decide⟩, rfl, by decide, by decide, by decide, by decide, rfl⟩, ?_⟩
      rintro n st tr nx oth now mk mean dev any told T i m4 m5 m6 ⟨E, rfl, hT0, hT1, hi0, hi1, rfl⟩
      have hp0 := E.pk.t0; have hp3 := E.pk.t3; have hp1 := E.t1
      refine joinP1.i (cond_d (fun hlt => cond_d (fun h60 => ?_) (fun _ => ⟨E, rfl, hT0, by omega⟩)) (fun _ => ⟨E, rfl, hT0, by omega⟩))
      refine ⟨hi0, hlt, fun x hx => small_wp fun b => cond_b (fun _ => rfl) (fun _ => ?_)⟩
      have hmem := List.mem_of_getElem? hx
      obtain ⟨k1, k2, k3⟩ := hs x hmem
      generalize hw : (if (100 : Int) < (if (0 : Int) > x.2.1 then 0 else x.2.1) then 100 else (if (0 : Int) > x.2.1 then 0 else x.2.1)) = w
      have hw0 : 0 ≤ w := by rw [← hw]; split <;> (try split) <;> omega
      have hw1 : w ≤ 100 := by rw [← hw]; split <;> (try split) <;> omega
      rw [wrap_i64 (x := T + w) (by omega) (by omega), wrap_i64 (x := i + 1) (by omega) (by omega)]
      refine cond_e (fun _ => ?_) (fun _ => ?_)
      · refine hear_ends h8 (by omega) (by omega) E k1 k2 k3 (fun rs st2 nx2 oth2 now2 mk2 mean2 dev2 any2 _ _ _ E2 => ?_)
        exact ⟨_, by omega, E2, rfl, by omega, by omega, by omega, by omega, rfl⟩
      · refine tick_ends h8 (by omega) (by omega) E (fun rs st3 tr3 nx3 now3 mk3 _ _ _ hrs E3 hask hrank => ?_)
        have hq0 := E3.pk.t0; have hq3 := E3.pk.t3
        refine asks_wp (by omega) ?_
        rw [wrap_i64 (by omega) (by omega)]
        exact ⟨_, by omega, E3, by omega, by omega, by omega, by omega, by omega, rfl⟩

theorem punchMet_plain0 {own : List (Int × Int)} {first : Bool} {script : List Dos} {m1 m2 : MI} {m3 : MA} (hl : own.length ≤ 9223372036854775807) (hu : ∀ a ∈ own, 0 ≤ a.1) (hs : ∀ x ∈ script, okDo x) :
    embrasurelaw27_PunchMet_wp own first script m1 m2 m3 (fun r _ _ _ => r = true) := by
  unfold embrasurelaw27_PunchMet_wp
  refine awake_wp (cond_f rfl ?_)
  refine lawMay_wp hl hu fun b hb => ?_
  cases b with
  | false => rfl
  | true =>
    obtain ⟨h8, hok⟩ := hb rfl
    refine cond_f rfl (new_wp h8 hok (joinP1.i (cond_f rfl ?_)))
    refine ⟨fun st f tr nx now mk T _ _ _ => (∃ s0, DK st tr nx now [] mk 0 s0) ∧ 0 ≤ T ∧ T ≤ 240000, ?_, ?_⟩
    · rintro st f tr nx now mk T m4 m5 m6 ⟨⟨s0, D⟩, hT0, hT1⟩
      refine state_wp (by decide) ?_
      refine ⟨fun n st2 f2 tr2 nx2 oth2 now2 mk2 mean2 dev2 any2 T2 i _ _ _ => DK st2 tr2 nx2 now2 oth2 mk2 mean2 s0 ∧ 0 ≤ T2 ∧ T2 ≤ 240000 + 1000 * i ∧ 0 ≤ i ∧ i ≤ 60 ∧ n = 60 - i.toNat, ⟨_, D, hT0, by omega, by decide, by decide, rfl⟩, ?_⟩
      rintro n st2 f2 tr2 nx2 oth2 now2 mk2 mean2 dev2 any2 T2 i m7 m8 m9 ⟨D2, hT20, hT21, hi0, hi1, rfl⟩
      refine joinP1.i (cond_d (fun hlt => cond_d (fun h60 => ?_) (fun _ => rfl)) (fun _ => rfl))
      refine ⟨hi0, hlt, fun x hx => ?_⟩
      have hmem := List.mem_of_getElem? hx
      obtain ⟨k1, k2, k3⟩ := hs x hmem
      generalize hw : (if (1000 : Int) < (if (0 : Int) > x.2.1 then 0 else x.2.1) then 1000 else (if (0 : Int) > x.2.1 then 0 else x.2.1)) = w
      have hw0 : 0 ≤ w := by rw [← hw]; split <;> (try split) <;> omega
      have hw1 : w ≤ 1000 := by rw [← hw]; split <;> (try split) <;> omega
      rw [wrap_i64 (x := T2 + w) (by omega) (by omega), wrap_i64 (x := i + 1) (by omega) (by omega)]
      refine ⟨fun _ => True, fun b _ => cond_b (fun _ => rfl) (fun _ => ?_), cond_d (fun _ => trivial) (fun _ => cond_d (fun _ => trivial) (fun _ => trivial))⟩
      · refine ⟨fun st3 f3 tr3 nx3 oth3 now3 mk3 mean3 dev3 any3 n14 _ _ _ => DK st3 tr3 nx3 now3 oth3 mk3 mean3 s0 ∧ n14 = 0, ?_, ?_⟩
        · rintro st3 f3 tr3 nx3 oth3 now3 mk3 mean3 dev3 any3 n14 m10 m11 m12 ⟨D3, rfl⟩
          have hol := D3.pk.ol
          refine joinP1.i (cond_n (fun hx => absurd rfl hx) (fun _ => state_wp (by omega) ?_))
          refine cond_n (fun hx => absurd (by rw [D3.st_, D.st_]) hx) (fun _ => state_wp (by omega) ?_)
          refine cond_n (fun hx => absurd D3.next_ hx) (fun _ => ?_)
          exact ⟨_, by omega, D3, by omega, by omega, by omega, by omega, rfl⟩
        · refine cond_e (fun _ => ?_) (fun _ => cond_e (fun _ => ?_) (fun _ => cond_e (fun _ => ?_) (fun _ => ?_)))
          · have := D2.st_; have := D2.s45; have := D2.pk.ml; have := D2.pk.e0; have := D2.pk.e1
            exact begin_wp h8 (by omega) D2.pk.n0 (by omega) (by omega) (fun _ => ⟨D2, rfl⟩) (fun hx => by omega)
          · exact tick_done h8 D2 (fun now3 D3 => ⟨D3, rfl⟩)
          · exact hear_done h8 D2 k1 k2 k3 (fun now3 D3 => ⟨D3, rfl⟩)
          · exact ⟨D2, rfl⟩
    · cases first with
      | false =>
        refine cond_f rfl ?_
        unfold punch_Puncher_Meet_wp
        exact ⟨⟨4, ⟨⟨by decide, by decide, by decide, by decide, by decide, by decide, by decide, by decide⟩, rfl, .inl rfl, rfl⟩⟩, by decide, by decide⟩
      | true =>
        refine cond_t rfl ?_
        refine begin_wp h8 (by decide) (by decide) (by decide) (by decide) (fun hx => absurd rfl hx) (fun _ => ⟨by decide, by decide, fun hd hd1 hd2 e e1 e2 => ?_⟩)
        refine joinP9.i ⟨fun n st2 tr2 nx2 now2 mk2 T2 i _ _ _ => EK st2 tr2 nx2 now2 [] mk2 0 T2 ∧ 0 ≤ i ∧ i ≤ 12 ∧ n = 12 - i.toNat ∧ 0 ≤ T2 ∧ T2 ≤ 20000 * i ∧ rank st2 tr2 ≤ max 0 (4 - i), ⟨_, ⟨⟨by decide, by decide, by decide, by decide, by decide, by decide, by decide, by decide⟩, by decide, by decide, by decide, by decide, by decide⟩, by decide, by decide, rfl, by decide, by decide, by decide⟩, ?_⟩
        rintro n st2 tr2 nx2 now2 mk2 T2 i m7 m8 m9 ⟨E2, hi0, hi1, rfl, hT20, hT21, hr⟩
        have hp0 := E2.pk.t0; have hp3 := E2.pk.t3; have hp1 := E2.t1
        refine cond_d (fun hlt => ?_) (fun hge => ?_)
        · rw [wrap_i64 (x := T2 + 20000) (by omega) (by omega), wrap_i64 (x := i + 1) (by omega) (by omega)]
          refine tick_ends h8 (by omega) (by omega) E2 (fun rs st3 tr3 nx3 now3 mk3 _ _ _ hrs E3 hask hrank => ?_)
          have hnx := E2.next_
          refine ⟨_, ?_, E3, by omega, by omega, rfl, by omega, by omega, ?_⟩
          · omega
          · rcases hrank (by omega) with hrank | ⟨-, hrank, -⟩
            · omega
            · unfold rank; rw [if_pos hrank]; omega
        · have hst5 : st2 = 5 := by
            have := E2.st_
            unfold rank at hr
            by_cases h5 : st2 = 5
            · exact h5
            · rw [if_neg h5] at hr
              split at hr <;> omega
          refine state_wp (by decide) (cond_n (fun hx => absurd hst5 hx) (fun _ => ?_))
          exact ⟨⟨5, ⟨E2.pk, hst5, .inr rfl, E2.gone hst5⟩⟩, by omega, by omega⟩

end Go.Proofs.Ytgelfofenbjjbaa
