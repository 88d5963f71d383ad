/- The laws of the puncher whose steps are all told: PunchStill, PunchTogether (plain side). -/
import Derived.Test.YtgelfofenbjjbaaQ
namespace Go.Proofs.Ytgelfofenbjjbaa
open Go Go.Eng

theorem sentL_nil (no now : Int) : sentL [] no now = [(no, now)] := rfl
theorem zlt1 {α : Type} (x : α) : (0 : Int) < ((([x] : List α).length : Nat) : Int) := by simp
theorem pos_one (no now : Int) : pos [(no, now)] no = 0 := by
  unfold pos idx
  simp

theorem tick_dial {st try' next mean dev now n : Int} {first any : Bool} {other own marks : List (Int × Int)} {m1 m2 : MI} {m3 : MA} {K : List Stp → Int → Int → Int → Int → List (Int × Int) → MI → MI → MA → Prop} (hl : own.length ≤ 8) (ho : other.length ≤ 1000) (h0 : 0 ≤ try')
    (hm : marks.length ≤ 100) (hn0 : 0 ≤ now) (he0 : 0 ≤ mean) (he : mean ≤ 1000000) (h2 : st = 2) (hf : first = true) (ha : now ≤ n) (hb : n ≤ 1099511627776) (hc : next ≤ n)
    (h : ∀ hd : Hd, hd.2.1 = other.length → K [(1, hd, 0, (none, 0, 0), (none, 0, 0), (none, 0, 0))] 3 try' (n + 20) n marks m1 m2 (m3 ++ [(hd, other)])) :
    punch_Puncher_Tick_wp st first try' next other own marks mean dev any now n m1 m2 m3 K := by
  refine tick_wp hl ho h0 hm hn0 he0 he (fun hx => absurd ⟨ha, hb⟩ hx) (fun _ _ hx => by omega) (fun _ _ _ => ⟨fun hx => ?_, fun hx => ?_, fun _ _ => h, fun _ hx => ?_, fun _ hx => absurd h2 hx⟩)
  · omega
  · omega
  · rw [hf] at hx; cases hx

theorem tick_early {st try' next mean dev now n : Int} {first any : Bool} {other own marks : List (Int × Int)} {m1 m2 : MI} {m3 : MA} {K : List Stp → Int → Int → Int → Int → List (Int × Int) → MI → MI → MA → Prop} (hl : own.length ≤ 8) (ho : other.length ≤ 1000) (h0 : 0 ≤ try')
    (hm : marks.length ≤ 100) (hn0 : 0 ≤ now) (he0 : 0 ≤ mean) (he : mean ≤ 1000000) (ha : now ≤ n) (hb : n ≤ 1099511627776) (hc : n < next)
    (h : K [] st try' next n marks m1 m2 m3) :
    punch_Puncher_Tick_wp st first try' next other own marks mean dev any now n m1 m2 m3 K :=
  tick_wp hl ho h0 hm hn0 he0 he (fun hx => absurd ⟨ha, hb⟩ hx) (fun _ _ _ => h) (fun _ _ hx => by omega)

theorem hear_asked {st try' next mean dev now n a : Int} {first any : Bool} {other own marks addrs : List (Int × Int)} {nums body : List Int} {m1 m2 : MI} {m3 : MA} {K : List Stp → Int → Int → Int → List (Int × Int) → Int → List (Int × Int) → Int → Int → Bool → MI → MI → MA → Prop} (hl : own.length ≤ 8) (ho : other.length ≤ 1000) (h0 : 0 ≤ try') (h3 : try' ≤ 3)
    (hm : marks.length ≤ 100) (hn0 : 0 ≤ now) (he0 : 0 ≤ mean) (he : mean ≤ 80007) (ht : ∀ x ∈ marks, 0 ≤ x.2 ∧ x.2 ≤ now) (ha : now ≤ n) (hb : n ≤ 1099511627776)
    (hal : addrs.length ≤ 8) (hok : ∀ x ∈ addrs, okA x = true) (hbl : body.length ≤ 1000) (en : nums = [a, 0]) (a1 : 1 ≤ a) (a3 : a ≤ 3) (hf : first = false) (h4 : st ≠ 4) (h5 : st ≠ 5) (hta : try' ≤ a)
    (h : ∀ hd hd1 hd2 : Hd, hd.2.1 = 2 → hd1.2.1 = own.length → hd2.2.1 = 0 → K [(0, (none, 0, 0), 17, hd, hd1, hd2)] 2 a (n + 100) addrs n marks mean dev any (m1 ++ [(hd2, [])]) (m2 ++ [(hd, [a, 1])]) (m3 ++ [(hd1, own)])) :
    punch_Puncher_Hear_wp st first try' next other own marks mean dev any now n 17 nums addrs body m1 m2 m3 K := by
  subst en
  have hc : CA 17 [a, 0] first st try' := ⟨rfl, a, rfl, a1, a3, hf, h4, h5, hta⟩
  have e : addrs.any (fun x => !(okA x)) = false := by
    rw [List.any_eq_false]; intro x hx; simp [hok x hx]
  have hm2 : mayB 2 [a, 0] addrs body = true := by
    unfold mayB
    rw [e, decide_eq_true hal, decide_eq_true hbl]
    have : bigU a = false := by unfold bigU; exact decide_eq_false (by omega)
    simp [List.any, bigU]; omega
  refine hear_wp hl ho h0 h3 hm hn0 he0 he ht (by simp) (by omega) (fun x hx => by simp at hx; omega) (fun hx => (hx.1 rfl hm2 ha hb).elim)
    ⟨fun _ _ hx => absurd hc hx, fun _ _ _ _ a' e hd hd1 hd2 x y z => ?_, fun _ _ _ hx => ?_, fun _ _ hx => ?_⟩
  · cases e; exact h hd hd1 hd2 x y z
  · obtain ⟨-, a', e, -⟩ := hx; cases e
  · obtain ⟨e, -⟩ := hx; cases e

theorem hear_answered {st try' next mean dev now n a : Int} {first any : Bool} {other own marks addrs : List (Int × Int)} {nums body : List Int} {m1 m2 : MI} {m3 : MA} {K : List Stp → Int → Int → Int → List (Int × Int) → Int → List (Int × Int) → Int → Int → Bool → MI → MI → MA → Prop} (hl : own.length ≤ 8) (ho : other.length ≤ 1000) (h0 : 0 ≤ try') (h3 : try' ≤ 3)
    (hm : marks.length ≤ 100) (hn0 : 0 ≤ now) (he0 : 0 ≤ mean) (he : mean ≤ 80007) (ht : ∀ x ∈ marks, 0 ≤ x.2 ∧ x.2 ≤ now) (ha : now ≤ n) (hb : n ≤ 1099511627776)
    (hal : addrs.length ≤ 8) (hok : ∀ x ∈ addrs, okA x = true) (hbl : body.length ≤ 1000) (en : nums = [a, 1]) (a1 : 1 ≤ a) (hf : first = true) (h1 : st = 1) (hta : try' = a)
    (h : ∀ r marks' mean' dev' any', GotR marks n try' r marks' mean' → ∀ hd : Hd, hd.2.1 = 1 → K [(0, (none, 0, 0), 18, hd, (none, 0, 0), (none, 0, 0))] 2 try' (n + r / 2) addrs n marks' mean' dev' any' m1 (m2 ++ [(hd, [try'])]) m3) :
    punch_Puncher_Hear_wp st first try' next other own marks mean dev any now n 17 nums addrs body m1 m2 m3 K := by
  subst en
  have hc : CB 17 [a, 1] first st try' := ⟨rfl, a, rfl, a1, by omega, hf, h1, hta⟩
  have e : addrs.any (fun x => !(okA x)) = false := by
    rw [List.any_eq_false]; intro x hx; simp [hok x hx]
  have hm2 : mayB 2 [a, 1] addrs body = true := by
    unfold mayB
    rw [e, decide_eq_true hal, decide_eq_true hbl]
    have : bigU a = false := by unfold bigU; exact decide_eq_false (by omega)
    simp [List.any, bigU]; omega
  refine hear_wp hl ho h0 h3 hm hn0 he0 he ht (by simp) (by omega) (fun x hx => by simp at hx; omega) (fun hx => (hx.1 rfl hm2 ha hb).elim)
    ⟨fun _ _ _ hx => absurd hc hx, fun _ _ _ hx => ?_, fun _ _ _ _ => h, fun _ _ hx => ?_⟩
  · obtain ⟨-, a', e, -⟩ := hx; cases e
  · obtain ⟨e, -⟩ := hx; cases e

theorem hear_synced {st try' next mean dev now n : Int} {first any : Bool} {other own marks : List (Int × Int)} {nums : List Int} {m1 m2 : MI} {m3 : MA} {K : List Stp → Int → Int → Int → List (Int × Int) → Int → List (Int × Int) → Int → Int → Bool → MI → MI → MA → Prop} (hl : own.length ≤ 8) (ho : other.length ≤ 1000) (h0 : 0 ≤ try') (h3 : try' ≤ 3)
    (hm : marks.length ≤ 100) (hn0 : 0 ≤ now) (he0 : 0 ≤ mean) (he : mean ≤ 80007) (ht : ∀ x ∈ marks, 0 ≤ x.2 ∧ x.2 ≤ now) (ha : now ≤ n) (hb : n ≤ 1099511627776)
    (en : nums = [try']) (hf : first = false) (h2 : st = 2)
    (h : ∀ hd : Hd, hd.2.1 = other.length → K [(1, hd, 0, (none, 0, 0), (none, 0, 0), (none, 0, 0))] 3 try' (n + 20) other n marks mean dev any m1 m2 (m3 ++ [(hd, other)])) :
    punch_Puncher_Hear_wp st first try' next other own marks mean dev any now n 18 nums [] [] m1 m2 m3 K := by
  subst en
  have hm2 : mayB 1 [try'] [] [] = true := by
    unfold mayB
    have : bigU try' = false := by unfold bigU; exact decide_eq_false (by omega)
    simp [List.any, this]
  refine hear_wp hl ho h0 h3 hm hn0 he0 he ht (by simp) (by simp) (fun x hx => by simp at hx; omega) (fun hx => (hx.2 rfl hm2 ha hb).elim)
    ⟨fun _ _ _ _ hx => absurd ⟨rfl, rfl, hf, h2⟩ hx, fun _ _ _ hx => ?_, fun _ _ _ hx => ?_, fun _ _ _ => h⟩
  · obtain ⟨e, -⟩ := hx; cases e
  · obtain ⟨e, -⟩ := hx; cases e

theorem awake_wp {K : Bool → Prop} (h : K true) : embrasurelaw27_awake_wp K := by
  unfold embrasurelaw27_awake_wp
  refine new_wp (by decide) (by decide) ?_
  refine joinP1.i (cond_f rfl ?_)
  refine begin_wp (by decide) (by decide) (by decide) (by decide) (by decide) (fun h => absurd rfl h) (fun _ => ⟨by decide, by decide, fun hd hd1 hd2 e e1 e2 => ?_⟩)
  refine hear_answered (by decide) (by decide) (by decide) (by decide) (by decide) (by decide) (by decide) (by decide) (by decide) (by decide) (by decide) (by decide) (by decide) (by decide) rfl (by decide) rfl rfl rfl (fun r marks' mean' dev' any' G hd3 e3 => ?_)
  have hr : r = 20 := G.at_ (1, 0) (by decide) (by decide)
  subst hr
  have hml := G.len
  have hml1 : (sentL [] 1 0).length = 1 := rfl
  have := G.m0; have := G.m1
  refine tick_early (by decide) (by decide) (by decide) (by omega) (by decide) (by omega) (by omega) (by decide) (by decide) (by decide) ?_
  refine tick_dial (by decide) (by decide) (by decide) (by omega) (by decide) (by omega) (by omega) rfl rfl (by decide) (by decide) (by decide) (fun hd4 e4 => ?_)
  refine cond_t rfl ⟨by decide, zlt1 _, fun x hx => ?_⟩
  cases hx
  refine cond_t rfl (cond_t rfl ⟨by decide, zlt1 _, fun x hx => ?_⟩)
  cases hx
  refine cond_t rfl (cond_t rfl (cond_t rfl ⟨by decide, zlt1 _, fun x hx => ?_⟩))
  cases hx
  refine cond_t rfl ⟨by decide, zlt1 _, fun x hx => ?_⟩
  cases hx
  refine ⟨_, PH.new, by decide, by show (0 : Int) < ((hd4.2.1 : Nat) : Int); rw [e4]; decide, fun x hx => ?_⟩
  cases hx
  exact h

theorem punchStill_plain0 {own : List (Int × Int)} {x y late : Int} (hl : own.length ≤ 9223372036854775807) (hu : ∀ a ∈ own, 0 ≤ a.1) (x0 : 0 ≤ x) (x1 : x ≤ 255) (y0 : 0 ≤ y) (y1 : y ≤ 255) (l0 : 0 ≤ late) (l1 : late ≤ 255) :
    embrasurelaw27_PunchStill_wp own x y late (· = true) := by
  unfold embrasurelaw27_PunchStill_wp
  refine awake_wp (cond_f rfl ?_)
  refine lawMay_wp hl hu fun b hb => ?_
  cases b with
  | false => rfl
  | true =>
    obtain ⟨h8, hok⟩ := hb rfl
    refine cond_f rfl (new_wp h8 hok (joinP1.i (cond_f rfl ?_)))
    have ek : IntKind.wrap .i64 (1 + Int.tmod (IntKind.wrap .i64 x) 3) = 1 + x % 3 := by
      rw [wrap_i64 (x := x) (by omega) (by omega), tmod_pos x0, wrap_i64 (by omega) (by omega)]
    have ej : IntKind.wrap .i64 (1 + Int.tmod (IntKind.wrap .i64 y) 3) = 1 + y % 3 := by
      rw [wrap_i64 (x := y) (by omega) (by omega), tmod_pos y0, wrap_i64 (by omega) (by omega)]
    have en : IntKind.wrap .i64 (5 + Int.tmod (IntKind.wrap .i64 late) 150) = 5 + late % 150 := by
      rw [wrap_i64 (x := late) (by omega) (by omega), tmod_pos l0, wrap_i64 (by omega) (by omega)]
    rw [ek, ej, en]
    generalize hk : 1 + x % 3 = k
    generalize hj : 1 + y % 3 = j
    generalize hn : 5 + late % 150 = n
    rw [wrap_u64 (x := k) (by omega) (by omega), wrap_u64 (x := j) (by omega) (by omega), wrap_i64 (x := n + 20) (by omega) (by omega)]
    refine hear_asked h8 (by decide) (by decide) (by decide) (by decide) (by decide) (by decide) (by decide) (by simp) (by decide) (by decide) (by decide) (by decide) (by decide) rfl (by omega) (by omega) rfl (by decide) (by decide) (by omega) (fun hd hd1 hd2 e e1 e2 => ?_)
    have back : cond (decide (n ≥ 105)) (punch_Puncher_Tick_wp 2 false k (5 + 100) [(9, 9)] own [] 0 0 false 5 n ([] ++ [(hd2, [])]) ([] ++ [(hd, [k, 1])]) ([] ++ [(hd1, own)])
        (fun rs_2 h_10 h_11 h_12 now_2 marks_2 m_4 m_5 m_6 => punch_Puncher_State_wp h_10 false h_11 h_12 [(9, 9)] 0 0 false now_2 (fun (r_8 : Int) (r_9 : Bool) (r_10 : Int) (r_11 : Int) (rs_3 : List (Int × Int)) => cond ((r_8 : Int) == 0) (punch_Puncher_Begin_wp h_10 false h_11 h_12 own marks_2 0 0 false now_2 n m_4 m_5 m_6 (fun rs_4 h_13 h_14 h_15 h_16 now_3 marks_3 m_7 m_8 m_9 => ((((rs_4.length : Nat) : Int) : Int) == 1) = true)) (false = true)))) True := by
      refine cond_d (fun hge => ?_) (fun _ => trivial)
      refine tick_wp h8 (by decide) (by omega) (by decide) (by decide) (by decide) (by decide) (fun hx => absurd ⟨by omega, by omega⟩ hx) (fun _ _ hx => by omega) (fun _ _ _ => ⟨fun hx => ?_, fun hx => ?_, fun _ hx => ?_, fun _ _ => ?_, fun _ hx => absurd rfl hx⟩)
      · omega
      · omega
      · cases hx
      · refine state_wp (by decide) (cond_t rfl ?_)
        refine begin_wp h8 (by decide) (by omega) (by decide) (by decide) (fun hx => absurd rfl hx) (fun _ => ⟨by omega, by omega, fun _ _ _ _ _ _ => rfl⟩)
    refine joinP1.i ?_
    refine cond_n (fun hx => absurd rfl hx) (fun _ => ?_)
    refine ⟨by decide, zlt1 _, fun s hs => ?_⟩
    cases hs
    refine ⟨_, PH.new, by decide, by show (1 : Int) < ((hd.2.1 : Nat) : Int); rw [e]; decide, fun s hs => ?_⟩
    cases hs
    refine cond_n (fun hx => absurd rfl hx) (fun _ => ⟨by decide, zlt1 _, fun s hs => ?_⟩)
    cases hs
    refine ⟨_, PH.new, by decide, by show (0 : Int) < ((hd.2.1 : Nat) : Int); rw [e]; decide, fun s hs => ?_⟩
    cases hs
    rw [wrap_i64 (x := k) (by omega) (by omega)]
    refine cond_n (fun hx => absurd rfl hx) (fun _ => state_wp (by decide) (cond_f rfl ?_))
    refine cond_d (fun hge => ?_) (fun hlt => ?_)
    · rw [decide_eq_true hge] at back
      exact back
    · by_cases ejk : j = k
      · refine hear_synced h8 (by decide) (by omega) (by omega) (by decide) (by decide) (by decide) (by decide) (by simp) (by omega) (by omega) (by rw [ejk]) rfl rfl (fun hd3 e3 => ?_)
        refine cond_n (fun hx => absurd ejk hx) (fun _ => cond_t rfl ⟨by decide, zlt1 _, fun s hs => ?_⟩)
        cases hs
        refine cond_t rfl ⟨by decide, zlt1 _, fun s hs => ?_⟩
        cases hs
        refine cond_e (fun _ => state_wp (by decide) (by simp)) (fun hx => absurd ?_ hx)
        show ((hd3.2.1 : Nat) : Int) = 1
        rw [e3]; rfl
      · have hm2 : mayB 1 [j] [] [] = true := by
          unfold mayB
          have : bigU j = false := by unfold bigU; exact decide_eq_false (by omega)
          simp [List.any, this]
        refine hear_wp h8 (by decide) (by omega) (by omega) (by decide) (by decide) (by decide) (by decide) (by simp) (by simp) (by decide) (fun x hx => by simp at hx; omega) (fun hx => (hx.2 rfl hm2 (by omega) (by omega)).elim)
          ⟨fun _ _ _ _ _ => ?_, fun _ _ _ hx => ?_, fun _ _ _ hx => ?_, fun _ _ hx => ?_⟩
        · exact cond_n (fun _ => cond_t rfl (state_wp (by decide) rfl)) (fun hx => absurd hx ejk)
        · obtain ⟨e, -⟩ := hx; cases e
        · obtain ⟨e, -⟩ := hx; cases e
        · obtain ⟨-, e, -⟩ := hx
          exact absurd (by cases e; rfl) ejk

theorem addrs_wp {a : List (Int × Int)} {K : Bool → Prop} (hl : a.length ≤ 1000) (h : K true) : embrasureref27_Addrs_wp a a K := by
  unfold embrasureref27_Addrs_wp
  refine cond_n (fun hx => absurd rfl hx) (fun _ => ?_)
  refine ⟨fun n i => 0 ≤ i ∧ i ≤ a.length ∧ n = a.length - i.toNat, ⟨_, by omega, by omega, rfl⟩, ?_⟩
  rintro n i ⟨h0, h1, rfl⟩
  refine cond_d (fun hlt => ?_) (fun _ => h)
  refine ⟨h0, hlt, fun x hx => ⟨h0, hlt, fun y hy => ?_⟩⟩
  rw [hx] at hy
  cases hy
  simp only [beq_self_eq_true, Bool.and_true, Bool.not_true, cond_false]
  rw [wrap_i64 (x := i + 1) (by omega) (by omega)]
  exact ⟨_, by omega, by omega, by omega, rfl⟩

theorem punchTogether_plain0 {a b : List (Int × Int)} {delay start : Int} (hl : a.length ≤ 9223372036854775807) (hl' : b.length ≤ 9223372036854775807) (hu : ∀ x ∈ a, 0 ≤ x.1) (hu' : ∀ x ∈ b, 0 ≤ x.1) (d0 : 0 ≤ delay) (d1 : delay ≤ 255) (s0 : 0 ≤ start) (s1 : start ≤ 65535) :
    embrasurelaw27_PunchTogether_wp a b delay start (· = true) := by
  unfold embrasurelaw27_PunchTogether_wp
  refine awake_wp (cond_f rfl ?_)
  refine joinP1.i (lawMay_wp hl hu fun r hr => ?_)
  cases r with
  | false => rfl
  | true =>
    refine cond_f rfl (lawMay_wp hl' hu' fun r' hr' => ?_)
    cases r' with
    | false => rfl
    | true =>
      obtain ⟨h8, hok⟩ := hr rfl
      obtain ⟨h8', hok'⟩ := hr' rfl
      refine cond_f rfl (new_wp h8 hok (new_wp h8' hok' (joinP1.i ?_)))
      refine cond_n (fun hx => absurd rfl hx) (fun _ => cond_f rfl ?_)
      have ed : Int.tmod (IntKind.wrap .i64 delay) 10 = delay % 10 := by
        rw [wrap_i64 (x := delay) (by omega) (by omega), tmod_pos d0]
      rw [ed, wrap_i64 (x := start) (by omega) (by omega)]
      generalize hd : delay % 10 = d
      have hd0 : 0 ≤ d := by omega
      have hd9 : d ≤ 9 := by omega
      rw [wrap_i64 (x := 2 * d) (by omega) (by omega), wrap_i64 (x := 3 * d) (by omega) (by omega), wrap_i64 (x := start + d) (by omega) (by omega), wrap_i64 (x := start + 2 * d) (by omega) (by omega), wrap_i64 (x := start + 3 * d) (by omega) (by omega), wrap_i64 (x := start + 3 * d - 1) (by omega) (by omega)]
      refine begin_wp h8 (by decide) (by decide) (by decide) (by decide) (fun hx => absurd rfl hx) (fun _ => ⟨s0, by omega, fun hd hd1 hd2 e e1 e2 => ?_⟩)
      refine cond_n (fun hx => absurd rfl hx) (fun _ => ⟨by decide, zlt1 _, fun s hs => ?_⟩)
      cases hs
      refine ⟨_, PH.new, _, PH.new, _, PH.new, ?_⟩
      refine hear_asked h8' (by decide) (by decide) (by decide) (by decide) (by decide) (by decide) (by decide) (by simp) (by omega) (by omega) h8 hok (by decide) rfl (by decide) (by decide) rfl (by decide) (by decide) (by decide) (fun hd3 hd4 hd5 e3 e4 e5 => ?_)
      refine cond_n (fun hx => absurd rfl hx) (fun _ => ⟨by decide, zlt1 _, fun s hs => ?_⟩)
      cases hs
      refine ⟨_, PH.new, _, PH.new, _, PH.new, ?_⟩
      refine hear_answered h8 (by decide) (by decide) (by decide) (by rw [sentL_nil]; simp) s0 (by decide) (by decide) (fun x hx => by rw [sentL_nil] at hx; simp at hx; subst hx; exact ⟨s0, Int.le_refl _⟩) (by omega) (by omega) h8' hok' (by decide) rfl (by decide) rfl rfl rfl (fun r marks' mean' dev' any' G hd6 e6 => ?_)
      have hr : r = min (start + 2 * d - start) 10000 := G.at_ (1, start) (by rw [sentL_nil, pos_one]; decide) (by rw [sentL_nil, pos_one]; rfl)
      have hr2 : r = 2 * d := by omega
      subst hr2
      have e2d : 2 * d / 2 = d := by omega
      rw [e2d]
      have hml := G.len
      have hml1 : (sentL [] 1 start).length = 1 := rfl
      have := G.m0; have := G.m1
      refine cond_n (fun hx => absurd rfl hx) (fun _ => ?_)
      refine ⟨fun st tr nx now7 mk m13 m14 m15 => st = 2 ∧ tr = 1 ∧ nx = start + 2 * d + d ∧ 0 ≤ now7 ∧ now7 ≤ start + 3 * d ∧ mk = marks' ∧ PH m14 hd6 [1], ?_, joinP9.i ?_⟩
      rotate_left
      · refine cond_d (fun hpos => ?_) (fun hz => ?_)
        · refine tick_early h8 (by omega) (by decide) (by omega) (by omega) (by omega) (by omega) (by omega) (by omega) (by omega) ?_
          exact cond_f rfl ⟨rfl, rfl, rfl, by omega, by omega, rfl, PH.new⟩
        · exact cond_f rfl ⟨rfl, rfl, rfl, by omega, by omega, rfl, PH.new⟩
      · rintro st tr nx now7 mk m13 m14 m15 ⟨rfl, rfl, rfl, ha, hb, rfl, hph⟩
        refine tick_dial h8 (by omega) (by decide) (by omega) ha (by omega) (by omega) rfl rfl hb (by omega) (by omega) (fun hd7 e7 => ?_)
        refine ⟨by decide, zlt1 _, fun s hs => ?_⟩
        cases hs
        refine ⟨_, hph, [], .inl ⟨rfl, rfl⟩, [], .inl ⟨rfl, rfl⟩, ?_⟩
        refine hear_synced h8' (by omega) (by decide) (by decide) (by decide) (by omega) (by decide) (by decide) (by simp) (by omega) (by omega) rfl rfl rfl (fun hd8 e8 => ?_)
        refine cond_t rfl (cond_t rfl ⟨by decide, zlt1 _, fun s hs => ?_⟩)
        cases hs
        refine cond_t rfl ⟨by decide, zlt1 _, fun s hs => ?_⟩
        cases hs
        refine cond_t rfl ⟨by decide, zlt1 _, fun s hs => ?_⟩
        cases hs
        refine ⟨_, PH.mono PH.new _, ?_⟩
        refine addrs_wp (by omega) (cond_t rfl ⟨by decide, zlt1 _, fun s hs => ?_⟩)
        cases hs
        refine ⟨_, PH.new, ?_⟩
        refine addrs_wp (by omega) (cond_t rfl (state_wp (by omega) (cond_t rfl (state_wp (by omega) rfl))))

end Go.Proofs.Ytgelfofenbjjbaa
