/- The plain side of the statements on votes: what each says. -/
import Derived.Test.YtgcodbcfcaacgaaQ
namespace Go.Proofs.Ytgcodbcfcaacgaa
open Go Go.Eng

theorem i64b {h : Int} (hh : inK .i64 h) : -9223372036854775808 ≤ h ∧ h ≤ 9223372036854775807 := by simp [inK, IntKind.min, IntKind.max, IntKind.signed, IntKind.bits] at hh; omega
theorem u8b {h : Int} (hh : inK .u8 h) : 0 ≤ h ∧ h ≤ 255 := by simp [inK, IntKind.min, IntKind.max, IntKind.signed, IntKind.bits] at hh; omega
theorem u16b {h : Int} (hh : inK .u16 h) : 0 ≤ h ∧ h ≤ 65535 := by simp [inK, IntKind.min, IntKind.max, IntKind.signed, IntKind.bits] at hh; omega
theorem u32b {h : Int} (hh : inK .u32 h) : 0 ≤ h ∧ h ≤ 4294967295 := by simp [inK, IntKind.min, IntKind.max, IntKind.signed, IntKind.bits] at hh; omega

theorem held_none {L : List Vo} {zs : List Ad} (hz : Held L zs) (h : ∀ a, cnt L a < 4) : zs = [] := by
  cases zs with
  | nil => rfl
  | cons a zs => exact absurd ((hz.mem a).1 (List.mem_cons_self ..)) (by have := h a; omega)

theorem held_one {L : List Vo} {zs : List Ad} {a : Ad} (hz : Held L zs) (h : 4 ≤ cnt L a) (h2 : ∀ b, 4 ≤ cnt L b → b = a) : zs = [a] := by
  have hm := (hz.mem a).2 h
  cases zs with
  | nil => cases hm
  | cons b zs =>
    have e := h2 b ((hz.mem b).1 (List.mem_cons_self ..))
    subst e
    cases zs with
    | nil => rfl
    | cons c zs =>
      have e := h2 c ((hz.mem c).1 (by simp))
      subst e
      exact absurd hz.nd (by simp)

theorem awake_wp {K : Bool → Prop} (hK : K true) : embrasurelaw18_awake_wp K := by
  unfold embrasurelaw18_awake_wp vote_New_wp
  have e1 : IntKind.wrap .u32 (IntKind.wrap .i64 ((IntKind.wrap .i64 (1 * 65536)) + 1)) = 65537 := by decide
  have e2 : IntKind.wrap .u32 (IntKind.wrap .i64 ((IntKind.wrap .i64 (2 * 65536)) + 1)) = 131073 := by decide
  have e3 : IntKind.wrap .u32 (IntKind.wrap .i64 ((IntKind.wrap .i64 (3 * 65536)) + 1)) = 196609 := by decide
  have w1 : IntKind.wrap .i64 (1 + 1) = 2 := by decide
  have w2 : IntKind.wrap .i64 (2 + 1) = 3 := by decide
  have w3 : IntKind.wrap .i64 (3 + 1) = 4 := by decide
  refine ⟨fun l n => l = [(1, 1, 2, 0), (2, 1, 2, 0), (3, 1, 2, 0)] ∧ n = 0, fun l n h => ?_, ?_⟩
  · obtain ⟨rfl, rfl⟩ := h
    refine held_wp (by unfold okV; decide) (by decide) (fun zs hz => ?_)
    have n0 : nowOn 0 0 = 0 := by decide
    have n1 : nowOn 1 1 = 1 := by decide
    have n2 : nowOn 1 600 = 600 := by decide
    have n3 : nowOn 600 600 = 600 := by decide
    rw [n0] at hz ⊢
    have f0 : onL 0 [(1, 1, 2, 0), (2, 1, 2, 0), (3, 1, 2, 0)] = [(1, 1, 2, 0), (2, 1, 2, 0), (3, 1, 2, 0)] := by decide
    rw [f0] at hz ⊢
    obtain rfl := held_none hz (fun a => by have := cnt_le [(1, 1, 2, 0), (2, 1, 2, 0), (3, 1, 2, 0)] a; simp only [List.length_cons, List.length_nil] at this; omega)
    refine cast_wp (by unfold okV; decide) (by decide) (fun h => absurd h (by unfold badC mayA; decide)) (fun _ => ?_)
    have c4 : castL (onL 1 [(1, 1, 2, 0), (2, 1, 2, 0), (3, 1, 2, 0)]) (262144 / 65536) (1, 2) 1 = [(1, 1, 2, 0), (2, 1, 2, 0), (3, 1, 2, 0), (4, 1, 2, 1)] := by decide
    rw [c4]
    refine cond_t (by decide) (held_wp (by unfold okV; decide) (by decide) (fun zs hz => ?_))
    rw [n1] at hz ⊢
    have f1 : onL 1 [(1, 1, 2, 0), (2, 1, 2, 0), (3, 1, 2, 0), (4, 1, 2, 1)] = [(1, 1, 2, 0), (2, 1, 2, 0), (3, 1, 2, 0), (4, 1, 2, 1)] := by decide
    rw [f1] at hz ⊢
    obtain rfl := held_one (a := (1, 2)) hz (by decide) (fun b hb => by
      obtain ⟨v, hv, e⟩ := cnt_pos.1 (show 0 < cnt [(1, 1, 2, 0), (2, 1, 2, 0), (3, 1, 2, 0), (4, 1, 2, 1)] b by omega)
      simp only [List.mem_cons, List.not_mem_nil, or_false] at hv
      rcases hv with rfl | rfl | rfl | rfl <;> exact e.symm)
    refine cond_t (by decide) (count_wp (by unfold okV; decide) (by decide) ?_)
    rw [n1, f1]
    refine cond_t (by decide) (count_wp (by unfold okV; decide) (by decide) ?_)
    rw [n2]
    have f2 : onL 600 [(1, 1, 2, 0), (2, 1, 2, 0), (3, 1, 2, 0), (4, 1, 2, 1)] = [(4, 1, 2, 1)] := by decide
    rw [f2]
    refine cond_t (by decide) (held_wp (by unfold okV; decide) (by decide) (fun zs hz => ?_))
    rw [n3] at hz ⊢
    have f3 : onL 600 [(4, 1, 2, 1)] = [(4, 1, 2, 1)] := by decide
    rw [f3] at hz ⊢
    obtain rfl := held_none hz (fun a => by have := cnt_le [(4, 1, 2, 1)] a; simp only [List.length_cons, List.length_nil] at this; omega)
    exact cond_t (by decide) (cast_wp (by unfold okV; decide) (by decide) (fun _ => hK) (fun h => absurd (.inl rfl) h))
  · refine ⟨fun n l now i => (n = 3 ∧ l = [] ∧ now = 0 ∧ i = 1) ∨ (n = 2 ∧ l = [(1, 1, 2, 0)] ∧ now = 0 ∧ i = 2) ∨ (n = 1 ∧ l = [(1, 1, 2, 0), (2, 1, 2, 0)] ∧ now = 0 ∧ i = 3) ∨ (n = 0 ∧ l = [(1, 1, 2, 0), (2, 1, 2, 0), (3, 1, 2, 0)] ∧ now = 0 ∧ i = 4), ⟨3, .inl ⟨rfl, rfl, rfl, rfl⟩⟩, ?_⟩
    rintro n l now i (⟨rfl, rfl, rfl, rfl⟩ | ⟨rfl, rfl, rfl, rfl⟩ | ⟨rfl, rfl, rfl, rfl⟩ | ⟨rfl, rfl, rfl, rfl⟩)
    · rw [e1, w1]
      refine cond_t (by decide) (cast_wp (by unfold okV; decide) (by decide) (fun h => absurd h (by unfold badC mayA; decide)) (fun _ => cond_f (by decide) ⟨2, by decide, .inr (.inl ⟨rfl, by decide, rfl, rfl⟩)⟩))
    · rw [e2, w2]
      refine cond_t (by decide) (cast_wp (by unfold okV; decide) (by decide) (fun h => absurd h (by unfold badC mayA; decide)) (fun _ => cond_f (by decide) ⟨1, by decide, .inr (.inr (.inl ⟨rfl, by decide, rfl, rfl⟩))⟩))
    · rw [e3, w3]
      refine cond_t (by decide) (cast_wp (by unfold okV; decide) (by decide) (fun h => absurd h (by unfold badC mayA; decide)) (fun _ => cond_f (by decide) ⟨0, by decide, .inr (.inr (.inr ⟨rfl, by decide, rfl, rfl⟩))⟩))
    · exact cond_f (by decide) ⟨rfl, rfl⟩

/-! ### VotePlays -/

/-- A box that may be. -/
structure OkB (l : List Vo) (now : Int) : Prop where
  ok : okV l
  len : l.length ≤ 100
  now0 : 0 ≤ now
  now1 : now ≤ 1099511627776

theorem OkB.on {l : List Vo} {now : Int} (h : OkB l now) (t : Int) : OkB (onL (nowOn now t) l) (nowOn now t) :=
  ⟨h.ok.on _, Nat.le_trans (onL_len _ _) h.len, by have := @nowOn_ge now t; have := h.now0; omega, nowOn_le h.now1⟩

theorem OkB.cast {l : List Vo} {now t b h p : Int} (ho : OkB l now) (hb : ¬ badC now t b h p) : OkB (castL (onL t l) (b / 65536) (h, p) t) t := by
  unfold badC at hb
  have := ho.now0
  exact ⟨castL_ok (ho.ok.on _) (by omega) (by omega), castL_len, by omega, by omega⟩

theorem votePlays_plain {script : List (Int × Int × Int × Int)} (hs : ∀ x ∈ script, inK .i64 x.1 ∧ inK .u32 x.2.1 ∧ inK .u32 x.2.2.1 ∧ inK .i64 x.2.2.2) (_ : script.length ≤ 9223372036854775807) : embrasurelaw18_VotePlays_wp script (· = true) := by
  unfold embrasurelaw18_VotePlays_wp
  refine awake_wp (cond_f rfl ?_)
  unfold vote_New_wp
  refine joinP4.i ?_
  refine ⟨fun n L N l now t i => L = l ∧ N = now ∧ OkB l now ∧ -1000 * i ≤ t ∧ t ≤ now ∧ 0 ≤ i ∧ i ≤ 150 ∧ n = 150 - i.toNat, ⟨150, rfl, rfl, ⟨by unfold okV; simp, by simp, by omega, by omega⟩, by omega, by omega, by omega, by omega, rfl⟩, ?_⟩
  rintro n _ _ l now t i ⟨rfl, rfl, hok, ht, htn, h0, h1, rfl⟩
  refine ⟨fun x => x = true → i < script.length ∧ i < 150, fun x hx => cond_b (fun e => ?_) (fun _ => rfl), ?_⟩
  rotate_left
  · exact cond_d (fun h => by simp only [decide_eq_true_eq]; exact fun h2 => ⟨h, h2⟩) (fun _ => by simp)
  obtain ⟨hlt, hi⟩ := hx e
  refine ⟨h0, hlt, fun x hx => ?_⟩
  obtain ⟨hw, hb, hh, hp⟩ := hs x (List.mem_of_getElem? hx)
  have hb := u32b hb; have hh := u32b hh; have hp := i64b hp
  refine ⟨fun t2 => -1000 * (i + 1) ≤ t2 ∧ t2 ≤ 1126999418470400, fun t2 ht2 => ?_, ?_⟩
  rotate_left
  · have n1 := hok.now1
    refine ⟨fun y => y = true → -1000 < x.1 ∧ x.1 < 1125899906842624, fun y hy => cond_b (fun e => ?_) (fun _ => by omega), ?_⟩
    · obtain ⟨a, b⟩ := hy e
      rw [wrap_i64 (by omega) (by omega)]
      omega
    · exact cond_d (fun h => by simp only [decide_eq_true_eq]; exact fun h2 => ⟨by omega, h2⟩) (fun _ => by simp)
  refine ⟨fun L N l now y => L = l ∧ N = now ∧ OkB l now ∧ y = false, fun L N l now y hy => ?_, ?_⟩
  · obtain ⟨rfl, rfl, hok, rfl⟩ := hy
    refine cond_f rfl ?_
    unfold embrasureref18_Box_All_wp
    have hok2 := hok.on t2
    refine ron_wp hok.ok (by have := hok.len; omega) (joinP3.i ?_)
    refine all_wp hok.ok (by have := hok.len; omega) ?_
    generalize onL (nowOn N t2) L = M at hok2 ⊢
    generalize nowOn N t2 = N2 at hok2 ⊢
    have hlen := hok2.len
    refine values_wp (fun k => (0, (k : Int))) rfl (fun k hk K' hK' => ?_) (by omega) ?_
    · refine ⟨rfl, joinP1.i (cond_f (by simp only [decide_eq_false_iff_not]; omega) ⟨by omega, by simp only []; omega, fun y hy => ?_⟩)⟩
      rw [show Int.toNat ((k : Nat) : Int) = k by omega, List.getElem?_eq_getElem hk] at hy
      cases hy
      refine cond_f (by simp) ?_
      rw [wrap_i64 (by omega) (by omega)]
      exact hK'
    · refine .inl ⟨rfl, cond_n (fun h => absurd rfl h) (fun _ => ?_)⟩
      rw [wrap_i64 (x := i + 1) (by omega) (by omega)]
      refine ⟨_, (by omega : 150 - (i + 1).toNat < 150 - i.toNat), rfl, rfl, hok2, ?_, ?_, by omega, by omega, rfl⟩
      · have := hok2.now0
        split <;> omega
      · split <;> omega
  · have key : ∀ (r : Int) (l2 : List Vo) (now2 : Int) (L2 : List Vo) (N2 : Int), OkB l2 now2 → L2 = l2 → N2 = now2 → cond ((r : Int) != r) ((fun L N l now y => L = l ∧ N = now ∧ OkB l now ∧ y = false) L2 N2 l2 now2 true)
        (vote_Box_Count_wp l2 now2 t2 x.2.2.1 x.2.2.2 (fun (r_3 : Int) list_5 (now_5 : Int) => embrasureref18_Box_Count_wp L2 N2 t2 x.2.2.1 x.2.2.2 (fun (r_4 : Int) L_4 (Now_4 : Int) => cond ((r_3 : Int) != r_4) ((fun L N l now y => L = l ∧ N = now ∧ OkB l now ∧ y = false) L_4 Now_4 list_5 now_5 true) (vote_Box_Held_wp list_5 now_5 t2 (fun rs list_6 (now_6 : Int) => embrasureref18_Box_Held_wp L_4 Now_4 t2 (fun rs_1 L_5 (Now_5 : Int) => embrasureref18_Addrs_wp rs rs_1 (fun (r_5 : Bool) => (fun L N l now y => L = l ∧ N = now ∧ OkB l now ∧ y = false) L_5 Now_5 list_6 now_6 (!r_5)))))))) := by
      rintro r l2 now2 _ _ hok rfl rfl
      have hl := hok.len
      refine cond_n (fun h => absurd rfl h) (fun _ => count_wp hok.ok (by omega) (rcount_wp hok.ok (by omega) (cond_n (fun h => absurd rfl h) (fun _ => ?_))))
      have hok := hok.on t2
      have hl := hok.len
      refine held_wp hok.ok (by omega) (fun zs hz => rheld_wp hok.ok (by omega) hz ?_)
      exact addrs_wp rfl (by rw [List.length_take]; omega) ⟨rfl, rfl, hok.on t2, rfl⟩
    refine cast_wp hok.ok hok.len (fun hbad => ?_) (fun hgood => ?_)
    · exact rcast_wp hok.ok hok.len hb hh.1 (fun _ => key 1 _ _ _ _ hok rfl rfl) (fun h => absurd hbad h)
    · exact rcast_wp hok.ok hok.len hb hh.1 (fun h => absurd h hgood) (fun _ => key 0 _ _ _ _ (hok.cast hgood) rfl rfl)

/-! ### VoteOld -/

theorem filter_one {f : Vo → Bool} {v : Vo} : [v].filter f = if f v then [v] else [] := by cases h : f v <;> simp [h]

theorem onL_one {n g h p t : Int} : onL n [(g, h, p, t)] = if t + 600 ≤ n then [] else [(g, h, p, t)] := by
  unfold onL dead
  rw [filter_one]
  by_cases e : t + 600 ≤ n <;> simp [e]

theorem cnt_one {g h p t : Int} {a : Ad} : cnt [(g, h, p, t)] a = if (h, p) = a then 1 else 0 := by
  unfold cnt adr
  rw [filter_one]
  by_cases e : (h, p) = a <;> simp [e]

theorem onL_two {n g h p t g2 h2 p2 t2 : Int} : onL n [(g, h, p, t), (g2, h2, p2, t2)] = (if t + 600 ≤ n then [] else [(g, h, p, t)]) ++ (if t2 + 600 ≤ n then [] else [(g2, h2, p2, t2)]) := by
  have : onL n [(g, h, p, t), (g2, h2, p2, t2)] = onL n [(g, h, p, t)] ++ onL n [(g2, h2, p2, t2)] := by
    unfold onL; rw [← List.filter_append]; rfl
  rw [this, onL_one, onL_one]

theorem cnt_app (l l2 : List Vo) (a : Ad) : cnt (l ++ l2) a = cnt l a + cnt l2 a := by unfold cnt; rw [List.filter_append, List.length_append]; omega

theorem voteOld_plain {b h1 p1 h2 p2 again : Int} (hb : inK .u32 b) (hh1 : inK .u32 h1) (hp1 : inK .i64 p1) (hh2 : inK .u32 h2) (hp2 : inK .i64 p2) (ha : inK .u16 again) : embrasurelaw18_VoteOld_wp b h1 p1 h2 p2 again (· = true) := by
  have hb := u32b hb; have ha := u16b ha
  unfold embrasurelaw18_VoteOld_wp
  refine awake_wp (cond_f rfl ?_)
  unfold vote_New_wp
  refine ⟨fun x => (x = true ↔ b = 0), fun x hx => cond_b (fun e => by simpa using hx.1 e) (fun e => ?_), cond_e (fun e => by simpa using e) (fun e => by simpa using e)⟩
  have hb0 : b ≠ 0 := fun h => by rw [hx.2 h] at e; cases e
  have ek : Int.tmod (IntKind.wrap .i64 again) 600 = again % 600 := by rw [wrap_i64 (by omega) (by omega), tmod_pos ha.1]
  rw [ek]
  have hk : 0 ≤ again % 600 ∧ again % 600 < 600 := by omega
  generalize again % 600 = k at hk ⊢
  have ok0 : okV [] := by unfold okV; simp
  have e0 : onL 0 [] = [] := rfl
  refine cast_wp ok0 (by simp) (fun hbad => cond_n (fun _ => count_wp ok0 (by simp) (by rw [show onL (nowOn 0 0) [] = [] from rfl, cnt_nil]; rfl)) (fun h => absurd h (by decide))) (fun hgood => cond_f rfl ?_)
  have c1 : castL (onL 0 []) (b / 65536) (h1, p1) 0 = [(b / 65536, h1, p1, 0)] := by unfold castL onL; simp
  rw [c1]
  have m1 : mayA h1 p1 := Classical.byContradiction fun h => hgood (.inr (.inl h))
  obtain ⟨g, hg⟩ : ∃ g, b / 65536 = g := ⟨_, rfl⟩
  rw [hg]
  have ok1 : okV [(g, h1, p1, 0)] := by
    unfold okV; intro v hv
    simp only [List.mem_cons, List.not_mem_nil, or_false] at hv
    subst hv
    simp
  rw [wrap_i64 (x := k + 599) (by omega) (by omega), wrap_i64 (x := k + 600) (by omega) (by omega)]
  have n0 : nowOn 0 k = k := nowOn_eq (by omega) (by omega)
  have nk : nowOn k k = k := nowOn_eq (by omega) (by omega)
  have nk9 : nowOn k (k + 599) = k + 599 := nowOn_eq (by omega) (by omega)
  have nk0 : nowOn (k + 599) (k + 600) = k + 600 := nowOn_eq (by omega) (by omega)
  have o1 : onL k [(g, h1, p1, 0)] = [(g, h1, p1, 0)] := by rw [onL_one, if_neg (by omega)]
  -- the second one
  refine cast_wp ok1 (by simp) (fun hbad => ?_) (fun hgood2 => ?_)
  · -- the other address is none
    have hno : ¬ mayA h2 p2 := by
      rcases hbad with h | h | h | h
      · omega
      · exact h
      · omega
      · omega
    refine cond_f ?_ ?_
    · rw [Bool.eq_false_iff]
      intro hc
      simp at hc
      rw [hc.1, hc.2] at m1
      exact hno m1
    refine joinP3.i (count_wp ok1 (by simp) ?_)
    rw [n0, o1]
    refine cond_f (by rw [cnt_one]; simp) (count_wp ok1 (by simp) ?_)
    rw [nk, o1]
    have hne : ¬ (h1, p1) = (h2, p2) := fun h => by rw [Prod.mk.injEq] at h; rw [h.1, h.2] at m1; exact hno m1
    refine cond_f (by rw [cnt_one, if_neg hne]; decide) (count_wp ok1 (by simp) ?_)
    have n9 : nowOn k 599 = 599 := nowOn_eq (by omega) (by omega)
    have n10 : nowOn 599 600 = 600 := by decide
    rw [n9, onL_one, if_neg (by omega)]
    refine cond_t (by rw [cnt_one]; simp) (count_wp ok1 (by simp) ?_)
    rw [n10, onL_one, if_pos (by omega)]
    exact cond_t (by rw [cnt_nil]; rfl) (cond_t (by decide) rfl)
  · by_cases hsame : (h1, p1) = (h2, p2)
    · -- the same address again
      rw [Prod.mk.injEq] at hsame
      obtain ⟨rfl, rfl⟩ := hsame
      refine cond_t (by simp) (cond_t (by decide) ?_)
      have c2 : castL (onL k [(g, h1, p1, 0)]) g (h1, p1) k = [(g, h1, p1, k)] := by
        rw [o1]
        unfold castL isP adr
        simp
      rw [hg, c2]
      have ok2 : okV [(g, h1, p1, k)] := by
        unfold okV; intro v hv
        simp only [List.mem_cons, List.not_mem_nil, or_false] at hv
        subst hv
        simp only []; omega
      refine count_wp ok2 (by simp) ?_
      rw [nk9, onL_one, if_neg (by omega)]
      refine cond_t (by rw [cnt_one]; simp) (count_wp ok2 (by simp) ?_)
      rw [nk0, onL_one, if_pos (by omega), cnt_nil]
      rfl
    · refine cond_f ?_ ?_
      · rw [Bool.eq_false_iff]
        intro hc
        simp at hc
        exact hsame (by rw [hc.1, hc.2])
      have c2 : castL (onL k [(g, h1, p1, 0)]) g (h2, p2) k = [(g, h1, p1, 0), (g, h2, p2, k)] := by
        rw [o1]
        unfold castL
        have : isP g (h2, p2) (g, h1, p1, 0) = false := by
          unfold isP adr
          simp only [decide_eq_false_iff_not]
          rintro ⟨-, h⟩
          exact hsame h
        rw [filter_one, this]
        simp
      rw [hg, c2]
      have ok2 : okV [(g, h1, p1, 0), (g, h2, p2, k)] := by
        unfold okV; intro v hv
        simp only [List.mem_cons, List.not_mem_nil, or_false] at hv
        rcases hv with rfl | rfl <;> simp only [] <;> omega
      have okb : okV [(g, h2, p2, k)] := by
        unfold okV; intro v hv
        simp only [List.mem_cons, List.not_mem_nil, or_false] at hv
        subst hv
        simp only []; omega
      have hs2 : ¬ (h2, p2) = (h1, p1) := fun h => hsame h.symm
      have ok9 : onL 599 [(g, h1, p1, 0), (g, h2, p2, k)] = [(g, h1, p1, 0), (g, h2, p2, k)] := by rw [onL_two, if_neg (by omega), if_neg (by omega)]; rfl
      have okk : onL k [(g, h1, p1, 0), (g, h2, p2, k)] = [(g, h1, p1, 0), (g, h2, p2, k)] := by rw [onL_two, if_neg (by omega), if_neg (by omega)]; rfl
      have k1 : cnt [(g, h1, p1, 0), (g, h2, p2, k)] (h1, p1) = 1 := by
        rw [show [(g, h1, p1, (0 : Int)), (g, h2, p2, k)] = [(g, h1, p1, 0)] ++ [(g, h2, p2, k)] from rfl, cnt_app, cnt_one, cnt_one, if_pos rfl, if_neg hs2]; rfl
      have k2 : cnt [(g, h1, p1, 0), (g, h2, p2, k)] (h2, p2) = 1 := by
        rw [show [(g, h1, p1, (0 : Int)), (g, h2, p2, k)] = [(g, h1, p1, 0)] ++ [(g, h2, p2, k)] from rfl, cnt_app, cnt_one, cnt_one, if_neg hsame, if_pos rfl]; rfl
      refine joinP3.i (count_wp ok2 (by simp) ?_)
      rw [nk, okk, k1]
      refine cond_f (by decide) (count_wp ok2 (by simp) ?_)
      rw [nk, okk, k2]
      refine cond_f (by decide) (count_wp ok2 (by simp) ?_)
      have n9 : nowOn k 599 = 599 := nowOn_eq (by omega) (by omega)
      have n10 : nowOn 599 600 = 600 := by decide
      rw [n9, ok9, k1]
      refine cond_t (by decide) (count_wp ok2 (by simp) ?_)
      rw [n10, onL_two, if_pos (by omega), List.nil_append]
      by_cases hk0 : k = 0
      · subst hk0
        rw [if_pos (by omega)]
        exact cond_t (by rw [cnt_nil]; rfl) (cond_f rfl (count_wp ok0 (by simp) (by rw [show onL (nowOn 600 (0 + 599)) [] = [] from rfl, cnt_nil]; exact cond_f rfl rfl)))
      · rw [if_neg (by omega)]
        refine cond_t (by rw [cnt_one, if_neg hs2]; decide) (cond_f (by decide) (count_wp okb (by simp) ?_))
        have n11 : nowOn 600 (k + 599) = k + 599 := nowOn_eq (by omega) (by omega)
        rw [n11, onL_one, if_neg (by omega)]
        refine cond_t (by rw [cnt_one]; simp) (count_wp okb (by simp) ?_)
        rw [nk0, onL_one, if_pos (by omega)]
        exact cond_t (by rw [cnt_nil]; rfl) rfl

end Go.Proofs.Ytgcodbcfcaacgaa
