/- What the document's box answers: In, Ask, Drop, All; and the program's own Drop. -/
import Derived.Test.YthhbnjcebmhilaaR2
namespace Go.Proofs.Ythhbnjcebmhilaa
open Go Go.Eng

theorem port_uniq {rs : List BX} (h : Good rs) (p : Int) : ∀ x ∈ rs, ∀ y ∈ rs, portIs p x = true → portIs p y = true → x = y := by
  intro x hx y hy h1 h2
  refine h.port x hx y hy ?_
  unfold portIs at h1 h2
  rw [beq_iff_eq] at h1 h2
  unfold prt
  omega

/-- Who is seen lets one in. -/
def seenG (fi fh fp : Int) (a : Int × Int) : Bool := ((a.1 == fh) && ((a.2 == fp) && true)) || ((fi == 1) && (a.1 == fh))

theorem letsB_eq (fi : Int) (x : BX) (fh fp : Int) : letsB fi x fh fp = (x.2.2.2.2.2.2.1 || (fi == 0) || x.2.2.2.2.2.2.2.any (seenG fi fh fp)) := by
  unfold letsB
  congr 1
  by_cases e : fi = 1
  · rw [if_pos e]
    congr 1
    funext a
    unfold seenG
    rw [e]
    cases h : a.1 == fh <;> simp
  · rw [if_neg e]
    congr 1
    funext a
    unfold seenG
    have : (fi == 1) = false := by simpa using e
    rw [this]
    have h1 : (fh == a.1) = (a.1 == fh) := by rw [Bool.eq_iff_iff, beq_iff_eq, beq_iff_eq]; exact eq_comm
    have h2 : (fp == a.2) = (a.2 == fp) := by rw [Bool.eq_iff_iff, beq_iff_eq, beq_iff_eq]; exact eq_comm
    rw [h1, h2]
    simp

theorem natIn_found {fi port fh fp : Int} {bs : List BX} {x : BX} {i : Nat} (h1 : bs.findIdx? (portIs port) = some i) (h2 : bs[i]? = some x) : natIn fi bs port fh fp = if letsB fi x fh fp then (x.1, x.2.1, 0) else (0, 0, 8) := by
  unfold natIn
  rw [h1]
  simp only
  rw [h2]

theorem rin_wp {h lo hi mp fi li mo now t port fh fp : Int} {L : List RX} {m : MP} {bs rs : List BX} {K : Int → Int → Int → List RX → Int → Prop} (hr : All2 (RQ m) L rs) (hs : Sim bs rs) (hb : L.length ≤ 100000) (hf0 : 0 ≤ fh)
    (h1 : ¬ (mayP fh fp ∧ now ≤ t ∧ t ≤ 1099511627776) → K 0 0 1 L now)
    (h2 : mayP fh fp ∧ now ≤ t ∧ t ≤ 1099511627776 → ∀ L', All2 (RQ m) L' (live t rs) → K (natIn fi (live t bs) port fh fp).1 (natIn fi (live t bs) port fh fp).2.1 (natIn fi (live t bs) port fh fp).2.2 L' t) :
    embrasureref08_Nat_In_wp h lo hi mp fi li mo L now t port fh fp m K := by
  unfold embrasureref08_Nat_In_wp
  refine ⟨fun L' n' x => (x = true ∧ L' = L ∧ n' = now ∧ ¬ (mayP fh fp ∧ now ≤ t ∧ t ≤ 1099511627776)) ∨ (x = false ∧ n' = t ∧ All2 (RQ m) L' (live t rs) ∧ L'.length ≤ L.length ∧ (mayP fh fp ∧ now ≤ t ∧ t ≤ 1099511627776)), ?_, ?_⟩
  · rintro L' n' x (⟨rfl, rfl, rfl, hc⟩ | ⟨rfl, rfl, hr', hlen, hc⟩)
    · exact cond_t rfl (h1 hc)
    refine cond_f rfl ?_
    have h2 := h2 hc L' hr'
    have S := hs.live n'
    have hlr := hr'.length
    refine joinP0.i ⟨fun n i => 0 ≤ i ∧ i ≤ L'.length ∧ n = L'.length - i.toNat ∧ ∀ (j : Nat) z, j < i.toNat → (live n' rs)[j]? = some z → portIs port z = true → letsB fi z fh fp = false, ⟨_, by omega, by omega, rfl, fun j z hj => by omega⟩, ?_⟩
    rintro n i ⟨i0, i1, rfl, hno⟩
    refine cond_d (fun hlt => ?_) (fun hge => ?_)
    · have hi' : i.toNat < L'.length := by omega
      refine ⟨i0, hlt, fun r hrr => ?_⟩
      obtain ⟨x, hx, hq⟩ := hr'.get i.toNat r hrr
      obtain ⟨xs, ex, hph, hxl⟩ := hq
      have hmem : x ∈ live n' rs := List.mem_of_getElem? hx
      have hsn : xs.length ≤ 16 := by
        have := S.sn x (S.pm.mem_iff.2 hmem)
        rw [ex] at this
        exact this
      have goon : (portIs port x = true → letsB fi x fh fp = false) → ∃ (n_5 : Nat), n_5 < L'.length - i.toNat ∧ (0 ≤ (IntKind.wrap .i64 (i + 1)) ∧ (IntKind.wrap .i64 (i + 1)) ≤ L'.length ∧ n_5 = L'.length - (IntKind.wrap .i64 (i + 1)).toNat ∧ ∀ (j : Nat) z, j < (IntKind.wrap .i64 (i + 1)).toNat → (live n' rs)[j]? = some z → portIs port z = true → letsB fi z fh fp = false) := by
        intro hx2
        rw [wrap_i64 (x := i + 1) (by omega) (by omega)]
        refine ⟨_, ?_, by omega, by omega, rfl, fun j z hj hz hp => ?_⟩
        · omega
        · by_cases ej : j = i.toNat
          · subst ej
            rw [hx] at hz
            cases hz
            exact hx2 hp
          · exact hno j z (by omega) hz hp
      refine cond_n (fun hne => goon (fun hp => ?_)) (fun heq => ?_)
      · rw [ex] at hp
        unfold portIs at hp
        rw [beq_iff_eq] at hp
        exact absurd hp hne
      · have hport : portIs port x = true := by rw [ex]; unfold portIs; rw [beq_iff_eq]; exact heq
        refine ⟨fun ok => ok = (r.2.2.2.2.2.2.1 || (fi == 0)), ?_, ?_⟩
        · rintro ok rfl
          refine ⟨fun ok => ok = letsB fi x fh fp, ?_, ?_⟩
          · rintro ok rfl
            refine cond_b (fun e1 => ?_) (fun e1 => goon (fun _ => e1))
            obtain ⟨i', j', x', f1, f2, f3, f4, f5⟩ : ∃ i j x, (live n' bs).findIdx? (portIs port) = some i ∧ (live n' rs).findIdx? (portIs port) = some j ∧ (live n' bs)[i]? = some x ∧ (live n' rs)[j]? = some x ∧ portIs port x = true := by
              rcases find_sim S.pm (port_uniq S.gd port) with ⟨-, g2⟩ | g
              · rw [List.findIdx?_eq_none_iff] at g2
                rw [g2 x hmem] at hport
                cases hport
              · exact g
            have exx : x' = x := port_uniq S.gd port x' (List.mem_of_getElem? f4) x hmem f5 hport
            subst exx
            rw [natIn_found f1 f3, if_pos e1] at h2
            have ea : x'.1 = r.1 := by rw [ex]
            have eb : x'.2.1 = r.2.1 := by rw [ex]
            rw [ea, eb] at h2
            exact h2
          · have hl : letsB fi x fh fp = (r.2.2.2.2.2.2.1 || (fi == 0) || xs.any (seenG fi fh fp)) := by
              rw [letsB_eq, ex]
            rw [hl]
            refine ⟨fun n ok k => 0 ≤ k ∧ k ≤ xs.length ∧ n = xs.length - k.toNat ∧ ok = (r.2.2.2.2.2.2.1 || (fi == 0) || (xs.take k.toNat).any (seenG fi fh fp)), ⟨_, by omega, by omega, rfl, by simp⟩, ?_⟩
            rintro n ok k ⟨k0, k1, rfl, rfl⟩
            refine cond_d (fun hlt => ?_) (fun hge => ?_)
            · have hk : k.toNat < xs.length := by omega
              have ek : (k + 1).toNat = k.toNat + 1 := by omega
              have hst : ∀ b, seenG fi fh fp xs[k.toNat] = b → ((r.2.2.2.2.2.2.1 || (fi == 0) || (xs.take (k.toNat + 1)).any (seenG fi fh fp)) = (r.2.2.2.2.2.2.1 || (fi == 0) || (xs.take k.toNat).any (seenG fi fh fp) || b)) := by
                intro b hb
                rw [List.take_succ_eq_append_getElem hk, List.any_append]
                simp only [List.any_cons, List.any_nil, Bool.or_false]
                rw [hb, Bool.or_assoc, Bool.or_assoc, Bool.or_assoc]
              have step : ∀ ok', ok' = (r.2.2.2.2.2.2.1 || (fi == 0) || (xs.take (k.toNat + 1)).any (seenG fi fh fp)) → ∃ (n_7 : Nat), n_7 < xs.length - k.toNat ∧ (0 ≤ (IntKind.wrap .i64 (k + 1)) ∧ (IntKind.wrap .i64 (k + 1)) ≤ xs.length ∧ n_7 = xs.length - (IntKind.wrap .i64 (k + 1)).toNat ∧ ok' = (r.2.2.2.2.2.2.1 || (fi == 0) || (xs.take (IntKind.wrap .i64 (k + 1)).toNat).any (seenG fi fh fp))) := by
                intro ok' hok
                rw [wrap_i64 (x := k + 1) (by omega) (by omega), ek]
                exact ⟨_, by omega, by omega, by omega, rfl, hok⟩
              refine ⟨xs, hph, k0, hlt, fun y hy => ?_⟩
              rw [List.getElem?_eq_getElem hk] at hy
              cases hy
              refine cond_b (fun e1 => step _ ?_) (fun e1 => cond_e (fun ef => ⟨xs, hph, k0, hlt, fun y hy => ?_⟩) (fun nf => step _ ?_))
              · rw [hst true (by unfold seenG; rw [e1]; rfl)]
                simp
              · rw [List.getElem?_eq_getElem hk] at hy
                cases hy
                refine cond_e (fun eh => step _ ?_) (fun nh => step _ ?_)
                · rw [hst true (by unfold seenG; rw [e1, ef, eh]; simp)]
                  simp
                · have : (xs[k.toNat].1 == fh) = false := by simpa using nh
                  rw [hst false (by unfold seenG; rw [e1, this]; simp)]
                  simp
              · have : (fi == 1) = false := by simpa using nf
                rw [hst false (by unfold seenG; rw [e1, this]; simp)]
                simp
            · rw [List.take_of_length_le (by omega)]
        · refine cond_b (fun e => ?_) (fun e => ?_)
          · rw [e]; rfl
          · rw [e]; rfl
    · rcases find_sim S.pm (port_uniq S.gd port) with ⟨g1, -⟩ | ⟨i', j', x', f1, f2, f3, f4, f5⟩
      · have : natIn fi (live n' bs) port fh fp = (0, 0, 8) := by unfold natIn; rw [g1]
        rw [this] at h2
        exact h2
      · have hj : j' < L'.length := by
          have := (List.getElem?_eq_some_iff.1 f4).1
          omega
        rw [natIn_found f1 f3, hno j' x' (by omega) f4 f5] at h2
        exact h2
  · refine rmay_wp hf0 ?_
    by_cases m1 : mayP fh fp
    · rw [decide_eq_true m1]
      refine cond_f rfl (ron_wp hr (by omega) (fun hc => ?_) (fun hc L' hr' hl' => ?_))
      · exact .inl ⟨rfl, rfl, rfl, fun hx => hc hx.2⟩
      · exact .inr ⟨rfl, rfl, hr', hl', m1, hc⟩
    · rw [decide_eq_false m1]
      exact cond_t rfl (.inl ⟨rfl, rfl, rfl, fun hx => m1 hx.1⟩)

theorem rask_wp {h lo hi mp fi li mo now t ih ip wish u : Int} {L : List RX} {m : MP} {bs rs : List BX} {K : Int → Int → List RX → Int → Prop} (hr : All2 (RQ m) L rs) (hs : Sim bs rs) (hb : L.length ≤ 100000) (hlo : 1 ≤ lo) (hhi : hi ≤ 65535) (hi0 : 0 ≤ ih)
    (h1 : ¬ (mayP ih ip ∧ t < u ∧ u ≤ 1099511627776 ∧ now ≤ t ∧ t ≤ 1099511627776) → K 0 1 L now)
    (h2 : mayP ih ip ∧ t < u ∧ u ≤ 1099511627776 ∧ now ≤ t ∧ t ≤ 1099511627776 → ∀ L' rs', All2 (RQ m) L' rs' → Sim (natAsk lo hi mo (live t bs) ih ip wish u).2 rs' → K (natAsk lo hi mo (live t bs) ih ip wish u).1.1 (natAsk lo hi mo (live t bs) ih ip wish u).1.2 L' t) :
    embrasureref08_Nat_Ask_wp h lo hi mp fi li mo L now t ih ip wish u K := by
  unfold embrasureref08_Nat_Ask_wp
  refine ⟨fun L' n' x => (x = true ∧ L' = L ∧ n' = now ∧ ¬ (mayP ih ip ∧ t < u ∧ u ≤ 1099511627776 ∧ now ≤ t ∧ t ≤ 1099511627776)) ∨ (x = false ∧ n' = t ∧ All2 (RQ m) L' (live t rs) ∧ L'.length ≤ L.length ∧ (mayP ih ip ∧ t < u ∧ u ≤ 1099511627776 ∧ now ≤ t ∧ t ≤ 1099511627776)), ?_, ?_⟩
  · rintro L' n' x (⟨rfl, rfl, rfl, hc⟩ | ⟨rfl, rfl, hr', hlen, hc⟩)
    · exact cond_t rfl (h1 hc)
    refine cond_f rfl ?_
    have h2 := h2 hc
    have S := hs.live n'
    have hlr := hr'.length
    have hlb := S.pm.length_eq
    refine rfind_wp hr' (by omega) ?_
    have fin : ∀ (L4 : List RX) (rs4 bs4 : List BX) (k : Nat) (r : RX) (x : BX) (port : Int), L4[k]? = some r → RQ m r x → port = prt x → (∀ L'', All2 (RQ m) L'' (rs4.set k (setU u x)) → K port 0 L'' n') → All2 (RQ m) L4 rs4 →
        cond (decide ((k : Int) < 0)) (K 0 10 L4 n') (0 ≤ (k : Int) ∧ (k : Int) < ((L4.length : Nat) : Int) ∧ (∀ (x_1 : RX), L4[Int.toNat (k : Int)]? = some x_1 → (0 ≤ (k : Int) ∧ (k : Int) < ((L4.length : Nat) : Int) ∧ (∀ (x_2 : RX), (List.set L4 (Int.toNat (k : Int)) (x_1.1, x_1.2.1, x_1.2.2.1, x_1.2.2.2.1, x_1.2.2.2.2.1, u, x_1.2.2.2.2.2.2.1, x_1.2.2.2.2.2.2.2))[Int.toNat (k : Int)]? = some x_2 → (K x_2.2.2.2.2.1 0 (List.set L4 (Int.toNat (k : Int)) (x_1.1, x_1.2.1, x_1.2.2.1, x_1.2.2.2.1, x_1.2.2.2.2.1, u, x_1.2.2.2.2.2.2.1, x_1.2.2.2.2.2.2.2)) n'))))) := by
      intro L4 rs4 bs4 k r x port hL hq hpx hK ha
      obtain ⟨hk, hg⟩ := List.getElem?_eq_some_iff.1 hL
      have ek : ((k : Int)).toNat = k := by omega
      refine cond_d (fun hx => by omega) (fun _ => ⟨by omega, by omega, fun r1 hr1 => ⟨by omega, by omega, fun r2 hr2 => ?_⟩⟩)
      rw [ek] at hr1 hr2 ⊢
      rw [hL] at hr1
      cases hr1
      rw [List.getElem?_set_self hk] at hr2
      cases hr2
      obtain ⟨xs, ex, hph, hxl⟩ := hq
      have : port = r.2.2.2.2.1 := by rw [hpx, ex]; rfl
      rw [this] at hK
      refine hK _ (all2_set ha k ⟨xs, ?_, hph, hxl⟩)
      rw [ex]
      rfl
    rcases find_sim S.pm (asked_uniq S.gd ih ip) with ⟨e1, e2⟩ | ⟨i, j, x, e1, e2, e3, e4, -⟩
    · have ei : idxR (findR true ih ip 0 0) (live n' rs) = -1 := idxR_no e2
      rw [ei]
      refine ⟨fun L4 i => (i = -1 ∧ L4 = L' ∧ (chooseP lo hi wish (live n' rs) = none ∨ mo ≤ (live n' rs).length)) ∨ (∃ (p : Int) (k : Nat), i = k ∧ chooseP lo hi wish (live n' rs) = some p ∧ ((live n' rs).length : Int) < mo ∧ k ≤ L'.length ∧ (∀ (j : Nat) x, j < k → (live n' rs)[j]? = some x → prt x < p) ∧ (∀ x, (live n' rs)[k]? = some x → ¬ prt x < p) ∧ L4 = L'.take k ++ [nilB ih ip 0 0 p 0 true] ++ L'.drop k), ?_, ?_⟩
      · rintro L4 i (⟨rfl, rfl, hfull⟩ | ⟨p, k, rfl, hch, hmo, hk, hlt, hge, rfl⟩)
        · refine cond_t rfl ?_
          have en : natAsk lo hi mo (live n' bs) ih ip wish u = ((0, 10), live n' bs) := by
            unfold natAsk
            rw [e1]
            simp only
            rcases hfull with hf | hf
            · rw [choose_perm S.pm, hf]
            · cases chooseP lo hi wish (live n' bs) with
              | none => rfl
              | some p => simp only; rw [if_neg (by omega)]
          rw [en] at h2
          exact h2 _ _ hr' S
        · have hch' : chooseP lo hi wish (live n' bs) = some p := by rw [choose_perm S.pm]; exact hch
          have en : natAsk lo hi mo (live n' bs) ih ip wish u = ((p, 0), live n' bs ++ [(ih, ip, 0, 0, p, u, true, [])]) := by
            unfold natAsk
            rw [e1, hch']
            simp only
            rw [if_pos (by omega)]
          rw [en] at h2
          have hq0 : RQ m (nilB ih ip 0 0 p 0 true) (ih, ip, 0, 0, p, 0, true, []) := ⟨[], rfl, PH.nil, rfl⟩
          refine fin _ ((live n' rs).take k ++ [(ih, ip, 0, 0, p, 0, true, [])] ++ (live n' rs).drop k) [] k _ _ p (ins_get hk) hq0 rfl (fun L'' ha => ?_) (all2_ins hr' k hq0)
          rw [ins_set (by omega)] at ha
          refine h2 _ _ ha ?_
          refine Sim.ins S (by omega) ?_ (fun z hz => ?_) (Nat.zero_le _) hlt hge
          · exact (choose_some hch').2.2
          · exact asked_none_key e2 z hz
      · refine cond_t rfl ?_
        exact rput_wp hr' (by omega) hlo hhi (fun hf => .inl ⟨rfl, rfl, hf⟩) (fun p k hch hmo hk hlt hge => .inr ⟨p, k, rfl, hch, hmo, hk, hlt, hge, rfl⟩)
    · have ei : idxR (findR true ih ip 0 0) (live n' rs) = j := idxR_asked e2
      rw [ei]
      obtain ⟨r, hrL, hq⟩ := hr'.get' j x e4
      have en : natAsk lo hi mo (live n' bs) ih ip wish u = ((prt x, 0), (live n' bs).set i (setU u x)) := by
        unfold natAsk
        rw [e1]
        simp only
        rw [e3]
        rfl
      rw [en] at h2
      refine ⟨fun L4 ii => L4 = L' ∧ ii = (j : Int), ?_, cond_d (fun hx => by omega) (fun _ => ⟨rfl, rfl⟩)⟩
      rintro L4 ii ⟨rfl, rfl⟩
      refine fin L4 (live n' rs) [] j r x (prt x) hrL hq rfl (fun L'' ha => h2 _ _ ha (S.set e3 e4 rfl rfl ?_)) hr'
      exact S.sn x (List.mem_of_getElem? e3)
  · refine rmay_wp hi0 ?_
    by_cases m1 : mayP ih ip
    · rw [decide_eq_true m1]
      refine cond_f rfl (cond_d (fun hx => ?_) (fun hx => cond_d (fun hy => ?_) (fun hy => ?_)))
      · exact .inl ⟨rfl, rfl, rfl, fun hz => by omega⟩
      · exact .inl ⟨rfl, rfl, rfl, fun hz => by omega⟩
      · refine ron_wp hr (by omega) (fun hc => ?_) (fun hc L' hr' hl' => ?_)
        · exact .inl ⟨rfl, rfl, rfl, fun hz => hc hz.2.2.2⟩
        · exact .inr ⟨rfl, rfl, hr', hl', m1, by omega, by omega, hc⟩
    · rw [decide_eq_false m1]
      exact cond_t rfl (.inl ⟨rfl, rfl, rfl, fun hx => m1 hx.1⟩)

/-- A binding that was asked for is gone. -/
def natDrop (bs : List BX) (ih ip : Int) : Bool × List BX := match bs.findIdx? (isAsked ih ip) with
  | some i => (true, bs.eraseIdx i)
  | none => (false, bs)

theorem filter_ne {α : Type} [DecidableEq α] : ∀ {l : List α} {i : Nat} {p : α}, l.Nodup → l[i]? = some p → l.filter (fun x => !(decide (x = p))) = l.eraseIdx i
  | a :: l, 0, p, h, hp => by
    have : a = p := Option.some.inj hp
    subst this
    rw [List.filter_cons_of_neg (by simp)]
    rw [List.nodup_cons] at h
    rw [List.eraseIdx_cons_zero, List.filter_eq_self]
    intro x hx
    have : x ≠ a := fun e => h.1 (e ▸ hx)
    simpa using this
  | a :: l, i + 1, p, h, hp => by
    rw [List.nodup_cons] at h
    have hp' : l[i]? = some p := hp
    have hne : a ≠ p := fun e => h.1 (e ▸ List.mem_of_getElem? hp')
    rw [List.filter_cons_of_pos (by simpa using hne), filter_ne h.2 hp', List.eraseIdx_cons_succ]

theorem drop_wp {h lo hi mp fi li mo now t ih ip : Int} {l : List (Option Nat)} {m : SB} {bs : List BX} {K : Bool → List (Option Nat) → Int → Prop} (hr : Rep m l bs) (hb : bs.length ≤ 100000)
    (h1 : ¬ (now ≤ t ∧ t ≤ 1099511627776) → K false l now)
    (h2 : now ≤ t ∧ t ≤ 1099511627776 → ∀ l', Rep m l' (natDrop (live t bs) ih ip).2 → (∀ p ∈ l', p ∈ l) → K (natDrop (live t bs) ih ip).1 l' t) :
    nat_Nat_Drop_wp h lo hi mp fi li mo l now t ih ip m K := by
  unfold nat_Nat_Drop_wp
  refine on_wp hr (by omega) (fun hc => cond_t rfl (h1 hc)) (fun hc l' hr' hsub => cond_f rfl ?_)
  have h2 := h2 hc
  have hfl : (live t bs).length ≤ bs.length := List.length_filter_le _ _
  have hlen := hr'.all.length
  have hlive : ∀ p ∈ l', ∃ b, p = some b ∧ ∃ x, getS m b = some x := fun p hp => by
    obtain ⟨x, -, b, e, hx⟩ := hr'.all.mem hp
    exact ⟨b, e, x, hx⟩
  have del : ∀ (b : Option Nat) (K' : List (Option Nat) → Unit → Prop), (∀ q, b = some q → ∃ x, getS m q = some x) → K' (l'.filter fun x => !(decide (x = b))) () → slices_DeleteFunc_nat_bound_nat_bound_wp l' () (fun x_1 s K_1 => nat_Nat_Drop_c1_wp x_1 b m (fun (r : Bool) => K_1 r s)) K' := fun b K' hbl hK => by
    refine delP_wp (fun x => decide (x = b)) (fun x hx K2 hK2 => ?_) (by omega) hK
    unfold nat_Nat_Drop_c1_wp
    refine ⟨fun p q e1 e2 => .inr ⟨?_, hbl q e2⟩, hK2⟩
    obtain ⟨c, e, hh⟩ := hlive x hx
    rw [e] at e1
    cases e1
    exact hh
  refine asked_wp hr' (by omega) (fun hn => ?_) (fun i p x hi hp hx hpx => ?_)
  · have en : natDrop (live t bs) ih ip = (false, live t bs) := by unfold natDrop; rw [hn]
    rw [en] at h2
    refine del none _ (fun q e => by cases e) ?_
    have ef : l'.filter (fun x => !(decide (x = (none : Option Nat)))) = l' := by
      rw [List.filter_eq_self]
      intro x hx
      obtain ⟨b, e, -⟩ := hlive x hx
      subst e
      rfl
    rw [ef]
    exact h2 l' hr' hsub
  · have en : natDrop (live t bs) ih ip = (true, (live t bs).eraseIdx i) := by unfold natDrop; rw [hi]
    rw [en] at h2
    obtain ⟨b, rfl, hbx⟩ := hpx
    refine del (some b) _ (fun q e => by cases e; exact ⟨x, hbx⟩) ?_
    rw [filter_ne hr'.nd hp]
    exact h2 _ ⟨all2_erase hr'.all i, hr'.nd.sublist (List.eraseIdx_sublist _ _)⟩ (fun q hq => hsub q (List.mem_of_mem_eraseIdx hq))

theorem rdrop_wp {h lo hi mp fi li mo now t ih ip : Int} {L : List RX} {m : MP} {bs rs : List BX} {K : Bool → List RX → Int → Prop} (hr : All2 (RQ m) L rs) (hs : Sim bs rs) (hb : L.length ≤ 100000)
    (h1 : ¬ (now ≤ t ∧ t ≤ 1099511627776) → K false L now)
    (h2 : now ≤ t ∧ t ≤ 1099511627776 → ∀ L' rs', All2 (RQ m) L' rs' → Sim (natDrop (live t bs) ih ip).2 rs' → K (natDrop (live t bs) ih ip).1 L' t) :
    embrasureref08_Nat_Drop_wp h lo hi mp fi li mo L now t ih ip K := by
  unfold embrasureref08_Nat_Drop_wp
  refine ron_wp hr (by omega) (fun hc => cond_t rfl (h1 hc)) (fun hc L' hr' hl' => cond_f rfl ?_)
  have h2 := h2 hc
  have S := hs.live t
  have hlr := hr'.length
  refine rfind_wp hr' (by omega) ?_
  rcases find_sim S.pm (asked_uniq S.gd ih ip) with ⟨e1, e2⟩ | ⟨i, j, x, e1, e2, e3, e4, -⟩
  · have ei : idxR (findR true ih ip 0 0) (live t rs) = -1 := idxR_no e2
    rw [ei]
    have en : natDrop (live t bs) ih ip = (false, live t bs) := by unfold natDrop; rw [e1]
    rw [en] at h2
    exact cond_t rfl (h2 _ _ hr' S)
  · have ei : idxR (findR true ih ip 0 0) (live t rs) = j := idxR_asked e2
    rw [ei]
    have en : natDrop (live t bs) ih ip = (true, (live t bs).eraseIdx i) := by unfold natDrop; rw [e1]
    rw [en] at h2
    have hj : j < (live t rs).length := (List.getElem?_eq_some_iff.1 e4).1
    refine cond_d (fun hx => by omega) (fun _ => ?_)
    rw [wrap_i64 (x := (j : Int) + 1) (by omega) (by omega)]
    have ej : ((j : Int)).toNat = j := by omega
    have ej1 : ((j : Int) + 1).toNat = j + 1 := by omega
    rw [ej, ej1]
    refine ⟨by omega, by omega, by omega, by omega, by simp; omega, by simp; omega, ?_⟩
    have e : (([] : List RX) ++ ((L'.take j).drop 0)) ++ ((L'.take L'.length).drop (j + 1)) = L'.eraseIdx j := by
      rw [List.eraseIdx_eq_take_drop_succ]
      simp
    rw [e]
    exact h2 _ _ (all2_erase hr' j) (S.del e3 e4)

theorem rall_wp {h lo hi mp fi li mo now t : Int} {L : List RX} {m : MP} {rs : List BX} {K : List BI → List RX → Int → Prop} (hr : All2 (RQ m) L rs) (hb : L.length ≤ 100000)
    (h1 : ¬ (now ≤ t ∧ t ≤ 1099511627776) → K [] L now)
    (h2 : now ≤ t ∧ t ≤ 1099511627776 → ∀ L', All2 (RQ m) L' (live t rs) → K ((live t rs).map bi) L' t) :
    embrasureref08_Nat_All_wp h lo hi mp fi li mo L now t K := by
  unfold embrasureref08_Nat_All_wp
  refine ron_wp hr (by omega) (fun hc => cond_t rfl (h1 hc)) (fun hc L' hr' hl' => cond_f rfl ?_)
  have h2 := h2 hc L' hr'
  have hlr := hr'.length
  refine ⟨fun n out i => 0 ≤ i ∧ i ≤ L'.length ∧ n = L'.length - i.toNat ∧ out = ((live t rs).take i.toNat).map bi, ⟨_, by omega, by omega, rfl, rfl⟩, ?_⟩
  rintro n out i ⟨i0, i1, rfl, rfl⟩
  refine cond_d (fun hlt => ?_) (fun hge => ?_)
  · have hi2 : i.toNat < (live t rs).length := by omega
    refine ⟨i0, hlt, fun r hrr => ?_⟩
    obtain ⟨x, hx, hq⟩ := hr'.get i.toNat r hrr
    obtain ⟨xs, ex, -⟩ := hq
    rw [wrap_i64 (x := i + 1) (by omega) (by omega)]
    have ek : (i + 1).toNat = i.toNat + 1 := by omega
    refine ⟨by simp only [List.length_map, List.length_take, List.length_singleton]; omega, _, ?_, by omega, by omega, rfl, ?_⟩
    · omega
    · rw [ek, List.take_add_one, hx, List.map_append]
      congr 1
      rw [ex]
      rfl
  · rw [List.take_of_length_le (by omega)] 
    exact h2

theorem same_wp {a : List BI} {K : Bool → Prop} (hl : a.length ≤ 1000000) (h : K true) : embrasureref08_Same_wp a a K := by
  unfold embrasureref08_Same_wp
  refine cond_n (fun hx => absurd rfl hx) (fun _ => ?_)
  refine ⟨fun n i => 0 ≤ i ∧ i ≤ a.length ∧ n = a.length - i.toNat, ⟨_, by omega, by omega, rfl⟩, ?_⟩
  rintro n i ⟨h0, h1, rfl⟩
  refine cond_d (fun hlt => ?_) (fun _ => h)
  refine ⟨h0, hlt, fun x hx => ⟨h0, hlt, fun y hy => ?_⟩⟩
  rw [hx] at hy
  cases hy
  simp only [beq_self_eq_true, Bool.and_true, Bool.not_true, cond_false]
  rw [wrap_i64 (x := i + 1) (by omega) (by omega)]
  exact ⟨_, by omega, by omega, by omega, rfl⟩

theorem natOut_len {h lo hi mp li mo t ih ip th tp : Int} {bs : List BX} : (natOut h lo hi mp li mo bs t ih ip th tp).2.length ≤ bs.length + 1 := by
  unfold natOut
  split
  · split <;> simp
  · split
    · split <;> simp
    · simp

theorem natAsk_len {lo hi mo ih ip wish u : Int} {bs : List BX} : (natAsk lo hi mo bs ih ip wish u).2.length ≤ bs.length + 1 := by
  unfold natAsk
  split
  · split <;> simp
  · split
    · split <;> simp
    · simp

theorem natDrop_len {ih ip : Int} {bs : List BX} : (natDrop bs ih ip).2.length ≤ bs.length := by
  unfold natDrop
  split
  · exact List.length_eraseIdx_le _ _
  · exact Nat.le_refl _

theorem live_len {t : Int} {bs : List BX} : (live t bs).length ≤ bs.length := List.length_filter_le _ _

theorem rmayBox_wp {h lo hi mp fi li mo : Int} {K : Bool → Prop} (hK : K (decide (mayB h lo hi mp fi li mo))) : embrasureref08_May_wp h lo hi mp fi li mo K := by
  unfold embrasureref08_May_wp
  have no : ¬ mayB h lo hi mp fi li mo → K false := fun hn => by rw [decide_eq_false hn] at hK; exact hK
  refine joinP1.i (cond_e (fun e => no (fun hm => hm.1 e)) (fun e1 => ?_))
  refine cond_d (fun e => no (fun hm => by have := hm.2.1; omega)) (fun e2 => ?_)
  refine cond_d (fun e => no (fun hm => by have := hm.2.1; omega)) (fun e3 => ?_)
  refine cond_d (fun e => no (fun hm => by have := hm.2.1; omega)) (fun e4 => ?_)
  refine cond_d (fun e => no (fun hm => by have := hm.2.2.1; omega)) (fun e5 => ?_)
  refine cond_d (fun e => no (fun hm => by have := hm.2.2.1; omega)) (fun e6 => ?_)
  refine cond_d (fun e => no (fun hm => by have := hm.2.2.2.1; omega)) (fun e7 => ?_)
  refine cond_d (fun e => no (fun hm => by have := hm.2.2.2.1; omega)) (fun e8 => ?_)
  refine cond_d (fun e9 => ?_) (fun e => no (fun hm => by have := hm.2.2.2.2.1; omega))
  refine cond_d (fun e10 => ?_) (fun e => no (fun hm => by have := hm.2.2.2.2.1; omega))
  refine cond_d (fun e11 => ?_) (fun e => no (fun hm => by have := hm.2.2.2.2.2; omega))
  by_cases e12 : mo ≤ 100
  · rw [decide_eq_true e12]
    rw [decide_eq_true (show mayB h lo hi mp fi li mo from ⟨e1, ⟨by omega, by omega, by omega⟩, ⟨by omega, by omega⟩, ⟨by omega, by omega⟩, ⟨by omega, by omega⟩, ⟨by omega, by omega⟩⟩)] at hK
    exact hK
  · rw [decide_eq_false e12]
    exact no (fun hm => by have := hm.2.2.2.2.2; omega)

abbrev NDo := Int × Int × Int × Int × Int × Int × Int × Int

theorem natPlays_plain0 {h lo hi mp fi li mo : Int} {script : List NDo} (hs : ∀ x ∈ script, 0 ≤ x.2.2.1 ∧ 0 ≤ x.2.2.2.2.1) (hw : ∀ x ∈ script, -9223372036854775808 ≤ x.2.1 ∧ x.2.1 ≤ 9223372036854775807) :
    embrasurelaw08_NatPlays_wp h lo hi mp fi li mo script (· = true) := by
  unfold embrasurelaw08_NatPlays_wp
  refine awake_wp (cond_f rfl ?_)
  refine newNat_wp (fun hn => ?_) (fun hm => ?_)
  · refine rmayBox_wp ?_
    rw [decide_eq_false hn]
    exact cond_t rfl rfl
  · refine rmayBox_wp ?_
    rw [decide_eq_true hm]
    refine cond_f rfl (joinP1.i (cond_n (fun hx => absurd rfl hx) (fun _ => ?_)))
    unfold nat_Nat_Box_wp
    refine cond_f (by simp) ?_
    obtain ⟨hh, ⟨hlo, hlh, hhi⟩, ⟨hm0, hm2⟩, ⟨hf0, hf2⟩, ⟨hl1, hl2⟩, hmo1, hmo2⟩ := hm
    refine ⟨fun n L Now list now now8 i m1 m2 => ∃ bs rs, All2 (RQ m1) L rs ∧ Sim bs rs ∧ Rep m2 list bs ∧ Now = now ∧ 0 ≤ now ∧ 0 ≤ now8 ∧ now8 ≤ 1099511627776 ∧ now ≤ 1099511627776 ∧ (bs.length : Int) ≤ i ∧ 0 ≤ i ∧ i ≤ 60 ∧ n = 60 - i.toNat, ⟨_, [], [], .nil, Sim.nil, Rep.nil _, rfl, by decide, by decide, by decide, by decide, by decide, by decide, by decide, rfl⟩, ?_⟩
    rintro n L Now list now now8 i m1 m2 ⟨bs, rs, hA, hS, hR, rfl, hn0, h80, h81, hn1, hbl, hi0, hi1, rfl⟩
    refine joinP1.i (cond_d (fun hlt => cond_d (fun h60 => ?_) (fun _ => rfl)) (fun _ => rfl))
    refine ⟨hi0, hlt, fun x hx => ?_⟩
    have hmem := List.mem_of_getElem? hx
    obtain ⟨hx1, hx2⟩ := hs x hmem
    have hx3 := hw x hmem
    have hLl := hA.length
    have hpl := hS.pm.length_eq
    refine ⟨fun t => t ≤ 2251799813685248 ∧ -1000 ≤ t, ?_, ?_⟩
    · rintro t ⟨t1, t0⟩
      refine ⟨fun L1 Now1 list1 now1 m3 m4 => ∃ bs1 rs1, All2 (RQ m3) L1 rs1 ∧ Sim bs1 rs1 ∧ Rep m4 list1 bs1 ∧ Now1 = now1 ∧ 0 ≤ now1 ∧ now1 ≤ 1099511627776 ∧ (bs1.length : Int) ≤ i + 1, ?_, ?_⟩
      · rintro L1 Now1 list1 now1 m3 m4 ⟨bs1, rs1, hA1, hS1, hR1, rfl, hn10, hn11, hb1⟩
        have hl1' := hA1.length
        have hp1' := hS1.pm.length_eq
        refine all_wp hR1 (by omega) (fun hc => ?_) (fun hc l2 m5 zs hR2 _ hperm hsort => ?_)
        · refine rall_wp hA1 (by omega) (fun _ => ?_) (fun hc2 => absurd hc2 hc)
          refine same_wp (by simp) (cond_f rfl ?_)
          rw [wrap_i64 (x := i + 1) (by omega) (by omega)]
          refine ⟨_, ?_, bs1, rs1, hA1, hS1, hR1, rfl, hn10, ?_, ?_, hn11, hb1, by omega, by omega, rfl⟩
          · omega
          · split <;> omega
          · split <;> omega
        · refine rall_wp hA1 (by omega) (fun hc2 => absurd hc hc2) (fun _ L2 hA2 => ?_)
          have hS2 := hS1.live t
          have ez := all_sim hS2 hperm hsort
          subst ez
          have hll := live_len (t := t) (bs := rs1)
          have hll2 := live_len (t := t) (bs := bs1)
          refine same_wp (by rw [List.length_map]; omega) (cond_f rfl ?_)
          rw [wrap_i64 (x := i + 1) (by omega) (by omega)]
          refine ⟨_, ?_, live t bs1, live t rs1, hA2, hS2, hR2, rfl, by omega, ?_, ?_, by omega, by omega, by omega, by omega, rfl⟩
          · omega
          · split <;> omega
          · split <;> omega
      · have hll := live_len (t := t) (bs := bs)
        refine cond_e (fun _ => ?_) (fun _ => cond_e (fun _ => ?_) (fun _ => cond_e (fun _ => ?_) (fun _ => cond_e (fun _ => ?_) (fun _ => ?_))))
        · refine out_wp hR (by omega) hlo hhi ⟨by omega, hl2⟩ hn0 hS.sn (fun hc => ?_) (fun hc l2 m5 hR2 _ => ?_)
          · refine rout_wp hA hS (by omega) hlo hhi ⟨by omega, hl2⟩ hn0 hx1 hx2 (fun _ => ?_) (fun hc2 => absurd hc2 hc)
            refine joinP1.i ?_
            refine cond_f (by simp) (cond_f (by simp) ?_)
            exact ⟨bs, rs, hA, hS, hR, rfl, hn0, hn1, by omega⟩
          · refine rout_wp hA hS (by omega) hlo hhi ⟨by omega, hl2⟩ hn0 hx1 hx2 (fun hc2 => absurd hc hc2) (fun _ L2 m6 rs2 hA2 hS2 => ?_)
            refine joinP1.i ?_
            refine cond_f (by simp) (cond_f (by simp) ?_)
            have := natOut_len (h := h) (lo := lo) (hi := hi) (mp := mp) (li := li) (mo := mo) (t := t) (ih := x.2.2.1) (ip := x.2.2.2.1) (th := x.2.2.2.2.1) (tp := x.2.2.2.2.2.1) (bs := live t bs)
            exact ⟨_, rs2, hA2, hS2, hR2, rfl, by omega, by omega, by omega⟩
        · refine in_wp hR (by omega) hS.sn (fun hc => ?_) (fun hc l2 m5 hR2 _ => ?_)
          · refine rin_wp hA hS (by omega) hx2 (fun _ => ?_) (fun hc2 => absurd hc2 hc)
            refine joinP1.i ?_
            refine cond_f (by simp) (cond_f (by simp) ?_)
            exact ⟨bs, rs, hA, hS, hR, rfl, hn0, hn1, by omega⟩
          · refine rin_wp hA hS (by omega) hx2 (fun hc2 => absurd hc hc2) (fun _ L2 hA2 => ?_)
            refine joinP1.i ?_
            refine cond_f (by simp) (cond_f (by simp) ?_)
            exact ⟨_, _, hA2, hS.live t, hR2, rfl, by omega, by omega, by omega⟩
        · refine ask_wp hR (by omega) hlo hhi (fun hc => ?_) (fun hc l2 m5 hR2 _ => ?_)
          · refine rask_wp hA hS (by omega) hlo hhi hx1 (fun _ => ?_) (fun hc2 => absurd hc2 hc)
            refine joinP1.i ?_
            refine cond_f (by simp) (cond_f (by simp) ?_)
            exact ⟨bs, rs, hA, hS, hR, rfl, hn0, hn1, by omega⟩
          · refine rask_wp hA hS (by omega) hlo hhi hx1 (fun hc2 => absurd hc hc2) (fun _ L2 rs2 hA2 hS2 => ?_)
            refine joinP1.i ?_
            refine cond_f (by simp) (cond_f (by simp) ?_)
            have := natAsk_len (lo := lo) (hi := hi) (mo := mo) (ih := x.2.2.1) (ip := x.2.2.2.1) (wish := x.2.2.2.2.2.2.1) (u := x.2.2.2.2.2.2.2) (bs := live t bs)
            exact ⟨_, rs2, hA2, hS2, hR2, rfl, by omega, by omega, by omega⟩
        · refine drop_wp hR (by omega) (fun hc => ?_) (fun hc l2 hR2 _ => ?_)
          · refine rdrop_wp hA hS (by omega) (fun _ => ?_) (fun hc2 => absurd hc2 hc)
            refine cond_f (by simp) ?_
            exact ⟨bs, rs, hA, hS, hR, rfl, hn0, hn1, by omega⟩
          · refine rdrop_wp hA hS (by omega) (fun hc2 => absurd hc hc2) (fun _ L2 rs2 hA2 hS2 => ?_)
            refine cond_f (by simp) ?_
            have := natDrop_len (ih := x.2.2.1) (ip := x.2.2.2.1) (bs := live t bs)
            exact ⟨_, rs2, hA2, hS2, hR2, rfl, by omega, by omega, by omega⟩
        · unfold nat_Nat_Reboot_wp
          exact ⟨[], [], .nil, Sim.nil, Rep.nil _, rfl, by decide, by decide, by simp; omega⟩
    · refine joinP1.i ?_
      have fin : (-100 < x.2.1 ∧ x.2.1 < 1125899906842624 → IntKind.wrap .i64 (now8 + x.2.1) ≤ 2251799813685248 ∧ -1000 ≤ IntKind.wrap .i64 (now8 + x.2.1)) := fun hh => by
        rw [wrap_i64 (by omega) (by omega)]; omega
      refine cond_d (fun a => cond_d (fun b => ?_) (fun b => ?_)) (fun a => ?_)
      · exact fin ⟨by omega, b⟩
      · exact ⟨by omega, by omega⟩
      · exact ⟨by omega, by omega⟩

theorem natPlays_plain {h lo hi mp fi li mo : Int} {script : List NDo} (_ : inK .u32 h) (_ : inK .i64 lo) (_ : inK .i64 hi) (_ : inK .i64 mp) (_ : inK .i64 fi) (_ : inK .i64 li) (_ : inK .i64 mo) (hs : ∀ x ∈ script, inK .i64 x.1 ∧ inK .i64 x.2.1 ∧ inK .u32 x.2.2.1 ∧ inK .i64 x.2.2.2.1 ∧ inK .u32 x.2.2.2.2.1 ∧ inK .i64 x.2.2.2.2.2.1 ∧ inK .i64 x.2.2.2.2.2.2.1 ∧ inK .i64 x.2.2.2.2.2.2.2) (_ : script.length ≤ 9223372036854775807) :
    embrasurelaw08_NatPlays_wp h lo hi mp fi li mo script (· = true) :=
  natPlays_plain0 (fun x hx => ⟨(hs x hx).2.2.1.1, (hs x hx).2.2.2.2.1.1⟩) (fun x hx => (hs x hx).2.1)

end Go.Proofs.Ythhbnjcebmhilaa
