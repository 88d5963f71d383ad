/- What the document's box answers, as the program's own box answers it: Out, In, Ask, Drop, All. -/
import Derived.Test.YthhbnjcebmhilaaR
namespace Go.Proofs.Ythhbnjcebmhilaa
open Go Go.Eng

theorem idxR_asked {f : BX → Bool} {rs : List BX} {j : Nat} (h : rs.findIdx? f = some j) : idxR f rs = j := by unfold idxR; rw [h]
theorem idxR_no {f : BX → Bool} {rs : List BX} (h : rs.findIdx? f = none) : idxR f rs = -1 := by unfold idxR; rw [h]

theorem all2_drop {α β : Type} {R : α → β → Prop} {l : List α} {k : List β} (h : All2 R l k) : ∀ n, All2 R (l.drop n) (k.drop n) := by
  induction h with
  | nil => intro n; simp; exact .nil
  | cons h t ih =>
    intro n
    cases n with
    | zero => exact .cons h t
    | succ n => exact ih n

theorem all2_ins {α β : Type} {R : α → β → Prop} {l : List α} {k : List β} (h : All2 R l k) (n : Nat) {a : α} {b : β} (hr : R a b) : All2 R (l.take n ++ [a] ++ l.drop n) (k.take n ++ [b] ++ k.drop n) :=
  (((h.take n).append (.cons hr .nil))).append (all2_drop h n)

theorem all2_erase {α β : Type} {R : α → β → Prop} {l : List α} {k : List β} (h : All2 R l k) (n : Nat) : All2 R (l.eraseIdx n) (k.eraseIdx n) := by
  rw [List.eraseIdx_eq_take_drop_succ, List.eraseIdx_eq_take_drop_succ]
  exact (h.take n).append (all2_drop h (n + 1))

theorem all2_set {α β : Type} {R : α → β → Prop} : ∀ {l : List α} {k : List β}, All2 R l k → ∀ (i : Nat) {a : α} {b : β}, R a b → All2 R (l.set i a) (k.set i b)
  | _, _, .nil, _, _, _, _ => .nil
  | _, _, .cons _ t, 0, _, _, hr => .cons hr t
  | _, _, .cons h t, n + 1, _, _, hr => .cons h (all2_set t n hr)

theorem ins_get {α : Type} {l : List α} {i : Nat} {a : α} (hi : i ≤ l.length) : (l.take i ++ [a] ++ l.drop i)[i]? = some a := by
  rw [List.append_assoc, List.getElem?_append_right (by rw [List.length_take]; omega), List.length_take]
  have : i - min i l.length = 0 := by omega
  rw [this]
  rfl

theorem ins_set {α : Type} {l : List α} {i : Nat} {a b : α} (hi : i ≤ l.length) : (l.take i ++ [a] ++ l.drop i).set i b = l.take i ++ [b] ++ l.drop i := by
  rw [List.append_assoc, List.append_assoc, List.set_append_right _ _ (by rw [List.length_take]; omega), List.length_take]
  have : i - min i l.length = 0 := by omega
  rw [this]
  rfl

/-- A binding by which something goes out is turned. -/
theorem rtouch_wp {h li t th tp : Int} {L : List RX} {m : MP} {i : Int} {r : RX} {x : BX} {K : Int → Int → Int → List RX → Int → MP → Prop} (hi0 : 0 ≤ i) (hL : L[i.toNat]? = some r) (hq : RQ m r x) (hsn : x.2.2.2.2.2.2.2.length ≤ 16) (ht0 : 0 ≤ t) (ht : t ≤ 1099511627776) (hli : 0 ≤ li ∧ li ≤ 1099511627776)
    (hK : ∀ hd : Hd, RQ (m ++ [(hd, seeS th tp x.2.2.2.2.2.2.2)]) (r.1, r.2.1, r.2.2.1, r.2.2.2.1, r.2.2.2.2.1, (touch t li th tp x).2.2.2.2.2.1, r.2.2.2.2.2.2.1, hd) (touch t li th tp x) →
      K h (prt x) 0 (List.set L i.toNat (r.1, r.2.1, r.2.2.1, r.2.2.2.1, r.2.2.2.2.1, (touch t li th tp x).2.2.2.2.2.1, r.2.2.2.2.2.2.1, hd)) t (m ++ [(hd, seeS th tp x.2.2.2.2.2.2.2)])) :
    0 ≤ (i : Int) ∧ (i : Int) < ((L.length : Nat) : Int) ∧ (∀ (x_1 : RX), L[Int.toNat i]? = some x_1 → (joinP1 (fun (B : Int) => joinP1 (fun (seen : List (Int × Int)) => (seen.length + [(th, tp)].length) * 16 ≤ 140737488355328 ∧ (joinP1 (fun (seen_2 : List (Int × Int)) => 0 ≤ (i : Int) ∧ (i : Int) < ((L.length : Nat) : Int) ∧ (∀ (hd : Hd), hd.2.1 = seen_2.length → (K h x_1.2.2.2.2.1 0 (List.set L (Int.toNat i) (x_1.1, x_1.2.1, x_1.2.2.1, x_1.2.2.2.1, x_1.2.2.2.2.1, B, x_1.2.2.2.2.2.2.1, hd)) t (m ++ [(hd, seen_2)])))) (fun (Q_5 : List (Int × Int) → Prop) => cond (decide (((((seen ++ [(th, tp)]).length : Nat) : Int) : Int) > 16)) (0 ≤ (1 : Int) ∧ (1 : Int) ≤ (((seen ++ [(th, tp)]).length : Nat) : Int) ∧ (Q_5 (((seen ++ [(th, tp)]).take (seen ++ [(th, tp)]).length).drop (Int.toNat 1)))) (Q_5 (seen ++ [(th, tp)]))))) (fun (Q_4 : List (Int × Int) → Prop) => ∃ (I : Nat → List (Int × Int) → Int → Prop), (∃ (n_9 : Nat), I n_9 ([] : List (Int × Int)) 0) ∧ ∀ (n_6 : Nat) (seen_1 : List (Int × Int)) (k13 : Int), I n_6 seen_1 k13 → (cond (decide ((k13 : Int) < ((x_1.2.2.2.2.2.2.2.2.1 : Nat) : Int))) (∃ (xs : List (Int × Int)), PH m x_1.2.2.2.2.2.2.2 xs ∧ (0 ≤ (k13 : Int) ∧ (k13 : Int) < ((x_1.2.2.2.2.2.2.2.2.1 : Nat) : Int) ∧ (∀ (x_2 : Int × Int), xs[Int.toNat k13]? = some x_2 → (cond (!(((x_2.1 : Int) == th) && (((x_2.2 : Int) == tp) && true))) (∃ (xs_1 : List (Int × Int)), PH m x_1.2.2.2.2.2.2.2 xs_1 ∧ (0 ≤ (k13 : Int) ∧ (k13 : Int) < ((x_1.2.2.2.2.2.2.2.2.1 : Nat) : Int) ∧ (∀ (x_3 : Int × Int), xs_1[Int.toNat k13]? = some x_3 → ((seen_1.length + [x_3].length) * 16 ≤ 140737488355328 ∧ (∃ (n_7 : Nat), n_7 < n_6 ∧ I n_7 (seen_1 ++ [x_3]) (IntKind.wrap .i64 (k13 + 1))))))) (∃ (n_8 : Nat), n_8 < n_6 ∧ I n_8 seen_1 (IntKind.wrap .i64 (k13 + 1))))))) (Q_4 seen_1)))) (fun (Q_3 : Int → Prop) => cond (!x_1.2.2.2.2.2.2.1) (cond (decide (((IntKind.wrap .i64 (t + li)) : Int) > 1099511627776)) (Q_3 1099511627776) (Q_3 (IntKind.wrap .i64 (t + li)))) (Q_3 x_1.2.2.2.2.2.1)))) := by
  obtain ⟨hil, hg⟩ := List.getElem?_eq_some_iff.1 hL
  obtain ⟨xs, ex, hph, hxl⟩ := hq
  refine ⟨hi0, by omega, fun r' hr' => ?_⟩
  rw [hL] at hr'
  cases hr'
  have hxs : x.2.2.2.2.2.2.2 = xs := by rw [ex]
  have hpx : prt x = r.2.2.2.2.1 := by rw [ex]; rfl
  have hax : x.2.2.2.2.2.2.1 = r.2.2.2.2.2.2.1 := by rw [ex]
  have hux : x.2.2.2.2.2.1 = r.2.2.2.2.2.1 := by rw [ex]
  rw [hxs] at hsn hK
  refine ⟨fun B => B = (touch t li th tp x).2.2.2.2.2.1, ?_, ?_⟩
  · rintro B rfl
    refine ⟨fun seen => seen = xs.filter (fun a => !((a.1 == th) && ((a.2 == tp) && true))), ?_, ?_⟩
    · rintro seen rfl
      have hfl : (xs.filter (fun a => !((a.1 == th) && ((a.2 == tp) && true)))).length ≤ xs.length := List.length_filter_le _ _
      refine ⟨by simp only [List.length_singleton]; omega, ⟨fun s => s = seeS th tp xs, ?_, ?_⟩⟩
      · rintro s rfl
        refine ⟨hi0, by omega, fun hd hhd => ?_⟩
        rw [hpx] at hK
        refine hK hd ⟨_, ?_, PH.new, hhd⟩
        unfold touch
        rw [ex]
      · have hs : seeS th tp xs = (xs.filter (fun a => !((a.1 == th) && ((a.2 == tp) && true))) ++ [(th, tp)]).drop ((xs.filter (fun a => !((a.1 == th) && ((a.2 == tp) && true)))).length + 1 - 16) := rfl
        have hal : (xs.filter (fun a => !((a.1 == th) && ((a.2 == tp) && true))) ++ [(th, tp)]).length = (xs.filter (fun a => !((a.1 == th) && ((a.2 == tp) && true)))).length + 1 := by simp
        refine cond_d (fun hgt => ⟨by decide, by omega, ?_⟩) (fun hle => ?_)
        · rw [hs, List.take_length]
          have e1 : (xs.filter (fun a => !((a.1 == th) && ((a.2 == tp) && true)))).length + 1 - 16 = 1 := by omega
          rw [e1]
          rfl
        · rw [hs]
          have e1 : (xs.filter (fun a => !((a.1 == th) && ((a.2 == tp) && true)))).length + 1 - 16 = 0 := by omega
          rw [e1]
          rfl
    · refine ⟨fun n s k => 0 ≤ k ∧ k ≤ xs.length ∧ n = xs.length - k.toNat ∧ s = (xs.take k.toNat).filter (fun a => !((a.1 == th) && ((a.2 == tp) && true))), ⟨_, by omega, by omega, rfl, rfl⟩, ?_⟩
      rintro n s k ⟨k0, k1, rfl, rfl⟩
      refine cond_d (fun hlt => ?_) (fun hge => ?_)
      · have hk : k.toNat < xs.length := by omega
        have ek : (k + 1).toNat = k.toNat + 1 := by omega
        refine ⟨xs, hph, k0, hlt, fun y hy => ?_⟩
        rw [List.getElem?_eq_getElem hk] at hy
        cases hy
        rw [wrap_i64 (x := k + 1) (by omega) (by omega)]
        have hfl : ((xs.take k.toNat).filter (fun a => !((a.1 == th) && ((a.2 == tp) && true)))).length ≤ k.toNat := Nat.le_trans (List.length_filter_le _ _) (by rw [List.length_take]; omega)
        refine cond_b (fun e1 => ⟨xs, hph, k0, hlt, fun y hy => ?_⟩) (fun e1 => ?_)
        · rw [List.getElem?_eq_getElem hk] at hy
          cases hy
          refine ⟨by simp only [List.length_singleton]; omega, _, ?_, by omega, by omega, rfl, ?_⟩
          · omega
          · rw [ek, List.take_succ_eq_append_getElem hk, List.filter_append]
            congr 1
            rw [List.filter_cons_of_pos (p := fun a : Int × Int => !((a.1 == th) && ((a.2 == tp) && true))) e1]
            rfl
        · refine ⟨_, ?_, by omega, by omega, rfl, ?_⟩
          · omega
          · rw [ek, List.take_succ_eq_append_getElem hk, List.filter_append, List.filter_cons_of_neg (p := fun a : Int × Int => !((a.1 == th) && ((a.2 == tp) && true))) (by rw [e1]; decide)]
            simp
      · rw [List.take_of_length_le (by omega)]
  · have htu : (touch t li th tp x).2.2.2.2.2.1 = if r.2.2.2.2.2.2.1 then r.2.2.2.2.2.1 else if 1099511627776 < t + li then 1099511627776 else t + li := by
      rw [← hax, ← hux]; rfl
    rw [wrap_i64 (x := t + li) (by omega) (by omega)]
    cases ha : r.2.2.2.2.2.2.1 with
    | true => rw [ha] at htu; rw [htu]; rfl
    | false =>
      rw [ha] at htu
      simp only [Bool.false_eq_true, if_false] at htu
      refine cond_t rfl (cond_d (fun hgt => ?_) (fun hle => ?_))
      · rw [htu, if_pos (by omega)]
      · rw [htu, if_neg (by omega)]

theorem rout_wp {h lo hi mp fi li mo now t ih ip th tp : Int} {L : List RX} {m : MP} {bs rs : List BX} {K : Int → Int → Int → List RX → Int → MP → Prop} (hr : All2 (RQ m) L rs) (hs : Sim bs rs) (hb : L.length ≤ 100000) (hlo : 1 ≤ lo) (hhi : hi ≤ 65535) (hli : 0 ≤ li ∧ li ≤ 1099511627776) (hn0 : 0 ≤ now) (hi0 : 0 ≤ ih) (ht0 : 0 ≤ th)
    (h1 : ¬ (mayP ih ip ∧ mayP th tp ∧ now ≤ t ∧ t ≤ 1099511627776) → K 0 0 1 L now m)
    (h2 : mayP ih ip ∧ mayP th tp ∧ now ≤ t ∧ t ≤ 1099511627776 → ∀ L' m' rs', All2 (RQ m') L' rs' → Sim (natOut h lo hi mp li mo (live t bs) t ih ip th tp).2 rs' →
      K (natOut h lo hi mp li mo (live t bs) t ih ip th tp).1.1 (natOut h lo hi mp li mo (live t bs) t ih ip th tp).1.2.1 (natOut h lo hi mp li mo (live t bs) t ih ip th tp).1.2.2 L' t m') :
    embrasureref08_Nat_Out_wp h lo hi mp fi li mo L now t ih ip th tp m K := by
  unfold embrasureref08_Nat_Out_wp
  refine ⟨fun L' n' x => (x = true ∧ L' = L ∧ n' = now ∧ ¬ (mayP ih ip ∧ mayP th tp ∧ now ≤ t ∧ t ≤ 1099511627776)) ∨ (x = false ∧ n' = t ∧ All2 (RQ m) L' (live t rs) ∧ L'.length ≤ L.length ∧ (mayP ih ip ∧ mayP th tp ∧ now ≤ t ∧ t ≤ 1099511627776)), ?_, ?_⟩
  · rintro L' n' x (⟨rfl, rfl, rfl, hc⟩ | ⟨rfl, rfl, hr', hlen, hc⟩)
    · exact cond_t rfl (h1 hc)
    refine cond_f rfl ?_
    have h2 := h2 hc
    have S := hs.live n'
    have hlr := hr'.length
    have hlb := S.pm.length_eq
    refine rfind_wp hr' (by omega) ?_
    rcases outI_sim S ih ip (keyH mp th) (keyP mp tp) with ⟨eo, ea, et, ek⟩ | ⟨i, j, x, eo, ej, hbx, hrx⟩
    · have e1 : idxR (findR true ih ip th tp) (live n' rs) = -1 := idxR_no ea
      rw [e1]
      refine joinP1.i (cond_d (fun _ => ?_) (fun hx => absurd (by decide) hx))
      refine rkey_wp (rfind_wp hr' (by omega) ?_)
      have e2 : idxR (findR false ih ip (keyH mp th) (keyP mp tp)) (live n' rs) = -1 := idxR_no et
      rw [e2]
      refine ⟨fun L4 i => (i = -1 ∧ L4 = L' ∧ (chooseP lo hi ip (live n' rs) = none ∨ mo ≤ (live n' rs).length)) ∨ (∃ (p : Int) (k : Nat), i = k ∧ chooseP lo hi ip (live n' rs) = some p ∧ ((live n' rs).length : Int) < mo ∧ k ≤ L'.length ∧ (∀ (j : Nat) x, j < k → (live n' rs)[j]? = some x → prt x < p) ∧ (∀ x, (live n' rs)[k]? = some x → ¬ prt x < p) ∧ L4 = L'.take k ++ [nilB ih ip (keyH mp th) (keyP mp tp) p 0 false] ++ L'.drop k), ?_, ?_⟩
      · rintro L4 i (⟨rfl, rfl, hfull⟩ | ⟨p, k, rfl, hch, hmo, hk, hlt, hge, rfl⟩)
        · refine cond_t rfl ?_
          have en : natOut h lo hi mp li mo (live n' bs) n' ih ip th tp = ((0, 0, 10), live n' bs) := by
            unfold natOut
            rw [eo]
            simp only
            rcases hfull with hf | hf
            · rw [choose_perm S.pm, hf]
            · cases chooseP lo hi ip (live n' bs) with
              | none => rfl
              | some p => simp only; rw [if_neg (by omega)]
          rw [en] at h2
          exact h2 _ _ _ hr' S
        · refine cond_d (fun hx => by omega) (fun _ => ?_)
          have hch' : chooseP lo hi ip (live n' bs) = some p := by rw [choose_perm S.pm]; exact hch
          have en : natOut h lo hi mp li mo (live n' bs) n' ih ip th tp = ((h, p, 0), live n' bs ++ [touch n' li th tp (ih, ip, keyH mp th, keyP mp tp, p, 0, false, [])]) := by
            unfold natOut
            rw [eo, hch']
            simp only
            rw [if_pos (by omega)]
          rw [en] at h2
          have hq0 : RQ m (nilB ih ip (keyH mp th) (keyP mp tp) p 0 false) (ih, ip, keyH mp th, keyP mp tp, p, 0, false, []) := ⟨[], rfl, PH.nil, rfl⟩
          have ek' : ((k : Int)).toNat = k := by omega
          refine rtouch_wp (x := (ih, ip, keyH mp th, keyP mp tp, p, 0, false, [])) (by omega) (by rw [ek']; exact ins_get hk) hq0 (Nat.zero_le _) (by omega) hc.2.2.2 hli (fun hd hq => ?_)
          rw [ek', ins_set hk]
          refine h2 _ _ _ (all2_ins (hr'.mono fun a _ b hab => hab.mono _) k hq) ?_
          refine Sim.ins S (by omega) ?_ (fun z hz => ?_) (seeS_len _ _ _) hlt hge
          · exact (choose_some hch').2.2
          · exact ek z hz
      · refine cond_t rfl ?_
        refine rkey_wp (rput_wp hr' (by omega) hlo hhi (fun hf => .inl ⟨rfl, rfl, hf⟩) (fun p k hch hmo hk hlt hge => .inr ⟨p, k, rfl, hch, hmo, hk, hlt, hge, rfl⟩))
    · have en : natOut h lo hi mp li mo (live n' bs) n' ih ip th tp = ((h, prt x, 0), (live n' bs).set i (touch n' li th tp x)) := by
        unfold natOut
        rw [eo]
        simp only
        rw [hbx]
        rfl
      rw [en] at h2
      have hmem : x ∈ live n' bs := List.mem_of_getElem? hbx
      obtain ⟨r, hrL, hq⟩ := hr'.get' j x hrx
      refine ⟨fun ii => ii = (j : Int), ?_, ?_⟩
      · rintro ii rfl
        refine ⟨fun L4 ii => L4 = L' ∧ ii = (j : Int), ?_, cond_d (fun hx => by omega) (fun _ => ⟨rfl, rfl⟩)⟩
        rintro L4 ii ⟨rfl, rfl⟩
        refine cond_d (fun hx => by omega) (fun _ => ?_)
        have ej' : ((j : Int)).toNat = j := by omega
        refine rtouch_wp (x := x) (by omega) (by rw [ej']; exact hrL) hq (S.sn x hmem) (by omega) hc.2.2.2 hli (fun hd hq2 => ?_)
        rw [ej']
        refine h2 _ _ _ (all2_set (hr'.mono fun a _ b hab => hab.mono _) j hq2) ?_
        exact S.set hbx hrx rfl rfl (seeS_len _ _ _)
      · rcases ej with ej | ⟨ej1, ej2⟩
        · have e1 : idxR (findR true ih ip th tp) (live n' rs) = j := idxR_asked ej
          rw [e1]
          exact cond_d (fun hx => by omega) (fun _ => rfl)
        · have e1 : idxR (findR true ih ip th tp) (live n' rs) = -1 := idxR_no ej1
          rw [e1]
          refine cond_d (fun _ => ?_) (fun hx => absurd (by decide) hx)
          refine rkey_wp (rfind_wp hr' (by omega) ?_)
          exact idxR_asked ej2
  · refine rmay_wp hi0 ?_
    by_cases m1 : mayP ih ip
    · rw [decide_eq_true m1]
      refine cond_f rfl (rmay_wp ht0 ?_)
      by_cases m2 : mayP th tp
      · rw [decide_eq_true m2]
        refine cond_f rfl (ron_wp hr (by omega) (fun hc => ?_) (fun hc L' hr' hl' => ?_))
        · exact .inl ⟨rfl, rfl, rfl, fun hx => hc hx.2.2⟩
        · exact .inr ⟨rfl, rfl, hr', hl', m1, m2, hc⟩
      · rw [decide_eq_false m2]
        exact cond_t rfl (.inl ⟨rfl, rfl, rfl, fun hx => m2 hx.2.1⟩)
    · rw [decide_eq_false m1]
      exact cond_t rfl (.inl ⟨rfl, rfl, rfl, fun hx => m1 hx.1⟩)

end Go.Proofs.Ythhbnjcebmhilaa
