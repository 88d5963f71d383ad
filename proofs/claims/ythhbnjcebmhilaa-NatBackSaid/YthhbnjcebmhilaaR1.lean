/- The plain side: NatOne. -/
import Derived.Test.YthhbnjcebmhilaaQ
namespace Go.Proofs.Ythhbnjcebmhilaa
open Go Go.Eng

theorem pig : ∀ (s l : List Int), s.Nodup → (∀ x ∈ s, x ∈ l) → s.length ≤ l.length
  | [], _, _, _ => by simp
  | a :: s, l, hn, h => by
    have ha := h a (by simp)
    have h2 := pig s (l.erase a) (List.nodup_cons.1 hn).2 fun x hx => by
      have hne : x ≠ a := fun e => (List.nodup_cons.1 hn).1 (e ▸ hx)
      exact (List.mem_erase_of_ne hne).2 (h x (by simp [hx]))
    have h3 := List.length_erase_of_mem ha
    have h4 := List.length_pos_of_mem ha
    simp only [List.length_cons]
    omega

theorem choose_few {bs : List BX} {w : Int} (h : bs.length < 10) : ∃ p, chooseP 40000 40009 w bs = some p := by
  cases hc : chooseP 40000 40009 w bs with
  | some p => exact ⟨p, rfl⟩
  | none =>
    have hu := choose_none hc
    have := pig [40000, 40001, 40002, 40003, 40004, 40005, 40006, 40007, 40008, 40009] (bs.map fun x => x.2.2.2.2.1) (by decide) fun x hx => by
      have hx2 : 40000 ≤ x ∧ x ≤ 40009 := by simp at hx; omega
      have := hu x hx2.1 hx2.2
      obtain ⟨y, hy, e⟩ := List.any_eq_true.1 this
      exact List.mem_map.2 ⟨y, hy, by simpa [portIs] using e⟩
    simp at this
    omega

/-- All that goes out by one, so far. -/
structure J (ih ip mp : Int) (os : List (Int × Int)) (bs : List BX) (ports : List Int) (i : Nat) : Prop where
  like : ∀ x ∈ bs, x.1 = ih ∧ x.2.1 = ip ∧ x.2.2.2.2.2.2.1 = false ∧ x.2.2.2.2.2.1 = 31 ∧ x.2.2.2.2.2.2.2.length ≤ 16
  one : ∀ x ∈ bs, ∀ y ∈ bs, (x.2.2.2.2.1 = y.2.2.2.2.1 ↔ x.2.2.1 = y.2.2.1 ∧ x.2.2.2.1 = y.2.2.2.1)
  len : bs.length ≤ i
  plen : ports.length = i
  has : ∀ k < i, ∀ o p, os[k]? = some o → ports[k]? = some p → ∃ x ∈ bs, x.2.2.1 = keyH mp o.1 ∧ x.2.2.2.1 = keyP mp o.2 ∧ x.2.2.2.2.1 = p

theorem J.nil (ih ip mp : Int) (os : List (Int × Int)) : J ih ip mp os [] [] 0 := ⟨fun x hx => by simp at hx, fun x hx => by simp at hx, by simp, rfl, fun k hk => by omega⟩

theorem J.live {ih ip mp : Int} {os : List (Int × Int)} {bs : List BX} {ports : List Int} {i : Nat} (h : J ih ip mp os bs ports i) : live 1 bs = bs := by
  unfold Go.Proofs.Ythhbnjcebmhilaa.live
  refine List.filter_eq_self.2 fun x hx => ?_
  have := (h.like x hx).2.2.2.1
  unfold overB
  rw [this]
  decide

/-- The same three words. -/
def Al (x y : BX) : Prop := x.2.2.1 = y.2.2.1 ∧ x.2.2.2.1 = y.2.2.2.1 ∧ x.2.2.2.2.1 = y.2.2.2.2.1

theorem J.step {ih ip mp : Int} {os : List (Int × Int)} {bs : List BX} {ports : List Int} {i : Nat} (h : J ih ip mp os bs ports i) (hi : i < 8) {o : Int × Int} (ho : os[i]? = some o) :
    ∃ p bs', natOut 3405803777 40000 40009 mp 30 12 bs 1 ih ip o.1 o.2 = ((3405803777, p, 0), bs') ∧ J ih ip mp os bs' (ports ++ [p]) (i + 1) := by
  have hna : bs.findIdx? (isAsked ih ip) = none := by
    rw [List.findIdx?_eq_none_iff]
    intro x hx
    unfold isAsked
    rw [(h.like x hx).2.2.1, Bool.and_false]
  have hto : ∀ x ∈ bs, isTo ih ip (keyH mp o.1) (keyP mp o.2) x = true ↔ x.2.2.1 = keyH mp o.1 ∧ x.2.2.2.1 = keyP mp o.2 := by
    intro x hx
    obtain ⟨a, b, -⟩ := h.like x hx
    simp [isTo, inIs, a, b]
  cases hf : bs.findIdx? (isTo ih ip (keyH mp o.1) (keyP mp o.2)) with
  | some a =>
    have hout : outI ih ip (keyH mp o.1) (keyP mp o.2) bs = some a := by unfold outI; rw [hna]; exact hf
    obtain ⟨hal, hp, -⟩ := List.findIdx?_eq_some_iff_getElem.1 hf
    generalize hx : bs[a] = x at hp
    have hxm : x ∈ bs := hx ▸ List.getElem_mem hal
    have hxq : bs[a]? = some x := by rw [List.getElem?_eq_getElem hal, hx]
    have hkk := (hto x hxm).1 hp
    refine ⟨x.2.2.2.2.1, bs.set a (touch 1 30 o.1 o.2 x), ?_, ?_⟩
    · unfold natOut
      rw [hout]
      simp only [hxq]
    · obtain ⟨l1, l2, l3, l4, l5⟩ := h.like x hxm
      have hset : ∀ y ∈ bs.set a (touch 1 30 o.1 o.2 x), y = touch 1 30 o.1 o.2 x ∨ y ∈ bs := fun y hy => (List.mem_or_eq_of_mem_set hy).symm
      have hal2 : ∀ y ∈ bs.set a (touch 1 30 o.1 o.2 x), ∃ z ∈ bs, Al y z := fun y hy => by
        rcases hset y hy with rfl | hy
        · exact ⟨x, hxm, rfl, rfl, rfl⟩
        · exact ⟨y, hy, rfl, rfl, rfl⟩
      have hal3 : ∀ y ∈ bs, ∃ z ∈ bs.set a (touch 1 30 o.1 o.2 x), Al z y := fun y hy => by
        obtain ⟨j, hj⟩ := List.getElem?_of_mem hy
        by_cases e : j = a
        · subst e
          rw [hxq] at hj; cases hj
          exact ⟨touch 1 30 o.1 o.2 x, List.mem_of_getElem? (i := j) (by rw [List.getElem?_set_self hal]), rfl, rfl, rfl⟩
        · exact ⟨y, List.mem_of_getElem? (i := j) (by rw [List.getElem?_set_ne (fun c => e c.symm)]; exact hj), rfl, rfl, rfl⟩
      refine ⟨fun y hy => ?_, fun y hy z hz => ?_, ?_, by simp [h.plen], ?_⟩
      · rcases hset y hy with rfl | hy
        · refine ⟨l1, l2, l3, ?_, seeS_len _ _ _⟩
          simp [touch, l3]
        · exact h.like y hy
      · obtain ⟨y', hy', a1, a2, a3⟩ := hal2 y hy
        obtain ⟨z', hz', b1, b2, b3⟩ := hal2 z hz
        rw [a1, a2, a3, b1, b2, b3]
        exact h.one y' hy' z' hz'
      · have := h.len; simp; omega
      · intro k hk o' p' ho' hp'
        by_cases e : k = i
        · subst e
          rw [ho] at ho'; cases ho'
          rw [List.getElem?_append_right (by have := h.plen; omega), h.plen] at hp'
          simp at hp'; subst hp'
          obtain ⟨z, hz, b1, b2, b3⟩ := hal3 x hxm
          exact ⟨z, hz, by rw [b1, hkk.1], by rw [b2, hkk.2], b3⟩
        · rw [List.getElem?_append_left (by have := h.plen; omega)] at hp'
          obtain ⟨y, hy, c1, c2, c3⟩ := h.has k (by omega) o' p' ho' hp'
          obtain ⟨z, hz, b1, b2, b3⟩ := hal3 y hy
          exact ⟨z, hz, by rw [b1, c1], by rw [b2, c2], by rw [b3, c3]⟩
  | none =>
    have hout : outI ih ip (keyH mp o.1) (keyP mp o.2) bs = none := by unfold outI; rw [hna]; exact hf
    have hbl := h.len
    obtain ⟨p, hp⟩ := choose_few (bs := bs) (w := ip) (by omega)
    have hu := (choose_some hp).2.2
    have hu2 : ∀ y ∈ bs, y.2.2.2.2.1 ≠ p := fun y hy => by
      have := List.any_eq_false.1 hu y hy
      simpa [portIs] using this
    have hk2 : ∀ y ∈ bs, ¬ (y.2.2.1 = keyH mp o.1 ∧ y.2.2.2.1 = keyP mp o.2) := fun y hy => by
      have := List.findIdx?_eq_none_iff.1 hf y hy
      rw [← hto y hy, this]; simp
    refine ⟨p, bs ++ [touch 1 30 o.1 o.2 (ih, ip, keyH mp o.1, keyP mp o.2, p, 0, false, [])], ?_, ?_⟩
    · unfold natOut
      rw [hout]
      simp only [hp]
      rw [if_pos (by omega)]
    · refine ⟨fun y hy => ?_, fun y hy z hz => ?_, ?_, by simp [h.plen], ?_⟩
      · rcases List.mem_append.1 hy with hy | hy
        · exact h.like y hy
        · simp at hy; subst hy
          exact ⟨rfl, rfl, rfl, by simp [touch], seeS_len _ _ _⟩
      · rcases List.mem_append.1 hy with hy | hy <;> rcases List.mem_append.1 hz with hz | hz
        · exact h.one y hy z hz
        · simp at hz; subst hz
          constructor
          · intro e; exact absurd e (hu2 y hy)
          · intro e; exact absurd e (hk2 y hy)
        · simp at hy; subst hy
          constructor
          · intro e; exact absurd e.symm (hu2 z hz)
          · intro e; exact absurd ⟨e.1.symm, e.2.symm⟩ (hk2 z hz)
        · simp at hy hz; subst hy; subst hz; simp
      · simp; omega
      · intro k hk o' p' ho' hp'
        by_cases e : k = i
        · subst e
          rw [ho] at ho'; cases ho'
          rw [List.getElem?_append_right (by have := h.plen; omega), h.plen] at hp'
          simp at hp'; subst hp'
          exact ⟨touch 1 30 o.1 o.2 (ih, ip, keyH mp o.1, keyP mp o.2, p, 0, false, []), List.mem_append_right _ (by simp), rfl, rfl, rfl⟩
        · rw [List.getElem?_append_left (by have := h.plen; omega)] at hp'
          obtain ⟨y, hy, c⟩ := h.has k (by omega) o' p' ho' hp'
          exact ⟨y, List.mem_append_left _ hy, c⟩

theorem natOne_plain {c : Int} {ih ip : Int} {others : List (Int × Int)} (hc : inK .u8 c) (h1 : inK .u32 ih) (h2 : inK .i64 ip) (hw : ∀ x ∈ others, inK .u32 x.1 ∧ inK .i64 x.2) (hl : others.length ≤ 9223372036854775807) :
    embrasurelaw08_NatOne_wp c ih ip others (· = true) := by
  have hc := u8b hc
  unfold embrasurelaw08_NatOne_wp
  refine awake_wp (cond_f rfl (box_wp hc (newNat_wp (fun h => absurd (by unfold mayB; omega) h) (fun _ => ?_))))
  have hmp : 0 ≤ c % 3 ∧ c % 3 ≤ 2 := by omega
  generalize c % 3 = mp at hmp ⊢
  refine ⟨fun t => (t = true ↔ others.length > 8), fun t ht => ?_, cond_f rfl (by simp; omega)⟩
  refine cond_b (fun e => ?_) (fun e => ?_)
  · have := ht.1 e; simp only [decide_eq_true_eq]; omega
  have hlen : others.length ≤ 8 := Classical.byContradiction fun hcc => by rw [ht.2 (by omega)] at e; cases e
  refine ⟨fun n l now ports i m => ∃ bs, (now = 0 ∨ now = 1) ∧ 0 ≤ i ∧ i ≤ others.length ∧ n = others.length - i.toNat ∧ Rep m l bs ∧ J ih ip mp others bs ports i.toNat,
    ⟨_, [], .inl rfl, by omega, by omega, rfl, Rep.nil _, J.nil ..⟩, ?_⟩
  rintro n l now ports i m ⟨bs, hnow, i0, i1, rfl, hr, hj⟩
  refine cond_d (fun hlt => ?_) (fun _ => rfl)
  have hil : i.toNat < others.length := by omega
  obtain ⟨o, ho⟩ : ∃ o, others[i.toNat]? = some o := ⟨_, List.getElem?_eq_getElem hil⟩
  have hbl := hj.len
  refine ⟨fun l' now' _ p f m' => f = 1 ∨ (f = 0 ∧ now' = 1 ∧ ∃ bs', Rep m' l' bs' ∧ J ih ip mp others bs' (ports ++ [p]) (i.toNat + 1)), ?_, ⟨i0, hlt, fun x hx => ?_⟩⟩
  · rintro l' now' hh p f m' (rfl | ⟨rfl, rfl, bs', hr', hj'⟩)
    · exact cond_t rfl rfl
    · have hpl := hj.plen
      have hpl' := hj'.plen
      refine cond_f rfl ⟨by simp [hpl]; omega, fun n k => 0 ≤ k ∧ k ≤ i ∧ n = (i - k).toNat, ⟨_, by omega, by omega, rfl⟩, ?_⟩
      rintro n k ⟨k0, k1, rfl⟩
      refine cond_d (fun hki => ?_) (fun hki => ⟨_, ?_, bs', .inr rfl, ?_, ?_, rfl, hr', ?_⟩)
      · have hkl : k.toNat < others.length := by omega
        obtain ⟨ok, hok⟩ : ∃ o, others[k.toNat]? = some o := ⟨_, List.getElem?_eq_getElem hkl⟩
        refine ⟨fun s => (s = true ↔ keyH mp o.1 = keyH mp ok.1 ∧ keyP mp o.2 = keyP mp ok.2), fun s hs => ⟨i0, ?_, fun x9 hx9 => ⟨k0, ?_, fun x10 hx10 => ?_⟩⟩, ?_⟩
        · rw [hpl']; omega
        · rw [hpl']; omega
        · obtain ⟨x, hx, a1, a2, a3⟩ := hj'.has i.toNat (by omega) o x9 ho hx9
          obtain ⟨y, hy, b1, b2, b3⟩ := hj'.has k.toNat (by omega) ok x10 hok hx10
          have hone := hj'.one x hx y hy
          rw [a1, a2, a3, b1, b2, b3] at hone
          have e : (x9 == x10) = s := by
            cases s with
            | true => simpa using hone.2 (hs.1 rfl)
            | false =>
              simp only [beq_eq_false_iff_ne]
              intro hc
              have := hs.2 (hone.1 hc)
              cases this
          refine cond_f (by rw [e]; cases s <;> rfl) ⟨_, ?_, ?_, ?_, rfl⟩
          all_goals rw [wrap_i64 (by omega) (by omega)]
          all_goals omega
        · unfold keyH keyP
          refine cond_e (fun m0 => by simp [m0]) (fun m0 => ⟨i0, hlt, fun x5 hx5 => ⟨k0, by omega, fun x6 hx6 => ?_⟩⟩)
          rw [ho] at hx5; cases hx5
          rw [hok] at hx6; cases hx6
          refine cond_e (fun eh => cond_e (fun m1 => by simp [m1, eh]) (fun m1 => ⟨i0, hlt, fun x7 hx7 => ⟨k0, by omega, fun x8 hx8 => ?_⟩⟩)) (fun eh => by simp [m0, eh])
          rw [ho] at hx7; cases hx7
          rw [hok] at hx8; cases hx8
          simp [m0, m1, eh]
      all_goals rw [wrap_i64 (by omega) (by omega)]
      · omega
      · omega
      · omega
      · rw [show (i + 1).toNat = i.toNat + 1 by omega]; exact hj'
  · rw [ho] at hx; cases hx
    have key : nat_Nat_Out_wp 3405803777 40000 40009 mp (c / 3 % 3) 30 12 l now 1 ih ip o.1 o.2 m (fun r_10 r_11 r_12 l' now' m' => r_12 = 1 ∨ (r_12 = 0 ∧ now' = 1 ∧ ∃ bs', Rep m' l' bs' ∧ J ih ip mp others bs' (ports ++ [r_11]) (i.toNat + 1))) := by
      refine out_wp hr (by omega) (by omega) (by omega) (by omega) (by omega) (fun x hx => (hj.like x hx).2.2.2.2) (fun _ => .inl rfl) (fun _ l' m' hr' _ => ?_)
      obtain ⟨p, bs', e, hj'⟩ := hj.step (by omega) ho
      rw [hj.live, e] at hr' ⊢
      exact .inr ⟨rfl, rfl, bs', hr', hj'⟩
    exact ⟨key, key⟩

end Go.Proofs.Ythhbnjcebmhilaa
