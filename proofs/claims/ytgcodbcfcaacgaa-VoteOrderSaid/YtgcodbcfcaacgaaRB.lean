/- The plain side of the statements on votes: VoteGroups, VoteOrder. -/
import Derived.Test.YtgcodbcfcaacgaaR
namespace Go.Proofs.Ytgcodbcfcaacgaa
open Go Go.Eng

theorem or_low16 {m c : Nat} (hm : m < 65536) (hc : c < 65536) : bitsV .or .u32 ((m : Int) * 65536) (c : Int) = (m : Int) * 65536 + c := by
  unfold bitsV
  simp only [IntKind.bits]
  have e1 : (BitVec.ofInt 32 ((m : Int) * 65536)).toNat = m * 65536 := by rw [BitVec.toNat_ofInt]; omega
  have e2 : (BitVec.ofInt 32 (c : Int)).toNat = c := by rw [BitVec.toNat_ofInt]; omega
  have e3 : (BitVec.ofInt 32 ((m : Int) * 65536) ||| BitVec.ofInt 32 (c : Int)).toNat = m * 65536 + c := by
    rw [BitVec.toNat_or, e1, e2]
    have := Nat.shiftLeft_add_eq_or_of_lt (i := 16) (b := c) (by omega) m
    rw [Nat.shiftLeft_eq] at this
    exact this.symm
  show IntKind.wrap .u32 (((BitVec.ofInt 32 ((m : Int) * 65536) ||| BitVec.ofInt 32 (c : Int)).toNat : Nat) : Int) = _
  rw [e3]
  rw [wrap_u32 (by omega) (by omega)]
  omega

/-- The number by which group g votes. -/
theorem by_group {g b : Int} (hg : 0 ≤ g ∧ g ≤ 65535) (hb : 0 ≤ b ∧ b ≤ 4294967295) :
    (bitsV .or .u32 (IntKind.wrap .u32 ((IntKind.wrap .u32 g) * 2 ^ (min (Int.toNat 16) (IntKind.bits .u32)))) (Int.tmod b 65536)) / 65536 = g := by
  have e : ((2 : Int) ^ (min (Int.toNat 16) (IntKind.bits .u32))) = 65536 := by decide
  rw [e, wrap_u32 (x := g) (by omega) (by omega), wrap_u32 (x := g * 65536) (by omega) (by omega), tmod_pos hb.1]
  have h := or_low16 (m := g.toNat) (c := (b % 65536).toNat) (by omega) (by omega)
  rw [show ((g.toNat : Nat) : Int) = g by omega, show (((b % 65536).toNat : Nat) : Int) = b % 65536 by omega] at h
  rw [h]
  omega

def ND (l : List Vo) : Prop := l.Pairwise fun v w => (v.1, adr v) ≠ (w.1, adr w)
def GR (S : List Int) (l : List Vo) : Prop := ∀ v ∈ l, v.1 ∈ S

theorem ND.on {l : List Vo} (h : ND l) (n : Int) : ND (onL n l) := List.Pairwise.sublist List.filter_sublist h
theorem ND.cast {l : List Vo} (h : ND l) (g t : Int) (a : Ad) : ND (castL l g a t) := by
  unfold castL
  refine List.Pairwise.sublist (List.drop_sublist _ _) ?_
  rw [List.pairwise_append]
  refine ⟨List.Pairwise.sublist List.filter_sublist h, by simp, fun v hv w hw => ?_⟩
  simp only [List.mem_cons, List.not_mem_nil, or_false] at hw
  subst hw
  have := (List.mem_filter.1 hv).2
  unfold isP at this
  simp only [Bool.not_eq_true', decide_eq_false_iff_not] at this
  intro e
  rw [Prod.mk.injEq] at e
  exact this ⟨e.1, e.2⟩

theorem GR.on {S : List Int} {l : List Vo} (h : GR S l) (n : Int) : GR S (onL n l) := fun v hv => h v (List.mem_filter.1 hv).1
theorem GR.cast {S : List Int} {l : List Vo} (h : GR S l) {g t : Int} {a : Ad} (hg : g ∈ S) : GR S (castL l g a t) := by
  intro v hv
  rcases List.mem_append.1 (List.mem_of_mem_drop hv) with h2 | h2
  · exact h v (List.mem_filter.1 h2).1
  · simp only [List.mem_cons, List.not_mem_nil, or_false] at h2
    subst h2; exact hg

theorem cnt_groups {S : List Int} {l : List Vo} (h : ND l) (hg : GR S l) (a : Ad) : cnt l a ≤ S.length := by
  have hn : ((l.filter fun v => decide (adr v = a)).map fun v => v.1).Nodup := by
    rw [List.Nodup, List.pairwise_map]
    refine List.Pairwise.imp_of_mem ?_ (List.Pairwise.sublist List.filter_sublist h)
    intro v w hv hw hne e
    have h1 := (List.mem_filter.1 hv).2
    have h2 := (List.mem_filter.1 hw).2
    simp only [decide_eq_true_eq] at h1 h2
    exact hne (by rw [e, h1, h2])
  have := pigeon _ S hn fun x hx => by
    obtain ⟨v, hv, rfl⟩ := List.mem_map.1 hx
    exact hg v (List.mem_filter.1 hv).1
  rw [List.length_map] at this
  unfold cnt
  omega

theorem groups_step {l : List Vo} {now t b h p i : Int} {S : List Int} {script : List Vo} {y : Vo} {F : Prop} {Kn : List Vo → Int → Prop} (hok : OkB l now) (hnd : ND l) (hgr : GR S l) (hS : S.length = 3) (hb : b / 65536 ∈ S)
    (i0 : 0 ≤ i) (hlt : i < (script.length : Int)) (hy : script[i.toNat]? = some y) (hK : ∀ l2 now2, OkB l2 now2 → ND l2 → GR S l2 → Kn l2 now2) :
    vote_Box_Cast_wp l now t b h p (fun (_ : Int) list_3 (now_3 : Int) => joinP3 (fun list_4 (now_4 : Int) (t84 : Bool) => cond t84 F (Kn list_4 now_4)) (fun (Q_4 : List Vo → Int → Bool → Prop) => vote_Box_Held_wp list_3 now_3 t (fun rs list_5 (now_5 : Int) => cond ((((rs.length : Nat) : Int) : Int) != 0) (Q_4 list_5 now_5 true) (0 ≤ (i : Int) ∧ (i : Int) < ((script.length : Nat) : Int) ∧ (∀ (x_6 : Int × Int × Int × Int), script[Int.toNat i]? = some x_6 → vote_Box_Count_wp list_5 now_5 t x_6.2.2.1 x_6.2.2.2 (fun (r_2 : Int) list_6 (now_6 : Int) => Q_4 list_6 now_6 (decide ((r_2 : Int) > 3)))))))) := by
  have key : ∀ l2 now2, OkB l2 now2 → ND l2 → GR S l2 → joinP3 (fun list_4 (now_4 : Int) (t84 : Bool) => cond t84 F (Kn list_4 now_4)) (fun (Q_4 : List Vo → Int → Bool → Prop) => vote_Box_Held_wp l2 now2 t (fun rs list_5 (now_5 : Int) => cond ((((rs.length : Nat) : Int) : Int) != 0) (Q_4 list_5 now_5 true) (0 ≤ (i : Int) ∧ (i : Int) < ((script.length : Nat) : Int) ∧ (∀ (x_6 : Int × Int × Int × Int), script[Int.toNat i]? = some x_6 → vote_Box_Count_wp list_5 now_5 t x_6.2.2.1 x_6.2.2.2 (fun (r_2 : Int) list_6 (now_6 : Int) => Q_4 list_6 now_6 (decide ((r_2 : Int) > 3))))))) := by
    intro l2 now2 hok hnd hgr
    refine joinP3.i ?_
    have hl := hok.len
    refine held_wp hok.ok (by omega) (fun zs hz => ?_)
    have hok := hok.on t; have hnd := hnd.on (nowOn now2 t); have hgr := hgr.on (nowOn now2 t)
    have hl := hok.len
    obtain rfl := held_none hz (fun a => by have := cnt_groups hnd hgr a; omega)
    refine cond_f (by simp) ⟨i0, hlt, fun x hx => count_wp hok.ok (by omega) ?_⟩
    have hok := hok.on t; have hnd := hnd.on (nowOn (nowOn now2 t) t); have hgr := hgr.on (nowOn (nowOn now2 t) t)
    have := cnt_groups hnd hgr (x.2.2.1, x.2.2.2)
    exact cond_f (by simp only [decide_eq_false_iff_not]; omega) (hK _ _ hok hnd hgr)
  exact cast_wp hok.ok hok.len (fun _ => key _ _ hok hnd hgr) (fun hg => key _ _ (hok.cast hg) ((hnd.on _).cast _ _ _) ((hgr.on _).cast hb))

theorem voteGroups_plain {g0 g1 g2 : Int} {script : List (Int × Int × Int × Int)} (h0 : inK .u16 g0) (h1 : inK .u16 g1) (h2 : inK .u16 g2) (hs : ∀ x ∈ script, inK .i64 x.1 ∧ inK .u32 x.2.1 ∧ inK .u32 x.2.2.1 ∧ inK .i64 x.2.2.2) (_ : script.length ≤ 9223372036854775807) : embrasurelaw18_VoteGroups_wp g0 g1 g2 script (· = true) := by
  have h0 := u16b h0; have h1 := u16b h1; have h2 := u16b h2
  unfold embrasurelaw18_VoteGroups_wp
  refine awake_wp (cond_f rfl ?_)
  unfold vote_New_wp
  have ok0 : OkB [] 0 := ⟨by unfold okV; simp, by simp, by omega, by omega⟩
  refine joinP2.i ?_
  refine ⟨fun n l now t i => OkB l now ∧ ND l ∧ GR [g0, g1, g2] l ∧ 0 ≤ t ∧ t ≤ 1000 * i ∧ 0 ≤ i ∧ i ≤ 150 ∧ n = 150 - i.toNat, ⟨150, ok0, .nil, fun v hv => by simp at hv, by omega, by omega, by omega, by omega, rfl⟩, ?_⟩
  rintro n l now t i ⟨hok, hnd, hgr, t0, t1, i0, i1, rfl⟩
  refine ⟨fun x => x = true → i < script.length ∧ i < 150, fun x hx => cond_b (fun e => ?_) (fun _ => ?_), ?_⟩
  rotate_left 2
  · exact cond_d (fun h => by simp only [decide_eq_true_eq]; exact fun h2 => ⟨h, h2⟩) (fun _ => by simp)
  · obtain ⟨hlt, hi⟩ := hx e
    obtain ⟨y, hy⟩ : ∃ y, script[i.toNat]? = some y := ⟨script[i.toNat]'(by omega), List.getElem?_eq_getElem (by omega)⟩
    obtain ⟨-, hb, -, -⟩ := hs y (List.mem_of_getElem? hy)
    have hb := u32b hb
    have all : ∀ {P : (Int × Int × Int × Int) → Prop}, P y → (0 ≤ (i : Int) ∧ (i : Int) < ((script.length : Nat) : Int) ∧ (∀ x, script[Int.toNat i]? = some x → P x)) := fun hp => ⟨i0, hlt, fun x hx => by rw [hy] at hx; cases hx; exact hp⟩
    refine ⟨fun t2 => 0 ≤ t2 ∧ t2 ≤ 1000 * (i + 1), fun t2 ht2 => ?_, ?_⟩
    rotate_left
    · refine ⟨fun z => z = true → 0 < y.1 ∧ y.1 < 1000, fun z hz => cond_b (fun e => all ?_) (fun _ => by omega), all (cond_d (fun h => all ?_) (fun _ => by simp))⟩
      · obtain ⟨a, b⟩ := hz e
        rw [wrap_i64 (by omega) (by omega)]
        omega
      · simp only [decide_eq_true_eq]; exact fun h2 => ⟨by omega, h2⟩
    have em : Int.tmod i 3 = i % 3 := tmod_pos i0
    rw [em, wrap_i64 (x := i + 1) (by omega) (by omega)]
    refine ⟨by omega, by omega, fun _ => all (all ?_), fun _ => all (all ?_), fun _ => all (all ?_)⟩
    · refine groups_step hok hnd hgr rfl (by rw [by_group h0 hb]; simp) i0 hlt hy ?_
      intro l2 now2 a b c
      exact ⟨_, (by omega : 150 - (i + 1).toNat < 150 - i.toNat), a, b, c, ht2.1, ht2.2, by omega, by omega, rfl⟩
    · refine groups_step hok hnd hgr rfl (by rw [by_group h1 hb]; simp) i0 hlt hy ?_
      intro l2 now2 a b c
      exact ⟨_, (by omega : 150 - (i + 1).toNat < 150 - i.toNat), a, b, c, ht2.1, ht2.2, by omega, by omega, rfl⟩
    · refine groups_step hok hnd hgr rfl (by rw [by_group h2 hb]; simp) i0 hlt hy ?_
      intro l2 now2 a b c
      exact ⟨_, (by omega : 150 - (i + 1).toNat < 150 - i.toNat), a, b, c, ht2.1, ht2.2, by omega, by omega, rfl⟩
  · refine joinP2.i ?_
    refine ⟨fun n l now i => OkB l now ∧ 0 ≤ i ∧ i ≤ 150 ∧ n = 150 - i.toNat, ⟨150, ok0, by omega, by omega, rfl⟩, ?_⟩
    rintro n l now i ⟨hok, i0, i1, rfl⟩
    refine ⟨fun x => x = true → i < script.length ∧ i < 150, fun x hx => cond_b (fun e => ?_) (fun _ => ?_), ?_⟩
    rotate_left 2
    · exact cond_d (fun h => by simp only [decide_eq_true_eq]; exact fun h2 => ⟨h, h2⟩) (fun _ => by simp)
    · obtain ⟨hlt, hi⟩ := hx e
      rw [wrap_i64 (x := i + 1) (by omega) (by omega)]
      exact ⟨i0, hlt, fun x hx => ⟨i0, hlt, fun y hy => cast_wp hok.ok hok.len (fun _ => ⟨_, (by omega : 150 - (i + 1).toNat < 150 - i.toNat), hok, by omega, by omega, rfl⟩) (fun hg => ⟨_, (by omega : 150 - (i + 1).toNat < 150 - i.toNat), hok.cast hg, by omega, by omega, rfl⟩)⟩⟩
    · have hl := hok.len
      refine held_wp hok.ok (by omega) (fun zs hz => joinP2.i ?_)
      have hok := hok.on 1
      have hLL := onL_on (nowOn now 1) l
      generalize onL (nowOn now 1) l = L at hok hz hLL ⊢
      have hNN := nowOn_again now 1
      generalize nowOn now 1 = N at hok hLL hNN ⊢
      have eta : ∀ a : Ad, cnt L (a.1, a.2) = cnt L a := fun _ => rfl
      refine ⟨fun n l2 now2 i => L = l2 ∧ N = now2 ∧ 0 ≤ i ∧ i ≤ (zs.take 3).length ∧ n = (zs.take 3).length - i.toNat, ⟨_, rfl, rfl, by omega, by omega, rfl⟩, ?_⟩
      rintro n _ _ i ⟨rfl, rfl, i0, i1, rfl⟩
      have h3 : (zs.take 3).length ≤ 3 := by rw [List.length_take]; omega
      refine cond_d (fun hlt => ⟨i0, hlt, fun x hx => count_wp hok.ok (by have := hok.len; omega) ?_⟩) (fun _ => by simp only [decide_eq_true_eq]; omega)
      rw [hNN, hLL]
      have h4 := (hz.mem x).1 (List.mem_of_mem_take (List.mem_of_getElem? hx))
      rw [wrap_i64 (x := i + 1) (by omega) (by omega)]
      exact cond_f (by simp only [decide_eq_false_iff_not]; simp only [eta]; omega) ⟨_, (by omega : (zs.take 3).length - (i + 1).toNat < (zs.take 3).length - i.toNat), rfl, rfl, by omega, by omega, rfl⟩

/-! ### VoteOrder -/

def P4 : List Ad := [(1, 9), (2, 9), (3, 9), (4, 9)]
def In4 (l : List Vo) : Prop := ∀ v ∈ l, adr v ∈ P4

theorem In4.cast {l : List Vo} (h : In4 l) {g t : Int} {a : Ad} (ha : a ∈ P4) : In4 (castL l g a t) := by
  intro v hv
  rcases List.mem_append.1 (List.mem_of_mem_drop hv) with h2 | h2
  · exact h v (List.mem_filter.1 h2).1
  · simp only [List.mem_cons, List.not_mem_nil, or_false] at h2
    subst h2; exact ha
theorem In4.on {l : List Vo} (h : In4 l) (n : Int) : In4 (onL n l) := fun v hv => h v (List.mem_filter.1 hv).1

theorem In4.mem {l : List Vo} (h : In4 l) {a : Ad} (ha : 4 ≤ cnt l a) : a ∈ P4 := by
  obtain ⟨v, hv, e⟩ := cnt_pos.1 (show 0 < cnt l a by omega)
  rw [← e]; exact h v hv

theorem held_len {L : List Vo} {zs : List Ad} (hz : Held L zs) (h4 : In4 L) : zs.length = (P4.filter fun a => decide (4 ≤ cnt L a)).length := by
  refine Nat.le_antisymm (pigeon _ _ hz.nd fun a ha => ?_) (pigeon _ _ (List.Pairwise.sublist List.filter_sublist (by decide)) fun a ha => ?_)
  · have := (hz.mem a).1 ha
    exact List.mem_filter.2 ⟨h4.mem this, by simpa using this⟩
  · exact (hz.mem a).2 (by simpa using (List.mem_filter.1 ha).2)

theorem voteOrder_plain {votes : List Int} (hs : ∀ x ∈ votes, inK .u8 x) (_ : votes.length ≤ 9223372036854775807) : embrasurelaw18_VoteOrder_wp votes (· = true) := by
  unfold embrasurelaw18_VoteOrder_wp
  refine awake_wp (cond_f rfl ?_)
  unfold vote_New_wp
  refine joinP1.i (cond_d (fun _ => rfl) (fun h80 => joinP2.i ?_))
  have ok0 : OkB [] 0 := ⟨by unfold okV; simp, by simp, by omega, by omega⟩
  refine ⟨fun n l now i => OkB l now ∧ now ≤ 1 ∧ In4 l ∧ 0 ≤ i ∧ i ≤ votes.length ∧ n = votes.length - i.toNat, ⟨_, ok0, by omega, fun v hv => by simp at hv, by omega, by omega, rfl⟩, ?_⟩
  rintro n l now i ⟨hok, hn1, h4, i0, i1, rfl⟩
  refine cond_d (fun hlt => ⟨i0, hlt, fun x hx => ⟨i0, hlt, fun y hy => ?_⟩⟩) (fun _ => ?_)
  · rw [hx] at hy; cases hy
    have hx2 := u8b (hs x (List.mem_of_getElem? hx))
    rw [tmod_pos (a := x) hx2.1, wrap_u8 (x := 1 + x % 4) (by omega) (by omega), wrap_u32 (x := 1 + x % 4) (by omega) (by omega), wrap_i64 (x := i + 1) (by omega) (by omega)]
    have hp4 : ((1 + x % 4, 9) : Ad) ∈ P4 := by
      rcases (by omega : x % 4 = 0 ∨ x % 4 = 1 ∨ x % 4 = 2 ∨ x % 4 = 3) with e | e | e | e <;> rw [e] <;> decide
    refine cast_wp hok.ok hok.len (fun _ => ⟨_, (by omega : votes.length - (i + 1).toNat < votes.length - i.toNat), hok, hn1, h4, by omega, by omega, rfl⟩) (fun hg => ⟨_, (by omega : votes.length - (i + 1).toNat < votes.length - i.toNat), hok.cast hg, by omega, (h4.on 1).cast hp4, by omega, by omega, rfl⟩)
  · have hl := hok.len
    refine held_wp hok.ok (by omega) (fun zs hz => joinP2.i ?_)
    have hok := hok.on 1
    have h4 := h4.on (nowOn now 1)
    have hLL := onL_on (nowOn now 1) l
    generalize onL (nowOn now 1) l = L at hok hz hLL h4 ⊢
    have hNN := nowOn_again now 1
    generalize nowOn now 1 = N at hok hLL hNN ⊢
    have eta : ∀ a : Ad, cnt L (a.1, a.2) = cnt L a := fun _ => rfl
    have hl := hok.len
    have hzl := held_len hz h4
    have h3 : (zs.take 3).length ≤ 3 := by rw [List.length_take]; omega
    refine ⟨fun n l2 now2 i => L = l2 ∧ N = now2 ∧ 0 ≤ i ∧ i ≤ (zs.take 3).length ∧ n = (zs.take 3).length - i.toNat, ⟨_, rfl, rfl, by omega, by omega, rfl⟩, ?_⟩
    rintro n _ _ i ⟨rfl, rfl, i0, i1, rfl⟩
    refine cond_d (fun hlt => ⟨i0, hlt, fun x hx => count_wp hok.ok (by omega) ?_⟩) (fun _ => ?_)
    · rw [hNN, hLL]
      have hmx := List.mem_of_mem_take (List.mem_of_getElem? hx)
      have h4x := (hz.mem x).1 hmx
      rw [wrap_i64 (x := i + 1) (by omega) (by omega)]
      refine cond_f (by simp only [decide_eq_false_iff_not]; simp only [eta]; omega) ?_
      refine ⟨fun l2 now2 t => L = l2 ∧ N = now2 ∧ t = false, fun l2 now2 t ht => ?_, cond_d (fun hi => ?_) (fun _ => ⟨rfl, rfl, rfl⟩)⟩
      · obtain ⟨rfl, rfl, rfl⟩ := ht
        exact cond_f rfl ⟨_, (by omega : (zs.take 3).length - (i + 1).toNat < (zs.take 3).length - i.toNat), rfl, rfl, by omega, by omega, rfl⟩
      · rw [wrap_i64 (x := i - 1) (by omega) (by omega)]
        have hm1 : (i - 1).toNat < (zs.take 3).length := by omega
        obtain ⟨y, hy⟩ : ∃ y, (zs.take 3)[(i - 1).toNat]? = some y := ⟨_, List.getElem?_eq_getElem hm1⟩
        have all : ∀ {P : Ad → Prop}, P y → (0 ≤ ((i - 1) : Int) ∧ ((i - 1) : Int) < (((zs.take 3).length : Nat) : Int) ∧ (∀ x, (zs.take 3)[Int.toNat (i - 1)]? = some x → P x)) := fun hp => ⟨by omega, by omega, fun x hx => by rw [hy] at hx; cases hx; exact hp⟩
        have hmy := List.mem_of_mem_take (List.mem_of_getElem? hy)
        have hb : bef (cnt L) y x := by
          have hp := List.pairwise_iff_getElem.1 (hz.srt.sublist (List.take_sublist 3 zs)) (i - 1).toNat i.toNat hm1 (by omega) (by omega)
          rw [List.getElem?_eq_getElem hm1, Option.some.injEq] at hy
          have hi2 : i.toNat < (zs.take 3).length := by omega
          rw [List.getElem?_eq_getElem hi2, Option.some.injEq] at hx
          rw [← hy, ← hx]; exact hp
        have hport : ∀ a ∈ P4, a.2 = 9 := by decide
        have px := hport _ (h4.mem h4x)
        have py := hport _ (h4.mem ((hz.mem y).1 hmy))
        unfold bef at hb
        refine all (count_wp hok.ok (by omega) ?_)
        rw [hNN, hLL]
        refine cond_f (by simp only [decide_eq_false_iff_not, eta]; omega) (all (count_wp hok.ok (by omega) ?_))
        rw [hNN, hLL]
        refine cond_e (fun he => all ⟨i0, hlt, fun z hz2 => ?_⟩) (fun _ => ⟨rfl, rfl, rfl⟩)
        rw [hx] at hz2; cases hz2
        refine ⟨rfl, rfl, ?_⟩
        simp only [eta] at he
        simp only [decide_eq_false_iff_not]
        omega
    · refine joinP3.i ?_
      let pr := fun a : Ad => decide (4 ≤ cnt L a)
      refine ⟨fun n l2 now2 many h => L = l2 ∧ N = now2 ∧ 1 ≤ h ∧ h ≤ 5 ∧ n = 5 - h.toNat ∧ many = (((P4.take (h - 1).toNat).filter pr).length : Int), ⟨4, rfl, rfl, by omega, by omega, rfl, rfl⟩, ?_⟩
      rintro n _ _ many h ⟨rfl, rfl, h1, h5, rfl, rfl⟩
      have hpl : ((P4.take (h - 1).toNat).filter pr).length ≤ 4 := Nat.le_trans (List.length_filter_le _ _) (by rw [List.length_take]; unfold P4; simp only [List.length_cons, List.length_nil]; omega)
      refine cond_d (fun hle => count_wp hok.ok (by omega) ?_) (fun hgt => ?_)
      · rw [hNN, hLL, wrap_i64 (x := _ + 1) (by omega) (by omega), wrap_u32 (x := h + 1) (by omega) (by omega)]
        have hg : P4[(h - 1).toNat]? = some (h, 9) := by
          rcases (by omega : h = 1 ∨ h = 2 ∨ h = 3 ∨ h = 4) with rfl | rfl | rfl | rfl <;> rfl
        have ht := take_snoc (i := h - 1) (by omega) hg
        rw [show h - 1 + 1 = h + 1 - 1 by omega] at ht
        refine cond_d (fun hc => ⟨_, (by omega : 5 - (h + 1).toNat < 5 - h.toNat), rfl, rfl, by omega, by omega, rfl, ?_⟩) (fun hc => ⟨_, (by omega : 5 - (h + 1).toNat < 5 - h.toNat), rfl, rfl, by omega, by omega, rfl, ?_⟩)
        · rw [ht, List.filter_append, List.length_append]
          have : pr (h, 9) = true := by simp only [pr, decide_eq_true_eq]; exact hc
          simp [this]
        · rw [ht, List.filter_append, List.length_append]
          have : pr (h, 9) = false := by simp only [pr, decide_eq_false_iff_not]; exact hc
          simp [this]
      · have : h = 5 := by omega
        subst this
        have e5 : ((P4.take (5 - 1 : Int).toNat).filter pr).length = zs.length := by rw [hzl]; rfl
        simp only [beq_iff_eq]
        rw [e5, List.length_take]
        split <;> omega

end Go.Proofs.Ytgcodbcfcaacgaa
