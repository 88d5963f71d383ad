/- The plain side of the statements on votes: the reference's answers; what is asked first. -/
import Derived.Test.YtgcodbcfcaacgaaP
namespace Go.Proofs.Ytgcodbcfcaacgaa
open Go Go.Eng

/-- A loop over places. -/
theorem take_snoc {α : Type} {l : List α} {i : Int} {x : α} (h0 : 0 ≤ i) (hx : l[i.toNat]? = some x) : l.take (i + 1).toNat = l.take i.toNat ++ [x] := by
  obtain ⟨hi, rfl⟩ := List.getElem?_eq_some_iff.1 hx
  rw [show (i + 1).toNat = i.toNat + 1 by omega, List.take_succ_eq_append_getElem hi]

theorem take_all {α : Type} {l : List α} {i : Int} (h : ¬ i < l.length) (h1 : i ≤ l.length) : l.take i.toNat = l := by
  rw [show i.toNat = l.length by omega, List.take_length]

theorem get_lt {α : Type} {l : List α} {i : Nat} {x : α} (hx : l[i]? = some x) : i < l.length := (List.getElem?_eq_some_iff.1 hx).1

theorem ron_wp {L : List Vo} {now t : Int} {K : List Vo → Int → Prop} (ho : okV L) (hl : L.length ≤ 200) (hK : K (onL (nowOn now t) L) (nowOn now t)) : embrasureref18_Box_on_wp L now t K := by
  unfold embrasureref18_Box_on_wp
  have hgo : ∀ N, N = nowOn now t → ∃ (I : Nat → List Vo → Int → Prop), (∃ n, I n [] 0) ∧ ∀ (n_2 : Nat) (l_1 : List Vo) (i5 : Int), I n_2 l_1 i5 → (cond (decide ((i5 : Int) < ((L.length : Nat) : Int))) (0 ≤ (i5 : Int) ∧ (i5 : Int) < ((L.length : Nat) : Int) ∧ (∀ (x_1 : Int × Int × Int × Int), L[Int.toNat i5]? = some x_1 → (cond (decide (((IntKind.wrap .i64 (x_1.2.2.2 + 600)) : Int) > N)) (0 ≤ (i5 : Int) ∧ (i5 : Int) < ((L.length : Nat) : Int) ∧ (∀ (x_2 : Int × Int × Int × Int), L[Int.toNat i5]? = some x_2 → ((l_1.length + [x_2].length) * 32 ≤ 140737488355328 ∧ (∃ (n_3 : Nat), n_3 < n_2 ∧ I n_3 (l_1 ++ [x_2]) (IntKind.wrap .i64 (i5 + 1)))))) (∃ (n_4 : Nat), n_4 < n_2 ∧ I n_4 l_1 (IntKind.wrap .i64 (i5 + 1)))))) (K l_1 N)) := by
    rintro N rfl
    refine ⟨fun n l i => 0 ≤ i ∧ i ≤ L.length ∧ n = L.length - i.toNat ∧ l = onL (nowOn now t) (L.take i.toNat), ⟨_, by omega, by omega, rfl, rfl⟩, ?_⟩
    rintro n l i ⟨h0, h1, rfl, rfl⟩
    refine cond_d (fun hlt => ⟨h0, hlt, fun x hx => ?_⟩) (fun hge => by rw [take_all hge h1]; exact hK)
    have hok := ho x (List.mem_of_getElem? hx)
    have hfl := onL_len (nowOn now t) (L.take i.toNat)
    rw [List.length_take] at hfl
    rw [wrap_i64 (x := x.2.2.2 + 600) (by omega) (by omega), wrap_i64 (x := i + 1) (by omega) (by omega)]
    refine cond_d (fun hc => ⟨h0, hlt, fun y hy => ?_⟩) (fun hc => ⟨_, ?_, by omega, by omega, rfl, ?_⟩)
    · rw [hx] at hy; cases hy
      refine ⟨by simp only [List.length_cons, List.length_nil]; omega, _, ?_, by omega, by omega, rfl, ?_⟩
      · omega
      · rw [take_snoc h0 hx]
        unfold onL
        rw [List.filter_append]
        have : dead (nowOn now t) x = false := by unfold dead; simp only [decide_eq_false_iff_not]; omega
        simp [this]
    · omega
    · rw [take_snoc h0 hx]
      unfold onL
      rw [List.filter_append]
      have : dead (nowOn now t) x = true := by unfold dead; simp only [decide_eq_true_eq]; omega
      simp [this]
  refine joinP1.i (cond_d (fun h => ?_) (fun h => ?_)) <;> refine joinP1.i (cond_d (fun h2 => ?_) (fun h2 => ?_))
  all_goals refine hgo _ ?_
  all_goals unfold nowOn
  all_goals (repeat' split) <;> omega

theorem rcast_wp {L : List Vo} {now t b h p : Int} {K : Int → List Vo → Int → Prop} (ho : okV L) (hl : L.length ≤ 100) (hb : 0 ≤ b ∧ b ≤ 4294967295) (hh : 0 ≤ h)
    (h1 : badC now t b h p → K 1 L now) (h2 : ¬ badC now t b h p → K 0 (castL (onL t L) (b / 65536) (h, p) t) t) : embrasureref18_Box_Cast_wp L now t b h p K := by
  unfold embrasureref18_Box_Cast_wp
  refine ⟨fun x => (x = true ↔ badC now t b h p), fun x hx => ?_, ?_⟩
  · refine cond_b (fun e => h1 (hx.1 e)) (fun e => ?_)
    have hm : ¬ badC now t b h p := fun hc => by rw [hx.2 hc] at e; cases e
    have h2 := h2 hm
    unfold badC at hm
    have en : nowOn now t = t := nowOn_eq (by omega) (by omega)
    refine ron_wp ho (by omega) ?_
    rw [en]
    have hfl := onL_len t L
    have eg : IntKind.wrap .u32 (Int.tdiv b 65536) = b / 65536 := by
      rw [tdiv_pos hb.1]; exact wrap_u32 (by omega) (by omega)
    rw [eg]
    generalize onL t L = M at h2 hfl ⊢
    refine ⟨fun l => l = M.filter fun v => !isP (b / 65536) (h, p) v, fun l hle => ?_, ?_⟩
    · subst hle
      have hfl2 := List.length_filter_le (fun v => !isP (b / 65536) (h, p) v) M
      unfold castL at h2
      generalize M.filter (fun v => !isP (b / 65536) (h, p) v) = F at h2 hfl2 ⊢
      have hlen : (F ++ [(b / 65536, h, p, t)]).length = F.length + 1 := by simp
      refine ⟨by simp only [List.length_cons, List.length_nil]; omega, joinP1.i ?_⟩
      rw [hlen]
      refine cond_d (fun hc => ⟨by decide, by omega, ?_⟩) (fun hc => ?_)
      · rw [← hlen, List.take_length]
        have : F.length + 1 - 100 = Int.toNat 1 := by simp; omega
        rw [this] at h2
        exact h2
      · have : F.length + 1 - 100 = 0 := by omega
        rw [this, List.drop_zero] at h2
        exact h2
    · refine ⟨fun n l i => 0 ≤ i ∧ i ≤ M.length ∧ n = M.length - i.toNat ∧ l = (M.take i.toNat).filter fun v => !isP (b / 65536) (h, p) v, ⟨_, by omega, by omega, rfl, rfl⟩, ?_⟩
      rintro n l i ⟨h0, h1, rfl, rfl⟩
      refine cond_d (fun hlt => ?_) (fun hge => by rw [take_all hge h1])
      have hfl := List.length_filter_le (fun v => !isP (b / 65536) (h, p) v) (M.take i.toNat)
      rw [List.length_take] at hfl
      refine ⟨fun y => ∀ x, M[i.toNat]? = some x → y = !isP (b / 65536) (h, p) x, fun y hy => ?_, ?_⟩
      · refine cond_b (fun e => ⟨h0, hlt, fun x hx => ?_⟩) (fun e => ?_)
        · rw [hy x hx] at e
          rw [wrap_i64 (x := i + 1) (by omega) (by omega)]
          refine ⟨by simp only [List.length_cons, List.length_nil]; omega, _, ?_, by omega, by omega, rfl, ?_⟩
          · omega
          · rw [take_snoc h0 hx, List.filter_append]
            simp [e]
        · obtain ⟨x, hx⟩ : ∃ x, M[i.toNat]? = some x := ⟨M[i.toNat]'(by omega), List.getElem?_eq_getElem (by omega)⟩
          rw [hy x hx] at e
          rw [wrap_i64 (x := i + 1) (by omega) (by omega)]
          refine ⟨_, ?_, by omega, by omega, rfl, ?_⟩
          · omega
          · rw [take_snoc h0 hx, List.filter_append]
            simp [e]
      · refine ⟨h0, hlt, fun x hx => cond_n (fun hc y hy => ?_) (fun hc => ⟨h0, hlt, fun z hz y hy => ?_⟩)⟩
        · rw [hx] at hy; cases hy
          unfold isP; simp [hc]
        · rw [hx] at hz hy; cases hz; cases hy
          unfold isP adr
          rw [Bool.eq_iff_iff]
          simp [hc]
  · refine cond_e (fun e => ?_) (fun e1 => rmay_wp hh (cond_b (fun e2 => ?_) (fun e2 => cond_d (fun e3 => ?_) (fun e3 => ?_))))
    all_goals simp only [Bool.not_eq_true', decide_eq_false_iff_not, Bool.not_eq_false', decide_eq_true_eq, true_iff] at *
    all_goals unfold badC
    · exact .inl e
    · exact .inr (.inl e2)
    · exact .inr (.inr (.inl e3))
    · constructor
      · intro h; exact .inr (.inr (.inr h))
      · rintro (h | h | h | h)
        · exact absurd h e1
        · exact absurd e2 h
        · exact absurd h e3
        · exact h

theorem rcount_wp {L : List Vo} {now t h p : Int} {K : Int → List Vo → Int → Prop} (ho : okV L) (hl : L.length ≤ 200) (hK : K (cnt (onL (nowOn now t) L) (h, p)) (onL (nowOn now t) L) (nowOn now t)) : embrasureref18_Box_Count_wp L now t h p K := by
  unfold embrasureref18_Box_Count_wp
  refine ron_wp ho hl ?_
  have hfl := onL_len (nowOn now t) L
  generalize onL (nowOn now t) L = M at hK hfl ⊢
  refine ⟨fun n c i => 0 ≤ i ∧ i ≤ M.length ∧ n = M.length - i.toNat ∧ c = cnt (M.take i.toNat) (h, p), ⟨_, by omega, by omega, rfl, rfl⟩, ?_⟩
  rintro n c i ⟨h0, h1, rfl, rfl⟩
  refine cond_d (fun hlt => ⟨h0, hlt, fun x hx => ?_⟩) (fun hge => by rw [take_all hge h1]; exact hK)
  have hc := cnt_le (M.take i.toNat) (h, p)
  rw [List.length_take] at hc
  rw [wrap_i64 (x := i + 1) (by omega) (by omega), wrap_i64 (x := cnt _ _ + 1) (by omega) (by omega)]
  have htk := take_snoc h0 hx
  refine cond_b (fun e => ⟨_, (by omega : M.length - (i + 1).toNat < M.length - i.toNat), by omega, by omega, rfl, ?_⟩) (fun e => ⟨_, (by omega : M.length - (i + 1).toNat < M.length - i.toNat), by omega, by omega, rfl, ?_⟩)
  · rw [htk, cnt_snoc, if_pos]
    simp at e
    unfold adr
    rw [e.1, e.2]
  · rw [htk, cnt_snoc, if_neg]
    · omega
    · intro e2
      unfold adr at e2
      rw [Prod.mk.injEq] at e2
      rw [e2.1, e2.2] at e
      simp at e

theorem less_wp {a b c d : Int} {K : Bool → Prop} (hK : K (decide (a < c ∨ a = c ∧ b < d))) : embrasureref03_Less_wp a b c d K := by
  unfold embrasureref03_Less_wp
  refine cond_d (fun h => ?_) (fun h => cond_e (fun h2 => ?_) (fun h2 => ?_))
  · rw [show decide (a < c ∨ a = c ∧ b < d) = true by simp [h]] at hK; exact hK
  · rw [show decide (a < c ∨ a = c ∧ b < d) = decide (b < d) by rw [Bool.eq_iff_iff]; simp only [decide_eq_true_eq]; omega] at hK; exact hK
  · rw [show decide (a < c ∨ a = c ∧ b < d) = false by simp only [decide_eq_false_iff_not]; omega] at hK; exact hK

/-- The best of those that were looked at. -/
def Best (L : List Vo) (out : List Ad) (k : Nat) (H P n : Int) : Prop :=
  (n = 0 ∧ ∀ v ∈ L.take k, adr v ∉ out → ¬ 4 ≤ cnt L (adr v)) ∨
  (n = cnt L (H, P) ∧ 4 ≤ n ∧ (H, P) ∉ out ∧ ∀ v ∈ L.take k, adr v ∉ out → 4 ≤ cnt L (adr v) → ¬ bef (cnt L) (adr v) (H, P))

theorem rheld_wp {L : List Vo} {now t : Int} {K : List Ad → List Vo → Int → Prop} (ho : okV L) (hl : L.length ≤ 200) {zs : List Ad} (hz : Held (onL (nowOn now t) L) zs)
    (hK : K (zs.take 3) (onL (nowOn now t) L) (nowOn now t)) : embrasureref18_Box_Held_wp L now t K := by
  unfold embrasureref18_Box_Held_wp
  refine ron_wp ho hl ?_
  have hfl := onL_len (nowOn now t) L
  have hoM := ho.on (nowOn now t)
  have hMM := onL_on (nowOn now t) L
  generalize onL (nowOn now t) L = M at hK hfl hz hoM hMM ⊢
  have hNN := nowOn_again now t
  generalize nowOn now t = N at hK hMM hNN ⊢
  refine ⟨fun n l N' out => n = 3 - out.length ∧ M = l ∧ N = N' ∧ out.length ≤ 3 ∧ out = zs.take out.length, ⟨_, rfl, rfl, rfl, by simp, by simp⟩, ?_⟩
  rintro n l N' out ⟨rfl, rfl, rfl, ho3, hout⟩
  refine cond_d (fun hlt => ?_) (fun hge => ?_)
  rotate_left
  · have : out.length = 3 := by omega
    rw [this] at hout
    rw [hout]; exact hK
  refine ⟨fun H P l N2 c => M = l ∧ N = N2 ∧ Best M out M.length H P c, fun H P l N2 c hb => ?_, ?_⟩
  · obtain ⟨rfl, rfl, hb⟩ := hb
    have hsub : ∀ a, a ∈ out → a ∈ zs.take out.length := fun a h => by rw [← hout]; exact h
    refine cond_e (fun h0 => ?_) (fun h0 => ?_)
    · -- none is left
      rcases hb with ⟨-, hb⟩ | ⟨-, h4, -⟩
      · have hall : zs.length ≤ out.length := by
          refine Classical.byContradiction fun hc => ?_
          have hi : out.length < zs.length := by omega
          have hm : zs[out.length] ∈ zs := List.getElem_mem hi
          have h4 := (hz.mem _).1 hm
          obtain ⟨v, hv, e⟩ := cnt_pos.1 (show 0 < cnt M zs[out.length] by omega)
          rw [List.take_length] at hb
          refine hb v hv ?_ (by rw [e]; exact h4)
          rw [e]
          intro hmem
          obtain ⟨j, hj⟩ := List.getElem?_of_mem (hsub _ hmem)
          rw [List.getElem?_take] at hj
          split at hj
          · rename_i hjl
            have := nd_idx hz.nd hj (List.getElem?_eq_getElem hi)
            omega
          · cases hj
        rw [List.take_of_length_le hall] at hout
        rw [List.take_of_length_le (by omega)] at hK
        rw [hout]; exact hK
      · omega
    · rcases hb with ⟨h, -⟩ | ⟨rfl, h4, hno, hb⟩
      · exact absurd h h0
      · have hm := (hz.mem (H, P)).2 h4
        obtain ⟨j, hj⟩ := List.getElem?_of_mem hm
        have hjl := get_lt hj
        have hoj : out.length ≤ j := by
          refine Nat.le_of_not_lt fun hc => hno ?_
          rw [hout]
          exact List.mem_of_getElem? (i := j) (by rw [List.getElem?_take, if_pos (by simpa using hc)]; exact hj)
        have ej : j = out.length := by
          refine Classical.byContradiction fun hne => ?_
          have hi : out.length < zs.length := by omega
          have hm2 : zs[out.length] ∈ zs := List.getElem_mem hi
          have h42 := (hz.mem _).1 hm2
          obtain ⟨v, hv, e⟩ := cnt_pos.1 (show 0 < cnt M zs[out.length] by omega)
          rw [List.take_length] at hb
          refine hb v hv ?_ (by rw [e]; exact h42) ?_
          · rw [e]
            intro hmem
            obtain ⟨j2, hj2⟩ := List.getElem?_of_mem (hsub _ hmem)
            rw [List.getElem?_take] at hj2
            split at hj2
            · rename_i hjl
              have := nd_idx hz.nd hj2 (List.getElem?_eq_getElem hi)
              omega
            · cases hj2
          · rw [e]
            have := List.pairwise_iff_getElem.1 hz.srt out.length j hi hjl (by omega)
            rw [List.getElem?_eq_getElem hjl, Option.some.injEq] at hj
            rw [← hj]
            exact this
        refine ⟨by simp only [List.length_cons, List.length_nil]; omega, 3 - (out ++ [(H, P)]).length, ?_, rfl, rfl, rfl, ?_, ?_⟩
        · simp only [List.length_append, List.length_cons, List.length_nil]; omega
        · simp only [List.length_append, List.length_cons, List.length_nil]; omega
        · subst ej
          have hl2 : (out ++ [(H, P)]).length = out.length + 1 := by simp
          rw [hl2, List.take_succ_eq_append_getElem hjl, ← hout]
          rw [List.getElem?_eq_getElem hjl, Option.some.injEq] at hj
          rw [hj]
  · refine ⟨fun n H P l N2 c i => M = l ∧ N = N2 ∧ 0 ≤ i ∧ i ≤ M.length ∧ n = M.length - i.toNat ∧ Best M out i.toNat H P c, ⟨_, rfl, rfl, by omega, by omega, rfl, .inl ⟨rfl, by simp⟩⟩, ?_⟩
    rintro n H P l N2 c i ⟨rfl, rfl, h0, h1, rfl, hb⟩
    refine cond_d (fun hlt => ⟨h0, hlt, fun x hx => ?_⟩) (fun hge => ⟨rfl, rfl, by rw [show i.toNat = M.length by omega] at hb; exact hb⟩)
    refine ⟨fun told => told = decide (adr x ∈ out), fun told ht => ?_, ?_⟩
    · refine rcount_wp hoM (by omega) ?_
      rw [hNN, hMM]
      have hx2 : (x.2.1, x.2.2.1) = adr x := rfl
      rw [hx2]
      refine ⟨fun y => y = true ↔ (adr x ∉ out ∧ 4 ≤ cnt M (adr x) ∧ (cnt M (adr x) > c ∨ cnt M (adr x) = c ∧ (x.2.1 < H ∨ x.2.1 = H ∧ x.2.2.1 < P))), fun y hy => ?_, ?_⟩
      · have htk := take_snoc h0 hx
        rw [wrap_i64 (x := i + 1) (by omega) (by omega)]
        refine cond_b (fun e => ⟨_, (by omega : M.length - (i + 1).toNat < M.length - i.toNat), rfl, rfl, by omega, by omega, rfl, ?_⟩) (fun e => ⟨_, (by omega : M.length - (i + 1).toNat < M.length - i.toNat), rfl, rfl, by omega, by omega, rfl, ?_⟩)
        · obtain ⟨g1, g2, g3⟩ := hy.1 e
          refine .inr ⟨rfl, g2, g1, ?_⟩
          rw [htk]
          intro v hv hvo hv4
          rcases List.mem_append.1 hv with hv | hv
          · rcases hb with ⟨-, hb⟩ | ⟨hb1, hb2, hb3, hb⟩
            · exact absurd hv4 (hb v hv hvo)
            · have := hb v hv hvo hv4
              intro hbb
              have hx3 : bef (cnt M) (adr x) (H, P) := by
                unfold bef
                rw [← hb1]
                rcases g3 with g3 | ⟨g3, g4⟩
                · exact .inl g3
                · exact .inr ⟨g3.symm, g4⟩
              exact this (bef_tr _ _ _ _ hbb hx3)
          · simp only [List.mem_cons, List.not_mem_nil, or_false] at hv
            subst hv
            exact bef_irr _ _
        · have hn : ¬ (adr x ∉ out ∧ 4 ≤ cnt M (adr x) ∧ (cnt M (adr x) > c ∨ cnt M (adr x) = c ∧ (x.2.1 < H ∨ x.2.1 = H ∧ x.2.2.1 < P))) := fun hc => by rw [hy.2 hc] at e; cases e
          rcases hb with ⟨rfl, hb⟩ | ⟨hb1, hb2, hb3, hb⟩
          · refine .inl ⟨rfl, ?_⟩
            rw [htk]
            intro v hv hvo hv4
            rcases List.mem_append.1 hv with hv | hv
            · exact hb v hv hvo hv4
            · simp only [List.mem_cons, List.not_mem_nil, or_false] at hv
              subst hv
              exact hn ⟨hvo, hv4, .inl (by omega)⟩
          · refine .inr ⟨hb1, hb2, hb3, ?_⟩
            rw [htk]
            intro v hv hvo hv4
            rcases List.mem_append.1 hv with hv | hv
            · exact hb v hv hvo hv4
            · simp only [List.mem_cons, List.not_mem_nil, or_false] at hv
              subst hv
              intro hbb
              refine hn ⟨hvo, hv4, ?_⟩
              unfold bef at hbb
              rw [← hb1] at hbb
              rcases hbb with hbb | ⟨hbb, hbb2⟩
              · exact .inl hbb
              · exact .inr ⟨hbb.symm, hbb2⟩
      · subst ht
        refine cond_b (fun e => ?_) (fun e => ?_)
        · have hno : adr x ∉ out := by simpa using e
          refine cond_d (fun h4 => cond_d (fun hg => ?_) (fun hg => cond_e (fun he => less_wp ?_) (fun he => ?_))) (fun h4 => ?_)
          · simp only [true_iff]; exact ⟨hno, h4, .inl hg⟩
          · simp only [decide_eq_true_eq]
            constructor
            · intro hh; exact ⟨hno, h4, .inr ⟨he, hh⟩⟩
            · rintro ⟨-, -, hh | hh⟩
              · exact absurd hh hg
              · exact hh.2
          · simp only [Bool.false_eq_true, false_iff]
            rintro ⟨-, -, hh | hh⟩
            · exact hg hh
            · exact he hh.1
          · simp only [Bool.false_eq_true, false_iff]
            rintro ⟨-, hh, -⟩
            exact h4 hh
        · have hno : adr x ∈ out := by simpa using e
          simp only [Bool.false_eq_true, false_iff]
          rintro ⟨hh, -⟩
          exact hh hno
    · refine ⟨fun n told k => 0 ≤ k ∧ k ≤ out.length ∧ n = out.length - k.toNat ∧ told = decide (adr x ∈ out.take k.toNat), ⟨_, by omega, by omega, rfl, by simp⟩, ?_⟩
      rintro n told k ⟨k0, k1, rfl, rfl⟩
      refine cond_d (fun hkl => cond_b (fun e => ?_) (fun e => ⟨k0, hkl, fun y hy => ?_⟩)) (fun hkl => by rw [take_all hkl k1])
      · rw [wrap_i64 (x := k + 1) (by omega) (by omega)]
        refine ⟨_, (by omega : out.length - (k + 1).toNat < out.length - k.toNat), by omega, by omega, rfl, ?_⟩
        simp only [decide_eq_true_eq] at e
        symm
        simp only [decide_eq_true_eq]
        rw [show (k + 1).toNat = k.toNat + 1 by omega, List.take_succ_eq_append_getElem (by omega)]
        exact List.mem_append.2 (.inl e)
      · rw [wrap_i64 (x := k + 1) (by omega) (by omega)]
        refine ⟨_, (by omega : out.length - (k + 1).toNat < out.length - k.toNat), by omega, by omega, rfl, ?_⟩
        rw [take_snoc k0 hy]
        simp only [decide_eq_false_iff_not] at e
        rw [Bool.eq_iff_iff]
        simp only [decide_eq_true_eq, List.mem_append, e, false_or, List.mem_cons, List.not_mem_nil, or_false]
        unfold adr
        obtain ⟨y1, y2⟩ := y
        simp
        constructor <;> rintro ⟨a, b⟩ <;> exact ⟨a.symm, b.symm⟩

theorem addrs_wp {a b : List Ad} {K : Bool → Prop} (h : a = b) (hl : a.length ≤ 1000) (hK : K true) : embrasureref18_Addrs_wp a b K := by
  subst h
  unfold embrasureref18_Addrs_wp
  refine cond_n (fun h => absurd rfl h) (fun _ => ⟨fun n i => 0 ≤ i ∧ i ≤ a.length ∧ n = a.length - i.toNat, ⟨_, by omega, by omega, rfl⟩, ?_⟩)
  rintro n i ⟨h0, h1, rfl⟩
  refine cond_d (fun hlt => ⟨h0, hlt, fun x hx => ⟨h0, hlt, fun y hy => ?_⟩⟩) (fun _ => hK)
  rw [hx] at hy; cases hy
  refine cond_f (by simp) ⟨_, ?_, ?_, ?_, rfl⟩
  all_goals rw [wrap_i64 (by omega) (by omega)]
  all_goals omega

end Go.Proofs.Ytgcodbcfcaacgaa
