/- The plain side: CircCaps. -/
import Derived.Test.YtjcebofaahbifaaQ
import Derived.Test.YtjcebofaahbifaaEngZ
namespace Go.Proofs.Ytjcebofaahbifaa
open Go Go.Eng

theorem flen (f : Ci → Bool) : ∀ l : List Ci, (l.filter fun c => !f c).length + (l.filter f).length = l.length
  | [] => rfl
  | c :: l => by
    have := flen f l
    cases h : f c <;> simp [h] <;> omega

/-- What went each way, as the statement counts it. -/
def sm (c : Ci) : Int × Int := if c.2.2.1 < c.2.1 then (c.2.2.2.2.2, c.2.2.2.2.1) else (c.2.2.2.2.1, c.2.2.2.2.2)

structure CI (lc data : Int) (U : List Int) (S : List (Int × Int)) (list gone : List Ci) (last now t : Int) : Prop where
  ul : U.length = 102
  sl : S.length = 102
  la : 0 ≤ last
  nt : 0 ≤ now ∧ now ≤ t
  ln : (list.length : Int) + gone.length ≤ last
  lc : (list.length : Int) ≤ lc
  inl : ∀ c ∈ list, (1 ≤ c.1 ∧ c.1 ≤ last) ∧ U[c.1.toNat]? = some c.2.2.2.1 ∧ S[c.1.toNat]? = some (sm c) ∧ c.2.1 ≠ c.2.2.1 ∧ okB data c
  ing : ∀ c ∈ gone, (1 ≤ c.1 ∧ c.1 ≤ last) ∧ U[c.1.toNat]? = some c.2.2.2.1 ∧ c.2.2.2.1 ≤ t
  nd : (list.map fun c => c.1).Nodup
  nw : ∀ k : Nat, last < k → k < 102 → S[k]? = some (0, 0)

section
variable {lc data : Int} {U : List Int} {S : List (Int × Int)} {list gone : List Ci} {last now t : Int}

theorem CI.mono (h : CI lc data U S list gone last now t) {t' : Int} (ht : t ≤ t') : CI lc data U S list gone last now t' :=
  ⟨h.ul, h.sl, h.la, ⟨h.nt.1, by have := h.nt.2; omega⟩, h.ln, h.lc, h.inl, fun c hc => by obtain ⟨a, b, c'⟩ := h.ing c hc; exact ⟨a, b, by omega⟩, h.nd, h.nw⟩

theorem CI.on (h : CI lc data U S list gone last now t) : CI lc data U S (list.filter fun c => !over t c) (gone ++ list.filter (over t)) last t t := by
  have hf := flen (over t) list
  have hln := h.ln
  have hlc := h.lc
  have hnt := h.nt
  refine ⟨h.ul, h.sl, h.la, ⟨by omega, Int.le_refl _⟩, by rw [List.length_append]; omega, by omega, fun c hc => h.inl c (List.mem_filter.1 hc).1, fun c hc => ?_, ?_, h.nw⟩
  · rcases List.mem_append.1 hc with hc | hc
    · exact h.ing c hc
    · obtain ⟨hc1, hc2⟩ := List.mem_filter.1 hc
      obtain ⟨a, b, -⟩ := h.inl c hc1
      refine ⟨a, b, ?_⟩
      unfold over at hc2
      simp at hc2
      exact hc2
  · exact h.nd.sublist (List.filter_sublist.map _)

theorem CI.erase (h : CI lc data U S list gone last now t) (i : Nat) : CI lc data U S (list.eraseIdx i) gone last now t := by
  have hle := (List.eraseIdx_sublist list i).length_le
  have hln := h.ln
  have hlc := h.lc
  exact ⟨h.ul, h.sl, h.la, h.nt, by omega, by omega, fun c hc => h.inl c ((List.eraseIdx_sublist list i).subset hc), h.ing, h.nd.sublist ((List.eraseIdx_sublist list i).map _), h.nw⟩

theorem CI.empty (h : CI lc data U S list gone last now t) : CI lc data U S list [] last now t := by
  have hln := h.ln
  exact ⟨h.ul, h.sl, h.la, h.nt, by simp; omega, h.lc, h.inl, fun c hc => by simp at hc, h.nd, h.nw⟩

theorem CI.opened (h : CI lc data U S list gone last now t) {a b u : Int} (hab : a ≠ b) (hl : last + 1 ≤ 101) (hc : (list.length : Int) < lc) (hd : 0 ≤ data) :
    CI lc data (U.set (last + 1).toNat u) S (list ++ [(last + 1, a, b, u, 0, 0)]) gone (last + 1) now t := by
  have hla := h.la
  have hul := h.ul
  have hln := h.ln
  have keep : ∀ (k : Int) (v : Int), 1 ≤ k → k ≤ last → U[k.toNat]? = some v → (U.set (last + 1).toNat u)[k.toNat]? = some v := by
    intro k v h1 h2 hv
    rw [List.getElem?_set_ne (by omega)]
    exact hv
  refine ⟨by simpa using hul, h.sl, by omega, h.nt, ?_, ?_, fun c hc' => ?_, fun c hc' => ?_, ?_, fun k hk hk2 => h.nw k (by omega) hk2⟩
  · simp only [List.length_append, List.length_singleton]; omega
  · simp only [List.length_append, List.length_singleton]; omega
  · rcases List.mem_append.1 hc' with hc' | hc'
    · obtain ⟨⟨a1, a2⟩, b, c⟩ := h.inl c hc'
      exact ⟨⟨a1, by omega⟩, keep _ _ a1 a2 b, c⟩
    · simp at hc'; subst hc'
      refine ⟨⟨by show 1 ≤ last + 1; omega, by show last + 1 ≤ last + 1; omega⟩, ?_, ?_, hab, ⟨by show 0 ≤ (0 : Int); omega, hd⟩, by show 0 ≤ (0 : Int); omega, hd⟩
      · exact List.getElem?_set_self (by omega)
      · have := h.nw (last + 1).toNat (by omega) (by omega)
        rw [this]
        unfold sm
        split <;> rfl
  · obtain ⟨⟨a1, a2⟩, b, c⟩ := h.ing c hc'
    exact ⟨⟨a1, by omega⟩, keep _ _ a1 a2 b, c⟩
  · rw [List.map_append, List.nodup_append]
    refine ⟨h.nd, by simp, fun x hx y hy => ?_⟩
    obtain ⟨c, hc', rfl⟩ := List.mem_map.1 hx
    have hy2 : y = last + 1 := by simpa using hy
    have := (h.inl c hc').1.2
    omega

theorem CI.put (h : CI lc data U S list gone last now t) {i : Nat} {c c' : Ci} (hc : list[i]? = some c) (e1 : c'.1 = c.1) (e2 : c'.2.1 = c.2.1) (e3 : c'.2.2.1 = c.2.2.1) (e4 : c'.2.2.2.1 = c.2.2.2.1) (hl : last ≤ 101) (hok : okB data c') :
    CI lc data U (S.set c.1.toNat (sm c')) (list.set i c') gone last now t := by
  have hcm := List.mem_of_getElem? hc
  have hil := (List.getElem?_eq_some_iff.1 hc).1
  obtain ⟨⟨k1, k2⟩, u1, s1, n1, -⟩ := h.inl c hcm
  have hsl := h.sl
  have hset : (list.set i c').map (fun c => c.1) = list.map fun c => c.1 := by
    rw [List.map_set, e1]
    apply List.ext_getElem?
    intro j
    by_cases ej : i = j
    · subst ej
      rw [List.getElem?_set_self (by simpa using hil), List.getElem?_map, hc]; rfl
    · rw [List.getElem?_set_ne ej]
  refine ⟨h.ul, by simpa using hsl, h.la, h.nt, by have := h.ln; simpa using this, by have := h.lc; simpa using this, fun d hd => ?_, h.ing, by rw [hset]; exact h.nd, fun k hk hk2 => ?_⟩
  · obtain ⟨j, hj⟩ := List.getElem?_of_mem hd
    by_cases ej : i = j
    · subst ej
      rw [List.getElem?_set_self hil] at hj
      cases hj
      refine ⟨by rw [e1]; exact ⟨k1, k2⟩, by rw [e1, e4]; exact u1, ?_, by rw [e2, e3]; exact n1, hok⟩
      rw [e1]
      exact List.getElem?_set_self (by omega)
    · rw [List.getElem?_set_ne ej] at hj
      have hdm := List.mem_of_getElem? hj
      obtain ⟨⟨d1, d2⟩, d3, d4, d5⟩ := h.inl d hdm
      have hne : c.1 ≠ d.1 := by
        intro e
        have h1 : (list.map fun c => c.1)[i]'(by simpa using hil) = (list.map fun c => c.1)[j]'(by have := (List.getElem?_eq_some_iff.1 hj).1; simpa using this) := by
          obtain ⟨_, q1⟩ := List.getElem?_eq_some_iff.1 hc
          obtain ⟨_, q2⟩ := List.getElem?_eq_some_iff.1 hj
          simp only [List.getElem_map, q1, q2, e]
        exact ej ((List.getElem_inj h.nd).1 h1)
      refine ⟨⟨d1, d2⟩, d3, ?_, d5⟩
      rw [List.getElem?_set_ne (by omega)]
      exact d4
  · rw [List.getElem?_set_ne (by omega)]
    exact h.nw k hk hk2
end

theorem values_wp {s : List Ci} {Y : Ci → Nat → (Bool → Nat → Prop) → Prop} {K : Nat → Prop} (hl : s.length ≤ 1000000) (hY : ∀ x ∈ s, ∀ K' : Bool → Nat → Prop, K' true 0 → Y x 0 K') (hK : K 0) : slices_Values_sl_api_Circuit_api_Circuit__c1_wp 0 Y s K := by
  unfold slices_Values_sl_api_Circuit_api_Circuit__c1_wp
  refine ⟨fun n i st => st = 0 ∧ 0 ≤ i ∧ i ≤ s.length ∧ n = s.length - i.toNat, ⟨_, rfl, by omega, by omega, rfl⟩, ?_⟩
  rintro n i st ⟨rfl, i0, i1, rfl⟩
  refine cond_d (fun hlt => ⟨i0, hlt, fun x hx => hY x (List.mem_of_getElem? hx) _ (cond_f rfl ⟨_, ?_, rfl, ?_, ?_, rfl⟩)⟩) (fun _ => hK)
  all_goals rw [wrap_i64 (by omega) (by omega)]
  all_goals omega

theorem gone_wp {l1 l2 l3 l4 l5 l6 last now t : Int} {list gone : List Ci} {K : List Ci → List Ci → List Ci → Int → Prop} (hb : list.length + gone.length ≤ 1000000) (hn : ∀ c ∈ gone ++ list.filter (over (nowOn now t)), 1 ≤ c.1 ∧ c.1 ≤ 1000000)
    (hK : ∀ rs, rs.Perm (gone ++ list.filter (over (nowOn now t))) → K rs (list.filter fun c => !over (nowOn now t) c) [] (nowOn now t)) : circ_Table_Gone_wp l1 l2 l3 l4 l5 l6 list gone last now t K := by
  unfold circ_Table_Gone_wp
  refine on_wp (by omega) ?_
  have hf := flen (over (nowOn now t)) list
  have hw : ∀ x y : Ci, (1 ≤ x.1 ∧ x.1 ≤ 1000000) → (1 ≤ y.1 ∧ y.1 ≤ 1000000) → IntKind.wrap .i64 (x.1 - y.1) = x.1 - y.1 := fun x y hx hy => wrap_i64 (by omega) (by omega)
  unfold slices_SortFunc_sl_api_Circuit_api_Circuit_wp
  refine ⟨fun c => 1 ≤ c.1 ∧ c.1 ≤ 1000000, fun a b => IntKind.wrap .i64 (a.1 - b.1), hn, fun x y _ _ K' hK' => hK', fun x hx => ?_, fun x y z hx hy hz => ?_, fun x y z hx hy hz => ?_, by simp only [List.length_append]; omega, fun zs hp _ => ?_⟩
  · dsimp only at hx ⊢
    rw [hw x x hx hx]; omega
  · dsimp only at hx hy hz ⊢
    rw [hw x y hx hy, hw y z hy hz, hw x z hx hz]; omega
  · dsimp only at hx hy hz ⊢
    rw [hw x y hx hy, hw y z hy hz, hw x z hx hz]; omega
  · exact hK zs hp

/-- What the statement counts behind a forwarding. -/
def fwdQ (d : Int × Int × Int × Int × Int × Int) (U : List Int) (S : List (Int × Int)) (to t' da : Int) (Q4 : List (Int × Int) → Prop) : Prop :=
  (joinP1 (fun (t134 : Bool) => cond t134 (false = true) (joinP1 (fun (k16 : Int) => 0 ≤ (d.2.2.1 : Int) ∧ (d.2.2.1 : Int) < (((Int.toNat 102) : Nat) : Int) ∧ (0 ≤ (k16 : Int) ∧ (k16 : Int) < ((2 : Nat) : Int) ∧ (((k16 : Int) = 0 → (∀ (x_10 : Int × Int), S[Int.toNat d.2.2.1]? = some x_10 → (0 ≤ (d.2.2.1 : Int) ∧ (d.2.2.1 : Int) < (((Int.toNat 102) : Nat) : Int) ∧ (0 ≤ (k16 : Int) ∧ (k16 : Int) < ((2 : Nat) : Int) ∧ (∀ (x_11 : Int × Int), S[Int.toNat d.2.2.1]? = some x_11 → (0 ≤ (d.2.2.1 : Int) ∧ (d.2.2.1 : Int) < (((Int.toNat 102) : Nat) : Int) ∧ (0 ≤ (k16 : Int) ∧ (k16 : Int) < ((2 : Nat) : Int) ∧ (∀ (x_12 : Int × Int), (List.set S (Int.toNat d.2.2.1) ((IntKind.wrap .i64 (x_10.1 + d.2.2.2.2.2)), x_11.2))[Int.toNat d.2.2.1]? = some x_12 → (cond (decide ((x_12.1 : Int) > da)) (false = true) (Q4 (List.set S (Int.toNat d.2.2.1) ((IntKind.wrap .i64 (x_10.1 + d.2.2.2.2.2)), x_11.2)))))))))))) ∧ ((k16 : Int) = 1 → (∀ (x_13 : Int × Int), S[Int.toNat d.2.2.1]? = some x_13 → (0 ≤ (d.2.2.1 : Int) ∧ (d.2.2.1 : Int) < (((Int.toNat 102) : Nat) : Int) ∧ (0 ≤ (k16 : Int) ∧ (k16 : Int) < ((2 : Nat) : Int) ∧ (∀ (x_14 : Int × Int), S[Int.toNat d.2.2.1]? = some x_14 → (0 ≤ (d.2.2.1 : Int) ∧ (d.2.2.1 : Int) < (((Int.toNat 102) : Nat) : Int) ∧ (0 ≤ (k16 : Int) ∧ (k16 : Int) < ((2 : Nat) : Int) ∧ (∀ (x_15 : Int × Int), (List.set S (Int.toNat d.2.2.1) (x_14.1, (IntKind.wrap .i64 (x_13.2 + d.2.2.2.2.2))))[Int.toNat d.2.2.1]? = some x_15 → (cond (decide ((x_15.2 : Int) > da)) (false = true) (Q4 (List.set S (Int.toNat d.2.2.1) (x_14.1, (IntKind.wrap .i64 (x_13.2 + d.2.2.2.2.2))))))))))))))))) (fun (Q_7 : Int → Prop) => cond (decide ((to : Int) < d.2.2.2.1)) (Q_7 1) (Q_7 0)))) (fun (Q_6 : Bool → Prop) => cond (decide ((d.2.2.1 : Int) < 1)) (Q_6 true) (cond (decide ((d.2.2.1 : Int) > 100)) (Q_6 true) (0 ≤ (d.2.2.1 : Int) ∧ (d.2.2.1 : Int) < ((U.length : Nat) : Int) ∧ (∀ (x_9 : Int), U[Int.toNat d.2.2.1]? = some x_9 → (cond (decide ((t' : Int) ≥ x_9)) (Q_6 true) (cond ((to : Int) == d.2.2.2.1) (Q_6 true) (Q_6 (decide ((d.2.2.2.2.2 : Int) < 0))))))))))

theorem circCaps_plain {r p c li du da : Int} {script : List (Int × Int × Int × Int × Int × Int)} (h1 : inK .i64 r) (h2 : inK .i64 p) (h3 : inK .i64 c) (h4 : inK .i64 li) (h5 : inK .i64 du) (h6 : inK .i64 da) {ok : (Int × Int × Int × Int × Int × Int) → Prop} (hw : ∀ x ∈ script, ok x) (hl : script.length ≤ 9223372036854775807) :
    embrasurelaw24_CircCaps_wp r p c li du da script (· = true) := by
  unfold embrasurelaw24_CircCaps_wp
  refine awake_wp (cond_f rfl (new_wp (fun _ => rfl) (fun hm => ?_)))
  have hm2 := hm
  unfold mayL at hm2
  refine ⟨by omega, by omega, by omega, by omega, by omega, by omega, by omega, by omega, ?_⟩
  refine joinP6.i ⟨fun n U t list gone last now S i => CI c da U S list gone last now t ∧ 0 ≤ i ∧ i ≤ 100 ∧ i ≤ script.length ∧ n = (101 - i).toNat ∧ last ≤ i ∧ 0 ≤ t ∧ t ≤ 1000 * i,
    ⟨_, ⟨by simp, by simp, by omega, by omega, by simp, by simp; omega, fun c hc => by simp at hc, fun c hc => by simp at hc, by simp, fun k hk hk2 => by rw [List.getElem?_replicate, if_pos (by simpa using hk2)]⟩, by omega, by omega, by omega, rfl, by omega, by omega, by omega⟩, ?_⟩
  rintro n U t list gone last now S i ⟨hI, i0, i1, i2, rfl, hli, t0, t1⟩
  refine ⟨fun x => (x = true ↔ i < script.length ∧ i < 100), fun x hx => ?_, cond_d (fun a => ?_) (fun a => ?_)⟩
  · refine cond_b (fun e => ?_) (fun _ => rfl)
    have hlt := hx.1 e
    refine ⟨i0, hlt.1, fun d hd => ?_⟩
    refine ⟨fun t' => t ≤ t' ∧ t' ≤ t + 1000, ?_, ?_⟩
    · rintro t' ⟨t2, t3⟩
      have hJ := hI.mono t2
      have hla := hJ.la
      have hln := hJ.ln
      have hnt := hJ.nt
      have hon := hJ.on
      have eon : nowOn now t' = t' := nowOn_eq (by omega) (by omega)
      refine ⟨fun U' list' gone' last' now' S' => CI c da U' S' list' gone' last' now' t' ∧ last' ≤ i + 1, ?_, ?_⟩
      · rintro U' list' gone' last' now' S' ⟨hI', hl'⟩
        have hln' := hI'.ln
        have hnt' := hI'.nt
        have eon' : nowOn now' t' = t' := nowOn_eq (by omega) (by omega)
        refine all_wp (by omega) ?_
        rw [eon']
        have hon' := hI'.on
        have hlc' := hon'.lc
        refine cond_d (fun h => absurd h (by omega)) (fun _ => ⟨(101 - (i + 1)).toNat, by omega, ?_⟩)
        rw [wrap_i64 (x := i + 1) (by omega) (by omega)]
        exact ⟨hon', by omega, by omega, by omega, rfl, by omega, by omega, by omega⟩
      · refine cond_e (fun k0 => ?_) (fun k0 => cond_e (fun k1 => ?_) (fun k1 => ?_))
        · refine open_wp (by omega) (by omega) (by omega) (by omega) (fun _ => cond_f rfl ⟨hJ, by omega⟩) (fun _ _ => cond_f rfl ⟨hon, by omega⟩) (fun _ _ _ => cond_f rfl ⟨hon, by omega⟩) (fun hmo _ hroom => cond_t rfl ?_)
          refine joinP1.i (cond_d (fun h => absurd h (by omega)) (fun _ => cond_f (by simp; omega) ⟨by omega, by have := hJ.ul; omega, ?_⟩))
          rw [wrap_i64 (x := t' + du) (by omega) (by omega)]
          exact ⟨hon.opened hmo.2.2.1 (by omega) hroom (by omega), by omega⟩
        · refine forward_wp (by omega) (by omega) (fun x hx => (hJ.inl x hx).2.2.2.2) ?_
          rw [eon]
          refine ⟨fun _ => cond_f rfl ⟨hon, by omega⟩, fun j x hj hno _ => ⟨fun _ _ => cond_f rfl ⟨hon, by omega⟩, fun hin => ⟨fun _ => cond_f rfl ⟨hon, by omega⟩, fun hs => ?_⟩⟩⟩
          have hxm := List.mem_of_getElem? hj
          obtain ⟨⟨x1, x2⟩, x3, x4, x5, x6, x7⟩ := hon.inl x hxm
          have hov : t' < x.2.2.2.1 := by
            have := (List.mem_filter.1 hxm).2
            unfold over at this
            simp at this
            exact this
          have hul := hJ.ul
          have hsl := hJ.sl
          rw [hno] at x1 x2 x3 x4
          -- what stands behind an answer
          have fin : ∀ (to : Int) (x' : Ci), (to ≠ d.2.2.2.1) → x'.1 = x.1 → x'.2.1 = x.2.1 → x'.2.2.1 = x.2.2.1 → x'.2.2.2.1 = x.2.2.2.1 → okB da x' → (to < d.2.2.2.1 → sm x' = ((sm x).1, (sm x).2 + d.2.2.2.2.2)) → (¬ to < d.2.2.2.1 → sm x' = ((sm x).1 + d.2.2.2.2.2, (sm x).2)) → 0 ≤ (sm x).1 ∧ (sm x).1 ≤ da ∧ 0 ≤ (sm x).2 ∧ (sm x).2 ≤ da → (sm x').1 ≤ da ∧ (sm x').2 ≤ da →
              fwdQ d U S to t' da (fun S' => CI c da U S' ((list.filter fun c => !over t' c).set j x') (gone ++ list.filter (over t')) last t' t' ∧ last ≤ i + 1) := by
            intro to x' hto e1 e2 e3 e4 hok s1 s2 hb hb2
            unfold fwdQ
            refine joinP1.i (cond_d (fun h => absurd h (by omega)) (fun _ => cond_d (fun h => absurd h (by omega)) (fun _ => ⟨by omega, by omega, fun v hv => ?_⟩)))
            rw [x3] at hv; cases hv
            refine cond_d (fun h => absurd h (by omega)) (fun _ => cond_e (fun h => absurd h hto) (fun _ => cond_f (by simp; omega) ?_))
            have hput := hon.put hj e1 e2 e3 e4 (by omega) hok
            rw [hno] at hput
            have hself : ∀ v : Int × Int, (S.set d.2.2.1.toNat v)[d.2.2.1.toNat]? = some v := fun v => List.getElem?_set_self (by omega)
            refine ⟨fun k => (to < d.2.2.2.1 → k = 1) ∧ (¬ to < d.2.2.2.1 → k = 0), fun k hk => ?_, cond_d (fun h => ⟨fun _ => rfl, fun h2 => absurd h h2⟩) (fun h => ⟨fun h2 => absurd h2 h, fun _ => rfl⟩)⟩
            have hk2 : k = 0 ∨ k = 1 := by
              by_cases hlt2 : to < d.2.2.2.1
              · exact .inr (hk.1 hlt2)
              · exact .inl (hk.2 hlt2)
            refine ⟨by omega, by omega, by omega, by omega, fun ek v hv => ?_, fun ek v hv => ?_⟩
            · rw [x4] at hv; cases hv
              refine ⟨by omega, by omega, by omega, by omega, fun v hv => ?_⟩
              rw [x4] at hv; cases hv
              refine ⟨by omega, by omega, by omega, by omega, fun v hv => ?_⟩
              have hs2 := s2 (fun h => by have := hk.1 h; omega)
              have q2 := congrArg Prod.fst hs2
              dsimp only at q2
              rw [wrap_i64 (by omega) (by omega), ← hs2] at hv ⊢
              rw [hself] at hv; cases hv
              exact cond_d (fun h => absurd h (by omega)) (fun _ => ⟨hput, by omega⟩)
            · rw [x4] at hv; cases hv
              refine ⟨by omega, by omega, by omega, by omega, fun v hv => ?_⟩
              rw [x4] at hv; cases hv
              refine ⟨by omega, by omega, by omega, by omega, fun v hv => ?_⟩
              have hs1 := s1 (Classical.byContradiction fun h => by have := hk.2 h; omega)
              have q1 := congrArg Prod.snd hs1
              dsimp only at q1
              rw [wrap_i64 (by omega) (by omega), ← hs1] at hv ⊢
              rw [hself] at hv; cases hv
              exact cond_d (fun h => absurd h (by omega)) (fun _ => ⟨hput, by omega⟩)
          obtain ⟨o1, o2⟩ := x6
          obtain ⟨o3, o4⟩ := x7
          refine ⟨fun hB => ⟨fun _ => cond_f rfl ⟨hon.erase j, by omega⟩, fun hsz => cond_t rfl (fin _ _ (by omega) rfl rfl rfl rfl ⟨⟨o1, o2⟩, by show 0 ≤ x.2.2.2.2.2 + d.2.2.2.2.2; omega, by show x.2.2.2.2.2 + d.2.2.2.2.2 ≤ da; omega⟩ (fun h => ?_) (fun h => ?_) ?_ ?_)⟩,
            fun hB => ⟨fun _ => cond_f rfl ⟨hon.erase j, by omega⟩, fun hsz => cond_t rfl (fin _ _ (by omega) rfl rfl rfl rfl ⟨⟨by show 0 ≤ x.2.2.2.2.1 + d.2.2.2.2.2; omega, by show x.2.2.2.2.1 + d.2.2.2.2.2 ≤ da; omega⟩, o3, o4⟩ (fun h => ?_) (fun h => ?_) ?_ ?_)⟩⟩
          all_goals unfold sm
          · rw [if_neg (by show ¬ x.2.2.1 < x.2.1; omega), if_neg (by omega)]
          · rw [if_pos (by show x.2.2.1 < x.2.1; omega), if_pos (by omega)]
          · split <;> (simp only []; omega)
          · split <;> (simp only []; omega)
          · rw [if_pos (by show x.2.2.1 < x.2.1; omega), if_pos (by omega)]
          · rw [if_neg (by show ¬ x.2.2.1 < x.2.1; omega), if_neg (by omega)]
          · split <;> (simp only []; omega)
          · split <;> (simp only []; omega)
        · refine gone_wp (by omega) (fun x hx => ?_) (fun rs hp => ?_)
          · rw [eon] at hx
            have := (hon.ing x hx).1
            omega
          · rw [eon] at hp ⊢
            have hlen := hp.length_eq
            have hln2 := hon.ln
            refine values_wp (by omega) (fun x hx K' hK' => ⟨rfl, ?_⟩) (.inl ⟨rfl, hon.empty, by omega⟩)
            obtain ⟨⟨x1, x2⟩, x3, x4⟩ := hon.ing x (hp.mem_iff.1 hx)
            have hul := hJ.ul
            refine joinP1.i (cond_d (fun h => absurd h (by omega)) (fun _ => cond_d (fun h => absurd h (by omega)) (fun _ => ⟨by omega, by omega, fun v hv => ?_⟩)))
            rw [x3] at hv; cases hv
            exact cond_n (fun h => absurd rfl h) (fun _ => cond_f (by simp; omega) hK')
    · refine ⟨fun b => (b = true → 0 < d.2.1 ∧ d.2.1 < 1000), fun b hb => ?_, cond_d (fun h => ?_) (fun h => ?_)⟩
      · refine cond_b (fun e2 => ?_) (fun _ => ⟨by omega, by omega⟩)
        have := hb e2
        rw [wrap_i64 (by omega) (by omega)]
        exact ⟨by omega, by omega⟩
      · simp only [decide_eq_true_eq]; omega
      · simp
  · simp only [decide_eq_true_eq]; omega
  · simp only [Bool.false_eq_true, false_iff]; omega

end Go.Proofs.Ytjcebofaahbifaa
