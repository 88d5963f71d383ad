/- The plain side of the statements on adverts: AdvertOver, AdvertKinds. -/
import Derived.Test.YtpdabbbemampbaaR
namespace Go.Proofs.Ytpdabbbemampbaa
open Go Go.Eng

/-! ### What is told, as a row -/

theorem add8_sub {out : List Pl} {p x : Pl} (h : x ∈ out) : x ∈ add8 out p := by
  unfold add8
  split
  · exact h
  · split
    · exact h
    · exact List.mem_append.2 (.inl h)

theorem add8_mem {out : List Pl} {p x : Pl} (h : x ∈ add8 out p) : x ∈ out ∨ x = p := by
  unfold add8 at h
  split at h
  · exact .inl h
  · split at h
    · exact .inl h
    · rcases List.mem_append.1 h with h | h
      · exact .inl h
      · simp only [List.mem_cons, List.not_mem_nil, or_false] at h
        exact .inr h

theorem add8_nd {out : List Pl} {p : Pl} (h : out.Nodup) : (add8 out p).Nodup := by
  unfold add8
  split
  · exact h
  · rename_i hp
    split
    · exact h
    · rw [List.nodup_append]
      refine ⟨h, by simp, fun a ha b hb e => ?_⟩
      simp only [List.mem_cons, List.not_mem_nil, or_false] at hb
      subst hb; subst e
      exact hp ha

theorem add8_pre (out : List Pl) (p : Pl) : ∃ t, add8 out p = out ++ t := by
  unfold add8
  split
  · exact ⟨[], by simp⟩
  · split
    · exact ⟨[], by simp⟩
    · exact ⟨[p], rfl⟩

theorem fold8_sub (l : List Pl) : ∀ {out : List Pl} {x : Pl}, x ∈ out → x ∈ l.foldl add8 out := by
  induction l with
  | nil => intro out x h; exact h
  | cons p l ih => intro out x h; exact ih (add8_sub h)

theorem fold8_mem (l : List Pl) : ∀ {out : List Pl} {x : Pl}, x ∈ l.foldl add8 out → x ∈ out ∨ x ∈ l := by
  induction l with
  | nil => intro out x h; exact .inl h
  | cons p l ih =>
    intro out x h
    rcases ih h with h | h
    · rcases add8_mem h with h | rfl
      · exact .inl h
      · exact .inr (List.mem_cons_self ..)
    · exact .inr (List.mem_cons_of_mem _ h)

theorem fold8_nd (l : List Pl) : ∀ {out : List Pl}, out.Nodup → (l.foldl add8 out).Nodup := by
  induction l with
  | nil => intro out h; exact h
  | cons p l ih => intro out h; exact ih (add8_nd h)

theorem fold8_pre (l : List Pl) : ∀ (out : List Pl), ∃ t, l.foldl add8 out = out ++ t := by
  induction l with
  | nil => intro out; exact ⟨[], by simp⟩
  | cons p l ih =>
    intro out
    obtain ⟨t, ht⟩ := add8_pre out p
    obtain ⟨t2, ht2⟩ := ih (add8 out p)
    exact ⟨t ++ t2, by rw [List.foldl_cons, ht2, ht, List.append_assoc]⟩

theorem add8_len1 (out : List Pl) (p : Pl) : (add8 out p).length ≤ out.length + 1 := by
  unfold add8
  split
  · omega
  · split
    · omega
    · simp

theorem fold8_all (l : List Pl) : ∀ {out : List Pl}, out.length + l.length ≤ 8 → ∀ p ∈ l, p ∈ l.foldl add8 out := by
  induction l with
  | nil => intro out h p hp; simp at hp
  | cons q l ih =>
    intro out h p hp
    simp only [List.length_cons] at h
    have h1 := add8_len1 out q
    rcases List.mem_cons.1 hp with rfl | hp
    · refine fold8_sub l ?_
      unfold add8
      split
      · assumption
      · rw [if_neg (by omega)]
        simp
    · exact ih (by omega) p hp

/-! ### AdvertOver -/

theorem mem_setM {κ : Type} [DecidableEq κ] {m : List (κ × Int)} (hn : KN m) {k k' : κ} {u v : Int} (h : (k', v) ∈ (setM m k u).2) : (k', v) ∈ m ∨ (k' = k ∧ v = u) := by
  unfold setM at h
  split at h
  · exact .inl ((mem_del hn).1 h).2
  · split at h
    · exact .inl h
    · rcases (mem_put hn).1 h with ⟨rfl, rfl⟩ | ⟨-, h⟩
      · exact .inr ⟨rfl, rfl⟩
      · exact .inl h

abbrev Row := Int × (List (Int × Int)) × Int × Int × Int × Bool × Int

/-- Where an own place was named. -/
def named (script : List Row) (a : Ad) : Prop := ∃ k : Nat, k < 60 ∧ ∃ x : Row, script[k]? = some x ∧ a ∈ x.2.1

structure OverS (script : List Row) (now : Int) (own : List Ad) (m : List (Ad × Int)) (r : List (Pl × Int)) : Prop where
  okh : okH own
  ol : own.length ≤ 8
  nm : ∀ a ∈ own, named script a
  mkn : KN m
  ml : m.length ≤ 20
  mv : ∀ k v, (k, v) ∈ m → v ≤ now
  rk : KN r
  rl : r.length ≤ 20
  rv : ∀ k v, (k, v) ∈ r → v ≤ now
  rb : ∀ k v, (k, v) ∈ r → k.2.2.2 = true

theorem advertOver_plain {script : List (Int × (List (Int × Int)) × Int × Int × Int × Bool × Int)} {seen : List Ad} {now : Int}
    (hs : ∀ x ∈ script, inK .i64 x.1 ∧ ((∀ a ∈ x.2.1, inK .u32 a.1 ∧ inK .i64 a.2) ∧ x.2.1.length ≤ 9223372036854775807) ∧ inK .u32 x.2.2.1 ∧ inK .i64 x.2.2.2.1 ∧ inK .i64 x.2.2.2.2.1 ∧ True ∧ inK .i64 x.2.2.2.2.2.2) (hsl : script.length ≤ 9223372036854775807)
    (_ : ∀ a ∈ seen, inK .u32 a.1 ∧ inK .i64 a.2) (_ : seen.length ≤ 9223372036854775807) (_ : inK .i64 now) : embrasurelaw21_AdvertOver_wp script seen now (· = true) := by
  unfold embrasurelaw21_AdvertOver_wp
  refine awake_wp (cond_f rfl (cond_d (fun _ => rfl) (fun h40 => ?_)))
  unfold advert_New_wp
  refine ⟨fun o m r => OverS script now o m r, fun own m r hS => ?_, ?_⟩
  · refine told_wp hS.okh hS.ol hS.mkn hS.ml hS.rk hS.rl hS.rb (fun M R hM hR => ?_)
    obtain rfl := last_over hM hS.mv
    obtain rfl := last_over hR hS.rv
    refine told_wp hS.okh hS.ol hS.mkn hS.ml hS.rk hS.rl hS.rb (fun M R hM hR => ?_)
    obtain rfl := last_over hM hS.mv
    obtain rfl := last_over hR hS.rv
    have e1 : tellL own [] seen false [] = (ownA own).foldl add8 [] := by simp [tellL, seenA]
    have e2 : ∃ t, tellL own [] seen true [] = tellL own [] seen false [] ++ t := by
      rw [e1]
      unfold tellL
      rw [List.foldl_append]
      exact fold8_pre _ _
    have n2 : (tellL own [] seen true []).Nodup := fold8_nd _ (by simp)
    have l2 : (tellL own [] seen true []).length ≤ 8 := fold8_len _ (by simp)
    have m1 : ∀ p ∈ tellL own [] seen false [], ∃ a ∈ own, ¬ insideP a.1 ∧ plA a = p := by
      intro p hp
      rw [e1] at hp
      rcases fold8_mem _ hp with h | h
      · simp at h
      · unfold ownA at h
        obtain ⟨a, ha, rfl⟩ := List.mem_map.1 h
        obtain ⟨h1, h2⟩ := List.mem_filter.1 ha
        exact ⟨a, h1, by simpa using h2, rfl⟩
    generalize tellL own [] seen false [] = rs at m1 e2 ⊢
    generalize tellL own [] seen true [] = rs1 at e2 n2 l2 ⊢
    obtain ⟨t, rfl⟩ := e2
    have l1 : rs.length ≤ 8 := by rw [List.length_append] at l2; omega
    clear e1
    refine joinP0.i ?_
    refine ⟨fun n i => 0 ≤ i ∧ i ≤ rs.length ∧ n = rs.length - i.toNat, ⟨_, by omega, by omega, rfl⟩, ?_⟩
    rintro n i ⟨i0, i1, rfl⟩
    refine cond_d (fun hlt => ?_) (fun hge => ?_)
    · have hx : ∃ x, rs[i.toNat]? = some x := ⟨_, List.getElem?_eq_getElem (by omega)⟩
      obtain ⟨p, hp⟩ := hx
      obtain ⟨a, ha, hin, rfl⟩ := m1 p (List.mem_of_getElem? hp)
      have hp1 : (rs ++ t)[i.toNat]? = some (plA a) := by rw [List.getElem?_append_left (by omega)]; exact hp
      obtain ⟨k0, hk60, x0, hx0, hax⟩ := hS.nm a ha
      obtain ⟨j0, hj0⟩ := List.getElem?_of_mem hax
      have hk0 : k0 < script.length := (List.getElem?_eq_some_iff.1 hx0).1
      have hj0l : j0 < x0.2.1.length := (List.getElem?_eq_some_iff.1 hj0).1
      refine ⟨fun b => b = true, fun b hb => ?_, ?_⟩
      · subst hb
        refine joinP1.i (cond_f rfl ⟨i0, hlt, fun x hx => ?_⟩)
        obtain rfl : plA a = x := Option.some.inj (hp.symm.trans hx)
        refine cond_f rfl ⟨i0, hlt, fun x hx => ?_⟩
        obtain rfl : plA a = x := Option.some.inj (hp.symm.trans hx)
        refine cond_f rfl ⟨i0, hlt, fun x hx => ?_⟩
        obtain rfl : plA a = x := Option.some.inj (hp.symm.trans hx)
        refine inside_wp (hS.okh a ha) (cond_f (decide_eq_false_iff_not.2 hin) (cond_f ?_ ⟨i0, ?_, fun x hx => ⟨i0, hlt, fun y hy => ?_⟩⟩))
        · rw [List.length_append]; simp only [decide_eq_false_iff_not]; omega
        · rw [List.length_append]; omega
        obtain rfl : plA a = x := Option.some.inj (hp1.symm.trans hx)
        obtain rfl : plA a = y := Option.some.inj (hp.symm.trans hy)
        rw [eqP, wrap_i64 (by omega) (by omega)]
        exact cond_f (by simp) ⟨rs.length - (i + 1).toNat, by omega, by omega, by omega, rfl⟩
      · refine ⟨fun n b k => 0 ≤ k ∧ k ≤ script.length ∧ n = script.length - k.toNat ∧ (b = true ∨ k ≤ k0), ⟨_, by omega, by omega, rfl, .inr (by omega)⟩, ?_⟩
        rintro n b k ⟨kl, kh, rfl, hb⟩
        refine ⟨fun t => t = decide (k < script.length ∧ k < 60), fun t ht => cond_b (fun e => ?_) (fun e => ?_), cond_d (fun h => ?_) (fun h => ?_)⟩
        · rw [ht] at e
          simp only [decide_eq_true_eq] at e
          obtain ⟨hk, hk6⟩ := e
          refine ⟨fun n b j => 0 ≤ j ∧ (∀ x, script[k.toNat]? = some x → j ≤ x.2.1.length ∧ n = x.2.1.length - j.toNat) ∧ (b = true ∨ k < k0 ∨ (k = k0 ∧ j ≤ j0)), ?_, ?_⟩
          · have hx : ∃ x, script[k.toNat]? = some x := ⟨_, List.getElem?_eq_getElem (by omega)⟩
            obtain ⟨x, hx⟩ := hx
            refine ⟨x.2.1.length, by omega, fun y hy => ?_, ?_⟩
            · obtain rfl : x = y := Option.some.inj (hx.symm.trans hy)
              exact ⟨by omega, rfl⟩
            · rcases hb with hb | hb
              · exact .inl hb
              · exact .inr (by omega)
          · rintro n b j ⟨jl, hj, hb⟩
            refine ⟨kl, hk, fun x hx => ?_⟩
            obtain ⟨jh, rfl⟩ := hj x hx
            obtain ⟨-, ⟨-, hxl⟩, -⟩ := hs x (List.mem_of_getElem? hx)
            refine cond_d (fun hjlt => ?_) (fun hjge => ?_)
            · rw [wrap_i64 (x := j + 1) (by omega) (by omega)]
              have hnx : ∀ y, script[k.toNat]? = some y → j + 1 ≤ y.2.1.length ∧ x.2.1.length - (j + 1).toNat = y.2.1.length - (j + 1).toNat := fun y hy => by
                obtain rfl : x = y := Option.some.inj (hx.symm.trans hy)
                exact ⟨by omega, rfl⟩
              refine cond_b (fun e => ⟨x.2.1.length - (j + 1).toNat, by omega, by omega, hnx, .inl rfl⟩) (fun e => ⟨kl, hk, fun y hy => ?_⟩)
              obtain rfl : x = y := Option.some.inj (hx.symm.trans hy)
              refine ⟨jl, hjlt, fun z hz => ⟨i0, hlt, fun q hq => ?_⟩⟩
              obtain rfl : plA a = q := Option.some.inj (hp.symm.trans hq)
              refine ⟨x.2.1.length - (j + 1).toNat, by omega, by omega, hnx, ?_⟩
              rw [e] at hb
              rcases hb with hb | hb | ⟨rfl, hb⟩
              · cases hb
              · exact .inr (.inl hb)
              · by_cases hjj : j = j0
                · subst hjj
                  refine .inl ?_
                  rw [Int.toNat_natCast] at hx hz
                  obtain rfl : x0 = x := Option.some.inj (hx0.symm.trans hx)
                  obtain rfl : a = z := Option.some.inj (hj0.symm.trans hz)
                  simp [plA]
                · exact .inr (.inr ⟨rfl, by omega⟩)
            · rw [wrap_i64 (x := k + 1) (by omega) (by omega)]
              refine ⟨script.length - (k + 1).toNat, by omega, by omega, by omega, rfl, ?_⟩
              rcases hb with hb | hb | ⟨rfl, hb⟩
              · exact .inl hb
              · exact .inr (by omega)
              · rw [Int.toNat_natCast] at hx
                obtain rfl : x0 = x := Option.some.inj (hx0.symm.trans hx)
                omega
        · rw [ht] at e
          simp only [decide_eq_false_iff_not] at e
          rcases hb with hb | hb
          · exact hb
          · omega
        · show decide _ = decide _
          rw [Bool.eq_iff_iff]; simp only [decide_eq_true_eq]; omega
        · show false = decide _
          symm; simp only [decide_eq_false_iff_not]; omega
    · refine joinP0.i ?_
      refine ⟨fun n i => 0 ≤ i ∧ i ≤ (rs ++ t).length ∧ n = (rs ++ t).length - i.toNat, ⟨_, by omega, by omega, rfl⟩, ?_⟩
      rintro n i ⟨i0, i1, rfl⟩
      refine cond_d (fun hlt => ?_) (fun hge => by simp only [decide_eq_true_eq]; omega)
      refine ⟨fun n k => 0 ≤ k ∧ k ≤ i ∧ n = i.toNat - k.toNat, ⟨_, by omega, by omega, rfl⟩, ?_⟩
      rintro n k ⟨k0, k1, rfl⟩
      refine cond_d (fun hklt => ⟨i0, hlt, fun x hx => ⟨k0, by omega, fun y hy => ?_⟩⟩) (fun hkge => ?_)
      · rw [eqP, wrap_i64 (by omega) (by omega)]
        refine cond_f ?_ ⟨i.toNat - (k + 1).toNat, by omega, by omega, by omega, rfl⟩
        simp only [decide_eq_false_iff_not]
        intro e
        subst e
        have := nd_idx n2 hx hy
        omega
      · rw [wrap_i64 (by omega) (by omega)]
        exact ⟨(rs ++ t).length - (i + 1).toNat, by omega, by omega, by omega, rfl⟩
  · refine ⟨fun n o i m r => OverS script now o m r ∧ 0 ≤ i ∧ i ≤ script.length ∧ n = script.length - i.toNat, ⟨_, ⟨fun a ha => by simp at ha, by simp, by simp, KN.nil, by simp, by simp, KN.nil, by simp, by simp, by simp⟩, by omega, by omega, rfl⟩, ?_⟩
    rintro n o i m r ⟨hS, i0, i1, rfl⟩
    refine ⟨fun t => t = true → i < script.length ∧ i < 60, fun t ht => cond_b (fun e => ?_) (fun _ => hS), ?_⟩
    rotate_left
    · exact cond_d (fun h => by simp only [decide_eq_true_eq]; exact fun h2 => ⟨h, h2⟩) (fun _ => by simp)
    obtain ⟨hlt, h60⟩ := ht e
    refine ⟨i0, hlt, fun x hx => cond_d (fun _ => rfl) (fun hx40 => ?_)⟩
    obtain ⟨-, ⟨hxl, hxl2⟩, hxh, -, -, -, -⟩ := hs x (List.mem_of_getElem? hx)
    have hxok : okH x.2.1 := fun a ha => u32b (hxl a ha).1
    have hu : (if now < x.2.2.2.2.2.2 then now else x.2.2.2.2.2.2) ≤ now := by split <;> omega
    generalize (if now < x.2.2.2.2.2.2 then now else x.2.2.2.2.2.2) = u at hu ⊢
    rw [wrap_i64 (by omega) (by omega)]
    have nx : ∀ {o m r}, OverS script now o m r → ∃ n, n < script.length - i.toNat ∧ OverS script now o m r ∧ 0 ≤ i + 1 ∧ i + 1 ≤ script.length ∧ n = script.length - (i + 1).toNat := fun h => ⟨_, by omega, h, by omega, by omega, rfl⟩
    refine cond_e (fun _ => ?_) (fun _ => cond_e (fun _ => ?_) (fun _ => ?_))
    · refine mapped_wp (fun _ => nx hS) (fun _ _ => nx ⟨hS.okh, hS.ol, hS.nm, setM_kn hS.mkn _ _, setM_len _ _ hS.ml, fun k v h => ?_, hS.rk, hS.rl, hS.rv, hS.rb⟩)
      rcases mem_setM hS.mkn h with h | ⟨-, rfl⟩
      · exact hS.mv k v h
      · exact hu
    · refine relay_wp (fun _ => nx hS) (fun _ _ => nx ⟨hS.okh, hS.ol, hS.nm, hS.mkn, hS.ml, hS.mv, setM_kn hS.rk _ _, setM_len _ _ hS.rl, fun k v h => ?_, fun k v h => ?_⟩)
      · rcases mem_setM hS.rk h with h | ⟨-, rfl⟩
        · exact hS.rv k v h
        · exact hu
      · rcases mem_setM hS.rk h with h | ⟨rfl, -⟩
        · exact hS.rb k v h
        · rfl
    · refine own_wp hxl2 (fun _ => nx hS) (fun hok => nx ⟨hxok, hok.1, fun a ha => ⟨i.toNat, by omega, x, hx, ha⟩, hS.mkn, hS.ml, hS.mv, hS.rk, hS.rl, hS.rv, hS.rb⟩)

/-! ### AdvertKinds -/

theorem eqA (x a : Ad) : (((x.1 : Int) == a.1) && (((x.2 : Int) == a.2) && true)) = decide (x = a) := by
  obtain ⟨x1, x2⟩ := x
  obtain ⟨a1, a2⟩ := a
  rw [Bool.eq_iff_iff]
  simp [Prod.ext_iff]

theorem has_wp {l : List Ad} {a : Ad} {K : Bool → Prop} (hl : l.length ≤ 1000000) (hK : K (decide (a ∈ l))) : embrasurelaw21_has_wp l a.1 a.2 K := by
  unfold embrasurelaw21_has_wp
  refine ⟨fun n i => 0 ≤ i ∧ i ≤ l.length ∧ n = l.length - i.toNat ∧ a ∉ l.take i.toNat, ⟨_, by omega, by omega, rfl, by simp⟩, ?_⟩
  rintro n i ⟨i0, i1, rfl, hn⟩
  refine cond_d (fun hlt => ⟨i0, hlt, fun x hx => ?_⟩) (fun hge => ?_)
  · rw [eqA, wrap_i64 (by omega) (by omega)]
    refine cond_d (fun e => ?_) (fun e => ⟨l.length - (i + 1).toNat, by omega, by omega, by omega, rfl, ?_⟩)
    · subst e
      rw [show decide (x ∈ l) = true by simpa using List.mem_of_getElem? hx] at hK
      exact hK
    · rw [take_snoc i0 hx]
      simp only [List.mem_append, List.mem_cons, List.not_mem_nil, or_false, not_or]
      exact ⟨hn, fun h => e h.symm⟩
  · rw [take_all hge i1] at hn
    rw [show decide (a ∈ l) = false by simpa using hn] at hK
    exact hK

/-- Whether an own place from outside is this one. -/
def anyO (own : List Ad) (p : Pl) : Bool := own.any fun a => decide (a = (p.1, p.2.1)) && !decide (insideP a.1)

/-- The kind of a place. -/
def kd (own : List Ad) (p : Pl) : Int := if p.2.2.2 = true then 4 else if anyO own p = true then 1 else if p.1 = 3355443201 ∧ p.2.1 = 9 then 2 else 3

theorem kd_pos (own : List Ad) (p : Pl) : 0 ≤ kd own p := by
  unfold kd; split
  · omega
  · split
    · omega
    · split <;> omega

theorem kd_own {own : List Ad} {p : Pl} (h : p ∈ ownA own) : kd own p = 1 := by
  unfold ownA at h
  obtain ⟨a, ha, rfl⟩ := List.mem_map.1 h
  obtain ⟨h1, h2⟩ := List.mem_filter.1 ha
  unfold kd
  rw [if_neg (by simp [plA]), if_pos]
  unfold anyO
  rw [List.any_eq_true]
  exact ⟨a, h1, by simpa [plA] using h2⟩

theorem kd_any {own : List Ad} {a : Ad} (h : anyO own (plA a) = true) : plA a ∈ ownA own := by
  unfold anyO at h
  rw [List.any_eq_true] at h
  obtain ⟨b, hb, h2⟩ := h
  simp only [Bool.and_eq_true, decide_eq_true_eq, Bool.not_eq_true', decide_eq_false_iff_not] at h2
  obtain ⟨e, h3⟩ := h2
  have e : b = a := e
  subst e
  exact List.mem_map.2 ⟨b, List.mem_filter.2 ⟨hb, by simpa using h3⟩, rfl⟩

theorem kd_nany {own : List Ad} {a : Ad} (h : a ∉ own) : anyO own (plA a) = false := by
  rw [Bool.eq_false_iff]
  intro hc
  unfold anyO at hc
  rw [List.any_eq_true] at hc
  obtain ⟨b, hb, h2⟩ := hc
  simp only [Bool.and_eq_true, decide_eq_true_eq] at h2
  have e : b = a := h2.1
  exact h (e ▸ hb)

theorem fold8_kd (kd : Pl → Int) (c : Int) (l : List Pl) : ∀ {out : List Pl}, out.Pairwise (fun x y => kd x ≤ kd y) → (∀ x ∈ out, kd x ≤ c) → (∀ p ∈ l, p ∈ out ∨ kd p = c) → (l.foldl add8 out).Pairwise (fun x y => kd x ≤ kd y) ∧ ∀ x ∈ l.foldl add8 out, kd x ≤ c := by
  induction l with
  | nil => intro out h1 h2 _; exact ⟨h1, h2⟩
  | cons p l ih =>
    intro out h1 h2 h3
    have hl : ∀ q ∈ l, q ∈ add8 out p ∨ kd q = c := fun q hq => by
      rcases h3 q (List.mem_cons_of_mem _ hq) with h | h
      · exact .inl (add8_sub h)
      · exact .inr h
    have hc : ∀ x ∈ add8 out p, kd x ≤ c := fun x hx => by
      rcases add8_mem hx with h | rfl
      · exact h2 x h
      · rcases h3 x (List.mem_cons_self ..) with h | h
        · exact h2 x h
        · omega
    refine ih ?_ hc hl
    unfold add8
    split
    · exact h1
    · rename_i hp
      split
      · exact h1
      · rw [List.pairwise_append]
        refine ⟨h1, by simp, fun x hx y hy => ?_⟩
        simp only [List.mem_cons, List.not_mem_nil, or_false] at hy
        subst hy
        rcases h3 y (List.mem_cons_self ..) with h | h
        · exact absurd h hp
        · have := h2 x hx; omega

theorem advertKinds_plain {own seen : List Ad} {now : Int}
    (ho : ∀ a ∈ own, inK .u32 a.1 ∧ inK .i64 a.2) (hol : own.length ≤ 9223372036854775807) (_ : ∀ a ∈ seen, inK .u32 a.1 ∧ inK .i64 a.2) (_ : seen.length ≤ 9223372036854775807) (hn : inK .u8 now) : embrasurelaw21_AdvertKinds_wp own seen now (· = true) := by
  unfold embrasurelaw21_AdvertKinds_wp
  have hh : okH own := fun a ha => u32b (ho a ha).1
  have hn := u8b hn
  refine awake_wp (cond_f rfl ?_)
  unfold advert_New_wp
  refine ⟨fun t => t = false → own.length ≤ 8 ∧ seen.length ≤ 8, fun t ht => cond_b (fun _ => rfl) (fun e => ?_), cond_d (fun h => by simp) (fun h => ?_)⟩
  rotate_left
  · simp only [decide_eq_false_iff_not]; omega
  obtain ⟨h8, hs8⟩ := ht e
  refine ⟨∀ a ∈ own, mayA a.1 a.2, fun hall => ?_, ?_⟩
  rotate_left
  · refine ⟨fun n i => 0 ≤ i ∧ i ≤ own.length ∧ n = own.length - i.toNat ∧ ∀ a ∈ own.take i.toNat, mayA a.1 a.2, ⟨_, by omega, by omega, rfl, by simp⟩, ?_⟩
    rintro n i ⟨i0, i1, rfl, ha⟩
    refine cond_d (fun hlt => ⟨i0, hlt, fun x hx => rmay_wp (hh x (List.mem_of_getElem? hx)).1 (cond_b (fun e => ?_) (fun e => ?_))⟩) (fun hge => by rw [take_all hge i1] at ha; exact ha)
    · simp only [Bool.not_eq_true', decide_eq_false_iff_not] at e
      exact own_wp hol (fun _ => rfl) (fun hok => absurd (hok.2 x (List.mem_of_getElem? hx)) e)
    · simp only [Bool.not_eq_false', decide_eq_true_eq] at e
      rw [wrap_i64 (by omega) (by omega)]
      refine ⟨own.length - (i + 1).toNat, by omega, by omega, by omega, rfl, ?_⟩
      rw [take_snoc i0 hx]
      intro a hm
      rcases List.mem_append.1 hm with hm | hm
      · exact ha a hm
      · simp only [List.mem_cons, List.not_mem_nil, or_false] at hm
        subst hm; exact e
  have hok : okOwn own := ⟨h8, hall⟩
  refine ⟨fun t => t = false → ((3355443201, 9) : Ad) ∉ seen ∧ ((3355443201, 9) : Ad) ∉ own, fun t ht => cond_b (fun _ => rfl) (fun e => ?_), has_wp (a := (3355443201, 9)) (by omega) (cond_d (fun h => by simp) (fun h => has_wp (a := (3355443201, 9)) (by omega) fun h2 => ⟨h, by simpa using h2⟩))⟩
  obtain ⟨hcs, hco⟩ := ht e
  refine joinP4.i (own_wp hol (fun h => absurd hok h) (fun _ => cond_f rfl (mapped_wp (fun h => absurd (by decide) h) (fun _ _ => ?_))))
  have e1 : setM ([] : List (Ad × Int)) (3355443201, 9) 100 = (0, [((3355443201, 9), 100)]) := by decide
  have e2 : setM ([] : List (Pl × Int)) (3372220417, 9, 3, true) 200 = (0, [((3372220417, 9, 3, true), 200)]) := by decide
  rw [e1]
  refine cond_f rfl (relay_wp (fun h => absurd (by unfold mayR mayA; decide) h) (fun _ _ => ?_))
  rw [e2, wrap_i64 (x := now) (by omega) (by omega)]
  refine cond_f rfl (told_wp hh h8 (by unfold KN; decide) (by decide) (by unfold KN; decide) (by decide) (fun k v h => ?_) (fun M R hM hR => ?_))
  · simp only [List.mem_cons, List.not_mem_nil, or_false, Prod.mk.injEq] at h
    rw [h.1]
  have hM2 : ∀ p ∈ M, p = plA (3355443201, 9) ∧ now < 100 := by
    by_cases h : (100 : Int) > now
    · obtain rfl := last_one hM h
      intro p hp; exact ⟨by simpa using hp, h⟩
    · obtain rfl := last_over hM (fun k v hk => by simp only [List.mem_cons, List.not_mem_nil, or_false, Prod.mk.injEq] at hk; omega)
      intro p hp; simp at hp
  have hR2 : ∀ p ∈ R, p = (3372220417, 9, 3, true) ∧ now < 200 := by
    by_cases h : (200 : Int) > now
    · obtain rfl := last_one hR h
      intro p hp; exact ⟨by simpa using hp, h⟩
    · obtain rfl := last_over hR (fun k v hk => by simp only [List.mem_cons, List.not_mem_nil, or_false, Prod.mk.injEq] at hk; omega)
      intro p hp; simp at hp
  have kM : ∀ p ∈ M, kd own p = 2 := fun p hp => by
    obtain ⟨rfl, -⟩ := hM2 p hp
    unfold kd
    rw [if_neg (by decide), if_neg (by rw [kd_nany hco]; decide), if_pos (by decide)]
  have kR : ∀ p ∈ R, kd own p = 4 := fun p hp => by
    obtain ⟨rfl, -⟩ := hR2 p hp
    unfold kd
    rw [if_pos rfl]
  have kS : ∀ p ∈ seenA seen true, p ∈ ownA own ∨ kd own p = 3 := fun p hp => by
    unfold seenA at hp
    rw [if_pos rfl] at hp
    obtain ⟨a, ha, rfl⟩ := List.mem_map.1 hp
    have ha : a ∈ seen := List.mem_of_mem_take (List.mem_filter.1 ha).1
    by_cases hc : anyO own (plA a) = true
    · exact .inl (kd_any hc)
    · refine .inr ?_
      unfold kd
      rw [if_neg (by simp [plA]), if_neg hc, if_neg]
      rintro ⟨h1, h2⟩
      have : a = (3355443201, 9) := Prod.ext h1 h2
      exact hcs (this ▸ ha)
  have ho8 : (ownA own).length ≤ 8 := by
    unfold ownA
    rw [List.length_map]
    exact Nat.le_trans (List.length_filter_le ..) h8
  obtain ⟨s1, b1⟩ := fold8_kd (kd own) 1 (ownA own) (out := []) .nil (by simp) (fun p hp => .inr (kd_own hp))
  obtain ⟨s2, b2⟩ := fold8_kd (kd own) 2 M s1 (fun x hx => by have := b1 x hx; omega) (fun p hp => .inr (kM p hp))
  obtain ⟨s3, b3⟩ := fold8_kd (kd own) 3 (seenA seen true) s2 (fun x hx => by have := b2 x hx; omega) (fun p hp => by
    rcases kS p hp with h | h
    · exact .inl (fold8_sub _ (fold8_all _ (by simpa using ho8) p h))
    · exact .inr h)
  obtain ⟨s4, b4⟩ := fold8_kd (kd own) 4 R s3 (fun x hx => by have := b3 x hx; omega) (fun p hp => .inr (kR p hp))
  have hk : ∀ p ∈ tellL own M seen true R, (kd own p = 2 → now < 100) ∧ (kd own p = 4 → now < 200) := by
    intro p hp
    rcases fold8_mem _ hp with h | h
    · simp at h
    · simp only [List.mem_append] at h
      rcases h with h | h | h | h
      · have := kd_own h; omega
      · have := kM p h; have := hM2 p h; omega
      · rcases kS p h with h | h
        · have := kd_own h; omega
        · omega
      · have := kR p h; have := hR2 p h; omega
  have hrl : (tellL own M seen true R).length ≤ 8 := fold8_len _ (by simp)
  have hsrt : (tellL own M seen true R).Pairwise (fun x y => kd own x ≤ kd own y) := by
    unfold tellL
    rw [List.foldl_append, List.foldl_append, List.foldl_append]
    exact s4
  generalize tellL own M seen true R = rs at hk hrl hsrt ⊢
  refine ⟨fun n last i => 0 ≤ i ∧ i ≤ rs.length ∧ n = rs.length - i.toNat ∧ ∀ x ∈ rs.drop i.toNat, last ≤ kd own x, ⟨_, by omega, by omega, rfl, fun x _ => kd_pos own x⟩, ?_⟩
  rintro n last i ⟨i0, i1, rfl, hlast⟩
  refine cond_d (fun hlt => ?_) (fun hge => rfl)
  obtain ⟨p, hp⟩ : ∃ x, rs[i.toNat]? = some x := ⟨_, List.getElem?_eq_getElem (by omega)⟩
  have hpr := List.mem_of_getElem? hp
  refine ⟨fun k => k = if anyO own p = true then 1 else 3, fun k hk1 => ?_, ?_⟩
  · refine ⟨fun k => k = if anyO own p = true then 1 else if p.1 = 3355443201 ∧ p.2.1 = 9 then 2 else 3, fun k hk2 => ?_, ?_⟩
    · refine ⟨fun k => k = kd own p, fun k hk3 => ?_, ⟨i0, hlt, fun x hx => ?_⟩⟩
      · subst hk3
        have hd := drop_cons i0 hp
        have h1 := hlast p (by rw [hd]; exact List.mem_cons_self ..)
        obtain ⟨h2, h4⟩ := hk p hpr
        have hnx : ∃ n, n < rs.length - i.toNat ∧ 0 ≤ i + 1 ∧ i + 1 ≤ rs.length ∧ n = rs.length - (i + 1).toNat ∧ ∀ x ∈ rs.drop (i + 1).toNat, kd own p ≤ kd own x := by
          refine ⟨_, by omega, by omega, by omega, rfl, fun x hx => ?_⟩
          have hs2 : (rs.drop i.toNat).Pairwise (fun x y => kd own x ≤ kd own y) := hsrt.sublist (List.drop_sublist _ _)
          rw [hd, List.pairwise_cons] at hs2
          exact hs2.1 x hx
        rw [wrap_i64 (x := i + 1) (by omega) (by omega)]
        refine joinP1.i (cond_f (by simp only [decide_eq_false_iff_not]; omega) (cond_e (fun e => cond_f (by simp only [decide_eq_false_iff_not]; have := h2 e; omega) (cond_f (by rw [e]; rfl) (cond_f rfl hnx))) (fun _ => cond_e (fun e => cond_f (by simp only [decide_eq_false_iff_not]; have := h4 e; omega) hnx) (fun _ => cond_f rfl hnx))))
      · obtain rfl : p = x := Option.some.inj (hp.symm.trans hx)
        unfold kd
        exact cond_b (fun e => by rw [if_pos e]) (fun e => by rw [if_neg (by rw [e]; decide)]; exact hk2)
    · subst hk1
      by_cases hc : anyO own p = true
      · simp only [if_pos hc]
        exact cond_f rfl trivial
      · simp only [if_neg hc]
        refine cond_t rfl ⟨i0, hlt, fun x hx => ?_⟩
        obtain rfl : p = x := Option.some.inj (hp.symm.trans hx)
        have e : (((p.1 : Int) == 3355443201) && (((p.2.1 : Int) == 9) && true)) = decide (p.1 = 3355443201 ∧ p.2.1 = 9) := by
          rw [Bool.eq_iff_iff]; simp
        rw [e]
        exact cond_d (fun h => by rw [if_pos h]) (fun h => by rw [if_neg h])
  · refine ⟨fun n k j => 0 ≤ j ∧ j ≤ own.length ∧ n = own.length - j.toNat ∧ k = if anyO (own.take j.toNat) p = true then 1 else 3, ⟨_, by omega, by omega, rfl, rfl⟩, ?_⟩
    rintro n k j ⟨j0, j1, rfl, rfl⟩
    refine cond_d (fun hjlt => ⟨j0, hjlt, fun a ha => ⟨i0, hlt, fun x hx => ?_⟩⟩) (fun hjge => by rw [take_all hjge j1])
    obtain rfl : p = x := Option.some.inj (hp.symm.trans hx)
    rw [eqA a (p.1, p.2.1), wrap_i64 (by omega) (by omega)]
    have hsn : anyO (own.take (j + 1).toNat) p = (anyO (own.take j.toNat) p || (decide (a = (p.1, p.2.1)) && !decide (insideP a.1))) := by
      rw [take_snoc j0 ha]
      unfold anyO
      rw [List.any_append]
      simp
    refine cond_d (fun e => ⟨j0, hjlt, fun b hb => ?_⟩) (fun e => ⟨own.length - (j + 1).toNat, by omega, by omega, by omega, rfl, ?_⟩)
    · obtain rfl : a = b := Option.some.inj (ha.symm.trans hb)
      refine inside_wp (hh a (List.mem_of_getElem? ha)) (cond_b (fun e2 => ⟨own.length - (j + 1).toNat, by omega, by omega, by omega, rfl, ?_⟩) (fun e2 => ⟨own.length - (j + 1).toNat, by omega, by omega, by omega, rfl, ?_⟩))
      · rw [hsn, if_pos]
        rw [e2]; simp [e]
      · rw [hsn]
        rw [e2]; simp
    · rw [hsn]; simp [e]

end Go.Proofs.Ytpdabbbemampbaa
