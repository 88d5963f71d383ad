/- The laws of the table: set again, in parts, full. -/
import Derived.Test.YtdonkmbhlankiaaS
namespace Go.Proofs.Ytdonkmbhlankiaa
open Go Go.Eng Go.Proofs Go.Sort
set_option maxRecDepth 20000
set_option maxHeartbeats 2000000

theorem Nams.again {names : List ByteArray} {k : Nat} {m : TM} (h : Nams names k m) {x : ByteArray} (hx : mapHas m x = true) (v : Int) : Nams names k (mapPut m x v) := by
  refine ⟨h.kn.put x v, ?_, fun y => ?_⟩
  · rw [length_put, if_pos hx]; exact h.len
  · rw [mapHas_put h.kn, Bool.or_eq_true, decide_eq_true_eq, h.has y]
    constructor
    · rintro (rfl | h2)
      · exact (h.has y).1 hx
      · exact h2
    · exact Or.inr

/-- All times lie between 0 and 65535. -/
def Small (m : TM) : Prop := ∀ p ∈ m, 0 ≤ p.2 ∧ p.2 ≤ 65535
theorem Small.put {m : TM} (h : Small m) (hn : KN m) {x : ByteArray} {v : Int} (h0 : 0 ≤ v) (h1 : v ≤ 65535) : Small (mapPut m x v) := by
  rintro ⟨a, b⟩ hp
  rcases (mem_put hn).1 hp with ⟨_, rfl⟩ | ⟨_, h2⟩
  · exact ⟨h0, h1⟩
  · exact h _ h2
theorem Small.del {m : TM} (h : Small m) (hn : KN m) {x : ByteArray} : Small (mapDel m x) := by
  rintro ⟨a, b⟩ hp
  exact h _ ((mem_del hn).1 hp).2
theorem Small.nil : Small [] := fun _ h => by cases h

theorem tell_again {gone : ByteArray} {K : TM → Nat × Int → Prop} : ∀ (L : TM) (c : Int), c = L.length → L.length ≤ 1000 → (∀ p ∈ L, p.2 ≤ 65535 ∧ p.1 ≠ gone) → K [] (0, 0) →
    TellP (fun _ _ s => s.1 = 0) (fun x _ s => if x = gone then (false, (1, s.2)) else (true, (0, IntKind.wrap .i64 (s.2 - 1)))) 1073741824 L ((0, c) : Nat × Int) K
  | [], c, hc, _, _, hK => by
    rw [hc]; exact hK
  | p :: L, c, hc, hl, hp, hK => by
    have h1 := hp p List.mem_cons_self
    rw [List.length_cons] at hc hl
    rw [TellP, if_neg (by omega)]
    dsimp only
    rw [if_neg h1.2, if_pos rfl]
    refine ⟨rfl, tell_again L _ ?_ (by omega) (fun q hq => hp q (List.mem_cons_of_mem _ hq)) hK⟩
    rw [wrap_i64 (by omega) (by omega)]; omega

theorem dueAgain_plain {names : List ByteArray} {times : List Int} {drop : Int} (_ : ∀ x ∈ names, x.size ≤ maxLen) (_ : names.length ≤ maxLen) (ht : ∀ x ∈ times, inK .u16 x) (_ : times.length ≤ maxLen) (hd : inK .u8 drop) : embrasurelaw06_DueAgain_wp names times drop (· = true) := by
  unfold embrasurelaw06_DueAgain_wp
  refine awake_wp (cond_f rfl ?_)
  have hd0 : 0 ≤ drop ∧ drop ≤ 255 := by simpa [inK] using hd
  refine ⟨fun t => t = false → names.length ≤ 60 ∧ times.length ≠ 0, ?_, ?_⟩
  · intro t htt
    refine cond_b (fun _ => rfl) (fun h => ?_)
    obtain ⟨h60, ht0⟩ := htt h
    unfold due_New_wp
    refine ⟨fun m => Nams names names.length m ∧ Small m, ?_, ?_⟩
    · rintro m ⟨hN, hS⟩
      have hlen := hN.len
      refine ⟨fun gone m1 => KN m1 ∧ m1.length ≤ 60 ∧ Small m1 ∧ mapHas m1 gone = false, ?_, ?_⟩
      · rintro gone m1 ⟨hk1, hl1, hs1, hg1⟩
        obtain ⟨L, hL⟩ := exists_rep m1 hk1
        refine names_wp hL (by omega) ?_
        refine joinP2.i ?_
        unfold due_Table_Due_wp
        rw [List.length_map]
        refine due_wp (ok := fun _ _ s => s.1 = 0) (step := fun x _ s => if x = gone then (false, (1, s.2)) else (true, (0, IntKind.wrap .i64 (s.2 - 1)))) ?_ hL (by omega) (tell_again (gone := gone) L _ rfl (by rw [hL.len]; omega) ?_ ?_)
        · intro x a s N hok hN
          refine ⟨hok, ?_⟩
          rw [ba_beq]
          refine cond_d (fun h2 => ?_) (fun h2 => ?_)
          · rw [if_pos h2] at hN; exact hN
          · rw [if_neg h2] at hN; exact hN
        · intro p hp
          have hpm := hL.perm.mem_iff.1 hp
          refine ⟨(hs1 p hpm).2, fun e => ?_⟩
          have : mapHas m1 gone = true := mapHas_iff.2 ⟨p.2, by rw [← e]; exact hpm⟩
          rw [this] at hg1; cases hg1
        · intro m' hm' hl'
          refine Or.inl ⟨rfl, ?_⟩
          refine next_wp hm' (by omega) (fun _ => cond_t rfl rfl) (fun p M e => by cases e)
      · refine cond_d (fun hlt => ⟨by omega, ?_⟩) (fun hge => ?_)
        · rw [wrap_i64 (by omega) (by omega)]
          obtain ⟨dn, rfl⟩ : ∃ dn : Nat, drop = dn := ⟨drop.toNat, by omega⟩
          rw [tmodN]
          have hmod : dn % names.length < names.length := Nat.mod_lt _ (by omega)
          refine ⟨by omega, by omega, fun x hx => ?_⟩
          have hh : mapHas m x = true := (hN.has x).2 (by rw [List.take_length]; exact List.mem_of_getElem? hx)
          unfold due_Table_Drop_wp
          rw [hh]
          refine cond_f rfl ⟨hN.kn.del x, ?_, hS.del hN.kn, ?_⟩
          · rw [length_del, if_pos hh]; omega
          · rw [mapHas_del hN.kn, decide_eq_true rfl]; rfl
        · have hz : m.length = 0 := by omega
          have hm : m = [] := List.eq_nil_of_length_eq_zero hz
          subst hm
          exact ⟨KN.nil, by simp, Small.nil, rfl⟩
    · refine ⟨fun n i m => ∃ k : Nat, i = k ∧ k ≤ names.length ∧ Nams names k m ∧ Small m ∧ n = names.length - k, ⟨_, 0, rfl, Nat.zero_le _, Nams.nil names, Small.nil, rfl⟩, ?_⟩
      rintro n i m ⟨k, rfl, hk, hN, hS, rfl⟩
      refine cond_d (fun hlt => ?_) (fun hge => ?_)
      · have hmod : k % times.length < times.length := Nat.mod_lt _ (by omega)
        have hk2 : k < names.length := by omega
        have rd : ∀ x, names[Int.toNat ((k : Nat) : Int)]? = some x → x = names[k] := fun x hx => by
          rw [Int.toNat_natCast, List.getElem?_eq_getElem hk2] at hx
          cases hx; rfl
        have rt : ∀ v, times[Int.toNat ((k % times.length : Nat) : Int)]? = some v → v = times[k % times.length] := fun v hx => by
          rw [Int.toNat_natCast, List.getElem?_eq_getElem hmod] at hx
          cases hx; rfl
        have hgk : names[k]? = some names[k] := List.getElem?_eq_getElem hk2
        have hv0 : 0 ≤ times[k % times.length] ∧ times[k % times.length] ≤ 65535 := by
          have := ht _ (List.getElem_mem hmod)
          simpa [inK] using this
        have hlen := hN.len
        rw [tmodN]
        refine ⟨by omega, by omega, fun x hx => cond_d (fun _ => rfl) (fun h6 => ?_)⟩
        refine ⟨fun t m1 => t = false ∧ Nams names (k + 1) m1 ∧ Small m1 ∧ mapGet m1 names[k] 0 = times[k % times.length], ?_, ?_⟩
        · rintro t m1 ⟨rfl, hN1, hS1, hg1⟩
          refine ⟨by omega, by omega, fun y hy => ?_⟩
          obtain rfl := rd y hy
          unfold due_Table_At_wp
          have hh : mapHas m1 names[k] = true := (hN1.has _).2 (by rw [List.take_add_one, hgk]; exact List.mem_append_right _ (List.mem_singleton.2 rfl))
          rw [hh, hg1]
          refine ⟨fun t => t = false, ?_, ?_⟩
          · rintro t rfl
            exact ⟨names.length - (k + 1), by omega, k + 1, wp1 (by omega), by omega, hN1, hS1, rfl⟩
          · refine cond_f rfl ⟨by omega, by omega, by omega, fun v hv => ?_⟩
            obtain rfl := rt v hv
            rw [wrap_i64 (by omega) (by omega)]
            simp
        · refine ⟨by omega, by omega, fun y hy => ?_⟩
          obtain rfl := rd y hy
          refine set_wp (by decide) (by decide) (Or.inr (by omega)) ?_
          refine cond_f (by decide) ⟨by omega, by omega, fun y hy => ⟨by omega, by omega, by omega, fun v hv => ?_⟩⟩
          obtain rfl := rd y hy
          obtain rfl := rt v hv
          rw [wrap_i64 (by omega) (by omega)]
          have hN1 := hN.put hgk 9
          have hh : mapHas (mapPut m names[k] 9) names[k] = true := by rw [mapHas_put hN.kn, decide_eq_true rfl]; rfl
          refine set_wp (by omega) (by omega) (Or.inl hh) ⟨by decide, hN1.again hh _, (hS.put hN.kn (by decide) (by decide)).put hN1.kn (by omega) (by omega), ?_⟩
          rw [mapGet_put hN1.kn, if_pos rfl]
      · have e : k = names.length := by omega
        rw [← e]; exact ⟨hN, hS⟩
  · refine cond_d (fun h => fun e => by cases e) (fun h => fun e => ?_)
    have : ¬ ((times.length : Nat) : Int) = 0 := by simpa using e
    omega

/-! In parts -/
def cat (s : ByteArray) (L : TM) : ByteArray := L.foldl (fun s p => s ++ p.1) s
def upto (t : Int) (L : TM) : TM := L.takeWhile fun p => decide (p.2 ≤ t)
def past (t : Int) (L : TM) : TM := L.dropWhile fun p => decide (p.2 ≤ t)

theorem upto_two {one two : Int} (h : one ≤ two) : ∀ L : TM, upto one L ++ upto two (past one L) = upto two L
  | [] => rfl
  | p :: L => by
    unfold upto past
    by_cases h1 : p.2 ≤ one
    · have h2 : p.2 ≤ two := by omega
      have := upto_two h L
      unfold upto past at this
      simp [List.takeWhile_cons, List.dropWhile_cons, h1, h2, this]
    · simp [List.takeWhile_cons, List.dropWhile_cons, h1]

theorem past_two {one two : Int} (h : one ≤ two) : ∀ L : TM, past two (past one L) = past two L
  | [] => rfl
  | p :: L => by
    unfold past
    by_cases h1 : p.2 ≤ one
    · have h2 : p.2 ≤ two := by omega
      have := past_two h L
      unfold past at this
      simp [List.dropWhile_cons, h1, h2, this]
    · simp [List.dropWhile_cons, h1]

theorem tell_parts {t : Int} {K : TM → Nat × ByteArray → Prop} : ∀ (L : TM) (s : ByteArray), (∀ p ∈ L, p.1.size ≤ 2) → s.size + 2 * L.length ≤ 10000 → K (past t L) (0, cat s (upto t L)) →
    TellP (fun x _ s => s.1 = 0 ∧ s.2.size + x.size ≤ 9223372036854775807) (fun x _ s => (true, (0, s.2 ++ x))) t L ((0, s) : Nat × ByteArray) K
  | [], s, _, _, hK => hK
  | p :: L, s, hp, hl, hK => by
    have h1 := hp p List.mem_cons_self
    rw [List.length_cons] at hl
    rw [TellP]
    by_cases h : t < p.2
    · rw [if_pos h]
      have h2 : ¬ p.2 ≤ t := by omega
      unfold past upto cat at hK
      simpa [List.takeWhile_cons, List.dropWhile_cons, h2] using hK
    · rw [if_neg h]
      have h2 : p.2 ≤ t := by omega
      dsimp only
      rw [if_pos rfl]
      refine ⟨⟨rfl, by omega⟩, tell_parts L _ (fun q hq => hp q (List.mem_cons_of_mem _ hq)) (by rw [ByteArray.size_append]; omega) ?_⟩
      unfold past upto cat at hK
      unfold past upto cat
      simpa [List.takeWhile_cons, List.dropWhile_cons, h2] using hK

theorem size_strOf2 (a b : Int) : (strOf [a, b]).size = 2 := rfl

theorem cat_upto (s : ByteArray) (L M : TM) : cat (cat s L) M = cat s (L ++ M) := by
  unfold cat; rw [List.foldl_append]

theorem dueParts_plain {times : List Int} {now0 now1 : Int} (ht : ∀ x ∈ times, inK .u16 x) (_ : times.length ≤ maxLen) (hn0 : inK .u16 now0) (hn1 : inK .u16 now1) : embrasurelaw06_DueParts_wp times now0 now1 (· = true) := by
  unfold embrasurelaw06_DueParts_wp
  refine awake_wp (cond_f rfl (cond_d (fun _ => rfl) (fun h60 => ?_)))
  have h0 : 0 ≤ now0 ∧ now0 ≤ 65535 := by simpa [inK] using hn0
  have h1 : 0 ≤ now1 ∧ now1 ≤ 65535 := by simpa [inK] using hn1
  obtain ⟨one, e1⟩ : ∃ one, IntKind.wrap .i64 (if now1 < now0 then now1 else now0) = one := ⟨_, rfl⟩
  obtain ⟨two, e2⟩ : ∃ two, IntKind.wrap .i64 (if now1 > now0 then now1 else now0) = two := ⟨_, rfl⟩
  have h12 : one ≤ two := by
    rw [← e1, ← e2]
    split <;> split <;> (try rw [wrap_i64 (by omega) (by omega)]) <;> (try rw [wrap_i64 (by omega) (by omega)]) <;> omega
  rw [e1, e2]
  unfold due_New_wp
  refine ⟨fun m1 m2 => m1 = m2 ∧ KN m1 ∧ m1.length ≤ 60 ∧ ∀ p ∈ m1, p.1.size = 2, ?_, ?_⟩
  · rintro m1 m2 ⟨rfl, hkn, hlen, hsz⟩
    obtain ⟨L, hL⟩ := exists_rep m1 hkn
    have hLl := hL.len
    have hLs : ∀ p ∈ L, p.1.size ≤ 2 := fun p hp => by rw [hsz p (hL.perm.mem_iff.1 hp)]; omega
    have hLs1 : ∀ p ∈ past one L, p.1.size ≤ 2 := fun p hp => hLs p ((List.dropWhile_sublist _).subset hp)
    have hl1 : (past one L).length ≤ L.length := (List.dropWhile_sublist _).length_le
    have hl2 : (upto one L).length ≤ L.length := (List.takeWhile_sublist _).length_le
    have szc : ∀ (M : TM) (s : ByteArray), (∀ p ∈ M, p.1.size ≤ 2) → (cat s M).size ≤ s.size + 2 * M.length := by
      intro M
      induction M with
      | nil => intro s _; exact Nat.le_refl _
      | cons p M ih =>
        intro s hs
        have := ih (s ++ p.1) (fun q hq => hs q (List.mem_cons_of_mem _ hq))
        have h2 := hs p List.mem_cons_self
        rw [ByteArray.size_append] at this
        rw [List.length_cons]
        show (cat (s ++ p.1) M).size ≤ _
        omega
    have hz : (ByteArray.mk ([]).toArray).size = 0 := rfl
    have hYd : ∀ (x : ByteArray) (a : Int) (s : Nat × ByteArray) (N : Bool → Nat × ByteArray → Prop), (s.1 = 0 ∧ s.2.size + x.size ≤ 9223372036854775807) → N true (0, s.2 ++ x) → s.1 = 0 ∧ (s.2.size + x.size ≤ 9223372036854775807 ∧ N true (0, s.2 ++ x)) :=
      fun x a s N hok hN => ⟨hok.1, hok.2, hN⟩
    unfold due_Table_Due_wp
    refine joinP2.i (due_wp (ok := fun x _ s => s.1 = 0 ∧ s.2.size + x.size ≤ 9223372036854775807) (step := fun x _ s => (true, (0, s.2 ++ x))) hYd hL (by omega) (tell_parts L _ hLs (by rw [hz]; omega) ?_))
    intro m' hm' hl'
    refine ⟨rfl, ?_⟩
    have hs1 : (cat (ByteArray.mk ([]).toArray) (upto one L)).size ≤ 2 * L.length := by
      have := szc (upto one L) (ByteArray.mk ([]).toArray) (fun p hp => hLs p ((List.takeWhile_sublist _).subset hp))
      rw [hz] at this; omega
    refine joinP2.i (due_wp (ok := fun x _ s => s.1 = 0 ∧ s.2.size + x.size ≤ 9223372036854775807) (step := fun x _ s => (true, (0, s.2 ++ x))) hYd hm' (by omega) (tell_parts (past one L) _ hLs1 (by dsimp only; omega) ?_))
    intro m2 hm2 hl2'
    refine ⟨rfl, ?_⟩
    refine joinP2.i (due_wp (ok := fun x _ s => s.1 = 0 ∧ s.2.size + x.size ≤ 9223372036854775807) (step := fun x _ s => (true, (0, s.2 ++ x))) hYd hL (by omega) (tell_parts L _ hLs (by rw [hz]; omega) ?_))
    intro m3 hm3 hl3'
    refine ⟨rfl, ?_⟩
    dsimp only
    rw [cat_upto, upto_two h12, ba_self, cond_true]
    rw [past_two h12] at hm2
    refine names_wp hm2 (by omega) (names_wp hm3 (by omega) ?_)
    simp
  · refine ⟨fun n i m1 m2 => ∃ k : Nat, i = k ∧ k ≤ times.length ∧ m1 = m2 ∧ KN m1 ∧ m1.length ≤ k ∧ (∀ p ∈ m1, p.1.size = 2) ∧ n = times.length - k, ⟨_, 0, rfl, Nat.zero_le _, rfl, KN.nil, Nat.zero_le _, (fun _ h => by cases h), rfl⟩, ?_⟩
    rintro n i m1 m2 ⟨k, rfl, hk, rfl, hkn, hlen, hsz, rfl⟩
    refine cond_d (fun hlt => ?_) (fun hge => ⟨rfl, hkn, by omega, hsz⟩)
    have hk2 : k < times.length := by omega
    have rd : ∀ x, times[Int.toNat ((k : Nat) : Int)]? = some x → x = times[k] := fun x hx => by
      rw [Int.toNat_natCast, List.getElem?_eq_getElem hk2] at hx
      cases hx; rfl
    have hv0 : 0 ≤ times[k] ∧ times[k] ≤ 65535 := by
      have := ht _ (List.getElem_mem hk2)
      simpa [inK] using this
    refine ⟨fun t m3 m4 => t = false ∧ m3 = m4 ∧ KN m3 ∧ m3.length ≤ k + 1 ∧ ∀ p ∈ m3, p.1.size = 2, ?_, ?_⟩
    · rintro t m3 m4 ⟨rfl, rfl, g1, g2, g3⟩
      exact ⟨times.length - (k + 1), by omega, k + 1, wp1 (by omega), by omega, rfl, g1, g2, g3, rfl⟩
    · refine ⟨by omega, by omega, fun x hx => ?_⟩
      obtain rfl := rd x hx
      rw [wrap_i64 (x := times[k]) (by omega) (by omega)]
      refine set_wp (by omega) (by omega) (Or.inr (by omega)) (cond_f (by decide) ⟨by omega, by omega, fun x hx => ?_⟩)
      obtain rfl := rd x hx
      rw [wrap_i64 (x := times[k]) (by omega) (by omega)]
      refine set_wp (by omega) (by omega) (Or.inr (by omega)) ⟨by decide, rfl, hkn.put _ _, ?_, ?_⟩
      · rw [length_put]; split <;> omega
      · rintro ⟨a, b⟩ hp
        rcases (mem_put hkn).1 hp with ⟨rfl, _⟩ | ⟨_, h2⟩
        · rfl
        · exact hsz _ h2

end Go.Proofs.Ytdonkmbhlankiaa
