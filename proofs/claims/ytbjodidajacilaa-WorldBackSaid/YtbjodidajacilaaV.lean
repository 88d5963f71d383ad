/- The plain side: a way through a world. -/
import Derived.Test.YtbjodidajacilaaX
namespace Go.Proofs.Ytbjodidajacilaa
open Go Go.Eng

/-- A box that holds together. -/
structure GS (s : BS) : Prop where
  may : mayB s.1.1 s.1.2.1 s.1.2.2.1 s.1.2.2.2.1 s.1.2.2.2.2.1 s.1.2.2.2.2.2.1 s.1.2.2.2.2.2.2
  now : 0 ≤ s.2.2
  len : s.2.1.length ≤ 100
  ok : okS s.2.1

def inS (s : BS) (t pt fh fp : Int) : (Int × Int × Int) × BS :=
  if mayP fh fp ∧ s.2.2 ≤ t ∧ t ≤ 1099511627776 then (natIn s.1.2.2.2.2.1 (live t s.2.1) pt fh fp, (s.1, live t s.2.1, t)) else ((0, 0, 1), s)

def outS (s : BS) (t ih ip th tp : Int) : (Int × Int × Int) × BS :=
  if mayP ih ip ∧ mayP th tp ∧ s.2.2 ≤ t ∧ t ≤ 1099511627776 then ((natOut s.1.1 s.1.2.1 s.1.2.2.1 s.1.2.2.2.1 s.1.2.2.2.2.2.1 s.1.2.2.2.2.2.2 (live t s.2.1) t ih ip th tp).1, (s.1, (natOut s.1.1 s.1.2.1 s.1.2.2.1 s.1.2.2.2.1 s.1.2.2.2.2.2.1 s.1.2.2.2.2.2.2 (live t s.2.1) t ih ip th tp).2, t)) else ((0, 0, 1), s)

theorem GS.inS {s : BS} (h : GS s) (t pt fh fp : Int) : GS (inS s t pt fh fp).2 := by
  unfold Go.Proofs.Ytbjodidajacilaa.inS
  split
  · rename_i hc
    have hf : (live t s.2.1).length ≤ s.2.1.length := List.length_filter_le _ _
    have hl := h.len
    have hn := h.now
    exact ⟨h.may, by show 0 ≤ t; omega, by show (live t s.2.1).length ≤ 100; omega, fun x hx => h.ok x (List.mem_filter.1 hx).1⟩
  · exact h

theorem natOut_len {h lo hi mp li mo : Int} {bs : List BX} {t ih ip th tp : Int} (h1 : bs.length ≤ 100) (h2 : mo ≤ 100) : (natOut h lo hi mp li mo bs t ih ip th tp).2.length ≤ 100 := by
  unfold natOut
  split
  · split
    · simpa using h1
    · exact h1
  · split
    · split
      · simp; omega
      · exact h1
    · exact h1

theorem natOut_ok {h lo hi mp li mo : Int} {bs : List BX} {t ih ip th tp : Int} (h1 : okS bs) : okS (natOut h lo hi mp li mo bs t ih ip th tp).2 := by
  unfold natOut
  split
  · split
    · intro x hx
      rcases List.mem_or_eq_of_mem_set hx with hx | rfl
      · exact h1 x hx
      · exact seeS_len _ _ _
    · exact h1
  · split
    · split
      · intro x hx
        rcases List.mem_append.1 hx with hx | hx
        · exact h1 x hx
        · simp at hx; subst hx; exact seeS_len _ _ _
      · exact h1
    · exact h1

theorem GS.outS {s : BS} (h : GS s) (t ih ip th tp : Int) : GS (outS s t ih ip th tp).2 := by
  unfold Go.Proofs.Ytbjodidajacilaa.outS
  split
  · rename_i hc
    have hf : (live t s.2.1).length ≤ s.2.1.length := List.length_filter_le _ _
    have hl := h.len
    have hn := h.now
    have hm := h.may
    unfold mayB at hm
    exact ⟨h.may, by show 0 ≤ t; omega, natOut_len (by omega) (by omega), natOut_ok fun x hx => h.ok x (List.mem_filter.1 hx).1⟩
  · exact h

section
variable {m : SN} {mb : SB} {bx : List (Option Nat)} {ls : List (List (Option Nat))} {st : List BS}

theorem win_wp (hr : WR m mb bx ls st) {j b : Nat} {s : BS} {l : List (Option Nat)} (hg : GS s) (hs : st[j]? = some s) (hb : bx[j]? = some (some b)) (hl : ls[j]? = some l) (hrep : Rep mb l s.2.1) {t pt fh fp : Int} {K : Int → Int → Int → SN → SB → Prop}
    (hK : ∀ m' mb' ls', WR m' mb' bx ls' (st.set j (inS s t pt fh fp).2) → K (inS s t pt fh fp).1.1 (inS s t pt fh fp).1.2.1 (inS s t pt fh fp).1.2.2 m' mb') :
    nat_Nat_In_wp s.1.1 s.1.2.1 s.1.2.2.1 s.1.2.2.2.1 s.1.2.2.2.2.1 s.1.2.2.2.2.2.1 s.1.2.2.2.2.2.2 l s.2.2 t pt fh fp mb (fun r1 r2 r3 l' n' mb' => K r1 r2 r3 (putS m b (s.1.1, s.1.2.1, s.1.2.2.1, s.1.2.2.2.1, s.1.2.2.2.2.1, s.1.2.2.2.2.2.1, s.1.2.2.2.2.2.2, l', n')) mb') := by
  have hlen := hg.len
  refine in_wp hrep (by omega) hg.ok (fun hc => ?_) (fun hc l' mb' hr' hf => ?_)
  · have e : inS s t pt fh fp = ((0, 0, 1), s) := by unfold inS; rw [if_neg hc]
    rw [e] at hK
    have hw := hr.turn (t := s.2.2) hs hb hl hrep (Fr.refl mb l)
    exact hK _ _ _ hw
  · have e : inS s t pt fh fp = (natIn s.1.2.2.2.2.1 (live t s.2.1) pt fh fp, (s.1, live t s.2.1, t)) := by unfold inS; rw [if_pos hc]
    rw [e] at hK
    exact hK _ _ _ (hr.turn (t := t) hs hb hl hr' hf)

theorem wout_wp (hr : WR m mb bx ls st) {j b : Nat} {s : BS} {l : List (Option Nat)} (hg : GS s) (hs : st[j]? = some s) (hb : bx[j]? = some (some b)) (hl : ls[j]? = some l) (hrep : Rep mb l s.2.1) {t ih ip th tp : Int} {K : Int → Int → Int → SN → SB → Prop}
    (hK : ∀ m' mb' ls', WR m' mb' bx ls' (st.set j (outS s t ih ip th tp).2) → K (outS s t ih ip th tp).1.1 (outS s t ih ip th tp).1.2.1 (outS s t ih ip th tp).1.2.2 m' mb') :
    nat_Nat_Out_wp s.1.1 s.1.2.1 s.1.2.2.1 s.1.2.2.2.1 s.1.2.2.2.2.1 s.1.2.2.2.2.2.1 s.1.2.2.2.2.2.2 l s.2.2 t ih ip th tp mb (fun r1 r2 r3 l' n' mb' => K r1 r2 r3 (putS m b (s.1.1, s.1.2.1, s.1.2.2.1, s.1.2.2.2.1, s.1.2.2.2.2.1, s.1.2.2.2.2.2.1, s.1.2.2.2.2.2.2, l', n')) mb') := by
  have hlen := hg.len
  have hm := hg.may
  unfold mayB at hm
  refine out_wp hrep (by omega) (by omega) (by omega) (by omega) hg.now hg.ok (fun hc => ?_) (fun hc l' mb' hr' hf => ?_)
  · have e : outS s t ih ip th tp = ((0, 0, 1), s) := by unfold outS; rw [if_neg hc]
    rw [e] at hK
    exact hK _ _ _ (hr.turn (t := s.2.2) hs hb hl hrep (Fr.refl mb l))
  · have e : outS s t ih ip th tp = ((natOut s.1.1 s.1.2.1 s.1.2.2.1 s.1.2.2.2.1 s.1.2.2.2.2.2.1 s.1.2.2.2.2.2.2 (live t s.2.1) t ih ip th tp).1, (s.1, (natOut s.1.1 s.1.2.1 s.1.2.2.1 s.1.2.2.2.1 s.1.2.2.2.2.2.1 s.1.2.2.2.2.2.2 (live t s.2.1) t ih ip th tp).2, t)) := by unfold outS; rw [if_pos hc]
    rw [e] at hK
    exact hK _ _ _ (hr.turn (t := t) hs hb hl hr' hf)
end

/-- Whether the box stands there and has the number. -/
def bq (behind : List Int) (st : List BS) (at_ H : Int) (i : Nat) : Bool := (behind[i]? == some at_) && ((st[i]?.map fun s => s.1.1) == some H)
def boxI (behind : List Int) (st : List BS) (at_ H : Int) : Int := match (List.range st.length).find? (bq behind st at_ H) with
  | some i => i
  | none => -1

theorem boxI_cases (behind : List Int) (st : List BS) (at_ H : Int) : (boxI behind st at_ H = -1 ∧ ∀ i < st.length, bq behind st at_ H i = false) ∨ ∃ i : Nat, boxI behind st at_ H = i ∧ i < st.length ∧ bq behind st at_ H i = true ∧ ∀ j < i, bq behind st at_ H j = false := by
  unfold boxI
  cases h : (List.range st.length).find? (bq behind st at_ H) with
  | none =>
    left
    refine ⟨rfl, fun i hi => ?_⟩
    have := List.find?_eq_none.1 h i (List.mem_range.2 hi)
    simpa using this
  | some i =>
    right
    have h2 := List.find?_range_eq_some.1 h
    refine ⟨i, rfl, List.mem_range.1 h2.2.1, h2.1, fun j hj => ?_⟩
    have := h2.2.2 j hj
    simpa using this

theorem box_wp' {m : SN} {mb : SB} {bx : List (Option Nat)} {ls : List (List (Option Nat))} {st : List BS} {behind : List Int} {last at_ H : Int} {K : Int → SN → Prop} (hr : WR m mb bx ls st) (hbe : behind.length = st.length) (hl : st.length ≤ 1000)
    (hK : ∀ m', WR m' mb bx ls st → K (boxI behind st at_ H) m') : world_World_box_wp bx behind last at_ H m K := by
  unfold world_World_box_wp
  have hlen := hr.len.1
  refine ⟨fun n t m' => 0 ≤ t ∧ t ≤ st.length ∧ n = st.length - t.toNat ∧ WR m' mb bx ls st ∧ ∀ j : Nat, (j : Int) < t → bq behind st at_ H j = false, ⟨_, by omega, by omega, rfl, hr, fun j hj => by omega⟩, ?_⟩
  rintro n t m' ⟨t0, t1, rfl, hr', hj⟩
  refine cond_d (fun hlt => ⟨t0, hlt, fun p hp => ?_⟩) (fun hge => ?_)
  · have htl : t.toNat < st.length := by omega
    obtain ⟨s, hs⟩ : ∃ s, st[t.toNat]? = some s := ⟨_, List.getElem?_eq_getElem htl⟩
    obtain ⟨b, l, g1, g2, g3, g4⟩ := hr'.ent t.toNat s hs
    refine ⟨fun q m2 => q = bq behind st at_ H t.toNat ∧ WR m2 mb bx ls st, ?_, ⟨t0, by omega, fun x hx => ?_⟩⟩
    · rintro q m2 ⟨rfl, hr2⟩
      refine cond_b (fun e => ?_) (fun e => ⟨_, ?_, ?_, ?_, rfl, hr2, fun j hj2 => ?_⟩)
      · have hb : boxI behind st at_ H = t := by
          rcases boxI_cases behind st at_ H with ⟨-, h⟩ | ⟨i, e2, hi, h3, h4⟩
          · rw [h _ htl] at e; cases e
          · rw [e2]
            rcases Nat.lt_trichotomy i t.toNat with h | h | h
            · rw [hj i (by omega)] at h3; cases h3
            · omega
            · rw [h4 _ h] at e; cases e
        rw [← hb]
        exact hK m2 hr2
      all_goals try rw [wrap_i64 (by omega) (by omega)]
      · omega
      · omega
      · omega
      · rw [wrap_i64 (by omega) (by omega)] at hj2
        by_cases ej : (j : Int) < t
        · exact hj j ej
        · rw [show j = t.toNat by omega]; exact e
    · refine cond_e (fun e => ?_) (fun e => ⟨?_, hr'⟩)
      · rw [g1] at hp; cases hp
        refine ⟨b, rfl, _, g3, ?_⟩
        unfold nat_Nat_Box_wp
        refine ⟨?_, hr'.same g3⟩
        unfold bq
        rw [hx, hs, e]
        simp [mkN]
      · unfold bq
        rw [hx]
        have : (some x == some at_) = false := by simpa using e
        rw [this]; rfl
  · have hb : boxI behind st at_ H = -1 := by
      rcases boxI_cases behind st at_ H with ⟨e, -⟩ | ⟨i, e2, hi, h3, h4⟩
      · exact e
      · rw [hj i (by omega)] at h3; cases h3
    rw [← hb]
    exact hK m' hr'

abbrev RW := Int × (Int × Int) × (Int × Int) × Int

/-- The way, step by step. -/
def wayF (behind : List Int) (hosts : List (Int × Int)) (t : Int) : Nat → Int → Int → Int → Int → Int → Int → Bool → List BS → RW × List BS
  | 0, _, _, _, _, _, _, _, st => ((0, (0, 0), (0, 0), 8), st)
  | n + 1, fh, fp, th, tp, at_, came, inn, st =>
    if idx (isS th at_) hosts ≥ 0 then ((idx (isS th at_) hosts, (fh, fp), (th, tp), 0), st) else
    if boxI behind st at_ th ≠ -1 ∧ boxI behind st at_ th ≠ came then
      match st[(boxI behind st at_ th).toNat]? with
      | none => ((0, (0, 0), (0, 0), 8), st)
      | some s => if (inS s t tp fh fp).1.2.2 ≠ 0 then ((0, (0, 0), (0, 0), (inS s t tp fh fp).1.2.2), st.set (boxI behind st at_ th).toNat (inS s t tp fh fp).2)
        else wayF behind hosts t n fh fp (inS s t tp fh fp).1.1 (inS s t tp fh fp).1.2.1 (boxI behind st at_ th) came true (st.set (boxI behind st at_ th).toNat (inS s t tp fh fp).2)
    else if boxI behind st at_ th ≠ -1 ∨ inn = true ∨ at_ = -1 then ((0, (0, 0), (0, 0), 8), st)
    else match st[at_.toNat]?, behind[at_.toNat]? with
      | some s, some x => if (outS s t fh fp th tp).1.2.2 ≠ 0 then ((0, (0, 0), (0, 0), (outS s t fh fp th tp).1.2.2), st.set at_.toNat (outS s t fh fp th tp).2)
        else wayF behind hosts t n (outS s t fh fp th tp).1.1 (outS s t fh fp th tp).1.2.1 th tp x at_ inn (st.set at_.toNat (outS s t fh fp th tp).2)
      | _, _ => ((0, (0, 0), (0, 0), 8), st)

/-- How many steps it takes at most. -/
def mu (N at_ : Int) (inn : Bool) : Int := if inn then N - at_ else N + 1 + (at_ + 1)

def okWay (hosts : List (Int × Int)) (last now host pt th tp : Int) : Prop := 0 ≤ host ∧ host < hosts.length ∧ mayP th tp ∧ last ≤ now ∧ now ≤ 1099511627776 ∧ ∀ x, hosts[host.toNat]? = some x → mayP x.1 pt

theorem way_wp {m : SN} {mb : SB} {bx : List (Option Nat)} {ls : List (List (Option Nat))} {st : List BS} {behind : List Int} {hosts : List (Int × Int)} {last now host pt th tp : Int} {K : Int → Int → Int → Int → Int → Int → Int → SN → SB → Prop}
    (hr : WR m mb bx ls st) (hg : ∀ s ∈ st, GS s) (hbe : behind.length = st.length) (hsl : st.length ≤ 16) (hhl : hosts.length ≤ 16)
    (hbh : ∀ (i : Nat) (x : Int), behind[i]? = some x → -1 ≤ x ∧ x < i) (hhb : ∀ s ∈ hosts, -1 ≤ s.2 ∧ s.2 < st.length)
    (h1 : ¬ okWay hosts last now host pt th tp → K 0 0 0 0 0 1 last m mb)
    (h2 : okWay hosts last now host pt th tp → ∀ x, hosts[host.toNat]? = some x → ∀ r, r = wayF behind hosts now 40 x.1 pt th tp x.2 (-1) false st → ∀ m' mb' ls', WR m' mb' bx ls' r.2 → (∀ s ∈ r.2, GS s) → r.2.length = st.length →
      K r.1.1 r.1.2.1.1 r.1.2.1.2 r.1.2.2.1.1 r.1.2.2.1.2 r.1.2.2.2 now m' mb') :
    world_World_Way_wp bx behind hosts last now host pt th tp m mb K := by
  unfold world_World_Way_wp
  refine ⟨fun q => (q = true ↔ ¬ (0 ≤ host ∧ host < hosts.length ∧ mayP th tp ∧ last ≤ now ∧ now ≤ 1099511627776)), fun q hq => ?_, ?_⟩
  · refine cond_b (fun e => h1 fun hc => (hq.1 e) ⟨hc.1, hc.2.1, hc.2.2.1, hc.2.2.2.1, hc.2.2.2.2.1⟩) (fun e => ?_)
    have hm : 0 ≤ host ∧ host < hosts.length ∧ mayP th tp ∧ last ≤ now ∧ now ≤ 1099511627776 := Classical.byContradiction fun hc => by rw [hq.2 hc] at e; cases e
    refine ⟨hm.1, hm.2.1, fun x hx => addrMay_wp (cond_b (fun a => h1 fun hc => ?_) (fun a => ⟨hm.1, hm.2.1, fun x2 hx2 => ?_⟩))⟩
    · have := hc.2.2.2.2.2 x hx
      simp [this] at a
    rw [hx] at hx2; cases hx2
    have hfrom : mayP x.1 pt := by simpa using a
    have h2 := h2 ⟨hm.1, hm.2.1, hm.2.2.1, hm.2.2.2.1, hm.2.2.2.2, fun y hy => by rw [hx] at hy; cases hy; exact hfrom⟩ x hx
    have hxb := hhb x (List.mem_of_getElem? hx)
    let FK : RW × List BS → Prop := fun r => ∀ m' mb' ls', WR m' mb' bx ls' r.2 → (∀ s ∈ r.2, GS s) → r.2.length = st.length → K r.1.1 r.1.2.1.1 r.1.2.1.2 r.1.2.2.1.1 r.1.2.2.1.2 r.1.2.2.2 now m' mb'
    let INV : Nat → Int → Int → Int → Int → Int → Int → Bool → SN → SB → Prop := fun n fh fp th tp at_ came inn m mb => ∃ st' ls', WR m mb bx ls' st' ∧ (∀ s ∈ st', GS s) ∧ st'.length = st.length ∧ -1 ≤ at_ ∧ at_ < st.length ∧ (inn = true → 0 ≤ at_) ∧ mu st.length at_ inn < n ∧ FK (wayF behind hosts now n fh fp th tp at_ came inn st')
    refine joinP7.i ⟨INV, ⟨40, st, ls, hr, hg, rfl, hxb.1, hxb.2, fun h => (by cases h), by unfold mu; rw [if_neg (by simp)]; omega, h2 _ rfl⟩, ?_⟩
    rintro n fh fp th tp at_ came inn m mb ⟨st', ls', hr', hg', hlen', a0, a1, ain, hmu, hFK⟩
    obtain ⟨k, rfl⟩ : ∃ k, n = k + 1 := by
      cases n with
      | zero => unfold mu at hmu; split at hmu <;> omega
      | succ k => exact ⟨k, rfl⟩
    have hbl := hr'.len.1
    refine indexS_wp (by omega) (cond_d (fun h => ?_) (fun h => ?_))
    · have e : wayF behind hosts now (k + 1) fh fp th tp at_ came inn st' = ((idx (isS th at_) hosts, (fh, fp), (th, tp), 0), st') := by unfold wayF; rw [if_pos h]
      rw [e] at hFK
      exact hFK _ _ _ hr' hg' hlen'
    · refine box_wp' hr' (by omega) (by omega) (fun m2 hr2 => ?_)
      unfold wayF at hFK
      rw [if_neg h] at hFK
      refine ⟨fun q => (q = true ↔ boxI behind st' at_ th ≠ -1 ∧ boxI behind st' at_ th ≠ came), fun q hq => cond_b (fun e => ?_) (fun e => ?_), cond_n (fun a => by simp [a]) (fun a => by simp [a])⟩
      · have hc := hq.1 e
        rw [if_pos hc] at hFK
        rcases boxI_cases behind st' at_ th with ⟨e2, -⟩ | ⟨i, e2, hi, hbq, -⟩
        · exact absurd e2 hc.1
        rw [e2] at hFK ⊢
        obtain ⟨s, hs⟩ : ∃ s, st'[i]? = some s := ⟨_, List.getElem?_eq_getElem hi⟩
        obtain ⟨b, l, g1, g2, g3, g4⟩ := hr2.ent i s hs
        have hgs := hg' s (List.mem_of_getElem? hs)
        have hbi : behind[i]? = some at_ := by unfold bq at hbq; simp at hbq; exact hbq.1
        have hbx := hbh i at_ hbi
        refine ⟨by omega, by omega, fun p hp => ?_⟩
        rw [Int.toNat_natCast] at hp hFK
        rw [g1] at hp; cases hp
        refine ⟨b, rfl, _, g3, ?_⟩
        simp only [hs] at hFK
        refine win_wp hr2 hgs hs g1 g2 g4 (K := fun r1 r2 r3 m' mb' => cond ((r3 : Int) != 0) (K 0 0 0 0 0 r3 now m' mb') (∃ n3, n3 < k + 1 ∧ INV n3 fh fp r1 r2 i came true m' mb')) (fun m3 mb3 ls3 hr3 => ?_)
        have hg3 : ∀ s' ∈ st'.set i (inS s now tp fh fp).2, GS s' := fun s' hs' => by
          rcases List.mem_or_eq_of_mem_set hs' with hs' | rfl
          · exact hg' s' hs'
          · exact hgs.inS _ _ _ _
        refine cond_n (fun hne => ?_) (fun hz => ?_)
        · rw [if_pos hne] at hFK
          exact hFK _ _ _ hr3 hg3 (by simpa using hlen')
        · rw [if_neg (by omega)] at hFK
          refine ⟨k, by omega, _, _, hr3, hg3, by simpa using hlen', by omega, by omega, fun _ => by omega, ?_, hFK⟩
          unfold mu at hmu ⊢
          rw [if_pos rfl]
          split at hmu <;> omega
      · have hc : ¬ (boxI behind st' at_ th ≠ -1 ∧ boxI behind st' at_ th ≠ came) := fun hc => by rw [hq.2 hc] at e; cases e
        rw [if_neg hc] at hFK
        refine ⟨fun q => (q = true ↔ boxI behind st' at_ th ≠ -1 ∨ inn = true ∨ at_ = -1), fun q hq => cond_b (fun e => ?_) (fun e => ?_), cond_n (fun a => by simp [a]) (fun a => cond_b (fun b => by simp [b]) (fun b => by simp [a, b]))⟩
        · rw [if_pos (hq.1 e)] at hFK
          exact hFK _ _ _ hr2 hg' hlen'
        · have hc2 : ¬ (boxI behind st' at_ th ≠ -1 ∨ inn = true ∨ at_ = -1) := fun hc => by rw [hq.2 hc] at e; cases e
          rw [if_neg hc2] at hFK
          rw [not_or, not_or] at hc2
          have hinn : inn = false := by simpa using hc2.2.1
          have ha : 0 ≤ at_ := by omega
          obtain ⟨s, hs⟩ : ∃ s, st'[at_.toNat]? = some s := ⟨_, List.getElem?_eq_getElem (by omega)⟩
          obtain ⟨x', hx'⟩ : ∃ x, behind[at_.toNat]? = some x := ⟨_, List.getElem?_eq_getElem (by omega)⟩
          obtain ⟨b, l, g1, g2, g3, g4⟩ := hr2.ent at_.toNat s hs
          have hgs := hg' s (List.mem_of_getElem? hs)
          have hbx := hbh _ _ hx'
          refine ⟨ha, by omega, fun p hp => ?_⟩
          rw [g1] at hp; cases hp
          refine ⟨b, rfl, _, g3, ?_⟩
          simp only [hs, hx'] at hFK
          refine wout_wp hr2 hgs hs g1 g2 g4 (K := fun r1 r2 r3 m' mb' => cond ((r3 : Int) != 0) (K 0 0 0 0 0 r3 now m' mb') (0 ≤ at_ ∧ at_ < behind.length ∧ ∀ x7, behind[at_.toNat]? = some x7 → ∃ n5, n5 < k + 1 ∧ INV n5 r1 r2 th tp x7 at_ inn m' mb')) (fun m3 mb3 ls3 hr3 => ?_)
          have hg3 : ∀ s' ∈ st'.set at_.toNat (outS s now fh fp th tp).2, GS s' := fun s' hs' => by
            rcases List.mem_or_eq_of_mem_set hs' with hs' | rfl
            · exact hg' s' hs'
            · exact hgs.outS _ _ _ _ _
          refine cond_n (fun hne => ?_) (fun hz => ⟨ha, by omega, fun y hy => ?_⟩)
          · rw [if_pos hne] at hFK
            exact hFK _ _ _ hr3 hg3 (by simpa using hlen')
          · rw [hx'] at hy; cases hy
            rw [if_neg (by omega)] at hFK
            refine ⟨k, by omega, _, _, hr3, hg3, by simpa using hlen', by omega, by omega, (fun h => by rw [hinn] at h; cases h), ?_, hFK⟩
            unfold mu at hmu ⊢
            rw [hinn] at hmu ⊢
            simp only [Bool.false_eq_true, if_false] at hmu ⊢
            omega
  · refine cond_d (fun a => ?_) (fun a => cond_d (fun b => ?_) (fun b => addrMay_wp (cond_b (fun c => ?_) (fun c => cond_d (fun d => ?_) (fun d => ?_)))))
    all_goals simp only [true_iff, decide_eq_true_eq]
    · omega
    · omega
    · simp at c; exact fun h => c h.2.2.1
    · omega
    · simp at c
      constructor
      · intro h hh; omega
      · intro h
        exact Classical.byContradiction fun hn => h ⟨by omega, by omega, c, by omega, by omega⟩

end Go.Proofs.Ytbjodidajacilaa
