/- The plain side: WorldTime. -/
import Derived.Test.YtbjodidajacilaaR1
import Derived.Test.YtbjodidajacilaaPA
namespace Go.Proofs.Ytbjodidajacilaa
open Go Go.Eng

theorem inS_8 {s : BS} (h : s.2.1 = []) {t pt fh fp : Int} (hf : mayP fh fp) (ht : s.2.2 ≤ t) (hm : t ≤ 1099511627776) : (inS s t pt fh fp).1.2.2 = 8 := by
  unfold inS
  rw [if_pos ⟨hf, ht, hm⟩, h]
  rfl

theorem outS_new {s : BS} (hg : GS s) (h : s.2.1 = []) {t ih ip th tp : Int} (hf : mayP ih ip) (hto : mayP th tp) (ht : s.2.2 ≤ t) (hm : t ≤ 1099511627776) :
    (outS s t ih ip th tp).1.2.2 ≠ 1 ∧ ((outS s t ih ip th tp).1.2.2 = 0 → mayP (outS s t ih ip th tp).1.1 (outS s t ih ip th tp).1.2.1) ∧ (outS s t ih ip th tp).2.2.2 = t := by
  have hmay := hg.may
  unfold mayB at hmay
  unfold outS
  rw [if_pos ⟨hf, hto, ht, hm⟩, h]
  refine ⟨?_, ?_, rfl⟩
  all_goals
    show _ → _
    unfold natOut
    have e0 : live t ([] : List BX) = [] := rfl
    have e1 : outI ih ip (keyH s.1.2.2.2.1 th) (keyP s.1.2.2.2.1 tp) [] = none := rfl
    rw [e0, e1]
    simp only []
    cases hc : chooseP s.1.2.1 s.1.2.2.1 ip ([] : List BX) with
    | none => simp
    | some p =>
      simp only []
      have hp := choose_some hc
      split
      · simp
        try (intro; unfold mayP; exact ⟨hmay.1, by omega, by omega⟩)
        try (unfold mayP; exact ⟨hmay.1, by omega, by omega⟩)
      · simp

/-- In a world that was just made nothing is refused as an argument. -/
theorem way_fresh {behind : List Int} {hosts : List (Int × Int)} {t : Int} (hm : t ≤ 1099511627776) (hbh : ∀ (i : Nat) (x : Int), behind[i]? = some x → -1 ≤ x ∧ x < i) : ∀ (n : Nat) (fh fp th tp at_ came : Int) (st : List BS),
    mayP fh fp → mayP th tp → (∀ s ∈ st, GS s ∧ s.2.2 ≤ t) → -1 ≤ at_ → (came = -1 ∨ (0 ≤ came ∧ behind[came.toNat]? = some at_)) →
    (∀ (i : Nat) (s : BS), st[i]? = some s → s.2.1 ≠ [] → (i : Int) = came ∨ ∃ x, behind[i]? = some x ∧ at_ < x) → (wayF behind hosts t n fh fp th tp at_ came false st).1.2.2.2 ≠ 1
  | 0, _, _, _, _, _, _, _, _, _, _, _, _, _ => by show (8 : Int) ≠ 1; omega
  | n + 1, fh, fp, th, tp, at_, came, st, hf, hto, hg, ha, hcame, htch => by
    rw [wayF_succ]
    split
    · show (0 : Int) ≠ 1; omega
    split
    · rename_i hc
      split
      · show (8 : Int) ≠ 1; omega
      · rename_i s hs
        obtain ⟨g1, g2⟩ := hg s (List.mem_of_getElem? hs)
        have hempty : s.2.1 = [] := by
          refine Classical.byContradiction fun hne => ?_
          rcases boxI_cases behind st at_ th with ⟨e, -⟩ | ⟨i, e, hi, hbq, -⟩
          · exact hc.1 e
          · rw [e] at hs hc
            rw [Int.toNat_natCast] at hs
            rcases htch i s hs hne with h | ⟨x, hx, hlt⟩
            · exact hc.2 h
            · unfold bq at hbq
              simp at hbq
              rw [hbq.1] at hx
              cases hx
              omega
        have h8 := inS_8 hempty (pt := tp) hf g2 hm
        rw [if_pos (by omega)]
        show (inS s t tp fh fp).1.2.2 ≠ 1
        omega
    split
    · show (8 : Int) ≠ 1; omega
    rename_i hc2
    rw [not_or, not_or] at hc2
    split
    · rename_i s x hs hx
      obtain ⟨g1, g2⟩ := hg s (List.mem_of_getElem? hs)
      have hat : 0 ≤ at_ := by omega
      have hxb := hbh _ _ hx
      have hempty : s.2.1 = [] := by
        refine Classical.byContradiction fun hne => ?_
        rcases htch _ s hs hne with h | ⟨y, hy, hlt⟩
        · rcases hcame with hc | ⟨c0, hc⟩
          · omega
          · have := hbh _ _ hc; omega
        · rw [hx] at hy; cases hy; omega
      obtain ⟨o1, o2, o3⟩ := outS_new g1 hempty hf hto g2 hm
      split
      · exact o1
      · rename_i hz
        have hz : (outS s t fh fp th tp).1.2.2 = 0 := Classical.byContradiction fun h => hz h
        refine way_fresh hm hbh n _ _ th tp x at_ _ (o2 hz) hto (fun s' hs' => ?_) hxb.1 (.inr ⟨hat, hx⟩) fun i s' hs' hne => ?_
        · rcases List.mem_or_eq_of_mem_set hs' with hs' | rfl
          · exact hg s' hs'
          · exact ⟨g1.outS _ _ _ _ _, by rw [o3]; omega⟩
        · by_cases e : i = at_.toNat
          · left; omega
          · rw [List.getElem?_set_ne (fun c => e c.symm)] at hs'
            rcases htch i s' hs' hne with h | ⟨y, hy, hlt⟩
            · right
              rcases hcame with hc | ⟨c0, hc⟩
              · omega
              · exact ⟨at_, by rw [← hc]; congr 1; omega, by omega⟩
            · exact .inr ⟨y, hy, by omega⟩
    · show (8 : Int) ≠ 1; omega

theorem worldTime_plain {boxes : List CF} {behind : List Int} {hosts : List (Int × Int)} {wait host pt th tp now : Int} {back : Bool} {ok1 : CF → Prop} (hk1 : ∀ x ∈ boxes, ok1 x) (hl1 : boxes.length ≤ 9223372036854775807) {ok2 : Int → Prop} (hk2 : ∀ x ∈ behind, ok2 x) (hl2 : behind.length ≤ 9223372036854775807) {ok3 : Int × Int → Prop} (hk3 : ∀ x ∈ hosts, ok3 x) (hl3 : hosts.length ≤ 9223372036854775807)
    (hw : inK .i64 wait) (hh : inK .i64 host) (hpt : inK .i64 pt) (hth : inK .u32 th) (htp : inK .i64 tp) (hnow : inK .i64 now) : embrasurelaw14_WorldTime_wp boxes behind hosts wait host pt th tp back now (· = true) := by
  unfold embrasurelaw14_WorldTime_wp
  refine awake_wp (cond_f rfl (small_wp (cond_t rfl rfl) (fun s1 s2 s3 => cond_f rfl (new_wp (by omega) (fun _ _ => rfl) (fun bx m hn g1 g2 g3 => ?_)))))
  have hr := fresh g1 g2 g3
  have hg := gs_fresh hn
  refine ⟨fun t => (t = true ↔ 0 ≤ now ∧ now ≤ 1099511627776 ∧ 0 ≤ host ∧ host < hosts.length ∧ (1 ≤ pt ∧ pt ≤ 65535) ∧ mayP th tp), fun t ht => ?_, ?_⟩
  · refine way_wp hr hg (by simp [hn.be]) (by simpa using hn.bl) hn.hl hn.bh' (fun s hs => by have := hn.hb s hs; simpa using this) (fun hno => ?_) (fun hok x hx r er m1 mb1 ls1 _ _ _ => ?_)
    · refine cond_b (fun e => ?_) (fun e => ?_)
      · have h := ht.1 e
        exact absurd ⟨h.2.2.1, h.2.2.2.1, h.2.2.2.2.2, h.1, h.2.1, fun x hx => ⟨hn.hn.2 x (List.mem_of_getElem? hx), h.2.2.2.2.1⟩⟩ hno
      · refine joinP2.i ⟨fun n i m mb => 0 ≤ i ∧ i ≤ boxes.length ∧ n = boxes.length - i.toNat ∧ ∃ ls st, WR m mb bx ls st ∧ st.length = boxes.length ∧ ∀ s ∈ st, s.2.1 = [] ∧ 0 ≤ s.2.2 ∧ s.2.2 ≤ 1099511627776,
          ⟨_, by omega, by omega, rfl, _, _, hr, by simp, fun s hs => ?_⟩, ?_⟩
        · obtain ⟨c, -, rfl⟩ := List.mem_map.1 hs
          exact ⟨rfl, by show (0 : Int) ≤ 0; omega, by show (0 : Int) ≤ 1099511627776; omega⟩
        · rintro n i m mb ⟨i0, i1, rfl, ls, st, hr', hl', hall⟩
          refine cond_d (fun hlt => wbox_wp (fun h => absurd h (by omega)) (fun p _ hp => ?_)) (fun _ => cond_t rfl (cond_t rfl (cond_t rfl rfl)))
          obtain ⟨s, hs⟩ : ∃ s, st[i.toNat]? = some s := ⟨_, List.getElem?_eq_getElem (by omega)⟩
          obtain ⟨b, l, q1, q2, q3, q4⟩ := hr'.ent i.toNat s hs
          obtain ⟨r1, r2, r3⟩ := hall s (List.mem_of_getElem? hs)
          rw [q1] at hp; cases hp
          refine ⟨b, rfl, _, q3, ?_⟩
          have hq4 := q4
          rw [r1] at hq4
          refine all_wp hq4 (by simp) (fun h => absurd ⟨r3, by omega⟩ h) (fun _ l' mb' rs hrp hf hperm _ => ?_)
          have : rs = [] := by simpa [live] using hperm
          rw [this]
          refine cond_f rfl ⟨_, ?_, ?_, ?_, rfl, _, _, hr'.turn (t := 1099511627776) hs q1 q2 hrp hf, by simpa using hl', fun s' hs' => ?_⟩
          · rw [wrap_i64 (by omega) (by omega)]; omega
          · rw [wrap_i64 (by omega) (by omega)]; omega
          · rw [wrap_i64 (by omega) (by omega)]; omega
          · rcases List.mem_or_eq_of_mem_set hs' with hs' | rfl
            · exact hall s' hs'
            · exact ⟨rfl, by show (0 : Int) ≤ 1099511627776; omega, by show (1099511627776 : Int) ≤ 1099511627776; omega⟩
    · obtain ⟨o1, o2, o3, o4, o5, o6⟩ := hok
      have h6 := o6 x hx
      have htrue : t = true := ht.2 ⟨o4, o5, o1, o2, h6.2, o3⟩
      refine cond_t htrue ?_
      have hxb := hn.hb x (List.mem_of_getElem? hx)
      have hne := way_fresh (hosts := hosts) o5 hn.bh' 40 x.1 pt th tp x.2 (-1) (boxes.map fun c => (c, [], 0)) h6 o3 (fun s hs => ?_) hxb.1 (.inl rfl) (fun i s hs hne => ?_)
      · rw [← er] at hne
        simpa using hne
      · refine ⟨hg s hs, ?_⟩
        obtain ⟨c, -, rfl⟩ := List.mem_map.1 hs
        exact o4
      · obtain ⟨c, -, rfl⟩ := List.mem_map.1 (List.mem_of_getElem? hs)
        exact absurd rfl hne
  · unfold mayP
    refine cond_d (fun a1 => cond_d (fun a2 => cond_d (fun a3 => cond_d (fun a4 => cond_d (fun a5 => cond_d (fun a6 => cond_n (fun a7 => cond_d (fun a8 => ?_) (fun a8 => ?_)) (fun a7 => ?_)) (fun a6 => ?_)) (fun a5 => ?_)) (fun a4 => ?_)) (fun a3 => ?_)) (fun a2 => ?_)) (fun a1 => ?_)
    all_goals simp only [decide_eq_true_eq, Bool.false_eq_true, false_iff]
    all_goals omega

end Go.Proofs.Ytbjodidajacilaa
