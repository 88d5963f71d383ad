/- The plain side: WorldOpen. -/
import Derived.Test.YtbjodidajacilaaO
namespace Go.Proofs.Ytbjodidajacilaa
open Go Go.Eng

theorem small_wp {boxes : List CF} {behind : List Int} {hosts : List (Int × Int)} {K : Bool → Prop} (h0 : K false) (h1 : boxes.length ≤ 40 → behind.length ≤ 40 → hosts.length ≤ 40 → K true) : embrasurelaw14_Small_wp boxes behind hosts K := by
  unfold embrasurelaw14_Small_wp
  refine cond_d (fun a => cond_d (fun b => ?_) (fun _ => h0)) (fun _ => h0)
  by_cases c : (hosts.length : Int) ≤ 40
  · rw [decide_eq_true c]; exact h1 (by omega) (by omega) (by omega)
  · rw [decide_eq_false c]; exact h0

theorem wayF_succ {behind : List Int} {hosts : List (Int × Int)} {t : Int} {n : Nat} {fh fp th tp at_ came : Int} {inn : Bool} {st : List BS} : wayF behind hosts t (n + 1) fh fp th tp at_ came inn st =
    if idx (isS th at_) hosts ≥ 0 then ((idx (isS th at_) hosts, (fh, fp), (th, tp), 0), st) else
    if boxI behind st at_ th ≠ -1 ∧ boxI behind st at_ th ≠ came then
      match st[(boxI behind st at_ th).toNat]? with
      | none => ((0, (0, 0), (0, 0), 8), st)
      | some s => if (inS s t tp fh fp).1.2.2 ≠ 0 then ((0, (0, 0), (0, 0), (inS s t tp fh fp).1.2.2), st.set (boxI behind st at_ th).toNat (inS s t tp fh fp).2)
        else wayF behind hosts t n fh fp (inS s t tp fh fp).1.1 (inS s t tp fh fp).1.2.1 (boxI behind st at_ th) came true (st.set (boxI behind st at_ th).toNat (inS s t tp fh fp).2)
    else if boxI behind st at_ th ≠ -1 ∨ inn = true ∨ at_ = -1 then ((0, (0, 0), (0, 0), 8), st)
    else match st[at_.toNat]?, behind[at_.toNat]? with
      | some s, some x => if (outS s t fh fp th tp).1.2.2 ≠ 0 then ((0, (0, 0), (0, 0), (outS s t fh fp th tp).1.2.2), st.set at_.toNat (outS s t fh fp th tp).2)
        else wayF behind hosts t n (outS s t fh fp th tp).1.1 (outS s t fh fp th tp).1.2.1 th tp x at_ inn (st.set at_.toNat (outS s t fh fp th tp).2)
      | _, _ => ((0, (0, 0), (0, 0), 8), st) := rfl

theorem inS_fresh {s : BS} (h : s.2.1 = []) (t pt fh fp : Int) : (inS s t pt fh fp).1.2.2 = 8 ∨ (inS s t pt fh fp).1.2.2 = 1 := by
  unfold inS
  split
  · left; rw [h]; rfl
  · right; rfl

theorem NW.hn {boxes : List CF} {behind : List Int} {hosts : List (Int × Int)} (h : NW boxes behind hosts) : hosts.Nodup ∧ ∀ s ∈ hosts, s.1 ≠ 0 :=
  ⟨(List.nodup_append.1 h.ap.1).1, fun s hs => h.ap.2 s (List.mem_append_left _ hs)⟩

theorem NW.bh' {boxes : List CF} {behind : List Int} {hosts : List (Int × Int)} (h : NW boxes behind hosts) : ∀ (i : Nat) (x : Int), behind[i]? = some x → -1 ≤ x ∧ x < i := fun i x hx => ⟨(h.bh i x hx).1, (h.bh i x hx).2.1⟩

theorem worldOpen_plain {boxes : List CF} {behind : List Int} {hosts : List (Int × Int)} {a b p q : Int} {ok1 : CF → Prop} (hk1 : ∀ x ∈ boxes, ok1 x) (hl1 : boxes.length ≤ 9223372036854775807) {ok2 : Int → Prop} (hk2 : ∀ x ∈ behind, ok2 x) (hl2 : behind.length ≤ 9223372036854775807) {ok3 : Int × Int → Prop} (hk3 : ∀ x ∈ hosts, ok3 x) (hl3 : hosts.length ≤ 9223372036854775807)
    (ha : inK .i64 a) (hb : inK .i64 b) (hp : inK .u16 p) (hq : inK .u16 q) : embrasurelaw14_WorldOpen_wp boxes behind hosts a b p q (· = true) := by
  have hp := u16b hp
  have hq := u16b hq
  unfold embrasurelaw14_WorldOpen_wp
  rw [wrap_i64 (x := p) (by omega) (by omega), wrap_i64 (x := q) (by omega) (by omega)]
  refine awake_wp (cond_f rfl (small_wp (cond_t rfl rfl) (fun s1 s2 s3 => cond_f rfl (new_wp (by omega) (fun _ _ => rfl) (fun bx m hn g1 g2 g3 => ?_)))))
  have hr := fresh g1 g2 g3
  have hg := gs_fresh hn
  refine ⟨fun t => (t = false → (0 ≤ a ∧ a < hosts.length) ∧ (0 ≤ b ∧ b < hosts.length) ∧ p ≠ 0 ∧ q ≠ 0 ∧ ∀ x, hosts[a.toNat]? = some x → x.2 = -1), fun t ht => ?_, ?_⟩
  · refine cond_b (fun _ => rfl) (fun e => ?_)
    obtain ⟨ha', hb', hp0, hq0, hopen⟩ := ht e
    refine ⟨hb'.1, hb'.2, fun y hy => ?_⟩
    obtain ⟨x, hx⟩ : ∃ x, hosts[a.toNat]? = some x := ⟨_, List.getElem?_eq_getElem (by omega)⟩
    have hx1 := hn.hn.2 x (List.mem_of_getElem? hx)
    have hy1 := hn.hn.2 y (List.mem_of_getElem? hy)
    have hx2 := hopen x hx
    refine way_wp hr hg (by simp [hn.be]) (by simpa using hn.bl) hn.hl hn.bh' (fun s hs => by have := hn.hb s hs; simpa using this) (fun h => absurd ⟨ha'.1, ha'.2, ⟨hy1, by omega, by omega⟩, by omega, by omega, fun z hz => by rw [hx] at hz; cases hz; exact ⟨hx1, by omega, by omega⟩⟩ h) (fun _ z hz r er m1 mb1 ls1 _ _ _ => ⟨hb'.1, hb'.2, fun y2 hy2 => ?_⟩)
    rw [hx] at hz; cases hz
    rw [hy] at hy2; cases hy2
    rw [hx2] at er
    have er : r = wayF behind hosts 0 (39 + 1) x.1 p y.1 q (-1) (-1) false (boxes.map fun c => (c, [], 0)) := er
    rw [wayF_succ] at er
    rcases idx_cases (isS y.1 (-1)) hosts with ⟨e1, hall⟩ | ⟨i, e1, hi, hf, -⟩
    · have hne : r.1.2.2.2 ≠ 0 := by
        rw [e1, if_neg (by omega)] at er
        split at er
        · split at er
          · rw [er]; show (8 : Int) ≠ 0; omega
          · rename_i s hs
            have hs2 : s.2.1 = [] := by
              obtain ⟨c, -, rfl⟩ := List.mem_map.1 (List.mem_of_getElem? hs)
              rfl
            have h8 := inS_fresh hs2 0 q x.1 p
            rw [if_pos (by omega)] at er
            rw [er]
            show (inS s 0 q x.1 p).1.2.2 ≠ 0
            omega
        · rw [if_pos (.inr (.inr rfl))] at er
          rw [er]; show (8 : Int) ≠ 0; omega
      refine cond_e (fun h => ?_) (fun _ => cond_t (by simpa using hne) rfl)
      have := hall y (List.mem_of_getElem? hy)
      rw [← h, isS_iff.2 rfl] at this
      cases this
    · have hs := isS_iff.1 (hf hi)
      rw [e1, if_pos (by omega)] at er
      rw [er]
      refine cond_e (fun h => cond_t rfl (cond_t ?_ (cond_t (by simp) ⟨ha'.1, ha'.2, fun z hz => ?_⟩))) (fun h => cond_f rfl ?_)
      · obtain ⟨hbl, hbe⟩ := List.getElem?_eq_some_iff.1 hy
        have : hosts[i] = hosts[b.toNat] := by rw [hs, hbe, ← h]
        have e2 := (List.getElem_inj hn.hn.1).1 this
        simp; omega
      · rw [hx] at hz; cases hz
        simp
      · show ((i : Int) != b) = true
        simp only [bne_iff_ne, ne_eq]
        intro e2
        have hyi : hosts[i]? = some y := by rw [← hy]; congr 1; omega
        rw [List.getElem?_eq_getElem hi, hs] at hyi
        have e3 := congrArg Prod.snd (Option.some.inj hyi)
        exact h e3.symm
  · refine cond_d (fun _ => by simp) (fun c1 => cond_d (fun _ => by simp) (fun c2 => cond_d (fun _ => by simp) (fun c3 => cond_d (fun _ => by simp) (fun c4 => cond_e (fun _ => by simp) (fun c5 => cond_e (fun _ => by simp) (fun c6 => ⟨by omega, by omega, fun x hx e => ⟨by omega, by omega, c5, c6, fun z hz => ?_⟩⟩))))))
    rw [hx] at hz; cases hz
    simpa using e

end Go.Proofs.Ytbjodidajacilaa
