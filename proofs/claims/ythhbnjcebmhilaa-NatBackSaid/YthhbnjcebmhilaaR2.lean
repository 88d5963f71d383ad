/- The plain side: NatFull. -/
import Derived.Test.YthhbnjcebmhilaaPA
import Derived.Test.YthhbnjcebmhilaaR1
namespace Go.Proofs.Ythhbnjcebmhilaa
open Go Go.Eng

def prange (lo : Int) (n : Nat) : List Int := (List.range n).map fun (k : Nat) => lo + (k : Int)

theorem prange_mem {lo x : Int} {n : Nat} : x ∈ prange lo n ↔ lo ≤ x ∧ x < lo + n := by
  unfold prange
  rw [List.mem_map]
  constructor
  · rintro ⟨k, hk, rfl⟩
    have := List.mem_range.1 hk
    omega
  · rintro ⟨a, b⟩
    exact ⟨(x - lo).toNat, List.mem_range.2 (by omega), by omega⟩

theorem prange_nd (lo : Int) (n : Nat) : (prange lo n).Nodup := by
  unfold prange
  rw [List.Nodup, List.pairwise_map]
  exact List.nodup_range.imp fun {a b} h => by omega

theorem prange_len (lo : Int) (n : Nat) : (prange lo n).length = n := by simp [prange]

def port (x : BX) : Int := x.2.2.2.2.1

theorem used_iff {bs : List BX} {p : Int} : used bs p = true ↔ p ∈ bs.map port := by
  unfold used
  rw [List.any_eq_true, List.mem_map]
  constructor
  · rintro ⟨x, hx, e⟩; exact ⟨x, hx, by simpa [portIs, port] using e⟩
  · rintro ⟨x, hx, e⟩; exact ⟨x, hx, by simpa [portIs, port] using e⟩

theorem choose_room {bs : List BX} {lo hi w : Int} (h : (bs.length : Int) < hi - lo + 1) : ∃ p, chooseP lo hi w bs = some p := by
  cases hc : chooseP lo hi w bs with
  | some p => exact ⟨p, rfl⟩
  | none =>
    have hu := choose_none hc
    have := pig (prange lo (hi - lo + 1).toNat) (bs.map port) (prange_nd _ _) fun x hx => by
      have := prange_mem.1 hx
      exact used_iff.1 (hu x this.1 (by omega))
    rw [prange_len, List.length_map] at this
    omega

theorem choose_full {bs : List BX} {lo hi w : Int} (hn : (bs.map port).Nodup) (hr : ∀ x ∈ bs, lo ≤ port x ∧ port x ≤ hi) (h : (bs.length : Int) ≥ hi - lo + 1) : chooseP lo hi w bs = none := by
  cases hc : chooseP lo hi w bs with
  | none => rfl
  | some p =>
    obtain ⟨p1, p2, p3⟩ := choose_some hc
    have := pig (p :: bs.map port) (prange lo (hi - lo + 1).toNat) (by
      rw [List.nodup_cons]
      refine ⟨fun hm => ?_, hn⟩
      rw [used_iff.2 hm] at p3
      cases p3) fun x hx => by
      rw [prange_mem]
      rcases List.mem_cons.1 hx with rfl | hx
      · omega
      · obtain ⟨y, hy, rfl⟩ := List.mem_map.1 hx
        have := hr y hy
        omega
    rw [prange_len, List.length_cons, List.length_map] at this
    omega

structure FJ (lo hi k : Int) (i : Int) (bs : List BX) : Prop where
  like : ∀ x ∈ bs, x.2.2.2.2.2.2.1 = false ∧ x.2.2.2.2.2.1 = 30 ∧ x.2.2.2.2.2.2.2.length ≤ 16 ∧ 1 ≤ x.1 ∧ x.1 ≤ i ∧ lo ≤ port x ∧ port x ≤ hi
  nd : (bs.map port).Nodup
  len : (bs.length : Int) = if i < k then i else k

theorem FJ.live {lo hi k i : Int} {bs : List BX} (h : FJ lo hi k i bs) : live 0 bs = bs := by
  unfold Go.Proofs.Ythhbnjcebmhilaa.live
  refine List.filter_eq_self.2 fun x hx => ?_
  have := (h.like x hx).2.1
  unfold overB
  rw [this]
  decide

theorem FJ.step {lo hi k mo i th tp : Int} {bs : List BX} (h : FJ lo hi k i bs) (i0 : 0 ≤ i) (hk : k ≤ mo ∧ k ≤ hi - lo + 1 ∧ (k = mo ∨ k = hi - lo + 1) ∧ 0 < k) :
    ∃ p bs' e, natOut 3405803777 lo hi 0 30 mo bs 0 (1 + i) 9 th tp = ((if i < k then 3405803777 else 0, p, e), bs') ∧ (e = if i < k then 0 else 10) ∧ FJ lo hi k (i + 1) bs' := by
  have hno : outI (1 + i) 9 (keyH 0 th) (keyP 0 tp) bs = none := by
    unfold outI
    have e1 : bs.findIdx? (isAsked (1 + i) 9) = none := by
      rw [List.findIdx?_eq_none_iff]
      intro x hx
      unfold isAsked
      rw [(h.like x hx).1, Bool.and_false]
    rw [e1]
    simp only []
    rw [List.findIdx?_eq_none_iff]
    intro x hx
    have := (h.like x hx).2.2.2.2.1
    have hne : (x.1 == 1 + i) = false := by simp; omega
    simp [isTo, inIs, hne]
  have hl := h.len
  by_cases hik : i < k
  · rw [if_pos hik] at hl
    obtain ⟨p, hp⟩ := choose_room (bs := bs) (lo := lo) (hi := hi) (w := 9) (by omega)
    obtain ⟨p1, p2, p3⟩ := choose_some hp
    refine ⟨p, bs ++ [touch 0 30 th tp (1 + i, 9, keyH 0 th, keyP 0 tp, p, 0, false, [])], 0, ?_, by rw [if_pos hik], ?_, ?_, ?_⟩
    · unfold natOut
      rw [hno, if_pos hik]
      simp only [hp]
      rw [if_pos (by omega)]
    · intro x hx
      rcases List.mem_append.1 hx with hx | hx
      · obtain ⟨a, b, c, d, e, f, g⟩ := h.like x hx
        exact ⟨a, b, c, d, by omega, f, g⟩
      · simp at hx; subst hx
        exact ⟨rfl, by simp [touch], seeS_len _ _ _, by show 1 ≤ 1 + i; omega, by show 1 + i ≤ i + 1; omega, p1, p2⟩
    · rw [List.map_append, List.nodup_append]
      refine ⟨h.nd, by simp, fun a ha b hb => ?_⟩
      simp only [List.map_cons, List.map_nil, List.mem_singleton] at hb
      have hb2 : b = p := hb
      rw [hb2]
      intro e
      have : used bs p = true := used_iff.2 (e ▸ ha)
      rw [this] at p3; cases p3
    · simp only [List.length_append, List.length_singleton]
      split <;> omega
  · rw [if_neg hik] at hl
    refine ⟨0, bs, 10, ?_, by rw [if_neg hik], ?_, h.nd, ?_⟩
    · unfold natOut
      rw [hno, if_neg hik]
      cases hc : chooseP lo hi 9 bs with
      | none => rfl
      | some p =>
        simp only []
        rw [if_neg fun hlt => ?_]
        have := choose_full (w := 9) h.nd (fun x hx => (h.like x hx).2.2.2.2.2) (by omega)
        rw [this] at hc; cases hc
    · intro x hx
      obtain ⟨a, b, c, d, e, f⟩ := h.like x hx
      exact ⟨a, b, c, d, by omega, f⟩
    · split <;> omega

theorem wrap_u32 {x : Int} (h0 : 0 ≤ x) (h1 : x ≤ 4294967295) : IntKind.wrap .u32 x = x := by simp [IntKind.wrap, IntKind.bits, IntKind.signed]; omega

theorem natFull_plain {most ports th tp : Int} (hm : inK .u8 most) (hq : inK .u8 ports) (h3 : inK .u32 th) (h4 : inK .i64 tp) :
    embrasurelaw08_NatFull_wp most ports th tp (· = true) := by
  have hm := u8b hm
  have hq := u8b hq
  unfold embrasurelaw08_NatFull_wp
  rw [wrap_i64 (x := ports) (by omega) (by omega), wrap_i64 (x := most) (by omega) (by omega), tmod_pos hm.1, tmod_pos hq.1]
  have hm2 : 0 ≤ most % 12 ∧ most % 12 ≤ 11 := by omega
  have hq2 : 0 ≤ ports % 12 ∧ ports % 12 ≤ 11 := by omega
  generalize most % 12 = a at hm2 ⊢
  generalize ports % 12 = b at hq2 ⊢
  refine awake_wp (cond_f rfl (box_wp (c := 0) (by omega) ?_))
  rw [wrap_i64 (x := 40000 + b) (by omega) (by omega), wrap_i64 (x := 1 + a) (by omega) (by omega), wrap_i64 (x := 40000 + b - 40000) (by omega) (by omega), wrap_i64 (x := 40000 + b - 40000 + 1) (by omega) (by omega)]
  have hk : ∃ k, (if 40000 + b - 40000 + 1 < 1 + a then 40000 + b - 40000 + 1 else 1 + a) = k ∧ (k ≤ 1 + a ∧ k ≤ 40000 + b - 40000 + 1 ∧ (k = 1 + a ∨ k = 40000 + b - 40000 + 1) ∧ 0 < k) ∧ k ≤ 12 := ⟨_, rfl, by split <;> omega, by split <;> omega⟩
  obtain ⟨k, ek, hk, hk12⟩ := hk
  rw [ek]
  refine newNat_wp (fun h => absurd (by unfold mayB; omega) h) (fun _ => joinP1.i (cond_f rfl ?_))
  refine ⟨fun l now m => now = 0 ∧ Rep m l [], ?_, fun n l now r m => now = 0 ∧ 0 ≤ r ∧ r ≤ 2 ∧ n = (2 - r).toNat ∧ Rep m l [], ⟨_, rfl, by omega, by omega, rfl, Rep.nil _⟩, ?_⟩
  · rintro l now m ⟨rfl, hr⟩
    refine all_wp hr (by simp) (fun h => absurd (by omega) h) (fun _ l' m' rs _ _ hp _ => ?_)
    have : rs = [] := by simpa [live] using hp
    rw [this]; rfl
  · rintro n l now r m ⟨rfl, r0, r1, rfl, hr⟩
    refine cond_d (fun hlt => ?_) (fun _ => ⟨rfl, ?_⟩)
    · refine ⟨fun l now m => now = 0 ∧ ∃ bs, Rep m l bs ∧ FJ 40000 (40000 + b) k 14 bs, ?_, fun n l now i m => now = 0 ∧ 0 ≤ i ∧ i ≤ 14 ∧ n = (14 - i).toNat ∧ ∃ bs, Rep m l bs ∧ FJ 40000 (40000 + b) k i bs,
        ⟨_, rfl, by omega, by omega, rfl, [], hr, fun x hx => by simp at hx, by simp, by simp; omega⟩, ?_⟩
      · rintro l2 now m2 ⟨rfl, bs, hr2, hf⟩
        have hbl := hf.len
        refine all_wp hr2 (by split at hbl <;> omega) (fun h => absurd (by omega) h) (fun _ l' m' rs _ _ hp _ => ?_)
        rw [hf.live] at hp
        have e := hp.length_eq
        rw [List.length_map] at e
        refine cond_f ?_ ?_
        · rw [e, hbl, if_neg (by omega)]; simp
        · unfold nat_Nat_Reboot_wp
          refine ⟨_, ?_, rfl, ?_, ?_, rfl, Rep.nil _⟩
          all_goals rw [wrap_i64 (by omega) (by omega)]
          all_goals omega
      · rintro n2 l2 now i m2 ⟨rfl, i0, i1, rfl, bs, hr2, hf⟩
        refine cond_d (fun hlt2 => ?_) (fun hge => ⟨rfl, bs, hr2, by rw [show (14 : Int) = i by omega]; exact hf⟩)
        have hbl := hf.len
        rw [wrap_i64 (x := 1 + i) (by omega) (by omega), wrap_u32 (by omega) (by omega)]
        refine out_wp hr2 (by split at hbl <;> omega) (by omega) (by omega) (by omega) (by omega) (fun x hx => (hf.like x hx).2.2.1) (fun _ => cond_t rfl rfl) (fun _ l' m' hr' _ => ?_)
        obtain ⟨p, bs', e, he, he2, hf'⟩ := hf.step (th := th) (tp := tp) i0 hk
        rw [hf.live, show (0 : Int) % 3 = 0 from rfl, he] at hr' ⊢
        have hnext : ∃ n_13, n_13 < (14 - i).toNat ∧ (0 : Int) = 0 ∧ 0 ≤ IntKind.wrap .i64 (i + 1) ∧ IntKind.wrap .i64 (i + 1) ≤ 14 ∧ n_13 = (14 - IntKind.wrap .i64 (i + 1)).toNat ∧ ∃ bs, Rep m' l' bs ∧ FJ 40000 (40000 + b) k (IntKind.wrap .i64 (i + 1)) bs := by
          rw [wrap_i64 (by omega) (by omega)]
          exact ⟨_, by omega, rfl, by omega, by omega, rfl, bs', hr', hf'⟩
        have hnext' := hnext
        subst he2
        simp only [true_and] at hnext'
        by_cases hik : i < k
        · simp only [if_pos hik, true_and]
          exact cond_f rfl (joinP1.i (cond_f (by simp [hik]) (cond_f rfl (cond_f rfl hnext'))))
        · simp only [if_neg hik, true_and]
          exact cond_f rfl (joinP1.i (cond_f (by simp [hik]) (cond_t rfl (cond_f rfl hnext'))))
    · exact hr

end Go.Proofs.Ythhbnjcebmhilaa
