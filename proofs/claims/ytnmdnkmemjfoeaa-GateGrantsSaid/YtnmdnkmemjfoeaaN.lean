/- The plain side of what a box is (from the statements on these). -/
import Derived.Test.YtnmdnkmemjfoeaaP
import Derived.Test.YtnmdnkmemjfoeaaEngY
import Derived.Test.YtnmdnkmemjfoeaaEngZ
namespace Go.Proofs.Ytnmdnkmemjfoeaa.NatS
open Go Go.Eng
/-- A binding: who has it, towards whom, its port, till when, whether it was asked for, who is seen by it. -/
abbrev BX := Int × Int × Int × Int × Int × Int × Bool × List (Int × Int)
abbrev SB := List (Nat × BX)
def Rp (m : SB) (p : Option Nat) (x : BX) : Prop := ∃ b, p = some b ∧ getS m b = some x
/-- A list of pointers leads to these bindings. -/
structure Rep (m : SB) (l : List (Option Nat)) (bs : List BX) : Prop where
  all : All2 (Rp m) l bs
  nd : l.Nodup
theorem Rep.nil (m : SB) : Rep m [] [] := ⟨.nil, List.nodup_nil⟩
theorem dec_key {P : Prop} [Decidable P] {K : Bool → Prop} (hK : K (decide P)) (b : Bool) (h : b = true ↔ P) : K b := by
  have : decide P = b := by
    cases b with
    | true => simpa using h.1 rfl
    | false => simp only [decide_eq_false_iff_not]; intro hp; exact absurd (h.2 hp) (by simp)
  rwa [← this]
def mayP (h p : Int) : Prop := h ≠ 0 ∧ 1 ≤ p ∧ p ≤ 65535
instance {h p : Int} : Decidable (mayP h p) := by unfold mayP; infer_instance
theorem addrMay_wp {h p : Int} {K : Bool → Prop} (hK : K (decide (mayP h p))) : addr_May_wp h p K := by
  unfold addr_May_wp
  refine cond_n (fun a => cond_d (fun b => ?_) (fun b => ?_)) (fun a => ?_)
  all_goals refine dec_key hK _ ?_
  all_goals unfold mayP
  all_goals simp only [decide_eq_true_eq, Bool.false_eq_true, false_iff]
  all_goals omega
theorem delP_wp {σ : Type} {s : List (Option Nat)} {st : σ} {Y : Option Nat → σ → (Bool → σ → Prop) → Prop} {K : List (Option Nat) → σ → Prop} (f : Option Nat → Bool) (hY : ∀ x ∈ s, ∀ K : Bool → σ → Prop, K (f x) st → Y x st K)
    (hl : s.length ≤ 9223372036854775000) (hK : K (s.filter fun x => !(f x)) st) : sDelB_wp s st Y K := deleteFuncC (x0 := (none : Option Nat)) f hY hl hK
theorem idxA_wp {σ : Type} {s : List (Int × Int)} {st : σ} {Y : (Int × Int) → σ → (Bool → σ → Prop) → Prop} {K : Int → σ → Prop} (f : Int × Int → Bool) (hY : ∀ x ∈ s, ∀ K : Bool → σ → Prop, K (f x) st → Y x st K)
    (hl : s.length ≤ 9223372036854775807) (hK : K (idx f s) st) : sIdxA_wp s st Y K := indexFuncC f hY hl hK
def overB (t : Int) (x : BX) : Bool := decide (x.2.2.2.2.2.1 ≤ t)
/-- The bindings that are there at a time. -/
def live (t : Int) (bs : List BX) : List BX := bs.filter fun x => !overB t x
def overP (m : SB) (t : Int) (p : Option Nat) : Bool := match p with
  | some b => match getS m b with
    | some x => overB t x
    | none => false
  | none => false
theorem overP_eq {m : SB} {t : Int} {p : Option Nat} {x : BX} (h : Rp m p x) : overP m t p = overB t x := by
  obtain ⟨b, rfl, hb⟩ := h
  simp only [overP, hb]
theorem Rep.filter {m : SB} {l : List (Option Nat)} {bs : List BX} (h : Rep m l bs) (t : Int) : Rep m (l.filter fun p => !overP m t p) (live t bs) :=
  ⟨h.all.filter fun p x hx => by rw [overP_eq hx], h.nd.filter _⟩
theorem on_wp {h lo hi mp fi li mo now t : Int} {l : List (Option Nat)} {m : SB} {bs : List BX} {K : Bool → List (Option Nat) → Int → Prop} (hr : Rep m l bs) (hb : bs.length ≤ 1000000)
    (h1 : ¬ (now ≤ t ∧ t ≤ 1099511627776) → K false l now) (h2 : now ≤ t ∧ t ≤ 1099511627776 → ∀ l', Rep m l' (live t bs) → (∀ p ∈ l', p ∈ l) → K true l' t) : nN_on_wp h lo hi mp fi li mo l now t m K := by
  unfold nN_on_wp
  have hlen := hr.all.length
  refine ⟨fun x => (x = true ↔ ¬ (now ≤ t ∧ t ≤ 1099511627776)), fun x hx => ?_, ?_⟩
  · refine cond_b (fun e => h1 (hx.1 e)) (fun e => ?_)
    have hm : now ≤ t ∧ t ≤ 1099511627776 := Classical.byContradiction fun hc => by rw [hx.2 hc] at e; cases e
    refine delP_wp (overP m t) (fun p hp K hk => ?_) (by omega) ?_
    · obtain ⟨x, -, hx⟩ := hr.all.mem hp
      unfold nN_on_c1_wp
      rw [overP_eq hx] at hk
      obtain ⟨b, hb1, hb2⟩ := hx
      exact ⟨b, hb1, x, hb2, hk⟩
    · exact h2 hm _ (hr.filter t) fun p hp => (List.mem_filter.1 hp).1
  · refine cond_d (fun a => ?_) (fun a => ?_)
    all_goals simp only [true_iff, decide_eq_true_eq]
    all_goals omega
def portIs (p : Int) (x : BX) : Bool := x.2.2.2.2.1 == p
def used (bs : List BX) (p : Int) : Bool := bs.any (portIs p)
theorem at_wp {h lo hi mp fi li mo now port : Int} {l : List (Option Nat)} {m : SB} {bs : List BX} {K : Option Nat → Prop} (hr : Rep m l bs) (hb : bs.length ≤ 1000000)
    (h0 : bs.findIdx? (portIs port) = none → K none) (h1 : ∀ (i : Nat) (p : Option Nat) (x : BX), bs.findIdx? (portIs port) = some i → l[i]? = some p → bs[i]? = some x → Rp m p x → K p) : nN_at_wp h lo hi mp fi li mo l now port m K := by
  unfold nN_at_wp
  have hlen := hr.all.length
  refine ⟨fun n i => 0 ≤ i ∧ i ≤ l.length ∧ n = l.length - i.toNat ∧ ∀ (j : Nat) (x : BX), j < i.toNat → bs[j]? = some x → portIs port x = false, ⟨_, by omega, by omega, rfl, fun j x hj => absurd hj (by omega)⟩, ?_⟩
  rintro n i ⟨i0, i1, rfl, hj⟩
  refine cond_d (fun hlt => ⟨i0, hlt, fun p hp => ?_⟩) (fun hge => ?_)
  · obtain ⟨x, hx, hpx⟩ := hr.all.get _ _ hp
    have hpx' := hpx
    obtain ⟨b, hb1, hb2⟩ := hpx
    refine ⟨b, hb1, x, hb2, cond_b (fun e => ?_) (fun e => ?_)⟩
    · refine h1 i.toNat p x ?_ hp hx hpx'
      have hi : i.toNat < bs.length := by omega
      rw [List.findIdx?_eq_some_iff_getElem]
      refine ⟨hi, ?_, fun j hji => ?_⟩
      · rw [List.getElem?_eq_getElem hi] at hx; cases hx; exact e
      · have := hj j _ hji (List.getElem?_eq_getElem (by omega)); simpa using this
    · refine ⟨_, ?_, ?_, ?_, rfl, ?_⟩
      all_goals rw [wrap_i64 (by omega) (by omega)]
      · omega
      · omega
      · omega
      · intro j y hjy hy
        by_cases e2 : j = i.toNat
        · subst e2; rw [hx] at hy; cases hy; exact e
        · exact hj j y (by omega) hy
  · refine h0 ?_
    rw [List.findIdx?_eq_none_iff]
    intro x hx
    obtain ⟨j, hjx⟩ := List.getElem?_of_mem hx
    have hjl := (List.getElem?_eq_some_iff.1 hjx).1
    exact hj j x (by omega) hjx
theorem used_find {bs : List BX} {p : Int} : (bs.findIdx? (portIs p) = none) ↔ used bs p = false := by
  rw [List.findIdx?_eq_none_iff]
  unfold used
  rw [List.any_eq_false]
  simp
/-- The first port that is free, of so many. -/
def ffree (bs : List BX) : Nat → Int → Option Int
  | 0, _ => none
  | n + 1, p => if used bs p then ffree bs n (p + 1) else some p
def chooseP (lo hi wish : Int) (bs : List BX) : Option Int := if lo ≤ wish ∧ wish ≤ hi ∧ used bs wish = false then some wish else ffree bs (hi - lo + 1).toNat lo
theorem choose_wp {h lo hi mp fi li mo now wish : Int} {l : List (Option Nat)} {m : SB} {bs : List BX} {K : Int → Bool → Prop} (hr : Rep m l bs) (hb : bs.length ≤ 1000000) (hlo : 1 ≤ lo) (hhi : hi ≤ 65535)
    (h0 : chooseP lo hi wish bs = none → K 0 false) (h1 : ∀ p, chooseP lo hi wish bs = some p → K p true) : nN_choose_wp h lo hi mp fi li mo l now wish m K := by
  unfold nN_choose_wp
  have hlen := hr.all.length
  refine joinP0.i ⟨fun x => (x = true ↔ lo ≤ wish ∧ wish ≤ hi ∧ used bs wish = false), fun x hx => ?_, ?_⟩
  · refine cond_b (fun e => h1 wish (by unfold chooseP; rw [if_pos (hx.1 e)])) (fun e => ?_)
    have hc : chooseP lo hi wish bs = ffree bs (hi - lo + 1).toNat lo := by
      unfold chooseP
      rw [if_neg fun hc => by rw [hx.2 hc] at e; cases e]
    rw [hc] at h0 h1
    refine ⟨fun n port => lo ≤ port ∧ n = (hi - port + 1).toNat ∧ ffree bs (hi - port + 1).toNat port = ffree bs (hi - lo + 1).toNat lo, ⟨_, by omega, rfl, rfl⟩, ?_⟩
    rintro n port ⟨p0, rfl, hff⟩
    refine cond_d (fun hle => ?_) (fun hgt => ?_)
    · obtain ⟨k, hk⟩ : ∃ k, (hi - port + 1).toNat = k + 1 := ⟨(hi - port).toNat, by omega⟩
      have hk2 : (hi - (port + 1) + 1).toNat = k := by omega
      refine ⟨fun n i => 0 ≤ i ∧ i ≤ l.length ∧ n = l.length - i.toNat ∧ ∀ (j : Nat) (x : BX), j < i.toNat → bs[j]? = some x → portIs port x = false, ⟨_, by omega, by omega, rfl, fun j x hj => absurd hj (by omega)⟩, ?_⟩
      rintro n i ⟨i0, i1, rfl, hj⟩
      refine cond_d (fun hlt => ⟨i0, hlt, fun p hp => ?_⟩) (fun hge => ?_)
      · obtain ⟨x, hx, b, hb1, hb2⟩ := hr.all.get _ _ hp
        refine ⟨b, hb1, x, hb2, cond_b (fun e => ?_) (fun e => ?_)⟩
        · have hu : used bs port = true := List.any_eq_true.2 ⟨x, List.mem_of_getElem? hx, e⟩
          refine ⟨k, by omega, ?_⟩
          rw [wrap_i64 (by omega) (by omega)]
          refine ⟨by omega, hk2.symm, ?_⟩
          rw [← hff, hk, hk2, ffree, if_pos hu]
        · refine ⟨_, ?_, ?_, ?_, rfl, ?_⟩
          all_goals rw [wrap_i64 (by omega) (by omega)]
          · omega
          · omega
          · omega
          · intro j y hjy hy
            by_cases e2 : j = i.toNat
            · subst e2; rw [hx] at hy; cases hy; exact e
            · exact hj j y (by omega) hy
      · have hu : used bs port = false := by
          unfold used
          rw [List.any_eq_false]
          intro x hx
          obtain ⟨j, hjx⟩ := List.getElem?_of_mem hx
          have hjl := (List.getElem?_eq_some_iff.1 hjx).1
          simpa using hj j x (by omega) hjx
        refine h1 port ?_
        rw [← hff, hk, ffree, if_neg (by rw [hu]; simp)]
    · refine h0 ?_
      rw [← hff, show (hi - port + 1).toNat = 0 by omega]
      rfl
  · refine cond_d (fun a => cond_d (fun b => ?_) (fun b => ?_)) (fun a => ?_)
    · refine at_wp hr hb (fun hn => ?_) (fun i p x hf _ _ hx => ?_)
      · have := used_find.1 hn
        simp [this]; omega
      · obtain ⟨b', rfl, -⟩ := hx
        have hu : used bs wish ≠ false := fun hc => by rw [used_find.2 hc] at hf; cases hf
        simp [hu]
    · simp only [Bool.false_eq_true, false_iff]; omega
    · simp only [Bool.false_eq_true, false_iff]; omega
/-- What a choice is. -/
theorem ffree_some {bs : List BX} : ∀ {n : Nat} {q p : Int}, ffree bs n q = some p → q ≤ p ∧ p < q + n ∧ used bs p = false
  | 0, _, _, h => by simp [ffree] at h
  | n + 1, q, p, h => by
    unfold ffree at h
    split at h
    · have := ffree_some h; exact ⟨by omega, by omega, this.2.2⟩
    · rename_i hu
      cases h
      exact ⟨by omega, by omega, by simpa using hu⟩
theorem choose_some {bs : List BX} {lo hi wish p : Int} (h : chooseP lo hi wish bs = some p) : lo ≤ p ∧ p ≤ hi ∧ used bs p = false := by
  unfold chooseP at h
  split at h
  · rename_i hc; cases h; exact hc
  · have := ffree_some h; exact ⟨this.1, by omega, this.2.2⟩
def inIs (ih ip : Int) (x : BX) : Bool := (x.1 == ih) && ((x.2.1 == ip) && true)
/-- A range over the bindings of one, left at the first that is so. -/
theorem of_wp {h lo hi mp fi li mo now ih ip : Int} {l : List (Option Nat)} {m : SB} {bs : List BX} {Y : Option Nat → Nat × Option Nat → (Bool → Nat × Option Nat → Prop) → Prop} {K : Nat × Option Nat → Prop} (hr : Rep m l bs) (hb : bs.length ≤ 1000000)
    (g : BX → Bool) (hY : ∀ p x, Rp m p x → ∀ K : Bool → Nat × Option Nat → Prop, (g x = true → K false (1, p)) → (g x = false → K true (0, none)) → Y p (0, none) K)
    (h0 : bs.findIdx? (fun x => inIs ih ip x && g x) = none → K (0, none)) (h1 : ∀ (i : Nat) (p : Option Nat) (x : BX), bs.findIdx? (fun x => inIs ih ip x && g x) = some i → l[i]? = some p → bs[i]? = some x → Rp m p x → K (1, p)) :
    nN_of_c1_wp (0, none) Y h lo hi mp fi li mo l now ih ip m K := by
  unfold nN_of_c1_wp
  have hlen := hr.all.length
  refine ⟨fun n i s => s = (0, none) ∧ 0 ≤ i ∧ i ≤ l.length ∧ n = l.length - i.toNat ∧ ∀ (j : Nat) (x : BX), j < i.toNat → bs[j]? = some x → (inIs ih ip x && g x) = false, ⟨_, rfl, by omega, by omega, rfl, fun j x hj => absurd hj (by omega)⟩, ?_⟩
  rintro n i s ⟨rfl, i0, i1, rfl, hj⟩
  refine cond_d (fun hlt => ⟨i0, hlt, fun p hp => ?_⟩) (fun hge => ?_)
  · obtain ⟨x, hx, hpx⟩ := hr.all.get _ _ hp
    have hnext : (inIs ih ip x && g x) = false → ∃ n2, n2 < l.length - i.toNat ∧ ((0, none) : Nat × Option Nat) = (0, none) ∧ 0 ≤ IntKind.wrap .i64 (i + 1) ∧ IntKind.wrap .i64 (i + 1) ≤ l.length ∧ n2 = l.length - (IntKind.wrap .i64 (i + 1)).toNat ∧ ∀ (j : Nat) (x : BX), j < (IntKind.wrap .i64 (i + 1)).toNat → bs[j]? = some x → (inIs ih ip x && g x) = false := by
      intro e
      rw [wrap_i64 (by omega) (by omega)]
      refine ⟨_, ?_, rfl, by omega, by omega, rfl, ?_⟩
      · omega
      · intro j y hjy hy
        by_cases e2 : j = i.toNat
        · subst e2; rw [hx] at hy; cases hy; exact e
        · exact hj j y (by omega) hy
    refine ⟨fun t s' => (t = true ∧ s' = (1, p) ∧ (inIs ih ip x && g x) = true) ∨ (t = false ∧ s' = (0, none) ∧ (inIs ih ip x && g x) = false), ?_, ?_⟩
    · rintro t s' (⟨rfl, rfl, e⟩ | ⟨rfl, rfl, e⟩)
      · refine cond_t rfl (h1 i.toNat p x ?_ hp hx hpx)
        have hi : i.toNat < bs.length := by omega
        rw [List.findIdx?_eq_some_iff_getElem]
        refine ⟨hi, ?_, fun j hji => ?_⟩
        · rw [List.getElem?_eq_getElem hi] at hx; cases hx; exact e
        · have := hj j _ hji (List.getElem?_eq_getElem (by omega)); simpa using this
      · exact cond_f rfl (hnext e)
    · have hpx' := hpx
      obtain ⟨b, hb1, hb2⟩ := hpx'
      refine ⟨b, hb1, x, hb2, cond_b (fun e => hY p x hpx _ (fun eg => ?_) (fun eg => ?_)) (fun e => ?_)⟩
      · exact .inl ⟨rfl, rfl, by unfold inIs; rw [e, eg]; rfl⟩
      · exact .inr ⟨rfl, rfl, by rw [eg, Bool.and_false]⟩
      · exact .inr ⟨rfl, rfl, by unfold inIs; rw [e]; rfl⟩
  · refine h0 ?_
    rw [List.findIdx?_eq_none_iff]
    intro x hx
    obtain ⟨j, hjx⟩ := List.getElem?_of_mem hx
    have hjl := (List.getElem?_eq_some_iff.1 hjx).1
    exact hj j x (by omega) hjx
def isAsked (ih ip : Int) (x : BX) : Bool := inIs ih ip x && x.2.2.2.2.2.2.1
theorem asked_wp {h lo hi mp fi li mo now ih ip : Int} {l : List (Option Nat)} {m : SB} {bs : List BX} {K : Option Nat → Prop} (hr : Rep m l bs) (hb : bs.length ≤ 1000000)
    (h0 : bs.findIdx? (isAsked ih ip) = none → K none) (h1 : ∀ (i : Nat) (p : Option Nat) (x : BX), bs.findIdx? (isAsked ih ip) = some i → l[i]? = some p → bs[i]? = some x → Rp m p x → K p) : nN_asked_wp h lo hi mp fi li mo l now ih ip m K := by
  unfold nN_asked_wp
  refine joinP1.i ?_
  unfold nN_of_wp
  refine of_wp hr hb (fun x => x.2.2.2.2.2.2.1) (fun p x hpx K hk1 hk2 => ?_) (fun hn => .inl ⟨rfl, h0 hn⟩) (fun i p x hi hp hx hpx => .inr ⟨by simp, h1 i p x hi hp hx hpx⟩)
  obtain ⟨b, rfl, hb2⟩ := hpx
  exact ⟨rfl, b, rfl, x, hb2, cond_b (fun e => hk1 e) (fun e => hk2 e)⟩
/-- What a step turns besides: nothing that it didn't lead to. -/
def Fr (m m' : SB) (l l' : List (Option Nat)) : Prop := ∀ c, (getS m c).isSome = true → some c ∉ l → getS m' c = getS m c ∧ some c ∉ l'
theorem Fr.sub {m : SB} {l l' : List (Option Nat)} (h : ∀ p ∈ l', p ∈ l) : Fr m m l l' := fun _ _ hn => ⟨rfl, fun hc => hn (h _ hc)⟩
theorem Fr.trans {m m' m'' : SB} {l l' l'' : List (Option Nat)} (h1 : Fr m m' l l') (h2 : Fr m' m'' l' l'') : Fr m m'' l l'' := fun c hc hn => by
  obtain ⟨e1, n1⟩ := h1 c hc hn
  obtain ⟨e2, n2⟩ := h2 c (by rw [e1]; exact hc) n1
  exact ⟨by rw [e2, e1], n2⟩
/-- One binding turns. -/
theorem Rep.set {m : SB} {l : List (Option Nat)} {bs : List BX} (h : Rep m l bs) {i b : Nat} (hi : l[i]? = some (some b)) (x : BX) : Rep (putS m b x) l (bs.set i x) ∧ Fr m (putS m b x) l l := by
  have hil := (List.getElem?_eq_some_iff.1 hi).1
  constructor
  · refine ⟨h.all.set i x (some b) hi ⟨b, rfl, by rw [getS_put, if_pos rfl]⟩ fun j c d hj hc hd => ?_, h.nd⟩
    obtain ⟨b', rfl, hb'⟩ := hd
    refine ⟨b', rfl, ?_⟩
    rw [getS_put, if_neg fun e => ?_, hb']
    subst e
    have hjl := (List.getElem?_eq_some_iff.1 hc).1
    rw [List.getElem?_eq_getElem hjl] at hc
    rw [List.getElem?_eq_getElem hil] at hi
    exact hj ((List.getElem_inj h.nd).1 ((Option.some.inj hc).trans (Option.some.inj hi).symm))
  · intro c hc hn
    refine ⟨?_, hn⟩
    rw [getS_put, if_neg fun e => ?_]
    subst e
    exact hn (List.mem_of_getElem? hi)
/-- A new binding. -/
theorem Rep.snoc {m : SB} {l : List (Option Nat)} {bs : List BX} (h : Rep m l bs) {b : Nat} (hb : getS m b = none) (x : BX) : Rep (putS m b x) (l ++ [some b]) (bs ++ [x]) ∧ Fr m (putS m b x) l (l ++ [some b]) := by
  have hnb : some b ∉ l := fun hm => by
    obtain ⟨y, -, b', e, hb'⟩ := h.all.mem hm
    cases e
    rw [hb] at hb'
    cases hb'
  constructor
  · refine ⟨(h.all.mono fun p hp y hy => ?_).snoc ⟨b, rfl, by rw [getS_put, if_pos rfl]⟩, ?_⟩
    · obtain ⟨b', rfl, hb'⟩ := hy
      refine ⟨b', rfl, ?_⟩
      rw [getS_put, if_neg fun e => ?_, hb']
      subst e
      exact hnb hp
    · rw [List.nodup_append]
      refine ⟨h.nd, by simp, fun a ha c hc => ?_⟩
      simp at hc
      subst hc
      exact fun e => hnb (e ▸ ha)
  · intro c hc hn
    have hcb : c ≠ b := fun e => by subst e; rw [hb] at hc; cases hc
    refine ⟨by rw [getS_put, if_neg hcb], fun hm => ?_⟩
    rcases List.mem_append.1 hm with hm | hm
    · exact hn hm
    · simp at hm; exact hcb hm
theorem made_wp {h lo hi mp fi li mo now : Int} {l : List (Option Nat)} {m : SB} {bs : List BX} {ih ip kh kp p0 u wish : Int} {a : Bool} {K : Option Nat → Int → List (Option Nat) → SB → Prop} (hr : Rep m l bs) (hb : bs.length ≤ 100000) (hlo : 1 ≤ lo) (hhi : hi ≤ 65535)
    (h0 : chooseP lo hi wish bs = none ∨ (bs.length : Int) ≥ mo → K none 10 l m)
    (h1 : ∀ p b, chooseP lo hi wish bs = some p → (bs.length : Int) < mo → Rep (putS m b (ih, ip, kh, kp, p, u, a, [])) (l ++ [some b]) (bs ++ [(ih, ip, kh, kp, p, u, a, [])]) → Fr m (putS m b (ih, ip, kh, kp, p, u, a, [])) l (l ++ [some b]) → K (some b) 0 (l ++ [some b]) (putS m b (ih, ip, kh, kp, p, u, a, []))) :
    nN_made_wp h lo hi mp fi li mo l now ih ip kh kp p0 u a wish m K := by
  unfold nN_made_wp
  have hlen := hr.all.length
  refine choose_wp hr (by omega) hlo hhi (fun hn => ⟨fun x => x = true, fun x hx => ?_, cond_t rfl rfl⟩) (fun p hp => ⟨fun x => (x = true ↔ (bs.length : Int) ≥ mo), fun x hx => ?_, cond_f rfl ?_⟩)
  · subst hx; exact cond_t rfl (h0 (.inl hn))
  · refine cond_b (fun e => h0 (.inr (hx.1 e))) (fun e b hbn => ⟨by simp; omega, ?_⟩)
    have hlt : (bs.length : Int) < mo := by
      by_cases hc : (bs.length : Int) ≥ mo
      · rw [hx.2 hc] at e; cases e
      · omega
    obtain ⟨q1, q2⟩ := hr.snoc hbn (ih, ip, kh, kp, p, u, a, [])
    exact h1 p b hp hlt q1 q2
  · simp only [hlen, decide_eq_true_eq]
def okS (bs : List BX) : Prop := ∀ x ∈ bs, x.2.2.2.2.2.2.2.length ≤ 16
/-- Whether a binding lets another one in. -/
def letsB (fi : Int) (x : BX) (fh fp : Int) : Bool := x.2.2.2.2.2.2.1 || (fi == 0) || (if fi = 1 then x.2.2.2.2.2.2.2.any (fun a => a.1 == fh) else x.2.2.2.2.2.2.2.any (fun a => (fh == a.1) && ((fp == a.2) && true)))
theorem containsA_wp {s : List (Int × Int)} {vh vp : Int} {K : Bool → Prop} (hl : s.length ≤ 1000000) (hK : K (s.any fun a => (vh == a.1) && ((vp == a.2) && true))) : sConA_wp s vh vp K := by
  unfold sConA_wp sIxA_wp
  refine ⟨fun n i => 0 ≤ i ∧ i ≤ s.length ∧ n = s.length - i.toNat ∧ ∀ (j : Nat) (a : Int × Int), j < i.toNat → s[j]? = some a → ((vh == a.1) && ((vp == a.2) && true)) = false, ⟨_, by omega, by omega, rfl, fun j x hj => absurd hj (by omega)⟩, ?_⟩
  rintro n i ⟨i0, i1, rfl, hj⟩
  refine cond_d (fun hlt => ⟨i0, hlt, fun a ha => cond_b (fun e => ?_) (fun e => ?_)⟩) (fun hge => ?_)
  · have : (s.any fun a => (vh == a.1) && ((vp == a.2) && true)) = true := List.any_eq_true.2 ⟨a, List.mem_of_getElem? ha, e⟩
    rw [this] at hK
    have e2 : decide ((i : Int) ≥ 0) = true := by simp; omega
    show K (decide (i ≥ 0))
    rw [e2]; exact hK
  · refine ⟨_, ?_, ?_, ?_, rfl, ?_⟩
    all_goals rw [wrap_i64 (by omega) (by omega)]
    · omega
    · omega
    · omega
    · intro j y hjy hy
      by_cases e2 : j = i.toNat
      · subst e2; rw [ha] at hy; cases hy; exact e
      · exact hj j y (by omega) hy
  · have : (s.any fun a => (vh == a.1) && ((vp == a.2) && true)) = false := by
      rw [List.any_eq_false]
      intro a ha
      obtain ⟨j, hja⟩ := List.getElem?_of_mem ha
      have hjl := (List.getElem?_eq_some_iff.1 hja).1
      simpa using hj j a (by omega) hja
    rw [this] at hK
    exact hK
theorem lets_wp {h lo hi mp fi li mo now fh fp : Int} {b : Nat} {m : SB} {x : BX} {K : Bool → Prop} (hx : getS m b = some x) (hs : x.2.2.2.2.2.2.2.length ≤ 16) (hK : K (letsB fi x fh fp)) : nN_lets_wp h lo hi mp fi li mo now (some b) fh fp m K := by
  unfold nN_lets_wp
  refine ⟨fun t => (t = (x.2.2.2.2.2.2.1 || (fi == 0))), ?_, ⟨b, rfl, x, hx, cond_b (fun e => by rw [e]; rfl) (fun e => by rw [e]; rfl)⟩⟩
  rintro t rfl
  unfold letsB at hK
  refine cond_b (fun e => ?_) (fun e => ?_)
  · rw [e] at hK; exact hK
  · rw [e, Bool.false_or] at hK
    refine cond_e (fun e1 => ⟨b, rfl, x, hx, ?_⟩) (fun e1 => ⟨b, rfl, x, hx, ?_⟩)
    · rw [if_pos e1] at hK
      unfold sConFA_wp
      refine idxA_wp (fun a : Int × Int => a.1 == fh) (fun a _ K hk => hk) (by omega) ?_
      have e2 : decide ((idx (fun a : Int × Int => a.1 == fh) x.2.2.2.2.2.2.2 : Int) ≥ 0) = x.2.2.2.2.2.2.2.any (fun a => a.1 == fh) := by
        rcases idx_cases (fun a : Int × Int => a.1 == fh) x.2.2.2.2.2.2.2 with ⟨e, h⟩ | ⟨i, e, hi, hf, -⟩
        · rw [e]; symm; simpa using h
        · rw [e]
          have : x.2.2.2.2.2.2.2.any (fun a => a.1 == fh) = true := List.any_eq_true.2 ⟨_, List.getElem_mem hi, hf hi⟩
          rw [this]; simp
      rw [e2]; exact hK
    · rw [if_neg e1] at hK
      exact containsA_wp (by omega) hK
/-- What comes: the answer. -/
def natIn (fi : Int) (bs : List BX) (port fh fp : Int) : Int × Int × Int :=
  match bs.findIdx? (portIs port) with
  | some i => match bs[i]? with
    | some x => if letsB fi x fh fp then (x.1, x.2.1, 0) else (0, 0, 8)
    | none => (0, 0, 8)
  | none => (0, 0, 8)
theorem in_wp {h lo hi mp fi li mo now t port fh fp : Int} {l : List (Option Nat)} {m : SB} {bs : List BX} {K : Int → Int → Int → List (Option Nat) → Int → SB → Prop} (hr : Rep m l bs) (hb : bs.length ≤ 100000) (hs : okS bs)
    (h1 : ¬ (mayP fh fp ∧ now ≤ t ∧ t ≤ 1099511627776) → K 0 0 1 l now m)
    (h2 : mayP fh fp ∧ now ≤ t ∧ t ≤ 1099511627776 → ∀ l' m', Rep m' l' (live t bs) → Fr m m' l l' → K (natIn fi (live t bs) port fh fp).1 (natIn fi (live t bs) port fh fp).2.1 (natIn fi (live t bs) port fh fp).2.2 l' t m') :
    nN_In_wp h lo hi mp fi li mo l now t port fh fp m K := by
  unfold nN_In_wp
  refine ⟨fun l' n' x => (x = true ∧ l' = l ∧ n' = now ∧ ¬ (mayP fh fp ∧ now ≤ t ∧ t ≤ 1099511627776)) ∨ (x = false ∧ n' = t ∧ Rep m l' (live t bs) ∧ (∀ p ∈ l', p ∈ l) ∧ (mayP fh fp ∧ now ≤ t ∧ t ≤ 1099511627776)), ?_, ?_⟩
  · rintro l' n' x (⟨rfl, rfl, rfl, hc⟩ | ⟨rfl, rfl, hr', hsub, hc⟩)
    · exact cond_t rfl (h1 hc)
    · refine cond_f rfl ?_
      have h2 := h2 hc
      have hfl : (live n' bs).length ≤ bs.length := List.length_filter_le _ _
      have hs' : okS (live n' bs) := fun x hx => hs x (List.mem_filter.1 hx).1
      have hf0 : Fr m m l l' := Fr.sub hsub
      refine at_wp hr' (by omega) (fun hn => ⟨fun t => t = true, ?_, cond_t rfl rfl⟩) (fun i p x hf hp hx hpx => ?_)
      · rintro t rfl
        refine cond_t rfl ?_
        have e : natIn fi (live n' bs) port fh fp = (0, 0, 8) := by unfold natIn; rw [hn]
        rw [e] at h2
        exact h2 l' m hr' hf0
      · obtain ⟨b, rfl, hbx⟩ := hpx
        have e : natIn fi (live n' bs) port fh fp = if letsB fi x fh fp then (x.1, x.2.1, 0) else (0, 0, 8) := by unfold natIn; rw [hf]; simp only [hx]
        rw [e] at h2
        refine ⟨fun t => t = !(letsB fi x fh fp), ?_, cond_f rfl (lets_wp hbx (hs' x (List.mem_of_getElem? hx)) rfl)⟩
        rintro t rfl
        refine cond_b (fun e => ?_) (fun e => ?_)
        · have e : letsB fi x fh fp = false := by simpa using e
          rw [e] at h2
          exact h2 l' m hr' hf0
        · have e : letsB fi x fh fp = true := by simpa using e
          rw [e] at h2
          refine ⟨b, rfl, x, hbx, ?_⟩
          obtain ⟨q1, q2⟩ := hr'.set hp x
          refine h2 l' _ ?_ (hf0.trans q2)
          have hset : (live n' bs).set i x = live n' bs := by
            have hi := (List.getElem?_eq_some_iff.1 hx).1
            rw [List.getElem?_eq_getElem hi] at hx
            cases hx
            exact List.set_getElem_self hi
          rwa [hset] at q1
  · refine addrMay_wp (cond_b (fun a => .inl ⟨rfl, rfl, rfl, fun hc => ?_⟩) (fun a => on_wp hr (by omega) (fun c => .inl ⟨rfl, rfl, rfl, fun hc => c hc.2⟩) (fun c l' hr' hsub => .inr ⟨rfl, rfl, hr', hsub, ?_, c⟩)))
    · simp [hc.1] at a
    · simpa using a
def mayB (h lo hi mp fi li mo : Int) : Prop := h ≠ 0 ∧ (1 ≤ lo ∧ lo ≤ hi ∧ hi ≤ 65535) ∧ (0 ≤ mp ∧ mp ≤ 2) ∧ (0 ≤ fi ∧ fi ≤ 2) ∧ (1 ≤ li ∧ li ≤ 1099511627776) ∧ (1 ≤ mo ∧ mo ≤ 100)
instance {h lo hi mp fi li mo : Int} : Decidable (mayB h lo hi mp fi li mo) := by unfold mayB; infer_instance
theorem class_wp {n : Int} {K : Bool → Prop} (hK : K (decide (0 ≤ n ∧ n ≤ 2))) : nat_class_wp n K := by
  unfold nat_class_wp
  refine cond_d (fun a => ?_) (fun a => ?_)
  all_goals refine dec_key hK _ ?_
  all_goals simp only [decide_eq_true_eq, Bool.false_eq_true, false_iff]
  all_goals omega
theorem mayBox_wp {h lo hi mp fi li mo : Int} {K : Bool → Prop} (hK : K (decide (mayB h lo hi mp fi li mo))) : nat_may_wp h lo hi mp fi li mo K := by
  unfold nat_may_wp
  refine ⟨fun t => (t = true ↔ 1 ≤ lo ∧ lo ≤ hi ∧ hi ≤ 65535), fun t ht => ?_, ?_⟩
  · refine cond_n (fun a => cond_b (fun b => class_wp (cond_d (fun c => class_wp (cond_d (fun d => cond_d (fun e => cond_d (fun f => cond_d (fun g => ?_) (fun g => ?_)) (fun f => ?_)) (fun e => ?_)) (fun d => ?_))) (fun c => ?_))) (fun b => ?_)) (fun a => ?_)
    all_goals refine dec_key hK _ ?_
    all_goals unfold mayB
    all_goals simp only [decide_eq_true_eq, Bool.false_eq_true, false_iff]
    · have := ht.1 b
      constructor
      · intro z; exact ⟨a, this, c, d, ⟨e, f⟩, g, z⟩
      · intro z; exact z.2.2.2.2.2.2
    all_goals intro z
    · exact g z.2.2.2.2.2.1
    · exact f z.2.2.2.2.1.2
    · exact e z.2.2.2.2.1.1
    · exact d z.2.2.2.1
    · exact c z.2.2.1
    · rw [ht.2 z.2.1] at b; cases b
    · exact z.1 a
  · refine cond_d (fun a => cond_d (fun b => ?_) (fun b => ?_)) (fun a => ?_)
    all_goals simp only [decide_eq_true_eq, Bool.false_eq_true, false_iff]
    all_goals omega
theorem newNat_wp {h lo hi mp fi li mo : Int} {K : Int → Prop} {KX : Int → Int → Int → Int → Int → Int → Int → Int → List (Option Nat) → Int → Prop} (h0 : ¬ mayB h lo hi mp fi li mo → K 1) (h1 : mayB h lo hi mp fi li mo → KX 0 h lo hi mp fi li mo [] 0) : nat_New_wp h lo hi mp fi li mo K KX := by
  unfold nat_New_wp
  refine mayBox_wp ?_
  by_cases hm : mayB h lo hi mp fi li mo
  · simp only [hm, decide_true]; exact h1 hm
  · simp only [hm, decide_false]; exact h0 hm
theorem box_wp {c : Int} {K : Int → Int → Int → Int → Int → Int → Int → Prop} (hc : 0 ≤ c ∧ c ≤ 255) (hK : K 3405803777 40000 40009 (c % 3) (c / 3 % 3) 30 12) : l8_Box_wp c K := by
  unfold l8_Box_wp
  rw [wrap_i64 (x := c) (by omega) (by omega), tmod_pos hc.1, tdiv_pos hc.1, wrap_i64 (x := c / 3) (by omega) (by omega), tmod_pos (by omega)]
  exact hK
def setU (u : Int) (x : BX) : BX := (x.1, x.2.1, x.2.2.1, x.2.2.2.1, x.2.2.2.2.1, u, x.2.2.2.2.2.2.1, x.2.2.2.2.2.2.2)
def natAsk (lo hi mo : Int) (bs : List BX) (ih ip wish u : Int) : (Int × Int) × List BX :=
  match bs.findIdx? (isAsked ih ip) with
  | some i => match bs[i]? with
    | some x => ((x.2.2.2.2.1, 0), bs.set i (setU u x))
    | none => ((0, 10), bs)
  | none => match chooseP lo hi wish bs with
    | some p => if (bs.length : Int) < mo then ((p, 0), bs ++ [(ih, ip, 0, 0, p, u, true, [])]) else ((0, 10), bs)
    | none => ((0, 10), bs)
theorem ask_wp {h lo hi mp fi li mo now t ih ip wish u : Int} {l : List (Option Nat)} {m : SB} {bs : List BX} {K : Int → Int → List (Option Nat) → Int → SB → Prop} (hr : Rep m l bs) (hb : bs.length ≤ 100000) (hlo : 1 ≤ lo) (hhi : hi ≤ 65535)
    (h1 : ¬ (mayP ih ip ∧ t < u ∧ u ≤ 1099511627776 ∧ now ≤ t ∧ t ≤ 1099511627776) → K 0 1 l now m)
    (h2 : mayP ih ip ∧ t < u ∧ u ≤ 1099511627776 ∧ now ≤ t ∧ t ≤ 1099511627776 → ∀ l' m', Rep m' l' (natAsk lo hi mo (live t bs) ih ip wish u).2 → Fr m m' l l' → K (natAsk lo hi mo (live t bs) ih ip wish u).1.1 (natAsk lo hi mo (live t bs) ih ip wish u).1.2 l' t m') :
    nN_Ask_wp h lo hi mp fi li mo l now t ih ip wish u m K := by
  unfold nN_Ask_wp
  refine ⟨fun l' n' x => (x = true ∧ l' = l ∧ n' = now ∧ ¬ (mayP ih ip ∧ t < u ∧ u ≤ 1099511627776 ∧ now ≤ t ∧ t ≤ 1099511627776)) ∨ (x = false ∧ n' = t ∧ Rep m l' (live t bs) ∧ (∀ p ∈ l', p ∈ l) ∧ (mayP ih ip ∧ t < u ∧ u ≤ 1099511627776 ∧ now ≤ t ∧ t ≤ 1099511627776)), ?_, ?_⟩
  · rintro l' n' x (⟨rfl, rfl, rfl, hc⟩ | ⟨rfl, rfl, hr', hsub, hc⟩)
    · exact cond_t rfl (h1 hc)
    · refine cond_f rfl ?_
      have h2 := h2 hc
      have hfl : (live n' bs).length ≤ bs.length := List.length_filter_le _ _
      have hf0 : Fr m m l l' := Fr.sub hsub
      refine asked_wp hr' (by omega) (fun hn => ?_) (fun i p x hia hp hx hpx => ?_)
      · refine ⟨fun l2 b2 m2 => ∃ p b, b2 = some b ∧ chooseP lo hi wish (live n' bs) = some p ∧ ((live n' bs).length : Int) < mo ∧ Rep m2 l2 (live n' bs ++ [(ih, ip, 0, 0, p, 0, true, [])]) ∧ l2 = l' ++ [some b] ∧ getS m2 b = some (ih, ip, 0, 0, p, 0, true, []) ∧ Fr m m2 l l2, ?_, cond_t rfl (made_wp hr' (by omega) hlo hhi (fun hc2 => ?_) (fun p b hp hlt hr2 hf2 => ?_))⟩
        · rintro l2 b2 m2 ⟨p, b, rfl, hp, hlt, hr2, rfl, hg, hf2⟩
          refine ⟨b, rfl, _, hg, ?_⟩
          have hi2 : (l' ++ [some b])[l'.length]? = some (some b) := by simp
          obtain ⟨q1, q2⟩ := hr2.set hi2 (ih, ip, 0, 0, p, u, true, [])
          have e : natAsk lo hi mo (live n' bs) ih ip wish u = ((p, 0), live n' bs ++ [(ih, ip, 0, 0, p, u, true, [])]) := by
            unfold natAsk
            rw [hn]
            simp only [hp]
            rw [if_pos hlt]
          rw [e] at h2
          refine h2 _ _ ?_ (hf2.trans q2)
          have : (live n' bs ++ [((ih, ip, 0, 0, p, 0, true, []) : BX)]).set l'.length (ih, ip, 0, 0, p, u, true, []) = live n' bs ++ [(ih, ip, 0, 0, p, u, true, [])] := by
            rw [hr'.all.length]; simp
          rwa [this] at q1
        · have e : natAsk lo hi mo (live n' bs) ih ip wish u = ((0, 10), live n' bs) := by
            unfold natAsk
            rw [hn]
            rcases hc2 with hc2 | hc2
            · simp only [hc2]
            · cases hch : chooseP lo hi wish (live n' bs) with
              | none => rfl
              | some p => simp only []; rw [if_neg (by omega)]
          rw [e] at h2
          exact cond_t rfl (h2 l' m hr' hf0)
        · refine cond_f rfl ⟨p, b, rfl, hp, hlt, hr2, rfl, by rw [getS_put, if_pos rfl], hf0.trans hf2⟩
      · obtain ⟨b, rfl, hbx⟩ := hpx
        refine ⟨fun l2 b2 m2 => l2 = l' ∧ b2 = some b ∧ m2 = m, ?_, cond_f rfl ⟨rfl, rfl, rfl⟩⟩
        rintro l2 b2 m2 ⟨rfl, rfl, rfl⟩
        refine ⟨b, rfl, x, hbx, ?_⟩
        have e : natAsk lo hi mo (live n' bs) ih ip wish u = ((x.2.2.2.2.1, 0), (live n' bs).set i (setU u x)) := by
          unfold natAsk
          rw [hia]
          simp only [hx]
        rw [e] at h2
        obtain ⟨q1, q2⟩ := hr'.set hp (setU u x)
        exact h2 _ _ q1 (hf0.trans q2)
  · refine addrMay_wp (cond_b (fun a => .inl ⟨rfl, rfl, rfl, fun hc => ?_⟩) (fun a => cond_d (fun b => .inl ⟨rfl, rfl, rfl, fun hc => ?_⟩) (fun b => cond_d (fun c => .inl ⟨rfl, rfl, rfl, fun hc => ?_⟩) (fun c => on_wp hr (by omega) (fun d => .inl ⟨rfl, rfl, rfl, fun hc => d hc.2.2.2⟩) (fun d l' hr' hsub => .inr ⟨rfl, rfl, hr', hsub, ?_, by omega, by omega, d⟩)))))
    · simp [hc.1] at a
    · omega
    · omega
    · simpa using a
abbrev BI := Int × Int × Int × Int × Int × Int × Bool
def bi (x : BX) : BI := (x.1, x.2.1, x.2.2.1, x.2.2.2.1, x.2.2.2.2.1, x.2.2.2.2.2.1, x.2.2.2.2.2.2.1)
def cmpI (x y : Int) : Int := if x < y then -1 else if x > y then 1 else 0
theorem cmpI_lt (x y : Int) : cmpI x y < 0 ↔ x < y := by
  unfold cmpI
  split
  · omega
  · split <;> omega
theorem compare_wp {x y : Int} {K : Int → Prop} (hK : K (cmpI x y)) : cmp_Compare_int_wp x y K := by
  unfold cmp_Compare_int_wp cmp_isNaN_int_wp
  unfold cmpI at hK
  refine cond_f (by simp) (cond_f (by simp) (cond_d (fun a => ?_) (fun a => cond_d (fun b => ?_) (fun b => ?_))))
  · rw [if_pos a] at hK; exact hK
  · rw [if_neg a, if_pos b] at hK; exact hK
  · rw [if_neg a, if_neg b] at hK; exact hK
theorem all_wp {h lo hi mp fi li mo now t : Int} {l : List (Option Nat)} {m : SB} {bs : List BX} {K : List BI → List (Option Nat) → Int → SB → Prop} (hr : Rep m l bs) (hb : bs.length ≤ 100000)
    (h1 : ¬ (now ≤ t ∧ t ≤ 1099511627776) → K [] l now m)
    (h2 : now ≤ t ∧ t ≤ 1099511627776 → ∀ l' m' rs, Rep m' l' (live t bs) → Fr m m' l l' → rs.Perm ((live t bs).map bi) → rs.Pairwise (fun a b => a.2.2.2.2.1 ≤ b.2.2.2.2.1) → K rs l' t m') :
    nN_All_wp h lo hi mp fi li mo l now t m K := by
  unfold nN_All_wp
  refine on_wp hr (by omega) (fun hc => cond_t rfl (h1 hc)) (fun hc l' hr' hsub => cond_f rfl ?_)
  have h2 := h2 hc
  have hfl : (live t bs).length ≤ bs.length := List.length_filter_le _ _
  have hlen := hr'.all.length
  refine ⟨fun out m2 => out = (live t bs).map bi ∧ Rep m2 l' (live t bs) ∧ Fr m m2 l l', ?_, fun n out i m2 => 0 ≤ i ∧ i ≤ l'.length ∧ n = l'.length - i.toNat ∧ out = ((live t bs).take i.toNat).map bi ∧ Rep m2 l' (live t bs) ∧ Fr m m2 l l', ⟨_, by omega, by omega, rfl, rfl, hr', Fr.sub hsub⟩, ?_⟩
  · rintro out m2 ⟨rfl, hr2, hf2⟩
    unfold sSortB_wp
    refine ⟨fun _ => True, fun a b => cmpI a.2.2.2.2.1 b.2.2.2.2.1, fun _ _ => trivial, fun x y _ _ K' hK' => ?_, fun x _ => ?_, fun x y z _ _ _ => ?_, fun x y z _ _ _ => ?_, by simp; omega, fun zs hp hs => h2 l' m2 zs hr2 hf2 hp (hs.imp fun {a b} hab => ?_)⟩
    · unfold nN_All_c1_wp
      exact compare_wp hK'
    all_goals simp only [cmpI_lt] at *
    all_goals omega
  · rintro n out i m2 ⟨i0, i1, rfl, rfl, hr2, hf2⟩
    refine cond_d (fun hlt => ⟨i0, hlt, fun p hp => ?_⟩) (fun hge => ⟨?_, hr2, hf2⟩)
    · obtain ⟨x, hx, b, rfl, hbx⟩ := hr2.all.get _ _ hp
      refine ⟨b, rfl, x, hbx, ?_, _, ?_, ?_, ?_, rfl, ?_, ?_⟩
      · simp; omega
      all_goals try rw [wrap_i64 (by omega) (by omega)]
      · omega
      · omega
      · omega
      · rw [show (i + 1).toNat = i.toNat + 1 by omega, List.take_add_one, hx]
        simp [bi]
      · obtain ⟨q1, q2⟩ := hr2.set hp x
        have hset : (live t bs).set i.toNat x = live t bs := by
          have hi := (List.getElem?_eq_some_iff.1 hx).1
          rw [List.getElem?_eq_getElem hi] at hx
          cases hx
          exact List.set_getElem_self hi
        rw [hset] at q1
        exact ⟨q1, hf2.trans q2⟩
    · rw [show i.toNat = (live t bs).length by omega, List.take_length]
end Go.Proofs.Ytnmdnkmemjfoeaa.NatS
