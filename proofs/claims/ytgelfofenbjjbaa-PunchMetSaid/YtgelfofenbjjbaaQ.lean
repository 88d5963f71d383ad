/- The plain side of the puncher: what each of its functions makes (for every state that may be). -/
import Derived.Test.YtgelfofenbjjbaaP
import Derived.Test.YtgelfofenbjjbaaEngQ
namespace Go.Proofs.Ytgelfofenbjjbaa
open Go Go.Eng

abbrev Stp := Int × Hd × Int × Hd × Hd × Hd
abbrev MI := List (Hd × List Int)
abbrev MA := List (Hd × List (Int × Int))

theorem get_at {α : Type} {l : List α} {i : Nat} {x : α} (h : l[i]? = some x) : ∃ h : i < l.length, l[i] = x := List.getElem?_eq_some_iff.1 h

theorem clone_wp {s : List (Int × Int)} {K : List (Int × Int) → Prop} (hl : s.length ≤ 1000) (h : K s) : slices_Clone_sl_api_Addr_api_Addr_wp s K := by
  intro nil hn
  cases nil with
  | true => have := hn rfl; subst this; exact h
  | false => exact ⟨by simp; omega, h⟩

/-- May an address be? -/
def okA (x : Int × Int) : Bool := x.1 != 0 && (decide (x.2 ≥ 1) && decide (x.2 ≤ 65535))

theorem addrMay_wp {a b : Int} {K : Bool → Prop} (h : K (okA (a, b))) : addr_May_wp a b K := by
  unfold addr_May_wp
  unfold okA at h
  simp only at h
  cases h1 : a != 0 <;> cases h2 : decide (b ≥ 1) <;> rw [h1, h2] at h <;> simpa using h

theorem idx_any {α : Type} (f : α → Bool) (l : List α) : decide (idx f l ≥ 0) = l.any f := by
  unfold idx
  cases h : l.findIdx? f with
  | none =>
    rw [List.findIdx?_eq_none_iff] at h
    have : l.any f = false := by rw [List.any_eq_false]; intro x hx; simp [h x hx]
    rw [this]; rfl
  | some i =>
    obtain ⟨hi, hp, -⟩ := List.findIdx?_eq_some_iff_getElem.1 h
    have : l.any f = true := List.any_eq_true.2 ⟨_, List.getElem_mem hi, hp⟩
    rw [this]
    simp only [decide_eq_true_eq]
    omega

theorem containsA_wp {σ : Type} {s : List (Int × Int)} {st : σ} {Y : (Int × Int) → σ → (Bool → σ → Prop) → Prop} {K : Bool → σ → Prop} (f : Int × Int → Bool) (hY : ∀ x st K, K (f x) st → Y x st K)
    (hl : s.length ≤ 9223372036854775807) (hK : K (s.any f) st) : slices_ContainsFunc_sl_api_Addr_api_Addr_wp s st Y K := by
  unfold slices_ContainsFunc_sl_api_Addr_api_Addr_wp
  exact index_wp (K := fun r s => K (decide (r ≥ 0)) s) f hY hl (by rw [idx_any]; exact hK)

theorem indexU_wp {σ : Type} {s : List Int} {st : σ} {Y : Int → σ → (Bool → σ → Prop) → Prop} {K : Int → σ → Prop} (f : Int → Bool) (hY : ∀ x, x ∈ s → ∀ st K, K (f x) st → Y x st K)
    (hl : s.length ≤ 9223372036854775807) (hK : K (idx f s) st) : slices_IndexFunc_sl_uint64_uint64_wp s st Y K := by
  unfold slices_IndexFunc_sl_uint64_uint64_wp
  refine ⟨fun n i s' => s' = st ∧ 0 ≤ i ∧ i ≤ s.length ∧ n = s.length - i.toNat ∧ ∀ j (h : j < s.length), j < i.toNat → f s[j] = false, ⟨_, rfl, by omega, by omega, rfl, by omega⟩, ?_⟩
  rintro n i s' ⟨rfl, h0, h1, rfl, hj⟩
  refine cond_d (fun hlt => ?_) (fun hge => ?_)
  · refine ⟨h0, hlt, fun x hx => ?_⟩
    have hi : i.toNat < s.length := by omega
    rw [List.getElem?_eq_getElem hi] at hx
    cases hx
    refine hY _ (List.getElem_mem hi) _ _ ?_
    refine cond_b (fun hf => ?_) (fun hf => ?_)
    · have : idx f s = i := by
        unfold idx
        rw [List.findIdx?_eq_some_iff_getElem.2 ⟨hi, hf, fun j hj' => by simpa using hj j (by omega) hj'⟩]
        simp only
        omega
      rw [this] at hK
      exact hK
    · refine ⟨_, ?_, rfl, ?_, ?_, rfl, ?_⟩
      all_goals rw [wrap_i64 (by omega) (by omega)]
      · omega
      · omega
      · omega
      · intro j h hj'
        by_cases e : j = i.toNat
        · subst e; exact hf
        · exact hj j h (by omega)
  · have : idx f s = -1 := by
      unfold idx
      have : s.findIdx? f = none := by
        rw [List.findIdx?_eq_none_iff]
        intro x hx
        obtain ⟨j, h, rfl⟩ := List.getElem_of_mem hx
        exact hj j h (by omega)
      rw [this]
    rw [this] at hK
    exact hK

theorem new_wp {own : List (Int × Int)} {K : Int → Prop} {KX : Int → Int → Bool → Int → Int → List (Int × Int) → List (Int × Int) → List (Int × Int) → Int → Int → Bool → Int → Prop}
    (hl : own.length ≤ 8) (ha : ∀ x ∈ own, okA x = true) (h : KX 0 0 false 0 0 [] own [] 0 0 false 0) : punch_New_wp own K KX := by
  unfold punch_New_wp
  refine joinP1.i (cond_d (fun hgt => by omega) (fun _ => ?_))
  refine containsA_wp (fun x => !(okA x)) (fun x st K h => addrMay_wp h) (by omega) ?_
  have e : own.any (fun x => !(okA x)) = false := by
    rw [List.any_eq_false]; intro x hx; simp [ha x hx]
  rw [e]
  refine cond_f rfl (clone_wp (s := own) (by omega) ?_)
  exact h

theorem on_wp {st try' next mean dev now n : Int} {first any : Bool} {K : Bool → Int → Prop} (ht : now ≤ n → n ≤ 1099511627776 → K true n) (hf : ¬ (now ≤ n ∧ n ≤ 1099511627776) → K false now) :
    punch_Puncher_on_wp st first try' next mean dev any now n K := by
  unfold punch_Puncher_on_wp
  refine joinP1.i (cond_d (fun hlt => hf (by omega)) (fun hge => cond_d (fun hgt => hf (by omega)) (fun hle => ht (by omega) (by omega))))

theorem punch_wp {st try' next mean dev now answered : Int} {first any : Bool} {own : List (Int × Int)} {m1 m2 : MI} {m3 : MA} {K : Int → Hd → Hd → Hd → MI → MI → MA → Prop} (hl : own.length ≤ 8) (h0 : 0 ≤ try') (h1 : try' ≤ 3)
    (h : ∀ hd hd1 hd2 : Hd, hd.2.1 = 2 → hd1.2.1 = own.length → hd2.2.1 = 0 → K 17 hd hd1 hd2 (m1 ++ [(hd2, [])]) (m2 ++ [(hd, [try', answered])]) (m3 ++ [(hd1, own)])) :
    punch_Puncher_punch_wp st first try' next own mean dev any now answered m1 m2 m3 K := by
  unfold punch_Puncher_punch_wp
  rw [wrap_u64 (x := try') (by omega) (by omega)]
  refine ⟨?_, ?_⟩ <;> exact clone_wp (s := own) (by omega) fun hd e hd1 e1 hd2 e2 => h hd hd1 hd2 e e1 e2

theorem ask_wp {st try' next mean dev now : Int} {first any : Bool} {own marks : List (Int × Int)} {m1 m2 : MI} {m3 : MA} {K : List Stp → Int → Int → List (Int × Int) → MI → MI → MA → Prop} (hl : own.length ≤ 8) (h0 : 0 ≤ try') (h1 : try' ≤ 3)
    (hm : marks.length ≤ 100) (hn0 : 0 ≤ now) (hn : now ≤ 1099511627776) (he0 : 0 ≤ mean) (he : mean ≤ 1000000)
    (h : ∀ hd hd1 hd2 : Hd, hd.2.1 = 2 → hd1.2.1 = own.length → hd2.2.1 = 0 → K [(0, (none, 0, 0), 17, hd, hd1, hd2)] 1 (now + wait mean dev any) (sentL marks try' now) (m1 ++ [(hd2, [])]) (m2 ++ [(hd, [try', 0])]) (m3 ++ [(hd1, own)])) :
    punch_Puncher_ask_wp st first try' next own marks mean dev any now m1 m2 m3 K := by
  unfold punch_Puncher_ask_wp
  rw [wrap_u64 (x := try') (by omega) (by omega)]
  refine sent_wp hm hn0 hn (wait_wp he0 he ?_)
  have hw := wait_bounds mean dev any
  rw [wrap_i64 (x := now + wait mean dev any) (by omega) (by omega)]
  refine punch_wp hl h0 h1 fun hd hd1 hd2 e e1 e2 => ?_
  unfold punch_told_wp
  exact h hd hd1 hd2 e e1 e2

theorem begin_wp {st try' next mean dev now n : Int} {first any : Bool} {own marks : List (Int × Int)} {m1 m2 : MI} {m3 : MA} {K : List Stp → Int → Bool → Int → Int → Int → List (Int × Int) → MI → MI → MA → Prop} (hl : own.length ≤ 8)
    (hm : marks.length ≤ 100) (hn0 : 0 ≤ now) (he0 : 0 ≤ mean) (he : mean ≤ 1000000)
    (hno : st ≠ 0 → K [] st first try' next now marks m1 m2 m3)
    (hyes : st = 0 → now ≤ n ∧ n ≤ 1099511627776 ∧ ∀ hd hd1 hd2 : Hd, hd.2.1 = 2 → hd1.2.1 = own.length → hd2.2.1 = 0 → K [(0, (none, 0, 0), 17, hd, hd1, hd2)] 1 true 1 (n + wait mean dev any) n (sentL marks 1 n) (m1 ++ [(hd2, [])]) (m2 ++ [(hd, [1, 0])]) (m3 ++ [(hd1, own)])) :
    punch_Puncher_Begin_wp st first try' next own marks mean dev any now n m1 m2 m3 K := by
  unfold punch_Puncher_Begin_wp
  refine joinP2.i (cond_n (fun hne => hno hne) (fun he1 => ?_))
  obtain ⟨ha, hb, hh⟩ := hyes he1
  refine on_wp (fun _ _ => ?_) (fun hx => absurd ⟨ha, hb⟩ hx)
  refine cond_f rfl (ask_wp (try' := 1) (now := n) hl (by decide) (by decide) hm (by omega) hb he0 he ?_)
  exact hh

theorem dial_wp {st try' next mean dev now : Int} {first any : Bool} {other : List (Int × Int)} {m3 : MA} {K : List Stp → Int → Int → MA → Prop} (hl : other.length ≤ 1000) (hn0 : 0 ≤ now) (hn : now ≤ 1099511627776)
    (h : ∀ hd : Hd, hd.2.1 = other.length → K [(1, hd, 0, (none, 0, 0), (none, 0, 0), (none, 0, 0))] 3 (now + 20) (m3 ++ [(hd, other)])) :
    punch_Puncher_dial_wp st first try' next other mean dev any now m3 K := by
  unfold punch_Puncher_dial_wp
  refine clone_wp hl fun hd e => ?_
  rw [wrap_i64 (x := now + 20) (by omega) (by omega)]
  exact h hd e

theorem again_wp {st try' next mean dev now : Int} {first any : Bool} {own marks : List (Int × Int)} {m1 m2 : MI} {m3 : MA} {K : List Stp → Int → Int → Int → List (Int × Int) → MI → MI → MA → Prop} (hl : own.length ≤ 8) (h0 : 0 ≤ try')
    (hm : marks.length ≤ 100) (hn0 : 0 ≤ now) (hn : now ≤ 1099511627776) (he0 : 0 ≤ mean) (he : mean ≤ 1000000)
    (hg : 3 ≤ try' → K [(2, (none, 0, 0), 0, (none, 0, 0), (none, 0, 0), (none, 0, 0))] 5 try' 0 marks m1 m2 m3)
    (h : try' < 3 → ∀ hd hd1 hd2 : Hd, hd.2.1 = 2 → hd1.2.1 = own.length → hd2.2.1 = 0 → K [(0, (none, 0, 0), 17, hd, hd1, hd2)] 1 (try' + 1) (now + wait mean dev any) (sentL marks (try' + 1) now) (m1 ++ [(hd2, [])]) (m2 ++ [(hd, [try' + 1, 0])]) (m3 ++ [(hd1, own)])) :
    punch_Puncher_again_wp st first try' next own marks mean dev any now m1 m2 m3 K := by
  unfold punch_Puncher_again_wp
  refine cond_d (fun hge => hg (by omega)) (fun hlt => ?_)
  rw [wrap_i64 (x := try' + 1) (by omega) (by omega)]
  exact ask_wp hl (by omega) (by omega) hm hn0 hn he0 he (h (by omega))

/-- What a tick makes, where the time comes. -/
structure TickK (st : Int) (first : Bool) (try' next : Int) (other own marks : List (Int × Int)) (mean dev : Int) (any : Bool) (n : Int) (m1 m2 : MI) (m3 : MA) (K : List Stp → Int → Int → Int → Int → List (Int × Int) → MI → MI → MA → Prop) : Prop where
  gives : (st = 1 ∨ st = 3 ∧ first = true) → 3 ≤ try' → K [(2, (none, 0, 0), 0, (none, 0, 0), (none, 0, 0), (none, 0, 0))] 5 try' 0 n marks m1 m2 m3
  asks : (st = 1 ∨ st = 3 ∧ first = true) → try' < 3 → ∀ hd hd1 hd2 : Hd, hd.2.1 = 2 → hd1.2.1 = own.length → hd2.2.1 = 0 → K [(0, (none, 0, 0), 17, hd, hd1, hd2)] 1 (try' + 1) (n + wait mean dev any) n (sentL marks (try' + 1) n) (m1 ++ [(hd2, [])]) (m2 ++ [(hd, [try' + 1, 0])]) (m3 ++ [(hd1, own)])
  dials : st = 2 → first = true → ∀ hd : Hd, hd.2.1 = other.length → K [(1, hd, 0, (none, 0, 0), (none, 0, 0), (none, 0, 0))] 3 try' (n + 20) n marks m1 m2 (m3 ++ [(hd, other)])
  still : (st = 2 ∨ st = 3) → first = false → K [] 0 0 0 n marks m1 m2 m3
  rest : st ≠ 1 → st ≠ 2 → st ≠ 3 → K [] st try' next n marks m1 m2 m3

theorem tick_wp {st try' next mean dev now n : Int} {first any : Bool} {other own marks : List (Int × Int)} {m1 m2 : MI} {m3 : MA} {K : List Stp → Int → Int → Int → Int → List (Int × Int) → MI → MI → MA → Prop} (hl : own.length ≤ 8) (ho : other.length ≤ 1000) (h0 : 0 ≤ try')
    (hm : marks.length ≤ 100) (hn0 : 0 ≤ now) (he0 : 0 ≤ mean) (he : mean ≤ 1000000)
    (hno : ¬ (now ≤ n ∧ n ≤ 1099511627776) → K [] st try' next now marks m1 m2 m3)
    (hearly : now ≤ n → n ≤ 1099511627776 → n < next → K [] st try' next n marks m1 m2 m3)
    (h : now ≤ n → n ≤ 1099511627776 → next ≤ n → TickK st first try' next other own marks mean dev any n m1 m2 m3 K) :
    punch_Puncher_Tick_wp st first try' next other own marks mean dev any now n m1 m2 m3 K := by
  unfold punch_Puncher_Tick_wp
  refine joinP2.i (on_wp (fun ha hb => ?_) (fun hx => hno hx))
  refine cond_d (fun hlt => hearly ha hb hlt) (fun hge => ?_)
  have T := h ha hb (by omega)
  refine cond_e (fun e => ?_) (fun n1 => cond_e (fun e => ?_) (fun n2 => cond_e (fun e => ?_) (fun n3 => T.rest n1 n2 n3)))
  · exact again_wp hl h0 hm (by omega) hb he0 he (T.gives (.inl e)) (T.asks (.inl e))
  · refine cond_b (fun hf => ?_) (fun hf => ?_)
    · exact dial_wp ho (by omega) hb (T.dials e hf)
    · exact T.still (.inl e) hf
  · refine cond_b (fun hf => ?_) (fun hf => ?_)
    · exact again_wp hl h0 hm (by omega) hb he0 he (T.gives (.inr ⟨e, hf⟩)) (T.asks (.inr ⟨e, hf⟩))
    · exact T.still (.inr e) hf

set_option maxRecDepth 20000 in
theorem len64_wp {v : Int} {K : Int → Prop} (h : ∀ r, K r) : math_bits_Len64_wp v K := by
  unfold math_bits_Len64_wp
  refine joinP2.i ?_
  have key : ∀ (x n : Int), joinP2 (fun (x0_1 : Int) (n2_1 : Int) => joinP2 (fun (x0_2 : Int) (n2_2 : Int) => ∃ (b_1 : UInt8), 0 ≤ ((IntKind.wrap .u8 x0_2) : Int) ∧ (ByteArray.mk ((List.append (List.append [0, 1, 2, 2, 3, 3, 3, 3, 4, 4, 4, 4, 4, 4, 4, 4, 5, 5, 5, 5, 5, 5, 5, 5, 5, 5, 5, 5, 5, 5, 5, 5, 6, 6, 6, 6, 6, 6, 6, 6, 6, 6, 6, 6, 6, 6, 6, 6, 6, 6, 6, 6, 6, 6, 6, 6, 6, 6, 6, 6, 6, 6, 6, 6] [7, 7, 7, 7, 7, 7, 7, 7, 7, 7, 7, 7, 7, 7, 7, 7, 7, 7, 7, 7, 7, 7, 7, 7, 7, 7, 7, 7, 7, 7, 7, 7, 7, 7, 7, 7, 7, 7, 7, 7, 7, 7, 7, 7, 7, 7, 7, 7, 7, 7, 7, 7, 7, 7, 7, 7, 7, 7, 7, 7, 7, 7, 7, 7]) (List.append [8, 8, 8, 8, 8, 8, 8, 8, 8, 8, 8, 8, 8, 8, 8, 8, 8, 8, 8, 8, 8, 8, 8, 8, 8, 8, 8, 8, 8, 8, 8, 8, 8, 8, 8, 8, 8, 8, 8, 8, 8, 8, 8, 8, 8, 8, 8, 8, 8, 8, 8, 8, 8, 8, 8, 8, 8, 8, 8, 8, 8, 8, 8, 8] [8, 8, 8, 8, 8, 8, 8, 8, 8, 8, 8, 8, 8, 8, 8, 8, 8, 8, 8, 8, 8, 8, 8, 8, 8, 8, 8, 8, 8, 8, 8, 8, 8, 8, 8, 8, 8, 8, 8, 8, 8, 8, 8, 8, 8, 8, 8, 8, 8, 8, 8, 8, 8, 8, 8, 8, 8, 8, 8, 8, 8, 8, 8, 8]))).toArray)[Int.toNat (IntKind.wrap .u8 x0_2)]? = some b_1 ∧ (K (IntKind.wrap .i64 (n2_2 + (IntKind.wrap .i64 ((b_1.toNat : Nat) : Int)))))) (fun (Q_2 : Int → Int → Prop) => cond (decide ((x0_1 : Int) ≥ 256)) (Q_2 (Int.fdiv x0_1 (2 ^ (min (Int.toNat 8) (IntKind.bits .u64)))) (IntKind.wrap .i64 (n2_1 + 8))) (Q_2 x0_1 n2_1))) (fun (Q_1 : Int → Int → Prop) => cond (decide ((x : Int) ≥ 65536)) (Q_1 (Int.fdiv x (2 ^ (min (Int.toNat 16) (IntKind.bits .u64)))) (IntKind.wrap .i64 (n + 16))) (Q_1 x n)) := by
    intro x n
    refine joinP2.i ?_
    have last : ∀ (x n : Int), joinP2 (fun (x0_2 : Int) (n2_2 : Int) => ∃ (b_1 : UInt8), 0 ≤ ((IntKind.wrap .u8 x0_2) : Int) ∧ (ByteArray.mk ((List.append (List.append [0, 1, 2, 2, 3, 3, 3, 3, 4, 4, 4, 4, 4, 4, 4, 4, 5, 5, 5, 5, 5, 5, 5, 5, 5, 5, 5, 5, 5, 5, 5, 5, 6, 6, 6, 6, 6, 6, 6, 6, 6, 6, 6, 6, 6, 6, 6, 6, 6, 6, 6, 6, 6, 6, 6, 6, 6, 6, 6, 6, 6, 6, 6, 6] [7, 7, 7, 7, 7, 7, 7, 7, 7, 7, 7, 7, 7, 7, 7, 7, 7, 7, 7, 7, 7, 7, 7, 7, 7, 7, 7, 7, 7, 7, 7, 7, 7, 7, 7, 7, 7, 7, 7, 7, 7, 7, 7, 7, 7, 7, 7, 7, 7, 7, 7, 7, 7, 7, 7, 7, 7, 7, 7, 7, 7, 7, 7, 7]) (List.append [8, 8, 8, 8, 8, 8, 8, 8, 8, 8, 8, 8, 8, 8, 8, 8, 8, 8, 8, 8, 8, 8, 8, 8, 8, 8, 8, 8, 8, 8, 8, 8, 8, 8, 8, 8, 8, 8, 8, 8, 8, 8, 8, 8, 8, 8, 8, 8, 8, 8, 8, 8, 8, 8, 8, 8, 8, 8, 8, 8, 8, 8, 8, 8] [8, 8, 8, 8, 8, 8, 8, 8, 8, 8, 8, 8, 8, 8, 8, 8, 8, 8, 8, 8, 8, 8, 8, 8, 8, 8, 8, 8, 8, 8, 8, 8, 8, 8, 8, 8, 8, 8, 8, 8, 8, 8, 8, 8, 8, 8, 8, 8, 8, 8, 8, 8, 8, 8, 8, 8, 8, 8, 8, 8, 8, 8, 8, 8]))).toArray)[Int.toNat (IntKind.wrap .u8 x0_2)]? = some b_1 ∧ (K (IntKind.wrap .i64 (n2_2 + (IntKind.wrap .i64 ((b_1.toNat : Nat) : Int)))))) (fun (Q_2 : Int → Int → Prop) => cond (decide ((x : Int) ≥ 256)) (Q_2 (Int.fdiv x (2 ^ (min (Int.toNat 8) (IntKind.bits .u64)))) (IntKind.wrap .i64 (n + 8))) (Q_2 x n)) := by
      intro x n
      have fin : ∀ (x n : Int), ∃ (b_1 : UInt8), 0 ≤ ((IntKind.wrap .u8 x) : Int) ∧ (ByteArray.mk ((List.append (List.append [0, 1, 2, 2, 3, 3, 3, 3, 4, 4, 4, 4, 4, 4, 4, 4, 5, 5, 5, 5, 5, 5, 5, 5, 5, 5, 5, 5, 5, 5, 5, 5, 6, 6, 6, 6, 6, 6, 6, 6, 6, 6, 6, 6, 6, 6, 6, 6, 6, 6, 6, 6, 6, 6, 6, 6, 6, 6, 6, 6, 6, 6, 6, 6] [7, 7, 7, 7, 7, 7, 7, 7, 7, 7, 7, 7, 7, 7, 7, 7, 7, 7, 7, 7, 7, 7, 7, 7, 7, 7, 7, 7, 7, 7, 7, 7, 7, 7, 7, 7, 7, 7, 7, 7, 7, 7, 7, 7, 7, 7, 7, 7, 7, 7, 7, 7, 7, 7, 7, 7, 7, 7, 7, 7, 7, 7, 7, 7]) (List.append [8, 8, 8, 8, 8, 8, 8, 8, 8, 8, 8, 8, 8, 8, 8, 8, 8, 8, 8, 8, 8, 8, 8, 8, 8, 8, 8, 8, 8, 8, 8, 8, 8, 8, 8, 8, 8, 8, 8, 8, 8, 8, 8, 8, 8, 8, 8, 8, 8, 8, 8, 8, 8, 8, 8, 8, 8, 8, 8, 8, 8, 8, 8, 8] [8, 8, 8, 8, 8, 8, 8, 8, 8, 8, 8, 8, 8, 8, 8, 8, 8, 8, 8, 8, 8, 8, 8, 8, 8, 8, 8, 8, 8, 8, 8, 8, 8, 8, 8, 8, 8, 8, 8, 8, 8, 8, 8, 8, 8, 8, 8, 8, 8, 8, 8, 8, 8, 8, 8, 8, 8, 8, 8, 8, 8, 8, 8, 8]))).toArray)[Int.toNat (IntKind.wrap .u8 x)]? = some b_1 ∧ (K (IntKind.wrap .i64 (n + (IntKind.wrap .i64 ((b_1.toNat : Nat) : Int))))) := by
        intro x n
        have h8 : 0 ≤ IntKind.wrap .u8 x ∧ IntKind.wrap .u8 x < 256 := by
          simp only [IntKind.wrap, IntKind.signed, IntKind.bits]
          simp
          omega
        refine ⟨_, h8.1, getElem?_pos _ _ ?_, h _⟩
        show _ < 256
        omega
      refine joinP2.i (cond_d (fun _ => fin _ _) (fun _ => fin _ _))
    exact cond_d (fun _ => last _ _) (fun _ => last _ _)
  exact cond_d (fun _ => key _ _) (fun _ => key _ _)

/-- Is a number too great? -/
def bigU (v : Int) : Bool := decide (9223372036854775808 ≤ v)

theorem len_wp {v : Int} {K : Bool → Prop} (h0 : 0 ≤ v) (h1 : v ≤ 18446744073709551615) (h : K (bigU v)) : wire_May_c1_wp v K := by
  unfold wire_May_c1_wp uvar_Len_wp
  have e : Int.fdiv v (2 ^ (min (Int.toNat 63) (IntKind.bits .u64))) = v / 9223372036854775808 := by
    rw [Int.fdiv_eq_ediv_of_nonneg _ (by decide)]
    rfl
  rw [e]
  unfold bigU at h
  refine cond_e (fun h2 => ?_) (fun h2 => ?_)
  · rw [decide_eq_true (by omega)] at h
    exact h
  · rw [decide_eq_false (by omega)] at h
    refine len64_wp fun r => ?_
    show K (_ == 0)
    have : ∀ x : Int, ((if x > 1 then x else 1) == 0) = false := by
      intro x
      rw [beq_eq_false_iff_ne]
      split <;> omega
    rw [this]
    exact h

/-- May a message be (one with so many numbers)? -/
def mayB (c : Nat) (nums : List Int) (addrs : List (Int × Int)) (body : List Int) : Bool :=
  nums.length == c && (decide (addrs.length ≤ 8) && (decide (body.length ≤ 1000) && (!(nums.any bigU) && !(addrs.any fun x => !(okA x)))))

theorem nums_wp {kind : Int} {K : Int → Prop} (h17 : kind = 17 → K 2) (h18 : kind = 18 → K 1) (hk : kind = 17 ∨ kind = 18) : wire_Nums_wp kind K := by
  unfold wire_Nums_wp wire_nums_wp
  refine joinP1.i (cond_d (fun hlt => by omega) (fun _ => cond_d (fun hge => by omega) (fun _ => ?_)))
  refine ⟨by omega, by omega, ?_⟩
  refine ⟨fun e => by omega, fun e => by omega, fun e => by omega, fun e => by omega, fun e => by omega, fun e => by omega, fun e => by omega, fun e => by omega, fun e => by omega, fun e => by omega, fun e => by omega, fun e => by omega, fun e => by omega, fun e => by omega, fun e => by omega, fun e => by omega, fun e => by omega, h17, h18⟩

theorem may_wp {kind : Int} {c : Nat} {nums : List Int} {addrs : List (Int × Int)} {body : List Int} {K : Bool → Prop} (hk : kind = 17 ∧ c = 2 ∨ kind = 18 ∧ c = 1) (hn : nums.length ≤ 9223372036854775807) (ha : addrs.length ≤ 9223372036854775807)
    (hu : ∀ x ∈ nums, 0 ≤ x ∧ x ≤ 18446744073709551615) (h : K (mayB c nums addrs body)) : wire_May_wp kind nums addrs body K := by
  unfold wire_May_wp
  have key : ∀ r : Int, r = c → cond (((nums.length : Nat) : Int) == r) (cond (decide ((((addrs.length : Nat) : Int) : Int) ≤ 8)) (cond (decide ((((body.length : Nat) : Int) : Int) ≤ 1000)) (slices_ContainsFunc_sl_uint64_uint64_wp nums () (fun x_1 s K_1 => wire_May_c1_wp x_1 (fun (r : Bool) => K_1 r s)) (fun (r_1 : Bool) (s_1 : (Unit)) => cond (!r_1) (slices_ContainsFunc_sl_api_Addr_api_Addr_wp addrs () (fun x_2 s_2 K_2 => wire_May_c2_wp x_2.1 x_2.2 (fun (r : Bool) => K_2 r s_2)) (fun (r_2 : Bool) (s_3 : (Unit)) => K (!r_2))) (K false))) (K false)) (K false)) (K false) := by
    intro r hr
    unfold mayB at h
    refine cond_e (fun e => ?_) (fun e => ?_)
    · have : (nums.length == c) = true := by rw [beq_iff_eq]; omega
      rw [this] at h
      refine cond_d (fun e2 => ?_) (fun e2 => ?_)
      · rw [decide_eq_true (show addrs.length ≤ 8 by omega)] at h
        refine cond_d (fun e3 => ?_) (fun e3 => ?_)
        · rw [decide_eq_true (show body.length ≤ 1000 by omega)] at h
          unfold slices_ContainsFunc_sl_uint64_uint64_wp
          refine indexU_wp bigU (fun x hx st K h => len_wp (hu x hx).1 (hu x hx).2 h) hn ?_
          rw [idx_any]
          cases hb : nums.any bigU with
          | true => rw [hb] at h; exact h
          | false =>
            rw [hb] at h
            exact containsA_wp (K := fun r _ => K (!r)) (fun x => !(okA x)) (fun x st K h => addrMay_wp h) ha h
        · rw [decide_eq_false (show ¬ body.length ≤ 1000 by omega)] at h
          exact h
      · rw [decide_eq_false (show ¬ addrs.length ≤ 8 by omega)] at h
        exact h
    · have : (nums.length == c) = false := by rw [beq_eq_false_iff_ne]; omega
      rw [this] at h
      exact h
  exact nums_wp (fun e => key 2 (by omega)) (fun e => key 1 (by omega)) (by omega)

theorem mayB_len {c : Nat} {nums : List Int} {addrs : List (Int × Int)} {body : List Int} (h : mayB c nums addrs body = true) : nums.length = c ∧ addrs.length ≤ 8 := by
  unfold mayB at h
  rw [Bool.and_eq_true, Bool.and_eq_true] at h
  exact ⟨by simpa using h.1, by simpa using h.2.1⟩

/-- It is asked; its asking is answered; the other one says when. -/
def CA (kind : Int) (nums : List Int) (first : Bool) (st try' : Int) : Prop := kind = 17 ∧ ∃ a, nums = [a, 0] ∧ 1 ≤ a ∧ a ≤ 3 ∧ first = false ∧ st ≠ 4 ∧ st ≠ 5 ∧ try' ≤ a
def CB (kind : Int) (nums : List Int) (first : Bool) (st try' : Int) : Prop := kind = 17 ∧ ∃ a, nums = [a, 1] ∧ 1 ≤ a ∧ a ≤ 3 ∧ first = true ∧ st = 1 ∧ try' = a
def CS (kind : Int) (nums : List Int) (first : Bool) (st try' : Int) : Prop := kind = 18 ∧ nums = [try'] ∧ first = false ∧ st = 2

/-- What is kept of the meter where a mark comes back. -/
structure GotR (marks : List (Int × Int)) (now no : Int) (r : Int) (marks' : List (Int × Int)) (mean' : Int) : Prop where
  r0 : 0 ≤ r
  r1 : r ≤ 10000
  len : marks'.length ≤ marks.length
  sub : ∀ x ∈ marks', x ∈ marks
  m0 : 0 ≤ mean'
  m1 : mean' ≤ 80007
  at_ : ∀ x, 0 ≤ pos marks no → marks[(pos marks no).toNat]? = some x → r = min (now - x.2) 10000

theorem gotR_wp {l : List (Int × Int)} {mean dev now no : Int} {any : Bool} {K : Int → Int → List (Int × Int) → Int → Int → Bool → Prop} (hl : l.length ≤ 1000) (h0 : 0 ≤ mean) (h1 : mean ≤ 80007) (hn0 : 0 ≤ now) (hn : now ≤ 1099511627776)
    (ht : ∀ x ∈ l, 0 ≤ x.2 ∧ x.2 ≤ now) (h : ∀ r c marks' mean' dev' any', GotR l now no r marks' mean' → K r c marks' mean' dev' any') : rtt_Meter_Got_wp l mean dev any now no K := by
  refine got_wp hl h0 h1 hn0 hn (fun hp => ?_) (fun x hp hx => ?_)
  · exact h _ _ _ _ _ _ ⟨by omega, by omega, by omega, fun x hx => hx, h0, h1, fun x hp' _ => by omega⟩
  · have hm : x ∈ l := List.mem_of_getElem? hx
    obtain ⟨a, b⟩ := ht x hm
    refine ⟨a, b, h _ _ _ _ _ _ ⟨by omega, by omega, List.length_eraseIdx_le _ _, fun y hy => List.mem_of_mem_eraseIdx hy, ?_, ?_, fun y _ hy => ?_⟩⟩
    · unfold sampleM; split <;> omega
    · unfold sampleM; split <;> omega
    · rw [hx] at hy; cases hy; rfl

theorem heardPunch_wp {st try' next mean dev now kind a b : Int} {first any : Bool} {other own marks addrs : List (Int × Int)} {body : List Int} {m1 m2 : MI} {m3 : MA} {K : List Stp → Int → Int → Int → List (Int × Int) → List (Int × Int) → Int → Int → Bool → MI → MI → MA → Prop} (hl : own.length ≤ 8) (ho : addrs.length ≤ 8) (h0 : 0 ≤ try') (h3 : try' ≤ 3)
    (hm : marks.length ≤ 100) (hn0 : 0 ≤ now) (hn : now ≤ 1099511627776) (he0 : 0 ≤ mean) (he : mean ≤ 80007) (ht : ∀ x ∈ marks, 0 ≤ x.2 ∧ x.2 ≤ now)
    (hno : ¬ CA 17 [a, b] first st try' → ¬ CB 17 [a, b] first st try' → K [] st try' next other marks mean dev any m1 m2 m3)
    (hA : CA 17 [a, b] first st try' → ∀ hd hd1 hd2 : Hd, hd.2.1 = 2 → hd1.2.1 = own.length → hd2.2.1 = 0 → K [(0, (none, 0, 0), 17, hd, hd1, hd2)] 2 a (now + 100) addrs marks mean dev any (m1 ++ [(hd2, [])]) (m2 ++ [(hd, [a, 1])]) (m3 ++ [(hd1, own)]))
    (hB : CB 17 [a, b] first st try' → ∀ r marks' mean' dev' any', GotR marks now a r marks' mean' → ∀ hd : Hd, hd.2.1 = 1 → K [(0, (none, 0, 0), 18, hd, (none, 0, 0), (none, 0, 0))] 2 try' (now + r / 2) addrs marks' mean' dev' any' m1 (m2 ++ [(hd, [a])]) m3) :
    punch_Puncher_heardPunch_wp st first try' next other own marks mean dev any now kind [a, b] addrs body m1 m2 m3 K := by
  unfold punch_Puncher_heardPunch_wp
  refine ⟨by decide, by show (0 : Int) < ((2 : Nat) : Int); decide, fun x hx => ?_⟩
  cases (Option.some.inj hx : a = x)
  refine joinP1.i (cond_d (fun hlt => ?_) (fun hge => cond_d (fun hgt => ?_) (fun hle => ?_)))
  · exact hno (by rintro ⟨-, a', e, h⟩; cases e; omega) (by rintro ⟨-, a', e, h⟩; cases e; omega)
  · exact hno (by rintro ⟨-, a', e, h⟩; cases e; omega) (by rintro ⟨-, a', e, h⟩; cases e; omega)
  · refine joinP1.i ⟨by decide, by show (1 : Int) < ((2 : Nat) : Int); decide, fun y hy => ?_⟩
    cases (Option.some.inj hy : b = y)
    have second : ¬ CA 17 [a, b] first st try' → joinP1 (fun (t88 : Bool) => cond t88 (slices_Clone_sl_api_Addr_api_Addr_wp addrs (fun (rs_2 : List (Int × Int)) => rtt_Meter_Got_wp marks mean dev any now a (fun (r_1 : Int) (r_2 : Int) (marks_2 : List (Int × Int)) (mean_2 : Int) (dev_2 : Int) (any_2 : Bool) => ∀ (hd_3 : Option Addr × Nat × Nat), hd_3.2.1 = [a].length → (punch_told_wp 18 hd_3 ((none, 0, 0) : Option Addr × Nat × Nat) ((none, 0, 0) : Option Addr × Nat × Nat) (fun (rs_3 : List (Int × (Option Addr × Nat × Nat) × Int × (Option Addr × Nat × Nat) × (Option Addr × Nat × Nat) × (Option Addr × Nat × Nat))) => K rs_3 2 try' (IntKind.wrap .i64 (now + (IntKind.wrap .i64 (Int.tdiv r_1 2)))) rs_2 marks_2 mean_2 dev_2 any_2 m1 (m2 ++ [(hd_3, [a])]) m3))))) (K ([] : List (Int × (Option Addr × Nat × Nat) × Int × (Option Addr × Nat × Nat) × (Option Addr × Nat × Nat) × (Option Addr × Nat × Nat))) st try' next other marks mean dev any m1 m2 m3)) (fun (Q_2 : Bool → Prop) => 0 ≤ (1 : Int) ∧ (1 : Int) < ((([a, b] : List Int).length : Nat) : Int) ∧ (∀ (x_3 : Int), ([a, b] : List Int)[Int.toNat 1]? = some x_3 → (cond ((x_3 : Int) == 1) (cond first (cond ((st : Int) == 1) (Q_2 ((a : Int) == (IntKind.wrap .u64 try'))) (Q_2 false)) (Q_2 false)) (Q_2 false)))) := by
      intro nA
      refine joinP1.i ⟨by decide, by show (1 : Int) < ((2 : Nat) : Int); decide, fun y hy => ?_⟩
      cases (Option.some.inj hy : b = y)
      refine cond_e (fun e1 => ?_) (fun n1 => hno nA (by rintro ⟨-, a', e, h⟩; cases e; omega))
      refine cond_b (fun ef => ?_) (fun nf => hno nA (by rintro ⟨-, a', e, -, -, h, -⟩; rw [nf] at h; cases h))
      refine cond_e (fun es => ?_) (fun ns => hno nA (by rintro ⟨-, a', e, -, -, -, h, -⟩; omega))
      rw [wrap_u64 (x := try') (by omega) (by omega)]
      refine cond_e (fun et => ?_) (fun nt => hno nA (by rintro ⟨-, a', e, -, -, -, -, h⟩; cases e; omega))
      refine clone_wp (by omega) (gotR_wp (by omega) he0 he hn0 hn ht fun r c marks' mean' dev' any' G hd ehd => ?_)
      unfold punch_told_wp
      have h1 := G.r0; have h2 := G.r1
      rw [tdiv_pos h1, wrap_i64 (x := r / 2) (by omega) (by omega), wrap_i64 (x := now + r / 2) (by omega) (by omega)]
      exact hB ⟨rfl, a, by rw [e1], by omega, by omega, ef, es, by omega⟩ r marks' mean' dev' any' G hd ehd
    refine cond_e (fun e0 => ?_) (fun n0 => second (by rintro ⟨-, a', e, h⟩; cases e; omega))
    cases hfi : first with
    | true => rw [hfi] at second; exact second (by rintro ⟨-, a', e, -, -, h, -⟩; cases h)
    | false =>
      rw [hfi] at second
      refine cond_n (fun n4 => ?_) (fun e4 => second (by rintro ⟨-, a', e, -, -, -, h, -⟩; omega))
      refine cond_n (fun n5 => ?_) (fun e5 => second (by rintro ⟨-, a', e, -, -, -, -, h, -⟩; omega))
      rw [wrap_u64 (x := try') (by omega) (by omega)]
      rw [wrap_u64 (x := try') (by omega) (by omega)] at second
      refine cond_d (fun hge => ?_) (fun hlt => second (by rintro ⟨-, a', e, -, -, -, -, -, h⟩; cases e; omega))
      refine clone_wp (by omega) ?_
      rw [wrap_i64 (x := a) (by omega) (by omega), wrap_i64 (x := now + 100) (by omega) (by omega)]
      refine punch_wp hl (by omega) (by omega) fun hd hd1 hd2 e e1 e2 => ?_
      unfold punch_told_wp
      exact hA ⟨rfl, a, by rw [e0], by omega, by omega, hfi, n4, n5, by omega⟩ hd hd1 hd2 e e1 e2

theorem heardSync_wp {st try' next mean dev now kind a : Int} {first any : Bool} {other addrs : List (Int × Int)} {body : List Int} {m3 : MA} {K : List Stp → Int → Int → MA → Prop} (ho : other.length ≤ 1000) (h0 : 0 ≤ try') (h3 : try' ≤ 3) (hn0 : 0 ≤ now) (hn : now ≤ 1099511627776)
    (hno : ¬ CS 18 [a] first st try' → K [] st next m3)
    (hS : CS 18 [a] first st try' → ∀ hd : Hd, hd.2.1 = other.length → K [(1, hd, 0, (none, 0, 0), (none, 0, 0), (none, 0, 0))] 3 (now + 20) (m3 ++ [(hd, other)])) :
    punch_Puncher_heardSync_wp st first try' next other mean dev any now kind [a] addrs body m3 K := by
  unfold punch_Puncher_heardSync_wp
  refine joinP1.i (cond_b (fun hf => hno (by rintro ⟨-, -, h, -⟩; rw [hf] at h; cases h)) (fun hf => ?_))
  refine cond_n (fun hn2 => hno (by rintro ⟨-, -, -, h⟩; exact hn2 h)) (fun e2 => ?_)
  refine ⟨by decide, by show (0 : Int) < ((1 : Nat) : Int); decide, fun x hx => ?_⟩
  cases (Option.some.inj hx : a = x)
  rw [wrap_u64 (x := try') (by omega) (by omega)]
  refine cond_n (fun hne => hno (by rintro ⟨-, h, -⟩; cases h; exact hne rfl)) (fun e => ?_)
  exact dial_wp ho hn0 hn (hS ⟨rfl, by rw [e], hf, e2⟩)

/-- What a message makes. -/
structure HearK (kind : Int) (nums : List Int) (addrs : List (Int × Int)) (st : Int) (first : Bool) (try' next : Int) (other own marks : List (Int × Int)) (mean dev : Int) (any : Bool) (now n : Int) (m1 m2 : MI) (m3 : MA) (K : List Stp → Int → Int → Int → List (Int × Int) → Int → List (Int × Int) → Int → Int → Bool → MI → MI → MA → Prop) : Prop where
  nothing : now ≤ n → n ≤ 1099511627776 → ¬ CA kind nums first st try' → ¬ CB kind nums first st try' → ¬ CS kind nums first st try' → K [] st try' next other n marks mean dev any m1 m2 m3
  asked : now ≤ n → n ≤ 1099511627776 → addrs.length ≤ 8 → CA kind nums first st try' → ∀ a, nums = [a, 0] → ∀ hd hd1 hd2 : Hd, hd.2.1 = 2 → hd1.2.1 = own.length → hd2.2.1 = 0 → K [(0, (none, 0, 0), 17, hd, hd1, hd2)] 2 a (n + 100) addrs n marks mean dev any (m1 ++ [(hd2, [])]) (m2 ++ [(hd, [a, 1])]) (m3 ++ [(hd1, own)])
  answered : now ≤ n → n ≤ 1099511627776 → addrs.length ≤ 8 → CB kind nums first st try' → ∀ r marks' mean' dev' any', GotR marks n try' r marks' mean' → ∀ hd : Hd, hd.2.1 = 1 → K [(0, (none, 0, 0), 18, hd, (none, 0, 0), (none, 0, 0))] 2 try' (n + r / 2) addrs n marks' mean' dev' any' m1 (m2 ++ [(hd, [try'])]) m3
  synced : now ≤ n → n ≤ 1099511627776 → CS kind nums first st try' → ∀ hd : Hd, hd.2.1 = other.length → K [(1, hd, 0, (none, 0, 0), (none, 0, 0), (none, 0, 0))] 3 try' (n + 20) other n marks mean dev any m1 m2 (m3 ++ [(hd, other)])

theorem hear_wp {st try' next mean dev now n kind : Int} {first any : Bool} {other own marks addrs : List (Int × Int)} {nums body : List Int} {m1 m2 : MI} {m3 : MA} {K : List Stp → Int → Int → Int → List (Int × Int) → Int → List (Int × Int) → Int → Int → Bool → MI → MI → MA → Prop} (hl : own.length ≤ 8) (ho : other.length ≤ 1000) (h0 : 0 ≤ try') (h3 : try' ≤ 3)
    (hm : marks.length ≤ 100) (hn0 : 0 ≤ now) (he0 : 0 ≤ mean) (he : mean ≤ 80007) (ht : ∀ x ∈ marks, 0 ≤ x.2 ∧ x.2 ≤ now)
    (hnl : nums.length ≤ 9223372036854775807) (hal : addrs.length ≤ 9223372036854775807) (hu : ∀ x ∈ nums, 0 ≤ x ∧ x ≤ 18446744073709551615)
    (hno : ((kind = 17 → mayB 2 nums addrs body = true → now ≤ n → n ≤ 1099511627776 → False) ∧ (kind = 18 → mayB 1 nums addrs body = true → now ≤ n → n ≤ 1099511627776 → False)) → K [] st try' next other now marks mean dev any m1 m2 m3)
    (h : HearK kind nums addrs st first try' next other own marks mean dev any now n m1 m2 m3 K) :
    punch_Puncher_Hear_wp st first try' next other own marks mean dev any now n kind nums addrs body m1 m2 m3 K := by
  unfold punch_Puncher_Hear_wp
  refine cond_e (fun e17 => ?_) (fun n17 => cond_e (fun e18 => ?_) (fun n18 => ?_))
  · subst e17
    refine joinP2.i (may_wp (c := 2) (by omega) hnl hal hu ?_)
    cases hb : mayB 2 nums addrs body with
    | false => exact hno ⟨fun _ h => by rw [hb] at h; exact absurd h (by decide), fun h => by omega⟩
    | true =>
      obtain ⟨hlen, hal8⟩ := mayB_len hb
      refine cond_f rfl (on_wp (fun ha hb' => ?_) (fun hx => ?_))
      rotate_left
      · exact hno ⟨fun _ _ a b => hx ⟨a, b⟩, fun h => by omega⟩
      obtain ⟨a, b, rfl⟩ : ∃ a b, nums = [a, b] := by
        match nums, hlen with
        | [a, b], _ => exact ⟨a, b, rfl⟩
      refine cond_f rfl ?_
      refine heardPunch_wp hl hal8 h0 h3 hm (by omega) hb' he0 he (fun x hx => ⟨(ht x hx).1, by have := (ht x hx).2; omega⟩) (fun nA nB => ?_) (fun cA hd hd1 hd2 e e1 e2 => ?_) (fun cB r marks' mean' dev' any' G hd e => ?_)
      · exact h.nothing ha hb' nA nB (by rintro ⟨h, -⟩; omega)
      · obtain ⟨-, a', e', -⟩ := id cA
        have : b = 0 := by cases e'; rfl
        subst this
        exact h.asked ha hb' hal8 cA a rfl hd hd1 hd2 e e1 e2
      · obtain ⟨-, a', e', -, -, -, -, et⟩ := id cB
        have : a = try' := by cases e'; omega
        subst this
        exact h.answered ha hb' hal8 cB r marks' mean' dev' any' G hd e
  · subst e18
    refine joinP2.i (may_wp (c := 1) (by omega) hnl hal hu ?_)
    cases hb : mayB 1 nums addrs body with
    | false => exact hno ⟨fun h => by omega, fun _ h => by rw [hb] at h; exact absurd h (by decide)⟩
    | true =>
      obtain ⟨hlen, hal8⟩ := mayB_len hb
      refine cond_f rfl (on_wp (fun ha hb' => ?_) (fun hx => ?_))
      rotate_left
      · exact hno ⟨fun h => by omega, fun _ _ a b => hx ⟨a, b⟩⟩
      obtain ⟨a, rfl⟩ : ∃ a, nums = [a] := by
        match nums, hlen with
        | [a], _ => exact ⟨a, rfl⟩
      refine cond_f rfl ?_
      refine heardSync_wp ho h0 h3 (by omega) hb' (fun nS => ?_) (fun cS hd e => ?_)
      · exact h.nothing ha hb' (by rintro ⟨h, -⟩; omega) (by rintro ⟨h, -⟩; omega) nS
      · exact h.synced ha hb' cS hd e
  · refine joinP2.i ?_
    exact hno ⟨fun h => absurd h n17, fun h => absurd h n18⟩

theorem state_wp {st try' next mean dev now : Int} {first any : Bool} {other : List (Int × Int)} {K : Int → Bool → Int → Int → List (Int × Int) → Prop} (ho : other.length ≤ 1000) (h : K st first try' next other) : punch_Puncher_State_wp st first try' next other mean dev any now K := by
  unfold punch_Puncher_State_wp
  exact clone_wp ho h

theorem sentL_len {l : List (Int × Int)} {no now : Int} (h : l.length ≤ 30) : (sentL l no now).length ≤ 30 := by
  rw [sentL_eq]
  have h1 := List.length_eraseP_le (p := fun x : Int × Int => x.1 == no) (l := l)
  split
  · rw [List.length_eraseIdx]; simp at *; omega
  · omega

theorem sentL_at {l : List (Int × Int)} {no now : Int} {p : Int × Int → Prop} (h : ∀ x ∈ l, p x) (hn : p (no, now)) : ∀ x ∈ sentL l no now, p x := by
  intro x hx
  rw [sentL_eq] at hx
  have key : ∀ x ∈ l.eraseP (fun x => x.1 == no) ++ [(no, now)], p x := by
    intro x hx
    rcases List.mem_append.1 hx with hx | hx
    · exact h x (List.mem_of_mem_eraseP hx)
    · simp at hx; subst hx; exact hn
  split at hx
  · exact key x (List.mem_of_mem_eraseIdx hx)
  · exact key x hx

def asksF (l : List Stp) : Int := ((l.filter fun x => x.1 == 0 && x.2.2.1 == 17).length : Nat)

theorem asks_wp {l : List Stp} {K : Int → Prop} (hl : l.length ≤ 1000) (h : K (asksF l)) : embrasurelaw27_asks_wp l K := by
  unfold embrasurelaw27_asks_wp
  refine ⟨fun n c i => 0 ≤ i ∧ i ≤ l.length ∧ n = l.length - i.toNat ∧ c = asksF (l.take i.toNat), ⟨_, by omega, by omega, rfl, rfl⟩, ?_⟩
  rintro n c i ⟨h0, h1, rfl, rfl⟩
  refine cond_d (fun hlt => ?_) (fun hge => ?_)
  · have hi : i.toNat < l.length := by omega
    have hle : asksF (l.take i.toNat) ≤ i := by
      unfold asksF
      have := List.length_filter_le (fun x : Stp => x.1 == 0 && x.2.2.1 == 17) (l.take i.toNat)
      rw [List.length_take] at this
      omega
    have h00 : 0 ≤ asksF (l.take i.toNat) := by unfold asksF; omega
    have hstep : asksF (l.take (i.toNat + 1)) = asksF (l.take i.toNat) + (if l[i.toNat].1 == 0 && l[i.toNat].2.2.1 == 17 then 1 else 0) := by
      unfold asksF
      rw [List.take_succ_eq_append_getElem hi, List.filter_append, List.length_append]
      by_cases e : (l[i.toNat].1 == 0 && l[i.toNat].2.2.1 == 17) = true
      · rw [if_pos e]; simp only [List.filter_cons, if_pos e, List.filter_nil, List.length_singleton]; omega
      · rw [if_neg e]; simp only [List.filter_cons, if_neg e, List.filter_nil, List.length_nil]; omega
    have ei : (i + 1).toNat = i.toNat + 1 := by omega
    refine joinP1.i ⟨h0, hlt, fun x hx => ?_⟩
    rw [List.getElem?_eq_getElem hi] at hx
    cases hx
    have fin : ∀ b : Bool, b = (l[i.toNat].1 == 0 && l[i.toNat].2.2.1 == 17) → cond b (∃ (n_3 : Nat), n_3 < (l.length - i.toNat) ∧ (0 ≤ (IntKind.wrap .i64 (i + 1)) ∧ (IntKind.wrap .i64 (i + 1)) ≤ l.length ∧ n_3 = l.length - (IntKind.wrap .i64 (i + 1)).toNat ∧ (IntKind.wrap .i64 (asksF (l.take i.toNat) + 1)) = asksF (l.take (IntKind.wrap .i64 (i + 1)).toNat))) (∃ (n_4 : Nat), n_4 < (l.length - i.toNat) ∧ (0 ≤ (IntKind.wrap .i64 (i + 1)) ∧ (IntKind.wrap .i64 (i + 1)) ≤ l.length ∧ n_4 = l.length - (IntKind.wrap .i64 (i + 1)).toNat ∧ asksF (l.take i.toNat) = asksF (l.take (IntKind.wrap .i64 (i + 1)).toNat))) := by
      intro b hb
      rw [wrap_i64 (x := i + 1) (by omega) (by omega), wrap_i64 (x := asksF (l.take i.toNat) + 1) (by omega) (by omega), ei, hstep, ← hb]
      cases b with
      | true => exact ⟨_, by omega, by omega, by omega, rfl, rfl⟩
      | false => exact ⟨_, by omega, by omega, by omega, rfl, by simp⟩
    refine cond_e (fun e0 => ?_) (fun n0 => ?_)
    · refine ⟨h0, hlt, fun x hx => ?_⟩
      rw [List.getElem?_eq_getElem hi] at hx
      cases hx
      refine fin _ ?_
      rw [e0]; rfl
    · refine fin false ?_
      have : (l[i.toNat].1 == 0) = false := by simpa using n0
      rw [this]; rfl
  · rw [List.take_of_length_le (by omega)]
    exact h

theorem lawMay_wp {l : List (Int × Int)} {K : Bool → Prop} (hl : l.length ≤ 9223372036854775807) (hu : ∀ x ∈ l, 0 ≤ x.1) (h : ∀ b, (b = true → l.length ≤ 8 ∧ ∀ x ∈ l, okA x = true) → K b) : embrasurelaw27_May_wp l K := by
  unfold embrasurelaw27_May_wp
  refine joinP0.i ⟨fun n i => 0 ≤ i ∧ i ≤ l.length ∧ n = l.length - i.toNat ∧ ∀ j (h : j < l.length), j < i.toNat → okA l[j] = true, ⟨_, by omega, by omega, rfl, by omega⟩, ?_⟩
  rintro n i ⟨h0, h1, rfl, hj⟩
  refine cond_d (fun hlt => ?_) (fun hge => ?_)
  · refine ⟨h0, hlt, fun x hx => ?_⟩
    have hi : i.toNat < l.length := by omega
    rw [List.getElem?_eq_getElem hi] at hx
    cases hx
    have hu1 := hu _ (List.getElem_mem hi)
    have fin : ∀ b : Bool, b = okA l[i.toNat] → cond (!b) (K false) (∃ (n_3 : Nat), n_3 < (l.length - i.toNat) ∧ (0 ≤ (IntKind.wrap .i64 (i + 1)) ∧ (IntKind.wrap .i64 (i + 1)) ≤ l.length ∧ n_3 = l.length - (IntKind.wrap .i64 (i + 1)).toNat ∧ ∀ j (h : j < l.length), j < (IntKind.wrap .i64 (i + 1)).toNat → okA l[j] = true)) := by
      intro b hb
      rw [wrap_i64 (x := i + 1) (by omega) (by omega)]
      cases b with
      | false => exact h false (by intro h; cases h)
      | true =>
        refine ⟨_, by omega, by omega, by omega, rfl, fun j h hj' => ?_⟩
        by_cases e : j = i.toNat
        · subst e; exact hb.symm
        · exact hj j h (by omega)
    unfold embrasureref03_May_wp
    have e : okA l[i.toNat] = (decide (l[i.toNat].1 > 0) && (decide (l[i.toNat].2 > 0) && decide (l[i.toNat].2 < 65536))) := by
      unfold okA
      rw [Bool.eq_iff_iff]
      simp only [Bool.and_eq_true, bne_iff_ne, decide_eq_true_eq]
      omega
    refine cond_d (fun a => ?_) (fun a => fin _ ?_)
    · refine cond_d (fun b => ?_) (fun b => fin _ ?_)
      · refine fin _ ?_
        rw [e, decide_eq_true a, decide_eq_true b]; rfl
      · rw [e, decide_eq_true a, decide_eq_false b]; rfl
    · rw [e, decide_eq_false a]; rfl
  · refine h _ fun hb => ?_
    refine ⟨by have := of_decide_eq_true hb; omega, fun x hx => ?_⟩
    obtain ⟨j, h, rfl⟩ := List.getElem_of_mem hx
    exact hj j h (by omega)

end Go.Proofs.Ytgelfofenbjjbaa
