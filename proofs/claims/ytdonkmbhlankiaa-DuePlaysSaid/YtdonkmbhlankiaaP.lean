/- The sort of slices, told by its own functions: what comes out is sorted and has the same elements. -/
import Derived.Test.YtdonkmbhlankiaaL
import Derived.Sort.AssemblyPlain
namespace Go.Proofs.Ytdonkmbhlankiaa
open Go Go.Eng Go.Proofs Go.Sort
set_option maxRecDepth 20000
set_option maxHeartbeats 2000000

/-- One call of the order's function: it answers cf, and nothing turns. -/
def Ord {σ : Type} (cf : ByteArray → ByteArray → Int) (s : σ) (Y : ByteArray → ByteArray → σ → (Int → σ → Prop) → Prop) : Prop := ∀ a b K, K (cf a b) s → Y a b s K
def ltf (cf : ByteArray → ByteArray → Int) (a b : ByteArray) : Bool := decide (cf a b < 0)

theorem rdN {D : Array ByteArray} {k L : Nat} {P : ByteArray → Prop} (hk : k < D.size) (hL : D.size = L) (h : P D[k]!) : 0 ≤ ((k : Nat) : Int) ∧ ((k : Nat) : Int) < ((L : Nat) : Int) ∧ ∀ x, D.toList[Int.toNat (k : Int)]? = some x → P x := by
  refine ⟨by omega, by omega, fun x hx => ?_⟩
  have e : D[k]! = x := by
    rw [Int.toNat_natCast] at hx
    rw [getElem!_pos D k hk]
    simpa [hk] using hx
  rw [← e]; exact h
theorem wrN {k L : Nat} {Q : Prop} (hk : k < L) (h : Q) : 0 ≤ ((k : Nat) : Int) ∧ ((k : Nat) : Int) < ((L : Nat) : Int) ∧ Q := ⟨by omega, by omega, h⟩
theorem setsw {D : Array ByteArray} {i j : Nat} : List.set (List.set D.toList (Int.toNat (i : Int)) D[j]!) (Int.toNat (j : Int)) D[i]! = (swp D i j).toList := by
  simp [swp]
theorem wm1 {j : Nat} (h : 1 ≤ j) (h2 : j ≤ 1000000) : IntKind.wrap .i64 ((j : Int) - 1) = ((j - 1 : Nat) : Int) := by rw [wrap_i64 (by omega) (by omega)]; omega
theorem wp1 {j : Nat} (h2 : j ≤ 1000000) : IntKind.wrap .i64 ((j : Int) + 1) = ((j + 1 : Nat) : Int) := by rw [wrap_i64 (by omega) (by omega)]; omega
theorem wsub {a b : Nat} (h : b ≤ a) (h2 : a ≤ 1000000) : IntKind.wrap .i64 ((a : Int) - b) = ((a - b : Nat) : Int) := by rw [wrap_i64 (by omega) (by omega)]; omega
theorem wadd {a b : Nat} (h2 : a + b ≤ 1000000) : IntKind.wrap .i64 ((a : Int) + b) = ((a + b : Nat) : Int) := by rw [wrap_i64 (by omega) (by omega)]; omega

theorem ins_wp {σ : Type} {s : σ} {cf : ByteArray → ByteArray → Int} {Y : ByteArray → ByteArray → σ → (Int → σ → Prop) → Prop} (hY : Ord cf s Y) {D : Array ByteArray} {a b : Nat} {K : List ByteArray → σ → Prop}
    (hs : D.size ≤ 255) (ha : a ≤ D.size) (hb : b ≤ D.size) (hK : K (insertionSort (ltf cf) D a b).toList s) : slices_insertionSortCmpFunc_string_wp D.toList a b s Y K := by
  unfold slices_insertionSortCmpFunc_string_wp
  refine ⟨fun n d i s' => ∃ (E : Array ByteArray) (k : Nat), d = E.toList ∧ i = k ∧ s = s' ∧ E.size = D.size ∧ insOuter (ltf cf) a b k E = insertionSort (ltf cf) D a b ∧ a + 1 ≤ k ∧ k ≤ 300 ∧ n = b - k, ⟨_, D, a + 1, rfl, wp1 (by omega), rfl, rfl, rfl, by omega, by omega, rfl⟩, ?_⟩
  rintro n d i s' ⟨E, k, rfl, rfl, rfl, hE, he, hk, hk2, rfl⟩
  refine cond_d (fun h => ?_) (fun h => ?_)
  · have hkb : k < b := by omega
    rw [insOuter, if_pos hkb] at he
    refine ⟨fun n d j s'' => ∃ (F : Array ByteArray) (m : Nat), d = F.toList ∧ j = m ∧ s = s'' ∧ F.size = D.size ∧ insInner (ltf cf) a m F = insInner (ltf cf) a k E ∧ m ≤ k ∧ m = n, ⟨_, E, k, rfl, rfl, rfl, hE, rfl, by omega, rfl⟩, ?_⟩
    rintro n d j s'' ⟨F, m, rfl, rfl, rfl, hF, hf, hm, rfl⟩
    refine joinP2.i ?_
    have next : insInner (ltf cf) a m F = F → (∃ n_5, n_5 < b - k ∧ ∃ (E : Array ByteArray) (k_1 : Nat), F.toList = E.toList ∧ IntKind.wrap .i64 ((k : Int) + 1) = k_1 ∧ s = s ∧ E.size = D.size ∧ insOuter (ltf cf) a b k_1 E = insertionSort (ltf cf) D a b ∧ a + 1 ≤ k_1 ∧ k_1 ≤ 300 ∧ n_5 = b - k_1) := by
      intro hz
      exact ⟨b - (k + 1), by omega, F, k + 1, rfl, wp1 (by omega), rfl, hF, by rw [← he, ← hf, hz], by omega, by omega, rfl⟩
    refine cond_d (fun h2 => ?_) (fun h2 => ?_)
    · obtain ⟨p, rfl⟩ : ∃ p, m = p + 1 := ⟨m - 1, by omega⟩
      rw [wm1 (by omega) (by omega), Nat.add_sub_cancel]
      refine rdN (by omega) (by simpa using hF) (rdN (by omega) (by simpa using hF) (hY _ _ _ ?_))
      refine cond_b (fun h3 => ?_) (fun h3 => ?_)
      · refine rdN (by omega) (by simpa using hF) (rdN (by omega) (by simpa using hF) (wrN (by simp; omega) (wrN (by simp; omega) ?_)))
        rw [setsw]
        refine ⟨p, by omega, swp F (p + 1) p, p, rfl, rfl, rfl, by rw [size_swp, hF], ?_, by omega, rfl⟩
        rw [← hf, insInner, if_pos]
        simp only [Bool.and_eq_true, decide_eq_true_eq]
        exact ⟨by omega, h3⟩
      · refine next ?_
        rw [insInner, if_neg]
        simp only [Bool.and_eq_true, decide_eq_true_eq]
        rintro ⟨_, h4⟩
        rw [ltf] at h4
        rw [h3] at h4; exact absurd h4 (by simp)
    · refine next ?_
      cases m with
      | zero => rfl
      | succ p =>
        rw [insInner, if_neg]
        simp only [Bool.and_eq_true, decide_eq_true_eq]
        rintro ⟨h4, _⟩
        omega
  · rw [insOuter, if_neg (by omega)] at he
    rw [he]; exact hK

theorem w2 {k : Nat} (h2 : k ≤ 1000) : IntKind.wrap .i64 (2 * (k : Int)) = ((2 * k : Nat) : Int) := by rw [wrap_i64 (by omega) (by omega)]; omega
theorem ltf_t {cf : ByteArray → ByteArray → Int} {x y : ByteArray} (h : (decide ((cf x y : Int) < 0)) = true) : ltf cf x y = true := h
theorem ltf_f {cf : ByteArray → ByteArray → Int} {x y : ByteArray} (h : (decide ((cf x y : Int) < 0)) = false) : ltf cf x y = false := h

theorem sift_wp {σ : Type} {s : σ} {cf : ByteArray → ByteArray → Int} {Y : ByteArray → ByteArray → σ → (Int → σ → Prop) → Prop} (hY : Ord cf s Y) {D : Array ByteArray} {lo hi first : Nat} {K : List ByteArray → σ → Prop}
    (hs : D.size ≤ 255) (hlo : lo ≤ 300) (hb : first + hi ≤ D.size) (hK : K (siftDown (ltf cf) hi first lo D).toList s) : slices_siftDownCmpFunc_string_wp D.toList lo hi first s Y K := by
  unfold slices_siftDownCmpFunc_string_wp
  obtain ⟨R, hR⟩ : ∃ R, siftDown (ltf cf) hi first lo D = R := ⟨_, rfl⟩
  rw [hR] at hK
  refine ⟨fun n d r s' => ∃ (E : Array ByteArray) (k : Nat), d = E.toList ∧ r = k ∧ s = s' ∧ E.size = D.size ∧ siftDown (ltf cf) hi first k E = R ∧ k ≤ 300 ∧ n = hi - k, ⟨_, D, lo, rfl, rfl, rfl, rfl, hR, by omega, rfl⟩, ?_⟩
  rintro n d r s' ⟨E, k, rfl, rfl, rfl, hE, he, hk, rfl⟩
  have e1 : (IntKind.wrap .i64 ((IntKind.wrap .i64 (2 * (k : Int))) + 1)) = ((2 * k + 1 : Nat) : Int) := by rw [w2 (by omega), wp1 (by omega)]
  have e2 : (IntKind.wrap .i64 (((2 * k + 1 : Nat) : Int) + 1)) = ((2 * k + 2 : Nat) : Int) := wp1 (by omega)
  simp only [e1, e2]
  refine cond_d (fun h => ?_) (fun h => ?_)
  · rw [siftDown, dif_pos (by omega)] at he
    rw [he]; exact hK
  · rw [siftDown, dif_neg (by omega)] at he
    have hEL : E.size = D.toList.length := by simpa using hE
    refine ⟨fun c s'' => ∃ m : Nat, c = m ∧ s = s'' ∧ (m = 2 * k + 1 ∨ m = 2 * k + 2) ∧ m < hi ∧ (if (!ltf cf E[first + k]! E[first + m]!) = true then E else siftDown (ltf cf) hi first m (swp E (first + k) (first + m))) = R, ?_, ?_⟩
    · rintro c s'' ⟨m, rfl, rfl, hm1, hm2, hm⟩
      rw [wadd (by omega), wadd (by omega)]
      refine rdN (by omega) hEL (rdN (by omega) hEL (hY _ _ _ ?_))
      refine cond_b (fun h3 => ?_) (fun h3 => ?_)
      · rw [if_pos (by exact h3)] at hm
        rw [hm]; exact hK
      · rw [if_neg (by rw [ltf, h3]; simp)] at hm
        refine rdN (by omega) hEL (rdN (by omega) hEL (wrN (by omega) (wrN (by omega) ?_)))
        rw [setsw]
        exact ⟨hi - m, by omega, _, m, rfl, rfl, rfl, by rw [size_swp, hE], hm, by omega, rfl⟩
    · refine joinP2.i ?_
      refine cond_d (fun h2 => ?_) (fun h2 => ?_)
      · have e3 : IntKind.wrap .i64 ((first : Int) + ((2 * k + 1 : Nat) : Int)) = ((first + (2 * k + 1) : Nat) : Int) := wadd (by omega)
        have e4 : IntKind.wrap .i64 (((first + (2 * k + 1) : Nat) : Int) + 1) = ((first + (2 * k + 1) + 1 : Nat) : Int) := wp1 (by omega)
        simp only [e3, e4]
        refine rdN (by omega) hEL (rdN (by omega) hEL (hY _ _ _ ?_))
        refine cond_b (fun h3 => ?_) (fun h3 => ?_)
        · refine ⟨2 * k + 2, rfl, rfl, Or.inr rfl, by omega, ?_⟩
          rw [if_pos (by simp only [Bool.and_eq_true, decide_eq_true_eq]; exact ⟨by omega, ltf_t h3⟩), dif_pos (show 2 * k + 2 < hi by omega)] at he
          exact he
        · refine ⟨2 * k + 1, rfl, rfl, Or.inl rfl, by omega, ?_⟩
          rw [if_neg (by rw [ltf_f h3]; simp)] at he
          exact he
      · refine ⟨2 * k + 1, rfl, rfl, Or.inl rfl, by omega, ?_⟩
        rw [if_neg (by simp only [Bool.and_eq_true, decide_eq_true_eq]; rintro ⟨h5, _⟩; omega)] at he
        exact he

theorem siftDown_size {lt : ByteArray → ByteArray → Bool} {hi first root : Nat} {D : Array ByteArray} : (siftDown lt hi first root D).size = D.size := by
  fun_induction siftDown lt hi first root D
  all_goals (first | rfl | (rename_i ih; rw [ih, size_swp]))

theorem heap_wp {σ : Type} {s : σ} {cf : ByteArray → ByteArray → Int} {Y : ByteArray → ByteArray → σ → (Int → σ → Prop) → Prop} (hY : Ord cf s Y) {D : Array ByteArray} {a b : Nat} {K : List ByteArray → σ → Prop}
    (hs : D.size ≤ 255) (hab : a ≤ b) (hb : b ≤ D.size) (hK : K (heapSort (ltf cf) D a b).toList s) : slices_heapSortCmpFunc_string_wp D.toList a b s Y K := by
  unfold slices_heapSortCmpFunc_string_wp
  have e0 : IntKind.wrap .i64 ((b : Int) - a) = ((b - a : Nat) : Int) := wsub hab (by omega)
  have e1 : IntKind.wrap .i64 (((b - a : Nat) : Int) - 1) = ((b - a : Nat) : Int) - 1 := wrap_i64 (by omega) (by omega)
  simp only [e0, e1]
  refine ⟨fun d s' => ∃ E : Array ByteArray, d = E.toList ∧ s = s' ∧ E.size = D.size ∧ heapPop (ltf cf) a (b - a) E = heapSort (ltf cf) D a b, ?_, ?_⟩
  · rintro d s' ⟨E, rfl, rfl, hE, he⟩
    refine ⟨fun n d i s' => ∃ (F : Array ByteArray) (k : Nat), d = F.toList ∧ i = (k : Int) - 1 ∧ s = s' ∧ F.size = D.size ∧ heapPop (ltf cf) a k F = heapSort (ltf cf) D a b ∧ k ≤ b - a ∧ k = n, ⟨_, E, b - a, rfl, rfl, rfl, hE, he, by omega, rfl⟩, ?_⟩
    rintro n d i s' ⟨F, k, rfl, rfl, rfl, hF, hf, hk, rfl⟩
    have hEL : F.size = D.toList.length := by simpa using hF
    refine cond_d (fun h => ?_) (fun h => ?_)
    · obtain ⟨p, rfl⟩ : ∃ p, k = p + 1 := ⟨k - 1, by omega⟩
      have e2 : ((p + 1 : Nat) : Int) - 1 = (p : Int) := by omega
      have e3 : IntKind.wrap .i64 ((a : Int) + (p : Int)) = ((a + p : Nat) : Int) := wadd (by omega)
      have e4 : IntKind.wrap .i64 ((p : Int) - 1) = (p : Int) - 1 := wrap_i64 (by omega) (by omega)
      simp only [e2, e3, e4]
      refine rdN (by omega) hEL (rdN (by omega) hEL (wrN (by omega) (wrN (by omega) ?_)))
      rw [setsw]
      rw [heapPop] at hf
      refine sift_wp (lo := 0) hY (by rw [size_swp, hF]; exact hs) (by omega) (by rw [size_swp, hF]; omega) ⟨p, by omega, _, p, rfl, rfl, rfl, ?_, hf, by omega, rfl⟩
      rw [siftDown_size, size_swp, hF]
    · have hk0 : k = 0 := by omega
      subst hk0
      rw [heapPop] at hf
      rw [hf]; exact hK
  · refine ⟨fun n d i s' => ∃ (F : Array ByteArray) (k : Nat), d = F.toList ∧ i = (k : Int) - 1 ∧ s = s' ∧ F.size = D.size ∧ heapPop (ltf cf) a (b - a) (heapBuild (ltf cf) (b - a) a k F) = heapSort (ltf cf) D a b ∧ k ≤ 300 ∧ k = n, ⟨_, D, (b - a - 1) / 2 + 1, rfl, ?_, rfl, rfl, rfl, by omega, rfl⟩, ?_⟩
    · by_cases h0 : b - a = 0
      · rw [h0]; decide
      · rw [Int.tdiv_eq_ediv_of_nonneg (by omega), wrap_i64 (by omega) (by omega)]; omega
    · rintro n d i s' ⟨F, k, rfl, rfl, rfl, hF, hf, hk, rfl⟩
      refine cond_d (fun h => ?_) (fun h => ?_)
      · obtain ⟨p, rfl⟩ : ∃ p, k = p + 1 := ⟨k - 1, by omega⟩
        have e2 : ((p + 1 : Nat) : Int) - 1 = (p : Int) := by omega
        have e4 : IntKind.wrap .i64 ((p : Int) - 1) = (p : Int) - 1 := wrap_i64 (by omega) (by omega)
        simp only [e2, e4]
        rw [heapBuild] at hf
        refine sift_wp hY (by rw [hF]; exact hs) (by omega) (by rw [hF]; omega) ⟨p, by omega, _, p, rfl, rfl, rfl, ?_, hf, by omega, rfl⟩
        rw [siftDown_size, hF]
      · have hk0 : k = 0 := by omega
        subst hk0
        rw [heapBuild] at hf
        exact ⟨F, rfl, rfl, hF, hf⟩

theorem rev_wp {σ : Type} {s : σ} {Y : ByteArray → ByteArray → σ → (Int → σ → Prop) → Prop} {D : Array ByteArray} {a b : Nat} {K : List ByteArray → Prop}
    (hs : D.size ≤ 255) (hab : a < b) (hb : b ≤ D.size) (hK : K (reverseRange D a b).toList) : slices_reverseRangeCmpFunc_string_wp D.toList a b s Y K := by
  unfold slices_reverseRangeCmpFunc_string_wp
  refine ⟨fun n d i j => ∃ (F : Array ByteArray) (p q : Nat), d = F.toList ∧ i = p ∧ j = q ∧ F.size = D.size ∧ reverseLoop p q F = reverseRange D a b ∧ q < b ∧ p ≤ 300 ∧ n = q - p, ⟨_, D, a, b - 1, rfl, rfl, wm1 (by omega) (by omega), rfl, rfl, by omega, by omega, rfl⟩, ?_⟩
  rintro n d i j ⟨F, p, q, rfl, rfl, rfl, hF, hf, hq, hp, rfl⟩
  have hEL : F.size = D.toList.length := by simpa using hF
  refine cond_d (fun h => ?_) (fun h => ?_)
  · rw [wm1 (by omega) (by omega), wp1 (by omega)]
    rw [reverseLoop, if_pos (by omega)] at hf
    refine rdN (by omega) hEL (rdN (by omega) hEL (wrN (by omega) (wrN (by omega) ?_)))
    rw [setsw]
    exact ⟨q - 1 - (p + 1), by omega, _, p + 1, q - 1, rfl, rfl, rfl, by rw [size_swp, hF], hf, by omega, by omega, rfl⟩
  · rw [reverseLoop, if_neg (by omega)] at hf
    rw [hf]; exact hK

theorem order2_wp {σ : Type} {s : σ} {cf : ByteArray → ByteArray → Int} {Y : ByteArray → ByteArray → σ → (Int → σ → Prop) → Prop} (hY : Ord cf s Y) {D : Array ByteArray} {a b : Nat} {w : Int} {K : Int → Int → Int → σ → Prop}
    (ha : a < D.size) (hb : b < D.size) (hK : ∀ x y w, (x = a ∧ y = b) ∨ (x = b ∧ y = a) → K ((x : Nat) : Int) ((y : Nat) : Int) w s) : slices_order2CmpFunc_string_wp D.toList a b w s Y K := by
  unfold slices_order2CmpFunc_string_wp
  refine rdN (by omega) (by simp) (rdN (by omega) (by simp) (hY _ _ _ ?_))
  exact cond_b (fun _ => hK b a _ (Or.inr ⟨rfl, rfl⟩)) (fun _ => hK a b _ (Or.inl ⟨rfl, rfl⟩))

theorem median_wp {σ : Type} {s : σ} {cf : ByteArray → ByteArray → Int} {Y : ByteArray → ByteArray → σ → (Int → σ → Prop) → Prop} (hY : Ord cf s Y) {D : Array ByteArray} {a b c : Nat} {w : Int} {K : Int → Int → σ → Prop}
    (ha : a < D.size) (hb : b < D.size) (hc : c < D.size) (hK : ∀ x w, x = a ∨ x = b ∨ x = c → K ((x : Nat) : Int) w s) : slices_medianCmpFunc_string_wp D.toList a b c w s Y K := by
  unfold slices_medianCmpFunc_string_wp
  refine order2_wp hY ha hb fun x y w h1 => order2_wp hY (by omega) hc fun x2 y2 w2 h2 => order2_wp hY (by omega) (by omega) fun x3 y3 w3 h3 => hK _ _ (by omega)

theorem medianA_wp {σ : Type} {s : σ} {cf : ByteArray → ByteArray → Int} {Y : ByteArray → ByteArray → σ → (Int → σ → Prop) → Prop} (hY : Ord cf s Y) {D : Array ByteArray} {a : Nat} {w : Int} {K : Int → Int → σ → Prop}
    (hs : D.size ≤ 255) (ha : a + 1 < D.size) (ha0 : 1 ≤ a) (hK : ∀ x w, a - 1 ≤ x → x ≤ a + 1 → K ((x : Nat) : Int) w s) : slices_medianAdjacentCmpFunc_string_wp D.toList a w s Y K := by
  unfold slices_medianAdjacentCmpFunc_string_wp
  rw [wm1 ha0 (by omega), wp1 (by omega)]
  exact median_wp hY (by omega) (by omega) (by omega) fun x w h => hK x w (by omega) (by omega)

theorem pivot_wp {σ : Type} {s : σ} {cf : ByteArray → ByteArray → Int} {Y : ByteArray → ByteArray → σ → (Int → σ → Prop) → Prop} (hY : Ord cf s Y) {D : Array ByteArray} {a b : Nat} {K : Int → Int → σ → Prop}
    (hs : D.size ≤ 255) (hab : a < b) (hb : b ≤ D.size) (hK : ∀ x w, a ≤ x → x < b → K ((x : Nat) : Int) w s) : slices_choosePivotCmpFunc_string_wp D.toList a b s Y K := by
  unfold slices_choosePivotCmpFunc_string_wp
  have e0 : IntKind.wrap .i64 ((b : Int) - a) = ((b - a : Nat) : Int) := wsub (by omega) (by omega)
  have eq_ : ∀ m : Nat, m ≤ 3 → IntKind.wrap .i64 ((a : Int) + IntKind.wrap .i64 (IntKind.wrap .i64 (Int.tdiv ((b - a : Nat) : Int) 4) * (m : Int))) = ((a + (b - a) / 4 * m : Nat) : Int) := by
    intro m hm
    rw [Int.tdiv_eq_ediv_of_nonneg (by omega), wrap_i64 (x := ((b - a : Nat) : Int) / 4) (by omega) (by omega)]
    have e : ((b - a : Nat) : Int) / 4 = (((b - a) / 4 : Nat) : Int) := by omega
    have hm2 : (b - a) / 4 * m ≤ (b - a) / 4 * 3 := Nat.mul_le_mul_left _ hm
    rw [e, ← Int.natCast_mul, wrap_i64 (x := (((b - a) / 4 * m : Nat) : Int)) (by omega) (by omega), wadd (by omega)]
  have eq1 : IntKind.wrap .i64 ((a : Int) + IntKind.wrap .i64 (IntKind.wrap .i64 (Int.tdiv ((b - a : Nat) : Int) 4) * 1)) = ((a + (b - a) / 4 * 1 : Nat) : Int) := eq_ 1 (by omega)
  have eq2 : IntKind.wrap .i64 ((a : Int) + IntKind.wrap .i64 (IntKind.wrap .i64 (Int.tdiv ((b - a : Nat) : Int) 4) * 2)) = ((a + (b - a) / 4 * 2 : Nat) : Int) := eq_ 2 (by omega)
  have eq3 : IntKind.wrap .i64 ((a : Int) + IntKind.wrap .i64 (IntKind.wrap .i64 (Int.tdiv ((b - a : Nat) : Int) 4) * 3)) = ((a + (b - a) / 4 * 3 : Nat) : Int) := eq_ 3 (by omega)
  simp only [e0, eq1, eq2, eq3]
  refine ⟨fun _ j s' => ∃ m : Nat, j = m ∧ s = s' ∧ a ≤ m ∧ m < b, ?_, ?_⟩
  · rintro w j s' ⟨m, rfl, rfl, h1, h2⟩
    refine cond_e (fun _ => hK m _ h1 h2) (fun _ => ?_)
    exact cond_e (fun _ => hK m _ h1 h2) (fun _ => hK m _ h1 h2)
  · refine cond_d (fun h8 => ?_) (fun h8 => ?_)
    · refine cond_d (fun h50 => ?_) (fun h50 => ?_)
      · exact medianA_wp hY hs (by omega) (by omega) fun x w h1 h2 => medianA_wp hY hs (by omega) (by omega) fun x2 w h3 h4 => medianA_wp hY hs (by omega) (by omega) fun x3 w h5 h6 =>
          median_wp hY (by omega) (by omega) (by omega) fun y w h => ⟨y, rfl, rfl, by omega, by omega⟩
      · exact median_wp hY (by omega) (by omega) (by omega) fun y w h => ⟨y, rfl, rfl, by omega, by omega⟩
    · exact ⟨_, rfl, rfl, by omega, by omega⟩

theorem scanUp_b {p : ByteArray → Bool} {d : Array ByteArray} {j i : Nat} : i ≤ scanUp p d j i ∧ (scanUp p d j i ≤ j + 1 ∨ scanUp p d j i = i) := by
  fun_induction scanUp p d j i with
  | case1 i h ih =>
    simp only [Bool.and_eq_true, decide_eq_true_eq] at h
    omega
  | case2 i h => omega

theorem scanDown_b {p : ByteArray → Bool} {d : Array ByteArray} {i j : Nat} : scanDown p d i j ≤ j ∧ (i ≤ scanDown p d i j + 1 ∨ scanDown p d i j = j) := by
  fun_induction scanDown p d i j with
  | case1 => omega
  | case2 j h ih =>
    simp only [Bool.and_eq_true, decide_eq_true_eq] at h
    omega
  | case3 j h => omega

section scans
variable {σ : Type} {s : σ} {cf : ByteArray → ByteArray → Int} {Y : ByteArray → ByteArray → σ → (Int → σ → Prop) → Prop} {E : Array ByteArray} {a i j L : Nat} {Q : Int → σ → Prop}

theorem up1 (hY : Ord cf s Y) (hL : E.size = L) (hs : E.size ≤ 255) (ha : a < E.size) (hj : j < E.size) (hi : i ≤ 300) (hQ : Q ((scanUp (fun x => ltf cf x E[a]!) E j i : Nat) : Int) s) :
    ∃ I : Nat → Int → σ → Prop, (∃ n, I n (i : Int) s) ∧ ∀ (n : Nat) (i8 : Int) (s3 : σ), I n i8 s3 → joinP2 (fun (t : Bool) (s4 : σ) => cond t (∃ n3, n3 < n ∧ I n3 (IntKind.wrap .i64 (i8 + 1)) s4) (Q i8 s4))
      (fun (Q1 : Bool → σ → Prop) => cond (decide ((i8 : Int) ≤ (j : Int))) (0 ≤ i8 ∧ i8 < ((L : Nat) : Int) ∧ (∀ x, E.toList[Int.toNat i8]? = some x → (0 ≤ (a : Int) ∧ (a : Int) < ((L : Nat) : Int) ∧ (∀ y, E.toList[Int.toNat (a : Int)]? = some y → (Y x y s3 (fun (t : Int) (s5 : σ) => Q1 (decide ((t : Int) < 0)) s5)))))) (Q1 false s3)) := by
  obtain ⟨R, hR⟩ : ∃ R, scanUp (fun x => ltf cf x E[a]!) E j i = R := ⟨_, rfl⟩
  rw [hR] at hQ
  refine ⟨fun n i8 s' => ∃ k : Nat, i8 = k ∧ s = s' ∧ scanUp (fun x => ltf cf x E[a]!) E j k = R ∧ k ≤ 300 ∧ n = j + 1 - k, ⟨_, i, rfl, rfl, hR, hi, rfl⟩, ?_⟩
  rintro n i8 s' ⟨k, rfl, rfl, hk, hk3, rfl⟩
  refine joinP2.i (cond_d (fun h => ?_) (fun h => ?_))
  · rw [wp1 (by omega)]
    refine rdN (by omega) hL (rdN ha hL (hY _ _ _ (cond_b (fun h3 => ?_) (fun h3 => ?_))))
    · rw [scanUp, if_pos (by simp only [Bool.and_eq_true, decide_eq_true_eq]; exact ⟨by omega, h3⟩)] at hk
      exact ⟨j + 1 - (k + 1), by omega, k + 1, rfl, rfl, hk, by omega, rfl⟩
    · rw [scanUp, if_neg (by simp only [Bool.and_eq_true, decide_eq_true_eq]; rintro ⟨_, h4⟩; rw [ltf_f h3] at h4; exact absurd h4 (by simp))] at hk
      rw [hk]; exact hQ
  · rw [scanUp, if_neg (by simp only [Bool.and_eq_true, decide_eq_true_eq]; rintro ⟨h4, _⟩; omega)] at hk
    rw [hk]; exact hQ

theorem up2 (hY : Ord cf s Y) (hL : E.size = L) (hs : E.size ≤ 255) (ha : a < E.size) (hj : j < E.size) (hi : i ≤ 300) (hQ : Q ((scanUp (fun x => !ltf cf E[a]! x) E j i : Nat) : Int) s) :
    ∃ I : Nat → Int → σ → Prop, (∃ n, I n (i : Int) s) ∧ ∀ (n : Nat) (i8 : Int) (s3 : σ), I n i8 s3 → joinP2 (fun (t : Bool) (s4 : σ) => cond t (∃ n3, n3 < n ∧ I n3 (IntKind.wrap .i64 (i8 + 1)) s4) (Q i8 s4))
      (fun (Q1 : Bool → σ → Prop) => cond (decide ((i8 : Int) ≤ (j : Int))) (0 ≤ (a : Int) ∧ (a : Int) < ((L : Nat) : Int) ∧ (∀ x, E.toList[Int.toNat (a : Int)]? = some x → (0 ≤ i8 ∧ i8 < ((L : Nat) : Int) ∧ (∀ y, E.toList[Int.toNat i8]? = some y → (Y x y s3 (fun (t : Int) (s5 : σ) => Q1 (!(decide ((t : Int) < 0))) s5)))))) (Q1 false s3)) := by
  obtain ⟨R, hR⟩ : ∃ R, scanUp (fun x => !ltf cf E[a]! x) E j i = R := ⟨_, rfl⟩
  rw [hR] at hQ
  refine ⟨fun n i8 s' => ∃ k : Nat, i8 = k ∧ s = s' ∧ scanUp (fun x => !ltf cf E[a]! x) E j k = R ∧ k ≤ 300 ∧ n = j + 1 - k, ⟨_, i, rfl, rfl, hR, hi, rfl⟩, ?_⟩
  rintro n i8 s' ⟨k, rfl, rfl, hk, hk3, rfl⟩
  refine joinP2.i (cond_d (fun h => ?_) (fun h => ?_))
  · rw [wp1 (by omega)]
    refine rdN ha hL (rdN (by omega) hL (hY _ _ _ (cond_b (fun h3 => ?_) (fun h3 => ?_))))
    · rw [scanUp, if_pos (by simp only [Bool.and_eq_true, decide_eq_true_eq]; exact ⟨by omega, h3⟩)] at hk
      exact ⟨j + 1 - (k + 1), by omega, k + 1, rfl, rfl, hk, by omega, rfl⟩
    · rw [scanUp, if_neg (by simp only [Bool.and_eq_true, decide_eq_true_eq]; rintro ⟨_, h4⟩; rw [ltf, h3] at h4; exact absurd h4 (by simp))] at hk
      rw [hk]; exact hQ
  · rw [scanUp, if_neg (by simp only [Bool.and_eq_true, decide_eq_true_eq]; rintro ⟨h4, _⟩; omega)] at hk
    rw [hk]; exact hQ

theorem down1 (hY : Ord cf s Y) (hL : E.size = L) (hs : E.size ≤ 255) (ha : a < E.size) (hj : j < E.size) (hi : 1 ≤ i) (hQ : Q ((scanDown (fun x => !ltf cf x E[a]!) E i j : Nat) : Int) s) :
    ∃ I : Nat → Int → σ → Prop, (∃ n, I n (j : Int) s) ∧ ∀ (n : Nat) (i8 : Int) (s3 : σ), I n i8 s3 → joinP2 (fun (t : Bool) (s4 : σ) => cond t (∃ n3, n3 < n ∧ I n3 (IntKind.wrap .i64 (i8 - 1)) s4) (Q i8 s4))
      (fun (Q1 : Bool → σ → Prop) => cond (decide ((i : Int) ≤ i8)) (0 ≤ i8 ∧ i8 < ((L : Nat) : Int) ∧ (∀ x, E.toList[Int.toNat i8]? = some x → (0 ≤ (a : Int) ∧ (a : Int) < ((L : Nat) : Int) ∧ (∀ y, E.toList[Int.toNat (a : Int)]? = some y → (Y x y s3 (fun (t : Int) (s5 : σ) => Q1 (!(decide ((t : Int) < 0))) s5)))))) (Q1 false s3)) := by
  obtain ⟨R, hR⟩ : ∃ R, scanDown (fun x => !ltf cf x E[a]!) E i j = R := ⟨_, rfl⟩
  rw [hR] at hQ
  refine ⟨fun n i8 s' => ∃ k : Nat, i8 = k ∧ s = s' ∧ scanDown (fun x => !ltf cf x E[a]!) E i k = R ∧ k ≤ j ∧ k = n, ⟨_, j, rfl, rfl, hR, Nat.le_refl _, rfl⟩, ?_⟩
  rintro n i8 s' ⟨k, rfl, rfl, hk, hk3, rfl⟩
  refine joinP2.i (cond_d (fun h => ?_) (fun h => ?_))
  · obtain ⟨p, rfl⟩ : ∃ p, k = p + 1 := ⟨k - 1, by omega⟩
    rw [wm1 (by omega) (by omega), Nat.add_sub_cancel]
    refine rdN (by omega) hL (rdN ha hL (hY _ _ _ (cond_b (fun h3 => ?_) (fun h3 => ?_))))
    · rw [scanDown, if_pos (by simp only [Bool.and_eq_true, decide_eq_true_eq]; exact ⟨by omega, h3⟩)] at hk
      exact ⟨p, by omega, p, rfl, rfl, hk, by omega, rfl⟩
    · rw [scanDown, if_neg (by simp only [Bool.and_eq_true, decide_eq_true_eq]; rintro ⟨_, h4⟩; rw [ltf, h3] at h4; exact absurd h4 (by simp))] at hk
      rw [hk]; exact hQ
  · cases k with
    | zero => rw [scanDown] at hk; rw [← hk] at hQ; exact hQ
    | succ p =>
      rw [scanDown, if_neg (by simp only [Bool.and_eq_true, decide_eq_true_eq]; rintro ⟨h4, _⟩; omega)] at hk
      rw [hk]; exact hQ

theorem down2 (hY : Ord cf s Y) (hL : E.size = L) (hs : E.size ≤ 255) (ha : a < E.size) (hj : j < E.size) (hi : 1 ≤ i) (hQ : Q ((scanDown (fun x => ltf cf E[a]! x) E i j : Nat) : Int) s) :
    ∃ I : Nat → Int → σ → Prop, (∃ n, I n (j : Int) s) ∧ ∀ (n : Nat) (i8 : Int) (s3 : σ), I n i8 s3 → joinP2 (fun (t : Bool) (s4 : σ) => cond t (∃ n3, n3 < n ∧ I n3 (IntKind.wrap .i64 (i8 - 1)) s4) (Q i8 s4))
      (fun (Q1 : Bool → σ → Prop) => cond (decide ((i : Int) ≤ i8)) (0 ≤ (a : Int) ∧ (a : Int) < ((L : Nat) : Int) ∧ (∀ x, E.toList[Int.toNat (a : Int)]? = some x → (0 ≤ i8 ∧ i8 < ((L : Nat) : Int) ∧ (∀ y, E.toList[Int.toNat i8]? = some y → (Y x y s3 (fun (t : Int) (s5 : σ) => Q1 (decide ((t : Int) < 0)) s5)))))) (Q1 false s3)) := by
  obtain ⟨R, hR⟩ : ∃ R, scanDown (fun x => ltf cf E[a]! x) E i j = R := ⟨_, rfl⟩
  rw [hR] at hQ
  refine ⟨fun n i8 s' => ∃ k : Nat, i8 = k ∧ s = s' ∧ scanDown (fun x => ltf cf E[a]! x) E i k = R ∧ k ≤ j ∧ k = n, ⟨_, j, rfl, rfl, hR, Nat.le_refl _, rfl⟩, ?_⟩
  rintro n i8 s' ⟨k, rfl, rfl, hk, hk3, rfl⟩
  refine joinP2.i (cond_d (fun h => ?_) (fun h => ?_))
  · obtain ⟨p, rfl⟩ : ∃ p, k = p + 1 := ⟨k - 1, by omega⟩
    rw [wm1 (by omega) (by omega), Nat.add_sub_cancel]
    refine rdN ha hL (rdN (by omega) hL (hY _ _ _ (cond_b (fun h3 => ?_) (fun h3 => ?_))))
    · rw [scanDown, if_pos (by simp only [Bool.and_eq_true, decide_eq_true_eq]; exact ⟨by omega, h3⟩)] at hk
      exact ⟨p, by omega, p, rfl, rfl, hk, by omega, rfl⟩
    · rw [scanDown, if_neg (by simp only [Bool.and_eq_true, decide_eq_true_eq]; rintro ⟨_, h4⟩; rw [ltf_f h3] at h4; exact absurd h4 (by simp))] at hk
      rw [hk]; exact hQ
  · cases k with
    | zero => rw [scanDown] at hk; rw [← hk] at hQ; exact hQ
    | succ p =>
      rw [scanDown, if_neg (by simp only [Bool.and_eq_true, decide_eq_true_eq]; rintro ⟨h4, _⟩; omega)] at hk
      rw [hk]; exact hQ
end scans

theorem part_wp {σ : Type} {s : σ} {cf : ByteArray → ByteArray → Int} {Y : ByteArray → ByteArray → σ → (Int → σ → Prop) → Prop} (hY : Ord cf s Y) {D : Array ByteArray} {a b pivot : Nat} {K : Int → Bool → List ByteArray → σ → Prop}
    (hs : D.size ≤ 255) (hab : a + 1 < b) (hb : b ≤ D.size) (hp1 : a ≤ pivot) (hp2 : pivot < b) (hK : K ((partition (ltf cf) D a b pivot).1 : Nat) (partition (ltf cf) D a b pivot).2.1 (partition (ltf cf) D a b pivot).2.2.toList s) :
    slices_partitionCmpFunc_string_wp D.toList a b pivot s Y K := by
  unfold slices_partitionCmpFunc_string_wp
  have hL : D.size = D.toList.length := by simp
  refine rdN (by omega) hL (rdN (by omega) hL (wrN (by omega) (wrN (by omega) ?_)))
  rw [setsw]
  obtain ⟨E, hE⟩ : ∃ E, swp D a pivot = E := ⟨_, rfl⟩
  have hEs : E.size = D.size := by rw [← hE, size_swp]
  have hEL : E.size = D.toList.length := by rw [hEs, hL]
  rw [hE, wp1 (by omega), wm1 (by omega) (by omega)]
  obtain ⟨P, hP⟩ : ∃ P, partition (ltf cf) D a b pivot = P := ⟨_, rfl⟩
  rw [hP] at hK
  unfold partition at hP
  simp only [hE] at hP
  refine joinP2.i (up1 hY hEL (by omega) (by omega) (by omega) (by omega) ?_)
  have u1 := @scanUp_b (fun x => ltf cf x E[a]!) E (b - 1) (a + 1)
  revert hP u1
  generalize scanUp (fun x => ltf cf x E[a]!) E (b - 1) (a + 1) = i
  intro hP u1
  refine joinP2.i (down1 hY hEL (by omega) (by omega) (by omega) (by omega) ?_)
  have u2 := @scanDown_b (fun x => !ltf cf x E[a]!) E i (b - 1)
  revert hP u2
  generalize scanDown (fun x => !ltf cf x E[a]!) E i (b - 1) = j
  intro hP u2
  refine cond_d (fun h => ?_) (fun h => ?_)
  · rw [if_pos (by omega)] at hP
    refine rdN (by omega) hEL (rdN (by omega) hEL (wrN (by omega) (wrN (by omega) ?_)))
    rw [setsw]
    rw [← hP] at hK
    exact hK
  · rw [if_neg (by omega)] at hP
    refine rdN (by omega) hEL (rdN (by omega) hEL (wrN (by omega) (wrN (by omega) ?_)))
    rw [setsw, wp1 (by omega), wm1 (by omega) (by omega)]
    refine ⟨fun d m s' => ∃ (F : Array ByteArray) (k : Nat), d = F.toList ∧ m = k ∧ s = s' ∧ F.size = D.size ∧ k < b ∧ partLoop (ltf cf) a (i + 1) (j - 1) (swp E i j) = (k, F), ?_, ?_⟩
    · rintro d m s' ⟨F, k, rfl, rfl, rfl, hF, hk, he⟩
      have hFL : F.size = D.toList.length := by rw [hF, hL]
      refine rdN (by omega) hFL (rdN (by omega) hFL (wrN (by omega) (wrN (by omega) ?_)))
      rw [setsw]
      rw [← hP, he] at hK
      exact hK
    · refine ⟨fun n d i' j' s' => ∃ (F : Array ByteArray) (p q : Nat), d = F.toList ∧ i' = p ∧ j' = q ∧ s = s' ∧ F.size = D.size ∧ a + 1 ≤ p ∧ p ≤ 300 ∧ q < b ∧ partLoop (ltf cf) a p q F = partLoop (ltf cf) a (i + 1) (j - 1) (swp E i j) ∧ n = q + 1 - p, ⟨_, _, i + 1, j - 1, rfl, rfl, rfl, rfl, by rw [size_swp, hEs], by omega, by omega, by omega, rfl, rfl⟩, ?_⟩
      rintro n d i' j' s' ⟨F, p, q, rfl, rfl, rfl, rfl, hF, hp, hp3, hq, he, rfl⟩
      have hFL : F.size = D.toList.length := by rw [hF, hL]
      rw [partLoop] at he
      refine joinP2.i (up1 hY hFL (by omega) (by omega) (by omega) (by omega) ?_)
      have v1 := @scanUp_b (fun x => ltf cf x F[a]!) F q p
      revert he v1
      generalize scanUp (fun x => ltf cf x F[a]!) F q p = i2
      intro he v1
      refine joinP2.i (down1 hY hFL (by omega) (by omega) (by omega) (by omega) ?_)
      have v2 := @scanDown_b (fun x => !ltf cf x F[a]!) F i2 q
      revert he v2
      generalize scanDown (fun x => !ltf cf x F[a]!) F i2 q = j2
      intro he v2
      refine cond_d (fun h2 => ?_) (fun h2 => ?_)
      · rw [if_pos (by omega)] at he
        exact ⟨F, j2, rfl, rfl, rfl, hF, by omega, he.symm⟩
      · rw [if_neg (by omega), dif_pos (by omega)] at he
        refine rdN (by omega) hFL (rdN (by omega) hFL (wrN (by omega) (wrN (by omega) ?_)))
        rw [setsw, wp1 (by omega), wm1 (by omega) (by omega)]
        exact ⟨_, by omega, _, i2 + 1, j2 - 1, rfl, rfl, rfl, rfl, by rw [size_swp, hF], by omega, by omega, by omega, he, rfl⟩

theorem partE_wp {σ : Type} {s : σ} {cf : ByteArray → ByteArray → Int} {Y : ByteArray → ByteArray → σ → (Int → σ → Prop) → Prop} (hY : Ord cf s Y) {D : Array ByteArray} {a b pivot : Nat} {K : Int → List ByteArray → σ → Prop}
    (hs : D.size ≤ 255) (hab : a + 1 < b) (hb : b ≤ D.size) (hp1 : a ≤ pivot) (hp2 : pivot < b) (hK : K ((partitionEqual (ltf cf) D a b pivot).1 : Nat) (partitionEqual (ltf cf) D a b pivot).2.toList s) :
    slices_partitionEqualCmpFunc_string_wp D.toList a b pivot s Y K := by
  unfold slices_partitionEqualCmpFunc_string_wp
  have hL : D.size = D.toList.length := by simp
  refine rdN (by omega) hL (rdN (by omega) hL (wrN (by omega) (wrN (by omega) ?_)))
  rw [setsw]
  unfold partitionEqual at hK
  rw [wp1 (by omega), wm1 (by omega) (by omega)]
  refine ⟨fun n d i' j' s' => ∃ (F : Array ByteArray) (p q : Nat), d = F.toList ∧ i' = p ∧ j' = q ∧ s = s' ∧ F.size = D.size ∧ a + 1 ≤ p ∧ p ≤ 300 ∧ q < b ∧ partEqLoop (ltf cf) a p q F = partEqLoop (ltf cf) a (a + 1) (b - 1) (swp D a pivot) ∧ n = q + 1 - p, ⟨_, _, a + 1, b - 1, rfl, rfl, rfl, rfl, by rw [size_swp], by omega, by omega, by omega, rfl, rfl⟩, ?_⟩
  rintro n d i' j' s' ⟨F, p, q, rfl, rfl, rfl, rfl, hF, hp, hp3, hq, he, rfl⟩
  have hFL : F.size = D.toList.length := by rw [hF, hL]
  rw [partEqLoop] at he
  refine joinP2.i (up2 hY hFL (by omega) (by omega) (by omega) (by omega) ?_)
  have v1 := @scanUp_b (fun x => !ltf cf F[a]! x) F q p
  revert he v1
  generalize scanUp (fun x => !ltf cf F[a]! x) F q p = i2
  intro he v1
  refine joinP2.i (down2 hY hFL (by omega) (by omega) (by omega) (by omega) ?_)
  have v2 := @scanDown_b (fun x => ltf cf F[a]! x) F i2 q
  revert he v2
  generalize scanDown (fun x => ltf cf F[a]! x) F i2 q = j2
  intro he v2
  refine cond_d (fun h2 => ?_) (fun h2 => ?_)
  · rw [if_pos (by omega)] at he
    rw [← he] at hK
    exact hK
  · rw [if_neg (by omega), dif_pos (by omega)] at he
    refine rdN (by omega) hFL (rdN (by omega) hFL (wrN (by omega) (wrN (by omega) ?_)))
    rw [setsw, wp1 (by omega), wm1 (by omega) (by omega)]
    exact ⟨_, by omega, _, i2 + 1, j2 - 1, rfl, rfl, rfl, rfl, by rw [size_swp, hF], by omega, by omega, by omega, he, rfl⟩

end Go.Proofs.Ytdonkmbhlankiaa
