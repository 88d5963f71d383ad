/- The sort of slices, its last functions and the whole. -/
import Derived.Test.YtdonkmbhlankiaaP
namespace Go.Proofs.Ytdonkmbhlankiaa
open Go Go.Eng Go.Proofs Go.Sort
set_option maxRecDepth 20000
set_option maxHeartbeats 2000000

theorem scanSorted_b {lt : ByteArray → ByteArray → Bool} {d : Array ByteArray} {b i : Nat} : i ≤ scanSorted lt d b i ∧ (scanSorted lt d b i ≤ b ∨ scanSorted lt d b i = i) := by
  fun_induction scanSorted lt d b i with
  | case1 i h ih =>
    simp only [Bool.and_eq_true, decide_eq_true_eq] at h
    omega
  | case2 i h => omega

theorem shiftDown_size {lt : ByteArray → ByteArray → Bool} : ∀ (j : Nat) (d : Array ByteArray), (shiftDown lt j d).size = d.size
  | 0, d => rfl
  | j + 1, d => by
    rw [shiftDown]
    split
    · rfl
    · rw [shiftDown_size, size_swp]

theorem pins_wp {σ : Type} {s : σ} {cf : ByteArray → ByteArray → Int} {Y : ByteArray → ByteArray → σ → (Int → σ → Prop) → Prop} (hY : Ord cf s Y) {D : Array ByteArray} {a b : Nat} {K : Bool → List ByteArray → σ → Prop}
    (hs : D.size ≤ 255) (hab : a < b) (hb : b ≤ D.size) (hK : K (partialInsertionSort (ltf cf) D a b).2 (partialInsertionSort (ltf cf) D a b).1.toList s) :
    slices_partialInsertionSortCmpFunc_string_wp D.toList a b s Y K := by
  unfold slices_partialInsertionSortCmpFunc_string_wp
  have hL : D.size = D.toList.length := by simp
  obtain ⟨R, hR⟩ : ∃ R, partialInsertionSort (ltf cf) D a b = R := ⟨_, rfl⟩
  rw [hR] at hK
  unfold partialInsertionSort at hR
  refine ⟨fun n d i j s' => ∃ (E : Array ByteArray) (k m : Nat), d = E.toList ∧ i = k ∧ j = m ∧ s = s' ∧ E.size = D.size ∧ partialIns (ltf cf) a b (5 - m) k E = R ∧ a + 1 ≤ k ∧ k ≤ b ∧ m ≤ 5 ∧ n = 5 - m, ⟨_, D, a + 1, 0, rfl, wp1 (by omega), rfl, rfl, rfl, hR, by omega, by omega, by omega, rfl⟩, ?_⟩
  rintro n d i j s' ⟨E, k, m, rfl, rfl, rfl, rfl, hE, he, hk, hkb, hm, rfl⟩
  have hEL : E.size = D.toList.length := by rw [hE, hL]
  rw [wp1 (by omega), wsub (by omega) (by omega)]
  refine cond_d (fun h5 => ?_) (fun h5 => ?_)
  · obtain ⟨r, hr⟩ : ∃ r, 5 - m = r + 1 := ⟨4 - m, by omega⟩
    rw [hr, partialIns] at he
    have nb := @scanSorted_b (ltf cf) E b k
    revert he nb
    obtain ⟨q, hq⟩ : ∃ q, scanSorted (ltf cf) E b k = q := ⟨_, rfl⟩
    rw [hq]
    intro he nb
    refine ⟨fun i s' => i = (q : Int) ∧ s = s', ?_, ?_⟩
    · rintro i s' ⟨rfl, rfl⟩
      rw [wm1 (by omega) (by omega), wsub (by omega) (by omega), wsub (by omega) (by omega)]
      refine cond_e (fun hb2 => ?_) (fun hb2 => ?_)
      · rw [if_pos (by omega)] at he
        rw [← he] at hK
        exact hK
      · rw [if_neg (by omega)] at he
        refine cond_d (fun h50 => ?_) (fun h50 => ?_)
        · rw [if_pos (by omega)] at he
          rw [← he] at hK
          exact hK
        · rw [if_neg (by omega)] at he
          refine rdN (by omega) hEL (rdN (by omega) hEL (wrN (by omega) (wrN (by omega) ?_)))
          rw [setsw]
          dsimp only at he
          refine ⟨fun d s' => ∃ F : Array ByteArray, d = F.toList ∧ s = s' ∧ F.size = D.size ∧ (if q - a ≥ 2 then shiftDown (ltf cf) (q - 1) (swp E q (q - 1)) else swp E q (q - 1)) = F, ?_, ?_⟩
          · rintro d s' ⟨F, rfl, rfl, hF, hf⟩
            rw [hf] at he
            have hFL : F.size = D.toList.length := by rw [hF, hL]
            have next : ∀ G : Array ByteArray, G.size = D.size → partialIns (ltf cf) a b r q G = R → ∃ n_10, n_10 < 5 - m ∧ ∃ (E : Array ByteArray) (k m_1 : Nat), G.toList = E.toList ∧ (q : Int) = k ∧ ((m + 1 : Nat) : Int) = m_1 ∧ s = s ∧ E.size = D.size ∧ partialIns (ltf cf) a b (5 - m_1) k E = R ∧ a + 1 ≤ k ∧ k ≤ b ∧ m_1 ≤ 5 ∧ n_10 = 5 - m_1 :=
              fun G hG hg => ⟨r, by omega, G, q, m + 1, rfl, rfl, rfl, rfl, hG, by rw [show 5 - (m + 1) = r by omega]; exact hg, by omega, by omega, by omega, by omega⟩
            refine cond_d (fun h2 => ?_) (fun h2 => ?_)
            · rw [if_pos (by omega)] at he
              rw [wp1 (by omega)]
              refine ⟨fun n d j s' => ∃ (G : Array ByteArray) (p : Nat), d = G.toList ∧ j = p ∧ s = s' ∧ G.size = D.size ∧ shiftUp (ltf cf) b p G = shiftUp (ltf cf) b (q + 1) F ∧ 1 ≤ p ∧ p ≤ 300 ∧ n = b - p, ⟨_, F, q + 1, rfl, rfl, rfl, hF, rfl, by omega, by omega, rfl⟩, ?_⟩
              rintro n d j s' ⟨G, p, rfl, rfl, rfl, hG, hg, hp, hp3, rfl⟩
              have hGL : G.size = D.toList.length := by rw [hG, hL]
              rw [wm1 (by omega) (by omega), wp1 (by omega)]
              rw [shiftUp] at hg
              refine cond_d (fun h3 => ?_) (fun h3 => ?_)
              · rw [if_pos (by omega)] at hg
                refine rdN (by omega) hGL (rdN (by omega) hGL (hY _ _ _ (cond_b (fun h4 => ?_) (fun h4 => ?_))))
                · rw [if_pos (by exact h4)] at hg
                  exact next G hG (by rw [hg]; exact he)
                · rw [if_neg (by rw [ltf, h4]; simp)] at hg
                  refine rdN (by omega) hGL (rdN (by omega) hGL (wrN (by omega) (wrN (by omega) ?_)))
                  rw [setsw]
                  exact ⟨b - (p + 1), by omega, _, p + 1, rfl, rfl, rfl, by rw [size_swp, hG], hg, by omega, by omega, rfl⟩
              · rw [if_neg (by omega)] at hg
                exact next G hG (by rw [hg]; exact he)
            · rw [if_neg (by omega)] at he
              exact next F hF he
          · refine cond_d (fun h2 => ?_) (fun h2 => ?_)
            · refine ⟨fun n d j s' => ∃ (G : Array ByteArray) (p : Nat), d = G.toList ∧ j = p ∧ s = s' ∧ G.size = D.size ∧ shiftDown (ltf cf) p G = shiftDown (ltf cf) (q - 1) (swp E q (q - 1)) ∧ p < b ∧ p = n, ⟨_, _, q - 1, rfl, rfl, rfl, by rw [size_swp, hE], rfl, by omega, rfl⟩, ?_⟩
              rintro n d j s' ⟨G, p, rfl, rfl, rfl, hG, hg, hp, rfl⟩
              have hGL : G.size = D.toList.length := by rw [hG, hL]
              have fin : shiftDown (ltf cf) p G = G → ∃ F : Array ByteArray, G.toList = F.toList ∧ s = s ∧ F.size = D.size ∧ (if q - a ≥ 2 then shiftDown (ltf cf) (q - 1) (swp E q (q - 1)) else swp E q (q - 1)) = F :=
                fun hz => ⟨G, rfl, rfl, hG, by rw [if_pos (by omega), ← hg, hz]⟩
              refine cond_d (fun h3 => ?_) (fun h3 => ?_)
              · obtain ⟨u, rfl⟩ : ∃ u, p = u + 1 := ⟨p - 1, by omega⟩
                rw [wm1 (by omega) (by omega), Nat.add_sub_cancel]
                refine rdN (by omega) hGL (rdN (by omega) hGL (hY _ _ _ (cond_b (fun h4 => ?_) (fun h4 => ?_))))
                · exact fin (by rw [shiftDown, if_pos (by exact h4)])
                · rw [shiftDown, if_neg (by rw [ltf, h4]; simp)] at hg
                  refine rdN (by omega) hGL (rdN (by omega) hGL (wrN (by omega) (wrN (by omega) ?_)))
                  rw [setsw]
                  exact ⟨u, by omega, _, u, rfl, rfl, rfl, by rw [size_swp, hG], hg, by omega, rfl⟩
              · have hp0 : p = 0 := by omega
                subst hp0
                exact fin rfl
            · exact ⟨_, rfl, rfl, by rw [size_swp, hE], if_neg (by omega)⟩
    · refine ⟨fun n i s' => ∃ p : Nat, i = p ∧ s = s' ∧ scanSorted (ltf cf) E b p = q ∧ a + 1 ≤ p ∧ p ≤ b ∧ n = b - p, ⟨_, k, rfl, rfl, hq, hk, hkb, rfl⟩, ?_⟩
      rintro n i s' ⟨p, rfl, rfl, hp, hp1, hp2, rfl⟩
      rw [scanSorted] at hp
      rw [wm1 (by omega) (by omega), wp1 (by omega)]
      refine joinP2.i (cond_d (fun h => ?_) (fun h => ?_))
      · refine rdN (by omega) hEL (rdN (by omega) hEL (hY _ _ _ (cond_b (fun h4 => ?_) (fun h4 => ?_))))
        · rw [if_pos (by simp only [Bool.and_eq_true, decide_eq_true_eq]; exact ⟨by omega, h4⟩)] at hp
          exact ⟨b - (p + 1), by omega, p + 1, rfl, rfl, hp, by omega, by omega, rfl⟩
        · rw [if_neg (by simp only [Bool.and_eq_true, decide_eq_true_eq]; rintro ⟨_, h5⟩; rw [ltf, h4] at h5; exact absurd h5 (by simp))] at hp
          exact ⟨by rw [hp], rfl⟩
      · rw [if_neg (by simp only [Bool.and_eq_true, decide_eq_true_eq]; rintro ⟨h5, _⟩; omega)] at hp
        exact ⟨by rw [hp], rfl⟩
  · have hm5 : m = 5 := by omega
    subst hm5
    rw [partialIns] at he
    rw [← he] at hK
    exact hK

theorem lenTab {l : List UInt8} (hl : l.map UInt8.toNat = (List.range 256).map bitsLen) {n : Nat} (hn : n < 256) {v : Int} (hv : v = n) {K : Int → Prop} (h : K ((bitsLen n : Nat) : Int)) :
    ∃ b : UInt8, 0 ≤ ((IntKind.wrap .u8 v) : Int) ∧ (ByteArray.mk l.toArray)[Int.toNat (IntKind.wrap .u8 v)]? = some b ∧ K (IntKind.wrap .i64 (0 + (IntKind.wrap .i64 ((b.toNat : Nat) : Int)))) := by
  subst hv
  rw [wrap_u8 (by omega) (by omega), Int.toNat_natCast]
  have hlen : l.length = 256 := by have := congrArg List.length hl; simpa using this
  have hs : n < (ByteArray.mk l.toArray).size := by show n < l.toArray.size; simp [hlen]; omega
  refine ⟨_, by omega, getElem?_pos (ByteArray.mk l.toArray) n hs, ?_⟩
  have e : ((ByteArray.mk l.toArray)[n]'hs).toNat = bitsLen n := by
    show (l.toArray[n]'hs).toNat = _
    have h2 := congrArg (fun x : List Nat => x[n]?) hl
    simp only [List.getElem?_map, List.getElem?_range hn, Option.map_some] at h2
    rw [List.getElem?_eq_getElem (by omega), Option.map_some] at h2
    simpa using h2
  rw [e]
  have hb : bitsLen n ≤ 8 := (bitsLen_le_iff n 8).2 (by simpa using hn)
  rw [wrap_i64 (x := ((bitsLen n : Nat) : Int)) (by omega) (by omega), Int.zero_add, wrap_i64 (by omega) (by omega)]
  exact h

theorem len_wp {n : Nat} (hn : n < 256) {K : Int → Prop} (h : K ((bitsLen n : Nat) : Int)) : math_bits_Len_wp n K := by
  unfold math_bits_Len_wp math_bits_Len64_wp
  refine joinP2.i (cond_d (fun h2 => absurd h2 (by omega)) (fun _ => joinP2.i (cond_d (fun h2 => absurd h2 (by omega)) (fun _ => joinP2.i (cond_d (fun h2 => absurd h2 (by omega)) (fun _ => ?_))))))
  exact lenTab (by kernel_rfl) hn rfl h

theorem and_b {x : Int} {M : Nat} (h : M ≤ 1000) : ∃ o : Nat, bitsV .and .u64 x (M : Int) = o ∧ o ≤ M := by
  refine ⟨(BitVec.ofInt 64 x &&& BitVec.ofInt 64 (M : Int)).toNat, ?_, ?_⟩
  · have h2 : (BitVec.ofInt 64 x &&& BitVec.ofInt 64 (M : Int)).toNat < 2 ^ 64 := (BitVec.ofInt 64 x &&& BitVec.ofInt 64 (M : Int)).isLt
    show IntKind.wrap .u64 (((BitVec.ofInt 64 x &&& BitVec.ofInt 64 (M : Int)).toNat : Nat) : Int) = _
    exact wrap_u64 (by omega) (by omega)
  · rw [BitVec.toNat_and]
    refine Nat.le_trans Nat.and_le_right ?_
    rw [BitVec.ofInt_natCast, BitVec.toNat_ofNat]
    exact Nat.mod_le _ _

theorem bp_wp {σ : Type} {s : σ} {Y : ByteArray → ByteArray → σ → (Int → σ → Prop) → Prop} {D : Array ByteArray} {a b : Nat} {K : List ByteArray → Prop}
    (hs : D.size ≤ 255) (hab : a ≤ b) (hb : b ≤ D.size) (hK : ∀ E, PermIn a b D E → K E.toList) : slices_breakPatternsCmpFunc_string_wp D.toList a b s Y K := by
  unfold slices_breakPatternsCmpFunc_string_wp
  have hL : D.size = D.toList.length := by simp
  rw [wsub hab (by omega)]
  refine cond_d (fun h8 => ?_) (fun _ => hK D (permIn_refl D a b))
  unfold slices_nextPowerOfTwo_wp
  rw [wrap_u64 (by omega) (by omega)]
  have hbl : bitsLen (b - a) ≤ 8 := (bitsLen_le_iff (b - a) 8).2 (by show b - a < 256; omega)
  have hM := two_pow_bitsLen_le (n := b - a) (by omega)
  have hM0 : 0 < 2 ^ bitsLen (b - a) := Nat.two_pow_pos _
  refine len_wp (by omega) ⟨by omega, ?_⟩
  rw [Int.toNat_natCast, show min (bitsLen (b - a)) (IntKind.bits .u64) = bitsLen (b - a) from Nat.min_eq_left (by show bitsLen (b - a) ≤ 64; omega)]
  rw [show (1 : Int) * 2 ^ bitsLen (b - a) = ((2 ^ bitsLen (b - a) : Nat) : Int) by rw [Int.one_mul]; norm_cast]
  obtain ⟨M, hMe⟩ : ∃ M, 2 ^ bitsLen (b - a) = M := ⟨_, rfl⟩
  rw [hMe] at hM hM0 ⊢
  rw [wrap_u64 (x := (M : Int)) (by omega) (by omega), wrap_u64 (x := (M : Int) - 1) (by omega) (by omega), show (M : Int) - 1 = ((M - 1 : Nat) : Int) by omega]
  have e2 : IntKind.wrap .i64 ((a : Int) + IntKind.wrap .i64 (IntKind.wrap .i64 (Int.tdiv ((b - a : Nat) : Int) 4) * 2)) = ((a + (b - a) / 4 * 2 : Nat) : Int) := by
    rw [Int.tdiv_eq_ediv_of_nonneg (by omega), wrap_i64 (x := ((b - a : Nat) : Int) / 4) (by omega) (by omega)]
    have e : ((b - a : Nat) : Int) / 4 * 2 = (((b - a) / 4 * 2 : Nat) : Int) := by omega
    rw [e, wrap_i64 (x := (((b - a) / 4 * 2 : Nat) : Int)) (by omega) (by omega), wadd (by omega)]
  simp only [e2]
  rw [wm1 (by omega) (by omega), wp1 (by omega)]
  refine ⟨fun n _ d i => ∃ (E : Array ByteArray) (k : Nat), d = E.toList ∧ i = k ∧ PermIn a b D E ∧ a + (b - a) / 4 * 2 - 1 ≤ k ∧ k ≤ a + (b - a) / 4 * 2 + 2 ∧ n = a + (b - a) / 4 * 2 + 2 - k, ⟨_, D, _, rfl, rfl, permIn_refl D a b, by omega, by omega, rfl⟩, ?_⟩
  rintro n x d i ⟨E, k, rfl, rfl, hE, h1, h2, rfl⟩
  have hEL : E.size = D.toList.length := by rw [hE.1, hL]
  refine cond_d (fun h3 => ?_) (fun _ => hK E hE)
  unfold slices_xorshift_Next_wp
  dsimp only
  generalize bitsV .xor .u64 _ _ = V
  obtain ⟨o, ho, ho2⟩ := @and_b V (M - 1) (by omega)
  rw [ho, wrap_i64 (x := (o : Int)) (by omega) (by omega)]
  refine ⟨fun u => ∃ q : Nat, u = q ∧ q < b - a, ?_, ?_⟩
  · rintro u ⟨q, rfl, hq⟩
    rw [wadd (by omega), wp1 (by omega)]
    refine rdN (by omega) hEL (rdN (by omega) hEL (wrN (by omega) (wrN (by omega) ?_)))
    rw [setsw]
    exact ⟨a + (b - a) / 4 * 2 + 2 - (k + 1), by omega, _, k + 1, rfl, rfl, permIn_trans _ _ _ a b hE (swp_permIn E a b k (a + q) (by omega) (by omega) (by omega) (by omega) (by omega)), by omega, by omega, rfl⟩
  · refine cond_d (fun h4 => ⟨o - (b - a), wsub (by omega) (by omega), by omega⟩) (fun h4 => ⟨o, rfl, by omega⟩)

theorem partK_wp {σ : Type} {s : σ} {cf : ByteArray → ByteArray → Int} {Y : ByteArray → ByteArray → σ → (Int → σ → Prop) → Prop} (hY : Ord cf s Y) {D : Array ByteArray} {a b pivot : Nat} {K : Int → Bool → List ByteArray → σ → Prop}
    (hs : D.size ≤ 255) (hab : a + 1 < b) (hb : b ≤ D.size) (hp1 : a ≤ pivot) (hp2 : pivot < b) (hK : ∀ (mid : Nat) (ap : Bool) (d4 : Array ByteArray), partition (ltf cf) D a b pivot = (mid, ap, d4) → K (mid : Int) ap d4.toList s) :
    slices_partitionCmpFunc_string_wp D.toList a b pivot s Y K := part_wp hY hs hab hb hp1 hp2 (hK _ _ _ rfl)

theorem partEK_wp {σ : Type} {s : σ} {cf : ByteArray → ByteArray → Int} {Y : ByteArray → ByteArray → σ → (Int → σ → Prop) → Prop} (hY : Ord cf s Y) {D : Array ByteArray} {a b pivot : Nat} {K : Int → List ByteArray → σ → Prop}
    (hs : D.size ≤ 255) (hab : a + 1 < b) (hb : b ≤ D.size) (hp1 : a ≤ pivot) (hp2 : pivot < b) (hK : ∀ (mid : Nat) (d4 : Array ByteArray), partitionEqual (ltf cf) D a b pivot = (mid, d4) → K (mid : Int) d4.toList s) :
    slices_partitionEqualCmpFunc_string_wp D.toList a b pivot s Y K := partE_wp hY hs hab hb hp1 hp2 (hK _ _ rfl)

theorem pdq_wp {σ : Type} {s : σ} {cf : ByteArray → ByteArray → Int} {Y : ByteArray → ByteArray → σ → (Int → σ → Prop) → Prop} (hY : Ord cf s Y) (ho : SWO (ltf cf)) {D : Array ByteArray} {a b : Nat} {lim : Int} {K : List ByteArray → σ → Prop}
    (hs : D.size ≤ 255) (hab : a ≤ b) (hb : b ≤ D.size) (hB : Below (ltf cf) a b D) (hK : ∀ E, PermIn a b D E → SortedIn (ltf cf) a b E → K E.toList s) : slices_pdqsortCmpFunc_string_wp D.toList a b lim s Y K := by
  unfold slices_pdqsortCmpFunc_string_wp
  refine ⟨fun n d x y _ s' K' => ∃ (E : Array ByteArray) (p q : Nat), d = E.toList ∧ x = p ∧ y = q ∧ s = s' ∧ E.size ≤ 255 ∧ p ≤ q ∧ q ≤ E.size ∧ Below (ltf cf) p q E ∧ (∀ F, PermIn p q E F → SortedIn (ltf cf) p q F → K' F.toList s) ∧ n = q - p, ⟨_, D, a, b, rfl, rfl, rfl, rfl, hs, hab, hb, hB, hK, rfl⟩, ?_⟩
  rintro n d x y lim s' K' ⟨E0, p0, q0, rfl, rfl, rfl, rfl, hs0, hpq0, hq0, hB0, hK0, rfl⟩
  refine ⟨fun n d x y _ _ _ s' => ∃ (E : Array ByteArray) (p q : Nat), d = E.toList ∧ x = p ∧ y = q ∧ s = s' ∧ E.size = E0.size ∧ p ≤ q ∧ q ≤ E.size ∧ Below (ltf cf) p q E ∧ (∀ F, PermIn p q E F → SortedIn (ltf cf) p q F → K' F.toList s) ∧ q - p ≤ q0 - p0 ∧ n = q - p, ⟨_, E0, p0, q0, rfl, rfl, rfl, rfl, rfl, hpq0, hq0, hB0, hK0, Nat.le_refl _, rfl⟩, ?_⟩
  rintro n d x y lim wb wp s' ⟨E, p, q, rfl, rfl, rfl, rfl, hE0, hpq, hq, hB, hK, hle, rfl⟩
  have hEL : E.size = E0.toList.length := by simpa using hE0
  simp only [wsub hpq (show q ≤ 1000000 by omega)]
  refine cond_d (fun h12 => ?_) (fun h12 => ?_)
  · obtain ⟨r1, r2⟩ := insertionSort_holds ho E p q hpq hq
    exact ins_wp hY (by omega) (by omega) hq (hK _ r1 r2)
  refine cond_e (fun _ => ?_) (fun _ => ?_)
  · obtain ⟨r1, r2⟩ := heapSort_holds ho E p q hpq hq
    exact heap_wp hY (by omega) hpq hq (hK _ r1 r2)
  refine ⟨fun d _ => ∃ F : Array ByteArray, d = F.toList ∧ PermIn p q E F, ?_, ?_⟩
  · rintro d lim1 ⟨F, rfl, hF⟩
    refine pivot_wp hY (by rw [hF.1]; omega) (by omega) (by rw [hF.1]; exact hq) fun r w hr1 hr2 => ?_
    refine ⟨fun d x _ => ∃ (G : Array ByteArray) (pv : Nat), d = G.toList ∧ x = pv ∧ PermIn p q E G ∧ p ≤ pv ∧ pv < q, ?_, ?_⟩
    · rintro d x w2 ⟨G, pv, rfl, rfl, hG, hp1, hp2⟩
      have hGs : G.size = E.size := hG.1
      have hBG : Below (ltf cf) p q G := hB.perm hq hG
      refine ⟨fun d s' => ∃ H : Array ByteArray, d = H.toList ∧ s = s' ∧ PermIn p q E H, ?_, ?_⟩
      · rintro d s' ⟨H, rfl, rfl, hH⟩
        have hHs : H.size = E.size := hH.1
        have hBH : Below (ltf cf) p q H := hB.perm hq hH
        have hHL : H.size = E0.toList.length := by rw [hHs, hEL]
        refine ⟨fun s' => s = s', ?_, ?_⟩
        · rintro s' rfl
          refine partK_wp hY (by omega) (by omega) (by omega) hp1 hp2 fun mid ap d4 hx => ?_
          obtain ⟨g1, g2, g3, g4, g5, g6, g7⟩ := round_part ho (partition_holds _) hp1 hp2 (by omega) hBH hx
          rw [wsub g1 (by omega), wsub (by omega) (by omega), wp1 (by omega)]
          refine cond_d (fun _ => ?_) (fun _ => ?_)
          · refine ⟨mid - p, by omega, d4, p, mid, rfl, rfl, rfl, rfl, by omega, g1, by omega, g4, fun F hF1 hF2 => ?_, rfl⟩
            obtain ⟨k1, k2⟩ := g6 F hF1 hF2
            exact ⟨q - (mid + 1), by omega, F, mid + 1, q, rfl, rfl, rfl, trivial, by rw [hF1.1]; omega, by omega, by rw [hF1.1]; omega, k1, fun R hR1 hR2 => hK R (permIn_trans _ _ _ p q hH (k2 R hR1 hR2).1) (k2 R hR1 hR2).2, by omega, rfl⟩
          · refine ⟨q - (mid + 1), by omega, d4, mid + 1, q, rfl, rfl, rfl, rfl, by omega, by omega, by omega, g5, fun F hF1 hF2 => ?_, rfl⟩
            obtain ⟨k1, k2⟩ := g7 F hF1 hF2
            exact ⟨mid - p, by omega, F, p, mid, rfl, rfl, rfl, trivial, by rw [hF1.1]; omega, by omega, by rw [hF1.1]; omega, k1, fun R hR1 hR2 => hK R (permIn_trans _ _ _ p q hH (k2 R hR1 hR2).1) (k2 R hR1 hR2).2, by omega, rfl⟩
        · refine ⟨fun t s' => s = s' ∧ (t = true → 0 < p ∧ ltf cf H[p - 1]! H[pv]! = false), ?_, ?_⟩
          · rintro t s' ⟨rfl, ht⟩
            refine cond_b (fun h => ?_) (fun _ => rfl)
            obtain ⟨h0, hnl⟩ := ht h
            refine partEK_wp hY (by omega) (by omega) (by omega) hp1 hp2 fun mid d4 hx => ?_
            obtain ⟨g1, g2, g3, g4, g5⟩ := round_eq ho (partitionEqual_holds _) h0 hp1 hp2 (by omega) hBH hnl hx
            exact ⟨q - mid, by omega, d4, mid, q, rfl, rfl, rfl, rfl, by omega, by omega, by omega, g4, fun R hR1 hR2 => hK R (permIn_trans _ _ _ p q hH (g5 R hR1 hR2).1) (g5 R hR1 hR2).2, by omega, rfl⟩
          · refine cond_d (fun h0 => ?_) (fun _ => ⟨rfl, fun h => absurd h (by simp)⟩)
            rw [wm1 (by omega) (by omega)]
            refine rdN (by omega) hHL (rdN (by omega) hHL (hY _ _ _ ⟨rfl, fun h => ⟨by omega, ?_⟩⟩))
            simp only [Bool.not_eq_true'] at h
            exact h
      · refine ⟨fun _ => True, ?_, ?_⟩
        · rintro t -
          refine cond_b (fun _ => ?_) (fun _ => ⟨G, rfl, rfl, hG⟩)
          obtain ⟨r1, r2⟩ := partialInsertionSort_holds ho G p q (by omega) (by omega) hBG
          refine pins_wp hY (by omega) (by omega) (by omega) ?_
          refine cond_b (fun h => hK _ (permIn_trans _ _ _ p q hG r1) (r2 h)) (fun _ => ⟨_, rfl, rfl, permIn_trans _ _ _ p q hG r1⟩)
        · exact cond_b (fun _ => cond_b (fun _ => trivial) (fun _ => trivial)) (fun _ => trivial)
    · refine cond_e (fun _ => ?_) (fun _ => ⟨F, r, rfl, rfl, hF, hr1, hr2⟩)
      refine rev_wp (by rw [hF.1]; omega) (by omega) (by rw [hF.1]; exact hq) ?_
      rw [wm1 (by omega) (by omega), wsub hr1 (by omega), wsub (by omega) (by omega)]
      exact ⟨_, _, rfl, rfl, permIn_trans _ _ _ p q hF (reverseRange_holds F p q hpq (by rw [hF.1]; exact hq)), by omega, by omega⟩
  · refine cond_b (fun _ => bp_wp (by omega) hpq hq fun F hF => ⟨F, rfl, hF⟩) (fun _ => ⟨E, rfl, permIn_refl E p q⟩)

theorem sortFunc_wp {σ : Type} {s : σ} {cf : ByteArray → ByteArray → Int} {Y : ByteArray → ByteArray → σ → (Int → σ → Prop) → Prop} (hY : Ord cf s Y) (ho : SWO (ltf cf)) {xs : List ByteArray} {K : List ByteArray → σ → Prop}
    (hs : xs.length ≤ 255) (hK : ∀ ys, ys.Perm xs → ys.Pairwise (fun x y => ltf cf y x = false) → K ys s) : slices_SortFunc_sl_string_string_wp xs s Y K := by
  unfold slices_SortFunc_sl_string_string_wp
  rw [wrap_u64 (by omega) (by omega)]
  refine len_wp (by omega) (pdq_wp (D := xs.toArray) (a := 0) hY ho (by simpa using hs) (Nat.zero_le _) (by simp) (Or.inl rfl) fun E hP hS => hK _ ?_ ?_)
  · have h := hP.2.2
    have hz : E.size = xs.length := by rw [hP.1]; simp
    rw [← hz] at h
    have ht : E.toList.take xs.length = E.toList := List.take_of_length_le (by simp [hz])
    simpa [hz, ht] using h
  · have hz : E.size = xs.length := by rw [hP.1]; simp
    rw [List.pairwise_iff_getElem]
    intro i j hi hj hij
    have hi' : i < E.size := by simpa using hi
    have hj' : j < E.size := by simpa using hj
    have := hS i j (Nat.zero_le _) hij (by omega)
    rw [getElem!_pos E i hi', getElem!_pos E j hj'] at this
    simpa using this

end Go.Proofs.Ytdonkmbhlankiaa
