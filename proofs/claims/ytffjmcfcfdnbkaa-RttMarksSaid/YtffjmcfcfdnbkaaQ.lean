/- The plain side of the statements on rtt: like samples, waits. -/
import Derived.Test.YtffjmcfcfdnbkaaP
namespace Go.Proofs.Ytffjmcfcfdnbkaa
open Go Go.Eng

theorem rttSame_plain {s many : Int} (hs : Eng.inK .u16 s) (hm : Eng.inK .u8 many) : embrasurelaw26_RttSame_wp s many (· = true) := by
  have hs : 0 ≤ s ∧ s ≤ 65535 := hs
  have hm : 0 ≤ many ∧ many ≤ 255 := hm
  unfold embrasurelaw26_RttSame_wp
  refine awake_wp (cond_f rfl ?_)
  unfold rtt_New_wp
  rw [wrap_i64 (x := s) (by omega) (by omega), wrap_i64 (x := many) (by omega) (by omega), tmod_pos hs.1, tmod_pos hm.1]
  generalize hk : s % 10001 = k
  generalize hM : many % 200 = M
  have hk0 : 0 ≤ k ∧ k ≤ 10000 := by omega
  have hM0 : 0 ≤ M ∧ M < 200 := by omega
  rw [wrap_i64 (x := 1 + M) (by omega) (by omega), wrap_i64 (x := 100 + k) (by omega) (by omega)]
  refine ⟨fun n marks mean dev any last i => n = 300 - i.toNat ∧ 0 ≤ i ∧ i ≤ 200 ∧ marks = [] ∧
    (any = false ∧ mean = 0 ∧ last = 20000 ∨ any = true ∧ mean = 8 * k ∧ 0 ≤ dev ∧ dev ≤ 20000 ∧ last = wait (8 * k) dev true), ⟨300, by omega, by omega, by omega, rfl, .inl ⟨rfl, rfl, rfl⟩⟩, ?_⟩
  rintro n marks mean dev any last i ⟨rfl, hi0, hi1, rfl, hinv⟩
  refine cond_d (fun hlt => ?_) (fun _ => rfl)
  rw [wrap_u64 hi0 (by omega)]
  refine sent_wp (by simp) (by omega) (by omega) ?_
  have e1 : sentL [] i 100 = [(i, 100)] := rfl
  have e2 : pos [(i, (100 : Int))] i = 0 := by simp [pos, idx]
  have hmean : 0 ≤ mean ∧ mean ≤ 80000 := by omega
  rw [e1]
  refine got_wp (by simp) hmean.1 (by omega) (by omega) (by omega) (fun h => by rw [e2] at h; omega) (fun y _ hy => ?_)
  rw [e2] at hy
  cases hy
  refine ⟨by simp only; omega, by simp only; omega, ?_⟩
  have e3 : ([(i, (100 : Int))] : List (Int × Int)).eraseIdx (pos [(i, 100)] i).toNat = [] := by rw [e2]; rfl
  have e4 : min (100 + k - (i, (100 : Int)).2) 10000 = k := by simp only; omega
  rw [e3, e4]
  have hM8 : sampleM mean k any = 8 * k := by
    unfold sampleM
    rcases hinv with ⟨rfl, rfl, -⟩ | ⟨rfl, rfl, -⟩
    · simp
    · simp only [if_true]; omega
  have hw : ∀ d, 0 ≤ d → d ≤ 20000 → wait (8 * k) d true = min (max (k + d) 2) 10000 := by
    intro d h0 h1
    simp only [wait, if_true]
    rw [show 8 * k / 8 = k by omega, wrap_i64 (by omega) (by omega)]
  have hD : 0 ≤ sampleD mean dev k any ∧ sampleD mean dev k any ≤ 20000 ∧ wait (8 * k) (sampleD mean dev k any) true ≤ last := by
    unfold sampleD
    rcases hinv with ⟨rfl, rfl, rfl⟩ | ⟨rfl, rfl, hd0, hd1, rfl⟩
    · simp only [Bool.false_eq_true, if_false]
      have := wait_bounds (8 * k) (2 * k) true
      omega
    · simp only [if_true]
      rw [show 8 * k / 8 = k by omega, tdiv_pos hd0, wrap_i64 (x := dev / 4) (by omega) (by omega), show max (k - k) (0 - (k - k)) = 0 by omega, wrap_i64 (x := 0 - dev / 4) (by omega) (by omega), wrap_i64 (x := dev + (0 - dev / 4)) (by omega) (by omega)]
      rw [hw _ (by omega) (by omega), hw _ hd0 hd1]
      omega
  rw [hM8]
  generalize sampleD mean dev k any = d at hD ⊢
  have hb := wait_bounds (8 * k) d true
  have hwd := hw d hD.1 hD.2.1
  have e8 : 8 * k / 8 = k := by omega
  refine joinP1.i (cond_n (fun h => absurd rfl h) (fun _ => cond_n (fun h => absurd rfl h) (fun _ => way_wp (by omega) (by omega) (cond_n (fun h => absurd e8 h) (fun _ => wait_wp (by omega) (by omega)
    (cond_d (fun h => absurd h (by omega)) (fun _ => wait_wp (by omega) (by omega) (cond_d (fun h => ?_) (fun _ => ?_)))))))))
  · exfalso
    rw [if_neg (by omega)] at h
    omega
  · unfold rtt_Meter_Open_wp
    refine cond_f rfl (wait_wp (by omega) (by omega) ⟨_, ?_, rfl, ?_, ?_, rfl, .inr ⟨rfl, rfl, hD.1, hD.2.1, rfl⟩⟩)
    all_goals rw [wrap_i64 (by omega) (by omega)]
    all_goals omega

theorem pos_erase (l : List (Int × Int)) (no : Int) : (if 0 ≤ pos l no then l.eraseIdx (pos l no).toNat else l) = l.eraseP (fun x => x.1 == no) := by
  rw [List.eraseP_eq_eraseIdx]
  unfold pos idx
  cases l.findIdx? (fun x => x.1 == no) with
  | none => simp
  | some i => simp

theorem sentL_eq (l : List (Int × Int)) (no now : Int) : sentL l no now = if 30 < (l.eraseP (fun x => x.1 == no) ++ [(no, now)]).length then (l.eraseP (fun x => x.1 == no) ++ [(no, now)]).eraseIdx 0 else l.eraseP (fun x => x.1 == no) ++ [(no, now)] := by
  unfold sentL
  rw [pos_erase]

theorem pos_mem {l : List (Int × Int)} {no : Int} (h : ∃ x ∈ l, x.1 = no) : 0 ≤ pos l no ∧ ∃ x, l[(pos l no).toNat]? = some x ∧ x ∈ l ∧ x.1 = no ∧ l.eraseIdx (pos l no).toNat = l.eraseP (fun x => x.1 == no) := by
  have he := pos_erase l no
  unfold pos idx at *
  cases hf : l.findIdx? (fun x => x.1 == no) with
  | none =>
    rw [List.findIdx?_eq_none_iff] at hf
    obtain ⟨x, hx, hn⟩ := h
    have := hf x hx
    simp [hn] at this
  | some i =>
    rw [hf] at he
    simp only at he ⊢
    obtain ⟨hi, hp, -⟩ := List.findIdx?_eq_some_iff_getElem.1 hf
    rw [if_pos (by omega)] at he
    refine ⟨by omega, l[i], by simp [hi], List.getElem_mem _, by simpa using hp, he⟩

theorem pos_none {l : List (Int × Int)} {no : Int} (h : ∀ x ∈ l, x.1 ≠ no) : pos l no = -1 := by
  unfold pos idx
  have : l.findIdx? (fun x => x.1 == no) = none := by
    rw [List.findIdx?_eq_none_iff]
    intro x hx
    simpa using h x hx
  rw [this]

/-- Behind two that are sent at 0. -/
theorem two_sent (l : List (Int × Int)) (i j : Int) (hl : l.length ≤ 30) (h0 : ∀ x ∈ l, x.2 = 0) (hij : i ≠ j) :
    (sentL (sentL l i 0) j 0).length ≤ 30 ∧ (∀ x ∈ sentL (sentL l i 0) j 0, x.2 = 0) ∧ (i, 0) ∈ sentL (sentL l i 0) j 0 ∧ (sentL l i 0).length ≤ 30 := by
  have one : ∀ (l : List (Int × Int)) (no : Int), l.length ≤ 30 → (∀ x ∈ l, x.2 = 0) → (sentL l no 0).length ≤ 30 ∧ (∀ x ∈ sentL l no 0, x.2 = 0) := by
    intro l no hl h0
    rw [sentL_eq]
    have h1 := List.length_eraseP_le (p := fun x : Int × Int => x.1 == no) (l := l)
    have h2 : ∀ x ∈ l.eraseP (fun x => x.1 == no) ++ [(no, (0 : Int))], x.2 = 0 := by
      intro x hx
      rcases List.mem_append.1 hx with hx | hx
      · exact h0 x (List.mem_of_mem_eraseP hx)
      · simp at hx; simp [hx]
    split
    · rename_i hgt
      refine ⟨by rw [List.length_eraseIdx]; simp at hgt ⊢; omega, fun x hx => h2 x (List.mem_of_mem_eraseIdx hx)⟩
    · rename_i hle
      exact ⟨by omega, h2⟩
  obtain ⟨a1, a2⟩ := one l i hl h0
  obtain ⟨b1, b2⟩ := one _ j a1 a2
  refine ⟨b1, b2, ?_, a1⟩
  obtain ⟨l0, hl0⟩ : ∃ l0, sentL l i 0 = l0 ++ [(i, 0)] := by
    rw [sentL_eq]
    split
    · rename_i hgt
      rw [List.eraseIdx_zero, List.tail_append_of_ne_nil (by intro e; rw [e] at hgt; simp at hgt)]
      exact ⟨_, rfl⟩
    · exact ⟨_, rfl⟩
  obtain ⟨l1, hl1⟩ : ∃ l1, (sentL l i 0).eraseP (fun x => x.1 == j) = l1 ++ [(i, 0)] := by
    rw [hl0]
    by_cases h : ∃ a ∈ l0, (a.1 == j) = true
    · obtain ⟨a, ha, hp⟩ := h
      rw [List.eraseP_append_left (p := fun x : Int × Int => x.1 == j) hp _ ha]
      exact ⟨_, rfl⟩
    · rw [List.eraseP_append_right _ (fun b hb hp => h ⟨b, hb, hp⟩)]
      refine ⟨l0, ?_⟩
      rw [List.eraseP_cons_of_neg (by simpa using hij)]
      rfl
  rw [sentL_eq, hl1]
  split
  · rename_i hgt
    rw [List.eraseIdx_zero, List.append_assoc, List.tail_append_of_ne_nil (by intro e; rw [e] at hgt; simp at hgt)]
    simp
  · simp

theorem rttWaits_plain {samples : List Int} (hs : ∀ x ∈ samples, Eng.inK .u16 x) (_ : samples.length ≤ 9223372036854775807) : embrasurelaw26_RttWaits_wp samples (· = true) := by
  unfold embrasurelaw26_RttWaits_wp
  refine awake_wp (cond_f rfl ?_)
  unfold rtt_New_wp
  refine joinP1.i (cond_f rfl (wait_wp (by omega) (by omega) (cond_f rfl (way_wp (by omega) (by omega) (cond_f rfl ?_)))))
  refine ⟨fun marks mean dev any => marks.length ≤ 30, ?_, ?_⟩
  · intro marks mean dev any hl
    unfold rtt_Meter_Open_wp
    simp only [decide_eq_true_eq]
    omega
  refine ⟨fun n marks mean dev any i => n = 150 - i.toNat ∧ 0 ≤ i ∧ i ≤ 150 ∧ marks.length ≤ 30 ∧ (∀ x ∈ marks, x.2 = 0) ∧ 0 ≤ mean ∧ mean ≤ 80007 ∧ 0 ≤ dev ∧ dev ≤ 50000 ∧ (any = false → mean = 0 ∧ dev = 0),
    ⟨150, by omega, by omega, by omega, by simp, by simp, by omega, by omega, by omega, by omega, fun _ => ⟨rfl, rfl⟩⟩, ?_⟩
  rintro n marks mean dev any i ⟨rfl, hi0, hi1, hlen, hat, hm0, hm1, hd0, hd1, hany⟩
  refine joinP1.i (cond_d (fun hlt => cond_d (fun h150 => ?_) (fun _ => hlen)) (fun _ => hlen))
  rw [wrap_u64 hi0 (by omega)]
  obtain ⟨hA, hB, hC, hD⟩ := two_sent marks i 1099511627776 hlen hat (by omega)
  refine sent_wp (by omega) (by omega) (by omega) (sent_wp (by omega) (by omega) (by omega) ?_)
  generalize sentL (sentL marks i 0) 1099511627776 0 = ms at hA hB hC ⊢
  refine way_wp hm0 (by omega) (wait_wp hm0 (by omega) ?_)
  refine cond_e (fun h2 => ?_) (fun h2 => ?_)
  · refine joinP1.i (way_wp hm0 (by omega) (cond_n (fun h => absurd rfl h) (fun _ => wait_wp hm0 (by omega) ?_)))
    refine cond_n (fun h => absurd rfl h) (fun _ => ⟨_, ?_, rfl, ?_, ?_, hA, hB, hm0, hm1, hd0, hd1, hany⟩)
    all_goals rw [wrap_i64 (by omega) (by omega)]
    all_goals omega
  · refine ⟨hi0, hlt, fun x hx => ?_⟩
    have hx' : 0 ≤ x ∧ x ≤ 65535 := hs x (List.mem_of_getElem? hx)
    rw [wrap_i64 (x := x) (by omega) (by omega)]
    obtain ⟨hp0, y, hy, hym, hyn, hye⟩ := pos_mem (no := i) ⟨_, hC, rfl⟩
    refine got_wp (by omega) hm0 hm1 (by omega) (by omega) (fun h => by omega) (fun z _ hz => ?_)
    rw [hy] at hz
    cases hz
    have hy2 := hB y hym
    rw [hy2, hye, show min (x - 0) 10000 = min x 10000 by omega]
    refine ⟨by omega, by omega, ?_⟩
    generalize hS : min x 10000 = s
    have hs0 : 0 ≤ s ∧ s ≤ 10000 := by omega
    have hM : 0 ≤ sampleM mean s any ∧ sampleM mean s any ≤ 80007 := by
      unfold sampleM
      split <;> omega
    have hDv : 0 ≤ sampleD mean dev s any ∧ sampleD mean dev s any ≤ 50000 := by
      unfold sampleD
      split
      · rw [tdiv_pos hd0, wrap_i64 (x := dev / 4) (by omega) (by omega)]
        generalize hg : max (s - mean / 8) (0 - (s - mean / 8)) = g
        have hg0 : 0 ≤ g ∧ g ≤ 10001 := by omega
        rw [wrap_i64 (x := g - dev / 4) (by omega) (by omega), wrap_i64 (x := dev + (g - dev / 4)) (by omega) (by omega)]
        omega
      · omega
    generalize sampleM mean s any = mean2 at hM ⊢
    generalize sampleD mean dev s any = dev2 at hDv ⊢
    have hw : wait mean2 dev2 true = min (max (mean2 / 8 + dev2) 2) 10000 := by
      simp only [wait, if_true]
      rw [wrap_i64 (by omega) (by omega)]
    refine joinP1.i (cond_n (fun h => absurd rfl h) (fun _ => ⟨hi0, hlt, fun z hz => ?_⟩))
    rw [hx] at hz
    cases hz
    have es : (if (10000 : Int) < x then 10000 else x) = s := by split <;> omega
    rw [wrap_i64 (x := x) (by omega) (by omega), es]
    refine cond_n (fun h => absurd rfl h) (fun _ => wait_wp hM.1 (by omega) (way_wp hM.1 (by omega) (cond_d (fun h => ?_) (fun _ => wait_wp hM.1 (by omega) (cond_d (fun h => ?_) (fun _ => ?_))))))
    · exfalso
      rw [hw] at h
      split at h <;> omega
    · exfalso
      omega
    · refine ⟨_, ?_, rfl, ?_, ?_, ?_, ?_, hM.1, hM.2, hDv.1, hDv.2, fun h => absurd h (by simp)⟩
      · rw [wrap_i64 (by omega) (by omega)]; omega
      · rw [wrap_i64 (by omega) (by omega)]; omega
      · rw [wrap_i64 (by omega) (by omega)]; omega
      · exact Nat.le_trans (List.length_eraseP_le) hA
      · exact fun u hu => hB u (List.mem_of_mem_eraseP hu)

end Go.Proofs.Ytffjmcfcfdnbkaa
