/- The plain side of the statements on dialer: asked again, and all at once. -/
import Derived.Test.YtpppoicobkmlgaaQ
namespace Go.Proofs.Ytpppoicobkmlgaa
open Go Go.Eng

theorem firstA_one (h p : Int) (hh : h ≠ 0) (hp : 1 ≤ p) (hp2 : p ≤ 65535) : firstA h [(h, p)] = some (h, p) := by
  unfold firstA mayA
  simp [hh, hp, hp2]

theorem Count_wp {l : List (Int × Int)} {now t h : Int} {K : Int → List (Int × Int) → Int → Prop} (hl : okL l) (hlen : l.length ≤ 1000) (h0 : now ≤ t) (h1 : t ≤ 1099511627776) (hK : K (cnt (act l t) h) (act l t) t) : dialer_Server_Count_wp l now t h K := by
  unfold dialer_Server_Count_wp
  have : (act l t).length ≤ l.length := List.length_filter_le _ _
  exact on_wp hl h0 h1 (count_wp (by omega) hK)

def mine (h : Int) (at_ : List Int) : List (Int × Int) := at_.map fun t => (h, t)

theorem mine_cnt (h g : Int) (hg : g ≠ 0) (at_ : List Int) (t : Int) : cnt (act (mine h at_) t) g = if h = g then ((act (mine h at_) t).length : Int) else 0 := by
  unfold cnt
  have hall : ∀ d ∈ act (mine h at_) t, d.1 = h := by
    intro d hd
    unfold act mine at hd
    obtain ⟨u, -, rfl⟩ := List.mem_map.1 (List.mem_filter.1 hd).1
    rfl
  have hgz : (g == 0) = false := by simpa using hg
  split
  · rename_i e
    subst e
    rw [List.countP_eq_length.2]
    intro d hd
    simp [hall d hd]
  · rename_i e
    rw [List.countP_eq_zero.2]
    · rfl
    · intro d hd
      simp [hall d hd, e, hg]

theorem mine_act_length (h : Int) (at_ : List Int) (t : Int) : (act (mine h at_) t).length = at_.countP fun u => decide (t < u + 60) := by
  unfold act mine
  rw [List.filter_map, List.length_map, List.countP_eq_length_filter]
  rfl

set_option maxHeartbeats 1000000 in
theorem dialerAgain_plain {from_ gap n_1 : Int} (hf : Eng.inK .u32 from_) (hg : Eng.inK .u8 gap) (hn : Eng.inK .u8 n_1) : embrasurelaw20_DialerAgain_wp from_ gap n_1 (· = true) := by
  have hf : 0 ≤ from_ ∧ from_ ≤ 4294967295 := hf
  have hg : 0 ≤ gap ∧ gap ≤ 255 := hg
  have hn : 0 ≤ n_1 ∧ n_1 ≤ 255 := hn
  unfold embrasurelaw20_DialerAgain_wp
  refine awake_wp (cond_f rfl ?_)
  unfold dialer_New_wp
  refine joinP1.i (cond_f rfl (cond_e (fun _ => cond_t rfl rfl) (fun h0 => cond_e (a := from_) (b := 99) (T := True) (F := True) (fun _ => trivial) (fun _ => trivial) |> fun _ => ?_)))
  refine cond_b (fun _ => rfl) (fun h99 => ?_)
  have h99 : from_ ≠ 99 := by simpa using h99
  rw [wrap_i64 (x := n_1) (by omega) (by omega), wrap_i64 (x := gap) (by omega) (by omega), tmod_pos hn.1, tmod_pos hg.1]
  generalize hk : n_1 % 60 = k
  generalize hG : gap % 40 = g
  have hk0 : 0 ≤ k ∧ k < 60 := by omega
  have hg0 : 0 ≤ g ∧ g < 40 := by omega
  refine ⟨fun list now now8 => ∃ at_ : List Int, list = act (mine from_ at_) now ∧ 0 ≤ now ∧ now ≤ now8 ∧ now8 ≤ 2400 ∧ at_.length ≤ 60 ∧ list.length ≤ 3 ∧ ∀ u ∈ at_, 0 ≤ u ∧ u ≤ now8, ?_, ?_⟩
  · rintro list now now8 ⟨at_, rfl, hn0, hnn, hn8, hal, hl3, hat⟩
    have hok : okL (mine from_ at_) := ⟨by unfold mine; rw [List.length_map]; omega, fun d hd => by
      unfold mine at hd
      obtain ⟨u, hu, rfl⟩ := List.mem_map.1 hd
      have := hat u hu
      simp only
      omega⟩
    have haa := act_act (mine from_ at_) hnn
    have hle : (act (mine from_ at_) now8).length ≤ 3 := by
      rw [← haa]
      exact Nat.le_trans (List.length_filter_le _ _) hl3
    refine ask_wp (okL_act hok now) (by omega) (by simp) (fun h => absurd h (by simp; omega)) (fun _ _ _ _ _ => ⟨fun hn => absurd hn (by rw [firstA_one 99 1 (by omega) (by omega) (by omega)]; simp), fun a ha => ?_⟩)
    rw [haa]
    have hc : cnt (act (mine from_ at_) now8) 99 = 0 := by rw [mine_cnt _ _ (by omega), if_neg h99]
    refine ⟨fun h => by rw [hc, cnt_zero] at h; omega, fun _ _ => cond_t rfl ?_⟩
    refine Count_wp ⟨by simp; omega, ?_⟩ (by simp; omega) (Int.le_refl _) (by omega) ?_
    · intro d hd
      rcases List.mem_append.1 hd with hd | hd
      · exact (okL_act hok now8).2 d hd
      · obtain rfl : d = (99, now8) := by simpa using hd
        simp only
        omega
    · rw [act_append, act_one _ _ _ (by omega), cnt_append, act_act _ (Int.le_refl _), hc, cnt_one, if_pos (Or.inr rfl)]
      rfl
  · refine ⟨fun n list now now8 at_ i => n = 60 - i.toNat ∧ 0 ≤ i ∧ i ≤ k ∧ list = act (mine from_ at_) now ∧ 0 ≤ now ∧ now ≤ now8 ∧ now8 ≤ i * 40 ∧ (at_.length : Int) ≤ i ∧ list.length ≤ 3 ∧ ∀ u ∈ at_, 0 ≤ u ∧ u ≤ now8,
      ⟨60, by omega, by omega, by omega, rfl, by omega, by omega, by omega, by simp, by simp, by simp⟩, ?_⟩
    rintro n list now now8 at_ i ⟨rfl, hi0, hi1, rfl, hn0, hnn, hn8, hal, hl3, hat⟩
    refine cond_d (fun hlt => ?_) (fun hge => ⟨at_, rfl, hn0, hnn, by omega, by omega, hl3, hat⟩)
    have hok : okL (mine from_ at_) := ⟨by unfold mine; rw [List.length_map]; omega, fun d hd => by
      unfold mine at hd
      obtain ⟨u, hu, rfl⟩ := List.mem_map.1 hd
      have := hat u hu
      simp only
      omega⟩
    have haa := act_act (mine from_ at_) hnn
    have hle : (act (mine from_ at_) now8).length ≤ 3 := by
      rw [← haa]
      exact Nat.le_trans (List.length_filter_le _ _) hl3
    have hcm : cnt (act (mine from_ at_) now8) from_ = (act (mine from_ at_) now8).length := by rw [mine_cnt _ _ h0, if_pos rfl]
    have next : ∀ (list' : List (Int × Int)) (at' : List Int), list' = act (mine from_ at') now8 → (at'.length : Int) ≤ i + 1 → list'.length ≤ 3 → (∀ u ∈ at', 0 ≤ u ∧ u ≤ now8) →
        ∃ n, n < 60 - i.toNat ∧ n = 60 - (IntKind.wrap .i64 (i + 1)).toNat ∧ 0 ≤ IntKind.wrap .i64 (i + 1) ∧ IntKind.wrap .i64 (i + 1) ≤ k ∧ list' = act (mine from_ at') now8 ∧ 0 ≤ now8 ∧ now8 ≤ IntKind.wrap .i64 (now8 + g) ∧
          IntKind.wrap .i64 (now8 + g) ≤ IntKind.wrap .i64 (i + 1) * 40 ∧ (at'.length : Int) ≤ IntKind.wrap .i64 (i + 1) ∧ list'.length ≤ 3 ∧ ∀ u ∈ at', 0 ≤ u ∧ u ≤ IntKind.wrap .i64 (now8 + g) := by
      intro list' at' a b c d
      rw [wrap_i64 (x := i + 1) (by omega) (by omega), wrap_i64 (x := now8 + g) (by omega) (by omega)]
      exact ⟨_, by omega, rfl, by omega, by omega, a, by omega, by omega, by omega, b, c, fun u hu => by have := d u hu; omega⟩
    -- the loop that counts
    have count : ∀ (Q : Int → Prop), Q (act (mine from_ at_) now8).length → ∃ (I : Nat → Int → Int → Prop), (∃ (n : Nat), I n 0 0) ∧ ∀ (n : Nat) (c : Int) (j : Int), I n c j →
        (cond (decide ((j : Int) < ((at_.length : Nat) : Int))) (0 ≤ (j : Int) ∧ (j : Int) < ((at_.length : Nat) : Int) ∧ (∀ (x : Int), at_[Int.toNat j]? = some x → (cond (decide (((IntKind.wrap .i64 (x + 60)) : Int) > now8))
          (∃ (m : Nat), m < n ∧ I m (IntKind.wrap .i64 (c + 1)) (IntKind.wrap .i64 (j + 1))) (∃ (m : Nat), m < n ∧ I m c (IntKind.wrap .i64 (j + 1)))))) (Q c)) := by
      intro Q hQ
      refine ⟨fun n c j => n = at_.length - j.toNat ∧ 0 ≤ j ∧ j ≤ at_.length ∧ c = ((at_.take j.toNat).countP fun u => decide (now8 < u + 60) : Nat), ⟨_, rfl, by omega, by omega, rfl⟩, ?_⟩
      rintro n c j ⟨rfl, hj0, hj1, rfl⟩
      have hb := List.countP_le_length (p := fun u : Int => decide (now8 < u + 60)) (l := at_.take j.toNat)
      rw [List.length_take] at hb
      refine cond_d (fun hj => ?_) (fun hj => ?_)
      · have hjl : j.toNat < at_.length := by omega
        refine ⟨hj0, hj, fun x hx => ?_⟩
        have hxt := hat x (List.mem_of_getElem? hx)
        rw [List.getElem?_eq_getElem hjl] at hx
        have hx := Option.some.inj hx
        rw [wrap_i64 (x := x + 60) (by omega) (by omega), wrap_i64 (x := j + 1) (by omega) (by omega)]
        have htake : at_.take (j + 1).toNat = at_.take j.toNat ++ [x] := by rw [show (j + 1).toNat = j.toNat + 1 by omega, List.take_succ_eq_append_getElem hjl, hx]
        refine cond_d (fun hgt => ⟨_, ?_, rfl, by omega, by omega, ?_⟩) (fun hgt => ⟨_, ?_, rfl, by omega, by omega, ?_⟩)
        · omega
        · rw [wrap_i64 (by omega) (by omega), htake, List.countP_append, List.countP_singleton, if_pos (by simp; omega)]; omega
        · omega
        · rw [htake, List.countP_append, List.countP_singleton, if_neg (by simp; omega)]; omega
      · have : j.toNat = at_.length := by omega
        rw [this, List.take_length, ← mine_act_length from_]
        exact hQ
    refine ask_wp (okL_act hok now) (by omega) (by simp) (fun h => absurd h (by simp; omega)) (fun _ _ _ _ _ => ⟨fun hn => absurd hn (by rw [firstA_one from_ 1 h0 (by omega) (by omega)]; simp), fun a ha => ?_⟩)
    rw [firstA_one from_ 1 h0 (by omega) (by omega)] at ha
    cases ha
    rw [haa, hcm, cnt_zero]
    refine ⟨fun h3 => joinP1.i (count _ ?_), fun h3 _ => joinP1.i (count _ ?_)⟩
    · have : ((act (mine from_ at_) now8).length : Int) = 3 := by omega
      rw [this]
      refine joinP0.i (joinP1.i (cond_f rfl (cond_f rfl (cond_t rfl (cond_f rfl (joinP1.i (cond_f rfl ?_)))))))
      exact next _ at_ rfl (by omega) hle (fun u hu => hat u hu)
    · refine joinP0.i (joinP1.i (cond_f ?_ (cond_t rfl (cond_n (fun h => absurd rfl h) (fun _ => cond_f rfl (cond_f rfl (joinP1.i (cond_t rfl ⟨by simp; omega, ?_⟩))))))))
      · have : decide (((act (mine from_ at_) now8).length : Int) < 3) = true := by simpa using h3
        rw [this]
        rfl
      · have hm : mine from_ (at_ ++ [now8]) = mine from_ at_ ++ [(from_, now8)] := by unfold mine; simp
        refine next _ (at_ ++ [now8]) ?_ (by simp; omega) (by simp; omega) ?_
        · rw [hm, act_append, act_one _ _ _ (by omega)]
        · intro u hu
          rcases List.mem_append.1 hu with hu | hu
          · exact hat u hu
          · obtain rfl : u = now8 := by simpa using hu
            omega

def hosts (m : Nat) : List (Int × Int) := (List.range m).map fun (j : Nat) => ((j : Int) + 1, (0 : Int))

theorem hosts_cnt (m : Nat) (h : Int) (hm : (m : Int) < h) : cnt (hosts m) h = 0 := by
  unfold cnt
  rw [List.countP_eq_zero.2]
  · rfl
  · intro d hd
    unfold hosts at hd
    obtain ⟨j, hj, rfl⟩ := List.mem_map.1 hd
    rw [List.mem_range] at hj
    simp
    omega

theorem hosts_act (m : Nat) (t : Int) (h0 : 0 ≤ t) : act (hosts m) t = if t < 60 then hosts m else [] := by
  unfold act
  split
  · rw [List.filter_eq_self]
    intro d hd
    unfold hosts at hd
    obtain ⟨j, hj, rfl⟩ := List.mem_map.1 hd
    simp
    omega
  · rw [List.filter_eq_nil_iff]
    intro d hd
    unfold hosts at hd
    obtain ⟨j, hj, rfl⟩ := List.mem_map.1 hd
    simp
    omega

theorem hosts_len (m : Nat) : (hosts m).length = m := by unfold hosts; simp

theorem hosts_ok (m : Nat) (h : m ≤ 1000) : okL (hosts m) := ⟨by rw [hosts_len]; omega, fun d hd => by
  unfold hosts at hd
  obtain ⟨j, hj, rfl⟩ := List.mem_map.1 hd
  simp⟩

set_option maxHeartbeats 1000000 in
theorem dialerAll_plain {n_1 wait : Int} (hn : Eng.inK .u8 n_1) (hw : Eng.inK .u8 wait) : embrasurelaw20_DialerAll_wp n_1 wait (· = true) := by
  have hn : 0 ≤ n_1 ∧ n_1 ≤ 255 := hn
  have hw : 0 ≤ wait ∧ wait ≤ 255 := hw
  unfold embrasurelaw20_DialerAll_wp
  refine awake_wp (cond_f rfl ?_)
  unfold dialer_New_wp
  refine cond_f rfl ?_
  rw [wrap_i64 (x := n_1) (by omega) (by omega), wrap_i64 (x := wait) (by omega) (by omega), tmod_pos hn.1, tmod_pos hw.1]
  generalize hk : n_1 % 60 = k
  generalize hW : wait % 120 = w
  have hk0 : 0 ≤ k ∧ k < 60 := by omega
  have hw0 : 0 ≤ w ∧ w < 120 := by omega
  refine ⟨fun list now => list = hosts (min k 30).toNat ∧ now = 0, ?_, ?_⟩
  · rintro list now ⟨rfl, rfl⟩
    generalize hm : (min k 30).toNat = m
    have hm30 : (m : Int) = min k 30 := by omega
    have hA := hosts_act m w hw0.1
    have hc99 : cnt (act (hosts m) w) 99 = 0 := by
      rw [hA]
      split
      · exact hosts_cnt m 99 (by omega)
      · rfl
    have hok := okL_act (hosts_ok m (by omega)) w
    have hl : (act (hosts m) w).length = if w < 60 then m else 0 := by
      rw [hA]
      split
      · exact hosts_len m
      · rfl
    refine ask_wp (hosts_ok m (by omega)) (by rw [hosts_len]; omega) (by simp) (fun h => absurd h (by simp; omega)) (fun _ _ _ _ _ => ⟨fun hn => absurd hn (by rw [firstA_one 99 9 (by omega) (by omega) (by omega)]; simp), fun a ha => ?_⟩)
    rw [hc99, cnt_zero, hl]
    -- how many there are then
    have fin : ∀ (list' : List (Int × Int)) (v : Int), okL list' → list'.length ≤ 1000 → (act list' w).length = v → (dialer_Server_Count_wp list' w w 0 fun r _ _ => ((r : Int) == v) = true) := by
      intro list' v h1 h2 h3
      refine Count_wp h1 h2 (Int.le_refl _) (by omega) ?_
      rw [cnt_zero, h3]
      simp
    refine ⟨fun h => ?_, fun _ h => ?_⟩
    · have hw60 : w < 60 := by
        rcases Int.lt_or_le w 60 with h1 | h1
        · exact h1
        · rw [if_neg (by omega)] at h; omega
      rw [if_pos hw60] at h hl
      have hk30 : ¬ k < 30 := by omega
      have d60 : decide (w ≥ 60) = false := by simpa using hw60
      refine joinP0.i (joinP1.i (cond_f (by simpa using hk30) (cond_f (by rw [d60]; rfl) (joinP1.i (cond_f d60 (joinP1.i (cond_f rfl (fin _ _ hok (by omega) ?_))))))))
      rw [act_act _ (Int.le_refl _), hl]
      split <;> omega
    · refine joinP0.i (joinP1.i ?_)
      have body : joinP1 (fun (want15 : Int) => joinP1 (fun (want15_1 : Int) => dialer_Server_Count_wp (act (hosts m) w ++ [(99, w)]) w w 0 (fun (r_5 : Int) (list_3 : List (Int × Int)) (now_3 : Int) => ((r_5 : Int) == want15_1) = true))
          (fun (Q_3 : Int → Prop) => cond (((0 : Int) : Int) == 0) (Q_3 (IntKind.wrap .i64 (want15 + 1))) (Q_3 want15))) (fun (Q_2 : Int → Prop) => cond (decide ((w : Int) ≥ 60)) (Q_2 0) (Q_2 (if (30 : Int) < k then 30 else k))) := by
        have hok2 : okL (act (hosts m) w ++ [(99, w)]) := ⟨by simp; have := hok.1; split at hl <;> omega, fun d hd => by
          rcases List.mem_append.1 hd with hd | hd
          · exact hok.2 d hd
          · obtain rfl : d = (99, w) := by simpa using hd
            simp only
            omega⟩
        have hlen2 : (act (act (hosts m) w ++ [((99 : Int), w)]) w).length = (if w < 60 then m else 0) + 1 := by
          rw [act_append, act_act _ (Int.le_refl _), act_one _ _ _ (by omega), List.length_append, hl]
          rfl
        refine joinP1.i (cond_d (fun h60 => joinP1.i (cond_t rfl (fin _ _ hok2 (by simp; split at hl <;> omega) ?_))) (fun h60 => joinP1.i (cond_t rfl (fin _ _ hok2 (by simp; split at hl <;> omega) ?_))))
        · rw [hlen2, if_neg (by omega), wrap_i64 (by omega) (by omega)]; omega
        · rw [hlen2, if_pos (by omega)]
          split
          · rw [wrap_i64 (by omega) (by omega)]; omega
          · rw [wrap_i64 (by omega) (by omega)]; omega
      refine cond_d (fun hk30 => cond_f rfl body) (fun hk30 => ?_)
      have hw60 : 60 ≤ w := by
        rcases Int.lt_or_le w 60 with h1 | h1
        · rw [if_pos h1] at h; omega
        · exact h1
      refine cond_f ?_ body
      have : decide (w ≥ 60) = true := by simpa using hw60
      rw [this]
      rfl
  · refine ⟨fun n list now i => n = 60 - i.toNat ∧ 0 ≤ i ∧ i ≤ k ∧ list = hosts (min i 30).toNat ∧ now = 0, ⟨60, by omega, by omega, by omega, rfl, rfl⟩, ?_⟩
    rintro n list now i ⟨rfl, hi0, hi1, rfl, rfl⟩
    refine cond_d (fun hlt => ?_) (fun hge => ⟨by rw [show i = k by omega], rfl⟩)
    rw [wrap_i64 (x := i + 1) (by omega) (by omega), wrap_u32 (x := i + 1) (by omega) (by omega)]
    generalize hm : (min i 30).toNat = m
    have hm30 : (m : Int) = min i 30 := by omega
    have hA := hosts_act m 0 (by omega)
    rw [if_pos (by omega)] at hA
    refine ask_wp (hosts_ok m (by omega)) (by rw [hosts_len]; omega) (by simp) (fun h => absurd h (by simp; omega)) (fun _ _ _ _ _ => ⟨fun hn => absurd hn (by rw [firstA_one (i + 1) 9 (by omega) (by omega) (by omega)]; simp), fun a ha => ?_⟩)
    rw [hA, hosts_cnt m (i + 1) (by omega), cnt_zero, hosts_len]
    refine ⟨fun h => ?_, fun _ h => ?_⟩
    · have h30 : ¬ i < 30 := by omega
      have hd : decide (i < 30) = false := by simpa using h30
      refine joinP1.i (cond_f (by rw [hd]; rfl) (cond_t rfl (cond_f rfl ⟨_, ?_, rfl, by omega, by omega, ?_, rfl⟩)))
      · omega
      · rw [show (min (i + 1) 30).toNat = m by omega]
    · have h30 : i < 30 := by omega
      have hd : decide (i < 30) = true := by simpa using h30
      refine joinP1.i (cond_f (by rw [hd]; rfl) (cond_f rfl (cond_f rfl ⟨_, ?_, rfl, by omega, by omega, ?_, rfl⟩)))
      · omega
      · rw [show (min (i + 1) 30).toNat = m + 1 by omega]
        unfold hosts
        rw [List.range_succ, List.map_append, List.map_singleton, show (m : Int) = i by omega]

end Go.Proofs.Ytpppoicobkmlgaa
