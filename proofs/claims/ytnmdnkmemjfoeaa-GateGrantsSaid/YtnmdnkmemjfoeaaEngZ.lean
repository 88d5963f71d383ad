/-
  The engine, part Z: slices.SortFunc: the library's contract, over separate pieces of memory.
-/
import Derived.Test.YtnmdnkmemjfoeaaEngR
import Derived.Shelf.SlSortCmp.WholeK
import Derived.Shelf.SlSortCmp.NoneTotal
namespace Go.Eng
open Go
/-- A part of the heap that its assertion fixes. -/
def Exact (A : HP) : Prop := ∀ h o u, A h o u → ∀ h' o' u', A h' o' u' ↔ h' = h
theorem exact_emp : Exact emp := fun h o u a h' o' u' => ⟨fun b => by funext i; rw [a i, b i], fun e => e ▸ a⟩
theorem exact_nil : Exact (HL []) := exact_emp
/-- What is asked of a sort: an order over what may be there, that the closure tells; what comes behind is asked of each row that may come. -/
def sortW {α σ : Type} (xs : List α) (s : σ) (Y : α → α → σ → (Int → σ → Prop) → Prop) (K : List α → σ → Prop) : Prop :=
  ∃ (V : α → Prop) (cf : α → α → Int), (∀ x ∈ xs, V x) ∧ (∀ x y, V x → V y → ∀ K' : Int → σ → Prop, K' (cf x y) s → Y x y s K') ∧
    (∀ x, V x → ¬ cf x x < 0) ∧ (∀ x y z, V x → V y → V z → cf x y < 0 → cf y z < 0 → cf x z < 0) ∧ (∀ x y z, V x → V y → V z → ¬ cf x y < 0 → ¬ cf y z < 0 → ¬ cf x z < 0) ∧
    xs.length < 4611686018427387904 ∧ ∀ zs : List α, zs.Perm xs → zs.Pairwise (fun a b => ¬ cf b a < 0) → K zs s
theorem flatK_list {α : Type} [Inhabited α] {enc : α → List Value} {z : Nat} (hz : ∀ x, (enc x).length = z) (d : Array α) : (Go.Sort.flatK enc z d).toList = d.toList.flatMap enc := by
  apply List.ext_getElem?
  intro t
  have hlen : (d.toList.flatMap enc).length = d.size * z := by rw [flatMap_len hz]; simp
  by_cases ht : t < d.size * z
  · have hz0 : 0 < z := by
      rcases Nat.eq_zero_or_pos z with e | e
      · rw [e] at ht; simp at ht
      · exact e
    have hq : t / z < d.size := by rw [Nat.div_lt_iff_lt_mul hz0]; exact ht
    have hm : t % z < z := Nat.mod_lt _ hz0
    have h1 := flatMap_get hz d.toList (t / z) (t % z) d[t / z]! (by rw [getElem!_pos d _ hq]; simp [hq]) hm
    have e : t / z * z + t % z = t := by rw [Nat.mul_comm]; exact Nat.div_add_mod t z
    rw [e] at h1
    rw [h1]
    have h2 := Go.Sort.get_flatK enc z d t ht
    have hs : t < (Go.Sort.flatK enc z d).size := by rw [Go.Sort.size_flatK]; exact ht
    rw [getElem!_pos (Go.Sort.flatK enc z d) t hs] at h2
    have h3 : t % z < (enc d[t / z]!).length := by rw [hz]; exact hm
    rw [getElem!_pos (enc d[t / z]!) _ h3] at h2
    rw [List.getElem?_eq_getElem h3, List.getElem?_eq_getElem (by simpa using hs)]
    simpa using h2
  · rw [List.getElem?_eq_none (by simp; omega), List.getElem?_eq_none (by omega)]
theorem grow_of_kept {W w' : World} (h : Kept W w') : ∃ q os', w' = Go.Sort.grow (W.drewN q) os' := by
  refine ⟨w'.drawn - W.drawn, w'.heap.extract W.heap.size w'.heap.size, ?_⟩
  have hd := h.drawn
  have hsz : W.heap.size ≤ w'.heap.size := by
    rcases Nat.lt_or_ge w'.heap.size W.heap.size with hlt | hge
    · have := h.block w'.heap.size hlt
      rw [Array.getElem?_eq_none (by omega)] at this
      have h2 : W.heap[w'.heap.size]? = some W.heap[w'.heap.size] := by simp [hlt]
      rw [h2] at this
      simp at this
    · exact hge
  have hheap : w'.heap = W.heap ++ w'.heap.extract W.heap.size w'.heap.size := by
    apply Array.ext_getElem?
    intro i
    by_cases hi : i < W.heap.size
    · rw [Array.getElem?_append_left hi, h.block i hi]
    · rw [Array.getElem?_append_right (by omega), Array.getElem?_extract]
      by_cases hi2 : i < w'.heap.size
      · rw [if_pos (by omega)]; congr 1; omega
      · rw [if_neg (by omega), Array.getElem?_eq_none (by omega)]
  obtain ⟨h1, h2, h3, h4, h5⟩ := h
  unfold Go.Sort.grow World.drewN
  cases w'
  simp only at *
  subst h1 h2 h4
  congr 1
  omega
/-- All of a world but one part. -/
def restP (W : World) (f : Nat → Option Obj) : HP := fun h o u => (o.os = W.os ∧ o.tape = W.tape ∧ W.drawn ≤ o.drawn) ∧ u = W.output ∧ ∀ i, h i = match f i with
  | some _ => none
  | none => W.heap[i]?
theorem kept_of_rest {A : HP} {W w' : World} {f : Nat → Option Obj} {o : Out} {u : Array (Nat × ByteArray)} (hx : Exact A) (hf : A f o u) (hfw : ∀ i x, f i = some x → W.heap[i]? = some x) (h : Mem [A, restP W f] w') : Kept W w' := by
  obtain ⟨g, n, hn, ⟨g1, g2, hd, hu, ha, hb⟩, hs⟩ := h
  have hb : (restP W f * emp) g2 ⟨w'.os, w'.tape, n⟩ w'.output := hb
  rw [star_emp] at hb
  obtain ⟨⟨e1, e2, e3⟩, e4, e5⟩ := hb
  have eg : g1 = f := (hx _ _ _ hf _ _ _).1 ha
  refine ⟨e1, e2, Nat.le_trans e3 hn, e4, fun k hk => ?_⟩
  have hW : W.heap[k]? = some W.heap[k] := by simp [hk]
  have : g k = some W.heap[k] := by
    rw [hu k, eg]
    cases hfk : f k with
    | some x =>
      have := hfw k x hfk
      rw [hW] at this
      simp [Option.some.inj this]
    | none => rw [e5 k]; simp [hfk, hk]
  rw [hs k _ this, hW]
theorem rest_start {A : HP} {W : World} {f : Nat → Option Obj} (hf : A f ⟨W.os, W.tape, W.drawn⟩ W.output) (hfw : ∀ i x, f i = some x → W.heap[i]? = some x) : Mem [A, restP W f] W := by
  refine ⟨fun i => W.heap[i]?, W.drawn, Nat.le_refl _, ⟨f, fun i => match f i with | some _ => none | none => W.heap[i]?, fun i => ?_, fun i => ?_, hf, ?_⟩, fun i o h => h⟩
  · cases hfi : f i with
    | some x => right; simp only [hfi]
    | none => left; rfl
  · cases hfi : f i with
    | some x => simp [hfw i x hfi]
    | none => simp only [hfi, Option.none_or]
  · show (restP W f * emp) _ _ _
    rw [star_emp]
    exact ⟨⟨rfl, rfl, Nat.le_refl _⟩, rfl, fun _ => rfl⟩
/-- Block b becomes x'; whatever else was there stays. -/
theorem Holds.turnG {A : HP} {w w' : World} {b : Nat} {x x' : Obj} (h : Holds (pt b x * A) w) (ho : w'.os = w.os) (hu : w'.output = w.output) (ht : w'.tape = w.tape) (hd' : w.drawn ≤ w'.drawn) (hb : w'.heap[b]? = some x') (hr : ∀ i, i ≠ b → i < w.heap.size → w'.heap[i]? = w.heap[i]?) :
    Holds (pt b x' * A) w' := by
  obtain ⟨h, nn, hnn, ⟨h1, h2, hd, hun, ha, hA⟩, hs⟩ := h
  have h2b : h2 b = none := by
    rcases hd b with g | g
    · rw [ha b] at g; simp at g
    · exact g
  refine ⟨fun i => if i = b then some x' else h2 i, nn, Nat.le_trans hnn hd', ⟨fun i => if i = b then some x' else none, h2, fun i => ?_, fun i => ?_, fun i => rfl, by rw [ho, hu, ht]; exact hA⟩, fun i o hi => ?_⟩
  · by_cases e : i = b
    · right; rw [e]; exact h2b
    · left; simp [e]
  · by_cases e : i = b <;> simp [e]
  · simp only at hi
    by_cases e : i = b
    · rw [if_pos e] at hi; rw [e, hb]; exact hi
    · rw [if_neg e] at hi
      have hw := hs i o (by rw [hun i, ha i, if_neg e, hi]; rfl)
      rw [hr i e (Array.getElem?_eq_some_iff.1 hw).1]
      exact hw
section
variable {P : Program} {ρ : Go.Shelf.Ren}
/-- **slices.SortFunc.** -/
theorem sortL (L : Go.Proofs.SlLaysF0.n6 P ρ) {z : Nat} (aE : ∀ w, (isAgg (ρ.t 24)).run P w = .ok true w) (zE : ∀ w, (Go.sizeOf (ρ.t 24)).run P w = .ok z w)
    {α σ : Type} {enc : α → List Value} (hk : ∀ x, (enc x).length = z) (h1 : ∀ x, ∀ v ∈ enc x, v.oneCell' = true) {g : Nat} {cb : Array Value} (hg : hasBody P g = true) (eg : ∀ args w, (callFunc g args).run P w = .ok (.enter g args) w)
    {A : σ → HP} {T : TypeId} {p : Option Addr} {n cap : Nat} {xs : List α} {s : σ} {FL : List HP} {w : World} {Y : α → α → σ → (Int → σ → Prop) → Prop} {K : List α → σ → Prop} {R : Value → World → Prop} (hA : Exact (A s))
    (hY : ∀ (x y : α) (s : σ) (K : Int → σ → Prop) (FL2 : List HP) (w : World) (R : Value → World → Prop), (∀ w, Mem FL2 w → Mem FL w) → Mem (A s :: FL2) w → Y x y s K → (∀ (r : Int) (s : σ) (w : World), Mem (A s :: FL2) w → K r s → R (Value.int .i64 r) w) → CalleeV P (.func (.func g) #[] cb) #[.agg (enc x).toArray, .agg (enc y).toArray] w R)
    (hn : n = xs.length) (h : Mem (row enc T z p cap xs :: A s :: FL) w) (hp : sortW xs s Y K)
    (hR : ∀ (rs : List α) (s : σ) (w : World), rs.length = xs.length → Mem (row enc T z p cap rs :: A s :: FL) w → K rs s → R (.tuple #[]) w) :
    CallV P (ρ.f 6) #[.slice p n cap, .func (.func g) #[] cb] w R := by
  subst hn
  obtain ⟨V, cf, hV, hYc, o1, o2, o3, hsz, hK⟩ := hp
  cases hxs : xs with
  | nil =>
    subst hxs
    refine (Go.Proofs.AnyF.slices_SortFunc_none L p cap (.func (.func g) #[] cb) w).mono ?_
    rintro e w' ⟨rfl, rfl⟩
    exact ⟨_, rfl, hR [] s w' rfl h (hK [] (List.Perm.refl _) List.Pairwise.nil)⟩
  | cons x0 xt =>
    rw [← hxs]
    have hlen : 0 < xs.length := by rw [hxs]; simp
    haveI : Inhabited {x : α // V x} := ⟨⟨x0, hV x0 (by rw [hxs]; simp)⟩⟩
    have hopen := slP.open h
    rcases hopen with ⟨-, -, h0, -, -⟩ | ⟨b, off, c, rfl, hcs, hrd, hB⟩
    · omega
    have hl := (slP.length h).2
    let enc' : {x : α // V x} → List Value := fun x => enc x.1
    let d : Array {x : α // V x} := (xs.attachWith V hV).toArray
    have hdm : d.toList.map Subtype.val = xs := by simp [d, List.attachWith_map_subtype_val]
    have hds : d.size = xs.length := by rw [← hdm]; simp
    have hk' : ∀ x, (enc' x).length = z := fun x => hk x.1
    have hfl : ∀ d' : Array {x : α // V x}, (Go.Sort.flatK enc' z d').toList = (d'.toList.map Subtype.val).flatMap enc := fun d' => by
      rw [flatK_list hk', List.flatMap_map]
    have hswo : Go.Sort.SWO (Go.Proofs.ltOf fun x y : {x : α // V x} => cf x.1 y.1) := by
      refine ⟨fun x => ?_, fun x y z' a b => ?_, fun x y z' a b => ?_⟩
      all_goals simp only [Go.Proofs.ltOf, decide_eq_true_eq, decide_eq_false_iff_not] at *
      · exact o1 x.1 x.2
      · exact o2 _ _ _ x.2 y.2 z'.2 a b
      · exact o3 _ _ _ x.2 y.2 z'.2 a b
    have hblk : b < w.heap.size := hB.lt
    have hH : Go.Sort.HoldsK enc' z w b off d := by
      intro j hj
      have hj2 : j < (xs.flatMap enc).length := by
        have := congrArg List.length (hfl d); rw [hdm] at this; simp only [Array.length_toList] at this; omega
      refine ⟨?_, hB.unfrozen _⟩
      rw [hB.cell, hrd j hj2, getElem!_pos (Go.Sort.flatK enc' z d) j hj]
      have := congrArg (fun l => l[j]?) (hfl d)
      rw [hdm] at this
      rw [← this]
      simp [hj]
    -- what a world of the sort's holds
    have hworld : ∀ (m : Nat) (d' : Array {x : α // V x}) (os : Array Obj), d'.size = d.size → Mem (row enc T z (some ⟨b, off, none⟩) cap (d'.toList.map Subtype.val) :: A s :: FL) (Go.Proofs.sortWorldK enc' z w b off m d' os) := by
      intro m d' os hs'
      have hfs : (Go.Sort.flatK enc' z d').size = ((d'.toList.map Subtype.val).flatMap enc).length := by rw [← hfl d']; simp
      have hls : (d'.toList.map Subtype.val).length = xs.length := by simp; omega
      have hlf : ((d'.toList.map Subtype.val).flatMap enc).length = xs.length * z := by rw [flatMap_len hk, hls]
      have hlz : xs.length * z ≤ cap * z := Nat.mul_le_mul_right _ hl
      refine slP.of_pt (c := Go.Sort.putCells id off (Go.Sort.flatK enc' z d') c) ?_ (by rw [hls]; exact hl) ?_ ?_ (Holds.turnG hB rfl rfl rfl ?_ ?_ ?_)
      · rw [hlf, hls]
      · unfold Go.Sort.putCells; simp; exact hcs
      · intro j hj
        unfold Go.Sort.putCells
        rw [Array.getElem?_mapIdx]
        have : off + j < c.size := by omega
        simp only [Array.getElem?_eq_getElem this, Option.map_some]
        rw [if_pos ⟨by omega, by rw [hfs]; omega⟩, show off + j - off = j by omega, getElem!_pos (Go.Sort.flatK enc' z d') j (by rw [hfs]; exact hj)]
        have e2 := congrArg (fun l => l[j]?) (hfl d')
        rw [← e2]
        have hj3 : j < (Go.Sort.flatK enc' z d').size := by rw [hfs]; exact hj
        simp [hj3]
      · show w.drawn ≤ w.drawn + m
        omega
      · have hb := hB.block
        show ((w.heap.modify b _) ++ os)[b]? = _
        rw [Array.getElem?_append_left (by simpa using hblk), Array.getElem?_modify, if_pos rfl, hb]
        rfl
      · intro i hi hiw
        show ((w.heap.modify b _) ++ os)[i]? = _
        rw [Array.getElem?_append_left (by simpa using hiw), Array.getElem?_modify, if_neg (fun e => hi e.symm)]
    have hcmp : Go.Proofs.CmpLays P g cb enc' z (fun x y => cf x.1 y.1) b off d.size w := by
      intro m os dk hdk x y
      generalize hW1 : Go.Proofs.sortWorldK enc' z w b off m dk os = W1
      have hm := hworld m dk os hdk
      rw [hW1] at hm
      have hm2 : Holds (A s * (row enc T z (some ⟨b, off, none⟩) cap (dk.toList.map Subtype.val) * HL FL)) W1 := by rw [star_left_comm]; exact hm
      obtain ⟨f0, n0, hn0, ⟨f1, f2, hd1, hu1, hA1, f3, f4, hd2, hu2, -, hF4⟩, hs0⟩ := hm2
      have hfw : ∀ i x, f1 i = some x → W1.heap[i]? = some x := fun i x hx => hs0 i x (by rw [hu1 i, hx]; rfl)
      have hst : Mem [A s, restP W1 f1] W1 := rest_start ((hA _ _ _ hA1 _ _ _).2 rfl) hfw
      have hFL : ∀ w', Mem [restP W1 f1] w' → Mem FL w' := by
        rintro w' ⟨g0, n1, hn1, hr, hs1⟩
        have hr : (restP W1 f1 * emp) g0 ⟨w'.os, w'.tape, n1⟩ w'.output := hr
        rw [star_emp] at hr
        obtain ⟨⟨e1, e2, e3⟩, e4, e5⟩ := hr
        simp only at e1 e2 e3 e4
        refine ⟨f4, n0, by omega, by rw [e1, e2, e4]; exact hF4, fun i o hi => hs1 i o ?_⟩
        have h3 : f3 i = none := by
          rcases hd2 i with q | q
          · exact q
          · rw [q] at hi; cases hi
        have h2 : f2 i = some o := by rw [hu2 i, h3, hi]; rfl
        have hf1 : f1 i = none := by
          rcases hd1 i with q | q
          · exact q
          · rw [q] at h2; cases h2
        rw [e5 i, hf1]
        exact hs0 i o (by rw [hu1 i, hf1, h2]; rfl)
      have hcall := hY x.1 y.1 s (fun r s' => r = cf x.1 y.1 ∧ s' = s) [restP W1 f1] W1 (fun v w' => v = .int .i64 (cf x.1 y.1) ∧ ∃ q os', w' = Go.Sort.grow (W1.drewN q) os') hFL hst (hYc x.1 y.1 x.2 y.2 _ ⟨rfl, rfl⟩) (by
        rintro r s' w' hm' ⟨rfl, rfl⟩
        exact ⟨rfl, grow_of_kept (kept_of_rest hA hA1 hfw hm')⟩)
      unfold CalleeV at hcall
      simp only [hg, if_true] at hcall
      have e : (#[] : Array Value) ++ #[Value.agg (enc x.1).toArray, Value.agg (enc y.1).toArray] ++ cb = #[Value.agg (enc x.1).toArray, Value.agg (enc y.1).toArray] ++ cb := by simp
      rw [e] at hcall
      refine hcall.mono ?_
      rintro e w' ⟨v, rfl, rfl, hq⟩
      exact ⟨rfl, hq⟩
    have hmain := Go.Proofs.AnyQ.slices_SortFunc L z aE zE enc' hk' (fun x => h1 x.1) (fun x y => cf x.1 y.1) hswo g cb b off cap d w eg hcmp hH hblk (by omega)
    rw [hds] at hmain
    refine hmain.mono ?_
    rintro e w' ⟨rfl, d', n, os, hperm, hsorted, rfl⟩
    have hsz' : d'.size = d.size := by rw [hperm.1]
    refine ⟨_, rfl, hR (d'.toList.map Subtype.val) s _ (by simp; omega) (hworld n d' os hsz') (hK _ ?_ ?_)⟩
    · have h3 := hperm.2.2
      have e1 : (d'.extract 0 xs.length).toList = d'.toList := by simp [← hds, ← hsz']
      have e2 : (d.extract 0 xs.length).toList = d.toList := by simp [← hds]
      rw [e1, e2] at h3
      have := h3.map Subtype.val
      rwa [hdm] at this
    · rw [List.pairwise_map, List.pairwise_iff_getElem]
      intro i j hi hj hij
      simp only [Array.length_toList] at hi hj
      have := hsorted i j (Nat.zero_le _) hij (by omega)
      rw [getElem!_pos d' i hi, getElem!_pos d' j hj] at this
      simpa [Go.Proofs.ltOf] using this
end
end Go.Eng
