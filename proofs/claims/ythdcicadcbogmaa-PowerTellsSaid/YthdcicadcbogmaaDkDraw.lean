/- A region of operations, in whatever order. -/
import Derived.Test.YthdcicadcbogmaaDkRegion
set_option linter.all false
namespace Dk
open Go Go.RowKit
variable {P : Program} {num : Nat → FuncId} {ext : Ext}

/-- One order of a region: the states that it goes through, what each operation touches, and which must come first. -/
structure Trace (n : Nat) (Ts : Nat → Slots) (Hs : Nat → Heap) (dst : Nat → Option Nat) (tt : Nat → Option (List Nat × List Nat)) (names : Nat → List Nat) (qt : Nat → Bool) (bef : Nat → Nat → Prop) : Prop where
  le : ∀ i < n, (Hs i).length ≤ (Hs (i + 1)).length
  w1 : ∀ i < n, ∀ k : Nat, (Hs (i + 1))[k]? ≠ (Hs i)[k]? → (Hs i).length ≤ k ∨ ∀ R W, tt i = some (R, W) → k ∈ W
  tl : ∀ i < n, ∀ R W, tt i = some (R, W) → ∀ k, k ∈ R ∨ k ∈ W → k < (Hs i).length
  sl : ∀ i < n, ∀ t, dst i ≠ some t → (Ts (i + 1)).get t = (Ts i).get t
  quiet : ∀ i < n, qt i = true → (∀ k : Nat, (Hs (i + 1))[k]? = (Hs i)[k]?) ∧ tt i = some ([], [])
  o1 : ∀ i j, i < j → j < n → ∀ t, dst i = some t → dst j ≠ some t
  o2 : ∀ i j, i < j → j < n → ∀ t, (dst i = some t ∧ t ∈ names j) ∨ (dst j = some t ∧ t ∈ names i) → bef i j
  o3 : ∀ i j, i < j → j < n → bef i j ∨ qt i = true ∨ qt j = true ∨ apart (tt i) (tt j) = true

section
variable {n : Nat} {Ts : Nat → Slots} {Hs : Nat → Heap} {dst : Nat → Option Nat} {tt : Nat → Option (List Nat × List Nat)} {names : Nat → List Nat} {qt : Nat → Bool} {bef : Nat → Nat → Prop}

theorem Trace.mono (h : Trace n Ts Hs dst tt names qt bef) {i j : Nat} (hij : i ≤ j) (hj : j ≤ n) : (Hs i).length ≤ (Hs j).length := by
  induction hij with
  | refl => exact Nat.le_refl _
  | @step m hm ih => exact Nat.le_trans (ih (by omega)) (h.le m (by omega))
theorem Trace.stay {k i m : Nat} (him : i ≤ m) (hs : ∀ j, i ≤ j → j < m → (Hs (j + 1))[k]? = (Hs j)[k]?) : (Hs m)[k]? = (Hs i)[k]? := by
  induction him with
  | refl => rfl
  | @step m hm ih => exact (hs m hm (by omega)).trans (ih fun j h1 h2 => hs j h1 (by omega))
theorem Trace.slot (h : Trace n Ts Hs dst tt names qt bef) {t i m : Nat} (him : i ≤ m) (hm : m ≤ n) (hs : ∀ j, i ≤ j → j < m → dst j ≠ some t) : (Ts m).get t = (Ts i).get t := by
  induction him with
  | refl => rfl
  | @step m hm' ih => exact (h.sl m (by omega) t (hs m hm' (by omega))).trans (ih (by omega) fun j h1 h2 => hs j h1 (by omega))

theorem apart_iff {a b : Option (List Nat × List Nat)} (h : apart a b = true) : ∃ R W R' W', a = some (R, W) ∧ b = some (R', W') ∧ (∀ k ∈ W, k ∉ R' ∧ k ∉ W') ∧ ∀ k ∈ R, k ∉ W' := by
  unfold apart at h
  split at h
  · rename_i R W R' W'
    simp only [Bool.and_eq_true, List.all_eq_true, Bool.not_eq_true', Bool.or_eq_false_iff] at h
    refine ⟨R, W, R', W', rfl, rfl, fun k hk => ?_, fun k hk => ?_⟩
    · have := h.1 k hk
      simpa using this
    · have := h.2 k hk
      simpa using this
  · cases h

/-- What holds while the operations 'D' are done. -/
structure DInv (num : Nat → FuncId) (n : Nat) (Ts : Nat → Slots) (Hs : Nat → Heap) (dst : Nat → Option Nat) (tt : Nat → Option (List Nat × List Nat)) (nt : Nat) (D : Nat → Bool) (β0 : Bet) (w0 : World)
    (β : Bet) (hf : Nat → Option Blk) (a : Act) (w : World) : Prop where
  goes : Goes β0 (fun k => (Hs 0)[k]?) w0 β hf w
  dom0 : ∀ k, β k ≠ none → β0 k ≠ none ∨ (Hs 0).length ≤ k
  hr : HR num β hf w
  heap : ∀ k, β k ≠ none → ∀ m, m ≤ n → (∀ j, j < m → (Hs (j + 1))[k]? ≠ (Hs j)[k]? → D j = true) → (∀ j, m ≤ j → j < n → D j = true → (Hs (j + 1))[k]? = (Hs j)[k]?) → hf k = (Hs m)[k]?
  dom : ∀ k, β k ≠ none → k < (Hs 0).length ∨ ∃ j, j < n ∧ D j = true ∧ (Hs j).length ≤ k ∧ k < (Hs (j + 1)).length
  own : ∀ j, j < n → D j = true → ∀ k : Nat, (Hs (j + 1))[k]? ≠ (Hs j)[k]? → k < (Hs j).length → tt j ≠ none → β k ≠ none
  sl : ∀ t m, m ≤ n → (∀ j, j < m → dst j = some t → D j = true) → (∀ j, m ≤ j → j < n → D j = true → dst j ≠ some t) → VR num β hf w ((Ts m).get t) (a.tmps.getD t undef)
  size : a.tmps.size = nt
  defers : a.defers = []

variable {nt : Nat} {D : Nat → Bool} {β0 β : Bet} {hf : Nat → Option Blk} {a : Act} {w0 w : World}

theorem DInv.slot (hI : DInv num n Ts Hs dst tt nt D β0 w0 β hf a w) (hT : Trace n Ts Hs dst tt names qt bef) {i : Nat} (hi : i < n) (hD : D i = false) (hB1 : ∀ j, i < j → j < n → bef i j → D j = true → D i = true) (hB2 : ∀ j, j < i → bef j i → D j = true)
    {t : Nat} (ht : t ∈ names i) : VR num β hf w ((Ts i).get t) (a.tmps.getD t undef) := by
  refine hI.sl t i (by omega) (fun j hj hd => hB2 j hj (hT.o2 j i hj hi t (.inl ⟨hd, ht⟩))) fun j hj hjn hDj hd => ?_
  by_cases e : i = j
  · subst e; rw [hD] at hDj; cases hDj
  · have := hB1 j (by omega) hjn (hT.o2 i j (by omega) hjn t (.inr ⟨hd, ht⟩)) hDj
    rw [hD] at this; cases this

/-- A block that has a place came from the start or from an operation done. -/
theorem DInv.from_done (hI : DInv num n Ts Hs dst tt nt D β0 w0 β hf a w) (hT : Trace n Ts Hs dst tt names qt bef) {i k : Nat} (hi : i < n) (hk : β k ≠ none) (h1 : (Hs i).length ≤ k) (h2 : k < (Hs (i + 1)).length) : D i = true := by
  rcases hI.dom k hk with h | ⟨j, hj, hD, h3, h4⟩
  · have := hT.mono (Nat.zero_le i) (by omega); omega
  · by_cases e : j = i
    · subst e; exact hD
    · by_cases e2 : j < i
      · have := hT.mono (i := j + 1) (j := i) (by omega) (by omega); omega
      · have := hT.mono (i := i + 1) (j := j) (by omega) (by omega); omega

theorem wr_lt {i k : Nat} (h : (Hs (i + 1))[k]? ≠ (Hs i)[k]?) (h1 : (Hs i).length ≤ k) : k < (Hs (i + 1)).length := by
  refine Nat.lt_of_not_le fun h2 => h ?_
  rw [List.getElem?_eq_none h1, List.getElem?_eq_none h2]

/-- What the next operation touches is as in the order given. -/
theorem DInv.seen (hI : DInv num n Ts Hs dst tt nt D β0 w0 β hf a w) (hT : Trace n Ts Hs dst tt names qt bef) {i : Nat} (hi : i < n) (hD : D i = false) (hB1 : ∀ j, i < j → j < n → bef i j → D j = true → D i = true) (hB2 : ∀ j, j < i → bef j i → D j = true)
    {k : Nat} (hk : β k ≠ none) (ht : ∀ R W, tt i = some (R, W) → k ∈ R ∨ k ∈ W) : hf k = (Hs i)[k]? := by
  refine hI.heap k hk i (by omega) (fun j hj hw => ?_) fun j hj hjn hDj => ?_
  · by_cases hkl : (Hs j).length ≤ k
    · exact hI.from_done hT (by omega) hk hkl (wr_lt hw hkl)
    · rcases hT.w1 j (by omega) k hw with h | h
      · omega
      · rcases hT.o3 j i hj hi with h3 | h3 | h3 | h3
        · exact hB2 j hj h3
        · exact absurd ((hT.quiet j (by omega) h3).1 k) hw
        · have := ht _ _ (hT.quiet i hi h3).2
          rcases this with h | h <;> cases h
        · obtain ⟨R, W, R', W', e1, e2, e3, _⟩ := apart_iff h3
          have := e3 k (h _ _ e1)
          rcases ht _ _ e2 with h5 | h5
          · exact absurd h5 this.1
          · exact absurd h5 this.2
  · refine Classical.byContradiction fun hw => ?_
    have hij : i < j := by
      rcases Nat.lt_or_ge i j with h | h
      · exact h
      · have : i = j := by omega
        subst this; rw [hD] at hDj; cases hDj
    rcases hT.o3 i j hij hjn with h3 | h3 | h3 | h3
    · have := hB1 j hij hjn h3 hDj; rw [hD] at this; cases this
    · have := ht _ _ (hT.quiet i hi h3).2
      rcases this with h | h <;> cases h
    · exact absurd ((hT.quiet j hjn h3).1 k) hw
    · obtain ⟨R, W, R', W', e1, e2, e3, e4⟩ := apart_iff h3
      have hkl := hT.tl i hi R W e1 k (ht R W e1)
      have hm := hT.mono (i := i) (j := j) (by omega) (by omega)
      rcases hT.w1 j hjn k hw with h | h
      · omega
      · have h5 := h _ _ e2
        rcases ht R W e1 with h6 | h6
        · exact e4 k h6 h5
        · exact (e3 k h6).2 h5

/-- Two that write one block come in order. -/
theorem DInv.later (hI : DInv num n Ts Hs dst tt nt D β0 w0 β hf a w) (hT : Trace n Ts Hs dst tt names qt bef) {i : Nat} (hi : i < n) (hD : D i = false) (hB1 : ∀ j, i < j → j < n → bef i j → D j = true → D i = true)
    {k j : Nat} (hij : i < j) (hjn : j < n) (hDj : D j = true) (hwi : (Hs (i + 1))[k]? ≠ (Hs i)[k]?) (hwj : (Hs (j + 1))[k]? ≠ (Hs j)[k]?) : False := by
  have hki : k < (Hs (i + 1)).length := by
    refine Nat.lt_of_not_le fun h2 => hwi ?_
    have := hT.le i hi
    rw [List.getElem?_eq_none h2, List.getElem?_eq_none (by omega)]
  have hkj : k < (Hs j).length := Nat.lt_of_lt_of_le hki (hT.mono (by omega) (by omega))
  have hwj' := (hT.w1 j hjn k hwj).resolve_left (by omega)
  rcases hT.o3 i j hij hjn with h3 | h3 | h3 | h3
  · have := hB1 j hij hjn h3 hDj; rw [hD] at this; cases this
  · exact absurd ((hT.quiet i hi h3).1 k) hwi
  · exact absurd ((hT.quiet j hjn h3).1 k) hwj
  · obtain ⟨R, W, R', W', e1, e2, e3, e4⟩ := apart_iff h3
    rcases hT.w1 i hi k hwi with h | h
    · have hb := hI.own j hjn hDj k hwj hkj (by rw [e2]; simp)
      have := hI.from_done hT hi hb h hki
      rw [hD] at this; cases this
    · exact (e3 k (h _ _ e1)).2 (hwj' _ _ e2)

/-- One more operation done. -/
theorem DInv.next (hI : DInv num n Ts Hs dst tt nt D β0 w0 β hf a w) (hT : Trace n Ts Hs dst tt names qt bef) {i : Nat} (hi : i < n) (hD : D i = false) (hB1 : ∀ j, i < j → j < n → bef i j → D j = true → D i = true) (hB2 : ∀ j, j < i → bef j i → D j = true)
    {β' : Bet} {w' : World} {v : AV} {r : Value} {eff : Eff} {D' : Nat → Bool} (hD' : ∀ j, j < n → (D' j = true ↔ D j = true ∨ j = i))
    (hTs : Ts (i + 1) = (Ts i).put (dst i) v) (hHs : Hs (i + 1) = eff.on (Hs i)) (e1 : ∀ k b, eff = .put k b → k < (Hs i).length ∧ ∀ R W, tt i = some (R, W) → k ∈ W) (e2 : ∀ H', eff = .heap H' → tt i = none) (e3 : ∀ ks, eff = .frz ks → ∀ k ∈ ks, ∀ R W, tt i = some (R, W) → k ∈ W)
    (hs : ∀ R W k, tt i = some (R, W) → k ∈ R ∨ k ∈ W → β k ≠ none) (hd : ∀ t, dst i = some t → t < nt)
    (hg : Goes β hf w β' (eff.onF (Hs i).length hf) w') (hr' : HR num β' (eff.onF (Hs i).length hf) w') (hv : VR num β' (eff.onF (Hs i).length hf) w' v r) (hn : ∀ k, β' k ≠ none → β k ≠ none ∨ eff.news (Hs i).length k) :
    DInv num n Ts Hs dst tt nt D' β0 w0 β' (eff.onF (Hs i).length hf) (a.put (dst i) r) w' := by
  have hle := hT.le i hi
  have hDD : ∀ j, j < n → D j = true → D' j = true := fun j hj h => (hD' j hj).2 (.inl h)
  have hfresh : ∀ k, (Hs i).length ≤ k → k < (Hs (i + 1)).length → β k = none := fun k h1 h2 => by
    refine Classical.byContradiction fun h => ?_
    have := hI.from_done hT hi h h1 h2
    rw [hD] at this; cases this
  have hnews : ∀ k, eff.news (Hs i).length k → (Hs i).length ≤ k ∧ k < (Hs (i + 1)).length := fun k h => by
    rw [hHs]; exact news_lt h
  have hnw : ∀ k : Nat, (Hs i).length ≤ k → k < (Hs (i + 1)).length → (Hs (i + 1))[k]? ≠ (Hs i)[k]? := fun k h1 h2 h => by
    rw [List.getElem?_eq_getElem h2, List.getElem?_eq_none h1] at h; cases h
  have hseen : ∀ k, β k ≠ none → (∀ R W, tt i = some (R, W) → k ∈ R ∨ k ∈ W) → hf k = (Hs i)[k]? := fun k hk h => hI.seen hT hi hD hB1 hB2 hk h
  have k1 : ∀ k, (Hs (i + 1))[k]? = (Hs i)[k]? → β' k ≠ none → β k ≠ none ∧ eff.onF (Hs i).length hf k = hf k := by
    intro k hw hk
    have hb : β k ≠ none := by
      rcases hn k hk with h | h
      · exact h
      · obtain ⟨h1, h2⟩ := hnews k h
        exact absurd hw (hnw k h1 h2)
    refine ⟨hb, ?_⟩
    cases eff with
    | none => rfl
    | push b =>
      have : k ≠ (Hs i).length := fun e => hb (hfresh k (by omega) (by rw [hHs]; simp [Eff.on, e]))
      simp [Eff.onF, this]
    | put k1 b =>
      by_cases e : k = k1
      · subst e
        obtain ⟨h1, h2⟩ := e1 k b rfl
        have h3 := hseen k hb fun R W e => .inr (h2 R W e)
        simp only [Eff.onF, if_true]
        rw [h3, ← hw, hHs]
        simp [Eff.on, h1]
      · simp [Eff.onF, e]
    | heap H' =>
      have h3 := hseen k hb fun R W e => by rw [e2 H' rfl] at e; cases e
      rw [h3, ← hw, hHs]; rfl
    | frz ks =>
      simp only [Eff.onF]
      by_cases e : k ∈ ks
      · have h3 := hseen k hb fun R W h => .inr (e3 ks rfl k e R W h)
        rw [h3]
        rw [hHs] at hw
        simpa only [Eff.on, List.getElem?_mapIdx] using hw
      · have : frzB ks k = id := by funext b; simp [frzB, e]
        rw [this]; simp
  have k2 : ∀ k, (Hs (i + 1))[k]? ≠ (Hs i)[k]? → β' k ≠ none → eff.onF (Hs i).length hf k = (Hs (i + 1))[k]? := by
    intro k hw hk
    cases eff with
    | none => exact absurd (by rw [hHs]; rfl) hw
    | push b =>
      have : k = (Hs i).length := by
        refine Classical.byContradiction fun e => hw ?_
        rw [hHs]; simp only [Eff.on]
        by_cases h : k < (Hs i).length
        · rw [List.getElem?_append_left h]
        · rw [List.getElem?_eq_none (by simp; omega), List.getElem?_eq_none (by omega)]
      subst this
      rw [hHs]; simp [Eff.onF, Eff.on]
    | put kk b =>
      have : k = kk := by
        refine Classical.byContradiction fun e => hw ?_
        rw [hHs]; simp only [Eff.on]
        rw [List.getElem?_set_ne (fun h => e h.symm)]
      subst this
      obtain ⟨h1, h2⟩ := e1 k b rfl
      have hb : β k ≠ none := by
        rcases hn k hk with h | h
        · exact h
        · exact h.elim
      have h3 := hseen k hb fun R W e => .inr (h2 R W e)
      rw [hHs]; simp [Eff.onF, Eff.on, h3, h1]
    | heap H' => rw [hHs]; rfl
    | frz ks =>
      have hb : β k ≠ none := by
        rcases hn k hk with h | h
        · exact h
        · exact h.elim
      have e : k ∈ ks := by
        refine Classical.byContradiction fun e => hw ?_
        have : frzB ks k = id := by funext b; simp [frzB, e]
        rw [hHs]; simp only [Eff.on, List.getElem?_mapIdx, this]; simp
      have h3 := hseen k hb fun R W h => .inr (e3 ks rfl k e R W h)
      rw [hHs]; simp only [Eff.onF, Eff.on, List.getElem?_mapIdx, h3]
  refine ⟨hI.goes.trans hg, fun k hk => ?_, hr', fun k hk m hm c1 c2 => ?_, fun k hk => ?_, fun j hj hDj k hw hkl htt => ?_, fun t m hm c1 c2 => ?_, by rw [act_put_size, hI.size], by rw [act_put_defers, hI.defers]⟩
  · rcases hn k hk with h | h
    · exact hI.dom0 k h
    · have := hT.mono (Nat.zero_le i) (by omega)
      have := (hnews k h).1
      exact .inr (by omega)
  · by_cases hw : (Hs (i + 1))[k]? = (Hs i)[k]?
    · obtain ⟨hb, he⟩ := k1 k hw hk
      rw [he]
      refine hI.heap k hb m hm (fun j hj hwj => ?_) fun j hj hjn hDj => c2 j hj hjn (hDD j hjn hDj)
      rcases (hD' j (by omega)).1 (c1 j hj hwj) with h | h
      · exact h
      · subst h; exact absurd hw hwj
    · rw [k2 k hw hk]
      have him : i < m := by
        refine Nat.lt_of_not_le fun h => hw (c2 i h hi ((hD' i hi).2 (.inr rfl)))
      refine (Trace.stay (k := k) (i := i + 1) (m := m) him fun j h1 h2 => ?_).symm
      refine Classical.byContradiction fun hwj => ?_
      have hDj : D j = true := by
        rcases (hD' j (by omega)).1 (c1 j h2 hwj) with h | h
        · exact h
        · omega
      exact hI.later hT hi hD hB1 (by omega) (by omega) hDj hw hwj
  · rcases hn k hk with h | h
    · rcases hI.dom k h with h | ⟨j, hj, h1, h2⟩
      · exact .inl h
      · exact .inr ⟨j, hj, hDD j hj h1, h2⟩
    · exact .inr ⟨i, hi, (hD' i hi).2 (.inr rfl), hnews k h⟩
  · have hup : ∀ k, β k ≠ none → β' k ≠ none := fun k h => by
      cases hb : β k with
      | none => exact absurd hb h
      | some b => obtain ⟨b', hb'⟩ := hg.dom k b hb; rw [hb']; simp
    rcases (hD' j hj).1 hDj with h | h
    · exact hup k (hI.own j hj h k hw hkl htt)
    · subst h
      obtain ⟨⟨R, W⟩, h1⟩ := Option.ne_none_iff_exists'.1 htt
      exact hup k (hs R W k h1 (.inr (((hT.w1 j hj k hw).resolve_left (by omega)) R W h1)))
  · by_cases hdt : dst i = some t
    · have him : i < m := by
        refine Nat.lt_of_not_le fun h => c2 i h hi ((hD' i hi).2 (.inr rfl)) hdt
      rw [hT.slot (i := i + 1) him hm (fun j h1 h2 => hT.o1 i j (by omega) (by omega) t hdt), hTs, hdt, get_put_same, act_put_same (by rw [hI.size]; exact hd t hdt)]
      exact hv
    · have hne : (a.put (dst i) r).tmps.getD t undef = a.tmps.getD t undef := by
        cases hdi : dst i with
        | none => rfl
        | some d => exact act_put_ne fun e => hdt (by rw [hdi, e])
      rw [hne]
      refine hg.vr (hI.sl t m hm (fun j hj hdj => ?_) fun j hj hjn hDj => c2 j hj hjn (hDD j hjn hDj))
      rcases (hD' j (by omega)).1 (c1 j hj hdj) with h | h
      · exact h
      · subst h; exact absurd hdj hdt
end
end Dk
