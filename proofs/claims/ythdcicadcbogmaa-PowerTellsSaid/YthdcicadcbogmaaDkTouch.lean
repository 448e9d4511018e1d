/- What an operation touches. -/
import Derived.Test.YthdcicadcbogmaaDkStep
set_option linter.all false
namespace Dk
variable {ext : Ext} {T : Slots} {H : Heap}

theorem good_lt {k len : Nat} {b : Blk} (h : good H k len = some b) : k < H.length := by
  unfold good at h
  split at h
  · rename_i b' hb; exact (List.getElem?_eq_some_iff.1 hb).1
  · cases h
theorem lenOf_lt {v : AV} {n : Nat} (h : lenOf H v = some n) : ∀ k ∈ refs v, k < H.length := by
  unfold lenOf at h
  split at h <;> simp_all [refs]
  all_goals first | (obtain ⟨b, hb, _⟩ := h; exact good_lt hb) | (obtain ⟨⟨b, hb⟩, _⟩ := h; exact good_lt hb) | skip
theorem elems_lt {v : AV} {sz : Nat} {l : List AV} (h : elems H sz v = some l) : ∀ k ∈ refs v, k < H.length := by
  unfold elems at h
  split at h <;> simp_all [refs]
  all_goals (split at h <;> first | (rename_i hb; exact good_lt hb) | simp at h | skip)

/-- What is known of an operation done. -/
structure Tch (ext : Ext) (T : Slots) (H : Heap) (so : SO) (eff : Eff) : Prop where
  put : ∀ k b, eff = .put k b → k < H.length ∧ ∀ R W, touch ext T so = some (R, W) → k ∈ W
  heap : ∀ H', eff = .heap H' → H.length ≤ H'.length ∧ touch ext T so = none
  lt : ∀ R W, touch ext T so = some (R, W) → ∀ k, k ∈ R ∨ k ∈ W → k < H.length
  frz : ∀ ks, eff = .frz ks → ∀ k ∈ ks, ∀ R W, touch ext T so = some (R, W) → k ∈ W

theorem Tch.quiet {so : SO} (h : touch ext T so = some ([], [])) {eff : Eff} (he : eff = .none ∨ ∃ b, eff = .push b) : Tch ext T H so eff := by
  refine ⟨fun k b e => ?_, fun H' e => ?_, fun R W e k hk => ?_, fun ks e => ?_⟩
  · rcases he with he | ⟨b, he⟩ <;> rw [he] at e <;> cases e
  · rcases he with he | ⟨b, he⟩ <;> rw [he] at e <;> cases e
  rotate_left
  · rcases he with he | ⟨b, he⟩ <;> rw [he] at e <;> cases e
  · rw [h] at e; injection e with e; injection e with e1 e2; subst e1; subst e2; rcases hk with hk | hk <;> cases hk
theorem Tch.reads {so : SO} {rs : List Nat} (h : touch ext T so = some (rs, [])) (hl : ∀ k ∈ rs, k < H.length) {eff : Eff} (he : eff = .none) : Tch ext T H so eff := by
  refine ⟨fun k b e => ?_, fun H' e => ?_, fun R W e k hk => ?_, fun ks e => by rw [he] at e; cases e⟩
  · rw [he] at e; cases e
  · rw [he] at e; cases e
  · rw [h] at e; injection e with e; injection e with e1 e2; subst e1; subst e2; rcases hk with hk | hk
    · exact hl k hk
    · cases hk
theorem toArg1_lt {a a' : AV} (h : toArg1 H a = some a') : ∀ k ∈ refs a, k < H.length := by
  unfold toArg1 at h
  split at h
  · simp [refs]
  · simp [refs]
  · split at h
    · rename_i hg; simpa [refs] using good_lt hg
    · cases h
  · split at h
    · rename_i hg; simpa [refs] using good_lt hg
    · cases h
  · split at h
    · rename_i hg; simpa [refs] using good_lt hg
    · cases h
  · cases h
theorem toArgl_lt : ∀ {l as : List AV}, toArgl H l = some as → ∀ k ∈ l.flatMap refs, k < H.length
  | [], _, _ => by simp
  | a :: l, as, h => by
    simp only [toArgl] at h
    split at h
    · rename_i p ps h1 h2
      intro k hk
      rw [List.flatMap_cons] at hk
      rcases List.mem_append.1 hk with hk | hk
      · exact toArg1_lt h1 k hk
      · exact toArgl_lt h2 k hk
    · cases h
theorem toArg_lt {a a' : AV} (h : toArg H a = some a') : ∀ k ∈ refsA a, k < H.length := by
  cases a with
  | agg l =>
    simp only [toArg] at h
    split at h
    · rename_i as has; exact toArgl_lt has
    · cases h
  | fn n l =>
    simp only [toArg, Option.map_eq_some_iff] at h
    obtain ⟨as, has, _⟩ := h
    exact toArgl_lt has
  | pv q => exact toArg1_lt (a := .pv q) h
  | rp p off => exact toArg1_lt (a := .rp p off) h
  | sl k len => exact toArg1_lt (a := .sl k len) h
  | ptr k len i off => exact toArg1_lt (a := .ptr k len i off) h
  | asl k len i off cnt esz => exact toArg1_lt (a := .asl k len i off cnt esz) h
  | _ => simp [toArg, toArg1] at h
theorem toArgs_lt : ∀ {l as : List AV}, toArgs H l = some as → ∀ k ∈ l.flatMap refsA, k < H.length
  | [], _, _ => by simp
  | a :: l, as, h => by
    simp only [toArgs] at h
    split at h
    · rename_i p ps h1 h2
      intro k hk
      rw [List.flatMap_cons] at hk
      rcases List.mem_append.1 hk with hk | hk
      · exact toArg_lt h1 k hk
      · exact toArgs_lt h2 k hk
    · cases h

theorem tch_call {so : SO} {n : Nat} {args : List AV} {v : AV} {eff : Eff} (ht : touch ext T so = touchC ext n args) (h : callSem ext n args H = some (v, eff)) : Tch ext T H so eff := by
  unfold callSem at h
  unfold touchC at ht
  split at h
  · rename_i g hg
    rw [if_pos (by rw [hg]; rfl)] at ht
    split at h
    · rename_i ps hps
      rw [if_pos (by rw [hps]; rfl)] at ht
      simp at h; obtain ⟨r, _, _, rfl⟩ := h
      exact .quiet ht (.inl rfl)
    · rename_i hps
      rw [if_neg (by rw [hps]; simp)] at ht
      split at h
      · rename_i as has
        have hlt := toArgs_lt has
        split at h
        · split at h
          · rename_i hfl
            rw [if_pos hfl] at ht
            split at h
            · simp at h
              exact .reads ht hlt h.2.symm
            · cases h
          · rename_i hfl
            rw [if_neg hfl] at ht
            simp only [Option.some.injEq, Prod.mk.injEq] at h
            obtain ⟨_, rfl⟩ := h
            refine ⟨fun k b e => (by cases e), fun H' e => (by cases e), fun R W e k hk => ?_, fun ks e k hk R W e2 => ?_⟩
            · rw [ht] at e; cases e
              rcases hk with hk | hk <;> exact hlt k hk
            · cases e
              rw [ht] at e2; cases e2; exact hk
        · cases h
      · cases h
  · rename_i hg
    rw [if_neg (by rw [hg]; simp)] at ht
    split at h
    · split at h
      · split at h
        · rename_i hl
          simp only [Option.some.injEq, Prod.mk.injEq] at h
          obtain ⟨_, rfl⟩ := h
          refine ⟨fun k b e => (by cases e), fun H' e => (by cases e; exact ⟨hl, ht⟩), fun R W e => (by rw [ht] at e; cases e), fun ks e => (by cases e)⟩
        · cases h
      · cases h
    · cases h

theorem omap_match {α β : Type} (f : α → β) (o : Option α) : o.map f = match o with | some a => some (f a) | none => none := by cases o <;> rfl
theorem refs_lt_ptr {v : AV} {k len i off : Nat} {b : Blk} (hv : v = .ptr k len i off) (h : good H k len = some b) : ∀ k ∈ refs v, k < H.length := by
  subst hv; simpa [refs] using good_lt h
theorem refs_lt_sl {v : AV} {k len : Nat} {b : Blk} (hv : v = .sl k len) (h : good H k len = some b) : ∀ k ∈ refs v, k < H.length := by
  subst hv; simpa [refs] using good_lt h
theorem refs_lt_asl {v : AV} {k len i off c e : Nat} {b : Blk} (hv : v = .asl k len i off c e) (h : good H k len = some b) : ∀ k ∈ refs v, k < H.length := by
  subst hv; simpa [refs] using good_lt h
theorem refs_pv {v : AV} {p : PV} (hv : v = .pv p) : ∀ k ∈ refs v, k < H.length := by subst hv; simp [refs]
theorem refs_rp {v : AV} {p : PV} {o : Nat} (hv : v = .rp p o) : ∀ k ∈ refs v, k < H.length := by subst hv; simp [refs]
theorem refs_slots {T : Slots} {x : SX} {k : Nat} (h : k ∈ refs (x.ev T)) : ∃ t ∈ x.slots, k ∈ refs (T.get t) := by
  cases x with
  | t n => exact ⟨n, by simp [SX.slots], h⟩
  | c p => simp [SX.ev, refs] at h
theorem step_touch {so : SO} {v : AV} {eff : Eff} (h : step ext T H so = some (v, eff)) : Tch ext T H so eff := by
  cases so with
  | move x =>
    refine .quiet rfl (.inl ?_)
    simp only [step, omap_match] at h
    grind
  | pick c x y =>
    refine .quiet rfl (.inl ?_)
    simp only [step, omap_match] at h
    grind
  | alloc sz z =>
    refine .quiet rfl ?_
    simp only [step, omap_match] at h
    grind
  | box sz x =>
    refine .quiet rfl ?_
    simp only [step, omap_match] at h
    grind
  | load m x =>
    have he : eff = .none ∧ ∀ k ∈ refs (x.ev T), k < H.length := by
      simp only [step, omap_match] at h
      grind [refs_lt_ptr, refs_lt_sl, refs_lt_asl, refs_pv, refs_rp, elems_lt, lenOf_lt]
    exact .reads rfl he.2 he.1
  | nilck x =>
    have he : eff = .none ∧ ∀ k ∈ refs (x.ev T), k < H.length := by
      simp only [step, omap_match] at h
      grind [refs_lt_ptr, refs_lt_sl, refs_lt_asl, refs_pv, refs_rp, elems_lt, lenOf_lt]
    exact .reads rfl he.2 he.1
  | bin op x y =>
    refine .quiet rfl (.inl ?_)
    simp only [step, omap_match] at h
    grind
  | eqA neg ks x y =>
    refine .quiet rfl (.inl ?_)
    simp only [step, omap_match] at h
    grind
  | isNil neg x =>
    have he : eff = .none ∧ ∀ k ∈ refs (x.ev T), k < H.length := by
      simp only [step, omap_match] at h
      grind [refs_lt_ptr, refs_lt_sl, refs_lt_asl, refs_pv, refs_rp, elems_lt, lenOf_lt]
    exact .reads rfl he.2 he.1
  | isNilP neg x =>
    have he : eff = .none ∧ ∀ k ∈ refs (x.ev T), k < H.length := by
      simp only [step, omap_match] at h
      grind [refs_lt_ptr, refs_lt_sl, refs_lt_asl, refs_pv, refs_rp, elems_lt, lenOf_lt]
    exact .reads rfl he.2 he.1
  | eqB neg x y =>
    refine .quiet rfl (.inl ?_)
    simp only [step, omap_match] at h
    grind
  | un op x =>
    refine .quiet rfl (.inl ?_)
    simp only [step, omap_match] at h
    grind
  | conv k x =>
    refine .quiet rfl (.inl ?_)
    simp only [step, omap_match] at h
    grind
  | convSB x =>
    have he : eff = .none ∧ ∀ k ∈ refs (x.ev T), k < H.length := by
      simp only [step, omap_match] at h
      grind [refs_lt_ptr, refs_lt_sl, refs_lt_asl, refs_pv, refs_rp, elems_lt, lenOf_lt]
    exact .reads rfl he.2 he.1
  | convBS x =>
    refine .quiet rfl (.inl ?_)
    simp only [step, omap_match] at h
    grind
  | mkfn n caps =>
    refine .quiet rfl (.inl ?_)
    simp only [step, omap_match] at h
    grind
  | mkslice sz z bytes l c =>
    refine .quiet rfl ?_
    simp only [step, omap_match] at h
    grind
  | sliceA cnt esz x =>
    have he : eff = .none ∧ ∀ k ∈ refs (x.ev T), k < H.length := by
      simp only [step, omap_match] at h
      grind [refs_lt_ptr, refs_lt_sl, refs_lt_asl, refs_pv, refs_rp, elems_lt, lenOf_lt]
    exact .reads rfl he.2 he.1
  | slice esz x lo hi =>
    have he : eff = .none ∧ ∀ k ∈ refs (x.ev T), k < H.length := by
      simp only [step, omap_match] at h
      grind [refs_lt_ptr, refs_lt_sl, refs_lt_asl, refs_pv, refs_rp, elems_lt, lenOf_lt]
    exact .reads rfl he.2 he.1
  | sliceStr x lo hi =>
    refine .quiet rfl (.inl ?_)
    simp only [step, omap_match] at h
    grind
  | lenStr x =>
    refine .quiet rfl (.inl ?_)
    simp only [step, omap_match] at h
    grind
  | fld off x =>
    have he : eff = .none ∧ ∀ k ∈ refs (x.ev T), k < H.length := by
      simp only [step, omap_match] at h
      grind [refs_lt_ptr, refs_lt_sl, refs_lt_asl, refs_pv, refs_rp, elems_lt, lenOf_lt]
    exact .reads rfl he.2 he.1
  | idxA cnt esz x i =>
    have he : eff = .none ∧ ∀ k ∈ refs (x.ev T), k < H.length := by
      simp only [step, omap_match] at h
      grind [refs_lt_ptr, refs_lt_sl, refs_lt_asl, refs_pv, refs_rp, elems_lt, lenOf_lt]
    exact .reads rfl he.2 he.1
  | idxS esz x i =>
    have he : eff = .none ∧ ∀ k ∈ refs (x.ev T), k < H.length := by
      simp only [step, omap_match] at h
      grind [refs_lt_ptr, refs_lt_sl, refs_lt_asl, refs_pv, refs_rp, elems_lt, lenOf_lt]
    exact .reads rfl he.2 he.1
  | field off m x =>
    refine .quiet rfl (.inl ?_)
    simp only [step, omap_match] at h
    grind
  | index cnt esz m x i =>
    refine .quiet rfl (.inl ?_)
    simp only [step, omap_match] at h
    grind
  | indexStr x i =>
    refine .quiet rfl (.inl ?_)
    simp only [step, omap_match] at h
    grind
  | extract i x =>
    refine .quiet rfl (.inl ?_)
    simp only [step, omap_match] at h
    grind
  | len x =>
    have he : eff = .none ∧ ∀ k ∈ refs (x.ev T), k < H.length := by
      simp only [step, omap_match] at h
      grind [refs_lt_ptr, refs_lt_sl, refs_lt_asl, refs_pv, refs_rp, elems_lt, lenOf_lt]
    exact .reads rfl he.2 he.1
  | mn x y =>
    refine .quiet rfl (.inl ?_)
    simp only [step, omap_match] at h
    grind
  | mx x y =>
    refine .quiet rfl (.inl ?_)
    simp only [step, omap_match] at h
    grind
  | lookup z ok str x k =>
    refine .quiet rfl (.inl ?_)
    simp only [step, omap_match] at h
    grind
  | build z parts =>
    refine .quiet rfl (.inl ?_)
    simp only [step, omap_match] at h
    grind
  | mkrow sz xs =>
    refine .quiet rfl ?_
    simp only [step, omap_match] at h
    grind
  | store m x y =>
    have he : (∃ k b, eff = .put k b ∧ k ∈ refs (x.ev T)) ∧ ∀ k ∈ refs (x.ev T), k < H.length := by
      simp only [step, omap_match] at h
      split at h
      · rename_i k len i off hx
        refine ⟨?_, ?_⟩
        · rw [hx]; simp only [refs, List.mem_singleton]
          grind
        · split at h
          · rename_i b hb; exact refs_lt_ptr hx hb
          · cases h
      · cases h
    obtain ⟨⟨k1, b1, h1, h2⟩, h3⟩ := he
    refine ⟨fun k b e => ?_, fun H' e => ?_, fun R W e k hk => ?_, fun ks e => by first | (rw [h1] at e; cases e; done) | (rcases h1 with (h1 | ⟨b1, h1⟩) | ⟨k1, b1, h1, h4⟩ <;> rw [h1] at e <;> cases e)⟩
    · rw [h1] at e; cases e
      exact ⟨h3 _ h2, fun R W e => by simp only [touch] at e; cases e; exact h2⟩
    · rw [h1] at e; cases e
    · simp only [touch] at e; cases e
      rcases hk with hk | hk
      · cases hk
      · exact h3 _ hk
  | append sz bytes x y =>
    have he : ((eff = .none ∨ ∃ b, eff = .push b) ∨ (∃ k b, eff = .put k b ∧ k ∈ refs (x.ev T))) ∧ (∀ k ∈ refs (x.ev T), k < H.length) ∧ ∀ k ∈ refs (y.ev T), k < H.length := by
      simp only [step, omap_match] at h
      grind [refs_lt_ptr, refs_lt_sl, refs_lt_asl, refs_pv, refs_rp, elems_lt, lenOf_lt, refs]
    obtain ⟨h1, h2, h3⟩ := he
    refine ⟨fun k b e => ?_, fun H' e => ?_, fun R W e k hk => ?_, fun ks e => by first | (rw [h1] at e; cases e; done) | (rcases h1 with (h1 | ⟨b1, h1⟩) | ⟨k1, b1, h1, h4⟩ <;> rw [h1] at e <;> cases e)⟩
    · rcases h1 with (h1 | ⟨b1, h1⟩) | ⟨k1, b1, h1, h4⟩ <;> rw [h1] at e <;> cases e
      exact ⟨h2 _ h4, fun R W e => by simp only [touch] at e; cases e; exact h4⟩
    · rcases h1 with (h1 | ⟨b1, h1⟩) | ⟨k1, b1, h1, h4⟩ <;> rw [h1] at e <;> cases e
    · simp only [touch] at e; cases e
      rcases hk with hk | hk
      · exact h3 _ hk
      · exact h2 _ hk
  | copy sz x y =>
    have he : (∃ k b, eff = .put k b ∧ k ∈ refs (x.ev T)) ∧ (∀ k ∈ refs (x.ev T), k < H.length) ∧ ∀ k ∈ refs (y.ev T), k < H.length := by
      simp only [step, omap_match] at h
      grind [refs_lt_ptr, refs_lt_sl, refs_lt_asl, refs_pv, refs_rp, elems_lt, lenOf_lt, refs]
    obtain ⟨⟨k1, b1, h1, h4⟩, h2, h3⟩ := he
    refine ⟨fun k b e => ?_, fun H' e => ?_, fun R W e k hk => ?_, fun ks e => by first | (rw [h1] at e; cases e; done) | (rcases h1 with (h1 | ⟨b1, h1⟩) | ⟨k1, b1, h1, h4⟩ <;> rw [h1] at e <;> cases e)⟩
    · rw [h1] at e; cases e
      exact ⟨h2 _ h4, fun R W e => by simp only [touch] at e; cases e; exact h4⟩
    · rw [h1] at e; cases e
    · simp only [touch] at e; cases e
      rcases hk with hk | hk
      · exact h3 _ hk
      · exact h2 _ hk
  | call f xs => exact tch_call rfl h
  | callv f xs =>
    simp only [step] at h
    split at h
    · rename_i n hf; exact tch_call (by simp only [touch, hf]) h
    · rename_i n caps hf; exact tch_call (by simp only [touch, hf]) h
    · cases h
section
open Go
variable {num : Nat → FuncId} {β : Bet} {hf : Nat → Option Blk} {w : World}
theorem vr_refs {x : AV} {v : Value} {k : Nat} (h : VR num β hf w x v) (hk : k ∈ refs x) : β k ≠ none := by
  cases h with
  | ptr b blk hb => simp [refs] at hk; subst hk; rw [hb]; simp
  | sl b blk hb => simp [refs] at hk; subst hk; rw [hb]; simp
  | asl b blk hb => simp [refs] at hk; subst hk; rw [hb]; simp
  | _ => simp [refs] at hk
theorem vr_get {l : List AV} {vs : Array Value} (hl : l.length = vs.size) (h : ∀ (i : Nat) (a : AV) (v : Value), l[i]? = some a → vs[i]? = some v → VR num β hf w a v) {c : AV} (hc : c ∈ l) : ∃ u, VR num β hf w c u := by
  obtain ⟨i, hi⟩ := List.getElem?_of_mem hc
  have hlt : i < vs.size := by rw [← hl]; exact (List.getElem?_eq_some_iff.1 hi).1
  exact ⟨vs[i], h i c vs[i] hi (Array.getElem?_eq_getElem hlt)⟩
theorem vr_refsA {x : AV} {v : Value} {k : Nat} (h : VR num β hf w x v) (hk : k ∈ refsA x) : β k ≠ none := by
  cases x with
  | agg l =>
    cases h with
    | agg vs hl hone hv =>
      obtain ⟨c, hc, hkc⟩ := List.mem_flatMap.1 hk
      obtain ⟨u, hu⟩ := vr_get hl hv hc
      exact vr_refs hu hkc
  | fn n l =>
    cases h with
    | fn vs hl hv =>
      obtain ⟨c, hc, hkc⟩ := List.mem_flatMap.1 hk
      obtain ⟨u, hu⟩ := vr_get hl hv hc
      exact vr_refs hu hkc
  | _ => exact vr_refs h hk
theorem touch_dom {so : SO} {R W : List Nat} {k : Nat} {f : Nat → Value} (hT : ∀ t ∈ so.slots, VR num β hf w (T.get t) (f t)) (h : touch ext T so = some (R, W)) (hk : k ∈ R ∨ k ∈ W) : β k ≠ none := by
  have evx : ∀ x : SX, (∀ t ∈ x.slots, t ∈ so.slots) → k ∈ refsA (x.ev T) → β k ≠ none := by
    intro x hs hx
    cases x with
    | t n => exact vr_refsA (hT n (hs n (by simp [SX.slots]))) hx
    | c p => simp [SX.ev, refsA, refs] at hx
  have main : ∀ x : SX, k ∈ refs (x.ev T) → (∀ t ∈ x.slots, t ∈ so.slots) → β k ≠ none := by
    intro x hx hs
    refine evx x hs ?_
    generalize x.ev T = v at hx
    cases v <;> first | exact hx | (simp [refs] at hx; done)
  have calls : ∀ (n : Nat) (xs : List SX) (caps : List AV), touchC ext n (xs.map (·.ev T) ++ caps) = some (R, W) → (∀ x ∈ xs, ∀ t ∈ x.slots, t ∈ so.slots) → (∀ c ∈ caps, k ∈ refsA c → β k ≠ none) → β k ≠ none := by
    intro n xs caps h hs hc
    unfold touchC at h
    split at h
    · simp only [Option.some.injEq] at h
      have hk2 : k ∈ (xs.map (·.ev T) ++ caps).flatMap refsA := by
        split at h
        · cases h; rcases hk with hk | hk <;> cases hk
        · simp only [Prod.mk.injEq] at h
          obtain ⟨rfl, rfl⟩ := h
          rcases hk with hk | hk
          · exact hk
          · split at hk
            · cases hk
            · exact hk
      obtain ⟨a, ha, hka⟩ := List.mem_flatMap.1 hk2
      rcases List.mem_append.1 ha with ha | ha
      · obtain ⟨x, hx, rfl⟩ := List.mem_map.1 ha
        exact evx x (hs x hx) hka
      · exact hc a ha hka
    · cases h
  cases so with
  | call f xs => exact calls f xs [] (by simpa [touch] using h) (fun x hx t ht => by simp only [SO.slots]; exact List.mem_flatMap.2 ⟨x, hx, ht⟩) (by simp)
  | callv f xs =>
    have hsx : ∀ x ∈ xs, ∀ t ∈ x.slots, t ∈ (SO.callv f xs).slots := fun x hx t ht => by simp only [SO.slots]; exact List.mem_append.2 (.inr (List.mem_flatMap.2 ⟨x, hx, ht⟩))
    simp only [touch] at h
    split at h
    · exact calls _ xs [] (by simpa using h) hsx (by simp)
    · rename_i n caps hf
      refine calls n xs caps h hsx fun c hc hkc => ?_
      cases f with
      | t m =>
        have hf : T.get m = .fn n caps := hf
        have hv := hT m (by simp [SO.slots, SX.slots])
        rw [hf] at hv
        generalize f m = z at hv
        cases hv with
        | fn vs hl hv =>
          obtain ⟨u, hu⟩ := vr_get hl hv hc
          exact vr_refsA hu hkc
      | c p => cases hf
    · cases h
  | _ =>
    simp only [touch] at h
    simp only [Option.some.injEq, Prod.mk.injEq] at h
    obtain ⟨rfl, rfl⟩ := h
    (try simp only [List.not_mem_nil, or_false, false_or] at hk) <;> first
      | exact main _ hk fun t ht => by simp [SO.slots, ht]
      | (rcases hk with hk | hk <;> exact main _ hk fun t ht => by simp [SO.slots, ht])
end
end Dk
