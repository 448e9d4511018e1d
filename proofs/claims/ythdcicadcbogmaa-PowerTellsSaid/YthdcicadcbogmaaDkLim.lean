/- One table that knows what each of the bounded ones does. -/
import Derived.Test.YthdcicadcbogmaaDkRun
set_option linter.all false
namespace Dk
open Go Go.RowKit

theorem ELe.trans {a b c : Ext} (h : ELe a b) (g : ELe b c) : ELe a c := by
  refine ⟨fun n => (h.p0 n).trans (g.p0 n), fun n u v hu hv xs r e => ?_, fun n => (h.fl n).trans (g.fl n), fun n => (h.i0 n).trans (g.i0 n), fun n u v hu hv xs H r e => ?_⟩
  · cases hb : b.p n with
    | none => rw [(h.p0 n).2 hb] at hu; cases hu
    | some q => exact g.p n q v hb hv xs r (h.p n u q hu hb xs r e)
  · cases hb : b.i n with
    | none => rw [(h.i0 n).2 hb] at hu; cases hu
    | some q => exact g.i n q v hb hv xs H r (h.i n u q hu hb xs H r e)
theorem extF_mono (t : Tab) (k d : Nat) : ELe (extF t k) (extF t (k + d)) := by
  induction d with
  | zero => exact ELe.refl _
  | succ d ih => exact ih.trans (extF_le1 t (k + d))
theorem extF_le (t : Tab) {k k' : Nat} (h : k ≤ k') : ELe (extF t k) (extF t k') := by
  obtain ⟨d, rfl⟩ := Nat.le.dest h
  exact extF_mono t k d

open Classical in
noncomputable def limP (t : Tab) (n : Nat) (args : List AV) : Option PV :=
  if h : ∃ (r : PV) (k : Nat) (g : List AV → Option PV), (extF t k).p n = some g ∧ g args = some r then some h.choose else none
open Classical in
noncomputable def limI (t : Tab) (n : Nat) (args : List AV) (H : Heap) : Option (AV × Heap) :=
  if h : ∃ (r : AV × Heap) (k : Nat) (g : List AV → Heap → Option (AV × Heap)), (extF t k).i n = some g ∧ g args H = some r then some h.choose else none
noncomputable def lim (t : Tab) : Ext := ⟨fun n => ((extF t 0).p n).map fun _ => limP t n, t.fl, fun n => ((extF t 0).i n).map fun _ => limI t n⟩

theorem limP_iff {t : Tab} {n : Nat} {args : List AV} {r : PV} : limP t n args = some r ↔ ∃ (k : Nat) (g : List AV → Option PV), (extF t k).p n = some g ∧ g args = some r := by
  have det : ∀ (r r' : PV), (∃ (k : Nat) (g : List AV → Option PV), (extF t k).p n = some g ∧ g args = some r) → (∃ (k : Nat) (g : List AV → Option PV), (extF t k).p n = some g ∧ g args = some r') → r = r' := by
    rintro r r' ⟨k, g, h1, h2⟩ ⟨k', g', h1', h2'⟩
    have a1 : ELe (extF t k) (extF t (max k k')) := extF_le t (Nat.le_max_left k k')
    have a2 : ELe (extF t k') (extF t (max k k')) := extF_le t (Nat.le_max_right k k')
    cases hb : (extF t (max k k')).p n with
    | none => rw [(a1.p0 n).2 hb] at h1; cases h1
    | some q =>
      have e1 := a1.p n g q h1 hb args r h2
      have e2 := a2.p n g' q h1' hb args r' h2'
      rw [e1] at e2; injection e2
  constructor
  · intro h
    unfold limP at h
    split at h
    · rename_i hex; injection h with h; subst h; exact hex.choose_spec
    · cases h
  · intro h
    unfold limP
    have hex : ∃ (r : PV) (k : Nat) (g : List AV → Option PV), (extF t k).p n = some g ∧ g args = some r := ⟨r, h⟩
    rw [dif_pos hex]
    exact congrArg some (det _ _ hex.choose_spec h)
theorem limI_iff {t : Tab} {n : Nat} {args : List AV} {H : Heap} {r : AV × Heap} : limI t n args H = some r ↔ ∃ (k : Nat) (g : List AV → Heap → Option (AV × Heap)), (extF t k).i n = some g ∧ g args H = some r := by
  have det : ∀ (r r' : AV × Heap), (∃ (k : Nat) (g : List AV → Heap → Option (AV × Heap)), (extF t k).i n = some g ∧ g args H = some r) → (∃ (k : Nat) (g : List AV → Heap → Option (AV × Heap)), (extF t k).i n = some g ∧ g args H = some r') → r = r' := by
    rintro r r' ⟨k, g, h1, h2⟩ ⟨k', g', h1', h2'⟩
    have a1 : ELe (extF t k) (extF t (max k k')) := extF_le t (Nat.le_max_left k k')
    have a2 : ELe (extF t k') (extF t (max k k')) := extF_le t (Nat.le_max_right k k')
    cases hb : (extF t (max k k')).i n with
    | none => rw [(a1.i0 n).2 hb] at h1; cases h1
    | some q =>
      have e1 := a1.i n g q h1 hb args H r h2
      have e2 := a2.i n g' q h1' hb args H r' h2'
      rw [e1] at e2; injection e2
  constructor
  · intro h
    unfold limI at h
    split at h
    · rename_i hex; injection h with h; subst h; exact hex.choose_spec
    · cases h
  · intro h
    unfold limI
    have hex : ∃ (r : AV × Heap) (k : Nat) (g : List AV → Heap → Option (AV × Heap)), (extF t k).i n = some g ∧ g args H = some r := ⟨r, h⟩
    rw [dif_pos hex]
    exact congrArg some (det _ _ hex.choose_spec h)

theorem lim_pe {t : Tab} {n : Nat} {g : List AV → Option PV} (h : (lim t).p n = some g) : g = limP t n ∧ ∀ k, (extF t k).p n ≠ none := by
  have h : ((extF t 0).p n).map (fun _ => limP t n) = some g := h
  cases hb : (extF t 0).p n with
  | none => rw [hb] at h; cases h
  | some q =>
    rw [hb] at h; injection h with h
    exact ⟨h.symm, fun k e => by rw [((extF_le t (Nat.zero_le k)).p0 n).2 e] at hb; cases hb⟩
theorem lim_ie {t : Tab} {n : Nat} {g : List AV → Heap → Option (AV × Heap)} (h : (lim t).i n = some g) : g = limI t n ∧ ∀ k, (extF t k).i n ≠ none := by
  have h : ((extF t 0).i n).map (fun _ => limI t n) = some g := h
  cases hb : (extF t 0).i n with
  | none => rw [hb] at h; cases h
  | some q =>
    rw [hb] at h; injection h with h
    exact ⟨h.symm, fun k e => by rw [((extF_le t (Nat.zero_le k)).i0 n).2 e] at hb; cases hb⟩

theorem extF_lim (t : Tab) (k : Nat) : ELe (extF t k) (lim t) := by
  have z := extF_le t (Nat.zero_le k)
  refine ⟨fun n => ?_, fun n g g' h h' xs r e => ?_, fun n => ?_, fun n => ?_, fun n g g' h h' xs H r e => ?_⟩
  · show _ ↔ ((extF t 0).p n).map (fun _ => limP t n) = none
    rw [Option.map_eq_none_iff]; exact (z.p0 n).symm
  · obtain ⟨rfl, _⟩ := lim_pe h'
    exact limP_iff.2 ⟨k, g, h, e⟩
  · cases k <;> rfl
  · show _ ↔ ((extF t 0).i n).map (fun _ => limI t n) = none
    rw [Option.map_eq_none_iff]; exact (z.i0 n).symm
  · obtain ⟨rfl, _⟩ := lim_ie h'
    exact limI_iff.2 ⟨k, g, h, e⟩

theorem lim_ok {P : Program} {num : Nat → FuncId} {t : Tab} (hm : P.follows .mixedOrders = true) (h : TabOK P num t) : ExtOK P num (lim t) := by
  refine ⟨fun n g hg => ?_, fun n g hg => ?_⟩
  · obtain ⟨rfl, hne⟩ := lim_pe hg
    cases hb : (extF t 0).p n with
    | none => exact absurd hb (hne 0)
    | some q =>
      refine ⟨((extF_ok hm h 0).p n q hb).1, fun args r e => ?_⟩
      obtain ⟨k, g, h1, h2⟩ := limP_iff.1 e
      exact ((extF_ok hm h k).p n g h1).2 args r h2
  · obtain ⟨rfl, hne⟩ := lim_ie hg
    cases hb : (extF t 0).i n with
    | none => exact absurd hb (hne 0)
    | some q =>
      refine ⟨((extF_ok hm h 0).i n q hb).1, fun args H v H' e => ?_⟩
      obtain ⟨k, g, h1, h2⟩ := limI_iff.1 e
      exact ((extF_ok hm h k).i n g h1).2 args H v H' h2

-- what the one table does, a bounded one does
theorem lim_call {t : Tab} {n : Nat} {args : List AV} {H : Heap} {r : AV × Eff} (e : callSem (lim t) n args H = some r) : ∃ k, callSem (extF t k) n args H = some r := by
  unfold callSem at e
  split at e
  · rename_i g hg
    obtain ⟨rfl, hne⟩ := lim_pe hg
    cases hps : pvs args with
    | some ps =>
      rw [hps] at e
      simp only [Option.map_eq_some_iff] at e
      obtain ⟨q, hq, e⟩ := e
      obtain ⟨k, g, h1, h2⟩ := limP_iff.1 hq
      exact ⟨k, by simp only [callSem, h1, hps, h2, Option.map_some, e]⟩
    | none =>
      rw [hps] at e
      simp only at e
      cases hts : toArgs H args with
      | none => rw [hts] at e; cases e
      | some as =>
        rw [hts] at e
        simp only at e
        cases hg : limP t n as with
        | none => rw [hg] at e; cases e
        | some q =>
          rw [hg] at e
          obtain ⟨k, g, h1, h2⟩ := limP_iff.1 hg
          have hfl : (lim t).fl n = (extF t k).fl n := by cases k <;> rfl
          exact ⟨k, by simp only [callSem, h1, hps, hts, h2, ← hfl]; exact e⟩
  · rename_i hp
    have hp' : ∀ k, (extF t k).p n = none := fun k => ((extF_lim t k).p0 n).2 hp
    split at e
    · rename_i g hg
      obtain ⟨rfl, hne⟩ := lim_ie hg
      cases hq : limI t n args H with
      | none => rw [hq] at e; cases e
      | some q =>
        rw [hq] at e
        obtain ⟨k, g, h1, h2⟩ := limI_iff.1 hq
        exact ⟨k, by simp only [callSem, hp', h1, h2]; exact e⟩
    · cases e
theorem lim_step {t : Tab} {T : Slots} {H : Heap} {so : SO} {r : AV × Eff} (e : step (lim t) T H so = some r) : ∃ k, step (extF t k) T H so = some r := by
  cases so with
  | call f xs => exact lim_call e
  | callv f xs =>
    simp only [Dk.step] at e ⊢
    split at e
    · exact lim_call e
    · exact lim_call e
    · cases e
  | _ => exact ⟨0, e⟩
theorem lim_step1 {t : Tab} {T : Slots} {H : Heap} {o : SP} {r : Slots × Heap} (e : step1 (lim t) o T H = some r) : ∃ k, step1 (extF t k) o T H = some r := by
  unfold Dk.step1 at e
  split at e
  · rename_i hk
    split at e
    · rename_i hw
      simp only [Option.map_eq_some_iff] at e
      obtain ⟨q, hq, e⟩ := e
      obtain ⟨k, h⟩ := lim_step hq
      exact ⟨k, by unfold Dk.step1; rw [if_pos hk, if_pos hw, h]; simp only [Option.map_some, e]⟩
    · rename_i hw
      exact ⟨0, by unfold Dk.step1; rw [if_pos hk, if_neg hw]; exact e⟩
  · cases e
theorem lim_steps {t : Tab} : ∀ {l : List SP} {T : Slots} {H : Heap} {r : Slots × Heap}, steps (lim t) l T H = some r → ∃ k, steps (extF t k) l T H = some r
  | [], _, _, _, e => ⟨0, e⟩
  | o :: l, T, H, r, e => by
    simp only [Dk.steps] at e
    split at e
    · rename_i T1 H1 h1
      obtain ⟨k1, g1⟩ := lim_step1 h1
      obtain ⟨k2, g2⟩ := lim_steps e
      refine ⟨max k1 k2, ?_⟩
      simp only [Dk.steps, (extF_le t (Nat.le_max_left k1 k2)).step1 g1]
      exact ((extF_le t (Nat.le_max_right k1 k2)).steps g2).1
    · cases e
theorem lim_loop {σ ρ : Type} {f : σ → Option (σ ⊕ ρ)} {g : Nat → σ → Option (σ ⊕ ρ)} (hm : ∀ k k', k ≤ k' → ∀ s r, g k s = some r → g k' s = some r) (h : ∀ s r, f s = some r → ∃ k, g k s = some r) {s : σ} {r : ρ} (e : loopRun f s = some r) : ∃ k, loopRun (g k) s = some r := by
  have := loopRun_iff.1 e
  clear e
  induction this with
  | done e => obtain ⟨k, hk⟩ := h _ _ e; exact ⟨k, loopRun_iff.2 (.done hk)⟩
  | next e _ ih =>
    obtain ⟨k1, h1⟩ := h _ _ e
    obtain ⟨k2, h2⟩ := ih
    refine ⟨max k1 k2, loopRun_iff.2 (.next (hm _ _ (Nat.le_max_left k1 k2) _ _ h1) ?_)⟩
    exact loopRun_iff.1 (loop_mono (hm _ _ (Nat.le_max_right k1 k2)) h2)
/-- One round of a loop. -/
noncomputable def loopB (ext : Ext) (live : List Nat) (b : SC) (s : List AV × Heap) : Option ((List AV × Heap) ⊕ (SE × List AV × Heap)) :=
  match den ext b (live.zip s.1) s.2 with
  | some (.normal, T', H') => some (.inl (live.map T'.get, H'))
  | some (e, T', H') => some (.inr (e, live.map T'.get, H'))
  | none => none
theorem den_loopB (ext : Ext) (live : List Nat) (b : SC) (T : Slots) (H : Heap) : den ext (.loop live b) T H = match loopRun (loopB ext live b) (live.map T.get, H) with
    | some (e, vs, H') => some (e, live.zip vs, H')
    | none => none := rfl
theorem lim_den {t : Tab} : ∀ (sc : SC) {T : Slots} {H : Heap} {r : SE × Slots × Heap}, den (lim t) sc T H = some r → ∃ k, den (extF t k) sc T H = some r
  | .skip, _, _, _, e => ⟨0, e⟩
  | .ret, _, _, _, e => ⟨0, e⟩
  | .exit _, _, _, _, e => ⟨0, e⟩
  | .seq x y, T, H, r, e => by
    simp only [Dk.den] at e
    split at e
    · rename_i T1 H1 h1
      obtain ⟨k1, g1⟩ := lim_den x h1
      obtain ⟨k2, g2⟩ := lim_den y e
      refine ⟨max k1 k2, ?_⟩
      simp only [Dk.den, (extF_le t (Nat.le_max_left k1 k2)).den x g1]
      exact (extF_le t (Nat.le_max_right k1 k2)).den y g2
    · rename_i hr
      obtain ⟨k, g⟩ := lim_den x e
      refine ⟨k, ?_⟩
      simp only [Dk.den, g]
      split
      · rename_i T1 H1 h1; cases h1; exact absurd e (hr T1 H1)
      · rfl
  | .cond x p q, T, H, r, e => by
    simp only [Dk.den] at e ⊢
    split at e
    · rename_i b hb
      try rw [hb]
      cases b
      · exact lim_den q e
      · exact lim_den p e
    · cases e
  | .block i x, T, H, r, e => by
    simp only [Dk.den] at e
    split at e
    · rename_i j T1 H1 h1
      obtain ⟨k, g⟩ := lim_den x h1
      exact ⟨k, by simp only [Dk.den, g]; exact e⟩
    · rename_i hr
      obtain ⟨k, g⟩ := lim_den x e
      refine ⟨k, ?_⟩
      simp only [Dk.den, g]
      split
      · rename_i j T1 H1 h1; cases h1; exact absurd e (hr j T1 H1)
      · rfl
  | .loop live x, T, H, r, e => by
    simp only [Dk.den] at e
    split at e
    · rename_i e1 vs H1 h1
      have hx : ∃ k, loopRun (loopB (extF t k) live x) (live.map T.get, H) = some (e1, vs, H1) := by
        refine lim_loop (f := loopB (lim t) live x) (g := fun k => loopB (extF t k) live x) (fun k k' hk s r hs => ?_) (fun s r hs => ?_) h1
        · unfold loopB at hs ⊢
          split at hs
          · rename_i T2 H2 h2; rw [(extF_le t hk).den x h2]; exact hs
          · rename_i e2 T2 H2 hne h2
            rw [(extF_le t hk).den x h2]
            cases e2 with
            | normal => exact absurd rfl hne
            | exit _ => exact hs
            | ret => exact hs
          · cases hs
        · unfold loopB at hs ⊢
          split at hs
          · rename_i T2 H2 h2
            obtain ⟨k, g⟩ := lim_den x h2
            exact ⟨k, by rw [g]; exact hs⟩
          · rename_i e2 T2 H2 hne h2
            obtain ⟨k, g⟩ := lim_den x h2
            refine ⟨k, ?_⟩
            rw [g]
            cases e2 with
            | normal => exact absurd rfl hne
            | exit _ => exact hs
            | ret => exact hs
          · cases hs
      obtain ⟨k, g⟩ := hx
      refine ⟨k, ?_⟩
      rw [den_loopB, g]; exact e
    · cases e
  | .region l, T, H, r, e => by
    simp only [Dk.den, Option.map_eq_some_iff] at e
    obtain ⟨q, hq, e⟩ := e
    obtain ⟨k, g⟩ := lim_steps hq
    exact ⟨k, by simp only [Dk.den, g, Option.map_some, e]⟩
  | .draw l free, T, H, r, e => by
    simp only [Dk.den] at e
    split at e
    · rename_i hf
      simp only [Option.map_eq_some_iff] at e
      obtain ⟨q, hq, e⟩ := e
      obtain ⟨k, g⟩ := lim_steps hq
      refine ⟨k, ?_⟩
      have := ((extF_lim t k).steps g).2
      rw [this] at hf
      simp only [Dk.den, g, hf, if_true, Option.map_some, e]
    · cases e
theorem lim_denF {t : Tab} {f : SF} {args : List AV} {H : Heap} {r : AV × Heap} (e : denF (lim t) f args H = some r) : ∃ k, denF (extF t k) f args H = some r := by
  unfold Dk.denF at e
  split at e
  · cases e
  · rename_i hl
    split at e
    · rename_i T1 H1 h1
      obtain ⟨k, g⟩ := lim_den f.body h1
      exact ⟨k, by unfold Dk.denF; rw [if_neg hl, g]; exact e⟩
    · rename_i T1 H1 h1
      obtain ⟨k, g⟩ := lim_den f.body h1
      exact ⟨k, by unfold Dk.denF; rw [if_neg hl, g]; exact e⟩
    · cases e
theorem lim_denP {t : Tab} {f : SF} {args : List AV} {r : PV} (e : denP (lim t) f args = some r) : ∃ k, denP (extF t k) f args = some r := by
  unfold Dk.denP at e
  split at e
  · rename_i v H1 h1
    obtain ⟨k, g⟩ := lim_denF h1
    exact ⟨k, by unfold Dk.denP; rw [g]; exact e⟩
  · cases e

/-- A function does what its code does. -/
theorem lim_p {t : Tab} {n : Nat} {f : SF} (h0 : t.sp n = none) (h1 : t.p n = some f) {args : List AV} {r : PV} (e : denP (lim t) f args = some r) : limP t n args = some r := by
  obtain ⟨k, g⟩ := lim_denP e
  exact limP_iff.2 ⟨k + 1, denP (extF t k) f, by simp only [extF, h0, h1, Option.map_some], g⟩
theorem lim_i {t : Tab} {n : Nat} {f : SF} (h0 : t.si n = none) (h1 : t.i n = some f) {args : List AV} {H : Heap} {r : AV × Heap} (e : denF (lim t) f args H = some r) : limI t n args H = some r := by
  obtain ⟨k, g⟩ := lim_denF e
  exact limI_iff.2 ⟨k + 1, denF (extF t k) f, by simp only [extF, h0, h1, Option.map_some], g⟩
theorem lim_sp {t : Tab} {n : Nat} {g : List AV → Option PV} (h0 : t.sp n = some g) {args : List AV} {r : PV} (e : g args = some r) : limP t n args = some r :=
  limP_iff.2 ⟨0, g, by simp only [extF, h0], e⟩
theorem lim_si {t : Tab} {n : Nat} {g : List AV → Heap → Option (AV × Heap)} (h0 : t.si n = some g) {args : List AV} {H : Heap} {r : AV × Heap} (e : g args H = some r) : limI t n args H = some r :=
  limI_iff.2 ⟨0, g, by simp only [extF, h0], e⟩
/-- What bounded loops come to. -/
theorem lim_c {t : Tab} {m k n : Nat} {g : List AV → Option PV} (h : (extC t m k).p n = some g) {args : List AV} {r : PV} (e : g args = some r) : limP t n args = some r := by
  have := extC_le t m k
  cases hb : (extF t k).p n with
  | none => rw [(this.p0 n).2 hb] at h; cases h
  | some q => exact limP_iff.2 ⟨k, q, hb, this.p n g q h hb args r e⟩
end Dk
