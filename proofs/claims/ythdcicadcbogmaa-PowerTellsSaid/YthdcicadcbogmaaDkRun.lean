/- Tables of functions; the abstract machine with a bound on loops, which the kernel can carry out. -/
import Derived.Test.YthdcicadcbogmaaDkFunc
set_option linter.all false
namespace Dk
open Go Go.RowKit

-- one table knows more than another
structure ELe (a b : Ext) : Prop where
  p0 : ∀ n, a.p n = none ↔ b.p n = none
  p : ∀ n g g', a.p n = some g → b.p n = some g' → ∀ xs r, g xs = some r → g' xs = some r
  fl : ∀ n, a.fl n = b.fl n
  i0 : ∀ n, a.i n = none ↔ b.i n = none
  i : ∀ n g g', a.i n = some g → b.i n = some g' → ∀ xs H r, g xs H = some r → g' xs H = some r
theorem ELe.refl (a : Ext) : ELe a a :=
  ⟨fun _ => Iff.rfl, fun n g g' h h' xs r e => by rw [h] at h'; cases h'; exact e, fun _ => rfl, fun _ => Iff.rfl, fun n g g' h h' xs H r e => by rw [h] at h'; cases h'; exact e⟩

variable {a b : Ext}
theorem ELe.call (h : ELe a b) {n : Nat} {args : List AV} {H : Heap} {r : AV × Eff} (e : callSem a n args H = some r) : callSem b n args H = some r := by
  unfold callSem at e ⊢
  cases ha : a.p n with
  | none =>
    rw [ha] at e
    rw [(h.p0 n).1 ha]
    simp only at e ⊢
    cases hi : a.i n with
    | none => rw [hi] at e; cases e
    | some g =>
      rw [hi] at e
      cases hj : b.i n with
      | none => rw [(h.i0 n).2 hj] at hi; cases hi
      | some g' =>
        simp only at e ⊢
        cases hg : g args H with
        | none => rw [hg] at e; cases e
        | some q => rw [h.i n g g' hi hj args H q hg]; rw [hg] at e; exact e
  | some g =>
    rw [ha] at e
    cases hb : b.p n with
    | none => rw [(h.p0 n).2 hb] at ha; cases ha
    | some g' =>
      have hp := h.p n g g' ha hb
      simp only at e ⊢
      cases hps : pvs args with
      | some ps =>
        rw [hps] at e
        simp only [Option.map_eq_some_iff] at e ⊢
        obtain ⟨q, hq, e⟩ := e
        exact ⟨q, hp args q hq, e⟩
      | none =>
        rw [hps] at e
        simp only at e ⊢
        rw [← h.fl n]
        cases hts : toArgs H args with
        | none => rw [hts] at e; cases e
        | some ps =>
          rw [hts] at e
          simp only at e ⊢
          cases hg : g ps with
          | none => rw [hg] at e; cases e
          | some q => rw [hp ps q hg]; rw [hg] at e; exact e

theorem ELe.step (h : ELe a b) {T : Slots} {H : Heap} {so : SO} {r : AV × Eff} (e : step a T H so = some r) : Dk.step b T H so = some r := by
  cases so with
  | call f xs => exact h.call e
  | callv f xs =>
    simp only [Dk.step] at e ⊢
    split at e
    · exact h.call e
    · exact h.call e
    · cases e
  | _ => exact e
theorem ELe.touch (h : ELe a b) (T : Slots) (so : SO) : touch b T so = Dk.touch a T so := by
  have hs : ∀ n, (b.p n).isSome = (a.p n).isSome := fun n => by
    cases ha : a.p n with
    | none => rw [(h.p0 n).1 ha]
    | some g => cases hb : b.p n with
      | none => rw [(h.p0 n).2 hb] at ha; cases ha
      | some g' => rfl
  cases so with
  | call f xs => simp only [Dk.touch, touchC, hs, h.fl]
  | callv f xs => simp only [Dk.touch, touchC, hs, h.fl]
  | _ => rfl
theorem ELe.step1 (h : ELe a b) {T : Slots} {H : Heap} {o : SP} {r : Slots × Heap} (e : step1 a o T H = some r) : Dk.step1 b o T H = some r := by
  unfold Dk.step1 at e ⊢
  split at e
  · rename_i hk
    rw [if_pos hk]
    split at e
    · rename_i hw
      rw [if_pos hw]
      simp only [Option.map_eq_some_iff] at e ⊢
      obtain ⟨q, hq, e⟩ := e
      exact ⟨q, h.step hq, e⟩
    · rename_i hw; rw [if_neg hw]; exact e
  · cases e
theorem ELe.steps (h : ELe a b) : ∀ {l : List SP} {T : Slots} {H : Heap} {r : Slots × Heap}, steps a l T H = some r → Dk.steps b l T H = some r ∧ touches b l T H = touches a l T H
  | [], _, _, _, e => ⟨e, rfl⟩
  | o :: l, T, H, r, e => by
    simp only [Dk.steps] at e
    split at e
    · rename_i T1 H1 h1
      obtain ⟨g1, g2⟩ := h.steps e
      refine ⟨by simp only [Dk.steps, h.step1 h1]; exact g1, ?_⟩
      simp only [touches, h.step1 h1, h1, g2, h.touch]
    · cases e

theorem loop_mono {σ ρ : Type} {f g : σ → Option (σ ⊕ ρ)} (h : ∀ s r, f s = some r → g s = some r) {s : σ} {r : ρ} (e : loopRun f s = some r) : loopRun g s = some r := by
  have := loopRun_iff.1 e
  refine loopRun_iff.2 ?_
  clear e
  induction this with
  | done e => exact .done (h _ _ e)
  | next e _ ih => exact .next (h _ _ e) ih

theorem ELe.den (h : ELe a b) : ∀ (sc : SC) {T : Slots} {H : Heap} {r : SE × Slots × Heap}, den a sc T H = some r → Dk.den b sc T H = some r
  | .skip, _, _, _, e => e
  | .ret, _, _, _, e => e
  | .exit _, _, _, _, e => e
  | .seq x y, T, H, r, e => by
    simp only [Dk.den] at e ⊢
    split at e
    · rename_i T1 H1 h1
      rw [h.den x h1]
      exact h.den y e
    · rename_i hr
      have := h.den x e
      rw [this]
      split
      · rename_i T1 H1 h1; cases h1; exact absurd e (hr T1 H1)
      · rfl
  | .cond x p q, T, H, r, e => by
    simp only [Dk.den] at e ⊢
    split at e
    · rename_i t ht
      try rw [ht]
      cases t
      · exact h.den q e
      · exact h.den p e
    · cases e
  | .block i x, T, H, r, e => by
    simp only [Dk.den] at e ⊢
    split at e
    · rename_i j T1 H1 h1
      rw [h.den x h1]; exact e
    · rename_i hr
      have := h.den x e
      rw [this]
      split
      · rename_i j T1 H1 h1; cases h1; exact absurd e (hr j T1 H1)
      · rfl
  | .loop live x, T, H, r, e => by
    simp only [Dk.den] at e ⊢
    split at e
    · rename_i e1 vs H1 h1
      rw [loop_mono (fun s r hs => ?_) h1]
      · exact e
      · split at hs
        · rename_i T2 H2 h2; rw [h.den x h2]; exact hs
        · rename_i e2 T2 H2 hne h2
          rw [h.den x h2]
          cases e2 with
          | normal => exact absurd rfl hne
          | exit _ => exact hs
          | ret => exact hs
        · cases hs
    · cases e
  | .region l, T, H, r, e => by
    simp only [Dk.den, Option.map_eq_some_iff] at e ⊢
    obtain ⟨q, hq, e⟩ := e
    exact ⟨q, (h.steps hq).1, e⟩
  | .draw l free, T, H, r, e => by
    simp only [Dk.den] at e ⊢
    split at e
    · rename_i hf
      simp only [Option.map_eq_some_iff] at e
      obtain ⟨q, hq, e⟩ := e
      obtain ⟨g1, g2⟩ := h.steps hq
      rw [g2, if_pos hf]
      simp only [Option.map_eq_some_iff]
      exact ⟨q, g1, e⟩
    · cases e

theorem ELe.denF (h : ELe a b) {f : SF} {args : List AV} {H : Heap} {r : AV × Heap} (e : denF a f args H = some r) : Dk.denF b f args H = some r := by
  unfold Dk.denF at e ⊢
  split at e
  · cases e
  · rename_i hl
    rw [if_neg hl]
    split at e
    · rename_i T1 H1 h1; rw [h.den f.body h1]; exact e
    · rename_i T1 H1 h1; rw [h.den f.body h1]; exact e
    · cases e
theorem ELe.denP (h : ELe a b) {f : SF} {args : List AV} {r : PV} (e : denP a f args = some r) : Dk.denP b f args = some r := by
  unfold Dk.denP at e ⊢
  split at e
  · rename_i v H1 h1
    rw [h.denF h1]; exact e
  · cases e

-- with a bound on loops
def loopC {σ ρ : Type} (f : σ → Option (σ ⊕ ρ)) : Nat → σ → Option ρ
  | 0, _ => none
  | n + 1, s => match f s with
    | some (.inl s') => loopC f n s'
    | some (.inr r) => some r
    | none => none
theorem loopC_run {σ ρ : Type} {f g : σ → Option (σ ⊕ ρ)} (h : ∀ s r, f s = some r → g s = some r) : ∀ {n : Nat} {s : σ} {r : ρ}, loopC f n s = some r → loopRun g s = some r
  | 0, _, _, e => by cases e
  | n + 1, s, r, e => by
    simp only [loopC] at e
    split at e
    · rename_i s' hs; rw [loopRun_next (h _ _ hs)]; exact loopC_run h e
    · rename_i r' hs; cases e; exact loopRun_done (h _ _ hs)
    · cases e

def denC (k : Nat) (ext : Ext) : SC → Slots → Heap → Option (SE × Slots × Heap)
  | .skip, T, H => some (.normal, T, H)
  | .ret, T, H => some (.ret, T, H)
  | .exit id, T, H => some (.exit id, T, H)
  | .seq a b, T, H => match denC k ext a T H with
    | some (.normal, T', H') => denC k ext b T' H'
    | r => r
  | .cond x a b, T, H => match x.ev T with
    | .pv (.bool t) => bif t then denC k ext a T H else denC k ext b T H
    | _ => none
  | .block id b, T, H => match denC k ext b T H with
    | some (.exit i, T', H') => some (if i = id then .normal else .exit i, T', H')
    | r => r
  | .loop live b, T, H =>
    match loopC (fun (s : List AV × Heap) => match denC k ext b (live.zip s.1) s.2 with
      | some (.normal, T', H') => some (.inl (live.map T'.get, H'))
      | some (e, T', H') => some (.inr (e, live.map T'.get, H'))
      | none => none) k (live.map T.get, H) with
    | some (e, vs, H') => some (e, live.zip vs, H')
    | none => none
  | .region l, T, H => (steps ext l T H).map fun (T', H') => (.normal, T', H')
  | .draw l free, T, H => if freeOk (touches ext l T H) free then (steps ext l T H).map fun (T', H') => (.normal, T', H') else none

theorem denC_den {k : Nat} {ext : Ext} : ∀ (sc : SC) {T : Slots} {H : Heap} {r : SE × Slots × Heap}, denC k ext sc T H = some r → den ext sc T H = some r
  | .skip, _, _, _, e => e
  | .ret, _, _, _, e => e
  | .exit _, _, _, _, e => e
  | .seq x y, T, H, r, e => by
    simp only [den, denC] at e ⊢
    split at e
    · rename_i T1 H1 h1
      rw [denC_den x h1]
      exact denC_den y e
    · rename_i hr
      have := denC_den x e
      rw [this]
      split
      · rename_i T1 H1 h1; cases h1; exact absurd e (hr T1 H1)
      · rfl
  | .cond x p q, T, H, r, e => by
    simp only [den, denC] at e ⊢
    split at e
    · rename_i t ht
      try rw [ht]
      cases t
      · exact denC_den q e
      · exact denC_den p e
    · cases e
  | .block i x, T, H, r, e => by
    simp only [den, denC] at e ⊢
    split at e
    · rename_i j T1 H1 h1
      rw [denC_den x h1]; exact e
    · rename_i hr
      have := denC_den x e
      rw [this]
      split
      · rename_i j T1 H1 h1; cases h1; exact absurd e (hr j T1 H1)
      · rfl
  | .loop live x, T, H, r, e => by
    simp only [den, denC] at e ⊢
    split at e
    · rename_i e1 vs H1 h1
      rw [loopC_run (fun s r hs => ?_) h1]
      · exact e
      · split at hs
        · rename_i T2 H2 h2; rw [denC_den x h2]; exact hs
        · rename_i e2 T2 H2 hne h2
          rw [denC_den x h2]
          cases e2 with
          | normal => exact absurd rfl hne
          | exit _ => exact hs
          | ret => exact hs
        · cases hs
    · cases e
  | .region l, T, H, r, e => e
  | .draw l free, T, H, r, e => e

def denFC (k : Nat) (ext : Ext) (f : SF) (args : List AV) (H : Heap) : Option (AV × Heap) :=
  if args.length ≠ f.params then none else
  match denC k ext f.body ((List.range f.params).zip args) H with
  | some (.normal, T, H') => (results T H' f.results).map (·, H')
  | some (.ret, T, H') => (results T H' f.results).map (·, H')
  | _ => none
def denPC (k : Nat) (ext : Ext) (f : SF) (args : List AV) : Option PV :=
  match denFC k ext f args [] with
  | some (v, H) => outPV H v
  | none => none
theorem denFC_denF {k : Nat} {ext : Ext} {f : SF} {args : List AV} {H : Heap} {r : AV × Heap} (e : denFC k ext f args H = some r) : denF ext f args H = some r := by
  unfold denFC at e
  unfold denF
  split at e
  · cases e
  · rename_i hl
    rw [if_neg hl]
    split at e
    · rename_i T1 H1 h1; rw [denC_den f.body h1]; exact e
    · rename_i T1 H1 h1; rw [denC_den f.body h1]; exact e
    · cases e
theorem denPC_denP {k : Nat} {ext : Ext} {f : SF} {args : List AV} {r : PV} (e : denPC k ext f args = some r) : denP ext f args = some r := by
  unfold denPC at e
  unfold denP
  split at e
  · rename_i v H1 h1
    rw [denFC_denF h1]; exact e
  · cases e

/-- Functions by number: slim code, or (of a few) what is proved of them otherwise. -/
structure Tab where
  p : Nat → Option SF
  i : Nat → Option SF
  fl : Nat → Bool
  sp : Nat → Option (List AV → Option PV)
  si : Nat → Option (List AV → Heap → Option (AV × Heap))

noncomputable def extF (t : Tab) : Nat → Ext
  | 0 => ⟨fun n => match t.sp n with | some g => some g | none => (t.p n).map fun _ _ => none, t.fl, fun n => match t.si n with | some g => some g | none => (t.i n).map fun _ _ _ => none⟩
  | k + 1 => ⟨fun n => match t.sp n with | some g => some g | none => (t.p n).map (denP (extF t k)), t.fl, fun n => match t.si n with | some g => some g | none => (t.i n).map (denF (extF t k))⟩
def extC (t : Tab) (m : Nat) : Nat → Ext
  | 0 => ⟨fun n => match t.sp n with | some g => some g | none => (t.p n).map fun _ _ => none, t.fl, fun n => match t.si n with | some g => some g | none => (t.i n).map fun _ _ _ => none⟩
  | k + 1 => ⟨fun n => match t.sp n with | some g => some g | none => (t.p n).map (denPC m (extC t m k)), t.fl, fun n => match t.si n with | some g => some g | none => (t.i n).map (denFC m (extC t m k))⟩

theorem extC_le (t : Tab) (m : Nat) : ∀ k, ELe (extC t m k) (extF t k)
  | 0 => ELe.refl _
  | k + 1 => by
    have ih := extC_le t m k
    refine ⟨fun n => ?_, fun n g g' h h' xs r e => ?_, fun n => rfl, fun n => ?_, fun n g g' h h' xs H r e => ?_⟩
    · simp only [extC, extF]; cases t.sp n <;> simp
    · simp only [extC, extF] at h h'
      cases hs : t.sp n with
      | some q => rw [hs] at h h'; cases h; cases h'; exact e
      | none =>
        rw [hs] at h h'
        simp only [Option.map_eq_some_iff] at h h'
        obtain ⟨f, h1, rfl⟩ := h
        obtain ⟨f', h2, rfl⟩ := h'
        rw [h1] at h2; cases h2
        exact ih.denP (denPC_denP e)
    · simp only [extC, extF]; cases t.si n <;> simp
    · simp only [extC, extF] at h h'
      cases hs : t.si n with
      | some q => rw [hs] at h h'; cases h; cases h'; exact e
      | none =>
        rw [hs] at h h'
        simp only [Option.map_eq_some_iff] at h h'
        obtain ⟨f, h1, rfl⟩ := h
        obtain ⟨f', h2, rfl⟩ := h'
        rw [h1] at h2; cases h2
        exact ih.denF (denFC_denF e)
theorem extF_le1 (t : Tab) : ∀ k, ELe (extF t k) (extF t (k + 1)) := by
  have step : ∀ a b : Ext, ELe a b → ELe ⟨fun n => match t.sp n with | some g => some g | none => (t.p n).map (denP a), t.fl, fun n => match t.si n with | some g => some g | none => (t.i n).map (denF a)⟩
      ⟨fun n => match t.sp n with | some g => some g | none => (t.p n).map (denP b), t.fl, fun n => match t.si n with | some g => some g | none => (t.i n).map (denF b)⟩ := by
    intro a b hab
    refine ⟨fun n => ?_, fun n g g' h h' xs r e => ?_, fun n => rfl, fun n => ?_, fun n g g' h h' xs H r e => ?_⟩
    · simp only; cases t.sp n <;> simp
    · simp only at h h'
      cases hs : t.sp n with
      | some q => rw [hs] at h h'; cases h; cases h'; exact e
      | none =>
        rw [hs] at h h'
        simp only [Option.map_eq_some_iff] at h h'
        obtain ⟨f, h1, rfl⟩ := h
        obtain ⟨f', h2, rfl⟩ := h'
        rw [h1] at h2; cases h2
        exact hab.denP e
    · simp only; cases t.si n <;> simp
    · simp only at h h'
      cases hs : t.si n with
      | some q => rw [hs] at h h'; cases h; cases h'; exact e
      | none =>
        rw [hs] at h h'
        simp only [Option.map_eq_some_iff] at h h'
        obtain ⟨f, h1, rfl⟩ := h
        obtain ⟨f', h2, rfl⟩ := h'
        rw [h1] at h2; cases h2
        exact hab.denF e
  intro k
  induction k with
  | zero =>
    refine ⟨fun n => ?_, fun n g g' h h' xs r e => ?_, fun n => rfl, fun n => ?_, fun n g g' h h' xs H r e => ?_⟩
    · simp only [extF]; cases t.sp n <;> simp
    · simp only [extF] at h h'
      cases hs : t.sp n with
      | some q => rw [hs] at h h'; cases h; cases h'; exact e
      | none =>
        rw [hs] at h h'
        simp only [Option.map_eq_some_iff] at h
        obtain ⟨f, h1, rfl⟩ := h
        cases e
    · simp only [extF]; cases t.si n <;> simp
    · simp only [extF] at h h'
      cases hs : t.si n with
      | some q => rw [hs] at h h'; cases h; cases h'; exact e
      | none =>
        rw [hs] at h h'
        simp only [Option.map_eq_some_iff] at h
        obtain ⟨f, h1, rfl⟩ := h
        cases e
  | succ k ih => exact step _ _ ih

structure TabOK (P : Program) (num : Nat → FuncId) (t : Tab) : Prop where
  p : ∀ n f, t.p n = some f → bodyIs P (num n) = true ∧ okFn P num (num n) f = true
  i : ∀ n f, t.i n = some f → bodyIs P (num n) = true ∧ okFn P num (num n) f = true
  sp : ∀ n g, t.sp n = some g → bodyIs P (num n) = true ∧ SoundP P num (num n) g
  si : ∀ n g, t.si n = some g → bodyIs P (num n) = true ∧ SoundI P num (num n) g

theorem extF_ok {P : Program} {num : Nat → FuncId} {t : Tab} (hm : P.follows .mixedOrders = true) (h : TabOK P num t) : ∀ k, ExtOK P num (extF t k)
  | 0 => by
    refine ⟨fun n g hg => ?_, fun n g hg => ?_⟩
    · simp only [extF] at hg
      cases hs : t.sp n with
      | some q => rw [hs] at hg; cases hg; exact h.sp n _ hs
      | none =>
        rw [hs] at hg
        simp only [Option.map_eq_some_iff] at hg
        obtain ⟨f, h1, rfl⟩ := hg
        exact ⟨(h.p n f h1).1, fun _ _ e => by cases e⟩
    · simp only [extF] at hg
      cases hs : t.si n with
      | some q => rw [hs] at hg; cases hg; exact h.si n _ hs
      | none =>
        rw [hs] at hg
        simp only [Option.map_eq_some_iff] at hg
        obtain ⟨f, h1, rfl⟩ := hg
        exact ⟨(h.i n f h1).1, fun _ _ _ _ e => by cases e⟩
  | k + 1 => by
    have ih := extF_ok hm h k
    refine ⟨fun n g hg => ?_, fun n g hg => ?_⟩
    · simp only [extF] at hg
      cases hs : t.sp n with
      | some q => rw [hs] at hg; cases hg; exact h.sp n _ hs
      | none =>
        rw [hs] at hg
        simp only [Option.map_eq_some_iff] at hg
        obtain ⟨f, h1, rfl⟩ := hg
        exact ⟨(h.p n f h1).1, fn_soundP ih hm (h.p n f h1).2⟩
    · simp only [extF] at hg
      cases hs : t.si n with
      | some q => rw [hs] at hg; cases hg; exact h.si n _ hs
      | none =>
        rw [hs] at hg
        simp only [Option.map_eq_some_iff] at hg
        obtain ⟨f, h1, rfl⟩ := hg
        exact ⟨(h.i n f h1).1, fn_soundI ih hm (h.i n f h1).2⟩
end Dk
