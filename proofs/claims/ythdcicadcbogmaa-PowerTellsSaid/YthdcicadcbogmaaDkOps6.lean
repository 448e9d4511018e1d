/- One operation of loaded code does what the abstract machine's does: comparing, slicing, texts, building. -/
import Derived.Test.YthdcicadcbogmaaDkEq
set_option linter.all false
namespace Dk
open Go
variable {P : Program} {num : Nat → FuncId} {β : Bet} {hf : Nat → Option Blk} {w : World} {T : Slots} {a : Act} {H : Heap} {o : Oper} {k0 : Nat} {ext : Ext} {v : AV} {eff : Eff}

theorem agg_flat {X : Nat → Prop} {l : List PV} {u : Value} (h : PR num w X (.agg l) u) : ∃ vs : Array Value, u = .agg vs ∧ Flat vs.toList l := by
  cases h with
  | agg vs hl hone h =>
    refine ⟨vs, rfl, by simp [hl], fun i p v hp hv u hu => ?_⟩
    have h2 := h i p v hp (by simpa using hv)
    cases p <;> simp [scv] at hu <;> subst hu <;> cases h2 <;> rfl

theorem run_eqGuard_agg {op : BinOp} {t : TypeId} {x y : Operand} {xs ys : Array Value} (h : P.eqGuardType P.depth t = false) : (eqGuard op t x y (.agg xs) (.agg ys)).run P w = .ok () w := by
  have hp : ∀ w : World, (program : Sem Program).run P w = .ok P w := fun _ => rfl
  unfold eqGuard
  split <;> simp [hp, h]

theorem sound_eqA {neg : Bool} {ks : List Nat} {t t' : TypeId} {x y : Operand} {x' y' : SX} (ho : o.op = .binOp (if neg then .neq else .eql) t x y t') (hagg : aggT P t = true) (hk : kindsT P 20 t = some ks) (hg : P.eqGuardType P.depth t = false)
    (hx : VR num β hf w (x'.ev T) (a.eval x)) (hy : VR num β hf w (y'.ev T) (a.eval y)) (hH : HR num β hf w)
    (hs : step ext T H (.eqA neg ks x' y') = some (v, eff)) : Cont P num o a β hf w k0 v eff := by
  simp only [step] at hs
  split at hs
  · rename_i l m hp hq
    split at hs
    · rename_i hks
      simp only [Option.map_eq_some_iff, Prod.mk.injEq] at hs
      obtain ⟨b, hb, rfl, rfl⟩ := hs
      rw [hp] at hx; rw [hq] at hy
      cases hx with | pv hx =>
      cases hy with | pv hy =>
      obtain ⟨xs, hxv, hxf⟩ := agg_flat hx
      obtain ⟨ys, hyv, hyf⟩ := agg_flat hy
      obtain ⟨_, i, _, hi, _⟩ := flat_info hk
      have hrun : (Op.equalIn (9980 + 20) t (.agg xs) (.agg ys)).run P w = .ok b w :=
        equalIn_flat 20 t ks hk 9980 w i _ _ xs.toList ys.toList l m b hi (.inl ⟨hagg, by simp⟩) (.inl ⟨hagg, by simp⟩) hxf hyf hks.1 hks.2 hb
      have hrun' : (Op.equal t (.agg xs) (.agg ys)).run P w = .ok b w := hrun
      refine cont_value (r := .bool (if neg then !b else b)) ?_ (vr_bool _) hH
      have h1 : (binOp .eql t (.agg xs) (.agg ys)).run P w = .ok (.bool b) w := by
        show (do pure (Value.bool (← Op.equal t (.agg xs) (.agg ys))) : Sem Value).run P w = _
        rw [Sem.run_bind, hrun']; rfl
      have h2 : (binOp .neq t (.agg xs) (.agg ys)).run P w = .ok (.bool (!b)) w := by
        show (do pure (Value.bool (!(← Op.equal t (.agg xs) (.agg ys)))) : Sem Value).run P w = _
        rw [Sem.run_bind, hrun']; rfl
      cases neg
      · simp at ho
        simp [execOp, ho, hxv, hyv, run_eqGuard_agg hg, h1]
      · simp at ho
        simp [execOp, ho, hxv, hyv, run_eqGuard_agg hg, h2]
    · cases hs
  · cases hs

theorem run_eqGuard_slice (op : BinOp) (t : TypeId) (x y : Operand) (A : Option Addr) (n c : Nat) : (eqGuard op t x y (.slice A n c) (.slice none 0 0)).run P w = .ok () w := by
  unfold eqGuard; split <;> simp
theorem run_equal_slice {t e : TypeId} (A : Option Addr) (n c : Nat) (hu : P.underlying t = some (.slice e)) : (Op.equal t (.slice A n c) (.slice none 0 0)).run P w = .ok A.isNone w := by
  show (Op.equalIn (9999 + 1) t (.slice A n c) (.slice none 0 0)).run P w = .ok A.isNone w
  rw [Op.equalIn, Sem.run_bind, run_underlying hu]
  cases A <;> rfl

theorem sound_isNil {neg : Bool} {t t' : TypeId} {x : Operand} {x' : SX} (ho : o.op = .binOp (if neg then .neq else .eql) t x (.const (.slice none 0 0)) t') (hM : isSliceT P t = true)
    (hx : VR num β hf w (x'.ev T) (a.eval x)) (hH : HR num β hf w) (hA : Agree β hf H (refs (x'.ev T)))
    (hs : step ext T H (.isNil neg x') = some (v, eff)) : Cont P num o a β hf w k0 v eff := by
  obtain ⟨e, hu⟩ : ∃ e, P.underlying t = some (.slice e) := by
    unfold isSliceT at hM; split at hM
    · rename_i e h; exact ⟨e, h⟩
    · cases hM
  have main : ∀ A n c, a.eval x = .slice A n c → v = .pv (.bool (if neg then !A.isNone else A.isNone)) → eff = .none → Cont P num o a β hf w k0 v eff := by
    rintro A n c hv rfl rfl
    refine cont_value (r := .bool (if neg then !A.isNone else A.isNone)) ?_ (vr_bool _) hH
    have h1 : (binOp .eql t (.slice A n c) (.slice none 0 0)).run P w = .ok (.bool A.isNone) w := by
      show (do pure (Value.bool (← Op.equal t (.slice A n c) (.slice none 0 0))) : Sem Value).run P w = _
      rw [Sem.run_bind, run_equal_slice A n c hu]; rfl
    have h2 : (binOp .neq t (.slice A n c) (.slice none 0 0)).run P w = .ok (.bool (!A.isNone)) w := by
      show (do pure (Value.bool (!(← Op.equal t (.slice A n c) (.slice none 0 0)))) : Sem Value).run P w = _
      rw [Sem.run_bind, run_equal_slice A n c hu]; rfl
    have hc : a.eval (.const (.slice none 0 0)) = .slice none 0 0 := rfl
    cases neg
    · simp at ho
      simp [execOp, ho, hv, hc, run_eqGuard_slice, h1]
    · simp at ho
      simp [execOp, ho, hv, hc, run_eqGuard_slice, h2]
  simp only [step] at hs
  split at hs
  · rename_i hp
    simp at hs; obtain ⟨rfl, rfl⟩ := hs
    rw [hp] at hx
    cases hx with | pv hx =>
    generalize hX : a.eval x = X at *
    cases hx
    exact main none 0 0 rfl (by cases neg <;> rfl) rfl
  · rename_i l hp
    split at hs
    · cases hs
    · rename_i hne
      simp at hs; obtain ⟨rfl, rfl⟩ := hs
      rw [hp] at hx
      cases hx with | pv hx =>
      generalize hX : a.eval x = X at *
      cases hx with
      | lst A b c vals hn hAA hXb hc hpos hsz hcell hrel =>
        have hl : l ≠ [] := by simpa using hne
        exact main A _ _ rfl (by rw [hAA hl]; cases neg <;> rfl) rfl
  · rename_i k len hp
    simp only [Option.map_eq_some_iff, Prod.mk.injEq] at hs
    obtain ⟨bk, hg, rfl, rfl⟩ := hs
    rw [hp] at hx hA
    obtain ⟨b, cap, cs, TT, _, _, hv, _⟩ := sl_at hH hA hx hg
    exact main _ _ _ hv (by cases neg <;> rfl) rfl
  · cases hs

theorem sound_mkfn {f : FuncId} {first caps : Array Operand} {n : Nat} {caps' : List SX} (ho : o.op = .makeFunc (.func f) first caps) (hfirst : first = #[]) (hn : num n = f)
    (hl : caps'.length = caps.size) (hx : ∀ (i : Nat) (x : Operand) (y : SX), caps[i]? = some x → caps'[i]? = some y → VR num β hf w (y.ev T) (a.eval x)) (hH : HR num β hf w)
    (hs : step ext T H (.mkfn n caps') = some (v, eff)) : Cont P num o a β hf w k0 v eff := by
  subst hfirst; subst hn
  simp only [step, Option.some.injEq, Prod.mk.injEq] at hs
  obtain ⟨rfl, rfl⟩ := hs
  refine cont_value (r := .func (.func (num n)) #[] (caps.map a.eval)) (by simp [execOp, ho, Instr.makeFunc]) ?_ hH
  cases caps' with
  | nil =>
    have : caps = #[] := by simpa using hl.symm
    subst this; exact .pv (by simpa using PR.fn n)
  | cons y ys =>
    refine .fn _ (by simpa using hl) (fun i c u hc hu => ?_)
    simp only [List.getElem?_map, Option.map_eq_some_iff] at hc
    obtain ⟨y', hy, rfl⟩ := hc
    simp only [Array.getElem?_map, Option.map_eq_some_iff] at hu
    obtain ⟨x', hx', rfl⟩ := hu
    exact hx i x' y' hx' hy

theorem boundOf_run {x : Option Operand} {y : Option SX} {d n : Nat} (hxy : okXo num x y = true) (hT : ∀ z, y = some z → TR num β hf w T a z.slots) (h : boundOf T y d = some n) :
    (x = none ∧ n = d) ∨ ∃ x' k, x = some x' ∧ a.eval x' = .int k n := by
  unfold okXo at hxy
  split at hxy
  · simp [boundOf] at h; exact .inl ⟨rfl, h.symm⟩
  · rename_i x' y'
    simp only [boundOf] at h
    split at h
    · rename_i k i hp
      have h1 := VR.pv_int (ev_ok hxy (hT y' rfl)) hp
      simp only [asNat] at h
      split at h
      · rename_i h0
        injection h with h; subst h
        exact .inr ⟨x', k, rfl, by rw [h1, Int.toNat_of_nonneg h0]⟩
      · cases h
    · cases h
  · cases hxy

theorem run_sliceBounds {isS : Bool} {len cap l h : Nat} {lo hi : Option Value} (hlo : (lo = none ∧ l = 0) ∨ ∃ k, lo = some (.int k l)) (hhi : (hi = none ∧ h = len) ∨ ∃ k, hi = some (.int k h)) (h1 : l ≤ h) (h2 : h ≤ len) (h3 : len ≤ cap) :
    (Instr.sliceBounds isS len cap lo hi none).run P w = .ok (l, h, cap) w := by
  have hh : h ≤ cap := by omega
  rcases hlo with ⟨rfl, rfl⟩ | ⟨k, rfl⟩ <;> rcases hhi with ⟨rfl, rfl⟩ | ⟨k', rfl⟩ <;>
    simp [Instr.sliceBounds, Instr.sliceBound, asIntOf, h1, hh, h3]

theorem sound_sliceStr {t : TypeId} {x : Operand} {lo hi : Option Operand} {x' : SX} {lo' hi' : Option SX} (ho : o.op = .slice t x lo hi none) (hM : isStringT P t = true)
    (hx : VR num β hf w (x'.ev T) (a.eval x)) (hlo : okXo num lo lo' = true) (hhi : okXo num hi hi' = true) (hT1 : ∀ z, lo' = some z → TR num β hf w T a z.slots) (hT2 : ∀ z, hi' = some z → TR num β hf w T a z.slots) (hH : HR num β hf w)
    (hs : step ext T H (.sliceStr x' lo' hi') = some (v, eff)) : Cont P num o a β hf w k0 v eff := by
  have hu : P.underlying t = some .string := by
    unfold isStringT at hM; split at hM
    · rename_i h; exact h
    · cases hM
  simp only [step] at hs
  split at hs
  · rename_i s hp
    have h1 := VR.pv_str hx hp
    split at hs
    · rename_i l h hl hh
      split at hs
      · rename_i hb
        simp at hs; obtain ⟨rfl, rfl⟩ := hs
        have b1 := boundOf_run hlo hT1 hl
        have b2 := boundOf_run hhi hT2 hh
        have hr := run_sliceBounds (P := P) (w := w) (isS := false) (len := s.size) (cap := s.size) (l := l) (h := h) (lo := lo.map a.eval) (hi := hi.map a.eval)
          (by rcases b1 with ⟨rfl, rfl⟩ | ⟨x', k, rfl, e⟩; exact .inl ⟨rfl, rfl⟩; exact .inr ⟨k, by simp [e]⟩)
          (by rcases b2 with ⟨rfl, rfl⟩ | ⟨x', k, rfl, e⟩; exact .inl ⟨rfl, rfl⟩; exact .inr ⟨k, by simp [e]⟩) hb.1 hb.2 (Nat.le_refl _)
        refine cont_value (r := .string (s.extract l h)) ?_ (vr_str _) hH
        simp [execOp, ho, h1, Instr.sliceAt, run_underlying hu, Instr.slice, hr]
      · cases hs
    · cases hs
  · cases hs
end Dk
