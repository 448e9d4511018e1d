/- A region of operations, in the text's order. -/
import Derived.Test.YthdcicadcbogmaaDkStep
import Derived.Test.YthdcicadcbogmaaDkTouch
set_option linter.all false
namespace Dk
open Go Go.RowKit
variable {P : Program} {num : Nat → FuncId} {ext : Ext}

theorem get_put_same (T : Slots) (d : Nat) (v : AV) : (T.put (some d) v).get d = v := by
  show (bif Nat.beq d d then v else _) = v
  rw [Nat.beq_refl]; rfl
theorem get_put_ne (T : Slots) {d t : Nat} (v : AV) (h : d ≠ t) : (T.put (some d) v).get t = T.get t := by
  show (bif Nat.beq d t then v else _) = _
  have : Nat.beq d t = false := by
    rw [Bool.eq_false_iff]; intro h2; exact h (Nat.eq_of_beq_eq_true h2)
  rw [this]; rfl
theorem act_put_same {a : Act} {d : Nat} {r : Value} (h : d < a.tmps.size) : (a.put (some d) r).tmps.getD d undef = r := by
  simp [Act.put, Array.getD, h]
theorem act_put_ne {a : Act} {d t : Nat} {r : Value} (h : d ≠ t) : (a.put (some d) r).tmps.getD t undef = a.tmps.getD t undef := by
  simp only [Act.put, Array.getD_eq_getD_getElem?]
  rw [Array.getElem?_setIfInBounds_ne h]
theorem act_put_size {a : Act} {d : Option Nat} {r : Value} : (a.put d r).tmps.size = a.tmps.size := by
  cases d <;> simp [Act.put]
theorem act_put_defers {a : Act} {d : Option Nat} {r : Value} : (a.put d r).defers = a.defers := by
  cases d <;> rfl

/-- The state of the abstract machine, and the model's. -/
structure St (num : Nat → FuncId) (β : Bet) (T : Slots) (H : Heap) (n : Nat) (a : Act) (w : World) : Prop where
  hr : HR num β (fun k => H[k]?) w
  sl : ∀ t, VR num β (fun k => H[k]?) w (T.get t) (a.tmps.getD t undef)
  size : a.tmps.size = n
  defers : a.defers = []

theorem St.fresh {β : Bet} {T : Slots} {H : Heap} {n : Nat} {a : Act} {w : World} (h : St num β T H n a w) {k : Nat} (hk : H.length ≤ k) : β k = none := by
  cases hb : β k with
  | none => rfl
  | some b =>
    obtain ⟨bk, h1, _⟩ := h.hr.blk k b hb
    have := (List.getElem?_eq_some_iff.1 h1).1
    omega

theorem on_eq {e : Eff} {H : Heap} : (fun k => (e.on H)[k]?) = e.onF H.length (fun k => H[k]?) := by
  funext k
  cases e with
  | none => rfl
  | push b =>
    simp only [Eff.on, Eff.onF]
    by_cases h : k = H.length
    · subst h; simp
    · rw [if_neg h]
      by_cases h2 : k < H.length
      · rw [List.getElem?_append_left h2]
      · rw [List.getElem?_eq_none (by simp; omega), List.getElem?_eq_none (by omega)]
  | put k1 b =>
    simp only [Eff.on, Eff.onF, List.getElem?_set]
    by_cases h : k = k1
    · subst h
      simp only [if_true]
      by_cases h2 : k < H.length
      · rw [if_pos h2, List.getElem?_eq_getElem h2]; rfl
      · rw [if_neg h2, List.getElem?_eq_none (by omega)]; rfl
    · rw [if_neg (Ne.symm h), if_neg h]
  | heap H' => rfl
  | frz ks => simp only [Eff.on, Eff.onF, List.getElem?_mapIdx]

theorem agreeT_self {β : Bet} {H : Heap} {tt : Option (List Nat × List Nat)} : AgreeT β (fun k => H[k]?) H tt := by
  cases tt with
  | none => exact fun _ _ _ => rfl
  | some p => exact fun _ _ _ _ => rfl

theorem okOper_some {ntmps : Nat} {ops : Array Oper} {o : Oper} {sp : SP} (h : okOper P num ntmps ops o sp = true) :
    o.dst = sp.dst ∧ (∀ d, sp.dst = some d → d < ntmps) ∧ okG ops o.guard sp.g = true ∧ okOp P num o.op sp.op = true := by
  simp only [okOper, Bool.and_eq_true] at h
  obtain ⟨⟨⟨h1, h2⟩, h3⟩, h4⟩ := h
  refine ⟨by simpa using h1, fun d hd => ?_, h3, h4⟩
  rw [hd] at h2; simpa using h2

/-- A guard is known alike. -/
theorem wants_ok {β : Bet} {hf : Nat → Option Blk} {w : World} {T : Slots} {a : Act} {ops : Array Oper} {o : Oper} {g : Option (Nat × Bool)} (h : okG ops o.guard g = true)
    (hv : ∀ t b, g = some (t, b) → VR num β hf w (T.get t) (a.tmps.getD t undef) ∧ t < a.tmps.size) (hk : known T g = true) : Region.wanted o (yielded ops a.tmps) = wants T g := by
  unfold okG at h
  split at h
  · rename_i h1; simp [Region.wanted, h1, wants]
  · rename_i j b t b' h1
    simp only [Bool.and_eq_true, beq_iff_eq] at h
    obtain ⟨rfl, h2⟩ := h
    split at h2
    · rename_i o' ho'
      have hd : o'.dst = some t := by simpa using h2
      obtain ⟨hv1, hv2⟩ := hv t b rfl
      have hy : yielded ops a.tmps j = (match a.tmps.getD t undef with | .bool c => some c | _ => none) := by
        simp only [yielded, ho', Option.bind_some, hd]
        rw [Array.getElem?_eq_getElem hv2, Array.getD_eq_getD_getElem?, Array.getElem?_eq_getElem hv2]
        simp only [Option.getD_some]
        split <;> simp_all
      simp only [Region.wanted, h1, hy, wants, known] at hk ⊢
      split at hk
      · rename_i c hc
        rw [hc] at hv1
        have hz : a.tmps.getD t undef = .bool c := by
          generalize a.tmps.getD t undef = z at hv1
          cases hv1 with | pv hv1 => cases hv1; rfl
        rw [hz, hc]
        cases c <;> cases b <;> rfl
      · rename_i hc
        rw [hc] at hv1
        have hz : a.tmps.getD t undef = undef := by
          generalize a.tmps.getD t undef = z at hv1
          cases hv1 with | pv hv1 => cases hv1; rename_i vs h8 h9; have : vs = #[] := Array.eq_empty_of_size_eq_zero (by simpa using h8.symm); rw [this]; rfl
        rw [hz, hc]; rfl
      · cases hk
    · cases h2
  · cases h

theorem step_le {so : SO} {T : Slots} {H : Heap} {v : AV} {e : Eff} (h : step ext T H so = some (v, e)) : H.length ≤ (e.on H).length := by
  have ht := step_touch h
  cases e with
  | none => exact Nat.le_refl _
  | push b => simp [Eff.on]
  | put k b => simp [Eff.on]
  | heap H' => exact (ht.heap H' rfl).1
  | frz ks => simp [Eff.on]
theorem news_lt {e : Eff} {H : Heap} {k : Nat} (h : e.news H.length k) : H.length ≤ k ∧ k < (e.on H).length := by
  cases e with
  | none => exact h.elim
  | push b => simp only [Eff.news] at h; simp [Eff.on, h]
  | put k b => exact h.elim
  | heap H' => exact h
  | frz ks => exact h.elim

theorem St.put {β β' : Bet} {T : Slots} {H H' : Heap} {n : Nat} {a : Act} {w w' : World} {d : Option Nat} {v : AV} {r : Value} (h : St num β T H n a w) (hg : Goes β (fun k => H[k]?) w β' (fun k => H'[k]?) w')
    (hr : HR num β' (fun k => H'[k]?) w') (hv : VR num β' (fun k => H'[k]?) w' v r) (hd : ∀ t, d = some t → t < n) : St num β' (T.put d v) H' n (a.put d r) w' := by
  refine ⟨hr, fun t => ?_, by rw [act_put_size, h.size], by rw [act_put_defers, h.defers]⟩
  cases d with
  | none => exact hg.vr (h.sl t)
  | some d =>
    by_cases e : d = t
    · subst e
      rw [get_put_same, act_put_same (by rw [h.size]; exact hd d rfl)]
      exact hv
    · rw [get_put_ne _ _ e, act_put_ne e]
      exact hg.vr (h.sl t)

theorem undef_vr {β : Bet} {hf : Nat → Option Blk} {w : World} : VR num β hf w (.pv .undef) undef :=
  .pv (.tup #[] rfl (by simp))

theorem okG_lt {n : Nat} {ops : Array Oper} (hd : ∀ o ∈ ops.toList, ∀ d, o.dst = some d → d < n) {g : Option (Nat × Bool)} {g' : Option (Nat × Bool)} (h : okG ops g g' = true) : ∀ t b, g' = some (t, b) → t < n := by
  unfold okG at h
  split at h
  · intro t b e; cases e
  · rename_i j b t b'
    intro t1 b1 e
    cases e
    simp only [Bool.and_eq_true] at h
    obtain ⟨_, h⟩ := h
    split at h
    · rename_i o ho
      exact hd o (Array.mem_toList_iff.2 (Array.mem_of_getElem? ho)) _ (by simpa using h)
    · cases h
  · cases h

theorem steps_sound {ntmps : Nat} {ops : Array Oper} {Q : Exit → Act → World → Prop} (hext : ExtOK P num ext) (hd : ∀ o ∈ ops.toList, ∀ d, o.dst = some d → d < ntmps) : ∀ (l : List Oper) (sps : List SP) (T : Slots) (H : Heap) (T' : Slots) (H' : Heap) (β : Bet) (a : Act) (w : World),
    okOpers P num ntmps ops l sps = true → steps ext sps T H = some (T', H') → St num β T H ntmps a w →
    (∀ β' a' w', Goes β (fun k => H[k]?) w β' (fun k => H'[k]?) w' → St num β' T' H' ntmps a' w' → (∀ k, β' k ≠ none → β k ≠ none ∨ (H.length ≤ k ∧ k < H'.length)) → H.length ≤ H'.length → Q .normal a' w') → wpList P ops Q l a w := by
  intro l
  induction l with
  | nil =>
    intro sps T H T' H' β a w hok hs hst hq
    cases sps with
    | nil =>
      simp only [steps, Option.some.injEq, Prod.mk.injEq] at hs
      obtain ⟨rfl, rfl⟩ := hs
      exact hq β a w (Goes.refl _ _ _) hst (fun k hk => .inl hk) (Nat.le_refl _)
    | cons _ _ => cases hok
  | cons o l ih =>
    intro sps T H T' H' β a w hok hs hst hq
    cases sps with
    | nil => cases hok
    | cons sp sps =>
      simp only [okOpers, Bool.and_eq_true] at hok
      obtain ⟨hok1, hok2⟩ := hok
      obtain ⟨hdst, hdlt, hg, hop⟩ := okOper_some hok1
      simp only [steps] at hs
      split at hs
      · rename_i T1 H1 h1
        unfold step1 at h1
        split at h1
        · rename_i hk
          have hw := wants_ok (a := a) (o := o) hg (fun t b e => ⟨hst.sl t, by rw [hst.size]; exact okG_lt hd hg t b e⟩) hk
          refine wpList_step fun K hK => ?_
          rw [hw]
          split at h1
          · rename_i hwt
            rw [if_pos hwt]
            simp only [Option.map_eq_some_iff, Prod.mk.injEq] at h1
            obtain ⟨⟨v, e⟩, h1, rfl, rfl⟩ := h1
            refine step_sound hext rfl hop (fun t _ => hst.sl t) hst.hr agreeT_self rfl (fun _ => hst.fresh (Nat.le_refl _)) h1 K Q ?_
            intro r β1 w1 hg1 hr1 hv1 hn1
            refine hK _ _ (ih sps _ _ T' H' β1 _ w1 hok2 hs ?_ ?_)
            · rw [hdst]
              rw [← on_eq] at hg1 hr1 hv1
              exact hst.put hg1 hr1 hv1 hdlt
            · intro β' a' w' hg' hst' hn' hle
              rw [← on_eq] at hg1
              have hle1 := step_le h1
              have hle2 : (e.on H).length ≤ H'.length := hle
              refine hq β' a' w' (hg1.trans hg') hst' (fun k hk => ?_) (Nat.le_trans hle1 hle)
              rcases hn' k hk with h | ⟨h, h2⟩
              · rcases hn1 k h with h | h
                · exact .inl h
                · have := news_lt h
                  exact .inr ⟨this.1, by omega⟩
              · exact .inr ⟨Nat.le_trans hle1 h, h2⟩
          · rename_i hwt
            rw [if_neg hwt]
            simp only [Option.some.injEq, Prod.mk.injEq] at h1
            obtain ⟨rfl, rfl⟩ := h1
            refine hK _ _ (ih sps _ _ T' H' β _ w hok2 hs ?_ hq)
            rw [hdst]
            exact hst.put (Goes.refl _ _ _) hst.hr undef_vr hdlt
        · cases h1
      · cases hs
end Dk
