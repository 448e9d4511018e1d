/- Code that fits is sound. -/
import Derived.Test.YthdcicadcbogmaaDkDraw3
import Derived.Deep.LoopGhost
set_option linter.all false
namespace Dk
open Go Go.RowKit
variable {P : Program} {num : Nat → FuncId} {ext : Ext}

def SE.toExit : SE → Exit
  | .normal => .normal
  | .exit i => .exit i
  | .ret => .ret

/-- Code that no run reaches. -/
def SC.dead : SC → Bool
  | .cond (.c .nilp) _ _ => true
  | _ => false

def okCode (P : Program) (num : Nat → FuncId) (n : Nat) : Code → SC → Bool
  | .skip, .skip => true
  | .ret, .ret => true
  | .exit i, .exit j => Nat.beq i j
  | .seq a b, .seq x y => okCode P num n a x && okCode P num n b y
  | .cond c a b, .cond x p q => (SC.cond x p q).dead || (okX num c x && okCode P num n a p && okCode P num n b q)
  | .block i a, .block j x => Nat.beq i j && okCode P num n a x
  | .loop a, .loop _ x => okCode P num n a x
  | .region _ ops false, .region sps => okOpers P num n ops ops.toList sps
  | .region _ ops true, .draw sps free => okOpers P num n ops ops.toList sps && okDraw ops.toList sps free
  | _, s => s.dead

/-- What a walk ends in. -/
structure Fin (num : Nat → FuncId) (n : Nat) (β : Bet) (H : Heap) (w : World) (T' : Slots) (H' : Heap) (β' : Bet) (a' : Act) (w' : World) : Prop where
  goes : Goes β (fun k => H[k]?) w β' (fun k => H'[k]?) w'
  st : St num β' T' H' n a' w'
  dom : ∀ k, β' k ≠ none → β k ≠ none ∨ (H.length ≤ k ∧ k < H'.length)
  le : H.length ≤ H'.length

theorem Fin.refl {n : Nat} {β : Bet} {H : Heap} {w : World} {T : Slots} {a : Act} (h : St num β T H n a w) : Fin num n β H w T H β a w :=
  ⟨Goes.refl _ _ _, h, fun _ hk => .inl hk, Nat.le_refl _⟩
theorem Fin.trans {n : Nat} {β β1 β2 : Bet} {H H1 H2 : Heap} {w w1 w2 : World} {T1 T2 : Slots} {a1 a2 : Act} (h : Fin num n β H w T1 H1 β1 a1 w1) (g : Fin num n β1 H1 w1 T2 H2 β2 a2 w2) : Fin num n β H w T2 H2 β2 a2 w2 := by
  refine ⟨h.goes.trans g.goes, g.st, fun k hk => ?_, Nat.le_trans h.le g.le⟩
  have h1 := h.le
  have h2 := g.le
  rcases g.dom k hk with h3 | ⟨h3, h4⟩
  · rcases h.dom k h3 with h5 | ⟨h5, h6⟩
    · exact .inl h5
    · exact .inr ⟨h5, by omega⟩
  · exact .inr ⟨by omega, h4⟩

theorem okOpers_dst {n : Nat} {ops : Array Oper} {l : List Oper} {sps : List SP} (h : okOpers P num n ops l sps = true) : ∀ o ∈ l, ∀ d, o.dst = some d → d < n := by
  obtain ⟨h1, h2⟩ := okOpers_spec h
  intro o ho d hd
  obtain ⟨i, hi⟩ := List.getElem?_of_mem ho
  have hil := (List.getElem?_eq_some_iff.1 hi).1
  have hsp := List.getElem?_eq_getElem (show i < sps.length by omega)
  obtain ⟨h3, h4, _⟩ := okOper_some (h2 i o _ hi hsp)
  exact h4 d (by rw [← h3, hd])

theorem dead_none {sc : SC} (h : sc.dead = true) {T : Slots} {H : Heap} : den ext sc T H = none := by
  unfold SC.dead at h
  split at h
  · rfl
  · cases h

/-- Forgetting slots. -/
theorem zip_get (live : List Nat) (f : Nat → AV) (t : Nat) : Slots.get (live.zip (live.map f)) t = .unk ∨ Slots.get (live.zip (live.map f)) t = f t := by
  induction live with
  | nil => exact .inl rfl
  | cons x l ih =>
    show (bif Nat.beq x t then f x else Slots.get (l.zip (l.map f)) t) = .unk ∨ (bif Nat.beq x t then f x else Slots.get (l.zip (l.map f)) t) = f t
    cases hb : Nat.beq x t with
    | true => have := Nat.eq_of_beq_eq_true hb; subst this; exact .inr rfl
    | false => exact ih
theorem St.live {β : Bet} {T : Slots} {H : Heap} {n : Nat} {a : Act} {w : World} (h : St num β T H n a w) (live : List Nat) : St num β (live.zip (live.map T.get)) H n a w := by
  refine ⟨h.hr, fun t => ?_, h.size, h.defers⟩
  rcases zip_get live T.get t with e | e
  · rw [e]; exact .unk
  · rw [e]; exact h.sl t
theorem Fin.live {n : Nat} {β β' : Bet} {H H' : Heap} {w w' : World} {T' : Slots} {a' : Act} (h : Fin num n β H w T' H' β' a' w') (live : List Nat) : Fin num n β H w (live.zip (live.map T'.get)) H' β' a' w' :=
  ⟨h.goes, h.st.live live, h.dom, h.le⟩

inductive LoopN {σ ρ : Type} (f : σ → Option (σ ⊕ ρ)) : Nat → σ → ρ → Prop
  | done {s : σ} {r : ρ} (h : f s = some (.inr r)) : LoopN f 0 s r
  | next {n : Nat} {s s' : σ} {r : ρ} (h : f s = some (.inl s')) (k : LoopN f n s' r) : LoopN f (n + 1) s r
theorem LoopR.toN {σ ρ : Type} {f : σ → Option (σ ⊕ ρ)} {s : σ} {r : ρ} (h : LoopR f s r) : ∃ n, LoopN f n s r := by
  induction h with
  | done h => exact ⟨0, .done h⟩
  | next h _ ih => obtain ⟨n, hn⟩ := ih; exact ⟨n + 1, .next h hn⟩

theorem code_sound (hext : ExtOK P num ext) (hm : P.follows .mixedOrders = true) {n : Nat} : ∀ (sc : SC) (c : Code), okCode P num n c sc = true → ∀ (T : Slots) (H : Heap) (e : SE) (T' : Slots) (H' : Heap), den ext sc T H = some (e, T', H') →
    ∀ (β : Bet) (a : Act) (w : World), St num β T H n a w → ∀ (Q : Exit → Act → World → Prop), (∀ β' a' w', Fin num n β H w T' H' β' a' w' → Q e.toExit a' w') → c.wp P Q a w := by
  intro sc
  induction sc with
  | skip =>
    intro c hok T H e T' H' hd β a w hst Q hq
    cases c <;> simp [okCode, SC.dead] at hok
    simp only [den, Option.some.injEq, Prod.mk.injEq] at hd
    obtain ⟨rfl, rfl, rfl⟩ := hd
    exact wp_skip (hq β a w (.refl hst))
  | ret =>
    intro c hok T H e T' H' hd β a w hst Q hq
    cases c <;> simp [okCode, SC.dead] at hok
    simp only [den, Option.some.injEq, Prod.mk.injEq] at hd
    obtain ⟨rfl, rfl, rfl⟩ := hd
    exact wp_ret (hq β a w (.refl hst))
  | exit j =>
    intro c hok T H e T' H' hd β a w hst Q hq
    cases c <;> simp [okCode, SC.dead] at hok
    simp only [den, Option.some.injEq, Prod.mk.injEq] at hd
    obtain ⟨rfl, rfl, rfl⟩ := hd
    have := hq β a w (.refl hst)
    rw [hok]
    exact wp_exit this
  | seq x y ihx ihy =>
    intro c hok T H e T' H' hd β a w hst Q hq
    cases c <;> simp [okCode, SC.dead] at hok
    rename_i a1 b1
    refine wp_seq ?_
    simp only [den] at hd
    split at hd
    · rename_i T1 H1 h1
      refine ihx a1 hok.1 T H .normal T1 H1 h1 β a w hst _ fun β1 a1 w1 hf1 => ?_
      exact ihy b1 hok.2 T1 H1 e T' H' hd β1 a1 w1 hf1.st Q fun β2 a2 w2 hf2 => hq β2 a2 w2 (hf1.trans hf2)
    · rename_i r hr
      refine ihx a1 hok.1 T H e T' H' hd β a w hst _ fun β1 a1 w1 hf1 => ?_
      cases e with
      | normal => exact absurd hd (hr T' H')
      | exit i => exact hq β1 a1 w1 hf1
      | ret => exact hq β1 a1 w1 hf1
  | cond x p q ihp ihq =>
    intro c hok T H e T' H' hd β a w hst Q hq
    by_cases hdead : (SC.cond x p q).dead = true
    · rw [dead_none hdead] at hd; cases hd
    cases c <;> simp [okCode, hdead] at hok
    rename_i c1 a1 b1
    simp only [den] at hd
    split at hd
    · rename_i t ht
      have hv := ev_ok (β := β) (hf := fun k => H[k]?) (w := w) (T := T) (a := a) hok.1.1 (fun t _ => hst.sl t)
      rw [ht] at hv
      have hc : a.eval c1 = .bool t := by
        generalize a.eval c1 = z at hv
        cases hv with | pv hv => cases hv; rfl
      refine wp_cond hc ?_
      cases t
      · exact ihq b1 hok.2 T H e T' H' hd β a w hst Q hq
      · exact ihp a1 hok.1.2 T H e T' H' hd β a w hst Q hq
    · cases hd
  | block j x ih =>
    intro c hok T H e T' H' hd β a w hst Q hq
    cases c <;> simp [okCode, SC.dead] at hok
    rename_i i a1
    have := hok.1
    subst this
    refine wp_block ?_
    simp only [den] at hd
    split at hd
    · rename_i k T1 H1 h1
      simp only [Option.some.injEq, Prod.mk.injEq] at hd
      obtain ⟨rfl, rfl, rfl⟩ := hd
      refine ih a1 hok.2 T H _ _ _ h1 β a w hst _ fun β1 a1 w1 hf1 => ?_
      have := hq β1 a1 w1 hf1
      show (if k = i then Q .normal a1 w1 else Q (.exit k) a1 w1)
      by_cases hk : k = i
      · rw [if_pos hk] at this ⊢; exact this
      · rw [if_neg hk] at this ⊢; exact this
    · rename_i r hr
      refine ih a1 hok.2 T H e T' H' hd β a w hst _ fun β1 a1 w1 hf1 => ?_
      cases e with
      | normal => exact hq β1 a1 w1 hf1
      | exit i => exact absurd hd (hr i T' H')
      | ret => exact hq β1 a1 w1 hf1
  | loop live x ih =>
    intro c hok T H e T' H' hd β a w hst Q hq
    cases c <;> simp [okCode, SC.dead] at hok
    rename_i a1
    simp only [den] at hd
    split at hd
    · rename_i e1 vs H1 h1
      simp only [Option.some.injEq, Prod.mk.injEq] at hd
      obtain ⟨rfl, rfl, rfl⟩ := hd
      obtain ⟨m, hm⟩ := (loopRun_iff.1 h1).toN
      refine wp_loop_ghost (fun m a' w' => ∃ T1 H2 β1, LoopN _ m (live.map T1.get, H2) (e1, vs, H1) ∧ Fin num n β H w (live.zip (live.map T1.get)) H2 β1 a' w') m ⟨T, H, β, hm, .refl (hst.live live)⟩ ?_
      rintro m a2 w2 ⟨T1, H2, β1, hN, hf1⟩
      generalize hs : (live.map T1.get, H2) = s at hN
      cases hN with
      | done h =>
        subst hs
        simp only at h
        split at h
        · simp at h
        · rename_i e2 T3 H3 hne h3
          simp only [Option.some.injEq, Sum.inr.injEq, Prod.mk.injEq] at h
          obtain ⟨rfl, rfl, rfl⟩ := h
          refine ih a1 hok _ _ _ _ _ h3 β1 a2 w2 hf1.st _ fun β3 a3 w3 hf3 => ?_
          have := hq β3 a3 w3 ((hf1.trans hf3).live live)
          cases e2 with
          | normal => exact (hne rfl).elim
          | exit i => exact this
          | ret => exact this
        · cases h
      | next h k =>
        subst hs
        simp only at h
        split at h
        · rename_i T3 H3 h3
          simp only [Option.some.injEq, Sum.inl.injEq] at h
          subst h
          refine ih a1 hok _ _ _ _ _ h3 β1 a2 w2 hf1.st _ fun β3 a3 w3 hf3 => ?_
          exact ⟨_, Nat.lt_succ_self _, T3, H3, β3, k, (hf1.trans hf3).live live⟩
        · simp at h
        · cases h
    · cases hd
  | region l =>
    intro c hok T H e T' H' hd β a w hst Q hq
    cases c with
    | region id ops draw =>
      cases draw with
      | true => simp [okCode, SC.dead] at hok
      | false =>
        simp only [okCode] at hok
        simp only [den, Option.map_eq_some_iff, Prod.mk.injEq] at hd
        obtain ⟨⟨T1, H1⟩, h1, rfl, rfl, rfl⟩ := hd
        exact wp_region_list (steps_sound hext (okOpers_dst hok) _ _ _ _ _ _ β a w hok h1 hst fun β' a' w' g1 g2 g3 g4 => hq β' a' w' ⟨g1, g2, g3, g4⟩)
    | _ => simp [okCode, SC.dead] at hok
  | draw l free =>
    intro c hok T H e T' H' hd β a w hst Q hq
    cases c with
    | region id ops draw =>
      cases draw with
      | false => simp [okCode, SC.dead] at hok
      | true =>
        simp only [okCode, Bool.and_eq_true] at hok
        simp only [den] at hd
        split at hd
        · rename_i hfr
          simp only [Option.map_eq_some_iff, Prod.mk.injEq] at hd
          obtain ⟨⟨T1, H1⟩, h1, rfl, rfl, rfl⟩ := hd
          exact draw_sound hext hm (okOpers_dst hok.1) hok.1 hok.2 h1 hfr hst fun β' a' w' g1 g2 g3 g4 => hq β' a' w' ⟨g1, g2, g3, g4⟩
        · cases hd
    | _ => simp [okCode, SC.dead] at hok
end Dk
