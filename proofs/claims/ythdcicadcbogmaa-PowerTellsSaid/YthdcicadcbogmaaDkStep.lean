/- Any operation that fits does what the abstract machine's does. -/
import Derived.Test.YthdcicadcbogmaaDkCalls
set_option linter.all false
namespace Dk
open Go Go.RowKit
variable {P : Program} {num : Nat → FuncId} {β : Bet} {hf : Nat → Option Blk} {w : World} {T : Slots} {a : Act} {H : Heap} {o : Oper} {k0 : Nat} {ext : Ext} {v : AV} {eff : Eff}

theorem run_eqGuard_ptr (op : BinOp) (t : TypeId) (x y : Operand) (p q : Option Addr) : (eqGuard op t x y (.pointer p) (.pointer q)).run P w = .ok () w := by
  unfold eqGuard; split <;> simp
theorem run_equal_ptr {t e : TypeId} (p : Option Addr) (hu : P.underlying t = some (.pointer e)) : (Op.equal t (.pointer p) (.pointer none)).run P w = .ok p.isNone w := by
  show (Op.equalIn (9999 + 1) t (.pointer p) (.pointer none)).run P w = .ok p.isNone w
  rw [Op.equalIn, Sem.run_bind, run_underlying hu]
  cases p <;> rfl

theorem sound_isNilP {neg : Bool} {t t' : TypeId} {x : Operand} {x' : SX} (ho : o.op = .binOp (if neg then .neq else .eql) t x (.const (.pointer none)) t') (hM : isPtrT P t = true)
    (hx : VR num β hf w (x'.ev T) (a.eval x)) (hH : HR num β hf w) (hA : Agree β hf H (refs (x'.ev T)))
    (hs : step ext T H (.isNilP neg x') = some (v, eff)) : Cont P num o a β hf w k0 v eff := by
  obtain ⟨e, hu⟩ : ∃ e, P.underlying t = some (.pointer e) := by
    unfold isPtrT at hM; split at hM
    · rename_i e h; exact ⟨e, h⟩
    · cases hM
  have main : ∀ p, a.eval x = .pointer p → v = .pv (.bool (if neg then !p.isNone else p.isNone)) → eff = .none → Cont P num o a β hf w k0 v eff := by
    rintro p hv rfl rfl
    refine cont_value (r := .bool (if neg then !p.isNone else p.isNone)) ?_ (vr_bool _) hH
    have h1 : (binOp .eql t (.pointer p) (.pointer none)).run P w = .ok (.bool p.isNone) w := by
      have : binOp .eql t (.pointer p) (.pointer none) = (do pure (Value.bool (← Op.equal t (.pointer p) (.pointer none))) : Sem Value) := by cases p <;> rfl
      rw [this, Sem.run_bind, run_equal_ptr p hu]; rfl
    have h2 : (binOp .neq t (.pointer p) (.pointer none)).run P w = .ok (.bool (!p.isNone)) w := by
      have : binOp .neq t (.pointer p) (.pointer none) = (do pure (Value.bool (!(← Op.equal t (.pointer p) (.pointer none)))) : Sem Value) := by cases p <;> rfl
      rw [this, Sem.run_bind, run_equal_ptr p hu]; rfl
    have hc : a.eval (.const (.pointer none)) = .pointer none := rfl
    cases neg
    · simp at ho
      simp [execOp, ho, hv, hc, run_eqGuard_ptr, h1]
    · simp at ho
      simp [execOp, ho, hv, hc, run_eqGuard_ptr, h2]
  simp only [step] at hs
  split at hs
  · rename_i hp
    simp at hs; obtain ⟨rfl, rfl⟩ := hs
    rw [hp] at hx
    cases hx with | pv hx =>
    generalize hX : a.eval x = X at *
    cases hx
    exact main none rfl (by cases neg <;> rfl) rfl
  · rename_i k len i off hp
    simp only [Option.map_eq_some_iff, Prod.mk.injEq] at hs
    obtain ⟨bk, hg, rfl, rfl⟩ := hs
    rw [hp] at hx hA
    obtain ⟨b, hb, hk, hv, hB⟩ := ptr_at hH hA hx hg
    exact main _ hv (by cases neg <;> rfl) rfl
  · cases hs

def optSlots : Option SX → List Nat
  | none => []
  | some x => x.slots
/-- The slots that an operation names. -/
def SO.slots : SO → List Nat
  | .move x | .box _ x | .load _ x | .nilck x | .isNil _ x | .isNilP _ x | .un _ x | .conv _ x | .convSB x | .convBS x | .sliceA _ _ x | .lenStr x | .len x | .fld _ x | .field _ _ x | .extract _ x => x.slots
  | .pick c a b => c.slots ++ a.slots ++ b.slots
  | .alloc _ _ => []
  | .build _ parts => parts.flatMap fun q => q.2.2.slots
  | .mkrow _ xs | .mkfn _ xs | .call _ xs => xs.flatMap SX.slots
  | .store _ a x | .bin _ a x | .eqA _ _ a x | .eqB _ a x | .idxA _ _ a x | .idxS _ a x | .index _ _ _ a x | .indexStr a x | .append _ _ a x | .copy _ a x | .mn a x | .mx a x | .lookup _ _ _ a x | .mkslice _ _ _ a x => a.slots ++ x.slots
  | .slice _ x lo hi | .sliceStr x lo hi => x.slots ++ optSlots lo ++ optSlots hi
  | .callv f xs => f.slots ++ xs.flatMap SX.slots

theorem TR.sub {ts us : List Nat} (h : TR num β hf w T a us) (hs : ∀ t ∈ ts, t ∈ us) : TR num β hf w T a ts := fun t ht => h t (hs t ht)

theorem sub_l {ts us : List Nat} : ∀ t ∈ ts, t ∈ ts ++ us := fun _ h => List.mem_append.2 (.inl h)
theorem sub_r {ts us : List Nat} : ∀ t ∈ us, t ∈ ts ++ us := fun _ h => List.mem_append.2 (.inr h)
theorem sub_flat {α : Type} {f : α → List Nat} {l : List α} {x : α} (h : x ∈ l) : ∀ t ∈ f x, t ∈ l.flatMap f := fun _ ht => List.mem_flatMap.2 ⟨x, h, ht⟩
theorem agree_nil {ks : List Nat} (h : Agree β hf H (ks ++ [])) : Agree β hf H ks := h.sub fun _ h => by simpa using h

theorem step_sound {op : Op} {so : SO} (hext : ExtOK P num ext) (ho : o.op = op) (hok : okOp P num op so = true) (hT : TR num β hf w T a so.slots) (hH : HR num β hf w) (hA : AgreeT β hf H (touch ext T so))
    (hk0 : H.length = k0) (hnew : (∃ b, eff = .push b) → β k0 = none) (hs : step ext T H so = some (v, eff)) : Cont P num o a β hf w k0 v eff := by
  unfold okOp at hok
  split at hok
  · exact sound_move (.inl ho) (ev_ok hok hT) hH hs
  · exact sound_move (.inr ho) (ev_ok hok hT) hH hs
  · simp only [Bool.and_eq_true] at hok
    exact sound_pick ho (ev_ok hok.1.1 (hT.sub fun t h => sub_l t (sub_l t h))) (ev_ok hok.1.2 (hT.sub fun t h => sub_l t (sub_r t h))) (ev_ok hok.2 (hT.sub sub_r)) hH hs
  · exact sound_alloc ho hok hH hk0 hnew hs
  · exact sound_box ho (ev_ok hok hT) hH hk0 hnew hs
  · simp only [Bool.and_eq_true] at hok
    exact sound_load ho hok.1 (ev_ok hok.2 hT) hH (agree_nil hA) hs
  · simp only [Bool.and_eq_true] at hok
    exact sound_store ho hok.1.1 (ev_ok hok.1.2 (hT.sub sub_l)) (ev_ok hok.2 (hT.sub sub_r)) hH (hA.sub sub_r) hs
  · exact sound_nilck ho (ev_ok hok hT) hH (agree_nil hA) hs
  · simp only [Bool.and_eq_true] at hok
    exact sound_fld ho hok.1 (ev_ok hok.2 hT) hH (agree_nil hA) hs
  · simp only [Bool.and_eq_true] at hok
    exact sound_idxS ho hok.1.1 (ev_ok hok.1.2 (hT.sub sub_l)) (ev_ok hok.2 (hT.sub sub_r)) hH (agree_nil hA) hs
  · simp only [Bool.and_eq_true] at hok
    exact sound_idxA ho hok.1.1 (ev_ok hok.1.2 (hT.sub sub_l)) (ev_ok hok.2 (hT.sub sub_r)) hH (agree_nil hA) hs
  · simp only [Bool.and_eq_true, decide_eq_true_eq] at hok
    obtain ⟨⟨rfl, h2⟩, h3⟩ := hok
    exact sound_bin ho (ev_ok h2 (hT.sub sub_l)) (ev_ok h3 (hT.sub sub_r)) hH hs
  · simp only [Bool.and_eq_true] at hok
    exact sound_eqB (neg := false) ho hok.1.1 (ev_ok hok.1.2 (hT.sub sub_l)) (ev_ok hok.2 (hT.sub sub_r)) hH hs
  · simp only [Bool.and_eq_true] at hok
    exact sound_eqB (neg := true) ho hok.1.1 (ev_ok hok.1.2 (hT.sub sub_l)) (ev_ok hok.2 (hT.sub sub_r)) hH hs
  · simp only [Bool.and_eq_true, decide_eq_true_eq, Bool.not_eq_true'] at hok
    exact sound_eqA (neg := false) ho hok.1.1.1.1 hok.1.1.1.2 hok.1.1.2 (ev_ok hok.1.2 (hT.sub sub_l)) (ev_ok hok.2 (hT.sub sub_r)) hH hs
  · simp only [Bool.and_eq_true, decide_eq_true_eq, Bool.not_eq_true'] at hok
    exact sound_eqA (neg := true) ho hok.1.1.1.1 hok.1.1.1.2 hok.1.1.2 (ev_ok hok.1.2 (hT.sub sub_l)) (ev_ok hok.2 (hT.sub sub_r)) hH hs
  · simp only [Bool.and_eq_true] at hok
    exact sound_isNil (neg := false) ho hok.1 (ev_ok hok.2 hT) hH (agree_nil hA) hs
  · simp only [Bool.and_eq_true] at hok
    exact sound_isNil (neg := true) ho hok.1 (ev_ok hok.2 hT) hH (agree_nil hA) hs
  · simp only [Bool.and_eq_true] at hok
    exact sound_isNilP (neg := false) ho hok.1 (ev_ok hok.2 hT) hH (agree_nil hA) hs
  · simp only [Bool.and_eq_true] at hok
    exact sound_isNilP (neg := true) ho hok.1 (ev_ok hok.2 hT) hH (agree_nil hA) hs
  · simp only [Bool.and_eq_true, decide_eq_true_eq] at hok
    obtain ⟨rfl, h2⟩ := hok
    exact sound_un ho (ev_ok h2 hT) hH hs
  · simp only [Bool.and_eq_true] at hok
    exact sound_conv ho hok.1.1 hok.1.2 (ev_ok hok.2 hT) hH hs
  · simp only [Bool.and_eq_true] at hok
    exact sound_convSB ho hok.1.1 hok.1.2 (ev_ok hok.2 hT) hH (agree_nil hA) hs
  · simp only [Bool.and_eq_true] at hok
    exact sound_convBS ho hok.1.1 hok.1.2 (ev_ok hok.2 hT) hH hs
  · simp only [Bool.and_eq_true, beq_iff_eq] at hok
    obtain ⟨⟨h1, h2⟩, h3⟩ := hok
    obtain ⟨h4, h5⟩ := okXs_some h3
    exact sound_mkfn ho (by simpa using h1) h2 (by simpa using h4.symm) (fun i x y hx hy => ev_ok (h5 i x y (by simpa using hx) hy) (hT.sub (sub_flat (List.mem_of_getElem? hy)))) hH hs
  · simp only [Bool.and_eq_true] at hok
    exact sound_mkslice ho hok.1.1 (ev_ok hok.1.2 (hT.sub sub_l)) (ev_ok hok.2 (hT.sub sub_r)) hH hk0 hnew hs
  · simp only [Bool.and_eq_true] at hok
    exact sound_build ho hok.1 hok.2 (fun q hq => hT.sub (sub_flat (f := fun q : Nat × Nat × SX => q.2.2.slots) hq)) hH hs
  · simp only [Bool.and_eq_true, beq_iff_eq, decide_eq_true_eq] at hok
    obtain ⟨⟨⟨⟨h1, h2⟩, h3⟩, h4⟩, h5⟩ := hok
    exact sound_mkrow ho (by simpa using h1) h2 h3 h4 h5 (fun y hy => hT.sub (sub_flat hy)) hH hk0 hnew hs
  · rename_i t x lo hi esz x' lo' hi'
    simp only [Bool.and_eq_true] at hok
    refine sound_slice ho hok.1.1.1 (ev_ok hok.1.1.2 (hT.sub fun t h => sub_l t (sub_l t h))) hok.1.2 hok.2 (fun z hz => ?_) (fun z hz => ?_) hH (agree_nil hA) hs
    · subst hz; exact hT.sub fun t h => sub_l t (sub_r t h)
    · subst hz; exact hT.sub sub_r
  · simp only [Bool.and_eq_true] at hok
    exact sound_sliceArr ho hok.1 (ev_ok hok.2 hT) hH (agree_nil hA) hs
  · simp only [Bool.and_eq_true] at hok
    refine sound_sliceStr ho hok.1.1.1 (ev_ok hok.1.1.2 (hT.sub fun t h => sub_l t (sub_l t h))) hok.1.2 hok.2 (fun z hz => ?_) (fun z hz => ?_) hH hs
    · subst hz; exact hT.sub fun t h => sub_l t (sub_r t h)
    · subst hz; exact hT.sub sub_r
  · simp only [Bool.and_eq_true, beq_iff_eq] at hok
    obtain ⟨rfl, h2⟩ := hok
    exact sound_extract ho (ev_ok h2 hT) hH hs
  · simp only [Bool.and_eq_true] at hok
    exact sound_field ho hok.1 (ev_ok hok.2 hT) hH hs
  · simp only [Bool.and_eq_true] at hok
    exact sound_index ho hok.1.1 (ev_ok hok.1.2 (hT.sub sub_l)) (ev_ok hok.2 (hT.sub sub_r)) hH hs
  · simp only [Bool.and_eq_true] at hok
    exact sound_indexStr ho hok.1.1 (ev_ok hok.1.2 (hT.sub sub_l)) (ev_ok hok.2 (hT.sub sub_r)) hH hs
  · simp only [Bool.and_eq_true, decide_eq_true_eq] at hok
    obtain ⟨⟨⟨h1, rfl⟩, h3⟩, h4⟩ := hok
    exact sound_lookup ho h1 (ev_ok h3 (hT.sub sub_l)) (ev_ok h4 (hT.sub sub_r)) hH hs
  · split at hok
    · rename_i h1 h2
      simp only [Bool.and_eq_true] at hok
      exact sound_len ho h1 h2 hok.1 (ev_ok hok.2 hT) hH (agree_nil hA) hs
    · cases hok
  · split at hok
    · rename_i h1 h2
      simp only [Bool.and_eq_true] at hok
      exact sound_lenStr ho h1 h2 hok.1 (ev_ok hok.2 hT) hH hs
    · cases hok
  · split at hok
    · rename_i h1 h2
      simp only [Bool.and_eq_true, beq_iff_eq] at hok
      obtain ⟨⟨⟨h3, h4⟩, h5⟩, h6⟩ := hok
      exact sound_append ho h1 h2 h3 (by simpa using h4) (ev_ok h5 (hT.sub sub_l)) (ev_ok h6 (hT.sub sub_r)) hH (hA.sub sub_r) (hA.sub sub_l) hk0 hnew hs
    · cases hok
  · split at hok
    · rename_i h1 h2
      simp only [Bool.and_eq_true, decide_eq_true_eq] at hok
      obtain ⟨⟨⟨⟨h3, h4⟩, h5⟩, h6⟩, h7⟩ := hok
      exact sound_copy ho h1 h2 h3 h5 (ev_ok h6 (hT.sub sub_l)) (ev_ok h7 (hT.sub sub_r)) hH (hA.sub sub_r) (hA.sub sub_l) hs
    · cases hok
  · split at hok
    · rename_i h1
      simp only [Bool.and_eq_true] at hok
      exact sound_mn ho h1 (ev_ok hok.1 (hT.sub sub_l)) (ev_ok hok.2 (hT.sub sub_r)) hH hs
    · cases hok
  · split at hok
    · rename_i h1
      simp only [Bool.and_eq_true] at hok
      exact sound_mx ho h1 (ev_ok hok.1 (hT.sub sub_l)) (ev_ok hok.2 (hT.sub sub_r)) hH hs
    · cases hok
  · simp only [Bool.and_eq_true, beq_iff_eq] at hok
    exact sound_call hext ho hok.1.1 hok.2 (fun y hy => hT.sub (sub_flat hy)) hH hk0 hA hs
  · simp only [Bool.and_eq_true, beq_iff_eq] at hok
    exact sound_callv hext ho hok.1 hok.2 (fun y hy => hT.sub fun t h => sub_r t (sub_flat hy t h)) (hT.sub sub_l) hH hk0 hA hs
  · cases hok
end Dk
