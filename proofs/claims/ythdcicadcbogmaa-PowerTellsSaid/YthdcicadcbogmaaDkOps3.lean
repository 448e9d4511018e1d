/- One operation of loaded code does what the abstract machine's does: what only computes. -/
import Derived.Test.YthdcicadcbogmaaDkOps2
set_option linter.all false
namespace Dk
open Go
variable {P : Program} {num : Nat → FuncId} {β : Bet} {hf : Nat → Option Blk} {w : World} {T : Slots} {a : Act} {H : Heap} {o : Oper} {k0 : Nat} {ext : Ext} {v : AV} {eff : Eff}

theorem VR.pv_bool {y : SX} {u : Value} {b : Bool} (h : VR num β hf w (y.ev T) u) (e : y.ev T = .pv (.bool b)) : u = .bool b := by
  rw [e] at h; cases h with | pv h => cases h; rfl
theorem VR.pv_str {y : SX} {u : Value} {s : ByteArray} (h : VR num β hf w (y.ev T) u) (e : y.ev T = .pv (.str s)) : u = .string s := by
  rw [e] at h; cases h with | pv h => cases h; rfl
theorem vr_int (k : IntKind) (n : Int) : VR num β hf w (.pv (.int k n)) (.int k n) := .pv (.int k n)
theorem vr_bool (b : Bool) : VR num β hf w (.pv (.bool b)) (.bool b) := .pv (.bool b)
theorem vr_str (s : ByteArray) : VR num β hf w (.pv (.str s)) (.string s) := .pv (.str s)

theorem sound_move {x : Operand} {y : SX} (ho : o.op = .move x ∨ o.op = .assign x) (hx : VR num β hf w (y.ev T) (a.eval x)) (hH : HR num β hf w)
    (hs : step ext T H (.move y) = some (v, eff)) : Cont P num o a β hf w k0 v eff := by
  simp [step] at hs; obtain ⟨rfl, rfl⟩ := hs
  refine cont_value (r := a.eval x) ?_ hx hH
  rcases ho with ho | ho <;> simp [execOp, ho]

theorem sound_pick {c x y : Operand} {c' x' y' : SX} (ho : o.op = .pick c x y) (hc : VR num β hf w (c'.ev T) (a.eval c)) (hx : VR num β hf w (x'.ev T) (a.eval x)) (hy : VR num β hf w (y'.ev T) (a.eval y)) (hH : HR num β hf w)
    (hs : step ext T H (.pick c' x' y') = some (v, eff)) : Cont P num o a β hf w k0 v eff := by
  simp only [step] at hs
  split at hs
  · rename_i t ht
    simp at hs; obtain ⟨rfl, rfl⟩ := hs
    have hc' := VR.pv_bool hc ht
    refine cont_value (r := if t then a.eval x else a.eval y) ?_ (by cases t <;> simp [hx, hy]) hH
    cases t <;> simp [execOp, ho, hc', asBool]
  · cases hs

theorem run_eqGuard_int (op : BinOp) (t : TypeId) (x y : Operand) (k k' : IntKind) (m n : Int) : (eqGuard op t x y (.int k m) (.int k' n)).run P w = .ok () w := by
  unfold eqGuard; split <;> simp
theorem run_eqGuard_str (op : BinOp) (t : TypeId) (x y : Operand) (m n : ByteArray) : (eqGuard op t x y (.string m) (.string n)).run P w = .ok () w := by
  unfold eqGuard; split <;> simp
theorem run_eqGuard_bool (op : BinOp) (t : TypeId) (x y : Operand) (m n : Bool) : (eqGuard op t x y (.bool m) (.bool n)).run P w = .ok () w := by
  unfold eqGuard; split <;> simp

theorem run_binP {op : BinOp} {t : TypeId} {p q r : PV} {X : Nat → Prop} {u z : Value} (hp : PR num w X p u) (hq : PR num w X q z) (h : binP op p q = some r) :
    ∃ s, (binOp op t u z).run P w = .ok s w ∧ PR num w X r s := by
  cases p with
  | int k m =>
    cases q with
    | int k' n =>
      cases hp; cases hq
      simp only [binP] at h
      split at h
      · rename_i hsh
        simp only [shiftI] at h
        split at h
        · cases h
        · rename_i hn
          cases op <;> simp [isShift] at hsh <;> simp at h <;> subst h <;> exact ⟨_, by simp [binOp, Op.shift, hn], .int _ _⟩
      · rename_i hsh
        split at h
        · rename_i hk
          subst hk
          cases op <;> simp [isShift] at hsh <;> simp only [binI] at h
          case quo => split at h <;> simp at h; subst h; rename_i h0; exact ⟨_, by simp [binOp, Op.intDiv, h0], .int _ _⟩
          case rem => split at h <;> simp at h; subst h; rename_i h0; exact ⟨_, by simp [binOp, Op.intDiv, h0], .int _ _⟩
          case and | or | xor | andNot => injection h with h; subst h; refine ⟨.int k _, ?_, .int _ _⟩; simp only [binOp, ne_eq, not_true_eq_false, if_false]; rfl
          case add | sub | mul => injection h with h; subst h; exact ⟨_, by simp [binOp, Op.intArith], .int _ _⟩
          case eql | neq | lss | leq | gtr | geq => injection h with h; subst h; exact ⟨_, by simp [binOp, Op.intCmp], .bool _⟩
          all_goals cases h
        · cases h
    | _ => simp [binP] at h
  | str s =>
    cases q with
    | str s' =>
      cases hp; cases hq
      simp only [binP, binS] at h
      cases op <;> simp at h
      case add =>
        obtain ⟨hsz, rfl⟩ := h
        refine ⟨.string (s ++ s'), ?_, .str _⟩
        have : ¬ (((s.size + s'.size : Nat) : Int) > IntKind.i64.max) := by
          simp only [IntKind.max, IntKind.signed, IntKind.bits]; simp; omega
        simp only [binOp, Op.stringOp]
        rw [if_neg this]; rfl
      case eql => subst h; exact ⟨_, by simp [binOp, Op.stringOp], .bool _⟩
      case neq => subst h; exact ⟨_, by simp [binOp, Op.stringOp], .bool _⟩
    | _ => simp [binP] at h
  | _ => simp [binP] at h

theorem binP_kinds {op : BinOp} {p q r : PV} (h : binP op p q = some r) : (∃ k m k' n, p = .int k m ∧ q = .int k' n) ∨ (∃ s s', p = .str s ∧ q = .str s') := by
  cases p <;> cases q <;> simp [binP] at h
  · exact .inl ⟨_, _, _, _, rfl, rfl⟩
  · exact .inr ⟨_, _, rfl, rfl⟩

theorem sound_bin {op : BinOp} {t t' : TypeId} {x y : Operand} {x' y' : SX} (ho : o.op = .binOp op t x y t') (hx : VR num β hf w (x'.ev T) (a.eval x)) (hy : VR num β hf w (y'.ev T) (a.eval y)) (hH : HR num β hf w)
    (hs : step ext T H (.bin op x' y') = some (v, eff)) : Cont P num o a β hf w k0 v eff := by
  simp only [step] at hs
  split at hs
  · rename_i p q hp hq
    simp only [Option.map_eq_some_iff, Prod.mk.injEq] at hs
    obtain ⟨r, hr, rfl, rfl⟩ := hs
    rw [hp] at hx; rw [hq] at hy
    cases hx with | pv hx =>
    cases hy with | pv hy =>
    obtain ⟨s, hs, hs2⟩ := run_binP (P := P) (t := t) hx hy hr
    refine cont_value (r := s) ?_ (.pv hs2) hH
    have hg : (eqGuard op t x y (a.eval x) (a.eval y)).run P w = .ok () w := by
      rcases binP_kinds hr with ⟨k, m, k', n, rfl, rfl⟩ | ⟨m, n, rfl, rfl⟩
      · generalize a.eval x = X at *; generalize a.eval y = Y at *
        cases hx; cases hy; exact run_eqGuard_int ..
      · generalize a.eval x = X at *; generalize a.eval y = Y at *
        cases hx; cases hy; exact run_eqGuard_str ..
    simp [execOp, ho, hg, hs]
  · cases hs

theorem run_equalIn_bool (d : Nat) {t : TypeId} (ht : P.underlying t = some .bool) (p q : Bool) : (Op.equalIn (d + 1) t (.bool p) (.bool q)).run P w = .ok (p == q) w := by
  rw [Op.equalIn, Sem.run_bind, run_underlying ht]; rfl
theorem run_equal_bool {t : TypeId} (ht : P.underlying t = some .bool) (p q : Bool) : (Op.equal t (.bool p) (.bool q)).run P w = .ok (p == q) w := run_equalIn_bool 9999 ht p q
theorem run_eql_bool {t : TypeId} (ht : P.underlying t = some .bool) (p q : Bool) : (binOp .eql t (.bool p) (.bool q)).run P w = .ok (.bool (p == q)) w := by
  show (do pure (Value.bool (← Op.equal t (.bool p) (.bool q))) : Sem Value).run P w = _
  rw [Sem.run_bind, run_equal_bool ht]; rfl
theorem run_neq_bool {t : TypeId} (ht : P.underlying t = some .bool) (p q : Bool) : (binOp .neq t (.bool p) (.bool q)).run P w = .ok (.bool (!(p == q))) w := by
  show (do pure (Value.bool (!(← Op.equal t (.bool p) (.bool q)))) : Sem Value).run P w = _
  rw [Sem.run_bind, run_equal_bool ht]; rfl
theorem sound_eqB {neg : Bool} {t t' : TypeId} {x y : Operand} {x' y' : SX} (ho : o.op = .binOp (if neg then .neq else .eql) t x y t') (hB : isBoolT P t = true) (hx : VR num β hf w (x'.ev T) (a.eval x)) (hy : VR num β hf w (y'.ev T) (a.eval y)) (hH : HR num β hf w)
    (hs : step ext T H (.eqB neg x' y') = some (v, eff)) : Cont P num o a β hf w k0 v eff := by
  have ht : P.underlying t = some .bool := by
    unfold isBoolT at hB; split at hB
    · rename_i h; exact h
    · cases hB
  simp only [step] at hs
  split at hs
  · rename_i p q hp hq
    simp at hs; obtain ⟨rfl, rfl⟩ := hs
    have h1 := VR.pv_bool hx hp
    have h2 := VR.pv_bool hy hq
    refine cont_value (r := .bool (if neg then !(p == q) else p == q)) ?_ (vr_bool _) hH
    cases neg
    · simp at ho
      simp [execOp, ho, h1, h2, run_eqGuard_bool, run_eql_bool ht]
    · simp at ho
      simp [execOp, ho, h1, h2, run_eqGuard_bool, run_neq_bool ht]
  · cases hs

theorem sound_un {op : UnOp} {t : TypeId} {x : Operand} {x' : SX} (ho : o.op = .unOp op t x) (hx : VR num β hf w (x'.ev T) (a.eval x)) (hH : HR num β hf w)
    (hs : step ext T H (.un op x') = some (v, eff)) : Cont P num o a β hf w k0 v eff := by
  simp only [step] at hs
  split at hs
  · rename_i p hp
    simp only [Option.map_eq_some_iff, Prod.mk.injEq] at hs
    obtain ⟨r, hr, rfl, rfl⟩ := hs
    rw [hp] at hx
    cases hx with | pv hx =>
    generalize he : a.eval x = X at *
    unfold unP at hr
    split at hr
    · injection hr with hr; subst hr; cases hx
      exact cont_value (r := .bool _) (by simp [execOp, ho, he, Op.unary]) (vr_bool _) hH
    · injection hr with hr; subst hr; cases hx
      exact cont_value (r := .int _ _) (by simp [execOp, ho, he, Op.unary, Op.intArith]) (vr_int _ _) hH
    · cases hx
      simp only [binI] at hr; injection hr with hr; subst hr
      refine cont_value (r := .int _ _) ?_ (vr_int _ _) hH
      simp only [execOp, ho, he, Op.unary]; rfl
    · cases hr
  · cases hs

theorem sound_conv {k : IntKind} {s t : TypeId} {x : Operand} {x' : SX} (ho : o.op = .convert s t x) (h1 : (P.underlying s).isSome = true) (h2 : isIntT P t k = true) (hx : VR num β hf w (x'.ev T) (a.eval x)) (hH : HR num β hf w)
    (hs : step ext T H (.conv k x') = some (v, eff)) : Cont P num o a β hf w k0 v eff := by
  have ht : P.underlying t = some (.int k) := by
    unfold isIntT at h2; split at h2
    · rename_i k' h; simp at h2; subst h2; exact h
    · cases h2
  obtain ⟨d, hd⟩ := Option.isSome_iff_exists.1 h1
  simp only [step] at hs
  split at hs
  · rename_i k' n hp
    simp at hs; obtain ⟨rfl, rfl⟩ := hs
    have h3 := VR.pv_int hx hp
    refine cont_value (r := .int k (k.wrap n)) ?_ (vr_int _ _) hH
    simp [execOp, ho, h3, convert, run_underlying hd, run_underlying ht, Conv.intToInt]
  · cases hs

theorem sound_nilck {x : Operand} {x' : SX} (ho : o.op = .nilCheck x) (hx : VR num β hf w (x'.ev T) (a.eval x)) (hH : HR num β hf w) (hA : Agree β hf H (refs (x'.ev T)))
    (hs : step ext T H (.nilck x') = some (v, eff)) : Cont P num o a β hf w k0 v eff := by
  simp only [step] at hs
  split at hs
  · rename_i k len i off hp
    simp only [Option.map_eq_some_iff, Prod.mk.injEq] at hs
    obtain ⟨bk, hg, rfl, rfl⟩ := hs
    rw [hp] at hx hA
    obtain ⟨b, hb, hk, hv, hB⟩ := ptr_at hH hA hx hg
    exact cont_value (r := a.eval x) (by simp [execOp, ho, hv]) hx hH
  · rename_i p off hp
    simp at hs; obtain ⟨rfl, rfl⟩ := hs
    rw [hp] at hx
    have hx' := hx
    cases hx with
    | rp b o' u hv => exact cont_value (r := a.eval x) (by simp [execOp, ho, hv]) hx' hH
  · cases hs

theorem addr_add (b off n : Nat) : (⟨b, off, none⟩ : Addr).add n = ⟨b, off + n, none⟩ := Addr.add_mid b off n

theorem vr_ptr {k len i off off' b : Nat} {bk : Blk} {u : Value} (hx : VR num β hf w (.ptr k len i off) u) (hb : β k = some b) (hk : hf k = some bk) (hl : bk.es.length = len) :
    VR num β hf w (.ptr k len i off') (.pointer (some ⟨b, i * bk.sz + off', none⟩)) :=
  .ptr b bk hb hk (by omega) rfl (fun _ => rfl)

theorem sound_fld {s : TypeId} {f off : Nat} {x : Operand} {x' : SX} (ho : o.op = .fieldAddr s x f)
    (hM : (match P.underlying s with | some (.struct fs) => (match fs[f]? with | some g => (g.offset == off) && (match P.info? g.type with | some i => i.size != 0 | none => false) | none => false) | _ => false) = true)
    (hx : VR num β hf w (x'.ev T) (a.eval x)) (hH : HR num β hf w) (hA : Agree β hf H (refs (x'.ev T)))
    (hs : step ext T H (.fld off x') = some (v, eff)) : Cont P num o a β hf w k0 v eff := by
  split at hM
  · rename_i fs hu
    split at hM
    · rename_i g hg
      split at hM
      · rename_i i hi
        simp at hM
        obtain ⟨h1, h2⟩ := hM
        have hrun : ∀ b c, (Instr.fieldAt s (.pointer (some ⟨b, c, none⟩)) f).run P w = .ok (.pointer (some ⟨b, c + off, none⟩)) w := fun b c => by
          simp [Instr.fieldAt, run_underlying hu, hg, Instr.sureAddr, fieldPlace, Go.sizeOf, typeInfo, hi, h2, addr_add, h1]
        simp only [step] at hs
        split at hs
        · rename_i k len i' off' hp
          simp only [Option.map_eq_some_iff, Prod.mk.injEq] at hs
          obtain ⟨bk, hgd, rfl, rfl⟩ := hs
          rw [hp] at hx hA
          obtain ⟨b, hb, hk, hv, hB⟩ := ptr_at hH hA hx hgd
          refine cont_value (r := .pointer (some ⟨b, i' * bk.sz + (off' + off), none⟩)) ?_ (vr_ptr hx hb hk (good_some hgd).2) hH
          simp [execOp, ho, hv, hrun, Nat.add_assoc]
        · rename_i p off' hp
          simp at hs; obtain ⟨rfl, rfl⟩ := hs
          rw [hp] at hx
          cases hx with
          | rp b o' u hv hX hlt hok hcell hrel =>
            refine cont_value (r := .pointer (some ⟨b, o' + (off' + off), none⟩)) ?_ (.rp b o' u rfl hX hlt hok hcell hrel) hH
            simp [execOp, ho, hv, hrun, Nat.add_assoc]
        · cases hs
      · simp at hM
    · cases hM
  · cases hM
end Dk
