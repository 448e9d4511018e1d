/- One operation of loaded code does what the abstract machine's does: places, parts, lengths. -/
import Derived.Test.YthdcicadcbogmaaDkOps3
set_option linter.all false
namespace Dk
open Go
variable {P : Program} {num : Nat → FuncId} {β : Bet} {hf : Nat → Option Blk} {w : World} {T : Slots} {a : Act} {H : Heap} {o : Oper} {k0 : Nat} {ext : Ext} {v : AV} {eff : Eff}

theorem arrayIs_some {t : TypeId} {cnt esz : Nat} (hM : (match P.underlying t with | some (.array n e) => (n == cnt) && szIs P e esz | _ => false) = true) :
    ∃ e i, P.underlying t = some (.array cnt e) ∧ P.info? e = some i ∧ i.size = esz := by
  split at hM
  · rename_i n e hu
    simp only [Bool.and_eq_true, beq_iff_eq] at hM
    obtain ⟨rfl, h2⟩ := hM
    obtain ⟨i, h3, h4⟩ := szIs_some h2
    exact ⟨e, i, hu, h3, h4⟩
  · cases hM

theorem sound_idxA {t : TypeId} {cnt esz : Nat} {x i : Operand} {x' i' : SX} (ho : o.op = .indexAddr t x i)
    (hM : (match P.underlying t with | some (.array n e) => (n == cnt) && szIs P e esz | _ => false) = true)
    (hx : VR num β hf w (x'.ev T) (a.eval x)) (hi : VR num β hf w (i'.ev T) (a.eval i)) (hH : HR num β hf w) (hA : Agree β hf H (refs (x'.ev T)))
    (hs : step ext T H (.idxA cnt esz x' i') = some (v, eff)) : Cont P num o a β hf w k0 v eff := by
  obtain ⟨e, ie, hu, hie, hsz⟩ := arrayIs_some hM
  have hrun : ∀ b c k (n : Int), 0 ≤ n → n < cnt → (Instr.indexAt t (.pointer (some ⟨b, c, none⟩)) (.int k n)).run P w = .ok (.pointer (some ⟨b, c + n.toNat * esz, none⟩)) w := fun b c k n h0 h1 => by
    simp [Instr.indexAt, run_underlying hu, asIntOf, Instr.sureAddr, Go.sizeOf, typeInfo, hie, h0, h1, addr_add, hsz]
  simp only [step] at hs
  split at hs
  · rename_i k len j c ki n hp hn
    have h3 := VR.pv_int hi hn
    rw [hp] at hx hA
    split at hs
    · rename_i bk hg
      split at hs
      · rename_i hb
        simp at hs; obtain ⟨rfl, rfl⟩ := hs
        obtain ⟨b, hbb, hk, hv, hB⟩ := ptr_at hH hA hx hg
        refine cont_value (r := .pointer (some ⟨b, j * bk.sz + (c + n.toNat * esz), none⟩)) ?_ (vr_ptr hx hbb hk (good_some hg).2) hH
        simp [execOp, ho, hv, h3, hrun _ _ _ _ hb.1 hb.2, Nat.add_assoc]
      · cases hs
    · cases hs
  · rename_i p c ki n hp hn
    have h3 := VR.pv_int hi hn
    rw [hp] at hx
    split at hs
    · rename_i hb
      simp at hs; obtain ⟨rfl, rfl⟩ := hs
      cases hx with
      | rp b o' u hv hX hlt hok hcell hrel =>
        refine cont_value (r := .pointer (some ⟨b, o' + (c + n.toNat * esz), none⟩)) ?_ (.rp b o' u rfl hX hlt hok hcell hrel) hH
        simp [execOp, ho, hv, h3, hrun _ _ _ _ hb.1 hb.2, Nat.add_assoc]
    · cases hs
  · cases hs

/-- What a good slice leads to. -/
theorem sl_at {k len : Nat} {u : Value} {bk : Blk} (hH : HR num β hf w) (hA : Agree β hf H [k]) (h : VR num β hf w (.sl k len) u) (hg : good H k len = some bk) :
    ∃ b cap cs TT, β k = some b ∧ hf k = some bk ∧ u = .slice (some ⟨b, 0, none⟩) len cap ∧ len ≤ cap ∧ w.heap[b]? = some (.cells cs TT (0, 0)) ∧ cap * bk.sz ≤ cs.size ∧ BR num β hf w b bk := by
  cases h with
  | sl b blk hb hk hle h1 h =>
    obtain ⟨h2, h3⟩ := good_some hg
    have h4 := hA k (by simp) b hb
    rw [hk, h2] at h4; injection h4 with h4; subst h4
    obtain ⟨bk', h5, h6⟩ := hH.blk k b hb
    rw [hk] at h5; injection h5 with h5; subst h5
    obtain ⟨cap, cs, TT, e1, e2, e3, e4⟩ := h h3
    exact ⟨b, cap, cs, TT, hb, hk, e1, e2, e3, e4, h6⟩
theorem asl_at {k len i off cnt esz : Nat} {u : Value} {bk : Blk} (hH : HR num β hf w) (hA : Agree β hf H [k]) (h : VR num β hf w (.asl k len i off cnt esz) u) (hg : good H k len = some bk) :
    ∃ b, β k = some b ∧ hf k = some bk ∧ u = .slice (some ⟨b, i * bk.sz + off, none⟩) cnt cnt ∧ BR num β hf w b bk := by
  cases h with
  | asl b blk hb hk hle h1 h =>
    obtain ⟨h2, h3⟩ := good_some hg
    have h4 := hA k (by simp) b hb
    rw [hk, h2] at h4; injection h4 with h4; subst h4
    obtain ⟨bk', h5, h6⟩ := hH.blk k b hb
    rw [hk] at h5; injection h5 with h5; subst h5
    exact ⟨b, hb, hk, h h3, h6⟩

theorem sound_idxS {t : TypeId} {esz : Nat} {x i : Operand} {x' i' : SX} (ho : o.op = .indexAddr t x i) (hM : elemIs P t (szIs P · esz) = true)
    (hx : VR num β hf w (x'.ev T) (a.eval x)) (hi : VR num β hf w (i'.ev T) (a.eval i)) (hH : HR num β hf w) (hA : Agree β hf H (refs (x'.ev T)))
    (hs : step ext T H (.idxS esz x' i') = some (v, eff)) : Cont P num o a β hf w k0 v eff := by
  obtain ⟨e, hu, he⟩ := elemIs_some hM
  obtain ⟨ie, hie, hsz⟩ := szIs_some he
  have hrun : ∀ b c k (n : Int) (len cap : Nat), 0 ≤ n → n < len → (Instr.indexAt t (.slice (some ⟨b, c, none⟩) len cap) (.int k n)).run P w = .ok (.pointer (some ⟨b, c + n.toNat * esz, none⟩)) w := fun b c k n len cap h0 h1 => by
    simp [Instr.indexAt, run_underlying hu, asIntOf, Go.sizeOf, typeInfo, hie, h0, h1, addr_add, hsz]
  simp only [step] at hs
  split at hs
  · rename_i k len ki n hp hn
    have h3 := VR.pv_int hi hn
    rw [hp] at hx hA
    split at hs
    · rename_i bk hg
      split at hs
      · rename_i hb
        obtain ⟨hb0, hb1, hb2⟩ := hb
        simp at hs; obtain ⟨rfl, rfl⟩ := hs
        obtain ⟨b, cap, cs, TT, hbb, hk, hv, hcap, hcs, hcc, hB⟩ := sl_at hH hA hx hg
        have hl := (good_some hg).2
        refine cont_value (r := .pointer (some ⟨b, n.toNat * bk.sz + 0, none⟩)) ?_ (.ptr b bk hbb hk (by omega) rfl (fun _ => rfl)) hH
        simp [execOp, ho, hv, h3, hrun _ _ _ _ _ _ hb0 hb1, hb2]
      · cases hs
    · cases hs
  · rename_i k len j off cnt ee ki n hp hn
    have h3 := VR.pv_int hi hn
    rw [hp] at hx hA
    split at hs
    · rename_i bk hg
      split at hs
      · rename_i hb
        obtain ⟨hb0, hb1, hb2⟩ := hb
        simp at hs; obtain ⟨rfl, rfl⟩ := hs
        obtain ⟨b, hbb, hk, hv, hB⟩ := asl_at hH hA hx hg
        have hl := (good_some hg).2
        refine cont_value (r := .pointer (some ⟨b, j * bk.sz + (off + n.toNat * esz), none⟩)) ?_ (.ptr b bk hbb hk (by omega) rfl (fun _ => rfl)) hH
        simp [execOp, ho, hv, h3, hrun _ _ _ _ _ _ hb0 hb1, Nat.add_assoc]
      · cases hs
    · cases hs
  · rename_i sz l ki n hp hn
    have h3 := VR.pv_int hi hn
    rw [hp] at hx
    split at hs
    · rename_i hb
      obtain ⟨hb0, rfl⟩ := hb
      simp only [Option.map_eq_some_iff, Prod.mk.injEq] at hs
      obtain ⟨q, hq, rfl, rfl⟩ := hs
      cases hx with | pv hx =>
      generalize hX : a.eval x = X at *
      cases hx with
      | lst A b c vals hn2 hAA hXb hc hpos hsz2 hcell hrel =>
        have hne : l ≠ [] := fun e => by rw [e] at hq; simp at hq
        have hlt : n.toNat < l.length := (List.getElem?_eq_some_iff.1 hq).1
        obtain ⟨hok, hlen⟩ := hsz2 _ _ hq
        have hp := hpos hne
        have hbl : b < w.heap.size := by
          have hc0 : q.cells[0]? = some (q.cells[0]'(by omega)) := List.getElem?_eq_getElem _
          exact cell_lt (hcell _ _ 0 _ hq hc0).2
        rw [hAA hne] at hX
        refine cont_value (r := .pointer (some ⟨b, c + n.toNat * sz + 0, none⟩)) ?_
          (.rp b (c + n.toNat * sz) (fun j => vals n.toNat j) rfl (hXb hne) hbl hok (fun j p hj => hcell _ _ j p hq hj) (fun j p hj => hrel _ _ j p hq hj)) hH
        subst hn2
        have h5 : n < (l.length : Int) := by omega
        simp [execOp, ho, hX, h3, hrun b c ki n _ _ hb0 h5]
    · cases hs
  · cases hs

theorem sound_extract {x : Operand} {x' : SX} {i : Nat} (ho : o.op = .extract x i) (hx : VR num β hf w (x'.ev T) (a.eval x)) (hH : HR num β hf w)
    (hs : step ext T H (.extract i x') = some (v, eff)) : Cont P num o a β hf w k0 v eff := by
  simp only [step] at hs
  split at hs
  · rename_i l hp
    simp only [Option.map_eq_some_iff, Prod.mk.injEq] at hs
    obtain ⟨q, hq, rfl, rfl⟩ := hs
    rw [hp] at hx
    cases hx with | pv hx =>
    generalize hX : a.eval x = X at *
    cases hx with
    | tup vs hl h =>
      have hlt : i < vs.size := by rw [← hl]; exact (List.getElem?_eq_some_iff.1 hq).1
      have hg := Array.getElem?_eq_getElem hlt
      refine cont_value (r := vs[i]) ?_ (.pv (h i q _ hq hg)) hH
      simp [execOp, ho, hX, Instr.extract, hg]
  · rename_i l hp
    simp only [Option.map_eq_some_iff, Prod.mk.injEq] at hs
    obtain ⟨q, hq, rfl, rfl⟩ := hs
    rw [hp] at hx
    generalize hX : a.eval x = X at *
    cases hx with
    | tup vs hl h =>
      have hlt : i < vs.size := by rw [← hl]; exact (List.getElem?_eq_some_iff.1 hq).1
      have hg := Array.getElem?_eq_getElem hlt
      refine cont_value (r := vs[i]) ?_ (h i q _ hq hg) hH
      simp [execOp, ho, hX, Instr.extract, hg]
  · cases hs

/-- The length of a slice's value. -/
theorem lenOf_vr {av : AV} {u : Value} {n : Nat} (hH : HR num β hf w) (hA : Agree β hf H (refs av)) (hx : VR num β hf w av u) (h : lenOf H av = some n) : ∃ A c, u = .slice A n c ∧ n ≤ c := by
  cases av with
  | pv p =>
    cases hx with | pv hx =>
    cases p <;> simp [lenOf] at h
    · subst h; cases hx; exact ⟨none, 0, rfl, Nat.le_refl _⟩
    · subst h; cases hx; exact ⟨_, 0, rfl, Nat.le_refl _⟩
    · subst h; cases hx with | lst A b c vals hn hAA hXb hc => exact ⟨_, _, by rw [hn], by omega⟩
  | sl k len =>
    simp only [lenOf, Option.map_eq_some_iff] at h
    obtain ⟨bk, hg, rfl⟩ := h
    obtain ⟨b, cap, cs, TT, _, _, hv, hc, _⟩ := sl_at hH hA hx hg
    exact ⟨_, _, hv, hc⟩
  | asl k len i off cnt esz =>
    simp only [lenOf, Option.map_eq_some_iff] at h
    obtain ⟨bk, hg, rfl⟩ := h
    obtain ⟨b, _, _, hv, _⟩ := asl_at hH hA hx hg
    exact ⟨_, _, hv, Nat.le_refl _⟩
  | _ => simp [lenOf] at h

theorem sound_len {args : Array Operand} {types : Array TypeId} {x : Operand} {t : TypeId} {x' : SX} (ho : o.op = .call { callee := .builtin .len, args := args, argTypes := types }) (hargs : args.toList = [x]) (htypes : types.toList = [t]) (hM : isSliceT P t = true)
    (hx : VR num β hf w (x'.ev T) (a.eval x)) (hH : HR num β hf w) (hA : Agree β hf H (refs (x'.ev T)))
    (hs : step ext T H (.len x') = some (v, eff)) : Cont P num o a β hf w k0 v eff := by
  have hu : ∃ e, P.underlying t = some (.slice e) := by
    unfold isSliceT at hM; split at hM
    · rename_i e h; exact ⟨e, h⟩
    · cases hM
  obtain ⟨e, hu⟩ := hu
  have ha : args = #[x] := by rw [← Array.toArray_toList (xs := args), hargs]
  have htt : types = #[t] := by rw [← Array.toArray_toList (xs := types), htypes]
  subst ha; subst htt
  simp only [step, Option.map_eq_some_iff, Prod.mk.injEq] at hs
  obtain ⟨n, hn, rfl, rfl⟩ := hs
  obtain ⟨A, c, hv, _⟩ := lenOf_vr hH hA hx hn
  refine cont_value (r := .int .i64 n) ?_ (vr_int _ _) hH
  simp [execOp, ho, resolve, hv, invoke, builtin, Builtin.len_, run_underlying hu, goInt]

theorem sound_lenStr {args : Array Operand} {types : Array TypeId} {x : Operand} {t : TypeId} {x' : SX} (ho : o.op = .call { callee := .builtin .len, args := args, argTypes := types }) (hargs : args.toList = [x]) (htypes : types.toList = [t]) (hM : isStringT P t = true)
    (hx : VR num β hf w (x'.ev T) (a.eval x)) (hH : HR num β hf w)
    (hs : step ext T H (.lenStr x') = some (v, eff)) : Cont P num o a β hf w k0 v eff := by
  have hu : P.underlying t = some .string := by
    unfold isStringT at hM; split at hM
    · rename_i h; exact h
    · cases hM
  have ha : args = #[x] := by rw [← Array.toArray_toList (xs := args), hargs]
  have htt : types = #[t] := by rw [← Array.toArray_toList (xs := types), htypes]
  subst ha; subst htt
  simp only [step] at hs
  split at hs
  · rename_i s hp
    simp at hs; obtain ⟨rfl, rfl⟩ := hs
    have h3 := VR.pv_str hx hp
    refine cont_value (r := .int .i64 s.size) ?_ (vr_int _ _) hH
    simp [execOp, ho, resolve, h3, invoke, builtin, Builtin.len_, run_underlying hu, goInt]
  · cases hs

theorem sound_mn {args : Array Operand} {types : Array TypeId} {x y : Operand} {x' y' : SX} (ho : o.op = .call { callee := .builtin .min, args := args, argTypes := types }) (hargs : args.toList = [x, y])
    (hx : VR num β hf w (x'.ev T) (a.eval x)) (hy : VR num β hf w (y'.ev T) (a.eval y)) (hH : HR num β hf w)
    (hs : step ext T H (.mn x' y') = some (v, eff)) : Cont P num o a β hf w k0 v eff := by
  have ha : args = #[x, y] := by rw [← Array.toArray_toList (xs := args), hargs]
  subst ha
  simp only [step] at hs
  split at hs
  · rename_i k m k' n hp hq
    split at hs
    · simp at hs; obtain ⟨rfl, rfl⟩ := hs
      have h3 := VR.pv_int hx hp
      have h4 := VR.pv_int hy hq
      refine cont_value (r := .int k (if n < m then n else m)) ?_ (vr_int _ _) hH
      simp [execOp, ho, resolve, h3, h4, invoke, builtin, Builtin.min_, Builtin.min2]
    · cases hs
  · cases hs
theorem sound_mx {args : Array Operand} {types : Array TypeId} {x y : Operand} {x' y' : SX} (ho : o.op = .call { callee := .builtin .max, args := args, argTypes := types }) (hargs : args.toList = [x, y])
    (hx : VR num β hf w (x'.ev T) (a.eval x)) (hy : VR num β hf w (y'.ev T) (a.eval y)) (hH : HR num β hf w)
    (hs : step ext T H (.mx x' y') = some (v, eff)) : Cont P num o a β hf w k0 v eff := by
  have ha : args = #[x, y] := by rw [← Array.toArray_toList (xs := args), hargs]
  subst ha
  simp only [step] at hs
  split at hs
  · rename_i k m k' n hp hq
    split at hs
    · simp at hs; obtain ⟨rfl, rfl⟩ := hs
      have h3 := VR.pv_int hx hp
      have h4 := VR.pv_int hy hq
      refine cont_value (r := .int k (if n > m then n else m)) ?_ (vr_int _ _) hH
      simp [execOp, ho, resolve, h3, h4, invoke, builtin, Builtin.max_, Builtin.max2]
    · cases hs
  · cases hs
theorem sound_indexStr {t : TypeId} {x i : Operand} {x' i' : SX} (ho : o.op = .index t x i) (hM : isStringT P t = true)
    (hx : VR num β hf w (x'.ev T) (a.eval x)) (hi : VR num β hf w (i'.ev T) (a.eval i)) (hH : HR num β hf w)
    (hs : step ext T H (.indexStr x' i') = some (v, eff)) : Cont P num o a β hf w k0 v eff := by
  have hu : P.underlying t = some .string := by
    unfold isStringT at hM; split at hM
    · rename_i h; exact h
    · cases hM
  simp only [step] at hs
  split at hs
  · rename_i s k n hp hn
    split at hs
    · rename_i h0
      simp only [Option.map_eq_some_iff, Prod.mk.injEq] at hs
      obtain ⟨b, hb, rfl, rfl⟩ := hs
      have h3 := VR.pv_str hx hp
      have h4 := VR.pv_int hi hn
      have hlt : n.toNat < s.size := (Array.getElem?_eq_some_iff.1 hb).1
      have hget : s[n.toNat]? = some b := by
        rw [getElem?_pos s n.toNat hlt]
        have := (Array.getElem?_eq_some_iff.1 hb).2
        exact congrArg some this
      refine cont_value (r := .int .u8 b.toNat) ?_ (vr_int _ _) hH
      simp [execOp, ho, h3, h4, Instr.index, asIntOf, run_underlying hu, h0, hget]
    · cases hs
  · cases hs
end Dk
