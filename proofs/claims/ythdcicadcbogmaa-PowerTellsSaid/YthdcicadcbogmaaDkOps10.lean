/- One operation of loaded code does what the abstract machine's does: appending, copying, rows written out. -/
import Derived.Test.YthdcicadcbogmaaDkOps9
set_option linter.all false
namespace Dk
open Go
variable {P : Program} {num : Nat → FuncId} {β : Bet} {hf : Nat → Option Blk} {w : World} {T : Slots} {a : Act} {H : Heap} {o : Oper} {k0 : Nat} {ext : Ext} {v : AV} {eff : Eff}

/-- One block is written. -/
theorem cont_cells {k b off : Nat} {bk bk' : Blk} {r : Value} {cs : Array Value} {TT : TypeId} {vs : List Value} (hr : (execOp a.eval o).run P w = .ok (.value r) (w.setCells b off vs))
    (hH : HR num β hf w) (hb : β k = some b) (hk : hf k = some bk) (hfz : bk.fz = false) (hsz : bk'.sz = bk.sz) (hfz' : bk'.fz = false) (hlen : bk.es.length ≤ bk'.es.length)
    (hcs : w.heap[b]? = some (.cells cs TT (0, 0))) (hsize : bk'.es.length * bk'.sz ≤ cs.size)
    (hel : ∀ (i : Nat) (e : AV), bk'.es[i]? = some e → e.okc = true ∧ e.cells.length = bk'.sz ∧ ∀ (j : Nat) (c : AV), e.cells[j]? = some c → c.one = true ∧
      ∃ u, (if off ≤ i * bk'.sz + j ∧ i * bk'.sz + j < off + vs.length ∧ i * bk'.sz + j < cs.size then vs[i * bk'.sz + j - off]? else cs[i * bk'.sz + j]?) = some u ∧ u.oneCell' = true ∧ VR num β hf w c u)
    (hv : ∀ w', Goes β hf w β (fun j => if j = k then some bk' else hf j) w' → (∃ cs' : Array Value, w'.heap[b]? = some (.cells cs' TT (0, 0)) ∧ cs'.size = cs.size) → VR num β (fun j => if j = k then some bk' else hf j) w' v r) :
    Cont P num o a β hf w k0 v (.put k bk') := by
  obtain ⟨g1, g2, g3, g4, g5, cs', g6, g7, g8⟩ := setCells_heap vs w b off cs TT hcs
  have hgo : Goes β hf w β (fun j => if j = k then some bk' else hf j) (w.setCells b off vs) :=
    goes_put hH hb hk hfz hsz hfz' hlen g1 g2 g3 g4 g5 (fun cs2 T2 h => by
      rw [hcs] at h; injection h with h; injection h with h h' h''; subst h; subst h'
      exact ⟨cs', TT, g6, by omega⟩)
  intro K Q hK
  rw [onF_put hk] at hK
  unfold Oper.wp
  rw [hr]
  refine hK r β _ hgo ⟨?_, hH.inj, fun c hc => hH.base c (by rw [← g4]; exact hc), hH.own⟩ (hv _ hgo ⟨cs', g6, g7⟩) (fun j hj => .inl hj)
  intro j c hj
  by_cases hjk : j = k
  · subst hjk
    rw [hb] at hj; injection hj with hj; subst hj
    refine ⟨bk', by simp, ⟨cs', TT, g6, by omega, fun i e he => ?_⟩⟩
    obtain ⟨f1, f2, f3⟩ := hel i e he
    refine ⟨f1, f2, fun j2 c2 hj2 => ?_⟩
    obtain ⟨d1, z, d2, d3, d4⟩ := f3 j2 c2 hj2
    exact ⟨d1, z, by rw [g8]; exact d2, d3, hgo.vr d4⟩
  · obtain ⟨bj, hbj, hBj⟩ := hH.blk j c hj
    have hcb : c ≠ b := fun e => hjk (hH.inj j k b (e ▸ hj) hb)
    obtain ⟨cs3, T3, h31, h32, h33⟩ := hBj.cells
    refine ⟨bj, by simp [hjk, hbj], ⟨cs3, T3, by rw [g5 c hcb]; exact h31, h32, fun i2 e2 he2 => ?_⟩⟩
    obtain ⟨f1, f2, f3⟩ := h33 i2 e2 he2
    exact ⟨f1, f2, fun j2 c2' hj2 => let ⟨d1, z, d2, d3, d4⟩ := f3 j2 c2' hj2; ⟨d1, z, d2, d3, hgo.vr d4⟩⟩

theorem sound_append {args : Array Operand} {types : Array TypeId} {x y : Operand} {x' y' : SX} {t u : TypeId} {sz bytes : Nat} (ho : o.op = .call { callee := .builtin .append, args := args, argTypes := types }) (hargs : args.toList = [x, y]) (htypes : types.toList = [t, u]) (htu : t = u)
    (hM : elemIs P t (fun e => szIs P e sz && hasZero P e && bytesIs P e bytes) = true)
    (hx : VR num β hf w (x'.ev T) (a.eval x)) (hy : VR num β hf w (y'.ev T) (a.eval y)) (hH : HR num β hf w) (hA : Agree β hf H (refs (x'.ev T))) (hA2 : Agree β hf H (refs (y'.ev T))) (hk0 : H.length = k0) (hnew : (∃ b, eff = .push b) → β k0 = none)
    (hs : step ext T H (.append sz bytes x' y') = some (v, eff)) : Cont P num o a β hf w k0 v eff := by
  have ha : args = #[x, y] := by rw [← Array.toArray_toList (xs := args), hargs]
  have htt : types = #[t, t] := by rw [← Array.toArray_toList (xs := types), htypes, htu]
  obtain ⟨e, ht, he⟩ := elemIs_some hM
  simp only [Bool.and_eq_true] at he
  obtain ⟨⟨he1, he2⟩, he3⟩ := he
  obtain ⟨i, hi, hsz⟩ := szIs_some he1
  obtain ⟨i2, z, hi2, hz, hzs⟩ := hasZero_some he2
  rw [hi] at hi2; injection hi2 with hi2; subst hi2
  obtain ⟨i3, hi3, hby⟩ := bytesIs_some he3
  rw [hi] at hi3; injection hi3 with hi3; subst hi3
  simp only [step] at hs
  split at hs
  · cases hs
  · rename_i ys hys
    split at hs
    · -- a row
      rename_i k len hxe
      rw [hxe] at hx hA
      split at hs
      · rename_i bk hg
        split at hs
        · rename_i hc
          obtain ⟨c1, c2, c4, c5, c6⟩ := hc
          simp at hs; obtain ⟨rfl, rfl⟩ := hs
          obtain ⟨b, cap, cs, TT, hb, hk, hv, hcap, hcs, hcc, hB⟩ := sl_at hH hA hx hg
          have hl := (good_some hg).2
          obtain ⟨news, n1, n2, n3⟩ := src_of c5 ht hH hA2 hy hys
          obtain ⟨olds, o1, o2⟩ := row_vals (num := num) (β := β) (hf := hf) (w := w) (sz := sz) (b := b) (es := bk.es) (o := 0) (fun i e he => by
            obtain ⟨h1, h2, h3⟩ := hB.at he
            rw [c1] at h2 h3
            exact ⟨h1, h2, by rw [Nat.zero_add]; exact h3⟩)
          rw [c1] at hcc
          have hboth := o1.append n1
          by_cases hroom : len + ys.length ≤ cap
          · have hmul : (len + ys.length) * sz ≤ cap * sz := Nat.mul_le_mul_right _ hroom
            rw [Nat.add_mul] at hmul
            have hrun := run_append_room_src (P := P) w t t o.type e i ht hi b 0 len cap (a.eval y) ys.length news (by rw [hsz]; exact n2) hroom
              (fun j hj => by
                have : 0 + len * i.size + j < cs.size := by rw [hsz]; rw [n1.1] at hj; omega
                simp only [World.cell?, hcs, Option.isSome_none, Bool.false_eq_true, if_false]
                rw [Array.getElem?_eq_getElem this]; rfl)
              (fun j hj => by simp [World.frozen?, hcs])
            rw [Nat.zero_add, hsz] at hrun
            have hlen2 : ({ bk with es := bk.es ++ ys } : Blk).es.length = len + ys.length := by simp [hl]
            refine cont_cells (bk := bk) (r := .slice (some ⟨b, 0, none⟩) (len + ys.length) cap) (off := len * sz) (vs := news) ?_ hH hb hk c2 rfl c2 (by simp) hcs ?_ (fun j e' he' => ?_) (fun w' hgo hcs' => ?_)
            · simp [execOp, ho, resolve, hv, invoke, builtin, ha, htt, hrun]
            · rw [hlen2]; simp only [c1, Nat.add_mul]; omega
            · obtain ⟨f1, f2, f3⟩ := hboth.2.2 j e' he'
              simp only [c1]
              refine ⟨f1, f2, fun j2 c hj => ?_⟩
              obtain ⟨d1, u', d2, d3, d4⟩ := f3 j2 c hj
              refine ⟨d1, u', ?_, d3, d4⟩
              have holen : olds.length = len * sz := by rw [o1.1, hl]
              by_cases hjo : j * sz + j2 < olds.length
              · rw [if_neg (by omega)]
                rw [List.getElem?_append_left hjo] at d2
                have := o2 _ u' d2
                rw [Nat.zero_add] at this
                simpa [World.cell?, hcs] using this
              · rw [List.getElem?_append_right (by omega)] at d2
                have hlt := (List.getElem?_eq_some_iff.1 d2).1
                rw [holen] at d2 hlt hjo
                rw [if_pos ⟨by omega, by omega, by rw [n1.1] at hlt; omega⟩]
                exact d2
            · obtain ⟨cs', h6, h7⟩ := hcs'
              exact .sl b { bk with es := bk.es ++ ys } hb (by simp) (by simp [hl]) rfl (fun _ => ⟨cap, cs', TT, rfl, hroom, h6, by simp only [c1]; omega⟩)
          · have hold : (Builtin.firstCells i.size len (.slice (some ⟨b, 0, none⟩) len cap)).run P w.drew = .ok olds.toArray w.drew :=
              run_firstCells_some w.drew i.size len ⟨b, 0, none⟩ len cap olds (by rw [o1.1, hl, hsz]) (fun j u hj => by rw [addr_add]; exact o2 j u hj)
            have hnx := nextslicecap_le (need := len + ys.length) (old := cap) (by omega)
            have hfit : Builtin.nextslicecap (len + ys.length) cap * i.bytes ≤ 281474976710656 := by
              have h1 := Nat.mul_le_mul_right i.bytes hnx
              rw [hby] at h1 ⊢
              unfold maxBytes at c4
              rw [Nat.mul_assoc] at h1
              omega
            have hrun := run_append_grow_src (P := P) w t t o.type e i z ht hi hz (some ⟨b, 0, none⟩) len cap olds hold (a.eval y) ys.length news (by rw [hsz]; exact n2) (by omega) (by omega) hfit
            have hge := grownCap_ge' w (len + ys.length) cap e
            have hcsz : ((olds ++ news).toArray ++ Builtin.zeroCells z.cells (grownCap w (len + ys.length) cap e - (len + ys.length))).size = grownCap w (len + ys.length) cap e * sz := by
              simp only [Array.size_append, List.size_toArray, List.length_append, size_zeroCells, hzs, hsz, o1.1, n1.1, hl, ← Nat.add_mul]
              congr 1; omega
            have hlen2 : ({ bk with es := bk.es ++ ys } : Blk).es.length = len + ys.length := by simp [hl]
            have := cont_move (P := P) (num := num) (o := o) (a := a) (k0 := k0) (bk' := { bk with es := bk.es ++ ys }) (cap := grownCap w (len + ys.length) cap e) (r := .slice (some ⟨w.heap.size, 0, none⟩) (len + ys.length) (grownCap w (len + ys.length) cap e))
              (w' := w.drew.alloc (.cells ((olds ++ news).toArray ++ Builtin.zeroCells z.cells (grownCap w (len + ys.length) cap e - (len + ys.length))) e))
              (by simp [execOp, ho, resolve, hv, invoke, builtin, ha, htt, hrun]) hH hb hk c2 rfl (by rw [hlen2, hl]; omega) rfl rfl rfl (alloc_size w.drew _) (alloc_old w.drew _) (alloc_new w.drew _)
              (by rw [hlen2, hcsz]; simp only [c1]; exact Nat.mul_le_mul_right _ hge)
              (fun j e' he' => by
                obtain ⟨f1, f2, f3⟩ := hboth.2.2 j e' he'
                simp only [c1]
                refine ⟨f1, f2, fun j2 c hj => ?_⟩
                obtain ⟨d1, u', d2, d3, d4⟩ := f3 j2 c hj
                have hlt := (List.getElem?_eq_some_iff.1 d2).1
                exact ⟨d1, u', by rw [Array.getElem?_append_left (by simpa using hlt)]; simpa using d2, d3, d4⟩)
              (by rw [hlen2]) (by rw [hlen2]; exact hge) (by rw [hcsz]; simp only [c1]; exact Nat.le_refl _)
            rw [hlen2] at this
            exact this
        · cases hs
      · cases hs
    · -- nil
      rename_i hxe
      rw [hxe] at hx
      cases hx with | pv hx =>
      have hxv : a.eval x = .slice none 0 0 := by generalize a.eval x = X at hx; cases hx; rfl
      split at hs
      · rename_i hemp
        split at hs
        case isFalse => cases hs
        rename_i hpos
        simp at hs; obtain ⟨rfl, rfl⟩ := hs
        have hys0 : ys = [] := by simpa using hemp
        subst hys0
        obtain ⟨A, c, hyv, _⟩ := elems_at hpos hH hA2 hy hys
        simp only [List.length_nil] at hyv
        refine cont_value (r := .slice none 0 0) ?_ (.pv .nils) hH
        have hlenof : (Builtin.lenOf (.slice A 0 c)).run P w = .ok 0 w := rfl
        have hfc : (Builtin.firstCells i.size 0 (.slice A 0 c)).run P w = .ok #[] w := by
          cases A with
          | none => exact run_firstCells_none w i.size 0 0 c
          | some A => simp [Builtin.firstCells, loadCells, loadCellsFrom]
        simp [execOp, ho, resolve, hxv, hyv, invoke, builtin, ha, htt, Builtin.append_, run_underlying ht, Go.sizeOf, typeInfo, hi, hlenof, hfc]
      · rename_i hne
        split at hs
        · rename_i hc
          obtain ⟨c1, c2, c3⟩ := hc
          simp at hs; obtain ⟨rfl, rfl⟩ := hs
          obtain ⟨news, n1, n2, n3⟩ := src_of c2 ht hH hA2 hy hys
          rw [hk0]
          exact sound_append_new ho ha htt ht hi hz hzs hsz hby hxv n1 n2 (by simpa using hne) c1 c3 hH (hnew ⟨_, rfl⟩)
        · cases hs
    · -- an empty one
      rename_i hxe
      rw [hxe] at hx
      cases hx with | pv hx =>
      obtain ⟨A0, hxv⟩ : ∃ A0, a.eval x = .slice A0 0 0 := by generalize a.eval x = X at hx; cases hx; exact ⟨_, rfl⟩
      split at hs
      · cases hs
      · rename_i hne
        split at hs
        · rename_i hc
          obtain ⟨c1, c2, c3⟩ := hc
          simp at hs; obtain ⟨rfl, rfl⟩ := hs
          obtain ⟨news, n1, n2, n3⟩ := src_of c2 ht hH hA2 hy hys
          rw [hk0]
          exact sound_append_new ho ha htt ht hi hz hzs hsz hby hxv n1 n2 (by simpa using hne) c1 c3 hH (hnew ⟨_, rfl⟩)
        · cases hs
    · cases hs

theorem run_copy_cells' {dT sT ty e : TypeId} {i : TypeInfo} {b off dLen dCap n : Nat} {src : Value} {sLen : Nat} {news : List Value} (hu : P.underlying dT = some (.slice e)) (hi : P.info? e = some i) (hn : n = Nat.min sLen dLen)
    (hl : (Builtin.lenOf src).run P w = .ok sLen w) (hc : (Builtin.firstCells i.size n src).run P w = .ok news.toArray w) (hone : ∀ u ∈ news, u.oneCell' = true)
    (hthere : ∀ j, j < news.length → (w.cell? ⟨b, off + j, none⟩).isSome = true ∧ w.frozen? ⟨b, off + j, none⟩ = false) :
    (Builtin.copy_ #[dT, sT] ty #[.slice (some ⟨b, off, none⟩) dLen dCap, src]).run P w = .ok (.int .i64 n) (w.setCells b off news) := by
  have hst := run_storeCells_cells (P := P) b off news 0 w (fun j hj => by simpa using (hthere j hj).1) (fun j hj => by simpa using (hthere j hj).2) hone
  simp only [Nat.add_zero] at hst
  subst hn
  simp [Builtin.copy_, run_underlying hu, Go.sizeOf, typeInfo, hi, hl, hc, hst, goInt]

/-- The first of a slice's elements. -/
theorem first_of {sz m : Nat} {av : AV} {u : Value} {es : List AV} (hpos : 0 < sz) (hH : HR num β hf w) (hA : Agree β hf H (refs av)) (hx : VR num β hf w av u) (h : elems H sz av = some es) (hm : m ≤ es.length) :
    ∃ news, RowVals num β hf w sz (es.take m) news ∧ (Builtin.lenOf u).run P w = .ok es.length w ∧ (Builtin.firstCells sz m u).run P w = .ok news.toArray w := by
  obtain ⟨A, c, hv, hc, hAt⟩ := elems_at hpos hH hA hx h
  subst hv
  by_cases hne : es = []
  · subst hne
    have hm0 : m = 0 := by simpa using hm
    subst hm0
    refine ⟨[], ⟨by simp, by simp, by simp⟩, rfl, ?_⟩
    cases A with
    | none => exact run_firstCells_none w sz 0 0 c
    | some A => simp [Builtin.firstCells, loadCells, loadCellsFrom]
  · obtain ⟨b, o', hA', hb, hsl, hnsl, hcells⟩ := hAt hne
    subst hA'
    obtain ⟨vs, r1, r2⟩ := row_vals hcells
    refine ⟨vs.take (m * sz), r1.take m hm, rfl, ?_⟩
    have hle : m * sz ≤ es.length * sz := Nat.mul_le_mul_right _ hm
    exact run_firstCells_some w sz m _ _ _ _ (by rw [List.length_take, r1.1, Nat.min_eq_left hle]) (fun j u hj => by
      rw [addr_add]
      rw [List.getElem?_take] at hj
      split at hj
      · exact r2 j u hj
      · cases hj)

theorem sound_copy {args : Array Operand} {types : Array TypeId} {x y : Operand} {x' y' : SX} {t u : TypeId} {sz : Nat} (ho : o.op = .call { callee := .builtin .copy, args := args, argTypes := types }) (hargs : args.toList = [x, y]) (htypes : types.toList = [t, u])
    (hM : elemIs P t (szIs P · sz) = true) (hpos : 0 < sz)
    (hx : VR num β hf w (x'.ev T) (a.eval x)) (hy : VR num β hf w (y'.ev T) (a.eval y)) (hH : HR num β hf w) (hA : Agree β hf H (refs (x'.ev T))) (hA2 : Agree β hf H (refs (y'.ev T)))
    (hs : step ext T H (.copy sz x' y') = some (v, eff)) : Cont P num o a β hf w k0 v eff := by
  have ha : args = #[x, y] := by rw [← Array.toArray_toList (xs := args), hargs]
  have htt : types = #[t, u] := by rw [← Array.toArray_toList (xs := types), htypes]
  obtain ⟨e, ht, he⟩ := elemIs_some hM
  obtain ⟨i, hi, hsz⟩ := szIs_some he
  simp only [step] at hs
  split at hs
  · rename_i k len ys hxe hys
    rw [hxe] at hx hA
    split at hs
    · rename_i bk hg
      split at hs
      · rename_i hc
        obtain ⟨c1, c2⟩ := hc
        simp at hs; obtain ⟨rfl, rfl⟩ := hs
        obtain ⟨b, cap, cs, TT, hb, hk, hv, hcap, hcs, hcc, hB⟩ := sl_at hH hA hx hg
        have hl := (good_some hg).2
        rw [c1] at hcc
        obtain ⟨news, n1, n2, n3⟩ := first_of (P := P) (m := min ys.length len) hpos hH hA2 hy hys (Nat.min_le_left _ _)
        have hnl : news.length = min ys.length len * sz := by rw [n1.1, List.length_take, Nat.min_eq_left (Nat.min_le_left _ _)]
        have hle : min ys.length len * sz ≤ len * sz := Nat.mul_le_mul_right _ (Nat.min_le_right _ _)
        have hle2 : len * sz ≤ cap * sz := Nat.mul_le_mul_right _ hcap
        have hrun := run_copy_cells' (P := P) (w := w) (dT := t) (sT := u) (ty := o.type) (b := b) (off := 0) (dLen := len) (dCap := cap) ht hi rfl n2 (by rw [hsz]; exact n3) n1.2.1 (fun j hj => by
          have : 0 + j < cs.size := by omega
          refine ⟨?_, by simp [World.frozen?, hcs]⟩
          simp only [World.cell?, hcs, Option.isSome_none, Bool.false_eq_true, if_false]
          rw [Array.getElem?_eq_getElem this]; rfl)
        have hlen2 : (ys.take len ++ bk.es.drop ys.length).length = len := by simp [hl]; omega
        refine cont_cells (bk := bk) (bk' := { bk with es := ys.take len ++ bk.es.drop ys.length }) (r := .int .i64 (min ys.length len : Nat)) (off := 0) (vs := news) ?_ hH hb hk c2 rfl c2 (by simp only [hlen2, hl]; omega) hcs ?_ (fun j e' he' => ?_) (fun w' hgo hcs' => vr_int _ _)
        · have : Nat.min ys.length len = min ys.length len := rfl
          simp [execOp, ho, resolve, hv, invoke, builtin, ha, htt, hrun, this]
        · simp only [hlen2, c1]; omega
        · simp only [c1]
          by_cases hj : j < min ys.length len
          · have he2 : (ys.take (min ys.length len))[j]? = some e' := by
              rw [List.getElem?_append_left (by simp; omega)] at he'
              rw [List.getElem?_take] at he' ⊢
              rw [if_pos (by omega)] at he'
              rw [if_pos hj]; exact he'
            obtain ⟨f1, f2, f3⟩ := n1.2.2 j e' he2
            refine ⟨f1, f2, fun j2 c hj2 => ?_⟩
            obtain ⟨d1, u', d2, d3, d4⟩ := f3 j2 c hj2
            have hlt := (List.getElem?_eq_some_iff.1 d2).1
            exact ⟨d1, u', by rw [if_pos ⟨by omega, by omega, by omega⟩]; simpa using d2, d3, d4⟩
          · have he2 : bk.es[j]? = some e' := by
              by_cases hyl : ys.length ≤ len
              · rw [List.getElem?_append_right (by simp; omega), List.getElem?_drop] at he'
                rw [← he']; congr 1; simp; omega
              · exfalso
                have hjl := (List.getElem?_eq_some_iff.1 he').1
                rw [hlen2] at hjl; omega
            obtain ⟨f1, f2, f3⟩ := hB.at he2
            rw [c1] at f2 f3
            refine ⟨f1, f2, fun j2 c hj2 => ?_⟩
            obtain ⟨d1, u', d2, d3, d4⟩ := f3 j2 c hj2
            have hge : min ys.length len * sz ≤ j * sz := Nat.mul_le_mul_right _ (by omega)
            refine ⟨d1, u', ?_, d3, d4⟩
            rw [if_neg (by omega)]
            simpa [World.cell?, hcs] using d2
      · cases hs
    · cases hs
  · rename_i k len ii off cnt esz ys hxe hys
    rw [hxe] at hx hA
    split at hs
    · rename_i bk hg
      split at hs
      · rename_i hc
        obtain ⟨c1, c2, c3⟩ := hc
        subst c2
        split at hs
        · rename_i e0 he0
          split at hs
          · rename_i hc2
            obtain ⟨q1, q2, q3⟩ := hc2
            simp at hs; obtain ⟨rfl, rfl⟩ := hs
            obtain ⟨b, hb, hk, hv, hB⟩ := asl_at hH hA hx hg
            obtain ⟨cs, TT, hcs, hcsz, hcel⟩ := hB.cells
            obtain ⟨p1, p2, p3⟩ := hcel ii e0 he0
            have hii : ii < bk.es.length := (List.getElem?_eq_some_iff.1 he0).1
            have hib : (ii + 1) * bk.sz ≤ bk.es.length * bk.sz := Nat.mul_le_mul_right _ hii
            have hib' : (ii + 1) * bk.sz = ii * bk.sz + bk.sz := Nat.succ_mul ii bk.sz
            obtain ⟨news, n1, n2, n3⟩ := first_of (P := P) (m := min ys.length cnt) hpos hH hA2 hy hys (Nat.min_le_left _ _)
            have hnl : news.length = min ys.length cnt := by rw [n1.1, List.length_take, Nat.min_eq_left (Nat.min_le_left _ _), Nat.mul_one]
            have hrun := run_copy_cells' (P := P) (w := w) (dT := t) (sT := u) (ty := o.type) (b := b) (off := ii * bk.sz + off) (dLen := cnt) (dCap := cnt) ht hi rfl n2 (by rw [hsz]; exact n3) n1.2.1 (fun j hj => by
              have : ii * bk.sz + off + j < cs.size := by omega
              refine ⟨?_, by simp [World.frozen?, hcs]⟩
              simp only [World.cell?, hcs, Option.isSome_none, Bool.false_eq_true, if_false]
              rw [Array.getElem?_eq_getElem this]; rfl)
            have htl : (ys.take cnt).length = min ys.length cnt := by simp; omega
            have hsp : off + (ys.take cnt).length ≤ e0.cells.length := by rw [htl]; omega
            have hys1 : ∀ y ∈ ys, y.one = true := by simpa using q3
            refine cont_cells (bk := bk) (bk' := { bk with es := bk.es.set ii (mkAgg (spliceAt e0.cells off (ys.take cnt))) }) (r := .int .i64 (min ys.length cnt : Nat)) (off := ii * bk.sz + off) (vs := news) ?_ hH hb hk c3 rfl c3 (by simp) hcs (by simpa using hcsz) (fun j e' he' => ?_) (fun w' hgo hcs' => vr_int _ _)
            · have : Nat.min ys.length cnt = min ys.length cnt := rfl
              simp [execOp, ho, resolve, hv, invoke, builtin, ha, htt, hrun, this]
            · simp only [List.getElem?_set] at he'
              have hcase : (j = ii ∧ e' = mkAgg (spliceAt e0.cells off (ys.take cnt))) ∨ (j ≠ ii ∧ bk.es[j]? = some e') := by
                by_cases hi : ii = j
                · subst hi; simp [hii] at he'; exact .inl ⟨rfl, he'.symm⟩
                · simp [hi] at he'; exact .inr ⟨Ne.symm hi, he'⟩
              dsimp only
              rcases hcase with ⟨rfl, rfl⟩ | ⟨hne, he3⟩
              · refine ⟨mkAgg_okc _, by rw [mkAgg_cells, splice_length hsp, p2], fun j2 c hj2 => ?_⟩
                rw [mkAgg_cells, splice_get hsp] at hj2
                by_cases hin : off ≤ j2 ∧ j2 < off + (ys.take cnt).length
                · rw [if_pos hin] at hj2
                  have hy2 : (ys.take (min ys.length cnt))[j2 - off]? = some c := by
                    rw [List.getElem?_take] at hj2 ⊢
                    split at hj2
                    · rw [if_pos (by omega)]; exact hj2
                    · cases hj2
                  obtain ⟨f1, f2, f3⟩ := n1.2.2 _ c hy2
                  have hc1 : c.one = true := hys1 c (List.mem_of_mem_take (List.mem_of_getElem? hj2))
                  obtain ⟨d1, u', d2, d3, d4⟩ := f3 0 c (by rw [one_cells hc1]; rfl)
                  refine ⟨hc1, u', ?_, d3, d4⟩
                  rw [if_pos ⟨by omega, by omega, by omega⟩]
                  rw [← d2]; congr 1; omega
                · rw [if_neg hin] at hj2
                  obtain ⟨d1, u', d2, d3, d4⟩ := p3 j2 c hj2
                  have hj2l := (List.getElem?_eq_some_iff.1 hj2).1
                  exact ⟨d1, u', by rw [if_neg (by omega)]; exact d2, d3, d4⟩
              · obtain ⟨f1, f2, f3⟩ := hcel j e' he3
                refine ⟨f1, f2, fun j2 c hj2 => ?_⟩
                obtain ⟨d1, u', d2, d3, d4⟩ := f3 j2 c hj2
                have hj2lt : j2 < bk.sz := by rw [← f2]; exact (List.getElem?_eq_some_iff.1 hj2).1
                refine ⟨d1, u', ?_, d3, d4⟩
                rw [if_neg ?_]
                · exact d2
                · intro hh
                  rcases Nat.lt_or_gt_of_ne hne with hlt | hlt
                  · have := Nat.mul_le_mul_right bk.sz (show j + 1 ≤ ii from hlt)
                    rw [Nat.succ_mul] at this; omega
                  · have := Nat.mul_le_mul_right bk.sz (show ii + 1 ≤ j from hlt)
                    rw [Nat.succ_mul] at this; omega
          · cases hs
        · cases hs
      · cases hs
    · cases hs
  · cases hs

theorem okRow_some : ∀ {i : Nat} {l : List (Nat × Operand)} {m : List SX}, okRow num i l m = true → l.length = m.length ∧ ∀ (k : Nat) (p : Nat × Operand) (y : SX), l[k]? = some p → m[k]? = some y → p.1 = i + k ∧ okX num p.2 y = true
  | _, [], [], _ => ⟨rfl, by simp⟩
  | _, [], _ :: _, h => by simp [okRow] at h
  | _, _ :: _, [], h => by simp [okRow] at h
  | i, (j, x) :: l, y :: m, h => by
    simp only [okRow, Bool.and_eq_true, beq_iff_eq] at h
    obtain ⟨⟨rfl, h2⟩, h3⟩ := h
    obtain ⟨h4, h5⟩ := okRow_some h3
    refine ⟨by simp [h4], fun k p z hp hz => ?_⟩
    cases k with
    | zero => simp at hp hz; subst hp; subst hz; exact ⟨rfl, h2⟩
    | succ k => obtain ⟨g1, g2⟩ := h5 k p z (by simpa using hp) (by simpa using hz); exact ⟨by omega, g2⟩

theorem fill_row {sz : Nat} : ∀ (parts : List (Nat × Value)) (i : Nat) (cells : Array Value), (∀ (k : Nat) (p : Nat × Value), parts[k]? = some p → p.1 = i + k ∧ p.2.cells.size = sz) → (i + parts.length) * sz ≤ cells.size →
    ∃ R : Array Value, Instr.fill (fun i => some (i * sz, sz)) cells parts = some R ∧ R.size = cells.size ∧ (∀ j, j < i * sz → R[j]? = cells[j]?) ∧ ∀ (k : Nat) (p : Nat × Value) (j : Nat), parts[k]? = some p → j < sz → R[(i + k) * sz + j]? = p.2.cells[j]?
  | [], i, cells, _, _ => ⟨cells, rfl, rfl, fun _ _ => rfl, fun k p j h => by simp at h⟩
  | (i', u) :: parts, i, cells, h, hle => by
    obtain ⟨h1, h2⟩ := h 0 (i', u) rfl
    simp only [Nat.add_zero] at h1
    subst h1
    have hmul : (i' + 1) * sz ≤ (i' + ((i', u) :: parts).length) * sz := Nat.mul_le_mul_right _ (by simp)
    rw [Nat.succ_mul] at hmul
    obtain ⟨cells', g1, g2, g3⟩ := fill_step (place := fun i => some (i * sz, sz)) (rest := parts) (cells := cells) (u := u) (i := i') rfl h2 (by omega)
    obtain ⟨R, r1, r2, r3, r4⟩ := fill_row parts (i' + 1) cells' (fun k p hp => by
      obtain ⟨e1, e2⟩ := h (k + 1) p (by simpa using hp)
      exact ⟨by omega, e2⟩) (by rw [g2]; simp at hle; rw [show i' + 1 + parts.length = i' + (parts.length + 1) by omega]; exact hle)
    refine ⟨R, g1.trans r1, r2.trans g2, fun j hj => ?_, fun k p j hp hj => ?_⟩
    · rw [r3 j (by rw [Nat.succ_mul]; omega), g3, if_neg (by omega)]
    · cases k with
      | zero =>
        simp at hp; subst hp
        rw [Nat.add_zero, r3 _ (by rw [Nat.succ_mul]; omega), g3, if_pos (by omega)]
        congr 1; omega
      | succ k =>
        have := r4 k p j (by simpa using hp) hj
        rwa [show i' + 1 + k = i' + (k + 1) by omega] at this

theorem sound_mkrow {t : TypeId} {n : Nat} {parts : Array (Nat × Operand)} {xs : List SX} {sz : Nat} (ho : o.op = .buildSlice t n parts)
    (hM : elemIs P t (fun e => szIs P e sz && hasZero P e) = true) (hn : n = xs.length) (hpos : 0 < sz) (hbig : n * sz ≤ 1000) (hrow : okRow num 0 parts.toList xs = true)
    (hT : ∀ y ∈ xs, TR num β hf w T a y.slots) (hH : HR num β hf w) (hk0 : H.length = k0) (hnew : (∃ b, eff = .push b) → β k0 = none)
    (hs : step ext T H (.mkrow sz xs) = some (v, eff)) : Cont P num o a β hf w k0 v eff := by
  obtain ⟨e, ht, he⟩ := elemIs_some hM
  simp only [Bool.and_eq_true] at he
  obtain ⟨he1, he2⟩ := he
  obtain ⟨i, hi, hsz⟩ := szIs_some he1
  obtain ⟨i2, z, hi2, hz, hzs⟩ := hasZero_some he2
  rw [hi] at hi2; injection hi2 with hi2; subst hi2
  obtain ⟨hlen, hparts⟩ := okRow_some hrow
  have hzero : (zeroValue e).run P w = .ok z w := by simp [zeroValue, typeInfo, hi, hz]
  have hbig2 : ¬ (n * i.size > 2 ^ 24) := by rw [hsz]; omega
  simp only [step] at hs
  split at hs
  · rename_i hemp
    simp at hs; obtain ⟨rfl, rfl⟩ := hs
    have hxs : xs = [] := by simpa using hemp
    subst hxs
    have hn0 : n = 0 := by simpa using hn
    subst hn0
    have hp0 : parts = #[] := by
      have : parts.toList = [] := List.eq_nil_of_length_eq_zero (by simpa using hlen)
      exact Array.toList_inj.1 (by simpa using this)
    refine cont_grow (r := .slice (some ⟨w.heap.size, 0, none⟩) 0 0) (w' := w.alloc (.cells #[] e)) ?_ rfl rfl rfl (alloc_size _ _) (alloc_old _ _) hH (fun _ => .pv (.e0 _))
    subst hp0
    simp [execOp, ho, Instr.buildSlice, run_underlying ht, Go.sizeOf, typeInfo, hi, Instr.fill, newRow]
    congr 2
    apply Array.toList_inj.1; simp
  · rename_i hne
    split at hs
    · rename_i hall
      simp only [Option.some.injEq, Prod.mk.injEq] at hs
      obtain ⟨rfl, rfl⟩ := hs
      have hall' : ∀ y ∈ xs, (y.ev T).okc = true ∧ (y.ev T).cells.length = sz := fun y hy => by
        have := List.all_eq_true.1 hall y hy
        simpa using this
      have hnz : n * i.size ≠ 0 := by
        rw [hsz, hn]
        have : 0 < xs.length := List.length_pos_iff.2 (fun h => hne (by simp [h]))
        exact Nat.ne_of_gt (Nat.mul_pos this hpos)
      obtain ⟨R, r1, r2, r3, r4⟩ := fill_row (sz := sz) (parts.map fun (i, x) => (i, a.eval x)).toList 0 ((Array.range (n * i.size)).map (z.cells[· % z.cells.size]!)) (fun k p hp => by
        simp only [Array.toList_map, List.getElem?_map, Option.map_eq_some_iff] at hp
        obtain ⟨q, hq, rfl⟩ := hp
        have hlt : k < xs.length := by rw [← hlen]; exact (List.getElem?_eq_some_iff.1 hq).1
        obtain ⟨g1, g2⟩ := hparts k q xs[k] hq (List.getElem?_eq_getElem hlt)
        have hmem := List.getElem_mem hlt
        refine ⟨g1, ?_⟩
        rw [← ((ev_ok g2 (hT _ hmem)).cells (hall' _ hmem).1).1]
        exact (hall' _ hmem).2) (by simp [hsz, hn, hlen])
      have hR : R.size = xs.length * sz := by rw [r2]; simp [hsz, hn]
      rw [hk0]
      subst hn
      refine cont_push (num := num) (w := w) (bk := ⟨sz, xs.map (·.ev T), false⟩) (v := .sl k0 xs.length) (r := .slice (some ⟨w.heap.size, 0, none⟩) xs.length xs.length) (w' := w.alloc (.cells R e)) (cs := R) (TT := e) ?_ rfl rfl rfl (alloc_size _ _) (alloc_old _ _) (alloc_new _ _) (hnew ⟨_, rfl⟩) hH (by simp [hR]) (fun j e' he' => ?_) (.inr ⟨xs.length, by simp, by simp, by simp, by simp [hR]⟩)
      · rw [← hsz] at r1
        simp only [Array.toList_map] at r1
        have hbig3 : ¬ (16777216 < xs.length * i.size) := by omega
        simp [execOp, ho, Instr.buildSlice, run_underlying ht, Go.sizeOf, typeInfo, hi, hbig3, hnz, hzero, r1, newRow]
      · simp only [List.getElem?_map, Option.map_eq_some_iff] at he'
        obtain ⟨y, hy, rfl⟩ := he'
        have hmem := List.mem_of_getElem? hy
        obtain ⟨f1, f2⟩ := hall' y hmem
        refine ⟨f1, f2, fun j2 c hj => ?_⟩
        have hjlt : j < parts.toList.length := by rw [hlen]; exact (List.getElem?_eq_some_iff.1 hy).1
        obtain ⟨g1, g2⟩ := hparts j _ y (List.getElem?_eq_getElem hjlt) hy
        obtain ⟨d1, u, d2, d3, d4⟩ := ((ev_ok g2 (hT _ hmem)).cells f1).2 j2 c hj
        have hj2 : j2 < sz := by rw [← f2]; exact (List.getElem?_eq_some_iff.1 hj).1
        have := r4 j (parts.toList[j].1, a.eval parts.toList[j].2) j2 (by rw [Array.toList_map, List.getElem?_map, List.getElem?_eq_getElem hjlt]; rfl) hj2
        rw [Nat.zero_add] at this
        exact ⟨d1, u, by rw [this]; exact d2, d3, d4⟩
    · cases hs
end Dk
