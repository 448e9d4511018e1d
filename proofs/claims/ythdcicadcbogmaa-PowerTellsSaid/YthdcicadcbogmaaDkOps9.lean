/- One operation of loaded code does what the abstract machine's does: slices made, appended to, copied. -/
import Derived.Test.YthdcicadcbogmaaDkOps8
import Derived.Deep.AppendSrc
set_option linter.all false
namespace Dk
open Go
variable {P : Program} {num : Nat → FuncId} {β : Bet} {hf : Nat → Option Blk} {w : World} {T : Slots} {a : Act} {H : Heap} {o : Oper} {k0 : Nat} {ext : Ext} {v : AV} {eff : Eff}

/-- Elements as cells, one behind the other. -/
def RowVals (num : Nat → FuncId) (β : Bet) (hf : Nat → Option Blk) (w : World) (sz : Nat) (es : List AV) (vs : List Value) : Prop :=
  vs.length = es.length * sz ∧ (∀ u ∈ vs, u.oneCell' = true) ∧ ∀ (i : Nat) (e : AV), es[i]? = some e → e.okc = true ∧ e.cells.length = sz ∧
    ∀ (j : Nat) (c : AV), e.cells[j]? = some c → c.one = true ∧ ∃ u, vs[i * sz + j]? = some u ∧ u.oneCell' = true ∧ VR num β hf w c u

theorem rowVals_cons {sz : Nat} {e : AV} {es : List AV} {us vs : List Value} (h1 : us.length = sz) (h2 : ∀ u ∈ us, u.oneCell' = true) (h3 : e.okc = true) (h4 : e.cells.length = sz)
    (h5 : ∀ (j : Nat) (c : AV), e.cells[j]? = some c → c.one = true ∧ ∃ u, us[j]? = some u ∧ u.oneCell' = true ∧ VR num β hf w c u) (h : RowVals num β hf w sz es vs) : RowVals num β hf w sz (e :: es) (us ++ vs) := by
  obtain ⟨g1, g2, g3⟩ := h
  refine ⟨by simp [g1, h1, Nat.succ_mul, Nat.add_comm], fun u hu => ?_, fun i x hx => ?_⟩
  · rcases List.mem_append.1 hu with h | h
    · exact h2 u h
    · exact g2 u h
  · cases i with
    | zero =>
      simp at hx; subst hx
      refine ⟨h3, h4, fun j c hj => ?_⟩
      obtain ⟨d1, u, d2, d3⟩ := h5 j c hj
      have hlt : j < us.length := (List.getElem?_eq_some_iff.1 d2).1
      exact ⟨d1, u, by rw [Nat.zero_mul, Nat.zero_add, List.getElem?_append_left hlt]; exact d2, d3⟩
    | succ i =>
      obtain ⟨f1, f2, f3⟩ := g3 i x (by simpa using hx)
      refine ⟨f1, f2, fun j c hj => ?_⟩
      obtain ⟨d1, u, d2, d3⟩ := f3 j c hj
      refine ⟨d1, u, ?_, d3⟩
      rw [List.getElem?_append_right (by rw [h1, Nat.succ_mul]; omega), h1, Nat.succ_mul, ← d2]
      congr 1
      omega

theorem row_vals {sz b : Nat} : ∀ {es : List AV} {o : Nat}, (∀ (i : Nat) (e : AV), es[i]? = some e → e.okc = true ∧ e.cells.length = sz ∧ At num β hf w b (o + i * sz) e.cells) →
    ∃ vs, RowVals num β hf w sz es vs ∧ w.rangeAt b o vs
  | [], o, _ => ⟨[], ⟨by simp, by simp, by simp⟩, fun j v h => by simp at h⟩
  | e :: es, o, h => by
    obtain ⟨h1, h2, h3⟩ := h 0 e rfl
    rw [Nat.zero_mul, Nat.add_zero] at h3
    obtain ⟨us, u1, u2, u3, u4⟩ := h3.vals
    obtain ⟨vs, v1, v2⟩ := row_vals (es := es) (o := o + sz) (fun i e' he => by
      obtain ⟨f1, f2, f3⟩ := h (i + 1) e' (by simpa using he)
      exact ⟨f1, f2, by rwa [Nat.succ_mul, show o + (i * sz + sz) = o + sz + i * sz by omega] at f3⟩)
    have hall : ∀ u ∈ us, u.oneCell' = true := by simpa using u3
    refine ⟨us ++ vs, rowVals_cons (by omega) hall h1 h2 (fun j c hj => ?_) v1, fun j u hj => ?_⟩
    · have hlt : j < us.length := by rw [u1]; exact (List.getElem?_eq_some_iff.1 hj).1
      have hu := List.getElem?_eq_getElem hlt
      exact ⟨(h3 j c hj).1, us[j], hu, hall _ (List.getElem_mem hlt), u4 j c us[j] hj hu⟩
    · by_cases hlt : j < us.length
      · rw [List.getElem?_append_left hlt] at hj; exact u2 j u hj
      · rw [List.getElem?_append_right (by omega)] at hj
        have := v2 (j - us.length) u hj
        rwa [show o + sz + (j - us.length) = o + j by omega] at this

theorem RowVals.append {sz : Nat} {es es' : List AV} {vs vs' : List Value} (h : RowVals num β hf w sz es vs) (h' : RowVals num β hf w sz es' vs') : RowVals num β hf w sz (es ++ es') (vs ++ vs') := by
  obtain ⟨g1, g2, g3⟩ := h
  obtain ⟨k1, k2, k3⟩ := h'
  refine ⟨by simp [g1, k1, Nat.add_mul], fun u hu => ?_, fun i x hx => ?_⟩
  · rcases List.mem_append.1 hu with h | h
    · exact g2 u h
    · exact k2 u h
  · by_cases hi : i < es.length
    · rw [List.getElem?_append_left hi] at hx
      obtain ⟨f1, f2, f3⟩ := g3 i x hx
      refine ⟨f1, f2, fun j c hj => ?_⟩
      obtain ⟨d1, u, d2, d3⟩ := f3 j c hj
      have hlt := (List.getElem?_eq_some_iff.1 d2).1
      exact ⟨d1, u, by rw [List.getElem?_append_left hlt]; exact d2, d3⟩
    · rw [List.getElem?_append_right (by omega)] at hx
      obtain ⟨f1, f2, f3⟩ := k3 _ x hx
      refine ⟨f1, f2, fun j c hj => ?_⟩
      obtain ⟨d1, u, d2, d3⟩ := f3 j c hj
      refine ⟨d1, u, ?_, d3⟩
      have hm : es.length * sz ≤ i * sz := Nat.mul_le_mul_right _ (by omega)
      rw [List.getElem?_append_right (by omega), g1, ← d2, Nat.sub_mul]
      congr 1
      omega

theorem RowVals.take {sz : Nat} {es : List AV} {vs : List Value} (h : RowVals num β hf w sz es vs) (n : Nat) (hn : n ≤ es.length) : RowVals num β hf w sz (es.take n) (vs.take (n * sz)) := by
  obtain ⟨g1, g2, g3⟩ := h
  have hle : n * sz ≤ es.length * sz := Nat.mul_le_mul_right _ hn
  refine ⟨by rw [List.length_take, List.length_take, g1, Nat.min_eq_left hn, Nat.min_eq_left hle], fun u hu => g2 u (List.mem_of_mem_take hu), fun i x hx => ?_⟩
  rw [List.getElem?_take] at hx
  split at hx
  · rename_i hi
    obtain ⟨f1, f2, f3⟩ := g3 i x hx
    refine ⟨f1, f2, fun j c hj => ?_⟩
    obtain ⟨d1, u, d2, d3⟩ := f3 j c hj
    have hj2 : j < sz := by rw [← f2]; exact (List.getElem?_eq_some_iff.1 hj).1
    have := Nat.mul_le_mul_right sz (show i + 1 ≤ n from hi)
    rw [Nat.succ_mul] at this
    exact ⟨d1, u, by rw [List.getElem?_take, if_pos (by omega)]; exact d2, d3⟩
  · cases hx

/-- What is appended. -/
theorem src_of {sz : Nat} {tx e' : TypeId} {av : AV} {u : Value} {es : List AV} (hpos : 0 < sz) (hk : P.underlying tx = some (.slice e')) (hH : HR num β hf w) (hA : Agree β hf H (refs av)) (hx : VR num β hf w av u) (h : elems H sz av = some es) :
    ∃ news, RowVals num β hf w sz es news ∧ Src P sz tx u es.length news w ∧ (es ≠ [] → ∃ b o c, u = .slice (some ⟨b, o, none⟩) es.length c ∧ w.rangeAt b o news ∧ (∀ k len, av = .sl k len → β k = some b) ∧ ((∀ k len, av ≠ .sl k len) → Xof β hf b)) := by
  obtain ⟨A, c, hv, hc, hAt⟩ := elems_at hpos hH hA hx h
  by_cases hne : es = []
  · subst hne
    refine ⟨[], ⟨by simp, by simp, by simp⟩, ?_, fun h => absurd rfl h⟩
    rw [hv]
    cases A with
    | none => exact Src.ofNil w hk c
    | some A => exact Src.ofSlice w hk A 0 c [] (by simp) (by simp) (by simp)
  · obtain ⟨b, o', hA', hb, hsl, hnsl, hcells⟩ := hAt hne
    obtain ⟨news, r1, r2⟩ := row_vals hcells
    refine ⟨news, r1, ?_, fun _ => ⟨b, o', c, by rw [hv, hA'], r2, fun k len h => (hsl k len h).1, hnsl⟩⟩
    rw [hv, hA']
    exact Src.ofSlice w hk _ _ c news r1.1 (fun j u hj => by rw [addr_add]; exact r2 j u hj) r1.2.1

theorem hasZero_some {t : TypeId} (h : hasZero P t = true) : ∃ i z, P.info? t = some i ∧ i.zero = some z ∧ z.cells.size = i.size := by
  unfold hasZero at h
  split at h
  · rename_i i hi
    split at h
    · rename_i z hz; exact ⟨i, z, hi, hz, by simpa using h⟩
    · cases h
  · cases h

theorem grownCap_ge' (w : World) (need old : Nat) (e : TypeId) : need ≤ grownCap w need old e := by
  simp only [grownCap, Question.cut]; omega

/-- Appending to nothing: a new row. -/
theorem sound_append_new {t e : TypeId} {x y : Operand} {args : Array Operand} {types : Array TypeId} {A : Option Addr} {sz bytes : Nat} {ys : List AV} {news : List Value} {i : TypeInfo} {z : Value} (ho : o.op = .call { callee := .builtin .append, args := args, argTypes := types }) (hargs : args = #[x, y]) (htypes : types = #[t, t])
    (ht : P.underlying t = some (.slice e)) (hi : P.info? e = some i) (hz : i.zero = some z) (hzs : z.cells.size = i.size) (hsz : i.size = sz) (hby : i.bytes = bytes)
    (hxv : a.eval x = .slice A 0 0) (hr : RowVals num β hf w sz ys news) (hs : Src P sz t (a.eval y) ys.length news w) (hne : ys ≠ []) (hb : ys.length * bytes ≤ maxBytes) (h63 : ys.length ≤ 9223372036854775807) (hH : HR num β hf w) (hnew : β k0 = none) :
    Cont P num o a β hf w k0 (.sl k0 ys.length) (.push ⟨sz, ys, false⟩) := by
  subst hargs; subst htypes; subst hsz; subst hby
  have hpos : 0 < ys.length := List.length_pos_iff.2 hne
  have hold : (Builtin.firstCells i.size 0 (.slice A 0 0)).run P w.drew = .ok ([] : List Value).toArray w.drew := by
    cases A with
    | none => exact run_firstCells_none w.drew i.size 0 0 0
    | some A => simp [Builtin.firstCells, loadCells, loadCellsFrom]
  have hrun := run_append_grow_src (P := P) w t t o.type e i z ht hi hz A 0 0 [] hold (a.eval y) ys.length news hs (by omega) (by omega) (by
    rw [Nat.zero_add, nextslicecap_zero hpos]; unfold maxBytes at hb; omega)
  simp only [List.nil_append, Nat.zero_add] at hrun
  obtain ⟨r1, r2, r3⟩ := hr
  have hcap := grownCap_ge' w ys.length 0 e
  refine cont_push (bk := ⟨i.size, ys, false⟩) (r := .slice (some ⟨w.heap.size, 0, none⟩) ys.length (grownCap w ys.length 0 e)) (w' := w.drew.alloc (.cells (news.toArray ++ Builtin.zeroCells z.cells (grownCap w ys.length 0 e - ys.length)) e)) (cs := news.toArray ++ Builtin.zeroCells z.cells (grownCap w ys.length 0 e - ys.length)) (TT := e)
    ?_ rfl rfl rfl (alloc_size w.drew _) (alloc_old w.drew _) (alloc_new w.drew _) hnew hH ?_ (fun j e' he => ?_) (.inr ⟨_, rfl, rfl, hcap, ?_⟩)
  · simp [execOp, ho, resolve, hxv, invoke, builtin, hrun]
  · simp [r1]
  · obtain ⟨f1, f2, f3⟩ := r3 j e' he
    refine ⟨f1, f2, fun j2 c hj => ?_⟩
    obtain ⟨d1, u, d2, d3⟩ := f3 j2 c hj
    have hlt := (List.getElem?_eq_some_iff.1 d2).1
    exact ⟨d1, u, by rw [Array.getElem?_append_left (by simpa using hlt)]; simpa using d2, d3⟩
  · simp only [Array.size_append, List.size_toArray, size_zeroCells, hzs, r1, ← Nat.add_mul]
    rw [show ys.length + (grownCap w ys.length 0 e - ys.length) = grownCap w ys.length 0 e by omega]
    exact Nat.le_refl _

/-- A row that gives way to a new block. -/
theorem cont_move {k b : Nat} {bk bk' : Blk} {r : Value} {cs : Array Value} {TT : TypeId} {w' : World} (hr : (execOp a.eval o).run P w = .ok (.value r) w')
    (hH : HR num β hf w) (hb : β k = some b) (hk : hf k = some bk) (hfz : bk.fz = false) (hsz : bk'.sz = bk.sz) (hlen : bk.es.length < bk'.es.length)
    (hos : w'.os = w.os) (htape : w'.tape = w.tape) (hout : w'.output = w.output) (hsize : w.heap.size ≤ w'.heap.size) (hold : ∀ c, c < w.heap.size → w'.heap[c]? = w.heap[c]?)
    (hnewb : w'.heap[w.heap.size]? = some (.cells cs TT (0, 0))) (hcs : bk'.es.length * bk'.sz ≤ cs.size)
    (hel : ∀ (i : Nat) (e : AV), bk'.es[i]? = some e → e.okc = true ∧ e.cells.length = bk'.sz ∧ ∀ (j : Nat) (c : AV), e.cells[j]? = some c → c.one = true ∧ ∃ u, cs[i * bk'.sz + j]? = some u ∧ u.oneCell' = true ∧ VR num β hf w c u)
    {cap : Nat} (hrv : r = .slice (some ⟨w.heap.size, 0, none⟩) bk'.es.length cap) (hcap : bk'.es.length ≤ cap) (hcc : cap * bk'.sz ≤ cs.size) :
    Cont P num o a β hf w k0 (.sl k bk'.es.length) (.put k bk') := by
  intro K Q hK
  rw [onF_put hk] at hK
  unfold Oper.wp
  rw [hr]
  have hlt : ∀ k b, β k = some b → b < w.heap.size := fun k b h => by
    obtain ⟨bk', _, hB⟩ := hH.blk k b h
    obtain ⟨cs', T', h1, _⟩ := hB.cells
    exact blk_lt h1
  have hgo : Goes β hf w ⟨fun j => if j = k then some w.heap.size else β j, β.X0⟩ (fun j => if j = k then some bk' else hf j) w' := by
    refine ⟨hos, htape, hout, hsize, fun b hb _ => hold b hb, ?_, ?_, ?_, ?_, ?_, rfl⟩
    · intro j c hj
      by_cases e : j = k
      · exact ⟨w.heap.size, by simp [e]⟩
      · exact ⟨c, by simp [e, hj]⟩
    · intro j c hj hc
      by_cases e : j = k
      · simp [e] at hj; omega
      · simpa [e] using hj
    · intro j c x hj hx
      by_cases e : j = k
      · subst e
        rw [hk] at hx; injection hx with hx; subst hx
        exact ⟨bk', by simp, hsz, by omega, fun h => by rw [hfz] at h; cases h⟩
      · exact ⟨x, by simp [e, hx], rfl, Nat.le_refl _, id⟩
    · intro j c x y hj hx hy hl
      by_cases e : j = k
      · subst e
        rw [hk] at hx; injection hx with hx; subst hx
        simp at hy; subst hy
        omega
      · simp [e, hj]
    · intro j c cs' T' hj hj' hc
      by_cases e : j = k
      · subst e
        simp at hj'
        have := blk_lt hc; omega
      · exact ⟨cs', T', by rw [hold c (hlt j c hj)]; exact hc, Nat.le_refl _⟩
  refine hK r _ w' hgo ⟨?_, ?_, fun c hc => hH.base c (by omega), ?_⟩ ?_ (fun j hj => ?_)
  · intro j c hj
    by_cases e : j = k
    · subst e
      simp at hj; subst hj
      refine ⟨bk', by simp, ⟨cs, TT, hnewb, hcs, fun i x hx => ?_⟩⟩
      obtain ⟨h1, h2, h3⟩ := hel i x hx
      exact ⟨h1, h2, fun j2 c2 hj2 => let ⟨d1, z, d2, d3, d4⟩ := h3 j2 c2 hj2; ⟨d1, z, d2, d3, hgo.vr d4⟩⟩
    · simp [e] at hj
      obtain ⟨x, hx, hB⟩ := hH.blk j c hj
      obtain ⟨cs', T', h1, h2, h3⟩ := hB.cells
      refine ⟨x, by simp [e, hx], ⟨cs', T', by rw [hold c (hlt j c hj)]; exact h1, h2, fun i y hy => ?_⟩⟩
      obtain ⟨f1, f2, f3⟩ := h3 i y hy
      exact ⟨f1, f2, fun j2 c2 hj2 => let ⟨d1, z, d2, d3, d4⟩ := f3 j2 c2 hj2; ⟨d1, z, d2, d3, hgo.vr d4⟩⟩
  · intro j j' c hj hj'
    by_cases e : j = k <;> by_cases e' : j' = k
    · rw [e, e']
    · simp [e] at hj; simp [e'] at hj'; have := hlt j' c hj'; omega
    · simp [e] at hj; simp [e'] at hj'; have := hlt j c hj; omega
    · simp [e] at hj; simp [e'] at hj'; exact hH.inj j j' c hj hj'
  · intro j c hj
    by_cases e : j = k
    · simp [e] at hj; subst hj; exact hH.base _ (Nat.le_refl _)
    · simp [e] at hj; exact hH.own j c hj
  · subst hrv
    exact .sl w.heap.size bk' (by simp) (by simp) (Nat.le_refl _) rfl (fun _ => ⟨cap, cs, TT, rfl, hcap, hnewb, hcc⟩)
  · by_cases e : j = k
    · subst e; exact .inl (by rw [hb]; simp)
    · simp [e] at hj; exact .inl hj
end Dk
