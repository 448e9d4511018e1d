/- One operation of loaded code does what the abstract machine's does: what makes memory; what only computes. -/
import Derived.Test.YthdcicadcbogmaaDkOps
set_option linter.all false
namespace Dk
open Go
variable {P : Program} {num : Nat → FuncId} {β : Bet} {hf : Nat → Option Blk} {w : World} {T : Slots} {a : Act} {H : Heap} {o : Oper} {k0 : Nat}

/-- A new block. -/
theorem cont_push {bk : Blk} {r : Value} {v : AV} {cs : Array Value} {TT : TypeId} {w' : World} (hr : (execOp a.eval o).run P w = .ok (.value r) w')
    (hos : w'.os = w.os) (htape : w'.tape = w.tape) (hout : w'.output = w.output) (hsize : w.heap.size ≤ w'.heap.size) (hold : ∀ c, c < w.heap.size → w'.heap[c]? = w.heap[c]?)
    (hnewb : w'.heap[w.heap.size]? = some (.cells cs TT (0, 0)))
    (hnew : β k0 = none) (hH : HR num β hf w) (hlen : bk.es.length * bk.sz ≤ cs.size)
    (hel : ∀ (i : Nat) (e : AV), bk.es[i]? = some e → e.okc = true ∧ e.cells.length = bk.sz ∧
      ∀ (j : Nat) (c : AV), e.cells[j]? = some c → c.one = true ∧ ∃ u, cs[i * bk.sz + j]? = some u ∧ u.oneCell' = true ∧ VR num β hf w c u)
    (hv : (∃ n, n = bk.es.length ∧ v = .ptr k0 n 0 0 ∧ r = .pointer (some ⟨w.heap.size, 0, none⟩)) ∨
      (∃ cap, v = .sl k0 bk.es.length ∧ r = .slice (some ⟨w.heap.size, 0, none⟩) bk.es.length cap ∧ bk.es.length ≤ cap ∧ cap * bk.sz ≤ cs.size)) :
    Cont P num o a β hf w k0 v (.push bk) := by
  intro K Q hK
  unfold Oper.wp
  rw [hr]
  have hne : ∀ k b, β k = some b → k ≠ k0 := fun k b h e => by rw [e, hnew] at h; cases h
  have hlt : ∀ k b, β k = some b → b < w.heap.size := fun k b h => by
    obtain ⟨bk', _, hB⟩ := hH.blk k b h
    obtain ⟨cs', T', h1, _⟩ := hB.cells
    exact blk_lt h1
  have hgo : Goes β hf w ⟨fun k => if k = k0 then some w.heap.size else β k, β.X0⟩ ((Eff.push bk).onF k0 hf) w' := by
    refine ⟨hos, htape, hout, hsize, fun b hb _ => hold b hb, ?_, ?_, ?_, ?_, ?_, rfl⟩
    · intro k b hk; exact ⟨b, by simp [hne k b hk, hk]⟩
    · intro k b hk hb
      by_cases e : k = k0
      · simp [e] at hk; omega
      · simpa [e] using hk
    · intro k b x hk hx
      exact ⟨x, by simp [Eff.onF, hne k b hk, hx], rfl, Nat.le_refl _, id⟩
    · intro k b x y hk _ _ _; simp [hne k b hk, hk]
    · intro k b cs' T' hk _ hc
      exact ⟨cs', T', by rw [hold b (hlt k b hk)]; exact hc, Nat.le_refl _⟩
  refine hK r _ w' hgo ?_ ?_ (fun k hk => ?_)
  · refine ⟨?_, ?_, fun b hb => hH.base b (by omega), fun k b hk => ?_⟩
    · intro k b hk
      by_cases e : k = k0
      · subst e
        simp at hk; subst hk
        refine ⟨bk, by simp [Eff.onF], ⟨cs, TT, hnewb, hlen, fun i e he => ?_⟩⟩
        obtain ⟨h1, h2, h3⟩ := hel i e he
        exact ⟨h1, h2, fun j c hj => let ⟨d1, z, d2, d3, d4⟩ := h3 j c hj; ⟨d1, z, d2, d3, hgo.vr d4⟩⟩
      · simp [e] at hk
        obtain ⟨x, hx, hB⟩ := hH.blk k b hk
        obtain ⟨cs', T', h1, h2, h3⟩ := hB.cells
        refine ⟨x, by simp [Eff.onF, e, hx], ⟨cs', T', by rw [hold b (hlt k b hk)]; exact h1, h2, fun i e he => ?_⟩⟩
        obtain ⟨f1, f2, f3⟩ := h3 i e he
        exact ⟨f1, f2, fun j c hj => let ⟨d1, z, d2, d3, d4⟩ := f3 j c hj; ⟨d1, z, d2, d3, hgo.vr d4⟩⟩
    · intro k k' b hk hk'
      by_cases e : k = k0 <;> by_cases e' : k' = k0
      · rw [e, e']
      · simp [e] at hk; simp [e'] at hk'; have := hlt k' b hk'; omega
      · simp [e] at hk; simp [e'] at hk'; have := hlt k b hk; omega
      · simp [e] at hk; simp [e'] at hk'; exact hH.inj k k' b hk hk'
    · by_cases e : k = k0
      · simp [e] at hk; subst hk; exact hH.base _ (Nat.le_refl _)
      · simp [e] at hk; exact hH.own k b hk
  · rcases hv with ⟨n, rfl, rfl, rfl⟩ | ⟨cap, rfl, rfl, hcap, hcs⟩
    · exact .ptr w.heap.size bk (by simp) (by simp [Eff.onF]) (Nat.le_refl _) rfl (fun _ => by simp)
    · exact .sl w.heap.size bk (by simp) (by simp [Eff.onF]) (Nat.le_refl _) rfl (fun _ => ⟨cap, cs, TT, rfl, hcap, hnewb, hcs⟩)
  · by_cases e : k = k0
    · exact .inr e
    · simp [e] at hk; exact .inl hk

theorem alloc_old (w : World) (x : Obj) (c : Nat) (h : c < w.heap.size) : (w.alloc x).heap[c]? = w.heap[c]? := by
  show (w.heap.push x)[c]? = _
  rw [Array.getElem?_push, if_neg (by omega)]
theorem alloc_new (w : World) (x : Obj) : (w.alloc x).heap[w.heap.size]? = some x := by
  show (w.heap.push x)[w.heap.size]? = _
  rw [Array.getElem?_push, if_pos rfl]
theorem alloc_size (w : World) (x : Obj) : w.heap.size ≤ (w.alloc x).heap.size := by
  show _ ≤ (w.heap.push x).size
  rw [Array.size_push]; omega

theorem sound_box {e : TypeId} {x : Operand} {y : SX} {sz : Nat} {ext : Ext} {v : AV} {eff : Eff} (ho : o.op = .box e x) (hx : VR num β hf w (y.ev T) (a.eval x))
    (hH : HR num β hf w) (hk0 : H.length = k0) (hnew : (∃ b, eff = .push b) → β k0 = none) (hs : step ext T H (.box sz y) = some (v, eff)) : Cont P num o a β hf w k0 v eff := by
  simp only [step] at hs
  split at hs
  · rename_i hc
    obtain ⟨hok, hsz⟩ := hc
    simp at hs; obtain ⟨rfl, rfl⟩ := hs
    obtain ⟨h1, h2⟩ := hx.cells hok
    rw [hk0]
    refine cont_push (r := .pointer (some ⟨w.heap.size, 0, none⟩)) (w' := w.alloc (.cells (a.eval x).cells e)) (cs := (a.eval x).cells) (TT := e) ?_ rfl rfl rfl (alloc_size _ _) (alloc_old _ _) (alloc_new _ _) (hnew ⟨_, rfl⟩) hH (by simp; omega) (fun i e' he => ?_) (.inl ⟨1, rfl, rfl, rfl⟩)
    · simp [execOp, ho, Instr.box, newVar, newRow]
    · cases i with
      | zero => simp at he; subst he; exact ⟨hok, hsz, fun j c hj => let ⟨d1, u, d2, d3, d4⟩ := h2 j c hj; ⟨d1, u, by simpa using d2, d3, d4⟩⟩
      | succ i => simp at he
  · cases hs

theorem zeroIs_some {t : TypeId} {z : PV} {sz : Nat} (h : zeroIs P t z sz = true) : ∃ i zv, P.info? t = some i ∧ i.zero = some zv ∧ okC zv z = true ∧ z.okc = true ∧ z.cells.length = sz ∧ (∀ p ∈ z.cells, p.one = true) ∧ i.size = sz := by
  unfold zeroIs at h
  split at h
  · rename_i i hi
    simp only [Bool.and_eq_true] at h
    obtain ⟨h1, h2⟩ := h
    split at h1
    · rename_i zv hz
      simp only [Bool.and_eq_true, decide_eq_true_eq, List.all_eq_true] at h1
      exact ⟨i, zv, hi, hz, h1.1.1.1, h1.1.1.2, h1.1.2, h1.2, by simpa using h2⟩
    · cases h1
  · cases h

theorem sound_alloc {e : TypeId} {z : PV} {sz : Nat} {ext : Ext} {v : AV} {eff : Eff} (ho : o.op = .alloc e) (hz : zeroIs P e z sz = true)
    (hH : HR num β hf w) (hk0 : H.length = k0) (hnew : (∃ b, eff = .push b) → β k0 = none) (hs : step ext T H (.alloc sz z) = some (v, eff)) : Cont P num o a β hf w k0 v eff := by
  obtain ⟨i, zv, hi, hzv, hC, hok, hlen, hone, hsz⟩ := zeroIs_some hz
  simp [step] at hs; obtain ⟨rfl, rfl⟩ := hs
  have hx : VR num β hf w (.pv z) zv := .pv (okC_pr hC)
  obtain ⟨h1, h2⟩ := hx.cells (by simpa [AV.okc] using hok)
  have hl : (AV.pv z).cells.length = sz := by simpa [AV.cells] using hlen
  rw [hk0]
  refine cont_push (r := .pointer (some ⟨w.heap.size, 0, none⟩)) (w' := w.alloc (.cells zv.cells e)) (cs := zv.cells) (TT := e) ?_ rfl rfl rfl (alloc_size _ _) (alloc_old _ _) (alloc_new _ _) (hnew ⟨_, rfl⟩) hH (by simp; omega) (fun i e' he => ?_) (.inl ⟨1, rfl, rfl, rfl⟩)
  · simp [execOp, ho, Instr.alloc, zeroValue, typeInfo, hi, hzv, newVar, newRow]
  · cases i with
    | zero => simp at he; subst he; exact ⟨by simpa [AV.okc] using hok, hl, fun j c hj => let ⟨d1, u, d2, d3, d4⟩ := h2 j c hj; ⟨d1, u, by simpa using d2, d3, d4⟩⟩
    | succ i => simp at he

theorem elemIs_some {t : TypeId} {f : TypeId → Bool} (h : elemIs P t f = true) : ∃ e, P.underlying t = some (.slice e) ∧ f e = true := by
  unfold elemIs at h
  split at h
  · rename_i e he; exact ⟨e, he, h⟩
  · cases h
theorem szIs_some {t : TypeId} {n : Nat} (h : szIs P t n = true) : ∃ i, P.info? t = some i ∧ i.size = n := by
  unfold szIs at h
  split at h
  · rename_i i hi; exact ⟨i, hi, by simpa using h⟩
  · cases h
theorem bytesIs_some {t : TypeId} {n : Nat} (h : bytesIs P t n = true) : ∃ i, P.info? t = some i ∧ i.bytes = n := by
  unfold bytesIs at h
  split at h
  · rename_i i hi; exact ⟨i, hi, by simpa using h⟩
  · cases h

theorem VR.pv_int {y : SX} {u : Value} {k : IntKind} {n : Int} (h : VR num β hf w (y.ev T) u) (e : y.ev T = .pv (.int k n)) : u = .int k n := by
  rw [e] at h; cases h with | pv h => cases h; rfl

theorem sound_mkslice {t : TypeId} {l c : Operand} {l' c' : SX} {sz bytes : Nat} {z : PV} {ext : Ext} {v : AV} {eff : Eff} (ho : o.op = .makeSlice t l c)
    (hM : elemIs P t (fun e => zeroIs P e z sz && bytesIs P e bytes && decide (0 < sz)) = true) (hl : VR num β hf w (l'.ev T) (a.eval l)) (hc : VR num β hf w (c'.ev T) (a.eval c))
    (hH : HR num β hf w) (hk0 : H.length = k0) (hnew : (∃ b, eff = .push b) → β k0 = none) (hs : step ext T H (.mkslice sz z bytes l' c') = some (v, eff)) : Cont P num o a β hf w k0 v eff := by
  obtain ⟨e, ht, he⟩ := elemIs_some hM
  simp only [Bool.and_eq_true, decide_eq_true_eq] at he
  obtain ⟨⟨he1, he2⟩, hpos⟩ := he
  obtain ⟨i, zv, hi, hzv, hC, hok, hlen, hone, hsz⟩ := zeroIs_some he1
  obtain ⟨i', hi', hby⟩ := bytesIs_some he2
  rw [hi] at hi'; injection hi' with hi'; subst hi'
  simp only [step] at hs
  split at hs
  · rename_i kl l0 kc c0 hle hce
    have hle' := VR.pv_int hl hle
    have hce' := VR.pv_int hc hce
    split at hs
    · rename_i hcond
      obtain ⟨h0, hlc, hb, h63⟩ := hcond
      simp at hs; obtain ⟨rfl, rfl⟩ := hs
      have hx : VR num β hf w (.pv z) zv := .pv (okC_pr hC)
      obtain ⟨h1, h2⟩ := hx.cells (by simpa [AV.okc] using hok)
      have hzl : (AV.pv z).cells.length = sz := by simpa [AV.cells] using hlen
      have hzs : zv.cells.size = sz := by rw [← h1]; exact hzl
      have hbytes : (i.bytes : Int) * c0 ≤ 281474976710656 := by
        rw [hby]
        have e1 : ((c0.toNat * bytes : Nat) : Int) = (bytes : Int) * c0 := by
          rw [Int.natCast_mul, Int.toNat_of_nonneg (by omega), Int.mul_comm]
        have e2 : ((c0.toNat * bytes : Nat) : Int) ≤ 140737488355328 := Int.ofNat_le.2 hb
        omega
      have hrun := run_make w t e i zv ht hi hzv kl kc l0 c0 h0 hlc hbytes h63 (P := P)
      rw [hk0]
      have hln : l0.toNat ≤ c0.toNat := by omega
      refine cont_push (r := .slice (some ⟨w.heap.size, 0, none⟩) l0.toNat c0.toNat) (w' := w.alloc (.cells (madeCells zv.cells (c0.toNat * i.size)) e)) (cs := madeCells zv.cells (c0.toNat * i.size)) (TT := e)
        ?_ rfl rfl rfl (alloc_size _ _) (alloc_old _ _) (alloc_new _ _) (hnew ⟨_, rfl⟩) hH ?_ (fun j e' he => ?_) (.inr ⟨c0.toNat, ?_, ?_, ?_, ?_⟩)
      · simp [execOp, ho, hle', hce', hrun]
      · simp only [List.length_replicate, size_madeCells, hsz]; exact Nat.mul_le_mul_right _ hln
      · simp only [List.getElem?_replicate] at he
        split at he
        · rename_i hj
          injection he with he; subst he
          refine ⟨by simpa [AV.okc] using hok, hzl, fun j2 c2 hj2 => ?_⟩
          obtain ⟨d1, u, d2, d3, d4⟩ := h2 j2 c2 hj2
          refine ⟨d1, u, ?_, d3, d4⟩
          have hj2lt : j2 < sz := by rw [← hzl]; exact (List.getElem?_eq_some_iff.1 hj2).1
          have hlt : j * sz + j2 < c0.toNat * i.size := by
            rw [hsz]
            have := Nat.mul_le_mul_right sz (show j + 1 ≤ c0.toNat from Nat.le_trans hj hln)
            rw [Nat.succ_mul] at this; omega
          have hmod : (j * sz + j2) % zv.cells.size = j2 := by rw [hzs, Nat.add_comm, Nat.add_mul_mod_self_right]; exact Nat.mod_eq_of_lt hj2lt
          simp only [madeCells, Array.getElem?_map]
          rw [Array.getElem?_eq_getElem (by rw [Array.size_range]; exact hlt)]
          simp only [Array.getElem_range, Option.map_some, hmod]
          rw [getElem!_pos _ _ (by rw [hzs]; exact hj2lt)]
          rw [← d2, Array.getElem?_eq_getElem (by rw [hzs]; exact hj2lt)]
        · cases he
      · simp
      · simp
      · simpa using hln
      · simp only [size_madeCells, hsz]; exact Nat.le_refl _
    · cases hs
  · cases hs
end Dk
