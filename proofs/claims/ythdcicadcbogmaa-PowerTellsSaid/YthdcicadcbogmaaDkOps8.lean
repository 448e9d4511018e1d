/- One operation of loaded code does what the abstract machine's does: texts out of bytes, literals of structs, arrays and slices. -/
import Derived.Test.YthdcicadcbogmaaDkOps7
set_option linter.all false
namespace Dk
open Go
variable {P : Program} {num : Nat → FuncId} {β : Bet} {hf : Nat → Option Blk} {w : World} {T : Slots} {a : Act} {H : Heap} {o : Oper} {k0 : Nat} {ext : Ext} {v : AV} {eff : Eff}

theorem byteOf_some {e : AV} {b : UInt8} (h : byteOf e = some b) : e = .pv (.int .u8 b.toNat) := by
  unfold byteOf at h
  split at h
  · rename_i n
    split at h
    · rename_i hn
      injection h with h
      have : ((b.toNat : Nat) : Int) = n := by
        rw [← h, UInt8.toNat_ofNat']
        have : n.toNat < 256 := by omega
        rw [Nat.mod_eq_of_lt (by simpa using this)]
        omega
      rw [this]
    · cases h
  · cases h
theorem bytesOf_some : ∀ {es : List AV} {l : List UInt8}, bytesOf es = some l → es = l.map fun b => .pv (.int .u8 b.toNat)
  | [], l, h => by simp [bytesOf] at h; subst h; rfl
  | e :: es, l, h => by
    simp only [bytesOf] at h
    split at h
    · rename_i b bs h1 h2
      injection h with h; subst h
      rw [byteOf_some h1, bytesOf_some h2]; rfl
    · cases h

theorem sound_convSB {s t : TypeId} {x : Operand} {x' : SX} (ho : o.op = .convert s t x) (h1 : elemIs P s (isIntT P · .u8) = true) (h2 : isStringT P t = true) (hx : VR num β hf w (x'.ev T) (a.eval x)) (hH : HR num β hf w) (hA : Agree β hf H (refs (x'.ev T)))
    (hs : step ext T H (.convSB x') = some (v, eff)) : Cont P num o a β hf w k0 v eff := by
  have hu : P.underlying t = some .string := by
    unfold isStringT at h2; split at h2
    · rename_i h; exact h
    · cases h2
  obtain ⟨e, ht, he⟩ := elemIs_some h1
  have hue : P.underlying e = some (.int .u8) := by
    unfold isIntT at he; split at he
    · rename_i k' h; simp at he; subst he; exact h
    · cases he
  simp only [step] at hs
  split at hs
  · rename_i es hes
    simp only [Option.map_eq_some_iff, Prod.mk.injEq] at hs
    obtain ⟨l, hl, rfl, rfl⟩ := hs
    have hes2 := bytesOf_some hl
    obtain ⟨A, c, hv, hc, hAt⟩ := elems_at (by omega) hH hA hx hes
    refine cont_value (r := .string ⟨l.toArray⟩) ?_ (vr_str _) hH
    have hlen : es.length = l.length := by rw [hes2]; simp
    by_cases hne : es = []
    · have hl0 : l = [] := by rw [hne] at hlen; exact List.eq_nil_of_length_eq_zero hlen.symm
      subst hl0
      rw [hne] at hv
      simp only [List.length_nil] at hv
      have : (convert s t (.slice A 0 c)).run P w = .ok (.string ⟨([] : List UInt8).toArray⟩) w := by
        cases A with
        | none => rw [run_convert_bytes_nil w s e ht hue 0 c t hu]; rfl
        | some A =>
          rw [run_convert_bytes_string w s t e _ 0 c ht hue hu]
          simp [Conv.bytesToString, loadCells, loadCellsFrom]
          rfl
      simp [execOp, ho, hv, this]
    · obtain ⟨b, o', hA', hb, _, _, hcells⟩ := hAt hne
      subst hA'
      have hrun := run_convert_bytes_arg w s e ht hue b o' es.length c (l.map fun b => (b.toNat : Int)) (by simp [hlen]) (fun i hi => by
        have hil : i < l.length := by omega
        have hge : es[i]? = some (.pv (.int .u8 l[i].toNat)) := by rw [hes2]; simp [hil]
        obtain ⟨_, _, h5⟩ := hcells i _ hge
        obtain ⟨_, u, h6, _, h7⟩ := h5 0 (.pv (.int .u8 l[i].toNat)) rfl
        have h8 : u = .int .u8 (l[i].toNat : Int) := by
          cases h7 with | pv h7 => cases h7; rfl
        rw [h8] at h6
        simp only [Nat.mul_one, Nat.add_zero] at h6
        rw [h6]; simp [List.getD, hil]) t hu
      have hstr : strOfNums (l.map fun b => (b.toNat : Int)) = ⟨l.toArray⟩ := by
        unfold strOfNums
        congr 1
        simp [List.map_map]
        congr 1
        conv => rhs; rw [← List.map_id l]
        apply List.map_congr_left
        intro b _
        simp
      rw [hstr] at hrun
      simp [execOp, ho, hv, hrun]
  · cases hs

theorem foldl_set : ∀ (vc : List (Value × Nat)) (off k : Nat) (cells : Array Value), (∀ i x, vc[i]? = some x → x.2 = k + i) →
    (vc.foldl (fun cs (x : Value × Nat) => cs.setIfInBounds (off + x.2) x.1) cells).size = cells.size ∧
    ∀ j, (vc.foldl (fun cs (x : Value × Nat) => cs.setIfInBounds (off + x.2) x.1) cells)[j]? = if off + k ≤ j ∧ j < off + k + vc.length ∧ j < cells.size then (vc[j - (off + k)]?).map (·.1) else cells[j]?
  | [], off, k, cells, _ => ⟨rfl, fun j => by rw [if_neg (by simp; omega)]; rfl⟩
  | (x, i) :: vc, off, k, cells, h => by
    have hi : i = k := by simpa using h 0 (x, i) rfl
    subst hi
    obtain ⟨h1, h2⟩ := foldl_set vc off (i + 1) (cells.setIfInBounds (off + i) x) (fun j y hj => by have := h (j + 1) y (by simpa using hj); omega)
    refine ⟨by simpa using h1, fun j => ?_⟩
    simp only [List.foldl_cons, h2, Array.size_setIfInBounds, List.length_cons]
    by_cases hjs : j < cells.size
    · by_cases e : j = off + i
      · subst e
        rw [if_neg (by omega), if_pos (by omega)]
        simp [hjs]
      · by_cases hr : off + (i + 1) ≤ j ∧ j < off + (i + 1) + vc.length
        · rw [if_pos (by omega), if_pos (by omega), show j - (off + i) = (j - (off + (i + 1))) + 1 by omega]
          rfl
        · rw [if_neg (by omega), if_neg (by omega)]
          simp [Array.getElem?_setIfInBounds, Ne.symm e]
    · rw [if_neg (by omega), if_neg (by omega)]
      rw [Array.getElem?_eq_none (by simp; omega), Array.getElem?_eq_none (by omega)]

theorem fill_step {place : Nat → Option (Nat × Nat)} {cells : Array Value} {i off size : Nat} {u : Value} {rest : List (Nat × Value)} (hp : place i = some (off, size)) (h1 : u.cells.size = size) (h2 : off + size ≤ cells.size) :
    ∃ cells' : Array Value, Instr.fill place cells ((i, u) :: rest) = Instr.fill place cells' rest ∧ cells'.size = cells.size ∧ ∀ j, cells'[j]? = if off ≤ j ∧ j < off + size then u.cells[j - off]? else cells[j]? := by
  have hz : ∀ (k : Nat) (x : Value × Nat), u.cells.toList.zipIdx[k]? = some x → x.2 = 0 + k := fun k x hx => by
    rw [List.getElem?_zipIdx] at hx
    simp only [Option.map_eq_some_iff] at hx
    obtain ⟨y, _, rfl⟩ := hx
    simp
  obtain ⟨g1, g2⟩ := foldl_set u.cells.toList.zipIdx off 0 cells hz
  have heq : u.cells.zipIdx.foldl (fun cs (x : Value × Nat) => cs.setIfInBounds (off + x.2) x.1) cells = u.cells.toList.zipIdx.foldl (fun cs (x : Value × Nat) => cs.setIfInBounds (off + x.2) x.1) cells := by
    rw [← Array.foldl_toList, Array.toList_zipIdx]
  refine ⟨u.cells.toList.zipIdx.foldl (fun cs (x : Value × Nat) => cs.setIfInBounds (off + x.2) x.1) cells, ?_, g1, fun j => ?_⟩
  · rw [Instr.fill]
    simp only [hp]
    rw [if_neg (by simp [h1]; omega)]
    rw [← heq]
  · rw [g2]
    simp only [List.length_zipIdx, Array.length_toList, h1, Nat.add_zero]
    by_cases hj : off ≤ j ∧ j < off + size
    · rw [if_pos ⟨hj.1, hj.2, by omega⟩, if_pos hj, List.getElem?_zipIdx]
      simp [Function.comp_def]
    · rw [if_neg (by omega), if_neg hj]

/-- Cells of an aggregate in the making. -/
def CellsVR (num : Nat → FuncId) (β : Bet) (hf : Nat → Option Blk) (w : World) (cs : List AV) (cells : Array Value) : Prop :=
  cs.length = cells.size ∧ ∀ (j : Nat) (c : AV), cs[j]? = some c → c.one = true ∧ ∃ u, cells[j]? = some u ∧ u.oneCell' = true ∧ VR num β hf w c u

theorem fill_rel {place : Nat → Option (Nat × Nat)} : ∀ (parts : List (Nat × Value)) (aparts : List (Nat × Nat × AV)) (cells : Array Value) (cs cs' : List AV), parts.length = aparts.length →
    (∀ (k : Nat) (p : Nat × Value) (q : Nat × Nat × AV), parts[k]? = some p → aparts[k]? = some q → place p.1 = some (q.1, q.2.1) ∧ VR num β hf w q.2.2 p.2) →
    CellsVR num β hf w cs cells → fillParts cs aparts = some cs' → ∃ cells', Instr.fill place cells parts = some cells' ∧ CellsVR num β hf w cs' cells'
  | [], [], cells, cs, cs', _, _, hc, h => by simp [fillParts] at h; subst h; exact ⟨cells, rfl, hc⟩
  | [], _ :: _, _, _, _, h, _, _, _ => by simp at h
  | _ :: _, [], _, _, _, h, _, _, _ => by simp at h
  | (i, u) :: parts, (off, size, av) :: aparts, cells, cs, cs', hl, hp, hc, h => by
    simp only [fillParts] at h
    split at h
    · rename_i hcond
      obtain ⟨hok, hsz, hle⟩ := hcond
      obtain ⟨hpl, hv⟩ := hp 0 (i, u) (off, size, av) rfl rfl
      dsimp only at hpl hv
      obtain ⟨v1, v2⟩ := hv.cells hok
      obtain ⟨c1, c2⟩ := hc
      obtain ⟨cells', g1, g2, g3⟩ := fill_step (rest := parts) (cells := cells) hpl (by rw [← v1, hsz]) (by omega)
      rw [g1]
      refine fill_rel parts aparts cells' _ cs' (by simpa using hl) (fun k p q hk hq => hp (k + 1) p q (by simpa using hk) (by simpa using hq)) ⟨?_, fun j c hj => ?_⟩ h
      · rw [splice_length (by omega), g2, c1]
      · rw [splice_get (by omega)] at hj
        rw [g3]
        by_cases hin : off ≤ j ∧ j < off + av.cells.length
        · rw [if_pos hin] at hj
          rw [if_pos (by omega)]
          exact v2 _ c hj
        · rw [if_neg hin] at hj
          rw [if_neg (by omega)]
          exact c2 j c hj
    · cases h

theorem run_places (l : List Field) (h : ∀ f ∈ l, ∃ i, P.info? f.type = some i) : (l.mapM (fun (f : Field) => (do pure (f.offset, ← Go.sizeOf f.type) : Sem (Nat × Nat)))).run P w = .ok (l.map fun f => (f.offset, P.cellsOf f.type)) w := by
  induction l with
  | nil => rfl
  | cons f l ih =>
    obtain ⟨i, hi⟩ := h f (by simp)
    have ih' := ih (fun g hg => h g (by simp [hg]))
    rw [List.mapM_cons]
    simp [Sem.run_bind, Go.sizeOf, typeInfo, hi, Program.cellsOf] at ih' ⊢
    simp [ih']

theorem okParts_some {fs : Array Field} : ∀ {l : List (Nat × Operand)} {m : List (Nat × Nat × SX)}, okParts P num fs l m = true → l.length = m.length ∧ ∀ (k : Nat) (p : Nat × Operand) (q : Nat × Nat × SX), l[k]? = some p → m[k]? = some q →
    (∃ f i, fs[p.1]? = some f ∧ f.offset = q.1 ∧ P.info? f.type = some i ∧ i.size = q.2.1) ∧ okX num p.2 q.2.2 = true
  | [], [], _ => ⟨rfl, by simp⟩
  | [], _ :: _, h => by simp [okParts] at h
  | _ :: _, [], h => by simp [okParts] at h
  | (i, x) :: l, (off, size, y) :: m, h => by
    simp only [okParts, Bool.and_eq_true] at h
    obtain ⟨⟨h1, h2⟩, h3⟩ := h
    obtain ⟨h4, h5⟩ := okParts_some h3
    refine ⟨by simp [h4], fun k p q hp hq => ?_⟩
    cases k with
    | zero =>
      simp at hp hq; subst hp; subst hq
      refine ⟨?_, h2⟩
      split at h1
      · rename_i f hf
        simp only [Bool.and_eq_true, beq_iff_eq] at h1
        obtain ⟨i', hi', hs'⟩ := szIs_some h1.2
        exact ⟨f, i', hf, h1.1, hi', hs'⟩
      · cases h1
    | succ k => exact h5 k p q (by simpa using hp) (by simpa using hq)
theorem okElems_some {esz : Nat} : ∀ {l : List (Nat × Operand)} {m : List (Nat × Nat × SX)}, okElems num esz l m = true → l.length = m.length ∧ ∀ (k : Nat) (p : Nat × Operand) (q : Nat × Nat × SX), l[k]? = some p → m[k]? = some q →
    (p.1 * esz = q.1 ∧ esz = q.2.1) ∧ okX num p.2 q.2.2 = true
  | [], [], _ => ⟨rfl, by simp⟩
  | [], _ :: _, h => by simp [okElems] at h
  | _ :: _, [], h => by simp [okElems] at h
  | (i, x) :: l, (off, size, y) :: m, h => by
    simp only [okElems, Bool.and_eq_true, beq_iff_eq] at h
    obtain ⟨⟨⟨h0, h1⟩, h2⟩, h3⟩ := h
    obtain ⟨h4, h5⟩ := okElems_some h3
    refine ⟨by simp [h4], fun k p q hp hq => ?_⟩
    cases k with
    | zero => simp at hp hq; subst hp; subst hq; exact ⟨⟨h0, h1.symm⟩, h2⟩
    | succ k => exact h5 k p q (by simpa using hp) (by simpa using hq)

theorem sound_build {t : TypeId} {parts : Array (Nat × Operand)} {z : List PV} {parts' : List (Nat × Nat × SX)} (ho : o.op = .build t parts)
    (hz : (match P.info? t with | some i => (match i.zero with | some v => okC v (.agg z) && z.all (·.one) && decide (v.cells.size = z.length) | none => false) | none => false) = true)
    (hM : (match P.underlying t with
      | some (.struct fs) => fs.all (fun f => (P.info? f.type).isSome) && okParts P num fs parts.toList parts'
      | some (.array _ e) => (match P.info? e with | some i => okElems num i.size parts.toList parts' | none => false)
      | _ => false) = true)
    (hT : ∀ q ∈ parts', TR num β hf w T a q.2.2.slots) (hH : HR num β hf w)
    (hs : step ext T H (.build z parts') = some (v, eff)) : Cont P num o a β hf w k0 v eff := by
  cases hi : P.info? t with
  | none => rw [hi] at hz; cases hz
  | some i =>
  rw [hi] at hz
  dsimp only at hz
  cases hzv : i.zero with
  | none => rw [hzv] at hz; cases hz
  | some zv =>
  rw [hzv] at hz
  simp only [Bool.and_eq_true, decide_eq_true_eq, List.all_eq_true] at hz
  obtain ⟨⟨hC, hone⟩, hsz⟩ := hz
  have hzr : VR num β hf w (.pv (.agg z)) zv := .pv (okC_pr hC)
  obtain ⟨z1, z2⟩ := hzr.cells rfl
  simp only [step, Option.map_eq_some_iff, Prod.mk.injEq] at hs
  obtain ⟨cs', hf', rfl, rfl⟩ := hs
  have hz0 : CellsVR num β hf w (z.map .pv) zv.cells := ⟨z1, z2⟩
  have hzero : (zeroValue t).run P w = .ok zv w := by simp [zeroValue, typeInfo, hi, hzv]
  have close : ∀ (place : Nat → Option (Nat × Nat)), (∀ (k : Nat) (p : Nat × Operand) (q : Nat × Nat × SX), parts.toList[k]? = some p → parts'[k]? = some q → place p.1 = some (q.1, q.2.1) ∧ okX num p.2 q.2.2 = true) → parts.toList.length = parts'.length →
      (∀ cells', Instr.fill place zv.cells (parts.map fun (i, x) => (i, a.eval x)).toList = some cells' → (Instr.build t (parts.map fun (i, x) => (i, a.eval x))).run P w = .ok (.agg cells') w) → Cont P num o a β hf w k0 (mkAgg cs') .none := by
    intro place hpl hlen hb
    obtain ⟨cells', g1, g2, g3⟩ := fill_rel (num := num) (β := β) (hf := hf) (w := w) (place := place) (parts.map fun (i, x) => (i, a.eval x)).toList (parts'.map fun (o, s, x) => (o, s, x.ev T)) zv.cells (z.map .pv) cs' (by simpa using hlen)
      (fun k p q hp hq => by
        simp only [Array.toList_map, List.getElem?_map, Option.map_eq_some_iff] at hp hq
        obtain ⟨p0, hp0, rfl⟩ := hp
        obtain ⟨q0, hq0, rfl⟩ := hq
        obtain ⟨h1, h2⟩ := hpl k p0 q0 hp0 hq0
        exact ⟨h1, ev_ok h2 (hT q0 (List.mem_of_getElem? hq0))⟩) hz0 hf'
    refine cont_value (r := .agg cells') ?_ (mkAgg_vr g2 (fun c hc => ?_) (fun j c u hj hu => ?_)) hH
    · simp [execOp, ho, hb cells' g1]
    · obtain ⟨j, hj⟩ := List.getElem?_of_mem hc
      exact (g3 j c hj).1
    · obtain ⟨_, u', h1, _, h2⟩ := g3 j c hj
      rw [hu] at h1; injection h1 with h1; subst h1; exact h2
  split at hM
  · rename_i fs hu
    simp only [Bool.and_eq_true] at hM
    obtain ⟨hall, hM⟩ := hM
    obtain ⟨hlen, hp⟩ := okParts_some hM
    have hall' : ∀ f ∈ fs.toList, ∃ i, P.info? f.type = some i := fun f hf' => by
      have := Array.all_eq_true_iff_forall_mem.1 hall f (by simpa using hf')
      exact Option.isSome_iff_exists.1 this
    have hpl := run_places (P := P) (w := w) fs.toList hall'
    have hpl' : (fs.mapM (fun (f : Field) => (do pure (f.offset, ← Go.sizeOf f.type) : Sem (Nat × Nat)))).run P w = .ok (fs.map fun f => (f.offset, P.cellsOf f.type)) w := by
      rw [Array.mapM_eq_mapM_toList]
      simp only [map_eq_pure_bind, Sem.run_bind]
      rw [hpl]
      simp only [Result.andThen_ok, Sem.run_pure]
      congr 1
      apply Array.toList_inj.1
      simp
    refine close (fun i => (fs.map fun f => (f.offset, P.cellsOf f.type))[i]?) (fun k p q h1 h2 => ?_) hlen (fun cells' hfill => ?_)
    · obtain ⟨⟨f, fi, e1, e2, e3, e4⟩, e5⟩ := hp k p q h1 h2
      exact ⟨by simp [e1, e2, Program.cellsOf, e3, e4], e5⟩
    · simp only [Instr.build, Sem.run_bind, hzero, run_underlying hu, Result.andThen_ok, hpl']
      simp at hfill
      simp [hfill]
  · rename_i n e hu
    cases hie : P.info? e with
    | none => rw [hie] at hM; cases hM
    | some ie =>
      rw [hie] at hM
      obtain ⟨hlen, hp⟩ := okElems_some hM
      refine close (fun i => some (i * ie.size, ie.size)) (fun k p q h1 h2 => ?_) hlen (fun cells' hfill => ?_)
      · obtain ⟨⟨e1, e2⟩, e3⟩ := hp k p q h1 h2
        exact ⟨by rw [e1, ← e2], e3⟩
      · simp at hfill
        simp [Instr.build, hzero, run_underlying hu, Go.sizeOf, typeInfo, hie, hfill]
  · cases hM
end Dk
