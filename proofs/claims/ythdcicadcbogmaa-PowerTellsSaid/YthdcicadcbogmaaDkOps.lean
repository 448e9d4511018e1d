/- One operation of loaded code does what the abstract machine's does. -/
import Derived.Test.YthdcicadcbogmaaDkRel
import Derived.Test.YthdcicadcbogmaaDkMatch
import Derived.WalkKit
set_option linter.all false
namespace Dk
open Go

variable {P : Program} {num : Nat → FuncId} {β : Bet} {hf : Nat → Option Blk} {w : World} {T : Slots} {a : Act} {H : Heap} {o : Oper} {k0 : Nat}

def Eff.news (e : Eff) (k0 k : Nat) : Prop :=
  match e with
  | .push _ => k = k0
  | .heap H' => k0 ≤ k ∧ k < H'.length
  | _ => False

theorem onF_put {bk b : Blk} {k : Nat} (hk : hf k = some bk) : (Eff.put k b).onF k0 hf = fun j => if j = k then some b else hf j := by
  funext j
  simp [Eff.onF, hk]

def Cont (P : Program) (num : Nat → FuncId) (o : Oper) (a : Act) (β : Bet) (hf : Nat → Option Blk) (w : World) (k0 : Nat) (v : AV) (eff : Eff) : Prop :=
  ∀ (K : Act → World → Prop) (Q : Exit → Act → World → Prop),
    (∀ r β' w', Goes β hf w β' (eff.onF k0 hf) w' → HR num β' (eff.onF k0 hf) w' → VR num β' (eff.onF k0 hf) w' v r → (∀ k, β' k ≠ none → β k ≠ none ∨ eff.news k0 k) → K (a.put o.dst r) w') → o.wp P a w K Q

theorem cont_value {r : Value} {v : AV} (hr : (execOp a.eval o).run P w = .ok (.value r) w) (hv : VR num β hf w v r) (hH : HR num β hf w) : Cont P num o a β hf w k0 v .none := by
  intro K Q h
  unfold Oper.wp
  rw [hr]
  exact h r β w (Goes.refl _ _ _) hH hv (fun k hk => .inl hk)

theorem okC1_pr {X : Nat → Prop} {v : Value} {p : PV} (h : okC1 v p = true) : PR num w X p v ∧ p.one = true := by
  unfold okC1 at h
  split at h
  · simp at h; subst h; exact ⟨.bool _, rfl⟩
  · simp at h; obtain ⟨rfl, rfl⟩ := h; exact ⟨.int _ _, rfl⟩
  · rename_i a b
    simp at h
    have : a = b := by
      cases a; cases b
      simp at h; congr 1
    subst this; exact ⟨.str _, rfl⟩
  · exact ⟨.nilp, rfl⟩
  · exact ⟨.nils, rfl⟩
  · exact ⟨.nilfn, rfl⟩
  · cases h
theorem okCl_pr {X : Nat → Prop} : ∀ {vs : List Value} {ps : List PV}, okCl vs ps = true → ps.length = vs.length ∧ (∀ p ∈ ps, p.one = true) ∧ ∀ (i : Nat) (p : PV) (v : Value), ps[i]? = some p → vs[i]? = some v → PR num w X p v
  | [], [], _ => ⟨rfl, by simp, by simp⟩
  | [], _ :: _, h => by simp [okCl] at h
  | _ :: _, [], h => by simp [okCl] at h
  | v :: vs, p :: ps, h => by
    simp only [okCl, Bool.and_eq_true] at h
    obtain ⟨h1, h2⟩ := h
    obtain ⟨h3, h4, h5⟩ := okCl_pr (X := X) h2
    obtain ⟨h6, h7⟩ := okC1_pr (num := num) (w := w) (X := X) h1
    refine ⟨by simp [h3], by simp [h7]; exact h4, fun i q u hq hu => ?_⟩
    cases i with
    | zero => simp at hq hu; subst hq; subst hu; exact h6
    | succ i => simp at hq hu; exact h5 i q u hq hu
theorem okC_pr {X : Nat → Prop} {v : Value} {p : PV} (h : okC v p = true) : PR num w X p v := by
  unfold okC at h
  split at h
  · obtain ⟨h1, h2, h3⟩ := okCl_pr (num := num) (w := w) (X := X) h
    exact .agg _ (by simpa using h1) h2 (fun i p v hp hv => h3 i p v hp (by simpa using hv))
  · obtain ⟨h1, h2, h3⟩ := okCl_pr (num := num) (w := w) (X := X) h
    exact .tup _ (by simpa using h1) (fun i p v hp hv => h3 i p v hp (by simpa using hv))
  · exact (okC1_pr h).1

/-- The slots that an operand names. -/
def SX.slots : SX → List Nat
  | .t n => [n]
  | .c _ => []
/-- What the slots hold. -/
def TR (num : Nat → FuncId) (β : Bet) (hf : Nat → Option Blk) (w : World) (T : Slots) (a : Act) (ts : List Nat) : Prop :=
  ∀ t ∈ ts, VR num β hf w (T.get t) (a.tmps.getD t undef)
theorem ev_ok {x : Operand} {y : SX} (h : okX num x y = true) (hT : TR num β hf w T a y.slots) : VR num β hf w (y.ev T) (a.eval x) := by
  unfold okX at h
  split at h
  · simp at h; subst h
    exact hT _ (by simp [SX.slots])
  · exact .pv (okC_pr h)
  · simp at h; subst h
    exact .pv (.fn _)
  · cases h

theorem VR.undef : VR num β hf w (.pv .undef) undef := .pv (.tup #[] rfl (fun i p v h _ => by simp at h))

theorem pvs_some : ∀ {l : List AV} {ps : List PV}, pvs l = some ps → l = ps.map .pv
  | [], ps, h => by simp [pvs] at h; subst h; rfl
  | .pv p :: l, ps, h => by
    simp only [pvs, Option.map_eq_some_iff] at h
    obtain ⟨qs, h1, rfl⟩ := h
    rw [pvs_some h1]; rfl
  | .ptr .. :: _, _, h => by simp [pvs] at h
  | .sl .. :: _, _, h => by simp [pvs] at h
  | .asl .. :: _, _, h => by simp [pvs] at h
  | .rp .. :: _, _, h => by simp [pvs] at h
  | .agg .. :: _, _, h => by simp [pvs] at h
  | .tup .. :: _, _, h => by simp [pvs] at h
  | .fn .. :: _, _, h => by simp [pvs] at h
  | .unk :: _, _, h => by simp [pvs] at h
theorem pvs_map : ∀ (ps : List PV), pvs (ps.map .pv) = some ps
  | [] => rfl
  | p :: ps => by simp [pvs, pvs_map ps]
theorem mkAgg_map (ps : List PV) : mkAgg (ps.map .pv) = .pv (.agg ps) := by simp [mkAgg, pvs_map]

theorem mkAgg_vr {l : List AV} {vs : Array Value} (hl : l.length = vs.size) (h1 : ∀ c ∈ l, c.one = true) (h : ∀ (i : Nat) (c : AV) (v : Value), l[i]? = some c → vs[i]? = some v → VR num β hf w c v) :
    VR num β hf w (mkAgg l) (.agg vs) := by
  unfold mkAgg
  split
  · rename_i ps hp
    have e := pvs_some hp
    subst e
    refine .pv (.agg vs (by simpa using hl) (fun p hp => h1 (.pv p) (List.mem_map_of_mem hp)) (fun i p v hi hv => ?_))
    have h2 := h i (.pv p) v (by simp [hi]) hv
    cases h2 with
    | pv h2 => exact h2
  · exact .agg vs hl h1 h
theorem mkTup_vr {l : List AV} {vs : Array Value} (hl : l.length = vs.size) (h : ∀ (i : Nat) (c : AV) (v : Value), l[i]? = some c → vs[i]? = some v → VR num β hf w c v) :
    VR num β hf w (mkTup l) (.tuple vs) := by
  unfold mkTup
  split
  · rename_i ps hp
    have e := pvs_some hp
    subst e
    refine .pv (.tup vs (by simpa using hl) (fun i p v hi hv => ?_))
    have h2 := h i (.pv p) v (by simp [hi]) hv
    cases h2 with
    | pv h2 => exact h2
  · exact .tup vs hl h
theorem mkAgg_okc (l : List AV) : (mkAgg l).okc = true := by
  unfold mkAgg; split <;> rfl
theorem mkAgg_cells (l : List AV) : (mkAgg l).cells = l := by
  unfold mkAgg
  split
  · rename_i ps hp; simp [AV.cells, PV.cells, pvs_some hp]
  · rfl

theorem read_none {e r : AV} {off : Nat} (h : e.read none off = some r) : e.cells[off]? = some r := by
  cases e with
  | pv p =>
    simp only [AV.read, PV.read, Option.map_eq_some_iff] at h
    obtain ⟨q, h1, rfl⟩ := h
    simp [AV.cells, h1]
  | agg l => simpa [AV.read, AV.cells] using h
  | _ => simp [AV.read] at h; obtain ⟨rfl, rfl⟩ := h; rfl
theorem read_some {e r : AV} {off n : Nat} (h : e.read (some n) off = some r) : off + n ≤ e.cells.length ∧ r = mkAgg ((e.cells.drop off).take n) := by
  cases e with
  | pv p =>
    cases p with
    | agg l =>
      simp only [AV.read, PV.read] at h
      split at h
      · rename_i hle
        simp at h; subst h
        refine ⟨by simpa [AV.cells, PV.cells] using hle, ?_⟩
        simp only [AV.cells, PV.cells, ← List.map_drop, ← List.map_take, mkAgg_map]
      · simp at h
    | _ => simp [AV.read, PV.read] at h
  | agg l =>
    simp only [AV.read] at h
    split at h
    · rename_i hle
      simp at h; subst h
      exact ⟨hle, rfl⟩
    · simp at h
  | _ => simp [AV.read] at h

/-- Cells that lie in block b from o on. -/
def At (num : Nat → FuncId) (β : Bet) (hf : Nat → Option Blk) (w : World) (b o : Nat) (cs : List AV) : Prop :=
  ∀ (j : Nat) (c : AV), cs[j]? = some c → c.one = true ∧ ∃ u, w.cell? ⟨b, o + j, none⟩ = some u ∧ u.oneCell' = true ∧ VR num β hf w c u

theorem BR.at {b : Nat} {bk : Blk} (h : BR num β hf w b bk) {i : Nat} {e : AV} (he : bk.es[i]? = some e) : e.okc = true ∧ e.cells.length = bk.sz ∧ At num β hf w b (i * bk.sz) e.cells := by
  obtain ⟨cs, T, hb, _, h2⟩ := h.cells
  obtain ⟨h3, h4, h5⟩ := h2 i e he
  refine ⟨h3, h4, fun j c hj => ?_⟩
  obtain ⟨h6, u, h7, h8, h9⟩ := h5 j c hj
  exact ⟨h6, u, by simp [World.cell?, hb, h7], h8, h9⟩

theorem run_load_one {t : TypeId} {b off : Nat} {u : Value} (hM : okM P t none = true) (hc : w.cell? ⟨b, off, none⟩ = some u) :
    (Instr.loadAt t (.pointer (some ⟨b, off, none⟩))).run P w = .ok u w := by
  simp only [okM, Bool.and_eq_true, plainT] at hM
  obtain ⟨hp, _⟩ := hM
  cases hd : P.underlying t with
  | none => rw [hd] at hp; simp at hp
  | some d =>
    have hag : (isAgg t).run P w = .ok false w := by
      unfold isAgg
      rw [Sem.run_bind, run_underlying hd w]
      rw [hd] at hp
      cases d <;> simp_all
    simp only [Instr.loadAt, Instr.sureAddr, loadVar, Sem.run_bind, Sem.run_pure, Result.andThen_ok, hag]
    simp [load, Sem.run, hc]

theorem run_load_many {t : TypeId} {b off n : Nat} {vs : List Value} (hM : okM P t (some n) = true) (hl : vs.length = n) (hc : w.rangeAt b off vs) :
    (Instr.loadAt t (.pointer (some ⟨b, off, none⟩))).run P w = .ok (.agg vs.toArray) w := by
  simp only [okM, Bool.and_eq_true, aggT, szIs] at hM
  obtain ⟨hp, hs⟩ := hM
  cases hd : P.underlying t with
  | none => rw [hd] at hp; simp at hp
  | some d =>
    refine run_loadAt_mid w b off t vs d hc hd (by rw [hd] at hp; cases d <;> simp_all) ?_
    cases hi : P.info? t with
    | none => rw [hi] at hs; simp at hs
    | some i => rw [hi] at hs; simp at hs; simp [hs, hl]

theorem At.vals {b o : Nat} {cs : List AV} (h : At num β hf w b o cs) : ∃ vs : List Value, vs.length = cs.length ∧ w.rangeAt b o vs ∧ vs.all (·.oneCell') = true ∧ ∀ (i : Nat) (c : AV) (v : Value), cs[i]? = some c → vs[i]? = some v → VR num β hf w c v := by
  induction cs generalizing o with
  | nil => exact ⟨[], rfl, fun j v hj => by simp at hj, rfl, fun i c v hi => by simp at hi⟩
  | cons c cs ih =>
    obtain ⟨_, u, hu, hone, hv⟩ := h 0 c rfl
    obtain ⟨vs, h1, h2, h3, h4⟩ := ih (o := o + 1) (fun j c' hj => by have := h (j + 1) c' (by simpa using hj); rwa [show o + (j + 1) = o + 1 + j by omega] at this)
    refine ⟨u :: vs, by simp [h1], fun j v hj => ?_, by simp [hone]; simpa using h3, fun i c' v hi hv' => ?_⟩
    · cases j with
      | zero => simp at hj; subst hj; exact hu
      | succ j => have := h2 j v (by simpa using hj); rwa [show o + (j + 1) = o + 1 + j by omega]
    · cases i with
      | zero => simp at hi hv'; subst hi; subst hv'; exact hv
      | succ i => exact h4 i c' v (by simpa using hi) (by simpa using hv')

theorem At.sub {b o : Nat} {cs : List AV} (h : At num β hf w b o cs) (off n : Nat) : At num β hf w b (o + off) ((cs.drop off).take n) := by
  intro j c hj
  rw [List.getElem?_take] at hj
  split at hj
  · rw [List.getElem?_drop] at hj
    obtain ⟨h1, u, h2⟩ := h (off + j) c hj
    exact ⟨h1, u, by rw [show o + off + j = o + (off + j) by omega]; exact h2⟩
  · cases hj

/-- A load, of whatever lies there. -/
theorem run_load {t : TypeId} {m : Option Nat} {b o off : Nat} {e r : AV} (hM : okM P t m = true) (hat : At num β hf w b o e.cells) (hr : e.read m off = some r) :
    ∃ u, (Instr.loadAt t (.pointer (some ⟨b, o + off, none⟩))).run P w = .ok u w ∧ VR num β hf w r u := by
  cases m with
  | none =>
    obtain ⟨_, u, hu, _, hv⟩ := hat off r (read_none hr)
    exact ⟨u, run_load_one hM hu, hv⟩
  | some n =>
    obtain ⟨hle, rfl⟩ := read_some hr
    have hs := hat.sub off n
    obtain ⟨vs, h1, h2, _, h4⟩ := hs.vals
    have hlen : vs.length = n := by rw [h1]; simp; omega
    refine ⟨_, run_load_many hM hlen h2, mkAgg_vr (by simp [h1]) (fun c hc => ?_) (fun i c v hi hv => h4 i c v hi (by simpa using hv))⟩
    obtain ⟨j, hj⟩ := List.getElem?_of_mem hc
    exact (hs j c hj).1

def Agree (β : Bet) (hf : Nat → Option Blk) (H : Heap) (ks : List Nat) : Prop := ∀ k ∈ ks, ∀ b, β k = some b → hf k = H[k]?

theorem good_some {k len : Nat} {bk : Blk} (h : good H k len = some bk) : H[k]? = some bk ∧ bk.es.length = len := by
  unfold good at h
  split at h
  · split at h
    · rename_i b hb hl; injection h with h; subst h; exact ⟨hb, hl⟩
    · cases h
  · cases h

/-- What a good pointer leads to. -/
theorem ptr_at {k len i off : Nat} {v : Value} {bk : Blk} (hH : HR num β hf w) (hA : Agree β hf H [k]) (h : VR num β hf w (.ptr k len i off) v) (hg : good H k len = some bk) :
    ∃ b, β k = some b ∧ hf k = some bk ∧ v = .pointer (some ⟨b, i * bk.sz + off, none⟩) ∧ BR num β hf w b bk := by
  cases h with
  | ptr b blk hb hk hle h1 h =>
    obtain ⟨h2, h3⟩ := good_some hg
    have h4 := hA k (by simp) b hb
    rw [hk, h2] at h4; injection h4 with h4; subst h4
    obtain ⟨bk', h5, h6⟩ := hH.blk k b hb
    rw [hk] at h5; injection h5 with h5; subst h5
    exact ⟨b, hb, hk, h h3, h6⟩

theorem sound_load {t : TypeId} {m : Option Nat} {x : Operand} {y : SX} {ext : Ext} {v : AV} {eff : Eff} (ho : o.op = .load t x) (hM : okM P t m = true) (hx : VR num β hf w (y.ev T) (a.eval x))
    (hH : HR num β hf w) (hA : Agree β hf H (refs (y.ev T))) (hs : step ext T H (.load m y) = some (v, eff)) : Cont P num o a β hf w k0 v eff := by
  have hexec : ∀ u, (Instr.loadAt t (a.eval x)).run P w = .ok u w → (execOp a.eval o).run P w = .ok (.value u) w := fun u hu => by
    simp [execOp, ho, hu]
  simp only [step] at hs
  split at hs
  · rename_i k len i off hy
    rw [hy] at hx hA
    split at hs
    · rename_i bk hg
      split at hs
      · rename_i e he
        simp at hs; obtain ⟨r, hr, rfl, rfl⟩ := hs
        obtain ⟨b, hb, hk, hv, hB⟩ := ptr_at hH hA hx hg
        obtain ⟨h1, h2, h3⟩ := hB.at he
        obtain ⟨u, hu, hvr⟩ := run_load hM h3 hr
        rw [← hv] at hu
        exact cont_value (hexec u hu) hvr hH
      · cases hs
    · cases hs
  · rename_i p off hy
    rw [hy] at hx
    simp at hs; obtain ⟨r, hr, rfl, rfl⟩ := hs
    cases hx with
    | rp b o u hv hX hlt hok hcell hrel =>
      have hat : At num β hf w b o (AV.pv p).cells := fun j c hj => by
        simp only [AV.cells, List.getElem?_map, Option.map_eq_some_iff] at hj
        obtain ⟨q, hq, rfl⟩ := hj
        obtain ⟨h1, h2⟩ := hcell j q hq
        exact ⟨h1, u j, h2, (hrel j q hq).one_cell h1, .pv (hrel j q hq)⟩
      obtain ⟨z, hz, hvr⟩ := run_load (e := .pv p) hM hat (r := .pv r) (off := off) (by simp [AV.read, hr])
      rw [← hv] at hz
      exact cont_value (hexec z hz) hvr hH
  · cases hs

-- one block is another one: a store
theorem goes_put {k b : Nat} {bk bk' : Blk} {w' : World} (hH : HR num β hf w) (hb : β k = some b) (hk : hf k = some bk) (hfz : bk.fz = false) (hsz : bk'.sz = bk.sz) (hfz' : bk'.fz = false) (hlen : bk.es.length ≤ bk'.es.length)
    (hos : w'.os = w.os) (htape : w'.tape = w.tape) (hout : w'.output = w.output) (hsize : w'.heap.size = w.heap.size) (hoth : ∀ c, c ≠ b → w'.heap[c]? = w.heap[c]?)
    (hroom : ∀ cs T, w.heap[b]? = some (.cells cs T (0, 0)) → ∃ cs' T', w'.heap[b]? = some (.cells cs' T' (0, 0)) ∧ cs.size ≤ cs'.size) :
    Goes β hf w β (fun j => if j = k then some bk' else hf j) w' := by
  refine ⟨hos, htape, hout, by omega, ?_, fun j c h => ⟨c, h⟩, fun j c h _ => h, ?_, fun j c x y h _ _ _ => h, ?_, rfl⟩
  · intro c hc hX
    refine hoth c fun e => ?_
    subst e
    obtain ⟨x, hx, hx2⟩ := hX k hb
    rw [hk] at hx; injection hx with hx; subst hx
    rw [hfz] at hx2; cases hx2
  · intro j c x hj hx
    by_cases e : j = k
    · subst e
      rw [hk] at hx; injection hx with hx; subst hx
      exact ⟨bk', by simp, hsz, by omega, fun h => by rw [hfz] at h; cases h⟩
    · exact ⟨x, by simp [e, hx], rfl, Nat.le_refl _, id⟩
  · intro j c cs T h _ hc
    by_cases e : c = b
    · subst e; exact hroom cs T hc
    · exact ⟨cs, T, by rw [hoth c e]; exact hc, Nat.le_refl _⟩

theorem setCell_heap (w : World) (b o : Nat) (v : Value) (cs : Array Value) (t : TypeId) (hb : w.heap[b]? = some (.cells cs t (0, 0))) :
    (∀ c, c ≠ b → (w.setCell ⟨b, o, none⟩ v).heap[c]? = w.heap[c]?) ∧ (w.setCell ⟨b, o, none⟩ v).heap[b]? = some (.cells (cs.setIfInBounds o v) t (0, 0)) ∧ (w.setCell ⟨b, o, none⟩ v).heap.size = w.heap.size := by
  refine ⟨fun c hc => ?_, ?_, ?_⟩
  · simp [World.setCell, Array.getElem?_modify, Ne.symm hc]
  · simp [World.setCell, Array.getElem?_modify, hb]
  · simp [World.setCell]

theorem setCells_heap : ∀ (vs : List Value) (w : World) (b o : Nat) (cs : Array Value) (t : TypeId) (_ : w.heap[b]? = some (.cells cs t (0, 0))),
    (w.setCells b o vs).os = w.os ∧ (w.setCells b o vs).tape = w.tape ∧ (w.setCells b o vs).output = w.output ∧ (w.setCells b o vs).heap.size = w.heap.size ∧
    (∀ c, c ≠ b → (w.setCells b o vs).heap[c]? = w.heap[c]?) ∧
    ∃ cs', (w.setCells b o vs).heap[b]? = some (.cells cs' t (0, 0)) ∧ cs'.size = cs.size ∧ ∀ j, cs'[j]? = if o ≤ j ∧ j < o + vs.length ∧ j < cs.size then vs[j - o]? else cs[j]?
  | [], w, b, o, cs, t, hb => ⟨rfl, rfl, rfl, rfl, fun _ _ => rfl, cs, hb, rfl, fun j => by
      have : ¬ (o ≤ j ∧ j < o + ([] : List Value).length ∧ j < cs.size) := by simp; omega
      rw [if_neg this]⟩
  | v :: vs, w, b, o, cs, t, hb => by
    obtain ⟨h1, h2, h3⟩ := setCell_heap w b o v cs t hb
    obtain ⟨g1, g2, g3, g4, g5, cs', g6, g7, g8⟩ := setCells_heap vs (w.setCell ⟨b, o, none⟩ v) b (o + 1) (cs.setIfInBounds o v) t h2
    refine ⟨g1, g2, g3, g4.trans h3, fun c hc => (g5 c hc).trans (h1 c hc), cs', g6, by simpa using g7, fun j => ?_⟩
    rw [g8]
    simp only [Array.size_setIfInBounds, List.length_cons]
    by_cases hj : j < cs.size
    · by_cases e : j = o
      · subst e
        rw [if_neg (by omega), if_pos (by omega)]
        simp [hj]
      · by_cases hr : o + 1 ≤ j ∧ j < o + 1 + vs.length
        · rw [if_pos (by omega), if_pos (by omega), show j - o = (j - (o + 1)) + 1 by omega]
          rfl
        · rw [if_neg (by omega), if_neg (by omega)]
          simp [Array.getElem?_setIfInBounds, Ne.symm e]
    · rw [if_neg (by omega), if_neg (by omega)]
      rw [Array.getElem?_eq_none (by simp; omega), Array.getElem?_eq_none (by omega)]

theorem cells_one {e : AV} (h : e.isAgg = false) : e.cells = [e] := by
  cases e with
  | pv p => cases p <;> simp_all [AV.isAgg, AV.cells, PV.cells]
  | agg l => simp [AV.isAgg] at h
  | _ => rfl
theorem one_cells {e : AV} (h : e.one = true) : e.cells = [e] := by
  refine cells_one ?_
  cases e with
  | pv p => cases p <;> simp_all [AV.isAgg, AV.one, PV.one]
  | agg l => simp [AV.one] at h
  | _ => rfl
theorem agg_okc {e : AV} (h : e.isAgg = true) : e.okc = true := by
  cases e with
  | pv p => cases p <;> simp_all [AV.isAgg, AV.okc, PV.okc]
  | agg l => rfl
  | _ => simp [AV.isAgg] at h

/-- A value that fits a variable. -/
def fits (m : Option Nat) (v : AV) : Prop := match m with | none => v.one = true | some n => v.isAgg = true ∧ v.cells.length = n
theorem write_cells {e e' v : AV} {m : Option Nat} {off : Nat} (h : e.write m off v = some e') :
    e'.okc = true ∧ e'.cells = spliceAt e.cells off v.cells ∧ off + v.cells.length ≤ e.cells.length ∧ v.okc = true ∧ fits m v := by
  cases m with
  | none =>
    simp only [AV.write] at h
    split at h
    · cases h
    · rename_i h1
      have h1 : v.one = true := by simpa using h1
      have hvc := one_cells h1
      split at h
      · split at h
        · rename_i hag hlt
          have hset : ∀ (l : List AV) (x : AV), off < l.length → l.set off x = spliceAt l off [x] := fun l x hl => by
            simp only [spliceAt, List.length_singleton]
            rw [List.set_eq_take_append_cons_drop, if_pos hl]
            simp
          split at h
          · rename_i l x
            injection h with h; subst h
            refine ⟨rfl, ?_, ?_, AV.one_okc h1, h1⟩
            · rw [hvc, ← hset _ _ hlt]
              simp [AV.cells, PV.cells, List.map_set]
            · rw [hvc]; simp only [List.length_singleton]; omega
          · injection h with h; subst h
            refine ⟨mkAgg_okc _, ?_, ?_, AV.one_okc h1, h1⟩
            · rw [mkAgg_cells, hvc, ← hset _ _ hlt]
            · rw [hvc]; simp only [List.length_singleton]; omega
        · cases h
      · rename_i hag
        split at h
        · rename_i h0
          injection h with h; subst h; subst h0
          refine ⟨AV.one_okc h1, ?_, ?_, AV.one_okc h1, h1⟩
          · rw [hvc, cells_one (by simpa using hag)]; rfl
          · rw [hvc, cells_one (by simpa using hag)]; simp
        · cases h
  | some n =>
    simp only [AV.write] at h
    split at h
    · rename_i hc
      simp only [Bool.and_eq_true, decide_eq_true_eq] at hc
      obtain ⟨⟨⟨h1, h2⟩, h3⟩, h4⟩ := hc
      split at h
      · injection h with h; subst h
        refine ⟨rfl, ?_, by omega, agg_okc h1, h1, h3⟩
        simp [AV.cells, PV.cells, spliceAt, List.map_take, List.map_drop]
      · injection h with h; subst h
        exact ⟨mkAgg_okc _, mkAgg_cells _, by omega, agg_okc h1, h1, h3⟩
    · cases h

theorem splice_get {l xs : List AV} {off j : Nat} (hle : off + xs.length ≤ l.length) : (spliceAt l off xs)[j]? = if off ≤ j ∧ j < off + xs.length then xs[j - off]? else l[j]? := by
  unfold spliceAt
  have ht : (l.take off).length = off := by simp; omega
  by_cases h1 : j < off
  · rw [if_neg (by omega), List.append_assoc, List.getElem?_append_left (by omega), List.getElem?_take, if_pos h1]
  · by_cases h2 : j < off + xs.length
    · rw [if_pos (by omega), List.append_assoc, List.getElem?_append_right (by omega), List.getElem?_append_left (by rw [ht]; omega), ht]
    · rw [if_neg (by omega), List.getElem?_append_right (by simp; omega), List.getElem?_drop]
      congr 1
      simp; omega
theorem splice_length {l xs : List AV} {off : Nat} (hle : off + xs.length ≤ l.length) : (spliceAt l off xs).length = l.length := by
  simp [spliceAt]; omega

/-- A store runs. -/
theorem run_store {t : TypeId} {m : Option Nat} {b o : Nat} {v : AV} {u : Value} {cs : Array Value} {T : TypeId} (hM : okM P t m = true) (hb : w.heap[b]? = some (.cells cs T (0, 0)))
    (hv : VR num β hf w v u) (hok : v.okc = true) (hm : fits m v) (hle : o + v.cells.length ≤ cs.size) :
    (Instr.storeAt t (.pointer (some ⟨b, o, none⟩)) u).run P w = .ok () (w.setCells b o u.cells.toList) := by
  obtain ⟨h1, h2⟩ := hv.cells hok
  have hsz : ∃ i, P.info? t = some i ∧ i.size = u.cells.size := by
    cases m with
    | none =>
      simp only [okM, Bool.and_eq_true, szIs] at hM
      have hs := hM.2
      cases hi : P.info? t with
      | none => rw [hi] at hs; simp at hs
      | some i => rw [hi] at hs; simp at hs; exact ⟨i, rfl, by rw [hs, ← h1, one_cells (show v.one = true from hm)]; rfl⟩
    | some n =>
      simp only [okM, Bool.and_eq_true, szIs] at hM
      have hs := hM.2
      cases hi : P.info? t with
      | none => rw [hi] at hs; simp at hs
      | some i => rw [hi] at hs; simp at hs; exact ⟨i, rfl, by rw [hs, ← h1, (show v.isAgg = true ∧ v.cells.length = n from hm).2]⟩
  obtain ⟨i, hi, hsi⟩ := hsz
  have hrun := run_storeCells_cells (P := P) b o u.cells.toList 0 w (fun j hj => by
      simp only [World.cell?, hb]
      have hj2 : o + 0 + j < cs.size := by simp at hj; omega
      simp only [Option.isSome_none, Bool.false_eq_true, if_false]
      rw [Array.getElem?_eq_getElem hj2]; rfl) (fun j hj => by simp [World.frozen?, hb]) (fun x hx => by
      obtain ⟨j, hj⟩ := List.getElem?_of_mem hx
      have hj' : u.cells[j]? = some x := by simpa using hj
      have hlt : j < v.cells.length := by rw [h1]; exact (Array.getElem?_eq_some_iff.1 hj').1
      obtain ⟨_, y, hy, hone, _⟩ := h2 j v.cells[j] (List.getElem?_eq_getElem hlt)
      rw [hj'] at hy; injection hy with hy; subst hy; exact hone)
  simp only [Nat.add_zero] at hrun
  simp [Instr.storeAt, Instr.sureAddr, storeVar, Go.sizeOf, typeInfo, hi, hsi, hrun]

theorem sound_store {t : TypeId} {m : Option Nat} {x y : Operand} {x' y' : SX} {ext : Ext} {v : AV} {eff : Eff} (ho : o.op = .store t x y) (hM : okM P t m = true) (hx : VR num β hf w (x'.ev T) (a.eval x)) (hy : VR num β hf w (y'.ev T) (a.eval y))
    (hH : HR num β hf w) (hA : Agree β hf H (refs (x'.ev T))) (hs : step ext T H (.store m x' y') = some (v, eff)) : Cont P num o a β hf w k0 v eff := by
  simp only [step] at hs
  split at hs
  · rename_i k len i off hxe
    rw [hxe] at hx hA
    split at hs
    · rename_i bk hg
      split at hs
      · cases hs
      · rename_i hfz
        have hfz : bk.fz = false := by simpa using hfz
        split at hs
        · rename_i e he
          simp at hs; obtain ⟨e', he', rfl, rfl⟩ := hs
          obtain ⟨b, hb, hk, hpv, hB⟩ := ptr_at hH hA hx hg
          obtain ⟨cs, TT, hcs, hsize, hel⟩ := hB.cells
          obtain ⟨hok, hclen, hcell⟩ := hel i e he
          obtain ⟨w1, w2, w3, w4, w5⟩ := write_cells he'
          have hilt : i < bk.es.length := (List.getElem?_eq_some_iff.1 he).1
          have hib : (i + 1) * bk.sz ≤ bk.es.length * bk.sz := Nat.mul_le_mul_right _ hilt
          have hib' : (i + 1) * bk.sz = i * bk.sz + bk.sz := Nat.succ_mul i bk.sz
          have hrun := run_store (P := P) (t := t) (o := i * bk.sz + off) hM hcs hy w4 w5 (by omega)
          obtain ⟨c1, c2⟩ := hy.cells w4
          obtain ⟨g1, g2, g3, g4, g5, cs', g6, g7, g8⟩ := setCells_heap (a.eval y).cells.toList w b (i * bk.sz + off) cs TT hcs
          have hgo : Goes β hf w β (fun j => if j = k then some { bk with es := bk.es.set i e' } else hf j) (w.setCells b (i * bk.sz + off) (a.eval y).cells.toList) :=
            goes_put hH hb hk hfz rfl hfz (by simp) g1 g2 g3 g4 g5 (fun cs2 T2 h => by
              rw [hcs] at h; injection h with h; injection h with h h' h''; subst h; subst h'
              exact ⟨cs', TT, g6, by omega⟩)
          intro K Q hK
          rw [onF_put hk] at hK
          unfold Oper.wp
          have hex : (execOp a.eval o).run P w = .ok .skip (w.setCells b (i * bk.sz + off) (a.eval y).cells.toList) := by
            simp [execOp, ho, hpv, hrun]
          rw [hex]
          refine hK undef β _ hgo ?_ (hgo.vr VR.undef) (fun j hj => .inl hj)
          refine ⟨?_, ?_, fun c hc => hH.base c (by rw [← g4]; exact hc), hH.own⟩
          · intro j c hj
            by_cases hjk : j = k
            · subst hjk
              rw [hb] at hj; injection hj with hj; subst hj
              refine ⟨{ bk with es := bk.es.set i e' }, by simp, ⟨cs', TT, g6, by simp only [List.length_set]; omega, ?_⟩⟩
              intro i2 e2 he2
              simp only [List.getElem?_set] at he2
              have hcase : (i2 = i ∧ e2 = e') ∨ (i2 ≠ i ∧ bk.es[i2]? = some e2) := by
                by_cases hi : i = i2
                · subst hi; simp [hilt] at he2; exact .inl ⟨rfl, he2.symm⟩
                · simp [hi] at he2; exact .inr ⟨Ne.symm hi, he2⟩
              rcases hcase with ⟨rfl, rfl⟩ | ⟨hne, he3⟩
              · refine ⟨w1, by rw [w2, splice_length w3, hclen], fun j2 c2' hj2 => ?_⟩
                rw [w2, splice_get w3] at hj2
                have hj2lt : j2 < bk.sz := by
                  by_cases hin : off ≤ j2 ∧ j2 < off + (y'.ev T).cells.length
                  · omega
                  · rw [if_neg hin] at hj2
                    have := (List.getElem?_eq_some_iff.1 hj2).1
                    omega
                dsimp only
                rw [g8]
                by_cases hin : off ≤ j2 ∧ j2 < off + (y'.ev T).cells.length
                · rw [if_pos hin] at hj2
                  obtain ⟨d1, z, d2, d3, d4⟩ := c2 (j2 - off) c2' hj2
                  refine ⟨d1, z, ?_, d3, hgo.vr d4⟩
                  rw [if_pos ⟨by omega, by simp [← c1]; omega, by omega⟩]
                  rw [show i2 * bk.sz + j2 - (i2 * bk.sz + off) = j2 - off by omega]
                  simpa using d2
                · rw [if_neg hin] at hj2
                  obtain ⟨d1, z, d2, d3, d4⟩ := hcell j2 c2' hj2
                  refine ⟨d1, z, ?_, d3, hgo.vr d4⟩
                  rw [if_neg (by simp [← c1]; omega)]
                  exact d2
              · obtain ⟨f1, f2, f3⟩ := hel i2 e2 he3
                refine ⟨f1, f2, fun j2 c2' hj2 => ?_⟩
                obtain ⟨d1, z, d2, d3, d4⟩ := f3 j2 c2' hj2
                refine ⟨d1, z, ?_, d3, hgo.vr d4⟩
                dsimp only
                rw [g8, if_neg ?_]
                · exact d2
                · have hj2lt : j2 < bk.sz := by rw [← f2]; exact (List.getElem?_eq_some_iff.1 hj2).1
                  simp only [Array.length_toList, ← c1]
                  intro hh
                  rcases Nat.lt_or_gt_of_ne hne with hlt | hlt
                  · have := Nat.mul_le_mul_right bk.sz (show i2 + 1 ≤ i from hlt)
                    rw [Nat.succ_mul] at this; omega
                  · have := Nat.mul_le_mul_right bk.sz (show i + 1 ≤ i2 from hlt)
                    rw [Nat.succ_mul] at this; omega
            · obtain ⟨bj, hbj, hBj⟩ := hH.blk j c hj
              have hcb : c ≠ b := fun e => hjk (hH.inj j k b (e ▸ hj) hb)
              obtain ⟨cs3, T3, h31, h32, h33⟩ := hBj.cells
              refine ⟨bj, by simp [hjk, hbj], ⟨cs3, T3, by rw [g5 c hcb]; exact h31, h32, fun i2 e2 he2 => ?_⟩⟩
              obtain ⟨f1, f2, f3⟩ := h33 i2 e2 he2
              exact ⟨f1, f2, fun j2 c2' hj2 => let ⟨d1, z, d2, d3, d4⟩ := f3 j2 c2' hj2; ⟨d1, z, d2, d3, hgo.vr d4⟩⟩
          · exact hH.inj
        · cases hs
    · cases hs
  · cases hs
end Dk
