/- What is known of a table of functions; a call does what the table says. -/
import Derived.Test.YthdcicadcbogmaaDkOps10
set_option linter.all false
namespace Dk
open Go Go.RowKit
variable {P : Program} {num : Nat → FuncId} {β : Bet} {hf : Nat → Option Blk} {w : World} {T : Slots} {a : Act} {H : Heap} {o : Oper} {k0 : Nat} {ext : Ext} {v : AV} {eff : Eff}

/-- A function of values that are only read: whatever the world and whatever blocks are never written, it returns what g says, and changes nothing that was there. -/
def SoundP (P : Program) (num : Nat → FuncId) (f : FuncId) (g : List AV → Option PV) : Prop :=
  ∀ (args : List AV) (r : PV), g args = some r → ∀ (w : World) (X : Nat → Prop) (vs : Array Value), args.length = vs.size → (∀ (i : Nat) (a : AV) (u : Value), args[i]? = some a → vs[i]? = some u → VR num ⟨fun _ => none, X⟩ (fun _ => none) w a u) →
    Calls P f vs w (fun e w' => ∃ v, e = .returned v ∧ Below w.heap.size w w' ∧ PR num w' (fun b => X b ∨ w.heap.size ≤ b) r v)

/-- A function that is handed references. -/
def SoundI (P : Program) (num : Nat → FuncId) (f : FuncId) (g : List AV → Heap → Option (AV × Heap)) : Prop :=
  ∀ (args : List AV) (H : Heap) (v : AV) (H' : Heap), g args H = some (v, H') → ∀ (β : Bet) (hf : Nat → Option Blk) (w : World) (vs : Array Value), (∀ k b, β k = some b → hf k = H[k]?) → HR num β hf w → args.length = vs.size →
    (∀ (i : Nat) (a : AV) (u : Value), args[i]? = some a → vs[i]? = some u → VR num β hf w a u) →
    Calls P f vs w (fun e w' => ∃ r β', e = .returned r ∧ Goes β hf w β' (fun k => H'[k]?) w' ∧ HR num β' (fun k => H'[k]?) w' ∧ VR num β' (fun k => H'[k]?) w' v r ∧ ∀ k, β' k ≠ none → β k ≠ none ∨ (H.length ≤ k ∧ k < H'.length))

structure ExtOK (P : Program) (num : Nat → FuncId) (ext : Ext) : Prop where
  p : ∀ n g, ext.p n = some g → bodyIs P (num n) = true ∧ SoundP P num (num n) g
  i : ∀ n g, ext.i n = some g → bodyIs P (num n) = true ∧ SoundI P num (num n) g

theorem run_callFunc {f : FuncId} {args : Array Value} (h : bodyIs P f = true) : (callFunc f args).run P w = .ok (.enter f args) w := by
  unfold bodyIs at h
  split at h
  · rename_i fn hfn
    simp only [Bool.and_eq_true, bne_iff_ne, ne_eq] at h
    obtain ⟨h1, h2⟩ := h
    have hp : ∀ w : World, (program : Sem Program).run P w = .ok P w := fun _ => rfl
    have h3 : fn.body ≠ none := fun e => by rw [e] at h1; simp at h1
    simp [callFunc, hp, hfn, h2, h3]
  · cases h

/-- What was there stays, and so does what it stands for. -/
theorem goes_below {w' : World} (hH : HR num β hf w) (hb : Below w.heap.size w w') : Goes β hf w β hf w' ∧ HR num β hf w' := by
  have hlt : ∀ k b, β k = some b → b < w.heap.size := fun k b h => by
    obtain ⟨bk', _, hB⟩ := hH.blk k b h
    obtain ⟨cs', T', h1, _⟩ := hB.cells
    exact blk_lt h1
  have hgo : Goes β hf w β hf w' := ⟨hb.os, hb.tape, hb.output, hb.size, fun b hlt _ => hb.block b hlt, fun k b h => ⟨b, h⟩, fun k b h _ => h, fun k b bk _ h => ⟨bk, h, rfl, Nat.le_refl _, id⟩, fun k b _ _ h _ _ _ => h,
    fun k b cs T hk _ hc => ⟨cs, T, by rw [hb.block b (hlt k b hk)]; exact hc, Nat.le_refl _⟩, rfl⟩
  refine ⟨hgo, fun k b hk => ?_, hH.inj, fun b h => hH.base b (Nat.le_trans hb.size h), hH.own⟩
  obtain ⟨bk, h1, hB⟩ := hH.blk k b hk
  obtain ⟨cs, TT, h2, h3, h4⟩ := hB.cells
  refine ⟨bk, h1, ⟨cs, TT, by rw [hb.block b (hlt k b hk)]; exact h2, h3, fun i e he => ?_⟩⟩
  obtain ⟨f1, f2, f3⟩ := h4 i e he
  exact ⟨f1, f2, fun j c hj => let ⟨d1, z, d2, d3, d4⟩ := f3 j c hj; ⟨d1, z, d2, d3, hgo.vr d4⟩⟩

theorem flat_pr {X X' : Nat → Prop} {w' : World} {p : PV} {v : Value} (h : PR num w X p v) (hfl : p.flat = true) : PR num w' X' p v := by
  cases h <;> first | (simp [PV.flat] at hfl; done) | constructor
theorem flats_pr {X X' : Nat → Prop} {w' : World} {p : PV} {v : Value} (h : PR num w X p v) (hfl : p.flats = true) : PR num w' X' p v := by
  cases h with
  | tup vs hl h =>
    simp only [PV.flats, List.all_eq_true] at hfl
    exact .tup vs hl (fun i p v hp hv => flat_pr (h i p v hp hv) (hfl p (List.mem_of_getElem? hp)))
  | agg vs hl hone h =>
    simp only [PV.flats, List.all_eq_true] at hfl
    exact .agg vs hl hone (fun i p v hp hv => flat_pr (h i p v hp hv) (hfl p (List.mem_of_getElem? hp)))
  | bool => constructor
  | int => constructor
  | str => constructor
  | _ => simp [PV.flats, PV.flat] at hfl

theorem pvs_get {l : List AV} {ps : List PV} (h : pvs l = some ps) {i : Nat} {p : PV} (hp : ps[i]? = some p) : l[i]? = some (.pv p) := by
  rw [pvs_some h]; simp [hp]

/-- References laid open. -/
theorem toPV1_vr {av : AV} {u : Value} {p : PV} (hH : HR num β hf w) (hA : ∀ k b, β k = some b → hf k = H[k]?) (hx : VR num β hf w av u) (h : toPV1 H av = some p) : PR num w β.X0 p u := by
  cases av with
  | pv q =>
    simp [toPV1] at h; subst h
    cases hx with | pv hx => exact hx.mono (fun b hb _ => ⟨hb.1, rfl⟩)
  | sl k len =>
    simp only [toPV1] at h
    split at h
    · rename_i bk hg
      split at h
      case isFalse => cases h
      rename_i hpos
      simp only [Option.map_eq_some_iff] at h
      obtain ⟨ps, hps, rfl⟩ := h
      obtain ⟨b, cap, cs, TT, hb, hk, hv, hcap, hcs, hcc, hB⟩ := sl_at hH (fun k _ b hb => hA k b hb) hx hg
      have hl := (good_some hg).2
      have hes := pvs_some hps
      subst hv
      have hlen : ps.length = len := by rw [← hl, hes]; simp
      refine .lst _ b 0 (fun i j => ((cs[i * bk.sz + j]?).getD undef)) hlen.symm (fun _ => rfl) (fun _ => hH.own k b hb) hcap (fun _ => hpos) ?_ ?_ ?_
      · intro i e hi
        have he : bk.es[i]? = some (.pv e) := by rw [hes]; simp [hi]
        obtain ⟨h1, h2, _⟩ := hB.at he
        exact ⟨by simpa [AV.okc] using h1, by simpa [AV.cells] using h2⟩
      · intro i e j q hi hj
        have he : bk.es[i]? = some (.pv e) := by rw [hes]; simp [hi]
        obtain ⟨h1, h2, h3⟩ := hB.at he
        obtain ⟨d1, z, d2, d3, d4⟩ := h3 j (.pv q) (by simp [AV.cells, hj])
        refine ⟨d1, ?_⟩
        have : cs[i * bk.sz + j]? = some z := by simpa [World.cell?, hcs] using d2
        rw [this, Nat.zero_add]; exact d2
      · intro i e j q hi hj
        have he : bk.es[i]? = some (.pv e) := by rw [hes]; simp [hi]
        obtain ⟨h1, h2, h3⟩ := hB.at he
        obtain ⟨d1, z, d2, d3, d4⟩ := h3 j (.pv q) (by simp [AV.cells, hj])
        have : cs[i * bk.sz + j]? = some z := by simpa [World.cell?, hcs] using d2
        rw [this]
        cases d4 with | pv d4 => exact d4.mono (fun b hb _ => ⟨hb.1, rfl⟩)
    · cases h
  | fn n caps =>
    cases caps with
    | nil =>
      simp [toPV1] at h; subst h
      cases hx with
      | fn vs hl h =>
        have : vs = #[] := by simpa using hl.symm
        subst this; exact .fn n
    | cons c cs => simp [toPV1] at h
  | _ => simp [toPV1] at h

theorem toPVl_vr {vs : Array Value} : ∀ {l : List AV} {ps : List PV} (o : Nat), (∀ k b, β k = some b → hf k = H[k]?) → HR num β hf w → toPVl H l = some ps → (∀ (i : Nat) (c : AV) (u : Value), l[i]? = some c → vs[o + i]? = some u → VR num β hf w c u) →
    ps.length = l.length ∧ ∀ (i : Nat) (p : PV) (u : Value), ps[i]? = some p → vs[o + i]? = some u → PR num w β.X0 p u ∧ ∃ c, l[i]? = some c ∧ toPV1 H c = some p
  | [], ps, o, hA, hH, h, hv => by simp [toPVl] at h; subst h; exact ⟨rfl, by simp⟩
  | c :: l, ps, o, hA, hH, h, hv => by
    simp only [toPVl] at h
    split at h
    · rename_i p qs hp hq
      injection h with h; subst h
      obtain ⟨h1, h2⟩ := toPVl_vr (vs := vs) (o + 1) hA hH hq (fun i c u hc hu => hv (i + 1) c u (by simpa using hc) (by rwa [show o + (i + 1) = o + 1 + i by omega]))
      refine ⟨by simp [h1], fun i p' u hp' hu => ?_⟩
      cases i with
      | zero => simp at hp'; subst hp'; exact ⟨toPV1_vr hH hA (hv 0 c u rfl hu) hp, c, rfl, hp⟩
      | succ i =>
        obtain ⟨g1, c', g2, g3⟩ := h2 i p' u (by simpa using hp') (by rwa [show o + 1 + i = o + (i + 1) by omega])
        exact ⟨g1, c', by simpa using g2, g3⟩
    · cases h

theorem toPV1_one {c : AV} {p : PV} (h : toPV1 H c = some p) (h1 : c.one = true) : p.one = true := by
  cases c with
  | pv q => simp [toPV1] at h; subst h; exact h1
  | sl k len =>
    simp only [toPV1] at h
    split at h
    · split at h
      · simp only [Option.map_eq_some_iff] at h
        obtain ⟨ps, _, rfl⟩ := h; rfl
      · cases h
    · cases h
  | fn n caps => cases caps <;> simp [toPV1] at h; subst h; rfl
  | _ => simp [toPV1] at h

theorem toPV_vr {av : AV} {u : Value} {p : PV} (hH : HR num β hf w) (hA : ∀ k b, β k = some b → hf k = H[k]?) (hx : VR num β hf w av u) (h : toPV H av = some p) : PR num w β.X0 p u := by
  cases av with
  | agg l =>
    simp only [toPV, Option.map_eq_some_iff] at h
    obtain ⟨ps, hps, rfl⟩ := h
    cases hx with
    | agg vs hl hone hv =>
      obtain ⟨h1, h2⟩ := toPVl_vr (vs := vs) 0 hA hH hps (fun i c u hc hu => hv i c u hc (by simpa using hu))
      refine .agg vs (by omega) (fun q hq => ?_) (fun i q u hq hu => (h2 i q u hq (by simpa using hu)).1)
      obtain ⟨i, hi⟩ := List.getElem?_of_mem hq
      have hlt : i < vs.size := by rw [← hl, ← h1]; exact (List.getElem?_eq_some_iff.1 hi).1
      obtain ⟨_, c, hc, hc2⟩ := h2 i q vs[i] hi (by simp [hlt])
      exact toPV1_one hc2 (hone c (List.mem_of_getElem? hc))
  | pv q => exact toPV1_vr hH hA hx h
  | sl => exact toPV1_vr hH hA hx h
  | fn => exact toPV1_vr hH hA hx h
  | _ => simp [toPV, toPV1] at h

theorem toPVs_vr {vs : Array Value} : ∀ {l : List AV} {ps : List PV} (o : Nat), (∀ k b, β k = some b → hf k = H[k]?) → HR num β hf w → toPVs H l = some ps → (∀ (i : Nat) (c : AV) (u : Value), l[i]? = some c → vs[o + i]? = some u → VR num β hf w c u) →
    ps.length = l.length ∧ ∀ (i : Nat) (p : PV) (u : Value), ps[i]? = some p → vs[o + i]? = some u → PR num w β.X0 p u
  | [], ps, o, hA, hH, h, hv => by simp [toPVs] at h; subst h; exact ⟨rfl, by simp⟩
  | c :: l, ps, o, hA, hH, h, hv => by
    simp only [toPVs] at h
    split at h
    · rename_i p qs hp hq
      injection h with h; subst h
      obtain ⟨h1, h2⟩ := toPVs_vr (vs := vs) (o + 1) hA hH hq (fun i c u hc hu => hv (i + 1) c u (by simpa using hc) (by rwa [show o + (i + 1) = o + 1 + i by omega]))
      refine ⟨by simp [h1], fun i p' u hp' hu => ?_⟩
      cases i with
      | zero => simp at hp'; subst hp'; exact toPV_vr hH hA (hv 0 c u rfl hu) hp
      | succ i => exact h2 i p' u (by simpa using hp') (by rwa [show o + 1 + i = o + (i + 1) by omega])
    · cases h

/-- Blocks that a call may read, or that are never written. -/
def Xarg (β : Bet) (hf : Nat → Option Blk) (ks : List Nat) (b : Nat) : Prop := β.X0 b ∧ ∀ k, β k = some b → k ∈ ks ∨ ∃ blk, hf k = some blk ∧ blk.fz = true
theorem Xof.arg {ks : List Nat} {b : Nat} (h : Xof β hf b) : Xarg β hf ks b := ⟨h.1, fun k hk => .inr (h.2 k hk)⟩
theorem xof_none {X : Nat → Prop} {b : Nat} (h : X b) : Xof ⟨fun _ => none, X⟩ (fun _ => none) b := ⟨h, fun k hk => by cases hk⟩
theorem own_arg {ks : List Nat} {k b : Nat} (hH : HR num β hf w) (hb : β k = some b) (hk : k ∈ ks) : Xarg β hf ks b :=
  ⟨hH.own k b hb, fun k' hk' => .inl (by rw [hH.inj k' k b hk' hb]; exact hk)⟩
theorem PR.arg {ks : List Nat} {p : PV} {u : Value} (h : PR num w (Xof β hf) p u) : PR num w (Xof ⟨fun _ => none, Xarg β hf ks⟩ (fun _ => none)) p u :=
  h.mono fun _ hb _ => ⟨xof_none hb.arg, rfl⟩

theorem chopP_get {esz off cnt : Nat} {l : List PV} (hone : ∀ p ∈ l, p.one = true) (hpos : 0 < esz) (hle : off + cnt * esz ≤ l.length) {i : Nat} {e : PV} (h : (chopP esz off l cnt)[i]? = some e) :
    e.okc = true ∧ e.cells.length = esz ∧ ∀ (j : Nat) (p : PV), e.cells[j]? = some p → l[off + i * esz + j]? = some p := by
  simp only [chopP, List.getElem?_map, Option.map_eq_some_iff] at h
  obtain ⟨i', hi, rfl⟩ := h
  have hlt := (List.getElem?_eq_some_iff.1 hi).1
  rw [List.length_range] at hlt
  rw [List.getElem?_range hlt] at hi
  cases hi
  have hle2 : off + i * esz + esz ≤ l.length := by
    have : (i + 1) * esz ≤ cnt * esz := Nat.mul_le_mul_right _ hlt
    rw [Nat.add_mul] at this; omega
  by_cases h1 : esz = 1
  · subst h1
    have hlt2 : off + i < l.length := by omega
    have e1 : l.getD (off + i) .nilp = l[off + i] := by rw [List.getD_eq_getElem?_getD, List.getElem?_eq_getElem hlt2]; rfl
    simp only [if_true, e1]
    have ho := hone _ (List.getElem_mem hlt2)
    have hc : (l[off + i]).cells = [l[off + i]] := by
      generalize l[off + i] = q at ho
      cases q <;> simp_all [PV.one, PV.cells]
    refine ⟨?_, by rw [hc]; rfl, fun j p hj => ?_⟩
    · generalize l[off + i] = q at ho
      cases q <;> simp_all [PV.one, PV.okc]
    · rw [hc] at hj
      cases j with
      | zero => simp at hj; subst hj; simp
      | succ j => simp at hj
  · simp only [h1, if_false]
    refine ⟨rfl, ?_, fun j p hj => ?_⟩
    · simp only [PV.cells, List.length_take, List.length_drop]; omega
    · simp only [PV.cells] at hj
      rw [List.getElem?_take] at hj
      split at hj
      · rwa [List.getElem?_drop] at hj
      · cases hj
theorem toArg1_vr {av a' : AV} {u : Value} {ks : List Nat} (hH : HR num β hf w) (hA : Agree β hf H ks) (hks : ∀ k ∈ refs av, k ∈ ks) (hx : VR num β hf w av u) (h : toArg1 H av = some a') :
    VR num ⟨fun _ => none, Xarg β hf ks⟩ (fun _ => none) w a' u := by
  cases av with
  | pv q =>
    simp only [toArg1, Option.some.injEq] at h; subst h
    cases hx with | pv hx => exact .pv hx.arg
  | rp p off =>
    simp only [toArg1, Option.some.injEq] at h; subst h
    cases hx with
    | rp b o z hv hX hlt hok hcell hrel => exact .rp b o z hv (xof_none hX.arg) hlt hok hcell fun j q hj => (hrel j q hj).arg
  | sl k len =>
    have hk : k ∈ ks := hks k (by simp [refs])
    simp only [toArg1] at h
    split at h
    · rename_i bk hg
      split at h
      case isFalse => cases h
      rename_i hpos
      simp only [Option.map_eq_some_iff] at h
      obtain ⟨ps, hps, rfl⟩ := h
      obtain ⟨b, cap, cs, TT, hb, hk2, hv, hcap, hcs, hcc, hB⟩ := sl_at hH (fun j hj b hb => hA j (by simp at hj; subst hj; exact hk) b hb) hx hg
      have hl := (good_some hg).2
      have hes := pvs_some hps
      subst hv
      have hlen : ps.length = len := by rw [← hl, hes]; simp
      refine .pv (.lst _ b 0 (fun i j => ((cs[i * bk.sz + j]?).getD undef)) hlen.symm (fun _ => rfl) (fun _ => xof_none (own_arg hH hb hk)) hcap (fun _ => hpos) ?_ ?_ ?_)
      · intro i e hi
        have he : bk.es[i]? = some (.pv e) := by rw [hes]; simp [hi]
        obtain ⟨h1, h2, _⟩ := hB.at he
        exact ⟨by simpa [AV.okc] using h1, by simpa [AV.cells] using h2⟩
      · intro i e j q hi hj
        have he : bk.es[i]? = some (.pv e) := by rw [hes]; simp [hi]
        obtain ⟨h1, h2, h3⟩ := hB.at he
        obtain ⟨d1, z, d2, d3, d4⟩ := h3 j (.pv q) (by simp [AV.cells, hj])
        refine ⟨d1, ?_⟩
        have : cs[i * bk.sz + j]? = some z := by simpa [World.cell?, hcs] using d2
        rw [this, Nat.zero_add]; exact d2
      · intro i e j q hi hj
        have he : bk.es[i]? = some (.pv e) := by rw [hes]; simp [hi]
        obtain ⟨h1, h2, h3⟩ := hB.at he
        obtain ⟨d1, z, d2, d3, d4⟩ := h3 j (.pv q) (by simp [AV.cells, hj])
        have : cs[i * bk.sz + j]? = some z := by simpa [World.cell?, hcs] using d2
        rw [this]
        cases d4 with | pv d4 => exact d4.arg
    · cases h
  | ptr k len i off =>
    have hk : k ∈ ks := hks k (by simp [refs])
    simp only [toArg1] at h
    split at h
    · rename_i bk hg
      split at h
      · rename_i p he
        simp only [Option.some.injEq] at h; subst h
        obtain ⟨b, hb, hk2, hv, hB⟩ := ptr_at hH (fun j hj b hb => hA j (by simp at hj; subst hj; exact hk) b hb) hx hg
        obtain ⟨h1, h2, h3⟩ := hB.at he
        obtain ⟨cs, TT, g1, g2, g3⟩ := hB.cells
        refine .rp b (i * bk.sz) (fun j => (w.cell? ⟨b, i * bk.sz + j, none⟩).getD undef) (by rw [hv]) (xof_none (own_arg hH hb hk)) (blk_lt g1) (by simpa [AV.okc] using h1) (fun j q hj => ?_) fun j q hj => ?_
        · obtain ⟨d1, z, d2, d3, d4⟩ := h3 j (.pv q) (by simp [AV.cells, hj])
          exact ⟨d1, by rw [d2]; rfl⟩
        · obtain ⟨d1, z, d2, d3, d4⟩ := h3 j (.pv q) (by simp [AV.cells, hj])
          rw [d2]
          cases d4 with | pv d4 => exact d4.arg
      · rename_i l he
        simp only [Option.some.injEq] at h; subst h
        obtain ⟨b, hb, hk2, hv, hB⟩ := ptr_at hH (fun j hj b hb => hA j (by simp at hj; subst hj; exact hk) b hb) hx hg
        obtain ⟨h1, h2, h3⟩ := hB.at he
        obtain ⟨cs, TT, g1, g2, g3⟩ := hB.cells
        have hc : ∀ (j : Nat) (q : PV), (PV.agg (l.map blind)).cells[j]? = some q → ∃ c, l[j]? = some c ∧ q = blind c := fun j q hj => by
          simp only [PV.cells, List.getElem?_map, Option.map_eq_some_iff] at hj
          obtain ⟨c, hc, rfl⟩ := hj
          exact ⟨c, hc, rfl⟩
        refine .rp b (i * bk.sz) (fun j => (w.cell? ⟨b, i * bk.sz + j, none⟩).getD undef) (by rw [hv]) (xof_none (own_arg hH hb hk)) (blk_lt g1) rfl (fun j q hj => ?_) fun j q hj => ?_
        · obtain ⟨c, hc, rfl⟩ := hc j q hj
          obtain ⟨d1, z, d2, d3, d4⟩ := h3 j c hc
          refine ⟨?_, by rw [d2]; rfl⟩
          cases c <;> first | rfl | exact d1
        · obtain ⟨c, hc, rfl⟩ := hc j q hj
          obtain ⟨d1, z, d2, d3, d4⟩ := h3 j c hc
          rw [d2]
          cases c with
          | pv q => cases d4 with | pv d4 => exact d4.arg
          | _ => exact .unk _ d3
      · cases h
    · cases h
  | asl k len i off cnt esz =>
    have hk : k ∈ ks := hks k (by simp [refs])
    simp only [toArg1] at h
    split at h
    · rename_i bk hg
      split at h
      · rename_i l he
        split at h
        case isFalse => cases h
        rename_i hpl
        simp only [Option.some.injEq] at h; subst h
        obtain ⟨b, hb, hk2, hv, hB⟩ := asl_at hH (fun j hj b hb => hA j (by simp at hj; subst hj; exact hk) b hb) hx hg
        obtain ⟨h1, h2, h3⟩ := hB.at he
        have hone : ∀ p ∈ l, p.one = true := fun p hp => by
          obtain ⟨j, hj⟩ := List.getElem?_of_mem hp
          exact (h3 j (.pv p) (by simp [AV.cells, PV.cells, hj])).1
        have hget := fun {i : Nat} {e : PV} (h : (chopP esz off l cnt)[i]? = some e) => chopP_get hone hpl.1 hpl.2 h
        rw [hv]
        refine .pv (.lst _ b (i * bk.sz + off) (fun i' j => (w.cell? ⟨b, i * bk.sz + off + i' * esz + j, none⟩).getD undef) (by simp [chopP]) (fun _ => rfl) (fun _ => xof_none (own_arg hH hb hk)) (Nat.le_refl _) (fun _ => hpl.1) ?_ ?_ ?_)
        · intro i' e hi
          exact ⟨(hget hi).1, (hget hi).2.1⟩
        · intro i' e j q hi hj
          have hc := (hget hi).2.2 j q hj
          obtain ⟨d1, z, d2, d3, d4⟩ := h3 (off + i' * esz + j) (.pv q) (by simp [AV.cells, PV.cells, hc])
          have e1 : i * bk.sz + (off + i' * esz + j) = i * bk.sz + off + i' * esz + j := by omega
          rw [e1] at d2
          exact ⟨d1, by rw [d2]; rfl⟩
        · intro i' e j q hi hj
          have hc := (hget hi).2.2 j q hj
          obtain ⟨d1, z, d2, d3, d4⟩ := h3 (off + i' * esz + j) (.pv q) (by simp [AV.cells, PV.cells, hc])
          have e1 : i * bk.sz + (off + i' * esz + j) = i * bk.sz + off + i' * esz + j := by omega
          rw [e1] at d2
          rw [d2]
          cases d4 with | pv d4 => exact d4.arg
      · cases h
    · cases h
  | _ => simp [toArg1] at h

theorem toArgl_vr {vs : Array Value} {ks : List Nat} : ∀ {l as : List AV} (o : Nat), Agree β hf H ks → (∀ k ∈ l.flatMap refs, k ∈ ks) → HR num β hf w → toArgl H l = some as → (∀ (i : Nat) (c : AV) (u : Value), l[i]? = some c → vs[o + i]? = some u → VR num β hf w c u) →
    as.length = l.length ∧ ∀ (i : Nat) (p : AV) (u : Value), as[i]? = some p → vs[o + i]? = some u → VR num ⟨fun _ => none, Xarg β hf ks⟩ (fun _ => none) w p u ∧ ∃ c, l[i]? = some c ∧ toArg1 H c = some p
  | [], as, o, hA, hks, hH, h, hv => by simp [toArgl] at h; subst h; exact ⟨rfl, by simp⟩
  | c :: l, as, o, hA, hks, hH, h, hv => by
    simp only [toArgl] at h
    split at h
    · rename_i p qs hp hq
      injection h with h; subst h
      obtain ⟨h1, h2⟩ := toArgl_vr (vs := vs) (o + 1) hA (fun k hk => hks k (by simp at hk ⊢; exact .inr hk)) hH hq (fun i c u hc hu => hv (i + 1) c u (by simpa using hc) (by rwa [show o + (i + 1) = o + 1 + i by omega]))
      refine ⟨by simp [h1], fun i p' u hp' hu => ?_⟩
      cases i with
      | zero => simp at hp'; subst hp'; exact ⟨toArg1_vr hH hA (fun k hk => hks k (by simp; exact .inl hk)) (hv 0 c u rfl hu) hp, c, rfl, hp⟩
      | succ i =>
        obtain ⟨g1, c', g2, g3⟩ := h2 i p' u (by simpa using hp') (by rwa [show o + 1 + i = o + (i + 1) by omega])
        exact ⟨g1, c', by simpa using g2, g3⟩
    · cases h

theorem toArg1_one {c a : AV} (h : toArg1 H c = some a) (h1 : c.one = true) : a.one = true := by
  cases c with
  | pv q => simp only [toArg1, Option.some.injEq] at h; subst h; exact h1
  | rp p off => simp only [toArg1, Option.some.injEq] at h; subst h; exact h1
  | sl k len =>
    simp only [toArg1] at h
    split at h
    · split at h
      · simp only [Option.map_eq_some_iff] at h
        obtain ⟨ps, _, rfl⟩ := h; rfl
      · cases h
    · cases h
  | ptr k len i off =>
    simp only [toArg1] at h
    split at h
    · split at h
      · simp only [Option.some.injEq] at h; subst h; rfl
      · simp only [Option.some.injEq] at h; subst h; rfl
      · cases h
    · cases h
  | asl k len i off cnt esz =>
    simp only [toArg1] at h
    split at h
    · split at h
      · split at h
        · simp only [Option.some.injEq] at h; subst h; rfl
        · cases h
      · cases h
    · cases h
  | _ => simp [toArg1] at h

theorem toArg_vr {av a' : AV} {u : Value} {ks : List Nat} (hH : HR num β hf w) (hA : Agree β hf H ks) (hks : ∀ k ∈ refsA av, k ∈ ks) (hx : VR num β hf w av u) (h : toArg H av = some a') :
    VR num ⟨fun _ => none, Xarg β hf ks⟩ (fun _ => none) w a' u := by
  cases av with
  | agg l =>
    simp only [toArg] at h
    split at h
    · rename_i as has
      simp only [Option.map_eq_some_iff] at h
      obtain ⟨ps, hps, rfl⟩ := h
      cases hx with
      | agg vs hl hone hv =>
        obtain ⟨h1, h2⟩ := toArgl_vr (vs := vs) 0 hA hks hH has (fun i c u hc hu => hv i c u hc (by simpa using hu))
        have hes := pvs_some hps
        refine .pv (.agg vs (by rw [hes] at h1; simp at h1; omega) (fun q hq => ?_) fun i q u hq hu => ?_)
        · obtain ⟨i, hi⟩ := List.getElem?_of_mem hq
          have hi2 : as[i]? = some (.pv q) := by rw [hes]; simp [hi]
          have hlt : i < vs.size := by rw [← hl, ← h1]; exact (List.getElem?_eq_some_iff.1 hi2).1
          obtain ⟨_, c, hc, hc2⟩ := h2 i (.pv q) vs[i] hi2 (by simp [hlt])
          exact toArg1_one hc2 (hone c (List.mem_of_getElem? hc))
        · have hi2 : as[i]? = some (.pv q) := by rw [hes]; simp [hq]
          have := (h2 i (.pv q) u hi2 (by simpa using hu)).1
          cases this with | pv this => exact this
    · cases h
  | fn n l =>
    simp only [toArg, Option.map_eq_some_iff] at h
    obtain ⟨as, has, rfl⟩ := h
    cases hx with
    | fn vs hl hv =>
      obtain ⟨h1, h2⟩ := toArgl_vr (vs := vs) 0 hA hks hH has (fun i c u hc hu => hv i c u hc (by simpa using hu))
      exact .fn vs (by omega) fun i c u hc hu => (h2 i c u hc (by simpa using hu)).1
  | pv q => exact toArg1_vr (av := .pv q) hH hA (fun j hj => hks j hj) hx h
  | rp p off => exact toArg1_vr (av := .rp p off) hH hA (fun j hj => hks j hj) hx h
  | sl k len => exact toArg1_vr (av := .sl k len) hH hA (fun j hj => hks j hj) hx h
  | ptr k len i off => exact toArg1_vr (av := .ptr k len i off) hH hA (fun j hj => hks j hj) hx h
  | asl k len i off cnt esz => exact toArg1_vr (av := .asl k len i off cnt esz) hH hA (fun j hj => hks j hj) hx h
  | _ => simp [toArg, toArg1] at h

theorem toArgs_vr {vs : Array Value} {ks : List Nat} : ∀ {l as : List AV} (o : Nat), Agree β hf H ks → (∀ k ∈ l.flatMap refsA, k ∈ ks) → HR num β hf w → toArgs H l = some as → (∀ (i : Nat) (c : AV) (u : Value), l[i]? = some c → vs[o + i]? = some u → VR num β hf w c u) →
    as.length = l.length ∧ ∀ (i : Nat) (p : AV) (u : Value), as[i]? = some p → vs[o + i]? = some u → VR num ⟨fun _ => none, Xarg β hf ks⟩ (fun _ => none) w p u
  | [], as, o, hA, hks, hH, h, hv => by simp [toArgs] at h; subst h; exact ⟨rfl, by simp⟩
  | c :: l, as, o, hA, hks, hH, h, hv => by
    simp only [toArgs] at h
    split at h
    · rename_i p qs hp hq
      injection h with h; subst h
      obtain ⟨h1, h2⟩ := toArgs_vr (vs := vs) (o + 1) hA (fun k hk => hks k (by simp at hk ⊢; exact .inr hk)) hH hq (fun i c u hc hu => hv (i + 1) c u (by simpa using hc) (by rwa [show o + (i + 1) = o + 1 + i by omega]))
      refine ⟨by simp [h1], fun i p' u hp' hu => ?_⟩
      cases i with
      | zero => simp at hp'; subst hp'; exact toArg_vr hH hA (fun k hk => hks k (by simp; exact .inl hk)) (hv 0 c u rfl hu) hp
      | succ i => exact h2 i p' u (by simpa using hp') (by rwa [show o + 1 + i = o + (i + 1) by omega])
    · cases h

/-- A call, once it is entered. -/
theorem cont_call {f : FuncId} {vs : Array Value} {R : Ending → World → Prop} (hr : (execOp a.eval o).run P w = .ok (.enter f vs) w) (hc : Calls P f vs w R)
    (hR : ∀ e w', R e w' → ∃ r β', e = .returned r ∧ Goes β hf w β' (eff.onF k0 hf) w' ∧ HR num β' (eff.onF k0 hf) w' ∧ VR num β' (eff.onF k0 hf) w' v r ∧ ∀ k, β' k ≠ none → β k ≠ none ∨ eff.news k0 k) : Cont P num o a β hf w k0 v eff := by
  intro K Q hK
  unfold Oper.wp
  rw [hr, Oper.upon_enter]
  refine hc.mono fun e w' he => ?_
  obtain ⟨r, β', rfl, h1, h2, h3, h4⟩ := hR e w' he
  exact hK r β' w' h1 h2 h3 h4

def AgreeT (β : Bet) (hf : Nat → Option Blk) (H : Heap) : Option (List Nat × List Nat) → Prop
  | some (rs, ws) => Agree β hf H (rs ++ ws)
  | none => ∀ k b, β k = some b → hf k = H[k]?

theorem Agree.sub {ks ls : List Nat} (h : Agree β hf H ls) (hs : ∀ k ∈ ks, k ∈ ls) : Agree β hf H ks := fun k hk => h k (hs k hk)
theorem call_sound {n : Nat} {args : List AV} {vs : Array Value} (hext : ExtOK P num ext) (hk0 : H.length = k0) (hr : bodyIs P (num n) = true → (execOp a.eval o).run P w = .ok (.enter (num n) vs) w) (hH : HR num β hf w) (hl : args.length = vs.size)
    (hv : ∀ (i : Nat) (c : AV) (u : Value), args[i]? = some c → vs[i]? = some u → VR num β hf w c u)
    (hA : AgreeT β hf H (touchC ext n args)) (hs : callSem ext n args H = some (v, eff)) : Cont P num o a β hf w k0 v eff := by
  unfold callSem at hs
  split at hs
  · rename_i g hg
    obtain ⟨hbody, hsound⟩ := hext.p n g hg
    have hlt : ∀ k b, β k = some b → b < w.heap.size := fun k b h => by
      obtain ⟨bk', _, hB⟩ := hH.blk k b h
      obtain ⟨cs', T', h1, _⟩ := hB.cells
      exact blk_lt h1
    split at hs
    · rename_i ps hps
      simp only [Option.map_eq_some_iff, Prod.mk.injEq] at hs
      obtain ⟨r, hgr, rfl, rfl⟩ := hs
      refine cont_call (hr hbody) (hsound args r hgr w (Xof β hf) vs hl (fun i p u hp hu => ?_)) (fun e w' he => ?_)
      · have hi := (List.getElem?_eq_some_iff.1 hp).1
        rw [pvs_some hps] at hp
        simp only [List.getElem?_map, Option.map_eq_some_iff] at hp
        obtain ⟨q, hq, rfl⟩ := hp
        have := hv i (.pv q) u (pvs_get hps hq) hu
        cases this with | pv this => exact .pv (this.mono fun b hb _ => ⟨xof_none hb, rfl⟩)
      · obtain ⟨u, rfl, hb, hpr⟩ := he
        obtain ⟨hgo, hH'⟩ := goes_below hH hb
        refine ⟨u, β, rfl, hgo, hH', .pv (hpr.mono fun b hb2 hb3 => ⟨?_, rfl⟩), fun k hk => .inl hk⟩
        rcases hb2 with h | h
        · exact h
        · exact ⟨hH.base b h, fun k hk => by have := hlt k b hk; omega⟩
    · rename_i hnone
      have hA' : Agree β hf H (args.flatMap refsA) := by
        unfold touchC at hA
        rw [if_pos (by rw [hg]; rfl), if_neg (by rw [hnone]; simp)] at hA
        exact hA.sub fun k hk => List.mem_append.2 (.inl hk)
      split at hs
      · rename_i as has
        obtain ⟨hl2, hpr⟩ := toArgs_vr (vs := vs) 0 hA' (fun k hk => hk) hH has (fun i c u hc hu => hv i c u hc (by simpa using hu))
        split at hs
        · rename_i r hgr
          split at hs
          · split at hs
            · rename_i hfl
              simp only [Option.some.injEq, Prod.mk.injEq] at hs
              obtain ⟨rfl, rfl⟩ := hs
              refine cont_call (hr hbody) (hsound as r hgr w _ vs (by omega) (fun i p u hp hu => hpr i p u hp (by simpa using hu))) (fun e w' he => ?_)
              obtain ⟨u, rfl, hb, hpr⟩ := he
              obtain ⟨hgo, hH'⟩ := goes_below hH hb
              exact ⟨u, β, rfl, hgo, hH', .pv (flats_pr hpr hfl), fun k hk => .inl hk⟩
            · cases hs
          · simp only [Option.some.injEq, Prod.mk.injEq] at hs
            obtain ⟨rfl, rfl⟩ := hs
            refine cont_call (hr hbody) (hsound as r hgr w _ vs (by omega) (fun i p u hp hu => hpr i p u hp (by simpa using hu))) (fun e w' he => ?_)
            obtain ⟨u, rfl, hb, hpr⟩ := he
            obtain ⟨hgo, hH'⟩ := goes_below hH hb
            have hfrz : ∀ k bk, frzB (args.flatMap refsA) k bk = bk ∨ frzB (args.flatMap refsA) k bk = { bk with fz := true } := fun k bk => by
              unfold frzB; split
              · exact .inr rfl
              · exact .inl rfl
            have hgo2 : Goes β hf w' β ((Eff.frz (args.flatMap refsA)).onF k0 hf) w' := by
              refine ⟨rfl, rfl, rfl, Nat.le_refl _, fun _ _ _ => rfl, fun k b h => ⟨b, h⟩, fun k b h _ => h, fun k b bk hk hbk => ?_, fun k b _ _ h _ _ _ => h, fun k b cs T _ _ h => ⟨cs, T, h, Nat.le_refl _⟩, rfl⟩
              refine ⟨frzB (args.flatMap refsA) k bk, by simp [Eff.onF, hbk], ?_⟩
              rcases hfrz k bk with e | e <;> rw [e]
              · exact ⟨rfl, Nat.le_refl _, id⟩
              · exact ⟨rfl, Nat.le_refl _, fun _ => rfl⟩
            have hgo3 := hgo.trans hgo2
            refine ⟨u, β, rfl, hgo3, ⟨fun k b hk => ?_, hH.inj, hH'.base, hH.own⟩, .pv (hpr.mono fun b hb1 _ => ⟨?_, rfl⟩), fun k hk => .inl hk⟩
            · obtain ⟨bk, h3, hB⟩ := hH'.blk k b hk
              refine ⟨frzB (args.flatMap refsA) k bk, by simp [Eff.onF, h3], ?_⟩
              obtain ⟨cs, TT, e1, e2, e3⟩ := hB.cells
              have hes : (frzB (args.flatMap refsA) k bk).es = bk.es ∧ (frzB (args.flatMap refsA) k bk).sz = bk.sz := by
                rcases hfrz k bk with e | e <;> rw [e] <;> exact ⟨rfl, rfl⟩
              refine ⟨cs, TT, e1, by rw [hes.1, hes.2]; exact e2, fun i e he => ?_⟩
              rw [hes.1] at he
              rw [hes.2]
              obtain ⟨f1, f2, f3⟩ := e3 i e he
              exact ⟨f1, f2, fun j c hj => let ⟨d1, z, d2, d3, d4⟩ := f3 j c hj; ⟨d1, z, d2, d3, hgo2.vr d4⟩⟩
            · rcases hb1 with hb1 | hb1
              · refine ⟨hb1.1, fun k hk => ?_⟩
                obtain ⟨bk, h3, _⟩ := hH.blk k b hk
                refine ⟨frzB (args.flatMap refsA) k bk, by simp [Eff.onF, h3], ?_⟩
                rcases hb1.2 k hk with h4 | ⟨bk', h5, h6⟩
                · unfold frzB; rw [if_pos (List.contains_iff_mem.2 h4)]
                · rw [h3] at h5; cases h5
                  rcases hfrz k bk with e | e <;> rw [e]; exact h6
              · exact ⟨hH.base b hb1, fun k hk => by have := hlt k b hk; omega⟩
        · cases hs
      · cases hs
  · rename_i hnp
    split at hs
    · rename_i g hg
      obtain ⟨hbody, hsound⟩ := hext.i n g hg
      split at hs
      · rename_i v' H' hgr
        split at hs
        · simp only [Option.some.injEq, Prod.mk.injEq] at hs
          obtain ⟨rfl, rfl⟩ := hs
          subst hk0
          exact cont_call (hr hbody) (hsound args H v' H' hgr β hf w vs (by unfold touchC at hA; rw [if_neg (by rw [hnp]; simp)] at hA; exact hA) hH hl hv) (fun e w' he => he)
        · cases hs
      · cases hs
    · cases hs

theorem okXs_some : ∀ {l : List Operand} {m : List SX}, okXs num l m = true → l.length = m.length ∧ ∀ (i : Nat) (x : Operand) (y : SX), l[i]? = some x → m[i]? = some y → okX num x y = true
  | [], [], _ => ⟨rfl, by simp⟩
  | [], _ :: _, h => by simp [okXs] at h
  | _ :: _, [], h => by simp [okXs] at h
  | x :: l, y :: m, h => by
    simp only [okXs, Bool.and_eq_true] at h
    obtain ⟨h1, h2⟩ := okXs_some h.2
    refine ⟨by simp [h1], fun i x' y' hx hy => ?_⟩
    cases i with
    | zero => simp at hx hy; subst hx; subst hy; exact h.1
    | succ i => exact h2 i x' y' (by simpa using hx) (by simpa using hy)

theorem args_vr {args : Array Operand} {xs : List SX} (h : okXs num args.toList xs = true) (hT : ∀ y ∈ xs, TR num β hf w T a y.slots) : (xs.map (·.ev T)).length = (args.map a.eval).size ∧
    ∀ (i : Nat) (c : AV) (u : Value), (xs.map (·.ev T))[i]? = some c → (args.map a.eval)[i]? = some u → VR num β hf w c u := by
  obtain ⟨h1, h2⟩ := okXs_some h
  refine ⟨by simpa using h1.symm, fun i c u hc hu => ?_⟩
  simp only [List.getElem?_map, Option.map_eq_some_iff] at hc
  obtain ⟨y, hy, rfl⟩ := hc
  simp only [Array.getElem?_map, Option.map_eq_some_iff] at hu
  obtain ⟨x, hx, rfl⟩ := hu
  exact ev_ok (h2 i x y (by simpa using hx) hy) (hT y (List.mem_of_getElem? hy))

theorem sound_call {f : FuncId} {args : Array Operand} {types : Array TypeId} {n : Nat} {xs : List SX} (hext : ExtOK P num ext) (ho : o.op = .call { callee := .value (.func f), args := args, argTypes := types }) (hn : num n = f) (hx : okXs num args.toList xs = true) (hT : ∀ y ∈ xs, TR num β hf w T a y.slots) (hH : HR num β hf w) (hk0 : H.length = k0)
    (hA : AgreeT β hf H (touch ext T (.call n xs)))
    (hs : step ext T H (.call n xs) = some (v, eff)) : Cont P num o a β hf w k0 v eff := by
  subst hn
  simp only [step] at hs
  obtain ⟨h1, h2⟩ := args_vr hx hT
  refine call_sound hext hk0 (fun hb => ?_) hH h1 h2 hA hs
  simp [execOp, ho, resolve, Act.eval, Deferred.ofValue, invoke, run_callFunc hb]

theorem sound_callv {t u : Tmp} {args : Array Operand} {types : Array TypeId} {xs : List SX} (hext : ExtOK P num ext) (ho : o.op = .call { callee := .value (.tmp t), args := args, argTypes := types }) (htu : t = u) (hx : okXs num args.toList xs = true) (hT : ∀ y ∈ xs, TR num β hf w T a y.slots) (hT2 : TR num β hf w T a [u]) (hH : HR num β hf w) (hk0 : H.length = k0)
    (hA : AgreeT β hf H (touch ext T (.callv (.t u) xs)))
    (hs : step ext T H (.callv (.t u) xs) = some (v, eff)) : Cont P num o a β hf w k0 v eff := by
  subst htu
  simp only [step] at hs
  obtain ⟨h1, h2⟩ := args_vr hx hT
  have hf0 := hT2 t (by simp)
  have hev : (SX.t t).ev T = T.get t := rfl
  have he : a.eval (.tmp t) = a.tmps.getD t undef := rfl
  split at hs
  · rename_i n hp
    rw [hev] at hp
    rw [hp] at hf0
    have hfv : a.eval (.tmp t) = .func (.func (num n)) #[] #[] := by
      rw [he]; generalize a.tmps.getD t undef = z at hf0; cases hf0 with | pv hf0 => cases hf0; rfl
    simp only [touch, hev, hp] at hA
    refine call_sound hext hk0 (fun hb => ?_) hH h1 h2 hA hs
    simp [execOp, ho, resolve, hfv, Deferred.ofValue, invoke, run_callFunc hb]
  · rename_i n caps hp
    rw [hev] at hp
    rw [hp] at hf0
    have hfv : ∃ cs : Array Value, a.eval (.tmp t) = .func (.func (num n)) #[] cs ∧ caps.length = cs.size ∧ ∀ (i : Nat) (c : AV) (u : Value), caps[i]? = some c → cs[i]? = some u → VR num β hf w c u := by
      rw [he]; generalize a.tmps.getD t undef = z at hf0
      cases hf0 with | fn vs hl h => exact ⟨vs, rfl, hl, h⟩
    obtain ⟨cs, hfv, hl, hcs⟩ := hfv
    simp only [touch, hev, hp] at hA
    refine call_sound (vs := args.map a.eval ++ cs) hext hk0 (fun hb => ?_) hH (by simp at h1; simp [h1, hl]) (fun i c u hc hu => ?_) hA hs
    · simp [execOp, ho, resolve, hfv, Deferred.ofValue, invoke, run_callFunc hb]
    · have hsz := h1
      by_cases hi : i < (xs.map (·.ev T)).length
      · rw [List.getElem?_append_left hi] at hc
        rw [Array.getElem?_append_left (by omega)] at hu
        exact h2 i c u hc hu
      · rw [List.getElem?_append_right (by omega)] at hc
        rw [Array.getElem?_append_right (by omega)] at hu
        rw [hsz] at hc
        exact hcs _ c u hc hu
  · cases hs
end Dk
