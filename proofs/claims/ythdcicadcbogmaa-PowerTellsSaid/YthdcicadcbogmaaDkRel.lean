/- What a value of the abstract machine stands for in a world of the model. -/
import Derived.Test.YthdcicadcbogmaaDkCore
import Derived.Below
import Derived.Laws.Cells
import Derived.Deep.MidRow
set_option linter.all false
namespace Dk
open Go

inductive PR (num : Nat → FuncId) (w : World) (X : Nat → Prop) : PV → Value → Prop where
  | bool (b : Bool) : PR num w X (.bool b) (.bool b)
  | int (k : IntKind) (n : Int) : PR num w X (.int k n) (.int k n)
  | str (s : ByteArray) : PR num w X (.str s) (.string s)
  | nilp : PR num w X .nilp (.pointer none)
  | nils : PR num w X .nils (.slice none 0 0)
  | e0 (A : Option Addr) : PR num w X .e0 (.slice A 0 0)
  | lst {sz : Nat} {l : List PV} {n c : Nat} (A : Option Addr) (b o : Nat) (vals : Nat → Nat → Value) (hn : n = l.length) (hA : l ≠ [] → A = some ⟨b, o, none⟩) (hX : l ≠ [] → X b)
      (hc : n ≤ c) (hpos : l ≠ [] → 0 < sz) (hsz : ∀ (i : Nat) (e : PV), l[i]? = some e → e.okc = true ∧ e.cells.length = sz)
      (hcell : ∀ (i : Nat) (e : PV) (j : Nat) (p : PV), l[i]? = some e → e.cells[j]? = some p → p.one = true ∧ w.cell? ⟨b, o + i * sz + j, none⟩ = some (vals i j))
      (hrel : ∀ (i : Nat) (e : PV) (j : Nat) (p : PV), l[i]? = some e → e.cells[j]? = some p → PR num w X p (vals i j)) : PR num w X (.lst sz l) (.slice A n c)
  | agg {l : List PV} (vs : Array Value) (hl : l.length = vs.size) (hone : ∀ p ∈ l, p.one = true)
      (h : ∀ (i : Nat) (p : PV) (v : Value), l[i]? = some p → vs[i]? = some v → PR num w X p v) : PR num w X (.agg l) (.agg vs)
  | tup {l : List PV} (vs : Array Value) (hl : l.length = vs.size)
      (h : ∀ (i : Nat) (p : PV) (v : Value), l[i]? = some p → vs[i]? = some v → PR num w X p v) : PR num w X (.tup l) (.tuple vs)
  | fn (n : Nat) : PR num w X (.fn n) (.func (.func (num n)) #[] #[])
  | unk (v : Value) (h : v.oneCell' = true) : PR num w X .unk v
  | nilfn : PR num w X .nilfn .nilFunc
  | mp {ks vs : List PV} (r : Nat) (es : Array MapEntry) (clock : Nat) (hX : X r) (hr : w.heap[r]? = some (.map es clock)) (hk : ks.length = es.size) (hv : vs.length = es.size)
      (h1 : ∀ (i : Nat) (k : PV) (e : MapEntry), ks[i]? = some k → es[i]? = some e → PR num w X k e.key)
      (h2 : ∀ (i : Nat) (v : PV) (e : MapEntry), vs[i]? = some v → es[i]? = some e → PR num w X v e.val) : PR num w X (.mp ks vs) (.map (some r))

theorem cell_lt {w : World} {b o : Nat} {v : Value} (h : w.cell? ⟨b, o, none⟩ = some v) : b < w.heap.size := World.block_lt_of_cell? w ⟨b, o, none⟩ h
theorem blk_lt {w : World} {b : Nat} {o : Obj} (h : w.heap[b]? = some o) : b < w.heap.size := (Array.getElem?_eq_some_iff.1 h).1
theorem cell_same {w w' : World} {b o : Nat} (h : w'.heap[b]? = w.heap[b]?) : w'.cell? ⟨b, o, none⟩ = w.cell? ⟨b, o, none⟩ := by simp [World.cell?, h]

theorem PR.mono {num : Nat → FuncId} {w w' : World} {X X' : Nat → Prop} {p : PV} {v : Value} (h : PR num w X p v)
    (hm : ∀ b, X b → b < w.heap.size → X' b ∧ w'.heap[b]? = w.heap[b]?) : PR num w' X' p v := by
  induction h with
  | bool b => exact .bool b
  | int k n => exact .int k n
  | str s => exact .str s
  | nilp => exact .nilp
  | nils => exact .nils
  | e0 A => exact .e0 A
  | @lst sz l n c A b o vals hn hA hX hc hpos hsz hcell hrel ih =>
    cases l with
    | nil => exact .lst A b o vals hn (fun h => absurd rfl h) (fun h => absurd rfl h) hc (fun h => absurd rfl h) (fun i e hi => by simp at hi) (fun i e j p hi => by simp at hi) (fun i e j p hi => by simp at hi)
    | cons e0 l =>
      have hl : e0 :: l ≠ [] := by simp
      have h0 : (e0 :: l)[0]? = some e0 := rfl
      have hlen := (hsz 0 e0 h0).2
      have hp := hpos hl
      have hc0 : ∃ q, e0.cells[0]? = some q := ⟨e0.cells[0]'(by omega), List.getElem?_eq_getElem _⟩
      obtain ⟨q, hq⟩ := hc0
      have hb : b < w.heap.size := cell_lt (hcell 0 e0 0 q h0 hq).2
      obtain ⟨hX', hh⟩ := hm b (hX hl) hb
      exact .lst A b o vals hn hA (fun _ => hX') hc hpos hsz (fun i e j p hi hj => ⟨(hcell i e j p hi hj).1, by rw [cell_same hh]; exact (hcell i e j p hi hj).2⟩) ih
  | agg vs hl hone h ih => exact .agg vs hl hone ih
  | tup vs hl h ih => exact .tup vs hl ih
  | fn n => exact .fn n
  | unk v h => exact .unk v h
  | nilfn => exact .nilfn
  | mp r es clock hX hr hk hv h1 h2 ih1 ih2 =>
    obtain ⟨hX', hh⟩ := hm r hX (blk_lt hr)
    exact .mp r es clock hX' (by rw [hh]; exact hr) hk hv ih1 ih2
theorem PR.one_cell {num : Nat → FuncId} {w : World} {X : Nat → Prop} {p : PV} {v : Value} (h : PR num w X p v) (h1 : p.one = true) : v.oneCell' = true := by
  cases h <;> first | rfl | assumption | simp [PV.one] at h1

/-- Which block each block of the abstract heap stands for, and which blocks the caller leaves alone. -/
structure Bet where
  f : Nat → Option Nat
  X0 : Nat → Prop
instance : CoeFun Bet (fun _ => Nat → Option Nat) := ⟨Bet.f⟩

/-- Which blocks are never written: no block of the abstract heap, or one that is done with. -/
def Kof (β : Bet) (hf : Nat → Option Blk) (b : Nat) : Prop := ∀ k, β k = some b → ∃ blk, hf k = some blk ∧ blk.fz = true
/-- Those that may be spoken of. -/
def Xof (β : Bet) (hf : Nat → Option Blk) (b : Nat) : Prop := β.X0 b ∧ Kof β hf b

inductive VR (num : Nat → FuncId) (β : Bet) (hf : Nat → Option Blk) (w : World) : AV → Value → Prop where
  | pv {p : PV} {v : Value} (h : PR num w (Xof β hf) p v) : VR num β hf w (.pv p) v
  | ptr {k len i off : Nat} {v : Value} (b : Nat) (blk : Blk) (hb : β k = some b) (hk : hf k = some blk) (hle : len ≤ blk.es.length) (h1 : v.oneCell' = true)
      (h : blk.es.length = len → v = .pointer (some ⟨b, i * blk.sz + off, none⟩)) : VR num β hf w (.ptr k len i off) v
  | sl {k len : Nat} {v : Value} (b : Nat) (blk : Blk) (hb : β k = some b) (hk : hf k = some blk) (hle : len ≤ blk.es.length) (h1 : v.oneCell' = true)
      (h : blk.es.length = len → ∃ cap cs T, v = .slice (some ⟨b, 0, none⟩) len cap ∧ len ≤ cap ∧ w.heap[b]? = some (.cells cs T (0, 0)) ∧ cap * blk.sz ≤ cs.size) : VR num β hf w (.sl k len) v
  | asl {k len i off cnt esz : Nat} {v : Value} (b : Nat) (blk : Blk) (hb : β k = some b) (hk : hf k = some blk) (hle : len ≤ blk.es.length) (h1 : v.oneCell' = true)
      (h : blk.es.length = len → v = .slice (some ⟨b, i * blk.sz + off, none⟩) cnt cnt) : VR num β hf w (.asl k len i off cnt esz) v
  | rp {p : PV} {off : Nat} {v : Value} (b o : Nat) (u : Nat → Value) (hv : v = .pointer (some ⟨b, o + off, none⟩)) (hX : Xof β hf b) (hlt : b < w.heap.size) (hok : p.okc = true)
      (hcell : ∀ (j : Nat) (q : PV), p.cells[j]? = some q → q.one = true ∧ w.cell? ⟨b, o + j, none⟩ = some (u j))
      (hrel : ∀ (j : Nat) (q : PV), p.cells[j]? = some q → PR num w (Xof β hf) q (u j)) : VR num β hf w (.rp p off) v
  | agg {l : List AV} (vs : Array Value) (hl : l.length = vs.size) (hone : ∀ a ∈ l, a.one = true)
      (h : ∀ (i : Nat) (a : AV) (v : Value), l[i]? = some a → vs[i]? = some v → VR num β hf w a v) : VR num β hf w (.agg l) (.agg vs)
  | tup {l : List AV} (vs : Array Value) (hl : l.length = vs.size)
      (h : ∀ (i : Nat) (a : AV) (v : Value), l[i]? = some a → vs[i]? = some v → VR num β hf w a v) : VR num β hf w (.tup l) (.tuple vs)
  | fn {n : Nat} {caps : List AV} (vs : Array Value) (hl : caps.length = vs.size)
      (h : ∀ (i : Nat) (a : AV) (v : Value), caps[i]? = some a → vs[i]? = some v → VR num β hf w a v) : VR num β hf w (.fn n caps) (.func (.func (num n)) #[] vs)
  | unk {v : Value} : VR num β hf w .unk v

/-- What a block of the abstract heap stands for. -/
structure BR (num : Nat → FuncId) (β : Bet) (hf : Nat → Option Blk) (w : World) (b : Nat) (blk : Blk) : Prop where
  cells : ∃ cs T, w.heap[b]? = some (.cells cs T (0, 0)) ∧ blk.es.length * blk.sz ≤ cs.size ∧
    ∀ (i : Nat) (e : AV), blk.es[i]? = some e → e.okc = true ∧ e.cells.length = blk.sz ∧
      ∀ (j : Nat) (c : AV), e.cells[j]? = some c → c.one = true ∧ ∃ u, cs[i * blk.sz + j]? = some u ∧ u.oneCell' = true ∧ VR num β hf w c u

structure HR (num : Nat → FuncId) (β : Bet) (hf : Nat → Option Blk) (w : World) : Prop where
  blk : ∀ k b, β k = some b → ∃ bk, hf k = some bk ∧ BR num β hf w b bk
  inj : ∀ k k' b, β k = some b → β k' = some b → k = k'
  base : ∀ b, w.heap.size ≤ b → β.X0 b
  own : ∀ k b, β k = some b → β.X0 b

/-- How a world goes on: blocks that are none of the abstract heap's stay; blocks that the abstract heap's numbers stand for stay, or give way to new ones. -/
structure Goes (β : Bet) (hf : Nat → Option Blk) (w : World) (β' : Bet) (hf' : Nat → Option Blk) (w' : World) : Prop where
  os : w'.os = w.os
  tape : w'.tape = w.tape
  output : w'.output = w.output
  size : w.heap.size ≤ w'.heap.size
  keeps : ∀ b, b < w.heap.size → Kof β hf b → w'.heap[b]? = w.heap[b]?
  dom : ∀ k b, β k = some b → ∃ b', β' k = some b'
  src : ∀ k b', β' k = some b' → b' < w.heap.size → β k = some b'
  grow : ∀ k b bk, β k = some b → hf k = some bk → ∃ bk', hf' k = some bk' ∧ bk'.sz = bk.sz ∧ bk.es.length ≤ bk'.es.length ∧ (bk.fz = true → bk'.fz = true)
  same : ∀ k b bk bk', β k = some b → hf k = some bk → hf' k = some bk' → bk'.es.length = bk.es.length → β' k = some b
  room : ∀ k b cs T, β k = some b → β' k = some b → w.heap[b]? = some (.cells cs T (0, 0)) → ∃ cs' T', w'.heap[b]? = some (.cells cs' T' (0, 0)) ∧ cs.size ≤ cs'.size
  base : β'.X0 = β.X0

theorem Goes.refl (β : Bet) (hf : Nat → Option Blk) (w : World) : Goes β hf w β hf w :=
  ⟨rfl, rfl, rfl, Nat.le_refl _, fun _ _ _ => rfl, fun k b h => ⟨b, h⟩, fun k b h _ => h, fun k b bk _ h => ⟨bk, h, rfl, Nat.le_refl _, id⟩, fun k b bk bk' h _ _ _ => h, fun k b cs T _ _ h => ⟨cs, T, h, Nat.le_refl _⟩, rfl⟩

theorem Goes.K {β β' : Bet} {hf hf' : Nat → Option Blk} {w w' : World} (g : Goes β hf w β' hf' w') {b : Nat} (hX : Kof β hf b) (hb : b < w.heap.size) : Kof β' hf' b := by
  intro k hk
  have h1 := g.src k b hk hb
  obtain ⟨bk, hbk, hfz⟩ := hX k h1
  obtain ⟨bk', h2, _, _, h3⟩ := g.grow k b bk h1 hbk
  exact ⟨bk', h2, h3 hfz⟩
theorem Goes.X {β β' : Bet} {hf hf' : Nat → Option Blk} {w w' : World} (g : Goes β hf w β' hf' w') {b : Nat} (hX : Xof β hf b) (hb : b < w.heap.size) : Xof β' hf' b := by
  exact ⟨by rw [g.base]; exact hX.1, g.K hX.2 hb⟩

theorem Goes.pr {num : Nat → FuncId} {β β' : Bet} {hf hf' : Nat → Option Blk} {w w' : World} (g : Goes β hf w β' hf' w') {p : PV} {v : Value}
    (h : PR num w (Xof β hf) p v) : PR num w' (Xof β' hf') p v :=
  h.mono fun b hX hb => ⟨g.X hX hb, g.keeps b hb hX.2⟩

theorem Goes.vr {num : Nat → FuncId} {β β' : Bet} {hf hf' : Nat → Option Blk} {w w' : World} (g : Goes β hf w β' hf' w') {a : AV} {v : Value}
    (h : VR num β hf w a v) : VR num β' hf' w' a v := by
  induction h with
  | pv h => exact .pv (g.pr h)
  | @ptr k len i off v b blk hb hk hle h1 h =>
    obtain ⟨b', hb'⟩ := g.dom k b hb
    obtain ⟨bk', hk', hsz, hle', _⟩ := g.grow k b blk hb hk
    by_cases hl : bk'.es.length = blk.es.length
    · exact .ptr b bk' (g.same k b blk bk' hb hk hk' hl) hk' (by omega) h1 (fun e => by rw [hsz]; exact h (by omega))
    · exact .ptr b' bk' hb' hk' (by omega) h1 (fun e => by omega)
  | @sl k len v b blk hb hk hle hone h =>
    obtain ⟨b', hb'⟩ := g.dom k b hb
    obtain ⟨bk', hk', hsz, hle', _⟩ := g.grow k b blk hb hk
    by_cases hl : bk'.es.length = blk.es.length
    · have hs := g.same k b blk bk' hb hk hk' hl
      refine .sl b bk' hs hk' (by omega) hone (fun e => ?_)
      obtain ⟨cap, cs, T, h1, h2, h3, h4⟩ := h (by omega)
      obtain ⟨cs', T', h5, h6⟩ := g.room k b cs T hb hs h3
      exact ⟨cap, cs', T', h1, h2, h5, by rw [hsz]; omega⟩
    · exact .sl b' bk' hb' hk' (by omega) hone (fun e => by omega)
  | @asl k len i off cnt esz v b blk hb hk hle h1 h =>
    obtain ⟨b', hb'⟩ := g.dom k b hb
    obtain ⟨bk', hk', hsz, hle', _⟩ := g.grow k b blk hb hk
    by_cases hl : bk'.es.length = blk.es.length
    · exact .asl b bk' (g.same k b blk bk' hb hk hk' hl) hk' (by omega) h1 (fun e => by rw [hsz]; exact h (by omega))
    · exact .asl b' bk' hb' hk' (by omega) h1 (fun e => by omega)
  | @rp p off v b o u hv hX hlt hok hcell hrel =>
    exact .rp b o u hv (g.X hX hlt) (Nat.lt_of_lt_of_le hlt g.size) hok (fun j q hj => ⟨(hcell j q hj).1, by rw [cell_same (g.keeps b hlt hX.2)]; exact (hcell j q hj).2⟩) (fun j q hj => g.pr (hrel j q hj))
  | agg vs hl hone h ih => exact .agg vs hl hone ih
  | tup vs hl h ih => exact .tup vs hl ih
  | fn vs hl h ih => exact .fn vs hl ih
  | unk => exact .unk

theorem Goes.trans {β β1 β2 : Bet} {hf hf1 hf2 : Nat → Option Blk} {w w1 w2 : World} (g : Goes β hf w β1 hf1 w1) (h : Goes β1 hf1 w1 β2 hf2 w2) : Goes β hf w β2 hf2 w2 := by
  refine ⟨h.os.trans g.os, h.tape.trans g.tape, h.output.trans g.output, Nat.le_trans g.size h.size, ?_, ?_, ?_, ?_, ?_, ?_, h.base.trans g.base⟩
  · intro b hb hX
    rw [h.keeps b (Nat.lt_of_lt_of_le hb g.size) (g.K hX hb), g.keeps b hb hX]
  · intro k b hk
    obtain ⟨b1, h1⟩ := g.dom k b hk
    exact h.dom k b1 h1
  · intro k b hk hb
    exact g.src k b (h.src k b hk (Nat.lt_of_lt_of_le hb g.size)) hb
  · intro k b bk hk hbk
    obtain ⟨b1, hb1⟩ := g.dom k b hk
    obtain ⟨bk1, h1, h2, h3, h4⟩ := g.grow k b bk hk hbk
    obtain ⟨bk2, h5, h6, h7, h8⟩ := h.grow k b1 bk1 hb1 h1
    exact ⟨bk2, h5, h6.trans h2, Nat.le_trans h3 h7, fun e => h8 (h4 e)⟩
  · intro k b bk bk2 hk hbk hbk2 hl
    obtain ⟨b1, hb1⟩ := g.dom k b hk
    obtain ⟨bk1, h1, _, h3, _⟩ := g.grow k b bk hk hbk
    obtain ⟨bk2', h5, _, h7, _⟩ := h.grow k b1 bk1 hb1 h1
    rw [hbk2] at h5; injection h5 with h5; subst h5
    exact h.same k b bk1 bk2 (g.same k b bk bk1 hk hbk h1 (by omega)) h1 hbk2 (by omega)
  · intro k b cs T hk hk2 hc
    have hlt : b < w.heap.size := blk_lt hc
    have hk1 := h.src k b hk2 (Nat.lt_of_lt_of_le hlt g.size)
    obtain ⟨cs1, T1, h1, h2⟩ := g.room k b cs T hk hk1 hc
    obtain ⟨cs2, T2, h3, h4⟩ := h.room k b cs1 T1 hk1 hk2 h1
    exact ⟨cs2, T2, h3, Nat.le_trans h2 h4⟩

theorem AV.one_okc {a : AV} (h : a.one = true) : a.okc = true := by
  cases a <;> simp_all [AV.one, AV.okc]
  rename_i p; cases p <;> simp_all [PV.one, PV.okc]
theorem VR.one_cell {num : Nat → FuncId} {β : Bet} {hf : Nat → Option Blk} {w : World} {a : AV} {v : Value} (h : VR num β hf w a v) (h1 : a.one = true) : v.oneCell' = true := by
  cases h with
  | pv h => exact h.one_cell h1
  | ptr b blk hb hk hle h1 h => exact h1
  | sl b blk hb hk hle h1 h => exact h1
  | asl b blk hb hk hle h1 h => exact h1
  | rp b o u hv => rw [hv]; rfl
  | agg => cases h1
  | tup => cases h1
  | fn => rfl
  | unk => cases h1

/-- The cells of a value that may lie in memory. -/
theorem VR.cells {num : Nat → FuncId} {β : Bet} {hf : Nat → Option Blk} {w : World} {a : AV} {v : Value} (h : VR num β hf w a v) (h1 : a.okc = true) :
    a.cells.length = v.cells.size ∧ ∀ (j : Nat) (c : AV), a.cells[j]? = some c → c.one = true ∧ ∃ u, v.cells[j]? = some u ∧ u.oneCell' = true ∧ VR num β hf w c u := by
  by_cases hone : a.one = true
  · have hv := h.one_cell hone
    have ha : a.cells = [a] := by
      cases a <;> simp_all [AV.one, AV.cells]
      rename_i p; cases p <;> simp_all [PV.one, PV.cells]
    have hc : v.cells = #[v] := by cases v <;> simp_all [Value.cells, Value.oneCell']
    rw [ha, hc]
    refine ⟨rfl, fun j c hj => ?_⟩
    cases j with
    | zero => simp at hj; subst hj; exact ⟨hone, v, rfl, hv, h⟩
    | succ j => simp at hj
  · cases h with
    | pv h =>
      cases h with
      | agg vs hl hone' h =>
        refine ⟨by simp [AV.cells, PV.cells, Value.cells, hl], fun j c hj => ?_⟩
        simp only [AV.cells, PV.cells, List.getElem?_map, Option.map_eq_some_iff] at hj
        obtain ⟨p, hp, rfl⟩ := hj
        have hlt : j < vs.size := by rw [← hl]; exact (List.getElem?_eq_some_iff.1 hp).1
        have h2 := h j p vs[j] hp (Array.getElem?_eq_getElem hlt)
        have h3 := hone' p (List.mem_of_getElem? hp)
        exact ⟨h3, vs[j], Array.getElem?_eq_getElem hlt, h2.one_cell h3, .pv h2⟩
      | tup => simp [AV.okc, PV.okc] at h1
      | _ => simp [AV.one, PV.one] at hone
    | agg vs hl hone' h =>
      refine ⟨hl, fun j c hj => ?_⟩
      have hlt : j < vs.size := by rw [← hl]; exact (List.getElem?_eq_some_iff.1 hj).1
      have h2 := h j c vs[j] hj (Array.getElem?_eq_getElem hlt)
      have h3 := hone' c (List.mem_of_getElem? hj)
      exact ⟨h3, vs[j], Array.getElem?_eq_getElem hlt, h2.one_cell h3, h2⟩
    | tup => simp [AV.okc] at h1
    | unk => simp [AV.okc] at h1
    | _ => simp [AV.one] at hone
end Dk
