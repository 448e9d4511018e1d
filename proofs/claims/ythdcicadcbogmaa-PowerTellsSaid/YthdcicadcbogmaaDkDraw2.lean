/- Regions drawn: the check, and that it is enough. -/
import Derived.Test.YthdcicadcbogmaaDkDraw
set_option linter.all false
namespace Dk
open Go Go.RowKit
variable {P : Program} {num : Nat → FuncId} {ext : Ext}

def aftOf (o : Oper) : List Nat := (o.after.toList.filter (Region.binds .any)).map (·.on)
def unionL (a b : List Nat) : List Nat := a.foldl (fun l x => if l.contains x then l else x :: l) b
theorem mem_unionL {x : Nat} : ∀ {a b : List Nat}, x ∈ unionL a b → x ∈ a ∨ x ∈ b
  | [], b, h => .inr h
  | y :: a, b, h => by
    have h2 : x ∈ unionL a (if b.contains y then b else y :: b) := h
    rcases mem_unionL h2 with h3 | h3
    · exact .inl (List.mem_cons_of_mem _ h3)
    · split at h3
      · exact .inr h3
      · rcases List.mem_cons.1 h3 with h4 | h4
        · exact .inl (by simp [h4])
        · exact .inr h4
def predsOf (acc : List (List Nat)) : List Nat → List Nat
  | [] => []
  | i :: l => unionL (i :: acc.getD i []) (predsOf acc l)
def predsAux : List (List Nat) → List Oper → List (List Nat)
  | acc, [] => acc
  | acc, o :: l => predsAux (acc ++ [predsOf acc (aftOf o)]) l
def preds (l : List Oper) : List (List Nat) := predsAux [] l

theorem mem_predsOf {acc : List (List Nat)} {x : Nat} : ∀ {l : List Nat}, x ∈ predsOf acc l → ∃ i ∈ l, x = i ∨ x ∈ acc.getD i []
  | [], h => by cases h
  | i :: l, h => by
    rcases mem_unionL h with h | h
    · rcases List.mem_cons.1 h with h | h
      · exact ⟨i, by simp, .inl h⟩
      · exact ⟨i, by simp, .inr h⟩
    · obtain ⟨j, h1, h2⟩ := mem_predsOf h
      exact ⟨j, List.mem_cons_of_mem _ h1, h2⟩

/-- What must come first of all is in any set that is closed. -/
theorem predsAux_closed {D : Nat → Prop} {all : List Oper} (hD : ∀ j o, all[j]? = some o → D j → ∀ i ∈ aftOf o, D i) : ∀ (l : List Oper) (acc : List (List Nat)),
    (∀ j, l[j]? = all[acc.length + j]?) → (∀ j x, x ∈ acc.getD j [] → ∀ o, all[j]? = some o → (∀ i ∈ aftOf o, D i) → D x) → (∀ j, acc.length + l.length ≤ j → all[j]? = none) →
    ∀ j x, x ∈ (predsAux acc l).getD j [] → ∀ o, all[j]? = some o → (∀ i ∈ aftOf o, D i) → D x
  | [], acc, _, h, _ => h
  | o :: l, acc, hl, h, hn => by
    refine predsAux_closed hD l _ (fun j => ?_) (fun j x hx o' ho' ha => ?_) fun j hj => hn j (by simp at hj; simp; omega)
    · have := hl (j + 1)
      simpa [Nat.add_assoc, Nat.add_comm 1 j] using this
    · by_cases hj : j < acc.length
      · simp only [List.getD_eq_getElem?_getD, List.getElem?_append_left hj] at hx; rw [← List.getD_eq_getElem?_getD] at hx
        exact h j x hx o' ho' ha
      · by_cases hj2 : j = acc.length
        · subst hj2
          have h0 : all[acc.length]? = some o := by simpa using (hl 0).symm
          rw [h0] at ho'; cases ho'
          have hx : x ∈ predsOf acc (aftOf o) := by simpa using hx
          obtain ⟨i, hi, hxi⟩ := mem_predsOf hx
          rcases hxi with rfl | hxi
          · exact ha _ hi
          · have hDi := ha i hi
            cases hai : all[i]? with
            | some oi => exact h i x hxi oi hai fun q hq => hD i oi hai hDi q hq
            | none =>
              by_cases hil : i < acc.length
              · have : acc.length < all.length := (List.getElem?_eq_some_iff.1 h0).1
                rw [List.getElem?_eq_none_iff] at hai; omega
              · rw [List.getD_eq_getElem?_getD, List.getElem?_eq_none (by omega)] at hxi; cases hxi
        · rw [List.getD_eq_getElem?_getD, List.getElem?_eq_none (by simp; omega)] at hx; cases hx
theorem preds_closed {D : Nat → Prop} {all : List Oper} (hD : ∀ j o, all[j]? = some o → D j → ∀ i ∈ aftOf o, D i) {j x : Nat} (hx : x ∈ (preds all).getD j []) {o : Oper} (ho : all[j]? = some o) (ha : ∀ i ∈ aftOf o, D i) : D x :=
  predsAux_closed hD all [] (by simp) (by simp) (fun j hj => List.getElem?_eq_none_iff.2 (by simpa using hj)) j x hx o ho ha

def namesOf (sp : SP) : List Nat := sp.op.slots ++ (match sp.g with | some (t, _) => [t] | none => [])
def quietOp : SO → Bool
  | .move _ | .pick .. | .build .. | .bin .. | .eqA .. | .eqB .. | .un .. | .conv .. | .convBS _ | .mkfn .. | .sliceStr .. | .lenStr _ | .field .. | .index .. | .indexStr .. | .extract .. | .mn .. | .mx .. | .lookup .. => true
  | _ => false
def okPair (pr : List (List Nat)) (free : List (Nat × Nat)) (i : Nat) (sp : SP) (j : Nat) (sq : SP) : Bool :=
  (match sp.dst, sq.dst with | some d, some e => !Nat.beq d e | _, _ => true) &&
  ((pr.getD j []).contains i ||
    ((match sp.dst with | some d => !(namesOf sq).contains d | none => true) && (match sq.dst with | some d => !(namesOf sp).contains d | none => true) &&
      (quietOp sp.op || quietOp sq.op || free.contains (i, j))))
def okAgainst (pr : List (List Nat)) (free : List (Nat × Nat)) (i : Nat) (sp : SP) : Nat → List SP → Bool
  | _, [] => true
  | j, sq :: l => okPair pr free i sp j sq && okAgainst pr free i sp (j + 1) l
def okPairs (pr : List (List Nat)) (free : List (Nat × Nat)) : Nat → List SP → Bool
  | _, [] => true
  | i, sp :: l => okAgainst pr free i sp (i + 1) l && okPairs pr free (i + 1) l
def okLow : Nat → List Oper → Bool
  | _, [] => true
  | i, o :: l => (aftOf o).all (fun j => Nat.blt j i) && okLow (i + 1) l
def okDraw (ops : List Oper) (sps : List SP) (free : List (Nat × Nat)) : Bool := okLow 0 ops && okPairs (preds ops) free 0 sps

theorem okAgainst_spec {pr : List (List Nat)} {free : List (Nat × Nat)} {i : Nat} {sp : SP} : ∀ {l : List SP} {j : Nat}, okAgainst pr free i sp j l = true → ∀ k sq, l[k]? = some sq → okPair pr free i sp (j + k) sq = true
  | [], _, _, _, _, h => by simp at h
  | x :: l, j, h, k, sq, hk => by
    simp only [okAgainst, Bool.and_eq_true] at h
    cases k with
    | zero => simp at hk; subst hk; exact h.1
    | succ k => have := okAgainst_spec h.2 k sq (by simpa using hk); rwa [show j + 1 + k = j + (k + 1) from by omega] at this
theorem okPairs_spec {pr : List (List Nat)} {free : List (Nat × Nat)} : ∀ {l : List SP} {b : Nat}, okPairs pr free b l = true → ∀ i j sp sq, i < j → l[i]? = some sp → l[j]? = some sq → okPair pr free (b + i) sp (b + j) sq = true
  | [], _, _, _, _, _, _, _, h, _ => by simp at h
  | x :: l, b, h, i, j, sp, sq, hij, hi, hj => by
    simp only [okPairs, Bool.and_eq_true] at h
    cases j with
    | zero => omega
    | succ j =>
      cases i with
      | zero =>
        simp at hi; subst hi
        have := okAgainst_spec h.1 j sq (by simpa using hj); rwa [show b + 1 + j = b + (j + 1) from by omega] at this
      | succ i =>
        have := okPairs_spec h.2 i j sp sq (by omega) (by simpa using hi) (by simpa using hj)
        rwa [show b + 1 + j = b + (j + 1) from by omega, show b + 1 + i = b + (i + 1) from by omega] at this
theorem okLow_spec : ∀ {l : List Oper} {b : Nat}, okLow b l = true → ∀ j o, l[j]? = some o → ∀ i ∈ aftOf o, i < b + j
  | [], _, _, _, _, h => by simp at h
  | x :: l, b, h, j, o, ho => by
    simp only [okLow, Bool.and_eq_true, List.all_eq_true] at h
    cases j with
    | zero => simp at ho; subst ho; intro i hi; have := h.1 i hi; rw [Nat.blt_eq] at this; exact this
    | succ j => intro i hi; have := okLow_spec h.2 j o (by simpa using ho) i hi; omega

theorem okOpers_spec {ntmps : Nat} {ops : Array Oper} : ∀ {l : List Oper} {sps : List SP}, okOpers P num ntmps ops l sps = true → l.length = sps.length ∧ ∀ (i : Nat) o sp, l[i]? = some o → sps[i]? = some sp → okOper P num ntmps ops o sp = true
  | [], [], _ => ⟨rfl, by simp⟩
  | [], _ :: _, h => by cases h
  | _ :: _, [], h => by cases h
  | o :: l, sp :: sps, h => by
    simp only [okOpers, Bool.and_eq_true] at h
    obtain ⟨h1, h2⟩ := okOpers_spec h.2
    refine ⟨by simp [h1], fun i o' sp' ho hsp => ?_⟩
    cases i with
    | zero => simp at ho hsp; subst ho; subst hsp; exact h.1
    | succ i => exact h2 i o' sp' (by simpa using ho) (by simpa using hsp)

theorem step_quiet {T : Slots} {H : Heap} {so : SO} {v : AV} {eff : Eff} (hq : quietOp so = true) (h : step ext T H so = some (v, eff)) : touch ext T so = some ([], []) ∧ eff = .none := by
  cases so <;> simp [quietOp] at hq <;> refine ⟨rfl, ?_⟩ <;> simp only [step, omap_match] at h <;> grind

/-- What one operation does, wanted or not. -/
structure OneF (ext : Ext) (sp : SP) (T : Slots) (H : Heap) (T1 : Slots) (H1 : Heap) (v : AV) (eff : Eff) (tt : Option (List Nat × List Nat)) : Prop where
  slots : T1 = T.put sp.dst v
  heap : H1 = eff.on H
  le : H.length ≤ H1.length
  put : ∀ k b, eff = .put k b → k < H.length ∧ ∀ R W, tt = some (R, W) → k ∈ W
  all : ∀ H', eff = .heap H' → tt = none
  frz : ∀ ks, eff = .frz ks → ∀ k ∈ ks, ∀ R W, tt = some (R, W) → k ∈ W
  lt : ∀ R W, tt = some (R, W) → ∀ k, k ∈ R ∨ k ∈ W → k < H.length
  quiet : quietOp sp.op = true → tt = some ([], []) ∧ eff = .none
  known : known T sp.g = true
  or : (wants T sp.g = true ∧ step ext T H sp.op = some (v, eff) ∧ tt = touch ext T sp.op) ∨ (wants T sp.g = false ∧ v = .pv .undef ∧ eff = .none)

theorem oneF {sp : SP} {T T1 : Slots} {H H1 : Heap} (h : step1 ext sp T H = some (T1, H1)) : ∃ v eff, OneF ext sp T H T1 H1 v eff (if wants T sp.g then touch ext T sp.op else some ([], [])) := by
  unfold step1 at h
  split at h
  · rename_i hk
    split at h
    · rename_i hw
      simp only [Option.map_eq_some_iff, Prod.mk.injEq] at h
      obtain ⟨⟨v, e⟩, h1, rfl, rfl⟩ := h
      have ht := step_touch h1
      refine ⟨v, e, rfl, rfl, step_le h1, ?_, ?_, ?_, ?_, ?_, hk, .inl ⟨hw, h1, ?_⟩⟩
      · rw [if_pos hw]; exact ht.put
      · rw [if_pos hw]; exact fun H' e => (ht.heap H' e).2
      · rw [if_pos hw]; exact ht.frz
      · rw [if_pos hw]; exact ht.lt
      · rw [if_pos hw]; exact fun hq => step_quiet hq h1
      · rw [if_pos hw]
    · rename_i hw
      simp only [Option.some.injEq, Prod.mk.injEq] at h
      obtain ⟨rfl, rfl⟩ := h
      refine ⟨.pv .undef, .none, rfl, rfl, Nat.le_refl _, (fun k b e => by cases e), (fun H' e => by cases e), (fun ks e => by cases e), ?_, fun _ => ?_, hk, .inr ⟨by simpa using hw, rfl, rfl⟩⟩
      · rw [if_neg hw]
        intro R W e k hk
        cases e
        rcases hk with hk | hk <;> cases hk
      · rw [if_neg hw]; exact ⟨rfl, rfl⟩
  · cases h

theorem steps_trace : ∀ (sps : List SP) (T : Slots) (H : Heap) (T' : Slots) (H' : Heap), steps ext sps T H = some (T', H') →
    ∃ (Ts : Nat → Slots) (Hs : Nat → Heap), Ts 0 = T ∧ Hs 0 = H ∧ Ts sps.length = T' ∧ Hs sps.length = H' ∧
      ∀ i sp, sps[i]? = some sp → step1 ext sp (Ts i) (Hs i) = some (Ts (i + 1), Hs (i + 1)) ∧ (touches ext sps T H).getD i none = if wants (Ts i) sp.g then touch ext (Ts i) sp.op else some ([], [])
  | [], T, H, T', H', h => by
    simp only [steps, Option.some.injEq, Prod.mk.injEq] at h
    obtain ⟨rfl, rfl⟩ := h
    exact ⟨fun _ => T, fun _ => H, rfl, rfl, rfl, rfl, by simp⟩
  | sp :: l, T, H, T', H', h => by
    simp only [steps] at h
    split at h
    · rename_i T1 H1 h1
      obtain ⟨Ts, Hs, e1, e2, e3, e4, e5⟩ := steps_trace l T1 H1 T' H' h
      refine ⟨fun i => match i with | 0 => T | i + 1 => Ts i, fun i => match i with | 0 => H | i + 1 => Hs i, rfl, rfl, e3, e4, fun i sq hi => ?_⟩
      cases i with
      | zero =>
        simp at hi; subst hi
        refine ⟨by simp only [e1, e2]; exact h1, ?_⟩
        simp [touches]
      | succ i =>
        obtain ⟨g1, g2⟩ := e5 i sq (by simpa using hi)
        refine ⟨g1, ?_⟩
        simp only [touches, h1, List.getD_cons_succ]
        exact g2
    · cases h

theorem Goes.here {β : Bet} {hf hf2 : Nat → Option Blk} {w w' : World} (h1 : w'.os = w.os) (h2 : w'.tape = w.tape) (h3 : w'.output = w.output) (h4 : w'.heap = w.heap) (h : ∀ k b, β k = some b → hf2 k = hf k) : Goes β hf w β hf2 w' :=
  ⟨h1, h2, h3, by rw [h4]; exact Nat.le_refl _, fun _ _ _ => by rw [h4], fun k b hb => ⟨b, hb⟩, fun k b hb _ => hb, fun k b bk hb hk => ⟨bk, by rw [h k b hb, hk], rfl, Nat.le_refl _, id⟩,
    fun k b bk bk' hb _ _ _ => hb, fun k b cs T _ _ hc => ⟨cs, T, by rw [h4]; exact hc, Nat.le_refl _⟩, rfl⟩
theorem HR.here {β : Bet} {hf hf2 : Nat → Option Blk} {w w' : World} (hr : HR num β hf w) (g : Goes β hf w β hf2 w') (h4 : w'.heap = w.heap) (h : ∀ k b, β k = some b → hf2 k = hf k) : HR num β hf2 w' := by
  refine ⟨fun k b hb => ?_, hr.inj, fun b hb => hr.base b (by rw [← h4]; exact hb), hr.own⟩
  obtain ⟨bk, hk, hB⟩ := hr.blk k b hb
  refine ⟨bk, by rw [h k b hb, hk], ?_⟩
  obtain ⟨cs, T, h5, h6, h7⟩ := hB.cells
  refine ⟨cs, T, by rw [h4]; exact h5, h6, fun i e he => ?_⟩
  obtain ⟨h8, h9, h10⟩ := h7 i e he
  refine ⟨h8, h9, fun j c hc => ?_⟩
  obtain ⟨g1, u, g2, g3, g4⟩ := h10 j c hc
  exact ⟨g1, u, g2, g3, g.vr g4⟩

section
variable {ntmps : Nat} {ops : Array Oper} {sps : List SP} {free : List (Nat × Nat)} {Ts : Nat → Slots} {Hs : Nat → Heap} {tl : List (Option (List Nat × List Nat))}

def dstOf (sps : List SP) (i : Nat) : Option Nat := (sps[i]?).bind (·.dst)
def namesAt (sps : List SP) (i : Nat) : List Nat := match sps[i]? with | some sp => namesOf sp | none => []
def quietAt (sps : List SP) (i : Nat) : Bool := match sps[i]? with | some sp => quietOp sp.op | none => false
def befOf (ops : Array Oper) (i j : Nat) : Prop := i ∈ (preds ops.toList).getD j []

theorem trace_of (hdr : okDraw ops.toList sps free = true) (hst : ∀ i sp, sps[i]? = some sp → step1 ext sp (Ts i) (Hs i) = some (Ts (i + 1), Hs (i + 1)) ∧ tl.getD i none = if wants (Ts i) sp.g then touch ext (Ts i) sp.op else some ([], []))
    (hf : freeOk tl free = true) : Trace sps.length Ts Hs (dstOf sps) (fun i => tl.getD i none) (namesAt sps) (quietAt sps) (befOf ops) := by
  simp only [okDraw, Bool.and_eq_true] at hdr
  have hone : ∀ i, i < sps.length → ∃ sp v eff, sps[i]? = some sp ∧ OneF ext sp (Ts i) (Hs i) (Ts (i + 1)) (Hs (i + 1)) v eff (tl.getD i none) := fun i hi => by
    have hsp := List.getElem?_eq_getElem hi
    obtain ⟨h1, h2⟩ := hst i _ hsp
    obtain ⟨v, eff, h3⟩ := oneF h1
    rw [← h2] at h3
    exact ⟨_, v, eff, hsp, h3⟩
  have hpair : ∀ i j, i < j → j < sps.length → ∃ sp sq, sps[i]? = some sp ∧ sps[j]? = some sq ∧ okPair (preds ops.toList) free i sp j sq = true := fun i j hij hj => by
    have h1 := List.getElem?_eq_getElem (show i < sps.length by omega)
    have h2 := List.getElem?_eq_getElem hj
    have := okPairs_spec hdr.2 i j _ _ hij h1 h2
    simp only [Nat.zero_add] at this
    exact ⟨_, _, h1, h2, this⟩
  refine ⟨fun i hi => ?_, fun i hi k hk => ?_, fun i hi => ?_, fun i hi t ht => ?_, fun i hi hq => ?_, fun i j hij hj t ht ht2 => ?_, fun i j hij hj t ht => ?_, fun i j hij hj => ?_⟩
  · obtain ⟨sp, v, eff, h1, h2⟩ := hone i hi; exact h2.le
  · obtain ⟨sp, v, eff, h1, h2⟩ := hone i hi
    rw [h2.heap] at hk
    cases eff with
    | none => exact absurd rfl hk
    | push b =>
      refine .inl (Nat.le_of_not_lt fun h => hk ?_)
      simp only [Eff.on]; rw [List.getElem?_append_left h]
    | put k1 b =>
      have : k = k1 := Classical.byContradiction fun e => hk (by simp only [Eff.on]; rw [List.getElem?_set_ne (fun h => e h.symm)])
      subst this
      exact .inr (h2.put k b rfl).2
    | heap H' => exact .inr fun R W e => by rw [h2.all H' rfl] at e; cases e
    | frz ks =>
      have e : k ∈ ks := by
        refine Classical.byContradiction fun e => hk ?_
        have : frzB ks k = id := by funext b; simp [frzB, e]
        simp only [Eff.on, List.getElem?_mapIdx, this]; simp
      exact .inr (h2.frz ks rfl k e)
  · obtain ⟨sp, v, eff, h1, h2⟩ := hone i hi; exact h2.lt
  · obtain ⟨sp, v, eff, h1, h2⟩ := hone i hi
    rw [h2.slots]
    cases hd : sp.dst with
    | none => rfl
    | some d => exact get_put_ne _ _ fun e => ht (by simp [dstOf, h1, hd, e])
  · obtain ⟨sp, v, eff, h1, h2⟩ := hone i hi
    simp only [quietAt, h1] at hq
    obtain ⟨h3, h4⟩ := h2.quiet hq
    exact ⟨fun k => by rw [h2.heap, h4]; rfl, h3⟩
  · obtain ⟨sp, sq, h1, h2, h3⟩ := hpair i j hij hj
    simp only [dstOf, h1, h2, Option.bind_some] at ht ht2
    simp only [okPair, ht, ht2, Bool.and_eq_true] at h3
    have := h3.1
    rw [Nat.beq_refl] at this; cases this
  · obtain ⟨sp, sq, h1, h2, h3⟩ := hpair i j hij hj
    simp only [dstOf, namesAt, h1, h2, Option.bind_some] at ht
    simp only [okPair, Bool.and_eq_true, Bool.or_eq_true] at h3
    rcases h3.2 with h4 | ⟨⟨h4, h5⟩, h6⟩
    · exact List.contains_iff_mem.1 h4
    · rcases ht with ⟨ht, hn⟩ | ⟨ht, hn⟩
      · rw [ht] at h4; simp at h4; exact absurd hn h4
      · rw [ht] at h5; simp at h5; exact absurd hn h5
  · obtain ⟨sp, sq, h1, h2, h3⟩ := hpair i j hij hj
    simp only [quietAt, h1, h2]
    simp only [okPair, Bool.and_eq_true, Bool.or_eq_true] at h3
    rcases h3.2 with h4 | ⟨_, h4⟩
    · exact .inl (List.contains_iff_mem.1 h4)
    · rcases h4 with (h4 | h4) | h4
      · exact .inr (.inl h4)
      · exact .inr (.inr (.inl h4))
      · refine .inr (.inr (.inr ?_))
        simp only [freeOk, List.all_eq_true] at hf
        exact hf (i, j) (List.contains_iff_mem.1 h4)

theorem ready_mem {listed : Array Bool} {i : Nat} (h : i ∈ Region.ready .any ops listed) : i < ops.size ∧ listed.getD i true = false ∧ ∃ o, ops[i]? = some o ∧ ∀ j ∈ aftOf o, listed.getD j false = true := by
  simp only [Region.ready, List.mem_filter, List.mem_range, Bool.and_eq_true, Bool.not_eq_true'] at h
  obtain ⟨h1, h2, h3⟩ := h
  refine ⟨h1, h2, ops[i], Array.getElem?_eq_getElem h1, fun j hj => ?_⟩
  rw [Array.getElem?_eq_getElem h1] at h3
  simp only [Option.map_some, Option.getD_some] at h3
  simp only [aftOf, List.mem_map, List.mem_filter] at hj
  obtain ⟨e, ⟨he, hb⟩, rfl⟩ := hj
  have := Array.all_eq_true_iff_forall_mem.1 h3 e (Array.mem_toList_iff.1 he)
  simpa [hb] using this
theorem ready_of {listed : Array Bool} {i : Nat} (h1 : i < ops.size) (h2 : listed.getD i true = false) (h3 : ∀ o, ops[i]? = some o → ∀ j ∈ aftOf o, listed.getD j false = true) : i ∈ Region.ready .any ops listed := by
  simp only [Region.ready, List.mem_filter, List.mem_range, Bool.and_eq_true, Bool.not_eq_true']
  refine ⟨h1, h2, ?_⟩
  rw [Array.getElem?_eq_getElem h1]
  simp only [Option.map_some, Option.getD_some]
  refine Array.all_eq_true_iff_forall_mem.2 fun e he => ?_
  have := h3 _ (Array.getElem?_eq_getElem h1) e.on
  simp only [aftOf, List.mem_map, List.mem_filter] at this
  by_cases hb : Region.binds .any e = true
  · simp [this ⟨e, ⟨Array.mem_toList_iff.2 he, hb⟩, rfl⟩]
  · simp [hb]

theorem all_listed (hlow : okLow 0 ops.toList = true) {listed : Array Bool} (hs : listed.size = ops.size) (h : Region.ready .any ops listed = []) : ∀ i, i < ops.size → listed.getD i false = true := by
  intro i
  induction i using Nat.strongRecOn with
  | _ i ih =>
    intro hi
    refine Classical.byContradiction fun hn => ?_
    have hg : listed.getD i true = false := by
      simp only [Array.getD_eq_getD_getElem?, Array.getElem?_eq_getElem (show i < listed.size by omega), Option.getD_some] at hn ⊢
      simpa using hn
    have := ready_of hi hg fun o ho j hj => by
      have := okLow_spec hlow i o (by simpa using ho) j hj
      exact ih j (by omega) (by omega)
    rw [h] at this; cases this
end
end Dk
