/- Functions that fit are sound. -/
import Derived.Test.YthdcicadcbogmaaDkCode
set_option linter.all false
namespace Dk
open Go Go.RowKit
variable {P : Program} {num : Nat → FuncId} {ext : Ext}

def okRes (P : Program) : List ResultVar → List SR → Bool
  | [], [] => true
  | .tmp t :: l, .tmp u :: m => Nat.beq t u && okRes P l m
  | .cell a t :: l, .cell b m' :: m => Nat.beq a b && okM P t m' && okRes P l m
  | _, _ => false
def okFn (P : Program) (num : Nat → FuncId) (f : FuncId) (sf : SF) : Bool :=
  match P.funcs[f]? with
  | some fn => (match fn.body with
    | some c => okCode P num fn.ntmps c sf.body
    | none => false) && okRes P fn.results.toList sf.results && Nat.ble sf.params fn.ntmps
  | none => false

def resRun (tmps : Array Value) : ResultVar → Sem Value
  | .tmp t => pure (tmps.getD t undef)
  | .cell a t => do loadVar t (← asAddr (tmps.getD a undef))
theorem results_eq {fn : Func} {tmps : Array Value} : Go.results fn tmps = (do
    let vs ← fn.results.mapM (resRun tmps)
    pure (if h : vs.size = 1 then vs[0] else .tuple vs)) := by
  show (do
    let vs ← fn.results.mapM fun (x : ResultVar) => match x with
      | .tmp t => pure (tmps.getD t undef)
      | .cell a t => (do loadVar t (← asAddr (tmps.getD a undef)) : Sem Value)
    pure (if h : vs.size = 1 then vs[0] else .tuple vs) : Sem Value) = _
  have : (fun (x : ResultVar) => match x with
    | .tmp t => pure (tmps.getD t undef)
    | .cell a t => (do loadVar t (← asAddr (tmps.getD a undef)) : Sem Value)) = resRun tmps := by
    funext r; cases r <;> rfl
  rw [this]

section
variable {β : Bet} {w : World} {T : Slots} {H : Heap} {n : Nat} {a : Act}

theorem res_one {r : ResultVar} {sr : SR} {l : List ResultVar} {m : List SR} (hst : St num β T H n a w) (hok : okRes P (r :: l) (sr :: m) = true) {v : AV} (h : resOf T H sr = some v) :
    ∃ u, (resRun a.tmps r).run P w = .ok u w ∧ VR num β (fun k => H[k]?) w v u := by
  cases r with
  | tmp t =>
    cases sr with
    | tmp u =>
      simp only [okRes, Bool.and_eq_true] at hok
      have := Nat.eq_of_beq_eq_true hok.1; subst this
      simp only [resOf, Option.some.injEq] at h
      subst h
      exact ⟨_, rfl, hst.sl t⟩
    | cell => simp [okRes] at hok
  | cell ad t =>
    cases sr with
    | tmp => simp [okRes] at hok
    | cell b m' =>
      simp only [okRes, Bool.and_eq_true] at hok
      have := Nat.eq_of_beq_eq_true hok.1.1; subst this
      simp only [resOf] at h
      split at h
      · rename_i k len i off hp
        split at h
        · rename_i bk hg
          split at h
          · rename_i e he
            have hx := hst.sl ad
            rw [hp] at hx
            obtain ⟨b, hb, hk, hv, hB⟩ := ptr_at hst.hr (fun _ _ _ _ => rfl) hx hg
            obtain ⟨h1, h2, h3⟩ := hB.at he
            obtain ⟨u, hu, hvr⟩ := run_load (P := P) hok.1.2 h3 h
            refine ⟨u, ?_, hvr⟩
            have e1 : (Instr.loadAt t (.pointer (some ⟨b, i * bk.sz + off, none⟩))) = loadVar t ⟨b, i * bk.sz + off, none⟩ := by simp [Instr.loadAt, Instr.sureAddr]
            rw [e1] at hu
            simp only [resRun, hv, asAddr]
            exact hu
          · cases h
        · cases h
      · cases h

theorem res_all : ∀ {l : List ResultVar} {m : List SR} (_ : St num β T H n a w) (_ : okRes P l m = true) {vs : List AV} (_ : resAll T H m = some vs),
    ∃ us : List Value, (l.mapM (resRun a.tmps)).run P w = .ok us w ∧ us.length = vs.length ∧ us.length = l.length ∧ ∀ (i : Nat) (v : AV) (u : Value), vs[i]? = some v → us[i]? = some u → VR num β (fun k => H[k]?) w v u
  | [], [], _, _, vs, h => by
    simp only [resAll, Option.some.injEq] at h; subst h
    exact ⟨[], rfl, rfl, rfl, by simp⟩
  | [], _ :: _, _, hok, _, _ => by simp [okRes] at hok
  | r :: _, [], _, hok, _, _ => by cases r <;> simp [okRes] at hok
  | r :: l, sr :: m, hst, hok, vs, h => by
    simp only [resAll] at h
    split at h
    · rename_i v vs' h1 h2
      simp only [Option.some.injEq] at h; subst h
      obtain ⟨u, hu, hvr⟩ := res_one hst hok h1
      have hok2 : okRes P l m = true := by
        cases r <;> cases sr <;> simp only [okRes, Bool.and_eq_true] at hok <;> first | exact hok.2 | cases hok
      obtain ⟨us, g1, g2, g3, g4⟩ := res_all hst hok2 h2
      refine ⟨u :: us, ?_, by simp [g2], by simp [g3], fun i v' u' hv' hu' => ?_⟩
      · simp [List.mapM_cons, Sem.run_bind, hu, g1]
      · cases i with
        | zero => simp at hv' hu'; subst hv'; subst hu'; exact hvr
        | succ i => exact g4 i v' u' (by simpa using hv') (by simpa using hu')
    · cases h

theorem okRes_length : ∀ {l : List ResultVar} {m : List SR}, okRes P l m = true → l.length = m.length
  | [], [], _ => rfl
  | [], _ :: _, h => by simp [okRes] at h
  | r :: _, [], h => by cases r <;> simp [okRes] at h
  | r :: l, sr :: m, h => by
    have : okRes P l m = true := by
      cases r <;> cases sr <;> simp only [okRes, Bool.and_eq_true] at h <;> first | exact h.2 | cases h
    simp [okRes_length this]

theorem results_sound {fn : Func} {m : List SR} (hst : St num β T H n a w) (hok : okRes P fn.results.toList m = true) {v : AV} (h : Dk.results T H m = some v) :
    ∃ u, (Go.results fn a.tmps).run P w = .ok u w ∧ VR num β (fun k => H[k]?) w v u := by
  have hlen := okRes_length hok
  have hall : ∃ vs, resAll T H m = some vs ∧ (vs.length = 1 → vs = [v]) ∧ (vs.length ≠ 1 → v = mkTup vs) ∧ vs.length = m.length := by
    have hl : ∀ {m : List SR} {vs : List AV}, resAll T H m = some vs → vs.length = m.length := by
      intro m
      induction m with
      | nil => intro vs h; simp [resAll] at h; subst h; rfl
      | cons r l ih =>
        intro vs h
        simp only [resAll] at h
        split at h
        · rename_i h1 h2; simp only [Option.some.injEq] at h; subst h; simp [ih h2]
        · cases h
    unfold Dk.results at h
    split at h
    · rename_i r
      exact ⟨[v], by simp [resAll, h], fun _ => rfl, fun h => absurd rfl h, rfl⟩
    · rename_i hne
      simp only [Option.map_eq_some_iff] at h
      obtain ⟨vs, h1, rfl⟩ := h
      have := hl h1
      refine ⟨vs, h1, fun h2 => ?_, fun _ => rfl, this⟩
      rw [this] at h2
      obtain ⟨x, hx⟩ := List.length_eq_one_iff.1 h2
      exact absurd hx (hne x)
  obtain ⟨vs, h1, h2, h3, h4⟩ := hall
  obtain ⟨us, g1, g2, g3, g4⟩ := res_all hst hok h1
  rw [results_eq, Array.mapM_eq_mapM_toList]
  have hrun : (List.toArray <$> fn.results.toList.mapM (resRun a.tmps)).run P w = .ok us.toArray w := by
    rw [map_eq_pure_bind, Sem.run_bind, g1]; rfl
  rw [Sem.run_bind, hrun]
  by_cases hone : us.length = 1
  · obtain ⟨u, hu⟩ := List.length_eq_one_iff.1 hone
    subst hu
    refine ⟨u, rfl, ?_⟩
    have := h2 (by omega)
    exact g4 0 v u (by rw [this]; rfl) rfl
  · refine ⟨.tuple us.toArray, ?_, ?_⟩
    · simp [hone]
    · rw [h3 (by omega)]
      exact mkTup_vr (by simp [g2]) fun i c x hc hx => g4 i c x hc (by simpa using hx)
end

theorem zip_args : ∀ (l : List Nat) (args : List AV) (t : Nat), (∀ i j : Nat, l[i]? = l[j]? → i < l.length → i = j) → Slots.get (l.zip args) t = .unk ∨ ∃ i : Nat, l[i]? = some t ∧ args[i]? = some (Slots.get (l.zip args) t)
  | [], _, _, _ => .inl rfl
  | _ :: _, [], _, _ => .inl rfl
  | x :: l, v :: args, t, hi => by
    show (bif Nat.beq x t then v else Slots.get (l.zip args) t) = .unk ∨ ∃ i : Nat, (x :: l)[i]? = some t ∧ (v :: args)[i]? = some (bif Nat.beq x t then v else Slots.get (l.zip args) t)
    cases hb : Nat.beq x t with
    | true => have := Nat.eq_of_beq_eq_true hb; subst this; exact .inr ⟨0, rfl, rfl⟩
    | false =>
      rcases zip_args l args t (fun i j h hl => by have := hi (i + 1) (j + 1) (by simpa using h) (by simp; omega); omega) with h | ⟨i, h1, h2⟩
      · exact .inl h
      · exact .inr ⟨i + 1, by simpa using h1, by simpa using h2⟩

theorem fn_walk (hext : ExtOK P num ext) (hm : P.follows .mixedOrders = true) {f : FuncId} {sf : SF} (hok : okFn P num f sf = true) {args : List AV} {H : Heap} {v : AV} {H' : Heap} (hd : denF ext sf args H = some (v, H'))
    {β : Bet} {w : World} {vs : Array Value} (hr : HR num β (fun k => H[k]?) w) (hl : args.length = vs.size) (hv : ∀ (i : Nat) (x : AV) (u : Value), args[i]? = some x → vs[i]? = some u → VR num β (fun k => H[k]?) w x u) :
    Calls P f vs w (fun e w' => ∃ r β', e = .returned r ∧ Goes β (fun k => H[k]?) w β' (fun k => H'[k]?) w' ∧ HR num β' (fun k => H'[k]?) w' ∧ VR num β' (fun k => H'[k]?) w' v r ∧ ∀ k, β' k ≠ none → β k ≠ none ∨ (H.length ≤ k ∧ k < H'.length)) := by
  unfold okFn at hok
  split at hok
  case h_2 => cases hok
  rename_i fn hfn
  simp only [Bool.and_eq_true] at hok
  obtain ⟨⟨hbody, hres⟩, hpar⟩ := hok
  split at hbody
  case h_2 => cases hbody
  rename_i c hc
  have hpar := Nat.le_of_ble_eq_true hpar
  unfold denF at hd
  split at hd
  · cases hd
  rename_i hlen
  simp only [ne_eq, Decidable.not_not] at hlen
  refine calls_of_wp hfn hc ?_
  have hst : St num β ((List.range sf.params).zip args) H fn.ntmps { tmps := vs ++ Array.replicate (fn.ntmps - vs.size) undef, defers := [] } w := by
    refine ⟨hr, fun t => ?_, ?_, rfl⟩
    · rcases zip_args (List.range sf.params) args t (fun i j h hl => by
        simp only [List.length_range] at hl
        rw [List.getElem?_range hl] at h
        have hj := (List.getElem?_eq_some_iff.1 h.symm).1
        simp only [List.length_range] at hj
        rw [List.getElem?_range hj] at h
        exact Option.some.inj h) with h | ⟨i, h1, h2⟩
      · rw [h]; exact .unk
      · have hi := (List.getElem?_eq_some_iff.1 h1).1
        simp only [List.length_range] at hi
        rw [List.getElem?_range hi] at h1
        have := Option.some.inj h1
        subst this
        have hlt : i < vs.size := by omega
        have hg : (vs ++ Array.replicate (fn.ntmps - vs.size) undef).getD i undef = vs[i] := by
          rw [Array.getD_eq_getD_getElem?, Array.getElem?_append_left hlt, Array.getElem?_eq_getElem hlt]; rfl
        show VR num β _ w _ ((vs ++ Array.replicate (fn.ntmps - vs.size) undef).getD i undef)
        rw [hg]
        exact hv i _ _ h2 (Array.getElem?_eq_getElem hlt)
    · simp; omega
  have fin : ∀ (T' : Slots) (H1 : Heap) (β' : Bet) (a' : Act) (w' : World), Dk.results T' H1 sf.results = some v → Fin num fn.ntmps β H w T' H1 β' a' w' → a'.defers = [] ∧ ∃ u, (Go.results fn a'.tmps).run P w' = .ok u w' ∧
      ∃ r β', Ending.returned u = .returned r ∧ Goes β (fun k => H[k]?) w β' (fun k => H1[k]?) w' ∧ HR num β' (fun k => H1[k]?) w' ∧ VR num β' (fun k => H1[k]?) w' v r ∧ ∀ k, β' k ≠ none → β k ≠ none ∨ (H.length ≤ k ∧ k < H1.length) := by
    intro T' H1 β' a' w' h1 h2
    obtain ⟨u, g1, g2⟩ := results_sound (P := P) (fn := fn) h2.st hres h1
    exact ⟨h2.st.defers, u, g1, u, β', rfl, h2.goes, h2.st.hr, g2, h2.dom⟩
  split at hd
  · rename_i T' H1 h1
    simp only [Option.map_eq_some_iff, Prod.mk.injEq] at hd
    obtain ⟨v', h2, rfl, rfl⟩ := hd
    exact code_sound hext hm _ _ hbody _ _ _ _ _ h1 β _ w hst _ fun β' a' w' hf => fin T' H1 β' a' w' h2 hf
  · rename_i T' H1 h1
    simp only [Option.map_eq_some_iff, Prod.mk.injEq] at hd
    obtain ⟨v', h2, rfl, rfl⟩ := hd
    exact code_sound hext hm _ _ hbody _ _ _ _ _ h1 β _ w hst _ fun β' a' w' hf => fin T' H1 β' a' w' h2 hf
  · cases hd

theorem fn_soundI (hext : ExtOK P num ext) (hm : P.follows .mixedOrders = true) {f : FuncId} {sf : SF} (hok : okFn P num f sf = true) : SoundI P num f (denF ext sf) := by
  intro args H v H' hd β hf w vs hA hH hl hv
  have hhere : Goes β hf w β (fun k => H[k]?) w := Goes.here rfl rfl rfl rfl fun k b hb => (hA k b hb).symm
  refine (fn_walk hext hm hok hd (hH.here hhere rfl fun k b hb => (hA k b hb).symm) hl fun i x u hx hu => hhere.vr (hv i x u hx hu)).mono fun e w' h => ?_
  obtain ⟨r, β', h1, h2, h3⟩ := h
  exact ⟨r, β', h1, hhere.trans h2, h3⟩

theorem outPV_vr {β : Bet} {H : Heap} {w : World} {av : AV} {u : Value} {p : PV} (hH : HR num β (fun k => H[k]?) w) (hx : VR num β (fun k => H[k]?) w av u) (h : outPV H av = some p) : PR num w β.X0 p u := by
  unfold outPV at h
  split at h
  · rename_i l
    simp only [Option.map_eq_some_iff] at h
    obtain ⟨ps, h1, rfl⟩ := h
    cases hx with
    | tup vs hl hx =>
      obtain ⟨g1, g2⟩ := toPVs_vr (vs := vs) 0 (fun _ _ _ => rfl) hH h1 (fun i c u hc hu => hx i c u hc (by simpa using hu))
      exact .tup vs (by omega) fun i q x hq hx => g2 i q x hq (by simpa using hx)
  · have := toPVs_vr (H := H) (l := [av]) (ps := [p]) (vs := #[u]) 0 (fun _ _ _ => rfl) hH (by simp [toPVs, h]) (fun i c x hc hx' => by
      cases i with
      | zero => simp at hc hx'; subst hc; subst hx'; exact hx
      | succ i => simp at hc)
    exact this.2 0 p u rfl rfl

theorem VR.wider {X X' : Nat → Prop} (hX : ∀ b, X b → X' b) {hf hf' : Nat → Option Blk} {w : World} {x : AV} {v : Value} (h : VR num ⟨fun _ => none, X⟩ hf w x v) : VR num ⟨fun _ => none, X'⟩ hf' w x v := by
  have hx : ∀ b, Xof ⟨fun _ => none, X⟩ hf b → Xof ⟨fun _ => none, X'⟩ hf' b := fun b h => ⟨hX b h.1, fun k hk => by cases hk⟩
  induction h with
  | pv h => exact .pv (h.mono fun b hb _ => ⟨hx b hb, rfl⟩)
  | ptr b blk hb => cases hb
  | sl b blk hb => cases hb
  | asl b blk hb => cases hb
  | rp b o u hv hX1 hlt hok hcell hrel => exact .rp b o u hv (hx b hX1) hlt hok hcell fun j q hj => (hrel j q hj).mono fun b hb _ => ⟨hx b hb, rfl⟩
  | agg vs hl hone h ih => exact .agg vs hl hone ih
  | tup vs hl h ih => exact .tup vs hl ih
  | fn vs hl h ih => exact .fn vs hl ih
  | unk => exact .unk

theorem fn_soundP (hext : ExtOK P num ext) (hm : P.follows .mixedOrders = true) {f : FuncId} {sf : SF} (hok : okFn P num f sf = true) : SoundP P num f (denP ext sf) := by
  intro args r hd w X vs hl hv
  unfold denP at hd
  split at hd
  case h_2 => cases hd
  rename_i v H' h1
  let β : Bet := ⟨fun _ => none, fun b => X b ∨ w.heap.size ≤ b⟩
  have hH : HR num β (fun k => ([] : Heap)[k]?) w := ⟨fun k b hb => (by cases hb), fun k k' b hb => (by cases hb), fun b hb => .inr hb, fun k b hb => (by cases hb)⟩
  refine (fn_walk hext hm hok h1 hH hl fun i x u hx hu => (hv i x u hx hu).wider fun b hb => .inl hb).mono fun e w' h => ?_
  obtain ⟨u, β', rfl, hg, hr, hvr, _⟩ := h
  refine ⟨u, rfl, ?_, ?_⟩
  · exact { os := hg.os, tape := hg.tape, output := hg.output, size := hg.size, block := fun b hb => hg.keeps b hb fun k hk => by cases hk }
  · have := outPV_vr hr hvr hd
    rw [hg.base] at this
    exact this
end Dk
