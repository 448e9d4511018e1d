/- Functions that answer a map of constants. -/
import Derived.Test.YthdcicadcbogmaaDkRun
import Derived.MapFrom
set_option linter.all false
namespace Dk
open Go Go.RowKit Go.MapKept
variable {P : Program} {num : Nat → FuncId}

def okIns (num : Nat → FuncId) (mt : TypeId) : List Oper → List PV → List PV → Bool
  | [a, b], [], [] => a.guard.isNone && b.guard.isNone && (a.dst == some 2) && (b.dst == some 0) && (match a.op, b.op with
      | .move (.tmp 1), .assign (.tmp 2) => true | _, _ => false)
  | o :: l, k :: ks, v :: vs => o.guard.isNone && o.dst.isNone && (match o.op with
      | .insert t (.tmp 1) x y => (t == mt) && okX num x (.c k) && okX num y (.c v) | _ => false) && okIns num mt l ks vs
  | _, _, _ => false
def apartKs (str : Bool) : List PV → Bool
  | [] => true
  | k :: l => k.isKey str && l.all (fun j => decide (eqC j k = some false)) && apartKs str l
def okMapFn (P : Program) (num : Nat → FuncId) (f : FuncId) (str : Bool) (ks vs : List PV) : Bool :=
  match P.funcs[f]? with
  | some fn => (match fn.body with
    | some (.seq (.region _ r0 false) (.seq (.region _ r1 false) .ret)) => (match r0.toList with
        | [o] => o.guard.isNone && (o.dst == some 0) && (match o.op with | .assign (.const _) => true | _ => false)
        | _ => false) && (match r1.toList with
        | o :: l => o.guard.isNone && (o.dst == some 1) && (match o.op with
          | .makeMap mt none => okIns num mt l ks vs && (match P.underlying mt with | some (.map kt _) => (if str then isStringT P kt else isAnyIntT P kt) | _ => false)
          | _ => false)
        | _ => false)
    | _ => false) && (match fn.results.toList with | [.tmp 0] => true | _ => false) && decide (3 ≤ fn.ntmps) && apartKs str ks
  | none => false

theorem do_move {o : Oper} {a : Act} {w : World} {K : Act → World → Prop} {Q : Exit → Act → World → Prop} (x : Operand) (h : o.op = .move x ∨ o.op = .assign x) (hk : K (a.put o.dst (a.eval x)) w) : o.wp P a w K Q := by
  unfold Oper.wp execOp
  rcases h with h | h <;> (rw [h]; exact hk)
theorem okX_pr {X : Nat → Prop} {w : World} {a : Act} {x : Operand} {p : PV} (h : okX num x (.c p) = true) : PR num w X p (a.eval x) := by
  cases x with
  | const v => exact okC_pr h
  | func f =>
    cases p with
    | fn n =>
      have : num n = f := by simpa [okX] using h
      subst this
      exact .fn n
    | _ => simp [okX] at h
  | _ => simp [okX] at h

theorem findKey_none {k : PV} : ∀ {ks vs : List PV}, ks.length = vs.length → (∀ j ∈ ks, eqC k j = some false) → findKey k ks vs = some none
  | [], [], _, _ => rfl
  | [], _ :: _, h, _ => by simp at h
  | _ :: _, [], h, _ => by simp at h
  | j :: ks, v :: vs, h, hk => by
    simp only [findKey, hk j (by simp)]
    exact findKey_none (by simpa using h) fun j hj => hk j (by simp [hj])

/-- What holds between two entries laid in. -/
structure MI (num : Nat → FuncId) (n : Nat) (w0 : World) (ks vs : List PV) (a : Act) (w : World) : Prop where
  below : Below w0.heap.size w0 w
  size : a.tmps.size = n
  defers : a.defers = []
  tmp : a.tmps.getD 1 undef = .map (some w0.heap.size)
  map : ∃ es clock, w.heap[w0.heap.size]? = some (.map es clock) ∧ ks.length = es.size ∧ vs.length = es.size ∧
    (∀ (i : Nat) (k : PV) (e : MapEntry), ks[i]? = some k → es[i]? = some e → ∀ w X, PR num w X k e.key) ∧ (∀ (i : Nat) (v : PV) (e : MapEntry), vs[i]? = some v → es[i]? = some e → ∀ w X, PR num w X v e.val)

theorem ins_sound {n : Nat} {mt kt et : TypeId} {kind : TypeDesc} {str : Bool} {ops : Array Oper} {Q : Exit → Act → World → Prop} {w0 : World} (hu : P.underlying mt = some (.map kt et)) (hkind : P.underlying kt = some kind) (hkk : if str then kind = .string else ∃ k', kind = .int k') (hn : 3 ≤ n)
    (kall vall : List PV) (hQ : ∀ a w, MI num n w0 kall vall a w → a.tmps.getD 0 undef = .map (some w0.heap.size) → Q .normal a w) :
    ∀ (l : List Oper) (ks vs k0 v0 : List PV) (a : Act) (w : World), okIns num mt l ks vs = true → k0 ++ ks = kall → v0 ++ vs = vall → (∀ k ∈ ks, k.isKey str = true ∧ ∀ j ∈ k0, eqC k j = some false) → apartKs str ks = true → MI num n w0 k0 v0 a w → wpList P ops Q l a w := by
  intro l
  induction l with
  | nil => intro ks vs k0 v0 a w h; cases ks <;> cases vs <;> simp [okIns] at h
  | cons o l ih =>
    intro ks vs k0 v0 a w hok hk hv hap hap2 hI
    cases ks with
    | nil =>
      cases vs with
      | cons v vs => cases l <;> simp [okIns] at hok
      | nil =>
        match l, hok with
        | [b], hok =>
          simp only [okIns, Bool.and_eq_true, beq_iff_eq, Option.isNone_iff_eq_none] at hok
          obtain ⟨⟨⟨⟨g1, g2⟩, d1⟩, d2⟩, hop⟩ := hok
          split at hop
          · rename_i h1 h2
            refine wpList_plain g1 fun K hK => ?_
            refine do_move _ (.inl h1) (hK _ _ ?_)
            refine wpList_plain g2 fun K hK => ?_
            refine do_move _ (.inr h2) (hK _ _ ?_)
            have e1 : a.eval (.tmp 1) = .map (some w0.heap.size) := hI.tmp
            rw [d1, d2, e1]
            have e2 : (a.put (some 2) (.map (some w0.heap.size))).eval (.tmp 2) = .map (some w0.heap.size) := act_put_same (by rw [hI.size]; omega)
            rw [e2]
            simp only [List.append_nil] at hk hv
            subst hk; subst hv
            refine hQ _ _ ⟨hI.below, by rw [act_put_size, act_put_size, hI.size], by rw [act_put_defers, act_put_defers, hI.defers], ?_, hI.map⟩ (act_put_same (by rw [act_put_size, hI.size]; omega))
            rw [act_put_ne (by omega), act_put_ne (by omega)]; exact hI.tmp
          · cases hop
        | [], hok => simp [okIns] at hok
        | _ :: _ :: _, hok => simp [okIns] at hok
    | cons k ks =>
      cases vs with
      | nil => cases l <;> simp [okIns] at hok
      | cons v vs =>
        have hok' : (o.guard.isNone && o.dst.isNone && (match o.op with
          | .insert t (.tmp 1) x y => (t == mt) && okX num x (.c k) && okX num y (.c v) | _ => false) && okIns num mt l ks vs) = true := by
          cases l with
          | nil => simpa [okIns] using hok
          | cons b l => cases l <;> simpa [okIns] using hok
        simp only [Bool.and_eq_true, Option.isNone_iff_eq_none] at hok'
        obtain ⟨⟨⟨g1, d1⟩, hop⟩, hrest⟩ := hok'
        split at hop
        · rename_i t x y hx
          simp only [Bool.and_eq_true, beq_iff_eq] at hop
          obtain ⟨⟨rfl, hkx⟩, hvy⟩ := hop
          have hkr : ∀ w X, PR num w X k (a.eval x) := fun w X => okX_pr hkx
          have hvr : ∀ w X, PR num w X v (a.eval y) := fun w X => okX_pr hvy
          obtain ⟨es, clock, hes, l1, l2, r1, r2⟩ := hI.map
          have hk0 := hap k (by simp)
          obtain ⟨q, hq1, hq2⟩ := findKey_now (num := num) (w := w) (X := fun _ => True) (es := es.toList) (ks := k0) (vs := v0) hkk hk0.1 (hkr w _) 0 (findKey_none (by omega) fun j hj => hk0.2 j hj) (by simpa using l1) (by simpa using l2)
            (fun i k e hk he => r1 i k e hk (by simpa using he) _ _) (fun i k e hk he => r2 i k e hk (by simpa using he) _ _)
          have hqn : q = none := by cases q with | none => rfl | some q => exact hq2.elim
          subst hqn
          have hck : ∀ b, (Instr.checkKey b 10000 kt (a.eval x)).run P w = .ok () w := by
            intro b
            show (Instr.checkKey b (9999 + 1) kt (a.eval x)).run P w = .ok () w
            rw [Instr.checkKey, Sem.run_bind, run_underlying hkind]
            have hkr' := hkr w fun _ => True
            have hkey := hk0.1
            cases str
            · simp at hkk; obtain ⟨k', rfl⟩ := hkk; generalize a.eval x = Kv at *; cases hkr' <;> first | rfl | simp [PV.isKey] at hkey
            · simp at hkk; subst hkk; generalize a.eval x = Kv at *; cases hkr' <;> first | rfl | simp [PV.isKey] at hkey
          have hfk : (Instr.findKey kt (a.eval x) es.toList).run P w = .ok none w := by
            rw [Instr.findKey, Sem.run_bind, run_underlying hkind]
            simp [hq1]
          have hget : (getObj w0.heap.size).run P w = .ok (.map es clock) w := by simp [getObj, Sem.run, hes]
          have hset := run_setObj_map (P := P) (.map (es.push { key := a.eval x, val := a.eval y, born := clock }) (clock + 1)) hes
          obtain ⟨s1, s2⟩ := heap_set (o' := .map (es.push { key := a.eval x, val := a.eval y, born := clock }) (clock + 1)) hes
          have hm1 : a.eval (.tmp 1) = .map (some w0.heap.size) := hI.tmp
          refine wpList_plain g1 fun K hK => ?_
          unfold Oper.wp
          have hex : (execOp a.eval o).run P w = .ok .skip { w with heap := w.heap.setIfInBounds w0.heap.size (.map (es.push { key := a.eval x, val := a.eval y, born := clock }) (clock + 1)) } := by
            simp [execOp, hx, hm1, Instr.mapUpdate, run_underlying hu, hget, hck, hfk, hset]
          rw [hex]
          refine hK _ _ (ih ks vs (k0 ++ [k]) (v0 ++ [v]) _ _ hrest (by simpa using hk) (by simpa using hv) ?_ ?_ ?_)
          · intro k' hk'
            refine ⟨(hap k' (by simp [hk'])).1, fun j hj => ?_⟩
            rcases List.mem_append.1 hj with hj | hj
            · exact (hap k' (by simp [hk'])).2 j hj
            · simp at hj; subst hj
              simp only [apartKs, Bool.and_eq_true, List.all_eq_true, decide_eq_true_eq] at hap2
              exact hap2.1.2 k' hk'
          · simp only [apartKs, Bool.and_eq_true] at hap2; exact hap2.2
          · rw [d1]
            refine ⟨⟨hI.below.os, hI.below.tape, hI.below.output, by simpa using hI.below.size, fun b hb => ?_⟩, hI.size, hI.defers, hI.tmp, ?_⟩
            · show (w.heap.setIfInBounds _ _)[b]? = _
              rw [s2 b (by omega)]; exact hI.below.block b hb
            · refine ⟨_, _, s1, by simp [l1], by simp [l2], fun i kk e hkk he w X => ?_, fun i vv e hvv he w X => ?_⟩
              · by_cases hi : i < k0.length
                · rw [List.getElem?_append_left hi] at hkk
                  rw [Array.getElem?_push_lt (by omega)] at he
                  exact r1 i kk e hkk (by rw [Array.getElem?_eq_getElem (by omega)]; exact he) w X
                · have hlt := (List.getElem?_eq_some_iff.1 hkk).1
                  simp at hlt
                  have hi2 : i = k0.length := by omega
                  subst hi2
                  simp at hkk; subst hkk
                  rw [l1] at he
                  simp at he; subst he
                  exact hkr w X
              · by_cases hi : i < v0.length
                · rw [List.getElem?_append_left hi] at hvv
                  rw [Array.getElem?_push_lt (by omega)] at he
                  exact r2 i vv e hvv (by rw [Array.getElem?_eq_getElem (by omega)]; exact he) w X
                · have hlt := (List.getElem?_eq_some_iff.1 hvv).1
                  simp at hlt
                  have hi2 : i = v0.length := by omega
                  subst hi2
                  simp at hvv; subst hvv
                  rw [l2] at he
                  simp at he; subst he
                  exact hvr w X
        · cases hop

theorem mapFn_sound {f : FuncId} {str : Bool} {ks vs : List PV} (hok : okMapFn P num f str ks vs = true) : SoundP P num f (fun args => match args with | [] => some (.mp ks vs) | _ => none) := by
  unfold okMapFn at hok
  split at hok
  case h_2 => cases hok
  rename_i fn hfn
  simp only [Bool.and_eq_true, decide_eq_true_eq] at hok
  obtain ⟨⟨⟨hbody, hres⟩, hn⟩, hap⟩ := hok
  split at hbody
  case h_2 => cases hbody
  rename_i i0 r0 i1 r1 hb
  simp only [Bool.and_eq_true] at hbody
  obtain ⟨hr0, hr1⟩ := hbody
  split at hr0
  case h_2 => cases hr0
  rename_i o0 ho0
  split at hr1
  case h_2 => cases hr1
  rename_i o1 l1 ho1
  simp only [Bool.and_eq_true, Option.isNone_iff_eq_none, beq_iff_eq] at hr0 hr1
  obtain ⟨⟨g0, d0⟩, hop0⟩ := hr0
  obtain ⟨⟨g1, d1⟩, hop1⟩ := hr1
  split at hop0
  case h_2 => cases hop0
  rename_i v0 hx0
  split at hop1
  case h_2 => cases hop1
  rename_i mt hx1
  simp only [Bool.and_eq_true] at hop1
  obtain ⟨hins, hty⟩ := hop1
  split at hty
  case h_2 => cases hty
  rename_i kt et hu
  obtain ⟨kind, hkind, hkk⟩ : ∃ kind, P.underlying kt = some kind ∧ (if str then kind = .string else ∃ k', kind = .int k') := by
    cases str
    · simp [isAnyIntT] at hty; split at hty
      · rename_i k' h; exact ⟨_, h, by simp⟩
      · cases hty
    · simp [isStringT] at hty; split at hty
      · rename_i h; exact ⟨_, h, by simp⟩
      · cases hty
  split at hres
  case h_2 => cases hres
  rename_i hrs
  have hrs : fn.results = #[.tmp 0] := by
    apply Array.toList_inj.1; simpa using hrs
  intro args r hg w X vs' hl _
  cases args with
  | cons _ _ => cases hg
  | nil =>
    simp only [Option.some.injEq] at hg
    subst hg
    have hvs : vs' = #[] := Array.eq_empty_of_size_eq_zero (by simpa using hl.symm)
    subst hvs
    refine calls_of_wp hfn hb ?_
    refine wp_seq (wp_region_list ?_)
    rw [ho0]
    refine wpList_plain g0 fun K hK => do_move _ (.inr hx0) (hK _ _ ?_)
    show Code.wp P _ _ _ _
    refine wp_seq (wp_region_list ?_)
    rw [ho1]
    refine wpList_plain g1 fun K hK => ?_
    unfold Oper.wp
    generalize ha0 : Act.put { tmps := #[] ++ Array.replicate (fn.ntmps - (#[] : Array Value).size) undef, defers := [] } o0.dst _ = a0
    have hsz : a0.tmps.size = fn.ntmps := by rw [← ha0, act_put_size]; simp
    have hdf : a0.defers = [] := by rw [← ha0, act_put_defers]
    have hex : (execOp a0.eval o1).run P w = .ok (.value (.map (some w.heap.size))) (w.alloc (.map #[] 0)) := by
      simp [execOp, hx1, Instr.makeMap]
    rw [hex]
    refine hK _ _ ?_
    obtain ⟨n1, n2⟩ := heap_alloc w (.map #[] 0)
    refine ins_sound (P := P) (num := num) (w0 := w) hu hkind hkk hn ks vs ?_ l1 ks vs [] [] _ _ hins rfl rfl (fun k hk => ⟨?_, by simp⟩) hap ?_
    · intro a w' hI h0
      refine wp_ret ?_
      refine ⟨hI.defers, _, results_tmp hrs _ _ _, _, rfl, hI.below, ?_⟩
      rw [h0]
      obtain ⟨es, clock, e1, e2, e3, e4, e5⟩ := hI.map
      exact .mp w.heap.size es clock (.inr (Nat.le_refl _)) e1 e2 e3 (fun i k e hk he => e4 i k e hk he _ _) (fun i k e hk he => e5 i k e hk he _ _)
    · have : ∀ {l : List PV}, apartKs str l = true → ∀ k ∈ l, k.isKey str = true := by
        intro l
        induction l with
        | nil => intro _ k hk; cases hk
        | cons x l ih =>
          intro h k hk
          simp only [apartKs, Bool.and_eq_true] at h
          rcases List.mem_cons.1 hk with rfl | hk
          · exact h.1.1
          · exact ih h.2 k hk
      exact this hap k hk
    · rw [d1]
      refine ⟨⟨rfl, rfl, rfl, alloc_size _ _, fun b hb => n2 b hb⟩, by rw [act_put_size, hsz], by rw [act_put_defers, hdf], act_put_same (by rw [hsz]; omega), ?_⟩
      exact ⟨#[], 0, n1, rfl, rfl, by simp, by simp⟩
end Dk
