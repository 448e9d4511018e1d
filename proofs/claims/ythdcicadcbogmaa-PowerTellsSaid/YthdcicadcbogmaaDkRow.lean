/- A law that the abstract machine answers true is true of the program. -/
import Derived.Test.YthdcicadcbogmaaDkData
import Derived.Test.YthdcicadcbogmaaDkLim
set_option linter.all false
namespace Dk
open Go Go.ChangeShapes Go.WideShapes Go.RowKit
variable {H : Type} {enc : TypeId × Value → H} {P : Program} {num : Nat → FuncId} {W : World}

/-- A parameter of a type, of its parts. -/
def argOf (P : Program) (t : TypeId) (qs : List PV) : AV :=
  match P.underlying t with
  | some (.struct _) | some (.array ..) => .pv (.agg qs)
  | _ => .pv (qs.headD .unk)
def argsOf (P : Program) : List TypeId → List (List PV) → List AV
  | t :: ts, qs :: l => argOf P t qs :: argsOf P ts l
  | _, _ => []
def FitAll (P : Program) (m : Nat) : List TypeId → List (List PV) → Prop
  | [], l => l = []
  | t :: ts, l => ∃ qs r, l = qs :: r ∧ Fit P m t qs ∧ FitAll P m ts r

theorem arg_vr {m : Nat} {t : TypeId} {v : Value} {r : Reach} {b0 : Nat} {d : DataW H} {ps : List MemPlace} (hok : okT P m t = true) (hval : Value.okWide P W r b0 t v) (h : DataW.Trod enc P W 0 (fun _ => true) true t v d ps) :
    ∃ qs, Fit P m t qs ∧ VR num ⟨fun _ => none, fun _ => True⟩ (fun _ => none) W (argOf P t qs) v := by
  obtain ⟨fuel, h⟩ := h
  obtain ⟨_, qs, hf, hs⟩ := read (num := num) fuel t _ _ hok h
  refine ⟨qs, hf, ?_⟩
  have mono : ∀ {q : PV} {u : Value}, PR num W (fun _ => True) q u → PR num W (Xof ⟨fun _ => none, fun _ => True⟩ (fun _ => none)) q u := fun hp => hp.mono fun b _ _ => ⟨⟨trivial, fun k hk => by cases hk⟩, rfl⟩
  have agg : ∀ cs : Array Value, v = .agg cs → VR num ⟨fun _ => none, fun _ => True⟩ (fun _ => none) W (.pv (.agg qs)) v := by
    intro cs hv
    subst hv
    refine .pv (.agg cs (by simpa [Value.cells] using hs.len) hs.one fun i q u hq hu => mono (hs.rel i q u hq ?_))
    simpa [Value.cells] using hu
  have one : v.cells = #[v] → VR num ⟨fun _ => none, fun _ => True⟩ (fun _ => none) W (.pv (qs.headD .unk)) v := by
    intro hv
    rw [hv] at hs
    have hl := hs.len
    match qs, hl, hs with
    | [q], _, hs => exact .pv (mono (hs.rel 0 q v rfl rfl))
  unfold argOf
  unfold Value.okWide at hval
  cases hu : P.underlying t with
  | none =>
    cases m with
    | zero => simp [okT] at hok
    | succ m => simp [okT, hu] at hok
  | some td =>
    rw [hu] at hval
    cases m with
    | zero => simp [okT] at hok
    | succ m =>
      cases td with
      | struct fs => obtain ⟨cs, hv, _⟩ := hval; exact agg cs hv
      | array n e => obtain ⟨cs, hv, _⟩ := hval; exact agg cs hv
      | bool =>
        refine one ?_
        simp only [Cell.okWide, Cell.ok, hu] at hval
        cases v <;> first | rfl | (simp at hval; done)
      | int k =>
        refine one ?_
        simp only [Cell.okWide, Cell.ok, hu] at hval
        cases v <;> first | rfl | (simp at hval; done)
      | string =>
        refine one ?_
        simp only [Cell.okWide, Cell.ok, hu] at hval
        cases v <;> first | rfl | (simp at hval; done)
      | slice e =>
        refine one ?_
        simp only [Cell.okWide, Cell.ok, hu] at hval
        cases v <;> first | rfl | (simp at hval; done)
      | _ => simp [okT, hu] at hok

theorem argsR_vr {m : Nat} {r : Reach} {b0 : Nat} : ∀ {ts : List TypeId} {vs : List Value} {ds : List (DataW H)} {ps : List MemPlace}, (∀ t ∈ ts, okT P m t = true) → (∀ (j : Nat) (t : TypeId) (v : Value), ts[j]? = some t → vs[j]? = some v → Value.okWide P W r b0 t v) →
    DataW.TrodAll enc P W 0 (fun _ => true) true ts vs ds ps →
    ∃ l, FitAll P m ts l ∧ (argsOf P ts l).length = vs.length ∧ ∀ (i : Nat) (a : AV) (u : Value), (argsOf P ts l)[i]? = some a → vs[i]? = some u → VR num ⟨fun _ => none, fun _ => True⟩ (fun _ => none) W a u
  | [], vs, ds, ps, _, _, h => by
    obtain ⟨rfl, _, _⟩ := trodAll_nil h
    exact ⟨[], rfl, rfl, by simp [argsOf]⟩
  | t :: ts, vs, ds, ps, hok, hval, h => by
    obtain ⟨v, vs1, d, ds1, p, q, rfl, rfl, rfl, h1, h2⟩ := trodAll_cons h
    obtain ⟨qs, f1, v1⟩ := arg_vr (num := num) (hok t (by simp)) (hval 0 t v rfl rfl) h1
    obtain ⟨l, f2, e2, v2⟩ := argsR_vr (fun t ht => hok t (by simp [ht])) (fun j t v ht hv => hval (j + 1) t v (by simpa using ht) (by simpa using hv)) h2
    refine ⟨qs :: l, ⟨qs, l, rfl, f1, f2⟩, by simp [argsOf, e2], fun i a u ha hu => ?_⟩
    cases i with
    | zero => simp [argsOf] at ha hu; subst ha; subst hu; exact v1
    | succ i => exact v2 i a u (by simpa [argsOf] using ha) (by simpa using hu)

theorem trodAll_stays (hl : laidOutB P = true) {W' : World} {sp' : Nat → Bool} : ∀ {ts : List TypeId} {vs : List Value} {ds : List (DataW H)} {ps : List MemPlace}, (∀ t ∈ ts, P.readableRec t = true ∧ t < P.types.size) → DataW.TrodAll enc P W 0 (fun _ => true) true ts vs ds ps →
    (∀ p ∈ ps, W.sameAt W' p) → (∀ p ∈ ps, sp' p.block = true) → DataW.TrodAll enc P W' 0 sp' true ts vs ds ps
  | [], vs, ds, ps, _, h, _, _ => by
    obtain ⟨rfl, rfl, rfl⟩ := trodAll_nil h
    exact trodAll_mk0
  | t :: ts, vs, ds, ps, hr, h, hs, hp => by
    obtain ⟨v, vs1, d, ds1, p, q, rfl, rfl, rfl, h1, h2⟩ := trodAll_cons h
    obtain ⟨r1, r2⟩ := hr t (by simp)
    exact ⟨p, q, WideElems.Trod_stays hl r1 r2 h1 (fun x hx => hs x (by simp [hx])) (fun x hx => hp x (by simp [hx])), trodAll_stays hl (fun t ht => hr t (by simp [ht])) h2 (fun x hx => hs x (by simp [hx])) (fun x hx => hp x (by simp [hx])), rfl⟩

/-- What a law's row says, of its parameters as parts. -/
theorem law_calls {t : Tab} {n m : Nat} {f : FuncId} {fn : Func} {s : ChangeSpec} {apart fresh handsOn again : Bool} {tb : TypeId} (hext : ExtOK P num (lim t)) (hf : num n = f) (hp : ((extF t 0).p n).isSome = true) (hl : laidOutB P = true)
    (hpar' : (fn.params.toList.all fun t => P.readableRec t && decide (t < P.types.size) && okT P m t) = true) (hres : fn.resultTypes = #[tb]) (htb : P.underlying tb = some .bool) (hvars : s.vars = [])
    (hspec : ∀ ds : List (DataW H), ds.length = fn.params.size → s.fn H ds = { results := [.lit (.bool true)], args := ds })
    (hlaw : ∀ l, FitAll P m fn.params.toList l → limP t n (argsOf P fn.params.toList l) = some (.bool true))
    {base : Nat} {args : Array Value} {ds gs : List (DataW H)} {before : List MemPlace} (hW : DataW.Whole enc P fn.params.toList s.vars apart W args.toList ds gs before)
    (hval : ∀ (j : Nat) t v, fn.params[j]? = some t → args[j]? = some v → Value.okWide P W .any base t v) :
    Calls P f args W fun e W' => ∃ v, e = .returned v ∧ s.post enc P fn apart fresh handsOn again W args v W' := by
  subst hf
  have hpar : ∀ t ∈ fn.params.toList, P.readableRec t = true ∧ t < P.types.size ∧ okT P m t = true := fun t ht => by
    have := List.all_eq_true.1 hpar' t ht
    simp only [Bool.and_eq_true, decide_eq_true_eq] at this
    exact ⟨this.1.1, this.1.2, this.2⟩
  have hW0 := hW
  obtain ⟨p, q, hA, hV, rfl, hz, hn⟩ := hW
  rw [hvars] at hV
  obtain ⟨rfl, rfl⟩ := trodVars_none hV
  simp only [List.append_nil] at hz hn hW0
  have hlen : ds.length = fn.params.size := by
    have : ∀ {ts : List TypeId} {vs : List Value} {ds : List (DataW H)} {ps : List MemPlace}, DataW.TrodAll enc P W 0 (fun _ => true) true ts vs ds ps → ds.length = ts.length := by
      intro ts
      induction ts with
      | nil => intro vs ds ps h; obtain ⟨_, rfl, _⟩ := trodAll_nil h; rfl
      | cons t ts ih => intro vs ds ps h; obtain ⟨v, vs1, d, ds1, p, q, rfl, rfl, rfl, h1, h2⟩ := trodAll_cons h; simp [ih h2]
    simpa using this hA
  obtain ⟨l, hfit, hargl, hvr⟩ := argsR_vr (num := num) (m := m) (fun t ht => (hpar t ht).2.2) (fun j t v ht hv => hval j t v (by simpa using ht) (by simpa using hv)) hA
  have hg : (lim t).p n = some (limP t n) := by
    show ((extF t 0).p n).map _ = _
    cases e : (extF t 0).p n with
    | none => rw [e] at hp; cases hp
    | some g => rfl
  have hsound := (hext.p n _ hg).2
  refine (hsound _ _ (hlaw l hfit) W (fun _ => True) args (by simpa using hargl) (fun i a u ha hu => hvr i a u ha (by simpa using hu))).mono fun e W' he => ?_
  obtain ⟨v, rfl, hb, hpr⟩ := he
  cases hpr with
  | bool b =>
    refine ⟨_, rfl, ?_⟩
    have hsp := hspec ds hlen
    have hlt : ∀ x ∈ p, x.block < W.heap.size := fun x hx => hW0.lt x hx
    have hsame : ∀ x ∈ p, W.sameAt W' x := fun x hx => hb.same (hlt x hx)
    have hts : ∀ t ∈ fn.params.toList, P.readableRec t = true ∧ t < P.types.size := fun t ht => ⟨(hpar t ht).1, (hpar t ht).2.1⟩
    have hrl : (Value.bool true).resultList 1 = [.bool true] := rfl
    have hR : ∀ (b : Nat) (sp : Nat → Bool) (hd : Bool), DataW.TrodAll enc P W' b sp hd fn.resultTypes.toList ((Value.bool true).resultList fn.resultTypes.size) (s.fn H (ds ++ [])).results [] := by
      intro b sp hd
      rw [List.append_nil, hsp, hres]
      exact trodAll_mk1 (shut_bool htb true)
    have hAr : ∀ sp : Nat → Bool, (∀ x ∈ p, sp x.block = true) → DataW.TrodAll enc P W' 0 sp true fn.params.toList args.toList (s.fn H (ds ++ [])).args p := by
      intro sp hx
      rw [List.append_nil, hsp]
      exact trodAll_stays hl hts hA hsame hx
    have hVr : ∀ sp : Nat → Bool, DataW.TrodVars enc P W' sp s.vars (s.fn H (ds ++ [])).vars [] := by
      intro sp
      rw [hvars, List.append_nil, hsp]
      rfl
    refine ⟨ds, [], p, [], p, [], hW0, hR _ _ _, hAr _ (fun x hx => by simpa using hlt x hx), hVr _, hb.frame _, fun _ => ?_⟩
    refine ⟨ok_one hres rfl (okWide_bool_mk htb true), _, _, ([] ++ p) ++ [], ⟨[] ++ p, [], trodAll_append (hAr _ (fun _ _ => rfl)) (hR _ _ _), hVr _, rfl, ?_, ?_⟩, ?_⟩
    · intro b off hx
      simp only [List.nil_append, List.append_nil] at hx
      rw [hb.frozen (by exact hlt _ hx)]
      exact hz b off hx
    · intro ha
      simpa using hn ha
    · intro x hx _
      simpa using hx
-- parts of a type, by its kind
theorem fit_int {m : Nat} {t : TypeId} {qs : List PV} {k : IntKind} (hu : P.underlying t = some (.int k)) (h : Fit P (m + 1) t qs) : ∃ n, qs = [.int k n] ∧ (Lit.int k n).wf = true := by simpa [Fit, hu] using h
theorem fit_bool {m : Nat} {t : TypeId} {qs : List PV} (hu : P.underlying t = some .bool) (h : Fit P (m + 1) t qs) : ∃ b, qs = [.bool b] := by simpa [Fit, hu] using h
theorem fit_str {m : Nat} {t : TypeId} {qs : List PV} (hu : P.underlying t = some .string) (h : Fit P (m + 1) t qs) : ∃ s : ByteArray, qs = [.str s] ∧ s.size ≤ maxLen := by simpa [Fit, hu] using h
theorem fit_slice {m : Nat} {t e : TypeId} {qs : List PV} (hu : P.underlying t = some (.slice e)) (h : Fit P (m + 1) t qs) :
    ∃ (L : PV) (l : List (List PV)), qs = [L] ∧ IsL (P.cellsOf e) L (l.map elP) ∧ l.length ≤ maxLen ∧ ∀ c ∈ l, Fit P m e c := by simpa only [Fit, hu] using h
theorem fit_struct {m : Nat} {t : TypeId} {qs : List PV} {fs : Array Field} (hu : P.underlying t = some (.struct fs)) (h : Fit P (m + 1) t qs) : FitL (Fit P m) (fs.toList.map (·.type)) qs := by simpa only [Fit, hu] using h
theorem fit_array {m n : Nat} {t e : TypeId} {qs : List PV} (hu : P.underlying t = some (.array n e)) (h : Fit P (m + 1) t qs) : FitL (Fit P m) (List.replicate n e) qs := by simpa only [Fit, hu] using h
/-- A slice of numbers. -/
theorem fit_ints {m : Nat} {t e : TypeId} {qs : List PV} {k : IntKind} (hu : P.underlying t = some (.slice e)) (he : P.underlying e = some (.int k)) (hc : P.cellsOf e = 1) (h : Fit P (m + 2) t qs) :
    ∃ (L : PV) (l : List Int), qs = [L] ∧ IsL 1 L (l.map (.int k)) ∧ l.length ≤ maxLen ∧ ∀ x ∈ l, (Lit.int k x).wf = true := by
  obtain ⟨L, l, rfl, h1, h2, h3⟩ := fit_slice hu h
  have h4 : ∀ c ∈ l, ∃ n, c = [.int k n] ∧ (Lit.int k n).wf = true := fun c hc => fit_int he (h3 c hc)
  have h5 : ∀ (l : List (List PV)), (∀ c ∈ l, ∃ n, c = [.int k n] ∧ (Lit.int k n).wf = true) → ∃ z : List Int, l.map elP = z.map (.int k) ∧ z.length = l.length ∧ ∀ x ∈ z, (Lit.int k x).wf = true := by
    intro l
    induction l with
    | nil => intro _; exact ⟨[], rfl, rfl, by simp⟩
    | cons c l ih =>
      intro h
      obtain ⟨n, rfl, hn⟩ := h c (by simp)
      obtain ⟨z, e1, e2, e3⟩ := ih (fun c hc => h c (by simp [hc]))
      exact ⟨n :: z, by simp [elP, e1], by simp [e2], fun x hx => by rcases List.mem_cons.1 hx with rfl | hx; exact hn; exact e3 x hx⟩
  obtain ⟨z, e1, e2, e3⟩ := h5 l h4
  exact ⟨L, z, rfl, by rw [← hc, ← e1]; exact h1, by omega, e3⟩
theorem argOf_one {t : TypeId} {q : PV} (h : (match P.underlying t with | some (.struct _) | some (.array ..) => false | _ => true) = true) : argOf P t [q] = .pv q := by
  unfold argOf
  split at h
  · cases h
  · cases h
  · rfl
theorem argOf_agg {t : TypeId} {qs : List PV} (h : (match P.underlying t with | some (.struct _) | some (.array ..) => true | _ => false) = true) : argOf P t qs = .pv (.agg qs) := by
  unfold argOf
  split at h
  · rfl
  · rfl
  · cases h
end Dk
