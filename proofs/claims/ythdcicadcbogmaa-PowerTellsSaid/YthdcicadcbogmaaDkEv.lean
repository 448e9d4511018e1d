/- Short words for slim code; rules by which simp carries it out. -/
import Derived.Test.YthdcicadcbogmaaDkLim
import Derived.Test.YthdcicadcbogmaaDkSimp
set_option linter.all false
namespace Dk
open Go

def O (d : Nat) (o : SO) : SP := ⟨some d, o, none⟩
def N (o : SO) : SP := ⟨none, o, none⟩
def G (d : Nat) (o : SO) (t : Nat) (b : Bool) : SP := ⟨some d, o, some (t, b)⟩
def GN (o : SO) (t : Nat) (b : Bool) : SP := ⟨none, o, some (t, b)⟩
def K (n : Int) : SX := .c (.int .i64 n)

variable {ext : Ext} {T : Slots} {H : Heap}

/-- What a call of a function comes to that is handed values that are only read. -/
def callP (g : List AV → Option PV) (fl : Bool) (args : List AV) (H : Heap) : Option (AV × Eff) :=
  match pvs args with
  | some _ => quietA (g args)
  | none => match toArgs H args with
    | some as => match g as with
      | some r => if fl then (if r.flats then some (.pv r, .none) else none) else some (.pv r, .frz (args.flatMap refsA))
      | none => none
    | none => none
def heapA (H : Heap) : Option (AV × Heap) → Option (AV × Eff)
  | some (v, H') => if H.length ≤ H'.length then some (v, .heap H') else none
  | none => none
theorem callSem_p {t : Tab} {n : Nat} {args : List AV} (h : ((extF t 0).p n).isSome = true) : callSem (lim t) n args H = callP (limP t n) (t.fl n) args H := by
  have hp : (lim t).p n = some (limP t n) := by
    show ((extF t 0).p n).map _ = _
    cases e : (extF t 0).p n with
    | none => rw [e] at h; cases h
    | some g => rfl
  unfold callSem callP
  rw [hp]
  cases pvs args with
  | some ps => simp only [quietA]; cases limP t n args <;> rfl
  | none => rfl
theorem callSem_i {t : Tab} {n : Nat} {args : List AV} (h : (extF t 0).p n = none) (h2 : ((extF t 0).i n).isSome = true) : callSem (lim t) n args H = heapA H (limI t n args H) := by
  have hp : (lim t).p n = none := by
    show ((extF t 0).p n).map _ = _
    rw [h]; rfl
  have hi : (lim t).i n = some (limI t n) := by
    show ((extF t 0).i n).map _ = _
    cases e : (extF t 0).i n with
    | none => rw [e] at h2; cases h2
    | some g => rfl
  unfold callSem
  rw [hp, hi]
  simp only [heapA]
  cases limI t n args H with
  | none => rfl
  | some q => cases q; rfl

def touchP (fl : Bool) (args : List AV) : List Nat × List Nat :=
  match pvs args with
  | some _ => ([], [])
  | none => (args.flatMap refsA, if fl then [] else args.flatMap refsA)
theorem touchC_p {t : Tab} {n : Nat} {args : List AV} (h : ((extF t 0).p n).isSome = true) : touchC (lim t) n args = some (touchP (t.fl n) args) := by
  have hp : ((lim t).p n).isSome = true := by
    show (((extF t 0).p n).map _).isSome = true
    rw [Option.isSome_map]; exact h
  unfold touchC touchP
  rw [if_pos hp]
  cases pvs args with
  | some _ => rfl
  | none => rfl
theorem touchC_i {t : Tab} {n : Nat} {args : List AV} (h : (extF t 0).p n = none) : touchC (lim t) n args = none := by
  have hp : (lim t).p n = none := by
    show ((extF t 0).p n).map _ = none
    rw [h]; rfl
  unfold touchC
  rw [hp]; rfl

-- words
theorem step1_O (d : Nat) (o : SO) : step1 ext (O d o) T H = fin1 (some d) T H (step ext T H o) := step1_plain _ _
theorem step1_N (o : SO) : step1 ext (N o) T H = fin1 none T H (step ext T H o) := step1_plain _ _
theorem step1_G (d : Nat) (o : SO) (t : Nat) (b : Bool) : step1 ext (G d o t b) T H = guardK ext T H (some d) o b (T.get t) := step1_guard _ _ _ _
theorem step1_GN (o : SO) (t : Nat) (b : Bool) : step1 ext (GN o t b) T H = guardK ext T H none o b (T.get t) := step1_guard _ _ _ _
theorem op_O (d : Nat) (o : SO) : (O d o).op = o := rfl
theorem op_N (o : SO) : (N o).op = o := rfl
theorem op_G (d : Nat) (o : SO) (t : Nat) (b : Bool) : (G d o t b).op = o := rfl
theorem op_GN (o : SO) (t : Nat) (b : Bool) : (GN o t b).op = o := rfl
theorem g_O (d : Nat) (o : SO) : (O d o).g = none := rfl
theorem g_N (o : SO) : (N o).g = none := rfl
theorem g_G (d : Nat) (o : SO) (t : Nat) (b : Bool) : (G d o t b).g = some (t, b) := rfl
theorem g_GN (o : SO) (t : Nat) (b : Bool) : (GN o t b).g = some (t, b) := rfl
theorem ev_K (T : Slots) (n : Int) : (K n).ev T = .pv (.int .i64 n) := rfl

-- a branch comes first
theorem seqK_if (b : SC) (p : Prop) [Decidable p] (x y : Option (SE × Slots × Heap)) : seqK ext b (if p then x else y) = if p then seqK ext b x else seqK ext b y := by split <;> rfl
theorem blockK_if (i : Nat) (p : Prop) [Decidable p] (x y : Option (SE × Slots × Heap)) : blockK i (if p then x else y) = if p then blockK i x else blockK i y := by split <;> rfl
theorem finF_if (l : List SR) (p : Prop) [Decidable p] (x y : Option (SE × Slots × Heap)) : finF l (if p then x else y) = if p then finF l x else finF l y := by split <;> rfl
theorem runS_if (l : List SP) (p : Prop) [Decidable p] (x y : Option (Slots × Heap)) : runS ext l (if p then x else y) = if p then runS ext l x else runS ext l y := by split <;> rfl
theorem nrm_if (p : Prop) [Decidable p] (x y : Option (Slots × Heap)) : nrm (if p then x else y) = if p then nrm x else nrm y := by split <;> rfl

-- loops
noncomputable def loopK (live : List Nat) : Option (SE × List AV × Heap) → Option (SE × Slots × Heap)
  | some (e, vs, H) => some (e, live.zip vs, H)
  | none => none
theorem den_loop (live : List Nat) (b : SC) : den ext (.loop live b) T H = loopK live (loopRun (loopB ext live b) (live.map T.get, H)) := by
  rw [den_loopB]; rfl
theorem loopK_some (live : List Nat) (e : SE) (vs : List AV) (H : Heap) : loopK live (some (e, vs, H)) = some (e, live.zip vs, H) := rfl
def roundK (live : List Nat) : Option (SE × Slots × Heap) → Option ((List AV × Heap) ⊕ (SE × List AV × Heap))
  | some (.normal, T, H) => some (.inl (live.map T.get, H))
  | some (.exit i, T, H) => some (.inr (.exit i, live.map T.get, H))
  | some (.ret, T, H) => some (.inr (.ret, live.map T.get, H))
  | none => none
theorem loopB_eq (live : List Nat) (b : SC) (vs : List AV) (H : Heap) : loopB ext live b (vs, H) = roundK live (den ext b (live.zip vs) H) := by
  unfold loopB roundK
  show (match den ext b (live.zip vs) H with | some (.normal, T', H') => _ | some (e, T', H') => _ | none => _) = _
  generalize den ext b (live.zip vs) H = r
  match r with
  | some (.normal, _, _) => rfl
  | some (.ret, _, _) => rfl
  | some (.exit _, _, _) => rfl
  | none => rfl
theorem roundK_normal (live : List Nat) (T : Slots) (H : Heap) : roundK live (some (.normal, T, H)) = some (.inl (live.map T.get, H)) := rfl
theorem roundK_exit (live : List Nat) (i : Nat) (T : Slots) (H : Heap) : roundK live (some (.exit i, T, H)) = some (.inr (.exit i, live.map T.get, H)) := rfl
theorem roundK_ret (live : List Nat) (T : Slots) (H : Heap) : roundK live (some (.ret, T, H)) = some (.inr (.ret, live.map T.get, H)) := rfl
theorem roundK_if (live : List Nat) (p : Prop) [Decidable p] (x y : Option (SE × Slots × Heap)) : roundK live (if p then x else y) = if p then roundK live x else roundK live y := by split <;> rfl
theorem loopK_if (live : List Nat) (p : Prop) [Decidable p] (x y : Option (SE × List AV × Heap)) : loopK live (if p then x else y) = if p then loopK live x else loopK live y := by split <;> rfl

/-- A loop by its rounds: m go on, the next one ends it. -/
theorem loop_to {σ ρ : Type} {f : σ → Option (σ ⊕ ρ)} (I : Nat → σ) (m : Nat) {r : ρ} (h : ∀ k, k < m → f (I k) = some (.inl (I (k + 1)))) (hd : f (I m) = some (.inr r)) : loopRun f (I 0) = some r := by
  induction m generalizing I with
  | zero => exact loopRun_done hd
  | succ m ih =>
    rw [loopRun_next (h 0 (by omega))]
    exact ih (fun k => I (k + 1)) (fun k hk => h (k + 1) (by omega)) hd
theorem loop_from {σ ρ : Type} {f : σ → Option (σ ⊕ ρ)} (I : Nat → σ) (m : Nat) {r : ρ} {s : σ} (h0 : s = I 0) (h : ∀ k, k < m → f (I k) = some (.inl (I (k + 1)))) (hd : f (I m) = some (.inr r)) : loopRun f s = some r := by
  subst h0; exact loop_to I m h hd

-- lists
theorem pvs_nil : pvs [] = some [] := rfl
theorem pvs_pv (p : PV) (l : List AV) : pvs (.pv p :: l) = (pvs l).map (p :: ·) := rfl
theorem pvs_mapf {α : Type} (f : α → PV) (l : List α) : pvs (l.map fun x => .pv (f x)) = some (l.map f) := by
  induction l with
  | nil => rfl
  | cons a l ih => simp [pvs, ih]
theorem denP_eq {ext : Ext} {f : SF} {args : List AV} : denP ext f args = match finF f.results (den ext f.body ((List.range f.params).zip args) []) with | some (v, H) => (if args.length = f.params then outPV H v else none) | none => none := by
  unfold denP
  by_cases h : args.length = f.params
  · rw [denF_eq f args [] h]; simp only [h, if_true]
    rfl
  · have : denF ext f args [] = none := by unfold denF; simp [h]
    rw [this]; simp only [h, if_false]
    split <;> rfl

-- conditions
theorem guardK_if (d : Option Nat) (o : SO) (b c : Bool) : guardK ext T H d o b (.pv (.bool c)) = if c = b then fin1 d T H (step ext T H o) else some (T.put d (.pv .undef), H) := by
  cases c <;> cases b <;> rfl
theorem condK_if (a b : SC) (t : Bool) : condK ext T H a b (.pv (.bool t)) = if t = true then den ext a T H else den ext b T H := by cases t <;> rfl
theorem pickA_if (a b : AV) (t : Bool) : pickA a b (.pv (.bool t)) = if t = true then some (a, .none) else some (b, .none) := by cases t <;> rfl
theorem blockK_exitn (id i : Nat) (T : Slots) (H : Heap) : blockK id (some (.exit i, T, H)) = if i = id then some (.normal, T, H) else some (.exit i, T, H) := by
  simp only [blockK]
  by_cases h : i = id
  · subst h; simp
  · have : Nat.beq i id = false := by rw [Bool.eq_false_iff]; exact fun h2 => h (Nat.eq_of_beq_eq_true h2)
    simp [h, this]
def outK : Option (AV × Heap) → Option PV
  | some (v, H) => outPV H v
  | none => none
theorem outK_some (v : AV) (H : Heap) : outK (some (v, H)) = outPV H v := rfl
theorem denP_out {ext : Ext} {f : SF} {args : List AV} (h : args.length = f.params) : denP ext f args = outK (finF f.results (den ext f.body ((List.range f.params).zip args) [])) := by
  rw [denP, denF_eq f args [] h]; rfl
def argT : List AV → Nat → Slots
  | [], _ => []
  | v :: l, k => (k, v) :: argT l (k + 1)
theorem range_zip : ∀ (args : List AV) (k : Nat), (List.range' k args.length).zip args = argT args k
  | [], _ => rfl
  | v :: l, k => by simp [List.range'_succ, argT, range_zip l (k + 1)]
/-- A function by its code. -/
theorem by_code {t : Tab} {n : Nat} {f : SF} (h0 : t.sp n = none) (h1 : t.p n = some f) {args : List AV} (hl : args.length = f.params) {r : PV} (e : outK (finF f.results (den (lim t) f.body (argT args 0) [])) = some r) : limP t n args = some r :=
  lim_p h0 h1 (by rw [denP_out hl, ← hl, List.range_eq_range', range_zip]; exact e)
theorem by_codeI {t : Tab} {n : Nat} {f : SF} (h0 : t.si n = none) (h1 : t.i n = some f) {args : List AV} (hl : args.length = f.params) {H : Heap} {r : AV × Heap} (e : finF f.results (den (lim t) f.body (argT args 0) H) = some r) : limI t n args H = some r :=
  lim_i h0 h1 (by rw [denF_eq f args H hl, ← hl, List.range_eq_range', range_zip]; exact e)
theorem fin1_frz (d : Nat) (v : AV) (ks : List Nat) : fin1 (some d) T H (some (v, .frz ks)) = some ((d, v) :: T, H.mapIdx (frzB ks)) := rfl
theorem finF_ret (rs : List SR) (T : Slots) (H : Heap) : finF rs (some (.ret, T, H)) = (results T H rs).map (·, H) := rfl
theorem finF_normal (rs : List SR) (T : Slots) (H : Heap) : finF rs (some (.normal, T, H)) = (results T H rs).map (·, H) := rfl
theorem heapA_some (H H' : Heap) (v : AV) : heapA H (some (v, H')) = if H.length ≤ H'.length then some (v, .heap H') else none := rfl
theorem callP_pv (g : List AV → Option PV) (fl : Bool) (args : List AV) (H : Heap) (ps : List PV) (h : pvs args = some ps) : callP g fl args H = quietA (g args) := by
  simp only [callP, h]

def andO (b : Bool) : Option Bool → Option Bool
  | some r => some (b && r)
  | none => if b then none else some false
theorem andO_some (b r : Bool) : andO b (some r) = some (b && r) := rfl
theorem eqCs_nil : eqCs [] [] = some true := rfl
theorem eqCs_int (k : IntKind) (a b : Int) (l m : List PV) : eqCs (.int k a :: l) (.int k b :: m) = andO (decide (a = b)) (eqCs l m) := by
  simp only [eqCs, eqC, if_true]
  by_cases h : a = b
  · subst h; simp; cases eqCs l m <;> simp [andO]
  · have : (a == b) = false := by simp [h]
    rw [this]; cases eqCs l m <;> simp [andO, h]
theorem eqCs_bool (a b : Bool) (l m : List PV) : eqCs (.bool a :: l) (.bool b :: m) = andO (a == b) (eqCs l m) := by
  simp only [eqCs, eqC]
  cases h : a == b <;> cases eqCs l m <;> simp [andO]
theorem eqCs_str (a b : ByteArray) (l m : List PV) : eqCs (.str a :: l) (.str b :: m) = andO (a == b) (eqCs l m) := by
  simp only [eqCs, eqC]
  cases h : a == b <;> cases eqCs l m <;> simp [andO]
attribute [simp high] den_draw
attribute [simp] den_drawT andO_some eqCs_nil eqCs_int eqCs_bool eqCs_str List.getElem?_cons_zero List.getElem?_cons_succ get_cons put_some put_none ev_t ev_c ev_K fin1_quiet fin1_push fin1_put fin1_heap fin1_frz fin0_quiet fin0_push fin0_put fin0_heap fin1_none
  guardK_if guardK_undef step1_O step1_N step1_G step1_GN op_O op_N op_G op_GN g_O g_N g_G g_GN runS_nil runS_cons runS_none
  den_skip den_ret den_exit den_seq seqK_normal seqK_ret seqK_exit seqK_none den_cond condK_if den_block blockK_normal blockK_ret blockK_none blockK_exitn den_region nrm_some nrm_none den_draw
  runT_nil runT_none runT_cons drawK_some finF_ret finF_normal quietA_some binA_pv step_bin step_move step_pick pickA_if outK_some
  loopK_some loopB_eq roundK_normal roundK_exit roundK_ret den_loop heapA_some
  step binP isShift binI shiftI binS unP PV.code good elems lenOf PV.read AV.read PV.cells AV.cells AV.write AV.one PV.one PV.okc AV.okc AV.isAgg pvs mkAgg mkTup
  outPV toPV toPV1 toPVl toPVs toArg1 toArgl toArg toArgs blind chopP refs refsA touch touchP touchG apart freeOk wants known callP Eff.on frzB results resAll resOf boundOf asNat fillParts spliceAt
  PV.flat PV.flats PV.isKey maxBytes argT
end Dk
