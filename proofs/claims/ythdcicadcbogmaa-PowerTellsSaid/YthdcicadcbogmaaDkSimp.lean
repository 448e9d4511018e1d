/- Rules that carry the abstract machine out, for simp. -/
import Derived.Test.YthdcicadcbogmaaDkCore
set_option linter.all false
namespace Dk
open Go
variable {ext : Ext} {T : Slots} {H : Heap}

theorem get_cons (d t : Nat) (v : AV) (T : Slots) : Slots.get ((d, v) :: T) t = if d = t then v else Slots.get T t := by
  show (bif Nat.beq d t then v else Slots.get T t) = _
  by_cases h : d = t
  · subst h; simp
  · have : Nat.beq d t = false := by
      rw [Bool.eq_false_iff]; exact fun h2 => h (Nat.eq_of_beq_eq_true h2)
    simp [this, h]
theorem put_some (T : Slots) (d : Nat) (v : AV) : T.put (some d) v = (d, v) :: T := rfl
theorem put_none (T : Slots) (v : AV) : T.put none v = T := rfl
theorem ev_t (T : Slots) (n : Nat) : (SX.t n).ev T = T.get n := rfl
theorem ev_c (T : Slots) (p : PV) : (SX.c p).ev T = .pv p := rfl

-- what comes of one operation
def fin1 (d : Option Nat) (T : Slots) (H : Heap) : Option (AV × Eff) → Option (Slots × Heap)
  | some (v, e) => some (T.put d v, e.on H)
  | none => none
theorem fin1_quiet (d : Nat) (v : AV) : fin1 (some d) T H (some (v, .none)) = some ((d, v) :: T, H) := rfl
theorem fin1_push (d : Nat) (v : AV) (b : Blk) : fin1 (some d) T H (some (v, .push b)) = some ((d, v) :: T, H ++ [b]) := rfl
theorem fin1_put (d : Nat) (v : AV) (k : Nat) (b : Blk) : fin1 (some d) T H (some (v, .put k b)) = some ((d, v) :: T, H.set k b) := rfl
theorem fin1_heap (d : Nat) (v : AV) (H' : Heap) : fin1 (some d) T H (some (v, .heap H')) = some ((d, v) :: T, H') := rfl
theorem fin0_quiet (v : AV) : fin1 none T H (some (v, .none)) = some (T, H) := rfl
theorem fin0_push (v : AV) (b : Blk) : fin1 none T H (some (v, .push b)) = some (T, H ++ [b]) := rfl
theorem fin0_put (v : AV) (k : Nat) (b : Blk) : fin1 none T H (some (v, .put k b)) = some (T, H.set k b) := rfl
theorem fin0_heap (v : AV) (H' : Heap) : fin1 none T H (some (v, .heap H')) = some (T, H') := rfl
theorem fin1_none (d : Option Nat) : fin1 d T H none = none := rfl

def guardK (ext : Ext) (T : Slots) (H : Heap) (d : Option Nat) (o : SO) (b : Bool) : AV → Option (Slots × Heap)
  | .pv (.bool c) => bif c == b then fin1 d T H (step ext T H o) else some (T.put d (.pv .undef), H)
  | .pv (.tup []) => some (T.put d (.pv .undef), H)
  | _ => none
theorem guardK_bool (d : Option Nat) (o : SO) (b c : Bool) : guardK ext T H d o b (.pv (.bool c)) = bif c == b then fin1 d T H (step ext T H o) else some (T.put d (.pv .undef), H) := rfl
theorem guardK_undef (d : Option Nat) (o : SO) (b : Bool) : guardK ext T H d o b (.pv .undef) = some (T.put d (.pv .undef), H) := rfl

theorem step1_plain (d : Option Nat) (o : SO) : step1 ext ⟨d, o, none⟩ T H = fin1 d T H (step ext T H o) := by
  simp only [step1, known, wants, if_true]
  cases step ext T H o <;> rfl
theorem step1_guard (d : Option Nat) (o : SO) (t : Nat) (b : Bool) : step1 ext ⟨d, o, some (t, b)⟩ T H = guardK ext T H d o b (T.get t) := by
  cases hg : T.get t with
  | pv p =>
    cases p with
    | bool c =>
      simp only [step1, known, wants, guardK, hg, if_true]
      cases hb : c == b
      · rfl
      · simp only [if_true, cond_true]
        cases step ext T H o <;> rfl
    | tup l => cases l <;> simp [step1, known, wants, guardK, hg]
    | _ => simp [step1, known, wants, guardK, hg]
  | _ => simp [step1, known, wants, guardK, hg]

noncomputable def runS (ext : Ext) (l : List SP) : Option (Slots × Heap) → Option (Slots × Heap)
  | some (T, H) => steps ext l T H
  | none => none
theorem steps_run (l : List SP) : steps ext l T H = runS ext l (some (T, H)) := rfl
theorem runS_nil (T : Slots) (H : Heap) : runS ext [] (some (T, H)) = some (T, H) := rfl
theorem runS_cons (o : SP) (l : List SP) (T : Slots) (H : Heap) : runS ext (o :: l) (some (T, H)) = runS ext l (step1 ext o T H) := by
  simp only [runS, steps]
  cases step1 ext o T H with
  | none => rfl
  | some p => cases p; rfl
theorem runS_none (l : List SP) : runS ext l none = none := rfl

-- code
noncomputable def seqK (ext : Ext) (b : SC) : Option (SE × Slots × Heap) → Option (SE × Slots × Heap)
  | some (.normal, T, H) => den ext b T H
  | r => r
def nrm : Option (Slots × Heap) → Option (SE × Slots × Heap)
  | some (T, H) => some (.normal, T, H)
  | none => none
noncomputable def condK (ext : Ext) (T : Slots) (H : Heap) (a b : SC) : AV → Option (SE × Slots × Heap)
  | .pv (.bool t) => bif t then den ext a T H else den ext b T H
  | _ => none
def blockK (id : Nat) : Option (SE × Slots × Heap) → Option (SE × Slots × Heap)
  | some (.exit i, T, H) => some (bif Nat.beq i id then .normal else .exit i, T, H)
  | r => r
theorem den_skip : den ext .skip T H = some (.normal, T, H) := rfl
theorem den_ret : den ext .ret T H = some (.ret, T, H) := rfl
theorem den_exit (i : Nat) : den ext (.exit i) T H = some (.exit i, T, H) := rfl
theorem den_seq (a b : SC) : den ext (.seq a b) T H = seqK ext b (den ext a T H) := by
  simp only [den]
  generalize den ext a T H = r
  match r with
  | some (.normal, _, _) => rfl
  | some (.ret, _, _) => rfl
  | some (.exit _, _, _) => rfl
  | none => rfl
theorem seqK_normal (b : SC) (T : Slots) (H : Heap) : seqK ext b (some (.normal, T, H)) = den ext b T H := rfl
theorem seqK_ret (b : SC) (T : Slots) (H : Heap) : seqK ext b (some (.ret, T, H)) = some (.ret, T, H) := rfl
theorem seqK_exit (b : SC) (i : Nat) (T : Slots) (H : Heap) : seqK ext b (some (.exit i, T, H)) = some (.exit i, T, H) := rfl
theorem seqK_none (b : SC) : seqK ext b none = none := rfl
theorem den_cond (x : SX) (a b : SC) : den ext (.cond x a b) T H = condK ext T H a b (x.ev T) := by
  simp only [den]
  generalize x.ev T = v
  cases v with
  | pv p => cases p <;> rfl
  | _ => rfl
theorem condK_bool (a b : SC) (t : Bool) : condK ext T H a b (.pv (.bool t)) = bif t then den ext a T H else den ext b T H := rfl
theorem den_block (id : Nat) (b : SC) : den ext (.block id b) T H = blockK id (den ext b T H) := by
  simp only [den]
  generalize den ext b T H = r
  match r with
  | some (.normal, _, _) => rfl
  | some (.ret, _, _) => rfl
  | none => rfl
  | some (.exit i, T', H') =>
    have : (if i = id then SE.normal else SE.exit i) = bif Nat.beq i id then .normal else .exit i := by
      by_cases e : i = id
      · subst e; simp
      · have h2 : Nat.beq i id = false := by
          rw [Bool.eq_false_iff]; exact fun h2 => e (Nat.eq_of_beq_eq_true h2)
        simp [e, h2]
    simp only [this, blockK]
theorem blockK_normal (id : Nat) (T : Slots) (H : Heap) : blockK id (some (.normal, T, H)) = some (.normal, T, H) := rfl
theorem blockK_ret (id : Nat) (T : Slots) (H : Heap) : blockK id (some (.ret, T, H)) = some (.ret, T, H) := rfl
theorem blockK_none (id : Nat) : blockK id none = none := rfl
theorem blockK_exit (id i : Nat) (T : Slots) (H : Heap) : blockK id (some (.exit i, T, H)) = some (bif Nat.beq i id then .normal else .exit i, T, H) := rfl
theorem den_region (l : List SP) : den ext (.region l) T H = nrm (runS ext l (some (T, H))) := by
  simp only [den, runS]
  cases steps ext l T H with
  | none => rfl
  | some p => rfl
theorem nrm_some (T : Slots) (H : Heap) : nrm (some (T, H)) = some (.normal, T, H) := rfl
theorem nrm_none : nrm none = none := rfl
theorem den_draw (l : List SP) : den ext (.draw l []) T H = nrm (runS ext l (some (T, H))) := by
  simp only [den, runS, freeOk, List.all_nil, if_true]
  cases steps ext l T H with
  | none => rfl
  | some p => rfl
-- a draw with what is touched along the way
noncomputable def runT (ext : Ext) (l : List SP) (acc : List (Option (List Nat × List Nat))) : Option (Slots × Heap) → Option (List (Option (List Nat × List Nat)) × Slots × Heap)
  | some (T, H) => (steps ext l T H).map fun s => (acc ++ touches ext l T H, s)
  | none => none
def drawK (free : List (Nat × Nat)) : Option (List (Option (List Nat × List Nat)) × Slots × Heap) → Option (SE × Slots × Heap)
  | some (tt, T, H) => bif freeOk tt free then some (.normal, T, H) else none
  | none => none
def touchG (ext : Ext) (T : Slots) (o : SO) : Option (Nat × Bool) → Option (List Nat × List Nat)
  | none => touch ext T o
  | some (t, b) => bif wants T (some (t, b)) then touch ext T o else some ([], [])
theorem den_drawT (l : List SP) (free : List (Nat × Nat)) : den ext (.draw l free) T H = drawK free (runT ext l [] (some (T, H))) := by
  simp only [den, runT, List.nil_append]
  cases steps ext l T H with
  | none => simp [drawK]
  | some p =>
    cases p
    simp only [Option.map_some, drawK]
    cases freeOk (touches ext l T H) free <;> rfl
theorem runT_nil (acc : List (Option (List Nat × List Nat))) (T : Slots) (H : Heap) : runT ext [] acc (some (T, H)) = some (acc, T, H) := by simp [runT, steps, touches]
theorem runT_none (l : List SP) (acc : List (Option (List Nat × List Nat))) : runT ext l acc none = none := rfl
theorem runT_cons (o : SP) (l : List SP) (acc : List (Option (List Nat × List Nat))) (T : Slots) (H : Heap) : runT ext (o :: l) acc (some (T, H)) = runT ext l (acc ++ [touchG ext T o.op o.g]) (step1 ext o T H) := by
  have hg : (if wants T o.g then touch ext T o.op else some ([], [])) = touchG ext T o.op o.g := by
    cases ho : o.g with
    | none => rfl
    | some p => cases p; simp only [touchG]; cases wants T (some _) <;> rfl
  simp only [runT, steps, touches]
  cases step1 ext o T H with
  | none => rfl
  | some p => cases p; simp [runT, hg]
theorem drawK_some (free : List (Nat × Nat)) (tt : List (Option (List Nat × List Nat))) (T : Slots) (H : Heap) : drawK free (some (tt, T, H)) = bif freeOk tt free then some (.normal, T, H) else none := rfl

-- functions
def finF (rs : List SR) : Option (SE × Slots × Heap) → Option (AV × Heap)
  | some (.normal, T, H) => (results T H rs).map (·, H)
  | some (.ret, T, H) => (results T H rs).map (·, H)
  | _ => none
theorem denF_eq (f : SF) (args : List AV) (H : Heap) (h : args.length = f.params) : denF ext f args H = finF f.results (den ext f.body ((List.range f.params).zip args) H) := by
  simp only [denF, h, ne_eq, not_true, if_false, finF]
  rfl
theorem finF_one_ret (r : SR) (T : Slots) (H : Heap) : finF [r] (some (.ret, T, H)) = (resOf T H r).map (·, H) := rfl
theorem finF_one_normal (r : SR) (T : Slots) (H : Heap) : finF [r] (some (.normal, T, H)) = (resOf T H r).map (·, H) := rfl

-- operations
def quietA : Option PV → Option (AV × Eff)
  | some p => some (.pv p, .none)
  | none => none
def binA (op : BinOp) : AV → AV → Option (AV × Eff)
  | .pv p, .pv q => quietA (binP op p q)
  | _, _ => none
def pickA (a b : AV) : AV → Option (AV × Eff)
  | .pv (.bool t) => some (bif t then a else b, .none)
  | _ => none
theorem quietA_some (p : PV) : quietA (some p) = some (.pv p, .none) := rfl
theorem binA_pv (op : BinOp) (p q : PV) : binA op (.pv p) (.pv q) = quietA (binP op p q) := rfl
theorem step_bin (op : BinOp) (x y : SX) : step ext T H (.bin op x y) = binA op (x.ev T) (y.ev T) := by
  cases hx : x.ev T with
  | pv p =>
    cases hy : y.ev T with
    | pv q => simp only [step, hx, hy, binA]; cases binP op p q <;> rfl
    | _ => simp only [step, hx, hy, binA]
  | _ => simp only [step, hx, binA]
theorem step_move (x : SX) : step ext T H (.move x) = some (x.ev T, .none) := rfl
theorem step_pick (c x y : SX) : step ext T H (.pick c x y) = pickA (x.ev T) (y.ev T) (c.ev T) := by
  cases hc : c.ev T with
  | pv p =>
    cases p with
    | bool t => simp only [step, hc, pickA]; cases t <;> rfl
    | _ => simp only [step, hc, pickA]
  | _ => simp only [step, hc, pickA]
theorem pickA_bool (a b : AV) (t : Bool) : pickA a b (.pv (.bool t)) = some (bif t then a else b, .none) := rfl
end Dk
