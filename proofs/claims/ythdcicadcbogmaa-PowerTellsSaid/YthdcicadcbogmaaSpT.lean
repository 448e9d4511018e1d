/- Part of the proof. -/
import Derived.Test.YthdcicadcbogmaaSpR
set_option linter.all false
set_option linter.unusedSimpArgs false
set_option linter.unusedVariables false
set_option maxRecDepth 100000
namespace Dk
open Go
def clI (l : List Int) (i j : Nat) : Int := if j < i then clamp (l.getD j 0) 0 2000 else l.getD j 0
def clT (l : List Int) (i j : Nat) : AV := .pv (.int .i64 (clI l i j))
theorem cl_first (l : List Int) (k : Nat) : List.take k (List.map (AV.pv ∘ PV.int IntKind.i64) l) ++ List.replicate (k - l.length) (AV.pv (PV.int IntKind.i64 0)) = (List.range k).map (clT l 0) := by
  apply List.ext_getElem
  · simp; omega
  · intro j h1 h2
    simp at h2
    rw [List.getElem_append]
    simp only [List.length_take, List.length_map, List.getElem_take, List.getElem_map, List.getElem_replicate, List.getElem_range, Function.comp, clT, clI]
    by_cases hj : j < l.length
    · have : j < min k l.length := by omega
      simp [hj, h2, List.getD_eq_getElem?_getD, this]
    · have : ¬ (j < min k l.length) := by omega
      rw [dif_neg this]
      simp [List.getD_eq_getElem?_getD, show l.length ≤ j by omega]
theorem cl_set (l : List Int) (k i : Nat) (h : i < k) : ((List.range k).map (clT l i)).set i (clT l (i + 1) i) = (List.range k).map (clT l (i + 1)) := by
  apply List.ext_getElem
  · simp
  · intro j h1 h2
    simp at h1
    simp only [List.getElem_set, List.getElem_map, List.getElem_range]
    by_cases e : i = j
    · subst e; simp
    · simp only [e, if_false, clT, clI]
      by_cases h3 : j < i
      · rw [if_pos h3, if_pos (by omega)]
      · rw [if_neg h3, if_neg (by omega)]
theorem l9 (l : List Int) (k : Nat) (hk : k ≤ 8) : loopRun (loopB (lim tab) [6, 17, 18] f9b0) ([AV.sl 0 k, .pv (.int .i64 k), .pv (.int .i64 0)], [⟨1, (List.range k).map (clT l 0), false⟩]) =
    some (.exit 0, [AV.sl 0 k, .pv (.int .i64 k), .pv (.int .i64 k)], [⟨1, (List.range k).map (clT l k), false⟩]) := by
  refine loop_from (fun i => ([AV.sl 0 k, .pv (.int .i64 k), .pv (.int .i64 i)], [⟨1, (List.range k).map (clT l i), false⟩])) k (by simp) (fun i hi => ?_) ?_
  · have e1 := cl_set l k i hi
    have e2 : clT l (i + 1) i = .pv (.int .i64 (clamp (clI l i i) 0 2000)) := by simp [clT, clI]
    have e3 : clT l i i = .pv (.int .i64 (clI l i i)) := rfl
    have e5 : (List.range k)[i]? = some i := by simp [hi]
    rw [← e1, e2]
    simp (disch := omega) [f9b0, hi, w64, s25, e3, e5]
  · simp [f9b0]
theorem s9 (n : Int) (l : List Int) : limP tab 9 [.pv (.int .i64 n), .pv (.lst 1 (l.map (.int .i64)))] = some (.tup [if confR n then .lst 1 (((pwClean n l).1).map (.int .i64)) else .nils, .int .i64 ((pwClean n l).2)]) := by
  refine by_code rfl rfl rfl ?_
  by_cases h : confR n = true
  · have hr := h
    simp [confR] at hr
    obtain ⟨k, rfl⟩ : ∃ k : Nat, n = k := ⟨n.toNat, by omega⟩
    have h1 : ¬ ((k : Int) < 3 ∨ 8 < (k : Int)) := by omega
    have hl := l9 l k (by omega)
    have e4 : clT l k = fun j => .pv (.int .i64 (clI l k j)) := rfl
    rw [← cl_first, e4] at hl
    simp (disch := omega) [f9, s24, h, h1, if_pos, hl, pvs_mapf, pwClean]
    intro j hj
    simp [clI, hj]
  · have hr := h
    simp only [confR, decide_eq_true_eq] at hr
    have h1 : (n < 3 ∨ 8 < n) := by omega
    have h2 : confR n = false := by simpa using h
    simp (disch := omega) [f9, s24, h1, hr, pwClean]
def nEq (l m : List Int) (k : Nat) : Bool := !decide (l.getD k 0 = m.getD k 0)
theorem l11 (l m : List Int) (hl : l.length ≤ 20) (he : l.length = m.length) : loopRun (loopB (lim tab) [0, 1, 4, 5] f11b0) ([.pv (.lst 1 (l.map (.int .i64))), .pv (.lst 1 (m.map (.int .i64))), .pv (.bool false), .pv (.int .i64 0)], []) =
    some (if (List.range l.length).findIdx (nEq l m) < l.length then (.ret, [.pv (.lst 1 (l.map (.int .i64))), .pv (.lst 1 (m.map (.int .i64))), .pv (.bool false), .pv (.int .i64 ((List.range l.length).findIdx (nEq l m)))], []) else (.exit 0, [.pv (.lst 1 (l.map (.int .i64))), .pv (.lst 1 (m.map (.int .i64))), .pv (.bool false), .pv (.int .i64 l.length)], [])) := by
  refine loop_from (fun k => ([.pv (.lst 1 (l.map (.int .i64))), .pv (.lst 1 (m.map (.int .i64))), .pv (.bool false), .pv (.int .i64 k)], [])) ((List.range l.length).findIdx (nEq l m)) (by simp) (fun k hk => ?_) ?_
  · have h2 : k < (List.range l.length).length := Nat.lt_of_lt_of_le hk List.findIdx_le_length
    have h3 := findIdx_before hk h2
    simp at h2
    have h4 : k < m.length := by omega
    simp [nEq, h2, h4] at h3
    simp (disch := omega) [f11b0, h2, h3, h4, w64]
  · by_cases h : (List.range l.length).findIdx (nEq l m) < l.length
    · have h3 := findIdx_at (p := nEq l m) (l := List.range l.length) (by simpa using h)
      have h4 : (List.range l.length).findIdx (nEq l m) < m.length := by omega
      simp [nEq, h, h4] at h3
      simp [f11b0, h, h4]
      simp [nEq, h, h4, h3]
    · have : (List.range l.length).findIdx (nEq l m) = l.length := by have := List.findIdx_le_length (xs := List.range l.length) (p := nEq l m); simp at this; omega
      simp [f11b0, this]
theorem list_eq {l m : List Int} (he : l.length = m.length) : l = m ↔ ¬ (List.range l.length).findIdx (nEq l m) < l.length := by
  have h0 := List.findIdx_lt_length (p := nEq l m) (xs := List.range l.length)
  simp at h0
  rw [h0]
  constructor
  · rintro rfl; simp [nEq]
  · intro h
    apply List.ext_getElem he
    intro j h1 h2
    have := h
    simp [nEq] at this
    have := this j h1
    simpa [h1, h2] using this
theorem s11 (l m : List Int) (hl : l.length ≤ 20) : limP tab 11 [.pv (.lst 1 (l.map (.int .i64))), .pv (.lst 1 (m.map (.int .i64)))] = some (.bool (decide (l = m))) := by
  refine by_code rfl rfl rfl ?_
  by_cases he : l.length = m.length
  · have h11 := l11 l m hl he
    have h2 := list_eq he
    by_cases hd : (List.range l.length).findIdx (nEq l m) < l.length
    · rw [if_pos hd] at h11
      have h3 : ¬ l = m := by rw [h2]; simpa using hd
      simp (disch := omega) [f11, h11, h3, he]
    · rw [if_neg hd] at h11
      have h3 : l = m := h2.2 hd
      subst h3
      simp (disch := omega) [f11, h11]
  · have h3 : ¬ l = m := fun e => he (by rw [e])
    have h4 : ¬ ((l.length : Int) = m.length) := by omega
    simp (disch := omega) [f11, h3, h4]
def clZ (l : List Int) (i j : Nat) : Int := if j < i then clamp (l.getD j 0) 0 2000 else 0
def clY (l : List Int) (i j : Nat) : AV := .pv (.int .i64 (clZ l i j))
theorem cz_first (l : List Int) (k : Nat) : List.replicate k (AV.pv (PV.int IntKind.i64 0)) = (List.range k).map (clY l 0) := by
  apply List.ext_getElem
  · simp
  · intro j h1 h2
    simp [clY, clZ]
theorem cz_set (l : List Int) (k i : Nat) (h : i < k) : ((List.range k).map (clY l i)).set i (clY l (i + 1) i) = (List.range k).map (clY l (i + 1)) := by
  apply List.ext_getElem
  · simp
  · intro j h1 h2
    simp at h1
    simp only [List.getElem_set, List.getElem_map, List.getElem_range]
    by_cases e : i = j
    · subst e; simp
    · simp only [e, if_false, clY, clZ]
      by_cases h3 : j < i
      · rw [if_pos h3, if_pos (by omega)]
      · rw [if_neg h3, if_neg (by omega)]
theorem l10 (l : List Int) (k : Nat) (hk : k ≤ 8) (hl : l.length ≤ 20) : loopRun (loopB (lim tab) [0, 1, 6, 7] f10b0) ([.pv (.int .i64 k), .pv (.lst 1 (l.map (.int .i64))), AV.sl 0 k, .pv (.int .i64 0)], [⟨1, (List.range k).map (clY l 0), false⟩]) =
    some (.exit 0, [.pv (.int .i64 k), .pv (.lst 1 (l.map (.int .i64))), AV.sl 0 k, .pv (.int .i64 (min k l.length : Nat))], [⟨1, (List.range k).map (clY l (min k l.length)), false⟩]) := by
  refine loop_from (fun i => ([.pv (.int .i64 k), .pv (.lst 1 (l.map (.int .i64))), AV.sl 0 k, .pv (.int .i64 i)], [⟨1, (List.range k).map (clY l i), false⟩])) (min k l.length) (by simp) (fun i hi => ?_) ?_
  · have hi1 : i < k := by omega
    have hi2 : i < l.length := by omega
    have e1 := cz_set l k i hi1
    have e2 : clY l (i + 1) i = .pv (.int .i64 (clamp l[i] 0 2000)) := by simp [clY, clZ, List.getD_eq_getElem?_getD, hi2]
    have e5 : (List.range k)[i]? = some i := by simp [hi1]
    rw [← e1, e2]
    have e3 : clY l i i = .pv (.int .i64 (clZ l i i)) := rfl
    simp (disch := omega) [f10b0, hi1, hi2, w64, s27, e5, e3]
  · rcases Nat.le_total k l.length with h | h
    · have e : min k l.length = k := by omega
      simp [f10b0, e]
    · have e : min k l.length = l.length := by omega
      by_cases h2 : l.length < k
      · simp [f10b0, e, h2]
      · have h3 : k = l.length := by omega
        simp [f10b0, h3]
theorem s10 (n : Int) (l : List Int) (hl : l.length ≤ 20) : limP tab 10 [.pv (.int .i64 n), .pv (.lst 1 (l.map (.int .i64)))] = some (.tup [if confR n then .lst 1 (((pwClean n l).1).map (.int .i64)) else .nils, .int .i64 ((pwClean n l).2)]) := by
  refine by_code rfl rfl rfl ?_
  by_cases h : confR n = true
  · have hr := h
    simp [confR] at hr
    obtain ⟨k, rfl⟩ : ∃ k : Nat, n = k := ⟨n.toNat, by omega⟩
    have h1 : ¬ ((k : Int) < 3 ∨ 8 < (k : Int)) := by omega
    have hl := l10 l k (by omega) hl
    have e4 : clY l (min k l.length) = fun j => .pv (.int .i64 (clZ l (min k l.length) j)) := rfl
    rw [← cz_first, e4] at hl
    simp (disch := omega) [f10, s26, h, h1, if_pos, hl, pvs_mapf, pwClean]
    intro j hj
    by_cases h2 : j < l.length
    · simp [clZ, hj, h2]
      intro h; omega
    · simp [clZ, hj, h2, show l.length ≤ j by omega, clamp]
      intro _; rfl
  · have hr := h
    simp only [confR, decide_eq_true_eq] at hr
    have h1 : (n < 3 ∨ 8 < n) := by omega
    simp (disch := omega) [f10, s26, h1, hr, pwClean]
theorem s14 (i t : Int) (l : List Int) : limP tab 14 [.pv (.lst 1 (l.map (.int .i64))), .pv (.int .i64 i), .pv (.int .i64 t)] = some (.bool (pwOn l i t)) := by
  refine by_code rfl rfl rfl ?_
  simp (disch := omega) [f14, pwOn]
  repeat' (split <;> first | (exfalso; omega) | simp (disch := omega) [*, pwOn] | skip)
  all_goals first | omega | (rw [Bool.eq_iff_iff]; simp; omega) | skip
theorem s16 (i t : Int) (l : List Int) (h1 : ∀ x ∈ l, 0 ≤ x ∧ x ≤ 1073741824) (h2 : 0 ≤ t) (h3 : t ≤ 9223372036854775807) : limP tab 16 [.pv (.lst 1 (l.map (.int .i64))), .pv (.int .i64 i), .pv (.int .i64 t)] = some (.int .i64 (pwSince l i t)) := by
  by_cases h : pwOn l i t = true
  · have h4 := h
    simp [pwOn] at h4
    have h5 := h1 _ (List.getElem_mem (show i.toNat < l.length by omega))
    refine by_code rfl rfl rfl ?_
    simp (disch := omega) [f16, s14, h, pwSince, w64]
    repeat' (split <;> first | (exfalso; omega) | simp (disch := omega) [*, s14, h, pwSince, w64] | skip)
    all_goals first | omega | (rw [Bool.eq_iff_iff]; simp; omega) | skip
  · skip
    refine by_code rfl rfl rfl ?_
    simp (disch := omega) [f16, s14, h, pwSince]
    repeat' (split <;> first | (exfalso; omega) | simp (disch := omega) [*, s14, h, pwSince] | skip)
    all_goals first | omega | (rw [Bool.eq_iff_iff]; simp; omega) | skip
def bad2000 (x : Int) : Bool := decide (x < 0) || decide (2000 < x)
theorem l15 (l : List Int) (hl : l.length ≤ 20) : loopRun (loopB (lim tab) [0, 2, 3] f15b0) ([.pv (.lst 1 (l.map (.int .i64))), .pv (.bool false), .pv (.int .i64 0)], []) =
    some (if l.findIdx bad2000 < l.length then (.ret, [.pv (.lst 1 (l.map (.int .i64))), .pv (.bool false), .pv (.int .i64 (l.findIdx bad2000))], []) else (.exit 0, [.pv (.lst 1 (l.map (.int .i64))), .pv (.bool false), .pv (.int .i64 l.length)], [])) := by
  refine loop_from (fun k => ([.pv (.lst 1 (l.map (.int .i64))), .pv (.bool false), .pv (.int .i64 k)], [])) (l.findIdx bad2000) (by simp) (fun k hk => ?_) ?_
  · have h2 : k < l.length := Nat.lt_of_lt_of_le hk List.findIdx_le_length
    have h3 := findIdx_before hk h2
    simp [bad2000] at h3
    have h4 : ¬ (l[k] < 0) := by omega
    have h5 : ¬ (2000 < l[k]) := by omega
    simp (disch := omega) [f15b0, h2, h4, h5, w64]
  · by_cases h : l.findIdx bad2000 < l.length
    · have h3 := findIdx_at h
      simp only [bad2000, Bool.or_eq_true, decide_eq_true_eq] at h3
      by_cases h4 : l[l.findIdx bad2000] < 0
      · simp [f15b0, h, h4]
      · have h5 : 2000 < l[l.findIdx bad2000] := by omega
        simp [f15b0, h, h4, h5]
    · have : l.findIdx bad2000 = l.length := by have := List.findIdx_le_length (xs := l) (p := bad2000); omega
      simp [f15b0, this]
def listed (l : List Int) : Bool := l.all fun t => decide (0 ≤ t) && decide (t ≤ 2000)
theorem listed_iff (l : List Int) : listed l = true ↔ ¬ l.findIdx bad2000 < l.length := by
  rw [List.findIdx_lt_length]
  simp [listed, bad2000]
theorem s15 (l : List Int) (hl : l.length ≤ 20) : limP tab 15 [.pv (.lst 1 (l.map (.int .i64)))] = some (.bool (listed l)) := by
  refine by_code rfl rfl rfl ?_
  have h := l15 l hl
  by_cases hd : l.findIdx bad2000 < l.length
  · rw [if_pos hd] at h
    have h2 : listed l = false := by rw [Bool.eq_false_iff]; exact fun h => (listed_iff l).1 h hd
    simp (disch := omega) [f15, h, h2]
  · rw [if_neg hd] at h
    have h2 : listed l = true := (listed_iff l).2 hd
    simp (disch := omega) [f15, h, h2]
theorem l13 (n : Int) (l : List Int) (hl : l.length ≤ 20) : loopRun (loopB (lim tab) [0, 1, 4, 5] f13b0) ([.pv (.int .i64 n), .pv (.lst 1 (l.map (.int .i64))), .pv (.bool false), .pv (.int .i64 0)], []) =
    some (if l.findIdx bad2000 < l.length then (.ret, [.pv (.int .i64 n), .pv (.lst 1 (l.map (.int .i64))), .pv (.bool false), .pv (.int .i64 (l.findIdx bad2000))], []) else (.exit 0, [.pv (.int .i64 n), .pv (.lst 1 (l.map (.int .i64))), .pv (.bool false), .pv (.int .i64 l.length)], [])) := by
  refine loop_from (fun k => ([.pv (.int .i64 n), .pv (.lst 1 (l.map (.int .i64))), .pv (.bool false), .pv (.int .i64 k)], [])) (l.findIdx bad2000) (by simp) (fun k hk => ?_) ?_
  · have h2 : k < l.length := Nat.lt_of_lt_of_le hk List.findIdx_le_length
    have h3 := findIdx_before hk h2
    simp [bad2000] at h3
    have h4 : ¬ (l[k] < 0) := by omega
    have h5 : ¬ (2000 < l[k]) := by omega
    simp (disch := omega) [f13b0, h2, h4, h5, w64]
  · by_cases h : l.findIdx bad2000 < l.length
    · have h3 := findIdx_at h
      simp only [bad2000, Bool.or_eq_true, decide_eq_true_eq] at h3
      by_cases h4 : l[l.findIdx bad2000] < 0
      · simp [f13b0, h, h4]
      · have h5 : 2000 < l[l.findIdx bad2000] := by omega
        simp [f13b0, h, h4, h5]
    · have : l.findIdx bad2000 = l.length := by have := List.findIdx_le_length (xs := l) (p := bad2000); omega
      simp [f13b0, this]
theorem s13 (n : Int) (l : List Int) (hl : l.length ≤ 20) : limP tab 13 [.pv (.int .i64 n), .pv (.lst 1 (l.map (.int .i64)))] = some (.bool (pwR n l)) := by
  refine by_code rfl rfl rfl ?_
  have h := l13 n l hl
  have hp : pwR n l = (confR n && decide ((l.length : Int) = n) && listed l) := rfl
  rw [hp]
  by_cases hd : l.findIdx bad2000 < l.length
  · rw [if_pos hd] at h
    have h2 : listed l = false := by rw [Bool.eq_false_iff]; exact fun h => (listed_iff l).1 h hd
    simp (disch := omega) [f13, h, h2]
  · rw [if_neg hd] at h
    have h2 : listed l = true := (listed_iff l).2 hd
    by_cases h3 : 3 ≤ n <;> by_cases h8 : n ≤ 8 <;> by_cases he : (l.length : Int) = n <;> simp (disch := omega) [f13, h, h2, s26, h3, h8, he]
theorem l17 (T : List Int) (hl : T.length ≤ 20) (c x t : Int) : 
    loopRun (loopB (lim tab) [0, 3, 5, 6, 7] f17b0) ([.pv (.lst 1 (T.map (.int .i64))), .ptr 0 1 0 0, .pv (.int .i64 t), .pv (.int .i64 0), .pv (.int .i64 0)], [boxF ⟨c, x⟩]) =
    some (.exit 2, [.pv (.lst 1 (T.map (.int .i64))), .ptr 0 1 0 0, .pv (.int .i64 t), .pv (.int .i64 (cK (nO ⟨c, x⟩ T t) T.length)), .pv (.int .i64 T.length)], [boxF ⟨c, x⟩]) := by
  refine loop_from (fun k => ([.pv (.lst 1 (T.map (.int .i64))), .ptr 0 1 0 0, .pv (.int .i64 t), .pv (.int .i64 (cK (nO ⟨c, x⟩ T t) k)), .pv (.int .i64 k)], [boxF ⟨c, x⟩])) T.length (by simp [cK]) (fun k hk => ?_) ?_
  · have b1 := cK_le (nO ⟨c, x⟩ T t) k
    rw [cK_succ]
    have e1 : nO ⟨c, x⟩ T t k = (!ftNode ⟨c, x⟩ (k : Nat) && pwOn T (k : Nat) t) := rfl
    rw [e1]
    have h14 := s14 (k : Nat) t T
    have h31 := @s31 (k : Nat) c x
    cases ho : pwOn T (k : Nat) t <;> cases hf : ftNode ⟨c, x⟩ (k : Nat) <;> rw [ho] at h14 <;> rw [hf] at h31 <;> simp (disch := omega) [f17b0, hk, w64, boxF, h14, h31]
  · simp [f17b0]
theorem ownL_mem {f : Ft} {l : List Int} {k : Nat} {y : Int} (h : y ∈ ownL f l k) (hk : k ≤ l.length) : y ∈ l := by
  unfold ownL at h
  simp only [List.mem_map, List.mem_filter, List.mem_range] at h
  obtain ⟨i, ⟨hi, _⟩, rfl⟩ := h
  have : l.getD i 0 = l[i] := by simp [List.getD_eq_getElem?_getD, show i < l.length by omega]
  rw [this]; exact List.getElem_mem _
theorem pwCnt_mono (l : List Int) (f : Ft) {t u : Int} (h : t ≤ u) : pwCnt l f t ≤ pwCnt l f u := by
  unfold pwCnt
  have := List.countP_mono_left (l := ownL f l l.length) (p := fun x => decide (x ≤ t)) (q := fun x => decide (x ≤ u)) (fun x _ hx => by simp at *; omega)
  omega
theorem pwCnt_le (l : List Int) (f : Ft) (t : Int) : pwCnt l f t ≤ (ownL f l l.length).length := by
  unfold pwCnt
  have := List.countP_le_length (p := fun x => decide (x ≤ t)) (l := ownL f l l.length)
  omega
def w17 : Nat → AV
  | 0 => .pv (.int .i64 0)
  | _ + 1 => Slots.get [] 4
theorem round17 (T : List Int) (hl : T.length ≤ 20) (c x : Int) (k : Nat) (hk : k ≤ 2000) (w : AV) (h : pwCnt T ⟨c, x⟩ k < 2) :
    loopB (lim tab) [0, 3, 4, 5] f17b1 ([.pv (.lst 1 (T.map (.int .i64))), .ptr 0 1 0 0, w, .pv (.int .i64 k)], [boxF ⟨c, x⟩]) = some (.inl ([.pv (.lst 1 (T.map (.int .i64))), .ptr 0 1 0 0, Slots.get [] 4, .pv (.int .i64 (k + 1 : Nat))], [boxF ⟨c, x⟩])) := by
  have h17 := l17 T hl c x k
  rw [cnt_eq] at h17
  generalize pwCnt T ⟨c, x⟩ k = m at *
  have h1 : (k : Int) ≤ 2000 := by omega
  have h2 : ¬ (2 ≤ m) := by omega
  simp (disch := omega) [boxF] at h17 ⊢
  simp (disch := omega) [f17b1, h17, h1, h2, w64]
theorem hit17 (T : List Int) (hl : T.length ≤ 20) (c x : Int) (k : Nat) (hk : k ≤ 2000) (w : AV) (h : 2 ≤ pwCnt T ⟨c, x⟩ k) :
    ∃ a, loopB (lim tab) [0, 3, 4, 5] f17b1 ([.pv (.lst 1 (T.map (.int .i64))), .ptr 0 1 0 0, w, .pv (.int .i64 k)], [boxF ⟨c, x⟩]) = some (.inr (.ret, [.pv (.lst 1 (T.map (.int .i64))), .ptr 0 1 0 0, .pv (.int .i64 k), a], [boxF ⟨c, x⟩])) := by
  have h17 := l17 T hl c x k
  rw [cnt_eq] at h17
  generalize pwCnt T ⟨c, x⟩ k = m at *
  have h1 : (k : Int) ≤ 2000 := by omega
  simp (disch := omega) [boxF] at h17 ⊢
  simp (disch := omega) [f17b1, h17, h1, h, w64]
theorem s17 (T : List Int) (hl : T.length ≤ 20) (hT : ∀ x ∈ T, 0 ≤ x ∧ x ≤ 2000) (c x : Int) : limP tab 17 [.pv (.lst 1 (T.map (.int .i64))), .pv (.agg [.int .i64 c, .int .i64 x])] = some (.int .i64 (pwTwo T ⟨c, x⟩)) := by
  refine by_code rfl rfl rfl ?_
  by_cases h2 : 2 ≤ (ownL ⟨c, x⟩ T T.length).length
  · obtain ⟨g1, g2, g3⟩ := two_now T ⟨c, x⟩ h2
    obtain ⟨g4, g5⟩ := two_in T ⟨c, x⟩ hT h2
    obtain ⟨m, hm⟩ : ∃ m : Nat, pwTwo T ⟨c, x⟩ = m := ⟨(pwTwo T ⟨c, x⟩).toNat, by omega⟩
    rw [hm] at g1 g2 g4 g5 ⊢
    obtain ⟨a, ha⟩ := hit17 T hl c x m (by omega) (w17 m) g1
    have hloop : loopRun (loopB (lim tab) [0, 3, 4, 5] f17b1) ([.pv (.lst 1 (T.map (.int .i64))), .ptr 0 1 0 0, .pv (.int .i64 0), .pv (.int .i64 0)], [boxF ⟨c, x⟩]) = some (.ret, [.pv (.lst 1 (T.map (.int .i64))), .ptr 0 1 0 0, .pv (.int .i64 m), a], [boxF ⟨c, x⟩]) :=
      loop_from (fun k => ([.pv (.lst 1 (T.map (.int .i64))), .ptr 0 1 0 0, w17 k, .pv (.int .i64 k)], [boxF ⟨c, x⟩])) m rfl (fun k hk => round17 T hl c x k (by omega) (w17 k) (by
        have := pwCnt_mono T ⟨c, x⟩ (t := k) (u := (m : Int) - 1) (by omega)
        omega)) ha
    simp [boxF] at hloop
    simp (disch := omega) [f17, hloop]
  · have hm : pwTwo T ⟨c, x⟩ = -1 := by unfold pwTwo; rw [if_pos (by omega)]
    rw [hm]
    have hloop : loopRun (loopB (lim tab) [0, 3, 4, 5] f17b1) ([.pv (.lst 1 (T.map (.int .i64))), .ptr 0 1 0 0, .pv (.int .i64 0), .pv (.int .i64 0)], [boxF ⟨c, x⟩]) = some (.exit 0, [.pv (.lst 1 (T.map (.int .i64))), .ptr 0 1 0 0, w17 2001, .pv (.int .i64 2001)], [boxF ⟨c, x⟩]) :=
      loop_from (fun k => ([.pv (.lst 1 (T.map (.int .i64))), .ptr 0 1 0 0, w17 k, .pv (.int .i64 k)], [boxF ⟨c, x⟩])) 2001 rfl (fun k hk => round17 T hl c x k (by omega) (w17 k) (by
        have := pwCnt_le T ⟨c, x⟩ k
        omega)) (by simp [f17b1])
    simp [boxF] at hloop
    simp (disch := omega) [f17, hloop]
end Dk
