/- Part of the proof. -/
import Derived.Test.YthdcicadcbogmaaSpQ
set_option linter.all false
set_option linter.unusedSimpArgs false
set_option linter.unusedVariables false
set_option maxRecDepth 100000
namespace Dk
open Go
def cK (p : Nat → Bool) (k : Nat) : Int := (((List.range k).countP p : Nat) : Int)
theorem cK_succ (p : Nat → Bool) (k : Nat) : cK p (k + 1) = cK p k + (if p k then 1 else 0) := by
  unfold cK
  rw [List.range_succ, List.countP_append]
  cases h : p k <;> simp [h]
theorem cK_le (p : Nat → Bool) (k : Nat) : 0 ≤ cK p k ∧ cK p k ≤ k := by
  unfold cK
  have := List.countP_le_length (p := p) (l := List.range k)
  simp at this
  omega
def nN (f : Ft) (i : Nat) : Bool := !ftNode f (i : Nat)
def nO (f : Ft) (l : List Int) (t : Int) (i : Nat) : Bool := !ftNode f (i : Nat) && pwOn l (i : Nat) t
theorem l1 (T : List Int) (hl : T.length ≤ 20) (c x t : Int) (ht : -5 ≤ t ∧ t ≤ 1073741824) (R : Blk) (G : Heap) :
    loopRun (loopB (lim tab) [3, 5, 7, 8, 9, 10, 11] f1b1) ([.ptr 0 1 0 0, .sl 2 T.length, .pv (.int .i64 t), .pv (.int .i64 0), .pv (.int .i64 0), .pv (.int .i64 0), .pv (.int .i64 0)], boxF ⟨c, x⟩ :: R :: ⟨1, T.map fun z => .pv (.int .i64 z), false⟩ :: G) =
    some (.exit 2, [.ptr 0 1 0 0, .sl 2 T.length, .pv (.int .i64 t), .pv (.int .i64 (cK (nO ⟨c, x⟩ T t) T.length)), .pv (.int .i64 (cK (nO ⟨c, x⟩ T (t - 1)) T.length)), .pv (.int .i64 (cK (nN ⟨c, x⟩) T.length)), .pv (.int .i64 T.length)], boxF ⟨c, x⟩ :: R :: ⟨1, T.map fun z => .pv (.int .i64 z), false⟩ :: G) := by
  refine loop_from (fun k => ([.ptr 0 1 0 0, .sl 2 T.length, .pv (.int .i64 t), .pv (.int .i64 (cK (nO ⟨c, x⟩ T t) k)), .pv (.int .i64 (cK (nO ⟨c, x⟩ T (t - 1)) k)), .pv (.int .i64 (cK (nN ⟨c, x⟩) k)), .pv (.int .i64 k)], boxF ⟨c, x⟩ :: R :: ⟨1, T.map fun z => .pv (.int .i64 z), false⟩ :: G)) T.length (by simp [cK]) (fun k hk => ?_) ?_
  · have h7 := s7 (k : Nat) t T
    have h71 := s7 (k : Nat) (t - 1) T
    have b1 := cK_le (nO ⟨c, x⟩ T t) k
    have b2 := cK_le (nO ⟨c, x⟩ T (t - 1)) k
    have b3 := cK_le (nN ⟨c, x⟩) k
    rw [cK_succ, cK_succ, cK_succ]
    have e1 : nO ⟨c, x⟩ T t k = (!ftNode ⟨c, x⟩ (k : Nat) && pwOn T (k : Nat) t) := rfl
    have e2 : nO ⟨c, x⟩ T (t - 1) k = (!ftNode ⟨c, x⟩ (k : Nat) && pwOn T (k : Nat) (t - 1)) := rfl
    have e3 : nN ⟨c, x⟩ k = !ftNode ⟨c, x⟩ (k : Nat) := rfl
    rw [e1, e2, e3]
    by_cases hn : c = 1 ∧ x = k
    · obtain ⟨rfl, rfl⟩ := hn
      simp (disch := omega) [f1b1, hk, w64, boxF, ftNode]
    · have hf : ftNode ⟨c, x⟩ (k : Nat) = false := by simp [ftNode]; omega
      rw [hf]
      have hcase : (c = 1) = True ∧ (x = k) = False ∨ (c = 1) = False := by
        by_cases h : c = 1 <;> simp [h] at hn ⊢
        exact hn
      cases ho : pwOn T (k : Nat) t <;> cases ho1 : pwOn T (k : Nat) (t - 1) <;> rw [ho] at h7 <;> rw [ho1] at h71 <;> rcases hcase with ⟨h1, h2⟩ | h1 <;> simp (disch := omega) [f1b1, hk, w64, boxF, h1, *, pvs_mapf, if_pos]
  · simp [f1b1]
theorem ownL_flat (f : Ft) (l : List Int) : (ownL f l l.length).length = ((List.range l.length).countP (nN f)) := by
  unfold ownL
  rw [List.length_map, List.countP_eq_length_filter]; rfl
theorem all_eq (f : Ft) (l : List Int) : cK (nN f) l.length = ((ownL f l l.length).length : Nat) := by rw [ownL_flat]; rfl
theorem cnt_eq (f : Ft) (l : List Int) (t : Int) : cK (nO f l t) l.length = pwCnt l f t := by
  unfold cK pwCnt ownL
  rw [List.countP_map, List.countP_filter]
  congr 1
  apply List.countP_congr
  intro i hi
  simp at hi
  simp [nO, pwOn, hi]
  exact and_comm
theorem two_in (l : List Int) (f : Ft) (hl : ∀ x ∈ l, 0 ≤ x ∧ x ≤ 2000) (h : 2 ≤ (ownL f l l.length).length) : 0 ≤ pwTwo l f ∧ pwTwo l f ≤ 2000 := by
  have h1 := (two_now l f h).2.2
  unfold ownL at h1
  simp only [List.mem_map, List.mem_filter, List.mem_range] at h1
  obtain ⟨i, ⟨hi, _⟩, he⟩ := h1
  have : l.getD i 0 = l[i] := by simp [List.getD_eq_getElem?_getD, hi]
  have := hl _ (List.getElem_mem hi)
  omega
/-- The ticks of a list, as the law's loop lays them. -/
def tkL (l : List Int) (k : Nat) : List Int := (List.range k).map (modI l)
theorem tkL_all (l : List Int) : tkL l l.length = ticksL l := by
  apply List.ext_getElem
  · simp [tkL, ticksL]
  · intro k h1 h2
    simp [tkL] at h1
    simp [tkL, ticksL, modI, List.getD_eq_getElem?_getD, h1]
theorem l1a (l : List Int) (hl : l.length ≤ 20) (hr : ∀ x ∈ l, 0 ≤ x ∧ x ≤ 65535) (c x : Int) : loopRun (loopB (lim tab) [0, 3, 5, 6] f1b0) ([.pv (.lst 1 (l.map (.int .u16))), .ptr 0 1 0 0, .pv .nils, .pv (.int .i64 0)], [boxF ⟨c, x⟩]) =
    some (.exit 0, [.pv (.lst 1 (l.map (.int .u16))), .ptr 0 1 0 0, (growO (boxF ⟨c, x⟩) (ticksL l)).1, .pv (.int .i64 l.length)], (growO (boxF ⟨c, x⟩) (ticksL l)).2) := by
  rw [← tkL_all]
  refine loop_from (fun k => ([.pv (.lst 1 (l.map (.int .u16))), .ptr 0 1 0 0, (growO (boxF ⟨c, x⟩) (tkL l k)).1, .pv (.int .i64 k)], (growO (boxF ⟨c, x⟩) (tkL l k)).2)) l.length (by simp [growO, tkL]) (fun k hk => ?_) ?_
  · have hx := hr _ (List.getElem_mem hk)
    have hg : l.getD k 0 = l[k] := by simp [List.getD_eq_getElem?_getD, hk]
    have ht := tmod_pos (n := 2001) (by omega) (Int.tmod_nonneg 2001 hx.1)
    have hv : l[k] % 2001 = modI l k := by simp only [modI, hg]
    have hle : (tkL l k).length = k := by simp [tkL]
    have hs : tkL l (k + 1) = tkL l k ++ [modI l k] := by simp [tkL, List.range_succ]
    rw [hs]
    cases ho : tkL l k with
    | nil => simp (disch := omega) [f1b0, hk, w64, ht, growO, hv, boxF]
    | cons y ys =>
      rw [ho] at hle; simp at hle
      have e1 : (ys.map (fun z => (⟨1, [.pv (.int .i64 z)], false⟩ : Blk)) ++ [⟨1, [.pv (.int .i64 (modI l k))], false⟩])[ys.length]? = some ⟨1, [.pv (.int .i64 (modI l k))], false⟩ := by simp
      simp (disch := omega) [f1b0, hk, w64, ht, growO, hv, boxF, if_pos, e1]
  · cases tkL l l.length <;> simp [f1b0, growO]
theorem s1 {L : PV} {l : List Int} (h : IsL 1 L (l.map (.int .u16))) (hr : ∀ x ∈ l, 0 ≤ x ∧ x ≤ 65535) (c x : Int) : limP tab 1 [.pv L, .pv (.agg [.int .i64 c, .int .i64 x])] = some (.bool true) := by
  by_cases hl : l.length ≤ 20
  · cases l with
    | nil =>
      have h6 := s6L (L := .nils) (l := []) (isL_nils 1) (by simp) c x
      have hp : pwTwo [] ⟨c, x⟩ = -1 := by simp [pwTwo, ownL]
      rw [hp] at h6
      rcases h with ⟨rfl, h⟩ | rfl <;>
      · refine by_code rfl rfl rfl ?_
        simp (disch := omega) [f1, s5, w64, loopS_run, f1b0, f1b1, h6, loopS_inr]
    | cons y ys =>
      rcases h with ⟨rfl, h⟩ | rfl
      · simp at h
      have ha := l1a (y :: ys) hl hr c x
      obtain ⟨z, zs, hz⟩ : ∃ z zs, ticksL (y :: ys) = z :: zs := ⟨_, _, by simp [ticksL]; exact ⟨rfl, rfl⟩⟩
      have hzl : (z :: zs).length ≤ 20 := by rw [← hz]; simpa [ticksL] using hl
      have hin := ticksL_in (y :: ys)
      rw [hz] at ha hin
      have h6 := s6 (z :: zs) hzl c x
      have hb1 := l1 (z :: zs) hzl c x
      simp [growO, boxF] at ha
      by_cases h2 : 2 ≤ (ownL ⟨c, x⟩ (z :: zs) (z :: zs).length).length
      · obtain ⟨g1, g2, g3⟩ := two_now _ _ h2
        obtain ⟨g4, g5⟩ := two_in _ _ hin h2
        have hb := hb1 (pwTwo (z :: zs) ⟨c, x⟩) (by omega)
        rw [cnt_eq, cnt_eq, all_eq] at hb
        generalize pwTwo (z :: zs) ⟨c, x⟩ = t at *
        generalize pwCnt (z :: zs) ⟨c, x⟩ t = n1 at *
        generalize pwCnt (z :: zs) ⟨c, x⟩ (t - 1) = n2 at *
        generalize (ownL ⟨c, x⟩ (z :: zs) (z :: zs).length).length = n3 at *
        simp [boxF] at hb h6
        have hyl : ¬ (20 < (ys.length : Int) + 1) := by simp at hl; omega
        have h2i : (2 : Int) ≤ n3 := by omega
        have h2j : ¬ ((n3 : Int) < 2) := by omega
        have h2k : ¬ (t = -1) := by omega
        refine by_code rfl rfl rfl ?_
        simp (disch := omega) [f1, s5, ha, hb, h6, if_pos, if_neg, pvs_mapf, hyl, g1, g2, g4, h2i, h2j, h2k]
      · have ht : pwTwo (z :: zs) ⟨c, x⟩ = -1 := by unfold pwTwo; rw [if_pos (by omega)]
        have hb := hb1 (-1) (by omega)
        rw [all_eq] at hb
        rw [ht] at h6
        generalize cK (nO ⟨c, x⟩ (z :: zs) (-1)) (z :: zs).length = n1 at *
        generalize cK (nO ⟨c, x⟩ (z :: zs) (-1 - 1)) (z :: zs).length = n2 at *
        generalize (ownL ⟨c, x⟩ (z :: zs) (z :: zs).length).length = n3 at *
        simp [boxF] at hb h6
        have hyl : ¬ (20 < (ys.length : Int) + 1) := by simp at hl; omega
        have h2j : (n3 : Int) < 2 := by omega
        refine by_code rfl rfl rfl ?_
        simp (disch := omega) [f1, s5, ha, hb, h6, if_pos, if_neg, pvs_mapf, hyl, h2j]
  · rcases h with ⟨rfl, h⟩ | rfl
    · simp at h; subst h; simp at hl
    refine by_code rfl rfl rfl ?_
    simp (disch := omega) [f1, s5, if_pos]
end Dk
