/- Part of the proof. -/
import Derived.Test.YthdcicadcbogmaaDkList
set_option linter.all false
set_option linter.unusedSimpArgs false
set_option maxRecDepth 100000
namespace Dk
open Go
variable (n i c lo hi x a b d e t now : Int)
theorem s24 : limP tab 24 [.pv (.int .i64 n)] = some (.bool (decide (3 ≤ n ∧ n ≤ 8))) := by
  refine by_code rfl rfl rfl ?_
  simp (disch := omega) [f24]
  repeat' (split <;> first | (exfalso; omega) | simp (disch := omega) [*] | skip)
  all_goals first | omega | (rw [Bool.eq_iff_iff]; simp; omega) | skip
theorem s26 : limP tab 26 [.pv (.int .i64 n)] = some (.bool (decide (3 ≤ n ∧ n ≤ 8))) := by
  refine by_code rfl rfl rfl ?_
  simp (disch := omega) [f26]
  repeat' (split <;> first | (exfalso; omega) | simp (disch := omega) [*] | skip)
  all_goals first | omega | (rw [Bool.eq_iff_iff]; simp; omega) | skip
  all_goals omega
theorem s25 : limP tab 25 [.pv (.int .i64 c), .pv (.int .i64 lo), .pv (.int .i64 hi)] = some (.int .i64 (clamp c lo hi)) := by
  refine by_code rfl rfl rfl ?_
  simp (disch := omega) [f25, clamp]
  repeat' (split <;> first | (exfalso; omega) | simp (disch := omega) [*, clamp] | skip)
  all_goals first | omega | (rw [Bool.eq_iff_iff]; simp; omega) | skip
  all_goals omega
theorem s27 : limP tab 27 [.pv (.int .i64 c), .pv (.int .i64 lo), .pv (.int .i64 hi)] = some (.int .i64 (clamp c lo hi)) := by
  refine by_code rfl rfl rfl ?_
  simp (disch := omega) [f27, clamp]
  repeat' (split <;> first | (exfalso; omega) | simp (disch := omega) [*, clamp] | skip)
  all_goals first | omega | (rw [Bool.eq_iff_iff]; simp; omega) | skip
  all_goals omega
theorem s30 : limP tab 30 [.pv (.int .i64 t)] = some (.bool (decide (0 ≤ t) && decide (t ≤ 2000))) := by
  refine by_code rfl rfl rfl ?_
  simp (disch := omega) [f30]
  repeat' (split <;> first | (exfalso; omega) | simp (disch := omega) [*] | skip)
  all_goals first | omega | (rw [Bool.eq_iff_iff]; simp; omega) | skip
theorem s22 : limP tab 22 [.pv (.agg [.int .i64 c, .int .i64 x]), .pv (.int .i64 i)] = some (.bool (ftNode ⟨c, x⟩ i)) := by
  refine by_code rfl rfl rfl ?_
  simp (disch := omega) [f22, ftNode]
  repeat' (split <;> first | (exfalso; omega) | simp (disch := omega) [*, ftNode] | skip)
  all_goals first | omega | (rw [Bool.eq_iff_iff]; simp; omega) | skip
theorem s79 : limP tab 79 [.pv (.agg [.int .i64 c, .int .i64 x]), .pv (.int .i64 i)] = some (.bool (ftHub ⟨c, x⟩ i)) := by
  refine by_code rfl rfl rfl ?_
  simp (disch := omega) [f79, ftHub]
  repeat' (split <;> first | (exfalso; omega) | simp (disch := omega) [*, ftHub] | skip)
  all_goals first | omega | (rw [Bool.eq_iff_iff]; simp; omega) | skip
theorem s31 : limP tab 31 [.pv (.agg [.int .i64 c, .int .i64 x]), .pv (.int .i64 i)] = some (.bool (ftNode ⟨c, x⟩ i)) := by
  refine by_code rfl rfl rfl ?_
  simp (disch := omega) [f31, ftNode]
  repeat' (split <;> first | (exfalso; omega) | simp (disch := omega) [*, ftNode] | skip)
  all_goals first | omega | (rw [Bool.eq_iff_iff]; simp; omega) | skip
theorem s39 (h : hi ≤ 1073741824) : limP tab 39 [.pv (.int .i64 c), .pv (.int .i64 hi)] = some (.int .i64 (up c hi)) := by
  refine by_code rfl rfl rfl ?_
  simp (disch := omega) [f39, up, w64]
  repeat' (split <;> first | (exfalso; omega) | simp (disch := omega) [*, up, w64] | skip)
  all_goals first | omega | (rw [Bool.eq_iff_iff]; simp; omega) | skip
  all_goals omega
theorem s108 (h : c ≤ 1073741824) : limP tab 108 [.pv (.int .i64 c)] = some (.int .i64 (down c)) := by
  refine by_code rfl rfl rfl ?_
  simp (disch := omega) [f108, down, w64]
  repeat' (split <;> first | (exfalso; omega) | simp (disch := omega) [*, down, w64] | skip)
  all_goals first | omega | (rw [Bool.eq_iff_iff]; simp; omega) | skip
  all_goals omega
theorem s71 (h : 0 < n) (h2 : n ≤ 8) : limP tab 71 [.pv (.int .i64 n), .pv (.int .i64 x)] = some (.int .i64 (modr n x)) := by
  have h3 := tmod_lo h x
  have h4 := tmod_hi h x
  have h5 := tmod_cases h x
  refine by_code rfl rfl rfl ?_
  simp (disch := omega) [f71, modr, w64]
  repeat' (split <;> first | (exfalso; omega) | simp (disch := omega) [*, modr, w64] | skip)
  all_goals first | omega | (rw [Bool.eq_iff_iff]; simp; omega) | skip
  all_goals omega
theorem s109 (h : 0 < n) (h2 : n ≤ 8) (h3 : 0 ≤ x) (h4 : x < n) : limP tab 109 [.pv (.int .i64 n), .pv (.int .i64 x)] = some (.int .i64 (nextr n x)) := by
  refine by_code rfl rfl rfl ?_
  simp (disch := omega) [f109, nextr, w64]
  repeat' (split <;> first | (exfalso; omega) | simp (disch := omega) [*, nextr, w64] | skip)
  all_goals first | omega | (rw [Bool.eq_iff_iff]; simp; omega) | skip
theorem s68 : limP tab 68 [.pv (.int .i64 n), .pv (.int .i64 c)] = some (.int .i64 (ftMany n c)) := by
  refine by_code rfl rfl rfl ?_
  simp (disch := omega) [f68, ftMany]
  repeat' (split <;> first | (exfalso; omega) | simp (disch := omega) [*, ftMany] | skip)
  all_goals first | omega | (rw [Bool.eq_iff_iff]; simp; omega) | skip
theorem s43 : limP tab 43 [.pv (.int .i64 n), .pv (.agg [.int .i64 c, .int .i64 x])] = some (.bool (ftR n ⟨c, x⟩)) := by
  refine by_code rfl rfl rfl ?_
  simp (disch := omega) [f43, ftR, s24, s68]
  repeat' (split <;> first | (exfalso; omega) | simp (disch := omega) [*, ftR, s24, s68] | skip)
  all_goals first | omega | (rw [Bool.eq_iff_iff]; simp; omega) | skip
theorem s32 : limP tab 32 [.pv (.int .i64 n), .pv (.agg [.int .i64 c, .int .i64 x])] = some (.tup [.agg [.int .i64 ((ftClean n ⟨c, x⟩).1.cls), .int .i64 ((ftClean n ⟨c, x⟩).1.who)], .int .i64 ((ftClean n ⟨c, x⟩).2)]) := by
  refine by_code rfl rfl rfl ?_
  simp (disch := omega) [f32, ftClean, s24, s43]
  repeat' (split <;> first | (exfalso; omega) | simp (disch := omega) [*, ftClean, s24, s43] | skip)
  all_goals first | omega | (rw [Bool.eq_iff_iff]; simp; omega) | skip
theorem s7 (l : List Int) : limP tab 7 [.pv (.lst 1 (l.map (.int .i64))), .pv (.int .i64 i), .pv (.int .i64 t)] = some (.bool (pwOn l i t)) := by
  refine by_code rfl rfl rfl ?_
  simp (disch := omega) [f7, pwOn]
  repeat' (split <;> first | (exfalso; omega) | simp (disch := omega) [*, pwOn] | skip)
  all_goals first | omega | (rw [Bool.eq_iff_iff]; simp; omega) | skip
theorem s45 : limP tab 45 [.pv (.int .i64 n), .pv (.int .i64 i)] = some (.tup [nd (ndFresh n i).1, .int .i64 ((ndFresh n i).2)]) := by
  refine by_code rfl rfl rfl ?_
  simp (disch := omega) [f45, ndFresh, s24, nd]
  repeat' (split <;> first | (exfalso; omega) | simp (disch := omega) [*, ndFresh, s24, nd] | skip)
  all_goals first | omega | (rw [Bool.eq_iff_iff]; simp; omega) | skip
theorem s48 : limP tab 48 [.pv (.int .i64 n), .pv (.agg [.int .i64 a, .int .i64 b, .int .i64 c, .int .i64 d])] = some (.bool (ndR n ⟨a, b, c, d⟩)) := by
  have hm := fun h : 0 < n => Int.emod_lt_of_pos d h
  have hm2 := fun h : 0 < n => Int.emod_nonneg d (show n ≠ 0 by omega)
  have hm3 := fun (h : 0 ≤ d) (h2 : d < n) => Int.emod_eq_of_lt h h2
  refine by_code rfl rfl rfl ?_
  simp (disch := omega) [f48, ndR, s24, s45, ndFresh, nd, s25, clamp, s71, modr]
  repeat' (split <;> first | (exfalso; omega) | simp (disch := omega) [*, ndR, s24, s45, ndFresh, nd, s25, clamp, s71, modr] | skip)
  all_goals first | omega | (rw [Bool.eq_iff_iff]; simp; omega) | skip
  all_goals first | omega | (rw [Bool.eq_iff_iff]; simp; omega)
end Dk
