/- Part of the proof. -/
import Derived.Test.YthdcicadcbogmaaSpA
set_option linter.all false
set_option linter.unusedSimpArgs false
set_option maxRecDepth 100000
namespace Dk
open Go
variable (n i c lo hi x a b d e t now : Int)
theorem l42 (p : Int → Bool) (l : List Int) (hl : l.length ≤ 100000) (f : Nat) (hc : ∀ x ∈ l, ∀ H, callSem (lim tab) f [.pv (.int .i64 x)] H = some (.pv (.bool (p x)), .none)) (v : AV) :
    loopRun (loopB (lim tab) [0, 1, 4, 7, 8] f42b0) ([.pv (.lst 1 (l.map (.int .i64))), .pv (.fn f), v, .pv (.int .i64 l.length), .pv (.int .i64 0)], []) =
    some (if l.findIdx p < l.length then (.ret, [.pv (.lst 1 (l.map (.int .i64))), .pv (.fn f), .pv (.int .i64 (l.findIdx p)), .pv (.int .i64 l.length), .pv (.int .i64 (l.findIdx p))], []) else
      (.exit 0, [.pv (.lst 1 (l.map (.int .i64))), .pv (.fn f), v, .pv (.int .i64 l.length), .pv (.int .i64 l.length)], [])) := by
  refine loop_from (fun k => ([.pv (.lst 1 (l.map (.int .i64))), .pv (.fn f), v, .pv (.int .i64 l.length), .pv (.int .i64 k)], [])) (l.findIdx p) (by simp) (fun k hk => ?_) ?_
  · have h2 : k < l.length := Nat.lt_of_lt_of_le hk List.findIdx_le_length
    have h3 := findIdx_before hk h2
    simp (disch := omega) [f42b0, h2, hc l[k] (List.getElem_mem h2), h3, w64]
  · by_cases h : l.findIdx p < l.length
    · simp [f42b0, h, hc _ (List.getElem_mem h), findIdx_at h]
    · have : l.findIdx p = l.length := by have := List.findIdx_le_length (xs := l) (p := p); omega
      simp [f42b0, this]
theorem s42 (p : Int → Bool) (l : List Int) (hl : l.length ≤ 100000) (f : Nat) (hc : ∀ x ∈ l, ∀ H, callSem (lim tab) f [.pv (.int .i64 x)] H = some (.pv (.bool (p x)), .none)) :
    limP tab 42 [.pv (.lst 1 (l.map (.int .i64))), .pv (.fn f)] = some (.int .i64 (idxF p l)) := by
  refine by_code rfl rfl rfl ?_
  simp [f42, l42 p l hl f hc, idxF]
  repeat' (split <;> simp [*])
theorem s28 (p : Int → Bool) (l : List Int) (hl : l.length ≤ 100000) (f : Nat) (hc : ∀ x ∈ l, ∀ H, callSem (lim tab) f [.pv (.int .i64 x)] H = some (.pv (.bool (p x)), .none)) :
    limP tab 28 [.pv (.lst 1 (l.map (.int .i64))), .pv (.fn f)] = some (.bool (l.any p)) := by
  refine by_code rfl rfl rfl ?_
  simp (disch := omega) [f28, s42 p l hl f hc, ← idxF_any]
  repeat' (split <;> first | (exfalso; omega) | simp (disch := omega) [*, s42 p l hl f hc, ← idxF_any] | skip)
  all_goals first | omega | (rw [Bool.eq_iff_iff]; simp; omega) | skip
theorem s29 : limP tab 29 [.pv (.int .i64 t)] = some (.bool (!(decide (0 ≤ t) && decide (t ≤ 2000)))) := by
  refine by_code rfl rfl rfl ?_
  simp (disch := omega) [f29, s30]
  repeat' (split <;> first | (exfalso; omega) | simp (disch := omega) [*, s30] | skip)
  all_goals first | omega | (rw [Bool.eq_iff_iff]; simp; omega) | skip
theorem s12 (l : List Int) (hl : l.length ≤ 100000) : limP tab 12 [.pv (.int .i64 n), .pv (.lst 1 (l.map (.int .i64)))] = some (.bool (pwR n l)) := by
  have h := s28 (fun t => !(decide (0 ≤ t) && decide (t ≤ 2000))) l hl 29 (fun x _ H => by simp [s29])
  refine by_code rfl rfl rfl ?_
  simp (disch := omega) [f12, s24, h, pwR]
  repeat' (split <;> first | (exfalso; omega) | simp (disch := omega) [*, s24, h, pwR] | skip)
  all_goals first | omega | (rw [Bool.eq_iff_iff]; simp; omega) | skip
  all_goals first | omega | (rw [Bool.eq_iff_iff]; simp; omega) | (rw [Bool.eq_iff_iff]; simp; grind)
theorem s8 (l : List Int) (h1 : ∀ x ∈ l, 0 ≤ x ∧ x ≤ 1073741824) (h2 : 0 ≤ t) (h3 : t ≤ 1073741824) : limP tab 8 [.pv (.lst 1 (l.map (.int .i64))), .pv (.int .i64 i), .pv (.int .i64 t)] = some (.int .i64 (pwSince l i t)) := by
  by_cases h : pwOn l i t = true
  · have h4 := h
    simp [pwOn] at h4
    have h5 := h1 _ (List.getElem_mem (show i.toNat < l.length by omega))
    refine by_code rfl rfl rfl ?_
    simp (disch := omega) [f8, s7, h, pwSince, w64]
    repeat' (split <;> first | (exfalso; omega) | simp (disch := omega) [*, s7, h, pwSince, w64] | skip)
    all_goals first | omega | (rw [Bool.eq_iff_iff]; simp; omega) | skip
  · skip
    refine by_code rfl rfl rfl ?_
    simp (disch := omega) [f8, s7, h, pwSince]
    repeat' (split <;> first | (exfalso; omega) | simp (disch := omega) [*, s7, h, pwSince] | skip)
    all_goals first | omega | (rw [Bool.eq_iff_iff]; simp; omega) | skip
theorem s118 : limP tab 118 [] = some (.mp roundsK roundsV) := lim_sp rfl rfl
theorem s102 : limP tab 102 [] = some (.mp modesK modesV) := lim_sp rfl rfl
theorem fk_block : findKey (.str ⟨#[98, 108, 111, 99, 107]⟩) roundsK roundsV = some (some (.int .i64 2)) := by rfl
theorem s104_block : limP tab 104 [.pv (.str ⟨#[98, 108, 111, 99, 107]⟩), .pv (.int .i64 n)] = some (.int .i64 (confT 2 n)) := by
  refine by_code rfl rfl rfl ?_
  simp (disch := omega) [f104, s24, s118, fk_block, confT, w64]
  repeat' (split <;> first | (exfalso; omega) | simp (disch := omega) [*, s24, s118, fk_block, confT, w64] | skip)
  all_goals first | omega | (rw [Bool.eq_iff_iff]; simp; omega) | skip
theorem fk_watch : findKey (.str ⟨#[119, 97, 116, 99, 104]⟩) roundsK roundsV = some (some (.int .i64 8)) := by rfl
theorem s104_watch : limP tab 104 [.pv (.str ⟨#[119, 97, 116, 99, 104]⟩), .pv (.int .i64 n)] = some (.int .i64 (confT 8 n)) := by
  refine by_code rfl rfl rfl ?_
  simp (disch := omega) [f104, s24, s118, fk_watch, confT, w64]
  repeat' (split <;> first | (exfalso; omega) | simp (disch := omega) [*, s24, s118, fk_watch, confT, w64] | skip)
  all_goals first | omega | (rw [Bool.eq_iff_iff]; simp; omega) | skip
theorem fk_later : findKey (.str ⟨#[108, 97, 116, 101, 114]⟩) roundsK roundsV = some (some (.int .i64 3)) := by rfl
theorem s104_later : limP tab 104 [.pv (.str ⟨#[108, 97, 116, 101, 114]⟩), .pv (.int .i64 n)] = some (.int .i64 (confT 3 n)) := by
  refine by_code rfl rfl rfl ?_
  simp (disch := omega) [f104, s24, s118, fk_later, confT, w64]
  repeat' (split <;> first | (exfalso; omega) | simp (disch := omega) [*, s24, s118, fk_later, confT, w64] | skip)
  all_goals first | omega | (rw [Bool.eq_iff_iff]; simp; omega) | skip
theorem fk_start : findKey (.str ⟨#[115, 116, 97, 114, 116]⟩) roundsK roundsV = some (some (.int .i64 40)) := by rfl
theorem s104_start : limP tab 104 [.pv (.str ⟨#[115, 116, 97, 114, 116]⟩), .pv (.int .i64 n)] = some (.int .i64 (confT 40 n)) := by
  refine by_code rfl rfl rfl ?_
  simp (disch := omega) [f104, s24, s118, fk_start, confT, w64]
  repeat' (split <;> first | (exfalso; omega) | simp (disch := omega) [*, s24, s118, fk_start, confT, w64] | skip)
  all_goals first | omega | (rw [Bool.eq_iff_iff]; simp; omega) | skip
theorem fk_stable : findKey (.str ⟨#[115, 116, 97, 98, 108, 101]⟩) roundsK roundsV = some (some (.int .i64 96)) := by rfl
theorem s104_stable : limP tab 104 [.pv (.str ⟨#[115, 116, 97, 98, 108, 101]⟩), .pv (.int .i64 n)] = some (.int .i64 (confT 96 n)) := by
  refine by_code rfl rfl rfl ?_
  simp (disch := omega) [f104, s24, s118, fk_stable, confT, w64]
  repeat' (split <;> first | (exfalso; omega) | simp (disch := omega) [*, s24, s118, fk_stable, confT, w64] | skip)
  all_goals first | omega | (rw [Bool.eq_iff_iff]; simp; omega) | skip
theorem fk_listen : findKey (.str ⟨#[108, 105, 115, 116, 101, 110]⟩) roundsK roundsV = some (some (.int .i64 4)) := by rfl
theorem s104_listen : limP tab 104 [.pv (.str ⟨#[108, 105, 115, 116, 101, 110]⟩), .pv (.int .i64 n)] = some (.int .i64 (confT 4 n)) := by
  refine by_code rfl rfl rfl ?_
  simp (disch := omega) [f104, s24, s118, fk_listen, confT, w64]
  repeat' (split <;> first | (exfalso; omega) | simp (disch := omega) [*, s24, s118, fk_listen, confT, w64] | skip)
  all_goals first | omega | (rw [Bool.eq_iff_iff]; simp; omega) | skip
theorem fk_cold : findKey (.str ⟨#[99, 111, 108, 100]⟩) roundsK roundsV = some (some (.int .i64 2)) := by rfl
theorem s104_cold : limP tab 104 [.pv (.str ⟨#[99, 111, 108, 100]⟩), .pv (.int .i64 n)] = some (.int .i64 (confT 2 n)) := by
  refine by_code rfl rfl rfl ?_
  simp (disch := omega) [f104, s24, s118, fk_cold, confT, w64]
  repeat' (split <;> first | (exfalso; omega) | simp (disch := omega) [*, s24, s118, fk_cold, confT, w64] | skip)
  all_goals first | omega | (rw [Bool.eq_iff_iff]; simp; omega) | skip
theorem s105_listen : limP tab 105 [.pv (.str ⟨#[108, 105, 115, 116, 101, 110]⟩), .pv (.int .i64 n), .pv (.int .i64 i)] = some (.tup [.int .i64 ((confO 4 n i).1), .int .i64 ((confO 4 n i).2)]) := by
  refine by_code rfl rfl rfl ?_
  simp (disch := omega) [f105, s24, s104_listen, confT, confO, w64]
  repeat' (split <;> first | (exfalso; omega) | simp (disch := omega) [*, s24, s104_listen, confT, confO, w64] | skip)
  all_goals first | omega | (rw [Bool.eq_iff_iff]; simp; omega) | skip
theorem s105_cold : limP tab 105 [.pv (.str ⟨#[99, 111, 108, 100]⟩), .pv (.int .i64 n), .pv (.int .i64 i)] = some (.tup [.int .i64 ((confO 2 n i).1), .int .i64 ((confO 2 n i).2)]) := by
  refine by_code rfl rfl rfl ?_
  simp (disch := omega) [f105, s24, s104_cold, confT, confO, w64]
  repeat' (split <;> first | (exfalso; omega) | simp (disch := omega) [*, s24, s104_cold, confT, confO, w64] | skip)
  all_goals first | omega | (rw [Bool.eq_iff_iff]; simp; omega) | skip
theorem s90 : limP tab 90 [.pv (.int .i64 n)] = some (.int .i64 (confT 2 n)) := by
  refine by_code rfl rfl rfl ?_
  simp (disch := omega) [f90, s104_block]
  repeat' (split <;> first | (exfalso; omega) | simp (disch := omega) [*, s104_block] | skip)
  all_goals first | omega | (rw [Bool.eq_iff_iff]; simp; omega) | skip
theorem s131 : limP tab 131 [.pv (.int .i64 n)] = some (.int .i64 (confT 8 n)) := by
  refine by_code rfl rfl rfl ?_
  simp (disch := omega) [f131, s104_watch]
  repeat' (split <;> first | (exfalso; omega) | simp (disch := omega) [*, s104_watch] | skip)
  all_goals first | omega | (rw [Bool.eq_iff_iff]; simp; omega) | skip
theorem s91 : limP tab 91 [.pv (.int .i64 n), .pv (.int .i64 i)] = some (.tup [.int .i64 ((confO 2 n i).1), .int .i64 ((confO 2 n i).2)]) := by
  refine by_code rfl rfl rfl ?_
  simp (disch := omega) [f91, s105_cold]
  repeat' (split <;> first | (exfalso; omega) | simp (disch := omega) [*, s105_cold] | skip)
  all_goals first | omega | (rw [Bool.eq_iff_iff]; simp; omega) | skip
theorem s92 : limP tab 92 [.pv (.int .i64 n), .pv (.int .i64 i)] = some (.tup [.int .i64 ((confO 4 n i).1), .int .i64 ((confO 4 n i).2)]) := by
  refine by_code rfl rfl rfl ?_
  simp (disch := omega) [f92, s105_listen]
  repeat' (split <;> first | (exfalso; omega) | simp (disch := omega) [*, s105_listen] | skip)
  all_goals first | omega | (rw [Bool.eq_iff_iff]; simp; omega) | skip
theorem s80 : limP tab 80 [.pv (.agg [.int .i64 a, .int .i64 b, .int .i64 c, .int .i64 d])] = some (nd (ndWake ⟨a, b, c, d⟩)) := by
  refine by_code rfl rfl rfl ?_
  simp (disch := omega) [f80, nd, ndWake]
  repeat' (split <;> first | (exfalso; omega) | simp (disch := omega) [*, nd, ndWake] | skip)
  all_goals first | omega | (rw [Bool.eq_iff_iff]; simp; omega) | skip
theorem s72 (h : 3 ≤ n) (h2 : n ≤ 8) (h3 : 0 ≤ a) (h4 : a < n) : limP tab 72 [.pv (.int .i64 n), .pv (.agg [.int .i64 a, .int .i64 b, .int .i64 c, .int .i64 d])] = some (.int .i64 (sayWait n ⟨a, b, c, d⟩)) := by
  refine by_code rfl rfl rfl ?_
  simp (disch := omega) [f72, s91, s92, sayWait, confO, h, h2, h3, h4]
  repeat' (split <;> first | (exfalso; omega) | simp (disch := omega) [*, s91, s92, sayWait, confO, h, h2, h3, h4] | skip)
  all_goals first | omega | (rw [Bool.eq_iff_iff]; simp; omega) | skip
theorem s50 : limP tab 50 [.pv (.int .i64 n), .pv (.agg [.int .i64 a, .int .i64 b, .int .i64 c, .int .i64 d])] = some (.tup [fr (sayOf n ⟨a, b, c, d⟩).1, .int .i64 ((sayOf n ⟨a, b, c, d⟩).2)]) := by
  by_cases hr : ndR n ⟨a, b, c, d⟩ = true
  · have hr2 := hr
    simp [ndR] at hr2
    refine by_code rfl rfl rfl ?_
    simp (disch := omega) [f50, s48, hr, s72, sayOf, fr, fr0]
    repeat' (split <;> first | (exfalso; omega) | simp (disch := omega) [*, s48, hr, s72, sayOf, fr, fr0] | skip)
    all_goals first | omega | (rw [Bool.eq_iff_iff]; simp; omega) | skip
  · skip
    refine by_code rfl rfl rfl ?_
    simp (disch := omega) [f50, s48, hr, sayOf, fr, fr0]
    repeat' (split <;> first | (exfalso; omega) | simp (disch := omega) [*, s48, hr, sayOf, fr, fr0] | skip)
    all_goals first | omega | (rw [Bool.eq_iff_iff]; simp; omega) | skip
theorem s47 : limP tab 47 [.pv (.int .i64 n), .pv (.int .i64 i), .pv (.agg [.int .i64 a, .int .i64 b, .int .i64 c, .int .i64 d])] = some (.tup [nd (ndClean n i ⟨a, b, c, d⟩).1, .int .i64 ((ndClean n i ⟨a, b, c, d⟩).2)]) := by
  refine by_code rfl rfl rfl ?_
  simp (disch := omega) [f47, s45, ndFresh, ndClean, nd, s25, s71]
  repeat' (split <;> first | (exfalso; omega) | simp (disch := omega) [*, s45, ndFresh, ndClean, nd, s25, s71] | skip)
  all_goals first | omega | (rw [Bool.eq_iff_iff]; simp; omega) | skip
end Dk
