/- Part of the proof. -/
import Derived.Test.YthdcicadcbogmaaSpT
set_option linter.all false
set_option linter.unusedSimpArgs false
set_option linter.unusedVariables false
set_option maxRecDepth 100000
namespace Dk
open Go
def LI (L : PV) (l : List Int) : Prop := IsL 1 L (l.map (.int .i64))
theorem s8b (i t : Int) (l : List Int) (h1 : ∀ x ∈ l, 0 ≤ x ∧ x ≤ 2000) (h2 : 0 ≤ t) (h3 : t ≤ 9223372036854775807) : limP tab 8 [.pv (.lst 1 (l.map (.int .i64))), .pv (.int .i64 i), .pv (.int .i64 t)] = some (.int .i64 (pwSince l i t)) := by
  by_cases h : pwOn l i t = true
  · have h4 := h
    simp [pwOn] at h4
    have h5 := h1 _ (List.getElem_mem (show i.toNat < l.length by omega))
    refine by_code rfl rfl rfl ?_
    simp (disch := omega) [f8, s7, h, pwSince, w64]
    repeat' (split <;> first | (exfalso; omega) | simp (disch := omega) [*, s7, h, pwSince, w64] | skip)
    all_goals first | omega | (rw [Bool.eq_iff_iff]; simp; omega) | skip
  · skip
    refine by_code rfl rfl rfl ?_
    simp (disch := omega) [f8, s7, h, pwSince]
    repeat' (split <;> first | (exfalso; omega) | simp (disch := omega) [*, s7, h, pwSince] | skip)
    all_goals first | omega | (rw [Bool.eq_iff_iff]; simp; omega) | skip
theorem t8 {L : PV} {l : List Int} (h : LI L l) (i t : Int) (h1 : ∀ x ∈ l, 0 ≤ x ∧ x ≤ 2000) (h2 : 0 ≤ t) (h3 : t ≤ 9223372036854775807) : limP tab 8 [.pv L, .pv (.int .i64 i), .pv (.int .i64 t)] = some (.int .i64 (pwSince l i t)) := by
  rcases h with ⟨rfl, h⟩ | rfl
  · simp at h; subst h
    have h7 := s7L (L := .nils) (l := []) (isL_nils 1)
    refine by_code rfl rfl rfl ?_
    simp (disch := omega) [f8, h7, pwSince, pwOn]
    repeat' (split <;> first | (exfalso; omega) | simp (disch := omega) [*, h7, pwSince, pwOn] | skip)
    all_goals first | omega | (rw [Bool.eq_iff_iff]; simp; omega) | skip
  · exact s8b i t l h1 h2 h3
theorem t9 {L : PV} {l : List Int} (h : LI L l) (n : Int) : limP tab 9 [.pv (.int .i64 n), .pv L] = some (.tup [if confR n then .lst 1 (((pwClean n l).1).map (.int .i64)) else .nils, .int .i64 ((pwClean n l).2)]) := by
  rcases h with ⟨rfl, h⟩ | rfl
  · simp at h; subst h
    refine by_code rfl rfl rfl ?_
    by_cases h : confR n = true
    · have hr := h
      simp [confR] at hr
      obtain ⟨k, rfl⟩ : ∃ k : Nat, n = k := ⟨n.toNat, by omega⟩
      have h1 : ¬ ((k : Int) < 3 ∨ 8 < (k : Int)) := by omega
      have hl := l9 [] k (by omega)
      have e4 : clT [] k = fun j => .pv (.int .i64 (clI [] k j)) := rfl
      rw [← cl_first, e4] at hl
      simp at hl
      simp (disch := omega) [f9, s24, h, h1, if_pos, hl, pvs_mapf, pwClean]
      intro j hj
      simp [clI, hj]
    · have hr := h
      simp only [confR, decide_eq_true_eq] at hr
      have h1 : (n < 3 ∨ 8 < n) := by omega
      simp (disch := omega) [f9, s24, h1, hr, pwClean]
  · exact s9 n l
theorem t10 {L : PV} {l : List Int} (h : LI L l) (n : Int) (hl : l.length ≤ 20) : limP tab 10 [.pv (.int .i64 n), .pv L] = some (.tup [if confR n then .lst 1 (((pwClean n l).1).map (.int .i64)) else .nils, .int .i64 ((pwClean n l).2)]) := by
  rcases h with ⟨rfl, h⟩ | rfl
  · simp at h; subst h
    refine by_code rfl rfl rfl ?_
    by_cases h : confR n = true
    · have hr := h
      simp [confR] at hr
      obtain ⟨k, rfl⟩ : ∃ k : Nat, n = k := ⟨n.toNat, by omega⟩
      have h1 : ¬ ((k : Int) < 3 ∨ 8 < (k : Int)) := by omega
      have hl : loopRun (loopB (lim tab) [0, 1, 6, 7] f10b0) ([.pv (.int .i64 k), .pv .nils, AV.sl 0 k, .pv (.int .i64 0)], [⟨1, List.replicate k (.pv (.int .i64 0)), false⟩]) = some (.exit 0, [.pv (.int .i64 k), .pv .nils, AV.sl 0 k, .pv (.int .i64 0)], [⟨1, List.replicate k (.pv (.int .i64 0)), false⟩]) := by
        have h0 : 0 < k := by omega
        simp [loopS_run, f10b0, h0, loopS_inr]
      have e4 : List.replicate k (AV.pv (PV.int IntKind.i64 0)) = (List.range k).map fun j => .pv (.int .i64 (clZ [] 0 j)) := by rw [cz_first [] k]; rfl
      rw [e4] at hl
      simp (disch := omega) [f10, s26, h, h1, if_pos, e4, hl, pvs_mapf, pwClean]
      intro a _
      simp [clZ]
      decide
    · have hr := h
      simp only [confR, decide_eq_true_eq] at hr
      have h1 : (n < 3 ∨ 8 < n) := by omega
      simp (disch := omega) [f10, s26, h1, hr, pwClean]
  · exact s10 n l hl
theorem t11 : limP tab 11 [.pv .nils, .pv .nils] = some (.bool true) := by
  refine by_code rfl rfl rfl ?_
  simp [f11, loopS_run, f11b0, loopS_inr]
theorem t12 {L : PV} {l : List Int} (h : LI L l) (n : Int) (hl : l.length ≤ 20) : limP tab 12 [.pv (.int .i64 n), .pv L] = some (.bool (pwR n l)) := by
  rcases h with ⟨rfl, h⟩ | rfl
  · simp at h; subst h
    refine by_code rfl rfl rfl ?_
    have hp : pwR n [] = false := by simp [pwR, confR]; omega
    have h0 : ¬ ((0 : Int) = n ∧ 3 ≤ n) := by omega
    by_cases h3 : 3 ≤ n <;> by_cases h8 : n ≤ 8 <;> by_cases he : (0 : Int) = n <;> first | (exfalso; omega) | simp (disch := omega) [f12, s24, h3, h8, he, hp]
  · exact s12 n l (by omega)
theorem t13 {L : PV} {l : List Int} (h : LI L l) (n : Int) (hl : l.length ≤ 20) : limP tab 13 [.pv (.int .i64 n), .pv L] = some (.bool (pwR n l)) := by
  rcases h with ⟨rfl, h⟩ | rfl
  · simp at h; subst h
    refine by_code rfl rfl rfl ?_
    have hp : pwR n [] = false := by simp [pwR, confR]; omega
    have h0 : ¬ ((0 : Int) = n ∧ 3 ≤ n) := by omega
    by_cases h3 : 3 ≤ n <;> by_cases h8 : n ≤ 8 <;> by_cases he : (0 : Int) = n <;> first | (exfalso; omega) | simp (disch := omega) [f13, s26, h3, h8, he, hp, loopS_run, f13b0, loopS_inr]
  · exact s13 n l hl
theorem t14 {L : PV} {l : List Int} (h : LI L l) (i t : Int) : limP tab 14 [.pv L, .pv (.int .i64 i), .pv (.int .i64 t)] = some (.bool (pwOn l i t)) := by
  rcases h with ⟨rfl, h⟩ | rfl
  · simp at h; subst h
    refine by_code rfl rfl rfl ?_
    simp (disch := omega) [f14, pwOn]
    repeat' (split <;> first | (exfalso; omega) | simp (disch := omega) [*, pwOn] | skip)
    all_goals first | omega | (rw [Bool.eq_iff_iff]; simp; omega) | skip
  · exact s14 i t l
theorem t15 {L : PV} {l : List Int} (h : LI L l) (hl : l.length ≤ 20) : limP tab 15 [.pv L] = some (.bool (listed l)) := by
  rcases h with ⟨rfl, h⟩ | rfl
  · simp at h; subst h
    refine by_code rfl rfl rfl ?_
    simp [f15, loopS_run, f15b0, loopS_inr, listed]
  · exact s15 l hl
theorem t16 {L : PV} {l : List Int} (h : LI L l) (i t : Int) (h1 : ∀ x ∈ l, 0 ≤ x ∧ x ≤ 2000) (h2 : 0 ≤ t) (h3 : t ≤ 9223372036854775807) : limP tab 16 [.pv L, .pv (.int .i64 i), .pv (.int .i64 t)] = some (.int .i64 (pwSince l i t)) := by
  rcases h with ⟨rfl, h⟩ | rfl
  · simp at h; subst h
    have h14 := t14 (L := .nils) (l := []) (isL_nils 1) i t
    rw [pwOn_nil] at h14
    rw [pwSince_nil]
    refine by_code rfl rfl rfl ?_
    simp [f16, h14]
  · exact s16 i t l (fun x hx => by have := h1 x hx; omega) h2 h3
theorem clean_len (n : Int) (l : List Int) (h : confR n = true) : (pwClean n l).1.length ≤ 8 := by
  have hr := h
  simp only [confR, decide_eq_true_eq] at hr
  simp [pwClean, hr]
theorem same_call (n : Int) (l : List Int) : limP tab 11 [.pv (if confR n then .lst 1 (((pwClean n l).1).map (.int .i64)) else .nils), .pv (if confR n then .lst 1 (((pwClean n l).1).map (.int .i64)) else .nils)] = some (.bool true) := by
  by_cases h : confR n = true
  · rw [if_pos h]
    have := s11 (pwClean n l).1 (pwClean n l).1 (by have := clean_len n l h; omega)
    simpa using this
  · rw [if_neg h]
    exact t11
theorem t17 {L : PV} {l : List Int} (h : LI L l) (hl : l.length ≤ 20) (hT : ∀ x ∈ l, 0 ≤ x ∧ x ≤ 2000) (c x : Int) : limP tab 17 [.pv L, .pv (.agg [.int .i64 c, .int .i64 x])] = some (.int .i64 (pwTwo l ⟨c, x⟩)) := by
  rcases h with ⟨rfl, h⟩ | rfl
  · simp at h; subst h
    refine by_code rfl rfl rfl ?_
    have hm : pwTwo [] ⟨c, x⟩ = -1 := by simp [pwTwo, ownL]
    rw [hm]
    have hround : ∀ (k : Nat) (w : AV), k ≤ 2000 → loopB (lim tab) [0, 3, 4, 5] f17b1 ([.pv .nils, .ptr 0 1 0 0, w, .pv (.int .i64 k)], [boxF ⟨c, x⟩]) = some (.inl ([.pv .nils, .ptr 0 1 0 0, Slots.get [] 4, .pv (.int .i64 (k + 1 : Nat))], [boxF ⟨c, x⟩])) := by
      intro k w hk
      have h1 : (k : Int) ≤ 2000 := by omega
      simp (disch := omega) [f17b1, f17b0, loopS_run, loopS_inr, h1, w64]
    have hloop : loopRun (loopB (lim tab) [0, 3, 4, 5] f17b1) ([.pv .nils, .ptr 0 1 0 0, .pv (.int .i64 0), .pv (.int .i64 0)], [boxF ⟨c, x⟩]) = some (.exit 0, [.pv .nils, .ptr 0 1 0 0, w17 2001, .pv (.int .i64 2001)], [boxF ⟨c, x⟩]) :=
      loop_from (fun k => ([.pv .nils, .ptr 0 1 0 0, w17 k, .pv (.int .i64 k)], [boxF ⟨c, x⟩])) 2001 rfl (fun k hk => hround k (w17 k) (by omega)) (by simp [f17b1])
    simp [boxF] at hloop
    simp (disch := omega) [f17, hloop]
  · exact s17 l hl hT c x
set_option maxHeartbeats 4000000 in
theorem s3 {L : PV} {l : List Int} (h : LI L l) (n c x i t : Int) (ht : t ≤ 9223372036854775807) : limP tab 3 [.pv (.agg [.int .i64 n, L, .int .i64 c, .int .i64 x, .int .i64 i, .int .i64 t])] = some (.bool true) := by
  have hlen : SO.len = SO.len := rfl
  by_cases hl : l.length ≤ 20
  · have h9 := t9 h n
    have h10 := t10 h n hl
    have h11 := same_call n l
    have h12 := t12 h n hl
    have h13 := t13 h n hl
    have h7 := s7L h i t
    have h14 := t14 h i t
    have h15 := t15 h hl
    generalize (if confR n then .lst 1 (((pwClean n l).1).map (.int .i64)) else .nils : PV) = C at *
    generalize (pwClean n l).2 = e at *
    generalize pwR n l = r at *
    refine by_code rfl rfl rfl ?_
    have hx : listed l = true → 0 ≤ t → limP tab 8 [.pv L, .pv (.int .i64 i), .pv (.int .i64 t)] = some (.int .i64 (pwSince l i t)) ∧ limP tab 16 [.pv L, .pv (.int .i64 i), .pv (.int .i64 t)] = some (.int .i64 (pwSince l i t)) ∧ limP tab 6 [.pv L, .pv (.agg [.int .i64 c, .int .i64 x])] = some (.int .i64 (pwTwo l ⟨c, x⟩)) ∧ limP tab 17 [.pv L, .pv (.agg [.int .i64 c, .int .i64 x])] = some (.int .i64 (pwTwo l ⟨c, x⟩)) := by
      intro hls h0
      have hb : ∀ x ∈ l, 0 ≤ x ∧ x ≤ 2000 := by simpa [listed] using hls
      exact ⟨t8 h i t hb h0 ht, t16 h i t hb h0 ht, s6L h hl c x, t17 h hl hb c x⟩
    generalize pwOn l i t = o at *
    have hll : ¬ (20 < (l.length : Int)) := by omega
    cases hls : listed l with
    | false =>
      rw [hls] at h15
      rcases h with ⟨rfl, h⟩ | rfl <;> simp (disch := omega) [f3, s5, h9, h10, h11, h12, h13, h7, h14, h15, hll, if_pos]
    | true =>
      rw [hls] at h15
      by_cases h0 : 0 ≤ t
      · obtain ⟨h8, h16, h6, h17⟩ := hx hls h0
        have h01 : ¬ (t < 0) := by omega
        generalize pwSince l i t = v at *
        generalize pwTwo l ⟨c, x⟩ = v2 at *
        rcases h with ⟨rfl, h⟩ | rfl <;> simp (disch := omega) [f3, s5, h9, h10, h11, h12, h13, h7, h14, h15, hll, h8, h16, h6, h17, h01, if_pos]
      · have h01 : t < 0 := by omega
        rcases h with ⟨rfl, h⟩ | rfl <;> simp (disch := omega) [f3, s5, h9, h10, h11, h12, h13, h7, h14, h15, hll, h01, if_pos]
  · rcases h with ⟨rfl, h⟩ | rfl
    · simp at h; subst h; simp at hl
    refine by_code rfl rfl rfl ?_
    simp (disch := omega) [f3, s5, if_pos]
end Dk
