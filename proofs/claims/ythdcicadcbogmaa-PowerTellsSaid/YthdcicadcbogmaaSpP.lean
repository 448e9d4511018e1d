/- Part of the proof. -/
import Derived.Test.YthdcicadcbogmaaSpB
set_option linter.all false
set_option linter.unusedSimpArgs false
set_option maxRecDepth 100000
namespace Dk
open Go
theorem s5 : limP tab 5 [] = some (.bool true) := lim_c (m := 200) (k := 12) rfl (by kernel_rfl)
theorem s7L {L : PV} {l : List Int} (h : IsL 1 L (l.map (.int .i64))) (i t : Int) : limP tab 7 [.pv L, .pv (.int .i64 i), .pv (.int .i64 t)] = some (.bool (pwOn l i t)) := by
  rcases h with ⟨rfl, h⟩ | rfl
  · simp at h; subst h
    refine by_code rfl rfl rfl ?_
    simp (disch := omega) [f7, pwOn]
    repeat' (split <;> first | (exfalso; omega) | simp (disch := omega) [*, pwOn] | skip)
    all_goals first | omega | (rw [Bool.eq_iff_iff]; simp; omega) | skip
  · exact s7 i t l
theorem s8L {L : PV} {l : List Int} (h : IsL 1 L (l.map (.int .i64))) (i t : Int) (h1 : ∀ x ∈ l, 0 ≤ x ∧ x ≤ 1073741824) (h2 : 0 ≤ t) (h3 : t ≤ 1073741824) : limP tab 8 [.pv L, .pv (.int .i64 i), .pv (.int .i64 t)] = some (.int .i64 (pwSince l i t)) := by
  rcases h with ⟨rfl, h⟩ | rfl
  · simp at h; subst h
    have h7 := s7L (L := .nils) (l := []) (isL_nils 1)
    refine by_code rfl rfl rfl ?_
    simp (disch := omega) [f8, h7, pwSince, pwOn]
    repeat' (split <;> first | (exfalso; omega) | simp (disch := omega) [*, h7, pwSince, pwOn] | skip)
    all_goals first | omega | (rw [Bool.eq_iff_iff]; simp; omega) | skip
  · exact s8 i t l h1 h2 h3
/-- A list that grows by one element in each round, and the rows that it was grown by. -/
def grow (f : Nat → AV) (k : Nat) : AV × Heap :=
  match k with
  | 0 => (.pv .nils, [])
  | k + 1 => (.sl 1 (k + 1), ⟨1, [f 0], false⟩ :: ⟨1, (List.range (k + 1)).map f, false⟩ :: (List.range k).map fun j => ⟨1, [f (j + 1)], false⟩)
def modI (l : List Int) (k : Nat) : Int := l.getD k 0 % 2001
def modT (l : List Int) (k : Nat) : AV := .pv (.int .i64 (modI l k))
theorem l2 (l : List Int) (hl : l.length ≤ 20) (hr : ∀ x ∈ l, 0 ≤ x ∧ x ≤ 65535) (a b : AV) : loopRun (loopB (lim tab) [0, 1, 2, 7, 8] f2b0) ([.pv (.lst 1 (l.map (.int .u16))), a, b, .pv .nils, .pv (.int .i64 0)], []) =
    some (.exit 0, [.pv (.lst 1 (l.map (.int .u16))), a, b, (grow (modT l) l.length).1, .pv (.int .i64 l.length)], (grow (modT l) l.length).2) := by
  refine loop_from (fun k => ([.pv (.lst 1 (l.map (.int .u16))), a, b, (grow (modT l) k).1, .pv (.int .i64 k)], (grow (modT l) k).2)) l.length (by simp [grow]) (fun k hk => ?_) ?_
  · have hx := hr _ (List.getElem_mem hk)
    have hg : l.getD k 0 = l[k] := by simp [List.getD_eq_getElem?_getD, hk]
    have ht := tmod_pos (n := 2001) (by omega) (Int.tmod_nonneg 2001 hx.1)
    have hv : l[k] % 2001 = modI l k := by simp only [modI, hg]
    cases k with
    | zero => simp (disch := omega) [f2b0, hk, w64, ht, grow, hv, modT]
    | succ k =>
      have e1 := rng_succ (fun j => (.pv (.int .i64 (modI l j)) : AV)) (k + 1)
      have e2 := rng_succ (fun j => (⟨1, [.pv (.int .i64 (modI l (j + 1)))], false⟩ : Blk)) k
      simp (disch := omega) [f2b0, hk, w64, ht, grow, hv, modT, if_pos, rng_at, ← e1, ← e2]
      exact e1
  · simp [f2b0]
def ticksL (l : List Int) : List Int := l.map (· % 2001)
theorem modI_map (l : List Int) : (List.range l.length).map (fun j => (.int .i64 (modI l j) : PV)) = (ticksL l).map (.int .i64) := by
  apply List.ext_getElem
  · simp [ticksL]
  · intro k h1 h2
    simp at h1
    simp [ticksL, modI, List.getD_eq_getElem?_getD, h1]
theorem ticksL_in (l : List Int) : ∀ x ∈ ticksL l, 0 ≤ x ∧ x ≤ 2000 := by
  intro x hx
  simp only [ticksL, List.mem_map] at hx
  obtain ⟨y, _, rfl⟩ := hx
  omega
theorem stays (l : List Int) (i t : Int) (hl : ∀ x ∈ l, 0 ≤ x ∧ x ≤ 2000) (ht : 0 ≤ t) :
    (pwOn l i t = true ↔ 0 ≤ pwSince l i t) ∧ (pwOn l i t = true → pwSince l i (t + 1) = pwSince l i t + 1) ∧ (pwOn l i t = false → pwSince l i t = -1 ∧ (pwSince l i (t + 1) = -1 ∨ pwSince l i (t + 1) = 0)) := by
  unfold pwSince pwOn
  by_cases h0 : 0 ≤ i <;> by_cases h1 : i < (l.length : Int)
  · simp [h0, h1]
    (repeat' split) <;> omega
  all_goals simp [h0, h1]
theorem pwOn_nil (i t : Int) : pwOn [] i t = false := by simp [pwOn]; omega
theorem pwSince_nil (i t : Int) : pwSince [] i t = -1 := by simp [pwSince, pwOn_nil]
theorem pwSince_le (l : List Int) (i t : Int) (hl : ∀ x ∈ l, 0 ≤ x ∧ x ≤ 2000) (ht : 0 ≤ t) : pwSince l i t ≤ t := by
  unfold pwSince
  split
  · rename_i h
    simp [pwOn] at h
    have hx := hl _ (List.getElem_mem (show i.toNat < l.length by omega))
    have : l.getD i.toNat 0 = l[i.toNat]'(by omega) := by simp [List.getD_eq_getElem?_getD, show i.toNat < l.length by omega]
    omega
  · omega
theorem s2 {L : PV} {l : List Int} (h : IsL 1 L (l.map (.int .u16))) (hr : ∀ x ∈ l, 0 ≤ x ∧ x ≤ 65535) (i t : Int) (hi : 0 ≤ i ∧ i ≤ 255) (ht : 0 ≤ t ∧ t ≤ 65535) : limP tab 2 [.pv L, .pv (.int .u8 i), .pv (.int .u16 t)] = some (.bool true) := by
  have hb : ∀ x ∈ ticksL l, 0 ≤ x ∧ x ≤ 1073741824 := fun x hx => by have := ticksL_in l x hx; omega
  obtain ⟨st1, st2, st3⟩ := stays (ticksL l) i t (ticksL_in l) ht.1
  rcases h with ⟨rfl, h⟩ | rfl
  · simp at h; subst h
    have h7 := s7L (L := .nils) (l := []) (isL_nils 1) i t
    have h8 := s8L (L := .nils) (l := []) (isL_nils 1) i t (by simp) ht.1 (by omega)
    have h81 := s8L (L := .nils) (l := []) (isL_nils 1) i (t + 1) (by simp) (by omega) (by omega)
    rw [pwOn_nil] at h7
    rw [pwSince_nil] at h8 h81
    refine by_code rfl rfl rfl ?_
    simp (disch := omega) [f2, s5, w64, loopS_run, f2b0, h7, h8, h81, loopS_inr]
  · by_cases hl : l.length ≤ 20
    · refine by_code rfl rfl rfl ?_
      have hll := l2 l hl hr
      have h8 := s8 i t (ticksL l) hb ht.1 (by omega)
      have h81 := s8 i (t + 1) (ticksL l) hb (by omega) (by omega)
      have h7 := s7 i t (ticksL l)
      have hm : modT l = fun j => .pv (.int .i64 (modI l j)) := rfl
      have hmm := modI_map l
      cases hn : l.length with
      | zero =>
        have : l = [] := List.eq_nil_of_length_eq_zero hn
        subst this
        have h7 := s7L (L := .nils) (l := []) (isL_nils 1) i t
        have h8 := s8L (L := .nils) (l := []) (isL_nils 1) i t (by simp) ht.1 (by omega)
        have h81 := s8L (L := .nils) (l := []) (isL_nils 1) i (t + 1) (by simp) (by omega) (by omega)
        rw [pwOn_nil] at h7
        rw [pwSince_nil] at h8 h81
        simp (disch := omega) [f2, s5, w64, loopS_run, f2b0, h7, h8, h81, loopS_inr]
      | succ k =>
        rw [hn] at hll hmm
        cases hon : pwOn (ticksL l) i t with
        | true =>
          have g1 := st1.1 hon
          have g2 := st2 hon
          rw [hon] at h7
          rw [g2] at h81
          have hb2 := pwSince_le (ticksL l) i t (ticksL_in l) ht.1
          simp (disch := omega) [f2, s5, w64, hn, hll, grow, if_neg, if_pos, hm, pvs_mapf, hmm, h8, h81, h7, g1]
        | false =>
          obtain ⟨g1, g2⟩ := st3 hon
          rw [hon] at h7
          rw [g1] at h8
          rcases g2 with g2 | g2 <;> rw [g2] at h81 <;> simp (disch := omega) [f2, s5, w64, hn, hll, grow, if_neg, if_pos, hm, pvs_mapf, hmm, h8, h81, h7]
    · refine by_code rfl rfl rfl ?_
      simp (disch := omega) [f2, s5, if_pos]
end Dk
