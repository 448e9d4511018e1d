/- Part of the proof. -/
import Derived.Test.YthdcicadcbogmaaSpP
set_option linter.all false
set_option linter.unusedSimpArgs false
set_option maxRecDepth 100000
namespace Dk
open Go
theorem s23 {k len : Nat} {H : Heap} {zs : List Int} (h : H[k]? = some ⟨1, zs.map fun z => .pv (.int .i64 z), false⟩) (hl : zs.length = len) (hb : len ≤ 4611686018427387903) :
    limI tab 23 [.sl k len] H = some (.unk, H.set k ⟨1, (sorted zs).map fun z => .pv (.int .i64 z), false⟩) := by
  refine lim_si (g := sortI) rfl ?_
  have h1 : Nat.beq len len = true := Nat.beq_refl len
  have h2 : Nat.ble len 4611686018427387903 = true := Nat.ble_eq_true_of_le hb
  simp [sortI, h, hl, toInts_map, h1, h2]
/-- The ticks of the correct ones among the first k. -/
def ownL (f : Ft) (l : List Int) (k : Nat) : List Int := ((List.range k).filter fun i => !ftNode f (i : Nat)).map fun i => l.getD i 0
theorem ownL_succ (f : Ft) (l : List Int) (k : Nat) : ownL f l (k + 1) = if ftNode f (k : Nat) then ownL f l k else ownL f l k ++ [l.getD k 0] := by
  unfold ownL
  rw [List.range_succ, List.filter_append, List.map_append]
  by_cases h : ftNode f (k : Nat) = true <;> simp [h]
theorem ownL_len (f : Ft) (l : List Int) : ∀ (k : Nat), (ownL f l k).length ≤ k
  | 0 => by simp [ownL]
  | k + 1 => by
    rw [ownL_succ]
    have := ownL_len f l k
    split
    · omega
    · simp; omega
/-- A list that grows behind one block. -/
def growO (B : Blk) : List Int → AV × Heap
  | [] => (.pv .nils, [B])
  | x :: xs => (.sl 2 (xs.length + 1), B :: ⟨1, [.pv (.int .i64 x)], false⟩ :: ⟨1, (x :: xs).map fun z => .pv (.int .i64 z), false⟩ :: xs.map fun z => ⟨1, [.pv (.int .i64 z)], false⟩)
def boxF (f : Ft) : Blk := ⟨2, [.pv (.agg [.int .i64 f.cls, .int .i64 f.who])], false⟩
theorem l6 (l : List Int) (hl : l.length ≤ 20) (c x : Int) (a b : AV) : loopRun (loopB (lim tab) [3, 5, 8, 9, 10] f6b0) ([.ptr 0 1 0 0, .pv .nils, .pv (.lst 1 (l.map (.int .i64))), .pv (.int .i64 l.length), .pv (.int .i64 0)], [boxF ⟨c, x⟩]) =
    some (.exit 0, [.ptr 0 1 0 0, (growO (boxF ⟨c, x⟩) (ownL ⟨c, x⟩ l l.length)).1, .pv (.lst 1 (l.map (.int .i64))), .pv (.int .i64 l.length), .pv (.int .i64 l.length)], (growO (boxF ⟨c, x⟩) (ownL ⟨c, x⟩ l l.length)).2) := by
  refine loop_from (fun k => ([.ptr 0 1 0 0, (growO (boxF ⟨c, x⟩) (ownL ⟨c, x⟩ l k)).1, .pv (.lst 1 (l.map (.int .i64))), .pv (.int .i64 l.length), .pv (.int .i64 k)], (growO (boxF ⟨c, x⟩) (ownL ⟨c, x⟩ l k)).2)) l.length (by simp [ownL, growO]) (fun k hk => ?_) ?_
  · have hg : l.getD k 0 = l[k] := by simp [List.getD_eq_getElem?_getD, hk]
    have hle := ownL_len ⟨c, x⟩ l k
    rw [ownL_succ, hg]
    by_cases hn : ftNode ⟨c, x⟩ (k : Nat) = true
    · simp only [hn, if_true]
      cases ho : ownL ⟨c, x⟩ l k with
      | nil => simp (disch := omega) [f6b0, hk, w64, growO, boxF, s22, hn]
      | cons y ys => simp (disch := omega) [f6b0, hk, w64, growO, boxF, s22, hn]
    · rw [Bool.not_eq_true] at hn
      simp only [hn]
      cases ho : ownL ⟨c, x⟩ l k with
      | nil => simp (disch := omega) [f6b0, hk, w64, growO, boxF, s22, hn]
      | cons y ys =>
        rw [ho] at hle; simp at hle
        have e1 : (ys.map (fun z => (⟨1, [.pv (.int .i64 z)], false⟩ : Blk)) ++ [⟨1, [.pv (.int .i64 (l[k]))], false⟩])[ys.length]? = some ⟨1, [.pv (.int .i64 (l[k]))], false⟩ := by simp
        simp (disch := omega) [f6b0, hk, w64, growO, boxF, s22, hn, if_pos, e1]
  · cases ownL ⟨c, x⟩ l l.length <;> simp [f6b0, growO]
/-- The tick at which two correct ones are powered. -/
def pwTwo (l : List Int) (f : Ft) : Int := if (ownL f l l.length).length < 2 then -1 else (sorted (ownL f l l.length)).getD 1 0
theorem s6 (l : List Int) (hl : l.length ≤ 20) (c x : Int) : limP tab 6 [.pv (.lst 1 (l.map (.int .i64))), .pv (.agg [.int .i64 c, .int .i64 x])] = some (.int .i64 (pwTwo l ⟨c, x⟩)) := by
  have h6 := l6 l hl c x .unk .unk
  have hle := ownL_len ⟨c, x⟩ l l.length
  refine by_code rfl rfl rfl ?_
  cases ho : ownL ⟨c, x⟩ l l.length with
  | nil =>
    rw [ho] at h6
    simp [growO, boxF] at h6
    simp (disch := omega) [f6, h6, pwTwo, ho]
  | cons y ys =>
    rw [ho] at h6 hle
    simp at hle
    cases ys with
    | nil =>
      simp [growO, boxF] at h6
      simp (disch := omega) [f6, h6, pwTwo, ho]
    | cons z zs =>
      simp [growO, boxF] at h6
      have hs : (sorted (y :: z :: zs)).length = zs.length + 2 := by rw [sorted_length]; simp
      simp at hle
      obtain ⟨p, q, rs, hp⟩ : ∃ p q rs, sorted (y :: z :: zs) = p :: q :: rs := by
        match sorted (y :: z :: zs), hs with
        | p :: q :: rs, _ => exact ⟨p, q, rs, rfl⟩
      have hc := s23 (k := 2) (len := zs.length + 1 + 1) (H := boxF ⟨c, x⟩ :: ⟨1, [.pv (.int .i64 y)], false⟩ :: ⟨1, (y :: z :: zs).map fun z => .pv (.int .i64 z), false⟩ :: (z :: zs).map fun z => ⟨1, [.pv (.int .i64 z)], false⟩) (zs := y :: z :: zs) rfl (by simp) (by omega)
      rw [hp] at hc
      simp [boxF] at hc
      have hn : ¬ ((zs.length : Int) + 1 + 1 < 2) := by omega
      have hrs : rs.length = zs.length := by rw [hp] at hs; simpa using hs
      simp (disch := omega) [f6, h6, pwTwo, ho, hn, hc, hp, hrs, if_pos]
      intro h; omega
theorem s6L {L : PV} {l : List Int} (h : IsL 1 L (l.map (.int .i64))) (hl : l.length ≤ 20) (c x : Int) : limP tab 6 [.pv L, .pv (.agg [.int .i64 c, .int .i64 x])] = some (.int .i64 (pwTwo l ⟨c, x⟩)) := by
  rcases h with ⟨rfl, h⟩ | rfl
  · simp at h; subst h
    refine by_code rfl rfl rfl ?_
    simp [f6, f6b0, loopS_run, loopS_inl, loopS_inr, pwTwo, ownL]
  · exact s6 l hl c x
-- how many correct ones are powered
def pwCnt (l : List Int) (f : Ft) (t : Int) : Int := ((ownL f l l.length).countP fun x => decide (x ≤ t) : Nat)
theorem cnt_sorted (l : List Int) (f : Ft) (t : Int) : pwCnt l f t = ((sorted (ownL f l l.length)).countP fun x => decide (x ≤ t) : Nat) := by
  unfold pwCnt
  rw [(sorted_perm _).countP_eq]
/-- At Two's tick there are two. -/
theorem two_now (l : List Int) (f : Ft) (h : 2 ≤ (ownL f l l.length).length) : 2 ≤ pwCnt l f (pwTwo l f) ∧ pwCnt l f (pwTwo l f - 1) < 2 ∧ pwTwo l f ∈ ownL f l l.length := by
  rw [cnt_sorted, cnt_sorted]
  have hp := sorted_perm (ownL f l l.length)
  have hs := sorted_sorted (ownL f l l.length)
  have hl := sorted_length (ownL f l l.length)
  have ht : pwTwo l f = (sorted (ownL f l l.length)).getD 1 0 := by unfold pwTwo; rw [if_neg (by omega)]
  rw [ht]
  rw [← hp.mem_iff]
  match sorted (ownL f l l.length), hs, hl with
  | [], _, hl => simp at hl; omega
  | [_], _, hl => simp at hl; omega
  | p :: q :: rs, hs, _ =>
    simp only [List.pairwise_cons] at hs
    obtain ⟨h1, h2, h3⟩ := hs
    have hpq := h1 q (by simp)
    refine ⟨?_, ?_, by simp⟩
    · simp [List.countP_cons, hpq]; omega
    · have h4 : rs.countP (fun x => decide (x ≤ q - 1)) = 0 := by
        rw [List.countP_eq_zero]
        intro a ha
        have := h2 a ha
        simp; omega
      simp only [List.getD_cons_succ, List.getD_cons_zero, List.countP_cons, h4]
      have : decide (q ≤ q - 1) = false := by simp; omega
      rw [this]
      simp
      split <;> omega
end Dk
