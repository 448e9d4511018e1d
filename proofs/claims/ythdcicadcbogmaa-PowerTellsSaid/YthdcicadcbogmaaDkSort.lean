/- The library's sort of a slice of integers, handed a reference. -/
import Derived.Test.YthdcicadcbogmaaDkFunc
import Derived.Test.YthdcicadcbogmaaDkSort0
import Derived.Sort.Grow
set_option linter.all false
namespace Dk
open Go Go.RowKit Go.Sort
variable {P : Program} {num : Nat → FuncId}

theorem putCells_get {α : Type} [Inhabited α] (enc : α → Value) (d : Array α) (c : Array Value) (j : Nat) : (putCells enc 0 d c)[j]? = (c[j]?).map fun x => if j < d.size then enc d[j]! else x := by
  simp [putCells]

theorem sort_soundI {f : FuncId} (h : ∀ (blk off cap : Nat) (zs : List Int) (w : World), Holds (Value.int .i64) w blk off zs.toArray → blk < w.heap.size → zs.length < 4611686018427387904 →
    Calls P f #[.slice (some ⟨blk, off, none⟩) zs.length cap] w fun e w' => e = .returned (.tuple #[]) ∧ ∃ n os, w' = grow (putRow (Value.int .i64) (Sort.ahead w n) blk off (zs.mergeSort fun x y => decide (x ≤ y)).toArray) os) :
    SoundI P num f sortI := by
  intro args H v H' hd β hf w vs hA hH hl hv
  have hhere : Goes β hf w β (fun k => H[k]?) w := Goes.here rfl rfl rfl rfl fun k b hb => (hA k b hb).symm
  have hH0 : HR num β (fun k => H[k]?) w := hH.here hhere rfl fun k b hb => (hA k b hb).symm
  unfold sortI at hd
  split at hd
  case h_2 => cases hd
  rename_i k len
  split at hd
  case h_2 => cases hd
  rename_i bk hbk
  split at hd
  case h_2 => cases hd
  rename_i zs hc hz
  injection hd with hd
  injection hd with hd1 hd2
  subst hd1
  simp only [Bool.or_eq_false_iff, Bool.not_eq_false'] at hc
  obtain ⟨⟨⟨hfz, hsz⟩, hlen⟩, hbig⟩ := hc
  have hsz := Nat.eq_of_beq_eq_true hsz
  have hlen := Nat.eq_of_beq_eq_true hlen
  have hbig := Nat.le_of_ble_eq_true hbig
  have hzs := toInts_eq hz
  have hzl : zs.length = len := by rw [← hlen, hzs]; simp
  obtain ⟨u, hu⟩ : ∃ u, vs = #[u] := by
    have : vs.size = 1 := by simpa using hl.symm
    exact Array.size_eq_one_iff.1 this
  subst hu
  have hv0 := hhere.vr (hv 0 _ u rfl rfl)
  cases hv0 with
  | sl b blk hb hk hle h1 hx =>
    rw [hbk] at hk; injection hk with hk; subst hk
    obtain ⟨cap, cs, TT, rfl, hcap, hcs, hcsz⟩ := hx hlen
    obtain ⟨bk', hbk', hB⟩ := hH0.blk k b hb
    rw [hbk] at hbk'; injection hbk' with hbk'; subst hbk'
    obtain ⟨cs1, T1, hcs1, hsize, hel⟩ := hB.cells
    rw [hcs] at hcs1; injection hcs1 with hcs1; injection hcs1 with e1 e2; subst e1; subst e2
    have hblt : b < w.heap.size := blk_lt hcs
    have hHolds : Holds (Value.int .i64) w b 0 zs.toArray := by
      intro j hj
      have hj' : j < zs.length := by simpa using hj
      refine ⟨?_, by simp [World.frozen?, hcs]⟩
      have he : bk.es[j]? = some (.pv (.int .i64 zs[j])) := by rw [hzs]; simp [hj']
      obtain ⟨_, _, g3⟩ := hel j _ he
      obtain ⟨_, z, d2, _, d4⟩ := g3 0 (.pv (.int .i64 zs[j])) rfl
      cases d4 with
      | pv hp =>
        cases hp
        rw [hsz] at d2
        simp only [Nat.mul_one, Nat.add_zero] at d2
        simp [World.cell?, hcs, d2, hj']
    have hroom : zs.length ≤ cs.size := by rw [hsz] at hcsz; omega
    have hcall := h b 0 cap zs w hHolds hblt (by omega)
    rw [hzl] at hcall
    refine hcall.mono fun e w' he => ?_
    obtain ⟨rfl, n, os, hw'⟩ := he
    rw [sorted_merge] at hw'
    subst hw'
    -- the world behind the sort
    have hw1 : (putRow (Value.int .i64) (Sort.ahead w n) b 0 (sorted zs).toArray).heap[b]? = some (.cells (putCells (Value.int .i64) 0 (sorted zs).toArray cs) TT (0, 0)) := by
      simp [putRow, mapBlock, Sort.ahead, Array.getElem?_modify, hcs, onCells]
    have hw2 : ∀ c, c ≠ b → (putRow (Value.int .i64) (Sort.ahead w n) b 0 (sorted zs).toArray).heap[c]? = w.heap[c]? := fun c hc => by
      simp [putRow, mapBlock, Sort.ahead, Array.getElem?_modify, Ne.symm hc]
    have hgo : Goes β (fun k => H[k]?) w β (fun j => if j = k then some { bk with es := (sorted zs).map fun z => AV.pv (.int .i64 z) } else H[j]?) (putRow (Value.int .i64) (Sort.ahead w n) b 0 (sorted zs).toArray) :=
      goes_put hH0 hb hbk hfz rfl hfz (by simp [sorted_length, hlen, hzl]) rfl rfl rfl (by simp) hw2 (fun cs2 T2 h => by
        rw [hcs] at h; injection h with h; injection h with h h'; subst h; subst h'
        exact ⟨_, TT, hw1, by simp [putCells]⟩)
    have hH1 : HR num β (fun j => if j = k then some { bk with es := (sorted zs).map fun z => AV.pv (.int .i64 z) } else H[j]?) (putRow (Value.int .i64) (Sort.ahead w n) b 0 (sorted zs).toArray) := by
      refine ⟨?_, hH0.inj, fun c hc => hH0.base c (by simpa using hc), hH0.own⟩
      intro j c hj
      by_cases hjk : j = k
      · subst hjk
        rw [hb] at hj; injection hj with hj; subst hj
        refine ⟨_, if_pos rfl, ⟨_, TT, hw1, by simp only [List.length_map, sorted_length, hsz, putCells, Array.size_mapIdx]; omega, ?_⟩⟩
        intro i2 e2 he2
        simp only [List.getElem?_map, Option.map_eq_some_iff] at he2
        obtain ⟨z, hz2, rfl⟩ := he2
        refine ⟨rfl, by rw [hsz]; rfl, fun j2 c2 hj2 => ?_⟩
        have hi2 := (List.getElem?_eq_some_iff.1 hz2).1
        rw [sorted_length] at hi2
        cases j2 with
        | succ j2 => simp [AV.cells, PV.cells] at hj2
        | zero =>
          simp [AV.cells, PV.cells] at hj2
          subst hj2
          refine ⟨rfl, .int .i64 z, ?_, rfl, .pv (.int .i64 z)⟩
          have hc2 : i2 < cs.size := by omega
          dsimp only
          rw [hsz, putCells_get]
          simp [hc2, sorted_length, hi2]
          exact (List.getElem?_eq_some_iff.1 hz2).2
      · obtain ⟨bj, hbj, hBj⟩ := hH0.blk j c hj
        have hcb : c ≠ b := fun e => hjk (hH0.inj j k b (e ▸ hj) hb)
        obtain ⟨cs3, T3, h31, h32, h33⟩ := hBj.cells
        refine ⟨bj, by simpa [hjk] using hbj, ⟨cs3, T3, by rw [hw2 c hcb]; exact h31, h32, fun i2 e2 he2 => ?_⟩⟩
        obtain ⟨f1, f2, f3⟩ := h33 i2 e2 he2
        exact ⟨f1, f2, fun j2 c2' hj2 => let ⟨d1, z, d2, d3, d4⟩ := f3 j2 c2' hj2; ⟨d1, z, d2, d3, hgo.vr d4⟩⟩
    have hfun : (fun j => if j = k then some { bk with es := (sorted zs).map fun z => AV.pv (.int .i64 z) } else H[j]?) = fun j => H'[j]? := by
      funext j
      rw [← hd2]
      have hk := (List.getElem?_eq_some_iff.1 hbk).1
      by_cases e : j = k
      · subst e; simp [hk]
      · simp [e, Ne.symm e]
    rw [hfun] at hgo hH1
    obtain ⟨hg2, hH2⟩ := goes_below (w' := grow (putRow (Value.int .i64) (Sort.ahead w n) b 0 (sorted zs).toArray) os) hH1 ⟨rfl, rfl, rfl, by simp, fun j hj => heap_grow_old _ _ hj⟩
    exact ⟨_, β, rfl, hhere.trans (hgo.trans hg2), hH2, .unk, fun j hj => .inl hj⟩
end Dk
