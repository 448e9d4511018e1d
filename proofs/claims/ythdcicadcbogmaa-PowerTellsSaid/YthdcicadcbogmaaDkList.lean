/- Lists, and numbers that the kind holds. -/
import Derived.Test.YthdcicadcbogmaaDkCall
import Derived.Test.YthdcicadcbogmaaDkPure
set_option linter.all false
namespace Dk
open Go
theorem w64 (n : Int) (h0 : -9223372036854775808 ≤ n) (h1 : n ≤ 9223372036854775807) : IntKind.i64.wrap n = n := by
  simp only [IntKind.wrap, IntKind.bits, IntKind.signed]; simp; split <;> omega
theorem tmod_lo {n : Int} (h : 0 < n) (x : Int) : -n < x.tmod n := by
  rcases Int.le_total 0 x with h0 | h0
  · have := Int.tmod_nonneg n h0; omega
  · have h2 : x.tmod n = -((-x).tmod n) := by rw [Int.neg_tmod]; omega
    have := Int.tmod_lt_of_pos (-x) h; omega
theorem tmod_hi {n : Int} (h : 0 < n) (x : Int) : x.tmod n < n := Int.tmod_lt_of_pos x h
theorem tmod_cases {n : Int} (h : 0 < n) (x : Int) : (0 ≤ x.tmod n ∧ x.tmod n = x % n) ∨ (x.tmod n < 0 ∧ x.tmod n + n = x % n) := by
  have h2 := Int.emod_lt_of_pos x h
  have h3 := Int.emod_nonneg x (show n ≠ 0 by omega)
  have h4 : (n.natAbs : Int) = n := by omega
  rw [Int.tmod_eq_emod]
  by_cases hc : 0 ≤ x ∨ n ∣ x
  · simp only [hc, if_true]; omega
  · simp only [hc, if_false]; omega
theorem tmod_neg {n : Int} (h : 0 < n) {x : Int} (h1 : x.tmod n < 0) : x.tmod n + n = x % n := by
  have := tmod_cases h x; omega
theorem tmod_pos {n : Int} (h : 0 < n) {x : Int} (h1 : 0 ≤ x.tmod n) : x.tmod n = x % n := by
  have := tmod_cases h x; omega
/-- f on the first k, g on the rest. -/
def upd {α β : Type} (f g : α → β) (xs : List α) (k : Nat) : List β := (xs.take k).map f ++ (xs.drop k).map g
variable {α β : Type} {f g : α → β} {xs : List α} {k : Nat}
theorem upd_zero : upd f g xs 0 = xs.map g := by simp [upd]
theorem upd_all : upd f g xs xs.length = xs.map f := by simp [upd]
theorem upd_length : (upd f g xs k).length = xs.length := by simp [upd]; omega
theorem upd_at (h : k < xs.length) : (upd f g xs k)[k]? = some (g xs[k]) := by
  simp [upd, List.getElem?_append, h, Nat.min_eq_left (Nat.le_of_lt h)]
theorem upd_set (h : k < xs.length) : (upd f g xs k).set k (f xs[k]) = upd f g xs (k + 1) := by
  unfold upd
  rw [List.set_append_right _ _ (by simp; omega)]
  simp only [List.length_map, List.length_take, Nat.min_eq_left (Nat.le_of_lt h), Nat.sub_self]
  rw [List.drop_eq_getElem_cons h, List.map_cons, List.set_cons_zero, List.take_succ_eq_append_getElem h, List.map_append, List.append_assoc]
  rfl
end Dk
namespace Dk
def nd (x : Nd) : PV := .agg [.int .i64 x.id, .int .i64 x.mode, .int .i64 x.cnt, .int .i64 x.pos]
def fr (x : Fr) : PV := .agg [.int .i64 x.kind, .int .i64 x.id]
theorem nd_eta (x : Nd) : (⟨x.id, x.mode, x.cnt, x.pos⟩ : Nd) = x := rfl
theorem fr_eta (x : Fr) : (⟨x.kind, x.id⟩ : Fr) = x := rfl
theorem ft_eta (x : Ft) : (⟨x.cls, x.who⟩ : Ft) = x := rfl
theorem ctod {p : Prop} [Decidable p] {α : Type} (a b : α) : (bif decide p then a else b) = if p then a else b := by by_cases h : p <;> simp [h]
theorem int_beq (a b : Int) : (a == b) = decide (a = b) := by by_cases h : a = b <;> simp [h]
theorem int_bne (a b : Int) : (a != b) = !decide (a = b) := by by_cases h : a = b <;> simp [h]
attribute [simp] nd_eta fr_eta ft_eta confR int_beq int_bne
end Dk
namespace Dk
open Go
/-- The place of the first one, or -1. -/
def idxF {α : Type} (p : α → Bool) (l : List α) : Int := if l.findIdx p < l.length then (l.findIdx p : Int) else -1
theorem idxF_any {α : Type} (p : α → Bool) (l : List α) : decide (0 ≤ idxF p l) = l.any p := by
  unfold idxF
  by_cases h : l.findIdx p < l.length
  · have := List.findIdx_lt_length.1 h
    rw [if_pos h]
    have h2 : l.any p = true := by obtain ⟨x, hx, hp⟩ := this; exact List.any_eq_true.2 ⟨x, hx, hp⟩
    rw [h2]; simp
  · rw [if_neg h]
    have h2 : l.any p = false := by
      rw [List.findIdx_lt_length] at h
      rw [List.any_eq_false]; exact fun x hx hp => h ⟨x, hx, hp⟩
    rw [h2]; rfl
theorem findIdx_before {α : Type} {p : α → Bool} {l : List α} {k : Nat} (h : k < l.findIdx p) (h2 : k < l.length) : p l[k] = false := by
  have := List.not_of_lt_findIdx h
  simpa using this
theorem findIdx_at {α : Type} {p : α → Bool} {l : List α} (h : l.findIdx p < l.length) : p (l[l.findIdx p]) = true := List.findIdx_getElem
end Dk
namespace Dk
open Go
/-- A loop, carried out as long as its rounds come to something plain. -/
noncomputable def loopS {σ ρ : Type} (f : σ → Option (σ ⊕ ρ)) : Option (σ ⊕ ρ) → Option ρ
  | some (.inl s) => loopRun f s
  | some (.inr r) => some r
  | none => none
theorem loopS_run {σ ρ : Type} (f : σ → Option (σ ⊕ ρ)) (s : σ) : loopRun f s = loopS f (f s) := by
  cases h : f s with
  | none =>
    show loopRun f s = none
    cases e : loopRun f s with
    | none => rfl
    | some r => cases loopRun_iff.1 e with
      | done d => rw [h] at d; cases d
      | next d _ => rw [h] at d; cases d
  | some x => cases x with
    | inl s' => exact loopRun_next h
    | inr r => exact loopRun_done h
theorem loopS_inl {σ ρ : Type} (f : σ → Option (σ ⊕ ρ)) (s : σ) : loopS f (some (.inl s)) = loopS f (f s) := loopS_run f s
theorem loopS_inr {σ ρ : Type} (f : σ → Option (σ ⊕ ρ)) (r : ρ) : loopS f (some (.inr r)) = some r := rfl
theorem n_cases {n : Int} (h : 3 ≤ n) (h2 : n ≤ 8) : n = 3 ∨ n = 4 ∨ n = 5 ∨ n = 6 ∨ n = 7 ∨ n = 8 := by omega
def hb (h : Hb) : List PV := h.ages.map (.int .i64) ++ [.int .i64 h.port, .int .i64 h.age, .int .i64 h.hold, .int .i64 h.pos]
end Dk
namespace Dk
open Go
/-- A row of numbers by place. -/
def row (N : Nat) (f : Nat → Int) : List AV := (List.range N).map fun v => .pv (.int .i64 (f v))
theorem row_length (N : Nat) (f : Nat → Int) : (row N f).length = N := by simp [row]
theorem row_at {N : Nat} {f : Nat → Int} {j : Nat} (h : j < N) : (row N f)[j]? = some (.pv (.int .i64 (f j))) := by simp [row, List.getElem?_range h]
theorem row_set {N : Nat} {f g : Nat → Int} {j : Nat} {y : Int} (h1 : g j = y) (h2 : ∀ v, v ≠ j → g v = f v) : (row N f).set j (.pv (.int .i64 y)) = row N g := by
  apply List.ext_getElem
  · simp [row]
  · intro k a b
    simp only [row, List.getElem_set, List.getElem_map, List.getElem_range]
    split
    · rename_i e; subst e; rw [h1]
    · rename_i e; rw [h2 k (fun x => e x.symm)]
theorem row_pvs (N : Nat) (f : Nat → Int) : pvs (row N f) = some ((List.range N).map fun v => .int .i64 (f v)) := pvs_mapf _ _
theorem row_rep (N : Nat) : List.replicate N (AV.pv (.int .i64 0)) = row N fun _ => 0 := by
  apply List.ext_getElem
  · simp [row]
  · intro k a b; simp [row]
end Dk
namespace Dk
theorem row_congr {N : Nat} {f g : Nat → Int} (h : ∀ v, v < N → f v = g v) : row N f = row N g := by
  unfold row
  apply List.map_congr_left
  intro v hv
  rw [h v (by simpa using hv)]
end Dk
namespace Dk
theorem nat_neg (k : Nat) : ((k : Int) < 0) = False := by simp
attribute [simp] nat_neg
end Dk
namespace Dk
/-- A slice of these elements: none at all, if it is nil. -/
def IsL (sz : Nat) (L : PV) (l : List PV) : Prop := (L = .nils ∧ l = []) ∨ L = .lst sz l
theorem isL_nils (sz : Nat) : IsL sz .nils [] := .inl ⟨rfl, rfl⟩
theorem isL_lst (sz : Nat) (l : List PV) : IsL sz (.lst sz l) l := .inr rfl
end Dk
namespace Dk
theorem rng_at {α : Type} (f : Nat → α) (k : Nat) (b : α) : ((List.range k).map f ++ [b])[k]? = some b := by
  rw [List.getElem?_append_right (by simp)]; simp
theorem rng_succ {α : Type} (f : Nat → α) (k : Nat) : (List.range k).map f ++ [f k] = (List.range (k + 1)).map f := by
  rw [List.range_succ, List.map_append]; rfl
end Dk
