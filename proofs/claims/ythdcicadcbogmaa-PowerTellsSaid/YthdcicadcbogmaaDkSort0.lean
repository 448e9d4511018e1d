/- What the library's sort of integers does. -/
import Derived.Test.YthdcicadcbogmaaDkRun
set_option linter.all false
namespace Dk
open Go

def toInts : List AV → Option (List Int)
  | [] => some []
  | .pv (.int .i64 z) :: l => (toInts l).map (z :: ·)
  | _ => none
theorem toInts_eq : ∀ {l : List AV} {zs : List Int}, toInts l = some zs → l = zs.map fun z => AV.pv (.int .i64 z)
  | [], zs, h => by cases h; rfl
  | x :: l, zs, h => by
    unfold toInts at h
    split at h
    · rename_i e; cases e
    · rename_i z l' e
      injection e with e1 e2; subst e1; subst e2
      simp only [Option.map_eq_some_iff] at h
      obtain ⟨ys, h1, rfl⟩ := h
      rw [toInts_eq h1]; rfl
    · cases h
theorem toInts_map : ∀ (zs : List Int), toInts (zs.map fun z => AV.pv (.int .i64 z)) = some zs
  | [] => rfl
  | z :: zs => by show ((toInts _).map (z :: ·)) = _; rw [toInts_map zs]; rfl
def insI (x : Int) : List Int → List Int
  | [] => [x]
  | y :: l => if x ≤ y then x :: y :: l else y :: insI x l
def sorted : List Int → List Int
  | [] => []
  | x :: l => insI x (sorted l)
theorem insI_cons (x y : Int) (l : List Int) : insI x (y :: l) = if x ≤ y then x :: y :: l else y :: insI x l := rfl
theorem insI_perm (x : Int) : ∀ (l : List Int), (insI x l).Perm (x :: l)
  | [] => List.Perm.refl _
  | y :: l => by
    rw [insI_cons]
    split
    · exact List.Perm.refl _
    · exact ((insI_perm x l).cons y).trans (List.Perm.swap x y l)
theorem sorted_perm : ∀ (l : List Int), (sorted l).Perm l
  | [] => List.Perm.refl _
  | x :: l => (insI_perm x (sorted l)).trans ((sorted_perm l).cons x)
theorem insI_sorted (x : Int) : ∀ (l : List Int), l.Pairwise (· ≤ ·) → (insI x l).Pairwise (· ≤ ·)
  | [], _ => by simp [insI]
  | y :: l, h => by
    rw [insI_cons]
    rw [List.pairwise_cons] at h
    split
    · rw [List.pairwise_cons]
      refine ⟨fun z hz => ?_, by rw [List.pairwise_cons]; exact h⟩
      rcases List.mem_cons.1 hz with rfl | hz
      · assumption
      · have := h.1 z hz; omega
    · rw [List.pairwise_cons]
      refine ⟨fun z hz => ?_, insI_sorted x l h.2⟩
      rcases List.mem_cons.1 ((insI_perm x l).mem_iff.1 hz) with rfl | hz
      · omega
      · exact h.1 z hz
theorem sorted_sorted : ∀ (l : List Int), (sorted l).Pairwise (· ≤ ·)
  | [] => List.Pairwise.nil
  | x :: l => insI_sorted x _ (sorted_sorted l)
theorem sorted_length (zs : List Int) : (sorted zs).length = zs.length := (sorted_perm zs).length_eq
theorem sorted_merge (zs : List Int) : (zs.mergeSort fun x y => decide (x ≤ y)) = sorted zs := by
  refine List.Perm.eq_of_pairwise (le := (· ≤ ·)) (fun a b _ _ h1 h2 => by omega) ?_ (sorted_sorted zs) ((List.mergeSort_perm zs _).trans (sorted_perm zs).symm)
  have := List.pairwise_mergeSort (le := fun (x y : Int) => decide (x ≤ y)) (fun a b c h1 h2 => by simp at *; omega) (fun a b => by simp; omega) zs
  exact this.imp (fun h => by simpa using h)
def sortI : List AV → Heap → Option (AV × Heap)
  | [.sl k len], H => match H[k]? with
    | some bk => match bk.fz || !(Nat.beq bk.sz 1) || !(Nat.beq bk.es.length len) || !(Nat.ble len 4611686018427387903), toInts bk.es with
      | false, some zs => some (.unk, H.set k { bk with es := (sorted zs).map fun z => .pv (.int .i64 z) })
      | _, _ => none
    | none => none
  | _, _ => none
end Dk
