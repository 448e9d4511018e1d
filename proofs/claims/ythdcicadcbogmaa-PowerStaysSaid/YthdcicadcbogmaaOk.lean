/- The slim code of each function fits the program. Printed by a program. -/
import Derived.Test.YthdcicadcbogmaaDkSpec0
import Derived.Test.YthdcicadcbogmaaProg
import Derived.KernelRfl
set_option linter.all false
set_option maxRecDepth 1000000
namespace Dk
open Go
def numL : List Nat := [2, 3, 4, 5, 6, 7, 8, 9, 10, 11, 12, 13, 14, 15, 16, 17, 18, 19, 20, 21, 22, 23, 24, 25, 26, 27, 28, 29, 30, 31, 32, 33, 34, 35, 36, 37, 38, 39, 40, 41, 42, 43, 44, 45, 46, 47, 48, 49, 50, 51, 52, 53, 54, 55, 56, 57, 58, 59, 60, 61, 62, 63, 64, 65, 66, 67, 68, 69, 70, 71, 72, 73, 74, 75, 76, 77, 78, 79, 80, 81, 82, 83, 84, 85, 86, 87, 88, 89, 90, 91, 92, 93, 94, 95, 96, 97, 98, 99, 100, 101, 102, 103, 104, 105, 106, 107, 108, 109, 110, 111, 112, 113, 114, 115, 116, 117, 118, 119, 120, 121, 122, 123, 124, 125, 126, 127, 128, 129, 130, 131, 132, 133, 134, 135, 136, 137, 138, 139, 140, 0, 0, 0, 0, 0, 0, 0, 0, 0, 0, 0, 0, 0, 0, 0, 0, 0, 0, 0, 0, 0, 0, 0, 0, 0, 0, 0, 0, 0, 0, 0, 0, 0, 0, 0, 0, 0, 0, 0, 0, 0, 0, 0, 0, 0, 0, 0, 0, 0, 0, 0, 0, 0, 0, 0, 0, 0, 0, 0, 0, 0, 0, 0, 0, 0, 0, 0, 0, 0, 0, 0, 0, 0, 0, 0, 0, 0, 0, 0, 0, 0, 0, 0, 0, 0, 0, 0, 0, 0, 0, 0, 0, 0, 0, 0, 0, 0, 0, 0, 0, 0, 0, 0, 0, 0, 0, 0, 0, 0, 0, 0, 0, 0, 0, 0, 0, 0, 0, 0, 0, 0, 0, 0, 0, 0, 0, 0, 0, 0, 0, 0, 0, 0, 0, 0, 0, 0, 0, 0, 0, 0, 0, 0, 0, 0, 0, 0, 0, 0, 0, 0, 0, 0, 0, 0, 0, 0, 0, 0, 0, 0, 0, 0, 0, 0, 0, 0, 0, 0, 0, 0, 0, 0, 0, 0, 0, 0, 0, 0, 0, 0, 0, 0, 0, 0, 0, 0, 0, 0, 0, 0, 0, 0, 0, 0, 0, 0, 0, 0, 0, 0, 0, 0, 0, 0, 0, 0, 0, 0, 0, 0, 0, 0, 0]
def num (n : Nat) : FuncId := numL.getD n 0
noncomputable abbrev PP : Program := Go.Proofs.Try.prog
theorem okPs : (tabPL.all fun x => okFn PP num (num x.1) x.2 && bodyIs PP (num x.1)) = true := by kernel_rfl
theorem okIs : (tabIL.all fun x => okFn PP num (num x.1) x.2 && bodyIs PP (num x.1)) = true := by kernel_rfl
theorem ok102 : okMapFn PP num (num 102) false modesK modesV = true := by kernel_rfl
theorem ok118 : okMapFn PP num (num 118) true roundsK roundsV = true := by kernel_rfl
theorem body102 : bodyIs PP (num 102) = true := by kernel_rfl
theorem body118 : bodyIs PP (num 118) = true := by kernel_rfl
theorem lookF_mem : ∀ {l : List (Nat × SF)} {n : Nat} {f : SF}, lookF l n = some f → (n, f) ∈ l
  | [], _, _, h => by cases h
  | (k, g) :: l, n, f, h => by
    unfold lookF at h
    cases hb : Nat.beq k n with
    | true => rw [hb] at h; cases h; have := Nat.eq_of_beq_eq_true hb; subst this; simp
    | false => rw [hb] at h; exact List.mem_cons_of_mem _ (lookF_mem h)
theorem tabOK : TabOK PP num tab := by
  refine ⟨fun n f h => ?_, fun n f h => ?_, fun n g h => ?_, fun n g h => (by cases h)⟩
  · have := List.all_eq_true.1 okPs _ (lookF_mem h)
    simp only [Bool.and_eq_true] at this
    exact ⟨this.2, this.1⟩
  · have := List.all_eq_true.1 okIs _ (lookF_mem h)
    simp only [Bool.and_eq_true] at this
    exact ⟨this.2, this.1⟩
  · have h : tabS n = some g := h
    unfold tabS at h
    split at h
    · cases h; exact ⟨body102, mapFn_sound ok102⟩
    · cases h; exact ⟨body118, mapFn_sound ok118⟩
    · cases h
end Dk
