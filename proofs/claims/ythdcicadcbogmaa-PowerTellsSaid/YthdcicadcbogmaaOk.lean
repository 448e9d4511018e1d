/- The slim code of each function fits the program. Printed by a program. -/
import Derived.Test.YthdcicadcbogmaaDkSpec0
import Derived.Test.YthdcicadcbogmaaProg
import Derived.KernelRfl
import Derived.Test.YthdcicadcbogmaaDkSort
import Derived.Shelf.Sort.Plain
set_option linter.all false
set_option maxRecDepth 1000000
namespace Go.Proofs
open Go.Shelf
def Try.laysSort_ren : Go.Shelf.Ren := ⟨fun | 189 => 25 | 125 => 43 | 257 => 42 | 128 => 68 | 129 => 69 | 294 => 59 | 295 => 60 | 296 => 61 | 297 => 62 | 298 => 63 | 299 => 64 | 216 => 65 | 300 => 66 | 301 => 67 | 328 => 86 | 329 => 87 | 330 => 88 | 331 => 89 | 332 => 90 | 215 => 91 | 343 => 105 | n => n, fun | 28 => 26 | 3 => 3 | 46 => 86 | 0 => 0 | 51 => 120 | 53 => 122 | 4 => 4 | 183 => 113 | 182 => 112 | 131 => 117 | 5 => 5 | 9 => 9 | 218 => 146 | 222 => 126 | 228 => 169 | 229 => 170 | n => n, fun | n => n⟩
theorem Try.laysSort : Go.Proofs.Lays.n189 Try.prog Try.laysSort_ren := {
  mixed := by kernel_rfl,
  f125 := Try.func43.trans (congrArg some (by kernel_rfl)),
  f128 := Try.func68.trans (congrArg some (by kernel_rfl)),
  f129 := Try.func69.trans (congrArg some (by kernel_rfl)),
  f189 := Try.func25.trans (congrArg some (by kernel_rfl)),
  f215 := Try.func91.trans (congrArg some (by kernel_rfl)),
  f216 := Try.func65.trans (congrArg some (by kernel_rfl)),
  f257 := Try.func42.trans (congrArg some (by kernel_rfl)),
  f294 := Try.func59.trans (congrArg some (by kernel_rfl)),
  f295 := Try.func60.trans (congrArg some (by kernel_rfl)),
  f296 := Try.func61.trans (congrArg some (by kernel_rfl)),
  f297 := Try.func62.trans (congrArg some (by kernel_rfl)),
  f298 := Try.func63.trans (congrArg some (by kernel_rfl)),
  f299 := Try.func64.trans (congrArg some (by kernel_rfl)),
  f300 := Try.func66.trans (congrArg some (by kernel_rfl)),
  f301 := Try.func67.trans (congrArg some (by kernel_rfl)),
  f328 := Try.func86.trans (congrArg some (by kernel_rfl)),
  f329 := Try.func87.trans (congrArg some (by kernel_rfl)),
  f330 := Try.func88.trans (congrArg some (by kernel_rfl)),
  f331 := Try.func89.trans (congrArg some (by kernel_rfl)),
  f332 := Try.func90.trans (congrArg some (by kernel_rfl)),
  f343 := Try.func105.trans (congrArg some (by kernel_rfl)),
  t0 := Try.underlying0,
  a0 := Try.isAgg0,
  z0 := Try.sizeOf0,
  v0 := Try.zeroValue0,
  t3 := Try.underlying3,
  a3 := Try.isAgg3,
  z3 := Try.sizeOf3,
  v3 := Try.zeroValue3,
  t4 := Try.underlying4,
  a4 := Try.isAgg4,
  z4 := Try.sizeOf4,
  v4 := Try.zeroValue4,
  t5 := Try.underlying5,
  a5 := Try.isAgg5,
  z5 := Try.sizeOf5,
  v5 := Try.zeroValue5,
  t9 := Try.underlying9,
  a9 := Try.isAgg9,
  z9 := Try.sizeOf9,
  v9 := Try.zeroValue9,
  t28 := Try.underlying26,
  a28 := Try.isAgg26,
  z28 := Try.sizeOf26,
  v28 := Try.zeroValue26,
  t46 := Try.underlying86,
  a46 := Try.isAgg86,
  z46 := Try.sizeOf86,
  v46 := Try.zeroValue86,
  t51 := Try.underlying120,
  a51 := Try.isAgg120,
  z51 := Try.sizeOf120,
  v51 := Try.zeroValue120,
  t53 := Try.underlying122,
  a53 := Try.isAgg122,
  z53 := Try.sizeOf122,
  v53 := Try.zeroValue122,
  t131 := Try.underlying117,
  a131 := Try.isAgg117,
  z131 := Try.sizeOf117,
  v131 := Try.zeroValue117,
  t182 := Try.underlying112,
  a182 := Try.isAgg112,
  z182 := Try.sizeOf112,
  v182 := Try.zeroValue112,
  t183 := Try.underlying113,
  a183 := Try.isAgg113,
  z183 := Try.sizeOf113,
  v183 := Try.zeroValue113,
  t218 := Try.underlying146,
  a218 := Try.isAgg146,
  z218 := Try.sizeOf146,
  v218 := Try.zeroValue146,
  t222 := Try.underlying126,
  a222 := Try.isAgg126,
  z222 := Try.sizeOf126,
  v222 := Try.zeroValue126,
  t228 := Try.underlying169,
  a228 := Try.isAgg169,
  z228 := Try.sizeOf169,
  v228 := Try.zeroValue169,
  t229 := Try.underlying170,
  a229 := Try.isAgg170,
  z229 := Try.sizeOf170,
  v229 := Try.zeroValue170 }
end Go.Proofs
namespace Dk
open Go
def numL : List Nat := [2, 3, 4, 5, 6, 7, 8, 9, 10, 11, 12, 13, 14, 15, 16, 17, 18, 19, 20, 21, 22, 23, 24, 25, 26, 27, 28, 29, 30, 31, 32, 33, 34, 35, 36, 37, 38, 39, 40, 41, 42, 43, 44, 45, 46, 47, 48, 49, 50, 51, 52, 53, 54, 55, 56, 57, 58, 59, 60, 61, 62, 63, 64, 65, 66, 67, 68, 69, 70, 71, 72, 73, 74, 75, 76, 77, 78, 79, 80, 81, 82, 83, 84, 85, 86, 87, 88, 89, 90, 91, 92, 93, 94, 95, 96, 97, 98, 99, 100, 101, 102, 103, 104, 105, 106, 107, 108, 109, 110, 111, 112, 113, 114, 115, 116, 117, 118, 119, 120, 121, 122, 123, 124, 125, 126, 127, 128, 129, 130, 131, 132, 133, 134, 135, 136, 137, 138, 139, 140, 0, 0, 0, 0, 0, 0, 0, 0, 0, 0, 0, 0, 0, 0, 0, 0, 0, 0, 0, 0, 0, 0, 0, 0, 0, 0, 0, 0, 0, 0, 0, 0, 0, 0, 0, 0, 0, 0, 0, 0, 0, 0, 0, 0, 0, 0, 0, 0, 0, 0, 0, 0, 0, 0, 0, 0, 0, 0, 0, 0, 0, 0, 0, 0, 0, 0, 0, 0, 0, 0, 0, 0, 0, 0, 0, 0, 0, 0, 0, 0, 0, 0, 0, 0, 0, 0, 0, 0, 0, 0, 0, 0, 0, 0, 0, 0, 0, 0, 0, 0, 0, 0, 0, 0, 0, 0, 0, 0, 0, 0, 0, 0, 0, 0, 0, 0, 0, 0, 0, 0, 0, 0, 0, 0, 0, 0, 0, 0, 0, 0, 0, 0, 0, 0, 0, 0, 0, 0, 0, 0, 0, 0, 0, 0, 0, 0, 0, 0, 0, 0, 0, 0, 0, 0, 0, 0, 0, 0, 0, 0, 0, 0, 0, 0, 0, 0, 0, 0, 0, 0, 0, 0, 0, 0, 0, 0, 0, 0, 0, 0, 0, 0, 0, 0, 0, 0, 0, 0, 0, 0, 0, 0, 0, 0, 0, 0, 0, 0, 0, 0, 0, 0, 0, 0, 0, 0, 0, 0, 0, 0, 0, 0, 0, 0]
def num (n : Nat) : FuncId := numL.getD n 0
noncomputable abbrev PP : Program := Go.Proofs.Try.prog
theorem okPs : (tabPL.all fun x => okFn PP num (num x.1) x.2 && bodyIs PP (num x.1)) = true := by kernel_rfl
theorem okIs : (tabIL.all fun x => okFn PP num (num x.1) x.2 && bodyIs PP (num x.1)) = true := by kernel_rfl
theorem ok102 : okMapFn PP num (num 102) false modesK modesV = true := by kernel_rfl
theorem ok118 : okMapFn PP num (num 118) true roundsK roundsV = true := by kernel_rfl
theorem body102 : bodyIs PP (num 102) = true := by kernel_rfl
theorem body118 : bodyIs PP (num 118) = true := by kernel_rfl
theorem body23 : bodyIs PP (num 23) = true := by kernel_rfl
theorem lookF_mem : ∀ {l : List (Nat × SF)} {n : Nat} {f : SF}, lookF l n = some f → (n, f) ∈ l
  | [], _, _, h => by cases h
  | (k, g) :: l, n, f, h => by
    unfold lookF at h
    cases hb : Nat.beq k n with
    | true => rw [hb] at h; cases h; have := Nat.eq_of_beq_eq_true hb; subst this; simp
    | false => rw [hb] at h; exact List.mem_cons_of_mem _ (lookF_mem h)
theorem tabOK : TabOK PP num tab := by
  refine ⟨fun n f h => ?_, fun n f h => ?_, fun n g h => ?_, fun n g h => ?_⟩
  · have := List.all_eq_true.1 okPs _ (lookF_mem (l := tabPL) (n := n) h)
    simp only [Bool.and_eq_true] at this
    exact ⟨this.2, this.1⟩
  · have := List.all_eq_true.1 okIs _ (lookF_mem (l := tabIL) (n := n) h)
    simp only [Bool.and_eq_true] at this
    exact ⟨this.2, this.1⟩
  · have h : tabS n = some g := h
    unfold tabS at h
    split at h
    · cases h; exact ⟨body102, mapFn_sound ok102⟩
    · cases h; exact ⟨body118, mapFn_sound ok118⟩
    · cases h
  · have h : tabSi n = some g := h
    unfold tabSi at h
    split at h
    · cases h; exact ⟨body23, sort_soundI (f := num 23) fun blk off cap zs w h1 h2 h3 => Go.Proofs.Any.slices_Sort_int Go.Proofs.Try.laysSort blk off cap zs w h1 h2 h3⟩
    · cases h
end Dk
