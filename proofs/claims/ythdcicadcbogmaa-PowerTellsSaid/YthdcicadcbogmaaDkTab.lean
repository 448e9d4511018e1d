/- Which functions there are. Printed by a program. -/
import Derived.Test.YthdcicadcbogmaaDkMaps
import Derived.Test.YthdcicadcbogmaaDkEv
import Derived.Test.YthdcicadcbogmaaDkFns1
set_option linter.all false
namespace Dk
open Go
def lookF : List (Nat × SF) → Nat → Option SF
  | [], _ => none
  | (k, f) :: l, n => bif Nat.beq k n then some f else lookF l n
def tabPL : List (Nat × SF) := [(1, f1), (2, f2), (3, f3), (5, f5), (6, f6), (7, f7), (8, f8), (9, f9), (10, f10), (11, f11), (12, f12), (13, f13), (14, f14), (15, f15), (16, f16), (17, f17), (22, f22), (24, f24), (25, f25), (26, f26), (27, f27), (28, f28), (29, f29), (30, f30), (31, f31), (32, f32), (39, f39), (42, f42), (43, f43), (45, f45), (47, f47), (48, f48), (50, f50), (68, f68), (71, f71), (72, f72), (79, f79), (80, f80), (90, f90), (91, f91), (92, f92), (104, f104), (105, f105), (108, f108), (109, f109), (131, f131)]
def tabIL : List (Nat × SF) := []
def flL : List Nat := [1, 2, 3, 5, 6, 7, 8, 11, 12, 13, 14, 15, 16, 17, 22, 24, 25, 26, 27, 28, 29, 30, 31, 39, 42, 43, 48, 68, 71, 72, 79, 80, 90, 91, 92, 104, 105, 108, 109, 131]
def tabP (n : Nat) : Option SF := lookF tabPL n
def tabI (n : Nat) : Option SF := lookF tabIL n
def tabFl (n : Nat) : Bool := flL.any (Nat.beq n)
end Dk
