/- What calls come to. Printed by a program. -/
import Derived.Test.YthdcicadcbogmaaDkSpec0
set_option linter.all false
set_option maxRecDepth 100000
namespace Dk
theorem c1 (xs : List AV) (H : Heap) : callSem (lim tab) 1 xs H = callP (limP tab 1) true xs H := callSem_p rfl
theorem c2 (xs : List AV) (H : Heap) : callSem (lim tab) 2 xs H = callP (limP tab 2) true xs H := callSem_p rfl
theorem c3 (xs : List AV) (H : Heap) : callSem (lim tab) 3 xs H = callP (limP tab 3) true xs H := callSem_p rfl
theorem c5 (xs : List AV) (H : Heap) : callSem (lim tab) 5 xs H = callP (limP tab 5) true xs H := callSem_p rfl
theorem c6 (xs : List AV) (H : Heap) : callSem (lim tab) 6 xs H = callP (limP tab 6) true xs H := callSem_p rfl
theorem c7 (xs : List AV) (H : Heap) : callSem (lim tab) 7 xs H = callP (limP tab 7) true xs H := callSem_p rfl
theorem c8 (xs : List AV) (H : Heap) : callSem (lim tab) 8 xs H = callP (limP tab 8) true xs H := callSem_p rfl
theorem c9 (xs : List AV) (H : Heap) : callSem (lim tab) 9 xs H = callP (limP tab 9) false xs H := callSem_p rfl
theorem c10 (xs : List AV) (H : Heap) : callSem (lim tab) 10 xs H = callP (limP tab 10) false xs H := callSem_p rfl
theorem c11 (xs : List AV) (H : Heap) : callSem (lim tab) 11 xs H = callP (limP tab 11) true xs H := callSem_p rfl
theorem c12 (xs : List AV) (H : Heap) : callSem (lim tab) 12 xs H = callP (limP tab 12) true xs H := callSem_p rfl
theorem c13 (xs : List AV) (H : Heap) : callSem (lim tab) 13 xs H = callP (limP tab 13) true xs H := callSem_p rfl
theorem c14 (xs : List AV) (H : Heap) : callSem (lim tab) 14 xs H = callP (limP tab 14) true xs H := callSem_p rfl
theorem c15 (xs : List AV) (H : Heap) : callSem (lim tab) 15 xs H = callP (limP tab 15) true xs H := callSem_p rfl
theorem c16 (xs : List AV) (H : Heap) : callSem (lim tab) 16 xs H = callP (limP tab 16) true xs H := callSem_p rfl
theorem c17 (xs : List AV) (H : Heap) : callSem (lim tab) 17 xs H = callP (limP tab 17) true xs H := callSem_p rfl
theorem c22 (xs : List AV) (H : Heap) : callSem (lim tab) 22 xs H = callP (limP tab 22) true xs H := callSem_p rfl
theorem c24 (xs : List AV) (H : Heap) : callSem (lim tab) 24 xs H = callP (limP tab 24) true xs H := callSem_p rfl
theorem c25 (xs : List AV) (H : Heap) : callSem (lim tab) 25 xs H = callP (limP tab 25) true xs H := callSem_p rfl
theorem c26 (xs : List AV) (H : Heap) : callSem (lim tab) 26 xs H = callP (limP tab 26) true xs H := callSem_p rfl
theorem c27 (xs : List AV) (H : Heap) : callSem (lim tab) 27 xs H = callP (limP tab 27) true xs H := callSem_p rfl
theorem c28 (xs : List AV) (H : Heap) : callSem (lim tab) 28 xs H = callP (limP tab 28) true xs H := callSem_p rfl
theorem c29 (xs : List AV) (H : Heap) : callSem (lim tab) 29 xs H = callP (limP tab 29) true xs H := callSem_p rfl
theorem c30 (xs : List AV) (H : Heap) : callSem (lim tab) 30 xs H = callP (limP tab 30) true xs H := callSem_p rfl
theorem c31 (xs : List AV) (H : Heap) : callSem (lim tab) 31 xs H = callP (limP tab 31) true xs H := callSem_p rfl
theorem c32 (xs : List AV) (H : Heap) : callSem (lim tab) 32 xs H = callP (limP tab 32) false xs H := callSem_p rfl
theorem c39 (xs : List AV) (H : Heap) : callSem (lim tab) 39 xs H = callP (limP tab 39) true xs H := callSem_p rfl
theorem c42 (xs : List AV) (H : Heap) : callSem (lim tab) 42 xs H = callP (limP tab 42) true xs H := callSem_p rfl
theorem c43 (xs : List AV) (H : Heap) : callSem (lim tab) 43 xs H = callP (limP tab 43) true xs H := callSem_p rfl
theorem c45 (xs : List AV) (H : Heap) : callSem (lim tab) 45 xs H = callP (limP tab 45) false xs H := callSem_p rfl
theorem c47 (xs : List AV) (H : Heap) : callSem (lim tab) 47 xs H = callP (limP tab 47) false xs H := callSem_p rfl
theorem c48 (xs : List AV) (H : Heap) : callSem (lim tab) 48 xs H = callP (limP tab 48) true xs H := callSem_p rfl
theorem c50 (xs : List AV) (H : Heap) : callSem (lim tab) 50 xs H = callP (limP tab 50) false xs H := callSem_p rfl
theorem c68 (xs : List AV) (H : Heap) : callSem (lim tab) 68 xs H = callP (limP tab 68) true xs H := callSem_p rfl
theorem c71 (xs : List AV) (H : Heap) : callSem (lim tab) 71 xs H = callP (limP tab 71) true xs H := callSem_p rfl
theorem c72 (xs : List AV) (H : Heap) : callSem (lim tab) 72 xs H = callP (limP tab 72) true xs H := callSem_p rfl
theorem c79 (xs : List AV) (H : Heap) : callSem (lim tab) 79 xs H = callP (limP tab 79) true xs H := callSem_p rfl
theorem c80 (xs : List AV) (H : Heap) : callSem (lim tab) 80 xs H = callP (limP tab 80) true xs H := callSem_p rfl
theorem c90 (xs : List AV) (H : Heap) : callSem (lim tab) 90 xs H = callP (limP tab 90) true xs H := callSem_p rfl
theorem c91 (xs : List AV) (H : Heap) : callSem (lim tab) 91 xs H = callP (limP tab 91) true xs H := callSem_p rfl
theorem c92 (xs : List AV) (H : Heap) : callSem (lim tab) 92 xs H = callP (limP tab 92) true xs H := callSem_p rfl
theorem c102 (xs : List AV) (H : Heap) : callSem (lim tab) 102 xs H = callP (limP tab 102) false xs H := callSem_p rfl
theorem c104 (xs : List AV) (H : Heap) : callSem (lim tab) 104 xs H = callP (limP tab 104) true xs H := callSem_p rfl
theorem c105 (xs : List AV) (H : Heap) : callSem (lim tab) 105 xs H = callP (limP tab 105) true xs H := callSem_p rfl
theorem c108 (xs : List AV) (H : Heap) : callSem (lim tab) 108 xs H = callP (limP tab 108) true xs H := callSem_p rfl
theorem c109 (xs : List AV) (H : Heap) : callSem (lim tab) 109 xs H = callP (limP tab 109) true xs H := callSem_p rfl
theorem c118 (xs : List AV) (H : Heap) : callSem (lim tab) 118 xs H = callP (limP tab 118) false xs H := callSem_p rfl
theorem c131 (xs : List AV) (H : Heap) : callSem (lim tab) 131 xs H = callP (limP tab 131) true xs H := callSem_p rfl
theorem c23 (xs : List AV) (H : Heap) : callSem (lim tab) 23 xs H = heapA H (limI tab 23 xs H) := callSem_i rfl rfl
theorem d1 (xs : List AV) : touchC (lim tab) 1 xs = some (touchP true xs) := touchC_p rfl
theorem d2 (xs : List AV) : touchC (lim tab) 2 xs = some (touchP true xs) := touchC_p rfl
theorem d3 (xs : List AV) : touchC (lim tab) 3 xs = some (touchP true xs) := touchC_p rfl
theorem d5 (xs : List AV) : touchC (lim tab) 5 xs = some (touchP true xs) := touchC_p rfl
theorem d6 (xs : List AV) : touchC (lim tab) 6 xs = some (touchP true xs) := touchC_p rfl
theorem d7 (xs : List AV) : touchC (lim tab) 7 xs = some (touchP true xs) := touchC_p rfl
theorem d8 (xs : List AV) : touchC (lim tab) 8 xs = some (touchP true xs) := touchC_p rfl
theorem d9 (xs : List AV) : touchC (lim tab) 9 xs = some (touchP false xs) := touchC_p rfl
theorem d10 (xs : List AV) : touchC (lim tab) 10 xs = some (touchP false xs) := touchC_p rfl
theorem d11 (xs : List AV) : touchC (lim tab) 11 xs = some (touchP true xs) := touchC_p rfl
theorem d12 (xs : List AV) : touchC (lim tab) 12 xs = some (touchP true xs) := touchC_p rfl
theorem d13 (xs : List AV) : touchC (lim tab) 13 xs = some (touchP true xs) := touchC_p rfl
theorem d14 (xs : List AV) : touchC (lim tab) 14 xs = some (touchP true xs) := touchC_p rfl
theorem d15 (xs : List AV) : touchC (lim tab) 15 xs = some (touchP true xs) := touchC_p rfl
theorem d16 (xs : List AV) : touchC (lim tab) 16 xs = some (touchP true xs) := touchC_p rfl
theorem d17 (xs : List AV) : touchC (lim tab) 17 xs = some (touchP true xs) := touchC_p rfl
theorem d22 (xs : List AV) : touchC (lim tab) 22 xs = some (touchP true xs) := touchC_p rfl
theorem d24 (xs : List AV) : touchC (lim tab) 24 xs = some (touchP true xs) := touchC_p rfl
theorem d25 (xs : List AV) : touchC (lim tab) 25 xs = some (touchP true xs) := touchC_p rfl
theorem d26 (xs : List AV) : touchC (lim tab) 26 xs = some (touchP true xs) := touchC_p rfl
theorem d27 (xs : List AV) : touchC (lim tab) 27 xs = some (touchP true xs) := touchC_p rfl
theorem d28 (xs : List AV) : touchC (lim tab) 28 xs = some (touchP true xs) := touchC_p rfl
theorem d29 (xs : List AV) : touchC (lim tab) 29 xs = some (touchP true xs) := touchC_p rfl
theorem d30 (xs : List AV) : touchC (lim tab) 30 xs = some (touchP true xs) := touchC_p rfl
theorem d31 (xs : List AV) : touchC (lim tab) 31 xs = some (touchP true xs) := touchC_p rfl
theorem d32 (xs : List AV) : touchC (lim tab) 32 xs = some (touchP false xs) := touchC_p rfl
theorem d39 (xs : List AV) : touchC (lim tab) 39 xs = some (touchP true xs) := touchC_p rfl
theorem d42 (xs : List AV) : touchC (lim tab) 42 xs = some (touchP true xs) := touchC_p rfl
theorem d43 (xs : List AV) : touchC (lim tab) 43 xs = some (touchP true xs) := touchC_p rfl
theorem d45 (xs : List AV) : touchC (lim tab) 45 xs = some (touchP false xs) := touchC_p rfl
theorem d47 (xs : List AV) : touchC (lim tab) 47 xs = some (touchP false xs) := touchC_p rfl
theorem d48 (xs : List AV) : touchC (lim tab) 48 xs = some (touchP true xs) := touchC_p rfl
theorem d50 (xs : List AV) : touchC (lim tab) 50 xs = some (touchP false xs) := touchC_p rfl
theorem d68 (xs : List AV) : touchC (lim tab) 68 xs = some (touchP true xs) := touchC_p rfl
theorem d71 (xs : List AV) : touchC (lim tab) 71 xs = some (touchP true xs) := touchC_p rfl
theorem d72 (xs : List AV) : touchC (lim tab) 72 xs = some (touchP true xs) := touchC_p rfl
theorem d79 (xs : List AV) : touchC (lim tab) 79 xs = some (touchP true xs) := touchC_p rfl
theorem d80 (xs : List AV) : touchC (lim tab) 80 xs = some (touchP true xs) := touchC_p rfl
theorem d90 (xs : List AV) : touchC (lim tab) 90 xs = some (touchP true xs) := touchC_p rfl
theorem d91 (xs : List AV) : touchC (lim tab) 91 xs = some (touchP true xs) := touchC_p rfl
theorem d92 (xs : List AV) : touchC (lim tab) 92 xs = some (touchP true xs) := touchC_p rfl
theorem d102 (xs : List AV) : touchC (lim tab) 102 xs = some (touchP false xs) := touchC_p rfl
theorem d104 (xs : List AV) : touchC (lim tab) 104 xs = some (touchP true xs) := touchC_p rfl
theorem d105 (xs : List AV) : touchC (lim tab) 105 xs = some (touchP true xs) := touchC_p rfl
theorem d108 (xs : List AV) : touchC (lim tab) 108 xs = some (touchP true xs) := touchC_p rfl
theorem d109 (xs : List AV) : touchC (lim tab) 109 xs = some (touchP true xs) := touchC_p rfl
theorem d118 (xs : List AV) : touchC (lim tab) 118 xs = some (touchP false xs) := touchC_p rfl
theorem d131 (xs : List AV) : touchC (lim tab) 131 xs = some (touchP true xs) := touchC_p rfl
theorem d23 (xs : List AV) : touchC (lim tab) 23 xs = none := touchC_i rfl
attribute [simp] d1 d2 d3 d5 d6 d7 d8 d9 d10 d11 d12 d13 d14 d15 d16 d17 d22 d23 d24 d25 d26 d27 d28 d29 d30 d31 d32 d39 d42 d43 d45 d47 d48 d50 d68 d71 d72 d79 d80 d90 d91 d92 d102 d104 d105 d108 d109 d118 d131
attribute [simp] c1 c2 c3 c5 c6 c7 c8 c9 c10 c11 c12 c13 c14 c15 c16 c17 c22 c23 c24 c25 c26 c27 c28 c29 c30 c31 c32 c39 c42 c43 c45 c47 c48 c50 c68 c71 c72 c79 c80 c90 c91 c92 c102 c104 c105 c108 c109 c118 c131
end Dk
