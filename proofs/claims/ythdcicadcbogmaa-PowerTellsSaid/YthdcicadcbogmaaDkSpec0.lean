/- The table. -/
import Derived.Test.YthdcicadcbogmaaDkTab
import Derived.Test.YthdcicadcbogmaaDkMaps
import Derived.Test.YthdcicadcbogmaaDkSort0
set_option linter.all false
namespace Dk
open Go
def roundsK : List PV := [.str ⟨#[98,108,111,99,107]⟩, .str ⟨#[119,97,116,99,104]⟩, .str ⟨#[108,97,116,101,114]⟩, .str ⟨#[115,116,97,114,116]⟩, .str ⟨#[115,116,97,98,108,101]⟩, .str ⟨#[108,105,115,116,101,110]⟩, .str ⟨#[99,111,108,100]⟩]
def roundsV : List PV := [.int .i64 2, .int .i64 8, .int .i64 3, .int .i64 40, .int .i64 96, .int .i64 4, .int .i64 2]
def modesK : List PV := [.int .i64 1, .int .i64 2, .int .i64 3]
def modesV : List PV := [.fn 115, .fn 116, .fn 117]
def constFn (ks vs : List PV) : List AV → Option PV := fun args => match args with | [] => some (.mp ks vs) | _ => none
def tabS : Nat → Option (List AV → Option PV)
  | 102 => some (constFn modesK modesV)
  | 118 => some (constFn roundsK roundsV)
  | _ => none
def tabSi : Nat → Option (List AV → Heap → Option (AV × Heap))
  | 23 => some sortI
  | _ => none
def tab : Tab := ⟨tabP, tabI, tabFl, tabS, tabSi⟩
end Dk
