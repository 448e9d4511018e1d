/- Does loaded code fit the slim code? A check that the kernel can carry out. -/
import Derived.Test.YthdcicadcbogmaaDkCore
import GoSem.Core.Region
import GoSem.Core.Layout
import GoSem.Op.Equal
set_option linter.all false
namespace Dk
open Go

def okC1 : Value → PV → Bool
  | .bool a, .bool b => a == b
  | .int k a, .int k' b => decide (k = k') && decide (a = b)
  | .string a, .str b => decide (a.data.toList = b.data.toList)
  | .pointer none, .nilp => true
  | .slice none 0 0, .nils => true
  | .nilFunc, .nilfn => true
  | _, _ => false
def okCl : List Value → List PV → Bool
  | [], [] => true
  | a :: l, b :: m => okC1 a b && okCl l m
  | _, _ => false
def okC : Value → PV → Bool
  | .agg cs, .agg l => okCl cs.toList l
  | .tuple cs, .tup l => okCl cs.toList l
  | v, p => okC1 v p
def okX (num : Nat → FuncId) : Operand → SX → Bool
  | .tmp t, .t u => t == u
  | .const v, .c p => okC v p
  | .func f, .c (.fn n) => num n == f
  | _, _ => false
def okXs (num : Nat → FuncId) : List Operand → List SX → Bool
  | [], [] => true
  | a :: l, b :: m => okX num a b && okXs num l m
  | _, _ => false
def okXo (num : Nat → FuncId) : Option Operand → Option SX → Bool
  | none, none => true
  | some a, some b => okX num a b
  | _, _ => false
def szIs (P : Program) (t : TypeId) (n : Nat) : Bool := match P.info? t with | some i => i.size == n | none => false
def bytesIs (P : Program) (t : TypeId) (n : Nat) : Bool := match P.info? t with | some i => i.bytes == n | none => false
def zeroIs (P : Program) (t : TypeId) (z : PV) (sz : Nat) : Bool :=
  match P.info? t with
  | some i => (match i.zero with | some v => okC v z && z.okc && decide (z.cells.length = sz) && z.cells.all (·.one) | none => false) && (i.size == sz)
  | none => false
def aggT (P : Program) (t : TypeId) : Bool := match P.underlying t with | some (.struct _) | some (.array _ _) => true | _ => false
def plainT (P : Program) (t : TypeId) : Bool := match P.underlying t with | some (.struct _) | some (.array _ _) | none => false | _ => true
def okM (P : Program) (t : TypeId) : Option Nat → Bool
  | none => plainT P t && szIs P t 1
  | some n => aggT P t && szIs P t n
def elemIs (P : Program) (t : TypeId) (f : TypeId → Bool) : Bool := match P.underlying t with | some (.slice e) => f e | _ => false
def hasZero (P : Program) (t : TypeId) : Bool := match P.info? t with | some i => (match i.zero with | some v => decide (v.cells.size = i.size) | none => false) | none => false
def isSliceT (P : Program) (t : TypeId) : Bool := match P.underlying t with | some (.slice _) => true | _ => false
def isStringT (P : Program) (t : TypeId) : Bool := match P.underlying t with | some .string => true | _ => false
def isIntT (P : Program) (t : TypeId) (k : IntKind) : Bool := match P.underlying t with | some (.int k') => decide (k = k') | _ => false
def isAnyIntT (P : Program) (t : TypeId) : Bool := match P.underlying t with | some (.int _) => true | _ => false
def isBoolT (P : Program) (t : TypeId) : Bool := match P.underlying t with | some .bool => true | _ => false
def isPtrT (P : Program) (t : TypeId) : Bool := match P.underlying t with | some (.pointer e) => !szIs P e 0 | _ => false
/-- parts of a struct -/
def okParts (P : Program) (num : Nat → FuncId) (fs : Array Field) : List (Nat × Operand) → List (Nat × Nat × SX) → Bool
  | [], [] => true
  | (i, x) :: l, (off, size, y) :: m => (match fs[i]? with | some f => (f.offset == off) && szIs P f.type size | none => false) && okX num x y && okParts P num fs l m
  | _, _ => false
def okElems (num : Nat → FuncId) (esz : Nat) : List (Nat × Operand) → List (Nat × Nat × SX) → Bool
  | [], [] => true
  | (i, x) :: l, (off, size, y) :: m => (i * esz == off) && (size == esz) && okX num x y && okElems num esz l m
  | _, _ => false
def okRow (num : Nat → FuncId) : Nat → List (Nat × Operand) → List SX → Bool
  | _, [], [] => true
  | i, (j, x) :: l, y :: m => (i == j) && okX num x y && okRow num (i + 1) l m
  | _, _, _ => false
/-- the kinds of the cells of fields that lie one behind the other -/
def kindsF (P : Program) (f : TypeId → Option (List Nat)) : Nat → List Field → Nat → Option (List Nat)
  | off, [], n => if off = n then some [] else none
  | off, g :: fs, n => if g.offset = off ∧ (g.name != "_") = true then
      (match P.info? g.type, f g.type with
        | some i, some ks => (kindsF P f (off + i.size) fs n).map (ks ++ ·)
        | _, _ => none) else none
/-- the kinds of the cells of a type of numbers, texts, bools -/
def kindsT (P : Program) : Nat → TypeId → Option (List Nat)
  | 0, _ => none
  | d + 1, t =>
    match P.underlying t with
    | some .bool => if szIs P t 1 then some [0] else none
    | some (.int _) => if szIs P t 1 then some [1] else none
    | some .string => if szIs P t 1 then some [2] else none
    | some (.struct fs) => if P.stoodInHeld t then none else (match P.info? t with | some i => kindsF P (kindsT P d) 0 fs.toList i.size | none => none)
    | some (.array n e) => (match kindsT P d e, P.info? e with
      | some ks, some i => if szIs P t (n * i.size) then some (List.replicate n ks).flatten else none
      | _, _ => none)
    | _ => none
def bodyIs (P : Program) (f : FuncId) : Bool := match P.funcs[f]? with | some fn => fn.body.isSome && fn.name != "runtime.NumGoroutine" | none => false

def okOp (P : Program) (num : Nat → FuncId) : Op → SO → Bool
  | .move x, .move y => okX num x y
  | .assign x, .move y => okX num x y
  | .pick c a b, .pick c' a' b' => okX num c c' && okX num a a' && okX num b b'
  | .alloc e, .alloc sz z => zeroIs P e z sz
  | .box _ x, .box _ y => okX num x y
  | .load t x, .load m y => okM P t m && okX num x y
  | .store t a x, .store m a' x' => okM P t m && okX num a a' && okX num x x'
  | .nilCheck x, .nilck y => okX num x y
  | .fieldAddr s x f, .fld off y => (match P.underlying s with | some (.struct fs) => (match fs[f]? with | some g => (g.offset == off) && (match P.info? g.type with | some i => i.size != 0 | none => false) | none => false) | _ => false) && okX num x y
  | .indexAddr t x i, .idxS esz x' i' => elemIs P t (szIs P · esz) && okX num x x' && okX num i i'
  | .indexAddr t x i, .idxA cnt esz x' i' => (match P.underlying t with | some (.array n e) => (n == cnt) && szIs P e esz | _ => false) && okX num x x' && okX num i i'
  | .binOp op _ x y _, .bin op' x' y' => decide (op = op') && okX num x x' && okX num y y'
  | .binOp .eql t x y _, .eqB false x' y' => isBoolT P t && okX num x x' && okX num y y'
  | .binOp .neq t x y _, .eqB true x' y' => isBoolT P t && okX num x x' && okX num y y'
  | .binOp .eql t x y _, .eqA false ks x' y' => aggT P t && decide (kindsT P 20 t = some ks) && !P.eqGuardType P.depth t && okX num x x' && okX num y y'
  | .binOp .neq t x y _, .eqA true ks x' y' => aggT P t && decide (kindsT P 20 t = some ks) && !P.eqGuardType P.depth t && okX num x x' && okX num y y'
  | .binOp .eql t x (.const (.slice none 0 0)) _, .isNil false x' => isSliceT P t && okX num x x'
  | .binOp .neq t x (.const (.slice none 0 0)) _, .isNil true x' => isSliceT P t && okX num x x'
  | .binOp .eql t x (.const (.pointer none)) _, .isNilP false x' => isPtrT P t && okX num x x'
  | .binOp .neq t x (.const (.pointer none)) _, .isNilP true x' => isPtrT P t && okX num x x'
  | .unOp op _ x, .un op' y => decide (op = op') && okX num x y
  | .convert s t x, .conv k y => (P.underlying s).isSome && isIntT P t k && okX num x y
  | .convert s t x, .convSB y => elemIs P s (isIntT P · .u8) && isStringT P t && okX num x y
  | .convert s t x, .convBS y => isStringT P s && elemIs P t (isIntT P · .u8) && okX num x y
  | .makeFunc (.func f) first caps, .mkfn n caps' => first.isEmpty && (num n == f) && okXs num caps.toList caps'
  | .makeSlice t l c, .mkslice sz z bytes l' c' => elemIs P t (fun e => zeroIs P e z sz && bytesIs P e bytes && decide (0 < sz)) && okX num l l' && okX num c c'
  | .build t parts, .build z parts' => (match P.info? t with
      | some i => (match i.zero with | some v => okC v (.agg z) && z.all (·.one) && decide (v.cells.size = z.length) | none => false)
      | none => false) && (match P.underlying t with
      | some (.struct fs) => fs.all (fun f => (P.info? f.type).isSome) && okParts P num fs parts.toList parts'
      | some (.array _ e) => (match P.info? e with | some i => okElems num i.size parts.toList parts' | none => false)
      | _ => false)
  | .buildSlice t n parts, .mkrow sz xs => elemIs P t (fun e => szIs P e sz && hasZero P e) && (n == xs.length) && decide (0 < sz) && decide (n * sz ≤ 1000) && okRow num 0 parts.toList xs
  | .slice t x lo hi none, .slice esz x' lo' hi' => elemIs P t (szIs P · esz) && okX num x x' && okXo num lo lo' && okXo num hi hi'
  | .slice t x none none none, .sliceA cnt esz x' => (match P.underlying t with | some (.array n e) => (n == cnt) && szIs P e esz && decide (0 < n) | _ => false) && okX num x x'
  | .slice t x lo hi none, .sliceStr x' lo' hi' => isStringT P t && okX num x x' && okXo num lo lo' && okXo num hi hi'
  | .extract x i, .extract j y => (i == j) && okX num x y
  | .field t x f, .field off m y => (match P.underlying t with | some (.struct fs) => (match fs[f]? with | some g => (g.offset == off) && okM P g.type m | none => false) | _ => false) && okX num x y
  | .index t x i, .index cnt esz m x' i' => (match P.underlying t with | some (.array n e) => (n == cnt) && szIs P e esz && okM P e m | _ => false) && okX num x x' && okX num i i'
  | .index t x i, .indexStr x' i' => isStringT P t && okX num x x' && okX num i i'
  | .lookup t x k ok, .lookup z ok' str x' k' => (match P.underlying t with | some (.map kt e) => zeroIs P e z 1 && z.one && (if str then isStringT P kt else isAnyIntT P kt) | _ => false) && decide (ok = ok') && okX num x x' && okX num k k'
  | .call { callee := .builtin .len, args, argTypes }, .len y => (match args.toList, argTypes.toList with | [x], [t] => isSliceT P t && okX num x y | _, _ => false)
  | .call { callee := .builtin .len, args, argTypes }, .lenStr y => (match args.toList, argTypes.toList with | [x], [t] => isStringT P t && okX num x y | _, _ => false)
  | .call { callee := .builtin .append, args, argTypes }, .append sz bytes x' y' => (match args.toList, argTypes.toList with
      | [x, y], [t, u] => (t == u) && elemIs P t (fun e => szIs P e sz && hasZero P e && bytesIs P e bytes) && okX num x x' && okX num y y' | _, _ => false)
  | .call { callee := .builtin .copy, args, argTypes }, .copy sz x' y' => (match args.toList, argTypes.toList with
      | [x, y], [t, u] => elemIs P t (szIs P · sz) && isSliceT P u && decide (0 < sz) && okX num x x' && okX num y y' | _, _ => false)
  | .call { callee := .builtin .min, args, .. }, .mn x' y' => (match args.toList with | [x, y] => okX num x x' && okX num y y' | _ => false)
  | .call { callee := .builtin .max, args, .. }, .mx x' y' => (match args.toList with | [x, y] => okX num x x' && okX num y y' | _ => false)
  | .call { callee := .value (.func f), args, .. }, .call n xs => (num n == f) && bodyIs P f && okXs num args.toList xs
  | .call { callee := .value (.tmp t), args, .. }, .callv (.t u) xs => (t == u) && okXs num args.toList xs
  | _, _ => false

def okG (ops : Array Oper) : Option (Nat × Bool) → Option (Nat × Bool) → Bool
  | none, none => true
  | some (j, b), some (t, b') => (b == b') && (match ops[j]? with | some o => o.dst == some t | none => false)
  | _, _ => false
def okOper (P : Program) (num : Nat → FuncId) (ntmps : Nat) (ops : Array Oper) (o : Oper) (sp : SP) : Bool :=
  (o.dst == sp.dst) && (match sp.dst with | some d => decide (d < ntmps) | none => true) && okG ops o.guard sp.g && okOp P num o.op sp.op
def okOpers (P : Program) (num : Nat → FuncId) (ntmps : Nat) (ops : Array Oper) : List Oper → List SP → Bool
  | [], [] => true
  | o :: l, sp :: m => okOper P num ntmps ops o sp && okOpers P num ntmps ops l m
  | _, _ => false
end Dk
