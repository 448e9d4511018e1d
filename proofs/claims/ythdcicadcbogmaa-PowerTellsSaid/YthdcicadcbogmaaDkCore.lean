/- The abstract machine: pure values, values with references into a small heap, a slim code, and what it comes to. -/
import GoSem.Core.View
set_option linter.all false
namespace Dk
open Go (IntKind BinOp UnOp)

/-- Pure values: a slice is the list of its elements (each of sz cells). -/
inductive PV where
  | bool (b : Bool)
  | int (k : IntKind) (n : Int)
  | str (s : ByteArray)
  | nilp
  | nils
  | e0
  | lst (sz : Nat) (l : List PV)
  | agg (l : List PV)
  | tup (l : List PV)
  | fn (n : Nat)
  | nilfn
  | mp (ks vs : List PV)
  | unk
  deriving Inhabited

abbrev PV.undef : PV := .tup []

/-- Values that may refer to blocks of the abstract heap; len is the count of elements that the block had: a reference is good as long as it still has them. -/
inductive AV where
  | pv (p : PV)
  | ptr (k len i off : Nat)
  | sl (k len : Nat)
  | asl (k len i off cnt esz : Nat)
  | rp (p : PV) (off : Nat)
  | agg (l : List AV)
  | tup (l : List AV)
  | fn (n : Nat) (caps : List AV)
  | unk
  deriving Inhabited

/-- A block: elements of sz cells; fz: never written any more. -/
structure Blk where
  sz : Nat
  es : List AV
  fz : Bool := false
  deriving Inhabited

abbrev Heap := List Blk

inductive SX where
  | t (n : Nat)
  | c (p : PV)
  deriving Inhabited

inductive SO where
  | move (x : SX)
  | pick (c a b : SX)
  | alloc (sz : Nat) (z : PV)
  | box (sz : Nat) (x : SX)
  | build (z : List PV) (parts : List (Nat × Nat × SX))
  | mkrow (sz : Nat) (xs : List SX)
  | load (m : Option Nat) (x : SX)
  | store (m : Option Nat) (a x : SX)
  | nilck (x : SX)
  | bin (op : BinOp) (x y : SX)
  | eqA (neg : Bool) (ks : List Nat) (x y : SX)
  | isNil (neg : Bool) (x : SX)
  | un (op : UnOp) (x : SX)
  | conv (k : IntKind) (x : SX)
  | convSB (x : SX)
  | convBS (x : SX)
  | mkfn (n : Nat) (caps : List SX)
  | mkslice (sz : Nat) (z : PV) (bytes : Nat) (l c : SX)
  | slice (esz : Nat) (x : SX) (lo hi : Option SX)
  | sliceA (cnt esz : Nat) (x : SX)
  | sliceStr (x : SX) (lo hi : Option SX)
  | lenStr (x : SX)
  | eqB (neg : Bool) (x y : SX)
  | isNilP (neg : Bool) (x : SX)
  | fld (off : Nat) (x : SX)
  | idxA (cnt esz : Nat) (x i : SX)
  | idxS (esz : Nat) (x i : SX)
  | field (off : Nat) (m : Option Nat) (x : SX)
  | index (cnt esz : Nat) (m : Option Nat) (x i : SX)
  | indexStr (x i : SX)
  | extract (i : Nat) (x : SX)
  | len (x : SX)
  | append (sz bytes : Nat) (x y : SX)
  | copy (sz : Nat) (x y : SX)
  | mn (x y : SX)
  | mx (x y : SX)
  | lookup (z : PV) (ok : Bool) (str : Bool) (x k : SX)
  | call (f : Nat) (xs : List SX)
  | callv (f : SX) (xs : List SX)
  deriving Inhabited

structure SP where
  dst : Option Nat
  op : SO
  g : Option (Nat × Bool) := none
  deriving Inhabited

inductive SC where
  | skip
  | ret
  | exit (id : Nat)
  | seq (a b : SC)
  | cond (x : SX) (a b : SC)
  | block (id : Nat) (b : SC)
  | loop (live : List Nat) (b : SC)
  | region (l : List SP)
  | draw (l : List SP) (free : List (Nat × Nat))
  deriving Inhabited

inductive SR where
  | tmp (t : Nat)
  | cell (t : Nat) (m : Option Nat)
  deriving Inhabited

structure SF where
  params : Nat
  results : List SR
  body : SC
  deriving Inhabited

-- slots
abbrev Slots := List (Nat × AV)
def Slots.get : Slots → Nat → AV
  | [], _ => .unk
  | (i, v) :: T, t => bif Nat.beq i t then v else Slots.get T t
def Slots.put (T : Slots) (d : Option Nat) (v : AV) : Slots :=
  match d with
  | some d => (d, v) :: T
  | none => T
def SX.ev (T : Slots) : SX → AV
  | .t n => T.get n
  | .c p => .pv p

-- cells
def PV.cells : PV → List PV
  | .agg l => l
  | p => [p]
def pvs : List AV → Option (List PV)
  | [] => some []
  | .pv p :: l => (pvs l).map (p :: ·)
  | _ :: _ => none
def mkAgg (l : List AV) : AV :=
  match pvs l with
  | some ps => .pv (.agg ps)
  | none => .agg l
def mkTup (l : List AV) : AV :=
  match pvs l with
  | some ps => .pv (.tup ps)
  | none => .tup l
def AV.cells : AV → List AV
  | .pv p => p.cells.map .pv
  | .agg l => l
  | v => [v]
def PV.read (p : PV) (m : Option Nat) (off : Nat) : Option PV :=
  match m with
  | none => p.cells[off]?
  | some n => match p with
    | .agg l => if off + n ≤ l.length then some (.agg ((l.drop off).take n)) else none
    | _ => none
def AV.read (v : AV) (m : Option Nat) (off : Nat) : Option AV :=
  match v with
  | .pv p => (p.read m off).map .pv
  | .agg l => match m with
    | none => l[off]?
    | some n => if off + n ≤ l.length then some (mkAgg ((l.drop off).take n)) else none
  | v => match m with
    | none => if off = 0 then some v else none
    | some _ => none
/-- l with xs from off on -/
def spliceAt {α : Type} (l : List α) (off : Nat) (xs : List α) : List α := l.take off ++ xs ++ l.drop (off + xs.length)
def PV.one : PV → Bool
  | .agg _ | .tup _ => false
  | _ => true
def PV.okc : PV → Bool
  | .tup _ => false
  | _ => true
def AV.one : AV → Bool
  | .pv p => p.one
  | .agg _ | .tup _ | .unk => false
  | _ => true
/-- one that may lie in memory -/
def AV.okc : AV → Bool
  | .pv p => p.okc
  | .tup _ | .unk => false
  | _ => true
def AV.isAgg : AV → Bool
  | .agg _ => true
  | .pv (.agg _) => true
  | _ => false
def AV.write (e : AV) (m : Option Nat) (off : Nat) (v : AV) : Option AV :=
  match m with
  | none =>
    if v.one = false then none else
    if e.isAgg then
      (if off < e.cells.length then
        (match e, v with
          | .pv (.agg l), .pv x => some (.pv (.agg (l.set off x)))
          | e, v => some (mkAgg (e.cells.set off v)))
       else none)
    else if off = 0 then some v else none
  | some n =>
    if v.isAgg && e.isAgg && decide (v.cells.length = n) && decide (off + n ≤ e.cells.length) then
      (match e, v with
        | .pv (.agg l), .pv (.agg x) => some (.pv (.agg (spliceAt l off x)))
        | e, v => some (mkAgg (spliceAt e.cells off v.cells)))
    else none

-- scalars
def binI (op : BinOp) (k : IntKind) (a b : Int) : Option PV :=
  match op with
  | .add => some (.int k (k.wrap (a + b)))
  | .sub => some (.int k (k.wrap (a - b)))
  | .mul => some (.int k (k.wrap (a * b)))
  | .quo => if b = 0 then none else some (.int k (k.wrap (a.tdiv b)))
  | .rem => if b = 0 then none else some (.int k (a.tmod b))
  | .and => some (.int k (k.wrap (BitVec.ofInt k.bits a &&& BitVec.ofInt k.bits b).toNat))
  | .or => some (.int k (k.wrap (BitVec.ofInt k.bits a ||| BitVec.ofInt k.bits b).toNat))
  | .xor => some (.int k (k.wrap (BitVec.ofInt k.bits a ^^^ BitVec.ofInt k.bits b).toNat))
  | .andNot => some (.int k (k.wrap (BitVec.ofInt k.bits a &&& ~~~ BitVec.ofInt k.bits b).toNat))
  | .eql => some (.bool (a == b))
  | .neq => some (.bool (a != b))
  | .lss => some (.bool (decide (a < b)))
  | .leq => some (.bool (decide (a ≤ b)))
  | .gtr => some (.bool (decide (a > b)))
  | .geq => some (.bool (decide (a ≥ b)))
  | _ => none
def shiftI (op : BinOp) (k : IntKind) (a b : Int) : Option PV :=
  if b < 0 then none else
  match op with
  | .shl => some (.int k (k.wrap (a * 2 ^ (min b.toNat k.bits))))
  | .shr => some (.int k (a.fdiv (2 ^ (min b.toNat k.bits))))
  | _ => none
def binS (op : BinOp) (a b : ByteArray) : Option PV :=
  match op with
  | .add => if a.size + b.size ≤ 9223372036854775807 then some (.str (a ++ b)) else none
  | .eql => some (.bool (a.toList == b.toList))
  | .neq => some (.bool !(a.toList == b.toList))
  | _ => none
def isShift : BinOp → Bool
  | .shl | .shr => true
  | _ => false
def binP (op : BinOp) (p q : PV) : Option PV :=
  match p, q with
  | .int k a, .int k' b => if isShift op then shiftI op k a b else if k = k' then binI op k a b else none
  | .str a, .str b => binS op a b
  | _, _ => none
def unP (op : UnOp) (p : PV) : Option PV :=
  match op, p with
  | .not, .bool b => some (.bool !b)
  | .neg, .int k n => some (.int k (k.wrap (0 - n)))
  | .xor, .int k n => binI .xor k (if k.signed then -1 else k.max) n
  | _, _ => none
/-- cell by cell; of numbers, texts and bools alone -/
def eqC : PV → PV → Option Bool
  | .int k a, .int k' b => if k = k' then some (a == b) else none
  | .str a, .str b => some (a == b)
  | .bool a, .bool b => some (a == b)
  | _, _ => none
def eqCs : List PV → List PV → Option Bool
  | [], [] => some true
  | a :: l, b :: m => match eqC a b with
    | some true => eqCs l m
    | some false => some false
    | none => none
  | _, _ => none

/-- a number for each kind -/
def PV.code : PV → Nat
  | .bool _ => 0
  | .int _ _ => 1
  | .str _ => 2
  | _ => 9

-- references
def good (H : Heap) (k len : Nat) : Option Blk :=
  match H[k]? with
  | some b => if b.es.length = len then some b else none
  | none => none
/-- the elements of a slice's value -/
def elems (H : Heap) (sz : Nat) : AV → Option (List AV)
  | .pv .nils => some []
  | .pv .e0 => some []
  | .pv (.lst s l) => if s = sz then some (l.map .pv) else none
  | .sl k len => match good H k len with
    | some b => if b.sz = sz then some b.es else none
    | none => none
  | _ => none
def lenOf (H : Heap) : AV → Option Nat
  | .pv .nils => some 0
  | .pv .e0 => some 0
  | .pv (.lst _ l) => some l.length
  | .sl k len => (good H k len).map fun _ => len
  | .asl k len _ _ cnt _ => (good H k len).map fun _ => cnt
  | _ => none
/-- n elements of esz cells each, from off on -/
def chop (esz : Nat) (off : Nat) (cs : List AV) : Nat → List AV
  | 0 => []
  | n + 1 => (if esz = 1 then cs.getD off .unk else mkAgg ((cs.drop off).take esz)) :: chop esz (off + esz) cs n
def toPV1 (H : Heap) : AV → Option PV
  | .pv p => some p
  | .sl k len => match good H k len with
    | some b => if 0 < b.sz then (pvs b.es).map (.lst b.sz ·) else none
    | none => none
  | .fn n [] => some (.fn n)
  | _ => none
def toPVl (H : Heap) : List AV → Option (List PV)
  | [] => some []
  | a :: l => match toPV1 H a, toPVl H l with
    | some p, some ps => some (p :: ps)
    | _, _ => none
def toPV (H : Heap) : AV → Option PV
  | .agg l => (toPVl H l).map .agg
  | a => toPV1 H a
def toPVs (H : Heap) : List AV → Option (List PV)
  | [] => some []
  | a :: l => match toPV H a, toPVs H l with
    | some p, some ps => some (p :: ps)
    | _, _ => none
/-- a result: what it leads to is laid open -/
def outPV (H : Heap) : AV → Option PV
  | .tup l => (toPVs H l).map .tup
  | a => toPV H a
/-- no list in it -/
def PV.flat : PV → Bool
  | .bool _ | .int _ _ | .str _ => true
  | _ => false
def PV.flats : PV → Bool
  | .tup l => l.all PV.flat
  | .agg l => l.all PV.flat
  | p => p.flat

/-- An argument as one that is only read: a slice as its list, a pointer as one into a row that is never written. -/
def blind : AV → PV
  | .pv p => p
  | _ => .unk
def chopP (esz off : Nat) (l : List PV) (cnt : Nat) : List PV :=
  (List.range cnt).map fun j => if esz = 1 then l.getD (off + j) .nilp else .agg ((l.drop (off + j * esz)).take esz)
def toArg1 (H : Heap) : AV → Option AV
  | .pv p => some (.pv p)
  | .rp p off => some (.rp p off)
  | .sl k len => match good H k len with
    | some b => if 0 < b.sz then (pvs b.es).map fun l => .pv (.lst b.sz l) else none
    | none => none
  | .ptr k len i off => match good H k len with
    | some b => match b.es[i]? with
      | some (.pv p) => some (.rp p off)
      | some (.agg l) => some (.rp (.agg (l.map blind)) off)
      | _ => none
    | none => none
  | .asl k len i off cnt esz => match good H k len with
    | some b => match b.es[i]? with
      | some (.pv (.agg l)) => if 0 < esz ∧ off + cnt * esz ≤ l.length then some (.pv (.lst esz (chopP esz off l cnt))) else none
      | _ => none
    | none => none
  | _ => none
def toArgl (H : Heap) : List AV → Option (List AV)
  | [] => some []
  | a :: l => match toArg1 H a, toArgl H l with
    | some p, some ps => some (p :: ps)
    | _, _ => none
def toArg (H : Heap) : AV → Option AV
  | .agg l => match toArgl H l with
    | some as => (pvs as).map fun ps => .pv (.agg ps)
    | none => none
  | .fn n l => (toArgl H l).map (.fn n)
  | a => toArg1 H a
def toArgs (H : Heap) : List AV → Option (List AV)
  | [] => some []
  | a :: l => match toArg H a, toArgs H l with
    | some p, some ps => some (p :: ps)
    | _, _ => none
-- the blocks that an argument refers to
def refs : AV → List Nat
  | .ptr k _ _ _ => [k]
  | .sl k _ => [k]
  | .asl k _ _ _ _ _ => [k]
  | _ => []
def refsA : AV → List Nat
  | .agg l => l.flatMap refs
  | .fn _ l => l.flatMap refs
  | a => refs a

/-- Functions by number: p: of values that are only read (fl: what comes of it has no references), i: any. -/
structure Ext where
  p : Nat → Option (List AV → Option PV)
  fl : Nat → Bool
  i : Nat → Option (List AV → Heap → Option (AV × Heap))

/-- What becomes of the heap. -/
inductive Eff where
  | none
  | push (b : Blk)
  | put (k : Nat) (b : Blk)
  | heap (H : Heap)
  | frz (ks : List Nat)
def frzB (ks : List Nat) (k : Nat) (b : Blk) : Blk := if ks.contains k then { b with fz := true } else b
def Eff.onF (e : Eff) (k0 : Nat) (hf : Nat → Option Blk) : Nat → Option Blk :=
  match e with
  | .none => hf
  | .push b => fun k => if k = k0 then some b else hf k
  | .put k1 b => fun k => if k = k1 then (hf k1).map fun _ => b else hf k
  | .heap H' => fun k => H'[k]?
  | .frz ks => fun k => (hf k).map (frzB ks k)
def Eff.on (e : Eff) (H : Heap) : Heap :=
  match e with
  | .none => H
  | .push b => H ++ [b]
  | .put k b => H.set k b
  | .heap H' => H'
  | .frz ks => H.mapIdx (frzB ks)

def callSem (ext : Ext) (n : Nat) (args : List AV) (H : Heap) : Option (AV × Eff) :=
  match ext.p n with
  | some g =>
    match pvs args with
    | some _ => (g args).map fun r => (.pv r, .none)
    | none => match toArgs H args with
      | some as => match g as with
        | some r => if ext.fl n then (if r.flats then some (.pv r, .none) else none) else some (.pv r, .frz (args.flatMap refsA))
        | none => none
      | none => none
  | none => match ext.i n with
    | some g => match g args H with
      | some (v, H') => if H.length ≤ H'.length then some (v, .heap H') else none
      | none => none
    | none => none

def asNat (n : Int) : Option Nat := if 0 ≤ n then some n.toNat else none

def boundOf (T : Slots) (x : Option SX) (dflt : Nat) : Option Nat :=
  match x with
  | none => some dflt
  | some y => match y.ev T with
    | .pv (.int _ i) => asNat i
    | _ => none
def maxBytes : Nat := 140737488355328

def fillParts : List AV → List (Nat × Nat × AV) → Option (List AV)
  | cs, [] => some cs
  | cs, (off, size, v) :: l => if v.okc = true ∧ v.cells.length = size ∧ off + size ≤ cs.length then fillParts (spliceAt cs off v.cells) l else none

def PV.isKey (str : Bool) : PV → Bool
  | .int _ _ => !str
  | .str _ => str
  | _ => false
def findKey : PV → List PV → List PV → Option (Option PV)
  | _, [], [] => some none
  | k, a :: ks, v :: vs => match eqC k a with
    | some true => some (some v)
    | some false => findKey k ks vs
    | none => none
  | _, _, _ => none

def byteOf : AV → Option UInt8
  | .pv (.int .u8 n) => if 0 ≤ n ∧ n < 256 then some (UInt8.ofNat n.toNat) else none
  | _ => none
def bytesOf : List AV → Option (List UInt8)
  | [] => some []
  | a :: l => match byteOf a, bytesOf l with
    | some b, some bs => some (b :: bs)
    | _, _ => none

/-- One operation. -/
def step (ext : Ext) (T : Slots) (H : Heap) : SO → Option (AV × Eff)
  | .move x => some (x.ev T, .none)
  | .pick c a b => match c.ev T with
    | .pv (.bool t) => some (if t then a.ev T else b.ev T, .none)
    | _ => none
  | .alloc sz z => some (.ptr H.length 1 0 0, .push ⟨sz, [.pv z], false⟩)
  | .box sz x => if (x.ev T).okc = true ∧ (x.ev T).cells.length = sz then some (.ptr H.length 1 0 0, .push ⟨sz, [x.ev T], false⟩) else none
  | .build z parts => (fillParts (z.map .pv) (parts.map fun (o, s, x) => (o, s, x.ev T))).map fun cs => (mkAgg cs, .none)
  | .mkrow sz xs => if xs.isEmpty then some (.pv .e0, .none) else
    if xs.all fun x => (x.ev T).okc && decide ((x.ev T).cells.length = sz) then some (.sl H.length xs.length, .push ⟨sz, xs.map (·.ev T), false⟩) else none
  | .load m x => match x.ev T with
    | .ptr k len i off => match good H k len with
      | some b => match b.es[i]? with
        | some e => (e.read m off).map (·, Eff.none)
        | none => none
      | none => none
    | .rp p off => (p.read m off).map fun r => (.pv r, .none)
    | _ => none
  | .store m a x => match a.ev T with
    | .ptr k len i off => match good H k len with
      | some b => if b.fz then none else match b.es[i]? with
        | some e => (e.write m off (x.ev T)).map fun e' => (.pv .undef, .put k { b with es := b.es.set i e' })
        | none => none
      | none => none
    | _ => none
  | .nilck x => match x.ev T with
    | .ptr k len i off => (good H k len).map fun _ => (.ptr k len i off, .none)
    | .rp p off => some (.rp p off, .none)
    | _ => none
  | .bin op x y => match x.ev T, y.ev T with
    | .pv p, .pv q => (binP op p q).map fun r => (.pv r, .none)
    | _, _ => none
  | .eqA neg ks x y => match x.ev T, y.ev T with
    | .pv (.agg l), .pv (.agg m) => if l.map PV.code = ks ∧ m.map PV.code = ks then (eqCs l m).map fun b => (.pv (.bool (if neg then !b else b)), .none) else none
    | _, _ => none
  | .isNil neg x => match x.ev T with
    | .pv .nils => some (.pv (.bool !neg), .none)
    | .pv (.lst _ l) => if l.isEmpty then none else some (.pv (.bool neg), .none)
    | .sl k len => (good H k len).map fun _ => (.pv (.bool neg), .none)
    | _ => none
  | .isNilP neg x => match x.ev T with
    | .pv .nilp => some (.pv (.bool !neg), .none)
    | .ptr k len _ _ => (good H k len).map fun _ => (.pv (.bool neg), .none)
    | _ => none
  | .eqB neg x y => match x.ev T, y.ev T with
    | .pv (.bool a), .pv (.bool b) => some (.pv (.bool (if neg then !(a == b) else a == b)), .none)
    | _, _ => none
  | .un op x => match x.ev T with
    | .pv p => (unP op p).map fun r => (.pv r, .none)
    | _ => none
  | .conv k x => match x.ev T with
    | .pv (.int _ n) => some (.pv (.int k (k.wrap n)), .none)
    | _ => none
  | .convSB x => match elems H 1 (x.ev T) with
    | some es => (bytesOf es).map fun l => (.pv (.str ⟨l.toArray⟩), .none)
    | none => none
  | .convBS x => match x.ev T with
    | .pv (.str s) => some (.pv (.lst 1 (s.data.toList.map fun b => .int .u8 b.toNat)), .none)
    | _ => none
  | .mkfn n caps => some (match caps with | [] => .pv (.fn n) | _ => .fn n (caps.map (·.ev T)), .none)
  | .mkslice sz z bytes l c => match l.ev T, c.ev T with
    | .pv (.int _ l), .pv (.int _ c) =>
      if 0 ≤ l ∧ l ≤ c ∧ c.toNat * bytes ≤ maxBytes ∧ c ≤ 9223372036854775807 then some (.sl H.length l.toNat, .push ⟨sz, List.replicate l.toNat (.pv z), false⟩) else none
    | _, _ => none
  | .sliceA cnt esz x => match x.ev T with
    | .ptr k len i off => (good H k len).map fun _ => (.asl k len i off cnt esz, .none)
    | _ => none
  | .slice esz x lo hi => match lenOf H (x.ev T) with
    | none => none
    | some n => match boundOf T lo 0, boundOf T hi n with
      | some l, some h => if l ≤ h ∧ h ≤ n then
          (match x.ev T with
            | .pv (.lst sz es) => if sz = esz then some (.pv (.lst sz ((es.take h).drop l)), .none) else none
            | .pv .nils => some (.pv .nils, .none)
            | .pv .e0 => some (.pv .e0, .none)
            | _ => none) else none
      | _, _ => none
  | .sliceStr x lo hi => match x.ev T with
    | .pv (.str s) => match boundOf T lo 0, boundOf T hi s.size with
      | some l, some h => if l ≤ h ∧ h ≤ s.size then some (.pv (.str (s.extract l h)), .none) else none
      | _, _ => none
    | _ => none
  | .lenStr x => match x.ev T with
    | .pv (.str s) => some (.pv (.int .i64 s.size), .none)
    | _ => none
  | .fld off x => match x.ev T with
    | .ptr k len i o => (good H k len).map fun _ => (.ptr k len i (o + off), .none)
    | .rp p o => some (.rp p (o + off), .none)
    | _ => none
  | .idxA cnt esz x i => match x.ev T, i.ev T with
    | .ptr k len j o, .pv (.int _ i) => match good H k len with
      | some _ => if 0 ≤ i ∧ i < cnt then some (.ptr k len j (o + i.toNat * esz), .none) else none
      | none => none
    | .rp p o, .pv (.int _ i) => if 0 ≤ i ∧ i < cnt then some (.rp p (o + i.toNat * esz), .none) else none
    | _, _ => none
  | .idxS esz x i => match x.ev T, i.ev T with
    | .sl k len, .pv (.int _ i) => match good H k len with
      | some b => if 0 ≤ i ∧ i < len ∧ b.sz = esz then some (.ptr k len i.toNat 0, .none) else none
      | none => none
    | .asl k len j off cnt e, .pv (.int _ i) => match good H k len with
      | some _ => if 0 ≤ i ∧ i < cnt ∧ e = esz then some (.ptr k len j (off + i.toNat * esz), .none) else none
      | none => none
    | .pv (.lst sz l), .pv (.int _ i) => if 0 ≤ i ∧ sz = esz then (l[i.toNat]?).map fun e => (.rp e 0, .none) else none
    | _, _ => none
  | .field off m x => if (x.ev T).isAgg then ((x.ev T).read m off).map (·, Eff.none) else none
  | .index cnt esz m x i => match i.ev T with
    | .pv (.int _ i) => if 0 ≤ i ∧ i < cnt ∧ (x.ev T).isAgg = true then ((x.ev T).read m (i.toNat * esz)).map (·, Eff.none) else none
    | _ => none
  | .indexStr x i => match x.ev T, i.ev T with
    | .pv (.str s), .pv (.int _ i) => if 0 ≤ i then (s.data[i.toNat]?).map fun b => (.pv (.int .u8 b.toNat), .none) else none
    | _, _ => none
  | .extract i x => match x.ev T with
    | .pv (.tup l) => (l[i]?).map fun p => (.pv p, .none)
    | .tup l => (l[i]?).map (·, Eff.none)
    | _ => none
  | .len x => (lenOf H (x.ev T)).map fun (n : Nat) => (AV.pv (.int .i64 (n : Int)), Eff.none)
  | .append sz bytes x y => match elems H sz (y.ev T) with
    | none => none
    | some ys => match x.ev T with
      | .sl k len => match good H k len with
        | some b =>
          if b.sz = sz ∧ b.fz = false ∧ (len + ys.length) * bytes ≤ maxBytes ∧ 0 < sz ∧ len + ys.length ≤ 9223372036854775807 then some (.sl k (len + ys.length), .put k { b with es := b.es ++ ys }) else none
        | none => none
      | .pv .nils => if ys.isEmpty then (if 0 < sz then some (.pv .nils, .none) else none) else
          if ys.length * bytes ≤ maxBytes ∧ 0 < sz ∧ ys.length ≤ 9223372036854775807 then some (.sl H.length ys.length, .push ⟨sz, ys, false⟩) else none
      | .pv .e0 => if ys.isEmpty then none else
          if ys.length * bytes ≤ maxBytes ∧ 0 < sz ∧ ys.length ≤ 9223372036854775807 then some (.sl H.length ys.length, .push ⟨sz, ys, false⟩) else none
      | _ => none
  | .copy sz x y => match x.ev T, elems H sz (y.ev T) with
    | .sl k len, some ys => match good H k len with
      | some b => if b.sz = sz ∧ b.fz = false then
          some (.pv (.int .i64 (min ys.length len : Nat)), .put k { b with es := ys.take len ++ b.es.drop ys.length }) else none
      | none => none
    | .asl k len i off cnt esz, some ys => match good H k len with
      | some b => if esz = 1 ∧ sz = 1 ∧ b.fz = false then
          (match b.es[i]? with
            | some e => if off + cnt ≤ e.cells.length ∧ e.isAgg = true ∧ ys.all AV.one = true then
                some (.pv (.int .i64 (min ys.length cnt : Nat)), .put k { b with es := b.es.set i (mkAgg (spliceAt e.cells off (ys.take cnt))) }) else none
            | none => none) else none
      | none => none
    | _, _ => none
  | .mn x y => match x.ev T, y.ev T with
    | .pv (.int k a), .pv (.int k' b) => if k = k' then some (.pv (.int k (if b < a then b else a)), .none) else none
    | _, _ => none
  | .mx x y => match x.ev T, y.ev T with
    | .pv (.int k a), .pv (.int k' b) => if k = k' then some (.pv (.int k (if b > a then b else a)), .none) else none
    | _, _ => none
  | .lookup z ok str x k => match x.ev T, k.ev T with
    | .pv (.mp ks vs), .pv k => if k.isKey str then match findKey k ks vs with
      | some r => some (.pv (if ok then .tup [r.getD z, .bool r.isSome] else r.getD z), .none)
      | none => none
      else none
    | _, _ => none
  | .call f xs => callSem ext f (xs.map (·.ev T)) H
  | .callv f xs => match f.ev T with
    | .pv (.fn n) => callSem ext n (xs.map (·.ev T)) H
    | .fn n caps => callSem ext n (xs.map (·.ev T) ++ caps) H
    | _ => none

/-- Is the operation carried out? -/
def wants (T : Slots) (g : Option (Nat × Bool)) : Bool :=
  match g with
  | none => true
  | some (t, b) => match T.get t with
    | .pv (.bool c) => c == b
    | _ => false
/-- Is it known whether? -/
def known (T : Slots) (g : Option (Nat × Bool)) : Bool :=
  match g with
  | none => true
  | some (t, _) => match T.get t with
    | .pv (.bool _) => true
    | .pv (.tup []) => true
    | _ => false

def step1 (ext : Ext) (o : SP) (T : Slots) (H : Heap) : Option (Slots × Heap) :=
  if known T o.g then
    if wants T o.g then (step ext T H o.op).map fun (v, e) => (T.put o.dst v, e.on H)
    else some (T.put o.dst (.pv .undef), H)
  else none

def steps (ext : Ext) : List SP → Slots → Heap → Option (Slots × Heap)
  | [], T, H => some (T, H)
  | o :: l, T, H => match step1 ext o T H with
    | some (T', H') => steps ext l T' H'
    | none => none

-- what an operation touches of blocks that are there: which it reads, which it writes; none: anything
def touchC (ext : Ext) (n : Nat) (args : List AV) : Option (List Nat × List Nat) :=
  if (ext.p n).isSome then some (if (pvs args).isSome then ([], []) else (args.flatMap refsA, if ext.fl n then [] else args.flatMap refsA)) else none
def touch (ext : Ext) (T : Slots) : SO → Option (List Nat × List Nat)
  | .load _ x | .isNil _ x | .isNilP _ x | .convSB x | .len x | .nilck x | .fld _ x | .idxA _ _ x _ => some (refs (x.ev T), [])
  | .slice _ x _ _ | .sliceA _ _ x => some (refs (x.ev T), [])
  | .idxS _ x _ => some (refs (x.ev T), [])
  | .store _ a _ => some ([], refs (a.ev T))
  | .append _ _ x y => some (refs (y.ev T), refs (x.ev T))
  | .copy _ x y => some (refs (y.ev T), refs (x.ev T))
  | .call f xs => touchC ext f (xs.map (·.ev T))
  | .callv f xs => match f.ev T with
    | .pv (.fn n) => touchC ext n (xs.map (·.ev T))
    | .fn n caps => touchC ext n (xs.map (·.ev T) ++ caps)
    | _ => none
  | _ => some ([], [])
def apart (a b : Option (List Nat × List Nat)) : Bool :=
  match a, b with
  | some (r, w), some (r', w') => w.all (fun k => !(r'.contains k || w'.contains k)) && r.all (fun k => !w'.contains k)
  | _, _ => false
/-- what each operation of a list touches, in the text's order -/
def touches (ext : Ext) : List SP → Slots → Heap → List (Option (List Nat × List Nat))
  | [], _, _ => []
  | o :: l, T, H => (if wants T o.g then touch ext T o.op else some ([], [])) :: (match step1 ext o T H with
    | some (T', H') => touches ext l T' H'
    | none => [])
def freeOk (tt : List (Option (List Nat × List Nat))) (free : List (Nat × Nat)) : Bool :=
  free.all fun (i, j) => apart (tt.getD i none) (tt.getD j none)

inductive SE where
  | normal
  | exit (id : Nat)
  | ret
  deriving DecidableEq

-- a loop
inductive LoopR {σ ρ : Type} (f : σ → Option (σ ⊕ ρ)) : σ → ρ → Prop
  | done {s : σ} {r : ρ} (h : f s = some (.inr r)) : LoopR f s r
  | next {s s' : σ} {r : ρ} (h : f s = some (.inl s')) (k : LoopR f s' r) : LoopR f s r
open Classical in
noncomputable def loopRun {σ ρ : Type} (f : σ → Option (σ ⊕ ρ)) (s : σ) : Option ρ :=
  if h : ∃ r, LoopR f s r then some h.choose else none
theorem LoopR.det {σ ρ : Type} {f : σ → Option (σ ⊕ ρ)} {s : σ} {r r' : ρ} (h : LoopR f s r) (h' : LoopR f s r') : r = r' := by
  induction h with
  | done e => cases h' with
    | done e' => rw [e] at e'; injection e' with e'; injection e'
    | next e' _ => rw [e] at e'; injection e' with e'; cases e'
  | next e _ ih => cases h' with
    | done e' => rw [e] at e'; injection e' with e'; cases e'
    | next e' k' => rw [e] at e'; injection e' with e'; injection e' with e'; subst e'; exact ih k'
theorem loopRun_iff {σ ρ : Type} {f : σ → Option (σ ⊕ ρ)} {s : σ} {r : ρ} : loopRun f s = some r ↔ LoopR f s r := by
  unfold loopRun
  constructor
  · intro h
    split at h
    · rename_i hex; injection h with h; subst h; exact hex.choose_spec
    · cases h
  · intro h
    have hex : ∃ r, LoopR f s r := ⟨r, h⟩
    rw [dif_pos hex]
    exact congrArg some (hex.choose_spec.det h)
theorem loopRun_next {σ ρ : Type} {f : σ → Option (σ ⊕ ρ)} {s s' : σ} (h : f s = some (.inl s')) : loopRun f s = loopRun f s' := by
  cases e : loopRun f s' with
  | some r => exact loopRun_iff.2 (.next h (loopRun_iff.1 e))
  | none =>
    cases e' : loopRun f s with
    | none => rfl
    | some r =>
      cases loopRun_iff.1 e' with
      | done d => rw [h] at d; injection d with d; cases d
      | next d k => rw [h] at d; injection d with d; injection d with d; subst d; rw [loopRun_iff.2 k] at e; cases e
theorem loopRun_done {σ ρ : Type} {f : σ → Option (σ ⊕ ρ)} {s : σ} {r : ρ} (h : f s = some (.inr r)) : loopRun f s = some r :=
  loopRun_iff.2 (.done h)

/-- The code. -/
noncomputable def den (ext : Ext) : SC → Slots → Heap → Option (SE × Slots × Heap)
  | .skip, T, H => some (.normal, T, H)
  | .ret, T, H => some (.ret, T, H)
  | .exit id, T, H => some (.exit id, T, H)
  | .seq a b, T, H => match den ext a T H with
    | some (.normal, T', H') => den ext b T' H'
    | r => r
  | .cond x a b, T, H => match x.ev T with
    | .pv (.bool t) => bif t then den ext a T H else den ext b T H
    | _ => none
  | .block id b, T, H => match den ext b T H with
    | some (.exit i, T', H') => some (if i = id then .normal else .exit i, T', H')
    | r => r
  | .loop live b, T, H =>
    match loopRun (fun (s : List AV × Heap) => match den ext b (live.zip s.1) s.2 with
      | some (.normal, T', H') => some (.inl (live.map T'.get, H'))
      | some (e, T', H') => some (.inr (e, live.map T'.get, H'))
      | none => none) (live.map T.get, H) with
    | some (e, vs, H') => some (e, live.zip vs, H')
    | none => none
  | .region l, T, H => (steps ext l T H).map fun (T', H') => (.normal, T', H')
  | .draw l free, T, H => if freeOk (touches ext l T H) free then (steps ext l T H).map fun (T', H') => (.normal, T', H') else none

def resOf (T : Slots) (H : Heap) : SR → Option AV
  | .tmp t => some (T.get t)
  | .cell t m => match T.get t with
    | .ptr k len i off => match good H k len with
      | some b => match b.es[i]? with
        | some e => e.read m off
        | none => none
      | none => none
    | _ => none
def resAll (T : Slots) (H : Heap) : List SR → Option (List AV)
  | [] => some []
  | r :: l => match resOf T H r, resAll T H l with
    | some a, some as => some (a :: as)
    | _, _ => none
def results (T : Slots) (H : Heap) (l : List SR) : Option AV :=
  match l with
  | [r] => resOf T H r
  | l => (resAll T H l).map mkTup
/-- A function called. -/
noncomputable def denF (ext : Ext) (f : SF) (args : List AV) (H : Heap) : Option (AV × Heap) :=
  if args.length ≠ f.params then none else
  match den ext f.body ((List.range f.params).zip args) H with
  | some (.normal, T, H') => (results T H' f.results).map (·, H')
  | some (.ret, T, H') => (results T H' f.results).map (·, H')
  | _ => none
/-- A function called with pure values: its memory is its own. -/
noncomputable def denP (ext : Ext) (f : SF) (args : List AV) : Option PV :=
  match denF ext f args [] with
  | some (v, H) => outPV H v
  | none => none
end Dk
