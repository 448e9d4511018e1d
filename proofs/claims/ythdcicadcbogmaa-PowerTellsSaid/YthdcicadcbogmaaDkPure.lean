/- What the program computes, in plain Lean: numbers, lists, texts. -/
set_option linter.all false
namespace Dk
structure Fr where
  (kind id : Int)
  deriving DecidableEq, Inhabited
structure Nd where
  (id mode cnt pos : Int)
  deriving DecidableEq, Inhabited
structure Hb where
  (ages : List Int) (port age hold pos : Int)
  deriving DecidableEq, Inhabited
structure Ft where
  (cls who : Int)
  deriving DecidableEq, Inhabited
structure Ch where
  (b0 b1 : ByteArray) (ports : List Int) (link : Int)
  deriving Inhabited
structure Wd where
  (n tick : Int) (flt : Ft) (power : List Int) (nodes : List Nd) (h0 h1 : Hb)
  deriving Inhabited
structure Lk where
  (tick : Int) (r0 r1 : Fr) (nodes : List Nd)
  deriving Inhabited
structure Sc where
  (n : Int) (power : List Int) (flt : Ft) (loaded : Bool) (nodes : List Nd) (h0 h1 : Hb) (ticks : List Ch)
  deriving Inhabited

-- conf, tally, ring
def confR (n : Int) : Bool := decide (3 ≤ n ∧ n ≤ 8)
def confT (k n : Int) : Int := if confR n then k * n else 0
def confO (k n i : Int) : Int × Int := if confR n then (if 0 ≤ i ∧ i < n then (k * n + i + 1, 0) else (0, 2)) else (0, 1)
def clamp (c lo hi : Int) : Int := if c < lo then lo else min c hi
def up (c most : Int) : Int := if max c 0 < most then max c 0 + 1 else most
def down (c : Int) : Int := max c 1 - 1
def modr (n x : Int) : Int := x % n
def nextr (n p : Int) : Int := if p = n - 1 then 0 else p + 1

-- fault
def ftMany (n c : Int) : Int := if c = 0 then 1 else if c = 1 then n else if c = 2 then 2 else 0
def ftR (n : Int) (f : Ft) : Bool := confR n && decide (0 ≤ f.who) && decide (f.who < ftMany n f.cls)
def ftClean (n : Int) (f : Ft) : Ft × Int := if confR n then (if ftR n f then (f, 0) else (⟨0, 0⟩, 0)) else (⟨0, 0⟩, 1)
def ftNode (f : Ft) (i : Int) : Bool := decide (f.cls = 1) && decide (f.who = i)
def ftHub (f : Ft) (i : Int) : Bool := decide (f.cls = 2) && decide (f.who = i)

-- power
def pwR (n : Int) (l : List Int) : Bool := confR n && decide ((l.length : Int) = n) && l.all fun t => decide (0 ≤ t) && decide (t ≤ 2000)
def pwClean (n : Int) (l : List Int) : List Int × Int := if confR n then ((List.range n.toNat).map fun i => clamp (l.getD i 0) 0 2000, 0) else ([], 1)
def pwOn (l : List Int) (i now : Int) : Bool := decide (0 ≤ i) && decide (i < l.length) && decide (l.getD i.toNat 0 ≤ now)
def pwSince (l : List Int) (i now : Int) : Int := if pwOn l i now then now - l.getD i.toNat 0 else -1

-- node
def ndR (n : Int) (x : Nd) : Bool :=
  confR n && decide (0 ≤ x.id) && decide (x.id < n) && decide (0 ≤ x.cnt) && decide (x.cnt ≤ 1073741824) &&
  (if x.mode = 0 then decide (x.cnt = 0) && decide (x.pos = 0) else if x.mode = 1 ∨ x.mode = 2 then decide (x.pos = 0) else if x.mode = 3 then decide (0 ≤ x.pos) && decide (x.pos < n) else false)
def ndFresh (n id : Int) : Nd × Int := if confR n then (if 0 ≤ id ∧ id < n then (⟨id, 0, 0, 0⟩, 0) else (⟨0, 0, 0, 0⟩, 2)) else (⟨0, 0, 0, 0⟩, 1)
def ndClean (n id : Int) (x : Nd) : Nd × Int :=
  if (ndFresh n id).2 = 0 then
    (⟨id, if x.mode = 3 ∨ x.mode = 2 then x.mode else 1, clamp x.cnt 0 1073741824, if x.mode = 3 then modr n x.pos else 0⟩, 0)
  else (⟨0, 0, 0, 0⟩, (ndFresh n id).2)
def ndWake (x : Nd) : Nd := ⟨x.id, 1, 0, 0⟩

-- wire, hear: what frames are
def frR (f : Fr) : Bool := (decide (f.kind = 1) || decide (f.kind = 2)) && decide (0 ≤ f.id) && decide (f.id < 8)
def fr0 : Fr := ⟨0, 0⟩
def hInfo (a b : Fr) : Int × Bool := if a.kind = 2 then (a.id, true) else if b.kind = 2 then (b.id, true) else (0, false)
def hOther (a b : Fr) (id : Int) : Int × Bool := if a.kind = 1 ∧ a.id ≠ id then (a.id, true) else if b.kind = 1 ∧ b.id ≠ id then (b.id, true) else (0, false)
def hWrong (a b : Fr) (pos : Int) : Bool := (decide (a.kind = 2) && decide (a.id ≠ pos)) || (decide (b.kind = 2) && decide (b.id ≠ pos))
def hMatch (a b : Fr) (pos : Int) : Bool := (decide (a.kind = 2) && decide (a.id = pos)) || (decide (b.kind = 2) && decide (b.id = pos))

-- say, act
def sayWait (n : Int) (x : Nd) : Int := if x.mode = 1 then 4 * n + x.id + 1 else 2 * n + x.id + 1
def sayOf (n : Int) (x : Nd) : Fr × Int :=
  if ndR n x then
    (if x.mode = 3 ∧ x.pos = x.id then (⟨2, x.id⟩, 0) else if (x.mode = 1 ∨ x.mode = 2) ∧ sayWait n x ≤ x.cnt then (⟨1, x.id⟩, 0) else (fr0, 0))
  else (fr0, 1)
def ndTo (x : Nd) (mode pos : Int) : Nd := ⟨x.id, mode, 0, pos⟩
def ndUp (x : Nd) : Nd := ⟨x.id, x.mode, up x.cnt 1073741824, x.pos⟩
def actActive (n : Int) (x : Nd) (a b : Fr) : Nd :=
  if hWrong a b x.pos then ndTo x 1 0 else
  if (hOther a b x.id).2 then ndTo x 2 0 else
  let c := if hMatch a b x.pos then 0 else up x.cnt 1073741824
  if 8 * n ≤ c then ndTo x 1 0 else ⟨x.id, x.mode, c, nextr n x.pos⟩
def actStep (n : Int) (x : Nd) (a b : Fr) : Nd × Int :=
  if ndR n x = true ∧ x.mode ≠ 0 then
    (if x.mode = 3 then (actActive n x a b, 0) else
     if (hInfo a b).2 then (ndTo x 3 (nextr n (hInfo a b).1), 0) else
     if x.mode = 2 ∧ (hOther a b x.id).2 = true then (ndTo x 3 (nextr n (hOther a b x.id).1), 0) else
     if (sayOf n x).1.kind = 1 ∨ (hOther a b x.id).2 = true then (ndTo x 2 0, 0) else (ndUp x, 0))
  else (⟨0, 0, 0, 0⟩, 1)

-- vote
def agesMap (n : Int) (f : Int → Int → Int) (l : List Int) : List Int := l.mapIdx fun p x => f x (if (p : Int) < n then n else 0)
def hbClean (n : Int) (h : Hb) : Hb := ⟨agesMap n (fun x m => clamp x 0 m) h.ages, modr n h.port, clamp h.age 0 (2 * n + 1), clamp h.hold 0 (2 * n), modr n h.pos⟩
def hb0 : Hb := ⟨[0, 0, 0, 0, 0, 0, 0, 0], 0, 0, 0, 0⟩
def hbCleanE (n : Int) (h : Hb) : Hb × Int := if confR n then (hbClean n h, 0) else (hb0, 1)
def hbR (n : Int) (h : Hb) : Bool := confR n && decide (hbClean n h = h)
def hbFresh (n : Int) : Hb := ⟨agesMap n (fun _ m => m) hb0.ages, 0, 2 * n + 1, 0, 0⟩
def hbFreshE (n : Int) : Hb × Int := if confR n then (hbFresh n, 0) else (hb0, 1)
def hbTick (n : Int) (h : Hb) : Hb := ⟨agesMap n (fun x m => up x m) h.ages, h.port, up h.age (2 * n + 1), down h.hold, nextr n h.pos⟩
def hbTickE (n : Int) (h : Hb) : Hb × Int := if hbR n h then (hbTick n h, 0) else (hb0, 1)
/-- For which slot a port votes that said an Info, and for which by its Cs. -/
def vInfo (n : Int) (h : Hb) (p : Nat) : Int := if h.ages.getD p 0 < n then (p + h.ages.getD p 0) % n else -1
def vCs (n : Int) (h : Hb) (p : Nat) : Int := if (p : Int) = h.port ∧ h.age < 2 * n then (p + h.age) % n else -1
def hbVotes (n : Int) (h : Hb) (v : Int) : Int := ((List.range n.toNat).countP fun p => decide (vInfo n h p = v) || decide (vCs n h p = v) : Nat)
end Dk
