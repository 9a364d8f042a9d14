/- A deterministic evaluator of the model's Code over abstract values: what a function computes, with no order of a statement, no capacity of an array and no address left open. Second version: trees for what is looked up often, and tests by numbers. -/
import Derived.AtR
set_option linter.all false
namespace Go.Ab

/-- Immutable data in a cell. -/
inductive D where
  | leaf (v : Value)
  | lit (len : Nat) (cells : List D)
  | fn (f : FuncId) (caps : List D)
  | ptr (cells : List D)
  deriving Inhabited

/-- Abstract values. -/
inductive AV where
  | d (x : D)
  | ptr (b off : Nat)
  | sl (b off len esz : Nat) (cap : Option Nat)
  | fn (f : FuncId) (caps : List AV)
  | yield (b : Nat)
  | map (b : Nat)
  | agg (cells : List AV)
  | tup (vs : List AV)
  deriving Inhabited

def leaf (v : Value) : AV := .d (.leaf v)
def int (n : Int) : AV := leaf (.int .i64 n)
def bool (b : Bool) : AV := leaf (.bool b)
def undefA : AV := leaf undef

-- ---------------------------------------------------------------- trees
/-- A tree of slots: the even ones left, the odd ones right. -/
inductive T (α : Type) where
  | nil
  | one (v : α)
  | node (l r : T α)

namespace T
variable {α : Type}
def get : T α → Nat → Option α
  | .nil, _ => none
  | .one v, i => Bool.casesOn (Nat.beq i 0) none (some v)
  | .node l r, i => Bool.casesOn (Nat.beq (Nat.mod i 2) 0) (r.get (Nat.div i 2)) (l.get (Nat.div i 2))
def set : T α → Nat → α → T α
  | .nil, _, _ => .nil
  | .one w, i, v => Bool.casesOn (Nat.beq i 0) (.one w) (.one v)
  | .node l r, i, v => Bool.casesOn (Nat.beq (Nat.mod i 2) 0) (.node l (r.set (Nat.div i 2) v)) (.node (l.set (Nat.div i 2) v) r)
/-- All 2^d slots. -/
def full (v : α) : Nat → T α
  | 0 => .one v
  | d + 1 => let x := full v d; .node x x
/-- The first n of 2^d slots. -/
def mk (v : α) : Nat → Nat → T α
  | 0, n => Bool.casesOn (Nat.beq n 0) (.one v) .nil
  | d + 1, n => .node (mk v d (Nat.div (Nat.succ n) 2)) (mk v d (Nat.div n 2))
def map {β : Type} (f : α → β) : T α → T β
  | .nil => .nil
  | .one v => .one (f v)
  | .node l r => .node (l.map f) (r.map f)
end T

/-- Temporaries. -/
abbrev Tm := T AV

namespace Tm
def get (x : Tm) (i : Nat) : AV := match T.get x i with
  | some v => v
  | none => undefA
def sets (x : Tm) : Nat → List AV → Tm
  | _, [] => x
  | i, v :: vs => Tm.sets (T.set x i v) (Nat.succ i) vs
/-- n temporaries, of which the first are given. -/
def mk0 (n : Nat) (args : List AV) : Tm := Tm.sets (T.mk undefA (Nat.succ (Nat.log2 n)) n) 0 args
end Tm

/-- Blocks of the abstract memory. Of cells the first m are immutable. -/
inductive Blk where
  | dead
  | cells (m : Nat) (cs : List AV)
  | map (es : List (AV × AV))
  | loop (f : FuncId) (tmps : Tm) (params : List Tmp) (asg body : Code) (st : LoopState) (pending : Option Code)
  | iter (s : ByteArray) (pos : Nat)
  /-- A map's iterator: the map, how many entries it had, the entries that were met (the last one first), how many there were then. -/
  | miter (mb since : Nat) (seen : List Nat) (last : Nat)
  deriving Inhabited

def nth {α : Type} : List α → Nat → Option α
  | [], _ => none
  | a :: l, n => match n with
    | 0 => some a
    | n + 1 => nth l n

def setNth {α : Type} (f : α → α) : List α → Nat → List α
  | [], _ => []
  | a :: l, n => match n with
    | 0 => f a :: l
    | n + 1 => a :: setNth f l n

/-- n blocks, in trees of 64 slots. -/
structure Heap where
  n : Nat
  cs : List (T Blk)

namespace Heap
def raw (H : Heap) (b : Nat) : Option Blk := match nth H.cs (Nat.div b 64) with
  | some t => t.get (Nat.mod b 64)
  | none => none
def get (H : Heap) (b : Nat) : Blk := Bool.casesOn (Nat.ble H.n b) (match H.raw b with
  | some x => x
  | none => .dead) .dead
def set (H : Heap) (b : Nat) (x : Blk) : Heap := Bool.casesOn (Nat.ble H.n b) ⟨H.n, setNth (fun t => t.set (Nat.mod b 64) x) H.cs (Nat.div b 64)⟩ H
/-- Room for one block more. -/
def grow (H : Heap) : Heap := Bool.casesOn (Nat.beq (Nat.mod H.n 64) 0) ⟨Nat.succ H.n, H.cs⟩ ⟨Nat.succ H.n, H.cs ++ [T.full .dead 6]⟩
def reserve (H : Heap) : Nat → Heap
  | 0 => H
  | k + 1 => reserve H.grow k
def push (H : Heap) (x : Blk) : Heap := H.grow.set H.n x
def empty : Heap := ⟨0, []⟩
end Heap

structure TI where
  agg : Bool
  size : Nat
  bytes : Nat
  zero : List Value
  za : List AV
  desc : TypeDesc
  places : List (Nat × Nat)

/-- Kinds of cells that are held against one another at sight. -/
inductive LK where
  | int | str | bool
  deriving DecidableEq

structure Env where
  ty : TypeId → Option TI
  fn : FuncId → Option Func
  hook : FuncId → Option (List AV → Option AV)
  keep : FuncId → Bool
  share : FuncId → Bool
  shook : FuncId → Option (List AV → Heap → Option (AV × Heap))
  glob : Nat → Option (List D)
  flat : TypeId → Option (List LK)
  flatKey : TypeId → Bool

structure St where
  t : Tm
  H : Heap

inductive Ex where
  | normal
  | exit (id : Nat)
  | ret

def Ex.jump : Ex → Option Code
  | .normal => none
  | .exit id => some (.exit id)
  | .ret => some .ret

def AV.cells : AV → List AV
  | .agg cs => cs
  | v => [v]

def oneCell : Value → Bool
  | .agg _ | .tuple _ => false
  | _ => true

def AV.isCell : AV → Bool
  | .agg _ | .tup _ => false
  | .d (.leaf v) => oneCell v
  | _ => true

def allCells : List AV → Bool
  | [] => true
  | c :: cs => match c.isCell with
    | true => allCells cs
    | false => false

def AV.isD : AV → Bool
  | .d _ => true
  | _ => false

def allIsD : List AV → Bool
  | [] => true
  | .d _ :: cs => allIsD cs
  | _ :: _ => false

def AV.pure : AV → Bool
  | .d _ => true
  | .agg cs => allIsD cs
  | _ => false

def allPure : List AV → Bool
  | [] => true
  | c :: cs => match c.pure with
    | true => allPure cs
    | false => false

def ofConst : Value → AV
  | .agg cs => .agg (cs.toList.map leaf)
  | v => leaf v

def ofCells (agg : Bool) (cs : List AV) : Option AV :=
  match agg with
  | true => some (.agg cs)
  | false => match cs with
    | [c] => some c
    | _ => none

/-- A closure; pure if what it captured is. -/
def allD : List AV → Option (List D)
  | [] => some []
  | .d x :: rest => match allD rest with
    | some xs => some (x :: xs)
    | none => none
  | _ :: _ => none

def mkFn (f : FuncId) (caps : List AV) : AV :=
  match allD caps with
  | some ds => .d (.fn f ds)
  | none => .fn f caps

def asInt : AV → Option Int
  | .d (.leaf (.int _ n)) => some n
  | _ => none

/-- A number that is not negative. -/
def asNat : AV → Option Nat
  | .d (.leaf (.int _ (.ofNat n))) => some n
  | _ => none

def asBool : AV → Option Bool
  | .d (.leaf (.bool b)) => some b
  | _ => none

/-- The first n. -/
def front {α : Type} : List α → Nat → Option (List α)
  | _, 0 => some []
  | [], _ + 1 => none
  | c :: cs, n + 1 => match front cs n with
    | some l => some (c :: l)
    | none => none

/-- What comes behind the first n. -/
def skip {α : Type} : List α → Nat → Option (List α)
  | cs, 0 => some cs
  | [], _ + 1 => none
  | _ :: cs, n + 1 => skip cs n

/-- 'n' cells from 'off' on. -/
def cut {α : Type} (cs : List α) (off n : Nat) : Option (List α) :=
  match skip cs off with
  | some l => front l n
  | none => none

def over {α : Type} : List α → List α → Option (List α)
  | cs, [] => some cs
  | _ :: cs, v :: vs => match over cs vs with
    | some l => some (v :: l)
    | none => none
  | [], _ :: _ => none

/-- New cells at 'off'. -/
def splice {α : Type} : List α → Nat → List α → Option (List α)
  | cs, 0, vs => over cs vs
  | c :: cs, off + 1, vs => match splice cs off vs with
    | some l => some (c :: l)
    | none => none
  | [], _ + 1, _ => none

def lenIs {α : Type} : List α → Nat → Bool
  | [], n => Nat.beq n 0
  | _ :: cs, n => bif Nat.beq n 0 then false else lenIs cs (Nat.pred n)

def fill (place : Nat → Option (Nat × Nat)) (cells : List AV) : List (Nat × AV) → Option (List AV)
  | [] => some cells
  | (i, v) :: rest =>
    match place i with
    | none => none
    | some (off, size) =>
      match lenIs v.cells size, allCells v.cells, splice cells off v.cells with
      | true, true, some cells => fill place cells rest
      | _, _, _ => none

/-- Where new cells come from. -/
inductive Part where
  | lit (cs : List AV)
  | old (b off n : Nat)

/-- What an operation does, told from its operands alone. -/
inductive Action where
  | ret (v : AV)
  | load (b off n : Nat) (agg : Bool)
  | store (b off : Nat) (cs : List AV)
  | new (x : Blk) (v : Nat → AV)
  /-- New cells out of old ones, the first m immutable if those of the block that dies are. -/
  | gather (ps : List Part) (kill : Option (Nat × Nat × Nat)) (v : Nat → AV)
  /-- A call in isolation on what becomes immutable. -/
  | ice (args : List AV) (k : List AV → Option (AV × Heap))
  | other (f : Heap → Option (AV × Heap))

def Part.get (H : Heap) : Part → Option (List AV)
  | .lit cs => some cs
  | .old b off n => match H.get b with
    | .cells _ cs => cut cs off n
    | _ => none

def gatherCells (H : Heap) : List Part → Option (List AV)
  | [] => some []
  | p :: ps => match p.get H, gatherCells H ps with
    | some a, some b => some (a ++ b)
    | _, _ => none

/-- A new block: at the end, or in the place that is kept for it. -/
def lay (H : Heap) (rid : Option Nat) (x : Blk) (v : Nat → AV) : Option (AV × Heap) :=
  match rid with
  | none => some (v H.n, H.push x)
  | some id => match H.get id with
    | .dead => bif Nat.ble H.n id then none else some (v id, H.set id x)
    | _ => none

-- ---------------------------------------------------------------- what becomes immutable
def iceCells (g : Heap → AV → Option (D × Heap)) : Heap → List AV → Option (List D × Heap)
  | H, [] => some ([], H)
  | H, v :: vs => match v with
    | .d x => match iceCells g H vs with
      | some (ds, H) => some (x :: ds, H)
      | none => none
    | v => match g H v with
      | some (x, H) => match iceCells g H vs with
        | some (ds, H) => some (x :: ds, H)
        | none => none
      | none => none

/-- A cell becomes immutable, and all that it leads to. -/
def iceCell : Nat → Heap → AV → Option (D × Heap)
  | 0, _, _ => none
  | n + 1, H, v => match v with
    | .d x => some (x, H)
    | .sl b off len esz _ =>
      bif Nat.beq (Nat.mul len esz) 0 then (bif Nat.beq len 0 then some (.lit 0 [], H) else none) else
      match H.get b with
      | .cells m cs => match cut cs off (Nat.mul len esz) with
        | some l => match iceCells (iceCell n) (bif Nat.ble (Nat.add off (Nat.mul len esz)) m then H else H.set b (.cells (Nat.add off (Nat.mul len esz)) cs)) l with
          | some (ds, H) => some (.lit len ds, H)
          | none => none
        | none => none
      | _ => none
    | .ptr b off =>
      match H.get b with
      | .cells m cs => match skip cs off with
        | some l => match iceCells (iceCell n) (bif Nat.ble cs.length m then H else H.set b (.cells cs.length cs)) l with
          | some (ds, H) => some (.ptr ds, H)
          | none => none
        | none => none
      | _ => none
    | .fn f caps => match iceCells (iceCell n) H caps with
      | some (ds, H) => some (.fn f ds, H)
      | none => none
    | _ => none

def iceVal (H : Heap) (v : AV) : Option (AV × Heap) :=
  match v with
  | .d x => some (.d x, H)
  | .agg cs => match iceCells (iceCell 12) H cs with
    | some (ds, H) => some (.agg (ds.map .d), H)
    | none => none
  | v => match iceCell 12 H v with
    | some (x, H) => some (.d x, H)
    | none => none

def iceVals (H : Heap) : List AV → Option (List AV × Heap)
  | [] => some ([], H)
  | v :: vs => match iceVal H v with
    | some (v, H) => match iceVals H vs with
      | some (vs, H) => some (v :: vs, H)
      | none => none
    | none => none

/-- A result is read to the bottom: memory that nobody will write any more. -/
def freeze (H : Heap) (v : AV) : Option AV :=
  match v with
  | .tup vs => match iceVals H vs with
    | some (vs, _) => some (.tup vs)
    | none => none
  | v => match iceVal H v with
    | some (v, _) => some v
    | none => none

mutual
def AV.shift (k : Nat) : AV → AV
  | .d x => .d x
  | .ptr b o => .ptr (Nat.add b k) o
  | .sl b o l e c => .sl (Nat.add b k) o l e c
  | .fn f caps => .fn f (AV.shiftL k caps)
  | .yield b => .yield (Nat.add b k)
  | .map b => .map (Nat.add b k)
  | .agg cs => .agg (AV.shiftL k cs)
  | .tup vs => .tup (AV.shiftL k vs)
def AV.shiftL (k : Nat) : List AV → List AV
  | [] => []
  | c :: cs => c.shift k :: AV.shiftL k cs
end

def Blk.shift (k : Nat) : Blk → Blk
  | .dead => .dead
  | .cells m cs => .cells m (AV.shiftL k cs)
  | .map es => .map (es.map fun (a, b) => (a.shift k, b.shift k))
  | .loop f t p a b s j => .loop f (t.map (AV.shift k)) p a b s j
  | .iter s p => .iter s p
  | .miter mb s l q => .miter (Nat.add mb k) s l q

/-- The blocks of H1 behind those of H. -/
def Heap.graftFrom (k : Nat) (H1 : Heap) : Nat → Nat → Heap → Heap
  | 0, _, H => H
  | n + 1, i, H => Heap.graftFrom k H1 n (Nat.succ i) (H.push ((H1.get i).shift k))
def Heap.graft (H H1 : Heap) : Heap := Heap.graftFrom H.n H1 H1.n 0 H

/-- The two evaluators that call one another with less fuel. -/
structure Rec where
  code : FuncId → Code → St → Option (Ex × St)
  call : FuncId → List AV → Heap → Option (AV × Heap)

def put (t : Tm) (dst : Option Tmp) (v : AV) : Tm :=
  match dst with
  | some d => T.set t d v
  | none => t

def Action.exec (a : Action) (rid : Option Nat) (H : Heap) : Option (AV × Heap) :=
  match a with
  | .ret v => some (v, H)
  | .load b off n agg =>
    match H.get b with
    | .cells _ cs => match cut cs off n with
      | some cs => match ofCells agg cs with
        | some v => some (v, H)
        | none => none
      | none => none
    | _ => none
  | .store b off vs =>
    match H.get b with
    | .cells m cs => bif Nat.ble m off then (match splice cs off vs with
      | some cs => some (undefA, H.set b (.cells m cs))
      | none => none) else none
    | _ => none
  | .new x v => lay H rid x v
  | .gather ps kill v =>
    match gatherCells H ps with
    | some cs => match allCells cs with
      | true => match kill with
        | none => lay H rid (.cells 0 cs) v
        | some (b, off, n) => match H.get b with
          | .cells m _ => bif Nat.ble m (Nat.add off n) then lay (H.set b .dead) rid (.cells (Nat.sub m off) cs) v else none
          | _ => none
      | false => none
    | none => none
  | .ice args k =>
    match iceVals H args with
    | some (as_, H) => match k as_ with
      | some (v, H1) => match rid with
        | some _ => bif Nat.beq H1.n 0 then some (v, H) else none
        | none => bif Nat.beq H1.n 0 then some (v, H) else some (v.shift H.n, H.graft H1)
      | none => none
    | none => none
  | .other f => f H

def footCells (g : Heap → AV → List Nat) (H : Heap) : List AV → List Nat
  | [] => []
  | v :: vs => match v with
    | .d _ => footCells g H vs
    | v => g H v ++ footCells g H vs

/-- The blocks that become immutable. -/
def footCell : Nat → Heap → AV → List Nat
  | 0, _, _ => []
  | n + 1, H, v => match v with
    | .sl b off len esz _ => match H.get b with
      | .cells _ cs => match cut cs off (Nat.mul len esz) with
        | some l => b :: footCells (footCell n) H l
        | none => [b]
      | _ => [b]
    | .ptr b off => match H.get b with
      | .cells _ cs => match skip cs off with
        | some l => b :: footCells (footCell n) H l
        | none => [b]
      | _ => [b]
    | .fn _ caps => footCells (footCell n) H caps
    | .agg cs => footCells (footCell n) H cs
    | _ => []

def Action.foot (a : Action) (H : Heap) : List Nat :=
  match a with
  | .ice args _ => footCells (footCell 14) H args
  | _ => []

def isIn (b : Nat) : List Nat → Bool
  | [] => false
  | c :: cs => bif Nat.beq b c then true else isIn b cs

def isInP (b : Nat) : List Part → Bool
  | [] => false
  | .lit _ :: ps => isInP b ps
  | .old c _ _ :: ps => bif Nat.beq b c then true else isInP b ps

/-- An operation that was carried out: its number, what it does, and what it made immutable. -/
structure Log where
  i : Nat
  a : Action
  foot : List Nat

/-- May the block be changed on one side of the operation? 'r': what the operation lays. -/
def Log.apart (base : Nat) (x : Log) (b : Nat) : Bool :=
  match x.a with
  | .ret _ => true
  | .load c _ _ _ => !Nat.beq b c
  | .store c _ _ => !Nat.beq b c
  | .new _ _ => !Nat.beq b (Nat.add base x.i)
  | .gather ps kill _ => !Nat.beq b (Nat.add base x.i) && !isInP b ps && (match kill with | some (c, _) => !Nat.beq b c | none => true)
  | .ice _ _ => !isIn b x.foot
  | .other _ => false

/-- May the two stand in either order? -/
def Log.compat (base : Nat) (x y : Log) : Bool :=
  match x.a, y.a with
  | .ret _, _ | _, .ret _ => true
  | .load .., .load .. => true
  | .load .., .ice .. => true
  | .ice .., .load .. => true
  | .ice .., .ice .. => true
  | .load b o n _, .store c p cs => !Nat.beq b c || Nat.ble (Nat.add o n) p || Nat.ble (Nat.add p cs.length) o
  | .store c p cs, .load b o n _ => !Nat.beq b c || Nat.ble (Nat.add o n) p || Nat.ble (Nat.add p cs.length) o
  | .store c _ _, _ => y.apart base c
  | _, .store c _ _ => x.apart base c
  | .new _ _, _ => y.apart base (Nat.add base x.i)
  | _, .new _ _ => x.apart base (Nat.add base y.i)
  | .gather _ kill _, .gather _ kill' _ => y.apart base (Nat.add base x.i) && (match kill with | some (c, _) => y.apart base c | none => true) &&
      (x.apart base (Nat.add base y.i) && (match kill' with | some (c, _) => x.apart base c | none => true))
  | .gather _ kill _, _ => y.apart base (Nat.add base x.i) && (match kill with | some (c, _) => y.apart base c | none => true)
  | _, .gather _ kill _ => x.apart base (Nat.add base y.i) && (match kill with | some (c, _) => x.apart base c | none => true)
  | _, _ => false
end Go.Ab
