/- The evaluator's operations. -/
import Derived.Test.YtockpchpaemfgaaGreatDoorAbEval
set_option linter.all false
namespace Go.Ab

-- ---------------------------------------------------------------- numbers
def intEq : Int → Int → Bool
  | .ofNat a, .ofNat b => Nat.beq a b
  | .negSucc a, .negSucc b => Nat.beq a b
  | _, _ => false
def intLe : Int → Int → Bool
  | .ofNat a, .ofNat b => Nat.ble a b
  | .negSucc a, .negSucc b => Nat.ble b a
  | .negSucc _, .ofNat _ => true
  | .ofNat _, .negSucc _ => false
def kindN : IntKind → Nat
  | .i8 => 0 | .i16 => 1 | .i32 => 2 | .i64 => 3 | .u8 => 4 | .u16 => 5 | .u32 => 6 | .u64 => 7
/-- The greatest number of a kind. -/
def kindTop : IntKind → Nat
  | .i8 => 127 | .i16 => 32767 | .i32 => 2147483647 | .i64 => 9223372036854775807
  | .u8 => 255 | .u16 => 65535 | .u32 => 4294967295 | .u64 => 18446744073709551615
def kindSigned : IntKind → Bool
  | .i8 | .i16 | .i32 | .i64 => true
  | _ => false
def wrapF (k : IntKind) (n : Int) : Int :=
  match n with
  | .ofNat a => bif Nat.ble a (kindTop k) then .ofNat a else k.wrap n
  | .negSucc a => match kindSigned k with
    | true => bif Nat.ble a (kindTop k) then .negSucc a else k.wrap n
    | false => k.wrap n
def natBits (op : Nat → Nat → Nat) (slow : BitVec 64 → BitVec 64 → Int) (k : IntKind) (x y : Int) : Int :=
  match x, y with
  | .ofNat a, .ofNat b => .ofNat (op a b)
  | _, _ => 0
def shlF (k : IntKind) (a : Int) (b : Nat) : Int :=
  match a with
  | .ofNat n => wrapF k (.ofNat (Nat.mul n (Nat.pow 2 (bif Nat.ble b k.bits then b else k.bits))))
  | a => k.wrap (a * 2 ^ (min b k.bits))
def shrF (k : IntKind) (a : Int) (b : Nat) : Int :=
  match a with
  | .ofNat n => .ofNat (Nat.div n (Nat.pow 2 (bif Nat.ble b k.bits then b else k.bits)))
  | a => a.fdiv (2 ^ (min b k.bits))
def isZ : Int → Bool
  | .ofNat 0 => true
  | _ => false
def quoF (k : IntKind) (x y : Int) : Int :=
  match x, y with
  | .ofNat a, .ofNat b => wrapF k (.ofNat (Nat.div a b))
  | x, y => wrapF k (x.tdiv y)
def remF (x y : Int) : Int :=
  match x, y with
  | .ofNat a, .ofNat b => .ofNat (Nat.mod a b)
  | x, y => x.tmod y
def andF (k : IntKind) (x y : Int) : Int :=
  match x, y with
  | .ofNat a, .ofNat b => bif Nat.ble a (kindTop k) && Nat.ble b (kindTop k) then .ofNat (Nat.land a b) else k.wrap (BitVec.ofInt k.bits x &&& BitVec.ofInt k.bits y).toNat
  | x, y => k.wrap (BitVec.ofInt k.bits x &&& BitVec.ofInt k.bits y).toNat
def orF (k : IntKind) (x y : Int) : Int :=
  match x, y with
  | .ofNat a, .ofNat b => bif Nat.ble a (kindTop k) && Nat.ble b (kindTop k) then .ofNat (Nat.lor a b) else k.wrap (BitVec.ofInt k.bits x ||| BitVec.ofInt k.bits y).toNat
  | x, y => k.wrap (BitVec.ofInt k.bits x ||| BitVec.ofInt k.bits y).toNat
def xorF (k : IntKind) (x y : Int) : Int :=
  match x, y with
  | .ofNat a, .ofNat b => bif Nat.ble a (kindTop k) && Nat.ble b (kindTop k) then .ofNat (Nat.xor a b) else k.wrap (BitVec.ofInt k.bits x ^^^ BitVec.ofInt k.bits y).toNat
  | x, y => k.wrap (BitVec.ofInt k.bits x ^^^ BitVec.ofInt k.bits y).toNat
def intBin (op : BinOp) (k : IntKind) (x y : Int) : Option Value :=
  match op with
  | .add => some (.int k (wrapF k (Int.add x y)))
  | .sub => some (.int k (wrapF k (Int.sub x y)))
  | .mul => some (.int k (wrapF k (Int.mul x y)))
  | .quo => match isZ y with | true => none | false => some (.int k (quoF k x y))
  | .rem => match isZ y with | true => none | false => some (.int k (remF x y))
  | .and => some (.int k (andF k x y))
  | .or => some (.int k (orF k x y))
  | .xor => some (.int k (xorF k x y))
  | .andNot => some (.int k (k.wrap (BitVec.ofInt k.bits x &&& ~~~ BitVec.ofInt k.bits y).toNat))
  | .eql => some (.bool (intEq x y))
  | .neq => some (.bool (not (intEq x y)))
  | .lss => some (.bool (not (intLe y x)))
  | .leq => some (.bool (intLe x y))
  | .gtr => some (.bool (not (intLe x y)))
  | .geq => some (.bool (intLe y x))
  | _ => none

-- ---------------------------------------------------------------- strings
def u8Eq (a b : UInt8) : Bool := Nat.beq a.toNat b.toNat
def bytesEq : List UInt8 → List UInt8 → Bool
  | [], [] => true
  | a :: as_, b :: bs => match u8Eq a b with
    | true => bytesEq as_ bs
    | false => false
  | _, _ => false
def strEq (x y : ByteArray) : Bool := bytesEq x.data.toList y.data.toList
def strBin (op : BinOp) (x y : ByteArray) : Option Value :=
  match op with
  | .add => if ((x.size + y.size : Nat) : Int) > IntKind.i64.max then none else some (.string ⟨(x.data.toList ++ y.data.toList).toArray⟩)
  | .eql => some (.bool (strEq x y))
  | .neq => some (.bool (not (strEq x y)))
  | .lss => some (.bool (Op.bytesLess x.toList y.toList))
  | .leq => some (.bool (Op.bytesLess x.toList y.toList || x.toList == y.toList))
  | .gtr => some (.bool (!(Op.bytesLess x.toList y.toList || x.toList == y.toList)))
  | .geq => some (.bool (!(Op.bytesLess x.toList y.toList)))
  | _ => none
def strLen (s : ByteArray) : Nat := s.data.toList.length

/-- Cells that can be held against one another at sight. -/
def sameLeaf : LK → Value → Value → Option Bool
  | .int, .int k a, .int k' b => bif Nat.beq (kindN k) (kindN k') then some (intEq a b) else none
  | .bool, .bool a, .bool b => some (a == b)
  | .str, .string a, .string b => some (strEq a b)
  | _, _, _ => none

def sameCells : List LK → List AV → List AV → Option Bool
  | [], [], [] => some true
  | k :: ks, .d (.leaf a) :: as_, .d (.leaf b) :: bs =>
    match sameLeaf k a b, sameCells ks as_ bs with
    | some x, some y => some (x && y)
    | _, _ => none
  | _, _, _ => none

section
variable (E : Env)

/-- A comparison with nil. -/
def eqA (op : BinOp) (b : Bool) : Option AV :=
  match op with
  | .eql => some (bool b)
  | .neq => some (bool (not b))
  | _ => none

/-- May the two be held against one another as nil? -/
def nilType (t : TypeId) (lit : Bool) (iface : Bool) : Bool :=
  match E.ty t with
  | some ti => match ti.desc, iface with
    | .interface _, true => lit
    | .slice _, false => true
    | _, _ => false
  | none => false

def isLit : Operand → Bool
  | .const _ => true
  | _ => false

def binA (op : BinOp) (t : TypeId) (lit : Bool) (x y : AV) : Option AV :=
  match x, y with
  | .d (.leaf (.int k a)), .d (.leaf (.int k' b)) =>
    match op with
    | .shl => match b with | .ofNat b => some (leaf (.int k (shlF k a b))) | _ => none
    | .shr => match b with | .ofNat b => some (leaf (.int k (shrF k a b))) | _ => none
    | op => bif Nat.beq (kindN k) (kindN k') then (match intBin op k a b with | some v => some (leaf v) | none => none) else none
  | .d (.leaf (.string a)), .d (.leaf (.string b)) => match strBin op a b with | some v => some (leaf v) | none => none
  | .d (.leaf (.bool a)), .d (.leaf (.bool b)) =>
    match E.ty t with
    | some ti => match ti.desc with
      | .bool => eqA op (a == b)
      | _ => none
    | none => none
  | .agg xs, .agg ys =>
    match E.flat t with
    | some ks => match sameCells ks xs ys with
      | some b => eqA op b
      | none => none
    | none => none
  | .d (.leaf .nilIface), .d (.leaf .nilIface) => match nilType E t lit true with | true => eqA op true | false => none
  | .d (.leaf (.iface _ _)), .d (.leaf .nilIface) => match nilType E t lit true with | true => eqA op false | false => none
  | .d (.leaf (.slice none 0 0)), .d (.leaf (.slice none 0 0)) => match nilType E t lit false with | true => eqA op true | false => none
  | .d (.lit (_ + 1) _), .d (.leaf (.slice none 0 0)) => match nilType E t lit false with | true => eqA op false | false => none
  | .sl _ _ (_ + 1) _ _, .d (.leaf (.slice none 0 0)) => match nilType E t lit false with | true => eqA op false | false => none
  | _, _ => none

def unA (op : UnOp) (x : AV) : Option AV :=
  match op, x with
  | .neg, .d (.leaf (.int k n)) => some (leaf (.int k (wrapF k (Int.neg n))))
  | .not, .d (.leaf (.bool b)) => some (bool (not b))
  | .xor, .d (.leaf (.int k n)) => some (leaf (.int k (k.wrap (BitVec.ofInt k.bits (if k.signed then -1 else k.max) ^^^ BitVec.ofInt k.bits n).toNat)))
  | _, _ => none

def bytesOfD : List D → Option (List UInt8)
  | [] => some []
  | .leaf (.int .u8 (.ofNat n)) :: rest => match bytesOfD rest with
    | some l => some (UInt8.ofNat n :: l)
    | none => none
  | _ => none

def bytesCells (s : ByteArray) : List AV := s.data.toList.map fun b => leaf (.int .u8 (.ofNat b.toNat))

def convA (src dst : TypeId) (x : AV) : Option Action :=
  match E.ty src, E.ty dst with
  | some s, some e =>
    match s.desc, e.desc, x with
    | .int _, .int k, .d (.leaf (.int _ n)) => some (.ret (leaf (.int k (wrapF k n))))
    | .string, .string, .d (.leaf (.string b)) => some (.ret (leaf (.string b)))
    | .string, .slice el, .d (.leaf (.string b)) =>
      match E.ty el with
      | some u => match u.desc with
        | .int .u8 => bif Nat.ble (strLen b) 1048576 then some (.new (.cells 0 (bytesCells b)) fun id => .sl id 0 (strLen b) 1 none) else none
        | _ => none
      | none => none
    | .slice el, .string, .d (.lit len ds) =>
      match E.ty el with
      | some u => match u.desc with
        | .int .u8 => match lenIs ds len, bytesOfD ds with
          | true, some bs => some (.ret (leaf (.string ⟨bs.toArray⟩)))
          | _, _ => none
        | _ => none
      | none => none
    | .slice el, .string, .sl b off len 1 _ =>
      match E.ty el with
      | some u => match u.desc with
        | .int .u8 => some (.other fun H =>
          match H.get b with
          | .cells _ cs => match cut cs off len with
            | some cs => match allD cs with
              | some ds => match bytesOfD ds with
                | some bs => some (leaf (.string ⟨bs.toArray⟩), H)
                | none => none
              | none => none
            | none => none
          | _ => none)
        | _ => none
      | none => none
    | _, _, _ => none
  | _, _ => none

def partA (t : TypeId) (cs : List AV) (off : Nat) : Option AV :=
  match E.ty t with
  | some ti => match ti.agg with
    | true => match cut cs off ti.size with
      | some l => some (.agg l)
      | none => none
    | false => nth cs off
  | none => none

/-- A bound of a slice: its number, or what stands for it. -/
def bound (v : Option AV) (dflt : Nat) (most : Nat) : Option Nat :=
  match v with
  | none => some dflt
  | some x => match asNat x with
    | some i => bif Nat.ble i most then some i else none
    | none => none

def sliceA (t : TypeId) (x : AV) (lo hi mx : Option AV) : Option AV :=
  match E.ty t with
  | none => none
  | some ti =>
  match ti.desc, x with
  | .string, .d (.leaf (.string s)) =>
    match mx with
    | some _ => none
    | none =>
    match bound hi (strLen s) (strLen s) with
    | some h => match bound lo 0 h with
      | some l => match cut s.data.toList l (Nat.sub h l) with
        | some bs => some (leaf (.string ⟨bs.toArray⟩))
        | none => none
      | none => none
    | none => none
  | .slice el, .d (.leaf (.slice none 0 0)) =>
    if (E.ty el).isNone then none else
    if mx.isSome && hi.isNone then none else
    match bound mx 0 0 with
    | none => none
    | some m =>
    match bound hi 0 m with
    | none => none
    | some h =>
    match bound lo 0 h with
    | none => none
    | some _ => some x
  | .slice el, .d (.lit len cs) =>
    match E.ty el with
    | none => none
    | some eti =>
    if mx.isSome && hi.isNone then none else
    match bound mx len len with
    | none => none
    | some m =>
    match bound hi len m with
    | none => none
    | some h =>
    match bound lo 0 h with
    | none => none
    | some l =>
      match lenIs cs (Nat.mul len eti.size), Nat.beq eti.size 0 with
      | true, false =>
        if mx.isSome && m = l then some (.sl 0 0 0 eti.size (some 0))
        else match cut cs (Nat.mul l eti.size) (Nat.mul (Nat.sub h l) eti.size) with
          | some ds => some (.d (.lit (Nat.sub h l) ds))
          | none => none
      | _, _ => none
  | .slice el, .sl b off len esz cap =>
    match E.ty el with
    | none => none
    | some eti =>
    match Nat.beq eti.size esz with
    | false => none
    | true =>
    if mx.isSome && hi.isNone then none else
    let top := cap.getD len
    match bound mx top top with
    | none => none
    | some m =>
    match bound hi len m with
    | none => none
    | some h =>
    match bound lo 0 h with
    | none => none
    | some l => some (.sl b (Nat.add off (Nat.mul l esz)) (Nat.sub h l) esz (if mx.isSome then some (m - l) else cap.map (· - l)))
  | .array n el, .ptr b off =>
    match E.ty el with
    | none => none
    | some eti =>
    if mx.isSome then none else
    match bound hi n n with
    | none => none
    | some h =>
    match bound lo 0 h with
    | none => none
    | some l => some (.sl b (Nat.add off (Nat.mul l eti.size)) (Nat.sub h l) eti.size (some (n - l)))
  | _, _ => none

/-- A pointer to a variable whose cells are known and stay. -/
def globCells (v : Value) : Option (List D) :=
  match v with
  | .pointer (some ⟨g, 0, none⟩) => E.glob g
  | _ => none

def fieldAddrA (t : TypeId) (x : AV) (f : Nat) : Option AV :=
  match E.ty t with
  | some ti => match ti.desc with
    | .struct fields => match nth fields.toList f with
      | some fd => match E.ty fd.type with
        | some fi => match Nat.beq fi.size 0 with
          | true => none
          | false => match x with
            | .ptr b off => some (.ptr b (Nat.add off fd.offset))
            | .d (.ptr cs) => match skip cs fd.offset with
              | some l => some (.d (.ptr l))
              | none => none
            | _ => none
        | none => none
      | none => none
    | _ => none
  | none => none

def indexAddrA (t : TypeId) (x ix : AV) : Option AV :=
  match E.ty t, asNat ix with
  | some ti, some i => match ti.desc with
    | .array len el => match E.ty el with
      | some eti => bif Nat.ble len i then none else match x with
          | .ptr b off => some (.ptr b (Nat.add off (Nat.mul i eti.size)))
          | .d (.ptr cs) => match skip cs (Nat.mul i eti.size) with
            | some l => some (.d (.ptr l))
            | none => none
          | .d (.leaf v) => match globCells E v with
            | some cs => match skip cs (Nat.mul i eti.size) with
              | some l => some (.d (.ptr l))
              | none => none
            | none => none
          | _ => none
      | none => none
    | .slice el => match E.ty el with
      | some eti => match x with
        | .sl b off len esz _ => match Nat.ble len i, Nat.beq esz eti.size with
          | false, true => some (.ptr b (Nat.add off (Nat.mul i esz)))
          | _, _ => none
        | .d (.lit len cs) => bif Nat.ble len i then none else match skip cs (Nat.mul i eti.size) with
          | some l => some (.d (.ptr l))
          | none => none
        | _ => none
      | none => none
    | _ => none
  | _, _ => none

def indexA (t : TypeId) (x ix : AV) : Option AV :=
  match E.ty t, asNat ix with
  | some ti, some i => match ti.desc, x with
    | .array len el, .agg cs => match E.ty el with
      | some eti => bif Nat.ble len i then none else partA E el cs (Nat.mul i eti.size)
      | none => none
    | .string, .d (.leaf (.string s)) => match nth s.data.toList i with
      | some b => some (leaf (.int .u8 (.ofNat b.toNat)))
      | none => none
    | _, _ => none
  | _, _ => none

def natA (n : Nat) : AV := int (.ofNat n)

def lenA (t : TypeId) (x : AV) : Option Action :=
  match E.ty t with
  | none => none
  | some ti => match ti.desc, x with
    | .string, .d (.leaf (.string s)) => some (.ret (natA (strLen s)))
    | .array n _, _ => some (.ret (natA n))
    | .slice _, .d (.leaf (.slice none n _)) => some (.ret (natA n))
    | .slice _, .d (.lit n _) => some (.ret (natA n))
    | .slice _, .sl _ _ n _ _ => some (.ret (natA n))
    | .map _ _, .map b => some (.other fun H => match H.get b with
      | .map es => some (natA es.length, H)
      | _ => none)
    | _, _ => none

def capA (t : TypeId) (x : AV) : Option AV :=
  match E.ty t with
  | none => none
  | some ti => match ti.desc, x with
    | .slice _, .d (.leaf (.slice none _ n)) => some (natA n)
    | .slice _, .sl _ _ _ _ (some n) => some (natA n)
    | _, _ => none

/-- The first n elements of what is appended or copied. -/
def source (esz n : Nat) : AV → Option Part
  | .d (.leaf (.slice none 0 0)) => bif Nat.beq n 0 then some (.lit []) else none
  | .d (.leaf (.string s)) => bif Nat.beq esz 1 then (match front (bytesCells s) n with
    | some l => some (.lit l)
    | none => none) else none
  | .d (.lit len cs) => match lenIs cs (Nat.mul len esz), front cs (Nat.mul n esz) with
    | true, some l => some (.lit (l.map .d))
    | _, _ => none
  | .sl b off len esz' _ => match Nat.ble n len, Nat.beq esz' esz with
    | true, true => bif Nat.beq (Nat.mul n esz) 0 then some (.lit []) else some (.old b off (Nat.mul n esz))
    | _, _ => none
  | _ => none

def sourceLen : AV → Option Nat
  | .d (.leaf (.slice none n _)) => some n
  | .d (.leaf (.string s)) => some (strLen s)
  | .d (.lit n _) => some n
  | .sl _ _ n _ _ => some n
  | _ => none

def small (n : Nat) : Bool := Nat.ble n 1048576

/-- append: n elements of a part behind s. -/
def appendPart (eti : TI) (s : AV) (n : Nat) (x : Part) : Option Action :=
  match Nat.beq eti.size 0, lenIs eti.zero eti.size, small eti.bytes with
  | false, true, true =>
    match s with
    | .d (.leaf (.slice none 0 0)) =>
      bif small n then some (.gather [x] none fun id => .sl id 0 n eti.size none) else none
    | .d (.lit len cs) =>
      bif small (Nat.add len n) then none else none
    | .sl b off len esz' cap =>
      match Nat.beq esz' eti.size, small (Nat.add len n) with
      | true, true =>
        match cap with
        | none => some (.gather [.old b off (Nat.mul len eti.size), x] (some (b, off, Nat.mul len eti.size)) fun id => .sl id 0 (Nat.add len n) eti.size none)
        | some k => match Nat.ble (Nat.add len n) k, Nat.beq len 0 with
          | true, _ => some (.other fun H => match x.get H with
            | some new => match allCells new, H.get b with
              | true, .cells m cs => bif Nat.ble m (Nat.add off (Nat.mul len eti.size)) then (match splice cs (Nat.add off (Nat.mul len eti.size)) new with
                | some cs => some (.sl b off (Nat.add len n) eti.size cap, H.set b (.cells m cs))
                | none => none) else none
              | _, _ => none
            | none => none)
          | false, true => some (.gather [x] none fun id => .sl id 0 n eti.size none)
          | false, false => some (.gather [.old b off (Nat.mul len eti.size), x] none fun id => .sl id 0 (Nat.add len n) eti.size none)
      | _, _ => none
    | _ => none
  | _, _, _ => none

def isSl : AV → Bool
  | .d (.leaf (.slice none 0 0)) => true
  | .d (.lit _ _) => true
  | .sl _ _ _ _ _ => true
  | _ => false

def appendA (t : TypeId) (s x : AV) : Option Action :=
  match E.ty t with
  | none => none
  | some ti => match ti.desc with
    | .slice el => match E.ty el with
      | none => none
      | some eti => match sourceLen x with
        | none => none
        | some n => bif Nat.beq n 0 then (bif isSl s then some (.ret s) else none) else match source eti.size n x with
          | some p => appendPart eti s n p
          | none => none
    | _ => none

/-- append of n zero elements. -/
def extendA (t : TypeId) (s x : AV) : Option Action :=
  match E.ty t, asNat x with
  | some ti, some n => match ti.desc with
    | .slice el => match E.ty el with
      | none => none
      | some eti => bif Nat.beq n 0 then (bif isSl s then some (.ret s) else none) else bif small n then appendPart eti s n (.lit (List.replicate n eti.za).flatten) else none
    | _ => none
  | _, _ => none

def copyA (t : TypeId) (dst src : AV) : Option Action :=
  match E.ty t with
  | none => none
  | some ti => match ti.desc with
    | .slice el => match E.ty el with
      | none => none
      | some eti => match sourceLen src, dst with
        | some m, .sl b off len esz _ =>
          match Nat.beq esz eti.size, Nat.beq esz 0 with
          | true, false =>
            let n := bif Nat.ble m len then m else len
            bif Nat.beq n 0 then some (.ret (int 0)) else
            match source esz n src with
            | none => none
            | some p => some (.other fun H => match p.get H with
              | none => none
              | some new => match allCells new, H.get b with
                | true, .cells m cs => bif Nat.ble m off then (match splice cs off new with
                  | some cs => some (natA n, H.set b (.cells m cs))
                  | none => none) else none
                | _, _ => none)
          | _, _ => none
        | some _, .d (.leaf (.slice none 0 0)) => some (.ret (int 0))
        | _, _ => none
    | _ => none

def intMin (x y : Int) : Int := match intLe x y with | true => x | false => y
def intMax (x y : Int) : Int := match intLe y x with | true => x | false => y
def foldInt (f : Int → Int → Int) : AV → List AV → Option AV
  | x, [] => some x
  | .d (.leaf (.int k a)), .d (.leaf (.int _ b)) :: rest => foldInt f (leaf (.int k (f a b))) rest
  | _, _ => none

def builtinA (b : Builtin) (argTypes : Array TypeId) (args : List AV) : Option Action :=
  match b, args with
  | .len, [x] => match nth argTypes.toList 0 with | some t => lenA E t x | none => none
  | .cap, [x] => match nth argTypes.toList 0 with
    | some t => match capA E t x with
      | some v => some (.ret v)
      | none => none
    | none => none
  | .append, [s, x] => match argTypes.toList with
    | t :: u :: _ => match E.ty u with
      | some ui => match ui.desc with
        | .int _ => extendA E t s x
        | _ => appendA E t s x
      | none => none
    | _ => none
  | .copy, [d, s] => match nth argTypes.toList 0 with | some t => copyA E t d s | none => none
  | .min, .d (.leaf (.int k a)) :: rest => match foldInt intMin (leaf (.int k a)) rest with
    | some v => some (.ret v)
    | none => none
  | .max, .d (.leaf (.int k a)) :: rest => match foldInt intMax (leaf (.int k a)) rest with
    | some v => some (.ret v)
    | none => none
  | _, _ => none

/-- Keys of maps: a number, a string, or a row of such. -/
inductive KK where
  | one (k : LK)
  | row (ks : List LK)

def sameKey (kk : KK) (k k' : AV) : Option Bool :=
  match kk, k, k' with
  | .one lk, .d (.leaf a), .d (.leaf b) => sameLeaf lk a b
  | .row ks, .agg xs, .agg ys => sameCells ks xs ys
  | _, _, _ => none

/-- The entry with a key: its number, its key, its value. -/
def kfind (kk : KK) (k : AV) : List (AV × AV) → Nat → Option (Option (Nat × AV × AV))
  | [], _ => some none
  | (k', v) :: es, i => match sameKey kk k k' with
    | some true => some (some (i, k', v))
    | some false => kfind kk k es (Nat.succ i)
    | none => none

def keyKind (key : TypeId) : Option KK :=
  match E.ty key with
  | some ki => match ki.desc with
    | .int _ => some (.one .int)
    | .string => some (.one .str)
    | .array _ _ => match E.flatKey key with
      | true => match E.flat key with
        | some ks => some (.row ks)
        | none => none
      | false => none
    | _ => none
  | none => none

def lookupA (t : TypeId) (m k : AV) (ok : Bool) : Option Action :=
  match E.ty t with
  | some ti => match ti.desc, m with
    | .map key el, .map b => match keyKind E key, E.ty el with
      | some kk, some eti => match sameKey kk k k with
        | none => none
        | some _ => some (.other fun H => match H.get b with
        | .map es => match kfind kk k es 0 with
          | some (some (_, _, v)) => some (match ok with | true => .tup [v, bool true] | false => v, H)
          | some none => match ofCells eti.agg eti.za with
            | some z => some (match ok with | true => .tup [z, bool false] | false => z, H)
            | none => none
          | none => none
        | _ => none)
      | _, _ => none
    | _, _ => none
  | none => none

def mapUpdateA (t : TypeId) (m k v : AV) : Option Action :=
  match E.ty t with
  | some ti => match ti.desc, m with
    | .map key _, .map b => match keyKind E key with
      | some kk => match sameKey kk k k with
        | none => none
        | some _ => some (.other fun H => match H.get b with
        | .map es => match kfind kk k es 0 with
          | some (some (i, k', _)) => some (undefA, H.set b (.map (es.set i (k', v))))
          | some none => some (undefA, H.set b (.map (es ++ [(k, v)])))
          | none => none
        | _ => none)
      | none => none
    | _, _ => none
  | none => none

def makeSliceA (t : TypeId) (l c : AV) : Option Action :=
  match E.ty t, asNat l, asNat c with
  | some ti, some l, some c => match ti.desc with
    | .slice el => match E.ty el with
      | some eti =>
        match Nat.ble l c, small c, small eti.bytes, Nat.beq eti.size 0, lenIs eti.zero eti.size with
        | true, true, true, false, true => some (.new (.cells 0 (List.replicate c eti.za).flatten) fun id => .sl id 0 l eti.size (some c))
        | _, _, _, _, _ => none
      | none => none
    | _ => none
  | _, _, _ => none

def toArrayA (t : TypeId) (x : AV) : Option AV :=
  match E.ty t with
  | some ti => match ti.desc with
    | .array n _ => match x with
      | .sl b off len _ _ => bif Nat.ble n len then (bif Nat.beq n 0 then none else some (.ptr b off)) else none
      | .d (.lit len cs) => bif Nat.ble n len then (bif Nat.beq n 0 then none else some (.d (.ptr cs))) else none
      | _ => none
    | _ => none
  | none => none

variable (r : Rec)

/-- A call in isolation: its result, frozen if it is not to be kept. -/
def alone (f : FuncId) (args : List AV) : Option (AV × Heap) :=
  match r.call f args .empty with
  | some (v, H1) => match E.keep f with
    | true => some (v, H1)
    | false => match freeze H1 v with
      | some v => some (v, .empty)
      | none => some (v, H1)
  | none => none

/-- A call in isolation on data: by its summary if that answers. -/
def aloneH (f : FuncId) (args : List AV) : Option (AV × Heap) :=
  match E.hook f with
  | some h => match h args with
    | some v => some (v, .empty)
    | none => alone E r f args
  | none => alone E r f args

def callA (f : FuncId) (args : List AV) : Option Action :=
  match allPure args with
  | true => match aloneH E r f args with
    | some (v, H1) => bif Nat.beq H1.n 0 then some (.ret v) else some (.other fun H => some (v.shift H.n, H.graft H1))
    | none => none
  | false => match E.share f with
    | true => match E.shook f with
      | some h => some (.other fun H => match h args H with
        | some x => some x
        | none => r.call f args H)
      | none => some (.other fun H => r.call f args H)
    | false => some (.ice args fun as_ => aloneH E r f as_)

/-- yield: one round of the loop. -/
def yieldA (b : Nat) (args : List AV) : Action :=
  .other fun H => match H.get b with
    | .loop f tmps params asg body .ready none =>
      match lenIs args params.length with
      | false => none
      | true =>
      let t := (params.zip args).foldl (fun t (p, v) => T.set t p v) tmps
      match r.code f asg ⟨t, H⟩ with
      | some (.normal, st) =>
        match st.H.get b with
        | .loop f1 t1 p1 a1 b1 .ready none =>
          match r.code f body ⟨st.t, st.H.set b (.loop f1 t1 p1 a1 b1 .busy none)⟩ with
          | some (e, st) =>
            match st.H.get b with
            | .loop f' t' p' a' b' _ _ => some (bool e.jump.isNone, st.H.set b (.loop f' t' p' a' b' (if e.jump.isNone then .ready else .done) e.jump))
            | _ => none
          | none => none
        | _ => none
      | _ => none
    | _ => none

def valueCall (f : AV) (args : List AV) : Option Action :=
  match f with
  | .d (.fn g []) => callA E r g args
  | .d (.fn g caps) => callA E r g (args ++ caps.map .d)
  | .fn g caps => callA E r g (args ++ caps)
  | .yield b => some (yieldA r b args)
  | _ => none

def retO (v : Option AV) : Option Action :=
  match v with
  | some v => some (.ret v)
  | none => none

def buildA (ρ : Operand → AV) (t : TypeId) (parts : Array (Nat × Operand)) : Option Action :=
  match E.ty t with
  | none => none
  | some ti =>
    match ti.desc with
    | .struct _ => match fill (fun i => nth ti.places i) ti.za (parts.toList.map fun (i, x) => (i, ρ x)) with
      | some cs => some (.ret (.agg cs))
      | none => none
    | .array _ el => match E.ty el with
      | some eti => match fill (fun i => some (Nat.mul i eti.size, eti.size)) ti.za (parts.toList.map fun (i, x) => (i, ρ x)) with
        | some cs => some (.ret (.agg cs))
        | none => none
      | none => none
    | _ => none

def buildSliceA (ρ : Operand → AV) (t : TypeId) (len : Nat) (parts : Array (Nat × Operand)) : Option Action :=
  match E.ty t with
  | none => none
  | some ti => match ti.desc with
    | .slice el => match E.ty el with
      | some eti =>
        match Nat.ble (Nat.mul len eti.size) 16777216, Nat.beq eti.size 0, lenIs eti.zero eti.size with
        | true, false, true =>
          match fill (fun i => some (Nat.mul i eti.size, eti.size)) (List.replicate len eti.za).flatten (parts.toList.map fun (i, x) => (i, ρ x)) with
          | some cs => match allCells cs with
            | true => some (.new (.cells 0 cs) fun id => .sl id 0 len eti.size (some len))
            | false => none
          | none => none
        | _, _, _ => none
      | none => none
    | _ => none

def loadA (t : TypeId) (a : AV) : Option Action :=
  match E.ty t with
  | none => none
  | some ti => match a with
    | .ptr b off => some (.load b off ti.size ti.agg)
    | .d (.ptr cs) => match front cs ti.size with
      | some cs => retO (ofCells ti.agg (cs.map .d))
      | none => none
    | .d (.leaf v) => match globCells E v with
      | some cs => match front cs ti.size with
        | some cs => retO (ofCells ti.agg (cs.map .d))
        | none => none
      | none => none
    | _ => none

def storeA (t : TypeId) (a x : AV) : Option Action :=
  match E.ty t with
  | none => none
  | some ti => match a with
    | .ptr b off => match lenIs x.cells ti.size, allCells x.cells with
      | true, true => some (.store b off x.cells)
      | _, _ => none
    | _ => none

def nilCheckA (x : AV) : Option Action :=
  match x with
  | .ptr b o => some (.ret (.ptr b o))
  | .d (.ptr cs) => some (.ret (.d (.ptr cs)))
  | .d (.fn f c) => some (.ret (.d (.fn f c)))
  | .fn f c => some (.ret (.fn f c))
  | .yield b => some (.ret (.yield b))
  | _ => none

def mkIfaceA (t : TypeId) (x : AV) : Option Action :=
  match x, E.ty t with
  | .d (.leaf v), some ti => match ti.desc with
    | .interface _ => none
    | _ => some (.ret (leaf (.iface t v)))
  | _, _ => none

def fieldA (t : TypeId) (x : AV) (f : Nat) : Option Action :=
  match E.ty t, x with
  | some ti, .agg cs => match ti.desc with
    | .struct fields => match nth fields.toList f with
      | some fd => retO (partA E fd.type cs fd.offset)
      | none => none
    | _ => none
  | _, _ => none

def rangeA (t : TypeId) (x : AV) : Option Action :=
  match E.ty t, x with
  | some ti, .d (.leaf (.string s)) => match ti.desc with
    | .string => some (.new (.iter s 0) fun id => .ptr id 0)
    | _ => none
  | some ti, .map b => match ti.desc with
    | .map _ _ => some (.other fun H => match H.get b with
      | .map es => some (.ptr H.n 0, H.push (.miter b es.length [] es.length))
      | _ => none)
    | _ => none
  | _, _ => none

def nextA (x : AV) (isString : Bool) : Option Action :=
  match x, isString with
  | .ptr b 0, true => some (.other fun H => match H.get b with
    | .iter s p => if p < s.size then
        some (.tup [bool true, natA p, leaf (.int .i32 (.ofNat (Utf8.decode s p).1))], H.set b (.iter s (p + (Utf8.decode s p).2)))
      else some (.tup [bool false], H)
    | _ => none)
  | _, _ => none

def entryA (x : AV) : Option Action :=
  match x with
  | .ptr b 0 => some (.other fun H => match H.get b with
    | .miter mb _ (i :: _) last => match H.get mb with
      | .map es => bif Nat.beq es.length last then (match nth es i with
        | some (k, v) => some (.tup [k, v], H)
        | none => none) else none
      | _ => none
    | _ => none)
  | _ => none

def callOp (ρ : Operand → AV) (c : Call) : Option Action :=
  match c.callee with
  | .builtin b => builtinA E b c.argTypes (c.args.toList.map ρ)
  | .value (.func f) => callA E r f (c.args.toList.map ρ)
  | .value f => valueCall E r (ρ f) (c.args.toList.map ρ)
  | .invoke _ _ => none

def boxA (x : AV) : Option Action :=
  match allCells x.cells with
  | true => some (.new (.cells 0 x.cells) fun id => .ptr id 0)
  | false => none

def allocA (t : TypeId) : Option Action :=
  match E.ty t with
  | some ti => some (.new (.cells 0 ti.za) fun id => .ptr id 0)
  | none => none

def pickA (c a b : AV) : Option Action :=
  match asBool c with
  | some true => some (.ret a)
  | some false => some (.ret b)
  | none => none

def makeFuncA (ρ : Operand → AV) (fn : Fn) (first captured : Array Operand) : Option Action :=
  match fn, first.toList with
  | .func f, [] => some (.ret (mkFn f (captured.toList.map ρ)))
  | _, _ => none

def extractA (t : AV) (ix : Nat) : Option Action :=
  match t with
  | .tup vs => retO (nth vs ix)
  | _ => none

/-- What operation 'o' does on these operands. -/
def act (ρ : Operand → AV) (o : Op) : Option Action :=
  match o with
  | .load t a => loadA E t (ρ a)
  | .indexAddr t x ix => retO (indexAddrA E t (ρ x) (ρ ix))
  | .binOp op t x y _ => retO (binA E op t (isLit x || isLit y) (ρ x) (ρ y))
  | .move x => some (.ret (ρ x))
  | .assign x => some (.ret (ρ x))
  | .pick c a b => pickA (ρ c) (ρ a) (ρ b)
  | .alloc t => allocA E t
  | .box _ x => boxA (ρ x)
  | .build t parts => buildA E ρ t parts
  | .buildSlice t len parts => buildSliceA E ρ t len parts
  | .store t a x => storeA E t (ρ a) (ρ x)
  | .nilCheck x => nilCheckA (ρ x)
  | .unOp op _ x => retO (unA op (ρ x))
  | .convert src dst x => convA E src dst (ρ x)
  | .sliceToArrayPointer t x => retO (toArrayA E t (ρ x))
  | .makeInterface t x => mkIfaceA E t (ρ x)
  | .makeFunc fn first captured => makeFuncA ρ fn first captured
  | .makeMap _ none => some (.new (.map []) fun id => .map id)
  | .makeSlice t l c => makeSliceA E t (ρ l) (ρ c)
  | .slice t x lo hi mx => retO (sliceA E t (ρ x) (lo.map ρ) (hi.map ρ) (mx.map ρ))
  | .fieldAddr t x f => retO (fieldAddrA E t (ρ x) f)
  | .field t x f => fieldA E t (ρ x) f
  | .index t x ix => retO (indexA E t (ρ x) (ρ ix))
  | .lookup t x ix ok => lookupA E t (ρ x) (ρ ix) ok
  | .mapUpdate t m k x => mapUpdateA E t (ρ m) (ρ k) (ρ x)
  | .insert t m k x => mapUpdateA E t (ρ m) (ρ k) (ρ x)
  | .range t x => rangeA E t (ρ x)
  | .next x s => nextA (ρ x) s
  | .entry x => entryA (ρ x)
  | .extract t ix => extractA (ρ t) ix
  | .call c => callOp E r ρ c
  | _ => none

def evalO (t : Tm) : Operand → AV
  | .tmp i => Tm.get t i
  | .const v => ofConst v
  | .global g => leaf (.pointer (some ⟨g, 0, none⟩))
  | .func f => .d (.fn f [])

/-- Is the operation carried out? -/
def wantedA (ops : List Oper) (t : Tm) (o : Oper) : Bool :=
  match o.guard with
  | none => true
  | some (j, want) => match nth ops j with
    | some p => match p.dst with
      | some d => match Tm.get t d with
        | .d (.leaf (.bool b)) => b == want
        | _ => false
      | none => false
    | none => false

def evOp (ops : List Oper) (o : Oper) (st : St) : Option St :=
  match wantedA ops st.t o with
  | true => match act E r (evalO st.t) o.op with
    | some a => match a.exec none st.H with
      | some (v, H) => some ⟨put st.t o.dst v, H⟩
      | none => none
    | none => none
  | false => some ⟨put st.t o.dst undefA, st.H⟩

def evOps (ops : List Oper) : List Oper → St → Option St
  | [], st => some st
  | o :: rest, st => match evOp E r ops o st with
    | some st => evOps ops rest st
    | none => none

/-- The operations that must come before, of a region that draws its order. -/
def preds (o : Oper) : List Nat := o.after.toList.filterMap fun e => if Region.binds .any e then some e.on else none

/-- Does i come before j in every order? -/
def ordered (ops : List Oper) : Nat → Nat → Nat → Bool
  | 0, _, _ => false
  | n + 1, i, j => match ops[j]? with
    | some o => (preds o).any fun p => p == i || (i < p && ordered ops n i p)
    | none => false

def clash (ops : List Oper) (base : Nat) (y : Log) : List Log → Bool
  | [] => false
  | x :: rest => match Log.compat base x y || ordered ops ops.length x.i y.i with
    | true => clash ops base y rest
    | false => true

/-- Operations of a region that draws. 'base': the first of the blocks that are kept for what its operations lay. -/
def evOpsD (ops : List Oper) (base : Nat) : Nat → List Oper → List Log → St → Option St
  | _, [], _, st => some st
  | i, o :: rest, log, st =>
    match wantedA ops st.t o with
    | true => match act E r (evalO st.t) o.op with
      | some a => match a.exec (some (Nat.add base i)) st.H with
        | some (v, H) => match a with
          | .ret _ => evOpsD ops base (Nat.succ i) rest log ⟨put st.t o.dst v, H⟩
          | a => match clash ops base ⟨i, a, a.foot st.H⟩ log with
            | true => none
            | false => evOpsD ops base (Nat.succ i) rest (⟨i, a, a.foot st.H⟩ :: log) ⟨put st.t o.dst v, H⟩
        | none => none
      | none => none
    | false => evOpsD ops base (Nat.succ i) rest log ⟨put st.t o.dst undefA, st.H⟩

def resultA (st : St) : ResultVar → Option AV
  | .tmp t => some (Tm.get st.t t)
  | .cell a t => match E.ty t, Tm.get st.t a with
    | some ti, .ptr b off => match st.H.get b with
      | .cells _ cs => match cut cs off ti.size with
        | some cs => ofCells ti.agg cs
        | none => none
      | _ => none
    | _, _ => none

def resultsL (st : St) : List ResultVar → Option (List AV)
  | [] => some []
  | x :: xs => match resultA E st x, resultsL st xs with
    | some v, some vs => some (v :: vs)
    | _, _ => none

def resultsA (fn : Func) (st : St) : Option AV :=
  match resultsL E st fn.results.toList with
  | some [v] => some v
  | some vs => some (.tup vs)
  | none => none

def rangeDone (l : Nat) (t : Tm) (x : Option (AV × Heap)) : Option (Ex × St) :=
  match x with
  | some (_, H) => match H.get l with
    | .loop f' t' p' a' b' s j => if s == .busy then none else
      match j with
      | none => some (.normal, ⟨t, H.set l (.loop f' t' p' a' b' .exhausted j)⟩)
      | some (.exit id) => some (.exit id, ⟨t, H.set l (.loop f' t' p' a' b' .exhausted j)⟩)
      | some .ret => some (.ret, ⟨t, H.set l (.loop f' t' p' a' b' .exhausted j)⟩)
      | some _ => none
    | _ => none
  | none => none

def evCode (f : FuncId) : Code → St → Option (Ex × St)
  | .skip, st => some (.normal, st)
  | .region _ ops draw, st =>
    match draw with
    | true => match evOpsD E r ops.toList st.H.n 0 ops.toList [] ⟨st.t, st.H.reserve ops.toList.length⟩ with
      | some st => some (.normal, st)
      | none => none
    | false => match evOps E r ops.toList ops.toList st with
      | some st => some (.normal, st)
      | none => none
  | .seq a b, st => match evCode f a st with
    | some (.normal, st) => evCode f b st
    | x => x
  | .cond c a b, st => match asBool (evalO st.t c) with
    | some true => evCode f a st
    | some false => evCode f b st
    | none => none
  | .block id c, st => match evCode f c st with
    | some (.exit id', st) => bif Nat.beq id' id then some (.normal, st) else some (.exit id', st)
    | x => x
  | .loop c, st => match evCode f c st with
    | some (.normal, st) => r.code f (.loop c) st
    | x => x
  | .rangeFunc g params asg body, st =>
    match evalO st.t g with
    | .d (.fn g caps) => match E.hook g with
      | some _ => none
      | none => rangeDone st.H.n st.t (r.call g (.yield st.H.n :: caps.map .d) (st.H.push (.loop f st.t params.toList asg body .ready none)))
    | .fn g caps => match E.hook g with
      | some _ => none
      | none => rangeDone st.H.n st.t (r.call g (.yield st.H.n :: caps) (st.H.push (.loop f st.t params.toList asg body .ready none)))
    | _ => none
  | .exit id, st => some (.exit id, st)
  | .ret, st => some (.ret, st)
  | _, _ => none

/-- Are there at most n? -/
def fewer {α : Type} : List α → Nat → Bool
  | [], _ => true
  | _ :: l, n => match n with
    | 0 => false
    | n + 1 => fewer l n

def evCall (f : FuncId) (args : List AV) (H : Heap) : Option (AV × Heap) :=
  match E.fn f with
  | some fn => match fn.body with
    | some c =>
      match fewer args fn.ntmps with
      | false => none
      | true =>
      match evCode E r f c ⟨Tm.mk0 fn.ntmps args, H⟩ with
      | some (.normal, st) => match resultsA E fn st with
        | some v => some (v, st.H)
        | none => none
      | some (.ret, st) => match resultsA E fn st with
        | some v => some (v, st.H)
        | none => none
      | _ => none
    | none => none
  | none => none

end

/-- The evaluator, with n rounds and calls in depth. -/
def ev (E : Env) : Nat → Rec
  | 0 => { code := fun _ _ _ => none, call := fun _ _ _ => none }
  | n + 1 => { code := evCode E (ev E n), call := evCall E (ev E n) }

end Go.Ab
