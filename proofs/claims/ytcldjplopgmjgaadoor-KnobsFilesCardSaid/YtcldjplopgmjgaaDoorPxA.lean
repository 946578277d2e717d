/- The abstract machine, a part of it: no statement of the claim's own. -/
import Derived.CallsIn
import Derived.OrdersIn
import Derived.Below

/- The abstract machine's values, states, code; the code's compilation into it; its operations as functions. -/
namespace Go.Px

/-- Data: no reference into a frame. -/
inductive DV where
  | b (x : Bool) | i (k : IntKind) (n : Int) | s (x : ByteArray)
  | agg (cs : List DV)
  | sl (sz : Nat) (xs : List DV) | nsl
  | np | op (o off : Nat) | ep (sz : Nat) (xs : List DV) (i off : Nat)
  | nm | mo (o : Nat)
  | nf | fd (f : FuncId) (cs : List DV)
  deriving Inhabited

/-- A string's bytes. -/
def bs (l : List UInt8) : ByteArray := ⟨l.toArray⟩

inductive Ref where
  | loc (s : Nat) | up (r : Ref)
  deriving DecidableEq

inductive AV where
  | d (v : DV)
  | os (sz : Nat) (xs : List DV)
  | bp (r : Ref) (off : Nat)
  | mb (r : Ref)
  | it (r : Ref)
  | fn (f : FuncId) (cs : List AV)
  | tup (vs : List AV)
  | yl
  | dead
  deriving Inhabited

def DV.cells : DV → List DV
  | .agg cs => cs
  | v => [v]

/-- An entry of a map. -/
structure ME where
  k : DV
  v : DV
  born : Nat

inductive BObj where
  | cells (cs : List AV)
  | map (es : List ME) (clk : Nat)
  | iter (m : AV) (since : Nat) (seen : List Nat)

abbrev HObj := BObj

abbrev Frm := List (Nat × BObj)

/-- Where a slice that is owned lies. -/
inductive OL where
  | t (n : Nat) | c (r : Ref) (off : Nat) | o (o off : Nat)
  deriving DecidableEq

structure St where
  tm : List (Nat × AV)
  bx : Frm
  up : List Frm
  hp : Option (List HObj)
  cp : List (Nat × OL)

def AV.strip : AV → AV
  | .os sz xs => .d (.sl sz xs)
  | v => v

mutual
def AV.lift : AV → AV
  | .bp r o => .bp (.up r) o
  | .mb r => .mb (.up r)
  | .it r => .it (.up r)
  | .fn f cs => .fn f (AV.liftL cs)
  | .tup vs => .tup (AV.liftL vs)
  | .d v => .d v
  | .os sz xs => .os sz xs
  | .yl => .yl
  | .dead => .dead
def AV.liftL : List AV → List AV
  | [] => []
  | a :: l => a.lift :: AV.liftL l
end

mutual
def AV.toD : AV → Option DV
  | .d v => some v
  | .os sz xs => some (.sl sz xs)
  | .fn f cs => match AV.toDL cs with | some vs => some (.fd f vs) | none => none
  | _ => none
def AV.toDL : List AV → Option (List DV)
  | [] => some []
  | a :: l => match a.toD, AV.toDL l with
    | some v, some vs => some (v :: vs)
    | _, _ => none
end

/-- Slots, in the order of their numbers. -/
def getT : List (Nat × AV) → Nat → AV
  | [], _ => .dead
  | (k, v) :: l, n => if k = n then v else getT l n
def setT : List (Nat × AV) → Nat → AV → List (Nat × AV)
  | [], n, v => [(n, v)]
  | (k, u) :: l, n, v => if k = n then (k, v) :: l else if n < k then (n, v) :: (k, u) :: l else (k, u) :: setT l n v

/-- Boxes by their slots, in the order of the slots. -/
def frGet : Frm → Nat → Option BObj
  | [], _ => none
  | (k, o) :: l, s => if k = s then some o else frGet l s
def frSet : Frm → Nat → BObj → Frm
  | [], _, _ => []
  | (k, o) :: l, s, o' => if k = s then (k, o') :: l else (k, o) :: frSet l s o'
def frIns : Frm → Nat → BObj → Frm
  | [], s, o' => [(s, o')]
  | (k, o) :: l, s, o' => if s < k then (s, o') :: (k, o) :: l else (k, o) :: frIns l s o'

def refGet : List Frm → Ref → Option BObj
  | [], _ => none
  | f :: _, .loc s => frGet f s
  | _ :: l, .up r => refGet l r
def refSet : List Frm → Ref → BObj → List Frm
  | [], _, _ => []
  | f :: l, .loc s, o => frSet f s o :: l
  | f :: l, .up r, o => f :: refSet l r o

/-! ### The code, its types resolved -/

inductive XV where
  | t (n : Nat) | c (v : DV) | f (f : FuncId)

inductive CK where
  | int (k : IntKind) | str | b2s | s2b (e : TypeId)

/-- How two values are compared: cells of one kind (0: bool, 1: int, 2: string), flat cells, pointers, and what is only compared with nil. -/
inductive EK where
  | c (k : Nat) | ag (sh : List Nat) | p | sl | m | f

inductive XK where
  | mv (x : XV) | asg (x : XV) | pick (c a b : XV)
  | alloc (z : List DV) (h : Bool) | box (n : Nat) (x : XV) (h : Bool)
  | build (z : List DV) (ps : List (Nat × Nat × XV))
  | bsl (z : DV) (len : Nat) (ps : List (Nat × XV))
  | load (ag : Bool) (n : Nat) (a : XV) | store (n : Nat) (a x : XV) | nilc (x : XV)
  | bin (op : BinOp) (x y : XV) | eq (neg : Bool) (e : EK) (x y : XV) | un (op : UnOp) (x : XV)
  | conv (k : CK) (x : XV)
  | mkf (f : FuncId) (cs : List XV)
  | mks (z : DV) (bytes : Nat) (l c : XV)
  | slc (es : Option Nat) (x : XV) (lo hi mx : Option XV)
  | fld (ag : Bool) (off n : Nat) (x : XV) | fad (off : Nat) (x : XV)
  | iad (arr : Option Nat) (n : Nat) (x i : XV)
  | idx (ag : Bool) (len n : Nat) (x i : XV) | idxs (x i : XV)
  | ext (x : XV) (i : Nat)
  | call (f : XV) (args : List XV)
  | len (k : Nat) (x : XV) | app (sz bytes : Nat) (x y : XV) | mx (xs : List XV) | mn (xs : List XV)
  | mkm (h : Bool) | lookup (z : DV) (e : EK) (x k : XV) (ok : Bool) | mupd (e : EK) (m k v : XV) | del (e : EK) (m k : XV)
  | bad

structure XO where
  dst : Option Nat
  k : XK
  g : Option (Nat × Bool)

inductive XC where
  | skip | reg (ops : List XO) | draw (un : List (List Nat)) (ops : List XO)
  | seq (a b : XC) | cond (c : XV) (a b : XC) | block (id : Nat) (b : XC) | loop (ts bs : List Nat) (b : XC)
  | kp (ts bs : List Nat) (b : XC)
  | exit (id : Nat) | ret | bad

end Go.Px

/- The abstract machine's operations, as functions on states. -/
namespace Go.Px

/-! ### Numbers, strings, equality -/

def bitI (op : BinOp) (k : IntKind) (x y : Int) : Int :=
  let a := BitVec.ofInt k.bits x
  let b := BitVec.ofInt k.bits y
  match op with
  | .and => k.wrap (a &&& b).toNat
  | .or => k.wrap (a ||| b).toNat
  | .xor => k.wrap (a ^^^ b).toNat
  | _ => k.wrap (a &&& ~~~b).toNat

def binI (op : BinOp) (k : IntKind) (x y : Int) : Option DV :=
  match op with
  | .add => some (.i k (k.wrap (x + y)))
  | .sub => some (.i k (k.wrap (x - y)))
  | .mul => some (.i k (k.wrap (x * y)))
  | .quo => if y = 0 then none else some (.i k (k.wrap (x.tdiv y)))
  | .rem => if y = 0 then none else some (.i k (x.tmod y))
  | .and => some (.i k (bitI .and k x y))
  | .or => some (.i k (bitI .or k x y))
  | .xor => some (.i k (bitI .xor k x y))
  | .andNot => some (.i k (bitI .andNot k x y))
  | .shl => if y < 0 then none else some (.i k (k.wrap (x * 2 ^ (min y.toNat k.bits))))
  | .shr => if y < 0 then none else some (.i k (x.fdiv (2 ^ (min y.toNat k.bits))))
  | .eql => some (.b (decide (x = y)))
  | .neq => some (.b (!decide (x = y)))
  | .lss => some (.b (decide (x < y)))
  | .leq => some (.b (decide (x ≤ y)))
  | .gtr => some (.b (decide (x > y)))
  | .geq => some (.b (decide (x ≥ y)))

def binS (op : BinOp) (x y : ByteArray) : Option DV :=
  match op with
  | .add => if x.size + y.size ≤ 9223372036854775807 then some (.s (x ++ y)) else none
  | .eql => some (.b (decide (x = y)))
  | .neq => some (.b (!decide (x = y)))
  | .lss => some (.b (Op.bytesLess x.data.toList y.data.toList))
  | .leq => some (.b (Op.bytesLess x.data.toList y.data.toList || decide (x = y)))
  | .gtr => some (.b (!(Op.bytesLess x.data.toList y.data.toList || decide (x = y))))
  | .geq => some (.b (!Op.bytesLess x.data.toList y.data.toList))
  | _ => none

def binV (op : BinOp) : AV → AV → Option DV
  | .d (.i k x), .d (.i j y) => if op = .shl ∨ op = .shr ∨ k = j then binI op k x y else none
  | .d (.s x), .d (.s y) => binS op x y
  | _, _ => none

def eqC : Nat → DV → DV → Option Bool
  | 0, .b x, .b y => some (x == y)
  | 1, .i k x, .i j y => if k = j then some (decide (x = y)) else none
  | 2, .s x, .s y => some (decide (x = y))
  | _, _, _ => none

def eqL : List Nat → List DV → List DV → Option Bool
  | [], [], [] => some true
  | k :: sh, x :: xs, y :: ys => match eqC k x y, eqL sh xs ys with
    | some a, some b => some (a && b)
    | _, _ => none
  | _, _, _ => none

def eqD : EK → DV → DV → Option Bool
  | .c k, x, y => eqC k x y
  | .ag sh, .agg xs, .agg ys => eqL sh xs ys
  | .p, .np, .np => some true | .p, .np, .op .. => some false | .p, .op .., .np => some false
  | .p, .op o a, .op o' a' => if o = o' then some (decide (a = a')) else none
  | .sl, .nsl, .nsl => some true | .sl, .nsl, .sl .. => some false | .sl, .sl .., .nsl => some false
  | .m, .nm, .nm => some true | .m, .nm, .mo _ => some false | .m, .mo _, .nm => some false
  | .f, .nf, .nf => some true | .f, .nf, .fd .. => some false | .f, .fd .., .nf => some false
  | _, _, _ => none

def eqA : EK → AV → AV → Option Bool
  | e, .d x, .d y => eqD e x y
  | .p, .bp .., .d .np => some false | .p, .d .np, .bp .. => some false
  | .m, .mb .., .d .nm => some false | .m, .d .nm, .mb .. => some false
  | .f, .fn .., .d .nf => some false | .f, .d .nf, .fn .. => some false
  | _, _, _ => none

def unV (op : UnOp) : AV → Option DV
  | .d (.b x) => match op with | .not => some (.b (!x)) | _ => none
  | .d (.i k x) => match op with
    | .neg => some (.i k (k.wrap (0 - x)))
    | .xor => some (.i k (bitI .xor k (if k.signed then -1 else k.max) x))
    | _ => none
  | _ => none

def encB (l : List UInt8) : List DV := l.map fun b => .i .u8 b.toNat

def toBytes : List DV → Option (List UInt8)
  | [] => some []
  | .i .u8 n :: l => (toBytes l).map (UInt8.ofNat n.toNat :: ·)
  | _ :: _ => none

def convV (k : CK) : AV → Option AV
  | .d (.i _ n) => match k with | .int j => some (.d (.i j (j.wrap n))) | _ => none
  | .d (.s x) => match k with
    | .str => some (.d (.s x))
    | .s2b _ => if x.size ≤ 140737488355328 then some (.os 1 (encB x.data.toList)) else none
    | _ => none
  | .d (.sl 1 xs) => match k with | .b2s => (toBytes xs).map fun l => .d (.s ⟨l.toArray⟩) | _ => none
  | .d .nsl => match k with | .b2s => some (.d (.s .empty)) | _ => none
  | _ => none

/-! ### States -/

def rmT : List (Nat × OL) → Nat → List (Nat × OL)
  | [], _ => []
  | (a, l) :: r, t => if a = t ∨ l = .t t then rmT r t else (a, l) :: rmT r t

def rmC : List (Nat × OL) → List (Nat × OL)
  | [] => []
  | (a, .t n) :: r => (a, .t n) :: rmC r
  | _ :: r => rmC r

def inCp : List (Nat × OL) → Nat → OL → List (Nat × OL)
  | [], a, l => [(a, l)]
  | (b, m) :: r, a, l => if a < b then (a, l) :: (b, m) :: r else (b, m) :: inCp r a l

def cpGet : List (Nat × OL) → Nat → Option OL
  | [], _ => none
  | (b, m) :: r, a => if b = a then some m else cpGet r a

def St.put (st : St) (d : Option Nat) (v : AV) : St :=
  match d with
  | some t => { st with tm := setT st.tm t v, cp := rmT st.cp t }
  | none => st

/-- A slot's slice gives its tail away. -/
def St.lose (st : St) (t : Nat) : St := { st with tm := setT st.tm t (getT st.tm t).strip }

def St.copied (st : St) (d : Option Nat) (l : OL) : St :=
  match d with
  | some t => { st with cp := inCp st.cp t l }
  | none => st

def ev (st : St) : XV → AV
  | .t n => (getT st.tm n).strip
  | .c v => .d v
  | .f f => .fn f []

/-- An operand as a slot that owns its slice's tail. -/
def owned (st : St) : XV → Option (Nat × Nat × List DV)
  | .t n => match getT st.tm n with | .os sz xs => some (n, sz, xs) | _ => none
  | _ => none

def cellAt {α : Type} : List α → Nat → Option α
  | [], _ => none
  | a :: _, 0 => some a
  | _ :: l, n + 1 => cellAt l n

def setAt {α : Type} : List α → Nat → α → List α
  | [], _, _ => []
  | _ :: l, 0, v => v :: l
  | a :: l, n + 1, v => a :: setAt l n v

def splL {α : Type} : List α → Nat → List α → List α
  | l, 0, [] => l
  | [], _, _ => []
  | _ :: l, 0, c :: cs => c :: splL l 0 cs
  | a :: l, n + 1, cs => a :: splL l n cs

def liftR : Ref → AV → AV
  | .loc _, v => v
  | .up r, v => (liftR r v).lift

def St.frs (st : St) : List Frm := st.bx :: st.up

def St.setFrs (st : St) : List Frm → St
  | b :: u => { st with bx := b, up := u }
  | [] => st

def hGet (h : Option (List BObj)) (o : Nat) : Option HObj := h.bind (·[o]?)
def hSet (h : Option (List BObj)) (o : Nat) (x : HObj) : Option (List BObj) := h.map (·.set o x)

/-- The cells that lie behind a pointer, as many as asked. -/
def rdCells (st : St) (n : Nat) : AV → Option (List AV)
  | .bp r off => match refGet st.frs r with
    | some (.cells cs) => if off + n ≤ cs.length then some (((cs.drop off).take n).map (liftR r)) else none
    | _ => none
  | .d (.op o off) => match hGet st.hp o with
    | some (.cells cs) => if off + n ≤ cs.length then some ((cs.drop off).take n) else none
    | _ => none
  | .d (.ep _ xs i off) => match xs[i]? with
    | some x => if off + n ≤ x.cells.length then some (((x.cells.drop off).take n).map .d) else none
    | none => none
  | _ => none

/-- May it lie in a cell that outlives the frame? -/
def AV.plain : AV → Bool
  | .d _ | .os .. => true
  | _ => false

def wrCells (st : St) (a : AV) (vs : List AV) : Option St :=
  match a with
  | .bp r off => match refGet st.frs r with
    | some (.cells cs) =>
      if off + vs.length ≤ cs.length ∧ (r matches .loc _ ∨ vs.all AV.plain = true) then some { (st.setFrs (refSet st.frs r (.cells (splL cs off vs)))) with cp := rmC st.cp } else none
    | _ => none
  | .d (.op o off) => match hGet st.hp o with
    | some (.cells cs) => if off + vs.length ≤ cs.length ∧ vs.all AV.plain = true then some { st with hp := hSet st.hp o (.cells (splL cs off vs)), cp := rmC st.cp } else none
    | _ => none
  | _ => none

def locOf : AV → Option OL
  | .bp r off => some (.c r off)
  | .d (.op o off) => some (.o o off)
  | _ => none

/-- A value's cells, n of them; whether an owner's place was given up. -/
def valCells (st : St) (n : Nat) (x : XV) : Option (List AV × St) :=
  match owned st x with
  | some (t, sz, xs) => if n = 1 then some ([.os sz xs], st.lose t) else none
  | none => match ev st x with
    | .d (.agg cs) => if cs.length = n then some (cs.map .d, st) else none
    | .dead => none | .tup _ => none | .yl => none
    | v => if n = 1 then some ([v], st) else none

def partD (ag : Bool) (cs : List DV) (off n : Nat) : Option DV :=
  if ag then (if off + n ≤ cs.length then some (.agg ((cs.drop off).take n)) else none) else cellAt cs off

def bldD (st : St) : List DV → List (Nat × Nat × XV) → Option (List DV)
  | z, [] => some z
  | z, (off, n, x) :: l => match (ev st x).toD with
    | some v => if v.cells.length = n ∧ off + n ≤ z.length then bldD st (splL z off v.cells) l else none
    | none => none

def bslD (st : St) (n : Nat) : List DV → List (Nat × XV) → Option (List DV)
  | z, [] => some z
  | z, (i, x) :: l => match (ev st x).toD with
    | some v => if v.cells.length = n ∧ i < z.length then bslD st n (setAt z i v) l else none
    | none => none

def ofAgg : DV → List DV := DV.cells

def listOf : AV → Option (Option Nat × List DV)
  | .d (.sl sz xs) => some (some sz, xs)
  | .d .nsl => some (none, [])
  | .d (.s b) => some (some 1, encB b.data.toList)
  | _ => none

/-- Append: who owns what is appended to. -/
def appX (st : St) (sz bytes : Nat) (x y : XV) : Option (AV × St) :=
  match listOf (ev st y) with
  | none => none
  | some (zy, ys) =>
    if zy = some sz ∨ zy = none then
      let fin (xs : List DV) (s' : St) : Option (AV × St) :=
        if (xs.length + ys.length) * bytes ≤ 140737488355328 then some (.os sz (xs ++ ys), s') else none
      match owned st x with
      | some (t, z, xs) => if z = sz then fin xs (st.lose t) else none
      | none => match ev st x with
        | .d .nsl => match ys with | [] => some (.d .nsl, st) | _ :: _ => fin [] st
        | .d (.sl z xs) => match x with
          | .t n => match cpGet st.cp n with
            | some (.t m) => (match getT st.tm m with
              | .os z' xs' => if z' = sz then fin xs' (st.lose m) else none
              | _ => none)
            | some (.c r off) => (match refGet st.frs r with
              | some (.cells cs) => (match cellAt cs off with
                | some (.os z' xs') => if z' = sz then fin xs' (st.setFrs (refSet st.frs r (.cells (setAt cs off (.d (.sl z' xs')))))) else none
                | _ => none)
              | _ => none)
            | some (.o o off) => (match hGet st.hp o with
              | some (.cells cs) => (match cellAt cs off with
                | some (.os z' xs') => if z' = sz then fin xs' { st with hp := hSet st.hp o (.cells (setAt cs off (.d (.sl z' xs')))) } else none
                | _ => none)
              | _ => none)
            | none => match ys with | [] => some (.d (.sl z xs), st) | _ :: _ => none
          | _ => none
        | _ => none
    else none

def intOf : AV → Option Int
  | .d (.i _ n) => some n
  | _ => none

def foldI (f : Int → Int → Int) (k : IntKind) : Int → List AV → Option DV
  | a, [] => some (.i k a)
  | a, .d (.i _ b) :: l => foldI f k (f a b) l
  | _, _ => none
def mxI : List AV → Option DV
  | .d (.i k a) :: l => foldI (fun a b => if b > a then b else a) k a l
  | _ => none
def mnI : List AV → Option DV
  | .d (.i k a) :: l => foldI (fun a b => if b < a then b else a) k a l
  | _ => none

/-- A new object. -/
def St.pushH (st : St) (x : HObj) : Option (Nat × St) :=
  match st.hp with
  | some os => some (os.length, { st with hp := some (os ++ [x]) })
  | none => none
/-- A new box. -/
def St.pushB (st : St) (t : Nat) (x : BObj) : Option St :=
  match frGet st.bx t with
  | none => some { st with bx := frIns st.bx t x }
  | some _ => none

/-! ### Maps -/

def mapAt (st : St) : AV → Option (List ME × Nat)
  | .mb r => match refGet st.frs r with | some (.map es c) => some (es, c) | _ => none
  | .d (.mo o) => match hGet st.hp o with | some (.map es c) => some (es, c) | _ => none
  | .d .nm => some ([], 0)
  | _ => none

def mapSet (st : St) (es : List ME) (c : Nat) : AV → Option St
  | .mb r => some (st.setFrs (refSet st.frs r (.map es c)))
  | .d (.mo o) => some { st with hp := hSet st.hp o (.map es c) }
  | _ => none

/-- The place of a key, and what is there: 'some none': it is not there. -/
def findE (q : EK) (k : DV) : List ME → Option (Option (Nat × DV))
  | [] => some none
  | e :: l => match eqD q k e.k with
    | some true => some (some (0, e.v))
    | some false => (findE q k l).map fun r => r.map fun p => (p.1 + 1, p.2)
    | none => none

def setE : List ME → Nat → DV → DV → List ME
  | [], _, _, _ => []
  | e :: l, 0, k, v => { e with k := k, v := v } :: l
  | e :: l, n + 1, k, v => e :: setE l n k v

def delE : List ME → Nat → List ME
  | [], _ => []
  | _ :: l, 0 => l
  | e :: l, n + 1 => e :: delE l n

/-! ### The operations that need no call -/

def sliceX (es : Option Nat) (v : AV) (lo hi mx : Option Int) : Option AV :=
  match v with
  | .d (.s b) =>
    if es = none ∧ mx = none ∧ 0 ≤ lo.getD 0 ∧ lo.getD 0 ≤ hi.getD b.size ∧ hi.getD b.size ≤ b.size then some (.d (.s (b.extract (lo.getD 0).toNat (hi.getD b.size).toNat))) else none
  | .d (.sl sz xs) =>
    match mx with
    | none => if es = some sz ∧ 0 ≤ lo.getD 0 ∧ lo.getD 0 ≤ hi.getD xs.length ∧ hi.getD xs.length ≤ xs.length then some (.d (.sl sz ((xs.take (hi.getD xs.length).toNat).drop (lo.getD 0).toNat))) else none
    | some m => match hi with
      | some h => if es = some sz ∧ 0 ≤ lo.getD 0 ∧ lo.getD 0 ≤ h ∧ h = m ∧ m ≤ xs.length then some (.os sz ((xs.take h.toNat).drop (lo.getD 0).toNat)) else none
      | none => none
  | .d .nsl => if es ≠ none ∧ lo.getD 0 = 0 ∧ hi.getD 0 = 0 ∧ mx = none then some (.d .nsl) else none
  | _ => none

def optI (st : St) : Option XV → Option (Option Int)
  | none => some none
  | some x => (intOf (ev st x)).map some

def opF (o : XO) (st : St) : Option St :=
  match o.k with
  | .mv x => match owned st x with
    | some (t, sz, xs) => if o.dst = some t then none else some ((st.put o.dst (.d (.sl sz xs))).copied o.dst (.t t))
    | none => some (st.put o.dst (ev st x))
  | .asg x => match owned st x with
    | some (t, sz, xs) => if o.dst = some t ∨ o.dst = none then none else some ((st.lose t).put o.dst (.os sz xs))
    | none => some (st.put o.dst (ev st x))
  | .pick c a b => match ev st c with
    | .d (.b t) => some (st.put o.dst (if t then ev st a else ev st b))
    | _ => none
  | .alloc z h => match o.dst with
    | some t => if h then (st.pushH (.cells (z.map .d))).map fun p => p.2.put o.dst (.d (.op p.1 0))
      else (st.pushB t (.cells (z.map .d))).map fun s => s.put o.dst (.bp (.loc t) 0)
    | none => none
  | .box n x h => match o.dst with
    | some t => match valCells st n x with
      | some (vs, st') => if h then (if vs.all AV.plain then (st'.pushH (.cells vs)).map fun p => p.2.put o.dst (.d (.op p.1 0)) else none)
        else (st'.pushB t (.cells vs)).map fun s => s.put o.dst (.bp (.loc t) 0)
      | none => none
    | none => none
  | .build z ps => (bldD st z ps).map fun cs => st.put o.dst (.d (.agg cs))
  | .bsl z len ps => (bslD st z.cells.length (List.replicate len z) ps).map fun xs => st.put o.dst (.os z.cells.length xs)
  | .load ag n a => match rdCells st n (ev st a) with
    | none => none
    | some cs => if ag then (AV.toDL cs).map fun ds => st.put o.dst (.d (.agg ds))
      else match cs with
        | [.os sz xs] => (match locOf (ev st a) with
          | some l => some ((st.put o.dst (.d (.sl sz xs))).copied o.dst l)
          | none => none)
        | [v] => some (st.put o.dst v)
        | _ => none
  | .store n a x => match valCells st n x with
    | some (vs, st') => (wrCells st' (ev st a) vs).map fun s => s.put o.dst .dead
    | none => none
  | .nilc x => match ev st x with
    | .bp r off => some (st.put o.dst (.bp r off))
    | .d (.op p off) => some (st.put o.dst (.d (.op p off)))
    | .d (.ep sz xs i off) => some (st.put o.dst (.d (.ep sz xs i off)))
    | .fn f cs => some (st.put o.dst (.fn f cs))
    | .d (.fd f cs) => some (st.put o.dst (.d (.fd f cs)))
    | _ => none
  | .bin op x y => (binV op (ev st x) (ev st y)).map fun v => st.put o.dst (.d v)
  | .eq neg e x y => (eqA e (ev st x) (ev st y)).map fun t => st.put o.dst (.d (.b (if neg then !t else t)))
  | .un op x => (unV op (ev st x)).map fun v => st.put o.dst (.d v)
  | .conv k x => (convV k (ev st x)).map fun v => st.put o.dst v
  | .mkf f cs => some (st.put o.dst (.fn f (cs.map (ev st))))
  | .mks z bytes l c => match ev st l, ev st c with
    | .d (.i .i64 n), .d (.i .i64 m) => if 0 ≤ n ∧ n ≤ m ∧ m * bytes ≤ 140737488355328 ∧ m ≤ 140737488355328 then some (st.put o.dst (.os z.cells.length (List.replicate n.toNat z))) else none
    | _, _ => none
  | .slc es x lo hi mx => match optI st lo, optI st hi, optI st mx with
    | some l, some h, some m => (sliceX es (ev st x) l h m).map fun v => st.put o.dst v
    | _, _, _ => none
  | .fld ag off n x => match ev st x with
    | .d (.agg cs) => (partD ag cs off n).map fun v => st.put o.dst (.d v)
    | _ => none
  | .fad off x => match ev st x with
    | .bp r a => some (st.put o.dst (.bp r (a + off)))
    | .d (.op p a) => some (st.put o.dst (.d (.op p (a + off))))
    | .d (.ep sz xs i a) => some (st.put o.dst (.d (.ep sz xs i (a + off))))
    | _ => none
  | .iad arr n x ix => match intOf (ev st ix) with
    | none => none
    | some i => match arr with
      | some len => if 0 ≤ i ∧ i < len then (match ev st x with
        | .bp r a => some (st.put o.dst (.bp r (a + i.toNat * n)))
        | .d (.op p a) => some (st.put o.dst (.d (.op p (a + i.toNat * n))))
        | .d (.ep sz xs j a) => some (st.put o.dst (.d (.ep sz xs j (a + i.toNat * n))))
        | _ => none) else none
      | none => match ev st x with
        | .d (.sl sz xs) => if sz = n ∧ 0 ≤ i ∧ i < xs.length then some (st.put o.dst (.d (.ep sz xs i.toNat 0))) else none
        | _ => none
  | .idx ag len n x ix => match ev st x, intOf (ev st ix) with
    | .d (.agg cs), some i => if 0 ≤ i ∧ i < len then (partD ag cs (i.toNat * n) n).map fun v => st.put o.dst (.d v) else none
    | _, _ => none
  | .idxs x ix => match ev st x, intOf (ev st ix) with
    | .d (.s b), some i => if 0 ≤ i ∧ i < b.size then some (st.put o.dst (.d (.i .u8 (b.data.getD i.toNat 0).toNat))) else none
    | _, _ => none
  | .ext x i => match ev st x with
    | .tup vs => (cellAt vs i).map fun v => st.put o.dst v.strip
    | _ => none
  | .len 0 x => match ev st x with
    | .d (.s b) => some (st.put o.dst (.d (.i .i64 b.size)))
    | _ => none
  | .len 1 x => match ev st x with
    | .d (.sl _ xs) => some (st.put o.dst (.d (.i .i64 xs.length)))
    | .d .nsl => some (st.put o.dst (.d (.i .i64 0)))
    | _ => none
  | .len _ x => (mapAt st (ev st x)).map fun p => st.put o.dst (.d (.i .i64 p.1.length))
  | .app sz bytes x y => (appX st sz bytes x y).map fun p => p.2.put o.dst p.1
  | .mx xs => (mxI (xs.map (ev st))).map fun v => st.put o.dst (.d v)
  | .mn xs => (mnI (xs.map (ev st))).map fun v => st.put o.dst (.d v)
  | .mkm h => match o.dst with
    | some t => if h then (st.pushH (.map [] 0)).map fun p => p.2.put o.dst (.d (.mo p.1))
      else (st.pushB t (.map [] 0)).map fun s => s.put o.dst (.mb (.loc t))
    | none => none
  | .lookup z e x k ok => match mapAt st (ev st x), (ev st k).toD with
    | some (es, _), some k => (match findE e k es with
      | some r =>
        let v := (r.map (·.2)).getD z
        some (st.put o.dst (if ok then .tup [.d v, .d (.b r.isSome)] else .d v))
      | none => none)
    | _, _ => none
  | .mupd e m k v => match mapAt st (ev st m), (ev st k).toD, (ev st v).toD with
    | some (es, c), some k, some v => (match findE e k es with
      | some (some (i, _)) => (mapSet st (setE es i k v) c (ev st m)).map fun s => s.put o.dst .dead
      | some none => (mapSet st (es ++ [⟨k, v, c⟩]) (c + 1) (ev st m)).map fun s => s.put o.dst .dead
      | none => none)
    | _, _, _ => none
  | .del e m k => match mapAt st (ev st m), (ev st k).toD with
    | some (es, c), some k => (match findE e k es with
      | some (some (i, _)) => (mapSet st (delE es i) c (ev st m)).map fun s => s.put o.dst .dead
      | some none => some (st.put o.dst .dead)
      | none => none)
    | _, _ => none
  | .call .. => none
  | .bad => none

end Go.Px

/- A loaded function's code, turned into the abstract machine's: its types resolved. -/
namespace Go.Px

def ofS : Value → Option DV
  | .bool b => some (.b b)
  | .int k n => some (.i k n)
  | .string s => some (.s s)
  | .pointer none => some .np
  | .slice none 0 0 => some .nsl
  | .map none => some .nm
  | .nilFunc => some .nf
  | _ => none

def ofC : Value → Option DV
  | .agg cs => (cs.toList.mapM ofS).map .agg
  | v => ofS v

def opnd : Operand → Option XV
  | .tmp t => some (.t t)
  | .const v => (ofC v).map .c
  | .func f => some (.f f)
  | .global _ => none

def opndO : Option Operand → Option (Option XV)
  | none => some none
  | some x => (opnd x).map some

def szP (P : Program) (t : TypeId) : Option Nat := (P.info? t).map (·.size)
def bytesP (P : Program) (t : TypeId) : Option Nat := (P.info? t).map (·.bytes)
def aggP (P : Program) (t : TypeId) : Option Bool := (P.underlying t).map fun d => match d with
  | .struct _ | .array .. => true
  | _ => false
def zeroP (P : Program) (t : TypeId) : Option DV := (P.info? t).bind fun i => i.zero.bind ofC

/-- The cells of a type of flat data that can be compared cell by cell. -/
def shP (P : Program) : Nat → TypeId → Option (List Nat)
  | 0, _ => none
  | d + 1, t => match P.underlying t with
    | some .bool => if szP P t = some 1 then some [0] else none
    | some (.int _) => if szP P t = some 1 then some [1] else none
    | some .string => if szP P t = some 1 then some [2] else none
    | some (.struct fs) => if P.stoodInHeld t then none else
      match fs.toList.foldl (fun (a : Option (List Nat)) f => match a, shP P d f.type with
        | some l, some s => if f.name ≠ "_" ∧ f.offset = l.length ∧ szP P f.type = some s.length then some (l ++ s) else none
        | _, _ => none) (some []) with
      | some l => if szP P t = some l.length then some l else none
      | none => none
    | some (.array len e) => match shP P d e with
      | some s => if szP P e = some s.length ∧ szP P t = some (len * s.length) then some (List.replicate len s).flatten else none
      | none => none
    | _ => none

/-- How keys of that type are compared: of one cell only. -/
def keyE (P : Program) (t : TypeId) : Option EK := match P.underlying t with
  | some .bool => some (.c 0)
  | some (.int _) => some (.c 1)
  | some .string => some (.c 2)
  | _ => none

def eqE (P : Program) (t : TypeId) : Option EK := match P.underlying t with
  | some .bool => some (.c 0)
  | some (.pointer e) => match szP P e with | some n => if n != 0 then some .p else none | none => none
  | some (.slice _) => some .sl
  | some (.map ..) => some .m
  | some (.func ..) => some .f
  | some (.struct _) | some (.array ..) => if P.eqGuardType P.depth t then none else (shP P 20 t).map .ag
  | _ => none

def isArith (op : BinOp) : Bool := match op with | .eql | .neq => false | _ => true

def compBin (P : Program) (op : BinOp) (t : TypeId) (x y : XV) : XK :=
  match P.underlying t with
  | some (.int _) | some .string => .bin op x y
  | _ => match eqE P t with | some e => (match op with | .eql => .eq false e x y | .neq => .eq true e x y | _ => .bad) | none => .bad

def compConv (P : Program) (a b : TypeId) (x : XV) : XK :=
  match P.underlying a, P.underlying b with
  | some (.int _), some (.int k) => .conv (.int k) x
  | some .string, some .string => .conv .str x
  | some (.slice e), some .string => match P.underlying e with | some (.int .u8) => .conv .b2s x | _ => .bad
  | some .string, some (.slice e) => match P.underlying e, szP P e with | some (.int .u8), some 1 => .conv (.s2b e) x | _, _ => .bad
  | _, _ => .bad

def fieldP (P : Program) (t : TypeId) (f : Nat) : Option Field := match P.underlying t with
  | some (.struct fs) => fs[f]?
  | _ => none

def allSome {α β : Type} (f : α → Option β) : List α → Option (List β)
  | [] => some []
  | a :: l => match f a, allSome f l with
    | some b, some bs => some (b :: bs)
    | _, _ => none

/-- A zero value of that size is told. -/
def zOk (P : Program) (t : TypeId) (n : Nat) : Bool := match zeroP P t with | some z => z.cells.length == n | none => false

def compBuiltin (P : Program) (b : Builtin) (ts : Array TypeId) (args : List XV) : XK :=
  match b, args with
  | .len, [x] => match (ts[0]?).bind P.underlying with
    | some (.array n _) => .mv (.c (.i .i64 n))
    | some .string => .len 0 x
    | some (.slice _) => .len 1 x
    | some (.map ..) => .len 2 x
    | _ => .bad
  | .append, [x, y] => match (ts[0]?).bind P.underlying, (ts[1]?).bind P.underlying with
    | some (.slice e), some d => (match szP P e, bytesP P e, d with
      | some n, some m, .slice e' => if n != 0 && m != 0 && szP P e' == some n && zOk P e n then .app n m x y else .bad
      | some n, some m, .string => if n == 1 && m != 0 && zOk P e n && (match P.underlying e with | some (.int .u8) => true | _ => false) then .app n m x y else .bad
      | _, _, _ => .bad)
    | _, _ => .bad
  | .max, _ => .mx args
  | .min, _ => .mn args
  | .delete, [m, k] => match (ts[0]?).bind P.underlying with
    | some (.map kt _) => (match keyE P kt with | some e => .del e m k | none => .bad)
    | _ => .bad
  | _, _ => .bad

def compH (P : Program) (h : Bool) (o : Oper) : XK :=
  match o.op with
  | .move x => match opnd x with | some x => .mv x | _ => .bad
  | .assign x => match opnd x with | some x => .asg x | _ => .bad
  | .pick c a b => match opnd c, opnd a, opnd b with | some c, some a, some b => .pick c a b | _, _, _ => .bad
  | .alloc e => match zeroP P e, szP P e with | some z, some n => if z.cells.length = n then .alloc z.cells h else .bad | _, _ => .bad
  | .box e x => match szP P e, opnd x with | some n, some x => .box n x h | _, _ => .bad
  | .build t ps => match zeroP P t, P.underlying t, allSome (fun p => (opnd p.2).map (p.1, ·)) ps.toList with
    | some (.agg z), some (.struct fs), some ps => (match allSome (fun (p : Nat × XV) => match fs[p.1]? with
      | some f => (szP P f.type).map (f.offset, ·, p.2)
      | none => none) ps with | some ps => if allSome (fun f => szP P f.type) fs.toList = none then .bad else .build z ps | none => .bad)
    | some (.agg z), some (.array _ e), some ps => (match szP P e with | some n => .build z (ps.map fun p => (p.1 * n, n, p.2)) | none => .bad)
    | _, _, _ => .bad
  | .buildSlice t len ps => match P.underlying t, allSome (fun p => (opnd p.2).map (p.1, ·)) ps.toList with
    | some (.slice e), some ps => (match zeroP P e, szP P e with | some z, some n => if z.cells.length = n ∧ n ≠ 0 ∧ len * n ≤ 16777216 then .bsl z len ps else .bad | _, _ => .bad)
    | _, _ => .bad
  | .load t a => match aggP P t, szP P t, opnd a with | some ag, some n, some a => if ag ∨ n = 1 then .load ag n a else .bad | _, _, _ => .bad
  | .store t a x => match szP P t, opnd a, opnd x with | some n, some a, some x => .store n a x | _, _, _ => .bad
  | .nilCheck x => match opnd x with | some x => .nilc x | _ => .bad
  | .binOp op t x y _ => match opnd x, opnd y with | some x, some y => compBin P op t x y | _, _ => .bad
  | .unOp op _ x => match opnd x with | some x => .un op x | _ => .bad
  | .convert a b x => match opnd x with | some x => compConv P a b x | _ => .bad
  | .makeFunc (.func f) first cs => match allSome opnd cs.toList with | some cs => if first.size = 0 then .mkf f cs else .bad | _ => .bad
  | .makeMap _ none => .mkm h
  | .makeSlice t l c => match P.underlying t, opnd l, opnd c with
    | some (.slice e), some l, some c => (match zeroP P e, szP P e, bytesP P e with | some z, some n, some m => if z.cells.length = n ∧ n ≠ 0 ∧ m ≠ 0 then .mks z m l c else .bad | _, _, _ => .bad)
    | _, _, _ => .bad
  | .slice t x lo hi mx => match opnd x, opndO lo, opndO hi, opndO mx with
    | some x, some lo, some hi, some mx => (match P.underlying t with
      | some .string => .slc none x lo hi mx
      | some (.slice e) => if (szP P e).getD 0 ≠ 0 then .slc (szP P e) x lo hi mx else .bad
      | _ => .bad)
    | _, _, _, _ => .bad
  | .fieldAddr t x f => match fieldP P t f, opnd x with | some f, some x => if (szP P f.type).getD 0 ≠ 0 then .fad f.offset x else .bad | _, _ => .bad
  | .field t x f => match fieldP P t f, opnd x with
    | some f, some x => (match aggP P f.type, szP P f.type with | some ag, some n => if ag ∨ n = 1 then .fld ag f.offset n x else .bad | _, _ => .bad)
    | _, _ => .bad
  | .indexAddr t x ix => match P.underlying t, opnd x, opnd ix with
    | some (.array len e), some x, some ix => (match szP P e with | some n => .iad (some len) n x ix | none => .bad)
    | some (.slice e), some x, some ix => (match szP P e with | some n => .iad none n x ix | none => .bad)
    | _, _, _ => .bad
  | .index t x ix => match P.underlying t, opnd x, opnd ix with
    | some (.array len e), some x, some ix => (match aggP P e, szP P e with | some ag, some n => if ag ∨ n = 1 then .idx ag len n x ix else .bad | _, _ => .bad)
    | some .string, some x, some ix => .idxs x ix
    | _, _, _ => .bad
  | .extract x i => match opnd x with | some x => .ext x i | _ => .bad
  | .call { callee := .value f, args, .. } => match opnd f, allSome opnd args.toList with | some f, some args => .call f args | _, _ => .bad
  | .call { callee := .builtin b, args, argTypes } => match allSome opnd args.toList with | some args => compBuiltin P b argTypes args | none => .bad
  | .lookup t x k ok => match P.underlying t, opnd x, opnd k with
    | some (.map kt e), some x, some k => (match zeroP P e, keyE P kt with | some z, some q => .lookup z q x k ok | _, _ => .bad)
    | _, _, _ => .bad
  | .mapUpdate t m k v => match P.underlying t, opnd m, opnd k, opnd v with
    | some (.map kt _), some m, some k, some v => (match keyE P kt with | some e => .mupd e m k v | none => .bad)
    | _, _, _, _ => .bad
  | _ => .bad

def compK (P : Program) (esc : Nat → Bool) (o : Oper) : XK := compH P (match o.dst with | some t => esc t | none => false) o

def compO (P : Program) (esc : Nat → Bool) (ops : Array Oper) (o : Oper) : Option XO :=
  match o.guard with
  | none => some ⟨o.dst, compK P esc o, none⟩
  | some (j, want) => match (ops[j]?).bind (·.dst) with
    | some t => some ⟨o.dst, compK P esc o, some (t, want)⟩
    | none => none

/-- The slots that an operation reads. -/
def xvT : XV → List Nat
  | .t n => [n]
  | _ => []
def xvO : Option XV → List Nat
  | some x => xvT x
  | none => []
def rdT : XK → List Nat
  | .mv x => xvT x | .asg x => xvT x | .pick c a b => xvT c ++ xvT a ++ xvT b
  | .alloc _ _ => [] | .box _ x _ => xvT x
  | .build _ ps => ps.flatMap fun p => xvT p.2.2
  | .bsl _ _ ps => ps.flatMap fun p => xvT p.2
  | .load _ _ a => xvT a | .store _ a x => xvT a ++ xvT x | .nilc x => xvT x
  | .bin _ x y => xvT x ++ xvT y | .eq _ _ x y => xvT x ++ xvT y | .un _ x => xvT x
  | .conv _ x => xvT x | .mkf _ cs => cs.flatMap xvT
  | .mks _ _ l c => xvT l ++ xvT c
  | .slc _ x lo hi mx => xvT x ++ xvO lo ++ xvO hi ++ xvO mx
  | .fld _ _ _ x => xvT x | .fad _ x => xvT x
  | .iad _ _ x i => xvT x ++ xvT i
  | .idx _ _ _ x i => xvT x ++ xvT i | .idxs x i => xvT x ++ xvT i
  | .ext x _ => xvT x
  | .call f args => xvT f ++ args.flatMap xvT
  | .len _ x => xvT x | .app _ _ x y => xvT x ++ xvT y | .mx xs => xs.flatMap xvT | .mn xs => xs.flatMap xvT
  | .mkm _ => [] | .lookup _ _ x k _ => xvT x ++ xvT k | .mupd _ m k v => xvT m ++ xvT k ++ xvT v | .del _ m k => xvT m ++ xvT k
  | .bad => []
def XO.rdT (o : XO) : List Nat := (match o.g with | some (t, _) => [t] | none => []) ++ Px.rdT o.k

/-- Neither writes a slot that the other reads or writes. -/
def XO.apart (a b : XO) : Bool :=
  (match a.dst with | some d => !(b.rdT.contains d) && b.dst != some d | none => true) &&
  (match b.dst with | some d => !(a.rdT.contains d) | none => true)

def insN (l : List Nat) (n : Nat) : List Nat := if l.contains n then l else n :: l

/-- What must come ahead of an operation, as far as it is told. -/
def predsOf (P : List (List Nat)) (o : Oper) : List Nat :=
  o.after.toList.foldl (fun l e => if Region.binds .any e then ((P.getD e.on []).foldl insN (insN l e.on)) else l) []
def predsL : List (List Nat) → List Oper → List (List Nat)
  | P, [] => P
  | P, o :: l => predsL (P ++ [predsOf P o]) l

/-- Which of those listed ahead of it may come behind it. -/
def unordL : Nat → List (List Nat) → List (List Nat)
  | _, [] => []
  | j, p :: l => (List.range j).filter (fun i => !p.contains i) :: unordL (j + 1) l
def unord (ops : Array Oper) : List (List Nat) := unordL 0 (predsL [] ops.toList)

/-- The order in which they are listed is one of those that may be. -/
def backL : Nat → List Oper → Bool
  | _, [] => true
  | j, o :: l => (o.after.toList.all fun e => !Region.binds .any e || decide (e.on < j)) && backL (j + 1) l

def apartsL (os : List XO) : List (List Nat) → List XO → Bool
  | u :: un, o :: l => (u.all fun i => match os[i]? with | some x => x.apart o | none => true) && apartsL os un l
  | _, _ => true

def comp (P : Program) (esc : Nat → Bool) : Code → XC
  | .skip => .skip
  | .region _ ops dr => match allSome (compO P esc ops) ops.toList with
    | some os => if dr then (if backL 0 ops.toList && apartsL os (unord ops) os then .draw (unord ops) os else .bad) else .reg os
    | none => .bad
  | .seq a b => .seq (comp P esc a) (comp P esc b)
  | .cond c a b => match opnd c with | some c => .cond c (comp P esc a) (comp P esc b) | none => .bad
  | .block id b => .block id (comp P esc b)
  | .loop b => .loop [] [] (comp P esc b)
  | .exit id => .exit id
  | .ret => .ret
  | _ => .bad

end Go.Px

/- What the abstract machine's states stand for: worlds, and how they may go on. -/
namespace Go.Px

structure Env where
  P : Program
  w0 : World

structure Gh where
  ρ : List Nat
  fs : List (List (Nat × Nat))
  owM : Nat → Nat → Option Nat
  I : Nat → Nat → Prop

def DV.one : DV → Bool
  | .agg _ => false
  | _ => true

def AV.one : AV → Bool
  | .d v => v.one
  | .tup _ => false
  | .dead => false
  | _ => true

inductive RepD (ρ : List Nat) (I : Nat → Nat → Prop) (w : World) : DV → Value → Prop
  | b (x : Bool) : RepD ρ I w (.b x) (.bool x)
  | i (k : IntKind) (n : Int) : RepD ρ I w (.i k n) (.int k n)
  | s (x : ByteArray) : RepD ρ I w (.s x) (.string x)
  | agg {cs : List DV} {vs : Array Value} (hl : vs.size = cs.length) (ho : ∀ c ∈ cs, c.one = true)
      (h : ∀ (j : Nat) c v, cs[j]? = some c → vs[j]? = some v → RepD ρ I w c v) : RepD ρ I w (.agg cs) (.agg vs)
  | sl {sz : Nat} {xs : List DV} {b off cap : Nat} (vs : Nat → Value) (hc : xs.length ≤ cap) (hs : ∀ x ∈ xs, x.cells.length = sz ∧ ∀ c ∈ x.cells, c.one = true)
      (hm : ∀ k, k < xs.length * sz → w.cell? ⟨b, off + k, none⟩ = some (vs k) ∧ I b (off + k))
      (h : ∀ (j : Nat) (x : DV) (k : Nat) (c : DV), xs[j]? = some x → x.cells[k]? = some c → RepD ρ I w c (vs (j * sz + k))) :
      RepD ρ I w (.sl sz xs) (.slice (some ⟨b, off, none⟩) xs.length cap)
  | nsl : RepD ρ I w .nsl (.slice none 0 0)
  | np : RepD ρ I w .np (.pointer none)
  | op {o b : Nat} (off : Nat) (h : ρ[o]? = some b) : RepD ρ I w (.op o off) (.pointer (some ⟨b, off, none⟩))
  | ep {sz : Nat} {xs : List DV} {i b base : Nat} (off : Nat) (vs : Nat → Value) (x : DV) (hx : xs[i]? = some x) (hs : x.cells.length = sz) (ho : ∀ c ∈ x.cells, c.one = true)
      (hm : ∀ k, k < sz → w.cell? ⟨b, base + k, none⟩ = some (vs k) ∧ I b (base + k))
      (h : ∀ (k : Nat) c, x.cells[k]? = some c → RepD ρ I w c (vs k)) : RepD ρ I w (.ep sz xs i off) (.pointer (some ⟨b, base + off, none⟩))
  | nm : RepD ρ I w .nm (.map none)
  | mo {o b : Nat} (h : ρ[o]? = some b) : RepD ρ I w (.mo o) (.map (some b))
  | nf : RepD ρ I w .nf .nilFunc
  | fd {f : FuncId} {cs : List DV} {vs : Array Value} (hl : vs.size = cs.length)
      (h : ∀ (j : Nat) c v, cs[j]? = some c → vs[j]? = some v → RepD ρ I w c v) : RepD ρ I w (.fd f cs) (.func (.func f) #[] vs)

def lkN : List (Nat × Nat) → Nat → Option Nat
  | [], _ => none
  | (k, b) :: l, s => if k = s then some b else lkN l s

def resB : List (List (Nat × Nat)) → Ref → Option Nat
  | [], _ => none
  | f :: _, .loc s => lkN f s
  | _ :: l, .up r => resB l r

inductive RepA (ρ : List Nat) (I : Nat → Nat → Prop) (w : World) (fs : List (List (Nat × Nat))) : AV → Value → Prop
  | d {v : DV} {x : Value} (h : RepD ρ I w v x) : RepA ρ I w fs (.d v) x
  | os {sz : Nat} {xs : List DV} {x : Value} (h : RepD ρ I w (.sl sz xs) x) : RepA ρ I w fs (.os sz xs) x
  | bp {r : Ref} {b : Nat} (off : Nat) (h : resB fs r = some b) : RepA ρ I w fs (.bp r off) (.pointer (some ⟨b, off, none⟩))
  | mb {r : Ref} {b : Nat} (h : resB fs r = some b) : RepA ρ I w fs (.mb r) (.map (some b))
  | it {r : Ref} {b : Nat} (h : resB fs r = some b) : RepA ρ I w fs (.it r) (.pointer (some ⟨b, 0, none⟩))
  | fn {f : FuncId} {cs : List AV} {vs : Array Value} (hl : vs.size = cs.length)
      (h : ∀ (j : Nat) c v, cs[j]? = some c → vs[j]? = some v → RepA ρ I w fs c v) : RepA ρ I w fs (.fn f cs) (.func (.func f) #[] vs)
  | tup {cs : List AV} {vs : Array Value} (hl : vs.size = cs.length)
      (h : ∀ (j : Nat) c v, cs[j]? = some c → vs[j]? = some v → RepA ρ I w fs c v) : RepA ρ I w fs (.tup cs) (.tuple vs)
  | dead (x : Value) : RepA ρ I w fs .dead x

/-- Behind a slice's end, within its capacity, nothing is told: it may be written. -/
def TailOk (w : World) (I : Nat → Nat → Prop) (b lo hi : Nat) : Prop :=
  (∃ arr t fz, w.heap[b]? = some (.cells arr t fz) ∧ arr.size = hi ∧ ∀ k, k < hi → ¬ (fz.1 ≤ k ∧ k < fz.2)) ∧ ∀ k, lo ≤ k → ¬ I b k

def OwnC (w : World) (I : Nat → Nat → Prop) (sz : Nat) (xs : List DV) (v : Value) (ob : Option Nat) : Prop :=
  ∃ b off cap, v = .slice (some ⟨b, off, none⟩) xs.length cap ∧ (xs.length < cap → ob = some b ∧ TailOk w I b (off + xs.length * sz) (off + cap * sz))

def CellsOk (w : World) (g : Gh) (fs : List (List (Nat × Nat))) (b : Nat) (cs : List AV) : Prop :=
  ∃ arr t, w.heap[b]? = some (.cells arr t (0, 0)) ∧ arr.size = cs.length ∧
    ∀ i c, cs[i]? = some c → ∃ v, arr[i]? = some v ∧ RepA g.ρ g.I w fs c v ∧ c.one = true ∧ ∀ sz xs, c = .os sz xs → OwnC w g.I sz xs v (g.owM b i)

def MapOk (w : World) (g : Gh) (b : Nat) (es : List ME) (clk : Nat) : Prop :=
  ∃ arr, w.heap[b]? = some (.map arr clk) ∧ arr.size = es.length ∧
    ∀ (i : Nat) (e : ME), es[i]? = some e → ∃ m : MapEntry, arr[i]? = some m ∧ RepD g.ρ g.I w e.k m.key ∧ RepD g.ρ g.I w e.v m.val ∧ m.born = e.born

def BoxOk (w : World) (g : Gh) (fs : List (List (Nat × Nat))) (b : Nat) : BObj → Prop
  | .cells cs => CellsOk w g fs b cs
  | .map es clk => MapOk w g b es clk
  | .iter _ _ _ => True

/-- A place: a frame's box, or an object. -/
inductive Pl where
  | fr (r : Ref) | ob (o : Nat)
  deriving DecidableEq

def plGet (U : List Frm) (H : Option (List BObj)) : Pl → Option BObj
  | .fr r => refGet U r
  | .ob o => hGet H o
def plB (g : Gh) : Pl → Option Nat
  | .fr r => resB g.fs r
  | .ob o => g.ρ[o]?
def lvl : List (List (Nat × Nat)) → Ref → List (List (Nat × Nat))
  | fs, .loc _ => fs
  | _ :: fs, .up r => lvl fs r
  | [], .up _ => []
def plFs (fs : List (List (Nat × Nat))) : Pl → List (List (Nat × Nat))
  | .fr r => lvl fs r
  | .ob _ => []

/-- The blocks whose cells are told by frames and objects. -/
def blks (g : Gh) (h : Option (List BObj)) : List Nat :=
  (match h with | some _ => g.ρ | none => []) ++ g.fs.flatMap fun f => f.map Prod.snd

structure RelM (E : Env) (g : Gh) (U : List Frm) (H : Option (List BObj)) (w : World) : Prop where
  below : RowKit.Below E.w0.heap.size E.w0 w
  len : U.length = g.fs.length
  hlen : ∀ os, H = some os → os.length = g.ρ.length
  con : ∀ p o, plGet U H p = some o → ∃ b, plB g p = some b ∧ BoxOk w g (plFs g.fs p) b o
  nd : (blks g H).Nodup
  new : ∀ b ∈ blks g H, E.w0.heap.size ≤ b ∧ b < w.heap.size ∧ ∀ k, ¬ g.I b k
  own : ∀ x i b, g.owM x i = some b → x ∈ blks g H ∧ b ∉ blks g H ∧ E.w0.heap.size ≤ b ∧ b < w.heap.size
  inj : ∀ x i y j b, g.owM x i = some b → g.owM y j = some b → x = y ∧ i = j
  lt : ∀ b k, g.I b k → b < w.heap.size

/-- The slots that a value leads to, in its own frame. -/
def Ref.locs : Ref → List Nat
  | .loc s => [s]
  | .up _ => []

/-- The value leads to that slot of its own frame. -/
inductive HasLoc : AV → Nat → Prop
  | bp {r : Ref} {s : Nat} (off : Nat) (h : s ∈ r.locs) : HasLoc (.bp r off) s
  | mb {r : Ref} {s : Nat} (h : s ∈ r.locs) : HasLoc (.mb r) s
  | it {r : Ref} {s : Nat} (h : s ∈ r.locs) : HasLoc (.it r) s
  | fn {f : FuncId} {cs : List AV} {c : AV} {s : Nat} (hc : c ∈ cs) (h : HasLoc c s) : HasLoc (.fn f cs) s
  | tup {cs : List AV} {c : AV} {s : Nat} (hc : c ∈ cs) (h : HasLoc c s) : HasLoc (.tup cs) s

def CpOk (g : Gh) (h : Option (List BObj)) (a : Act) (w : World) (v : Value) : OL → Prop
  | .t n => a.tmps.getD n undef = v
  | .c r off => ∃ b, resB g.fs r = some b ∧ w.cell? ⟨b, off, none⟩ = some v
  | .o o off => h ≠ none ∧ ∃ b, g.ρ[o]? = some b ∧ w.cell? ⟨b, off, none⟩ = some v

structure RS (E : Env) (g : Gh) (oT : Nat → Option Nat) (st : St) (a : Act) (w : World) : Prop where
  m : RelM E g st.frs st.hp w
  tm : ∀ t, RepA g.ρ g.I w g.fs (getT st.tm t) (a.tmps.getD t undef)
  ot : ∀ t sz xs, getT st.tm t = .os sz xs → OwnC w g.I sz xs (a.tmps.getD t undef) (oT t)
  on : ∀ t b, oT t = some b → b ∉ blks g st.hp ∧ (∀ x i, g.owM x i ≠ some b) ∧ E.w0.heap.size ≤ b ∧ b < w.heap.size
  oi : ∀ t u b, oT t = some b → oT u = some b → t = u
  cp : ∀ t l, (t, l) ∈ st.cp → CpOk g st.hp a w (a.tmps.getD t undef) l
  clT : ∀ t s, HasLoc (getT st.tm t) s → frGet st.bx s ≠ none
  clB : ∀ s cs, frGet st.bx s = some (.cells cs) → ∀ c ∈ cs, ∀ s', HasLoc c s' → frGet st.bx s' ≠ none
  clC : ∀ t r off, (t, .c r off) ∈ st.cp → ∀ s ∈ r.locs, frGet st.bx s ≠ none

/-- The blocks that a running function may write. -/
def Mine (g : Gh) (oT : Nat → Option Nat) (h : Option (List BObj)) (b : Nat) : Prop :=
  b ∈ blks g h ∨ (∃ x i, g.owM x i = some b) ∨ ∃ t, oT t = some b

/-- How a world may go on. -/
structure Stp (g : Gh) (oT : Nat → Option Nat) (h : Option (List BObj)) (w : World) (g' : Gh) (oT' : Nat → Option Nat) (h' : Option (List BObj)) (w' : World) : Prop where
  size : w.heap.size ≤ w'.heap.size
  os : w'.os = w.os
  tape : w'.tape = w.tape
  output : w'.output = w.output
  I : ∀ b k, g.I b k → g'.I b k
  Ic : ∀ b k, g.I b k → w'.cell? ⟨b, k, none⟩ = w.cell? ⟨b, k, none⟩
  far : ∀ b, b < w.heap.size → ¬ Mine g oT h b → w'.heap[b]? = w.heap[b]? ∧ ∀ k, g'.I b k → g.I b k
  mine : ∀ b, Mine g' oT' h' b → Mine g oT h b ∨ w.heap.size ≤ b
  ρ : g.ρ <+: g'.ρ
  fs : g'.fs.tail = g.fs.tail
  hs : h'.isSome = h.isSome
  ρn : h = none → g'.ρ = g.ρ

theorem Stp.refl (g : Gh) (oT : Nat → Option Nat) (h : Option (List BObj)) (w : World) : Stp g oT h w g oT h w :=
  ⟨Nat.le_refl _, rfl, rfl, rfl, fun _ _ h => h, fun _ _ _ => rfl, fun _ _ _ => ⟨rfl, fun _ h => h⟩, fun _ h => .inl h, List.prefix_refl _, rfl, rfl, fun _ => rfl⟩

theorem Stp.trans {g₁ g₂ g₃ : Gh} {o₁ o₂ o₃ : Nat → Option Nat} {h₁ h₂ h₃ : Option (List BObj)} {w₁ w₂ w₃ : World}
    (a : Stp g₁ o₁ h₁ w₁ g₂ o₂ h₂ w₂) (b : Stp g₂ o₂ h₂ w₂ g₃ o₃ h₃ w₃) : Stp g₁ o₁ h₁ w₁ g₃ o₃ h₃ w₃ where
  size := Nat.le_trans a.size b.size
  os := b.os.trans a.os
  tape := b.tape.trans a.tape
  output := b.output.trans a.output
  I := fun x k h => b.I x k (a.I x k h)
  Ic := fun x k h => (b.Ic x k (a.I x k h)).trans (a.Ic x k h)
  far := fun x hx hm => by
    have h1 := a.far x hx hm
    have h2 := b.far x (Nat.lt_of_lt_of_le hx a.size) (fun h => by
      rcases a.mine x h with h | h
      · exact hm h
      · omega)
    exact ⟨h2.1.trans h1.1, fun k hk => h1.2 k (h2.2 k hk)⟩
  mine := fun x h => by
    rcases b.mine x h with h | h
    · exact a.mine x h
    · exact .inr (Nat.le_trans a.size h)
  ρ := List.IsPrefix.trans a.ρ b.ρ
  fs := b.fs.trans a.fs
  hs := b.hs.trans a.hs
  ρn := fun e => (b.ρn (by have := a.hs; rw [e] at this; cases h₂ with | none => rfl | some x => cases this)).trans (a.ρn e)

/-! ### What is told stays true -/

theorem RepD.mono {ρ ρ' : List Nat} {I I' : Nat → Nat → Prop} {w w' : World} (hρ : ρ <+: ρ') (hI : ∀ b k, I b k → I' b k)
    (hc : ∀ b k, I b k → w'.cell? ⟨b, k, none⟩ = w.cell? ⟨b, k, none⟩) {v : DV} {x : Value} (h : RepD ρ I w v x) : RepD ρ' I' w' v x := by
  have hr : ∀ (o b : Nat), ρ[o]? = some b → ρ'[o]? = some b := by
    obtain ⟨t, rfl⟩ := hρ
    intro o b h
    rw [List.getElem?_append_left (List.getElem?_eq_some_iff.1 h).1]; exact h
  induction h with
  | b x => exact .b x
  | i k n => exact .i k n
  | s x => exact .s x
  | agg hl ho _ ih => exact .agg hl ho ih
  | sl vs hcap hs hm _ ih => exact .sl vs hcap hs (fun k hk => ⟨(hc _ _ (hm k hk).2).trans (hm k hk).1, hI _ _ (hm k hk).2⟩) ih
  | nsl => exact .nsl
  | np => exact .np
  | op off h => exact .op off (hr _ _ h)
  | ep off vs x hx hs ho hm _ ih => exact .ep off vs x hx hs ho (fun k hk => ⟨(hc _ _ (hm k hk).2).trans (hm k hk).1, hI _ _ (hm k hk).2⟩) ih
  | nm => exact .nm
  | mo h => exact .mo (hr _ _ h)
  | nf => exact .nf
  | fd hl _ ih => exact .fd hl ih

theorem RepA.mono {ρ ρ' : List Nat} {I I' : Nat → Nat → Prop} {w w' : World} {fs fs' : List (List (Nat × Nat))} (hρ : ρ <+: ρ') (hI : ∀ b k, I b k → I' b k)
    (hc : ∀ b k, I b k → w'.cell? ⟨b, k, none⟩ = w.cell? ⟨b, k, none⟩) {v : AV} {x : Value}
    (hf : ∀ r b, resB fs r = some b → (∀ s ∈ r.locs, HasLoc v s) → resB fs' r = some b) (h : RepA ρ I w fs v x) : RepA ρ' I' w' fs' v x := by
  induction h with
  | d h => exact .d (h.mono hρ hI hc)
  | os h => exact .os (h.mono hρ hI hc)
  | bp off h => exact .bp off (hf _ _ h (fun s hs => .bp off hs))
  | mb h => exact .mb (hf _ _ h (fun s hs => .mb hs))
  | it h => exact .it (hf _ _ h (fun s hs => .it hs))
  | fn hl _ ih => exact .fn hl (fun j c v hj hv => ih j c v hj hv (fun r b hr hs => hf r b hr (fun s h => .fn (List.mem_of_getElem? hj) (hs s h))))
  | tup hl _ ih => exact .tup hl (fun j c v hj hv => ih j c v hj hv (fun r b hr hs => hf r b hr (fun s h => .tup (List.mem_of_getElem? hj) (hs s h))))
  | dead x => exact .dead x

end Go.Px

/- The abstract machine's wp: calls by their contracts, loops by invariants. -/
namespace Go.Px

/-- A function that is entered when it is called. -/
def HasF (P : Program) (f : FuncId) : Prop := ∃ fn, P.funcs[f]? = some fn ∧ (fn.name == "runtime.NumGoroutine") = false ∧ fn.body.isNone = false

/-- A result: no slice that is owned. -/
def AV.resOk : AV → Bool
  | .os _ _ => false
  | _ => true

/-- A call's contract: in every world that the arguments, the upper frames' boxes and the objects describe. -/
def CA (E : Env) (f : FuncId) (args : List AV) (U : List Frm) (H : Option (List BObj)) (Q : AV → List Frm → Option (List BObj) → Prop) : Prop :=
  HasF E.P f ∧ ∀ (g : Gh) (w : World) (vs : Array Value), RelM E g U H w → vs.size = args.length →
    (∀ (j : Nat) c v, args[j]? = some c → vs[j]? = some v → RepA g.ρ g.I w ([] :: g.fs) c v) →
    Calls E.P f vs w fun e w' => ∃ v r U' H' g', e = .returned v ∧ RelM E g' U' H' w' ∧ Stp g (fun _ => none) H w g' (fun _ => none) H' w' ∧ g'.fs = g.fs ∧
      RepA g'.ρ g'.I w' [] r v ∧ r.resOk = true ∧ Q r U' H'

mutual
def AV.okIn (bx : Frm) : AV → Bool
  | .bp (.loc s) _ => (frGet bx s).isSome
  | .mb (.loc s) => (frGet bx s).isSome
  | .it (.loc s) => (frGet bx s).isSome
  | .fn _ cs => AV.okInL bx cs
  | .tup cs => AV.okInL bx cs
  | _ => true
def AV.okInL (bx : Frm) : List AV → Bool
  | [] => true
  | c :: l => c.okIn bx && AV.okInL bx l
end

def bxOk (bx : Frm) : Frm → Bool
  | [] => true
  | (_, .cells cs) :: l => AV.okInL bx cs && bxOk bx l
  | _ :: l => bxOk bx l

def tmOk (bx : Frm) : List (Nat × AV) → Bool
  | [] => true
  | (_, v) :: l => v.okIn bx && tmOk bx l

/-- The references are to boxes that are there. -/
def okSt (s : St) : Bool := tmOk s.bx s.tm && bxOk s.bx s.bx

def rmO : List (Nat × OL) → List (Nat × OL)
  | [] => []
  | (_, .o _ _) :: r => rmO r
  | e :: r => e :: rmO r

/-- A call of a function: with its arguments alone; with the objects; with all. -/
def CallK (E : Env) (st : St) (d : Option Nat) (g : FuncId) (as : List AV) (K : St → Prop) : Prop :=
  (match AV.toDL as with
    | some ds => CA E g (ds.map .d) [] none (fun r _ _ => K (st.put d r)) ∨
        CA E g (ds.map .d) [] st.hp (fun r _ H => K ({ st with hp := H, cp := rmO st.cp }.put d r))
    | none => False) ∨
  CA E g (AV.liftL as) st.frs st.hp (fun r U H => match U with
    | b :: u => okSt { st with bx := b, up := u, hp := H, cp := rmC st.cp } = true ∧ K (({ st with bx := b, up := u, hp := H, cp := rmC st.cp }).put d r)
    | [] => False)

def callX (E : Env) (st : St) (d : Option Nat) (f : XV) (args : List XV) (K : St → Prop) : Prop :=
  match ev st f with
  | .fn g cs => CallK E st d g (args.map (ev st) ++ cs) K
  | .d (.fd g ds) => CallK E st d g (args.map (ev st) ++ ds.map .d) K
  | _ => False

def optK (x : Option St) (K : St → Prop) : Prop :=
  match x with
  | some s => K s
  | none => False

def opX (E : Env) (o : XO) (K : St → Prop) (st : St) : Prop :=
  match o.k with
  | .call f args => callX E st o.dst f args K
  | _ => optK (opF o st) K

def guardX (st : St) (g : Option (Nat × Bool)) (A B : Prop) : Prop :=
  match g with
  | none => A
  | some (t, want) => match getT st.tm t with
    | .d (.b x) => (x = want → A) ∧ ((!x) = want → B)
    | .tup _ => B
    | _ => False

def opsX (E : Env) : List XO → (St → Prop) → St → Prop
  | [], K, st => K st
  | o :: l, K, st => guardX st o.g (opX E o (opsX E l K) st) (opsX E l K (st.put o.dst (.tup [])))

def St.cut (st : St) : St := { st with cp := [] }

/-! ### Regions that draw their order -/

/-- Places: a slot's own tail; a box; the upper frames; the objects; what is told of copies; a slot's copy; all. -/
inductive ALoc where
  | own (t : Nat) | box (s : Nat) | up | hp | fct | cf (t : Nat) | any
  deriving DecidableEq

def refLoc : Ref → ALoc
  | .loc s => .box s
  | .up _ => .up

def addrLoc : AV → List ALoc
  | .bp r _ => [refLoc r]
  | .mb r => [refLoc r]
  | .d (.op ..) => [.hp]
  | .d (.mo _) => [.hp]
  | _ => []

def ownLoc : XV → List ALoc
  | .t n => [.own n]
  | _ => []
def lostLoc (st : St) (x : XV) : List ALoc := if (owned st x).isSome then ownLoc x else []
def newLoc (d : Option Nat) (h : Bool) : List ALoc := if h then [.hp] else match d with | some t => [.box t] | none => []

/-- What an operation reads of memory, and what it writes. -/
def accK (st : St) (o : XO) : List ALoc × List ALoc :=
  match o.k with
  | .mv x => (ownLoc x, [])
  | .asg x => (ownLoc x, lostLoc st x)
  | .box _ x h => (ownLoc x ++ newLoc o.dst h, lostLoc st x ++ newLoc o.dst h)
  | .alloc _ h => (newLoc o.dst h, newLoc o.dst h)
  | .mkm h => (newLoc o.dst h, newLoc o.dst h)
  | .load ag n a => ((if ag then [] else match rdCells st n (ev st a) with | some [.os _ _] => [.fct] | _ => []) ++ addrLoc (ev st a), [])
  | .store _ a x => (ownLoc x ++ addrLoc (ev st a), lostLoc st x ++ .fct :: addrLoc (ev st a))
  | .len _ x => (addrLoc (ev st x), [])
  | .lookup _ _ x _ _ => (addrLoc (ev st x), [])
  | .mupd _ m _ _ => (addrLoc (ev st m), addrLoc (ev st m))
  | .del _ m _ => (addrLoc (ev st m), addrLoc (ev st m))
  | .app _ _ x _ => match x with
    | .t n => match owned st x with
      | some _ => ([.own n], [.own n])
      | none => match ev st x with
        | .d .nsl => ([.own n], [])
        | _ => match cpGet st.cp n with
          | some (.t m) => ([.own n, .cf n, .own m], [.own m])
          | some (.c r _) => ([.own n, .cf n, .fct, refLoc r], [refLoc r])
          | some (.o _ _) => ([.own n, .cf n, .fct, .hp], [.hp])
          | none => ([.any, .own n], [.any])
    | _ => ([], [])
  | _ => ([], [])
def dstLoc (d : Option Nat) : List ALoc := match d with | some t => [.own t] | none => []
def accOf (st : St) (o : XO) : List ALoc × List ALoc := ((accK st o).1, dstLoc o.dst ++ (accK st o).2)

def clash (a b : List ALoc × List ALoc) : Bool :=
  a.2.any (fun x => x = .any || b.1.contains x || b.2.contains x) || b.2.any (fun x => x = .any || a.1.contains x)

def accGet : List (Nat × (List ALoc × List ALoc)) → Nat → List ALoc × List ALoc
  | [], _ => ([], [])
  | (k, a) :: l, i => if k = i then a else accGet l i

/-- A call in a region that draws: what it does is told whole. -/
def callD (E : Env) (d : Option Nat) (ok : (List ALoc × List ALoc) → Bool) (K : (List ALoc × List ALoc) → St → Prop) (st : St) (g : FuncId) (as : List AV) : Prop :=
  match AV.toDL as with
  | some ds =>
    (ok ([], dstLoc d) = true ∧ ∃ v, CA E g (ds.map .d) [] none (fun r _ _ => r = v) ∧ K ([], dstLoc d) (st.put d v)) ∨
    (ok ([.hp], dstLoc d ++ [.hp, .fct]) = true ∧ ∃ v H', CA E g (ds.map .d) [] st.hp (fun r _ H => r = v ∧ H = H') ∧ K ([.hp], dstLoc d ++ [.hp, .fct]) ({ st with hp := H', cp := rmC st.cp }.put d v)) ∨
    (ok ([.hp], dstLoc d ++ [.fct]) = true ∧ ∃ v, CA E g (ds.map .d) [] st.hp (fun r _ H => r = v ∧ H = st.hp) ∧ K ([.hp], dstLoc d ++ [.fct]) ({ st with cp := rmC st.cp }.put d v))
  | none => False

/-- One operation of a region that draws its order: its accesses are held against those that may come in either order. -/
def opD (E : Env) (o : XO) (ok : (List ALoc × List ALoc) → Bool) (K : (List ALoc × List ALoc) → St → Prop) (st : St) : Prop :=
  match o.k with
  | .call f args =>
    match ev st f with
    | .fn g cs => callD E o.dst ok K st g (args.map (ev st) ++ cs)
    | .d (.fd g ds) => callD E o.dst ok K st g (args.map (ev st) ++ ds.map .d)
    | _ => False
  | _ => ok (accOf st o) = true ∧ optK (opF o st) (K (accOf st o))

def okD (un : List (List Nat)) (ac : List (Nat × (List ALoc × List ALoc))) (a : List ALoc × List ALoc) : Bool := (un.headD []).all fun i => !clash (accGet ac i) a

def opsD (E : Env) : Nat → List (List Nat) → List XO → List (Nat × (List ALoc × List ALoc)) → (St → Prop) → St → Prop
  | _, _, [], _, K, st => K st
  | j, un, o :: l, ac, K, st =>
    guardX st o.g
      (opD E o (okD un ac) (fun a s => opsD E (j + 1) un.tail l ((j, a) :: ac) K s) st)
      (okD un ac ([], dstLoc o.dst) = true ∧ opsD E (j + 1) un.tail l ((j, ([], dstLoc o.dst)) :: ac) K (st.put o.dst (.tup [])))

/-! ### Code -/

def inL : List Nat → Nat → Bool
  | [], _ => false
  | a :: l, n => if a = n then true else inL l n

def keepL {α : Type} (ts : List Nat) : List (Nat × α) → List (Nat × α)
  | [] => []
  | (k, v) :: l => if inL ts k then (k, v) :: keepL ts l else keepL ts l

/-- All but these is forgotten. -/
def St.res (ts bs : List Nat) (s : St) : St := { tm := keepL ts s.tm, bx := keepL bs s.bx, up := s.up, hp := s.hp, cp := [] }
def St.ok (s : St) : Bool := okSt s

def frmDom (f : Frm) : List Nat := f.map Prod.fst

def X (E : Env) : XC → (Exit → St → Prop) → St → Prop
  | .skip, Q, st => Q .normal st
  | .reg ops, Q, st => opsX E ops (fun s => Q .normal s.cut) st.cut
  | .draw un ops, Q, st => opsD E 0 un ops [] (fun s => Q .normal s.cut) st.cut
  | .seq a b, Q, st => X E a (fun e s => match e with | .normal => X E b Q s | _ => Q e s) st
  | .cond c a b, Q, st => match ev st c with
    | .d (.b t) => (t = true → X E a Q st) ∧ (t = false → X E b Q st)
    | _ => False
  | .block id b, Q, st => X E b (fun e s => match e with | .exit j => if j = id then Q .normal s else Q (.exit j) s | _ => Q e s) st
  | .loop ts bs b, Q, st => (st.res ts bs).ok = true ∧ ∃ J : Nat → St → Prop, (∃ n, J n (st.res ts bs)) ∧ ∀ n s, J n s →
      X E b (fun e s' => match e with | .normal => (s'.res ts bs).ok = true ∧ ∃ m, m < n ∧ J m (s'.res ts bs) | _ => Q e s') s
  | .kp ts bs b, Q, st => (st.res ts bs).ok = true ∧ X E b Q (st.res ts bs)
  | .exit id, Q, st => Q (.exit id) st
  | .ret, Q, st => Q .ret st
  | .bad, _, _ => False

/-! ### Functions -/

inductive XR where
  | t (n : Nat) | c (n : Nat) (ag : Bool) (sz : Nat)

structure XF where
  n : Nat
  res : List XR
  body : XC

def resOf (s : St) : XR → Option DV
  | .t n => (ev s (.t n)).toD
  | .c n ag sz => match rdCells s sz (ev s (.t n)) with
    | some cs => if ag then (AV.toDL cs).map .agg else (match cs with | [v] => v.toD | _ => none)
    | none => none

def resK (s : St) (l : List XR) (Q : AV → Prop) : Prop :=
  match allSome (resOf s) l with
  | some [] => Q .dead
  | some [v] => Q (.d v)
  | some vs => Q (.tup (vs.map .d))
  | none => False

def numT : Nat → List AV → List (Nat × AV)
  | _, [] => []
  | n, a :: l => (n, a.strip) :: numT (n + 1) l

def FX (E : Env) (x : XF) (args : List AV) (U : List Frm) (H : Option (List BObj)) (Q : AV → List Frm → Option (List BObj) → Prop) : Prop :=
  X E x.body (fun e s => match e with
    | .normal => resK s x.res fun r => Q r s.up s.hp
    | .ret => resK s x.res fun r => Q r s.up s.hp
    | _ => False) { tm := numT 0 args, bx := [], up := U, hp := H, cp := [] }

def compR (P : Program) : ResultVar → Option XR
  | .tmp t => some (.t t)
  | .cell a t => match aggP P t, szP P t with | some ag, some n => if ag ∨ n = 1 then some (.c a ag n) else none | _, _ => none

/-- The code without what is said of keeping. -/
def XC.er : XC → XC
  | .kp _ _ b => b.er
  | .loop _ _ b => .loop [] [] b.er
  | .seq a b => .seq a.er b.er
  | .cond c a b => .cond c a.er b.er
  | .block id b => .block id b.er
  | c => c

/-- Every slot that is written is one of the function's. -/
def dstOk (n : Nat) (l : List XO) : Bool := l.all fun o => match o.dst with | some t => t < n | none => true
def XC.lt (n : Nat) : XC → Bool
  | .reg ops => dstOk n ops
  | .draw _ ops => dstOk n ops
  | .kp _ _ b => b.lt n
  | .loop _ _ b => b.lt n
  | .seq a b => a.lt n && b.lt n
  | .cond _ a b => a.lt n && b.lt n
  | .block _ b => b.lt n
  | _ => true

def compF (P : Program) (esc : Nat → Bool) (fn : Func) : Option XF :=
  match fn.body, allSome (compR P) fn.results.toList with
  | some c, some rs => some ⟨fn.ntmps, rs, comp P esc c⟩
  | _, _ => none

def XF.er (x : XF) : XF := ⟨x.n, x.res, x.body.er⟩

/-- The abstract function is that one's, but for what it says of keeping. -/
def isF (P : Program) (esc : Nat → Bool) (fn : Func) (x : XF) : Prop := compF P esc fn = some x.er ∧ x.body.lt x.n = true

end Go.Px

