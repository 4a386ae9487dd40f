/- An abstract machine: values by value, memory of a call's own by the slot that made it; its evaluator, with rounds. No statement of the program stands here. -/
import Derived.Deep.MidRow
import Derived.Deep.AppendSrc
import Derived.Orders
import Derived.Below
namespace Zab
open Go

/-- Abstract values. -/
inductive AV where
  | i (k : IntKind) (n : Int)
  | b (x : Bool)
  | s (x : ByteArray)
  | nl | np | nf | un | gone
  | er (g : Nat)                              -- a sentinel error: what a package's variable holds
  | sl (cells : List AV) (n : Nat)            -- a slice by value: cells that nobody writes any more, n elements
  | z                                         -- a slice without elements and without room
  | os (cells : List AV) (n sz : Nat)         -- at a call's end alone: a slice of its own, handed over
  | op (cells : List AV)                      -- at a call's begin and end alone: a variable of its own, lent or handed over
  | ag (cells : List AV)                      -- a struct or an array by value
  | tp (l : List AV)
  | rf (d off : Nat)                          -- an address in the row that slot d made
  | rs (d off n sz : Nat)                     -- a slice of the row that slot d made
  | el (cells : List AV) (j : Nat)            -- an address among cells that nobody writes any more
  | gl (g : Nat)                              -- a package's variable
  | fn (f : Nat) (caps : List AV)
  deriving Inhabited

/-- What may lie in a cell. -/
def AV.flat : AV → Bool
  | .i _ _ | .b _ | .s _ | .nl | .np | .nf | .er _ | .sl _ _ | .z => true
  | _ => false

/-- A value's cells. -/
def AV.cells : AV → List AV
  | .ag cs => cs
  | v => [v]

/-- Nothing with parts. -/
def plain : AV → Bool
  | .tp _ => false
  | .fn _ (_ :: _) => false
  | _ => true

def allPlain : List AV → Bool
  | [] => true
  | x :: r => plain x && allPlain r

structure St where
  s : List (Nat × AV)
  l : List (Nat × List AV)

def get : List (Nat × AV) → Nat → AV
  | [], _ => .gone
  | (j, v) :: r, i => bif Nat.beq j i then v else get r i

def look : List (Nat × List AV) → Nat → Option (List AV)
  | [], _ => none
  | (j, v) :: r, i => bif Nat.beq j i then some v else look r i

/-- The higher slots come first. -/
def put {α : Type} : List (Nat × α) → Nat → α → List (Nat × α)
  | [], i, v => [(i, v)]
  | (j, u) :: r, i, v => bif Nat.blt j i then (i, v) :: (j, u) :: r else bif Nat.beq i j then (i, v) :: r else (j, u) :: put r i v

def del {α : Type} : List (Nat × α) → Nat → List (Nat × α)
  | [], _ => []
  | (j, u) :: r, i => bif Nat.beq j i then del r i else (j, u) :: del r i

def memb : List Nat → Nat → Bool
  | [], _ => false
  | j :: r, i => Nat.beq j i || memb r i

def keepS : List Nat → List (Nat × AV) → List (Nat × AV)
  | [], _ => []
  | k :: r, s => (k, get s k) :: keepS r s

def keepL : List Nat → List (Nat × List AV) → List (Nat × List AV)
  | [], _ => []
  | k :: r, l => match look l k with | some cs => (k, cs) :: keepL r l | none => keepL r l

/-- A map over what a slot holds, its parts too. -/
def AV.mapR (f : AV → AV) : AV → AV
  | .tp l => .tp (l.map f)
  | .fn g caps => .fn g (caps.map f)
  | x => f x

def kill1 (d : Nat) : AV → AV
  | .rf e o => bif Nat.beq e d then .gone else .rf e o
  | .rs e o n sz => bif Nat.beq e d then .gone else .rs e o n sz
  | .tp _ => .gone
  | .fn _ (_ :: _) => .gone
  | x => x

def frz1 (d : Nat) (cs : List AV) : AV → AV
  | .rf e o => bif Nat.beq e d then .gone else .rf e o
  | .rs e o n sz => bif Nat.beq e d then .sl ((cs.drop o).take (n * sz)) n else .rs e o n sz
  | .tp _ => .gone
  | .fn _ (_ :: _) => .gone
  | x => x

def mapS (f : AV → AV) : List (Nat × AV) → List (Nat × AV)
  | [] => []
  | (j, u) :: r => (j, u.mapR f) :: mapS f r

def St.kill (S : St) (d : Nat) : St := { s := mapS (kill1 d) S.s, l := del S.l d }

/-- Slot d makes a row. -/
def St.root (S : St) (d : Nat) (cs : List AV) (v : AV) : St :=
  { s := put (mapS (kill1 d) S.s) d v, l := put (del S.l d) d cs }

/-- Row d is written no more. -/
def St.freeze (S : St) (d : Nat) : Option St :=
  match look S.l d with
  | some cs => some { s := mapS (frz1 d cs) S.s, l := del S.l d }
  | none => none

def constAV : Value → AV
  | .int k n => .i k n
  | .bool x => .b x
  | .string x => .s x
  | .nilIface => .nl
  | .pointer none => .np
  | .nilFunc => .nf
  | .slice none 0 0 => .z
  | _ => .gone

def flatConst : Value → Bool
  | .int _ _ | .bool _ | .string _ | .nilIface | .pointer none | .nilFunc | .slice none 0 0 => true
  | _ => false

def evalO (s : List (Nat × AV)) : Operand → AV
  | .tmp t => get s t
  | .const (.agg cs) => bif cs.toList.all flatConst then .ag (cs.toList.map constAV) else .gone
  | .const v => constAV v
  | .global g => .gl g
  | .func f => .fn f []

def evalL (ρ : Operand → AV) : List Operand → List AV
  | [] => []
  | x :: r => ρ x :: evalL ρ r

/-! ### Numbers -/

def shiftV (op : BinOp) (k : IntKind) (a c : Int) : Option AV :=
  bif decide (c < 0) then none else
  match op with
  | .shl => some (.i k (k.wrap (a * 2 ^ (min c.toNat k.bits))))
  | .shr => some (.i k (a.fdiv (2 ^ (min c.toNat k.bits))))
  | _ => none

def bitV (op : BinOp) (k : IntKind) (a c : Int) : Option AV :=
  match op with
  | .and => some (.i k (k.wrap (BitVec.ofInt k.bits a &&& BitVec.ofInt k.bits c).toNat))
  | .or => some (.i k (k.wrap (BitVec.ofInt k.bits a ||| BitVec.ofInt k.bits c).toNat))
  | .xor => some (.i k (k.wrap (BitVec.ofInt k.bits a ^^^ BitVec.ofInt k.bits c).toNat))
  | .andNot => some (.i k (k.wrap (BitVec.ofInt k.bits a &&& ~~~ BitVec.ofInt k.bits c).toNat))
  | _ => none

def intV (op : BinOp) (k : IntKind) (a c : Int) : Option AV :=
  match op with
  | .add => some (.i k (k.wrap (a + c)))
  | .sub => some (.i k (k.wrap (a - c)))
  | .mul => some (.i k (k.wrap (a * c)))
  | .quo => bif decide (c = 0) then none else some (.i k (k.wrap (a.tdiv c)))
  | .rem => bif decide (c = 0) then none else some (.i k (a.tmod c))
  | .eql => some (.b (decide (a = c)))
  | .neq => some (.b (!decide (a = c)))
  | .lss => some (.b (decide (a < c)))
  | .leq => some (.b (decide (a ≤ c)))
  | .gtr => some (.b (decide (c < a)))
  | .geq => some (.b (decide (c ≤ a)))
  | op => bitV op k a c

/-- Are all cells of both whole numbers, and the same? -/
def sameInts : List AV → List AV → Option Bool
  | [], [] => some true
  | .i k a :: r, .i k' c :: r' => bif decide (k = k') then (match sameInts r r' with | some t => some (decide (a = c) && t) | none => none) else none
  | _, _ => none

/-- Which kind of '==' a type has, as far as it is served here. -/
inductive EqKind where
  | no | bool | iface | ifaceC | ptr | str | ints (n : Nat) | slc
  deriving DecidableEq

def isNil : AV → Option Bool
  | .np => some true
  | .rf _ _ | .el _ _ | .gl _ => some false
  | _ => none

def eqlV : EqKind → AV → AV → Option Bool
  | .bool, .b x, .b y => some (x == y)
  | .iface, .er g, .er h | .ifaceC, .er g, .er h => some (Nat.beq g h)
  | .iface, .er _, .nl | .ifaceC, .er _, .nl => some false
  | .iface, .nl, .er _ | .ifaceC, .nl, .er _ => some false
  | .ifaceC, .nl, .nl => some true
  | .ptr, x, .np => isNil x
  | .ptr, .np, x => isNil x
  | .slc, .sl (_ :: _) _, _ => some false
  | .ints n, .ag xs, .ag ys => bif Nat.beq xs.length n && Nat.beq ys.length n then sameInts xs ys else none
  | _, _, _ => none

def binV (ek : EqKind) (op : BinOp) (x y : AV) : Option AV :=
  match x, y with
  | .i k a, .i k' c =>
    match op with
    | .shl => shiftV .shl k a c
    | .shr => shiftV .shr k a c
    | op => bif decide (k = k') then intV op k a c else none
  | x, y =>
    match op with
    | .eql => match eqlV ek x y with | some t => some (.b t) | none => none
    | .neq => match eqlV ek x y with | some t => some (.b (!t)) | none => none
    | _ => none

def unV (op : UnOp) (x : AV) : Option AV :=
  match op, x with
  | .neg, .i k n => some (.i k (k.wrap (0 - n)))
  | .xor, .i k n => bitV .xor k (if k.signed then -1 else k.max) n
  | .not, .b t => some (.b (!t))
  | _, _ => none

/-! ### Operations -/

inductive AOp where
  | move (x : Operand)
  | pick (c a b : Operand)
  | bin (ek : EqKind) (op : BinOp) (x y : Operand)
  | un (op : UnOp) (x : Operand)
  | conv (k : IntKind) (x : Operand)
  | addr (off : Nat) (x : Operand)
  | ixA (len sz : Nat) (x i : Operand)
  | ixS (sz : Nat) (x i : Operand)
  | fld (off : Nat) (m : Option Nat) (x : Operand)
  | ixV (len sz : Nat) (m : Option Nat) (x i : Operand)
  | ixStr (x i : Operand)
  | ext (j : Nat) (x : Operand)
  | build (zero : List AV) (parts : List (Nat × Nat × Operand))
  | bsl (len : Nat) (zero : List AV) (parts : List (Nat × Nat × Operand))
  | mkS (zero : List AV) (bytes : Nat) (len cap : Operand)
  | mkfn (f : Nat) (caps : List Operand)
  | len (str : Bool) (x : Operand)
  | mn (l : List Operand)
  | mx (l : List Operand)
  | nilChk (x : Operand)
  | tas (zero : AV) (x : Operand)
  | slc (sz : Nat) (x : Operand) (lo hi mx : Option Operand)
  | load (m : Option Nat) (x : Operand)
  | call (f : Operand) (args : List Operand)
  | store (sz : Nat) (x v : Operand)
  | box (sz : Nat) (v : Operand)
  | alloc (zero : List AV)
  | mkR (zero : List AV) (bytes : Nat) (len cap : Operand)
  | bslR (len : Nat) (zero : List AV) (parts : List (Nat × Nat × Operand))
  | nilR (sz : Nat) (x : Operand)
  | app (sz bytes : Nat) (x y : Operand)
  | callK (f : Operand) (args : List Operand) (own : List (Nat × Nat))
  | ldg (g : Nat)

/-- pure: 0 · reads memory: 1 · writes it: 2 · turns slots: 3 -/
def AOp.cls : AOp → Nat
  | .load .. | .call .. => 1
  | .store .. => 2
  | .box .. | .alloc .. | .mkR .. | .bslR .. | .nilR .. | .app .. | .callK .. => 3
  | _ => 0

structure AOper where
  dst : Option Nat
  op : AOp
  guard : Option (Nat × Bool)

def zrep (zero : List AV) (n : Nat) : List AV := (List.replicate n zero).flatten

/-- Cells put over cells from a place on. -/
def over (cs : List AV) (off : Nat) (vs : List AV) : List AV := cs.take off ++ (vs ++ cs.drop (off + vs.length))

def allFlat : List AV → Bool
  | [] => true
  | x :: r => x.flat && allFlat r

/-- Cells of a value that may go into memory, if they are so many. -/
def cellsOf (sz : Nat) : AV → Option (List AV)
  | .ag cs => bif Nat.beq cs.length sz then some cs else none
  | x => bif Nat.beq sz 1 && x.flat then some [x] else none

def fillV (ρ : Operand → AV) : List (Nat × Nat × Operand) → List AV → Option (List AV)
  | [], cs => some cs
  | (off, sz, x) :: r, cs =>
    match cellsOf sz (ρ x) with
    | some vs => bif Nat.ble (off + sz) cs.length then
        (match vs with
         | [v] => fillV ρ r (cs.set off v)
         | vs => fillV ρ r (over cs off vs)) else none
    | none => none

/-- A part of cells: one, or so many. -/
def partV (cs : List AV) (off : Nat) : Option Nat → Option AV
  | none => cs[off]?
  | some m => bif Nat.ble (off + m) cs.length then some (.ag ((cs.drop off).take m)) else none

def maxV : AV → List AV → Option AV
  | x, [] => some x
  | .i k a, .i k' c :: r => bif decide (k = k') then maxV (.i k (if c > a then c else a)) r else none
  | _, _ => none

def minV : AV → List AV → Option AV
  | x, [] => some x
  | .i k a, .i k' c :: r => bif decide (k = k') then minV (.i k (if c < a then c else a)) r else none
  | _, _ => none

def idx : AV → Option Nat
  | .i _ n => bif decide (0 ≤ n) then some n.toNat else none
  | _ => none

/-- What a slice lists: its cells' many, where memory of the call's own does not count. -/
def slcV (sz : Nat) (x : AV) (lo hi mx : Option AV) : Option AV :=
  let l : Option Nat := match lo with | none => some 0 | some v => idx v
  match mx with
  | some m =>
    match l, hi, idx m with
    | some 0, some h, some 0 =>
      (match idx h, x with
       | some 0, .sl _ _ | some 0, .z | some 0, .rs _ _ _ _ => some .z
       | _, _ => none)
    | _, _, _ => none
  | none =>
    match x with
    | .sl cs n =>
      (match l, (match hi with | none => some n | some v => idx v) with
       | some l, some h => bif Nat.ble l h && Nat.ble h n then some (.sl ((cs.drop (l * sz)).take ((h - l) * sz)) (h - l)) else none
       | _, _ => none)
    | .z =>
      (match l, (match hi with | none => some 0 | some v => idx v) with
       | some 0, some 0 => some .z
       | _, _ => none)
    | .rs d off n sz' =>
      (match l, (match hi with | none => some n | some v => idx v) with
       | some l, some h => bif Nat.beq sz sz' && Nat.ble l h && Nat.ble h n && Nat.blt l n then some (.rs d (off + l * sz) (h - l) sz) else none
       | _, _ => none)
    | _ => none

def pureV (ρ : Operand → AV) : AOp → Option AV
  | .move x => some (ρ x)
  | .pick c a b => match ρ c with | .b t => some (bif t then ρ a else ρ b) | _ => none
  | .bin ek op x y => binV ek op (ρ x) (ρ y)
  | .un op x => unV op (ρ x)
  | .conv k x => match ρ x with | .i _ n => some (.i k (k.wrap n)) | _ => none
  | .addr off x => match ρ x with | .rf d o => some (.rf d (o + off)) | .el cs o => some (.el cs (o + off)) | _ => none
  | .ixA len sz x i =>
    match ρ i with
    | .i _ j => bif decide (0 ≤ j) && decide (j < (len : Int)) then
        (match ρ x with | .rf d o => some (.rf d (o + j.toNat * sz)) | .el cs o => some (.el cs (o + j.toNat * sz)) | _ => none) else none
    | _ => none
  | .ixS sz x i =>
    match ρ i with
    | .i _ j =>
      (match ρ x with
       | .sl cs n => bif Nat.blt (j.toNat * sz) cs.length && (decide (0 ≤ j) && decide (j < (n : Int))) then some (.el cs (j.toNat * sz)) else none
       | .rs d o n sz' => bif Nat.beq sz sz' && (decide (0 ≤ j) && decide (j < (n : Int))) then some (.rf d (o + j.toNat * sz)) else none
       | _ => none)
    | _ => none
  | .fld off m x => match ρ x with | .ag cs => partV cs off m | _ => none
  | .ixV len sz m x i =>
    match ρ i with
    | .i _ j => bif decide (0 ≤ j) && decide (j < (len : Int)) then (match ρ x with | .ag cs => partV cs (j.toNat * sz) m | _ => none) else none
    | _ => none
  | .ixStr x i =>
    match ρ i with
    | .i _ j => (match ρ x with | .s t => bif decide (0 ≤ j) then (match t[j.toNat]? with | some c => some (.i .u8 c.toNat) | none => none) else none | _ => none)
    | _ => none
  | .ext j x => match ρ x with | .tp l => l[j]? | _ => none
  | .build zero parts => match fillV ρ parts zero with | some cs => some (.ag cs) | none => none
  | .bsl n zero parts => match fillV ρ parts (zrep zero n) with | some cs => some (.sl cs n) | none => none
  | .mkS zero bytes l c =>
    match ρ l, ρ c with
    | .i .i64 n, .i .i64 m => bif decide (0 ≤ n) && (decide (n = m) && decide (n.toNat * bytes ≤ 140737488355328)) then some (.sl (zrep zero n.toNat) n.toNat) else none
    | _, _ => none
  | .mkfn f caps => bif allPlain (evalL ρ caps) then some (.fn f (evalL ρ caps)) else none
  | .len false x => match ρ x with | .sl _ n | .rs _ _ n _ => some (.i .i64 n) | .z => some (.i .i64 0) | _ => none
  | .len true x => match ρ x with | .s t => some (.i .i64 t.size) | _ => none
  | .mn l => match evalL ρ l with | x :: r => minV x r | [] => none
  | .mx l => match evalL ρ l with | x :: r => maxV x r | [] => none
  | .nilChk x => match ρ x with | .rf d o => some (.rf d o) | .el cs o => some (.el cs o) | .gl g => some (.gl g) | .fn f c => some (.fn f c) | _ => none
  | .tas zero x => match ρ x with | .er _ | .nl => some (.tp [zero, .b false]) | _ => none
  | .slc sz x lo hi mx => slcV sz (ρ x) (lo.map ρ) (hi.map ρ) (mx.map ρ)
  | .ldg g => some (.er g)
  | _ => none

/-- What a call gives back: its value, and what the variables that it was lent hold. -/
structure Ret where
  v : AV
  lent : List (List AV)

/-- An argument by value. -/
def toArg (l : List (Nat × List AV)) : AV → Option AV
  | .rs d off n sz => match look l d with | some cs => bif Nat.ble (off + n * sz) cs.length then some (.sl ((cs.drop off).take (n * sz)) n) else none | none => none
  | .rf _ _ => none
  | .tp _ => none
  | .os _ _ _ => none
  | .op _ => none
  | .un => none
  | .gone => none
  | .gl _ => none
  | .fn f [] => some (.fn f [])
  | .fn _ _ => none
  | x => some x

def toArgs (l : List (Nat × List AV)) : List AV → Option (List AV)
  | [] => some []
  | x :: r => match toArg l x, toArgs l r with | some v, some vs => some (v :: vs) | _, _ => none

def isRs : AV → Bool
  | .rs _ _ _ _ => true
  | _ => false

def anyRs : List AV → Bool
  | [] => false
  | x :: r => isRs x || anyRs r

/-- Might it bear cells that came in? -/
def hasSl1 : AV → Bool
  | .sl _ _ | .ag _ | .tp _ | .el _ _ => true
  | _ => false

def hasSlL : List AV → Bool
  | [] => false
  | x :: r => hasSl1 x || hasSlL r

def hasSl2 : AV → Bool
  | .os cs _ _ => hasSlL cs
  | .op cs => hasSlL cs
  | x => hasSl1 x

def hasSl2L : List AV → Bool
  | [] => false
  | x :: r => hasSl2 x || hasSl2L r

def hasSl : AV → Bool
  | .tp l => hasSl2L l
  | x => hasSl2 x

/-- A result, nothing of it to be written. -/
def fromRet1 : AV → Option AV
  | .os cs n _ => some (.sl cs n)
  | .op (c :: cs) => some (.el (c :: cs) 0)
  | .op [] => none
  | .tp _ => none
  | x => some x

def fromRetL : List AV → Option (List AV)
  | [] => some []
  | x :: r => match fromRet1 x, fromRetL r with | some v, some vs => some (v :: vs) | _, _ => none

def fromRet : AV → Option AV
  | .tp l => (fromRetL l).map .tp
  | x => fromRet1 x

abbrev CallF := Nat → List AV → Option Ret

def readV (call : CallF) (ρ : Operand → AV) (l : List (Nat × List AV)) : AOp → Option AV
  | .load m (.global g) => (match m with | none => some (.er g) | some _ => none)
  | .load m x =>
    match ρ x with
    | .rf d o => (match look l d with | some cs => partV cs o m | none => none)
    | .el cs o => partV cs o m
    | _ => none
  | .call f xs =>
    match ρ f with
    | .fn f [] =>
      (match toArgs l (evalL ρ xs) with
       | some vs =>
         (match call f vs with
          | some ⟨r, []⟩ => bif anyRs (evalL ρ xs) && hasSl r then none else fromRet r
          | _ => none)
       | none => none)
    | _ => none
  | _ => none

def writeV (ρ : Operand → AV) (l : List (Nat × List AV)) : AOp → Option (List (Nat × List AV))
  | .store sz x v =>
    match ρ x, cellsOf sz (ρ v) with
    | .rf d o, some vs =>
      (match look l d with
       | some cs => bif Nat.ble (o + sz) cs.length then
           (match vs with
            | [v] => some (put l d (cs.set o v))
            | vs => some (put l d (over cs o vs))) else none
       | none => none)
    | _, _ => none
  | _ => none

def St.putD (S : St) (dst : Option Nat) (v : AV) : St :=
  match dst with
  | some d => { S with s := put S.s d v }
  | none => S

/-- What the second operand of an append lists. -/
def srcV (l : List (Nat × List AV)) (sz : Nat) (d : Nat) : AV → Option (List AV × Nat)
  | .sl cs m => bif Nat.beq cs.length (m * sz) then some (cs, m) else none
  | .z => some ([], 0)
  | .rs e off m sz' =>
    match look l e with
    | some cs => bif !Nat.beq e d && (Nat.beq sz sz' && Nat.ble (off + m * sz) cs.length) then some ((cs.drop off).take (m * sz), m) else none
    | none => none
  | _ => none

/-- Lent variables: by the argument's place. -/
def lends (l : List (Nat × List AV)) : List AV → Option (List AV × List Nat)
  | [] => some ([], [])
  | .rf d 0 :: r =>
    (match look l d, lends l r with
     | some cs, some (vs, ds) => bif memb ds d then none else some (.op cs :: vs, d :: ds)
     | _, _ => none)
  | x :: r =>
    (match toArg l x, lends l r with
     | some v, some (vs, ds) => some (v :: vs, ds)
     | _, _ => none)

/-- Is a row among those, seen by value? -/
def seesAny (ds : List Nat) : List AV → Bool
  | [] => false
  | .rs d _ _ _ :: r => memb ds d || seesAny ds r
  | _ :: r => seesAny ds r

def putAll (l : List (Nat × List AV)) : List Nat → List (List AV) → Option (List (Nat × List AV))
  | [], [] => some l
  | d :: ds, cs :: css => putAll (put l d cs) ds css
  | _, _ => none

def hasSlLL : List (List AV) → Bool
  | [] => false
  | x :: r => hasSlL x || hasSlLL r

/-- A result; one part of it as a row, where it is to be written. -/
def recv (S : St) (d : Nat) (own : List (Nat × Nat)) (v : AV) : Option (St × AV) :=
  match own, v with
  | (j, _) :: _, .tp l =>
    (match l[j]? with
     | some (.os cs n sz) =>
       (match fromRetL (l.set j (.rs (d + 1000 * (j + 1)) 0 n sz)) with
        | some vs => some ({ s := mapS (kill1 (d + 1000 * (j + 1))) S.s, l := put (del S.l (d + 1000 * (j + 1))) (d + 1000 * (j + 1)) cs }, .tp vs)
        | none => none)
     | some (.op cs) =>
       (match fromRetL (l.set j (.rf (d + 1000 * (j + 1)) 0)) with
        | some vs => some ({ s := mapS (kill1 (d + 1000 * (j + 1))) S.s, l := put (del S.l (d + 1000 * (j + 1))) (d + 1000 * (j + 1)) cs }, .tp vs)
        | none => none)
     | _ => (match fromRet (.tp l) with | some v => some (S, v) | none => none))
  | _ :: _, .os cs n sz => some ({ s := mapS (kill1 d) S.s, l := put (del S.l d) d cs }, .rs d 0 n sz)
  | _ :: _, .op cs => some ({ s := mapS (kill1 d) S.s, l := put (del S.l d) d cs }, .rf d 0)
  | _, v => match fromRet v with | some v => some (S, v) | none => none

def stepK (call : CallF) (S : St) (dst : Option Nat) : AOp → Option St
  | .box sz v =>
    match dst, cellsOf sz (evalO S.s v) with
    | some d, some cs => some (S.root d cs (.rf d 0))
    | _, _ => none
  | .alloc zero => match dst with | some d => some (S.root d zero (.rf d 0)) | none => none
  | .mkR zero bytes l c =>
    match dst, evalO S.s l, evalO S.s c with
    | some d, .i .i64 n, .i .i64 m => bif decide (0 ≤ n) && (decide (n ≤ m) && decide (m.toNat * bytes ≤ 140737488355328)) then some (S.root d (zrep zero n.toNat) (.rs d 0 n.toNat zero.length)) else none
    | _, _, _ => none
  | .bslR n zero parts =>
    match dst, fillV (evalO S.s) parts (zrep zero n) with
    | some d, some cs => some (S.root d cs (.rs d 0 n zero.length))
    | _, _ => none
  | .nilR sz x =>
    match dst, evalO S.s x with
    | some d, .z => some (S.root d [] (.rs d 0 0 sz))
    | _, _ => none
  | .app sz bytes x y =>
    match dst, evalO S.s x with
    | some t, .rs d 0 n sz' =>
      (match look S.l d, srcV S.l sz d (evalO S.s y) with
       | some cs, some (vs, m) =>
         bif Nat.beq sz sz' && (Nat.beq cs.length (n * sz) && decide ((n + m) * bytes ≤ 140737488355328)) then
           some { s := put (mapS (kill1 d) S.s) t (.rs d 0 (n + m) sz), l := put (del S.l d) d (cs ++ vs) } else none
       | _, _ => none)
    | some t, .z =>
      (match srcV S.l sz t (evalO S.s y) with
       | some (vs, m) => bif decide (m * bytes ≤ 140737488355328) then some (S.root t vs (.rs t 0 m sz)) else none
       | none => none)
    | _, _ => none
  | .callK f xs own =>
    match evalO S.s f with
    | .fn f caps =>
      let as := evalL (evalO S.s) xs ++ caps
      (match lends S.l as with
       | some (vs, ds) =>
         bif seesAny ds as then none else
         (match call f vs with
          | some ⟨r, lent⟩ =>
            bif anyRs as && (hasSl r || hasSlLL lent) then none else
            (match putAll S.l ds lent with
             | some l' =>
               (match dst with
                | some d => (match recv { S with l := l' } d own r with | some (S2, v) => some (S2.putD (some d) v) | none => none)
                | none => some { S with l := l' })
             | none => none)
          | none => none)
       | none => none)
    | _ => none
  | _ => none

def wants (s : List (Nat × AV)) : Option (Nat × Bool) → Option Bool
  | none => some true
  | some (t, want) =>
    match get s t with
    | .b x => some (x == want)
    | .gone => none
    | _ => some false

def step (call : CallF) (o : AOper) (S : St) : Option St :=
  match wants S.s o.guard with
  | some true =>
    (match o.op.cls with
     | 0 => (pureV (evalO S.s) o.op).map (S.putD o.dst)
     | 1 => (readV call (evalO S.s) S.l o.op).map (S.putD o.dst)
     | 2 => (writeV (evalO S.s) S.l o.op).map fun l => { S with l }
     | _ => stepK call S o.dst o.op)
  | some false => some (S.putD o.dst .un)
  | none => none

def steps (call : CallF) : List AOper → St → Option St
  | [], S => some S
  | o :: r, S => match step call o S with | some S1 => steps call r S1 | none => none

/-! ### Code -/

inductive Ex where
  | normal | ret | exit (id : Nat)

inductive AC where
  | skip | ret
  | exit (id : Nat)
  | reg (ops : List AOper)
  | seq (a b : AC)
  | cond (c : Operand) (a b : AC)
  | block (id : Nat) (a : AC)
  | loop (ks kr : List Nat) (a : AC)
  | pre (fr : List Nat) (ks kr : List Nat) (a : AC)

def St.clean (S : St) (ks kr : List Nat) : St := { s := keepS ks S.s, l := keepL kr S.l }

def freezes (S : St) : List Nat → Option St
  | [] => some S
  | d :: r => match S.freeze d with | some S1 => freezes S1 r | none => none

def iter (f : St → Option (Ex × St)) : Nat → St → Option (Ex × St)
  | 0, _ => none
  | n + 1, S =>
    match f S with
    | some (.normal, S1) => iter f n S1
    | r => r

def Ex.unblock (id : Nat) : Ex → Ex
  | .exit j => bif Nat.beq j id then .normal else .exit j
  | e => e

def evC (call : CallF) (n : Nat) : AC → St → Option (Ex × St)
  | .skip, S => some (.normal, S)
  | .ret, S => some (.ret, S)
  | .exit id, S => some (.exit id, S)
  | .reg ops, S => match steps call ops S with | some S1 => some (.normal, S1) | none => none
  | .seq a b, S => match evC call n a S with | some (.normal, S1) => evC call n b S1 | r => r
  | .cond c a b, S => match evalO S.s c with | .b t => bif t then evC call n a S else evC call n b S | _ => none
  | .block id a, S => match evC call n a S with | some (e, S1) => some (e.unblock id, S1) | none => none
  | .loop ks kr a, S => iter (fun S => evC call n a (S.clean ks kr)) n S
  | .pre fr ks kr a, S => match freezes S fr with | some S1 => evC call n a (S1.clean ks kr) | none => none

inductive ARes where
  | t (t : Nat)
  | c (t : Nat) (m : Option Nat)

structure AFun where
  body : AC
  np : Nat
  res : List ARes

def enterS : Nat → List AV → List (Nat × AV)
  | _, [] => []
  | j, .op _ :: r => (j, .rf j 0) :: enterS (j + 1) r
  | j, x :: r => (j, x) :: enterS (j + 1) r

def enterL : Nat → List AV → List (Nat × List AV)
  | _, [] => []
  | j, .op cs :: r => (j, cs) :: enterL (j + 1) r
  | j, _ :: r => enterL (j + 1) r

def resV (S : St) : ARes → Option AV
  | .t t => some (get S.s t)
  | .c t m => match get S.s t with | .rf d o => (match look S.l d with | some cs => partV cs o m | none => none) | .el cs o => partV cs o m | _ => none

def resL (S : St) : List ARes → Option (List AV)
  | [] => some []
  | x :: r => match resV S x, resL S r with | some v, some vs => some (v :: vs) | _, _ => none

def countR (d : Nat) : List AV → Nat
  | [] => 0
  | .rs e _ _ _ :: r => (bif Nat.beq e d then 1 else 0) + countR d r
  | .rf e _ :: r => (bif Nat.beq e d then 1 else 0) + countR d r
  | _ :: r => countR d r

/-- A result, by value; its own rows are handed over. -/
def toRet (np : Nat) (l : List (Nat × List AV)) (all : List AV) : AV → Option AV
  | .rs d off n sz =>
    match look l d with
    | some cs => bif Nat.blt d np then none else
        bif Nat.beq off 0 && (Nat.beq cs.length (n * sz) && Nat.beq (countR d all) 1) then some (.os cs n sz) else
        bif Nat.ble (off + n * sz) cs.length then some (.sl ((cs.drop off).take (n * sz)) n) else none
    | none => none
  | .rf d off =>
    match look l d with
    | some cs => bif Nat.blt d np then none else bif Nat.beq off 0 && Nat.beq (countR d all) 1 then some (.op cs) else none
    | none => none
  | .fn f [] => some (.fn f [])
  | .fn _ _ => none
  | .tp _ => none
  | .un => none
  | .gone => none
  | .gl _ => none
  | .os _ _ _ => none
  | .op _ => none
  | x => some x

def toRets (np : Nat) (l : List (Nat × List AV)) (all : List AV) : List AV → Option (List AV)
  | [] => some []
  | x :: r => match toRet np l all x, toRets np l all r with | some v, some vs => some (v :: vs) | _, _ => none

def lentOf (l : List (Nat × List AV)) : Nat → List AV → Option (List (List AV))
  | _, [] => some []
  | j, .op _ :: r => match look l j, lentOf l (j + 1) r with | some cs, some css => some (cs :: css) | _, _ => none
  | j, _ :: r => lentOf l (j + 1) r

def one : List AV → AV
  | [x] => x
  | l => .tp l

def fin (A : AFun) (args : List AV) (S : St) : Option Ret :=
  match resL S A.res with
  | some vs =>
    (match toRets A.np S.l vs vs, lentOf S.l 0 args with
     | some rs, some lent => some ⟨one rs, lent⟩
     | _, _ => none)
  | none => none

def evF (tab : Nat → Option AFun) : Nat → CallF
  | 0, _, _ => none
  | n + 1, f, args =>
    match tab f with
    | some A =>
      bif Nat.beq args.length A.np then
        (match evC (evF tab n) n A.body ⟨enterS 0 args, enterL 0 args⟩ with
         | some (.normal, S) | some (.ret, S) => fin A args S
         | _ => none) else none
    | none => none

end Zab
