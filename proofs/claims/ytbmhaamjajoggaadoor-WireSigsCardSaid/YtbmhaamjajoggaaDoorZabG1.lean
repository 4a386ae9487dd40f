/- An abstract machine: values by value, memory of a call's own by the slot that made it; its evaluator, with rounds. No statement of the program stands here. -/
import Derived.Deep.MidRow
import Derived.Deep.AppendSrc
import Derived.Orders
import Derived.Below
import Derived.WalkKit
namespace Zab
open Go

/-- Abstract values. -/
inductive AV where
  | i (k : IntKind) (n : Int)
  | b (x : Bool)
  | s (x : ByteArray)
  | nl | np | nf | un | gone
  | er (g : Nat)                              -- a sentinel error: what a package's variable holds
  | ie (t : Nat) (cells : List AV)            -- an interface of type t that holds a pointer to cells that nobody writes any more
  | sl (cells : List AV) (n : Nat)            -- a slice by value: cells that nobody writes any more, n elements
  | z                                         -- a slice without elements and without room
  | os (cells : List AV) (n sz : Nat)         -- at a call's end alone: a slice of its own, handed over
  | op (cells : List AV)                      -- at a call's begin and end alone: a variable of its own, lent or handed over
  | oq (cells : List AV)                      -- the same; among its cells may be .os and .op
  | ag (cells : List AV)                      -- a struct or an array by value
  | aq (cells : List AV)                      -- a struct by value, names among its parts (at a call's begin and end: .os and .op)
  | tp (l : List AV)
  | rf (d off : Nat)                          -- an address in the row that slot d made
  | rs (d off n sz : Nat)                     -- a slice of the row that slot d made
  | el (cells : List AV) (j : Nat)            -- an address among cells that nobody writes any more
  | gl (g : Nat)                              -- a package's variable
  | fn (f : Nat) (caps : List AV)
  deriving Inhabited

/-- What may lie in a cell. -/
def AV.flat : AV → Bool
  | .i _ _ | .b _ | .s _ | .nl | .np | .nf | .er _ | .ie _ _ | .sl _ _ | .z => true
  | _ => false

/-- What may lie in a cell of a row that may hold names. -/
def AV.cellQ : AV → Bool
  | .rf _ _ | .rs _ _ _ _ | .gone => true
  | x => x.flat

/-- The same, and told. -/
def AV.cellN : AV → Bool
  | .rf _ _ | .rs _ _ _ _ => true
  | x => x.flat

/-- A value's cells. -/
def AV.cells : AV → List AV
  | .ag cs => cs
  | v => [v]

/-- Nothing with parts. -/
def plain : AV → Bool
  | .tp _ => false
  | .aq _ => false
  | .fn _ (_ :: _) => false
  | _ => true

def allPlain : List AV → Bool
  | [] => true
  | x :: r => plain x && allPlain r

structure St where
  s : List (Nat × AV)
  l : List (Nat × List AV)

def get : List (Nat × AV) → Nat → AV
  | [], _ => .gone
  | (j, v) :: r, i => bif Nat.beq j i then v else get r i

def look : List (Nat × List AV) → Nat → Option (List AV)
  | [], _ => none
  | (j, v) :: r, i => bif Nat.beq j i then some v else look r i

/-- The higher slots come first. -/
def put {α : Type} : List (Nat × α) → Nat → α → List (Nat × α)
  | [], i, v => [(i, v)]
  | (j, u) :: r, i, v => bif Nat.blt j i then (i, v) :: (j, u) :: r else bif Nat.beq i j then (i, v) :: r else (j, u) :: put r i v

def del {α : Type} : List (Nat × α) → Nat → List (Nat × α)
  | [], _ => []
  | (j, u) :: r, i => bif Nat.beq j i then del r i else (j, u) :: del r i

def memb : List Nat → Nat → Bool
  | [], _ => false
  | j :: r, i => Nat.beq j i || memb r i

def keepS : List Nat → List (Nat × AV) → List (Nat × AV)
  | [], _ => []
  | k :: r, s => (k, get s k) :: keepS r s

def keepL : List Nat → List (Nat × List AV) → List (Nat × List AV)
  | [], _ => []
  | k :: r, l => match look l k with | some cs => (k, cs) :: keepL r l | none => keepL r l

/-- Rows from here on may hold names; all others hold flat cells alone. -/
def RB : Nat := 1000000000000
/-- Parts of arguments that are lent; what a lent row holds. -/
def HB : Nat := 1000000
def CB : Nat := 1000000000
def isRef (d : Nat) : Bool := Nat.ble 1000000000000 d
def child (d o : Nat) : Nat := 1000000000 * (o + 1) + d % 1000000000000
def partId (j k : Nat) : Nat := 1000000 * (k + 1) + j
/-- Is it a row that a call was lent itself? -/
def rootB (np d : Nat) : Bool := Nat.blt (d % 1000000000000) np || (Nat.ble 1000000 (d % 1000000000000) && Nat.blt (d % 1000000000000) 1000000000)

/-- Is it a row that comes with another? -/
def chB (j : Nat) : Bool := Nat.ble 1000000000 j && Nat.blt j 1000000000000
def allCh : List Nat → Bool
  | [] => true
  | j :: r => chB j && allCh r

/-- A map over what a slot holds, its parts too. -/
def AV.mapR (f : AV → AV) : AV → AV
  | .tp l => .tp (l.map f)
  | .aq l => .aq (l.map f)
  | .fn g caps => .fn g (caps.map f)
  | x => f x

def kill1 (d : Nat) : AV → AV
  | .rf e o => bif Nat.beq e d then .gone else .rf e o
  | .rs e o n sz => bif Nat.beq e d then .gone else .rs e o n sz
  | .tp _ => .gone
  | .aq _ => .gone
  | .fn _ (_ :: _) => .gone
  | x => x

def frz1 (d : Nat) (cs : List AV) : AV → AV
  | .rf e o => bif Nat.beq e d then .gone else .rf e o
  | .rs e o n sz => bif Nat.beq e d then .sl ((cs.drop o).take (n * sz)) n else .rs e o n sz
  | .tp _ => .gone
  | .aq _ => .gone
  | .fn _ (_ :: _) => .gone
  | x => x

/-- In slots: a frozen row's address still tells where its cells lie. -/
def frz2 (d : Nat) (cs : List AV) : AV → AV
  | .rf e o => bif Nat.beq e d then (bif cs.isEmpty then .gone else .el cs o) else .rf e o
  | x => frz1 d cs x

def mapS (f : AV → AV) : List (Nat × AV) → List (Nat × AV)
  | [] => []
  | (j, u) :: r => (j, u.mapR f) :: mapS f r

/-- Over the rows that may hold names. -/
def mapQ (f : AV → AV) : List (Nat × List AV) → List (Nat × List AV)
  | [] => []
  | (j, cs) :: r => (j, bif isRef j then cs.map f else cs) :: mapQ f r

def St.kill (S : St) (d : Nat) : St := { s := mapS (kill1 d) S.s, l := mapQ (kill1 d) (del S.l d) }

def St.kills (S : St) : List Nat → St
  | [] => S
  | d :: r => (S.kill d).kills r

/-- Row d is made; v goes into slot t. -/
def St.rootAt (S : St) (t d : Nat) (cs : List AV) (v : AV) : St :=
  { s := put (mapS (kill1 d) S.s) t v, l := put (mapQ (kill1 d) (del S.l d)) d cs }

/-- Slot d makes a row. -/
def St.root (S : St) (d : Nat) (cs : List AV) (v : AV) : St :=
  { s := put (mapS (kill1 d) S.s) d v, l := put (mapQ (kill1 d) (del S.l d)) d cs }

/-- Row d is written no more. -/
def St.freeze (S : St) (d : Nat) : Option St :=
  bif isRef d then none else
  match look S.l d with
  | some cs => some { s := mapS (frz2 d cs) S.s, l := mapQ (frz1 d cs) (del S.l d) }
  | none => some S

def constAV : Value → AV
  | .int k n => .i k n
  | .bool x => .b x
  | .string x => .s x
  | .nilIface => .nl
  | .pointer none => .np
  | .nilFunc => .nf
  | .slice none 0 0 => .z
  | _ => .gone

def flatConst : Value → Bool
  | .int _ _ | .bool _ | .string _ | .nilIface | .pointer none | .nilFunc | .slice none 0 0 => true
  | _ => false

def evalO (s : List (Nat × AV)) : Operand → AV
  | .tmp t => get s t
  | .const (.agg cs) => bif cs.toList.all flatConst then .ag (cs.toList.map constAV) else .gone
  | .const v => constAV v
  | .global g => .gl g
  | .func f => .fn f []

def evalL (ρ : Operand → AV) : List Operand → List AV
  | [] => []
  | x :: r => ρ x :: evalL ρ r

/-! ### Numbers -/

def shiftV (op : BinOp) (k : IntKind) (a c : Int) : Option AV :=
  bif decide (c < 0) then none else
  match op with
  | .shl => some (.i k (k.wrap (a * 2 ^ (min c.toNat k.bits))))
  | .shr => some (.i k (a.fdiv (2 ^ (min c.toNat k.bits))))
  | _ => none

def bitV (op : BinOp) (k : IntKind) (a c : Int) : Option AV :=
  match op with
  | .and => some (.i k (k.wrap (BitVec.ofInt k.bits a &&& BitVec.ofInt k.bits c).toNat))
  | .or => some (.i k (k.wrap (BitVec.ofInt k.bits a ||| BitVec.ofInt k.bits c).toNat))
  | .xor => some (.i k (k.wrap (BitVec.ofInt k.bits a ^^^ BitVec.ofInt k.bits c).toNat))
  | .andNot => some (.i k (k.wrap (BitVec.ofInt k.bits a &&& ~~~ BitVec.ofInt k.bits c).toNat))
  | _ => none

def intV (op : BinOp) (k : IntKind) (a c : Int) : Option AV :=
  match op with
  | .add => some (.i k (k.wrap (a + c)))
  | .sub => some (.i k (k.wrap (a - c)))
  | .mul => some (.i k (k.wrap (a * c)))
  | .quo => bif decide (c = 0) then none else some (.i k (k.wrap (a.tdiv c)))
  | .rem => bif decide (c = 0) then none else some (.i k (a.tmod c))
  | .eql => some (.b (decide (a = c)))
  | .neq => some (.b (!decide (a = c)))
  | .lss => some (.b (decide (a < c)))
  | .leq => some (.b (decide (a ≤ c)))
  | .gtr => some (.b (decide (c < a)))
  | .geq => some (.b (decide (c ≤ a)))
  | op => bitV op k a c

/-- Are all cells of both whole numbers, and the same? -/
def sameInts : List AV → List AV → Option Bool
  | [], [] => some true
  | .i k a :: r, .i k' c :: r' => bif decide (k = k') then (match sameInts r r' with | some t => some (decide (a = c) && t) | none => none) else none
  | _, _ => none

/-- Which kind of '==' a type has, as far as it is served here. -/
inductive EqKind where
  | no | bool | iface | ifaceC | ptr | str | ints (n : Nat) | slc
  deriving DecidableEq

def isNil : AV → Option Bool
  | .np => some true
  | .rf _ _ | .el _ _ | .gl _ => some false
  | _ => none

def eqlV : EqKind → AV → AV → Option Bool
  | .bool, .b x, .b y => some (x == y)
  | .iface, .er g, .er h | .ifaceC, .er g, .er h => some (Nat.beq g h)
  | .iface, .er _, .nl | .ifaceC, .er _, .nl => some false
  | .iface, .nl, .er _ | .ifaceC, .nl, .er _ => some false
  | .iface, .ie _ _, .nl | .ifaceC, .ie _ _, .nl => some false
  | .ifaceC, .nl, .nl => some true
  | .ptr, x, .np => isNil x
  | .ptr, .np, x => isNil x
  | .slc, .sl (_ :: _) _, _ => some false
  | .slc, .z, _ => some true
  | .ints n, .ag xs, .ag ys => bif Nat.beq xs.length n && Nat.beq ys.length n then sameInts xs ys else none
  | _, _, _ => none

def binV (ek : EqKind) (op : BinOp) (x y : AV) : Option AV :=
  match x, y with
  | .i k a, .i k' c =>
    match op with
    | .shl => shiftV .shl k a c
    | .shr => shiftV .shr k a c
    | op => bif decide (k = k') then intV op k a c else none
  | x, y =>
    match op with
    | .eql => match eqlV ek x y with | some t => some (.b t) | none => none
    | .neq => match eqlV ek x y with | some t => some (.b (!t)) | none => none
    | _ => none

def unV (op : UnOp) (x : AV) : Option AV :=
  match op, x with
  | .neg, .i k n => some (.i k (k.wrap (0 - n)))
  | .xor, .i k n => bitV .xor k (if k.signed then -1 else k.max) n
  | .not, .b t => some (.b (!t))
  | _, _ => none

/-! ### Operations -/

inductive AOp where
  | move (x : Operand)
  | pick (c a b : Operand)
  | bin (ek : EqKind) (op : BinOp) (x y : Operand)
  | un (op : UnOp) (x : Operand)
  | conv (k : IntKind) (x : Operand)
  | addr (off : Nat) (x : Operand)
  | ixA (len sz : Nat) (x i : Operand)
  | ixS (sz : Nat) (x i : Operand)
  | fld (off : Nat) (m : Option Nat) (x : Operand)
  | ixV (len sz : Nat) (m : Option Nat) (x i : Operand)
  | ixStr (x i : Operand)
  | ext (j : Nat) (x : Operand)
  | build (zero : List AV) (parts : List (Nat × Nat × Operand))
  | buildQ (zero : List AV) (parts : List (Nat × Nat × Operand))
  | bsl (len : Nat) (zero : List AV) (parts : List (Nat × Nat × Operand))
  | mkS (zero : List AV) (bytes : Nat) (len cap : Operand)
  | mkfn (f : Nat) (caps : List Operand)
  | len (str : Bool) (x : Operand)
  | cap (x : Operand)
  | mn (l : List Operand)
  | mx (l : List Operand)
  | nilChk (x : Operand)
  | tas (t : Nat) (zero : AV) (x : Operand)
  | mki (t : Nat) (x : Operand)
  | boxE (sz : Nat) (v : Operand)
  | slc (sz : Nat) (x : Operand) (lo hi mx : Option Operand)
  | load (m : Option Nat) (x : Operand)
  | call (f : Operand) (args : List Operand)
  | store (sz : Nat) (x v : Operand)
  | box (sz : Nat) (v : Operand)
  | alloc (zero : List AV)
  | boxQ (sz : Nat) (v : Operand) (nils : List (Nat × Nat))
  | allocQ (zero : List AV) (nils : List (Nat × Nat))
  | mkR (zero : List AV) (bytes : Nat) (len cap : Operand)
  | bslR (len : Nat) (zero : List AV) (parts : List (Nat × Nat × Operand))
  | nilR (sz : Nat) (x : Operand)
  | app (sz bytes : Nat) (x y : Operand)
  | appN (zero : List AV) (bytes : Nat) (x n : Operand)
  | stop
  | callK (f : Operand) (args : List Operand) (own : List (Nat × Nat))
  | ldg (g : Nat)
  | ldE (m : Option Nat) (x : Operand)
  | ldR (d : Nat) (m : Option Nat) (x : Operand)

/-- pure: 0 · reads memory: 1 · writes it: 2 · turns slots: 3 -/
def AOp.cls : AOp → Nat
  | .load .. | .call .. | .ldR .. => 1
  | .store .. => 2
  | .box .. | .alloc .. | .boxQ .. | .allocQ .. | .mkR .. | .bslR .. | .nilR .. | .app .. | .appN .. | .callK .. => 3
  | _ => 0

structure AOper where
  dst : Option Nat
  op : AOp
  guard : Option (Nat × Bool)

def zrep (zero : List AV) (n : Nat) : List AV := (List.replicate n zero).flatten

/-- Cells put over cells from a place on. -/
def over (cs : List AV) (off : Nat) (vs : List AV) : List AV := cs.take off ++ (vs ++ cs.drop (off + vs.length))

def allFlat : List AV → Bool
  | [] => true
  | x :: r => x.flat && allFlat r

/-- Cells of a value that may go into memory, if they are so many. -/
def cellsOf (sz : Nat) : AV → Option (List AV)
  | .ag cs => bif Nat.beq cs.length sz then some cs else none
  | x => bif Nat.beq sz 1 && x.flat then some [x] else none

/-- Cells of a value that may go into a row that may hold names. -/
def allQ : List AV → Bool
  | [] => true
  | x :: r => x.cellQ && allQ r

def cellsQ (sz : Nat) : AV → Option (List AV)
  | .ag cs => bif Nat.beq cs.length sz then some cs else none
  | .aq cs => bif Nat.beq cs.length sz && allQ cs then some cs else none
  | x => bif Nat.beq sz 1 && x.cellN then some [x] else none

/-- A part of cells that may be names. -/
def partQ (cs : List AV) (off : Nat) : Option Nat → Option AV
  | none => cs[off]?
  | some m => bif Nat.ble (off + m) cs.length then
      (bif allFlat ((cs.drop off).take m) then some (.ag ((cs.drop off).take m)) else some (.aq ((cs.drop off).take m))) else none

/-- The same, of cells whose many may be names. -/
def fillQ (ρ : Operand → AV) : List (Nat × Nat × Operand) → List AV → Option (List AV)
  | [], cs => some cs
  | (off, sz, x) :: r, cs =>
    match cellsQ sz (ρ x) with
    | some vs => bif Nat.ble (off + sz) cs.length then
        (match vs with
         | [v] => fillQ ρ r (cs.set off v)
         | vs => fillQ ρ r (over cs off vs)) else none
    | none => none

def fillV (ρ : Operand → AV) : List (Nat × Nat × Operand) → List AV → Option (List AV)
  | [], cs => some cs
  | (off, sz, x) :: r, cs =>
    match cellsOf sz (ρ x) with
    | some vs => bif Nat.ble (off + sz) cs.length then
        (match vs with
         | [v] => fillV ρ r (cs.set off v)
         | vs => fillV ρ r (over cs off vs)) else none
    | none => none

/-- A part of cells: one, or so many. -/
def partV (cs : List AV) (off : Nat) : Option Nat → Option AV
  | none => cs[off]?
  | some m => bif Nat.ble (off + m) cs.length then some (.ag ((cs.drop off).take m)) else none

def maxV : AV → List AV → Option AV
  | x, [] => some x
  | .i k a, .i k' c :: r => bif decide (k = k') then maxV (.i k (if c > a then c else a)) r else none
  | _, _ => none

def minV : AV → List AV → Option AV
  | x, [] => some x
  | .i k a, .i k' c :: r => bif decide (k = k') then minV (.i k (if c < a then c else a)) r else none
  | _, _ => none

def idx : AV → Option Nat
  | .i _ n => bif decide (0 ≤ n) then some n.toNat else none
  | _ => none

/-- What a slice lists: its cells' many, where memory of the call's own does not count. -/
def slcV (sz : Nat) (x : AV) (lo hi mx : Option AV) : Option AV :=
  let l : Option Nat := match lo with | none => some 0 | some v => idx v
  match mx with
  | some m =>
    match l, hi, idx m with
    | some l, some h, some m =>
      (match idx h, x with
       | some h, .sl cs n => bif Nat.ble l h && (Nat.ble h m && Nat.ble m n) then some (.sl ((cs.drop (l * sz)).take ((h - l) * sz)) (h - l)) else none
       | _, _ => none)
    | _, _, _ => none
  | none =>
    match x with
    | .sl cs n =>
      (match l, (match hi with | none => some n | some v => idx v) with
       | some l, some h => bif Nat.ble l h && Nat.ble h n then some (.sl ((cs.drop (l * sz)).take ((h - l) * sz)) (h - l)) else none
       | _, _ => none)
    | .z =>
      (match l, (match hi with | none => some 0 | some v => idx v) with
       | some 0, some 0 => some .z
       | _, _ => none)
    | .rs d off n sz' =>
      (match l, (match hi with | none => some n | some v => idx v) with
       | some l, some h => bif Nat.beq sz sz' && Nat.ble l h && Nat.ble h n && Nat.blt l n then some (.rs d (off + l * sz) (h - l) sz) else none
       | _, _ => none)
    | _ => none

/-- What bears no name. -/
def okE : AV → Bool
  | .ag _ => true
  | x => x.flat
def keepE : Option AV → Option AV
  | some v => bif okE v then some v else none
  | none => none

theorem keepE_some {o : Option AV} {v : AV} (h : keepE o = some v) : o = some v := by
  unfold keepE at h
  split at h
  · rename_i u
    cases hk : okE u <;> rw [hk] at h <;> cases h
    rfl
  · cases h

def pureV (ρ : Operand → AV) : AOp → Option AV
  | .move x => some (ρ x)
  | .pick c a b => match ρ c with | .b t => some (bif t then ρ a else ρ b) | _ => none
  | .bin ek op x y => binV ek op (ρ x) (ρ y)
  | .un op x => unV op (ρ x)
  | .conv k x => match ρ x with | .i _ n => some (.i k (k.wrap n)) | _ => none
  | .addr off x => match ρ x with | .rf d o => some (.rf d (o + off)) | .el cs o => some (.el cs (o + off)) | _ => none
  | .ixA len sz x i =>
    match ρ i with
    | .i _ j => bif decide (0 ≤ j) && decide (j < (len : Int)) then
        (match ρ x with | .rf d o => some (.rf d (o + j.toNat * sz)) | .el cs o => some (.el cs (o + j.toNat * sz)) | _ => none) else none
    | _ => none
  | .ixS sz x i =>
    match ρ i with
    | .i _ j =>
      (match ρ x with
       | .sl cs n => bif Nat.blt (j.toNat * sz) cs.length && (decide (0 ≤ j) && decide (j < (n : Int))) then some (.el cs (j.toNat * sz)) else none
       | .rs d o n sz' => bif Nat.beq sz sz' && (decide (0 ≤ j) && decide (j < (n : Int))) then some (.rf d (o + j.toNat * sz)) else none
       | _ => none)
    | _ => none
  | .fld off m x => match ρ x with | .ag cs => partV cs off m | .aq cs => (bif allQ cs then partQ cs off m else none) | _ => none
  | .ixV len sz m x i =>
    match ρ i with
    | .i _ j => bif decide (0 ≤ j) && decide (j < (len : Int)) then (match ρ x with | .ag cs => partV cs (j.toNat * sz) m | _ => none) else none
    | _ => none
  | .ixStr x i =>
    match ρ i with
    | .i _ j => (match ρ x with | .s t => bif decide (0 ≤ j) then (match t[j.toNat]? with | some c => some (.i .u8 c.toNat) | none => none) else none | _ => none)
    | _ => none
  | .ext j x => match ρ x with | .tp l => l[j]? | _ => none
  | .build zero parts => match fillV ρ parts zero with | some cs => some (.ag cs) | none => none
  | .buildQ zero parts => match fillQ ρ parts zero with | some cs => some (.aq cs) | none => none
  | .bsl n zero parts => match fillV ρ parts (zrep zero n) with | some cs => some (.sl cs n) | none => none
  | .mkS zero bytes l c =>
    match ρ l, ρ c with
    | .i .i64 n, .i .i64 m => bif decide (0 ≤ n) && (decide (n = m) && decide (n.toNat * bytes ≤ 140737488355328)) then some (.sl (zrep zero n.toNat) n.toNat) else none
    | _, _ => none
  | .mkfn f caps => bif allPlain (evalL ρ caps) then some (.fn f (evalL ρ caps)) else none
  | .len false x => match ρ x with | .sl _ n | .rs _ _ n _ => some (.i .i64 n) | .z => some (.i .i64 0) | _ => none
  | .len true x => match ρ x with | .s t => some (.i .i64 t.size) | _ => none
  | .cap x => match ρ x with | .z => some (.i .i64 0) | _ => none
  | .mn l => match evalL ρ l with | x :: r => minV x r | [] => none
  | .mx l => match evalL ρ l with | x :: r => maxV x r | [] => none
  | .nilChk x => match ρ x with | .rf d o => some (.rf d o) | .el cs o => some (.el cs o) | .gl g => some (.gl g) | .fn f c => some (.fn f c) | _ => none
  | .tas t zero x => match ρ x with | .er _ | .nl => some (.tp [zero, .b false]) | .ie t' cs => bif Nat.beq t t' then some (.tp [.el cs 0, .b true]) else none | _ => none
  | .mki t x => match ρ x with | .el cs 0 => some (.ie t cs) | _ => none
  | .boxE sz v => match cellsOf sz (ρ v) with | some cs => some (.el cs 0) | none => none
  | .slc sz x lo hi mx => slcV sz (ρ x) (lo.map ρ) (hi.map ρ) (mx.map ρ)
  | .ldg g => some (.er g)
  | .ldE m x => match ρ x with | .el cs o => keepE (partV cs o m) | _ => none
  | _ => none

/-- What a call gives back: its value, and what the variables that it was lent hold. -/
structure Ret where
  v : AV
  lent : List (List AV)

/-- A view of a row, by value. -/
def viewR (l : List (Nat × List AV)) (d off n sz : Nat) : Option AV :=
  bif isRef d then none else
  match look l d with | some cs => bif Nat.ble (off + n * sz) cs.length then some (.sl ((cs.drop off).take (n * sz)) n) else none | none => none

/-- A struct's parts by value. -/
def viewL (l : List (Nat × List AV)) : List AV → Option (List AV)
  | [] => some []
  | .rs d off n sz :: r => match viewR l d off n sz, viewL l r with | some v, some vs => some (v :: vs) | _, _ => none
  | x :: r => bif x.flat then (match viewL l r with | some vs => some (x :: vs) | none => none) else none

/-- An argument by value. -/
def toArg (l : List (Nat × List AV)) : AV → Option AV
  | .rs d off n sz => viewR l d off n sz
  | .aq cs => (viewL l cs).map .ag
  | .rf _ _ => none
  | .tp _ => none
  | .os _ _ _ => none
  | .op _ => none
  | .oq _ => none
  | .un => none
  | .gone => none
  | .gl _ => none
  | .fn f [] => some (.fn f [])
  | .fn _ _ => none
  | x => some x

def toArgs (l : List (Nat × List AV)) : List AV → Option (List AV)
  | [] => some []
  | x :: r => match toArg l x, toArgs l r with | some v, some vs => some (v :: vs) | _, _ => none

def isRs0 : AV → Bool
  | .rs _ _ _ _ => true
  | _ => false

def anyRs0 : List AV → Bool
  | [] => false
  | x :: r => isRs0 x || anyRs0 r

def isRs (mv : List Nat) : AV → Bool
  | .rs d _ _ _ => !memb mv d
  | .aq cs => anyRs0 cs
  | .fn _ cs => anyRs0 cs
  | _ => false

def anyRs (mv : List Nat) : List AV → Bool
  | [] => false
  | x :: r => isRs mv x || anyRs mv r

/-- Might it bear cells that came in? -/
def hasSl1 : AV → Bool
  | .sl _ _ | .ag _ | .tp _ | .el _ _ | .ie _ _ => true
  | _ => false

def hasSlL : List AV → Bool
  | [] => false
  | x :: r => hasSl1 x || hasSlL r

/-- Of a cell that may be handed over with its own row. -/
def hasSlC : AV → Bool
  | .os cs _ _ => hasSlL cs
  | .op cs => hasSlL cs
  | x => hasSl1 x

def hasSlCL : List AV → Bool
  | [] => false
  | x :: r => hasSlC x || hasSlCL r

def hasSl2 : AV → Bool
  | .os cs _ _ => hasSlL cs
  | .op cs => hasSlL cs
  | .oq cs => hasSlCL cs
  | .aq cs => hasSlCL cs
  | .fn _ cs => hasSlCL cs
  | x => hasSl1 x

def hasSl2L : List AV → Bool
  | [] => false
  | x :: r => hasSl2 x || hasSl2L r

def hasSl : AV → Bool
  | .tp l => hasSl2L l
  | x => hasSl2 x

/-- A struct's parts, nothing of them to be written. -/
def frzP : List AV → Option (List AV)
  | [] => some []
  | .os cs n _ :: r => (match frzP r with | some vs => some (.sl cs n :: vs) | none => none)
  | x :: r => bif x.flat then (match frzP r with | some vs => some (x :: vs) | none => none) else none

/-- A result, nothing of it to be written. -/
def fromRet1 : AV → Option AV
  | .os cs n _ => some (.sl cs n)
  | .op (c :: cs) => some (.el (c :: cs) 0)
  | .op [] => none
  | .oq _ => none
  | .aq cs => (frzP cs).map .ag
  | .fn f [] => some (.fn f [])
  | .fn _ _ => none
  | .tp _ => none
  | x => some x

def fromRetL : List AV → Option (List AV)
  | [] => some []
  | x :: r => match fromRet1 x, fromRetL r with | some v, some vs => some (v :: vs) | _, _ => none

/-- What a function that was made carries, nothing of it to be written. -/
def frzF : List AV → Option (List AV)
  | [] => some []
  | .op (c :: cs) :: r => (match frzF r with | some vs => some (.el (c :: cs) 0 :: vs) | none => none)
  | .os cs n _ :: r => (match frzF r with | some vs => some (.sl cs n :: vs) | none => none)
  | x :: r => bif x.flat then (match frzF r with | some vs => some (x :: vs) | none => none) else none

def fromRet : AV → Option AV
  | .tp l => (fromRetL l).map .tp
  | .fn f (c :: r) => (frzF (c :: r)).map (.fn f)
  | x => fromRet1 x

abbrev CallF := Nat → List AV → Option Ret

def readV (call : CallF) (ρ : Operand → AV) (l : List (Nat × List AV)) : AOp → Option AV
  | .load m (.global g) => (match m with | none => some (.er g) | some _ => none)
  | .load m x =>
    match ρ x with
    | .rf d o => (match look l d with | some cs => (bif isRef d then partQ cs o m else partV cs o m) | none => none)
    | .el cs o => partV cs o m
    | _ => none
  | .ldR d m x =>
    match ρ x with
    | .rf e o => bif Nat.beq e d then (match look l e with | some cs => (bif isRef e then partQ cs o m else partV cs o m) | none => none) else none
    | _ => none
  | .call f xs =>
    match ρ f with
    | .fn f [] =>
      (match toArgs l (evalL ρ xs) with
       | some vs =>
         (match call f vs with
          | some ⟨r, []⟩ => bif anyRs [] (evalL ρ xs) && hasSl r then none else fromRet r
          | _ => none)
       | none => none)
    | _ => none
  | _ => none

def setC (cs : List AV) (o : Nat) : List AV → List AV
  | [v] => cs.set o v
  | vs => over cs o vs

def writeV (ρ : Operand → AV) (l : List (Nat × List AV)) : AOp → Option (List (Nat × List AV))
  | .store sz x v =>
    match ρ x with
    | .rf d o =>
      (match look l d, (bif isRef d then cellsQ sz (ρ v) else cellsOf sz (ρ v)) with
       | some cs, some vs => bif Nat.ble (o + sz) cs.length then some (put l d (setC cs o vs)) else none
       | _, _ => none)
    | _ => none
  | _ => none

def St.putD (S : St) (dst : Option Nat) (v : AV) : St :=
  match dst with
  | some d => { S with s := put S.s d v }
  | none => S

/-- What the second operand of an append lists. -/
def srcV (l : List (Nat × List AV)) (sz : Nat) (d : Nat) : AV → Option (List AV × Nat)
  | .sl cs m => bif Nat.beq cs.length (m * sz) then some (cs, m) else none
  | .z => some ([], 0)
  | .rs e off m sz' =>
    bif isRef e then none else
    match look l e with
    | some cs => bif !Nat.beq e d && (Nat.beq sz sz' && Nat.ble (off + m * sz) cs.length) then some ((cs.drop off).take (m * sz), m) else none
    | none => none
  | _ => none

/-- A cell that goes with its row, and the row that it names. -/
def gath1 (l : List (Nat × List AV)) : AV → Option (AV × List Nat)
  | .rf e 0 => bif isRef e then none else (match look l e with | some cs => some (.op cs, [e]) | none => none)
  | .rf _ _ => none
  | .rs e 0 n sz => bif isRef e then none else (match look l e with | some cs => some (.os cs n sz, [e]) | none => none)
  | .rs _ _ _ _ => none
  | .gone => some (.gone, [])
  | x => bif x.flat then some (x, []) else none

def gathL (l : List (Nat × List AV)) : List AV → Option (List AV × List Nat)
  | [] => some ([], [])
  | x :: r => match gath1 l x, gathL l r with | some (v, i), some (vs, is) => some (v :: vs, i ++ is) | _, _ => none

/-- A part that is lent: its value, its row, what this row holds. -/
def lendP (l : List (Nat × List AV)) : AV → Option (AV × List Nat × List Nat)
  | .rf d 0 =>
    (match look l d with
     | some cs => bif isRef d then (match gathL l cs with | some (c, ch) => some (.oq c, [d], ch) | none => none) else some (.op cs, [d], [])
     | none => none)
  | .rf _ _ => none
  | .rs d off n sz => (match viewR l d off n sz with | some v => some (v, [], []) | none => none)
  | x => bif x.flat then some (x, [], []) else none

def lendPL (l : List (Nat × List AV)) : List AV → Option (List AV × List Nat × List Nat)
  | [] => some ([], [], [])
  | x :: r => match lendP l x, lendPL l r with | some (v, d, c), some (vs, ds, cs) => some (v :: vs, d ++ ds, c ++ cs) | _, _ => none

def lend1 (mv : List Nat) (l : List (Nat × List AV)) : AV → Option (AV × List Nat × List Nat)
  | .rf d o => lendP l (.rf d o)
  | .rs d off n sz => bif memb mv d then
      (match off, look l d with | 0, some cs => bif isRef d then none else some (.os cs n sz, [], [d]) | _, _ => none) else (match viewR l d off n sz with | some v => some (v, [], []) | none => none)
  | .aq cs => (match lendPL l cs with | some (vs, ds, ch) => some (bif ds.isEmpty then .ag vs else .aq vs, ds, ch) | none => none)
  | .fn f (c :: r) => (match lendPL l (c :: r) with | some (vs, ds, ch) => some (.fn f vs, ds, ch) | none => none)
  | x => (match toArg l x with | some v => some (v, [], []) | none => none)

/-- Lent variables: by the argument's place. -/
def lends (mv : List Nat) (l : List (Nat × List AV)) : List AV → Option (List AV × List Nat × List Nat)
  | [] => some ([], [], [])
  | x :: r => match lend1 mv l x, lends mv l r with | some (v, d, c), some (vs, ds, cs) => some (v :: vs, d ++ ds, c ++ cs) | _, _ => none

/-- Is a row among those, seen by value? -/
def sees0 (ds : List Nat) : List AV → Bool
  | [] => false
  | .rs d _ _ _ :: r => memb ds d || sees0 ds r
  | _ :: r => sees0 ds r

def seesAny (mv ds : List Nat) : List AV → Bool
  | [] => false
  | .rs d _ _ _ :: r => (!memb mv d && memb ds d) || seesAny mv ds r
  | .aq cs :: r => sees0 ds cs || seesAny mv ds r
  | .fn _ cs :: r => sees0 ds cs || seesAny mv ds r
  | _ :: r => seesAny mv ds r

def nodupB : List Nat → Bool
  | [] => true
  | x :: r => !memb r x && nodupB r

/-- Cells that come with their rows. -/
def scat1 (D o : Nat) : AV → AV
  | .op _ => .rf (child D o) 0
  | .os _ n sz => .rs (child D o) 0 n sz
  | x => x
def rows1 (D o : Nat) : AV → List (Nat × List AV)
  | .op cs => [(child D o, cs)]
  | .os cs _ _ => [(child D o, cs)]
  | _ => []
def scatL (D : Nat) : Nat → List AV → List AV
  | _, [] => []
  | o, x :: r => scat1 D o x :: scatL D (o + 1) r
def rowsL (D : Nat) : Nat → List AV → List (Nat × List AV)
  | _, [] => []
  | o, x :: r => rows1 D o x ++ rowsL D (o + 1) r

def keys : List (Nat × List AV) → List Nat
  | [] => []
  | (j, _) :: r => j :: keys r

/-- What lent rows hold behind a call; and the rows that came with them. -/
def backL : List Nat → List (List AV) → Option (List (Nat × List AV) × List (Nat × List AV))
  | [], [] => some ([], [])
  | d :: ds, cs :: css =>
    (match backL ds css with
     | some (a, b) => bif isRef d then some ((d, scatL d 0 cs) :: a, rowsL d 0 cs ++ b) else some ((d, cs) :: a, b)
     | none => none)
  | _, _ => none

def putRows (l : List (Nat × List AV)) : List (Nat × List AV) → List (Nat × List AV)
  | [] => l
  | (d, cs) :: r => putRows (put l d cs) r

def hasSlLL : List (List AV) → Bool
  | [] => false
  | x :: r => hasSlCL x || hasSlLL r

/-- The caller's rows behind a call. -/
def afterK (S : St) (ds ch : List Nat) (lent : List (List AV)) : Option St :=
  match backL ds lent with
  | some (a, b) =>
    bif nodupB (keys a ++ keys b) && allCh (keys b) then
      (let S1 := S.kills (ch ++ keys b)
       some { S1 with l := putRows (putRows S1.l b) a }) else none
  | none => none

/-- A result as the caller's own. -/
def take1 (D : Nat) : AV → Option (AV × List (Nat × List AV))
  | .os cs n sz => some (.rs D 0 n sz, [(D, cs)])
  | .op cs => some (.rf D 0, [(D, cs)])
  | .oq cs => bif allCh (keys (rowsL (1000000000000 + D) 0 cs)) then some (.rf (1000000000000 + D) 0, rowsL (1000000000000 + D) 0 cs ++ [(1000000000000 + D, scatL (1000000000000 + D) 0 cs)]) else none
  | .aq cs => bif allCh (keys (rowsL D 0 cs)) then some (.aq (scatL D 0 cs), rowsL D 0 cs) else none
  | .fn f (c :: cs) => bif allCh (keys (rowsL D 0 (c :: cs))) then some (.fn f (scatL D 0 (c :: cs)), rowsL D 0 (c :: cs)) else none
  | x => (match fromRet1 x with | some v => some (v, []) | none => none)

/-- New rows. -/
def St.takeRows (S : St) (rows : List (Nat × List AV)) : St :=
  let S1 := S.kills (keys rows)
  { S1 with l := putRows S1.l rows }

/-- A result; one part of it as a row, where it is to be written. -/
def recv (S : St) (d : Nat) (own : List (Nat × Nat)) (v : AV) : Option (St × AV) :=
  match own, v with
  | (7, 7) :: _, v => (match fromRet v with | some v => some (S, v) | none => none)
  | (j, _) :: _, .tp l =>
    (match l[j]? with
     | some x =>
       bif Nat.blt (d + 1000 * (j + 1)) 1000000 then
         (match take1 (d + 1000 * (j + 1)) x with
          | some (v, rows) => bif plain v && nodupB (keys rows) then (match fromRetL (l.set j .un) with | some vs => some (S.takeRows rows, .tp (vs.set j v)) | none => none) else none
          | none => none) else none
     | none => (match fromRet (.tp l) with | some v => some (S, v) | none => none))
  | _ :: _, v => (match take1 d v with | some (v, rows) => bif nodupB (keys rows) then some (S.takeRows rows, v) else none | none => none)
  | _, v => match fromRet v with | some v => some (S, v) | none => none

/-- Is no row of those named? -/
def namesNot (ds : List Nat) : List AV → Bool
  | [] => true
  | .rf e _ :: r => !memb ds e && namesNot ds r
  | .rs e _ _ _ :: r => !memb ds e && namesNot ds r
  | _ :: r => namesNot ds r
def names0 (d : Nat) (cs : List AV) : Bool := namesNot [1000000000000 + d] cs

/-- Nil slices of a new row that are to grow: rows of their own. -/
def nilsOf (D : Nat) : List (Nat × Nat) → List AV → Option (List AV × List (Nat × List AV))
  | [], cs => some (cs, [])
  | (o, sz) :: r, cs =>
    (match cs[o]? with
     | some .z => (match nilsOf D r (cs.set o (.rs (child D o) 0 0 sz)) with | some (cs', rows) => some (cs', (child D o, []) :: rows) | none => none)
     | _ => none)

/-- Parts of an argument, in the callee. -/
def partN (j k : Nat) : AV → AV
  | .op _ => .rf (partId j k) 0
  | .oq _ => .rf (1000000000000 + partId j k) 0
  | x => x
def partsN (j : Nat) : Nat → List AV → List AV
  | _, [] => []
  | k, x :: r => partN j k x :: partsN j (k + 1) r

/-- The rows of what is lent under a name. -/
def lentRows (i : Nat) : AV → List (Nat × List AV)
  | .op cs => [(i, cs)]
  | .oq cs => (1000000000000 + i, scatL (1000000000000 + i) 0 cs) :: rowsL (1000000000000 + i) 0 cs
  | _ => []
def partRows (j : Nat) : Nat → List AV → List (Nat × List AV)
  | _, [] => []
  | k, x :: r => lentRows (partId j k) x ++ partRows j (k + 1) r

def slotOf (j : Nat) : AV → AV
  | .os _ n sz => .rs (1000000000 + j) 0 n sz
  | .op _ => .rf j 0
  | .oq _ => .rf (1000000000000 + j) 0
  | .aq cs => .aq (partsN j 0 cs)
  | .fn f cs => .fn f (partsN j 0 cs)
  | x => x
def argRows (j : Nat) : AV → List (Nat × List AV)
  | .os cs _ _ => [(1000000000 + j, cs)]
  | .aq cs => partRows j 0 cs
  | .fn _ cs => partRows j 0 cs
  | x => lentRows j x

def enterS : Nat → List AV → List (Nat × AV)
  | _, [] => []
  | j, x :: r => (j, slotOf j x) :: enterS (j + 1) r

def enterL : Nat → List AV → List (Nat × List AV)
  | _, [] => []
  | j, x :: r => argRows j x ++ enterL (j + 1) r

/-- The names, in the callee, of what is lent. -/
def rootsR (i : Nat) : AV → List Nat
  | .op _ => [i]
  | .oq _ => [1000000000000 + i]
  | _ => []
def rootsP (j : Nat) : Nat → List AV → List Nat
  | _, [] => []
  | k, x :: r => rootsR (partId j k) x ++ rootsP j (k + 1) r
def rootsA (j : Nat) : AV → List Nat
  | .aq cs => rootsP j 0 cs
  | .fn _ cs => rootsP j 0 cs
  | x => rootsR j x
def rootsIn : Nat → List AV → List Nat
  | _, [] => []
  | j, x :: r => rootsA j x ++ rootsIn (j + 1) r
def allRoot (np : Nat) : List Nat → Bool
  | [] => true
  | d :: r => rootB np d && allRoot np r
/-- The names, in the callee, of what lent rows hold. -/
def childR (i : Nat) : AV → List Nat
  | .oq cs => keys (rowsL (1000000000000 + i) 0 cs)
  | _ => []
def childP (j : Nat) : Nat → List AV → List Nat
  | _, [] => []
  | k, x :: r => childR (partId j k) x ++ childP j (k + 1) r
def childA (j : Nat) : AV → List Nat
  | .os _ _ _ => [1000000000 + j]
  | .aq cs => childP j 0 cs
  | .fn _ cs => childP j 0 cs
  | x => childR j x
def childIn : Nat → List AV → List Nat
  | _, [] => []
  | j, x :: r => childA j x ++ childIn (j + 1) r
def kindsOk : List Nat → List Nat → Bool
  | [], [] => true
  | d :: ds, e :: es => (isRef d == isRef e) && kindsOk ds es
  | _, _ => false
def anyOs : List AV → Bool
  | [] => false
  | .os _ _ _ :: _ => true
  | _ :: r => anyOs r
def okEnter (ds : List Nat) (vs : List AV) : Bool := (ds.isEmpty && !anyOs vs) || (nodupB (keys (enterL 0 vs)) && (allRoot vs.length (rootsIn 0 vs) && (allCh (childIn 0 vs) && kindsOk ds (rootsIn 0 vs))))

/-- A call that is to turn no slot but its own. -/
def stays (own : List (Nat × Nat)) (ch ds : List Nat) (lent : List (List AV)) : Bool :=
  match own with
  | [] => ch.isEmpty && (match backL ds lent with | some (_, b) => b.isEmpty | none => false)
  | _ => true

/-- Rows that a call is handed over: (40, d); rows that it is not lent: (41, d). -/
def mvOf : List (Nat × Nat) → List Nat
  | [] => []
  | (a, b) :: r => bif Nat.beq a 40 then b :: mvOf r else bif Nat.beq a 41 then mvOf r else []
def nolOf : List (Nat × Nat) → List Nat
  | [] => []
  | (a, b) :: r => bif Nat.beq a 41 then b :: nolOf r else bif Nat.beq a 40 then nolOf r else []
def unmv : List (Nat × Nat) → List (Nat × Nat)
  | [] => []
  | (a, b) :: r => bif Nat.beq a 40 || Nat.beq a 41 then unmv r else (a, b) :: r
/-- None of those is among these. -/
def awayB (ds : List Nat) : List Nat → Bool
  | [] => true
  | x :: r => !memb ds x && awayB ds r

/-- A row that may hold names. -/
def rootQ (S : St) (d : Nat) (cs : List AV) (nils : List (Nat × Nat)) : Option St :=
  match nilsOf d nils cs with
  | some (cs', rows) => bif (nodupB (keys rows) && allCh (keys rows)) && (names0 d cs && namesNot (keys rows) cs) then some ((S.takeRows rows).rootAt d (1000000000000 + d) cs' (.rf (1000000000000 + d) 0)) else none
  | none => none

def stepK (call : CallF) (S : St) (dst : Option Nat) : AOp → Option St
  | .box sz v =>
    match dst, cellsOf sz (evalO S.s v) with
    | some d, some cs => some (S.root d cs (.rf d 0))
    | _, _ => none
  | .alloc zero => match dst with | some d => some (S.root d zero (.rf d 0)) | none => none
  | .boxQ sz v nils =>
    match dst, cellsQ sz (evalO S.s v) with
    | some d, some cs => rootQ S d cs nils
    | _, _ => none
  | .allocQ zero nils => match dst with | some d => rootQ S d zero nils | none => none
  | .mkR zero bytes l c =>
    match dst, evalO S.s l, evalO S.s c with
    | some d, .i .i64 n, .i .i64 m => bif decide (0 ≤ n) && (decide (n ≤ m) && decide (m.toNat * bytes ≤ 140737488355328)) then some (S.root d (zrep zero n.toNat) (.rs d 0 n.toNat zero.length)) else none
    | _, _, _ => none
  | .bslR n zero parts =>
    match dst, fillV (evalO S.s) parts (zrep zero n) with
    | some d, some cs => some (S.root d cs (.rs d 0 n zero.length))
    | _, _ => none
  | .nilR sz x =>
    match dst, evalO S.s x with
    | some d, .z => some (S.root d [] (.rs d 0 0 sz))
    | _, _ => none
  | .app sz bytes x y =>
    match dst, evalO S.s x with
    | some t, .rs d 0 n sz' =>
      (match look S.l d, srcV S.l sz d (evalO S.s y) with
       | some cs, some (vs, m) =>
         bif (Nat.beq sz sz' && !isRef d) && (Nat.ble (n * sz) cs.length && decide ((n + m) * bytes ≤ 140737488355328)) then
           some (S.rootAt t d ((bif Nat.beq cs.length (n * sz) then cs else cs.take (n * sz)) ++ vs) (.rs d 0 (n + m) sz)) else none
       | _, _ => none)
    | some t, .z =>
      (match srcV S.l sz t (evalO S.s y) with
       | some (vs, m) => bif decide (m * bytes ≤ 140737488355328) then some (S.root t vs (.rs t 0 m sz)) else none
       | none => none)
    | _, _ => none
  | .appN zero bytes x n =>
    match dst, evalO S.s x, evalO S.s n with
    | some t, .z, .i .i64 n => bif decide (0 < n) && decide (n.toNat * bytes ≤ 140737488355328) then some (S.root t (zrep zero n.toNat) (.rs t 0 n.toNat zero.length)) else none
    | _, _, _ => none
  | .callK f xs own =>
    match evalO S.s f with
    | .fn f caps =>
      let as := evalL (evalO S.s) xs ++ caps
      (match lends (mvOf own) S.l as with
       | some (vs, ds, ch) =>
         bif ((seesAny (mvOf own) (ds ++ ch) as || !nodupB (ds ++ ch)) || !okEnter ds vs) || !awayB ds (nolOf own) then none else
         (match call f vs with
          | some ⟨r, lent⟩ =>
            bif anyRs (mvOf own) as && (hasSl r || hasSlLL lent) then none else
            (match afterK S ds ch lent with
             | some S1 =>
               bif stays (unmv own) ch ds lent then
               (match dst with
                | some d => (match recv S1 d (unmv own) r with | some (S2, v) => some (S2.putD (some d) v) | none => none)
                | none => some S1) else none
             | none => none)
          | none => none)
       | none => none)
    | _ => none
  | _ => none

def freezes (S : St) : List Nat → Option St
  | [] => some S
  | d :: r => match S.freeze d with | some S1 => freezes S1 r | none => none

/-- The rows that arguments show by value. -/
def rs1 : AV → List Nat
  | .rs d _ _ _ => [d]
  | _ => []
def rsOf : List AV → List Nat
  | [] => []
  | x :: r => rs1 x ++ rsOf r
/-- Is what a call is shown to be written no more? -/
def m8 : List (Nat × Nat) → Bool
  | (8, 8) :: _ => true
  | _ => false
def mark8 : AOp → Option (Operand × List Operand × List (Nat × Nat))
  | .callK f xs own => bif m8 own then some (f, xs, own.tail) else none
  | _ => none
def stepC (call : CallF) (S : St) (dst : Option Nat) (op : AOp) : Option St :=
  match mark8 op with
  | some (f, xs, own) => (match freezes S (rsOf (evalL (evalO S.s) xs)) with | some S1 => stepK call S1 dst (.callK f xs own) | none => none)
  | none => stepK call S dst op

def wants (s : List (Nat × AV)) : Option (Nat × Bool) → Option Bool
  | none => some true
  | some (t, want) =>
    match get s t with
    | .b x => some (x == want)
    | .gone => none
    | _ => some false

def step (call : CallF) (o : AOper) (S : St) : Option St :=
  match wants S.s o.guard with
  | some true =>
    (match o.op.cls with
     | 0 => (pureV (evalO S.s) o.op).map (S.putD o.dst)
     | 1 => (readV call (evalO S.s) S.l o.op).map (S.putD o.dst)
     | 2 => (writeV (evalO S.s) S.l o.op).map fun l => { S with l }
     | _ => stepC call S o.dst o.op)
  | some false => some (S.putD o.dst .un)
  | none => none

def steps (call : CallF) : List AOper → St → Option St
  | [], S => some S
  | o :: r, S => match step call o S with | some S1 => steps call r S1 | none => none

/-! ### Code -/

inductive Ex where
  | normal | ret | exit (id : Nat)

inductive AC where
  | skip | ret
  | exit (id : Nat)
  | reg (ops : List AOper)
  | seq (a b : AC)
  | cond (c : Operand) (a b : AC)
  | block (id : Nat) (a : AC)
  | loop (ks kr : List Nat) (a : AC)
  | pre (fr : List Nat) (ks kr : List Nat) (a : AC)
  | rng (f : Nat) (g : Operand) (p : Nat) (ks kr : List Nat) (asg body : AC)

/-- Rows that are no slot's: they are kept anyhow. -/
def special : List (Nat × List AV) → List (Nat × List AV)
  | [] => []
  | (k, cs) :: r => bif Nat.ble 1000000 k then (k, cs) :: special r else special r

def St.clean (S : St) (ks kr : List Nat) : St := { s := keepS ks S.s, l := special S.l ++ keepL kr S.l }

def iter (f : St → Option (Ex × St)) : Nat → St → Option (Ex × St)
  | 0, _ => none
  | n + 1, S =>
    match f S with
    | some (.normal, S1) => iter f n S1
    | r => r

/-- Bytes, so many at once. -/
def chunks (k : Nat) : Nat → Nat → List AV → List AV
  | 0, _, _ => []
  | fuel + 1, m, cs => bif Nat.beq m 0 then [] else .sl (cs.take (min k m)) (min k m) :: chunks k fuel (m - min k m) (cs.drop (min k m))

def itemsOf (k : Nat) : AV → Option (List AV)
  | .sl cs m => bif decide (m ≤ 2305843009213693952) then some (chunks k m m cs) else none
  | .z => some []
  | _ => none

/-- What a loop over a function goes through. -/
def rngItems (f : Nat) : AV → Option (List AV)
  | .fn f' [.el [x] 0, .el [.i .i64 k] 0] => bif Nat.beq f f' && (decide (1 ≤ k) && decide (k ≤ 2305843009213693952)) then itemsOf k.toNat x else none
  | _ => none

def rounds (evA evB : St → Option (Ex × St)) (p : Nat) (ks kr : List Nat) : List AV → St → Option (Ex × St)
  | [], S => some (.normal, S)
  | x :: r, S =>
    match evA { S with s := put S.s p x } with
    | some (.normal, S1) =>
      (match evB S1 with
       | some (.normal, S2) => rounds evA evB p ks kr r (S2.clean ks kr)
       | some (e, S2) => some (e, S2.clean ks kr)
       | none => none)
    | _ => none

def Ex.unblock (id : Nat) : Ex → Ex
  | .exit j => bif Nat.beq j id then .normal else .exit j
  | e => e

def evC (call : CallF) (n : Nat) : AC → St → Option (Ex × St)
  | .skip, S => some (.normal, S)
  | .ret, S => some (.ret, S)
  | .exit id, S => some (.exit id, S)
  | .reg ops, S => match steps call ops S with | some S1 => some (.normal, S1) | none => none
  | .seq a b, S => match evC call n a S with | some (.normal, S1) => evC call n b S1 | r => r
  | .cond c a b, S => match evalO S.s c with | .b t => bif t then evC call n a S else evC call n b S | _ => none
  | .block id a, S => match evC call n a S with | some (e, S1) => some (e.unblock id, S1) | none => none
  | .loop ks kr a, S => iter (fun S => evC call n a (S.clean ks kr)) n S
  | .pre fr ks kr a, S => match freezes S fr with | some S1 => evC call n a (S1.clean ks kr) | none => none
  | .rng f g p ks kr a b, S => match rngItems f (evalO S.s g) with | some its => rounds (fun S => evC call n a S) (fun S => evC call n b S) p ks kr its (S.clean ks kr) | none => none

inductive ARes where
  | t (t : Nat)
  | c (t : Nat) (m : Option Nat)

structure AFun where
  body : AC
  np : Nat
  res : List ARes

def resV (S : St) : ARes → Option AV
  | .t t => some (get S.s t)
  | .c t m => match get S.s t with | .rf d o => (match look S.l d with | some cs => (bif isRef d then partQ cs o m else partV cs o m) | none => none) | .el cs o => partV cs o m | _ => none

def resL (S : St) : List ARes → Option (List AV)
  | [] => some []
  | x :: r => match resV S x, resL S r with | some v, some vs => some (v :: vs) | _, _ => none

def countR (d : Nat) : List AV → Nat
  | [] => 0
  | .rs e _ _ _ :: r => (bif Nat.beq e d then 1 else 0) + countR d r
  | .rf e _ :: r => (bif Nat.beq e d then 1 else 0) + countR d r
  | _ :: r => countR d r

/-- A result, by value; its own rows are handed over (their names); others are seen alone. -/
def toRet (np : Nat) (l : List (Nat × List AV)) (all : List AV) : AV → Option (AV × List Nat × List Nat)
  | .rs d off n sz =>
    match look l d with
    | some cs => bif isRef d || rootB np d then none else
        bif Nat.beq off 0 && (Nat.ble (n * sz) cs.length && Nat.beq (countR d all) 1) then some (.os (bif Nat.beq cs.length (n * sz) then cs else cs.take (n * sz)) n sz, [d], []) else
        bif Nat.ble (off + n * sz) cs.length then some (.sl ((cs.drop off).take (n * sz)) n, [], [d]) else none
    | none => none
  | .rf d off =>
    match look l d with
    | some cs => bif rootB np d || !Nat.beq off 0 then none else
        bif isRef d then (match gathL l cs with | some (c, ch) => some (.oq c, d :: ch, []) | none => none) else some (.op cs, [d], [])
    | none => none
  | .aq cs => (match gathL l cs with | some (c, ch) => some (.aq c, ch, []) | none => none)
  | .fn f [] => some (.fn f [], [], [])
  | .fn f (c :: r) => (match gathL l (c :: r) with | some (c, ch) => some (.fn f c, ch, []) | none => none)
  | .tp _ => none
  | .un => none
  | .gone => none
  | .gl _ => none
  | .os _ _ _ => none
  | .op _ => none
  | .oq _ => none
  | x => some (x, [], [])

def toRets (np : Nat) (l : List (Nat × List AV)) (all : List AV) : List AV → Option (List AV × List Nat × List Nat)
  | [] => some ([], [], [])
  | x :: r => match toRet np l all x, toRets np l all r with | some (v, h, s), some (vs, hs, ss) => some (v :: vs, h ++ hs, s ++ ss) | _, _ => none

/-- What a lent row holds at the end. -/
def lentR (l : List (Nat × List AV)) (i : Nat) : AV → Option (List (List AV) × List Nat)
  | .op _ => (match look l i with | some cs => bif isRef i then none else some ([cs], []) | none => none)
  | .oq _ => (match look l (1000000000000 + i) with | some cs => (match gathL l cs with | some (c, ch) => some ([c], ch) | none => none) | none => none)
  | _ => some ([], [])
def lentParts (l : List (Nat × List AV)) (j : Nat) : Nat → List AV → Option (List (List AV) × List Nat)
  | _, [] => some ([], [])
  | k, x :: r => match lentR l (partId j k) x, lentParts l j (k + 1) r with | some (a, h), some (as, hs) => some (a ++ as, h ++ hs) | _, _ => none
def lentA (l : List (Nat × List AV)) (j : Nat) : AV → Option (List (List AV) × List Nat)
  | .aq cs => lentParts l j 0 cs
  | .fn _ cs => lentParts l j 0 cs
  | x => lentR l j x
def lentOf (l : List (Nat × List AV)) : Nat → List AV → Option (List (List AV) × List Nat)
  | _, [] => some ([], [])
  | j, x :: r => match lentA l j x, lentOf l (j + 1) r with | some (a, h), some (as, hs) => some (a ++ as, h ++ hs) | _, _ => none

def noRoots (np : Nat) : List Nat → Bool
  | [] => true
  | d :: r => !rootB np d && noRoots np r

def apart (l : List Nat) : List Nat → Bool
  | [] => true
  | x :: r => !memb l x && apart l r

def one : List AV → AV
  | [x] => x
  | l => .tp l

/-- Each row goes one way. -/
def okFin (np : Nat) (h s : List Nat) : Bool := nodupB h && (noRoots np h && apart h s)

def fin (A : AFun) (args : List AV) (S : St) : Option Ret :=
  match resL S A.res with
  | some vs =>
    (match toRets A.np S.l vs vs, lentOf S.l 0 args with
     | some (rs, h, s), some (lent, h') => bif okFin A.np (h ++ h') s then some ⟨one rs, lent⟩ else none
     | _, _ => none)
  | none => none

def evF (tab : Nat → Option AFun) : Nat → CallF
  | 0, _, _ => none
  | n + 1, f, args =>
    match tab f with
    | some A =>
      bif Nat.beq args.length A.np then
        (match evC (evF tab n) n A.body ⟨enterS 0 args, enterL 0 args⟩ with
         | some (.normal, S) | some (.ret, S) => fin A args S
         | _ => none) else none
    | none => none

end Zab

namespace Zab
open Go
set_option linter.unusedSimpArgs false
set_option linter.unusedVariables false

structure Env where
  P : Program
  sent : Nat → Option (Nat × Nat)
  T : TypeId

def Env.errV (E : Env) (b : Nat × Nat) : Value := .iface E.T (.pointer (some ⟨b.1, b.2, none⟩))

/-- Blocks that stay: the variables of the errors, and the errors. -/
def Env.fixed (E : Env) (b : Nat) : Prop := ∃ g c, E.sent g = some c ∧ (b = g ∨ b = c.1)

/-- The program's errors lie where they were. -/
structure GOk (E : Env) (w : World) : Prop where
  var : ∀ g b, E.sent g = some b → w.cell? ⟨g, 0, none⟩ = some (E.errV b)
  obj : ∀ g b, E.sent g = some b → ∃ c e, w.heap[b.1]? = some (.cells c e (0, 0)) ∧ 0 < c.size
  inj : ∀ g h b, E.sent g = some b → E.sent h = some b → g = h

inductive FRep (E : Env) (w : World) (N : Nat → Prop) : AV → Value → Prop where
  | i (k : IntKind) (n : Int) : FRep E w N (.i k n) (.int k n)
  | b (x : Bool) : FRep E w N (.b x) (.bool x)
  | s (x : ByteArray) : FRep E w N (.s x) (.string x)
  | nl : FRep E w N .nl .nilIface
  | np : FRep E w N .np (.pointer none)
  | nf : FRep E w N .nf .nilFunc
  | er (g : Nat) (b : Nat × Nat) (h : E.sent g = some b) : FRep E w N (.er g) (E.errV b)
  | z : FRep E w N .z (.slice none 0 0)
  | sl (cells : List AV) (n : Nat) (base : Option Addr) (c : Nat) (cs : Nat → Value) (hn : n ≤ c)
      (h0 : cells = [] ∨ ∃ blk off, base = some ⟨blk, off, none⟩ ∧ N blk ∧ ∀ j, j < cells.length → w.cell? ⟨blk, off + j, none⟩ = some (cs j))
      (h1 : ∀ j (hj : j < cells.length), FRep E w N (cells[j]) (cs j)) : FRep E w N (.sl cells n) (.slice base n c)
  | ie (t : Nat) (cells : List AV) (blk off : Nat) (cs : Nat → Value) (hN : N blk) (h0 : ∀ j, j < cells.length → w.cell? ⟨blk, off + j, none⟩ = some (cs j))
      (h1 : ∀ j (hj : j < cells.length), FRep E w N (cells[j]) (cs j)) : FRep E w N (.ie t cells) (.iface t (.pointer (some ⟨blk, off, none⟩)))

theorem FRep.mono {E : Env} {w w' : World} {N N' : Nat → Prop} (hN : ∀ b, N b → N' b) (hw : ∀ b, N b → w'.heap[b]? = w.heap[b]?) {x : AV} {v : Value} (h : FRep E w N x v) : FRep E w' N' x v := by
  induction h with
  | i k n => exact .i k n
  | b x => exact .b x
  | s x => exact .s x
  | nl => exact .nl
  | np => exact .np
  | nf => exact .nf
  | er g b h => exact .er g b h
  | z => exact .z
  | sl cells n base c cs hn h0 h1 ih =>
    refine .sl cells n base c cs hn ?_ ih
    rcases h0 with h0 | ⟨blk, off, hb, hN0, hc⟩
    · exact .inl h0
    · exact .inr ⟨blk, off, hb, hN _ hN0, fun j hj => by rw [World.cell?_of_block (w := w) (hw blk hN0)]; exact hc j hj⟩
  | ie t cells blk off cs hN0 h0 h1 ih => exact .ie t cells blk off cs (hN _ hN0) (fun j hj => by rw [World.cell?_of_block (w := w) (hw blk hN0)]; exact h0 j hj) ih

/-- The same, where cells that were told stay. -/
theorem FRep.mono' {E : Env} {w w' : World} {N N' : Nat → Prop} (hN : ∀ b, N b → N' b) (hw : ∀ b, N b → ∀ j v, w.cell? ⟨b, j, none⟩ = some v → w'.cell? ⟨b, j, none⟩ = some v) {x : AV} {v : Value} (h : FRep E w N x v) : FRep E w' N' x v := by
  induction h with
  | i k n => exact .i k n
  | b x => exact .b x
  | s x => exact .s x
  | nl => exact .nl
  | np => exact .np
  | nf => exact .nf
  | er g b h => exact .er g b h
  | z => exact .z
  | sl cells n base c cs hn h0 h1 ih =>
    refine .sl cells n base c cs hn ?_ ih
    rcases h0 with h0 | ⟨blk, off, hb, hN0, hc⟩
    · exact .inl h0
    · exact .inr ⟨blk, off, hb, hN _ hN0, fun j hj => hw blk hN0 _ _ (hc j hj)⟩
  | ie t cells blk off cs hN0 h0 h1 ih => exact .ie t cells blk off cs (hN _ hN0) (fun j hj => hw blk hN0 _ _ (h0 j hj)) ih

theorem FRep.flat {E : Env} {w : World} {N : Nat → Prop} {x : AV} {v : Value} (h : FRep E w N x v) : x.flat = true := by
  cases h <;> rfl

theorem FRep.one {E : Env} {w : World} {N : Nat → Prop} {x : AV} {v : Value} (h : FRep E w N x v) : v.oneCell' = true := by
  cases h <;> rfl

/-- What bears no cells stands whatever the memory is. -/
theorem FRep.bare {E : Env} {w w' : World} {N N' : Nat → Prop} {x : AV} {v : Value} (h : FRep E w N x v) (hx : hasSl1 x = false) : FRep E w' N' x v := by
  cases h with
  | i k n => exact .i k n
  | b x => exact .b x
  | s x => exact .s x
  | nl => exact .nl
  | np => exact .np
  | nf => exact .nf
  | er g b h => exact .er g b h
  | z => exact .z
  | sl => simp [hasSl1] at hx
  | ie => simp [hasSl1] at hx

/-- What a slot holds, but for its parts. np: the first slot that is no argument. -/
inductive V1 (E : Env) (np : Nat) (w : World) (N : Nat → Prop) (A K : Nat → Nat) : AV → Value → Prop where
  | flat {x : AV} {v : Value} (h : FRep E w N x v) : V1 E np w N A K x v
  | ag (cells : List AV) (cs : List Value) (hl : cells.length = cs.length) (h : ∀ j (h1 : j < cells.length) (h2 : j < cs.length), FRep E w N cells[j] cs[j]) : V1 E np w N A K (.ag cells) (.agg cs.toArray)
  | rf (d off : Nat) : V1 E np w N A K (.rf d off) (.pointer (some ⟨A d, off, none⟩))
  | rs (d off n sz : Nat) (base : Option Addr) (c : Nat) (hd : rootB np d = false) (hn : n ≤ c) (hk : off + c * sz ≤ K d)
      (hb : 0 < K d → base = some ⟨A d, off, none⟩) : V1 E np w N A K (.rs d off n sz) (.slice base n c)
  | el (cells : List AV) (j blk off : Nat) (cs : Nat → Value) (hN : N blk) (hc : ∀ j, j < cells.length → w.cell? ⟨blk, off + j, none⟩ = some (cs j))
      (h1 : ∀ j (hj : j < cells.length), FRep E w N (cells[j]) (cs j)) : V1 E np w N A K (.el cells j) (.pointer (some ⟨blk, off + j, none⟩))
  | gl (g : Nat) : V1 E np w N A K (.gl g) (.pointer (some ⟨g, 0, none⟩))
  | fn (f : Nat) : V1 E np w N A K (.fn f []) (.func (.func f) #[] #[])
  | un : V1 E np w N A K .un undef
  | gone (v : Value) : V1 E np w N A K .gone v

inductive VRep (E : Env) (np : Nat) (w : World) (N : Nat → Prop) (A K : Nat → Nat) : AV → Value → Prop where
  | one {x : AV} {v : Value} (h : V1 E np w N A K x v) : VRep E np w N A K x v
  | tp (l : List AV) (vs : List Value) (hl : l.length = vs.length) (h : ∀ j (h1 : j < l.length) (h2 : j < vs.length), V1 E np w N A K l[j] vs[j]) : VRep E np w N A K (.tp l) (.tuple vs.toArray)
  | fn (f : Nat) (l : List AV) (vs : List Value) (hl : l.length = vs.length) (h : ∀ j (h1 : j < l.length) (h2 : j < vs.length), V1 E np w N A K l[j] vs[j]) : VRep E np w N A K (.fn f l) (.func (.func f) #[] vs.toArray)
  | aq (l : List AV) (vs : List Value) (hl : l.length = vs.length) (ho : ∀ v ∈ vs, v.oneCell' = true) (h : ∀ j (h1 : j < l.length) (h2 : j < vs.length), V1 E np w N A K l[j] vs[j]) : VRep E np w N A K (.aq l) (.agg vs.toArray)

/-- Which rows a value names. -/
def names1 (d : Nat) : AV → Prop
  | .rf e _ => e = d
  | .rs e _ _ _ => e = d
  | _ => False

theorem V1.mono {E : Env} {np : Nat} {w w' : World} {N N' : Nat → Prop} {A K A' K' : Nat → Nat} (hN : ∀ b, N b → N' b) (hw : ∀ b, N b → w'.heap[b]? = w.heap[b]?) {x : AV} {v : Value}
    (hx : ∀ d, names1 d x → A' d = A d ∧ K' d = K d) (h : V1 E np w N A K x v) : V1 E np w' N' A' K' x v := by
  cases h with
  | flat h => exact .flat (h.mono hN hw)
  | ag cells cs hl h => exact .ag cells cs hl fun j h1 h2 => (h j h1 h2).mono hN hw
  | rf d off => have := hx d rfl; rw [← this.1]; exact .rf d off
  | rs d off n sz base c hd hn hk hb =>
    have := hx d rfl
    exact .rs d off n sz base c hd hn (by rw [this.2]; exact hk) (by rw [this.1, this.2]; exact hb)
  | el cells j blk off cs hN0 hc h1 => exact .el cells j blk off cs (hN _ hN0) (fun j hj => by rw [World.cell?_of_block (w := w) (hw blk hN0)]; exact hc j hj) (fun j hj => (h1 j hj).mono hN hw)
  | gl g => exact .gl g
  | fn f => exact .fn f
  | un => exact .un
  | gone v => exact .gone v

theorem V1.mono' {E : Env} {np : Nat} {w w' : World} {N N' : Nat → Prop} {A K : Nat → Nat} (hN : ∀ b, N b → N' b) (hw : ∀ b, N b → ∀ j v, w.cell? ⟨b, j, none⟩ = some v → w'.cell? ⟨b, j, none⟩ = some v) {x : AV} {v : Value} (h : V1 E np w N A K x v) : V1 E np w' N' A K x v := by
  cases h with
  | flat h => exact .flat (h.mono' hN hw)
  | ag cells cs hl h => exact .ag cells cs hl fun j h1 h2 => (h j h1 h2).mono' hN hw
  | rf d off => exact .rf d off
  | rs d off n sz base c hd hn hk hb => exact .rs d off n sz base c hd hn hk hb
  | el cells j blk off cs hN0 hc h1 => exact .el cells j blk off cs (hN _ hN0) (fun j hj => hw blk hN0 _ _ (hc j hj)) (fun j hj => (h1 j hj).mono' hN hw)
  | gl g => exact .gl g
  | fn f => exact .fn f
  | un => exact .un
  | gone v => exact .gone v

theorem VRep.mono' {E : Env} {np : Nat} {w w' : World} {N N' : Nat → Prop} {A K : Nat → Nat} (hN : ∀ b, N b → N' b) (hw : ∀ b, N b → ∀ j v, w.cell? ⟨b, j, none⟩ = some v → w'.cell? ⟨b, j, none⟩ = some v) {x : AV} {v : Value} (h : VRep E np w N A K x v) : VRep E np w' N' A K x v := by
  cases h with
  | one h => exact .one (h.mono' hN hw)
  | tp l vs hl h => exact .tp l vs hl fun j h1 h2 => (h j h1 h2).mono' hN hw
  | fn f l vs hl h => exact .fn f l vs hl fun j h1 h2 => (h j h1 h2).mono' hN hw
  | aq l vs hl ho h => exact .aq l vs hl ho fun j h1 h2 => (h j h1 h2).mono' hN hw

def namesV (d : Nat) : AV → Prop
  | .tp l => ∃ x ∈ l, names1 d x
  | .fn _ l => ∃ x ∈ l, names1 d x
  | .aq l => ∃ x ∈ l, names1 d x
  | x => names1 d x

theorem names1_V {d : Nat} {x : AV} (h : names1 d x) : namesV d x := by
  cases x <;> simp_all [names1, namesV]

theorem VRep.mono {E : Env} {np : Nat} {w w' : World} {N N' : Nat → Prop} {A K A' K' : Nat → Nat} (hN : ∀ b, N b → N' b) (hw : ∀ b, N b → w'.heap[b]? = w.heap[b]?) {x : AV} {v : Value}
    (hx : ∀ d, namesV d x → A' d = A d ∧ K' d = K d) (h : VRep E np w N A K x v) : VRep E np w' N' A' K' x v := by
  cases h with
  | one h => exact .one (h.mono hN hw fun d hd => hx d (names1_V hd))
  | tp l vs hl h => exact .tp l vs hl fun j h1 h2 => (h j h1 h2).mono hN hw fun d hd => hx d ⟨_, List.getElem_mem h1, hd⟩
  | fn f l vs hl h => exact .fn f l vs hl fun j h1 h2 => (h j h1 h2).mono hN hw fun d hd => hx d ⟨_, List.getElem_mem h1, hd⟩
  | aq l vs hl ho h => exact .aq l vs hl ho fun j h1 h2 => (h j h1 h2).mono hN hw fun d hd => hx d ⟨_, List.getElem_mem h1, hd⟩

/-! ### Lists by number -/

theorem look_mapQ (f : AV → AV) (l : List (Nat × List AV)) (j : Nat) : look (mapQ f l) j = (look l j).map fun cs => if isRef j = true then cs.map f else cs := by
  induction l with
  | nil => rfl
  | cons p r ih =>
    obtain ⟨k, cs⟩ := p
    simp only [mapQ, look]
    cases hb : Nat.beq k j
    · simpa using ih
    · have : k = j := Nat.eq_of_beq_eq_true hb
      subst this
      simp only [cond_true, Option.map_some]
      cases isRef k <;> rfl

theorem get_put (l : List (Nat × AV)) (i : Nat) (v : AV) (j : Nat) : get (put l i v) j = if j = i then v else get l j := by
  induction l with
  | nil => by_cases h : j = i <;> simp [put, get, h, Nat.beq_eq] <;> simp [Nat.beq_eq, Bool.cond_eq_ite] <;> intro e <;> exact absurd e.symm h
  | cons p r ih =>
    obtain ⟨k, u⟩ := p
    simp only [put]
    by_cases h1 : k < i
    · simp only [show Nat.blt k i = true by simpa [Nat.blt_eq] using h1, cond_true, get]
      by_cases h : j = i
      · subst h; simp [Nat.beq_refl]
      · have : Nat.beq i j = false := by rw [← Bool.not_eq_true, Nat.beq_eq]; exact fun e => h e.symm
        simp [this, h, get]
    · have hb : Nat.blt k i = false := by rw [← Bool.not_eq_true, Nat.blt_eq]; exact h1
      simp only [hb, cond_false]
      by_cases h2 : i = k
      · subst h2
        simp only [Nat.beq_refl, cond_true, get]
        by_cases h : j = i
        · subst h; simp [Nat.beq_refl]
        · have : Nat.beq i j = false := by rw [← Bool.not_eq_true, Nat.beq_eq]; exact fun e => h e.symm
          simp [this, h]
      · have : Nat.beq i k = false := by rw [← Bool.not_eq_true, Nat.beq_eq]; exact h2
        simp only [this, cond_false, get]
        by_cases h3 : k = j
        · subst h3
          simp [Nat.beq_refl, show ¬ k = i from fun e => h2 e.symm]
        · have : Nat.beq k j = false := by rw [← Bool.not_eq_true, Nat.beq_eq]; exact h3
          simp [this, ih]

theorem look_put (l : List (Nat × List AV)) (i : Nat) (v : List AV) (j : Nat) : look (put l i v) j = if j = i then some v else look l j := by
  induction l with
  | nil => by_cases h : j = i <;> simp [put, look, h, Nat.beq_eq] <;> simp [Nat.beq_eq, Bool.cond_eq_ite] <;> intro e <;> exact absurd e.symm h
  | cons p r ih =>
    obtain ⟨k, u⟩ := p
    simp only [put]
    by_cases h1 : k < i
    · simp only [show Nat.blt k i = true by simpa [Nat.blt_eq] using h1, cond_true, look]
      by_cases h : j = i
      · subst h; simp [Nat.beq_refl]
      · have : Nat.beq i j = false := by rw [← Bool.not_eq_true, Nat.beq_eq]; exact fun e => h e.symm
        simp [this, h, look]
    · have hb : Nat.blt k i = false := by rw [← Bool.not_eq_true, Nat.blt_eq]; exact h1
      simp only [hb, cond_false]
      by_cases h2 : i = k
      · subst h2
        simp only [Nat.beq_refl, cond_true, look]
        by_cases h : j = i
        · subst h; simp [Nat.beq_refl]
        · have : Nat.beq i j = false := by rw [← Bool.not_eq_true, Nat.beq_eq]; exact fun e => h e.symm
          simp [this, h]
      · have : Nat.beq i k = false := by rw [← Bool.not_eq_true, Nat.beq_eq]; exact h2
        simp only [this, cond_false, look]
        by_cases h3 : k = j
        · subst h3
          simp [Nat.beq_refl, show ¬ k = i from fun e => h2 e.symm]
        · have : Nat.beq k j = false := by rw [← Bool.not_eq_true, Nat.beq_eq]; exact h3
          simp [this, ih]

theorem look_del (l : List (Nat × List AV)) (i j : Nat) : look (del l i) j = if j = i then none else look l j := by
  induction l with
  | nil => simp [del, look]
  | cons p r ih =>
    obtain ⟨k, u⟩ := p
    simp only [del]
    by_cases h : k = i
    · subst h
      simp only [Nat.beq_refl, cond_true, ih, look]
      by_cases h2 : j = k
      · simp [h2]
      · have : Nat.beq k j = false := by rw [← Bool.not_eq_true, Nat.beq_eq]; exact fun e => h2 e.symm
        simp [this, h2]
    · have hb : Nat.beq k i = false := by rw [← Bool.not_eq_true, Nat.beq_eq]; exact h
      simp only [hb, cond_false, look, ih]
      by_cases h2 : k = j
      · subst h2; simp [Nat.beq_refl, h]
      · have : Nat.beq k j = false := by rw [← Bool.not_eq_true, Nat.beq_eq]; exact h2
        simp [this]

theorem get_mapS (f : AV → AV) (hf : f .gone = .gone) (l : List (Nat × AV)) (j : Nat) : get (mapS f l) j = (get l j).mapR f := by
  induction l with
  | nil => simp [mapS, get, AV.mapR, hf]
  | cons p r ih =>
    obtain ⟨k, u⟩ := p
    simp only [mapS, get]
    cases Nat.beq k j <;> simp [ih]

theorem get_keep (ks : List Nat) (l : List (Nat × AV)) (j : Nat) : get (keepS ks l) j = get l j ∨ get (keepS ks l) j = .gone := by
  induction ks with
  | nil => exact .inr rfl
  | cons k r ih =>
    simp only [keepS, get]
    cases hb : Nat.beq k j
    · simpa using ih
    · have : k = j := Nat.eq_of_beq_eq_true hb
      subst this; exact .inl rfl

theorem look_keep (ks : List Nat) (l : List (Nat × List AV)) (j : Nat) : look (keepL ks l) j = look l j ∨ look (keepL ks l) j = none := by
  induction ks with
  | nil => exact .inr rfl
  | cons k r ih =>
    simp only [keepL]
    cases hl : look l k with
    | none => exact ih
    | some cs =>
      simp only [look]
      cases hb : Nat.beq k j
      · simpa using ih
      · have : k = j := Nat.eq_of_beq_eq_true hb
        subst this; exact .inl hl.symm

/-- Rows with names of their own are kept anyhow. -/
theorem look_special : ∀ (l : List (Nat × List AV)) (j : Nat), look (special l) j = look l j ∨ look (special l) j = none
  | [], j => .inl rfl
  | (k, cs) :: r, j => by
    have ih := look_special r j
    simp only [special]
    cases hb : Nat.ble 1000000 k
    · simp only [cond_false, look]
      cases hj : Nat.beq k j
      · simpa using ih
      · have : k = j := Nat.eq_of_beq_eq_true hj
        subst this
        right
        have key : ∀ r : List (Nat × List AV), look (special r) k = none := by
          intro r
          induction r with
          | nil => rfl
          | cons p r ih =>
            obtain ⟨m, c⟩ := p
            simp only [special]
            cases hm : Nat.ble 1000000 m
            · simpa using ih
            · simp only [cond_true, look]
              cases hq : Nat.beq m k
              · simpa using ih
              · have : m = k := Nat.eq_of_beq_eq_true hq
                subst this; rw [hb] at hm; cases hm
        exact key r
    · simp only [cond_true, look]
      cases hj : Nat.beq k j
      · simpa using ih
      · simp

theorem look_append (l m : List (Nat × List AV)) (j : Nat) : look (l ++ m) j = match look l j with | some cs => some cs | none => look m j := by
  induction l with
  | nil => rfl
  | cons p r ih =>
    obtain ⟨k, cs⟩ := p
    simp only [List.cons_append, look]
    cases Nat.beq k j
    · simpa using ih
    · rfl

theorem look_clean (kr : List Nat) (l : List (Nat × List AV)) (j : Nat) : look (special l ++ keepL kr l) j = look l j ∨ look (special l ++ keepL kr l) j = none := by
  rw [look_append]
  rcases look_special l j with h | h
  · rw [h]; cases hl : look l j with
    | some cs => exact .inl rfl
    | none => rcases look_keep kr l j with h2 | h2 <;> simp [h2, hl]
  · rw [h]; exact look_keep kr l j

/-! ### The state -/

/-- What stays through a call: the program; the world at its begin; what it may write (M), what it must not name (X); its arguments' rows. -/
structure Ctx where
  E : Env
  w0 : World
  M : Nat → Prop
  X : Nat → Prop
  np : Nat
  nt : Nat
  A0 : Nat → Nat
  K0 : Nat → Nat
  ks : List Nat := []
  t0 : Nat → Value := fun _ => undef
  fix : Bool := false

/-- The activation: marks of loops over functions among its deferred calls; slots that are not to turn. -/
structure ActOk (C : Ctx) (a : Act) (w : World) : Prop where
  mark : ∀ d ∈ a.defers, ∃ D, d = { target := .collected D, args := #[] } ∧ C.w0.heap.size ≤ D ∧ w.heap[D]? = some (.deferred (some []))
  nodup : a.defers.Nodup
  tsz : a.tmps.size = C.nt
  keep : ∀ i ∈ C.ks, a.tmps.getD i undef = C.t0 i
  none : C.fix = true → a.defers = []

theorem ActOk.mono {C : Ctx} {a : Act} {w w' : World} (h : ActOk C a w) (hw : ∀ D, C.w0.heap.size ≤ D → w.heap[D]? = some (.deferred (some [])) → w'.heap[D]? = w.heap[D]?) : ActOk C a w' :=
  { h with mark := fun d hd => let ⟨D, h1, h2, h3⟩ := h.mark d hd; ⟨D, h1, h2, (hw D h2 h3).trans h3⟩ }

def Live (l : List (Nat × List AV)) (K : Nat → Nat) (d : Nat) : Prop := look l d ≠ none ∧ 0 < K d

/-- Blocks that nobody writes. -/
def Still (C : Ctx) (A K : Nat → Nat) (l : List (Nat × List AV)) (w : World) (b : Nat) : Prop :=
  b < w.heap.size ∧ ¬ C.X b ∧ ∀ d, Live l K d → A d ≠ b

structure Row (E : Env) (w : World) (N : Nat → Prop) (blk k : Nat) (cs : List AV) : Prop where
  le : cs.length ≤ k
  row : 0 < k → ∃ cc e, w.heap[blk]? = some (.cells cc e (0, 0)) ∧ cc.size = k ∧ ∀ j (hj : j < cs.length), ∃ v, cc[j]? = some v ∧ FRep E w N cs[j] v

/-- A row whose cells may be names. -/
structure RowQ (E : Env) (np : Nat) (w : World) (N : Nat → Prop) (A K : Nat → Nat) (blk k : Nat) (cs : List AV) : Prop where
  le : cs.length ≤ k
  row : 0 < k → ∃ cc e, w.heap[blk]? = some (.cells cc e (0, 0)) ∧ cc.size = k ∧ ∀ j (hj : j < cs.length), ∃ v, cc[j]? = some v ∧ v.oneCell' = true ∧ cs[j].cellQ = true ∧ V1 E np w N A K cs[j] v

/-- A row, by its kind. -/
structure RowX (E : Env) (np : Nat) (w : World) (N : Nat → Prop) (A K : Nat → Nat) (d blk k : Nat) (cs : List AV) : Prop where
  flat : isRef d = false → Row E w N blk k cs
  ref : isRef d = true → RowQ E np w N A K blk k cs

/-- Do cells of a row name row e? -/
def namesR (d : Nat) (cs : List AV) (e : Nat) : Prop := isRef d = true ∧ ∃ x ∈ cs, names1 e x

structure Rel (C : Ctx) (A K : Nat → Nat) (S : St) (a : Act) (w : World) : Prop where
  slot : ∀ i, VRep C.E C.np w (Still C A K S.l w) A K (get S.s i) (a.tmps.getD i undef)
  row : ∀ d cs, look S.l d = some cs → RowX C.E C.np w (Still C A K S.l w) A K d (A d) (K d) cs
  inj : ∀ d e, Live S.l K d → Live S.l K e → A d = A e → d = e
  own : ∀ d, Live S.l K d → (C.w0.heap.size ≤ A d ∨ C.M (A d)) ∧ ¬ C.X (A d) ∧ ¬ C.E.fixed (A d)
  arg : ∀ d, rootB C.np d = true → look S.l d ≠ none → A d = C.A0 d ∧ K d = C.K0 d
  glob : GOk C.E w
  frame : ∀ b, b < C.w0.heap.size → ¬ C.M b → w.heap[b]? = C.w0.heap[b]?
  size : C.w0.heap.size ≤ w.heap.size
  os : w.os = C.w0.os
  tape : w.tape = C.w0.tape
  output : w.output = C.w0.output
  act : ActOk C a w
  xlt : ∀ b, C.X b → b < C.w0.heap.size
  npl : C.np ≤ 1000000

theorem RowX.block {E : Env} {np : Nat} {w : World} {N : Nat → Prop} {A K : Nat → Nat} {d blk k : Nat} {cs : List AV} (h : RowX E np w N A K d blk k cs) (hk : 0 < k) : ∃ cc e, w.heap[blk]? = some (.cells cc e (0, 0)) ∧ cc.size = k := by
  cases hd : isRef d
  · obtain ⟨cc, e, h1, h2, _⟩ := (h.flat hd).row hk; exact ⟨cc, e, h1, h2⟩
  · obtain ⟨cc, e, h1, h2, _⟩ := (h.ref hd).row hk; exact ⟨cc, e, h1, h2⟩
theorem RowX.le {E : Env} {np : Nat} {w : World} {N : Nat → Prop} {A K : Nat → Nat} {d blk k : Nat} {cs : List AV} (h : RowX E np w N A K d blk k cs) : cs.length ≤ k := by
  cases hd : isRef d
  · exact (h.flat hd).le
  · exact (h.ref hd).le

theorem Live.lt {C : Ctx} {A K : Nat → Nat} {S : St} {a : Act} {w : World} (R : Rel C A K S a w) {d : Nat} (h : Live S.l K d) : A d < w.heap.size := by
  obtain ⟨h1, h2⟩ := h
  cases hl : look S.l d with
  | none => exact absurd hl h1
  | some cs =>
    obtain ⟨cc, e, hh, _⟩ := (R.row d cs hl).block h2
    exact (Array.getElem?_eq_some_iff.1 hh).1

theorem Rel.tsz {C : Ctx} {A K : Nat → Nat} {S : St} {a : Act} {w : World} (R : Rel C A K S a w) : a.tmps.size = C.nt := R.act.tsz

/-- Where a mark lies nobody writes. -/
theorem Rel.markStill {C : Ctx} {A K : Nat → Nat} {S : St} {a : Act} {w : World} (R : Rel C A K S a w) {D : Nat} {x : Option (List Deferred)} (h0 : C.w0.heap.size ≤ D) (h : w.heap[D]? = some (.deferred x)) : Still C A K S.l w D := by
  refine ⟨(Array.getElem?_eq_some_iff.1 h).1, fun hx => ?_, fun d hd e => ?_⟩
  · have := R.xlt D hx; omega
  · cases hl : look S.l d with
    | none => exact absurd hl hd.1
    | some cs =>
      obtain ⟨cc, t, hh, _⟩ := (R.row d cs hl).block hd.2
      rw [e, h] at hh; cases hh

/-- A slot is written. -/
theorem Rel.set1 {C : Ctx} {A K : Nat → Nat} {S : St} {a : Act} {w : World} (R : Rel C A K S a w) {d : Nat} (hd : d < C.nt ∧ d ∉ C.ks) {x : AV} {v : Value}
    (h : VRep C.E C.np w (Still C A K S.l w) A K x v) : Rel C A K (S.putD (some d) x) (a.put (some d) v) w := by
  refine { R with slot := fun i => ?_, act := ?_ }
  · simp only [St.putD, get_put, Act.put]
    have hsz := R.tsz
    replace hd := hd.1
    by_cases hi : i = d
    · subst hi
      simp only [if_true]
      have : (a.tmps.setIfInBounds i v).getD i undef = v := by
        simp [Array.getD_eq_getD_getElem?, Array.getElem?_setIfInBounds, hsz, hd]
      rw [this]; exact h
    · rw [if_neg hi]
      have : (a.tmps.setIfInBounds d v).getD i undef = a.tmps.getD i undef := by
        simp [Array.getD_eq_getD_getElem?, Array.getElem?_setIfInBounds, show ¬ d = i from fun e => hi e.symm]
      rw [this]; exact R.slot i
  · refine ⟨R.act.mark, R.act.nodup, by simpa [Act.put] using R.tsz, fun i hi => ?_, R.act.none⟩
    have hne : d ≠ i := fun e => hd.2 (e ▸ hi)
    have : (a.put (some d) v).tmps.getD i undef = a.tmps.getD i undef := by
      simp [Act.put, Array.getD_eq_getD_getElem?, Array.getElem?_setIfInBounds, hne]
    rw [this]; exact R.act.keep i hi

theorem Rel.putN {C : Ctx} {A K : Nat → Nat} {S : St} {a : Act} {w : World} (R : Rel C A K S a w) {dst : Option Nat} (hd : ∀ d, dst = some d → d < C.nt ∧ d ∉ C.ks) {x : AV} {v : Value}
    (h : VRep C.E C.np w (Still C A K S.l w) A K x v) : Rel C A K (S.putD dst x) (a.put dst v) w := by
  cases dst with
  | none => exact R
  | some d => exact R.set1 (hd d rfl) h

/-- The world has grown: a new block, a draw. -/
structure Grew (w w' : World) : Prop where
  size : w.heap.size ≤ w'.heap.size
  block : ∀ b, b < w.heap.size → w'.heap[b]? = w.heap[b]?
  os : w'.os = w.os
  tape : w'.tape = w.tape
  output : w'.output = w.output

theorem Grew.refl (w : World) : Grew w w := ⟨Nat.le_refl _, fun _ _ => rfl, rfl, rfl, rfl⟩
theorem Grew.trans {a b c : World} (h : Grew a b) (k : Grew b c) : Grew a c :=
  ⟨Nat.le_trans h.size k.size, fun i hi => (k.block i (Nat.lt_of_lt_of_le hi h.size)).trans (h.block i hi), k.os.trans h.os, k.tape.trans h.tape, k.output.trans h.output⟩
theorem Grew.alloc (w : World) (o : Obj) : Grew w (w.alloc o) :=
  ⟨by show _ ≤ (w.heap.push o).size; simp, fun b hb => by show (w.heap.push o)[b]? = _; rw [Array.getElem?_push, if_neg (by omega)], rfl, rfl, rfl⟩
theorem Grew.drew (w : World) : Grew w w.drew := ⟨Nat.le_refl _, fun _ _ => rfl, rfl, rfl, rfl⟩

theorem fixed_lt {E : Env} {w : World} (G : GOk E w) {b : Nat} (h : E.fixed b) : b < w.heap.size := by
  obtain ⟨g, c, hs, rfl | rfl⟩ := h
  · have := G.var b c hs
    unfold World.cell? at this
    split at this
    · rename_i hh; exact (Array.getElem?_eq_some_iff.1 hh).1
    · cases this
  · obtain ⟨cc, e, hh, _⟩ := G.obj g c hs
    exact (Array.getElem?_eq_some_iff.1 hh).1

theorem GOk.same {E : Env} {w w' : World} (G : GOk E w) (h : ∀ b, E.fixed b → w'.heap[b]? = w.heap[b]?) : GOk E w' where
  var := fun g b hs => by rw [World.cell?_of_block (w := w) (h g ⟨g, b, hs, .inl rfl⟩)]; exact G.var g b hs
  obj := fun g b hs => by rw [h b.1 ⟨g, b, hs, .inr rfl⟩]; exact G.obj g b hs
  inj := G.inj

theorem Still.grew {C : Ctx} {A K : Nat → Nat} {l : List (Nat × List AV)} {w w' : World} (h : w.heap.size ≤ w'.heap.size) {b : Nat} (hb : Still C A K l w b) : Still C A K l w' b :=
  ⟨Nat.lt_of_lt_of_le hb.1 h, hb.2⟩

theorem Row.mono {E : Env} {w w' : World} {N N' : Nat → Prop} {blk k : Nat} {cs : List AV} (hN : ∀ b, N b → N' b) (hw : ∀ b, N b → w'.heap[b]? = w.heap[b]?) (hb : 0 < k → w'.heap[blk]? = w.heap[blk]?)
    (h : Row E w N blk k cs) : Row E w' N' blk k cs where
  le := h.le
  row := fun hk => by
    obtain ⟨cc, e, h1, h2, h3⟩ := h.row hk
    exact ⟨cc, e, by rw [hb hk]; exact h1, h2, fun j hj => let ⟨v, a, b⟩ := h3 j hj; ⟨v, a, b.mono hN hw⟩⟩

theorem RowQ.mono {E : Env} {np : Nat} {w w' : World} {N N' : Nat → Prop} {A K A' K' : Nat → Nat} {blk k : Nat} {cs : List AV} (hN : ∀ b, N b → N' b) (hw : ∀ b, N b → w'.heap[b]? = w.heap[b]?) (hb : 0 < k → w'.heap[blk]? = w.heap[blk]?)
    (hx : ∀ e, (∃ x ∈ cs, names1 e x) → A' e = A e ∧ K' e = K e) (h : RowQ E np w N A K blk k cs) : RowQ E np w' N' A' K' blk k cs where
  le := h.le
  row := fun hk => by
    obtain ⟨cc, e, h1, h2, h3⟩ := h.row hk
    exact ⟨cc, e, by rw [hb hk]; exact h1, h2, fun j hj => let ⟨v, a, o, q, b⟩ := h3 j hj; ⟨v, a, o, q, b.mono hN hw fun d hd => hx d ⟨_, List.getElem_mem hj, hd⟩⟩⟩
theorem RowX.mono {E : Env} {np : Nat} {w w' : World} {N N' : Nat → Prop} {A K A' K' : Nat → Nat} {d blk k : Nat} {cs : List AV} (hN : ∀ b, N b → N' b) (hw : ∀ b, N b → w'.heap[b]? = w.heap[b]?) (hb : 0 < k → w'.heap[blk]? = w.heap[blk]?)
    (hx : ∀ e, namesR d cs e → A' e = A e ∧ K' e = K e) (h : RowX E np w N A K d blk k cs) : RowX E np w' N' A' K' d blk k cs where
  flat := fun hd => (h.flat hd).mono hN hw hb
  ref := fun hd => (h.ref hd).mono hN hw hb fun e he => hx e ⟨hd, he⟩

theorem Rel.grew {C : Ctx} {A K : Nat → Nat} {S : St} {a : Act} {w w' : World} (R : Rel C A K S a w) (G : Grew w w') : Rel C A K S a w' where
  slot := fun i => (R.slot i).mono (fun b hb => hb.grew G.size) (fun b hb => G.block b hb.1) (fun _ _ => ⟨rfl, rfl⟩)
  row := fun d cs h => (R.row d cs h).mono (fun b hb => hb.grew G.size) (fun b hb => G.block b hb.1) (fun hk => G.block _ (Live.lt R ⟨by rw [h]; simp, hk⟩)) (fun _ _ => ⟨rfl, rfl⟩)
  inj := R.inj
  own := R.own
  arg := R.arg
  glob := R.glob.same fun b hb => G.block b (fixed_lt R.glob hb)
  frame := fun b hb hm => (G.block b (Nat.lt_of_lt_of_le hb R.size)).trans (R.frame b hb hm)
  size := Nat.le_trans R.size G.size
  os := G.os.trans R.os
  tape := G.tape.trans R.tape
  output := G.output.trans R.output
  act := R.act.mono fun D _ h => G.block D (Array.getElem?_eq_some_iff.1 h).1
  xlt := R.xlt
  npl := R.npl

/-- A new block is still, if no row lies there. -/
theorem Rel.still_new {C : Ctx} {A K : Nat → Nat} {S : St} {a : Act} {w : World} (R : Rel C A K S a w) (o : Obj) : Still C A K S.l (w.alloc o) w.heap.size :=
  ⟨by show _ < (w.heap.push o).size; simp, fun hx => by have := R.xlt _ hx; have := R.size; omega, fun d hd => by have := Live.lt R hd; omega⟩

/-! ### How states turn -/

def upd {α : Type} (f : Nat → α) (d : Nat) (x : α) (i : Nat) : α := if i = d then x else f i
theorem upd_same {α : Type} (f : Nat → α) (d : Nat) (x : α) : upd f d x d = x := by simp [upd]
theorem upd_other {α : Type} (f : Nat → α) (d : Nat) (x : α) {i : Nat} (h : i ≠ d) : upd f d x i = f i := by simp [upd, h]

theorem names1_kill {d e : Nat} {x : AV} (h : names1 e (kill1 d x)) : e ≠ d ∧ names1 e x := by
  cases x <;> simp only [kill1, names1] at h
  case rf f o =>
    cases hb : Nat.beq f d
    · simp only [hb, cond_false, names1] at h; subst h
      exact ⟨fun hh => by subst hh; simp at hb, rfl⟩
    · simp [hb, names1] at h
  case rs f o n sz =>
    cases hb : Nat.beq f d
    · simp only [hb, cond_false, names1] at h; subst h
      exact ⟨fun hh => by subst hh; simp at hb, rfl⟩
    · simp [hb, names1] at h
  case fn f l => cases l <;> simp [kill1, names1] at h

theorem kill1_cellQ {d : Nat} {x : AV} (h : x.cellQ = true) : (kill1 d x).cellQ = true := by
  cases x
  case rf e o => simp only [kill1]; cases Nat.beq e d <;> rfl
  case rs e o n sz => simp only [kill1]; cases Nat.beq e d <;> rfl
  all_goals first | exact h | cases h

theorem namesV_kill {d e : Nat} {x : AV} (h : namesV e (x.mapR (kill1 d))) : e ≠ d := by
  cases x <;> simp only [AV.mapR] at h
  case tp l =>
    obtain ⟨y, hy, hn⟩ := h
    obtain ⟨u, _, rfl⟩ := List.mem_map.1 hy
    exact (names1_kill hn).1
  case fn f l =>
    obtain ⟨y, hy, hn⟩ := h
    obtain ⟨u, _, rfl⟩ := List.mem_map.1 hy
    exact (names1_kill hn).1
  case aq l =>
    obtain ⟨y, hy, hn⟩ := h
    obtain ⟨u, _, rfl⟩ := List.mem_map.1 hy
    exact (names1_kill hn).1
  case rf f o => exact (names1_kill (x := .rf f o) (by simp only [kill1] at h ⊢; cases hb : Nat.beq f d <;> simp_all [namesV, names1])).1
  case rs f o n sz => exact (names1_kill (x := .rs f o n sz) (by simp only [kill1] at h ⊢; cases hb : Nat.beq f d <;> simp_all [namesV, names1])).1
  all_goals simp [kill1, namesV, names1] at h

theorem V1.kill {E : Env} {np : Nat} {w : World} {N : Nat → Prop} {A K : Nat → Nat} {x : AV} {v : Value} (d : Nat) (h : V1 E np w N A K x v) : V1 E np w N A K (kill1 d x) v := by
  cases h with
  | flat h => cases h <;> first | exact .flat (by constructor <;> assumption) | (refine .flat (.sl _ _ _ _ _ ?_ ?_ ?_) <;> assumption) | (refine .flat (.ie _ _ _ _ _ ?_ ?_ ?_) <;> assumption)
  | ag cells cs hl h => exact .ag cells cs hl h
  | rf e o => simp only [kill1]; cases Nat.beq e d
              · exact .rf e o
              · exact .gone _
  | rs e o n sz base c hd hn hk hb => simp only [kill1]; cases Nat.beq e d
                                      · exact .rs e o n sz base c hd hn hk hb
                                      · exact .gone _
  | el cells j blk off cs hN hc h1 => exact .el cells j blk off cs hN hc h1
  | gl g => exact .gl g
  | fn f => exact .fn f
  | un => exact .un
  | gone v => exact .gone v

theorem VRep.map {E : Env} {np : Nat} {w w' : World} {N N' : Nat → Prop} {A K A' K' : Nat → Nat} {f : AV → AV} (hf : ∀ x v, V1 E np w N A K x v → V1 E np w' N' A' K' (f x) v)
    (hfn : ∀ g l, f (.fn g l) = .gone ∨ f (.fn g l) = .fn g l) {x : AV} {v : Value} (h : VRep E np w N A K x v) : VRep E np w' N' A' K' (x.mapR f) v := by
  cases h with
  | one h =>
    cases x
    case tp l => cases h with | flat h => cases h
    case fn g l => cases h with
                   | flat h => cases h
                   | fn f => exact .one (.fn _)
    case aq l => cases h with | flat h => cases h
    all_goals exact .one (hf _ _ h)
  | tp l vs hl h => exact .tp _ vs (by simpa using hl) fun j h1 h2 => by simpa using hf _ _ (h j (by simpa using h1) h2)
  | fn g l vs hl h => exact .fn _ _ vs (by simpa using hl) fun j h1 h2 => by simpa using hf _ _ (h j (by simpa using h1) h2)
  | aq l vs hl ho h => exact .aq _ vs (by simpa using hl) ho fun j h1 h2 => by simpa using hf _ _ (h j (by simpa using h1) h2)

theorem VRep.kill {E : Env} {np : Nat} {w : World} {N : Nat → Prop} {A K : Nat → Nat} {x : AV} {v : Value} (d : Nat) (h : VRep E np w N A K x v) : VRep E np w N A K (x.mapR (kill1 d)) v :=
  h.map (fun _ _ h => h.kill d) (fun g l => by cases l <;> simp [kill1])

theorem live_mapQ {f : AV → AV} {l : List (Nat × List AV)} {K : Nat → Nat} {e : Nat} : Live (mapQ f l) K e ↔ Live l K e := by
  unfold Live
  rw [look_mapQ]
  cases look l e <;> simp

theorem live_upd {f : AV → AV} {l : List (Nat × List AV)} {K : Nat → Nat} {d k : Nat} {cs : List AV} {e : Nat} : Live (put (mapQ f (del l d)) d cs) (upd K d k) e ↔ (e = d ∧ 0 < k) ∨ (e ≠ d ∧ Live l K e) := by
  unfold Live
  rw [look_put, look_mapQ, look_del]
  by_cases h : e = d
  · subst h; simp [upd]
  · simp only [h, if_false, upd]
    cases look l e <;> simp [h]

/-- A row behind a map over names. -/
theorem RowX.kill {E : Env} {np : Nat} {w : World} {N : Nat → Prop} {A K : Nat → Nat} {e blk k : Nat} {cs : List AV} (d : Nat) (h : RowX E np w N A K e blk k cs) : RowX E np w N A K e blk k (if isRef e = true then cs.map (kill1 d) else cs) where
  flat := fun he => by rw [if_neg (by rw [he]; simp)]; exact h.flat he
  ref := fun he => by
    rw [if_pos he]
    have hr := h.ref he
    refine ⟨by simpa using hr.le, fun hk => ?_⟩
    obtain ⟨cc, t, h1, h2, h3⟩ := hr.row hk
    refine ⟨cc, t, h1, h2, fun j hj => ?_⟩
    obtain ⟨v, a, o, q, b⟩ := h3 j (by simpa using hj)
    exact ⟨v, a, o, by simpa using kill1_cellQ q, by simpa using b.kill d⟩

theorem namesR_kill {d e : Nat} {cs : List AV} {j : Nat} (h : namesR j (if isRef j = true then cs.map (kill1 d) else cs) e) : e ≠ d := by
  obtain ⟨hj, x, hx, hn⟩ := h
  rw [if_pos hj] at hx
  obtain ⟨u, _, rfl⟩ := List.mem_map.1 hx
  exact (names1_kill hn).1

/-- Row d is made anew (what named it is gone). -/
theorem Rel.reroot {C : Ctx} {A K : Nat → Nat} {S : St} {a : Act} {w w' : World} (R : Rel C A K S a w) {d b k : Nat} {cs : List AV} (hnp : rootB C.np d = false)
    (hsize : w.heap.size ≤ w'.heap.size) (hblock : ∀ b', b' < w.heap.size → (0 < k → b' ≠ b) → w'.heap[b']? = w.heap[b']?)
    (hos : w'.os = w.os) (htape : w'.tape = w.tape) (hout : w'.output = w.output)
    (hown : 0 < k → (C.w0.heap.size ≤ b ∨ C.M b) ∧ ¬ C.X b ∧ ¬ C.E.fixed b)
    (hN : 0 < k → ∀ b', Still C A K S.l w b' → b' ≠ b)
    (hA : 0 < k → ∀ e, e ≠ d → Live S.l K e → A e ≠ b)
    (hrow : RowX C.E C.np w' (Still C (upd A d b) (upd K d k) (put (mapQ (kill1 d) (del S.l d)) d cs) w') (upd A d b) (upd K d k) d b k cs) :
    Rel C (upd A d b) (upd K d k) { s := mapS (kill1 d) S.s, l := put (mapQ (kill1 d) (del S.l d)) d cs } a w' := by
  have hst : ∀ b', Still C A K S.l w b' → Still C (upd A d b) (upd K d k) (put (mapQ (kill1 d) (del S.l d)) d cs) w' b' := fun b' hb' => by
    refine ⟨Nat.lt_of_lt_of_le hb'.1 hsize, hb'.2.1, fun e he => ?_⟩
    rcases live_upd.1 he with ⟨rfl, hk⟩ | ⟨hne, hl⟩
    · rw [upd_same]; exact fun e => hN hk b' hb' e.symm
    · rw [upd_other _ _ _ hne]; exact hb'.2.2 e hl
  have hbl : ∀ b', Still C A K S.l w b' → w'.heap[b']? = w.heap[b']? := fun b' hb' => hblock b' hb'.1 (fun hk => hN hk b' hb')
  constructor
  case slot =>
    intro i
    show VRep _ _ _ _ _ _ (get (mapS (kill1 d) S.s) i) _
    rw [get_mapS _ rfl]
    refine ((R.slot i).kill d).mono hst hbl fun e he => ?_
    have := namesV_kill he
    exact ⟨upd_other _ _ _ this, upd_other _ _ _ this⟩
  case row =>
    intro e cs' he
    simp only [look_put, look_mapQ, look_del] at he
    by_cases hed : e = d
    · subst hed
      simp only [if_true, Option.some.injEq] at he
      subst he
      rw [upd_same, upd_same]; exact hrow
    · simp only [hed, if_false, Option.map_eq_some_iff] at he
      obtain ⟨cs0, he, rfl⟩ := he
      rw [upd_other _ _ _ hed, upd_other _ _ _ hed]
      refine ((R.row e cs0 he).kill d).mono hst hbl (fun hk => hblock _ (Live.lt R ⟨by rw [he]; simp, hk⟩) fun hk0 => hA hk0 e hed ⟨by rw [he]; simp, hk⟩) fun f hf => ?_
      have := namesR_kill hf
      exact ⟨upd_other _ _ _ this, upd_other _ _ _ this⟩
  case inj =>
    intro e f he hf h
    rcases live_upd.1 he with ⟨rfl, hk⟩ | ⟨hne, hl⟩ <;> rcases live_upd.1 hf with ⟨rfl, hk'⟩ | ⟨hnf, hl'⟩
    · rfl
    · rw [upd_same, upd_other _ _ _ hnf] at h; exact absurd h.symm (hA hk f hnf hl')
    · rw [upd_same, upd_other _ _ _ hne] at h; exact absurd h (hA hk' e hne hl)
    · rw [upd_other _ _ _ hne, upd_other _ _ _ hnf] at h; exact R.inj e f hl hl' h
  case own =>
    intro e he
    rcases live_upd.1 he with ⟨rfl, hk⟩ | ⟨hne, hl⟩
    · rw [upd_same]; exact hown hk
    · rw [upd_other _ _ _ hne]; exact R.own e hl
  case arg =>
    intro e he hl
    have hne : e ≠ d := fun h => by subst h; rw [he] at hnp; cases hnp
    rw [upd_other _ _ _ hne, upd_other _ _ _ hne]
    refine R.arg e he ?_
    simp only [look_put, look_mapQ, look_del, hne, if_false] at hl
    intro h; rw [h] at hl; exact hl rfl
  case glob => exact R.glob.same fun b' hb' => hblock b' (fixed_lt R.glob hb') fun hk e => (hown hk).2.2 (e ▸ hb')
  case frame =>
    intro b' hb' hm
    rw [hblock b' (Nat.lt_of_lt_of_le hb' R.size) fun hk e => by
      subst e
      rcases (hown hk).1 with h | h
      · omega
      · exact hm h]
    exact R.frame b' hb' hm
  case size => exact Nat.le_trans R.size hsize
  case os => exact hos.trans R.os
  case tape => exact htape.trans R.tape
  case output => exact hout.trans R.output
  case act => exact R.act.mono fun D h1 h2 => hbl D (R.markStill h1 h2)
  case xlt => exact R.xlt
  case npl => exact R.npl

theorem live_put {l : List (Nat × List AV)} {K : Nat → Nat} {d : Nat} {cs : List AV} (hd : look l d ≠ none) {e : Nat} : Live (put l d cs) K e ↔ Live l K e := by
  unfold Live
  rw [look_put]
  by_cases h : e = d
  · subst h; simp [hd]
  · simp [h]

/-- Cells of row d are written. -/
theorem Rel.setRow {C : Ctx} {A K : Nat → Nat} {S : St} {a : Act} {w w' : World} (R : Rel C A K S a w) {d : Nat} {cs : List AV} (hd : look S.l d ≠ none) (hk : 0 < K d)
    (hsize : w.heap.size = w'.heap.size) (hblock : ∀ b', b' ≠ A d → w'.heap[b']? = w.heap[b']?)
    (hos : w'.os = w.os) (htape : w'.tape = w.tape) (hout : w'.output = w.output)
    (hrow : RowX C.E C.np w' (Still C A K S.l w) A K d (A d) (K d) cs) :
    Rel C A K { s := S.s, l := put S.l d cs } a w' := by
  have hlive : Live S.l K d := ⟨hd, hk⟩
  have hst : ∀ b', Still C A K S.l w b' → Still C A K (put S.l d cs) w' b' := fun b' hb' => ⟨by rw [← hsize]; exact hb'.1, hb'.2.1, fun e he => hb'.2.2 e ((live_put hd).1 he)⟩
  have hbl : ∀ b', Still C A K S.l w b' → w'.heap[b']? = w.heap[b']? := fun b' hb' => hblock b' fun e => hb'.2.2 d hlive e.symm
  constructor
  case slot => exact fun i => (R.slot i).mono hst hbl fun _ _ => ⟨rfl, rfl⟩
  case row =>
    intro e cs' he
    simp only [look_put] at he
    by_cases hed : e = d
    · subst hed
      simp only [if_true, Option.some.injEq] at he
      subst he
      exact hrow.mono hst (fun _ _ => rfl) (fun _ => rfl) (fun _ _ => ⟨rfl, rfl⟩)
    · simp only [hed, if_false] at he
      exact (R.row e cs' he).mono hst hbl (fun hke => hblock _ fun h => hed (R.inj e d ⟨by rw [he]; simp, hke⟩ hlive h)) (fun _ _ => ⟨rfl, rfl⟩)
  case inj => exact fun e f he hf h => R.inj e f ((live_put hd).1 he) ((live_put hd).1 hf) h
  case own => exact fun e he => R.own e ((live_put hd).1 he)
  case arg =>
    intro e he hl
    refine R.arg e he ?_
    simp only [look_put] at hl
    by_cases hed : e = d
    · subst hed; exact hd
    · simpa [hed] using hl
  case glob => exact R.glob.same fun b' hb' => hblock b' fun e => (R.own d hlive).2.2 (e ▸ hb')
  case frame =>
    intro b' hb' hm
    rw [hblock b' fun e => by
      subst e
      rcases (R.own d hlive).1 with h | h
      · omega
      · exact hm h]
    exact R.frame b' hb' hm
  case size => rw [← hsize]; exact R.size
  case os => exact hos.trans R.os
  case tape => exact htape.trans R.tape
  case output => exact hout.trans R.output
  case act => exact R.act.mono fun D h1 h2 => hbl D (R.markStill h1 h2)
  case xlt => exact R.xlt
  case npl => exact R.npl

theorem live_less {l l' : List (Nat × List AV)} {K : Nat → Nat} (hl : ∀ d, look l' d = look l d ∨ look l' d = none) {e : Nat} (he : Live l' K e) : Live l K e := by
  refine ⟨?_, he.2⟩
  rcases hl e with h | h
  · rw [← h]; exact he.1
  · exact absurd h he.1

/-- Fewer slots, fewer rows: what is gone is not told. -/
theorem Rel.less {C : Ctx} {A K : Nat → Nat} {S S' : St} {a : Act} {w : World} (R : Rel C A K S a w)
    (hl : ∀ d, look S'.l d = look S.l d ∨ look S'.l d = none)
    (hs : ∀ i, VRep C.E C.np w (Still C A K S'.l w) A K (get S'.s i) (a.tmps.getD i undef)) : Rel C A K S' a w := by
  have hlive : ∀ e, Live S'.l K e → Live S.l K e := fun e he => live_less hl he
  have hst : ∀ b', Still C A K S.l w b' → Still C A K S'.l w b' := fun b' hb' => ⟨hb'.1, hb'.2.1, fun e he => hb'.2.2 e (hlive e he)⟩
  refine { R with slot := hs, row := fun d cs h => ?_, inj := fun d e hd he h => R.inj d e (hlive d hd) (hlive e he) h, own := fun d hd => R.own d (hlive d hd), arg := fun d hd h => R.arg d hd ?_ }
  · rcases hl d with h1 | h1
    · exact (R.row d cs (by rw [← h1]; exact h)).mono hst (fun _ _ => rfl) (fun _ => rfl) (fun _ _ => ⟨rfl, rfl⟩)
    · rw [h1] at h; cases h
  · rcases hl d with h1 | h1
    · rw [← h1]; exact h
    · exact absurd h1 h

theorem Still.less {C : Ctx} {A K : Nat → Nat} {l l' : List (Nat × List AV)} {w : World} (hl : ∀ d, look l' d = look l d ∨ look l' d = none) {b : Nat} (h : Still C A K l w b) : Still C A K l' w b :=
  ⟨h.1, h.2.1, fun e he => h.2.2 e (live_less hl he)⟩

theorem Rel.clean {C : Ctx} {A K : Nat → Nat} {S : St} {a : Act} {w : World} (R : Rel C A K S a w) (ks kr : List Nat) : Rel C A K (S.clean ks kr) a w := by
  have hl : ∀ d, look (St.clean S ks kr).l d = look S.l d ∨ look (St.clean S ks kr).l d = none := fun d => look_clean kr S.l d
  refine R.less hl fun i => ?_
  rcases get_keep ks S.s i with h | h
  · show VRep _ _ _ _ _ _ (get (keepS ks S.s) i) _
    rw [h]
    exact (R.slot i).mono (fun b hb => hb.less hl) (fun _ _ => rfl) (fun _ _ => ⟨rfl, rfl⟩)
  · show VRep _ _ _ _ _ _ (get (keepS ks S.s) i) _
    rw [h]; exact .one (.gone _)

/-- What was a name of a frozen row. -/
theorem frz1_V {C : Ctx} {A K : Nat → Nat} {S : St} {a : Act} {w : World} (R : Rel C A K S a w) {d : Nat} {cs : List AV} (hd : look S.l d = some cs) (hf : isRef d = false) {N : Nat → Prop} (hN : ∀ b, Still C A K S.l w b → N b) (hA : 0 < K d → N (A d))
    {x : AV} {v : Value} (h : V1 C.E C.np w (Still C A K S.l w) A K x v) : V1 C.E C.np w N A K (frz1 d cs x) v := by
  cases h with
  | flat h => cases h.mono hN (fun _ _ => rfl) <;> first | exact .flat (by constructor <;> assumption) | (refine .flat (.sl _ _ _ _ _ ?_ ?_ ?_) <;> assumption) | (refine .flat (.ie _ _ _ _ _ ?_ ?_ ?_) <;> assumption)
  | ag cells cs hl h => exact .ag cells cs hl fun j h1 h2 => (h j h1 h2).mono hN (fun _ _ => rfl)
  | rf e o => simp only [frz1]; cases Nat.beq e d
              · exact .rf e o
              · exact .gone _
  | rs e o n sz base c hnp hn hk hb =>
    simp only [frz1]
    cases hb' : Nat.beq e d
    · exact .rs e o n sz base c hnp hn hk hb
    · have := Nat.eq_of_beq_eq_true hb'
      subst this
      simp only [cond_true]
      have hrow := (R.row e cs hd).flat hf
      by_cases hk0 : 0 < K e
      · obtain ⟨cc, t, h1, h2, h3⟩ := hrow.row hk0
        have hlen := hrow.le
        refine .flat (.sl _ n base c (fun j => cc.getD (o + j) undef) hn (.inr ⟨A e, o, hb hk0, hA hk0, fun j hj => ?_⟩) fun j hj => ?_)
        · simp only [List.length_take, List.length_drop] at hj
          obtain ⟨v, hv, _⟩ := h3 (o + j) (by omega)
          simp [World.cell?, h1, hv, Array.getD_eq_getD_getElem?]
        · simp only [List.length_take, List.length_drop] at hj
          obtain ⟨v, hv, hf⟩ := h3 (o + j) (by omega)
          have : cc.getD (o + j) undef = v := by simp [Array.getD_eq_getD_getElem?, hv]
          rw [this]
          simp only [List.getElem_take, List.getElem_drop]
          exact hf.mono hN (fun _ _ => rfl)
      · have : cs = [] := by have := hrow.le; cases cs <;> simp_all
        subst this
        refine .flat (.sl _ n base c (fun _ => undef) hn (.inl (by simp)) fun j hj => by simp at hj)
  | el cells j blk off cs hN0 hc h1 => exact .el cells j blk off cs (hN _ hN0) hc fun j hj => (h1 j hj).mono hN (fun _ _ => rfl)
  | gl g => exact .gl g
  | fn f => exact .fn f
  | un => exact .un
  | gone v => exact .gone v

theorem frz2_V {C : Ctx} {A K : Nat → Nat} {S : St} {a : Act} {w : World} (R : Rel C A K S a w) {d : Nat} {cs : List AV} (hd : look S.l d = some cs) (hf : isRef d = false) {N : Nat → Prop} (hN : ∀ b, Still C A K S.l w b → N b) (hA : 0 < K d → N (A d))
    {x : AV} {v : Value} (h : V1 C.E C.np w (Still C A K S.l w) A K x v) : V1 C.E C.np w N A K (frz2 d cs x) v := by
  cases x
  case rf e o =>
    cases h with
    | flat h => cases h
    | rf _ _ =>
      simp only [frz2]
      cases hb : Nat.beq e d
      · exact .rf e o
      · have := Nat.eq_of_beq_eq_true hb
        subst this
        simp only [cond_true]
        cases hc : cs.isEmpty
        · simp only [cond_false]
          have hrow := (R.row e cs hd).flat hf
          have hlen := hrow.le
          have hk0 : 0 < K e := by
            cases cs with
            | nil => cases hc
            | cons c r => simp only [List.length_cons] at hlen; omega
          obtain ⟨cc, t, h1, h2, h3⟩ := hrow.row hk0
          have := V1.el (E := C.E) (np := C.np) (w := w) (N := N) (A := A) (K := K) cs o (A e) 0 (fun j => cc.getD j undef) (hA hk0) (fun j hj => by
            obtain ⟨v, hv, _⟩ := h3 j hj
            simp [World.cell?, h1, hv, Array.getD_eq_getD_getElem?]) (fun j hj => by
            obtain ⟨v, hv, hf⟩ := h3 j hj
            have : cc.getD j undef = v := by simp [Array.getD_eq_getD_getElem?, hv]
            rw [this]
            exact hf.mono hN (fun _ _ => rfl))
          rwa [Nat.zero_add] at this
        · exact .gone _
  all_goals exact frz1_V R hd hf hN hA h

theorem frz1_cellQ {d : Nat} {cs : List AV} {x : AV} (h : x.cellQ = true) : (frz1 d cs x).cellQ = true := by
  cases x
  case rf e o => simp only [frz1]; cases Nat.beq e d <;> rfl
  case rs e o n sz => simp only [frz1]; cases Nat.beq e d <;> rfl
  all_goals first | exact h | cases h

theorem Rel.frz {C : Ctx} {A K : Nat → Nat} {S : St} {a : Act} {w : World} (R : Rel C A K S a w) {d : Nat} {cs : List AV} (hd : look S.l d = some cs) (hf : isRef d = false) :
    Rel C A K { s := mapS (frz2 d cs) S.s, l := mapQ (frz1 d cs) (del S.l d) } a w := by
  have live : ∀ e, Live (mapQ (frz1 d cs) (del S.l d)) K e ↔ (e ≠ d ∧ Live S.l K e) := fun e => by
    rw [live_mapQ]; unfold Live; rw [look_del]; by_cases h : e = d <;> simp [h]
  have hst : ∀ b, Still C A K S.l w b → Still C A K (mapQ (frz1 d cs) (del S.l d)) w b := fun b hb => ⟨hb.1, hb.2.1, fun e he => hb.2.2 e ((live e).1 he).2⟩
  have hA : 0 < K d → Still C A K (mapQ (frz1 d cs) (del S.l d)) w (A d) := fun hk => by
    have hlive : Live S.l K d := ⟨by rw [hd]; simp, hk⟩
    refine ⟨Live.lt R hlive, (R.own d hlive).2.1, fun e he hh => ?_⟩
    obtain ⟨hne, he1⟩ := (live e).1 he
    exact hne (R.inj e d he1 hlive hh)
  refine { R with slot := fun i => ?_, row := fun e ds he => ?_, inj := fun e f he hf' h => R.inj e f ((live e).1 he).2 ((live f).1 hf').2 h, own := fun e he => R.own e ((live e).1 he).2, arg := fun e he hl => R.arg e he ?_ }
  · show VRep _ _ _ _ _ _ (get (mapS (frz2 d cs) S.s) i) _
    rw [get_mapS _ rfl]
    exact (R.slot i).map (fun x v h => frz2_V R hd hf hst hA h) (fun g l => by cases l <;> simp [frz2, frz1])
  · simp only [look_mapQ, look_del] at he
    by_cases hed : e = d
    · simp [hed] at he
    · simp only [hed, if_false, Option.map_eq_some_iff] at he
      obtain ⟨c0, he, rfl⟩ := he
      have hr := R.row e c0 he
      refine ⟨fun hf' => ?_, fun hf' => ?_⟩
      · rw [if_neg (by rw [hf']; simp)]; exact (hr.flat hf').mono hst (fun _ _ => rfl) (fun _ => rfl)
      · rw [if_pos hf']
        refine ⟨by simpa using (hr.ref hf').le, fun hk => ?_⟩
        obtain ⟨cc, t, h1, h2, h3⟩ := (hr.ref hf').row hk
        refine ⟨cc, t, h1, h2, fun j hj => ?_⟩
        obtain ⟨v, a, o, q, b⟩ := h3 j (by simpa using hj)
        exact ⟨v, a, o, by simpa using frz1_cellQ q, by simpa using frz1_V R hd hf hst hA b⟩
  · simp only [look_mapQ, look_del] at hl
    intro h
    by_cases hed : e = d
    · simp [hed] at hl
    · simp [hed, h] at hl

theorem Rel.freezes {C : Ctx} {A K : Nat → Nat} {a : Act} {w : World} : ∀ (fr : List Nat) {S S1 : St}, Rel C A K S a w → Zab.freezes S fr = some S1 → Rel C A K S1 a w
  | [], S, S1, R, h => by simp only [Zab.freezes, Option.some.injEq] at h; exact h ▸ R
  | d :: r, S, S1, R, h => by
    simp only [Zab.freezes, St.freeze] at h
    cases hf : isRef d
    · cases hd : look S.l d with
      | none => simp only [hd, hf, cond_false] at h; exact Rel.freezes r R h
      | some cs => simp only [hd, hf, cond_false] at h; exact Rel.freezes r (R.frz hd hf) h
    · simp [hf] at h

end Zab

namespace Zab
open Go

def sizeOfT (P : Program) (t : TypeId) : Option Nat := (P.info? t).map (·.size)
def bytesOfT (P : Program) (t : TypeId) : Option Nat := (P.info? t).map (·.bytes)
def zeroOfT (P : Program) (t : TypeId) : Option Value := (P.info? t).bind (·.zero)

/-- One cell, or so many. -/
def aggOfT (P : Program) (t : TypeId) : Option (Option Nat) :=
  match P.underlying t with
  | some (.struct _) | some (.array _ _) => (sizeOfT P t).map some
  | some _ => some none
  | none => none

/-- A zero value's cells. -/
def zeroCellsOf (v : Value) : Option (List AV) :=
  bif v.cells.toList.all flatConst then some (v.cells.toList.map constAV) else none

def isIntField (P : Program) (j : Nat) (f : Field) : Bool :=
  (match P.underlying f.type with | some (.int _) => true | _ => false) && (match sizeOfT P f.type with | some 1 => true | _ => false) && Nat.beq f.offset j && !(f.name == "_")

def intFields (P : Program) : Nat → List Field → Bool
  | _, [] => true
  | j, f :: r => isIntField P j f && intFields P (j + 1) r

def isConstO : Operand → Bool
  | .const _ => true
  | _ => false

def isNilS : Operand → Bool
  | .const (.slice none 0 0) => true
  | _ => false

def ekOf (P : Program) (op : BinOp) (t : TypeId) (x y : Operand) : EqKind :=
  match op with
  | .eql | .neq =>
    match P.underlying t with
    | some .bool => .bool
    | some .string => .str
    | some (.interface _) => if isConstO x || isConstO y then .ifaceC else .iface
    | some (.pointer _) => .ptr
    | some (.slice _) => if isNilS y then .slc else .no
    | some (.struct fs) => if intFields P 0 fs.toList && !P.stoodInHeld t && !P.eqGuardType P.depth t then .ints fs.size else .no
    | _ => .no
  | _ => .no

abbrev Ann := List (Nat × List (Nat × Nat))

def annOf : Ann → Nat → Option (List (Nat × Nat))
  | [], _ => none
  | (j, l) :: r, d => bif Nat.beq j d then some l else annOf r d

def annD (ann : Ann) (dst : Option Nat) : Option (List (Nat × Nat)) :=
  match dst with
  | some d => annOf ann d
  | none => some []

/-- The parts of a struct, by their places. -/
def structParts (P : Program) (fs : Array Field) : List (Nat × Operand) → Option (List (Nat × Nat × Operand))
  | [] => some []
  | (i, x) :: r =>
    match fs[i]? with
    | some f => (match sizeOfT P f.type, structParts P fs r with | some sz, some ps => some ((f.offset, sz, x) :: ps) | _, _ => none)
    | none => none

def rowParts (sz : Nat) : List (Nat × Operand) → List (Nat × Nat × Operand)
  | [] => []
  | (i, x) :: r => (i * sz, sz, x) :: rowParts sz r

def isSliceT (P : Program) (t : TypeId) : Option Nat :=
  match P.underlying t with
  | some (.slice e) => some e
  | _ => none

/-- How a new row is said to be made: (5, 5) a variable that nobody writes; (6, 6) a struct with names; (7, 7) a row that may hold names, with its nil slices that are to grow. -/
def isMark (ann : Ann) (dst : Option Nat) (m : Nat) : Option (List (Nat × Nat)) :=
  match dst with
  | some d => (match annOf ann d with | some ((a, b) :: r) => bif Nat.beq a m && Nat.beq b m then some r else none | _ => none)
  | none => none

/-- Is it said to be a load from cells that nobody writes? -/
def isE (ann : Ann) (dst : Option Nat) : Bool :=
  match dst with
  | some d => (match annOf ann d with | some [(9, 9)] => true | _ => false)
  | none => false

/-- Is it said to be a load from this row? -/
def isR (ann : Ann) (dst : Option Nat) : Option Nat :=
  match dst with
  | some d => (match annOf ann d with | some [(42, r)] => some r | _ => none)
  | none => none

def cCall (ann : Ann) (o : Oper) (c : Call) (P : Program) : Option AOp :=
  match c.callee with
  | .value f =>
    (match annD ann o.dst with
     | some own => some (.callK f c.args.toList own)
     | none => some (.call f c.args.toList))
  | .builtin .len =>
    (match c.args.toList, (c.argTypes[0]?).bind P.underlying with
     | [x], some (.slice _) => some (.len false x)
     | [x], some .string => some (.len true x)
     | _, _ => none)
  | .builtin .cap =>
    (match c.args.toList, (c.argTypes[0]?).bind P.underlying with
     | [x], some (.slice _) => some (.cap x)
     | _, _ => none)
  | .builtin .max => some (.mx c.args.toList)
  | .builtin .min => some (.mn c.args.toList)
  | .builtin .append =>
    (match c.args.toList, c.argTypes.toList with
     | [x, y], [t, u] =>
       (match isSliceT P t, isSliceT P u with
        | some e, some _ => (match sizeOfT P e, bytesOfT P e, zeroOfT P e with
                             | some (sz + 1), some (b + 1), some v => bif Nat.beq v.cells.size (sz + 1) then some (.app (sz + 1) (b + 1) x y) else none
                             | _, _, _ => none)
        | some e, none => (match P.underlying u, sizeOfT P e, bytesOfT P e, (zeroOfT P e).bind zeroCellsOf with
                             | some (.int _), some (sz + 1), some (b + 1), some zs => bif Nat.beq zs.length (sz + 1) then some (.appN zs (b + 1) x y) else none
                             | _, _, _, _ => none)
        | _, _ => none)
     | _, _ => none)
  | _ => none

/-- A package's error that may be read; numbers from 1000000 on name functions that part slices (chunks). -/
def sentB (sents : List Nat) (g : Nat) : Bool := Nat.blt g 1000000 && memb sents g

def cOp (P : Program) (T : TypeId) (sents : List Nat) (ann : Ann) (o : Oper) : Option AOp :=
  match o.op with
  | .move x => some (.move x)
  | .assign x =>
    (match (match o.dst with | some d => annOf ann d | none => none) with
     | some ((_, sz) :: _) => (match x with | .const _ => some (.nilR sz x) | _ => some (.move x))
     | some [] => none
     | none => some (.move x))
  | .pick c a b => some (.pick c a b)
  | .binOp op t x y _ => some (.bin (ekOf P op t x y) op x y)
  | .unOp op _ x => some (.un op x)
  | .convert src dst x =>
    (match P.underlying src, P.underlying dst with
     | some (.int _), some (.int k) => some (.conv k x)
     | _, _ => none)
  | .fieldAddr s x f =>
    (match P.underlying s with
     | some (.struct fs) => (match fs[f]? with
                             | some fd => (match sizeOfT P fd.type with | some (_ + 1) => some (.addr fd.offset x) | _ => none)
                             | none => none)
     | _ => none)
  | .indexAddr t x i =>
    (match P.underlying t with
     | some (.array len e) => (match sizeOfT P e with | some sz => some (.ixA len sz x i) | none => none)
     | some (.slice e) => (match sizeOfT P e with | some (sz + 1) => some (.ixS (sz + 1) x i) | _ => none)
     | _ => none)
  | .field t x f =>
    (match P.underlying t with
     | some (.struct fs) => (match fs[f]? with
                             | some fd => (match aggOfT P fd.type with | some m => some (.fld fd.offset m x) | none => none)
                             | none => none)
     | _ => none)
  | .index t x i =>
    (match P.underlying t with
     | some (.array len e) => (match sizeOfT P e, aggOfT P e with | some sz, some m => some (.ixV len sz m x i) | _, _ => none)
     | some .string => some (.ixStr x i)
     | _ => none)
  | .extract x j => some (.ext j x)
  | .build t parts =>
    (match P.underlying t, zeroOfT P t with
     | some (.struct fs), some v =>
       (match (fs.toList.all fun f => (sizeOfT P f.type).isSome), zeroCellsOf v, structParts P fs parts.toList with
        | true, some zs, some ps => (match isMark ann o.dst 6 with | some _ => some (.buildQ zs ps) | none => some (.build zs ps))
        | _, _, _ => none)
     | some (.array _ e), some v =>
       (match sizeOfT P e, zeroCellsOf v with
        | some sz, some zs => some (.build zs (rowParts sz parts.toList))
        | _, _ => none)
     | _, _ => none)
  | .buildSlice t n parts =>
    (match isSliceT P t with
     | some e =>
       (match sizeOfT P e, (zeroOfT P e).bind zeroCellsOf with
        | some (sz + 1), some zs =>
          bif Nat.beq zs.length (sz + 1) && Nat.ble (n * (sz + 1)) 16777216 then
            (match (match o.dst with | some d => annOf ann d | none => none) with
             | some _ => some (.bslR n zs (rowParts (sz + 1) parts.toList))
             | none => some (.bsl n zs (rowParts (sz + 1) parts.toList))) else none
        | _, _ => none)
     | none => none)
  | .makeSlice t l c =>
    (match isSliceT P t with
     | some e =>
       (match sizeOfT P e, bytesOfT P e, (zeroOfT P e).bind zeroCellsOf with
        | some (sz + 1), some (b + 1), some zs =>
          bif Nat.beq zs.length (sz + 1) then
            (match (match o.dst with | some d => annOf ann d | none => none) with
             | some _ => some (.mkR zs (b + 1) l c)
             | none => some (.mkS zs (b + 1) l c)) else none
        | _, _, _ => none)
     | none => none)
  | .makeFunc (.func f) first caps => bif first.isEmpty then some (.mkfn f caps.toList) else none
  | .nilCheck x => some (.nilChk x)
  | .typeAssert x _ t true =>
    (match P.underlying t with
     | some (.pointer _) => bif Nat.beq t T then none else (match zeroOfT P t with | some (.pointer none) => some (.tas t .np x) | _ => none)
     | _ => none)
  | .slice t x lo hi mx =>
    (match P.underlying t with
     | some (.slice e) => (match sizeOfT P e with | some (sz + 1) => some (.slc (sz + 1) x lo hi mx) | _ => none)
     | _ => none)
  | .load t x =>
    (match aggOfT P t with
     | some m => (match x with
                  | .global g => bif sentB sents g then (match m with | none => some (.ldg g) | some _ => none) else none
                  | _ => bif isE ann o.dst then some (.ldE m x) else (match isR ann o.dst with | some d => some (.ldR d m x) | none => some (.load m x)))
     | none => none)
  | .store t x v => (match sizeOfT P t with | some sz => some (.store sz x v) | none => none)
  | .box e v =>
    (match sizeOfT P e with
     | some (sz + 1) =>
       (match isMark ann o.dst 5 with
        | some _ => some (.boxE (sz + 1) v)
        | none => (match isMark ann o.dst 7 with | some nils => some (.boxQ (sz + 1) v nils) | none => some (.box (sz + 1) v)))
     | _ => none)
  | .alloc e =>
    (match (zeroOfT P e).bind zeroCellsOf with
     | some (c :: cs) => (match isMark ann o.dst 7 with | some nils => some (.allocQ (c :: cs) nils) | none => some (.alloc (c :: cs)))
     | _ => none)
  | .makeInterface t x => (match P.underlying t with | some (.pointer _) => some (.mki t x) | _ => some .stop)
  | .panic _ => some .stop
  | .call c => cCall ann o c P
  | _ => none

/-- The operands of an operation (of those that may change places). -/
def opnds : AOp → List Operand
  | .move x | .un _ x | .conv _ x | .addr _ x | .fld _ _ x | .ext _ x | .len _ x | .nilChk x | .tas _ _ x | .mki _ x | .boxE _ x | .cap x | .load _ x | .ldE _ x | .ldR _ _ x => [x]
  | .pick c x y => [c, x, y]
  | .bin _ _ x y | .ixA _ _ x y | .ixS _ x y | .ixV _ _ _ x y | .ixStr x y | .store _ x y | .mkS _ _ x y => [x, y]
  | .build _ ps | .buildQ _ ps | .bsl _ _ ps => ps.map fun p => p.2.2
  | .mkfn _ l | .mn l | .mx l => l
  | .slc _ x lo hi mx => x :: (lo.toList ++ (hi.toList ++ mx.toList))
  | .call f l | .callK f l _ => f :: l
  | _ => []

def tmpsOf : List Operand → List Nat
  | [] => []
  | .tmp t :: r => t :: tmpsOf r
  | _ :: r => tmpsOf r

def looksA (a : AOper) : List Nat := tmpsOf (opnds a.op) ++ (match a.guard with | some (g, _) => [g] | none => [])
def dstA (a : AOper) : List Nat := match a.dst with | some d => [d] | none => []

def meets : List Nat → List Nat → Bool
  | [], _ => false
  | x :: r, l => memb l x || meets r l

/-- A call that makes no row of the caller's: it writes rows and its slot alone. -/
def isK : AOp → Option (Operand × List Operand)
  | .callK f xs own => bif (mvOf own).isEmpty && ((unmv own).isEmpty && !m8 own) then some (f, xs) else none
  | _ => none
def nolK : AOp → List Nat
  | .callK _ _ own => nolOf own
  | _ => []
/-- A load from a row that a call is not lent. -/
def noTouch (a b : AOp) : Bool :=
  match a with
  | .ldR d _ _ => (isK b).isSome && memb (nolK b) d
  | _ => false
def wcls (op : AOp) : Nat := match isK op with | some _ => 2 | none => op.cls

/-- May two operations change places? -/
def free (a b : AOper) : Bool :=
  !meets (dstA a) (looksA b ++ dstA b) && !meets (dstA b) (looksA a) &&
  (match wcls a.op, wcls b.op with
   | 0, 0 | 0, 1 | 1, 0 | 1, 1 | 0, 2 | 2, 0 => true
   | 1, 2 => noTouch a.op b.op
   | 2, 1 => noTouch b.op a.op
   | _, _ => false)

/-- May what grows a row stand behind what only names or cuts? -/
def appLooks : AOp → Option (List Nat)
  | .app _ _ x y => some (tmpsOf [x, y])
  | _ => none
def cutB : AOp → Bool
  | .move _ | .slc _ _ _ _ none => true
  | _ => false
def freeA (a b : AOper) : Bool :=
  match appLooks a.op with
  | some l => cutB b.op && (a.guard.isNone && (b.guard.isNone && (!meets (dstA a) (looksA b ++ dstA b) && !meets (dstA b) l)))
  | none => false

/-- May a call that makes rows stand behind what looks at no row? -/
def callLooks : AOp → Option (List Nat)
  | .callK f xs own => bif m8 own then none else some (tmpsOf (f :: xs))
  | _ => none
def pureB : AOp → Bool
  | .move _ | .slc _ _ _ _ none | .addr _ _ | .conv _ _ | .ldE _ _ | .bsl _ _ _ | .bin _ .add _ _ | .bin _ .sub _ _ => true
  | _ => false
def freeB (a b : AOper) : Bool :=
  match callLooks a.op with
  | some l => pureB b.op && (a.guard.isNone && (b.guard.isNone && (!meets (dstA a) (looksA b ++ dstA b) && !meets (dstA b) l)))
  | none => false

/-- What each operation waits for, by bits, whole. -/
def maskOf (acc : List Nat) (o : Oper) : Nat := o.after.toList.foldl (fun s e => if Region.binds .any e then s ||| 2 ^ e.on ||| acc.getD e.on 0 else s) 0
def befs : List Oper → List Nat → List Nat
  | [], acc => acc
  | o :: r, acc => befs r (acc ++ [maskOf acc o])

def edgesOk : Nat → List Oper → Bool
  | _, [] => true
  | j, o :: r => (o.after.toList.all fun e => !Region.binds .any e || Nat.blt e.on j) && edgesOk (j + 1) r

def pairsOk (bef : List Nat) (l : List AOper) : Bool :=
  (List.range l.length).all fun j => (List.range j).all fun i => (bef.getD j 0).testBit i || (match l[i]?, l[j]? with | some a, some b => free a b || (freeA a b || freeB a b) | _, _ => false)

def drawOk (ops : Array Oper) (l : List AOper) : Bool := edgesOk 0 ops.toList && pairsOk (befs ops.toList []) l

def cGuard (ops : Array Oper) (o : Oper) : Option (Option (Nat × Bool)) :=
  match o.guard with
  | none => some none
  | some (g, want) => (match ops[g]? with | some p => (match p.dst with | some d => some (some (d, want)) | none => none) | none => none)

def dstOk (np nt : Nat) (ks : List Nat) (o : Oper) (a : AOp) : Bool :=
  match o.dst with
  | some d => (Nat.blt d nt && !memb ks d) && (Nat.ble np d || !Nat.beq a.cls 3) && !Nat.beq a.cls 2
  | none => true

structure Info where
  P : Program
  T : TypeId
  sents : List Nat
  ann : Ann
  pre : List (Nat × List Nat × List Nat × List Nat)
  np : Nat
  nt : Nat
  keep : List Nat := []
  inner : Bool := false

def cOper (I : Info) (ops : Array Oper) (o : Oper) : Option AOper :=
  match cOp I.P I.T I.sents I.ann o, cGuard ops o with
  | some a, some g => bif dstOk I.np I.nt I.keep o a then some ⟨o.dst, a, g⟩ else none
  | _, _ => none

def cOpers (I : Info) (ops : Array Oper) : List Oper → Option (List AOper)
  | [] => some []
  | o :: r => match cOper I ops o, cOpers I ops r with | some a, some l => some (a :: l) | _, _ => none

def preOf : List (Nat × List Nat × List Nat × List Nat) → Nat → Option (List Nat × List Nat × List Nat)
  | [], _ => none
  | (j, x) :: r, i => bif Nat.beq j i then some x else preOf r i

/-- Loops in the text's order: what is kept at each head. -/
abbrev Heads := List (List Nat × List Nat)

def cCode (I : Info) : Code → Heads → Option (AC × Heads)
  | .skip, h => some (.skip, h)
  | .ret, h => some (.ret, h)
  | .exit id, h => some (.exit id, h)
  | .region id ops draw, h =>
    (match cOpers I ops ops.toList with
     | some l =>
       bif !draw || drawOk ops l then
         (match preOf I.pre id with
          | some (fr, ks, kr) => some (.pre fr ks kr (.reg l), h)
          | none => some (.reg l, h)) else none
     | none => none)
  | .seq a b, h =>
    (match cCode I a h with
     | some (x, h1) => (match cCode I b h1 with | some (y, h2) => some (.seq x y, h2) | none => none)
     | none => none)
  | .cond c a b, h =>
    (match cCode I a h with
     | some (x, h1) => (match cCode I b h1 with | some (y, h2) => some (.cond c x y, h2) | none => none)
     | none => none)
  | .block id a, h => (match cCode I a h with | some (x, h1) => some (.block id x, h1) | none => none)
  | .loop a, (ks, kr) :: h => (match cCode I a h with | some (x, h1) => some (.loop ks kr x, h1) | none => none)
  | .rangeFunc g ps asg body, (ks, kr) :: ([f], _) :: h =>
    (match ps.toList with
     | [p] =>
       bif !I.inner && (memb I.sents (1000000 + f) && (Nat.blt p I.nt && !memb ks p)) then
         (match cCode { I with keep := ks, inner := true } asg h with
          | some (x, h1) => (match cCode { I with keep := ks, inner := true } body h1 with | some (y, h2) => some (.rng f g p ks kr x y, h2) | none => none)
          | none => none) else none
     | _ => none)
  | _, _ => none

def cRes (P : Program) : List ResultVar → Option (List ARes)
  | [] => some []
  | .tmp t :: r => (match cRes P r with | some l => some (.t t :: l) | none => none)
  | .cell a t :: r => (match aggOfT P t, cRes P r with | some m, some l => some (.c a m :: l) | _, _ => none)

structure FnAnn where
  ann : Ann
  pre : List (Nat × List Nat × List Nat × List Nat)
  heads : Heads

def cFun (P : Program) (T : TypeId) (sents : List Nat) (x : FnAnn) (fn : Func) : Option AFun :=
  match fn.body with
  | some c =>
    let np := fn.params.size + fn.nfree
    bif fn.name == "runtime.NumGoroutine" then none else
    (match cCode ⟨P, T, sents, x.ann, x.pre, np, fn.ntmps, [], false⟩ c x.heads, cRes P fn.results.toList with
     | some (b, _), some res => bif Nat.ble np fn.ntmps && Nat.ble fn.ntmps 1000000 then some ⟨b, np, res⟩ else none
     | _, _ => none)
  | none => none

end Zab

namespace Zab
open Go
set_option linter.unusedSimpArgs false
set_option linter.unusedVariables false

section
variable {P : Program} {T : TypeId} {sents : List Nat} {ann : Ann} {o : Oper}

theorem load_inv {m : Option Nat} {x : Operand} (h : cOp P T sents ann o = some (.load m x)) : ∃ t, o.op = .load t x ∧ aggOfT P t = some m ∧ (∀ g, x = .global g → sentB sents g = true) := by
  unfold cOp cCall at h
  simp only [Bool.cond_eq_ite] at h
  split at h
  case h_19 t y ho =>
    split at h <;> first | (cases h; done) | skip
    rename_i m' hm
    cases y with
    | global g =>
      simp only at h
      split at h <;> first | (cases h; done) | skip
      split at h <;> cases h
    | _ =>
      simp only at h
      split at h <;> first | (cases h; done) | skip
      split at h <;> cases h
      exact ⟨t, ho, hm, fun g' e => by cases e⟩
  all_goals (exfalso; revert h; repeat' split)
  all_goals (intro h; cases h)

theorem ldR_inv {d : Nat} {m : Option Nat} {x : Operand} (h : cOp P T sents ann o = some (.ldR d m x)) : ∃ t, o.op = .load t x ∧ aggOfT P t = some m ∧ (∀ g, x ≠ .global g) := by
  unfold cOp cCall at h
  simp only [Bool.cond_eq_ite] at h
  split at h
  case h_19 t y ho =>
    split at h <;> first | (cases h; done) | skip
    rename_i m' hm
    cases y with
    | global g =>
      simp only at h
      split at h <;> first | (cases h; done) | skip
      split at h <;> cases h
    | _ =>
      simp only at h
      split at h <;> first | (cases h; done) | skip
      split at h <;> cases h
      exact ⟨t, ho, hm, fun g' e => by cases e⟩
  all_goals (exfalso; revert h; repeat' split)
  all_goals (intro h; cases h)

theorem ldg_inv {g : Nat} (h : cOp P T sents ann o = some (.ldg g)) : ∃ t, o.op = .load t (.global g) ∧ aggOfT P t = some none ∧ sentB sents g = true := by
  unfold cOp cCall at h
  simp only [Bool.cond_eq_ite] at h
  split at h
  case h_19 t y ho =>
    split at h <;> first | (cases h; done) | skip
    rename_i m' hm
    cases y with
    | global g =>
      simp only at h
      split at h <;> first | (cases h; done) | skip
      rename_i hg
      split at h <;> cases h
      exact ⟨t, ho, hm, hg⟩
    | _ =>
      simp only at h
      split at h <;> first | (cases h; done) | skip
      split at h <;> cases h
  all_goals (exfalso; revert h; repeat' split)
  all_goals (intro h; cases h)

theorem ldE_inv {m : Option Nat} {x : Operand} (h : cOp P T sents ann o = some (.ldE m x)) : ∃ t, o.op = .load t x ∧ aggOfT P t = some m ∧ (∀ g, x ≠ .global g) := by
  unfold cOp cCall at h
  simp only [Bool.cond_eq_ite] at h
  split at h
  case h_19 t y ho =>
    split at h <;> first | (cases h; done) | skip
    rename_i m' hm
    cases y with
    | global g =>
      simp only at h
      split at h <;> first | (cases h; done) | skip
      split at h <;> cases h
    | _ =>
      simp only at h
      split at h
      · cases h; exact ⟨t, ho, hm, fun g' e => by cases e⟩
      · split at h <;> cases h
  all_goals (exfalso; revert h; repeat' split)
  all_goals (intro h; cases h)

theorem call_inv {f : Operand} {xs : List Operand} (h : cOp P T sents ann o = some (.call f xs)) : ∃ c, o.op = .call c ∧ c.callee = .value f ∧ c.args.toList = xs := by
  unfold cOp cCall at h
  simp only [Bool.cond_eq_ite] at h
  split at h
  case h_25 c ho =>
    split at h
    · rename_i g hc
      split at h <;> cases h
      exact ⟨c, ho, hc, rfl⟩
    all_goals (exfalso; revert h; repeat' split)
    all_goals (intro h; cases h)
  all_goals (exfalso; revert h; repeat' split)
  all_goals (intro h; cases h)

theorem callK_inv {f : Operand} {xs : List Operand} {own : List (Nat × Nat)} (h : cOp P T sents ann o = some (.callK f xs own)) : ∃ c, o.op = .call c ∧ c.callee = .value f ∧ c.args.toList = xs := by
  unfold cOp cCall at h
  simp only [Bool.cond_eq_ite] at h
  split at h
  case h_25 c ho =>
    split at h
    · rename_i g hc
      split at h <;> cases h
      exact ⟨c, ho, hc, rfl⟩
    all_goals (exfalso; revert h; repeat' split)
    all_goals (intro h; cases h)
  all_goals (exfalso; revert h; repeat' split)
  all_goals (intro h; cases h)

theorem store_inv {sz : Nat} {x v : Operand} (h : cOp P T sents ann o = some (.store sz x v)) : ∃ t, o.op = .store t x v ∧ sizeOfT P t = some sz := by
  unfold cOp cCall at h
  simp only [Bool.cond_eq_ite] at h
  split at h
  case h_20 t y u ho =>
    split at h <;> first | (cases h; done) | skip
    rename_i hs
    cases h
    exact ⟨t, ho, hs⟩
  all_goals (exfalso; revert h; repeat' split)
  all_goals (intro h; cases h)

theorem box_inv {sz : Nat} {v : Operand} (h : cOp P T sents ann o = some (.box sz v)) : ∃ e k, o.op = .box e v ∧ sz = k + 1 := by
  unfold cOp cCall at h
  simp only [Bool.cond_eq_ite] at h
  split at h
  case h_21 e u ho =>
    split at h <;> first | (cases h; done) | skip
    split at h <;> first | (cases h; done) | skip
    split at h <;> first | (cases h; done) | skip
    cases h
    exact ⟨e, _, ho, rfl⟩
  all_goals (exfalso; revert h; repeat' split)
  all_goals (intro h; cases h)

theorem alloc_inv {zs : List AV} (h : cOp P T sents ann o = some (.alloc zs)) : ∃ e, o.op = .alloc e ∧ (zeroOfT P e).bind zeroCellsOf = some zs := by
  unfold cOp cCall at h
  simp only [Bool.cond_eq_ite] at h
  split at h
  case h_22 e ho =>
    split at h <;> first | (cases h; done) | skip
    rename_i hz
    split at h <;> first | (cases h; done) | skip
    cases h
    exact ⟨e, ho, hz⟩
  all_goals (exfalso; revert h; repeat' split)
  all_goals (intro h; cases h)

theorem nilR_inv {sz : Nat} {x : Operand} (h : cOp P T sents ann o = some (.nilR sz x)) : o.op = .assign x := by
  unfold cOp cCall at h
  simp only [Bool.cond_eq_ite] at h
  split at h
  case h_2 y ho =>
    split at h <;> first | (cases h; done) | skip
    split at h <;> cases h
    exact ho
  all_goals (exfalso; revert h; repeat' split)
  all_goals (intro h; cases h)

theorem mkR_inv {zs : List AV} {b : Nat} {l c : Operand} (h : cOp P T sents ann o = some (.mkR zs b l c)) : ∃ t e sz b', o.op = .makeSlice t l c ∧ isSliceT P t = some e ∧ sizeOfT P e = some (sz + 1) ∧ bytesOfT P e = some (b' + 1) ∧ (zeroOfT P e).bind zeroCellsOf = some zs ∧ zs.length = sz + 1 ∧ b = b' + 1 := by
  unfold cOp cCall at h
  simp only [Bool.cond_eq_ite] at h
  split at h
  case h_14 t l' c' ho =>
    split at h <;> first | (cases h; done) | skip
    rename_i e h1
    split at h <;> first | (cases h; done) | skip
    rename_i sz b' zs' h2 h3 h4
    split at h <;> first | (cases h; done) | skip
    rename_i h5
    split at h <;> cases h
    exact ⟨t, e, sz, b', ho, h1, h2, h3, h4, Nat.eq_of_beq_eq_true h5, rfl⟩
  all_goals (exfalso; revert h; repeat' split)
  all_goals (intro h; cases h)

theorem bslR_inv {n : Nat} {zs : List AV} {ps : List (Nat × Nat × Operand)} (h : cOp P T sents ann o = some (.bslR n zs ps)) : ∃ t e sz parts, o.op = .buildSlice t n parts ∧ isSliceT P t = some e ∧ sizeOfT P e = some (sz + 1) ∧ (zeroOfT P e).bind zeroCellsOf = some zs ∧ zs.length = sz + 1 ∧ n * (sz + 1) ≤ 16777216 ∧ ps = rowParts (sz + 1) parts.toList := by
  unfold cOp cCall at h
  simp only [Bool.cond_eq_ite] at h
  split at h
  case h_13 t n' parts ho =>
    split at h <;> first | (cases h; done) | skip
    rename_i e h1
    split at h <;> first | (cases h; done) | skip
    rename_i sz zs' h2 h3
    split at h <;> first | (cases h; done) | skip
    rename_i h5
    simp only [Bool.and_eq_true, Nat.beq_eq, Nat.ble_eq] at h5
    split at h <;> cases h
    exact ⟨t, e, sz, parts, ho, h1, h2, h3, h5.1, h5.2, rfl⟩
  all_goals (exfalso; revert h; repeat' split)
  all_goals (intro h; cases h)

theorem app_inv {sz b : Nat} {x y : Operand} (h : cOp P T sents ann o = some (.app sz b x y)) : ∃ c t u e e' k b' v, o.op = .call c ∧ c.callee = .builtin .append ∧ c.args.toList = [x, y] ∧ c.argTypes.toList = [t, u] ∧ isSliceT P t = some e ∧ isSliceT P u = some e' ∧
    sizeOfT P e = some (k + 1) ∧ bytesOfT P e = some (b' + 1) ∧ zeroOfT P e = some v ∧ v.cells.size = k + 1 ∧ sz = k + 1 ∧ b = b' + 1 := by
  unfold cOp cCall at h
  simp only [Bool.cond_eq_ite] at h
  split at h
  case h_25 c ho =>
    split at h
    case h_6 hc =>
      split at h <;> first | (cases h; done) | skip
      rename_i x' y' t u h1 h2
      split at h
      case h_2 => (exfalso; revert h; repeat' split) <;> (intro h; cases h)
      case h_3 => cases h
      rename_i e e' h3 h4
      split at h <;> first | (cases h; done) | skip
      rename_i k b' v h5 h6 h7
      split at h <;> first | (cases h; done) | skip
      rename_i h8
      cases h
      exact ⟨c, t, u, e, e', k, b', v, ho, hc, h1, h2, h3, h4, h5, h6, h7, Nat.eq_of_beq_eq_true h8, rfl, rfl⟩
    all_goals (exfalso; revert h; repeat' split)
    all_goals (intro h; cases h)
  all_goals (exfalso; revert h; repeat' split)
  all_goals (intro h; cases h)

theorem appN_inv {zs : List AV} {b : Nat} {x y : Operand} (h : cOp P T sents ann o = some (.appN zs b x y)) : ∃ c t u e k sz b', o.op = .call c ∧ c.callee = .builtin .append ∧ c.args.toList = [x, y] ∧ c.argTypes.toList = [t, u] ∧ isSliceT P t = some e ∧ P.underlying u = some (.int k) ∧
    sizeOfT P e = some (sz + 1) ∧ bytesOfT P e = some (b' + 1) ∧ (zeroOfT P e).bind zeroCellsOf = some zs ∧ zs.length = sz + 1 ∧ b = b' + 1 := by
  unfold cOp cCall at h
  simp only [Bool.cond_eq_ite] at h
  split at h
  case h_25 c ho =>
    split at h
    case h_6 hc =>
      split at h <;> first | (cases h; done) | skip
      rename_i x' y' t u h1 h2
      split at h
      case h_1 => (exfalso; revert h; repeat' split) <;> (intro h; cases h)
      case h_3 => cases h
      rename_i e h3 h4
      split at h <;> first | (cases h; done) | skip
      rename_i k sz b' zs' h5 h6 h7 h8
      split at h <;> first | (cases h; done) | skip
      rename_i h9
      cases h
      exact ⟨c, t, u, e, _, _, _, ho, hc, h1, h2, h3, h5, h6, h7, h8, Nat.eq_of_beq_eq_true h9, rfl⟩
    all_goals (exfalso; revert h; repeat' split)
    all_goals (intro h; cases h)
  all_goals (exfalso; revert h; repeat' split)
  all_goals (intro h; cases h)

theorem boxQ_inv {sz : Nat} {v : Operand} {nils : List (Nat × Nat)} (h : cOp P T sents ann o = some (.boxQ sz v nils)) : ∃ e k, o.op = .box e v ∧ sz = k + 1 := by
  unfold cOp cCall at h
  simp only [Bool.cond_eq_ite] at h
  split at h
  case h_21 e u ho =>
    split at h <;> first | (cases h; done) | skip
    split at h <;> first | (cases h; done) | skip
    split at h <;> first | (cases h; done) | skip
    cases h
    exact ⟨e, _, ho, rfl⟩
  all_goals (exfalso; revert h; repeat' split)
  all_goals (intro h; cases h)

theorem boxE_inv {sz : Nat} {v : Operand} (h : cOp P T sents ann o = some (.boxE sz v)) : ∃ e k, o.op = .box e v ∧ sz = k + 1 := by
  unfold cOp cCall at h
  simp only [Bool.cond_eq_ite] at h
  split at h
  case h_21 e u ho =>
    split at h <;> first | (cases h; done) | skip
    split at h
    · cases h; exact ⟨e, _, ho, rfl⟩
    · split at h <;> cases h
  all_goals (exfalso; revert h; repeat' split)
  all_goals (intro h; cases h)

theorem allocQ_inv {zs : List AV} {nils : List (Nat × Nat)} (h : cOp P T sents ann o = some (.allocQ zs nils)) : ∃ e, o.op = .alloc e ∧ (zeroOfT P e).bind zeroCellsOf = some zs ∧ 0 < zs.length := by
  unfold cOp cCall at h
  simp only [Bool.cond_eq_ite] at h
  split at h
  case h_22 e ho =>
    split at h <;> first | (cases h; done) | skip
    rename_i hz
    split at h <;> first | (cases h; done) | skip
    cases h
    exact ⟨e, ho, hz, by simp⟩
  all_goals (exfalso; revert h; repeat' split)
  all_goals (intro h; cases h)

end
end Zab

namespace Zab
open Go
set_option linter.unusedSimpArgs false
set_option linter.unusedVariables false

/-- The code that parts bytes: as the library's text stands. -/
structure ChunkFn (P : Program) (T : TypeId) (f : Nat) : Prop where
  ex : ∃ (fn : Func) (i0 i1 i2 i3 i4 : Nat) (r0 r1 r2 r3 r4 : Array Oper) (b0 b1 b2 b3 : Bool),
    P.funcs[f]? = some fn ∧ (fn.name == "runtime.NumGoroutine") = false ∧ fn.params.size + fn.nfree = 3 ∧ fn.ntmps = 31 ∧ fn.results = #[] ∧
    fn.body = some (.seq (.region i0 r0 b0) (.block 0 (.loop (.seq (.seq (.seq (.region i1 r1 b1) (.cond (.tmp 9) .skip (.exit 0))) (.block 1 (.seq (.region i3 r3 b3) (.seq (.region i4 r4 false) (.cond (.tmp 30) .ret .skip))))) (.region i2 r2 b2))))) ∧
    (let I : Info := ⟨P, T, [], [], [], 3, 31, [0, 1, 2], true⟩
     let a0 : List AOper := [⟨some 4, .move (.const (.int .i64 0)), none⟩]
     let a1 : List AOper := [⟨some 6, .move (.tmp 4), none⟩, ⟨some 7, .load none (.tmp 1), none⟩, ⟨some 8, .len false (.tmp 7), none⟩, ⟨some 9, .bin .no .lss (.tmp 6) (.tmp 8), none⟩]
     let a2 : List AOper := [⟨some 10, .move (.tmp 4), none⟩, ⟨some 11, .load none (.tmp 2), none⟩, ⟨some 12, .bin .no .add (.tmp 10) (.tmp 11), none⟩, ⟨some 4, .move (.tmp 12), none⟩]
     let a3 : List AOper := [⟨some 13, .load none (.tmp 2), none⟩, ⟨some 14, .load none (.tmp 1), none⟩, ⟨some 15, .move (.tmp 4), none⟩, ⟨some 16, .slc 1 (.tmp 14) (some (.tmp 15)) none none, none⟩, ⟨some 17, .len false (.tmp 16), none⟩, ⟨some 18, .mn [.tmp 13, .tmp 17], none⟩, ⟨some 5, .move (.tmp 18), none⟩]
     let a4 : List AOper := [⟨some 19, .move (.tmp 0), none⟩, ⟨some 20, .load none (.tmp 1), none⟩, ⟨some 21, .move (.tmp 4), none⟩, ⟨some 22, .move (.tmp 4), none⟩, ⟨some 23, .move (.tmp 5), none⟩, ⟨some 24, .bin .no .add (.tmp 22) (.tmp 23), none⟩, ⟨some 25, .move (.tmp 4), none⟩, ⟨some 26, .move (.tmp 5), none⟩, ⟨some 27, .bin .no .add (.tmp 25) (.tmp 26), none⟩, ⟨some 28, .slc 1 (.tmp 20) (some (.tmp 21)) (some (.tmp 24)) (some (.tmp 27)), none⟩, ⟨some 29, .call (.tmp 19) [.tmp 28], none⟩, ⟨some 30, .un .not (.tmp 29), none⟩]
     cOpers I r0 r0.toList = some a0 ∧ cOpers I r1 r1.toList = some a1 ∧ cOpers I r2 r2.toList = some a2 ∧ cOpers I r3 r3.toList = some a3 ∧ cOpers I r4 r4.toList = some a4 ∧
     (!b0 || drawOk r0 a0) = true ∧ (!b1 || drawOk r1 a1) = true ∧ (!b2 || drawOk r2 a2) = true ∧ (!b3 || drawOk r3 a3) = true)

/-- The errors' type is a pointer's. -/
structure EnvOk (E : Env) (sents : List Nat) : Prop where
  sent : ∀ g, sentB sents g = true → (E.sent g).isSome = true
  ptr : (∃ g b, E.sent g = some b) → ∃ el i, E.P.underlying E.T = some (.pointer el) ∧ E.P.info? el = some i ∧ i.size ≠ 0
  cmp : (∃ g b, E.sent g = some b) → ∃ i, E.P.info? E.T = some i ∧ i.comparable = true
  mixed : E.P.follows .mixedOrders = true
  chunk : ∀ f, memb sents (1000000 + f) = true → ChunkFn E.P E.T f

section
variable {E : Env} {np : Nat} {w : World} {N : Nat → Prop} {A K : Nat → Nat}

theorem frep_const {v : Value} (h : flatConst v = true) : FRep E w N (constAV v) v := by
  unfold flatConst at h
  split at h <;> first | cases h | skip
  · exact .i _ _
  · exact .b _
  · exact .s _
  · exact .nl
  · exact .np
  · exact .nf
  · exact .z

theorem vrep_const (v : Value) (hv : ∀ cs, v ≠ .agg cs) : VRep E np w N A K (constAV v) v := by
  by_cases h : flatConst v = true
  · exact .one (.flat (frep_const h))
  · have : constAV v = .gone := by
      unfold flatConst at h
      unfold constAV
      split at h <;> first | (exact absurd rfl h) | rfl
    rw [this]; exact .one (.gone v)

theorem FRep.list_map {l : List Value} (h : l.all flatConst = true) : ∀ j (h1 : j < (l.map constAV).length) (h2 : j < l.length), FRep E w N (l.map constAV)[j] l[j] := by
  intro j h1 h2
  simp only [List.getElem_map]
  exact frep_const (List.all_eq_true.1 h _ (List.getElem_mem h2))

theorem vrep_int {k : IntKind} {n : Int} {v : Value} (h : VRep E np w N A K (.i k n) v) : v = .int k n := by
  cases h with | one h => cases h with | flat h => cases h; rfl
theorem vrep_bool {x : Bool} {v : Value} (h : VRep E np w N A K (.b x) v) : v = .bool x := by
  cases h with | one h => cases h with | flat h => cases h; rfl
theorem vrep_str {x : ByteArray} {v : Value} (h : VRep E np w N A K (.s x) v) : v = .string x := by
  cases h with | one h => cases h with | flat h => cases h; rfl
theorem vrep_nl {v : Value} (h : VRep E np w N A K .nl v) : v = .nilIface := by
  cases h with | one h => cases h with | flat h => cases h; rfl
theorem vrep_np {v : Value} (h : VRep E np w N A K .np v) : v = .pointer none := by
  cases h with | one h => cases h with | flat h => cases h; rfl
theorem vrep_er {g : Nat} {v : Value} (h : VRep E np w N A K (.er g) v) : ∃ b, E.sent g = some b ∧ v = E.errV b := by
  cases h with | one h => cases h with | flat h => cases h with | er g b h => exact ⟨b, h, rfl⟩
theorem vrep_z {v : Value} (h : VRep E np w N A K .z v) : v = .slice none 0 0 := by
  cases h with | one h => cases h with | flat h => cases h; rfl
theorem vrep_ie {t : Nat} {cs : List AV} {v : Value} (h : VRep E np w N A K (.ie t cs) v) : ∃ (blk off : Nat) (f : Nat → Value), v = .iface t (.pointer (some ⟨blk, off, none⟩)) ∧ N blk ∧
    (∀ j, j < cs.length → w.cell? ⟨blk, off + j, none⟩ = some (f j)) ∧ ∀ j (hj : j < cs.length), FRep E w N (cs[j]) (f j) := by
  cases h with | one h => cases h with | flat h => cases h with | ie _ _ blk off f hN h0 h1 => exact ⟨blk, off, f, rfl, hN, h0, h1⟩
theorem vrep_aq {cs : List AV} {v : Value} (h : VRep E np w N A K (.aq cs) v) : ∃ l : List Value, v = .agg l.toArray ∧ cs.length = l.length ∧ (∀ v ∈ l, v.oneCell' = true) ∧ ∀ j (h1 : j < cs.length) (h2 : j < l.length), V1 E np w N A K cs[j] l[j] := by
  cases h with
  | one h => cases h with | flat h => cases h
  | aq _ l hl ho h => exact ⟨l, rfl, hl, ho, h⟩
theorem vrep_rf {d o : Nat} {v : Value} (h : VRep E np w N A K (.rf d o) v) : v = .pointer (some ⟨A d, o, none⟩) := by
  cases h with | one h => cases h with
    | flat h => cases h
    | rf => rfl
theorem vrep_gl {g : Nat} {v : Value} (h : VRep E np w N A K (.gl g) v) : v = .pointer (some ⟨g, 0, none⟩) := by
  cases h with | one h => cases h with
    | flat h => cases h
    | gl => rfl
theorem vrep_rs {d o n sz : Nat} {v : Value} (h : VRep E np w N A K (.rs d o n sz) v) : ∃ base c, v = .slice base n c ∧ rootB np d = false ∧ n ≤ c ∧ o + c * sz ≤ K d ∧ (0 < K d → base = some ⟨A d, o, none⟩) := by
  cases h with | one h => cases h with
    | flat h => cases h
    | rs _ _ _ _ base c hd hn hk hb => exact ⟨base, c, rfl, hd, hn, hk, hb⟩
theorem vrep_sl {cs : List AV} {n : Nat} {v : Value} (h : VRep E np w N A K (.sl cs n) v) : ∃ (base : Option Addr) (c : Nat) (f : Nat → Value), v = .slice base n c ∧ n ≤ c ∧
    (cs = [] ∨ ∃ blk off, base = some ⟨blk, off, none⟩ ∧ N blk ∧ ∀ j, j < cs.length → w.cell? ⟨blk, off + j, none⟩ = some (f j)) ∧ ∀ j (hj : j < cs.length), FRep E w N (cs[j]) (f j) := by
  cases h with | one h => cases h with
    | flat h => cases h with | sl _ _ base c f hn h0 h1 => exact ⟨base, c, f, rfl, hn, h0, h1⟩
theorem vrep_el {cs : List AV} {o : Nat} {v : Value} (h : VRep E np w N A K (.el cs o) v) : ∃ (blk off : Nat) (f : Nat → Value), v = .pointer (some ⟨blk, off + o, none⟩) ∧ N blk ∧
    (∀ j, j < cs.length → w.cell? ⟨blk, off + j, none⟩ = some (f j)) ∧ ∀ j (hj : j < cs.length), FRep E w N (cs[j]) (f j) := by
  cases h with | one h => cases h with
    | flat h => cases h
    | el _ _ blk off f hN hc h1 => exact ⟨blk, off, f, rfl, hN, hc, h1⟩
theorem vrep_ag {cs : List AV} {v : Value} (h : VRep E np w N A K (.ag cs) v) : ∃ l : List Value, v = .agg l.toArray ∧ cs.length = l.length ∧ ∀ j (h1 : j < cs.length) (h2 : j < l.length), FRep E w N cs[j] l[j] := by
  cases h with | one h => cases h with
    | flat h => cases h
    | ag _ l hl h => exact ⟨l, rfl, hl, h⟩
theorem vrep_tp {l : List AV} {v : Value} (h : VRep E np w N A K (.tp l) v) : ∃ vs : List Value, v = .tuple vs.toArray ∧ l.length = vs.length ∧ ∀ j (h1 : j < l.length) (h2 : j < vs.length), V1 E np w N A K l[j] vs[j] := by
  cases h with
  | one h => cases h with | flat h => cases h
  | tp _ vs hl h => exact ⟨vs, rfl, hl, h⟩
theorem vrep_fn {f : Nat} {l : List AV} {v : Value} (h : VRep E np w N A K (.fn f l) v) : ∃ vs : List Value, v = .func (.func f) #[] vs.toArray ∧ l.length = vs.length ∧ ∀ j (h1 : j < l.length) (h2 : j < vs.length), V1 E np w N A K l[j] vs[j] := by
  cases h with
  | one h => cases h with
    | flat h => cases h
    | fn f => exact ⟨[], rfl, rfl, fun j h1 => by simp at h1⟩
  | fn _ _ vs hl h => exact ⟨vs, rfl, hl, h⟩
theorem vrep_flat {x : AV} {v : Value} (h : VRep E np w N A K x v) (hx : x.flat = true) : FRep E w N x v := by
  cases h with
  | one h => cases h <;> first | assumption | (simp [AV.flat] at hx)
  | tp => simp [AV.flat] at hx
  | fn => simp [AV.flat] at hx
  | aq => simp [AV.flat] at hx
theorem V1.ofFlat {x : AV} {v : Value} (h : FRep E w N x v) : VRep E np w N A K x v := .one (.flat h)
end

theorem Rel.eval {C : Ctx} {A K : Nat → Nat} {S : St} {a : Act} {w : World} (R : Rel C A K S a w) (x : Operand) : VRep C.E C.np w (Still C A K S.l w) A K (evalO S.s x) (a.eval x) := by
  cases x with
  | tmp t => exact R.slot t
  | const v =>
    cases v
    case agg cs =>
      simp only [evalO, Act.eval]
      cases h : cs.toList.all flatConst
      · exact .one (.gone _)
      · have := V1.ag (E := C.E) (np := C.np) (w := w) (N := Still C A K S.l w) (A := A) (K := K) (cs.toList.map constAV) cs.toList (by simp) (FRep.list_map h)
        simpa using VRep.one this
    all_goals (simp only [evalO, Act.eval]; refine vrep_const _ ?_; intro cs h; cases h)
  | global g => exact .one (.gl g)
  | func f => exact .one (.fn f)

section
variable {C : Ctx} {A K : Nat → Nat} {S : St} {a : Act} {w : World}

theorem shift_sound {P : Program} {op : BinOp} {k yk : IntKind} {x y : Int} {r : AV} (h : shiftV op k x y = some r) : ∃ v, (Op.shift op k x yk y).run P w = .ok v w ∧ ∀ (E : Env) (N : Nat → Prop), FRep E w N r v := by
  unfold shiftV at h
  by_cases hy : y < 0
  · simp [hy] at h
  · simp only [hy, decide_false, cond_false] at h
    unfold Op.shift
    rw [if_neg hy]
    cases op <;> first
      | (simp only [Option.some.injEq] at h; subst h; exact ⟨_, rfl, fun _ _ => .i _ _⟩)
      | cases h

theorem bit_sound {P : Program} {op : BinOp} {k : IntKind} {x y : Int} {r : AV} (h : bitV op k x y = some r) : ∃ v, (Op.intBits op k x y).run P w = .ok v w ∧ ∀ (E : Env) (N : Nat → Prop), FRep E w N r v := by
  unfold bitV at h
  unfold Op.intBits
  cases op <;> first
    | (simp only [Option.some.injEq] at h; subst h; exact ⟨_, rfl, fun _ _ => .i _ _⟩)
    | cases h

theorem int_sound {P : Program} {t : TypeId} {op : BinOp} {k : IntKind} {x y : Int} {r : AV} (h1 : op ≠ .shl) (h2 : op ≠ .shr) (h : intV op k x y = some r) :
    ∃ v, (Go.binOp op t (.int k x) (.int k y)).run P w = .ok v w ∧ ∀ (E : Env) (N : Nat → Prop), FRep E w N r v := by
  cases op <;> first | exact absurd rfl h1 | exact absurd rfl h2 | skip
  all_goals simp only [intV] at h
  all_goals simp only [Go.binOp, ne_eq, not_true_eq_false, if_false, ↓reduceIte]
  case quo =>
    by_cases hy : y = 0
    · simp [hy] at h
    · simp only [hy, decide_false, cond_false, Option.some.injEq] at h
      subst h; simp only [Op.intDiv, hy, if_false]; exact ⟨_, rfl, fun _ _ => .i _ _⟩
  case rem =>
    by_cases hy : y = 0
    · simp [hy] at h
    · simp only [hy, decide_false, cond_false, Option.some.injEq] at h
      subst h; simp only [Op.intDiv, hy, if_false]; exact ⟨_, rfl, fun _ _ => .i _ _⟩
  case and => exact bit_sound h
  case or => exact bit_sound h
  case xor => exact bit_sound h
  case andNot => exact bit_sound h
  case eql =>
    simp only [Option.some.injEq] at h; subst h
    exact ⟨_, rfl, fun _ _ => by have : (x == y) = decide (x = y) := rfl; rw [this]; exact .b _⟩
  case neq =>
    simp only [Option.some.injEq] at h; subst h
    exact ⟨_, rfl, fun _ _ => by have : (x != y) = !decide (x = y) := rfl; rw [this]; exact .b _⟩
  all_goals (simp only [Option.some.injEq] at h; subst h; exact ⟨_, rfl, fun _ _ => by constructor⟩)

end
end Zab

