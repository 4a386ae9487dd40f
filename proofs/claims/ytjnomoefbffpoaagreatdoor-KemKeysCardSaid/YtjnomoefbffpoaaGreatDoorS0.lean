/- Parts of the proof, in order. -/
import Derived.Deep.MidRow
import Derived.Deep.AppendSrc
import Derived.Orders
import Derived.Below
import Derived.WalkKit
import Derived.LaidEqlPtr
namespace Zab
open Go
inductive AV where
  | i (k : IntKind) (n : Int)
  | b (x : Bool)
  | s (x : ByteArray)
  | nl | np | nf | un | gone
  | er (g : Nat)                              -- a sentinel error: what a package's variable holds
  | ie (t : Nat) (cells : List AV)            -- an interface of type t that holds a pointer to cells that nobody writes any more
  | sl (cells : List AV) (n : Nat)            -- a slice by value: cells that nobody writes any more, n elements
  | z                                         -- a slice without elements and without room
  | os (cells : List AV) (n sz : Nat)         -- at a call's end alone: a slice of its own, handed over
  | op (cells : List AV)                      -- at a call's begin and end alone: a variable of its own, lent or handed over
  | oq (cells : List AV)                      -- the same; among its cells may be .os and .op
  | ag (cells : List AV)                      -- a struct or an array by value
  | aq (cells : List AV)                      -- a struct by value, names among its parts (at a call's begin and end: .os and .op)
  | tp (l : List AV)
  | rf (d off : Nat)                          -- an address in the row that slot d made
  | rs (d off n sz : Nat)                     -- a slice of the row that slot d made
  | el (cells : List AV) (j : Nat)            -- an address among cells that nobody writes any more
  | gl (g : Nat)                              -- a package's variable
  | fn (f : Nat) (caps : List AV)
  deriving Inhabited
def AV.flat : AV → Bool
  | .i _ _ | .b _ | .s _ | .nl | .np | .nf | .er _ | .ie _ _ | .sl _ _ | .z => true
  | _ => false
def AV.cellQ : AV → Bool
  | .rf _ _ | .rs _ _ _ _ | .gone => true
  | x => x.flat
def AV.cellN : AV → Bool
  | .rf _ _ | .rs _ _ _ _ => true
  | x => x.flat
def AV.cells : AV → List AV
  | .ag cs => cs
  | v => [v]
def plain : AV → Bool
  | .tp _ => false
  | .aq _ => false
  | .fn _ (_ :: _) => false
  | _ => true
def allPlain : List AV → Bool
  | [] => true
  | x :: r => plain x && allPlain r
structure St where
  s : List (Nat × AV)
  l : List (Nat × List AV)
def get : List (Nat × AV) → Nat → AV
  | [], _ => .gone
  | (j, v) :: r, i => bif Nat.beq j i then v else get r i
def look : List (Nat × List AV) → Nat → Option (List AV)
  | [], _ => none
  | (j, v) :: r, i => bif Nat.beq j i then some v else look r i
def put {α : Type} : List (Nat × α) → Nat → α → List (Nat × α)
  | [], i, v => [(i, v)]
  | (j, u) :: r, i, v => bif Nat.blt j i then (i, v) :: (j, u) :: r else bif Nat.beq i j then (i, v) :: r else (j, u) :: put r i v
def del {α : Type} : List (Nat × α) → Nat → List (Nat × α)
  | [], _ => []
  | (j, u) :: r, i => bif Nat.beq j i then del r i else (j, u) :: del r i
def memb : List Nat → Nat → Bool
  | [], _ => false
  | j :: r, i => Nat.beq j i || memb r i
def keepS : List Nat → List (Nat × AV) → List (Nat × AV)
  | [], _ => []
  | k :: r, s => (k, get s k) :: keepS r s
def keepL : List Nat → List (Nat × List AV) → List (Nat × List AV)
  | [], _ => []
  | k :: r, l => match look l k with | some cs => (k, cs) :: keepL r l | none => keepL r l
def isRef (d : Nat) : Bool := Nat.ble 1000000000000 d
def child (d o : Nat) : Nat := 1000000000 * (o + 1) + d % 1000000000000
def partId (j k : Nat) : Nat := 1000000 * (k + 1) + j
def rootB (np d : Nat) : Bool := Nat.blt (d % 1000000000000) np || (Nat.ble 1000000 (d % 1000000000000) && Nat.blt (d % 1000000000000) 1000000000)
def chB (j : Nat) : Bool := Nat.ble 1000000000 j && Nat.blt j 1000000000000
def allCh : List Nat → Bool
  | [] => true
  | j :: r => chB j && allCh r
def AV.mapR (f : AV → AV) : AV → AV
  | .tp l => .tp (l.map f)
  | .aq l => .aq (l.map f)
  | .fn g caps => .fn g (caps.map f)
  | x => f x
def kill1 (d : Nat) : AV → AV
  | .rf e o => bif Nat.beq e d then .gone else .rf e o
  | .rs e o n sz => bif Nat.beq e d then .gone else .rs e o n sz
  | .tp _ => .gone
  | .aq _ => .gone
  | .fn _ (_ :: _) => .gone
  | x => x
def frz1 (d : Nat) (cs : List AV) : AV → AV
  | .rf e o => bif Nat.beq e d then .gone else .rf e o
  | .rs e o n sz => bif Nat.beq e d then .sl ((cs.drop o).take (n * sz)) n else .rs e o n sz
  | .tp _ => .gone
  | .aq _ => .gone
  | .fn _ (_ :: _) => .gone
  | x => x
def frz2 (d : Nat) (cs : List AV) : AV → AV
  | .rf e o => bif Nat.beq e d then (bif cs.isEmpty then .gone else .el cs o) else .rf e o
  | x => frz1 d cs x
def mapS (f : AV → AV) : List (Nat × AV) → List (Nat × AV)
  | [] => []
  | (j, u) :: r => (j, u.mapR f) :: mapS f r
def mapQ (f : AV → AV) : List (Nat × List AV) → List (Nat × List AV)
  | [] => []
  | (j, cs) :: r => (j, bif isRef j then cs.map f else cs) :: mapQ f r
def St.kill (S : St) (d : Nat) : St := { s := mapS (kill1 d) S.s, l := mapQ (kill1 d) (del S.l d) }
def St.kills (S : St) : List Nat → St
  | [] => S
  | d :: r => (S.kill d).kills r
def St.rootAt (S : St) (t d : Nat) (cs : List AV) (v : AV) : St :=
  { s := put (mapS (kill1 d) S.s) t v, l := put (mapQ (kill1 d) (del S.l d)) d cs }
def St.root (S : St) (d : Nat) (cs : List AV) (v : AV) : St :=
  { s := put (mapS (kill1 d) S.s) d v, l := put (mapQ (kill1 d) (del S.l d)) d cs }
def St.freeze (S : St) (d : Nat) : Option St :=
  bif isRef d then none else
  match look S.l d with
  | some cs => some { s := mapS (frz2 d cs) S.s, l := mapQ (frz1 d cs) (del S.l d) }
  | none => some S
def constAV : Value → AV
  | .int k n => .i k n
  | .bool x => .b x
  | .string x => .s x
  | .nilIface => .nl
  | .pointer none => .np
  | .nilFunc => .nf
  | .slice none 0 0 => .z
  | _ => .gone
def flatConst : Value → Bool
  | .int _ _ | .bool _ | .string _ | .nilIface | .pointer none | .nilFunc | .slice none 0 0 => true
  | _ => false
def evalO (s : List (Nat × AV)) : Operand → AV
  | .tmp t => get s t
  | .const (.agg cs) => bif cs.toList.all flatConst then .ag (cs.toList.map constAV) else .gone
  | .const v => constAV v
  | .global g => .gl g
  | .func f => .fn f []
def evalL (ρ : Operand → AV) : List Operand → List AV
  | [] => []
  | x :: r => ρ x :: evalL ρ r
def shiftV (op : BinOp) (k : IntKind) (a c : Int) : Option AV :=
  bif decide (c < 0) then none else
  match op with
  | .shl => some (.i k (k.wrap (a * 2 ^ (min c.toNat k.bits))))
  | .shr => some (.i k (a.fdiv (2 ^ (min c.toNat k.bits))))
  | _ => none
def bitV (op : BinOp) (k : IntKind) (a c : Int) : Option AV :=
  match op with
  | .and => some (.i k (k.wrap (BitVec.ofInt k.bits a &&& BitVec.ofInt k.bits c).toNat))
  | .or => some (.i k (k.wrap (BitVec.ofInt k.bits a ||| BitVec.ofInt k.bits c).toNat))
  | .xor => some (.i k (k.wrap (BitVec.ofInt k.bits a ^^^ BitVec.ofInt k.bits c).toNat))
  | .andNot => some (.i k (k.wrap (BitVec.ofInt k.bits a &&& ~~~ BitVec.ofInt k.bits c).toNat))
  | _ => none
def intV (op : BinOp) (k : IntKind) (a c : Int) : Option AV :=
  match op with
  | .add => some (.i k (k.wrap (a + c)))
  | .sub => some (.i k (k.wrap (a - c)))
  | .mul => some (.i k (k.wrap (a * c)))
  | .quo => bif decide (c = 0) then none else some (.i k (k.wrap (a.tdiv c)))
  | .rem => bif decide (c = 0) then none else some (.i k (a.tmod c))
  | .eql => some (.b (decide (a = c)))
  | .neq => some (.b (!decide (a = c)))
  | .lss => some (.b (decide (a < c)))
  | .leq => some (.b (decide (a ≤ c)))
  | .gtr => some (.b (decide (c < a)))
  | .geq => some (.b (decide (c ≤ a)))
  | op => bitV op k a c
def sameInts : List AV → List AV → Option Bool
  | [], [] => some true
  | .i k a :: r, .i k' c :: r' => bif decide (k = k') then (match sameInts r r' with | some t => some (decide (a = c) && t) | none => none) else none
  | _, _ => none
inductive EqKind where
  | no | bool | iface | ifaceC | ptr | str | ints (n : Nat) | slc
  deriving DecidableEq
def isNil : AV → Option Bool
  | .np => some true
  | .rf _ _ | .el _ _ | .gl _ => some false
  | _ => none
def eqlV : EqKind → AV → AV → Option Bool
  | .bool, .b x, .b y => some (x == y)
  | .iface, .er g, .er h | .ifaceC, .er g, .er h => some (Nat.beq g h)
  | .iface, .er _, .nl | .ifaceC, .er _, .nl => some false
  | .iface, .nl, .er _ | .ifaceC, .nl, .er _ => some false
  | .iface, .ie _ _, .nl | .ifaceC, .ie _ _, .nl => some false
  | .ifaceC, .nl, .nl => some true
  | .ptr, x, .np => isNil x
  | .ptr, .np, x => isNil x
  | .slc, .sl (_ :: _) _, _ => some false
  | .slc, .z, _ => some true
  | .ints n, .ag xs, .ag ys => bif Nat.beq xs.length n && Nat.beq ys.length n then sameInts xs ys else none
  | _, _, _ => none
def binV (ek : EqKind) (op : BinOp) (x y : AV) : Option AV :=
  match x, y with
  | .i k a, .i k' c =>
    match op with
    | .shl => shiftV .shl k a c
    | .shr => shiftV .shr k a c
    | op => bif decide (k = k') then intV op k a c else none
  | x, y =>
    match op with
    | .eql => match eqlV ek x y with | some t => some (.b t) | none => none
    | .neq => match eqlV ek x y with | some t => some (.b (!t)) | none => none
    | _ => none
def unV (op : UnOp) (x : AV) : Option AV :=
  match op, x with
  | .neg, .i k n => some (.i k (k.wrap (0 - n)))
  | .xor, .i k n => bitV .xor k (if k.signed then -1 else k.max) n
  | .not, .b t => some (.b (!t))
  | _, _ => none
inductive AOp where
  | move (x : Operand)
  | pick (c a b : Operand)
  | bin (ek : EqKind) (op : BinOp) (x y : Operand)
  | un (op : UnOp) (x : Operand)
  | conv (k : IntKind) (x : Operand)
  | addr (off : Nat) (x : Operand)
  | ixA (len sz : Nat) (x i : Operand)
  | ixS (sz : Nat) (x i : Operand)
  | fld (off : Nat) (m : Option Nat) (x : Operand)
  | ixV (len sz : Nat) (m : Option Nat) (x i : Operand)
  | ixStr (x i : Operand)
  | ext (j : Nat) (x : Operand)
  | build (zero : List AV) (parts : List (Nat × Nat × Operand))
  | buildQ (zero : List AV) (parts : List (Nat × Nat × Operand))
  | bsl (len : Nat) (zero : List AV) (parts : List (Nat × Nat × Operand))
  | mkS (zero : List AV) (bytes : Nat) (len cap : Operand)
  | mkfn (f : Nat) (caps : List Operand)
  | len (str : Bool) (x : Operand)
  | cap (x : Operand)
  | mn (l : List Operand)
  | mx (l : List Operand)
  | nilChk (x : Operand)
  | tas (t : Nat) (zero : AV) (x : Operand)
  | mki (t : Nat) (x : Operand)
  | boxE (sz : Nat) (v : Operand)
  | slc (sz : Nat) (x : Operand) (lo hi mx : Option Operand)
  | load (m : Option Nat) (x : Operand)
  | call (f : Operand) (args : List Operand)
  | store (sz : Nat) (x v : Operand)
  | box (sz : Nat) (v : Operand)
  | alloc (zero : List AV)
  | boxQ (sz : Nat) (v : Operand) (nils : List (Nat × Nat))
  | allocQ (zero : List AV) (nils : List (Nat × Nat))
  | mkR (zero : List AV) (bytes : Nat) (len cap : Operand)
  | bslR (len : Nat) (zero : List AV) (parts : List (Nat × Nat × Operand))
  | nilR (sz : Nat) (x : Operand)
  | app (sz bytes : Nat) (x y : Operand)
  | appN (zero : List AV) (bytes : Nat) (x n : Operand)
  | stop
  | callK (f : Operand) (args : List Operand) (own : List (Nat × Nat))
  | ldg (g : Nat)
  | ldE (m : Option Nat) (x : Operand)
def AOp.cls : AOp → Nat
  | .load .. | .call .. => 1
  | .store .. => 2
  | .box .. | .alloc .. | .boxQ .. | .allocQ .. | .mkR .. | .bslR .. | .nilR .. | .app .. | .appN .. | .callK .. => 3
  | _ => 0
structure AOper where
  dst : Option Nat
  op : AOp
  guard : Option (Nat × Bool)
def zrep (zero : List AV) (n : Nat) : List AV := (List.replicate n zero).flatten
def over (cs : List AV) (off : Nat) (vs : List AV) : List AV := cs.take off ++ (vs ++ cs.drop (off + vs.length))
def allFlat : List AV → Bool
  | [] => true
  | x :: r => x.flat && allFlat r
def cellsOf (sz : Nat) : AV → Option (List AV)
  | .ag cs => bif Nat.beq cs.length sz then some cs else none
  | x => bif Nat.beq sz 1 && x.flat then some [x] else none
def allQ : List AV → Bool
  | [] => true
  | x :: r => x.cellQ && allQ r
def cellsQ (sz : Nat) : AV → Option (List AV)
  | .ag cs => bif Nat.beq cs.length sz then some cs else none
  | .aq cs => bif Nat.beq cs.length sz && allQ cs then some cs else none
  | x => bif Nat.beq sz 1 && x.cellN then some [x] else none
def partQ (cs : List AV) (off : Nat) : Option Nat → Option AV
  | none => cs[off]?
  | some m => bif Nat.ble (off + m) cs.length then
      (bif allFlat ((cs.drop off).take m) then some (.ag ((cs.drop off).take m)) else some (.aq ((cs.drop off).take m))) else none
def fillQ (ρ : Operand → AV) : List (Nat × Nat × Operand) → List AV → Option (List AV)
  | [], cs => some cs
  | (off, sz, x) :: r, cs =>
    match cellsQ sz (ρ x) with
    | some vs => bif Nat.ble (off + sz) cs.length then
        (match vs with
         | [v] => fillQ ρ r (cs.set off v)
         | vs => fillQ ρ r (over cs off vs)) else none
    | none => none
def fillV (ρ : Operand → AV) : List (Nat × Nat × Operand) → List AV → Option (List AV)
  | [], cs => some cs
  | (off, sz, x) :: r, cs =>
    match cellsOf sz (ρ x) with
    | some vs => bif Nat.ble (off + sz) cs.length then
        (match vs with
         | [v] => fillV ρ r (cs.set off v)
         | vs => fillV ρ r (over cs off vs)) else none
    | none => none
def partV (cs : List AV) (off : Nat) : Option Nat → Option AV
  | none => cs[off]?
  | some m => bif Nat.ble (off + m) cs.length then some (.ag ((cs.drop off).take m)) else none
def maxV : AV → List AV → Option AV
  | x, [] => some x
  | .i k a, .i k' c :: r => bif decide (k = k') then maxV (.i k (if c > a then c else a)) r else none
  | _, _ => none
def minV : AV → List AV → Option AV
  | x, [] => some x
  | .i k a, .i k' c :: r => bif decide (k = k') then minV (.i k (if c < a then c else a)) r else none
  | _, _ => none
def idx : AV → Option Nat
  | .i _ n => bif decide (0 ≤ n) then some n.toNat else none
  | _ => none
def slcV (sz : Nat) (x : AV) (lo hi mx : Option AV) : Option AV :=
  let l : Option Nat := match lo with | none => some 0 | some v => idx v
  match mx with
  | some m =>
    match l, hi, idx m with
    | some l, some h, some m =>
      (match idx h, x with
       | some h, .sl cs n => bif Nat.ble l h && (Nat.ble h m && Nat.ble m n) then some (.sl ((cs.drop (l * sz)).take ((h - l) * sz)) (h - l)) else none
       | _, _ => none)
    | _, _, _ => none
  | none =>
    match x with
    | .sl cs n =>
      (match l, (match hi with | none => some n | some v => idx v) with
       | some l, some h => bif Nat.ble l h && Nat.ble h n then some (.sl ((cs.drop (l * sz)).take ((h - l) * sz)) (h - l)) else none
       | _, _ => none)
    | .z =>
      (match l, (match hi with | none => some 0 | some v => idx v) with
       | some 0, some 0 => some .z
       | _, _ => none)
    | .rs d off n sz' =>
      (match l, (match hi with | none => some n | some v => idx v) with
       | some l, some h => bif Nat.beq sz sz' && Nat.ble l h && Nat.ble h n && Nat.blt l n then some (.rs d (off + l * sz) (h - l) sz) else none
       | _, _ => none)
    | _ => none
def okE : AV → Bool
  | .ag _ => true
  | x => x.flat
def keepE : Option AV → Option AV
  | some v => bif okE v then some v else none
  | none => none
theorem keepE_some {o : Option AV} {v : AV} (h : keepE o = some v) : o = some v := by
  unfold keepE at h
  split at h
  · rename_i u
    cases hk : okE u <;> rw [hk] at h <;> cases h
    rfl
  · cases h
def pureV (ρ : Operand → AV) : AOp → Option AV
  | .move x => some (ρ x)
  | .pick c a b => match ρ c with | .b t => some (bif t then ρ a else ρ b) | _ => none
  | .bin ek op x y => binV ek op (ρ x) (ρ y)
  | .un op x => unV op (ρ x)
  | .conv k x => match ρ x with | .i _ n => some (.i k (k.wrap n)) | _ => none
  | .addr off x => match ρ x with | .rf d o => some (.rf d (o + off)) | .el cs o => some (.el cs (o + off)) | _ => none
  | .ixA len sz x i =>
    match ρ i with
    | .i _ j => bif decide (0 ≤ j) && decide (j < (len : Int)) then
        (match ρ x with | .rf d o => some (.rf d (o + j.toNat * sz)) | .el cs o => some (.el cs (o + j.toNat * sz)) | _ => none) else none
    | _ => none
  | .ixS sz x i =>
    match ρ i with
    | .i _ j =>
      (match ρ x with
       | .sl cs n => bif Nat.blt (j.toNat * sz) cs.length && (decide (0 ≤ j) && decide (j < (n : Int))) then some (.el cs (j.toNat * sz)) else none
       | .rs d o n sz' => bif Nat.beq sz sz' && (decide (0 ≤ j) && decide (j < (n : Int))) then some (.rf d (o + j.toNat * sz)) else none
       | _ => none)
    | _ => none
  | .fld off m x => match ρ x with | .ag cs => partV cs off m | .aq cs => (bif allQ cs then partQ cs off m else none) | _ => none
  | .ixV len sz m x i =>
    match ρ i with
    | .i _ j => bif decide (0 ≤ j) && decide (j < (len : Int)) then (match ρ x with | .ag cs => partV cs (j.toNat * sz) m | _ => none) else none
    | _ => none
  | .ixStr x i =>
    match ρ i with
    | .i _ j => (match ρ x with | .s t => bif decide (0 ≤ j) then (match t[j.toNat]? with | some c => some (.i .u8 c.toNat) | none => none) else none | _ => none)
    | _ => none
  | .ext j x => match ρ x with | .tp l => l[j]? | _ => none
  | .build zero parts => match fillV ρ parts zero with | some cs => some (.ag cs) | none => none
  | .buildQ zero parts => match fillQ ρ parts zero with | some cs => some (.aq cs) | none => none
  | .bsl n zero parts => match fillV ρ parts (zrep zero n) with | some cs => some (.sl cs n) | none => none
  | .mkS zero bytes l c =>
    match ρ l, ρ c with
    | .i .i64 n, .i .i64 m => bif decide (0 ≤ n) && (decide (n = m) && decide (n.toNat * bytes ≤ 140737488355328)) then some (.sl (zrep zero n.toNat) n.toNat) else none
    | _, _ => none
  | .mkfn f caps => bif allPlain (evalL ρ caps) then some (.fn f (evalL ρ caps)) else none
  | .len false x => match ρ x with | .sl _ n | .rs _ _ n _ => some (.i .i64 n) | .z => some (.i .i64 0) | _ => none
  | .len true x => match ρ x with | .s t => some (.i .i64 t.size) | _ => none
  | .cap x => match ρ x with | .z => some (.i .i64 0) | _ => none
  | .mn l => match evalL ρ l with | x :: r => minV x r | [] => none
  | .mx l => match evalL ρ l with | x :: r => maxV x r | [] => none
  | .nilChk x => match ρ x with | .rf d o => some (.rf d o) | .el cs o => some (.el cs o) | .gl g => some (.gl g) | .fn f c => some (.fn f c) | _ => none
  | .tas t zero x => match ρ x with | .er _ | .nl => some (.tp [zero, .b false]) | .ie t' cs => bif Nat.beq t t' then some (.tp [.el cs 0, .b true]) else none | _ => none
  | .mki t x => match ρ x with | .el cs 0 => some (.ie t cs) | _ => none
  | .boxE sz v => match cellsOf sz (ρ v) with | some cs => some (.el cs 0) | none => none
  | .slc sz x lo hi mx => slcV sz (ρ x) (lo.map ρ) (hi.map ρ) (mx.map ρ)
  | .ldg g => some (.er g)
  | .ldE m x => match ρ x with | .el cs o => keepE (partV cs o m) | _ => none
  | _ => none
structure Ret where
  v : AV
  lent : List (List AV)
def viewR (l : List (Nat × List AV)) (d off n sz : Nat) : Option AV :=
  bif isRef d then none else
  match look l d with | some cs => bif Nat.ble (off + n * sz) cs.length then some (.sl ((cs.drop off).take (n * sz)) n) else none | none => none
def viewL (l : List (Nat × List AV)) : List AV → Option (List AV)
  | [] => some []
  | .rs d off n sz :: r => match viewR l d off n sz, viewL l r with | some v, some vs => some (v :: vs) | _, _ => none
  | x :: r => bif x.flat then (match viewL l r with | some vs => some (x :: vs) | none => none) else none
def toArg (l : List (Nat × List AV)) : AV → Option AV
  | .rs d off n sz => viewR l d off n sz
  | .aq cs => (viewL l cs).map .ag
  | .rf _ _ => none
  | .tp _ => none
  | .os _ _ _ => none
  | .op _ => none
  | .oq _ => none
  | .un => none
  | .gone => none
  | .gl _ => none
  | .fn f [] => some (.fn f [])
  | .fn _ _ => none
  | x => some x
def toArgs (l : List (Nat × List AV)) : List AV → Option (List AV)
  | [] => some []
  | x :: r => match toArg l x, toArgs l r with | some v, some vs => some (v :: vs) | _, _ => none
def isRs0 : AV → Bool
  | .rs _ _ _ _ => true
  | _ => false
def anyRs0 : List AV → Bool
  | [] => false
  | x :: r => isRs0 x || anyRs0 r
def isRs : AV → Bool
  | .rs _ _ _ _ => true
  | .aq cs => anyRs0 cs
  | .fn _ cs => anyRs0 cs
  | _ => false
def anyRs : List AV → Bool
  | [] => false
  | x :: r => isRs x || anyRs r
def hasSl1 : AV → Bool
  | .sl _ _ | .ag _ | .tp _ | .el _ _ | .ie _ _ => true
  | _ => false
def hasSlL : List AV → Bool
  | [] => false
  | x :: r => hasSl1 x || hasSlL r
def hasSlC : AV → Bool
  | .os cs _ _ => hasSlL cs
  | .op cs => hasSlL cs
  | x => hasSl1 x
def hasSlCL : List AV → Bool
  | [] => false
  | x :: r => hasSlC x || hasSlCL r
def hasSl2 : AV → Bool
  | .os cs _ _ => hasSlL cs
  | .op cs => hasSlL cs
  | .oq cs => hasSlCL cs
  | .aq cs => hasSlCL cs
  | .fn _ cs => hasSlCL cs
  | x => hasSl1 x
def hasSl2L : List AV → Bool
  | [] => false
  | x :: r => hasSl2 x || hasSl2L r
def hasSl : AV → Bool
  | .tp l => hasSl2L l
  | x => hasSl2 x
def frzP : List AV → Option (List AV)
  | [] => some []
  | .os cs n _ :: r => (match frzP r with | some vs => some (.sl cs n :: vs) | none => none)
  | x :: r => bif x.flat then (match frzP r with | some vs => some (x :: vs) | none => none) else none
def fromRet1 : AV → Option AV
  | .os cs n _ => some (.sl cs n)
  | .op (c :: cs) => some (.el (c :: cs) 0)
  | .op [] => none
  | .oq _ => none
  | .aq cs => (frzP cs).map .ag
  | .fn f [] => some (.fn f [])
  | .fn _ _ => none
  | .tp _ => none
  | x => some x
def fromRetL : List AV → Option (List AV)
  | [] => some []
  | x :: r => match fromRet1 x, fromRetL r with | some v, some vs => some (v :: vs) | _, _ => none
def fromRet : AV → Option AV
  | .tp l => (fromRetL l).map .tp
  | x => fromRet1 x
abbrev CallF := Nat → List AV → Option Ret
def readV (call : CallF) (ρ : Operand → AV) (l : List (Nat × List AV)) : AOp → Option AV
  | .load m (.global g) => (match m with | none => some (.er g) | some _ => none)
  | .load m x =>
    match ρ x with
    | .rf d o => (match look l d with | some cs => (bif isRef d then partQ cs o m else partV cs o m) | none => none)
    | .el cs o => partV cs o m
    | _ => none
  | .call f xs =>
    match ρ f with
    | .fn f [] =>
      (match toArgs l (evalL ρ xs) with
       | some vs =>
         (match call f vs with
          | some ⟨r, []⟩ => bif anyRs (evalL ρ xs) && hasSl r then none else fromRet r
          | _ => none)
       | none => none)
    | _ => none
  | _ => none
def setC (cs : List AV) (o : Nat) : List AV → List AV
  | [v] => cs.set o v
  | vs => over cs o vs
def writeV (ρ : Operand → AV) (l : List (Nat × List AV)) : AOp → Option (List (Nat × List AV))
  | .store sz x v =>
    match ρ x with
    | .rf d o =>
      (match look l d, (bif isRef d then cellsQ sz (ρ v) else cellsOf sz (ρ v)) with
       | some cs, some vs => bif Nat.ble (o + sz) cs.length then some (put l d (setC cs o vs)) else none
       | _, _ => none)
    | _ => none
  | _ => none
def St.putD (S : St) (dst : Option Nat) (v : AV) : St :=
  match dst with
  | some d => { S with s := put S.s d v }
  | none => S
def srcV (l : List (Nat × List AV)) (sz : Nat) (d : Nat) : AV → Option (List AV × Nat)
  | .sl cs m => bif Nat.beq cs.length (m * sz) then some (cs, m) else none
  | .z => some ([], 0)
  | .rs e off m sz' =>
    bif isRef e then none else
    match look l e with
    | some cs => bif !Nat.beq e d && (Nat.beq sz sz' && Nat.ble (off + m * sz) cs.length) then some ((cs.drop off).take (m * sz), m) else none
    | none => none
  | _ => none
def gath1 (l : List (Nat × List AV)) : AV → Option (AV × List Nat)
  | .rf e 0 => bif isRef e then none else (match look l e with | some cs => some (.op cs, [e]) | none => none)
  | .rf _ _ => none
  | .rs e 0 n sz => bif isRef e then none else (match look l e with | some cs => some (.os cs n sz, [e]) | none => none)
  | .rs _ _ _ _ => none
  | .gone => some (.gone, [])
  | x => bif x.flat then some (x, []) else none
def gathL (l : List (Nat × List AV)) : List AV → Option (List AV × List Nat)
  | [] => some ([], [])
  | x :: r => match gath1 l x, gathL l r with | some (v, i), some (vs, is) => some (v :: vs, i ++ is) | _, _ => none
def lendP (l : List (Nat × List AV)) : AV → Option (AV × List Nat × List Nat)
  | .rf d 0 =>
    (match look l d with
     | some cs => bif isRef d then (match gathL l cs with | some (c, ch) => some (.oq c, [d], ch) | none => none) else some (.op cs, [d], [])
     | none => none)
  | .rf _ _ => none
  | .rs d off n sz => (match viewR l d off n sz with | some v => some (v, [], []) | none => none)
  | x => bif x.flat then some (x, [], []) else none
def lendPL (l : List (Nat × List AV)) : List AV → Option (List AV × List Nat × List Nat)
  | [] => some ([], [], [])
  | x :: r => match lendP l x, lendPL l r with | some (v, d, c), some (vs, ds, cs) => some (v :: vs, d ++ ds, c ++ cs) | _, _ => none
def lend1 (l : List (Nat × List AV)) : AV → Option (AV × List Nat × List Nat)
  | .rf d o => lendP l (.rf d o)
  | .aq cs => (match lendPL l cs with | some (vs, ds, ch) => some (bif ds.isEmpty then .ag vs else .aq vs, ds, ch) | none => none)
  | .fn f (c :: r) => (match lendPL l (c :: r) with | some (vs, ds, ch) => some (.fn f vs, ds, ch) | none => none)
  | x => (match toArg l x with | some v => some (v, [], []) | none => none)
def lends (l : List (Nat × List AV)) : List AV → Option (List AV × List Nat × List Nat)
  | [] => some ([], [], [])
  | x :: r => match lend1 l x, lends l r with | some (v, d, c), some (vs, ds, cs) => some (v :: vs, d ++ ds, c ++ cs) | _, _ => none
def sees0 (ds : List Nat) : List AV → Bool
  | [] => false
  | .rs d _ _ _ :: r => memb ds d || sees0 ds r
  | _ :: r => sees0 ds r
def seesAny (ds : List Nat) : List AV → Bool
  | [] => false
  | .rs d _ _ _ :: r => memb ds d || seesAny ds r
  | .aq cs :: r => sees0 ds cs || seesAny ds r
  | .fn _ cs :: r => sees0 ds cs || seesAny ds r
  | _ :: r => seesAny ds r
def nodupB : List Nat → Bool
  | [] => true
  | x :: r => !memb r x && nodupB r
def scat1 (D o : Nat) : AV → AV
  | .op _ => .rf (child D o) 0
  | .os _ n sz => .rs (child D o) 0 n sz
  | x => x
def rows1 (D o : Nat) : AV → List (Nat × List AV)
  | .op cs => [(child D o, cs)]
  | .os cs _ _ => [(child D o, cs)]
  | _ => []
def scatL (D : Nat) : Nat → List AV → List AV
  | _, [] => []
  | o, x :: r => scat1 D o x :: scatL D (o + 1) r
def rowsL (D : Nat) : Nat → List AV → List (Nat × List AV)
  | _, [] => []
  | o, x :: r => rows1 D o x ++ rowsL D (o + 1) r
def keys : List (Nat × List AV) → List Nat
  | [] => []
  | (j, _) :: r => j :: keys r
def backL : List Nat → List (List AV) → Option (List (Nat × List AV) × List (Nat × List AV))
  | [], [] => some ([], [])
  | d :: ds, cs :: css =>
    (match backL ds css with
     | some (a, b) => bif isRef d then some ((d, scatL d 0 cs) :: a, rowsL d 0 cs ++ b) else some ((d, cs) :: a, b)
     | none => none)
  | _, _ => none
def putRows (l : List (Nat × List AV)) : List (Nat × List AV) → List (Nat × List AV)
  | [] => l
  | (d, cs) :: r => putRows (put l d cs) r
def hasSlLL : List (List AV) → Bool
  | [] => false
  | x :: r => hasSlCL x || hasSlLL r
def afterK (S : St) (ds ch : List Nat) (lent : List (List AV)) : Option St :=
  match backL ds lent with
  | some (a, b) =>
    bif nodupB (keys a ++ keys b) && allCh (keys b) then
      (let S1 := S.kills (ch ++ keys b)
       some { S1 with l := putRows (putRows S1.l b) a }) else none
  | none => none
def take1 (D : Nat) : AV → Option (AV × List (Nat × List AV))
  | .os cs n sz => some (.rs D 0 n sz, [(D, cs)])
  | .op cs => some (.rf D 0, [(D, cs)])
  | .oq cs => bif allCh (keys (rowsL (1000000000000 + D) 0 cs)) then some (.rf (1000000000000 + D) 0, rowsL (1000000000000 + D) 0 cs ++ [(1000000000000 + D, scatL (1000000000000 + D) 0 cs)]) else none
  | .aq cs => bif allCh (keys (rowsL D 0 cs)) then some (.aq (scatL D 0 cs), rowsL D 0 cs) else none
  | .fn f (c :: cs) => bif allCh (keys (rowsL D 0 (c :: cs))) then some (.fn f (scatL D 0 (c :: cs)), rowsL D 0 (c :: cs)) else none
  | x => (match fromRet1 x with | some v => some (v, []) | none => none)
def St.takeRows (S : St) (rows : List (Nat × List AV)) : St :=
  let S1 := S.kills (keys rows)
  { S1 with l := putRows S1.l rows }
def recv (S : St) (d : Nat) (own : List (Nat × Nat)) (v : AV) : Option (St × AV) :=
  match own, v with
  | (7, 7) :: _, v => (match fromRet v with | some v => some (S, v) | none => none)
  | (j, _) :: _, .tp l =>
    (match l[j]? with
     | some x =>
       bif Nat.blt (d + 1000 * (j + 1)) 1000000 then
         (match take1 (d + 1000 * (j + 1)) x with
          | some (v, rows) => bif plain v && nodupB (keys rows) then (match fromRetL (l.set j .un) with | some vs => some (S.takeRows rows, .tp (vs.set j v)) | none => none) else none
          | none => none) else none
     | none => (match fromRet (.tp l) with | some v => some (S, v) | none => none))
  | _ :: _, v => (match take1 d v with | some (v, rows) => bif nodupB (keys rows) then some (S.takeRows rows, v) else none | none => none)
  | _, v => match fromRet v with | some v => some (S, v) | none => none
def namesNot (ds : List Nat) : List AV → Bool
  | [] => true
  | .rf e _ :: r => !memb ds e && namesNot ds r
  | .rs e _ _ _ :: r => !memb ds e && namesNot ds r
  | _ :: r => namesNot ds r
def names0 (d : Nat) (cs : List AV) : Bool := namesNot [1000000000000 + d] cs
def nilsOf (D : Nat) : List (Nat × Nat) → List AV → Option (List AV × List (Nat × List AV))
  | [], cs => some (cs, [])
  | (o, sz) :: r, cs =>
    (match cs[o]? with
     | some .z => (match nilsOf D r (cs.set o (.rs (child D o) 0 0 sz)) with | some (cs', rows) => some (cs', (child D o, []) :: rows) | none => none)
     | _ => none)
def partN (j k : Nat) : AV → AV
  | .op _ => .rf (partId j k) 0
  | .oq _ => .rf (1000000000000 + partId j k) 0
  | x => x
def partsN (j : Nat) : Nat → List AV → List AV
  | _, [] => []
  | k, x :: r => partN j k x :: partsN j (k + 1) r
def lentRows (i : Nat) : AV → List (Nat × List AV)
  | .op cs => [(i, cs)]
  | .oq cs => (1000000000000 + i, scatL (1000000000000 + i) 0 cs) :: rowsL (1000000000000 + i) 0 cs
  | _ => []
def partRows (j : Nat) : Nat → List AV → List (Nat × List AV)
  | _, [] => []
  | k, x :: r => lentRows (partId j k) x ++ partRows j (k + 1) r
def slotOf (j : Nat) : AV → AV
  | .op _ => .rf j 0
  | .oq _ => .rf (1000000000000 + j) 0
  | .aq cs => .aq (partsN j 0 cs)
  | .fn f cs => .fn f (partsN j 0 cs)
  | x => x
def argRows (j : Nat) : AV → List (Nat × List AV)
  | .aq cs => partRows j 0 cs
  | .fn _ cs => partRows j 0 cs
  | x => lentRows j x
def enterS : Nat → List AV → List (Nat × AV)
  | _, [] => []
  | j, x :: r => (j, slotOf j x) :: enterS (j + 1) r
def enterL : Nat → List AV → List (Nat × List AV)
  | _, [] => []
  | j, x :: r => argRows j x ++ enterL (j + 1) r
def rootsR (i : Nat) : AV → List Nat
  | .op _ => [i]
  | .oq _ => [1000000000000 + i]
  | _ => []
def rootsP (j : Nat) : Nat → List AV → List Nat
  | _, [] => []
  | k, x :: r => rootsR (partId j k) x ++ rootsP j (k + 1) r
def rootsA (j : Nat) : AV → List Nat
  | .aq cs => rootsP j 0 cs
  | .fn _ cs => rootsP j 0 cs
  | x => rootsR j x
def rootsIn : Nat → List AV → List Nat
  | _, [] => []
  | j, x :: r => rootsA j x ++ rootsIn (j + 1) r
def allRoot (np : Nat) : List Nat → Bool
  | [] => true
  | d :: r => rootB np d && allRoot np r
def childR (i : Nat) : AV → List Nat
  | .oq cs => keys (rowsL (1000000000000 + i) 0 cs)
  | _ => []
def childP (j : Nat) : Nat → List AV → List Nat
  | _, [] => []
  | k, x :: r => childR (partId j k) x ++ childP j (k + 1) r
def childA (j : Nat) : AV → List Nat
  | .aq cs => childP j 0 cs
  | .fn _ cs => childP j 0 cs
  | x => childR j x
def childIn : Nat → List AV → List Nat
  | _, [] => []
  | j, x :: r => childA j x ++ childIn (j + 1) r
def kindsOk : List Nat → List Nat → Bool
  | [], [] => true
  | d :: ds, e :: es => (isRef d == isRef e) && kindsOk ds es
  | _, _ => false
def okEnter (ds : List Nat) (vs : List AV) : Bool := ds.isEmpty || (nodupB (keys (enterL 0 vs)) && (allRoot vs.length (rootsIn 0 vs) && (allCh (childIn 0 vs) && kindsOk ds (rootsIn 0 vs))))
def stays (own : List (Nat × Nat)) (ch ds : List Nat) (lent : List (List AV)) : Bool :=
  match own with
  | [] => ch.isEmpty && (match backL ds lent with | some (_, b) => b.isEmpty | none => false)
  | _ => true
def rootQ (S : St) (d : Nat) (cs : List AV) (nils : List (Nat × Nat)) : Option St :=
  match nilsOf d nils cs with
  | some (cs', rows) => bif (nodupB (keys rows) && allCh (keys rows)) && (names0 d cs && namesNot (keys rows) cs) then some ((S.takeRows rows).rootAt d (1000000000000 + d) cs' (.rf (1000000000000 + d) 0)) else none
  | none => none
def stepK (call : CallF) (S : St) (dst : Option Nat) : AOp → Option St
  | .box sz v =>
    match dst, cellsOf sz (evalO S.s v) with
    | some d, some cs => some (S.root d cs (.rf d 0))
    | _, _ => none
  | .alloc zero => match dst with | some d => some (S.root d zero (.rf d 0)) | none => none
  | .boxQ sz v nils =>
    match dst, cellsQ sz (evalO S.s v) with
    | some d, some cs => rootQ S d cs nils
    | _, _ => none
  | .allocQ zero nils => match dst with | some d => rootQ S d zero nils | none => none
  | .mkR zero bytes l c =>
    match dst, evalO S.s l, evalO S.s c with
    | some d, .i .i64 n, .i .i64 m => bif decide (0 ≤ n) && (decide (n ≤ m) && decide (m.toNat * bytes ≤ 140737488355328)) then some (S.root d (zrep zero n.toNat) (.rs d 0 n.toNat zero.length)) else none
    | _, _, _ => none
  | .bslR n zero parts =>
    match dst, fillV (evalO S.s) parts (zrep zero n) with
    | some d, some cs => some (S.root d cs (.rs d 0 n zero.length))
    | _, _ => none
  | .nilR sz x =>
    match dst, evalO S.s x with
    | some d, .z => some (S.root d [] (.rs d 0 0 sz))
    | _, _ => none
  | .app sz bytes x y =>
    match dst, evalO S.s x with
    | some t, .rs d 0 n sz' =>
      (match look S.l d, srcV S.l sz d (evalO S.s y) with
       | some cs, some (vs, m) =>
         bif (Nat.beq sz sz' && !isRef d) && (Nat.ble (n * sz) cs.length && decide ((n + m) * bytes ≤ 140737488355328)) then
           some (S.rootAt t d ((bif Nat.beq cs.length (n * sz) then cs else cs.take (n * sz)) ++ vs) (.rs d 0 (n + m) sz)) else none
       | _, _ => none)
    | some t, .z =>
      (match srcV S.l sz t (evalO S.s y) with
       | some (vs, m) => bif decide (m * bytes ≤ 140737488355328) then some (S.root t vs (.rs t 0 m sz)) else none
       | none => none)
    | _, _ => none
  | .appN zero bytes x n =>
    match dst, evalO S.s x, evalO S.s n with
    | some t, .z, .i .i64 n => bif decide (0 < n) && decide (n.toNat * bytes ≤ 140737488355328) then some (S.root t (zrep zero n.toNat) (.rs t 0 n.toNat zero.length)) else none
    | _, _, _ => none
  | .callK f xs own =>
    match evalO S.s f with
    | .fn f caps =>
      let as := evalL (evalO S.s) xs ++ caps
      (match lends S.l as with
       | some (vs, ds, ch) =>
         bif (seesAny (ds ++ ch) as || !nodupB (ds ++ ch)) || !okEnter ds vs then none else
         (match call f vs with
          | some ⟨r, lent⟩ =>
            bif anyRs as && (hasSl r || hasSlLL lent) then none else
            (match afterK S ds ch lent with
             | some S1 =>
               bif stays own ch ds lent then
               (match dst with
                | some d => (match recv S1 d own r with | some (S2, v) => some (S2.putD (some d) v) | none => none)
                | none => some S1) else none
             | none => none)
          | none => none)
       | none => none)
    | _ => none
  | _ => none
def freezes (S : St) : List Nat → Option St
  | [] => some S
  | d :: r => match S.freeze d with | some S1 => freezes S1 r | none => none
def rs1 : AV → List Nat
  | .rs d _ _ _ => [d]
  | _ => []
def rsOf : List AV → List Nat
  | [] => []
  | x :: r => rs1 x ++ rsOf r
def m8 : List (Nat × Nat) → Bool
  | (8, 8) :: _ => true
  | _ => false
def mark8 : AOp → Option (Operand × List Operand × List (Nat × Nat))
  | .callK f xs own => bif m8 own then some (f, xs, own.tail) else none
  | _ => none
def stepC (call : CallF) (S : St) (dst : Option Nat) (op : AOp) : Option St :=
  match mark8 op with
  | some (f, xs, own) => (match freezes S (rsOf (evalL (evalO S.s) xs)) with | some S1 => stepK call S1 dst (.callK f xs own) | none => none)
  | none => stepK call S dst op
def wants (s : List (Nat × AV)) : Option (Nat × Bool) → Option Bool
  | none => some true
  | some (t, want) =>
    match get s t with
    | .b x => some (x == want)
    | .gone => none
    | _ => some false
def step (call : CallF) (o : AOper) (S : St) : Option St :=
  match wants S.s o.guard with
  | some true =>
    (match o.op.cls with
     | 0 => (pureV (evalO S.s) o.op).map (S.putD o.dst)
     | 1 => (readV call (evalO S.s) S.l o.op).map (S.putD o.dst)
     | 2 => (writeV (evalO S.s) S.l o.op).map fun l => { S with l }
     | _ => stepC call S o.dst o.op)
  | some false => some (S.putD o.dst .un)
  | none => none
def steps (call : CallF) : List AOper → St → Option St
  | [], S => some S
  | o :: r, S => match step call o S with | some S1 => steps call r S1 | none => none
inductive Ex where
  | normal | ret | exit (id : Nat)
inductive AC where
  | skip | ret
  | exit (id : Nat)
  | reg (ops : List AOper)
  | seq (a b : AC)
  | cond (c : Operand) (a b : AC)
  | block (id : Nat) (a : AC)
  | loop (ks kr : List Nat) (a : AC)
  | pre (fr : List Nat) (ks kr : List Nat) (a : AC)
def special : List (Nat × List AV) → List (Nat × List AV)
  | [] => []
  | (k, cs) :: r => bif Nat.ble 1000000 k then (k, cs) :: special r else special r
def St.clean (S : St) (ks kr : List Nat) : St := { s := keepS ks S.s, l := special S.l ++ keepL kr S.l }
def iter (f : St → Option (Ex × St)) : Nat → St → Option (Ex × St)
  | 0, _ => none
  | n + 1, S =>
    match f S with
    | some (.normal, S1) => iter f n S1
    | r => r
def Ex.unblock (id : Nat) : Ex → Ex
  | .exit j => bif Nat.beq j id then .normal else .exit j
  | e => e
def evC (call : CallF) (n : Nat) : AC → St → Option (Ex × St)
  | .skip, S => some (.normal, S)
  | .ret, S => some (.ret, S)
  | .exit id, S => some (.exit id, S)
  | .reg ops, S => match steps call ops S with | some S1 => some (.normal, S1) | none => none
  | .seq a b, S => match evC call n a S with | some (.normal, S1) => evC call n b S1 | r => r
  | .cond c a b, S => match evalO S.s c with | .b t => bif t then evC call n a S else evC call n b S | _ => none
  | .block id a, S => match evC call n a S with | some (e, S1) => some (e.unblock id, S1) | none => none
  | .loop ks kr a, S => iter (fun S => evC call n a (S.clean ks kr)) n S
  | .pre fr ks kr a, S => match freezes S fr with | some S1 => evC call n a (S1.clean ks kr) | none => none
inductive ARes where
  | t (t : Nat)
  | c (t : Nat) (m : Option Nat)
structure AFun where
  body : AC
  np : Nat
  res : List ARes
def resV (S : St) : ARes → Option AV
  | .t t => some (get S.s t)
  | .c t m => match get S.s t with | .rf d o => (match look S.l d with | some cs => (bif isRef d then partQ cs o m else partV cs o m) | none => none) | .el cs o => partV cs o m | _ => none
def resL (S : St) : List ARes → Option (List AV)
  | [] => some []
  | x :: r => match resV S x, resL S r with | some v, some vs => some (v :: vs) | _, _ => none
def countR (d : Nat) : List AV → Nat
  | [] => 0
  | .rs e _ _ _ :: r => (bif Nat.beq e d then 1 else 0) + countR d r
  | .rf e _ :: r => (bif Nat.beq e d then 1 else 0) + countR d r
  | _ :: r => countR d r
def toRet (np : Nat) (l : List (Nat × List AV)) (all : List AV) : AV → Option (AV × List Nat × List Nat)
  | .rs d off n sz =>
    match look l d with
    | some cs => bif isRef d || rootB np d then none else
        bif Nat.beq off 0 && (Nat.ble (n * sz) cs.length && Nat.beq (countR d all) 1) then some (.os (bif Nat.beq cs.length (n * sz) then cs else cs.take (n * sz)) n sz, [d], []) else
        bif Nat.ble (off + n * sz) cs.length then some (.sl ((cs.drop off).take (n * sz)) n, [], [d]) else none
    | none => none
  | .rf d off =>
    match look l d with
    | some cs => bif rootB np d || !Nat.beq off 0 then none else
        bif isRef d then (match gathL l cs with | some (c, ch) => some (.oq c, d :: ch, []) | none => none) else some (.op cs, [d], [])
    | none => none
  | .aq cs => (match gathL l cs with | some (c, ch) => some (.aq c, ch, []) | none => none)
  | .fn f [] => some (.fn f [], [], [])
  | .fn f (c :: r) => (match gathL l (c :: r) with | some (c, ch) => some (.fn f c, ch, []) | none => none)
  | .tp _ => none
  | .un => none
  | .gone => none
  | .gl _ => none
  | .os _ _ _ => none
  | .op _ => none
  | .oq _ => none
  | x => some (x, [], [])
def toRets (np : Nat) (l : List (Nat × List AV)) (all : List AV) : List AV → Option (List AV × List Nat × List Nat)
  | [] => some ([], [], [])
  | x :: r => match toRet np l all x, toRets np l all r with | some (v, h, s), some (vs, hs, ss) => some (v :: vs, h ++ hs, s ++ ss) | _, _ => none
def lentR (l : List (Nat × List AV)) (i : Nat) : AV → Option (List (List AV) × List Nat)
  | .op _ => (match look l i with | some cs => bif isRef i then none else some ([cs], []) | none => none)
  | .oq _ => (match look l (1000000000000 + i) with | some cs => (match gathL l cs with | some (c, ch) => some ([c], ch) | none => none) | none => none)
  | _ => some ([], [])
def lentParts (l : List (Nat × List AV)) (j : Nat) : Nat → List AV → Option (List (List AV) × List Nat)
  | _, [] => some ([], [])
  | k, x :: r => match lentR l (partId j k) x, lentParts l j (k + 1) r with | some (a, h), some (as, hs) => some (a ++ as, h ++ hs) | _, _ => none
def lentA (l : List (Nat × List AV)) (j : Nat) : AV → Option (List (List AV) × List Nat)
  | .aq cs => lentParts l j 0 cs
  | .fn _ cs => lentParts l j 0 cs
  | x => lentR l j x
def lentOf (l : List (Nat × List AV)) : Nat → List AV → Option (List (List AV) × List Nat)
  | _, [] => some ([], [])
  | j, x :: r => match lentA l j x, lentOf l (j + 1) r with | some (a, h), some (as, hs) => some (a ++ as, h ++ hs) | _, _ => none
def noRoots (np : Nat) : List Nat → Bool
  | [] => true
  | d :: r => !rootB np d && noRoots np r
def apart (l : List Nat) : List Nat → Bool
  | [] => true
  | x :: r => !memb l x && apart l r
def one : List AV → AV
  | [x] => x
  | l => .tp l
def okFin (np : Nat) (h s : List Nat) : Bool := nodupB h && (noRoots np h && apart h s)
def fin (A : AFun) (args : List AV) (S : St) : Option Ret :=
  match resL S A.res with
  | some vs =>
    (match toRets A.np S.l vs vs, lentOf S.l 0 args with
     | some (rs, h, s), some (lent, h') => bif okFin A.np (h ++ h') s then some ⟨one rs, lent⟩ else none
     | _, _ => none)
  | none => none
def evF (tab : Nat → Option AFun) : Nat → CallF
  | 0, _, _ => none
  | n + 1, f, args =>
    match tab f with
    | some A =>
      bif Nat.beq args.length A.np then
        (match evC (evF tab n) n A.body ⟨enterS 0 args, enterL 0 args⟩ with
         | some (.normal, S) | some (.ret, S) => fin A args S
         | _ => none) else none
    | none => none
end Zab
namespace Zab
open Go
set_option linter.unusedSimpArgs false
set_option linter.unusedVariables false
structure Env where
  P : Program
  sent : Nat → Option (Nat × Nat)
  T : TypeId
def Env.errV (E : Env) (b : Nat × Nat) : Value := .iface E.T (.pointer (some ⟨b.1, b.2, none⟩))
def Env.fixed (E : Env) (b : Nat) : Prop := ∃ g c, E.sent g = some c ∧ (b = g ∨ b = c.1)
structure GOk (E : Env) (w : World) : Prop where
  var : ∀ g b, E.sent g = some b → w.cell? ⟨g, 0, none⟩ = some (E.errV b)
  obj : ∀ g b, E.sent g = some b → ∃ c e, w.heap[b.1]? = some (.cells c e (0, 0)) ∧ 0 < c.size
  inj : ∀ g h b, E.sent g = some b → E.sent h = some b → g = h
inductive FRep (E : Env) (w : World) (N : Nat → Prop) : AV → Value → Prop where
  | i (k : IntKind) (n : Int) : FRep E w N (.i k n) (.int k n)
  | b (x : Bool) : FRep E w N (.b x) (.bool x)
  | s (x : ByteArray) : FRep E w N (.s x) (.string x)
  | nl : FRep E w N .nl .nilIface
  | np : FRep E w N .np (.pointer none)
  | nf : FRep E w N .nf .nilFunc
  | er (g : Nat) (b : Nat × Nat) (h : E.sent g = some b) : FRep E w N (.er g) (E.errV b)
  | z : FRep E w N .z (.slice none 0 0)
  | sl (cells : List AV) (n : Nat) (base : Option Addr) (c : Nat) (cs : Nat → Value) (hn : n ≤ c)
      (h0 : cells = [] ∨ ∃ blk off, base = some ⟨blk, off, none⟩ ∧ N blk ∧ ∀ j, j < cells.length → w.cell? ⟨blk, off + j, none⟩ = some (cs j))
      (h1 : ∀ j (hj : j < cells.length), FRep E w N (cells[j]) (cs j)) : FRep E w N (.sl cells n) (.slice base n c)
  | ie (t : Nat) (cells : List AV) (blk off : Nat) (cs : Nat → Value) (hN : N blk) (h0 : ∀ j, j < cells.length → w.cell? ⟨blk, off + j, none⟩ = some (cs j))
      (h1 : ∀ j (hj : j < cells.length), FRep E w N (cells[j]) (cs j)) : FRep E w N (.ie t cells) (.iface t (.pointer (some ⟨blk, off, none⟩)))
theorem FRep.mono {E : Env} {w w' : World} {N N' : Nat → Prop} (hN : ∀ b, N b → N' b) (hw : ∀ b, N b → w'.heap[b]? = w.heap[b]?) {x : AV} {v : Value} (h : FRep E w N x v) : FRep E w' N' x v := by
  induction h with
  | i k n => exact .i k n
  | b x => exact .b x
  | s x => exact .s x
  | nl => exact .nl
  | np => exact .np
  | nf => exact .nf
  | er g b h => exact .er g b h
  | z => exact .z
  | sl cells n base c cs hn h0 h1 ih =>
    refine .sl cells n base c cs hn ?_ ih
    rcases h0 with h0 | ⟨blk, off, hb, hN0, hc⟩
    · exact .inl h0
    · exact .inr ⟨blk, off, hb, hN _ hN0, fun j hj => by rw [World.cell?_of_block (w := w) (hw blk hN0)]; exact hc j hj⟩
  | ie t cells blk off cs hN0 h0 h1 ih => exact .ie t cells blk off cs (hN _ hN0) (fun j hj => by rw [World.cell?_of_block (w := w) (hw blk hN0)]; exact h0 j hj) ih
theorem FRep.flat {E : Env} {w : World} {N : Nat → Prop} {x : AV} {v : Value} (h : FRep E w N x v) : x.flat = true := by
  cases h <;> rfl
theorem FRep.one {E : Env} {w : World} {N : Nat → Prop} {x : AV} {v : Value} (h : FRep E w N x v) : v.oneCell' = true := by
  cases h <;> rfl
theorem FRep.bare {E : Env} {w w' : World} {N N' : Nat → Prop} {x : AV} {v : Value} (h : FRep E w N x v) (hx : hasSl1 x = false) : FRep E w' N' x v := by
  cases h with
  | i k n => exact .i k n
  | b x => exact .b x
  | s x => exact .s x
  | nl => exact .nl
  | np => exact .np
  | nf => exact .nf
  | er g b h => exact .er g b h
  | z => exact .z
  | sl => simp [hasSl1] at hx
  | ie => simp [hasSl1] at hx
inductive V1 (E : Env) (np : Nat) (w : World) (N : Nat → Prop) (A K : Nat → Nat) : AV → Value → Prop where
  | flat {x : AV} {v : Value} (h : FRep E w N x v) : V1 E np w N A K x v
  | ag (cells : List AV) (cs : List Value) (hl : cells.length = cs.length) (h : ∀ j (h1 : j < cells.length) (h2 : j < cs.length), FRep E w N cells[j] cs[j]) : V1 E np w N A K (.ag cells) (.agg cs.toArray)
  | rf (d off : Nat) : V1 E np w N A K (.rf d off) (.pointer (some ⟨A d, off, none⟩))
  | rs (d off n sz : Nat) (base : Option Addr) (c : Nat) (hd : rootB np d = false) (hn : n ≤ c) (hk : off + c * sz ≤ K d)
      (hb : 0 < K d → base = some ⟨A d, off, none⟩) : V1 E np w N A K (.rs d off n sz) (.slice base n c)
  | el (cells : List AV) (j blk off : Nat) (cs : Nat → Value) (hN : N blk) (hc : ∀ j, j < cells.length → w.cell? ⟨blk, off + j, none⟩ = some (cs j))
      (h1 : ∀ j (hj : j < cells.length), FRep E w N (cells[j]) (cs j)) : V1 E np w N A K (.el cells j) (.pointer (some ⟨blk, off + j, none⟩))
  | gl (g : Nat) : V1 E np w N A K (.gl g) (.pointer (some ⟨g, 0, none⟩))
  | fn (f : Nat) : V1 E np w N A K (.fn f []) (.func (.func f) #[] #[])
  | un : V1 E np w N A K .un undef
  | gone (v : Value) : V1 E np w N A K .gone v
inductive VRep (E : Env) (np : Nat) (w : World) (N : Nat → Prop) (A K : Nat → Nat) : AV → Value → Prop where
  | one {x : AV} {v : Value} (h : V1 E np w N A K x v) : VRep E np w N A K x v
  | tp (l : List AV) (vs : List Value) (hl : l.length = vs.length) (h : ∀ j (h1 : j < l.length) (h2 : j < vs.length), V1 E np w N A K l[j] vs[j]) : VRep E np w N A K (.tp l) (.tuple vs.toArray)
  | fn (f : Nat) (l : List AV) (vs : List Value) (hl : l.length = vs.length) (h : ∀ j (h1 : j < l.length) (h2 : j < vs.length), V1 E np w N A K l[j] vs[j]) : VRep E np w N A K (.fn f l) (.func (.func f) #[] vs.toArray)
  | aq (l : List AV) (vs : List Value) (hl : l.length = vs.length) (ho : ∀ v ∈ vs, v.oneCell' = true) (h : ∀ j (h1 : j < l.length) (h2 : j < vs.length), V1 E np w N A K l[j] vs[j]) : VRep E np w N A K (.aq l) (.agg vs.toArray)
def names1 (d : Nat) : AV → Prop
  | .rf e _ => e = d
  | .rs e _ _ _ => e = d
  | _ => False
theorem V1.mono {E : Env} {np : Nat} {w w' : World} {N N' : Nat → Prop} {A K A' K' : Nat → Nat} (hN : ∀ b, N b → N' b) (hw : ∀ b, N b → w'.heap[b]? = w.heap[b]?) {x : AV} {v : Value}
    (hx : ∀ d, names1 d x → A' d = A d ∧ K' d = K d) (h : V1 E np w N A K x v) : V1 E np w' N' A' K' x v := by
  cases h with
  | flat h => exact .flat (h.mono hN hw)
  | ag cells cs hl h => exact .ag cells cs hl fun j h1 h2 => (h j h1 h2).mono hN hw
  | rf d off => have := hx d rfl; rw [← this.1]; exact .rf d off
  | rs d off n sz base c hd hn hk hb =>
    have := hx d rfl
    exact .rs d off n sz base c hd hn (by rw [this.2]; exact hk) (by rw [this.1, this.2]; exact hb)
  | el cells j blk off cs hN0 hc h1 => exact .el cells j blk off cs (hN _ hN0) (fun j hj => by rw [World.cell?_of_block (w := w) (hw blk hN0)]; exact hc j hj) (fun j hj => (h1 j hj).mono hN hw)
  | gl g => exact .gl g
  | fn f => exact .fn f
  | un => exact .un
  | gone v => exact .gone v
def namesV (d : Nat) : AV → Prop
  | .tp l => ∃ x ∈ l, names1 d x
  | .fn _ l => ∃ x ∈ l, names1 d x
  | .aq l => ∃ x ∈ l, names1 d x
  | x => names1 d x
theorem names1_V {d : Nat} {x : AV} (h : names1 d x) : namesV d x := by
  cases x <;> simp_all [names1, namesV]
theorem VRep.mono {E : Env} {np : Nat} {w w' : World} {N N' : Nat → Prop} {A K A' K' : Nat → Nat} (hN : ∀ b, N b → N' b) (hw : ∀ b, N b → w'.heap[b]? = w.heap[b]?) {x : AV} {v : Value}
    (hx : ∀ d, namesV d x → A' d = A d ∧ K' d = K d) (h : VRep E np w N A K x v) : VRep E np w' N' A' K' x v := by
  cases h with
  | one h => exact .one (h.mono hN hw fun d hd => hx d (names1_V hd))
  | tp l vs hl h => exact .tp l vs hl fun j h1 h2 => (h j h1 h2).mono hN hw fun d hd => hx d ⟨_, List.getElem_mem h1, hd⟩
  | fn f l vs hl h => exact .fn f l vs hl fun j h1 h2 => (h j h1 h2).mono hN hw fun d hd => hx d ⟨_, List.getElem_mem h1, hd⟩
  | aq l vs hl ho h => exact .aq l vs hl ho fun j h1 h2 => (h j h1 h2).mono hN hw fun d hd => hx d ⟨_, List.getElem_mem h1, hd⟩
theorem look_mapQ (f : AV → AV) (l : List (Nat × List AV)) (j : Nat) : look (mapQ f l) j = (look l j).map fun cs => if isRef j = true then cs.map f else cs := by
  induction l with
  | nil => rfl
  | cons p r ih =>
    obtain ⟨k, cs⟩ := p
    simp only [mapQ, look]
    cases hb : Nat.beq k j
    · simpa using ih
    · have : k = j := Nat.eq_of_beq_eq_true hb
      subst this
      simp only [cond_true, Option.map_some]
      cases isRef k <;> rfl
theorem get_put (l : List (Nat × AV)) (i : Nat) (v : AV) (j : Nat) : get (put l i v) j = if j = i then v else get l j := by
  induction l with
  | nil => by_cases h : j = i <;> simp [put, get, h, Nat.beq_eq] <;> simp [Nat.beq_eq, Bool.cond_eq_ite] <;> intro e <;> exact absurd e.symm h
  | cons p r ih =>
    obtain ⟨k, u⟩ := p
    simp only [put]
    by_cases h1 : k < i
    · simp only [show Nat.blt k i = true by simpa [Nat.blt_eq] using h1, cond_true, get]
      by_cases h : j = i
      · subst h; simp [Nat.beq_refl]
      · have : Nat.beq i j = false := by rw [← Bool.not_eq_true, Nat.beq_eq]; exact fun e => h e.symm
        simp [this, h, get]
    · have hb : Nat.blt k i = false := by rw [← Bool.not_eq_true, Nat.blt_eq]; exact h1
      simp only [hb, cond_false]
      by_cases h2 : i = k
      · subst h2
        simp only [Nat.beq_refl, cond_true, get]
        by_cases h : j = i
        · subst h; simp [Nat.beq_refl]
        · have : Nat.beq i j = false := by rw [← Bool.not_eq_true, Nat.beq_eq]; exact fun e => h e.symm
          simp [this, h]
      · have : Nat.beq i k = false := by rw [← Bool.not_eq_true, Nat.beq_eq]; exact h2
        simp only [this, cond_false, get]
        by_cases h3 : k = j
        · subst h3
          simp [Nat.beq_refl, show ¬ k = i from fun e => h2 e.symm]
        · have : Nat.beq k j = false := by rw [← Bool.not_eq_true, Nat.beq_eq]; exact h3
          simp [this, ih]
theorem look_put (l : List (Nat × List AV)) (i : Nat) (v : List AV) (j : Nat) : look (put l i v) j = if j = i then some v else look l j := by
  induction l with
  | nil => by_cases h : j = i <;> simp [put, look, h, Nat.beq_eq] <;> simp [Nat.beq_eq, Bool.cond_eq_ite] <;> intro e <;> exact absurd e.symm h
  | cons p r ih =>
    obtain ⟨k, u⟩ := p
    simp only [put]
    by_cases h1 : k < i
    · simp only [show Nat.blt k i = true by simpa [Nat.blt_eq] using h1, cond_true, look]
      by_cases h : j = i
      · subst h; simp [Nat.beq_refl]
      · have : Nat.beq i j = false := by rw [← Bool.not_eq_true, Nat.beq_eq]; exact fun e => h e.symm
        simp [this, h, look]
    · have hb : Nat.blt k i = false := by rw [← Bool.not_eq_true, Nat.blt_eq]; exact h1
      simp only [hb, cond_false]
      by_cases h2 : i = k
      · subst h2
        simp only [Nat.beq_refl, cond_true, look]
        by_cases h : j = i
        · subst h; simp [Nat.beq_refl]
        · have : Nat.beq i j = false := by rw [← Bool.not_eq_true, Nat.beq_eq]; exact fun e => h e.symm
          simp [this, h]
      · have : Nat.beq i k = false := by rw [← Bool.not_eq_true, Nat.beq_eq]; exact h2
        simp only [this, cond_false, look]
        by_cases h3 : k = j
        · subst h3
          simp [Nat.beq_refl, show ¬ k = i from fun e => h2 e.symm]
        · have : Nat.beq k j = false := by rw [← Bool.not_eq_true, Nat.beq_eq]; exact h3
          simp [this, ih]
theorem look_del (l : List (Nat × List AV)) (i j : Nat) : look (del l i) j = if j = i then none else look l j := by
  induction l with
  | nil => simp [del, look]
  | cons p r ih =>
    obtain ⟨k, u⟩ := p
    simp only [del]
    by_cases h : k = i
    · subst h
      simp only [Nat.beq_refl, cond_true, ih, look]
      by_cases h2 : j = k
      · simp [h2]
      · have : Nat.beq k j = false := by rw [← Bool.not_eq_true, Nat.beq_eq]; exact fun e => h2 e.symm
        simp [this, h2]
    · have hb : Nat.beq k i = false := by rw [← Bool.not_eq_true, Nat.beq_eq]; exact h
      simp only [hb, cond_false, look, ih]
      by_cases h2 : k = j
      · subst h2; simp [Nat.beq_refl, h]
      · have : Nat.beq k j = false := by rw [← Bool.not_eq_true, Nat.beq_eq]; exact h2
        simp [this]
theorem get_mapS (f : AV → AV) (hf : f .gone = .gone) (l : List (Nat × AV)) (j : Nat) : get (mapS f l) j = (get l j).mapR f := by
  induction l with
  | nil => simp [mapS, get, AV.mapR, hf]
  | cons p r ih =>
    obtain ⟨k, u⟩ := p
    simp only [mapS, get]
    cases Nat.beq k j <;> simp [ih]
theorem get_keep (ks : List Nat) (l : List (Nat × AV)) (j : Nat) : get (keepS ks l) j = get l j ∨ get (keepS ks l) j = .gone := by
  induction ks with
  | nil => exact .inr rfl
  | cons k r ih =>
    simp only [keepS, get]
    cases hb : Nat.beq k j
    · simpa using ih
    · have : k = j := Nat.eq_of_beq_eq_true hb
      subst this; exact .inl rfl
theorem look_keep (ks : List Nat) (l : List (Nat × List AV)) (j : Nat) : look (keepL ks l) j = look l j ∨ look (keepL ks l) j = none := by
  induction ks with
  | nil => exact .inr rfl
  | cons k r ih =>
    simp only [keepL]
    cases hl : look l k with
    | none => exact ih
    | some cs =>
      simp only [look]
      cases hb : Nat.beq k j
      · simpa using ih
      · have : k = j := Nat.eq_of_beq_eq_true hb
        subst this; exact .inl hl.symm
theorem look_special : ∀ (l : List (Nat × List AV)) (j : Nat), look (special l) j = look l j ∨ look (special l) j = none
  | [], j => .inl rfl
  | (k, cs) :: r, j => by
    have ih := look_special r j
    simp only [special]
    cases hb : Nat.ble 1000000 k
    · simp only [cond_false, look]
      cases hj : Nat.beq k j
      · simpa using ih
      · have : k = j := Nat.eq_of_beq_eq_true hj
        subst this
        right
        have key : ∀ r : List (Nat × List AV), look (special r) k = none := by
          intro r
          induction r with
          | nil => rfl
          | cons p r ih =>
            obtain ⟨m, c⟩ := p
            simp only [special]
            cases hm : Nat.ble 1000000 m
            · simpa using ih
            · simp only [cond_true, look]
              cases hq : Nat.beq m k
              · simpa using ih
              · have : m = k := Nat.eq_of_beq_eq_true hq
                subst this; rw [hb] at hm; cases hm
        exact key r
    · simp only [cond_true, look]
      cases hj : Nat.beq k j
      · simpa using ih
      · simp
theorem look_append (l m : List (Nat × List AV)) (j : Nat) : look (l ++ m) j = match look l j with | some cs => some cs | none => look m j := by
  induction l with
  | nil => rfl
  | cons p r ih =>
    obtain ⟨k, cs⟩ := p
    simp only [List.cons_append, look]
    cases Nat.beq k j
    · simpa using ih
    · rfl
theorem look_clean (kr : List Nat) (l : List (Nat × List AV)) (j : Nat) : look (special l ++ keepL kr l) j = look l j ∨ look (special l ++ keepL kr l) j = none := by
  rw [look_append]
  rcases look_special l j with h | h
  · rw [h]; cases hl : look l j with
    | some cs => exact .inl rfl
    | none => rcases look_keep kr l j with h2 | h2 <;> simp [h2, hl]
  · rw [h]; exact look_keep kr l j
structure Ctx where
  E : Env
  w0 : World
  M : Nat → Prop
  X : Nat → Prop
  np : Nat
  nt : Nat
  A0 : Nat → Nat
  K0 : Nat → Nat
def Live (l : List (Nat × List AV)) (K : Nat → Nat) (d : Nat) : Prop := look l d ≠ none ∧ 0 < K d
def Still (C : Ctx) (A K : Nat → Nat) (l : List (Nat × List AV)) (w : World) (b : Nat) : Prop :=
  b < w.heap.size ∧ ¬ C.X b ∧ ∀ d, Live l K d → A d ≠ b
structure Row (E : Env) (w : World) (N : Nat → Prop) (blk k : Nat) (cs : List AV) : Prop where
  le : cs.length ≤ k
  row : 0 < k → ∃ cc e, w.heap[blk]? = some (.cells cc e (0, 0)) ∧ cc.size = k ∧ ∀ j (hj : j < cs.length), ∃ v, cc[j]? = some v ∧ FRep E w N cs[j] v
structure RowQ (E : Env) (np : Nat) (w : World) (N : Nat → Prop) (A K : Nat → Nat) (blk k : Nat) (cs : List AV) : Prop where
  le : cs.length ≤ k
  row : 0 < k → ∃ cc e, w.heap[blk]? = some (.cells cc e (0, 0)) ∧ cc.size = k ∧ ∀ j (hj : j < cs.length), ∃ v, cc[j]? = some v ∧ v.oneCell' = true ∧ cs[j].cellQ = true ∧ V1 E np w N A K cs[j] v
structure RowX (E : Env) (np : Nat) (w : World) (N : Nat → Prop) (A K : Nat → Nat) (d blk k : Nat) (cs : List AV) : Prop where
  flat : isRef d = false → Row E w N blk k cs
  ref : isRef d = true → RowQ E np w N A K blk k cs
def namesR (d : Nat) (cs : List AV) (e : Nat) : Prop := isRef d = true ∧ ∃ x ∈ cs, names1 e x
structure Rel (C : Ctx) (A K : Nat → Nat) (S : St) (a : Act) (w : World) : Prop where
  slot : ∀ i, VRep C.E C.np w (Still C A K S.l w) A K (get S.s i) (a.tmps.getD i undef)
  row : ∀ d cs, look S.l d = some cs → RowX C.E C.np w (Still C A K S.l w) A K d (A d) (K d) cs
  inj : ∀ d e, Live S.l K d → Live S.l K e → A d = A e → d = e
  own : ∀ d, Live S.l K d → (C.w0.heap.size ≤ A d ∨ C.M (A d)) ∧ ¬ C.X (A d) ∧ ¬ C.E.fixed (A d)
  arg : ∀ d, rootB C.np d = true → look S.l d ≠ none → A d = C.A0 d ∧ K d = C.K0 d
  glob : GOk C.E w
  frame : ∀ b, b < C.w0.heap.size → ¬ C.M b → w.heap[b]? = C.w0.heap[b]?
  size : C.w0.heap.size ≤ w.heap.size
  os : w.os = C.w0.os
  tape : w.tape = C.w0.tape
  output : w.output = C.w0.output
  defers : a.defers = []
  tsz : a.tmps.size = C.nt
  xlt : ∀ b, C.X b → b < C.w0.heap.size
  npl : C.np ≤ 1000000
theorem RowX.block {E : Env} {np : Nat} {w : World} {N : Nat → Prop} {A K : Nat → Nat} {d blk k : Nat} {cs : List AV} (h : RowX E np w N A K d blk k cs) (hk : 0 < k) : ∃ cc e, w.heap[blk]? = some (.cells cc e (0, 0)) ∧ cc.size = k := by
  cases hd : isRef d
  · obtain ⟨cc, e, h1, h2, _⟩ := (h.flat hd).row hk; exact ⟨cc, e, h1, h2⟩
  · obtain ⟨cc, e, h1, h2, _⟩ := (h.ref hd).row hk; exact ⟨cc, e, h1, h2⟩
theorem RowX.le {E : Env} {np : Nat} {w : World} {N : Nat → Prop} {A K : Nat → Nat} {d blk k : Nat} {cs : List AV} (h : RowX E np w N A K d blk k cs) : cs.length ≤ k := by
  cases hd : isRef d
  · exact (h.flat hd).le
  · exact (h.ref hd).le
theorem Live.lt {C : Ctx} {A K : Nat → Nat} {S : St} {a : Act} {w : World} (R : Rel C A K S a w) {d : Nat} (h : Live S.l K d) : A d < w.heap.size := by
  obtain ⟨h1, h2⟩ := h
  cases hl : look S.l d with
  | none => exact absurd hl h1
  | some cs =>
    obtain ⟨cc, e, hh, _⟩ := (R.row d cs hl).block h2
    exact (Array.getElem?_eq_some_iff.1 hh).1
theorem Rel.set1 {C : Ctx} {A K : Nat → Nat} {S : St} {a : Act} {w : World} (R : Rel C A K S a w) {d : Nat} (hd : d < C.nt) {x : AV} {v : Value}
    (h : VRep C.E C.np w (Still C A K S.l w) A K x v) : Rel C A K (S.putD (some d) x) (a.put (some d) v) w := by
  refine { R with slot := fun i => ?_, tsz := ?_ }
  · simp only [St.putD, get_put, Act.put]
    have hsz := R.tsz
    by_cases hi : i = d
    · subst hi
      simp only [if_true]
      have : (a.tmps.setIfInBounds i v).getD i undef = v := by
        simp [Array.getD_eq_getD_getElem?, Array.getElem?_setIfInBounds, hsz, hd]
      rw [this]; exact h
    · rw [if_neg hi]
      have : (a.tmps.setIfInBounds d v).getD i undef = a.tmps.getD i undef := by
        simp [Array.getD_eq_getD_getElem?, Array.getElem?_setIfInBounds, show ¬ d = i from fun e => hi e.symm]
      rw [this]; exact R.slot i
  · simpa [Act.put] using R.tsz
theorem Rel.putN {C : Ctx} {A K : Nat → Nat} {S : St} {a : Act} {w : World} (R : Rel C A K S a w) {dst : Option Nat} (hd : ∀ d, dst = some d → d < C.nt) {x : AV} {v : Value}
    (h : VRep C.E C.np w (Still C A K S.l w) A K x v) : Rel C A K (S.putD dst x) (a.put dst v) w := by
  cases dst with
  | none => exact R
  | some d => exact R.set1 (hd d rfl) h
structure Grew (w w' : World) : Prop where
  size : w.heap.size ≤ w'.heap.size
  block : ∀ b, b < w.heap.size → w'.heap[b]? = w.heap[b]?
  os : w'.os = w.os
  tape : w'.tape = w.tape
  output : w'.output = w.output
theorem Grew.refl (w : World) : Grew w w := ⟨Nat.le_refl _, fun _ _ => rfl, rfl, rfl, rfl⟩
theorem Grew.trans {a b c : World} (h : Grew a b) (k : Grew b c) : Grew a c :=
  ⟨Nat.le_trans h.size k.size, fun i hi => (k.block i (Nat.lt_of_lt_of_le hi h.size)).trans (h.block i hi), k.os.trans h.os, k.tape.trans h.tape, k.output.trans h.output⟩
theorem Grew.alloc (w : World) (o : Obj) : Grew w (w.alloc o) :=
  ⟨by show _ ≤ (w.heap.push o).size; simp, fun b hb => by show (w.heap.push o)[b]? = _; rw [Array.getElem?_push, if_neg (by omega)], rfl, rfl, rfl⟩
theorem Grew.drew (w : World) : Grew w w.drew := ⟨Nat.le_refl _, fun _ _ => rfl, rfl, rfl, rfl⟩
theorem fixed_lt {E : Env} {w : World} (G : GOk E w) {b : Nat} (h : E.fixed b) : b < w.heap.size := by
  obtain ⟨g, c, hs, rfl | rfl⟩ := h
  · have := G.var b c hs
    unfold World.cell? at this
    split at this
    · rename_i hh; exact (Array.getElem?_eq_some_iff.1 hh).1
    · cases this
  · obtain ⟨cc, e, hh, _⟩ := G.obj g c hs
    exact (Array.getElem?_eq_some_iff.1 hh).1
theorem GOk.same {E : Env} {w w' : World} (G : GOk E w) (h : ∀ b, E.fixed b → w'.heap[b]? = w.heap[b]?) : GOk E w' where
  var := fun g b hs => by rw [World.cell?_of_block (w := w) (h g ⟨g, b, hs, .inl rfl⟩)]; exact G.var g b hs
  obj := fun g b hs => by rw [h b.1 ⟨g, b, hs, .inr rfl⟩]; exact G.obj g b hs
  inj := G.inj
theorem Still.grew {C : Ctx} {A K : Nat → Nat} {l : List (Nat × List AV)} {w w' : World} (h : w.heap.size ≤ w'.heap.size) {b : Nat} (hb : Still C A K l w b) : Still C A K l w' b :=
  ⟨Nat.lt_of_lt_of_le hb.1 h, hb.2⟩
theorem Row.mono {E : Env} {w w' : World} {N N' : Nat → Prop} {blk k : Nat} {cs : List AV} (hN : ∀ b, N b → N' b) (hw : ∀ b, N b → w'.heap[b]? = w.heap[b]?) (hb : 0 < k → w'.heap[blk]? = w.heap[blk]?)
    (h : Row E w N blk k cs) : Row E w' N' blk k cs where
  le := h.le
  row := fun hk => by
    obtain ⟨cc, e, h1, h2, h3⟩ := h.row hk
    exact ⟨cc, e, by rw [hb hk]; exact h1, h2, fun j hj => let ⟨v, a, b⟩ := h3 j hj; ⟨v, a, b.mono hN hw⟩⟩
theorem RowQ.mono {E : Env} {np : Nat} {w w' : World} {N N' : Nat → Prop} {A K A' K' : Nat → Nat} {blk k : Nat} {cs : List AV} (hN : ∀ b, N b → N' b) (hw : ∀ b, N b → w'.heap[b]? = w.heap[b]?) (hb : 0 < k → w'.heap[blk]? = w.heap[blk]?)
    (hx : ∀ e, (∃ x ∈ cs, names1 e x) → A' e = A e ∧ K' e = K e) (h : RowQ E np w N A K blk k cs) : RowQ E np w' N' A' K' blk k cs where
  le := h.le
  row := fun hk => by
    obtain ⟨cc, e, h1, h2, h3⟩ := h.row hk
    exact ⟨cc, e, by rw [hb hk]; exact h1, h2, fun j hj => let ⟨v, a, o, q, b⟩ := h3 j hj; ⟨v, a, o, q, b.mono hN hw fun d hd => hx d ⟨_, List.getElem_mem hj, hd⟩⟩⟩
theorem RowX.mono {E : Env} {np : Nat} {w w' : World} {N N' : Nat → Prop} {A K A' K' : Nat → Nat} {d blk k : Nat} {cs : List AV} (hN : ∀ b, N b → N' b) (hw : ∀ b, N b → w'.heap[b]? = w.heap[b]?) (hb : 0 < k → w'.heap[blk]? = w.heap[blk]?)
    (hx : ∀ e, namesR d cs e → A' e = A e ∧ K' e = K e) (h : RowX E np w N A K d blk k cs) : RowX E np w' N' A' K' d blk k cs where
  flat := fun hd => (h.flat hd).mono hN hw hb
  ref := fun hd => (h.ref hd).mono hN hw hb fun e he => hx e ⟨hd, he⟩
theorem Rel.grew {C : Ctx} {A K : Nat → Nat} {S : St} {a : Act} {w w' : World} (R : Rel C A K S a w) (G : Grew w w') : Rel C A K S a w' where
  slot := fun i => (R.slot i).mono (fun b hb => hb.grew G.size) (fun b hb => G.block b hb.1) (fun _ _ => ⟨rfl, rfl⟩)
  row := fun d cs h => (R.row d cs h).mono (fun b hb => hb.grew G.size) (fun b hb => G.block b hb.1) (fun hk => G.block _ (Live.lt R ⟨by rw [h]; simp, hk⟩)) (fun _ _ => ⟨rfl, rfl⟩)
  inj := R.inj
  own := R.own
  arg := R.arg
  glob := R.glob.same fun b hb => G.block b (fixed_lt R.glob hb)
  frame := fun b hb hm => (G.block b (Nat.lt_of_lt_of_le hb R.size)).trans (R.frame b hb hm)
  size := Nat.le_trans R.size G.size
  os := G.os.trans R.os
  tape := G.tape.trans R.tape
  output := G.output.trans R.output
  defers := R.defers
  tsz := R.tsz
  xlt := R.xlt
  npl := R.npl
theorem Rel.still_new {C : Ctx} {A K : Nat → Nat} {S : St} {a : Act} {w : World} (R : Rel C A K S a w) (o : Obj) : Still C A K S.l (w.alloc o) w.heap.size :=
  ⟨by show _ < (w.heap.push o).size; simp, fun hx => by have := R.xlt _ hx; have := R.size; omega, fun d hd => by have := Live.lt R hd; omega⟩
def upd {α : Type} (f : Nat → α) (d : Nat) (x : α) (i : Nat) : α := if i = d then x else f i
theorem upd_same {α : Type} (f : Nat → α) (d : Nat) (x : α) : upd f d x d = x := by simp [upd]
theorem upd_other {α : Type} (f : Nat → α) (d : Nat) (x : α) {i : Nat} (h : i ≠ d) : upd f d x i = f i := by simp [upd, h]
theorem names1_kill {d e : Nat} {x : AV} (h : names1 e (kill1 d x)) : e ≠ d ∧ names1 e x := by
  cases x <;> simp only [kill1, names1] at h
  case rf f o =>
    cases hb : Nat.beq f d
    · simp only [hb, cond_false, names1] at h; subst h
      exact ⟨fun hh => by subst hh; simp at hb, rfl⟩
    · simp [hb, names1] at h
  case rs f o n sz =>
    cases hb : Nat.beq f d
    · simp only [hb, cond_false, names1] at h; subst h
      exact ⟨fun hh => by subst hh; simp at hb, rfl⟩
    · simp [hb, names1] at h
  case fn f l => cases l <;> simp [kill1, names1] at h
theorem kill1_cellQ {d : Nat} {x : AV} (h : x.cellQ = true) : (kill1 d x).cellQ = true := by
  cases x
  case rf e o => simp only [kill1]; cases Nat.beq e d <;> rfl
  case rs e o n sz => simp only [kill1]; cases Nat.beq e d <;> rfl
  all_goals first | exact h | cases h
theorem namesV_kill {d e : Nat} {x : AV} (h : namesV e (x.mapR (kill1 d))) : e ≠ d := by
  cases x <;> simp only [AV.mapR] at h
  case tp l =>
    obtain ⟨y, hy, hn⟩ := h
    obtain ⟨u, _, rfl⟩ := List.mem_map.1 hy
    exact (names1_kill hn).1
  case fn f l =>
    obtain ⟨y, hy, hn⟩ := h
    obtain ⟨u, _, rfl⟩ := List.mem_map.1 hy
    exact (names1_kill hn).1
  case aq l =>
    obtain ⟨y, hy, hn⟩ := h
    obtain ⟨u, _, rfl⟩ := List.mem_map.1 hy
    exact (names1_kill hn).1
  case rf f o => exact (names1_kill (x := .rf f o) (by simp only [kill1] at h ⊢; cases hb : Nat.beq f d <;> simp_all [namesV, names1])).1
  case rs f o n sz => exact (names1_kill (x := .rs f o n sz) (by simp only [kill1] at h ⊢; cases hb : Nat.beq f d <;> simp_all [namesV, names1])).1
  all_goals simp [kill1, namesV, names1] at h
theorem V1.kill {E : Env} {np : Nat} {w : World} {N : Nat → Prop} {A K : Nat → Nat} {x : AV} {v : Value} (d : Nat) (h : V1 E np w N A K x v) : V1 E np w N A K (kill1 d x) v := by
  cases h with
  | flat h => cases h <;> first | exact .flat (by constructor <;> assumption) | (refine .flat (.sl _ _ _ _ _ ?_ ?_ ?_) <;> assumption) | (refine .flat (.ie _ _ _ _ _ ?_ ?_ ?_) <;> assumption)
  | ag cells cs hl h => exact .ag cells cs hl h
  | rf e o => simp only [kill1]; cases Nat.beq e d
              · exact .rf e o
              · exact .gone _
  | rs e o n sz base c hd hn hk hb => simp only [kill1]; cases Nat.beq e d
                                      · exact .rs e o n sz base c hd hn hk hb
                                      · exact .gone _
  | el cells j blk off cs hN hc h1 => exact .el cells j blk off cs hN hc h1
  | gl g => exact .gl g
  | fn f => exact .fn f
  | un => exact .un
  | gone v => exact .gone v
theorem VRep.map {E : Env} {np : Nat} {w w' : World} {N N' : Nat → Prop} {A K A' K' : Nat → Nat} {f : AV → AV} (hf : ∀ x v, V1 E np w N A K x v → V1 E np w' N' A' K' (f x) v)
    (hfn : ∀ g l, f (.fn g l) = .gone ∨ f (.fn g l) = .fn g l) {x : AV} {v : Value} (h : VRep E np w N A K x v) : VRep E np w' N' A' K' (x.mapR f) v := by
  cases h with
  | one h =>
    cases x
    case tp l => cases h with | flat h => cases h
    case fn g l => cases h with
                   | flat h => cases h
                   | fn f => exact .one (.fn _)
    case aq l => cases h with | flat h => cases h
    all_goals exact .one (hf _ _ h)
  | tp l vs hl h => exact .tp _ vs (by simpa using hl) fun j h1 h2 => by simpa using hf _ _ (h j (by simpa using h1) h2)
  | fn g l vs hl h => exact .fn _ _ vs (by simpa using hl) fun j h1 h2 => by simpa using hf _ _ (h j (by simpa using h1) h2)
  | aq l vs hl ho h => exact .aq _ vs (by simpa using hl) ho fun j h1 h2 => by simpa using hf _ _ (h j (by simpa using h1) h2)
theorem VRep.kill {E : Env} {np : Nat} {w : World} {N : Nat → Prop} {A K : Nat → Nat} {x : AV} {v : Value} (d : Nat) (h : VRep E np w N A K x v) : VRep E np w N A K (x.mapR (kill1 d)) v :=
  h.map (fun _ _ h => h.kill d) (fun g l => by cases l <;> simp [kill1])
theorem live_mapQ {f : AV → AV} {l : List (Nat × List AV)} {K : Nat → Nat} {e : Nat} : Live (mapQ f l) K e ↔ Live l K e := by
  unfold Live
  rw [look_mapQ]
  cases look l e <;> simp
theorem live_upd {f : AV → AV} {l : List (Nat × List AV)} {K : Nat → Nat} {d k : Nat} {cs : List AV} {e : Nat} : Live (put (mapQ f (del l d)) d cs) (upd K d k) e ↔ (e = d ∧ 0 < k) ∨ (e ≠ d ∧ Live l K e) := by
  unfold Live
  rw [look_put, look_mapQ, look_del]
  by_cases h : e = d
  · subst h; simp [upd]
  · simp only [h, if_false, upd]
    cases look l e <;> simp [h]
theorem RowX.kill {E : Env} {np : Nat} {w : World} {N : Nat → Prop} {A K : Nat → Nat} {e blk k : Nat} {cs : List AV} (d : Nat) (h : RowX E np w N A K e blk k cs) : RowX E np w N A K e blk k (if isRef e = true then cs.map (kill1 d) else cs) where
  flat := fun he => by rw [if_neg (by rw [he]; simp)]; exact h.flat he
  ref := fun he => by
    rw [if_pos he]
    have hr := h.ref he
    refine ⟨by simpa using hr.le, fun hk => ?_⟩
    obtain ⟨cc, t, h1, h2, h3⟩ := hr.row hk
    refine ⟨cc, t, h1, h2, fun j hj => ?_⟩
    obtain ⟨v, a, o, q, b⟩ := h3 j (by simpa using hj)
    exact ⟨v, a, o, by simpa using kill1_cellQ q, by simpa using b.kill d⟩
theorem namesR_kill {d e : Nat} {cs : List AV} {j : Nat} (h : namesR j (if isRef j = true then cs.map (kill1 d) else cs) e) : e ≠ d := by
  obtain ⟨hj, x, hx, hn⟩ := h
  rw [if_pos hj] at hx
  obtain ⟨u, _, rfl⟩ := List.mem_map.1 hx
  exact (names1_kill hn).1
theorem Rel.reroot {C : Ctx} {A K : Nat → Nat} {S : St} {a : Act} {w w' : World} (R : Rel C A K S a w) {d b k : Nat} {cs : List AV} (hnp : rootB C.np d = false)
    (hsize : w.heap.size ≤ w'.heap.size) (hblock : ∀ b', b' < w.heap.size → (0 < k → b' ≠ b) → w'.heap[b']? = w.heap[b']?)
    (hos : w'.os = w.os) (htape : w'.tape = w.tape) (hout : w'.output = w.output)
    (hown : 0 < k → (C.w0.heap.size ≤ b ∨ C.M b) ∧ ¬ C.X b ∧ ¬ C.E.fixed b)
    (hN : 0 < k → ∀ b', Still C A K S.l w b' → b' ≠ b)
    (hA : 0 < k → ∀ e, e ≠ d → Live S.l K e → A e ≠ b)
    (hrow : RowX C.E C.np w' (Still C (upd A d b) (upd K d k) (put (mapQ (kill1 d) (del S.l d)) d cs) w') (upd A d b) (upd K d k) d b k cs) :
    Rel C (upd A d b) (upd K d k) { s := mapS (kill1 d) S.s, l := put (mapQ (kill1 d) (del S.l d)) d cs } a w' := by
  have hst : ∀ b', Still C A K S.l w b' → Still C (upd A d b) (upd K d k) (put (mapQ (kill1 d) (del S.l d)) d cs) w' b' := fun b' hb' => by
    refine ⟨Nat.lt_of_lt_of_le hb'.1 hsize, hb'.2.1, fun e he => ?_⟩
    rcases live_upd.1 he with ⟨rfl, hk⟩ | ⟨hne, hl⟩
    · rw [upd_same]; exact fun e => hN hk b' hb' e.symm
    · rw [upd_other _ _ _ hne]; exact hb'.2.2 e hl
  have hbl : ∀ b', Still C A K S.l w b' → w'.heap[b']? = w.heap[b']? := fun b' hb' => hblock b' hb'.1 (fun hk => hN hk b' hb')
  constructor
  case slot =>
    intro i
    show VRep _ _ _ _ _ _ (get (mapS (kill1 d) S.s) i) _
    rw [get_mapS _ rfl]
    refine ((R.slot i).kill d).mono hst hbl fun e he => ?_
    have := namesV_kill he
    exact ⟨upd_other _ _ _ this, upd_other _ _ _ this⟩
  case row =>
    intro e cs' he
    simp only [look_put, look_mapQ, look_del] at he
    by_cases hed : e = d
    · subst hed
      simp only [if_true, Option.some.injEq] at he
      subst he
      rw [upd_same, upd_same]; exact hrow
    · simp only [hed, if_false, Option.map_eq_some_iff] at he
      obtain ⟨cs0, he, rfl⟩ := he
      rw [upd_other _ _ _ hed, upd_other _ _ _ hed]
      refine ((R.row e cs0 he).kill d).mono hst hbl (fun hk => hblock _ (Live.lt R ⟨by rw [he]; simp, hk⟩) fun hk0 => hA hk0 e hed ⟨by rw [he]; simp, hk⟩) fun f hf => ?_
      have := namesR_kill hf
      exact ⟨upd_other _ _ _ this, upd_other _ _ _ this⟩
  case inj =>
    intro e f he hf h
    rcases live_upd.1 he with ⟨rfl, hk⟩ | ⟨hne, hl⟩ <;> rcases live_upd.1 hf with ⟨rfl, hk'⟩ | ⟨hnf, hl'⟩
    · rfl
    · rw [upd_same, upd_other _ _ _ hnf] at h; exact absurd h.symm (hA hk f hnf hl')
    · rw [upd_same, upd_other _ _ _ hne] at h; exact absurd h (hA hk' e hne hl)
    · rw [upd_other _ _ _ hne, upd_other _ _ _ hnf] at h; exact R.inj e f hl hl' h
  case own =>
    intro e he
    rcases live_upd.1 he with ⟨rfl, hk⟩ | ⟨hne, hl⟩
    · rw [upd_same]; exact hown hk
    · rw [upd_other _ _ _ hne]; exact R.own e hl
  case arg =>
    intro e he hl
    have hne : e ≠ d := fun h => by subst h; rw [he] at hnp; cases hnp
    rw [upd_other _ _ _ hne, upd_other _ _ _ hne]
    refine R.arg e he ?_
    simp only [look_put, look_mapQ, look_del, hne, if_false] at hl
    intro h; rw [h] at hl; exact hl rfl
  case glob => exact R.glob.same fun b' hb' => hblock b' (fixed_lt R.glob hb') fun hk e => (hown hk).2.2 (e ▸ hb')
  case frame =>
    intro b' hb' hm
    rw [hblock b' (Nat.lt_of_lt_of_le hb' R.size) fun hk e => by
      subst e
      rcases (hown hk).1 with h | h
      · omega
      · exact hm h]
    exact R.frame b' hb' hm
  case size => exact Nat.le_trans R.size hsize
  case os => exact hos.trans R.os
  case tape => exact htape.trans R.tape
  case output => exact hout.trans R.output
  case defers => exact R.defers
  case tsz => exact R.tsz
  case xlt => exact R.xlt
  case npl => exact R.npl
theorem live_put {l : List (Nat × List AV)} {K : Nat → Nat} {d : Nat} {cs : List AV} (hd : look l d ≠ none) {e : Nat} : Live (put l d cs) K e ↔ Live l K e := by
  unfold Live
  rw [look_put]
  by_cases h : e = d
  · subst h; simp [hd]
  · simp [h]
theorem Rel.setRow {C : Ctx} {A K : Nat → Nat} {S : St} {a : Act} {w w' : World} (R : Rel C A K S a w) {d : Nat} {cs : List AV} (hd : look S.l d ≠ none) (hk : 0 < K d)
    (hsize : w.heap.size = w'.heap.size) (hblock : ∀ b', b' ≠ A d → w'.heap[b']? = w.heap[b']?)
    (hos : w'.os = w.os) (htape : w'.tape = w.tape) (hout : w'.output = w.output)
    (hrow : RowX C.E C.np w' (Still C A K S.l w) A K d (A d) (K d) cs) :
    Rel C A K { s := S.s, l := put S.l d cs } a w' := by
  have hlive : Live S.l K d := ⟨hd, hk⟩
  have hst : ∀ b', Still C A K S.l w b' → Still C A K (put S.l d cs) w' b' := fun b' hb' => ⟨by rw [← hsize]; exact hb'.1, hb'.2.1, fun e he => hb'.2.2 e ((live_put hd).1 he)⟩
  have hbl : ∀ b', Still C A K S.l w b' → w'.heap[b']? = w.heap[b']? := fun b' hb' => hblock b' fun e => hb'.2.2 d hlive e.symm
  constructor
  case slot => exact fun i => (R.slot i).mono hst hbl fun _ _ => ⟨rfl, rfl⟩
  case row =>
    intro e cs' he
    simp only [look_put] at he
    by_cases hed : e = d
    · subst hed
      simp only [if_true, Option.some.injEq] at he
      subst he
      exact hrow.mono hst (fun _ _ => rfl) (fun _ => rfl) (fun _ _ => ⟨rfl, rfl⟩)
    · simp only [hed, if_false] at he
      exact (R.row e cs' he).mono hst hbl (fun hke => hblock _ fun h => hed (R.inj e d ⟨by rw [he]; simp, hke⟩ hlive h)) (fun _ _ => ⟨rfl, rfl⟩)
  case inj => exact fun e f he hf h => R.inj e f ((live_put hd).1 he) ((live_put hd).1 hf) h
  case own => exact fun e he => R.own e ((live_put hd).1 he)
  case arg =>
    intro e he hl
    refine R.arg e he ?_
    simp only [look_put] at hl
    by_cases hed : e = d
    · subst hed; exact hd
    · simpa [hed] using hl
  case glob => exact R.glob.same fun b' hb' => hblock b' fun e => (R.own d hlive).2.2 (e ▸ hb')
  case frame =>
    intro b' hb' hm
    rw [hblock b' fun e => by
      subst e
      rcases (R.own d hlive).1 with h | h
      · omega
      · exact hm h]
    exact R.frame b' hb' hm
  case size => rw [← hsize]; exact R.size
  case os => exact hos.trans R.os
  case tape => exact htape.trans R.tape
  case output => exact hout.trans R.output
  case defers => exact R.defers
  case tsz => exact R.tsz
  case xlt => exact R.xlt
  case npl => exact R.npl
theorem live_less {l l' : List (Nat × List AV)} {K : Nat → Nat} (hl : ∀ d, look l' d = look l d ∨ look l' d = none) {e : Nat} (he : Live l' K e) : Live l K e := by
  refine ⟨?_, he.2⟩
  rcases hl e with h | h
  · rw [← h]; exact he.1
  · exact absurd h he.1
theorem Rel.less {C : Ctx} {A K : Nat → Nat} {S S' : St} {a : Act} {w : World} (R : Rel C A K S a w)
    (hl : ∀ d, look S'.l d = look S.l d ∨ look S'.l d = none)
    (hs : ∀ i, VRep C.E C.np w (Still C A K S'.l w) A K (get S'.s i) (a.tmps.getD i undef)) : Rel C A K S' a w := by
  have hlive : ∀ e, Live S'.l K e → Live S.l K e := fun e he => live_less hl he
  have hst : ∀ b', Still C A K S.l w b' → Still C A K S'.l w b' := fun b' hb' => ⟨hb'.1, hb'.2.1, fun e he => hb'.2.2 e (hlive e he)⟩
  refine { R with slot := hs, row := fun d cs h => ?_, inj := fun d e hd he h => R.inj d e (hlive d hd) (hlive e he) h, own := fun d hd => R.own d (hlive d hd), arg := fun d hd h => R.arg d hd ?_ }
  · rcases hl d with h1 | h1
    · exact (R.row d cs (by rw [← h1]; exact h)).mono hst (fun _ _ => rfl) (fun _ => rfl) (fun _ _ => ⟨rfl, rfl⟩)
    · rw [h1] at h; cases h
  · rcases hl d with h1 | h1
    · rw [← h1]; exact h
    · exact absurd h1 h
theorem Still.less {C : Ctx} {A K : Nat → Nat} {l l' : List (Nat × List AV)} {w : World} (hl : ∀ d, look l' d = look l d ∨ look l' d = none) {b : Nat} (h : Still C A K l w b) : Still C A K l' w b :=
  ⟨h.1, h.2.1, fun e he => h.2.2 e (live_less hl he)⟩
theorem Rel.clean {C : Ctx} {A K : Nat → Nat} {S : St} {a : Act} {w : World} (R : Rel C A K S a w) (ks kr : List Nat) : Rel C A K (S.clean ks kr) a w := by
  have hl : ∀ d, look (St.clean S ks kr).l d = look S.l d ∨ look (St.clean S ks kr).l d = none := fun d => look_clean kr S.l d
  refine R.less hl fun i => ?_
  rcases get_keep ks S.s i with h | h
  · show VRep _ _ _ _ _ _ (get (keepS ks S.s) i) _
    rw [h]
    exact (R.slot i).mono (fun b hb => hb.less hl) (fun _ _ => rfl) (fun _ _ => ⟨rfl, rfl⟩)
  · show VRep _ _ _ _ _ _ (get (keepS ks S.s) i) _
    rw [h]; exact .one (.gone _)
theorem frz1_V {C : Ctx} {A K : Nat → Nat} {S : St} {a : Act} {w : World} (R : Rel C A K S a w) {d : Nat} {cs : List AV} (hd : look S.l d = some cs) (hf : isRef d = false) {N : Nat → Prop} (hN : ∀ b, Still C A K S.l w b → N b) (hA : 0 < K d → N (A d))
    {x : AV} {v : Value} (h : V1 C.E C.np w (Still C A K S.l w) A K x v) : V1 C.E C.np w N A K (frz1 d cs x) v := by
  cases h with
  | flat h => cases h.mono hN (fun _ _ => rfl) <;> first | exact .flat (by constructor <;> assumption) | (refine .flat (.sl _ _ _ _ _ ?_ ?_ ?_) <;> assumption) | (refine .flat (.ie _ _ _ _ _ ?_ ?_ ?_) <;> assumption)
  | ag cells cs hl h => exact .ag cells cs hl fun j h1 h2 => (h j h1 h2).mono hN (fun _ _ => rfl)
  | rf e o => simp only [frz1]; cases Nat.beq e d
              · exact .rf e o
              · exact .gone _
  | rs e o n sz base c hnp hn hk hb =>
    simp only [frz1]
    cases hb' : Nat.beq e d
    · exact .rs e o n sz base c hnp hn hk hb
    · have := Nat.eq_of_beq_eq_true hb'
      subst this
      simp only [cond_true]
      have hrow := (R.row e cs hd).flat hf
      by_cases hk0 : 0 < K e
      · obtain ⟨cc, t, h1, h2, h3⟩ := hrow.row hk0
        have hlen := hrow.le
        refine .flat (.sl _ n base c (fun j => cc.getD (o + j) undef) hn (.inr ⟨A e, o, hb hk0, hA hk0, fun j hj => ?_⟩) fun j hj => ?_)
        · simp only [List.length_take, List.length_drop] at hj
          obtain ⟨v, hv, _⟩ := h3 (o + j) (by omega)
          simp [World.cell?, h1, hv, Array.getD_eq_getD_getElem?]
        · simp only [List.length_take, List.length_drop] at hj
          obtain ⟨v, hv, hf⟩ := h3 (o + j) (by omega)
          have : cc.getD (o + j) undef = v := by simp [Array.getD_eq_getD_getElem?, hv]
          rw [this]
          simp only [List.getElem_take, List.getElem_drop]
          exact hf.mono hN (fun _ _ => rfl)
      · have : cs = [] := by have := hrow.le; cases cs <;> simp_all
        subst this
        refine .flat (.sl _ n base c (fun _ => undef) hn (.inl (by simp)) fun j hj => by simp at hj)
  | el cells j blk off cs hN0 hc h1 => exact .el cells j blk off cs (hN _ hN0) hc fun j hj => (h1 j hj).mono hN (fun _ _ => rfl)
  | gl g => exact .gl g
  | fn f => exact .fn f
  | un => exact .un
  | gone v => exact .gone v
theorem frz2_V {C : Ctx} {A K : Nat → Nat} {S : St} {a : Act} {w : World} (R : Rel C A K S a w) {d : Nat} {cs : List AV} (hd : look S.l d = some cs) (hf : isRef d = false) {N : Nat → Prop} (hN : ∀ b, Still C A K S.l w b → N b) (hA : 0 < K d → N (A d))
    {x : AV} {v : Value} (h : V1 C.E C.np w (Still C A K S.l w) A K x v) : V1 C.E C.np w N A K (frz2 d cs x) v := by
  cases x
  case rf e o =>
    cases h with
    | flat h => cases h
    | rf _ _ =>
      simp only [frz2]
      cases hb : Nat.beq e d
      · exact .rf e o
      · have := Nat.eq_of_beq_eq_true hb
        subst this
        simp only [cond_true]
        cases hc : cs.isEmpty
        · simp only [cond_false]
          have hrow := (R.row e cs hd).flat hf
          have hlen := hrow.le
          have hk0 : 0 < K e := by
            cases cs with
            | nil => cases hc
            | cons c r => simp only [List.length_cons] at hlen; omega
          obtain ⟨cc, t, h1, h2, h3⟩ := hrow.row hk0
          have := V1.el (E := C.E) (np := C.np) (w := w) (N := N) (A := A) (K := K) cs o (A e) 0 (fun j => cc.getD j undef) (hA hk0) (fun j hj => by
            obtain ⟨v, hv, _⟩ := h3 j hj
            simp [World.cell?, h1, hv, Array.getD_eq_getD_getElem?]) (fun j hj => by
            obtain ⟨v, hv, hf⟩ := h3 j hj
            have : cc.getD j undef = v := by simp [Array.getD_eq_getD_getElem?, hv]
            rw [this]
            exact hf.mono hN (fun _ _ => rfl))
          rwa [Nat.zero_add] at this
        · exact .gone _
  all_goals exact frz1_V R hd hf hN hA h
theorem frz1_cellQ {d : Nat} {cs : List AV} {x : AV} (h : x.cellQ = true) : (frz1 d cs x).cellQ = true := by
  cases x
  case rf e o => simp only [frz1]; cases Nat.beq e d <;> rfl
  case rs e o n sz => simp only [frz1]; cases Nat.beq e d <;> rfl
  all_goals first | exact h | cases h
theorem Rel.frz {C : Ctx} {A K : Nat → Nat} {S : St} {a : Act} {w : World} (R : Rel C A K S a w) {d : Nat} {cs : List AV} (hd : look S.l d = some cs) (hf : isRef d = false) :
    Rel C A K { s := mapS (frz2 d cs) S.s, l := mapQ (frz1 d cs) (del S.l d) } a w := by
  have live : ∀ e, Live (mapQ (frz1 d cs) (del S.l d)) K e ↔ (e ≠ d ∧ Live S.l K e) := fun e => by
    rw [live_mapQ]; unfold Live; rw [look_del]; by_cases h : e = d <;> simp [h]
  have hst : ∀ b, Still C A K S.l w b → Still C A K (mapQ (frz1 d cs) (del S.l d)) w b := fun b hb => ⟨hb.1, hb.2.1, fun e he => hb.2.2 e ((live e).1 he).2⟩
  have hA : 0 < K d → Still C A K (mapQ (frz1 d cs) (del S.l d)) w (A d) := fun hk => by
    have hlive : Live S.l K d := ⟨by rw [hd]; simp, hk⟩
    refine ⟨Live.lt R hlive, (R.own d hlive).2.1, fun e he hh => ?_⟩
    obtain ⟨hne, he1⟩ := (live e).1 he
    exact hne (R.inj e d he1 hlive hh)
  refine { R with slot := fun i => ?_, row := fun e ds he => ?_, inj := fun e f he hf' h => R.inj e f ((live e).1 he).2 ((live f).1 hf').2 h, own := fun e he => R.own e ((live e).1 he).2, arg := fun e he hl => R.arg e he ?_ }
  · show VRep _ _ _ _ _ _ (get (mapS (frz2 d cs) S.s) i) _
    rw [get_mapS _ rfl]
    exact (R.slot i).map (fun x v h => frz2_V R hd hf hst hA h) (fun g l => by cases l <;> simp [frz2, frz1])
  · simp only [look_mapQ, look_del] at he
    by_cases hed : e = d
    · simp [hed] at he
    · simp only [hed, if_false, Option.map_eq_some_iff] at he
      obtain ⟨c0, he, rfl⟩ := he
      have hr := R.row e c0 he
      refine ⟨fun hf' => ?_, fun hf' => ?_⟩
      · rw [if_neg (by rw [hf']; simp)]; exact (hr.flat hf').mono hst (fun _ _ => rfl) (fun _ => rfl)
      · rw [if_pos hf']
        refine ⟨by simpa using (hr.ref hf').le, fun hk => ?_⟩
        obtain ⟨cc, t, h1, h2, h3⟩ := (hr.ref hf').row hk
        refine ⟨cc, t, h1, h2, fun j hj => ?_⟩
        obtain ⟨v, a, o, q, b⟩ := h3 j (by simpa using hj)
        exact ⟨v, a, o, by simpa using frz1_cellQ q, by simpa using frz1_V R hd hf hst hA b⟩
  · simp only [look_mapQ, look_del] at hl
    intro h
    by_cases hed : e = d
    · simp [hed] at hl
    · simp [hed, h] at hl
theorem Rel.freezes {C : Ctx} {A K : Nat → Nat} {a : Act} {w : World} : ∀ (fr : List Nat) {S S1 : St}, Rel C A K S a w → Zab.freezes S fr = some S1 → Rel C A K S1 a w
  | [], S, S1, R, h => by simp only [Zab.freezes, Option.some.injEq] at h; exact h ▸ R
  | d :: r, S, S1, R, h => by
    simp only [Zab.freezes, St.freeze] at h
    cases hf : isRef d
    · cases hd : look S.l d with
      | none => simp only [hd, hf, cond_false] at h; exact Rel.freezes r R h
      | some cs => simp only [hd, hf, cond_false] at h; exact Rel.freezes r (R.frz hd hf) h
    · simp [hf] at h
end Zab
namespace Zab
open Go
def sizeOfT (P : Program) (t : TypeId) : Option Nat := (P.info? t).map (·.size)
def bytesOfT (P : Program) (t : TypeId) : Option Nat := (P.info? t).map (·.bytes)
def zeroOfT (P : Program) (t : TypeId) : Option Value := (P.info? t).bind (·.zero)
def aggOfT (P : Program) (t : TypeId) : Option (Option Nat) :=
  match P.underlying t with
  | some (.struct _) | some (.array _ _) => (sizeOfT P t).map some
  | some _ => some none
  | none => none
def zeroCellsOf (v : Value) : Option (List AV) :=
  bif v.cells.toList.all flatConst then some (v.cells.toList.map constAV) else none
def isIntField (P : Program) (j : Nat) (f : Field) : Bool :=
  (match P.underlying f.type with | some (.int _) => true | _ => false) && (match sizeOfT P f.type with | some 1 => true | _ => false) && Nat.beq f.offset j && !(f.name == "_")
def intFields (P : Program) : Nat → List Field → Bool
  | _, [] => true
  | j, f :: r => isIntField P j f && intFields P (j + 1) r
def isConstO : Operand → Bool
  | .const _ => true
  | _ => false
def isNilS : Operand → Bool
  | .const (.slice none 0 0) => true
  | _ => false
def ekOf (P : Program) (op : BinOp) (t : TypeId) (x y : Operand) : EqKind :=
  match op with
  | .eql | .neq =>
    match P.underlying t with
    | some .bool => .bool
    | some .string => .str
    | some (.interface _) => if isConstO x || isConstO y then .ifaceC else .iface
    | some (.pointer _) => .ptr
    | some (.slice _) => if isNilS y then .slc else .no
    | some (.struct fs) => if intFields P 0 fs.toList && !P.stoodInHeld t && !P.eqGuardType P.depth t then .ints fs.size else .no
    | _ => .no
  | _ => .no
abbrev Ann := List (Nat × List (Nat × Nat))
def annOf : Ann → Nat → Option (List (Nat × Nat))
  | [], _ => none
  | (j, l) :: r, d => bif Nat.beq j d then some l else annOf r d
def annD (ann : Ann) (dst : Option Nat) : Option (List (Nat × Nat)) :=
  match dst with
  | some d => annOf ann d
  | none => some []
def structParts (P : Program) (fs : Array Field) : List (Nat × Operand) → Option (List (Nat × Nat × Operand))
  | [] => some []
  | (i, x) :: r =>
    match fs[i]? with
    | some f => (match sizeOfT P f.type, structParts P fs r with | some sz, some ps => some ((f.offset, sz, x) :: ps) | _, _ => none)
    | none => none
def rowParts (sz : Nat) : List (Nat × Operand) → List (Nat × Nat × Operand)
  | [] => []
  | (i, x) :: r => (i * sz, sz, x) :: rowParts sz r
def isSliceT (P : Program) (t : TypeId) : Option Nat :=
  match P.underlying t with
  | some (.slice e) => some e
  | _ => none
def isMark (ann : Ann) (dst : Option Nat) (m : Nat) : Option (List (Nat × Nat)) :=
  match dst with
  | some d => (match annOf ann d with | some ((a, b) :: r) => bif Nat.beq a m && Nat.beq b m then some r else none | _ => none)
  | none => none
def isE (ann : Ann) (dst : Option Nat) : Bool :=
  match dst with
  | some d => (match annOf ann d with | some [(9, 9)] => true | _ => false)
  | none => false
def cCall (ann : Ann) (o : Oper) (c : Call) (P : Program) : Option AOp :=
  match c.callee with
  | .value f =>
    (match annD ann o.dst with
     | some own => some (.callK f c.args.toList own)
     | none => some (.call f c.args.toList))
  | .builtin .len =>
    (match c.args.toList, (c.argTypes[0]?).bind P.underlying with
     | [x], some (.slice _) => some (.len false x)
     | [x], some .string => some (.len true x)
     | _, _ => none)
  | .builtin .cap =>
    (match c.args.toList, (c.argTypes[0]?).bind P.underlying with
     | [x], some (.slice _) => some (.cap x)
     | _, _ => none)
  | .builtin .max => some (.mx c.args.toList)
  | .builtin .min => some (.mn c.args.toList)
  | .builtin .append =>
    (match c.args.toList, c.argTypes.toList with
     | [x, y], [t, u] =>
       (match isSliceT P t, isSliceT P u with
        | some e, some _ => (match sizeOfT P e, bytesOfT P e, zeroOfT P e with
                             | some (sz + 1), some (b + 1), some v => bif Nat.beq v.cells.size (sz + 1) then some (.app (sz + 1) (b + 1) x y) else none
                             | _, _, _ => none)
        | some e, none => (match P.underlying u, sizeOfT P e, bytesOfT P e, (zeroOfT P e).bind zeroCellsOf with
                             | some (.int _), some (sz + 1), some (b + 1), some zs => bif Nat.beq zs.length (sz + 1) then some (.appN zs (b + 1) x y) else none
                             | _, _, _, _ => none)
        | _, _ => none)
     | _, _ => none)
  | _ => none
def cOp (P : Program) (T : TypeId) (sents : List Nat) (ann : Ann) (o : Oper) : Option AOp :=
  match o.op with
  | .move x => some (.move x)
  | .assign x =>
    (match (match o.dst with | some d => annOf ann d | none => none) with
     | some ((_, sz) :: _) => (match x with | .const _ => some (.nilR sz x) | _ => some (.move x))
     | some [] => none
     | none => some (.move x))
  | .pick c a b => some (.pick c a b)
  | .binOp op t x y _ => some (.bin (ekOf P op t x y) op x y)
  | .unOp op _ x => some (.un op x)
  | .convert src dst x =>
    (match P.underlying src, P.underlying dst with
     | some (.int _), some (.int k) => some (.conv k x)
     | _, _ => none)
  | .fieldAddr s x f =>
    (match P.underlying s with
     | some (.struct fs) => (match fs[f]? with
                             | some fd => (match sizeOfT P fd.type with | some (_ + 1) => some (.addr fd.offset x) | _ => none)
                             | none => none)
     | _ => none)
  | .indexAddr t x i =>
    (match P.underlying t with
     | some (.array len e) => (match sizeOfT P e with | some sz => some (.ixA len sz x i) | none => none)
     | some (.slice e) => (match sizeOfT P e with | some (sz + 1) => some (.ixS (sz + 1) x i) | _ => none)
     | _ => none)
  | .field t x f =>
    (match P.underlying t with
     | some (.struct fs) => (match fs[f]? with
                             | some fd => (match aggOfT P fd.type with | some m => some (.fld fd.offset m x) | none => none)
                             | none => none)
     | _ => none)
  | .index t x i =>
    (match P.underlying t with
     | some (.array len e) => (match sizeOfT P e, aggOfT P e with | some sz, some m => some (.ixV len sz m x i) | _, _ => none)
     | some .string => some (.ixStr x i)
     | _ => none)
  | .extract x j => some (.ext j x)
  | .build t parts =>
    (match P.underlying t, zeroOfT P t with
     | some (.struct fs), some v =>
       (match (fs.toList.all fun f => (sizeOfT P f.type).isSome), zeroCellsOf v, structParts P fs parts.toList with
        | true, some zs, some ps => (match isMark ann o.dst 6 with | some _ => some (.buildQ zs ps) | none => some (.build zs ps))
        | _, _, _ => none)
     | some (.array _ e), some v =>
       (match sizeOfT P e, zeroCellsOf v with
        | some sz, some zs => some (.build zs (rowParts sz parts.toList))
        | _, _ => none)
     | _, _ => none)
  | .buildSlice t n parts =>
    (match isSliceT P t with
     | some e =>
       (match sizeOfT P e, (zeroOfT P e).bind zeroCellsOf with
        | some (sz + 1), some zs =>
          bif Nat.beq zs.length (sz + 1) && Nat.ble (n * (sz + 1)) 16777216 then
            (match (match o.dst with | some d => annOf ann d | none => none) with
             | some _ => some (.bslR n zs (rowParts (sz + 1) parts.toList))
             | none => some (.bsl n zs (rowParts (sz + 1) parts.toList))) else none
        | _, _ => none)
     | none => none)
  | .makeSlice t l c =>
    (match isSliceT P t with
     | some e =>
       (match sizeOfT P e, bytesOfT P e, (zeroOfT P e).bind zeroCellsOf with
        | some (sz + 1), some (b + 1), some zs =>
          bif Nat.beq zs.length (sz + 1) then
            (match (match o.dst with | some d => annOf ann d | none => none) with
             | some _ => some (.mkR zs (b + 1) l c)
             | none => some (.mkS zs (b + 1) l c)) else none
        | _, _, _ => none)
     | none => none)
  | .makeFunc (.func f) first caps => bif first.isEmpty then some (.mkfn f caps.toList) else none
  | .nilCheck x => some (.nilChk x)
  | .typeAssert x _ t true =>
    (match P.underlying t with
     | some (.pointer _) => bif Nat.beq t T then none else (match zeroOfT P t with | some (.pointer none) => some (.tas t .np x) | _ => none)
     | _ => none)
  | .slice t x lo hi mx =>
    (match P.underlying t with
     | some (.slice e) => (match sizeOfT P e with | some (sz + 1) => some (.slc (sz + 1) x lo hi mx) | _ => none)
     | _ => none)
  | .load t x =>
    (match aggOfT P t with
     | some m => (match x with
                  | .global g => bif memb sents g then (match m with | none => some (.ldg g) | some _ => none) else none
                  | _ => bif isE ann o.dst then some (.ldE m x) else some (.load m x))
     | none => none)
  | .store t x v => (match sizeOfT P t with | some sz => some (.store sz x v) | none => none)
  | .box e v =>
    (match sizeOfT P e with
     | some (sz + 1) =>
       (match isMark ann o.dst 5 with
        | some _ => some (.boxE (sz + 1) v)
        | none => (match isMark ann o.dst 7 with | some nils => some (.boxQ (sz + 1) v nils) | none => some (.box (sz + 1) v)))
     | _ => none)
  | .alloc e =>
    (match (zeroOfT P e).bind zeroCellsOf with
     | some (c :: cs) => (match isMark ann o.dst 7 with | some nils => some (.allocQ (c :: cs) nils) | none => some (.alloc (c :: cs)))
     | _ => none)
  | .makeInterface t x => (match P.underlying t with | some (.pointer _) => some (.mki t x) | _ => some .stop)
  | .panic _ => some .stop
  | .call c => cCall ann o c P
  | _ => none
def opnds : AOp → List Operand
  | .move x | .un _ x | .conv _ x | .addr _ x | .fld _ _ x | .ext _ x | .len _ x | .nilChk x | .tas _ _ x | .mki _ x | .boxE _ x | .cap x | .load _ x | .ldE _ x => [x]
  | .pick c x y => [c, x, y]
  | .bin _ _ x y | .ixA _ _ x y | .ixS _ x y | .ixV _ _ _ x y | .ixStr x y | .store _ x y | .mkS _ _ x y => [x, y]
  | .build _ ps | .buildQ _ ps | .bsl _ _ ps => ps.map fun p => p.2.2
  | .mkfn _ l | .mn l | .mx l => l
  | .slc _ x lo hi mx => x :: (lo.toList ++ (hi.toList ++ mx.toList))
  | .call f l | .callK f l _ => f :: l
  | _ => []
def tmpsOf : List Operand → List Nat
  | [] => []
  | .tmp t :: r => t :: tmpsOf r
  | _ :: r => tmpsOf r
def looksA (a : AOper) : List Nat := tmpsOf (opnds a.op) ++ (match a.guard with | some (g, _) => [g] | none => [])
def dstA (a : AOper) : List Nat := match a.dst with | some d => [d] | none => []
def meets : List Nat → List Nat → Bool
  | [], _ => false
  | x :: r, l => memb l x || meets r l
def isK : AOp → Option (Operand × List Operand)
  | .callK f xs [] => some (f, xs)
  | _ => none
def wcls (op : AOp) : Nat := match isK op with | some _ => 2 | none => op.cls
def free (a b : AOper) : Bool :=
  !meets (dstA a) (looksA b ++ dstA b) && !meets (dstA b) (looksA a) &&
  (match wcls a.op, wcls b.op with
   | 0, 0 | 0, 1 | 1, 0 | 1, 1 | 0, 2 | 2, 0 => true
   | _, _ => false)
def appLooks : AOp → Option (List Nat)
  | .app _ _ x y => some (tmpsOf [x, y])
  | _ => none
def cutB : AOp → Bool
  | .move _ | .slc _ _ _ _ none => true
  | _ => false
def freeA (a b : AOper) : Bool :=
  match appLooks a.op with
  | some l => cutB b.op && (a.guard.isNone && (b.guard.isNone && (!meets (dstA a) (looksA b ++ dstA b) && !meets (dstA b) l)))
  | none => false
def callLooks : AOp → Option (List Nat)
  | .callK f xs own => bif m8 own then none else some (tmpsOf (f :: xs))
  | _ => none
def pureB : AOp → Bool
  | .move _ | .slc _ _ _ _ none | .addr _ _ | .conv _ _ | .ldE _ _ | .bsl _ _ _ => true
  | _ => false
def freeB (a b : AOper) : Bool :=
  match callLooks a.op with
  | some l => pureB b.op && (a.guard.isNone && (b.guard.isNone && (!meets (dstA a) (looksA b ++ dstA b) && !meets (dstA b) l)))
  | none => false
def maskOf (acc : List Nat) (o : Oper) : Nat := o.after.toList.foldl (fun s e => if Region.binds .any e then s ||| 2 ^ e.on ||| acc.getD e.on 0 else s) 0
def befs : List Oper → List Nat → List Nat
  | [], acc => acc
  | o :: r, acc => befs r (acc ++ [maskOf acc o])
def edgesOk : Nat → List Oper → Bool
  | _, [] => true
  | j, o :: r => (o.after.toList.all fun e => !Region.binds .any e || Nat.blt e.on j) && edgesOk (j + 1) r
def pairsOk (bef : List Nat) (l : List AOper) : Bool :=
  (List.range l.length).all fun j => (List.range j).all fun i => (bef.getD j 0).testBit i || (match l[i]?, l[j]? with | some a, some b => free a b || (freeA a b || freeB a b) | _, _ => false)
def drawOk (ops : Array Oper) (l : List AOper) : Bool := edgesOk 0 ops.toList && pairsOk (befs ops.toList []) l
def cGuard (ops : Array Oper) (o : Oper) : Option (Option (Nat × Bool)) :=
  match o.guard with
  | none => some none
  | some (g, want) => (match ops[g]? with | some p => (match p.dst with | some d => some (some (d, want)) | none => none) | none => none)
def dstOk (np nt : Nat) (o : Oper) (a : AOp) : Bool :=
  match o.dst with
  | some d => Nat.blt d nt && (Nat.ble np d || !Nat.beq a.cls 3) && !Nat.beq a.cls 2
  | none => true
structure Info where
  P : Program
  T : TypeId
  sents : List Nat
  ann : Ann
  pre : List (Nat × List Nat × List Nat × List Nat)
  np : Nat
  nt : Nat
def cOper (I : Info) (ops : Array Oper) (o : Oper) : Option AOper :=
  match cOp I.P I.T I.sents I.ann o, cGuard ops o with
  | some a, some g => bif dstOk I.np I.nt o a then some ⟨o.dst, a, g⟩ else none
  | _, _ => none
def cOpers (I : Info) (ops : Array Oper) : List Oper → Option (List AOper)
  | [] => some []
  | o :: r => match cOper I ops o, cOpers I ops r with | some a, some l => some (a :: l) | _, _ => none
def preOf : List (Nat × List Nat × List Nat × List Nat) → Nat → Option (List Nat × List Nat × List Nat)
  | [], _ => none
  | (j, x) :: r, i => bif Nat.beq j i then some x else preOf r i
abbrev Heads := List (List Nat × List Nat)
def cCode (I : Info) : Code → Heads → Option (AC × Heads)
  | .skip, h => some (.skip, h)
  | .ret, h => some (.ret, h)
  | .exit id, h => some (.exit id, h)
  | .region id ops draw, h =>
    (match cOpers I ops ops.toList with
     | some l =>
       bif !draw || drawOk ops l then
         (match preOf I.pre id with
          | some (fr, ks, kr) => some (.pre fr ks kr (.reg l), h)
          | none => some (.reg l, h)) else none
     | none => none)
  | .seq a b, h =>
    (match cCode I a h with
     | some (x, h1) => (match cCode I b h1 with | some (y, h2) => some (.seq x y, h2) | none => none)
     | none => none)
  | .cond c a b, h =>
    (match cCode I a h with
     | some (x, h1) => (match cCode I b h1 with | some (y, h2) => some (.cond c x y, h2) | none => none)
     | none => none)
  | .block id a, h => (match cCode I a h with | some (x, h1) => some (.block id x, h1) | none => none)
  | .loop a, (ks, kr) :: h => (match cCode I a h with | some (x, h1) => some (.loop ks kr x, h1) | none => none)
  | _, _ => none
def cRes (P : Program) : List ResultVar → Option (List ARes)
  | [] => some []
  | .tmp t :: r => (match cRes P r with | some l => some (.t t :: l) | none => none)
  | .cell a t :: r => (match aggOfT P t, cRes P r with | some m, some l => some (.c a m :: l) | _, _ => none)
structure FnAnn where
  ann : Ann
  pre : List (Nat × List Nat × List Nat × List Nat)
  heads : Heads
def cFun (P : Program) (T : TypeId) (sents : List Nat) (x : FnAnn) (fn : Func) : Option AFun :=
  match fn.body with
  | some c =>
    let np := fn.params.size + fn.nfree
    bif fn.name == "runtime.NumGoroutine" then none else
    (match cCode ⟨P, T, sents, x.ann, x.pre, np, fn.ntmps⟩ c x.heads, cRes P fn.results.toList with
     | some (b, _), some res => bif Nat.ble np fn.ntmps && Nat.ble fn.ntmps 1000000 then some ⟨b, np, res⟩ else none
     | _, _ => none)
  | none => none
end Zab
namespace Zab
open Go
set_option linter.unusedSimpArgs false
set_option linter.unusedVariables false
section
variable {P : Program} {T : TypeId} {sents : List Nat} {ann : Ann} {o : Oper}
theorem load_inv {m : Option Nat} {x : Operand} (h : cOp P T sents ann o = some (.load m x)) : ∃ t, o.op = .load t x ∧ aggOfT P t = some m ∧ (∀ g, x = .global g → memb sents g = true) := by
  unfold cOp cCall at h
  simp only [Bool.cond_eq_ite] at h
  split at h
  case h_19 t y ho =>
    split at h <;> first | (cases h; done) | skip
    rename_i m' hm
    cases y with
    | global g =>
      simp only at h
      split at h <;> first | (cases h; done) | skip
      split at h <;> cases h
    | _ => simp only at h; split at h <;> cases h; exact ⟨t, ho, hm, fun g' e => by cases e⟩
  all_goals (exfalso; revert h; repeat' split)
  all_goals (intro h; cases h)
theorem ldg_inv {g : Nat} (h : cOp P T sents ann o = some (.ldg g)) : ∃ t, o.op = .load t (.global g) ∧ aggOfT P t = some none ∧ memb sents g = true := by
  unfold cOp cCall at h
  simp only [Bool.cond_eq_ite] at h
  split at h
  case h_19 t y ho =>
    split at h <;> first | (cases h; done) | skip
    rename_i m' hm
    cases y with
    | global g =>
      simp only at h
      split at h <;> first | (cases h; done) | skip
      rename_i hg
      split at h <;> cases h
      exact ⟨t, ho, hm, hg⟩
    | _ => simp only at h; split at h <;> cases h
  all_goals (exfalso; revert h; repeat' split)
  all_goals (intro h; cases h)
theorem ldE_inv {m : Option Nat} {x : Operand} (h : cOp P T sents ann o = some (.ldE m x)) : ∃ t, o.op = .load t x ∧ aggOfT P t = some m ∧ (∀ g, x ≠ .global g) := by
  unfold cOp cCall at h
  simp only [Bool.cond_eq_ite] at h
  split at h
  case h_19 t y ho =>
    split at h <;> first | (cases h; done) | skip
    rename_i m' hm
    cases y with
    | global g =>
      simp only at h
      split at h <;> first | (cases h; done) | skip
      split at h <;> cases h
    | _ => simp only at h; split at h <;> cases h; exact ⟨t, ho, hm, fun g' e => by cases e⟩
  all_goals (exfalso; revert h; repeat' split)
  all_goals (intro h; cases h)
theorem call_inv {f : Operand} {xs : List Operand} (h : cOp P T sents ann o = some (.call f xs)) : ∃ c, o.op = .call c ∧ c.callee = .value f ∧ c.args.toList = xs := by
  unfold cOp cCall at h
  simp only [Bool.cond_eq_ite] at h
  split at h
  case h_25 c ho =>
    split at h
    · rename_i g hc
      split at h <;> cases h
      exact ⟨c, ho, hc, rfl⟩
    all_goals (exfalso; revert h; repeat' split)
    all_goals (intro h; cases h)
  all_goals (exfalso; revert h; repeat' split)
  all_goals (intro h; cases h)
theorem callK_inv {f : Operand} {xs : List Operand} {own : List (Nat × Nat)} (h : cOp P T sents ann o = some (.callK f xs own)) : ∃ c, o.op = .call c ∧ c.callee = .value f ∧ c.args.toList = xs := by
  unfold cOp cCall at h
  simp only [Bool.cond_eq_ite] at h
  split at h
  case h_25 c ho =>
    split at h
    · rename_i g hc
      split at h <;> cases h
      exact ⟨c, ho, hc, rfl⟩
    all_goals (exfalso; revert h; repeat' split)
    all_goals (intro h; cases h)
  all_goals (exfalso; revert h; repeat' split)
  all_goals (intro h; cases h)
theorem store_inv {sz : Nat} {x v : Operand} (h : cOp P T sents ann o = some (.store sz x v)) : ∃ t, o.op = .store t x v ∧ sizeOfT P t = some sz := by
  unfold cOp cCall at h
  simp only [Bool.cond_eq_ite] at h
  split at h
  case h_20 t y u ho =>
    split at h <;> first | (cases h; done) | skip
    rename_i hs
    cases h
    exact ⟨t, ho, hs⟩
  all_goals (exfalso; revert h; repeat' split)
  all_goals (intro h; cases h)
theorem box_inv {sz : Nat} {v : Operand} (h : cOp P T sents ann o = some (.box sz v)) : ∃ e k, o.op = .box e v ∧ sz = k + 1 := by
  unfold cOp cCall at h
  simp only [Bool.cond_eq_ite] at h
  split at h
  case h_21 e u ho =>
    split at h <;> first | (cases h; done) | skip
    split at h <;> first | (cases h; done) | skip
    split at h <;> first | (cases h; done) | skip
    cases h
    exact ⟨e, _, ho, rfl⟩
  all_goals (exfalso; revert h; repeat' split)
  all_goals (intro h; cases h)
theorem alloc_inv {zs : List AV} (h : cOp P T sents ann o = some (.alloc zs)) : ∃ e, o.op = .alloc e ∧ (zeroOfT P e).bind zeroCellsOf = some zs := by
  unfold cOp cCall at h
  simp only [Bool.cond_eq_ite] at h
  split at h
  case h_22 e ho =>
    split at h <;> first | (cases h; done) | skip
    rename_i hz
    split at h <;> first | (cases h; done) | skip
    cases h
    exact ⟨e, ho, hz⟩
  all_goals (exfalso; revert h; repeat' split)
  all_goals (intro h; cases h)
theorem nilR_inv {sz : Nat} {x : Operand} (h : cOp P T sents ann o = some (.nilR sz x)) : o.op = .assign x := by
  unfold cOp cCall at h
  simp only [Bool.cond_eq_ite] at h
  split at h
  case h_2 y ho =>
    split at h <;> first | (cases h; done) | skip
    split at h <;> cases h
    exact ho
  all_goals (exfalso; revert h; repeat' split)
  all_goals (intro h; cases h)
theorem mkR_inv {zs : List AV} {b : Nat} {l c : Operand} (h : cOp P T sents ann o = some (.mkR zs b l c)) : ∃ t e sz b', o.op = .makeSlice t l c ∧ isSliceT P t = some e ∧ sizeOfT P e = some (sz + 1) ∧ bytesOfT P e = some (b' + 1) ∧ (zeroOfT P e).bind zeroCellsOf = some zs ∧ zs.length = sz + 1 ∧ b = b' + 1 := by
  unfold cOp cCall at h
  simp only [Bool.cond_eq_ite] at h
  split at h
  case h_14 t l' c' ho =>
    split at h <;> first | (cases h; done) | skip
    rename_i e h1
    split at h <;> first | (cases h; done) | skip
    rename_i sz b' zs' h2 h3 h4
    split at h <;> first | (cases h; done) | skip
    rename_i h5
    split at h <;> cases h
    exact ⟨t, e, sz, b', ho, h1, h2, h3, h4, Nat.eq_of_beq_eq_true h5, rfl⟩
  all_goals (exfalso; revert h; repeat' split)
  all_goals (intro h; cases h)
theorem bslR_inv {n : Nat} {zs : List AV} {ps : List (Nat × Nat × Operand)} (h : cOp P T sents ann o = some (.bslR n zs ps)) : ∃ t e sz parts, o.op = .buildSlice t n parts ∧ isSliceT P t = some e ∧ sizeOfT P e = some (sz + 1) ∧ (zeroOfT P e).bind zeroCellsOf = some zs ∧ zs.length = sz + 1 ∧ n * (sz + 1) ≤ 16777216 ∧ ps = rowParts (sz + 1) parts.toList := by
  unfold cOp cCall at h
  simp only [Bool.cond_eq_ite] at h
  split at h
  case h_13 t n' parts ho =>
    split at h <;> first | (cases h; done) | skip
    rename_i e h1
    split at h <;> first | (cases h; done) | skip
    rename_i sz zs' h2 h3
    split at h <;> first | (cases h; done) | skip
    rename_i h5
    simp only [Bool.and_eq_true, Nat.beq_eq, Nat.ble_eq] at h5
    split at h <;> cases h
    exact ⟨t, e, sz, parts, ho, h1, h2, h3, h5.1, h5.2, rfl⟩
  all_goals (exfalso; revert h; repeat' split)
  all_goals (intro h; cases h)
theorem app_inv {sz b : Nat} {x y : Operand} (h : cOp P T sents ann o = some (.app sz b x y)) : ∃ c t u e e' k b' v, o.op = .call c ∧ c.callee = .builtin .append ∧ c.args.toList = [x, y] ∧ c.argTypes.toList = [t, u] ∧ isSliceT P t = some e ∧ isSliceT P u = some e' ∧
    sizeOfT P e = some (k + 1) ∧ bytesOfT P e = some (b' + 1) ∧ zeroOfT P e = some v ∧ v.cells.size = k + 1 ∧ sz = k + 1 ∧ b = b' + 1 := by
  unfold cOp cCall at h
  simp only [Bool.cond_eq_ite] at h
  split at h
  case h_25 c ho =>
    split at h
    case h_6 hc =>
      split at h <;> first | (cases h; done) | skip
      rename_i x' y' t u h1 h2
      split at h
      case h_2 => (exfalso; revert h; repeat' split) <;> (intro h; cases h)
      case h_3 => cases h
      rename_i e e' h3 h4
      split at h <;> first | (cases h; done) | skip
      rename_i k b' v h5 h6 h7
      split at h <;> first | (cases h; done) | skip
      rename_i h8
      cases h
      exact ⟨c, t, u, e, e', k, b', v, ho, hc, h1, h2, h3, h4, h5, h6, h7, Nat.eq_of_beq_eq_true h8, rfl, rfl⟩
    all_goals (exfalso; revert h; repeat' split)
    all_goals (intro h; cases h)
  all_goals (exfalso; revert h; repeat' split)
  all_goals (intro h; cases h)
theorem appN_inv {zs : List AV} {b : Nat} {x y : Operand} (h : cOp P T sents ann o = some (.appN zs b x y)) : ∃ c t u e k sz b', o.op = .call c ∧ c.callee = .builtin .append ∧ c.args.toList = [x, y] ∧ c.argTypes.toList = [t, u] ∧ isSliceT P t = some e ∧ P.underlying u = some (.int k) ∧
    sizeOfT P e = some (sz + 1) ∧ bytesOfT P e = some (b' + 1) ∧ (zeroOfT P e).bind zeroCellsOf = some zs ∧ zs.length = sz + 1 ∧ b = b' + 1 := by
  unfold cOp cCall at h
  simp only [Bool.cond_eq_ite] at h
  split at h
  case h_25 c ho =>
    split at h
    case h_6 hc =>
      split at h <;> first | (cases h; done) | skip
      rename_i x' y' t u h1 h2
      split at h
      case h_1 => (exfalso; revert h; repeat' split) <;> (intro h; cases h)
      case h_3 => cases h
      rename_i e h3 h4
      split at h <;> first | (cases h; done) | skip
      rename_i k sz b' zs' h5 h6 h7 h8
      split at h <;> first | (cases h; done) | skip
      rename_i h9
      cases h
      exact ⟨c, t, u, e, _, _, _, ho, hc, h1, h2, h3, h5, h6, h7, h8, Nat.eq_of_beq_eq_true h9, rfl⟩
    all_goals (exfalso; revert h; repeat' split)
    all_goals (intro h; cases h)
  all_goals (exfalso; revert h; repeat' split)
  all_goals (intro h; cases h)
theorem boxQ_inv {sz : Nat} {v : Operand} {nils : List (Nat × Nat)} (h : cOp P T sents ann o = some (.boxQ sz v nils)) : ∃ e k, o.op = .box e v ∧ sz = k + 1 := by
  unfold cOp cCall at h
  simp only [Bool.cond_eq_ite] at h
  split at h
  case h_21 e u ho =>
    split at h <;> first | (cases h; done) | skip
    split at h <;> first | (cases h; done) | skip
    split at h <;> first | (cases h; done) | skip
    cases h
    exact ⟨e, _, ho, rfl⟩
  all_goals (exfalso; revert h; repeat' split)
  all_goals (intro h; cases h)
theorem allocQ_inv {zs : List AV} {nils : List (Nat × Nat)} (h : cOp P T sents ann o = some (.allocQ zs nils)) : ∃ e, o.op = .alloc e ∧ (zeroOfT P e).bind zeroCellsOf = some zs ∧ 0 < zs.length := by
  unfold cOp cCall at h
  simp only [Bool.cond_eq_ite] at h
  split at h
  case h_22 e ho =>
    split at h <;> first | (cases h; done) | skip
    rename_i hz
    split at h <;> first | (cases h; done) | skip
    cases h
    exact ⟨e, ho, hz, by simp⟩
  all_goals (exfalso; revert h; repeat' split)
  all_goals (intro h; cases h)
end
end Zab
namespace Zab
open Go
set_option linter.unusedSimpArgs false
set_option linter.unusedVariables false
structure EnvOk (E : Env) (sents : List Nat) : Prop where
  sent : ∀ g, memb sents g = true → (E.sent g).isSome = true
  ptr : (∃ g b, E.sent g = some b) → ∃ el i, E.P.underlying E.T = some (.pointer el) ∧ E.P.info? el = some i ∧ i.size ≠ 0
  cmp : (∃ g b, E.sent g = some b) → ∃ i, E.P.info? E.T = some i ∧ i.comparable = true
  mixed : E.P.follows .mixedOrders = true
section
variable {E : Env} {np : Nat} {w : World} {N : Nat → Prop} {A K : Nat → Nat}
theorem frep_const {v : Value} (h : flatConst v = true) : FRep E w N (constAV v) v := by
  unfold flatConst at h
  split at h <;> first | cases h | skip
  · exact .i _ _
  · exact .b _
  · exact .s _
  · exact .nl
  · exact .np
  · exact .nf
  · exact .z
theorem vrep_const (v : Value) (hv : ∀ cs, v ≠ .agg cs) : VRep E np w N A K (constAV v) v := by
  by_cases h : flatConst v = true
  · exact .one (.flat (frep_const h))
  · have : constAV v = .gone := by
      unfold flatConst at h
      unfold constAV
      split at h <;> first | (exact absurd rfl h) | rfl
    rw [this]; exact .one (.gone v)
theorem FRep.list_map {l : List Value} (h : l.all flatConst = true) : ∀ j (h1 : j < (l.map constAV).length) (h2 : j < l.length), FRep E w N (l.map constAV)[j] l[j] := by
  intro j h1 h2
  simp only [List.getElem_map]
  exact frep_const (List.all_eq_true.1 h _ (List.getElem_mem h2))
theorem vrep_int {k : IntKind} {n : Int} {v : Value} (h : VRep E np w N A K (.i k n) v) : v = .int k n := by
  cases h with | one h => cases h with | flat h => cases h; rfl
theorem vrep_bool {x : Bool} {v : Value} (h : VRep E np w N A K (.b x) v) : v = .bool x := by
  cases h with | one h => cases h with | flat h => cases h; rfl
theorem vrep_str {x : ByteArray} {v : Value} (h : VRep E np w N A K (.s x) v) : v = .string x := by
  cases h with | one h => cases h with | flat h => cases h; rfl
theorem vrep_nl {v : Value} (h : VRep E np w N A K .nl v) : v = .nilIface := by
  cases h with | one h => cases h with | flat h => cases h; rfl
theorem vrep_np {v : Value} (h : VRep E np w N A K .np v) : v = .pointer none := by
  cases h with | one h => cases h with | flat h => cases h; rfl
theorem vrep_er {g : Nat} {v : Value} (h : VRep E np w N A K (.er g) v) : ∃ b, E.sent g = some b ∧ v = E.errV b := by
  cases h with | one h => cases h with | flat h => cases h with | er g b h => exact ⟨b, h, rfl⟩
theorem vrep_z {v : Value} (h : VRep E np w N A K .z v) : v = .slice none 0 0 := by
  cases h with | one h => cases h with | flat h => cases h; rfl
theorem vrep_ie {t : Nat} {cs : List AV} {v : Value} (h : VRep E np w N A K (.ie t cs) v) : ∃ (blk off : Nat) (f : Nat → Value), v = .iface t (.pointer (some ⟨blk, off, none⟩)) ∧ N blk ∧
    (∀ j, j < cs.length → w.cell? ⟨blk, off + j, none⟩ = some (f j)) ∧ ∀ j (hj : j < cs.length), FRep E w N (cs[j]) (f j) := by
  cases h with | one h => cases h with | flat h => cases h with | ie _ _ blk off f hN h0 h1 => exact ⟨blk, off, f, rfl, hN, h0, h1⟩
theorem vrep_aq {cs : List AV} {v : Value} (h : VRep E np w N A K (.aq cs) v) : ∃ l : List Value, v = .agg l.toArray ∧ cs.length = l.length ∧ (∀ v ∈ l, v.oneCell' = true) ∧ ∀ j (h1 : j < cs.length) (h2 : j < l.length), V1 E np w N A K cs[j] l[j] := by
  cases h with
  | one h => cases h with | flat h => cases h
  | aq _ l hl ho h => exact ⟨l, rfl, hl, ho, h⟩
theorem vrep_rf {d o : Nat} {v : Value} (h : VRep E np w N A K (.rf d o) v) : v = .pointer (some ⟨A d, o, none⟩) := by
  cases h with | one h => cases h with
    | flat h => cases h
    | rf => rfl
theorem vrep_gl {g : Nat} {v : Value} (h : VRep E np w N A K (.gl g) v) : v = .pointer (some ⟨g, 0, none⟩) := by
  cases h with | one h => cases h with
    | flat h => cases h
    | gl => rfl
theorem vrep_rs {d o n sz : Nat} {v : Value} (h : VRep E np w N A K (.rs d o n sz) v) : ∃ base c, v = .slice base n c ∧ rootB np d = false ∧ n ≤ c ∧ o + c * sz ≤ K d ∧ (0 < K d → base = some ⟨A d, o, none⟩) := by
  cases h with | one h => cases h with
    | flat h => cases h
    | rs _ _ _ _ base c hd hn hk hb => exact ⟨base, c, rfl, hd, hn, hk, hb⟩
theorem vrep_sl {cs : List AV} {n : Nat} {v : Value} (h : VRep E np w N A K (.sl cs n) v) : ∃ (base : Option Addr) (c : Nat) (f : Nat → Value), v = .slice base n c ∧ n ≤ c ∧
    (cs = [] ∨ ∃ blk off, base = some ⟨blk, off, none⟩ ∧ N blk ∧ ∀ j, j < cs.length → w.cell? ⟨blk, off + j, none⟩ = some (f j)) ∧ ∀ j (hj : j < cs.length), FRep E w N (cs[j]) (f j) := by
  cases h with | one h => cases h with
    | flat h => cases h with | sl _ _ base c f hn h0 h1 => exact ⟨base, c, f, rfl, hn, h0, h1⟩
theorem vrep_el {cs : List AV} {o : Nat} {v : Value} (h : VRep E np w N A K (.el cs o) v) : ∃ (blk off : Nat) (f : Nat → Value), v = .pointer (some ⟨blk, off + o, none⟩) ∧ N blk ∧
    (∀ j, j < cs.length → w.cell? ⟨blk, off + j, none⟩ = some (f j)) ∧ ∀ j (hj : j < cs.length), FRep E w N (cs[j]) (f j) := by
  cases h with | one h => cases h with
    | flat h => cases h
    | el _ _ blk off f hN hc h1 => exact ⟨blk, off, f, rfl, hN, hc, h1⟩
theorem vrep_ag {cs : List AV} {v : Value} (h : VRep E np w N A K (.ag cs) v) : ∃ l : List Value, v = .agg l.toArray ∧ cs.length = l.length ∧ ∀ j (h1 : j < cs.length) (h2 : j < l.length), FRep E w N cs[j] l[j] := by
  cases h with | one h => cases h with
    | flat h => cases h
    | ag _ l hl h => exact ⟨l, rfl, hl, h⟩
theorem vrep_tp {l : List AV} {v : Value} (h : VRep E np w N A K (.tp l) v) : ∃ vs : List Value, v = .tuple vs.toArray ∧ l.length = vs.length ∧ ∀ j (h1 : j < l.length) (h2 : j < vs.length), V1 E np w N A K l[j] vs[j] := by
  cases h with
  | one h => cases h with | flat h => cases h
  | tp _ vs hl h => exact ⟨vs, rfl, hl, h⟩
theorem vrep_fn {f : Nat} {l : List AV} {v : Value} (h : VRep E np w N A K (.fn f l) v) : ∃ vs : List Value, v = .func (.func f) #[] vs.toArray ∧ l.length = vs.length ∧ ∀ j (h1 : j < l.length) (h2 : j < vs.length), V1 E np w N A K l[j] vs[j] := by
  cases h with
  | one h => cases h with
    | flat h => cases h
    | fn f => exact ⟨[], rfl, rfl, fun j h1 => by simp at h1⟩
  | fn _ _ vs hl h => exact ⟨vs, rfl, hl, h⟩
theorem vrep_flat {x : AV} {v : Value} (h : VRep E np w N A K x v) (hx : x.flat = true) : FRep E w N x v := by
  cases h with
  | one h => cases h <;> first | assumption | (simp [AV.flat] at hx)
  | tp => simp [AV.flat] at hx
  | fn => simp [AV.flat] at hx
  | aq => simp [AV.flat] at hx
theorem V1.ofFlat {x : AV} {v : Value} (h : FRep E w N x v) : VRep E np w N A K x v := .one (.flat h)
end
theorem Rel.eval {C : Ctx} {A K : Nat → Nat} {S : St} {a : Act} {w : World} (R : Rel C A K S a w) (x : Operand) : VRep C.E C.np w (Still C A K S.l w) A K (evalO S.s x) (a.eval x) := by
  cases x with
  | tmp t => exact R.slot t
  | const v =>
    cases v
    case agg cs =>
      simp only [evalO, Act.eval]
      cases h : cs.toList.all flatConst
      · exact .one (.gone _)
      · have := V1.ag (E := C.E) (np := C.np) (w := w) (N := Still C A K S.l w) (A := A) (K := K) (cs.toList.map constAV) cs.toList (by simp) (FRep.list_map h)
        simpa using VRep.one this
    all_goals (simp only [evalO, Act.eval]; refine vrep_const _ ?_; intro cs h; cases h)
  | global g => exact .one (.gl g)
  | func f => exact .one (.fn f)
section
variable {C : Ctx} {A K : Nat → Nat} {S : St} {a : Act} {w : World}
theorem shift_sound {P : Program} {op : BinOp} {k yk : IntKind} {x y : Int} {r : AV} (h : shiftV op k x y = some r) : ∃ v, (Op.shift op k x yk y).run P w = .ok v w ∧ ∀ (E : Env) (N : Nat → Prop), FRep E w N r v := by
  unfold shiftV at h
  by_cases hy : y < 0
  · simp [hy] at h
  · simp only [hy, decide_false, cond_false] at h
    unfold Op.shift
    rw [if_neg hy]
    cases op <;> first
      | (simp only [Option.some.injEq] at h; subst h; exact ⟨_, rfl, fun _ _ => .i _ _⟩)
      | cases h
theorem bit_sound {P : Program} {op : BinOp} {k : IntKind} {x y : Int} {r : AV} (h : bitV op k x y = some r) : ∃ v, (Op.intBits op k x y).run P w = .ok v w ∧ ∀ (E : Env) (N : Nat → Prop), FRep E w N r v := by
  unfold bitV at h
  unfold Op.intBits
  cases op <;> first
    | (simp only [Option.some.injEq] at h; subst h; exact ⟨_, rfl, fun _ _ => .i _ _⟩)
    | cases h
theorem int_sound {P : Program} {t : TypeId} {op : BinOp} {k : IntKind} {x y : Int} {r : AV} (h1 : op ≠ .shl) (h2 : op ≠ .shr) (h : intV op k x y = some r) :
    ∃ v, (Go.binOp op t (.int k x) (.int k y)).run P w = .ok v w ∧ ∀ (E : Env) (N : Nat → Prop), FRep E w N r v := by
  cases op <;> first | exact absurd rfl h1 | exact absurd rfl h2 | skip
  all_goals simp only [intV] at h
  all_goals simp only [Go.binOp, ne_eq, not_true_eq_false, if_false, ↓reduceIte]
  case quo =>
    by_cases hy : y = 0
    · simp [hy] at h
    · simp only [hy, decide_false, cond_false, Option.some.injEq] at h
      subst h; simp only [Op.intDiv, hy, if_false]; exact ⟨_, rfl, fun _ _ => .i _ _⟩
  case rem =>
    by_cases hy : y = 0
    · simp [hy] at h
    · simp only [hy, decide_false, cond_false, Option.some.injEq] at h
      subst h; simp only [Op.intDiv, hy, if_false]; exact ⟨_, rfl, fun _ _ => .i _ _⟩
  case and => exact bit_sound h
  case or => exact bit_sound h
  case xor => exact bit_sound h
  case andNot => exact bit_sound h
  case eql =>
    simp only [Option.some.injEq] at h; subst h
    exact ⟨_, rfl, fun _ _ => by have : (x == y) = decide (x = y) := rfl; rw [this]; exact .b _⟩
  case neq =>
    simp only [Option.some.injEq] at h; subst h
    exact ⟨_, rfl, fun _ _ => by have : (x != y) = !decide (x = y) := rfl; rw [this]; exact .b _⟩
  all_goals (simp only [Option.some.injEq] at h; subst h; exact ⟨_, rfl, fun _ _ => by constructor⟩)
end
end Zab
namespace Zab
open Go
set_option linter.unusedSimpArgs false
set_option linter.unusedVariables false
section
variable {E : Env} {np : Nat} {w : World} {N : Nat → Prop} {A K : Nat → Nat}
theorem ek_of {P : Program} {op : BinOp} {t : TypeId} {x y : Operand} {k : EqKind} (h : ekOf P op t x y = k) (hk : k ≠ .no) : op = .eql ∨ op = .neq := by
  unfold ekOf at h
  cases op <;> first | (exact .inl rfl) | (exact .inr rfl) | (exact absurd h.symm hk)
theorem ek_bool {P : Program} {op : BinOp} {t : TypeId} {x y : Operand} (h : ekOf P op t x y = .bool) : P.underlying t = some .bool := by
  have ho := ek_of h (by decide)
  rcases ho with rfl | rfl <;> (unfold ekOf at h; simp only at h; split at h <;> first | assumption | (split at h <;> cases h) | cases h)
theorem ek_iface {P : Program} {op : BinOp} {t : TypeId} {x y : Operand} (h : ekOf P op t x y = .iface ∨ ekOf P op t x y = .ifaceC) : ∃ ms, P.underlying t = some (.interface ms) := by
  have ho : op = .eql ∨ op = .neq := by rcases h with h | h <;> exact ek_of h (by decide)
  rcases h with h | h <;> rcases ho with rfl | rfl <;> (unfold ekOf at h; simp only at h; split at h <;> first | exact ⟨_, by assumption⟩ | (split at h <;> cases h) | cases h)
theorem ek_ifaceC {P : Program} {op : BinOp} {t : TypeId} {x y : Operand} (h : ekOf P op t x y = .ifaceC) : isConstO x = true ∨ isConstO y = true := by
  have ho := ek_of h (by decide)
  rcases ho with rfl | rfl <;> (unfold ekOf at h; simp only at h; split at h <;> first | (cases h; done) | skip)
  all_goals (split at h <;> first | (rename_i hc; simpa using hc) | (cases h; done))
theorem ek_ptr {P : Program} {op : BinOp} {t : TypeId} {x y : Operand} (h : ekOf P op t x y = .ptr) : ∃ e, P.underlying t = some (.pointer e) := by
  have ho := ek_of h (by decide)
  rcases ho with rfl | rfl <;> (unfold ekOf at h; simp only at h; split at h <;> first | exact ⟨_, by assumption⟩ | (split at h <;> cases h) | cases h)
theorem ek_ints {P : Program} {op : BinOp} {t : TypeId} {x y : Operand} {n : Nat} (h : ekOf P op t x y = .ints n) :
    ∃ fs, P.underlying t = some (.struct fs) ∧ fs.size = n ∧ intFields P 0 fs.toList = true ∧ P.stoodInHeld t = false ∧ P.eqGuardType P.depth t = false := by
  have ho := ek_of h (by simp)
  rcases ho with rfl | rfl <;> (unfold ekOf at h; simp only at h; split at h <;> first | (cases h; done) | skip)
  all_goals (split at h <;> first | (cases h; done) | skip)
  all_goals (rename_i hc; simp only [Bool.and_eq_true, Bool.not_eq_true'] at hc; cases h; exact ⟨_, by assumption, rfl, hc.1.1, hc.1.2, hc.2⟩)
theorem ek_slc {P : Program} {op : BinOp} {t : TypeId} {x y : Operand} (h : ekOf P op t x y = .slc) : (∃ e, P.underlying t = some (.slice e)) ∧ y = .const (.slice none 0 0) := by
  have ho := ek_of h (by decide)
  rcases ho with rfl | rfl <;> (unfold ekOf at h; simp only at h; split at h <;> first | (cases h; done) | skip)
  all_goals (split at h <;> first | (cases h; done) | skip)
  all_goals (rename_i hc; refine ⟨⟨_, by assumption⟩, ?_⟩; unfold isNilS at hc; split at hc <;> first | rfl | (cases hc))
theorem eqlIn_slc {P : Program} {t e : TypeId} {w : World} (ht : P.underlying t = some (.slice e)) (d : Nat) (a : Addr) (l c : Nat) : (Op.equalIn (d + 1) t (.slice (some a) l c) (.slice none 0 0)).run P w = .ok false w := by
  simp [Op.equalIn, underlying, program, Sem.run, ht]
theorem eqGuard_plain {P : Program} {op : BinOp} {t : TypeId} {x y : Operand} {a b : Value} (h1 : ¬ (a = .nilIface ∧ b = .nilIface)) (h2 : ∀ c d, ¬ (a = .agg c ∧ b = .agg d)) : (eqGuard op t x y a b).run P w = .ok () w := by
  unfold eqGuard
  cases op <;> first | rfl | skip
  all_goals (simp only [Bool.not_true, Bool.false_eq_true, if_false, ↓reduceIte]; split <;> first | (exact absurd ⟨rfl, rfl⟩ h1) | (exact absurd ⟨rfl, rfl⟩ (h2 _ _)) | rfl | skip)
  all_goals (simp; split <;> first | (exact absurd ⟨rfl, rfl⟩ h1) | (exact absurd ⟨rfl, rfl⟩ (h2 _ _)) | rfl)
theorem isConstO_of {x : Operand} (h : isConstO x = true) : ∃ v, x = .const v := by
  cases x <;> first | exact ⟨_, rfl⟩ | (cases h)
theorem eqGuard_const {P : Program} {op : BinOp} {t : TypeId} {x y : Operand} (h : isConstO x = true ∨ isConstO y = true) : (eqGuard op t x y .nilIface .nilIface).run P w = .ok () w := by
  rcases h with h | h
  · obtain ⟨v, rfl⟩ := isConstO_of h
    unfold eqGuard
    cases op <;> first | rfl | simp
  · obtain ⟨v, rfl⟩ := isConstO_of h
    unfold eqGuard
    cases op <;> first | rfl | (cases x <;> simp)
theorem eqGuard_agg {P : Program} {op : BinOp} {t : TypeId} {x y : Operand} {c d : Array Value} (h : P.eqGuardType P.depth t = false) : (eqGuard op t x y (.agg c) (.agg d)).run P w = .ok () w := by
  unfold eqGuard
  cases op <;> first | rfl | simp [program, Sem.run, h]
theorem eqlIn_bool {P : Program} {t : TypeId} (ht : P.underlying t = some .bool) (d : Nat) (x y : Bool) : (Op.equalIn (d + 1) t (.bool x) (.bool y)).run P w = .ok (x == y) w := by
  simp [Op.equalIn, run_underlying ht]
theorem eqlIn_iface_nil {P : Program} {t : TypeId} {ms : Array (String × TypeId)} (ht : P.underlying t = some (.interface ms)) (d : Nat) : (Op.equalIn (d + 1) t .nilIface .nilIface).run P w = .ok true w := by
  simp [Op.equalIn, run_underlying ht]
theorem eqlIn_iface_l {P : Program} {t : TypeId} {ms : Array (String × TypeId)} (ht : P.underlying t = some (.interface ms)) (d : Nat) (u : TypeId) (v : Value) : (Op.equalIn (d + 1) t .nilIface (.iface u v)).run P w = .ok false w := by
  simp [Op.equalIn, run_underlying ht]
theorem eqlIn_iface_r {P : Program} {t : TypeId} {ms : Array (String × TypeId)} (ht : P.underlying t = some (.interface ms)) (d : Nat) (u : TypeId) (v : Value) : (Op.equalIn (d + 1) t (.iface u v) .nilIface).run P w = .ok false w := by
  simp [Op.equalIn, run_underlying ht]
theorem eqlIn_ptr_nil_r {P : Program} {t e : TypeId} (ht : P.underlying t = some (.pointer e)) (d : Nat) (a : Option Addr) : (Op.equalIn (d + 1) t (.pointer a) (.pointer none)).run P w = .ok a.isNone w := by
  cases a <;> simp [Op.equalIn, run_underlying ht]
theorem eqlIn_ptr_nil_l {P : Program} {t e : TypeId} (ht : P.underlying t = some (.pointer e)) (d : Nat) (a : Option Addr) : (Op.equalIn (d + 1) t (.pointer none) (.pointer a)).run P w = .ok a.isNone w := by
  cases a <;> simp [Op.equalIn, run_underlying ht]
theorem isNil_sound {X : AV} {v : Value} {t : Bool} (h : VRep E np w N A K X v) (hn : isNil X = some t) : ∃ a, v = .pointer a ∧ t = a.isNone := by
  unfold isNil at hn
  split at hn <;> first | (cases hn; done) | skip
  · cases hn; exact ⟨none, vrep_np h, rfl⟩
  · cases hn; exact ⟨_, vrep_rf h, rfl⟩
  · cases hn; obtain ⟨blk, off, f, rfl, _⟩ := vrep_el h; exact ⟨_, rfl, rfl⟩
  · cases hn; exact ⟨_, vrep_gl h, rfl⟩
theorem part_int {P : Program} {t : TypeId} {k : IntKind} (ht : P.underlying t = some (.int k)) {cs : Array Value} {o : Nat} {v : Value} (h : cs[o]? = some v) : (part t cs o).run P w = .ok v w := by
  simp [part, isAgg, run_underlying ht, h]
theorem eqlIn_int {P : Program} {t : TypeId} {k0 k : IntKind} (ht : P.underlying t = some (.int k0)) (d : Nat) (x y : Int) : (Op.equalIn (d + 1) t (.int k x) (.int k y)).run P w = .ok (x == y) w := by
  simp [Op.equalIn, run_underlying ht]
theorem fields_loop {P : Program} (d : Nat) (xs ys : Array Value) : ∀ (l : List Field) (j : Nat) (X Y : List AV) (t : Bool), intFields P j l = true → X.length = l.length → Y.length = l.length →
    (∀ i (h : i < X.length), ∃ v, xs[j + i]? = some v ∧ FRep E w N X[i] v) → (∀ i (h : i < Y.length), ∃ v, ys[j + i]? = some v ∧ FRep E w N Y[i] v) → sameInts X Y = some t →
    (forIn l ((none : Option Bool), ()) fun f __s =>
              if f.name ≠ "_" then do
                let __do_lift ← part f.type xs f.offset
                let __do_lift_1 ← part f.type ys f.offset
                let __do_lift ← Op.equalIn (d + 1) f.type __do_lift __do_lift_1
                if (!__do_lift) = true then pure (ForInStep.done (some false, ()))
                  else pure (ForInStep.yield (none, ()))
              else pure (ForInStep.yield (none, ())) : Sem (Option Bool × Unit)).run P w = .ok (if t then none else some false, ()) w
  | [], j, X, Y, t, _, hx, hy, _, _, hs => by
    simp only [List.length_nil, List.length_eq_zero_iff] at hx hy
    subst hx; subst hy
    simp only [sameInts, Option.some.injEq] at hs
    subst hs
    simp
  | f :: r, j, X, Y, t, hf, hx, hy, hX, hY, hs => by
    simp only [intFields, Bool.and_eq_true] at hf
    obtain ⟨hf0, hf1⟩ := hf
    simp only [isIntField, Bool.and_eq_true, Bool.not_eq_true'] at hf0
    obtain ⟨⟨⟨h1, h2⟩, h3⟩, h4⟩ := hf0
    obtain ⟨k, hk⟩ : ∃ k, P.underlying f.type = some (.int k) := by
      split at h1
      · exact ⟨_, by assumption⟩
      · cases h1
    have hoff : f.offset = j := Nat.eq_of_beq_eq_true h3
    have hne : f.name ≠ "_" := by simpa using h4
    match X, Y, hx, hy with
    | x :: X, y :: Y, hx, hy =>
    obtain ⟨vx, hvx, rx⟩ := hX 0 (by simp)
    obtain ⟨vy, hvy, ry⟩ := hY 0 (by simp)
    simp only [Nat.add_zero, List.getElem_cons_zero] at hvx hvy rx ry
    unfold sameInts at hs
    split at hs
    · rename_i heq _; cases heq
    · rename_i kx a X' ky c Y' e1 e2
      cases e1; cases e2
      cases rx; cases ry
      by_cases hkk : kx = ky
      · subst hkk
        simp only [decide_true, cond_true] at hs
        cases hr : sameInts X Y with
        | none => simp [hr] at hs
        | some t' =>
          simp only [hr, Option.some.injEq] at hs
          subst hs
          have ih := fields_loop d xs ys r (j + 1) X Y t' hf1 (by simpa using hx) (by simpa using hy)
            (fun i h => by have := hX (i + 1) (by simpa using h); simpa [Nat.add_assoc, Nat.add_comm 1 i] using this)
            (fun i h => by have := hY (i + 1) (by simpa using h); simpa [Nat.add_assoc, Nat.add_comm 1 i] using this) hr
          rw [List.forIn_cons]
          simp only [Sem.run_bind, if_pos hne, hoff, part_int hk hvx, part_int hk hvy, Result.andThen_ok, eqlIn_int hk]
          by_cases hac : a = c
          · subst hac
            simpa using ih
          · have : (a == c) = false := by simpa using hac
            simp [this, hac]
      · simp [hkk] at hs
    · cases hs
theorem eqlIn_ints {P : Program} {t : TypeId} {fs : Array Field} (ht : P.underlying t = some (.struct fs)) (hi : intFields P 0 fs.toList = true) (hst : P.stoodInHeld t = false) (d : Nat) {X Y : List AV} {xs ys : List Value} {b : Bool}
    (hx : X.length = fs.size) (hy : Y.length = fs.size) (lx : X.length = xs.length) (ly : Y.length = ys.length) (rx : ∀ j (h1 : j < X.length) (h2 : j < xs.length), FRep E w N X[j] xs[j]) (ry : ∀ j (h1 : j < Y.length) (h2 : j < ys.length), FRep E w N Y[j] ys[j])
    (hs : sameInts X Y = some b) : (Op.equalIn (d + 2) t (.agg xs.toArray) (.agg ys.toArray)).run P w = .ok b w := by
  rw [show d + 2 = (d + 1) + 1 from rfl]
  generalize hm : d + 1 = m
  simp only [Op.equalIn, Sem.run_bind, run_underlying ht, Result.andThen_ok, hst, program, Sem.run]
  rw [← Array.forIn_toList]
  simp only [Bool.false_eq_true, if_false, Sem.run_bind]
  subst hm
  rw [fields_loop (E := E) (N := N) d xs.toArray ys.toArray fs.toList 0 X Y b hi (by simpa using hx) (by simpa using hy)
    (fun i h => ⟨xs[i]'(by omega), by simp [List.getElem?_eq_getElem (show i < xs.length by omega)], rx i h (by omega)⟩)
    (fun i h => ⟨ys[i]'(by omega), by simp [List.getElem?_eq_getElem (show i < ys.length by omega)], ry i h (by omega)⟩) hs]
  cases b <;> rfl
theorem eqlIn_slcN {P : Program} {t e : TypeId} (ht : P.underlying t = some (.slice e)) (d : Nat) : (Op.equalIn (d + 1) t (.slice none 0 0) (.slice none 0 0)).run P w = .ok true w := by
  simp [Op.equalIn, run_underlying ht]
theorem eql_sound {sents : List Nat} (hE : EnvOk E sents) (G : GOk E w) {op : BinOp} {t : TypeId} {x y : Operand} {X Y : AV} {vx vy : Value} {b : Bool} (hx : VRep E np w N A K X vx) (hy : VRep E np w N A K Y vy) (hcy : ∀ v, y = .const v → vy = v)
    (h : eqlV (ekOf E.P op t x y) X Y = some b) : (eqGuard op t x y vx vy).run E.P w = .ok () w ∧ (Op.equal t vx vy).run E.P w = .ok b w ∧ Go.binOp .eql t vx vy = (do pure (.bool (← Op.equal t vx vy))) ∧ Go.binOp .neq t vx vy = (do pure (.bool (!(← Op.equal t vx vy)))) := by
  have hmax : Op.maxDepth = 9998 + 2 := rfl
  rw [show Op.equal t vx vy = Op.equalIn (9998 + 2) t vx vy from rfl]
  generalize hk : ekOf E.P op t x y = k at h
  unfold eqlV at h
  split at h
  · have := vrep_bool hx; have := vrep_bool hy; subst vx; subst vy
    cases h
    refine ⟨eqGuard_plain (by simp) (by simp), eqlIn_bool (ek_bool hk) _ _ _, rfl, rfl⟩
  case _ g h' | _ g h' =>
    obtain ⟨ms, hms⟩ := ek_iface (by first | exact .inl hk | exact .inr hk)
    obtain ⟨p, hp, rfl⟩ := vrep_er hx
    obtain ⟨q, hq, rfl⟩ := vrep_er hy
    obtain ⟨el, i, e1, e2, e3⟩ := hE.ptr ⟨_, _, hp⟩
    obtain ⟨i', e4, e5⟩ := hE.cmp ⟨_, _, hp⟩
    refine ⟨eqGuard_plain (by simp [Env.errV]) (by simp [Env.errV]), ?_, rfl, rfl⟩
    cases h
    by_cases hpq : p = q
    · subst hpq
      have := G.inj _ _ _ hp hq
      subst this
      rw [Nat.beq_refl]
      exact run_equalIn_iface_ptr_same w 9998 _ hms e1 e4 e5 e2
    · have : Nat.beq g h' = false := by
        rw [← Bool.not_eq_true, Nat.beq_eq]
        rintro rfl
        rw [hp] at hq; exact hpq (Option.some.inj hq)
      rw [this]
      obtain ⟨c1, t1, o1, _⟩ := G.obj _ _ hp
      obtain ⟨c2, t2, o2, _⟩ := G.obj _ _ hq
      exact run_equalIn_iface_ptr_other w 9998 hms e1 e4 e5 e2 e3 (fun e => hpq (by injection e with e1 e2; exact Prod.ext e1 e2)) o1 o2
  case _ | _ =>
    obtain ⟨ms, hms⟩ := ek_iface (by first | exact .inl hk | exact .inr hk)
    obtain ⟨p, hp, rfl⟩ := vrep_er hx
    have := vrep_nl hy; subst this
    cases h
    exact ⟨eqGuard_plain (by simp [Env.errV]) (by simp [Env.errV]), eqlIn_iface_r hms _ _ _, rfl, rfl⟩
  case _ | _ =>
    obtain ⟨ms, hms⟩ := ek_iface (by first | exact .inl hk | exact .inr hk)
    obtain ⟨p, hp, rfl⟩ := vrep_er hy
    have := vrep_nl hx; subst this
    cases h
    exact ⟨eqGuard_plain (by simp [Env.errV]) (by simp [Env.errV]), eqlIn_iface_l hms _ _ _, rfl, rfl⟩
  case _ | _ =>
    obtain ⟨ms, hms⟩ := ek_iface (by first | exact .inl hk | exact .inr hk)
    obtain ⟨blk, off, f, rfl, _⟩ := vrep_ie hx
    have := vrep_nl hy; subst this
    cases h
    exact ⟨eqGuard_plain (by simp) (by simp), eqlIn_iface_r hms _ _ _, rfl, rfl⟩
  · obtain ⟨ms, hms⟩ := ek_iface (.inr hk)
    have := vrep_nl hx; subst this
    have := vrep_nl hy; subst this
    cases h
    exact ⟨eqGuard_const (ek_ifaceC hk), eqlIn_iface_nil hms _, rfl, rfl⟩
  · obtain ⟨e, he⟩ := ek_ptr hk
    have := vrep_np hy; subst this
    obtain ⟨a, rfl, rfl⟩ := isNil_sound hx h
    exact ⟨eqGuard_plain (by simp) (by simp), eqlIn_ptr_nil_r he _ _, rfl, rfl⟩
  · obtain ⟨e, he⟩ := ek_ptr hk
    have := vrep_np hx; subst this
    obtain ⟨a, rfl, rfl⟩ := isNil_sound hy h
    exact ⟨eqGuard_plain (by simp) (by simp), eqlIn_ptr_nil_l he _ _, rfl, rfl⟩
  · obtain ⟨⟨e, he⟩, hy0⟩ := ek_slc hk
    have := hcy _ hy0; subst this
    cases h
    obtain ⟨base, c, rfl, h0⟩ : ∃ base c, vx = .slice (some base) _ c ∧ True := by
      cases hx with
      | one h1 => cases h1 with
        | flat h2 => cases h2 with
          | sl cells n base c cs hn h0 h1 =>
            rcases h0 with h0 | ⟨blk, off, rfl, _⟩
            · cases h0
            · exact ⟨_, c, rfl, trivial⟩
    exact ⟨eqGuard_plain (by simp) (by simp), eqlIn_slc he _ _ _ _, rfl, rfl⟩
  · obtain ⟨⟨e, he⟩, hy0⟩ := ek_slc hk
    have := hcy _ hy0; subst this
    cases h
    have := vrep_z hx; subst this
    exact ⟨eqGuard_plain (by simp) (by simp), eqlIn_slcN he _, rfl, rfl⟩
  · obtain ⟨fs, h1, h2, h3, h4, h5⟩ := ek_ints hk
    rename_i n xs ys
    cases hb : (Nat.beq xs.length n && Nat.beq ys.length n)
    · simp [hb] at h
    · simp only [hb, cond_true] at h
      simp only [Bool.and_eq_true, Nat.beq_eq] at hb
      obtain ⟨l1, rfl, l2, l3⟩ := vrep_ag hx
      obtain ⟨l4, rfl, l5, l6⟩ := vrep_ag hy
      exact ⟨eqGuard_agg h5, eqlIn_ints h1 h3 h4 9998 (by omega) (by omega) l2 l5 l3 l6 h, rfl, rfl⟩
  · cases h
end
end Zab
namespace Zab
open Go
set_option linter.unusedSimpArgs false
set_option linter.unusedVariables false
def RepL (E : Env) (w : World) (N : Nat → Prop) (xs : List AV) (vs : List Value) : Prop := xs.length = vs.length ∧ ∀ j (h1 : j < xs.length) (h2 : j < vs.length), FRep E w N xs[j] vs[j]
section
variable {E : Env} {w : World} {N : Nat → Prop}
theorem RepL.nil : RepL E w N [] [] := ⟨rfl, fun j h => by simp at h⟩
theorem RepL.cons {x : AV} {v : Value} {xs : List AV} {vs : List Value} (h : FRep E w N x v) (hs : RepL E w N xs vs) : RepL E w N (x :: xs) (v :: vs) := by
  refine ⟨by simp [hs.1], fun j h1 h2 => ?_⟩
  cases j with
  | zero => exact h
  | succ j => exact hs.2 j (by simpa using h1) (by simpa using h2)
theorem RepL.append {xs ys : List AV} {vs us : List Value} (h : RepL E w N xs vs) (k : RepL E w N ys us) : RepL E w N (xs ++ ys) (vs ++ us) := by
  refine ⟨by simp [h.1, k.1], fun j h1 h2 => ?_⟩
  by_cases hj : j < xs.length
  · rw [List.getElem_append_left hj, List.getElem_append_left (by rw [← h.1]; exact hj)]; exact h.2 j _ _
  · rw [List.getElem_append_right (by omega), List.getElem_append_right (by rw [← h.1]; omega)]
    simp only [← h.1]; exact k.2 _ _ _
theorem RepL.take {xs : List AV} {vs : List Value} (h : RepL E w N xs vs) (n : Nat) : RepL E w N (xs.take n) (vs.take n) := by
  refine ⟨by simp [h.1], fun j h1 h2 => ?_⟩
  simp only [List.getElem_take]; exact h.2 j _ _
theorem RepL.drop {xs : List AV} {vs : List Value} (h : RepL E w N xs vs) (n : Nat) : RepL E w N (xs.drop n) (vs.drop n) := by
  refine ⟨by simp [h.1], fun j h1 h2 => ?_⟩
  simp only [List.getElem_drop]; exact h.2 _ _ _
theorem RepL.set {xs : List AV} {vs : List Value} (h : RepL E w N xs vs) (o : Nat) {x : AV} {v : Value} (hx : FRep E w N x v) : RepL E w N (xs.set o x) (vs.set o v) := by
  refine ⟨by simp [h.1], fun j h1 h2 => ?_⟩
  simp only [List.getElem_set]
  split
  · exact hx
  · exact h.2 j _ _
theorem RepL.over {xs ys : List AV} {vs us : List Value} (h : RepL E w N xs vs) (o : Nat) (k : RepL E w N ys us) : RepL E w N (over xs o ys) (vs.take o ++ (us ++ vs.drop (o + us.length))) := by
  unfold Zab.over
  rw [k.1]
  exact (h.take o).append (k.append (h.drop _))
theorem RepL.consts {l : List Value} (h : l.all flatConst = true) : RepL E w N (l.map constAV) l := ⟨by simp, fun j h1 h2 => FRep.list_map h j h1 h2⟩
theorem RepL.mono {w' : World} {N' : Nat → Prop} (hN : ∀ b, N b → N' b) (hw : ∀ b, N b → w'.heap[b]? = w.heap[b]?) {xs : List AV} {vs : List Value} (h : RepL E w N xs vs) : RepL E w' N' xs vs :=
  ⟨h.1, fun j h1 h2 => (h.2 j h1 h2).mono hN hw⟩
theorem RepL.one {xs : List AV} {vs : List Value} (h : RepL E w N xs vs) : ∀ v ∈ vs, v.oneCell' = true := fun v hv => by
  obtain ⟨j, hj, rfl⟩ := List.getElem_of_mem hv
  exact (h.2 j (by rw [h.1]; exact hj) hj).one
theorem RepL.flatten_rep {zs : List AV} {us : List Value} (h : RepL E w N zs us) : ∀ n, RepL E w N (zrep zs n) (List.replicate n us).flatten
  | 0 => by simpa [zrep] using RepL.nil
  | n + 1 => by
    have := h.append (RepL.flatten_rep h n)
    simpa [zrep, List.replicate_succ] using this
theorem RepL.get {xs : List AV} {vs : List Value} (h : RepL E w N xs vs) {j : Nat} {x : AV} (hx : xs[j]? = some x) : ∃ v, vs[j]? = some v ∧ FRep E w N x v := by
  obtain ⟨hj, rfl⟩ := List.getElem?_eq_some_iff.1 hx
  exact ⟨vs[j]'(by rw [← h.1]; exact hj), List.getElem?_eq_getElem (by rw [← h.1]; exact hj), h.2 j _ _⟩
variable {np : Nat} {A K : Nat → Nat}
theorem vrep_agL {cs : List AV} {v : Value} (h : VRep E np w N A K (.ag cs) v) : ∃ l : List Value, v = .agg l.toArray ∧ RepL E w N cs l := by
  obtain ⟨l, h1, h2, h3⟩ := vrep_ag h; exact ⟨l, h1, h2, h3⟩
theorem VRep.agL {cs : List AV} {l : List Value} (h : RepL E w N cs l) : VRep E np w N A K (.ag cs) (.agg l.toArray) := .one (.ag cs l h.1 h.2)
theorem cells_sound {x : AV} {v : Value} {sz : Nat} {cs : List AV} (h : VRep E np w N A K x v) (hc : cellsOf sz x = some cs) : RepL E w N cs v.cells.toList ∧ cs.length = sz := by
  unfold cellsOf at hc
  split at hc
  · rename_i l
    cases hb : Nat.beq l.length sz
    · simp [hb] at hc
    · simp only [hb, cond_true, Option.some.injEq] at hc
      subst hc
      obtain ⟨us, rfl, hr⟩ := vrep_agL h
      exact ⟨by simpa [Value.cells] using hr, Nat.eq_of_beq_eq_true hb⟩
  · cases hb : (Nat.beq sz 1 && x.flat)
    · simp [hb] at hc
    · simp only [hb, cond_true, Option.some.injEq] at hc
      subst hc
      simp only [Bool.and_eq_true] at hb
      have hf := vrep_flat h hb.2
      have hv : v.cells = #[v] := by
        cases hf <;> rfl
      rw [hv]
      have := Nat.eq_of_beq_eq_true hb.1
      exact ⟨RepL.cons hf RepL.nil, by simp [this]⟩
theorem agg_of {P : Program} {t : TypeId} {m : Option Nat} (hm : aggOfT P t = some m) :
    (m = none ∧ ∀ w : World, (isAgg t).run P w = .ok false w) ∨ (∃ n i, m = some n ∧ P.info? t = some i ∧ i.size = n ∧ (∃ d, P.underlying t = some d ∧ d.isRow = true) ∧ ∀ w : World, (isAgg t).run P w = .ok true w) := by
  unfold aggOfT at hm
  cases hu : P.underlying t with
  | none => simp [hu] at hm
  | some d =>
    have hag : ∀ w : World, (isAgg t).run P w = .ok d.isRow w := by
      intro w
      unfold isAgg
      rw [Sem.run_bind, run_underlying hu]
      cases d <;> rfl
    simp only [hu] at hm
    cases d
    case struct fs =>
      right
      simp only [sizeOfT, Option.map_map] at hm
      cases hi : P.info? t with
      | none => simp [hi] at hm
      | some i =>
        simp only [hi, Option.map_some, Option.some.injEq, Function.comp] at hm
        exact ⟨_, i, hm.symm, rfl, rfl, ⟨_, rfl, rfl⟩, hag⟩
    case array n e =>
      right
      simp only [sizeOfT, Option.map_map] at hm
      cases hi : P.info? t with
      | none => simp [hi] at hm
      | some i =>
        simp only [hi, Option.map_some, Option.some.injEq, Function.comp] at hm
        exact ⟨_, i, hm.symm, rfl, rfl, ⟨_, rfl, rfl⟩, hag⟩
    all_goals (simp only [Option.some.injEq] at hm; exact .inl ⟨hm.symm, hag⟩)
theorem part_sound {P : Program} {t : TypeId} {m : Option Nat} (hm : aggOfT P t = some m) {cs : List AV} {l : List Value} (h : RepL E w N cs l) {o : Nat} {r : AV} (hp : partV cs o m = some r) :
    ∃ v, (part t l.toArray o).run P w = .ok v w ∧ VRep E np w N A K r v := by
  rcases agg_of hm with ⟨rfl, hag⟩ | ⟨n, i, rfl, hi, hs, _, hag⟩
  · simp only [partV] at hp
    obtain ⟨v, hv, hf⟩ := h.get hp
    exact ⟨v, by simp [part, hag, hv], .one (.flat hf)⟩
  · simp only [partV] at hp
    cases hb : Nat.ble (o + n) cs.length
    · simp [hb] at hp
    · simp only [hb, cond_true, Option.some.injEq] at hp
      subst hp
      have hle := Nat.le_of_ble_eq_true hb
      have hle' : o + n ≤ l.length := by rw [← h.1]; exact hle
      exact ⟨.agg ((l.drop o).take n).toArray, by simp [part, hag, Go.sizeOf, typeInfo, hi, hs, List.extract_eq_take_drop], VRep.agL ((h.drop o).take n)⟩
theorem fill_sound {place : Nat → Option (Nat × Nat)} {ρ : Operand → AV} {ev : Operand → Value} (hρ : ∀ x, VRep E np w N A K (ρ x) (ev x)) :
    ∀ (parts : List (Nat × Operand)) (aparts : List (Nat × Nat × Operand)), (aparts.length = parts.length ∧ ∀ j (h1 : j < aparts.length) (h2 : j < parts.length), place (parts[j]).1 = some ((aparts[j]).1, (aparts[j]).2.1) ∧ (aparts[j]).2.2 = (parts[j]).2) →
    ∀ {cs r : List AV} {l : List Value}, RepL E w N cs l → fillV ρ aparts cs = some r → ∃ l' : List Value, Instr.fill place l.toArray (parts.map fun p => (p.1, ev p.2)) = some l'.toArray ∧ RepL E w N r l'
  | [], [], _, cs, r, l, h, hf => by
    simp only [fillV, Option.some.injEq] at hf
    subst hf
    exact ⟨l, rfl, h⟩
  | [], _ :: _, hp, _, _, _, _, _ => by simp at hp
  | _ :: _, [], hp, _, _, _, _, _ => by simp at hp
  | (i, x) :: ps, (off, sz, y) :: aps, hp, cs, r, l, h, hf => by
    obtain ⟨hpl, hpa⟩ := hp
    obtain ⟨hpl0, he⟩ := hpa 0 (by simp) (by simp)
    have he : y = x := he
    subst he
    simp only [List.getElem_cons_zero] at hpl0 hf
    simp only [fillV] at hf
    cases hc : cellsOf sz (ρ y) with
    | none => simp [hc] at hf
    | some vs =>
      simp only [hc] at hf
      obtain ⟨hr, hlen⟩ := cells_sound (hρ y) hc
      cases hb : Nat.ble (off + sz) cs.length
      · simp [hb] at hf
      · simp only [hb, cond_true] at hf
        have hle := Nat.le_of_ble_eq_true hb
        have hsz : (ev y).cells.size = sz := by rw [← hlen, hr.1]; simp
        have hrest : ∀ j (h1 : j < aps.length) (h2 : j < ps.length), place (ps[j]).1 = some ((aps[j]).1, (aps[j]).2.1) ∧ (aps[j]).2.2 = (ps[j]).2 := fun j h1 h2 => by
          have := hpa (j + 1) (by simpa using h1) (by simpa using h2)
          simpa using this
        have key : ∀ (us : List Value) (k : Nat) (c : List Value), off + k + us.length ≤ c.length →
            (us.zipIdx k).foldl (fun (cs : Array Value) (p : Value × Nat) => cs.setIfInBounds (off + p.2) p.1) c.toArray = (c.take (off + k) ++ (us ++ c.drop (off + k + us.length))).toArray := by
          intro us
          induction us with
          | nil => intro k c _; simp
          | cons u us ih =>
            intro k c hc
            simp only [List.length_cons] at hc
            simp only [List.zipIdx_cons, List.foldl_cons]
            have : c.toArray.setIfInBounds (off + k) u = (c.set (off + k) u).toArray := by simp
            rw [this, ih (k + 1) _ (by simp; omega)]
            congr 1
            rw [List.set_eq_take_append_cons_drop, if_pos (by omega)]
            apply List.ext_getElem?
            intro n
            simp only [List.getElem?_append, List.length_take, List.length_append, List.length_cons, List.getElem?_take, List.getElem?_drop, List.getElem?_cons, List.length_drop]
            repeat' split
            all_goals first | omega | rfl | skip
            all_goals (congr 1; omega)
        have hstep : Instr.fill place l.toArray (((i, y) :: ps).map fun p => (p.1, ev p.2)) =
            Instr.fill place (l.take off ++ ((ev y).cells.toList ++ l.drop (off + (ev y).cells.toList.length))).toArray (ps.map fun p => (p.1, ev p.2)) := by
          simp only [List.map_cons, Instr.fill, hpl0]
          rw [if_neg (by
            simp only [Bool.or_eq_true, decide_eq_true_eq, not_or]
            refine ⟨by simp [hsz], ?_⟩
            have := h.1
            simp; omega)]
          congr 1
          have := key (ev y).cells.toList 0 l (by have := h.1; simp; omega)
          simp only [Nat.add_zero] at this
          rw [← this]
          rw [← Array.foldl_toList]
          simp
        rw [hstep]
        have hover : fillV ρ aps (over cs off vs) = some r := by
          revert hf
          match vs, hlen with
          | [], _ => exact id
          | [v], hl =>
            intro hf
            have : over cs off [v] = cs.set off v := by
              unfold over
              simp only [List.length_cons, List.length_nil] at hl
              rw [List.set_eq_take_append_cons_drop, if_pos (by omega)]
              simp
            rw [this]; exact hf
          | _ :: _ :: _, _ => exact id
        exact fill_sound hρ ps aps ⟨by simpa using hpl, hrest⟩ (h.over off hr) hover
end
end Zab
namespace Zab
open Go
set_option linter.unusedSimpArgs false
set_option linter.unusedVariables false
def CQ (E : Env) (np : Nat) (w : World) (N : Nat → Prop) (A K : Nat → Nat) (x : AV) (v : Value) : Prop := x.cellQ = true ∧ v.oneCell' = true ∧ V1 E np w N A K x v
def RepQ (E : Env) (np : Nat) (w : World) (N : Nat → Prop) (A K : Nat → Nat) (xs : List AV) (vs : List Value) : Prop := xs.length = vs.length ∧ ∀ j (h1 : j < xs.length) (h2 : j < vs.length), CQ E np w N A K xs[j] vs[j]
section
variable {E : Env} {np : Nat} {w : World} {N : Nat → Prop} {A K : Nat → Nat}
theorem RepQ.nil : RepQ E np w N A K [] [] := ⟨rfl, fun j h => by simp at h⟩
theorem RepQ.cons {x : AV} {v : Value} {xs : List AV} {vs : List Value} (h : CQ E np w N A K x v) (hs : RepQ E np w N A K xs vs) : RepQ E np w N A K (x :: xs) (v :: vs) := by
  refine ⟨by simp [hs.1], fun j h1 h2 => ?_⟩
  cases j with
  | zero => exact h
  | succ j => exact hs.2 j (by simpa using h1) (by simpa using h2)
theorem RepQ.append {xs ys : List AV} {vs us : List Value} (h : RepQ E np w N A K xs vs) (k : RepQ E np w N A K ys us) : RepQ E np w N A K (xs ++ ys) (vs ++ us) := by
  refine ⟨by simp [h.1, k.1], fun j h1 h2 => ?_⟩
  by_cases hj : j < xs.length
  · rw [List.getElem_append_left hj, List.getElem_append_left (by rw [← h.1]; exact hj)]; exact h.2 j _ _
  · rw [List.getElem_append_right (by omega), List.getElem_append_right (by rw [← h.1]; omega)]
    simp only [← h.1]; exact k.2 _ _ _
theorem RepQ.take {xs : List AV} {vs : List Value} (h : RepQ E np w N A K xs vs) (n : Nat) : RepQ E np w N A K (xs.take n) (vs.take n) := by
  refine ⟨by simp [h.1], fun j h1 h2 => ?_⟩
  simp only [List.getElem_take]; exact h.2 j _ _
theorem RepQ.drop {xs : List AV} {vs : List Value} (h : RepQ E np w N A K xs vs) (n : Nat) : RepQ E np w N A K (xs.drop n) (vs.drop n) := by
  refine ⟨by simp [h.1], fun j h1 h2 => ?_⟩
  simp only [List.getElem_drop]; exact h.2 _ _ _
theorem RepQ.set {xs : List AV} {vs : List Value} (h : RepQ E np w N A K xs vs) (o : Nat) {x : AV} {v : Value} (hx : CQ E np w N A K x v) : RepQ E np w N A K (xs.set o x) (vs.set o v) := by
  refine ⟨by simp [h.1], fun j h1 h2 => ?_⟩
  simp only [List.getElem_set]
  split
  · exact hx
  · exact h.2 j _ _
theorem RepQ.over {xs ys : List AV} {vs us : List Value} (h : RepQ E np w N A K xs vs) (o : Nat) (k : RepQ E np w N A K ys us) : RepQ E np w N A K (over xs o ys) (vs.take o ++ (us ++ vs.drop (o + us.length))) := by
  unfold Zab.over
  rw [k.1]
  exact (h.take o).append (k.append (h.drop _))
theorem RepQ.get {xs : List AV} {vs : List Value} (h : RepQ E np w N A K xs vs) {j : Nat} {x : AV} (hx : xs[j]? = some x) : ∃ v, vs[j]? = some v ∧ CQ E np w N A K x v := by
  obtain ⟨hj, rfl⟩ := List.getElem?_eq_some_iff.1 hx
  exact ⟨vs[j]'(by rw [← h.1]; exact hj), List.getElem?_eq_getElem (by rw [← h.1]; exact hj), h.2 j _ _⟩
theorem flat_cellQ {x : AV} (h : x.flat = true) : x.cellQ = true := by cases x <;> first | rfl | cases h
theorem CQ.ofFlat {x : AV} {v : Value} (h : FRep E w N x v) : CQ E np w N A K x v := ⟨flat_cellQ h.flat, h.one, .flat h⟩
theorem RepQ.ofL {xs : List AV} {vs : List Value} (h : RepL E w N xs vs) : RepQ E np w N A K xs vs := ⟨h.1, fun j h1 h2 => .ofFlat (h.2 j h1 h2)⟩
theorem RepQ.one {xs : List AV} {vs : List Value} (h : RepQ E np w N A K xs vs) : ∀ v ∈ vs, v.oneCell' = true := fun v hv => by
  obtain ⟨j, hj, rfl⟩ := List.getElem_of_mem hv
  exact (h.2 j (by rw [h.1]; exact hj) hj).2.1
theorem RepQ.mono {w' : World} {N' : Nat → Prop} {A' K' : Nat → Nat} (hN : ∀ b, N b → N' b) (hw : ∀ b, N b → w'.heap[b]? = w.heap[b]?) {xs : List AV} {vs : List Value} (hx : ∀ e, (∃ x ∈ xs, names1 e x) → A' e = A e ∧ K' e = K e) (h : RepQ E np w N A K xs vs) : RepQ E np w' N' A' K' xs vs :=
  ⟨h.1, fun j h1 h2 => ⟨(h.2 j h1 h2).1, (h.2 j h1 h2).2.1, (h.2 j h1 h2).2.2.mono hN hw fun d hd => hx d ⟨_, List.getElem_mem h1, hd⟩⟩⟩
theorem allFlat_of : ∀ {l : List AV}, allFlat l = true → ∀ j (h : j < l.length), l[j].flat = true
  | [], _, j, h => by simp at h
  | x :: r, h, j, hj => by
    simp only [allFlat, Bool.and_eq_true] at h
    cases j with
    | zero => exact h.1
    | succ j => exact allFlat_of h.2 j (by simpa using hj)
theorem V1.ofF {x : AV} {v : Value} (h : V1 E np w N A K x v) (hx : x.flat = true) : FRep E w N x v := by
  cases h <;> first | assumption | (simp [AV.flat] at hx)
theorem RepQ.flat {xs : List AV} {vs : List Value} (h : RepQ E np w N A K xs vs) (hf : allFlat xs = true) : RepL E w N xs vs := ⟨h.1, fun j h1 h2 => (h.2 j h1 h2).2.2.ofF (allFlat_of hf j h1)⟩
theorem cellQ_plain {x : AV} {v : Value} (h : VRep E np w N A K x v) (hx : x.cellQ = true) : V1 E np w N A K x v := by
  cases h with
  | one h => exact h
  | tp => cases hx
  | fn => cases hx
  | aq => cases hx
theorem gone_one {x : AV} {v : Value} (h : V1 E np w N A K x v) (hx : x.cellQ = true) (hg : x ≠ .gone) : v.oneCell' = true := by
  cases h with
  | flat h => exact h.one
  | gone => exact (hg rfl).elim
  | rf => rfl
  | rs => rfl
  | _ => cases hx
theorem vrep_aqL {cs : List AV} {v : Value} (hq : ∀ x ∈ cs, x.cellQ = true) (h : VRep E np w N A K (.aq cs) v) : ∃ l : List Value, v = .agg l.toArray ∧ RepQ E np w N A K cs l := by
  obtain ⟨l, h1, h2, h3, h4⟩ := vrep_aq h
  exact ⟨l, h1, h2, fun j p q => ⟨hq _ (List.getElem_mem p), h3 _ (List.getElem_mem q), h4 j p q⟩⟩
theorem VRep.aqL {cs : List AV} {l : List Value} (h : RepQ E np w N A K cs l) : VRep E np w N A K (.aq cs) (.agg l.toArray) := .aq cs l h.1 h.one fun j p q => (h.2 j p q).2.2
theorem cellN_Q {x : AV} (h : x.cellN = true) : x.cellQ = true ∧ x ≠ .gone := by
  cases x <;> first | (cases h; done) | exact ⟨rfl, by simp⟩
theorem allQ_of : ∀ {l : List AV}, allQ l = true → ∀ x ∈ l, x.cellQ = true
  | [], _, x, h => by cases h
  | y :: r, h, x, hx => by
    simp only [allQ, Bool.and_eq_true] at h
    rcases List.mem_cons.1 hx with rfl | hx
    · exact h.1
    · exact allQ_of h.2 x hx
theorem cellsQ_sound {x : AV} {v : Value} {sz : Nat} {cs : List AV} (h : VRep E np w N A K x v) (hc : cellsQ sz x = some cs) : RepQ E np w N A K cs v.cells.toList ∧ cs.length = sz := by
  unfold cellsQ at hc
  split at hc
  · rename_i l
    cases hb : Nat.beq l.length sz
    · simp [hb] at hc
    · simp only [hb, cond_true, Option.some.injEq] at hc
      subst hc
      obtain ⟨us, rfl, hr⟩ := vrep_agL h
      exact ⟨by simpa [Value.cells] using RepQ.ofL hr, Nat.eq_of_beq_eq_true hb⟩
  · rename_i l
    cases hb : (Nat.beq l.length sz && allQ l)
    · simp [hb] at hc
    · simp only [hb, cond_true, Option.some.injEq] at hc
      subst hc
      simp only [Bool.and_eq_true] at hb
      obtain ⟨us, rfl, hr⟩ := vrep_aqL (allQ_of hb.2) h
      exact ⟨by simpa [Value.cells] using hr, Nat.eq_of_beq_eq_true hb.1⟩
  · cases hb : (Nat.beq sz 1 && x.cellN)
    · simp [hb] at hc
    · simp only [hb, cond_true, Option.some.injEq] at hc
      subst hc
      simp only [Bool.and_eq_true] at hb
      have hq := cellN_Q hb.2
      have hf := cellQ_plain h hq.1
      have ho := gone_one hf hq.1 hq.2
      have hv : v.cells = #[v] := by
        cases hf with
        | flat hf => cases hf <;> rfl
        | rf => rfl
        | rs => rfl
        | gone => exact absurd rfl hq.2
        | _ => cases hq.1
      rw [hv]
      have := Nat.eq_of_beq_eq_true hb.1
      exact ⟨RepQ.cons ⟨hq.1, ho, hf⟩ RepQ.nil, by simp [this]⟩
theorem partQ_sound {P : Program} {t : TypeId} {m : Option Nat} (hm : aggOfT P t = some m) {cs : List AV} {l : List Value} (h : RepQ E np w N A K cs l) {o : Nat} {r : AV} (hp : partQ cs o m = some r) :
    ∃ v, (part t l.toArray o).run P w = .ok v w ∧ VRep E np w N A K r v := by
  rcases agg_of hm with ⟨rfl, hag⟩ | ⟨n, i, rfl, hi, hs, _, hag⟩
  · simp only [partQ] at hp
    obtain ⟨v, hv, hf⟩ := h.get hp
    exact ⟨v, by simp [part, hag, hv], .one hf.2.2⟩
  · simp only [partQ] at hp
    cases hb : Nat.ble (o + n) cs.length
    · simp [hb] at hp
    · simp only [hb, cond_true] at hp
      have hle := Nat.le_of_ble_eq_true hb
      have hle' : o + n ≤ l.length := by rw [← h.1]; exact hle
      have hr := (h.drop o).take n
      refine ⟨.agg ((l.drop o).take n).toArray, by simp [part, hag, Go.sizeOf, typeInfo, hi, hs, List.extract_eq_take_drop], ?_⟩
      cases hf : allFlat ((cs.drop o).take n)
      · simp only [hf, cond_false, Option.some.injEq] at hp; subst hp; exact VRep.aqL hr
      · simp only [hf, cond_true, Option.some.injEq] at hp; subst hp; exact VRep.agL (hr.flat hf)
theorem fillQ_sound {place : Nat → Option (Nat × Nat)} {ρ : Operand → AV} {ev : Operand → Value} (hρ : ∀ x, VRep E np w N A K (ρ x) (ev x)) :
    ∀ (parts : List (Nat × Operand)) (aparts : List (Nat × Nat × Operand)), (aparts.length = parts.length ∧ ∀ j (h1 : j < aparts.length) (h2 : j < parts.length), place (parts[j]).1 = some ((aparts[j]).1, (aparts[j]).2.1) ∧ (aparts[j]).2.2 = (parts[j]).2) →
    ∀ {cs r : List AV} {l : List Value}, RepQ E np w N A K cs l → fillQ ρ aparts cs = some r → ∃ l' : List Value, Instr.fill place l.toArray (parts.map fun p => (p.1, ev p.2)) = some l'.toArray ∧ RepQ E np w N A K r l'
  | [], [], _, cs, r, l, h, hf => by
    simp only [fillQ, Option.some.injEq] at hf
    subst hf
    exact ⟨l, rfl, h⟩
  | [], _ :: _, hp, _, _, _, _, _ => by simp at hp
  | _ :: _, [], hp, _, _, _, _, _ => by simp at hp
  | (i, x) :: ps, (off, sz, y) :: aps, hp, cs, r, l, h, hf => by
    obtain ⟨hpl, hpa⟩ := hp
    obtain ⟨hpl0, he⟩ := hpa 0 (by simp) (by simp)
    have he : y = x := he
    subst he
    simp only [List.getElem_cons_zero] at hpl0 hf
    simp only [fillQ] at hf
    cases hc : cellsQ sz (ρ y) with
    | none => simp [hc] at hf
    | some vs =>
      simp only [hc] at hf
      obtain ⟨hr, hlen⟩ := cellsQ_sound (hρ y) hc
      cases hb : Nat.ble (off + sz) cs.length
      · simp [hb] at hf
      · simp only [hb, cond_true] at hf
        have hle := Nat.le_of_ble_eq_true hb
        have hsz : (ev y).cells.size = sz := by rw [← hlen, hr.1]; simp
        have hrest : ∀ j (h1 : j < aps.length) (h2 : j < ps.length), place (ps[j]).1 = some ((aps[j]).1, (aps[j]).2.1) ∧ (aps[j]).2.2 = (ps[j]).2 := fun j h1 h2 => by
          have := hpa (j + 1) (by simpa using h1) (by simpa using h2)
          simpa using this
        have key : ∀ (us : List Value) (k : Nat) (c : List Value), off + k + us.length ≤ c.length →
            (us.zipIdx k).foldl (fun (cs : Array Value) (p : Value × Nat) => cs.setIfInBounds (off + p.2) p.1) c.toArray = (c.take (off + k) ++ (us ++ c.drop (off + k + us.length))).toArray := by
          intro us
          induction us with
          | nil => intro k c _; simp
          | cons u us ih =>
            intro k c hc
            simp only [List.length_cons] at hc
            simp only [List.zipIdx_cons, List.foldl_cons]
            have : c.toArray.setIfInBounds (off + k) u = (c.set (off + k) u).toArray := by simp
            rw [this, ih (k + 1) _ (by simp; omega)]
            congr 1
            rw [List.set_eq_take_append_cons_drop, if_pos (by omega)]
            apply List.ext_getElem?
            intro n
            simp only [List.getElem?_append, List.length_take, List.length_append, List.length_cons, List.getElem?_take, List.getElem?_drop, List.getElem?_cons, List.length_drop]
            repeat' split
            all_goals first | omega | rfl | skip
            all_goals (congr 1; omega)
        have hstep : Instr.fill place l.toArray (((i, y) :: ps).map fun p => (p.1, ev p.2)) =
            Instr.fill place (l.take off ++ ((ev y).cells.toList ++ l.drop (off + (ev y).cells.toList.length))).toArray (ps.map fun p => (p.1, ev p.2)) := by
          simp only [List.map_cons, Instr.fill, hpl0]
          rw [if_neg (by
            simp only [Bool.or_eq_true, decide_eq_true_eq, not_or]
            refine ⟨by simp [hsz], ?_⟩
            have := h.1
            simp; omega)]
          congr 1
          have := key (ev y).cells.toList 0 l (by have := h.1; simp; omega)
          simp only [Nat.add_zero] at this
          rw [← this]
          rw [← Array.foldl_toList]
          simp
        rw [hstep]
        have hover : fillQ ρ aps (over cs off vs) = some r := by
          revert hf
          match vs, hlen with
          | [], _ => exact id
          | [v], hl =>
            intro hf
            have : over cs off [v] = cs.set off v := by
              unfold over
              simp only [List.length_cons, List.length_nil] at hl
              rw [List.set_eq_take_append_cons_drop, if_pos (by omega)]
              simp
            rw [this]; exact hf
          | _ :: _ :: _, _ => exact id
        exact fillQ_sound hρ ps aps ⟨by simpa using hpl, hrest⟩ (h.over off hr) hover
end
end Zab
namespace Zab
open Go
set_option linter.unusedSimpArgs false
set_option linter.unusedVariables false
def PureOk (C : Ctx) (A K : Nat → Nat) (S : St) (a : Act) (w : World) (o : Oper) (r : AV) : Prop :=
  ∃ v w', (execOp a.eval o).run C.E.P w = .ok (.value v) w' ∧ Grew w w' ∧ VRep C.E C.np w' (Still C A K S.l w') A K r v
section
variable {C : Ctx} {A K : Nat → Nat} {S : St} {a : Act} {w : World} {o : Oper} {r : AV}
theorem PureOk.of {v : Value} (h : (execOp a.eval o).run C.E.P w = .ok (.value v) w) (hr : VRep C.E C.np w (Still C A K S.l w) A K r v) : PureOk C A K S a w o r :=
  ⟨v, w, h, Grew.refl w, hr⟩
theorem run_v {P : Program} {s : Sem Value} {v : Value} {w w' : World} (h : s.run P w = .ok v w') : (do pure (Next.value (← s)) : Sem Next).run P w = .ok (.value v) w' := by
  rw [Sem.run_bind, h]; rfl
theorem p_bin {sents : List Nat} (hE : EnvOk C.E sents) (R : Rel C A K S a w) {op : BinOp} {t u : TypeId} {x y : Operand} (ho : o.op = .binOp op t x y u)
    (h : binV (ekOf C.E.P op t x y) op (evalO S.s x) (evalO S.s y) = some r) : PureOk C A K S a w o r := by
  have hx := R.eval x
  have hy := R.eval y
  suffices ∃ v, (do eqGuard op t x y (a.eval x) (a.eval y); Go.binOp op t (a.eval x) (a.eval y) : Sem Value).run C.E.P w = .ok v w ∧ VRep C.E C.np w (Still C A K S.l w) A K r v by
    obtain ⟨v, h1, h2⟩ := this
    refine PureOk.of (v := v) ?_ h2
    simp only [execOp, ho]
    exact run_v h1
  have hcy : ∀ v, y = .const v → a.eval y = v := fun v e => by subst e; rfl
  generalize hX : evalO S.s x = X at h hx
  generalize hY : evalO S.s y = Y at h hy
  generalize a.eval x = vx at hx
  generalize a.eval y = vy at hy hcy
  unfold binV at h
  split at h
  · rename_i k p k' q
    have e1 := vrep_int hx
    have e2 := vrep_int hy
    subst e1; subst e2
    have hg : (eqGuard op t x y (.int k p) (.int k' q)).run C.E.P w = .ok () w := eqGuard_plain (by simp) (by simp)
    simp only [Sem.run_bind, hg, Result.andThen_ok]
    split at h
    · obtain ⟨v, hv, hr⟩ := shift_sound (P := C.E.P) (w := w) (yk := k') h
      exact ⟨v, by simpa [Go.binOp] using hv, .one (.flat (hr _ _))⟩
    · obtain ⟨v, hv, hr⟩ := shift_sound (P := C.E.P) (w := w) (yk := k') h
      exact ⟨v, by simpa [Go.binOp] using hv, .one (.flat (hr _ _))⟩
    · rename_i h1 h2
      by_cases hk : k = k'
      · subst hk
        simp only [decide_true, cond_true] at h
        obtain ⟨v, hv, hr⟩ := int_sound (P := C.E.P) (w := w) (t := t) (fun e => h1 e) (fun e => h2 e) h
        exact ⟨v, hv, .one (.flat (hr _ _))⟩
      · simp [hk] at h
  · rename_i hno
    split at h
    · cases he : eqlV (ekOf C.E.P .eql t x y) X Y with
      | none => simp [he] at h
      | some b =>
        simp only [he, Option.some.injEq] at h
        subst h
        obtain ⟨h1, h2, h3, _⟩ := eql_sound hE R.glob hx hy hcy he
        refine ⟨.bool b, ?_, .one (.flat (.b b))⟩
        simp only [Sem.run_bind, h1, Result.andThen_ok, h3, h2]
        rfl
    · cases he : eqlV (ekOf C.E.P .neq t x y) X Y with
      | none => simp [he] at h
      | some b =>
        simp only [he, Option.some.injEq] at h
        subst h
        obtain ⟨h1, h2, _, h3⟩ := eql_sound hE R.glob hx hy hcy he
        refine ⟨.bool (!b), ?_, .one (.flat (.b _))⟩
        simp only [Sem.run_bind, h1, Result.andThen_ok, h3, h2]
        rfl
    · cases h
theorem p_un (R : Rel C A K S a w) {op : UnOp} {t : TypeId} {x : Operand} (ho : o.op = .unOp op t x) (h : unV op (evalO S.s x) = some r) : PureOk C A K S a w o r := by
  have hx := R.eval x
  generalize evalO S.s x = X at h hx
  unfold unV at h
  split at h
  · simp only [Option.some.injEq] at h; subst h
    refine PureOk.of (v := .int _ _) ?_ (.one (.flat (.i _ _)))
    simp only [execOp, ho, vrep_int hx]
    exact run_v rfl
  · obtain ⟨v, hv, hr⟩ := bit_sound (P := C.E.P) (w := w) h
    refine PureOk.of (v := v) ?_ (.one (.flat (hr _ _)))
    simp only [execOp, ho, vrep_int hx]
    exact run_v hv
  · simp only [Option.some.injEq] at h; subst h
    refine PureOk.of (v := .bool _) ?_ (.one (.flat (.b _)))
    simp only [execOp, ho, vrep_bool hx]
    exact run_v rfl
  · cases h
theorem p_conv (R : Rel C A K S a w) {s d : TypeId} {k k0 : IntKind} {x : Operand} (ho : o.op = .convert s d x) (hs : C.E.P.underlying s = some (.int k0)) (hd : C.E.P.underlying d = some (.int k))
    (h : pureV (evalO S.s) (.conv k x) = some r) : PureOk C A K S a w o r := by
  have hx := R.eval x
  simp only [pureV] at h
  split at h <;> first | (cases h; done) | skip
  rename_i hX
  rw [hX] at hx
  simp only [Option.some.injEq] at h; subst h
  refine PureOk.of (v := .int _ _) ?_ (.one (.flat (.i _ _)))
  simp only [execOp, ho, vrep_int hx]
  refine run_v ?_
  simp only [Go.convert, Sem.run_bind, run_underlying hs, run_underlying hd, Result.andThen_ok]
  rfl
theorem p_move (R : Rel C A K S a w) {x : Operand} (ho : o.op = .move x ∨ o.op = .assign x) (h : some (evalO S.s x) = some r) : PureOk C A K S a w o r := by
  cases h
  refine PureOk.of (v := a.eval x) ?_ (R.eval x)
  rcases ho with ho | ho <;> (simp only [execOp, ho]; rfl)
theorem p_pick (R : Rel C A K S a w) {c x y : Operand} (ho : o.op = .pick c x y) (h : pureV (evalO S.s) (.pick c x y) = some r) : PureOk C A K S a w o r := by
  have hc := R.eval c
  simp only [pureV] at h
  split at h <;> first | (cases h; done) | skip
  rename_i t hX
  rw [hX] at hc
  cases h
  refine PureOk.of (v := if t then a.eval x else a.eval y) ?_ (by cases t <;> simp [R.eval])
  simp only [execOp, ho, vrep_bool hc]
  rfl
theorem p_addr (R : Rel C A K S a w) {s : TypeId} {fs : Array Field} {f : Nat} {fd : Field} {n : Nat} {x : Operand} (ho : o.op = .fieldAddr s x f) (hs : C.E.P.underlying s = some (.struct fs)) (hf : fs[f]? = some fd)
    (hz : sizeOfT C.E.P fd.type = some (n + 1)) (h : pureV (evalO S.s) (.addr fd.offset x) = some r) : PureOk C A K S a w o r := by
  have hx := R.eval x
  obtain ⟨i, hi, hin⟩ : ∃ i, C.E.P.info? fd.type = some i ∧ i.size = n + 1 := by
    unfold sizeOfT at hz
    cases hi : C.E.P.info? fd.type with
    | none => simp [hi] at hz
    | some i => exact ⟨i, rfl, by simpa [hi] using hz⟩
  have run : ∀ b off, (Instr.fieldAt s (.pointer (some ⟨b, off, none⟩)) f).run C.E.P w = .ok (.pointer (some ⟨b, off + fd.offset, none⟩)) w := fun b off => by
    simp [Instr.fieldAt, run_underlying hs, hf, Instr.sureAddr, fieldPlace, Go.sizeOf, typeInfo, hi, hin, Addr.add_mid]
  simp only [pureV] at h
  split at h <;> first | (cases h; done) | skip
  · rename_i d off hX
    rw [hX] at hx
    cases h
    refine PureOk.of (v := .pointer (some ⟨A d, off + fd.offset, none⟩)) ?_ (.one (.rf _ _))
    simp only [execOp, ho, vrep_rf hx]
    exact run_v (run _ _)
  · rename_i cs off hX
    rw [hX] at hx
    cases h
    obtain ⟨blk, o', g, hv, hN, hc, h1⟩ := vrep_el hx
    refine PureOk.of (v := .pointer (some ⟨blk, o' + (off + fd.offset), none⟩)) ?_ (.one (.el cs _ blk o' g hN hc h1))
    simp only [execOp, ho, hv]
    rw [← Nat.add_assoc]
    exact run_v (run _ _)
theorem size_info {P : Program} {t : TypeId} {n : Nat} (h : sizeOfT P t = some n) : ∃ i, P.info? t = some i ∧ i.size = n := by
  unfold sizeOfT at h
  cases hi : P.info? t with
  | none => simp [hi] at h
  | some i => exact ⟨i, rfl, by simpa [hi] using h⟩
theorem bytes_info {P : Program} {t : TypeId} {n : Nat} (h : bytesOfT P t = some n) : ∃ i, P.info? t = some i ∧ i.bytes = n := by
  unfold bytesOfT at h
  cases hi : P.info? t with
  | none => simp [hi] at h
  | some i => exact ⟨i, rfl, by simpa [hi] using h⟩
theorem zero_info {P : Program} {t : TypeId} {v : Value} (h : zeroOfT P t = some v) : ∃ i, P.info? t = some i ∧ i.zero = some v := by
  unfold zeroOfT at h
  cases hi : P.info? t with
  | none => simp [hi] at h
  | some i => exact ⟨i, rfl, by simpa [hi] using h⟩
theorem p_ixA (R : Rel C A K S a w) {t e : TypeId} {len sz : Nat} {x i : Operand} (ho : o.op = .indexAddr t x i) (ht : C.E.P.underlying t = some (.array len e)) (hz : sizeOfT C.E.P e = some sz)
    (h : pureV (evalO S.s) (.ixA len sz x i) = some r) : PureOk C A K S a w o r := by
  have hx := R.eval x
  have hi := R.eval i
  obtain ⟨inf, h1, h2⟩ := size_info hz
  simp only [pureV] at h
  split at h <;> first | (cases h; done) | skip
  rename_i k j hI
  rw [hI] at hi
  cases hb : (decide (0 ≤ j) && decide (j < (len : Int)))
  · simp [hb] at h
  · simp only [hb, cond_true] at h
    simp only [Bool.and_eq_true, decide_eq_true_eq] at hb
    have run : ∀ b off, (Instr.indexAt t (.pointer (some ⟨b, off, none⟩)) (.int k j)).run C.E.P w = .ok (.pointer (some ⟨b, off + j.toNat * sz, none⟩)) w := fun b off => by
      simp [Instr.indexAt, asIntOf, run_underlying ht, Instr.sureAddr, Go.sizeOf, typeInfo, h1, h2, hb, Addr.add_mid]
    split at h <;> first | (cases h; done) | skip
    · rename_i d off hX
      rw [hX] at hx
      cases h
      refine PureOk.of (v := .pointer (some ⟨A d, off + j.toNat * sz, none⟩)) ?_ (.one (.rf _ _))
      simp only [execOp, ho, vrep_rf hx, vrep_int hi]
      exact run_v (run _ _)
    · rename_i cs off hX
      rw [hX] at hx
      cases h
      obtain ⟨blk, o', g, hv, hN, hc, h1⟩ := vrep_el hx
      refine PureOk.of (v := .pointer (some ⟨blk, o' + (off + j.toNat * sz), none⟩)) ?_ (.one (.el cs _ blk o' g hN hc h1))
      simp only [execOp, ho, hv, vrep_int hi]
      rw [← Nat.add_assoc]
      exact run_v (run _ _)
theorem p_ixS (R : Rel C A K S a w) {t e : TypeId} {sz : Nat} {x i : Operand} (ho : o.op = .indexAddr t x i) (ht : C.E.P.underlying t = some (.slice e)) (hz : sizeOfT C.E.P e = some (sz + 1))
    (h : pureV (evalO S.s) (.ixS (sz + 1) x i) = some r) : PureOk C A K S a w o r := by
  have hx := R.eval x
  have hi := R.eval i
  obtain ⟨inf, h1, h2⟩ := size_info hz
  simp only [pureV] at h
  split at h <;> first | (cases h; done) | skip
  rename_i k j hI
  rw [hI] at hi
  have run : ∀ b off n c, 0 ≤ j → j < (n : Nat) → (Instr.indexAt t (.slice (some ⟨b, off, none⟩) n c) (.int k j)).run C.E.P w = .ok (.pointer (some ⟨b, off + j.toNat * (sz + 1), none⟩)) w := fun b off n c p q => by
    simp [Instr.indexAt, asIntOf, run_underlying ht, Go.sizeOf, typeInfo, h1, h2, p, q, Addr.add_mid]
  split at h <;> first | (cases h; done) | skip
  · rename_i cs n hX
    rw [hX] at hx
    cases hb : (Nat.blt (j.toNat * (sz + 1)) cs.length && (decide (0 ≤ j) && decide (j < (n : Int))))
    · simp [hb] at h
    · simp only [hb, cond_true] at h
      simp only [Bool.and_eq_true, decide_eq_true_eq, Nat.blt_eq] at hb
      cases h
      obtain ⟨hlt, hb⟩ := hb
      obtain ⟨base, c, g, hv, hn, h0, h3⟩ := vrep_sl hx
      rcases h0 with rfl | ⟨blk, off, rfl, hN, hc⟩
      · simp at hlt
      · refine PureOk.of (v := .pointer (some ⟨blk, off + j.toNat * (sz + 1), none⟩)) ?_ (.one (.el cs _ blk off g hN hc h3))
        simp only [execOp, ho, hv, vrep_int hi]
        exact run_v (run _ _ _ _ hb.1 hb.2)
  · rename_i d off n sz' hX
    rw [hX] at hx
    cases hb : (Nat.beq (sz + 1) sz' && (decide (0 ≤ j) && decide (j < (n : Int))))
    · simp [hb] at h
    · simp only [hb, cond_true] at h
      simp only [Bool.and_eq_true, decide_eq_true_eq, Nat.beq_eq] at hb
      cases h
      obtain ⟨rfl, hb⟩ := hb
      obtain ⟨base, c, hv, hnp, hn, hk, hb0⟩ := vrep_rs hx
      have hK : 0 < K d := by
        have : 0 < c := by omega
        have : 1 * 1 ≤ c * (sz + 1) := Nat.mul_le_mul this (by omega)
        omega
      have := hb0 hK; subst this
      refine PureOk.of (v := .pointer (some ⟨A d, off + j.toNat * (sz + 1), none⟩)) ?_ (.one (.rf _ _))
      simp only [execOp, ho, hv, vrep_int hi]
      exact run_v (run _ _ _ _ hb.1 hb.2)
theorem p_fld (R : Rel C A K S a w) {t : TypeId} {fs : Array Field} {f : Nat} {fd : Field} {m : Option Nat} {x : Operand} (ho : o.op = .field t x f) (hs : C.E.P.underlying t = some (.struct fs)) (hf : fs[f]? = some fd)
    (hm : aggOfT C.E.P fd.type = some m) (h : pureV (evalO S.s) (.fld fd.offset m x) = some r) : PureOk C A K S a w o r := by
  have hx := R.eval x
  simp only [pureV] at h
  split at h <;> first | (cases h; done) | skip
  · rename_i cs hX
    rw [hX] at hx
    obtain ⟨l, hv, hr⟩ := vrep_agL hx
    obtain ⟨v, h1, h2⟩ := part_sound (np := C.np) (A := A) (K := K) hm hr h
    refine PureOk.of (v := v) ?_ h2
    simp only [execOp, ho, hv]
    refine run_v ?_
    simp [Instr.field, run_underlying hs, hf, asAgg, h1]
  · rename_i cs hX
    rw [hX] at hx
    cases ha : allQ cs
    · simp [ha] at h
    · simp only [ha, cond_true] at h
      obtain ⟨l, hv, hr⟩ := vrep_aqL (allQ_of ha) hx
      obtain ⟨v, h1, h2⟩ := partQ_sound hm hr h
      refine PureOk.of (v := v) ?_ h2
      simp only [execOp, ho, hv]
      refine run_v ?_
      simp [Instr.field, run_underlying hs, hf, asAgg, h1]
theorem p_ixV (R : Rel C A K S a w) {t e : TypeId} {len sz : Nat} {m : Option Nat} {x i : Operand} (ho : o.op = .index t x i) (ht : C.E.P.underlying t = some (.array len e)) (hz : sizeOfT C.E.P e = some sz)
    (hm : aggOfT C.E.P e = some m) (h : pureV (evalO S.s) (.ixV len sz m x i) = some r) : PureOk C A K S a w o r := by
  have hx := R.eval x
  have hi := R.eval i
  obtain ⟨inf, h1, h2⟩ := size_info hz
  simp only [pureV] at h
  split at h <;> first | (cases h; done) | skip
  rename_i k j hI
  rw [hI] at hi
  cases hb : (decide (0 ≤ j) && decide (j < (len : Int)))
  · simp [hb] at h
  · simp only [hb, cond_true] at h
    simp only [Bool.and_eq_true, decide_eq_true_eq] at hb
    split at h <;> first | (cases h; done) | skip
    rename_i cs hX
    rw [hX] at hx
    obtain ⟨l, hv, hr⟩ := vrep_agL hx
    obtain ⟨v, h3, h4⟩ := part_sound (np := C.np) (A := A) (K := K) hm hr h
    refine PureOk.of (v := v) ?_ h4
    simp only [execOp, ho, hv, vrep_int hi]
    refine run_v ?_
    simp [Instr.index, asIntOf, run_underlying ht, Go.sizeOf, typeInfo, h1, h2, hb, h3]
theorem p_ixStr (R : Rel C A K S a w) {t : TypeId} {x i : Operand} (ho : o.op = .index t x i) (ht : C.E.P.underlying t = some .string) (h : pureV (evalO S.s) (.ixStr x i) = some r) : PureOk C A K S a w o r := by
  have hx := R.eval x
  have hi := R.eval i
  simp only [pureV] at h
  split at h <;> first | (cases h; done) | skip
  rename_i k j hI
  rw [hI] at hi
  split at h <;> first | (cases h; done) | skip
  rename_i s hX
  rw [hX] at hx
  by_cases hj : 0 ≤ j
  · simp only [hj, decide_true, cond_true] at h
    split at h <;> first | (cases h; done) | skip
    rename_i c hc
    cases h
    refine PureOk.of (v := .int .u8 c.toNat) ?_ (.one (.flat (.i _ _)))
    simp only [execOp, ho, vrep_str hx, vrep_int hi]
    refine run_v ?_
    simp [Instr.index, asIntOf, run_underlying ht, hj, hc]
  · simp [hj] at h
theorem p_ext (R : Rel C A K S a w) {x : Operand} {j : Nat} (ho : o.op = .extract x j) (h : pureV (evalO S.s) (.ext j x) = some r) : PureOk C A K S a w o r := by
  have hx := R.eval x
  simp only [pureV] at h
  split at h <;> first | (cases h; done) | skip
  rename_i l hX
  rw [hX] at hx
  obtain ⟨vs, hv, hl, hr⟩ := vrep_tp hx
  obtain ⟨hj, rfl⟩ := List.getElem?_eq_some_iff.1 h
  refine PureOk.of (v := vs[j]'(by omega)) ?_ (.one (hr j hj (by omega)))
  simp only [execOp, ho, hv]
  refine run_v ?_
  simp [Instr.extract, List.getElem?_eq_getElem (show j < vs.length by omega)]
theorem run_typeInfo {P : Program} {t : TypeId} {i : TypeInfo} (h : P.info? t = some i) (w : World) : (typeInfo t).run P w = .ok i w := by
  simp [typeInfo, program, Sem.run, h]
theorem run_zeroValue {P : Program} {t : TypeId} {v : Value} (h : zeroOfT P t = some v) (w : World) : (zeroValue t).run P w = .ok v w := by
  obtain ⟨i, hi, hz⟩ := zero_info h
  simp [zeroValue, typeInfo, program, Sem.run, hi, hz]
theorem zero_cells {v : Value} {zs : List AV} (h : zeroCellsOf v = some zs) {E : Env} {N : Nat → Prop} {w : World} : RepL E w N zs v.cells.toList := by
  unfold zeroCellsOf at h
  cases hb : v.cells.toList.all flatConst
  · simp [hb] at h
  · simp only [hb, cond_true, Option.some.injEq] at h
    subst h
    exact RepL.consts hb
theorem structParts_of {P : Program} {fs : Array Field} : ∀ {l : List (Nat × Operand)} {ps : List (Nat × Nat × Operand)}, structParts P fs l = some ps →
    ps.length = l.length ∧ ∀ j (h1 : j < ps.length) (h2 : j < l.length), (∃ f, fs[(l[j]).1]? = some f ∧ f.offset = (ps[j]).1 ∧ sizeOfT P f.type = some (ps[j]).2.1) ∧ (ps[j]).2.2 = (l[j]).2
  | [], ps, h => by simp only [structParts, Option.some.injEq] at h; subst h; exact ⟨rfl, fun j h1 => by simp at h1⟩
  | (i, x) :: l, ps, h => by
    simp only [structParts] at h
    cases hf : fs[i]? with
    | none => simp [hf] at h
    | some f =>
      simp only [hf] at h
      cases hs : sizeOfT P f.type with
      | none => simp [hs] at h
      | some sz =>
        cases hr : structParts P fs l with
        | none => simp [hs, hr] at h
        | some qs =>
          simp only [hs, hr, Option.some.injEq] at h
          subst h
          obtain ⟨h1, h2⟩ := structParts_of hr
          refine ⟨by simp [h1], fun j p q => ?_⟩
          cases j with
          | zero => exact ⟨⟨f, hf, rfl, hs⟩, rfl⟩
          | succ j => exact h2 j (by simpa using p) (by simpa using q)
theorem rowParts_of {sz : Nat} : ∀ (l : List (Nat × Operand)), (rowParts sz l).length = l.length ∧ ∀ j (h1 : j < (rowParts sz l).length) (h2 : j < l.length), ((rowParts sz l)[j]).1 = (l[j]).1 * sz ∧ ((rowParts sz l)[j]).2.1 = sz ∧ ((rowParts sz l)[j]).2.2 = (l[j]).2
  | [] => ⟨rfl, fun j h1 => by simp [rowParts] at h1⟩
  | (i, x) :: l => by
    obtain ⟨h1, h2⟩ := rowParts_of (sz := sz) l
    refine ⟨by simp [rowParts, h1], fun j p q => ?_⟩
    cases j with
    | zero => exact ⟨rfl, rfl, rfl⟩
    | succ j => exact h2 j (by simpa [rowParts] using p) (by simpa using q)
theorem run_places {P : Program} : ∀ (l : List Field), (l.all fun f => (sizeOfT P f.type).isSome) = true → ∃ ps : List (Nat × Nat), (l.mapM fun f => (do pure (f.offset, ← Go.sizeOf f.type) : Sem (Nat × Nat))).run P w = .ok ps w ∧
    ∀ (j : Nat) (f : Field), l[j]? = some f → ps[j]? = some (f.offset, (sizeOfT P f.type).getD 0)
  | [], _ => ⟨[], by simp, fun j f h => by simp at h⟩
  | f :: l, h => by
    simp only [List.all_cons, Bool.and_eq_true] at h
    obtain ⟨ps, h1, h2⟩ := run_places l h.2
    obtain ⟨n, hn⟩ := Option.isSome_iff_exists.1 h.1
    obtain ⟨i, hi, hz⟩ := size_info hn
    refine ⟨(f.offset, n) :: ps, ?_, fun j g hg => ?_⟩
    · rw [List.mapM_cons]
      simp [Go.sizeOf, typeInfo, hi, hz] at h1 ⊢
      simp [h1]
    · cases j with
      | zero => simp only [List.getElem?_cons_zero, Option.some.injEq] at hg ⊢; subst hg; simp [hn]
      | succ j => simpa using h2 j g (by simpa using hg)
theorem p_buildStruct (R : Rel C A K S a w) {t : TypeId} {fs : Array Field} {parts : Array (Nat × Operand)} {zs : List AV} {ps : List (Nat × Nat × Operand)} {v0 : Value} (ho : o.op = .build t parts)
    (hs : C.E.P.underlying t = some (.struct fs)) (hz0 : zeroOfT C.E.P t = some v0) (hall : (fs.toList.all fun f => (sizeOfT C.E.P f.type).isSome) = true) (hz : zeroCellsOf v0 = some zs) (hp : structParts C.E.P fs parts.toList = some ps)
    (h : pureV (evalO S.s) (.build zs ps) = some r) : PureOk C A K S a w o r := by
  simp only [pureV] at h
  cases hf : fillV (evalO S.s) ps zs with
  | none => simp [hf] at h
  | some cs =>
    simp only [hf, Option.some.injEq] at h
    subst h
    obtain ⟨i, hi, hiz⟩ := zero_info hz0
    obtain ⟨places, hpl, hpl2⟩ := run_places (w := w) fs.toList hall
    obtain ⟨q1, q2⟩ := structParts_of hp
    obtain ⟨l', hl', hr⟩ := fill_sound (np := C.np) (A := A) (K := K) (place := (places.toArray[·]?)) (ρ := evalO S.s) (ev := a.eval) (fun x => R.eval x) parts.toList ps ⟨q1, fun j h1 h2 => by
      obtain ⟨⟨f, hf1, hf2, hf3⟩, hf4⟩ := q2 j h1 h2
      refine ⟨?_, hf4⟩
      have := hpl2 _ f (by simpa using hf1)
      simp [this, hf2, hf3]⟩ (zero_cells hz) hf
    refine PureOk.of (v := .agg l'.toArray) ?_ (VRep.agL hr)
    simp only [execOp, ho]
    refine run_v ?_
    have hmapM : (fs.mapM fun f => (do pure (f.offset, ← Go.sizeOf f.type) : Sem (Nat × Nat))).run C.E.P w = .ok places.toArray w := by
      rw [← Array.toArray_toList (xs := fs)] 
      rw [List.mapM_toArray]
      simp only [Sem.run_map, hpl, Result.andThen_ok]
    have hz' := run_zeroValue hz0 w
    simp only [Instr.build, Sem.run_bind, hz', Result.andThen_ok, run_underlying hs, hmapM]
    simp only [Array.toList_map, Array.toArray_toList] at hl' ⊢
    rw [hl']; rfl
theorem p_buildArr (R : Rel C A K S a w) {t e : TypeId} {len sz : Nat} {parts : Array (Nat × Operand)} {zs : List AV} {v0 : Value} (ho : o.op = .build t parts)
    (hs : C.E.P.underlying t = some (.array len e)) (hz0 : zeroOfT C.E.P t = some v0) (hsz : sizeOfT C.E.P e = some sz) (hz : zeroCellsOf v0 = some zs)
    (h : pureV (evalO S.s) (.build zs (rowParts sz parts.toList)) = some r) : PureOk C A K S a w o r := by
  simp only [pureV] at h
  cases hf : fillV (evalO S.s) (rowParts sz parts.toList) zs with
  | none => simp [hf] at h
  | some cs =>
    simp only [hf, Option.some.injEq] at h
    subst h
    obtain ⟨i, hi, hiz⟩ := size_info hsz
    obtain ⟨q1, q2⟩ := rowParts_of (sz := sz) parts.toList
    obtain ⟨l', hl', hr⟩ := fill_sound (np := C.np) (A := A) (K := K) (place := fun i => some (i * sz, sz)) (ρ := evalO S.s) (ev := a.eval) (fun x => R.eval x) parts.toList _ ⟨q1, fun j h1 h2 => by
      obtain ⟨e1, e2, e3⟩ := q2 j h1 h2
      exact ⟨by simp [e1, e2], e3⟩⟩ (zero_cells hz) hf
    refine PureOk.of (v := .agg l'.toArray) ?_ (VRep.agL hr)
    simp only [execOp, ho]
    refine run_v ?_
    have hz' := run_zeroValue hz0 w
    simp only [Instr.build, Sem.run_bind, hz', Result.andThen_ok, run_underlying hs, Go.sizeOf, typeInfo, program, Sem.run]
    simp only [hi, Sem.run_pure, Result.andThen_ok, hiz]
    simp only [Array.toList_map, Array.toArray_toList] at hl' ⊢
    rw [hl']; rfl
theorem isSliceT_of {P : Program} {t e : TypeId} (h : isSliceT P t = some e) : P.underlying t = some (.slice e) := by
  unfold isSliceT at h
  split at h
  · rename_i hh; simp only [Option.some.injEq] at h; subst h; exact hh
  · cases h
theorem newSl (R : Rel C A K S a w) {cs : List AV} {l ext : List Value} {e : TypeId} {n c : Nat} (hn : n ≤ c) (hr : RepL C.E w (Still C A K S.l w) cs l) :
    VRep C.E C.np (w.alloc (.cells (l ++ ext).toArray e)) (Still C A K S.l (w.alloc (.cells (l ++ ext).toArray e))) A K (.sl cs n) (.slice (some ⟨w.heap.size, 0, none⟩) n c) := by
  have G := Grew.alloc w (.cells (l ++ ext).toArray e)
  have hr' := hr.mono (w' := w.alloc (.cells (l ++ ext).toArray e)) (N' := Still C A K S.l (w.alloc (.cells (l ++ ext).toArray e))) (fun b hb => hb.grew G.size) (fun b hb => G.block b hb.1)
  refine .one (.flat (.sl cs n _ c (fun j => l.getD j undef) hn (.inr ⟨w.heap.size, 0, rfl, R.still_new _, fun j hj => ?_⟩) fun j hj => ?_))
  · have hj' : j < l.length := by rw [← hr.1]; exact hj
    rw [World.cell?_alloc_new]
    simp [List.getElem?_append_left hj', List.getElem?_eq_getElem hj']
  · have hj' : j < l.length := by rw [← hr.1]; exact hj
    have := hr'.2 j hj hj'
    simpa [List.getElem?_eq_getElem hj'] using this
theorem range_rep (z : Array Value) (hz : 0 < z.size) (n : Nat) : ((Array.range (n * z.size)).map (z[· % z.size]!)).toList = (List.replicate n z.toList).flatten := by
  apply List.ext_getElem?
  intro j
  have hlen : (List.replicate n z.toList).flatten.length = n * z.size := by simp
  by_cases hj : j < n * z.size
  · have hj2 : j < (List.replicate n z.toList).flatten.length := by rw [hlen]; exact hj
    have hm : j % z.size < z.size := Nat.mod_lt _ hz
    have key : ∀ (n j : Nat), j < n * z.size → (List.replicate n z.toList).flatten[j]? = z[j % z.size]? := by
      intro n
      induction n with
      | zero => intro j hj; simp at hj
      | succ n ih =>
        intro j hj
        rw [List.replicate_succ, List.flatten_cons]
        by_cases h : j < z.size
        · rw [List.getElem?_append_left (by simpa using h), Nat.mod_eq_of_lt h]; simp
        · rw [List.getElem?_append_right (by simpa using Nat.le_of_not_lt h)]
          simp only [Array.length_toList]
          rw [ih (j - z.size) (by rw [Nat.succ_mul] at hj; omega)]
          congr 1
          rw [Nat.mod_eq_sub_mod (Nat.le_of_not_lt h)]
    rw [key n j hj]
    simp [hj, hm, getElem!_pos]
  · rw [List.getElem?_eq_none (by simp; omega), List.getElem?_eq_none (by rw [hlen]; omega)]
theorem p_bsl (R : Rel C A K S a w) {t e : TypeId} {n sz : Nat} {parts : Array (Nat × Operand)} {zs : List AV} (ho : o.op = .buildSlice t n parts)
    (ht : C.E.P.underlying t = some (.slice e)) (hsz : sizeOfT C.E.P e = some (sz + 1)) (hz : (zeroOfT C.E.P e).bind zeroCellsOf = some zs) (hzl : zs.length = sz + 1) (hle : n * (sz + 1) ≤ 16777216) {cs : List AV}
    (hf : fillV (evalO S.s) (rowParts (sz + 1) parts.toList) (zrep zs n) = some cs) :
    ∃ l' : List Value, RepL C.E w (Still C A K S.l w) cs l' ∧ (execOp a.eval o).run C.E.P w = .ok (.value (.slice (some ⟨w.heap.size, 0, none⟩) n n)) (w.alloc (.cells l'.toArray e)) := by
  cases hz0 : zeroOfT C.E.P e with
  | none => simp [hz0] at hz
  | some v0 =>
    simp only [hz0, Option.bind_some] at hz
    obtain ⟨i, hi, hiz⟩ := size_info hsz
    have hrz := zero_cells (E := C.E) (N := Still C A K S.l w) (w := w) hz
    have hvsz : v0.cells.size = sz + 1 := by have := hrz.1; simp at this; omega
    obtain ⟨q1, q2⟩ := rowParts_of (sz := sz + 1) parts.toList
    obtain ⟨l', hl', hr⟩ := fill_sound (np := C.np) (A := A) (K := K) (place := fun i => some (i * (sz + 1), sz + 1)) (ρ := evalO S.s) (ev := a.eval) (fun x => R.eval x) parts.toList _ ⟨q1, fun j h1 h2 => by
      obtain ⟨e1, e2, e3⟩ := q2 j h1 h2
      exact ⟨by simp [e1, e2], e3⟩⟩ (hrz.flatten_rep n) hf
    refine ⟨l', hr, ?_⟩
    simp only [execOp, ho]
    refine run_v ?_
    have hzr := range_rep v0.cells (by omega) n
    rw [hvsz] at hzr
    by_cases hn : n = 0
    · subst hn
      have hz1 : (List.replicate 0 v0.cells.toList).flatten = [] := rfl
      rw [hz1] at hl'
      have hr0 : (Array.map (fun x => (default : Value)) (Array.range 0)) = #[] := by simp
      simp only [Instr.buildSlice, Sem.run_bind, run_underlying ht, Result.andThen_ok, Go.sizeOf, run_typeInfo hi, Sem.run_pure, hiz]
      rw [if_neg (by omega)]
      simp only [Sem.run_bind, Nat.zero_mul, if_true, Result.andThen_ok, Sem.run_pure, run_typeInfo hi, hiz]
      rw [show (Array.map (fun x => (x.fst, a.eval x.snd)) parts).toList = parts.toList.map fun p => (p.1, a.eval p.2) by simp]
      rw [show (Array.map (fun x => (#[] : Array Value)[x % (#[] : Array Value).size]!) (Array.range 0)) = #[] by simp, hl']
      simp [newRow, newObj, Sem.run, World.alloc_eq]
    · have hz' := run_zeroValue hz0 w
      have : ¬ (16777216 < n * (sz + 1)) := by omega
      have hne : ¬ (n * (sz + 1) = 0) := by
        intro h0
        rcases Nat.mul_eq_zero.1 h0 with h0 | h0 <;> omega
      have hl2 : Instr.fill (fun i => some (i * (sz + 1), sz + 1)) ((Array.range (n * (sz + 1))).map (v0.cells[· % v0.cells.size]!)) (parts.toList.map fun p => (p.1, a.eval p.2)) = some l'.toArray := by
        rw [← hl', ← hzr]
        simp only [hvsz, Array.toArray_toList]
      simp only [Instr.buildSlice, Sem.run_bind, run_underlying ht, Result.andThen_ok, Go.sizeOf, run_typeInfo hi, Sem.run_pure, hiz]
      rw [if_neg (by omega)]
      simp only [Sem.run_bind, if_neg hne, hz', Result.andThen_ok, Sem.run_pure]
      rw [show (Array.map (fun x => (x.fst, a.eval x.snd)) parts).toList = parts.toList.map fun p => (p.1, a.eval p.2) by simp]
      rw [hl2]
      simp [newRow, newObj, Sem.run, World.alloc_eq]
end
end Zab
namespace Zab
open Go
set_option linter.unusedSimpArgs false
set_option linter.unusedVariables false
section
variable {C : Ctx} {A K : Nat → Nat} {S : St} {a : Act} {w : World} {o : Oper} {r : AV}
theorem wrap_small {n : Int} (h0 : 0 ≤ n) (h1 : n ≤ 9223372036854775807) : IntKind.i64.wrap n = n := by
  unfold IntKind.wrap IntKind.bits IntKind.signed
  have e : n % (2 ^ 64 : Int) = n := Int.emod_eq_of_lt h0 (by omega)
  simp only [e]
  rw [if_neg]
  simp only [Bool.true_and, decide_eq_true_eq]
  have : (2 ^ (64 - 1) : Int) = 9223372036854775808 := by decide
  rw [this]; omega
theorem run_mk {P : Program} {t e : TypeId} {sz b : Nat} {v0 : Value} {n m : Nat} (ht : P.underlying t = some (.slice e)) (hsz : sizeOfT P e = some (sz + 1)) (hb : bytesOfT P e = some (b + 1)) (hz0 : zeroOfT P e = some v0)
    (hvsz : v0.cells.size = sz + 1) (hnm : n ≤ m) (hm : m * (b + 1) ≤ 140737488355328) (w : World) :
    (Instr.makeSlice t (.int .i64 n) (.int .i64 m)).run P w = .ok (.slice (some ⟨w.heap.size, 0, none⟩) n m) (w.alloc (.cells (List.replicate m v0.cells.toList).flatten.toArray e)) := by
  obtain ⟨i, hi, hiz⟩ := size_info hsz
  obtain ⟨i', hi', hib⟩ := bytes_info hb
  rw [hi] at hi'; cases hi'
  have hm0 : m * 1 ≤ m * (b + 1) := Nat.mul_le_mul_left m (by omega)
  have w1 : IntKind.i64.wrap (n : Int) = n := wrap_small (by omega) (by omega)
  have w2 : IntKind.i64.wrap (m : Int) = m := wrap_small (by omega) (by omega)
  have hbig : ¬ ((((b + 1 : Nat) : Int) * (m : Int) > 2 ^ 48)) := by
    have : ((b + 1 : Nat) : Int) * (m : Int) = ((m * (b + 1) : Nat) : Int) := by push_cast; rw [Int.mul_comm]
    rw [this]; omega
  have hcond : (decide (((m : Int) < 0)) || decide ((((b + 1 : Nat) : Int) * (m : Int) > 2 ^ 48)) || decide (((n : Int) < 0)) || decide ((n : Int) > (m : Int))) = false := by
    simp only [Bool.or_eq_false_iff, decide_eq_false_iff_not]
    exact ⟨⟨⟨by omega, hbig⟩, by omega⟩, by omega⟩
  have hzr := range_rep v0.cells (by omega) m
  rw [hvsz] at hzr
  simp only [Instr.makeSlice, Sem.run_bind, run_underlying ht, Result.andThen_ok, asInt, asIntOf, Sem.run_pure, run_typeInfo hi, w1, w2, hib]
  rw [if_neg (by simpa using hcond)]
  simp only [Sem.run_bind, run_askRoom, Result.andThen_ok, Go.sizeOf, run_typeInfo hi, Sem.run_pure, hiz, Int.toNat_natCast]
  by_cases hm' : m = 0
  · subst hm'
    have e0 : (Array.map (fun x => (#[] : Array Value)[x % (#[] : Array Value).size]!) (Array.range 0)) = #[] := by simp
    simp only [Nat.zero_mul, if_true, Sem.run_bind, Sem.run_pure, Result.andThen_ok, e0]
    simp [newRow, newObj, Sem.run, World.alloc_eq]
  · have hne : ¬ (m * (sz + 1) = 0) := by
      intro h0
      rcases Nat.mul_eq_zero.1 h0 with h0 | h0 <;> omega
    simp only [if_neg hne, Sem.run_bind, run_zeroValue hz0, Result.andThen_ok, Sem.run_pure]
    have : ((Array.range (m * (sz + 1))).map (v0.cells[· % v0.cells.size]!)) = (List.replicate m v0.cells.toList).flatten.toArray := by
      rw [← hzr]; simp only [hvsz, Array.toArray_toList]
    rw [this]
    simp [newRow, newObj, Sem.run, World.alloc_eq]
theorem p_mkS (R : Rel C A K S a w) {t e : TypeId} {sz b : Nat} {zs : List AV} {l c : Operand} (ho : o.op = .makeSlice t l c) (ht : C.E.P.underlying t = some (.slice e)) (hsz : sizeOfT C.E.P e = some (sz + 1)) (hb : bytesOfT C.E.P e = some (b + 1))
    (hz : (zeroOfT C.E.P e).bind zeroCellsOf = some zs) (hzl : zs.length = sz + 1) (h : pureV (evalO S.s) (.mkS zs (b + 1) l c) = some r) : PureOk C A K S a w o r := by
  have hl := R.eval l
  have hc := R.eval c
  simp only [pureV] at h
  split at h <;> first | (cases h; done) | skip
  rename_i n m h1 h2
  rw [h1] at hl
  rw [h2] at hc
  cases hb' : (decide (0 ≤ n) && (decide (n = m) && decide (n.toNat * (b + 1) ≤ 140737488355328)))
  · simp [hb'] at h
  · simp only [hb', cond_true, Option.some.injEq] at h
    subst h
    simp only [Bool.and_eq_true, decide_eq_true_eq] at hb'
    obtain ⟨hn0, rfl, hle⟩ := hb'
    obtain ⟨n, rfl⟩ : ∃ k : Nat, n = k := ⟨n.toNat, by omega⟩
    simp only [Int.toNat_natCast] at hle ⊢
    cases hz0 : zeroOfT C.E.P e with
    | none => simp [hz0] at hz
    | some v0 =>
      simp only [hz0, Option.bind_some] at hz
      have hrz := zero_cells (E := C.E) (N := Still C A K S.l w) (w := w) hz
      have hvsz : v0.cells.size = sz + 1 := by have := hrz.1; simp at this; omega
      have hrep := hrz.flatten_rep n
      have hnew := newSl R (ext := []) (e := e) (Nat.le_refl n) hrep
      simp only [List.append_nil] at hnew
      refine ⟨_, _, ?_, Grew.alloc w _, hnew⟩
      simp only [execOp, ho, vrep_int hl, vrep_int hc]
      exact run_v (run_mk ht hsz hb hz0 hvsz (Nat.le_refl n) hle w)
theorem p_bslV (R : Rel C A K S a w) {t e : TypeId} {n sz : Nat} {parts : Array (Nat × Operand)} {zs : List AV} (ho : o.op = .buildSlice t n parts)
    (ht : C.E.P.underlying t = some (.slice e)) (hsz : sizeOfT C.E.P e = some (sz + 1)) (hz : (zeroOfT C.E.P e).bind zeroCellsOf = some zs) (hzl : zs.length = sz + 1) (hle : n * (sz + 1) ≤ 16777216)
    (h : pureV (evalO S.s) (.bsl n zs (rowParts (sz + 1) parts.toList)) = some r) : PureOk C A K S a w o r := by
  simp only [pureV] at h
  cases hf : fillV (evalO S.s) (rowParts (sz + 1) parts.toList) (zrep zs n) with
  | none => simp [hf] at h
  | some cs =>
    simp only [hf, Option.some.injEq] at h
    subst h
    obtain ⟨l', hr, hrun⟩ := p_bsl R ho ht hsz hz hzl hle hf
    have hnew := newSl R (ext := []) (e := e) (Nat.le_refl n) hr
    simp only [List.append_nil] at hnew
    exact ⟨_, _, hrun, Grew.alloc w _, hnew⟩
theorem evalL_len (ρ : Operand → AV) : ∀ l : List Operand, (evalL ρ l).length = l.length
  | [] => rfl
  | x :: r => by simp [evalL, evalL_len ρ r]
theorem evalL_get (ρ : Operand → AV) : ∀ (l : List Operand) (j : Nat) (h : j < (evalL ρ l).length), (evalL ρ l)[j] = ρ (l[j]'(by rw [← evalL_len ρ l]; exact h))
  | [], j, h => by simp [evalL] at h
  | x :: r, 0, h => rfl
  | x :: r, j + 1, h => by simpa [evalL] using evalL_get ρ r j (by simpa [evalL] using h)
theorem VRep.v1 {E : Env} {np : Nat} {w : World} {N : Nat → Prop} {A K : Nat → Nat} {x : AV} {v : Value} (h : VRep E np w N A K x v) (h1 : ∀ l, x ≠ .tp l) (h3 : ∀ l, x ≠ .aq l) (h2 : ∀ f c l, x ≠ .fn f (c :: l)) : V1 E np w N A K x v := by
  cases h with
  | one h => exact h
  | tp l vs hl h => exact absurd rfl (h1 l)
  | fn f l vs hl h =>
    cases l with
    | nil =>
      have : vs = [] := by cases vs <;> simp_all
      subst this; exact .fn f
    | cons c l => exact absurd rfl (h2 f c l)
  | aq l => exact absurd rfl (h3 l)
theorem allPlain_get : ∀ {l : List AV}, allPlain l = true → ∀ j (h : j < l.length), plain l[j] = true
  | [], _, j, h => by simp at h
  | x :: r, hp, j, h => by
    simp only [allPlain, Bool.and_eq_true] at hp
    cases j with
    | zero => exact hp.1
    | succ j => exact allPlain_get hp.2 j (by simpa using h)
theorem VRep.ofPlain {E : Env} {np : Nat} {w : World} {N : Nat → Prop} {A K : Nat → Nat} {x : AV} {v : Value} (h : VRep E np w N A K x v) (hp : plain x = true) : V1 E np w N A K x v :=
  h.v1 (fun l e => by subst e; cases hp) (fun l e => by subst e; cases hp) (fun f c l e => by subst e; cases hp)
theorem p_mkfn (R : Rel C A K S a w) {f : Nat} {first caps : Array Operand} (ho : o.op = .makeFunc (.func f) first caps) (hf : first.isEmpty = true)
    (h : pureV (evalO S.s) (.mkfn f caps.toList) = some r) : PureOk C A K S a w o r := by
  have : first = #[] := by simpa using hf
  subst this
  simp only [pureV] at h
  cases hpl : allPlain (evalL (evalO S.s) caps.toList)
  · simp [hpl] at h
  · simp only [hpl, cond_true] at h
    cases h
    refine PureOk.of (v := .func (.func f) #[] (caps.toList.map a.eval).toArray) ?_ (.fn f _ _ (by simp [evalL_len]) fun j h1 h2 => ?_)
    · simp only [execOp, ho]
      refine run_v ?_
      simp [Instr.makeFunc]
      apply Array.ext'
      simp
    · have := R.eval (caps.toList[j]'(by simpa [evalL_len] using h1))
      rw [evalL_get]
      simp only [List.getElem_map]
      refine this.ofPlain ?_
      rw [← evalL_get _ _ _ h1]
      exact allPlain_get hpl j h1
theorem run_builtin {P : Program} {c : Call} {bi : Builtin} (ho : o.op = .call c) (hcal : c.callee = .builtin bi) :
    execOp a.eval o = builtin bi c.argTypes o.type (c.args.map fun | .const _ => true | _ => false) (c.args.map a.eval) := by
  simp only [execOp, ho, resolve, hcal]
  rfl
theorem args_one {c : Call} {x : Operand} (h : c.args.toList = [x]) : c.args.map a.eval = #[a.eval x] := by
  rw [← Array.toArray_toList (xs := c.args), h]; simp
theorem p_len (R : Rel C A K S a w) {c : Call} {x : Operand} {t e : TypeId} (ho : o.op = .call c) (hcal : c.callee = .builtin .len) (hargs : c.args.toList = [x]) (h0 : c.argTypes[0]? = some t)
    (ht : C.E.P.underlying t = some (.slice e)) (h : pureV (evalO S.s) (.len false x) = some r) : PureOk C A K S a w o r := by
  have hx := R.eval x
  have hsl : ∀ base n c', a.eval x = .slice base n c' → (execOp a.eval o).run C.E.P w = .ok (.value (.int .i64 n)) w := by
    intro base n c' hv
    rw [run_builtin (P := C.E.P) ho hcal, args_one hargs, hv]
    simp only [builtin]
    refine run_v ?_
    simp [Builtin.len_, h0, run_underlying ht, goInt]
  simp only [pureV] at h
  split at h <;> first | (cases h; done) | skip
  · rename_i cs n hX
    rw [hX] at hx
    cases h
    obtain ⟨base, c', f, hv, _⟩ := vrep_sl hx
    exact PureOk.of (hsl _ _ _ hv) (.one (.flat (.i _ _)))
  · rename_i d o' n sz hX
    rw [hX] at hx
    cases h
    obtain ⟨base, c', hv, _⟩ := vrep_rs hx
    exact PureOk.of (hsl _ _ _ hv) (.one (.flat (.i _ _)))
  · rename_i hX
    rw [hX] at hx
    cases h
    have hv := vrep_z hx
    exact PureOk.of (hsl _ 0 _ hv) (.one (.flat (.i _ _)))
theorem p_lenS (R : Rel C A K S a w) {c : Call} {x : Operand} {t : TypeId} (ho : o.op = .call c) (hcal : c.callee = .builtin .len) (hargs : c.args.toList = [x]) (h0 : c.argTypes[0]? = some t)
    (ht : C.E.P.underlying t = some .string) (h : pureV (evalO S.s) (.len true x) = some r) : PureOk C A K S a w o r := by
  have hx := R.eval x
  simp only [pureV] at h
  split at h <;> first | (cases h; done) | skip
  rename_i s hX
  rw [hX] at hx
  cases h
  refine PureOk.of (v := .int .i64 s.size) ?_ (.one (.flat (.i _ _)))
  rw [run_builtin (P := C.E.P) ho hcal, args_one hargs, vrep_str hx]
  simp only [builtin]
  refine run_v ?_
  simp [Builtin.len_, h0, run_underlying ht, goInt]
theorem max_sound {P : Program} {np : Nat} {N : Nat → Prop} : ∀ (l : List AV) (vs : List Value) (x : AV) (v : Value), VRep C.E np w N A K x v → (l.length = vs.length ∧ ∀ j (h1 : j < l.length) (h2 : j < vs.length), VRep C.E np w N A K l[j] vs[j]) →
    maxV x l = some r → ∃ u, (vs.foldlM Builtin.max2 v).run P w = .ok u w ∧ VRep C.E np w N A K r u
  | [], [], x, v, hx, _, h => by cases h; exact ⟨v, by simp, hx⟩
  | [], _ :: _, _, _, _, hl, _ => by simp at hl
  | _ :: _, [], _, _, _, hl, _ => by simp at hl
  | y :: l, u :: vs, x, v, hx, hl, h => by
    have hy := hl.2 0 (by simp) (by simp)
    simp only [List.getElem_cons_zero] at hy
    have hrest : l.length = vs.length ∧ ∀ j (h1 : j < l.length) (h2 : j < vs.length), VRep C.E np w N A K l[j] vs[j] :=
      ⟨by simpa using hl.1, fun j h1 h2 => by have := hl.2 (j + 1) (by simpa using h1) (by simpa using h2); simpa using this⟩
    unfold maxV at h
    split at h <;> first | (cases h; done) | skip
    · rename_i hh; cases hh
    · rename_i k p k' c r' e1
      cases e1
      by_cases hk : k = k'
      · subst hk
        simp only [decide_true, cond_true] at h
        have e1 := vrep_int hx
        have e2 := vrep_int hy
        subst e1; subst e2
        obtain ⟨z, hz, hr⟩ := max_sound l vs _ (.int k (if c > p then c else p)) (.one (.flat (.i _ _))) hrest h
        refine ⟨z, ?_, hr⟩
        rw [List.foldlM_cons, Sem.run_bind]
        simp only [Builtin.max2, Sem.run_pure, Result.andThen_ok]
        exact hz
      · simp [hk] at h
theorem min_sound {P : Program} {np : Nat} {N : Nat → Prop} : ∀ (l : List AV) (vs : List Value) (x : AV) (v : Value), VRep C.E np w N A K x v → (l.length = vs.length ∧ ∀ j (h1 : j < l.length) (h2 : j < vs.length), VRep C.E np w N A K l[j] vs[j]) →
    minV x l = some r → ∃ u, (vs.foldlM Builtin.min2 v).run P w = .ok u w ∧ VRep C.E np w N A K r u
  | [], [], x, v, hx, _, h => by cases h; exact ⟨v, by simp, hx⟩
  | [], _ :: _, _, _, _, hl, _ => by simp at hl
  | _ :: _, [], _, _, _, hl, _ => by simp at hl
  | y :: l, u :: vs, x, v, hx, hl, h => by
    have hy := hl.2 0 (by simp) (by simp)
    simp only [List.getElem_cons_zero] at hy
    have hrest : l.length = vs.length ∧ ∀ j (h1 : j < l.length) (h2 : j < vs.length), VRep C.E np w N A K l[j] vs[j] :=
      ⟨by simpa using hl.1, fun j h1 h2 => by have := hl.2 (j + 1) (by simpa using h1) (by simpa using h2); simpa using this⟩
    unfold minV at h
    split at h <;> first | (cases h; done) | skip
    · rename_i hh; cases hh
    · rename_i k p k' c r' e1
      cases e1
      by_cases hk : k = k'
      · subst hk
        simp only [decide_true, cond_true] at h
        have e1 := vrep_int hx
        have e2 := vrep_int hy
        subst e1; subst e2
        obtain ⟨z, hz, hr⟩ := min_sound l vs _ (.int k (if c < p then c else p)) (.one (.flat (.i _ _))) hrest h
        refine ⟨z, ?_, hr⟩
        rw [List.foldlM_cons, Sem.run_bind]
        simp only [Builtin.min2, Sem.run_pure, Result.andThen_ok]
        exact hz
      · simp [hk] at h
theorem p_mx (R : Rel C A K S a w) {c : Call} (ho : o.op = .call c) (hcal : c.callee = .builtin .max) (h : pureV (evalO S.s) (.mx c.args.toList) = some r) : PureOk C A K S a w o r := by
  simp only [pureV] at h
  cases hl : c.args.toList with
  | nil => simp [hl, evalL] at h
  | cons x l =>
    simp only [hl, evalL] at h
    obtain ⟨u, hu, hr⟩ := max_sound (P := C.E.P) (np := C.np) (N := Still C A K S.l w) (evalL (evalO S.s) l) (l.map a.eval) _ _ (R.eval x)
      ⟨by simp [evalL_len], fun j h1 h2 => by rw [evalL_get]; simpa using R.eval _⟩ h
    refine PureOk.of (v := u) ?_ hr
    rw [run_builtin (P := C.E.P) ho hcal]
    simp only [builtin]
    refine run_v ?_
    simp [Builtin.max_, hl, hu]
theorem p_mn (R : Rel C A K S a w) {c : Call} (ho : o.op = .call c) (hcal : c.callee = .builtin .min) (h : pureV (evalO S.s) (.mn c.args.toList) = some r) : PureOk C A K S a w o r := by
  simp only [pureV] at h
  cases hl : c.args.toList with
  | nil => simp [hl, evalL] at h
  | cons x l =>
    simp only [hl, evalL] at h
    obtain ⟨u, hu, hr⟩ := min_sound (P := C.E.P) (np := C.np) (N := Still C A K S.l w) (evalL (evalO S.s) l) (l.map a.eval) _ _ (R.eval x)
      ⟨by simp [evalL_len], fun j h1 h2 => by rw [evalL_get]; simpa using R.eval _⟩ h
    refine PureOk.of (v := u) ?_ hr
    rw [run_builtin (P := C.E.P) ho hcal]
    simp only [builtin]
    refine run_v ?_
    simp [Builtin.min_, hl, hu]
theorem p_nilChk (R : Rel C A K S a w) {x : Operand} (ho : o.op = .nilCheck x) (h : pureV (evalO S.s) (.nilChk x) = some r) : PureOk C A K S a w o r := by
  have hx := R.eval x
  have main : ∀ v, a.eval x = v → (v ≠ .pointer none ∧ v ≠ .nilIface ∧ v ≠ .nilFunc ∧ ∀ n f c, v ≠ .func (.method n) f c) → (execOp a.eval o).run C.E.P w = .ok (.value v) w := by
    intro v hv hne
    simp only [execOp, ho, hv]
    obtain ⟨h1, h2, h3, h4⟩ := hne
    cases v <;> first | rfl | (exact absurd rfl h2) | (exact absurd rfl h3) | skip
    · rename_i ad; cases ad <;> first | rfl | (exact absurd rfl h1)
    · rename_i fn f c; cases fn <;> first | rfl | (exact absurd rfl (h4 _ _ _))
  simp only [pureV] at h
  split at h <;> first | (cases h; done) | skip
  all_goals (rename_i hX; rw [hX] at hx; cases h)
  · exact PureOk.of (main _ (vrep_rf hx) (by simp)) (.one (.rf _ _))
  · obtain ⟨blk, off, f, hv, _⟩ := vrep_el hx
    exact PureOk.of (main _ hv (by simp)) (by rw [← hv]; exact hx)
  · exact PureOk.of (main _ (vrep_gl hx) (by simp)) (.one (.gl _))
  · obtain ⟨vs, hv, _⟩ := vrep_fn hx
    exact PureOk.of (main _ hv (by simp)) (by rw [← hv]; exact hx)
theorem p_tas {sents : List Nat} (hE : EnvOk C.E sents) (R : Rel C A K S a w) {x : Operand} {xt t e : TypeId} (ho : o.op = .typeAssert x xt t true) (ht : C.E.P.underlying t = some (.pointer e)) (hz : zeroOfT C.E.P t = some (.pointer none)) (hT : t ≠ C.E.T)
    (h : pureV (evalO S.s) (.tas t .np x) = some r) : PureOk C A K S a w o r := by
  have hx := R.eval x
  have hres : VRep C.E C.np w (Still C A K S.l w) A K (.tp [.np, .b false]) (.tuple [.pointer none, .bool false].toArray) := .tp _ _ rfl fun j h1 h2 => by
    match j with
    | 0 => exact .flat .np
    | 1 => exact .flat (.b _)
    | j + 2 => simp at h1; omega
  simp only [pureV] at h
  split at h <;> first | (cases h; done) | skip
  rotate_left
  rotate_left
  · rename_i t' cs hX
    rw [hX] at hx
    cases hb : Nat.beq t t'
    · simp [hb] at h
    · have := Nat.eq_of_beq_eq_true hb
      subst this
      simp only [hb, cond_true, Option.some.injEq] at h
      subst h
      obtain ⟨blk, off, f, hv, hN, h0, h1⟩ := vrep_ie hx
      refine PureOk.of (v := .tuple [.pointer (some ⟨blk, off, none⟩), .bool true].toArray) ?_ (.tp _ _ rfl fun j p q => ?_)
      · simp only [execOp, ho, hv]
        refine run_v ?_
        simp [Instr.typeAssert, run_underlying ht]
      · match j with
        | 0 => exact .el cs 0 blk off f hN h0 h1
        | 1 => exact .flat (.b _)
        | j + 2 => simp at p; omega
  all_goals (rename_i hX; rw [hX] at hx; cases h)
  · obtain ⟨b, _, hv⟩ := vrep_er hx
    refine PureOk.of ?_ hres
    simp only [execOp, ho, hv, Env.errV]
    refine run_v ?_
    have hne : ¬ (C.E.T = t) := fun e => hT e.symm
    simp [Instr.typeAssert, run_underlying ht, hne, run_zeroValue hz]
  · refine PureOk.of ?_ hres
    simp only [execOp, ho, vrep_nl hx]
    refine run_v ?_
    simp [Instr.typeAssert, run_underlying ht, run_zeroValue hz]
theorem idx_of {x : AV} {n : Nat} {E : Env} {np : Nat} {N : Nat → Prop} {v : Value} (h : idx x = some n) (hv : VRep E np w N A K x v) : ∃ k, v = .int k n := by
  unfold idx at h
  split at h <;> first | (cases h; done) | skip
  rename_i k m
  by_cases hm : 0 ≤ m
  · simp only [hm, decide_true, cond_true, Option.some.injEq] at h
    subst h
    exact ⟨k, by rw [vrep_int hv]; congr 1; omega⟩
  · simp [hm] at h
theorem run_bound {P : Program} {k : IntKind} {n y : Nat} (code : BoundsCode) (h : n ≤ y) : (Instr.sliceBound (.int k n) y code).run P w = .ok n w := by
  have : (n : Int) ≤ (y : Int) := by omega
  simp [Instr.sliceBound, asIntOf, this]
theorem run_bounds {P : Program} {isSlice : Bool} {len cap l h : Nat} {lo hi : Option Value} (hlo : (lo = none ∧ l = 0) ∨ ∃ k, lo = some (.int k l)) (hhi : (hi = none ∧ h = len) ∨ ∃ k, hi = some (.int k h)) (h1 : l ≤ h) (h2 : h ≤ cap) :
    (Instr.sliceBounds isSlice len cap lo hi none).run P w = .ok (l, h, cap) w := by
  rcases hlo with ⟨rfl, rfl⟩ | ⟨k, rfl⟩ <;> rcases hhi with ⟨rfl, rfl⟩ | ⟨k', rfl⟩ <;> simp [Instr.sliceBounds, run_bound _ h1, run_bound _ h2]
theorem opt_idx {ρ : Operand → AV} {ev : Operand → Value} {E : Env} {np : Nat} {N : Nat → Prop} (hρ : ∀ x, VRep E np w N A K (ρ x) (ev x)) {x : Option Operand} {d n : Nat}
    (h : (match x.map ρ with | none => some d | some v => idx v) = some n) : (x.map ev = none ∧ n = d) ∨ ∃ k, x.map ev = some (.int k n) := by
  cases x with
  | none => simp only [Option.map_none, Option.some.injEq] at h; exact .inl ⟨rfl, h.symm⟩
  | some x =>
    simp only [Option.map_some] at h
    obtain ⟨k, hk⟩ := idx_of h (hρ x)
    exact .inr ⟨k, by simp [hk]⟩
theorem p_slcSl (R : Rel C A K S a w) {t e : TypeId} {sz : Nat} {x : Operand} {lo hi mx : Option Operand} (ho : o.op = .slice t x lo hi mx) (ht : C.E.P.underlying t = some (.slice e)) (hz : sizeOfT C.E.P e = some (sz + 1))
    (h : pureV (evalO S.s) (.slc (sz + 1) x lo hi mx) = some r) : PureOk C A K S a w o r := by
  have hx := R.eval x
  obtain ⟨i, hi', hiz⟩ := size_info hz
  simp only [pureV, slcV] at h
  have ev : ∀ v, (Instr.sliceAt t (a.eval x) (lo.map a.eval) (hi.map a.eval) (mx.map a.eval)).run C.E.P w = .ok v w → (execOp a.eval o).run C.E.P w = .ok (.value v) w := fun v hv => by
    simp only [execOp, ho]; exact run_v hv
  have main : ∀ (base : Option Addr) (n c l h : Nat), a.eval x = .slice base n c → mx = none → (lo.map a.eval = none ∧ l = 0 ∨ ∃ k, lo.map a.eval = some (.int k l)) → (hi.map a.eval = none ∧ h = n ∨ ∃ k, hi.map a.eval = some (.int k h)) → l ≤ h → h ≤ c →
      (execOp a.eval o).run C.E.P w = .ok (.value (.slice (if c = l then base else base.map (·.add (l * (sz + 1)))) (h - l) (c - l))) w := by
    intro base n c l h hv hmx h1 h2 h3 h4
    refine ev _ ?_
    simp only [hv, hmx, Option.map_none]
    simp only [Instr.sliceAt, Sem.run_bind, run_underlying ht, Result.andThen_ok, Instr.slice, run_bounds h1 h2 h3 h4, Go.sizeOf, run_typeInfo hi', Sem.run_pure, hiz]
  split at h
  · -- three bounds
    rename_i m hm
    split at h <;> first | (cases h; done) | skip
    rename_i l h' m' q1 q2 q3
    cases hmx : mx with
    | none => simp [hmx] at hm
    | some y =>
      simp only [hmx, Option.map_some, Option.some.injEq] at hm
      subst hm
      obtain ⟨k3, e3⟩ := idx_of q3 (R.eval y)
      obtain ⟨z, rfl, rfl⟩ : ∃ z, hi = some z ∧ evalO S.s z = h' := by
        cases hi with
        | none => simp at q2
        | some z => exact ⟨z, rfl, by simpa using q2⟩
      split at h <;> first | (cases h; done) | skip
      rename_i hh cs n hi0 hX
      cases hb : (Nat.ble l hh && (Nat.ble hh m' && Nat.ble m' n))
      · simp [hb] at h
      · simp only [hb, cond_true, Option.some.injEq] at h
        subst h
        simp only [Bool.and_eq_true, Nat.ble_eq] at hb
        obtain ⟨b1, b2, b3⟩ := hb
        rw [hX] at hx
        obtain ⟨base, c, f, hv, hn, h0, h1⟩ := vrep_sl hx
        obtain ⟨k2, e2⟩ := idx_of hi0 (R.eval z)
        have h00 := opt_idx (ρ := evalO S.s) (ev := a.eval) (fun x => R.eval x) (x := lo) (d := 0) (n := l) q1
        have hbo : (Instr.sliceBounds true n c (lo.map a.eval) (some (.int k2 hh)) (some (.int k3 m'))).run C.E.P w = .ok (l, hh, m') w := by
          rcases h00 with ⟨e0, rfl⟩ | ⟨k, e0⟩ <;> simp only [e0, Instr.sliceBounds, Sem.run_bind, Sem.run_pure, run_bound _ b1, run_bound _ b2, run_bound _ (Nat.le_trans b3 hn), Result.andThen_ok]
        refine PureOk.of (v := .slice (if m' = l then base else base.map (·.add (l * (sz + 1)))) (hh - l) (m' - l)) (ev _ ?_) (.one (.flat (.sl _ _ _ _ (fun j => f (l * (sz + 1) + j)) (by omega) ?_ fun j hj => ?_)))
        · simp only [hv, hmx, Option.map_some, e2, e3]
          simp only [Instr.sliceAt, Sem.run_bind, run_underlying ht, Result.andThen_ok, Instr.slice, hbo, Go.sizeOf, run_typeInfo hi', Sem.run_pure, hiz]
        · rcases h0 with rfl | ⟨blk, off, rfl, hN, hc⟩
          · left; simp
          · by_cases hcl : m' = l
            · left
              have : hh - l = 0 := by omega
              simp [this]
            · right
              refine ⟨blk, off + l * (sz + 1), ?_, hN, fun j hj => ?_⟩
              · rw [if_neg hcl]; simp [Addr.add_mid]
              · simp only [List.length_take, List.length_drop] at hj
                have := hc (l * (sz + 1) + j) (by omega)
                rw [← this, Nat.add_assoc]
        · simp only [List.length_take, List.length_drop] at hj
          simp only [List.getElem_take, List.getElem_drop]
          exact h1 _ _
  · rename_i hm
    have hmx : mx = none := by cases mx <;> simp_all
    split at h
    · rename_i cs n hX
      rw [hX] at hx
      obtain ⟨base, c, f, hv, hn, h0, h1⟩ := vrep_sl hx
      split at h <;> first | (cases h; done) | skip
      rename_i l h' q1 q2
      cases hb : (Nat.ble l h' && Nat.ble h' n)
      · simp [hb] at h
      · simp only [hb, cond_true, Option.some.injEq] at h
        subst h
        simp only [Bool.and_eq_true, Nat.ble_eq] at hb
        obtain ⟨b1, b2⟩ := hb
        refine PureOk.of (main base n c l h' hv hmx (opt_idx (fun x => R.eval x) q1) (opt_idx (fun x => R.eval x) q2) b1 (by omega)) (.one (.flat (.sl _ _ _ _ (fun j => f (l * (sz + 1) + j)) (by omega) ?_ fun j hj => ?_)))
        · rcases h0 with rfl | ⟨blk, off, rfl, hN, hc⟩
          · left; simp
          · by_cases hcl : c = l
            · left
              have : h' - l = 0 := by omega
              simp [this]
            · right
              refine ⟨blk, off + l * (sz + 1), ?_, hN, fun j hj => ?_⟩
              · rw [if_neg hcl]; simp [Addr.add_mid]
              · simp only [List.length_take, List.length_drop] at hj
                have := hc (l * (sz + 1) + j) (by omega)
                rw [← this, Nat.add_assoc]
        · simp only [List.length_take, List.length_drop] at hj
          simp only [List.getElem_take, List.getElem_drop]
          exact h1 _ _
    · rename_i hX
      rw [hX] at hx
      have hv := vrep_z hx
      split at h <;> first | (cases h; done) | skip
      rename_i q1 q2
      cases h
      refine PureOk.of (main none 0 0 0 0 hv hmx (opt_idx (fun x => R.eval x) q1) (opt_idx (fun x => R.eval x) q2) (Nat.le_refl _) (Nat.le_refl _)) (.one (.flat .z))
    · rename_i d off n sz' hX
      rw [hX] at hx
      obtain ⟨base, c, hv, hnp, hn, hk, hb0⟩ := vrep_rs hx
      split at h <;> first | (cases h; done) | skip
      rename_i l h' q1 q2
      cases hb : (Nat.beq (sz + 1) sz' && Nat.ble l h' && Nat.ble h' n && Nat.blt l n)
      · simp [hb] at h
      · simp only [hb, cond_true, Option.some.injEq] at h
        subst h
        simp only [Bool.and_eq_true, Nat.ble_eq, Nat.blt_eq, Nat.beq_eq] at hb
        obtain ⟨⟨⟨rfl, b1⟩, b2⟩, b3⟩ := hb
        have hcl : ¬ c = l := by omega
        have hmul : (l * (sz + 1)) + (c - l) * (sz + 1) = c * (sz + 1) := by rw [← Nat.add_mul]; congr 1; omega
        refine PureOk.of (main base n c l h' hv hmx (opt_idx (fun x => R.eval x) q1) (opt_idx (fun x => R.eval x) q2) b1 (by omega)) (.one (.rs _ _ _ _ _ _ hnp (by omega) (by omega) fun hK => ?_))
        rw [if_neg hcl, hb0 hK]; simp [Addr.add_mid]
    · cases h
theorem p_buildQ (R : Rel C A K S a w) {t : TypeId} {fs : Array Field} {parts : Array (Nat × Operand)} {zs : List AV} {ps : List (Nat × Nat × Operand)} {v0 : Value} (ho : o.op = .build t parts)
    (hs : C.E.P.underlying t = some (.struct fs)) (hz0 : zeroOfT C.E.P t = some v0) (hall : (fs.toList.all fun f => (sizeOfT C.E.P f.type).isSome) = true) (hz : zeroCellsOf v0 = some zs) (hp : structParts C.E.P fs parts.toList = some ps)
    (h : pureV (evalO S.s) (.buildQ zs ps) = some r) : PureOk C A K S a w o r := by
  simp only [pureV] at h
  cases hf : fillQ (evalO S.s) ps zs with
  | none => simp [hf] at h
  | some cs =>
    simp only [hf, Option.some.injEq] at h
    subst h
    obtain ⟨i, hi, hiz⟩ := zero_info hz0
    obtain ⟨places, hpl, hpl2⟩ := run_places (w := w) fs.toList hall
    obtain ⟨q1, q2⟩ := structParts_of hp
    obtain ⟨l', hl', hr⟩ := fillQ_sound (np := C.np) (A := A) (K := K) (place := (places.toArray[·]?)) (ρ := evalO S.s) (ev := a.eval) (fun x => R.eval x) parts.toList ps ⟨q1, fun j h1 h2 => by
      obtain ⟨⟨f, hf1, hf2, hf3⟩, hf4⟩ := q2 j h1 h2
      refine ⟨?_, hf4⟩
      have := hpl2 _ f (by simpa using hf1)
      simp [this, hf2, hf3]⟩ (RepQ.ofL (zero_cells hz)) hf
    refine PureOk.of (v := .agg l'.toArray) ?_ (VRep.aqL hr)
    simp only [execOp, ho]
    refine run_v ?_
    have hmapM : (fs.mapM fun f => (do pure (f.offset, ← Go.sizeOf f.type) : Sem (Nat × Nat))).run C.E.P w = .ok places.toArray w := by
      rw [← Array.toArray_toList (xs := fs)] 
      rw [List.mapM_toArray]
      simp only [Sem.run_map, hpl, Result.andThen_ok]
    have hz' := run_zeroValue hz0 w
    simp only [Instr.build, Sem.run_bind, hz', Result.andThen_ok, run_underlying hs, hmapM]
    simp only [Array.toList_map, Array.toArray_toList] at hl' ⊢
    rw [hl']; rfl
theorem p_boxE (R : Rel C A K S a w) {e : TypeId} {sz : Nat} {v : Operand} (ho : o.op = .box e v) (h : pureV (evalO S.s) (.boxE sz v) = some r) : PureOk C A K S a w o r := by
  simp only [pureV] at h
  split at h <;> first | (cases h; done) | skip
  rename_i cs hcs
  cases h
  obtain ⟨hr, hlen⟩ := cells_sound (R.eval v) hcs
  have G := Grew.alloc w (.cells (a.eval v).cells e)
  have hr' := hr.mono (w' := w.alloc (.cells (a.eval v).cells e)) (N' := Still C A K S.l (w.alloc (.cells (a.eval v).cells e))) (fun b hb => hb.grew G.size) (fun b hb => G.block b hb.1)
  refine ⟨.pointer (some ⟨w.heap.size, 0, none⟩), w.alloc (.cells (a.eval v).cells e), ?_, G, .one (.el cs 0 w.heap.size 0 (fun j => (a.eval v).cells.toList.getD j undef) (R.still_new _) (fun j hj => ?_) fun j hj => ?_)⟩
  · simp only [execOp, ho]
    refine run_v ?_
    simp [Instr.box, newVar, Go.newRow, newObj, Sem.run, World.alloc_eq]
  · have hj' : j < (a.eval v).cells.toList.length := by rw [← hr.1]; exact hj
    rw [Nat.zero_add, World.cell?_alloc_new]
    simp [List.getElem?_eq_getElem hj', show j < (a.eval v).cells.size by simpa using hj']
  · have hj' : j < (a.eval v).cells.toList.length := by rw [← hr.1]; exact hj
    have := hr'.2 j hj hj'
    simpa [List.getElem?_eq_getElem hj', show j < (a.eval v).cells.size by simpa using hj'] using this
theorem p_mki (R : Rel C A K S a w) {t e : TypeId} {x : Operand} (ho : o.op = .makeInterface t x) (ht : C.E.P.underlying t = some (.pointer e)) (h : pureV (evalO S.s) (.mki t x) = some r) : PureOk C A K S a w o r := by
  have hx := R.eval x
  simp only [pureV] at h
  split at h <;> first | (cases h; done) | skip
  rename_i cs hX
  cases h
  rw [hX] at hx
  obtain ⟨blk, off, f, hv, hN, hc, h1⟩ := vrep_el hx
  refine PureOk.of (v := .iface t (.pointer (some ⟨blk, off, none⟩))) ?_ (.one (.flat (.ie t cs blk off f hN hc h1)))
  simp only [execOp, ho, hv]
  refine run_v ?_
  simp [Instr.makeInterface, run_underlying ht]
theorem p_cap (R : Rel C A K S a w) {c : Call} {x : Operand} {t e : TypeId} (ho : o.op = .call c) (hcal : c.callee = .builtin .cap) (hargs : c.args.toList = [x]) (h0 : c.argTypes[0]? = some t)
    (ht : C.E.P.underlying t = some (.slice e)) (h : pureV (evalO S.s) (.cap x) = some r) : PureOk C A K S a w o r := by
  have hx := R.eval x
  simp only [pureV] at h
  split at h <;> first | (cases h; done) | skip
  rename_i hX
  rw [hX] at hx
  cases h
  refine PureOk.of (v := .int .i64 0) ?_ (.one (.flat (.i _ _)))
  rw [run_builtin (P := C.E.P) ho hcal, args_one hargs, vrep_z hx]
  simp only [builtin]
  refine run_v ?_
  simp [Builtin.cap_, h0, run_underlying ht, goInt]
theorem pure_sound {sents : List Nat} {ann : Ann} (hE : EnvOk C.E sents) (R : Rel C A K S a w) {ao : AOp} (hc : cOp C.E.P C.E.T sents ann o = some ao) (hng : ∀ g, ao ≠ .ldg g) (hne : ∀ m x, ao ≠ .ldE m x) (h : pureV (evalO S.s) ao = some r) : PureOk C A K S a w o r := by
  unfold cOp at hc
  split at hc
  case _ x ho => cases hc; exact p_move R (.inl ho) h
  case _ x ho =>
    split at hc <;> first | (cases hc; done) | skip
    · split at hc
      · cases hc; cases h
      · cases hc; exact p_move R (.inr ho) h
    · cases hc; exact p_move R (.inr ho) h
  case _ c x y ho => cases hc; exact p_pick R ho h
  case _ op t x y u ho => cases hc; exact p_bin hE R ho h
  case _ op t x ho => cases hc; exact p_un R ho h
  case _ s d x ho =>
    split at hc <;> first | (cases hc; done) | skip
    rename_i h1 h2
    cases hc; exact p_conv R ho h1 h2 h
  case _ s x f ho =>
    split at hc <;> first | (cases hc; done) | skip
    rename_i fs h1
    split at hc <;> first | (cases hc; done) | skip
    rename_i fd h2
    split at hc <;> first | (cases hc; done) | skip
    rename_i n h3
    cases hc; exact p_addr R ho h1 h2 h3 h
  case _ t x i ho =>
    split at hc <;> first | (cases hc; done) | skip
    · rename_i len e h1
      split at hc <;> first | (cases hc; done) | skip
      rename_i sz h2
      cases hc; exact p_ixA R ho h1 h2 h
    · rename_i e h1
      split at hc <;> first | (cases hc; done) | skip
      rename_i sz h2
      cases hc; exact p_ixS R ho h1 h2 h
  case _ t x f ho =>
    split at hc <;> first | (cases hc; done) | skip
    rename_i fs h1
    split at hc <;> first | (cases hc; done) | skip
    rename_i fd h2
    split at hc <;> first | (cases hc; done) | skip
    rename_i m h3
    cases hc; exact p_fld R ho h1 h2 h3 h
  case _ t x i ho =>
    split at hc <;> first | (cases hc; done) | skip
    · rename_i len e h1
      split at hc <;> first | (cases hc; done) | skip
      rename_i sz m h2 h3
      cases hc; exact p_ixV R ho h1 h2 h3 h
    · rename_i h1
      cases hc; exact p_ixStr R ho h1 h
  case _ x j ho => cases hc; exact p_ext R ho h
  case _ t parts ho =>
    split at hc <;> first | (cases hc; done) | skip
    · rename_i fs v h1 h2
      split at hc <;> first | (cases hc; done) | skip
      rename_i zs ps h3 h4 h5
      split at hc
      · cases hc; exact p_buildQ R ho h1 h2 h3 h4 h5 h
      · cases hc; exact p_buildStruct R ho h1 h2 h3 h4 h5 h
    · rename_i len e v h1 h2
      split at hc <;> first | (cases hc; done) | skip
      rename_i sz zs h3 h4
      cases hc; exact p_buildArr R ho h1 h2 h3 h4 h
  case _ t n parts ho =>
    split at hc <;> first | (cases hc; done) | skip
    rename_i e h1
    split at hc <;> first | (cases hc; done) | skip
    rename_i sz zs h2 h3
    cases hb : (Nat.beq zs.length (sz + 1) && Nat.ble (n * (sz + 1)) 16777216)
    · simp [hb] at hc
    · simp only [hb, cond_true] at hc
      simp only [Bool.and_eq_true, Nat.beq_eq, Nat.ble_eq] at hb
      split at hc
      · cases hc; cases h
      · cases hc; exact p_bslV R ho (isSliceT_of h1) h2 h3 hb.1 hb.2 h
  case _ t l c ho =>
    split at hc <;> first | (cases hc; done) | skip
    rename_i e h1
    split at hc <;> first | (cases hc; done) | skip
    rename_i sz b zs h2 h3 h4
    cases hb : (Nat.beq zs.length (sz + 1))
    · simp [hb] at hc
    · simp only [hb, cond_true] at hc
      simp only [Nat.beq_eq] at hb
      split at hc
      · cases hc; cases h
      · cases hc; exact p_mkS R ho (isSliceT_of h1) h2 h3 h4 hb h
  case _ f first caps ho =>
    cases hb : first.isEmpty
    · simp [hb] at hc
    · simp only [hb, cond_true] at hc
      cases hc; exact p_mkfn R ho hb h
  case _ x ho => cases hc; exact p_nilChk R ho h
  case _ x xt t ho =>
    split at hc <;> first | (cases hc; done) | skip
    rename_i e h1
    cases hb : Nat.beq t C.E.T
    · simp only [hb, cond_false] at hc
      split at hc <;> first | (cases hc; done) | skip
      rename_i h2
      cases hc
      exact p_tas hE R ho h1 h2 (fun e => by subst e; rw [Nat.beq_refl] at hb; cases hb) h
    · simp [hb] at hc
  case _ t x lo hi mx ho =>
    split at hc <;> first | (cases hc; done) | skip
    rename_i e h1
    split at hc <;> first | (cases hc; done) | skip
    rename_i sz h2
    cases hc; exact p_slcSl R ho h1 h2 h
  case _ t x ho =>
    split at hc <;> first | (cases hc; done) | skip
    cases x with
    | global g =>
      simp only at hc
      cases hb : memb sents g
      · simp [hb] at hc
      · simp only [hb, cond_true] at hc
        split at hc <;> cases hc
        exact absurd rfl (hng g)
    | _ =>
      simp only [Bool.cond_eq_ite] at hc
      split at hc
      · cases hc; exact absurd rfl (hne _ _)
      · cases hc; cases h
  case _ t x v ho => split at hc <;> cases hc; cases h
  case _ e v ho =>
    split at hc <;> first | (cases hc; done) | skip
    split at hc
    · cases hc; exact p_boxE R ho h
    · split at hc <;> cases hc <;> cases h
  case _ e ho =>
    split at hc <;> first | (cases hc; done) | skip
    split at hc <;> cases hc <;> cases h
  case _ t x ho =>
    split at hc
    · rename_i e h1
      cases hc; exact p_mki R ho h1 h
    · cases hc; cases h
  case _ x ho => cases hc; cases h
  case _ c ho =>
    unfold cCall at hc
    split at hc
    · split at hc <;> cases hc <;> cases h
    · rename_i hcal
      split at hc <;> first | (cases hc; done) | skip
      · rename_i x e h1 h2
        cases hc
        cases h0 : c.argTypes[0]? with
        | none => simp [h0] at h2
        | some t => exact p_len R ho hcal h1 h0 (by simpa [h0] using h2) h
      · rename_i x h1 h2
        cases hc
        cases h0 : c.argTypes[0]? with
        | none => simp [h0] at h2
        | some t => exact p_lenS R ho hcal h1 h0 (by simpa [h0] using h2) h
    · rename_i hcal
      split at hc <;> first | (cases hc; done) | skip
      rename_i x e h1 h2
      cases hc
      cases h0 : c.argTypes[0]? with
      | none => simp [h0] at h2
      | some t => exact p_cap R ho hcal h1 h0 (by simpa [h0] using h2) h
    · rename_i hcal; cases hc; exact p_mx R ho hcal h
    · rename_i hcal; cases hc; exact p_mn R ho hcal h
    · simp only [Bool.cond_eq_ite] at hc
      repeat' (split at hc <;> first | (cases hc; done) | skip)
      all_goals (cases hc; cases h)
    · cases hc
  case _ => cases hc
end
end Zab
