/- From the model's code to the abstract machine's: sizes and kinds resolved, by the program's own table of types. No statement of the program stands here. -/
import Derived.Test.YtohilcdmockfbaaDoorZabRel
namespace Zab
open Go

def sizeOfT (P : Program) (t : TypeId) : Option Nat := (P.info? t).map (·.size)
def bytesOfT (P : Program) (t : TypeId) : Option Nat := (P.info? t).map (·.bytes)
def zeroOfT (P : Program) (t : TypeId) : Option Value := (P.info? t).bind (·.zero)

/-- One cell, or so many. -/
def aggOfT (P : Program) (t : TypeId) : Option (Option Nat) :=
  match P.underlying t with
  | some (.struct _) | some (.array _ _) => (sizeOfT P t).map some
  | some _ => some none
  | none => none

/-- A zero value's cells. -/
def zeroCellsOf (v : Value) : Option (List AV) :=
  bif v.cells.toList.all flatConst then some (v.cells.toList.map constAV) else none

def isIntField (P : Program) (j : Nat) (f : Field) : Bool :=
  (match P.underlying f.type with | some (.int _) => true | _ => false) && (match sizeOfT P f.type with | some 1 => true | _ => false) && Nat.beq f.offset j && !(f.name == "_")

def intFields (P : Program) : Nat → List Field → Bool
  | _, [] => true
  | j, f :: r => isIntField P j f && intFields P (j + 1) r

def isConstO : Operand → Bool
  | .const _ => true
  | _ => false

def isNilS : Operand → Bool
  | .const (.slice none 0 0) => true
  | _ => false

def ekOf (P : Program) (op : BinOp) (t : TypeId) (x y : Operand) : EqKind :=
  match op with
  | .eql | .neq =>
    match P.underlying t with
    | some .bool => .bool
    | some .string => .str
    | some (.interface _) => if isConstO x || isConstO y then .ifaceC else .iface
    | some (.pointer _) => .ptr
    | some (.slice _) => if isNilS y then .slc else .no
    | some (.struct fs) => if intFields P 0 fs.toList && !P.stoodInHeld t && !P.eqGuardType P.depth t then .ints fs.size else .no
    | _ => .no
  | _ => .no

abbrev Ann := List (Nat × List (Nat × Nat))

def annOf : Ann → Nat → Option (List (Nat × Nat))
  | [], _ => none
  | (j, l) :: r, d => bif Nat.beq j d then some l else annOf r d

def annD (ann : Ann) (dst : Option Nat) : Option (List (Nat × Nat)) :=
  match dst with
  | some d => annOf ann d
  | none => some []

/-- The parts of a struct, by their places. -/
def structParts (P : Program) (fs : Array Field) : List (Nat × Operand) → Option (List (Nat × Nat × Operand))
  | [] => some []
  | (i, x) :: r =>
    match fs[i]? with
    | some f => (match sizeOfT P f.type, structParts P fs r with | some sz, some ps => some ((f.offset, sz, x) :: ps) | _, _ => none)
    | none => none

def rowParts (sz : Nat) : List (Nat × Operand) → List (Nat × Nat × Operand)
  | [] => []
  | (i, x) :: r => (i * sz, sz, x) :: rowParts sz r

def isSliceT (P : Program) (t : TypeId) : Option Nat :=
  match P.underlying t with
  | some (.slice e) => some e
  | _ => none

def cCall (ann : Ann) (o : Oper) (c : Call) (P : Program) : Option AOp :=
  match c.callee with
  | .value f =>
    (match annD ann o.dst with
     | some own => some (.callK f c.args.toList own)
     | none => some (.call f c.args.toList))
  | .builtin .len =>
    (match c.args.toList, (c.argTypes[0]?).bind P.underlying with
     | [x], some (.slice _) => some (.len false x)
     | [x], some .string => some (.len true x)
     | _, _ => none)
  | .builtin .max => some (.mx c.args.toList)
  | .builtin .min => some (.mn c.args.toList)
  | .builtin .append =>
    (match c.args.toList, c.argTypes.toList with
     | [x, y], [t, u] =>
       (match isSliceT P t, isSliceT P u with
        | some e, some _ => (match sizeOfT P e, bytesOfT P e, zeroOfT P e with
                             | some (sz + 1), some (b + 1), some v => bif Nat.beq v.cells.size (sz + 1) then some (.app (sz + 1) (b + 1) x y) else none
                             | _, _, _ => none)
        | _, _ => none)
     | _, _ => none)
  | _ => none

def cOp (P : Program) (T : TypeId) (sents : List Nat) (ann : Ann) (o : Oper) : Option AOp :=
  match o.op with
  | .move x => some (.move x)
  | .assign x =>
    (match (match o.dst with | some d => annOf ann d | none => none) with
     | some ((_, sz) :: _) => (match x with | .const _ => some (.nilR sz x) | _ => some (.move x))
     | some [] => none
     | none => some (.move x))
  | .pick c a b => some (.pick c a b)
  | .binOp op t x y _ => some (.bin (ekOf P op t x y) op x y)
  | .unOp op _ x => some (.un op x)
  | .convert src dst x =>
    (match P.underlying src, P.underlying dst with
     | some (.int _), some (.int k) => some (.conv k x)
     | _, _ => none)
  | .fieldAddr s x f =>
    (match P.underlying s with
     | some (.struct fs) => (match fs[f]? with
                             | some fd => (match sizeOfT P fd.type with | some (_ + 1) => some (.addr fd.offset x) | _ => none)
                             | none => none)
     | _ => none)
  | .indexAddr t x i =>
    (match P.underlying t with
     | some (.array len e) => (match sizeOfT P e with | some sz => some (.ixA len sz x i) | none => none)
     | some (.slice e) => (match sizeOfT P e with | some (sz + 1) => some (.ixS (sz + 1) x i) | _ => none)
     | _ => none)
  | .field t x f =>
    (match P.underlying t with
     | some (.struct fs) => (match fs[f]? with
                             | some fd => (match aggOfT P fd.type with | some m => some (.fld fd.offset m x) | none => none)
                             | none => none)
     | _ => none)
  | .index t x i =>
    (match P.underlying t with
     | some (.array len e) => (match sizeOfT P e, aggOfT P e with | some sz, some m => some (.ixV len sz m x i) | _, _ => none)
     | some .string => some (.ixStr x i)
     | _ => none)
  | .extract x j => some (.ext j x)
  | .build t parts =>
    (match P.underlying t, zeroOfT P t with
     | some (.struct fs), some v =>
       (match (fs.toList.all fun f => (sizeOfT P f.type).isSome), zeroCellsOf v, structParts P fs parts.toList with
        | true, some zs, some ps => some (.build zs ps)
        | _, _, _ => none)
     | some (.array _ e), some v =>
       (match sizeOfT P e, zeroCellsOf v with
        | some sz, some zs => some (.build zs (rowParts sz parts.toList))
        | _, _ => none)
     | _, _ => none)
  | .buildSlice t n parts =>
    (match isSliceT P t with
     | some e =>
       (match sizeOfT P e, (zeroOfT P e).bind zeroCellsOf with
        | some (sz + 1), some zs =>
          bif Nat.beq zs.length (sz + 1) && Nat.ble (n * (sz + 1)) 16777216 then
            (match (match o.dst with | some d => annOf ann d | none => none) with
             | some _ => some (.bslR n zs (rowParts (sz + 1) parts.toList))
             | none => some (.bsl n zs (rowParts (sz + 1) parts.toList))) else none
        | _, _ => none)
     | none => none)
  | .makeSlice t l c =>
    (match isSliceT P t with
     | some e =>
       (match sizeOfT P e, bytesOfT P e, (zeroOfT P e).bind zeroCellsOf with
        | some (sz + 1), some (b + 1), some zs =>
          bif Nat.beq zs.length (sz + 1) then
            (match (match o.dst with | some d => annOf ann d | none => none) with
             | some _ => some (.mkR zs (b + 1) l c)
             | none => some (.mkS zs (b + 1) l c)) else none
        | _, _, _ => none)
     | none => none)
  | .makeFunc (.func f) first caps => bif first.isEmpty then some (.mkfn f caps.toList) else none
  | .nilCheck x => some (.nilChk x)
  | .typeAssert x _ t true =>
    (match P.underlying t with
     | some (.pointer _) => bif Nat.beq t T then none else (match zeroOfT P t with | some (.pointer none) => some (.tas .np x) | _ => none)
     | _ => none)
  | .slice t x lo hi mx =>
    (match P.underlying t with
     | some (.slice e) => (match sizeOfT P e with | some (sz + 1) => some (.slc (sz + 1) x lo hi mx) | _ => none)
     | _ => none)
  | .load t x =>
    (match aggOfT P t with
     | some m => (match x with
                  | .global g => bif memb sents g then (match m with | none => some (.ldg g) | some _ => none) else none
                  | _ => some (.load m x))
     | none => none)
  | .store t x v => (match sizeOfT P t with | some sz => some (.store sz x v) | none => none)
  | .box e v => (match sizeOfT P e with | some (sz + 1) => some (.box (sz + 1) v) | _ => none)
  | .alloc e => (match (zeroOfT P e).bind zeroCellsOf with | some (c :: cs) => some (.alloc (c :: cs)) | _ => none)
  | .call c => cCall ann o c P
  | _ => none

/-- The operands of an operation (of those that may change places). -/
def opnds : AOp → List Operand
  | .move x | .un _ x | .conv _ x | .addr _ x | .fld _ _ x | .ext _ x | .len _ x | .nilChk x | .tas _ x | .load _ x => [x]
  | .pick c x y => [c, x, y]
  | .bin _ _ x y | .ixA _ _ x y | .ixS _ x y | .ixV _ _ _ x y | .ixStr x y | .store _ x y | .mkS _ _ x y => [x, y]
  | .build _ ps | .bsl _ _ ps => ps.map fun p => p.2.2
  | .mkfn _ l | .mn l | .mx l => l
  | .slc _ x lo hi mx => x :: (lo.toList ++ (hi.toList ++ mx.toList))
  | .call f l => f :: l
  | _ => []

def tmpsOf : List Operand → List Nat
  | [] => []
  | .tmp t :: r => t :: tmpsOf r
  | _ :: r => tmpsOf r

def looksA (a : AOper) : List Nat := tmpsOf (opnds a.op) ++ (match a.guard with | some (g, _) => [g] | none => [])
def dstA (a : AOper) : List Nat := match a.dst with | some d => [d] | none => []

def meets : List Nat → List Nat → Bool
  | [], _ => false
  | x :: r, l => memb l x || meets r l

/-- May two operations change places? -/
def free (a b : AOper) : Bool :=
  !meets (dstA a) (looksA b ++ dstA b) && !meets (dstA b) (looksA a) &&
  (match a.op.cls, b.op.cls with
   | 0, 0 | 0, 1 | 1, 0 | 1, 1 | 0, 2 | 2, 0 => true
   | _, _ => false)

/-- What each operation waits for, by bits, whole. -/
def maskOf (acc : List Nat) (o : Oper) : Nat := o.after.toList.foldl (fun s e => if Region.binds .any e then s ||| 2 ^ e.on ||| acc.getD e.on 0 else s) 0
def befs : List Oper → List Nat → List Nat
  | [], acc => acc
  | o :: r, acc => befs r (acc ++ [maskOf acc o])

def edgesOk : Nat → List Oper → Bool
  | _, [] => true
  | j, o :: r => (o.after.toList.all fun e => !Region.binds .any e || Nat.blt e.on j) && edgesOk (j + 1) r

def pairsOk (bef : List Nat) (l : List AOper) : Bool :=
  (List.range l.length).all fun j => (List.range j).all fun i => (bef.getD j 0).testBit i || (match l[i]?, l[j]? with | some a, some b => free a b | _, _ => false)

def drawOk (ops : Array Oper) (l : List AOper) : Bool := edgesOk 0 ops.toList && pairsOk (befs ops.toList []) l

def cGuard (ops : Array Oper) (o : Oper) : Option (Option (Nat × Bool)) :=
  match o.guard with
  | none => some none
  | some (g, want) => (match ops[g]? with | some p => (match p.dst with | some d => some (some (d, want)) | none => none) | none => none)

def dstOk (np nt : Nat) (o : Oper) (a : AOp) : Bool :=
  match o.dst with
  | some d => Nat.blt d nt && (Nat.ble np d || !Nat.beq a.cls 3) && !Nat.beq a.cls 2
  | none => true

structure Info where
  P : Program
  T : TypeId
  sents : List Nat
  ann : Ann
  pre : List (Nat × List Nat × List Nat × List Nat)
  np : Nat
  nt : Nat

def cOper (I : Info) (ops : Array Oper) (o : Oper) : Option AOper :=
  match cOp I.P I.T I.sents I.ann o, cGuard ops o with
  | some a, some g => bif dstOk I.np I.nt o a then some ⟨o.dst, a, g⟩ else none
  | _, _ => none

def cOpers (I : Info) (ops : Array Oper) : List Oper → Option (List AOper)
  | [] => some []
  | o :: r => match cOper I ops o, cOpers I ops r with | some a, some l => some (a :: l) | _, _ => none

def preOf : List (Nat × List Nat × List Nat × List Nat) → Nat → Option (List Nat × List Nat × List Nat)
  | [], _ => none
  | (j, x) :: r, i => bif Nat.beq j i then some x else preOf r i

/-- Loops in the text's order: what is kept at each head. -/
abbrev Heads := List (List Nat × List Nat)

def cCode (I : Info) : Code → Heads → Option (AC × Heads)
  | .skip, h => some (.skip, h)
  | .ret, h => some (.ret, h)
  | .exit id, h => some (.exit id, h)
  | .region id ops draw, h =>
    (match cOpers I ops ops.toList with
     | some l =>
       bif !draw || drawOk ops l then
         (match preOf I.pre id with
          | some (fr, ks, kr) => some (.pre fr ks kr (.reg l), h)
          | none => some (.reg l, h)) else none
     | none => none)
  | .seq a b, h =>
    (match cCode I a h with
     | some (x, h1) => (match cCode I b h1 with | some (y, h2) => some (.seq x y, h2) | none => none)
     | none => none)
  | .cond c a b, h =>
    (match cCode I a h with
     | some (x, h1) => (match cCode I b h1 with | some (y, h2) => some (.cond c x y, h2) | none => none)
     | none => none)
  | .block id a, h => (match cCode I a h with | some (x, h1) => some (.block id x, h1) | none => none)
  | .loop a, (ks, kr) :: h => (match cCode I a h with | some (x, h1) => some (.loop ks kr x, h1) | none => none)
  | _, _ => none

def cRes (P : Program) : List ResultVar → Option (List ARes)
  | [] => some []
  | .tmp t :: r => (match cRes P r with | some l => some (.t t :: l) | none => none)
  | .cell a t :: r => (match aggOfT P t, cRes P r with | some m, some l => some (.c a m :: l) | _, _ => none)

structure FnAnn where
  ann : Ann
  pre : List (Nat × List Nat × List Nat × List Nat)
  heads : Heads

def cFun (P : Program) (T : TypeId) (sents : List Nat) (x : FnAnn) (fn : Func) : Option AFun :=
  match fn.body with
  | some c =>
    let np := fn.params.size + fn.nfree
    bif fn.name == "runtime.NumGoroutine" then none else
    (match cCode ⟨P, T, sents, x.ann, x.pre, np, fn.ntmps⟩ c x.heads, cRes P fn.results.toList with
     | some (b, _), some res => bif Nat.ble np fn.ntmps then some ⟨b, np, res⟩ else none
     | _, _ => none)
  | none => none

end Zab
