/- The abstract machine: values without addresses, a heap of frames, and what each operation does to them. Plain definitions. -/
import Derived.WalkKit
import Derived.Laws.AppendOwn
import Derived.Laws.CopyRow
import Derived.Below
import Derived.Laws.MakeOwn
set_option linter.unusedVariables false
set_option linter.unusedSimpArgs false
set_option linter.unnecessarySimpa false
namespace Go.Proofs.YtbcmiddffckgmaaDoor.Am
open Go

/-- Values: numbers, texts, references to objects of the heap (frame, place, version, cell, end), slices of objects, slices of memory that nobody writes (a tree), functions. -/
inductive PV where
  | bool (b : Bool)
  | int (k : IntKind) (n : Int)
  | str (s : ByteArray)
  | nilp
  | ref (d i u off hi : Nat)
  | tptr (cells : List PV)
  | nils
  | sl (d i u off len sz : Nat) (lim : Bool)
  | tree (es : List (List PV)) (lim : Bool)
  | fn (f : Nat) (cap : List PV)
  | nilf
  | nili
  | agg (cells : List PV)
  | tup (vs : List PV)
  deriving Inhabited

def mapO {α β : Type} (f : α → Option β) : List α → Option (List β)
  | [] => some []
  | x :: xs => (f x).bind fun y => (mapO f xs).map fun ys => y :: ys

def optO {α β : Type} (f : α → Option β) : Option α → Option (Option β)
  | none => some none
  | some x => (f x).map some

structure AObj where
  cells : List PV
  ver : Nat
  lo : Nat

abbrev Heap := List (List AObj)

def getO : Heap → Nat → Nat → Option AObj
  | [], _, _ => none
  | f :: fs, d, i => if d = fs.length then f[i]? else getO fs d i

def setO : Heap → Nat → Nat → AObj → Heap
  | [], _, _, _ => []
  | f :: fs, d, i, o => if d = fs.length then f.set i o :: fs else f :: setO fs d i o

def pushO : Heap → AObj → Heap
  | [], _ => []
  | f :: fs, o => (f ++ [o]) :: fs

def curD (H : Heap) : Nat := H.length - 1
def curN : Heap → Nat
  | [] => 0
  | f :: _ => f.length

mutual
def dle (D : Nat) : PV → Bool
  | .ref d _ _ _ _ => decide (d ≤ D)
  | .sl d _ _ _ _ _ _ => decide (d ≤ D)
  | .tptr cs => dleL D cs
  | .tree es _ => dleLL D es
  | .fn _ c => dleL D c
  | .agg cs => dleL D cs
  | .tup vs => dleL D vs
  | .bool _ => true
  | .int _ _ => true
  | .str _ => true
  | .nilp => true
  | .nils => true
  | .nilf => true
  | .nili => true
def dleL (D : Nat) : List PV → Bool
  | [] => true
  | c :: cs => dle D c && dleL D cs
def dleLL (D : Nat) : List (List PV) → Bool
  | [] => true
  | e :: es => dleL D e && dleLL D es
end

def tsz (P : Program) (t : TypeId) : Option Nat := (P.info? t).map (·.size)
def tby (P : Program) (t : TypeId) : Option Nat := (P.info? t).map (·.bytes)
def tagg (P : Program) (t : TypeId) : Option Bool := (P.underlying t).map fun d => match d with
  | .struct _ => true
  | .array _ _ => true
  | _ => false

def undefP : PV := .tup []

def ofCell : Value → Option PV
  | .bool b => some (.bool b)
  | .int k n => some (.int k n)
  | .string s => some (.str s)
  | .pointer none => some .nilp
  | .slice none 0 0 => some .nils
  | .nilFunc => some .nilf
  | .nilIface => some .nili
  | _ => none
def ofValue : Value → Option PV
  | .agg cs => (mapO ofCell cs.toList).map .agg
  | .tuple vs => none
  | v => ofCell v
def tzero (P : Program) (t : TypeId) : Option PV := ((P.info? t).bind (·.zero)).bind ofValue

def evalO (ts : List PV) : Operand → Option PV
  | .tmp t => some ((ts[t]?).getD undefP)
  | .const v => ofValue v
  | .func f => some (.fn f [])
  | .global _ => none

def cellsOf : PV → List PV
  | .agg cs => cs
  | v => [v]

def isTup : PV → Bool
  | .tup _ => true
  | _ => false

def splice (l : List PV) (off : Nat) (new : List PV) : List PV := l.take off ++ new ++ l.drop (off + new.length)

def loadP (P : Program) (H : Heap) (t : TypeId) (x : PV) : Option PV :=
  (tsz P t).bind fun sz =>
  (match x with
    | .ref d i u off hi => (getO H d i).bind fun o => if o.lo ≤ u ∧ u ≤ o.ver ∧ off + sz ≤ hi ∧ hi ≤ o.cells.length then some ((o.cells.drop off).take sz) else none
    | .tptr cs => if sz ≤ cs.length then some (cs.take sz) else none
    | _ => none).bind fun cs =>
  match tagg P t, cs with
  | some true, cs => some (.agg cs)
  | some false, [c] => some c
  | _, _ => none

/-- The objects that were written. -/
abbrev Wr := List (Nat × Nat)
/-- Is the object older than the mark (frame D of the call, place m in it)? -/
def outer (D m : Nat) (p : Nat × Nat) : Bool := decide (p.1 < D) || (p.1 == D && decide (p.2 < m))
def addW (wr : Wr) (p : Nat × Nat) : Wr := if p ∈ wr then wr else wr ++ [p]
def addWs (D m : Nat) (wr new : Wr) : Wr := (new.filter (outer D m)).foldl addW wr

def storeC (H : Heap) (d i u off hi : Nat) (cells : List PV) : Option (Heap × Wr) :=
  (getO H d i).bind fun o =>
  if u = o.ver ∧ off + cells.length ≤ hi ∧ hi ≤ o.cells.length ∧ (d = curD H ∨ dleL d cells = true) then
    some (setO H d i { cells := splice o.cells off cells, ver := o.ver, lo := o.ver }, [(d, i)])
  else none

def storeP (P : Program) (H : Heap) (t : TypeId) (x v : PV) : Option (Heap × Wr) :=
  match x with
  | .ref d i u off hi => if tsz P t = some (cellsOf v).length ∧ isTup v = false then storeC H d i u off hi (cellsOf v) else none
  | _ => none

def newO (H : Heap) (cells : List PV) : Heap := pushO H { cells, ver := 0, lo := 0 }

def fillP (place : Nat → Option (Nat × Nat)) : List PV → List (Nat × PV) → Option (List PV)
  | cells, [] => some cells
  | cells, (i, v) :: rest =>
    (place i).bind fun (off, size) =>
    if (cellsOf v).length = size ∧ off + size ≤ cells.length ∧ isTup v = false then fillP place (splice cells off (cellsOf v)) rest else none

def fieldPlaces (P : Program) (fields : Array Field) (i : Nat) : Option (Nat × Nat) :=
  (fields[i]?).bind fun f => (tsz P f.type).map fun s => (f.offset, s)

def buildP (P : Program) (t : TypeId) (parts : List (Nat × PV)) : Option PV :=
  (tzero P t).bind fun z =>
  match P.underlying t with
  | some (.struct fields) => if fields.toList.all (fun f => (tsz P f.type).isSome) then (fillP (fieldPlaces P fields) (cellsOf z) parts).map .agg else none
  | some (.array _ elem) => (tsz P elem).bind fun size => (fillP (fun i => some (i * size, size)) (cellsOf z) parts).map .agg
  | _ => none

def repl (n : Nat) (cs : List PV) : List PV := (List.replicate n cs).flatten

def fieldAddrP (P : Program) (s : TypeId) (x : PV) (f : Nat) : Option PV :=
  match P.underlying s with
  | some (.struct fields) => (fields[f]?).bind fun fl =>
    match tsz P fl.type with
    | some (sz + 1) => match x with
      | .ref d i u off hi => some (.ref d i u (off + fl.offset) hi)
      | .tptr cs => if fl.offset ≤ cs.length then some (.tptr (cs.drop fl.offset)) else none
      | _ => none
    | _ => none
  | _ => none

def idx (n : PV) : Option Nat := match n with
  | .int _ n => if 0 ≤ n then some n.toNat else none
  | _ => none

def indexAddrP (P : Program) (t : TypeId) (x n : PV) : Option PV :=
  (idx n).bind fun n =>
  match P.underlying t with
  | some (.slice elem) => match tsz P elem with
    | some (sz + 1) => match x with
      | .sl d i u off len sz' _ => if n < len ∧ sz' = sz + 1 then some (.ref d i u (off + n * (sz + 1)) (off + n * (sz + 1) + (sz + 1))) else none
      | .tree es _ => match es[n]? with
        | some e => if e.length = sz + 1 then some (.tptr e) else none
        | none => none
      | _ => none
    | _ => none
  | some (.array len elem) => match tsz P elem with
    | some (sz + 1) => match x with
      | .ref d i u off hi => if n < len ∧ off + n * (sz + 1) + (sz + 1) ≤ hi then some (.ref d i u (off + n * (sz + 1)) (off + n * (sz + 1) + (sz + 1))) else none
      | .tptr cs => if n < len ∧ n * (sz + 1) ≤ cs.length then some (.tptr (cs.drop (n * (sz + 1)))) else none
      | _ => none
    | _ => none
  | _ => none

def partP (P : Program) (t : TypeId) (cs : List PV) (off : Nat) : Option PV :=
  (tsz P t).bind fun sz =>
  match tagg P t with
  | some true => if off + sz ≤ cs.length then some (.agg ((cs.drop off).take sz)) else none
  | some false => cs[off]?
  | none => none

def indexP (P : Program) (t : TypeId) (x n : PV) : Option PV :=
  (idx n).bind fun n =>
  match P.underlying t, x with
  | some .string, .str s => (s[n]?).map fun b => .int .u8 b.toNat
  | some (.array len elem), .agg cs => (tsz P elem).bind fun sz => if n < len then partP P elem cs (n * sz) else none
  | _, _ => none

def fieldP (P : Program) (t : TypeId) (x : PV) (f : Nat) : Option PV :=
  match P.underlying t, x with
  | some (.struct fields), .agg cs => (fields[f]?).bind fun fl => partP P fl.type cs fl.offset
  | _, _ => none

/-- A bound of a slice expression that may be absent. -/
def bnd (x : Option PV) (dflt : Nat) : Option Nat := match x with
  | none => some dflt
  | some v => idx v

def sliceP (P : Program) (H : Heap) (t : TypeId) (x : PV) (low high mx : Option PV) : Option PV :=
  match P.underlying t, x with
  | some .string, .str s =>
    if mx.isSome then none else
    (bnd high s.size).bind fun h => (bnd low 0).bind fun l =>
    if l ≤ h ∧ h ≤ s.size then some (.str (s.extract l h)) else none
  | some (.slice elem), .nils =>
    (bnd high 0).bind fun h => (bnd low 0).bind fun l => (bnd mx 0).bind fun m =>
    if l = 0 ∧ h = 0 ∧ m = 0 ∧ (tsz P elem).isSome = true then some .nils else none
  | some (.slice elem), .sl d i u off len sz lim =>
    (tsz P elem).bind fun sz' =>
    (bnd high len).bind fun h => (bnd low 0).bind fun l => (bnd mx h).bind fun m =>
    if sz' = sz ∧ 0 < sz ∧ l ≤ h ∧ h ≤ len ∧ m = h then
      if mx.isSome then
        (if l = h then some (.tree [] true) else some (.sl d i u (off + l * sz) (h - l) sz true))
      else if l = len ∧ 0 < l then some (.tree [] lim)
      else if lim = true ∧ h < len then
        (getO H d i).bind fun o => if u = o.ver ∧ off + len * sz = o.cells.length then some (.sl d i u (off + l * sz) (h - l) sz false) else none
      else some (.sl d i u (off + l * sz) (h - l) sz lim)
    else none
  | some (.slice elem), .tree es lim =>
    (bnd high es.length).bind fun h => (bnd low 0).bind fun l => (bnd mx h).bind fun m =>
    if l ≤ h ∧ h ≤ es.length ∧ m = h ∧ (tsz P elem).isSome = true ∧ (l = 0 ∨ l = h ∨ (es[0]?).map List.length = tsz P elem) then
      some (.tree ((es.drop l).take (h - l)) (mx.isSome || (lim && decide (h = es.length))))
    else none
  | some (.array n elem), .ref d i u off hi =>
    (tsz P elem).bind fun sz =>
    (bnd high n).bind fun h => (bnd low 0).bind fun l => (bnd mx n).bind fun m =>
    if 0 < sz ∧ l ≤ h ∧ h = n ∧ m = n ∧ off + n * sz ≤ hi then
      (if l = n then some (.tree [] true) else some (.sl d i u (off + l * sz) (h - l) sz true))
    else none
  | _, _ => none

/-- How many elements a source has, and their cells. -/
def srcCells (H : Heap) (sz : Nat) : PV → Option (Nat × List PV)
  | .nils => some (0, [])
  | .sl d i u off len sz' _ => (getO H d i).bind fun o =>
    if o.lo ≤ u ∧ u ≤ o.ver ∧ sz' = sz ∧ off + len * sz ≤ o.cells.length then some (len, (o.cells.drop off).take (len * sz)) else none
  | .tree es _ => if es.all (fun e => e.length == sz) then some (es.length, es.flatten) else none
  | _ => none

def maxL : Nat := 9223372036854775807
def roomOk (n by_ : Nat) : Bool := decide (n ≤ maxL) && decide (n * by_ ≤ 140737488355328)

def appendP (P : Program) (H : Heap) (t t2 : TypeId) (s x : PV) : Option (PV × Heap × Wr) :=
  match P.underlying t with
  | some (.slice elem) =>
    (tsz P elem).bind fun sz => (tby P elem).bind fun by_ => (tzero P elem).bind fun z =>
    if sz = 0 ∨ (cellsOf z).length ≠ sz ∨ t2 ≠ t then none else
    (srcCells H sz x).bind fun (n, new) =>
    match s with
    | .nils => if n = 0 then some (.nils, H, []) else
      if roomOk n by_ then some (.sl (curD H) (curN H) 0 0 n sz false, newO H new, [])  else none
    | .tree es lim => if n = 0 then some (.tree es lim, H, []) else
      if lim ∧ es.all (fun e => e.length == sz) ∧ roomOk (es.length + n) by_ then
        some (.sl (curD H) (curN H) 0 0 (es.length + n) sz false, newO H (es.flatten ++ new), [])  else none
    | .sl d i u off len sz' lim =>
      if sz' ≠ sz then none else
      if n = 0 then some (.sl d i u off len sz' lim, H, []) else
      (getO H d i).bind fun o =>
      if lim then
        (if o.lo ≤ u ∧ u ≤ o.ver ∧ off + len * sz ≤ o.cells.length ∧ roomOk (len + n) by_ then
          some (.sl (curD H) (curN H) 0 0 (len + n) sz false, newO H ((o.cells.drop off).take (len * sz) ++ new), [])
         else none)
      else if u = o.ver ∧ off = 0 ∧ len * sz = o.cells.length then
        (if roomOk (len + n) by_ ∧ (d = curD H ∨ dleL d new = true) then
          some (.sl d i (u + 1) 0 (len + n) sz false, setO H d i { cells := o.cells ++ new, ver := o.ver + 1, lo := o.lo }, [(d, i)])
         else none)
      else if off + len * sz + new.length ≤ o.cells.length then
        (storeC H d i u (off + len * sz) o.cells.length new).map fun (H', dirty) => (.sl d i u off (len + n) sz false, H', dirty)
      else none
    | _ => none
  | _ => none

def copyP (P : Program) (H : Heap) (t : TypeId) (dst src : PV) : Option (PV × Heap × Wr) :=
  match P.underlying t with
  | some (.slice elem) => (tsz P elem).bind fun sz =>
    if sz = 0 then none else
    (srcCells H sz src).bind fun (n, cells) =>
    match dst with
    | .nils => some (.int .i64 0, H, [])
    | .sl d i u off len sz' _ =>
      if sz' ≠ sz then none else
      if min n len = 0 then some (.int .i64 0, H, []) else
      (storeC H d i u off (off + len * sz) (cells.take (min n len * sz))).map fun (H', dirty) => (.int .i64 (min n len : Nat), H', dirty)
    | _ => none
  | _ => none

def lenP (P : Program) (t : TypeId) (x : PV) : Option PV :=
  match P.underlying t, x with
  | some .string, .str s => some (.int .i64 s.size)
  | some (.array n _), _ => some (.int .i64 n)
  | some (.slice _), .nils => some (.int .i64 0)
  | some (.slice _), .sl _ _ _ _ len _ _ => some (.int .i64 len)
  | some (.slice _), .tree es _ => some (.int .i64 es.length)
  | _, _ => none

def makeSliceP (P : Program) (H : Heap) (t : TypeId) (len cap : PV) : Option (PV × Heap) :=
  match P.underlying t with
  | some (.slice elem) =>
    (tsz P elem).bind fun sz => (tby P elem).bind fun by_ => (tzero P elem).bind fun z =>
    match len, cap with
    | .int _ l, .int _ c =>
      if 0 < sz ∧ (cellsOf z).length = sz ∧ 0 ≤ l ∧ l ≤ c ∧ roomOk c.toNat by_ then
        some (.sl (curD H) (curN H) 0 0 l.toNat sz (decide (l = c)), newO H (repl c.toNat (cellsOf z)))
      else none
    | _, _ => none
  | _ => none

def scalarV : PV → Option Value
  | .bool b => some (.bool b)
  | .int k n => some (.int k n)
  | .str s => some (.string s)
  | _ => none

def bitsP (op : BinOp) (k : IntKind) (x y : Int) : Option PV :=
  match op with
  | .and => some (.int k (k.wrap (BitVec.ofInt k.bits x &&& BitVec.ofInt k.bits y).toNat))
  | .or => some (.int k (k.wrap (BitVec.ofInt k.bits x ||| BitVec.ofInt k.bits y).toNat))
  | .xor => some (.int k (k.wrap (BitVec.ofInt k.bits x ^^^ BitVec.ofInt k.bits y).toNat))
  | .andNot => some (.int k (k.wrap (BitVec.ofInt k.bits x &&& ~~~ BitVec.ofInt k.bits y).toNat))
  | _ => none

def intOp (op : BinOp) (k : IntKind) (x y : Int) : Option PV :=
  match op with
  | .add => some (.int k (k.wrap (x + y)))
  | .sub => some (.int k (k.wrap (x - y)))
  | .mul => some (.int k (k.wrap (x * y)))
  | .quo => if y = 0 then none else some (.int k (k.wrap (x.tdiv y)))
  | .rem => if y = 0 then none else some (.int k (x.tmod y))
  | .eql => some (.bool (x == y))
  | .neq => some (.bool (x != y))
  | .lss => some (.bool (decide (x < y)))
  | .leq => some (.bool (decide (x ≤ y)))
  | .gtr => some (.bool (decide (x > y)))
  | .geq => some (.bool (decide (x ≥ y)))
  | op => bitsP op k x y

def shiftP (op : BinOp) (k : IntKind) (x y : Int) : Option PV :=
  if y < 0 then none else
  match op with
  | .shl => some (.int k (k.wrap (x * 2 ^ (min y.toNat k.bits))))
  | .shr => some (.int k (x.fdiv (2 ^ (min y.toNat k.bits))))
  | _ => none

def strOp (op : BinOp) (x y : ByteArray) : Option PV :=
  match op with
  | .add => if x.size + y.size ≤ maxL then some (.str (x ++ y)) else none
  | .eql => some (.bool (x.toList == y.toList))
  | .neq => some (.bool !(x.toList == y.toList))
  | .lss => some (.bool (Op.bytesLess x.toList y.toList))
  | .leq => some (.bool (Op.bytesLess x.toList y.toList || x.toList == y.toList))
  | .gtr => some (.bool !(Op.bytesLess x.toList y.toList || x.toList == y.toList))
  | .geq => some (.bool !(Op.bytesLess x.toList y.toList))
  | _ => none

/-- Equality of cells of one kind: numbers, texts, bools; nil against what is not nil. -/
def eqC (P : Program) : Nat → TypeId → PV → PV → Option Bool
  | 0, _, _, _ => none
  | d + 1, t, x, y =>
    match P.underlying t, x, y with
    | some .bool, .bool a, .bool b => some (a == b)
    | some (.int _), .int k a, .int k' b => if k = k' then some (a == b) else none
    | some .string, .str a, .str b => some (a.toList == b.toList)
    | some (.pointer _), .nilp, .nilp => some true
    | some (.pointer _), .nilp, .ref _ _ _ _ _ => some false
    | some (.pointer _), .ref _ _ _ _ _, .nilp => some false
    | some (.slice _), .nils, .nils => some true
    | some (.slice _), .nils, .sl _ _ _ _ _ _ _ => some false
    | some (.slice _), .nils, .tree _ _ => some false
    | some (.slice _), .sl _ _ _ _ _ _ _, .nils => some false
    | some (.slice _), .tree _ _, .nils => some false
    | some (.func _ _ _), .nilf, .nilf => some true
    | some (.func _ _ _), .nilf, .fn _ _ => some false
    | some (.func _ _ _), .fn _ _, .nilf => some false
    | some (.struct fields), .agg xs, .agg ys =>
      if P.stoodInHeld t then none else
      eqFields (eqC P d) (partP P) fields.toList xs ys
    | _, _, _ => none
where
  eqFields (eq : TypeId → PV → PV → Option Bool) (part : TypeId → List PV → Nat → Option PV) : List Field → List PV → List PV → Option Bool
    | [], _, _ => some true
    | f :: fs, xs, ys =>
      if f.name = "_" then eqFields eq part fs xs ys else
      (part f.type xs f.offset).bind fun a => (part f.type ys f.offset).bind fun b =>
      (eq f.type a b).bind fun r => if r then eqFields eq part fs xs ys else some false

def binOpP (P : Program) (op : BinOp) (t : TypeId) (x y : PV) : Option PV :=
  match x, y with
  | .int k a, .int k' b =>
    match op with
    | .shl => shiftP .shl k a b
    | .shr => shiftP .shr k a b
    | op => if k = k' then intOp op k a b else none
  | .str a, .str b => strOp op a b
  | x, y =>
    match op with
    | .eql => if P.eqGuardType P.depth t then none else (eqC P Op.maxDepth t x y).map .bool
    | .neq => if P.eqGuardType P.depth t then none else (eqC P Op.maxDepth t x y).map fun b => .bool !b
    | _ => none

def unOpP (op : UnOp) (x : PV) : Option PV :=
  match op, x with
  | .neg, .int k n => some (.int k (k.wrap (0 - n)))
  | .xor, .int k n => bitsP .xor k (if k.signed then -1 else k.max) n
  | .not, .bool b => some (.bool !b)
  | _, _ => none

def convertP (P : Program) (src dst : TypeId) (x : PV) : Option PV :=
  match P.underlying src, P.underlying dst, x with
  | some _, some (.int k), .int _ n => some (.int k (k.wrap n))
  | some _, some .string, .str s => some (.str s)
  | _, _, _ => none

def minMaxP (mx : Bool) : List PV → Option PV
  | [] => none
  | x :: rest => rest.foldlM (fun x y => match x, y with
    | .int k x, .int _ y => some (.int k (if mx then (if y > x then y else x) else (if y < x then y else x)))
    | _, _ => none) x

/-- What an operation that is no call of a Go function does: its value, the heap, and whether an older object was written. -/
def opP (P : Program) (ts : List PV) (H : Heap) (op : Op) : Option (PV × Heap × Wr) :=
  let ev := evalO ts
  let pure1 (v : Option PV) : Option (PV × Heap × Wr) := v.map fun v => (v, H, [])
  match op with
  | .move x => pure1 (ev x)
  | .assign x => pure1 (ev x)
  | .pick c a b => pure1 ((ev c).bind fun c => match c with | .bool true => ev a | .bool false => ev b | _ => none)
  | .alloc t => (tzero P t).bind fun z => if (cellsOf z).length = 0 then none else some (.ref (curD H) (curN H) 0 0 (cellsOf z).length, newO H (cellsOf z), [])
  | .box _ x => (ev x).bind fun v => if (cellsOf v).length = 0 ∨ isTup v = true then none else some (.ref (curD H) (curN H) 0 0 (cellsOf v).length, newO H (cellsOf v), [])
  | .build t parts => (mapO (fun (p : Nat × Operand) => (ev p.2).map fun v => (p.1, v)) parts.toList).bind fun ps => pure1 (buildP P t ps)
  | .buildSlice t len parts => (mapO (fun (p : Nat × Operand) => (ev p.2).map fun v => (p.1, v)) parts.toList).bind fun ps =>
    match P.underlying t with
    | some (.slice elem) => (tsz P elem).bind fun sz => (tzero P elem).bind fun z =>
      if 0 < sz ∧ (cellsOf z).length = sz ∧ len * sz ≤ 2 ^ 24 then
        (fillP (fun i => some (i * sz, sz)) (repl len (cellsOf z)) ps).map fun cells =>
          (.sl (curD H) (curN H) 0 0 len sz true, newO H cells, [])
      else none
    | _ => none
  | .load t x => pure1 ((ev x).bind fun a => loadP P H t a)
  | .store t x y => (ev x).bind fun a => (ev y).bind fun v => (storeP P H t a v).map fun (H', d) => (undefP, H', d)
  | .nilCheck x => pure1 ((ev x).bind fun v => match v with
    | .ref d i u off hi => some (.ref d i u off hi)
    | .tptr cs => some (.tptr cs)
    | _ => none)
  | .binOp op t x y _ => pure1 ((ev x).bind fun a => (ev y).bind fun b => binOpP P op t a b)
  | .unOp op _ x => pure1 ((ev x).bind fun a => unOpP op a)
  | .convert s d x => pure1 ((ev x).bind fun a => convertP P s d a)
  | .makeFunc (.func f) first captured => if first.size = 0 then pure1 ((mapO ev captured.toList).map fun c => .fn f c) else none
  | .makeSlice t l c => (ev l).bind fun l => (ev c).bind fun c => (makeSliceP P H t l c).map fun (v, H') => (v, H', [])
  | .slice t x lo hi mx => if hi.isNone = true ∧ mx.isSome = true then none else pure1 ((ev x).bind fun a =>
      (optO ev lo).bind fun lo => (optO ev hi).bind fun hi => (optO ev mx).bind fun mx => sliceP P H t a lo hi mx)
  | .fieldAddr s x f => pure1 ((ev x).bind fun a => fieldAddrP P s a f)
  | .field t x f => pure1 ((ev x).bind fun a => fieldP P t a f)
  | .indexAddr t x i => pure1 ((ev x).bind fun a => (ev i).bind fun n => indexAddrP P t a n)
  | .index t x i => pure1 ((ev x).bind fun a => (ev i).bind fun n => indexP P t a n)
  | .extract x i => pure1 ((ev x).bind fun a => match a with | .tup vs => vs[i]? | _ => none)
  | .call { callee := .builtin b, args, argTypes } =>
    (mapO ev args.toList).bind fun as =>
    match b, as with
    | .len, [a] => (argTypes[0]?).bind fun t => pure1 (lenP P t a)
    | .append, [a, b] => (argTypes[0]?).bind fun t => (argTypes[1]?).bind fun t2 => appendP P H t t2 a b
    | .copy, [a, b] => (argTypes[0]?).bind fun t => copyP P H t a b
    | .min, as => pure1 (minMaxP false as)
    | .max, as => pure1 (minMaxP true as)
    | _, _ => none
  | _ => none

/-- A call of a Go function: which, on what. -/
def calleeP (ts : List PV) (op : Op) : Option (Nat × List PV) :=
  match op with
  | .call { callee := .value f, args, argTypes := _ } =>
    (evalO ts f).bind fun f => (mapO (evalO ts) args.toList).bind fun as =>
    match f with
    | .fn f cap => some (f, as ++ cap)
    | _ => none
  | _ => none

def isCall (op : Op) : Bool := match op with
  | .call { callee := .value _, args := _, argTypes := _ } => true
  | _ => false

def chunks (sz : Nat) : Nat → List PV → List (List PV)
  | 0, _ => []
  | n + 1, l => l.take sz :: chunks sz n (l.drop sz)

/-- A value out of the frame D that ends: its own slices become trees. -/
def reify (H : Heap) (D : Nat) : Nat → PV → Option PV
  | 0, _ => none
  | k + 1, v => match v with
    | .ref d i u off hi => if d < D then some (.ref d i u off hi) else none
    | .sl d i u off len sz lim =>
      if d < D then some (.sl d i u off len sz lim) else
      (getO H d i).bind fun o =>
      if o.lo ≤ u ∧ u ≤ o.ver ∧ 0 < sz ∧ off + len * sz ≤ o.cells.length then
        (mapO (mapO (reify H D k)) (chunks sz len (o.cells.drop off))).map fun es => .tree es lim
      else none
    | .tree es lim => (mapO (mapO (reify H D k)) es).map fun es => .tree es lim
    | .agg cs => (mapO (reify H D k) cs).map .agg
    | .tup vs => (mapO (reify H D k) vs).map .tup
    | .fn f c => (mapO (reify H D k) c).map (.fn f)
    | .tptr _ => none
    | v => some v

inductive Ctl where
  | norm
  | exit (id : Nat)
  | ret
  deriving DecidableEq

structure Cfg where
  P : Program
  inl : Nat → Bool
  orc : Nat → Option (List PV → Option PV)
  deep : Nat

def wantedP (o : Oper) (ops : Array Oper) (ts : List PV) : Bool :=
  match o.guard with
  | none => true
  | some (j, want) => match ((ops[j]?).bind (·.dst)).bind (fun t => ts[t]?) with
    | some (.bool b) => b == want
    | _ => false

def putP (ts : List PV) (dst : Option Nat) (v : PV) : List PV := match dst with
  | some d => ts.set d v
  | none => ts

def resultP (P : Program) (H : Heap) (ts : List PV) : ResultVar → Option PV
  | .tmp t => some ((ts[t]?).getD undefP)
  | .cell a t => loadP P H t ((ts[a]?).getD undefP)

def resultsP (P : Program) (fn : Func) (H : Heap) (ts : List PV) : Option PV :=
  (mapO (resultP P H ts) fn.results.toList).map fun vs => match vs with
    | [v] => v
    | vs => .tup vs

structure St where
  ts : List PV
  H : Heap
  wr : Wr

/-- The operations on which an operation waits, in whatever order is drawn. -/
def deps (o : Oper) : List Nat := o.after.toList.filterMap fun e => if Region.binds .any e then some e.on else none
/-- For each operation: which stand before it in every order. -/
def befs (ops : List Oper) : List (List Nat) :=
  ops.foldl (fun acc o => acc ++ [(List.range acc.length).filter fun i => (deps o).any fun d => d == i || (acc.getD d []).contains i]) []
def namesOf (ops : List Oper) (o : Oper) : List Nat :=
  (o.op.operands.toList.filterMap fun | .tmp t => some t | _ => none) ++
  (match o.guard with
   | some (g, _) => ((ops[g]?).bind (·.dst)).toList
   | none => [])
def fullB (x : List Nat × Nat) : Bool := decide (x.1.length = x.2)
/-- Where the operations begin each of which stands behind all before it. -/
def headLen (bs : List (List Nat)) : Nat := bs.length - (bs.zipIdx.reverse.takeWhile fullB).length
/-- May the region be run in the order of its text, whatever order is drawn? By the region's text alone. -/
def drawOk (ops : List Oper) (bs : List (List Nat)) : Bool :=
  ops.zipIdx.all fun (o, j) =>
    (deps o).all (fun d => decide (d < j)) &&
    (ops.zipIdx.all fun (o', i) => match o'.dst with
      | none => true
      | some d => i == j || (o.dst != some d && (!(namesOf ops o).contains d || (bs.getD j []).contains i || (bs.getD i []).contains j)))

/-- An operation that moves a slot's value, and asks for nothing. -/
def slotOp (o : Oper) : Bool := o.guard.isNone && (match o.op with
  | .move _ => true
  | .assign _ => true
  | _ => false)
/-- The first so many operations are done. -/
def pl (n i : Nat) : Array Bool := ((List.range n).map fun j => decide (j < i)).toArray
/-- So many operations at the region's beginning only move slots, and may as well be done first. -/
def slotN (ops : Array Oper) : Nat :=
  let q := (ops.toList.takeWhile slotOp).length
  if Region.noSelect ops = true ∧ ((List.range q).all fun i => Region.free .any ops (pl ops.size i) i && (Region.ready .any ops (pl ops.size i)).contains i) = true then q else 0
def edges (q : Nat) : Array Edge := ((List.range q).map fun i => ({ on := i, ground := .data } : Edge)).toArray
/-- The region in which all others wait for those. -/
def edged (ops : Array Oper) : Array Oper :=
  let q := slotN ops
  (ops.toList.zipIdx.map fun (o, j) => if j < q then o else { o with after := o.after ++ edges q }).toArray
/-- An operation that gives a slot's value, or a part of it. -/
def slot2 (o : Oper) : Bool := o.guard.isNone && (match o.op with
  | .move _ => true
  | .assign _ => true
  | .extract _ _ => true
  | _ => false)
/-- The operations that may be done as soon as they are ready. -/
def earlyB (ops : Array Oper) (i : Nat) : Bool := match ops[i]? with
  | some o => slot2 o && (List.range ops.size).all fun j => j == i || ((befs ops.toList).getD i []).contains j || match ops[j]? with
      | some oj => oj.after.any (fun e => Region.binds .any e && e.on == i) || o.apart ops oj
      | none => true
  | none => false
def depsIn (ops : Array Oper) (row : List Nat) (i : Nat) : Bool := match ops[i]? with
  | some o => (deps o).all fun d => row.contains d
  | none => false
/-- The early ones for which a later one may as well wait. -/
def late (ops : Array Oper) (es : List Nat) (bs : List (List Nat)) (j : Nat) : List Nat :=
  if es.contains j then [] else es.filter fun i => decide (i < j) && depsIn ops (bs.getD j []) i
def edged2 (ops : Array Oper) : Array Oper :=
  if Region.noSelect ops = true then
    (ops.toList.zipIdx.map fun (o, j) => { o with after := o.after ++ ((late ops ((List.range ops.size).filter (earlyB ops)) (befs ops.toList) j).map fun i => ({ on := i, ground := .data } : Edge)).toArray }).toArray
  else ops
def dOk (ops : Array Oper) : Bool := drawOk (edged2 (edged ops)).toList (befs (edged2 (edged ops)).toList)
def dHd (ops : Array Oper) : Nat := headLen (befs (edged2 (edged ops)).toList)

mutual
def call (C : Cfg) : Nat → Nat → List PV → Heap → Option (PV × Heap × Wr)
  | 0, _, _, _ => none
  | k + 1, f, args, H =>
    match C.orc f with
    | some g => (g args).map fun v => (v, H, [])
    | none =>
      (C.P.funcs[f]?).bind fun fn => fn.body.bind fun c =>
      if fn.name == "runtime.NumGoroutine" then none else
      if C.inl f = true ∧ H ≠ [] then
        (exec C k (curN H) c ⟨args ++ List.replicate (fn.ntmps - args.length) undefP, H, []⟩).bind fun (e, st) =>
        match e with
        | .exit _ => none
        | _ => (resultsP C.P fn st.H st.ts).map fun v => (v, st.H, st.wr)
      else
        (exec C k 0 c ⟨args ++ List.replicate (fn.ntmps - args.length) undefP, [] :: H, []⟩).bind fun (e, st) =>
        match e with
        | .exit _ => none
        | _ => (resultsP C.P fn st.H st.ts).bind fun v => (reify st.H H.length C.deep v).map fun v => (v, st.H.tail, st.wr)
def exec (C : Cfg) : Nat → Nat → Code → St → Option (Ctl × St)
  | 0, _, _, _ => none
  | k + 1, m, c, st =>
    match c with
    | .skip => some (.norm, st)
    | .label _ => some (.norm, st)
    | .seq a b => (exec C k m a st).bind fun (e, st') => match e with
      | .norm => exec C k m b st'
      | e => some (e, st')
    | .cond c a b => match evalO st.ts c with
      | some (.bool true) => exec C k m a st
      | some (.bool false) => exec C k m b st
      | _ => none
    | .block id b => (exec C k m b st).map fun (e, st') => match e with
      | .exit j => (if j = id then .norm else .exit j, st')
      | e => (e, st')
    | .loop b => (exec C k m b st).bind fun (e, st') => match e with
      | .norm => exec C k m (.loop b) st'
      | e => some (e, st')
    | .exit id => some (.exit id, st)
    | .ret => some (.ret, st)
    | .region _ ops draw =>
      if draw = true ∧ dOk ops = false then none else
      (runOps C k m (if draw then dHd ops else 0) ops (List.range ops.size) st).map fun st => (.norm, st)
    | _ => none
def runOps (C : Cfg) : Nat → Nat → Nat → Array Oper → List Nat → St → Option St
  | 0, _, _, _, _, _ => none
  | _ + 1, _, _, _, [], st => some st
  | k + 1, m, h, ops, i :: rest, st =>
    match ops[i]? with
    | none => none
    | some o =>
      if wantedP o ops st.ts then
        (match calleeP st.ts o.op with
          | some (f, as) => call C k f as st.H
          | none => opP C.P st.ts st.H o.op).bind fun (v, H', d) =>
        if i < h ∧ d ≠ [] then none else
        runOps C k m h ops rest ⟨putP st.ts o.dst v, H', addWs (curD st.H) m st.wr d⟩
      else runOps C k m h ops rest { st with ts := putP st.ts o.dst undefP }
end

end Go.Proofs.YtbcmiddffckgmaaDoor.Am
