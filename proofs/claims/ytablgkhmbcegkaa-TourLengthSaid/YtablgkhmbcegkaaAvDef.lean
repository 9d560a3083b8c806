/- DEFINITIONS of a plain evaluator over the translated code: values are trees ('AV'), memory that a call makes is a list of rows. It states no theorem; what the evaluator means for the model is proved in the texts that import this one. -/
import Derived.WalkKit
namespace Go.Av

/-- Values as trees. ptr: a place in a row of the running call's own (row, version, element, cell); eptr: a place in memory that does not change; vnil: the nil slice; vec: a slice of memory that does not change (full: there is no room behind its length; es: cells of an element); row: a whole row of the call's own; ref: a part of one. -/
inductive AV where
  | any
  | bool (b : Bool)
  | int (k : IntKind) (n : Int)
  | str (s : List UInt8)
  | agg (cs : List AV)
  | tup (vs : List AV)
  | nilp
  | ptr (r ver i j : Nat)
  | eptr (es : Nat) (xs : List AV) (i j : Nat)
  | vnil
  | vec (full : Bool) (es : Nat) (xs : List AV)
  | row (r ver : Nat)
  | ref (r ver lo len : Nat)
  | func (fn : Fn) (first captured : List AV)
  | nilf
  deriving Inhabited

/-- A row of memory of the running call's own. frozen: its elements do not change any more (it may still grow); clean: no element leads into a row of the call's own. -/
structure Row where
  elems : List AV
  es : Nat
  ver : Nat
  frozen : Bool
  clean : Bool

abbrev Heap := List Row
/-- What must hold for an operation to have been done: temporary d holds the bool w. -/
abbrev Chain := List (Nat × Bool)
/-- The temporaries, the newest first; each with the condition under which it was set. -/
abbrev Env := List (Nat × Chain × AV)
/-- The temporaries between two regions. -/
abbrev Vars := List (Nat × AV)

def AV.cells : AV → List AV
  | .agg cs => cs
  | v => [v]

/-- Fit for a cell of memory. -/
def AV.plain : AV → Bool
  | .any | .agg _ | .tup _ => false
  | _ => true

/-- Something is known of it. -/
def AV.known : AV → Bool
  | .any => false
  | _ => true

mutual
/-- Leads into no row of the running call's own. -/
def AV.clean : AV → Bool
  | .any | .ptr .. | .row .. | .ref .. => false
  | .agg cs => cleanL cs
  | .tup cs => cleanL cs
  | .func _ a b => cleanL a && cleanL b
  | _ => true
def cleanL : List AV → Bool
  | [] => true
  | c :: r => c.clean && cleanL r
end

mutual
/-- Holds no slice and no pointer at all. -/
def AV.scalar : AV → Bool
  | .bool _ | .int _ _ | .str _ | .nilp | .vnil | .nilf => true
  | .agg cs => scalarL cs
  | .tup cs => scalarL cs
  | _ => false
def scalarL : List AV → Bool
  | [] => true
  | c :: r => c.scalar && scalarL r
end

def Env.get : Env → Nat → Chain × AV
  | [], _ => ([], .any)
  | (k, c) :: r, t => bif k == t then c else Env.get r t

def Vars.get : Vars → Nat → AV
  | [], _ => .any
  | (k, c) :: r, t => bif k == t then c else Vars.get r t

def Chain.sub (a b : Chain) : Bool := a.all fun x => b.any fun y => x.1 == y.1 && x.2 == y.2

def ofC0 : Value → AV
  | .bool b => .bool b
  | .int k n => .int k n
  | .string s => .str s.data.toList
  | .pointer none => .nilp
  | .slice none 0 0 => .vnil
  | .nilFunc => .nilf
  | _ => .any
def ofC : Value → AV
  | .agg cs => .agg (cs.toList.map ofC0)
  | .tuple vs => if vs.size = 0 then .tup [] else .any
  | v => ofC0 v

/-- The truth of a chain, by the values that stand in the temporaries. -/
def chainVal (env : Env) : Chain → Bool
  | [] => true
  | x :: r => (match (env.get x.1).2 with
    | .bool b => b == x.2
    | _ => false) && chainVal env r

/-- An operand where the conditions of c hold. -/
def ev (env : Env) (c : Chain) : Operand → AV
  | .tmp t => bif Chain.sub (env.get t).1 c then (env.get t).2 else .any
  | .const v => ofC v
  | .global _ => .any
  | .func f => .func (.func f) [] []

def evV (env : Vars) : Operand → AV
  | .tmp t => env.get t
  | .const v => ofC v
  | .global _ => .any
  | .func f => .func (.func f) [] []

/-- A call that was answered: where 'cond' holds, f at args gives v. own: the callee works on the caller's rows. -/
structure CF where
  cond : Bool
  own : Bool
  f : FuncId
  args : List AV
  L : Heap
  v : AV
  L' : Heap

/-- What an operation gives: its value, the memory where it has changed, and under which checks, equations and answered calls. -/
structure SR where
  v : AV
  L' : Option Heap := none
  asm : List Bool := []
  eqs : List Prop := []
  calls : List CF := []

section
variable (P : Unit → Program)

/-- What a variable of type T holds whose cells begin at 'j' among 'cs'. -/
def partA (T : TypeId) (cs : List AV) (j : Nat) : Option AV :=
  match (P ()).info? T with
  | none => none
  | some i =>
    match (P ()).underlying T with
    | some (.struct _) | some (.array _ _) => if j + i.size ≤ cs.length then some (.agg ((cs.drop j).take i.size)) else none
    | some _ => cs[j]?
    | none => none

def zeroA (T : TypeId) : Option AV :=
  match (P ()).info? T with
  | some i => i.zero.map ofC
  | none => none

/-- How an element of a list is found: as it stands there, or as it is given (then an equation is owed). -/
def elemA (el : Option AV) (xs : List AV) (i : Nat) : Option (AV × List Prop) :=
  match el with
  | some x => some (x, [xs[i]? = some x])
  | none => match xs[i]? with
    | some x => some (x, [])
    | none => none

def loadA (el : Option AV) (L : Heap) (T : TypeId) : AV → Option SR
  | .ptr r ver i j =>
    match L[r]? with
    | some row =>
        match elemA el row.elems i with
        | some (x, q) => match partA P T x.cells j with
          | some v => some { v, eqs := q, asm := [row.ver == ver] }
          | none => none
        | none => none
    | none => none
  | .eptr _ xs i j =>
    match elemA el xs i with
    | some (x, q) => match partA P T x.cells j with
      | some v => some { v, eqs := q }
      | none => none
    | none => none
  | _ => none

/-- The element x with the cells from j on replaced. -/
def putCells (x : AV) (j : Nat) (vs : List AV) : Option AV :=
  match x with
  | .agg cs => if j + vs.length ≤ cs.length then some (.agg (cs.take j ++ (vs ++ cs.drop (j + vs.length)))) else none
  | _ => match j, vs with
    | 0, [v] => some v
    | _, _ => none

def storeA (el : Option AV) (L : Heap) (T : TypeId) (p v : AV) : Option SR :=
  match p with
  | .ptr r ver i j =>
    match L[r]? with
    | some row => if row.frozen = false then
        match elemA el row.elems i with
        | some (x, q) =>
          if v.cells.all AV.plain = true ∧ (P ()).cellsOf T = v.cells.length ∧ (P ()).info? T ≠ none ∧ (row.clean = true → cleanL v.cells = true) then
            match putCells x j v.cells with
            | some y => some { v := .tup [], L' := some (L.set r { row with elems := row.elems.set i y }), eqs := q, asm := [row.ver == ver] }
            | none => none
          else none
        | none => none
      else none
    | none => none
  | _ => none

def wrapA (k : IntKind) (n : Int) : AV := .int k (k.wrap n)

def intBin (op : BinOp) (k : IntKind) (x y : Int) : Option SR :=
  match op with
  | .add => some { v := wrapA k (x + y) }
  | .sub => some { v := wrapA k (x - y) }
  | .mul => some { v := wrapA k (x * y) }
  | .quo => some { v := wrapA k (x.tdiv y), asm := [!(y == 0)] }
  | .rem => some { v := .int k (x.tmod y), asm := [!(y == 0)] }
  | .eql => some { v := .bool (x == y) }
  | .neq => some { v := .bool (x != y) }
  | .lss => some { v := .bool (decide (x < y)) }
  | .leq => some { v := .bool (decide (x ≤ y)) }
  | .gtr => some { v := .bool (decide (x > y)) }
  | .geq => some { v := .bool (decide (x ≥ y)) }
  | .and => some { v := wrapA k ((BitVec.ofInt k.bits x &&& BitVec.ofInt k.bits y).toNat) }
  | .or => some { v := wrapA k ((BitVec.ofInt k.bits x ||| BitVec.ofInt k.bits y).toNat) }
  | .xor => some { v := wrapA k ((BitVec.ofInt k.bits x ^^^ BitVec.ofInt k.bits y).toNat) }
  | .andNot => some { v := wrapA k ((BitVec.ofInt k.bits x &&& ~~~ BitVec.ofInt k.bits y).toNat) }
  | _ => none

def strBin (op : BinOp) (x y : List UInt8) : Option SR :=
  match op with
  | .add => some { v := .str (x ++ y), asm := [decide (x.length + y.length ≤ 1099511627776)] }
  | .eql => some { v := .bool (x == y) }
  | .neq => some { v := .bool (!(x == y)) }
  | .lss => some { v := .bool (Op.bytesLess x y) }
  | .leq => some { v := .bool (Op.bytesLess x y || x == y) }
  | .gtr => some { v := .bool (!(Op.bytesLess x y || x == y)) }
  | .geq => some { v := .bool (!Op.bytesLess x y) }
  | _ => none

/-- All fields of a struct are equal. -/
def eqFields (eq : TypeId → AV → AV → Option Bool) (xs ys : List AV) : List Field → Option Bool
  | [] => some true
  | f :: r =>
    if f.name = "_" then eqFields eq xs ys r
    else match partA P f.type xs f.offset, partA P f.type ys f.offset with
      | some a, some b => match eq f.type a b, eqFields eq xs ys r with
        | some x, some y => some (x && y)
        | _, _ => none
      | _, _ => none

def eqA : Nat → TypeId → AV → AV → Option Bool
  | 0, _, _, _ => none
  | d + 1, T, x, y =>
    match (P ()).underlying T, x, y with
    | some .bool, .bool a, .bool b => some (a == b)
    | some (.int _), .int k a, .int k' b => if k = k' then some (a == b) else none
    | some .string, .str a, .str b => some (a == b)
    | some (.struct fields), .agg xs, .agg ys => if (P ()).stoodInHeld T then none else eqFields P (eqA d) xs ys fields.toList
    | some (.slice _), .vnil, .vnil => some true
    | some (.slice _), .vnil, .vec _ _ (_ :: _) => some false
    | some (.slice _), .vnil, .row _ _ => some false
    | some (.slice _), .vec _ _ (_ :: _), .vnil => some false
    | some (.slice _), .row _ _, .vnil => some false
    | some (.pointer _), .nilp, .nilp => some true
    | some (.func _ _ _), .nilf, .nilf => some true
    | some (.func _ _ _), .nilf, .func _ _ _ => some false
    | some (.func _ _ _), .func _ _ _, .nilf => some false
    | _, _, _ => none

/-- Whether == of this type may panic. -/
def guardT : Nat → TypeId → Bool
  | 0, _ => true
  | d + 1, t =>
    match (P ()).underlying t with
    | some (.interface ms) => !ms.toList.isEmpty
    | some (.struct fs) => fs.toList.any fun f => f.name != "_" && guardT d f.type
    | some (.array _ e) => guardT d e
    | _ => false

/-- No guard of '==' speaks at this type. -/
def guardFree (x y : AV) (T : TypeId) : Bool :=
  match x, y with
  | .agg _, .agg _ => !guardT P (P ()).depth T
  | _, _ => true

def quiet (x : Option AV) : Option SR :=
  match x with
  | some v => some { v }
  | none => none

def binA (op : BinOp) (T : TypeId) (x y : AV) : Option SR :=
  match op, x, y with
  | .shl, .int k a, .int _ b => some { v := wrapA k (a * 2 ^ (min b.toNat k.bits)), asm := [decide (0 ≤ b)] }
  | .shr, .int k a, .int _ b => some { v := .int k (a.fdiv (2 ^ (min b.toNat k.bits))), asm := [decide (0 ≤ b)] }
  | op, .int k a, .int k' b => if k = k' then intBin op k a b else none
  | op, .str a, .str b => strBin op a b
  | .eql, x, y => if guardFree P x y T then quiet ((eqA P Op.maxDepth T x y).map .bool) else none
  | .neq, x, y => if guardFree P x y T then quiet ((eqA P Op.maxDepth T x y).map (fun b => .bool (!b))) else none
  | _, _, _ => none

def unA (op : UnOp) (x : AV) : Option AV :=
  match op, x with
  | .neg, .int k n => some (wrapA k (0 - n))
  | .xor, .int k n => some (wrapA k ((BitVec.ofInt k.bits (if k.signed then -1 else k.max) ^^^ BitVec.ofInt k.bits n).toNat))
  | .not, .bool b => some (.bool (!b))
  | _, _ => none

def convA (src dst : TypeId) (x : AV) : Option AV :=
  match (P ()).underlying src, (P ()).underlying dst, x with
  | some _, some (.int k), .int _ n => some (wrapA k n)
  | some _, some .string, .int _ n => some (.str (Utf8.encode n).data.toList)
  | some _, some .string, .str s => some (.str s)
  | _, _, _ => none

/-- The parts laid into cells. -/
def fillA (place : Nat → Option (Nat × Nat)) (cells : List AV) : List (Nat × AV) → Option (List AV)
  | [] => some cells
  | (i, v) :: rest =>
    match place i with
    | none => none
    | some (off, size) =>
      if v.known = true ∧ v.cells.length = size ∧ off + size ≤ cells.length then fillA place (cells.take off ++ (v.cells ++ cells.drop (off + size))) rest
      else none

def places : List Field → Option (List (Nat × Nat))
  | [] => some []
  | f :: r => match (P ()).info? f.type, places r with
    | some i, some q => some ((f.offset, i.size) :: q)
    | _, _ => none

def buildA (T : TypeId) (parts : List (Nat × AV)) : Option AV :=
  match zeroA P T, (P ()).underlying T with
  | some z, some (.struct fields) =>
    match z.known, places P fields.toList with
    | true, some pl => (fillA (pl[·]?) z.cells parts).map .agg
    | _, _ => none
  | some z, some (.array _ elem) =>
    match z.known, (P ()).info? elem with
    | true, some i => (fillA (fun k => some (k * i.size, i.size)) z.cells parts).map .agg
    | _, _ => none
  | _, _ => none

mutual
/-- A row's slices, read as memory that does not change: only where the row is clean. -/
def pureA (L : Heap) : AV → Option AV
  | .row r _ => match L[r]? with
    | some row => if row.clean = true then some (.vec false row.es row.elems) else none
    | none => none
  | .ref r _ lo len => match L[r]? with
    | some row => if row.clean = true then some (.vec false row.es ((row.elems.drop lo).take len)) else none
    | none => none
  | .any => none
  | .ptr r _ i j => match L[r]? with
    | some row =>
        match row.elems with
        | [x] => if x.clean = true then some (.eptr row.es [x] i j) else none
        | _ => none
    | none => none
  | .agg cs => match pureL L cs with
    | some ds => some (.agg ds)
    | none => none
  | .tup cs => match pureL L cs with
    | some ds => some (.tup ds)
    | none => none
  | .func fn a b => match pureL L a, pureL L b with
    | some a', some b' => some (.func fn a' b')
    | _, _ => none
  | v => some v
def pureL (L : Heap) : List AV → Option (List AV)
  | [] => some []
  | c :: r => match pureA L c, pureL L r with
    | some d, some ds => some (d :: ds)
    | _, _ => none
end

mutual
/-- The rows to which a value leads. -/
def rowsA : AV → List Nat
  | .row r _ => [r]
  | .ref r _ _ _ => [r]
  | .ptr r _ _ _ => [r]
  | .agg cs => rowsL cs
  | .tup cs => rowsL cs
  | .func _ a b => rowsL a ++ rowsL b
  | _ => []
def rowsL : List AV → List Nat
  | [] => []
  | c :: r => rowsA c ++ rowsL r
end

/-- The version of a row is that of the reference. -/
def verOk (L : Heap) (r ver : Nat) : Bool :=
  match L[r]? with
  | some row => row.ver == ver
  | none => false

mutual
/-- All references in a value are the rows' newest. -/
def versA (L : Heap) : AV → List Bool
  | .row r v => [verOk L r v]
  | .ref r v _ _ => [verOk L r v]
  | .ptr r v _ _ => [verOk L r v]
  | .agg cs => versL L cs
  | .tup cs => versL L cs
  | .func _ a b => versL L a ++ versL L b
  | _ => []
def versL (L : Heap) : List AV → List Bool
  | [] => []
  | c :: r => versA L c ++ versL L r
end

def freeze (rs : List Nat) (L : Heap) : Heap :=
  rs.foldl (fun L r => match L[r]? with
    | some row => L.set r { row with frozen := true }
    | none => L) L

/-- The elements of a slice that is written out. -/
def setAll (size : Nat) (xs : List AV) : List (Nat × AV) → Option (List AV)
  | [] => some xs
  | (i, v) :: rest => if v.cells.length = size ∧ i < xs.length ∧ v.cells.all AV.plain = true then setAll size (xs.set i v) rest else none

/-- A slice that is written out: of memory that does not change; rows of the call's own among its parts are frozen. keep: a row of the call's own instead. -/
def buildSliceA (keep : Bool) (L : Heap) (T : TypeId) (len : Nat) (parts : List (Nat × AV)) : Option SR :=
  match (P ()).underlying T with
  | some (.slice elem) =>
    match (P ()).info? elem with
    | some i =>
      if len = 0 then (match parts with | [] => some { v := .vec true i.size [] } | _ => none) else
      match i.zero with
      | some z0 =>
        if len * i.size ≤ 16777216 ∧ (ofC z0).cells.length = i.size ∧ z0.cells.size = i.size ∧ 0 < i.size ∧ (ofC z0).cells.all AV.plain = true ∧ cleanL (ofC z0).cells = true then
          match setAll i.size (List.replicate len (ofC z0)) parts with
          | some xs =>
            bif keep then some { v := .row L.length 0, L' := some (L ++ [⟨xs, i.size, 0, false, cleanL xs⟩]) }
            else match pureL L xs with
            | some ys => match rowsL xs with
              | [] => some { v := .vec true i.size ys }
              | rs => some { v := .vec true i.size ys, L' := some (freeze rs L), asm := versL L xs }
            | none => none
          | none => none
        else none
      | none => none
    | none => none
  | _ => none

def fieldAddrA (T : TypeId) (p : AV) (field : Nat) : Option AV :=
  match (P ()).underlying T with
  | some (.struct fields) =>
    match fields[field]? with
    | some f =>
      match (P ()).info? f.type with
      | none => none
      | some i => if i.size = 0 then none else match p with
        | .ptr r ver i j => some (.ptr r ver i (j + f.offset))
        | .eptr es xs i j => some (.eptr es xs i (j + f.offset))
        | _ => none
    | none => none
  | _ => none

def fieldA (T : TypeId) (x : AV) (field : Nat) : Option AV :=
  match (P ()).underlying T with
  | some (.struct fields) =>
    match fields[field]? with
    | some f => match x with
      | .agg cs => partA P f.type cs f.offset
      | _ => none
    | none => none
  | _ => none

def indexAddrA (L : Heap) (T : TypeId) (x i : AV) : Option SR :=
  match (P ()).underlying T, x, i with
  | some (.slice e), .vec _ es xs, .int _ n =>
    match (P ()).info? e with
    | some i => if es = i.size then some { v := .eptr es xs n.toNat 0, asm := [decide (0 ≤ n), decide (n.toNat < xs.length)] } else none
    | none => none
  | some (.slice e), .row r ver, .int _ n =>
    match L[r]?, (P ()).info? e with
    | some row, some i =>
      if row.es = i.size then some { v := .ptr r ver n.toNat 0, asm := [row.ver == ver, decide (0 ≤ n), decide (n.toNat < row.elems.length)] } else none
    | _, _ => none
  | some (.slice e), .ref r ver lo len, .int _ n =>
    match L[r]?, (P ()).info? e with
    | some row, some i =>
      if row.es = i.size then some { v := .ptr r ver (lo + n.toNat) 0, asm := [row.ver == ver, decide (0 ≤ n), decide (n.toNat < len)] } else none
    | _, _ => none
  | some (.array len e), .ptr r ver i j, .int _ n =>
    match (P ()).info? e with
    | some q => some { v := .ptr r ver i (j + n.toNat * q.size), asm := [decide (0 ≤ n), decide (n < len)] }
    | none => none
  | some (.array len e), .eptr es xs i j, .int _ n =>
    match (P ()).info? e with
    | some q => some { v := .eptr es xs i (j + n.toNat * q.size), asm := [decide (0 ≤ n), decide (n < len)] }
    | none => none
  | _, _, _ => none

def indexA (T : TypeId) (x i : AV) : Option SR :=
  match (P ()).underlying T, x, i with
  | some (.array len e), .agg cs, .int _ n =>
    match (P ()).info? e with
    | some q => match partA P e cs (n.toNat * q.size) with
      | some v => some { v, asm := [decide (0 ≤ n), decide (n < len)] }
      | none => none
    | none => none
  | some .string, .str s, .int _ n => some { v := .int .u8 (s.getD n.toNat 0).toNat, asm := [decide (0 ≤ n), decide (n.toNat < s.length)] }
  | _, _, _ => none

/-- A bound of a slice expression, and whether it is one. -/
def bound (dflt : Nat) : Option AV → Option (Nat × List Bool)
  | none => some (dflt, [])
  | some (.int _ n) => some (n.toNat, [decide (0 ≤ n)])
  | some _ => none

/-- x[lo:hi], x[lo:hi:max], of strings and slices. -/
def sliceA (L : Heap) (T : TypeId) (x : AV) (lo hi mx : Option AV) : Option SR :=
  match (P ()).underlying T, x with
  | some .string, .str s =>
    match mx, bound 0 lo, bound s.length hi with
    | none, some (l, p), some (h, q) => some { v := .str ((s.take h).drop l), asm := p ++ q ++ [decide (l ≤ h), decide (h ≤ s.length)] }
    | _, _, _ => none
  | some (.slice e), .vnil =>
    match (P ()).info? e, bound 0 lo, bound 0 hi, bound 0 mx with
    | some _, some (l, p), some (h, q), some (m, u) => some { v := .vnil, asm := p ++ q ++ u ++ [l == 0, h == 0, m == 0, mx.isNone || hi.isSome] }
    | _, _, _, _ => none
  | some (.slice e), .vec f es xs =>
    match (P ()).info? e with
    | some i => if es = i.size then
        match bound 0 lo, bound xs.length hi with
        | some (l, p), some (h, q) =>
          match mx with
          | none => some { v := .vec (f && hi.isNone) es ((xs.take h).drop l), asm := p ++ q ++ [decide (l ≤ h), decide (h ≤ xs.length)] }
          | some (.int _ m) => some { v := .vec true es ((xs.take h).drop l), asm := p ++ q ++ [decide (l ≤ h), decide (h ≤ xs.length), m == h, hi.isSome] }
          | some _ => none
        | _, _ => none
      else none
    | none => none
  | some (.slice e), .row r ver =>
    match L[r]?, (P ()).info? e with
    | some row, some i =>
      if row.es = i.size then
        match bound 0 lo, bound row.elems.length hi with
        | some (l, p), some (h, q) =>
          match mx with
          | none => some { v := .ref r ver l (h - l), asm := (row.ver == ver) :: p ++ q ++ [decide (l ≤ h), decide (h ≤ row.elems.length)] }
          | some (.int _ m) => some { v := .vec true row.es [], asm := (row.ver == ver) :: p ++ q ++ [l == h, decide (h ≤ row.elems.length), m == h, hi.isSome] }
          | some _ => none
        | _, _ => none
      else none
    | _, _ => none
  | some (.slice e), .ref r ver low len =>
    match L[r]?, (P ()).info? e with
    | some row, some i =>
      if row.es = i.size then
        match bound 0 lo, bound len hi with
        | some (l, p), some (h, q) =>
          match mx with
          | none => some { v := .ref r ver (low + l) (h - l), asm := (row.ver == ver) :: p ++ q ++ [decide (l ≤ h), decide (h ≤ len)] }
          | some (.int _ m) => some { v := .vec true row.es [], asm := (row.ver == ver) :: p ++ q ++ [l == h, decide (h ≤ len), m == h, hi.isSome] }
          | some _ => none
        | _, _ => none
      else none
    | _, _ => none
  | _, _ => none

/-- What a slice (or a string, for append) holds, whether it leads into no row, and the checks. -/
def contentA (L : Heap) (size : Nat) : AV → Option (List AV × Bool × List Bool)
  | .vnil => some ([], true, [])
  | .vec _ es xs => if es = size then some (xs, true, []) else none
  | .row r ver =>
    match L[r]? with
    | some row => if row.es = size then some (row.elems, row.clean, [row.ver == ver]) else none
    | none => none
  | .ref r ver lo len =>
    match L[r]? with
    | some row => if row.es = size then some ((row.elems.drop lo).take len, row.clean, [row.ver == ver]) else none
    | none => none
  | .str s => if size = 1 then some (s.map fun b => .int .u8 b.toNat, true, []) else none
  | _ => none

/-- append(s, x...). same: the answer that x is empty (none: as it stands there). -/
def appendA (L : Heap) (T : TypeId) (s x : AV) : Option SR :=
  match (P ()).underlying T with
  | some (.slice e) =>
    match (P ()).info? e with
    | some i =>
      if 0 < i.size ∧ 0 < i.bytes ∧ (i.zero.map fun z => z.cells.size) = some i.size then
        match contentA L i.size x with
        | some (ys, cl, q) =>
          match s with
          | .vnil => match ys with
            | [] => some { v := .vnil, asm := q }
            | y :: ys => some { v := .row L.length 0, L' := some (L ++ [⟨y :: ys, i.size, 0, false, cl⟩]), asm := q ++ [decide ((y :: ys).length * i.bytes ≤ 1099511627776)] }
          | .vec true es xs =>
            if es = i.size then match ys with
              | [] => some { v := .vec true es xs, asm := q }
              | y :: ys => some { v := .row L.length 0, L' := some (L ++ [⟨xs ++ y :: ys, i.size, 0, false, cl⟩]), asm := q ++ [decide ((xs.length + (y :: ys).length) * i.bytes ≤ 1099511627776)] }
            else none
          | .row r ver =>
            match L[r]? with
            | some row =>
              if row.es = i.size then
                some { v := .row r (ver + 1), L' := some (L.set r ⟨row.elems ++ ys, row.es, ver + 1, row.frozen, row.clean && cl⟩), asm := (row.ver == ver) :: q ++ [decide ((row.elems.length + ys.length) * i.bytes ≤ 1099511627776)] }
              else none
            | none => none
          | .ref r ver lo len =>
            match L[r]? with
            | some row =>
              if row.es = i.size ∧ row.frozen = false then
                match ys with
                | [] => some { v := .ref r ver lo len, asm := (row.ver == ver) :: q }
                | y :: ys => some { v := .row r (ver + 1), L' := some (L.set r ⟨(row.elems.drop lo).take len ++ y :: ys, row.es, ver + 1, false, row.clean && cl⟩), asm := (row.ver == ver) :: q ++ [decide ((len + (y :: ys).length) * i.bytes ≤ 1099511627776)] }
              else none
            | none => none
          | _ => none
        | none => none
      else none
    | none => none
  | _ => none

/-- A part of a row of the call's own, as a place and a length. -/
def spanA (L : Heap) : AV → Option (Nat × Nat × Nat × Nat)
  | .row r ver => match L[r]? with
    | some row => some (r, ver, 0, row.elems.length)
    | none => none
  | .ref r ver lo len => some (r, ver, lo, len)
  | _ => none

/-- Elements of a row from 'lo' on overwritten. -/
def overwrite (L : Heap) (r lo : Nat) (size : Nat) (zs : List AV) (cl : Bool) : Option Heap :=
  match L[r]? with
  | some row =>
    if row.frozen = false ∧ row.es = size ∧ (row.clean = true → cl = true) then
      some (L.set r { row with elems := row.elems.take lo ++ (zs ++ row.elems.drop (lo + zs.length)) })
    else none
  | none => none

def clearA (L : Heap) (T : TypeId) (d : AV) : Option SR :=
  match (P ()).underlying T with
  | some (.slice e) =>
    match (P ()).info? e with
    | some i =>
      match i.zero, spanA L d with
      | some z0, some (r, ver, lo, len) =>
        if (ofC z0).cells.length = i.size ∧ z0.cells.size = i.size ∧ (ofC z0).cells.all AV.plain = true ∧ cleanL (ofC z0).cells = true then
          match overwrite L r lo i.size (List.replicate len (ofC z0)) true with
          | some L' => some { v := .tup [], L' := some L', asm := [verOk L r ver] }
          | none => none
        else none
      | _, _ => none
    | none => none
  | _ => none

def lenA (L : Heap) (T : TypeId) (x : AV) : Option SR :=
  match (P ()).underlying T, x with
  | some .string, .str s => some { v := .int .i64 s.length }
  | some (.slice _), .vnil => some { v := .int .i64 0 }
  | some (.slice _), .vec _ _ xs => some { v := .int .i64 xs.length }
  | some (.slice _), .row r ver => match L[r]? with
    | some row => some { v := .int .i64 row.elems.length, asm := [row.ver == ver] }
    | none => none
  | some (.slice _), .ref r ver _ len => match L[r]? with
    | some row => some { v := .int .i64 len, asm := [row.ver == ver] }
    | none => none
  | some (.array n _), _ => some { v := .int .i64 n }
  | _, _ => none

def capA (T : TypeId) (x : AV) : Option AV :=
  match (P ()).underlying T, x with
  | some (.slice _), .vnil => some (.int .i64 0)
  | some (.slice _), .vec true _ xs => some (.int .i64 xs.length)
  | _, _ => none

def foldA (f : Int → Int → Int) : AV → List AV → Option AV
  | v, [] => some v
  | .int k x, .int _ y :: r => foldA f (.int k (f x y)) r
  | _, _ => none

def makeSliceA (L : Heap) (T : TypeId) (len cap : AV) : Option SR :=
  match (P ()).underlying T, len, cap with
  | some (.slice e), .int _ l, .int _ c =>
    match (P ()).info? e with
    | some i =>
      match i.zero with
      | some z0 =>
        if (ofC z0).cells.length = i.size ∧ z0.cells.size = i.size ∧ (ofC z0).cells.all AV.plain = true ∧ cleanL (ofC z0).cells = true ∧ 0 < i.size then
          some { v := .row L.length 0, L' := some (L ++ [⟨List.replicate l.toNat (ofC z0), i.size, 0, false, true⟩]),
                 asm := [decide (0 ≤ l), decide (l ≤ c), decide (c * i.bytes ≤ 1099511627776), decide (c ≤ 1099511627776)] }
        else none
      | none => none
    | none => none
  | _, _, _ => none

def boxA (L : Heap) (x : AV) : Option SR :=
  if x.cells.all AV.plain = true then some { v := .ptr L.length 0 0 0, L' := some (L ++ [⟨[x], x.cells.length, 0, false, false⟩]) } else none

def pickA (c a b : AV) : Option AV :=
  match c with
  | .bool t => match a, b with
    | .bool x, .bool y => some (.bool (bif t then x else y))
    | a, b => some (bif t then a else b)
  | _ => none

/-- How a call is answered: its result, and the memory behind it. -/
abbrev Answer := FuncId → List AV → Heap → Option (AV × Option Heap)

mutual
/-- Rows renumbered. -/
def renA (f : Nat → Nat) : AV → AV
  | .ptr r v i j => .ptr (f r) v i j
  | .row r v => .row (f r) v
  | .ref r v lo n => .ref (f r) v lo n
  | .agg cs => .agg (renL f cs)
  | .tup cs => .tup (renL f cs)
  | .func fn a b => .func fn (renL f a) (renL f b)
  | v => v
def renL (f : Nat → Nat) : List AV → List AV
  | [] => []
  | c :: r => renA f c :: renL f r
end

def posOf : List Nat → Nat → Nat
  | [], _ => 0
  | x :: l, r => bif x == r then 0 else posOf l r + 1

def rowRefs (row : Row) : List Nat := bif row.clean then [] else rowsL row.elems
def renRow (f : Nat → Nat) (row : Row) : Row := bif row.clean then row else { row with elems := renL f row.elems }

/-- The rows that these lead to, in the order of reaching. -/
def reachR (L : Heap) : Nat → List Nat → List Nat → List Nat
  | 0, _, seen => seen
  | _ + 1, [], seen => seen
  | n + 1, r :: todo, seen =>
    bif seen.contains r then reachR L n todo seen else
    match L[r]? with
    | some row => reachR L n (todo ++ rowRefs row) (seen ++ [r])
    | none => reachR L n todo (seen ++ [r])

def getRows (L : Heap) : List Nat → Option (List Row)
  | [] => some []
  | r :: rs => match L[r]?, getRows L rs with
    | some row, some l => some (row :: l)
    | _, _ => none

def putAt {α : Type} (l : List α) : List Nat → List α → List α
  | r :: rs, x :: xs => putAt (l.set r x) rs xs
  | _, _ => l

def noDup : List Nat → Bool
  | [] => true
  | r :: rs => !(rs.contains r) && noDup rs

/-- What a function is handed that works on its caller's rows: those rows alone that its arguments lead to, numbered anew. -/
def ownIn (L : Heap) (args : List AV) : Option (List Nat × List AV × Heap) :=
  let rs := reachR L 1000 (rowsL args) []
  match getRows L rs with
  | some rows =>
    if (noDup rs && ((rowsL args).all rs.contains && rows.all fun row => (rowRefs row).all rs.contains)) = true then
      some (rs, renL (posOf rs) args, rows.map (renRow (posOf rs)))
    else none
  | none => none

/-- What it hands back: its rows are put back; new rows that are still led to come behind. -/
def ownOut (L : Heap) (rs : List Nat) (v : AV) (o : Option Heap) : Option (AV × Option Heap) :=
  match o with
  | none => if ((rowsA v).all fun i => Nat.blt i rs.length) = true then some (renA (fun i => rs.getD i 0) v, none) else none
  | some L1 =>
    let ns := (reachR L1 1000 (rowsA v ++ List.range rs.length) []).filter fun i => Nat.ble rs.length i
    let back := fun i => bif Nat.blt i rs.length then rs.getD i 0 else L.length + posOf ns i
    let isIn := fun i => Nat.blt i rs.length || ns.contains i
    match getRows L1 (List.range rs.length), getRows L1 ns with
    | some old, some new =>
      if (noDup ns && ((rowsA v).all isIn && (old ++ new).all fun row => (rowRefs row).all isIn)) = true then
        some (renA back v, some (putAt L rs (old.map (renRow back)) ++ new.map (renRow back)))
      else none
    | _, _ => none

mutual
/-- Scalars and whole rows of the call's own, nothing else. -/
def freshA : AV → Bool
  | .row _ _ => true
  | .agg cs => freshL cs
  | .tup cs => freshL cs
  | v => v.scalar
def freshL : List AV → Bool
  | [] => true
  | c :: r => freshA c && freshL r
end

/-- A call. A function that does not work on its caller's rows sees values alone; where its answer tells a memory, it hands over one new row. -/
def callF (inl : FuncId → Bool) (call : Answer) (L : Heap) (g : FuncId) (args : List AV) : Option SR :=
  bif inl g then
    match ownIn L args with
    | some (rs, args', Lc) =>
      match call g args' Lc with
      | some (v, o) => match ownOut L rs v o with
        | some (v', L') => some { v := v', L' := L', calls := [⟨true, true, g, args', Lc, v, o.getD Lc⟩] }
        | none => none
      | none => none
    | none => none
  else
    match pureL L args with
    | some ds =>
      match call g ds [] with
      | some (d, none) =>
        if d.clean = true then
          match d.scalar, rowsL args with
          | true, _ | _, [] => some { v := d, asm := versL L args, calls := [⟨true, false, g, ds, [], d, []⟩] }
          | false, rs => some { v := d, L' := some (freeze rs L), asm := versL L args, calls := [⟨true, false, g, ds, [], d, []⟩] }
        else none
      | some (v, some L1) =>
        match rowsA v with
        | [j] => match L1[j]? with
          | some row =>
            if (freshA v && (row.clean && scalarL row.elems)) = true then
              some { v := renA (fun _ => L.length) v, L' := some (L ++ [row]), asm := versL L args, calls := [⟨true, true, g, ds, [], v, L1⟩] }
            else none
          | none => none
        | _ => none
      | none => none
    | none => none

def callA (inl : FuncId → Bool) (call : Answer) (ρ : Operand → AV) (L : Heap) (c : Call) : Option SR :=
  match c.callee with
  | .builtin b =>
    match b, c.args.toList, c.argTypes.toList with
    | .append, [s, x], [T, X] => match (P ()).underlying X with
      | some (.slice _) | some .string => appendA P L T (ρ s) (ρ x)
      | _ => none
    | .clear, [d], T :: _ => clearA P L T (ρ d)
    | .len, [x], T :: _ => lenA P L T (ρ x)
    | .cap, [x], T :: _ => quiet (capA P T (ρ x))
    | .min, x :: xs, _ => quiet (foldA (fun x y => if y < x then y else x) (ρ x) (xs.map ρ))
    | .max, x :: xs, _ => quiet (foldA (fun x y => if y > x then y else x) (ρ x) (xs.map ρ))
    | _, _, _ => none
  | .value f =>
    match ρ f with
    | .func (.func g) first captured => callF inl call L g (first ++ c.args.toList.map ρ ++ captured)
    | _ => none
  | .invoke _ _ => none

/-- Answers for one operation: an element of a list; a slice that is to be a row; a call. -/
inductive Ans where
  | elem (x : AV)
  | keep
  | call (v : AV) (L' : Option Heap)

/-- One operation. 'ρ ex x': what x is where the conditions of 'ex' hold besides. -/
def stepA (inl : FuncId → Bool) (call : Answer) (an : Option Ans) (ρ' : Chain → Operand → AV) (L : Heap) (o : Oper) : Option SR :=
  let ρ := ρ' []
  let el : Option AV := match an with
    | some (.elem x) => some x
    | _ => none
  match o.op with
  | .move x | .assign x => some { v := ρ x }
  | .pick c a b => match c with
    | .tmp d => quiet (pickA (ρ c) (ρ' [(d, true)] a) (ρ' [(d, false)] b))
    | _ => quiet (pickA (ρ c) (ρ a) (ρ b))
  | .alloc T => match zeroA P T with
    | some z => boxA L z
    | none => none
  | .box _ x => boxA L (ρ x)
  | .build T parts => quiet (buildA P T (parts.toList.map fun (i, x) => (i, ρ x)))
  | .buildSlice T len parts => buildSliceA P (match an with | some .keep => true | _ => false) L T len (parts.toList.map fun (i, x) => (i, ρ x))
  | .load T a => loadA P el L T (ρ a)
  | .store T a x => storeA P el L T (ρ a) (ρ x)
  | .nilCheck x => match ρ x with
    | .ptr r ver i j => some { v := .ptr r ver i j }
    | .eptr es xs i j => some { v := .eptr es xs i j }
    | _ => none
  | .binOp op T x y _ => binA P op T (ρ x) (ρ y)
  | .unOp op _ x => quiet (unA op (ρ x))
  | .convert src dst x => quiet (convA P src dst (ρ x))
  | .makeFunc fn first captured => some { v := .func fn (first.toList.map ρ) (captured.toList.map ρ) }
  | .makeSlice T l c => makeSliceA P L T (ρ l) (ρ c)
  | .slice T x lo hi mx => sliceA P L T (ρ x) (lo.map ρ) (hi.map ρ) (mx.map ρ)
  | .fieldAddr T x f => quiet (fieldAddrA P T (ρ x) f)
  | .field T x f => quiet (fieldA P T (ρ x) f)
  | .indexAddr T x i => indexAddrA P L T (ρ x) (ρ i)
  | .index T x i => indexA P T (ρ x) (ρ i)
  | .extract t i => match ρ t with
    | .tup vs => quiet vs[i]?
    | _ => none
  | .call c => match an with
    | some (.call v L') => callA P inl (fun _ _ _ => some (v, L')) ρ L c
    | _ => callA P inl call ρ L c
  | _ => none

end

def putE (n : Nat) (d : Option Tmp) (c : Chain) (v : AV) (env : Env) : Option Env :=
  match d with
  | some d => if d < n ∧ (((d, c, v) :: env).any fun e => e.2.1.any fun x => x.1 == d) = false then some ((d, c, v) :: env) else none
  | none => some env

/-- The chain of an operation: none: it is surely not done. -/
def chainOf (ops : Array Oper) (env : Env) (o : Oper) : Option (Option Chain) :=
  match o.guard with
  | none => some (some [])
  | some (j, want) =>
    match (ops[j]?).bind (·.dst) with
    | none => some none
    | some d => match env.get d with
      | (ch, .bool _) => some (some ((d, want) :: ch))
      | (_, .tup []) => some none
      | _ => none

/-- The state while a region is run. -/
structure RS where
  env : Env
  L : Heap
  asm : List Bool := []
  eqs : List Prop := []
  calls : List CF := []

def CF.under (b : Bool) (c : CF) : CF := { c with cond := b && c.cond }

/-- The memory behind an operation that is done where b holds. -/
def mergeH (b : Bool) (L : Heap) : Option Heap → Heap
  | some L' => bif b then L' else L
  | none => L

/-- The rows that an operation reads, where it reads no others. -/
def readsA (ρ : Operand → AV) (o : Oper) : Option (List Nat) :=
  match o.op with
  | .load _ a => some (rowsA (ρ a))
  | .indexAddr _ x _ => some (rowsA (ρ x))
  | .slice _ x _ _ _ => some (rowsA (ρ x))
  | .buildSlice _ _ _ => some []
  | .call c => match c.callee, c.args.toList with
    | .builtin .len, [x] => some (rowsA (ρ x))
    | .value f, l => match ρ f with
      | .func (.func _) first captured => some (rowsL (first ++ l.map ρ ++ captured))
      | _ => none
    | _, _ => none
  | _ => none

/-- The rows that an operation changes or adds, where it changes no others. -/
def writesA (ρ : Operand → AV) (L : Heap) (o : Oper) : Option (List Nat) :=
  match o.op with
  | .alloc _ | .box _ _ => some [L.length]
  | .store _ a _ => some (rowsA (ρ a))
  | .call c => match c.callee, c.args.toList with
    | .builtin .append, [s, _] => match ρ s with
      | .row r _ => some [r]
      | .ref r _ _ _ => some [r]
      | _ => some [L.length]
    | .value _, _ => some [L.length]
    | _, _ => none
  | _ => none

/-- A call that does no more than lay one new row. -/
def laysOne (L : Heap) (o : Oper) (L' : Option Heap) (calls : List CF) : Bool :=
  match o.op with
  | .call c => match c.callee with
    | .value _ => (calls.all fun c => c.own && c.L.isEmpty) && (match L' with
      | some l => Nat.beq l.length (L.length + 1)
      | none => true)
    | _ => true
  | _ => true

/-- An operation that is said to concern one row alone: heat 3 + 2 r: it reads row r; heat 4 + 2 r: it changes row r. -/
def rowFits (ρ : Operand → AV) (L : Heap) (hot : Nat) (o : Oper) : Bool :=
  o.guard.isNone && (match Nat.beq (hot % 2) 1 with
    | true => match readsA ρ o with
      | some l => l.all fun r => Nat.beq r ((hot - 3) / 2)
      | none => false
    | false => match writesA ρ L o with
      | some l => l.all fun r => Nat.beq r ((hot - 3) / 2)
      | none => false)

/-- May an operation of this heat give this? -/
def fits (ρ : Operand → AV) (L : Heap) (o : Oper) (hot : Nat) (L' : Option Heap) (calls : List CF) : Bool :=
  match hot with
  | 0 => L'.isNone && !(calls.any fun c => c.own)
  | 1 => L'.isNone
  | 2 => true
  | h => rowFits ρ L h o && (bif Nat.beq (h % 2) 1 then L'.isNone && !(calls.any fun c => c.own) else laysOne L o L' calls)

/-- One operation of a region. 'hot': 2 where it may change the memory, 1 where it may call a function that works on the caller's rows. -/
def runOp (P : Unit → Program) (inl : FuncId → Bool) (call : Answer) (n : Nat) (ops : Array Oper) (an : Option Ans) (hot : Nat) (o : Oper) (s : RS) : Option RS :=
  match chainOf ops s.env o with
  | none => none
  | some none => match putE n o.dst [] (.tup []) s.env with
    | some env => some { s with env }
    | none => none
  | some (some c) =>
    match stepA P inl call an (fun ex => ev s.env (ex ++ c)) s.L o with
    | none => match chainVal s.env c with
      | true => none
      | false => match putE n o.dst c .any s.env with
        | some env => some { s with env }
        | none => none
    | some r =>
      match putE n o.dst c r.v s.env with
      | none => none
      | some env =>
        match fits (ev s.env c) s.L o hot r.L' r.calls with
        | false => none
        | true =>
          match c with
          | [] => some ⟨env, r.L'.getD s.L, s.asm ++ r.asm, s.eqs ++ r.eqs, s.calls ++ r.calls⟩
          | _ => some ⟨env, mergeH (chainVal s.env c) s.L r.L', s.asm ++ r.asm.map (fun a => !(chainVal s.env c) || a), s.eqs ++ r.eqs.map (fun p => (chainVal s.env c = true → p)), s.calls ++ r.calls.map (CF.under (chainVal s.env c))⟩

def runOps (P : Unit → Program) (inl : FuncId → Bool) (call : Answer) (n : Nat) (ops : Array Oper) (ans : Nat → Option Ans) (hot : Nat → Nat) : List Nat → RS → Option RS
  | [], s => some s
  | i :: rest, s =>
    match ops[i]? with
    | none => runOps P inl call n ops ans hot rest s
    | some o =>
      match runOp P inl call n ops (ans i) (hot i) o s with
      | some s' => runOps P inl call n ops ans hot rest s'
      | none => none

/-- What is known of a function besides its code: temporaries, results. -/
structure Fi where
  n : Nat
  res : List ResultVar

def forget (keep : List Nat) (env : Env) : Vars :=
  keep.map fun t => (t, match env.get t with
    | ([], v) => v
    | _ => .any)

def lift (env : Vars) : Env := env.map fun e => (e.1, [], e.2)

/-- The results of a function. -/
def resultsA (P : Unit → Program) (env : Vars) (L : Heap) : List ResultVar → Option (List AV)
  | [] => some []
  | .tmp t :: r => match resultsA P env L r with
    | some vs => some (env.get t :: vs)
    | none => none
  | .cell a T :: r => match loadA P none L T (env.get a), resultsA P env L r with
    | some x, some vs => bif x.asm.all fun b => b then some (x.v :: vs) else none
    | _, _ => none

def finish (P : Unit → Program) (fi : Fi) (env : Vars) (L : Heap) : Option AV :=
  match resultsA P env L fi.res with
  | some [v] => some v
  | some vs => some (.tup vs)
  | none => none

end Go.Av
