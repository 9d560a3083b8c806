/- PART 1 of the texts of a claim, joined by a program: what each part shows stands at its head. -/
import Derived.WalkKit
import Derived.Below
import Derived.Calls
import Derived.AtR
import Derived.RangeFuncLeaves
import Derived.RangeFuncRecord
import Derived.KernelRfl
import Derived.ChangeKeysEq

namespace Go.Av
inductive AV where
 | any
 | bool (b:Bool)
 | int (k:IntKind) (n:Int)
 | str (s:List UInt8)
 | agg (cs:List AV)
 | tup (vs:List AV)
 | nilp
 | ptr (r ver i j:Nat)
 | eptr (es:Nat) (xs:List AV) (i j:Nat)
 | vnil
 | vec (full:Bool) (es:Nat) (xs:List AV)
 | row (r ver:Nat)
 | ref (r ver lo len:Nat)
 | func (fn:Fn) (first captured:List AV)
 | nilf
 | mapr (r:Nat)
 | nilm
 | flt (b:Nat)
 deriving Inhabited
structure Row where
 elems:List AV
 es:Nat
 ver:Nat
 frozen:Bool
 clean:Bool
abbrev Heap:=List Row
abbrev Za4:=List (Nat × Bool)
abbrev Env:=List (Nat × Za4 × AV)
abbrev Vars:=List (Nat × AV)
def AV.cells:AV->List AV
 | .agg cs=>cs
 | v=>[v]
def AV.plain:AV->Bool
 | .any | .agg _ | .tup _=>false
 | _=>true
def AV.known:AV->Bool
 | .any=>false
 | _=>true
mutual
def AV.clean:AV->Bool
 | .any | .ptr .. | .row .. | .ref .. | .mapr _=>false
 | .agg cs=>cleanL cs
 | .tup cs=>cleanL cs
 | .func _ a b=>cleanL a&&cleanL b
 | _=>true
def cleanL:List AV->Bool
 | []=>true
 | c::r=>c.clean&&cleanL r
end
mutual
def AV.scalar:AV->Bool
 | .bool _ | .int _ _ | .str _ | .nilp | .vnil | .nilf | .nilm | .flt _=>true
 | .agg cs=>scalarL cs
 | .tup cs=>scalarL cs
 | _=>false
def scalarL:List AV->Bool
 | []=>true
 | c::r=>c.scalar&&scalarL r
end
def Env.get:Env->Nat->Za4 × AV
 | [],_=>([],.any)
 | (k,c)::r,t=>bif k==t then c else Env.get r t
def Vars.get:Vars->Nat->AV
 | [],_ => .any
 | (k,c)::r,t=>bif k==t then c else Vars.get r t
def Za4.sub (a b:Za4):Bool:=a.all fun x=>b.any fun y=>x.1==y.1&&x.2==y.2
def ofC0:Value->AV
 | .bool b => .bool b
 | .int k n => .int k n
 | .string s => .str s.data.toList
 | .float .f64 b => .flt b
 | .pointer none => .nilp
 | .slice none 0 0 => .vnil
 | .nilFunc => .nilf
 | .map none => .nilm
 | _ => .any
def ofC:Value->AV
 | .agg cs => .agg (cs.toList.map ofC0)
 | .tuple vs=>if vs.size=0 then .tup [] else .any
 | v=>ofC0 v
def Zao (env:Env):Za4->Bool
 | []=>true
 | x::r=>(match (env.get x.1).2 with
  | .bool b=>b==x.2
  | _=>false)&&Zao env r
def ev (env:Env) (c:Za4):Operand->AV
 | .tmp t=>bif Za4.sub (env.get t).1 c then (env.get t).2 else .any
 | .const v=>ofC v
 | .global _ => .any
 | .func f => .func (.func f) [] []
def evV (env:Vars):Operand->AV
 | .tmp t=>env.get t
 | .const v=>ofC v
 | .global _ => .any
 | .func f => .func (.func f) [] []
structure CF where
 cond:Bool
 own:Bool
 f:FuncId
 args:List AV
 L:Heap
 v:AV
 L':Heap
structure SR where
 v:AV
 L':Option Heap:=none
 asm:List Bool:=[]
 eqs:List Prop:=[]
 calls:List CF:=[]
section
variable (P:Unit->Program)
def ZdC (T:TypeId) (cs:List AV) (j:Nat):Option AV:=
 match (P ()).info? T with
 | none=>none
 | some i =>
  match (P ()).underlying T with
  | some (.struct _) | some (.array _ _)=>if j+i.size<=cs.length then some (.agg ((cs.drop j).take i.size)) else none
  | some _=>cs[j]?
  | none=>none
def zeroA (T:TypeId):Option AV:=
 match (P ()).info? T with
 | some i=>i.zero.map ofC
 | none=>none
def elemA (el:Option AV) (xs:List AV) (i:Nat):Option (AV × List Prop):=
 match el with
 | some x=>some (x,[xs[i]? = some x])
 | none=>match xs[i]? with
  | some x=>some (x,[])
  | none=>none
def loadA (el:Option AV) (L:Heap) (T:TypeId):AV->Option SR
 | .ptr r ver i j =>
  match L[r]? with
  | some row =>
    match elemA el row.elems i with
    | some (x,q)=>match ZdC P T x.cells j with
     | some v=>some { v,eqs:=q,asm:=[row.ver==ver] }
     | none=>none
    | none=>none
  | none=>none
 | .eptr _ xs i j =>
  match elemA el xs i with
  | some (x,q)=>match ZdC P T x.cells j with
   | some v=>some { v,eqs:=q }
   | none=>none
  | none=>none
 | _=>none
def putCells (x:AV) (j:Nat) (vs:List AV):Option AV:=
 match x with
 | .agg cs=>if j+vs.length<=cs.length then some (.agg (cs.take j++(vs++cs.drop (j+vs.length)))) else none
 | _=>match j,vs with
  | 0,[v]=>some v
  | _,_=>none
def Zgr (el:Option AV) (L:Heap) (T:TypeId) (p v:AV):Option SR:=
 match p with
 | .ptr r ver i j =>
  match L[r]? with
  | some row=>if row.frozen=false then
    match elemA el row.elems i with
    | some (x,q) =>
     if v.cells.all AV.plain=true/\(P ()).cellsOf T=v.cells.length/\(P ()).info? T ≠ none then
      match putCells x j v.cells with
      | some y=>match row.clean,cleanL v.cells with
       | true,false=>some { v:=.tup [],L':=some (L.set r ⟨row.elems.set i y,row.es,row.ver,row.frozen,false⟩),eqs:=q,asm:=[row.ver==ver] }
       | _,_=>some { v:=.tup [],L':=some (L.set r { row with elems:=row.elems.set i y }),eqs:=q,asm:=[row.ver==ver] }
      | none=>none
     else none
    | none=>none
   else none
  | none=>none
 | _=>none
def ZeR (k:IntKind) (n:Int):AV:=.int k (k.wrap n)
def ZgJ (op:BinOp) (k:IntKind) (x y:Int):Option SR:=
 match op with
 | .add=>some { v:=ZeR k (x+y) }
 | .sub=>some { v:=ZeR k (x-y) }
 | .mul=>some { v:=ZeR k (x*y) }
 | .quo=>some { v:=ZeR k (x.tdiv y),asm:=[!(y==0)] }
 | .rem=>some { v:=.int k (x.tmod y),asm:=[!(y==0)] }
 | .eql=>some { v:=.bool (x==y) }
 | .neq=>some { v:=.bool (x != y) }
 | .lss=>some { v:=.bool (decide (x<y)) }
 | .leq=>some { v:=.bool (decide (x<=y)) }
 | .gtr=>some { v:=.bool (decide (x>y)) }
 | .geq=>some { v:=.bool (decide (x>=y)) }
 | .and=>some { v:=ZeR k ((BitVec.ofInt k.bits x &&& BitVec.ofInt k.bits y).toNat) }
 | .or=>some { v:=ZeR k ((BitVec.ofInt k.bits x ||| BitVec.ofInt k.bits y).toNat) }
 | .xor=>some { v:=ZeR k ((BitVec.ofInt k.bits x ^^^ BitVec.ofInt k.bits y).toNat) }
 | .andNot=>some { v:=ZeR k ((BitVec.ofInt k.bits x &&& ~~~ BitVec.ofInt k.bits y).toNat) }
 | _=>none
def Zgq (op:BinOp) (x y:List UInt8):Option SR:=
 match op with
 | .add=>some { v:=.str (x++y),asm:=[decide (x.length+y.length<=1099511627776)] }
 | .eql=>some { v:=.bool (x==y) }
 | .neq=>some { v:=.bool (!(x==y)) }
 | .lss=>some { v:=.bool (Op.bytesLess x y) }
 | .leq=>some { v:=.bool (Op.bytesLess x y||x==y) }
 | .gtr=>some { v:=.bool (!(Op.bytesLess x y||x==y)) }
 | .geq=>some { v:=.bool (!Op.bytesLess x y) }
 | _=>none
def eqFields (eq:TypeId->AV->AV->Option Bool) (xs ys:List AV):List Field->Option Bool
 | []=>some true
 | f::r =>
  if f.name = "_" then eqFields eq xs ys r
  else match ZdC P f.type xs f.offset,ZdC P f.type ys f.offset with
   | some a,some b=>match eq f.type a b,eqFields eq xs ys r with
    | some x,some y=>some (x&&y)
    | _,_=>none
   | _,_=>none
def Zem (eq:TypeId->AV->AV->Option Bool) (e:TypeId) (size:Nat) (xs ys:List AV):List Nat->Option Bool
 | []=>some true
 | i::r=>match ZdC P e xs (i*size),ZdC P e ys (i*size) with
  | some a,some b=>match eq e a b,Zem eq e size xs ys r with
   | some x,some y=>some (x&&y)
   | _,_=>none
  | _,_=>none
def eqA:Nat->TypeId->AV->AV->Option Bool
 | 0,_,_,_=>none
 | d+1,T,x,y =>
  match (P ()).underlying T,x,y with
  | some .bool,.bool a,.bool b=>some (a==b)
  | some (.int _),.int k a,.int k' b=>if k=k' then some (a==b) else none
  | some .string,.str a,.str b=>some (a==b)
  | some (.struct fields),.agg xs,.agg ys=>if (P ()).stoodInHeld T then none else eqFields P (eqA d) xs ys fields.toList
  | some (.array n e),.agg xs,.agg ys=>match (P ()).info? e with
   | some i=>Zem P (eqA d) e i.size xs ys (List.range n)
   | none=>none
  | some (.slice _),.vnil,.vnil=>some true
  | some (.slice _),.vnil,.vec _ _ (_::_)=>some false
  | some (.slice _),.vnil,.row _ _=>some false
  | some (.slice _),.vec _ _ (_::_),.vnil=>some false
  | some (.slice _),.row _ _,.vnil=>some false
  | some (.pointer _),.nilp,.nilp=>some true
  | some (.func _ _ _),.nilf,.nilf=>some true
  | some (.func _ _ _),.nilf,.func _ _ _=>some false
  | some (.func _ _ _),.func _ _ _,.nilf=>some false
  | _,_,_=>none
def guardT:Nat->TypeId->Bool
 | 0,_=>true
 | d+1,t =>
  match (P ()).underlying t with
  | some (.interface ms) => !ms.toList.isEmpty
  | some (.struct fs)=>fs.toList.any fun f=>f.name != "_" && guardT d f.type
  | some (.array _ e)=>guardT d e
  | _=>false
def Zdg (x y:AV) (T:TypeId):Bool:=
 match x,y with
 | .agg _,.agg _ => !guardT P (P ()).depth T
 | _,_=>true
def ZbE (x:Option AV):Option SR:=
 match x with
 | some v=>some { v }
 | none=>none
def binA (op:BinOp) (T:TypeId) (x y:AV):Option SR:=
 match op,x,y with
 | .shl,.int k a,.int _ b=>some { v:=ZeR k (a*2 ^ (min b.toNat k.bits)),asm:=[decide (0<=b)] }
 | .shr,.int k a,.int _ b=>some { v:=.int k (a.fdiv (2 ^ (min b.toNat k.bits))),asm:=[decide (0<=b)] }
 | op,.int k a,.int k' b=>if k=k' then ZgJ op k a b else none
 | op,.str a,.str b=>Zgq op a b
 | .eql,x,y=>if Zdg P x y T then ZbE ((eqA P Op.maxDepth T x y).map .bool) else none
 | .neq,x,y=>if Zdg P x y T then ZbE ((eqA P Op.maxDepth T x y).map (fun b => .bool (!b))) else none
 | _,_,_=>none
def unA (op:UnOp) (x:AV):Option AV:=
 match op,x with
 | .neg,.int k n=>some (ZeR k (0-n))
 | .xor,.int k n=>some (ZeR k ((BitVec.ofInt k.bits (if k.signed then -1 else k.max) ^^^ BitVec.ofInt k.bits n).toNat))
 | .not,.bool b=>some (.bool (!b))
 | _,_=>none
def convA (src dst:TypeId) (x:AV):Option AV:=
 match (P ()).underlying src,(P ()).underlying dst,x with
 | some _,some (.int k),.int _ n=>some (ZeR k n)
 | some _,some .string,.int _ n=>some (.str (Utf8.encode n).data.toList)
 | some _,some .string,.str s=>some (.str s)
 | some _,some (.float .f64),.int _ n=>some (.flt (FloatKind.f64.nearest n))
 | _,_,_=>none
def f2iV (b:Nat):Int:=match (FloatKind.f64.decode b).toInt .zero with
 | some n=>n
 | none=>0
def f2iB (k:IntKind) (b:Nat):Bool:=match (FloatKind.f64.decode b).toInt .zero with
 | some n=>decide (k.min<=n)&&decide (n<=k.max)
 | none=>false
def convS (src dst:TypeId) (x:AV):Option SR:=
 match (P ()).underlying src,(P ()).underlying dst,x with
 | some _,some (.int k),.flt b=>some { v:=.int k (f2iV b),asm:=[f2iB k b] }
 | _,_,_=>match convA P src dst x with
  | some v=>some { v }
  | none=>none
def fillA (place:Nat->Option (Nat × Nat)) (cells:List AV):List (Nat × AV)->Option (List AV)
 | []=>some cells
 | (i,v)::rest =>
  match place i with
  | none=>none
  | some (off,size) =>
   if v.known=true/\v.cells.length=size/\off+size<=cells.length then fillA place (cells.take off++(v.cells++cells.drop (off+size))) rest
   else none
def places:List Field->Option (List (Nat × Nat))
 | []=>some []
 | f::r=>match (P ()).info? f.type,places r with
  | some i,some q=>some ((f.offset,i.size)::q)
  | _,_=>none
def buildA (T:TypeId) (parts:List (Nat × AV)):Option AV:=
 match zeroA P T,(P ()).underlying T with
 | some z,some (.struct fields) =>
  match z.known,places P fields.toList with
  | true,some pl=>(fillA (pl[·]?) z.cells parts).map .agg
  | _,_=>none
 | some z,some (.array _ elem) =>
  match z.known,(P ()).info? elem with
  | true,some i=>(fillA (fun k=>some (k*i.size,i.size)) z.cells parts).map .agg
  | _,_=>none
 | _,_=>none
mutual
def pureA (L:Heap):AV->Option AV
 | .row r _=>match L[r]? with
  | some row=>if row.clean=true then some (.vec false row.es row.elems) else none
  | none=>none
 | .ref r _ lo len=>match L[r]? with
  | some row=>if row.clean=true then some (.vec false row.es ((row.elems.drop lo).take len)) else none
  | none=>none
 | .any=>none
 | .ptr r _ i j=>match L[r]? with
  | some row =>
    match row.elems with
    | [x]=>if x.clean=true then some (.eptr row.es [x] i j) else none
    | _=>none
  | none=>none
 | .agg cs=>match pureL L cs with
  | some ds=>some (.agg ds)
  | none=>none
 | .tup cs=>match pureL L cs with
  | some ds=>some (.tup ds)
  | none=>none
 | .func fn a b=>match pureL L a,pureL L b with
  | some a',some b'=>some (.func fn a' b')
  | _,_=>none
 | .mapr _=>none
 | v=>some v
def pureL (L:Heap):List AV->Option (List AV)
 | []=>some []
 | c::r=>match pureA L c,pureL L r with
  | some d,some ds=>some (d::ds)
  | _,_=>none
end
mutual
def rowsA:AV->List Nat
 | .row r _=>[r]
 | .ref r _ _ _=>[r]
 | .ptr r _ _ _=>[r]
 | .mapr r=>[r]
 | .agg cs=>rowsL cs
 | .tup cs=>rowsL cs
 | .func _ a b=>rowsL a++rowsL b
 | _=>[]
def rowsL:List AV->List Nat
 | []=>[]
 | c::r=>rowsA c++rowsL r
end
def Zb1 (L:Heap) (r ver:Nat):Bool:=
 match L[r]? with
 | some row=>row.ver==ver
 | none=>false
mutual
def versA (L:Heap):AV->List Bool
 | .row r v=>[Zb1 L r v]
 | .ref r v _ _=>[Zb1 L r v]
 | .ptr r v _ _=>[Zb1 L r v]
 | .agg cs=>versL L cs
 | .tup cs=>versL L cs
 | .func _ a b=>versL L a++versL L b
 | _=>[]
def versL (L:Heap):List AV->List Bool
 | []=>[]
 | c::r=>versA L c++versL L r
end
def ZaT (rs:List Nat) (L:Heap):Heap:=
 rs.foldl (fun L r=>match L[r]? with
  | some row=>L.set r { row with frozen:=true }
  | none=>L) L
def Za0 (L:Heap) (rs:List Nat):Bool:=rs.all fun r=>match L[r]? with
 | some row=>row.frozen
 | none=>false
def setAll (size:Nat) (xs:List AV):List (Nat × AV)->Option (List AV)
 | []=>some xs
 | (i,v)::rest=>if v.cells.length=size/\i<xs.length/\v.cells.all AV.plain=true then setAll size (xs.set i v) rest else none
def Zbd (keep:Bool) (L:Heap) (T:TypeId) (len:Nat) (parts:List (Nat × AV)):Option SR:=
 match (P ()).underlying T with
 | some (.slice elem) =>
  match (P ()).info? elem with
  | some i =>
   if len=0 then (match parts with | []=>some { v:=.vec true i.size [] } | _=>none) else
   match i.zero with
   | some z0 =>
    if len*i.size<=16777216/\(ofC z0).cells.length=i.size/\z0.cells.size=i.size/\0<i.size/\(ofC z0).cells.all AV.plain=true/\cleanL (ofC z0).cells=true then
     match setAll i.size (List.replicate len (ofC z0)) parts with
     | some xs =>
      bif keep then some { v:=.row L.length 0,L':=some (L++[⟨xs,i.size,0,false,cleanL xs⟩]) }
      else match pureL L xs with
      | some ys=>match rowsL xs with
       | []=>some { v:=.vec true i.size ys }
       | rs=>some { v:=.vec true i.size ys,L':=some (ZaT rs L),asm:=versL L xs }
      | none=>none
     | none=>none
    else none
   | none=>none
  | none=>none
 | _=>none
def Zez (T:TypeId) (p:AV) (field:Nat):Option AV:=
 match (P ()).underlying T with
 | some (.struct fields) =>
  match fields[field]? with
  | some f =>
   match (P ()).info? f.type with
   | none=>none
   | some i=>if i.size=0 then none else match p with
    | .ptr r ver i j=>some (.ptr r ver i (j+f.offset))
    | .eptr es xs i j=>some (.eptr es xs i (j+f.offset))
    | _=>none
  | none=>none
 | _=>none
def fieldA (T:TypeId) (x:AV) (field:Nat):Option AV:=
 match (P ()).underlying T with
 | some (.struct fields) =>
  match fields[field]? with
  | some f=>match x with
   | .agg cs=>ZdC P f.type cs f.offset
   | _=>none
  | none=>none
 | _=>none
def ZbG (L:Heap) (T:TypeId) (x i:AV):Option SR:=
 match (P ()).underlying T,x,i with
 | some (.slice e),.vec _ es xs,.int _ n =>
  match (P ()).info? e with
  | some i=>if es=i.size then some { v:=.eptr es xs n.toNat 0,asm:=[decide (0<=n),decide (n.toNat<xs.length)] } else none
  | none=>none
 | some (.slice e),.row r ver,.int _ n =>
  match L[r]?,(P ()).info? e with
  | some row,some i =>
   if row.es=i.size then some { v:=.ptr r ver n.toNat 0,asm:=[row.ver==ver,decide (0<=n),decide (n.toNat<row.elems.length)] } else none
  | _,_=>none
 | some (.slice e),.ref r ver lo len,.int _ n =>
  match L[r]?,(P ()).info? e with
  | some row,some i =>
   if row.es=i.size then some { v:=.ptr r ver (lo+n.toNat) 0,asm:=[row.ver==ver,decide (0<=n),decide (n.toNat<len)] } else none
  | _,_=>none
 | some (.array len e),.ptr r ver i j,.int _ n =>
  match (P ()).info? e with
  | some q=>some { v:=.ptr r ver i (j+n.toNat*q.size),asm:=[decide (0<=n),decide (n<len)] }
  | none=>none
 | some (.array len e),.eptr es xs i j,.int _ n =>
  match (P ()).info? e with
  | some q=>some { v:=.eptr es xs i (j+n.toNat*q.size),asm:=[decide (0<=n),decide (n<len)] }
  | none=>none
 | _,_,_=>none
def ZgK (T:TypeId) (x i:AV):Option SR:=
 match (P ()).underlying T,x,i with
 | some (.array len e),.agg cs,.int _ n =>
  match (P ()).info? e with
  | some q=>match ZdC P e cs (n.toNat*q.size) with
   | some v=>some { v,asm:=[decide (0<=n),decide (n<len)] }
   | none=>none
  | none=>none
 | some .string,.str s,.int _ n=>some { v:=.int .u8 (s.getD n.toNat 0).toNat,asm:=[decide (0<=n),decide (n.toNat<s.length)] }
 | _,_,_=>none
def ZcN (dflt:Nat):Option AV->Option (Nat × List Bool)
 | none=>some (dflt,[])
 | some (.int _ n)=>some (n.toNat,[decide (0<=n)])
 | some _=>none
def Zgt (L:Heap) (T:TypeId) (x:AV) (lo hi mx:Option AV):Option SR:=
 match (P ()).underlying T,x with
 | some .string,.str s =>
  match mx,ZcN 0 lo,ZcN s.length hi with
  | none,some (l,p),some (h,q)=>some { v:=.str ((s.take h).drop l),asm:=p++q++[decide (l<=h),decide (h<=s.length)] }
  | _,_,_=>none
 | some (.slice e),.vnil =>
  match (P ()).info? e,ZcN 0 lo,ZcN 0 hi,ZcN 0 mx with
  | some _,some (l,p),some (h,q),some (m,u)=>some { v:=.vnil,asm:=p++q++u++[l==0,h==0,m==0,mx.isNone||hi.isSome] }
  | _,_,_,_=>none
 | some (.slice e),.vec f es xs =>
  match (P ()).info? e with
  | some i=>if es=i.size then
    match ZcN 0 lo,ZcN xs.length hi with
    | some (l,p),some (h,q) =>
     match mx with
     | none=>some { v:=.vec (f&&hi.isNone) es ((xs.take h).drop l),asm:=p++q++[decide (l<=h),decide (h<=xs.length)] }
     | some (.int _ m)=>some { v:=.vec true es ((xs.take h).drop l),asm:=p++q++[decide (l<=h),decide (h<=xs.length),m==h,hi.isSome] }
     | some _=>none
    | _,_=>none
   else none
  | none=>none
 | some (.slice e),.row r ver =>
  match L[r]?,(P ()).info? e with
  | some row,some i =>
   if row.es=i.size then
    match ZcN 0 lo,ZcN row.elems.length hi with
    | some (l,p),some (h,q) =>
     match mx with
     | none=>some { v:=.ref r ver l (h-l),asm:=(row.ver==ver)::p++q++[decide (l<=h),decide (h<=row.elems.length)] }
     | some (.int _ m)=>some { v:=.vec true row.es [],asm:=(row.ver==ver)::p++q++[l==h,decide (h<=row.elems.length),m==h,hi.isSome] }
     | some _=>none
    | _,_=>none
   else none
  | _,_=>none
 | some (.slice e),.ref r ver low len =>
  match L[r]?,(P ()).info? e with
  | some row,some i =>
   if row.es=i.size then
    match ZcN 0 lo,ZcN len hi with
    | some (l,p),some (h,q) =>
     match mx with
     | none=>some { v:=.ref r ver (low+l) (h-l),asm:=(row.ver==ver)::p++q++[decide (l<=h),decide (h<=len)] }
     | some (.int _ m)=>some { v:=.vec true row.es [],asm:=(row.ver==ver)::p++q++[l==h,decide (h<=len),m==h,hi.isSome] }
     | some _=>none
    | _,_=>none
   else none
  | _,_=>none
 | _,_=>none
def ZeD (e:TypeId) (size:Nat) (cs:List AV) (j:Nat):Nat->Option (List AV)
 | 0=>some []
 | n+1=>match ZdC P e cs j,ZeD e size cs (j+size) n with
  | some v,some l=>some (v::l)
  | _,_=>none
def Zbw (L:Heap) (n:Nat) (e:TypeId) (x:AV):Option SR:=
 match x with
 | .ptr r ver i j =>
  match L[r]?,(P ()).info? e with
  | some row,some q =>
   match row.elems[i]? with
   | some y=>match ZeD P e q.size y.cells j n with
    | some xs=>if cleanL xs=true/\0<q.size/\(xs.all fun x=>Nat.beq x.cells.length q.size)=true then
      some { v:=.vec true q.size xs,L':=match row.frozen with | true=>none | false=>some (ZaT [r] L),asm:=[row.ver==ver] }
     else none
    | none=>none
   | none=>none
  | _,_=>none
 | .eptr _ ys i j =>
  match (P ()).info? e with
  | some q=>match ys[i]? with
   | some y=>match ZeD P e q.size y.cells j n with
    | some xs=>if cleanL xs=true/\0<q.size/\(xs.all fun x=>Nat.beq x.cells.length q.size)=true then some { v:=.vec true q.size xs } else none
    | none=>none
   | none=>none
  | none=>none
 | _=>none
def ZdA (L:Heap) (size:Nat):AV->Option (List AV × Bool × List Bool)
 | .vnil=>some ([],true,[])
 | .vec _ es xs=>if es=size then some (xs,true,[]) else none
 | .row r ver =>
  match L[r]? with
  | some row=>if row.es=size then some (row.elems,row.clean,[row.ver==ver]) else none
  | none=>none
 | .ref r ver lo len =>
  match L[r]? with
  | some row=>if row.es=size then some ((row.elems.drop lo).take len,row.clean,[row.ver==ver]) else none
  | none=>none
 | .str s=>if size=1 then some (s.map fun b => .int .u8 b.toNat,true,[]) else none
 | _=>none
def Zcr (L:Heap) (T:TypeId) (s x:AV):Option SR:=
 match (P ()).underlying T with
 | some (.slice e) =>
  match (P ()).info? e with
  | some i =>
   if 0<i.size/\0<i.bytes/\(i.zero.map fun z=>z.cells.size)=some i.size then
    match ZdA L i.size x with
    | some (ys,cl,q) =>
     match s with
     | .vnil=>match ys with
      | []=>some { v:=.vnil,asm:=q }
      | y::ys=>some { v:=.row L.length 0,L':=some (L++[⟨y::ys,i.size,0,false,cl⟩]),asm:=q++[decide ((y::ys).length*i.bytes<=1099511627776)] }
     | .vec true es xs =>
      if es=i.size then match ys with
       | []=>some { v:=.vec true es xs,asm:=q }
       | y::ys=>some { v:=.row L.length 0,L':=some (L++[⟨xs++y::ys,i.size,0,false,cl⟩]),asm:=q++[decide ((xs.length+(y::ys).length)*i.bytes<=1099511627776)] }
      else none
     | .row r ver =>
      match L[r]? with
      | some row =>
       if row.es=i.size then
        some { v:=.row r (ver+1),L':=some (L.set r ⟨row.elems++ys,row.es,ver+1,row.frozen,row.clean&&cl⟩),asm:=(row.ver==ver)::q++[decide ((row.elems.length+ys.length)*i.bytes<=1099511627776)] }
       else none
      | none=>none
     | .ref r ver lo len =>
      match L[r]? with
      | some row =>
       if row.es=i.size/\row.frozen=false then
        match ys with
        | []=>some { v:=.ref r ver lo len,asm:=(row.ver==ver)::q }
        | y::ys=>some { v:=.row r (ver+1),L':=some (L.set r ⟨(row.elems.drop lo).take len++y::ys,row.es,ver+1,false,row.clean&&cl⟩),asm:=(row.ver==ver)::q++[decide ((len+(y::ys).length)*i.bytes<=1099511627776)] }
       else none
      | none=>none
     | _=>none
    | none=>none
   else none
  | none=>none
 | _=>none
def ZdX (L:Heap) (T:TypeId) (s x:AV):Option SR:=
 match (P ()).underlying T,s,x with
 | some (.slice e),.vnil,.int _ l =>
  match (P ()).info? e with
  | some i=>match i.zero with
   | some z0 =>
    if 0<i.size/\0<i.bytes/\z0.cells.size=i.size/\(ofC z0).cells.length=i.size/\(ofC z0).cells.all AV.plain=true/\cleanL (ofC z0).cells=true then
     some { v:=.row L.length 0,L':=some (L++[⟨List.replicate l.toNat (ofC z0),i.size,0,false,true⟩]),asm:=[decide (0<l),decide (l.toNat*i.bytes<=1099511627776)] }
    else none
   | none=>none
  | none=>none
 | _,_,_=>none
def spanA (L:Heap):AV->Option (Nat × Nat × Nat × Nat)
 | .row r ver=>match L[r]? with
  | some row=>some (r,ver,0,row.elems.length)
  | none=>none
 | .ref r ver lo len=>some (r,ver,lo,len)
 | _=>none
def overwrite (L:Heap) (r lo:Nat) (size:Nat) (zs:List AV) (cl:Bool):Option Heap:=
 match L[r]? with
 | some row =>
  if row.frozen=false/\row.es=size/\(row.clean=true->cl=true) then
   some (L.set r { row with elems:=row.elems.take lo++(zs++row.elems.drop (lo+zs.length)) })
  else none
 | none=>none
def clearA (L:Heap) (T:TypeId) (d:AV):Option SR:=
 match (P ()).underlying T with
 | some (.slice e) =>
  match (P ()).info? e with
  | some i =>
   match i.zero,spanA L d with
   | some z0,some (r,ver,lo,len) =>
    if (ofC z0).cells.length=i.size/\z0.cells.size=i.size/\(ofC z0).cells.all AV.plain=true/\cleanL (ofC z0).cells=true then
     match overwrite L r lo i.size (List.replicate len (ofC z0)) true with
     | some L'=>some { v:=.tup [],L':=some L',asm:=[Zb1 L r ver] }
     | none=>none
    else none
   | _,_=>none
  | none=>none
 | _=>none
def lenA (L:Heap) (T:TypeId) (x:AV):Option SR:=
 match (P ()).underlying T,x with
 | some .string,.str s=>some { v:=.int .i64 s.length }
 | some (.slice _),.vnil=>some { v:=.int .i64 0 }
 | some (.slice _),.vec _ _ xs=>some { v:=.int .i64 xs.length }
 | some (.slice _),.row r ver=>match L[r]? with
  | some row=>some { v:=.int .i64 row.elems.length,asm:=[row.ver==ver] }
  | none=>none
 | some (.slice _),.ref r ver _ len=>match L[r]? with
  | some row=>some { v:=.int .i64 len,asm:=[row.ver==ver] }
  | none=>none
 | some (.array n _),_=>some { v:=.int .i64 n }
 | _,_=>none
def capA (T:TypeId) (x:AV):Option AV:=
 match (P ()).underlying T,x with
 | some (.slice _),.vnil=>some (.int .i64 0)
 | some (.slice _),.vec true _ xs=>some (.int .i64 xs.length)
 | _,_=>none
def foldA (f:Int->Int->Int):AV->List AV->Option AV
 | v,[]=>some v
 | .int k x,.int _ y::r=>foldA f (.int k (f x y)) r
 | _,_=>none
def Zb8 (L:Heap) (T:TypeId) (len cap:AV):Option SR:=
 match (P ()).underlying T,len,cap with
 | some (.slice e),.int _ l,.int _ c =>
  match (P ()).info? e with
  | some i =>
   match i.zero with
   | some z0 =>
    if (ofC z0).cells.length=i.size/\z0.cells.size=i.size/\(ofC z0).cells.all AV.plain=true/\cleanL (ofC z0).cells=true/\0<i.size then
     some { v:=.row L.length 0,L':=some (L++[⟨List.replicate l.toNat (ofC z0),i.size,0,false,true⟩]),asm:=[decide (0<=l),decide (l<=c),decide (c*i.bytes<=1099511627776),decide (c<=1099511627776)] }
    else none
   | none=>none
  | none=>none
 | _,_,_=>none
def ZeN (n:Int):List AV->Bool
 | []=>false
 | .agg (.int _ m::_)::l=>bif n==m then true else ZeN n l
 | _::l=>ZeN n l
def ZbR (z:AV) (n:Int):List AV->AV
 | []=>z
 | .agg [.int _ m,v]::l=>bif n==m then v else ZbR z n l
 | _::l=>ZbR z n l
def mapB (n:Int):List AV->Bool
 | []=>false
 | .agg [.int _ m,.bool b]::l=>bif n==m then b else mapB n l
 | _::l=>mapB n l
def mapI (n:Int):List AV->Int
 | []=>0
 | .agg [.int _ m,.int _ x]::l=>bif n==m then x else mapI n l
 | _::l=>mapI n l
def Zeh (k:IntKind) (n:Int) (v:AV):List AV->List AV
 | []=>[.agg [.int k n,v]]
 | .agg [.int j m,u]::l=>bif n==m then .agg [.int j m,v]::l else .agg [.int j m,u]::Zeh k n v l
 | x::l=>x::Zeh k n v l
def Zbh (n:Int):List AV->Nat
 | []=>0
 | .agg [.int _ m,_]::l=>bif n==m then 0 else Zbh n l+1
 | _::l=>Zbh n l+1
def ZcK (k:IntKind):List AV->Bool
 | []=>true
 | .agg [.int j _,_]::l=>decide (j=k)&&ZcK k l
 | _::_=>false
def Zci:List AV->Bool
 | []=>true
 | .agg [.int _ _,.bool _]::l=>Zci l
 | _::_=>false
def mapIs (k:IntKind):List AV->Bool
 | []=>true
 | .agg [.int _ _,.int j _]::l=>decide (j=k)&&mapIs k l
 | _::_=>false
def Zei (L:Heap) (T:TypeId):Option SR:=
 match (P ()).underlying T with
 | some (.map _ _)=>some { v:=.mapr L.length,L':=some (L++[⟨[],2,0,false,true⟩]) }
 | _=>none
def ZdK (el:Option AV) (z:AV) (n:Int) (ms:List AV):AV × List Bool × List Prop:=
 match el with
 | some x=>(x,[],[ZbR z n ms=x])
 | none=>match z with
  | .bool false=>(.bool (mapB n ms),[Zci ms],[])
  | .int k 0=>(.int k (mapI n ms),[mapIs k ms],[])
  | z=>(ZbR z n ms,[],[])
def ZfG (el:Option AV) (L:Heap) (T:TypeId) (m k:AV) (ok:Bool):Option SR:=
 match (P ()).underlying T,m,k with
 | some (.map K E),.mapr r,.int kk n =>
  match L[r]?,(P ()).underlying K,zeroA P E with
  | some row,some (.int _),some z =>
   if z.plain=true then
    let g:=ZdK el z n row.elems
    some { v:=bif ok then .tup [g.1,.bool (ZeN n row.elems)] else g.1,asm:=ZcK kk row.elems::g.2.1,eqs:=g.2.2 }
   else none
  | _,_,_=>none
 | _,_,_=>none
def Zcz (L:Heap) (T:TypeId) (m k v:AV):Option SR:=
 match (P ()).underlying T,m,k with
 | some (.map K _),.mapr r,.int kk n =>
  match L[r]?,(P ()).underlying K with
  | some row,some (.int _) =>
   if v.plain=true/\(row.clean=true->v.clean=true) then
    some { v:=.tup [],L':=some (L.set r { row with elems:=Zeh kk n v row.elems }),asm:=[ZcK kk row.elems] }
   else none
  | _,_=>none
 | _,_,_=>none
def Zdc (el:Option AV) (L:Heap) (T:TypeId) (m k:AV):Option SR:=
 match (P ()).underlying T,m,k with
 | some (.map K E),.mapr r,.int kk n =>
  match L[r]?,(P ()).underlying K,zeroA P E with
  | some row,some (.int _),some z =>
   if z.plain=true/\z.clean=true then
    let g:=ZdK el z n row.elems
    some { v:=.tup [g.1,.int .i64 (Zbh n row.elems)],L':=some (L.set r { row with elems:=Zeh kk n (ZbR z n row.elems) row.elems }),asm:=ZcK kk row.elems::g.2.1,eqs:=g.2.2 }
   else none
  | _,_,_=>none
 | _,_,_=>none
def ZbX (v:AV):Nat->List AV->List AV
 | _,[]=>[]
 | 0,.agg [k,_]::l => .agg [k,v]::l
 | 0,x::l=>x::l
 | i+1,x::l=>x::ZbX v i l
def Zcf (L:Heap) (m i v:AV):Option SR:=
 match m,i with
 | .mapr r,.int _ n =>
  match L[r]? with
  | some row =>
   if v.plain=true/\(row.clean=true->v.clean=true) then
    some { v:=.tup [],L':=some (L.set r { row with elems:=ZbX v n.toNat row.elems }),asm:=[decide (0<=n),decide (n.toNat<row.elems.length)] }
   else none
  | none=>none
 | _,_=>none
def boxA (L:Heap) (x:AV):Option SR:=
 if x.cells.all AV.plain=true then some { v:=.ptr L.length 0 0 0,L':=some (L++[⟨[x],x.cells.length,0,false,false⟩]) } else none
def pickA (c a b:AV):Option AV:=
 match c with
 | .bool t=>match a,b with
  | .bool x,.bool y=>some (.bool (bif t then x else y))
  | a,b=>some (bif t then a else b)
 | _=>none
abbrev Zax:=FuncId->List AV->Heap->Option (AV × Option Heap)
mutual
def renA (f:Nat->Nat):AV->AV
 | .ptr r v i j => .ptr (f r) v i j
 | .row r v => .row (f r) v
 | .ref r v lo n => .ref (f r) v lo n
 | .mapr r => .mapr (f r)
 | .agg cs => .agg (renL f cs)
 | .tup cs => .tup (renL f cs)
 | .func fn a b => .func fn (renL f a) (renL f b)
 | v=>v
def renL (f:Nat->Nat):List AV->List AV
 | []=>[]
 | c::r=>renA f c::renL f r
end
def Zar:List Nat->Nat->Nat
 | [],_=>0
 | x::l,r=>bif x==r then 0 else Zar l r+1
def ZaC (row:Row):List Nat:=bif row.clean then [] else rowsL row.elems
def Zak (f:Nat->Nat) (row:Row):Row:=bif row.clean then row else { row with elems:=renL f row.elems }
def reachR (L:Heap):Nat->List Nat->List Nat->List Nat
 | 0,_,seen=>seen
 | _+1,[],seen=>seen
 | n+1,r::todo,seen =>
  bif seen.contains r then reachR L n todo seen else
  match L[r]? with
  | some row=>reachR L n (todo++ZaC row) (seen++[r])
  | none=>reachR L n todo (seen++[r])
def ZaF (L:Heap):List Nat->Option (List Row)
 | []=>some []
 | r::rs=>match L[r]?,ZaF L rs with
  | some row,some l=>some (row::l)
  | _,_=>none
def ZcS {α:Type} (l:List α):List Nat->List α->List α
 | r::rs,x::xs=>ZcS (l.set r x) rs xs
 | _,_=>l
def ZfC:List Nat->Bool
 | []=>true
 | r::rs => !(rs.contains r)&&ZfC rs
def ownIn (L:Heap) (args:List AV):Option (List Nat × List AV × Heap):=
 let rs:=reachR L 1000 (rowsL args) []
 match ZaF L rs with
 | some rows =>
  if (ZfC rs&&((rowsL args).all rs.contains&&rows.all fun row=>(ZaC row).all rs.contains))=true then
   some (rs,renL (Zar rs) args,rows.map (Zak (Zar rs)))
  else none
 | none=>none
def ownOut (L:Heap) (rs:List Nat) (v:AV) (o:Option Heap):Option (AV × Option Heap):=
 match o with
 | none=>if ((rowsA v).all fun i=>Nat.blt i rs.length)=true then some (renA (fun i=>rs.getD i 0) v,none) else none
 | some L1 =>
  let ns:=(reachR L1 1000 (rowsA v++List.range rs.length) []).filter fun i=>Nat.ble rs.length i
  let back:=fun i=>bif Nat.blt i rs.length then rs.getD i 0 else L.length+Zar ns i
  let isIn:=fun i=>Nat.blt i rs.length||ns.contains i
  match ZaF L1 (List.range rs.length),ZaF L1 ns with
  | some old,some new =>
   if (ZfC ns&&((rowsA v).all isIn&&(old++new).all fun row=>(ZaC row).all isIn))=true then
    some (renA back v,some (ZcS L rs (old.map (Zak back))++new.map (Zak back)))
   else none
  | _,_=>none
mutual
def freshA:AV->Bool
 | .row _ _=>true
 | .agg cs=>freshL cs
 | .tup cs=>freshL cs
 | v=>v.scalar
def freshL:List AV->Bool
 | []=>true
 | c::r=>freshA c&&freshL r
end
def ZeF (inl:FuncId->Bool) (call:Zax) (L:Heap) (g:FuncId) (args:List AV):Option SR:=
 bif inl g then
  match ownIn L args with
  | some (rs,args',Lc) =>
   match call g args' Lc with
   | some (v,o)=>match ownOut L rs v o with
    | some (v',L')=>some { v:=v',L':=L',calls:=[⟨true,true,g,args',Lc,v,o.getD Lc⟩] }
    | none=>none
   | none=>none
  | none=>none
 else
  match pureL L args with
  | some ds =>
   match call g ds [] with
   | some (d,none) =>
    if d.clean=true then
     match d.scalar||Za0 L (rowsL args),rowsL args with
     | true,_ | _,[]=>some { v:=d,asm:=versL L args,calls:=[⟨true,false,g,ds,[],d,[]⟩] }
     | false,rs=>some { v:=d,L':=some (ZaT rs L),asm:=versL L args,calls:=[⟨true,false,g,ds,[],d,[]⟩] }
    else none
   | some (v,some L1) =>
    match rowsA v with
    | [j]=>match L1[j]? with
     | some row =>
      if (freshA v&&row.clean)=true then
       some { v:=renA (fun _=>L.length) v,L':=some (L++[row]),asm:=versL L args++[scalarL row.elems],calls:=[⟨true,true,g,ds,[],v,L1⟩] }
      else none
     | none=>none
    | _=>none
   | none=>none
  | none=>none
def Zbu (inl:FuncId->Bool) (call:Zax) (ρ:Operand->AV) (L:Heap) (c:Call):Option SR:=
 match c.callee with
 | .builtin b =>
  match b,c.args.toList,c.argTypes.toList with
  | .append,[s,x],[T,X]=>match (P ()).underlying X with
   | some (.slice _) | some .string=>Zcr P L T (ρ s) (ρ x)
   | some (.int _)=>ZdX P L T (ρ s) (ρ x)
   | _=>none
  | .clear,[d],T::_=>clearA P L T (ρ d)
  | .len,[x],T::_=>lenA P L T (ρ x)
  | .cap,[x],T::_=>ZbE (capA P T (ρ x))
  | .min,x::xs,_=>ZbE (foldA (fun x y=>if y<x then y else x) (ρ x) (xs.map ρ))
  | .max,x::xs,_=>ZbE (foldA (fun x y=>if y>x then y else x) (ρ x) (xs.map ρ))
  | _,_,_=>none
 | .value f =>
  match ρ f with
  | .func (.func g) first captured=>ZeF inl call L g (first++c.args.toList.map ρ++captured)
  | _=>none
 | .invoke _ _=>none
inductive Ans where
 | elem (x:AV)
 | keep
 | call (v:AV) (L':Option Heap)
def ZaY (inl:FuncId->Bool) (call:Zax) (an:Option Ans) (ρ':Za4->Operand->AV) (L:Heap) (o:Oper):Option SR:=
 let ρ:=ρ' []
 let el:Option AV:=match an with
  | some (.elem x)=>some x
  | _=>none
 match o.op with
 | .move x | .assign x=>some { v:=ρ x }
 | .pick c a b=>match c with
  | .tmp d=>ZbE (pickA (ρ c) (ρ' [(d,true)] a) (ρ' [(d,false)] b))
  | _=>ZbE (pickA (ρ c) (ρ a) (ρ b))
 | .alloc T=>match zeroA P T with
  | some z=>boxA L z
  | none=>none
 | .box _ x=>boxA L (ρ x)
 | .build T parts=>ZbE (buildA P T (parts.toList.map fun (i,x)=>(i,ρ x)))
 | .buildSlice T len parts=>Zbd P (match an with | some .keep=>true | _=>false) L T len (parts.toList.map fun (i,x)=>(i,ρ x))
 | .load T a=>loadA P el L T (ρ a)
 | .store T a x=>Zgr P el L T (ρ a) (ρ x)
 | .nilCheck x=>match ρ x with
  | .ptr r ver i j=>some { v:=.ptr r ver i j }
  | .eptr es xs i j=>some { v:=.eptr es xs i j }
  | _=>none
 | .binOp op T x y _=>binA P op T (ρ x) (ρ y)
 | .unOp op _ x=>ZbE (unA op (ρ x))
 | .convert src dst x=>convS P src dst (ρ x)
 | .makeFunc fn first captured=>some { v:=.func fn (first.toList.map ρ) (captured.toList.map ρ) }
 | .makeSlice T l c=>Zb8 P L T (ρ l) (ρ c)
 | .slice T x lo hi mx=>match (P ()).underlying T with
  | some (.array n e)=>if (lo.isNone&&(hi.isNone&&mx.isNone))=true then Zbw P L n e (ρ x) else none
  | _=>Zgt P L T (ρ x) (lo.map ρ) (hi.map ρ) (mx.map ρ)
 | .fieldAddr T x f=>ZbE (Zez P T (ρ x) f)
 | .field T x f=>ZbE (fieldA P T (ρ x) f)
 | .indexAddr T x i=>ZbG P L T (ρ x) (ρ i)
 | .index T x i=>ZgK P T (ρ x) (ρ i)
 | .makeMap T q=>if q.isNone=true then Zei P L T else none
 | .lookup T m k ok=>ZfG P el L T (ρ m) (ρ k) ok
 | .mapUpdate T m k x=>Zcz P L T (ρ m) (ρ k) (ρ x)
 | .mapEntry T m k=>Zdc P el L T (ρ m) (ρ k)
 | .entryStore _ m i x=>Zcf L (ρ m) (ρ i) (ρ x)
 | .extract t i=>match ρ t with
  | .tup vs=>ZbE vs[i]?
  | _=>none
 | .call c=>match an with
  | some (.call v L')=>Zbu P inl (fun _ _ _=>some (v,L')) ρ L c
  | _=>Zbu P inl call ρ L c
 | _=>none
end
def putE (n:Nat) (d:Option Tmp) (c:Za4) (v:AV) (env:Env):Option Env:=
 match d with
 | some d=>if d<n/\(((d,c,v)::env).any fun e=>e.2.1.any fun x=>x.1==d)=false then some ((d,c,v)::env) else none
 | none=>some env
def Za1 (ops:Array Oper) (env:Env) (o:Oper):Option (Option Za4):=
 match o.guard with
 | none=>some (some [])
 | some (j,want) =>
  match (ops[j]?).bind (·.dst) with
  | none=>some none
  | some d=>match env.get d with
   | (ch,.bool _)=>some (some ((d,want)::ch))
   | (_,.tup [])=>some none
   | _=>none
structure RS where
 env:Env
 L:Heap
 asm:List Bool:=[]
 eqs:List Prop:=[]
 calls:List CF:=[]
def CF.under (b:Bool) (c:CF):CF:={ c with cond:=b&&c.cond }
def mergeH (b:Bool) (L:Heap):Option Heap->Heap
 | some L'=>bif b then L' else L
 | none=>L
def Zfw (ρ:Operand->AV) (o:Oper):Option (List Nat):=
 match o.op with
 | .load _ a=>some (rowsA (ρ a))
 | .indexAddr _ x _=>some (rowsA (ρ x))
 | .slice _ x _ _ _=>some (rowsA (ρ x))
 | .buildSlice _ _ _=>some []
 | .call c=>match c.callee,c.args.toList with
  | .builtin .len,[x]=>some (rowsA (ρ x))
  | .value f,l=>match ρ f with
   | .func (.func _) first captured=>some (rowsL (first++l.map ρ++captured))
   | _=>none
  | _,_=>none
 | _=>none
def Zb9 (ρ:Operand->AV) (L:Heap) (o:Oper):Option (List Nat):=
 match o.op with
 | .alloc _ | .box _ _=>some [L.length]
 | .makeSlice _ _ _=>some [L.length]
 | .store _ a _=>some (rowsA (ρ a))
 | .call c=>match c.callee,c.args.toList with
  | .builtin .append,[s,_]=>match ρ s with
   | .row r _=>some [r]
   | .ref r _ _ _=>some [r]
   | _=>some [L.length]
  | .value _,_=>some [L.length]
  | _,_=>none
 | _=>none
def Zcc (L:Heap) (o:Oper) (L':Option Heap) (calls:List CF):Bool:=
 match o.op with
 | .call c=>match c.callee with
  | .value _=>(calls.all fun c=>c.own&&c.L.isEmpty)&&(match L' with
   | some l=>Nat.beq l.length (L.length+1)
   | none=>true)
  | _=>true
 | _=>true
def ZcE (ρ:Operand->AV) (L:Heap) (hot:Nat) (o:Oper):Bool:=
 o.guard.isNone&&(match Nat.beq (hot % 2) 1 with
  | true=>match Zfw ρ o with
   | some l=>l.all fun r=>Nat.beq r ((hot-3) / 2)
   | none=>false
  | false=>match Zb9 ρ L o with
   | some l=>l.all fun r=>Nat.beq r ((hot-3) / 2)
   | none=>false)
def Zcn (ρ:Operand->AV) (o:Oper):Bool:=
 o.guard.isNone&&(match o.op with
  | .call c=>match c.callee,c.args.toList with
   | .builtin .append,[s,_]=>(match ρ s with
    | .vnil=>true
    | _=>false)
   | _,_=>false
  | _=>false)
def ZbV (h:Nat):Bool:=Nat.ble 1000002 h&&Nat.beq (h % 2) 0
def Zc9 (L:Heap) (o:Oper) (u:Nat):Bool:=
 o.guard.isNone&&(match o.op with
  | .alloc _ | .box _ _ | .makeSlice _ _ _=>Nat.ble u L.length
  | _=>false)
def fits (ρ:Operand->AV) (L:Heap) (o:Oper) (hot:Nat) (L':Option Heap) (calls:List CF):Bool:=
 match hot with
 | 0=>L'.isNone && !(calls.any fun c=>c.own)
 | 1=>L'.isNone
 | 2=>true
 | h=>bif Nat.beq h 1000000 then Zcn ρ o else bif ZbV h then Zc9 L o ((h-1000002) / 2) else ZcE ρ L h o&&(bif Nat.beq (h % 2) 1 then L'.isNone && !(calls.any fun c=>c.own) else Zcc L o L' calls)
def Zbk (P:Unit->Program) (inl:FuncId->Bool) (call:Zax) (n:Nat) (ops:Array Oper) (an:Option Ans) (hot:Nat) (o:Oper) (s:RS):Option RS:=
 match Za1 ops s.env o with
 | none=>none
 | some none=>match putE n o.dst [] (.tup []) s.env with
  | some env=>some { s with env }
  | none=>none
 | some (some c) =>
  match ZaY P inl call an (fun ex=>ev s.env (ex++c)) s.L o with
  | none=>match Zao s.env c with
   | true=>none
   | false=>match putE n o.dst c .any s.env with
    | some env=>some { s with env }
    | none=>none
  | some r =>
   match putE n o.dst c r.v s.env with
   | none=>none
   | some env =>
    match fits (ev s.env c) s.L o hot r.L' r.calls with
    | false=>none
    | true =>
     match c with
     | []=>some ⟨env,r.L'.getD s.L,s.asm++r.asm,s.eqs++r.eqs,s.calls++r.calls⟩
     | _=>some ⟨env,mergeH (Zao s.env c) s.L r.L',s.asm++r.asm.map (fun a => !(Zao s.env c)||a),s.eqs++r.eqs.map (fun p=>(Zao s.env c=true->p)),s.calls++r.calls.map (CF.under (Zao s.env c))⟩
def Zav (P:Unit->Program) (inl:FuncId->Bool) (call:Zax) (n:Nat) (ops:Array Oper) (ans:Nat->Option Ans) (hot:Nat->Nat):List Nat->RS->Option RS
 | [],s=>some s
 | i::rest,s =>
  match ops[i]? with
  | none=>Zav P inl call n ops ans hot rest s
  | some o =>
   match Zbk P inl call n ops (ans i) (hot i) o s with
   | some s'=>Zav P inl call n ops ans hot rest s'
   | none=>none
structure Fi where
 n:Nat
 res:List ResultVar
def Zbq (keep:List Nat) (env:Env):Vars:=
 keep.map fun t=>(t,match env.get t with
  | ([],v)=>v
  | _ => .any)
def lift (env:Vars):Env:=env.map fun e=>(e.1,[],e.2)
def ZcF (P:Unit->Program) (env:Vars) (L:Heap):List ResultVar->Option (List AV)
 | []=>some []
 | .tmp t::r=>match ZcF P env L r with
  | some vs=>some (env.get t::vs)
  | none=>none
 | .cell a T::r=>match loadA P none L T (env.get a),ZcF P env L r with
  | some x,some vs=>bif x.asm.all fun b=>b then some (x.v::vs) else none
  | _,_=>none
def finish (P:Unit->Program) (fi:Fi) (env:Vars) (L:Heap):Option AV:=
 match ZcF P env L fi.res with
 | some [v]=>some v
 | some vs=>some (.tup vs)
 | none=>none
end Go.Av

namespace Go.Av
open Go.RowKit
structure Mach where
 P:Unit->Program
 inl:FuncId->Bool
inductive Conf where
 | run (fi:Fi) (todo:List Item) (env:Vars) (L:Heap)
 | own (f:FuncId) (args:List AV) (L:Heap)
 | pure (f:FuncId) (args:List AV)
structure BI where
 blk:Nat
 off:Nat
 es:Nat
 cap:Nat
 mp:Bool
structure St where
 base:Nat
 acc:Nat->Nat->Prop
 L:Heap
 β:List BI
 w:World
def Imm (S:St) (b off:Nat):Prop:=
 S.acc b off /\ ∀ (r:Nat) (info:BI),S.β[r]? = some info->info.blk=b ->
  ∃ row,S.L[r]? = some row/\row.frozen=true/\info.off<=off/\off<info.off+row.elems.length*info.es
def Za5 (es:Nat) (xs:List AV):Prop:=∀ (i:Nat) (x:AV),xs[i]? = some x->x.cells.length=es/\x.cells.all AV.plain=true
inductive DRel (S:St):AV->Value->Prop
 | bool (b:Bool):DRel S (.bool b) (.bool b)
 | int (k:IntKind) (n:Int):DRel S (.int k n) (.int k n)
 | str (s:List UInt8):DRel S (.str s) (.string ⟨⟨s⟩⟩)
 | flt (b:Nat):DRel S (.flt b) (.float .f64 b)
 | nilp:DRel S .nilp (.pointer none)
 | nilf:DRel S .nilf .nilFunc
 | nilm:DRel S .nilm (.map none)
 | agg (cs:List AV) (vs:List Value):cs.length=vs.length->(∀ (i:Nat) c v,cs[i]? = some c->vs[i]? = some v->DRel S c v)->DRel S (.agg cs) (.agg ⟨vs⟩)
 | tup (cs:List AV) (vs:List Value):cs.length=vs.length->(∀ (i:Nat) c v,cs[i]? = some c->vs[i]? = some v->DRel S c v)->DRel S (.tup cs) (.tuple ⟨vs⟩)
 | func (fn:Fn) (a b:List AV) (va vb:List Value):a.length=va.length->b.length=vb.length ->
   (∀ (i:Nat) c v,a[i]? = some c->va[i]? = some v->DRel S c v)->(∀ (i:Nat) c v,b[i]? = some c->vb[i]? = some v->DRel S c v)->DRel S (.func fn a b) (.func fn ⟨va⟩ ⟨vb⟩)
 | eptr (es:Nat) (xs:List AV) (i j b off:Nat):Za5 es xs ->
   (∀ (i:Nat) x (k:Nat) c,xs[i]? = some x->x.cells[k]? = some c->(∃ cv,S.w.cell? ⟨b,off+i*es+k,none⟩=some cv)/\Imm S b (off+i*es+k)) ->
   (∀ (i:Nat) x (k:Nat) c cv,xs[i]? = some x->x.cells[k]? = some c->S.w.cell? ⟨b,off+i*es+k,none⟩=some cv->DRel S c cv) ->
   DRel S (.eptr es xs i j) (.pointer (some ⟨b,off+i*es+j,none⟩))
 | vnil:DRel S .vnil (.slice none 0 0)
 | vecE (f:Bool) (es:Nat) (a:Option Addr) (cap:Nat):(f=true->cap=0)->DRel S (.vec f es []) (.slice a 0 cap)
 | vec (f:Bool) (es:Nat) (xs:List AV) (b off cap:Nat):Za5 es xs->(f=true->cap=xs.length)->xs.length<=cap ->
   (∀ (i:Nat) x (k:Nat) c,xs[i]? = some x->x.cells[k]? = some c->(∃ cv,S.w.cell? ⟨b,off+i*es+k,none⟩=some cv)/\Imm S b (off+i*es+k)) ->
   (∀ (i:Nat) x (k:Nat) c cv,xs[i]? = some x->x.cells[k]? = some c->S.w.cell? ⟨b,off+i*es+k,none⟩=some cv->DRel S c cv) ->
   DRel S (.vec f es xs) (.slice (some ⟨b,off,none⟩) xs.length cap)
inductive Rel (S:St):AV->Value->Prop
 | any (v:Value):Rel S .any v
 | data (a:AV) (v:Value):DRel S a v->Rel S a v
 | agg (cs:List AV) (vs:List Value):cs.length=vs.length->(∀ (i:Nat) c v,cs[i]? = some c->vs[i]? = some v->Rel S c v)->Rel S (.agg cs) (.agg ⟨vs⟩)
 | tup (cs:List AV) (vs:List Value):cs.length=vs.length->(∀ (i:Nat) c v,cs[i]? = some c->vs[i]? = some v->Rel S c v)->Rel S (.tup cs) (.tuple ⟨vs⟩)
 | func (fn:Fn) (a b:List AV) (va vb:List Value):a.length=va.length->b.length=vb.length ->
   (∀ (i:Nat) c v,a[i]? = some c->va[i]? = some v->Rel S c v)->(∀ (i:Nat) c v,b[i]? = some c->vb[i]? = some v->Rel S c v)->Rel S (.func fn a b) (.func fn ⟨va⟩ ⟨vb⟩)
 | ptr (r ver i j:Nat) (row:Row) (info:BI) (v:Value):((∃ a,v = .pointer (some a))/\info.mp=false)->S.L[r]? = some row->S.β[r]? = some info->ver<=row.ver ->
   (row.ver=ver->v = .pointer (some ⟨info.blk,info.off+i*info.es+j,none⟩))->Rel S (.ptr r ver i j) v
 | row (r ver:Nat) (row:Row) (info:BI) (v:Value):((∃ a n c,v = .slice (some a) n c)/\info.mp=false)->S.L[r]? = some row->S.β[r]? = some info->ver<=row.ver ->
   (row.ver=ver->v = .slice (some ⟨info.blk,info.off,none⟩) row.elems.length info.cap)->Rel S (.row r ver) v
 | ref (r ver lo len:Nat) (row:Row) (info:BI) (v:Value):((∃ a n c,v = .slice (some a) n c)/\info.mp=false)->S.L[r]? = some row->S.β[r]? = some info->ver<=row.ver ->
   (row.ver=ver -> ∃ a cap,v = .slice (some a) len cap/\len<=cap/\lo+len<=row.elems.length/\((a=⟨info.blk,info.off+lo*info.es,none⟩/\lo+cap=info.cap)\/cap=0)) ->
   Rel S (.ref r ver lo len) v
 | mapr (r:Nat) (row:Row) (info:BI) (v:Value):v = .map (some info.blk)->info.mp=true->S.L[r]? = some row->S.β[r]? = some info->Rel S (.mapr r) v
def EntOk (S:St) (cl:Bool) (i:Nat) (e:MapEntry) (x:AV):Prop:=
 e.born=i /\ ∃ k n v,x = .agg [.int k n,v]/\e.key = .int k n/\v.plain=true/\Rel S v e.val/\(cl=true->DRel S v e.val)
def MapOk (S:St) (row:Row) (b:Nat):Prop:=
 ∃ es,S.w.heap[b]? = some (.map es es.size)/\es.size=row.elems.length/\row.es=2 /\ ∀ (i:Nat) e x,es[i]? = some e->row.elems[i]? = some x->EntOk S row.clean i e x
structure HeapOk (S:St):Prop where
 base:S.base<=S.w.heap.size
 len:S.L.length=S.β.length
 blk:∀ (r:Nat) info,S.β[r]? = some info->S.base<=info.blk/\info.blk<S.w.heap.size
 inj:∀ (r r':Nat) info info',S.β[r]? = some info->S.β[r']? = some info'->info.blk=info'.blk->r=r'
 maps:∀ (r:Nat) row info,S.L[r]? = some row->S.β[r]? = some info->info.mp=true->MapOk S row info.blk
 cells:∀ (r:Nat) row info,S.L[r]? = some row->S.β[r]? = some info->info.mp=false->info.es=row.es/\row.elems.length<=info.cap /\
  ∃ cs T,S.w.heap[info.blk]? = some (.cells cs T (0,0))/\info.off+info.cap*info.es<=cs.size
 elems:∀ (r:Nat) row,S.L[r]? = some row->Za5 row.es row.elems
 rel:∀ (r:Nat) row info (i:Nat) x (k:Nat) c cv,S.L[r]? = some row->S.β[r]? = some info->row.elems[i]? = some x->x.cells[k]? = some c ->
  S.w.cell? ⟨info.blk,info.off+i*info.es+k,none⟩=some cv->Rel S c cv
 clean:∀ (r:Nat) row info (i:Nat) x (k:Nat) c cv,S.L[r]? = some row->S.β[r]? = some info->row.clean=true->row.elems[i]? = some x->x.cells[k]? = some c ->
  S.w.cell? ⟨info.blk,info.off+i*info.es+k,none⟩=some cv->DRel S c cv
 acq:∀ (r:Nat) info off,S.β[r]? = some info->S.acc info.blk off
 anew:∀ b off,S.w.heap.size<=b->S.acc b off
structure Ext (S S':St):Prop where
 base:S'.base=S.base
 acc:S'.acc=S.acc
 imm:∀ b off,Imm S b off->b<S.w.heap.size->Imm S' b off/\S'.w.cell? ⟨b,off,none⟩=S.w.cell? ⟨b,off,none⟩
 rows:∀ (r:Nat) row info,S.L[r]? = some row->S.β[r]? = some info -> ∃ row' info',S'.L[r]? = some row'/\S'.β[r]? = some info'/\row.ver<=row'.ver /\
  (row'.ver=row.ver->info'=info/\(info.mp=false->row'.elems.length=row.elems.length))/\info'.mp=info.mp/\(info.mp=true->info'=info)
 below:Below S.base S.w S'.w
 fresh:∀ (r:Nat) info',S'.β[r]? = some info'->(∃ (q:Nat) (info:BI),S.β[q]? = some info/\info.blk=info'.blk)\/S.w.heap.size<=info'.blk
 other:∀ b,S.base<=b->b<S.w.heap.size->(∀ (r:Nat) info,S.β[r]? = some info->info.blk ≠ b)->S'.w.heap[b]? = S.w.heap[b]?
def RelL (S:St) (cs:List AV) (vs:List Value):Prop:=cs.length=vs.length /\ ∀ (i:Nat) c v,cs[i]? = some c->vs[i]? = some v->Rel S c v
def VRel (S:St) (env:Vars) (tm:Array Value):Prop:=∀ t,Rel S (env.get t) (tm.getD t undef)
def Zc8 (ops:Array Oper):Bool:=ops.toList.all fun o=>match o.op with
 | .defer _=>false
 | _=>true
def Zch:Code->Bool
 | .skip=>true
 | .region _ ops _=>Zc8 ops
 | .seq a b=>Zch a&&Zch b
 | .cond _ a b=>Zch a&&Zch b
 | .block _ b=>Zch b
 | .loop b=>Zch b
 | .exit _=>true
 | _=>false
def Zd3:Item->Bool
 | .code c=>Zch c
 | .inBlock _=>true
 | .inLoop b=>Zch b
 | _=>false
def Zcu (k:List Item):Bool:=k.all Zd3
def ZeM (D:Nat):Deferred:={ target:=.collected D,args:=#[] }
def MarksOk (n0:Nat) (w:World) (Ds:List Nat):Prop:=Ds.Nodup /\ ∀ D ∈ Ds,n0<=D/\w.heap[D]? = some (.deferred (some []))
def ZbA:Obj->Bool
 | .cells .. => false
 | .map .. => false
 | _=>true
inductive Near:World->World->Prop
 | refl (w:World):Near w w
 | put {w w1:World} {D:Nat} {o:Obj} (o':Obj):Near w w1->w1.heap[D]? = some o->ZbA o=true->ZbA o'=true->Near w (w1.putObj D o')
def ZaU (M:Mach) (fi:Fi) (todo:List Item) (env:Vars) (L:Heap) (Q:AV->Heap->Prop):Prop:=
 ∀ (S:St) (b:Frame) (a:Act) (cs:List Frame) (fn:Func),(M.P ()).funcs[b.fn]? = some fn->fn.results.toList=fi.res->b.kind = .normal->(b.roundOf=none\/Zcu todo=true) ->
  HeapOk S->S.L=L->VRel S env a.tmps->fi.n<=a.tmps.size ->
  ∃ a' todo' Ds w' β' v L',Q v L'/\(todo'=[] \/ ∃ k,todo' = .code .ret::k)/\(b.roundOf=none\/(todo'=[]/\Ds=[])) /\
   Steps (M.P ()) (lone (b.atR a todo) cs S.w) (lone (b.atR a' todo') cs w')/\a'.defers=Ds.map ZeM++a.defers/\MarksOk S.w.heap.size w' Ds /\
   (∀ w'',Near w' w'' -> ∃ cv,(results fn a'.tmps).run (M.P ()) w'' = .ok cv w''/\Rel ⟨S.base,S.acc,L',β',w''⟩ v cv) /\
   HeapOk ⟨S.base,S.acc,L',β',w'⟩/\Ext S ⟨S.base,S.acc,L',β',w'⟩
def OwnQ (M:Mach) (f:FuncId) (args:List AV) (L:Heap) (Q:AV->Heap->Prop):Prop:=
 ∀ (S:St) (cargs:List Value),HeapOk S->S.L=L->RelL S args cargs ->
  (∀ w,(callFunc f ⟨cargs⟩).run (M.P ()) w = .ok (.enter f ⟨cargs⟩) w) /\
  Calls (M.P ()) f ⟨cargs⟩ S.w fun
   | .returned cv,w' => ∃ v L' β',Q v L'/\HeapOk ⟨S.base,S.acc,L',β',w'⟩/\Ext S ⟨S.base,S.acc,L',β',w'⟩/\Rel ⟨S.base,S.acc,L',β',w'⟩ v cv
   | _,_=>False
def PureR (M:Mach) (f:FuncId) (args:List AV) (Q:AV->Heap->Prop):Prop:=
 ∀ (base:Nat) (acc:Nat->Nat->Prop) (w:World) (cargs:List Value),base<=w.heap.size->(∀ b off,base<=b->acc b off)->RelL ⟨base,acc,[],[],w⟩ args cargs ->
  (∀ w,(callFunc f ⟨cargs⟩).run (M.P ()) w = .ok (.enter f ⟨cargs⟩) w) /\
  Calls (M.P ()) f ⟨cargs⟩ w fun
   | .returned cv,w' => ∃ d,Q d []/\Below base w w'/\DRel ⟨base,acc,[],[],w'⟩ d cv
   | _,_=>False
def Means (M:Mach):Conf->(AV->Heap->Prop)->Prop
 | .run fi todo env L,Q=>ZaU M fi todo env L Q
 | .own f args L,Q=>OwnQ M f args L Q
 | .pure f args,Q=>PureR M f args Q
end Go.Av

namespace Go.Av
def Zda (o:Oper):Bool:=
 match o.op with
 | .move _ | .assign _ | .pick .. | .build .. | .nilCheck _ | .binOp .. | .unOp .. | .convert .. | .makeFunc .. | .fieldAddr .. | .field .. | .index .. | .extract .. => true
 | .call c=>match c.callee with
  | .builtin .max=>true
  | .builtin .min=>true
  | _=>false
 | _=>false
def Zdh (o:Oper):Bool:=
 match o.op with
 | .alloc _ | .box .. => true
 | _=>false
def ZfX (o:Oper):Bool:=
 o.guard.isNone&&match o.op with
 | .load .. => true
 | .indexAddr .. => true
 | .call c=>match c.callee with
  | .value _=>true
  | _=>false
 | _=>false
def ZeT (ops:Array Oper) (i:Nat):Nat->Nat->Bool
 | 0,_=>false
 | fuel+1,j=>match ops[j]? with
  | some o=>o.after.toList.any fun e=>Region.binds .any e&&(e.on==i||ZeT ops i fuel e.on)
  | none=>false
def cool (h:Nat):Bool:=Nat.blt h 2||(Nat.ble 3 h&&Nat.beq (h % 2) 1)
def leaves (h q:Nat):Bool:=bif ZbV h then Nat.blt q ((h-1000002) / 2) else !Nat.beq ((h-3) / 2) q
def rowSwap (h k:Nat):Bool:=Nat.ble 3 h&&Nat.ble 3 k&&Nat.beq ((h+k) % 2) 1&&((bif Nat.beq (h % 2) 0 then leaves h ((k-3) / 2) else leaves k ((h-3) / 2))&&(!Nat.beq h 1000000 && !Nat.beq k 1000000))
def Zcb (hot:Nat->Nat) (ops:Array Oper) (i j:Nat) (a b:Oper):Bool:=
 a.apart ops b&&(((cool (hot i)||Zda b)&&(cool (hot j)||Zda a||((Zdh b||Nat.beq (hot j) 1000000)&&(ZfX a&&Nat.beq (hot i) 0))))||(rowSwap (hot i) (hot j)&&(a.guard.isNone&&b.guard.isNone)))
def edgesOk (ops:Array Oper):Bool:=
 (List.range ops.size).all fun j=>match ops[j]? with
  | some o=>o.after.toList.all fun e => !Region.binds .any e||Nat.blt e.on j
  | none=>true
def ZgR (hot:Nat->Nat) (ops:Array Oper):Bool:=
 edgesOk ops&&(List.range ops.size).all fun j=>(List.range j).all fun i =>
  match ops[i]?,ops[j]? with
  | some a,some b=>Zcb hot ops i j a b||ZeT ops i ops.size j
  | _,_=>true
def ZeB (hot:Nat->Nat) (ops:Array Oper) (p:Nat):Bool:=
 edgesOk ops&&((match ops[p+1]? with
  | some o=>o.after.toList.all fun e => !Region.binds .any e || !Nat.beq e.on p
  | none=>false)&&(List.range ops.size).all fun j=>(List.range j).all fun i=>(Nat.beq i p&&Nat.beq j (p+1)) ||
  match ops[i]?,ops[j]? with
  | some a,some b=>Zcb hot ops i j a b||ZeT ops i ops.size j
  | _,_=>true)
def sw (p i:Nat):Nat:=bif Nat.beq i p then p+1 else bif Nat.beq i (p+1) then p else i
def ZdH (hc:List Nat) (i:Nat):Option Nat:=
 match hc with
 | []=>none
 | x::l=>bif Nat.ble 2000 x&&Nat.beq (x % 1000) i then some (x / 1000-2) else ZdH l i
def hotOf (ops:Array Oper) (ZaG:List Nat) (i:Nat):Nat:=
 match ops[i]? with
 | some o=>match o.op with
  | .alloc _ | .box .. | .store .. | .makeSlice .. => match ZdH ZaG i with
   | some r=>4+2*r
   | none=>2
  | .makeMap .. | .mapUpdate .. | .mapEntry .. | .entryStore .. => 2
  | .load .. | .indexAddr .. | .slice .. => match ZdH ZaG i with
   | some r=>3+2*r
   | none=>0
  | .buildSlice .. => match ZdH ZaG i with
   | some r=>3+2*r
   | none=>bif ZaG.contains i then 2 else 0
  | .call c=>match c.callee with
   | .builtin .append=>match ZdH ZaG i with
    | some r=>4+2*r
    | none=>bif ZaG.contains (i+1000) then 1000000 else 2
   | .builtin .copy | .builtin .clear=>2
   | .builtin .len=>match ZdH ZaG i with
    | some r=>3+2*r
    | none=>0
   | .builtin _=>0
   | _=>match ZdH ZaG i with
    | some r=>bif ZaG.contains i then 4+2*r else 3+2*r
    | none=>bif ZaG.contains i then 2 else bif ZaG.contains (i+1000) then 1 else 0
  | _=>bif ZaG.contains i then 2 else 0
 | none=>0
inductive Weak:AV->AV->Prop
 | refl (a:AV):Weak a a
 | vnil (es:Nat):Weak .vnil (.vec false es [])
 | full (es:Nat) (xs:List AV):Weak (.vec true es xs) (.vec false es xs)
 | tup (xs ys:List AV):xs.length=ys.length->(∀ (i:Nat) x y,xs[i]? = some x->ys[i]? = some y->Weak x y)->Weak (.tup xs) (.tup ys)
 | agg (xs ys:List AV):xs.length=ys.length->(∀ (i:Nat) x y,xs[i]? = some x->ys[i]? = some y->Weak x y)->Weak (.agg xs) (.agg ys)
 | cells (f:Bool) (es:Nat) (xs ys:List AV):xs.length=ys.length->(∀ (i:Nat) x y,xs[i]? = some x->ys[i]? = some y->Weak x y)->(∀ y ∈ ys,y.cells=[y]/\y.plain=true)->(∀ x ∈ xs,x.cells=[x])->Weak (.vec f es xs) (.vec f es ys)
def ZaN (i:Nat):List AV->Vars
 | []=>[]
 | a::r=>(i,a)::ZaN (i+1) r
def renV (f:Nat->Nat) (env:Vars):Vars:=env.map fun e=>(e.1,renA f e.2)
def Zbn (L:Heap) (rs:List Nat) (env:Vars):Option (Vars × Heap):=
 match ZaF L rs with
 | some rows =>
  if (ZfC rs&&((rowsL (env.map (·.2))).all rs.contains&&rows.all fun row=>(ZaC row).all rs.contains))=true then
   some (renV (Zar rs) env,rows.map (Zak (Zar rs)))
  else none
 | none=>none
def Zb0 (n:Nat) (rs:List Nat) (i:Nat):Nat:=bif Nat.blt i rs.length then rs.getD i 0 else n+(i-rs.length)
def ZdW (L:Heap) (rs:List Nat) (L1:Heap):Heap:=
 ZcS L rs ((L1.take rs.length).map (Zak (Zb0 L.length rs)))++(L1.drop rs.length).map (Zak (Zb0 L.length rs))
def isR (v:AV) (L:Heap):AV->Heap->Prop:=fun x K=>x=v/\K=L
def nilTest (P:Unit->Program) (env:Env) (o:Oper):Option Nat:=
 match o.guard,o.dst,o.op with
 | none,some d,.binOp op T x y _ =>
  match op,(P ()).underlying T,ev env [] x,ev env [] y with
  | .eql,some (.slice _),.vec _ _ [],.vnil=>some d
  | .eql,some (.slice _),.vnil,.vec _ _ []=>some d
  | .neq,some (.slice _),.vec _ _ [],.vnil=>some d
  | .neq,some (.slice _),.vnil,.vec _ _ []=>some d
  | _,_,_,_=>none
 | _,_,_=>none
def nilRun (P:Unit->Program) (inl:FuncId->Bool) (n:Nat) (ops:Array Oper) (i:Nat) (env:Vars) (L:Heap) (b:Bool):Option RS:=
 match ops[i]?,Zav P inl (fun _ _ _=>none) n ops (fun _=>none) (fun _=>2) (List.range i) ⟨lift env,L,[],[],[]⟩ with
 | some o,some s1=>match nilTest P s1.env o with
  | some d=>match putE n (some d) [] (.bool b) s1.env with
   | some env1=>Zav P inl (fun _ _ _=>none) n ops (fun _=>none) (fun _=>2) ((List.range ops.size).drop (i+1)) ⟨env1,s1.L,s1.asm,s1.eqs,s1.calls⟩
   | none=>none
  | none=>none
 | _,_=>none
def bothRun (P:Unit->Program) (inl:FuncId->Bool) (call:Zax) (n:Nat) (ops:Array Oper) (ans:Nat->Option Ans) (hot:Nat->Nat) (keep rs:List Nat) (p:Nat) (env:Vars) (L:Heap):Bool->Option (Vars × Heap × List Bool × List Prop × List CF)
 | false=>match Zav P inl call n ops ans hot (List.range ops.size) ⟨lift env,L,[],[],[]⟩ with
  | some s=>some (Zbq keep s.env,s.L,s.asm,s.eqs,s.calls)
  | none=>none
 | true=>match Zav P inl call n ops ans hot ((List.range ops.size).map (sw p)) ⟨lift env,L,[],[],[]⟩ with
  | some s=>match Zbn s.L rs (Zbq keep s.env),Nat.beq rs.length s.L.length&&(List.range L.length).all fun i=>(match rs[i]? with | some r=>Nat.beq r i | none=>false) with
   | some (e,K),true=>some (e,K,s.asm,s.eqs,s.calls)
   | _,_=>none
  | none=>none
def keepV (ks:List Nat) (env:Vars):Vars:=ks.map fun t=>(t,env.get t)
def ZaB (n:Nat) (v:AV) (K:Heap):Bool:=Nat.beq K.length n&&((rowsA v).all (fun r=>Nat.blt r n)&&K.all fun row=>(ZaC row).all fun r=>Nat.blt r n)
def Zat (v:AV) (K:Heap):AV->Heap->Prop:=fun x L=>x=v/\L.take K.length=K
inductive Wp (M:Mach):Conf->(AV->Heap->Prop)->Prop
 | skip {fi k env L Q}:Wp M (.run fi k env L) Q->Wp M (.run fi (.code .skip::k) env L) Q
 | seq {fi a b k env L Q}:Wp M (.run fi (.code a :: .code b::k) env L) Q->Wp M (.run fi (.code (.seq a b)::k) env L) Q
 | cond {fi c a b k env L Q} (t:Bool):evV env c = .bool t->Wp M (.run fi (.code (bif t then a else b)::k) env L) Q->Wp M (.run fi (.code (.cond c a b)::k) env L) Q
 | block {fi id b k env L Q}:Wp M (.run fi (.code b :: .inBlock id::k) env L) Q->Wp M (.run fi (.code (.block id b)::k) env L) Q
 | inBlock {fi id k env L Q}:Wp M (.run fi k env L) Q->Wp M (.run fi (.inBlock id::k) env L) Q
 | loop {fi b k env L Q}:Wp M (.run fi (.code b :: .inLoop b::k) env L) Q->Wp M (.run fi (.code (.loop b)::k) env L) Q
 | inLoop {fi b k env L Q}:Wp M (.run fi (.code b :: .inLoop b::k) env L) Q->Wp M (.run fi (.inLoop b::k) env L) Q
 | exit {fi id k k' env L Q}:exitTo id k=some k'->Wp M (.run fi k' env L) Q->Wp M (.run fi (.code (.exit id)::k) env L) Q
 | region {fi id ops draw k env L Q} (call:Zax) (ans:Nat->Option Ans) (hot:Nat->Nat) (keep:List Nat) (s:RS) :
   (draw=true->ZgR hot ops=true) ->
   Zav M.P M.inl call fi.n ops ans hot (List.range ops.size) ⟨lift env,L,[],[],[]⟩=some s ->
   (∀ b ∈ s.asm,b=true)->(∀ p ∈ s.eqs,p) ->
   (∀ c ∈ s.calls,c.cond=true->c.own=true->Wp M (.own c.f c.args c.L) (isR c.v c.L')) ->
   (∀ c ∈ s.calls,c.cond=true->c.own=false->Wp M (.pure c.f c.args) (isR c.v [])) ->
   Wp M (.run fi k (Zbq keep s.env) s.L) Q->Wp M (.run fi (.code (.region id ops draw)::k) env L) Q
 | nilq {fi id ops k env L Q} (i:Nat) (keep:List Nat) (s:Bool->RS) :
   (∀ b,nilRun M.P M.inl fi.n ops i env L b=some (s b))->(∀ b,(∀ x ∈ (s b).asm,x=true)/\(s b).eqs=[]/\(s b).calls=[]) ->
   (∀ b,Wp M (.run fi k (Zbq keep (s b).env) (s b).L) Q)->Wp M (.run fi (.code (.region id ops false)::k) env L) Q
 | both {fi id ops k env L Q} (call:Zax) (ans:Nat->Option Ans) (hot:Bool->Nat->Nat) (keep rs:List Nat) (p:Nat) (e1:Vars) (L1:Heap) (a:List Bool) (q:List Prop) (cs:List CF) :
   (∀ t,ZeB (hot t) ops p=true)->(∀ t,bothRun M.P M.inl call fi.n ops ans (hot t) keep rs p env L t=some (e1,L1,a,q,cs)) ->
   (∀ b ∈ a,b=true)->(∀ p ∈ q,p) ->
   (∀ c ∈ cs,c.cond=true->c.own=true->Wp M (.own c.f c.args c.L) (isR c.v c.L')) ->
   (∀ c ∈ cs,c.cond=true->c.own=false->Wp M (.pure c.f c.args) (isR c.v [])) ->
   Wp M (.run fi k e1 L1) Q->Wp M (.run fi (.code (.region id ops true)::k) env L) Q
 | ret {fi k env L v Q}:finish M.P fi env L=some v->Q v L->Wp M (.run fi (.code .ret::k) env L) Q
 | done {fi env L v Q}:finish M.P fi env L=some v->Q v L->Wp M (.run fi [] env L) Q
 | own {f args L Q} (fn:Func) (c:Code):(M.P ()).funcs[f]? = some fn->fn.body=some c->(fn.name == "runtime.NumGoroutine")=false ->
   Wp M (.run ⟨fn.ntmps,fn.results.toList⟩ [.code c] (ZaN 0 args) L) Q->Wp M (.own f args L) Q
 | pure {f args Q}:Wp M (.own f args []) (fun v L' => ∃ d d',pureA L' v=some d/\(∀ b ∈ versA L' v,b=true)/\d.clean=true/\Weak d d'/\Q d' [])->Wp M (.pure f args) Q
 | narrow {fi k env L Q} (rs:List Nat) (env':Vars) (Lc:Heap):Zbn L rs env=some (env',Lc) ->
   Wp M (.run fi k env' Lc) (fun v L1=>Q (renA (Zb0 L.length rs) v) (ZdW L rs L1))->Wp M (.run fi k env L) Q
 | weak {f args v d}:Wp M (.pure f args) (isR v [])->Weak v d->Wp M (.pure f args) (isR d [])
 | drop {f args L v K}:ZaB L.length v K=true->Wp M (.own f args L) (Zat v K)->Wp M (.own f args L) (isR v K)
 | less {fi k env L Q} (ks:List Nat):Wp M (.run fi k (keepV ks env) L) Q->Wp M (.run fi k env L) Q
 | mono {c Q Q'}:Wp M c Q->(∀ v L,Q v L->Q' v L)->Wp M c Q'
 | sem {c Q}:Means M c Q->Wp M c Q
abbrev Ev (M:Mach) (c:Conf) (v:AV) (L':Heap):Prop:=Wp M c (isR v L')
def atC:Code->List Nat->List Item
 | .seq a b,0::p=>atC a p++[.code b]
 | .seq _ b,_::p=>atC b p
 | .cond _ a _,0::p=>atC a p
 | .cond _ _ b,_::p=>atC b p
 | .block id a,_::p=>atC a p++[.inBlock id]
 | .loop a,_::p=>atC a p++[.inLoop a]
 | .rangeFunc _ _ a _,0::p=>atC a p
 | .rangeFunc _ _ _ b,_::p=>atC b p
 | c,_=>[.code c]
structure PS where
 todo:List Item
 env:Vars
 L:Heap
 asm:List Bool:=[]
 eqs:List Prop:=[]
 calls:List CF:=[]
structure Given where
 call:Zax:=fun _ _ _=>none
 ans:Nat->Nat->Option Ans:=fun _ _=>none
 hot:Nat->List Nat:=fun _=>[]
 keep:Nat->List Nat:=fun _=>[]
def path (M:Mach) (fi:Fi) (G:Given):Nat->List Bool->PS->Option PS
 | 0,_,s=>some s
 | n+1,ds,s =>
  match s.todo with
  | []=>some s
  | .inBlock _::k=>path M fi G n ds { s with todo:=k }
  | .inLoop b::k=>some { s with todo:=.code b :: .inLoop b::k }
  | .code c::k =>
   match c with
   | .skip=>path M fi G n ds { s with todo:=k }
   | .seq a b=>path M fi G n ds { s with todo:=.code a :: .code b::k }
   | .cond c a b =>
    match ds with
    | []=>some s
    | d::ds=>match evV s.env c with
     | .bool t=>path M fi G n ds { s with todo:=.code (bif d then a else b)::k,asm:=s.asm++[t==d] }
     | _=>none
   | .block id b=>path M fi G n ds { s with todo:=.code b :: .inBlock id::k }
   | .loop b=>some { s with todo:=.code b :: .inLoop b::k }
   | .exit id=>match exitTo id k with
    | some k'=>path M fi G n ds { s with todo:=k' }
    | none=>none
   | .region id ops draw =>
    match draw,(bif draw then ZgR (hotOf ops (G.hot id)) ops else true) with
    | true,false=>none
    | _,_ =>
     match Zav M.P M.inl G.call fi.n ops (G.ans id) (bif draw then hotOf ops (G.hot id) else fun _=>2) (List.range ops.size) ⟨lift s.env,s.L,s.asm,s.eqs,s.calls⟩ with
     | some t=>path M fi G n ds ⟨k,Zbq (G.keep id) t.env,t.L,t.asm,t.eqs,t.calls⟩
     | none=>none
   | .ret=>some s
   | _=>none
  | _=>none
end Go.Av

namespace Go.Av
def cd (f:Func):Code:=f.body.getD .skip
def ansOf:List (Nat × Nat × Ans)->Nat->Nat->Option Ans
 | [],_,_=>none
 | (r,i,a)::l,r',i'=>bif r==r'&&i==i' then some a else ansOf l r' i'
def ZaG:List (Nat × List Nat)->Nat->List Nat
 | [],_=>[]
 | (r,l)::t,r'=>bif r==r' then l else ZaG t r'
def Zab (kp:List (Nat × List Nat)) (a:List (Nat × Nat × Ans)) (h:List (Nat × List Nat)):Given:={ ans:=ansOf a,hot:=ZaG h,keep:=ZaG kp }
def allB:List Bool->Prop
 | []=>True
 | b::l=>b=true/\allB l
def allP:List Prop->Prop
 | []=>True
 | p::l=>p/\allP l
def CF.ok (M:Mach) (c:CF):Prop:=
 match c.own with
 | true=>Ev M (.own c.f c.args c.L) c.v c.L'
 | false=>Ev M (.pure c.f c.args) c.v []
def allC (M:Mach):List CF->Prop
 | []=>True
 | c::l=>(c.cond=true->c.ok M)/\allC M l
theorem Zae:allB []:=trivial
theorem Zaa {b:Bool} {l:List Bool} (h:b=true) (r:allB l):allB (b::l):=⟨h,r⟩
theorem Zaf:allP []:=trivial
theorem ZaQ {p:Prop} {l:List Prop} (h:p) (r:allP l):allP (p::l):=⟨h,r⟩
theorem Zag {M:Mach}:allC M []:=trivial
theorem Zaq {M:Mach} {c:CF} {l:List CF} (h:c.cond=true->c.ok M) (r:allC M l):allC M (c::l):=⟨h,r⟩
theorem Zb5 (l:List Bool):allB l ↔ ∀ b ∈ l,b=true:=by
 induction l with
 | nil=>simp [allB]
 | cons b l ih=>simp [allB,ih]
theorem allP_iff (l:List Prop):allP l ↔ ∀ p ∈ l,p:=by
 induction l with
 | nil=>simp [allP]
 | cons b l ih=>rw [allP,ih,List.forall_mem_cons]
theorem allC_iff (M:Mach) (l:List CF):allC M l ↔ ∀ c ∈ l,c.cond=true->c.ok M:=by
 induction l with
 | nil=>simp [allC]
 | cons b l ih=>simp [allC,ih]
theorem runOp_adds {P:Unit->Program} {inl:FuncId->Bool} {call:Zax} {n:Nat} {ops:Array Oper} {an:Option Ans} {hot:Nat} {o:Oper} {s s':RS}
  (h:Zbk P inl call n ops an hot o s=some s') :
  ∃ env L a q c,s'=⟨env,L,s.asm++a,s.eqs++q,s.calls++c⟩ /\
   ∀ a0 q0 c0,Zbk P inl call n ops an hot o ⟨s.env,s.L,a0,q0,c0⟩=some ⟨env,L,a0++a,q0++q,c0++c⟩:=by
 unfold Zbk at h ⊢
 split at h
 ·simp at h
 ·rename_i hc
  split at h
  ·rename_i env he
   refine ⟨env,s.L,[],[],[],by simpa using h.symm,fun a0 q0 c0 => ?_⟩
   simp only [hc,he,List.append_nil]
  ·simp at h
 ·rename_i c hc
  split at h
  ·rename_i hr
   split at h
   ·simp at h
   ·rename_i hv
    split at h
    ·rename_i env he
     refine ⟨env,s.L,[],[],[],by simpa using h.symm,fun a0 q0 c0 => ?_⟩
     simp only [hc,hr,hv,he,List.append_nil]
    ·simp at h
  ·rename_i r hr
   split at h
   ·simp at h
   ·rename_i env he
    split at h
    ·simp at h
    ·rename_i hL
     split at h
     ·simp only [Option.some.injEq] at h
      refine ⟨env,_,r.asm,r.eqs,r.calls,h.symm,fun a0 q0 c0 => ?_⟩
      simp only [hc,hr,he,hL]
     ·rename_i hcne
      simp only [Option.some.injEq] at h
      refine ⟨env,_,_,_,_,h.symm,fun a0 q0 c0 => ?_⟩
      simp only [hc,hr,he,hL]
theorem ZaW {P:Unit->Program} {inl:FuncId->Bool} {call:Zax} {n:Nat} {ops:Array Oper} {ans:Nat->Option Ans} {hot:Nat->Nat} (l:List Nat) :
  ∀ {s s':RS},Zav P inl call n ops ans hot l s=some s' ->
  ∃ env L a q c,s'=⟨env,L,s.asm++a,s.eqs++q,s.calls++c⟩ /\
   ∀ a0 q0 c0,Zav P inl call n ops ans hot l ⟨s.env,s.L,a0,q0,c0⟩=some ⟨env,L,a0++a,q0++q,c0++c⟩:=by
 induction l with
 | nil =>
  intro s s' h
  simp only [Zav,Option.some.injEq] at h
  subst h
  exact ⟨s.env,s.L,[],[],[],by simp,fun _ _ _=>by simp [Zav]⟩
 | cons i rest ih =>
  intro s s' h
  simp only [Zav] at h
  cases ho:ops[i]? with
  | none =>
   rw [ho] at h
   obtain ⟨env,L,a,q,c,he,hall⟩:=ih h
   exact ⟨env,L,a,q,c,he,fun a0 q0 c0=>by simp only [Zav,ho];exact hall a0 q0 c0⟩
  | some o =>
   rw [ho] at h
   simp only at h
   cases hr:Zbk P inl call n ops (ans i) (hot i) o s with
   | none=>rw [hr] at h;simp at h
   | some s1 =>
    rw [hr] at h
    obtain ⟨env1,L1,a1,q1,c1,he1,hall1⟩:=runOp_adds hr
    obtain ⟨env,L,a,q,c,he,hall⟩:=ih h
    subst he1
    refine ⟨env,L,a1++a,q1++q,c1++c,by simpa [List.append_assoc] using he,fun a0 q0 c0 => ?_⟩
    simp only [Zav,ho,hall1 a0 q0 c0]
    rw [hall]
    simp [List.append_assoc]
theorem path_mono {M:Mach} {fi:Fi} {G:Given} (n:Nat):∀ {ds:List Bool} {s t:PS},path M fi G n ds s=some t ->
  (∀ b ∈ s.asm,b ∈ t.asm)/\(∀ p ∈ s.eqs,p ∈ t.eqs)/\(∀ c ∈ s.calls,c ∈ t.calls):=by
 induction n with
 | zero=>intro ds s t h;simp only [path,Option.some.injEq] at h;subst h;exact ⟨fun _ h=>h,fun _ h=>h,fun _ h=>h⟩
 | succ n ih =>
  intro ds s t h
  unfold path at h
  split at h
  ·simp only [Option.some.injEq] at h;subst h;exact ⟨fun _ h=>h,fun _ h=>h,fun _ h=>h⟩
  ·(have h2:=ih h;exact h2)
  ·simp only [Option.some.injEq] at h;subst h;exact ⟨fun _ h=>h,fun _ h=>h,fun _ h=>h⟩
  ·split at h
   ·(have h2:=ih h;exact h2)
   ·(have h2:=ih h;exact h2)
   ·split at h
    ·simp only [Option.some.injEq] at h;subst h;exact ⟨fun _ h=>h,fun _ h=>h,fun _ h=>h⟩
    ·split at h
     ·obtain ⟨h1,h2,h3⟩:=ih h
      exact ⟨fun b hb=>h1 b (by simp [hb]),h2,h3⟩
     ·simp at h
   ·(have h2:=ih h;exact h2)
   ·simp only [Option.some.injEq] at h;subst h;exact ⟨fun _ h=>h,fun _ h=>h,fun _ h=>h⟩
   ·split at h
    ·(have h2:=ih h;exact h2)
    ·simp at h
   ·split at h
    ·simp at h
    ·split at h
     ·rename_i s1 hr
      obtain ⟨env,L,a,q,c,he,_⟩:=ZaW _ hr
      obtain ⟨h1,h2,h3⟩:=ih h
      subst he
      exact ⟨fun b hb=>h1 b (by simp [hb]),fun b hb=>h2 b (by simp [hb]),fun b hb=>h3 b (by simp [hb])⟩
     ·simp at h
   ·simp only [Option.some.injEq] at h;subst h;exact ⟨fun _ h=>h,fun _ h=>h,fun _ h=>h⟩
   ·simp at h
  ·simp at h
theorem path_sound {M:Mach} {fi:Fi} {G:Given} (n:Nat):∀ {ds:List Bool} {s t:PS} {Q:AV->Heap->Prop},path M fi G n ds s=some t ->
  (∀ b ∈ t.asm,b=true)->(∀ p ∈ t.eqs,p)->(∀ c ∈ t.calls,c.cond=true->c.ok M) ->
  Wp M (.run fi t.todo t.env t.L) Q->Wp M (.run fi s.todo s.env s.L) Q:=by
 induction n with
 | zero=>intro ds s t Q h _ _ _ he;simp only [path,Option.some.injEq] at h;subst h;exact he
 | succ n ih =>
  intro ds s t Q h hA hQ hC he
  obtain ⟨todo,env,L,asm,eqs,calls⟩:=s
  unfold path at h
  split at h
  ·simp only [Option.some.injEq] at h;subst h;exact he
  ·rename_i k heq;simp only at heq;subst heq
   exact .inBlock (ih h hA hQ hC he)
  ·rename_i b k heq;simp only at heq;subst heq
   simp only [Option.some.injEq] at h;subst h;exact .inLoop he
  ·rename_i c k heq;simp only at heq;subst heq
   split at h
   ·exact .skip (ih h hA hQ hC he)
   ·exact .seq (ih h hA hQ hC he)
   ·split at h
    ·simp only [Option.some.injEq] at h;subst h;exact he
    ·rename_i d ds'
     split at h
     ·rename_i t' hev
      have hm:=(path_mono n h).1 (t'==d) (by simp)
      have:=hA _ hm
      simp only [beq_iff_eq] at this
      subst this
      exact .cond t' hev (ih h hA hQ hC he)
     ·simp at h
   ·exact .block (ih h hA hQ hC he)
   ·simp only [Option.some.injEq] at h;subst h;exact .loop he
   ·split at h
    ·rename_i k' hk;exact .exit hk (ih h hA hQ hC he)
    ·simp at h
   ·split at h
    ·simp at h
    ·rename_i id ops draw _ _ hdr
     split at h
     ·rename_i s1 hr
      obtain ⟨env1,L1,a,q,cs,he1,hall⟩:=ZaW _ hr
      obtain ⟨m1,m2,m3⟩:=path_mono n h
      subst he1
      refine .region G.call (G.ans id) _ (G.keep id) ⟨env1,L1,[]++a,[]++q,[]++cs⟩ ?_ (hall [] [] []) ?_ ?_ ?_ ?_ (ih h hA hQ hC he)
      ·intro hd
       subst hd
       cases hk:ZgR (hotOf ops (G.hot id)) ops with
       | true=>simpa using hk
       | false=>exact (hdr rfl (by simpa using hk)).elim
      ·exact fun b hb=>hA b (m1 b (by simp at hb;simp [hb]))
      ·exact fun b hb=>hQ b (m2 b (by simp at hb;simp [hb]))
      ·intro c hb h1 h2
       have:=hC c (m3 c (by simp at hb;simp [hb])) h1
       simpa [CF.ok,h2] using this
      ·intro c hb h1 h2
       have:=hC c (m3 c (by simp at hb;simp [hb])) h1
       simpa [CF.ok,h2] using this
     ·simp at h
   ·simp only [Option.some.injEq] at h;subst h;exact he
   ·simp at h
  ·simp at h
theorem Zac {M:Mach} {fi:Fi} {G:Given} (n:Nat) (ds:List Bool) {todo:List Item} {env:Vars} {L:Heap} (t:PS) {Q:AV->Heap->Prop}
  (h:path M fi G n ds ⟨todo,env,L,[],[],[]⟩=some t) (hA:allB t.asm) (hQ:allP t.eqs) (hC:allC M t.calls)
  (hw:Wp M (.run fi t.todo t.env t.L) Q):Wp M (.run fi todo env L) Q:=
 path_sound n h ((Zb5 _).1 hA) ((allP_iff _).1 hQ) ((allC_iff _ _).1 hC) hw
theorem Zai {M:Mach} {fi:Fi} {G:Given} (n:Nat) (ds:List Bool) {todo k:List Item} {env env':Vars} {L L':Heap} {asm:List Bool} {eqs:List Prop} {calls:List CF} (v:AV) {Q:AV->Heap->Prop}
  (h:path M fi G n ds ⟨todo,env,L,[],[],[]⟩=some ⟨.code .ret::k,env',L',asm,eqs,calls⟩) (hv:finish M.P fi env' L'=some v)
  (hA:allB asm) (hQ:allP eqs) (hC:allC M calls) (hq:Q v L'):Wp M (.run fi todo env L) Q:=
 Zac n ds _ h hA hQ hC (.ret hv hq)
theorem Zbc {M:Mach} {fi:Fi} {G:Given} (n:Nat) (ds:List Bool) {todo:List Item} {env env':Vars} {L L':Heap} {asm:List Bool} {eqs:List Prop} {calls:List CF} (v:AV) {Q:AV->Heap->Prop}
  (h:path M fi G n ds ⟨todo,env,L,[],[],[]⟩=some ⟨[],env',L',asm,eqs,calls⟩) (hv:finish M.P fi env' L'=some v)
  (hA:allB asm) (hQ:allP eqs) (hC:allC M calls) (hq:Q v L'):Wp M (.run fi todo env L) Q:=
 Zac n ds _ h hA hQ hC (.done hv hq)
def nilRunT (M:Mach) (n:Nat) (todo:List Item) (i:Nat) (env:Vars) (L:Heap) (b:Bool):Option RS:=
 match todo with
 | .code (.region _ ops false)::_=>nilRun M.P M.inl n ops i env L b
 | _=>none
theorem wp_nil {M:Mach} {fi:Fi} {todo:List Item} {env e1 e2:Vars} {L L1 L2:Heap} {a1 a2:List Bool} {v1 v2:Env} {Q:AV->Heap->Prop} (i:Nat) (keep:List Nat)
  (h1:nilRunT M fi.n todo i env L true=some ⟨v1,L1,a1,[],[]⟩) (h2:nilRunT M fi.n todo i env L false=some ⟨v2,L2,a2,[],[]⟩) (hA1:allB a1) (hA2:allB a2)
  (f1:Zbq keep v1=e1) (f2:Zbq keep v2=e2) (w1:Wp M (.run fi todo.tail e1 L1) Q) (w2:Wp M (.run fi todo.tail e2 L2) Q):Wp M (.run fi todo env L) Q:=by
 unfold nilRunT at h1 h2
 split at h1
 ·simp only at h2
  refine .nilq i keep (fun b=>bif b then ⟨v1,L1,a1,[],[]⟩ else ⟨v2,L2,a2,[],[]⟩) (fun b => ?_) (fun b => ?_) (fun b => ?_)
  ·cases b with
   | true=>exact h1
   | false=>exact h2
  ·cases b with
   | true=>exact ⟨(Zb5 _).1 hA1,rfl,rfl⟩
   | false=>exact ⟨(Zb5 _).1 hA2,rfl,rfl⟩
  ·cases b with
   | true=>simp only [cond_true];rw [f1];exact w1
   | false=>simp only [cond_false];rw [f2];exact w2
 ·simp at h1
theorem ZfA {M:Mach} {f:FuncId} {args:List AV} {L:Heap} {Q:AV->Heap->Prop} (fn:Func) (fi:Fi)
  (hf:(M.P ()).funcs[f]? = some fn) (hb:fn.body=some (cd fn)) (hn:(fn.name == "runtime.NumGoroutine")=false)
  (hi:(⟨fn.ntmps,fn.results.toList⟩:Fi)=fi) (h:Wp M (.run fi [.code (cd fn)] (ZaN 0 args) L) Q):Wp M (.own f args L) Q:=
 .own fn (cd fn) hf hb hn (by rw [hi];exact h)
end Go.Av

namespace Go.Av
open Go.RowKit
theorem Ext.refl (S:St):Ext S S:=⟨rfl,rfl,fun _ _ h _=>⟨h,rfl⟩,fun _ row info h1 h2=>⟨row,info,h1,h2,Nat.le_refl _,fun _=>⟨rfl,fun _=>rfl⟩,rfl,fun _=>rfl⟩,Below.refl _ _,fun r info h => .inl ⟨r,info,h,rfl⟩,fun _ _ _ _=>rfl⟩
theorem Ext.trans {S S' S'':St} (h:Ext S S') (k:Ext S' S''):Ext S S'' where
 base:=k.base.trans h.base
 acc:=k.acc.trans h.acc
 imm b off hi hb:=by
  obtain ⟨h1,h2⟩:=h.imm b off hi hb
  obtain ⟨k1,k2⟩:=k.imm b off h1 (Nat.lt_of_lt_of_le hb h.below.size)
  exact ⟨k1,k2.trans h2⟩
 rows r row info hr hi:=by
  obtain ⟨row',info',a1,a2,a3,a4,a5,a6⟩:=h.rows r row info hr hi
  obtain ⟨row'',info'',b1,b2,b3,b4,b5,b6⟩:=k.rows r row' info' a1 a2
  refine ⟨row'',info'',b1,b2,Nat.le_trans a3 b3,fun e => ?_,b5.trans a5,fun e=>(b6 (a5.trans e)).trans (a6 e)⟩
  have e1:row'.ver=row.ver:=Nat.le_antisymm (e ▸ b3) a3
  have e2:row''.ver=row'.ver:=e.trans e1.symm
  obtain ⟨c1,c2⟩:=a4 e1
  obtain ⟨d1,d2⟩:=b4 e2
  exact ⟨d1.trans c1,fun e=>(d2 (by rw [a5];exact e)).trans (c2 e)⟩
 below:=h.below.trans (h.base ▸ k.below)
 fresh r info'' hi:=by
  rcases k.fresh r info'' hi with ⟨q,info',h1,h2⟩ | h1
  ·rcases h.fresh q info' h1 with ⟨q',info,h3,h4⟩ | h3
   ·exact .inl ⟨q',info,h3,h4.trans h2⟩
   ·exact .inr (h2 ▸ h3)
  ·exact .inr (Nat.le_trans h.below.size h1)
 other b hb hlt hno:=by
  rw [k.other b (h.base ▸ hb) (Nat.lt_of_lt_of_le hlt h.below.size) fun r info' hi he => ?_]
  ·exact h.other b hb hlt hno
  ·rcases h.fresh r info' hi with ⟨q,info,h1,h2⟩ | h1
   ·exact hno q info h1 (h2.trans he)
   ·omega
theorem Zeg {v:Value} (h:v.oneCell'=true):v.cells = #[v]:=by
 cases v <;> first | rfl | simp [Value.oneCell'] at h
theorem ZeE {w:World} {b off:Nat} {cv:Value} (h:w.cell? ⟨b,off,none⟩=some cv):b<w.heap.size:=World.block_lt_of_cell? (a:=⟨b,off,none⟩) (w:=w) h
theorem DRel.mono {S S':St} (he:Ext S S') {a:AV} {v:Value} (h:DRel S a v):DRel S' a v:=by
 induction h with
 | bool b=>exact .bool b
 | int k n=>exact .int k n
 | str s=>exact .str s
 | flt s=>exact .flt s
 | nilp=>exact .nilp
 | nilf=>exact .nilf
 | nilm=>exact .nilm
 | agg cs vs hl _ ih=>exact .agg cs vs hl ih
 | tup cs vs hl _ ih=>exact .tup cs vs hl ih
 | func fn a b va vb ha hb _ _ ih1 ih2=>exact .func fn a b va vb ha hb ih1 ih2
 | eptr es xs i j b off ho hc _ ih =>
  refine .eptr es xs i j b off ho (fun i x k c hx hk => ?_) (fun i x k c cv hx hk hcv => ?_)
  ·obtain ⟨⟨cv,h1⟩,h2⟩:=hc i x k c hx hk
   obtain ⟨h3,h4⟩:=he.imm _ _ h2 (ZeE h1)
   exact ⟨⟨cv,h4.trans h1⟩,h3⟩
  ·obtain ⟨⟨cv',h1⟩,h2⟩:=hc i x k c hx hk
   obtain ⟨_,h4⟩:=he.imm _ _ h2 (ZeE h1)
   exact ih i x k c cv hx hk (h4.symm.trans hcv)
 | vnil=>exact .vnil
 | vecE f es a cap hf=>exact .vecE f es a cap hf
 | vec f es xs b off cap ho hf hl hc _ ih =>
  refine .vec f es xs b off cap ho hf hl (fun i x k c hx hk => ?_) (fun i x k c cv hx hk hcv => ?_)
  ·obtain ⟨⟨cv,h1⟩,h2⟩:=hc i x k c hx hk
   obtain ⟨h3,h4⟩:=he.imm _ _ h2 (ZeE h1)
   exact ⟨⟨cv,h4.trans h1⟩,h3⟩
  ·obtain ⟨⟨cv',h1⟩,h2⟩:=hc i x k c hx hk
   obtain ⟨_,h4⟩:=he.imm _ _ h2 (ZeE h1)
   exact ih i x k c cv hx hk (h4.symm.trans hcv)
theorem Rel.mono {S S':St} (he:Ext S S') {a:AV} {v:Value} (h:Rel S a v):Rel S' a v:=by
 induction h with
 | any v=>exact .any v
 | data a v h=>exact .data a v (h.mono he)
 | agg cs vs hl _ ih=>exact .agg cs vs hl ih
 | tup cs vs hl _ ih=>exact .tup cs vs hl ih
 | func fn a b va vb ha hb _ _ ih1 ih2=>exact .func fn a b va vb ha hb ih1 ih2
 | mapr r row info v h0 h3 h1 h2 =>
  obtain ⟨row',info',a1,a2,a3,a4,a5,a6⟩:=he.rows r row info h1 h2
  exact .mapr r row' info' v (by rw [a6 h3];exact h0) (a5.trans h3) a1 a2
 | ptr r ver i j row info v h0 h1 h2 h3 h4 =>
  obtain ⟨row',info',a1,a2,a3,a4,a5,_⟩:=he.rows r row info h1 h2
  refine .ptr r ver i j row' info' v ⟨h0.1,a5.trans h0.2⟩ a1 a2 (Nat.le_trans h3 a3) fun e => ?_
  have e1:row.ver=ver:=Nat.le_antisymm (e ▸ a3) h3
  obtain ⟨c1,_⟩:=a4 (e.trans e1.symm)
  rw [c1];exact h4 e1
 | row r ver row info v h0 h1 h2 h3 h4 =>
  obtain ⟨row',info',a1,a2,a3,a4,a5,_⟩:=he.rows r row info h1 h2
  refine .row r ver row' info' v ⟨h0.1,a5.trans h0.2⟩ a1 a2 (Nat.le_trans h3 a3) fun e => ?_
  have e1:row.ver=ver:=Nat.le_antisymm (e ▸ a3) h3
  obtain ⟨c1,c2⟩:=a4 (e.trans e1.symm)
  rw [c1,c2 h0.2];exact h4 e1
 | ref r ver lo len row info v h0 h1 h2 h3 h4 =>
  obtain ⟨row',info',a1,a2,a3,a4,a5,_⟩:=he.rows r row info h1 h2
  refine .ref r ver lo len row' info' v ⟨h0.1,a5.trans h0.2⟩ a1 a2 (Nat.le_trans h3 a3) fun e => ?_
  have e1:row.ver=ver:=Nat.le_antisymm (e ▸ a3) h3
  obtain ⟨c1,c2⟩:=a4 (e.trans e1.symm)
  rw [c1,c2 h0.2];exact h4 e1
theorem rel_ofC0 (S:St) (v:Value):Rel S (ofC0 v) v:=by
 unfold ofC0
 split
 ·exact .data _ _ (.bool _)
 ·exact .data _ _ (.int _ _)
 ·exact .data _ _ (.str _)
 ·exact .data _ _ (.flt _)
 ·exact .data _ _ .nilp
 ·exact .data _ _ .vnil
 ·exact .data _ _ .nilf
 ·exact .data _ _ .nilm
 ·exact .any _
theorem EntOk.mono {S S':St} (he:Ext S S') {cl:Bool} {i:Nat} {e:MapEntry} {x:AV} (h:EntOk S cl i e x):EntOk S' cl i e x:=by
 obtain ⟨h1,k,n,v,h2,h3,h4,h5,h6⟩:=h
 exact ⟨h1,k,n,v,h2,h3,h4,h5.mono he,fun hc=>(h6 hc).mono he⟩
theorem MapOk.mono {S S':St} (he:Ext S S') {row:Row} {b:Nat} (hb:S'.w.heap[b]? = S.w.heap[b]?) (h:MapOk S row b):MapOk S' row b:=by
 obtain ⟨es,h1,h2,h3,h4⟩:=h
 exact ⟨es,hb.trans h1,h2,h3,fun i e x he' hx=>(h4 i e x he' hx).mono he⟩
theorem Zfv (S:St) (v:Value):Rel S (ofC v) v:=by
 unfold ofC
 split
 ·rename_i cs
  refine .agg _ cs.toList (by simp) fun i c v hc hv => ?_
  simp only [List.getElem?_map,hv,Option.map_some,Option.some.injEq] at hc
  subst hc
  exact rel_ofC0 S v
 ·rename_i vs
  split
  ·rename_i h
   have:vs=⟨[]⟩:=Array.eq_empty_of_size_eq_zero h
   subst this
   exact .tup [] [] rfl (by simp)
  ·exact .any _
 ·exact rel_ofC0 S v
end Go.Av

namespace Go.Av
open Go.RowKit
def Done (S:St) (v:AV) (L':Heap) (out:Result Next):Prop:=
 ∃ β' w' cv,HeapOk ⟨S.base,S.acc,L',β',w'⟩/\Ext S ⟨S.base,S.acc,L',β',w'⟩/\Rel ⟨S.base,S.acc,L',β',w'⟩ v cv /\
  (out = .ok (.value cv) w'\/(out = .ok .skip w'/\cv=undef))
theorem Zbr {S:St} (hS:HeapOk S) {v:AV} {cv:Value} {out:Result Next} (hv:Rel S v cv) (ho:out = .ok (.value cv) S.w):Done S v S.L out:=
 ⟨S.β,S.w,cv,hS,Ext.refl S,hv,.inl ho⟩
theorem Za6 (b o k:Nat):(⟨b,o,none⟩:Addr).add k=⟨b,o+k,none⟩:=by
 unfold Addr.add;split <;> simp_all
theorem cells_of_rel {S:St} {a:AV} {v:Value} (h:Rel S a v) (ha:a ≠ .any) :
  a.cells.length=v.cells.size /\ ∀ (k:Nat) c cv,a.cells[k]? = some c->v.cells[k]? = some cv->Rel S c cv:=by
 have one:∀ {a:AV} {v:Value},a.cells=[a]->v.cells = #[v]->Rel S a v->a.cells.length=v.cells.size /\ ∀ (k:Nat) c cv,a.cells[k]? = some c->v.cells[k]? = some cv->Rel S c cv:=by
  intro a v h1 h2 h
  rw [h1,h2]
  refine ⟨rfl,fun k c cv hc hv => ?_⟩
  cases k with
  | zero=>simp at hc hv;subst hc;subst hv;exact h
  | succ k=>simp at hc
 cases h with
 | any v=>exact absurd rfl ha
 | data a v hd =>
  cases hd with
  | agg cs vs hl hr=>exact ⟨by simpa [AV.cells,Value.cells] using hl,fun k c cv hc hv => .data _ _ (hr k c cv hc (by simpa [Value.cells] using hv))⟩
  | bool b=>exact one rfl rfl (.data _ _ (.bool b))
  | int k n=>exact one rfl rfl (.data _ _ (.int k n))
  | str s=>exact one rfl rfl (.data _ _ (.str s))
  | flt s=>exact one rfl rfl (.data _ _ (.flt s))
  | nilp=>exact one rfl rfl (.data _ _ .nilp)
  | nilf=>exact one rfl rfl (.data _ _ .nilf)
  | nilm=>exact one rfl rfl (.data _ _ .nilm)
  | tup cs vs hl hr=>exact one rfl rfl (.data _ _ (.tup cs vs hl hr))
  | func fn a b va vb hx hy h1 h2=>exact one rfl rfl (.data _ _ (.func fn a b va vb hx hy h1 h2))
  | eptr es xs i j b off h1 h2 h3=>exact one rfl rfl (.data _ _ (.eptr es xs i j b off h1 h2 h3))
  | vnil=>exact one rfl rfl (.data _ _ .vnil)
  | vecE f es a cap h1=>exact one rfl rfl (.data _ _ (.vecE f es a cap h1))
  | vec f es xs b off cap h1 h2 h3 h4 h5=>exact one rfl rfl (.data _ _ (.vec f es xs b off cap h1 h2 h3 h4 h5))
 | agg cs vs hl hr=>exact ⟨by simpa [AV.cells,Value.cells] using hl,fun k c cv hc hv=>hr k c cv hc (by simpa [Value.cells] using hv)⟩
 | tup cs vs hl hr=>exact one rfl rfl (.tup cs vs hl hr)
 | func fn a b va vb hx hy h1 h2=>exact one rfl rfl (.func fn a b va vb hx hy h1 h2)
 | mapr r row info v h0 h1 h2 h3=>exact one rfl (Zeg (by subst h0;rfl)) (.mapr r row info _ h0 h1 h2 h3)
 | ptr r ver i j row info v h0 h1 h2 h3 h4=>exact one rfl (Zeg (by obtain ⟨⟨a,rfl⟩,_⟩:=h0;rfl)) (.ptr r ver i j row info _ h0 h1 h2 h3 h4)
 | row r ver row info v h0 h1 h2 h3 h4=>exact one rfl (Zeg (by obtain ⟨⟨a,n,c,rfl⟩,_⟩:=h0;rfl)) (.row r ver row info _ h0 h1 h2 h3 h4)
 | ref r ver lo len row info v h0 h1 h2 h3 h4=>exact one rfl (Zeg (by obtain ⟨⟨a,n,c,rfl⟩,_⟩:=h0;rfl)) (.ref r ver lo len row info _ h0 h1 h2 h3 h4)
section
variable {P:Unit->Program}
def aggD:TypeDesc->Bool
 | .struct _ | .array _ _=>true
 | _=>false
theorem Zd4 {t:TypeId} {d:TypeDesc} {w:World} (h:(P ()).underlying t=some d):(isAgg t).run (P ()) w = .ok (aggD d) w:=by
 cases d <;> simp [isAgg,run_underlying h,aggD]
theorem ZcD {t:TypeId} {i:TypeInfo} {w:World} (h:(P ()).info? t=some i):(typeInfo t).run (P ()) w = .ok i w:=by
 simp [typeInfo,h]
theorem ZaA {t:TypeId} {i:TypeInfo} {w:World} (h:(P ()).info? t=some i):(sizeOf t).run (P ()) w = .ok i.size w:=by
 simp [sizeOf,ZcD h]
theorem load_part {S:St} {b o:Nat} {cs:List AV} {T:TypeId} {j:Nat} {v:AV}
  (hc:∀ (k:Nat) c,cs[k]? = some c -> ∃ cv,S.w.cell? ⟨b,o+k,none⟩=some cv/\Rel S c cv)
  (h:ZdC P T cs j=some v):∃ vv,(loadVar T ⟨b,o+j,none⟩).run (P ()) S.w = .ok vv S.w/\Rel S v vv:=by
 unfold ZdC at h
 split at h
 ·simp at h
 ·rename_i i hi
  have agg:∀ d,(P ()).underlying T=some d->aggD d=true ->
    (if j+i.size<=cs.length then some (AV.agg ((cs.drop j).take i.size)) else none)=some v -> ∃ vv,(loadVar T ⟨b,o+j,none⟩).run (P ()) S.w = .ok vv S.w/\Rel S v vv:=by
   intro d hd hagg h
   split at h
   ·rename_i hle
    simp only [Option.some.injEq] at h
    subst h
    have hx:∀ k,k<i.size -> ∃ cv,S.w.cell? ⟨b,o+j+k,none⟩=some cv/\Rel S (cs.getD (j+k) .any) cv:=by
     intro k hk
     obtain ⟨cv,h1,h2⟩:=hc (j+k) cs[j+k] (by rw [List.getElem?_eq_getElem (by omega)])
     exact ⟨cv,by rw [Nat.add_assoc];exact h1,by rw [List.getD_eq_getElem?_getD,List.getElem?_eq_getElem (by omega)];exact h2⟩
    have hf:∃ f:Nat->Value,∀ k,k<i.size->S.w.cell? ⟨b,o+j+k,none⟩=some (f k)/\Rel S (cs.getD (j+k) .any) (f k):=
     ⟨fun k=>if hk:k<i.size then (hx k hk).choose else undef,fun k hk=>by simp only [hk,dif_pos];exact (hx k hk).choose_spec⟩
    obtain ⟨f,hf⟩:=hf
    refine ⟨.agg ((List.range i.size).map f).toArray,?_,?_⟩
    ·have:=run_loadCells (P:=P ()) S.w ⟨b,o+j,none⟩ i.size f (fun k hk=>by rw [Za6];exact (hf k hk).1)
     simp [loadVar,Zd4 hd,hagg,ZaA hi,this]
    ·refine .agg _ ((List.range i.size).map f) (by simp;omega) fun k c cv hk hv => ?_
     have hlt:k<i.size:=by
      have:=(List.getElem?_eq_some_iff.1 hv).1
      simpa using this
     simp only [List.getElem?_map,List.getElem?_range hlt,Option.map_some,Option.some.injEq] at hv
     subst hv
     have h2:=(hf k hlt).2
     rw [List.getElem?_take_of_lt hlt,List.getElem?_drop] at hk
     rw [List.getD_eq_getElem?_getD,hk] at h2
     exact h2
   ·simp at h
  split at h
  ·rename_i d hd;exact agg _ hd rfl h
  ·rename_i d e hd;exact agg _ hd rfl h
  ·rename_i d hd1 hd2 hd
   obtain ⟨cv,h1,h2⟩:=hc j v h
   refine ⟨cv,?_,h2⟩
   have:aggD d=false:=by
    cases d <;> first | rfl | exact absurd rfl (hd1 _) | exact absurd rfl (hd2 _ _)
   simp [loadVar,Zd4 hd,this,h1]
  ·simp at h
theorem ZbY {i n es k cap:Nat} (hi:i<n) (hn:n<=cap) (hk:k<es):i*es+k<cap*es:=by
 have h1:(i+1)*es<=cap*es:=Nat.mul_le_mul_right _ (by omega)
 rw [Nat.add_mul] at h1
 omega
theorem Zah {α:Type} {l:List α} {i:Nat} {x:α} (h:l[i]? = some x):i<l.length:=(List.getElem?_eq_some_iff.1 h).1
theorem Zd9 {S:St} (hS:HeapOk S) {r:Nat} {row:Row} {info:BI} (hr:S.L[r]? = some row) (hi:S.β[r]? = some info) (hmp:info.mp=false) {i:Nat} {x:AV} (hx:row.elems[i]? = some x) {k:Nat} (hk:k<info.es) :
  ∃ cv,S.w.cell? ⟨info.blk,info.off+i*info.es+k,none⟩=some cv:=by
 obtain ⟨_,h2,cs,T,h3,h4⟩:=hS.cells r row info hr hi hmp
 have:=ZbY (Zah hx) h2 hk
 refine ⟨cs[info.off+i*info.es+k]'(by omega),?_⟩
 simp [World.cell?,h3]
theorem Zd8 {S:St} (hS:HeapOk S) {r:Nat} {row:Row} {info:BI} (hr:S.L[r]? = some row) (hi:S.β[r]? = some info) (hmp:info.mp=false) {i:Nat} {x:AV} (hx:row.elems[i]? = some x) :
  ∀ (k:Nat) c,x.cells[k]? = some c -> ∃ cv,S.w.cell? ⟨info.blk,info.off+i*info.es+k,none⟩=some cv/\Rel S c cv:=by
 intro k c hk
 have he:=hS.elems r row hr i x hx
 have h1:=(hS.cells r row info hr hi hmp).1
 obtain ⟨cv,hcv⟩:=Zd9 hS hr hi hmp hx (k:=k) (by have:=Zah hk;omega)
 exact ⟨cv,hcv,hS.rel r row info i x k c cv hr hi hx hk hcv⟩
theorem elem_of {el:Option AV} {xs:List AV} {i:Nat} {x:AV} {q:List Prop} (h:elemA el xs i=some (x,q)) (hq:∀ p ∈ q,p):xs[i]? = some x:=by
 unfold elemA at h
 split at h
 ·simp only [Option.some.injEq,Prod.mk.injEq] at h
  obtain ⟨rfl,rfl⟩:=h
  exact hq _ (by simp)
 ·split at h
  ·rename_i y hy
   simp only [Option.some.injEq,Prod.mk.injEq] at h
   obtain ⟨rfl,rfl⟩:=h
   exact hy
  ·simp at h
theorem Ze0 {S:St} {r ver i j:Nat} {v:Value} (h:Rel S (.ptr r ver i j) v) :
  (∃ a,v = .pointer (some a)) /\ ∃ row info,S.L[r]? = some row/\S.β[r]? = some info/\ver<=row.ver/\(row.ver=ver->v = .pointer (some ⟨info.blk,info.off+i*info.es+j,none⟩))/\info.mp=false:=by
 cases h with
 | data _ _ h=>cases h
 | ptr _ _ _ _ row info _ h0 h1 h2 h3 h4=>exact ⟨h0.1,row,info,h1,h2,h3,h4,h0.2⟩
theorem rel_ptr {S:St} {r ver i j:Nat} {v:Value} (h:Rel S (.ptr r ver i j) v) :
  ∃ row info,S.L[r]? = some row/\S.β[r]? = some info/\(row.ver=ver->v = .pointer (some ⟨info.blk,info.off+i*info.es+j,none⟩))/\info.mp=false:=by
 cases h with
 | data _ _ h=>cases h
 | ptr _ _ _ _ row info _ h0 h1 h2 _ h4=>exact ⟨row,info,h1,h2,h4,h0.2⟩
theorem Zb2 {S:St} {r ver:Nat} {v:Value} (h:Rel S (.row r ver) v):∃ a n c,v = .slice (some a) n c:=by
 cases h with
 | data _ _ h=>cases h
 | row _ _ row info _ h0 h1 h2 _ h4=>exact h0.1
theorem Zc3 {S:St} {r ver:Nat} {v:Value} (h:Rel S (.row r ver) v) :
  ∃ row info,S.L[r]? = some row/\S.β[r]? = some info/\(row.ver=ver->v = .slice (some ⟨info.blk,info.off,none⟩) row.elems.length info.cap)/\info.mp=false:=by
 cases h with
 | data _ _ h=>cases h
 | row _ _ row info _ h0 h1 h2 _ h4=>exact ⟨row,info,h1,h2,h4,h0.2⟩
theorem ZdI {S:St} {r ver lo len:Nat} {v:Value} (h:Rel S (.ref r ver lo len) v) :
  ∃ row info,S.L[r]? = some row/\S.β[r]? = some info/\(row.ver=ver -> ∃ a cap,v = .slice (some a) len cap/\len<=cap/\lo+len<=row.elems.length/\((a=⟨info.blk,info.off+lo*info.es,none⟩/\lo+cap=info.cap)\/cap=0))/\info.mp=false:=by
 cases h with
 | data _ _ h=>cases h
 | ref _ _ _ _ row info _ h0 h1 h2 _ h4=>exact ⟨row,info,h1,h2,h4,h0.2⟩
theorem Zdo {S:St} {es i j:Nat} {xs:List AV} {v:Value} (h:Rel S (.eptr es xs i j) v):DRel S (.eptr es xs i j) v:=by
 cases h with
 | data _ _ h=>exact h
theorem ZbS {S:St} {f:Bool} {es:Nat} {xs:List AV} {v:Value} (h:Rel S (.vec f es xs) v):DRel S (.vec f es xs) v:=by
 cases h with
 | data _ _ h=>exact h
theorem ZaH {S:St} {k:IntKind} {n:Int} {v:Value} (h:Rel S (.int k n) v):v = .int k n:=by
 cases h with
 | data _ _ h=>cases h;rfl
theorem ZbN {S:St} {b:Bool} {v:Value} (h:Rel S (.bool b) v):v = .bool b:=by
 cases h with
 | data _ _ h=>cases h;rfl
theorem ZcH {S:St} {t:List UInt8} {v:Value} (h:Rel S (.str t) v):v = .string ⟨⟨t⟩⟩:=by
 cases h with
 | data _ _ h=>cases h;rfl
theorem rel_flt {S:St} {b:Nat} {v:Value} (h:Rel S (.flt b) v):v = .float .f64 b:=by
 cases h with
 | data _ _ h=>cases h;rfl
theorem ZaM {S:St} {v:Value} (h:Rel S .vnil v):v = .slice none 0 0:=by
 cases h with
 | data _ _ h=>cases h;rfl
theorem Ze1 {S:St} {v:Value} (h:Rel S .nilp v):v = .pointer none:=by
 cases h with
 | data _ _ h=>cases h;rfl
theorem Zcj {S:St} {v:Value} (h:Rel S .nilf v):v = .nilFunc:=by
 cases h with
 | data _ _ h=>cases h;rfl
theorem Zck {S:St} {fn:Fn} {a b:List AV} {v:Value} (h:Rel S (.func fn a b) v) :
  ∃ va vb:List Value,v = .func fn ⟨va⟩ ⟨vb⟩/\a.length=va.length/\b.length=vb.length/\(∀ (i:Nat) c v,a[i]? = some c->va[i]? = some v->Rel S c v)/\(∀ (i:Nat) c v,b[i]? = some c->vb[i]? = some v->Rel S c v):=by
 cases h with
 | data _ _ h=>cases h with
  | func _ _ _ va vb h1 h2 h3 h4=>exact ⟨va,vb,rfl,h1,h2,fun i c v x y => .data _ _ (h3 i c v x y),fun i c v x y => .data _ _ (h4 i c v x y)⟩
 | func _ _ _ va vb h1 h2 h3 h4=>exact ⟨va,vb,rfl,h1,h2,h3,h4⟩
theorem ZbT {S:St} {cs:List AV} {v:Value} (h:Rel S (.agg cs) v):∃ vs:List Value,v = .agg ⟨vs⟩/\cs.length=vs.length/\(∀ (i:Nat) c v,cs[i]? = some c->vs[i]? = some v->Rel S c v):=by
 cases h with
 | data _ _ h=>cases h with
  | agg _ vs h1 h2=>exact ⟨vs,rfl,h1,fun i c v x y => .data _ _ (h2 i c v x y)⟩
 | agg _ vs h1 h2=>exact ⟨vs,rfl,h1,h2⟩
theorem rel_tup {S:St} {cs:List AV} {v:Value} (h:Rel S (.tup cs) v):∃ vs:List Value,v = .tuple ⟨vs⟩/\cs.length=vs.length/\(∀ (i:Nat) c v,cs[i]? = some c->vs[i]? = some v->Rel S c v):=by
 cases h with
 | data _ _ h=>cases h with
  | tup _ vs h1 h2=>exact ⟨vs,rfl,h1,fun i c v x y => .data _ _ (h2 i c v x y)⟩
 | tup _ vs h1 h2=>exact ⟨vs,rfl,h1,h2⟩
theorem ZgF {S:St} (hS:HeapOk S) {el:Option AV} {T:TypeId} {p:AV} {pv:Value} {r:SR} (hp:Rel S p pv) (h:loadA P el S.L T p=some r)
  (hA:∀ b ∈ r.asm,b=true) (hQ:∀ q ∈ r.eqs,q):r.L'=none/\r.calls=[] /\ ∃ vv,(Instr.loadAt T pv).run (P ()) S.w = .ok vv S.w/\Rel S r.v vv:=by
 unfold loadA at h
 split at h
 ·rename_i q ver i j
  obtain ⟨row,info,h1,h2,h3,hmp⟩:=rel_ptr hp
  rw [h1] at h
  simp only at h
  split at h
  ·rename_i x qs he
   split at h
   ·rename_i v hv
    simp only [Option.some.injEq] at h
    subst h
    have hx:=elem_of he hQ
    have hver:row.ver=ver:=by simpa using hA (row.ver==ver) (by simp)
    rw [h3 hver]
    obtain ⟨vv,a1,a2⟩:=load_part (P:=P) (S:=S) (b:=info.blk) (o:=info.off+i*info.es) (Zd8 hS h1 h2 hmp hx) hv
    exact ⟨rfl,rfl,vv,by simpa [Instr.loadAt,Instr.sureAddr] using a1,a2⟩
   ·simp at h
  ·simp at h
 ·rename_i es xs i j
  split at h
  ·rename_i x qs he
   split at h
   ·rename_i v hv
    simp only [Option.some.injEq] at h
    subst h
    have hx:=elem_of he hQ
    have hd:=Zdo hp
    cases hd with
    | eptr _ _ _ _ b off ho hc hr =>
     obtain ⟨vv,a1,a2⟩:=load_part (P:=P) (S:=S) (b:=b) (o:=off+i*es) (cs:=x.cells) (fun k c hk=>by
      obtain ⟨⟨cv,e1⟩,_⟩:=hc i x k c hx hk
      exact ⟨cv,e1,.data _ _ (hr i x k c cv hx hk e1)⟩) hv
     exact ⟨rfl,rfl,vv,by simpa [Instr.loadAt,Instr.sureAddr] using a1,a2⟩
   ·simp at h
  ·simp at h
 ·simp at h
end
end Go.Av

namespace Go.Av
open Go.RowKit
section
variable {P:Unit->Program}
theorem Zb7 {S:St} {cs:List AV} {vs:List Value} {T:TypeId} {j:Nat} {v:AV} {w:World} (hl:cs.length=vs.length)
  (hc:∀ (i:Nat) c u,cs[i]? = some c->vs[i]? = some u->Rel S c u) (h:ZdC P T cs j=some v) :
  ∃ vv,(part T ⟨vs⟩ j).run (P ()) w = .ok vv w/\Rel S v vv:=by
 unfold ZdC at h
 split at h
 ·simp at h
 ·rename_i i hi
  have agg:∀ d,(P ()).underlying T=some d->aggD d=true ->
    (if j+i.size<=cs.length then some (AV.agg ((cs.drop j).take i.size)) else none)=some v -> ∃ vv,(part T ⟨vs⟩ j).run (P ()) w = .ok vv w/\Rel S v vv:=by
   intro d hd hagg h
   split at h
   ·simp only [Option.some.injEq] at h
    subst h
    refine ⟨.agg ⟨(vs.drop j).take i.size⟩,?_,?_⟩
    ·simp only [part,Sem.run_bind,Zd4 hd,Result.andThen_ok,hagg,if_true,ZaA hi,Sem.run_pure]
     congr 2
     apply Array.ext'
     simp [List.take_drop]
    ·refine .agg _ _ (by simp [hl]) fun k c u hk hv => ?_
     rw [List.getElem?_take] at hk hv
     split at hk
     ·rename_i hlt
      simp only [hlt,if_true,List.getElem?_drop] at hk hv
      exact hc _ _ _ hk hv
     ·simp at hk
   ·simp at h
  split at h
  ·rename_i d hd;exact agg _ hd rfl h
  ·rename_i d e hd;exact agg _ hd rfl h
  ·rename_i d hd1 hd2 hd
   have:aggD d=false:=by
    cases d <;> first | rfl | exact absurd rfl (hd1 _) | exact absurd rfl (hd2 _ _)
   have hlt:j<vs.length:=by have:=Zah h;omega
   refine ⟨vs[j],?_,hc j v _ h (List.getElem?_eq_getElem hlt)⟩
   simp only [part,Sem.run_bind,Zd4 hd,Result.andThen_ok,this,Bool.false_eq_true,if_false]
   have:(⟨vs⟩:Array Value)[j]? = some vs[j]:=by simp [hlt]
   rw [this]
   rfl
  ·simp at h
theorem ZaR (S:St) (k:IntKind) (n:Int):Rel S (.int k n) (.int k n):=.data _ _ (.int k n)
theorem Zdj (S:St) (b:Bool):Rel S (.bool b) (.bool b):=.data _ _ (.bool b)
theorem Ze5 (S:St) (t:List UInt8):Rel S (.str t) (.string ⟨⟨t⟩⟩):=.data _ _ (.str t)
theorem eq_sound {S:St} {w:World}:∀ (d:Nat) {T:TypeId} {x y:AV} {xv yv:Value} {t:Bool},Rel S x xv->Rel S y yv->eqA P d T x y=some t ->
  (Op.equalIn d T xv yv).run (P ()) w = .ok t w:=by
 intro d
 induction d with
 | zero=>intro T x y xv yv t _ _ h;simp [eqA] at h
 | succ d ih =>
  have fields:∀ (fs:List Field) {cx cy:List AV} {vx vy:List Value} {t:Bool},cx.length=vx.length->cy.length=vy.length ->
    (∀ (i:Nat) c u,cx[i]? = some c->vx[i]? = some u->Rel S c u)->(∀ (i:Nat) c u,cy[i]? = some c->vy[i]? = some u->Rel S c u) ->
    eqFields P (eqA P d) cx cy fs=some t->(Op.eqFields d ⟨vx⟩ ⟨vy⟩ fs).run (P ()) w = .ok t w:=by
   intro fs
   induction fs with
   | nil=>intro cx cy vx vy t _ _ _ _ h;simp only [eqFields,Option.some.injEq] at h;subst h;simp [Op.eqFields]
   | cons f fs ihf =>
    intro cx cy vx vy t hx hy h1 h2 h
    simp only [eqFields] at h
    split at h
    ·rename_i hn
     simp only [Op.eqFields,hn,ne_eq,not_true_eq_false,if_false]
     exact ihf hx hy h1 h2 h
    ·rename_i hn
     split at h
     ·rename_i a b ha hb
      split at h
      ·rename_i p q hp hq
       simp only [Option.some.injEq] at h
       subst h
       obtain ⟨va,e1,r1⟩:=Zb7 (P:=P) (S:=S) (w:=w) hx h1 ha
       obtain ⟨vb,e2,r2⟩:=Zb7 (P:=P) (S:=S) (w:=w) hy h2 hb
       have e3:=ih r1 r2 hp
       simp only [Op.eqFields,ne_eq,hn,not_false_eq_true,if_true,Sem.run_bind,e1,Result.andThen_ok,e2,e3]
       cases p
       ·simp
       ·simpa using ihf hx hy h1 h2 hq
      ·simp at h
     ·simp at h
  have items:∀ (e:TypeId) (is:List Nat) {cx cy:List AV} {vx vy:List Value} {t:Bool},cx.length=vx.length->cy.length=vy.length ->
    (∀ (i:Nat) c u,cx[i]? = some c->vx[i]? = some u->Rel S c u)->(∀ (i:Nat) c u,cy[i]? = some c->vy[i]? = some u->Rel S c u) ->
    Zem P (eqA P d) e ((P ()).cellsOf e) cx cy is=some t->(Op.eqItems d e ((P ()).cellsOf e) ⟨vx⟩ ⟨vy⟩ is).run (P ()) w = .ok t w:=by
   intro e is
   induction is with
   | nil=>intro cx cy vx vy t _ _ _ _ h;simp only [Zem,Option.some.injEq] at h;subst h;simp [Op.eqItems]
   | cons i is ihi =>
    intro cx cy vx vy t hx hy h1 h2 h
    simp only [Zem] at h
    split at h
    ·rename_i a b ha hb
     split at h
     ·rename_i p q hp hq
      simp only [Option.some.injEq] at h
      subst h
      obtain ⟨va,e1,r1⟩:=Zb7 (P:=P) (S:=S) (w:=w) hx h1 ha
      obtain ⟨vb,e2,r2⟩:=Zb7 (P:=P) (S:=S) (w:=w) hy h2 hb
      have e3:=ih r1 r2 hp
      simp only [Op.eqItems,Sem.run_bind,e1,Result.andThen_ok,e2,e3]
      cases p
      ·simp
      ·simpa using ihi hx hy h1 h2 hq
     ·simp at h
    ·simp at h
  intro T x y xv yv t hx hy h
  unfold eqA at h
  split at h
  ·rename_i a b hu
   simp only [Option.some.injEq] at h;subst h
   rw [ZbN hx,ZbN hy];exact run_equalIn_bool' _ d T a b hu
  ·rename_i k0 k a k' b hu
   split at h
   ·rename_i hk
    simp only [Option.some.injEq] at h;subst h;subst hk
    rw [ZaH hx,ZaH hy];exact run_equalIn_int _ d T k k0 a b hu
   ·simp at h
  ·rename_i a b hu
   simp only [Option.some.injEq] at h;subst h
   rw [ZcH hx,ZcH hy,run_equalIn_string _ d T _ _ hu,ByteArray.toList_eq,ByteArray.toList_eq]
  ·rename_i fs cx cy hu
   split at h
   ·simp at h
   ·rename_i hs
    obtain ⟨vx,rfl,l1,r1⟩:=ZbT hx
    obtain ⟨vy,rfl,l2,r2⟩:=ZbT hy
    have hf:(P ()).fieldsOf T=fs:=by simp [Program.fieldsOf,hu]
    rw [run_equalIn_struct _ d T _ _ (by rw [hf];exact hu) (by simpa using hs),hf]
    exact fields _ l1 l2 r1 r2 h
  ·rename_i n e cx cy hu
   split at h
   ·rename_i i hi
    obtain ⟨vx,rfl,l1,r1⟩:=ZbT hx
    obtain ⟨vy,rfl,l2,r2⟩:=ZbT hy
    have hs:i.size=(P ()).cellsOf e:=by simp [Program.cellsOf,hi]
    rw [hs] at h
    rw [run_equalIn_array w d _ _ hu hi]
    exact items e _ l1 l2 r1 r2 h
   ·simp at h
  ·rename_i e hu
   simp only [Option.some.injEq] at h;subst h
   rw [ZaM hx,ZaM hy];simp [Op.equalIn,run_underlying hu]
  ·rename_i e f es z zs hu
   simp only [Option.some.injEq] at h;subst h
   rw [ZaM hx]
   have:=ZbS hy
   cases this;simp [Op.equalIn,run_underlying hu]
  ·rename_i e r ver hu
   simp only [Option.some.injEq] at h;subst h
   rw [ZaM hx]
   obtain ⟨a,n,c,rfl⟩:=Zb2 hy
   simp [Op.equalIn,run_underlying hu]
  ·rename_i e f es z zs hu
   simp only [Option.some.injEq] at h;subst h
   rw [ZaM hy]
   have:=ZbS hx
   cases this;simp [Op.equalIn,run_underlying hu]
  ·rename_i e r ver hu
   simp only [Option.some.injEq] at h;subst h
   rw [ZaM hy]
   obtain ⟨a,n,c,rfl⟩:=Zb2 hx
   simp [Op.equalIn,run_underlying hu]
  ·rename_i e hu
   simp only [Option.some.injEq] at h;subst h
   rw [Ze1 hx,Ze1 hy];simp [Op.equalIn,run_underlying hu]
  ·rename_i a b c hu
   simp only [Option.some.injEq] at h;subst h
   rw [Zcj hx,Zcj hy];simp [Op.equalIn,run_underlying hu]
  ·rename_i a b c fn p q hu
   simp only [Option.some.injEq] at h;subst h
   obtain ⟨va,vb,rfl,_⟩:=Zck hy
   rw [Zcj hx];simp [Op.equalIn,run_underlying hu]
  ·rename_i a b c fn p q hu
   simp only [Option.some.injEq] at h;subst h
   obtain ⟨va,vb,rfl,_⟩:=Zck hx
   rw [Zcj hy];simp [Op.equalIn,run_underlying hu]
  ·simp at h
theorem intBin_sound {S:St} {op:BinOp} {k:IntKind} {a b:Int} {r:SR} (T:TypeId) (w:World) (hop:op ≠ .shl/\op ≠ .shr) (h:ZgJ op k a b=some r) (hA:∀ x ∈ r.asm,x=true) :
  r.L'=none/\r.calls=[]/\r.eqs=[] /\ ∃ vv,(binOp op T (.int k a) (.int k b)).run (P ()) w = .ok vv w/\Rel S r.v vv:=by
 cases op <;> simp only [ZgJ,Option.some.injEq,reduceCtorEq] at h
 all_goals (try subst h)
 all_goals (try (refine ⟨rfl,rfl,rfl,_,?_,ZaR S _ _⟩;simp [binOp,Op.intArith,Op.intBits];done))
 all_goals (try (refine ⟨rfl,rfl,rfl,_,?_,Zdj S _⟩;simp [binOp,Op.intCmp];done))
 ·have hb:b ≠ 0:=by simpa using hA (!(b==0)) (by simp)
  refine ⟨rfl,rfl,rfl,_,?_,ZaR S _ _⟩
  simp [binOp,Op.intDiv,hb]
 ·have hb:b ≠ 0:=by simpa using hA (!(b==0)) (by simp)
  refine ⟨rfl,rfl,rfl,_,?_,ZaR S _ _⟩
  simp [binOp,Op.intDiv,hb]
 all_goals simp at hop
theorem strBin_sound {S:St} {op:BinOp} {a b:List UInt8} {r:SR} (T:TypeId) (w:World) (h:Zgq op a b=some r) (hA:∀ x ∈ r.asm,x=true) :
  r.L'=none/\r.calls=[]/\r.eqs=[] /\ ∃ vv,(binOp op T (.string ⟨⟨a⟩⟩) (.string ⟨⟨b⟩⟩)).run (P ()) w = .ok vv w/\Rel S r.v vv:=by
 cases op <;> simp only [Zgq,Option.some.injEq,reduceCtorEq] at h
 all_goals subst h
 ·have hb:a.length+b.length<=1099511627776:=by simpa using hA (decide (a.length+b.length<=1099511627776)) (by simp)
  refine ⟨rfl,rfl,rfl,.string ⟨⟨a++b⟩⟩,?_,Ze5 S _⟩
  have e:binOp .add T (.string ⟨⟨a⟩⟩) (.string ⟨⟨b⟩⟩)=Op.stringOp .add ⟨⟨a⟩⟩ ⟨⟨b⟩⟩:=by simp [binOp]
  rw [e,run_string_add_sum]
  ·exact congrArg (fun x=>Result.ok (Value.string x) w) (ByteArray.mk_append_mk a b)
  ·show a.length+b.length<=_
   omega
 all_goals (refine ⟨rfl,rfl,rfl,_,?_,Zdj S _⟩;simp [binOp,Op.stringOp,ByteArray.toList_eq])
theorem Zek:∀ (d:Nat) (t:TypeId),guardT P d t=(P ()).eqGuardType d t
 | 0,_=>rfl
 | d+1,t=>by
  unfold guardT Program.eqGuardType
  cases (P ()).underlying t with
  | none=>rfl
  | some u=>cases u with
   | interface ms=>obtain ⟨l⟩:=ms;cases l <;> rfl
   | struct fs=>simp only [Zek d,Array.any_toList]
   | array n e=>exact Zek d e
   | _=>rfl
theorem Zfo {S:St} {d:Nat} {T:TypeId} {x y:AV} {xv yv:Value} {t:Bool} {xo yo:Operand} {w:World} (hx:Rel S x xv) (hy:Rel S y yv) (h:eqA P (d+1) T x y=some t) (hg:Zdg P x y T=true)
  (h1:∀ k a k' b,x = .int k a->y = .int k' b->False) (h2:∀ a b,x = .str a->y = .str b->False) :
  binOp .eql T xv yv=(do pure (.bool (<- Op.equal T xv yv)))/\binOp .neq T xv yv=(do pure (.bool (!(<- Op.equal T xv yv)))) /\
  ∀ op,(eqGuard op T xo yo xv yv).run (P ()) w = .ok () w:=by
 unfold eqA at h
 split at h
 ·rw [ZbN hx,ZbN hy]
  exact ⟨rfl,rfl,fun op=>by cases op <;> simp [eqGuard]⟩
 ·exact (h1 _ _ _ _ rfl rfl).elim
 ·exact (h2 _ _ rfl rfl).elim
 ·obtain ⟨vx,rfl,l1,r1⟩:=ZbT hx
  obtain ⟨vy,rfl,l2,r2⟩:=ZbT hy
  refine ⟨rfl,rfl,fun op=>run_eqGuard_agg _ op T xo yo _ _ ?_⟩
  simpa [Zdg,Zek] using hg
 ·obtain ⟨vx,rfl,l1,r1⟩:=ZbT hx
  obtain ⟨vy,rfl,l2,r2⟩:=ZbT hy
  refine ⟨rfl,rfl,fun op=>run_eqGuard_agg _ op T xo yo _ _ ?_⟩
  simpa [Zdg,Zek] using hg
 ·rw [ZaM hx,ZaM hy]
  exact ⟨rfl,rfl,fun op=>by cases op <;> simp [eqGuard]⟩
 ·rw [ZaM hx]
  have:=ZbS hy
  cases this
  exact ⟨rfl,rfl,fun op=>by cases op <;> simp [eqGuard]⟩
 ·rw [ZaM hx]
  obtain ⟨a,n,c,rfl⟩:=Zb2 hy
  exact ⟨rfl,rfl,fun op=>by cases op <;> simp [eqGuard]⟩
 ·rw [ZaM hy]
  have:=ZbS hx
  cases this
  exact ⟨rfl,rfl,fun op=>by cases op <;> simp [eqGuard]⟩
 ·rw [ZaM hy]
  obtain ⟨a,n,c,rfl⟩:=Zb2 hx
  exact ⟨rfl,rfl,fun op=>by cases op <;> simp [eqGuard]⟩
 ·rw [Ze1 hx,Ze1 hy]
  exact ⟨rfl,rfl,fun op=>by cases op <;> simp [eqGuard]⟩
 ·rw [Zcj hx,Zcj hy]
  exact ⟨rfl,rfl,fun op=>by cases op <;> simp [eqGuard]⟩
 ·obtain ⟨va,vb,rfl,_⟩:=Zck hy
  rw [Zcj hx]
  exact ⟨rfl,rfl,fun op=>by cases op <;> simp [eqGuard]⟩
 ·obtain ⟨va,vb,rfl,_⟩:=Zck hx
  rw [Zcj hy]
  exact ⟨rfl,rfl,fun op=>by cases op <;> simp [eqGuard]⟩
 ·simp at h
theorem bin_sound {S:St} {op:BinOp} {T:TypeId} {x y:AV} {xv yv:Value} {r:SR} {xo yo:Operand} (hx:Rel S x xv) (hy:Rel S y yv) (h:binA P op T x y=some r) (hA:∀ b ∈ r.asm,b=true) :
  r.L'=none/\r.calls=[] /\ ∃ vv,(do eqGuard op T xo yo xv yv;binOp op T xv yv:Sem Value).run (P ()) S.w = .ok vv S.w/\Rel S r.v vv:=by
 have gi:∀ (a b:Int) (k k':IntKind),(eqGuard op T xo yo (.int k a) (.int k' b)).run (P ()) S.w = .ok () S.w:=by
  intro a b k k';cases op <;> simp [eqGuard]
 unfold binA at h
 split at h
 ·rename_i k a k' b
  simp only [Option.some.injEq] at h;subst h
  have hb:0<=b:=by simpa using hA (decide (0<=b)) (by simp)
  rw [ZaH hx,ZaH hy]
  refine ⟨rfl,rfl,_,?_,ZaR S _ _⟩
  have:¬ b<0:=by omega
  simp [eqGuard,binOp,Op.shift,this]
 ·rename_i k a k' b
  simp only [Option.some.injEq] at h;subst h
  have hb:0<=b:=by simpa using hA (decide (0<=b)) (by simp)
  rw [ZaH hx,ZaH hy]
  refine ⟨rfl,rfl,_,?_,ZaR S _ _⟩
  have:¬ b<0:=by omega
  simp [eqGuard,binOp,Op.shift,this]
 ·rename_i op' k a k' b h1 h2
  split at h
  ·rename_i hk
   subst hk
   rw [ZaH hx,ZaH hy]
   have hop:op ≠ .shl/\op ≠ .shr:=by
    constructor <;> (intro e;subst e)
    ·exact h1 rfl
    ·exact h2 rfl
   obtain ⟨a1,a2,_,vv,e1,e2⟩:=intBin_sound (P:=P) (S:=S) T S.w hop h hA
   exact ⟨a1,a2,vv,by rw [Sem.run_bind,gi];exact e1,e2⟩
  ·simp at h
 ·rename_i op' a b
  rw [ZcH hx,ZcH hy]
  obtain ⟨a1,a2,_,vv,e1,e2⟩:=strBin_sound (P:=P) (S:=S) T S.w h hA
  have gs:(eqGuard op T xo yo (.string ⟨⟨a⟩⟩) (.string ⟨⟨b⟩⟩)).run (P ()) S.w = .ok () S.w:=by cases op <;> simp [eqGuard]
  exact ⟨a1,a2,vv,by rw [Sem.run_bind,gs];exact e1,e2⟩
 ·rename_i h0 h3 h4
  split at h
  ·rename_i hg
   cases he:eqA P Op.maxDepth T x y with
   | none=>rw [he] at h;simp [ZbE] at h
   | some t =>
    rw [he] at h
    simp only [Option.map_some,ZbE,Option.some.injEq] at h
    subst h
    obtain ⟨e1,_,e3⟩:=Zfo (P:=P) (d:=9999) (xo:=xo) (yo:=yo) (w:=S.w) hx hy he hg (fun k a k' b e e'=>h3 _ _ _ _ e e') (fun a b e e'=>h4 _ _ e e')
    refine ⟨rfl,rfl,_,?_,Zdj S t⟩
    rw [Sem.run_bind,e3,e1]
    simp [Op.equal,eq_sound (P:=P) (w:=S.w) Op.maxDepth hx hy he]
  ·simp at h
 ·rename_i h0 h3 h4
  split at h
  ·rename_i hg
   cases he:eqA P Op.maxDepth T x y with
   | none=>rw [he] at h;simp [ZbE] at h
   | some t =>
    rw [he] at h
    simp only [Option.map_some,ZbE,Option.some.injEq] at h
    subst h
    obtain ⟨_,e2,e3⟩:=Zfo (P:=P) (d:=9999) (xo:=xo) (yo:=yo) (w:=S.w) hx hy he hg (fun k a k' b e e'=>h3 _ _ _ _ e e') (fun a b e e'=>h4 _ _ e e')
    refine ⟨rfl,rfl,_,?_,Zdj S (!t)⟩
    rw [Sem.run_bind,e3,e2]
    simp [Op.equal,eq_sound (P:=P) (w:=S.w) Op.maxDepth hx hy he]
  ·simp at h
 ·simp at h
theorem un_sound {S:St} {op:UnOp} {x v:AV} {xv:Value} (hx:Rel S x xv) (h:unA op x=some v):∃ vv,(Op.unary op xv).run (P ()) S.w = .ok vv S.w/\Rel S v vv:=by
 unfold unA at h
 split at h
 ·simp only [Option.some.injEq] at h;subst h
  rw [ZaH hx]
  exact ⟨_,by simp [Op.unary,Op.intArith],ZaR S _ _⟩
 ·simp only [Option.some.injEq] at h;subst h
  rw [ZaH hx]
  exact ⟨_,by simp [Op.unary,Op.intBits],ZaR S _ _⟩
 ·simp only [Option.some.injEq] at h;subst h
  rw [ZbN hx]
  exact ⟨_,by simp [Op.unary],Zdj S _⟩
 ·simp at h
theorem conv_sound {S:St} {src dst:TypeId} {x v:AV} {xv:Value} (hx:Rel S x xv) (h:convA P src dst x=some v):∃ vv,(convert src dst xv).run (P ()) S.w = .ok vv S.w/\Rel S v vv:=by
 unfold convA at h
 split at h
 ·rename_i d k k' n h1 h2
  simp only [Option.some.injEq] at h;subst h
  rw [ZaH hx]
  exact ⟨_,by simp [convert,run_underlying h1,run_underlying h2,Conv.intToInt],ZaR S _ _⟩
 ·rename_i d k' n h1 h2
  simp only [Option.some.injEq] at h;subst h
  rw [ZaH hx]
  exact ⟨_,by simp [convert,run_underlying h1,run_underlying h2,Conv.intToString],Ze5 S _⟩
 ·rename_i d t h1 h2
  simp only [Option.some.injEq] at h;subst h
  rw [ZcH hx]
  exact ⟨_,by simp [convert,run_underlying h1,run_underlying h2],Ze5 S _⟩
 ·rename_i d k' n h1 h2
  simp only [Option.some.injEq] at h;subst h
  rw [ZaH hx]
  exact ⟨_,by simp [convert,run_underlying h1,run_underlying h2,Conv.intToFloat],.data _ _ (.flt _)⟩
 ·simp at h
theorem convS_sound {S:St} {src dst:TypeId} {x:AV} {xv:Value} {r:SR} (hx:Rel S x xv) (h:convS P src dst x=some r) (hA:∀ b ∈ r.asm,b=true):r.L'=none/\r.calls=[] /\ ∃ vv,(convert src dst xv).run (P ()) S.w = .ok vv S.w/\Rel S r.v vv:=by
 unfold convS at h
 split at h
 ·rename_i d k b h1 h2
  simp only [Option.some.injEq] at h;subst h
  rw [rel_flt hx]
  have q:=hA (f2iB k b) (by simp)
  unfold f2iB at q
  have e:(convert src dst (.float .f64 b)).run (P ()) S.w = .ok (.int k (f2iV b)) S.w:=by
   unfold f2iV
   cases ht:(FloatKind.f64.decode b).toInt .zero with
   | none=>rw [ht] at q;simp at q
   | some n =>
    rw [ht] at q
    simp only [Bool.and_eq_true,decide_eq_true_eq] at q
    simp [convert,run_underlying h1,run_underlying h2,Conv.floatToInt,ht,q.1,q.2]
  exact ⟨rfl,rfl,_,e,ZaR S _ _⟩
 ·split at h
  ·rename_i v hv
   simp only [Option.some.injEq] at h;subst h
   exact ⟨rfl,rfl,conv_sound hx hv⟩
  ·simp at h
theorem ZgB {S:St} {c a b v:AV} {cv av bv:Value} (hc:Rel S c cv) (ha:cv = .bool true->Rel S a av) (hb:cv = .bool false->Rel S b bv) (h:pickA c a b=some v) :
  ∃ t,cv = .bool t/\Rel S v (if t then av else bv):=by
 unfold pickA at h
 split at h
 ·rename_i t
  have e:=ZbN hc
  refine ⟨t,e,?_⟩
  split at h
  ·rename_i x y
   simp only [Option.some.injEq] at h;subst h
   cases t
   ·simpa using hb e
   ·simpa using ha e
  ·simp only [Option.some.injEq] at h;subst h
   cases t
   ·simpa using hb e
   ·simpa using ha e
 ·simp at h
theorem field_sound {S:St} {T:TypeId} {x v:AV} {xv:Value} {f:Nat} (hx:Rel S x xv) (h:fieldA P T x f=some v):∃ vv,(Instr.field T xv f).run (P ()) S.w = .ok vv S.w/\Rel S v vv:=by
 unfold fieldA at h
 split at h
 ·rename_i fs hu
  split at h
  ·rename_i fl hf
   split at h
   ·rename_i cs
    obtain ⟨vs,rfl,l1,r1⟩:=ZbT hx
    obtain ⟨vv,e1,e2⟩:=Zb7 (P:=P) (w:=S.w) l1 r1 h
    exact ⟨vv,by simp [Instr.field,run_underlying hu,hf,asAgg,e1],e2⟩
   ·simp at h
  ·simp at h
 ·simp at h
theorem ZfR {S:St} {T:TypeId} {p v:AV} {pv:Value} {f:Nat} (hx:Rel S p pv) (h:Zez P T p f=some v) :
  ∃ vv,(Instr.fieldAt T pv f).run (P ()) S.w = .ok vv S.w/\Rel S v vv:=by
 unfold Zez at h
 split at h
 ·rename_i fs hu
  split at h
  ·rename_i fl hf
   split at h
   ·simp at h
   ·rename_i i hi
    split at h
    ·simp at h
    ·rename_i hz
     split at h
     ·rename_i r ver i' j
      simp only [Option.some.injEq] at h;subst h
      obtain ⟨⟨a,rfl⟩,row,info,h1,h2,h3,h4,hmp⟩:=Ze0 hx
      refine ⟨.pointer (some (a.add fl.offset)),?_,.ptr _ _ _ _ row info _ ⟨⟨_,rfl⟩,hmp⟩ h1 h2 h3 fun e => ?_⟩
      ·simp [Instr.fieldAt,run_underlying hu,hf,Instr.sureAddr,fieldPlace,ZaA hi,hz]
      ·have:=h4 e
       simp only [Value.pointer.injEq,Option.some.injEq] at this
       subst this
       rw [Za6,Nat.add_assoc]
     ·rename_i es xs i' j
      simp only [Option.some.injEq] at h;subst h
      have hd:=Zdo hx
      cases hd with
      | eptr _ _ _ _ b off ho hc hr =>
       refine ⟨.pointer (some ⟨b,off+i'*es+(j+fl.offset),none⟩),?_,.data _ _ (.eptr es xs i' (j+fl.offset) b off ho hc hr)⟩
       simp [Instr.fieldAt,run_underlying hu,hf,Instr.sureAddr,fieldPlace,ZaA hi,hz,Za6,Nat.add_assoc]
     ·simp at h
  ·simp at h
 ·simp at h
end
end Go.Av

namespace Go.Av
open Go.RowKit
theorem RelL.nil (S:St):RelL S [] []:=⟨rfl,by simp⟩
theorem RelL.cons {S:St} {c:AV} {v:Value} {cs:List AV} {vs:List Value} (h:Rel S c v) (k:RelL S cs vs):RelL S (c::cs) (v::vs):=by
 refine ⟨by simp [k.1],fun i a b ha hb => ?_⟩
 cases i with
 | zero=>simp at ha hb;subst ha;subst hb;exact h
 | succ i=>simp at ha hb;exact k.2 i a b ha hb
theorem RelL.head {S:St} {c:AV} {v:Value} {cs:List AV} {vs:List Value} (h:RelL S (c::cs) (v::vs)):Rel S c v:=h.2 0 c v rfl rfl
theorem RelL.tail {S:St} {c:AV} {v:Value} {cs:List AV} {vs:List Value} (h:RelL S (c::cs) (v::vs)):RelL S cs vs:=
 ⟨by simpa using h.1,fun i a b ha hb=>h.2 (i+1) a b (by simpa using ha) (by simpa using hb)⟩
theorem RelL.append {S:St} {cs ds:List AV} {vs us:List Value} (h:RelL S cs vs) (k:RelL S ds us):RelL S (cs++ds) (vs++us):=by
 refine ⟨by simp [h.1,k.1],fun i a b ha hb => ?_⟩
 by_cases hi:i<cs.length
 ·rw [List.getElem?_append_left hi] at ha
  rw [List.getElem?_append_left (by rw [<- h.1];exact hi)] at hb
  exact h.2 i a b ha hb
 ·rw [List.getElem?_append_right (by omega)] at ha
  rw [List.getElem?_append_right (by rw [<- h.1];omega),<- h.1] at hb
  exact k.2 _ a b ha hb
theorem RelL.take {S:St} {cs:List AV} {vs:List Value} (h:RelL S cs vs) (n:Nat):RelL S (cs.take n) (vs.take n):=by
 refine ⟨by simp [h.1],fun i a b ha hb => ?_⟩
 rw [List.getElem?_take] at ha hb
 split at ha
 ·rename_i hlt;simp only [hlt,if_true] at hb;exact h.2 i a b ha hb
 ·simp at ha
theorem RelL.drop {S:St} {cs:List AV} {vs:List Value} (h:RelL S cs vs) (n:Nat):RelL S (cs.drop n) (vs.drop n):=by
 refine ⟨by simp [h.1],fun i a b ha hb => ?_⟩
 rw [List.getElem?_drop] at ha hb
 exact h.2 _ a b ha hb
theorem RelL.mono {S S':St} (he:Ext S S') {cs:List AV} {vs:List Value} (h:RelL S cs vs):RelL S' cs vs:=
 ⟨h.1,fun i a b ha hb=>(h.2 i a b ha hb).mono he⟩
theorem RelL.map {S:St} {l:List Operand} {ρ:Operand->AV} {ρc:Operand->Value} (h:∀ x,Rel S (ρ x) (ρc x)):RelL S (l.map ρ) (l.map ρc):=by
 induction l with
 | nil=>exact .nil S
 | cons x l ih=>exact .cons (h x) ih
theorem Zbp {S:St} {a:AV} {v:Value} (h:Rel S a v) (ha:a ≠ .any):RelL S a.cells v.cells.toList:=by
 obtain ⟨h1,h2⟩:=cells_of_rel h ha
 exact ⟨by simpa using h1,fun k c cv hc hv=>h2 k c cv hc (by simpa using hv)⟩
theorem Za8 {a:AV} (h:a.cells.all AV.plain=true):a ≠ .any:=by
 rintro rfl;simp [AV.cells,AV.plain] at h
section
variable {P:Unit->Program}
theorem ZbU {a:AV} (h:a.known=true):a ≠ .any:=by
 rintro rfl;simp [AV.known] at h
theorem ZdY (S:St) {T:TypeId} {z:AV} (h:zeroA P T=some z):∃ zv,(zeroValue T).run (P ()) S.w = .ok zv S.w/\Rel S z zv:=by
 unfold zeroA at h
 split at h
 ·rename_i i hi
  cases hz:i.zero with
  | none=>simp [hz] at h
  | some zv =>
   simp only [hz,Option.map_some,Option.some.injEq] at h
   subst h
   exact ⟨zv,by simp [zeroValue,ZcD hi,hz],Zfv S zv⟩
 ·simp at h
theorem ZfP (off:Nat):∀ (l:List Value) (k:Nat) (cells:Array Value),off+k+l.length<=cells.size ->
  ((l.zipIdx k).foldl (fun cs (x:Value × Nat)=>cs.setIfInBounds (off+x.2) x.1) cells).toList=cells.toList.take (off+k)++l++cells.toList.drop (off+k+l.length)
 | [],k,cells,_=>by simp
 | v::rest,k,cells,h=>by
  simp only [List.zipIdx_cons,List.foldl_cons]
  rw [ZfP off rest (k+1) _ (by simp at h ⊢;omega)]
  have:=list_seg_step cells.toList (off+k) v rest (by simp at h ⊢;omega)
  simpa [Array.toList_setIfInBounds,Nat.add_assoc] using this
theorem ZgM {S:St} {place:Nat->Option (Nat × Nat)}:∀ (parts:List (Nat × AV)) (vparts:List (Nat × Value)) (cells:List AV) (vcells:Array Value) (r:List AV),
  parts.length=vparts.length->(∀ (i:Nat) p q,parts[i]? = some p->vparts[i]? = some q->p.1=q.1/\Rel S p.2 q.2)->RelL S cells vcells.toList ->
  fillA place cells parts=some r -> ∃ rv,Instr.fill place vcells vparts=some rv/\RelL S r rv.toList:=by
 intro parts
 induction parts with
 | nil =>
  intro vparts cells vcells r hl _ hc h
  have:vparts=[]:=List.eq_nil_of_length_eq_zero (by simpa using hl.symm)
  subst this
  simp only [fillA,Option.some.injEq] at h;subst h
  exact ⟨vcells,rfl,hc⟩
 | cons p parts ih =>
  intro vparts cells vcells r hl hp hc h
  cases vparts with
  | nil=>simp at hl
  | cons q vparts =>
   obtain ⟨i,v⟩:=p
   obtain ⟨i',u⟩:=q
   obtain ⟨e1,e2⟩:=hp 0 _ _ rfl rfl
   simp only at e1 e2
   subst e1
   simp only [fillA] at h
   split at h
   ·simp at h
   ·rename_i off size hpl
    split at h
    ·rename_i hcond
     have hcl:=Zbp e2 (ZbU hcond.1)
     have hsz:u.cells.size=size:=by have:=hcl.1;simp at this;omega
     have hcs:cells.length=vcells.size:=by simpa using hc.1
     have hfit:off+u.cells.toList.length<=vcells.size:=by simp;omega
     have hfold:(u.cells.zipIdx.foldl (fun cs (x:Value × Nat)=>cs.setIfInBounds (off+x.2) x.1) vcells).toList=vcells.toList.take off++u.cells.toList++vcells.toList.drop (off+u.cells.toList.length):=by
      rw [<- Array.foldl_toList,Array.toList_zipIdx]
      simpa using ZfP off u.cells.toList 0 vcells (by simpa using hfit)
     obtain ⟨rv,h1,h2⟩:=ih vparts (cells.take off++(v.cells++cells.drop (off+size)))
      (u.cells.zipIdx.foldl (fun cs (x:Value × Nat)=>cs.setIfInBounds (off+x.2) x.1) vcells) r (by simpa using hl)
      (fun k p q hp' hq'=>hp (k+1) p q (by simpa using hp') (by simpa using hq'))
      (by
       rw [hfold,List.append_assoc]
       have:u.cells.toList.length=size:=by simpa using hsz
       rw [this]
       exact (hc.take off).append (hcl.append (hc.drop (off+size))))
      h
     refine ⟨rv,?_,h2⟩
     simp only [Instr.fill,hpl,hsz]
     rw [if_neg (by simp;omega)]
     exact h1
    ·simp at h
theorem places_sound {w:World}:∀ (fs:List Field) {pl:List (Nat × Nat)},places P fs=some pl ->
  (fs.mapM fun f=>(do pure (f.offset,<- sizeOf f.type):Sem (Nat × Nat))).run (P ()) w = .ok pl w:=by
 intro fs
 induction fs with
 | nil=>intro pl h;simp only [places,Option.some.injEq] at h;subst h;simp
 | cons f fs ih =>
  intro pl h
  simp only [places] at h
  split at h
  ·rename_i i q hi hq
   simp only [Option.some.injEq] at h;subst h
   simp only [List.mapM_cons,Sem.run_bind,ZaA hi,Result.andThen_ok,Sem.run_pure,ih hq]
  ·simp at h
theorem parts_map {S:St} {ρ:Operand->AV} {ρc:Operand->Value} (h:∀ x,Rel S (ρ x) (ρc x)) (parts:List (Nat × Operand)) :
  (parts.map fun (i,x)=>(i,ρ x)).length=(parts.map fun (i,x)=>(i,ρc x)).length /\
  ∀ (i:Nat) p q,(parts.map fun (i,x)=>(i,ρ x))[i]? = some p->(parts.map fun (i,x)=>(i,ρc x))[i]? = some q->p.1=q.1/\Rel S p.2 q.2:=by
 refine ⟨by simp,fun i p q hp hq => ?_⟩
 simp only [List.getElem?_map] at hp hq
 cases hx:parts[i]? with
 | none=>simp [hx] at hp
 | some x =>
  simp only [hx,Option.map_some,Option.some.injEq] at hp hq
  subst hp;subst hq
  exact ⟨rfl,h _⟩
theorem build_sound {S:St} {T:TypeId} {parts:Array (Nat × Operand)} {v:AV} {ρ:Operand->AV} {ρc:Operand->Value} (hρ:∀ x,Rel S (ρ x) (ρc x))
  (h:buildA P T (parts.toList.map fun (i,x)=>(i,ρ x))=some v):∃ vv,(Instr.build T (parts.map fun (i,x)=>(i,ρc x))).run (P ()) S.w = .ok vv S.w/\Rel S v vv:=by
 obtain ⟨hl,hp⟩:=parts_map hρ parts.toList
 have hpt:(parts.map fun (i,x)=>(i,ρc x)).toList=parts.toList.map fun (i,x)=>(i,ρc x):=by simp
 unfold buildA at h
 split at h
 ·rename_i z fs hz hu
  split at h
  ·rename_i pl hkn hpl
   cases hf:fillA (pl[·]?) z.cells (parts.toList.map fun (i,x)=>(i,ρ x)) with
   | none=>simp [hf] at h
   | some r =>
    simp only [hf,Option.map_some,Option.some.injEq] at h;subst h
    obtain ⟨zv,e1,e2⟩:=ZdY S hz
    obtain ⟨rv,e3,e4⟩:=ZgM (S:=S) _ _ z.cells zv.cells r hl hp (Zbp e2 (ZbU hkn)) hf
    refine ⟨.agg rv,?_,?_⟩
    ·have hm:=places_sound (P:=P) (w:=S.w) fs.toList hpl
     simp only [Instr.build,Sem.run_bind,e1,Result.andThen_ok,run_underlying hu,Array.mapM_eq_mapM_toList,Sem.run_map,hm,hpt]
     have:(fun k:Nat=>(pl.toArray:Array (Nat × Nat))[k]?)=(fun k:Nat=>pl[k]?):=by funext k;simp
     simp only [this,e3]
     rfl
    ·obtain ⟨l⟩:=rv
     exact .agg r _ e4.1 e4.2
  ·simp at h
 ·rename_i z n e hz hu
  split at h
  ·rename_i i hkn hi
   cases hf:fillA (fun k=>some (k*i.size,i.size)) z.cells (parts.toList.map fun (i,x)=>(i,ρ x)) with
   | none=>simp [hf] at h
   | some r =>
    simp only [hf,Option.map_some,Option.some.injEq] at h;subst h
    obtain ⟨zv,e1,e2⟩:=ZdY S hz
    obtain ⟨rv,e3,e4⟩:=ZgM (S:=S) _ _ z.cells zv.cells r hl hp (Zbp e2 (ZbU hkn)) hf
    refine ⟨.agg rv,?_,?_⟩
    ·simp only [Instr.build,Sem.run_bind,e1,Result.andThen_ok,run_underlying hu,ZaA hi,hpt,e3]
     rfl
    ·obtain ⟨l⟩:=rv
     exact .agg r _ e4.1 e4.2
  ·simp at h
 ·simp at h
end
end Go.Av

namespace Go.Av
open Go.RowKit
section
variable {P:Unit->Program}
theorem alld {l:List Bool} (h:∀ b ∈ l,b=true) {p:Prop} [Decidable p] (hb:decide p ∈ l):p:=of_decide_eq_true (h _ hb)
theorem index_sound {S:St} {T:TypeId} {x i:AV} {xv iv:Value} {r:SR} (hx:Rel S x xv) (hi:Rel S i iv) (h:ZgK P T x i=some r) (hA:∀ b ∈ r.asm,b=true) :
  r.L'=none/\r.calls=[]/\r.eqs=[] /\ ∃ vv,(Instr.index T xv iv).run (P ()) S.w = .ok vv S.w/\Rel S r.v vv:=by
 unfold ZgK at h
 split at h
 ·rename_i len e cs k n hu
  split at h
  ·rename_i q hq
   split at h
   ·rename_i v hv
    simp only [Option.some.injEq] at h;subst h
    have h0:0<=n:=alld hA (p:=0<=n) (by simp)
    have h1:n<len:=alld hA (p:=n<len) (by simp)
    obtain ⟨vs,rfl,l1,r1⟩:=ZbT hx
    rw [ZaH hi]
    obtain ⟨vv,e1,e2⟩:=Zb7 (P:=P) (w:=S.w) l1 r1 hv
    exact ⟨rfl,rfl,rfl,vv,by simp [Instr.index,asIntOf,run_underlying hu,h0,h1,ZaA hq,e1],e2⟩
   ·simp at h
  ·simp at h
 ·rename_i t k n hu
  simp only [Option.some.injEq] at h;subst h
  have h0:0<=n:=alld hA (p:=0<=n) (by simp)
  have h1:n.toNat<t.length:=alld hA (p:=n.toNat<t.length) (by simp)
  rw [ZcH hx,ZaH hi]
  have hs:(⟨⟨t⟩⟩:ByteArray).size=t.length:=rfl
  have h2:n<(⟨⟨t⟩⟩:ByteArray).size:=by rw [hs];omega
  refine ⟨rfl,rfl,rfl,_,?_,ZaR S _ _⟩
  rw [run_index_string (P:=P ()) S.w T ⟨⟨t⟩⟩ k n hu,dif_pos ⟨h0,h2⟩]
  have:((⟨⟨t⟩⟩:ByteArray)[n.toNat]'(by omega))=t.getD n.toNat 0:=by
   rw [List.getD_eq_getElem?_getD,List.getElem?_eq_getElem h1];rfl
  rw [this]
 ·simp at h
theorem ZfJ {S:St} (hS:HeapOk S) {T:TypeId} {x i:AV} {xv iv:Value} {r:SR} (hx:Rel S x xv) (hi:Rel S i iv) (h:ZbG P S.L T x i=some r) (hA:∀ b ∈ r.asm,b=true) :
  r.L'=none/\r.calls=[]/\r.eqs=[] /\ ∃ vv,(Instr.indexAt T xv iv).run (P ()) S.w = .ok vv S.w/\Rel S r.v vv:=by
 unfold ZbG at h
 split at h
 ·rename_i e f es xs k n hu
  split at h
  ·rename_i q hq
   split at h
   ·rename_i hes
    simp only [Option.some.injEq] at h;subst h
    have h0:0<=n:=alld hA (p:=0<=n) (by simp)
    have h1:n.toNat<xs.length:=alld hA (p:=n.toNat<xs.length) (by simp)
    rw [ZaH hi]
    have hd:=ZbS hx
    cases hd with
    | vecE _ _ a cap hf=>simp at h1
    | vec _ _ _ b off cap ho hf hl hc hr =>
     have h2:n<(xs.length:Int):=by omega
     refine ⟨rfl,rfl,rfl,.pointer (some ⟨b,off+n.toNat*es+0,none⟩),?_,.data _ _ (.eptr es xs n.toNat 0 b off ho hc hr)⟩
     simp [Instr.indexAt,asIntOf,run_underlying hu,h0,h2,ZaA hq,Za6,hes]
   ·simp at h
  ·simp at h
 ·rename_i e r' ver k n hu
  split at h
  ·rename_i row q hrow hq
   split at h
   ·rename_i hes
    simp only [Option.some.injEq] at h;subst h
    have h0:0<=n:=alld hA (p:=0<=n) (by simp)
    have h1:n.toNat<row.elems.length:=alld hA (p:=n.toNat<row.elems.length) (by simp)
    have hver:row.ver=ver:=by simpa using hA (row.ver==ver) (by simp)
    rw [ZaH hi]
    obtain ⟨row',info,a1,a2,a3,hmp⟩:=Zc3 hx
    rw [hrow] at a1
    simp only [Option.some.injEq] at a1;subst a1
    have h2:n<(row.elems.length:Int):=by omega
    have hie:=(hS.cells r' row info hrow a2 hmp).1
    rw [a3 hver]
    refine ⟨rfl,rfl,rfl,.pointer (some ⟨info.blk,info.off+n.toNat*info.es+0,none⟩),?_,.ptr _ _ _ _ row info _ ⟨⟨_,rfl⟩,hmp⟩ hrow a2 (by omega) fun _=>rfl⟩
    simp [Instr.indexAt,asIntOf,run_underlying hu,h0,h2,ZaA hq,Za6,hie,hes]
   ·simp at h
  ·simp at h
 ·rename_i e r' ver lo len k n hu
  split at h
  ·rename_i row q hrow hq
   split at h
   ·rename_i hes
    simp only [Option.some.injEq] at h;subst h
    have h0:0<=n:=alld hA (p:=0<=n) (by simp)
    have h1:n.toNat<len:=alld hA (p:=n.toNat<len) (by simp)
    have hver:row.ver=ver:=by simpa using hA (row.ver==ver) (by simp)
    rw [ZaH hi]
    obtain ⟨row',info,a1,a2,a3,hmp⟩:=ZdI hx
    rw [hrow] at a1
    simp only [Option.some.injEq] at a1;subst a1
    have h2:n<(len:Int):=(Int.toNat_lt h0).1 h1
    obtain ⟨a,cap,rfl,b1,b2,b3⟩:=a3 hver
    have hie:=(hS.cells r' row info hrow a2 hmp).1
    rcases b3 with ⟨rfl,b4⟩ | b4
    ·refine ⟨rfl,rfl,rfl,.pointer (some ⟨info.blk,info.off+(lo+n.toNat)*info.es+0,none⟩),?_,.ptr _ _ _ _ row info _ ⟨⟨_,rfl⟩,hmp⟩ hrow a2 (by omega) fun _=>rfl⟩
     simp [Instr.indexAt,asIntOf,run_underlying hu,h0,h2,ZaA hq,Za6,hie,hes,Nat.add_mul,Nat.add_assoc]
    ·omega
   ·simp at h
  ·simp at h
 ·rename_i len e r' ver i' j k n hu
  split at h
  ·rename_i q hq
   simp only [Option.some.injEq] at h;subst h
   have h0:0<=n:=alld hA (p:=0<=n) (by simp)
   have h1:n<len:=alld hA (p:=n<len) (by simp)
   rw [ZaH hi]
   obtain ⟨⟨a,rfl⟩,row,info,a1,a2,a3,a4,hmp⟩:=Ze0 hx
   refine ⟨rfl,rfl,rfl,.pointer (some (a.add (n.toNat*q.size))),?_,.ptr _ _ _ _ row info _ ⟨⟨_,rfl⟩,hmp⟩ a1 a2 a3 fun e => ?_⟩
   ·simp [Instr.indexAt,asIntOf,run_underlying hu,h0,h1,ZaA hq,Instr.sureAddr]
   ·have:=a4 e
    simp only [Value.pointer.injEq,Option.some.injEq] at this
    subst this
    rw [Za6,Nat.add_assoc]
  ·simp at h
 ·rename_i len e es xs i' j k n hu
  split at h
  ·rename_i q hq
   simp only [Option.some.injEq] at h;subst h
   have h0:0<=n:=alld hA (p:=0<=n) (by simp)
   have h1:n<len:=alld hA (p:=n<len) (by simp)
   rw [ZaH hi]
   have hd:=Zdo hx
   cases hd with
   | eptr _ _ _ _ b off ho hc hr =>
    refine ⟨rfl,rfl,rfl,.pointer (some ⟨b,off+i'*es+(j+n.toNat*q.size),none⟩),?_,.data _ _ (.eptr es xs i' _ b off ho hc hr)⟩
    simp [Instr.indexAt,asIntOf,run_underlying hu,h0,h1,ZaA hq,Instr.sureAddr,Za6,Nat.add_assoc]
  ·simp at h
 ·simp at h
inductive BRel (S:St):Option AV->Option Value->Prop
 | none:BRel S none none
 | some (a:AV) (v:Value):Rel S a v->BRel S (some a) (some v)
theorem ZbJ {S:St} {d:Nat} {x:Option AV} {xv:Option Value} {l:Nat} {p:List Bool} (hx:BRel S x xv) (h:ZcN d x=some (l,p)) (hp:∀ b ∈ p,b=true) :
  (xv=none/\l=d) \/ ∃ k n,xv=some (.int k n)/\0<=n/\l=n.toNat:=by
 cases hx with
 | none=>simp only [ZcN,Option.some.injEq,Prod.mk.injEq] at h;exact .inl ⟨rfl,h.1.symm⟩
 | some a v hv =>
  unfold ZcN at h
  split at h
  ·rename_i e;cases e
  ·rename_i k n e
   cases e
   simp only [Option.some.injEq,Prod.mk.injEq] at h
   obtain ⟨rfl,rfl⟩:=h
   exact .inr ⟨k,n,by rw [ZaH hv],alld hp (by simp),rfl⟩
  ·simp at h
theorem Zbx {w:World} {k:IntKind} {n:Int} {y:Nat} {c:BoundsCode} (h0:0<=n) (h1:n.toNat<=y):(Instr.sliceBound (.int k n) y c).run (P ()) w = .ok n.toNat w:=by
 have:n<=(y:Int):=by omega
 simp [Instr.sliceBound,asIntOf,h0,this]
theorem Zf0 {S:St} {isS:Bool} {len cap l h:Nat} {lo hi:Option AV} {lov hiv:Option Value} {p q:List Bool} (hlo:BRel S lo lov) (hhi:BRel S hi hiv)
  (h1:ZcN 0 lo=some (l,p)) (h2:ZcN len hi=some (h,q)) (hp:∀ b ∈ p,b=true) (hq:∀ b ∈ q,b=true) (hlh:l<=h) (hc:h<=cap) :
  (Instr.sliceBounds isS len cap lov hiv none).run (P ()) S.w = .ok (l,h,cap) S.w:=by
 rcases ZbJ hhi h2 hq with ⟨rfl,rfl⟩ | ⟨k,n,rfl,hn,rfl⟩
 ·rcases ZbJ hlo h1 hp with ⟨rfl,rfl⟩ | ⟨k',n',rfl,hn',rfl⟩
  ·simp [Instr.sliceBounds]
  ·simp [Instr.sliceBounds,Zbx (P:=P) hn' hlh]
 ·rcases ZbJ hlo h1 hp with ⟨rfl,rfl⟩ | ⟨k',n',rfl,hn',rfl⟩
  ·simp [Instr.sliceBounds,Zbx (P:=P) hn hc]
  ·simp [Instr.sliceBounds,Zbx (P:=P) hn hc,Zbx (P:=P) hn' hlh]
theorem bounds3 {S:St} {isS:Bool} {len cap l h m:Nat} {lo hi:Option AV} {lov hiv:Option Value} {mk:IntKind} {mn:Int} {p q:List Bool} (hlo:BRel S lo lov) (hhi:BRel S hi hiv)
  (h1:ZcN 0 lo=some (l,p)) (h2:ZcN len hi=some (h,q)) (hp:∀ b ∈ p,b=true) (hq:∀ b ∈ q,b=true) (hm0:0<=mn) (hm:mn.toNat=m) (hs:hi.isSome=true) (hlh:l<=h) (hhm:h<=m) (hc:m<=cap) :
  (Instr.sliceBounds isS len cap lov hiv (some (.int mk mn))).run (P ()) S.w = .ok (l,h,m) S.w:=by
 subst hm
 rcases ZbJ hhi h2 hq with ⟨rfl,rfl⟩ | ⟨k,n,rfl,hn,rfl⟩
 ·cases hhi;simp at hs
 ·rcases ZbJ hlo h1 hp with ⟨rfl,rfl⟩ | ⟨k',n',rfl,hn',rfl⟩
  ·simp [Instr.sliceBounds,Zbx (P:=P) hm0 hc,Zbx (P:=P) hn hhm]
  ·simp [Instr.sliceBounds,Zbx (P:=P) hm0 hc,Zbx (P:=P) hn hhm,Zbx (P:=P) hn' hlh]
theorem Za5.sub {es:Nat} {xs:List AV} (h:Za5 es xs) (l m:Nat):Za5 es ((xs.take m).drop l):=by
 intro i x hx
 rw [List.getElem?_drop,List.getElem?_take] at hx
 split at hx
 ·exact h _ x hx
 ·simp at hx
theorem get_sub {α:Type} {xs:List α} {l m i:Nat} {x:α} (h:((xs.take m).drop l)[i]? = some x):xs[l+i]? = some x:=by
 rw [List.getElem?_drop,List.getElem?_take] at h
 split at h
 ·exact h
 ·simp at h
theorem vec_sub {S:St} {es:Nat} {xs:List AV} {b off cap l h:Nat} (f:Bool) (cap':Nat) (ho:Za5 es xs)
  (hc:∀ (i:Nat) x (k:Nat) c,xs[i]? = some x->x.cells[k]? = some c->(∃ cv,S.w.cell? ⟨b,off+i*es+k,none⟩=some cv)/\Imm S b (off+i*es+k))
  (hr:∀ (i:Nat) x (k:Nat) c cv,xs[i]? = some x->x.cells[k]? = some c->S.w.cell? ⟨b,off+i*es+k,none⟩=some cv->DRel S c cv)
  (hlh:l<=h) (hh:h<=xs.length) (hm:l+cap'=cap) (hhc:h<=cap) (hf:f=true->l+cap'=h) :
  DRel S (.vec f es ((xs.take h).drop l)) (.slice (if cap=l then some ⟨b,off,none⟩ else some ((⟨b,off,none⟩:Addr).add (l*es))) (h-l) cap'):=by
 have hlen:((xs.take h).drop l).length=h-l:=by simp;omega
 by_cases he:cap=l
 ·have e1:h=l:=by omega
  have e2:cap'=0:=by omega
  have:(xs.take h).drop l=[]:=List.eq_nil_of_length_eq_zero (by omega)
  rw [this,e1,e2,Nat.sub_self]
  exact .vecE f es _ 0 fun _=>rfl
 ·rw [if_neg he,Za6]
  have:=DRel.vec (S:=S) f es ((xs.take h).drop l) b (off+l*es) cap' (ho.sub l h) (fun e=>by rw [hlen];have:=hf e;omega) (by rw [hlen];omega)
   (fun i x k c hx hk=>by
    have:=hc (l+i) x k c (get_sub hx) hk
    rw [Nat.add_mul,<- Nat.add_assoc] at this
    exact this)
   (fun i x k c cv hx hk hcv=>hr (l+i) x k c cv (get_sub hx) hk (by rw [Nat.add_mul,<- Nat.add_assoc];exact hcv))
  rw [hlen] at this
  exact this
theorem ZgP (t:List UInt8) (l h:Nat):(⟨⟨t⟩⟩:ByteArray).extract l h=⟨⟨(t.take h).drop l⟩⟩:=by
 apply ByteArray.ext
 rw [ByteArray.data_extract]
 apply Array.ext'
 simp [List.drop_take]
theorem slice_sound {S:St} (hS:HeapOk S) {T:TypeId} {x:AV} {xv:Value} {lo hi mx:Option AV} {lov hiv mxv:Option Value} {r:SR} (hx:Rel S x xv) (hlo:BRel S lo lov) (hhi:BRel S hi hiv) (hmx:BRel S mx mxv)
  (h:Zgt P S.L T x lo hi mx=some r) (hA:∀ b ∈ r.asm,b=true) :
  r.L'=none/\r.calls=[]/\r.eqs=[] /\ ∃ vv,(Instr.sliceAt T xv lov hiv mxv).run (P ()) S.w = .ok vv S.w/\Rel S r.v vv:=by
 unfold Zgt at h
 split at h
 ·rename_i t hu
  split at h
  ·rename_i l p h' q hl hh
   simp only [Option.some.injEq] at h;subst h
   cases hmx
   have hp:∀ b ∈ p,b=true:=fun b hb=>hA b (by simp [hb])
   have hq:∀ b ∈ q,b=true:=fun b hb=>hA b (by simp [hb])
   have h1:l<=h':=alld hA (by simp)
   have h2:h'<=t.length:=alld hA (by simp)
   rw [ZcH hx]
   have hb:=Zf0 (P:=P) (S:=S) (isS:=false) (cap:=t.length) hlo hhi hl hh hp hq h1 h2
   refine ⟨rfl,rfl,rfl,.string ⟨⟨(t.take h').drop l⟩⟩,?_,Ze5 S _⟩
   have hsz:(⟨⟨t⟩⟩:ByteArray).size=t.length:=rfl
   simp [Instr.sliceAt,run_underlying hu,Instr.slice,hsz,hb,ZgP]
  ·simp at h
 ·rename_i e hu
  split at h
  ·rename_i i l p h' q m u hi' hl hh hm
   simp only [Option.some.injEq] at h;subst h
   have hp:∀ b ∈ p,b=true:=fun b hb=>hA b (by simp [hb])
   have hq:∀ b ∈ q,b=true:=fun b hb=>hA b (by simp [hb])
   have hu':∀ b ∈ u,b=true:=fun b hb=>hA b (by simp [hb])
   have e1:l=0:=by simpa using hA (l==0) (by simp)
   have e2:h'=0:=by simpa using hA (h'==0) (by simp)
   have e3:m=0:=by simpa using hA (m==0) (by simp)
   have e4:(mx.isNone||hi.isSome)=true:=hA _ (by simp)
   rw [ZaM hx]
   refine ⟨rfl,rfl,rfl,.slice none 0 0,?_,.data _ _ .vnil⟩
   cases hmx with
   | none =>
    have hb:=Zf0 (P:=P) (S:=S) (isS:=true) (cap:=0) hlo hhi hl hh hp hq (by omega) (by omega)
    subst e1;subst e2
    simp [Instr.sliceAt,run_underlying hu,Instr.slice,hb,ZaA hi']
   | some a v hv =>
    rcases ZbJ (.some a v hv) hm hu' with ⟨h1,_⟩ | ⟨k,n,h1,h2,h3⟩
    ·cases h1
    ·cases h1
     have hb:=bounds3 (P:=P) (S:=S) (isS:=true) (cap:=0) (m:=0) (mk:=k) (mn:=n) hlo hhi hl hh hp hq h2 (by omega) (by simpa using e4) (by omega) (by omega) (by omega)
     subst e1;subst e2
     simp [Instr.sliceAt,run_underlying hu,Instr.slice,hb,ZaA hi']
  ·simp at h
 ·rename_i e f es xs hu
  split at h
  ·rename_i i hi'
   split at h
   ·rename_i hes
    split at h
    ·rename_i l p h' q hl hh
     have sl:∀ (a:Option Addr) (cap:Nat),xs.length<=cap->(∀ b ∈ p,b=true)->(∀ b ∈ q,b=true)->l<=h'->h'<=xs.length->mxv=none ->
       (Instr.sliceAt T (.slice a xs.length cap) lov hiv mxv).run (P ()) S.w = .ok (.slice (if cap=l then a else a.map (·.add (l*es))) (h'-l) (cap-l)) S.w:=by
      intro a cap hcap hp hq h1 h2 hm
      subst hm
      have hb:=Zf0 (P:=P) (S:=S) (isS:=true) (cap:=cap) hlo hhi hl hh hp hq h1 (by omega)
      simp [Instr.sliceAt,run_underlying hu,Instr.slice,hb,ZaA hi',hes]
     split at h
     ·simp only [Option.some.injEq] at h;subst h
      cases hmx
      have hp:∀ b ∈ p,b=true:=fun b hb=>hA b (by simp [hb])
      have hq:∀ b ∈ q,b=true:=fun b hb=>hA b (by simp [hb])
      have h1:l<=h':=alld hA (by simp)
      have h2:h'<=xs.length:=alld hA (by simp)
      have hd:=ZbS hx
      cases hd with
      | vecE _ _ a cap hf =>
       have e1:h'=0:=by simpa using h2
       have e2:l=0:=by omega
       subst e1;subst e2
       refine ⟨rfl,rfl,rfl,_,sl a cap (by simp) hp hq h1 h2 rfl,?_⟩
       simp only [List.take_nil,List.drop_nil,Nat.sub_zero]
       exact .data _ _ (.vecE _ es _ cap fun e=>hf (by simp at e;exact e.1))
      | vec _ _ _ b off cap ho hf hlc hc hr =>
       refine ⟨rfl,rfl,rfl,_,sl _ cap hlc hp hq h1 h2 rfl,.data _ _ ?_⟩
       have:=vec_sub (S:=S) (cap:=cap) (f&&hi.isNone) (cap-l) ho hc hr h1 h2 (by omega) (by omega) (fun e=>by
        simp only [Bool.and_eq_true,Option.isNone_iff_eq_none] at e
        have e2:=hf e.1
        have:h'=xs.length:=by
         have:=e.2;subst this
         simp only [ZcN,Option.some.injEq,Prod.mk.injEq] at hh
         exact hh.1.symm
        omega)
       simpa using this
     ·rename_i k m
      simp only [Option.some.injEq] at h;subst h
      have hp:∀ b ∈ p,b=true:=fun b hb=>hA b (by simp [hb])
      have hq:∀ b ∈ q,b=true:=fun b hb=>hA b (by simp [hb])
      have h1:l<=h':=alld hA (by simp)
      have h2:h'<=xs.length:=alld hA (by simp)
      have h3:m=h':=by simpa using hA (m==h') (by simp)
      have h4:hi.isSome=true:=hA _ (by simp)
      cases hmx with
      | some _ v hv =>
       have ev:=ZaH hv;subst ev
       have sl3:∀ (a:Option Addr) (cap:Nat),xs.length<=cap->(Instr.sliceAt T (.slice a xs.length cap) lov hiv (some (.int k m))).run (P ()) S.w = .ok (.slice (if h'=l then a else a.map (·.add (l*es))) (h'-l) (h'-l)) S.w:=by
        intro a cap hcap
        have hb:=bounds3 (P:=P) (S:=S) (isS:=true) (cap:=cap) (m:=h') (mk:=k) (mn:=m) hlo hhi hl hh hp hq (by omega) (by omega) h4 h1 (Nat.le_refl _) (by omega)
        simp [Instr.sliceAt,run_underlying hu,Instr.slice,hb,ZaA hi',hes]
       have hd:=ZbS hx
       cases hd with
       | vecE _ _ a cap hf =>
        have e1:h'=0:=by simpa using h2
        have e2:l=0:=by omega
        subst e1;subst e2
        refine ⟨rfl,rfl,rfl,_,sl3 a cap (by simp),?_⟩
        simp only [List.take_nil,List.drop_nil,Nat.sub_zero]
        exact .data _ _ (.vecE _ es _ 0 fun _=>rfl)
       | vec _ _ _ b off cap ho hf hlc hc hr =>
        refine ⟨rfl,rfl,rfl,_,sl3 _ cap hlc,.data _ _ ?_⟩
        have:=vec_sub (S:=S) (cap:=h') true (h'-l) ho hc hr h1 h2 (by omega) (by omega) (fun _=>by omega)
        simpa using this
     ·simp at h
    ·simp at h
   ·simp at h
  ·simp at h
 ·rename_i e r' ver hu
  split at h
  ·rename_i row i hrow hi'
   split at h
   ·rename_i hes
    split at h
    ·rename_i l p h' q hl hh
     obtain ⟨row',info,a1,a2,a3,hmp⟩:=Zc3 hx
     rw [hrow] at a1
     simp only [Option.some.injEq] at a1;subst a1
     have hie:=(hS.cells r' row info hrow a2 hmp).1
     have hic:=(hS.cells r' row info hrow a2 hmp).2.1
     split at h
     ·simp only [Option.some.injEq] at h;subst h
      cases hmx
      have hp:∀ b ∈ p,b=true:=fun b hb=>hA b (by simp [hb])
      have hq:∀ b ∈ q,b=true:=fun b hb=>hA b (by simp [hb])
      have h1:l<=h':=alld hA (by simp)
      have h2:h'<=row.elems.length:=alld hA (by simp)
      have hver:row.ver=ver:=by simpa using hA (row.ver==ver) (by simp)
      rw [a3 hver]
      have hb:=Zf0 (P:=P) (S:=S) (isS:=true) (cap:=info.cap) hlo hhi hl hh hp hq h1 (by omega)
      refine ⟨rfl,rfl,rfl,.slice (some (if info.cap=l then ⟨info.blk,info.off,none⟩ else (⟨info.blk,info.off,none⟩:Addr).add (l*row.es))) (h'-l) (info.cap-l),?_,
       .ref _ _ _ _ row info _ ⟨⟨_,_,_,rfl⟩,hmp⟩ hrow a2 (by omega) fun _=>⟨_,_,rfl,by omega,by omega,?_⟩⟩
      ·simp only [Instr.sliceAt,Sem.run_bind,run_underlying hu,Result.andThen_ok,Instr.slice,hb,ZaA hi',Sem.run_pure,hes]
       split <;> rfl
      ·by_cases e:info.cap=l
       ·right;omega
       ·left
        rw [if_neg e,Za6,hie]
        exact ⟨rfl,by omega⟩
     ·rename_i k m
      simp only [Option.some.injEq] at h;subst h
      have hp:∀ b ∈ p,b=true:=fun b hb=>hA b (by simp [hb])
      have hq:∀ b ∈ q,b=true:=fun b hb=>hA b (by simp [hb])
      have h1:l=h':=by simpa using hA (l==h') (by simp)
      have h2:h'<=row.elems.length:=alld hA (by simp)
      have h3:m=h':=by simpa using hA (m==h') (by simp)
      have h4:hi.isSome=true:=hA _ (by simp)
      have hver:row.ver=ver:=by simpa using hA (row.ver==ver) (by simp)
      cases hmx with
      | some _ v hv =>
       have ev:=ZaH hv;subst ev
       rw [a3 hver]
       have hb:=bounds3 (P:=P) (S:=S) (isS:=true) (cap:=info.cap) (m:=h') (mk:=k) (mn:=m) hlo hhi hl hh hp hq (by omega) (by omega) h4 (by omega) (Nat.le_refl _) (by omega)
       subst h1
       refine ⟨rfl,rfl,rfl,.slice (some ⟨info.blk,info.off,none⟩) 0 0,?_,.data _ _ (.vecE _ _ _ 0 fun _=>rfl)⟩
       simp [Instr.sliceAt,run_underlying hu,Instr.slice,hb,ZaA hi']
     ·simp at h
    ·simp at h
   ·simp at h
  ·simp at h
 ·rename_i e r' ver low len hu
  split at h
  ·rename_i row i hrow hi'
   split at h
   ·rename_i hes
    split at h
    ·rename_i l p h' q hl hh
     obtain ⟨row',info,a1,a2,a3,hmp⟩:=ZdI hx
     rw [hrow] at a1
     simp only [Option.some.injEq] at a1;subst a1
     have hie:=(hS.cells r' row info hrow a2 hmp).1
     split at h
     ·simp only [Option.some.injEq] at h;subst h
      cases hmx
      have hp:∀ b ∈ p,b=true:=fun b hb=>hA b (by simp [hb])
      have hq:∀ b ∈ q,b=true:=fun b hb=>hA b (by simp [hb])
      have h1:l<=h':=alld hA (by simp)
      have h2:h'<=len:=alld hA (by simp)
      have hver:row.ver=ver:=by simpa using hA (row.ver==ver) (by simp)
      obtain ⟨a,cap,rfl,b1,b2,b3⟩:=a3 hver
      have hb:=Zf0 (P:=P) (S:=S) (isS:=true) (cap:=cap) hlo hhi hl hh hp hq h1 (Nat.le_trans h2 b1)
      refine ⟨rfl,rfl,rfl,.slice (some (if cap=l then a else a.add (l*row.es))) (h'-l) (cap-l),?_,
       .ref _ _ _ _ row info _ ⟨⟨_,_,_,rfl⟩,hmp⟩ hrow a2 (Nat.le_of_eq hver.symm) fun _=>⟨_,_,rfl,Nat.sub_le_sub_right (Nat.le_trans h2 b1) _,?_,?_⟩⟩
      ·simp only [Instr.sliceAt,Sem.run_bind,run_underlying hu,Result.andThen_ok,Instr.slice,hb,ZaA hi',Sem.run_pure,hes]
       split <;> rfl
      ·clear hb a3;omega
      ·rcases b3 with ⟨rfl,b4⟩ | b4
       ·by_cases e:cap=l
        ·right;clear hb a3;omega
        ·left
         rw [if_neg e,Za6,hie,Nat.add_mul,Nat.add_assoc]
         exact ⟨rfl,by clear hb a3;omega⟩
       ·right;clear hb a3;omega
     ·rename_i k m
      simp only [Option.some.injEq] at h;subst h
      have hp:∀ b ∈ p,b=true:=fun b hb=>hA b (by simp [hb])
      have hq:∀ b ∈ q,b=true:=fun b hb=>hA b (by simp [hb])
      have h1:l=h':=by simpa using hA (l==h') (by simp)
      have h2:h'<=len:=alld hA (by simp)
      have h3:m=h':=by simpa using hA (m==h') (by simp)
      have h4:hi.isSome=true:=hA _ (by simp)
      have hver:row.ver=ver:=by simpa using hA (row.ver==ver) (by simp)
      have h5:0<=m:=by omega
      have h6:m.toNat=h':=by omega
      cases hmx with
      | some _ v hv =>
       have ev:=ZaH hv;subst ev
       obtain ⟨a,cap,rfl,b1,b2,b3⟩:=a3 hver
       have hb:=bounds3 (P:=P) (S:=S) (isS:=true) (cap:=cap) (m:=h') (mk:=k) (mn:=m) hlo hhi hl hh hp hq h5 h6 h4 (Nat.le_of_eq h1) (Nat.le_refl _) (Nat.le_trans h2 b1)
       subst h1
       refine ⟨rfl,rfl,rfl,.slice (some a) 0 0,?_,.data _ _ (.vecE _ _ _ 0 fun _=>rfl)⟩
       simp [Instr.sliceAt,run_underlying hu,Instr.slice,hb,ZaA hi']
     ·simp at h
    ·simp at h
   ·simp at h
  ·simp at h
 ·simp at h
theorem len_sound {S:St} {T ty:TypeId} {x:AV} {xv:Value} {r:SR} {ts:Array TypeId} (ht:ts[0]? = some T) (hx:Rel S x xv) (h:lenA P S.L T x=some r) (hA:∀ b ∈ r.asm,b=true) :
  r.L'=none/\r.calls=[]/\r.eqs=[] /\ ∃ vv,(Builtin.len_ ts ty #[xv]).run (P ()) S.w = .ok vv S.w/\Rel S r.v vv:=by
 unfold lenA at h
 split at h
 ·rename_i t hu
  simp only [Option.some.injEq] at h;subst h
  rw [ZcH hx]
  refine ⟨rfl,rfl,rfl,_,?_,ZaR S _ _⟩
  simp [Builtin.len_,ht,run_underlying hu,goInt];rfl
 ·rename_i e hu
  simp only [Option.some.injEq] at h;subst h
  rw [ZaM hx]
  exact ⟨rfl,rfl,rfl,_,by simp [Builtin.len_,ht,run_underlying hu,goInt],ZaR S _ _⟩
 ·rename_i e f es xs hu
  simp only [Option.some.injEq] at h;subst h
  refine ⟨rfl,rfl,rfl,_,?_,ZaR S _ _⟩
  have hd:=ZbS hx
  cases hd <;> simp [Builtin.len_,ht,run_underlying hu,goInt]
 ·rename_i e r' ver hu
  split at h
  ·rename_i row hrow
   simp only [Option.some.injEq] at h;subst h
   have hver:row.ver=ver:=by simpa using hA (row.ver==ver) (by simp)
   obtain ⟨row',info,a1,a2,a3,hmp⟩:=Zc3 hx
   rw [hrow] at a1
   simp only [Option.some.injEq] at a1;subst a1
   rw [a3 hver]
   exact ⟨rfl,rfl,rfl,_,by simp [Builtin.len_,ht,run_underlying hu,goInt],ZaR S _ _⟩
  ·simp at h
 ·rename_i e r' ver lo len hu
  split at h
  ·rename_i row hrow
   simp only [Option.some.injEq] at h;subst h
   have hver:row.ver=ver:=by simpa using hA (row.ver==ver) (by simp)
   obtain ⟨row',info,a1,a2,a3,hmp⟩:=ZdI hx
   rw [hrow] at a1
   simp only [Option.some.injEq] at a1;subst a1
   obtain ⟨a,cap,rfl,_⟩:=a3 hver
   exact ⟨rfl,rfl,rfl,_,by simp [Builtin.len_,ht,run_underlying hu,goInt],ZaR S _ _⟩
  ·simp at h
 ·rename_i n e hu
  simp only [Option.some.injEq] at h;subst h
  exact ⟨rfl,rfl,rfl,_,by simp [Builtin.len_,ht,run_underlying hu,goInt],ZaR S _ _⟩
 ·simp at h
theorem cap_sound {S:St} {T ty:TypeId} {x v:AV} {xv:Value} {ts:Array TypeId} (ht:ts[0]? = some T) (hx:Rel S x xv) (h:capA P T x=some v) :
  ∃ vv,(Builtin.cap_ ts ty #[xv]).run (P ()) S.w = .ok vv S.w/\Rel S v vv:=by
 unfold capA at h
 split at h
 ·rename_i e hu
  simp only [Option.some.injEq] at h;subst h
  rw [ZaM hx]
  exact ⟨_,by simp [Builtin.cap_,ht,run_underlying hu,goInt],ZaR S _ _⟩
 ·rename_i e es xs hu
  simp only [Option.some.injEq] at h;subst h
  refine ⟨_,?_,ZaR S _ _⟩
  have hd:=ZbS hx
  cases hd with
  | vecE _ _ a cap hf=>have:=hf rfl;subst this;simp [Builtin.cap_,ht,run_underlying hu,goInt]
  | vec _ _ _ b off cap ho hf=>have:=hf rfl;subst this;simp [Builtin.cap_,ht,run_underlying hu,goInt]
 ·simp at h
theorem ZgL {S:St} {f:Int->Int->Int} {g:Value->Value->Sem Value} (hg:∀ k x y w,∀ k',(g (.int k x) (.int k' y)).run (P ()) w = .ok (.int k (f x y)) w) :
  ∀ (l:List AV) (vl:List Value) {x v:AV} {xv:Value},Rel S x xv->RelL S l vl->foldA f x l=some v -> ∃ vv,(vl.foldlM g xv).run (P ()) S.w = .ok vv S.w/\Rel S v vv:=by
 intro l
 induction l with
 | nil =>
  intro vl x v xv hx hl h
  have:vl=[]:=List.eq_nil_of_length_eq_zero hl.1.symm
  subst this
  have:x=v:=by simpa [foldA] using h
  subst this
  exact ⟨xv,by simp,hx⟩
 | cons y l ih =>
  intro vl x v xv hx hl h
  cases vl with
  | nil=>have:=hl.1;simp at this
  | cons yv vl =>
   unfold foldA at h
   split at h
   ·rename_i e;cases e
   ·rename_i k a k' b r' e
    cases e
    have e1:=ZaH hx
    have e2:=ZaH hl.head
    subst e1;subst e2
    obtain ⟨vv,h1,h2⟩:=ih vl (ZaR S k (f a b)) hl.tail h
    exact ⟨vv,by simp [List.foldlM_cons,hg,h1],h2⟩
   ·simp at h
theorem min_sound {S:St} {ts:Array TypeId} {ty:TypeId} {x v:AV} {xv:Value} {l:List AV} {vl:List Value} (hx:Rel S x xv) (hl:RelL S l vl) (h:foldA (fun x y=>if y<x then y else x) x l=some v) :
  ∃ vv,(Builtin.min_ ts ty ⟨xv::vl⟩).run (P ()) S.w = .ok vv S.w/\Rel S v vv:=
 ZgL (P:=P) (g:=Builtin.min2) (fun k x y w k'=>by simp [Builtin.min2]) l vl hx hl h
theorem max_sound {S:St} {ts:Array TypeId} {ty:TypeId} {x v:AV} {xv:Value} {l:List AV} {vl:List Value} (hx:Rel S x xv) (hl:RelL S l vl) (h:foldA (fun x y=>if y>x then y else x) x l=some v) :
  ∃ vv,(Builtin.max_ ts ty ⟨xv::vl⟩).run (P ()) S.w = .ok vv S.w/\Rel S v vv:=
 ZgL (P:=P) (g:=Builtin.max2) (fun k x y w k'=>by simp [Builtin.max2]) l vl hx hl h
theorem extract_sound {S:St} {vs:List AV} {tv:Value} {i:Nat} {v:AV} (ht:Rel S (.tup vs) tv) (h:vs[i]? = some v):∃ vv,(Instr.extract tv i).run (P ()) S.w = .ok vv S.w/\Rel S v vv:=by
 obtain ⟨us,rfl,h1,h2⟩:=rel_tup ht
 have hlt:i<us.length:=by have:=Zah h;omega
 refine ⟨us[i],?_,h2 i v _ h (List.getElem?_eq_getElem hlt)⟩
 have:(⟨us⟩:Array Value)[i]? = some us[i]:=by simp [hlt]
 simp only [Instr.extract,this]
 rfl
end
end Go.Av

namespace Go.Av
open Go.RowKit
theorem Zba {α:Type} {a:Array α} {x:α} {k:Nat} (h:k<a.size):(a.push x)[k]? = a[k]?:=by
 rw [Array.getElem?_push,if_neg (by omega)]
theorem Zbg {α:Type} {a:Array α} {x:α}:(a.push x)[a.size]? = some x:=by simp
theorem Zaw {w w':World} {b o:Nat} (h:w'.heap[b]? = w.heap[b]?):w'.cell? ⟨b,o,none⟩=w.cell? ⟨b,o,none⟩:=
 World.cell?_of_block (a:=⟨b,o,none⟩) h
theorem Zbj {w:World} {b o:Nat} {cs:Array Value} {T:TypeId} {f:Nat × Nat} (h:w.heap[b]? = some (.cells cs T f)):w.cell? ⟨b,o,none⟩=cs[o]?:=by
 simp [World.cell?,h]
theorem new_row {S:St} (hS:HeapOk S) {elems:List AV} {es cap:Nat} {cl:Bool} {cs:Array Value} {T:TypeId} {w':World}
  (hw:w'.heap=S.w.heap.push (.cells cs T (0,0))) (hb:Below S.base S.w w') (ho:Za5 es elems) (hle:elems.length<=cap) (hsz:cap*es<=cs.size)
  (hr:∀ (i:Nat) x (k:Nat) c cv,elems[i]? = some x->x.cells[k]? = some c->cs[i*es+k]? = some cv->Rel S c cv)
  (hd:cl=true -> ∀ (i:Nat) x (k:Nat) c cv,elems[i]? = some x->x.cells[k]? = some c->cs[i*es+k]? = some cv->DRel S c cv) :
  HeapOk ⟨S.base,S.acc,S.L++[⟨elems,es,0,false,cl⟩],S.β++[⟨S.w.heap.size,0,es,cap,false⟩],w'⟩ /\
  Ext S ⟨S.base,S.acc,S.L++[⟨elems,es,0,false,cl⟩],S.β++[⟨S.w.heap.size,0,es,cap,false⟩],w'⟩:=by
 have hold:∀ b,b<S.w.heap.size->w'.heap[b]? = S.w.heap[b]?:=fun b h=>by rw [hw,Zba h]
 have hnew:w'.heap[S.w.heap.size]? = some (.cells cs T (0,0)):=by rw [hw,Zbg]
 have hβ:∀ (r:Nat) info,(S.β++[⟨S.w.heap.size,0,es,cap,false⟩])[r]? = some info->(S.β[r]? = some info/\r<S.β.length)\/(r=S.β.length/\info=⟨S.w.heap.size,0,es,cap,false⟩):=by
  intro r info h
  by_cases hlt:r<S.β.length
  ·rw [List.getElem?_append_left hlt] at h;exact .inl ⟨h,hlt⟩
  ·rw [List.getElem?_append_right (by omega)] at h
   have:r-S.β.length=0:=by
    have:=Zah h;simp at this;omega
   rw [this] at h
   simp at h
   exact .inr ⟨by omega,h.symm⟩
 have hL:∀ (r:Nat) row,(S.L++[(⟨elems,es,0,false,cl⟩:Row)])[r]? = some row->(S.L[r]? = some row/\r<S.L.length)\/(r=S.L.length/\row=⟨elems,es,0,false,cl⟩):=by
  intro r row h
  by_cases hlt:r<S.L.length
  ·rw [List.getElem?_append_left hlt] at h;exact .inl ⟨h,hlt⟩
  ·rw [List.getElem?_append_right (by omega)] at h
   have:r-S.L.length=0:=by
    have:=Zah h;simp at this;omega
   rw [this] at h
   simp at h
   exact .inr ⟨by omega,h.symm⟩
 have hex:Ext S ⟨S.base,S.acc,S.L++[⟨elems,es,0,false,cl⟩],S.β++[⟨S.w.heap.size,0,es,cap,false⟩],w'⟩:=by
  refine ⟨rfl,rfl,fun b off hi hlt=>⟨?_,Zaw (hold b hlt)⟩,fun r row info h1 h2=>⟨row,info,?_,?_,Nat.le_refl _,fun _=>⟨rfl,fun _=>rfl⟩,rfl,fun _=>rfl⟩,hb,fun r info h => ?_,fun b _ hlt _=>hold b hlt⟩
  ·obtain ⟨h1,h2⟩:=hi
   refine ⟨h1,fun r info hr' he => ?_⟩
   rcases hβ r info hr' with ⟨h3,h4⟩ | ⟨_,rfl⟩
   ·obtain ⟨row,a1,a2⟩:=h2 r info h3 he
    exact ⟨row,by show (S.L++_)[r]? = _;rw [List.getElem?_append_left (Zah a1)];exact a1,a2⟩
   ·simp at he;omega
  ·show (S.L++_)[r]? = _;rw [List.getElem?_append_left (Zah h1)];exact h1
  ·show (S.β++_)[r]? = _;rw [List.getElem?_append_left (Zah h2)];exact h2
  ·rcases hβ r info h with ⟨h3,_⟩ | ⟨_,rfl⟩
   ·exact .inl ⟨r,info,h3,rfl⟩
   ·exact .inr (Nat.le_refl _)
 refine ⟨⟨Nat.le_trans hS.base hb.size,by simp [hS.len],?_,?_,?_,?_,?_,?_,?_,?_,fun b off h=>hS.anew b off (Nat.le_trans hb.size h)⟩,hex⟩
 ·intro r info h
  rcases hβ r info h with ⟨h3,_⟩ | ⟨_,rfl⟩
  ·obtain ⟨a,b⟩:=hS.blk r info h3
   exact ⟨a,Nat.lt_of_lt_of_le b hb.size⟩
  ·exact ⟨hS.base,by show S.w.heap.size<w'.heap.size;rw [hw];simp⟩
 ·intro r r' info info' h h' he
  rcases hβ r info h with ⟨h3,h4⟩ | ⟨e1,rfl⟩
  ·rcases hβ r' info' h' with ⟨h3',_⟩ | ⟨_,rfl⟩
   ·exact hS.inj r r' info info' h3 h3' he
   ·have:=(hS.blk r info h3).2;simp at he;omega
  ·rcases hβ r' info' h' with ⟨h3',_⟩ | ⟨e2,rfl⟩
   ·have:=(hS.blk r' info' h3').2;simp at he;omega
   ·omega
 ·intro r row info h h' hmp
  rcases hβ r info h' with ⟨h3,h4⟩ | ⟨e1,rfl⟩
  ·rcases hL r row h with ⟨g3,_⟩ | ⟨e2,_⟩
   ·exact (hS.maps r row info g3 h3 hmp).mono hex (hold _ (hS.blk r info h3).2)
   ·have:=hS.len;omega
  ·cases hmp
 ·intro r row info h h' hmp
  rcases hβ r info h' with ⟨h3,h4⟩ | ⟨e1,rfl⟩
  ·rcases hL r row h with ⟨g3,_⟩ | ⟨e2,_⟩
   ·obtain ⟨a1,a2,cs',T',a3,a4⟩:=hS.cells r row info g3 h3 hmp
    exact ⟨a1,a2,cs',T',(hold _ (hS.blk r info h3).2).trans a3,a4⟩
   ·have:=hS.len;omega
  ·rcases hL r row h with ⟨_,g4⟩ | ⟨_,rfl⟩
   ·have:=hS.len;omega
   ·exact ⟨rfl,hle,cs,T,hnew,by simpa using hsz⟩
 ·intro r row h
  rcases hL r row h with ⟨g3,_⟩ | ⟨_,rfl⟩
  ·exact hS.elems r row g3
  ·exact ho
 ·intro r row info i x k c cv h h' hx hk hcv
  rcases hβ r info h' with ⟨h3,h4⟩ | ⟨e1,rfl⟩
  ·rcases hL r row h with ⟨g3,_⟩ | ⟨e2,_⟩
   ·refine (hS.rel r row info i x k c cv g3 h3 hx hk ?_).mono hex
    rw [<- Zaw (hold _ (hS.blk r info h3).2)];exact hcv
   ·have:=hS.len;omega
  ·rcases hL r row h with ⟨_,g4⟩ | ⟨_,rfl⟩
   ·have:=hS.len;omega
   ·refine (hr i x k c cv hx hk ?_).mono hex
    rw [Zbj hnew] at hcv
    simpa using hcv
 ·intro r row info i x k c cv h h' hcl hx hk hcv
  rcases hβ r info h' with ⟨h3,h4⟩ | ⟨e1,rfl⟩
  ·rcases hL r row h with ⟨g3,_⟩ | ⟨e2,_⟩
   ·refine (hS.clean r row info i x k c cv g3 h3 hcl hx hk ?_).mono hex
    rw [<- Zaw (hold _ (hS.blk r info h3).2)];exact hcv
   ·have:=hS.len;omega
  ·rcases hL r row h with ⟨_,g4⟩ | ⟨_,rfl⟩
   ·have:=hS.len;omega
   ·refine (hd hcl i x k c cv hx hk ?_).mono hex
    rw [Zbj hnew] at hcv
    simpa using hcv
 ·intro r info off h
  rcases hβ r info h with ⟨h3,_⟩ | ⟨_,rfl⟩
  ·exact hS.acq r info off h3
  ·exact hS.anew _ off (Nat.le_refl _)
theorem set_row {S:St} (hS:HeapOk S) {r:Nat} {row row':Row} {info info':BI} {cs:Array Value} {T:TypeId} {w':World} (hr:S.L[r]? = some row) (hi:S.β[r]? = some info) (hmp:info.mp=false) (hmp':info'.mp=false)
  (hver:row.ver<=row'.ver) (hsame:row'.ver=row.ver->info'=info/\row'.elems.length=row.elems.length) (hes:info'.es=row'.es)
  (hblk:info'.blk=info.blk\/info'.blk=S.w.heap.size) (hheap:∀ b,b<S.w.heap.size->b ≠ info.blk->w'.heap[b]? = S.w.heap[b]?)
  (hnew:w'.heap[info'.blk]? = some (.cells cs T (0,0))) (hfit:info'.off+info'.cap*info'.es<=cs.size) (hle:row'.elems.length<=info'.cap)
  (hfz:row.frozen=true->row'.frozen=true/\(info'.blk=info.blk->info'.off=info.off/\info'.es=info.es/\row.elems.length<=row'.elems.length) /\
   ∀ off,info.off<=off->off<info.off+row.elems.length*info.es->w'.cell? ⟨info.blk,off,none⟩=S.w.cell? ⟨info.blk,off,none⟩)
  (ho:Za5 row'.es row'.elems) (hb:Below S.base S.w w')
  (hrel:∀ (i:Nat) x (k:Nat) c cv,row'.elems[i]? = some x->x.cells[k]? = some c->cs[info'.off+i*info'.es+k]? = some cv->Rel S c cv)
  (hcl:row'.clean=true -> ∀ (i:Nat) x (k:Nat) c cv,row'.elems[i]? = some x->x.cells[k]? = some c->cs[info'.off+i*info'.es+k]? = some cv->DRel S c cv) :
  HeapOk ⟨S.base,S.acc,S.L.set r row',S.β.set r info',w'⟩/\Ext S ⟨S.base,S.acc,S.L.set r row',S.β.set r info',w'⟩:=by
 have hrl:=Zah hr
 have hil:=Zah hi
 obtain ⟨hb1,hb2⟩:=hS.blk r info hi
 have hL:∀ (q:Nat) x,(S.L.set r row')[q]? = some x->(q ≠ r/\S.L[q]? = some x)\/(q=r/\x=row'):=by
  intro q x h
  rw [List.getElem?_set] at h
  by_cases e:r=q
  ·subst e;simp [hrl] at h;exact .inr ⟨rfl,h.symm⟩
  ·simp [e] at h;exact .inl ⟨fun e'=>e e'.symm,h⟩
 have hβ:∀ (q:Nat) x,(S.β.set r info')[q]? = some x->(q ≠ r/\S.β[q]? = some x)\/(q=r/\x=info'):=by
  intro q x h
  rw [List.getElem?_set] at h
  by_cases e:r=q
  ·subst e;simp [hil] at h;exact .inr ⟨rfl,h.symm⟩
  ·simp [e] at h;exact .inl ⟨fun e'=>e e'.symm,h⟩
 have hLr:(S.L.set r row')[r]? = some row':=by simp [hrl]
 have hβr:(S.β.set r info')[r]? = some info':=by simp [hil]
 have hLo:∀ (q:Nat),q ≠ r->(S.L.set r row')[q]? = S.L[q]?:=fun q e=>by rw [List.getElem?_set,if_neg (fun e'=>e e'.symm)]
 have hβo:∀ (q:Nat),q ≠ r->(S.β.set r info')[q]? = S.β[q]?:=fun q e=>by rw [List.getElem?_set,if_neg (fun e'=>e e'.symm)]
 have other:∀ (q:Nat) x,q ≠ r->S.β[q]? = some x->w'.heap[x.blk]? = S.w.heap[x.blk]?:=fun q x e h =>
  hheap x.blk (hS.blk q x h).2 (fun e'=>e (hS.inj q r x info h hi e'))
 have hex:Ext S ⟨S.base,S.acc,S.L.set r row',S.β.set r info',w'⟩:=by
  refine ⟨rfl,rfl,fun b off him hlt => ?_,fun q x y h1 h2 => ?_,hb,fun q x h => ?_,fun b _ hlt hno=>hheap b hlt fun e=>hno r info hi e.symm⟩
  ·have hcell:w'.cell? ⟨b,off,none⟩=S.w.cell? ⟨b,off,none⟩:=by
    by_cases e:b=info.blk
    ·subst e
     obtain ⟨row0,a1,a2,a3,a4⟩:=him.2 r info hi rfl
     rw [hr] at a1
     simp only [Option.some.injEq] at a1;subst a1
     exact (hfz a2).2.2 off a3 a4
    ·exact Zaw (hheap b hlt e)
   refine ⟨?_,hcell⟩
   obtain ⟨h1,h2⟩:=him
   refine ⟨h1,fun q x hq he => ?_⟩
   rcases hβ q x hq with ⟨e,h⟩ | ⟨rfl,rfl⟩
   ·obtain ⟨row0,a1,a2⟩:=h2 q x h he
    exact ⟨row0,(hLo q e).trans a1,a2⟩
   ·rcases hblk with e | e
    ·obtain ⟨row0,a1,a2,a3,a4⟩:=h2 q info hi (by omega)
     rw [hr] at a1
     simp only [Option.some.injEq] at a1;subst a1
     obtain ⟨f1,f2,_⟩:=hfz a2
     obtain ⟨g1,g2,g3⟩:=f2 e
     refine ⟨row',hLr,f1,by omega,?_⟩
     rw [g1,g2]
     exact Nat.lt_of_lt_of_le a4 (Nat.add_le_add_left (Nat.mul_le_mul_right _ g3) _)
    ·omega
  ·by_cases e:q=r
   ·subst e
    rw [hr] at h1;rw [hi] at h2
    simp only [Option.some.injEq] at h1 h2;subst h1;subst h2
    exact ⟨row',info',hLr,hβr,hver,fun e=>⟨(hsame e).1,fun _=>(hsame e).2⟩,by rw [hmp,hmp'],fun e=>by rw [hmp] at e;cases e⟩
   ·exact ⟨x,y,(hLo q e).trans h1,(hβo q e).trans h2,Nat.le_refl _,fun _=>⟨rfl,fun _=>rfl⟩,rfl,fun _=>rfl⟩
  ·rcases hβ q x h with ⟨_,h3⟩ | ⟨_,h3⟩
   ·exact .inl ⟨q,x,h3,rfl⟩
   ·subst h3
    rcases hblk with e | e
    ·exact .inl ⟨r,info,hi,e.symm⟩
    ·exact .inr (Nat.le_of_eq e.symm)
 refine ⟨⟨Nat.le_trans hS.base hb.size,by simp [hS.len],?_,?_,?_,?_,?_,?_,?_,?_,fun b off h=>hS.anew b off (Nat.le_trans hb.size h)⟩,hex⟩
 ·intro q x h
  rcases hβ q x h with ⟨e,h⟩ | ⟨rfl,rfl⟩
  ·obtain ⟨a,b⟩:=hS.blk q x h
   exact ⟨a,Nat.lt_of_lt_of_le b hb.size⟩
  ·refine ⟨?_,?_⟩
   ·show S.base<=x.blk
    have:=hS.base;rcases hblk with e | e <;> omega
   ·exact (Array.getElem?_eq_some_iff.1 hnew).1
 ·intro q q' x x' h h' he
  rcases hβ q x h with ⟨e,g⟩ | ⟨e,e1⟩
  ·rcases hβ q' x' h' with ⟨e',g'⟩ | ⟨e',e1'⟩
   ·exact hS.inj q q' x x' g g' he
   ·rw [e1'] at he
    rw [e']
    rcases hblk with e2 | e2
    ·exact hS.inj q r x info g hi (by omega)
    ·have:=(hS.blk q x g).2;omega
  ·rcases hβ q' x' h' with ⟨e',g'⟩ | ⟨e',_⟩
   ·rw [e1] at he
    rw [e]
    rcases hblk with e2 | e2
    ·exact hS.inj r q' info x' hi g' (by omega)
    ·have:=(hS.blk q' x' g').2;omega
   ·rw [e,e']
 ·intro q x y h h' hm
  rcases hL q x h with ⟨e,h⟩ | ⟨rfl,rfl⟩
  ·rcases hβ q y h' with ⟨_,h'⟩ | ⟨e',_⟩
   ·exact (hS.maps q x y h h' hm).mono hex (other q y e h')
   ·exact absurd e' e
  ·rw [hβr] at h'
   simp only [Option.some.injEq] at h';subst h'
   rw [hmp'] at hm;cases hm
 ·intro q x y h h' hm
  rcases hL q x h with ⟨e,h⟩ | ⟨rfl,rfl⟩
  ·rcases hβ q y h' with ⟨_,h'⟩ | ⟨e',_⟩
   ·obtain ⟨a1,a2,cs',T',a3,a4⟩:=hS.cells q x y h h' hm
    exact ⟨a1,a2,cs',T',(other q y e h').trans a3,a4⟩
   ·exact absurd e' e
  ·rw [hβr] at h'
   simp only [Option.some.injEq] at h';subst h'
   exact ⟨hes,hle,cs,T,hnew,hfit⟩
 ·intro q x h
  rcases hL q x h with ⟨e,h⟩ | ⟨rfl,rfl⟩
  ·exact hS.elems q x h
  ·exact ho
 ·intro q x y i z k c cv h h' hz hk hcv
  rcases hL q x h with ⟨e,h⟩ | ⟨rfl,rfl⟩
  ·rcases hβ q y h' with ⟨_,h'⟩ | ⟨e',_⟩
   ·exact (hS.rel q x y i z k c cv h h' hz hk ((Zaw (other q y e h')).symm.trans hcv)).mono hex
   ·exact absurd e' e
  ·rw [hβr] at h'
   simp only [Option.some.injEq] at h';subst h'
   exact (hrel i z k c cv hz hk (by rw [<- Zbj hnew];exact hcv)).mono hex
 ·intro q x y i z k c cv h h' hc hz hk hcv
  rcases hL q x h with ⟨e,h⟩ | ⟨rfl,rfl⟩
  ·rcases hβ q y h' with ⟨_,h'⟩ | ⟨e',_⟩
   ·exact (hS.clean q x y i z k c cv h h' hc hz hk ((Zaw (other q y e h')).symm.trans hcv)).mono hex
   ·exact absurd e' e
  ·rw [hβr] at h'
   simp only [Option.some.injEq] at h';subst h'
   exact (hcl hc i z k c cv hz hk (by rw [<- Zbj hnew];exact hcv)).mono hex
 ·intro q x off h
  rcases hβ q x h with ⟨_,h3⟩ | ⟨_,h3⟩
  ·exact hS.acq q x off h3
  ·subst h3
   rcases hblk with e | e
   ·show S.acc x.blk off
    rw [e];exact hS.acq r info off hi
   ·exact hS.anew _ off (Nat.le_of_eq e.symm)
end Go.Av

namespace Go.Av
open Go.RowKit
theorem DRel.shift {S S':St} (hw:S'.w=S.w) (hi:∀ b off,Imm S b off->b<S.w.heap.size->Imm S' b off) {a:AV} {v:Value} (h:DRel S a v):DRel S' a v:=by
 induction h with
 | bool b=>exact .bool b
 | int k n=>exact .int k n
 | str s=>exact .str s
 | flt s=>exact .flt s
 | nilp=>exact .nilp
 | nilf=>exact .nilf
 | nilm=>exact .nilm
 | agg cs vs hl _ ih=>exact .agg cs vs hl ih
 | tup cs vs hl _ ih=>exact .tup cs vs hl ih
 | func fn a b va vb ha hb _ _ ih1 ih2=>exact .func fn a b va vb ha hb ih1 ih2
 | eptr es xs i j b off ho hc _ ih =>
  refine .eptr es xs i j b off ho (fun i x k c hx hk => ?_) (fun i x k c cv hx hk hcv=>ih i x k c cv hx hk (by rw [<- hw];exact hcv))
  obtain ⟨⟨cv,h1⟩,h2⟩:=hc i x k c hx hk
  exact ⟨⟨cv,by rw [hw];exact h1⟩,hi _ _ h2 (ZeE h1)⟩
 | vnil=>exact .vnil
 | vecE f es a cap hf=>exact .vecE f es a cap hf
 | vec f es xs b off cap ho hf hl hc _ ih =>
  refine .vec f es xs b off cap ho hf hl (fun i x k c hx hk => ?_) (fun i x k c cv hx hk hcv=>ih i x k c cv hx hk (by rw [<- hw];exact hcv))
  obtain ⟨⟨cv,h1⟩,h2⟩:=hc i x k c hx hk
  exact ⟨⟨cv,by rw [hw];exact h1⟩,hi _ _ h2 (ZeE h1)⟩
theorem Zbb {l:List AV} (h:cleanL l=true):∀ (i:Nat) c,l[i]? = some c->c.clean=true:=by
 induction l with
 | nil=>intro i c hc;simp at hc
 | cons x l ih =>
  simp only [cleanL,Bool.and_eq_true] at h
  intro i c hc
  cases i with
  | zero=>simp at hc;subst hc;exact h.1
  | succ i=>exact ih h.2 i c (by simpa using hc)
theorem ZdR {a:AV} (h:a.clean=true):∀ (i:Nat) c,a.cells[i]? = some c->c.clean=true:=by
 have one:a.cells=[a] -> ∀ (i:Nat) c,a.cells[i]? = some c->c.clean=true:=by
  intro e i c hc
  rw [e] at hc
  cases i with
  | zero=>simp at hc;subst hc;exact h
  | succ i=>simp at hc
 cases a with
 | agg cs=>exact Zbb (by simpa [AV.clean,AV.cells] using h)
 | _=>exact one rfl
theorem ZaJ {S:St} {a:AV} {v:Value} (h:Rel S a v):a.clean=true->DRel S a v:=by
 induction h with
 | any v=>intro h;simp [AV.clean] at h
 | data a v h=>exact fun _=>h
 | agg cs vs hl _ ih=>intro h;exact .agg cs vs hl fun i c v hc hv=>ih i c v hc hv (Zbb (by simpa [AV.clean] using h) i c hc)
 | tup cs vs hl _ ih=>intro h;exact .tup cs vs hl fun i c v hc hv=>ih i c v hc hv (Zbb (by simpa [AV.clean] using h) i c hc)
 | func fn a b va vb ha hb _ _ ih1 ih2 =>
  intro h
  have h':cleanL a=true/\cleanL b=true:=by simpa [AV.clean] using h
  exact .func fn a b va vb ha hb (fun i c v hc hv=>ih1 i c v hc hv (Zbb h'.1 i c hc)) (fun i c v hc hv=>ih2 i c v hc hv (Zbb h'.2 i c hc))
 | mapr r row info v h0 h1 h2 h3=>intro h;simp [AV.clean] at h
 | ptr r ver i j row info v h0 h1 h2 h3 h4=>intro h;simp [AV.clean] at h
 | row r ver row info v h0 h1 h2 h3 h4=>intro h;simp [AV.clean] at h
 | ref r ver lo len row info v h0 h1 h2 h3 h4=>intro h;simp [AV.clean] at h
def ZeJ (S S':St) (rs:List Nat):Prop:=∀ (r:Nat),r ∈ rs -> ∀ (row:Row) (info:BI),S.L[r]? = some row->S.β[r]? = some info ->
 ∀ off,info.off<=off->off<info.off+row.elems.length*info.es->Imm S' info.blk off
theorem ZeJ.sub {S S':St} {rs qs:List Nat} (h:ZeJ S S' rs) (hq:∀ r,r ∈ qs->r ∈ rs):ZeJ S S' qs:=fun r hr=>h r (hq r hr)
theorem row_data {S S':St} (hS:HeapOk S) (hw:S'.w=S.w) (hi:∀ b off,Imm S b off->b<S.w.heap.size->Imm S' b off) {r:Nat} {row:Row} {info:BI} (hr:S.L[r]? = some row) (hb:S.β[r]? = some info) (hmp:info.mp=false)
  (hcl:row.clean=true) (hh:ZeJ S S' [r]) (lo len cap:Nat) (hle:lo+len<=row.elems.length) (hc:len<=cap) :
  DRel S' (.vec false row.es ((row.elems.drop lo).take len)) (.slice (some ⟨info.blk,info.off+lo*info.es,none⟩) len cap):=by
 have hes:=(hS.cells r row info hr hb hmp).1
 have hlen:((row.elems.drop lo).take len).length=len:=by simp;omega
 have hget:∀ (i:Nat) x,((row.elems.drop lo).take len)[i]? = some x->row.elems[lo+i]? = some x/\i<len:=by
  intro i x hx
  rw [List.getElem?_take] at hx
  split at hx
  ·rw [List.getElem?_drop] at hx;exact ⟨hx,by assumption⟩
  ·simp at hx
 have:=DRel.vec (S:=S') false row.es ((row.elems.drop lo).take len) info.blk (info.off+lo*info.es) cap
  (fun i x hx=>hS.elems r row hr _ x (hget i x hx).1) (by simp) (by rw [hlen];exact hc)
  (fun i x k c hx hk=>by
   obtain ⟨h1,h2⟩:=hget i x hx
   have hk2:k<info.es:=by rw [hes,<- (hS.elems r row hr _ x h1).1];exact Zah hk
   obtain ⟨cv,h3⟩:=Zd9 hS hr hb hmp h1 hk2
   have e:info.off+lo*info.es+i*row.es+k=info.off+(lo+i)*info.es+k:=by rw [hes,Nat.add_mul];omega
   rw [e]
   refine ⟨⟨cv,by rw [hw];exact h3⟩,hh r (by simp) row info hr hb _ (by omega) ?_⟩
   have:=ZbY (Zah h1) (Nat.le_refl row.elems.length) hk2
   omega)
  (fun i x k c cv hx hk hcv=>by
   obtain ⟨h1,h2⟩:=hget i x hx
   have e:info.off+lo*info.es+i*row.es+k=info.off+(lo+i)*info.es+k:=by rw [hes,Nat.add_mul];omega
   rw [e,hw] at hcv
   exact (hS.clean r row info _ x k c cv hr hb hcl h1 hk hcv).shift hw hi)
 rw [hlen] at this
 exact this
mutual
theorem pure_rel {S S':St} (hS:HeapOk S) (hw:S'.w=S.w) (hi:∀ b off,Imm S b off->b<S.w.heap.size->Imm S' b off):∀ (a:AV) {d:AV} {v:Value},Rel S a v->pureA S.L a=some d ->
  (∀ b ∈ versA S.L a,b=true)->ZeJ S S' (rowsA a)->DRel S' d v
 | .any,_,_,_,h,_,_=>by simp [pureA] at h
 | .bool b,_,_,hr,h,_,_=>by simp only [pureA,Option.some.injEq] at h;subst h;exact (ZaJ hr rfl).shift hw hi
 | .int k n,_,_,hr,h,_,_=>by simp only [pureA,Option.some.injEq] at h;subst h;exact (ZaJ hr rfl).shift hw hi
 | .str s,_,_,hr,h,_,_=>by simp only [pureA,Option.some.injEq] at h;subst h;exact (ZaJ hr rfl).shift hw hi
 | .flt s,_,_,hr,h,_,_=>by simp only [pureA,Option.some.injEq] at h;subst h;exact (ZaJ hr rfl).shift hw hi
 | .nilp,_,_,hr,h,_,_=>by simp only [pureA,Option.some.injEq] at h;subst h;exact (ZaJ hr rfl).shift hw hi
 | .nilf,_,_,hr,h,_,_=>by simp only [pureA,Option.some.injEq] at h;subst h;exact (ZaJ hr rfl).shift hw hi
 | .nilm,_,_,hr,h,_,_=>by simp only [pureA,Option.some.injEq] at h;subst h;exact (ZaJ hr rfl).shift hw hi
 | .mapr _,_,_,_,h,_,_=>by simp [pureA] at h
 | .vnil,_,_,hr,h,_,_=>by simp only [pureA,Option.some.injEq] at h;subst h;exact (ZaJ hr rfl).shift hw hi
 | .vec f es xs,_,_,hr,h,_,_=>by simp only [pureA,Option.some.injEq] at h;subst h;exact (ZaJ hr rfl).shift hw hi
 | .eptr es xs i j,_,_,hr,h,_,_=>by simp only [pureA,Option.some.injEq] at h;subst h;exact (ZaJ hr rfl).shift hw hi
 | .agg cs,_,_,hr,h,hv,hh=>by
  simp only [pureA] at h
  split at h
  ·rename_i ds hd
   simp only [Option.some.injEq] at h;subst h
   obtain ⟨vs,rfl,l1,r1⟩:=ZbT hr
   obtain ⟨l2,r2⟩:=pure_relL hS hw hi cs ⟨l1,r1⟩ hd (by simpa [versA] using hv) (by simpa [rowsA] using hh)
   exact .agg ds vs l2 r2
  ·simp at h
 | .tup cs,_,_,hr,h,hv,hh=>by
  simp only [pureA] at h
  split at h
  ·rename_i ds hd
   simp only [Option.some.injEq] at h;subst h
   obtain ⟨vs,rfl,l1,r1⟩:=rel_tup hr
   obtain ⟨l2,r2⟩:=pure_relL hS hw hi cs ⟨l1,r1⟩ hd (by simpa [versA] using hv) (by simpa [rowsA] using hh)
   exact .tup ds vs l2 r2
  ·simp at h
 | .func fn a b,_,_,hr,h,hv,hh=>by
  simp only [pureA] at h
  split at h
  ·rename_i a' b' ha hb
   simp only [Option.some.injEq] at h;subst h
   obtain ⟨va,vb,rfl,l1,l2,r1,r2⟩:=Zck hr
   obtain ⟨x1,x2⟩:=pure_relL hS hw hi a ⟨l1,r1⟩ ha (fun b hb=>hv b (by simp [versA,hb])) (hh.sub fun r hr=>by simp [rowsA,hr])
   obtain ⟨y1,y2⟩:=pure_relL hS hw hi b ⟨l2,r2⟩ hb (fun b hb=>hv b (by simp [versA,hb])) (hh.sub fun r hr=>by simp [rowsA,hr])
   exact .func fn a' b' va vb x1 y1 x2 y2
  ·simp at h
 | .ptr r ver i j,_,_,hr,h,hv,hh=>by
  simp only [pureA] at h
  split at h
  ·rename_i row hrow
   split at h
   ·rename_i x hx
    split at h
    ·rename_i hcl
     simp only [Option.some.injEq] at h;subst h
     obtain ⟨row',info,a1,a2,a3,hmp⟩:=rel_ptr hr
     rw [hrow] at a1
     simp only [Option.some.injEq] at a1;subst a1
     have hver:row.ver=ver:=by
      have:=hv (Zb1 S.L r ver) (by simp [versA])
      simpa [Zb1,hrow] using this
     rw [a3 hver]
     have hes:=(hS.cells r row info hrow a2 hmp).1
     have hget:∀ (q:Nat) y,[x][q]? = some y->q=0/\y=x/\row.elems[q]? = some x:=by
      intro q y hy
      cases q with
      | zero=>simp at hy;subst hy;exact ⟨rfl,rfl,by rw [hx];rfl⟩
      | succ q=>simp at hy
     rw [hes]
     refine .eptr row.es [x] i j info.blk info.off (fun q y hy => ?_) (fun q y k c hy hk => ?_) (fun q y k c cv hy hk hcv => ?_)
     ·obtain ⟨_,rfl,h3⟩:=hget q y hy
      exact hS.elems r row hrow q y h3
     ·obtain ⟨rfl,rfl,h3⟩:=hget q y hy
      have hk2:k<info.es:=by rw [hes,<- (hS.elems r row hrow _ y h3).1];exact Zah hk
      obtain ⟨cv,h4⟩:=Zd9 hS hrow a2 hmp h3 hk2
      rw [hes] at h4
      refine ⟨⟨cv,by rw [hw];exact h4⟩,hh r (by simp [rowsA]) row info hrow a2 _ (by omega) ?_⟩
      have:=ZbY (Zah h3) (Nat.le_refl row.elems.length) hk2
      rw [hes] at this ⊢
      omega
     ·obtain ⟨rfl,rfl,h3⟩:=hget q y hy
      rw [hw,<- hes] at hcv
      exact (ZaJ (hS.rel r row info 0 y k c cv hrow a2 h3 hk hcv) (ZdR hcl k c hk)).shift hw hi
    ·simp at h
   ·simp at h
  ·simp at h
 | .row r ver,_,_,hr,h,hv,hh=>by
  simp only [pureA] at h
  split at h
  ·rename_i row hrow
   split at h
   ·rename_i hcl
    simp only [Option.some.injEq] at h;subst h
    obtain ⟨row',info,a1,a2,a3,hmp⟩:=Zc3 hr
    rw [hrow] at a1
    simp only [Option.some.injEq] at a1;subst a1
    have hver:row.ver=ver:=by
     have:=hv (Zb1 S.L r ver) (by simp [versA])
     simpa [Zb1,hrow] using this
    rw [a3 hver]
    have:=row_data hS hw hi hrow a2 hmp hcl (hh.sub (by simp [rowsA])) 0 row.elems.length info.cap (by omega) (hS.cells r row info hrow a2 hmp).2.1
    simpa using this
   ·simp at h
  ·simp at h
 | .ref r ver lo len,_,_,hr,h,hv,hh=>by
  simp only [pureA] at h
  split at h
  ·rename_i row hrow
   split at h
   ·rename_i hcl
    simp only [Option.some.injEq] at h;subst h
    obtain ⟨row',info,a1,a2,a3,hmp⟩:=ZdI hr
    rw [hrow] at a1
    simp only [Option.some.injEq] at a1;subst a1
    have hver:row.ver=ver:=by
     have:=hv (Zb1 S.L r ver) (by simp [versA])
     simpa [Zb1,hrow] using this
    obtain ⟨a,cap,rfl,b1,b2,b3⟩:=a3 hver
    rcases b3 with ⟨rfl,b4⟩ | b4
    ·exact row_data hS hw hi hrow a2 hmp hcl (hh.sub (by simp [rowsA])) lo len cap b2 b1
    ·have:len=0:=Nat.le_zero.1 (b4 ▸ b1)
     subst this
     simp only [List.take_zero]
     exact .vecE _ _ _ _ (by simp)
   ·simp at h
  ·simp at h
theorem pure_relL {S S':St} (hS:HeapOk S) (hw:S'.w=S.w) (hi:∀ b off,Imm S b off->b<S.w.heap.size->Imm S' b off):∀ (l:List AV) {ds:List AV} {vs:List Value},RelL S l vs->pureL S.L l=some ds ->
  (∀ b ∈ versL S.L l,b=true)->ZeJ S S' (rowsL l)->ds.length=vs.length /\ ∀ (i:Nat) c v,ds[i]? = some c->vs[i]? = some v->DRel S' c v
 | [],_,vs,hr,h,_,_=>by
  simp only [pureL,Option.some.injEq] at h;subst h
  exact ⟨by simpa using hr.1,by simp⟩
 | c::l,_,[],hr,h,_,_=>by have:=hr.1;simp at this
 | c::l,_,u::vs,hr,h,hv,hh=>by
  simp only [pureL] at h
  split at h
  ·rename_i d ds hd hds
   simp only [Option.some.injEq] at h;subst h
   have h1:=pure_rel hS hw hi c hr.head hd (fun b hb=>hv b (by simp [versL,hb])) (hh.sub fun r hr=>by simp [rowsL,hr])
   obtain ⟨l2,r2⟩:=pure_relL hS hw hi l hr.tail hds (fun b hb=>hv b (by simp [versL,hb])) (hh.sub fun r hr=>by simp [rowsL,hr])
   refine ⟨by simp [l2],fun i a b ha hb => ?_⟩
   cases i with
   | zero=>simp at ha hb;subst ha;subst hb;exact h1
   | succ i=>exact r2 i a b (by simpa using ha) (by simpa using hb)
  ·simp at h
end
theorem set_self {α:Type} {l:List α} {r:Nat} {x:α} (h:l[r]? = some x):l.set r x=l:=by
 apply List.ext_getElem?
 intro i
 rw [List.getElem?_set]
 by_cases e:r=i
 ·subst e;simp [Zah h];exact ((List.getElem?_eq_some_iff.1 h).2).symm
 ·simp [e]
theorem freeze_one {S:St} (hS:HeapOk S) {r:Nat} {row:Row} (hr:S.L[r]? = some row) :
  HeapOk ⟨S.base,S.acc,S.L.set r { row with frozen:=true },S.β,S.w⟩/\Ext S ⟨S.base,S.acc,S.L.set r { row with frozen:=true },S.β,S.w⟩:=by
 have hL:∀ (q:Nat) x,(S.L.set r { row with frozen:=true })[q]? = some x -> ∃ x0,S.L[q]? = some x0/\x.elems=x0.elems/\x.es=x0.es/\x.clean=x0.clean:=by
  intro q x h
  rw [List.getElem?_set] at h
  by_cases e:r=q
  ·subst e;simp [Zah hr] at h;subst h;exact ⟨row,hr,rfl,rfl,rfl⟩
  ·simp [e] at h;exact ⟨x,h,rfl,rfl,rfl⟩
 have hL':∀ (q:Nat) x0,S.L[q]? = some x0 -> ∃ x,(S.L.set r { row with frozen:=true })[q]? = some x/\x.elems=x0.elems/\x.ver=x0.ver/\(x0.frozen=true->x.frozen=true):=by
  intro q x0 h
  by_cases e:r=q
  ·subst e;rw [hr] at h;simp only [Option.some.injEq] at h;subst h
   exact ⟨{ row with frozen:=true },by simp [Zah hr],rfl,rfl,fun _=>rfl⟩
  ·exact ⟨x0,by rw [List.getElem?_set,if_neg e];exact h,rfl,rfl,id⟩
 have hex:Ext S ⟨S.base,S.acc,S.L.set r { row with frozen:=true },S.β,S.w⟩:=by
  refine ⟨rfl,rfl,fun b off hi _=>⟨⟨hi.1,fun q info hq he => ?_⟩,rfl⟩,fun q x y h1 h2 => ?_,Below.refl _ _,fun q x h => .inl ⟨q,x,h,rfl⟩,fun _ _ _ _=>rfl⟩
  ·obtain ⟨x0,a1,a2,a3,a4⟩:=hi.2 q info hq he
   obtain ⟨x,b1,b2,_,b4⟩:=hL' q x0 a1
   exact ⟨x,b1,b4 a2,a3,by rw [b2];exact a4⟩
  ·obtain ⟨x',b1,b2,b3,_⟩:=hL' q x h1
   exact ⟨x',y,b1,h2,Nat.le_of_eq b3.symm,fun _=>⟨rfl,fun _=>by rw [b2]⟩,rfl,fun _=>rfl⟩
 refine ⟨⟨hS.base,by simp [hS.len],hS.blk,hS.inj,fun q x y h h' hm => ?_,fun q x y h h' hm => ?_,fun q x h => ?_,fun q x y i z k c cv h h' hz hk hcv => ?_,fun q x y i z k c cv h h' hc hz hk hcv => ?_,hS.acq,hS.anew⟩,hex⟩
 ·obtain ⟨x0,a1,a2,a3,a4⟩:=hL q x h
  obtain ⟨es,c1,c2,c3,c4⟩:=(hS.maps q x0 y a1 h' hm).mono hex rfl
  exact ⟨es,c1,by rw [a2];exact c2,by rw [a3];exact c3,by rw [a2,a4];exact c4⟩
 ·obtain ⟨x0,a1,a2,a3,a4⟩:=hL q x h
  rw [a2,a3];exact hS.cells q x0 y a1 h' hm
 ·obtain ⟨x0,a1,a2,a3,a4⟩:=hL q x h
  rw [a2,a3];exact hS.elems q x0 a1
 ·obtain ⟨x0,a1,a2,a3,a4⟩:=hL q x h
  exact (hS.rel q x0 y i z k c cv a1 h' (by rw [<- a2];exact hz) hk hcv).mono hex
 ·obtain ⟨x0,a1,a2,a3,a4⟩:=hL q x h
  exact (hS.clean q x0 y i z k c cv a1 h' (by rw [<- a4];exact hc) (by rw [<- a2];exact hz) hk hcv).mono hex
theorem ZcB:∀ (rs:List Nat) (L:Heap) (r:Nat) (row:Row),L[r]? = some row -> ∃ f,(ZaT rs L)[r]? = some { row with frozen:=f } /\ (row.frozen=true->f=true)/\(r ∈ rs->f=true)
 | [],L,r,row,h=>⟨row.frozen,by simpa [ZaT] using h,id,by simp⟩
 | q::rs,L,r,row,h=>by
  simp only [ZaT,List.foldl_cons]
  have e0:∀ M:Heap,rs.foldl (fun L r=>match L[r]? with | some row=>L.set r { row with frozen:=true } | none=>L) M=ZaT rs M:=fun _=>rfl
  cases hq:L[q]? with
  | none =>
   obtain ⟨f,h1,h2,h3⟩:=ZcB rs L r row h
   refine ⟨f,h1,h2,fun hm => ?_⟩
   rcases List.mem_cons.1 hm with e | e
   ·subst e;rw [h] at hq;cases hq
   ·exact h3 e
  | some rw' =>
   by_cases e:q=r
   ·subst e
    rw [h] at hq;simp only [Option.some.injEq] at hq;subst hq
    have:(L.set q { row with frozen:=true })[q]? = some { row with frozen:=true }:=by simp [Zah h]
    obtain ⟨f,h1,h2,h3⟩:=ZcB rs _ q _ this
    exact ⟨f,h1,fun _=>h2 rfl,fun _=>h2 rfl⟩
   ·have:(L.set q { rw' with frozen:=true })[r]? = some row:=by rw [List.getElem?_set,if_neg e];exact h
    obtain ⟨f,h1,h2,h3⟩:=ZcB rs _ r row this
    refine ⟨f,h1,h2,fun hm => ?_⟩
    rcases List.mem_cons.1 hm with e' | e'
    ·exact absurd e'.symm e
    ·exact h3 e'
theorem Zcd:∀ (rs:List Nat) {S:St},HeapOk S->HeapOk ⟨S.base,S.acc,ZaT rs S.L,S.β,S.w⟩/\Ext S ⟨S.base,S.acc,ZaT rs S.L,S.β,S.w⟩
 | [],S,hS=>⟨hS,Ext.refl S⟩
 | q::rs,S,hS=>by
  simp only [ZaT,List.foldl_cons]
  have e0:∀ M:Heap,rs.foldl (fun L r=>match L[r]? with | some row=>L.set r { row with frozen:=true } | none=>L) M=ZaT rs M:=fun _=>rfl
  cases hq:S.L[q]? with
  | none=>exact Zcd rs hS
  | some row =>
   obtain ⟨h1,h2⟩:=freeze_one hS hq
   obtain ⟨h3,h4⟩:=Zcd rs h1
   exact ⟨h3,h2.trans h4⟩
theorem Zf2 {L L2:Heap} {rs:List Nat} (h:∀ q ∈ rs,L2[q]? = L[q]?):Za0 L2 rs=Za0 L rs:=by
 induction rs with
 | nil=>rfl
 | cons q rs ih =>
  simp only [Za0,List.all_cons] at ih ⊢
  rw [h q (List.mem_cons_self ..),ih fun q hq=>h q (List.mem_cons_of_mem _ hq)]
theorem ZfN:∀ (rs:List Nat) (L:Heap),Za0 L rs=true->ZaT rs L=L
 | [],L,_=>rfl
 | q::rs,L,h=>by
  simp only [Za0,List.all_cons,Bool.and_eq_true] at h
  simp only [ZaT,List.foldl_cons]
  have e0:∀ M:Heap,rs.foldl (fun L r=>match L[r]? with | some row=>L.set r { row with frozen:=true } | none=>L) M=ZaT rs M:=fun _=>rfl
  cases hq:L[q]? with
  | none=>rw [hq] at h;simp at h
  | some row =>
   rw [hq] at h
   have hf:row.frozen=true:=h.1
   have e1:({ row with frozen:=true }:Row)=row:=by cases row;simp at hf;subst hf;rfl
   have e2:L.set q row=L:=by
    apply List.ext_getElem?
    intro i
    rw [List.getElem?_set]
    split
    ·rename_i e;subst e
     split
     ·exact hq.symm
     ·rename_i hlt;exact absurd (List.getElem?_eq_some_iff.1 hq).1 hlt
    ·rfl
   simp only [e1,e2]
   exact ZfN rs L h.2
theorem Zco {S:St} (hS:HeapOk S) (rs:List Nat):ZeJ S ⟨S.base,S.acc,ZaT rs S.L,S.β,S.w⟩ rs:=by
 intro r hr row info h1 h2 off h3 h4
 refine ⟨hS.acq r info off h2,fun q info' hq he => ?_⟩
 have:=hS.inj q r info' info hq h2 he
 subst this
 rw [h2] at hq;simp only [Option.some.injEq] at hq;subst hq
 obtain ⟨f,g1,_,g3⟩:=ZcB rs S.L q row h1
 exact ⟨_,g1,g3 hr,h3,h4⟩
end Go.Av

namespace Go.Av
open Go.RowKit
theorem Zdk {B:Nat} {w:World} {g:Nat} {cs:Array Value} (h:B<=g):Below B w (w.setRow g cs):=
 ⟨rfl,rfl,rfl,by simp,fun k hk=>setRow_other w g k cs (by omega)⟩
theorem Zee {S:St} {c:AV} {v:Value} (h:Rel S c v) (hp:c.plain=true):v.oneCell'=true:=by
 cases h with
 | any v=>simp [AV.plain] at hp
 | data a v hd=>cases hd <;> first | rfl | simp [AV.plain] at hp
 | agg cs vs hl hr=>simp [AV.plain] at hp
 | tup cs vs hl hr=>simp [AV.plain] at hp
 | func fn a b va vb hx hy h1 h2=>rfl
 | mapr r row info v h0 h1 h2 h3=>subst h0;rfl
 | ptr r ver i j row info v h0 h1 h2 h3 h4=>obtain ⟨⟨a,rfl⟩,_⟩:=h0;rfl
 | row r ver row info v h0 h1 h2 h3 h4=>obtain ⟨⟨a,n,c,rfl⟩,_⟩:=h0;rfl
 | ref r ver lo len row info v h0 h1 h2 h3 h4=>obtain ⟨⟨a,n,c,rfl⟩,_⟩:=h0;rfl
structure Flat (S:St) (es:Nat) (xs:List AV) (us:List Value) (cl:Bool):Prop where
 len:us.length=xs.length*es
 ok:Za5 es xs
 rel:∀ (i:Nat) x (k:Nat) c cv,xs[i]? = some x->x.cells[k]? = some c->us[i*es+k]? = some cv->Rel S c cv/\(cl=true->DRel S c cv)
 one:∀ u ∈ us,u.oneCell'=true
theorem split_idx {n es p:Nat} (h:p<n*es):p / es<n/\p % es<es/\p / es*es+p % es=p:=by
 have hes:0<es:=by
  rcases Nat.eq_zero_or_pos es with e | e
  ·subst e;simp at h
  ·exact e
 refine ⟨Nat.div_lt_of_lt_mul (by rw [Nat.mul_comm];exact h),Nat.mod_lt _ hes,?_⟩
 have:=Nat.div_add_mod p es
 rw [Nat.mul_comm] at this
 exact this
theorem Flat.nil (S:St) (es:Nat) (cl:Bool):Flat S es [] [] cl:=⟨by simp,by intro i x h;simp at h,by simp,by simp⟩
theorem Flat.cell {S:St} {es:Nat} {xs:List AV} {us:List Value} {cl:Bool} (h:Flat S es xs us cl) {i:Nat} {x:AV} {k:Nat} {c:AV} (hx:xs[i]? = some x) (hk:x.cells[k]? = some c):i*es+k<us.length:=by
 rw [h.len]
 refine ZbY (Zah hx) (Nat.le_refl _) ?_
 rw [<- (h.ok i x hx).1];exact Zah hk
theorem Flat.append {S:St} {es:Nat} {xs ys:List AV} {us vs:List Value} {cl cl':Bool} (h:Flat S es xs us cl) (k:Flat S es ys vs cl'):Flat S es (xs++ys) (us++vs) (cl&&cl'):=by
 refine ⟨by simp [h.len,k.len,Nat.add_mul],fun i x hx => ?_,fun i x q c cv hx hq hcv => ?_,fun u hu => ?_⟩
 ·by_cases hi:i<xs.length
  ·rw [List.getElem?_append_left hi] at hx;exact h.ok i x hx
  ·rw [List.getElem?_append_right (by omega)] at hx;exact k.ok _ x hx
 ·by_cases hi:i<xs.length
  ·rw [List.getElem?_append_left hi] at hx
   rw [List.getElem?_append_left (h.cell hx hq)] at hcv
   obtain ⟨a,b⟩:=h.rel i x q c cv hx hq hcv
   exact ⟨a,fun e=>b (by simp at e;exact e.1)⟩
  ·rw [List.getElem?_append_right (by omega)] at hx
   have e:us.length<=i*es+q:=by
    rw [h.len];exact Nat.le_trans (Nat.mul_le_mul_right _ (by omega)) (Nat.le_add_right _ _)
   rw [List.getElem?_append_right e] at hcv
   have e2:i*es+q-us.length=(i-xs.length)*es+q:=by
    rw [h.len,Nat.sub_mul]
    have:xs.length*es<=i*es:=Nat.mul_le_mul_right _ (by omega)
    omega
   rw [e2] at hcv
   obtain ⟨a,b⟩:=k.rel _ x q c cv hx hq hcv
   exact ⟨a,fun e=>b (by simp at e;exact e.2)⟩
 ·rcases List.mem_append.1 hu with e | e
  ·exact h.one u e
  ·exact k.one u e
theorem Flat.mono {S S':St} (he:Ext S S') {es:Nat} {xs:List AV} {us:List Value} {cl:Bool} (h:Flat S es xs us cl):Flat S' es xs us cl:=
 ⟨h.len,h.ok,fun i x k c cv hx hk hcv=>let ⟨a,b⟩:=h.rel i x k c cv hx hk hcv;⟨a.mono he,fun e=>(b e).mono he⟩,h.one⟩
theorem Flat.weaken {S:St} {es:Nat} {xs:List AV} {us:List Value} {cl cl':Bool} (h:Flat S es xs us cl) (hc:cl'=true->cl=true):Flat S es xs us cl':=
 ⟨h.len,h.ok,fun i x k c cv hx hk hcv=>let ⟨a,b⟩:=h.rel i x k c cv hx hk hcv;⟨a,fun e=>b (hc e)⟩,h.one⟩
theorem ZfQ {S:St} {P:Program} {es:Nat} {xs:List AV} {b off:Nat} {cl:Bool} (ho:Za5 es xs)
  (hc:∀ (i:Nat) x (k:Nat) c,xs[i]? = some x->x.cells[k]? = some c -> ∃ cv,S.w.cell? ⟨b,off+i*es+k,none⟩=some cv/\Rel S c cv/\(cl=true->DRel S c cv)) :
  ∃ us,Flat S es xs us cl /\ ∀ w',w'.heap=S.w.heap->(loadCells ⟨b,off,none⟩ (xs.length*es)).run P w' = .ok ⟨us⟩ w':=by
 have hall:∀ p,p<xs.length*es -> ∃ x c cv,xs[p / es]? = some x/\x.cells[p % es]? = some c/\S.w.cell? ⟨b,off+p,none⟩=some cv/\Rel S c cv/\(cl=true->DRel S c cv)/\c.plain=true:=by
  intro p hp
  obtain ⟨h1,h2,h3⟩:=split_idx hp
  have hx:xs[p / es]? = some xs[p / es]:=List.getElem?_eq_getElem h1
  obtain ⟨l1,l2⟩:=ho _ _ hx
  have hk:(xs[p / es]).cells[p % es]? = some ((xs[p / es]).cells[p % es]'(by omega)):=List.getElem?_eq_getElem _
  obtain ⟨cv,a1,a2,a3⟩:=hc _ _ _ _ hx hk
  refine ⟨_,_,cv,hx,hk,?_,a2,a3,?_⟩
  ·rw [Nat.add_assoc,h3] at a1;exact a1
  ·exact List.all_eq_true.1 l2 _ (List.mem_of_getElem? hk)
 let f:Nat->Value:=fun p=>(S.w.cell? ⟨b,off+p,none⟩).getD undef
 have hf:∀ p,p<xs.length*es->S.w.cell? ⟨b,off+p,none⟩=some (f p):=by
  intro p hp
  obtain ⟨_,_,cv,_,_,h,_⟩:=hall p hp
  simp [f,h]
 refine ⟨(List.range (xs.length*es)).map f,⟨by simp,ho,fun i x k c cv hx hk hcv => ?_,fun u hu => ?_⟩,fun w' hw => ?_⟩
 ·have hlt:i*es+k<xs.length*es:=ZbY (Zah hx) (Nat.le_refl _) (by rw [<- (ho i x hx).1];exact Zah hk)
  rw [List.getElem?_map,List.getElem?_range hlt] at hcv
  simp only [Option.map_some,Option.some.injEq] at hcv
  subst hcv
  obtain ⟨cv,a1,a2,a3⟩:=hc i x k c hx hk
  have:=hf _ hlt
  rw [<- Nat.add_assoc,a1] at this
  simp only [Option.some.injEq] at this
  rw [<- this]
  exact ⟨a2,a3⟩
 ·obtain ⟨p,hp,rfl⟩:=List.mem_map.1 hu
  obtain ⟨x,c,cv,_,_,h1,h2,_,h3⟩:=hall p (by simpa using hp)
  have:f p=cv:=by simp [f,h1]
  rw [this]
  exact Zee h2 h3
 ·have:=run_loadCells (P:=P) w' ⟨b,off,none⟩ (xs.length*es) f (fun p hp=>by
   rw [Za6]
   have e:w'.cell? ⟨b,off+p,none⟩=S.w.cell? ⟨b,off+p,none⟩:=Zaw (by rw [hw])
   rw [e];exact hf p hp)
  exact this
section
variable {P:Unit->Program}
def Zf5 (P:Program) (w:World) (size:Nat) (v:Value) (n:Nat) (us:List Value):Prop:=
 ∀ w',w'.heap=w.heap->(Builtin.lenOf v).run P w' = .ok n w'/\(Builtin.firstCells size n v).run P w' = .ok ⟨us⟩ w'
theorem Zb4 {S:St} (hS:HeapOk S) {size:Nat} {x:AV} {xv:Value} {ys:List AV} {cl:Bool} {q:List Bool} (hx:Rel S x xv) (h:ZdA S.L size x=some (ys,cl,q)) (hq:∀ b ∈ q,b=true) :
  ∃ us,Flat S size ys us cl/\Zf5 (P ()) S.w size xv ys.length us:=by
 unfold ZdA at h
 split at h
 ·simp only [Option.some.injEq,Prod.mk.injEq] at h;obtain ⟨rfl,rfl,rfl⟩:=h
  rw [ZaM hx]
  exact ⟨[],.nil S size true,fun w' _=>⟨by simp [Builtin.lenOf],by simp [Builtin.firstCells]⟩⟩
 ·rename_i f es xs
  split at h
  ·rename_i hes
   simp only [Option.some.injEq,Prod.mk.injEq] at h;obtain ⟨rfl,rfl,rfl⟩:=h
   subst hes
   have hd:=ZbS hx
   cases hd with
   | vecE _ _ a cap hf =>
    refine ⟨[],.nil S es true,fun w' _=>⟨by simp [Builtin.lenOf],?_⟩⟩
    cases a <;> simp [Builtin.firstCells,loadCells,loadCellsFrom]
   | vec _ _ _ b off cap ho hf hl hc hr =>
    obtain ⟨us,h1,h2⟩:=ZfQ (S:=S) (P:=P ()) (cl:=true) (b:=b) (off:=off) ho (fun i x k c hx hk=>by
     obtain ⟨⟨cv,e1⟩,_⟩:=hc i x k c hx hk
     have:=hr i x k c cv hx hk e1
     exact ⟨cv,e1,.data _ _ this,fun _=>this⟩)
    exact ⟨us,h1,fun w' hw=>⟨by simp [Builtin.lenOf],by simpa [Builtin.firstCells] using h2 w' hw⟩⟩
  ·simp at h
 ·rename_i r ver
  split at h
  ·rename_i row hrow
   split at h
   ·rename_i hes
    simp only [Option.some.injEq,Prod.mk.injEq] at h;obtain ⟨rfl,rfl,rfl⟩:=h
    obtain ⟨row',info,a1,a2,a3,hmp⟩:=Zc3 hx
    rw [hrow] at a1
    simp only [Option.some.injEq] at a1;subst a1
    have hver:row.ver=ver:=by simpa using hq (row.ver==ver) (by simp)
    rw [a3 hver]
    have hie:=(hS.cells r row info hrow a2 hmp).1
    subst hes
    obtain ⟨us,h1,h2⟩:=ZfQ (S:=S) (P:=P ()) (cl:=row.clean) (b:=info.blk) (off:=info.off) (hS.elems r row hrow) (fun i x k c hx hk=>by
     obtain ⟨cv,e1,e2⟩:=Zd8 hS hrow a2 hmp hx k c hk
     refine ⟨cv,by rw [<- hie];exact e1,e2,fun e=>hS.clean r row info i x k c cv hrow a2 e hx hk e1⟩)
    exact ⟨us,h1,fun w' hw=>⟨by simp [Builtin.lenOf],by simpa [Builtin.firstCells] using h2 w' hw⟩⟩
   ·simp at h
  ·simp at h
 ·rename_i r ver lo len
  split at h
  ·rename_i row hrow
   split at h
   ·rename_i hes
    simp only [Option.some.injEq,Prod.mk.injEq] at h;obtain ⟨rfl,rfl,rfl⟩:=h
    obtain ⟨row',info,a1,a2,a3,hmp⟩:=ZdI hx
    rw [hrow] at a1
    simp only [Option.some.injEq] at a1;subst a1
    have hver:row.ver=ver:=by simpa using hq (row.ver==ver) (by simp)
    obtain ⟨a,cap,rfl,b1,b2,b3⟩:=a3 hver
    have hie:=(hS.cells r row info hrow a2 hmp).1
    subst hes
    have hlen:((row.elems.drop lo).take len).length=len:=by simp;omega
    rcases b3 with ⟨rfl,b4⟩ | b4
    ·obtain ⟨us,h1,h2⟩:=ZfQ (S:=S) (P:=P ()) (cl:=row.clean) (b:=info.blk) (off:=info.off+lo*info.es) (es:=row.es) (xs:=(row.elems.drop lo).take len)
      (fun i x hx=>by
       rw [List.getElem?_take] at hx
       split at hx
       ·rw [List.getElem?_drop] at hx;exact hS.elems r row hrow _ x hx
       ·simp at hx) (fun i x k c hx hk=>by
      rw [List.getElem?_take] at hx
      split at hx
      ·rw [List.getElem?_drop] at hx
       obtain ⟨cv,e1,e2⟩:=Zd8 hS hrow a2 hmp hx k c hk
       refine ⟨cv,?_,e2,fun e=>hS.clean r row info _ x k c cv hrow a2 e hx hk e1⟩
       rw [Nat.add_mul,<- Nat.add_assoc] at e1
       rw [<- hie];exact e1
      ·simp at hx)
     rw [hlen]
     rw [hlen] at h2
     exact ⟨us,h1,fun w' hw=>⟨by simp [Builtin.lenOf],by simpa [Builtin.firstCells] using h2 w' hw⟩⟩
    ·have:len=0:=Nat.le_zero.1 (b4 ▸ b1)
     subst this
     refine ⟨[],by simpa using Flat.nil S row.es row.clean,fun w' _=>⟨by simp [Builtin.lenOf],by simp [Builtin.firstCells,loadCells,loadCellsFrom]⟩⟩
   ·simp at h
  ·simp at h
 ·rename_i s
  split at h
  ·rename_i hsz
   simp only [Option.some.injEq,Prod.mk.injEq] at h;obtain ⟨rfl,rfl,rfl⟩:=h
   subst hsz
   rw [ZcH hx]
   refine ⟨s.map fun b => .int .u8 b.toNat,⟨by simp,fun i x hx => ?_,fun i x k c cv hx hk hcv => ?_,fun u hu => ?_⟩,fun w' _=>⟨?_,?_⟩⟩
   ·rw [List.getElem?_map] at hx
    cases hs:s[i]? with
    | none=>simp [hs] at hx
    | some b=>simp [hs] at hx;subst hx;simp [AV.cells,AV.plain]
   ·rw [List.getElem?_map] at hx
    cases hs:s[i]? with
    | none=>simp [hs] at hx
    | some b =>
     simp [hs] at hx;subst hx
     have:k=0:=by have:=Zah hk;simp [AV.cells] at this;exact this
     subst this
     simp [AV.cells] at hk;subst hk
     rw [List.getElem?_map] at hcv
     simp [hs] at hcv;subst hcv
     exact ⟨ZaR S _ _,fun _ => .int _ _⟩
   ·obtain ⟨b,_,rfl⟩:=List.mem_map.1 hu;rfl
   ·simp [Builtin.lenOf];rfl
   ·have:(⟨⟨s⟩⟩:ByteArray).extract 0 (s.map fun b=>AV.int .u8 b.toNat).length=⟨⟨s⟩⟩:=by
     rw [ZgP];simp
    simp only [Builtin.firstCells,this,Sem.run_pure]
    simp
  ·simp at h
 ·simp at h
end
end Go.Av

namespace Go.Av
open Go.RowKit
section
variable {P:Unit->Program}
def Made (S:St) (v:AV) (L':Heap) (out:Result Value):Prop:=
 ∃ β' w' cv,HeapOk ⟨S.base,S.acc,L',β',w'⟩/\Ext S ⟨S.base,S.acc,L',β',w'⟩/\Rel ⟨S.base,S.acc,L',β',w'⟩ v cv/\out = .ok cv w'
theorem ZbK {S:St} (hS:HeapOk S) (o:Obj):Below S.base S.w (S.w.alloc o):=(Below.refl _ _).alloc hS.base o
theorem box_made {S:St} (hS:HeapOk S) {T:TypeId} {x:AV} {xv:Value} {r:SR} (hx:Rel S x xv) (h:boxA S.L x=some r) :
  r.asm=[]/\r.eqs=[]/\r.calls=[] /\ ∃ L',r.L'=some L'/\Made S r.v L' ((newVar T xv >>= fun a=>pure (Value.pointer (some a)):Sem Value).run (P ()) S.w):=by
 unfold boxA at h
 split at h
 ·rename_i hp
  simp only [Option.some.injEq] at h;subst h
  have hc:=Zbp hx (Za8 hp)
  have hget:∀ (i:Nat) y,[x][i]? = some y->i=0/\y=x:=by
   intro i y hy
   cases i with
   | zero=>simp at hy;exact ⟨rfl,hy.symm⟩
   | succ i=>simp at hy
  have hsz:x.cells.length=xv.cells.size:=by simpa using hc.1
  obtain ⟨h1,h2⟩:=new_row (S:=S) (elems:=[x]) (es:=x.cells.length) (cap:=1) (cl:=false) (cs:=xv.cells) (T:=T) (w':=S.w.alloc (.cells xv.cells T)) hS rfl (ZbK hS _)
   (fun i y hy=>by obtain ⟨_,rfl⟩:=hget i y hy;exact ⟨rfl,hp⟩) (by simp) (by omega)
   (fun i y k c cv hy hk hcv=>by
    obtain ⟨rfl,rfl⟩:=hget i y hy
    simp only [Nat.zero_mul,Nat.zero_add] at hcv
    exact hc.2 k c cv hk (by simpa using hcv)) (by simp)
  refine ⟨rfl,rfl,rfl,_,rfl,_,_,.pointer (some ⟨S.w.heap.size,0,none⟩),h1,h2,?_,?_⟩
  ·refine .ptr S.L.length 0 0 0 ⟨[x],x.cells.length,0,false,false⟩ ⟨S.w.heap.size,0,x.cells.length,1,false⟩ _ ⟨⟨_,rfl⟩,rfl⟩ (by simp) ?_ (Nat.le_refl _) fun _=>by simp
   show (S.β++_)[S.L.length]? = _
   rw [hS.len];simp
  ·simp [newVar,newRow]
 ·simp at h
theorem store_made {S:St} (hS:HeapOk S) {el:Option AV} {T:TypeId} {p v:AV} {pv vv:Value} {r:SR} (hp:Rel S p pv) (hv:Rel S v vv) (h:Zgr P el S.L T p v=some r)
  (hA:∀ b ∈ r.asm,b=true) (hQ:∀ q ∈ r.eqs,q):r.v = .tup []/\r.calls=[] /\ ∃ L' β' w',r.L'=some L'/\HeapOk ⟨S.base,S.acc,L',β',w'⟩/\Ext S ⟨S.base,S.acc,L',β',w'⟩ /\
   (Instr.storeAt T pv vv).run (P ()) S.w = .ok () w':=by
 unfold Zgr at h
 split at h
 ·rename_i q ver i j
  obtain ⟨row,info,h1,h2,h3,hmp⟩:=rel_ptr hp
  rw [h1] at h
  simp only at h
  split at h
  ·rename_i hfz
   split at h
   ·rename_i x qs he
    split at h
    ·rename_i hcond
     obtain ⟨hpl,hsz,hin⟩:=hcond
     split at h
     ·rename_i y hy
      obtain ⟨cl,hcln,h⟩:∃ cl:Bool,(cl=true->row.clean=true/\cleanL v.cells=true)/\r = { v:=.tup [],L':=some (S.L.set q ⟨row.elems.set i y,row.es,row.ver,row.frozen,cl⟩),eqs:=qs,asm:=[row.ver==ver] }:=by
       split at h
       ·simp only [Option.some.injEq] at h
        exact ⟨false,by simp,h.symm⟩
       ·rename_i hne
        simp only [Option.some.injEq] at h
        refine ⟨row.clean,fun hc=>⟨hc,?_⟩,h.symm⟩
        cases hcv:cleanL v.cells with
        | true=>rfl
        | false=>exact (hne hc hcv).elim
      subst h
      have hx:=elem_of he hQ
      have hver:row.ver=ver:=by simpa using hA (row.ver==ver) (by simp)
      have hvc:=Zbp hv (Za8 hpl)
      have hvl:v.cells.length=vv.cells.toList.length:=hvc.1
      obtain ⟨a1,a2,cs,T0,a3,a4⟩:=hS.cells q row info h1 h2 hmp
      obtain ⟨x1,x2⟩:=hS.elems q row h1 i x hx
      have hyc:y.cells=x.cells.take j++(v.cells++x.cells.drop (j+v.cells.length))/\j+v.cells.length<=x.cells.length:=by
       unfold putCells at hy
       split at hy
       ·rename_i cs'
        split at hy
        ·rename_i hle
         simp only [Option.some.injEq] at hy;subst hy
         exact ⟨rfl,hle⟩
        ·simp at hy
       ·rename_i hna
        split at hy
        ·rename_i u hvu
         simp only [Option.some.injEq] at hy;subst hy
         have hxc:x.cells=[x]:=by
          cases x <;> first | rfl | exact absurd rfl (hna _)
         have hu:u.plain=true:=List.all_eq_true.1 hpl u (by rw [hvu];simp)
         have huc:u.cells=[u]:=by cases u <;> first | rfl | simp [AV.plain] at hu
         rw [huc,hvu,hxc];simp
        ·simp at hy
      obtain ⟨hyc,hjle⟩:=hyc
      have hyl:y.cells.length=row.es:=by rw [hyc];simp;omega
      have hyp:y.cells.all AV.plain=true:=by
       rw [hyc,List.all_append,List.all_append,hpl]
       simp only [Bool.and_eq_true]
       refine ⟨List.all_eq_true.2 fun c hc=>List.all_eq_true.1 x2 c (List.mem_of_mem_take hc),trivial,List.all_eq_true.2 fun c hc=>List.all_eq_true.1 x2 c (List.mem_of_mem_drop hc)⟩
      have hilt:=Zah hx
      let o:=info.off+i*info.es+j
      have hend:o+vv.cells.toList.length<=cs.size:=by
       have:=ZbY (k:=j+v.cells.length-1) hilt a2 (es:=info.es)
       rcases Nat.eq_zero_or_pos v.cells.length with e | e
       ·have h0:i*info.es<=info.cap*info.es:=Nat.mul_le_mul_right _ (by omega)
        have h1':(i+1)*info.es<=info.cap*info.es:=Nat.mul_le_mul_right _ (by omega)
        rw [Nat.add_mul] at h1'
        show info.off+i*info.es+j+_<=_
        omega
       ·have:=this (by omega)
        show info.off+i*info.es+j+_<=_
        omega
      let cs':Array Value:=(cs.toList.take o++vv.cells.toList++cs.toList.drop (o+vv.cells.toList.length)).toArray
      have hone:∀ u ∈ vv.cells.toList,u.oneCell'=true:=by
       intro u hu
       obtain ⟨k,hk⟩:=List.mem_iff_getElem?.1 hu
       have hk2:k<v.cells.length:=by rw [hvl];exact Zah hk
       exact Zee (hvc.2 k _ u (List.getElem?_eq_getElem hk2) hk) (List.all_eq_true.1 hpl _ (List.getElem_mem hk2))
      have hst:=run_storeCells_at (P ()) info.blk o T0 vv.cells.toList 0 cs S.w a3 (by simpa using hend) hone
      simp only [Nat.add_zero] at hst
      have hnew:=setRow_heap S.w info.blk cs cs' T0 (0,0) a3
      have hcs':∀ p,cs'[p]? = if p<o then cs[p]? else if p<o+v.cells.length then vv.cells.toList[p-o]? else cs[p]?:=by
       intro p
       have ho:o<=cs.size:=by omega
       have e:cs'[p]? = (cs.toList.take o++vv.cells.toList++cs.toList.drop (o+vv.cells.toList.length))[p]?:=by simp [cs']
       rw [e,hvl]
       by_cases c1:p<o
       ·rw [if_pos c1,List.append_assoc,List.getElem?_append_left (by simp;omega),List.getElem?_take,if_pos c1];simp
       ·rw [if_neg c1,List.append_assoc,List.getElem?_append_right (by simp;omega)]
        have e1:(cs.toList.take o).length=o:=by simp;omega
        rw [e1]
        by_cases c2:p<o+vv.cells.toList.length
        ·rw [if_pos c2,List.getElem?_append_left (by omega)]
        ·rw [if_neg c2,List.getElem?_append_right (by omega),List.getElem?_drop]
         have:o+vv.cells.toList.length+(p-o-vv.cells.toList.length)=p:=by omega
         rw [this];simp
      have helem:∀ (i':Nat) z (k:Nat) c cv,(row.elems.set i y)[i']? = some z->z.cells[k]? = some c->cs'[info.off+i'*info.es+k]? = some cv ->
        (i' ≠ i/\row.elems[i']? = some z/\cs[info.off+i'*info.es+k]? = some cv)\/(i'=i/\z=y/\((∃ k':Nat,v.cells[k']? = some c/\vv.cells.toList[k']? = some cv)\/(x.cells[k]? = some c/\cs[info.off+i*info.es+k]? = some cv))):=by
       intro i' z k c cv hz hk hcv
       rw [List.getElem?_set] at hz
       rw [hcs'] at hcv
       by_cases e:i=i'
       ·subst e
        simp [hilt] at hz
        subst hz
        right
        refine ⟨rfl,rfl,?_⟩
        rw [hyc] at hk
        by_cases c1:k<j
        ·right
         rw [List.getElem?_append_left (by simp;omega),List.getElem?_take,if_pos c1] at hk
         rw [if_pos (by show info.off+i*info.es+k<info.off+i*info.es+j;omega)] at hcv
         exact ⟨hk,hcv⟩
        ·rw [List.getElem?_append_right (by simp;omega)] at hk
         have e1:(x.cells.take j).length=j:=by simp;omega
         rw [e1] at hk
         rw [if_neg (by show ¬ info.off+i*info.es+k<info.off+i*info.es+j;omega)] at hcv
         by_cases c2:k-j<v.cells.length
         ·left
          rw [List.getElem?_append_left c2] at hk
          rw [if_pos (by show info.off+i*info.es+k<info.off+i*info.es+j+_;omega)] at hcv
          have:info.off+i*info.es+k-o=k-j:=by show info.off+i*info.es+k-(info.off+i*info.es+j)=_;omega
          rw [this] at hcv
          exact ⟨k-j,hk,hcv⟩
         ·right
          rw [List.getElem?_append_right (by omega),List.getElem?_drop] at hk
          rw [if_neg (by show ¬ info.off+i*info.es+k<info.off+i*info.es+j+_;omega)] at hcv
          have:j+v.cells.length+(k-j-v.cells.length)=k:=by omega
          rw [this] at hk
          exact ⟨hk,hcv⟩
       ·rw [if_neg e] at hz
        left
        refine ⟨fun e'=>e e'.symm,hz,?_⟩
        have hk2:k<info.es:=by rw [a1,<- (hS.elems q row h1 i' z hz).1];exact Zah hk
        have hout:info.off+i'*info.es+k<o\/o+v.cells.length<=info.off+i'*info.es+k:=by
         rcases Nat.lt_or_gt_of_ne (fun e'=>e e'.symm:i' ≠ i) with c1 | c1
         ·left
          have:=ZbY (k:=k) c1 (Nat.le_refl i) hk2
          show _<info.off+i*info.es+j;omega
         ·right
          have h1':(i+1)*info.es<=i'*info.es:=Nat.mul_le_mul_right _ c1
          rw [Nat.add_mul] at h1'
          show info.off+i*info.es+j+_<=_;omega
        rcases hout with c1 | c1
        ·rw [if_pos c1] at hcv;exact hcv
        ·rw [if_neg (by omega),if_neg (by omega)] at hcv;exact hcv
      obtain ⟨g1,g2⟩:=set_row (row':=⟨row.elems.set i y,row.es,row.ver,row.frozen,cl⟩) (info':=info) (cs:=cs') (T:=T0) (w':=S.w.setRow info.blk cs') hS h1 h2 hmp hmp (Nat.le_refl _) (fun _=>⟨rfl,by simp⟩) a1 (.inl rfl)
       (fun b _ hb=>setRow_other S.w info.blk b cs' hb) hnew (by simp only [cs'];simp;omega) (by simpa using a2) (fun e=>by rw [hfz] at e;cases e)
       (fun i' z hz=>by
        rw [List.getElem?_set] at hz
        by_cases e:i=i'
        ·subst e;simp [hilt] at hz;subst hz;exact ⟨hyl,hyp⟩
        ·rw [if_neg e] at hz;exact hS.elems q row h1 i' z hz)
       (Zdk (hS.blk q info h2).1)
       (fun i' z k c cv hz hk hcv=>by
        rcases helem i' z k c cv hz hk hcv with ⟨_,b1,b2⟩ | ⟨rfl,rfl,⟨k',b1,b2⟩ | ⟨b1,b2⟩⟩
        ·exact hS.rel q row info i' z k c cv h1 h2 b1 hk (by rw [Zbj a3];exact b2)
        ·exact hvc.2 k' c cv b1 b2
        ·exact hS.rel q row info i' x k c cv h1 h2 hx b1 (by rw [Zbj a3];exact b2))
       (fun hc i' z k c cv hz hk hcv=>by
        rcases helem i' z k c cv hz hk hcv with ⟨_,b1,b2⟩ | ⟨rfl,rfl,⟨k',b1,b2⟩ | ⟨b1,b2⟩⟩
        ·exact hS.clean q row info i' z k c cv h1 h2 (hcln hc).1 b1 hk (by rw [Zbj a3];exact b2)
        ·exact ZaJ (hvc.2 k' c cv b1 b2) (Zbb (hcln hc).2 k' c b1)
        ·exact hS.clean q row info i' x k c cv h1 h2 (hcln hc).1 hx b1 (by rw [Zbj a3];exact b2))
      rw [set_self h2] at g1 g2
      refine ⟨rfl,rfl,_,_,_,rfl,g1,g2,?_⟩
      rw [h3 hver]
      obtain ⟨ti,hti⟩:=Option.ne_none_iff_exists'.1 hin
      have hcells:(P ()).cellsOf T=ti.size:=by simp [Program.cellsOf,hti]
      have hs2:vv.cells.size=ti.size:=by rw [<- hcells,hsz,hvl];simp
      simp only [Instr.storeAt,Instr.sureAddr,storeVar,Sem.run_bind,Sem.run_pure,Result.andThen_ok,ZaA hti,hs2,ne_eq,not_true_eq_false,if_false]
      exact hst
     ·simp at h
    ·simp at h
   ·simp at h
  ·simp at h
 ·simp at h
theorem make_made {S:St} (hS:HeapOk S) {T:TypeId} {l c:AV} {lv cv:Value} {r:SR} (hl:Rel S l lv) (hc:Rel S c cv) (h:Zb8 P S.L T l c=some r) (hA:∀ b ∈ r.asm,b=true) :
  r.eqs=[]/\r.calls=[] /\ ∃ L',r.L'=some L'/\Made S r.v L' ((Instr.makeSlice T lv cv).run (P ()) S.w):=by
 unfold Zb8 at h
 split at h
 ·rename_i e k n k' m hu
  split at h
  ·rename_i i hi
   split at h
   ·rename_i z0 hz
    split at h
    ·rename_i hcond
     obtain ⟨c1,c2,c3,c4,c5⟩:=hcond
     simp only [Option.some.injEq] at h;subst h
     have h0:0<=n:=alld hA (p:=0<=n) (by simp)
     have h1:n<=m:=alld hA (p:=n<=m) (by simp)
     have h2:m*i.bytes<=1099511627776:=alld hA (p:=m*i.bytes<=1099511627776) (by simp)
     have h3:m<=1099511627776:=alld hA (p:=m<=1099511627776) (by simp)
     rw [ZaH hl,ZaH hc]
     have hm:0<=m:=by omega
     have hrun:=run_make (P:=P ()) S.w T e i z0 hu hi hz k k' n m h0 h1 (by rw [Int.mul_comm];omega) (by omega)
     have hzc:=Zbp (Zfv S z0) (Za8 c3)
     have hzsz:z0.cells.toList.length=i.size:=by simpa using c2
     have hmade:∀ p,p<m.toNat*i.size->(madeCells z0.cells (m.toNat*i.size))[p]? = z0.cells.toList[p % i.size]?:=by
      intro p hp
      have hlt:p % i.size<z0.cells.size:=by rw [c2];exact Nat.mod_lt _ c5
      simp only [madeCells,Array.getElem?_map,Array.getElem?_range,hp,if_true,Option.map_some,c2]
      rw [getElem!_pos z0.cells (p % i.size) hlt]
      simp [hlt]
     have hrep:∀ (q:Nat) x,(List.replicate n.toNat (ofC z0))[q]? = some x->x=ofC z0/\q<n.toNat:=by
      intro q x hx
      have hlt:q<n.toNat:=by have:=Zah hx;rwa [List.length_replicate] at this
      rw [List.getElem?_replicate,if_pos hlt] at hx
      simp only [Option.some.injEq] at hx;exact ⟨hx.symm,hlt⟩
     have hcell:∀ (q:Nat) x (k:Nat) c cv,(List.replicate n.toNat (ofC z0))[q]? = some x->x.cells[k]? = some c->(madeCells z0.cells (m.toNat*i.size))[q*i.size+k]? = some cv->(ofC z0).cells[k]? = some c/\z0.cells.toList[k]? = some cv:=by
      intro q x k c cv hx hk hcv
      obtain ⟨rfl,hq⟩:=hrep q x hx
      have hk2:k<i.size:=by rw [<- c1];exact Zah hk
      rw [hmade _ (ZbY hq (by omega) hk2)] at hcv
      rw [Nat.add_comm,Nat.add_mul_mod_self_right,Nat.mod_eq_of_lt hk2] at hcv
      exact ⟨hk,hcv⟩
     obtain ⟨g1,g2⟩:=new_row (S:=S) (elems:=List.replicate n.toNat (ofC z0)) (es:=i.size) (cap:=m.toNat) (cl:=true) (cs:=madeCells z0.cells (m.toNat*i.size)) (T:=e)
      (w':=S.w.alloc (.cells (madeCells z0.cells (m.toNat*i.size)) e)) hS rfl (ZbK hS _)
      (fun q x hx=>by obtain ⟨rfl,_⟩:=hrep q x hx;exact ⟨c1,c3⟩) (by simp;omega) (by rw [size_madeCells];exact Nat.le_refl _)
      (fun q x k c cv hx hk hcv=>by obtain ⟨b1,b2⟩:=hcell q x k c cv hx hk hcv;exact hzc.2 k c cv b1 b2)
      (fun _ q x k c cv hx hk hcv=>by obtain ⟨b1,b2⟩:=hcell q x k c cv hx hk hcv;exact ZaJ (hzc.2 k c cv b1 b2) (Zbb c4 k c b1))
     refine ⟨rfl,rfl,_,rfl,_,_,_,g1,g2,?_,hrun⟩
     refine .row S.L.length 0 ⟨List.replicate n.toNat (ofC z0),i.size,0,false,true⟩ ⟨S.w.heap.size,0,i.size,m.toNat,false⟩ _ ⟨⟨_,_,_,rfl⟩,rfl⟩ (by simp) ?_ (Nat.le_refl _) fun _=>by simp
     show (S.β++_)[S.L.length]? = _
     rw [hS.len];simp
    ·simp at h
   ·simp at h
  ·simp at h
 ·simp at h
theorem Zeo {t X ty e:TypeId} {i:TypeInfo} {w w':World} {base:Option Addr} {sLen sCap m:Nat} {xv:Value} {news:List Value} (ht:(P ()).underlying t=some (.slice e)) (hX:(∃ e',(P ()).underlying X=some (.slice e'))\/(P ()).underlying X=some .string)
  (hi:(P ()).info? e=some i) (hx:Zf5 (P ()) w i.size xv m news) (hroom:sLen+m<=sCap)
  (hst:match base with | some a=>(storeCells (a.add (sLen*i.size)) news).run (P ()) w = .ok () w' | none=>w'=w) :
  (Builtin.append_ #[t,X] ty #[.slice base sLen sCap,xv]).run (P ()) w = .ok (.slice base (sLen+m) sCap) w':=by
 obtain ⟨h1,h2⟩:=hx w rfl
 rcases hX with ⟨e',hX⟩ | hX
 ·cases base with
  | none=>simp only at hst;subst hst;simp [Builtin.append_,run_underlying ht,run_underlying hX,ZaA hi,h1,hroom,h2]
  | some a=>simp only at hst;simp [Builtin.append_,run_underlying ht,run_underlying hX,ZaA hi,h1,hroom,h2,hst]
 ·cases base with
  | none=>simp only at hst;subst hst;simp [Builtin.append_,run_underlying ht,run_underlying hX,ZaA hi,h1,hroom,h2]
  | some a=>simp only at hst;simp [Builtin.append_,run_underlying ht,run_underlying hX,ZaA hi,h1,hroom,h2,hst]
theorem Ze7 {t X ty e:TypeId} {i:TypeInfo} {z:Value} {w:World} {base:Option Addr} {sLen sCap m:Nat} {xv:Value} {olds news:List Value} (ht:(P ()).underlying t=some (.slice e)) (hX:(∃ e',(P ()).underlying X=some (.slice e'))\/(P ()).underlying X=some .string)
  (hi:(P ()).info? e=some i) (hz:i.zero=some z) (hx:Zf5 (P ()) w i.size xv m news) (hold:Zf5 (P ()) w i.size (.slice base sLen sCap) sLen olds) (hroom:sCap<sLen+m)
  (hb:0<i.bytes) (hsz:(sLen+m)*i.bytes<=1099511627776) :
  (Builtin.append_ #[t,X] ty #[.slice base sLen sCap,xv]).run (P ()) w = .ok (.slice (some ⟨w.heap.size,0,none⟩) (sLen+m) (grownCap w (sLen+m) sCap e))
   (w.drew.alloc (.cells ((⟨olds⟩:Array Value)++⟨news⟩++Builtin.zeroCells z.cells (grownCap w (sLen+m) sCap e-(sLen+m))) e)):=by
 obtain ⟨h1,h2⟩:=hx w rfl
 obtain ⟨_,g2⟩:=hx w.drew rfl
 obtain ⟨_,o2⟩:=hold w.drew rfl
 have hn:¬ (sLen+m<=sCap):=by omega
 have hle:sLen+m<=(sLen+m)*i.bytes:=Nat.le_mul_of_pos_right _ hb
 have h63:¬ (9223372036854775807<((sLen:Int)+(m:Int))):=by omega
 have h48:=growslice_fits (need:=sLen+m) (old:=sCap) (bytes:=i.bytes) (by omega) (by omega)
 have h48':¬ (281474976710656<Builtin.nextslicecap (sLen+m) sCap*i.bytes):=by omega
 have ea:∀ zs:Array Value,(⟨olds⟩:Array Value)++((⟨news⟩:Array Value)++zs)=(olds++news).toArray++zs:=by
  intro zs;apply Array.ext';simp
 rcases hX with ⟨e',hX⟩ | hX
 ·simp [Builtin.append_,run_underlying ht,run_underlying hX,ZaA hi,ZcD hi,zeroValue,hz,h1,hn,h63,h48',Question.forced,g2,o2,newRow,grownCap,ea]
 ·simp [Builtin.append_,run_underlying ht,run_underlying hX,ZaA hi,ZcD hi,zeroValue,hz,h1,hn,h63,h48',Question.forced,g2,o2,newRow,grownCap,ea]
theorem ZcT {z:Value} {i:TypeInfo} (hz:(i.zero.map fun z=>z.cells.size)=some i.size) (h:i.zero=some z) (n:Nat):(Builtin.zeroCells z.cells n).size=n*i.size:=by
 rw [h] at hz
 simp only [Option.map_some,Option.some.injEq] at hz
 rw [size_zeroCells,hz]
theorem ZfK {S:St} {es n cap:Nat} {xs:List AV} {us:List Value} {zs:Array Value} {cl:Bool} (h:Flat S es xs us cl) (hn:xs.length=n) (hz:zs.size=(cap-n)*es) (hc:n<=cap) :
  cap*es<=((⟨us⟩:Array Value)++zs).size /\ ∀ (i:Nat) x (k:Nat) c cv,xs[i]? = some x->x.cells[k]? = some c->((⟨us⟩:Array Value)++zs)[i*es+k]? = some cv->Rel S c cv/\(cl=true->DRel S c cv):=by
 refine ⟨?_,fun i x k c cv hx hk hcv => ?_⟩
 ·have:(⟨us⟩:Array Value).size=n*es:=by rw [<- hn];exact h.len
  rw [Array.size_append,this,hz,<- Nat.add_mul]
  exact Nat.mul_le_mul_right _ (by omega)
 ·have hlt:=h.cell hx hk
  rw [Array.getElem?_append_left (by simpa using hlt)] at hcv
  exact h.rel i x k c cv hx hk (by simpa using hcv)
theorem Zf1 {S:St} (hS:HeapOk S) (o:Obj):Below S.base S.w (S.w.drew.alloc o):=(Below.refl _ _).drew.alloc hS.base o
end
end Go.Av

namespace Go.Av
open Go.RowKit
section
variable {P:Unit->Program}
theorem ZeI {S:St} (hS:HeapOk S) {e:TypeId} {i:TypeInfo} {z:Value} {xs:List AV} {us:List Value} {cl:Bool} (hz:i.zero=some z) (hzs:(i.zero.map fun z=>z.cells.size)=some i.size) (hf:Flat S i.size xs us cl)
  (n old:Nat) (hn:xs.length=n) :
  Made S (.row S.L.length 0) (S.L++[⟨xs,i.size,0,false,cl⟩])
   (.ok (.slice (some ⟨S.w.heap.size,0,none⟩) n (grownCap S.w n old e)) (S.w.drew.alloc (.cells ((⟨us⟩:Array Value)++Builtin.zeroCells z.cells (grownCap S.w n old e-n)) e))):=by
 have hge:=grownCap_ge S.w n old e
 obtain ⟨c1,c2⟩:=ZfK (cap:=grownCap S.w n old e) hf hn (ZcT hzs hz _) hge
 obtain ⟨g1,g2⟩:=new_row (S:=S) (elems:=xs) (es:=i.size) (cap:=grownCap S.w n old e) (cl:=cl) (T:=e) hS rfl (Zf1 hS _) hf.ok (by omega) c1
  (fun q x k c cv hx hk hcv=>(c2 q x k c cv hx hk hcv).1) (fun e q x k c cv hx hk hcv=>(c2 q x k c cv hx hk hcv).2 e)
 refine ⟨_,_,_,g1,g2,?_,rfl⟩
 refine .row S.L.length 0 ⟨xs,i.size,0,false,cl⟩ ⟨S.w.heap.size,0,i.size,grownCap S.w n old e,false⟩ _ ⟨⟨_,_,_,rfl⟩,rfl⟩ (by simp) ?_ (Nat.le_refl _) fun _=>by simp [hn]
 show (S.β++_)[S.L.length]? = _
 rw [hS.len];simp
theorem Zen {S:St} (hS:HeapOk S) {e:TypeId} {i:TypeInfo} {z:Value} {xs:List AV} {us:List Value} {cl:Bool} {r:Nat} {row:Row} {info:BI} (hmp:info.mp=false) (hz:i.zero=some z) (hzs:(i.zero.map fun z=>z.cells.size)=some i.size) (hf:Flat S i.size xs us cl)
  (hr:S.L[r]? = some row) (hi:S.β[r]? = some info) (n old:Nat) (hn:xs.length=n) :
  Made S (.row r (row.ver+1)) (S.L.set r ⟨xs,i.size,row.ver+1,row.frozen,cl⟩)
   (.ok (.slice (some ⟨S.w.heap.size,0,none⟩) n (grownCap S.w n old e)) (S.w.drew.alloc (.cells ((⟨us⟩:Array Value)++Builtin.zeroCells z.cells (grownCap S.w n old e-n)) e))):=by
 have hge:=grownCap_ge S.w n old e
 obtain ⟨c1,c2⟩:=ZfK (cap:=grownCap S.w n old e) hf hn (ZcT hzs hz _) hge
 have hblk:=(hS.blk r info hi).2
 have hold:∀ b,b<S.w.heap.size -> ∀ o:Obj,(S.w.drew.alloc o).heap[b]? = S.w.heap[b]?:=fun b hb o=>by
  show (S.w.heap.push o)[b]? = _
  rw [Zba hb]
 obtain ⟨g1,g2⟩:=set_row (row':=⟨xs,i.size,row.ver+1,row.frozen,cl⟩) (info':=⟨S.w.heap.size,0,i.size,grownCap S.w n old e,false⟩) (T:=e)
  (cs:=(⟨us⟩:Array Value)++Builtin.zeroCells z.cells (grownCap S.w n old e-n)) (w':=S.w.drew.alloc (.cells ((⟨us⟩:Array Value)++Builtin.zeroCells z.cells (grownCap S.w n old e-n)) e)) hS hr hi hmp rfl
  (by simp) (by intro h;simp at h) rfl (.inr rfl) (fun b hb _=>hold b hb _) (by show (S.w.heap.push _)[S.w.heap.size]? = _;rw [Zbg]) (by simpa using c1) (by simp;omega)
  (fun e=>⟨e,fun h=>by simp at h;omega,fun off _ _=>Zaw (hold _ hblk _)⟩) hf.ok (Zf1 hS _)
  (fun q x k c cv hx hk hcv=>(c2 q x k c cv hx hk (by simpa using hcv)).1) (fun e q x k c cv hx hk hcv=>(c2 q x k c cv hx hk (by simpa using hcv)).2 e)
 refine ⟨_,_,_,g1,g2,?_,rfl⟩
 refine .row r (row.ver+1) ⟨xs,i.size,row.ver+1,row.frozen,cl⟩ ⟨S.w.heap.size,0,i.size,grownCap S.w n old e,false⟩ _ ⟨⟨_,_,_,rfl⟩,rfl⟩ (by simp [Zah hr]) (by simp [Zah hi]) (Nat.le_refl _) fun _=>by simp [hn]
theorem ZeQ {S:St} (hS:HeapOk S) {r:Nat} {row:Row} {info:BI} {lo n cap:Nat} {ys:List AV} {us:List Value} {cl:Bool} (hr:S.L[r]? = some row) (hi:S.β[r]? = some info) (hmp:info.mp=false) (hf:Flat S row.es ys us cl)
  (hle:lo+n<=row.elems.length) (hcap:lo+cap=info.cap) (hroom:n+ys.length<=cap) (hfz:row.frozen=true->lo=0/\n=row.elems.length) :
  ∃ w',(storeCells ((⟨info.blk,info.off+lo*info.es,none⟩:Addr).add (n*row.es)) us).run (P ()) S.w = .ok () w' /\
   Made S (.row r (row.ver+1)) (S.L.set r ⟨(row.elems.drop lo).take n++ys,row.es,row.ver+1,row.frozen,row.clean&&cl⟩)
    (.ok (.slice (some ⟨info.blk,info.off+lo*info.es,none⟩) (n+ys.length) cap) w'):=by
 obtain ⟨a1,a2,cs,T0,a3,a4⟩:=hS.cells r row info hr hi hmp
 have hlen:((row.elems.drop lo).take n).length=n:=by simp;omega
 let o:=info.off+lo*info.es+n*row.es
 have hend:o+us.length<=cs.size:=by
  rw [hf.len]
  have:(lo+(n+ys.length))*info.es<=info.cap*info.es:=Nat.mul_le_mul_right _ (by omega)
  rw [Nat.add_mul,Nat.add_mul] at this
  show info.off+lo*info.es+n*row.es+_<=_
  rw [<- a1];omega
 let cs':Array Value:=(cs.toList.take o++us++cs.toList.drop (o+us.length)).toArray
 have hst:=run_storeCells_at (P ()) info.blk o T0 us 0 cs S.w a3 (by simpa using hend) hf.one
 simp only [Nat.add_zero] at hst
 have hnew:=setRow_heap S.w info.blk cs cs' T0 (0,0) a3
 have hcs':∀ p,cs'[p]? = if p<o then cs[p]? else if p<o+us.length then us[p-o]? else cs[p]?:=by
  intro p
  have e:cs'[p]? = (cs.toList.take o++us++cs.toList.drop (o+us.length))[p]?:=by simp [cs']
  rw [e]
  by_cases c1:p<o
  ·rw [if_pos c1,List.append_assoc,List.getElem?_append_left (by simp;omega),List.getElem?_take,if_pos c1];simp
  ·rw [if_neg c1,List.append_assoc,List.getElem?_append_right (by simp;omega)]
   have e1:(cs.toList.take o).length=o:=by simp;omega
   rw [e1]
   by_cases c2:p<o+us.length
   ·rw [if_pos c2,List.getElem?_append_left (by omega)]
   ·rw [if_neg c2,List.getElem?_append_right (by omega),List.getElem?_drop]
    have:o+us.length+(p-o-us.length)=p:=by omega
    rw [this];simp
 have hcell:∀ (q:Nat) x (k:Nat) c cv,((row.elems.drop lo).take n++ys)[q]? = some x->x.cells[k]? = some c->cs'[info.off+lo*info.es+q*info.es+k]? = some cv ->
   (q<n/\row.elems[lo+q]? = some x/\cs[info.off+(lo+q)*info.es+k]? = some cv)\/(ys[q-n]? = some x/\us[(q-n)*row.es+k]? = some cv):=by
  intro q x k c cv hx hk hcv
  rw [hcs'] at hcv
  by_cases hq:q<n
  ·left
   rw [List.getElem?_append_left (by omega),List.getElem?_take,if_pos hq,List.getElem?_drop] at hx
   have hk2:k<info.es:=by rw [a1,<- (hS.elems r row hr _ x hx).1];exact Zah hk
   have:=ZbY (k:=k) hq (Nat.le_refl n) hk2
   rw [if_pos (by show _<info.off+lo*info.es+n*row.es;rw [<- a1];omega)] at hcv
   refine ⟨hq,hx,?_⟩
   have e:info.off+(lo+q)*info.es+k=info.off+lo*info.es+q*info.es+k:=by rw [Nat.add_mul];omega
   rw [e];exact hcv
  ·right
   rw [List.getElem?_append_right (by omega),hlen] at hx
   have h1:=hf.cell hx hk
   have e:q*info.es=n*row.es+(q-n)*row.es:=by rw [a1,<- Nat.add_mul];congr 1;omega
   rw [if_neg (by show ¬ _<info.off+lo*info.es+n*row.es;omega),if_pos (by show _<info.off+lo*info.es+n*row.es+_;omega)] at hcv
   have e2:info.off+lo*info.es+q*info.es+k-o=(q-n)*row.es+k:=by show _-(info.off+lo*info.es+n*row.es)=_;omega
   rw [e2] at hcv
   exact ⟨hx,hcv⟩
 obtain ⟨g1,g2⟩:=set_row (row':=⟨(row.elems.drop lo).take n++ys,row.es,row.ver+1,row.frozen,row.clean&&cl⟩) (info':=⟨info.blk,info.off+lo*info.es,info.es,cap,false⟩) (T:=T0) (cs:=cs') (w':=S.w.setRow info.blk cs') hS hr hi hmp rfl
  (by simp) (by intro h;simp at h) a1 (.inl rfl) (fun b _ hb=>setRow_other S.w info.blk b cs' hb) hnew
  (by
   have:cs'.size=cs.size:=by simp only [cs'];simp;omega
   rw [this]
   have e:info.cap*info.es=lo*info.es+cap*info.es:=by rw [<- hcap,Nat.add_mul]
   simp only
   omega)
  (by simp only [List.length_append,hlen];exact hroom)
  (fun e=>by
   obtain ⟨e1,e2⟩:=hfz e
   subst e1
   refine ⟨e,fun _=>⟨by simp,rfl,by simp;omega⟩,fun off h1 h2 => ?_⟩
   rw [Zbj a3,Zbj hnew,hcs',if_pos]
   show off<info.off+0*info.es+n*row.es
   rw [e2,<- a1];omega)
  (by
   intro q x hx
   by_cases hq:q<n
   ·rw [List.getElem?_append_left (by omega),List.getElem?_take,if_pos hq,List.getElem?_drop] at hx
    exact hS.elems r row hr _ x hx
   ·rw [List.getElem?_append_right (by omega)] at hx
    exact hf.ok _ x hx)
  (Zdk (hS.blk r info hi).1)
  (fun q x k c cv hx hk hcv=>by
   rcases hcell q x k c cv hx hk hcv with ⟨_,b1,b2⟩ | ⟨b1,b2⟩
   ·exact hS.rel r row info _ x k c cv hr hi b1 hk (by rw [Zbj a3];exact b2)
   ·exact (hf.rel _ x k c cv b1 hk b2).1)
  (fun hc q x k c cv hx hk hcv=>by
   simp only [Bool.and_eq_true] at hc
   rcases hcell q x k c cv hx hk hcv with ⟨_,b1,b2⟩ | ⟨b1,b2⟩
   ·exact hS.clean r row info _ x k c cv hr hi hc.1 b1 hk (by rw [Zbj a3];exact b2)
   ·exact (hf.rel _ x k c cv b1 hk b2).2 hc.2)
 refine ⟨_,by rw [Za6];exact hst,_,_,_,g1,g2,?_,rfl⟩
 refine .row r (row.ver+1) ⟨(row.elems.drop lo).take n++ys,row.es,row.ver+1,row.frozen,row.clean&&cl⟩ ⟨info.blk,info.off+lo*info.es,info.es,cap,false⟩ _ ⟨⟨_,_,_,rfl⟩,rfl⟩ (by simp [Zah hr]) (by simp [Zah hi]) (Nat.le_refl _) fun _=>by simp;omega
theorem Zev {S:St} (hS:HeapOk S) {v:AV} {cv:Value} {out:Result Value} (hv:Rel S v cv) (ho:out = .ok cv S.w):Made S v S.L out:=⟨S.β,S.w,cv,hS,Ext.refl S,hv,ho⟩
theorem append_made {S:St} (hS:HeapOk S) {T X ty:TypeId} {s x:AV} {sv xv:Value} {r:SR} (hs:Rel S s sv) (hx:Rel S x xv) (hX:(∃ e',(P ()).underlying X=some (.slice e'))\/(P ()).underlying X=some .string)
  (h:Zcr P S.L T s x=some r) (hA:∀ b ∈ r.asm,b=true) :
  r.eqs=[]/\r.calls=[]/\Made S r.v (r.L'.getD S.L) ((Builtin.append_ #[T,X] ty #[sv,xv]).run (P ()) S.w):=by
 unfold Zcr at h
 split at h
 ·rename_i e hu
  split at h
  ·rename_i i hi
   split at h
   ·rename_i hcond
    obtain ⟨c1,c2,c3⟩:=hcond
    obtain ⟨z,hz⟩:∃ z,i.zero=some z:=by
     cases hz:i.zero with
     | none=>rw [hz] at c3;simp at c3
     | some z=>exact ⟨z,rfl⟩
    split at h
    ·rename_i ys cl q hcx
     have key:(∀ b ∈ q,b=true) -> ∃ us,Flat S i.size ys us cl/\Zf5 (P ()) S.w i.size xv ys.length us:=fun hq=>Zb4 hS hx hcx hq
     split at h
     ·rw [ZaM hs]
      split at h
      ·simp only [Option.some.injEq] at h;subst h
       obtain ⟨us,hf,hc⟩:=key hA
       refine ⟨rfl,rfl,Zev hS (.data _ _ .vnil) ?_⟩
       exact Zeo hu hX hi hc (by simp) rfl
      ·rename_i y ys'
       simp only [Option.some.injEq] at h;subst h
       obtain ⟨us,hf,hc⟩:=key (fun b hb=>hA b (by simp [hb]))
       have hsz:((y::ys').length*i.bytes)<=1099511627776:=alld hA (by simp)
       have hrun:=Ze7 (P:=P) (ty:=ty) (base:=none) (sLen:=0) (sCap:=0) (olds:=[]) hu hX hi hz hc (fun w' _=>⟨by simp [Builtin.lenOf],by simp [Builtin.firstCells]⟩) (by simp) c2 (by simpa using hsz)
       have:=ZeI (e:=e) hS hz c3 hf (y::ys').length 0 rfl
       refine ⟨rfl,rfl,?_⟩
       rw [hrun]
       simpa using this
     ·rename_i es xs
      split at h
      ·rename_i hes
       subst hes
       have hd:=ZbS hs
       have hcont:=Zb4 (P:=P) hS hs (x:=.vec true i.size xs) (size:=i.size) (ys:=xs) (cl:=true) (q:=[]) (by simp [ZdA]) (by simp)
       obtain ⟨olds,hfo,hco⟩:=hcont
       obtain ⟨a,hsv⟩:∃ a,sv = .slice a xs.length xs.length:=by
        cases hd with
        | vecE _ _ a cap hf=>have:=hf rfl;subst this;exact ⟨a,rfl⟩
        | vec _ _ _ b off cap ho hf=>have:=hf rfl;subst this;exact ⟨_,rfl⟩
       split at h
       ·simp only [Option.some.injEq] at h;subst h
        obtain ⟨us,hf,hc⟩:=key hA
        refine ⟨rfl,rfl,Zev hS hs ?_⟩
        rw [hsv]
        refine Zeo hu hX hi hc (by simp) ?_
        have:us=[]:=List.eq_nil_of_length_eq_zero (by rw [hf.len];simp)
        subst this
        cases a <;> simp [storeCells]
       ·rename_i y ys'
        simp only [Option.some.injEq] at h;subst h
        obtain ⟨us,hf,hc⟩:=key (fun b hb=>hA b (by simp [hb]))
        have hsz:((xs.length+(y::ys').length)*i.bytes)<=1099511627776:=alld hA (by simp)
        rw [hsv] at hco
        have hrun:=Ze7 (P:=P) (ty:=ty) (base:=a) (sLen:=xs.length) (sCap:=xs.length) hu hX hi hz hc hco (by simp) c2 hsz
        have hff:=(hfo.append hf).weaken (cl':=cl) (by simp)
        have:=ZeI (e:=e) hS hz c3 hff (xs.length+(y::ys').length) xs.length (by simp)
        refine ⟨rfl,rfl,?_⟩
        rw [hsv,hrun]
        simpa using this
      ·simp at h
     ·rename_i r' ver
      split at h
      ·rename_i row hrow
       split at h
       ·rename_i hes
        simp only [Option.some.injEq] at h;subst h
        obtain ⟨us,hf,hc⟩:=key (fun b hb=>hA b (by simp [hb]))
        have hver:row.ver=ver:=by simpa using hA (row.ver==ver) (by simp)
        have hsz:((row.elems.length+ys.length)*i.bytes)<=1099511627776:=alld hA (by simp)
        obtain ⟨row',info,a1,a2,a3,hmp⟩:=Zc3 hs
        rw [hrow] at a1
        simp only [Option.some.injEq] at a1;subst a1
        have hcont:=Zb4 (P:=P) hS hs (x:=.row r' ver) (size:=i.size) (ys:=row.elems) (cl:=row.clean) (q:=[row.ver==ver]) (by simp [ZdA,hrow,hes]) (by simp [hver])
        obtain ⟨olds,hfo,hco⟩:=hcont
        rw [a3 hver]
        rw [a3 hver] at hco
        subst hver
        refine ⟨rfl,rfl,?_⟩
        simp only [Option.getD_some]
        by_cases hroom:row.elems.length+ys.length<=info.cap
        ·rw [<- hes] at hf
         obtain ⟨w',h1,h2⟩:=ZeQ (P:=P) (lo:=0) (n:=row.elems.length) (cap:=info.cap) hS hrow a2 hmp hf (by omega) (by omega) hroom (fun _=>⟨rfl,rfl⟩)
         simp only [Nat.zero_mul,Nat.add_zero,List.drop_zero,List.take_length] at h1 h2
         rw [hes] at h1 h2
         rw [Zeo hu hX hi hc hroom h1,hes]
         exact h2
        ·have hrun:=Ze7 (P:=P) (ty:=ty) hu hX hi hz hc hco (by omega) c2 hsz
         have:=Zen (e:=e) hS hmp hz c3 (hfo.append hf) hrow a2 (row.elems.length+ys.length) info.cap (by simp)
         rw [hrun,hes]
         simpa using this
       ·simp at h
      ·simp at h
     ·rename_i r' ver lo len
      split at h
      ·rename_i row hrow
       split at h
       ·rename_i hes
        obtain ⟨hes,hfz⟩:=hes
        obtain ⟨row',info,a1,a2,a3,hmp⟩:=ZdI hs
        rw [hrow] at a1
        simp only [Option.some.injEq] at a1;subst a1
        split at h
        ·simp only [Option.some.injEq] at h;subst h
         obtain ⟨us,hf,hc⟩:=key (fun b hb=>hA b (by simp [hb]))
         have hver:row.ver=ver:=by simpa using hA (row.ver==ver) (by simp)
         obtain ⟨a,cap,rfl,b1,b2,b3⟩:=a3 hver
         refine ⟨rfl,rfl,Zev hS hs ?_⟩
         refine Zeo hu hX hi hc (by simpa using b1) ?_
         have:us=[]:=List.eq_nil_of_length_eq_zero (by rw [hf.len];simp)
         subst this
         simp [storeCells]
        ·rename_i y ys'
         simp only [Option.some.injEq] at h;subst h
         obtain ⟨us,hf,hc⟩:=key (fun b hb=>hA b (by simp [hb]))
         have hver:row.ver=ver:=by simpa using hA (row.ver==ver) (by simp)
         have hsz:((len+(y::ys').length)*i.bytes)<=1099511627776:=alld hA (by simp)
         have hcont:=Zb4 (P:=P) hS hs (x:=.ref r' ver lo len) (size:=i.size) (ys:=(row.elems.drop lo).take len) (cl:=row.clean) (q:=[row.ver==ver]) (by simp [ZdA,hrow,hes]) (by simp [hver])
         obtain ⟨olds,hfo,hco⟩:=hcont
         obtain ⟨a,cap,rfl,b1,b2,b3⟩:=a3 hver
         have hlen:((row.elems.drop lo).take len).length=len:=by simp;omega
         rw [hlen] at hco
         subst hver
         refine ⟨rfl,rfl,?_⟩
         simp only [Option.getD_some]
         by_cases hroom:len+(y::ys').length<=cap
         ·rcases b3 with ⟨rfl,b4⟩ | b4
          ·rw [<- hes] at hf
           obtain ⟨w',h1,h2⟩:=ZeQ (P:=P) (lo:=lo) (n:=len) (cap:=cap) hS hrow a2 hmp hf b2 b4 hroom (fun e=>by rw [hfz] at e;cases e)
           rw [hes] at h1 h2
           rw [Zeo hu hX hi hc hroom h1,hes]
           rw [hfz] at h2
           exact h2
          ·have:=hroom;rw [b4] at this;simp at this
         ·have hrun:=Ze7 (P:=P) (ty:=ty) hu hX hi hz hc hco (by omega) c2 hsz
          have:=Zen (e:=e) hS hmp hz c3 (hfo.append hf) hrow a2 (len+(y::ys').length) cap (by simp [hlen])
          rw [hfz] at this
          rw [hrun,hes]
          simpa using this
       ·simp at h
      ·simp at h
     ·simp at h
    ·simp at h
   ·simp at h
  ·simp at h
 ·simp at h
end
end Go.Av

namespace Go.Av
open Go.RowKit
theorem Zca {S:St} (hS:HeapOk S) {w':World} (hb:Below S.base S.w w') (hold:∀ b,b<S.w.heap.size->w'.heap[b]? = S.w.heap[b]?) :
  HeapOk ⟨S.base,S.acc,S.L,S.β,w'⟩/\Ext S ⟨S.base,S.acc,S.L,S.β,w'⟩:=by
 have hex:Ext S ⟨S.base,S.acc,S.L,S.β,w'⟩:=
  ⟨rfl,rfl,fun b off hi hlt=>⟨hi,Zaw (hold b hlt)⟩,fun r row info h1 h2=>⟨row,info,h1,h2,Nat.le_refl _,fun _=>⟨rfl,fun _=>rfl⟩,rfl,fun _=>rfl⟩,hb,fun r info h => .inl ⟨r,info,h,rfl⟩,fun b _ hlt _=>hold b hlt⟩
 refine ⟨⟨Nat.le_trans hS.base hb.size,hS.len,fun r info h => ?_,hS.inj,fun r row info h1 h2 hm=>(hS.maps r row info h1 h2 hm).mono hex (hold _ (hS.blk r info h2).2),fun r row info h1 h2 hm => ?_,hS.elems,fun r row info i x k c cv h1 h2 hx hk hcv => ?_,fun r row info i x k c cv h1 h2 hc hx hk hcv => ?_,hS.acq,fun b off h=>hS.anew b off (Nat.le_trans hb.size h)⟩,hex⟩
 ·exact ⟨(hS.blk r info h).1,Nat.lt_of_lt_of_le (hS.blk r info h).2 hb.size⟩
 ·obtain ⟨a1,a2,cs,T,a3,a4⟩:=hS.cells r row info h1 h2 hm
  exact ⟨a1,a2,cs,T,(hold _ (hS.blk r info h2).2).trans a3,a4⟩
 ·exact (hS.rel r row info i x k c cv h1 h2 hx hk ((Zaw (hold _ (hS.blk r info h2).2)).symm.trans hcv)).mono hex
 ·exact (hS.clean r row info i x k c cv h1 h2 hc hx hk ((Zaw (hold _ (hS.blk r info h2).2)).symm.trans hcv)).mono hex
section
variable {P:Unit->Program}
theorem ZfB {S:St} (hS:HeapOk S) {r:Nat} {row:Row} {info:BI} {lo:Nat} {zs:List AV} {us:List Value} {cl:Bool} (hr:S.L[r]? = some row) (hi:S.β[r]? = some info) (hmp:info.mp=false) (hf:Flat S row.es zs us cl)
  (hle:lo+zs.length<=row.elems.length) (hfz:row.frozen=false) (hcl:row.clean=true->cl=true) :
  ∃ w',(storeCells (⟨info.blk,info.off+lo*info.es,none⟩:Addr) us).run (P ()) S.w = .ok () w' /\
   HeapOk ⟨S.base,S.acc,S.L.set r { row with elems:=row.elems.take lo++(zs++row.elems.drop (lo+zs.length)) },S.β,w'⟩ /\
   Ext S ⟨S.base,S.acc,S.L.set r { row with elems:=row.elems.take lo++(zs++row.elems.drop (lo+zs.length)) },S.β,w'⟩:=by
 obtain ⟨a1,a2,cs,T0,a3,a4⟩:=hS.cells r row info hr hi hmp
 have hlen:(row.elems.take lo).length=lo:=by simp;omega
 let o:=info.off+lo*info.es
 have hend:o+us.length<=cs.size:=by
  rw [hf.len]
  have:(lo+zs.length)*info.es<=info.cap*info.es:=Nat.mul_le_mul_right _ (by omega)
  rw [Nat.add_mul] at this
  show info.off+lo*info.es+_<=_
  rw [<- a1];omega
 let cs':Array Value:=(cs.toList.take o++us++cs.toList.drop (o+us.length)).toArray
 have hst:=run_storeCells_at (P ()) info.blk o T0 us 0 cs S.w a3 (by simpa using hend) hf.one
 simp only [Nat.add_zero] at hst
 have hnew:=setRow_heap S.w info.blk cs cs' T0 (0,0) a3
 have hcs':∀ p,cs'[p]? = if p<o then cs[p]? else if p<o+us.length then us[p-o]? else cs[p]?:=by
  intro p
  have e:cs'[p]? = (cs.toList.take o++us++cs.toList.drop (o+us.length))[p]?:=by simp [cs']
  rw [e]
  by_cases c1:p<o
  ·rw [if_pos c1,List.append_assoc,List.getElem?_append_left (by simp;omega),List.getElem?_take,if_pos c1];simp
  ·rw [if_neg c1,List.append_assoc,List.getElem?_append_right (by simp;omega)]
   have e1:(cs.toList.take o).length=o:=by simp;omega
   rw [e1]
   by_cases c2:p<o+us.length
   ·rw [if_pos c2,List.getElem?_append_left (by omega)]
   ·rw [if_neg c2,List.getElem?_append_right (by omega),List.getElem?_drop]
    have:o+us.length+(p-o-us.length)=p:=by omega
    rw [this];simp
 have hcell:∀ (q:Nat) x (k:Nat) c cv,(row.elems.take lo++(zs++row.elems.drop (lo+zs.length)))[q]? = some x->x.cells[k]? = some c->cs'[info.off+q*info.es+k]? = some cv ->
   (row.elems[q]? = some x/\cs[info.off+q*info.es+k]? = some cv)\/(zs[q-lo]? = some x/\us[(q-lo)*row.es+k]? = some cv):=by
  intro q x k c cv hx hk hcv
  rw [hcs'] at hcv
  by_cases hq:q<lo
  ·left
   rw [List.getElem?_append_left (by omega),List.getElem?_take,if_pos hq] at hx
   have hk2:k<info.es:=by rw [a1,<- (hS.elems r row hr _ x hx).1];exact Zah hk
   have:=ZbY (k:=k) hq (Nat.le_refl lo) hk2
   rw [if_pos (by show _<info.off+lo*info.es;omega)] at hcv
   exact ⟨hx,hcv⟩
  ·rw [List.getElem?_append_right (by omega),hlen] at hx
   have e:q*info.es=lo*info.es+(q-lo)*info.es:=by rw [<- Nat.add_mul];congr 1;omega
   by_cases hq2:q-lo<zs.length
   ·right
    rw [List.getElem?_append_left hq2] at hx
    have h1:=hf.cell hx hk
    rw [<- a1] at h1
    rw [if_neg (by show ¬ _<info.off+lo*info.es;omega),if_pos (by show _<info.off+lo*info.es+_;omega)] at hcv
    have e2:info.off+q*info.es+k-o=(q-lo)*row.es+k:=by show _-(info.off+lo*info.es)=_;rw [<- a1];omega
    rw [e2] at hcv
    exact ⟨hx,hcv⟩
   ·left
    rw [List.getElem?_append_right (by omega),List.getElem?_drop] at hx
    have e3:lo+zs.length+(q-lo-zs.length)=q:=by omega
    rw [e3] at hx
    have h2:zs.length*info.es<=(q-lo)*info.es:=Nat.mul_le_mul_right _ (by omega)
    have h3:=hf.len
    rw [<- a1] at h3
    rw [if_neg (by show ¬ _<info.off+lo*info.es;omega),if_neg (by show ¬ _<info.off+lo*info.es+_;omega)] at hcv
    exact ⟨hx,hcv⟩
 obtain ⟨g1,g2⟩:=set_row (row':={ row with elems:=row.elems.take lo++(zs++row.elems.drop (lo+zs.length)) }) (info':=info) (T:=T0) (cs:=cs') (w':=S.w.setRow info.blk cs') hS hr hi hmp hmp
  (Nat.le_refl _) (fun _=>⟨rfl,by simp;omega⟩) a1 (.inl rfl) (fun b _ hb=>setRow_other S.w info.blk b cs' hb) hnew
  (by
   have:cs'.size=cs.size:=by simp only [cs'];simp;omega
   rw [this];exact a4)
  (by simp;omega) (fun e=>by rw [hfz] at e;cases e)
  (by
   intro q x hx
   by_cases hq:q<lo
   ·rw [List.getElem?_append_left (by omega),List.getElem?_take,if_pos hq] at hx
    exact hS.elems r row hr _ x hx
   ·rw [List.getElem?_append_right (by omega),hlen] at hx
    by_cases hq2:q-lo<zs.length
    ·rw [List.getElem?_append_left hq2] at hx;exact hf.ok _ x hx
    ·rw [List.getElem?_append_right (by omega),List.getElem?_drop] at hx
     exact hS.elems r row hr _ x hx)
  (Zdk (hS.blk r info hi).1)
  (fun q x k c cv hx hk hcv=>by
   rcases hcell q x k c cv hx hk hcv with ⟨b1,b2⟩ | ⟨b1,b2⟩
   ·exact hS.rel r row info _ x k c cv hr hi b1 hk (by rw [Zbj a3];exact b2)
   ·exact (hf.rel _ x k c cv b1 hk b2).1)
  (fun hc q x k c cv hx hk hcv=>by
   rcases hcell q x k c cv hx hk hcv with ⟨b1,b2⟩ | ⟨b1,b2⟩
   ·exact hS.clean r row info _ x k c cv hr hi hc b1 hk (by rw [Zbj a3];exact b2)
   ·exact (hf.rel _ x k c cv b1 hk b2).2 (hcl hc))
 rw [set_self hi] at g1 g2
 exact ⟨_,hst,g1,g2⟩
theorem Ze8 {S:St} {i:TypeInfo} {z0:Value} {n:Nat} (h1:(ofC z0).cells.length=i.size) (h2:z0.cells.size=i.size) (h3:(ofC z0).cells.all AV.plain=true) (h4:cleanL (ofC z0).cells=true) :
  Flat S i.size (List.replicate n (ofC z0)) (Builtin.zeroCells z0.cells n).toList true:=by
 have hzc:=Zbp (Zfv S z0) (Za8 h3)
 have hrep:∀ (q:Nat) x,(List.replicate n (ofC z0))[q]? = some x->x=ofC z0/\q<n:=by
  intro q x hx
  have hlt:q<n:=by have:=Zah hx;rwa [List.length_replicate] at this
  rw [List.getElem?_replicate,if_pos hlt] at hx
  simp only [Option.some.injEq] at hx;exact ⟨hx.symm,hlt⟩
 have hget:∀ p,p<n*i.size->(Builtin.zeroCells z0.cells n).toList[p]? = z0.cells.toList[p % i.size]?:=by
  intro p hp
  have h0:0<i.size:=by
   rcases Nat.eq_zero_or_pos i.size with e | e
   ·rw [e] at hp;simp at hp
   ·exact e
  have hlt:p % i.size<z0.cells.size:=by rw [h2];exact Nat.mod_lt _ h0
  have hp':p<n*z0.cells.size:=by rw [h2];exact hp
  rw [Array.getElem?_toList]
  simp only [Builtin.zeroCells,Array.getElem?_map,Array.getElem?_range,h2,hp,if_true,Option.map_some]
  rw [getElem!_pos z0.cells (p % i.size) hlt]
  simp [hlt]
 refine ⟨by simp [size_zeroCells,h2],fun q x hx => ?_,fun q x k c cv hx hk hcv => ?_,fun u hu => ?_⟩
 ·obtain ⟨rfl,_⟩:=hrep q x hx;exact ⟨h1,h3⟩
 ·obtain ⟨rfl,hq⟩:=hrep q x hx
  have hk2:k<i.size:=by rw [<- h1];exact Zah hk
  rw [hget _ (ZbY hq (Nat.le_refl _) hk2),Nat.add_comm,Nat.add_mul_mod_self_right,Nat.mod_eq_of_lt hk2] at hcv
  have:=hzc.2 k c cv hk hcv
  exact ⟨this,fun _=>ZaJ this (Zbb h4 k c hk)⟩
 ·obtain ⟨p,hp⟩:=List.mem_iff_getElem?.1 hu
  have hlt:p<n*i.size:=by
   have:=Zah hp
   simpa [size_zeroCells,h2] using this
  rw [hget p hlt] at hp
  have hk:p % i.size<(ofC z0).cells.length:=by
   rw [h1]
   refine Nat.mod_lt _ ?_
   rcases Nat.eq_zero_or_pos i.size with e | e
   ·rw [e] at hlt;simp at hlt
   ·exact e
  exact Zee (hzc.2 _ _ u (List.getElem?_eq_getElem hk) hp) (List.all_eq_true.1 h3 _ (List.getElem_mem hk))
theorem clear_made {S:St} (hS:HeapOk S) {T ty:TypeId} {ts:Array TypeId} {d:AV} {dv:Value} {r:SR} (ht:ts[0]? = some T) (hd:Rel S d dv) (h:clearA P S.L T d=some r) (hA:∀ b ∈ r.asm,b=true) :
  r.eqs=[]/\r.calls=[]/\Made S r.v (r.L'.getD S.L) ((Builtin.clear_ ts ty #[dv]).run (P ()) S.w):=by
 unfold clearA at h
 split at h
 ·rename_i e hu
  split at h
  ·rename_i i hi
   split at h
   ·rename_i z0 r' ver lo len hz hsp
    split at h
    ·rename_i hcond
     obtain ⟨c1,c2,c3,c4⟩:=hcond
     split at h
     ·rename_i L' hov
      simp only [Option.some.injEq] at h;subst h
      have hvk:Zb1 S.L r' ver=true:=hA _ (by simp)
      unfold overwrite at hov
      split at hov
      ·rename_i row hrow
       split at hov
       ·rename_i hc2
        obtain ⟨hfz,hes,hcl⟩:=hc2
        simp only [Option.some.injEq] at hov;subst hov
        have hver:row.ver=ver:=by simpa [Zb1,hrow] using hvk
        have hval:∃ info a cap,(S.β[r']? = some info/\info.mp=false)/\dv = .slice (some a) len cap/\lo+len<=row.elems.length/\(a=⟨info.blk,info.off+lo*info.es,none⟩\/len=0):=by
         unfold spanA at hsp
         split at hsp
         ·rename_i q v
          split at hsp
          ·rename_i row0 hrow0
           simp only [Option.some.injEq,Prod.mk.injEq] at hsp
           obtain ⟨rfl,rfl,rfl,rfl⟩:=hsp
           obtain ⟨row1,info,a1,a2,a3,hmp⟩:=Zc3 hd
           rw [hrow] at a1 hrow0
           simp only [Option.some.injEq] at a1 hrow0;subst a1;subst hrow0
           exact ⟨info,_,_,⟨a2,hmp⟩,a3 hver,by omega,.inl (by simp)⟩
          ·simp at hsp
         ·rename_i q v lo' len'
          simp only [Option.some.injEq,Prod.mk.injEq] at hsp
          obtain ⟨rfl,rfl,rfl,rfl⟩:=hsp
          obtain ⟨row1,info,a1,a2,a3,hmp⟩:=ZdI hd
          rw [hrow] at a1
          simp only [Option.some.injEq] at a1;subst a1
          obtain ⟨a,cap,rfl,b1,b2,b3⟩:=a3 hver
          rcases b3 with ⟨rfl,_⟩ | b3
          ·exact ⟨info,_,_,⟨a2,hmp⟩,rfl,b2,.inl rfl⟩
          ·exact ⟨info,_,_,⟨a2,hmp⟩,rfl,b2,.inr (Nat.le_zero.1 (b3 ▸ b1))⟩
         ·simp at hsp
        obtain ⟨info,a,cap,⟨b1,hmp⟩,rfl,b3,b4⟩:=hval
        have hzf:=Ze8 (S:=S) (n:=len) c1 c2 c3 c4
        rw [<- hes] at hzf
        obtain ⟨w',g1,g2,g3⟩:=ZfB (P:=P) (lo:=lo) hS hrow b1 hmp hzf (by simpa using b3) hfz (fun _=>rfl)
        refine ⟨rfl,rfl,_,w',.tuple #[],g2,g3,.tup [] [] rfl (by simp),?_⟩
        by_cases hl:len=0
        ·subst hl
         have:w'=S.w:=by
          simp [Builtin.zeroCells,storeCells] at g1
          exact g1.symm
         subst this
         simp [Builtin.clear_,ht,run_underlying hu]
        ·rcases b4 with rfl | b4
         ·obtain ⟨n,rfl⟩:∃ n,len=n+1:=⟨len-1,by omega⟩
          simp [Builtin.clear_,ht,run_underlying hu,zeroValue,ZcD hi,hz,g1]
         ·exact absurd b4 hl
       ·simp at hov
      ·simp at hov
     ·simp at h
    ·simp at h
   ·simp at h
  ·simp at h
 ·simp at h
mutual
theorem vers_nil (L:Heap):∀ (a:AV),rowsA a=[]->versA L a=[]
 | .agg cs,h=>by simp only [versA];exact versL_nil L cs (by simpa [rowsA] using h)
 | .tup cs,h=>by simp only [versA];exact versL_nil L cs (by simpa [rowsA] using h)
 | .func _ a b,h=>by
  have h':rowsL a=[]/\rowsL b=[]:=by simpa [rowsA] using h
  simp only [versA,versL_nil L a h'.1,versL_nil L b h'.2,List.append_nil]
 | .any,_=>rfl
 | .bool _,_=>rfl
 | .int _ _,_=>rfl
 | .str _,_=>rfl
 | .flt _,_=>rfl
 | .nilp,_=>rfl
 | .nilf,_=>rfl
 | .nilm,_=>rfl
 | .mapr _,h=>by simp [rowsA] at h
 | .vnil,_=>rfl
 | .vec _ _ _,_=>rfl
 | .eptr _ _ _ _,_=>rfl
 | .ptr _ _ _ _,h=>by simp [rowsA] at h
 | .row _ _,h=>by simp [rowsA] at h
 | .ref _ _ _ _,h=>by simp [rowsA] at h
theorem versL_nil (L:Heap):∀ (l:List AV),rowsL l=[]->versL L l=[]
 | [],_=>rfl
 | c::r,h=>by
  have h':rowsA c=[]/\rowsL r=[]:=by simpa [rowsL] using h
  simp only [versL,vers_nil L c h'.1,versL_nil L r h'.2,List.append_nil]
end
theorem Zed {L:Heap}:∀ {xs ys:List AV},pureL L xs=some ys->xs.length=ys.length /\ ∀ (i:Nat) y,ys[i]? = some y -> ∃ x,xs[i]? = some x/\pureA L x=some y
 | [],ys,h=>by simp only [pureL,Option.some.injEq] at h;subst h;exact ⟨rfl,by simp⟩
 | x::xs,ys,h=>by
  simp only [pureL] at h
  split at h
  ·rename_i d ds hd hds
   simp only [Option.some.injEq] at h;subst h
   obtain ⟨h1,h2⟩:=Zed hds
   refine ⟨by simp [h1],fun i y hy => ?_⟩
   cases i with
   | zero=>simp at hy;subst hy;exact ⟨x,rfl,hd⟩
   | succ i=>exact h2 i y (by simpa using hy)
  ·simp at h
theorem ZgA {L:Heap} {x y:AV} (h:pureA L x=some y):pureL L x.cells=some y.cells:=by
 cases x with
 | agg cs =>
  simp only [pureA] at h
  split at h
  ·rename_i ds hd
   simp only [Option.some.injEq] at h;subst h
   exact hd
  ·simp at h
 | tup cs =>
  have h0:=h
  simp only [pureA] at h
  split at h
  ·simp only [Option.some.injEq] at h;subst h
   simp only [AV.cells,pureL,h0]
  ·simp at h
 | func fn a b =>
  have h0:=h
  simp only [pureA] at h
  split at h
  ·simp only [Option.some.injEq] at h;subst h
   simp only [AV.cells,pureL,h0]
  ·simp at h
 | any=>simp [pureA] at h
 | mapr r=>simp [pureA] at h
 | ptr r v i j =>
  have h0:=h
  simp only [pureA] at h
  split at h
  ·split at h
   ·split at h
    ·simp only [Option.some.injEq] at h;subst h
     simp only [AV.cells,pureL,h0]
    ·simp at h
   ·simp at h
  ·simp at h
 | row r v =>
  have h0:=h
  simp only [pureA] at h
  split at h
  ·split at h
   ·simp only [Option.some.injEq] at h;subst h
    simp only [AV.cells,pureL,h0]
   ·simp at h
  ·simp at h
 | ref r v lo len =>
  have h0:=h
  simp only [pureA] at h
  split at h
  ·split at h
   ·simp only [Option.some.injEq] at h;subst h
    simp only [AV.cells,pureL,h0]
   ·simp at h
  ·simp at h
 | _=>simp only [pureA,Option.some.injEq] at h;subst h;rfl
theorem pure_plain {L:Heap} {x y:AV} (h:pureA L x=some y) (hp:x.plain=true):y.plain=true:=by
 cases x <;> simp only [pureA] at h <;> (first | (simp [AV.plain] at hp;done) | skip)
 all_goals (repeat' (split at h)) <;> (first | (simp at h;done) | (simp only [Option.some.injEq] at h;subst h;rfl))
theorem vers_mem {L:Heap}:∀ {xs:List AV} {i:Nat} {x:AV},xs[i]? = some x -> ∀ b ∈ versA L x,b ∈ versL L xs
 | [],i,x,h=>by simp at h
 | y::xs,0,x,h=>by
  simp only [List.getElem?_cons_zero,Option.some.injEq] at h;subst h
  intro b hb;simp [versL,hb]
 | y::xs,i+1,x,h=>by
  simp only [List.getElem?_cons_succ] at h
  intro b hb
  have:=vers_mem h b hb
  simp [versL,this]
theorem rows_mem:∀ {xs:List AV} {i:Nat} {x:AV},xs[i]? = some x -> ∀ b ∈ rowsA x,b ∈ rowsL xs
 | [],i,x,h=>by simp at h
 | y::xs,0,x,h=>by
  simp only [List.getElem?_cons_zero,Option.some.injEq] at h;subst h
  intro b hb;simp [rowsL,hb]
 | y::xs,i+1,x,h=>by
  simp only [List.getElem?_cons_succ] at h
  intro b hb
  have:=rows_mem h b hb
  simp [rowsL,this]
theorem vers_cells (L:Heap) (x:AV):versL L x.cells=versA L x:=by
 cases x <;> simp [AV.cells,versL,versA]
theorem rows_cells (x:AV):rowsL x.cells=rowsA x:=by
 cases x <;> simp [AV.cells,rowsL,rowsA]
theorem setAll_sound {S:St} {size:Nat}:∀ (parts:List (Nat × AV)) (vparts:List (Nat × Value)) (xs:List AV) (vcells:Array Value) (r:List AV),
  parts.length=vparts.length->(∀ (i:Nat) p q,parts[i]? = some p->vparts[i]? = some q->p.1=q.1/\Rel S p.2 q.2)->Flat S size xs vcells.toList false ->
  setAll size xs parts=some r -> ∃ rv,Instr.fill (fun i=>some (i*size,size)) vcells vparts=some rv/\Flat S size r rv.toList false/\r.length=xs.length:=by
 intro parts
 induction parts with
 | nil =>
  intro vparts xs vcells r hl _ hc h
  have:vparts=[]:=List.eq_nil_of_length_eq_zero (by simpa using hl.symm)
  subst this
  simp only [setAll,Option.some.injEq] at h;subst h
  exact ⟨vcells,rfl,hc,rfl⟩
 | cons p parts ih =>
  intro vparts xs vcells r hl hp hc h
  cases vparts with
  | nil=>simp at hl
  | cons q vparts =>
   obtain ⟨i,v⟩:=p
   obtain ⟨i',u⟩:=q
   obtain ⟨e1,e2⟩:=hp 0 _ _ rfl rfl
   simp only at e1 e2
   subst e1
   simp only [setAll] at h
   split at h
   ·rename_i hcond
    obtain ⟨c1,c2,c3⟩:=hcond
    have hcl:=Zbp e2 (Za8 c3)
    have hsz:u.cells.toList.length=size:=by rw [<- hcl.1];exact c1
    have hlen:vcells.toList.length=xs.length*size:=hc.len
    have hfit:i*size+size<=xs.length*size:=by
     have:=Nat.mul_le_mul_right size (show i+1<=xs.length by omega)
     rw [Nat.add_mul] at this;omega
    have hvs:vcells.size=xs.length*size:=by simpa using hlen
    have hfold:(u.cells.zipIdx.foldl (fun cs (x:Value × Nat)=>cs.setIfInBounds (i*size+x.2) x.1) vcells).toList=vcells.toList.take (i*size)++u.cells.toList++vcells.toList.drop (i*size+size):=by
     rw [<- Array.foldl_toList,Array.toList_zipIdx]
     have:=ZfP (i*size) u.cells.toList 0 vcells (by rw [hsz];omega)
     rw [hsz] at this
     simpa using this
    have hnewflat:Flat S size (xs.set i v) (u.cells.zipIdx.foldl (fun cs (x:Value × Nat)=>cs.setIfInBounds (i*size+x.2) x.1) vcells).toList false:=by
     rw [hfold]
     have htl:(vcells.toList.take (i*size)).length=i*size:=by rw [List.length_take,hlen];omega
     refine ⟨by simp [hsz];omega,fun q x hx => ?_,fun q x k c cv hx hk hcv => ?_,fun w hw => ?_⟩
     ·rw [List.getElem?_set] at hx
      by_cases e:i=q
      ·subst e;simp [c2] at hx;subst hx;exact ⟨c1,c3⟩
      ·rw [if_neg e] at hx;exact hc.ok q x hx
     ·refine ⟨?_,by simp⟩
      rw [List.getElem?_set] at hx
      by_cases e:i=q
      ·subst e;simp [c2] at hx;subst hx
       have hk2:k<size:=by rw [<- c1];exact Zah hk
       rw [List.append_assoc,List.getElem?_append_right (by omega),htl,List.getElem?_append_left (by omega)] at hcv
       have:i*size+k-i*size=k:=by omega
       rw [this] at hcv
       exact hcl.2 k c cv hk hcv
      ·rw [if_neg e] at hx
       have hk2:k<size:=by rw [<- (hc.ok q x hx).1];exact Zah hk
       refine (hc.rel q x k c cv hx hk ?_).1
       rcases Nat.lt_or_gt_of_ne (fun e'=>e e'.symm:q ≠ i) with c4 | c4
       ·have:=ZbY (k:=k) c4 (Nat.le_refl i) hk2
        rw [List.append_assoc,List.getElem?_append_left (by omega),List.getElem?_take,if_pos this] at hcv
        exact hcv
       ·have:=Nat.mul_le_mul_right size (show i+1<=q by omega)
        rw [Nat.add_mul] at this
        rw [List.append_assoc,List.getElem?_append_right (by omega),htl,List.getElem?_append_right (by omega),hsz,List.getElem?_drop] at hcv
        have e3:i*size+size+(q*size+k-i*size-size)=q*size+k:=by omega
        rw [e3] at hcv
        exact hcv
     ·rcases List.mem_append.1 hw with e | e
      ·rcases List.mem_append.1 e with e | e
       ·exact hc.one w (List.mem_of_mem_take e)
       ·obtain ⟨k,hk⟩:=List.mem_iff_getElem?.1 e
        have hk2:k<v.cells.length:=by rw [hcl.1];exact Zah hk
        exact Zee (hcl.2 k _ w (List.getElem?_eq_getElem hk2) hk) (List.all_eq_true.1 c3 _ (List.getElem_mem hk2))
      ·exact hc.one w (List.mem_of_mem_drop e)
    obtain ⟨rv,h1,h2,h3⟩:=ih vparts (xs.set i v) _ r (by simpa using hl) (fun k p q hp' hq'=>hp (k+1) p q (by simpa using hp') (by simpa using hq')) hnewflat h
    refine ⟨rv,?_,h2,by simpa using h3⟩
    have hus:u.cells.size=size:=by simpa using hsz
    simp only [Instr.fill,hus]
    rw [if_neg (by simp;omega)]
    exact h1
   ·simp at h
end
end Go.Av

namespace Go.Av
open Go.RowKit
section
variable {P:Unit->Program}
theorem build_run {T e:TypeId} {i:TypeInfo} {z0:Value} {len:Nat} {w:World} {vparts:Array (Nat × Value)} {rv:Array Value} (hu:(P ()).underlying T=some (.slice e)) (hi:(P ()).info? e=some i) (hz:i.zero=some z0) (hzs:z0.cells.size=i.size)
  (hlen:len*i.size<=16777216) (h0:0<len*i.size) (hf:Instr.fill (fun k=>some (k*i.size,i.size)) (Builtin.zeroCells z0.cells len) vparts.toList=some rv) :
  (Instr.buildSlice T len vparts).run (P ()) w = .ok (.slice (some ⟨w.heap.size,0,none⟩) len len) (w.alloc (.cells rv e)):=by
 have h1:¬ (len*i.size>2 ^ 24):=by omega
 have h2:¬ (len*i.size=0):=by omega
 have h3:(Array.range (len*i.size)).map (fun x=>z0.cells[x % z0.cells.size]!)=Builtin.zeroCells z0.cells len:=by simp [Builtin.zeroCells,hzs]
 simp only [Instr.buildSlice,Sem.run_bind,run_underlying hu,Result.andThen_ok,ZaA hi,h1,if_false,h2,zeroValue,ZcD hi,hz,Sem.run_pure,h3,hf,newRow,run_newObj]
 rfl
theorem ZfZ {S:St} (hS:HeapOk S) {keep:Bool} {T:TypeId} {len:Nat} {parts:Array (Nat × Operand)} {r:SR} {ρ:Operand->AV} {ρc:Operand->Value} (hρ:∀ x,Rel S (ρ x) (ρc x))
  (h:Zbd P keep S.L T len (parts.toList.map fun (i,x)=>(i,ρ x))=some r) (hA:∀ b ∈ r.asm,b=true) :
  r.eqs=[]/\r.calls=[]/\Made S r.v (r.L'.getD S.L) ((Instr.buildSlice T len (parts.map fun (i,x)=>(i,ρc x))).run (P ()) S.w):=by
 obtain ⟨hl,hp⟩:=parts_map hρ parts.toList
 have hpt:(parts.map fun (i,x)=>(i,ρc x)).toList=parts.toList.map fun (i,x)=>(i,ρc x):=by simp
 unfold Zbd at h
 split at h
 ·rename_i e hu
  split at h
  ·rename_i i hi
   split at h
   ·rename_i hlen0
    subst hlen0
    split at h
    ·rename_i hnil
     simp only [Option.some.injEq] at h;subst h
     have hpn:(parts.map fun (i,x)=>(i,ρc x)).toList=[]:=by
      rw [hpt]
      exact List.eq_nil_of_length_eq_zero (by rw [<- hl,hnil];rfl)
     obtain ⟨g1,g2⟩:=Zca hS (w':=S.w.alloc (.cells #[] e)) (ZbK hS _) (fun b hb=>by show (S.w.heap.push _)[b]? = _;rw [Zba hb])
     refine ⟨rfl,rfl,S.β,_,.slice (some ⟨S.w.heap.size,0,none⟩) 0 0,g1,g2,.data _ _ (.vecE true i.size _ 0 fun _=>rfl),?_⟩
     simp only [Instr.buildSlice,Sem.run_bind,run_underlying hu,Result.andThen_ok,ZaA hi,hpn]
     simp [Instr.fill,newRow,Array.range_zero']
    ·simp at h
   ·rename_i hlen0
    split at h
    ·rename_i z0 hz
     split at h
     ·rename_i hcond
      obtain ⟨c1,c2,c3,c4,c5,c6⟩:=hcond
      have hzf:=(Ze8 (S:=S) (n:=len) c2 c3 c5 c6).weaken (cl':=false) (by simp)
      have h0:0<len*i.size:=Nat.mul_pos (by omega) c4
      split at h
      ·rename_i xs hxs
       obtain ⟨rv,f1,f2,f3⟩:=setAll_sound (S:=S) _ _ _ (Builtin.zeroCells z0.cells len) _ hl hp hzf hxs
       rw [List.length_replicate] at f3
       have hrun:=build_run (P:=P) (w:=S.w) (vparts:=parts.map fun (i,x)=>(i,ρc x)) hu hi hz c3 c1 h0 (by rw [hpt];exact f1)
       have hrvs:rv.size=len*i.size:=by have:=f2.len;simpa [f3] using this
       cases keep with
       | true =>
        simp only [cond_true,Option.some.injEq] at h;subst h
        obtain ⟨g1,g2⟩:=new_row (S:=S) (elems:=xs) (es:=i.size) (cap:=len) (cl:=cleanL xs) (cs:=rv) (T:=e) (w':=S.w.alloc (.cells rv e)) hS rfl (ZbK hS _) f2.ok (by omega) (by omega)
         (fun q x k c cv hx hk hcv=>(f2.rel q x k c cv hx hk (by simpa using hcv)).1)
         (fun hc q x k c cv hx hk hcv=>ZaJ (f2.rel q x k c cv hx hk (by simpa using hcv)).1 (ZdR (Zbb hc q x hx) k c hk))
        refine ⟨rfl,rfl,_,_,_,g1,g2,?_,hrun⟩
        refine .row S.L.length 0 ⟨xs,i.size,0,false,cleanL xs⟩ ⟨S.w.heap.size,0,i.size,len,false⟩ _ ⟨⟨_,_,_,rfl⟩,rfl⟩ (by simp) ?_ (Nat.le_refl _) fun _=>by simp [f3]
        show (S.β++_)[S.L.length]? = _
        rw [hS.len];simp
       | false =>
        simp only [cond_false] at h
        split at h
        ·rename_i ys hys
         have fin:∀ (L':Heap),HeapOk ⟨S.base,S.acc,L',S.β,S.w⟩->Ext S ⟨S.base,S.acc,L',S.β,S.w⟩->ZeJ S ⟨S.base,S.acc,L',S.β,S.w⟩ (rowsL xs)->(∀ b ∈ versL S.L xs,b=true) ->
           Made S (.vec true i.size ys) L' ((Instr.buildSlice T len (parts.map fun (i,x)=>(i,ρc x))).run (P ()) S.w):=by
          intro L' k1 k2 k3 k4
          obtain ⟨g1,g2⟩:=Zca k1 (w':=S.w.alloc (.cells rv e)) (ZbK hS _) (fun b hb=>by show (S.w.heap.push _)[b]? = _;rw [Zba hb])
          have g3:=k2.trans g2
          have hnew:(S.w.alloc (.cells rv e)).heap[S.w.heap.size]? = some (.cells rv e (0,0)):=Zbg
          obtain ⟨l1,l2⟩:=Zed hys
          have hlen':ys.length=len:=by omega
          have hel:∀ (q:Nat) y (k:Nat) c cv,ys[q]? = some y->y.cells[k]? = some c->rv[q*i.size+k]? = some cv->DRel ⟨S.base,S.acc,L',S.β,S.w⟩ c cv:=by
           intro q y k c cv hy hk hcv
           obtain ⟨x,hx,hxy⟩:=l2 q y hy
           have hpc:=ZgA hxy
           have hxl:=(f2.ok q x hx).1
           have hsl:RelL S x.cells ((rv.toList.drop (q*i.size)).take i.size):=by
            refine ⟨?_,fun k' c' v' hc' hv' => ?_⟩
            ·have:=ZbY (k:=i.size-1) (Zah hx) (Nat.le_refl _) (show i.size-1<i.size by omega)
             rw [List.length_take,List.length_drop,f2.len];omega
            ·rw [List.getElem?_take] at hv'
             split at hv'
             ·rw [List.getElem?_drop] at hv'
              exact (f2.rel q x k' c' v' hx hc' hv').1
             ·simp at hv'
           obtain ⟨_,p2⟩:=pure_relL (S':=⟨S.base,S.acc,L',S.β,S.w⟩) hS rfl (fun b off him hlt=>(k2.imm b off him hlt).1) x.cells hsl hpc
            (by rw [vers_cells];exact fun b hb=>k4 b (vers_mem hx b hb)) (by rw [rows_cells];exact k3.sub fun r hr=>rows_mem hx r hr)
           refine p2 k c cv hk ?_
           have hk2:k<i.size:=by
            have:=Zah hk
            rw [<- (Zed hpc).1,hxl] at this;exact this
           rw [List.getElem?_take,if_pos hk2,List.getElem?_drop]
           simpa using hcv
          have hok:Za5 i.size ys:=by
           intro q y hy
           obtain ⟨x,hx,hxy⟩:=l2 q y hy
           obtain ⟨o1,o2⟩:=f2.ok q x hx
           have hpc:=ZgA hxy
           obtain ⟨m1,m2⟩:=Zed hpc
           refine ⟨by omega,List.all_eq_true.2 fun c hc => ?_⟩
           obtain ⟨k,hk⟩:=List.mem_iff_getElem?.1 hc
           obtain ⟨c0,hc0,hcc⟩:=m2 k c hk
           exact pure_plain hcc (List.all_eq_true.1 o2 c0 (List.mem_of_getElem? hc0))
          refine ⟨S.β,_,_,g1,g3,?_,hrun⟩
          have:=DRel.vec (S:=⟨S.base,S.acc,L',S.β,S.w.alloc (.cells rv e)⟩) true i.size ys S.w.heap.size 0 len hok (fun _=>hlen'.symm) (by omega)
           (fun q y k c hy hk=>by
            have hk2:k<i.size:=by rw [<- (hok q y hy).1];exact Zah hk
            have hlt:=ZbY (k:=k) (Zah hy) (Nat.le_of_eq hlen') hk2
            refine ⟨⟨rv[q*i.size+k]'(by omega),?_⟩,⟨hS.anew _ _ (Nat.le_refl _),fun r' info' h1 h2 => ?_⟩⟩
            ·show (S.w.alloc (.cells rv e)).cell? _=_
             rw [Zbj hnew,Nat.zero_add];exact Array.getElem?_eq_getElem _
            ·have:=(hS.blk r' info' h1).2;omega)
           (fun q y k c cv hy hk hcv=>by
            have hcv':(S.w.alloc (.cells rv e)).cell? ⟨S.w.heap.size,0+q*i.size+k,none⟩=some cv:=hcv
            rw [Zbj hnew,Nat.zero_add] at hcv'
            exact (hel q y k c cv hy hk hcv').mono g2)
          rw [hlen'] at this
          exact .data _ _ this
         split at h
         ·rename_i hrs
          simp only [Option.some.injEq] at h;subst h
          refine ⟨rfl,rfl,fin S.L hS (Ext.refl S) (by rw [hrs];intro r hr;simp at hr) (by rw [versL_nil S.L xs hrs];simp)⟩
         ·rename_i rs hrs
          simp only [Option.some.injEq] at h;subst h
          obtain ⟨k1,k2⟩:=Zcd (rowsL xs) hS
          exact ⟨rfl,rfl,fin _ k1 k2 (Zco hS _) hA⟩
        ·simp at h
      ·simp at h
     ·simp at h
    ·simp at h
  ·simp at h
 ·simp at h
end
end Go.Av

namespace Go.Av
open Go.RowKit
theorem new_map {S:St} (hS:HeapOk S) :
  HeapOk ⟨S.base,S.acc,S.L++[⟨[],2,0,false,true⟩],S.β++[⟨S.w.heap.size,0,2,0,true⟩],S.w.alloc (.map #[] 0)⟩ /\
  Ext S ⟨S.base,S.acc,S.L++[⟨[],2,0,false,true⟩],S.β++[⟨S.w.heap.size,0,2,0,true⟩],S.w.alloc (.map #[] 0)⟩:=by
 have hold:∀ b,b<S.w.heap.size->(S.w.alloc (.map #[] 0)).heap[b]? = S.w.heap[b]?:=fun b h=>by
  show (S.w.heap.push _)[b]? = _;rw [Zba h]
 have hnew:(S.w.alloc (.map #[] 0)).heap[S.w.heap.size]? = some (.map #[] 0):=by
  show (S.w.heap.push _)[_]? = _;rw [Zbg]
 have hb:=ZbK hS (.map #[] 0)
 have hβ:∀ (r:Nat) info,(S.β++[(⟨S.w.heap.size,0,2,0,true⟩:BI)])[r]? = some info->(S.β[r]? = some info/\r<S.β.length)\/(r=S.β.length/\info=⟨S.w.heap.size,0,2,0,true⟩):=by
  intro r info h
  by_cases hlt:r<S.β.length
  ·rw [List.getElem?_append_left hlt] at h;exact .inl ⟨h,hlt⟩
  ·rw [List.getElem?_append_right (by omega)] at h
   have:r-S.β.length=0:=by
    have:=Zah h;simp at this;omega
   rw [this] at h
   simp at h
   exact .inr ⟨by omega,h.symm⟩
 have hL:∀ (r:Nat) row,(S.L++[(⟨[],2,0,false,true⟩:Row)])[r]? = some row->(S.L[r]? = some row/\r<S.L.length)\/(r=S.L.length/\row=⟨[],2,0,false,true⟩):=by
  intro r row h
  by_cases hlt:r<S.L.length
  ·rw [List.getElem?_append_left hlt] at h;exact .inl ⟨h,hlt⟩
  ·rw [List.getElem?_append_right (by omega)] at h
   have:r-S.L.length=0:=by
    have:=Zah h;simp at this;omega
   rw [this] at h
   simp at h
   exact .inr ⟨by omega,h.symm⟩
 have hex:Ext S ⟨S.base,S.acc,S.L++[⟨[],2,0,false,true⟩],S.β++[⟨S.w.heap.size,0,2,0,true⟩],S.w.alloc (.map #[] 0)⟩:=by
  refine ⟨rfl,rfl,fun b off hi hlt=>⟨?_,Zaw (hold b hlt)⟩,fun r row info h1 h2=>⟨row,info,?_,?_,Nat.le_refl _,fun _=>⟨rfl,fun _=>rfl⟩,rfl,fun _=>rfl⟩,hb,fun r info h => ?_,fun b _ hlt _=>hold b hlt⟩
  ·obtain ⟨h1,h2⟩:=hi
   refine ⟨h1,fun r info hr' he => ?_⟩
   rcases hβ r info hr' with ⟨h3,h4⟩ | ⟨_,rfl⟩
   ·obtain ⟨row,a1,a2⟩:=h2 r info h3 he
    exact ⟨row,by show (S.L++_)[r]? = _;rw [List.getElem?_append_left (Zah a1)];exact a1,a2⟩
   ·simp at he;omega
  ·show (S.L++_)[r]? = _;rw [List.getElem?_append_left (Zah h1)];exact h1
  ·show (S.β++_)[r]? = _;rw [List.getElem?_append_left (Zah h2)];exact h2
  ·rcases hβ r info h with ⟨h3,_⟩ | ⟨_,rfl⟩
   ·exact .inl ⟨r,info,h3,rfl⟩
   ·exact .inr (Nat.le_refl _)
 refine ⟨⟨Nat.le_trans hS.base hb.size,by simp [hS.len],?_,?_,?_,?_,?_,?_,?_,?_,fun b off h=>hS.anew b off (Nat.le_trans hb.size h)⟩,hex⟩
 ·intro r info h
  rcases hβ r info h with ⟨h3,_⟩ | ⟨_,rfl⟩
  ·obtain ⟨a,b⟩:=hS.blk r info h3
   exact ⟨a,Nat.lt_of_lt_of_le b hb.size⟩
  ·exact ⟨hS.base,by show S.w.heap.size<(S.w.heap.push _).size;simp⟩
 ·intro r r' info info' h h' he
  rcases hβ r info h with ⟨h3,h4⟩ | ⟨e1,rfl⟩
  ·rcases hβ r' info' h' with ⟨h3',_⟩ | ⟨_,rfl⟩
   ·exact hS.inj r r' info info' h3 h3' he
   ·have:=(hS.blk r info h3).2;simp at he;omega
  ·rcases hβ r' info' h' with ⟨h3',_⟩ | ⟨e2,rfl⟩
   ·have:=(hS.blk r' info' h3').2;simp at he;omega
   ·omega
 ·intro r row info h h' hmp
  rcases hβ r info h' with ⟨h3,h4⟩ | ⟨e1,rfl⟩
  ·rcases hL r row h with ⟨g3,_⟩ | ⟨e2,_⟩
   ·exact (hS.maps r row info g3 h3 hmp).mono hex (hold _ (hS.blk r info h3).2)
   ·have:=hS.len;omega
  ·rcases hL r row h with ⟨_,g4⟩ | ⟨_,rfl⟩
   ·have:=hS.len;omega
   ·exact ⟨#[],hnew,rfl,rfl,fun i e x he hx=>by simp at hx⟩
 ·intro r row info h h' hmp
  rcases hβ r info h' with ⟨h3,h4⟩ | ⟨e1,rfl⟩
  ·rcases hL r row h with ⟨g3,_⟩ | ⟨e2,_⟩
   ·obtain ⟨a1,a2,cs',T',a3,a4⟩:=hS.cells r row info g3 h3 hmp
    exact ⟨a1,a2,cs',T',(hold _ (hS.blk r info h3).2).trans a3,a4⟩
   ·have:=hS.len;omega
  ·cases hmp
 ·intro r row h
  rcases hL r row h with ⟨g3,_⟩ | ⟨_,rfl⟩
  ·exact hS.elems r row g3
  ·intro i x hx;simp at hx
 ·intro r row info i x k c cv h h' hx hk hcv
  rcases hβ r info h' with ⟨h3,h4⟩ | ⟨e1,rfl⟩
  ·rcases hL r row h with ⟨g3,_⟩ | ⟨e2,_⟩
   ·refine (hS.rel r row info i x k c cv g3 h3 hx hk ?_).mono hex
    rw [<- Zaw (hold _ (hS.blk r info h3).2)];exact hcv
   ·have:=hS.len;omega
  ·rcases hL r row h with ⟨_,g4⟩ | ⟨_,rfl⟩
   ·have:=hS.len;omega
   ·simp at hx
 ·intro r row info i x k c cv h h' hcl hx hk hcv
  rcases hβ r info h' with ⟨h3,h4⟩ | ⟨e1,rfl⟩
  ·rcases hL r row h with ⟨g3,_⟩ | ⟨e2,_⟩
   ·refine (hS.clean r row info i x k c cv g3 h3 hcl hx hk ?_).mono hex
    rw [<- Zaw (hold _ (hS.blk r info h3).2)];exact hcv
   ·have:=hS.len;omega
  ·rcases hL r row h with ⟨_,g4⟩ | ⟨_,rfl⟩
   ·have:=hS.len;omega
   ·simp at hx
 ·intro r info off h
  rcases hβ r info h with ⟨h3,_⟩ | ⟨_,rfl⟩
  ·exact hS.acq r info off h3
  ·exact hS.anew _ off (Nat.le_refl _)
def ZbP (w:World) (b:Nat) (es:Array MapEntry):World:={ w with heap:=w.heap.setIfInBounds b (.map es es.size) }
theorem set_map {S:St} (hS:HeapOk S) {r:Nat} {row row':Row} {info:BI} {es:Array MapEntry} (hr:S.L[r]? = some row) (hi:S.β[r]? = some info) (hmp:info.mp=true)
  (hv:row'.ver=row.ver) (hf:row'.frozen=row.frozen) (he:row'.es=2) (hle:row.elems.length<=row'.elems.length) (ho:Za5 row'.es row'.elems)
  (hes:es.size=row'.elems.length) (hent:∀ (i:Nat) e x,es[i]? = some e->row'.elems[i]? = some x->EntOk S row'.clean i e x) :
  HeapOk ⟨S.base,S.acc,S.L.set r row',S.β,ZbP S.w info.blk es⟩/\Ext S ⟨S.base,S.acc,S.L.set r row',S.β,ZbP S.w info.blk es⟩:=by
 have hrl:=Zah hr
 obtain ⟨hb1,hb2⟩:=hS.blk r info hi
 obtain ⟨es0,hm1,_,hm3,_⟩:=hS.maps r row info hr hi hmp
 have hold:∀ b,b ≠ info.blk->(ZbP S.w info.blk es).heap[b]? = S.w.heap[b]?:=fun b h=>by
  show (S.w.heap.setIfInBounds info.blk _)[b]? = _
  rw [Array.getElem?_setIfInBounds_ne (fun e=>h e.symm)]
 have hnew:(ZbP S.w info.blk es).heap[info.blk]? = some (.map es es.size):=by
  show (S.w.heap.setIfInBounds info.blk _)[info.blk]? = _
  rw [Array.getElem?_setIfInBounds_self_of_lt hb2]
 have hsize:(ZbP S.w info.blk es).heap.size=S.w.heap.size:=by show (S.w.heap.setIfInBounds _ _).size=_;simp
 have hcell:∀ b off,(ZbP S.w info.blk es).cell? ⟨b,off,none⟩=S.w.cell? ⟨b,off,none⟩:=by
  intro b off
  by_cases e:b=info.blk
  ·subst e;simp [World.cell?,hnew,hm1]
  ·exact Zaw (hold b e)
 have hno:∀ off cv,S.w.cell? ⟨info.blk,off,none⟩ ≠ some cv:=by
  intro off cv;simp [World.cell?,hm1]
 have hL:∀ (q:Nat) x,(S.L.set r row')[q]? = some x->(q ≠ r/\S.L[q]? = some x)\/(q=r/\x=row'):=by
  intro q x h
  rw [List.getElem?_set] at h
  by_cases e:r=q
  ·subst e;simp [hrl] at h;exact .inr ⟨rfl,h.symm⟩
  ·simp [e] at h;exact .inl ⟨fun e'=>e e'.symm,h⟩
 have hLr:(S.L.set r row')[r]? = some row':=by simp [hrl]
 have hLo:∀ (q:Nat),q ≠ r->(S.L.set r row')[q]? = S.L[q]?:=fun q e=>by rw [List.getElem?_set,if_neg (fun e'=>e e'.symm)]
 have hbel:Below S.base S.w (ZbP S.w info.blk es):=⟨rfl,rfl,rfl,Nat.le_of_eq hsize.symm,fun k hk=>hold k (by omega)⟩
 have hex:Ext S ⟨S.base,S.acc,S.L.set r row',S.β,ZbP S.w info.blk es⟩:=by
  refine ⟨rfl,rfl,fun b off him _=>⟨⟨him.1,fun q x hq hqe => ?_⟩,hcell b off⟩,fun q x y h1 h2 => ?_,hbel,fun q x h => .inl ⟨q,x,h,rfl⟩,fun b _ _ hnb=>hold b fun e=>hnb r info hi e.symm⟩
  ·obtain ⟨row0,a1,a2,a3,a4⟩:=him.2 q x hq hqe
   by_cases e:q=r
   ·subst e
    rw [hr] at a1
    simp only [Option.some.injEq] at a1;subst a1
    exact ⟨row',hLr,by rw [hf];exact a2,a3,Nat.lt_of_lt_of_le a4 (Nat.add_le_add_left (Nat.mul_le_mul_right _ hle) _)⟩
   ·exact ⟨row0,(hLo q e).trans a1,a2,a3,a4⟩
  ·by_cases e:q=r
   ·subst e
    rw [hr] at h1;rw [hi] at h2
    simp only [Option.some.injEq] at h1 h2;subst h1;subst h2
    exact ⟨row',info,hLr,hi,Nat.le_of_eq hv.symm,fun _=>⟨rfl,fun h=>by rw [hmp] at h;cases h⟩,rfl,fun _=>rfl⟩
   ·exact ⟨x,y,(hLo q e).trans h1,h2,Nat.le_refl _,fun _=>⟨rfl,fun _=>rfl⟩,rfl,fun _=>rfl⟩
 have hne:∀ (q:Nat) y,q ≠ r->S.β[q]? = some y->y.blk ≠ info.blk:=fun q y e h e'=>e (hS.inj q r y info h hi e')
 refine ⟨⟨Nat.le_trans hS.base (Nat.le_of_eq hsize.symm),by simp [hS.len],fun q y h => ?_,hS.inj,fun q x y h h' hm => ?_,fun q x y h h' hm => ?_,fun q x h => ?_,fun q x y i z k c cv h h' hz hk hcv => ?_,fun q x y i z k c cv h h' hc hz hk hcv => ?_,hS.acq,fun b off h=>hS.anew b off (by rw [<- hsize];exact h)⟩,hex⟩
 ·obtain ⟨a,b⟩:=hS.blk q y h
  exact ⟨a,by rw [hsize];exact b⟩
 ·rcases hL q x h with ⟨e,h⟩ | ⟨rfl,rfl⟩
  ·exact (hS.maps q x y h h' hm).mono hex (hold _ (hne q y e h'))
  ·have h':S.β[q]? = some y:=h'
   rw [hi] at h'
   simp only [Option.some.injEq] at h';subst h'
   exact ⟨es,hnew,hes,he,fun i e x he hx=>(hent i e x he hx).mono hex⟩
 ·rcases hL q x h with ⟨e,h⟩ | ⟨rfl,rfl⟩
  ·obtain ⟨a1,a2,cs',T',a3,a4⟩:=hS.cells q x y h h' hm
   exact ⟨a1,a2,cs',T',(hold _ (hne q y e h')).trans a3,a4⟩
  ·have h':S.β[q]? = some y:=h'
   rw [hi] at h'
   simp only [Option.some.injEq] at h';subst h'
   rw [hmp] at hm;cases hm
 ·rcases hL q x h with ⟨e,h⟩ | ⟨rfl,rfl⟩
  ·exact hS.elems q x h
  ·exact ho
 ·have hcv':S.w.cell? ⟨y.blk,y.off+i*y.es+k,none⟩=some cv:=(hcell _ _).symm.trans hcv
  rcases hL q x h with ⟨e,h⟩ | ⟨rfl,rfl⟩
  ·exact (hS.rel q x y i z k c cv h h' hz hk hcv').mono hex
  ·have h':S.β[q]? = some y:=h'
   rw [hi] at h'
   simp only [Option.some.injEq] at h';subst h'
   exact absurd hcv' (hno _ _)
 ·have hcv':S.w.cell? ⟨y.blk,y.off+i*y.es+k,none⟩=some cv:=(hcell _ _).symm.trans hcv
  rcases hL q x h with ⟨e,h⟩ | ⟨rfl,rfl⟩
  ·exact (hS.clean q x y i z k c cv h h' hc hz hk hcv').mono hex
  ·have h':S.β[q]? = some y:=h'
   rw [hi] at h'
   simp only [Option.some.injEq] at h';subst h'
   exact absurd hcv' (hno _ _)
theorem Zel {R:AV->Value->Prop} {kk kd:IntKind} {n:Int} (z:AV):∀ (xs:List AV) (es:List MapEntry) (j:Nat),es.length=xs.length ->
  (∀ (i:Nat) e x,es[i]? = some e->xs[i]? = some x -> ∃ k m v,x = .agg [.int k m,v]/\e.key = .int k m/\R v e.val)->ZcK kk xs=true ->
  (∃ e,es[Zbh n xs]? = some e/\e.key = .int kk n/\Instr.findNow (.int kd) (.int kk n) es j=some (some (j+Zbh n xs,e.val))/\ZeN n xs=true/\R (ZbR z n xs) e.val/\Zbh n xs<xs.length /\
   (∀ u,Zeh kk n u xs=ZbX u (Zbh n xs) xs)) \/
  (Instr.findNow (.int kd) (.int kk n) es j=some none/\ZeN n xs=false/\ZbR z n xs=z/\Zbh n xs=xs.length /\ ∀ u,Zeh kk n u xs=xs++[.agg [.int kk n,u]])
 | [],[],j,_,_,_ => .inr ⟨rfl,rfl,rfl,rfl,fun _=>rfl⟩
 | [],e::es,j,hl,_,_=>by simp at hl
 | x::xs,[],j,hl,_,_=>by simp at hl
 | x::xs,e::es,j,hl,h,hk=>by
  obtain ⟨k,m,v,rfl,he,hR⟩:=h 0 e x rfl rfl
  simp only [ZcK,Bool.and_eq_true,decide_eq_true_eq] at hk
  obtain ⟨rfl,hk⟩:=hk
  have hs:Instr.sameNow (.int kd) (.int k n) e.key=some (n==m):=by rw [he];simp [Instr.sameNow]
  by_cases hnm:n=m
  ·subst hnm
   refine .inl ⟨e,?_,he,?_,?_,?_,?_,fun u => ?_⟩
   ·simp [Zbh]
   ·simp [Instr.findNow,hs,Zbh]
   ·simp [ZeN]
   ·simpa [ZbR] using hR
   ·simp [Zbh]
   ·simp [Zeh,Zbh,ZbX]
  ·have hb:(n==m)=false:=by simpa using hnm
   rcases Zel z xs es (j+1) (by simpa using hl) (fun i e x h1 h2=>h (i+1) e x (by simpa using h1) (by simpa using h2)) hk with ⟨e',a1,a2,a3,a4,a5,a6,a7⟩ | ⟨a1,a2,a3,a4,a5⟩
   ·refine .inl ⟨e',?_,a2,?_,?_,?_,?_,fun u => ?_⟩
    ·simpa [Zbh,hb] using a1
    ·simp only [Instr.findNow,hs,hb,Zbh,cond_false]
     rw [a3,Nat.add_assoc,Nat.add_comm 1]
    ·simpa [ZeN,hb] using a4
    ·simpa [ZbR,hb] using a5
    ·simpa [Zbh,hb] using a6
    ·simp only [Zeh,hb,Zbh,cond_false,ZbX,a7 u]
   ·refine .inr ⟨?_,?_,?_,?_,fun u => ?_⟩
    ·simp only [Instr.findNow,hs,hb,a1]
    ·simpa [ZeN,hb] using a2
    ·simpa [ZbR,hb] using a3
    ·simpa [Zbh,hb] using a4
    ·simp only [Zeh,hb,cond_false,a5 u,List.cons_append]
theorem mapB_val {n:Int}:∀ {xs:List AV},Zci xs=true->ZbR (.bool false) n xs = .bool (mapB n xs)
 | [],_=>rfl
 | .agg [.int _ m,.bool b]::l,h=>by
  simp only [ZbR,mapB]
  cases n==m with
  | true=>rfl
  | false=>exact mapB_val (xs:=l) (by simpa [Zci] using h)
 | .any::_,h=>by simp [Zci] at h
 | .bool _::_,h=>by simp [Zci] at h
 | .int _ _::_,h=>by simp [Zci] at h
 | .str _::_,h=>by simp [Zci] at h
 | .flt _::_,h=>by simp [Zci] at h
 | .tup _::_,h=>by simp [Zci] at h
 | .nilp::_,h=>by simp [Zci] at h
 | .ptr .. :: _,h=>by simp [Zci] at h
 | .eptr .. :: _,h=>by simp [Zci] at h
 | .vnil::_,h=>by simp [Zci] at h
 | .vec .. :: _,h=>by simp [Zci] at h
 | .row .. :: _,h=>by simp [Zci] at h
 | .ref .. :: _,h=>by simp [Zci] at h
 | .func .. :: _,h=>by simp [Zci] at h
 | .nilf::_,h=>by simp [Zci] at h
 | .mapr _::_,h=>by simp [Zci] at h
 | .nilm::_,h=>by simp [Zci] at h
 | .agg cs::l,h=>by
  unfold Zci at h
  split at h
  ·rename_i e;cases e
  ·rename_i k m b l' e
   simp only [List.cons.injEq,AV.agg.injEq] at e
   obtain ⟨rfl,rfl⟩:=e
   simp only [ZbR,mapB]
   cases n==m with
   | true=>rfl
   | false=>exact mapB_val (xs:=l) h
  ·cases h
theorem mapI_val {k:IntKind} {n:Int}:∀ {xs:List AV},mapIs k xs=true->ZbR (.int k 0) n xs = .int k (mapI n xs)
 | [],_=>rfl
 | x::l,h=>by
  unfold mapIs at h
  split at h
  ·rename_i e;cases e
  ·rename_i j m j' v l' e
   simp only [List.cons.injEq] at e
   obtain ⟨rfl,rfl⟩:=e
   simp only [Bool.and_eq_true,decide_eq_true_eq] at h
   obtain ⟨rfl,h⟩:=h
   simp only [ZbR,mapI]
   cases n==m with
   | true=>rfl
   | false=>exact mapI_val (xs:=l) h
  ·cases h
theorem ZfF {el:Option AV} {z:AV} {n:Int} {xs:List AV} (hA:∀ b ∈ (ZdK el z n xs).2.1,b=true) (hQ:∀ q ∈ (ZdK el z n xs).2.2,q):(ZdK el z n xs).1=ZbR z n xs:=by
 cases el with
 | some x =>
  have:ZbR z n xs=x:=hQ _ (by simp [ZdK])
  exact this.symm
 | none =>
  unfold ZdK at hA ⊢
  simp only at hA ⊢
  split at hA
  ·exact (mapB_val (hA _ (by simp))).symm
  ·exact (mapI_val (hA _ (by simp))).symm
  ·rfl
theorem setVal0 (v y:AV) (l:List AV):∃ y',ZbX v 0 (y::l)=y'::l /\ ∀ k u,y = .agg [k,u]->y' = .agg [k,v]:=by
 by_cases h:∃ k u,y = .agg [k,u]
 ·obtain ⟨k,u,rfl⟩:=h
  exact ⟨_,rfl,fun k u e=>by cases e;rfl⟩
 ·refine ⟨y,?_,fun k u e=>absurd ⟨k,u,e⟩ h⟩
  cases y with
  | agg cs =>
   match cs with
   | []=>rfl
   | [_]=>rfl
   | [k,u]=>exact absurd ⟨k,u,rfl⟩ h
   | _::_::_::_=>rfl
  | _=>rfl
theorem Zeq (v:AV):∀ (i:Nat) (xs:List AV),(ZbX v i xs).length=xs.length
 | _,[]=>by cases ‹Nat› <;> rfl
 | 0,x::l=>by
  unfold ZbX
  split <;> simp_all
 | i+1,x::l=>by simp only [ZbX,List.length_cons,Zeq v i l]
theorem Zer (v:AV):∀ (i:Nat) (xs:List AV) (q:Nat) (x:AV),(ZbX v i xs)[q]? = some x->(q ≠ i/\xs[q]? = some x)\/(q=i /\ ∃ x0,xs[q]? = some x0 /\ ∀ k u,x0 = .agg [k,u]->x = .agg [k,v])
 | i,[],q,x,h=>by cases i <;> simp [ZbX] at h
 | 0,y::l,0,x,h=>by
  obtain ⟨y',e1,e2⟩:=setVal0 v y l
  rw [e1] at h
  simp only [List.getElem?_cons_zero,Option.some.injEq] at h;subst h
  exact .inr ⟨rfl,y,rfl,e2⟩
 | 0,y::l,q+1,x,h=>by
  obtain ⟨y',e1,e2⟩:=setVal0 v y l
  rw [e1] at h
  exact .inl ⟨by simp,by simpa using h⟩
 | i+1,y::l,0,x,h=>by
  refine .inl ⟨by simp,?_⟩
  simpa [ZbX] using h
 | i+1,y::l,q+1,x,h=>by
  rcases Zer v i l q x (by simpa [ZbX] using h) with ⟨h1,h2⟩ | ⟨h1,x0,h2,h3⟩
  ·exact .inl ⟨by omega,by simpa using h2⟩
  ·exact .inr ⟨by omega,x0,by simpa using h2,h3⟩
end Go.Av
