/- PART 5 of the texts of a claim, joined by a program: what each part shows stands at its head. -/
import Derived.Test.YtcekollfgmfdjaaPart264b97fa13

namespace Go.Av
open Go.Proofs
set_option maxRecDepth 100000
def fi61:Fi:=⟨38,[.tmp 8]⟩
def kp61:List (Nat × List Nat):=[(0,[0,1,2,3]),(1,[0,1,2,3,9]),(2,[8])]
def fi62:Fi:=⟨12,[.tmp 4]⟩
def kp62:List (Nat × List Nat):=[(0,[0,1]),(1,[4])]
def fi63:Fi:=⟨33,[.tmp 8]⟩
def kp63:List (Nat × List Nat):=[(0,[0,1,2,3]),(1,[8])]
def fi64:Fi:=⟨12,[.tmp 4]⟩
def kp64:List (Nat × List Nat):=[(0,[0,1]),(1,[4])]
def fi68:Fi:=⟨31,[.tmp 4]⟩
def kp68:List (Nat × List Nat):=[(0,[2,3]),(1,[4])]
def fi71:Fi:=⟨10,[.cell 4 114]⟩
def kp71:List (Nat × List Nat):=[(0,[0,1,4]),(1,[4])]
def fi96:Fi:=⟨17,[.cell 4 110]⟩
def kp96:List (Nat × List Nat):=[(0,[2,3,4]),(1,[4,5,6]),(2,[4,5,14]),(3,[4]),(4,[4])]
def fi97:Fi:=⟨8,[.cell 4 110]⟩
def kp97:List (Nat × List Nat):=[(0,[2,3,4]),(1,[4])]
def fi102:Fi:=⟨8,[.cell 4 110]⟩
def kp102:List (Nat × List Nat):=[(0,[2,3,4]),(1,[4])]
def fi103:Fi:=⟨8,[.cell 4 110]⟩
def kp103:List (Nat × List Nat):=[(0,[2,3,4]),(1,[4])]
def qAdd_at (f1 f2 g1 g2:Bool) (r s:Rat) (Q:AV->Heap->Prop):Prop:=Wp M1 (.run fi103 (atC (cd Try.f103) []) [(0,ratA f1 f2 r),(1,ratA g1 g2 s)] []) Q
def qSub_at (f1 f2 g1 g2:Bool) (r s:Rat) (Q:AV->Heap->Prop):Prop:=Wp M1 (.run fi102 (atC (cd Try.f102) []) [(0,ratA f1 f2 r),(1,ratA g1 g2 s)] []) Q
def qMul_at (f1 f2 g1 g2:Bool) (r s:Rat) (Q:AV->Heap->Prop):Prop:=Wp M1 (.run fi97 (atC (cd Try.f97) []) [(0,ratA f1 f2 r),(1,ratA g1 g2 s)] []) Q
def qOver_at (f1 f2 g1 g2:Bool) (r s:Rat) (Q:AV->Heap->Prop):Prop:=Wp M1 (.run fi96 (atC (cd Try.f96) []) [(0,ratA f1 f2 r),(1,ratA g1 g2 s)] []) Q
def qVec_at (x y:Int) (Q:AV->Heap->Prop):Prop:=Wp M1 (.run fi71 (atC (cd Try.f71) []) [(0,.int .i64 x),(1,.int .i64 y)] []) Q
def qHolds_at (x0 y0 x1 y1 tp x y:Int) (Q:AV->Heap->Prop):Prop:=Wp M1 (.run fi68 (atC (cd Try.f68) []) [(0,.agg [.int .i64 x0,.int .i64 y0,.int .i64 x1,.int .i64 y1,.int .i64 tp]),(1,.agg [.int .i64 x,.int .i64 y])] []) Q
def qRect_at (x0 y0 x1 y1:Int) (Q:AV->Heap->Prop):Prop:=Wp M1 (.run fi63 (atC (cd Try.f63) []) [(0,.int .i64 x0),(1,.int .i64 y0),(2,.int .i64 x1),(3,.int .i64 y1)] []) Q
def qWith_at (n l:Int) (Q:AV->Heap->Prop):Prop:=Wp M1 (.run fi64 (atC (cd Try.f64) []) [(0,.int .i64 n),(1,.int .i64 l)] []) Q
def qRectR_at (x0 y0 x1 y1:Int) (Q:AV->Heap->Prop):Prop:=Wp M1 (.run fi61 (atC (cd Try.f61) []) [(0,.int .i64 x0),(1,.int .i64 y0),(2,.int .i64 x1),(3,.int .i64 y1)] []) Q
def qLenth_at (n l:Int) (Q:AV->Heap->Prop):Prop:=Wp M1 (.run fi62 (atC (cd Try.f62) []) [(0,.int .i64 n),(1,.int .i64 l)] []) Q
theorem call61 {args:List AV} {d:AV} (h:wc M1 fi61 Try.f61 args d):Ev M1 (.pure 61 args) d []:=pcl _ _ (by kernel_rfl) h
theorem call62 {args:List AV} {d:AV} (h:wc M1 fi62 Try.f62 args d):Ev M1 (.pure 62 args) d []:=pcl _ _ (by kernel_rfl) h
theorem call63 {args:List AV} {d:AV} (h:wc M1 fi63 Try.f63 args d):Ev M1 (.pure 63 args) d []:=pcl _ _ (by kernel_rfl) h
theorem call64 {args:List AV} {d:AV} (h:wc M1 fi64 Try.f64 args d):Ev M1 (.pure 64 args) d []:=pcl _ _ (by kernel_rfl) h
theorem call68 {args:List AV} {d:AV} (h:wc M1 fi68 Try.f68 args d):Ev M1 (.pure 68 args) d []:=pcl _ _ (by kernel_rfl) h
theorem call71 {args:List AV} {d:AV} (h:wc M1 fi71 Try.f71 args d):Ev M1 (.pure 71 args) d []:=pcl _ _ (by kernel_rfl) h
theorem call96 {args:List AV} {d:AV} (h:wc M1 fi96 Try.f96 args d):Ev M1 (.pure 96 args) d []:=pcl _ _ (by kernel_rfl) h
theorem call97 {args:List AV} {d:AV} (h:wc M1 fi97 Try.f97 args d):Ev M1 (.pure 97 args) d []:=pcl _ _ (by kernel_rfl) h
theorem call102 {args:List AV} {d:AV} (h:wc M1 fi102 Try.f102 args d):Ev M1 (.pure 102 args) d []:=pcl _ _ (by kernel_rfl) h
theorem call103 {args:List AV} {d:AV} (h:wc M1 fi103 Try.f103 args d):Ev M1 (.pure 103 args) d []:=pcl _ _ (by kernel_rfl) h
theorem qAdd (f1 f2 g1 g2:Bool) (r s:Rat)  (dq:AV) (H :
  (O.okR r/\O.okR s) /\
  Weak (ratF (r+s)) dq) :
 qAdd_at f1 f2 g1 g2 r s (Zaf dq):=by
 unfold qAdd_at
 obtain ⟨k1,H⟩:=H
 exact Zaq (G:=Zad kp103 [(1,2,.call (ratF (r+s)) none)] []) 1000 [] (ratF (r+s)) (by kernel_rfl) (bc rfl (bc rfl (bc rfl b0))) q0 (ce (@ev111 f1 f2 g1 g2 r s k1) c0) H
theorem qSub (f1 f2 g1 g2:Bool) (r s:Rat)  (dq:AV) (H :
  (O.okR r/\O.okR s) /\
  Weak (ratF (r-s)) dq) :
 qSub_at f1 f2 g1 g2 r s (Zaf dq):=by
 unfold qSub_at
 obtain ⟨k1,H⟩:=H
 exact Zaq (G:=Zad kp102 [(1,2,.call (ratF (r-s)) none)] []) 1000 [] (ratF (r-s)) (by kernel_rfl) (bc rfl (bc rfl (bc rfl b0))) q0 (ce (@ev110 f1 f2 g1 g2 r s k1) c0) H
theorem qMul (f1 f2 g1 g2:Bool) (r s:Rat)  (dq:AV) (H :
  (O.okR r/\O.okR s) /\
  Weak (ratF (r*s)) dq) :
 qMul_at f1 f2 g1 g2 r s (Zaf dq):=by
 unfold qMul_at
 obtain ⟨k1,H⟩:=H
 exact Zaq (G:=Zad kp97 [(1,2,.call (ratF (r*s)) none)] []) 1000 [] (ratF (r*s)) (by kernel_rfl) (bc rfl (bc rfl (bc rfl b0))) q0 (ce (@ev70 f1 f2 g1 g2 r s k1) c0) H
theorem qOver (f1 f2 g1 g2:Bool) (r s:Rat)  (dq:AV) (H :
  (O.okR r/\O.okR s/\s.num ≠ 0) /\
  Weak (ratF (r / s)) dq) :
 qOver_at f1 f2 g1 g2 r s (Zaf dq):=by
 unfold qOver_at
 obtain ⟨k1,H⟩:=H
 exact Zaq (G:=Zad kp96 [(1,2,.call (tu [ratF (r / s),vi 0]) none)] []) 1000 [false] (ratF (r / s)) (by kernel_rfl) (bc rfl (bc rfl (bc rfl (bc rfl (bc rfl (bc rfl b0)))))) q0 (ce (@ev104 f1 f2 g1 g2 r s k1) c0) H
theorem qVec (x y:Int)  (dq:AV) (H :
  (O.inI x) /\
  (O.inI y) /\
  Weak (ag [vb (O.Zac (O.qi x).num),vf (us (O.Zag (O.qi x).num)),vb (O.Zac (↑(O.qi x).den:Int)),vf (us (O.Zag (↑(O.qi x).den:Int))),vb (O.Zac (O.qi y).num),vf (us (O.Zag (O.qi y).num)),vb (O.Zac (↑(O.qi y).den:Int)),vf (us (O.Zag (↑(O.qi y).den:Int)))]) dq) :
 qVec_at x y (Zaf dq):=by
 unfold qVec_at
 obtain ⟨k1,k2,H⟩:=H
 exact Zaq (G:=Zad kp71 [(1,1,.call (ratF (O.qi x)) none),(1,3,.call (ratF (O.qi y)) none)] []) 1000 [] (ag [vb (O.Zac (O.qi x).num),vf (us (O.Zag (O.qi x).num)),vb (O.Zac (↑(O.qi x).den:Int)),vf (us (O.Zag (↑(O.qi x).den:Int))),vb (O.Zac (O.qi y).num),vf (us (O.Zag (O.qi y).num)),vb (O.Zac (↑(O.qi y).den:Int)),vf (us (O.Zag (↑(O.qi y).den:Int)))]) (by kernel_rfl) (bc rfl b0) q0 (ce (@ev69 x k1) (ce (@ev69 y k2) c0)) H
theorem qHolds (x0 y0 x1 y1 tp x y:Int)  (dq:AV) (H :
  vb (bif bif bif decide (x0<=x) then decide (x<=x1) else false then decide (y0<=y) else false then decide (y<=y1) else false)=dq) :
 qHolds_at x0 y0 x1 y1 tp x y (Zaf dq):=by
 unfold qHolds_at
 exact Zai (G:=Zad kp68 [] []) 1000 [] (asm:=[true,true,!(decide (x0<=x)==true&&true)||true,!(decide (x0<=x)==true&&true)||true,!((bif decide (x0<=x) then decide (x<=x1) else false)==true&&true)||true,!((bif decide (x0<=x) then decide (x<=x1) else false)==true&&true)||true,!((bif bif decide (x0<=x) then decide (x<=x1) else false then decide (y0<=y) else false)==true&&true)||true,!((bif bif decide (x0<=x) then decide (x<=x1) else false then decide (y0<=y) else false)==true&&true)||true]) (vb (bif bif bif decide (x0<=x) then decide (x<=x1) else false then decide (y0<=y) else false then decide (y<=y1) else false)) (by kernel_rfl) (bc rfl (bc rfl (bc (Bool.or_true _) (bc (Bool.or_true _) (bc (Bool.or_true _) (bc (Bool.or_true _) (bc (Bool.or_true _) (bc (Bool.or_true _) b0)))))))) q0 c0 H
theorem qRect (x0 y0 x1 y1:Int)  (dq:AV) (H :
  vb (bif bif bif bif bif decide (x0<x1) then decide (y0<y1) else false then decide (x0 >= -10000000) else false then decide (y0 >= -10000000) else false then decide (x1<=10000000) else false then decide (y1<=10000000) else false)=dq) :
 qRect_at x0 y0 x1 y1 (Zaf dq):=by
 unfold qRect_at
 exact Zai (G:=Zad kp63 [] []) 1000 [] (vb (bif bif bif bif bif decide (x0<x1) then decide (y0<y1) else false then decide (x0 >= -10000000) else false then decide (y0 >= -10000000) else false then decide (x1<=10000000) else false then decide (y1<=10000000) else false)) (by kernel_rfl) b0 q0 c0 H
theorem qWith (n l:Int)  (dq:AV) (H :
  vb (bif decide (n>=l) then decide (n<=10000000) else false)=dq) :
 qWith_at n l (Zaf dq):=by
 unfold qWith_at
 exact Zai (G:=Zad kp64 [] []) 1000 [] (vb (bif decide (n>=l) then decide (n<=10000000) else false)) (by kernel_rfl) b0 q0 c0 H
theorem qRectR (x0 y0 x1 y1:Int)  (dq:AV) (H :
  ∃ (b1:Bool),
  (Ev M1 (Conf.pure 62 [vi x0,vi (-10000000)]) (vb b1) []) /\
  ∃ (b2:Bool),
  ((b1=true)->(Ev M1 (Conf.pure 62 [vi y0,vi (-10000000)]) (vb b2) [])) /\
  ∃ (b3:Bool),
  (((b1=true)/\(b2=true))->(Ev M1 (Conf.pure 62 [vi x1,vi (-10000000)]) (vb b3) [])) /\
  ∃ (b4:Bool),
  ((((b1=true)/\(b2=true))/\(b3=true))->(Ev M1 (Conf.pure 62 [vi y1,vi (-10000000)]) (vb b4) [])) /\
  vb (bif bif bif bif bif b1 then b2 else false then b3 else false then b4 else false then decide (x0<x1) else false then decide (y0<y1) else false)=dq) :
 qRectR_at x0 y0 x1 y1 (Zaf dq):=by
 unfold qRectR_at
 obtain ⟨b1,k1,b2,k3,b3,k5,b4,k7,H⟩:=H
 exact Zai (G:=Zad kp61 [(2,2,.call (vb b1) none),(2,6,.call (vb b2) none),(2,11,.call (vb b3) none),(2,16,.call (vb b4) none)] []) 1000 [] (calls:=[⟨true,false,62,[vi x0,vi (-10000000)],[],vb b1,[]⟩,⟨b1==true&&true&&true,false,62,[vi y0,vi (-10000000)],[],vb b2,[]⟩,⟨(bif b1 then b2 else false)==true&&true&&true,false,62,[vi x1,vi (-10000000)],[],vb b3,[]⟩,⟨(bif bif b1 then b2 else false then b3 else false)==true&&true&&true,false,62,[vi y1,vi (-10000000)],[],vb b4,[]⟩]) (vb (bif bif bif bif bif b1 then b2 else false then b3 else false then b4 else false then decide (x0<x1) else false then decide (y0<y1) else false)) (by kernel_rfl) b0 q0 (cc (fun _=>k1) (cc (fun hc=>((k3 ((i_at (i_at (i_bt (ZaI _)))).1 hc)):Ev M1 (Conf.pure 62 [vi y0,vi (-10000000)]) (vb b2) [])) (cc (fun hc=>((k5 ((i_at (i_at (i_bt (ZaD (ZaI _) (ZaI _))))).1 hc)):Ev M1 (Conf.pure 62 [vi x1,vi (-10000000)]) (vb b3) [])) (cc (fun hc=>((k7 ((i_at (i_at (i_bt (ZaD (ZaD (ZaI _) (ZaI _)) (ZaI _))))).1 hc)):Ev M1 (Conf.pure 62 [vi y1,vi (-10000000)]) (vb b4) [])) c0)))) H
theorem qLenth (n l:Int)  (dq:AV) (H :
  vb (bif decide (n>=l) then decide (n<=10000000) else false)=dq) :
 qLenth_at n l (Zaf dq):=by
 unfold qLenth_at
 exact Zai (G:=Zad kp62 [] []) 1000 [] (vb (bif decide (n>=l) then decide (n<=10000000) else false)) (by kernel_rfl) b0 q0 c0 H
end Go.Av

namespace Go.Av
open Go.Proofs
theorem ev103 (f1 f2 g1 g2:Bool) (r s:Rat) (h:O.okR r/\O.okR s):Ev M1 (.pure 103 [ratA f1 f2 r,ratA g1 g2 s]) (ratF (r+s)) []:=call103 (qAdd _ _ _ _ _ _ _ ⟨h,.refl _⟩)
theorem ev102 (f1 f2 g1 g2:Bool) (r s:Rat) (h:O.okR r/\O.okR s):Ev M1 (.pure 102 [ratA f1 f2 r,ratA g1 g2 s]) (ratF (r-s)) []:=call102 (qSub _ _ _ _ _ _ _ ⟨h,.refl _⟩)
theorem ev97 (f1 f2 g1 g2:Bool) (r s:Rat) (h:O.okR r/\O.okR s):Ev M1 (.pure 97 [ratA f1 f2 r,ratA g1 g2 s]) (ratF (r*s)) []:=call97 (qMul _ _ _ _ _ _ _ ⟨h,.refl _⟩)
theorem ev96 (f1 f2 g1 g2:Bool) (r s:Rat) (h:O.okR r/\O.okR s/\s.num ≠ 0):Ev M1 (.pure 96 [ratA f1 f2 r,ratA g1 g2 s]) (ratF (r / s)) []:=call96 (qOver _ _ _ _ _ _ _ ⟨h,.refl _⟩)
abbrev vecA (f1 f2 f3 f4:Bool) (x y:Rat):AV:=.agg [.bool (O.Zac x.num),.vec f1 1 ((O.Zag x.num).map (.int .u32)),.bool (O.Zac (x.den:Int)),.vec f2 1 ((O.Zag (x.den:Int)).map (.int .u32)),.bool (O.Zac y.num),.vec f3 1 ((O.Zag y.num).map (.int .u32)),.bool (O.Zac (y.den:Int)),.vec f4 1 ((O.Zag (y.den:Int)).map (.int .u32))]
def O.inI2 (x y:Int):Prop:=O.inI x/\O.inI y
theorem ev71 (x y:Int) (h:O.inI2 x y):Ev M1 (.pure 71 [.int .i64 x,.int .i64 y]) (vecA false false false false (O.qi x) (O.qi y)) []:=call71 (qVec _ _ _ ⟨h.1,h.2,.refl _⟩)
namespace O
def hld (x0 y0 x1 y1 x y:Int):Prop:=x0<=x/\x<=x1/\y0<=y/\y<=y1
def rct (x0 y0 x1 y1:Int):Prop:=x0<x1/\y0<y1/\x0 >= -10000000/\y0 >= -10000000/\x1<=10000000/\y1<=10000000
def wth (n l:Int):Prop:=n>=l/\n<=10000000
end O
instance (x0 y0 x1 y1 x y:Int):Decidable (O.hld x0 y0 x1 y1 x y):=by unfold O.hld;infer_instance
instance (x0 y0 x1 y1:Int):Decidable (O.rct x0 y0 x1 y1):=by unfold O.rct;infer_instance
instance (n l:Int):Decidable (O.wth n l):=by unfold O.wth;infer_instance
theorem ev68 (x0 y0 x1 y1 tp x y:Int):Ev M1 (.pure 68 [.agg [.int .i64 x0,.int .i64 y0,.int .i64 x1,.int .i64 y1,.int .i64 tp],.agg [.int .i64 x,.int .i64 y]]) (.bool (decide (O.hld x0 y0 x1 y1 x y))) []:=
 call68 (qHolds _ _ _ _ _ _ _ _ (congrArg AV.bool (by rw [Za0,Za0,Za0];exact ZbU (by unfold O.hld;omega))))
theorem ev63 (x0 y0 x1 y1:Int):Ev M1 (.pure 63 [.int .i64 x0,.int .i64 y0,.int .i64 x1,.int .i64 y1]) (.bool (decide (O.rct x0 y0 x1 y1))) []:=
 call63 (qRect _ _ _ _ _ (congrArg AV.bool (by rw [Za0,Za0,Za0,Za0,Za0];exact ZbU (by unfold O.rct;omega))))
theorem ev64 (n l:Int):Ev M1 (.pure 64 [.int .i64 n,.int .i64 l]) (.bool (decide (O.wth n l))) []:=
 call64 (qWith _ _ _ (congrArg AV.bool (by rw [Za0];exact ZbU Iff.rfl)))
theorem ev62 (n l:Int):Ev M1 (.pure 62 [.int .i64 n,.int .i64 l]) (.bool (decide (O.wth n l))) []:=
 call62 (qLenth _ _ _ (congrArg AV.bool (by rw [Za0];exact ZbU Iff.rfl)))
theorem ev61 (x0 y0 x1 y1:Int):Ev M1 (.pure 61 [.int .i64 x0,.int .i64 y0,.int .i64 x1,.int .i64 y1]) (.bool (decide (O.rct x0 y0 x1 y1))) []:=by
 refine call61 (qRectR _ _ _ _ _ ⟨_,ev62 x0 (-10000000),_,fun _=>ev62 y0 (-10000000),_,fun _=>ev62 x1 (-10000000),_,fun _=>ev62 y1 (-10000000),congrArg AV.bool ?_⟩)
 rw [Za0,Za0,Za0,Za0,Za0]
 exact ZbU (by unfold O.rct O.wth;omega)
end Go.Av

namespace Go.Av
open Go.Proofs
set_option maxRecDepth 100000
def fi65:Fi:=⟨9,[.tmp 2]⟩
def kp65:List (Nat × List Nat):=[(0,[1]),(1,[2])]
def fi93:Fi:=⟨16,[.cell 4 114]⟩
def kp93:List (Nat × List Nat):=[(0,[2,3,4]),(1,[4])]
def fi94:Fi:=⟨16,[.cell 4 110]⟩
def kp94:List (Nat × List Nat):=[(0,[2,3,4]),(1,[4])]
def fi95:Fi:=⟨16,[.cell 4 110]⟩
def kp95:List (Nat × List Nat):=[(0,[2,3,4]),(1,[4])]
def qWay_at (f1 f2 f3 f4 f5 f6 f7 f8:Bool) (x1 y1 x2 y2:Rat) (Q:AV->Heap->Prop):Prop:=Wp M1 (.run fi93 (atC (cd Try.f93) []) [(0,.agg [.bool (O.Zac x1.num),.vec f1 1 ((O.Zag x1.num).map (.int .u32)),.bool (O.Zac (x1.den:Int)),.vec f2 1 ((O.Zag (x1.den:Int)).map (.int .u32)),.bool (O.Zac y1.num),.vec f3 1 ((O.Zag y1.num).map (.int .u32)),.bool (O.Zac (y1.den:Int)),.vec f4 1 ((O.Zag (y1.den:Int)).map (.int .u32))]),(1,.agg [.bool (O.Zac x2.num),.vec f5 1 ((O.Zag x2.num).map (.int .u32)),.bool (O.Zac (x2.den:Int)),.vec f6 1 ((O.Zag (x2.den:Int)).map (.int .u32)),.bool (O.Zac y2.num),.vec f7 1 ((O.Zag y2.num).map (.int .u32)),.bool (O.Zac (y2.den:Int)),.vec f8 1 ((O.Zag (y2.den:Int)).map (.int .u32))])] []) Q
def qDot_at (f1 f2 f3 f4 f5 f6 f7 f8:Bool) (x1 y1 x2 y2:Rat) (Q:AV->Heap->Prop):Prop:=Wp M1 (.run fi95 (atC (cd Try.f95) []) [(0,.agg [.bool (O.Zac x1.num),.vec f1 1 ((O.Zag x1.num).map (.int .u32)),.bool (O.Zac (x1.den:Int)),.vec f2 1 ((O.Zag (x1.den:Int)).map (.int .u32)),.bool (O.Zac y1.num),.vec f3 1 ((O.Zag y1.num).map (.int .u32)),.bool (O.Zac (y1.den:Int)),.vec f4 1 ((O.Zag (y1.den:Int)).map (.int .u32))]),(1,.agg [.bool (O.Zac x2.num),.vec f5 1 ((O.Zag x2.num).map (.int .u32)),.bool (O.Zac (x2.den:Int)),.vec f6 1 ((O.Zag (x2.den:Int)).map (.int .u32)),.bool (O.Zac y2.num),.vec f7 1 ((O.Zag y2.num).map (.int .u32)),.bool (O.Zac (y2.den:Int)),.vec f8 1 ((O.Zag (y2.den:Int)).map (.int .u32))])] []) Q
def qCross_at (f1 f2 f3 f4 f5 f6 f7 f8:Bool) (x1 y1 x2 y2:Rat) (Q:AV->Heap->Prop):Prop:=Wp M1 (.run fi94 (atC (cd Try.f94) []) [(0,.agg [.bool (O.Zac x1.num),.vec f1 1 ((O.Zag x1.num).map (.int .u32)),.bool (O.Zac (x1.den:Int)),.vec f2 1 ((O.Zag (x1.den:Int)).map (.int .u32)),.bool (O.Zac y1.num),.vec f3 1 ((O.Zag y1.num).map (.int .u32)),.bool (O.Zac (y1.den:Int)),.vec f4 1 ((O.Zag (y1.den:Int)).map (.int .u32))]),(1,.agg [.bool (O.Zac x2.num),.vec f5 1 ((O.Zag x2.num).map (.int .u32)),.bool (O.Zac (x2.den:Int)),.vec f6 1 ((O.Zag (x2.den:Int)).map (.int .u32)),.bool (O.Zac y2.num),.vec f7 1 ((O.Zag y2.num).map (.int .u32)),.bool (O.Zac (y2.den:Int)),.vec f8 1 ((O.Zag (y2.den:Int)).map (.int .u32))])] []) Q
def qTab_at (f:Bool) (cs:List Bx) (u0 v0 u1 v1 th gp sf:Int) (Q:AV->Heap->Prop):Prop:=Wp M1 (.run fi65 (atC (cd Try.f65) []) [(0,.agg [.int .i64 u0,.int .i64 v0,.int .i64 u1,.int .i64 v1,.int .i64 th,.int .i64 gp,.vec f 5 (cs.map Bx.a),.int .i64 sf])] []) Q
theorem call65 {args:List AV} {d:AV} (h:wc M1 fi65 Try.f65 args d):Ev M1 (.pure 65 args) d []:=pcl _ _ (by kernel_rfl) h
theorem call93 {args:List AV} {d:AV} (h:wc M1 fi93 Try.f93 args d):Ev M1 (.pure 93 args) d []:=pcl _ _ (by kernel_rfl) h
theorem call94 {args:List AV} {d:AV} (h:wc M1 fi94 Try.f94 args d):Ev M1 (.pure 94 args) d []:=pcl _ _ (by kernel_rfl) h
theorem call95 {args:List AV} {d:AV} (h:wc M1 fi95 Try.f95 args d):Ev M1 (.pure 95 args) d []:=pcl _ _ (by kernel_rfl) h
theorem qWay (f1 f2 f3 f4 f5 f6 f7 f8:Bool) (x1 y1 x2 y2:Rat)  (dq:AV) (H :
  (O.okR x2/\O.okR x1) /\
  (O.okR y2/\O.okR y1) /\
  Weak (ag [vb (O.Zac (x2-x1).num),vf (us (O.Zag (x2-x1).num)),vb (O.Zac (↑(x2-x1).den:Int)),vf (us (O.Zag (↑(x2-x1).den:Int))),vb (O.Zac (y2-y1).num),vf (us (O.Zag (y2-y1).num)),vb (O.Zac (↑(y2-y1).den:Int)),vf (us (O.Zag (↑(y2-y1).den:Int)))]) dq) :
 qWay_at f1 f2 f3 f4 f5 f6 f7 f8 x1 y1 x2 y2 (Zaf dq):=by
 unfold qWay_at
 obtain ⟨k1,k2,H⟩:=H
 exact Zaq (G:=Zad kp93 [(1,4,.call (ratF (x2-x1)) none),(1,9,.call (ratF (y2-y1)) none)] []) 1000 [] (ag [vb (O.Zac (x2-x1).num),vf (us (O.Zag (x2-x1).num)),vb (O.Zac (↑(x2-x1).den:Int)),vf (us (O.Zag (↑(x2-x1).den:Int))),vb (O.Zac (y2-y1).num),vf (us (O.Zag (y2-y1).num)),vb (O.Zac (↑(y2-y1).den:Int)),vf (us (O.Zag (↑(y2-y1).den:Int)))]) (by kernel_rfl) (bc rfl (bc rfl (bc rfl (bc rfl (bc rfl b0))))) q0 (ce (@ev102 f5 f6 f1 f2 x2 x1 k1) (ce (@ev102 f7 f8 f3 f4 y2 y1 k2) c0)) H
theorem qDot (f1 f2 f3 f4 f5 f6 f7 f8:Bool) (x1 y1 x2 y2:Rat)  (dq:AV) (H :
  (O.okR x1/\O.okR x2) /\
  (O.okR y1/\O.okR y2) /\
  (O.okR (x1*x2)/\O.okR (y1*y2)) /\
  Weak (ratF (x1*x2+y1*y2)) dq) :
 qDot_at f1 f2 f3 f4 f5 f6 f7 f8 x1 y1 x2 y2 (Zaf dq):=by
 unfold qDot_at
 obtain ⟨k1,k2,k3,H⟩:=H
 exact Zaq (G:=Zad kp95 [(1,4,.call (ratF (x1*x2)) none),(1,9,.call (ratF (y1*y2)) none),(1,10,.call (ratF (x1*x2+y1*y2)) none)] []) 1000 [] (ratF (x1*x2+y1*y2)) (by kernel_rfl) (bc rfl (bc rfl (bc rfl (bc rfl (bc rfl b0))))) q0 (ce (@ev97 f1 f2 f5 f6 x1 x2 k1) (ce (@ev97 f3 f4 f7 f8 y1 y2 k2) (ce (@ev103 false false false false (x1*x2) (y1*y2) k3) c0))) H
theorem qCross (f1 f2 f3 f4 f5 f6 f7 f8:Bool) (x1 y1 x2 y2:Rat)  (dq:AV) (H :
  (O.okR x1/\O.okR y2) /\
  (O.okR y1/\O.okR x2) /\
  (O.okR (x1*y2)/\O.okR (y1*x2)) /\
  Weak (ratF (x1*y2-y1*x2)) dq) :
 qCross_at f1 f2 f3 f4 f5 f6 f7 f8 x1 y1 x2 y2 (Zaf dq):=by
 unfold qCross_at
 obtain ⟨k1,k2,k3,H⟩:=H
 exact Zaq (G:=Zad kp94 [(1,4,.call (ratF (x1*y2)) none),(1,9,.call (ratF (y1*x2)) none),(1,10,.call (ratF (x1*y2-y1*x2)) none)] []) 1000 [] (ratF (x1*y2-y1*x2)) (by kernel_rfl) (bc rfl (bc rfl (bc rfl (bc rfl (bc rfl b0))))) q0 (ce (@ev97 f1 f2 f7 f8 x1 y2 k1) (ce (@ev97 f3 f4 f5 f6 y1 x2 k2) (ce (@ev102 false false false false (x1*y2) (y1*x2) k3) c0))) H
theorem qTab (f:Bool) (cs:List Bx) (u0 v0 u1 v1 th gp sf:Int)  (dq:AV) (H :
  (-9223372036854775808<=0-th/\0-th<=9223372036854775807) /\
  (-9223372036854775808<=0-th-gp/\0-th-gp<=9223372036854775807) /\
  vi (0-th-gp)=dq) :
 qTab_at f cs u0 v0 u1 v1 th gp sf (Zaf dq):=by
 unfold qTab_at
 obtain ⟨k1,H⟩:=H
 have w2:wi (0-th)=0-th:=wI64 k1
 obtain ⟨k3,H⟩:=H
 have w4:wi (0-th-gp)=0-th-gp:=wI64 k3
 exact Zai (G:=Zad kp65 [] []) 1000 [] (vi (wi (wi (0-th)-gp))) (by kernel_rfl) (bc rfl (bc rfl b0)) q0 c0 (by (try rw [w2]);(try rw [w4]);all_goals exact H)
end Go.Av

namespace Go.Av
open Go.Proofs
namespace O
def okW (x1 y1 x2 y2:Rat):Prop:=(okT 100 x1/\okT 100 y1)/\okT 100 x2/\okT 100 y2
def okD (x1 y1 x2 y2:Rat):Prop:=(okT 1000 x1/\okT 1000 y1)/\okT 1000 x2/\okT 1000 y2
def okTb (th gp:Int):Prop:=inI th/\inI gp /\ -1000000000<=th/\th<=1000000000 /\ -1000000000<=gp/\gp<=1000000000
end O
theorem ev93 (f1 f2 f3 f4 f5 f6 f7 f8:Bool) (x1 y1 x2 y2:Rat) (h:O.okW x1 y1 x2 y2):Ev M1 (.pure 93 [vecA f1 f2 f3 f4 x1 y1,vecA f5 f6 f7 f8 x2 y2]) (vecA false false false false (x2-x1) (y2-y1)) []:=by
 obtain ⟨⟨h1,h2⟩,h3,h4⟩:=h
 exact call93 (qWay _ _ _ _ _ _ _ _ _ _ _ _ _ ⟨⟨Zcc h3 (by omega),Zcc h1 (by omega)⟩,⟨Zcc h4 (by omega),Zcc h2 (by omega)⟩,.refl _⟩)
theorem ev95 (f1 f2 f3 f4 f5 f6 f7 f8:Bool) (x1 y1 x2 y2:Rat) (h:O.okD x1 y1 x2 y2):Ev M1 (.pure 95 [vecA f1 f2 f3 f4 x1 y1,vecA f5 f6 f7 f8 x2 y2]) (ratF (x1*x2+y1*y2)) []:=by
 obtain ⟨⟨h1,h2⟩,h3,h4⟩:=h
 exact call95 (qDot _ _ _ _ _ _ _ _ _ _ _ _ _ ⟨⟨Zcc h1 (by omega),Zcc h3 (by omega)⟩,⟨Zcc h2 (by omega),Zcc h4 (by omega)⟩,⟨Zcc (Zcr h1 h3) (by omega),Zcc (Zcr h2 h4) (by omega)⟩,.refl _⟩)
theorem ev94 (f1 f2 f3 f4 f5 f6 f7 f8:Bool) (x1 y1 x2 y2:Rat) (h:O.okD x1 y1 x2 y2):Ev M1 (.pure 94 [vecA f1 f2 f3 f4 x1 y1,vecA f5 f6 f7 f8 x2 y2]) (ratF (x1*y2-y1*x2)) []:=by
 obtain ⟨⟨h1,h2⟩,h3,h4⟩:=h
 exact call94 (qCross _ _ _ _ _ _ _ _ _ _ _ _ _ ⟨⟨Zcc h1 (by omega),Zcc h4 (by omega)⟩,⟨Zcc h2 (by omega),Zcc h3 (by omega)⟩,⟨Zcc (Zcr h1 h4) (by omega),Zcc (Zcr h2 h3) (by omega)⟩,.refl _⟩)
theorem ev65 (f:Bool) (cs:List Bx) (u0 v0 u1 v1 th gp sf:Int) (h:O.okTb th gp):Ev M1 (.pure 65 [.agg [.int .i64 u0,.int .i64 v0,.int .i64 u1,.int .i64 v1,.int .i64 th,.int .i64 gp,.vec f 5 (cs.map Bx.a),.int .i64 sf]]) (.int .i64 (0-th-gp)) []:=by
 unfold O.okTb at h
 exact call65 (qTab _ _ _ _ _ _ _ _ _ _ ⟨by omega,by omega,rfl⟩)
end Go.Av

namespace Go.Av
open Go.Proofs
set_option maxRecDepth 100000
def fi81:Fi:=⟨47,[.tmp 8]⟩
def kp81:List (Nat × List Nat):=[(0,[4,5,6,7]),(1,[4,5,6,7,9,10]),(2,[8])]
def fi82:Fi:=⟨51,[.cell 6 110]⟩
def kp82:List (Nat × List Nat):=[(0,[3,4,5,6]),(1,[4,5,6,7,8]),(2,[4,5,6,7,8,9,10]),(3,[4,5,6,7,8,9,10,25]),(4,[6]),(5,[4,5,6,7,8,9,32]),(6,[6,11]),(7,[6]),(8,[6,9,12]),(9,[6])]
def qToS_at (f1 f2 f3 f4 f5 f6 f7 f8 f9 f10 f11 f12:Bool) (x1 y1 x2 y2 x3 y3:Rat) (Q:AV->Heap->Prop):Prop:=Wp M1 (.run fi82 (atC (cd Try.f82) []) [(0,.agg [.bool (O.Zac x1.num),.vec f1 1 ((O.Zag x1.num).map (.int .u32)),.bool (O.Zac (x1.den:Int)),.vec f2 1 ((O.Zag (x1.den:Int)).map (.int .u32)),.bool (O.Zac y1.num),.vec f3 1 ((O.Zag y1.num).map (.int .u32)),.bool (O.Zac (y1.den:Int)),.vec f4 1 ((O.Zag (y1.den:Int)).map (.int .u32))]),(1,.agg [.bool (O.Zac x2.num),.vec f5 1 ((O.Zag x2.num).map (.int .u32)),.bool (O.Zac (x2.den:Int)),.vec f6 1 ((O.Zag (x2.den:Int)).map (.int .u32)),.bool (O.Zac y2.num),.vec f7 1 ((O.Zag y2.num).map (.int .u32)),.bool (O.Zac (y2.den:Int)),.vec f8 1 ((O.Zag (y2.den:Int)).map (.int .u32))]),(2,.agg [.bool (O.Zac x3.num),.vec f9 1 ((O.Zag x3.num).map (.int .u32)),.bool (O.Zac (x3.den:Int)),.vec f10 1 ((O.Zag (x3.den:Int)).map (.int .u32)),.bool (O.Zac y3.num),.vec f11 1 ((O.Zag y3.num).map (.int .u32)),.bool (O.Zac (y3.den:Int)),.vec f12 1 ((O.Zag (y3.den:Int)).map (.int .u32))])] []) Q
def qCrs_at (f1 f2 f3 f4 f5 f6 f7 f8 f9 f10 f11 f12 f13 f14 f15 f16:Bool) (x1 y1 x2 y2 x3 y3 x4 y4:Rat) (Q:AV->Heap->Prop):Prop:=Wp M1 (.run fi81 (atC (cd Try.f81) []) [(0,.agg [.bool (O.Zac x1.num),.vec f1 1 ((O.Zag x1.num).map (.int .u32)),.bool (O.Zac (x1.den:Int)),.vec f2 1 ((O.Zag (x1.den:Int)).map (.int .u32)),.bool (O.Zac y1.num),.vec f3 1 ((O.Zag y1.num).map (.int .u32)),.bool (O.Zac (y1.den:Int)),.vec f4 1 ((O.Zag (y1.den:Int)).map (.int .u32))]),(1,.agg [.bool (O.Zac x2.num),.vec f5 1 ((O.Zag x2.num).map (.int .u32)),.bool (O.Zac (x2.den:Int)),.vec f6 1 ((O.Zag (x2.den:Int)).map (.int .u32)),.bool (O.Zac y2.num),.vec f7 1 ((O.Zag y2.num).map (.int .u32)),.bool (O.Zac (y2.den:Int)),.vec f8 1 ((O.Zag (y2.den:Int)).map (.int .u32))]),(2,.agg [.bool (O.Zac x3.num),.vec f9 1 ((O.Zag x3.num).map (.int .u32)),.bool (O.Zac (x3.den:Int)),.vec f10 1 ((O.Zag (x3.den:Int)).map (.int .u32)),.bool (O.Zac y3.num),.vec f11 1 ((O.Zag y3.num).map (.int .u32)),.bool (O.Zac (y3.den:Int)),.vec f12 1 ((O.Zag (y3.den:Int)).map (.int .u32))]),(3,.agg [.bool (O.Zac x4.num),.vec f13 1 ((O.Zag x4.num).map (.int .u32)),.bool (O.Zac (x4.den:Int)),.vec f14 1 ((O.Zag (x4.den:Int)).map (.int .u32)),.bool (O.Zac y4.num),.vec f15 1 ((O.Zag y4.num).map (.int .u32)),.bool (O.Zac (y4.den:Int)),.vec f16 1 ((O.Zag (y4.den:Int)).map (.int .u32))])] []) Q
theorem call81 {args:List AV} {d:AV} (h:wc M1 fi81 Try.f81 args d):Ev M1 (.pure 81 args) d []:=pcl _ _ (by kernel_rfl) h
theorem call82 {args:List AV} {d:AV} (h:wc M1 fi82 Try.f82 args d):Ev M1 (.pure 82 args) d []:=pcl _ _ (by kernel_rfl) h
noncomputable abbrev Zfx (x2:Rat) (x1:Rat) (y2:Rat) (y1:Rat):=ag [vb (O.Zac (x2-x1).num),vf (us (O.Zag (x2-x1).num)),vb (O.Zac (↑(x2-x1).den:Int)),vf (us (O.Zag (↑(x2-x1).den:Int))),vb (O.Zac (y2-y1).num),vf (us (O.Zag (y2-y1).num)),vb (O.Zac (↑(y2-y1).den:Int)),vf (us (O.Zag (↑(y2-y1).den:Int)))]
noncomputable abbrev zNqM2 (x3:Rat) (x1:Rat) (y3:Rat) (y1:Rat):=ag [vb (O.Zac (x3-x1).num),vf (us (O.Zag (x3-x1).num)),vb (O.Zac (↑(x3-x1).den:Int)),vf (us (O.Zag (↑(x3-x1).den:Int))),vb (O.Zac (y3-y1).num),vf (us (O.Zag (y3-y1).num)),vb (O.Zac (↑(y3-y1).den:Int)),vf (us (O.Zag (↑(y3-y1).den:Int)))]
noncomputable abbrev zNqM3 (x1:Rat) (f1:Bool) (f2:Bool) (y1:Rat) (f3:Bool) (f4:Bool):=ag [vb (O.Zac x1.num),AV.vec f1 1 (us (O.Zag x1.num)),vb (O.Zac (↑x1.den:Int)),AV.vec f2 1 (us (O.Zag (↑x1.den:Int))),vb (O.Zac y1.num),AV.vec f3 1 (us (O.Zag y1.num)),vb (O.Zac (↑y1.den:Int)),AV.vec f4 1 (us (O.Zag (↑y1.den:Int)))]
noncomputable abbrev zNqM4 (x2:Rat) (f5:Bool) (f6:Bool) (y2:Rat) (f7:Bool) (f8:Bool):=ag [vb (O.Zac x2.num),AV.vec f5 1 (us (O.Zag x2.num)),vb (O.Zac (↑x2.den:Int)),AV.vec f6 1 (us (O.Zag (↑x2.den:Int))),vb (O.Zac y2.num),AV.vec f7 1 (us (O.Zag y2.num)),vb (O.Zac (↑y2.den:Int)),AV.vec f8 1 (us (O.Zag (↑y2.den:Int)))]
noncomputable abbrev zNqM5 (x3:Rat) (f9:Bool) (f10:Bool) (y3:Rat) (f11:Bool) (f12:Bool):=ag [vb (O.Zac x3.num),AV.vec f9 1 (us (O.Zag x3.num)),vb (O.Zac (↑x3.den:Int)),AV.vec f10 1 (us (O.Zag (↑x3.den:Int))),vb (O.Zac y3.num),AV.vec f11 1 (us (O.Zag y3.num)),vb (O.Zac (↑y3.den:Int)),AV.vec f12 1 (us (O.Zag (↑y3.den:Int)))]
noncomputable abbrev zNqM6:=ag [vb false,AV.vnil,vb false,AV.vnil]
noncomputable abbrev zNqM7 (x2:Rat) (x1:Rat) (x3:Rat) (y2:Rat) (y1:Rat) (y3:Rat):=O.sgnI (((x2-x1)*(x3-x1)+(y2-y1)*(y3-y1)).num*(↑((x2-x1)*(x2-x1)+(y2-y1)*(y2-y1)).den:Int)-((x2-x1)*(x2-x1)+(y2-y1)*(y2-y1)).num*(↑((x2-x1)*(x3-x1)+(y2-y1)*(y3-y1)).den:Int))>=0
theorem qToS (f1 f2 f3 f4 f5 f6 f7 f8 f9 f10 f11 f12:Bool) (x1 y1 x2 y2 x3 y3:Rat)  (dq:AV) (H :
  (O.okW x1 y1 x2 y2) /\
  (O.okW x1 y1 x3 y3) /\
  (O.okD (x2-x1) (y2-y1) (x2-x1) (y2-y1)) /\
  (O.okD (x2-x1) (y2-y1) (x3-x1) (y3-y1)) /\
  ((O.sgnI ((x2-x1)*(x3-x1)+(y2-y1)*(y3-y1)).num<=0)->(O.okD (x3-x1) (y3-y1) (x3-x1) (y3-y1)) /\
   Weak (ratF ((x3-x1)*(x3-x1)+(y3-y1)*(y3-y1))) dq) /\
  (¬(O.sgnI ((x2-x1)*(x3-x1)+(y2-y1)*(y3-y1)).num<=0)->(O.okR ((x2-x1)*(x3-x1)+(y2-y1)*(y3-y1))/\O.okR ((x2-x1)*(x2-x1)+(y2-y1)*(y2-y1))) /\
   ((O.sgnI (((x2-x1)*(x3-x1)+(y2-y1)*(y3-y1)).num*(↑((x2-x1)*(x2-x1)+(y2-y1)*(y2-y1)).den:Int)-((x2-x1)*(x2-x1)+(y2-y1)*(y2-y1)).num*(↑((x2-x1)*(x3-x1)+(y2-y1)*(y3-y1)).den:Int))>=0)->(O.okW x2 y2 x3 y3) /\
    (O.okD (x3-x2) (y3-y2) (x3-x2) (y3-y2)) /\
    Weak (ratF ((x3-x2)*(x3-x2)+(y3-y2)*(y3-y2))) dq) /\
   (¬(O.sgnI (((x2-x1)*(x3-x1)+(y2-y1)*(y3-y1)).num*(↑((x2-x1)*(x2-x1)+(y2-y1)*(y2-y1)).den:Int)-((x2-x1)*(x2-x1)+(y2-y1)*(y2-y1)).num*(↑((x2-x1)*(x3-x1)+(y2-y1)*(y3-y1)).den:Int))>=0)->(O.okR ((x2-x1)*(y3-y1)-(y2-y1)*(x3-x1))/\O.okR ((x2-x1)*(y3-y1)-(y2-y1)*(x3-x1))) /\
    (O.okR (((x2-x1)*(y3-y1)-(y2-y1)*(x3-x1))*((x2-x1)*(y3-y1)-(y2-y1)*(x3-x1)))/\O.okR ((x2-x1)*(x2-x1)+(y2-y1)*(y2-y1))/\((x2-x1)*(x2-x1)+(y2-y1)*(y2-y1)).num ≠ 0) /\
    Weak (ratF (((x2-x1)*(y3-y1)-(y2-y1)*(x3-x1))*((x2-x1)*(y3-y1)-(y2-y1)*(x3-x1)) / ((x2-x1)*(x2-x1)+(y2-y1)*(y2-y1)))) dq))) :
 qToS_at f1 f2 f3 f4 f5 f6 f7 f8 f9 f10 f11 f12 x1 y1 x2 y2 x3 y3 (Zaf dq):=by
 unfold qToS_at
 obtain ⟨k1,k2,H⟩:=H
 refine Zae (G:=Zad kp82 [(1,2,.call ((Zfx x2 x1 y2 y1)) none),(1,5,.call ((zNqM2 x3 x1 y3 y1)) none)] []) 3 [] ⟨(atC (cd Try.f82) [1,0]),[(3,AV.ptr 0 0 0 0),(4,AV.ptr 1 0 0 0),(5,AV.ptr 2 0 0 0),(6,AV.ptr 3 0 0 0)],[⟨[(zNqM3 x1 f1 f2 y1 f3 f4)],8,0,false,false⟩,⟨[(zNqM4 x2 f5 f6 y2 f7 f8)],8,0,false,false⟩,⟨[(zNqM5 x3 f9 f10 y3 f11 f12)],8,0,false,false⟩,⟨[zNqM6],4,0,false,false⟩],_,[],_⟩ (by kernel_rfl) b0 q0 c0 (ZeA (G:=Zad kp82 [(1,2,.call ((Zfx x2 x1 y2 y1)) none),(1,5,.call ((zNqM2 x3 x1 y3 y1)) none)] []) [0,1,2,3,5,4] 6 (e1:=[(4,AV.ptr 1 0 0 0),(5,AV.ptr 2 0 0 0),(6,AV.ptr 3 0 0 0),(7,AV.ptr 4 0 0 0),(8,AV.ptr 5 0 0 0)]) (L1:=[⟨[(zNqM3 x1 f1 f2 y1 f3 f4)],8,0,false,false⟩,⟨[(zNqM4 x2 f5 f6 y2 f7 f8)],8,0,false,false⟩,⟨[(zNqM5 x3 f9 f10 y3 f11 f12)],8,0,false,false⟩,⟨[zNqM6],4,0,false,false⟩,⟨[(Zfx x2 x1 y2 y1)],8,0,false,false⟩,⟨[(zNqM2 x3 x1 y3 y1)],8,0,false,false⟩]) (a:=[true,true,true,true,true,true]) (q:=[]) (cs:=[⟨true,false,93,[(zNqM3 x1 f1 f2 y1 f3 f4),(zNqM4 x2 f5 f6 y2 f7 f8)],[],(Zfx x2 x1 y2 y1),[]⟩,⟨true,false,93,[(zNqM3 x1 f1 f2 y1 f3 f4),(zNqM5 x3 f9 f10 y3 f11 f12)],[],(zNqM2 x3 x1 y3 y1),[]⟩]) (by kernel_rfl) (by kernel_rfl) (Zaa rfl (Zaa rfl (Zaa rfl (Zaa rfl (Zaa rfl (Zaa rfl Zaj)))))) Zan (Zap (fun _=>(@ev93 f1 f2 f3 f4 f5 f6 f7 f8 x1 y1 x2 y2 k1)) (Zap (fun _=>(@ev93 f1 f2 f3 f4 f9 f10 f11 f12 x1 y1 x3 y3 k2)) Zao)) ?_)
 obtain ⟨k3,k4,H⟩:=H
 refine Zae (G:=Zad kp82 [(2,2,.call (ratF ((x2-x1)*(x2-x1)+(y2-y1)*(y2-y1))) none),(2,5,.call (ratF ((x2-x1)*(x3-x1)+(y2-y1)*(y3-y1))) none)] []) 1 [] ⟨(atC (cd Try.f82) [1,1,0]),[(4,AV.ptr 1 0 0 0),(5,AV.ptr 2 0 0 0),(6,AV.ptr 3 0 0 0),(7,AV.ptr 4 0 0 0),(8,AV.ptr 5 0 0 0)],[⟨[(zNqM3 x1 f1 f2 y1 f3 f4)],8,0,false,false⟩,⟨[(zNqM4 x2 f5 f6 y2 f7 f8)],8,0,false,false⟩,⟨[(zNqM5 x3 f9 f10 y3 f11 f12)],8,0,false,false⟩,⟨[zNqM6],4,0,false,false⟩,⟨[(Zfx x2 x1 y2 y1)],8,0,false,false⟩,⟨[(zNqM2 x3 x1 y3 y1)],8,0,false,false⟩],_,[],_⟩ (by kernel_rfl) b0 q0 c0 (ZeA (G:=Zad kp82 [(2,2,.call (ratF ((x2-x1)*(x2-x1)+(y2-y1)*(y2-y1))) none),(2,5,.call (ratF ((x2-x1)*(x3-x1)+(y2-y1)*(y3-y1))) none)] []) [0,1,2,3,4,5,7,6] 6 (e1:=[(4,AV.ptr 1 0 0 0),(5,AV.ptr 2 0 0 0),(6,AV.ptr 3 0 0 0),(7,AV.ptr 4 0 0 0),(8,AV.ptr 5 0 0 0),(9,AV.ptr 6 0 0 0),(10,AV.ptr 7 0 0 0)]) (L1:=[⟨[(zNqM3 x1 f1 f2 y1 f3 f4)],8,0,false,false⟩,⟨[(zNqM4 x2 f5 f6 y2 f7 f8)],8,0,false,false⟩,⟨[(zNqM5 x3 f9 f10 y3 f11 f12)],8,0,false,false⟩,⟨[zNqM6],4,0,false,false⟩,⟨[(Zfx x2 x1 y2 y1)],8,0,false,false⟩,⟨[(zNqM2 x3 x1 y3 y1)],8,0,false,false⟩,⟨[ratF ((x2-x1)*(x2-x1)+(y2-y1)*(y2-y1))],4,0,false,false⟩,⟨[ratF ((x2-x1)*(x3-x1)+(y2-y1)*(y3-y1))],4,0,false,false⟩]) (a:=[true,true,true,true,true,true]) (q:=[]) (cs:=[⟨true,false,95,[(Zfx x2 x1 y2 y1),(Zfx x2 x1 y2 y1)],[],ratF ((x2-x1)*(x2-x1)+(y2-y1)*(y2-y1)),[]⟩,⟨true,false,95,[(Zfx x2 x1 y2 y1),(zNqM2 x3 x1 y3 y1)],[],ratF ((x2-x1)*(x3-x1)+(y2-y1)*(y3-y1)),[]⟩]) (by kernel_rfl) (by kernel_rfl) (Zaa rfl (Zaa rfl (Zaa rfl (Zaa rfl (Zaa rfl (Zaa rfl Zaj)))))) Zan (Zap (fun _=>(@ev95 false false false false false false false false (x2-x1) (y2-y1) (x2-x1) (y2-y1) k3)) (Zap (fun _=>(@ev95 false false false false false false false false (x2-x1) (y2-y1) (x3-x1) (y3-y1) k4)) Zao)) ?_)
 refine Zae (G:=Zad kp82 [(3,1,.call (vi (O.sgnI ((x2-x1)*(x3-x1)+(y2-y1)*(y3-y1)).num)) none)] []) 4 [] ⟨(atC (cd Try.f82) [1,1,1,0,0,1]),[(4,AV.ptr 1 0 0 0),(5,AV.ptr 2 0 0 0),(6,AV.ptr 3 0 0 0),(7,AV.ptr 4 0 0 0),(8,AV.ptr 5 0 0 0),(9,AV.ptr 6 0 0 0),(10,AV.ptr 7 0 0 0),(25,vb (decide (O.sgnI ((x2-x1)*(x3-x1)+(y2-y1)*(y3-y1)).num<=0)))],[⟨[(zNqM3 x1 f1 f2 y1 f3 f4)],8,0,false,false⟩,⟨[(zNqM4 x2 f5 f6 y2 f7 f8)],8,0,false,false⟩,⟨[(zNqM5 x3 f9 f10 y3 f11 f12)],8,0,false,false⟩,⟨[zNqM6],4,0,false,false⟩,⟨[(Zfx x2 x1 y2 y1)],8,0,false,false⟩,⟨[(zNqM2 x3 x1 y3 y1)],8,0,false,false⟩,⟨[ratF ((x2-x1)*(x2-x1)+(y2-y1)*(y2-y1))],4,0,false,false⟩,⟨[ratF ((x2-x1)*(x3-x1)+(y2-y1)*(y3-y1))],4,0,false,false⟩],_,[],_⟩ (by kernel_rfl) (bc rfl b0) q0 (ce (@ev79 false false (((x2-x1)*(x3-x1)+(y2-y1)*(y3-y1)).num) ((↑((x2-x1)*(x3-x1)+(y2-y1)*(y3-y1)).den:Int))) c0) ?_
 rcases xq H with ⟨d6,H⟩|⟨d6,H⟩
 ·obtain ⟨k7,H⟩:=H
  exact Zaq (G:=Zad kp82 [(4,2,.call (ratF ((x3-x1)*(x3-x1)+(y3-y1)*(y3-y1))) none)] []) 1000 [true] (ratF ((x3-x1)*(x3-x1)+(y3-y1)*(y3-y1))) (by kernel_rfl) (bc (Zak (Zab.2 d6)) (bc rfl (bc rfl (bc rfl b0)))) q0 (ce (@ev95 false false false false false false false false (x3-x1) (y3-y1) (x3-x1) (y3-y1) k7) c0) H
 ·obtain ⟨k8,H⟩:=H
  refine Zae (G:=Zad kp82 [(5,2,.call (vi (O.sgnI (((x2-x1)*(x3-x1)+(y2-y1)*(y3-y1)).num*(↑((x2-x1)*(x2-x1)+(y2-y1)*(y2-y1)).den:Int)-((x2-x1)*(x2-x1)+(y2-y1)*(y2-y1)).num*(↑((x2-x1)*(x3-x1)+(y2-y1)*(y3-y1)).den:Int)))) none)] []) 3 [false] ⟨(atC (cd Try.f82) [1,1,1,0,0,1,1,1]),[(4,AV.ptr 1 0 0 0),(5,AV.ptr 2 0 0 0),(6,AV.ptr 3 0 0 0),(7,AV.ptr 4 0 0 0),(8,AV.ptr 5 0 0 0),(9,AV.ptr 6 0 0 0),(32,vb (decide (zNqM7 x2 x1 x3 y2 y1 y3)))],[⟨[(zNqM3 x1 f1 f2 y1 f3 f4)],8,0,false,false⟩,⟨[(zNqM4 x2 f5 f6 y2 f7 f8)],8,0,false,false⟩,⟨[(zNqM5 x3 f9 f10 y3 f11 f12)],8,0,false,false⟩,⟨[zNqM6],4,0,false,false⟩,⟨[(Zfx x2 x1 y2 y1)],8,0,false,false⟩,⟨[(zNqM2 x3 x1 y3 y1)],8,0,false,false⟩,⟨[ratF ((x2-x1)*(x2-x1)+(y2-y1)*(y2-y1))],4,0,false,false⟩,⟨[ratF ((x2-x1)*(x3-x1)+(y2-y1)*(y3-y1))],4,0,false,false⟩],_,[],_⟩ (by kernel_rfl) (bc (Zah (fun h=>d6 (Zab.1 h))) (bc rfl (bc rfl b0))) q0 (ce (@ev72 false false false false ((x2-x1)*(x3-x1)+(y2-y1)*(y3-y1)) ((x2-x1)*(x2-x1)+(y2-y1)*(y2-y1)) k8) c0) ?_
  rcases xq H with ⟨d10,H⟩|⟨d10,H⟩
  ·obtain ⟨k11,k12,H⟩:=H
   exact Zaq (G:=Zad kp82 [(6,2,.call (ag [vb (O.Zac (x3-x2).num),vf (us (O.Zag (x3-x2).num)),vb (O.Zac (↑(x3-x2).den:Int)),vf (us (O.Zag (↑(x3-x2).den:Int))),vb (O.Zac (y3-y2).num),vf (us (O.Zag (y3-y2).num)),vb (O.Zac (↑(y3-y2).den:Int)),vf (us (O.Zag (↑(y3-y2).den:Int)))]) none),(7,2,.call (ratF ((x3-x2)*(x3-x2)+(y3-y2)*(y3-y2))) none)] []) 1000 [true] (ratF ((x3-x2)*(x3-x2)+(y3-y2)*(y3-y2))) (by kernel_rfl) (bc (Zak (Zab.2 d10)) (bc rfl (bc rfl (bc rfl (bc rfl (bc rfl (bc rfl b0))))))) q0 (ce (@ev93 f5 f6 f7 f8 f9 f10 f11 f12 x2 y2 x3 y3 k11) (ce (@ev95 false false false false false false false false (x3-x2) (y3-y2) (x3-x2) (y3-y2) k12) c0)) H
  ·obtain ⟨k13,k14,H⟩:=H
   exact Zaq (G:=Zad kp82 [(8,2,.call (ratF ((x2-x1)*(y3-y1)-(y2-y1)*(x3-x1))) none),(9,2,.call (ratF (((x2-x1)*(y3-y1)-(y2-y1)*(x3-x1))*((x2-x1)*(y3-y1)-(y2-y1)*(x3-x1)))) none),(9,4,.call (ratF (((x2-x1)*(y3-y1)-(y2-y1)*(x3-x1))*((x2-x1)*(y3-y1)-(y2-y1)*(x3-x1)) / ((x2-x1)*(x2-x1)+(y2-y1)*(y2-y1)))) none)] []) 1000 [false] (ratF (((x2-x1)*(y3-y1)-(y2-y1)*(x3-x1))*((x2-x1)*(y3-y1)-(y2-y1)*(x3-x1)) / ((x2-x1)*(x2-x1)+(y2-y1)*(y2-y1)))) (by kernel_rfl) (bc (Zah (fun h=>d10 (Zab.1 h))) (bc rfl (bc rfl (bc rfl (bc rfl (bc rfl (bc rfl (bc rfl b0)))))))) q0 (ce (@ev94 false false false false false false false false (x2-x1) (y2-y1) (x3-x1) (y3-y1) k4) (ce (@ev97 false false false false ((x2-x1)*(y3-y1)-(y2-y1)*(x3-x1)) ((x2-x1)*(y3-y1)-(y2-y1)*(x3-x1)) k13) (ce (@ev96 false false false false (((x2-x1)*(y3-y1)-(y2-y1)*(x3-x1))*((x2-x1)*(y3-y1)-(y2-y1)*(x3-x1))) ((x2-x1)*(x2-x1)+(y2-y1)*(y2-y1)) k14) c0))) H
noncomputable abbrev zNqM8 (x4:Rat) (x3:Rat) (y4:Rat) (y3:Rat):=ag [vb (O.Zac (x4-x3).num),vf (us (O.Zag (x4-x3).num)),vb (O.Zac (↑(x4-x3).den:Int)),vf (us (O.Zag (↑(x4-x3).den:Int))),vb (O.Zac (y4-y3).num),vf (us (O.Zag (y4-y3).num)),vb (O.Zac (↑(y4-y3).den:Int)),vf (us (O.Zag (↑(y4-y3).den:Int)))]
noncomputable abbrev zNqM9 (x3:Rat) (f9:Bool) (f10:Bool) (y3:Rat) (f11:Bool) (f12:Bool):=ag [vb (O.Zac x3.num),AV.vec f9 1 (us (O.Zag x3.num)),vb (O.Zac (↑x3.den:Int)),AV.vec f10 1 (us (O.Zag (↑x3.den:Int))),vb (O.Zac y3.num),AV.vec f11 1 (us (O.Zag y3.num)),vb (O.Zac (↑y3.den:Int)),AV.vec f12 1 (us (O.Zag (↑y3.den:Int)))]
noncomputable abbrev ZgN (x2:Rat) (x1:Rat) (y2:Rat) (y1:Rat):=ag [vb (O.Zac (x2-x1).num),vf (us (O.Zag (x2-x1).num)),vb (O.Zac (↑(x2-x1).den:Int)),vf (us (O.Zag (↑(x2-x1).den:Int))),vb (O.Zac (y2-y1).num),vf (us (O.Zag (y2-y1).num)),vb (O.Zac (↑(y2-y1).den:Int)),vf (us (O.Zag (↑(y2-y1).den:Int)))]
noncomputable abbrev Zfw (x1:Rat) (f1:Bool) (f2:Bool) (y1:Rat) (f3:Bool) (f4:Bool):=ag [vb (O.Zac x1.num),AV.vec f1 1 (us (O.Zag x1.num)),vb (O.Zac (↑x1.den:Int)),AV.vec f2 1 (us (O.Zag (↑x1.den:Int))),vb (O.Zac y1.num),AV.vec f3 1 (us (O.Zag y1.num)),vb (O.Zac (↑y1.den:Int)),AV.vec f4 1 (us (O.Zag (↑y1.den:Int)))]
noncomputable abbrev zNqM12 (x1:Rat) (x3:Rat) (y1:Rat) (y3:Rat):=ag [vb (O.Zac (x1-x3).num),vf (us (O.Zag (x1-x3).num)),vb (O.Zac (↑(x1-x3).den:Int)),vf (us (O.Zag (↑(x1-x3).den:Int))),vb (O.Zac (y1-y3).num),vf (us (O.Zag (y1-y3).num)),vb (O.Zac (↑(y1-y3).den:Int)),vf (us (O.Zag (↑(y1-y3).den:Int)))]
noncomputable abbrev zNqM13 (x2:Rat) (x3:Rat) (y2:Rat) (y3:Rat):=ag [vb (O.Zac (x2-x3).num),vf (us (O.Zag (x2-x3).num)),vb (O.Zac (↑(x2-x3).den:Int)),vf (us (O.Zag (↑(x2-x3).den:Int))),vb (O.Zac (y2-y3).num),vf (us (O.Zag (y2-y3).num)),vb (O.Zac (↑(y2-y3).den:Int)),vf (us (O.Zag (↑(y2-y3).den:Int)))]
noncomputable abbrev zNqM14 (x2:Rat) (f5:Bool) (f6:Bool) (y2:Rat) (f7:Bool) (f8:Bool):=ag [vb (O.Zac x2.num),AV.vec f5 1 (us (O.Zag x2.num)),vb (O.Zac (↑x2.den:Int)),AV.vec f6 1 (us (O.Zag (↑x2.den:Int))),vb (O.Zac y2.num),AV.vec f7 1 (us (O.Zag y2.num)),vb (O.Zac (↑y2.den:Int)),AV.vec f8 1 (us (O.Zag (↑y2.den:Int)))]
noncomputable abbrev zNqM15 (x4:Rat) (f13:Bool) (f14:Bool) (y4:Rat) (f15:Bool) (f16:Bool):=ag [vb (O.Zac x4.num),AV.vec f13 1 (us (O.Zag x4.num)),vb (O.Zac (↑x4.den:Int)),AV.vec f14 1 (us (O.Zag (↑x4.den:Int))),vb (O.Zac y4.num),AV.vec f15 1 (us (O.Zag y4.num)),vb (O.Zac (↑y4.den:Int)),AV.vec f16 1 (us (O.Zag (↑y4.den:Int)))]
noncomputable abbrev zNqM16 (x3:Rat) (x1:Rat) (y3:Rat) (y1:Rat):=ag [vb (O.Zac (x3-x1).num),vf (us (O.Zag (x3-x1).num)),vb (O.Zac (↑(x3-x1).den:Int)),vf (us (O.Zag (↑(x3-x1).den:Int))),vb (O.Zac (y3-y1).num),vf (us (O.Zag (y3-y1).num)),vb (O.Zac (↑(y3-y1).den:Int)),vf (us (O.Zag (↑(y3-y1).den:Int)))]
noncomputable abbrev zNqM17 (x4:Rat) (x1:Rat) (y4:Rat) (y1:Rat):=ag [vb (O.Zac (x4-x1).num),vf (us (O.Zag (x4-x1).num)),vb (O.Zac (↑(x4-x1).den:Int)),vf (us (O.Zag (↑(x4-x1).den:Int))),vb (O.Zac (y4-y1).num),vf (us (O.Zag (y4-y1).num)),vb (O.Zac (↑(y4-y1).den:Int)),vf (us (O.Zag (↑(y4-y1).den:Int)))]
noncomputable abbrev ZgM (x2:Rat) (x1:Rat) (y3:Rat) (y1:Rat) (y2:Rat) (x3:Rat) (y4:Rat) (x4:Rat):=O.sgnI ((x2-x1)*(y3-y1)-(y2-y1)*(x3-x1)).num*O.sgnI ((x2-x1)*(y4-y1)-(y2-y1)*(x4-x1)).num<0
theorem qCrs (f1 f2 f3 f4 f5 f6 f7 f8 f9 f10 f11 f12 f13 f14 f15 f16:Bool) (x1 y1 x2 y2 x3 y3 x4 y4:Rat)  (dq:AV) (H :
  (O.okW x1 y1 x2 y2) /\
  (O.okW x3 y3 x4 y4) /\
  (O.okW x1 y1 x3 y3) /\
  (O.okD (x2-x1) (y2-y1) (x3-x1) (y3-y1)) /\
  (O.okW x1 y1 x4 y4) /\
  (O.okD (x2-x1) (y2-y1) (x4-x1) (y4-y1)) /\
  (-9223372036854775808<=O.sgnI ((x2-x1)*(y3-y1)-(y2-y1)*(x3-x1)).num*O.sgnI ((x2-x1)*(y4-y1)-(y2-y1)*(x4-x1)).num/\O.sgnI ((x2-x1)*(y3-y1)-(y2-y1)*(x3-x1)).num*O.sgnI ((x2-x1)*(y4-y1)-(y2-y1)*(x4-x1)).num<=9223372036854775807) /\
  ((O.sgnI ((x2-x1)*(y3-y1)-(y2-y1)*(x3-x1)).num*O.sgnI ((x2-x1)*(y4-y1)-(y2-y1)*(x4-x1)).num<0)->(O.okW x3 y3 x1 y1)) /\
  ((O.sgnI ((x2-x1)*(y3-y1)-(y2-y1)*(x3-x1)).num*O.sgnI ((x2-x1)*(y4-y1)-(y2-y1)*(x4-x1)).num<0)->(O.okD (x4-x3) (y4-y3) (x1-x3) (y1-y3))) /\
  ((O.sgnI ((x2-x1)*(y3-y1)-(y2-y1)*(x3-x1)).num*O.sgnI ((x2-x1)*(y4-y1)-(y2-y1)*(x4-x1)).num<0)->(O.okW x3 y3 x2 y2)) /\
  ((O.sgnI ((x2-x1)*(y3-y1)-(y2-y1)*(x3-x1)).num*O.sgnI ((x2-x1)*(y4-y1)-(y2-y1)*(x4-x1)).num<0)->(O.okD (x4-x3) (y4-y3) (x2-x3) (y2-y3))) /\
  vb (bif decide (O.sgnI ((x2-x1)*(y3-y1)-(y2-y1)*(x3-x1)).num*O.sgnI ((x2-x1)*(y4-y1)-(y2-y1)*(x4-x1)).num<0) then decide (IntKind.i64.wrap (O.sgnI ((x4-x3)*(y1-y3)-(y4-y3)*(x1-x3)).num*O.sgnI ((x4-x3)*(y2-y3)-(y4-y3)*(x2-x3)).num)<0) else false)=dq) :
 qCrs_at f1 f2 f3 f4 f5 f6 f7 f8 f9 f10 f11 f12 f13 f14 f15 f16 x1 y1 x2 y2 x3 y3 x4 y4 (Zaf dq):=by
 unfold qCrs_at
 obtain ⟨k1,k2,H⟩:=H
 refine Zae (G:=Zad kp81 [(1,2,.call ((ZgN x2 x1 y2 y1)) none),(1,5,.call ((zNqM8 x4 x3 y4 y3)) none)] []) 3 [] ⟨(atC (cd Try.f81) [1,0]),[(4,AV.ptr 0 0 0 0),(5,AV.ptr 1 0 0 0),(6,AV.ptr 2 0 0 0),(7,AV.ptr 3 0 0 0)],[⟨[(Zfw x1 f1 f2 y1 f3 f4)],8,0,false,false⟩,⟨[(zNqM14 x2 f5 f6 y2 f7 f8)],8,0,false,false⟩,⟨[(zNqM9 x3 f9 f10 y3 f11 f12)],8,0,false,false⟩,⟨[(zNqM15 x4 f13 f14 y4 f15 f16)],8,0,false,false⟩],_,[],_⟩ (by kernel_rfl) b0 q0 c0 (ZeA (G:=Zad kp81 [(1,2,.call ((ZgN x2 x1 y2 y1)) none),(1,5,.call ((zNqM8 x4 x3 y4 y3)) none)] []) [0,1,2,3,5,4] 6 (e1:=[(4,AV.ptr 0 0 0 0),(5,AV.ptr 1 0 0 0),(6,AV.ptr 2 0 0 0),(7,AV.ptr 3 0 0 0),(9,AV.ptr 4 0 0 0),(10,AV.ptr 5 0 0 0)]) (L1:=[⟨[(Zfw x1 f1 f2 y1 f3 f4)],8,0,false,false⟩,⟨[(zNqM14 x2 f5 f6 y2 f7 f8)],8,0,false,false⟩,⟨[(zNqM9 x3 f9 f10 y3 f11 f12)],8,0,false,false⟩,⟨[(zNqM15 x4 f13 f14 y4 f15 f16)],8,0,false,false⟩,⟨[(ZgN x2 x1 y2 y1)],8,0,false,false⟩,⟨[(zNqM8 x4 x3 y4 y3)],8,0,false,false⟩]) (a:=[true,true,true,true,true,true]) (q:=[]) (cs:=[⟨true,false,93,[(Zfw x1 f1 f2 y1 f3 f4),(zNqM14 x2 f5 f6 y2 f7 f8)],[],(ZgN x2 x1 y2 y1),[]⟩,⟨true,false,93,[(zNqM9 x3 f9 f10 y3 f11 f12),(zNqM15 x4 f13 f14 y4 f15 f16)],[],(zNqM8 x4 x3 y4 y3),[]⟩]) (by kernel_rfl) (by kernel_rfl) (Zaa rfl (Zaa rfl (Zaa rfl (Zaa rfl (Zaa rfl (Zaa rfl Zaj)))))) Zan (Zap (fun _=>(@ev93 f1 f2 f3 f4 f5 f6 f7 f8 x1 y1 x2 y2 k1)) (Zap (fun _=>(@ev93 f9 f10 f11 f12 f13 f14 f15 f16 x3 y3 x4 y4 k2)) Zao)) ?_)
 obtain ⟨k3,k4,k5,k6,k7,H⟩:=H
 have w8:wi (O.sgnI ((x2-x1)*(y3-y1)-(y2-y1)*(x3-x1)).num*O.sgnI ((x2-x1)*(y4-y1)-(y2-y1)*(x4-x1)).num)=O.sgnI ((x2-x1)*(y3-y1)-(y2-y1)*(x3-x1)).num*O.sgnI ((x2-x1)*(y4-y1)-(y2-y1)*(x4-x1)).num:=wI64 k7
 have i9:(decide (wi (O.sgnI ((x2-x1)*(y3-y1)-(y2-y1)*(x3-x1)).num*O.sgnI ((x2-x1)*(y4-y1)-(y2-y1)*(x4-x1)).num)<0)==true&&true&&true)=true ↔ (ZgM x2 x1 y3 y1 y2 x3 y4 x4):=(by (try rw [w8]);all_goals exact (i_at (i_at (i_bt Zab))))
 obtain ⟨k10,H⟩:=H
 have i11:(decide (wi (O.sgnI ((x2-x1)*(y3-y1)-(y2-y1)*(x3-x1)).num*O.sgnI ((x2-x1)*(y4-y1)-(y2-y1)*(x4-x1)).num)<0)==true&&true&&true)=true ↔ (ZgM x2 x1 y3 y1 y2 x3 y4 x4):=(by (try rw [w8]);all_goals exact (i_at (i_at (i_bt Zab))))
 obtain ⟨k12,H⟩:=H
 have i13:(decide (wi (O.sgnI ((x2-x1)*(y3-y1)-(y2-y1)*(x3-x1)).num*O.sgnI ((x2-x1)*(y4-y1)-(y2-y1)*(x4-x1)).num)<0)==true&&true&&true)=true ↔ (ZgM x2 x1 y3 y1 y2 x3 y4 x4):=(by (try rw [w8]);all_goals exact (i_at (i_at (i_bt Zab))))
 have i14:(decide (wi (O.sgnI ((x2-x1)*(y3-y1)-(y2-y1)*(x3-x1)).num*O.sgnI ((x2-x1)*(y4-y1)-(y2-y1)*(x4-x1)).num)<0)==true&&true&&true)=true ↔ (ZgM x2 x1 y3 y1 y2 x3 y4 x4):=(by (try rw [w8]);all_goals exact (i_at (i_at (i_bt Zab))))
 obtain ⟨k15,H⟩:=H
 have i16:(decide (wi (O.sgnI ((x2-x1)*(y3-y1)-(y2-y1)*(x3-x1)).num*O.sgnI ((x2-x1)*(y4-y1)-(y2-y1)*(x4-x1)).num)<0)==true&&true&&true)=true ↔ (ZgM x2 x1 y3 y1 y2 x3 y4 x4):=(by (try rw [w8]);all_goals exact (i_at (i_at (i_bt Zab))))
 obtain ⟨k17,H⟩:=H
 have i18:(decide (wi (O.sgnI ((x2-x1)*(y3-y1)-(y2-y1)*(x3-x1)).num*O.sgnI ((x2-x1)*(y4-y1)-(y2-y1)*(x4-x1)).num)<0)==true&&true&&true)=true ↔ (ZgM x2 x1 y3 y1 y2 x3 y4 x4):=(by (try rw [w8]);all_goals exact (i_at (i_at (i_bt Zab))))
 exact Zai (G:=Zad kp81 [(2,3,.call ((zNqM16 x3 x1 y3 y1)) none),(2,4,.call (ratF ((x2-x1)*(y3-y1)-(y2-y1)*(x3-x1))) none),(2,5,.call (vi (O.sgnI ((x2-x1)*(y3-y1)-(y2-y1)*(x3-x1)).num)) none),(2,9,.call ((zNqM17 x4 x1 y4 y1)) none),(2,10,.call (ratF ((x2-x1)*(y4-y1)-(y2-y1)*(x4-x1))) none),(2,11,.call (vi (O.sgnI ((x2-x1)*(y4-y1)-(y2-y1)*(x4-x1)).num)) none),(2,18,.call ((zNqM12 x1 x3 y1 y3)) none),(2,19,.call (ratF ((x4-x3)*(y1-y3)-(y4-y3)*(x1-x3))) none),(2,20,.call (vi (O.sgnI ((x4-x3)*(y1-y3)-(y4-y3)*(x1-x3)).num)) none),(2,24,.call ((zNqM13 x2 x3 y2 y3)) none),(2,25,.call (ratF ((x4-x3)*(y2-y3)-(y4-y3)*(x2-x3))) none),(2,26,.call (vi (O.sgnI ((x4-x3)*(y2-y3)-(y4-y3)*(x2-x3)).num)) none)] []) 1000 [] (asm:=[true,true,true,true,true,true,!(decide (wi (O.sgnI ((x2-x1)*(y3-y1)-(y2-y1)*(x3-x1)).num*O.sgnI ((x2-x1)*(y4-y1)-(y2-y1)*(x4-x1)).num)<0)==true&&true)||true,!(decide (wi (O.sgnI ((x2-x1)*(y3-y1)-(y2-y1)*(x3-x1)).num*O.sgnI ((x2-x1)*(y4-y1)-(y2-y1)*(x4-x1)).num)<0)==true&&true)||true,!(decide (wi (O.sgnI ((x2-x1)*(y3-y1)-(y2-y1)*(x3-x1)).num*O.sgnI ((x2-x1)*(y4-y1)-(y2-y1)*(x4-x1)).num)<0)==true&&true)||true,!(decide (wi (O.sgnI ((x2-x1)*(y3-y1)-(y2-y1)*(x3-x1)).num*O.sgnI ((x2-x1)*(y4-y1)-(y2-y1)*(x4-x1)).num)<0)==true&&true)||true,!(decide (wi (O.sgnI ((x2-x1)*(y3-y1)-(y2-y1)*(x3-x1)).num*O.sgnI ((x2-x1)*(y4-y1)-(y2-y1)*(x4-x1)).num)<0)==true&&true)||true,!(decide (wi (O.sgnI ((x2-x1)*(y3-y1)-(y2-y1)*(x3-x1)).num*O.sgnI ((x2-x1)*(y4-y1)-(y2-y1)*(x4-x1)).num)<0)==true&&true)||true]) (calls:=[⟨true,false,93,[(Zfw x1 f1 f2 y1 f3 f4),(zNqM9 x3 f9 f10 y3 f11 f12)],[],(zNqM16 x3 x1 y3 y1),[]⟩,⟨true,false,94,[(ZgN x2 x1 y2 y1),(zNqM16 x3 x1 y3 y1)],[],ratF ((x2-x1)*(y3-y1)-(y2-y1)*(x3-x1)),[]⟩,⟨true,false,79,[ratF ((x2-x1)*(y3-y1)-(y2-y1)*(x3-x1))],[],vi (O.sgnI ((x2-x1)*(y3-y1)-(y2-y1)*(x3-x1)).num),[]⟩,⟨true,false,93,[(Zfw x1 f1 f2 y1 f3 f4),(zNqM15 x4 f13 f14 y4 f15 f16)],[],(zNqM17 x4 x1 y4 y1),[]⟩,⟨true,false,94,[(ZgN x2 x1 y2 y1),(zNqM17 x4 x1 y4 y1)],[],ratF ((x2-x1)*(y4-y1)-(y2-y1)*(x4-x1)),[]⟩,⟨true,false,79,[ratF ((x2-x1)*(y4-y1)-(y2-y1)*(x4-x1))],[],vi (O.sgnI ((x2-x1)*(y4-y1)-(y2-y1)*(x4-x1)).num),[]⟩,⟨decide (wi (O.sgnI ((x2-x1)*(y3-y1)-(y2-y1)*(x3-x1)).num*O.sgnI ((x2-x1)*(y4-y1)-(y2-y1)*(x4-x1)).num)<0)==true&&true&&true,false,93,[(zNqM9 x3 f9 f10 y3 f11 f12),(Zfw x1 f1 f2 y1 f3 f4)],[],(zNqM12 x1 x3 y1 y3),[]⟩,⟨decide (wi (O.sgnI ((x2-x1)*(y3-y1)-(y2-y1)*(x3-x1)).num*O.sgnI ((x2-x1)*(y4-y1)-(y2-y1)*(x4-x1)).num)<0)==true&&true&&true,false,94,[(zNqM8 x4 x3 y4 y3),(zNqM12 x1 x3 y1 y3)],[],ratF ((x4-x3)*(y1-y3)-(y4-y3)*(x1-x3)),[]⟩,⟨decide (wi (O.sgnI ((x2-x1)*(y3-y1)-(y2-y1)*(x3-x1)).num*O.sgnI ((x2-x1)*(y4-y1)-(y2-y1)*(x4-x1)).num)<0)==true&&true&&true,false,79,[ratF ((x4-x3)*(y1-y3)-(y4-y3)*(x1-x3))],[],vi (O.sgnI ((x4-x3)*(y1-y3)-(y4-y3)*(x1-x3)).num),[]⟩,⟨decide (wi (O.sgnI ((x2-x1)*(y3-y1)-(y2-y1)*(x3-x1)).num*O.sgnI ((x2-x1)*(y4-y1)-(y2-y1)*(x4-x1)).num)<0)==true&&true&&true,false,93,[(zNqM9 x3 f9 f10 y3 f11 f12),(zNqM14 x2 f5 f6 y2 f7 f8)],[],(zNqM13 x2 x3 y2 y3),[]⟩,⟨decide (wi (O.sgnI ((x2-x1)*(y3-y1)-(y2-y1)*(x3-x1)).num*O.sgnI ((x2-x1)*(y4-y1)-(y2-y1)*(x4-x1)).num)<0)==true&&true&&true,false,94,[(zNqM8 x4 x3 y4 y3),(zNqM13 x2 x3 y2 y3)],[],ratF ((x4-x3)*(y2-y3)-(y4-y3)*(x2-x3)),[]⟩,⟨decide (wi (O.sgnI ((x2-x1)*(y3-y1)-(y2-y1)*(x3-x1)).num*O.sgnI ((x2-x1)*(y4-y1)-(y2-y1)*(x4-x1)).num)<0)==true&&true&&true,false,79,[ratF ((x4-x3)*(y2-y3)-(y4-y3)*(x2-x3))],[],vi (O.sgnI ((x4-x3)*(y2-y3)-(y4-y3)*(x2-x3)).num),[]⟩]) (vb (bif decide (wi (O.sgnI ((x2-x1)*(y3-y1)-(y2-y1)*(x3-x1)).num*O.sgnI ((x2-x1)*(y4-y1)-(y2-y1)*(x4-x1)).num)<0) then decide (wi (O.sgnI ((x4-x3)*(y1-y3)-(y4-y3)*(x1-x3)).num*O.sgnI ((x4-x3)*(y2-y3)-(y4-y3)*(x2-x3)).num)<0) else false)) (by kernel_rfl) (bc rfl (bc rfl (bc rfl (bc rfl (bc rfl (bc rfl (bc (Bool.or_true _) (bc (Bool.or_true _) (bc (Bool.or_true _) (bc (Bool.or_true _) (bc (Bool.or_true _) (bc (Bool.or_true _) b0)))))))))))) q0 (cc (fun _=>(@ev93 f1 f2 f3 f4 f9 f10 f11 f12 x1 y1 x3 y3 k3)) (cc (fun _=>(@ev94 false false false false false false false false (x2-x1) (y2-y1) (x3-x1) (y3-y1) k4)) (cc (fun _=>(@ev79 false false (((x2-x1)*(y3-y1)-(y2-y1)*(x3-x1)).num) ((↑((x2-x1)*(y3-y1)-(y2-y1)*(x3-x1)).den:Int)))) (cc (fun _=>(@ev93 f1 f2 f3 f4 f13 f14 f15 f16 x1 y1 x4 y4 k5)) (cc (fun _=>(@ev94 false false false false false false false false (x2-x1) (y2-y1) (x4-x1) (y4-y1) k6)) (cc (fun _=>(@ev79 false false (((x2-x1)*(y4-y1)-(y2-y1)*(x4-x1)).num) ((↑((x2-x1)*(y4-y1)-(y2-y1)*(x4-x1)).den:Int)))) (cc (fun hc=>((@ev93 f9 f10 f11 f12 f1 f2 f3 f4 x3 y3 x1 y1 (k10 (i9.1 hc))):Ev M1 (Conf.pure 93 [(zNqM9 x3 f9 f10 y3 f11 f12),(Zfw x1 f1 f2 y1 f3 f4)]) ((zNqM12 x1 x3 y1 y3)) [])) (cc (fun hc=>((@ev94 false false false false false false false false (x4-x3) (y4-y3) (x1-x3) (y1-y3) (k12 (i11.1 hc))):Ev M1 (Conf.pure 94 [(zNqM8 x4 x3 y4 y3),(zNqM12 x1 x3 y1 y3)]) (ratF ((x4-x3)*(y1-y3)-(y4-y3)*(x1-x3))) [])) (cc (fun hc=>((@ev79 false false (((x4-x3)*(y1-y3)-(y4-y3)*(x1-x3)).num) ((↑((x4-x3)*(y1-y3)-(y4-y3)*(x1-x3)).den:Int))):Ev M1 (Conf.pure 79 [ratF ((x4-x3)*(y1-y3)-(y4-y3)*(x1-x3))]) (vi (O.sgnI ((x4-x3)*(y1-y3)-(y4-y3)*(x1-x3)).num)) [])) (cc (fun hc=>((@ev93 f9 f10 f11 f12 f5 f6 f7 f8 x3 y3 x2 y2 (k15 (i14.1 hc))):Ev M1 (Conf.pure 93 [(zNqM9 x3 f9 f10 y3 f11 f12),(zNqM14 x2 f5 f6 y2 f7 f8)]) ((zNqM13 x2 x3 y2 y3)) [])) (cc (fun hc=>((@ev94 false false false false false false false false (x4-x3) (y4-y3) (x2-x3) (y2-y3) (k17 (i16.1 hc))):Ev M1 (Conf.pure 94 [(zNqM8 x4 x3 y4 y3),(zNqM13 x2 x3 y2 y3)]) (ratF ((x4-x3)*(y2-y3)-(y4-y3)*(x2-x3))) [])) (cc (fun hc=>((@ev79 false false (((x4-x3)*(y2-y3)-(y4-y3)*(x2-x3)).num) ((↑((x4-x3)*(y2-y3)-(y4-y3)*(x2-x3)).den:Int))):Ev M1 (Conf.pure 79 [ratF ((x4-x3)*(y2-y3)-(y4-y3)*(x2-x3))]) (vi (O.sgnI ((x4-x3)*(y2-y3)-(y4-y3)*(x2-x3)).num)) [])) c0)))))))))))) (by (try rw [w8]);all_goals exact H)
end Go.Av

namespace Go.Av
open Go.Proofs
namespace O
noncomputable def tsg (x1 y1 x2 y2 x3 y3:Rat):Rat:=
 if (x2-x1)*(x3-x1)+(y2-y1)*(y3-y1)<=0 then (x3-x1)*(x3-x1)+(y3-y1)*(y3-y1)
 else if (x2-x1)*(x2-x1)+(y2-y1)*(y2-y1)<=(x2-x1)*(x3-x1)+(y2-y1)*(y3-y1) then (x3-x2)*(x3-x2)+(y3-y2)*(y3-y2)
 else ((x2-x1)*(y3-y1)-(y2-y1)*(x3-x1))*((x2-x1)*(y3-y1)-(y2-y1)*(x3-x1)) / ((x2-x1)*(x2-x1)+(y2-y1)*(y2-y1))
def crs (x1 y1 x2 y2 x3 y3 x4 y4:Rat):Prop:=
 sgnI ((x2-x1)*(y3-y1)-(y2-y1)*(x3-x1)).num*sgnI ((x2-x1)*(y4-y1)-(y2-y1)*(x4-x1)).num<0/\sgnI ((x4-x3)*(y1-y3)-(y4-y3)*(x1-x3)).num*sgnI ((x4-x3)*(y2-y3)-(y4-y3)*(x2-x3)).num<0
def okV (x y:Rat):Prop:=okT 10 x/\okT 10 y
def okV3 (x1 y1 x2 y2 x3 y3:Rat):Prop:=okV x1 y1/\okV x2 y2/\okV x3 y3
def okV4 (x1 y1 x2 y2 x3 y3 x4 y4:Rat):Prop:=okV x1 y1/\okV x2 y2/\okV x3 y3/\okV x4 y4
end O
instance (x1 y1 x2 y2 x3 y3 x4 y4:Rat):Decidable (O.crs x1 y1 x2 y2 x3 y3 x4 y4):=by unfold O.crs;infer_instance
theorem cmp_ge2 {r s:Rat}:O.sgnI (r.num*(s.den:Int)-s.num*(r.den:Int))>=0 ↔ s<=r:=by
 rw [Rat.le_iff]
 generalize r.num*(s.den:Int)=u
 generalize s.num*(r.den:Int)=v
 unfold O.sgnI
 split
 ·omega
 ·split <;> omega
theorem ZcF {r s:Rat}:O.sgnI (r.num*(s.den:Int)-s.num*(r.den:Int))<0 ↔ r<s:=by
 rw [<- Rat.not_le,<- cmp_ge2];omega
theorem sgn_le0 {d:Rat}:O.sgnI d.num<=0 ↔ d<=0:=by
 rw [Rat.le_iff]
 show _ ↔ d.num*(1:Int)<=0*_
 rw [Int.zero_mul,Int.mul_one]
 unfold O.sgnI
 split
 ·omega
 ·split <;> omega
theorem okW_V {x1 y1 x2 y2:Rat} (h:O.okV x1 y1) (k:O.okV x2 y2):O.okW x1 y1 x2 y2:=⟨⟨Zce h.1 (by omega),Zce h.2 (by omega)⟩,Zce k.1 (by omega),Zce k.2 (by omega)⟩
theorem okD_V {x1 y1 x2 y2 x3 y3 x4 y4:Rat} (h1:O.okV x1 y1) (h2:O.okV x2 y2) (h3:O.okV x3 y3) (h4:O.okV x4 y4):O.okD (x2-x1) (y2-y1) (x4-x3) (y4-y3):=
 ⟨⟨Zce (ZbR h2.1 h1.1) (by omega),Zce (ZbR h2.2 h1.2) (by omega)⟩,Zce (ZbR h4.1 h3.1) (by omega),Zce (ZbR h4.2 h3.2) (by omega)⟩
theorem ZfX {x1 y1 x2 y2 x3 y3 x4 y4:Rat} (h1:O.okV x1 y1) (h2:O.okV x2 y2) (h3:O.okV x3 y3) (h4:O.okV x4 y4):O.okT 100 ((x2-x1)*(x4-x3)+(y2-y1)*(y4-y3)):=
 Zce (okT_add (Zcr (ZbR h2.1 h1.1) (ZbR h4.1 h3.1)) (Zcr (ZbR h2.2 h1.2) (ZbR h4.2 h3.2))) (by omega)
theorem okT_crs {x1 y1 x2 y2 x3 y3 x4 y4:Rat} (h1:O.okV x1 y1) (h2:O.okV x2 y2) (h3:O.okV x3 y3) (h4:O.okV x4 y4):O.okT 100 ((x2-x1)*(y4-y3)-(y2-y1)*(x4-x3)):=
 Zce (ZbR (Zcr (ZbR h2.1 h1.1) (ZbR h4.2 h3.2)) (Zcr (ZbR h2.2 h1.2) (ZbR h4.1 h3.1))) (by omega)
theorem okT_dv {k m:Nat} {r s:Rat} (h:O.okT k r) (h2:O.okT m s) (h0:s.num ≠ 0):O.okT (k+m) (r / s):=by
 have e:=Zgi (p:=r.num*(s.den:Int)) (q:=(r.den:Int)*s.num) (Int.mul_ne_zero (ZcD r) h0)
 rw [rat_div] at e
 exact ⟨Nat.le_trans (Zbm e.1) (Zbe h.1 (Zbs h2.2)),Nat.le_trans (Zbm e.2) (Zbe (Zbs h.2) h2.1)⟩
theorem Zdg {x1 y1 x2 y2 x3 y3:Rat} (h1:O.okV x1 y1) (h2:O.okV x2 y2) (h3:O.okV x3 y3):O.okT 400 (O.tsg x1 y1 x2 y2 x3 y3):=by
 unfold O.tsg
 split
 ·exact Zce (ZfX h1 h3 h1 h3) (by omega)
 ·split
  ·exact Zce (ZfX h2 h3 h2 h3) (by omega)
  ·rename_i n1 n2
   refine Zce (okT_dv (Zcr (okT_crs h1 h2 h1 h3) (okT_crs h1 h2 h1 h3)) (ZfX h1 h2 h1 h2) fun e => ?_) (by omega)
   have:=Rat.num_eq_zero.1 e
   rw [this] at n2
   grind
theorem ev82 (f1 f2 f3 f4 f5 f6 f7 f8 f9 f10 f11 f12:Bool) (x1 y1 x2 y2 x3 y3:Rat) (h:O.okV3 x1 y1 x2 y2 x3 y3):Ev M1 (.pure 82 [vecA f1 f2 f3 f4 x1 y1,vecA f5 f6 f7 f8 x2 y2,vecA f9 f10 f11 f12 x3 y3]) (ratF (O.tsg x1 y1 x2 y2 x3 y3)) []:=by
 obtain ⟨h1,h2,h3⟩:=h
 have dd:=ZfX h1 h2 h1 h2
 have dt:=ZfX h1 h2 h1 h3
 have cr:=okT_crs h1 h2 h1 h3
 refine call82 (qToS _ _ _ _ _ _ _ _ _ _ _ _ _ _ _ _ _ _ _ ⟨okW_V h1 h2,okW_V h1 h3,okD_V h1 h2 h1 h2,okD_V h1 h2 h1 h3,fun k=>⟨okD_V h1 h3 h1 h3,?_⟩,fun k=>⟨⟨Zcc dt (by omega),Zcc dd (by omega)⟩,fun j=>⟨okW_V h2 h3,okD_V h2 h3 h2 h3,?_⟩,fun j=>⟨⟨Zcc cr (by omega),Zcc cr (by omega)⟩,⟨Zcc (Zcr cr cr) (by omega),Zcc dd (by omega),fun e => ?_⟩,?_⟩⟩⟩)
 ·unfold O.tsg;rw [if_pos (sgn_le0.1 k)];exact .refl _
 ·unfold O.tsg;rw [if_neg fun x=>k (sgn_le0.2 x),if_pos (cmp_ge2.1 j)];exact .refl _
 ·have e0:=Rat.num_eq_zero.1 e
  have k0:¬_:=fun x=>k (sgn_le0.2 x)
  have j0:¬_:=fun x=>j (cmp_ge2.2 x)
  rw [e0] at j0
  grind
 ·unfold O.tsg;rw [if_neg fun x=>k (sgn_le0.2 x),if_neg fun x=>j (cmp_ge2.2 x)];exact .refl _
theorem sgn_bd (n:Int):-1<=O.sgnI n/\O.sgnI n<=1:=by
 unfold O.sgnI
 split
 ·omega
 ·split <;> omega
theorem ZgV (m n:Int):-1<=O.sgnI m*O.sgnI n/\O.sgnI m*O.sgnI n<=1:=by
 have a:=sgn_bd m
 have b:=sgn_bd n
 have c:O.sgnI m = -1\/O.sgnI m=0\/O.sgnI m=1:=by omega
 rcases c with c | c | c <;> rw [c] <;> omega
theorem crs_bool (x1 y1 x2 y2 x3 y3 x4 y4:Rat):(bif decide (O.sgnI ((x2-x1)*(y3-y1)-(y2-y1)*(x3-x1)).num*O.sgnI ((x2-x1)*(y4-y1)-(y2-y1)*(x4-x1)).num<0) then decide (IntKind.i64.wrap (O.sgnI ((x4-x3)*(y1-y3)-(y4-y3)*(x1-x3)).num*O.sgnI ((x4-x3)*(y2-y3)-(y4-y3)*(x2-x3)).num)<0) else false)=decide (O.crs x1 y1 x2 y2 x3 y3 x4 y4):=by
 have b:=ZgV ((x4-x3)*(y1-y3)-(y4-y3)*(x1-x3)).num ((x4-x3)*(y2-y3)-(y4-y3)*(x2-x3)).num
 rw [w64 _ (by omega),Za0]
 exact ZbU Iff.rfl
theorem ev81 (f1 f2 f3 f4 f5 f6 f7 f8 f9 f10 f11 f12 f13 f14 f15 f16:Bool) (x1 y1 x2 y2 x3 y3 x4 y4:Rat) (h:O.okV4 x1 y1 x2 y2 x3 y3 x4 y4):Ev M1 (.pure 81 [vecA f1 f2 f3 f4 x1 y1,vecA f5 f6 f7 f8 x2 y2,vecA f9 f10 f11 f12 x3 y3,vecA f13 f14 f15 f16 x4 y4]) (.bool (decide (O.crs x1 y1 x2 y2 x3 y3 x4 y4))) []:=by
 obtain ⟨h1,h2,h3,h4⟩:=h
 have b:=ZgV ((x2-x1)*(y3-y1)-(y2-y1)*(x3-x1)).num ((x2-x1)*(y4-y1)-(y2-y1)*(x4-x1)).num
 exact call81 (qCrs _ _ _ _ _ _ _ _ _ _ _ _ _ _ _ _ _ _ _ _ _ _ _ _ _ ⟨okW_V h1 h2,okW_V h3 h4,okW_V h1 h3,okD_V h1 h2 h1 h3,okW_V h1 h4,okD_V h1 h2 h1 h4,by omega,fun _=>okW_V h3 h1,fun _=>okD_V h3 h4 h3 h1,fun _=>okW_V h3 h2,fun _=>okD_V h3 h4 h3 h2,congrArg AV.bool (crs_bool _ _ _ _ _ _ _ _)⟩)
end Go.Av

namespace Go.Av
open Go.Proofs
set_option maxRecDepth 100000
def fi48:Fi:=⟨80,[.tmp 2]⟩
def kp48:List (Nat × List Nat):=[(0,[1]),(1,[1,3]),(2,[1,3,4]),(3,[1,3,4,43]),(4,[1,3,4]),(5,[1,4,5]),(6,[1,3,4]),(7,[79]),(8,[2]),(9,[2])]
def fi49:Fi:=⟨72,[.tmp 2]⟩
def kp49:List (Nat × List Nat):=[(0,[1]),(1,[1,38]),(2,[2]),(3,[1,40,41,42]),(4,[1,40,41,42,43]),(5,[1,4,40,41,42]),(6,[1,40,41,42,70]),(7,[2]),(8,[1,40,41,42]),(9,[2])]
def fi73:Fi:=⟨47,[.cell 8 110]⟩
def kp73:List (Nat × List Nat):=[(0,[4,5,6,7,8]),(1,[4,5,6,7,8,16]),(2,[8]),(3,[4,5,6,7,8,9]),(4,[8,9,34,35,36]),(5,[8,9,34,35,36,37]),(6,[8,9,11,34,35,36]),(7,[8,9,11,34,35,36,43]),(8,[8,9,34,35,36]),(9,[8,9,34,35,36]),(10,[8])]
def qSeg_at (f1 f2 f3 f4 f5 f6 f7 f8 f9 f10 f11 f12 f13 f14 f15 f16:Bool) (x1 y1 x2 y2 x3 y3 x4 y4:Rat) (Q:AV->Heap->Prop):Prop:=Wp M1 (.run fi73 (atC (cd Try.f73) []) [(0,.agg [.bool (O.Zac x1.num),.vec f1 1 ((O.Zag x1.num).map (.int .u32)),.bool (O.Zac (x1.den:Int)),.vec f2 1 ((O.Zag (x1.den:Int)).map (.int .u32)),.bool (O.Zac y1.num),.vec f3 1 ((O.Zag y1.num).map (.int .u32)),.bool (O.Zac (y1.den:Int)),.vec f4 1 ((O.Zag (y1.den:Int)).map (.int .u32))]),(1,.agg [.bool (O.Zac x2.num),.vec f5 1 ((O.Zag x2.num).map (.int .u32)),.bool (O.Zac (x2.den:Int)),.vec f6 1 ((O.Zag (x2.den:Int)).map (.int .u32)),.bool (O.Zac y2.num),.vec f7 1 ((O.Zag y2.num).map (.int .u32)),.bool (O.Zac (y2.den:Int)),.vec f8 1 ((O.Zag (y2.den:Int)).map (.int .u32))]),(2,.agg [.bool (O.Zac x3.num),.vec f9 1 ((O.Zag x3.num).map (.int .u32)),.bool (O.Zac (x3.den:Int)),.vec f10 1 ((O.Zag (x3.den:Int)).map (.int .u32)),.bool (O.Zac y3.num),.vec f11 1 ((O.Zag y3.num).map (.int .u32)),.bool (O.Zac (y3.den:Int)),.vec f12 1 ((O.Zag (y3.den:Int)).map (.int .u32))]),(3,.agg [.bool (O.Zac x4.num),.vec f13 1 ((O.Zag x4.num).map (.int .u32)),.bool (O.Zac (x4.den:Int)),.vec f14 1 ((O.Zag (x4.den:Int)).map (.int .u32)),.bool (O.Zac y4.num),.vec f15 1 ((O.Zag y4.num).map (.int .u32)),.bool (O.Zac (y4.den:Int)),.vec f16 1 ((O.Zag (y4.den:Int)).map (.int .u32))])] []) Q
def Zfh (q r1 r2 r3:Rat) (Q:AV->Heap->Prop):Prop:=Wp M1 (.run fi73 (atC (cd Try.f73) [1,1,1,0,1,0,0]) [(8,.ptr 0 0 0 0),(9,.ptr 1 0 0 0),(34,.vec true 4 [ratF r1,ratF r2,ratF r3]),(35,.int .i64 3),(36,.int .i64 0)] [⟨[.agg [.bool false,.vnil,.bool false,.vnil]],4,0,false,false⟩,⟨[ratF q],4,0,false,false⟩]) Q
def Zd8 (q r1 r2 r3:Rat) (Q:AV->Heap->Prop):Prop:=Wp M1 (.run fi73 (atC (cd Try.f73) [1,1,1,0,1,0,0]) [(8,.ptr 0 0 0 0),(9,.ptr 1 0 0 0),(34,.vec true 4 [ratF r1,ratF r2,ratF r3]),(35,.int .i64 3),(36,.int .i64 1)] [⟨[.agg [.bool false,.vnil,.bool false,.vnil]],4,0,false,false⟩,⟨[ratF q],4,0,false,false⟩]) Q
def Zd7 (q r1 r2 r3:Rat) (Q:AV->Heap->Prop):Prop:=Wp M1 (.run fi73 (atC (cd Try.f73) [1,1,1,0,1,0,0]) [(8,.ptr 0 0 0 0),(9,.ptr 1 0 0 0),(34,.vec true 4 [ratF r1,ratF r2,ratF r3]),(35,.int .i64 3),(36,.int .i64 2)] [⟨[.agg [.bool false,.vnil,.bool false,.vnil]],4,0,false,false⟩,⟨[ratF q],4,0,false,false⟩]) Q
def Zd6 (q r1 r2 r3:Rat) (Q:AV->Heap->Prop):Prop:=Wp M1 (.run fi73 (atC (cd Try.f73) [1,1,1,0,1,0,0]) [(8,.ptr 0 0 0 0),(9,.ptr 1 0 0 0),(34,.vec true 4 [ratF r1,ratF r2,ratF r3]),(35,.int .i64 3),(36,.int .i64 3)] [⟨[.agg [.bool false,.vnil,.bool false,.vnil]],4,0,false,false⟩,⟨[ratF q],4,0,false,false⟩]) Q
def qVal_at (f:Bool) (cs:List Bx) (u0 v0 u1 v1 th gp sf:Int) (Q:AV->Heap->Prop):Prop:=Wp M1 (.run fi49 (atC (cd Try.f49) []) [(0,.agg [.int .i64 u0,.int .i64 v0,.int .i64 u1,.int .i64 v1,.int .i64 th,.int .i64 gp,.vec f 5 (cs.map Bx.a),.int .i64 sf])] []) Q
def Zd5 (f:Bool) (cs:List Bx) (u0 v0 u1 v1 th gp sf:Int) (n i:Int) (Q:AV->Heap->Prop):Prop:=Wp M1 (.run fi49 (atC (cd Try.f49) [1,1,0,1,0,0]) [(1,.ptr 0 0 0 0),(40,.vec f 5 (cs.map Bx.a)),(41,.int .i64 n),(42,.int .i64 i)] [⟨[.agg [.int .i64 u0,.int .i64 v0,.int .i64 u1,.int .i64 v1,.int .i64 th,.int .i64 gp,.vec f 5 (cs.map Bx.a),.int .i64 sf]],8,0,false,false⟩]) Q
def qValR_at (f:Bool) (cs:List Bx) (u0 v0 u1 v1 th gp sf:Int) (Q:AV->Heap->Prop):Prop:=Wp M1 (.run fi48 (atC (cd Try.f48) []) [(0,.agg [.int .i64 u0,.int .i64 v0,.int .i64 u1,.int .i64 v1,.int .i64 th,.int .i64 gp,.vec f 5 (cs.map Bx.a),.int .i64 sf])] []) Q
def Zdb (f:Bool) (cs:List Bx) (u0 v0 u1 v1 th gp sf:Int) (ok:Bool) (i:Int) (Q:AV->Heap->Prop):Prop:=Wp M1 (.run fi48 (atC (cd Try.f48) [1,1,0,1,0,0]) [(1,.ptr 0 0 0 0),(3,.bool ok),(4,.int .i64 i)] [⟨[.agg [.int .i64 u0,.int .i64 v0,.int .i64 u1,.int .i64 v1,.int .i64 th,.int .i64 gp,.vec f 5 (cs.map Bx.a),.int .i64 sf]],8,0,false,false⟩]) Q
theorem call48 {args:List AV} {d:AV} (h:wc M1 fi48 Try.f48 args d):Ev M1 (.pure 48 args) d []:=pcl _ _ (by kernel_rfl) h
theorem call49 {args:List AV} {d:AV} (h:wc M1 fi49 Try.f49 args d):Ev M1 (.pure 49 args) d []:=pcl _ _ (by kernel_rfl) h
theorem call73 {args:List AV} {d:AV} (h:wc M1 fi73 Try.f73 args d):Ev M1 (.pure 73 args) d []:=pcl _ _ (by kernel_rfl) h
noncomputable abbrev zNqN1 (x1:Rat) (f1:Bool) (f2:Bool) (y1:Rat) (f3:Bool) (f4:Bool):=ag [vb (O.Zac x1.num),AV.vec f1 1 (us (O.Zag x1.num)),vb (O.Zac (↑x1.den:Int)),AV.vec f2 1 (us (O.Zag (↑x1.den:Int))),vb (O.Zac y1.num),AV.vec f3 1 (us (O.Zag y1.num)),vb (O.Zac (↑y1.den:Int)),AV.vec f4 1 (us (O.Zag (↑y1.den:Int)))]
noncomputable abbrev zNqN2 (x2:Rat) (f5:Bool) (f6:Bool) (y2:Rat) (f7:Bool) (f8:Bool):=ag [vb (O.Zac x2.num),AV.vec f5 1 (us (O.Zag x2.num)),vb (O.Zac (↑x2.den:Int)),AV.vec f6 1 (us (O.Zag (↑x2.den:Int))),vb (O.Zac y2.num),AV.vec f7 1 (us (O.Zag y2.num)),vb (O.Zac (↑y2.den:Int)),AV.vec f8 1 (us (O.Zag (↑y2.den:Int)))]
noncomputable abbrev zNqN3 (x3:Rat) (f9:Bool) (f10:Bool) (y3:Rat) (f11:Bool) (f12:Bool):=ag [vb (O.Zac x3.num),AV.vec f9 1 (us (O.Zag x3.num)),vb (O.Zac (↑x3.den:Int)),AV.vec f10 1 (us (O.Zag (↑x3.den:Int))),vb (O.Zac y3.num),AV.vec f11 1 (us (O.Zag y3.num)),vb (O.Zac (↑y3.den:Int)),AV.vec f12 1 (us (O.Zag (↑y3.den:Int)))]
noncomputable abbrev zNqN4 (x4:Rat) (f13:Bool) (f14:Bool) (y4:Rat) (f15:Bool) (f16:Bool):=ag [vb (O.Zac x4.num),AV.vec f13 1 (us (O.Zag x4.num)),vb (O.Zac (↑x4.den:Int)),AV.vec f14 1 (us (O.Zag (↑x4.den:Int))),vb (O.Zac y4.num),AV.vec f15 1 (us (O.Zag y4.num)),vb (O.Zac (↑y4.den:Int)),AV.vec f16 1 (us (O.Zag (↑y4.den:Int)))]
theorem qSeg (f1 f2 f3 f4 f5 f6 f7 f8 f9 f10 f11 f12 f13 f14 f15 f16:Bool) (x1 y1 x2 y2 x3 y3 x4 y4:Rat)  (dq:AV) (H :
  (O.okV4 x1 y1 x2 y2 x3 y3 x4 y4) /\
  ((O.crs x1 y1 x2 y2 x3 y3 x4 y4)->(O.inI 0) /\
   Weak (ratF (O.qi 0)) dq) /\
  (¬(O.crs x1 y1 x2 y2 x3 y3 x4 y4)->(O.okV3 x1 y1 x2 y2 x3 y3) /\
   (O.okV3 x1 y1 x2 y2 x4 y4) /\
   (O.okV3 x3 y3 x4 y4 x1 y1) /\
   (O.okV3 x3 y3 x4 y4 x2 y2) /\
   Zfh (O.tsg x1 y1 x2 y2 x3 y3) (O.tsg x1 y1 x2 y2 x4 y4) (O.tsg x3 y3 x4 y4 x1 y1) (O.tsg x3 y3 x4 y4 x2 y2) (Zaf dq))) :
 qSeg_at f1 f2 f3 f4 f5 f6 f7 f8 f9 f10 f11 f12 f13 f14 f15 f16 x1 y1 x2 y2 x3 y3 x4 y4 (Zaf dq):=by
 unfold qSeg_at
 obtain ⟨k1,H⟩:=H
 refine Zae (G:=Zad kp73 [(1,4,.call (vb (decide (O.crs x1 y1 x2 y2 x3 y3 x4 y4))) none)] []) 5 [] ⟨(atC (cd Try.f73) [1,0,1]),[(4,AV.ptr 0 0 0 0),(5,AV.ptr 1 0 0 0),(6,AV.ptr 2 0 0 0),(7,AV.ptr 3 0 0 0),(8,AV.ptr 4 0 0 0),(16,vb (decide (O.crs x1 y1 x2 y2 x3 y3 x4 y4)))],[⟨[(zNqN1 x1 f1 f2 y1 f3 f4)],8,0,false,false⟩,⟨[(zNqN2 x2 f5 f6 y2 f7 f8)],8,0,false,false⟩,⟨[(zNqN3 x3 f9 f10 y3 f11 f12)],8,0,false,false⟩,⟨[(zNqN4 x4 f13 f14 y4 f15 f16)],8,0,false,false⟩,⟨[ag [vb false,AV.vnil,vb false,AV.vnil]],4,0,false,false⟩],_,[],_⟩ (by kernel_rfl) (bc rfl (bc rfl (bc rfl (bc rfl b0)))) q0 (ce (@ev81 f1 f2 f3 f4 f5 f6 f7 f8 f9 f10 f11 f12 f13 f14 f15 f16 x1 y1 x2 y2 x3 y3 x4 y4 k1) c0) ?_
 rcases xq H with ⟨d3,H⟩|⟨d3,H⟩
 ·obtain ⟨k4,H⟩:=H
  exact Zaq (G:=Zad kp73 [(2,0,.call (ratF (O.qi 0)) none)] []) 1000 [true] (ratF (O.qi 0)) (by kernel_rfl) (bc (Zak (Zab.2 d3)) (bc rfl b0)) q0 (ce (@ev69 0 k4) c0) H
 ·obtain ⟨k5,k6,k7,k8,H⟩:=H
  exact Zae (G:=Zad kp73 [(3,3,.call (ratF (O.tsg x1 y1 x2 y2 x3 y3)) none),(4,3,.call (ratF (O.tsg x1 y1 x2 y2 x4 y4)) none),(4,7,.call (ratF (O.tsg x3 y3 x4 y4 x1 y1)) none),(4,11,.call (ratF (O.tsg x3 y3 x4 y4 x2 y2)) none)] []) 1000 [false] ⟨(atC (cd Try.f73) [1,1,1,0,1,0,0]),[(8,AV.ptr 4 0 0 0),(9,AV.ptr 5 0 0 0),(34,AV.vec true 4 [ratF (O.tsg x1 y1 x2 y2 x4 y4),ratF (O.tsg x3 y3 x4 y4 x1 y1),ratF (O.tsg x3 y3 x4 y4 x2 y2)]),(35,vi 3),(36,vi 0)],[⟨[(zNqN1 x1 f1 f2 y1 f3 f4)],8,0,false,false⟩,⟨[(zNqN2 x2 f5 f6 y2 f7 f8)],8,0,false,false⟩,⟨[(zNqN3 x3 f9 f10 y3 f11 f12)],8,0,false,false⟩,⟨[(zNqN4 x4 f13 f14 y4 f15 f16)],8,0,false,false⟩,⟨[ag [vb false,AV.vnil,vb false,AV.vnil]],4,0,false,false⟩,⟨[ratF (O.tsg x1 y1 x2 y2 x3 y3)],4,0,false,false⟩],_,[],_⟩ (by kernel_rfl) (bc (Zah (fun h=>d3 (Zab.1 h))) (bc rfl (bc rfl (bc rfl (bc rfl (bc rfl (bc rfl (bc rfl (bc rfl (bc rfl (bc rfl (bc rfl (bc rfl (bc rfl b0)))))))))))))) q0 (ce (@ev82 f1 f2 f3 f4 f5 f6 f7 f8 f9 f10 f11 f12 x1 y1 x2 y2 x3 y3 k5) (ce (@ev82 f1 f2 f3 f4 f5 f6 f7 f8 f13 f14 f15 f16 x1 y1 x2 y2 x4 y4 k6) (ce (@ev82 f9 f10 f11 f12 f13 f14 f15 f16 f1 f2 f3 f4 x3 y3 x4 y4 x1 y1 k7) (ce (@ev82 f9 f10 f11 f12 f13 f14 f15 f16 f5 f6 f7 f8 x3 y3 x4 y4 x2 y2 k8) c0)))) (Zas [4,5] (by kernel_rfl) H)
noncomputable abbrev zNqN5:=ag [vb false,AV.vnil,vb false,AV.vnil]
theorem qSeg0 (q r1 r2 r3:Rat)  (dq:AV) (H :
  (O.okR r1/\O.okR q) /\
  ((O.sgnI (r1.num*(↑q.den:Int)-q.num*(↑r1.den:Int))<0)->Zd8 r1 r1 r2 r3 (Zaf dq)) /\
  (¬(O.sgnI (r1.num*(↑q.den:Int)-q.num*(↑r1.den:Int))<0)->Zd8 q r1 r2 r3 (Zaf dq))) :
 Zfh q r1 r2 r3 (Zaf dq):=by
 unfold Zfh
 obtain ⟨k1,H⟩:=H
 refine Zae (G:=Zad kp73 [(7,2,.call (vi (O.sgnI (r1.num*(↑q.den:Int)-q.num*(↑r1.den:Int)))) none)] []) 11 [true] ⟨(atC (cd Try.f73) [1,1,1,0,1,0,0,1,1,0,0,1,1]),[(8,AV.ptr 0 0 0 0),(9,AV.ptr 1 0 0 0),(11,AV.ptr 2 0 0 0),(34,AV.vec true 4 [ratF r1,ratF r2,ratF r3]),(35,vi 3),(36,vi 0),(43,vb (decide (O.sgnI (r1.num*(↑q.den:Int)-q.num*(↑r1.den:Int))<0)))],[⟨[zNqN5],4,0,false,false⟩,⟨[ratF q],4,0,false,false⟩,⟨[ratF r1],4,0,false,false⟩],_,[],_⟩ (by kernel_rfl) (bc rfl (bc rfl (bc rfl (bc rfl (bc rfl (bc rfl b0)))))) q0 (ce (@ev72 false false false false r1 q k1) c0) ?_
 rcases xq H with ⟨d3,H⟩|⟨d3,H⟩
 ·exact Zae (G:=Zad kp73 [] []) 1000 [true] ⟨(atC (cd Try.f73) [1,1,1,0,1,0,0]),[(8,AV.ptr 0 0 0 0),(9,AV.ptr 1 0 0 0),(34,AV.vec true 4 [ratF r1,ratF r2,ratF r3]),(35,vi 3),(36,vi 1)],[⟨[zNqN5],4,0,false,false⟩,⟨[ratF r1],4,0,false,false⟩,⟨[ratF r1],4,0,false,false⟩],_,[],_⟩ (by kernel_rfl) (bc (Zak (Zab.2 d3)) (bc rfl (bc rfl b0))) q0 c0 (Zas [0,1] (by kernel_rfl) H)
 ·exact Zae (G:=Zad kp73 [] []) 1000 [false] ⟨(atC (cd Try.f73) [1,1,1,0,1,0,0]),[(8,AV.ptr 0 0 0 0),(9,AV.ptr 1 0 0 0),(34,AV.vec true 4 [ratF r1,ratF r2,ratF r3]),(35,vi 3),(36,vi 1)],[⟨[zNqN5],4,0,false,false⟩,⟨[ratF q],4,0,false,false⟩,⟨[ratF r1],4,0,false,false⟩],_,[],_⟩ (by kernel_rfl) (bc (Zah (fun h=>d3 (Zab.1 h))) b0) q0 c0 (Zas [0,1] (by kernel_rfl) H)
noncomputable abbrev zNqN6:=ag [vb false,AV.vnil,vb false,AV.vnil]
theorem qSeg1 (q r1 r2 r3:Rat)  (dq:AV) (H :
  (O.okR r2/\O.okR q) /\
  ((O.sgnI (r2.num*(↑q.den:Int)-q.num*(↑r2.den:Int))<0)->Zd7 r2 r1 r2 r3 (Zaf dq)) /\
  (¬(O.sgnI (r2.num*(↑q.den:Int)-q.num*(↑r2.den:Int))<0)->Zd7 q r1 r2 r3 (Zaf dq))) :
 Zd8 q r1 r2 r3 (Zaf dq):=by
 unfold Zd8
 obtain ⟨k1,H⟩:=H
 refine Zae (G:=Zad kp73 [(7,2,.call (vi (O.sgnI (r2.num*(↑q.den:Int)-q.num*(↑r2.den:Int)))) none)] []) 11 [true] ⟨(atC (cd Try.f73) [1,1,1,0,1,0,0,1,1,0,0,1,1]),[(8,AV.ptr 0 0 0 0),(9,AV.ptr 1 0 0 0),(11,AV.ptr 2 0 0 0),(34,AV.vec true 4 [ratF r1,ratF r2,ratF r3]),(35,vi 3),(36,vi 1),(43,vb (decide (O.sgnI (r2.num*(↑q.den:Int)-q.num*(↑r2.den:Int))<0)))],[⟨[zNqN6],4,0,false,false⟩,⟨[ratF q],4,0,false,false⟩,⟨[ratF r2],4,0,false,false⟩],_,[],_⟩ (by kernel_rfl) (bc rfl (bc rfl (bc rfl (bc rfl (bc rfl (bc rfl b0)))))) q0 (ce (@ev72 false false false false r2 q k1) c0) ?_
 rcases xq H with ⟨d3,H⟩|⟨d3,H⟩
 ·exact Zae (G:=Zad kp73 [] []) 1000 [true] ⟨(atC (cd Try.f73) [1,1,1,0,1,0,0]),[(8,AV.ptr 0 0 0 0),(9,AV.ptr 1 0 0 0),(34,AV.vec true 4 [ratF r1,ratF r2,ratF r3]),(35,vi 3),(36,vi 2)],[⟨[zNqN6],4,0,false,false⟩,⟨[ratF r2],4,0,false,false⟩,⟨[ratF r2],4,0,false,false⟩],_,[],_⟩ (by kernel_rfl) (bc (Zak (Zab.2 d3)) (bc rfl (bc rfl b0))) q0 c0 (Zas [0,1] (by kernel_rfl) H)
 ·exact Zae (G:=Zad kp73 [] []) 1000 [false] ⟨(atC (cd Try.f73) [1,1,1,0,1,0,0]),[(8,AV.ptr 0 0 0 0),(9,AV.ptr 1 0 0 0),(34,AV.vec true 4 [ratF r1,ratF r2,ratF r3]),(35,vi 3),(36,vi 2)],[⟨[zNqN6],4,0,false,false⟩,⟨[ratF q],4,0,false,false⟩,⟨[ratF r2],4,0,false,false⟩],_,[],_⟩ (by kernel_rfl) (bc (Zah (fun h=>d3 (Zab.1 h))) b0) q0 c0 (Zas [0,1] (by kernel_rfl) H)
noncomputable abbrev zNqN7:=ag [vb false,AV.vnil,vb false,AV.vnil]
theorem qSeg2 (q r1 r2 r3:Rat)  (dq:AV) (H :
  (O.okR r3/\O.okR q) /\
  ((O.sgnI (r3.num*(↑q.den:Int)-q.num*(↑r3.den:Int))<0)->Zd6 r3 r1 r2 r3 (Zaf dq)) /\
  (¬(O.sgnI (r3.num*(↑q.den:Int)-q.num*(↑r3.den:Int))<0)->Zd6 q r1 r2 r3 (Zaf dq))) :
 Zd7 q r1 r2 r3 (Zaf dq):=by
 unfold Zd7
 obtain ⟨k1,H⟩:=H
 refine Zae (G:=Zad kp73 [(7,2,.call (vi (O.sgnI (r3.num*(↑q.den:Int)-q.num*(↑r3.den:Int)))) none)] []) 11 [true] ⟨(atC (cd Try.f73) [1,1,1,0,1,0,0,1,1,0,0,1,1]),[(8,AV.ptr 0 0 0 0),(9,AV.ptr 1 0 0 0),(11,AV.ptr 2 0 0 0),(34,AV.vec true 4 [ratF r1,ratF r2,ratF r3]),(35,vi 3),(36,vi 2),(43,vb (decide (O.sgnI (r3.num*(↑q.den:Int)-q.num*(↑r3.den:Int))<0)))],[⟨[zNqN7],4,0,false,false⟩,⟨[ratF q],4,0,false,false⟩,⟨[ratF r3],4,0,false,false⟩],_,[],_⟩ (by kernel_rfl) (bc rfl (bc rfl (bc rfl (bc rfl (bc rfl (bc rfl b0)))))) q0 (ce (@ev72 false false false false r3 q k1) c0) ?_
 rcases xq H with ⟨d3,H⟩|⟨d3,H⟩
 ·exact Zae (G:=Zad kp73 [] []) 1000 [true] ⟨(atC (cd Try.f73) [1,1,1,0,1,0,0]),[(8,AV.ptr 0 0 0 0),(9,AV.ptr 1 0 0 0),(34,AV.vec true 4 [ratF r1,ratF r2,ratF r3]),(35,vi 3),(36,vi 3)],[⟨[zNqN7],4,0,false,false⟩,⟨[ratF r3],4,0,false,false⟩,⟨[ratF r3],4,0,false,false⟩],_,[],_⟩ (by kernel_rfl) (bc (Zak (Zab.2 d3)) (bc rfl (bc rfl b0))) q0 c0 (Zas [0,1] (by kernel_rfl) H)
 ·exact Zae (G:=Zad kp73 [] []) 1000 [false] ⟨(atC (cd Try.f73) [1,1,1,0,1,0,0]),[(8,AV.ptr 0 0 0 0),(9,AV.ptr 1 0 0 0),(34,AV.vec true 4 [ratF r1,ratF r2,ratF r3]),(35,vi 3),(36,vi 3)],[⟨[zNqN7],4,0,false,false⟩,⟨[ratF q],4,0,false,false⟩,⟨[ratF r3],4,0,false,false⟩],_,[],_⟩ (by kernel_rfl) (bc (Zah (fun h=>d3 (Zab.1 h))) b0) q0 c0 (Zas [0,1] (by kernel_rfl) H)
theorem qSeg3 (q r1 r2 r3:Rat)  (dq:AV) (H :
  Weak (ratF q) dq) :
 Zd6 q r1 r2 r3 (Zaf dq):=by
 unfold Zd6
 exact Zaq (G:=Zad kp73 [] []) 1000 [false] (ratF q) (by kernel_rfl) (bc rfl (bc rfl (bc rfl b0))) q0 c0 H
theorem qVal (f:Bool) (cs:List Bx) (u0 v0 u1 v1 th gp sf:Int)  (dq:AV) (H :
  ((((((¬(O.rct u0 v0 u1 v1))\/(¬(O.wth th 1)))\/(¬(O.wth gp 0)))\/(¬(O.wth sf 1)))\/((↑cs.length:Int)>50))->vi 1=dq) /\
  (¬(((((¬(O.rct u0 v0 u1 v1))\/(¬(O.wth th 1)))\/(¬(O.wth gp 0)))\/(¬(O.wth sf 1)))\/((↑cs.length:Int)>50))->Zd5 f cs u0 v0 u1 v1 th gp sf ((↑cs.length:Int)) 0 (Zaf dq))) :
 qVal_at f cs u0 v0 u1 v1 th gp sf (Zaf dq):=by
 unfold qVal_at
 have w4:(List.map Bx.a cs).length=cs.length:=List.length_map ..
 have i5:(bif bif bif bif !decide (O.rct u0 v0 u1 v1) then true else !decide (O.wth th 1) then true else !decide (O.wth gp 0) then true else !decide (O.wth sf 1) then true else decide ((↑(List.map Bx.a cs).length:Int)>50))=true ↔ (((((¬(O.rct u0 v0 u1 v1))\/(¬(O.wth th 1)))\/(¬(O.wth gp 0)))\/(¬(O.wth sf 1)))\/((↑cs.length:Int)>50)):=(by (try rw [w4]);all_goals exact (ZaC (ZaC (ZaC (ZaC (ZaS Zab) (ZaS Zab)) (ZaS Zab)) (ZaS Zab)) Zab))
 refine Zae (G:=Zad kp49 [(1,8,.call (vb (decide (O.rct u0 v0 u1 v1))) none),(1,13,.call (vb (decide (O.wth th 1))) none),(1,19,.call (vb (decide (O.wth gp 0))) none),(1,25,.call (vb (decide (O.wth sf 1))) none)] []) 5 [] ⟨(atC (cd Try.f49) [1,0,1]),[(1,AV.ptr 0 0 0 0),(38,vb (bif bif bif bif !decide (O.rct u0 v0 u1 v1) then true else !decide (O.wth th 1) then true else !decide (O.wth gp 0) then true else !decide (O.wth sf 1) then true else decide ((↑(List.map Bx.a cs).length:Int)>50)))],[⟨[ag [vi u0,vi v0,vi u1,vi v1,vi th,vi gp,AV.vec f 5 (List.map Bx.a cs),vi sf]],8,0,false,false⟩],[true,true,true,true,!((!decide (O.rct u0 v0 u1 v1))==false&&true)||true,!((bif !decide (O.rct u0 v0 u1 v1) then true else !decide (O.wth th 1))==false&&true)||true,!((bif bif !decide (O.rct u0 v0 u1 v1) then true else !decide (O.wth th 1) then true else !decide (O.wth gp 0))==false&&true)||true,!((bif bif bif !decide (O.rct u0 v0 u1 v1) then true else !decide (O.wth th 1) then true else !decide (O.wth gp 0) then true else !decide (O.wth sf 1))==false&&true)||true],[],[⟨true,false,63,[vi u0,vi v0,vi u1,vi v1],[],vb (decide (O.rct u0 v0 u1 v1)),[]⟩,⟨(!decide (O.rct u0 v0 u1 v1))==false&&true&&true,false,64,[vi th,vi 1],[],vb (decide (O.wth th 1)),[]⟩,⟨(bif !decide (O.rct u0 v0 u1 v1) then true else !decide (O.wth th 1))==false&&true&&true,false,64,[vi gp,vi 0],[],vb (decide (O.wth gp 0)),[]⟩,⟨(bif bif !decide (O.rct u0 v0 u1 v1) then true else !decide (O.wth th 1) then true else !decide (O.wth gp 0))==false&&true&&true,false,64,[vi sf,vi 1],[],vb (decide (O.wth sf 1)),[]⟩]⟩ (by kernel_rfl) (bc rfl (bc rfl (bc rfl (bc rfl (bc (Bool.or_true _) (bc (Bool.or_true _) (bc (Bool.or_true _) (bc (Bool.or_true _) b0)))))))) q0 (cc (fun _=>(@ev63 u0 v0 u1 v1)) (cc (fun hc=>((@ev64 th 1):Ev M1 (Conf.pure 64 [vi th,vi 1]) (vb (decide (O.wth th 1))) [])) (cc (fun hc=>((@ev64 gp 0):Ev M1 (Conf.pure 64 [vi gp,vi 0]) (vb (decide (O.wth gp 0))) [])) (cc (fun hc=>((@ev64 sf 1):Ev M1 (Conf.pure 64 [vi sf,vi 1]) (vb (decide (O.wth sf 1))) [])) c0)))) ?_
 rcases xq H with ⟨d6,H⟩|⟨d6,H⟩
 ·exact Zai (G:=Zad kp49 [] []) 1000 [true] (vi 1) (by kernel_rfl) (bc (Zak (i5.2 d6)) b0) q0 c0 H
 ·exact Zae (G:=Zad kp49 [] []) 1000 [false] ⟨(atC (cd Try.f49) [1,1,0,1,0,0]),[(1,AV.ptr 0 0 0 0),(40,AV.vec f 5 (List.map Bx.a cs)),(41,vi (↑(List.map Bx.a cs).length:Int)),(42,vi 0)],[⟨[ag [vi u0,vi v0,vi u1,vi v1,vi th,vi gp,AV.vec f 5 (List.map Bx.a cs),vi sf]],8,0,false,false⟩],_,[],_⟩ (by kernel_rfl) (bc (Zah (fun h=>d6 (i5.1 h))) (bc rfl b0)) q0 c0 (by (try rw [w4]);all_goals exact H)
noncomputable abbrev zNqN8 (cs:List Bx) (i:Int):=O.rct (cs.getD i.toNat default).x0 (cs.getD i.toNat default).y0 (cs.getD i.toNat default).x1 (cs.getD i.toNat default).y1
noncomputable abbrev zNqN9 (cs:List Bx) (i:Int):=ag [vi (cs.getD i.toNat default).x0,vi (cs.getD i.toNat default).y0,vi (cs.getD i.toNat default).x1,vi (cs.getD i.toNat default).y1,vi (cs.getD i.toNat default).top]
noncomputable abbrev ZgL (cs:List Bx) (i:Int) (th:Int) (gp:Int):=O.wth (cs.getD i.toNat default).top (0-th-gp)
theorem qValL (f:Bool) (cs:List Bx) (u0 v0 u1 v1 th gp sf:Int) (n i:Int)  (dq:AV) (H :
  ((i<n)->(0<=i) /\
   (i.toNat<cs.length) /\
   ((¬(¬(O.rct (cs.getD i.toNat default).x0 (cs.getD i.toNat default).y0 (cs.getD i.toNat default).x1 (cs.getD i.toNat default).y1)))->(O.okTb th gp)) /\
   ((((¬(O.rct (cs.getD i.toNat default).x0 (cs.getD i.toNat default).y0 (cs.getD i.toNat default).x1 (cs.getD i.toNat default).y1))\/(¬(O.wth (cs.getD i.toNat default).top (0-th-gp))))\/((cs.getD i.toNat default).top>=sf))->vi 1=dq) /\
   (¬(((¬(O.rct (cs.getD i.toNat default).x0 (cs.getD i.toNat default).y0 (cs.getD i.toNat default).x1 (cs.getD i.toNat default).y1))\/(¬(O.wth (cs.getD i.toNat default).top (0-th-gp))))\/((cs.getD i.toNat default).top>=sf))->(-9223372036854775808<=i+1/\i+1<=9223372036854775807) /\
    Zd5 f cs u0 v0 u1 v1 th gp sf n (i+1) (Zaf dq))) /\
  (¬(i<n)->vi 0=dq)) :
 Zd5 f cs u0 v0 u1 v1 th gp sf n i (Zaf dq):=by
 unfold Zd5
 rcases xq H with ⟨d2,H⟩|⟨d2,H⟩
 ·obtain ⟨k4,H⟩:=H
  have w5:(List.map Bx.a cs).length=cs.length:=List.length_map ..
  have i6:(decide (i.toNat<(List.map Bx.a cs).length))=true ↔ (i.toNat<cs.length):=(by (try rw [w5]);all_goals exact Zab)
  obtain ⟨k7,k9,H⟩:=H
  refine Zae (G:=Zad kp49 [(5,1,.elem ((zNqN9 cs i))),(6,8,.call (vb (decide (zNqN8 cs i))) none),(6,14,.call (vi (0-th-gp)) none),(6,15,.call (vb (decide (ZgL cs i th gp))) none)] []) 11 [true] ⟨(atC (cd Try.f49) [1,1,0,1,0,0,1,1,0,0,1,1]),[(1,AV.ptr 0 0 0 0),(40,AV.vec f 5 (List.map Bx.a cs)),(41,vi n),(42,vi i),(70,vb (bif bif !decide (zNqN8 cs i) then true else !decide (ZgL cs i th gp) then true else decide ((cs.getD i.toNat default).top>=sf)))],[⟨[ag [vi u0,vi v0,vi u1,vi v1,vi th,vi gp,AV.vec f 5 (List.map Bx.a cs),vi sf]],8,0,false,false⟩,⟨[(zNqN9 cs i)],5,0,false,false⟩],[(decide (i<n))==true,decide (0<=i),decide (i.toNat<(List.map Bx.a cs).length),true,true,true,true,true,!((!decide (zNqN8 cs i))==false&&true)||true,!((!decide (zNqN8 cs i))==false&&true)||true,!((bif !decide (zNqN8 cs i) then true else !decide (ZgL cs i th gp))==false&&true)||true,!((bif !decide (zNqN8 cs i) then true else !decide (ZgL cs i th gp))==false&&true)||true],[((List.map Bx.a cs).get?Internal i.toNat=some ((zNqN9 cs i)))],[⟨true,false,63,[vi (cs.getD i.toNat default).x0,vi (cs.getD i.toNat default).y0,vi (cs.getD i.toNat default).x1,vi (cs.getD i.toNat default).y1],[],vb (decide (zNqN8 cs i)),[]⟩,⟨(!decide (zNqN8 cs i))==false&&true&&true,false,65,[ag [vi u0,vi v0,vi u1,vi v1,vi th,vi gp,AV.vec f 5 (List.map Bx.a cs),vi sf]],[],vi (0-th-gp),[]⟩,⟨(!decide (zNqN8 cs i))==false&&true&&true,false,64,[vi (cs.getD i.toNat default).top,vi (0-th-gp)],[],vb (decide (ZgL cs i th gp)),[]⟩]⟩ (by kernel_rfl) (bc (Zak (Zab.2 d2)) (bc (Zab.2 k4) (bc (i6.2 k7) (bc rfl (bc rfl (bc rfl (bc rfl (bc rfl (bc (Bool.or_true _) (bc (Bool.or_true _) (bc (Bool.or_true _) (bc (Bool.or_true _) b0)))))))))))) (qc (Zal k7) q0) (cc (fun _=>(@ev63 ((cs.getD i.toNat default).x0) ((cs.getD i.toNat default).y0) ((cs.getD i.toNat default).x1) ((cs.getD i.toNat default).y1))) (cc (fun hc=>((@ev65 f cs u0 v0 u1 v1 th gp sf (k9 ((i_at (i_at (i_bf (ZaS Zab)))).1 hc))):Ev M1 (Conf.pure 65 [ag [vi u0,vi v0,vi u1,vi v1,vi th,vi gp,AV.vec f 5 (List.map Bx.a cs),vi sf]]) (vi (0-th-gp)) [])) (cc (fun hc=>((@ev64 ((cs.getD i.toNat default).top) (0-th-gp)):Ev M1 (Conf.pure 64 [vi (cs.getD i.toNat default).top,vi (0-th-gp)]) (vb (decide (ZgL cs i th gp))) [])) c0))) ?_
  rcases xq H with ⟨d12,H⟩|⟨d12,H⟩
  ·exact Zai (G:=Zad kp49 [] []) 1000 [true] (vi 1) (by kernel_rfl) (bc (Zak ((ZaC (ZaC (ZaS Zab) (ZaS Zab)) Zab).2 d12)) b0) q0 c0 H
  ·obtain ⟨k13,H⟩:=H
   have w14:wi (i+1)=i+1:=wI64 k13
   exact Zae (G:=Zad kp49 [] []) 1000 [false] ⟨(atC (cd Try.f49) [1,1,0,1,0,0]),[(1,AV.ptr 0 0 0 0),(40,AV.vec f 5 (List.map Bx.a cs)),(41,vi n),(42,vi (wi (i+1)))],[⟨[ag [vi u0,vi v0,vi u1,vi v1,vi th,vi gp,AV.vec f 5 (List.map Bx.a cs),vi sf]],8,0,false,false⟩,⟨[(zNqN9 cs i)],5,0,false,false⟩],_,[],_⟩ (by kernel_rfl) (bc (Zah (fun h=>d12 ((ZaC (ZaC (ZaS Zab) (ZaS Zab)) Zab).1 h))) b0) q0 c0 (by (try rw [w14]);all_goals exact Zas [0] (by kernel_rfl) H)
 ·exact Zai (G:=Zad kp49 [] []) 1000 [false] (vi 0) (by kernel_rfl) (bc (Zah (fun h=>d2 (Zab.1 h))) b0) q0 c0 H
theorem qValR (f:Bool) (cs:List Bx) (u0 v0 u1 v1 th gp sf:Int)  (dq:AV) (H :
  Zdb f cs u0 v0 u1 v1 th gp sf (bif bif bif bif decide (O.rct u0 v0 u1 v1) then decide (O.wth th 1) else false then decide (O.wth gp 0) else false then decide ((↑cs.length:Int)<=50) else false then decide (O.wth sf 1) else false) 0 (Zaf dq)) :
 qValR_at f cs u0 v0 u1 v1 th gp sf (Zaf dq):=by
 unfold qValR_at
 have w3:(List.map Bx.a cs).length=cs.length:=List.length_map ..
 have i4:((bif bif bif decide (O.rct u0 v0 u1 v1) then decide (O.wth th 1) else false then decide (O.wth gp 0) else false then decide ((↑(List.map Bx.a cs).length:Int)<=50) else false)==true&&true&&true)=true ↔ ((((O.rct u0 v0 u1 v1)/\(O.wth th 1))/\(O.wth gp 0))/\((↑cs.length:Int)<=50)):=(by (try rw [w3]);all_goals exact (i_at (i_at (i_bt (ZaD (ZaD (ZaD Zab Zab) Zab) Zab)))))
 exact Zae (G:=Zad kp48 [(1,8,.call (vb (decide (O.rct u0 v0 u1 v1))) none),(1,12,.call (vb (decide (O.wth th 1))) none),(1,17,.call (vb (decide (O.wth gp 0))) none),(1,28,.call (vb (decide (O.wth sf 1))) none)] []) 1000 [] ⟨(atC (cd Try.f48) [1,1,0,1,0,0]),[(1,AV.ptr 0 0 0 0),(3,vb (bif bif bif bif decide (O.rct u0 v0 u1 v1) then decide (O.wth th 1) else false then decide (O.wth gp 0) else false then decide ((↑(List.map Bx.a cs).length:Int)<=50) else false then decide (O.wth sf 1) else false)),(4,vi 0)],[⟨[ag [vi u0,vi v0,vi u1,vi v1,vi th,vi gp,AV.vec f 5 (List.map Bx.a cs),vi sf]],8,0,false,false⟩],[true,true,true,true,!(decide (O.rct u0 v0 u1 v1)==true&&true)||true,!((bif decide (O.rct u0 v0 u1 v1) then decide (O.wth th 1) else false)==true&&true)||true,!((bif bif decide (O.rct u0 v0 u1 v1) then decide (O.wth th 1) else false then decide (O.wth gp 0) else false)==true&&true)||true,!((bif bif bif decide (O.rct u0 v0 u1 v1) then decide (O.wth th 1) else false then decide (O.wth gp 0) else false then decide ((↑(List.map Bx.a cs).length:Int)<=50) else false)==true&&true)||true],[],[⟨true,false,61,[vi u0,vi v0,vi u1,vi v1],[],vb (decide (O.rct u0 v0 u1 v1)),[]⟩,⟨decide (O.rct u0 v0 u1 v1)==true&&true&&true,false,62,[vi th,vi 1],[],vb (decide (O.wth th 1)),[]⟩,⟨(bif decide (O.rct u0 v0 u1 v1) then decide (O.wth th 1) else false)==true&&true&&true,false,62,[vi gp,vi 0],[],vb (decide (O.wth gp 0)),[]⟩,⟨(bif bif bif decide (O.rct u0 v0 u1 v1) then decide (O.wth th 1) else false then decide (O.wth gp 0) else false then decide ((↑(List.map Bx.a cs).length:Int)<=50) else false)==true&&true&&true,false,62,[vi sf,vi 1],[],vb (decide (O.wth sf 1)),[]⟩]⟩ (by kernel_rfl) (bc rfl (bc rfl (bc rfl (bc rfl (bc (Bool.or_true _) (bc (Bool.or_true _) (bc (Bool.or_true _) (bc (Bool.or_true _) b0)))))))) q0 (cc (fun _=>(@ev61 u0 v0 u1 v1)) (cc (fun hc=>((@ev62 th 1):Ev M1 (Conf.pure 62 [vi th,vi 1]) (vb (decide (O.wth th 1))) [])) (cc (fun hc=>((@ev62 gp 0):Ev M1 (Conf.pure 62 [vi gp,vi 0]) (vb (decide (O.wth gp 0))) [])) (cc (fun hc=>((@ev62 sf 1):Ev M1 (Conf.pure 62 [vi sf,vi 1]) (vb (decide (O.wth sf 1))) [])) c0)))) (by (try rw [w3]);all_goals exact H)
noncomputable abbrev ZdX (cs:List Bx) (i:Int):=O.rct (cs.getD i.toNat default).x0 (cs.getD i.toNat default).y0 (cs.getD i.toNat default).x1 (cs.getD i.toNat default).y1
noncomputable abbrev zNqN12 (cs:List Bx) (i:Int):=ag [vi (cs.getD i.toNat default).x0,vi (cs.getD i.toNat default).y0,vi (cs.getD i.toNat default).x1,vi (cs.getD i.toNat default).y1,vi (cs.getD i.toNat default).top]
noncomputable abbrev ZgK (cs:List Bx) (i:Int) (th:Int) (gp:Int):=O.wth (cs.getD i.toNat default).top (0-th-gp)
theorem qValRL (f:Bool) (cs:List Bx) (u0 v0 u1 v1 th gp sf:Int) (ok:Bool) (i:Int)  (dq:AV) (H :
  (((i<(↑cs.length:Int))/\(ok=true))->(0<=i) /\
   (i.toNat<cs.length) /\
   (-9223372036854775808<=0-th/\0-th<=9223372036854775807) /\
   (-9223372036854775808<=0-th-gp/\0-th-gp<=9223372036854775807) /\
   (-9223372036854775808<=i+1/\i+1<=9223372036854775807) /\
   Zdb f cs u0 v0 u1 v1 th gp sf (bif bif decide (O.rct (cs.getD i.toNat default).x0 (cs.getD i.toNat default).y0 (cs.getD i.toNat default).x1 (cs.getD i.toNat default).y1) then decide (O.wth (cs.getD i.toNat default).top (0-th-gp)) else false then decide ((cs.getD i.toNat default).top<sf) else false) (i+1) (Zaf dq)) /\
  (¬((i<(↑cs.length:Int))/\(ok=true))->((¬(ok=true))->vi 1=dq) /\
   (¬(¬(ok=true))->vi 0=dq))) :
 Zdb f cs u0 v0 u1 v1 th gp sf ok i (Zaf dq):=by
 unfold Zdb
 have w1:(List.map Bx.a cs).length=cs.length:=List.length_map ..
 have i2:(bif decide (i<(↑(List.map Bx.a cs).length:Int)) then ok else false)=true ↔ ((i<(↑cs.length:Int))/\(ok=true)):=(by (try rw [w1]);all_goals exact (ZaD Zab (ZaI _)))
 rcases xq H with ⟨d3,H⟩|⟨d3,H⟩
 ·obtain ⟨k5,H⟩:=H
  have i6:(decide (i.toNat<(List.map Bx.a cs).length))=true ↔ (i.toNat<cs.length):=(by (try rw [w1]);all_goals exact Zab)
  obtain ⟨k7,k8,H⟩:=H
  have w9:wi (0-th)=0-th:=wI64 k8
  obtain ⟨k10,H⟩:=H
  have w11:wi (0-th-gp)=0-th-gp:=wI64 k10
  obtain ⟨k13,H⟩:=H
  have w14:wi (i+1)=i+1:=wI64 k13
  exact Zae (G:=Zad kp48 [(5,4,.elem ((zNqN12 cs i))),(6,8,.call (vb (decide (ZdX cs i))) none),(6,18,.call (vb (decide (ZgK cs i th gp))) none)] []) 1000 [true] ⟨(atC (cd Try.f48) [1,1,0,1,0,0]),[(1,AV.ptr 0 0 0 0),(3,vb (bif bif decide (ZdX cs i) then decide (ZgK cs i th gp) else false then decide ((cs.getD i.toNat default).top<sf) else false)),(4,vi (wi (i+1)))],[⟨[ag [vi u0,vi v0,vi u1,vi v1,vi th,vi gp,AV.vec f 5 (List.map Bx.a cs),vi sf]],8,0,false,false⟩,⟨[(zNqN12 cs i)],5,0,false,false⟩],[true,(bif decide (i<(↑(List.map Bx.a cs).length:Int)) then ok else false)==true,true,decide (0<=i),decide (i.toNat<(List.map Bx.a cs).length),true,true,true,true,true,!(decide (ZdX cs i)==true&&true)||true,!(decide (ZdX cs i)==true&&true)||true,!(decide (ZdX cs i)==true&&true)||true,!((bif decide (ZdX cs i) then decide (ZgK cs i th gp) else false)==true&&true)||true,!((bif decide (ZdX cs i) then decide (ZgK cs i th gp) else false)==true&&true)||true],[((List.map Bx.a cs).get?Internal i.toNat=some ((zNqN12 cs i)))],[⟨true,false,61,[vi (cs.getD i.toNat default).x0,vi (cs.getD i.toNat default).y0,vi (cs.getD i.toNat default).x1,vi (cs.getD i.toNat default).y1],[],vb (decide (ZdX cs i)),[]⟩,⟨decide (ZdX cs i)==true&&true&&true,false,62,[vi (cs.getD i.toNat default).top,vi (wi (wi (0-th)-gp))],[],vb (decide (ZgK cs i th gp)),[]⟩]⟩ (by kernel_rfl) (bc rfl (bc (Zak (i2.2 d3)) (bc rfl (bc (Zab.2 k5) (bc (i6.2 k7) (bc rfl (bc rfl (bc rfl (bc rfl (bc rfl (bc (Bool.or_true _) (bc (Bool.or_true _) (bc (Bool.or_true _) (bc (Bool.or_true _) (bc (Bool.or_true _) b0))))))))))))))) (qc (Zal k7) q0) (cc (fun _=>(@ev61 ((cs.getD i.toNat default).x0) ((cs.getD i.toNat default).y0) ((cs.getD i.toNat default).x1) ((cs.getD i.toNat default).y1))) (cc (fun hc=>((by (try rw [w9]);(try rw [w11]);all_goals exact (@ev62 ((cs.getD i.toNat default).top) (0-th-gp))):Ev M1 (Conf.pure 62 [vi (cs.getD i.toNat default).top,vi (wi (wi (0-th)-gp))]) (vb (decide (ZgK cs i th gp))) [])) c0)) (by (try rw [w14]);all_goals exact Zas [0] (by kernel_rfl) H)
 ·rcases xq H with ⟨d16,H⟩|⟨d16,H⟩
  ·exact Zai (G:=Zad kp48 [] []) 1000 [false,true] (asm:=[true,(bif decide (i<(↑(List.map Bx.a cs).length:Int)) then ok else false)==false,(!ok)==true]) (vi 1) (by kernel_rfl) (bc rfl (bc (Zah (fun h=>d3 (i2.1 h))) (bc (Zak ((ZaS (ZaI _)).2 d16)) b0))) q0 c0 H
  ·exact Zai (G:=Zad kp48 [] []) 1000 [false,false] (asm:=[true,(bif decide (i<(↑(List.map Bx.a cs).length:Int)) then ok else false)==false,(!ok)==false]) (vi 0) (by kernel_rfl) (bc rfl (bc (Zah (fun h=>d3 (i2.1 h))) (bc (Zah (fun h=>d16 ((ZaS (ZaI _)).1 h))) b0))) q0 c0 H
end Go.Av

namespace Go.Av
open Go.Proofs
namespace O
noncomputable def mn (r q:Rat):Rat:=if r<q then r else q
noncomputable def seg (x1 y1 x2 y2 x3 y3 x4 y4:Rat):Rat:=
 if crs x1 y1 x2 y2 x3 y3 x4 y4 then qi 0 else mn (tsg x3 y3 x4 y4 x2 y2) (mn (tsg x3 y3 x4 y4 x1 y1) (mn (tsg x1 y1 x2 y2 x4 y4) (tsg x1 y1 x2 y2 x3 y3)))
def vaC (th gp sf:Int) (c:Bx):Prop:=rct c.x0 c.y0 c.x1 c.y1/\wth c.top (0-th-gp)/\c.top<sf
def vaP (cs:List Bx) (u0 v0 u1 v1 th gp sf:Int):Prop:=rct u0 v0 u1 v1/\wth th 1/\wth gp 0/\wth sf 1/\cs.length<=50 /\ ∀ c ∈ cs,vaC th gp sf c
open Classical in
noncomputable def vaE (cs:List Bx) (u0 v0 u1 v1 th gp sf:Int):Int:=if vaP cs u0 v0 u1 v1 th gp sf then 0 else 1
end O
theorem okT_mn {k:Nat} {r q:Rat} (h:O.okT k r) (h2:O.okT k q):O.okT k (O.mn r q):=by
 unfold O.mn
 split
 ·exact h
 ·exact h2
theorem mn_y {r q:Rat} (h:O.sgnI (r.num*(q.den:Int)-q.num*(r.den:Int))<0):O.mn r q=r:=if_pos (ZcF.1 h)
theorem mn_n {r q:Rat} (h:¬O.sgnI (r.num*(q.den:Int)-q.num*(r.den:Int))<0):O.mn r q=q:=if_neg fun x=>h (ZcF.2 x)
theorem seg_loop {q r1 r2 r3:Rat} (h:O.okT 400 q) (h1:O.okT 400 r1) (h2:O.okT 400 r2) (h3:O.okT 400 r3):Zfh q r1 r2 r3 (Zaf (ratF (O.mn r3 (O.mn r2 (O.mn r1 q))))):=by
 have R {r:Rat} (h:O.okT 400 r):O.okR r:=Zcc h (by omega)
 have s3:∀ q,Zd6 q r1 r2 r3 (Zaf (ratF q)):=fun q=>qSeg3 _ _ _ _ _ (.refl _)
 have s2:∀ q,O.okT 400 q->Zd7 q r1 r2 r3 (Zaf (ratF (O.mn r3 q))):=fun q hq=>qSeg2 _ _ _ _ _ ⟨⟨R h3,R hq⟩,fun k=>by rw [mn_y k];exact s3 _,fun k=>by rw [mn_n k];exact s3 _⟩
 have s1:∀ q,O.okT 400 q->Zd8 q r1 r2 r3 (Zaf (ratF (O.mn r3 (O.mn r2 q)))):=fun q hq=>qSeg1 _ _ _ _ _ ⟨⟨R h2,R hq⟩,fun k=>by rw [mn_y k];exact s2 _ h2,fun k=>by rw [mn_n k];exact s2 _ hq⟩
 exact qSeg0 _ _ _ _ _ ⟨⟨R h1,R h⟩,fun k=>by rw [mn_y k];exact s1 _ h1,fun k=>by rw [mn_n k];exact s1 _ h⟩
theorem okT_seg {x1 y1 x2 y2 x3 y3 x4 y4:Rat} (h:O.okV4 x1 y1 x2 y2 x3 y3 x4 y4):O.okT 400 (O.seg x1 y1 x2 y2 x3 y3 x4 y4):=by
 obtain ⟨h1,h2,h3,h4⟩:=h
 unfold O.seg
 split
 ·exact Zce (okT_int (by unfold O.inI;omega)) (by omega)
 ·exact okT_mn (Zdg h3 h4 h2) (okT_mn (Zdg h3 h4 h1) (okT_mn (Zdg h1 h2 h4) (Zdg h1 h2 h3)))
theorem ev73 (f1 f2 f3 f4 f5 f6 f7 f8 f9 f10 f11 f12 f13 f14 f15 f16:Bool) (x1 y1 x2 y2 x3 y3 x4 y4:Rat) (h:O.okV4 x1 y1 x2 y2 x3 y3 x4 y4):Ev M1 (.pure 73 [vecA f1 f2 f3 f4 x1 y1,vecA f5 f6 f7 f8 x2 y2,vecA f9 f10 f11 f12 x3 y3,vecA f13 f14 f15 f16 x4 y4]) (ratF (O.seg x1 y1 x2 y2 x3 y3 x4 y4)) []:=by
 have h0:=h
 obtain ⟨h1,h2,h3,h4⟩:=h
 refine call73 (qSeg _ _ _ _ _ _ _ _ _ _ _ _ _ _ _ _ _ _ _ _ _ _ _ _ _ ⟨h0,fun k=>⟨by unfold O.inI;omega,?_⟩,fun k=>⟨⟨h1,h2,h3⟩,⟨h1,h2,h4⟩,⟨h3,h4,h1⟩,⟨h3,h4,h2⟩,?_⟩⟩)
 ·unfold O.seg;rw [if_pos k];exact .refl _
 ·unfold O.seg;rw [if_neg k];exact seg_loop (Zdg h1 h2 h3) (Zdg h1 h2 h4) (Zdg h3 h4 h1) (Zdg h3 h4 h2)
section
variable {f:Bool} {cs:List Bx} {u0 v0 u1 v1 th gp sf:Int}
theorem va_y (h:O.vaP cs u0 v0 u1 v1 th gp sf):O.vaE cs u0 v0 u1 v1 th gp sf=0:=if_pos h
theorem va_n (h:¬O.vaP cs u0 v0 u1 v1 th gp sf):O.vaE cs u0 v0 u1 v1 th gp sf=1:=if_neg h
theorem val_loop (h:O.rct u0 v0 u1 v1/\O.wth th 1/\O.wth gp 0/\O.wth sf 1/\cs.length<=50) (m:Nat):∀ i:Nat,i+m=cs.length->(∀ j,j<i->O.vaC th gp sf (cs.getD j default))->Zd5 f cs u0 v0 u1 v1 th gp sf cs.length i (Zaf (.int .i64 (O.vaE cs u0 v0 u1 v1 th gp sf))):=by
 obtain ⟨h1,h2,h3,h4,h5⟩:=h
 have tb:O.okTb th gp:=by unfold O.wth at h2 h3;unfold O.okTb O.inI;omega
 induction m with
 | zero =>
  intro i e hj
  refine qValL _ _ _ _ _ _ _ _ _ _ _ _ ⟨fun x=>by omega,fun _ => ?_⟩
  rw [va_y ⟨h1,h2,h3,h4,h5,fun c hc=>by
   obtain ⟨j,hj2,rfl⟩:=List.mem_iff_getElem.1 hc
   have:=hj j (by omega)
   rwa [List.getD_eq_getElem?_getD,List.getElem?_eq_getElem hj2,Option.getD_some] at this⟩]
 | succ m ih =>
  intro i e hj
  have hi:i<cs.length:=by omega
  refine qValL _ _ _ _ _ _ _ _ _ _ _ _ ⟨fun x => ?_,fun x=>by omega⟩
  rw [Int.toNat_natCast,show (i:Int)+1=((i+1:Nat):Int) by omega]
  refine ⟨by omega,hi,fun _=>tb,fun bad => ?_,fun ok=>⟨by omega,ih (i+1) (by omega) (Zbw hj ?_)⟩⟩
  ·rw [va_n fun v => ?_]
   have:=v.2.2.2.2.2 _ (ZaZ hi)
   rcases bad with (b | b) | b
   ·exact b this.1
   ·exact b this.2.1
   ·have:=this.2.2;omega
  ·exact ⟨Classical.not_not.1 fun x=>ok (.inl (.inl x)),Classical.not_not.1 fun x=>ok (.inl (.inr x)),by omega⟩
theorem valR_loop (hN:cs.length<=1000) (m:Nat):∀ (i:Nat) (ok:Bool),i+m=cs.length->(ok=true ↔ (O.rct u0 v0 u1 v1/\O.wth th 1/\O.wth gp 0/\O.wth sf 1/\cs.length<=50) /\ ∀ j,j<i->O.vaC th gp sf (cs.getD j default))->Zdb f cs u0 v0 u1 v1 th gp sf ok i (Zaf (.int .i64 (O.vaE cs u0 v0 u1 v1 th gp sf))):=by
 have no:∀ i:Nat,¬((O.rct u0 v0 u1 v1/\O.wth th 1/\O.wth gp 0/\O.wth sf 1/\cs.length<=50) /\ ∀ j,j<i->O.vaC th gp sf (cs.getD j default))->i<=cs.length->O.vaE cs u0 v0 u1 v1 th gp sf=1:=fun i h hi=>va_n fun v=>h ⟨⟨v.1,v.2.1,v.2.2.1,v.2.2.2.1,v.2.2.2.2.1⟩,fun j hj=>v.2.2.2.2.2 _ (ZaZ (by omega))⟩
 induction m with
 | zero =>
  intro i ok e hok
  refine qValRL _ _ _ _ _ _ _ _ _ _ _ _ ⟨fun x=>by omega,fun _=>⟨fun k => ?_,fun k => ?_⟩⟩
  ·rw [no i (fun x=>k (hok.2 x)) (by omega)]
  ·obtain ⟨⟨h1,h2,h3,h4,h5⟩,hj⟩:=hok.1 (Classical.not_not.1 k)
   rw [va_y ⟨h1,h2,h3,h4,h5,fun c hc=>by
    obtain ⟨j,hj2,rfl⟩:=List.mem_iff_getElem.1 hc
    have:=hj j (by omega)
    rwa [List.getD_eq_getElem?_getD,List.getElem?_eq_getElem hj2,Option.getD_some] at this⟩]
 | succ m ih =>
  intro i ok e hok
  have hi:i<cs.length:=by omega
  cases ok with
  | false =>
   refine qValRL _ _ _ _ _ _ _ _ _ _ _ _ ⟨fun x=>absurd x.2 (by decide),fun _=>⟨fun k => ?_,fun k=>absurd (by decide) k⟩⟩
   rw [no i (fun x=>absurd (hok.2 x) (by decide)) (by omega)]
  | true =>
   obtain ⟨H,hj⟩:=hok.1 rfl
   have b1:=H.2.1
   have b2:=H.2.2.1
   unfold O.wth at b1 b2
   refine qValRL _ _ _ _ _ _ _ _ _ _ _ _ ⟨fun x => ?_,fun x=>absurd ⟨by omega,rfl⟩ x⟩
   rw [Int.toNat_natCast,show (i:Int)+1=((i+1:Nat):Int) by omega,Za0,Za0]
   refine ⟨by omega,hi,by omega,by omega,by omega,ih (i+1) _ (by omega) ?_⟩
   rw [decide_eq_true_iff]
   constructor
   ·rintro ⟨⟨a,b⟩,c⟩;exact ⟨H,Zbw hj ⟨a,b,c⟩⟩
   ·rintro ⟨_,k⟩;have:=k i (by omega);exact ⟨⟨this.1,this.2.1⟩,this.2.2⟩
end
theorem ev49 (f:Bool) (cs:List Bx) (u0 v0 u1 v1 th gp sf:Int):Ev M1 (.pure 49 [.agg [.int .i64 u0,.int .i64 v0,.int .i64 u1,.int .i64 v1,.int .i64 th,.int .i64 gp,.vec f 5 (cs.map Bx.a),.int .i64 sf]]) (.int .i64 (O.vaE cs u0 v0 u1 v1 th gp sf)) []:=by
 refine call49 (qVal _ _ _ _ _ _ _ _ _ _ ⟨fun k => ?_,fun k => ?_⟩)
 ·rw [va_n fun v => ?_]
  rcases k with (((k | k) | k) | k) | k
  ·exact k v.1
  ·exact k v.2.1
  ·exact k v.2.2.1
  ·exact k v.2.2.2.1
  ·have:=v.2.2.2.2.1;omega
 ·exact val_loop ⟨Classical.not_not.1 fun x=>k (.inl (.inl (.inl (.inl x)))),Classical.not_not.1 fun x=>k (.inl (.inl (.inl (.inr x)))),Classical.not_not.1 fun x=>k (.inl (.inl (.inr x))),Classical.not_not.1 fun x=>k (.inl (.inr x)),by omega⟩ cs.length 0 (by omega) (fun j h=>absurd h (Nat.not_lt_zero j))
theorem ev48 (f:Bool) (cs:List Bx) (u0 v0 u1 v1 th gp sf:Int) (h:cs.length<=1000):Ev M1 (.pure 48 [.agg [.int .i64 u0,.int .i64 v0,.int .i64 u1,.int .i64 v1,.int .i64 th,.int .i64 gp,.vec f 5 (cs.map Bx.a),.int .i64 sf]]) (.int .i64 (O.vaE cs u0 v0 u1 v1 th gp sf)) []:=by
 refine call48 (qValR _ _ _ _ _ _ _ _ _ _ (valR_loop h cs.length 0 _ (by omega) ?_))
 rw [Za0,Za0,Za0,Za0,decide_eq_true_iff]
 constructor
 ·rintro ⟨⟨⟨⟨a,b⟩,c⟩,d⟩,e⟩;exact ⟨⟨a,b,c,e,by omega⟩,fun j h=>absurd h (Nat.not_lt_zero j)⟩
 ·rintro ⟨⟨a,b,c,d,e⟩,_⟩;exact ⟨⟨⟨⟨a,b⟩,c⟩,by omega⟩,d⟩
end Go.Av

namespace Go.Av
open Go.Proofs
set_option maxRecDepth 100000
def fi67:Fi:=⟨82,[.tmp 8]⟩
def kp67:List (Nat × List Nat):=[(0,[3,4,5,6]),(1,[3,4,5,6,16]),(2,[8]),(3,[3,4,5,6,24]),(4,[8]),(5,[4,5,6,9]),(6,[4,5,6,9]),(7,[4,9,10,11]),(8,[9,10,11,12]),(9,[9,10,11,12,61,62,63]),(10,[9,10,11,12,61,62,63,64]),(11,[9,10,11,12,13,14,61,62,63]),(12,[9,10,11,12,61,62,63,80]),(13,[8]),(14,[9,10,11,12,61,62,63]),(15,[8])]
def qNe_at (x0 y0 x1 y1 tp ax ay bx by_ r:Int) (Q:AV->Heap->Prop):Prop:=Wp M1 (.run fi67 (atC (cd Try.f67) []) [(0,.agg [.int .i64 x0,.int .i64 y0,.int .i64 x1,.int .i64 y1,.int .i64 tp]),(1,.agg [.int .i64 ax,.int .i64 ay]),(2,.agg [.int .i64 bx,.int .i64 by_]),(3,.int .i64 r)] []) Q
def qNe0_at (u0 v0 u1 v1 a1 a2 b1 b2 m:Rat) (Q:AV->Heap->Prop):Prop:=Wp M1 (.run fi67 (atC (cd Try.f67) [1,1,1,1,1,1,1,0,1,0,0]) [(9,.ptr 0 0 0 0),(10,.ptr 1 0 0 0),(11,.ptr 2 0 0 0),(12,.vec true 8 [.agg [.bool (O.Zac u0.num),.vec false 1 ((O.Zag u0.num).map (.int .u32)),.bool (O.Zac (u0.den:Int)),.vec false 1 ((O.Zag (u0.den:Int)).map (.int .u32)),.bool (O.Zac v0.num),.vec false 1 ((O.Zag v0.num).map (.int .u32)),.bool (O.Zac (v0.den:Int)),.vec false 1 ((O.Zag (v0.den:Int)).map (.int .u32))],.agg [.bool (O.Zac u1.num),.vec false 1 ((O.Zag u1.num).map (.int .u32)),.bool (O.Zac (u1.den:Int)),.vec false 1 ((O.Zag (u1.den:Int)).map (.int .u32)),.bool (O.Zac v0.num),.vec false 1 ((O.Zag v0.num).map (.int .u32)),.bool (O.Zac (v0.den:Int)),.vec false 1 ((O.Zag (v0.den:Int)).map (.int .u32))],.agg [.bool (O.Zac u1.num),.vec false 1 ((O.Zag u1.num).map (.int .u32)),.bool (O.Zac (u1.den:Int)),.vec false 1 ((O.Zag (u1.den:Int)).map (.int .u32)),.bool (O.Zac v1.num),.vec false 1 ((O.Zag v1.num).map (.int .u32)),.bool (O.Zac (v1.den:Int)),.vec false 1 ((O.Zag (v1.den:Int)).map (.int .u32))],.agg [.bool (O.Zac u0.num),.vec false 1 ((O.Zag u0.num).map (.int .u32)),.bool (O.Zac (u0.den:Int)),.vec false 1 ((O.Zag (u0.den:Int)).map (.int .u32)),.bool (O.Zac v1.num),.vec false 1 ((O.Zag v1.num).map (.int .u32)),.bool (O.Zac (v1.den:Int)),.vec false 1 ((O.Zag (v1.den:Int)).map (.int .u32))]]),(61,.vec true 8 [.agg [.bool (O.Zac u0.num),.vec false 1 ((O.Zag u0.num).map (.int .u32)),.bool (O.Zac (u0.den:Int)),.vec false 1 ((O.Zag (u0.den:Int)).map (.int .u32)),.bool (O.Zac v0.num),.vec false 1 ((O.Zag v0.num).map (.int .u32)),.bool (O.Zac (v0.den:Int)),.vec false 1 ((O.Zag (v0.den:Int)).map (.int .u32))],.agg [.bool (O.Zac u1.num),.vec false 1 ((O.Zag u1.num).map (.int .u32)),.bool (O.Zac (u1.den:Int)),.vec false 1 ((O.Zag (u1.den:Int)).map (.int .u32)),.bool (O.Zac v0.num),.vec false 1 ((O.Zag v0.num).map (.int .u32)),.bool (O.Zac (v0.den:Int)),.vec false 1 ((O.Zag (v0.den:Int)).map (.int .u32))],.agg [.bool (O.Zac u1.num),.vec false 1 ((O.Zag u1.num).map (.int .u32)),.bool (O.Zac (u1.den:Int)),.vec false 1 ((O.Zag (u1.den:Int)).map (.int .u32)),.bool (O.Zac v1.num),.vec false 1 ((O.Zag v1.num).map (.int .u32)),.bool (O.Zac (v1.den:Int)),.vec false 1 ((O.Zag (v1.den:Int)).map (.int .u32))],.agg [.bool (O.Zac u0.num),.vec false 1 ((O.Zag u0.num).map (.int .u32)),.bool (O.Zac (u0.den:Int)),.vec false 1 ((O.Zag (u0.den:Int)).map (.int .u32)),.bool (O.Zac v1.num),.vec false 1 ((O.Zag v1.num).map (.int .u32)),.bool (O.Zac (v1.den:Int)),.vec false 1 ((O.Zag (v1.den:Int)).map (.int .u32))]]),(62,.int .i64 4),(63,.int .i64 0)] [⟨[ratF m],4,0,false,false⟩,⟨[.agg [.bool (O.Zac a1.num),.vec false 1 ((O.Zag a1.num).map (.int .u32)),.bool (O.Zac (a1.den:Int)),.vec false 1 ((O.Zag (a1.den:Int)).map (.int .u32)),.bool (O.Zac a2.num),.vec false 1 ((O.Zag a2.num).map (.int .u32)),.bool (O.Zac (a2.den:Int)),.vec false 1 ((O.Zag (a2.den:Int)).map (.int .u32))]],8,0,false,false⟩,⟨[.agg [.bool (O.Zac b1.num),.vec false 1 ((O.Zag b1.num).map (.int .u32)),.bool (O.Zac (b1.den:Int)),.vec false 1 ((O.Zag (b1.den:Int)).map (.int .u32)),.bool (O.Zac b2.num),.vec false 1 ((O.Zag b2.num).map (.int .u32)),.bool (O.Zac (b2.den:Int)),.vec false 1 ((O.Zag (b2.den:Int)).map (.int .u32))]],8,0,false,false⟩]) Q
def qNe1_at (u0 v0 u1 v1 a1 a2 b1 b2 m:Rat) (Q:AV->Heap->Prop):Prop:=Wp M1 (.run fi67 (atC (cd Try.f67) [1,1,1,1,1,1,1,0,1,0,0]) [(9,.ptr 0 0 0 0),(10,.ptr 1 0 0 0),(11,.ptr 2 0 0 0),(12,.vec true 8 [.agg [.bool (O.Zac u0.num),.vec false 1 ((O.Zag u0.num).map (.int .u32)),.bool (O.Zac (u0.den:Int)),.vec false 1 ((O.Zag (u0.den:Int)).map (.int .u32)),.bool (O.Zac v0.num),.vec false 1 ((O.Zag v0.num).map (.int .u32)),.bool (O.Zac (v0.den:Int)),.vec false 1 ((O.Zag (v0.den:Int)).map (.int .u32))],.agg [.bool (O.Zac u1.num),.vec false 1 ((O.Zag u1.num).map (.int .u32)),.bool (O.Zac (u1.den:Int)),.vec false 1 ((O.Zag (u1.den:Int)).map (.int .u32)),.bool (O.Zac v0.num),.vec false 1 ((O.Zag v0.num).map (.int .u32)),.bool (O.Zac (v0.den:Int)),.vec false 1 ((O.Zag (v0.den:Int)).map (.int .u32))],.agg [.bool (O.Zac u1.num),.vec false 1 ((O.Zag u1.num).map (.int .u32)),.bool (O.Zac (u1.den:Int)),.vec false 1 ((O.Zag (u1.den:Int)).map (.int .u32)),.bool (O.Zac v1.num),.vec false 1 ((O.Zag v1.num).map (.int .u32)),.bool (O.Zac (v1.den:Int)),.vec false 1 ((O.Zag (v1.den:Int)).map (.int .u32))],.agg [.bool (O.Zac u0.num),.vec false 1 ((O.Zag u0.num).map (.int .u32)),.bool (O.Zac (u0.den:Int)),.vec false 1 ((O.Zag (u0.den:Int)).map (.int .u32)),.bool (O.Zac v1.num),.vec false 1 ((O.Zag v1.num).map (.int .u32)),.bool (O.Zac (v1.den:Int)),.vec false 1 ((O.Zag (v1.den:Int)).map (.int .u32))]]),(61,.vec true 8 [.agg [.bool (O.Zac u0.num),.vec false 1 ((O.Zag u0.num).map (.int .u32)),.bool (O.Zac (u0.den:Int)),.vec false 1 ((O.Zag (u0.den:Int)).map (.int .u32)),.bool (O.Zac v0.num),.vec false 1 ((O.Zag v0.num).map (.int .u32)),.bool (O.Zac (v0.den:Int)),.vec false 1 ((O.Zag (v0.den:Int)).map (.int .u32))],.agg [.bool (O.Zac u1.num),.vec false 1 ((O.Zag u1.num).map (.int .u32)),.bool (O.Zac (u1.den:Int)),.vec false 1 ((O.Zag (u1.den:Int)).map (.int .u32)),.bool (O.Zac v0.num),.vec false 1 ((O.Zag v0.num).map (.int .u32)),.bool (O.Zac (v0.den:Int)),.vec false 1 ((O.Zag (v0.den:Int)).map (.int .u32))],.agg [.bool (O.Zac u1.num),.vec false 1 ((O.Zag u1.num).map (.int .u32)),.bool (O.Zac (u1.den:Int)),.vec false 1 ((O.Zag (u1.den:Int)).map (.int .u32)),.bool (O.Zac v1.num),.vec false 1 ((O.Zag v1.num).map (.int .u32)),.bool (O.Zac (v1.den:Int)),.vec false 1 ((O.Zag (v1.den:Int)).map (.int .u32))],.agg [.bool (O.Zac u0.num),.vec false 1 ((O.Zag u0.num).map (.int .u32)),.bool (O.Zac (u0.den:Int)),.vec false 1 ((O.Zag (u0.den:Int)).map (.int .u32)),.bool (O.Zac v1.num),.vec false 1 ((O.Zag v1.num).map (.int .u32)),.bool (O.Zac (v1.den:Int)),.vec false 1 ((O.Zag (v1.den:Int)).map (.int .u32))]]),(62,.int .i64 4),(63,.int .i64 1)] [⟨[ratF m],4,0,false,false⟩,⟨[.agg [.bool (O.Zac a1.num),.vec false 1 ((O.Zag a1.num).map (.int .u32)),.bool (O.Zac (a1.den:Int)),.vec false 1 ((O.Zag (a1.den:Int)).map (.int .u32)),.bool (O.Zac a2.num),.vec false 1 ((O.Zag a2.num).map (.int .u32)),.bool (O.Zac (a2.den:Int)),.vec false 1 ((O.Zag (a2.den:Int)).map (.int .u32))]],8,0,false,false⟩,⟨[.agg [.bool (O.Zac b1.num),.vec false 1 ((O.Zag b1.num).map (.int .u32)),.bool (O.Zac (b1.den:Int)),.vec false 1 ((O.Zag (b1.den:Int)).map (.int .u32)),.bool (O.Zac b2.num),.vec false 1 ((O.Zag b2.num).map (.int .u32)),.bool (O.Zac (b2.den:Int)),.vec false 1 ((O.Zag (b2.den:Int)).map (.int .u32))]],8,0,false,false⟩]) Q
def qNe2_at (u0 v0 u1 v1 a1 a2 b1 b2 m:Rat) (Q:AV->Heap->Prop):Prop:=Wp M1 (.run fi67 (atC (cd Try.f67) [1,1,1,1,1,1,1,0,1,0,0]) [(9,.ptr 0 0 0 0),(10,.ptr 1 0 0 0),(11,.ptr 2 0 0 0),(12,.vec true 8 [.agg [.bool (O.Zac u0.num),.vec false 1 ((O.Zag u0.num).map (.int .u32)),.bool (O.Zac (u0.den:Int)),.vec false 1 ((O.Zag (u0.den:Int)).map (.int .u32)),.bool (O.Zac v0.num),.vec false 1 ((O.Zag v0.num).map (.int .u32)),.bool (O.Zac (v0.den:Int)),.vec false 1 ((O.Zag (v0.den:Int)).map (.int .u32))],.agg [.bool (O.Zac u1.num),.vec false 1 ((O.Zag u1.num).map (.int .u32)),.bool (O.Zac (u1.den:Int)),.vec false 1 ((O.Zag (u1.den:Int)).map (.int .u32)),.bool (O.Zac v0.num),.vec false 1 ((O.Zag v0.num).map (.int .u32)),.bool (O.Zac (v0.den:Int)),.vec false 1 ((O.Zag (v0.den:Int)).map (.int .u32))],.agg [.bool (O.Zac u1.num),.vec false 1 ((O.Zag u1.num).map (.int .u32)),.bool (O.Zac (u1.den:Int)),.vec false 1 ((O.Zag (u1.den:Int)).map (.int .u32)),.bool (O.Zac v1.num),.vec false 1 ((O.Zag v1.num).map (.int .u32)),.bool (O.Zac (v1.den:Int)),.vec false 1 ((O.Zag (v1.den:Int)).map (.int .u32))],.agg [.bool (O.Zac u0.num),.vec false 1 ((O.Zag u0.num).map (.int .u32)),.bool (O.Zac (u0.den:Int)),.vec false 1 ((O.Zag (u0.den:Int)).map (.int .u32)),.bool (O.Zac v1.num),.vec false 1 ((O.Zag v1.num).map (.int .u32)),.bool (O.Zac (v1.den:Int)),.vec false 1 ((O.Zag (v1.den:Int)).map (.int .u32))]]),(61,.vec true 8 [.agg [.bool (O.Zac u0.num),.vec false 1 ((O.Zag u0.num).map (.int .u32)),.bool (O.Zac (u0.den:Int)),.vec false 1 ((O.Zag (u0.den:Int)).map (.int .u32)),.bool (O.Zac v0.num),.vec false 1 ((O.Zag v0.num).map (.int .u32)),.bool (O.Zac (v0.den:Int)),.vec false 1 ((O.Zag (v0.den:Int)).map (.int .u32))],.agg [.bool (O.Zac u1.num),.vec false 1 ((O.Zag u1.num).map (.int .u32)),.bool (O.Zac (u1.den:Int)),.vec false 1 ((O.Zag (u1.den:Int)).map (.int .u32)),.bool (O.Zac v0.num),.vec false 1 ((O.Zag v0.num).map (.int .u32)),.bool (O.Zac (v0.den:Int)),.vec false 1 ((O.Zag (v0.den:Int)).map (.int .u32))],.agg [.bool (O.Zac u1.num),.vec false 1 ((O.Zag u1.num).map (.int .u32)),.bool (O.Zac (u1.den:Int)),.vec false 1 ((O.Zag (u1.den:Int)).map (.int .u32)),.bool (O.Zac v1.num),.vec false 1 ((O.Zag v1.num).map (.int .u32)),.bool (O.Zac (v1.den:Int)),.vec false 1 ((O.Zag (v1.den:Int)).map (.int .u32))],.agg [.bool (O.Zac u0.num),.vec false 1 ((O.Zag u0.num).map (.int .u32)),.bool (O.Zac (u0.den:Int)),.vec false 1 ((O.Zag (u0.den:Int)).map (.int .u32)),.bool (O.Zac v1.num),.vec false 1 ((O.Zag v1.num).map (.int .u32)),.bool (O.Zac (v1.den:Int)),.vec false 1 ((O.Zag (v1.den:Int)).map (.int .u32))]]),(62,.int .i64 4),(63,.int .i64 2)] [⟨[ratF m],4,0,false,false⟩,⟨[.agg [.bool (O.Zac a1.num),.vec false 1 ((O.Zag a1.num).map (.int .u32)),.bool (O.Zac (a1.den:Int)),.vec false 1 ((O.Zag (a1.den:Int)).map (.int .u32)),.bool (O.Zac a2.num),.vec false 1 ((O.Zag a2.num).map (.int .u32)),.bool (O.Zac (a2.den:Int)),.vec false 1 ((O.Zag (a2.den:Int)).map (.int .u32))]],8,0,false,false⟩,⟨[.agg [.bool (O.Zac b1.num),.vec false 1 ((O.Zag b1.num).map (.int .u32)),.bool (O.Zac (b1.den:Int)),.vec false 1 ((O.Zag (b1.den:Int)).map (.int .u32)),.bool (O.Zac b2.num),.vec false 1 ((O.Zag b2.num).map (.int .u32)),.bool (O.Zac (b2.den:Int)),.vec false 1 ((O.Zag (b2.den:Int)).map (.int .u32))]],8,0,false,false⟩]) Q
def qNe3_at (u0 v0 u1 v1 a1 a2 b1 b2 m:Rat) (Q:AV->Heap->Prop):Prop:=Wp M1 (.run fi67 (atC (cd Try.f67) [1,1,1,1,1,1,1,0,1,0,0]) [(9,.ptr 0 0 0 0),(10,.ptr 1 0 0 0),(11,.ptr 2 0 0 0),(12,.vec true 8 [.agg [.bool (O.Zac u0.num),.vec false 1 ((O.Zag u0.num).map (.int .u32)),.bool (O.Zac (u0.den:Int)),.vec false 1 ((O.Zag (u0.den:Int)).map (.int .u32)),.bool (O.Zac v0.num),.vec false 1 ((O.Zag v0.num).map (.int .u32)),.bool (O.Zac (v0.den:Int)),.vec false 1 ((O.Zag (v0.den:Int)).map (.int .u32))],.agg [.bool (O.Zac u1.num),.vec false 1 ((O.Zag u1.num).map (.int .u32)),.bool (O.Zac (u1.den:Int)),.vec false 1 ((O.Zag (u1.den:Int)).map (.int .u32)),.bool (O.Zac v0.num),.vec false 1 ((O.Zag v0.num).map (.int .u32)),.bool (O.Zac (v0.den:Int)),.vec false 1 ((O.Zag (v0.den:Int)).map (.int .u32))],.agg [.bool (O.Zac u1.num),.vec false 1 ((O.Zag u1.num).map (.int .u32)),.bool (O.Zac (u1.den:Int)),.vec false 1 ((O.Zag (u1.den:Int)).map (.int .u32)),.bool (O.Zac v1.num),.vec false 1 ((O.Zag v1.num).map (.int .u32)),.bool (O.Zac (v1.den:Int)),.vec false 1 ((O.Zag (v1.den:Int)).map (.int .u32))],.agg [.bool (O.Zac u0.num),.vec false 1 ((O.Zag u0.num).map (.int .u32)),.bool (O.Zac (u0.den:Int)),.vec false 1 ((O.Zag (u0.den:Int)).map (.int .u32)),.bool (O.Zac v1.num),.vec false 1 ((O.Zag v1.num).map (.int .u32)),.bool (O.Zac (v1.den:Int)),.vec false 1 ((O.Zag (v1.den:Int)).map (.int .u32))]]),(61,.vec true 8 [.agg [.bool (O.Zac u0.num),.vec false 1 ((O.Zag u0.num).map (.int .u32)),.bool (O.Zac (u0.den:Int)),.vec false 1 ((O.Zag (u0.den:Int)).map (.int .u32)),.bool (O.Zac v0.num),.vec false 1 ((O.Zag v0.num).map (.int .u32)),.bool (O.Zac (v0.den:Int)),.vec false 1 ((O.Zag (v0.den:Int)).map (.int .u32))],.agg [.bool (O.Zac u1.num),.vec false 1 ((O.Zag u1.num).map (.int .u32)),.bool (O.Zac (u1.den:Int)),.vec false 1 ((O.Zag (u1.den:Int)).map (.int .u32)),.bool (O.Zac v0.num),.vec false 1 ((O.Zag v0.num).map (.int .u32)),.bool (O.Zac (v0.den:Int)),.vec false 1 ((O.Zag (v0.den:Int)).map (.int .u32))],.agg [.bool (O.Zac u1.num),.vec false 1 ((O.Zag u1.num).map (.int .u32)),.bool (O.Zac (u1.den:Int)),.vec false 1 ((O.Zag (u1.den:Int)).map (.int .u32)),.bool (O.Zac v1.num),.vec false 1 ((O.Zag v1.num).map (.int .u32)),.bool (O.Zac (v1.den:Int)),.vec false 1 ((O.Zag (v1.den:Int)).map (.int .u32))],.agg [.bool (O.Zac u0.num),.vec false 1 ((O.Zag u0.num).map (.int .u32)),.bool (O.Zac (u0.den:Int)),.vec false 1 ((O.Zag (u0.den:Int)).map (.int .u32)),.bool (O.Zac v1.num),.vec false 1 ((O.Zag v1.num).map (.int .u32)),.bool (O.Zac (v1.den:Int)),.vec false 1 ((O.Zag (v1.den:Int)).map (.int .u32))]]),(62,.int .i64 4),(63,.int .i64 3)] [⟨[ratF m],4,0,false,false⟩,⟨[.agg [.bool (O.Zac a1.num),.vec false 1 ((O.Zag a1.num).map (.int .u32)),.bool (O.Zac (a1.den:Int)),.vec false 1 ((O.Zag (a1.den:Int)).map (.int .u32)),.bool (O.Zac a2.num),.vec false 1 ((O.Zag a2.num).map (.int .u32)),.bool (O.Zac (a2.den:Int)),.vec false 1 ((O.Zag (a2.den:Int)).map (.int .u32))]],8,0,false,false⟩,⟨[.agg [.bool (O.Zac b1.num),.vec false 1 ((O.Zag b1.num).map (.int .u32)),.bool (O.Zac (b1.den:Int)),.vec false 1 ((O.Zag (b1.den:Int)).map (.int .u32)),.bool (O.Zac b2.num),.vec false 1 ((O.Zag b2.num).map (.int .u32)),.bool (O.Zac (b2.den:Int)),.vec false 1 ((O.Zag (b2.den:Int)).map (.int .u32))]],8,0,false,false⟩]) Q
def qNe4_at (u0 v0 u1 v1 a1 a2 b1 b2 m:Rat) (Q:AV->Heap->Prop):Prop:=Wp M1 (.run fi67 (atC (cd Try.f67) [1,1,1,1,1,1,1,0,1,0,0]) [(9,.ptr 0 0 0 0),(10,.ptr 1 0 0 0),(11,.ptr 2 0 0 0),(12,.vec true 8 [.agg [.bool (O.Zac u0.num),.vec false 1 ((O.Zag u0.num).map (.int .u32)),.bool (O.Zac (u0.den:Int)),.vec false 1 ((O.Zag (u0.den:Int)).map (.int .u32)),.bool (O.Zac v0.num),.vec false 1 ((O.Zag v0.num).map (.int .u32)),.bool (O.Zac (v0.den:Int)),.vec false 1 ((O.Zag (v0.den:Int)).map (.int .u32))],.agg [.bool (O.Zac u1.num),.vec false 1 ((O.Zag u1.num).map (.int .u32)),.bool (O.Zac (u1.den:Int)),.vec false 1 ((O.Zag (u1.den:Int)).map (.int .u32)),.bool (O.Zac v0.num),.vec false 1 ((O.Zag v0.num).map (.int .u32)),.bool (O.Zac (v0.den:Int)),.vec false 1 ((O.Zag (v0.den:Int)).map (.int .u32))],.agg [.bool (O.Zac u1.num),.vec false 1 ((O.Zag u1.num).map (.int .u32)),.bool (O.Zac (u1.den:Int)),.vec false 1 ((O.Zag (u1.den:Int)).map (.int .u32)),.bool (O.Zac v1.num),.vec false 1 ((O.Zag v1.num).map (.int .u32)),.bool (O.Zac (v1.den:Int)),.vec false 1 ((O.Zag (v1.den:Int)).map (.int .u32))],.agg [.bool (O.Zac u0.num),.vec false 1 ((O.Zag u0.num).map (.int .u32)),.bool (O.Zac (u0.den:Int)),.vec false 1 ((O.Zag (u0.den:Int)).map (.int .u32)),.bool (O.Zac v1.num),.vec false 1 ((O.Zag v1.num).map (.int .u32)),.bool (O.Zac (v1.den:Int)),.vec false 1 ((O.Zag (v1.den:Int)).map (.int .u32))]]),(61,.vec true 8 [.agg [.bool (O.Zac u0.num),.vec false 1 ((O.Zag u0.num).map (.int .u32)),.bool (O.Zac (u0.den:Int)),.vec false 1 ((O.Zag (u0.den:Int)).map (.int .u32)),.bool (O.Zac v0.num),.vec false 1 ((O.Zag v0.num).map (.int .u32)),.bool (O.Zac (v0.den:Int)),.vec false 1 ((O.Zag (v0.den:Int)).map (.int .u32))],.agg [.bool (O.Zac u1.num),.vec false 1 ((O.Zag u1.num).map (.int .u32)),.bool (O.Zac (u1.den:Int)),.vec false 1 ((O.Zag (u1.den:Int)).map (.int .u32)),.bool (O.Zac v0.num),.vec false 1 ((O.Zag v0.num).map (.int .u32)),.bool (O.Zac (v0.den:Int)),.vec false 1 ((O.Zag (v0.den:Int)).map (.int .u32))],.agg [.bool (O.Zac u1.num),.vec false 1 ((O.Zag u1.num).map (.int .u32)),.bool (O.Zac (u1.den:Int)),.vec false 1 ((O.Zag (u1.den:Int)).map (.int .u32)),.bool (O.Zac v1.num),.vec false 1 ((O.Zag v1.num).map (.int .u32)),.bool (O.Zac (v1.den:Int)),.vec false 1 ((O.Zag (v1.den:Int)).map (.int .u32))],.agg [.bool (O.Zac u0.num),.vec false 1 ((O.Zag u0.num).map (.int .u32)),.bool (O.Zac (u0.den:Int)),.vec false 1 ((O.Zag (u0.den:Int)).map (.int .u32)),.bool (O.Zac v1.num),.vec false 1 ((O.Zag v1.num).map (.int .u32)),.bool (O.Zac (v1.den:Int)),.vec false 1 ((O.Zag (v1.den:Int)).map (.int .u32))]]),(62,.int .i64 4),(63,.int .i64 4)] [⟨[ratF m],4,0,false,false⟩,⟨[.agg [.bool (O.Zac a1.num),.vec false 1 ((O.Zag a1.num).map (.int .u32)),.bool (O.Zac (a1.den:Int)),.vec false 1 ((O.Zag (a1.den:Int)).map (.int .u32)),.bool (O.Zac a2.num),.vec false 1 ((O.Zag a2.num).map (.int .u32)),.bool (O.Zac (a2.den:Int)),.vec false 1 ((O.Zag (a2.den:Int)).map (.int .u32))]],8,0,false,false⟩,⟨[.agg [.bool (O.Zac b1.num),.vec false 1 ((O.Zag b1.num).map (.int .u32)),.bool (O.Zac (b1.den:Int)),.vec false 1 ((O.Zag (b1.den:Int)).map (.int .u32)),.bool (O.Zac b2.num),.vec false 1 ((O.Zag b2.num).map (.int .u32)),.bool (O.Zac (b2.den:Int)),.vec false 1 ((O.Zag (b2.den:Int)).map (.int .u32))]],8,0,false,false⟩]) Q
theorem call67 {args:List AV} {d:AV} (h:wc M1 fi67 Try.f67 args d):Ev M1 (.pure 67 args) d []:=pcl _ _ (by kernel_rfl) h
noncomputable abbrev zNqO1 (bx:Int) (by_:Int):=ag [vb (O.Zac (O.qi bx).num),vf (us (O.Zag (O.qi bx).num)),vb (O.Zac (↑(O.qi bx).den:Int)),vf (us (O.Zag (↑(O.qi bx).den:Int))),vb (O.Zac (O.qi by_).num),vf (us (O.Zag (O.qi by_).num)),vb (O.Zac (↑(O.qi by_).den:Int)),vf (us (O.Zag (↑(O.qi by_).den:Int)))]
noncomputable abbrev zNqO2 (ax:Int) (ay:Int):=ag [vb (O.Zac (O.qi ax).num),vf (us (O.Zag (O.qi ax).num)),vb (O.Zac (↑(O.qi ax).den:Int)),vf (us (O.Zag (↑(O.qi ax).den:Int))),vb (O.Zac (O.qi ay).num),vf (us (O.Zag (O.qi ay).num)),vb (O.Zac (↑(O.qi ay).den:Int)),vf (us (O.Zag (↑(O.qi ay).den:Int)))]
noncomputable abbrev zNqO3 (x0:Int) (y0:Int):=ag [vb (O.Zac (O.qi x0).num),vf (us (O.Zag (O.qi x0).num)),vb (O.Zac (↑(O.qi x0).den:Int)),vf (us (O.Zag (↑(O.qi x0).den:Int))),vb (O.Zac (O.qi y0).num),vf (us (O.Zag (O.qi y0).num)),vb (O.Zac (↑(O.qi y0).den:Int)),vf (us (O.Zag (↑(O.qi y0).den:Int)))]
noncomputable abbrev zNqO4 (x1:Int) (y0:Int):=ag [vb (O.Zac (O.qi x1).num),vf (us (O.Zag (O.qi x1).num)),vb (O.Zac (↑(O.qi x1).den:Int)),vf (us (O.Zag (↑(O.qi x1).den:Int))),vb (O.Zac (O.qi y0).num),vf (us (O.Zag (O.qi y0).num)),vb (O.Zac (↑(O.qi y0).den:Int)),vf (us (O.Zag (↑(O.qi y0).den:Int)))]
noncomputable abbrev zNqO5 (x1:Int) (y1:Int):=ag [vb (O.Zac (O.qi x1).num),vf (us (O.Zag (O.qi x1).num)),vb (O.Zac (↑(O.qi x1).den:Int)),vf (us (O.Zag (↑(O.qi x1).den:Int))),vb (O.Zac (O.qi y1).num),vf (us (O.Zag (O.qi y1).num)),vb (O.Zac (↑(O.qi y1).den:Int)),vf (us (O.Zag (↑(O.qi y1).den:Int)))]
noncomputable abbrev zNqO6 (x0:Int) (y1:Int):=ag [vb (O.Zac (O.qi x0).num),vf (us (O.Zag (O.qi x0).num)),vb (O.Zac (↑(O.qi x0).den:Int)),vf (us (O.Zag (↑(O.qi x0).den:Int))),vb (O.Zac (O.qi y1).num),vf (us (O.Zag (O.qi y1).num)),vb (O.Zac (↑(O.qi y1).den:Int)),vf (us (O.Zag (↑(O.qi y1).den:Int)))]
noncomputable abbrev zNqO7 (x0:Int) (y0:Int) (x1:Int) (y1:Int) (tp:Int):=ag [vi x0,vi y0,vi x1,vi y1,vi tp]
noncomputable abbrev zNqO8 (bx:Int) (by_:Int):=ag [vi bx,vi by_]
noncomputable abbrev zNqO9 (ax:Int) (ay:Int):=ag [vi ax,vi ay]
theorem qNe (x0 y0 x1 y1 tp ax ay bx by_ r:Int)  (dq:AV) (H :
  ((r<=0)->vb false=dq) /\
  (¬(r<=0)->(((O.hld x0 y0 x1 y1 ax ay)\/(O.hld x0 y0 x1 y1 bx by_))->vb true=dq) /\
   (¬((O.hld x0 y0 x1 y1 ax ay)\/(O.hld x0 y0 x1 y1 bx by_))->(O.inI r) /\
    (O.okR (O.qi r)/\O.okR (O.qi r)) /\
    (O.inI2 ax ay) /\
    (O.inI2 bx by_) /\
    (O.inI2 x0 y0) /\
    (O.inI2 x1 y0) /\
    (O.inI2 x1 y1) /\
    (O.inI2 x0 y1) /\
    qNe0_at (O.qi x0) (O.qi y0) (O.qi x1) (O.qi y1) (O.qi ax) (O.qi ay) (O.qi bx) (O.qi by_) (O.qi r*O.qi r) (Zaf dq)))) :
 qNe_at x0 y0 x1 y1 tp ax ay bx by_ r (Zaf dq):=by
 unfold qNe_at
 rcases xq H with ⟨d2,H⟩|⟨d2,H⟩
 ·exact Zai (G:=Zad kp67 [] []) 1000 [true] (vb false) (by kernel_rfl) (bc (Zak (Zab.2 d2)) b0) q0 c0 H
 ·refine Zae (G:=Zad kp67 [(3,2,.call (vb (decide (O.hld x0 y0 x1 y1 ax ay))) none),(3,6,.call (vb (decide (O.hld x0 y0 x1 y1 bx by_))) none)] []) 10 [false] ⟨(atC (cd Try.f67) [1,1,0,1]),[(3,vi r),(4,AV.ptr 0 0 0 0),(5,AV.ptr 1 0 0 0),(6,AV.ptr 2 0 0 0),(24,vb (bif decide (O.hld x0 y0 x1 y1 ax ay) then true else decide (O.hld x0 y0 x1 y1 bx by_)))],[⟨[(zNqO7 x0 y0 x1 y1 tp)],5,0,false,false⟩,⟨[(zNqO9 ax ay)],2,0,false,false⟩,⟨[(zNqO8 bx by_)],2,0,false,false⟩],[(decide (r<=0))==false,true,true,!(decide (O.hld x0 y0 x1 y1 ax ay)==false&&true)||true,!(decide (O.hld x0 y0 x1 y1 ax ay)==false&&true)||true],[],[⟨true,false,68,[(zNqO7 x0 y0 x1 y1 tp),(zNqO9 ax ay)],[],vb (decide (O.hld x0 y0 x1 y1 ax ay)),[]⟩,⟨decide (O.hld x0 y0 x1 y1 ax ay)==false&&true&&true,false,68,[(zNqO7 x0 y0 x1 y1 tp),(zNqO8 bx by_)],[],vb (decide (O.hld x0 y0 x1 y1 bx by_)),[]⟩]⟩ (by kernel_rfl) (bc (Zah (fun h=>d2 (Zab.1 h))) (bc rfl (bc rfl (bc (Bool.or_true _) (bc (Bool.or_true _) b0))))) q0 (cc (fun _=>(@ev68 x0 y0 x1 y1 tp ax ay)) (cc (fun hc=>((@ev68 x0 y0 x1 y1 tp bx by_):Ev M1 (Conf.pure 68 [(zNqO7 x0 y0 x1 y1 tp),(zNqO8 bx by_)]) (vb (decide (O.hld x0 y0 x1 y1 bx by_))) [])) c0)) ?_
  rcases xq H with ⟨d5,H⟩|⟨d5,H⟩
  ·exact Zai (G:=Zad kp67 [] []) 1000 [true] (vb true) (by kernel_rfl) (bc (Zak ((ZaC Zab Zab).2 d5)) b0) q0 c0 H
  ·obtain ⟨k6,k7,k8,k9,H⟩:=H
   refine Zae (G:=Zad kp67 [(5,1,.call (ratF (O.qi r)) none),(6,2,.call (ratF (O.qi r*O.qi r)) none),(7,4,.call ((zNqO2 ax ay)) none),(7,9,.call ((zNqO1 bx by_)) none)] []) 7 [false] ⟨(atC (cd Try.f67) [1,1,1,1,1,0]),[(4,AV.ptr 0 0 0 0),(5,AV.ptr 1 0 0 0),(6,AV.ptr 2 0 0 0),(9,AV.ptr 3 0 0 0)],[⟨[(zNqO7 x0 y0 x1 y1 tp)],5,0,false,false⟩,⟨[(zNqO9 ax ay)],2,0,false,false⟩,⟨[(zNqO8 bx by_)],2,0,false,false⟩,⟨[ratF (O.qi r*O.qi r)],4,0,false,false⟩],_,[],_⟩ (by kernel_rfl) (bc (Zah (fun h=>d5 ((ZaC Zab Zab).1 h))) (bc rfl (bc rfl (bc rfl (bc rfl b0))))) q0 (ce (@ev69 r k6) (ce (@ev70 false false false false (O.qi r) (O.qi r) k7) c0)) (ZeA (G:=Zad kp67 [(5,1,.call (ratF (O.qi r)) none),(6,2,.call (ratF (O.qi r*O.qi r)) none),(7,4,.call ((zNqO2 ax ay)) none),(7,9,.call ((zNqO1 bx by_)) none)] []) [0,1,2,3,5,4] 10 (e1:=[(4,AV.ptr 0 0 0 0),(9,AV.ptr 3 0 0 0),(10,AV.ptr 4 0 0 0),(11,AV.ptr 5 0 0 0)]) (L1:=[⟨[(zNqO7 x0 y0 x1 y1 tp)],5,0,false,false⟩,⟨[(zNqO9 ax ay)],2,0,false,false⟩,⟨[(zNqO8 bx by_)],2,0,false,false⟩,⟨[ratF (O.qi r*O.qi r)],4,0,false,false⟩,⟨[(zNqO2 ax ay)],8,0,false,false⟩,⟨[(zNqO1 bx by_)],8,0,false,false⟩]) (a:=[true,true,true,true,true,true]) (q:=[]) (cs:=[⟨true,false,71,[vi ax,vi ay],[],(zNqO2 ax ay),[]⟩,⟨true,false,71,[vi bx,vi by_],[],(zNqO1 bx by_),[]⟩]) (by kernel_rfl) (by kernel_rfl) (Zaa rfl (Zaa rfl (Zaa rfl (Zaa rfl (Zaa rfl (Zaa rfl Zaj)))))) Zan (Zap (fun _=>(@ev71 ax ay k8)) (Zap (fun _=>(@ev71 bx by_ k9)) Zao)) ?_)
   obtain ⟨k10,k11,k12,k13,H⟩:=H
   exact Zae (G:=Zad kp67 [(8,4,.call ((zNqO3 x0 y0)) none),(8,9,.call ((zNqO4 x1 y0)) none),(8,14,.call ((zNqO5 x1 y1)) none),(8,19,.call ((zNqO6 x0 y1)) none)] []) 1000 [] ⟨(atC (cd Try.f67) [1,1,1,1,1,1,1,0,1,0,0]),[(9,AV.ptr 3 0 0 0),(10,AV.ptr 4 0 0 0),(11,AV.ptr 5 0 0 0),(12,AV.vec true 8 [(zNqO3 x0 y0),(zNqO4 x1 y0),(zNqO5 x1 y1),(zNqO6 x0 y1)]),(61,AV.vec true 8 [(zNqO3 x0 y0),(zNqO4 x1 y0),(zNqO5 x1 y1),(zNqO6 x0 y1)]),(62,vi 4),(63,vi 0)],[⟨[(zNqO7 x0 y0 x1 y1 tp)],5,0,false,false⟩,⟨[(zNqO9 ax ay)],2,0,false,false⟩,⟨[(zNqO8 bx by_)],2,0,false,false⟩,⟨[ratF (O.qi r*O.qi r)],4,0,false,false⟩,⟨[(zNqO2 ax ay)],8,0,false,false⟩,⟨[(zNqO1 bx by_)],8,0,false,false⟩],_,[],_⟩ (by kernel_rfl) (bc rfl (bc rfl (bc rfl (bc rfl (bc rfl (bc rfl (bc rfl (bc rfl b0)))))))) q0 (ce (@ev71 x0 y0 k10) (ce (@ev71 x1 y0 k11) (ce (@ev71 x1 y1 k12) (ce (@ev71 x0 y1 k13) c0)))) (Zas [3,4,5] (by kernel_rfl) H)
noncomputable abbrev ZgJ (u0:Rat) (v0:Rat):=ag [vb (O.Zac u0.num),vf (us (O.Zag u0.num)),vb (O.Zac (↑u0.den:Int)),vf (us (O.Zag (↑u0.den:Int))),vb (O.Zac v0.num),vf (us (O.Zag v0.num)),vb (O.Zac (↑v0.den:Int)),vf (us (O.Zag (↑v0.den:Int)))]
noncomputable abbrev zNqO11 (u1:Rat) (v0:Rat):=ag [vb (O.Zac u1.num),vf (us (O.Zag u1.num)),vb (O.Zac (↑u1.den:Int)),vf (us (O.Zag (↑u1.den:Int))),vb (O.Zac v0.num),vf (us (O.Zag v0.num)),vb (O.Zac (↑v0.den:Int)),vf (us (O.Zag (↑v0.den:Int)))]
noncomputable abbrev zNqO12 (u1:Rat) (v1:Rat):=ag [vb (O.Zac u1.num),vf (us (O.Zag u1.num)),vb (O.Zac (↑u1.den:Int)),vf (us (O.Zag (↑u1.den:Int))),vb (O.Zac v1.num),vf (us (O.Zag v1.num)),vb (O.Zac (↑v1.den:Int)),vf (us (O.Zag (↑v1.den:Int)))]
noncomputable abbrev zNqO13 (u0:Rat) (v1:Rat):=ag [vb (O.Zac u0.num),vf (us (O.Zag u0.num)),vb (O.Zac (↑u0.den:Int)),vf (us (O.Zag (↑u0.den:Int))),vb (O.Zac v1.num),vf (us (O.Zag v1.num)),vb (O.Zac (↑v1.den:Int)),vf (us (O.Zag (↑v1.den:Int)))]
noncomputable abbrev zNqO14 (a1:Rat) (a2:Rat):=ag [vb (O.Zac a1.num),vf (us (O.Zag a1.num)),vb (O.Zac (↑a1.den:Int)),vf (us (O.Zag (↑a1.den:Int))),vb (O.Zac a2.num),vf (us (O.Zag a2.num)),vb (O.Zac (↑a2.den:Int)),vf (us (O.Zag (↑a2.den:Int)))]
noncomputable abbrev zNqO15 (b1:Rat) (b2:Rat):=ag [vb (O.Zac b1.num),vf (us (O.Zag b1.num)),vb (O.Zac (↑b1.den:Int)),vf (us (O.Zag (↑b1.den:Int))),vb (O.Zac b2.num),vf (us (O.Zag b2.num)),vb (O.Zac (↑b2.den:Int)),vf (us (O.Zag (↑b2.den:Int)))]
theorem qNe0 (u0 v0 u1 v1 a1 a2 b1 b2 m:Rat)  (dq:AV) (H :
  (O.okV4 a1 a2 b1 b2 u0 v0 u1 v0) /\
  (O.okR (O.seg a1 a2 b1 b2 u0 v0 u1 v0)/\O.okR m) /\
  ((O.sgnI ((O.seg a1 a2 b1 b2 u0 v0 u1 v0).num*(↑m.den:Int)-m.num*(↑(O.seg a1 a2 b1 b2 u0 v0 u1 v0).den:Int))<0)->vb true=dq) /\
  (¬(O.sgnI ((O.seg a1 a2 b1 b2 u0 v0 u1 v0).num*(↑m.den:Int)-m.num*(↑(O.seg a1 a2 b1 b2 u0 v0 u1 v0).den:Int))<0)->qNe1_at u0 v0 u1 v1 a1 a2 b1 b2 m (Zaf dq))) :
 qNe0_at u0 v0 u1 v1 a1 a2 b1 b2 m (Zaf dq):=by
 unfold qNe0_at
 obtain ⟨k1,k2,H⟩:=H
 refine Zae (G:=Zad kp67 [(12,9,.call (ratF (O.seg a1 a2 b1 b2 u0 v0 u1 v0)) none),(12,11,.call (vi (O.sgnI ((O.seg a1 a2 b1 b2 u0 v0 u1 v0).num*(↑m.den:Int)-m.num*(↑(O.seg a1 a2 b1 b2 u0 v0 u1 v0).den:Int)))) none)] []) 11 [true] ⟨(atC (cd Try.f67) [1,1,1,1,1,1,1,0,1,0,0,1,1,0,0,1,1]),[(9,AV.ptr 0 0 0 0),(10,AV.ptr 1 0 0 0),(11,AV.ptr 2 0 0 0),(12,AV.vec true 8 [(ZgJ u0 v0),(zNqO11 u1 v0),(zNqO12 u1 v1),(zNqO13 u0 v1)]),(61,AV.vec true 8 [(ZgJ u0 v0),(zNqO11 u1 v0),(zNqO12 u1 v1),(zNqO13 u0 v1)]),(62,vi 4),(63,vi 0),(80,vb (decide (O.sgnI ((O.seg a1 a2 b1 b2 u0 v0 u1 v0).num*(↑m.den:Int)-m.num*(↑(O.seg a1 a2 b1 b2 u0 v0 u1 v0).den:Int))<0)))],[⟨[ratF m],4,0,false,false⟩,⟨[(zNqO14 a1 a2)],8,0,false,false⟩,⟨[(zNqO15 b1 b2)],8,0,false,false⟩,⟨[(ZgJ u0 v0)],8,0,false,false⟩],_,[],_⟩ (by kernel_rfl) (bc rfl (bc rfl (bc rfl (bc rfl (bc rfl (bc rfl (bc rfl (bc rfl (bc rfl (bc rfl (bc rfl b0))))))))))) q0 (ce (@ev73 false false false false false false false false false false false false false false false false a1 a2 b1 b2 u0 v0 u1 v0 k1) (ce (@ev72 false false false false (O.seg a1 a2 b1 b2 u0 v0 u1 v0) m k2) c0)) ?_
 rcases xq H with ⟨d4,H⟩|⟨d4,H⟩
 ·exact Zai (G:=Zad kp67 [] []) 1000 [true] (vb true) (by kernel_rfl) (bc (Zak (Zab.2 d4)) b0) q0 c0 H
 ·exact Zae (G:=Zad kp67 [] []) 1000 [false] ⟨(atC (cd Try.f67) [1,1,1,1,1,1,1,0,1,0,0]),[(9,AV.ptr 0 0 0 0),(10,AV.ptr 1 0 0 0),(11,AV.ptr 2 0 0 0),(12,AV.vec true 8 [(ZgJ u0 v0),(zNqO11 u1 v0),(zNqO12 u1 v1),(zNqO13 u0 v1)]),(61,AV.vec true 8 [(ZgJ u0 v0),(zNqO11 u1 v0),(zNqO12 u1 v1),(zNqO13 u0 v1)]),(62,vi 4),(63,vi 1)],[⟨[ratF m],4,0,false,false⟩,⟨[(zNqO14 a1 a2)],8,0,false,false⟩,⟨[(zNqO15 b1 b2)],8,0,false,false⟩,⟨[(ZgJ u0 v0)],8,0,false,false⟩],_,[],_⟩ (by kernel_rfl) (bc (Zah (fun h=>d4 (Zab.1 h))) b0) q0 c0 (Zas [0,1,2] (by kernel_rfl) H)
noncomputable abbrev ZgI (u1:Rat) (v0:Rat):=ag [vb (O.Zac u1.num),vf (us (O.Zag u1.num)),vb (O.Zac (↑u1.den:Int)),vf (us (O.Zag (↑u1.den:Int))),vb (O.Zac v0.num),vf (us (O.Zag v0.num)),vb (O.Zac (↑v0.den:Int)),vf (us (O.Zag (↑v0.den:Int)))]
noncomputable abbrev zNqO17 (u0:Rat) (v0:Rat):=ag [vb (O.Zac u0.num),vf (us (O.Zag u0.num)),vb (O.Zac (↑u0.den:Int)),vf (us (O.Zag (↑u0.den:Int))),vb (O.Zac v0.num),vf (us (O.Zag v0.num)),vb (O.Zac (↑v0.den:Int)),vf (us (O.Zag (↑v0.den:Int)))]
noncomputable abbrev zNqO18 (u1:Rat) (v1:Rat):=ag [vb (O.Zac u1.num),vf (us (O.Zag u1.num)),vb (O.Zac (↑u1.den:Int)),vf (us (O.Zag (↑u1.den:Int))),vb (O.Zac v1.num),vf (us (O.Zag v1.num)),vb (O.Zac (↑v1.den:Int)),vf (us (O.Zag (↑v1.den:Int)))]
noncomputable abbrev zNqO19 (u0:Rat) (v1:Rat):=ag [vb (O.Zac u0.num),vf (us (O.Zag u0.num)),vb (O.Zac (↑u0.den:Int)),vf (us (O.Zag (↑u0.den:Int))),vb (O.Zac v1.num),vf (us (O.Zag v1.num)),vb (O.Zac (↑v1.den:Int)),vf (us (O.Zag (↑v1.den:Int)))]
noncomputable abbrev zNqO20 (a1:Rat) (a2:Rat):=ag [vb (O.Zac a1.num),vf (us (O.Zag a1.num)),vb (O.Zac (↑a1.den:Int)),vf (us (O.Zag (↑a1.den:Int))),vb (O.Zac a2.num),vf (us (O.Zag a2.num)),vb (O.Zac (↑a2.den:Int)),vf (us (O.Zag (↑a2.den:Int)))]
noncomputable abbrev zNqO21 (b1:Rat) (b2:Rat):=ag [vb (O.Zac b1.num),vf (us (O.Zag b1.num)),vb (O.Zac (↑b1.den:Int)),vf (us (O.Zag (↑b1.den:Int))),vb (O.Zac b2.num),vf (us (O.Zag b2.num)),vb (O.Zac (↑b2.den:Int)),vf (us (O.Zag (↑b2.den:Int)))]
theorem qNe1 (u0 v0 u1 v1 a1 a2 b1 b2 m:Rat)  (dq:AV) (H :
  (O.okV4 a1 a2 b1 b2 u1 v0 u1 v1) /\
  (O.okR (O.seg a1 a2 b1 b2 u1 v0 u1 v1)/\O.okR m) /\
  ((O.sgnI ((O.seg a1 a2 b1 b2 u1 v0 u1 v1).num*(↑m.den:Int)-m.num*(↑(O.seg a1 a2 b1 b2 u1 v0 u1 v1).den:Int))<0)->vb true=dq) /\
  (¬(O.sgnI ((O.seg a1 a2 b1 b2 u1 v0 u1 v1).num*(↑m.den:Int)-m.num*(↑(O.seg a1 a2 b1 b2 u1 v0 u1 v1).den:Int))<0)->qNe2_at u0 v0 u1 v1 a1 a2 b1 b2 m (Zaf dq))) :
 qNe1_at u0 v0 u1 v1 a1 a2 b1 b2 m (Zaf dq):=by
 unfold qNe1_at
 obtain ⟨k1,k2,H⟩:=H
 refine Zae (G:=Zad kp67 [(12,9,.call (ratF (O.seg a1 a2 b1 b2 u1 v0 u1 v1)) none),(12,11,.call (vi (O.sgnI ((O.seg a1 a2 b1 b2 u1 v0 u1 v1).num*(↑m.den:Int)-m.num*(↑(O.seg a1 a2 b1 b2 u1 v0 u1 v1).den:Int)))) none)] []) 11 [true] ⟨(atC (cd Try.f67) [1,1,1,1,1,1,1,0,1,0,0,1,1,0,0,1,1]),[(9,AV.ptr 0 0 0 0),(10,AV.ptr 1 0 0 0),(11,AV.ptr 2 0 0 0),(12,AV.vec true 8 [(zNqO17 u0 v0),(ZgI u1 v0),(zNqO18 u1 v1),(zNqO19 u0 v1)]),(61,AV.vec true 8 [(zNqO17 u0 v0),(ZgI u1 v0),(zNqO18 u1 v1),(zNqO19 u0 v1)]),(62,vi 4),(63,vi 1),(80,vb (decide (O.sgnI ((O.seg a1 a2 b1 b2 u1 v0 u1 v1).num*(↑m.den:Int)-m.num*(↑(O.seg a1 a2 b1 b2 u1 v0 u1 v1).den:Int))<0)))],[⟨[ratF m],4,0,false,false⟩,⟨[(zNqO20 a1 a2)],8,0,false,false⟩,⟨[(zNqO21 b1 b2)],8,0,false,false⟩,⟨[(ZgI u1 v0)],8,0,false,false⟩],_,[],_⟩ (by kernel_rfl) (bc rfl (bc rfl (bc rfl (bc rfl (bc rfl (bc rfl (bc rfl (bc rfl (bc rfl (bc rfl (bc rfl b0))))))))))) q0 (ce (@ev73 false false false false false false false false false false false false false false false false a1 a2 b1 b2 u1 v0 u1 v1 k1) (ce (@ev72 false false false false (O.seg a1 a2 b1 b2 u1 v0 u1 v1) m k2) c0)) ?_
 rcases xq H with ⟨d4,H⟩|⟨d4,H⟩
 ·exact Zai (G:=Zad kp67 [] []) 1000 [true] (vb true) (by kernel_rfl) (bc (Zak (Zab.2 d4)) b0) q0 c0 H
 ·exact Zae (G:=Zad kp67 [] []) 1000 [false] ⟨(atC (cd Try.f67) [1,1,1,1,1,1,1,0,1,0,0]),[(9,AV.ptr 0 0 0 0),(10,AV.ptr 1 0 0 0),(11,AV.ptr 2 0 0 0),(12,AV.vec true 8 [(zNqO17 u0 v0),(ZgI u1 v0),(zNqO18 u1 v1),(zNqO19 u0 v1)]),(61,AV.vec true 8 [(zNqO17 u0 v0),(ZgI u1 v0),(zNqO18 u1 v1),(zNqO19 u0 v1)]),(62,vi 4),(63,vi 2)],[⟨[ratF m],4,0,false,false⟩,⟨[(zNqO20 a1 a2)],8,0,false,false⟩,⟨[(zNqO21 b1 b2)],8,0,false,false⟩,⟨[(ZgI u1 v0)],8,0,false,false⟩],_,[],_⟩ (by kernel_rfl) (bc (Zah (fun h=>d4 (Zab.1 h))) b0) q0 c0 (Zas [0,1,2] (by kernel_rfl) H)
noncomputable abbrev ZgH (u1:Rat) (v1:Rat):=ag [vb (O.Zac u1.num),vf (us (O.Zag u1.num)),vb (O.Zac (↑u1.den:Int)),vf (us (O.Zag (↑u1.den:Int))),vb (O.Zac v1.num),vf (us (O.Zag v1.num)),vb (O.Zac (↑v1.den:Int)),vf (us (O.Zag (↑v1.den:Int)))]
noncomputable abbrev zNqO23 (u0:Rat) (v0:Rat):=ag [vb (O.Zac u0.num),vf (us (O.Zag u0.num)),vb (O.Zac (↑u0.den:Int)),vf (us (O.Zag (↑u0.den:Int))),vb (O.Zac v0.num),vf (us (O.Zag v0.num)),vb (O.Zac (↑v0.den:Int)),vf (us (O.Zag (↑v0.den:Int)))]
noncomputable abbrev zNqO24 (u1:Rat) (v0:Rat):=ag [vb (O.Zac u1.num),vf (us (O.Zag u1.num)),vb (O.Zac (↑u1.den:Int)),vf (us (O.Zag (↑u1.den:Int))),vb (O.Zac v0.num),vf (us (O.Zag v0.num)),vb (O.Zac (↑v0.den:Int)),vf (us (O.Zag (↑v0.den:Int)))]
noncomputable abbrev zNqO25 (u0:Rat) (v1:Rat):=ag [vb (O.Zac u0.num),vf (us (O.Zag u0.num)),vb (O.Zac (↑u0.den:Int)),vf (us (O.Zag (↑u0.den:Int))),vb (O.Zac v1.num),vf (us (O.Zag v1.num)),vb (O.Zac (↑v1.den:Int)),vf (us (O.Zag (↑v1.den:Int)))]
noncomputable abbrev zNqO26 (a1:Rat) (a2:Rat):=ag [vb (O.Zac a1.num),vf (us (O.Zag a1.num)),vb (O.Zac (↑a1.den:Int)),vf (us (O.Zag (↑a1.den:Int))),vb (O.Zac a2.num),vf (us (O.Zag a2.num)),vb (O.Zac (↑a2.den:Int)),vf (us (O.Zag (↑a2.den:Int)))]
noncomputable abbrev zNqO27 (b1:Rat) (b2:Rat):=ag [vb (O.Zac b1.num),vf (us (O.Zag b1.num)),vb (O.Zac (↑b1.den:Int)),vf (us (O.Zag (↑b1.den:Int))),vb (O.Zac b2.num),vf (us (O.Zag b2.num)),vb (O.Zac (↑b2.den:Int)),vf (us (O.Zag (↑b2.den:Int)))]
theorem qNe2 (u0 v0 u1 v1 a1 a2 b1 b2 m:Rat)  (dq:AV) (H :
  (O.okV4 a1 a2 b1 b2 u1 v1 u0 v1) /\
  (O.okR (O.seg a1 a2 b1 b2 u1 v1 u0 v1)/\O.okR m) /\
  ((O.sgnI ((O.seg a1 a2 b1 b2 u1 v1 u0 v1).num*(↑m.den:Int)-m.num*(↑(O.seg a1 a2 b1 b2 u1 v1 u0 v1).den:Int))<0)->vb true=dq) /\
  (¬(O.sgnI ((O.seg a1 a2 b1 b2 u1 v1 u0 v1).num*(↑m.den:Int)-m.num*(↑(O.seg a1 a2 b1 b2 u1 v1 u0 v1).den:Int))<0)->qNe3_at u0 v0 u1 v1 a1 a2 b1 b2 m (Zaf dq))) :
 qNe2_at u0 v0 u1 v1 a1 a2 b1 b2 m (Zaf dq):=by
 unfold qNe2_at
 obtain ⟨k1,k2,H⟩:=H
 refine Zae (G:=Zad kp67 [(12,9,.call (ratF (O.seg a1 a2 b1 b2 u1 v1 u0 v1)) none),(12,11,.call (vi (O.sgnI ((O.seg a1 a2 b1 b2 u1 v1 u0 v1).num*(↑m.den:Int)-m.num*(↑(O.seg a1 a2 b1 b2 u1 v1 u0 v1).den:Int)))) none)] []) 11 [true] ⟨(atC (cd Try.f67) [1,1,1,1,1,1,1,0,1,0,0,1,1,0,0,1,1]),[(9,AV.ptr 0 0 0 0),(10,AV.ptr 1 0 0 0),(11,AV.ptr 2 0 0 0),(12,AV.vec true 8 [(zNqO23 u0 v0),(zNqO24 u1 v0),(ZgH u1 v1),(zNqO25 u0 v1)]),(61,AV.vec true 8 [(zNqO23 u0 v0),(zNqO24 u1 v0),(ZgH u1 v1),(zNqO25 u0 v1)]),(62,vi 4),(63,vi 2),(80,vb (decide (O.sgnI ((O.seg a1 a2 b1 b2 u1 v1 u0 v1).num*(↑m.den:Int)-m.num*(↑(O.seg a1 a2 b1 b2 u1 v1 u0 v1).den:Int))<0)))],[⟨[ratF m],4,0,false,false⟩,⟨[(zNqO26 a1 a2)],8,0,false,false⟩,⟨[(zNqO27 b1 b2)],8,0,false,false⟩,⟨[(ZgH u1 v1)],8,0,false,false⟩],_,[],_⟩ (by kernel_rfl) (bc rfl (bc rfl (bc rfl (bc rfl (bc rfl (bc rfl (bc rfl (bc rfl (bc rfl (bc rfl (bc rfl b0))))))))))) q0 (ce (@ev73 false false false false false false false false false false false false false false false false a1 a2 b1 b2 u1 v1 u0 v1 k1) (ce (@ev72 false false false false (O.seg a1 a2 b1 b2 u1 v1 u0 v1) m k2) c0)) ?_
 rcases xq H with ⟨d4,H⟩|⟨d4,H⟩
 ·exact Zai (G:=Zad kp67 [] []) 1000 [true] (vb true) (by kernel_rfl) (bc (Zak (Zab.2 d4)) b0) q0 c0 H
 ·exact Zae (G:=Zad kp67 [] []) 1000 [false] ⟨(atC (cd Try.f67) [1,1,1,1,1,1,1,0,1,0,0]),[(9,AV.ptr 0 0 0 0),(10,AV.ptr 1 0 0 0),(11,AV.ptr 2 0 0 0),(12,AV.vec true 8 [(zNqO23 u0 v0),(zNqO24 u1 v0),(ZgH u1 v1),(zNqO25 u0 v1)]),(61,AV.vec true 8 [(zNqO23 u0 v0),(zNqO24 u1 v0),(ZgH u1 v1),(zNqO25 u0 v1)]),(62,vi 4),(63,vi 3)],[⟨[ratF m],4,0,false,false⟩,⟨[(zNqO26 a1 a2)],8,0,false,false⟩,⟨[(zNqO27 b1 b2)],8,0,false,false⟩,⟨[(ZgH u1 v1)],8,0,false,false⟩],_,[],_⟩ (by kernel_rfl) (bc (Zah (fun h=>d4 (Zab.1 h))) b0) q0 c0 (Zas [0,1,2] (by kernel_rfl) H)
noncomputable abbrev ZgG (u0:Rat) (v1:Rat):=ag [vb (O.Zac u0.num),vf (us (O.Zag u0.num)),vb (O.Zac (↑u0.den:Int)),vf (us (O.Zag (↑u0.den:Int))),vb (O.Zac v1.num),vf (us (O.Zag v1.num)),vb (O.Zac (↑v1.den:Int)),vf (us (O.Zag (↑v1.den:Int)))]
noncomputable abbrev zNqO29 (u0:Rat) (v0:Rat):=ag [vb (O.Zac u0.num),vf (us (O.Zag u0.num)),vb (O.Zac (↑u0.den:Int)),vf (us (O.Zag (↑u0.den:Int))),vb (O.Zac v0.num),vf (us (O.Zag v0.num)),vb (O.Zac (↑v0.den:Int)),vf (us (O.Zag (↑v0.den:Int)))]
noncomputable abbrev zNqO30 (u1:Rat) (v0:Rat):=ag [vb (O.Zac u1.num),vf (us (O.Zag u1.num)),vb (O.Zac (↑u1.den:Int)),vf (us (O.Zag (↑u1.den:Int))),vb (O.Zac v0.num),vf (us (O.Zag v0.num)),vb (O.Zac (↑v0.den:Int)),vf (us (O.Zag (↑v0.den:Int)))]
noncomputable abbrev zNqO31 (u1:Rat) (v1:Rat):=ag [vb (O.Zac u1.num),vf (us (O.Zag u1.num)),vb (O.Zac (↑u1.den:Int)),vf (us (O.Zag (↑u1.den:Int))),vb (O.Zac v1.num),vf (us (O.Zag v1.num)),vb (O.Zac (↑v1.den:Int)),vf (us (O.Zag (↑v1.den:Int)))]
noncomputable abbrev zNqO32 (a1:Rat) (a2:Rat):=ag [vb (O.Zac a1.num),vf (us (O.Zag a1.num)),vb (O.Zac (↑a1.den:Int)),vf (us (O.Zag (↑a1.den:Int))),vb (O.Zac a2.num),vf (us (O.Zag a2.num)),vb (O.Zac (↑a2.den:Int)),vf (us (O.Zag (↑a2.den:Int)))]
noncomputable abbrev zNqO33 (b1:Rat) (b2:Rat):=ag [vb (O.Zac b1.num),vf (us (O.Zag b1.num)),vb (O.Zac (↑b1.den:Int)),vf (us (O.Zag (↑b1.den:Int))),vb (O.Zac b2.num),vf (us (O.Zag b2.num)),vb (O.Zac (↑b2.den:Int)),vf (us (O.Zag (↑b2.den:Int)))]
theorem qNe3 (u0 v0 u1 v1 a1 a2 b1 b2 m:Rat)  (dq:AV) (H :
  (O.okV4 a1 a2 b1 b2 u0 v1 u0 v0) /\
  (O.okR (O.seg a1 a2 b1 b2 u0 v1 u0 v0)/\O.okR m) /\
  ((O.sgnI ((O.seg a1 a2 b1 b2 u0 v1 u0 v0).num*(↑m.den:Int)-m.num*(↑(O.seg a1 a2 b1 b2 u0 v1 u0 v0).den:Int))<0)->vb true=dq) /\
  (¬(O.sgnI ((O.seg a1 a2 b1 b2 u0 v1 u0 v0).num*(↑m.den:Int)-m.num*(↑(O.seg a1 a2 b1 b2 u0 v1 u0 v0).den:Int))<0)->qNe4_at u0 v0 u1 v1 a1 a2 b1 b2 m (Zaf dq))) :
 qNe3_at u0 v0 u1 v1 a1 a2 b1 b2 m (Zaf dq):=by
 unfold qNe3_at
 obtain ⟨k1,k2,H⟩:=H
 refine Zae (G:=Zad kp67 [(12,9,.call (ratF (O.seg a1 a2 b1 b2 u0 v1 u0 v0)) none),(12,11,.call (vi (O.sgnI ((O.seg a1 a2 b1 b2 u0 v1 u0 v0).num*(↑m.den:Int)-m.num*(↑(O.seg a1 a2 b1 b2 u0 v1 u0 v0).den:Int)))) none)] []) 11 [true] ⟨(atC (cd Try.f67) [1,1,1,1,1,1,1,0,1,0,0,1,1,0,0,1,1]),[(9,AV.ptr 0 0 0 0),(10,AV.ptr 1 0 0 0),(11,AV.ptr 2 0 0 0),(12,AV.vec true 8 [(zNqO29 u0 v0),(zNqO30 u1 v0),(zNqO31 u1 v1),(ZgG u0 v1)]),(61,AV.vec true 8 [(zNqO29 u0 v0),(zNqO30 u1 v0),(zNqO31 u1 v1),(ZgG u0 v1)]),(62,vi 4),(63,vi 3),(80,vb (decide (O.sgnI ((O.seg a1 a2 b1 b2 u0 v1 u0 v0).num*(↑m.den:Int)-m.num*(↑(O.seg a1 a2 b1 b2 u0 v1 u0 v0).den:Int))<0)))],[⟨[ratF m],4,0,false,false⟩,⟨[(zNqO32 a1 a2)],8,0,false,false⟩,⟨[(zNqO33 b1 b2)],8,0,false,false⟩,⟨[(ZgG u0 v1)],8,0,false,false⟩],_,[],_⟩ (by kernel_rfl) (bc rfl (bc rfl (bc rfl (bc rfl (bc rfl (bc rfl (bc rfl (bc rfl (bc rfl (bc rfl (bc rfl b0))))))))))) q0 (ce (@ev73 false false false false false false false false false false false false false false false false a1 a2 b1 b2 u0 v1 u0 v0 k1) (ce (@ev72 false false false false (O.seg a1 a2 b1 b2 u0 v1 u0 v0) m k2) c0)) ?_
 rcases xq H with ⟨d4,H⟩|⟨d4,H⟩
 ·exact Zai (G:=Zad kp67 [] []) 1000 [true] (vb true) (by kernel_rfl) (bc (Zak (Zab.2 d4)) b0) q0 c0 H
 ·exact Zae (G:=Zad kp67 [] []) 1000 [false] ⟨(atC (cd Try.f67) [1,1,1,1,1,1,1,0,1,0,0]),[(9,AV.ptr 0 0 0 0),(10,AV.ptr 1 0 0 0),(11,AV.ptr 2 0 0 0),(12,AV.vec true 8 [(zNqO29 u0 v0),(zNqO30 u1 v0),(zNqO31 u1 v1),(ZgG u0 v1)]),(61,AV.vec true 8 [(zNqO29 u0 v0),(zNqO30 u1 v0),(zNqO31 u1 v1),(ZgG u0 v1)]),(62,vi 4),(63,vi 4)],[⟨[ratF m],4,0,false,false⟩,⟨[(zNqO32 a1 a2)],8,0,false,false⟩,⟨[(zNqO33 b1 b2)],8,0,false,false⟩,⟨[(ZgG u0 v1)],8,0,false,false⟩],_,[],_⟩ (by kernel_rfl) (bc (Zah (fun h=>d4 (Zab.1 h))) b0) q0 c0 (Zas [0,1,2] (by kernel_rfl) H)
theorem qNe4 (u0 v0 u1 v1 a1 a2 b1 b2 m:Rat)  (dq:AV) (H :
  vb false=dq) :
 qNe4_at u0 v0 u1 v1 a1 a2 b1 b2 m (Zaf dq):=by
 unfold qNe4_at
 exact Zai (G:=Zad kp67 [] []) 1000 [false] (vb false) (by kernel_rfl) (bc rfl b0) q0 c0 H
end Go.Av

namespace Go.Av
open Go.Proofs
namespace O
noncomputable def neS (p0 q0 p1 q1 a1 a2 b1 b2 m:Rat):Prop:=seg a1 a2 b1 b2 p0 q0 p1 q0<m\/seg a1 a2 b1 b2 p1 q0 p1 q1<m\/seg a1 a2 b1 b2 p1 q1 p0 q1<m\/seg a1 a2 b1 b2 p0 q1 p0 q0<m
noncomputable def nea (x0 y0 x1 y1 ax ay bx by_ r:Int):Prop:=¬(r<=0)/\(hld x0 y0 x1 y1 ax ay\/hld x0 y0 x1 y1 bx by_\/neS (qi x0) (qi y0) (qi x1) (qi y1) (qi ax) (qi ay) (qi bx) (qi by_) (qi r*qi r))
def okNe (x0 y0 x1 y1 ax ay bx by_ r:Int):Prop:=cc x0/\cc y0/\cc x1/\cc y1/\cc ax/\cc ay/\cc bx/\cc by_/\cc r
end O
noncomputable instance (p0 q0 p1 q1 a1 a2 b1 b2 m:Rat):Decidable (O.neS p0 q0 p1 q1 a1 a2 b1 b2 m):=by unfold O.neS;infer_instance
noncomputable instance (x0 y0 x1 y1 ax ay bx by_ r:Int):Decidable (O.nea x0 y0 x1 y1 ax ay bx by_ r):=by unfold O.nea;infer_instance
theorem cc_inI {n:Int} (h:O.cc n):O.inI n:=by unfold O.cc at h;unfold O.inI;omega
theorem okT_qi {n:Int} (h:O.cc n):O.okT 10 (O.qi n):=Zce (okT_int (cc_inI h)) (by omega)
theorem near_loop {p0 q0 p1 q1 a1 a2 b1 b2 m:Rat} (h1:O.okV p0 q0) (h2:O.okV p1 q1) (h3:O.okV a1 a2) (h4:O.okV b1 b2) (hm:O.okT 400 m):qNe0_at p0 q0 p1 q1 a1 a2 b1 b2 m (Zaf (.bool (decide (O.neS p0 q0 p1 q1 a1 a2 b1 b2 m)))):=by
 have R {r:Rat} (h:O.okT 400 r):O.okR r:=Zcc h (by omega)
 have g1:O.okV p1 q0:=⟨h2.1,h1.2⟩
 have g2:O.okV p0 q1:=⟨h1.1,h2.2⟩
 have k0:O.okV4 a1 a2 b1 b2 p0 q0 p1 q0:=⟨h3,h4,h1,g1⟩
 have k1:O.okV4 a1 a2 b1 b2 p1 q0 p1 q1:=⟨h3,h4,g1,h2⟩
 have k2:O.okV4 a1 a2 b1 b2 p1 q1 p0 q1:=⟨h3,h4,h2,g2⟩
 have k3:O.okV4 a1 a2 b1 b2 p0 q1 p0 q0:=⟨h3,h4,g2,h1⟩
 have y:∀ h:O.neS p0 q0 p1 q1 a1 a2 b1 b2 m,AV.bool true = .bool (decide (O.neS p0 q0 p1 q1 a1 a2 b1 b2 m)):=fun h=>by rw [dec_t h]
 refine qNe0 _ _ _ _ _ _ _ _ _ _ ⟨k0,⟨R (okT_seg k0),R hm⟩,fun x=>y (.inl (ZcF.1 x)),fun x0 => ?_⟩
 refine qNe1 _ _ _ _ _ _ _ _ _ _ ⟨k1,⟨R (okT_seg k1),R hm⟩,fun x=>y (.inr (.inl (ZcF.1 x))),fun x1 => ?_⟩
 refine qNe2 _ _ _ _ _ _ _ _ _ _ ⟨k2,⟨R (okT_seg k2),R hm⟩,fun x=>y (.inr (.inr (.inl (ZcF.1 x)))),fun x2 => ?_⟩
 refine qNe3 _ _ _ _ _ _ _ _ _ _ ⟨k3,⟨R (okT_seg k3),R hm⟩,fun x=>y (.inr (.inr (.inr (ZcF.1 x)))),fun x3 => ?_⟩
 refine qNe4 _ _ _ _ _ _ _ _ _ _ ?_
 rw [decide_eq_false]
 rintro (h | h | h | h)
 ·exact x0 (ZcF.2 h)
 ·exact x1 (ZcF.2 h)
 ·exact x2 (ZcF.2 h)
 ·exact x3 (ZcF.2 h)
theorem ev67 (x0 y0 x1 y1 tp ax ay bx by_ r:Int) (h:O.okNe x0 y0 x1 y1 ax ay bx by_ r):Ev M1 (.pure 67 [.agg [.int .i64 x0,.int .i64 y0,.int .i64 x1,.int .i64 y1,.int .i64 tp],.agg [.int .i64 ax,.int .i64 ay],.agg [.int .i64 bx,.int .i64 by_],.int .i64 r]) (.bool (decide (O.nea x0 y0 x1 y1 ax ay bx by_ r))) []:=by
 obtain ⟨c1,c2,c3,c4,c5,c6,c7,c8,c9⟩:=h
 have V {u v:Int} (a:O.cc u) (b:O.cc v):O.okV (O.qi u) (O.qi v):=⟨okT_qi a,okT_qi b⟩
 have J {u v:Int} (a:O.cc u) (b:O.cc v):O.inI2 u v:=⟨cc_inI a,cc_inI b⟩
 have mm:O.okT 400 (O.qi r*O.qi r):=Zce (Zcr (okT_qi c9) (okT_qi c9)) (by omega)
 have R:O.okR (O.qi r):=Zcc (okT_qi c9) (by omega)
 refine call67 (qNe _ _ _ _ _ _ _ _ _ _ _ ⟨fun k => ?_,fun k=>⟨fun j => ?_,fun j=>⟨cc_inI c9,⟨R,R⟩,J c5 c6,J c7 c8,J c1 c2,J c3 c2,J c3 c4,J c1 c4,?_⟩⟩⟩)
 ·rw [decide_eq_false fun x=>x.1 k]
 ·rw [decide_eq_true (show O.nea x0 y0 x1 y1 ax ay bx by_ r from ⟨k,j.elim .inl fun x => .inr (.inl x)⟩)]
 ·have e:decide (O.nea x0 y0 x1 y1 ax ay bx by_ r)=decide (O.neS (O.qi x0) (O.qi y0) (O.qi x1) (O.qi y1) (O.qi ax) (O.qi ay) (O.qi bx) (O.qi by_) (O.qi r*O.qi r)):=
   ZbU ⟨fun x=>x.2.elim (fun y=>absurd (.inl y) j) fun y=>y.elim (fun y=>absurd (.inr y) j) id,fun x=>⟨k,.inr (.inr x)⟩⟩
  rw [e]
  exact near_loop (V c1 c2) (V c3 c4) (V c5 c6) (V c7 c8) mm
end Go.Av

namespace Go.Av
open Go.Proofs
set_option maxRecDepth 100000
def fi27:Fi:=⟨50,[.tmp 6]⟩
def kp27:List (Nat × List Nat):=[(0,[1,2,3]),(1,[1,2,3,7]),(2,[1,2,3,7,8]),(3,[1,2,3,7,8,14]),(4,[1,2,3,7,8]),(5,[1,2,3,7,8,9]),(6,[1,2,3,7,8,9,26]),(7,[1,2,3,7,8]),(8,[6])]
def fi30:Fi:=⟨4,[.cell 0 45]⟩
def kp30:List (Nat × List Nat):=[(0,[0]),(1,[0])]
def fi31:Fi:=⟨46,[.tmp 6]⟩
def kp31:List (Nat × List Nat):=[(0,[1,2,3]),(1,[1,2,3,7]),(2,[1,2,7,11,12,13]),(3,[1,2,7,11,12,13,14]),(4,[1,2,7,9,11,12,13]),(5,[1,2,7,9,11,12,13,21]),(6,[1,2,7,11,12,13]),(7,[1,2,7,11,12,13]),(8,[6])]
def fi54:Fi:=⟨41,[.tmp 8,.tmp 9]⟩
def kp54:List (Nat × List Nat):=[(0,[3,4,5,6]),(1,[3,4,5,6,10,11]),(2,[3,5,6,10,11,15,16,17]),(3,[3,5,6,10,11,15,16,17,18]),(4,[3,5,6,10,11,13,15,16,17]),(5,[3,5,6,10,11,13,15,16,17,35]),(6,[3,5,6,10,11,15,16,17]),(7,[3,5,6,10,11,15,16,17]),(8,[8,9])]
def qHi_at (f:Bool) (cs:List Bx) (u0 v0 u1 v1 th gp sf:Int) (ax ay bx by_ r:Int) (Q:AV->Heap->Prop):Prop:=Wp M1 (.run fi54 (atC (cd Try.f54) []) [(0,.agg [.int .i64 u0,.int .i64 v0,.int .i64 u1,.int .i64 v1,.int .i64 th,.int .i64 gp,.vec f 5 (cs.map Bx.a),.int .i64 sf]),(1,.agg [.int .i64 ax,.int .i64 ay]),(2,.agg [.int .i64 bx,.int .i64 by_]),(3,.int .i64 r)] []) Q
def ZeG (f:Bool) (cs:List Bx) (ax ay bx by_ r t:Int) (fo:Bool) (n i:Int) (Q:AV->Heap->Prop):Prop:=Wp M1 (.run fi54 (atC (cd Try.f54) [1,1,0,1,0,0]) [(3,.int .i64 r),(5,.ptr 0 0 0 0),(6,.ptr 1 0 0 0),(10,.int .i64 t),(11,.bool fo),(15,.vec f 5 (cs.map Bx.a)),(16,.int .i64 n),(17,.int .i64 i)] [⟨[.agg [.int .i64 ax,.int .i64 ay]],2,0,false,false⟩,⟨[.agg [.int .i64 bx,.int .i64 by_]],2,0,false,false⟩]) Q
def qBl_at (f:Bool) (cs:List Bx) (u0 v0 u1 v1 th gp sf:Int) (z r:Int) (Q:AV->Heap->Prop):Prop:=Wp M1 (.run fi31 (atC (cd Try.f31) []) [(0,.agg [.int .i64 u0,.int .i64 v0,.int .i64 u1,.int .i64 v1,.int .i64 th,.int .i64 gp,.vec f 5 (cs.map Bx.a),.int .i64 sf]),(1,.int .i64 z),(2,.int .i64 r)] []) Q
def ZfP (f:Bool) (cs:List Bx) (z r n i:Int) (Q:AV->Heap->Prop):Prop:=Wp M1 (.run fi31 (atC (cd Try.f31) [1,1,0,1,0,0]) [(1,.int .i64 z),(2,.int .i64 r),(7,.vnil),(11,.vec f 5 (cs.map Bx.a)),(12,.int .i64 n),(13,.int .i64 i)] []) Q
def ZeI (f:Bool) (cs gs:List Bx) (v:Nat) (z r n i:Int) (Q:AV->Heap->Prop):Prop:=Wp M1 (.run fi31 (atC (cd Try.f31) [1,1,0,1,0,0]) [(1,.int .i64 z),(2,.int .i64 r),(7,.row 0 v),(11,.vec f 5 (cs.map Bx.a)),(12,.int .i64 n),(13,.int .i64 i)] [⟨gs.map Bx.a,5,v,false,true⟩]) Q
def qBk_at (f:Bool) (cs:List Bx) (u0 v0 u1 v1 th gp sf:Int) (z r:Int) (Q:AV->Heap->Prop):Prop:=Wp M1 (.run fi27 (atC (cd Try.f27) []) [(0,.agg [.int .i64 u0,.int .i64 v0,.int .i64 u1,.int .i64 v1,.int .i64 th,.int .i64 gp,.vec f 5 (cs.map Bx.a),.int .i64 sf]),(1,.int .i64 z),(2,.int .i64 r)] []) Q
def ZfQ (f:Bool) (cs:List Bx) (u0 v0 u1 v1 th gp sf:Int) (z r i:Int) (Q:AV->Heap->Prop):Prop:=Wp M1 (.run fi27 (atC (cd Try.f27) [1,1,0,1,0,0]) [(1,.int .i64 z),(2,.int .i64 r),(3,.ptr 0 0 0 0),(7,.vnil),(8,.int .i64 i)] [⟨[.agg [.int .i64 u0,.int .i64 v0,.int .i64 u1,.int .i64 v1,.int .i64 th,.int .i64 gp,.vec f 5 (cs.map Bx.a),.int .i64 sf]],8,0,false,false⟩]) Q
def ZeJ (f:Bool) (cs:List Bx) (u0 v0 u1 v1 th gp sf:Int) (gs:List Bx) (v:Nat) (z r i:Int) (Q:AV->Heap->Prop):Prop:=Wp M1 (.run fi27 (atC (cd Try.f27) [1,1,0,1,0,0]) [(1,.int .i64 z),(2,.int .i64 r),(3,.ptr 0 0 0 0),(7,.row 1 v),(8,.int .i64 i)] [⟨[.agg [.int .i64 u0,.int .i64 v0,.int .i64 u1,.int .i64 v1,.int .i64 th,.int .i64 gp,.vec f 5 (cs.map Bx.a),.int .i64 sf]],8,0,false,false⟩,⟨gs.map Bx.a,5,v,false,true⟩]) Q
def qBen_at  (Q:AV->Heap->Prop):Prop:=Wp M1 (.run fi30 (atC (cd Try.f30) []) [] []) Q
theorem call27 {args:List AV} {d:AV} (h:wc M1 fi27 Try.f27 args d):Ev M1 (.pure 27 args) d []:=pcl _ _ (by kernel_rfl) h
theorem call30 {args:List AV} {d:AV} (h:wc M1 fi30 Try.f30 args d):Ev M1 (.pure 30 args) d []:=pcl _ _ (by kernel_rfl) h
theorem call31 {args:List AV} {d:AV} (h:wc M1 fi31 Try.f31 args d):Ev M1 (.pure 31 args) d []:=pcl _ _ (by kernel_rfl) h
theorem call54 {args:List AV} {d:AV} (h:wc M1 fi54 Try.f54 args d):Ev M1 (.pure 54 args) d []:=pcl _ _ (by kernel_rfl) h
theorem qHi (f:Bool) (cs:List Bx) (u0 v0 u1 v1 th gp sf:Int) (ax ay bx by_ r:Int)  (dq:AV) (H :
  ZeG f cs ax ay bx by_ r 0 false ((↑cs.length:Int)) 0 (Zaf dq)) :
 qHi_at f cs u0 v0 u1 v1 th gp sf ax ay bx by_ r (Zaf dq):=by
 unfold qHi_at
 have w1:(List.map Bx.a cs).length=cs.length:=List.length_map ..
 exact Zae (G:=Zad kp54 [] []) 1000 [] ⟨(atC (cd Try.f54) [1,1,0,1,0,0]),[(3,vi r),(5,AV.ptr 1 0 0 0),(6,AV.ptr 2 0 0 0),(10,vi 0),(11,vb false),(15,AV.vec f 5 (List.map Bx.a cs)),(16,vi (↑(List.map Bx.a cs).length:Int)),(17,vi 0)],[⟨[ag [vi u0,vi v0,vi u1,vi v1,vi th,vi gp,AV.vec f 5 (List.map Bx.a cs),vi sf]],8,0,false,false⟩,⟨[ag [vi ax,vi ay]],2,0,false,false⟩,⟨[ag [vi bx,vi by_]],2,0,false,false⟩],_,[],_⟩ (by kernel_rfl) (bc rfl b0) q0 c0 (by (try rw [w1]);all_goals exact Zas [1,2] (by kernel_rfl) H)
noncomputable abbrev zNqP1 (cs:List Bx) (i:Int):=ag [vi (cs.getD i.toNat default).x0,vi (cs.getD i.toNat default).y0,vi (cs.getD i.toNat default).x1,vi (cs.getD i.toNat default).y1,vi (cs.getD i.toNat default).top]
noncomputable abbrev zNqP2 (cs:List Bx) (i:Int) (ax:Int) (ay:Int) (bx:Int) (by_:Int) (r:Int):=O.nea (cs.getD i.toNat default).x0 (cs.getD i.toNat default).y0 (cs.getD i.toNat default).x1 (cs.getD i.toNat default).y1 ax ay bx by_ r
theorem qHiL (f:Bool) (cs:List Bx) (ax ay bx by_ r t:Int) (fo:Bool) (n i:Int)  (dq:AV) (H :
  ((i<n)->(0<=i) /\
   (i.toNat<cs.length) /\
   (O.okNe (cs.getD i.toNat default).x0 (cs.getD i.toNat default).y0 (cs.getD i.toNat default).x1 (cs.getD i.toNat default).y1 ax ay bx by_ r) /\
   (((O.nea (cs.getD i.toNat default).x0 (cs.getD i.toNat default).y0 (cs.getD i.toNat default).x1 (cs.getD i.toNat default).y1 ax ay bx by_ r)/\((¬(fo=true))\/((cs.getD i.toNat default).top>t)))->(-9223372036854775808<=i+1/\i+1<=9223372036854775807) /\
    ZeG f cs ax ay bx by_ r ((cs.getD i.toNat default).top) true n (i+1) (Zaf dq)) /\
   (¬((O.nea (cs.getD i.toNat default).x0 (cs.getD i.toNat default).y0 (cs.getD i.toNat default).x1 (cs.getD i.toNat default).y1 ax ay bx by_ r)/\((¬(fo=true))\/((cs.getD i.toNat default).top>t)))->(-9223372036854775808<=i+1/\i+1<=9223372036854775807) /\
    ZeG f cs ax ay bx by_ r t fo n (i+1) (Zaf dq))) /\
  (¬(i<n)->tu [vi t,vb fo]=dq)) :
 ZeG f cs ax ay bx by_ r t fo n i (Zaf dq):=by
 unfold ZeG
 rcases xq H with ⟨d2,H⟩|⟨d2,H⟩
 ·obtain ⟨k4,H⟩:=H
  have w5:(List.map Bx.a cs).length=cs.length:=List.length_map ..
  have i6:(decide (i.toNat<(List.map Bx.a cs).length))=true ↔ (i.toNat<cs.length):=(by (try rw [w5]);all_goals exact Zab)
  obtain ⟨k7,k8,H⟩:=H
  refine Zae (G:=Zad kp54 [(4,1,.elem ((zNqP1 cs i))),(5,4,.call (vb (decide (zNqP2 cs i ax ay bx by_ r))) none)] []) 11 [true] ⟨(atC (cd Try.f54) [1,1,0,1,0,0,1,1,0,0,1,1]),[(3,vi r),(5,AV.ptr 0 0 0 0),(6,AV.ptr 1 0 0 0),(10,vi t),(11,vb fo),(13,AV.ptr 2 0 0 0),(15,AV.vec f 5 (List.map Bx.a cs)),(16,vi n),(17,vi i),(35,vb (bif decide (zNqP2 cs i ax ay bx by_ r) then bif !fo then true else decide ((cs.getD i.toNat default).top>t) else false))],[⟨[ag [vi ax,vi ay]],2,0,false,false⟩,⟨[ag [vi bx,vi by_]],2,0,false,false⟩,⟨[(zNqP1 cs i)],5,0,false,false⟩],[(decide (i<n))==true,decide (0<=i),decide (i.toNat<(List.map Bx.a cs).length),true,true,true,true,!((!fo)==false&&(decide (zNqP2 cs i ax ay bx by_ r)==true&&true))||true],[((List.map Bx.a cs).get?Internal i.toNat=some ((zNqP1 cs i)))],_⟩ (by kernel_rfl) (bc (Zak (Zab.2 d2)) (bc (Zab.2 k4) (bc (i6.2 k7) (bc rfl (bc rfl (bc rfl (bc rfl (bc (Bool.or_true _) b0)))))))) (qc (Zal k7) q0) (ce (@ev67 ((cs.getD i.toNat default).x0) ((cs.getD i.toNat default).y0) ((cs.getD i.toNat default).x1) ((cs.getD i.toNat default).y1) ((cs.getD i.toNat default).top) ax ay bx by_ r k8) c0) ?_
  rcases xq H with ⟨d10,H⟩|⟨d10,H⟩
  ·obtain ⟨k11,H⟩:=H
   have w12:wi (i+1)=i+1:=wI64 k11
   exact Zae (G:=Zad kp54 [] []) 1000 [true] ⟨(atC (cd Try.f54) [1,1,0,1,0,0]),[(3,vi r),(5,AV.ptr 0 0 0 0),(6,AV.ptr 1 0 0 0),(10,vi (cs.getD i.toNat default).top),(11,vb true),(15,AV.vec f 5 (List.map Bx.a cs)),(16,vi n),(17,vi (wi (i+1)))],[⟨[ag [vi ax,vi ay]],2,0,false,false⟩,⟨[ag [vi bx,vi by_]],2,0,false,false⟩,⟨[(zNqP1 cs i)],5,0,false,false⟩],[(bif decide (zNqP2 cs i ax ay bx by_ r) then bif !fo then true else decide ((cs.getD i.toNat default).top>t) else false)==true,true],[],_⟩ (by kernel_rfl) (bc (Zak ((ZaD Zab (ZaC (ZaS (ZaI _)) Zab)).2 d10)) (bc rfl b0)) q0 c0 (by (try rw [w12]);all_goals exact Zas [0,1] (by kernel_rfl) H)
  ·obtain ⟨k13,H⟩:=H
   have w14:wi (i+1)=i+1:=wI64 k13
   exact Zae (G:=Zad kp54 [] []) 1000 [false] ⟨(atC (cd Try.f54) [1,1,0,1,0,0]),[(3,vi r),(5,AV.ptr 0 0 0 0),(6,AV.ptr 1 0 0 0),(10,vi t),(11,vb fo),(15,AV.vec f 5 (List.map Bx.a cs)),(16,vi n),(17,vi (wi (i+1)))],[⟨[ag [vi ax,vi ay]],2,0,false,false⟩,⟨[ag [vi bx,vi by_]],2,0,false,false⟩,⟨[(zNqP1 cs i)],5,0,false,false⟩],[(bif decide (zNqP2 cs i ax ay bx by_ r) then bif !fo then true else decide ((cs.getD i.toNat default).top>t) else false)==false],[],_⟩ (by kernel_rfl) (bc (Zah (fun h=>d10 ((ZaD Zab (ZaC (ZaS (ZaI _)) Zab)).1 h))) b0) q0 c0 (by (try rw [w14]);all_goals exact Zas [0,1] (by kernel_rfl) H)
 ·exact Zai (G:=Zad kp54 [] []) 1000 [false] (tu [vi t,vb fo]) (by kernel_rfl) (bc (Zah (fun h=>d2 (Zab.1 h))) b0) q0 c0 H
theorem qBl (f:Bool) (cs:List Bx) (u0 v0 u1 v1 th gp sf:Int) (z r:Int)  (dq:AV) (H :
  ZfP f cs z r ((↑cs.length:Int)) 0 (Zaf dq)) :
 qBl_at f cs u0 v0 u1 v1 th gp sf z r (Zaf dq):=by
 unfold qBl_at
 have w1:(List.map Bx.a cs).length=cs.length:=List.length_map ..
 exact Zae (G:=Zad kp31 [] []) 1000 [] ⟨(atC (cd Try.f31) [1,1,0,1,0,0]),[(1,vi z),(2,vi r),(7,AV.vnil),(11,AV.vec f 5 (List.map Bx.a cs)),(12,vi (↑(List.map Bx.a cs).length:Int)),(13,vi 0)],[⟨[ag [vi u0,vi v0,vi u1,vi v1,vi th,vi gp,AV.vec f 5 (List.map Bx.a cs),vi sf]],8,0,false,false⟩],_,[],_⟩ (by kernel_rfl) (bc rfl b0) q0 c0 (by (try rw [w1]);all_goals exact Zas [] (by kernel_rfl) H)
noncomputable abbrev zNqP3 (cs:List Bx) (i:Int):=ag [vi (cs.getD i.toNat default).x0,vi (cs.getD i.toNat default).y0,vi (cs.getD i.toNat default).x1,vi (cs.getD i.toNat default).y1,vi (cs.getD i.toNat default).top]
theorem qBl0 (f:Bool) (cs:List Bx) (z r n i:Int)  (dq:AV) (H :
  ((i<n)->(0<=i) /\
   (i.toNat<cs.length) /\
   (-9223372036854775808<=(cs.getD i.toNat default).top+1000/\(cs.getD i.toNat default).top+1000<=9223372036854775807) /\
   (((cs.getD i.toNat default).top+1000>z)->(-9223372036854775808<=(cs.getD i.toNat default).x0-r/\(cs.getD i.toNat default).x0-r<=9223372036854775807) /\
    (-9223372036854775808<=(cs.getD i.toNat default).y0-r/\(cs.getD i.toNat default).y0-r<=9223372036854775807) /\
    (-9223372036854775808<=(cs.getD i.toNat default).x1+r/\(cs.getD i.toNat default).x1+r<=9223372036854775807) /\
    (-9223372036854775808<=(cs.getD i.toNat default).y1+r/\(cs.getD i.toNat default).y1+r<=9223372036854775807) /\
    (-9223372036854775808<=i+1/\i+1<=9223372036854775807) /\
    ZeI f cs ([{ x0:=(cs.getD i.toNat default).x0-r,y0:=(cs.getD i.toNat default).y0-r,x1:=(cs.getD i.toNat default).x1+r,y1:=(cs.getD i.toNat default).y1+r,top:=(cs.getD i.toNat default).top }]) 0 z r n (i+1) (Zaf dq)) /\
   (¬((cs.getD i.toNat default).top+1000>z)->(-9223372036854775808<=i+1/\i+1<=9223372036854775807) /\
    ZfP f cs z r n (i+1) (Zaf dq))) /\
  (¬(i<n)->Weak (AV.vnil) dq)) :
 ZfP f cs z r n i (Zaf dq):=by
 unfold ZfP
 rcases xq H with ⟨d2,H⟩|⟨d2,H⟩
 ·obtain ⟨k4,H⟩:=H
  have w5:(List.map Bx.a cs).length=cs.length:=List.length_map ..
  have i6:(decide (i.toNat<(List.map Bx.a cs).length))=true ↔ (i.toNat<cs.length):=(by (try rw [w5]);all_goals exact Zab)
  obtain ⟨k7,k8,H⟩:=H
  have w9:wi ((cs.getD i.toNat default).top+1000)=(cs.getD i.toNat default).top+1000:=wI64 k8
  have i10:(decide (wi ((cs.getD i.toNat default).top+1000)>z))=true ↔ ((cs.getD i.toNat default).top+1000>z):=(by (try rw [w9]);all_goals exact Zab)
  refine Zae (G:=Zad kp31 [(4,1,.elem ((zNqP3 cs i)))] []) 11 [true] ⟨(atC (cd Try.f31) [1,1,0,1,0,0,1,1,0,0,1,1]),[(1,vi z),(2,vi r),(7,AV.vnil),(9,AV.ptr 0 0 0 0),(11,AV.vec f 5 (List.map Bx.a cs)),(12,vi n),(13,vi i),(21,vb (decide (wi ((cs.getD i.toNat default).top+1000)>z)))],[⟨[(zNqP3 cs i)],5,0,false,false⟩],_,[((List.map Bx.a cs).get?Internal i.toNat=some ((zNqP3 cs i)))],_⟩ (by kernel_rfl) (bc (Zak (Zab.2 d2)) (bc (Zab.2 k4) (bc (i6.2 k7) (bc rfl (bc rfl b0))))) (qc (Zal k7) q0) c0 ?_
  rcases xq H with ⟨d11,H⟩|⟨d11,H⟩
  ·obtain ⟨k12,H⟩:=H
   have w13:wi ((cs.getD i.toNat default).x0-r)=(cs.getD i.toNat default).x0-r:=wI64 k12
   obtain ⟨k14,H⟩:=H
   have w15:wi ((cs.getD i.toNat default).y0-r)=(cs.getD i.toNat default).y0-r:=wI64 k14
   obtain ⟨k16,H⟩:=H
   have w17:wi ((cs.getD i.toNat default).x1+r)=(cs.getD i.toNat default).x1+r:=wI64 k16
   obtain ⟨k18,H⟩:=H
   have w19:wi ((cs.getD i.toNat default).y1+r)=(cs.getD i.toNat default).y1+r:=wI64 k18
   obtain ⟨k20,H⟩:=H
   have w21:wi (i+1)=i+1:=wI64 k20
   have w22:[ag [vi ((cs.getD i.toNat default).x0-r),vi ((cs.getD i.toNat default).y0-r),vi ((cs.getD i.toNat default).x1+r),vi ((cs.getD i.toNat default).y1+r),vi (cs.getD i.toNat default).top]]=List.map Bx.a [{ x0:=(cs.getD i.toNat default).x0-r,y0:=(cs.getD i.toNat default).y0-r,x1:=(cs.getD i.toNat default).x1+r,y1:=(cs.getD i.toNat default).y1+r,top:=(cs.getD i.toNat default).top }]:=rfl
   exact Zae (G:=Zad kp31 [] []) 1000 [true] ⟨(atC (cd Try.f31) [1,1,0,1,0,0]),[(1,vi z),(2,vi r),(7,AV.row 1 0),(11,AV.vec f 5 (List.map Bx.a cs)),(12,vi n),(13,vi (wi (i+1)))],[⟨[(zNqP3 cs i)],5,0,false,false⟩,⟨[ag [vi (wi ((cs.getD i.toNat default).x0-r)),vi (wi ((cs.getD i.toNat default).y0-r)),vi (wi ((cs.getD i.toNat default).x1+r)),vi (wi ((cs.getD i.toNat default).y1+r)),vi (cs.getD i.toNat default).top]],5,0,false,true⟩],_,[],_⟩ (by kernel_rfl) (bc (Zak (i10.2 d11)) (bc rfl (bc rfl (bc rfl (bc rfl (bc rfl (bc rfl b0))))))) q0 c0 (by (try rw [w13]);(try rw [w15]);(try rw [w17]);(try rw [w19]);(try rw [w21]);(try rw [w22]);all_goals exact Zas [1] (by kernel_rfl) H)
  ·obtain ⟨k23,H⟩:=H
   have w24:wi (i+1)=i+1:=wI64 k23
   exact Zae (G:=Zad kp31 [] []) 1000 [false] ⟨(atC (cd Try.f31) [1,1,0,1,0,0]),[(1,vi z),(2,vi r),(7,AV.vnil),(11,AV.vec f 5 (List.map Bx.a cs)),(12,vi n),(13,vi (wi (i+1)))],[⟨[(zNqP3 cs i)],5,0,false,false⟩],_,[],_⟩ (by kernel_rfl) (bc (Zah (fun h=>d11 (i10.1 h))) b0) q0 c0 (by (try rw [w24]);all_goals exact Zas [] (by kernel_rfl) H)
 ·exact Zaq (G:=Zad kp31 [] []) 1000 [false] (AV.vnil) (by kernel_rfl) (bc (Zah (fun h=>d2 (Zab.1 h))) b0) q0 c0 H
noncomputable abbrev zNqP4 (cs:List Bx) (i:Int):=ag [vi (cs.getD i.toNat default).x0,vi (cs.getD i.toNat default).y0,vi (cs.getD i.toNat default).x1,vi (cs.getD i.toNat default).y1,vi (cs.getD i.toNat default).top]
theorem qBlL (f:Bool) (cs gs:List Bx) (v:Nat) (z r n i:Int)  (dq:AV) (H :
  ((i<n)->(0<=i) /\
   (i.toNat<cs.length) /\
   (-9223372036854775808<=(cs.getD i.toNat default).top+1000/\(cs.getD i.toNat default).top+1000<=9223372036854775807) /\
   (((cs.getD i.toNat default).top+1000>z)->(-9223372036854775808<=(cs.getD i.toNat default).x0-r/\(cs.getD i.toNat default).x0-r<=9223372036854775807) /\
    (-9223372036854775808<=(cs.getD i.toNat default).y0-r/\(cs.getD i.toNat default).y0-r<=9223372036854775807) /\
    (-9223372036854775808<=(cs.getD i.toNat default).x1+r/\(cs.getD i.toNat default).x1+r<=9223372036854775807) /\
    (-9223372036854775808<=(cs.getD i.toNat default).y1+r/\(cs.getD i.toNat default).y1+r<=9223372036854775807) /\
    ((gs.length+1)*40<=1099511627776) /\
    (-9223372036854775808<=i+1/\i+1<=9223372036854775807) /\
    ZeI f cs (gs++[{ x0:=(cs.getD i.toNat default).x0-r,y0:=(cs.getD i.toNat default).y0-r,x1:=(cs.getD i.toNat default).x1+r,y1:=(cs.getD i.toNat default).y1+r,top:=(cs.getD i.toNat default).top }]) (v+1) z r n (i+1) (Zaf dq)) /\
   (¬((cs.getD i.toNat default).top+1000>z)->(-9223372036854775808<=i+1/\i+1<=9223372036854775807) /\
    ZeI f cs gs v z r n (i+1) (Zaf dq))) /\
  (¬(i<n)->Weak (AV.vec false 5 (List.map Bx.a gs)) dq)) :
 ZeI f cs gs v z r n i (Zaf dq):=by
 unfold ZeI
 rcases xq H with ⟨d2,H⟩|⟨d2,H⟩
 ·obtain ⟨k4,H⟩:=H
  have w5:(List.map Bx.a cs).length=cs.length:=List.length_map ..
  have i6:(decide (i.toNat<(List.map Bx.a cs).length))=true ↔ (i.toNat<cs.length):=(by (try rw [w5]);all_goals exact Zab)
  obtain ⟨k7,k8,H⟩:=H
  have w9:wi ((cs.getD i.toNat default).top+1000)=(cs.getD i.toNat default).top+1000:=wI64 k8
  have i10:(decide (wi ((cs.getD i.toNat default).top+1000)>z))=true ↔ ((cs.getD i.toNat default).top+1000>z):=(by (try rw [w9]);all_goals exact Zab)
  refine Zae (G:=Zad kp31 [(4,1,.elem ((zNqP4 cs i)))] []) 11 [true] ⟨(atC (cd Try.f31) [1,1,0,1,0,0,1,1,0,0,1,1]),[(1,vi z),(2,vi r),(7,AV.row 0 v),(9,AV.ptr 1 0 0 0),(11,AV.vec f 5 (List.map Bx.a cs)),(12,vi n),(13,vi i),(21,vb (decide (wi ((cs.getD i.toNat default).top+1000)>z)))],[⟨List.map Bx.a gs,5,v,false,true⟩,⟨[(zNqP4 cs i)],5,0,false,false⟩],_,[((List.map Bx.a cs).get?Internal i.toNat=some ((zNqP4 cs i)))],_⟩ (by kernel_rfl) (bc (Zak (Zab.2 d2)) (bc (Zab.2 k4) (bc (i6.2 k7) (bc rfl (bc rfl b0))))) (qc (Zal k7) q0) c0 ?_
  rcases xq H with ⟨d11,H⟩|⟨d11,H⟩
  ·have w12:(List.map Bx.a gs).length=gs.length:=List.length_map ..
   obtain ⟨k13,H⟩:=H
   have w14:wi ((cs.getD i.toNat default).x0-r)=(cs.getD i.toNat default).x0-r:=wI64 k13
   obtain ⟨k15,H⟩:=H
   have w16:wi ((cs.getD i.toNat default).y0-r)=(cs.getD i.toNat default).y0-r:=wI64 k15
   obtain ⟨k17,H⟩:=H
   have w18:wi ((cs.getD i.toNat default).x1+r)=(cs.getD i.toNat default).x1+r:=wI64 k17
   obtain ⟨k19,H⟩:=H
   have w20:wi ((cs.getD i.toNat default).y1+r)=(cs.getD i.toNat default).y1+r:=wI64 k19
   have i21:(decide (((List.map Bx.a gs).length+1)*40<=1099511627776))=true ↔ ((gs.length+1)*40<=1099511627776):=(by (try rw [w12]);(try rw [w14]);(try rw [w16]);(try rw [w18]);(try rw [w20]);all_goals exact Zab)
   obtain ⟨k22,H⟩:=H
   have w23:List.map Bx.a gs++[ag [vi ((cs.getD i.toNat default).x0-r),vi ((cs.getD i.toNat default).y0-r),vi ((cs.getD i.toNat default).x1+r),vi ((cs.getD i.toNat default).y1+r),vi (cs.getD i.toNat default).top]]=List.map Bx.a (gs++[{ x0:=(cs.getD i.toNat default).x0-r,y0:=(cs.getD i.toNat default).y0-r,x1:=(cs.getD i.toNat default).x1+r,y1:=(cs.getD i.toNat default).y1+r,top:=(cs.getD i.toNat default).top }]):=(Zcs rfl rfl)
   obtain ⟨k24,H⟩:=H
   have w25:wi (i+1)=i+1:=wI64 k24
   exact Zae (G:=Zad kp31 [] []) 1000 [true] ⟨(atC (cd Try.f31) [1,1,0,1,0,0]),[(1,vi z),(2,vi r),(7,AV.row 0 (v+1)),(11,AV.vec f 5 (List.map Bx.a cs)),(12,vi n),(13,vi (wi (i+1)))],[⟨List.map Bx.a gs++[ag [vi (wi ((cs.getD i.toNat default).x0-r)),vi (wi ((cs.getD i.toNat default).y0-r)),vi (wi ((cs.getD i.toNat default).x1+r)),vi (wi ((cs.getD i.toNat default).y1+r)),vi (cs.getD i.toNat default).top]],5,v+1,false,true⟩,⟨[(zNqP4 cs i)],5,0,false,false⟩],[(decide (wi ((cs.getD i.toNat default).top+1000)>z))==true,true,true,true,true,true,v==v,decide (((List.map Bx.a gs).length+1)*40<=1099511627776)],[],_⟩ (by kernel_rfl) (bc (Zak (i10.2 d11)) (bc rfl (bc rfl (bc rfl (bc rfl (bc rfl (bc (beq_self_eq_true _) (bc (i21.2 k22) b0)))))))) q0 c0 (by (try rw [w14]);(try rw [w16]);(try rw [w18]);(try rw [w20]);(try rw [w23]);(try rw [w25]);all_goals exact Zas [0] (by kernel_rfl) H)
  ·obtain ⟨k26,H⟩:=H
   have w27:wi (i+1)=i+1:=wI64 k26
   exact Zae (G:=Zad kp31 [] []) 1000 [false] ⟨(atC (cd Try.f31) [1,1,0,1,0,0]),[(1,vi z),(2,vi r),(7,AV.row 0 v),(11,AV.vec f 5 (List.map Bx.a cs)),(12,vi n),(13,vi (wi (i+1)))],[⟨List.map Bx.a gs,5,v,false,true⟩,⟨[(zNqP4 cs i)],5,0,false,false⟩],_,[],_⟩ (by kernel_rfl) (bc (Zah (fun h=>d11 (i10.1 h))) b0) q0 c0 (by (try rw [w27]);all_goals exact Zas [0] (by kernel_rfl) H)
 ·exact Zax (G:=Zad kp31 [] []) 1000 [false] (k:=((atC (cd Try.f31) [1,1,1,1])).tail) (env':=[(6,AV.row 0 v)]) (L':=[⟨List.map Bx.a gs,5,v,false,true⟩]) (asm:=[(decide (i<n))==false]) (eqs:=[]) (calls:=[]) (AV.row 0 v) (by kernel_rfl) (by kernel_rfl) (Zaa (Zah (fun h=>d2 (Zab.1 h))) Zaj) Zan Zao (Zcb (d:=(AV.vec false 5 (List.map Bx.a gs))) (bs:=[v==v]) (by kernel_rfl) (by kernel_rfl) (Zaa (beq_self_eq_true _) Zaj) (by kernel_rfl) H)
theorem qBk (f:Bool) (cs:List Bx) (u0 v0 u1 v1 th gp sf:Int) (z r:Int)  (dq:AV) (H :
  ZfQ f cs u0 v0 u1 v1 th gp sf z r 0 (Zaf dq)) :
 qBk_at f cs u0 v0 u1 v1 th gp sf z r (Zaf dq):=by
 unfold qBk_at
 exact Zae (G:=Zad kp27 [] []) 1000 [] ⟨(atC (cd Try.f27) [1,1,0,1,0,0]),[(1,vi z),(2,vi r),(3,AV.ptr 0 0 0 0),(7,AV.vnil),(8,vi 0)],[⟨[ag [vi u0,vi v0,vi u1,vi v1,vi th,vi gp,AV.vec f 5 (List.map Bx.a cs),vi sf]],8,0,false,false⟩],_,[],_⟩ (by kernel_rfl) b0 q0 c0 H
noncomputable abbrev zNqP5 (cs:List Bx) (i:Int):=ag [vi (cs.getD i.toNat default).x0,vi (cs.getD i.toNat default).y0,vi (cs.getD i.toNat default).x1,vi (cs.getD i.toNat default).y1,vi (cs.getD i.toNat default).top]
theorem qBk0 (f:Bool) (cs:List Bx) (u0 v0 u1 v1 th gp sf:Int) (z r i:Int)  (dq:AV) (H :
  ((i<(↑cs.length:Int))->(0<=i) /\
   (i.toNat<cs.length) /\
   (-9223372036854775808<=(cs.getD i.toNat default).top+1000/\(cs.getD i.toNat default).top+1000<=9223372036854775807) /\
   (((cs.getD i.toNat default).top+1000>z)->(-9223372036854775808<=(cs.getD i.toNat default).x0-r/\(cs.getD i.toNat default).x0-r<=9223372036854775807) /\
    (-9223372036854775808<=(cs.getD i.toNat default).y0-r/\(cs.getD i.toNat default).y0-r<=9223372036854775807) /\
    (-9223372036854775808<=(cs.getD i.toNat default).x1+r/\(cs.getD i.toNat default).x1+r<=9223372036854775807) /\
    (-9223372036854775808<=(cs.getD i.toNat default).y1+r/\(cs.getD i.toNat default).y1+r<=9223372036854775807) /\
    (-9223372036854775808<=i+1/\i+1<=9223372036854775807) /\
    ZeJ f cs u0 v0 u1 v1 th gp sf ([{ x0:=(cs.getD i.toNat default).x0-r,y0:=(cs.getD i.toNat default).y0-r,x1:=(cs.getD i.toNat default).x1+r,y1:=(cs.getD i.toNat default).y1+r,top:=(cs.getD i.toNat default).top }]) 0 z r (i+1) (Zaf dq)) /\
   (¬((cs.getD i.toNat default).top+1000>z)->(-9223372036854775808<=i+1/\i+1<=9223372036854775807) /\
    ZfQ f cs u0 v0 u1 v1 th gp sf z r (i+1) (Zaf dq))) /\
  (¬(i<(↑cs.length:Int))->Weak (AV.vnil) dq)) :
 ZfQ f cs u0 v0 u1 v1 th gp sf z r i (Zaf dq):=by
 unfold ZfQ
 have w1:(List.map Bx.a cs).length=cs.length:=List.length_map ..
 have i2:(decide (i<(↑(List.map Bx.a cs).length:Int)))=true ↔ (i<(↑cs.length:Int)):=(by (try rw [w1]);all_goals exact Zab)
 rcases xq H with ⟨d3,H⟩|⟨d3,H⟩
 ·obtain ⟨k5,H⟩:=H
  have i6:(decide (i.toNat<(List.map Bx.a cs).length))=true ↔ (i.toNat<cs.length):=(by (try rw [w1]);all_goals exact Zab)
  obtain ⟨k7,k8,H⟩:=H
  have w9:wi ((cs.getD i.toNat default).top+1000)=(cs.getD i.toNat default).top+1000:=wI64 k8
  have i10:(decide (wi ((cs.getD i.toNat default).top+1000)>z))=true ↔ ((cs.getD i.toNat default).top+1000>z):=(by (try rw [w9]);all_goals exact Zab)
  refine Zae (G:=Zad kp27 [(5,4,.elem ((zNqP5 cs i)))] []) 11 [true] ⟨(atC (cd Try.f27) [1,1,0,1,0,0,1,0,0,1,1]),[(1,vi z),(2,vi r),(3,AV.ptr 0 0 0 0),(7,AV.vnil),(8,vi i),(9,AV.ptr 1 0 0 0),(26,vb (decide (wi ((cs.getD i.toNat default).top+1000)>z)))],[⟨[ag [vi u0,vi v0,vi u1,vi v1,vi th,vi gp,AV.vec f 5 (List.map Bx.a cs),vi sf]],8,0,false,false⟩,⟨[(zNqP5 cs i)],5,0,false,false⟩],_,[((List.map Bx.a cs).get?Internal i.toNat=some ((zNqP5 cs i)))],_⟩ (by kernel_rfl) (bc rfl (bc (Zak (i2.2 d3)) (bc rfl (bc (Zab.2 k5) (bc (i6.2 k7) (bc rfl (bc rfl b0))))))) (qc (Zal k7) q0) c0 ?_
  rcases xq H with ⟨d11,H⟩|⟨d11,H⟩
  ·obtain ⟨k12,H⟩:=H
   have w13:wi ((cs.getD i.toNat default).x0-r)=(cs.getD i.toNat default).x0-r:=wI64 k12
   obtain ⟨k14,H⟩:=H
   have w15:wi ((cs.getD i.toNat default).y0-r)=(cs.getD i.toNat default).y0-r:=wI64 k14
   obtain ⟨k16,H⟩:=H
   have w17:wi ((cs.getD i.toNat default).x1+r)=(cs.getD i.toNat default).x1+r:=wI64 k16
   obtain ⟨k18,H⟩:=H
   have w19:wi ((cs.getD i.toNat default).y1+r)=(cs.getD i.toNat default).y1+r:=wI64 k18
   obtain ⟨k20,H⟩:=H
   have w21:wi (i+1)=i+1:=wI64 k20
   have w22:[ag [vi ((cs.getD i.toNat default).x0-r),vi ((cs.getD i.toNat default).y0-r),vi ((cs.getD i.toNat default).x1+r),vi ((cs.getD i.toNat default).y1+r),vi (cs.getD i.toNat default).top]]=List.map Bx.a [{ x0:=(cs.getD i.toNat default).x0-r,y0:=(cs.getD i.toNat default).y0-r,x1:=(cs.getD i.toNat default).x1+r,y1:=(cs.getD i.toNat default).y1+r,top:=(cs.getD i.toNat default).top }]:=rfl
   exact Zae (G:=Zad kp27 [] []) 1000 [true] ⟨(atC (cd Try.f27) [1,1,0,1,0,0]),[(1,vi z),(2,vi r),(3,AV.ptr 0 0 0 0),(7,AV.row 2 0),(8,vi (wi (i+1)))],[⟨[ag [vi u0,vi v0,vi u1,vi v1,vi th,vi gp,AV.vec f 5 (List.map Bx.a cs),vi sf]],8,0,false,false⟩,⟨[(zNqP5 cs i)],5,0,false,false⟩,⟨[ag [vi (wi ((cs.getD i.toNat default).x0-r)),vi (wi ((cs.getD i.toNat default).y0-r)),vi (wi ((cs.getD i.toNat default).x1+r)),vi (wi ((cs.getD i.toNat default).y1+r)),vi (cs.getD i.toNat default).top]],5,0,false,true⟩],_,[],_⟩ (by kernel_rfl) (bc (Zak (i10.2 d11)) (bc rfl (bc rfl (bc rfl (bc rfl (bc rfl (bc rfl b0))))))) q0 c0 (by (try rw [w13]);(try rw [w15]);(try rw [w17]);(try rw [w19]);(try rw [w21]);(try rw [w22]);all_goals exact Zas [0,2] (by kernel_rfl) H)
  ·obtain ⟨k23,H⟩:=H
   have w24:wi (i+1)=i+1:=wI64 k23
   exact Zae (G:=Zad kp27 [] []) 1000 [false] ⟨(atC (cd Try.f27) [1,1,0,1,0,0]),[(1,vi z),(2,vi r),(3,AV.ptr 0 0 0 0),(7,AV.vnil),(8,vi (wi (i+1)))],[⟨[ag [vi u0,vi v0,vi u1,vi v1,vi th,vi gp,AV.vec f 5 (List.map Bx.a cs),vi sf]],8,0,false,false⟩,⟨[(zNqP5 cs i)],5,0,false,false⟩],_,[],_⟩ (by kernel_rfl) (bc (Zah (fun h=>d11 (i10.1 h))) b0) q0 c0 (by (try rw [w24]);all_goals exact Zas [0] (by kernel_rfl) H)
 ·exact Zaq (G:=Zad kp27 [] []) 1000 [false] (AV.vnil) (by kernel_rfl) (bc rfl (bc (Zah (fun h=>d3 (i2.1 h))) b0)) q0 c0 H
noncomputable abbrev zNqP6 (cs:List Bx) (i:Int):=ag [vi (cs.getD i.toNat default).x0,vi (cs.getD i.toNat default).y0,vi (cs.getD i.toNat default).x1,vi (cs.getD i.toNat default).y1,vi (cs.getD i.toNat default).top]
theorem qBkL (f:Bool) (cs:List Bx) (u0 v0 u1 v1 th gp sf:Int) (gs:List Bx) (v:Nat) (z r i:Int)  (dq:AV) (H :
  ((i<(↑cs.length:Int))->(0<=i) /\
   (i.toNat<cs.length) /\
   (-9223372036854775808<=(cs.getD i.toNat default).top+1000/\(cs.getD i.toNat default).top+1000<=9223372036854775807) /\
   (((cs.getD i.toNat default).top+1000>z)->(-9223372036854775808<=(cs.getD i.toNat default).x0-r/\(cs.getD i.toNat default).x0-r<=9223372036854775807) /\
    (-9223372036854775808<=(cs.getD i.toNat default).y0-r/\(cs.getD i.toNat default).y0-r<=9223372036854775807) /\
    (-9223372036854775808<=(cs.getD i.toNat default).x1+r/\(cs.getD i.toNat default).x1+r<=9223372036854775807) /\
    (-9223372036854775808<=(cs.getD i.toNat default).y1+r/\(cs.getD i.toNat default).y1+r<=9223372036854775807) /\
    ((gs.length+1)*40<=1099511627776) /\
    (-9223372036854775808<=i+1/\i+1<=9223372036854775807) /\
    ZeJ f cs u0 v0 u1 v1 th gp sf (gs++[{ x0:=(cs.getD i.toNat default).x0-r,y0:=(cs.getD i.toNat default).y0-r,x1:=(cs.getD i.toNat default).x1+r,y1:=(cs.getD i.toNat default).y1+r,top:=(cs.getD i.toNat default).top }]) (v+1) z r (i+1) (Zaf dq)) /\
   (¬((cs.getD i.toNat default).top+1000>z)->(-9223372036854775808<=i+1/\i+1<=9223372036854775807) /\
    ZeJ f cs u0 v0 u1 v1 th gp sf gs v z r (i+1) (Zaf dq))) /\
  (¬(i<(↑cs.length:Int))->Weak (AV.vec false 5 (List.map Bx.a gs)) dq)) :
 ZeJ f cs u0 v0 u1 v1 th gp sf gs v z r i (Zaf dq):=by
 unfold ZeJ
 have w1:(List.map Bx.a cs).length=cs.length:=List.length_map ..
 have i2:(decide (i<(↑(List.map Bx.a cs).length:Int)))=true ↔ (i<(↑cs.length:Int)):=(by (try rw [w1]);all_goals exact Zab)
 rcases xq H with ⟨d3,H⟩|⟨d3,H⟩
 ·obtain ⟨k5,H⟩:=H
  have i6:(decide (i.toNat<(List.map Bx.a cs).length))=true ↔ (i.toNat<cs.length):=(by (try rw [w1]);all_goals exact Zab)
  obtain ⟨k7,k8,H⟩:=H
  have w9:wi ((cs.getD i.toNat default).top+1000)=(cs.getD i.toNat default).top+1000:=wI64 k8
  have i10:(decide (wi ((cs.getD i.toNat default).top+1000)>z))=true ↔ ((cs.getD i.toNat default).top+1000>z):=(by (try rw [w9]);all_goals exact Zab)
  refine Zae (G:=Zad kp27 [(5,4,.elem ((zNqP6 cs i)))] []) 11 [true] ⟨(atC (cd Try.f27) [1,1,0,1,0,0,1,0,0,1,1]),[(1,vi z),(2,vi r),(3,AV.ptr 0 0 0 0),(7,AV.row 1 v),(8,vi i),(9,AV.ptr 2 0 0 0),(26,vb (decide (wi ((cs.getD i.toNat default).top+1000)>z)))],[⟨[ag [vi u0,vi v0,vi u1,vi v1,vi th,vi gp,AV.vec f 5 (List.map Bx.a cs),vi sf]],8,0,false,false⟩,⟨List.map Bx.a gs,5,v,false,true⟩,⟨[(zNqP6 cs i)],5,0,false,false⟩],_,[((List.map Bx.a cs).get?Internal i.toNat=some ((zNqP6 cs i)))],_⟩ (by kernel_rfl) (bc rfl (bc (Zak (i2.2 d3)) (bc rfl (bc (Zab.2 k5) (bc (i6.2 k7) (bc rfl (bc rfl b0))))))) (qc (Zal k7) q0) c0 ?_
  rcases xq H with ⟨d11,H⟩|⟨d11,H⟩
  ·have w12:(List.map Bx.a gs).length=gs.length:=List.length_map ..
   obtain ⟨k13,H⟩:=H
   have w14:wi ((cs.getD i.toNat default).x0-r)=(cs.getD i.toNat default).x0-r:=wI64 k13
   obtain ⟨k15,H⟩:=H
   have w16:wi ((cs.getD i.toNat default).y0-r)=(cs.getD i.toNat default).y0-r:=wI64 k15
   obtain ⟨k17,H⟩:=H
   have w18:wi ((cs.getD i.toNat default).x1+r)=(cs.getD i.toNat default).x1+r:=wI64 k17
   obtain ⟨k19,H⟩:=H
   have w20:wi ((cs.getD i.toNat default).y1+r)=(cs.getD i.toNat default).y1+r:=wI64 k19
   have i21:(decide (((List.map Bx.a gs).length+1)*40<=1099511627776))=true ↔ ((gs.length+1)*40<=1099511627776):=(by (try rw [w12]);(try rw [w14]);(try rw [w16]);(try rw [w18]);(try rw [w20]);all_goals exact Zab)
   obtain ⟨k22,H⟩:=H
   have w23:List.map Bx.a gs++[ag [vi ((cs.getD i.toNat default).x0-r),vi ((cs.getD i.toNat default).y0-r),vi ((cs.getD i.toNat default).x1+r),vi ((cs.getD i.toNat default).y1+r),vi (cs.getD i.toNat default).top]]=List.map Bx.a (gs++[{ x0:=(cs.getD i.toNat default).x0-r,y0:=(cs.getD i.toNat default).y0-r,x1:=(cs.getD i.toNat default).x1+r,y1:=(cs.getD i.toNat default).y1+r,top:=(cs.getD i.toNat default).top }]):=(Zcs rfl rfl)
   obtain ⟨k24,H⟩:=H
   have w25:wi (i+1)=i+1:=wI64 k24
   exact Zae (G:=Zad kp27 [] []) 1000 [true] ⟨(atC (cd Try.f27) [1,1,0,1,0,0]),[(1,vi z),(2,vi r),(3,AV.ptr 0 0 0 0),(7,AV.row 1 (v+1)),(8,vi (wi (i+1)))],[⟨[ag [vi u0,vi v0,vi u1,vi v1,vi th,vi gp,AV.vec f 5 (List.map Bx.a cs),vi sf]],8,0,false,false⟩,⟨List.map Bx.a gs++[ag [vi (wi ((cs.getD i.toNat default).x0-r)),vi (wi ((cs.getD i.toNat default).y0-r)),vi (wi ((cs.getD i.toNat default).x1+r)),vi (wi ((cs.getD i.toNat default).y1+r)),vi (cs.getD i.toNat default).top]],5,v+1,false,true⟩,⟨[(zNqP6 cs i)],5,0,false,false⟩],[(decide (wi ((cs.getD i.toNat default).top+1000)>z))==true,true,true,true,true,true,v==v,decide (((List.map Bx.a gs).length+1)*40<=1099511627776)],[],_⟩ (by kernel_rfl) (bc (Zak (i10.2 d11)) (bc rfl (bc rfl (bc rfl (bc rfl (bc rfl (bc (beq_self_eq_true _) (bc (i21.2 k22) b0)))))))) q0 c0 (by (try rw [w14]);(try rw [w16]);(try rw [w18]);(try rw [w20]);(try rw [w23]);(try rw [w25]);all_goals exact Zas [0,1] (by kernel_rfl) H)
  ·obtain ⟨k26,H⟩:=H
   have w27:wi (i+1)=i+1:=wI64 k26
   exact Zae (G:=Zad kp27 [] []) 1000 [false] ⟨(atC (cd Try.f27) [1,1,0,1,0,0]),[(1,vi z),(2,vi r),(3,AV.ptr 0 0 0 0),(7,AV.row 1 v),(8,vi (wi (i+1)))],[⟨[ag [vi u0,vi v0,vi u1,vi v1,vi th,vi gp,AV.vec f 5 (List.map Bx.a cs),vi sf]],8,0,false,false⟩,⟨List.map Bx.a gs,5,v,false,true⟩,⟨[(zNqP6 cs i)],5,0,false,false⟩],_,[],_⟩ (by kernel_rfl) (bc (Zah (fun h=>d11 (i10.1 h))) b0) q0 c0 (by (try rw [w27]);all_goals exact Zas [0,1] (by kernel_rfl) H)
 ·exact Zax (G:=Zad kp27 [] []) 1000 [false] (k:=((atC (cd Try.f27) [1,1,1,1])).tail) (env':=[(6,AV.row 1 v)]) (L':=[⟨[ag [vi u0,vi v0,vi u1,vi v1,vi th,vi gp,AV.vec f 5 (List.map Bx.a cs),vi sf]],8,0,false,false⟩,⟨List.map Bx.a gs,5,v,false,true⟩]) (asm:=[true,(decide (i<(↑(List.map Bx.a cs).length:Int)))==false]) (eqs:=[]) (calls:=[]) (AV.row 1 v) (by kernel_rfl) (by kernel_rfl) (Zaa rfl (Zaa (Zah (fun h=>d3 (i2.1 h))) Zaj)) Zan Zao (Zcb (d:=(AV.vec false 5 (List.map Bx.a gs))) (bs:=[v==v]) (by kernel_rfl) (by kernel_rfl) (Zaa (beq_self_eq_true _) Zaj) (by kernel_rfl) H)
theorem qBen   (dq:AV) (H :
  Weak (ag [vi 0,vi 0,vi 40000,vi 30000,vi 5000,vi 0,AV.vec true 5 [ag [vi 10000,vi 0,vi 20000,vi 5000,vi 8000]],vi 20000]) dq) :
 qBen_at  (Zaf dq):=by
 unfold qBen_at
 exact Zaq (G:=Zad kp30 [] []) 1000 [] (ag [vi 0,vi 0,vi 40000,vi 30000,vi 5000,vi 0,AV.vec true 5 [ag [vi 10000,vi 0,vi 20000,vi 5000,vi 8000]],vi 20000]) (by kernel_rfl) (bc rfl b0) q0 c0 H
end Go.Av

namespace Go.Av
open Go.Proofs
namespace O
noncomputable def hiF (ax ay bx by_ r:Int):List Bx->Int->Bool->Int × Bool
 | [],t,fo=>(t,fo)
 | c::cs,t,fo=>if nea c.x0 c.y0 c.x1 c.y1 ax ay bx by_ r/\(¬fo=true\/c.top>t) then hiF ax ay bx by_ r cs c.top true else hiF ax ay bx by_ r cs t fo
def okHi (cs:List Bx) (ax ay bx by_ r:Int):Prop:=cs.length<=1000/\(∀ c ∈ cs,ccb c)/\cc ax/\cc ay/\cc bx/\cc by_/\cc r
def blk1 (r:Int) (c:Bx):Bx:=⟨c.x0-r,c.y0-r,c.x1+r,c.y1+r,c.top⟩
def blk (cs:List Bx) (z r:Int):List Bx:=(cs.filter fun c=>decide (c.top+1000>z)).map (blk1 r)
def Zei (cs:List Bx) (r:Int):Prop:=cs.length<=1000/\(∀ c ∈ cs,ccb c/\cc c.top)/\cc r
def bcs:List Bx:=[⟨10000,0,20000,5000,8000⟩]
end O
theorem hi_loop {f:Bool} {cs:List Bx} {ax ay bx by_ r:Int} (h:O.okHi cs ax ay bx by_ r) (m:Nat):∀ (i:Nat) (t:Int) (fo:Bool),i+m=cs.length ->
  ZeG f cs ax ay bx by_ r t fo cs.length i (Zaf (.tup [.int .i64 (O.hiF ax ay bx by_ r (cs.drop i) t fo).1,.bool (O.hiF ax ay bx by_ r (cs.drop i) t fo).2])):=by
 obtain ⟨h1,h2,h3,h4,h5,h6,h7⟩:=h
 induction m with
 | zero =>
  intro i t fo e
  refine qHiL _ _ _ _ _ _ _ _ _ _ _ _ ⟨fun x=>by omega,fun _ => ?_⟩
  rw [List.drop_eq_nil_of_le (by omega)];rfl
 | succ m ih =>
  intro i t fo e
  have hi:i<cs.length:=by omega
  refine qHiL _ _ _ _ _ _ _ _ _ _ _ _ ⟨fun x => ?_,fun x=>by omega⟩
  rw [Int.toNat_natCast,show (i:Int)+1=((i+1:Nat):Int) by omega,ZaH hi]
  obtain ⟨c1,c2,c3,c4⟩:=h2 _ (ZaZ hi)
  refine ⟨by omega,hi,⟨c1,c2,c3,c4,h3,h4,h5,h6,h7⟩,fun k=>⟨by omega,?_⟩,fun k=>⟨by omega,?_⟩⟩
  ·rw [O.hiF,if_pos k];exact ih (i+1) _ _ (by omega)
  ·rw [O.hiF,if_neg k];exact ih (i+1) _ _ (by omega)
theorem ev54 (f:Bool) (cs:List Bx) (u0 v0 u1 v1 th gp sf ax ay bx by_ r:Int) (h:O.okHi cs ax ay bx by_ r):Ev M1 (.pure 54 [.agg [.int .i64 u0,.int .i64 v0,.int .i64 u1,.int .i64 v1,.int .i64 th,.int .i64 gp,.vec f 5 (cs.map Bx.a),.int .i64 sf],.agg [.int .i64 ax,.int .i64 ay],.agg [.int .i64 bx,.int .i64 by_],.int .i64 r]) (.tup [.int .i64 (O.hiF ax ay bx by_ r cs 0 false).1,.bool (O.hiF ax ay bx by_ r cs 0 false).2]) []:=by
 have:=hi_loop (f:=f) h cs.length 0 0 false (by omega)
 exact call54 (qHi _ _ _ _ _ _ _ _ _ _ _ _ _ _ _ this)
theorem blk_add {cs:List Bx} {z r:Int} {i:Nat} (hi:i<cs.length) (k:(cs.getD i default).top+1000>z):O.blk (cs.drop i) z r=⟨(cs.getD i default).x0-r,(cs.getD i default).y0-r,(cs.getD i default).x1+r,(cs.getD i default).y1+r,(cs.getD i default).top⟩::O.blk (cs.drop (i+1)) z r:=by
 rw [ZaH hi];unfold O.blk;rw [List.filter_cons_of_pos (p:=fun c:Bx=>decide (c.top+1000>z)) (decide_eq_true k)];rfl
theorem Zfs {cs:List Bx} {z r:Int} {i:Nat} (hi:i<cs.length) (k:¬(cs.getD i default).top+1000>z):O.blk (cs.drop i) z r=O.blk (cs.drop (i+1)) z r:=by
 rw [ZaH hi];unfold O.blk;rw [List.filter_cons_of_neg (by rw [decide_eq_true_iff];exact k)]
theorem blk_end {cs:List Bx} {z r:Int} {i:Nat} (hi:cs.length<=i):O.blk (cs.drop i) z r=[]:=by
 rw [List.drop_eq_nil_of_le hi];rfl
section
variable {f:Bool} {cs:List Bx} {z r:Int}
theorem bl_loop (h:O.Zei cs r) (m:Nat):∀ (i:Nat) (gs:List Bx) (v:Nat),i+m=cs.length->gs.length<=i ->
  ZeI f cs gs v z r cs.length i (Zaf (.vec false 5 ((gs++O.blk (cs.drop i) z r).map Bx.a))):=by
 obtain ⟨h1,h2,h3⟩:=h
 induction m with
 | zero =>
  intro i gs v e hg
  refine qBlL _ _ _ _ _ _ _ _ _ ⟨fun x=>by omega,fun _ => ?_⟩
  rw [blk_end (by omega),List.append_nil];exact .refl _
 | succ m ih =>
  intro i gs v e hg
  have hi:i<cs.length:=by omega
  obtain ⟨⟨c1,c2,c3,c4⟩,c5⟩:=h2 _ (ZaZ hi)
  unfold O.cc at c1 c2 c3 c4 c5 h3
  refine qBlL _ _ _ _ _ _ _ _ _ ⟨fun x => ?_,fun x=>by omega⟩
  rw [Int.toNat_natCast,show (i:Int)+1=((i+1:Nat):Int) by omega]
  refine ⟨by omega,hi,by omega,fun k=>⟨by omega,by omega,by omega,by omega,by omega,by omega,?_⟩,fun k=>⟨by omega,?_⟩⟩
  ·have:=ih (i+1) (gs++[⟨(cs.getD i default).x0-r,(cs.getD i default).y0-r,(cs.getD i default).x1+r,(cs.getD i default).y1+r,(cs.getD i default).top⟩]) (v+1) (by omega) (by rw [List.length_append];show gs.length+1<=_;omega)
   rw [List.append_assoc] at this
   rw [blk_add hi k];exact this
  ·rw [Zfs hi k];exact ih (i+1) gs v (by omega) (by omega)
theorem bl_nil (h:O.Zei cs r) (m:Nat):∀ i:Nat,i+m=cs.length ->
  ZfP f cs z r cs.length i (Zaf (.vec false 5 ((O.blk (cs.drop i) z r).map Bx.a))):=by
 have hh:=h
 obtain ⟨h1,h2,h3⟩:=h
 induction m with
 | zero =>
  intro i e
  refine qBl0 _ _ _ _ _ _ _ ⟨fun x=>by omega,fun _ => ?_⟩
  rw [blk_end (by omega)];exact .vnil 5
 | succ m ih =>
  intro i e
  have hi:i<cs.length:=by omega
  obtain ⟨⟨c1,c2,c3,c4⟩,c5⟩:=h2 _ (ZaZ hi)
  unfold O.cc at c1 c2 c3 c4 c5 h3
  refine qBl0 _ _ _ _ _ _ _ ⟨fun x => ?_,fun x=>by omega⟩
  rw [Int.toNat_natCast,show (i:Int)+1=((i+1:Nat):Int) by omega]
  refine ⟨by omega,hi,by omega,fun k=>⟨by omega,by omega,by omega,by omega,by omega,?_⟩,fun k=>⟨by omega,?_⟩⟩
  ·rw [blk_add hi k]
   exact bl_loop hh m (i+1) [_] 0 (by omega) (by show 1<=_;omega)
  ·rw [Zfs hi k];exact ih (i+1) (by omega)
variable {u0 v0 u1 v1 th gp sf:Int}
theorem bk_loop (h:O.Zei cs r) (m:Nat):∀ (i:Nat) (gs:List Bx) (v:Nat),i+m=cs.length->gs.length<=i ->
  ZeJ f cs u0 v0 u1 v1 th gp sf gs v z r i (Zaf (.vec false 5 ((gs++O.blk (cs.drop i) z r).map Bx.a))):=by
 obtain ⟨h1,h2,h3⟩:=h
 induction m with
 | zero =>
  intro i gs v e hg
  refine qBkL _ _ _ _ _ _ _ _ _ _ _ _ _ _ _ ⟨fun x=>by omega,fun _ => ?_⟩
  rw [blk_end (by omega),List.append_nil];exact .refl _
 | succ m ih =>
  intro i gs v e hg
  have hi:i<cs.length:=by omega
  obtain ⟨⟨c1,c2,c3,c4⟩,c5⟩:=h2 _ (ZaZ hi)
  unfold O.cc at c1 c2 c3 c4 c5 h3
  refine qBkL _ _ _ _ _ _ _ _ _ _ _ _ _ _ _ ⟨fun x => ?_,fun x=>by omega⟩
  rw [Int.toNat_natCast,show (i:Int)+1=((i+1:Nat):Int) by omega]
  refine ⟨by omega,hi,by omega,fun k=>⟨by omega,by omega,by omega,by omega,by omega,by omega,?_⟩,fun k=>⟨by omega,?_⟩⟩
  ·have:=ih (i+1) (gs++[⟨(cs.getD i default).x0-r,(cs.getD i default).y0-r,(cs.getD i default).x1+r,(cs.getD i default).y1+r,(cs.getD i default).top⟩]) (v+1) (by omega) (by rw [List.length_append];show gs.length+1<=_;omega)
   rw [List.append_assoc] at this
   rw [blk_add hi k];exact this
  ·rw [Zfs hi k];exact ih (i+1) gs v (by omega) (by omega)
theorem bk_nil (h:O.Zei cs r) (m:Nat):∀ i:Nat,i+m=cs.length ->
  ZfQ f cs u0 v0 u1 v1 th gp sf z r i (Zaf (.vec false 5 ((O.blk (cs.drop i) z r).map Bx.a))):=by
 have hh:=h
 obtain ⟨h1,h2,h3⟩:=h
 induction m with
 | zero =>
  intro i e
  refine qBk0 _ _ _ _ _ _ _ _ _ _ _ _ _ ⟨fun x=>by omega,fun _ => ?_⟩
  rw [blk_end (by omega)];exact .vnil 5
 | succ m ih =>
  intro i e
  have hi:i<cs.length:=by omega
  obtain ⟨⟨c1,c2,c3,c4⟩,c5⟩:=h2 _ (ZaZ hi)
  unfold O.cc at c1 c2 c3 c4 c5 h3
  refine qBk0 _ _ _ _ _ _ _ _ _ _ _ _ _ ⟨fun x => ?_,fun x=>by omega⟩
  rw [Int.toNat_natCast,show (i:Int)+1=((i+1:Nat):Int) by omega]
  refine ⟨by omega,hi,by omega,fun k=>⟨by omega,by omega,by omega,by omega,by omega,?_⟩,fun k=>⟨by omega,?_⟩⟩
  ·rw [blk_add hi k]
   exact bk_loop hh m (i+1) [_] 0 (by omega) (by show 1<=_;omega)
  ·rw [Zfs hi k];exact ih (i+1) (by omega)
end
theorem ev31 (f:Bool) (cs:List Bx) (u0 v0 u1 v1 th gp sf z r:Int) (h:O.Zei cs r):Ev M1 (.pure 31 [.agg [.int .i64 u0,.int .i64 v0,.int .i64 u1,.int .i64 v1,.int .i64 th,.int .i64 gp,.vec f 5 (cs.map Bx.a),.int .i64 sf],.int .i64 z,.int .i64 r]) (.vec false 5 ((O.blk cs z r).map Bx.a)) []:=
 call31 (qBl _ _ _ _ _ _ _ _ _ _ _ _ (bl_nil h cs.length 0 (by omega)))
theorem ev27 (f:Bool) (cs:List Bx) (u0 v0 u1 v1 th gp sf z r:Int) (h:O.Zei cs r):Ev M1 (.pure 27 [.agg [.int .i64 u0,.int .i64 v0,.int .i64 u1,.int .i64 v1,.int .i64 th,.int .i64 gp,.vec f 5 (cs.map Bx.a),.int .i64 sf],.int .i64 z,.int .i64 r]) (.vec false 5 ((O.blk cs z r).map Bx.a)) []:=
 call27 (qBk _ _ _ _ _ _ _ _ _ _ _ _ (bk_nil h cs.length 0 (by omega)))
theorem ev30:Ev M1 (.pure 30 []) (.agg [.int .i64 0,.int .i64 0,.int .i64 40000,.int .i64 30000,.int .i64 5000,.int .i64 0,.vec true 5 (O.bcs.map Bx.a),.int .i64 20000]) []:=
 call30 (qBen _ (.refl _))
end Go.Av

namespace Go.Av
open Go.Proofs
set_option maxRecDepth 100000
def fi22:Fi:=⟨22,[.tmp 8]⟩
def kp22:List (Nat × List Nat):=[(0,[3,4,5,6]),(1,[9]),(2,[8])]
def fi24:Fi:=⟨7,[.tmp 2]⟩
def kp24:List (Nat × List Nat):=[(0,[1]),(1,[2])]
def qHgt_at (f:Bool) (cs:List Bx) (u0 v0 u1 v1 th gp sf:Int) (ax ay bx by_ r:Int) (Q:AV->Heap->Prop):Prop:=Wp M1 (.run fi22 (atC (cd Try.f22) []) [(0,.agg [.int .i64 u0,.int .i64 v0,.int .i64 u1,.int .i64 v1,.int .i64 th,.int .i64 gp,.vec f 5 (cs.map Bx.a),.int .i64 sf]),(1,.agg [.int .i64 ax,.int .i64 ay]),(2,.agg [.int .i64 bx,.int .i64 by_]),(3,.int .i64 r)] []) Q
def qFew_at (f:Bool) (cs:List Bx) (u0 v0 u1 v1 th gp sf:Int) (Q:AV->Heap->Prop):Prop:=Wp M1 (.run fi24 (atC (cd Try.f24) []) [(0,.agg [.int .i64 u0,.int .i64 v0,.int .i64 u1,.int .i64 v1,.int .i64 th,.int .i64 gp,.vec f 5 (cs.map Bx.a),.int .i64 sf])] []) Q
theorem call22 {args:List AV} {d:AV} (h:wc M1 fi22 Try.f22 args d):Ev M1 (.pure 22 args) d []:=pcl _ _ (by kernel_rfl) h
theorem call24 {args:List AV} {d:AV} (h:wc M1 fi24 Try.f24 args d):Ev M1 (.pure 24 args) d []:=pcl _ _ (by kernel_rfl) h
theorem qHgt (f:Bool) (cs:List Bx) (u0 v0 u1 v1 th gp sf:Int) (ax ay bx by_ r:Int)  (dq:AV) (H :
  (O.okHi cs ax ay bx by_ r) /\
  (-9223372036854775808<=(1000+if (O.hiF ax ay bx by_ r cs 0 false).fst>0 then (O.hiF ax ay bx by_ r cs 0 false).fst else 0)/\(1000+if (O.hiF ax ay bx by_ r cs 0 false).fst>0 then (O.hiF ax ay bx by_ r cs 0 false).fst else 0)<=9223372036854775807) /\
  vi (1000+if (O.hiF ax ay bx by_ r cs 0 false).fst>0 then (O.hiF ax ay bx by_ r cs 0 false).fst else 0)=dq) :
 qHgt_at f cs u0 v0 u1 v1 th gp sf ax ay bx by_ r (Zaf dq):=by
 unfold qHgt_at
 obtain ⟨k1,k2,H⟩:=H
 have w3:wi (1000+if (O.hiF ax ay bx by_ r cs 0 false).fst>0 then (O.hiF ax ay bx by_ r cs 0 false).fst else 0)=1000+if (O.hiF ax ay bx by_ r cs 0 false).fst>0 then (O.hiF ax ay bx by_ r cs 0 false).fst else 0:=wI64 k2
 exact Zai (G:=Zad kp22 [(1,4,.call (tu [vi (O.hiF ax ay bx by_ r cs 0 false).fst,vb (O.hiF ax ay bx by_ r cs 0 false).2]) none)] []) 1000 [] (vi (wi (1000+if (O.hiF ax ay bx by_ r cs 0 false).fst>0 then (O.hiF ax ay bx by_ r cs 0 false).fst else 0))) (by kernel_rfl) (bc rfl (bc rfl (bc rfl b0))) q0 (ce (@ev54 f cs u0 v0 u1 v1 th gp sf ax ay bx by_ r k1) c0) (by (try rw [w3]);all_goals exact H)
theorem qFew (f:Bool) (cs:List Bx) (u0 v0 u1 v1 th gp sf:Int)  (dq:AV) (H :
  vb (decide ((↑cs.length:Int)<=6))=dq) :
 qFew_at f cs u0 v0 u1 v1 th gp sf (Zaf dq):=by
 unfold qFew_at
 have w1:(List.map Bx.a cs).length=cs.length:=List.length_map ..
 exact Zai (G:=Zad kp24 [] []) 1000 [] (vb (decide ((↑(List.map Bx.a cs).length:Int)<=6))) (by kernel_rfl) (bc rfl b0) q0 c0 (by (try rw [w1]);all_goals exact H)
end Go.Av

namespace Go.Av
open Go.Proofs
noncomputable def O.hgt (cs:List Bx) (ax ay bx by_ r:Int):Int:=1000+if (O.hiF ax ay bx by_ r cs 0 false).fst>0 then (O.hiF ax ay bx by_ r cs 0 false).fst else 0
def O.okHg (cs:List Bx) (ax ay bx by_ r:Int):Prop:=O.okHi cs ax ay bx by_ r /\ ∀ c ∈ cs,c.top<=1000000000
theorem hiF_le {ax ay bx by_ r:Int}:∀ (cs:List Bx) (t:Int) (fo:Bool),t<=1000000000->(∀ c ∈ cs,c.top<=1000000000)->(O.hiF ax ay bx by_ r cs t fo).1<=1000000000:=by
 intro cs
 induction cs with
 | nil=>intro t fo h _;exact h
 | cons c cs ih =>
  intro t fo h h2
  rw [O.hiF]
  split
  ·exact ih _ _ (h2 c (.head _)) fun d hd=>h2 d (.tail _ hd)
  ·exact ih _ _ h fun d hd=>h2 d (.tail _ hd)
theorem hgt_bd {cs:List Bx} {ax ay bx by_ r:Int} (h:O.okHg cs ax ay bx by_ r):1000<=O.hgt cs ax ay bx by_ r/\O.hgt cs ax ay bx by_ r<=1000001000:=by
 have:=hiF_le (ax:=ax) (ay:=ay) (bx:=bx) (by_:=by_) (r:=r) cs 0 false (by omega) h.2
 unfold O.hgt
 split <;> omega
theorem ev22 (f:Bool) (cs:List Bx) (u0 v0 u1 v1 th gp sf ax ay bx by_ r:Int) (h:O.okHg cs ax ay bx by_ r):Ev M1 (.pure 22 [.agg [.int .i64 u0,.int .i64 v0,.int .i64 u1,.int .i64 v1,.int .i64 th,.int .i64 gp,.vec f 5 (cs.map Bx.a),.int .i64 sf],.agg [.int .i64 ax,.int .i64 ay],.agg [.int .i64 bx,.int .i64 by_],.int .i64 r]) (.int .i64 (O.hgt cs ax ay bx by_ r)) []:=by
 have b:=hgt_bd h
 exact call22 (qHgt _ _ _ _ _ _ _ _ _ _ _ _ _ _ _ ⟨h.1,by show _<=O.hgt cs ax ay bx by_ r/\O.hgt cs ax ay bx by_ r<=_;omega,rfl⟩)
theorem ev24 (f:Bool) (cs:List Bx) (u0 v0 u1 v1 th gp sf:Int):Ev M1 (.pure 24 [.agg [.int .i64 u0,.int .i64 v0,.int .i64 u1,.int .i64 v1,.int .i64 th,.int .i64 gp,.vec f 5 (cs.map Bx.a),.int .i64 sf]]) (.bool (decide (cs.length<=6))) []:=
 call24 (qFew _ _ _ _ _ _ _ _ _ _ (congrArg AV.bool (ZbU (by omega))))
end Go.Av

namespace Go.Av
open Go.Proofs
set_option maxRecDepth 100000
def fi8:Fi:=⟨43,[.tmp 0]⟩
def kp8:List (Nat × List Nat):=[(0,[]),(1,[1]),(2,[1,2,3]),(3,[0])]
def qAw_at  (Q:AV->Heap->Prop):Prop:=Wp M1 (.run fi8 (atC (cd Try.f8) []) [] []) Q
theorem call8 {args:List AV} {d:AV} (h:wc M1 fi8 Try.f8 args d):Ev M1 (.pure 8 args) d []:=pcl _ _ (by kernel_rfl) h
noncomputable abbrev zNqR1:=ag [vi 30000,vi 1000]
noncomputable abbrev zNqR2:=ag [vi 0,vi 1000]
noncomputable abbrev zNqR3:=ag [vi 30000,vi 9000]
noncomputable abbrev zNqR4:=ag [vi 0,vi 9000]
noncomputable abbrev zNqR5:=ag [vi 10000,vi 0,vi 20000,vi 5000,vi 8000]
noncomputable abbrev zNqR6:=ag [vi 30000,vi 0]
noncomputable abbrev zNqR7:=ag [vi 0,vi 0]
theorem qAw   (dq:AV) (H :
  (O.Zei O.bcs 0) /\
  ((O.blk O.bcs 5000 0).length<=100) /\
  (O.okHg O.bcs 0 0 30000 0 3000) /\
  ((O.hgt O.bcs 0 0 30000 0 3000=9000)->(O.okHg O.bcs 0 9000 30000 9000 3000)) /\
  ((((O.hgt O.bcs 0 0 30000 0 3000=9000)/\(O.hgt O.bcs 0 9000 30000 9000 3000=1000))/\(O.arE (O.blk O.bcs 5000 0) { x:=0,y:=1000 } { x:=30000,y:=1000 } = 0))->(O.okG (O.arP false (O.blk O.bcs 5000 0) { x:=0,y:=1000 } { x:=30000,y:=1000 }))) /\
  (((((O.hgt O.bcs 0 0 30000 0 3000=9000)/\(O.hgt O.bcs 0 9000 30000 9000 3000=1000))/\(O.arE (O.blk O.bcs 5000 0) { x:=0,y:=1000 } { x:=30000,y:=1000 } = 0))/\(O.ZdF (O.arP false (O.blk O.bcs 5000 0) { x:=0,y:=1000 } { x:=30000,y:=1000 })=30000))->(O.cc8 10000 0 20000 5000 0 1000 30000 1000)) /\
  vb (bif bif bif bif O.hgt O.bcs 0 0 30000 0 3000==9000 then O.hgt O.bcs 0 9000 30000 9000 3000==1000 else false then O.arE (O.blk O.bcs 5000 0) { x:=0,y:=1000 } { x:=30000,y:=1000 } == 0 else false then O.ZdF (O.arP false (O.blk O.bcs 5000 0) { x:=0,y:=1000 } { x:=30000,y:=1000 })==30000 else false then true else false)=dq) :
 qAw_at  (Zaf dq):=by
 unfold qAw_at
 obtain ⟨k1,k2,k3,k7,k9,k13,H⟩:=H
 exact Zai (G:=Zad kp8 [(1,0,.call (ag [vi 0,vi 0,vi 40000,vi 30000,vi 5000,vi 0,AV.vec true 5 (List.map Bx.a O.bcs),vi 20000]) none),(2,1,.call (AV.vec false 5 (List.map Bx.a (O.blk O.bcs 5000 0))) none),(2,2,.call zNqR2 none),(2,3,.call zNqR1 none),(2,4,.call (tu [AV.vec false 2 (List.map Gp.a (O.arP false (O.blk O.bcs 5000 0) { x:=0,y:=1000 } { x:=30000,y:=1000 })),vi (O.arE (O.blk O.bcs 5000 0) { x:=0,y:=1000 } { x:=30000,y:=1000 })]) none),(3,1,.call zNqR7 none),(3,2,.call zNqR6 none),(3,3,.call (vi (O.hgt O.bcs 0 0 30000 0 3000)) none),(3,7,.call zNqR4 none),(3,8,.call zNqR3 none),(3,9,.call (vi (O.hgt O.bcs 0 9000 30000 9000 3000)) none),(3,18,.call (vi (O.ZdF (O.arP false (O.blk O.bcs 5000 0) { x:=0,y:=1000 } { x:=30000,y:=1000 }))) none),(3,26,.call zNqR2 none),(3,27,.call zNqR1 none),(3,28,.call (vb true) none)] []) 1000 [] (asm:=[true,true,true,!((O.hgt O.bcs 0 0 30000 0 3000==9000)==true&&true)||true,!((bif bif bif O.hgt O.bcs 0 0 30000 0 3000==9000 then O.hgt O.bcs 0 9000 30000 9000 3000==1000 else false then O.arE (O.blk O.bcs 5000 0) { x:=0,y:=1000 } { x:=30000,y:=1000 } == 0 else false then O.ZdF (O.arP false (O.blk O.bcs 5000 0) { x:=0,y:=1000 } { x:=30000,y:=1000 })==30000 else false)==true&&true)||true,!((bif bif bif O.hgt O.bcs 0 0 30000 0 3000==9000 then O.hgt O.bcs 0 9000 30000 9000 3000==1000 else false then O.arE (O.blk O.bcs 5000 0) { x:=0,y:=1000 } { x:=30000,y:=1000 } == 0 else false then O.ZdF (O.arP false (O.blk O.bcs 5000 0) { x:=0,y:=1000 } { x:=30000,y:=1000 })==30000 else false)==true&&true)||true,!((bif bif bif O.hgt O.bcs 0 0 30000 0 3000==9000 then O.hgt O.bcs 0 9000 30000 9000 3000==1000 else false then O.arE (O.blk O.bcs 5000 0) { x:=0,y:=1000 } { x:=30000,y:=1000 } == 0 else false then O.ZdF (O.arP false (O.blk O.bcs 5000 0) { x:=0,y:=1000 } { x:=30000,y:=1000 })==30000 else false)==true&&true)||true]) (calls:=[⟨true,false,30,[],[],ag [vi 0,vi 0,vi 40000,vi 30000,vi 5000,vi 0,AV.vec true 5 (List.map Bx.a O.bcs),vi 20000],[]⟩,⟨true,false,31,[ag [vi 0,vi 0,vi 40000,vi 30000,vi 5000,vi 0,AV.vec true 5 (List.map Bx.a O.bcs),vi 20000],vi 5000,vi 0],[],AV.vec false 5 (List.map Bx.a (O.blk O.bcs 5000 0)),[]⟩,⟨true,false,23,[vi 0,vi 1000],[],zNqR2,[]⟩,⟨true,false,23,[vi 30000,vi 1000],[],zNqR1,[]⟩,⟨true,false,11,[AV.vec false 5 (List.map Bx.a (O.blk O.bcs 5000 0)),zNqR2,zNqR1],[],tu [AV.vec false 2 (List.map Gp.a (O.arP false (O.blk O.bcs 5000 0) { x:=0,y:=1000 } { x:=30000,y:=1000 })),vi (O.arE (O.blk O.bcs 5000 0) { x:=0,y:=1000 } { x:=30000,y:=1000 })],[]⟩,⟨true,false,23,[vi 0,vi 0],[],zNqR7,[]⟩,⟨true,false,23,[vi 30000,vi 0],[],zNqR6,[]⟩,⟨true,false,22,[ag [vi 0,vi 0,vi 40000,vi 30000,vi 5000,vi 0,AV.vec true 5 (List.map Bx.a O.bcs),vi 20000],zNqR7,zNqR6,vi 3000],[],vi (O.hgt O.bcs 0 0 30000 0 3000),[]⟩,⟨(O.hgt O.bcs 0 0 30000 0 3000==9000)==true&&true&&true,false,23,[vi 0,vi 9000],[],zNqR4,[]⟩,⟨(O.hgt O.bcs 0 0 30000 0 3000==9000)==true&&true&&true,false,23,[vi 30000,vi 9000],[],zNqR3,[]⟩,⟨(O.hgt O.bcs 0 0 30000 0 3000==9000)==true&&true&&true,false,22,[ag [vi 0,vi 0,vi 40000,vi 30000,vi 5000,vi 0,AV.vec true 5 (List.map Bx.a O.bcs),vi 20000],zNqR4,zNqR3,vi 3000],[],vi (O.hgt O.bcs 0 9000 30000 9000 3000),[]⟩,⟨(bif bif O.hgt O.bcs 0 0 30000 0 3000==9000 then O.hgt O.bcs 0 9000 30000 9000 3000==1000 else false then O.arE (O.blk O.bcs 5000 0) { x:=0,y:=1000 } { x:=30000,y:=1000 } == 0 else false)==true&&true&&true,false,18,[AV.vec false 2 (List.map Gp.a (O.arP false (O.blk O.bcs 5000 0) { x:=0,y:=1000 } { x:=30000,y:=1000 }))],[],vi (O.ZdF (O.arP false (O.blk O.bcs 5000 0) { x:=0,y:=1000 } { x:=30000,y:=1000 })),[]⟩,⟨(bif bif bif O.hgt O.bcs 0 0 30000 0 3000==9000 then O.hgt O.bcs 0 9000 30000 9000 3000==1000 else false then O.arE (O.blk O.bcs 5000 0) { x:=0,y:=1000 } { x:=30000,y:=1000 } == 0 else false then O.ZdF (O.arP false (O.blk O.bcs 5000 0) { x:=0,y:=1000 } { x:=30000,y:=1000 })==30000 else false)==true&&true&&true,false,23,[vi 0,vi 1000],[],zNqR2,[]⟩,⟨(bif bif bif O.hgt O.bcs 0 0 30000 0 3000==9000 then O.hgt O.bcs 0 9000 30000 9000 3000==1000 else false then O.arE (O.blk O.bcs 5000 0) { x:=0,y:=1000 } { x:=30000,y:=1000 } == 0 else false then O.ZdF (O.arP false (O.blk O.bcs 5000 0) { x:=0,y:=1000 } { x:=30000,y:=1000 })==30000 else false)==true&&true&&true,false,23,[vi 30000,vi 1000],[],zNqR1,[]⟩,⟨(bif bif bif O.hgt O.bcs 0 0 30000 0 3000==9000 then O.hgt O.bcs 0 9000 30000 9000 3000==1000 else false then O.arE (O.blk O.bcs 5000 0) { x:=0,y:=1000 } { x:=30000,y:=1000 } == 0 else false then O.ZdF (O.arP false (O.blk O.bcs 5000 0) { x:=0,y:=1000 } { x:=30000,y:=1000 })==30000 else false)==true&&true&&true,false,9,[zNqR5,zNqR2,zNqR1],[],vb true,[]⟩]) (vb (bif bif bif bif O.hgt O.bcs 0 0 30000 0 3000==9000 then O.hgt O.bcs 0 9000 30000 9000 3000==1000 else false then O.arE (O.blk O.bcs 5000 0) { x:=0,y:=1000 } { x:=30000,y:=1000 } == 0 else false then O.ZdF (O.arP false (O.blk O.bcs 5000 0) { x:=0,y:=1000 } { x:=30000,y:=1000 })==30000 else false then true else false)) (by kernel_rfl) (bc rfl (bc rfl (bc rfl (bc (Bool.or_true _) (bc (Bool.or_true _) (bc (Bool.or_true _) (bc (Bool.or_true _) b0))))))) q0 (cc (fun _=>(@ev30 )) (cc (fun _=>(@ev31 true (O.bcs) 0 0 40000 30000 5000 0 20000 5000 0 k1)) (cc (fun _=>(@ev23 0 1000)) (cc (fun _=>(@ev23 30000 1000)) (cc (fun _=>(@ev11 false (O.blk O.bcs 5000 0) 0 1000 30000 1000 k2)) (cc (fun _=>(@ev23 0 0)) (cc (fun _=>(@ev23 30000 0)) (cc (fun _=>(@ev22 true (O.bcs) 0 0 40000 30000 5000 0 20000 0 0 30000 0 3000 k3)) (cc (fun hc=>((@ev23 0 9000):Ev M1 (Conf.pure 23 [vi 0,vi 9000]) zNqR4 [])) (cc (fun hc=>((@ev23 30000 9000):Ev M1 (Conf.pure 23 [vi 30000,vi 9000]) zNqR3 [])) (cc (fun hc=>((@ev22 true (O.bcs) 0 0 40000 30000 5000 0 20000 0 9000 30000 9000 3000 (k7 ((i_at (i_at (i_bt i_eq))).1 hc))):Ev M1 (Conf.pure 22 [ag [vi 0,vi 0,vi 40000,vi 30000,vi 5000,vi 0,AV.vec true 5 (List.map Bx.a O.bcs),vi 20000],zNqR4,zNqR3,vi 3000]) (vi (O.hgt O.bcs 0 9000 30000 9000 3000)) [])) (cc (fun hc=>((@ev18 false (O.arP false (O.blk O.bcs 5000 0) { x:=0,y:=1000 } { x:=30000,y:=1000 }) (k9 ((i_at (i_at (i_bt (ZaD (ZaD i_eq i_eq) i_eq)))).1 hc))):Ev M1 (Conf.pure 18 [AV.vec false 2 (List.map Gp.a (O.arP false (O.blk O.bcs 5000 0) { x:=0,y:=1000 } { x:=30000,y:=1000 }))]) (vi (O.ZdF (O.arP false (O.blk O.bcs 5000 0) { x:=0,y:=1000 } { x:=30000,y:=1000 }))) [])) (cc (fun hc=>((@ev23 0 1000):Ev M1 (Conf.pure 23 [vi 0,vi 1000]) zNqR2 [])) (cc (fun hc=>((@ev23 30000 1000):Ev M1 (Conf.pure 23 [vi 30000,vi 1000]) zNqR1 [])) (cc (fun hc=>((@ev9 10000 0 20000 5000 8000 0 1000 30000 1000 (k13 ((i_at (i_at (i_bt (ZaD (ZaD (ZaD i_eq i_eq) i_eq) i_eq)))).1 hc))):Ev M1 (Conf.pure 9 [zNqR5,zNqR2,zNqR1]) (vb true) [])) c0))))))))))))))) H
end Go.Av

namespace Go.Av
open Go.Proofs
theorem ent_self {c:Bx} {p:Gp}:O.entX c p p=true ↔ O.insB c.x0 c.y0 c.x1 c.y1 p.x p.y:=by
 unfold O.entX;rw [ent_ref];unfold O.refP;rw [if_pos ⟨rfl,rfl⟩]
theorem free_self {bs:List Bx} {p:Gp}:O.Zci bs p p ↔ ∀ c ∈ bs,¬O.insB c.x0 c.y0 c.x1 c.y1 p.x p.y:=by
 unfold O.Zci
 constructor
 ·intro h c hc k;exact absurd ((h c hc).symm.trans (ent_self.2 k)) (by decide)
 ·intro h c hc
  cases v:O.entX c p p with
  | false=>rfl
  | true=>exact absurd (ent_self.1 v) (h c hc)
theorem bxC_iff {bs:List Bx} {a b:Gp}:(∃ c ∈ bs,O.bxC a b c) ↔ ¬O.Zci bs a a\/¬O.Zci bs b b:=by
 rw [free_self,free_self]
 constructor
 ·rintro ⟨c,hc,k | k⟩
  ·exact .inl fun h=>h c hc k
  ·exact .inr fun h=>h c hc k
 ·rintro (h | h)
  ·apply Classical.byContradiction;intro n;exact h fun c hc k=>n ⟨c,hc,.inl k⟩
  ·apply Classical.byContradiction;intro n;exact h fun c hc k=>n ⟨c,hc,.inr k⟩
open Classical in
theorem ar_er (bs:List Bx) (a b:Gp):O.arE bs a b=if O.erI bs a b=0 then (if a=b then 0 else if O.lnk bs (O.ZdG bs a b) then 0 else 16) else O.erI bs a b:=by
 unfold O.arE O.erI
 by_cases h1:∃ c ∈ bs,O.bxI c
 ·rw [if_pos h1,if_pos h1,if_neg (by decide)]
 ·rw [if_neg h1,if_neg h1]
  by_cases h2:bs.length>8
  ·rw [if_pos h2,if_pos h2,if_neg (by decide)]
  ·rw [if_neg h2,if_neg h2]
   by_cases h3:O.fr4 a.x a.y b.x b.y
   ·rw [if_pos (.inl h3),if_pos h3,if_neg (by decide)]
   ·rw [if_neg h3]
    by_cases h4:∃ c ∈ bs,O.bxF c
    ·rw [if_pos (.inr h4),if_pos h4,if_neg (by decide)]
    ·rw [if_neg (not_or.2 ⟨h3,h4⟩),if_neg h4]
     by_cases h5:∃ c ∈ bs,O.bxC a b c
     ·rw [if_pos (bxC_iff.1 h5),if_pos h5,if_neg (by decide)]
     ·rw [if_neg fun x=>h5 (bxC_iff.2 x),if_neg h5,if_pos rfl]
structure O.Er0 (bs:List Bx) (a b:Gp):Prop where
 len:bs.length<=8
 ok:O.okB8 bs
 ca:O.ccp a
 cb:O.ccp b
 fa:O.Zci bs a a
 fb:O.Zci bs b b
theorem er0 {bs:List Bx} {a b:Gp} (e:O.erI bs a b=0):O.Er0 bs a b:=by
 unfold O.erI at e
 by_cases h1:∃ c ∈ bs,O.bxI c
 ·rw [if_pos h1] at e;exact absurd e (by decide)
 rw [if_neg h1] at e
 by_cases h2:bs.length>8
 ·rw [if_pos h2] at e;exact absurd e (by decide)
 rw [if_neg h2] at e
 by_cases h3:O.fr4 a.x a.y b.x b.y
 ·rw [if_pos h3] at e;exact absurd e (by decide)
 rw [if_neg h3] at e
 by_cases h4:∃ c ∈ bs,O.bxF c
 ·rw [if_pos h4] at e;exact absurd e (by decide)
 rw [if_neg h4] at e
 by_cases h5:∃ c ∈ bs,O.bxC a b c
 ·rw [if_pos h5] at e;exact absurd e (by decide)
 have f5:¬(¬O.Zci bs a a\/¬O.Zci bs b b):=fun x=>h5 (bxC_iff.2 x)
 unfold O.fr4 O.fr1 at h3
 refine ⟨by omega,⟨by omega,fun c hc => ?_⟩,?_,?_,Classical.not_not.1 fun x=>f5 (.inl x),Classical.not_not.1 fun x=>f5 (.inr x)⟩
 ·have:¬O.bxF c:=fun x=>h4 ⟨c,hc,x⟩
  unfold O.bxF O.fr4 O.fr1 at this
  unfold O.ccb O.cc;omega
 ·unfold O.ccp O.cc;omega
 ·unfold O.ccp O.cc;omega
structure O.ArOk (bs:List Bx) (a b:Gp) (P:List Gp):Prop where
 er:O.erI bs a b=0
 ne:P ≠ []
 head:P.getD 0 default=a
 last:P.getD (P.length-1) default=b
 mem:∀ p ∈ P,p ∈ O.nodR bs a b
 chn:O.chn (O.Zci bs) P
 walk:O.Wk (O.nd (O.nodR bs a b)) (O.Zci bs) a b (O.ZdF P)
 least:∀ d,O.Wk (O.nd (O.nodR bs a b)) (O.Zci bs) a b d->O.ZdF P<=d
 len:P.length<=40
 one:a=b->P.length=1
open Classical in
theorem ar_ok {f:Bool} {bs:List Bx} {a b:Gp} (e:O.arE bs a b=0):O.ArOk bs a b (O.arP f bs a b):=by
 have e2:=ar_er bs a b
 by_cases h:O.erI bs a b=0
 ·rw [if_pos h,e] at e2
  have E:=er0 h
  by_cases k:a=b
  ·subst k
   have p:O.arP f bs a a=[a]:=by unfold O.arP;rw [if_pos e,if_pos rfl]
   rw [p]
   exact ⟨h,by simp,rfl,rfl,fun p hp=>by rw [List.mem_singleton.1 hp];exact .head _,trivial,.nil,fun d w=>wk_nn w,by show 1<=40;omega,fun _=>rfl⟩
  ·rw [if_neg k] at e2
   by_cases j:O.lnk bs (O.ZdG bs a b)
   ·have p:O.arP f bs a b=O.shP f false bs (O.ZdG bs a b):=by unfold O.arP;rw [if_pos e,if_neg k]
    have ok:O.okSh bs (O.ZdG bs a b):=⟨E.ok,nodP_ok E.ok E.ca E.cb,by rw [Zfk];omega,E.fa⟩
    have g:=(shP_spec (f:=f) (g:=false) ok j).2
    rw [p]
    have w0:=g.walk
    have l0:=g.least
    have la:=nodP_last bs a b
    rw [la] at w0 l0
    exact ⟨h,g.ne,g.head,by rw [g.last,la],fun p hp=>Zfl.1 (g.mem p hp),g.chn,wk_nod.1 w0,fun d w=>l0 d (wk_nod.2 w),by have:=g.len;rw [Zfk] at this;have:=E.len;omega,fun x=>absurd x k⟩
   ·rw [if_neg j] at e2;exact absurd e2 (by decide)
 ·rw [if_neg h,e] at e2;exact absurd e2.symm h
theorem ar_okP {bs:List Bx} {a b:Gp} {P:List Gp} (h:O.ArOk bs a b P):O.okP8 P:=by
 have E:=er0 h.er
 exact ⟨by have:=h.len;omega,fun p hp=>(nod_ok E.ok E.ca E.cb).2 p (h.mem p hp)⟩
end Go.Av

namespace Go.Av
open Go.Proofs
theorem bcs_mem {c:Bx} (h:c ∈ O.bcs):c=⟨10000,0,20000,5000,8000⟩:=List.mem_singleton.1 h
theorem bcs_blk:O.blk O.bcs 5000 0=[⟨10000,0,20000,5000,8000⟩]:=rfl
theorem bcs_hg {ax ay bx by_ r:Int} (h:(O.cc ax/\O.cc ay)/\(O.cc bx/\O.cc by_)/\O.cc r):O.okHg O.bcs ax ay bx by_ r:=
 ⟨⟨by decide,fun c hc=>by rw [bcs_mem hc];unfold O.ccb O.cc;decide,h.1.1,h.1.2,h.2.1.1,h.2.1.2,h.2.2⟩,fun c hc=>by rw [bcs_mem hc];decide⟩
theorem bcs_ok:O.Zei O.bcs 0:=⟨by decide,fun c hc=>by rw [bcs_mem hc];unfold O.ccb O.cc;decide,by unfold O.cc;decide⟩
theorem bcs_n1:O.nea 10000 0 20000 5000 0 0 30000 0 3000:=by
 unfold O.nea O.neS O.seg;simp only [qi_eq];decide +kernel
theorem bcs_n2:¬O.nea 10000 0 20000 5000 0 9000 30000 9000 3000:=by
 unfold O.nea O.neS O.seg;simp only [qi_eq];decide +kernel
theorem bcs_h1:O.hgt O.bcs 0 0 30000 0 3000=9000:=by
 have e:O.hiF 0 0 30000 0 3000 O.bcs 0 false=(8000,true):=by
  unfold O.bcs;rw [O.hiF,if_pos ⟨bcs_n1,.inl (by decide)⟩];rfl
 unfold O.hgt;rw [e];rfl
theorem bcs_h2:O.hgt O.bcs 0 9000 30000 9000 3000=1000:=by
 have e:O.hiF 0 9000 30000 9000 3000 O.bcs 0 false=(0,false):=by
  unfold O.bcs;rw [O.hiF,if_neg fun x=>bcs_n2 x.1];rfl
 unfold O.hgt;rw [e];rfl
theorem bcs_er:O.erI [⟨10000,0,20000,5000,8000⟩] ⟨0,1000⟩ ⟨30000,1000⟩=0:=by
 have N {p:Bx->Prop} (h:¬p ⟨10000,0,20000,5000,8000⟩):¬∃ c ∈ [(⟨10000,0,20000,5000,8000⟩:Bx)],p c:=fun ⟨c,hc,k⟩=>h (by rw [List.mem_singleton.1 hc] at k;exact k)
 unfold O.erI
 rw [if_neg (N (by unfold O.bxI;decide)),if_neg (by decide),if_neg (by unfold O.fr4 O.fr1;decide),if_neg (N (by unfold O.bxF O.fr4 O.fr1;decide)),if_neg (N (by unfold O.bxC O.insB;decide))]
theorem bcs_wk:O.Wk (O.nd (O.nodR [⟨10000,0,20000,5000,8000⟩] ⟨0,1000⟩ ⟨30000,1000⟩)) (O.Zci [⟨10000,0,20000,5000,8000⟩]) ⟨0,1000⟩ ⟨30000,1000⟩ 30000:=by
 have F {p q:Gp} (h:O.entX ⟨10000,0,20000,5000,8000⟩ p q=false):O.Zci [⟨10000,0,20000,5000,8000⟩] p q:=fun c hc=>by rw [List.mem_singleton.1 hc];exact h
 exact ((O.Wk.nil.snoc (q:=⟨10000,0⟩) (ZfY.2 (by decide)) (F (by decide +kernel))).snoc (q:=⟨20000,0⟩) (ZfY.2 (by decide)) (F (by decide +kernel))).snoc (q:=⟨30000,1000⟩) (ZfY.2 (by decide)) (F (by decide +kernel))
theorem bcs_lnk:O.lnk [⟨10000,0,20000,5000,8000⟩] (O.ZdG [⟨10000,0,20000,5000,8000⟩] ⟨0,1000⟩ ⟨30000,1000⟩):=by
 refine lnk_nod.2 ⟨30000,?_⟩
 rw [nod_last];exact bcs_wk
theorem bcs_ar:O.arE [⟨10000,0,20000,5000,8000⟩] ⟨0,1000⟩ ⟨30000,1000⟩=0:=by
 rw [ar_er,if_pos bcs_er,if_neg (by decide),if_pos bcs_lnk]
theorem bcs_len (f:Bool):O.ZdF (O.arP f [⟨10000,0,20000,5000,8000⟩] ⟨0,1000⟩ ⟨30000,1000⟩)=30000:=by
 have h:=ar_ok (f:=f) bcs_ar
 have a:=h.least _ bcs_wk
 have b:=wk_gap h.walk
 have:O.gap ⟨0,1000⟩ ⟨30000,1000⟩=30000:=by decide
 omega
theorem okP_G {l:List Gp} (h:O.okP8 l):O.okG l:=by
 refine ⟨by have:=h.1;omega,fun p hp => ?_⟩
 have:=h.2 p hp
 unfold O.ccp O.cc at this
 unfold O.cbp O.cb;omega
theorem ev8:Ev M1 (.pure 8 []) (.bool true) []:=by
 have C {n:Int} (h:-20000000<=n/\n<=20000000):O.cc n:=h
 refine call8 (qAw _ ⟨bcs_ok,by decide,bcs_hg ⟨⟨C (by decide),C (by decide)⟩,⟨C (by decide),C (by decide)⟩,C (by decide)⟩,fun _=>bcs_hg ⟨⟨C (by decide),C (by decide)⟩,⟨C (by decide),C (by decide)⟩,C (by decide)⟩,fun _ => ?_,fun _=>by unfold O.cc8 O.cc;decide,?_⟩)
 ·rw [bcs_blk];exact okP_G (ar_okP (ar_ok bcs_ar))
 ·rw [bcs_h1,bcs_h2,bcs_blk,bcs_ar,bcs_len];rfl
def O.rgt (cs:List Bx) (u0 v0 u1 v1 th gp sf:Int):Prop:=cs.length<=6/\O.vaP cs u0 v0 u1 v1 th gp sf
end Go.Av

namespace Go.Av
open Go.Proofs
set_option maxRecDepth 100000
end Go.Av

namespace Go.Av
open Go.Proofs
section
variable {f:Bool} {bs:List Bx} {a b:Gp}
end
section
variable {f g:Bool} {ax ay bx by_:Int} {ks:List Int}
end
section
variable {f g:Bool} {c:Bx} {bs:List Bx} {ax ay bx by_:Int} {ks:List Int}
end
end Go.Av

namespace Go.Av
structure Mv where
 kind:Int
 x:Int
 y:Int
 z:Int
 cx:Int
 cy:Int
 rate:Int
 deriving DecidableEq
instance:Inhabited Mv:=⟨⟨0,0,0,0,0,0,0⟩⟩
def Mv.a (m:Mv):AV:=.agg [.int .i64 m.kind,.int .i64 m.x,.int .i64 m.y,.int .i64 m.z,.int .i64 m.cx,.int .i64 m.cy,.int .i64 m.rate]
namespace O
def sam (x y z px py pz:Int):Prop:=x=px/\y=py/\z=pz
instance (x y z px py pz:Int):Decidable (sam x y z px py pz):=by unfold sam;infer_instance
def mkv (x y z r:Int):Mv:=if r>0 then ⟨2,x,y,z,0,0,r⟩ else ⟨1,x,y,z,0,0,0⟩
def tol (x y z px py pz r:Int):List Mv:=if sam x y z px py pz then [] else [mkv x y z r]
def stp (z:Int):Int:=if z>1000 then z else 1000
def dz1 (z pz:Int):Int:=if pz>stp z then stp z else pz
def dz2 (z pz:Int):Int:=if z<1000/\z<dz1 z pz then z else dz1 z pz
def ds1 (z px py pz:Int):List Mv:=if pz>stp z then tol px py (stp z) px py pz 0 else []
def ds2 (z pl px py pz:Int):List Mv:=if z<1000/\z<dz1 z pz then tol px py z px py (dz1 z pz) pl else []
def dvn (z pl px py pz:Int):Nat:=if pz>stp z then 0+(ds2 z pl px py pz).length else 0
def dno (z pz:Int):Prop:=¬pz>stp z/\¬(z<1000/\z<pz)
instance (z pz:Int):Decidable (dno z pz):=by unfold dno;infer_instance
def adl (x y z px py pz r:Int):List Mv:=if sam x y z px py pz then [] else [⟨if r>0 then 2 else 1,x,y,z,0,0,r⟩]
end O
theorem Zcu {x y z px py pz r:Int} (h:0<=r):O.adl x y z px py pz r=O.tol x y z px py pz r:=by
 unfold O.adl O.tol O.mkv
 by_cases k:r>0
 ·rw [if_pos k,if_pos k]
 ·have:r=0:=by omega
  rw [if_neg k,if_neg k,this]
theorem tol_y {x y z px py pz r:Int} (h:O.sam x y z px py pz):O.tol x y z px py pz r=[]:=if_pos h
theorem tol_n {x y z px py pz r:Int} (h:¬O.sam x y z px py pz):O.tol x y z px py pz r=[O.mkv x y z r]:=if_neg h
theorem Zb9 (x y z px py pz r:Int):(O.tol x y z px py pz r).length<=1:=by
 unfold O.tol;split
 ·exact Nat.zero_le _
 ·exact Nat.le_refl _
theorem adl_len (x y z px py pz r:Int):(O.adl x y z px py pz r).length<=1:=by
 unfold O.adl;split
 ·exact Nat.zero_le _
 ·exact Nat.le_refl _
section
variable {z pl px py pz:Int}
theorem dsA (k:pz>O.stp z) (t:z<1000/\z<O.stp z):O.ds1 z px py pz=O.tol px py (O.stp z) px py pz 0/\O.ds2 z pl px py pz=O.tol px py z px py (O.stp z) pl/\O.dz2 z pz=z/\O.dvn z pl px py pz=0+(O.tol px py z px py (O.stp z) pl).length:=by
 have e1:O.dz1 z pz=O.stp z:=if_pos k
 have e2:O.ds2 z pl px py pz=O.tol px py z px py (O.stp z) pl:=by unfold O.ds2;rw [e1,if_pos t]
 exact ⟨if_pos k,e2,by unfold O.dz2;rw [e1,if_pos t],by unfold O.dvn;rw [if_pos k,e2]⟩
theorem dsB (k:pz>O.stp z) (t:¬(z<1000/\z<O.stp z)):O.ds1 z px py pz=O.tol px py (O.stp z) px py pz 0/\O.ds2 z pl px py pz=[]/\O.dz2 z pz=O.stp z/\O.dvn z pl px py pz=0:=by
 have e1:O.dz1 z pz=O.stp z:=if_pos k
 have e2:O.ds2 z pl px py pz=[]:=by unfold O.ds2;rw [e1,if_neg t]
 exact ⟨if_pos k,e2,by unfold O.dz2;rw [e1,if_neg t],by unfold O.dvn;rw [if_pos k,e2];rfl⟩
theorem dsC (k:¬pz>O.stp z) (t:z<1000/\z<pz):O.ds1 z px py pz=[]/\O.ds2 z pl px py pz=O.tol px py z px py pz pl/\O.dz2 z pz=z/\O.dvn z pl px py pz=0:=by
 have e1:O.dz1 z pz=pz:=if_neg k
 exact ⟨if_neg k,by unfold O.ds2;rw [e1,if_pos t],by unfold O.dz2;rw [e1,if_pos t],if_neg k⟩
theorem dsD (k:¬pz>O.stp z) (t:¬(z<1000/\z<pz)):O.ds1 z px py pz=[]/\O.ds2 z pl px py pz=[]/\O.dz2 z pz=pz/\O.dvn z pl px py pz=0:=by
 have e1:O.dz1 z pz=pz:=if_neg k
 exact ⟨if_neg k,by unfold O.ds2;rw [e1,if_neg t],by unfold O.dz2;rw [e1,if_neg t],if_neg k⟩
theorem ds_len (z pl px py pz:Int):(O.ds1 z px py pz).length<=1/\(O.ds2 z pl px py pz).length<=1:=by
 unfold O.ds1 O.ds2
 constructor
 ·split
  ·exact Zb9 ..
  ·exact Nat.zero_le _
 ·split
  ·exact Zb9 ..
  ·exact Nat.zero_le _
end
end Go.Av

namespace Go.Av
open Go.Proofs
set_option maxRecDepth 100000
def fi57:Fi:=⟨25,[.cell 6 96]⟩
def kp57:List (Nat × List Nat):=[(0,[2,3,4,6]),(1,[2,3,4,6,11]),(2,[6]),(3,[2,3,4,6,7]),(4,[2,3,4,6,7,14]),(5,[2,3,4,6,7]),(6,[6])]
def fi66:Fi:=⟨34,[]⟩
def kp66:List (Nat × List Nat):=[(0,[0,2,4]),(1,[0,2,4,12]),(2,[0,2,4,6]),(3,[0,2,4,6,16]),(4,[0,4,6]),(5,[])]
def qTo0_at (px py pz x y z r:Int) (Q:AV->Heap->Prop):Prop:=Wp M1 (.run fi66 (atC (cd Try.f66) []) [(0,.ptr 0 0 0 0),(1,.agg [.int .i64 x,.int .i64 y,.int .i64 z]),(2,.int .i64 r)] [⟨[.agg [.int .i64 px,.int .i64 py,.int .i64 pz,.vnil]],4,0,false,false⟩]) Q
def qTo1_at (ms:List Mv) (v:Nat) (px py pz x y z r:Int) (Q:AV->Heap->Prop):Prop:=Wp M1 (.run fi66 (atC (cd Try.f66) []) [(0,.ptr 0 0 0 0),(1,.agg [.int .i64 x,.int .i64 y,.int .i64 z]),(2,.int .i64 r)] [⟨[.agg [.int .i64 px,.int .i64 py,.int .i64 pz,.row 1 v]],4,0,false,false⟩,⟨ms.map Mv.a,7,v,false,true⟩]) Q
def qAd0_at (px py pz x y z r:Int) (Q:AV->Heap->Prop):Prop:=Wp M1 (.run fi57 (atC (cd Try.f57) []) [(0,.agg [.int .i64 px,.int .i64 py,.int .i64 pz,.vnil]),(1,.agg [.int .i64 x,.int .i64 y,.int .i64 z]),(2,.int .i64 r)] []) Q
def qAd1_at (ms:List Mv) (v:Nat) (px py pz x y z r:Int) (Q:AV->Heap->Prop):Prop:=Wp M1 (.run fi57 (atC (cd Try.f57) []) [(0,.agg [.int .i64 px,.int .i64 py,.int .i64 pz,.row 0 v]),(1,.agg [.int .i64 x,.int .i64 y,.int .i64 z]),(2,.int .i64 r)] [⟨ms.map Mv.a,7,v,false,true⟩]) Q
theorem owncall57 {args:List AV} {L:Heap} {Q:AV->Heap->Prop} (h:Wp M1 (.run fi57 [.code (cd Try.f57)] (ZaX 0 args) L) Q):Wp M1 (.own 57 args L) Q:=
 Zdf Try.f57 fi57 (by kernel_rfl) (by kernel_rfl) (by kernel_rfl) (by kernel_rfl) h
theorem keepcall57 {args:List AV} {L:Heap} {v:AV} {K:Heap} (hk:ZbN L.length v K=true) (h:Wp M1 (.run fi57 [.code (cd Try.f57)] (ZaX 0 args) L) (Zbo v K)):Ev M1 (.own 57 args L) v K:=
 ZcA Try.f57 fi57 (by kernel_rfl) (by kernel_rfl) (by kernel_rfl) (by kernel_rfl) hk h
theorem owncall66 {args:List AV} {L:Heap} {Q:AV->Heap->Prop} (h:Wp M1 (.run fi66 [.code (cd Try.f66)] (ZaX 0 args) L) Q):Wp M1 (.own 66 args L) Q:=
 Zdf Try.f66 fi66 (by kernel_rfl) (by kernel_rfl) (by kernel_rfl) (by kernel_rfl) h
theorem keepcall66 {args:List AV} {L:Heap} {v:AV} {K:Heap} (hk:ZbN L.length v K=true) (h:Wp M1 (.run fi66 [.code (cd Try.f66)] (ZaX 0 args) L) (Zbo v K)):Ev M1 (.own 66 args L) v K:=
 ZcA Try.f66 fi66 (by kernel_rfl) (by kernel_rfl) (by kernel_rfl) (by kernel_rfl) hk h
noncomputable abbrev zNqT1 (x:Int) (y:Int) (z:Int):=ag [vi 1,vi x,vi y,vi z,vi 0,vi 0,vi 0]
noncomputable abbrev zNqT2 (x:Int) (y:Int) (z:Int) (r:Int):=ag [vi 2,vi x,vi y,vi z,vi 0,vi 0,vi r]
noncomputable abbrev zNqT3 (x:Int) (y:Int) (z:Int):=ag [vi x,vi y,vi z]
theorem qTo0 (px py pz x y z r:Int)  (Q:AV->Heap->Prop) (H :
  (((x=px)/\((y=py)/\(z=pz)))->Q (tu []) [{ elems:=[ag [vi px,vi py,vi pz,AV.vnil]],es:=4,ver:=0,frozen:=false,clean:=false },{ elems:=[ag [vi x,vi y,vi z]],es:=3,ver:=0,frozen:=false,clean:=false }]) /\
  (¬((x=px)/\((y=py)/\(z=pz)))->((r>0)->Q (tu []) [{ elems:=[ag [vi x,vi y,vi z,AV.row 3 0]],es:=4,ver:=0,frozen:=false,clean:=false },{ elems:=[ag [vi x,vi y,vi z]],es:=3,ver:=0,frozen:=false,clean:=false },{ elems:=[ag [vi 2,vi x,vi y,vi z,vi 0,vi 0,vi r]],es:=7,ver:=0,frozen:=false,clean:=false },{ elems:=[ag [vi 2,vi x,vi y,vi z,vi 0,vi 0,vi r]],es:=7,ver:=0,frozen:=false,clean:=true }]) /\
   (¬(r>0)->Q (tu []) [{ elems:=[ag [vi x,vi y,vi z,AV.row 3 0]],es:=4,ver:=0,frozen:=false,clean:=false },{ elems:=[ag [vi x,vi y,vi z]],es:=3,ver:=0,frozen:=false,clean:=false },{ elems:=[ag [vi 1,vi x,vi y,vi z,vi 0,vi 0,vi 0]],es:=7,ver:=0,frozen:=false,clean:=false },{ elems:=[ag [vi 1,vi x,vi y,vi z,vi 0,vi 0,vi 0]],es:=7,ver:=0,frozen:=false,clean:=true }]))) :
 qTo0_at px py pz x y z r Q:=by
 unfold qTo0_at
 rcases xq H with ⟨d2,H⟩|⟨d2,H⟩
 ·exact Zax (G:=Zad kp66 [] []) 1000 [true] (k:=((atC (cd Try.f66) [1,0,1,0])).tail) (env':=[(0,AV.ptr 0 0 0 0),(2,vi r),(4,AV.ptr 1 0 0 0),(12,vb (x==px&&(y==py&&(z==pz&&true))))]) (L':=[⟨[ag [vi px,vi py,vi pz,AV.vnil]],4,0,false,false⟩,⟨[(zNqT3 x y z)],3,0,false,false⟩]) (asm:=[true,true,(x==px&&(y==py&&(z==pz&&true)))==true]) (eqs:=[]) (calls:=[]) (tu []) (by kernel_rfl) (by kernel_rfl) (Zaa rfl (Zaa rfl (Zaa (Zak ((Za4 i_eq (Za4 i_eq (i_at i_eq))).2 d2)) Zaj))) Zan Zao H
 ·rcases xq H with ⟨d4,H⟩|⟨d4,H⟩
  ·exact ZaQ (G:=Zad kp66 [] [(5,[2015,2012,3009,5008,902007,4006,2005])]) 1000 [false,true] (env':=[]) (L':=[⟨[ag [vi x,vi y,vi z,AV.row 3 0]],4,0,false,false⟩,⟨[(zNqT3 x y z)],3,0,false,false⟩,⟨[(zNqT2 x y z r)],7,0,false,false⟩,⟨[(zNqT2 x y z r)],7,0,false,true⟩]) (asm:=[true,true,(x==px&&(y==py&&(z==pz&&true)))==false,true,true,(decide (r>0))==true,true,true,true,true,true,true,true,true]) (eqs:=[]) (calls:=[]) (tu []) (by kernel_rfl) (by kernel_rfl) (Zaa rfl (Zaa rfl (Zaa (Zah (fun h=>d2 ((Za4 i_eq (Za4 i_eq (i_at i_eq))).1 h))) (Zaa rfl (Zaa rfl (Zaa (Zak (Zab.2 d4)) (Zaa rfl (Zaa rfl (Zaa rfl (Zaa rfl (Zaa rfl (Zaa rfl (Zaa rfl (Zaa rfl Zaj)))))))))))))) Zan Zao H
  ·exact ZaQ (G:=Zad kp66 [] [(5,[2015,2012,3009,5008,902007,4006,2005])]) 1000 [false,false] (env':=[]) (L':=[⟨[ag [vi x,vi y,vi z,AV.row 3 0]],4,0,false,false⟩,⟨[(zNqT3 x y z)],3,0,false,false⟩,⟨[(zNqT1 x y z)],7,0,false,false⟩,⟨[(zNqT1 x y z)],7,0,false,true⟩]) (asm:=[true,true,(x==px&&(y==py&&(z==pz&&true)))==false,true,true,(decide (r>0))==false,true,true,true,true,true,true]) (eqs:=[]) (calls:=[]) (tu []) (by kernel_rfl) (by kernel_rfl) (Zaa rfl (Zaa rfl (Zaa (Zah (fun h=>d2 ((Za4 i_eq (Za4 i_eq (i_at i_eq))).1 h))) (Zaa rfl (Zaa rfl (Zaa (Zah (fun h=>d4 (Zab.1 h))) (Zaa rfl (Zaa rfl (Zaa rfl (Zaa rfl (Zaa rfl (Zaa rfl Zaj)))))))))))) Zan Zao H
noncomputable abbrev zNqT4 (x:Int) (y:Int) (z:Int):=ag [vi x,vi y,vi z]
theorem qTo1 (ms:List Mv) (v:Nat) (px py pz x y z r:Int)  (dv:AV) (dK:Heap) (_:ZbN 2 dv dK=true) (H :
  (((x=px)/\((y=py)/\(z=pz)))->(Zbo dv dK) (tu []) [{ elems:=[ag [vi px,vi py,vi pz,AV.row 1 v]],es:=4,ver:=0,frozen:=false,clean:=false },{ elems:=List.map Mv.a ms,es:=7,ver:=v,frozen:=false,clean:=true },{ elems:=[ag [vi x,vi y,vi z]],es:=3,ver:=0,frozen:=false,clean:=false }]) /\
  (¬((x=px)/\((y=py)/\(z=pz)))->((r>0)->((ms.length+1)*56<=1099511627776) /\
    (Zbo dv dK) (tu []) [{ elems:=[ag [vi x,vi y,vi z,AV.row 1 (v+1)]],es:=4,ver:=0,frozen:=false,clean:=false },{ elems:=List.map Mv.a (ms++[{ kind:=2,x:=x,y:=y,z:=z,cx:=0,cy:=0,rate:=r }]),es:=7,ver:=v+1,frozen:=false,clean:=true },{ elems:=[ag [vi x,vi y,vi z]],es:=3,ver:=0,frozen:=false,clean:=false },{ elems:=[ag [vi 2,vi x,vi y,vi z,vi 0,vi 0,vi r]],es:=7,ver:=0,frozen:=false,clean:=false }]) /\
   (¬(r>0)->((ms.length+1)*56<=1099511627776) /\
    (Zbo dv dK) (tu []) [{ elems:=[ag [vi x,vi y,vi z,AV.row 1 (v+1)]],es:=4,ver:=0,frozen:=false,clean:=false },{ elems:=List.map Mv.a (ms++[{ kind:=1,x:=x,y:=y,z:=z,cx:=0,cy:=0,rate:=0 }]),es:=7,ver:=v+1,frozen:=false,clean:=true },{ elems:=[ag [vi x,vi y,vi z]],es:=3,ver:=0,frozen:=false,clean:=false },{ elems:=[ag [vi 1,vi x,vi y,vi z,vi 0,vi 0,vi 0]],es:=7,ver:=0,frozen:=false,clean:=false }]))) :
 qTo1_at ms v px py pz x y z r (Zbo dv dK):=by
 unfold qTo1_at
 rcases xq H with ⟨d2,H⟩|⟨d2,H⟩
 ·exact Zax (G:=Zad kp66 [] []) 1000 [true] (k:=((atC (cd Try.f66) [1,0,1,0])).tail) (env':=[(0,AV.ptr 0 0 0 0),(2,vi r),(4,AV.ptr 2 0 0 0),(12,vb (x==px&&(y==py&&(z==pz&&true))))]) (L':=[⟨[ag [vi px,vi py,vi pz,AV.row 1 v]],4,0,false,false⟩,⟨List.map Mv.a ms,7,v,false,true⟩,⟨[(zNqT4 x y z)],3,0,false,false⟩]) (asm:=[true,true,(x==px&&(y==py&&(z==pz&&true)))==true]) (eqs:=[]) (calls:=[]) (tu []) (by kernel_rfl) (by kernel_rfl) (Zaa rfl (Zaa rfl (Zaa (Zak ((Za4 i_eq (Za4 i_eq (i_at i_eq))).2 d2)) Zaj))) Zan Zao H
 ·rcases xq H with ⟨d4,H⟩|⟨d4,H⟩
  ·have w5:(List.map Mv.a ms).length=ms.length:=List.length_map ..
   have i6:(decide (((List.map Mv.a ms).length+1)*56<=1099511627776))=true ↔ ((ms.length+1)*56<=1099511627776):=(by (try rw [w5]);all_goals exact Zab)
   obtain ⟨k7,H⟩:=H
   have w8:List.map Mv.a ms++[ag [vi 2,vi x,vi y,vi z,vi 0,vi 0,vi r]]=List.map Mv.a (ms++[{ kind:=2,x:=x,y:=y,z:=z,cx:=0,cy:=0,rate:=r }]):=(Zcs rfl rfl)
   exact ZaQ (G:=Zad kp66 [] [(5,[2015,2012,4009,3008,902007,5006,2005])]) 1000 [false,true] (env':=[]) (L':=[⟨[ag [vi x,vi y,vi z,AV.row 1 (v+1)]],4,0,false,false⟩,⟨List.map Mv.a ms++[ag [vi 2,vi x,vi y,vi z,vi 0,vi 0,vi r]],7,v+1,false,true⟩,⟨[(zNqT4 x y z)],3,0,false,false⟩,⟨[ag [vi 2,vi x,vi y,vi z,vi 0,vi 0,vi r]],7,0,false,false⟩]) (asm:=[true,true,(x==px&&(y==py&&(z==pz&&true)))==false,true,true,(decide (r>0))==true,true,true,true,true,v==v,decide (((List.map Mv.a ms).length+1)*56<=1099511627776),true,true,true]) (eqs:=[]) (calls:=[]) (tu []) (by kernel_rfl) (by kernel_rfl) (Zaa rfl (Zaa rfl (Zaa (Zah (fun h=>d2 ((Za4 i_eq (Za4 i_eq (i_at i_eq))).1 h))) (Zaa rfl (Zaa rfl (Zaa (Zak (Zab.2 d4)) (Zaa rfl (Zaa rfl (Zaa rfl (Zaa rfl (Zaa (beq_self_eq_true _) (Zaa (i6.2 k7) (Zaa rfl (Zaa rfl (Zaa rfl Zaj))))))))))))))) Zan Zao (by (try rw [w8]);all_goals exact H)
  ·have w9:(List.map Mv.a ms).length=ms.length:=List.length_map ..
   have i10:(decide (((List.map Mv.a ms).length+1)*56<=1099511627776))=true ↔ ((ms.length+1)*56<=1099511627776):=(by (try rw [w9]);all_goals exact Zab)
   obtain ⟨k11,H⟩:=H
   have w12:List.map Mv.a ms++[ag [vi 1,vi x,vi y,vi z,vi 0,vi 0,vi 0]]=List.map Mv.a (ms++[{ kind:=1,x:=x,y:=y,z:=z,cx:=0,cy:=0,rate:=0 }]):=(Zcs rfl rfl)
   exact ZaQ (G:=Zad kp66 [] [(5,[2015,2012,4009,3008,902007,5006,2005])]) 1000 [false,false] (env':=[]) (L':=[⟨[ag [vi x,vi y,vi z,AV.row 1 (v+1)]],4,0,false,false⟩,⟨List.map Mv.a ms++[ag [vi 1,vi x,vi y,vi z,vi 0,vi 0,vi 0]],7,v+1,false,true⟩,⟨[(zNqT4 x y z)],3,0,false,false⟩,⟨[ag [vi 1,vi x,vi y,vi z,vi 0,vi 0,vi 0]],7,0,false,false⟩]) (asm:=[true,true,(x==px&&(y==py&&(z==pz&&true)))==false,true,true,(decide (r>0))==false,true,true,v==v,decide (((List.map Mv.a ms).length+1)*56<=1099511627776),true,true,true]) (eqs:=[]) (calls:=[]) (tu []) (by kernel_rfl) (by kernel_rfl) (Zaa rfl (Zaa rfl (Zaa (Zah (fun h=>d2 ((Za4 i_eq (Za4 i_eq (i_at i_eq))).1 h))) (Zaa rfl (Zaa rfl (Zaa (Zah (fun h=>d4 (Zab.1 h))) (Zaa rfl (Zaa rfl (Zaa (beq_self_eq_true _) (Zaa (i10.2 k11) (Zaa rfl (Zaa rfl (Zaa rfl Zaj))))))))))))) Zan Zao (by (try rw [w12]);all_goals exact H)
noncomputable abbrev zNqT5 (px:Int) (py:Int) (pz:Int):=ag [vi px,vi py,vi pz,AV.vnil]
noncomputable abbrev zNqT6 (x:Int) (y:Int) (z:Int):=ag [vi x,vi y,vi z,AV.row 3 0]
noncomputable abbrev zNqT7 (x:Int) (y:Int) (z:Int):=ag [vi x,vi y,vi z]
theorem qAd0 (px py pz x y z r:Int)  (Q:AV->Heap->Prop) (H :
  (((x=px)/\((y=py)/\(z=pz)))->Q (ag [vi px,vi py,vi pz,AV.vnil]) [{ elems:=[ag [vi px,vi py,vi pz,AV.vnil]],es:=4,ver:=0,frozen:=false,clean:=false },{ elems:=[ag [vi x,vi y,vi z]],es:=3,ver:=0,frozen:=false,clean:=false },{ elems:=[ag [vi px,vi py,vi pz,AV.vnil]],es:=4,ver:=0,frozen:=false,clean:=false }]) /\
  (¬((x=px)/\((y=py)/\(z=pz)))->((r>0)->Q (ag [vi x,vi y,vi z,AV.row 3 0]) [{ elems:=[ag [vi px,vi py,vi pz,AV.vnil]],es:=4,ver:=0,frozen:=false,clean:=false },{ elems:=[ag [vi x,vi y,vi z]],es:=3,ver:=0,frozen:=false,clean:=false },{ elems:=[ag [vi x,vi y,vi z,AV.row 3 0]],es:=4,ver:=0,frozen:=false,clean:=false },{ elems:=[ag [vi 2,vi x,vi y,vi z,vi 0,vi 0,vi r]],es:=7,ver:=0,frozen:=false,clean:=true }]) /\
   (¬(r>0)->Q (ag [vi x,vi y,vi z,AV.row 3 0]) [{ elems:=[ag [vi px,vi py,vi pz,AV.vnil]],es:=4,ver:=0,frozen:=false,clean:=false },{ elems:=[ag [vi x,vi y,vi z]],es:=3,ver:=0,frozen:=false,clean:=false },{ elems:=[ag [vi x,vi y,vi z,AV.row 3 0]],es:=4,ver:=0,frozen:=false,clean:=false },{ elems:=[ag [vi 1,vi x,vi y,vi z,vi 0,vi 0,vi r]],es:=7,ver:=0,frozen:=false,clean:=true }]))) :
 qAd0_at px py pz x y z r Q:=by
 unfold qAd0_at
 rcases xq H with ⟨d2,H⟩|⟨d2,H⟩
 ·exact Zax (G:=Zad kp57 [] []) 1000 [true] (k:=((atC (cd Try.f57) [1,0,1,0,1])).tail) (env':=[(6,AV.ptr 2 0 0 0)]) (L':=[⟨[(zNqT5 px py pz)],4,0,false,false⟩,⟨[(zNqT7 x y z)],3,0,false,false⟩,⟨[(zNqT5 px py pz)],4,0,false,false⟩]) (asm:=[true,true,(x==px&&(y==py&&(z==pz&&true)))==true,true,true]) (eqs:=[]) (calls:=[]) ((zNqT5 px py pz)) (by kernel_rfl) (by kernel_rfl) (Zaa rfl (Zaa rfl (Zaa (Zak ((Za4 i_eq (Za4 i_eq (i_at i_eq))).2 d2)) (Zaa rfl (Zaa rfl Zaj))))) Zan Zao H
 ·rcases xq H with ⟨d4,H⟩|⟨d4,H⟩
  ·exact Zax (G:=Zad kp57 [] [(6,[4010,5008,902007,3004,2002,3000])]) 1000 [false,true] (k:=((atC (cd Try.f57) [1,1,1,1,1])).tail) (env':=[(6,AV.ptr 2 0 0 0)]) (L':=[⟨[(zNqT5 px py pz)],4,0,false,false⟩,⟨[(zNqT7 x y z)],3,0,false,false⟩,⟨[(zNqT6 x y z)],4,0,false,false⟩,⟨[ag [vi 2,vi x,vi y,vi z,vi 0,vi 0,vi r]],7,0,false,true⟩]) (asm:=[true,true,(x==px&&(y==py&&(z==pz&&true)))==false,(decide (r>0))==true,true,true,true,true,true]) (eqs:=[]) (calls:=[]) ((zNqT6 x y z)) (by kernel_rfl) (by kernel_rfl) (Zaa rfl (Zaa rfl (Zaa (Zah (fun h=>d2 ((Za4 i_eq (Za4 i_eq (i_at i_eq))).1 h))) (Zaa (Zak (Zab.2 d4)) (Zaa rfl (Zaa rfl (Zaa rfl (Zaa rfl (Zaa rfl Zaj))))))))) Zan Zao H
  ·exact Zax (G:=Zad kp57 [] [(6,[4010,5008,902007,3004,2002,3000])]) 1000 [false,false] (k:=((atC (cd Try.f57) [1,1,1,1,1])).tail) (env':=[(6,AV.ptr 2 0 0 0)]) (L':=[⟨[(zNqT5 px py pz)],4,0,false,false⟩,⟨[(zNqT7 x y z)],3,0,false,false⟩,⟨[(zNqT6 x y z)],4,0,false,false⟩,⟨[ag [vi 1,vi x,vi y,vi z,vi 0,vi 0,vi r]],7,0,false,true⟩]) (asm:=[true,true,(x==px&&(y==py&&(z==pz&&true)))==false,(decide (r>0))==false,true,true,true,true,true]) (eqs:=[]) (calls:=[]) ((zNqT6 x y z)) (by kernel_rfl) (by kernel_rfl) (Zaa rfl (Zaa rfl (Zaa (Zah (fun h=>d2 ((Za4 i_eq (Za4 i_eq (i_at i_eq))).1 h))) (Zaa (Zah (fun h=>d4 (Zab.1 h))) (Zaa rfl (Zaa rfl (Zaa rfl (Zaa rfl (Zaa rfl Zaj))))))))) Zan Zao H
noncomputable abbrev zNqT8 (px:Int) (py:Int) (pz:Int) (v:Nat):=ag [vi px,vi py,vi pz,AV.row 0 v]
noncomputable abbrev zNqT9 (x:Int) (y:Int) (z:Int) (v:Nat):=ag [vi x,vi y,vi z,AV.row 0 (v+1)]
noncomputable abbrev zNqT10 (x:Int) (y:Int) (z:Int):=ag [vi x,vi y,vi z]
theorem qAd1 (ms:List Mv) (v:Nat) (px py pz x y z r:Int)  (dv:AV) (dK:Heap) (_:ZbN 1 dv dK=true) (H :
  (((x=px)/\((y=py)/\(z=pz)))->(Zbo dv dK) (ag [vi px,vi py,vi pz,AV.row 0 v]) [{ elems:=List.map Mv.a ms,es:=7,ver:=v,frozen:=false,clean:=true },{ elems:=[ag [vi px,vi py,vi pz,AV.row 0 v]],es:=4,ver:=0,frozen:=false,clean:=false },{ elems:=[ag [vi x,vi y,vi z]],es:=3,ver:=0,frozen:=false,clean:=false },{ elems:=[ag [vi px,vi py,vi pz,AV.row 0 v]],es:=4,ver:=0,frozen:=false,clean:=false }]) /\
  (¬((x=px)/\((y=py)/\(z=pz)))->((r>0)->((ms.length+1)*56<=1099511627776) /\
    (Zbo dv dK) (ag [vi x,vi y,vi z,AV.row 0 (v+1)]) [{ elems:=List.map Mv.a (ms++[{ kind:=2,x:=x,y:=y,z:=z,cx:=0,cy:=0,rate:=r }]),es:=7,ver:=v+1,frozen:=false,clean:=true },{ elems:=[ag [vi px,vi py,vi pz,AV.row 0 v]],es:=4,ver:=0,frozen:=false,clean:=false },{ elems:=[ag [vi x,vi y,vi z]],es:=3,ver:=0,frozen:=false,clean:=false },{ elems:=[ag [vi x,vi y,vi z,AV.row 0 (v+1)]],es:=4,ver:=0,frozen:=false,clean:=false }]) /\
   (¬(r>0)->((ms.length+1)*56<=1099511627776) /\
    (Zbo dv dK) (ag [vi x,vi y,vi z,AV.row 0 (v+1)]) [{ elems:=List.map Mv.a (ms++[{ kind:=1,x:=x,y:=y,z:=z,cx:=0,cy:=0,rate:=r }]),es:=7,ver:=v+1,frozen:=false,clean:=true },{ elems:=[ag [vi px,vi py,vi pz,AV.row 0 v]],es:=4,ver:=0,frozen:=false,clean:=false },{ elems:=[ag [vi x,vi y,vi z]],es:=3,ver:=0,frozen:=false,clean:=false },{ elems:=[ag [vi x,vi y,vi z,AV.row 0 (v+1)]],es:=4,ver:=0,frozen:=false,clean:=false }]))) :
 qAd1_at ms v px py pz x y z r (Zbo dv dK):=by
 unfold qAd1_at
 rcases xq H with ⟨d2,H⟩|⟨d2,H⟩
 ·exact Zax (G:=Zad kp57 [] []) 1000 [true] (k:=((atC (cd Try.f57) [1,0,1,0,1])).tail) (env':=[(6,AV.ptr 3 0 0 0)]) (L':=[⟨List.map Mv.a ms,7,v,false,true⟩,⟨[(zNqT8 px py pz v)],4,0,false,false⟩,⟨[(zNqT10 x y z)],3,0,false,false⟩,⟨[(zNqT8 px py pz v)],4,0,false,false⟩]) (asm:=[true,true,(x==px&&(y==py&&(z==pz&&true)))==true,true,true]) (eqs:=[]) (calls:=[]) ((zNqT8 px py pz v)) (by kernel_rfl) (by kernel_rfl) (Zaa rfl (Zaa rfl (Zaa (Zak ((Za4 i_eq (Za4 i_eq (i_at i_eq))).2 d2)) (Zaa rfl (Zaa rfl Zaj))))) Zan Zao H
 ·rcases xq H with ⟨d4,H⟩|⟨d4,H⟩
  ·have w5:(List.map Mv.a ms).length=ms.length:=List.length_map ..
   have i6:(decide (((List.map Mv.a ms).length+1)*56<=1099511627776))=true ↔ ((ms.length+1)*56<=1099511627776):=(by (try rw [w5]);all_goals exact Zab)
   obtain ⟨k7,H⟩:=H
   have w8:List.map Mv.a ms++[ag [vi 2,vi x,vi y,vi z,vi 0,vi 0,vi r]]=List.map Mv.a (ms++[{ kind:=2,x:=x,y:=y,z:=z,cx:=0,cy:=0,rate:=r }]):=(Zcs rfl rfl)
   exact Zax (G:=Zad kp57 [] [(6,[5010,2008,902007,4004,3002,4000])]) 1000 [false,true] (k:=((atC (cd Try.f57) [1,1,1,1,1])).tail) (env':=[(6,AV.ptr 3 0 0 0)]) (L':=[⟨List.map Mv.a ms++[ag [vi 2,vi x,vi y,vi z,vi 0,vi 0,vi r]],7,v+1,false,true⟩,⟨[(zNqT8 px py pz v)],4,0,false,false⟩,⟨[(zNqT10 x y z)],3,0,false,false⟩,⟨[(zNqT9 x y z v)],4,0,false,false⟩]) (asm:=[true,true,(x==px&&(y==py&&(z==pz&&true)))==false,(decide (r>0))==true,true,true,true,v==v,decide (((List.map Mv.a ms).length+1)*56<=1099511627776),true]) (eqs:=[]) (calls:=[]) ((zNqT9 x y z v)) (by kernel_rfl) (by kernel_rfl) (Zaa rfl (Zaa rfl (Zaa (Zah (fun h=>d2 ((Za4 i_eq (Za4 i_eq (i_at i_eq))).1 h))) (Zaa (Zak (Zab.2 d4)) (Zaa rfl (Zaa rfl (Zaa rfl (Zaa (beq_self_eq_true _) (Zaa (i6.2 k7) (Zaa rfl Zaj)))))))))) Zan Zao (by (try rw [w8]);all_goals exact H)
  ·have w9:(List.map Mv.a ms).length=ms.length:=List.length_map ..
   have i10:(decide (((List.map Mv.a ms).length+1)*56<=1099511627776))=true ↔ ((ms.length+1)*56<=1099511627776):=(by (try rw [w9]);all_goals exact Zab)
   obtain ⟨k11,H⟩:=H
   have w12:List.map Mv.a ms++[ag [vi 1,vi x,vi y,vi z,vi 0,vi 0,vi r]]=List.map Mv.a (ms++[{ kind:=1,x:=x,y:=y,z:=z,cx:=0,cy:=0,rate:=r }]):=(Zcs rfl rfl)
   exact Zax (G:=Zad kp57 [] [(6,[5010,2008,902007,4004,3002,4000])]) 1000 [false,false] (k:=((atC (cd Try.f57) [1,1,1,1,1])).tail) (env':=[(6,AV.ptr 3 0 0 0)]) (L':=[⟨List.map Mv.a ms++[ag [vi 1,vi x,vi y,vi z,vi 0,vi 0,vi r]],7,v+1,false,true⟩,⟨[(zNqT8 px py pz v)],4,0,false,false⟩,⟨[(zNqT10 x y z)],3,0,false,false⟩,⟨[(zNqT9 x y z v)],4,0,false,false⟩]) (asm:=[true,true,(x==px&&(y==py&&(z==pz&&true)))==false,(decide (r>0))==false,true,true,true,v==v,decide (((List.map Mv.a ms).length+1)*56<=1099511627776),true]) (eqs:=[]) (calls:=[]) ((zNqT9 x y z v)) (by kernel_rfl) (by kernel_rfl) (Zaa rfl (Zaa rfl (Zaa (Zah (fun h=>d2 ((Za4 i_eq (Za4 i_eq (i_at i_eq))).1 h))) (Zaa (Zah (fun h=>d4 (Zab.1 h))) (Zaa rfl (Zaa rfl (Zaa rfl (Zaa (beq_self_eq_true _) (Zaa (i10.2 k11) (Zaa rfl Zaj)))))))))) Zan Zao (by (try rw [w12]);all_goals exact H)
end Go.Av

namespace Go.Av
open Go.Proofs
theorem mkv_a {x y z r:Int}:(O.mkv x y z r).a=if r>0 then .agg [.int .i64 2,.int .i64 x,.int .i64 y,.int .i64 z,.int .i64 0,.int .i64 0,.int .i64 r] else .agg [.int .i64 1,.int .i64 x,.int .i64 y,.int .i64 z,.int .i64 0,.int .i64 0,.int .i64 0]:=by
 unfold O.mkv;split <;> rfl
theorem evo66_y (px py pz x y z r:Int) (c:O.sam x y z px py pz) :
  Ev M1 (.own 66 [.ptr 0 0 0 0,.agg [.int .i64 x,.int .i64 y,.int .i64 z],.int .i64 r] [⟨[.agg [.int .i64 px,.int .i64 py,.int .i64 pz,.vnil]],4,0,false,false⟩])
   (.tup []) [⟨[.agg [.int .i64 px,.int .i64 py,.int .i64 pz,.vnil]],4,0,false,false⟩,⟨[.agg [.int .i64 x,.int .i64 y,.int .i64 z]],3,0,false,false⟩]:=
 owncall66 (qTo0 _ _ _ _ _ _ _ _ ⟨fun _=>⟨rfl,rfl⟩,fun k=>absurd c k⟩)
theorem evo66_n (px py pz x y z r:Int) (c:¬O.sam x y z px py pz) :
  Ev M1 (.own 66 [.ptr 0 0 0 0,.agg [.int .i64 x,.int .i64 y,.int .i64 z],.int .i64 r] [⟨[.agg [.int .i64 px,.int .i64 py,.int .i64 pz,.vnil]],4,0,false,false⟩])
   (.tup []) [⟨[.agg [.int .i64 x,.int .i64 y,.int .i64 z,.row 3 0]],4,0,false,false⟩,⟨[.agg [.int .i64 x,.int .i64 y,.int .i64 z]],3,0,false,false⟩,⟨[(O.mkv x y z r).a],7,0,false,false⟩,⟨(O.tol x y z px py pz r).map Mv.a,7,0,false,true⟩]:=
 owncall66 (qTo0 _ _ _ _ _ _ _ _ ⟨fun k=>absurd k c,fun _=>⟨fun k=>by
  rw [tol_n c,List.map_cons,List.map_nil,mkv_a,if_pos k];exact ⟨rfl,rfl⟩,fun k=>by
  rw [tol_n c,List.map_cons,List.map_nil,mkv_a,if_neg k];exact ⟨rfl,rfl⟩⟩⟩)
theorem evo66 (ms:List Mv) (v:Nat) (px py pz x y z r:Int) (h:ms.length<=100000) :
  Ev M1 (.own 66 [.ptr 0 0 0 0,.agg [.int .i64 x,.int .i64 y,.int .i64 z],.int .i64 r] [⟨[.agg [.int .i64 px,.int .i64 py,.int .i64 pz,.row 1 v]],4,0,false,false⟩,⟨ms.map Mv.a,7,v,false,true⟩])
   (.tup []) [⟨[.agg [.int .i64 x,.int .i64 y,.int .i64 z,.row 1 (v+(O.tol x y z px py pz r).length)]],4,0,false,false⟩,⟨(ms++O.tol x y z px py pz r).map Mv.a,7,v+(O.tol x y z px py pz r).length,false,true⟩]:=by
 refine keepcall66 rfl (qTo1 _ _ _ _ _ _ _ _ _ _ _ rfl ⟨fun k => ?_,fun k=>⟨fun j=>⟨by omega,?_⟩,fun j=>⟨by omega,?_⟩⟩⟩)
 ·rw [tol_y (by exact k),List.append_nil,k.1,k.2.1,k.2.2];exact ⟨rfl,rfl⟩
 ·rw [tol_n (by exact k)];unfold O.mkv;rw [if_pos j];exact ⟨rfl,rfl⟩
 ·rw [tol_n (by exact k)];unfold O.mkv;rw [if_neg j];exact ⟨rfl,rfl⟩
theorem ZdS (px py pz x y z r:Int) (c:O.sam x y z px py pz) :
  Ev M1 (.own 57 [.agg [.int .i64 px,.int .i64 py,.int .i64 pz,.vnil],.agg [.int .i64 x,.int .i64 y,.int .i64 z],.int .i64 r] [])
   (.agg [.int .i64 px,.int .i64 py,.int .i64 pz,.vnil]) [⟨[.agg [.int .i64 px,.int .i64 py,.int .i64 pz,.vnil]],4,0,false,false⟩,⟨[.agg [.int .i64 x,.int .i64 y,.int .i64 z]],3,0,false,false⟩,⟨[.agg [.int .i64 px,.int .i64 py,.int .i64 pz,.vnil]],4,0,false,false⟩]:=
 owncall57 (qAd0 _ _ _ _ _ _ _ _ ⟨fun _=>⟨rfl,rfl⟩,fun k=>absurd c k⟩)
theorem ZeQ (px py pz x y z r:Int) (c:¬O.sam x y z px py pz) :
  Ev M1 (.own 57 [.agg [.int .i64 px,.int .i64 py,.int .i64 pz,.vnil],.agg [.int .i64 x,.int .i64 y,.int .i64 z],.int .i64 r] [])
   (.agg [.int .i64 x,.int .i64 y,.int .i64 z,.row 3 0]) [⟨[.agg [.int .i64 px,.int .i64 py,.int .i64 pz,.vnil]],4,0,false,false⟩,⟨[.agg [.int .i64 x,.int .i64 y,.int .i64 z]],3,0,false,false⟩,⟨[.agg [.int .i64 x,.int .i64 y,.int .i64 z,.row 3 0]],4,0,false,false⟩,⟨(O.adl x y z px py pz r).map Mv.a,7,0,false,true⟩]:=
 owncall57 (qAd0 _ _ _ _ _ _ _ _ ⟨fun k=>absurd k c,fun _=>⟨fun k=>by
  unfold O.adl;rw [if_neg c,if_pos k];exact ⟨rfl,rfl⟩,fun k=>by
  unfold O.adl;rw [if_neg c,if_neg k];exact ⟨rfl,rfl⟩⟩⟩)
theorem evo57 (ms:List Mv) (v:Nat) (px py pz x y z r:Int) (h:ms.length<=100000) :
  Ev M1 (.own 57 [.agg [.int .i64 px,.int .i64 py,.int .i64 pz,.row 0 v],.agg [.int .i64 x,.int .i64 y,.int .i64 z],.int .i64 r] [⟨ms.map Mv.a,7,v,false,true⟩])
   (.agg [.int .i64 x,.int .i64 y,.int .i64 z,.row 0 (v+(O.adl x y z px py pz r).length)]) [⟨(ms++O.adl x y z px py pz r).map Mv.a,7,v+(O.adl x y z px py pz r).length,false,true⟩]:=by
 refine keepcall57 rfl (qAd1 _ _ _ _ _ _ _ _ _ _ _ rfl ⟨fun k => ?_,fun k=>⟨fun j=>⟨by omega,?_⟩,fun j=>⟨by omega,?_⟩⟩⟩)
 ·rw [show O.adl x y z px py pz r=[] from if_pos k,List.append_nil,k.1,k.2.1,k.2.2];exact ⟨rfl,rfl⟩
 ·unfold O.adl;rw [if_neg (show ¬O.sam x y z px py pz from k),if_pos j];exact ⟨rfl,rfl⟩
 ·unfold O.adl;rw [if_neg (show ¬O.sam x y z px py pz from k),if_neg j];exact ⟨rfl,rfl⟩
end Go.Av

namespace Go.Av
open Go.Proofs
set_option maxRecDepth 100000
def fi51:Fi:=⟨18,[]⟩
def kp51:List (Nat × List Nat):=[(0,[])]
def fi52:Fi:=⟨16,[]⟩
def kp52:List (Nat × List Nat):=[(0,[0,3]),(1,[])]
def qRi0_at (px py pz z:Int) (Q:AV->Heap->Prop):Prop:=Wp M1 (.run fi51 (atC (cd Try.f51) []) [(0,.ptr 0 0 0 0),(1,.int .i64 z)] [⟨[.agg [.int .i64 px,.int .i64 py,.int .i64 pz,.vnil]],4,0,false,false⟩]) Q
def qRi1_at (ms:List Mv) (v:Nat) (px py pz z:Int) (Q:AV->Heap->Prop):Prop:=Wp M1 (.run fi51 (atC (cd Try.f51) []) [(0,.ptr 0 0 0 0),(1,.int .i64 z)] [⟨[.agg [.int .i64 px,.int .i64 py,.int .i64 pz,.row 1 v]],4,0,false,false⟩,⟨ms.map Mv.a,7,v,false,true⟩]) Q
def qAc0_at (px py pz x y:Int) (Q:AV->Heap->Prop):Prop:=Wp M1 (.run fi52 (atC (cd Try.f52) []) [(0,.ptr 0 0 0 0),(1,.agg [.int .i64 x,.int .i64 y])] [⟨[.agg [.int .i64 px,.int .i64 py,.int .i64 pz,.vnil]],4,0,false,false⟩]) Q
def qAc1_at (ms:List Mv) (v:Nat) (px py pz x y:Int) (Q:AV->Heap->Prop):Prop:=Wp M1 (.run fi52 (atC (cd Try.f52) []) [(0,.ptr 0 0 0 0),(1,.agg [.int .i64 x,.int .i64 y])] [⟨[.agg [.int .i64 px,.int .i64 py,.int .i64 pz,.row 1 v]],4,0,false,false⟩,⟨ms.map Mv.a,7,v,false,true⟩]) Q
theorem owncall51 {args:List AV} {L:Heap} {Q:AV->Heap->Prop} (h:Wp M1 (.run fi51 [.code (cd Try.f51)] (ZaX 0 args) L) Q):Wp M1 (.own 51 args L) Q:=
 Zdf Try.f51 fi51 (by kernel_rfl) (by kernel_rfl) (by kernel_rfl) (by kernel_rfl) h
theorem keepcall51 {args:List AV} {L:Heap} {v:AV} {K:Heap} (hk:ZbN L.length v K=true) (h:Wp M1 (.run fi51 [.code (cd Try.f51)] (ZaX 0 args) L) (Zbo v K)):Ev M1 (.own 51 args L) v K:=
 ZcA Try.f51 fi51 (by kernel_rfl) (by kernel_rfl) (by kernel_rfl) (by kernel_rfl) hk h
theorem owncall52 {args:List AV} {L:Heap} {Q:AV->Heap->Prop} (h:Wp M1 (.run fi52 [.code (cd Try.f52)] (ZaX 0 args) L) Q):Wp M1 (.own 52 args L) Q:=
 Zdf Try.f52 fi52 (by kernel_rfl) (by kernel_rfl) (by kernel_rfl) (by kernel_rfl) h
theorem keepcall52 {args:List AV} {L:Heap} {v:AV} {K:Heap} (hk:ZbN L.length v K=true) (h:Wp M1 (.run fi52 [.code (cd Try.f52)] (ZaX 0 args) L) (Zbo v K)):Ev M1 (.own 52 args L) v K:=
 ZcA Try.f52 fi52 (by kernel_rfl) (by kernel_rfl) (by kernel_rfl) (by kernel_rfl) hk h
noncomputable abbrev zNqU1 (px:Int) (py:Int) (z:Int):=ag [vi px,vi py,vi z]
noncomputable abbrev zNqU2 (px:Int) (py:Int) (z:Int):=ag [vi (O.mkv px py z 0).kind,vi (O.mkv px py z 0).x,vi (O.mkv px py z 0).y,vi (O.mkv px py z 0).z,vi (O.mkv px py z 0).cx,vi (O.mkv px py z 0).cy,vi (O.mkv px py z 0).rate]
noncomputable abbrev zNqU3 (px:Int) (py:Int) (pz:Int):=ag [vi px,vi py,vi pz,AV.vnil]
theorem qRi0 (px py pz z:Int)  (Q:AV->Heap->Prop) (H :
  ((O.sam px py z px py pz)->Q (tu []) [{ elems:=[ag [vi px,vi py,vi pz,AV.vnil]],es:=4,ver:=0,frozen:=false,clean:=false }]) /\
  (¬(O.sam px py z px py pz)->Q (tu []) [{ elems:=[ag [vi px,vi py,vi z,AV.row 1 0]],es:=4,ver:=0,frozen:=false,clean:=false },{ elems:=List.map Mv.a (O.tol px py z px py pz 0),es:=7,ver:=0,frozen:=false,clean:=true }])) :
 qRi0_at px py pz z Q:=by
 unfold qRi0_at
 rcases xq H with ⟨d1,H⟩|⟨d1,H⟩
 ·exact ZaQ (G:=Zad kp51 [(0,13,.call (tu []) (some [⟨[(zNqU3 px py pz)],4,0,false,false⟩,⟨[(zNqU1 px py z)],3,0,false,false⟩]))] [(0,[13])]) 1000 [] (env':=[]) (L':=[⟨[(zNqU3 px py pz)],4,0,false,false⟩]) (asm:=[true,true]) (eqs:=[]) (calls:=[⟨true,true,66,[AV.ptr 0 0 0 0,(zNqU1 px py z),vi 0],[⟨[(zNqU3 px py pz)],4,0,false,false⟩],tu [],[⟨[(zNqU3 px py pz)],4,0,false,false⟩,⟨[(zNqU1 px py z)],3,0,false,false⟩]⟩]) (tu []) (by kernel_rfl) (by kernel_rfl) (Zaa rfl (Zaa rfl Zaj)) Zan (Zap (fun _=>(@evo66_y px py pz px py z 0 d1)) Zao) H
 ·exact ZaQ (G:=Zad kp51 [(0,13,.call (tu []) (some [⟨[ag [vi px,vi py,vi z,AV.row 3 0]],4,0,false,false⟩,⟨[(zNqU1 px py z)],3,0,false,false⟩,⟨[(zNqU2 px py z)],7,0,false,false⟩,⟨List.map Mv.a (O.tol px py z px py pz 0),7,0,false,true⟩]))] [(0,[13])]) 1000 [] (env':=[]) (L':=[⟨[ag [vi px,vi py,vi z,AV.row 1 0]],4,0,false,false⟩,⟨List.map Mv.a (O.tol px py z px py pz 0),7,0,false,true⟩]) (asm:=[true,true]) (eqs:=[]) (calls:=[⟨true,true,66,[AV.ptr 0 0 0 0,(zNqU1 px py z),vi 0],[⟨[(zNqU3 px py pz)],4,0,false,false⟩],tu [],[⟨[ag [vi px,vi py,vi z,AV.row 3 0]],4,0,false,false⟩,⟨[(zNqU1 px py z)],3,0,false,false⟩,⟨[(zNqU2 px py z)],7,0,false,false⟩,⟨List.map Mv.a (O.tol px py z px py pz 0),7,0,false,true⟩]⟩]) (tu []) (by kernel_rfl) (by kernel_rfl) (Zaa rfl (Zaa rfl Zaj)) Zan (Zap (fun _=>(@evo66_n px py pz px py z 0 d1)) Zao) H
noncomputable abbrev zNqU4 (px:Int) (py:Int) (z:Int) (v:Nat) (pz:Int):=ag [vi px,vi py,vi z,AV.row 1 (v+(O.tol px py z px py pz 0).length)]
theorem qRi1 (ms:List Mv) (v:Nat) (px py pz z:Int)  (dv:AV) (dK:Heap) (_:ZbN 2 dv dK=true) (H :
  (ms.length<=100000) /\
  (Zbo dv dK) (tu []) [{ elems:=[ag [vi px,vi py,vi z,AV.row 1 (v+(O.tol px py z px py pz 0).length)]],es:=4,ver:=0,frozen:=false,clean:=false },{ elems:=List.map Mv.a (ms++O.tol px py z px py pz 0),es:=7,ver:=v+(O.tol px py z px py pz 0).length,frozen:=false,clean:=true }]) :
 qRi1_at ms v px py pz z (Zbo dv dK):=by
 unfold qRi1_at
 obtain ⟨k1,H⟩:=H
 exact ZaQ (G:=Zad kp51 [(0,13,.call (tu []) (some [⟨[(zNqU4 px py z v pz)],4,0,false,false⟩,⟨List.map Mv.a (ms++O.tol px py z px py pz 0),7,v+(O.tol px py z px py pz 0).length,false,true⟩]))] [(0,[13])]) 1000 [] (env':=[]) (L':=[⟨[(zNqU4 px py z v pz)],4,0,false,false⟩,⟨List.map Mv.a (ms++O.tol px py z px py pz 0),7,v+(O.tol px py z px py pz 0).length,false,true⟩]) (asm:=[true,true]) (eqs:=[]) (calls:=[⟨true,true,66,[AV.ptr 0 0 0 0,ag [vi px,vi py,vi z],vi 0],[⟨[ag [vi px,vi py,vi pz,AV.row 1 v]],4,0,false,false⟩,⟨List.map Mv.a ms,7,v,false,true⟩],tu [],[⟨[(zNqU4 px py z v pz)],4,0,false,false⟩,⟨List.map Mv.a (ms++O.tol px py z px py pz 0),7,v+(O.tol px py z px py pz 0).length,false,true⟩]⟩]) (tu []) (by kernel_rfl) (by kernel_rfl) (Zaa rfl (Zaa rfl Zaj)) Zan (Zap (fun _=>(@evo66 ms v px py pz px py z 0 k1)) Zao) H
noncomputable abbrev zNqU5 (x:Int) (y:Int) (pz:Int):=ag [vi x,vi y,vi pz]
noncomputable abbrev zNqU6 (x:Int) (y:Int) (pz:Int):=ag [vi (O.mkv x y pz 0).kind,vi (O.mkv x y pz 0).x,vi (O.mkv x y pz 0).y,vi (O.mkv x y pz 0).z,vi (O.mkv x y pz 0).cx,vi (O.mkv x y pz 0).cy,vi (O.mkv x y pz 0).rate]
noncomputable abbrev zNqU7 (px:Int) (py:Int) (pz:Int):=ag [vi px,vi py,vi pz,AV.vnil]
theorem qAc0 (px py pz x y:Int)  (Q:AV->Heap->Prop) (H :
  ((O.sam x y pz px py pz)->Q (tu []) [{ elems:=[ag [vi px,vi py,vi pz,AV.vnil]],es:=4,ver:=0,frozen:=false,clean:=false },{ elems:=[ag [vi x,vi y]],es:=2,ver:=0,frozen:=false,clean:=false }]) /\
  (¬(O.sam x y pz px py pz)->Q (tu []) [{ elems:=[ag [vi x,vi y,vi pz,AV.row 2 0]],es:=4,ver:=0,frozen:=false,clean:=false },{ elems:=[ag [vi x,vi y]],es:=2,ver:=0,frozen:=false,clean:=false },{ elems:=List.map Mv.a (O.tol x y pz px py pz 0),es:=7,ver:=0,frozen:=false,clean:=true }])) :
 qAc0_at px py pz x y Q:=by
 unfold qAc0_at
 rcases xq H with ⟨d1,H⟩|⟨d1,H⟩
 ·exact ZaQ (G:=Zad kp52 [(1,11,.call (tu []) (some [⟨[(zNqU7 px py pz)],4,0,false,false⟩,⟨[(zNqU5 x y pz)],3,0,false,false⟩]))] [(1,[11])]) 1000 [] (env':=[]) (L':=[⟨[(zNqU7 px py pz)],4,0,false,false⟩,⟨[ag [vi x,vi y]],2,0,false,false⟩]) (asm:=[true,true,true]) (eqs:=[]) (calls:=[⟨true,true,66,[AV.ptr 0 0 0 0,(zNqU5 x y pz),vi 0],[⟨[(zNqU7 px py pz)],4,0,false,false⟩],tu [],[⟨[(zNqU7 px py pz)],4,0,false,false⟩,⟨[(zNqU5 x y pz)],3,0,false,false⟩]⟩]) (tu []) (by kernel_rfl) (by kernel_rfl) (Zaa rfl (Zaa rfl (Zaa rfl Zaj))) Zan (Zap (fun _=>(@evo66_y px py pz x y pz 0 d1)) Zao) H
 ·exact ZaQ (G:=Zad kp52 [(1,11,.call (tu []) (some [⟨[ag [vi x,vi y,vi pz,AV.row 3 0]],4,0,false,false⟩,⟨[(zNqU5 x y pz)],3,0,false,false⟩,⟨[(zNqU6 x y pz)],7,0,false,false⟩,⟨List.map Mv.a (O.tol x y pz px py pz 0),7,0,false,true⟩]))] [(1,[11])]) 1000 [] (env':=[]) (L':=[⟨[ag [vi x,vi y,vi pz,AV.row 2 0]],4,0,false,false⟩,⟨[ag [vi x,vi y]],2,0,false,false⟩,⟨List.map Mv.a (O.tol x y pz px py pz 0),7,0,false,true⟩]) (asm:=[true,true,true]) (eqs:=[]) (calls:=[⟨true,true,66,[AV.ptr 0 0 0 0,(zNqU5 x y pz),vi 0],[⟨[(zNqU7 px py pz)],4,0,false,false⟩],tu [],[⟨[ag [vi x,vi y,vi pz,AV.row 3 0]],4,0,false,false⟩,⟨[(zNqU5 x y pz)],3,0,false,false⟩,⟨[(zNqU6 x y pz)],7,0,false,false⟩,⟨List.map Mv.a (O.tol x y pz px py pz 0),7,0,false,true⟩]⟩]) (tu []) (by kernel_rfl) (by kernel_rfl) (Zaa rfl (Zaa rfl (Zaa rfl Zaj))) Zan (Zap (fun _=>(@evo66_n px py pz x y pz 0 d1)) Zao) H
noncomputable abbrev zNqU8 (x:Int) (y:Int) (pz:Int) (v:Nat) (px:Int) (py:Int):=ag [vi x,vi y,vi pz,AV.row 1 (v+(O.tol x y pz px py pz 0).length)]
theorem qAc1 (ms:List Mv) (v:Nat) (px py pz x y:Int)  (dv:AV) (dK:Heap) (_:ZbN 2 dv dK=true) (H :
  (ms.length<=100000) /\
  (Zbo dv dK) (tu []) [{ elems:=[ag [vi x,vi y,vi pz,AV.row 1 (v+(O.tol x y pz px py pz 0).length)]],es:=4,ver:=0,frozen:=false,clean:=false },{ elems:=List.map Mv.a (ms++O.tol x y pz px py pz 0),es:=7,ver:=v+(O.tol x y pz px py pz 0).length,frozen:=false,clean:=true },{ elems:=[ag [vi x,vi y]],es:=2,ver:=0,frozen:=false,clean:=false }]) :
 qAc1_at ms v px py pz x y (Zbo dv dK):=by
 unfold qAc1_at
 obtain ⟨k1,H⟩:=H
 exact ZaQ (G:=Zad kp52 [(1,11,.call (tu []) (some [⟨[(zNqU8 x y pz v px py)],4,0,false,false⟩,⟨List.map Mv.a (ms++O.tol x y pz px py pz 0),7,v+(O.tol x y pz px py pz 0).length,false,true⟩]))] [(1,[11])]) 1000 [] (env':=[]) (L':=[⟨[(zNqU8 x y pz v px py)],4,0,false,false⟩,⟨List.map Mv.a (ms++O.tol x y pz px py pz 0),7,v+(O.tol x y pz px py pz 0).length,false,true⟩,⟨[ag [vi x,vi y]],2,0,false,false⟩]) (asm:=[true,true,true]) (eqs:=[]) (calls:=[⟨true,true,66,[AV.ptr 0 0 0 0,ag [vi x,vi y,vi pz],vi 0],[⟨[ag [vi px,vi py,vi pz,AV.row 1 v]],4,0,false,false⟩,⟨List.map Mv.a ms,7,v,false,true⟩],tu [],[⟨[(zNqU8 x y pz v px py)],4,0,false,false⟩,⟨List.map Mv.a (ms++O.tol x y pz px py pz 0),7,v+(O.tol x y pz px py pz 0).length,false,true⟩]⟩]) (tu []) (by kernel_rfl) (by kernel_rfl) (Zaa rfl (Zaa rfl (Zaa rfl Zaj))) Zan (Zap (fun _=>(@evo66 ms v px py pz x y pz 0 k1)) Zao) H
end Go.Av

namespace Go.Av
open Go.Proofs
theorem evo51_y (px py pz z:Int) (c:O.sam px py z px py pz) :
  Ev M1 (.own 51 [.ptr 0 0 0 0,.int .i64 z] [⟨[.agg [.int .i64 px,.int .i64 py,.int .i64 pz,.vnil]],4,0,false,false⟩])
   (.tup []) [⟨[.agg [.int .i64 px,.int .i64 py,.int .i64 pz,.vnil]],4,0,false,false⟩]:=
 owncall51 (qRi0 _ _ _ _ _ ⟨fun _=>⟨rfl,rfl⟩,fun k=>absurd c k⟩)
theorem evo51_n (px py pz z:Int) (c:¬O.sam px py z px py pz) :
  Ev M1 (.own 51 [.ptr 0 0 0 0,.int .i64 z] [⟨[.agg [.int .i64 px,.int .i64 py,.int .i64 pz,.vnil]],4,0,false,false⟩])
   (.tup []) [⟨[.agg [.int .i64 px,.int .i64 py,.int .i64 z,.row 1 0]],4,0,false,false⟩,⟨(O.tol px py z px py pz 0).map Mv.a,7,0,false,true⟩]:=
 owncall51 (qRi0 _ _ _ _ _ ⟨fun k=>absurd k c,fun _=>⟨rfl,rfl⟩⟩)
theorem evo51 (ms:List Mv) (v:Nat) (px py pz z:Int) (h:ms.length<=100000) :
  Ev M1 (.own 51 [.ptr 0 0 0 0,.int .i64 z] [⟨[.agg [.int .i64 px,.int .i64 py,.int .i64 pz,.row 1 v]],4,0,false,false⟩,⟨ms.map Mv.a,7,v,false,true⟩])
   (.tup []) [⟨[.agg [.int .i64 px,.int .i64 py,.int .i64 z,.row 1 (v+(O.tol px py z px py pz 0).length)]],4,0,false,false⟩,⟨(ms++O.tol px py z px py pz 0).map Mv.a,7,v+(O.tol px py z px py pz 0).length,false,true⟩]:=
 keepcall51 rfl (qRi1 _ _ _ _ _ _ _ _ rfl ⟨h,rfl,rfl⟩)
theorem evo52_y (px py pz x y:Int) (c:O.sam x y pz px py pz) :
  Ev M1 (.own 52 [.ptr 0 0 0 0,.agg [.int .i64 x,.int .i64 y]] [⟨[.agg [.int .i64 px,.int .i64 py,.int .i64 pz,.vnil]],4,0,false,false⟩])
   (.tup []) [⟨[.agg [.int .i64 px,.int .i64 py,.int .i64 pz,.vnil]],4,0,false,false⟩,⟨[.agg [.int .i64 x,.int .i64 y]],2,0,false,false⟩]:=
 owncall52 (qAc0 _ _ _ _ _ _ ⟨fun _=>⟨rfl,rfl⟩,fun k=>absurd c k⟩)
theorem evo52_n (px py pz x y:Int) (c:¬O.sam x y pz px py pz) :
  Ev M1 (.own 52 [.ptr 0 0 0 0,.agg [.int .i64 x,.int .i64 y]] [⟨[.agg [.int .i64 px,.int .i64 py,.int .i64 pz,.vnil]],4,0,false,false⟩])
   (.tup []) [⟨[.agg [.int .i64 x,.int .i64 y,.int .i64 pz,.row 2 0]],4,0,false,false⟩,⟨[.agg [.int .i64 x,.int .i64 y]],2,0,false,false⟩,⟨(O.tol x y pz px py pz 0).map Mv.a,7,0,false,true⟩]:=
 owncall52 (qAc0 _ _ _ _ _ _ ⟨fun k=>absurd k c,fun _=>⟨rfl,rfl⟩⟩)
theorem evo52 (ms:List Mv) (v:Nat) (px py pz x y:Int) (h:ms.length<=100000) :
  Ev M1 (.own 52 [.ptr 0 0 0 0,.agg [.int .i64 x,.int .i64 y]] [⟨[.agg [.int .i64 px,.int .i64 py,.int .i64 pz,.row 1 v]],4,0,false,false⟩,⟨ms.map Mv.a,7,v,false,true⟩])
   (.tup []) [⟨[.agg [.int .i64 x,.int .i64 y,.int .i64 pz,.row 1 (v+(O.tol x y pz px py pz 0).length)]],4,0,false,false⟩,⟨(ms++O.tol x y pz px py pz 0).map Mv.a,7,v+(O.tol x y pz px py pz 0).length,false,true⟩]:=
 keepcall52 rfl (qAc1 _ _ _ _ _ _ _ _ _ rfl ⟨h,rfl,rfl⟩)
end Go.Av
