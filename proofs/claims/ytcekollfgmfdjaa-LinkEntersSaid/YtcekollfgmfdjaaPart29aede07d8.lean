/- PART 5 of the texts of a claim, joined by a program: what each part shows stands at its head. -/
import Derived.Test.YtcekollfgmfdjaaPart41dd210893

namespace Go.Av
open Go.Proofs
set_option maxRecDepth 100000
def fi68:Fi:=⟨31,[.tmp 4]⟩
def kp68:List (Nat × List Nat):=[(0,[2,3]),(1,[4])]
def fi71:Fi:=⟨10,[.cell 4 114]⟩
def kp71:List (Nat × List Nat):=[(0,[0,1,4]),(1,[4])]
def fi96:Fi:=⟨17,[.cell 4 110]⟩
def kp96:List (Nat × List Nat):=[(0,[2,3,4]),(1,[4,5,6]),(2,[4,5,14]),(3,[4]),(4,[4])]
def fi97:Fi:=⟨8,[.cell 4 110]⟩
def kp97:List (Nat × List Nat):=[(0,[2,3,4]),(1,[4])]
def fi102:Fi:=⟨8,[.cell 4 110]⟩
def kp102:List (Nat × List Nat):=[(0,[2,3,4]),(1,[4])]
def fi103:Fi:=⟨8,[.cell 4 110]⟩
def kp103:List (Nat × List Nat):=[(0,[2,3,4]),(1,[4])]
def qAdd_at (f1 f2 g1 g2:Bool) (r s:Rat) (Q:AV->Heap->Prop):Prop:=Wp M1 (.run fi103 (atC (cd Try.f103) []) [(0,ratA f1 f2 r),(1,ratA g1 g2 s)] []) Q
def qSub_at (f1 f2 g1 g2:Bool) (r s:Rat) (Q:AV->Heap->Prop):Prop:=Wp M1 (.run fi102 (atC (cd Try.f102) []) [(0,ratA f1 f2 r),(1,ratA g1 g2 s)] []) Q
def qMul_at (f1 f2 g1 g2:Bool) (r s:Rat) (Q:AV->Heap->Prop):Prop:=Wp M1 (.run fi97 (atC (cd Try.f97) []) [(0,ratA f1 f2 r),(1,ratA g1 g2 s)] []) Q
def qOver_at (f1 f2 g1 g2:Bool) (r s:Rat) (Q:AV->Heap->Prop):Prop:=Wp M1 (.run fi96 (atC (cd Try.f96) []) [(0,ratA f1 f2 r),(1,ratA g1 g2 s)] []) Q
def qVec_at (x y:Int) (Q:AV->Heap->Prop):Prop:=Wp M1 (.run fi71 (atC (cd Try.f71) []) [(0,.int .i64 x),(1,.int .i64 y)] []) Q
def qHolds_at (x0 y0 x1 y1 tp x y:Int) (Q:AV->Heap->Prop):Prop:=Wp M1 (.run fi68 (atC (cd Try.f68) []) [(0,.agg [.int .i64 x0,.int .i64 y0,.int .i64 x1,.int .i64 y1,.int .i64 tp]),(1,.agg [.int .i64 x,.int .i64 y])] []) Q
theorem call68 {args:List AV} {d:AV} (h:wc M1 fi68 Try.f68 args d):Ev M1 (.pure 68 args) d []:=pcl _ _ (by kernel_rfl) h
theorem call71 {args:List AV} {d:AV} (h:wc M1 fi71 Try.f71 args d):Ev M1 (.pure 71 args) d []:=pcl _ _ (by kernel_rfl) h
theorem call96 {args:List AV} {d:AV} (h:wc M1 fi96 Try.f96 args d):Ev M1 (.pure 96 args) d []:=pcl _ _ (by kernel_rfl) h
theorem call97 {args:List AV} {d:AV} (h:wc M1 fi97 Try.f97 args d):Ev M1 (.pure 97 args) d []:=pcl _ _ (by kernel_rfl) h
theorem call102 {args:List AV} {d:AV} (h:wc M1 fi102 Try.f102 args d):Ev M1 (.pure 102 args) d []:=pcl _ _ (by kernel_rfl) h
theorem call103 {args:List AV} {d:AV} (h:wc M1 fi103 Try.f103 args d):Ev M1 (.pure 103 args) d []:=pcl _ _ (by kernel_rfl) h
theorem qAdd (f1 f2 g1 g2:Bool) (r s:Rat)  (dq:AV) (H :
  (O.okR r/\O.okR s) /\
  Weak (ratF (r+s)) dq) :
 qAdd_at f1 f2 g1 g2 r s (Zaf dq):=by
 unfold qAdd_at
 obtain ⟨k1,H⟩:=H
 exact Zan (G:=Zad kp103 [(1,2,.call (ratF (r+s)) none)] []) 1000 [] (ratF (r+s)) (by kernel_rfl) (bc rfl (bc rfl (bc rfl b0))) q0 (ce (@ev111 f1 f2 g1 g2 r s k1) c0) H
theorem qSub (f1 f2 g1 g2:Bool) (r s:Rat)  (dq:AV) (H :
  (O.okR r/\O.okR s) /\
  Weak (ratF (r-s)) dq) :
 qSub_at f1 f2 g1 g2 r s (Zaf dq):=by
 unfold qSub_at
 obtain ⟨k1,H⟩:=H
 exact Zan (G:=Zad kp102 [(1,2,.call (ratF (r-s)) none)] []) 1000 [] (ratF (r-s)) (by kernel_rfl) (bc rfl (bc rfl (bc rfl b0))) q0 (ce (@ev110 f1 f2 g1 g2 r s k1) c0) H
theorem qMul (f1 f2 g1 g2:Bool) (r s:Rat)  (dq:AV) (H :
  (O.okR r/\O.okR s) /\
  Weak (ratF (r*s)) dq) :
 qMul_at f1 f2 g1 g2 r s (Zaf dq):=by
 unfold qMul_at
 obtain ⟨k1,H⟩:=H
 exact Zan (G:=Zad kp97 [(1,2,.call (ratF (r*s)) none)] []) 1000 [] (ratF (r*s)) (by kernel_rfl) (bc rfl (bc rfl (bc rfl b0))) q0 (ce (@ev70 f1 f2 g1 g2 r s k1) c0) H
theorem qOver (f1 f2 g1 g2:Bool) (r s:Rat)  (dq:AV) (H :
  (O.okR r/\O.okR s/\s.num ≠ 0) /\
  Weak (ratF (r / s)) dq) :
 qOver_at f1 f2 g1 g2 r s (Zaf dq):=by
 unfold qOver_at
 obtain ⟨k1,H⟩:=H
 exact Zan (G:=Zad kp96 [(1,2,.call (tu [ratF (r / s),vi 0]) none)] []) 1000 [false] (ratF (r / s)) (by kernel_rfl) (bc rfl (bc rfl (bc rfl (bc rfl (bc rfl (bc rfl b0)))))) q0 (ce (@ev104 f1 f2 g1 g2 r s k1) c0) H
theorem qVec (x y:Int)  (dq:AV) (H :
  (O.inI x) /\
  (O.inI y) /\
  Weak (ag [vb (O.Zaa (O.qi x).num),vf (us (O.Zae (O.qi x).num)),vb (O.Zaa (↑(O.qi x).den:Int)),vf (us (O.Zae (↑(O.qi x).den:Int))),vb (O.Zaa (O.qi y).num),vf (us (O.Zae (O.qi y).num)),vb (O.Zaa (↑(O.qi y).den:Int)),vf (us (O.Zae (↑(O.qi y).den:Int)))]) dq) :
 qVec_at x y (Zaf dq):=by
 unfold qVec_at
 obtain ⟨k1,k2,H⟩:=H
 exact Zan (G:=Zad kp71 [(1,1,.call (ratF (O.qi x)) none),(1,3,.call (ratF (O.qi y)) none)] []) 1000 [] (ag [vb (O.Zaa (O.qi x).num),vf (us (O.Zae (O.qi x).num)),vb (O.Zaa (↑(O.qi x).den:Int)),vf (us (O.Zae (↑(O.qi x).den:Int))),vb (O.Zaa (O.qi y).num),vf (us (O.Zae (O.qi y).num)),vb (O.Zaa (↑(O.qi y).den:Int)),vf (us (O.Zae (↑(O.qi y).den:Int)))]) (by kernel_rfl) (bc rfl b0) q0 (ce (@ev69 x k1) (ce (@ev69 y k2) c0)) H
theorem qHolds (x0 y0 x1 y1 tp x y:Int)  (dq:AV) (H :
  vb (bif bif bif decide (x0<=x) then decide (x<=x1) else false then decide (y0<=y) else false then decide (y<=y1) else false)=dq) :
 qHolds_at x0 y0 x1 y1 tp x y (Zaf dq):=by
 unfold qHolds_at
 exact Zai (G:=Zad kp68 [] []) 1000 [] (asm:=[true,true,!(decide (x0<=x)==true&&true)||true,!(decide (x0<=x)==true&&true)||true,!((bif decide (x0<=x) then decide (x<=x1) else false)==true&&true)||true,!((bif decide (x0<=x) then decide (x<=x1) else false)==true&&true)||true,!((bif bif decide (x0<=x) then decide (x<=x1) else false then decide (y0<=y) else false)==true&&true)||true,!((bif bif decide (x0<=x) then decide (x<=x1) else false then decide (y0<=y) else false)==true&&true)||true]) (vb (bif bif bif decide (x0<=x) then decide (x<=x1) else false then decide (y0<=y) else false then decide (y<=y1) else false)) (by kernel_rfl) (bc rfl (bc rfl (bc (Bool.or_true _) (bc (Bool.or_true _) (bc (Bool.or_true _) (bc (Bool.or_true _) (bc (Bool.or_true _) (bc (Bool.or_true _) b0)))))))) q0 c0 H
end Go.Av

namespace Go.Av
open Go.Proofs
theorem ev103 (f1 f2 g1 g2:Bool) (r s:Rat) (h:O.okR r/\O.okR s):Ev M1 (.pure 103 [ratA f1 f2 r,ratA g1 g2 s]) (ratF (r+s)) []:=call103 (qAdd _ _ _ _ _ _ _ ⟨h,.refl _⟩)
theorem ev102 (f1 f2 g1 g2:Bool) (r s:Rat) (h:O.okR r/\O.okR s):Ev M1 (.pure 102 [ratA f1 f2 r,ratA g1 g2 s]) (ratF (r-s)) []:=call102 (qSub _ _ _ _ _ _ _ ⟨h,.refl _⟩)
theorem ev97 (f1 f2 g1 g2:Bool) (r s:Rat) (h:O.okR r/\O.okR s):Ev M1 (.pure 97 [ratA f1 f2 r,ratA g1 g2 s]) (ratF (r*s)) []:=call97 (qMul _ _ _ _ _ _ _ ⟨h,.refl _⟩)
theorem ev96 (f1 f2 g1 g2:Bool) (r s:Rat) (h:O.okR r/\O.okR s/\s.num ≠ 0):Ev M1 (.pure 96 [ratA f1 f2 r,ratA g1 g2 s]) (ratF (r / s)) []:=call96 (qOver _ _ _ _ _ _ _ ⟨h,.refl _⟩)
abbrev vecA (f1 f2 f3 f4:Bool) (x y:Rat):AV:=.agg [.bool (O.Zaa x.num),.vec f1 1 ((O.Zae x.num).map (.int .u32)),.bool (O.Zaa (x.den:Int)),.vec f2 1 ((O.Zae (x.den:Int)).map (.int .u32)),.bool (O.Zaa y.num),.vec f3 1 ((O.Zae y.num).map (.int .u32)),.bool (O.Zaa (y.den:Int)),.vec f4 1 ((O.Zae (y.den:Int)).map (.int .u32))]
def O.inI2 (x y:Int):Prop:=O.inI x/\O.inI y
theorem ev71 (x y:Int) (h:O.inI2 x y):Ev M1 (.pure 71 [.int .i64 x,.int .i64 y]) (vecA false false false false (O.qi x) (O.qi y)) []:=call71 (qVec _ _ _ ⟨h.1,h.2,.refl _⟩)
namespace O
def hld (x0 y0 x1 y1 x y:Int):Prop:=x0<=x/\x<=x1/\y0<=y/\y<=y1
def rct (x0 y0 x1 y1:Int):Prop:=x0<x1/\y0<y1/\x0 >= -10000000/\y0 >= -10000000/\x1<=10000000/\y1<=10000000
def wth (n l:Int):Prop:=n>=l/\n<=10000000
end O
instance (x0 y0 x1 y1 x y:Int):Decidable (O.hld x0 y0 x1 y1 x y):=by unfold O.hld;infer_instance
instance (x0 y0 x1 y1:Int):Decidable (O.rct x0 y0 x1 y1):=by unfold O.rct;infer_instance
instance (n l:Int):Decidable (O.wth n l):=by unfold O.wth;infer_instance
theorem ev68 (x0 y0 x1 y1 tp x y:Int):Ev M1 (.pure 68 [.agg [.int .i64 x0,.int .i64 y0,.int .i64 x1,.int .i64 y1,.int .i64 tp],.agg [.int .i64 x,.int .i64 y]]) (.bool (decide (O.hld x0 y0 x1 y1 x y))) []:=
 call68 (qHolds _ _ _ _ _ _ _ _ (congrArg AV.bool (by rw [ZcE,ZcE,ZcE];exact Zeg (by unfold O.hld;omega))))
end Go.Av

namespace Go.Av
open Go.Proofs
set_option maxRecDepth 100000
def fi93:Fi:=⟨16,[.cell 4 114]⟩
def kp93:List (Nat × List Nat):=[(0,[2,3,4]),(1,[4])]
def fi94:Fi:=⟨16,[.cell 4 110]⟩
def kp94:List (Nat × List Nat):=[(0,[2,3,4]),(1,[4])]
def fi95:Fi:=⟨16,[.cell 4 110]⟩
def kp95:List (Nat × List Nat):=[(0,[2,3,4]),(1,[4])]
def qWay_at (f1 f2 f3 f4 f5 f6 f7 f8:Bool) (x1 y1 x2 y2:Rat) (Q:AV->Heap->Prop):Prop:=Wp M1 (.run fi93 (atC (cd Try.f93) []) [(0,.agg [.bool (O.Zaa x1.num),.vec f1 1 ((O.Zae x1.num).map (.int .u32)),.bool (O.Zaa (x1.den:Int)),.vec f2 1 ((O.Zae (x1.den:Int)).map (.int .u32)),.bool (O.Zaa y1.num),.vec f3 1 ((O.Zae y1.num).map (.int .u32)),.bool (O.Zaa (y1.den:Int)),.vec f4 1 ((O.Zae (y1.den:Int)).map (.int .u32))]),(1,.agg [.bool (O.Zaa x2.num),.vec f5 1 ((O.Zae x2.num).map (.int .u32)),.bool (O.Zaa (x2.den:Int)),.vec f6 1 ((O.Zae (x2.den:Int)).map (.int .u32)),.bool (O.Zaa y2.num),.vec f7 1 ((O.Zae y2.num).map (.int .u32)),.bool (O.Zaa (y2.den:Int)),.vec f8 1 ((O.Zae (y2.den:Int)).map (.int .u32))])] []) Q
def qDot_at (f1 f2 f3 f4 f5 f6 f7 f8:Bool) (x1 y1 x2 y2:Rat) (Q:AV->Heap->Prop):Prop:=Wp M1 (.run fi95 (atC (cd Try.f95) []) [(0,.agg [.bool (O.Zaa x1.num),.vec f1 1 ((O.Zae x1.num).map (.int .u32)),.bool (O.Zaa (x1.den:Int)),.vec f2 1 ((O.Zae (x1.den:Int)).map (.int .u32)),.bool (O.Zaa y1.num),.vec f3 1 ((O.Zae y1.num).map (.int .u32)),.bool (O.Zaa (y1.den:Int)),.vec f4 1 ((O.Zae (y1.den:Int)).map (.int .u32))]),(1,.agg [.bool (O.Zaa x2.num),.vec f5 1 ((O.Zae x2.num).map (.int .u32)),.bool (O.Zaa (x2.den:Int)),.vec f6 1 ((O.Zae (x2.den:Int)).map (.int .u32)),.bool (O.Zaa y2.num),.vec f7 1 ((O.Zae y2.num).map (.int .u32)),.bool (O.Zaa (y2.den:Int)),.vec f8 1 ((O.Zae (y2.den:Int)).map (.int .u32))])] []) Q
def qCross_at (f1 f2 f3 f4 f5 f6 f7 f8:Bool) (x1 y1 x2 y2:Rat) (Q:AV->Heap->Prop):Prop:=Wp M1 (.run fi94 (atC (cd Try.f94) []) [(0,.agg [.bool (O.Zaa x1.num),.vec f1 1 ((O.Zae x1.num).map (.int .u32)),.bool (O.Zaa (x1.den:Int)),.vec f2 1 ((O.Zae (x1.den:Int)).map (.int .u32)),.bool (O.Zaa y1.num),.vec f3 1 ((O.Zae y1.num).map (.int .u32)),.bool (O.Zaa (y1.den:Int)),.vec f4 1 ((O.Zae (y1.den:Int)).map (.int .u32))]),(1,.agg [.bool (O.Zaa x2.num),.vec f5 1 ((O.Zae x2.num).map (.int .u32)),.bool (O.Zaa (x2.den:Int)),.vec f6 1 ((O.Zae (x2.den:Int)).map (.int .u32)),.bool (O.Zaa y2.num),.vec f7 1 ((O.Zae y2.num).map (.int .u32)),.bool (O.Zaa (y2.den:Int)),.vec f8 1 ((O.Zae (y2.den:Int)).map (.int .u32))])] []) Q
theorem call93 {args:List AV} {d:AV} (h:wc M1 fi93 Try.f93 args d):Ev M1 (.pure 93 args) d []:=pcl _ _ (by kernel_rfl) h
theorem call94 {args:List AV} {d:AV} (h:wc M1 fi94 Try.f94 args d):Ev M1 (.pure 94 args) d []:=pcl _ _ (by kernel_rfl) h
theorem call95 {args:List AV} {d:AV} (h:wc M1 fi95 Try.f95 args d):Ev M1 (.pure 95 args) d []:=pcl _ _ (by kernel_rfl) h
theorem qWay (f1 f2 f3 f4 f5 f6 f7 f8:Bool) (x1 y1 x2 y2:Rat)  (dq:AV) (H :
  (O.okR x2/\O.okR x1) /\
  (O.okR y2/\O.okR y1) /\
  Weak (ag [vb (O.Zaa (x2-x1).num),vf (us (O.Zae (x2-x1).num)),vb (O.Zaa (↑(x2-x1).den:Int)),vf (us (O.Zae (↑(x2-x1).den:Int))),vb (O.Zaa (y2-y1).num),vf (us (O.Zae (y2-y1).num)),vb (O.Zaa (↑(y2-y1).den:Int)),vf (us (O.Zae (↑(y2-y1).den:Int)))]) dq) :
 qWay_at f1 f2 f3 f4 f5 f6 f7 f8 x1 y1 x2 y2 (Zaf dq):=by
 unfold qWay_at
 obtain ⟨k1,k2,H⟩:=H
 exact Zan (G:=Zad kp93 [(1,4,.call (ratF (x2-x1)) none),(1,9,.call (ratF (y2-y1)) none)] []) 1000 [] (ag [vb (O.Zaa (x2-x1).num),vf (us (O.Zae (x2-x1).num)),vb (O.Zaa (↑(x2-x1).den:Int)),vf (us (O.Zae (↑(x2-x1).den:Int))),vb (O.Zaa (y2-y1).num),vf (us (O.Zae (y2-y1).num)),vb (O.Zaa (↑(y2-y1).den:Int)),vf (us (O.Zae (↑(y2-y1).den:Int)))]) (by kernel_rfl) (bc rfl (bc rfl (bc rfl (bc rfl (bc rfl b0))))) q0 (ce (@ev102 f5 f6 f1 f2 x2 x1 k1) (ce (@ev102 f7 f8 f3 f4 y2 y1 k2) c0)) H
theorem qDot (f1 f2 f3 f4 f5 f6 f7 f8:Bool) (x1 y1 x2 y2:Rat)  (dq:AV) (H :
  (O.okR x1/\O.okR x2) /\
  (O.okR y1/\O.okR y2) /\
  (O.okR (x1*x2)/\O.okR (y1*y2)) /\
  Weak (ratF (x1*x2+y1*y2)) dq) :
 qDot_at f1 f2 f3 f4 f5 f6 f7 f8 x1 y1 x2 y2 (Zaf dq):=by
 unfold qDot_at
 obtain ⟨k1,k2,k3,H⟩:=H
 exact Zan (G:=Zad kp95 [(1,4,.call (ratF (x1*x2)) none),(1,9,.call (ratF (y1*y2)) none),(1,10,.call (ratF (x1*x2+y1*y2)) none)] []) 1000 [] (ratF (x1*x2+y1*y2)) (by kernel_rfl) (bc rfl (bc rfl (bc rfl (bc rfl (bc rfl b0))))) q0 (ce (@ev97 f1 f2 f5 f6 x1 x2 k1) (ce (@ev97 f3 f4 f7 f8 y1 y2 k2) (ce (@ev103 false false false false (x1*x2) (y1*y2) k3) c0))) H
theorem qCross (f1 f2 f3 f4 f5 f6 f7 f8:Bool) (x1 y1 x2 y2:Rat)  (dq:AV) (H :
  (O.okR x1/\O.okR y2) /\
  (O.okR y1/\O.okR x2) /\
  (O.okR (x1*y2)/\O.okR (y1*x2)) /\
  Weak (ratF (x1*y2-y1*x2)) dq) :
 qCross_at f1 f2 f3 f4 f5 f6 f7 f8 x1 y1 x2 y2 (Zaf dq):=by
 unfold qCross_at
 obtain ⟨k1,k2,k3,H⟩:=H
 exact Zan (G:=Zad kp94 [(1,4,.call (ratF (x1*y2)) none),(1,9,.call (ratF (y1*x2)) none),(1,10,.call (ratF (x1*y2-y1*x2)) none)] []) 1000 [] (ratF (x1*y2-y1*x2)) (by kernel_rfl) (bc rfl (bc rfl (bc rfl (bc rfl (bc rfl b0))))) q0 (ce (@ev97 f1 f2 f7 f8 x1 y2 k1) (ce (@ev97 f3 f4 f5 f6 y1 x2 k2) (ce (@ev102 false false false false (x1*y2) (y1*x2) k3) c0))) H
end Go.Av

namespace Go.Av
open Go.Proofs
namespace O
def okW (x1 y1 x2 y2:Rat):Prop:=(okT 100 x1/\okT 100 y1)/\okT 100 x2/\okT 100 y2
def okD (x1 y1 x2 y2:Rat):Prop:=(okT 1000 x1/\okT 1000 y1)/\okT 1000 x2/\okT 1000 y2
end O
theorem ev93 (f1 f2 f3 f4 f5 f6 f7 f8:Bool) (x1 y1 x2 y2:Rat) (h:O.okW x1 y1 x2 y2):Ev M1 (.pure 93 [vecA f1 f2 f3 f4 x1 y1,vecA f5 f6 f7 f8 x2 y2]) (vecA false false false false (x2-x1) (y2-y1)) []:=by
 obtain ⟨⟨h1,h2⟩,h3,h4⟩:=h
 exact call93 (qWay _ _ _ _ _ _ _ _ _ _ _ _ _ ⟨⟨Zb0 h3 (by omega),Zb0 h1 (by omega)⟩,⟨Zb0 h4 (by omega),Zb0 h2 (by omega)⟩,.refl _⟩)
theorem ev95 (f1 f2 f3 f4 f5 f6 f7 f8:Bool) (x1 y1 x2 y2:Rat) (h:O.okD x1 y1 x2 y2):Ev M1 (.pure 95 [vecA f1 f2 f3 f4 x1 y1,vecA f5 f6 f7 f8 x2 y2]) (ratF (x1*x2+y1*y2)) []:=by
 obtain ⟨⟨h1,h2⟩,h3,h4⟩:=h
 exact call95 (qDot _ _ _ _ _ _ _ _ _ _ _ _ _ ⟨⟨Zb0 h1 (by omega),Zb0 h3 (by omega)⟩,⟨Zb0 h2 (by omega),Zb0 h4 (by omega)⟩,⟨Zb0 (Zcf h1 h3) (by omega),Zb0 (Zcf h2 h4) (by omega)⟩,.refl _⟩)
theorem ev94 (f1 f2 f3 f4 f5 f6 f7 f8:Bool) (x1 y1 x2 y2:Rat) (h:O.okD x1 y1 x2 y2):Ev M1 (.pure 94 [vecA f1 f2 f3 f4 x1 y1,vecA f5 f6 f7 f8 x2 y2]) (ratF (x1*y2-y1*x2)) []:=by
 obtain ⟨⟨h1,h2⟩,h3,h4⟩:=h
 exact call94 (qCross _ _ _ _ _ _ _ _ _ _ _ _ _ ⟨⟨Zb0 h1 (by omega),Zb0 h4 (by omega)⟩,⟨Zb0 h2 (by omega),Zb0 h3 (by omega)⟩,⟨Zb0 (Zcf h1 h4) (by omega),Zb0 (Zcf h2 h3) (by omega)⟩,.refl _⟩)
end Go.Av

namespace Go.Av
open Go.Proofs
set_option maxRecDepth 100000
def fi81:Fi:=⟨47,[.tmp 8]⟩
def kp81:List (Nat × List Nat):=[(0,[4,5,6,7]),(1,[4,5,6,7,9,10]),(2,[8])]
def fi82:Fi:=⟨51,[.cell 6 110]⟩
def kp82:List (Nat × List Nat):=[(0,[3,4,5,6]),(1,[4,5,6,7,8]),(2,[4,5,6,7,8,9,10]),(3,[4,5,6,7,8,9,10,25]),(4,[6]),(5,[4,5,6,7,8,9,32]),(6,[6,11]),(7,[6]),(8,[6,9,12]),(9,[6])]
def qToS_at (f1 f2 f3 f4 f5 f6 f7 f8 f9 f10 f11 f12:Bool) (x1 y1 x2 y2 x3 y3:Rat) (Q:AV->Heap->Prop):Prop:=Wp M1 (.run fi82 (atC (cd Try.f82) []) [(0,.agg [.bool (O.Zaa x1.num),.vec f1 1 ((O.Zae x1.num).map (.int .u32)),.bool (O.Zaa (x1.den:Int)),.vec f2 1 ((O.Zae (x1.den:Int)).map (.int .u32)),.bool (O.Zaa y1.num),.vec f3 1 ((O.Zae y1.num).map (.int .u32)),.bool (O.Zaa (y1.den:Int)),.vec f4 1 ((O.Zae (y1.den:Int)).map (.int .u32))]),(1,.agg [.bool (O.Zaa x2.num),.vec f5 1 ((O.Zae x2.num).map (.int .u32)),.bool (O.Zaa (x2.den:Int)),.vec f6 1 ((O.Zae (x2.den:Int)).map (.int .u32)),.bool (O.Zaa y2.num),.vec f7 1 ((O.Zae y2.num).map (.int .u32)),.bool (O.Zaa (y2.den:Int)),.vec f8 1 ((O.Zae (y2.den:Int)).map (.int .u32))]),(2,.agg [.bool (O.Zaa x3.num),.vec f9 1 ((O.Zae x3.num).map (.int .u32)),.bool (O.Zaa (x3.den:Int)),.vec f10 1 ((O.Zae (x3.den:Int)).map (.int .u32)),.bool (O.Zaa y3.num),.vec f11 1 ((O.Zae y3.num).map (.int .u32)),.bool (O.Zaa (y3.den:Int)),.vec f12 1 ((O.Zae (y3.den:Int)).map (.int .u32))])] []) Q
def qCrs_at (f1 f2 f3 f4 f5 f6 f7 f8 f9 f10 f11 f12 f13 f14 f15 f16:Bool) (x1 y1 x2 y2 x3 y3 x4 y4:Rat) (Q:AV->Heap->Prop):Prop:=Wp M1 (.run fi81 (atC (cd Try.f81) []) [(0,.agg [.bool (O.Zaa x1.num),.vec f1 1 ((O.Zae x1.num).map (.int .u32)),.bool (O.Zaa (x1.den:Int)),.vec f2 1 ((O.Zae (x1.den:Int)).map (.int .u32)),.bool (O.Zaa y1.num),.vec f3 1 ((O.Zae y1.num).map (.int .u32)),.bool (O.Zaa (y1.den:Int)),.vec f4 1 ((O.Zae (y1.den:Int)).map (.int .u32))]),(1,.agg [.bool (O.Zaa x2.num),.vec f5 1 ((O.Zae x2.num).map (.int .u32)),.bool (O.Zaa (x2.den:Int)),.vec f6 1 ((O.Zae (x2.den:Int)).map (.int .u32)),.bool (O.Zaa y2.num),.vec f7 1 ((O.Zae y2.num).map (.int .u32)),.bool (O.Zaa (y2.den:Int)),.vec f8 1 ((O.Zae (y2.den:Int)).map (.int .u32))]),(2,.agg [.bool (O.Zaa x3.num),.vec f9 1 ((O.Zae x3.num).map (.int .u32)),.bool (O.Zaa (x3.den:Int)),.vec f10 1 ((O.Zae (x3.den:Int)).map (.int .u32)),.bool (O.Zaa y3.num),.vec f11 1 ((O.Zae y3.num).map (.int .u32)),.bool (O.Zaa (y3.den:Int)),.vec f12 1 ((O.Zae (y3.den:Int)).map (.int .u32))]),(3,.agg [.bool (O.Zaa x4.num),.vec f13 1 ((O.Zae x4.num).map (.int .u32)),.bool (O.Zaa (x4.den:Int)),.vec f14 1 ((O.Zae (x4.den:Int)).map (.int .u32)),.bool (O.Zaa y4.num),.vec f15 1 ((O.Zae y4.num).map (.int .u32)),.bool (O.Zaa (y4.den:Int)),.vec f16 1 ((O.Zae (y4.den:Int)).map (.int .u32))])] []) Q
theorem call81 {args:List AV} {d:AV} (h:wc M1 fi81 Try.f81 args d):Ev M1 (.pure 81 args) d []:=pcl _ _ (by kernel_rfl) h
theorem call82 {args:List AV} {d:AV} (h:wc M1 fi82 Try.f82 args d):Ev M1 (.pure 82 args) d []:=pcl _ _ (by kernel_rfl) h
noncomputable abbrev ZeU (x2:Rat) (x1:Rat) (y2:Rat) (y1:Rat):=ag [vb (O.Zaa (x2-x1).num),vf (us (O.Zae (x2-x1).num)),vb (O.Zaa (↑(x2-x1).den:Int)),vf (us (O.Zae (↑(x2-x1).den:Int))),vb (O.Zaa (y2-y1).num),vf (us (O.Zae (y2-y1).num)),vb (O.Zaa (↑(y2-y1).den:Int)),vf (us (O.Zae (↑(y2-y1).den:Int)))]
noncomputable abbrev zNqM2 (x3:Rat) (x1:Rat) (y3:Rat) (y1:Rat):=ag [vb (O.Zaa (x3-x1).num),vf (us (O.Zae (x3-x1).num)),vb (O.Zaa (↑(x3-x1).den:Int)),vf (us (O.Zae (↑(x3-x1).den:Int))),vb (O.Zaa (y3-y1).num),vf (us (O.Zae (y3-y1).num)),vb (O.Zaa (↑(y3-y1).den:Int)),vf (us (O.Zae (↑(y3-y1).den:Int)))]
noncomputable abbrev zNqM3 (x1:Rat) (f1:Bool) (f2:Bool) (y1:Rat) (f3:Bool) (f4:Bool):=ag [vb (O.Zaa x1.num),AV.vec f1 1 (us (O.Zae x1.num)),vb (O.Zaa (↑x1.den:Int)),AV.vec f2 1 (us (O.Zae (↑x1.den:Int))),vb (O.Zaa y1.num),AV.vec f3 1 (us (O.Zae y1.num)),vb (O.Zaa (↑y1.den:Int)),AV.vec f4 1 (us (O.Zae (↑y1.den:Int)))]
noncomputable abbrev zNqM4 (x2:Rat) (f5:Bool) (f6:Bool) (y2:Rat) (f7:Bool) (f8:Bool):=ag [vb (O.Zaa x2.num),AV.vec f5 1 (us (O.Zae x2.num)),vb (O.Zaa (↑x2.den:Int)),AV.vec f6 1 (us (O.Zae (↑x2.den:Int))),vb (O.Zaa y2.num),AV.vec f7 1 (us (O.Zae y2.num)),vb (O.Zaa (↑y2.den:Int)),AV.vec f8 1 (us (O.Zae (↑y2.den:Int)))]
noncomputable abbrev zNqM5 (x3:Rat) (f9:Bool) (f10:Bool) (y3:Rat) (f11:Bool) (f12:Bool):=ag [vb (O.Zaa x3.num),AV.vec f9 1 (us (O.Zae x3.num)),vb (O.Zaa (↑x3.den:Int)),AV.vec f10 1 (us (O.Zae (↑x3.den:Int))),vb (O.Zaa y3.num),AV.vec f11 1 (us (O.Zae y3.num)),vb (O.Zaa (↑y3.den:Int)),AV.vec f12 1 (us (O.Zae (↑y3.den:Int)))]
noncomputable abbrev zNqM6:=ag [vb false,AV.vnil,vb false,AV.vnil]
noncomputable abbrev zNqM7 (x2:Rat) (x1:Rat) (x3:Rat) (y2:Rat) (y1:Rat) (y3:Rat):=O.sgnI (((x2-x1)*(x3-x1)+(y2-y1)*(y3-y1)).num*(↑((x2-x1)*(x2-x1)+(y2-y1)*(y2-y1)).den:Int)-((x2-x1)*(x2-x1)+(y2-y1)*(y2-y1)).num*(↑((x2-x1)*(x3-x1)+(y2-y1)*(y3-y1)).den:Int))>=0
theorem qToS (f1 f2 f3 f4 f5 f6 f7 f8 f9 f10 f11 f12:Bool) (x1 y1 x2 y2 x3 y3:Rat)  (dq:AV) (H :
  (O.okW x1 y1 x2 y2) /\
  (O.okW x1 y1 x3 y3) /\
  (O.okD (x2-x1) (y2-y1) (x2-x1) (y2-y1)) /\
  (O.okD (x2-x1) (y2-y1) (x3-x1) (y3-y1)) /\
  ((O.sgnI ((x2-x1)*(x3-x1)+(y2-y1)*(y3-y1)).num<=0)->(O.okD (x3-x1) (y3-y1) (x3-x1) (y3-y1)) /\
   Weak (ratF ((x3-x1)*(x3-x1)+(y3-y1)*(y3-y1))) dq) /\
  (¬(O.sgnI ((x2-x1)*(x3-x1)+(y2-y1)*(y3-y1)).num<=0)->(O.okR ((x2-x1)*(x3-x1)+(y2-y1)*(y3-y1))/\O.okR ((x2-x1)*(x2-x1)+(y2-y1)*(y2-y1))) /\
   ((O.sgnI (((x2-x1)*(x3-x1)+(y2-y1)*(y3-y1)).num*(↑((x2-x1)*(x2-x1)+(y2-y1)*(y2-y1)).den:Int)-((x2-x1)*(x2-x1)+(y2-y1)*(y2-y1)).num*(↑((x2-x1)*(x3-x1)+(y2-y1)*(y3-y1)).den:Int))>=0)->(O.okW x2 y2 x3 y3) /\
    (O.okD (x3-x2) (y3-y2) (x3-x2) (y3-y2)) /\
    Weak (ratF ((x3-x2)*(x3-x2)+(y3-y2)*(y3-y2))) dq) /\
   (¬(O.sgnI (((x2-x1)*(x3-x1)+(y2-y1)*(y3-y1)).num*(↑((x2-x1)*(x2-x1)+(y2-y1)*(y2-y1)).den:Int)-((x2-x1)*(x2-x1)+(y2-y1)*(y2-y1)).num*(↑((x2-x1)*(x3-x1)+(y2-y1)*(y3-y1)).den:Int))>=0)->(O.okR ((x2-x1)*(y3-y1)-(y2-y1)*(x3-x1))/\O.okR ((x2-x1)*(y3-y1)-(y2-y1)*(x3-x1))) /\
    (O.okR (((x2-x1)*(y3-y1)-(y2-y1)*(x3-x1))*((x2-x1)*(y3-y1)-(y2-y1)*(x3-x1)))/\O.okR ((x2-x1)*(x2-x1)+(y2-y1)*(y2-y1))/\((x2-x1)*(x2-x1)+(y2-y1)*(y2-y1)).num ≠ 0) /\
    Weak (ratF (((x2-x1)*(y3-y1)-(y2-y1)*(x3-x1))*((x2-x1)*(y3-y1)-(y2-y1)*(x3-x1)) / ((x2-x1)*(x2-x1)+(y2-y1)*(y2-y1)))) dq))) :
 qToS_at f1 f2 f3 f4 f5 f6 f7 f8 f9 f10 f11 f12 x1 y1 x2 y2 x3 y3 (Zaf dq):=by
 unfold qToS_at
 obtain ⟨k1,k2,H⟩:=H
 refine Zac (G:=Zad kp82 [(1,2,.call ((ZeU x2 x1 y2 y1)) none),(1,5,.call ((zNqM2 x3 x1 y3 y1)) none)] []) 3 [] ⟨(atC (cd Try.f82) [1,0]),[(3,AV.ptr 0 0 0 0),(4,AV.ptr 1 0 0 0),(5,AV.ptr 2 0 0 0),(6,AV.ptr 3 0 0 0)],[⟨[(zNqM3 x1 f1 f2 y1 f3 f4)],8,0,false,false⟩,⟨[(zNqM4 x2 f5 f6 y2 f7 f8)],8,0,false,false⟩,⟨[(zNqM5 x3 f9 f10 y3 f11 f12)],8,0,false,false⟩,⟨[zNqM6],4,0,false,false⟩],_,[],_⟩ (by kernel_rfl) b0 q0 c0 (Zd3 (G:=Zad kp82 [(1,2,.call ((ZeU x2 x1 y2 y1)) none),(1,5,.call ((zNqM2 x3 x1 y3 y1)) none)] []) [0,1,2,3,5,4] 6 (e1:=[(4,AV.ptr 1 0 0 0),(5,AV.ptr 2 0 0 0),(6,AV.ptr 3 0 0 0),(7,AV.ptr 4 0 0 0),(8,AV.ptr 5 0 0 0)]) (L1:=[⟨[(zNqM3 x1 f1 f2 y1 f3 f4)],8,0,false,false⟩,⟨[(zNqM4 x2 f5 f6 y2 f7 f8)],8,0,false,false⟩,⟨[(zNqM5 x3 f9 f10 y3 f11 f12)],8,0,false,false⟩,⟨[zNqM6],4,0,false,false⟩,⟨[(ZeU x2 x1 y2 y1)],8,0,false,false⟩,⟨[(zNqM2 x3 x1 y3 y1)],8,0,false,false⟩]) (a:=[true,true,true,true,true,true]) (q:=[]) (cs:=[⟨true,false,93,[(zNqM3 x1 f1 f2 y1 f3 f4),(zNqM4 x2 f5 f6 y2 f7 f8)],[],(ZeU x2 x1 y2 y1),[]⟩,⟨true,false,93,[(zNqM3 x1 f1 f2 y1 f3 f4),(zNqM5 x3 f9 f10 y3 f11 f12)],[],(zNqM2 x3 x1 y3 y1),[]⟩]) (by kernel_rfl) (by kernel_rfl) (Zag rfl (Zag rfl (Zag rfl (Zag rfl (Zag rfl (Zag rfl ZaA)))))) ZaQ (ZaI (fun _=>(@ev93 f1 f2 f3 f4 f5 f6 f7 f8 x1 y1 x2 y2 k1)) (ZaI (fun _=>(@ev93 f1 f2 f3 f4 f9 f10 f11 f12 x1 y1 x3 y3 k2)) ZaR)) ?_)
 obtain ⟨k3,k4,H⟩:=H
 refine Zac (G:=Zad kp82 [(2,2,.call (ratF ((x2-x1)*(x2-x1)+(y2-y1)*(y2-y1))) none),(2,5,.call (ratF ((x2-x1)*(x3-x1)+(y2-y1)*(y3-y1))) none)] []) 1 [] ⟨(atC (cd Try.f82) [1,1,0]),[(4,AV.ptr 1 0 0 0),(5,AV.ptr 2 0 0 0),(6,AV.ptr 3 0 0 0),(7,AV.ptr 4 0 0 0),(8,AV.ptr 5 0 0 0)],[⟨[(zNqM3 x1 f1 f2 y1 f3 f4)],8,0,false,false⟩,⟨[(zNqM4 x2 f5 f6 y2 f7 f8)],8,0,false,false⟩,⟨[(zNqM5 x3 f9 f10 y3 f11 f12)],8,0,false,false⟩,⟨[zNqM6],4,0,false,false⟩,⟨[(ZeU x2 x1 y2 y1)],8,0,false,false⟩,⟨[(zNqM2 x3 x1 y3 y1)],8,0,false,false⟩],_,[],_⟩ (by kernel_rfl) b0 q0 c0 (Zd3 (G:=Zad kp82 [(2,2,.call (ratF ((x2-x1)*(x2-x1)+(y2-y1)*(y2-y1))) none),(2,5,.call (ratF ((x2-x1)*(x3-x1)+(y2-y1)*(y3-y1))) none)] []) [0,1,2,3,4,5,7,6] 6 (e1:=[(4,AV.ptr 1 0 0 0),(5,AV.ptr 2 0 0 0),(6,AV.ptr 3 0 0 0),(7,AV.ptr 4 0 0 0),(8,AV.ptr 5 0 0 0),(9,AV.ptr 6 0 0 0),(10,AV.ptr 7 0 0 0)]) (L1:=[⟨[(zNqM3 x1 f1 f2 y1 f3 f4)],8,0,false,false⟩,⟨[(zNqM4 x2 f5 f6 y2 f7 f8)],8,0,false,false⟩,⟨[(zNqM5 x3 f9 f10 y3 f11 f12)],8,0,false,false⟩,⟨[zNqM6],4,0,false,false⟩,⟨[(ZeU x2 x1 y2 y1)],8,0,false,false⟩,⟨[(zNqM2 x3 x1 y3 y1)],8,0,false,false⟩,⟨[ratF ((x2-x1)*(x2-x1)+(y2-y1)*(y2-y1))],4,0,false,false⟩,⟨[ratF ((x2-x1)*(x3-x1)+(y2-y1)*(y3-y1))],4,0,false,false⟩]) (a:=[true,true,true,true,true,true]) (q:=[]) (cs:=[⟨true,false,95,[(ZeU x2 x1 y2 y1),(ZeU x2 x1 y2 y1)],[],ratF ((x2-x1)*(x2-x1)+(y2-y1)*(y2-y1)),[]⟩,⟨true,false,95,[(ZeU x2 x1 y2 y1),(zNqM2 x3 x1 y3 y1)],[],ratF ((x2-x1)*(x3-x1)+(y2-y1)*(y3-y1)),[]⟩]) (by kernel_rfl) (by kernel_rfl) (Zag rfl (Zag rfl (Zag rfl (Zag rfl (Zag rfl (Zag rfl ZaA)))))) ZaQ (ZaI (fun _=>(@ev95 false false false false false false false false (x2-x1) (y2-y1) (x2-x1) (y2-y1) k3)) (ZaI (fun _=>(@ev95 false false false false false false false false (x2-x1) (y2-y1) (x3-x1) (y3-y1) k4)) ZaR)) ?_)
 refine Zac (G:=Zad kp82 [(3,1,.call (vi (O.sgnI ((x2-x1)*(x3-x1)+(y2-y1)*(y3-y1)).num)) none)] []) 4 [] ⟨(atC (cd Try.f82) [1,1,1,0,0,1]),[(4,AV.ptr 1 0 0 0),(5,AV.ptr 2 0 0 0),(6,AV.ptr 3 0 0 0),(7,AV.ptr 4 0 0 0),(8,AV.ptr 5 0 0 0),(9,AV.ptr 6 0 0 0),(10,AV.ptr 7 0 0 0),(25,vb (decide (O.sgnI ((x2-x1)*(x3-x1)+(y2-y1)*(y3-y1)).num<=0)))],[⟨[(zNqM3 x1 f1 f2 y1 f3 f4)],8,0,false,false⟩,⟨[(zNqM4 x2 f5 f6 y2 f7 f8)],8,0,false,false⟩,⟨[(zNqM5 x3 f9 f10 y3 f11 f12)],8,0,false,false⟩,⟨[zNqM6],4,0,false,false⟩,⟨[(ZeU x2 x1 y2 y1)],8,0,false,false⟩,⟨[(zNqM2 x3 x1 y3 y1)],8,0,false,false⟩,⟨[ratF ((x2-x1)*(x2-x1)+(y2-y1)*(y2-y1))],4,0,false,false⟩,⟨[ratF ((x2-x1)*(x3-x1)+(y2-y1)*(y3-y1))],4,0,false,false⟩],_,[],_⟩ (by kernel_rfl) (bc rfl b0) q0 (ce (@ev79 false false (((x2-x1)*(x3-x1)+(y2-y1)*(y3-y1)).num) ((↑((x2-x1)*(x3-x1)+(y2-y1)*(y3-y1)).den:Int))) c0) ?_
 rcases xq H with ⟨d6,H⟩|⟨d6,H⟩
 ·obtain ⟨k7,H⟩:=H
  exact Zan (G:=Zad kp82 [(4,2,.call (ratF ((x3-x1)*(x3-x1)+(y3-y1)*(y3-y1))) none)] []) 1000 [true] (ratF ((x3-x1)*(x3-x1)+(y3-y1)*(y3-y1))) (by kernel_rfl) (bc (Zao (Zab.2 d6)) (bc rfl (bc rfl (bc rfl b0)))) q0 (ce (@ev95 false false false false false false false false (x3-x1) (y3-y1) (x3-x1) (y3-y1) k7) c0) H
 ·obtain ⟨k8,H⟩:=H
  refine Zac (G:=Zad kp82 [(5,2,.call (vi (O.sgnI (((x2-x1)*(x3-x1)+(y2-y1)*(y3-y1)).num*(↑((x2-x1)*(x2-x1)+(y2-y1)*(y2-y1)).den:Int)-((x2-x1)*(x2-x1)+(y2-y1)*(y2-y1)).num*(↑((x2-x1)*(x3-x1)+(y2-y1)*(y3-y1)).den:Int)))) none)] []) 3 [false] ⟨(atC (cd Try.f82) [1,1,1,0,0,1,1,1]),[(4,AV.ptr 1 0 0 0),(5,AV.ptr 2 0 0 0),(6,AV.ptr 3 0 0 0),(7,AV.ptr 4 0 0 0),(8,AV.ptr 5 0 0 0),(9,AV.ptr 6 0 0 0),(32,vb (decide (zNqM7 x2 x1 x3 y2 y1 y3)))],[⟨[(zNqM3 x1 f1 f2 y1 f3 f4)],8,0,false,false⟩,⟨[(zNqM4 x2 f5 f6 y2 f7 f8)],8,0,false,false⟩,⟨[(zNqM5 x3 f9 f10 y3 f11 f12)],8,0,false,false⟩,⟨[zNqM6],4,0,false,false⟩,⟨[(ZeU x2 x1 y2 y1)],8,0,false,false⟩,⟨[(zNqM2 x3 x1 y3 y1)],8,0,false,false⟩,⟨[ratF ((x2-x1)*(x2-x1)+(y2-y1)*(y2-y1))],4,0,false,false⟩,⟨[ratF ((x2-x1)*(x3-x1)+(y2-y1)*(y3-y1))],4,0,false,false⟩],_,[],_⟩ (by kernel_rfl) (bc (Zaj (fun h=>d6 (Zab.1 h))) (bc rfl (bc rfl b0))) q0 (ce (@ev72 false false false false ((x2-x1)*(x3-x1)+(y2-y1)*(y3-y1)) ((x2-x1)*(x2-x1)+(y2-y1)*(y2-y1)) k8) c0) ?_
  rcases xq H with ⟨d10,H⟩|⟨d10,H⟩
  ·obtain ⟨k11,k12,H⟩:=H
   exact Zan (G:=Zad kp82 [(6,2,.call (ag [vb (O.Zaa (x3-x2).num),vf (us (O.Zae (x3-x2).num)),vb (O.Zaa (↑(x3-x2).den:Int)),vf (us (O.Zae (↑(x3-x2).den:Int))),vb (O.Zaa (y3-y2).num),vf (us (O.Zae (y3-y2).num)),vb (O.Zaa (↑(y3-y2).den:Int)),vf (us (O.Zae (↑(y3-y2).den:Int)))]) none),(7,2,.call (ratF ((x3-x2)*(x3-x2)+(y3-y2)*(y3-y2))) none)] []) 1000 [true] (ratF ((x3-x2)*(x3-x2)+(y3-y2)*(y3-y2))) (by kernel_rfl) (bc (Zao (Zab.2 d10)) (bc rfl (bc rfl (bc rfl (bc rfl (bc rfl (bc rfl b0))))))) q0 (ce (@ev93 f5 f6 f7 f8 f9 f10 f11 f12 x2 y2 x3 y3 k11) (ce (@ev95 false false false false false false false false (x3-x2) (y3-y2) (x3-x2) (y3-y2) k12) c0)) H
  ·obtain ⟨k13,k14,H⟩:=H
   exact Zan (G:=Zad kp82 [(8,2,.call (ratF ((x2-x1)*(y3-y1)-(y2-y1)*(x3-x1))) none),(9,2,.call (ratF (((x2-x1)*(y3-y1)-(y2-y1)*(x3-x1))*((x2-x1)*(y3-y1)-(y2-y1)*(x3-x1)))) none),(9,4,.call (ratF (((x2-x1)*(y3-y1)-(y2-y1)*(x3-x1))*((x2-x1)*(y3-y1)-(y2-y1)*(x3-x1)) / ((x2-x1)*(x2-x1)+(y2-y1)*(y2-y1)))) none)] []) 1000 [false] (ratF (((x2-x1)*(y3-y1)-(y2-y1)*(x3-x1))*((x2-x1)*(y3-y1)-(y2-y1)*(x3-x1)) / ((x2-x1)*(x2-x1)+(y2-y1)*(y2-y1)))) (by kernel_rfl) (bc (Zaj (fun h=>d10 (Zab.1 h))) (bc rfl (bc rfl (bc rfl (bc rfl (bc rfl (bc rfl (bc rfl b0)))))))) q0 (ce (@ev94 false false false false false false false false (x2-x1) (y2-y1) (x3-x1) (y3-y1) k4) (ce (@ev97 false false false false ((x2-x1)*(y3-y1)-(y2-y1)*(x3-x1)) ((x2-x1)*(y3-y1)-(y2-y1)*(x3-x1)) k13) (ce (@ev96 false false false false (((x2-x1)*(y3-y1)-(y2-y1)*(x3-x1))*((x2-x1)*(y3-y1)-(y2-y1)*(x3-x1))) ((x2-x1)*(x2-x1)+(y2-y1)*(y2-y1)) k14) c0))) H
noncomputable abbrev zNqM8 (x4:Rat) (x3:Rat) (y4:Rat) (y3:Rat):=ag [vb (O.Zaa (x4-x3).num),vf (us (O.Zae (x4-x3).num)),vb (O.Zaa (↑(x4-x3).den:Int)),vf (us (O.Zae (↑(x4-x3).den:Int))),vb (O.Zaa (y4-y3).num),vf (us (O.Zae (y4-y3).num)),vb (O.Zaa (↑(y4-y3).den:Int)),vf (us (O.Zae (↑(y4-y3).den:Int)))]
noncomputable abbrev zNqM9 (x3:Rat) (f9:Bool) (f10:Bool) (y3:Rat) (f11:Bool) (f12:Bool):=ag [vb (O.Zaa x3.num),AV.vec f9 1 (us (O.Zae x3.num)),vb (O.Zaa (↑x3.den:Int)),AV.vec f10 1 (us (O.Zae (↑x3.den:Int))),vb (O.Zaa y3.num),AV.vec f11 1 (us (O.Zae y3.num)),vb (O.Zaa (↑y3.den:Int)),AV.vec f12 1 (us (O.Zae (↑y3.den:Int)))]
noncomputable abbrev Zf4 (x2:Rat) (x1:Rat) (y2:Rat) (y1:Rat):=ag [vb (O.Zaa (x2-x1).num),vf (us (O.Zae (x2-x1).num)),vb (O.Zaa (↑(x2-x1).den:Int)),vf (us (O.Zae (↑(x2-x1).den:Int))),vb (O.Zaa (y2-y1).num),vf (us (O.Zae (y2-y1).num)),vb (O.Zaa (↑(y2-y1).den:Int)),vf (us (O.Zae (↑(y2-y1).den:Int)))]
noncomputable abbrev ZeT (x1:Rat) (f1:Bool) (f2:Bool) (y1:Rat) (f3:Bool) (f4:Bool):=ag [vb (O.Zaa x1.num),AV.vec f1 1 (us (O.Zae x1.num)),vb (O.Zaa (↑x1.den:Int)),AV.vec f2 1 (us (O.Zae (↑x1.den:Int))),vb (O.Zaa y1.num),AV.vec f3 1 (us (O.Zae y1.num)),vb (O.Zaa (↑y1.den:Int)),AV.vec f4 1 (us (O.Zae (↑y1.den:Int)))]
noncomputable abbrev zNqM12 (x1:Rat) (x3:Rat) (y1:Rat) (y3:Rat):=ag [vb (O.Zaa (x1-x3).num),vf (us (O.Zae (x1-x3).num)),vb (O.Zaa (↑(x1-x3).den:Int)),vf (us (O.Zae (↑(x1-x3).den:Int))),vb (O.Zaa (y1-y3).num),vf (us (O.Zae (y1-y3).num)),vb (O.Zaa (↑(y1-y3).den:Int)),vf (us (O.Zae (↑(y1-y3).den:Int)))]
noncomputable abbrev zNqM13 (x2:Rat) (x3:Rat) (y2:Rat) (y3:Rat):=ag [vb (O.Zaa (x2-x3).num),vf (us (O.Zae (x2-x3).num)),vb (O.Zaa (↑(x2-x3).den:Int)),vf (us (O.Zae (↑(x2-x3).den:Int))),vb (O.Zaa (y2-y3).num),vf (us (O.Zae (y2-y3).num)),vb (O.Zaa (↑(y2-y3).den:Int)),vf (us (O.Zae (↑(y2-y3).den:Int)))]
noncomputable abbrev zNqM14 (x2:Rat) (f5:Bool) (f6:Bool) (y2:Rat) (f7:Bool) (f8:Bool):=ag [vb (O.Zaa x2.num),AV.vec f5 1 (us (O.Zae x2.num)),vb (O.Zaa (↑x2.den:Int)),AV.vec f6 1 (us (O.Zae (↑x2.den:Int))),vb (O.Zaa y2.num),AV.vec f7 1 (us (O.Zae y2.num)),vb (O.Zaa (↑y2.den:Int)),AV.vec f8 1 (us (O.Zae (↑y2.den:Int)))]
noncomputable abbrev zNqM15 (x4:Rat) (f13:Bool) (f14:Bool) (y4:Rat) (f15:Bool) (f16:Bool):=ag [vb (O.Zaa x4.num),AV.vec f13 1 (us (O.Zae x4.num)),vb (O.Zaa (↑x4.den:Int)),AV.vec f14 1 (us (O.Zae (↑x4.den:Int))),vb (O.Zaa y4.num),AV.vec f15 1 (us (O.Zae y4.num)),vb (O.Zaa (↑y4.den:Int)),AV.vec f16 1 (us (O.Zae (↑y4.den:Int)))]
noncomputable abbrev zNqM16 (x3:Rat) (x1:Rat) (y3:Rat) (y1:Rat):=ag [vb (O.Zaa (x3-x1).num),vf (us (O.Zae (x3-x1).num)),vb (O.Zaa (↑(x3-x1).den:Int)),vf (us (O.Zae (↑(x3-x1).den:Int))),vb (O.Zaa (y3-y1).num),vf (us (O.Zae (y3-y1).num)),vb (O.Zaa (↑(y3-y1).den:Int)),vf (us (O.Zae (↑(y3-y1).den:Int)))]
noncomputable abbrev zNqM17 (x4:Rat) (x1:Rat) (y4:Rat) (y1:Rat):=ag [vb (O.Zaa (x4-x1).num),vf (us (O.Zae (x4-x1).num)),vb (O.Zaa (↑(x4-x1).den:Int)),vf (us (O.Zae (↑(x4-x1).den:Int))),vb (O.Zaa (y4-y1).num),vf (us (O.Zae (y4-y1).num)),vb (O.Zaa (↑(y4-y1).den:Int)),vf (us (O.Zae (↑(y4-y1).den:Int)))]
noncomputable abbrev Zf3 (x2:Rat) (x1:Rat) (y3:Rat) (y1:Rat) (y2:Rat) (x3:Rat) (y4:Rat) (x4:Rat):=O.sgnI ((x2-x1)*(y3-y1)-(y2-y1)*(x3-x1)).num*O.sgnI ((x2-x1)*(y4-y1)-(y2-y1)*(x4-x1)).num<0
theorem qCrs (f1 f2 f3 f4 f5 f6 f7 f8 f9 f10 f11 f12 f13 f14 f15 f16:Bool) (x1 y1 x2 y2 x3 y3 x4 y4:Rat)  (dq:AV) (H :
  (O.okW x1 y1 x2 y2) /\
  (O.okW x3 y3 x4 y4) /\
  (O.okW x1 y1 x3 y3) /\
  (O.okD (x2-x1) (y2-y1) (x3-x1) (y3-y1)) /\
  (O.okW x1 y1 x4 y4) /\
  (O.okD (x2-x1) (y2-y1) (x4-x1) (y4-y1)) /\
  (-9223372036854775808<=O.sgnI ((x2-x1)*(y3-y1)-(y2-y1)*(x3-x1)).num*O.sgnI ((x2-x1)*(y4-y1)-(y2-y1)*(x4-x1)).num/\O.sgnI ((x2-x1)*(y3-y1)-(y2-y1)*(x3-x1)).num*O.sgnI ((x2-x1)*(y4-y1)-(y2-y1)*(x4-x1)).num<=9223372036854775807) /\
  ((O.sgnI ((x2-x1)*(y3-y1)-(y2-y1)*(x3-x1)).num*O.sgnI ((x2-x1)*(y4-y1)-(y2-y1)*(x4-x1)).num<0)->(O.okW x3 y3 x1 y1)) /\
  ((O.sgnI ((x2-x1)*(y3-y1)-(y2-y1)*(x3-x1)).num*O.sgnI ((x2-x1)*(y4-y1)-(y2-y1)*(x4-x1)).num<0)->(O.okD (x4-x3) (y4-y3) (x1-x3) (y1-y3))) /\
  ((O.sgnI ((x2-x1)*(y3-y1)-(y2-y1)*(x3-x1)).num*O.sgnI ((x2-x1)*(y4-y1)-(y2-y1)*(x4-x1)).num<0)->(O.okW x3 y3 x2 y2)) /\
  ((O.sgnI ((x2-x1)*(y3-y1)-(y2-y1)*(x3-x1)).num*O.sgnI ((x2-x1)*(y4-y1)-(y2-y1)*(x4-x1)).num<0)->(O.okD (x4-x3) (y4-y3) (x2-x3) (y2-y3))) /\
  vb (bif decide (O.sgnI ((x2-x1)*(y3-y1)-(y2-y1)*(x3-x1)).num*O.sgnI ((x2-x1)*(y4-y1)-(y2-y1)*(x4-x1)).num<0) then decide (IntKind.i64.wrap (O.sgnI ((x4-x3)*(y1-y3)-(y4-y3)*(x1-x3)).num*O.sgnI ((x4-x3)*(y2-y3)-(y4-y3)*(x2-x3)).num)<0) else false)=dq) :
 qCrs_at f1 f2 f3 f4 f5 f6 f7 f8 f9 f10 f11 f12 f13 f14 f15 f16 x1 y1 x2 y2 x3 y3 x4 y4 (Zaf dq):=by
 unfold qCrs_at
 obtain ⟨k1,k2,H⟩:=H
 refine Zac (G:=Zad kp81 [(1,2,.call ((Zf4 x2 x1 y2 y1)) none),(1,5,.call ((zNqM8 x4 x3 y4 y3)) none)] []) 3 [] ⟨(atC (cd Try.f81) [1,0]),[(4,AV.ptr 0 0 0 0),(5,AV.ptr 1 0 0 0),(6,AV.ptr 2 0 0 0),(7,AV.ptr 3 0 0 0)],[⟨[(ZeT x1 f1 f2 y1 f3 f4)],8,0,false,false⟩,⟨[(zNqM14 x2 f5 f6 y2 f7 f8)],8,0,false,false⟩,⟨[(zNqM9 x3 f9 f10 y3 f11 f12)],8,0,false,false⟩,⟨[(zNqM15 x4 f13 f14 y4 f15 f16)],8,0,false,false⟩],_,[],_⟩ (by kernel_rfl) b0 q0 c0 (Zd3 (G:=Zad kp81 [(1,2,.call ((Zf4 x2 x1 y2 y1)) none),(1,5,.call ((zNqM8 x4 x3 y4 y3)) none)] []) [0,1,2,3,5,4] 6 (e1:=[(4,AV.ptr 0 0 0 0),(5,AV.ptr 1 0 0 0),(6,AV.ptr 2 0 0 0),(7,AV.ptr 3 0 0 0),(9,AV.ptr 4 0 0 0),(10,AV.ptr 5 0 0 0)]) (L1:=[⟨[(ZeT x1 f1 f2 y1 f3 f4)],8,0,false,false⟩,⟨[(zNqM14 x2 f5 f6 y2 f7 f8)],8,0,false,false⟩,⟨[(zNqM9 x3 f9 f10 y3 f11 f12)],8,0,false,false⟩,⟨[(zNqM15 x4 f13 f14 y4 f15 f16)],8,0,false,false⟩,⟨[(Zf4 x2 x1 y2 y1)],8,0,false,false⟩,⟨[(zNqM8 x4 x3 y4 y3)],8,0,false,false⟩]) (a:=[true,true,true,true,true,true]) (q:=[]) (cs:=[⟨true,false,93,[(ZeT x1 f1 f2 y1 f3 f4),(zNqM14 x2 f5 f6 y2 f7 f8)],[],(Zf4 x2 x1 y2 y1),[]⟩,⟨true,false,93,[(zNqM9 x3 f9 f10 y3 f11 f12),(zNqM15 x4 f13 f14 y4 f15 f16)],[],(zNqM8 x4 x3 y4 y3),[]⟩]) (by kernel_rfl) (by kernel_rfl) (Zag rfl (Zag rfl (Zag rfl (Zag rfl (Zag rfl (Zag rfl ZaA)))))) ZaQ (ZaI (fun _=>(@ev93 f1 f2 f3 f4 f5 f6 f7 f8 x1 y1 x2 y2 k1)) (ZaI (fun _=>(@ev93 f9 f10 f11 f12 f13 f14 f15 f16 x3 y3 x4 y4 k2)) ZaR)) ?_)
 obtain ⟨k3,k4,k5,k6,k7,H⟩:=H
 have w8:wi (O.sgnI ((x2-x1)*(y3-y1)-(y2-y1)*(x3-x1)).num*O.sgnI ((x2-x1)*(y4-y1)-(y2-y1)*(x4-x1)).num)=O.sgnI ((x2-x1)*(y3-y1)-(y2-y1)*(x3-x1)).num*O.sgnI ((x2-x1)*(y4-y1)-(y2-y1)*(x4-x1)).num:=wI64 k7
 have i9:(decide (wi (O.sgnI ((x2-x1)*(y3-y1)-(y2-y1)*(x3-x1)).num*O.sgnI ((x2-x1)*(y4-y1)-(y2-y1)*(x4-x1)).num)<0)==true&&true&&true)=true ↔ (Zf3 x2 x1 y3 y1 y2 x3 y4 x4):=(by (try rw [w8]);all_goals exact (i_at (i_at (i_bt Zab))))
 obtain ⟨k10,H⟩:=H
 have i11:(decide (wi (O.sgnI ((x2-x1)*(y3-y1)-(y2-y1)*(x3-x1)).num*O.sgnI ((x2-x1)*(y4-y1)-(y2-y1)*(x4-x1)).num)<0)==true&&true&&true)=true ↔ (Zf3 x2 x1 y3 y1 y2 x3 y4 x4):=(by (try rw [w8]);all_goals exact (i_at (i_at (i_bt Zab))))
 obtain ⟨k12,H⟩:=H
 have i13:(decide (wi (O.sgnI ((x2-x1)*(y3-y1)-(y2-y1)*(x3-x1)).num*O.sgnI ((x2-x1)*(y4-y1)-(y2-y1)*(x4-x1)).num)<0)==true&&true&&true)=true ↔ (Zf3 x2 x1 y3 y1 y2 x3 y4 x4):=(by (try rw [w8]);all_goals exact (i_at (i_at (i_bt Zab))))
 have i14:(decide (wi (O.sgnI ((x2-x1)*(y3-y1)-(y2-y1)*(x3-x1)).num*O.sgnI ((x2-x1)*(y4-y1)-(y2-y1)*(x4-x1)).num)<0)==true&&true&&true)=true ↔ (Zf3 x2 x1 y3 y1 y2 x3 y4 x4):=(by (try rw [w8]);all_goals exact (i_at (i_at (i_bt Zab))))
 obtain ⟨k15,H⟩:=H
 have i16:(decide (wi (O.sgnI ((x2-x1)*(y3-y1)-(y2-y1)*(x3-x1)).num*O.sgnI ((x2-x1)*(y4-y1)-(y2-y1)*(x4-x1)).num)<0)==true&&true&&true)=true ↔ (Zf3 x2 x1 y3 y1 y2 x3 y4 x4):=(by (try rw [w8]);all_goals exact (i_at (i_at (i_bt Zab))))
 obtain ⟨k17,H⟩:=H
 have i18:(decide (wi (O.sgnI ((x2-x1)*(y3-y1)-(y2-y1)*(x3-x1)).num*O.sgnI ((x2-x1)*(y4-y1)-(y2-y1)*(x4-x1)).num)<0)==true&&true&&true)=true ↔ (Zf3 x2 x1 y3 y1 y2 x3 y4 x4):=(by (try rw [w8]);all_goals exact (i_at (i_at (i_bt Zab))))
 exact Zai (G:=Zad kp81 [(2,3,.call ((zNqM16 x3 x1 y3 y1)) none),(2,4,.call (ratF ((x2-x1)*(y3-y1)-(y2-y1)*(x3-x1))) none),(2,5,.call (vi (O.sgnI ((x2-x1)*(y3-y1)-(y2-y1)*(x3-x1)).num)) none),(2,9,.call ((zNqM17 x4 x1 y4 y1)) none),(2,10,.call (ratF ((x2-x1)*(y4-y1)-(y2-y1)*(x4-x1))) none),(2,11,.call (vi (O.sgnI ((x2-x1)*(y4-y1)-(y2-y1)*(x4-x1)).num)) none),(2,18,.call ((zNqM12 x1 x3 y1 y3)) none),(2,19,.call (ratF ((x4-x3)*(y1-y3)-(y4-y3)*(x1-x3))) none),(2,20,.call (vi (O.sgnI ((x4-x3)*(y1-y3)-(y4-y3)*(x1-x3)).num)) none),(2,24,.call ((zNqM13 x2 x3 y2 y3)) none),(2,25,.call (ratF ((x4-x3)*(y2-y3)-(y4-y3)*(x2-x3))) none),(2,26,.call (vi (O.sgnI ((x4-x3)*(y2-y3)-(y4-y3)*(x2-x3)).num)) none)] []) 1000 [] (asm:=[true,true,true,true,true,true,!(decide (wi (O.sgnI ((x2-x1)*(y3-y1)-(y2-y1)*(x3-x1)).num*O.sgnI ((x2-x1)*(y4-y1)-(y2-y1)*(x4-x1)).num)<0)==true&&true)||true,!(decide (wi (O.sgnI ((x2-x1)*(y3-y1)-(y2-y1)*(x3-x1)).num*O.sgnI ((x2-x1)*(y4-y1)-(y2-y1)*(x4-x1)).num)<0)==true&&true)||true,!(decide (wi (O.sgnI ((x2-x1)*(y3-y1)-(y2-y1)*(x3-x1)).num*O.sgnI ((x2-x1)*(y4-y1)-(y2-y1)*(x4-x1)).num)<0)==true&&true)||true,!(decide (wi (O.sgnI ((x2-x1)*(y3-y1)-(y2-y1)*(x3-x1)).num*O.sgnI ((x2-x1)*(y4-y1)-(y2-y1)*(x4-x1)).num)<0)==true&&true)||true,!(decide (wi (O.sgnI ((x2-x1)*(y3-y1)-(y2-y1)*(x3-x1)).num*O.sgnI ((x2-x1)*(y4-y1)-(y2-y1)*(x4-x1)).num)<0)==true&&true)||true,!(decide (wi (O.sgnI ((x2-x1)*(y3-y1)-(y2-y1)*(x3-x1)).num*O.sgnI ((x2-x1)*(y4-y1)-(y2-y1)*(x4-x1)).num)<0)==true&&true)||true]) (calls:=[⟨true,false,93,[(ZeT x1 f1 f2 y1 f3 f4),(zNqM9 x3 f9 f10 y3 f11 f12)],[],(zNqM16 x3 x1 y3 y1),[]⟩,⟨true,false,94,[(Zf4 x2 x1 y2 y1),(zNqM16 x3 x1 y3 y1)],[],ratF ((x2-x1)*(y3-y1)-(y2-y1)*(x3-x1)),[]⟩,⟨true,false,79,[ratF ((x2-x1)*(y3-y1)-(y2-y1)*(x3-x1))],[],vi (O.sgnI ((x2-x1)*(y3-y1)-(y2-y1)*(x3-x1)).num),[]⟩,⟨true,false,93,[(ZeT x1 f1 f2 y1 f3 f4),(zNqM15 x4 f13 f14 y4 f15 f16)],[],(zNqM17 x4 x1 y4 y1),[]⟩,⟨true,false,94,[(Zf4 x2 x1 y2 y1),(zNqM17 x4 x1 y4 y1)],[],ratF ((x2-x1)*(y4-y1)-(y2-y1)*(x4-x1)),[]⟩,⟨true,false,79,[ratF ((x2-x1)*(y4-y1)-(y2-y1)*(x4-x1))],[],vi (O.sgnI ((x2-x1)*(y4-y1)-(y2-y1)*(x4-x1)).num),[]⟩,⟨decide (wi (O.sgnI ((x2-x1)*(y3-y1)-(y2-y1)*(x3-x1)).num*O.sgnI ((x2-x1)*(y4-y1)-(y2-y1)*(x4-x1)).num)<0)==true&&true&&true,false,93,[(zNqM9 x3 f9 f10 y3 f11 f12),(ZeT x1 f1 f2 y1 f3 f4)],[],(zNqM12 x1 x3 y1 y3),[]⟩,⟨decide (wi (O.sgnI ((x2-x1)*(y3-y1)-(y2-y1)*(x3-x1)).num*O.sgnI ((x2-x1)*(y4-y1)-(y2-y1)*(x4-x1)).num)<0)==true&&true&&true,false,94,[(zNqM8 x4 x3 y4 y3),(zNqM12 x1 x3 y1 y3)],[],ratF ((x4-x3)*(y1-y3)-(y4-y3)*(x1-x3)),[]⟩,⟨decide (wi (O.sgnI ((x2-x1)*(y3-y1)-(y2-y1)*(x3-x1)).num*O.sgnI ((x2-x1)*(y4-y1)-(y2-y1)*(x4-x1)).num)<0)==true&&true&&true,false,79,[ratF ((x4-x3)*(y1-y3)-(y4-y3)*(x1-x3))],[],vi (O.sgnI ((x4-x3)*(y1-y3)-(y4-y3)*(x1-x3)).num),[]⟩,⟨decide (wi (O.sgnI ((x2-x1)*(y3-y1)-(y2-y1)*(x3-x1)).num*O.sgnI ((x2-x1)*(y4-y1)-(y2-y1)*(x4-x1)).num)<0)==true&&true&&true,false,93,[(zNqM9 x3 f9 f10 y3 f11 f12),(zNqM14 x2 f5 f6 y2 f7 f8)],[],(zNqM13 x2 x3 y2 y3),[]⟩,⟨decide (wi (O.sgnI ((x2-x1)*(y3-y1)-(y2-y1)*(x3-x1)).num*O.sgnI ((x2-x1)*(y4-y1)-(y2-y1)*(x4-x1)).num)<0)==true&&true&&true,false,94,[(zNqM8 x4 x3 y4 y3),(zNqM13 x2 x3 y2 y3)],[],ratF ((x4-x3)*(y2-y3)-(y4-y3)*(x2-x3)),[]⟩,⟨decide (wi (O.sgnI ((x2-x1)*(y3-y1)-(y2-y1)*(x3-x1)).num*O.sgnI ((x2-x1)*(y4-y1)-(y2-y1)*(x4-x1)).num)<0)==true&&true&&true,false,79,[ratF ((x4-x3)*(y2-y3)-(y4-y3)*(x2-x3))],[],vi (O.sgnI ((x4-x3)*(y2-y3)-(y4-y3)*(x2-x3)).num),[]⟩]) (vb (bif decide (wi (O.sgnI ((x2-x1)*(y3-y1)-(y2-y1)*(x3-x1)).num*O.sgnI ((x2-x1)*(y4-y1)-(y2-y1)*(x4-x1)).num)<0) then decide (wi (O.sgnI ((x4-x3)*(y1-y3)-(y4-y3)*(x1-x3)).num*O.sgnI ((x4-x3)*(y2-y3)-(y4-y3)*(x2-x3)).num)<0) else false)) (by kernel_rfl) (bc rfl (bc rfl (bc rfl (bc rfl (bc rfl (bc rfl (bc (Bool.or_true _) (bc (Bool.or_true _) (bc (Bool.or_true _) (bc (Bool.or_true _) (bc (Bool.or_true _) (bc (Bool.or_true _) b0)))))))))))) q0 (cc (fun _=>(@ev93 f1 f2 f3 f4 f9 f10 f11 f12 x1 y1 x3 y3 k3)) (cc (fun _=>(@ev94 false false false false false false false false (x2-x1) (y2-y1) (x3-x1) (y3-y1) k4)) (cc (fun _=>(@ev79 false false (((x2-x1)*(y3-y1)-(y2-y1)*(x3-x1)).num) ((↑((x2-x1)*(y3-y1)-(y2-y1)*(x3-x1)).den:Int)))) (cc (fun _=>(@ev93 f1 f2 f3 f4 f13 f14 f15 f16 x1 y1 x4 y4 k5)) (cc (fun _=>(@ev94 false false false false false false false false (x2-x1) (y2-y1) (x4-x1) (y4-y1) k6)) (cc (fun _=>(@ev79 false false (((x2-x1)*(y4-y1)-(y2-y1)*(x4-x1)).num) ((↑((x2-x1)*(y4-y1)-(y2-y1)*(x4-x1)).den:Int)))) (cc (fun hc=>((@ev93 f9 f10 f11 f12 f1 f2 f3 f4 x3 y3 x1 y1 (k10 (i9.1 hc))):Ev M1 (Conf.pure 93 [(zNqM9 x3 f9 f10 y3 f11 f12),(ZeT x1 f1 f2 y1 f3 f4)]) ((zNqM12 x1 x3 y1 y3)) [])) (cc (fun hc=>((@ev94 false false false false false false false false (x4-x3) (y4-y3) (x1-x3) (y1-y3) (k12 (i11.1 hc))):Ev M1 (Conf.pure 94 [(zNqM8 x4 x3 y4 y3),(zNqM12 x1 x3 y1 y3)]) (ratF ((x4-x3)*(y1-y3)-(y4-y3)*(x1-x3))) [])) (cc (fun hc=>((@ev79 false false (((x4-x3)*(y1-y3)-(y4-y3)*(x1-x3)).num) ((↑((x4-x3)*(y1-y3)-(y4-y3)*(x1-x3)).den:Int))):Ev M1 (Conf.pure 79 [ratF ((x4-x3)*(y1-y3)-(y4-y3)*(x1-x3))]) (vi (O.sgnI ((x4-x3)*(y1-y3)-(y4-y3)*(x1-x3)).num)) [])) (cc (fun hc=>((@ev93 f9 f10 f11 f12 f5 f6 f7 f8 x3 y3 x2 y2 (k15 (i14.1 hc))):Ev M1 (Conf.pure 93 [(zNqM9 x3 f9 f10 y3 f11 f12),(zNqM14 x2 f5 f6 y2 f7 f8)]) ((zNqM13 x2 x3 y2 y3)) [])) (cc (fun hc=>((@ev94 false false false false false false false false (x4-x3) (y4-y3) (x2-x3) (y2-y3) (k17 (i16.1 hc))):Ev M1 (Conf.pure 94 [(zNqM8 x4 x3 y4 y3),(zNqM13 x2 x3 y2 y3)]) (ratF ((x4-x3)*(y2-y3)-(y4-y3)*(x2-x3))) [])) (cc (fun hc=>((@ev79 false false (((x4-x3)*(y2-y3)-(y4-y3)*(x2-x3)).num) ((↑((x4-x3)*(y2-y3)-(y4-y3)*(x2-x3)).den:Int))):Ev M1 (Conf.pure 79 [ratF ((x4-x3)*(y2-y3)-(y4-y3)*(x2-x3))]) (vi (O.sgnI ((x4-x3)*(y2-y3)-(y4-y3)*(x2-x3)).num)) [])) c0)))))))))))) (by (try rw [w8]);all_goals exact H)
end Go.Av

namespace Go.Av
open Go.Proofs
namespace O
noncomputable def tsg (x1 y1 x2 y2 x3 y3:Rat):Rat:=
 if (x2-x1)*(x3-x1)+(y2-y1)*(y3-y1)<=0 then (x3-x1)*(x3-x1)+(y3-y1)*(y3-y1)
 else if (x2-x1)*(x2-x1)+(y2-y1)*(y2-y1)<=(x2-x1)*(x3-x1)+(y2-y1)*(y3-y1) then (x3-x2)*(x3-x2)+(y3-y2)*(y3-y2)
 else ((x2-x1)*(y3-y1)-(y2-y1)*(x3-x1))*((x2-x1)*(y3-y1)-(y2-y1)*(x3-x1)) / ((x2-x1)*(x2-x1)+(y2-y1)*(y2-y1))
def crs (x1 y1 x2 y2 x3 y3 x4 y4:Rat):Prop:=
 sgnI ((x2-x1)*(y3-y1)-(y2-y1)*(x3-x1)).num*sgnI ((x2-x1)*(y4-y1)-(y2-y1)*(x4-x1)).num<0/\sgnI ((x4-x3)*(y1-y3)-(y4-y3)*(x1-x3)).num*sgnI ((x4-x3)*(y2-y3)-(y4-y3)*(x2-x3)).num<0
def okV (x y:Rat):Prop:=okT 10 x/\okT 10 y
def okV3 (x1 y1 x2 y2 x3 y3:Rat):Prop:=okV x1 y1/\okV x2 y2/\okV x3 y3
def okV4 (x1 y1 x2 y2 x3 y3 x4 y4:Rat):Prop:=okV x1 y1/\okV x2 y2/\okV x3 y3/\okV x4 y4
end O
instance (x1 y1 x2 y2 x3 y3 x4 y4:Rat):Decidable (O.crs x1 y1 x2 y2 x3 y3 x4 y4):=by unfold O.crs;infer_instance
theorem cmp_ge2 {r s:Rat}:O.sgnI (r.num*(s.den:Int)-s.num*(r.den:Int))>=0 ↔ s<=r:=by
 rw [Rat.le_iff]
 generalize r.num*(s.den:Int)=u
 generalize s.num*(r.den:Int)=v
 unfold O.sgnI
 split
 ·omega
 ·split <;> omega
theorem Zcp {r s:Rat}:O.sgnI (r.num*(s.den:Int)-s.num*(r.den:Int))<0 ↔ r<s:=by
 rw [<- Rat.not_le,<- cmp_ge2];omega
theorem sgn_le0 {d:Rat}:O.sgnI d.num<=0 ↔ d<=0:=by
 rw [Rat.le_iff]
 show _ ↔ d.num*(1:Int)<=0*_
 rw [Int.zero_mul,Int.mul_one]
 unfold O.sgnI
 split
 ·omega
 ·split <;> omega
theorem okW_V {x1 y1 x2 y2:Rat} (h:O.okV x1 y1) (k:O.okV x2 y2):O.okW x1 y1 x2 y2:=⟨⟨Zb2 h.1 (by omega),Zb2 h.2 (by omega)⟩,Zb2 k.1 (by omega),Zb2 k.2 (by omega)⟩
theorem okD_V {x1 y1 x2 y2 x3 y3 x4 y4:Rat} (h1:O.okV x1 y1) (h2:O.okV x2 y2) (h3:O.okV x3 y3) (h4:O.okV x4 y4):O.okD (x2-x1) (y2-y1) (x4-x3) (y4-y3):=
 ⟨⟨Zb2 (ZbI h2.1 h1.1) (by omega),Zb2 (ZbI h2.2 h1.2) (by omega)⟩,Zb2 (ZbI h4.1 h3.1) (by omega),Zb2 (ZbI h4.2 h3.2) (by omega)⟩
theorem Zfk {x1 y1 x2 y2 x3 y3 x4 y4:Rat} (h1:O.okV x1 y1) (h2:O.okV x2 y2) (h3:O.okV x3 y3) (h4:O.okV x4 y4):O.okT 100 ((x2-x1)*(x4-x3)+(y2-y1)*(y4-y3)):=
 Zb2 (okT_add (Zcf (ZbI h2.1 h1.1) (ZbI h4.1 h3.1)) (Zcf (ZbI h2.2 h1.2) (ZbI h4.2 h3.2))) (by omega)
theorem okT_crs {x1 y1 x2 y2 x3 y3 x4 y4:Rat} (h1:O.okV x1 y1) (h2:O.okV x2 y2) (h3:O.okV x3 y3) (h4:O.okV x4 y4):O.okT 100 ((x2-x1)*(y4-y3)-(y2-y1)*(x4-x3)):=
 Zb2 (ZbI (Zcf (ZbI h2.1 h1.1) (ZbI h4.2 h3.2)) (Zcf (ZbI h2.2 h1.2) (ZbI h4.1 h3.1))) (by omega)
theorem okT_dv {k m:Nat} {r s:Rat} (h:O.okT k r) (h2:O.okT m s) (h0:s.num ≠ 0):O.okT (k+m) (r / s):=by
 have e:=ZfG (p:=r.num*(s.den:Int)) (q:=(r.den:Int)*s.num) (Int.mul_ne_zero (Zcn r) h0)
 rw [rat_div] at e
 exact ⟨Nat.le_trans (Zbd e.1) (Za5 h.1 (Zbj h2.2)),Nat.le_trans (Zbd e.2) (Za5 (Zbj h.2) h2.1)⟩
theorem ZcS {x1 y1 x2 y2 x3 y3:Rat} (h1:O.okV x1 y1) (h2:O.okV x2 y2) (h3:O.okV x3 y3):O.okT 400 (O.tsg x1 y1 x2 y2 x3 y3):=by
 unfold O.tsg
 split
 ·exact Zb2 (Zfk h1 h3 h1 h3) (by omega)
 ·split
  ·exact Zb2 (Zfk h2 h3 h2 h3) (by omega)
  ·rename_i n1 n2
   refine Zb2 (okT_dv (Zcf (okT_crs h1 h2 h1 h3) (okT_crs h1 h2 h1 h3)) (Zfk h1 h2 h1 h2) fun e => ?_) (by omega)
   have:=Rat.num_eq_zero.1 e
   rw [this] at n2
   grind
theorem ev82 (f1 f2 f3 f4 f5 f6 f7 f8 f9 f10 f11 f12:Bool) (x1 y1 x2 y2 x3 y3:Rat) (h:O.okV3 x1 y1 x2 y2 x3 y3):Ev M1 (.pure 82 [vecA f1 f2 f3 f4 x1 y1,vecA f5 f6 f7 f8 x2 y2,vecA f9 f10 f11 f12 x3 y3]) (ratF (O.tsg x1 y1 x2 y2 x3 y3)) []:=by
 obtain ⟨h1,h2,h3⟩:=h
 have dd:=Zfk h1 h2 h1 h2
 have dt:=Zfk h1 h2 h1 h3
 have cr:=okT_crs h1 h2 h1 h3
 refine call82 (qToS _ _ _ _ _ _ _ _ _ _ _ _ _ _ _ _ _ _ _ ⟨okW_V h1 h2,okW_V h1 h3,okD_V h1 h2 h1 h2,okD_V h1 h2 h1 h3,fun k=>⟨okD_V h1 h3 h1 h3,?_⟩,fun k=>⟨⟨Zb0 dt (by omega),Zb0 dd (by omega)⟩,fun j=>⟨okW_V h2 h3,okD_V h2 h3 h2 h3,?_⟩,fun j=>⟨⟨Zb0 cr (by omega),Zb0 cr (by omega)⟩,⟨Zb0 (Zcf cr cr) (by omega),Zb0 dd (by omega),fun e => ?_⟩,?_⟩⟩⟩)
 ·unfold O.tsg;rw [if_pos (sgn_le0.1 k)];exact .refl _
 ·unfold O.tsg;rw [if_neg fun x=>k (sgn_le0.2 x),if_pos (cmp_ge2.1 j)];exact .refl _
 ·have e0:=Rat.num_eq_zero.1 e
  have k0:¬_:=fun x=>k (sgn_le0.2 x)
  have j0:¬_:=fun x=>j (cmp_ge2.2 x)
  rw [e0] at j0
  grind
 ·unfold O.tsg;rw [if_neg fun x=>k (sgn_le0.2 x),if_neg fun x=>j (cmp_ge2.2 x)];exact .refl _
theorem sgn_bd (n:Int):-1<=O.sgnI n/\O.sgnI n<=1:=by
 unfold O.sgnI
 split
 ·omega
 ·split <;> omega
theorem Zgc (m n:Int):-1<=O.sgnI m*O.sgnI n/\O.sgnI m*O.sgnI n<=1:=by
 have a:=sgn_bd m
 have b:=sgn_bd n
 have c:O.sgnI m = -1\/O.sgnI m=0\/O.sgnI m=1:=by omega
 rcases c with c | c | c <;> rw [c] <;> omega
theorem crs_bool (x1 y1 x2 y2 x3 y3 x4 y4:Rat):(bif decide (O.sgnI ((x2-x1)*(y3-y1)-(y2-y1)*(x3-x1)).num*O.sgnI ((x2-x1)*(y4-y1)-(y2-y1)*(x4-x1)).num<0) then decide (IntKind.i64.wrap (O.sgnI ((x4-x3)*(y1-y3)-(y4-y3)*(x1-x3)).num*O.sgnI ((x4-x3)*(y2-y3)-(y4-y3)*(x2-x3)).num)<0) else false)=decide (O.crs x1 y1 x2 y2 x3 y3 x4 y4):=by
 have b:=Zgc ((x4-x3)*(y1-y3)-(y4-y3)*(x1-x3)).num ((x4-x3)*(y2-y3)-(y4-y3)*(x2-x3)).num
 rw [w64 _ (by omega),ZcE]
 exact Zeg Iff.rfl
theorem ev81 (f1 f2 f3 f4 f5 f6 f7 f8 f9 f10 f11 f12 f13 f14 f15 f16:Bool) (x1 y1 x2 y2 x3 y3 x4 y4:Rat) (h:O.okV4 x1 y1 x2 y2 x3 y3 x4 y4):Ev M1 (.pure 81 [vecA f1 f2 f3 f4 x1 y1,vecA f5 f6 f7 f8 x2 y2,vecA f9 f10 f11 f12 x3 y3,vecA f13 f14 f15 f16 x4 y4]) (.bool (decide (O.crs x1 y1 x2 y2 x3 y3 x4 y4))) []:=by
 obtain ⟨h1,h2,h3,h4⟩:=h
 have b:=Zgc ((x2-x1)*(y3-y1)-(y2-y1)*(x3-x1)).num ((x2-x1)*(y4-y1)-(y2-y1)*(x4-x1)).num
 exact call81 (qCrs _ _ _ _ _ _ _ _ _ _ _ _ _ _ _ _ _ _ _ _ _ _ _ _ _ ⟨okW_V h1 h2,okW_V h3 h4,okW_V h1 h3,okD_V h1 h2 h1 h3,okW_V h1 h4,okD_V h1 h2 h1 h4,by omega,fun _=>okW_V h3 h1,fun _=>okD_V h3 h4 h3 h1,fun _=>okW_V h3 h2,fun _=>okD_V h3 h4 h3 h2,congrArg AV.bool (crs_bool _ _ _ _ _ _ _ _)⟩)
end Go.Av

namespace Go.Av
open Go.Proofs
set_option maxRecDepth 100000
def fi73:Fi:=⟨47,[.cell 8 110]⟩
def kp73:List (Nat × List Nat):=[(0,[4,5,6,7,8]),(1,[4,5,6,7,8,16]),(2,[8]),(3,[4,5,6,7,8,9]),(4,[8,9,34,35,36]),(5,[8,9,34,35,36,37]),(6,[8,9,11,34,35,36]),(7,[8,9,11,34,35,36,43]),(8,[8,9,34,35,36]),(9,[8,9,34,35,36]),(10,[8])]
def qSeg_at (f1 f2 f3 f4 f5 f6 f7 f8 f9 f10 f11 f12 f13 f14 f15 f16:Bool) (x1 y1 x2 y2 x3 y3 x4 y4:Rat) (Q:AV->Heap->Prop):Prop:=Wp M1 (.run fi73 (atC (cd Try.f73) []) [(0,.agg [.bool (O.Zaa x1.num),.vec f1 1 ((O.Zae x1.num).map (.int .u32)),.bool (O.Zaa (x1.den:Int)),.vec f2 1 ((O.Zae (x1.den:Int)).map (.int .u32)),.bool (O.Zaa y1.num),.vec f3 1 ((O.Zae y1.num).map (.int .u32)),.bool (O.Zaa (y1.den:Int)),.vec f4 1 ((O.Zae (y1.den:Int)).map (.int .u32))]),(1,.agg [.bool (O.Zaa x2.num),.vec f5 1 ((O.Zae x2.num).map (.int .u32)),.bool (O.Zaa (x2.den:Int)),.vec f6 1 ((O.Zae (x2.den:Int)).map (.int .u32)),.bool (O.Zaa y2.num),.vec f7 1 ((O.Zae y2.num).map (.int .u32)),.bool (O.Zaa (y2.den:Int)),.vec f8 1 ((O.Zae (y2.den:Int)).map (.int .u32))]),(2,.agg [.bool (O.Zaa x3.num),.vec f9 1 ((O.Zae x3.num).map (.int .u32)),.bool (O.Zaa (x3.den:Int)),.vec f10 1 ((O.Zae (x3.den:Int)).map (.int .u32)),.bool (O.Zaa y3.num),.vec f11 1 ((O.Zae y3.num).map (.int .u32)),.bool (O.Zaa (y3.den:Int)),.vec f12 1 ((O.Zae (y3.den:Int)).map (.int .u32))]),(3,.agg [.bool (O.Zaa x4.num),.vec f13 1 ((O.Zae x4.num).map (.int .u32)),.bool (O.Zaa (x4.den:Int)),.vec f14 1 ((O.Zae (x4.den:Int)).map (.int .u32)),.bool (O.Zaa y4.num),.vec f15 1 ((O.Zae y4.num).map (.int .u32)),.bool (O.Zaa (y4.den:Int)),.vec f16 1 ((O.Zae (y4.den:Int)).map (.int .u32))])] []) Q
def ZeG (q r1 r2 r3:Rat) (Q:AV->Heap->Prop):Prop:=Wp M1 (.run fi73 (atC (cd Try.f73) [1,1,1,0,1,0,0]) [(8,.ptr 0 0 0 0),(9,.ptr 1 0 0 0),(34,.vec true 4 [ratF r1,ratF r2,ratF r3]),(35,.int .i64 3),(36,.int .i64 0)] [⟨[.agg [.bool false,.vnil,.bool false,.vnil]],4,0,false,false⟩,⟨[ratF q],4,0,false,false⟩]) Q
def ZdF (q r1 r2 r3:Rat) (Q:AV->Heap->Prop):Prop:=Wp M1 (.run fi73 (atC (cd Try.f73) [1,1,1,0,1,0,0]) [(8,.ptr 0 0 0 0),(9,.ptr 1 0 0 0),(34,.vec true 4 [ratF r1,ratF r2,ratF r3]),(35,.int .i64 3),(36,.int .i64 1)] [⟨[.agg [.bool false,.vnil,.bool false,.vnil]],4,0,false,false⟩,⟨[ratF q],4,0,false,false⟩]) Q
def ZdE (q r1 r2 r3:Rat) (Q:AV->Heap->Prop):Prop:=Wp M1 (.run fi73 (atC (cd Try.f73) [1,1,1,0,1,0,0]) [(8,.ptr 0 0 0 0),(9,.ptr 1 0 0 0),(34,.vec true 4 [ratF r1,ratF r2,ratF r3]),(35,.int .i64 3),(36,.int .i64 2)] [⟨[.agg [.bool false,.vnil,.bool false,.vnil]],4,0,false,false⟩,⟨[ratF q],4,0,false,false⟩]) Q
def ZdD (q r1 r2 r3:Rat) (Q:AV->Heap->Prop):Prop:=Wp M1 (.run fi73 (atC (cd Try.f73) [1,1,1,0,1,0,0]) [(8,.ptr 0 0 0 0),(9,.ptr 1 0 0 0),(34,.vec true 4 [ratF r1,ratF r2,ratF r3]),(35,.int .i64 3),(36,.int .i64 3)] [⟨[.agg [.bool false,.vnil,.bool false,.vnil]],4,0,false,false⟩,⟨[ratF q],4,0,false,false⟩]) Q
theorem call73 {args:List AV} {d:AV} (h:wc M1 fi73 Try.f73 args d):Ev M1 (.pure 73 args) d []:=pcl _ _ (by kernel_rfl) h
noncomputable abbrev zNqN1 (x1:Rat) (f1:Bool) (f2:Bool) (y1:Rat) (f3:Bool) (f4:Bool):=ag [vb (O.Zaa x1.num),AV.vec f1 1 (us (O.Zae x1.num)),vb (O.Zaa (↑x1.den:Int)),AV.vec f2 1 (us (O.Zae (↑x1.den:Int))),vb (O.Zaa y1.num),AV.vec f3 1 (us (O.Zae y1.num)),vb (O.Zaa (↑y1.den:Int)),AV.vec f4 1 (us (O.Zae (↑y1.den:Int)))]
noncomputable abbrev zNqN2 (x2:Rat) (f5:Bool) (f6:Bool) (y2:Rat) (f7:Bool) (f8:Bool):=ag [vb (O.Zaa x2.num),AV.vec f5 1 (us (O.Zae x2.num)),vb (O.Zaa (↑x2.den:Int)),AV.vec f6 1 (us (O.Zae (↑x2.den:Int))),vb (O.Zaa y2.num),AV.vec f7 1 (us (O.Zae y2.num)),vb (O.Zaa (↑y2.den:Int)),AV.vec f8 1 (us (O.Zae (↑y2.den:Int)))]
noncomputable abbrev zNqN3 (x3:Rat) (f9:Bool) (f10:Bool) (y3:Rat) (f11:Bool) (f12:Bool):=ag [vb (O.Zaa x3.num),AV.vec f9 1 (us (O.Zae x3.num)),vb (O.Zaa (↑x3.den:Int)),AV.vec f10 1 (us (O.Zae (↑x3.den:Int))),vb (O.Zaa y3.num),AV.vec f11 1 (us (O.Zae y3.num)),vb (O.Zaa (↑y3.den:Int)),AV.vec f12 1 (us (O.Zae (↑y3.den:Int)))]
noncomputable abbrev zNqN4 (x4:Rat) (f13:Bool) (f14:Bool) (y4:Rat) (f15:Bool) (f16:Bool):=ag [vb (O.Zaa x4.num),AV.vec f13 1 (us (O.Zae x4.num)),vb (O.Zaa (↑x4.den:Int)),AV.vec f14 1 (us (O.Zae (↑x4.den:Int))),vb (O.Zaa y4.num),AV.vec f15 1 (us (O.Zae y4.num)),vb (O.Zaa (↑y4.den:Int)),AV.vec f16 1 (us (O.Zae (↑y4.den:Int)))]
theorem qSeg (f1 f2 f3 f4 f5 f6 f7 f8 f9 f10 f11 f12 f13 f14 f15 f16:Bool) (x1 y1 x2 y2 x3 y3 x4 y4:Rat)  (dq:AV) (H :
  (O.okV4 x1 y1 x2 y2 x3 y3 x4 y4) /\
  ((O.crs x1 y1 x2 y2 x3 y3 x4 y4)->(O.inI 0) /\
   Weak (ratF (O.qi 0)) dq) /\
  (¬(O.crs x1 y1 x2 y2 x3 y3 x4 y4)->(O.okV3 x1 y1 x2 y2 x3 y3) /\
   (O.okV3 x1 y1 x2 y2 x4 y4) /\
   (O.okV3 x3 y3 x4 y4 x1 y1) /\
   (O.okV3 x3 y3 x4 y4 x2 y2) /\
   ZeG (O.tsg x1 y1 x2 y2 x3 y3) (O.tsg x1 y1 x2 y2 x4 y4) (O.tsg x3 y3 x4 y4 x1 y1) (O.tsg x3 y3 x4 y4 x2 y2) (Zaf dq))) :
 qSeg_at f1 f2 f3 f4 f5 f6 f7 f8 f9 f10 f11 f12 f13 f14 f15 f16 x1 y1 x2 y2 x3 y3 x4 y4 (Zaf dq):=by
 unfold qSeg_at
 obtain ⟨k1,H⟩:=H
 refine Zac (G:=Zad kp73 [(1,4,.call (vb (decide (O.crs x1 y1 x2 y2 x3 y3 x4 y4))) none)] []) 5 [] ⟨(atC (cd Try.f73) [1,0,1]),[(4,AV.ptr 0 0 0 0),(5,AV.ptr 1 0 0 0),(6,AV.ptr 2 0 0 0),(7,AV.ptr 3 0 0 0),(8,AV.ptr 4 0 0 0),(16,vb (decide (O.crs x1 y1 x2 y2 x3 y3 x4 y4)))],[⟨[(zNqN1 x1 f1 f2 y1 f3 f4)],8,0,false,false⟩,⟨[(zNqN2 x2 f5 f6 y2 f7 f8)],8,0,false,false⟩,⟨[(zNqN3 x3 f9 f10 y3 f11 f12)],8,0,false,false⟩,⟨[(zNqN4 x4 f13 f14 y4 f15 f16)],8,0,false,false⟩,⟨[ag [vb false,AV.vnil,vb false,AV.vnil]],4,0,false,false⟩],_,[],_⟩ (by kernel_rfl) (bc rfl (bc rfl (bc rfl (bc rfl b0)))) q0 (ce (@ev81 f1 f2 f3 f4 f5 f6 f7 f8 f9 f10 f11 f12 f13 f14 f15 f16 x1 y1 x2 y2 x3 y3 x4 y4 k1) c0) ?_
 rcases xq H with ⟨d3,H⟩|⟨d3,H⟩
 ·obtain ⟨k4,H⟩:=H
  exact Zan (G:=Zad kp73 [(2,0,.call (ratF (O.qi 0)) none)] []) 1000 [true] (ratF (O.qi 0)) (by kernel_rfl) (bc (Zao (Zab.2 d3)) (bc rfl b0)) q0 (ce (@ev69 0 k4) c0) H
 ·obtain ⟨k5,k6,k7,k8,H⟩:=H
  exact Zac (G:=Zad kp73 [(3,3,.call (ratF (O.tsg x1 y1 x2 y2 x3 y3)) none),(4,3,.call (ratF (O.tsg x1 y1 x2 y2 x4 y4)) none),(4,7,.call (ratF (O.tsg x3 y3 x4 y4 x1 y1)) none),(4,11,.call (ratF (O.tsg x3 y3 x4 y4 x2 y2)) none)] []) 1000 [false] ⟨(atC (cd Try.f73) [1,1,1,0,1,0,0]),[(8,AV.ptr 4 0 0 0),(9,AV.ptr 5 0 0 0),(34,AV.vec true 4 [ratF (O.tsg x1 y1 x2 y2 x4 y4),ratF (O.tsg x3 y3 x4 y4 x1 y1),ratF (O.tsg x3 y3 x4 y4 x2 y2)]),(35,vi 3),(36,vi 0)],[⟨[(zNqN1 x1 f1 f2 y1 f3 f4)],8,0,false,false⟩,⟨[(zNqN2 x2 f5 f6 y2 f7 f8)],8,0,false,false⟩,⟨[(zNqN3 x3 f9 f10 y3 f11 f12)],8,0,false,false⟩,⟨[(zNqN4 x4 f13 f14 y4 f15 f16)],8,0,false,false⟩,⟨[ag [vb false,AV.vnil,vb false,AV.vnil]],4,0,false,false⟩,⟨[ratF (O.tsg x1 y1 x2 y2 x3 y3)],4,0,false,false⟩],_,[],_⟩ (by kernel_rfl) (bc (Zaj (fun h=>d3 (Zab.1 h))) (bc rfl (bc rfl (bc rfl (bc rfl (bc rfl (bc rfl (bc rfl (bc rfl (bc rfl (bc rfl (bc rfl (bc rfl (bc rfl b0)))))))))))))) q0 (ce (@ev82 f1 f2 f3 f4 f5 f6 f7 f8 f9 f10 f11 f12 x1 y1 x2 y2 x3 y3 k5) (ce (@ev82 f1 f2 f3 f4 f5 f6 f7 f8 f13 f14 f15 f16 x1 y1 x2 y2 x4 y4 k6) (ce (@ev82 f9 f10 f11 f12 f13 f14 f15 f16 f1 f2 f3 f4 x3 y3 x4 y4 x1 y1 k7) (ce (@ev82 f9 f10 f11 f12 f13 f14 f15 f16 f5 f6 f7 f8 x3 y3 x4 y4 x2 y2 k8) c0)))) (Zav [4,5] (by kernel_rfl) H)
noncomputable abbrev zNqN5:=ag [vb false,AV.vnil,vb false,AV.vnil]
theorem qSeg0 (q r1 r2 r3:Rat)  (dq:AV) (H :
  (O.okR r1/\O.okR q) /\
  ((O.sgnI (r1.num*(↑q.den:Int)-q.num*(↑r1.den:Int))<0)->ZdF r1 r1 r2 r3 (Zaf dq)) /\
  (¬(O.sgnI (r1.num*(↑q.den:Int)-q.num*(↑r1.den:Int))<0)->ZdF q r1 r2 r3 (Zaf dq))) :
 ZeG q r1 r2 r3 (Zaf dq):=by
 unfold ZeG
 obtain ⟨k1,H⟩:=H
 refine Zac (G:=Zad kp73 [(7,2,.call (vi (O.sgnI (r1.num*(↑q.den:Int)-q.num*(↑r1.den:Int)))) none)] []) 11 [true] ⟨(atC (cd Try.f73) [1,1,1,0,1,0,0,1,1,0,0,1,1]),[(8,AV.ptr 0 0 0 0),(9,AV.ptr 1 0 0 0),(11,AV.ptr 2 0 0 0),(34,AV.vec true 4 [ratF r1,ratF r2,ratF r3]),(35,vi 3),(36,vi 0),(43,vb (decide (O.sgnI (r1.num*(↑q.den:Int)-q.num*(↑r1.den:Int))<0)))],[⟨[zNqN5],4,0,false,false⟩,⟨[ratF q],4,0,false,false⟩,⟨[ratF r1],4,0,false,false⟩],_,[],_⟩ (by kernel_rfl) (bc rfl (bc rfl (bc rfl (bc rfl (bc rfl (bc rfl b0)))))) q0 (ce (@ev72 false false false false r1 q k1) c0) ?_
 rcases xq H with ⟨d3,H⟩|⟨d3,H⟩
 ·exact Zac (G:=Zad kp73 [] []) 1000 [true] ⟨(atC (cd Try.f73) [1,1,1,0,1,0,0]),[(8,AV.ptr 0 0 0 0),(9,AV.ptr 1 0 0 0),(34,AV.vec true 4 [ratF r1,ratF r2,ratF r3]),(35,vi 3),(36,vi 1)],[⟨[zNqN5],4,0,false,false⟩,⟨[ratF r1],4,0,false,false⟩,⟨[ratF r1],4,0,false,false⟩],_,[],_⟩ (by kernel_rfl) (bc (Zao (Zab.2 d3)) (bc rfl (bc rfl b0))) q0 c0 (Zav [0,1] (by kernel_rfl) H)
 ·exact Zac (G:=Zad kp73 [] []) 1000 [false] ⟨(atC (cd Try.f73) [1,1,1,0,1,0,0]),[(8,AV.ptr 0 0 0 0),(9,AV.ptr 1 0 0 0),(34,AV.vec true 4 [ratF r1,ratF r2,ratF r3]),(35,vi 3),(36,vi 1)],[⟨[zNqN5],4,0,false,false⟩,⟨[ratF q],4,0,false,false⟩,⟨[ratF r1],4,0,false,false⟩],_,[],_⟩ (by kernel_rfl) (bc (Zaj (fun h=>d3 (Zab.1 h))) b0) q0 c0 (Zav [0,1] (by kernel_rfl) H)
noncomputable abbrev zNqN6:=ag [vb false,AV.vnil,vb false,AV.vnil]
theorem qSeg1 (q r1 r2 r3:Rat)  (dq:AV) (H :
  (O.okR r2/\O.okR q) /\
  ((O.sgnI (r2.num*(↑q.den:Int)-q.num*(↑r2.den:Int))<0)->ZdE r2 r1 r2 r3 (Zaf dq)) /\
  (¬(O.sgnI (r2.num*(↑q.den:Int)-q.num*(↑r2.den:Int))<0)->ZdE q r1 r2 r3 (Zaf dq))) :
 ZdF q r1 r2 r3 (Zaf dq):=by
 unfold ZdF
 obtain ⟨k1,H⟩:=H
 refine Zac (G:=Zad kp73 [(7,2,.call (vi (O.sgnI (r2.num*(↑q.den:Int)-q.num*(↑r2.den:Int)))) none)] []) 11 [true] ⟨(atC (cd Try.f73) [1,1,1,0,1,0,0,1,1,0,0,1,1]),[(8,AV.ptr 0 0 0 0),(9,AV.ptr 1 0 0 0),(11,AV.ptr 2 0 0 0),(34,AV.vec true 4 [ratF r1,ratF r2,ratF r3]),(35,vi 3),(36,vi 1),(43,vb (decide (O.sgnI (r2.num*(↑q.den:Int)-q.num*(↑r2.den:Int))<0)))],[⟨[zNqN6],4,0,false,false⟩,⟨[ratF q],4,0,false,false⟩,⟨[ratF r2],4,0,false,false⟩],_,[],_⟩ (by kernel_rfl) (bc rfl (bc rfl (bc rfl (bc rfl (bc rfl (bc rfl b0)))))) q0 (ce (@ev72 false false false false r2 q k1) c0) ?_
 rcases xq H with ⟨d3,H⟩|⟨d3,H⟩
 ·exact Zac (G:=Zad kp73 [] []) 1000 [true] ⟨(atC (cd Try.f73) [1,1,1,0,1,0,0]),[(8,AV.ptr 0 0 0 0),(9,AV.ptr 1 0 0 0),(34,AV.vec true 4 [ratF r1,ratF r2,ratF r3]),(35,vi 3),(36,vi 2)],[⟨[zNqN6],4,0,false,false⟩,⟨[ratF r2],4,0,false,false⟩,⟨[ratF r2],4,0,false,false⟩],_,[],_⟩ (by kernel_rfl) (bc (Zao (Zab.2 d3)) (bc rfl (bc rfl b0))) q0 c0 (Zav [0,1] (by kernel_rfl) H)
 ·exact Zac (G:=Zad kp73 [] []) 1000 [false] ⟨(atC (cd Try.f73) [1,1,1,0,1,0,0]),[(8,AV.ptr 0 0 0 0),(9,AV.ptr 1 0 0 0),(34,AV.vec true 4 [ratF r1,ratF r2,ratF r3]),(35,vi 3),(36,vi 2)],[⟨[zNqN6],4,0,false,false⟩,⟨[ratF q],4,0,false,false⟩,⟨[ratF r2],4,0,false,false⟩],_,[],_⟩ (by kernel_rfl) (bc (Zaj (fun h=>d3 (Zab.1 h))) b0) q0 c0 (Zav [0,1] (by kernel_rfl) H)
noncomputable abbrev zNqN7:=ag [vb false,AV.vnil,vb false,AV.vnil]
theorem qSeg2 (q r1 r2 r3:Rat)  (dq:AV) (H :
  (O.okR r3/\O.okR q) /\
  ((O.sgnI (r3.num*(↑q.den:Int)-q.num*(↑r3.den:Int))<0)->ZdD r3 r1 r2 r3 (Zaf dq)) /\
  (¬(O.sgnI (r3.num*(↑q.den:Int)-q.num*(↑r3.den:Int))<0)->ZdD q r1 r2 r3 (Zaf dq))) :
 ZdE q r1 r2 r3 (Zaf dq):=by
 unfold ZdE
 obtain ⟨k1,H⟩:=H
 refine Zac (G:=Zad kp73 [(7,2,.call (vi (O.sgnI (r3.num*(↑q.den:Int)-q.num*(↑r3.den:Int)))) none)] []) 11 [true] ⟨(atC (cd Try.f73) [1,1,1,0,1,0,0,1,1,0,0,1,1]),[(8,AV.ptr 0 0 0 0),(9,AV.ptr 1 0 0 0),(11,AV.ptr 2 0 0 0),(34,AV.vec true 4 [ratF r1,ratF r2,ratF r3]),(35,vi 3),(36,vi 2),(43,vb (decide (O.sgnI (r3.num*(↑q.den:Int)-q.num*(↑r3.den:Int))<0)))],[⟨[zNqN7],4,0,false,false⟩,⟨[ratF q],4,0,false,false⟩,⟨[ratF r3],4,0,false,false⟩],_,[],_⟩ (by kernel_rfl) (bc rfl (bc rfl (bc rfl (bc rfl (bc rfl (bc rfl b0)))))) q0 (ce (@ev72 false false false false r3 q k1) c0) ?_
 rcases xq H with ⟨d3,H⟩|⟨d3,H⟩
 ·exact Zac (G:=Zad kp73 [] []) 1000 [true] ⟨(atC (cd Try.f73) [1,1,1,0,1,0,0]),[(8,AV.ptr 0 0 0 0),(9,AV.ptr 1 0 0 0),(34,AV.vec true 4 [ratF r1,ratF r2,ratF r3]),(35,vi 3),(36,vi 3)],[⟨[zNqN7],4,0,false,false⟩,⟨[ratF r3],4,0,false,false⟩,⟨[ratF r3],4,0,false,false⟩],_,[],_⟩ (by kernel_rfl) (bc (Zao (Zab.2 d3)) (bc rfl (bc rfl b0))) q0 c0 (Zav [0,1] (by kernel_rfl) H)
 ·exact Zac (G:=Zad kp73 [] []) 1000 [false] ⟨(atC (cd Try.f73) [1,1,1,0,1,0,0]),[(8,AV.ptr 0 0 0 0),(9,AV.ptr 1 0 0 0),(34,AV.vec true 4 [ratF r1,ratF r2,ratF r3]),(35,vi 3),(36,vi 3)],[⟨[zNqN7],4,0,false,false⟩,⟨[ratF q],4,0,false,false⟩,⟨[ratF r3],4,0,false,false⟩],_,[],_⟩ (by kernel_rfl) (bc (Zaj (fun h=>d3 (Zab.1 h))) b0) q0 c0 (Zav [0,1] (by kernel_rfl) H)
theorem qSeg3 (q r1 r2 r3:Rat)  (dq:AV) (H :
  Weak (ratF q) dq) :
 ZdD q r1 r2 r3 (Zaf dq):=by
 unfold ZdD
 exact Zan (G:=Zad kp73 [] []) 1000 [false] (ratF q) (by kernel_rfl) (bc rfl (bc rfl (bc rfl b0))) q0 c0 H
end Go.Av

namespace Go.Av
open Go.Proofs
namespace O
noncomputable def mn (r q:Rat):Rat:=if r<q then r else q
noncomputable def seg (x1 y1 x2 y2 x3 y3 x4 y4:Rat):Rat:=
 if crs x1 y1 x2 y2 x3 y3 x4 y4 then qi 0 else mn (tsg x3 y3 x4 y4 x2 y2) (mn (tsg x3 y3 x4 y4 x1 y1) (mn (tsg x1 y1 x2 y2 x4 y4) (tsg x1 y1 x2 y2 x3 y3)))
end O
theorem okT_mn {k:Nat} {r q:Rat} (h:O.okT k r) (h2:O.okT k q):O.okT k (O.mn r q):=by
 unfold O.mn
 split
 ·exact h
 ·exact h2
theorem mn_y {r q:Rat} (h:O.sgnI (r.num*(q.den:Int)-q.num*(r.den:Int))<0):O.mn r q=r:=if_pos (Zcp.1 h)
theorem mn_n {r q:Rat} (h:¬O.sgnI (r.num*(q.den:Int)-q.num*(r.den:Int))<0):O.mn r q=q:=if_neg fun x=>h (Zcp.2 x)
theorem seg_loop {q r1 r2 r3:Rat} (h:O.okT 400 q) (h1:O.okT 400 r1) (h2:O.okT 400 r2) (h3:O.okT 400 r3):ZeG q r1 r2 r3 (Zaf (ratF (O.mn r3 (O.mn r2 (O.mn r1 q))))):=by
 have R {r:Rat} (h:O.okT 400 r):O.okR r:=Zb0 h (by omega)
 have s3:∀ q,ZdD q r1 r2 r3 (Zaf (ratF q)):=fun q=>qSeg3 _ _ _ _ _ (.refl _)
 have s2:∀ q,O.okT 400 q->ZdE q r1 r2 r3 (Zaf (ratF (O.mn r3 q))):=fun q hq=>qSeg2 _ _ _ _ _ ⟨⟨R h3,R hq⟩,fun k=>by rw [mn_y k];exact s3 _,fun k=>by rw [mn_n k];exact s3 _⟩
 have s1:∀ q,O.okT 400 q->ZdF q r1 r2 r3 (Zaf (ratF (O.mn r3 (O.mn r2 q)))):=fun q hq=>qSeg1 _ _ _ _ _ ⟨⟨R h2,R hq⟩,fun k=>by rw [mn_y k];exact s2 _ h2,fun k=>by rw [mn_n k];exact s2 _ hq⟩
 exact qSeg0 _ _ _ _ _ ⟨⟨R h1,R h⟩,fun k=>by rw [mn_y k];exact s1 _ h1,fun k=>by rw [mn_n k];exact s1 _ h⟩
theorem okT_seg {x1 y1 x2 y2 x3 y3 x4 y4:Rat} (h:O.okV4 x1 y1 x2 y2 x3 y3 x4 y4):O.okT 400 (O.seg x1 y1 x2 y2 x3 y3 x4 y4):=by
 obtain ⟨h1,h2,h3,h4⟩:=h
 unfold O.seg
 split
 ·exact Zb2 (okT_int (by unfold O.inI;omega)) (by omega)
 ·exact okT_mn (ZcS h3 h4 h2) (okT_mn (ZcS h3 h4 h1) (okT_mn (ZcS h1 h2 h4) (ZcS h1 h2 h3)))
theorem ev73 (f1 f2 f3 f4 f5 f6 f7 f8 f9 f10 f11 f12 f13 f14 f15 f16:Bool) (x1 y1 x2 y2 x3 y3 x4 y4:Rat) (h:O.okV4 x1 y1 x2 y2 x3 y3 x4 y4):Ev M1 (.pure 73 [vecA f1 f2 f3 f4 x1 y1,vecA f5 f6 f7 f8 x2 y2,vecA f9 f10 f11 f12 x3 y3,vecA f13 f14 f15 f16 x4 y4]) (ratF (O.seg x1 y1 x2 y2 x3 y3 x4 y4)) []:=by
 have h0:=h
 obtain ⟨h1,h2,h3,h4⟩:=h
 refine call73 (qSeg _ _ _ _ _ _ _ _ _ _ _ _ _ _ _ _ _ _ _ _ _ _ _ _ _ ⟨h0,fun k=>⟨by unfold O.inI;omega,?_⟩,fun k=>⟨⟨h1,h2,h3⟩,⟨h1,h2,h4⟩,⟨h3,h4,h1⟩,⟨h3,h4,h2⟩,?_⟩⟩)
 ·unfold O.seg;rw [if_pos k];exact .refl _
 ·unfold O.seg;rw [if_neg k];exact seg_loop (ZcS h1 h2 h3) (ZcS h1 h2 h4) (ZcS h3 h4 h1) (ZcS h3 h4 h2)
section
variable {f:Bool} {cs:List Bx} {u0 v0 u1 v1 th gp sf:Int}
end
end Go.Av

namespace Go.Av
open Go.Proofs
set_option maxRecDepth 100000
def fi67:Fi:=⟨82,[.tmp 8]⟩
def kp67:List (Nat × List Nat):=[(0,[3,4,5,6]),(1,[3,4,5,6,16]),(2,[8]),(3,[3,4,5,6,24]),(4,[8]),(5,[4,5,6,9]),(6,[4,5,6,9]),(7,[4,9,10,11]),(8,[9,10,11,12]),(9,[9,10,11,12,61,62,63]),(10,[9,10,11,12,61,62,63,64]),(11,[9,10,11,12,13,14,61,62,63]),(12,[9,10,11,12,61,62,63,80]),(13,[8]),(14,[9,10,11,12,61,62,63]),(15,[8])]
def qNe_at (x0 y0 x1 y1 tp ax ay bx by_ r:Int) (Q:AV->Heap->Prop):Prop:=Wp M1 (.run fi67 (atC (cd Try.f67) []) [(0,.agg [.int .i64 x0,.int .i64 y0,.int .i64 x1,.int .i64 y1,.int .i64 tp]),(1,.agg [.int .i64 ax,.int .i64 ay]),(2,.agg [.int .i64 bx,.int .i64 by_]),(3,.int .i64 r)] []) Q
def qNe0_at (u0 v0 u1 v1 a1 a2 b1 b2 m:Rat) (Q:AV->Heap->Prop):Prop:=Wp M1 (.run fi67 (atC (cd Try.f67) [1,1,1,1,1,1,1,0,1,0,0]) [(9,.ptr 0 0 0 0),(10,.ptr 1 0 0 0),(11,.ptr 2 0 0 0),(12,.vec true 8 [.agg [.bool (O.Zaa u0.num),.vec false 1 ((O.Zae u0.num).map (.int .u32)),.bool (O.Zaa (u0.den:Int)),.vec false 1 ((O.Zae (u0.den:Int)).map (.int .u32)),.bool (O.Zaa v0.num),.vec false 1 ((O.Zae v0.num).map (.int .u32)),.bool (O.Zaa (v0.den:Int)),.vec false 1 ((O.Zae (v0.den:Int)).map (.int .u32))],.agg [.bool (O.Zaa u1.num),.vec false 1 ((O.Zae u1.num).map (.int .u32)),.bool (O.Zaa (u1.den:Int)),.vec false 1 ((O.Zae (u1.den:Int)).map (.int .u32)),.bool (O.Zaa v0.num),.vec false 1 ((O.Zae v0.num).map (.int .u32)),.bool (O.Zaa (v0.den:Int)),.vec false 1 ((O.Zae (v0.den:Int)).map (.int .u32))],.agg [.bool (O.Zaa u1.num),.vec false 1 ((O.Zae u1.num).map (.int .u32)),.bool (O.Zaa (u1.den:Int)),.vec false 1 ((O.Zae (u1.den:Int)).map (.int .u32)),.bool (O.Zaa v1.num),.vec false 1 ((O.Zae v1.num).map (.int .u32)),.bool (O.Zaa (v1.den:Int)),.vec false 1 ((O.Zae (v1.den:Int)).map (.int .u32))],.agg [.bool (O.Zaa u0.num),.vec false 1 ((O.Zae u0.num).map (.int .u32)),.bool (O.Zaa (u0.den:Int)),.vec false 1 ((O.Zae (u0.den:Int)).map (.int .u32)),.bool (O.Zaa v1.num),.vec false 1 ((O.Zae v1.num).map (.int .u32)),.bool (O.Zaa (v1.den:Int)),.vec false 1 ((O.Zae (v1.den:Int)).map (.int .u32))]]),(61,.vec true 8 [.agg [.bool (O.Zaa u0.num),.vec false 1 ((O.Zae u0.num).map (.int .u32)),.bool (O.Zaa (u0.den:Int)),.vec false 1 ((O.Zae (u0.den:Int)).map (.int .u32)),.bool (O.Zaa v0.num),.vec false 1 ((O.Zae v0.num).map (.int .u32)),.bool (O.Zaa (v0.den:Int)),.vec false 1 ((O.Zae (v0.den:Int)).map (.int .u32))],.agg [.bool (O.Zaa u1.num),.vec false 1 ((O.Zae u1.num).map (.int .u32)),.bool (O.Zaa (u1.den:Int)),.vec false 1 ((O.Zae (u1.den:Int)).map (.int .u32)),.bool (O.Zaa v0.num),.vec false 1 ((O.Zae v0.num).map (.int .u32)),.bool (O.Zaa (v0.den:Int)),.vec false 1 ((O.Zae (v0.den:Int)).map (.int .u32))],.agg [.bool (O.Zaa u1.num),.vec false 1 ((O.Zae u1.num).map (.int .u32)),.bool (O.Zaa (u1.den:Int)),.vec false 1 ((O.Zae (u1.den:Int)).map (.int .u32)),.bool (O.Zaa v1.num),.vec false 1 ((O.Zae v1.num).map (.int .u32)),.bool (O.Zaa (v1.den:Int)),.vec false 1 ((O.Zae (v1.den:Int)).map (.int .u32))],.agg [.bool (O.Zaa u0.num),.vec false 1 ((O.Zae u0.num).map (.int .u32)),.bool (O.Zaa (u0.den:Int)),.vec false 1 ((O.Zae (u0.den:Int)).map (.int .u32)),.bool (O.Zaa v1.num),.vec false 1 ((O.Zae v1.num).map (.int .u32)),.bool (O.Zaa (v1.den:Int)),.vec false 1 ((O.Zae (v1.den:Int)).map (.int .u32))]]),(62,.int .i64 4),(63,.int .i64 0)] [⟨[ratF m],4,0,false,false⟩,⟨[.agg [.bool (O.Zaa a1.num),.vec false 1 ((O.Zae a1.num).map (.int .u32)),.bool (O.Zaa (a1.den:Int)),.vec false 1 ((O.Zae (a1.den:Int)).map (.int .u32)),.bool (O.Zaa a2.num),.vec false 1 ((O.Zae a2.num).map (.int .u32)),.bool (O.Zaa (a2.den:Int)),.vec false 1 ((O.Zae (a2.den:Int)).map (.int .u32))]],8,0,false,false⟩,⟨[.agg [.bool (O.Zaa b1.num),.vec false 1 ((O.Zae b1.num).map (.int .u32)),.bool (O.Zaa (b1.den:Int)),.vec false 1 ((O.Zae (b1.den:Int)).map (.int .u32)),.bool (O.Zaa b2.num),.vec false 1 ((O.Zae b2.num).map (.int .u32)),.bool (O.Zaa (b2.den:Int)),.vec false 1 ((O.Zae (b2.den:Int)).map (.int .u32))]],8,0,false,false⟩]) Q
def qNe1_at (u0 v0 u1 v1 a1 a2 b1 b2 m:Rat) (Q:AV->Heap->Prop):Prop:=Wp M1 (.run fi67 (atC (cd Try.f67) [1,1,1,1,1,1,1,0,1,0,0]) [(9,.ptr 0 0 0 0),(10,.ptr 1 0 0 0),(11,.ptr 2 0 0 0),(12,.vec true 8 [.agg [.bool (O.Zaa u0.num),.vec false 1 ((O.Zae u0.num).map (.int .u32)),.bool (O.Zaa (u0.den:Int)),.vec false 1 ((O.Zae (u0.den:Int)).map (.int .u32)),.bool (O.Zaa v0.num),.vec false 1 ((O.Zae v0.num).map (.int .u32)),.bool (O.Zaa (v0.den:Int)),.vec false 1 ((O.Zae (v0.den:Int)).map (.int .u32))],.agg [.bool (O.Zaa u1.num),.vec false 1 ((O.Zae u1.num).map (.int .u32)),.bool (O.Zaa (u1.den:Int)),.vec false 1 ((O.Zae (u1.den:Int)).map (.int .u32)),.bool (O.Zaa v0.num),.vec false 1 ((O.Zae v0.num).map (.int .u32)),.bool (O.Zaa (v0.den:Int)),.vec false 1 ((O.Zae (v0.den:Int)).map (.int .u32))],.agg [.bool (O.Zaa u1.num),.vec false 1 ((O.Zae u1.num).map (.int .u32)),.bool (O.Zaa (u1.den:Int)),.vec false 1 ((O.Zae (u1.den:Int)).map (.int .u32)),.bool (O.Zaa v1.num),.vec false 1 ((O.Zae v1.num).map (.int .u32)),.bool (O.Zaa (v1.den:Int)),.vec false 1 ((O.Zae (v1.den:Int)).map (.int .u32))],.agg [.bool (O.Zaa u0.num),.vec false 1 ((O.Zae u0.num).map (.int .u32)),.bool (O.Zaa (u0.den:Int)),.vec false 1 ((O.Zae (u0.den:Int)).map (.int .u32)),.bool (O.Zaa v1.num),.vec false 1 ((O.Zae v1.num).map (.int .u32)),.bool (O.Zaa (v1.den:Int)),.vec false 1 ((O.Zae (v1.den:Int)).map (.int .u32))]]),(61,.vec true 8 [.agg [.bool (O.Zaa u0.num),.vec false 1 ((O.Zae u0.num).map (.int .u32)),.bool (O.Zaa (u0.den:Int)),.vec false 1 ((O.Zae (u0.den:Int)).map (.int .u32)),.bool (O.Zaa v0.num),.vec false 1 ((O.Zae v0.num).map (.int .u32)),.bool (O.Zaa (v0.den:Int)),.vec false 1 ((O.Zae (v0.den:Int)).map (.int .u32))],.agg [.bool (O.Zaa u1.num),.vec false 1 ((O.Zae u1.num).map (.int .u32)),.bool (O.Zaa (u1.den:Int)),.vec false 1 ((O.Zae (u1.den:Int)).map (.int .u32)),.bool (O.Zaa v0.num),.vec false 1 ((O.Zae v0.num).map (.int .u32)),.bool (O.Zaa (v0.den:Int)),.vec false 1 ((O.Zae (v0.den:Int)).map (.int .u32))],.agg [.bool (O.Zaa u1.num),.vec false 1 ((O.Zae u1.num).map (.int .u32)),.bool (O.Zaa (u1.den:Int)),.vec false 1 ((O.Zae (u1.den:Int)).map (.int .u32)),.bool (O.Zaa v1.num),.vec false 1 ((O.Zae v1.num).map (.int .u32)),.bool (O.Zaa (v1.den:Int)),.vec false 1 ((O.Zae (v1.den:Int)).map (.int .u32))],.agg [.bool (O.Zaa u0.num),.vec false 1 ((O.Zae u0.num).map (.int .u32)),.bool (O.Zaa (u0.den:Int)),.vec false 1 ((O.Zae (u0.den:Int)).map (.int .u32)),.bool (O.Zaa v1.num),.vec false 1 ((O.Zae v1.num).map (.int .u32)),.bool (O.Zaa (v1.den:Int)),.vec false 1 ((O.Zae (v1.den:Int)).map (.int .u32))]]),(62,.int .i64 4),(63,.int .i64 1)] [⟨[ratF m],4,0,false,false⟩,⟨[.agg [.bool (O.Zaa a1.num),.vec false 1 ((O.Zae a1.num).map (.int .u32)),.bool (O.Zaa (a1.den:Int)),.vec false 1 ((O.Zae (a1.den:Int)).map (.int .u32)),.bool (O.Zaa a2.num),.vec false 1 ((O.Zae a2.num).map (.int .u32)),.bool (O.Zaa (a2.den:Int)),.vec false 1 ((O.Zae (a2.den:Int)).map (.int .u32))]],8,0,false,false⟩,⟨[.agg [.bool (O.Zaa b1.num),.vec false 1 ((O.Zae b1.num).map (.int .u32)),.bool (O.Zaa (b1.den:Int)),.vec false 1 ((O.Zae (b1.den:Int)).map (.int .u32)),.bool (O.Zaa b2.num),.vec false 1 ((O.Zae b2.num).map (.int .u32)),.bool (O.Zaa (b2.den:Int)),.vec false 1 ((O.Zae (b2.den:Int)).map (.int .u32))]],8,0,false,false⟩]) Q
def qNe2_at (u0 v0 u1 v1 a1 a2 b1 b2 m:Rat) (Q:AV->Heap->Prop):Prop:=Wp M1 (.run fi67 (atC (cd Try.f67) [1,1,1,1,1,1,1,0,1,0,0]) [(9,.ptr 0 0 0 0),(10,.ptr 1 0 0 0),(11,.ptr 2 0 0 0),(12,.vec true 8 [.agg [.bool (O.Zaa u0.num),.vec false 1 ((O.Zae u0.num).map (.int .u32)),.bool (O.Zaa (u0.den:Int)),.vec false 1 ((O.Zae (u0.den:Int)).map (.int .u32)),.bool (O.Zaa v0.num),.vec false 1 ((O.Zae v0.num).map (.int .u32)),.bool (O.Zaa (v0.den:Int)),.vec false 1 ((O.Zae (v0.den:Int)).map (.int .u32))],.agg [.bool (O.Zaa u1.num),.vec false 1 ((O.Zae u1.num).map (.int .u32)),.bool (O.Zaa (u1.den:Int)),.vec false 1 ((O.Zae (u1.den:Int)).map (.int .u32)),.bool (O.Zaa v0.num),.vec false 1 ((O.Zae v0.num).map (.int .u32)),.bool (O.Zaa (v0.den:Int)),.vec false 1 ((O.Zae (v0.den:Int)).map (.int .u32))],.agg [.bool (O.Zaa u1.num),.vec false 1 ((O.Zae u1.num).map (.int .u32)),.bool (O.Zaa (u1.den:Int)),.vec false 1 ((O.Zae (u1.den:Int)).map (.int .u32)),.bool (O.Zaa v1.num),.vec false 1 ((O.Zae v1.num).map (.int .u32)),.bool (O.Zaa (v1.den:Int)),.vec false 1 ((O.Zae (v1.den:Int)).map (.int .u32))],.agg [.bool (O.Zaa u0.num),.vec false 1 ((O.Zae u0.num).map (.int .u32)),.bool (O.Zaa (u0.den:Int)),.vec false 1 ((O.Zae (u0.den:Int)).map (.int .u32)),.bool (O.Zaa v1.num),.vec false 1 ((O.Zae v1.num).map (.int .u32)),.bool (O.Zaa (v1.den:Int)),.vec false 1 ((O.Zae (v1.den:Int)).map (.int .u32))]]),(61,.vec true 8 [.agg [.bool (O.Zaa u0.num),.vec false 1 ((O.Zae u0.num).map (.int .u32)),.bool (O.Zaa (u0.den:Int)),.vec false 1 ((O.Zae (u0.den:Int)).map (.int .u32)),.bool (O.Zaa v0.num),.vec false 1 ((O.Zae v0.num).map (.int .u32)),.bool (O.Zaa (v0.den:Int)),.vec false 1 ((O.Zae (v0.den:Int)).map (.int .u32))],.agg [.bool (O.Zaa u1.num),.vec false 1 ((O.Zae u1.num).map (.int .u32)),.bool (O.Zaa (u1.den:Int)),.vec false 1 ((O.Zae (u1.den:Int)).map (.int .u32)),.bool (O.Zaa v0.num),.vec false 1 ((O.Zae v0.num).map (.int .u32)),.bool (O.Zaa (v0.den:Int)),.vec false 1 ((O.Zae (v0.den:Int)).map (.int .u32))],.agg [.bool (O.Zaa u1.num),.vec false 1 ((O.Zae u1.num).map (.int .u32)),.bool (O.Zaa (u1.den:Int)),.vec false 1 ((O.Zae (u1.den:Int)).map (.int .u32)),.bool (O.Zaa v1.num),.vec false 1 ((O.Zae v1.num).map (.int .u32)),.bool (O.Zaa (v1.den:Int)),.vec false 1 ((O.Zae (v1.den:Int)).map (.int .u32))],.agg [.bool (O.Zaa u0.num),.vec false 1 ((O.Zae u0.num).map (.int .u32)),.bool (O.Zaa (u0.den:Int)),.vec false 1 ((O.Zae (u0.den:Int)).map (.int .u32)),.bool (O.Zaa v1.num),.vec false 1 ((O.Zae v1.num).map (.int .u32)),.bool (O.Zaa (v1.den:Int)),.vec false 1 ((O.Zae (v1.den:Int)).map (.int .u32))]]),(62,.int .i64 4),(63,.int .i64 2)] [⟨[ratF m],4,0,false,false⟩,⟨[.agg [.bool (O.Zaa a1.num),.vec false 1 ((O.Zae a1.num).map (.int .u32)),.bool (O.Zaa (a1.den:Int)),.vec false 1 ((O.Zae (a1.den:Int)).map (.int .u32)),.bool (O.Zaa a2.num),.vec false 1 ((O.Zae a2.num).map (.int .u32)),.bool (O.Zaa (a2.den:Int)),.vec false 1 ((O.Zae (a2.den:Int)).map (.int .u32))]],8,0,false,false⟩,⟨[.agg [.bool (O.Zaa b1.num),.vec false 1 ((O.Zae b1.num).map (.int .u32)),.bool (O.Zaa (b1.den:Int)),.vec false 1 ((O.Zae (b1.den:Int)).map (.int .u32)),.bool (O.Zaa b2.num),.vec false 1 ((O.Zae b2.num).map (.int .u32)),.bool (O.Zaa (b2.den:Int)),.vec false 1 ((O.Zae (b2.den:Int)).map (.int .u32))]],8,0,false,false⟩]) Q
def qNe3_at (u0 v0 u1 v1 a1 a2 b1 b2 m:Rat) (Q:AV->Heap->Prop):Prop:=Wp M1 (.run fi67 (atC (cd Try.f67) [1,1,1,1,1,1,1,0,1,0,0]) [(9,.ptr 0 0 0 0),(10,.ptr 1 0 0 0),(11,.ptr 2 0 0 0),(12,.vec true 8 [.agg [.bool (O.Zaa u0.num),.vec false 1 ((O.Zae u0.num).map (.int .u32)),.bool (O.Zaa (u0.den:Int)),.vec false 1 ((O.Zae (u0.den:Int)).map (.int .u32)),.bool (O.Zaa v0.num),.vec false 1 ((O.Zae v0.num).map (.int .u32)),.bool (O.Zaa (v0.den:Int)),.vec false 1 ((O.Zae (v0.den:Int)).map (.int .u32))],.agg [.bool (O.Zaa u1.num),.vec false 1 ((O.Zae u1.num).map (.int .u32)),.bool (O.Zaa (u1.den:Int)),.vec false 1 ((O.Zae (u1.den:Int)).map (.int .u32)),.bool (O.Zaa v0.num),.vec false 1 ((O.Zae v0.num).map (.int .u32)),.bool (O.Zaa (v0.den:Int)),.vec false 1 ((O.Zae (v0.den:Int)).map (.int .u32))],.agg [.bool (O.Zaa u1.num),.vec false 1 ((O.Zae u1.num).map (.int .u32)),.bool (O.Zaa (u1.den:Int)),.vec false 1 ((O.Zae (u1.den:Int)).map (.int .u32)),.bool (O.Zaa v1.num),.vec false 1 ((O.Zae v1.num).map (.int .u32)),.bool (O.Zaa (v1.den:Int)),.vec false 1 ((O.Zae (v1.den:Int)).map (.int .u32))],.agg [.bool (O.Zaa u0.num),.vec false 1 ((O.Zae u0.num).map (.int .u32)),.bool (O.Zaa (u0.den:Int)),.vec false 1 ((O.Zae (u0.den:Int)).map (.int .u32)),.bool (O.Zaa v1.num),.vec false 1 ((O.Zae v1.num).map (.int .u32)),.bool (O.Zaa (v1.den:Int)),.vec false 1 ((O.Zae (v1.den:Int)).map (.int .u32))]]),(61,.vec true 8 [.agg [.bool (O.Zaa u0.num),.vec false 1 ((O.Zae u0.num).map (.int .u32)),.bool (O.Zaa (u0.den:Int)),.vec false 1 ((O.Zae (u0.den:Int)).map (.int .u32)),.bool (O.Zaa v0.num),.vec false 1 ((O.Zae v0.num).map (.int .u32)),.bool (O.Zaa (v0.den:Int)),.vec false 1 ((O.Zae (v0.den:Int)).map (.int .u32))],.agg [.bool (O.Zaa u1.num),.vec false 1 ((O.Zae u1.num).map (.int .u32)),.bool (O.Zaa (u1.den:Int)),.vec false 1 ((O.Zae (u1.den:Int)).map (.int .u32)),.bool (O.Zaa v0.num),.vec false 1 ((O.Zae v0.num).map (.int .u32)),.bool (O.Zaa (v0.den:Int)),.vec false 1 ((O.Zae (v0.den:Int)).map (.int .u32))],.agg [.bool (O.Zaa u1.num),.vec false 1 ((O.Zae u1.num).map (.int .u32)),.bool (O.Zaa (u1.den:Int)),.vec false 1 ((O.Zae (u1.den:Int)).map (.int .u32)),.bool (O.Zaa v1.num),.vec false 1 ((O.Zae v1.num).map (.int .u32)),.bool (O.Zaa (v1.den:Int)),.vec false 1 ((O.Zae (v1.den:Int)).map (.int .u32))],.agg [.bool (O.Zaa u0.num),.vec false 1 ((O.Zae u0.num).map (.int .u32)),.bool (O.Zaa (u0.den:Int)),.vec false 1 ((O.Zae (u0.den:Int)).map (.int .u32)),.bool (O.Zaa v1.num),.vec false 1 ((O.Zae v1.num).map (.int .u32)),.bool (O.Zaa (v1.den:Int)),.vec false 1 ((O.Zae (v1.den:Int)).map (.int .u32))]]),(62,.int .i64 4),(63,.int .i64 3)] [⟨[ratF m],4,0,false,false⟩,⟨[.agg [.bool (O.Zaa a1.num),.vec false 1 ((O.Zae a1.num).map (.int .u32)),.bool (O.Zaa (a1.den:Int)),.vec false 1 ((O.Zae (a1.den:Int)).map (.int .u32)),.bool (O.Zaa a2.num),.vec false 1 ((O.Zae a2.num).map (.int .u32)),.bool (O.Zaa (a2.den:Int)),.vec false 1 ((O.Zae (a2.den:Int)).map (.int .u32))]],8,0,false,false⟩,⟨[.agg [.bool (O.Zaa b1.num),.vec false 1 ((O.Zae b1.num).map (.int .u32)),.bool (O.Zaa (b1.den:Int)),.vec false 1 ((O.Zae (b1.den:Int)).map (.int .u32)),.bool (O.Zaa b2.num),.vec false 1 ((O.Zae b2.num).map (.int .u32)),.bool (O.Zaa (b2.den:Int)),.vec false 1 ((O.Zae (b2.den:Int)).map (.int .u32))]],8,0,false,false⟩]) Q
def qNe4_at (u0 v0 u1 v1 a1 a2 b1 b2 m:Rat) (Q:AV->Heap->Prop):Prop:=Wp M1 (.run fi67 (atC (cd Try.f67) [1,1,1,1,1,1,1,0,1,0,0]) [(9,.ptr 0 0 0 0),(10,.ptr 1 0 0 0),(11,.ptr 2 0 0 0),(12,.vec true 8 [.agg [.bool (O.Zaa u0.num),.vec false 1 ((O.Zae u0.num).map (.int .u32)),.bool (O.Zaa (u0.den:Int)),.vec false 1 ((O.Zae (u0.den:Int)).map (.int .u32)),.bool (O.Zaa v0.num),.vec false 1 ((O.Zae v0.num).map (.int .u32)),.bool (O.Zaa (v0.den:Int)),.vec false 1 ((O.Zae (v0.den:Int)).map (.int .u32))],.agg [.bool (O.Zaa u1.num),.vec false 1 ((O.Zae u1.num).map (.int .u32)),.bool (O.Zaa (u1.den:Int)),.vec false 1 ((O.Zae (u1.den:Int)).map (.int .u32)),.bool (O.Zaa v0.num),.vec false 1 ((O.Zae v0.num).map (.int .u32)),.bool (O.Zaa (v0.den:Int)),.vec false 1 ((O.Zae (v0.den:Int)).map (.int .u32))],.agg [.bool (O.Zaa u1.num),.vec false 1 ((O.Zae u1.num).map (.int .u32)),.bool (O.Zaa (u1.den:Int)),.vec false 1 ((O.Zae (u1.den:Int)).map (.int .u32)),.bool (O.Zaa v1.num),.vec false 1 ((O.Zae v1.num).map (.int .u32)),.bool (O.Zaa (v1.den:Int)),.vec false 1 ((O.Zae (v1.den:Int)).map (.int .u32))],.agg [.bool (O.Zaa u0.num),.vec false 1 ((O.Zae u0.num).map (.int .u32)),.bool (O.Zaa (u0.den:Int)),.vec false 1 ((O.Zae (u0.den:Int)).map (.int .u32)),.bool (O.Zaa v1.num),.vec false 1 ((O.Zae v1.num).map (.int .u32)),.bool (O.Zaa (v1.den:Int)),.vec false 1 ((O.Zae (v1.den:Int)).map (.int .u32))]]),(61,.vec true 8 [.agg [.bool (O.Zaa u0.num),.vec false 1 ((O.Zae u0.num).map (.int .u32)),.bool (O.Zaa (u0.den:Int)),.vec false 1 ((O.Zae (u0.den:Int)).map (.int .u32)),.bool (O.Zaa v0.num),.vec false 1 ((O.Zae v0.num).map (.int .u32)),.bool (O.Zaa (v0.den:Int)),.vec false 1 ((O.Zae (v0.den:Int)).map (.int .u32))],.agg [.bool (O.Zaa u1.num),.vec false 1 ((O.Zae u1.num).map (.int .u32)),.bool (O.Zaa (u1.den:Int)),.vec false 1 ((O.Zae (u1.den:Int)).map (.int .u32)),.bool (O.Zaa v0.num),.vec false 1 ((O.Zae v0.num).map (.int .u32)),.bool (O.Zaa (v0.den:Int)),.vec false 1 ((O.Zae (v0.den:Int)).map (.int .u32))],.agg [.bool (O.Zaa u1.num),.vec false 1 ((O.Zae u1.num).map (.int .u32)),.bool (O.Zaa (u1.den:Int)),.vec false 1 ((O.Zae (u1.den:Int)).map (.int .u32)),.bool (O.Zaa v1.num),.vec false 1 ((O.Zae v1.num).map (.int .u32)),.bool (O.Zaa (v1.den:Int)),.vec false 1 ((O.Zae (v1.den:Int)).map (.int .u32))],.agg [.bool (O.Zaa u0.num),.vec false 1 ((O.Zae u0.num).map (.int .u32)),.bool (O.Zaa (u0.den:Int)),.vec false 1 ((O.Zae (u0.den:Int)).map (.int .u32)),.bool (O.Zaa v1.num),.vec false 1 ((O.Zae v1.num).map (.int .u32)),.bool (O.Zaa (v1.den:Int)),.vec false 1 ((O.Zae (v1.den:Int)).map (.int .u32))]]),(62,.int .i64 4),(63,.int .i64 4)] [⟨[ratF m],4,0,false,false⟩,⟨[.agg [.bool (O.Zaa a1.num),.vec false 1 ((O.Zae a1.num).map (.int .u32)),.bool (O.Zaa (a1.den:Int)),.vec false 1 ((O.Zae (a1.den:Int)).map (.int .u32)),.bool (O.Zaa a2.num),.vec false 1 ((O.Zae a2.num).map (.int .u32)),.bool (O.Zaa (a2.den:Int)),.vec false 1 ((O.Zae (a2.den:Int)).map (.int .u32))]],8,0,false,false⟩,⟨[.agg [.bool (O.Zaa b1.num),.vec false 1 ((O.Zae b1.num).map (.int .u32)),.bool (O.Zaa (b1.den:Int)),.vec false 1 ((O.Zae (b1.den:Int)).map (.int .u32)),.bool (O.Zaa b2.num),.vec false 1 ((O.Zae b2.num).map (.int .u32)),.bool (O.Zaa (b2.den:Int)),.vec false 1 ((O.Zae (b2.den:Int)).map (.int .u32))]],8,0,false,false⟩]) Q
theorem call67 {args:List AV} {d:AV} (h:wc M1 fi67 Try.f67 args d):Ev M1 (.pure 67 args) d []:=pcl _ _ (by kernel_rfl) h
noncomputable abbrev zNqO1 (bx:Int) (by_:Int):=ag [vb (O.Zaa (O.qi bx).num),vf (us (O.Zae (O.qi bx).num)),vb (O.Zaa (↑(O.qi bx).den:Int)),vf (us (O.Zae (↑(O.qi bx).den:Int))),vb (O.Zaa (O.qi by_).num),vf (us (O.Zae (O.qi by_).num)),vb (O.Zaa (↑(O.qi by_).den:Int)),vf (us (O.Zae (↑(O.qi by_).den:Int)))]
noncomputable abbrev zNqO2 (ax:Int) (ay:Int):=ag [vb (O.Zaa (O.qi ax).num),vf (us (O.Zae (O.qi ax).num)),vb (O.Zaa (↑(O.qi ax).den:Int)),vf (us (O.Zae (↑(O.qi ax).den:Int))),vb (O.Zaa (O.qi ay).num),vf (us (O.Zae (O.qi ay).num)),vb (O.Zaa (↑(O.qi ay).den:Int)),vf (us (O.Zae (↑(O.qi ay).den:Int)))]
noncomputable abbrev zNqO3 (x0:Int) (y0:Int):=ag [vb (O.Zaa (O.qi x0).num),vf (us (O.Zae (O.qi x0).num)),vb (O.Zaa (↑(O.qi x0).den:Int)),vf (us (O.Zae (↑(O.qi x0).den:Int))),vb (O.Zaa (O.qi y0).num),vf (us (O.Zae (O.qi y0).num)),vb (O.Zaa (↑(O.qi y0).den:Int)),vf (us (O.Zae (↑(O.qi y0).den:Int)))]
noncomputable abbrev zNqO4 (x1:Int) (y0:Int):=ag [vb (O.Zaa (O.qi x1).num),vf (us (O.Zae (O.qi x1).num)),vb (O.Zaa (↑(O.qi x1).den:Int)),vf (us (O.Zae (↑(O.qi x1).den:Int))),vb (O.Zaa (O.qi y0).num),vf (us (O.Zae (O.qi y0).num)),vb (O.Zaa (↑(O.qi y0).den:Int)),vf (us (O.Zae (↑(O.qi y0).den:Int)))]
noncomputable abbrev zNqO5 (x1:Int) (y1:Int):=ag [vb (O.Zaa (O.qi x1).num),vf (us (O.Zae (O.qi x1).num)),vb (O.Zaa (↑(O.qi x1).den:Int)),vf (us (O.Zae (↑(O.qi x1).den:Int))),vb (O.Zaa (O.qi y1).num),vf (us (O.Zae (O.qi y1).num)),vb (O.Zaa (↑(O.qi y1).den:Int)),vf (us (O.Zae (↑(O.qi y1).den:Int)))]
noncomputable abbrev zNqO6 (x0:Int) (y1:Int):=ag [vb (O.Zaa (O.qi x0).num),vf (us (O.Zae (O.qi x0).num)),vb (O.Zaa (↑(O.qi x0).den:Int)),vf (us (O.Zae (↑(O.qi x0).den:Int))),vb (O.Zaa (O.qi y1).num),vf (us (O.Zae (O.qi y1).num)),vb (O.Zaa (↑(O.qi y1).den:Int)),vf (us (O.Zae (↑(O.qi y1).den:Int)))]
noncomputable abbrev zNqO7 (x0:Int) (y0:Int) (x1:Int) (y1:Int) (tp:Int):=ag [vi x0,vi y0,vi x1,vi y1,vi tp]
noncomputable abbrev zNqO8 (bx:Int) (by_:Int):=ag [vi bx,vi by_]
noncomputable abbrev zNqO9 (ax:Int) (ay:Int):=ag [vi ax,vi ay]
theorem qNe (x0 y0 x1 y1 tp ax ay bx by_ r:Int)  (dq:AV) (H :
  ((r<=0)->vb false=dq) /\
  (¬(r<=0)->(((O.hld x0 y0 x1 y1 ax ay)\/(O.hld x0 y0 x1 y1 bx by_))->vb true=dq) /\
   (¬((O.hld x0 y0 x1 y1 ax ay)\/(O.hld x0 y0 x1 y1 bx by_))->(O.inI r) /\
    (O.okR (O.qi r)/\O.okR (O.qi r)) /\
    (O.inI2 ax ay) /\
    (O.inI2 bx by_) /\
    (O.inI2 x0 y0) /\
    (O.inI2 x1 y0) /\
    (O.inI2 x1 y1) /\
    (O.inI2 x0 y1) /\
    qNe0_at (O.qi x0) (O.qi y0) (O.qi x1) (O.qi y1) (O.qi ax) (O.qi ay) (O.qi bx) (O.qi by_) (O.qi r*O.qi r) (Zaf dq)))) :
 qNe_at x0 y0 x1 y1 tp ax ay bx by_ r (Zaf dq):=by
 unfold qNe_at
 rcases xq H with ⟨d2,H⟩|⟨d2,H⟩
 ·exact Zai (G:=Zad kp67 [] []) 1000 [true] (vb false) (by kernel_rfl) (bc (Zao (Zab.2 d2)) b0) q0 c0 H
 ·refine Zac (G:=Zad kp67 [(3,2,.call (vb (decide (O.hld x0 y0 x1 y1 ax ay))) none),(3,6,.call (vb (decide (O.hld x0 y0 x1 y1 bx by_))) none)] []) 10 [false] ⟨(atC (cd Try.f67) [1,1,0,1]),[(3,vi r),(4,AV.ptr 0 0 0 0),(5,AV.ptr 1 0 0 0),(6,AV.ptr 2 0 0 0),(24,vb (bif decide (O.hld x0 y0 x1 y1 ax ay) then true else decide (O.hld x0 y0 x1 y1 bx by_)))],[⟨[(zNqO7 x0 y0 x1 y1 tp)],5,0,false,false⟩,⟨[(zNqO9 ax ay)],2,0,false,false⟩,⟨[(zNqO8 bx by_)],2,0,false,false⟩],[(decide (r<=0))==false,true,true,!(decide (O.hld x0 y0 x1 y1 ax ay)==false&&true)||true,!(decide (O.hld x0 y0 x1 y1 ax ay)==false&&true)||true],[],[⟨true,false,68,[(zNqO7 x0 y0 x1 y1 tp),(zNqO9 ax ay)],[],vb (decide (O.hld x0 y0 x1 y1 ax ay)),[]⟩,⟨decide (O.hld x0 y0 x1 y1 ax ay)==false&&true&&true,false,68,[(zNqO7 x0 y0 x1 y1 tp),(zNqO8 bx by_)],[],vb (decide (O.hld x0 y0 x1 y1 bx by_)),[]⟩]⟩ (by kernel_rfl) (bc (Zaj (fun h=>d2 (Zab.1 h))) (bc rfl (bc rfl (bc (Bool.or_true _) (bc (Bool.or_true _) b0))))) q0 (cc (fun _=>(@ev68 x0 y0 x1 y1 tp ax ay)) (cc (fun hc=>((@ev68 x0 y0 x1 y1 tp bx by_):Ev M1 (Conf.pure 68 [(zNqO7 x0 y0 x1 y1 tp),(zNqO8 bx by_)]) (vb (decide (O.hld x0 y0 x1 y1 bx by_))) [])) c0)) ?_
  rcases xq H with ⟨d5,H⟩|⟨d5,H⟩
  ·exact Zai (G:=Zad kp67 [] []) 1000 [true] (vb true) (by kernel_rfl) (bc (Zao ((ZaP Zab Zab).2 d5)) b0) q0 c0 H
  ·obtain ⟨k6,k7,k8,k9,H⟩:=H
   refine Zac (G:=Zad kp67 [(5,1,.call (ratF (O.qi r)) none),(6,2,.call (ratF (O.qi r*O.qi r)) none),(7,4,.call ((zNqO2 ax ay)) none),(7,9,.call ((zNqO1 bx by_)) none)] []) 7 [false] ⟨(atC (cd Try.f67) [1,1,1,1,1,0]),[(4,AV.ptr 0 0 0 0),(5,AV.ptr 1 0 0 0),(6,AV.ptr 2 0 0 0),(9,AV.ptr 3 0 0 0)],[⟨[(zNqO7 x0 y0 x1 y1 tp)],5,0,false,false⟩,⟨[(zNqO9 ax ay)],2,0,false,false⟩,⟨[(zNqO8 bx by_)],2,0,false,false⟩,⟨[ratF (O.qi r*O.qi r)],4,0,false,false⟩],_,[],_⟩ (by kernel_rfl) (bc (Zaj (fun h=>d5 ((ZaP Zab Zab).1 h))) (bc rfl (bc rfl (bc rfl (bc rfl b0))))) q0 (ce (@ev69 r k6) (ce (@ev70 false false false false (O.qi r) (O.qi r) k7) c0)) (Zd3 (G:=Zad kp67 [(5,1,.call (ratF (O.qi r)) none),(6,2,.call (ratF (O.qi r*O.qi r)) none),(7,4,.call ((zNqO2 ax ay)) none),(7,9,.call ((zNqO1 bx by_)) none)] []) [0,1,2,3,5,4] 10 (e1:=[(4,AV.ptr 0 0 0 0),(9,AV.ptr 3 0 0 0),(10,AV.ptr 4 0 0 0),(11,AV.ptr 5 0 0 0)]) (L1:=[⟨[(zNqO7 x0 y0 x1 y1 tp)],5,0,false,false⟩,⟨[(zNqO9 ax ay)],2,0,false,false⟩,⟨[(zNqO8 bx by_)],2,0,false,false⟩,⟨[ratF (O.qi r*O.qi r)],4,0,false,false⟩,⟨[(zNqO2 ax ay)],8,0,false,false⟩,⟨[(zNqO1 bx by_)],8,0,false,false⟩]) (a:=[true,true,true,true,true,true]) (q:=[]) (cs:=[⟨true,false,71,[vi ax,vi ay],[],(zNqO2 ax ay),[]⟩,⟨true,false,71,[vi bx,vi by_],[],(zNqO1 bx by_),[]⟩]) (by kernel_rfl) (by kernel_rfl) (Zag rfl (Zag rfl (Zag rfl (Zag rfl (Zag rfl (Zag rfl ZaA)))))) ZaQ (ZaI (fun _=>(@ev71 ax ay k8)) (ZaI (fun _=>(@ev71 bx by_ k9)) ZaR)) ?_)
   obtain ⟨k10,k11,k12,k13,H⟩:=H
   exact Zac (G:=Zad kp67 [(8,4,.call ((zNqO3 x0 y0)) none),(8,9,.call ((zNqO4 x1 y0)) none),(8,14,.call ((zNqO5 x1 y1)) none),(8,19,.call ((zNqO6 x0 y1)) none)] []) 1000 [] ⟨(atC (cd Try.f67) [1,1,1,1,1,1,1,0,1,0,0]),[(9,AV.ptr 3 0 0 0),(10,AV.ptr 4 0 0 0),(11,AV.ptr 5 0 0 0),(12,AV.vec true 8 [(zNqO3 x0 y0),(zNqO4 x1 y0),(zNqO5 x1 y1),(zNqO6 x0 y1)]),(61,AV.vec true 8 [(zNqO3 x0 y0),(zNqO4 x1 y0),(zNqO5 x1 y1),(zNqO6 x0 y1)]),(62,vi 4),(63,vi 0)],[⟨[(zNqO7 x0 y0 x1 y1 tp)],5,0,false,false⟩,⟨[(zNqO9 ax ay)],2,0,false,false⟩,⟨[(zNqO8 bx by_)],2,0,false,false⟩,⟨[ratF (O.qi r*O.qi r)],4,0,false,false⟩,⟨[(zNqO2 ax ay)],8,0,false,false⟩,⟨[(zNqO1 bx by_)],8,0,false,false⟩],_,[],_⟩ (by kernel_rfl) (bc rfl (bc rfl (bc rfl (bc rfl (bc rfl (bc rfl (bc rfl (bc rfl b0)))))))) q0 (ce (@ev71 x0 y0 k10) (ce (@ev71 x1 y0 k11) (ce (@ev71 x1 y1 k12) (ce (@ev71 x0 y1 k13) c0)))) (Zav [3,4,5] (by kernel_rfl) H)
noncomputable abbrev Zf2 (u0:Rat) (v0:Rat):=ag [vb (O.Zaa u0.num),vf (us (O.Zae u0.num)),vb (O.Zaa (↑u0.den:Int)),vf (us (O.Zae (↑u0.den:Int))),vb (O.Zaa v0.num),vf (us (O.Zae v0.num)),vb (O.Zaa (↑v0.den:Int)),vf (us (O.Zae (↑v0.den:Int)))]
noncomputable abbrev zNqO11 (u1:Rat) (v0:Rat):=ag [vb (O.Zaa u1.num),vf (us (O.Zae u1.num)),vb (O.Zaa (↑u1.den:Int)),vf (us (O.Zae (↑u1.den:Int))),vb (O.Zaa v0.num),vf (us (O.Zae v0.num)),vb (O.Zaa (↑v0.den:Int)),vf (us (O.Zae (↑v0.den:Int)))]
noncomputable abbrev zNqO12 (u1:Rat) (v1:Rat):=ag [vb (O.Zaa u1.num),vf (us (O.Zae u1.num)),vb (O.Zaa (↑u1.den:Int)),vf (us (O.Zae (↑u1.den:Int))),vb (O.Zaa v1.num),vf (us (O.Zae v1.num)),vb (O.Zaa (↑v1.den:Int)),vf (us (O.Zae (↑v1.den:Int)))]
noncomputable abbrev zNqO13 (u0:Rat) (v1:Rat):=ag [vb (O.Zaa u0.num),vf (us (O.Zae u0.num)),vb (O.Zaa (↑u0.den:Int)),vf (us (O.Zae (↑u0.den:Int))),vb (O.Zaa v1.num),vf (us (O.Zae v1.num)),vb (O.Zaa (↑v1.den:Int)),vf (us (O.Zae (↑v1.den:Int)))]
noncomputable abbrev zNqO14 (a1:Rat) (a2:Rat):=ag [vb (O.Zaa a1.num),vf (us (O.Zae a1.num)),vb (O.Zaa (↑a1.den:Int)),vf (us (O.Zae (↑a1.den:Int))),vb (O.Zaa a2.num),vf (us (O.Zae a2.num)),vb (O.Zaa (↑a2.den:Int)),vf (us (O.Zae (↑a2.den:Int)))]
noncomputable abbrev zNqO15 (b1:Rat) (b2:Rat):=ag [vb (O.Zaa b1.num),vf (us (O.Zae b1.num)),vb (O.Zaa (↑b1.den:Int)),vf (us (O.Zae (↑b1.den:Int))),vb (O.Zaa b2.num),vf (us (O.Zae b2.num)),vb (O.Zaa (↑b2.den:Int)),vf (us (O.Zae (↑b2.den:Int)))]
theorem qNe0 (u0 v0 u1 v1 a1 a2 b1 b2 m:Rat)  (dq:AV) (H :
  (O.okV4 a1 a2 b1 b2 u0 v0 u1 v0) /\
  (O.okR (O.seg a1 a2 b1 b2 u0 v0 u1 v0)/\O.okR m) /\
  ((O.sgnI ((O.seg a1 a2 b1 b2 u0 v0 u1 v0).num*(↑m.den:Int)-m.num*(↑(O.seg a1 a2 b1 b2 u0 v0 u1 v0).den:Int))<0)->vb true=dq) /\
  (¬(O.sgnI ((O.seg a1 a2 b1 b2 u0 v0 u1 v0).num*(↑m.den:Int)-m.num*(↑(O.seg a1 a2 b1 b2 u0 v0 u1 v0).den:Int))<0)->qNe1_at u0 v0 u1 v1 a1 a2 b1 b2 m (Zaf dq))) :
 qNe0_at u0 v0 u1 v1 a1 a2 b1 b2 m (Zaf dq):=by
 unfold qNe0_at
 obtain ⟨k1,k2,H⟩:=H
 refine Zac (G:=Zad kp67 [(12,9,.call (ratF (O.seg a1 a2 b1 b2 u0 v0 u1 v0)) none),(12,11,.call (vi (O.sgnI ((O.seg a1 a2 b1 b2 u0 v0 u1 v0).num*(↑m.den:Int)-m.num*(↑(O.seg a1 a2 b1 b2 u0 v0 u1 v0).den:Int)))) none)] []) 11 [true] ⟨(atC (cd Try.f67) [1,1,1,1,1,1,1,0,1,0,0,1,1,0,0,1,1]),[(9,AV.ptr 0 0 0 0),(10,AV.ptr 1 0 0 0),(11,AV.ptr 2 0 0 0),(12,AV.vec true 8 [(Zf2 u0 v0),(zNqO11 u1 v0),(zNqO12 u1 v1),(zNqO13 u0 v1)]),(61,AV.vec true 8 [(Zf2 u0 v0),(zNqO11 u1 v0),(zNqO12 u1 v1),(zNqO13 u0 v1)]),(62,vi 4),(63,vi 0),(80,vb (decide (O.sgnI ((O.seg a1 a2 b1 b2 u0 v0 u1 v0).num*(↑m.den:Int)-m.num*(↑(O.seg a1 a2 b1 b2 u0 v0 u1 v0).den:Int))<0)))],[⟨[ratF m],4,0,false,false⟩,⟨[(zNqO14 a1 a2)],8,0,false,false⟩,⟨[(zNqO15 b1 b2)],8,0,false,false⟩,⟨[(Zf2 u0 v0)],8,0,false,false⟩],_,[],_⟩ (by kernel_rfl) (bc rfl (bc rfl (bc rfl (bc rfl (bc rfl (bc rfl (bc rfl (bc rfl (bc rfl (bc rfl (bc rfl b0))))))))))) q0 (ce (@ev73 false false false false false false false false false false false false false false false false a1 a2 b1 b2 u0 v0 u1 v0 k1) (ce (@ev72 false false false false (O.seg a1 a2 b1 b2 u0 v0 u1 v0) m k2) c0)) ?_
 rcases xq H with ⟨d4,H⟩|⟨d4,H⟩
 ·exact Zai (G:=Zad kp67 [] []) 1000 [true] (vb true) (by kernel_rfl) (bc (Zao (Zab.2 d4)) b0) q0 c0 H
 ·exact Zac (G:=Zad kp67 [] []) 1000 [false] ⟨(atC (cd Try.f67) [1,1,1,1,1,1,1,0,1,0,0]),[(9,AV.ptr 0 0 0 0),(10,AV.ptr 1 0 0 0),(11,AV.ptr 2 0 0 0),(12,AV.vec true 8 [(Zf2 u0 v0),(zNqO11 u1 v0),(zNqO12 u1 v1),(zNqO13 u0 v1)]),(61,AV.vec true 8 [(Zf2 u0 v0),(zNqO11 u1 v0),(zNqO12 u1 v1),(zNqO13 u0 v1)]),(62,vi 4),(63,vi 1)],[⟨[ratF m],4,0,false,false⟩,⟨[(zNqO14 a1 a2)],8,0,false,false⟩,⟨[(zNqO15 b1 b2)],8,0,false,false⟩,⟨[(Zf2 u0 v0)],8,0,false,false⟩],_,[],_⟩ (by kernel_rfl) (bc (Zaj (fun h=>d4 (Zab.1 h))) b0) q0 c0 (Zav [0,1,2] (by kernel_rfl) H)
noncomputable abbrev Zf1 (u1:Rat) (v0:Rat):=ag [vb (O.Zaa u1.num),vf (us (O.Zae u1.num)),vb (O.Zaa (↑u1.den:Int)),vf (us (O.Zae (↑u1.den:Int))),vb (O.Zaa v0.num),vf (us (O.Zae v0.num)),vb (O.Zaa (↑v0.den:Int)),vf (us (O.Zae (↑v0.den:Int)))]
noncomputable abbrev zNqO17 (u0:Rat) (v0:Rat):=ag [vb (O.Zaa u0.num),vf (us (O.Zae u0.num)),vb (O.Zaa (↑u0.den:Int)),vf (us (O.Zae (↑u0.den:Int))),vb (O.Zaa v0.num),vf (us (O.Zae v0.num)),vb (O.Zaa (↑v0.den:Int)),vf (us (O.Zae (↑v0.den:Int)))]
noncomputable abbrev zNqO18 (u1:Rat) (v1:Rat):=ag [vb (O.Zaa u1.num),vf (us (O.Zae u1.num)),vb (O.Zaa (↑u1.den:Int)),vf (us (O.Zae (↑u1.den:Int))),vb (O.Zaa v1.num),vf (us (O.Zae v1.num)),vb (O.Zaa (↑v1.den:Int)),vf (us (O.Zae (↑v1.den:Int)))]
noncomputable abbrev zNqO19 (u0:Rat) (v1:Rat):=ag [vb (O.Zaa u0.num),vf (us (O.Zae u0.num)),vb (O.Zaa (↑u0.den:Int)),vf (us (O.Zae (↑u0.den:Int))),vb (O.Zaa v1.num),vf (us (O.Zae v1.num)),vb (O.Zaa (↑v1.den:Int)),vf (us (O.Zae (↑v1.den:Int)))]
noncomputable abbrev zNqO20 (a1:Rat) (a2:Rat):=ag [vb (O.Zaa a1.num),vf (us (O.Zae a1.num)),vb (O.Zaa (↑a1.den:Int)),vf (us (O.Zae (↑a1.den:Int))),vb (O.Zaa a2.num),vf (us (O.Zae a2.num)),vb (O.Zaa (↑a2.den:Int)),vf (us (O.Zae (↑a2.den:Int)))]
noncomputable abbrev zNqO21 (b1:Rat) (b2:Rat):=ag [vb (O.Zaa b1.num),vf (us (O.Zae b1.num)),vb (O.Zaa (↑b1.den:Int)),vf (us (O.Zae (↑b1.den:Int))),vb (O.Zaa b2.num),vf (us (O.Zae b2.num)),vb (O.Zaa (↑b2.den:Int)),vf (us (O.Zae (↑b2.den:Int)))]
theorem qNe1 (u0 v0 u1 v1 a1 a2 b1 b2 m:Rat)  (dq:AV) (H :
  (O.okV4 a1 a2 b1 b2 u1 v0 u1 v1) /\
  (O.okR (O.seg a1 a2 b1 b2 u1 v0 u1 v1)/\O.okR m) /\
  ((O.sgnI ((O.seg a1 a2 b1 b2 u1 v0 u1 v1).num*(↑m.den:Int)-m.num*(↑(O.seg a1 a2 b1 b2 u1 v0 u1 v1).den:Int))<0)->vb true=dq) /\
  (¬(O.sgnI ((O.seg a1 a2 b1 b2 u1 v0 u1 v1).num*(↑m.den:Int)-m.num*(↑(O.seg a1 a2 b1 b2 u1 v0 u1 v1).den:Int))<0)->qNe2_at u0 v0 u1 v1 a1 a2 b1 b2 m (Zaf dq))) :
 qNe1_at u0 v0 u1 v1 a1 a2 b1 b2 m (Zaf dq):=by
 unfold qNe1_at
 obtain ⟨k1,k2,H⟩:=H
 refine Zac (G:=Zad kp67 [(12,9,.call (ratF (O.seg a1 a2 b1 b2 u1 v0 u1 v1)) none),(12,11,.call (vi (O.sgnI ((O.seg a1 a2 b1 b2 u1 v0 u1 v1).num*(↑m.den:Int)-m.num*(↑(O.seg a1 a2 b1 b2 u1 v0 u1 v1).den:Int)))) none)] []) 11 [true] ⟨(atC (cd Try.f67) [1,1,1,1,1,1,1,0,1,0,0,1,1,0,0,1,1]),[(9,AV.ptr 0 0 0 0),(10,AV.ptr 1 0 0 0),(11,AV.ptr 2 0 0 0),(12,AV.vec true 8 [(zNqO17 u0 v0),(Zf1 u1 v0),(zNqO18 u1 v1),(zNqO19 u0 v1)]),(61,AV.vec true 8 [(zNqO17 u0 v0),(Zf1 u1 v0),(zNqO18 u1 v1),(zNqO19 u0 v1)]),(62,vi 4),(63,vi 1),(80,vb (decide (O.sgnI ((O.seg a1 a2 b1 b2 u1 v0 u1 v1).num*(↑m.den:Int)-m.num*(↑(O.seg a1 a2 b1 b2 u1 v0 u1 v1).den:Int))<0)))],[⟨[ratF m],4,0,false,false⟩,⟨[(zNqO20 a1 a2)],8,0,false,false⟩,⟨[(zNqO21 b1 b2)],8,0,false,false⟩,⟨[(Zf1 u1 v0)],8,0,false,false⟩],_,[],_⟩ (by kernel_rfl) (bc rfl (bc rfl (bc rfl (bc rfl (bc rfl (bc rfl (bc rfl (bc rfl (bc rfl (bc rfl (bc rfl b0))))))))))) q0 (ce (@ev73 false false false false false false false false false false false false false false false false a1 a2 b1 b2 u1 v0 u1 v1 k1) (ce (@ev72 false false false false (O.seg a1 a2 b1 b2 u1 v0 u1 v1) m k2) c0)) ?_
 rcases xq H with ⟨d4,H⟩|⟨d4,H⟩
 ·exact Zai (G:=Zad kp67 [] []) 1000 [true] (vb true) (by kernel_rfl) (bc (Zao (Zab.2 d4)) b0) q0 c0 H
 ·exact Zac (G:=Zad kp67 [] []) 1000 [false] ⟨(atC (cd Try.f67) [1,1,1,1,1,1,1,0,1,0,0]),[(9,AV.ptr 0 0 0 0),(10,AV.ptr 1 0 0 0),(11,AV.ptr 2 0 0 0),(12,AV.vec true 8 [(zNqO17 u0 v0),(Zf1 u1 v0),(zNqO18 u1 v1),(zNqO19 u0 v1)]),(61,AV.vec true 8 [(zNqO17 u0 v0),(Zf1 u1 v0),(zNqO18 u1 v1),(zNqO19 u0 v1)]),(62,vi 4),(63,vi 2)],[⟨[ratF m],4,0,false,false⟩,⟨[(zNqO20 a1 a2)],8,0,false,false⟩,⟨[(zNqO21 b1 b2)],8,0,false,false⟩,⟨[(Zf1 u1 v0)],8,0,false,false⟩],_,[],_⟩ (by kernel_rfl) (bc (Zaj (fun h=>d4 (Zab.1 h))) b0) q0 c0 (Zav [0,1,2] (by kernel_rfl) H)
noncomputable abbrev Zf0 (u1:Rat) (v1:Rat):=ag [vb (O.Zaa u1.num),vf (us (O.Zae u1.num)),vb (O.Zaa (↑u1.den:Int)),vf (us (O.Zae (↑u1.den:Int))),vb (O.Zaa v1.num),vf (us (O.Zae v1.num)),vb (O.Zaa (↑v1.den:Int)),vf (us (O.Zae (↑v1.den:Int)))]
noncomputable abbrev zNqO23 (u0:Rat) (v0:Rat):=ag [vb (O.Zaa u0.num),vf (us (O.Zae u0.num)),vb (O.Zaa (↑u0.den:Int)),vf (us (O.Zae (↑u0.den:Int))),vb (O.Zaa v0.num),vf (us (O.Zae v0.num)),vb (O.Zaa (↑v0.den:Int)),vf (us (O.Zae (↑v0.den:Int)))]
noncomputable abbrev zNqO24 (u1:Rat) (v0:Rat):=ag [vb (O.Zaa u1.num),vf (us (O.Zae u1.num)),vb (O.Zaa (↑u1.den:Int)),vf (us (O.Zae (↑u1.den:Int))),vb (O.Zaa v0.num),vf (us (O.Zae v0.num)),vb (O.Zaa (↑v0.den:Int)),vf (us (O.Zae (↑v0.den:Int)))]
noncomputable abbrev zNqO25 (u0:Rat) (v1:Rat):=ag [vb (O.Zaa u0.num),vf (us (O.Zae u0.num)),vb (O.Zaa (↑u0.den:Int)),vf (us (O.Zae (↑u0.den:Int))),vb (O.Zaa v1.num),vf (us (O.Zae v1.num)),vb (O.Zaa (↑v1.den:Int)),vf (us (O.Zae (↑v1.den:Int)))]
noncomputable abbrev zNqO26 (a1:Rat) (a2:Rat):=ag [vb (O.Zaa a1.num),vf (us (O.Zae a1.num)),vb (O.Zaa (↑a1.den:Int)),vf (us (O.Zae (↑a1.den:Int))),vb (O.Zaa a2.num),vf (us (O.Zae a2.num)),vb (O.Zaa (↑a2.den:Int)),vf (us (O.Zae (↑a2.den:Int)))]
noncomputable abbrev zNqO27 (b1:Rat) (b2:Rat):=ag [vb (O.Zaa b1.num),vf (us (O.Zae b1.num)),vb (O.Zaa (↑b1.den:Int)),vf (us (O.Zae (↑b1.den:Int))),vb (O.Zaa b2.num),vf (us (O.Zae b2.num)),vb (O.Zaa (↑b2.den:Int)),vf (us (O.Zae (↑b2.den:Int)))]
theorem qNe2 (u0 v0 u1 v1 a1 a2 b1 b2 m:Rat)  (dq:AV) (H :
  (O.okV4 a1 a2 b1 b2 u1 v1 u0 v1) /\
  (O.okR (O.seg a1 a2 b1 b2 u1 v1 u0 v1)/\O.okR m) /\
  ((O.sgnI ((O.seg a1 a2 b1 b2 u1 v1 u0 v1).num*(↑m.den:Int)-m.num*(↑(O.seg a1 a2 b1 b2 u1 v1 u0 v1).den:Int))<0)->vb true=dq) /\
  (¬(O.sgnI ((O.seg a1 a2 b1 b2 u1 v1 u0 v1).num*(↑m.den:Int)-m.num*(↑(O.seg a1 a2 b1 b2 u1 v1 u0 v1).den:Int))<0)->qNe3_at u0 v0 u1 v1 a1 a2 b1 b2 m (Zaf dq))) :
 qNe2_at u0 v0 u1 v1 a1 a2 b1 b2 m (Zaf dq):=by
 unfold qNe2_at
 obtain ⟨k1,k2,H⟩:=H
 refine Zac (G:=Zad kp67 [(12,9,.call (ratF (O.seg a1 a2 b1 b2 u1 v1 u0 v1)) none),(12,11,.call (vi (O.sgnI ((O.seg a1 a2 b1 b2 u1 v1 u0 v1).num*(↑m.den:Int)-m.num*(↑(O.seg a1 a2 b1 b2 u1 v1 u0 v1).den:Int)))) none)] []) 11 [true] ⟨(atC (cd Try.f67) [1,1,1,1,1,1,1,0,1,0,0,1,1,0,0,1,1]),[(9,AV.ptr 0 0 0 0),(10,AV.ptr 1 0 0 0),(11,AV.ptr 2 0 0 0),(12,AV.vec true 8 [(zNqO23 u0 v0),(zNqO24 u1 v0),(Zf0 u1 v1),(zNqO25 u0 v1)]),(61,AV.vec true 8 [(zNqO23 u0 v0),(zNqO24 u1 v0),(Zf0 u1 v1),(zNqO25 u0 v1)]),(62,vi 4),(63,vi 2),(80,vb (decide (O.sgnI ((O.seg a1 a2 b1 b2 u1 v1 u0 v1).num*(↑m.den:Int)-m.num*(↑(O.seg a1 a2 b1 b2 u1 v1 u0 v1).den:Int))<0)))],[⟨[ratF m],4,0,false,false⟩,⟨[(zNqO26 a1 a2)],8,0,false,false⟩,⟨[(zNqO27 b1 b2)],8,0,false,false⟩,⟨[(Zf0 u1 v1)],8,0,false,false⟩],_,[],_⟩ (by kernel_rfl) (bc rfl (bc rfl (bc rfl (bc rfl (bc rfl (bc rfl (bc rfl (bc rfl (bc rfl (bc rfl (bc rfl b0))))))))))) q0 (ce (@ev73 false false false false false false false false false false false false false false false false a1 a2 b1 b2 u1 v1 u0 v1 k1) (ce (@ev72 false false false false (O.seg a1 a2 b1 b2 u1 v1 u0 v1) m k2) c0)) ?_
 rcases xq H with ⟨d4,H⟩|⟨d4,H⟩
 ·exact Zai (G:=Zad kp67 [] []) 1000 [true] (vb true) (by kernel_rfl) (bc (Zao (Zab.2 d4)) b0) q0 c0 H
 ·exact Zac (G:=Zad kp67 [] []) 1000 [false] ⟨(atC (cd Try.f67) [1,1,1,1,1,1,1,0,1,0,0]),[(9,AV.ptr 0 0 0 0),(10,AV.ptr 1 0 0 0),(11,AV.ptr 2 0 0 0),(12,AV.vec true 8 [(zNqO23 u0 v0),(zNqO24 u1 v0),(Zf0 u1 v1),(zNqO25 u0 v1)]),(61,AV.vec true 8 [(zNqO23 u0 v0),(zNqO24 u1 v0),(Zf0 u1 v1),(zNqO25 u0 v1)]),(62,vi 4),(63,vi 3)],[⟨[ratF m],4,0,false,false⟩,⟨[(zNqO26 a1 a2)],8,0,false,false⟩,⟨[(zNqO27 b1 b2)],8,0,false,false⟩,⟨[(Zf0 u1 v1)],8,0,false,false⟩],_,[],_⟩ (by kernel_rfl) (bc (Zaj (fun h=>d4 (Zab.1 h))) b0) q0 c0 (Zav [0,1,2] (by kernel_rfl) H)
noncomputable abbrev ZfZ (u0:Rat) (v1:Rat):=ag [vb (O.Zaa u0.num),vf (us (O.Zae u0.num)),vb (O.Zaa (↑u0.den:Int)),vf (us (O.Zae (↑u0.den:Int))),vb (O.Zaa v1.num),vf (us (O.Zae v1.num)),vb (O.Zaa (↑v1.den:Int)),vf (us (O.Zae (↑v1.den:Int)))]
noncomputable abbrev zNqO29 (u0:Rat) (v0:Rat):=ag [vb (O.Zaa u0.num),vf (us (O.Zae u0.num)),vb (O.Zaa (↑u0.den:Int)),vf (us (O.Zae (↑u0.den:Int))),vb (O.Zaa v0.num),vf (us (O.Zae v0.num)),vb (O.Zaa (↑v0.den:Int)),vf (us (O.Zae (↑v0.den:Int)))]
noncomputable abbrev zNqO30 (u1:Rat) (v0:Rat):=ag [vb (O.Zaa u1.num),vf (us (O.Zae u1.num)),vb (O.Zaa (↑u1.den:Int)),vf (us (O.Zae (↑u1.den:Int))),vb (O.Zaa v0.num),vf (us (O.Zae v0.num)),vb (O.Zaa (↑v0.den:Int)),vf (us (O.Zae (↑v0.den:Int)))]
noncomputable abbrev zNqO31 (u1:Rat) (v1:Rat):=ag [vb (O.Zaa u1.num),vf (us (O.Zae u1.num)),vb (O.Zaa (↑u1.den:Int)),vf (us (O.Zae (↑u1.den:Int))),vb (O.Zaa v1.num),vf (us (O.Zae v1.num)),vb (O.Zaa (↑v1.den:Int)),vf (us (O.Zae (↑v1.den:Int)))]
noncomputable abbrev zNqO32 (a1:Rat) (a2:Rat):=ag [vb (O.Zaa a1.num),vf (us (O.Zae a1.num)),vb (O.Zaa (↑a1.den:Int)),vf (us (O.Zae (↑a1.den:Int))),vb (O.Zaa a2.num),vf (us (O.Zae a2.num)),vb (O.Zaa (↑a2.den:Int)),vf (us (O.Zae (↑a2.den:Int)))]
noncomputable abbrev zNqO33 (b1:Rat) (b2:Rat):=ag [vb (O.Zaa b1.num),vf (us (O.Zae b1.num)),vb (O.Zaa (↑b1.den:Int)),vf (us (O.Zae (↑b1.den:Int))),vb (O.Zaa b2.num),vf (us (O.Zae b2.num)),vb (O.Zaa (↑b2.den:Int)),vf (us (O.Zae (↑b2.den:Int)))]
theorem qNe3 (u0 v0 u1 v1 a1 a2 b1 b2 m:Rat)  (dq:AV) (H :
  (O.okV4 a1 a2 b1 b2 u0 v1 u0 v0) /\
  (O.okR (O.seg a1 a2 b1 b2 u0 v1 u0 v0)/\O.okR m) /\
  ((O.sgnI ((O.seg a1 a2 b1 b2 u0 v1 u0 v0).num*(↑m.den:Int)-m.num*(↑(O.seg a1 a2 b1 b2 u0 v1 u0 v0).den:Int))<0)->vb true=dq) /\
  (¬(O.sgnI ((O.seg a1 a2 b1 b2 u0 v1 u0 v0).num*(↑m.den:Int)-m.num*(↑(O.seg a1 a2 b1 b2 u0 v1 u0 v0).den:Int))<0)->qNe4_at u0 v0 u1 v1 a1 a2 b1 b2 m (Zaf dq))) :
 qNe3_at u0 v0 u1 v1 a1 a2 b1 b2 m (Zaf dq):=by
 unfold qNe3_at
 obtain ⟨k1,k2,H⟩:=H
 refine Zac (G:=Zad kp67 [(12,9,.call (ratF (O.seg a1 a2 b1 b2 u0 v1 u0 v0)) none),(12,11,.call (vi (O.sgnI ((O.seg a1 a2 b1 b2 u0 v1 u0 v0).num*(↑m.den:Int)-m.num*(↑(O.seg a1 a2 b1 b2 u0 v1 u0 v0).den:Int)))) none)] []) 11 [true] ⟨(atC (cd Try.f67) [1,1,1,1,1,1,1,0,1,0,0,1,1,0,0,1,1]),[(9,AV.ptr 0 0 0 0),(10,AV.ptr 1 0 0 0),(11,AV.ptr 2 0 0 0),(12,AV.vec true 8 [(zNqO29 u0 v0),(zNqO30 u1 v0),(zNqO31 u1 v1),(ZfZ u0 v1)]),(61,AV.vec true 8 [(zNqO29 u0 v0),(zNqO30 u1 v0),(zNqO31 u1 v1),(ZfZ u0 v1)]),(62,vi 4),(63,vi 3),(80,vb (decide (O.sgnI ((O.seg a1 a2 b1 b2 u0 v1 u0 v0).num*(↑m.den:Int)-m.num*(↑(O.seg a1 a2 b1 b2 u0 v1 u0 v0).den:Int))<0)))],[⟨[ratF m],4,0,false,false⟩,⟨[(zNqO32 a1 a2)],8,0,false,false⟩,⟨[(zNqO33 b1 b2)],8,0,false,false⟩,⟨[(ZfZ u0 v1)],8,0,false,false⟩],_,[],_⟩ (by kernel_rfl) (bc rfl (bc rfl (bc rfl (bc rfl (bc rfl (bc rfl (bc rfl (bc rfl (bc rfl (bc rfl (bc rfl b0))))))))))) q0 (ce (@ev73 false false false false false false false false false false false false false false false false a1 a2 b1 b2 u0 v1 u0 v0 k1) (ce (@ev72 false false false false (O.seg a1 a2 b1 b2 u0 v1 u0 v0) m k2) c0)) ?_
 rcases xq H with ⟨d4,H⟩|⟨d4,H⟩
 ·exact Zai (G:=Zad kp67 [] []) 1000 [true] (vb true) (by kernel_rfl) (bc (Zao (Zab.2 d4)) b0) q0 c0 H
 ·exact Zac (G:=Zad kp67 [] []) 1000 [false] ⟨(atC (cd Try.f67) [1,1,1,1,1,1,1,0,1,0,0]),[(9,AV.ptr 0 0 0 0),(10,AV.ptr 1 0 0 0),(11,AV.ptr 2 0 0 0),(12,AV.vec true 8 [(zNqO29 u0 v0),(zNqO30 u1 v0),(zNqO31 u1 v1),(ZfZ u0 v1)]),(61,AV.vec true 8 [(zNqO29 u0 v0),(zNqO30 u1 v0),(zNqO31 u1 v1),(ZfZ u0 v1)]),(62,vi 4),(63,vi 4)],[⟨[ratF m],4,0,false,false⟩,⟨[(zNqO32 a1 a2)],8,0,false,false⟩,⟨[(zNqO33 b1 b2)],8,0,false,false⟩,⟨[(ZfZ u0 v1)],8,0,false,false⟩],_,[],_⟩ (by kernel_rfl) (bc (Zaj (fun h=>d4 (Zab.1 h))) b0) q0 c0 (Zav [0,1,2] (by kernel_rfl) H)
theorem qNe4 (u0 v0 u1 v1 a1 a2 b1 b2 m:Rat)  (dq:AV) (H :
  vb false=dq) :
 qNe4_at u0 v0 u1 v1 a1 a2 b1 b2 m (Zaf dq):=by
 unfold qNe4_at
 exact Zai (G:=Zad kp67 [] []) 1000 [false] (vb false) (by kernel_rfl) (bc rfl b0) q0 c0 H
end Go.Av

namespace Go.Av
open Go.Proofs
namespace O
noncomputable def neS (p0 q0 p1 q1 a1 a2 b1 b2 m:Rat):Prop:=seg a1 a2 b1 b2 p0 q0 p1 q0<m\/seg a1 a2 b1 b2 p1 q0 p1 q1<m\/seg a1 a2 b1 b2 p1 q1 p0 q1<m\/seg a1 a2 b1 b2 p0 q1 p0 q0<m
noncomputable def nea (x0 y0 x1 y1 ax ay bx by_ r:Int):Prop:=¬(r<=0)/\(hld x0 y0 x1 y1 ax ay\/hld x0 y0 x1 y1 bx by_\/neS (qi x0) (qi y0) (qi x1) (qi y1) (qi ax) (qi ay) (qi bx) (qi by_) (qi r*qi r))
def okNe (x0 y0 x1 y1 ax ay bx by_ r:Int):Prop:=cc x0/\cc y0/\cc x1/\cc y1/\cc ax/\cc ay/\cc bx/\cc by_/\cc r
end O
noncomputable instance (p0 q0 p1 q1 a1 a2 b1 b2 m:Rat):Decidable (O.neS p0 q0 p1 q1 a1 a2 b1 b2 m):=by unfold O.neS;infer_instance
noncomputable instance (x0 y0 x1 y1 ax ay bx by_ r:Int):Decidable (O.nea x0 y0 x1 y1 ax ay bx by_ r):=by unfold O.nea;infer_instance
theorem cc_inI {n:Int} (h:O.cc n):O.inI n:=by unfold O.cc at h;unfold O.inI;omega
theorem okT_qi {n:Int} (h:O.cc n):O.okT 10 (O.qi n):=Zb2 (okT_int (cc_inI h)) (by omega)
theorem near_loop {p0 q0 p1 q1 a1 a2 b1 b2 m:Rat} (h1:O.okV p0 q0) (h2:O.okV p1 q1) (h3:O.okV a1 a2) (h4:O.okV b1 b2) (hm:O.okT 400 m):qNe0_at p0 q0 p1 q1 a1 a2 b1 b2 m (Zaf (.bool (decide (O.neS p0 q0 p1 q1 a1 a2 b1 b2 m)))):=by
 have R {r:Rat} (h:O.okT 400 r):O.okR r:=Zb0 h (by omega)
 have g1:O.okV p1 q0:=⟨h2.1,h1.2⟩
 have g2:O.okV p0 q1:=⟨h1.1,h2.2⟩
 have k0:O.okV4 a1 a2 b1 b2 p0 q0 p1 q0:=⟨h3,h4,h1,g1⟩
 have k1:O.okV4 a1 a2 b1 b2 p1 q0 p1 q1:=⟨h3,h4,g1,h2⟩
 have k2:O.okV4 a1 a2 b1 b2 p1 q1 p0 q1:=⟨h3,h4,h2,g2⟩
 have k3:O.okV4 a1 a2 b1 b2 p0 q1 p0 q0:=⟨h3,h4,g2,h1⟩
 have y:∀ h:O.neS p0 q0 p1 q1 a1 a2 b1 b2 m,AV.bool true = .bool (decide (O.neS p0 q0 p1 q1 a1 a2 b1 b2 m)):=fun h=>by rw [dec_t h]
 refine qNe0 _ _ _ _ _ _ _ _ _ _ ⟨k0,⟨R (okT_seg k0),R hm⟩,fun x=>y (.inl (Zcp.1 x)),fun x0 => ?_⟩
 refine qNe1 _ _ _ _ _ _ _ _ _ _ ⟨k1,⟨R (okT_seg k1),R hm⟩,fun x=>y (.inr (.inl (Zcp.1 x))),fun x1 => ?_⟩
 refine qNe2 _ _ _ _ _ _ _ _ _ _ ⟨k2,⟨R (okT_seg k2),R hm⟩,fun x=>y (.inr (.inr (.inl (Zcp.1 x)))),fun x2 => ?_⟩
 refine qNe3 _ _ _ _ _ _ _ _ _ _ ⟨k3,⟨R (okT_seg k3),R hm⟩,fun x=>y (.inr (.inr (.inr (Zcp.1 x)))),fun x3 => ?_⟩
 refine qNe4 _ _ _ _ _ _ _ _ _ _ ?_
 rw [decide_eq_false]
 rintro (h | h | h | h)
 ·exact x0 (Zcp.2 h)
 ·exact x1 (Zcp.2 h)
 ·exact x2 (Zcp.2 h)
 ·exact x3 (Zcp.2 h)
theorem ev67 (x0 y0 x1 y1 tp ax ay bx by_ r:Int) (h:O.okNe x0 y0 x1 y1 ax ay bx by_ r):Ev M1 (.pure 67 [.agg [.int .i64 x0,.int .i64 y0,.int .i64 x1,.int .i64 y1,.int .i64 tp],.agg [.int .i64 ax,.int .i64 ay],.agg [.int .i64 bx,.int .i64 by_],.int .i64 r]) (.bool (decide (O.nea x0 y0 x1 y1 ax ay bx by_ r))) []:=by
 obtain ⟨c1,c2,c3,c4,c5,c6,c7,c8,c9⟩:=h
 have V {u v:Int} (a:O.cc u) (b:O.cc v):O.okV (O.qi u) (O.qi v):=⟨okT_qi a,okT_qi b⟩
 have J {u v:Int} (a:O.cc u) (b:O.cc v):O.inI2 u v:=⟨cc_inI a,cc_inI b⟩
 have mm:O.okT 400 (O.qi r*O.qi r):=Zb2 (Zcf (okT_qi c9) (okT_qi c9)) (by omega)
 have R:O.okR (O.qi r):=Zb0 (okT_qi c9) (by omega)
 refine call67 (qNe _ _ _ _ _ _ _ _ _ _ _ ⟨fun k => ?_,fun k=>⟨fun j => ?_,fun j=>⟨cc_inI c9,⟨R,R⟩,J c5 c6,J c7 c8,J c1 c2,J c3 c2,J c3 c4,J c1 c4,?_⟩⟩⟩)
 ·rw [decide_eq_false fun x=>x.1 k]
 ·rw [decide_eq_true (show O.nea x0 y0 x1 y1 ax ay bx by_ r from ⟨k,j.elim .inl fun x => .inr (.inl x)⟩)]
 ·have e:decide (O.nea x0 y0 x1 y1 ax ay bx by_ r)=decide (O.neS (O.qi x0) (O.qi y0) (O.qi x1) (O.qi y1) (O.qi ax) (O.qi ay) (O.qi bx) (O.qi by_) (O.qi r*O.qi r)):=
   Zeg ⟨fun x=>x.2.elim (fun y=>absurd (.inl y) j) fun y=>y.elim (fun y=>absurd (.inr y) j) id,fun x=>⟨k,.inr (.inr x)⟩⟩
  rw [e]
  exact near_loop (V c1 c2) (V c3 c4) (V c5 c6) (V c7 c8) mm
end Go.Av

namespace Go.Av
open Go.Proofs
set_option maxRecDepth 100000
def fi30:Fi:=⟨4,[.cell 0 45]⟩
def kp30:List (Nat × List Nat):=[(0,[0]),(1,[0])]
def fi31:Fi:=⟨46,[.tmp 6]⟩
def kp31:List (Nat × List Nat):=[(0,[1,2,3]),(1,[1,2,3,7]),(2,[1,2,7,11,12,13]),(3,[1,2,7,11,12,13,14]),(4,[1,2,7,9,11,12,13]),(5,[1,2,7,9,11,12,13,21]),(6,[1,2,7,11,12,13]),(7,[1,2,7,11,12,13]),(8,[6])]
def fi54:Fi:=⟨41,[.tmp 8,.tmp 9]⟩
def kp54:List (Nat × List Nat):=[(0,[3,4,5,6]),(1,[3,4,5,6,10,11]),(2,[3,5,6,10,11,15,16,17]),(3,[3,5,6,10,11,15,16,17,18]),(4,[3,5,6,10,11,13,15,16,17]),(5,[3,5,6,10,11,13,15,16,17,35]),(6,[3,5,6,10,11,15,16,17]),(7,[3,5,6,10,11,15,16,17]),(8,[8,9])]
def qHi_at (f:Bool) (cs:List Bx) (u0 v0 u1 v1 th gp sf:Int) (ax ay bx by_ r:Int) (Q:AV->Heap->Prop):Prop:=Wp M1 (.run fi54 (atC (cd Try.f54) []) [(0,.agg [.int .i64 u0,.int .i64 v0,.int .i64 u1,.int .i64 v1,.int .i64 th,.int .i64 gp,.vec f 5 (cs.map Bx.a),.int .i64 sf]),(1,.agg [.int .i64 ax,.int .i64 ay]),(2,.agg [.int .i64 bx,.int .i64 by_]),(3,.int .i64 r)] []) Q
def Zd8 (f:Bool) (cs:List Bx) (ax ay bx by_ r t:Int) (fo:Bool) (n i:Int) (Q:AV->Heap->Prop):Prop:=Wp M1 (.run fi54 (atC (cd Try.f54) [1,1,0,1,0,0]) [(3,.int .i64 r),(5,.ptr 0 0 0 0),(6,.ptr 1 0 0 0),(10,.int .i64 t),(11,.bool fo),(15,.vec f 5 (cs.map Bx.a)),(16,.int .i64 n),(17,.int .i64 i)] [⟨[.agg [.int .i64 ax,.int .i64 ay]],2,0,false,false⟩,⟨[.agg [.int .i64 bx,.int .i64 by_]],2,0,false,false⟩]) Q
def qBl_at (f:Bool) (cs:List Bx) (u0 v0 u1 v1 th gp sf:Int) (z r:Int) (Q:AV->Heap->Prop):Prop:=Wp M1 (.run fi31 (atC (cd Try.f31) []) [(0,.agg [.int .i64 u0,.int .i64 v0,.int .i64 u1,.int .i64 v1,.int .i64 th,.int .i64 gp,.vec f 5 (cs.map Bx.a),.int .i64 sf]),(1,.int .i64 z),(2,.int .i64 r)] []) Q
def Zfe (f:Bool) (cs:List Bx) (z r n i:Int) (Q:AV->Heap->Prop):Prop:=Wp M1 (.run fi31 (atC (cd Try.f31) [1,1,0,1,0,0]) [(1,.int .i64 z),(2,.int .i64 r),(7,.vnil),(11,.vec f 5 (cs.map Bx.a)),(12,.int .i64 n),(13,.int .i64 i)] []) Q
def Zd9 (f:Bool) (cs gs:List Bx) (v:Nat) (z r n i:Int) (Q:AV->Heap->Prop):Prop:=Wp M1 (.run fi31 (atC (cd Try.f31) [1,1,0,1,0,0]) [(1,.int .i64 z),(2,.int .i64 r),(7,.row 0 v),(11,.vec f 5 (cs.map Bx.a)),(12,.int .i64 n),(13,.int .i64 i)] [⟨gs.map Bx.a,5,v,false,true⟩]) Q
def qBen_at  (Q:AV->Heap->Prop):Prop:=Wp M1 (.run fi30 (atC (cd Try.f30) []) [] []) Q
theorem call30 {args:List AV} {d:AV} (h:wc M1 fi30 Try.f30 args d):Ev M1 (.pure 30 args) d []:=pcl _ _ (by kernel_rfl) h
theorem call31 {args:List AV} {d:AV} (h:wc M1 fi31 Try.f31 args d):Ev M1 (.pure 31 args) d []:=pcl _ _ (by kernel_rfl) h
theorem call54 {args:List AV} {d:AV} (h:wc M1 fi54 Try.f54 args d):Ev M1 (.pure 54 args) d []:=pcl _ _ (by kernel_rfl) h
theorem qHi (f:Bool) (cs:List Bx) (u0 v0 u1 v1 th gp sf:Int) (ax ay bx by_ r:Int)  (dq:AV) (H :
  Zd8 f cs ax ay bx by_ r 0 false ((↑cs.length:Int)) 0 (Zaf dq)) :
 qHi_at f cs u0 v0 u1 v1 th gp sf ax ay bx by_ r (Zaf dq):=by
 unfold qHi_at
 have w1:(List.map Bx.a cs).length=cs.length:=List.length_map ..
 exact Zac (G:=Zad kp54 [] []) 1000 [] ⟨(atC (cd Try.f54) [1,1,0,1,0,0]),[(3,vi r),(5,AV.ptr 1 0 0 0),(6,AV.ptr 2 0 0 0),(10,vi 0),(11,vb false),(15,AV.vec f 5 (List.map Bx.a cs)),(16,vi (↑(List.map Bx.a cs).length:Int)),(17,vi 0)],[⟨[ag [vi u0,vi v0,vi u1,vi v1,vi th,vi gp,AV.vec f 5 (List.map Bx.a cs),vi sf]],8,0,false,false⟩,⟨[ag [vi ax,vi ay]],2,0,false,false⟩,⟨[ag [vi bx,vi by_]],2,0,false,false⟩],_,[],_⟩ (by kernel_rfl) (bc rfl b0) q0 c0 (by (try rw [w1]);all_goals exact Zav [1,2] (by kernel_rfl) H)
noncomputable abbrev zNqP1 (cs:List Bx) (i:Int):=ag [vi (cs.getD i.toNat default).x0,vi (cs.getD i.toNat default).y0,vi (cs.getD i.toNat default).x1,vi (cs.getD i.toNat default).y1,vi (cs.getD i.toNat default).top]
noncomputable abbrev zNqP2 (cs:List Bx) (i:Int) (ax:Int) (ay:Int) (bx:Int) (by_:Int) (r:Int):=O.nea (cs.getD i.toNat default).x0 (cs.getD i.toNat default).y0 (cs.getD i.toNat default).x1 (cs.getD i.toNat default).y1 ax ay bx by_ r
theorem qHiL (f:Bool) (cs:List Bx) (ax ay bx by_ r t:Int) (fo:Bool) (n i:Int)  (dq:AV) (H :
  ((i<n)->(0<=i) /\
   (i.toNat<cs.length) /\
   (O.okNe (cs.getD i.toNat default).x0 (cs.getD i.toNat default).y0 (cs.getD i.toNat default).x1 (cs.getD i.toNat default).y1 ax ay bx by_ r) /\
   (((O.nea (cs.getD i.toNat default).x0 (cs.getD i.toNat default).y0 (cs.getD i.toNat default).x1 (cs.getD i.toNat default).y1 ax ay bx by_ r)/\((¬(fo=true))\/((cs.getD i.toNat default).top>t)))->(-9223372036854775808<=i+1/\i+1<=9223372036854775807) /\
    Zd8 f cs ax ay bx by_ r ((cs.getD i.toNat default).top) true n (i+1) (Zaf dq)) /\
   (¬((O.nea (cs.getD i.toNat default).x0 (cs.getD i.toNat default).y0 (cs.getD i.toNat default).x1 (cs.getD i.toNat default).y1 ax ay bx by_ r)/\((¬(fo=true))\/((cs.getD i.toNat default).top>t)))->(-9223372036854775808<=i+1/\i+1<=9223372036854775807) /\
    Zd8 f cs ax ay bx by_ r t fo n (i+1) (Zaf dq))) /\
  (¬(i<n)->tu [vi t,vb fo]=dq)) :
 Zd8 f cs ax ay bx by_ r t fo n i (Zaf dq):=by
 unfold Zd8
 rcases xq H with ⟨d2,H⟩|⟨d2,H⟩
 ·obtain ⟨k4,H⟩:=H
  have w5:(List.map Bx.a cs).length=cs.length:=List.length_map ..
  have i6:(decide (i.toNat<(List.map Bx.a cs).length))=true ↔ (i.toNat<cs.length):=(by (try rw [w5]);all_goals exact Zab)
  obtain ⟨k7,k8,H⟩:=H
  refine Zac (G:=Zad kp54 [(4,1,.elem ((zNqP1 cs i))),(5,4,.call (vb (decide (zNqP2 cs i ax ay bx by_ r))) none)] []) 11 [true] ⟨(atC (cd Try.f54) [1,1,0,1,0,0,1,1,0,0,1,1]),[(3,vi r),(5,AV.ptr 0 0 0 0),(6,AV.ptr 1 0 0 0),(10,vi t),(11,vb fo),(13,AV.ptr 2 0 0 0),(15,AV.vec f 5 (List.map Bx.a cs)),(16,vi n),(17,vi i),(35,vb (bif decide (zNqP2 cs i ax ay bx by_ r) then bif !fo then true else decide ((cs.getD i.toNat default).top>t) else false))],[⟨[ag [vi ax,vi ay]],2,0,false,false⟩,⟨[ag [vi bx,vi by_]],2,0,false,false⟩,⟨[(zNqP1 cs i)],5,0,false,false⟩],[(decide (i<n))==true,decide (0<=i),decide (i.toNat<(List.map Bx.a cs).length),true,true,true,true,!((!fo)==false&&(decide (zNqP2 cs i ax ay bx by_ r)==true&&true))||true],[((List.map Bx.a cs).get?Internal i.toNat=some ((zNqP1 cs i)))],_⟩ (by kernel_rfl) (bc (Zao (Zab.2 d2)) (bc (Zab.2 k4) (bc (i6.2 k7) (bc rfl (bc rfl (bc rfl (bc rfl (bc (Bool.or_true _) b0)))))))) (qc (Zak k7) q0) (ce (@ev67 ((cs.getD i.toNat default).x0) ((cs.getD i.toNat default).y0) ((cs.getD i.toNat default).x1) ((cs.getD i.toNat default).y1) ((cs.getD i.toNat default).top) ax ay bx by_ r k8) c0) ?_
  rcases xq H with ⟨d10,H⟩|⟨d10,H⟩
  ·obtain ⟨k11,H⟩:=H
   have w12:wi (i+1)=i+1:=wI64 k11
   exact Zac (G:=Zad kp54 [] []) 1000 [true] ⟨(atC (cd Try.f54) [1,1,0,1,0,0]),[(3,vi r),(5,AV.ptr 0 0 0 0),(6,AV.ptr 1 0 0 0),(10,vi (cs.getD i.toNat default).top),(11,vb true),(15,AV.vec f 5 (List.map Bx.a cs)),(16,vi n),(17,vi (wi (i+1)))],[⟨[ag [vi ax,vi ay]],2,0,false,false⟩,⟨[ag [vi bx,vi by_]],2,0,false,false⟩,⟨[(zNqP1 cs i)],5,0,false,false⟩],[(bif decide (zNqP2 cs i ax ay bx by_ r) then bif !fo then true else decide ((cs.getD i.toNat default).top>t) else false)==true,true],[],_⟩ (by kernel_rfl) (bc (Zao ((ZaX Zab (ZaP (Zbg (ZaJ _)) Zab)).2 d10)) (bc rfl b0)) q0 c0 (by (try rw [w12]);all_goals exact Zav [0,1] (by kernel_rfl) H)
  ·obtain ⟨k13,H⟩:=H
   have w14:wi (i+1)=i+1:=wI64 k13
   exact Zac (G:=Zad kp54 [] []) 1000 [false] ⟨(atC (cd Try.f54) [1,1,0,1,0,0]),[(3,vi r),(5,AV.ptr 0 0 0 0),(6,AV.ptr 1 0 0 0),(10,vi t),(11,vb fo),(15,AV.vec f 5 (List.map Bx.a cs)),(16,vi n),(17,vi (wi (i+1)))],[⟨[ag [vi ax,vi ay]],2,0,false,false⟩,⟨[ag [vi bx,vi by_]],2,0,false,false⟩,⟨[(zNqP1 cs i)],5,0,false,false⟩],[(bif decide (zNqP2 cs i ax ay bx by_ r) then bif !fo then true else decide ((cs.getD i.toNat default).top>t) else false)==false],[],_⟩ (by kernel_rfl) (bc (Zaj (fun h=>d10 ((ZaX Zab (ZaP (Zbg (ZaJ _)) Zab)).1 h))) b0) q0 c0 (by (try rw [w14]);all_goals exact Zav [0,1] (by kernel_rfl) H)
 ·exact Zai (G:=Zad kp54 [] []) 1000 [false] (tu [vi t,vb fo]) (by kernel_rfl) (bc (Zaj (fun h=>d2 (Zab.1 h))) b0) q0 c0 H
theorem qBl (f:Bool) (cs:List Bx) (u0 v0 u1 v1 th gp sf:Int) (z r:Int)  (dq:AV) (H :
  Zfe f cs z r ((↑cs.length:Int)) 0 (Zaf dq)) :
 qBl_at f cs u0 v0 u1 v1 th gp sf z r (Zaf dq):=by
 unfold qBl_at
 have w1:(List.map Bx.a cs).length=cs.length:=List.length_map ..
 exact Zac (G:=Zad kp31 [] []) 1000 [] ⟨(atC (cd Try.f31) [1,1,0,1,0,0]),[(1,vi z),(2,vi r),(7,AV.vnil),(11,AV.vec f 5 (List.map Bx.a cs)),(12,vi (↑(List.map Bx.a cs).length:Int)),(13,vi 0)],[⟨[ag [vi u0,vi v0,vi u1,vi v1,vi th,vi gp,AV.vec f 5 (List.map Bx.a cs),vi sf]],8,0,false,false⟩],_,[],_⟩ (by kernel_rfl) (bc rfl b0) q0 c0 (by (try rw [w1]);all_goals exact Zav [] (by kernel_rfl) H)
noncomputable abbrev zNqP3 (cs:List Bx) (i:Int):=ag [vi (cs.getD i.toNat default).x0,vi (cs.getD i.toNat default).y0,vi (cs.getD i.toNat default).x1,vi (cs.getD i.toNat default).y1,vi (cs.getD i.toNat default).top]
theorem qBl0 (f:Bool) (cs:List Bx) (z r n i:Int)  (dq:AV) (H :
  ((i<n)->(0<=i) /\
   (i.toNat<cs.length) /\
   (-9223372036854775808<=(cs.getD i.toNat default).top+1000/\(cs.getD i.toNat default).top+1000<=9223372036854775807) /\
   (((cs.getD i.toNat default).top+1000>z)->(-9223372036854775808<=(cs.getD i.toNat default).x0-r/\(cs.getD i.toNat default).x0-r<=9223372036854775807) /\
    (-9223372036854775808<=(cs.getD i.toNat default).y0-r/\(cs.getD i.toNat default).y0-r<=9223372036854775807) /\
    (-9223372036854775808<=(cs.getD i.toNat default).x1+r/\(cs.getD i.toNat default).x1+r<=9223372036854775807) /\
    (-9223372036854775808<=(cs.getD i.toNat default).y1+r/\(cs.getD i.toNat default).y1+r<=9223372036854775807) /\
    (-9223372036854775808<=i+1/\i+1<=9223372036854775807) /\
    Zd9 f cs ([{ x0:=(cs.getD i.toNat default).x0-r,y0:=(cs.getD i.toNat default).y0-r,x1:=(cs.getD i.toNat default).x1+r,y1:=(cs.getD i.toNat default).y1+r,top:=(cs.getD i.toNat default).top }]) 0 z r n (i+1) (Zaf dq)) /\
   (¬((cs.getD i.toNat default).top+1000>z)->(-9223372036854775808<=i+1/\i+1<=9223372036854775807) /\
    Zfe f cs z r n (i+1) (Zaf dq))) /\
  (¬(i<n)->Weak (AV.vnil) dq)) :
 Zfe f cs z r n i (Zaf dq):=by
 unfold Zfe
 rcases xq H with ⟨d2,H⟩|⟨d2,H⟩
 ·obtain ⟨k4,H⟩:=H
  have w5:(List.map Bx.a cs).length=cs.length:=List.length_map ..
  have i6:(decide (i.toNat<(List.map Bx.a cs).length))=true ↔ (i.toNat<cs.length):=(by (try rw [w5]);all_goals exact Zab)
  obtain ⟨k7,k8,H⟩:=H
  have w9:wi ((cs.getD i.toNat default).top+1000)=(cs.getD i.toNat default).top+1000:=wI64 k8
  have i10:(decide (wi ((cs.getD i.toNat default).top+1000)>z))=true ↔ ((cs.getD i.toNat default).top+1000>z):=(by (try rw [w9]);all_goals exact Zab)
  refine Zac (G:=Zad kp31 [(4,1,.elem ((zNqP3 cs i)))] []) 11 [true] ⟨(atC (cd Try.f31) [1,1,0,1,0,0,1,1,0,0,1,1]),[(1,vi z),(2,vi r),(7,AV.vnil),(9,AV.ptr 0 0 0 0),(11,AV.vec f 5 (List.map Bx.a cs)),(12,vi n),(13,vi i),(21,vb (decide (wi ((cs.getD i.toNat default).top+1000)>z)))],[⟨[(zNqP3 cs i)],5,0,false,false⟩],_,[((List.map Bx.a cs).get?Internal i.toNat=some ((zNqP3 cs i)))],_⟩ (by kernel_rfl) (bc (Zao (Zab.2 d2)) (bc (Zab.2 k4) (bc (i6.2 k7) (bc rfl (bc rfl b0))))) (qc (Zak k7) q0) c0 ?_
  rcases xq H with ⟨d11,H⟩|⟨d11,H⟩
  ·obtain ⟨k12,H⟩:=H
   have w13:wi ((cs.getD i.toNat default).x0-r)=(cs.getD i.toNat default).x0-r:=wI64 k12
   obtain ⟨k14,H⟩:=H
   have w15:wi ((cs.getD i.toNat default).y0-r)=(cs.getD i.toNat default).y0-r:=wI64 k14
   obtain ⟨k16,H⟩:=H
   have w17:wi ((cs.getD i.toNat default).x1+r)=(cs.getD i.toNat default).x1+r:=wI64 k16
   obtain ⟨k18,H⟩:=H
   have w19:wi ((cs.getD i.toNat default).y1+r)=(cs.getD i.toNat default).y1+r:=wI64 k18
   obtain ⟨k20,H⟩:=H
   have w21:wi (i+1)=i+1:=wI64 k20
   have w22:[ag [vi ((cs.getD i.toNat default).x0-r),vi ((cs.getD i.toNat default).y0-r),vi ((cs.getD i.toNat default).x1+r),vi ((cs.getD i.toNat default).y1+r),vi (cs.getD i.toNat default).top]]=List.map Bx.a [{ x0:=(cs.getD i.toNat default).x0-r,y0:=(cs.getD i.toNat default).y0-r,x1:=(cs.getD i.toNat default).x1+r,y1:=(cs.getD i.toNat default).y1+r,top:=(cs.getD i.toNat default).top }]:=rfl
   exact Zac (G:=Zad kp31 [] []) 1000 [true] ⟨(atC (cd Try.f31) [1,1,0,1,0,0]),[(1,vi z),(2,vi r),(7,AV.row 1 0),(11,AV.vec f 5 (List.map Bx.a cs)),(12,vi n),(13,vi (wi (i+1)))],[⟨[(zNqP3 cs i)],5,0,false,false⟩,⟨[ag [vi (wi ((cs.getD i.toNat default).x0-r)),vi (wi ((cs.getD i.toNat default).y0-r)),vi (wi ((cs.getD i.toNat default).x1+r)),vi (wi ((cs.getD i.toNat default).y1+r)),vi (cs.getD i.toNat default).top]],5,0,false,true⟩],_,[],_⟩ (by kernel_rfl) (bc (Zao (i10.2 d11)) (bc rfl (bc rfl (bc rfl (bc rfl (bc rfl (bc rfl b0))))))) q0 c0 (by (try rw [w13]);(try rw [w15]);(try rw [w17]);(try rw [w19]);(try rw [w21]);(try rw [w22]);all_goals exact Zav [1] (by kernel_rfl) H)
  ·obtain ⟨k23,H⟩:=H
   have w24:wi (i+1)=i+1:=wI64 k23
   exact Zac (G:=Zad kp31 [] []) 1000 [false] ⟨(atC (cd Try.f31) [1,1,0,1,0,0]),[(1,vi z),(2,vi r),(7,AV.vnil),(11,AV.vec f 5 (List.map Bx.a cs)),(12,vi n),(13,vi (wi (i+1)))],[⟨[(zNqP3 cs i)],5,0,false,false⟩],_,[],_⟩ (by kernel_rfl) (bc (Zaj (fun h=>d11 (i10.1 h))) b0) q0 c0 (by (try rw [w24]);all_goals exact Zav [] (by kernel_rfl) H)
 ·exact Zan (G:=Zad kp31 [] []) 1000 [false] (AV.vnil) (by kernel_rfl) (bc (Zaj (fun h=>d2 (Zab.1 h))) b0) q0 c0 H
noncomputable abbrev zNqP4 (cs:List Bx) (i:Int):=ag [vi (cs.getD i.toNat default).x0,vi (cs.getD i.toNat default).y0,vi (cs.getD i.toNat default).x1,vi (cs.getD i.toNat default).y1,vi (cs.getD i.toNat default).top]
theorem qBlL (f:Bool) (cs gs:List Bx) (v:Nat) (z r n i:Int)  (dq:AV) (H :
  ((i<n)->(0<=i) /\
   (i.toNat<cs.length) /\
   (-9223372036854775808<=(cs.getD i.toNat default).top+1000/\(cs.getD i.toNat default).top+1000<=9223372036854775807) /\
   (((cs.getD i.toNat default).top+1000>z)->(-9223372036854775808<=(cs.getD i.toNat default).x0-r/\(cs.getD i.toNat default).x0-r<=9223372036854775807) /\
    (-9223372036854775808<=(cs.getD i.toNat default).y0-r/\(cs.getD i.toNat default).y0-r<=9223372036854775807) /\
    (-9223372036854775808<=(cs.getD i.toNat default).x1+r/\(cs.getD i.toNat default).x1+r<=9223372036854775807) /\
    (-9223372036854775808<=(cs.getD i.toNat default).y1+r/\(cs.getD i.toNat default).y1+r<=9223372036854775807) /\
    ((gs.length+1)*40<=1099511627776) /\
    (-9223372036854775808<=i+1/\i+1<=9223372036854775807) /\
    Zd9 f cs (gs++[{ x0:=(cs.getD i.toNat default).x0-r,y0:=(cs.getD i.toNat default).y0-r,x1:=(cs.getD i.toNat default).x1+r,y1:=(cs.getD i.toNat default).y1+r,top:=(cs.getD i.toNat default).top }]) (v+1) z r n (i+1) (Zaf dq)) /\
   (¬((cs.getD i.toNat default).top+1000>z)->(-9223372036854775808<=i+1/\i+1<=9223372036854775807) /\
    Zd9 f cs gs v z r n (i+1) (Zaf dq))) /\
  (¬(i<n)->Weak (AV.vec false 5 (List.map Bx.a gs)) dq)) :
 Zd9 f cs gs v z r n i (Zaf dq):=by
 unfold Zd9
 rcases xq H with ⟨d2,H⟩|⟨d2,H⟩
 ·obtain ⟨k4,H⟩:=H
  have w5:(List.map Bx.a cs).length=cs.length:=List.length_map ..
  have i6:(decide (i.toNat<(List.map Bx.a cs).length))=true ↔ (i.toNat<cs.length):=(by (try rw [w5]);all_goals exact Zab)
  obtain ⟨k7,k8,H⟩:=H
  have w9:wi ((cs.getD i.toNat default).top+1000)=(cs.getD i.toNat default).top+1000:=wI64 k8
  have i10:(decide (wi ((cs.getD i.toNat default).top+1000)>z))=true ↔ ((cs.getD i.toNat default).top+1000>z):=(by (try rw [w9]);all_goals exact Zab)
  refine Zac (G:=Zad kp31 [(4,1,.elem ((zNqP4 cs i)))] []) 11 [true] ⟨(atC (cd Try.f31) [1,1,0,1,0,0,1,1,0,0,1,1]),[(1,vi z),(2,vi r),(7,AV.row 0 v),(9,AV.ptr 1 0 0 0),(11,AV.vec f 5 (List.map Bx.a cs)),(12,vi n),(13,vi i),(21,vb (decide (wi ((cs.getD i.toNat default).top+1000)>z)))],[⟨List.map Bx.a gs,5,v,false,true⟩,⟨[(zNqP4 cs i)],5,0,false,false⟩],_,[((List.map Bx.a cs).get?Internal i.toNat=some ((zNqP4 cs i)))],_⟩ (by kernel_rfl) (bc (Zao (Zab.2 d2)) (bc (Zab.2 k4) (bc (i6.2 k7) (bc rfl (bc rfl b0))))) (qc (Zak k7) q0) c0 ?_
  rcases xq H with ⟨d11,H⟩|⟨d11,H⟩
  ·have w12:(List.map Bx.a gs).length=gs.length:=List.length_map ..
   obtain ⟨k13,H⟩:=H
   have w14:wi ((cs.getD i.toNat default).x0-r)=(cs.getD i.toNat default).x0-r:=wI64 k13
   obtain ⟨k15,H⟩:=H
   have w16:wi ((cs.getD i.toNat default).y0-r)=(cs.getD i.toNat default).y0-r:=wI64 k15
   obtain ⟨k17,H⟩:=H
   have w18:wi ((cs.getD i.toNat default).x1+r)=(cs.getD i.toNat default).x1+r:=wI64 k17
   obtain ⟨k19,H⟩:=H
   have w20:wi ((cs.getD i.toNat default).y1+r)=(cs.getD i.toNat default).y1+r:=wI64 k19
   have i21:(decide (((List.map Bx.a gs).length+1)*40<=1099511627776))=true ↔ ((gs.length+1)*40<=1099511627776):=(by (try rw [w12]);(try rw [w14]);(try rw [w16]);(try rw [w18]);(try rw [w20]);all_goals exact Zab)
   obtain ⟨k22,H⟩:=H
   have w23:List.map Bx.a gs++[ag [vi ((cs.getD i.toNat default).x0-r),vi ((cs.getD i.toNat default).y0-r),vi ((cs.getD i.toNat default).x1+r),vi ((cs.getD i.toNat default).y1+r),vi (cs.getD i.toNat default).top]]=List.map Bx.a (gs++[{ x0:=(cs.getD i.toNat default).x0-r,y0:=(cs.getD i.toNat default).y0-r,x1:=(cs.getD i.toNat default).x1+r,y1:=(cs.getD i.toNat default).y1+r,top:=(cs.getD i.toNat default).top }]):=(Zdh rfl rfl)
   obtain ⟨k24,H⟩:=H
   have w25:wi (i+1)=i+1:=wI64 k24
   exact Zac (G:=Zad kp31 [] []) 1000 [true] ⟨(atC (cd Try.f31) [1,1,0,1,0,0]),[(1,vi z),(2,vi r),(7,AV.row 0 (v+1)),(11,AV.vec f 5 (List.map Bx.a cs)),(12,vi n),(13,vi (wi (i+1)))],[⟨List.map Bx.a gs++[ag [vi (wi ((cs.getD i.toNat default).x0-r)),vi (wi ((cs.getD i.toNat default).y0-r)),vi (wi ((cs.getD i.toNat default).x1+r)),vi (wi ((cs.getD i.toNat default).y1+r)),vi (cs.getD i.toNat default).top]],5,v+1,false,true⟩,⟨[(zNqP4 cs i)],5,0,false,false⟩],[(decide (wi ((cs.getD i.toNat default).top+1000)>z))==true,true,true,true,true,true,v==v,decide (((List.map Bx.a gs).length+1)*40<=1099511627776)],[],_⟩ (by kernel_rfl) (bc (Zao (i10.2 d11)) (bc rfl (bc rfl (bc rfl (bc rfl (bc rfl (bc (beq_self_eq_true _) (bc (i21.2 k22) b0)))))))) q0 c0 (by (try rw [w14]);(try rw [w16]);(try rw [w18]);(try rw [w20]);(try rw [w23]);(try rw [w25]);all_goals exact Zav [0] (by kernel_rfl) H)
  ·obtain ⟨k26,H⟩:=H
   have w27:wi (i+1)=i+1:=wI64 k26
   exact Zac (G:=Zad kp31 [] []) 1000 [false] ⟨(atC (cd Try.f31) [1,1,0,1,0,0]),[(1,vi z),(2,vi r),(7,AV.row 0 v),(11,AV.vec f 5 (List.map Bx.a cs)),(12,vi n),(13,vi (wi (i+1)))],[⟨List.map Bx.a gs,5,v,false,true⟩,⟨[(zNqP4 cs i)],5,0,false,false⟩],_,[],_⟩ (by kernel_rfl) (bc (Zaj (fun h=>d11 (i10.1 h))) b0) q0 c0 (by (try rw [w27]);all_goals exact Zav [0] (by kernel_rfl) H)
 ·exact Zbs (G:=Zad kp31 [] []) 1000 [false] (k:=((atC (cd Try.f31) [1,1,1,1])).tail) (env':=[(6,AV.row 0 v)]) (L':=[⟨List.map Bx.a gs,5,v,false,true⟩]) (asm:=[(decide (i<n))==false]) (eqs:=[]) (calls:=[]) (AV.row 0 v) (by kernel_rfl) (by kernel_rfl) (Zag (Zaj (fun h=>d2 (Zab.1 h))) ZaA) ZaQ ZaR (Zdq (d:=(AV.vec false 5 (List.map Bx.a gs))) (bs:=[v==v]) (by kernel_rfl) (by kernel_rfl) (Zag (beq_self_eq_true _) ZaA) (by kernel_rfl) H)
theorem qBen   (dq:AV) (H :
  Weak (ag [vi 0,vi 0,vi 40000,vi 30000,vi 5000,vi 0,AV.vec true 5 [ag [vi 10000,vi 0,vi 20000,vi 5000,vi 8000]],vi 20000]) dq) :
 qBen_at  (Zaf dq):=by
 unfold qBen_at
 exact Zan (G:=Zad kp30 [] []) 1000 [] (ag [vi 0,vi 0,vi 40000,vi 30000,vi 5000,vi 0,AV.vec true 5 [ag [vi 10000,vi 0,vi 20000,vi 5000,vi 8000]],vi 20000]) (by kernel_rfl) (bc rfl b0) q0 c0 H
end Go.Av

namespace Go.Av
open Go.Proofs
namespace O
noncomputable def hiF (ax ay bx by_ r:Int):List Bx->Int->Bool->Int × Bool
 | [],t,fo=>(t,fo)
 | c::cs,t,fo=>if nea c.x0 c.y0 c.x1 c.y1 ax ay bx by_ r/\(¬fo=true\/c.top>t) then hiF ax ay bx by_ r cs c.top true else hiF ax ay bx by_ r cs t fo
def okHi (cs:List Bx) (ax ay bx by_ r:Int):Prop:=cs.length<=1000/\(∀ c ∈ cs,ccb c)/\cc ax/\cc ay/\cc bx/\cc by_/\cc r
def blk1 (r:Int) (c:Bx):Bx:=⟨c.x0-r,c.y0-r,c.x1+r,c.y1+r,c.top⟩
def blk (cs:List Bx) (z r:Int):List Bx:=(cs.filter fun c=>decide (c.top+1000>z)).map (blk1 r)
def okBlk (cs:List Bx) (r:Int):Prop:=cs.length<=1000/\(∀ c ∈ cs,ccb c/\cc c.top)/\cc r
def bcs:List Bx:=[⟨10000,0,20000,5000,8000⟩]
end O
theorem hi_loop {f:Bool} {cs:List Bx} {ax ay bx by_ r:Int} (h:O.okHi cs ax ay bx by_ r) (m:Nat):∀ (i:Nat) (t:Int) (fo:Bool),i+m=cs.length ->
  Zd8 f cs ax ay bx by_ r t fo cs.length i (Zaf (.tup [.int .i64 (O.hiF ax ay bx by_ r (cs.drop i) t fo).1,.bool (O.hiF ax ay bx by_ r (cs.drop i) t fo).2])):=by
 obtain ⟨h1,h2,h3,h4,h5,h6,h7⟩:=h
 induction m with
 | zero =>
  intro i t fo e
  refine qHiL _ _ _ _ _ _ _ _ _ _ _ _ ⟨fun x=>by omega,fun _ => ?_⟩
  rw [List.drop_eq_nil_of_le (by omega)];rfl
 | succ m ih =>
  intro i t fo e
  have hi:i<cs.length:=by omega
  refine qHiL _ _ _ _ _ _ _ _ _ _ _ _ ⟨fun x => ?_,fun x=>by omega⟩
  rw [Int.toNat_natCast,show (i:Int)+1=((i+1:Nat):Int) by omega,ZaS hi]
  obtain ⟨c1,c2,c3,c4⟩:=h2 _ (Za1 hi)
  refine ⟨by omega,hi,⟨c1,c2,c3,c4,h3,h4,h5,h6,h7⟩,fun k=>⟨by omega,?_⟩,fun k=>⟨by omega,?_⟩⟩
  ·rw [O.hiF,if_pos k];exact ih (i+1) _ _ (by omega)
  ·rw [O.hiF,if_neg k];exact ih (i+1) _ _ (by omega)
theorem ev54 (f:Bool) (cs:List Bx) (u0 v0 u1 v1 th gp sf ax ay bx by_ r:Int) (h:O.okHi cs ax ay bx by_ r):Ev M1 (.pure 54 [.agg [.int .i64 u0,.int .i64 v0,.int .i64 u1,.int .i64 v1,.int .i64 th,.int .i64 gp,.vec f 5 (cs.map Bx.a),.int .i64 sf],.agg [.int .i64 ax,.int .i64 ay],.agg [.int .i64 bx,.int .i64 by_],.int .i64 r]) (.tup [.int .i64 (O.hiF ax ay bx by_ r cs 0 false).1,.bool (O.hiF ax ay bx by_ r cs 0 false).2]) []:=by
 have:=hi_loop (f:=f) h cs.length 0 0 false (by omega)
 exact call54 (qHi _ _ _ _ _ _ _ _ _ _ _ _ _ _ _ this)
theorem blk_add {cs:List Bx} {z r:Int} {i:Nat} (hi:i<cs.length) (k:(cs.getD i default).top+1000>z):O.blk (cs.drop i) z r=⟨(cs.getD i default).x0-r,(cs.getD i default).y0-r,(cs.getD i default).x1+r,(cs.getD i default).y1+r,(cs.getD i default).top⟩::O.blk (cs.drop (i+1)) z r:=by
 rw [ZaS hi];unfold O.blk;rw [List.filter_cons_of_pos (p:=fun c:Bx=>decide (c.top+1000>z)) (decide_eq_true k)];rfl
theorem blk_skip {cs:List Bx} {z r:Int} {i:Nat} (hi:i<cs.length) (k:¬(cs.getD i default).top+1000>z):O.blk (cs.drop i) z r=O.blk (cs.drop (i+1)) z r:=by
 rw [ZaS hi];unfold O.blk;rw [List.filter_cons_of_neg (by rw [decide_eq_true_iff];exact k)]
theorem blk_end {cs:List Bx} {z r:Int} {i:Nat} (hi:cs.length<=i):O.blk (cs.drop i) z r=[]:=by
 rw [List.drop_eq_nil_of_le hi];rfl
section
variable {f:Bool} {cs:List Bx} {z r:Int}
theorem bl_loop (h:O.okBlk cs r) (m:Nat):∀ (i:Nat) (gs:List Bx) (v:Nat),i+m=cs.length->gs.length<=i ->
  Zd9 f cs gs v z r cs.length i (Zaf (.vec false 5 ((gs++O.blk (cs.drop i) z r).map Bx.a))):=by
 obtain ⟨h1,h2,h3⟩:=h
 induction m with
 | zero =>
  intro i gs v e hg
  refine qBlL _ _ _ _ _ _ _ _ _ ⟨fun x=>by omega,fun _ => ?_⟩
  rw [blk_end (by omega),List.append_nil];exact .refl _
 | succ m ih =>
  intro i gs v e hg
  have hi:i<cs.length:=by omega
  obtain ⟨⟨c1,c2,c3,c4⟩,c5⟩:=h2 _ (Za1 hi)
  unfold O.cc at c1 c2 c3 c4 c5 h3
  refine qBlL _ _ _ _ _ _ _ _ _ ⟨fun x => ?_,fun x=>by omega⟩
  rw [Int.toNat_natCast,show (i:Int)+1=((i+1:Nat):Int) by omega]
  refine ⟨by omega,hi,by omega,fun k=>⟨by omega,by omega,by omega,by omega,by omega,by omega,?_⟩,fun k=>⟨by omega,?_⟩⟩
  ·have:=ih (i+1) (gs++[⟨(cs.getD i default).x0-r,(cs.getD i default).y0-r,(cs.getD i default).x1+r,(cs.getD i default).y1+r,(cs.getD i default).top⟩]) (v+1) (by omega) (by rw [List.length_append];show gs.length+1<=_;omega)
   rw [List.append_assoc] at this
   rw [blk_add hi k];exact this
  ·rw [blk_skip hi k];exact ih (i+1) gs v (by omega) (by omega)
theorem bl_nil (h:O.okBlk cs r) (m:Nat):∀ i:Nat,i+m=cs.length ->
  Zfe f cs z r cs.length i (Zaf (.vec false 5 ((O.blk (cs.drop i) z r).map Bx.a))):=by
 have hh:=h
 obtain ⟨h1,h2,h3⟩:=h
 induction m with
 | zero =>
  intro i e
  refine qBl0 _ _ _ _ _ _ _ ⟨fun x=>by omega,fun _ => ?_⟩
  rw [blk_end (by omega)];exact .vnil 5
 | succ m ih =>
  intro i e
  have hi:i<cs.length:=by omega
  obtain ⟨⟨c1,c2,c3,c4⟩,c5⟩:=h2 _ (Za1 hi)
  unfold O.cc at c1 c2 c3 c4 c5 h3
  refine qBl0 _ _ _ _ _ _ _ ⟨fun x => ?_,fun x=>by omega⟩
  rw [Int.toNat_natCast,show (i:Int)+1=((i+1:Nat):Int) by omega]
  refine ⟨by omega,hi,by omega,fun k=>⟨by omega,by omega,by omega,by omega,by omega,?_⟩,fun k=>⟨by omega,?_⟩⟩
  ·rw [blk_add hi k]
   exact bl_loop hh m (i+1) [_] 0 (by omega) (by show 1<=_;omega)
  ·rw [blk_skip hi k];exact ih (i+1) (by omega)
variable {u0 v0 u1 v1 th gp sf:Int}
end
theorem ev31 (f:Bool) (cs:List Bx) (u0 v0 u1 v1 th gp sf z r:Int) (h:O.okBlk cs r):Ev M1 (.pure 31 [.agg [.int .i64 u0,.int .i64 v0,.int .i64 u1,.int .i64 v1,.int .i64 th,.int .i64 gp,.vec f 5 (cs.map Bx.a),.int .i64 sf],.int .i64 z,.int .i64 r]) (.vec false 5 ((O.blk cs z r).map Bx.a)) []:=
 call31 (qBl _ _ _ _ _ _ _ _ _ _ _ _ (bl_nil h cs.length 0 (by omega)))
theorem ev30:Ev M1 (.pure 30 []) (.agg [.int .i64 0,.int .i64 0,.int .i64 40000,.int .i64 30000,.int .i64 5000,.int .i64 0,.vec true 5 (O.bcs.map Bx.a),.int .i64 20000]) []:=
 call30 (qBen _ (.refl _))
end Go.Av

namespace Go.Av
open Go.Proofs
set_option maxRecDepth 100000
def fi22:Fi:=⟨22,[.tmp 8]⟩
def kp22:List (Nat × List Nat):=[(0,[3,4,5,6]),(1,[9]),(2,[8])]
def qHgt_at (f:Bool) (cs:List Bx) (u0 v0 u1 v1 th gp sf:Int) (ax ay bx by_ r:Int) (Q:AV->Heap->Prop):Prop:=Wp M1 (.run fi22 (atC (cd Try.f22) []) [(0,.agg [.int .i64 u0,.int .i64 v0,.int .i64 u1,.int .i64 v1,.int .i64 th,.int .i64 gp,.vec f 5 (cs.map Bx.a),.int .i64 sf]),(1,.agg [.int .i64 ax,.int .i64 ay]),(2,.agg [.int .i64 bx,.int .i64 by_]),(3,.int .i64 r)] []) Q
theorem call22 {args:List AV} {d:AV} (h:wc M1 fi22 Try.f22 args d):Ev M1 (.pure 22 args) d []:=pcl _ _ (by kernel_rfl) h
theorem qHgt (f:Bool) (cs:List Bx) (u0 v0 u1 v1 th gp sf:Int) (ax ay bx by_ r:Int)  (dq:AV) (H :
  (O.okHi cs ax ay bx by_ r) /\
  (-9223372036854775808<=(1000+if (O.hiF ax ay bx by_ r cs 0 false).fst>0 then (O.hiF ax ay bx by_ r cs 0 false).fst else 0)/\(1000+if (O.hiF ax ay bx by_ r cs 0 false).fst>0 then (O.hiF ax ay bx by_ r cs 0 false).fst else 0)<=9223372036854775807) /\
  vi (1000+if (O.hiF ax ay bx by_ r cs 0 false).fst>0 then (O.hiF ax ay bx by_ r cs 0 false).fst else 0)=dq) :
 qHgt_at f cs u0 v0 u1 v1 th gp sf ax ay bx by_ r (Zaf dq):=by
 unfold qHgt_at
 obtain ⟨k1,k2,H⟩:=H
 have w3:wi (1000+if (O.hiF ax ay bx by_ r cs 0 false).fst>0 then (O.hiF ax ay bx by_ r cs 0 false).fst else 0)=1000+if (O.hiF ax ay bx by_ r cs 0 false).fst>0 then (O.hiF ax ay bx by_ r cs 0 false).fst else 0:=wI64 k2
 exact Zai (G:=Zad kp22 [(1,4,.call (tu [vi (O.hiF ax ay bx by_ r cs 0 false).fst,vb (O.hiF ax ay bx by_ r cs 0 false).2]) none)] []) 1000 [] (vi (wi (1000+if (O.hiF ax ay bx by_ r cs 0 false).fst>0 then (O.hiF ax ay bx by_ r cs 0 false).fst else 0))) (by kernel_rfl) (bc rfl (bc rfl (bc rfl b0))) q0 (ce (@ev54 f cs u0 v0 u1 v1 th gp sf ax ay bx by_ r k1) c0) (by (try rw [w3]);all_goals exact H)
end Go.Av

namespace Go.Av
open Go.Proofs
noncomputable def O.hgt (cs:List Bx) (ax ay bx by_ r:Int):Int:=1000+if (O.hiF ax ay bx by_ r cs 0 false).fst>0 then (O.hiF ax ay bx by_ r cs 0 false).fst else 0
def O.okHg (cs:List Bx) (ax ay bx by_ r:Int):Prop:=O.okHi cs ax ay bx by_ r /\ ∀ c ∈ cs,c.top<=1000000000
theorem hiF_le {ax ay bx by_ r:Int}:∀ (cs:List Bx) (t:Int) (fo:Bool),t<=1000000000->(∀ c ∈ cs,c.top<=1000000000)->(O.hiF ax ay bx by_ r cs t fo).1<=1000000000:=by
 intro cs
 induction cs with
 | nil=>intro t fo h _;exact h
 | cons c cs ih =>
  intro t fo h h2
  rw [O.hiF]
  split
  ·exact ih _ _ (h2 c (.head _)) fun d hd=>h2 d (.tail _ hd)
  ·exact ih _ _ h fun d hd=>h2 d (.tail _ hd)
theorem hgt_bd {cs:List Bx} {ax ay bx by_ r:Int} (h:O.okHg cs ax ay bx by_ r):1000<=O.hgt cs ax ay bx by_ r/\O.hgt cs ax ay bx by_ r<=1000001000:=by
 have:=hiF_le (ax:=ax) (ay:=ay) (bx:=bx) (by_:=by_) (r:=r) cs 0 false (by omega) h.2
 unfold O.hgt
 split <;> omega
theorem ev22 (f:Bool) (cs:List Bx) (u0 v0 u1 v1 th gp sf ax ay bx by_ r:Int) (h:O.okHg cs ax ay bx by_ r):Ev M1 (.pure 22 [.agg [.int .i64 u0,.int .i64 v0,.int .i64 u1,.int .i64 v1,.int .i64 th,.int .i64 gp,.vec f 5 (cs.map Bx.a),.int .i64 sf],.agg [.int .i64 ax,.int .i64 ay],.agg [.int .i64 bx,.int .i64 by_],.int .i64 r]) (.int .i64 (O.hgt cs ax ay bx by_ r)) []:=by
 have b:=hgt_bd h
 exact call22 (qHgt _ _ _ _ _ _ _ _ _ _ _ _ _ _ _ ⟨h.1,by show _<=O.hgt cs ax ay bx by_ r/\O.hgt cs ax ay bx by_ r<=_;omega,rfl⟩)
end Go.Av

namespace Go.Av
open Go.Proofs
set_option maxRecDepth 100000
def fi8:Fi:=⟨43,[.tmp 0]⟩
def kp8:List (Nat × List Nat):=[(0,[]),(1,[1]),(2,[1,2,3]),(3,[0])]
def qAw_at  (Q:AV->Heap->Prop):Prop:=Wp M1 (.run fi8 (atC (cd Try.f8) []) [] []) Q
theorem call8 {args:List AV} {d:AV} (h:wc M1 fi8 Try.f8 args d):Ev M1 (.pure 8 args) d []:=pcl _ _ (by kernel_rfl) h
noncomputable abbrev zNqR1:=ag [vi 30000,vi 1000]
noncomputable abbrev zNqR2:=ag [vi 0,vi 1000]
noncomputable abbrev zNqR3:=ag [vi 30000,vi 9000]
noncomputable abbrev zNqR4:=ag [vi 0,vi 9000]
noncomputable abbrev zNqR5:=ag [vi 10000,vi 0,vi 20000,vi 5000,vi 8000]
noncomputable abbrev zNqR6:=ag [vi 30000,vi 0]
noncomputable abbrev zNqR7:=ag [vi 0,vi 0]
theorem qAw   (dq:AV) (H :
  (O.okBlk O.bcs 0) /\
  ((O.blk O.bcs 5000 0).length<=100) /\
  (O.okHg O.bcs 0 0 30000 0 3000) /\
  ((O.hgt O.bcs 0 0 30000 0 3000=9000)->(O.okHg O.bcs 0 9000 30000 9000 3000)) /\
  ((((O.hgt O.bcs 0 0 30000 0 3000=9000)/\(O.hgt O.bcs 0 9000 30000 9000 3000=1000))/\(O.arE (O.blk O.bcs 5000 0) { x:=0,y:=1000 } { x:=30000,y:=1000 } = 0))->(O.okG (O.arP false (O.blk O.bcs 5000 0) { x:=0,y:=1000 } { x:=30000,y:=1000 }))) /\
  (((((O.hgt O.bcs 0 0 30000 0 3000=9000)/\(O.hgt O.bcs 0 9000 30000 9000 3000=1000))/\(O.arE (O.blk O.bcs 5000 0) { x:=0,y:=1000 } { x:=30000,y:=1000 } = 0))/\(O.Zdf (O.arP false (O.blk O.bcs 5000 0) { x:=0,y:=1000 } { x:=30000,y:=1000 })=30000))->(O.cc8 10000 0 20000 5000 0 1000 30000 1000)) /\
  vb (bif bif bif bif O.hgt O.bcs 0 0 30000 0 3000==9000 then O.hgt O.bcs 0 9000 30000 9000 3000==1000 else false then O.arE (O.blk O.bcs 5000 0) { x:=0,y:=1000 } { x:=30000,y:=1000 } == 0 else false then O.Zdf (O.arP false (O.blk O.bcs 5000 0) { x:=0,y:=1000 } { x:=30000,y:=1000 })==30000 else false then true else false)=dq) :
 qAw_at  (Zaf dq):=by
 unfold qAw_at
 obtain ⟨k1,k2,k3,k7,k9,k13,H⟩:=H
 exact Zai (G:=Zad kp8 [(1,0,.call (ag [vi 0,vi 0,vi 40000,vi 30000,vi 5000,vi 0,AV.vec true 5 (List.map Bx.a O.bcs),vi 20000]) none),(2,1,.call (AV.vec false 5 (List.map Bx.a (O.blk O.bcs 5000 0))) none),(2,2,.call zNqR2 none),(2,3,.call zNqR1 none),(2,4,.call (tu [AV.vec false 2 (List.map Gp.a (O.arP false (O.blk O.bcs 5000 0) { x:=0,y:=1000 } { x:=30000,y:=1000 })),vi (O.arE (O.blk O.bcs 5000 0) { x:=0,y:=1000 } { x:=30000,y:=1000 })]) none),(3,1,.call zNqR7 none),(3,2,.call zNqR6 none),(3,3,.call (vi (O.hgt O.bcs 0 0 30000 0 3000)) none),(3,7,.call zNqR4 none),(3,8,.call zNqR3 none),(3,9,.call (vi (O.hgt O.bcs 0 9000 30000 9000 3000)) none),(3,18,.call (vi (O.Zdf (O.arP false (O.blk O.bcs 5000 0) { x:=0,y:=1000 } { x:=30000,y:=1000 }))) none),(3,26,.call zNqR2 none),(3,27,.call zNqR1 none),(3,28,.call (vb true) none)] []) 1000 [] (asm:=[true,true,true,!((O.hgt O.bcs 0 0 30000 0 3000==9000)==true&&true)||true,!((bif bif bif O.hgt O.bcs 0 0 30000 0 3000==9000 then O.hgt O.bcs 0 9000 30000 9000 3000==1000 else false then O.arE (O.blk O.bcs 5000 0) { x:=0,y:=1000 } { x:=30000,y:=1000 } == 0 else false then O.Zdf (O.arP false (O.blk O.bcs 5000 0) { x:=0,y:=1000 } { x:=30000,y:=1000 })==30000 else false)==true&&true)||true,!((bif bif bif O.hgt O.bcs 0 0 30000 0 3000==9000 then O.hgt O.bcs 0 9000 30000 9000 3000==1000 else false then O.arE (O.blk O.bcs 5000 0) { x:=0,y:=1000 } { x:=30000,y:=1000 } == 0 else false then O.Zdf (O.arP false (O.blk O.bcs 5000 0) { x:=0,y:=1000 } { x:=30000,y:=1000 })==30000 else false)==true&&true)||true,!((bif bif bif O.hgt O.bcs 0 0 30000 0 3000==9000 then O.hgt O.bcs 0 9000 30000 9000 3000==1000 else false then O.arE (O.blk O.bcs 5000 0) { x:=0,y:=1000 } { x:=30000,y:=1000 } == 0 else false then O.Zdf (O.arP false (O.blk O.bcs 5000 0) { x:=0,y:=1000 } { x:=30000,y:=1000 })==30000 else false)==true&&true)||true]) (calls:=[⟨true,false,30,[],[],ag [vi 0,vi 0,vi 40000,vi 30000,vi 5000,vi 0,AV.vec true 5 (List.map Bx.a O.bcs),vi 20000],[]⟩,⟨true,false,31,[ag [vi 0,vi 0,vi 40000,vi 30000,vi 5000,vi 0,AV.vec true 5 (List.map Bx.a O.bcs),vi 20000],vi 5000,vi 0],[],AV.vec false 5 (List.map Bx.a (O.blk O.bcs 5000 0)),[]⟩,⟨true,false,23,[vi 0,vi 1000],[],zNqR2,[]⟩,⟨true,false,23,[vi 30000,vi 1000],[],zNqR1,[]⟩,⟨true,false,11,[AV.vec false 5 (List.map Bx.a (O.blk O.bcs 5000 0)),zNqR2,zNqR1],[],tu [AV.vec false 2 (List.map Gp.a (O.arP false (O.blk O.bcs 5000 0) { x:=0,y:=1000 } { x:=30000,y:=1000 })),vi (O.arE (O.blk O.bcs 5000 0) { x:=0,y:=1000 } { x:=30000,y:=1000 })],[]⟩,⟨true,false,23,[vi 0,vi 0],[],zNqR7,[]⟩,⟨true,false,23,[vi 30000,vi 0],[],zNqR6,[]⟩,⟨true,false,22,[ag [vi 0,vi 0,vi 40000,vi 30000,vi 5000,vi 0,AV.vec true 5 (List.map Bx.a O.bcs),vi 20000],zNqR7,zNqR6,vi 3000],[],vi (O.hgt O.bcs 0 0 30000 0 3000),[]⟩,⟨(O.hgt O.bcs 0 0 30000 0 3000==9000)==true&&true&&true,false,23,[vi 0,vi 9000],[],zNqR4,[]⟩,⟨(O.hgt O.bcs 0 0 30000 0 3000==9000)==true&&true&&true,false,23,[vi 30000,vi 9000],[],zNqR3,[]⟩,⟨(O.hgt O.bcs 0 0 30000 0 3000==9000)==true&&true&&true,false,22,[ag [vi 0,vi 0,vi 40000,vi 30000,vi 5000,vi 0,AV.vec true 5 (List.map Bx.a O.bcs),vi 20000],zNqR4,zNqR3,vi 3000],[],vi (O.hgt O.bcs 0 9000 30000 9000 3000),[]⟩,⟨(bif bif O.hgt O.bcs 0 0 30000 0 3000==9000 then O.hgt O.bcs 0 9000 30000 9000 3000==1000 else false then O.arE (O.blk O.bcs 5000 0) { x:=0,y:=1000 } { x:=30000,y:=1000 } == 0 else false)==true&&true&&true,false,18,[AV.vec false 2 (List.map Gp.a (O.arP false (O.blk O.bcs 5000 0) { x:=0,y:=1000 } { x:=30000,y:=1000 }))],[],vi (O.Zdf (O.arP false (O.blk O.bcs 5000 0) { x:=0,y:=1000 } { x:=30000,y:=1000 })),[]⟩,⟨(bif bif bif O.hgt O.bcs 0 0 30000 0 3000==9000 then O.hgt O.bcs 0 9000 30000 9000 3000==1000 else false then O.arE (O.blk O.bcs 5000 0) { x:=0,y:=1000 } { x:=30000,y:=1000 } == 0 else false then O.Zdf (O.arP false (O.blk O.bcs 5000 0) { x:=0,y:=1000 } { x:=30000,y:=1000 })==30000 else false)==true&&true&&true,false,23,[vi 0,vi 1000],[],zNqR2,[]⟩,⟨(bif bif bif O.hgt O.bcs 0 0 30000 0 3000==9000 then O.hgt O.bcs 0 9000 30000 9000 3000==1000 else false then O.arE (O.blk O.bcs 5000 0) { x:=0,y:=1000 } { x:=30000,y:=1000 } == 0 else false then O.Zdf (O.arP false (O.blk O.bcs 5000 0) { x:=0,y:=1000 } { x:=30000,y:=1000 })==30000 else false)==true&&true&&true,false,23,[vi 30000,vi 1000],[],zNqR1,[]⟩,⟨(bif bif bif O.hgt O.bcs 0 0 30000 0 3000==9000 then O.hgt O.bcs 0 9000 30000 9000 3000==1000 else false then O.arE (O.blk O.bcs 5000 0) { x:=0,y:=1000 } { x:=30000,y:=1000 } == 0 else false then O.Zdf (O.arP false (O.blk O.bcs 5000 0) { x:=0,y:=1000 } { x:=30000,y:=1000 })==30000 else false)==true&&true&&true,false,9,[zNqR5,zNqR2,zNqR1],[],vb true,[]⟩]) (vb (bif bif bif bif O.hgt O.bcs 0 0 30000 0 3000==9000 then O.hgt O.bcs 0 9000 30000 9000 3000==1000 else false then O.arE (O.blk O.bcs 5000 0) { x:=0,y:=1000 } { x:=30000,y:=1000 } == 0 else false then O.Zdf (O.arP false (O.blk O.bcs 5000 0) { x:=0,y:=1000 } { x:=30000,y:=1000 })==30000 else false then true else false)) (by kernel_rfl) (bc rfl (bc rfl (bc rfl (bc (Bool.or_true _) (bc (Bool.or_true _) (bc (Bool.or_true _) (bc (Bool.or_true _) b0))))))) q0 (cc (fun _=>(@ev30 )) (cc (fun _=>(@ev31 true (O.bcs) 0 0 40000 30000 5000 0 20000 5000 0 k1)) (cc (fun _=>(@ev23 0 1000)) (cc (fun _=>(@ev23 30000 1000)) (cc (fun _=>(@ev11 false (O.blk O.bcs 5000 0) 0 1000 30000 1000 k2)) (cc (fun _=>(@ev23 0 0)) (cc (fun _=>(@ev23 30000 0)) (cc (fun _=>(@ev22 true (O.bcs) 0 0 40000 30000 5000 0 20000 0 0 30000 0 3000 k3)) (cc (fun hc=>((@ev23 0 9000):Ev M1 (Conf.pure 23 [vi 0,vi 9000]) zNqR4 [])) (cc (fun hc=>((@ev23 30000 9000):Ev M1 (Conf.pure 23 [vi 30000,vi 9000]) zNqR3 [])) (cc (fun hc=>((@ev22 true (O.bcs) 0 0 40000 30000 5000 0 20000 0 9000 30000 9000 3000 (k7 ((i_at (i_at (i_bt i_eq))).1 hc))):Ev M1 (Conf.pure 22 [ag [vi 0,vi 0,vi 40000,vi 30000,vi 5000,vi 0,AV.vec true 5 (List.map Bx.a O.bcs),vi 20000],zNqR4,zNqR3,vi 3000]) (vi (O.hgt O.bcs 0 9000 30000 9000 3000)) [])) (cc (fun hc=>((@ev18 false (O.arP false (O.blk O.bcs 5000 0) { x:=0,y:=1000 } { x:=30000,y:=1000 }) (k9 ((i_at (i_at (i_bt (ZaX (ZaX i_eq i_eq) i_eq)))).1 hc))):Ev M1 (Conf.pure 18 [AV.vec false 2 (List.map Gp.a (O.arP false (O.blk O.bcs 5000 0) { x:=0,y:=1000 } { x:=30000,y:=1000 }))]) (vi (O.Zdf (O.arP false (O.blk O.bcs 5000 0) { x:=0,y:=1000 } { x:=30000,y:=1000 }))) [])) (cc (fun hc=>((@ev23 0 1000):Ev M1 (Conf.pure 23 [vi 0,vi 1000]) zNqR2 [])) (cc (fun hc=>((@ev23 30000 1000):Ev M1 (Conf.pure 23 [vi 30000,vi 1000]) zNqR1 [])) (cc (fun hc=>((@ev9 10000 0 20000 5000 8000 0 1000 30000 1000 (k13 ((i_at (i_at (i_bt (ZaX (ZaX (ZaX i_eq i_eq) i_eq) i_eq)))).1 hc))):Ev M1 (Conf.pure 9 [zNqR5,zNqR2,zNqR1]) (vb true) [])) c0))))))))))))))) H
end Go.Av

namespace Go.Av
open Go.Proofs
theorem ent_self {c:Bx} {p:Gp}:O.entX c p p=true ↔ O.insB c.x0 c.y0 c.x1 c.y1 p.x p.y:=by
 unfold O.entX;rw [ent_ref];unfold O.refP;rw [if_pos ⟨rfl,rfl⟩]
theorem free_self {bs:List Bx} {p:Gp}:O.Zb6 bs p p ↔ ∀ c ∈ bs,¬O.insB c.x0 c.y0 c.x1 c.y1 p.x p.y:=by
 unfold O.Zb6
 constructor
 ·intro h c hc k;exact absurd ((h c hc).symm.trans (ent_self.2 k)) (by decide)
 ·intro h c hc
  cases v:O.entX c p p with
  | false=>rfl
  | true=>exact absurd (ent_self.1 v) (h c hc)
theorem bxC_iff {bs:List Bx} {a b:Gp}:(∃ c ∈ bs,O.bxC a b c) ↔ ¬O.Zb6 bs a a\/¬O.Zb6 bs b b:=by
 rw [free_self,free_self]
 constructor
 ·rintro ⟨c,hc,k | k⟩
  ·exact .inl fun h=>h c hc k
  ·exact .inr fun h=>h c hc k
 ·rintro (h | h)
  ·apply Classical.byContradiction;intro n;exact h fun c hc k=>n ⟨c,hc,.inl k⟩
  ·apply Classical.byContradiction;intro n;exact h fun c hc k=>n ⟨c,hc,.inr k⟩
open Classical in
theorem ar_er (bs:List Bx) (a b:Gp):O.arE bs a b=if O.erI bs a b=0 then (if a=b then 0 else if O.lnk bs (O.Zdg bs a b) then 0 else 16) else O.erI bs a b:=by
 unfold O.arE O.erI
 by_cases h1:∃ c ∈ bs,O.bxI c
 ·rw [if_pos h1,if_pos h1,if_neg (by decide)]
 ·rw [if_neg h1,if_neg h1]
  by_cases h2:bs.length>8
  ·rw [if_pos h2,if_pos h2,if_neg (by decide)]
  ·rw [if_neg h2,if_neg h2]
   by_cases h3:O.fr4 a.x a.y b.x b.y
   ·rw [if_pos (.inl h3),if_pos h3,if_neg (by decide)]
   ·rw [if_neg h3]
    by_cases h4:∃ c ∈ bs,O.bxF c
    ·rw [if_pos (.inr h4),if_pos h4,if_neg (by decide)]
    ·rw [if_neg (not_or.2 ⟨h3,h4⟩),if_neg h4]
     by_cases h5:∃ c ∈ bs,O.bxC a b c
     ·rw [if_pos (bxC_iff.1 h5),if_pos h5,if_neg (by decide)]
     ·rw [if_neg fun x=>h5 (bxC_iff.2 x),if_neg h5,if_pos rfl]
structure O.Er0 (bs:List Bx) (a b:Gp):Prop where
 len:bs.length<=8
 ok:O.okB8 bs
 ca:O.ccp a
 cb:O.ccp b
 fa:O.Zb6 bs a a
 fb:O.Zb6 bs b b
theorem er0 {bs:List Bx} {a b:Gp} (e:O.erI bs a b=0):O.Er0 bs a b:=by
 unfold O.erI at e
 by_cases h1:∃ c ∈ bs,O.bxI c
 ·rw [if_pos h1] at e;exact absurd e (by decide)
 rw [if_neg h1] at e
 by_cases h2:bs.length>8
 ·rw [if_pos h2] at e;exact absurd e (by decide)
 rw [if_neg h2] at e
 by_cases h3:O.fr4 a.x a.y b.x b.y
 ·rw [if_pos h3] at e;exact absurd e (by decide)
 rw [if_neg h3] at e
 by_cases h4:∃ c ∈ bs,O.bxF c
 ·rw [if_pos h4] at e;exact absurd e (by decide)
 rw [if_neg h4] at e
 by_cases h5:∃ c ∈ bs,O.bxC a b c
 ·rw [if_pos h5] at e;exact absurd e (by decide)
 have f5:¬(¬O.Zb6 bs a a\/¬O.Zb6 bs b b):=fun x=>h5 (bxC_iff.2 x)
 unfold O.fr4 O.fr1 at h3
 refine ⟨by omega,⟨by omega,fun c hc => ?_⟩,?_,?_,Classical.not_not.1 fun x=>f5 (.inl x),Classical.not_not.1 fun x=>f5 (.inr x)⟩
 ·have:¬O.bxF c:=fun x=>h4 ⟨c,hc,x⟩
  unfold O.bxF O.fr4 O.fr1 at this
  unfold O.ccb O.cc;omega
 ·unfold O.ccp O.cc;omega
 ·unfold O.ccp O.cc;omega
structure O.ArOk (bs:List Bx) (a b:Gp) (P:List Gp):Prop where
 er:O.erI bs a b=0
 ne:P ≠ []
 head:P.getD 0 default=a
 last:P.getD (P.length-1) default=b
 mem:∀ p ∈ P,p ∈ O.nodR bs a b
 chn:O.chn (O.Zb6 bs) P
 walk:O.Wk (O.nd (O.nodR bs a b)) (O.Zb6 bs) a b (O.Zdf P)
 least:∀ d,O.Wk (O.nd (O.nodR bs a b)) (O.Zb6 bs) a b d->O.Zdf P<=d
 len:P.length<=40
 one:a=b->P.length=1
open Classical in
theorem ar_ok {f:Bool} {bs:List Bx} {a b:Gp} (e:O.arE bs a b=0):O.ArOk bs a b (O.arP f bs a b):=by
 have e2:=ar_er bs a b
 by_cases h:O.erI bs a b=0
 ·rw [if_pos h,e] at e2
  have E:=er0 h
  by_cases k:a=b
  ·subst k
   have p:O.arP f bs a a=[a]:=by unfold O.arP;rw [if_pos e,if_pos rfl]
   rw [p]
   exact ⟨h,by simp,rfl,rfl,fun p hp=>by rw [List.mem_singleton.1 hp];exact .head _,trivial,.nil,fun d w=>wk_nn w,by show 1<=40;omega,fun _=>rfl⟩
  ·rw [if_neg k] at e2
   by_cases j:O.lnk bs (O.Zdg bs a b)
   ·have p:O.arP f bs a b=O.shP f false bs (O.Zdg bs a b):=by unfold O.arP;rw [if_pos e,if_neg k]
    have ok:O.okSh bs (O.Zdg bs a b):=⟨E.ok,nodP_ok E.ok E.ca E.cb,by rw [ZeJ];omega,E.fa⟩
    have g:=(shP_spec (f:=f) (g:=false) ok j).2
    rw [p]
    have w0:=g.walk
    have l0:=g.least
    have la:=nodP_last bs a b
    rw [la] at w0 l0
    exact ⟨h,g.ne,g.head,by rw [g.last,la],fun p hp=>ZeK.1 (g.mem p hp),g.chn,wk_nod.1 w0,fun d w=>l0 d (wk_nod.2 w),by have:=g.len;rw [ZeJ] at this;have:=E.len;omega,fun x=>absurd x k⟩
   ·rw [if_neg j] at e2;exact absurd e2 (by decide)
 ·rw [if_neg h,e] at e2;exact absurd e2.symm h
theorem ar_okP {bs:List Bx} {a b:Gp} {P:List Gp} (h:O.ArOk bs a b P):O.okP8 P:=by
 have E:=er0 h.er
 exact ⟨by have:=h.len;omega,fun p hp=>(nod_ok E.ok E.ca E.cb).2 p (h.mem p hp)⟩
end Go.Av

namespace Go.Av
open Go.Proofs
theorem bcs_mem {c:Bx} (h:c ∈ O.bcs):c=⟨10000,0,20000,5000,8000⟩:=List.mem_singleton.1 h
theorem bcs_blk:O.blk O.bcs 5000 0=[⟨10000,0,20000,5000,8000⟩]:=rfl
theorem bcs_hg {ax ay bx by_ r:Int} (h:(O.cc ax/\O.cc ay)/\(O.cc bx/\O.cc by_)/\O.cc r):O.okHg O.bcs ax ay bx by_ r:=
 ⟨⟨by decide,fun c hc=>by rw [bcs_mem hc];unfold O.ccb O.cc;decide,h.1.1,h.1.2,h.2.1.1,h.2.1.2,h.2.2⟩,fun c hc=>by rw [bcs_mem hc];decide⟩
theorem bcs_ok:O.okBlk O.bcs 0:=⟨by decide,fun c hc=>by rw [bcs_mem hc];unfold O.ccb O.cc;decide,by unfold O.cc;decide⟩
theorem bcs_n1:O.nea 10000 0 20000 5000 0 0 30000 0 3000:=by
 unfold O.nea O.neS O.seg;simp only [qi_eq];decide +kernel
theorem bcs_n2:¬O.nea 10000 0 20000 5000 0 9000 30000 9000 3000:=by
 unfold O.nea O.neS O.seg;simp only [qi_eq];decide +kernel
theorem bcs_h1:O.hgt O.bcs 0 0 30000 0 3000=9000:=by
 have e:O.hiF 0 0 30000 0 3000 O.bcs 0 false=(8000,true):=by
  unfold O.bcs;rw [O.hiF,if_pos ⟨bcs_n1,.inl (by decide)⟩];rfl
 unfold O.hgt;rw [e];rfl
theorem bcs_h2:O.hgt O.bcs 0 9000 30000 9000 3000=1000:=by
 have e:O.hiF 0 9000 30000 9000 3000 O.bcs 0 false=(0,false):=by
  unfold O.bcs;rw [O.hiF,if_neg fun x=>bcs_n2 x.1];rfl
 unfold O.hgt;rw [e];rfl
theorem bcs_er:O.erI [⟨10000,0,20000,5000,8000⟩] ⟨0,1000⟩ ⟨30000,1000⟩=0:=by
 have N {p:Bx->Prop} (h:¬p ⟨10000,0,20000,5000,8000⟩):¬∃ c ∈ [(⟨10000,0,20000,5000,8000⟩:Bx)],p c:=fun ⟨c,hc,k⟩=>h (by rw [List.mem_singleton.1 hc] at k;exact k)
 unfold O.erI
 rw [if_neg (N (by unfold O.bxI;decide)),if_neg (by decide),if_neg (by unfold O.fr4 O.fr1;decide),if_neg (N (by unfold O.bxF O.fr4 O.fr1;decide)),if_neg (N (by unfold O.bxC O.insB;decide))]
theorem bcs_wk:O.Wk (O.nd (O.nodR [⟨10000,0,20000,5000,8000⟩] ⟨0,1000⟩ ⟨30000,1000⟩)) (O.Zb6 [⟨10000,0,20000,5000,8000⟩]) ⟨0,1000⟩ ⟨30000,1000⟩ 30000:=by
 have F {p q:Gp} (h:O.entX ⟨10000,0,20000,5000,8000⟩ p q=false):O.Zb6 [⟨10000,0,20000,5000,8000⟩] p q:=fun c hc=>by rw [List.mem_singleton.1 hc];exact h
 exact ((O.Wk.nil.snoc (q:=⟨10000,0⟩) (Zfl.2 (by decide)) (F (by decide +kernel))).snoc (q:=⟨20000,0⟩) (Zfl.2 (by decide)) (F (by decide +kernel))).snoc (q:=⟨30000,1000⟩) (Zfl.2 (by decide)) (F (by decide +kernel))
theorem bcs_lnk:O.lnk [⟨10000,0,20000,5000,8000⟩] (O.Zdg [⟨10000,0,20000,5000,8000⟩] ⟨0,1000⟩ ⟨30000,1000⟩):=by
 refine lnk_nod.2 ⟨30000,?_⟩
 rw [nod_last];exact bcs_wk
theorem bcs_ar:O.arE [⟨10000,0,20000,5000,8000⟩] ⟨0,1000⟩ ⟨30000,1000⟩=0:=by
 rw [ar_er,if_pos bcs_er,if_neg (by decide),if_pos bcs_lnk]
theorem bcs_len (f:Bool):O.Zdf (O.arP f [⟨10000,0,20000,5000,8000⟩] ⟨0,1000⟩ ⟨30000,1000⟩)=30000:=by
 have h:=ar_ok (f:=f) bcs_ar
 have a:=h.least _ bcs_wk
 have b:=wk_gap h.walk
 have:O.gap ⟨0,1000⟩ ⟨30000,1000⟩=30000:=by decide
 omega
theorem okP_G {l:List Gp} (h:O.okP8 l):O.okG l:=by
 refine ⟨by have:=h.1;omega,fun p hp => ?_⟩
 have:=h.2 p hp
 unfold O.ccp O.cc at this
 unfold O.cbp O.cb;omega
theorem ev8:Ev M1 (.pure 8 []) (.bool true) []:=by
 have C {n:Int} (h:-20000000<=n/\n<=20000000):O.cc n:=h
 refine call8 (qAw _ ⟨bcs_ok,by decide,bcs_hg ⟨⟨C (by decide),C (by decide)⟩,⟨C (by decide),C (by decide)⟩,C (by decide)⟩,fun _=>bcs_hg ⟨⟨C (by decide),C (by decide)⟩,⟨C (by decide),C (by decide)⟩,C (by decide)⟩,fun _ => ?_,fun _=>by unfold O.cc8 O.cc;decide,?_⟩)
 ·rw [bcs_blk];exact okP_G (ar_okP (ar_ok bcs_ar))
 ·rw [bcs_h1,bcs_h2,bcs_blk,bcs_ar,bcs_len];rfl
end Go.Av

namespace Go.Av
open Go.Proofs
set_option maxRecDepth 100000
def fi3:Fi:=⟨62,[.tmp 6]⟩
def kp3:List (Nat × List Nat):=[(0,[3,4,5]),(1,[3,4,5,25,26,27]),(2,[3,4,5,25,26,27,28]),(3,[3,4,5,8,25,26,27]),(4,[3,4,5,25,26,27,36]),(5,[6]),(6,[3,4,5,25,26,27]),(7,[6])]
def qLe_at (x0 y0 x1 y1 tp ax ay bx by_:Int) (Q:AV->Heap->Prop):Prop:=Wp M1 (.run fi3 (atC (cd Try.f3) []) [(0,.agg [.int .i64 x0,.int .i64 y0,.int .i64 x1,.int .i64 y1,.int .i64 tp]),(1,.agg [.int .i64 ax,.int .i64 ay]),(2,.agg [.int .i64 bx,.int .i64 by_])] []) Q
def qLe0_at (x0 y0 x1 y1 tp ax ay bx by_:Int) (Q:AV->Heap->Prop):Prop:=Wp M1 (.run fi3 (atC (cd Try.f3) [1,0,1,0,0]) [(3,.ptr 0 0 0 0),(4,.ptr 1 0 0 0),(5,.ptr 2 0 0 0),(25,.vec true 1 [.int .i64 x0,.int .i64 y0,.int .i64 x1,.int .i64 y1,.int .i64 ax,.int .i64 ay,.int .i64 bx,.int .i64 by_]),(26,.int .i64 8),(27,.int .i64 0)] [⟨[.agg [.int .i64 x0,.int .i64 y0,.int .i64 x1,.int .i64 y1,.int .i64 tp]],5,0,false,false⟩,⟨[.agg [.int .i64 ax,.int .i64 ay]],2,0,false,false⟩,⟨[.agg [.int .i64 bx,.int .i64 by_]],2,0,false,false⟩]) Q
def qLe1_at (x0 y0 x1 y1 tp ax ay bx by_:Int) (Q:AV->Heap->Prop):Prop:=Wp M1 (.run fi3 (atC (cd Try.f3) [1,0,1,0,0]) [(3,.ptr 0 0 0 0),(4,.ptr 1 0 0 0),(5,.ptr 2 0 0 0),(25,.vec true 1 [.int .i64 x0,.int .i64 y0,.int .i64 x1,.int .i64 y1,.int .i64 ax,.int .i64 ay,.int .i64 bx,.int .i64 by_]),(26,.int .i64 8),(27,.int .i64 1)] [⟨[.agg [.int .i64 x0,.int .i64 y0,.int .i64 x1,.int .i64 y1,.int .i64 tp]],5,0,false,false⟩,⟨[.agg [.int .i64 ax,.int .i64 ay]],2,0,false,false⟩,⟨[.agg [.int .i64 bx,.int .i64 by_]],2,0,false,false⟩]) Q
def qLe2_at (x0 y0 x1 y1 tp ax ay bx by_:Int) (Q:AV->Heap->Prop):Prop:=Wp M1 (.run fi3 (atC (cd Try.f3) [1,0,1,0,0]) [(3,.ptr 0 0 0 0),(4,.ptr 1 0 0 0),(5,.ptr 2 0 0 0),(25,.vec true 1 [.int .i64 x0,.int .i64 y0,.int .i64 x1,.int .i64 y1,.int .i64 ax,.int .i64 ay,.int .i64 bx,.int .i64 by_]),(26,.int .i64 8),(27,.int .i64 2)] [⟨[.agg [.int .i64 x0,.int .i64 y0,.int .i64 x1,.int .i64 y1,.int .i64 tp]],5,0,false,false⟩,⟨[.agg [.int .i64 ax,.int .i64 ay]],2,0,false,false⟩,⟨[.agg [.int .i64 bx,.int .i64 by_]],2,0,false,false⟩]) Q
def qLe3_at (x0 y0 x1 y1 tp ax ay bx by_:Int) (Q:AV->Heap->Prop):Prop:=Wp M1 (.run fi3 (atC (cd Try.f3) [1,0,1,0,0]) [(3,.ptr 0 0 0 0),(4,.ptr 1 0 0 0),(5,.ptr 2 0 0 0),(25,.vec true 1 [.int .i64 x0,.int .i64 y0,.int .i64 x1,.int .i64 y1,.int .i64 ax,.int .i64 ay,.int .i64 bx,.int .i64 by_]),(26,.int .i64 8),(27,.int .i64 3)] [⟨[.agg [.int .i64 x0,.int .i64 y0,.int .i64 x1,.int .i64 y1,.int .i64 tp]],5,0,false,false⟩,⟨[.agg [.int .i64 ax,.int .i64 ay]],2,0,false,false⟩,⟨[.agg [.int .i64 bx,.int .i64 by_]],2,0,false,false⟩]) Q
def qLe4_at (x0 y0 x1 y1 tp ax ay bx by_:Int) (Q:AV->Heap->Prop):Prop:=Wp M1 (.run fi3 (atC (cd Try.f3) [1,0,1,0,0]) [(3,.ptr 0 0 0 0),(4,.ptr 1 0 0 0),(5,.ptr 2 0 0 0),(25,.vec true 1 [.int .i64 x0,.int .i64 y0,.int .i64 x1,.int .i64 y1,.int .i64 ax,.int .i64 ay,.int .i64 bx,.int .i64 by_]),(26,.int .i64 8),(27,.int .i64 4)] [⟨[.agg [.int .i64 x0,.int .i64 y0,.int .i64 x1,.int .i64 y1,.int .i64 tp]],5,0,false,false⟩,⟨[.agg [.int .i64 ax,.int .i64 ay]],2,0,false,false⟩,⟨[.agg [.int .i64 bx,.int .i64 by_]],2,0,false,false⟩]) Q
def qLe5_at (x0 y0 x1 y1 tp ax ay bx by_:Int) (Q:AV->Heap->Prop):Prop:=Wp M1 (.run fi3 (atC (cd Try.f3) [1,0,1,0,0]) [(3,.ptr 0 0 0 0),(4,.ptr 1 0 0 0),(5,.ptr 2 0 0 0),(25,.vec true 1 [.int .i64 x0,.int .i64 y0,.int .i64 x1,.int .i64 y1,.int .i64 ax,.int .i64 ay,.int .i64 bx,.int .i64 by_]),(26,.int .i64 8),(27,.int .i64 5)] [⟨[.agg [.int .i64 x0,.int .i64 y0,.int .i64 x1,.int .i64 y1,.int .i64 tp]],5,0,false,false⟩,⟨[.agg [.int .i64 ax,.int .i64 ay]],2,0,false,false⟩,⟨[.agg [.int .i64 bx,.int .i64 by_]],2,0,false,false⟩]) Q
def qLe6_at (x0 y0 x1 y1 tp ax ay bx by_:Int) (Q:AV->Heap->Prop):Prop:=Wp M1 (.run fi3 (atC (cd Try.f3) [1,0,1,0,0]) [(3,.ptr 0 0 0 0),(4,.ptr 1 0 0 0),(5,.ptr 2 0 0 0),(25,.vec true 1 [.int .i64 x0,.int .i64 y0,.int .i64 x1,.int .i64 y1,.int .i64 ax,.int .i64 ay,.int .i64 bx,.int .i64 by_]),(26,.int .i64 8),(27,.int .i64 6)] [⟨[.agg [.int .i64 x0,.int .i64 y0,.int .i64 x1,.int .i64 y1,.int .i64 tp]],5,0,false,false⟩,⟨[.agg [.int .i64 ax,.int .i64 ay]],2,0,false,false⟩,⟨[.agg [.int .i64 bx,.int .i64 by_]],2,0,false,false⟩]) Q
def qLe7_at (x0 y0 x1 y1 tp ax ay bx by_:Int) (Q:AV->Heap->Prop):Prop:=Wp M1 (.run fi3 (atC (cd Try.f3) [1,0,1,0,0]) [(3,.ptr 0 0 0 0),(4,.ptr 1 0 0 0),(5,.ptr 2 0 0 0),(25,.vec true 1 [.int .i64 x0,.int .i64 y0,.int .i64 x1,.int .i64 y1,.int .i64 ax,.int .i64 ay,.int .i64 bx,.int .i64 by_]),(26,.int .i64 8),(27,.int .i64 7)] [⟨[.agg [.int .i64 x0,.int .i64 y0,.int .i64 x1,.int .i64 y1,.int .i64 tp]],5,0,false,false⟩,⟨[.agg [.int .i64 ax,.int .i64 ay]],2,0,false,false⟩,⟨[.agg [.int .i64 bx,.int .i64 by_]],2,0,false,false⟩]) Q
def qLe8_at (x0 y0 x1 y1 tp ax ay bx by_:Int) (Q:AV->Heap->Prop):Prop:=Wp M1 (.run fi3 (atC (cd Try.f3) [1,0,1,0,0]) [(3,.ptr 0 0 0 0),(4,.ptr 1 0 0 0),(5,.ptr 2 0 0 0),(25,.vec true 1 [.int .i64 x0,.int .i64 y0,.int .i64 x1,.int .i64 y1,.int .i64 ax,.int .i64 ay,.int .i64 bx,.int .i64 by_]),(26,.int .i64 8),(27,.int .i64 8)] [⟨[.agg [.int .i64 x0,.int .i64 y0,.int .i64 x1,.int .i64 y1,.int .i64 tp]],5,0,false,false⟩,⟨[.agg [.int .i64 ax,.int .i64 ay]],2,0,false,false⟩,⟨[.agg [.int .i64 bx,.int .i64 by_]],2,0,false,false⟩]) Q
theorem call3 {args:List AV} {d:AV} (h:wc M1 fi3 Try.f3 args d):Ev M1 (.pure 3 args) d []:=pcl _ _ (by kernel_rfl) h
theorem qLe (x0 y0 x1 y1 tp ax ay bx by_:Int)  (dq:AV) (H :
  qLe0_at x0 y0 x1 y1 tp ax ay bx by_ (Zaf dq)) :
 qLe_at x0 y0 x1 y1 tp ax ay bx by_ (Zaf dq):=by
 unfold qLe_at
 exact Zac (G:=Zad kp3 [] []) 1000 [] ⟨(atC (cd Try.f3) [1,0,1,0,0]),[(3,AV.ptr 0 0 0 0),(4,AV.ptr 1 0 0 0),(5,AV.ptr 2 0 0 0),(25,AV.vec true 1 [vi x0,vi y0,vi x1,vi y1,vi ax,vi ay,vi bx,vi by_]),(26,vi 8),(27,vi 0)],[⟨[ag [vi x0,vi y0,vi x1,vi y1,vi tp]],5,0,false,false⟩,⟨[ag [vi ax,vi ay]],2,0,false,false⟩,⟨[ag [vi bx,vi by_]],2,0,false,false⟩],_,[],_⟩ (by kernel_rfl) (bc rfl (bc rfl (bc rfl (bc rfl (bc rfl (bc rfl (bc rfl (bc rfl b0)))))))) q0 c0 H
theorem qLe0 (x0 y0 x1 y1 tp ax ay bx by_:Int)  (dq:AV) (H :
  (((x0>20000000)\/(x0 < -20000000))->vb true=dq) /\
  (¬((x0>20000000)\/(x0 < -20000000))->qLe1_at x0 y0 x1 y1 tp ax ay bx by_ (Zaf dq))) :
 qLe0_at x0 y0 x1 y1 tp ax ay bx by_ (Zaf dq):=by
 unfold qLe0_at
 rcases xq H with ⟨d2,H⟩|⟨d2,H⟩
 ·exact Zai (G:=Zad kp3 [(5,0,.call (vb true) none)] []) 1000 [true,true] (vb true) (by kernel_rfl) (bc rfl (bc rfl (bc rfl (bc (Zao ((ZaP Zab Zab).2 d2)) b0)))) q0 (ce (@ev8 ) c0) H
 ·exact Zac (G:=Zad kp3 [] []) 1000 [true,false] ⟨(atC (cd Try.f3) [1,0,1,0,0]),[(3,AV.ptr 0 0 0 0),(4,AV.ptr 1 0 0 0),(5,AV.ptr 2 0 0 0),(25,AV.vec true 1 [vi x0,vi y0,vi x1,vi y1,vi ax,vi ay,vi bx,vi by_]),(26,vi 8),(27,vi 1)],[⟨[ag [vi x0,vi y0,vi x1,vi y1,vi tp]],5,0,false,false⟩,⟨[ag [vi ax,vi ay]],2,0,false,false⟩,⟨[ag [vi bx,vi by_]],2,0,false,false⟩],_,[],_⟩ (by kernel_rfl) (bc rfl (bc rfl (bc rfl (bc (Zaj (fun h=>d2 ((ZaP Zab Zab).1 h))) b0)))) q0 c0 H
theorem qLe1 (x0 y0 x1 y1 tp ax ay bx by_:Int)  (dq:AV) (H :
  (((y0>20000000)\/(y0 < -20000000))->vb true=dq) /\
  (¬((y0>20000000)\/(y0 < -20000000))->qLe2_at x0 y0 x1 y1 tp ax ay bx by_ (Zaf dq))) :
 qLe1_at x0 y0 x1 y1 tp ax ay bx by_ (Zaf dq):=by
 unfold qLe1_at
 rcases xq H with ⟨d2,H⟩|⟨d2,H⟩
 ·exact Zai (G:=Zad kp3 [(5,0,.call (vb true) none)] []) 1000 [true,true] (vb true) (by kernel_rfl) (bc rfl (bc rfl (bc rfl (bc (Zao ((ZaP Zab Zab).2 d2)) b0)))) q0 (ce (@ev8 ) c0) H
 ·exact Zac (G:=Zad kp3 [] []) 1000 [true,false] ⟨(atC (cd Try.f3) [1,0,1,0,0]),[(3,AV.ptr 0 0 0 0),(4,AV.ptr 1 0 0 0),(5,AV.ptr 2 0 0 0),(25,AV.vec true 1 [vi x0,vi y0,vi x1,vi y1,vi ax,vi ay,vi bx,vi by_]),(26,vi 8),(27,vi 2)],[⟨[ag [vi x0,vi y0,vi x1,vi y1,vi tp]],5,0,false,false⟩,⟨[ag [vi ax,vi ay]],2,0,false,false⟩,⟨[ag [vi bx,vi by_]],2,0,false,false⟩],_,[],_⟩ (by kernel_rfl) (bc rfl (bc rfl (bc rfl (bc (Zaj (fun h=>d2 ((ZaP Zab Zab).1 h))) b0)))) q0 c0 H
theorem qLe2 (x0 y0 x1 y1 tp ax ay bx by_:Int)  (dq:AV) (H :
  (((x1>20000000)\/(x1 < -20000000))->vb true=dq) /\
  (¬((x1>20000000)\/(x1 < -20000000))->qLe3_at x0 y0 x1 y1 tp ax ay bx by_ (Zaf dq))) :
 qLe2_at x0 y0 x1 y1 tp ax ay bx by_ (Zaf dq):=by
 unfold qLe2_at
 rcases xq H with ⟨d2,H⟩|⟨d2,H⟩
 ·exact Zai (G:=Zad kp3 [(5,0,.call (vb true) none)] []) 1000 [true,true] (vb true) (by kernel_rfl) (bc rfl (bc rfl (bc rfl (bc (Zao ((ZaP Zab Zab).2 d2)) b0)))) q0 (ce (@ev8 ) c0) H
 ·exact Zac (G:=Zad kp3 [] []) 1000 [true,false] ⟨(atC (cd Try.f3) [1,0,1,0,0]),[(3,AV.ptr 0 0 0 0),(4,AV.ptr 1 0 0 0),(5,AV.ptr 2 0 0 0),(25,AV.vec true 1 [vi x0,vi y0,vi x1,vi y1,vi ax,vi ay,vi bx,vi by_]),(26,vi 8),(27,vi 3)],[⟨[ag [vi x0,vi y0,vi x1,vi y1,vi tp]],5,0,false,false⟩,⟨[ag [vi ax,vi ay]],2,0,false,false⟩,⟨[ag [vi bx,vi by_]],2,0,false,false⟩],_,[],_⟩ (by kernel_rfl) (bc rfl (bc rfl (bc rfl (bc (Zaj (fun h=>d2 ((ZaP Zab Zab).1 h))) b0)))) q0 c0 H
theorem qLe3 (x0 y0 x1 y1 tp ax ay bx by_:Int)  (dq:AV) (H :
  (((y1>20000000)\/(y1 < -20000000))->vb true=dq) /\
  (¬((y1>20000000)\/(y1 < -20000000))->qLe4_at x0 y0 x1 y1 tp ax ay bx by_ (Zaf dq))) :
 qLe3_at x0 y0 x1 y1 tp ax ay bx by_ (Zaf dq):=by
 unfold qLe3_at
 rcases xq H with ⟨d2,H⟩|⟨d2,H⟩
 ·exact Zai (G:=Zad kp3 [(5,0,.call (vb true) none)] []) 1000 [true,true] (vb true) (by kernel_rfl) (bc rfl (bc rfl (bc rfl (bc (Zao ((ZaP Zab Zab).2 d2)) b0)))) q0 (ce (@ev8 ) c0) H
 ·exact Zac (G:=Zad kp3 [] []) 1000 [true,false] ⟨(atC (cd Try.f3) [1,0,1,0,0]),[(3,AV.ptr 0 0 0 0),(4,AV.ptr 1 0 0 0),(5,AV.ptr 2 0 0 0),(25,AV.vec true 1 [vi x0,vi y0,vi x1,vi y1,vi ax,vi ay,vi bx,vi by_]),(26,vi 8),(27,vi 4)],[⟨[ag [vi x0,vi y0,vi x1,vi y1,vi tp]],5,0,false,false⟩,⟨[ag [vi ax,vi ay]],2,0,false,false⟩,⟨[ag [vi bx,vi by_]],2,0,false,false⟩],_,[],_⟩ (by kernel_rfl) (bc rfl (bc rfl (bc rfl (bc (Zaj (fun h=>d2 ((ZaP Zab Zab).1 h))) b0)))) q0 c0 H
theorem qLe4 (x0 y0 x1 y1 tp ax ay bx by_:Int)  (dq:AV) (H :
  (((ax>20000000)\/(ax < -20000000))->vb true=dq) /\
  (¬((ax>20000000)\/(ax < -20000000))->qLe5_at x0 y0 x1 y1 tp ax ay bx by_ (Zaf dq))) :
 qLe4_at x0 y0 x1 y1 tp ax ay bx by_ (Zaf dq):=by
 unfold qLe4_at
 rcases xq H with ⟨d2,H⟩|⟨d2,H⟩
 ·exact Zai (G:=Zad kp3 [(5,0,.call (vb true) none)] []) 1000 [true,true] (vb true) (by kernel_rfl) (bc rfl (bc rfl (bc rfl (bc (Zao ((ZaP Zab Zab).2 d2)) b0)))) q0 (ce (@ev8 ) c0) H
 ·exact Zac (G:=Zad kp3 [] []) 1000 [true,false] ⟨(atC (cd Try.f3) [1,0,1,0,0]),[(3,AV.ptr 0 0 0 0),(4,AV.ptr 1 0 0 0),(5,AV.ptr 2 0 0 0),(25,AV.vec true 1 [vi x0,vi y0,vi x1,vi y1,vi ax,vi ay,vi bx,vi by_]),(26,vi 8),(27,vi 5)],[⟨[ag [vi x0,vi y0,vi x1,vi y1,vi tp]],5,0,false,false⟩,⟨[ag [vi ax,vi ay]],2,0,false,false⟩,⟨[ag [vi bx,vi by_]],2,0,false,false⟩],_,[],_⟩ (by kernel_rfl) (bc rfl (bc rfl (bc rfl (bc (Zaj (fun h=>d2 ((ZaP Zab Zab).1 h))) b0)))) q0 c0 H
theorem qLe5 (x0 y0 x1 y1 tp ax ay bx by_:Int)  (dq:AV) (H :
  (((ay>20000000)\/(ay < -20000000))->vb true=dq) /\
  (¬((ay>20000000)\/(ay < -20000000))->qLe6_at x0 y0 x1 y1 tp ax ay bx by_ (Zaf dq))) :
 qLe5_at x0 y0 x1 y1 tp ax ay bx by_ (Zaf dq):=by
 unfold qLe5_at
 rcases xq H with ⟨d2,H⟩|⟨d2,H⟩
 ·exact Zai (G:=Zad kp3 [(5,0,.call (vb true) none)] []) 1000 [true,true] (vb true) (by kernel_rfl) (bc rfl (bc rfl (bc rfl (bc (Zao ((ZaP Zab Zab).2 d2)) b0)))) q0 (ce (@ev8 ) c0) H
 ·exact Zac (G:=Zad kp3 [] []) 1000 [true,false] ⟨(atC (cd Try.f3) [1,0,1,0,0]),[(3,AV.ptr 0 0 0 0),(4,AV.ptr 1 0 0 0),(5,AV.ptr 2 0 0 0),(25,AV.vec true 1 [vi x0,vi y0,vi x1,vi y1,vi ax,vi ay,vi bx,vi by_]),(26,vi 8),(27,vi 6)],[⟨[ag [vi x0,vi y0,vi x1,vi y1,vi tp]],5,0,false,false⟩,⟨[ag [vi ax,vi ay]],2,0,false,false⟩,⟨[ag [vi bx,vi by_]],2,0,false,false⟩],_,[],_⟩ (by kernel_rfl) (bc rfl (bc rfl (bc rfl (bc (Zaj (fun h=>d2 ((ZaP Zab Zab).1 h))) b0)))) q0 c0 H
theorem qLe6 (x0 y0 x1 y1 tp ax ay bx by_:Int)  (dq:AV) (H :
  (((bx>20000000)\/(bx < -20000000))->vb true=dq) /\
  (¬((bx>20000000)\/(bx < -20000000))->qLe7_at x0 y0 x1 y1 tp ax ay bx by_ (Zaf dq))) :
 qLe6_at x0 y0 x1 y1 tp ax ay bx by_ (Zaf dq):=by
 unfold qLe6_at
 rcases xq H with ⟨d2,H⟩|⟨d2,H⟩
 ·exact Zai (G:=Zad kp3 [(5,0,.call (vb true) none)] []) 1000 [true,true] (vb true) (by kernel_rfl) (bc rfl (bc rfl (bc rfl (bc (Zao ((ZaP Zab Zab).2 d2)) b0)))) q0 (ce (@ev8 ) c0) H
 ·exact Zac (G:=Zad kp3 [] []) 1000 [true,false] ⟨(atC (cd Try.f3) [1,0,1,0,0]),[(3,AV.ptr 0 0 0 0),(4,AV.ptr 1 0 0 0),(5,AV.ptr 2 0 0 0),(25,AV.vec true 1 [vi x0,vi y0,vi x1,vi y1,vi ax,vi ay,vi bx,vi by_]),(26,vi 8),(27,vi 7)],[⟨[ag [vi x0,vi y0,vi x1,vi y1,vi tp]],5,0,false,false⟩,⟨[ag [vi ax,vi ay]],2,0,false,false⟩,⟨[ag [vi bx,vi by_]],2,0,false,false⟩],_,[],_⟩ (by kernel_rfl) (bc rfl (bc rfl (bc rfl (bc (Zaj (fun h=>d2 ((ZaP Zab Zab).1 h))) b0)))) q0 c0 H
theorem qLe7 (x0 y0 x1 y1 tp ax ay bx by_:Int)  (dq:AV) (H :
  (((by_>20000000)\/(by_ < -20000000))->vb true=dq) /\
  (¬((by_>20000000)\/(by_ < -20000000))->qLe8_at x0 y0 x1 y1 tp ax ay bx by_ (Zaf dq))) :
 qLe7_at x0 y0 x1 y1 tp ax ay bx by_ (Zaf dq):=by
 unfold qLe7_at
 rcases xq H with ⟨d2,H⟩|⟨d2,H⟩
 ·exact Zai (G:=Zad kp3 [(5,0,.call (vb true) none)] []) 1000 [true,true] (vb true) (by kernel_rfl) (bc rfl (bc rfl (bc rfl (bc (Zao ((ZaP Zab Zab).2 d2)) b0)))) q0 (ce (@ev8 ) c0) H
 ·exact Zac (G:=Zad kp3 [] []) 1000 [true,false] ⟨(atC (cd Try.f3) [1,0,1,0,0]),[(3,AV.ptr 0 0 0 0),(4,AV.ptr 1 0 0 0),(5,AV.ptr 2 0 0 0),(25,AV.vec true 1 [vi x0,vi y0,vi x1,vi y1,vi ax,vi ay,vi bx,vi by_]),(26,vi 8),(27,vi 8)],[⟨[ag [vi x0,vi y0,vi x1,vi y1,vi tp]],5,0,false,false⟩,⟨[ag [vi ax,vi ay]],2,0,false,false⟩,⟨[ag [vi bx,vi by_]],2,0,false,false⟩],_,[],_⟩ (by kernel_rfl) (bc rfl (bc rfl (bc rfl (bc (Zaj (fun h=>d2 ((ZaP Zab Zab).1 h))) b0)))) q0 c0 H
noncomputable abbrev zNqS1 (x0:Int) (y0:Int) (x1:Int) (y1:Int) (tp:Int):=ag [vi x0,vi y0,vi x1,vi y1,vi tp]
noncomputable abbrev zNqS2 (ax:Int) (ay:Int):=ag [vi ax,vi ay]
noncomputable abbrev zNqS3 (bx:Int) (by_:Int):=ag [vi bx,vi by_]
noncomputable abbrev zNqS4 (x0:Int) (y0:Int) (x1:Int) (y1:Int) (ax:Int) (ay:Int) (bx:Int) (by_:Int):=O.ZcX x0 y0 x1 y1 ax ay bx by_==O.ZcX x0 y0 x1 y1 ax ay bx by_
theorem qLe8 (x0 y0 x1 y1 tp ax ay bx by_:Int)  (dq:AV) (H :
  (O.cc8 x0 y0 x1 y1 ax ay bx by_) /\
  ((O.ZcX x0 y0 x1 y1 ax ay bx by_=O.ZcX x0 y0 x1 y1 ax ay bx by_)->(O.cc8 x0 y0 x1 y1 bx by_ ax ay)) /\
  vb (bif O.ZcX x0 y0 x1 y1 ax ay bx by_==O.ZcX x0 y0 x1 y1 ax ay bx by_ then O.ZcX x0 y0 x1 y1 bx by_ ax ay==O.ZcX x0 y0 x1 y1 ax ay bx by_ else false)=dq) :
 qLe8_at x0 y0 x1 y1 tp ax ay bx by_ (Zaf dq):=by
 unfold qLe8_at
 obtain ⟨k1,k3,H⟩:=H
 exact Zai (G:=Zad kp3 [(7,0,.call (vb true) none),(7,5,.call (vb (O.ZcX x0 y0 x1 y1 ax ay bx by_)) none),(7,9,.call (vb (O.ZcX x0 y0 x1 y1 ax ay bx by_)) none),(7,16,.call (vb (O.ZcX x0 y0 x1 y1 bx by_ ax ay)) none),(7,20,.call (vb (O.ZcX x0 y0 x1 y1 ax ay bx by_)) none)] []) 1000 [false] (asm:=[false==false,true,true,true,true,true,true,!((zNqS4 x0 y0 x1 y1 ax ay bx by_)==true&&true)||true,!((zNqS4 x0 y0 x1 y1 ax ay bx by_)==true&&true)||true,!((zNqS4 x0 y0 x1 y1 ax ay bx by_)==true&&true)||true,!((zNqS4 x0 y0 x1 y1 ax ay bx by_)==true&&true)||true,!((zNqS4 x0 y0 x1 y1 ax ay bx by_)==true&&true)||true,!((zNqS4 x0 y0 x1 y1 ax ay bx by_)==true&&true)||true]) (calls:=[⟨true,false,8,[],[],vb true,[]⟩,⟨true,false,9,[(zNqS1 x0 y0 x1 y1 tp),(zNqS2 ax ay),(zNqS3 bx by_)],[],vb (O.ZcX x0 y0 x1 y1 ax ay bx by_),[]⟩,⟨true,false,10,[(zNqS1 x0 y0 x1 y1 tp),(zNqS2 ax ay),(zNqS3 bx by_)],[],vb (O.ZcX x0 y0 x1 y1 ax ay bx by_),[]⟩,⟨(zNqS4 x0 y0 x1 y1 ax ay bx by_)==true&&true&&true,false,9,[(zNqS1 x0 y0 x1 y1 tp),(zNqS3 bx by_),(zNqS2 ax ay)],[],vb (O.ZcX x0 y0 x1 y1 bx by_ ax ay),[]⟩,⟨(zNqS4 x0 y0 x1 y1 ax ay bx by_)==true&&true&&true,false,10,[(zNqS1 x0 y0 x1 y1 tp),(zNqS2 ax ay),(zNqS3 bx by_)],[],vb (O.ZcX x0 y0 x1 y1 ax ay bx by_),[]⟩]) (vb (bif O.ZcX x0 y0 x1 y1 ax ay bx by_==O.ZcX x0 y0 x1 y1 ax ay bx by_ then O.ZcX x0 y0 x1 y1 bx by_ ax ay==O.ZcX x0 y0 x1 y1 ax ay bx by_ else false)) (by kernel_rfl) (bc rfl (bc rfl (bc rfl (bc rfl (bc rfl (bc rfl (bc rfl (bc (Bool.or_true _) (bc (Bool.or_true _) (bc (Bool.or_true _) (bc (Bool.or_true _) (bc (Bool.or_true _) (bc (Bool.or_true _) b0))))))))))))) q0 (cc (fun _=>(@ev8 )) (cc (fun _=>(@ev9 x0 y0 x1 y1 tp ax ay bx by_ k1)) (cc (fun _=>(@ev10 x0 y0 x1 y1 tp ax ay bx by_ k1)) (cc (fun hc=>((@ev9 x0 y0 x1 y1 tp bx by_ ax ay (k3 ((i_at (i_at (i_bt i_eq))).1 hc))):Ev M1 (Conf.pure 9 [(zNqS1 x0 y0 x1 y1 tp),(zNqS3 bx by_),(zNqS2 ax ay)]) (vb (O.ZcX x0 y0 x1 y1 bx by_ ax ay)) [])) (cc (fun hc=>((@ev10 x0 y0 x1 y1 tp ax ay bx by_ k1):Ev M1 (Conf.pure 10 [(zNqS1 x0 y0 x1 y1 tp),(zNqS2 ax ay),(zNqS3 bx by_)]) (vb (O.ZcX x0 y0 x1 y1 ax ay bx by_)) [])) c0))))) H
end Go.Av

namespace Go.Av
open Go.Proofs
theorem le_ev (x0 y0 x1 y1 tp ax ay bx by_:Int):Ev M1 (.pure 3 [.agg [.int .i64 x0,.int .i64 y0,.int .i64 x1,.int .i64 y1,.int .i64 tp],.agg [.int .i64 ax,.int .i64 ay],.agg [.int .i64 bx,.int .i64 by_]]) (.bool true) []:=by
 refine call3 (qLe _ _ _ _ _ _ _ _ _ _ ?_)
 refine qLe0 _ _ _ _ _ _ _ _ _ _ ⟨fun _=>rfl,fun h0 => ?_⟩
 refine qLe1 _ _ _ _ _ _ _ _ _ _ ⟨fun _=>rfl,fun h1 => ?_⟩
 refine qLe2 _ _ _ _ _ _ _ _ _ _ ⟨fun _=>rfl,fun h2 => ?_⟩
 refine qLe3 _ _ _ _ _ _ _ _ _ _ ⟨fun _=>rfl,fun h3 => ?_⟩
 refine qLe4 _ _ _ _ _ _ _ _ _ _ ⟨fun _=>rfl,fun h4 => ?_⟩
 refine qLe5 _ _ _ _ _ _ _ _ _ _ ⟨fun _=>rfl,fun h5 => ?_⟩
 refine qLe6 _ _ _ _ _ _ _ _ _ _ ⟨fun _=>rfl,fun h6 => ?_⟩
 refine qLe7 _ _ _ _ _ _ _ _ _ _ ⟨fun _=>rfl,fun h7 => ?_⟩
 have e:O.ZcX x0 y0 x1 y1 bx by_ ax ay=O.ZcX x0 y0 x1 y1 ax ay bx by_:=by
  rw [Bool.eq_iff_iff,ent_ref,ent_ref];exact ref_back ..
 refine qLe8 _ _ _ _ _ _ _ _ _ _ ⟨by unfold O.cc8 O.cc;omega,fun _=>by unfold O.cc8 O.cc;omega,?_⟩
 rw [e,beq_self_eq_true];rfl
section
variable {f:Bool} {bs:List Bx} {a b:Gp}
end
section
variable {f g:Bool} {ax ay bx by_:Int} {ks:List Int}
end
section
variable {f g:Bool} {c:Bx} {bs:List Bx} {ax ay bx by_:Int} {ks:List Int}
end
end Go.Av
