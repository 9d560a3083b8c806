/- PART 5 of the texts of a claim, joined by a program: what each part shows stands at its head. -/
import Derived.Test.YtcekollfgmfdjaaGreatPart50c9c9c6bb

namespace Go.Av
open Go.Proofs
set_option maxRecDepth 100000
def fi79:Fi:=⟨47,[.tmp 8]⟩
def kp79:List (Nat × List Nat):=[(0,[4,5,6,7]),(1,[4,5,6,7,9,10]),(2,[8])]
def fi80:Fi:=⟨51,[.cell 6 87]⟩
def kp80:List (Nat × List Nat):=[(0,[3,4,5,6]),(1,[4,5,6,7,8]),(2,[4,5,6,7,8,9,10]),(3,[4,5,6,7,8,9,10,25]),(4,[6]),(5,[4,5,6,7,8,9,32]),(6,[6,11]),(7,[6]),(8,[6,9,12]),(9,[6])]
def qToS_at (f1 f2 f3 f4 f5 f6 f7 f8 f9 f10 f11 f12:Bool) (x1 y1 x2 y2 x3 y3:Rat) (Q:AV->Heap->Prop):Prop:=Wp M1 (.run fi80 (atC (cd Tryz.f80) []) [(0,.agg [.bool (N.Zaa x1.num),.vec f1 1 ((N.Zac x1.num).map (.int .u32)),.bool (N.Zaa (x1.den:Int)),.vec f2 1 ((N.Zac (x1.den:Int)).map (.int .u32)),.bool (N.Zaa y1.num),.vec f3 1 ((N.Zac y1.num).map (.int .u32)),.bool (N.Zaa (y1.den:Int)),.vec f4 1 ((N.Zac (y1.den:Int)).map (.int .u32))]),(1,.agg [.bool (N.Zaa x2.num),.vec f5 1 ((N.Zac x2.num).map (.int .u32)),.bool (N.Zaa (x2.den:Int)),.vec f6 1 ((N.Zac (x2.den:Int)).map (.int .u32)),.bool (N.Zaa y2.num),.vec f7 1 ((N.Zac y2.num).map (.int .u32)),.bool (N.Zaa (y2.den:Int)),.vec f8 1 ((N.Zac (y2.den:Int)).map (.int .u32))]),(2,.agg [.bool (N.Zaa x3.num),.vec f9 1 ((N.Zac x3.num).map (.int .u32)),.bool (N.Zaa (x3.den:Int)),.vec f10 1 ((N.Zac (x3.den:Int)).map (.int .u32)),.bool (N.Zaa y3.num),.vec f11 1 ((N.Zac y3.num).map (.int .u32)),.bool (N.Zaa (y3.den:Int)),.vec f12 1 ((N.Zac (y3.den:Int)).map (.int .u32))])] []) Q
def qCrs_at (f1 f2 f3 f4 f5 f6 f7 f8 f9 f10 f11 f12 f13 f14 f15 f16:Bool) (x1 y1 x2 y2 x3 y3 x4 y4:Rat) (Q:AV->Heap->Prop):Prop:=Wp M1 (.run fi79 (atC (cd Tryz.f79) []) [(0,.agg [.bool (N.Zaa x1.num),.vec f1 1 ((N.Zac x1.num).map (.int .u32)),.bool (N.Zaa (x1.den:Int)),.vec f2 1 ((N.Zac (x1.den:Int)).map (.int .u32)),.bool (N.Zaa y1.num),.vec f3 1 ((N.Zac y1.num).map (.int .u32)),.bool (N.Zaa (y1.den:Int)),.vec f4 1 ((N.Zac (y1.den:Int)).map (.int .u32))]),(1,.agg [.bool (N.Zaa x2.num),.vec f5 1 ((N.Zac x2.num).map (.int .u32)),.bool (N.Zaa (x2.den:Int)),.vec f6 1 ((N.Zac (x2.den:Int)).map (.int .u32)),.bool (N.Zaa y2.num),.vec f7 1 ((N.Zac y2.num).map (.int .u32)),.bool (N.Zaa (y2.den:Int)),.vec f8 1 ((N.Zac (y2.den:Int)).map (.int .u32))]),(2,.agg [.bool (N.Zaa x3.num),.vec f9 1 ((N.Zac x3.num).map (.int .u32)),.bool (N.Zaa (x3.den:Int)),.vec f10 1 ((N.Zac (x3.den:Int)).map (.int .u32)),.bool (N.Zaa y3.num),.vec f11 1 ((N.Zac y3.num).map (.int .u32)),.bool (N.Zaa (y3.den:Int)),.vec f12 1 ((N.Zac (y3.den:Int)).map (.int .u32))]),(3,.agg [.bool (N.Zaa x4.num),.vec f13 1 ((N.Zac x4.num).map (.int .u32)),.bool (N.Zaa (x4.den:Int)),.vec f14 1 ((N.Zac (x4.den:Int)).map (.int .u32)),.bool (N.Zaa y4.num),.vec f15 1 ((N.Zac y4.num).map (.int .u32)),.bool (N.Zaa (y4.den:Int)),.vec f16 1 ((N.Zac (y4.den:Int)).map (.int .u32))])] []) Q
theorem call79 {args:List AV} {d:AV} (h:wc M1 fi79 Tryz.f79 args d):Ev M1 (.pure 79 args) d []:=pcl _ _ (by kernel_rfl) h
theorem call80 {args:List AV} {d:AV} (h:wc M1 fi80 Tryz.f80 args d):Ev M1 (.pure 80 args) d []:=pcl _ _ (by kernel_rfl) h
noncomputable abbrev ZfE (x2:Rat) (x1:Rat) (y2:Rat) (y1:Rat):=ag [vb (N.Zaa (x2-x1).num),vf (us (N.Zac (x2-x1).num)),vb (N.Zaa (↑(x2-x1).den:Int)),vf (us (N.Zac (↑(x2-x1).den:Int))),vb (N.Zaa (y2-y1).num),vf (us (N.Zac (y2-y1).num)),vb (N.Zaa (↑(y2-y1).den:Int)),vf (us (N.Zac (↑(y2-y1).den:Int)))]
noncomputable abbrev zNqM2 (x3:Rat) (x1:Rat) (y3:Rat) (y1:Rat):=ag [vb (N.Zaa (x3-x1).num),vf (us (N.Zac (x3-x1).num)),vb (N.Zaa (↑(x3-x1).den:Int)),vf (us (N.Zac (↑(x3-x1).den:Int))),vb (N.Zaa (y3-y1).num),vf (us (N.Zac (y3-y1).num)),vb (N.Zaa (↑(y3-y1).den:Int)),vf (us (N.Zac (↑(y3-y1).den:Int)))]
noncomputable abbrev zNqM3 (x1:Rat) (f1:Bool) (f2:Bool) (y1:Rat) (f3:Bool) (f4:Bool):=ag [vb (N.Zaa x1.num),AV.vec f1 1 (us (N.Zac x1.num)),vb (N.Zaa (↑x1.den:Int)),AV.vec f2 1 (us (N.Zac (↑x1.den:Int))),vb (N.Zaa y1.num),AV.vec f3 1 (us (N.Zac y1.num)),vb (N.Zaa (↑y1.den:Int)),AV.vec f4 1 (us (N.Zac (↑y1.den:Int)))]
noncomputable abbrev zNqM4 (x2:Rat) (f5:Bool) (f6:Bool) (y2:Rat) (f7:Bool) (f8:Bool):=ag [vb (N.Zaa x2.num),AV.vec f5 1 (us (N.Zac x2.num)),vb (N.Zaa (↑x2.den:Int)),AV.vec f6 1 (us (N.Zac (↑x2.den:Int))),vb (N.Zaa y2.num),AV.vec f7 1 (us (N.Zac y2.num)),vb (N.Zaa (↑y2.den:Int)),AV.vec f8 1 (us (N.Zac (↑y2.den:Int)))]
noncomputable abbrev zNqM5 (x3:Rat) (f9:Bool) (f10:Bool) (y3:Rat) (f11:Bool) (f12:Bool):=ag [vb (N.Zaa x3.num),AV.vec f9 1 (us (N.Zac x3.num)),vb (N.Zaa (↑x3.den:Int)),AV.vec f10 1 (us (N.Zac (↑x3.den:Int))),vb (N.Zaa y3.num),AV.vec f11 1 (us (N.Zac y3.num)),vb (N.Zaa (↑y3.den:Int)),AV.vec f12 1 (us (N.Zac (↑y3.den:Int)))]
noncomputable abbrev zNqM6:=ag [vb false,AV.vnil,vb false,AV.vnil]
noncomputable abbrev zNqM7 (x2:Rat) (x1:Rat) (x3:Rat) (y2:Rat) (y1:Rat) (y3:Rat):=N.sgnI (((x2-x1)*(x3-x1)+(y2-y1)*(y3-y1)).num*(↑((x2-x1)*(x2-x1)+(y2-y1)*(y2-y1)).den:Int)-((x2-x1)*(x2-x1)+(y2-y1)*(y2-y1)).num*(↑((x2-x1)*(x3-x1)+(y2-y1)*(y3-y1)).den:Int))>=0
theorem qToS (f1 f2 f3 f4 f5 f6 f7 f8 f9 f10 f11 f12:Bool) (x1 y1 x2 y2 x3 y3:Rat)  (dq:AV) (H :
  (N.okW x1 y1 x2 y2) /\
  (N.okW x1 y1 x3 y3) /\
  (N.okD (x2-x1) (y2-y1) (x2-x1) (y2-y1)) /\
  (N.okD (x2-x1) (y2-y1) (x3-x1) (y3-y1)) /\
  ((N.sgnI ((x2-x1)*(x3-x1)+(y2-y1)*(y3-y1)).num<=0)->(N.okD (x3-x1) (y3-y1) (x3-x1) (y3-y1)) /\
   Weak (ratF ((x3-x1)*(x3-x1)+(y3-y1)*(y3-y1))) dq) /\
  (¬(N.sgnI ((x2-x1)*(x3-x1)+(y2-y1)*(y3-y1)).num<=0)->(N.okR ((x2-x1)*(x3-x1)+(y2-y1)*(y3-y1))/\N.okR ((x2-x1)*(x2-x1)+(y2-y1)*(y2-y1))) /\
   ((N.sgnI (((x2-x1)*(x3-x1)+(y2-y1)*(y3-y1)).num*(↑((x2-x1)*(x2-x1)+(y2-y1)*(y2-y1)).den:Int)-((x2-x1)*(x2-x1)+(y2-y1)*(y2-y1)).num*(↑((x2-x1)*(x3-x1)+(y2-y1)*(y3-y1)).den:Int))>=0)->(N.okW x2 y2 x3 y3) /\
    (N.okD (x3-x2) (y3-y2) (x3-x2) (y3-y2)) /\
    Weak (ratF ((x3-x2)*(x3-x2)+(y3-y2)*(y3-y2))) dq) /\
   (¬(N.sgnI (((x2-x1)*(x3-x1)+(y2-y1)*(y3-y1)).num*(↑((x2-x1)*(x2-x1)+(y2-y1)*(y2-y1)).den:Int)-((x2-x1)*(x2-x1)+(y2-y1)*(y2-y1)).num*(↑((x2-x1)*(x3-x1)+(y2-y1)*(y3-y1)).den:Int))>=0)->(N.okR ((x2-x1)*(y3-y1)-(y2-y1)*(x3-x1))/\N.okR ((x2-x1)*(y3-y1)-(y2-y1)*(x3-x1))) /\
    (N.okR (((x2-x1)*(y3-y1)-(y2-y1)*(x3-x1))*((x2-x1)*(y3-y1)-(y2-y1)*(x3-x1)))/\N.okR ((x2-x1)*(x2-x1)+(y2-y1)*(y2-y1))/\((x2-x1)*(x2-x1)+(y2-y1)*(y2-y1)).num ≠ 0) /\
    Weak (ratF (((x2-x1)*(y3-y1)-(y2-y1)*(x3-x1))*((x2-x1)*(y3-y1)-(y2-y1)*(x3-x1)) / ((x2-x1)*(x2-x1)+(y2-y1)*(y2-y1)))) dq))) :
 qToS_at f1 f2 f3 f4 f5 f6 f7 f8 f9 f10 f11 f12 x1 y1 x2 y2 x3 y3 (Zaf dq):=by
 unfold qToS_at
 obtain ⟨k1,k2,H⟩:=H
 refine Zad (G:=Zae kp80 [(1,2,.call ((ZfE x2 x1 y2 y1)) none),(1,5,.call ((zNqM2 x3 x1 y3 y1)) none)] []) 3 [] ⟨(atC (cd Tryz.f80) [1,0]),[(3,AV.ptr 0 0 0 0),(4,AV.ptr 1 0 0 0),(5,AV.ptr 2 0 0 0),(6,AV.ptr 3 0 0 0)],[⟨[(zNqM3 x1 f1 f2 y1 f3 f4)],8,0,false,false⟩,⟨[(zNqM4 x2 f5 f6 y2 f7 f8)],8,0,false,false⟩,⟨[(zNqM5 x3 f9 f10 y3 f11 f12)],8,0,false,false⟩,⟨[zNqM6],4,0,false,false⟩],_,[],_⟩ (by kernel_rfl) b0 q0 c0 (ZcN (G:=Zae kp80 [(1,2,.call ((ZfE x2 x1 y2 y1)) none),(1,5,.call ((zNqM2 x3 x1 y3 y1)) none)] []) [0,1,2,3,5,4] 6 (e1:=[(4,AV.ptr 1 0 0 0),(5,AV.ptr 2 0 0 0),(6,AV.ptr 3 0 0 0),(7,AV.ptr 4 0 0 0),(8,AV.ptr 5 0 0 0)]) (L1:=[⟨[(zNqM3 x1 f1 f2 y1 f3 f4)],8,0,false,false⟩,⟨[(zNqM4 x2 f5 f6 y2 f7 f8)],8,0,false,false⟩,⟨[(zNqM5 x3 f9 f10 y3 f11 f12)],8,0,false,false⟩,⟨[zNqM6],4,0,false,false⟩,⟨[(ZfE x2 x1 y2 y1)],8,0,false,false⟩,⟨[(zNqM2 x3 x1 y3 y1)],8,0,false,false⟩]) (a:=[true,true,true,true,true,true]) (q:=[]) (cs:=[⟨true,false,98,[(zNqM3 x1 f1 f2 y1 f3 f4),(zNqM4 x2 f5 f6 y2 f7 f8)],[],(ZfE x2 x1 y2 y1),[]⟩,⟨true,false,98,[(zNqM3 x1 f1 f2 y1 f3 f4),(zNqM5 x3 f9 f10 y3 f11 f12)],[],(zNqM2 x3 x1 y3 y1),[]⟩]) (by kernel_rfl) (by kernel_rfl) (Zag rfl (Zag rfl (Zag rfl (Zag rfl (Zag rfl (Zag rfl ZaB)))))) ZaV (ZaJ (fun _=>(@ev98 f1 f2 f3 f4 f5 f6 f7 f8 x1 y1 x2 y2 k1)) (ZaJ (fun _=>(@ev98 f1 f2 f3 f4 f9 f10 f11 f12 x1 y1 x3 y3 k2)) ZaW)) ?_)
 obtain ⟨k3,k4,H⟩:=H
 refine Zad (G:=Zae kp80 [(2,2,.call (ratF ((x2-x1)*(x2-x1)+(y2-y1)*(y2-y1))) none),(2,5,.call (ratF ((x2-x1)*(x3-x1)+(y2-y1)*(y3-y1))) none)] []) 1 [] ⟨(atC (cd Tryz.f80) [1,1,0]),[(4,AV.ptr 1 0 0 0),(5,AV.ptr 2 0 0 0),(6,AV.ptr 3 0 0 0),(7,AV.ptr 4 0 0 0),(8,AV.ptr 5 0 0 0)],[⟨[(zNqM3 x1 f1 f2 y1 f3 f4)],8,0,false,false⟩,⟨[(zNqM4 x2 f5 f6 y2 f7 f8)],8,0,false,false⟩,⟨[(zNqM5 x3 f9 f10 y3 f11 f12)],8,0,false,false⟩,⟨[zNqM6],4,0,false,false⟩,⟨[(ZfE x2 x1 y2 y1)],8,0,false,false⟩,⟨[(zNqM2 x3 x1 y3 y1)],8,0,false,false⟩],_,[],_⟩ (by kernel_rfl) b0 q0 c0 (ZcN (G:=Zae kp80 [(2,2,.call (ratF ((x2-x1)*(x2-x1)+(y2-y1)*(y2-y1))) none),(2,5,.call (ratF ((x2-x1)*(x3-x1)+(y2-y1)*(y3-y1))) none)] []) [0,1,2,3,4,5,7,6] 6 (e1:=[(4,AV.ptr 1 0 0 0),(5,AV.ptr 2 0 0 0),(6,AV.ptr 3 0 0 0),(7,AV.ptr 4 0 0 0),(8,AV.ptr 5 0 0 0),(9,AV.ptr 6 0 0 0),(10,AV.ptr 7 0 0 0)]) (L1:=[⟨[(zNqM3 x1 f1 f2 y1 f3 f4)],8,0,false,false⟩,⟨[(zNqM4 x2 f5 f6 y2 f7 f8)],8,0,false,false⟩,⟨[(zNqM5 x3 f9 f10 y3 f11 f12)],8,0,false,false⟩,⟨[zNqM6],4,0,false,false⟩,⟨[(ZfE x2 x1 y2 y1)],8,0,false,false⟩,⟨[(zNqM2 x3 x1 y3 y1)],8,0,false,false⟩,⟨[ratF ((x2-x1)*(x2-x1)+(y2-y1)*(y2-y1))],4,0,false,false⟩,⟨[ratF ((x2-x1)*(x3-x1)+(y2-y1)*(y3-y1))],4,0,false,false⟩]) (a:=[true,true,true,true,true,true]) (q:=[]) (cs:=[⟨true,false,100,[(ZfE x2 x1 y2 y1),(ZfE x2 x1 y2 y1)],[],ratF ((x2-x1)*(x2-x1)+(y2-y1)*(y2-y1)),[]⟩,⟨true,false,100,[(ZfE x2 x1 y2 y1),(zNqM2 x3 x1 y3 y1)],[],ratF ((x2-x1)*(x3-x1)+(y2-y1)*(y3-y1)),[]⟩]) (by kernel_rfl) (by kernel_rfl) (Zag rfl (Zag rfl (Zag rfl (Zag rfl (Zag rfl (Zag rfl ZaB)))))) ZaV (ZaJ (fun _=>(@ev100 false false false false false false false false (x2-x1) (y2-y1) (x2-x1) (y2-y1) k3)) (ZaJ (fun _=>(@ev100 false false false false false false false false (x2-x1) (y2-y1) (x3-x1) (y3-y1) k4)) ZaW)) ?_)
 refine Zad (G:=Zae kp80 [(3,1,.call (vi (N.sgnI ((x2-x1)*(x3-x1)+(y2-y1)*(y3-y1)).num)) none)] []) 4 [] ⟨(atC (cd Tryz.f80) [1,1,1,0,0,1]),[(4,AV.ptr 1 0 0 0),(5,AV.ptr 2 0 0 0),(6,AV.ptr 3 0 0 0),(7,AV.ptr 4 0 0 0),(8,AV.ptr 5 0 0 0),(9,AV.ptr 6 0 0 0),(10,AV.ptr 7 0 0 0),(25,vb (decide (N.sgnI ((x2-x1)*(x3-x1)+(y2-y1)*(y3-y1)).num<=0)))],[⟨[(zNqM3 x1 f1 f2 y1 f3 f4)],8,0,false,false⟩,⟨[(zNqM4 x2 f5 f6 y2 f7 f8)],8,0,false,false⟩,⟨[(zNqM5 x3 f9 f10 y3 f11 f12)],8,0,false,false⟩,⟨[zNqM6],4,0,false,false⟩,⟨[(ZfE x2 x1 y2 y1)],8,0,false,false⟩,⟨[(zNqM2 x3 x1 y3 y1)],8,0,false,false⟩,⟨[ratF ((x2-x1)*(x2-x1)+(y2-y1)*(y2-y1))],4,0,false,false⟩,⟨[ratF ((x2-x1)*(x3-x1)+(y2-y1)*(y3-y1))],4,0,false,false⟩],_,[],_⟩ (by kernel_rfl) (bc rfl b0) q0 (ce (@ev77 false false (((x2-x1)*(x3-x1)+(y2-y1)*(y3-y1)).num) ((↑((x2-x1)*(x3-x1)+(y2-y1)*(y3-y1)).den:Int))) c0) ?_
 rcases xq H with ⟨d6,H⟩|⟨d6,H⟩
 ·obtain ⟨k7,H⟩:=H
  exact Zai (G:=Zae kp80 [(4,2,.call (ratF ((x3-x1)*(x3-x1)+(y3-y1)*(y3-y1))) none)] []) 1000 [true] (ratF ((x3-x1)*(x3-x1)+(y3-y1)*(y3-y1))) (by kernel_rfl) (bc (Zan (Zab.2 d6)) (bc rfl (bc rfl (bc rfl b0)))) q0 (ce (@ev100 false false false false false false false false (x3-x1) (y3-y1) (x3-x1) (y3-y1) k7) c0) H
 ·obtain ⟨k8,H⟩:=H
  refine Zad (G:=Zae kp80 [(5,2,.call (vi (N.sgnI (((x2-x1)*(x3-x1)+(y2-y1)*(y3-y1)).num*(↑((x2-x1)*(x2-x1)+(y2-y1)*(y2-y1)).den:Int)-((x2-x1)*(x2-x1)+(y2-y1)*(y2-y1)).num*(↑((x2-x1)*(x3-x1)+(y2-y1)*(y3-y1)).den:Int)))) none)] []) 3 [false] ⟨(atC (cd Tryz.f80) [1,1,1,0,0,1,1,1]),[(4,AV.ptr 1 0 0 0),(5,AV.ptr 2 0 0 0),(6,AV.ptr 3 0 0 0),(7,AV.ptr 4 0 0 0),(8,AV.ptr 5 0 0 0),(9,AV.ptr 6 0 0 0),(32,vb (decide (zNqM7 x2 x1 x3 y2 y1 y3)))],[⟨[(zNqM3 x1 f1 f2 y1 f3 f4)],8,0,false,false⟩,⟨[(zNqM4 x2 f5 f6 y2 f7 f8)],8,0,false,false⟩,⟨[(zNqM5 x3 f9 f10 y3 f11 f12)],8,0,false,false⟩,⟨[zNqM6],4,0,false,false⟩,⟨[(ZfE x2 x1 y2 y1)],8,0,false,false⟩,⟨[(zNqM2 x3 x1 y3 y1)],8,0,false,false⟩,⟨[ratF ((x2-x1)*(x2-x1)+(y2-y1)*(y2-y1))],4,0,false,false⟩,⟨[ratF ((x2-x1)*(x3-x1)+(y2-y1)*(y3-y1))],4,0,false,false⟩],_,[],_⟩ (by kernel_rfl) (bc (Zam (fun h=>d6 (Zab.1 h))) (bc rfl (bc rfl b0))) q0 (ce (@ev62 false false false false ((x2-x1)*(x3-x1)+(y2-y1)*(y3-y1)) ((x2-x1)*(x2-x1)+(y2-y1)*(y2-y1)) k8) c0) ?_
  rcases xq H with ⟨d10,H⟩|⟨d10,H⟩
  ·obtain ⟨k11,k12,H⟩:=H
   exact Zai (G:=Zae kp80 [(6,2,.call (ag [vb (N.Zaa (x3-x2).num),vf (us (N.Zac (x3-x2).num)),vb (N.Zaa (↑(x3-x2).den:Int)),vf (us (N.Zac (↑(x3-x2).den:Int))),vb (N.Zaa (y3-y2).num),vf (us (N.Zac (y3-y2).num)),vb (N.Zaa (↑(y3-y2).den:Int)),vf (us (N.Zac (↑(y3-y2).den:Int)))]) none),(7,2,.call (ratF ((x3-x2)*(x3-x2)+(y3-y2)*(y3-y2))) none)] []) 1000 [true] (ratF ((x3-x2)*(x3-x2)+(y3-y2)*(y3-y2))) (by kernel_rfl) (bc (Zan (Zab.2 d10)) (bc rfl (bc rfl (bc rfl (bc rfl (bc rfl (bc rfl b0))))))) q0 (ce (@ev98 f5 f6 f7 f8 f9 f10 f11 f12 x2 y2 x3 y3 k11) (ce (@ev100 false false false false false false false false (x3-x2) (y3-y2) (x3-x2) (y3-y2) k12) c0)) H
  ·obtain ⟨k13,k14,H⟩:=H
   exact Zai (G:=Zae kp80 [(8,2,.call (ratF ((x2-x1)*(y3-y1)-(y2-y1)*(x3-x1))) none),(9,2,.call (ratF (((x2-x1)*(y3-y1)-(y2-y1)*(x3-x1))*((x2-x1)*(y3-y1)-(y2-y1)*(x3-x1)))) none),(9,4,.call (ratF (((x2-x1)*(y3-y1)-(y2-y1)*(x3-x1))*((x2-x1)*(y3-y1)-(y2-y1)*(x3-x1)) / ((x2-x1)*(x2-x1)+(y2-y1)*(y2-y1)))) none)] []) 1000 [false] (ratF (((x2-x1)*(y3-y1)-(y2-y1)*(x3-x1))*((x2-x1)*(y3-y1)-(y2-y1)*(x3-x1)) / ((x2-x1)*(x2-x1)+(y2-y1)*(y2-y1)))) (by kernel_rfl) (bc (Zam (fun h=>d10 (Zab.1 h))) (bc rfl (bc rfl (bc rfl (bc rfl (bc rfl (bc rfl (bc rfl b0)))))))) q0 (ce (@ev99 false false false false false false false false (x2-x1) (y2-y1) (x3-x1) (y3-y1) k4) (ce (@ev102 false false false false ((x2-x1)*(y3-y1)-(y2-y1)*(x3-x1)) ((x2-x1)*(y3-y1)-(y2-y1)*(x3-x1)) k13) (ce (@ev101 false false false false (((x2-x1)*(y3-y1)-(y2-y1)*(x3-x1))*((x2-x1)*(y3-y1)-(y2-y1)*(x3-x1))) ((x2-x1)*(x2-x1)+(y2-y1)*(y2-y1)) k14) c0))) H
noncomputable abbrev zNqM8 (x4:Rat) (x3:Rat) (y4:Rat) (y3:Rat):=ag [vb (N.Zaa (x4-x3).num),vf (us (N.Zac (x4-x3).num)),vb (N.Zaa (↑(x4-x3).den:Int)),vf (us (N.Zac (↑(x4-x3).den:Int))),vb (N.Zaa (y4-y3).num),vf (us (N.Zac (y4-y3).num)),vb (N.Zaa (↑(y4-y3).den:Int)),vf (us (N.Zac (↑(y4-y3).den:Int)))]
noncomputable abbrev zNqM9 (x3:Rat) (f9:Bool) (f10:Bool) (y3:Rat) (f11:Bool) (f12:Bool):=ag [vb (N.Zaa x3.num),AV.vec f9 1 (us (N.Zac x3.num)),vb (N.Zaa (↑x3.den:Int)),AV.vec f10 1 (us (N.Zac (↑x3.den:Int))),vb (N.Zaa y3.num),AV.vec f11 1 (us (N.Zac y3.num)),vb (N.Zaa (↑y3.den:Int)),AV.vec f12 1 (us (N.Zac (↑y3.den:Int)))]
noncomputable abbrev ZgO (x2:Rat) (x1:Rat) (y2:Rat) (y1:Rat):=ag [vb (N.Zaa (x2-x1).num),vf (us (N.Zac (x2-x1).num)),vb (N.Zaa (↑(x2-x1).den:Int)),vf (us (N.Zac (↑(x2-x1).den:Int))),vb (N.Zaa (y2-y1).num),vf (us (N.Zac (y2-y1).num)),vb (N.Zaa (↑(y2-y1).den:Int)),vf (us (N.Zac (↑(y2-y1).den:Int)))]
noncomputable abbrev ZfD (x1:Rat) (f1:Bool) (f2:Bool) (y1:Rat) (f3:Bool) (f4:Bool):=ag [vb (N.Zaa x1.num),AV.vec f1 1 (us (N.Zac x1.num)),vb (N.Zaa (↑x1.den:Int)),AV.vec f2 1 (us (N.Zac (↑x1.den:Int))),vb (N.Zaa y1.num),AV.vec f3 1 (us (N.Zac y1.num)),vb (N.Zaa (↑y1.den:Int)),AV.vec f4 1 (us (N.Zac (↑y1.den:Int)))]
noncomputable abbrev zNqM12 (x1:Rat) (x3:Rat) (y1:Rat) (y3:Rat):=ag [vb (N.Zaa (x1-x3).num),vf (us (N.Zac (x1-x3).num)),vb (N.Zaa (↑(x1-x3).den:Int)),vf (us (N.Zac (↑(x1-x3).den:Int))),vb (N.Zaa (y1-y3).num),vf (us (N.Zac (y1-y3).num)),vb (N.Zaa (↑(y1-y3).den:Int)),vf (us (N.Zac (↑(y1-y3).den:Int)))]
noncomputable abbrev zNqM13 (x2:Rat) (x3:Rat) (y2:Rat) (y3:Rat):=ag [vb (N.Zaa (x2-x3).num),vf (us (N.Zac (x2-x3).num)),vb (N.Zaa (↑(x2-x3).den:Int)),vf (us (N.Zac (↑(x2-x3).den:Int))),vb (N.Zaa (y2-y3).num),vf (us (N.Zac (y2-y3).num)),vb (N.Zaa (↑(y2-y3).den:Int)),vf (us (N.Zac (↑(y2-y3).den:Int)))]
noncomputable abbrev zNqM14 (x2:Rat) (f5:Bool) (f6:Bool) (y2:Rat) (f7:Bool) (f8:Bool):=ag [vb (N.Zaa x2.num),AV.vec f5 1 (us (N.Zac x2.num)),vb (N.Zaa (↑x2.den:Int)),AV.vec f6 1 (us (N.Zac (↑x2.den:Int))),vb (N.Zaa y2.num),AV.vec f7 1 (us (N.Zac y2.num)),vb (N.Zaa (↑y2.den:Int)),AV.vec f8 1 (us (N.Zac (↑y2.den:Int)))]
noncomputable abbrev zNqM15 (x4:Rat) (f13:Bool) (f14:Bool) (y4:Rat) (f15:Bool) (f16:Bool):=ag [vb (N.Zaa x4.num),AV.vec f13 1 (us (N.Zac x4.num)),vb (N.Zaa (↑x4.den:Int)),AV.vec f14 1 (us (N.Zac (↑x4.den:Int))),vb (N.Zaa y4.num),AV.vec f15 1 (us (N.Zac y4.num)),vb (N.Zaa (↑y4.den:Int)),AV.vec f16 1 (us (N.Zac (↑y4.den:Int)))]
noncomputable abbrev zNqM16 (x3:Rat) (x1:Rat) (y3:Rat) (y1:Rat):=ag [vb (N.Zaa (x3-x1).num),vf (us (N.Zac (x3-x1).num)),vb (N.Zaa (↑(x3-x1).den:Int)),vf (us (N.Zac (↑(x3-x1).den:Int))),vb (N.Zaa (y3-y1).num),vf (us (N.Zac (y3-y1).num)),vb (N.Zaa (↑(y3-y1).den:Int)),vf (us (N.Zac (↑(y3-y1).den:Int)))]
noncomputable abbrev zNqM17 (x4:Rat) (x1:Rat) (y4:Rat) (y1:Rat):=ag [vb (N.Zaa (x4-x1).num),vf (us (N.Zac (x4-x1).num)),vb (N.Zaa (↑(x4-x1).den:Int)),vf (us (N.Zac (↑(x4-x1).den:Int))),vb (N.Zaa (y4-y1).num),vf (us (N.Zac (y4-y1).num)),vb (N.Zaa (↑(y4-y1).den:Int)),vf (us (N.Zac (↑(y4-y1).den:Int)))]
noncomputable abbrev ZgN (x2:Rat) (x1:Rat) (y3:Rat) (y1:Rat) (y2:Rat) (x3:Rat) (y4:Rat) (x4:Rat):=N.sgnI ((x2-x1)*(y3-y1)-(y2-y1)*(x3-x1)).num*N.sgnI ((x2-x1)*(y4-y1)-(y2-y1)*(x4-x1)).num<0
theorem qCrs (f1 f2 f3 f4 f5 f6 f7 f8 f9 f10 f11 f12 f13 f14 f15 f16:Bool) (x1 y1 x2 y2 x3 y3 x4 y4:Rat)  (dq:AV) (H :
  (N.okW x1 y1 x2 y2) /\
  (N.okW x3 y3 x4 y4) /\
  (N.okW x1 y1 x3 y3) /\
  (N.okD (x2-x1) (y2-y1) (x3-x1) (y3-y1)) /\
  (N.okW x1 y1 x4 y4) /\
  (N.okD (x2-x1) (y2-y1) (x4-x1) (y4-y1)) /\
  (-9223372036854775808<=N.sgnI ((x2-x1)*(y3-y1)-(y2-y1)*(x3-x1)).num*N.sgnI ((x2-x1)*(y4-y1)-(y2-y1)*(x4-x1)).num/\N.sgnI ((x2-x1)*(y3-y1)-(y2-y1)*(x3-x1)).num*N.sgnI ((x2-x1)*(y4-y1)-(y2-y1)*(x4-x1)).num<=9223372036854775807) /\
  ((N.sgnI ((x2-x1)*(y3-y1)-(y2-y1)*(x3-x1)).num*N.sgnI ((x2-x1)*(y4-y1)-(y2-y1)*(x4-x1)).num<0)->(N.okW x3 y3 x1 y1)) /\
  ((N.sgnI ((x2-x1)*(y3-y1)-(y2-y1)*(x3-x1)).num*N.sgnI ((x2-x1)*(y4-y1)-(y2-y1)*(x4-x1)).num<0)->(N.okD (x4-x3) (y4-y3) (x1-x3) (y1-y3))) /\
  ((N.sgnI ((x2-x1)*(y3-y1)-(y2-y1)*(x3-x1)).num*N.sgnI ((x2-x1)*(y4-y1)-(y2-y1)*(x4-x1)).num<0)->(N.okW x3 y3 x2 y2)) /\
  ((N.sgnI ((x2-x1)*(y3-y1)-(y2-y1)*(x3-x1)).num*N.sgnI ((x2-x1)*(y4-y1)-(y2-y1)*(x4-x1)).num<0)->(N.okD (x4-x3) (y4-y3) (x2-x3) (y2-y3))) /\
  vb (bif decide (N.sgnI ((x2-x1)*(y3-y1)-(y2-y1)*(x3-x1)).num*N.sgnI ((x2-x1)*(y4-y1)-(y2-y1)*(x4-x1)).num<0) then decide (IntKind.i64.wrap (N.sgnI ((x4-x3)*(y1-y3)-(y4-y3)*(x1-x3)).num*N.sgnI ((x4-x3)*(y2-y3)-(y4-y3)*(x2-x3)).num)<0) else false)=dq) :
 qCrs_at f1 f2 f3 f4 f5 f6 f7 f8 f9 f10 f11 f12 f13 f14 f15 f16 x1 y1 x2 y2 x3 y3 x4 y4 (Zaf dq):=by
 unfold qCrs_at
 obtain ⟨k1,k2,H⟩:=H
 refine Zad (G:=Zae kp79 [(1,2,.call ((ZgO x2 x1 y2 y1)) none),(1,5,.call ((zNqM8 x4 x3 y4 y3)) none)] []) 3 [] ⟨(atC (cd Tryz.f79) [1,0]),[(4,AV.ptr 0 0 0 0),(5,AV.ptr 1 0 0 0),(6,AV.ptr 2 0 0 0),(7,AV.ptr 3 0 0 0)],[⟨[(ZfD x1 f1 f2 y1 f3 f4)],8,0,false,false⟩,⟨[(zNqM14 x2 f5 f6 y2 f7 f8)],8,0,false,false⟩,⟨[(zNqM9 x3 f9 f10 y3 f11 f12)],8,0,false,false⟩,⟨[(zNqM15 x4 f13 f14 y4 f15 f16)],8,0,false,false⟩],_,[],_⟩ (by kernel_rfl) b0 q0 c0 (ZcN (G:=Zae kp79 [(1,2,.call ((ZgO x2 x1 y2 y1)) none),(1,5,.call ((zNqM8 x4 x3 y4 y3)) none)] []) [0,1,2,3,5,4] 6 (e1:=[(4,AV.ptr 0 0 0 0),(5,AV.ptr 1 0 0 0),(6,AV.ptr 2 0 0 0),(7,AV.ptr 3 0 0 0),(9,AV.ptr 4 0 0 0),(10,AV.ptr 5 0 0 0)]) (L1:=[⟨[(ZfD x1 f1 f2 y1 f3 f4)],8,0,false,false⟩,⟨[(zNqM14 x2 f5 f6 y2 f7 f8)],8,0,false,false⟩,⟨[(zNqM9 x3 f9 f10 y3 f11 f12)],8,0,false,false⟩,⟨[(zNqM15 x4 f13 f14 y4 f15 f16)],8,0,false,false⟩,⟨[(ZgO x2 x1 y2 y1)],8,0,false,false⟩,⟨[(zNqM8 x4 x3 y4 y3)],8,0,false,false⟩]) (a:=[true,true,true,true,true,true]) (q:=[]) (cs:=[⟨true,false,98,[(ZfD x1 f1 f2 y1 f3 f4),(zNqM14 x2 f5 f6 y2 f7 f8)],[],(ZgO x2 x1 y2 y1),[]⟩,⟨true,false,98,[(zNqM9 x3 f9 f10 y3 f11 f12),(zNqM15 x4 f13 f14 y4 f15 f16)],[],(zNqM8 x4 x3 y4 y3),[]⟩]) (by kernel_rfl) (by kernel_rfl) (Zag rfl (Zag rfl (Zag rfl (Zag rfl (Zag rfl (Zag rfl ZaB)))))) ZaV (ZaJ (fun _=>(@ev98 f1 f2 f3 f4 f5 f6 f7 f8 x1 y1 x2 y2 k1)) (ZaJ (fun _=>(@ev98 f9 f10 f11 f12 f13 f14 f15 f16 x3 y3 x4 y4 k2)) ZaW)) ?_)
 obtain ⟨k3,k4,k5,k6,k7,H⟩:=H
 have w8:wi (N.sgnI ((x2-x1)*(y3-y1)-(y2-y1)*(x3-x1)).num*N.sgnI ((x2-x1)*(y4-y1)-(y2-y1)*(x4-x1)).num)=N.sgnI ((x2-x1)*(y3-y1)-(y2-y1)*(x3-x1)).num*N.sgnI ((x2-x1)*(y4-y1)-(y2-y1)*(x4-x1)).num:=wI64 k7
 have i9:(decide (wi (N.sgnI ((x2-x1)*(y3-y1)-(y2-y1)*(x3-x1)).num*N.sgnI ((x2-x1)*(y4-y1)-(y2-y1)*(x4-x1)).num)<0)==true&&true&&true)=true ↔ (ZgN x2 x1 y3 y1 y2 x3 y4 x4):=(by (try rw [w8]);all_goals exact (i_at (i_at (i_bt Zab))))
 obtain ⟨k10,H⟩:=H
 have i11:(decide (wi (N.sgnI ((x2-x1)*(y3-y1)-(y2-y1)*(x3-x1)).num*N.sgnI ((x2-x1)*(y4-y1)-(y2-y1)*(x4-x1)).num)<0)==true&&true&&true)=true ↔ (ZgN x2 x1 y3 y1 y2 x3 y4 x4):=(by (try rw [w8]);all_goals exact (i_at (i_at (i_bt Zab))))
 obtain ⟨k12,H⟩:=H
 have i13:(decide (wi (N.sgnI ((x2-x1)*(y3-y1)-(y2-y1)*(x3-x1)).num*N.sgnI ((x2-x1)*(y4-y1)-(y2-y1)*(x4-x1)).num)<0)==true&&true&&true)=true ↔ (ZgN x2 x1 y3 y1 y2 x3 y4 x4):=(by (try rw [w8]);all_goals exact (i_at (i_at (i_bt Zab))))
 have i14:(decide (wi (N.sgnI ((x2-x1)*(y3-y1)-(y2-y1)*(x3-x1)).num*N.sgnI ((x2-x1)*(y4-y1)-(y2-y1)*(x4-x1)).num)<0)==true&&true&&true)=true ↔ (ZgN x2 x1 y3 y1 y2 x3 y4 x4):=(by (try rw [w8]);all_goals exact (i_at (i_at (i_bt Zab))))
 obtain ⟨k15,H⟩:=H
 have i16:(decide (wi (N.sgnI ((x2-x1)*(y3-y1)-(y2-y1)*(x3-x1)).num*N.sgnI ((x2-x1)*(y4-y1)-(y2-y1)*(x4-x1)).num)<0)==true&&true&&true)=true ↔ (ZgN x2 x1 y3 y1 y2 x3 y4 x4):=(by (try rw [w8]);all_goals exact (i_at (i_at (i_bt Zab))))
 obtain ⟨k17,H⟩:=H
 have i18:(decide (wi (N.sgnI ((x2-x1)*(y3-y1)-(y2-y1)*(x3-x1)).num*N.sgnI ((x2-x1)*(y4-y1)-(y2-y1)*(x4-x1)).num)<0)==true&&true&&true)=true ↔ (ZgN x2 x1 y3 y1 y2 x3 y4 x4):=(by (try rw [w8]);all_goals exact (i_at (i_at (i_bt Zab))))
 exact Zaq (G:=Zae kp79 [(2,3,.call ((zNqM16 x3 x1 y3 y1)) none),(2,4,.call (ratF ((x2-x1)*(y3-y1)-(y2-y1)*(x3-x1))) none),(2,5,.call (vi (N.sgnI ((x2-x1)*(y3-y1)-(y2-y1)*(x3-x1)).num)) none),(2,9,.call ((zNqM17 x4 x1 y4 y1)) none),(2,10,.call (ratF ((x2-x1)*(y4-y1)-(y2-y1)*(x4-x1))) none),(2,11,.call (vi (N.sgnI ((x2-x1)*(y4-y1)-(y2-y1)*(x4-x1)).num)) none),(2,18,.call ((zNqM12 x1 x3 y1 y3)) none),(2,19,.call (ratF ((x4-x3)*(y1-y3)-(y4-y3)*(x1-x3))) none),(2,20,.call (vi (N.sgnI ((x4-x3)*(y1-y3)-(y4-y3)*(x1-x3)).num)) none),(2,24,.call ((zNqM13 x2 x3 y2 y3)) none),(2,25,.call (ratF ((x4-x3)*(y2-y3)-(y4-y3)*(x2-x3))) none),(2,26,.call (vi (N.sgnI ((x4-x3)*(y2-y3)-(y4-y3)*(x2-x3)).num)) none)] []) 1000 [] (asm:=[true,true,true,true,true,true,!(decide (wi (N.sgnI ((x2-x1)*(y3-y1)-(y2-y1)*(x3-x1)).num*N.sgnI ((x2-x1)*(y4-y1)-(y2-y1)*(x4-x1)).num)<0)==true&&true)||true,!(decide (wi (N.sgnI ((x2-x1)*(y3-y1)-(y2-y1)*(x3-x1)).num*N.sgnI ((x2-x1)*(y4-y1)-(y2-y1)*(x4-x1)).num)<0)==true&&true)||true,!(decide (wi (N.sgnI ((x2-x1)*(y3-y1)-(y2-y1)*(x3-x1)).num*N.sgnI ((x2-x1)*(y4-y1)-(y2-y1)*(x4-x1)).num)<0)==true&&true)||true,!(decide (wi (N.sgnI ((x2-x1)*(y3-y1)-(y2-y1)*(x3-x1)).num*N.sgnI ((x2-x1)*(y4-y1)-(y2-y1)*(x4-x1)).num)<0)==true&&true)||true,!(decide (wi (N.sgnI ((x2-x1)*(y3-y1)-(y2-y1)*(x3-x1)).num*N.sgnI ((x2-x1)*(y4-y1)-(y2-y1)*(x4-x1)).num)<0)==true&&true)||true,!(decide (wi (N.sgnI ((x2-x1)*(y3-y1)-(y2-y1)*(x3-x1)).num*N.sgnI ((x2-x1)*(y4-y1)-(y2-y1)*(x4-x1)).num)<0)==true&&true)||true]) (calls:=[⟨true,false,98,[(ZfD x1 f1 f2 y1 f3 f4),(zNqM9 x3 f9 f10 y3 f11 f12)],[],(zNqM16 x3 x1 y3 y1),[]⟩,⟨true,false,99,[(ZgO x2 x1 y2 y1),(zNqM16 x3 x1 y3 y1)],[],ratF ((x2-x1)*(y3-y1)-(y2-y1)*(x3-x1)),[]⟩,⟨true,false,77,[ratF ((x2-x1)*(y3-y1)-(y2-y1)*(x3-x1))],[],vi (N.sgnI ((x2-x1)*(y3-y1)-(y2-y1)*(x3-x1)).num),[]⟩,⟨true,false,98,[(ZfD x1 f1 f2 y1 f3 f4),(zNqM15 x4 f13 f14 y4 f15 f16)],[],(zNqM17 x4 x1 y4 y1),[]⟩,⟨true,false,99,[(ZgO x2 x1 y2 y1),(zNqM17 x4 x1 y4 y1)],[],ratF ((x2-x1)*(y4-y1)-(y2-y1)*(x4-x1)),[]⟩,⟨true,false,77,[ratF ((x2-x1)*(y4-y1)-(y2-y1)*(x4-x1))],[],vi (N.sgnI ((x2-x1)*(y4-y1)-(y2-y1)*(x4-x1)).num),[]⟩,⟨decide (wi (N.sgnI ((x2-x1)*(y3-y1)-(y2-y1)*(x3-x1)).num*N.sgnI ((x2-x1)*(y4-y1)-(y2-y1)*(x4-x1)).num)<0)==true&&true&&true,false,98,[(zNqM9 x3 f9 f10 y3 f11 f12),(ZfD x1 f1 f2 y1 f3 f4)],[],(zNqM12 x1 x3 y1 y3),[]⟩,⟨decide (wi (N.sgnI ((x2-x1)*(y3-y1)-(y2-y1)*(x3-x1)).num*N.sgnI ((x2-x1)*(y4-y1)-(y2-y1)*(x4-x1)).num)<0)==true&&true&&true,false,99,[(zNqM8 x4 x3 y4 y3),(zNqM12 x1 x3 y1 y3)],[],ratF ((x4-x3)*(y1-y3)-(y4-y3)*(x1-x3)),[]⟩,⟨decide (wi (N.sgnI ((x2-x1)*(y3-y1)-(y2-y1)*(x3-x1)).num*N.sgnI ((x2-x1)*(y4-y1)-(y2-y1)*(x4-x1)).num)<0)==true&&true&&true,false,77,[ratF ((x4-x3)*(y1-y3)-(y4-y3)*(x1-x3))],[],vi (N.sgnI ((x4-x3)*(y1-y3)-(y4-y3)*(x1-x3)).num),[]⟩,⟨decide (wi (N.sgnI ((x2-x1)*(y3-y1)-(y2-y1)*(x3-x1)).num*N.sgnI ((x2-x1)*(y4-y1)-(y2-y1)*(x4-x1)).num)<0)==true&&true&&true,false,98,[(zNqM9 x3 f9 f10 y3 f11 f12),(zNqM14 x2 f5 f6 y2 f7 f8)],[],(zNqM13 x2 x3 y2 y3),[]⟩,⟨decide (wi (N.sgnI ((x2-x1)*(y3-y1)-(y2-y1)*(x3-x1)).num*N.sgnI ((x2-x1)*(y4-y1)-(y2-y1)*(x4-x1)).num)<0)==true&&true&&true,false,99,[(zNqM8 x4 x3 y4 y3),(zNqM13 x2 x3 y2 y3)],[],ratF ((x4-x3)*(y2-y3)-(y4-y3)*(x2-x3)),[]⟩,⟨decide (wi (N.sgnI ((x2-x1)*(y3-y1)-(y2-y1)*(x3-x1)).num*N.sgnI ((x2-x1)*(y4-y1)-(y2-y1)*(x4-x1)).num)<0)==true&&true&&true,false,77,[ratF ((x4-x3)*(y2-y3)-(y4-y3)*(x2-x3))],[],vi (N.sgnI ((x4-x3)*(y2-y3)-(y4-y3)*(x2-x3)).num),[]⟩]) (vb (bif decide (wi (N.sgnI ((x2-x1)*(y3-y1)-(y2-y1)*(x3-x1)).num*N.sgnI ((x2-x1)*(y4-y1)-(y2-y1)*(x4-x1)).num)<0) then decide (wi (N.sgnI ((x4-x3)*(y1-y3)-(y4-y3)*(x1-x3)).num*N.sgnI ((x4-x3)*(y2-y3)-(y4-y3)*(x2-x3)).num)<0) else false)) (by kernel_rfl) (bc rfl (bc rfl (bc rfl (bc rfl (bc rfl (bc rfl (bc (Bool.or_true _) (bc (Bool.or_true _) (bc (Bool.or_true _) (bc (Bool.or_true _) (bc (Bool.or_true _) (bc (Bool.or_true _) b0)))))))))))) q0 (cc (fun _=>(@ev98 f1 f2 f3 f4 f9 f10 f11 f12 x1 y1 x3 y3 k3)) (cc (fun _=>(@ev99 false false false false false false false false (x2-x1) (y2-y1) (x3-x1) (y3-y1) k4)) (cc (fun _=>(@ev77 false false (((x2-x1)*(y3-y1)-(y2-y1)*(x3-x1)).num) ((↑((x2-x1)*(y3-y1)-(y2-y1)*(x3-x1)).den:Int)))) (cc (fun _=>(@ev98 f1 f2 f3 f4 f13 f14 f15 f16 x1 y1 x4 y4 k5)) (cc (fun _=>(@ev99 false false false false false false false false (x2-x1) (y2-y1) (x4-x1) (y4-y1) k6)) (cc (fun _=>(@ev77 false false (((x2-x1)*(y4-y1)-(y2-y1)*(x4-x1)).num) ((↑((x2-x1)*(y4-y1)-(y2-y1)*(x4-x1)).den:Int)))) (cc (fun hc=>((@ev98 f9 f10 f11 f12 f1 f2 f3 f4 x3 y3 x1 y1 (k10 (i9.1 hc))):Ev M1 (Conf.pure 98 [(zNqM9 x3 f9 f10 y3 f11 f12),(ZfD x1 f1 f2 y1 f3 f4)]) ((zNqM12 x1 x3 y1 y3)) [])) (cc (fun hc=>((@ev99 false false false false false false false false (x4-x3) (y4-y3) (x1-x3) (y1-y3) (k12 (i11.1 hc))):Ev M1 (Conf.pure 99 [(zNqM8 x4 x3 y4 y3),(zNqM12 x1 x3 y1 y3)]) (ratF ((x4-x3)*(y1-y3)-(y4-y3)*(x1-x3))) [])) (cc (fun hc=>((@ev77 false false (((x4-x3)*(y1-y3)-(y4-y3)*(x1-x3)).num) ((↑((x4-x3)*(y1-y3)-(y4-y3)*(x1-x3)).den:Int))):Ev M1 (Conf.pure 77 [ratF ((x4-x3)*(y1-y3)-(y4-y3)*(x1-x3))]) (vi (N.sgnI ((x4-x3)*(y1-y3)-(y4-y3)*(x1-x3)).num)) [])) (cc (fun hc=>((@ev98 f9 f10 f11 f12 f5 f6 f7 f8 x3 y3 x2 y2 (k15 (i14.1 hc))):Ev M1 (Conf.pure 98 [(zNqM9 x3 f9 f10 y3 f11 f12),(zNqM14 x2 f5 f6 y2 f7 f8)]) ((zNqM13 x2 x3 y2 y3)) [])) (cc (fun hc=>((@ev99 false false false false false false false false (x4-x3) (y4-y3) (x2-x3) (y2-y3) (k17 (i16.1 hc))):Ev M1 (Conf.pure 99 [(zNqM8 x4 x3 y4 y3),(zNqM13 x2 x3 y2 y3)]) (ratF ((x4-x3)*(y2-y3)-(y4-y3)*(x2-x3))) [])) (cc (fun hc=>((@ev77 false false (((x4-x3)*(y2-y3)-(y4-y3)*(x2-x3)).num) ((↑((x4-x3)*(y2-y3)-(y4-y3)*(x2-x3)).den:Int))):Ev M1 (Conf.pure 77 [ratF ((x4-x3)*(y2-y3)-(y4-y3)*(x2-x3))]) (vi (N.sgnI ((x4-x3)*(y2-y3)-(y4-y3)*(x2-x3)).num)) [])) c0)))))))))))) (by (try rw [w8]);all_goals exact H)
end Go.Av

namespace Go.Av
open Go.Proofs
namespace N
noncomputable def tsg (x1 y1 x2 y2 x3 y3:Rat):Rat:=
 if (x2-x1)*(x3-x1)+(y2-y1)*(y3-y1)<=0 then (x3-x1)*(x3-x1)+(y3-y1)*(y3-y1)
 else if (x2-x1)*(x2-x1)+(y2-y1)*(y2-y1)<=(x2-x1)*(x3-x1)+(y2-y1)*(y3-y1) then (x3-x2)*(x3-x2)+(y3-y2)*(y3-y2)
 else ((x2-x1)*(y3-y1)-(y2-y1)*(x3-x1))*((x2-x1)*(y3-y1)-(y2-y1)*(x3-x1)) / ((x2-x1)*(x2-x1)+(y2-y1)*(y2-y1))
def crs (x1 y1 x2 y2 x3 y3 x4 y4:Rat):Prop:=
 sgnI ((x2-x1)*(y3-y1)-(y2-y1)*(x3-x1)).num*sgnI ((x2-x1)*(y4-y1)-(y2-y1)*(x4-x1)).num<0/\sgnI ((x4-x3)*(y1-y3)-(y4-y3)*(x1-x3)).num*sgnI ((x4-x3)*(y2-y3)-(y4-y3)*(x2-x3)).num<0
def okV (x y:Rat):Prop:=okT 10 x/\okT 10 y
def okV3 (x1 y1 x2 y2 x3 y3:Rat):Prop:=okV x1 y1/\okV x2 y2/\okV x3 y3
def ZfZ (x1 y1 x2 y2 x3 y3 x4 y4:Rat):Prop:=okV x1 y1/\okV x2 y2/\okV x3 y3/\okV x4 y4
end N
instance (x1 y1 x2 y2 x3 y3 x4 y4:Rat):Decidable (N.crs x1 y1 x2 y2 x3 y3 x4 y4):=by unfold N.crs;infer_instance
theorem Zd8 {r s:Rat}:N.sgnI (r.num*(s.den:Int)-s.num*(r.den:Int))>=0 ↔ s<=r:=by
 rw [Rat.le_iff]
 generalize r.num*(s.den:Int)=u
 generalize s.num*(r.den:Int)=v
 unfold N.sgnI
 split
 ·omega
 ·split <;> omega
theorem Zci {r s:Rat}:N.sgnI (r.num*(s.den:Int)-s.num*(r.den:Int))<0 ↔ r<s:=by
 rw [<- Rat.not_le,<- Zd8];omega
theorem Zdl {d:Rat}:N.sgnI d.num<=0 ↔ d<=0:=by
 rw [Rat.le_iff]
 show _ ↔ d.num*(1:Int)<=0*_
 rw [Int.zero_mul,Int.mul_one]
 unfold N.sgnI
 split
 ·omega
 ·split <;> omega
theorem Zdd {x1 y1 x2 y2:Rat} (h:N.okV x1 y1) (k:N.okV x2 y2):N.okW x1 y1 x2 y2:=⟨⟨Zcc h.1 (by omega),Zcc h.2 (by omega)⟩,Zcc k.1 (by omega),Zcc k.2 (by omega)⟩
theorem ZdW {x1 y1 x2 y2 x3 y3 x4 y4:Rat} (h1:N.okV x1 y1) (h2:N.okV x2 y2) (h3:N.okV x3 y3) (h4:N.okV x4 y4):N.okD (x2-x1) (y2-y1) (x4-x3) (y4-y3):=
 ⟨⟨Zcc (ZbU h2.1 h1.1) (by omega),Zcc (ZbU h2.2 h1.2) (by omega)⟩,Zcc (ZbU h4.1 h3.1) (by omega),Zcc (ZbU h4.2 h3.2) (by omega)⟩
theorem Zd3 {x1 y1 x2 y2 x3 y3 x4 y4:Rat} (h1:N.okV x1 y1) (h2:N.okV x2 y2) (h3:N.okV x3 y3) (h4:N.okV x4 y4):N.okT 100 ((x2-x1)*(x4-x3)+(y2-y1)*(y4-y3)):=
 Zcc (okT_add (Zbs (ZbU h2.1 h1.1) (ZbU h4.1 h3.1)) (Zbs (ZbU h2.2 h1.2) (ZbU h4.2 h3.2))) (by omega)
theorem okT_crs {x1 y1 x2 y2 x3 y3 x4 y4:Rat} (h1:N.okV x1 y1) (h2:N.okV x2 y2) (h3:N.okV x3 y3) (h4:N.okV x4 y4):N.okT 100 ((x2-x1)*(y4-y3)-(y2-y1)*(x4-x3)):=
 Zcc (ZbU (Zbs (ZbU h2.1 h1.1) (ZbU h4.2 h3.2)) (Zbs (ZbU h2.2 h1.2) (ZbU h4.1 h3.1))) (by omega)
theorem okT_dv {k m:Nat} {r s:Rat} (h:N.okT k r) (h2:N.okT m s) (h0:s.num ≠ 0):N.okT (k+m) (r / s):=by
 have e:=Zgo (p:=r.num*(s.den:Int)) (q:=(r.den:Int)*s.num) (Int.mul_ne_zero (ZbN r) h0)
 rw [rat_div] at e
 exact ⟨Nat.le_trans (ZaK e.1) (ZaG h.1 (ZaM h2.2)),Nat.le_trans (ZaK e.2) (ZaG (ZaM h.2) h2.1)⟩
theorem Zcg {x1 y1 x2 y2 x3 y3:Rat} (h1:N.okV x1 y1) (h2:N.okV x2 y2) (h3:N.okV x3 y3):N.okT 400 (N.tsg x1 y1 x2 y2 x3 y3):=by
 unfold N.tsg
 split
 ·exact Zcc (Zd3 h1 h3 h1 h3) (by omega)
 ·split
  ·exact Zcc (Zd3 h2 h3 h2 h3) (by omega)
  ·rename_i n1 n2
   refine Zcc (okT_dv (Zbs (okT_crs h1 h2 h1 h3) (okT_crs h1 h2 h1 h3)) (Zd3 h1 h2 h1 h2) fun e => ?_) (by omega)
   have:=Rat.num_eq_zero.1 e
   rw [this] at n2
   grind
theorem ev80 (f1 f2 f3 f4 f5 f6 f7 f8 f9 f10 f11 f12:Bool) (x1 y1 x2 y2 x3 y3:Rat) (h:N.okV3 x1 y1 x2 y2 x3 y3):Ev M1 (.pure 80 [vecA f1 f2 f3 f4 x1 y1,vecA f5 f6 f7 f8 x2 y2,vecA f9 f10 f11 f12 x3 y3]) (ratF (N.tsg x1 y1 x2 y2 x3 y3)) []:=by
 obtain ⟨h1,h2,h3⟩:=h
 have dd:=Zd3 h1 h2 h1 h2
 have dt:=Zd3 h1 h2 h1 h3
 have cr:=okT_crs h1 h2 h1 h3
 refine call80 (qToS _ _ _ _ _ _ _ _ _ _ _ _ _ _ _ _ _ _ _ ⟨Zdd h1 h2,Zdd h1 h3,ZdW h1 h2 h1 h2,ZdW h1 h2 h1 h3,fun k=>⟨ZdW h1 h3 h1 h3,?_⟩,fun k=>⟨⟨ZaX dt (by omega),ZaX dd (by omega)⟩,fun j=>⟨Zdd h2 h3,ZdW h2 h3 h2 h3,?_⟩,fun j=>⟨⟨ZaX cr (by omega),ZaX cr (by omega)⟩,⟨ZaX (Zbs cr cr) (by omega),ZaX dd (by omega),fun e => ?_⟩,?_⟩⟩⟩)
 ·unfold N.tsg;rw [if_pos (Zdl.1 k)];exact .refl _
 ·unfold N.tsg;rw [if_neg fun x=>k (Zdl.2 x),if_pos (Zd8.1 j)];exact .refl _
 ·have e0:=Rat.num_eq_zero.1 e
  have k0:¬_:=fun x=>k (Zdl.2 x)
  have j0:¬_:=fun x=>j (Zd8.2 x)
  rw [e0] at j0
  grind
 ·unfold N.tsg;rw [if_neg fun x=>k (Zdl.2 x),if_neg fun x=>j (Zd8.2 x)];exact .refl _
theorem sgn_bd (n:Int):-1<=N.sgnI n/\N.sgnI n<=1:=by
 unfold N.sgnI
 split
 ·omega
 ·split <;> omega
theorem ZeM (m n:Int):-1<=N.sgnI m*N.sgnI n/\N.sgnI m*N.sgnI n<=1:=by
 have a:=sgn_bd m
 have b:=sgn_bd n
 have c:N.sgnI m = -1\/N.sgnI m=0\/N.sgnI m=1:=by omega
 rcases c with c | c | c <;> rw [c] <;> omega
theorem crs_bool (x1 y1 x2 y2 x3 y3 x4 y4:Rat):(bif decide (N.sgnI ((x2-x1)*(y3-y1)-(y2-y1)*(x3-x1)).num*N.sgnI ((x2-x1)*(y4-y1)-(y2-y1)*(x4-x1)).num<0) then decide (IntKind.i64.wrap (N.sgnI ((x4-x3)*(y1-y3)-(y4-y3)*(x1-x3)).num*N.sgnI ((x4-x3)*(y2-y3)-(y4-y3)*(x2-x3)).num)<0) else false)=decide (N.crs x1 y1 x2 y2 x3 y3 x4 y4):=by
 have b:=ZeM ((x4-x3)*(y1-y3)-(y4-y3)*(x1-x3)).num ((x4-x3)*(y2-y3)-(y4-y3)*(x2-x3)).num
 rw [w64 _ (by omega),Zbh]
 exact Zc9 Iff.rfl
theorem ev79 (f1 f2 f3 f4 f5 f6 f7 f8 f9 f10 f11 f12 f13 f14 f15 f16:Bool) (x1 y1 x2 y2 x3 y3 x4 y4:Rat) (h:N.ZfZ x1 y1 x2 y2 x3 y3 x4 y4):Ev M1 (.pure 79 [vecA f1 f2 f3 f4 x1 y1,vecA f5 f6 f7 f8 x2 y2,vecA f9 f10 f11 f12 x3 y3,vecA f13 f14 f15 f16 x4 y4]) (.bool (decide (N.crs x1 y1 x2 y2 x3 y3 x4 y4))) []:=by
 obtain ⟨h1,h2,h3,h4⟩:=h
 have b:=ZeM ((x2-x1)*(y3-y1)-(y2-y1)*(x3-x1)).num ((x2-x1)*(y4-y1)-(y2-y1)*(x4-x1)).num
 exact call79 (qCrs _ _ _ _ _ _ _ _ _ _ _ _ _ _ _ _ _ _ _ _ _ _ _ _ _ ⟨Zdd h1 h2,Zdd h3 h4,Zdd h1 h3,ZdW h1 h2 h1 h3,Zdd h1 h4,ZdW h1 h2 h1 h4,by omega,fun _=>Zdd h3 h1,fun _=>ZdW h3 h4 h3 h1,fun _=>Zdd h3 h2,fun _=>ZdW h3 h4 h3 h2,congrArg AV.bool (crs_bool _ _ _ _ _ _ _ _)⟩)
end Go.Av

namespace Go.Av
open Go.Proofs
set_option maxRecDepth 100000
def fi20:Fi:=⟨80,[.tmp 2]⟩
def kp20:List (Nat × List Nat):=[(0,[1]),(1,[1,3]),(2,[1,3,4]),(3,[1,3,4,43]),(4,[1,3,4]),(5,[1,4,5]),(6,[1,3,4]),(7,[79]),(8,[2]),(9,[2])]
def fi63:Fi:=⟨47,[.cell 8 87]⟩
def kp63:List (Nat × List Nat):=[(0,[4,5,6,7,8]),(1,[4,5,6,7,8,16]),(2,[8]),(3,[4,5,6,7,8,9]),(4,[8,9,34,35,36]),(5,[8,9,34,35,36,37]),(6,[8,9,11,34,35,36]),(7,[8,9,11,34,35,36,43]),(8,[8,9,34,35,36]),(9,[8,9,34,35,36]),(10,[8])]
def qSeg_at (f1 f2 f3 f4 f5 f6 f7 f8 f9 f10 f11 f12 f13 f14 f15 f16:Bool) (x1 y1 x2 y2 x3 y3 x4 y4:Rat) (Q:AV->Heap->Prop):Prop:=Wp M1 (.run fi63 (atC (cd Tryz.f63) []) [(0,.agg [.bool (N.Zaa x1.num),.vec f1 1 ((N.Zac x1.num).map (.int .u32)),.bool (N.Zaa (x1.den:Int)),.vec f2 1 ((N.Zac (x1.den:Int)).map (.int .u32)),.bool (N.Zaa y1.num),.vec f3 1 ((N.Zac y1.num).map (.int .u32)),.bool (N.Zaa (y1.den:Int)),.vec f4 1 ((N.Zac (y1.den:Int)).map (.int .u32))]),(1,.agg [.bool (N.Zaa x2.num),.vec f5 1 ((N.Zac x2.num).map (.int .u32)),.bool (N.Zaa (x2.den:Int)),.vec f6 1 ((N.Zac (x2.den:Int)).map (.int .u32)),.bool (N.Zaa y2.num),.vec f7 1 ((N.Zac y2.num).map (.int .u32)),.bool (N.Zaa (y2.den:Int)),.vec f8 1 ((N.Zac (y2.den:Int)).map (.int .u32))]),(2,.agg [.bool (N.Zaa x3.num),.vec f9 1 ((N.Zac x3.num).map (.int .u32)),.bool (N.Zaa (x3.den:Int)),.vec f10 1 ((N.Zac (x3.den:Int)).map (.int .u32)),.bool (N.Zaa y3.num),.vec f11 1 ((N.Zac y3.num).map (.int .u32)),.bool (N.Zaa (y3.den:Int)),.vec f12 1 ((N.Zac (y3.den:Int)).map (.int .u32))]),(3,.agg [.bool (N.Zaa x4.num),.vec f13 1 ((N.Zac x4.num).map (.int .u32)),.bool (N.Zaa (x4.den:Int)),.vec f14 1 ((N.Zac (x4.den:Int)).map (.int .u32)),.bool (N.Zaa y4.num),.vec f15 1 ((N.Zac y4.num).map (.int .u32)),.bool (N.Zaa (y4.den:Int)),.vec f16 1 ((N.Zac (y4.den:Int)).map (.int .u32))])] []) Q
def Zfo (q r1 r2 r3:Rat) (Q:AV->Heap->Prop):Prop:=Wp M1 (.run fi63 (atC (cd Tryz.f63) [1,1,1,0,1,0,0]) [(8,.ptr 0 0 0 0),(9,.ptr 1 0 0 0),(34,.vec true 4 [ratF r1,ratF r2,ratF r3]),(35,.int .i64 3),(36,.int .i64 0)] [⟨[.agg [.bool false,.vnil,.bool false,.vnil]],4,0,false,false⟩,⟨[ratF q],4,0,false,false⟩]) Q
def Zer (q r1 r2 r3:Rat) (Q:AV->Heap->Prop):Prop:=Wp M1 (.run fi63 (atC (cd Tryz.f63) [1,1,1,0,1,0,0]) [(8,.ptr 0 0 0 0),(9,.ptr 1 0 0 0),(34,.vec true 4 [ratF r1,ratF r2,ratF r3]),(35,.int .i64 3),(36,.int .i64 1)] [⟨[.agg [.bool false,.vnil,.bool false,.vnil]],4,0,false,false⟩,⟨[ratF q],4,0,false,false⟩]) Q
def Zeq (q r1 r2 r3:Rat) (Q:AV->Heap->Prop):Prop:=Wp M1 (.run fi63 (atC (cd Tryz.f63) [1,1,1,0,1,0,0]) [(8,.ptr 0 0 0 0),(9,.ptr 1 0 0 0),(34,.vec true 4 [ratF r1,ratF r2,ratF r3]),(35,.int .i64 3),(36,.int .i64 2)] [⟨[.agg [.bool false,.vnil,.bool false,.vnil]],4,0,false,false⟩,⟨[ratF q],4,0,false,false⟩]) Q
def Zep (q r1 r2 r3:Rat) (Q:AV->Heap->Prop):Prop:=Wp M1 (.run fi63 (atC (cd Tryz.f63) [1,1,1,0,1,0,0]) [(8,.ptr 0 0 0 0),(9,.ptr 1 0 0 0),(34,.vec true 4 [ratF r1,ratF r2,ratF r3]),(35,.int .i64 3),(36,.int .i64 3)] [⟨[.agg [.bool false,.vnil,.bool false,.vnil]],4,0,false,false⟩,⟨[ratF q],4,0,false,false⟩]) Q
def qValR_at (f:Bool) (cs:List Bx) (u0 v0 u1 v1 th gp sf:Int) (Q:AV->Heap->Prop):Prop:=Wp M1 (.run fi20 (atC (cd Tryz.f20) []) [(0,.agg [.int .i64 u0,.int .i64 v0,.int .i64 u1,.int .i64 v1,.int .i64 th,.int .i64 gp,.vec f 5 (cs.map Bx.a),.int .i64 sf])] []) Q
def Zdr (f:Bool) (cs:List Bx) (u0 v0 u1 v1 th gp sf:Int) (ok:Bool) (i:Int) (Q:AV->Heap->Prop):Prop:=Wp M1 (.run fi20 (atC (cd Tryz.f20) [1,1,0,1,0,0]) [(1,.ptr 0 0 0 0),(3,.bool ok),(4,.int .i64 i)] [⟨[.agg [.int .i64 u0,.int .i64 v0,.int .i64 u1,.int .i64 v1,.int .i64 th,.int .i64 gp,.vec f 5 (cs.map Bx.a),.int .i64 sf]],8,0,false,false⟩]) Q
theorem call20 {args:List AV} {d:AV} (h:wc M1 fi20 Tryz.f20 args d):Ev M1 (.pure 20 args) d []:=pcl _ _ (by kernel_rfl) h
theorem call63 {args:List AV} {d:AV} (h:wc M1 fi63 Tryz.f63 args d):Ev M1 (.pure 63 args) d []:=pcl _ _ (by kernel_rfl) h
noncomputable abbrev zNqN1 (x1:Rat) (f1:Bool) (f2:Bool) (y1:Rat) (f3:Bool) (f4:Bool):=ag [vb (N.Zaa x1.num),AV.vec f1 1 (us (N.Zac x1.num)),vb (N.Zaa (↑x1.den:Int)),AV.vec f2 1 (us (N.Zac (↑x1.den:Int))),vb (N.Zaa y1.num),AV.vec f3 1 (us (N.Zac y1.num)),vb (N.Zaa (↑y1.den:Int)),AV.vec f4 1 (us (N.Zac (↑y1.den:Int)))]
noncomputable abbrev zNqN2 (x2:Rat) (f5:Bool) (f6:Bool) (y2:Rat) (f7:Bool) (f8:Bool):=ag [vb (N.Zaa x2.num),AV.vec f5 1 (us (N.Zac x2.num)),vb (N.Zaa (↑x2.den:Int)),AV.vec f6 1 (us (N.Zac (↑x2.den:Int))),vb (N.Zaa y2.num),AV.vec f7 1 (us (N.Zac y2.num)),vb (N.Zaa (↑y2.den:Int)),AV.vec f8 1 (us (N.Zac (↑y2.den:Int)))]
noncomputable abbrev zNqN3 (x3:Rat) (f9:Bool) (f10:Bool) (y3:Rat) (f11:Bool) (f12:Bool):=ag [vb (N.Zaa x3.num),AV.vec f9 1 (us (N.Zac x3.num)),vb (N.Zaa (↑x3.den:Int)),AV.vec f10 1 (us (N.Zac (↑x3.den:Int))),vb (N.Zaa y3.num),AV.vec f11 1 (us (N.Zac y3.num)),vb (N.Zaa (↑y3.den:Int)),AV.vec f12 1 (us (N.Zac (↑y3.den:Int)))]
noncomputable abbrev zNqN4 (x4:Rat) (f13:Bool) (f14:Bool) (y4:Rat) (f15:Bool) (f16:Bool):=ag [vb (N.Zaa x4.num),AV.vec f13 1 (us (N.Zac x4.num)),vb (N.Zaa (↑x4.den:Int)),AV.vec f14 1 (us (N.Zac (↑x4.den:Int))),vb (N.Zaa y4.num),AV.vec f15 1 (us (N.Zac y4.num)),vb (N.Zaa (↑y4.den:Int)),AV.vec f16 1 (us (N.Zac (↑y4.den:Int)))]
theorem qSeg (f1 f2 f3 f4 f5 f6 f7 f8 f9 f10 f11 f12 f13 f14 f15 f16:Bool) (x1 y1 x2 y2 x3 y3 x4 y4:Rat)  (dq:AV) (H :
  (N.ZfZ x1 y1 x2 y2 x3 y3 x4 y4) /\
  ((N.crs x1 y1 x2 y2 x3 y3 x4 y4)->(N.inI 0) /\
   Weak (ratF (N.qi 0)) dq) /\
  (¬(N.crs x1 y1 x2 y2 x3 y3 x4 y4)->(N.okV3 x1 y1 x2 y2 x3 y3) /\
   (N.okV3 x1 y1 x2 y2 x4 y4) /\
   (N.okV3 x3 y3 x4 y4 x1 y1) /\
   (N.okV3 x3 y3 x4 y4 x2 y2) /\
   Zfo (N.tsg x1 y1 x2 y2 x3 y3) (N.tsg x1 y1 x2 y2 x4 y4) (N.tsg x3 y3 x4 y4 x1 y1) (N.tsg x3 y3 x4 y4 x2 y2) (Zaf dq))) :
 qSeg_at f1 f2 f3 f4 f5 f6 f7 f8 f9 f10 f11 f12 f13 f14 f15 f16 x1 y1 x2 y2 x3 y3 x4 y4 (Zaf dq):=by
 unfold qSeg_at
 obtain ⟨k1,H⟩:=H
 refine Zad (G:=Zae kp63 [(1,4,.call (vb (decide (N.crs x1 y1 x2 y2 x3 y3 x4 y4))) none)] []) 5 [] ⟨(atC (cd Tryz.f63) [1,0,1]),[(4,AV.ptr 0 0 0 0),(5,AV.ptr 1 0 0 0),(6,AV.ptr 2 0 0 0),(7,AV.ptr 3 0 0 0),(8,AV.ptr 4 0 0 0),(16,vb (decide (N.crs x1 y1 x2 y2 x3 y3 x4 y4)))],[⟨[(zNqN1 x1 f1 f2 y1 f3 f4)],8,0,false,false⟩,⟨[(zNqN2 x2 f5 f6 y2 f7 f8)],8,0,false,false⟩,⟨[(zNqN3 x3 f9 f10 y3 f11 f12)],8,0,false,false⟩,⟨[(zNqN4 x4 f13 f14 y4 f15 f16)],8,0,false,false⟩,⟨[ag [vb false,AV.vnil,vb false,AV.vnil]],4,0,false,false⟩],_,[],_⟩ (by kernel_rfl) (bc rfl (bc rfl (bc rfl (bc rfl b0)))) q0 (ce (@ev79 f1 f2 f3 f4 f5 f6 f7 f8 f9 f10 f11 f12 f13 f14 f15 f16 x1 y1 x2 y2 x3 y3 x4 y4 k1) c0) ?_
 rcases xq H with ⟨d3,H⟩|⟨d3,H⟩
 ·obtain ⟨k4,H⟩:=H
  exact Zai (G:=Zae kp63 [(2,0,.call (ratF (N.qi 0)) none)] []) 1000 [true] (ratF (N.qi 0)) (by kernel_rfl) (bc (Zan (Zab.2 d3)) (bc rfl b0)) q0 (ce (@ev59 0 k4) c0) H
 ·obtain ⟨k5,k6,k7,k8,H⟩:=H
  exact Zad (G:=Zae kp63 [(3,3,.call (ratF (N.tsg x1 y1 x2 y2 x3 y3)) none),(4,3,.call (ratF (N.tsg x1 y1 x2 y2 x4 y4)) none),(4,7,.call (ratF (N.tsg x3 y3 x4 y4 x1 y1)) none),(4,11,.call (ratF (N.tsg x3 y3 x4 y4 x2 y2)) none)] []) 1000 [false] ⟨(atC (cd Tryz.f63) [1,1,1,0,1,0,0]),[(8,AV.ptr 4 0 0 0),(9,AV.ptr 5 0 0 0),(34,AV.vec true 4 [ratF (N.tsg x1 y1 x2 y2 x4 y4),ratF (N.tsg x3 y3 x4 y4 x1 y1),ratF (N.tsg x3 y3 x4 y4 x2 y2)]),(35,vi 3),(36,vi 0)],[⟨[(zNqN1 x1 f1 f2 y1 f3 f4)],8,0,false,false⟩,⟨[(zNqN2 x2 f5 f6 y2 f7 f8)],8,0,false,false⟩,⟨[(zNqN3 x3 f9 f10 y3 f11 f12)],8,0,false,false⟩,⟨[(zNqN4 x4 f13 f14 y4 f15 f16)],8,0,false,false⟩,⟨[ag [vb false,AV.vnil,vb false,AV.vnil]],4,0,false,false⟩,⟨[ratF (N.tsg x1 y1 x2 y2 x3 y3)],4,0,false,false⟩],_,[],_⟩ (by kernel_rfl) (bc (Zam (fun h=>d3 (Zab.1 h))) (bc rfl (bc rfl (bc rfl (bc rfl (bc rfl (bc rfl (bc rfl (bc rfl (bc rfl (bc rfl (bc rfl (bc rfl (bc rfl b0)))))))))))))) q0 (ce (@ev80 f1 f2 f3 f4 f5 f6 f7 f8 f9 f10 f11 f12 x1 y1 x2 y2 x3 y3 k5) (ce (@ev80 f1 f2 f3 f4 f5 f6 f7 f8 f13 f14 f15 f16 x1 y1 x2 y2 x4 y4 k6) (ce (@ev80 f9 f10 f11 f12 f13 f14 f15 f16 f1 f2 f3 f4 x3 y3 x4 y4 x1 y1 k7) (ce (@ev80 f9 f10 f11 f12 f13 f14 f15 f16 f5 f6 f7 f8 x3 y3 x4 y4 x2 y2 k8) c0)))) (Zas [4,5] (by kernel_rfl) H)
noncomputable abbrev zNqN5:=ag [vb false,AV.vnil,vb false,AV.vnil]
theorem qSeg0 (q r1 r2 r3:Rat)  (dq:AV) (H :
  (N.okR r1/\N.okR q) /\
  ((N.sgnI (r1.num*(↑q.den:Int)-q.num*(↑r1.den:Int))<0)->Zer r1 r1 r2 r3 (Zaf dq)) /\
  (¬(N.sgnI (r1.num*(↑q.den:Int)-q.num*(↑r1.den:Int))<0)->Zer q r1 r2 r3 (Zaf dq))) :
 Zfo q r1 r2 r3 (Zaf dq):=by
 unfold Zfo
 obtain ⟨k1,H⟩:=H
 refine Zad (G:=Zae kp63 [(7,2,.call (vi (N.sgnI (r1.num*(↑q.den:Int)-q.num*(↑r1.den:Int)))) none)] []) 11 [true] ⟨(atC (cd Tryz.f63) [1,1,1,0,1,0,0,1,1,0,0,1,1]),[(8,AV.ptr 0 0 0 0),(9,AV.ptr 1 0 0 0),(11,AV.ptr 2 0 0 0),(34,AV.vec true 4 [ratF r1,ratF r2,ratF r3]),(35,vi 3),(36,vi 0),(43,vb (decide (N.sgnI (r1.num*(↑q.den:Int)-q.num*(↑r1.den:Int))<0)))],[⟨[zNqN5],4,0,false,false⟩,⟨[ratF q],4,0,false,false⟩,⟨[ratF r1],4,0,false,false⟩],_,[],_⟩ (by kernel_rfl) (bc rfl (bc rfl (bc rfl (bc rfl (bc rfl (bc rfl b0)))))) q0 (ce (@ev62 false false false false r1 q k1) c0) ?_
 rcases xq H with ⟨d3,H⟩|⟨d3,H⟩
 ·exact Zad (G:=Zae kp63 [] []) 1000 [true] ⟨(atC (cd Tryz.f63) [1,1,1,0,1,0,0]),[(8,AV.ptr 0 0 0 0),(9,AV.ptr 1 0 0 0),(34,AV.vec true 4 [ratF r1,ratF r2,ratF r3]),(35,vi 3),(36,vi 1)],[⟨[zNqN5],4,0,false,false⟩,⟨[ratF r1],4,0,false,false⟩,⟨[ratF r1],4,0,false,false⟩],_,[],_⟩ (by kernel_rfl) (bc (Zan (Zab.2 d3)) (bc rfl (bc rfl b0))) q0 c0 (Zas [0,1] (by kernel_rfl) H)
 ·exact Zad (G:=Zae kp63 [] []) 1000 [false] ⟨(atC (cd Tryz.f63) [1,1,1,0,1,0,0]),[(8,AV.ptr 0 0 0 0),(9,AV.ptr 1 0 0 0),(34,AV.vec true 4 [ratF r1,ratF r2,ratF r3]),(35,vi 3),(36,vi 1)],[⟨[zNqN5],4,0,false,false⟩,⟨[ratF q],4,0,false,false⟩,⟨[ratF r1],4,0,false,false⟩],_,[],_⟩ (by kernel_rfl) (bc (Zam (fun h=>d3 (Zab.1 h))) b0) q0 c0 (Zas [0,1] (by kernel_rfl) H)
noncomputable abbrev zNqN6:=ag [vb false,AV.vnil,vb false,AV.vnil]
theorem qSeg1 (q r1 r2 r3:Rat)  (dq:AV) (H :
  (N.okR r2/\N.okR q) /\
  ((N.sgnI (r2.num*(↑q.den:Int)-q.num*(↑r2.den:Int))<0)->Zeq r2 r1 r2 r3 (Zaf dq)) /\
  (¬(N.sgnI (r2.num*(↑q.den:Int)-q.num*(↑r2.den:Int))<0)->Zeq q r1 r2 r3 (Zaf dq))) :
 Zer q r1 r2 r3 (Zaf dq):=by
 unfold Zer
 obtain ⟨k1,H⟩:=H
 refine Zad (G:=Zae kp63 [(7,2,.call (vi (N.sgnI (r2.num*(↑q.den:Int)-q.num*(↑r2.den:Int)))) none)] []) 11 [true] ⟨(atC (cd Tryz.f63) [1,1,1,0,1,0,0,1,1,0,0,1,1]),[(8,AV.ptr 0 0 0 0),(9,AV.ptr 1 0 0 0),(11,AV.ptr 2 0 0 0),(34,AV.vec true 4 [ratF r1,ratF r2,ratF r3]),(35,vi 3),(36,vi 1),(43,vb (decide (N.sgnI (r2.num*(↑q.den:Int)-q.num*(↑r2.den:Int))<0)))],[⟨[zNqN6],4,0,false,false⟩,⟨[ratF q],4,0,false,false⟩,⟨[ratF r2],4,0,false,false⟩],_,[],_⟩ (by kernel_rfl) (bc rfl (bc rfl (bc rfl (bc rfl (bc rfl (bc rfl b0)))))) q0 (ce (@ev62 false false false false r2 q k1) c0) ?_
 rcases xq H with ⟨d3,H⟩|⟨d3,H⟩
 ·exact Zad (G:=Zae kp63 [] []) 1000 [true] ⟨(atC (cd Tryz.f63) [1,1,1,0,1,0,0]),[(8,AV.ptr 0 0 0 0),(9,AV.ptr 1 0 0 0),(34,AV.vec true 4 [ratF r1,ratF r2,ratF r3]),(35,vi 3),(36,vi 2)],[⟨[zNqN6],4,0,false,false⟩,⟨[ratF r2],4,0,false,false⟩,⟨[ratF r2],4,0,false,false⟩],_,[],_⟩ (by kernel_rfl) (bc (Zan (Zab.2 d3)) (bc rfl (bc rfl b0))) q0 c0 (Zas [0,1] (by kernel_rfl) H)
 ·exact Zad (G:=Zae kp63 [] []) 1000 [false] ⟨(atC (cd Tryz.f63) [1,1,1,0,1,0,0]),[(8,AV.ptr 0 0 0 0),(9,AV.ptr 1 0 0 0),(34,AV.vec true 4 [ratF r1,ratF r2,ratF r3]),(35,vi 3),(36,vi 2)],[⟨[zNqN6],4,0,false,false⟩,⟨[ratF q],4,0,false,false⟩,⟨[ratF r2],4,0,false,false⟩],_,[],_⟩ (by kernel_rfl) (bc (Zam (fun h=>d3 (Zab.1 h))) b0) q0 c0 (Zas [0,1] (by kernel_rfl) H)
noncomputable abbrev zNqN7:=ag [vb false,AV.vnil,vb false,AV.vnil]
theorem qSeg2 (q r1 r2 r3:Rat)  (dq:AV) (H :
  (N.okR r3/\N.okR q) /\
  ((N.sgnI (r3.num*(↑q.den:Int)-q.num*(↑r3.den:Int))<0)->Zep r3 r1 r2 r3 (Zaf dq)) /\
  (¬(N.sgnI (r3.num*(↑q.den:Int)-q.num*(↑r3.den:Int))<0)->Zep q r1 r2 r3 (Zaf dq))) :
 Zeq q r1 r2 r3 (Zaf dq):=by
 unfold Zeq
 obtain ⟨k1,H⟩:=H
 refine Zad (G:=Zae kp63 [(7,2,.call (vi (N.sgnI (r3.num*(↑q.den:Int)-q.num*(↑r3.den:Int)))) none)] []) 11 [true] ⟨(atC (cd Tryz.f63) [1,1,1,0,1,0,0,1,1,0,0,1,1]),[(8,AV.ptr 0 0 0 0),(9,AV.ptr 1 0 0 0),(11,AV.ptr 2 0 0 0),(34,AV.vec true 4 [ratF r1,ratF r2,ratF r3]),(35,vi 3),(36,vi 2),(43,vb (decide (N.sgnI (r3.num*(↑q.den:Int)-q.num*(↑r3.den:Int))<0)))],[⟨[zNqN7],4,0,false,false⟩,⟨[ratF q],4,0,false,false⟩,⟨[ratF r3],4,0,false,false⟩],_,[],_⟩ (by kernel_rfl) (bc rfl (bc rfl (bc rfl (bc rfl (bc rfl (bc rfl b0)))))) q0 (ce (@ev62 false false false false r3 q k1) c0) ?_
 rcases xq H with ⟨d3,H⟩|⟨d3,H⟩
 ·exact Zad (G:=Zae kp63 [] []) 1000 [true] ⟨(atC (cd Tryz.f63) [1,1,1,0,1,0,0]),[(8,AV.ptr 0 0 0 0),(9,AV.ptr 1 0 0 0),(34,AV.vec true 4 [ratF r1,ratF r2,ratF r3]),(35,vi 3),(36,vi 3)],[⟨[zNqN7],4,0,false,false⟩,⟨[ratF r3],4,0,false,false⟩,⟨[ratF r3],4,0,false,false⟩],_,[],_⟩ (by kernel_rfl) (bc (Zan (Zab.2 d3)) (bc rfl (bc rfl b0))) q0 c0 (Zas [0,1] (by kernel_rfl) H)
 ·exact Zad (G:=Zae kp63 [] []) 1000 [false] ⟨(atC (cd Tryz.f63) [1,1,1,0,1,0,0]),[(8,AV.ptr 0 0 0 0),(9,AV.ptr 1 0 0 0),(34,AV.vec true 4 [ratF r1,ratF r2,ratF r3]),(35,vi 3),(36,vi 3)],[⟨[zNqN7],4,0,false,false⟩,⟨[ratF q],4,0,false,false⟩,⟨[ratF r3],4,0,false,false⟩],_,[],_⟩ (by kernel_rfl) (bc (Zam (fun h=>d3 (Zab.1 h))) b0) q0 c0 (Zas [0,1] (by kernel_rfl) H)
theorem qSeg3 (q r1 r2 r3:Rat)  (dq:AV) (H :
  Weak (ratF q) dq) :
 Zep q r1 r2 r3 (Zaf dq):=by
 unfold Zep
 exact Zai (G:=Zae kp63 [] []) 1000 [false] (ratF q) (by kernel_rfl) (bc rfl (bc rfl (bc rfl b0))) q0 c0 H
theorem qValR (f:Bool) (cs:List Bx) (u0 v0 u1 v1 th gp sf:Int)  (dq:AV) (H :
  Zdr f cs u0 v0 u1 v1 th gp sf (bif bif bif bif decide (N.rct u0 v0 u1 v1) then decide (N.wth th 1) else false then decide (N.wth gp 0) else false then decide ((↑cs.length:Int)<=50) else false then decide (N.wth sf 1) else false) 0 (Zaf dq)) :
 qValR_at f cs u0 v0 u1 v1 th gp sf (Zaf dq):=by
 unfold qValR_at
 have w3:(List.map Bx.a cs).length=cs.length:=List.length_map ..
 have i4:((bif bif bif decide (N.rct u0 v0 u1 v1) then decide (N.wth th 1) else false then decide (N.wth gp 0) else false then decide ((↑(List.map Bx.a cs).length:Int)<=50) else false)==true&&true&&true)=true ↔ ((((N.rct u0 v0 u1 v1)/\(N.wth th 1))/\(N.wth gp 0))/\((↑cs.length:Int)<=50)):=(by (try rw [w3]);all_goals exact (i_at (i_at (i_bt (Zbt (Zbt (Zbt Zab Zab) Zab) Zab)))))
 exact Zad (G:=Zae kp20 [(1,8,.call (vb (decide (N.rct u0 v0 u1 v1))) none),(1,12,.call (vb (decide (N.wth th 1))) none),(1,17,.call (vb (decide (N.wth gp 0))) none),(1,28,.call (vb (decide (N.wth sf 1))) none)] []) 1000 [] ⟨(atC (cd Tryz.f20) [1,1,0,1,0,0]),[(1,AV.ptr 0 0 0 0),(3,vb (bif bif bif bif decide (N.rct u0 v0 u1 v1) then decide (N.wth th 1) else false then decide (N.wth gp 0) else false then decide ((↑(List.map Bx.a cs).length:Int)<=50) else false then decide (N.wth sf 1) else false)),(4,vi 0)],[⟨[ag [vi u0,vi v0,vi u1,vi v1,vi th,vi gp,AV.vec f 5 (List.map Bx.a cs),vi sf]],8,0,false,false⟩],[true,true,true,true,!(decide (N.rct u0 v0 u1 v1)==true&&true)||true,!((bif decide (N.rct u0 v0 u1 v1) then decide (N.wth th 1) else false)==true&&true)||true,!((bif bif decide (N.rct u0 v0 u1 v1) then decide (N.wth th 1) else false then decide (N.wth gp 0) else false)==true&&true)||true,!((bif bif bif decide (N.rct u0 v0 u1 v1) then decide (N.wth th 1) else false then decide (N.wth gp 0) else false then decide ((↑(List.map Bx.a cs).length:Int)<=50) else false)==true&&true)||true],[],[⟨true,false,44,[vi u0,vi v0,vi u1,vi v1],[],vb (decide (N.rct u0 v0 u1 v1)),[]⟩,⟨decide (N.rct u0 v0 u1 v1)==true&&true&&true,false,45,[vi th,vi 1],[],vb (decide (N.wth th 1)),[]⟩,⟨(bif decide (N.rct u0 v0 u1 v1) then decide (N.wth th 1) else false)==true&&true&&true,false,45,[vi gp,vi 0],[],vb (decide (N.wth gp 0)),[]⟩,⟨(bif bif bif decide (N.rct u0 v0 u1 v1) then decide (N.wth th 1) else false then decide (N.wth gp 0) else false then decide ((↑(List.map Bx.a cs).length:Int)<=50) else false)==true&&true&&true,false,45,[vi sf,vi 1],[],vb (decide (N.wth sf 1)),[]⟩]⟩ (by kernel_rfl) (bc rfl (bc rfl (bc rfl (bc rfl (bc (Bool.or_true _) (bc (Bool.or_true _) (bc (Bool.or_true _) (bc (Bool.or_true _) b0)))))))) q0 (cc (fun _=>(@ev44 u0 v0 u1 v1)) (cc (fun hc=>((@ev45 th 1):Ev M1 (Conf.pure 45 [vi th,vi 1]) (vb (decide (N.wth th 1))) [])) (cc (fun hc=>((@ev45 gp 0):Ev M1 (Conf.pure 45 [vi gp,vi 0]) (vb (decide (N.wth gp 0))) [])) (cc (fun hc=>((@ev45 sf 1):Ev M1 (Conf.pure 45 [vi sf,vi 1]) (vb (decide (N.wth sf 1))) [])) c0)))) (by (try rw [w3]);all_goals exact H)
noncomputable abbrev Zd9 (cs:List Bx) (i:Int):=N.rct (cs.getD i.toNat default).x0 (cs.getD i.toNat default).y0 (cs.getD i.toNat default).x1 (cs.getD i.toNat default).y1
noncomputable abbrev zNqN12 (cs:List Bx) (i:Int):=ag [vi (cs.getD i.toNat default).x0,vi (cs.getD i.toNat default).y0,vi (cs.getD i.toNat default).x1,vi (cs.getD i.toNat default).y1,vi (cs.getD i.toNat default).top]
noncomputable abbrev ZgM (cs:List Bx) (i:Int) (th:Int) (gp:Int):=N.wth (cs.getD i.toNat default).top (0-th-gp)
theorem qValRL (f:Bool) (cs:List Bx) (u0 v0 u1 v1 th gp sf:Int) (ok:Bool) (i:Int)  (dq:AV) (H :
  (((i<(↑cs.length:Int))/\(ok=true))->(0<=i) /\
   (i.toNat<cs.length) /\
   (-9223372036854775808<=0-th/\0-th<=9223372036854775807) /\
   (-9223372036854775808<=0-th-gp/\0-th-gp<=9223372036854775807) /\
   (-9223372036854775808<=i+1/\i+1<=9223372036854775807) /\
   Zdr f cs u0 v0 u1 v1 th gp sf (bif bif decide (N.rct (cs.getD i.toNat default).x0 (cs.getD i.toNat default).y0 (cs.getD i.toNat default).x1 (cs.getD i.toNat default).y1) then decide (N.wth (cs.getD i.toNat default).top (0-th-gp)) else false then decide ((cs.getD i.toNat default).top<sf) else false) (i+1) (Zaf dq)) /\
  (¬((i<(↑cs.length:Int))/\(ok=true))->((¬(ok=true))->vi 1=dq) /\
   (¬(¬(ok=true))->vi 0=dq))) :
 Zdr f cs u0 v0 u1 v1 th gp sf ok i (Zaf dq):=by
 unfold Zdr
 have w1:(List.map Bx.a cs).length=cs.length:=List.length_map ..
 have i2:(bif decide (i<(↑(List.map Bx.a cs).length:Int)) then ok else false)=true ↔ ((i<(↑cs.length:Int))/\(ok=true)):=(by (try rw [w1]);all_goals exact (Zbt Zab (Zbq _)))
 rcases xq H with ⟨d3,H⟩|⟨d3,H⟩
 ·obtain ⟨k5,H⟩:=H
  have i6:(decide (i.toNat<(List.map Bx.a cs).length))=true ↔ (i.toNat<cs.length):=(by (try rw [w1]);all_goals exact Zab)
  obtain ⟨k7,k8,H⟩:=H
  have w9:wi (0-th)=0-th:=wI64 k8
  obtain ⟨k10,H⟩:=H
  have w11:wi (0-th-gp)=0-th-gp:=wI64 k10
  obtain ⟨k13,H⟩:=H
  have w14:wi (i+1)=i+1:=wI64 k13
  exact Zad (G:=Zae kp20 [(5,4,.elem ((zNqN12 cs i))),(6,8,.call (vb (decide (Zd9 cs i))) none),(6,18,.call (vb (decide (ZgM cs i th gp))) none)] []) 1000 [true] ⟨(atC (cd Tryz.f20) [1,1,0,1,0,0]),[(1,AV.ptr 0 0 0 0),(3,vb (bif bif decide (Zd9 cs i) then decide (ZgM cs i th gp) else false then decide ((cs.getD i.toNat default).top<sf) else false)),(4,vi (wi (i+1)))],[⟨[ag [vi u0,vi v0,vi u1,vi v1,vi th,vi gp,AV.vec f 5 (List.map Bx.a cs),vi sf]],8,0,false,false⟩,⟨[(zNqN12 cs i)],5,0,false,false⟩],[true,(bif decide (i<(↑(List.map Bx.a cs).length:Int)) then ok else false)==true,true,decide (0<=i),decide (i.toNat<(List.map Bx.a cs).length),true,true,true,true,true,!(decide (Zd9 cs i)==true&&true)||true,!(decide (Zd9 cs i)==true&&true)||true,!(decide (Zd9 cs i)==true&&true)||true,!((bif decide (Zd9 cs i) then decide (ZgM cs i th gp) else false)==true&&true)||true,!((bif decide (Zd9 cs i) then decide (ZgM cs i th gp) else false)==true&&true)||true],[((List.map Bx.a cs).get?Internal i.toNat=some ((zNqN12 cs i)))],[⟨true,false,44,[vi (cs.getD i.toNat default).x0,vi (cs.getD i.toNat default).y0,vi (cs.getD i.toNat default).x1,vi (cs.getD i.toNat default).y1],[],vb (decide (Zd9 cs i)),[]⟩,⟨decide (Zd9 cs i)==true&&true&&true,false,45,[vi (cs.getD i.toNat default).top,vi (wi (wi (0-th)-gp))],[],vb (decide (ZgM cs i th gp)),[]⟩]⟩ (by kernel_rfl) (bc rfl (bc (Zan (i2.2 d3)) (bc rfl (bc (Zab.2 k5) (bc (i6.2 k7) (bc rfl (bc rfl (bc rfl (bc rfl (bc rfl (bc (Bool.or_true _) (bc (Bool.or_true _) (bc (Bool.or_true _) (bc (Bool.or_true _) (bc (Bool.or_true _) b0))))))))))))))) (qc (Zao k7) q0) (cc (fun _=>(@ev44 ((cs.getD i.toNat default).x0) ((cs.getD i.toNat default).y0) ((cs.getD i.toNat default).x1) ((cs.getD i.toNat default).y1))) (cc (fun hc=>((by (try rw [w9]);(try rw [w11]);all_goals exact (@ev45 ((cs.getD i.toNat default).top) (0-th-gp))):Ev M1 (Conf.pure 45 [vi (cs.getD i.toNat default).top,vi (wi (wi (0-th)-gp))]) (vb (decide (ZgM cs i th gp))) [])) c0)) (by (try rw [w14]);all_goals exact Zas [0] (by kernel_rfl) H)
 ·rcases xq H with ⟨d16,H⟩|⟨d16,H⟩
  ·exact Zaq (G:=Zae kp20 [] []) 1000 [false,true] (asm:=[true,(bif decide (i<(↑(List.map Bx.a cs).length:Int)) then ok else false)==false,(!ok)==true]) (vi 1) (by kernel_rfl) (bc rfl (bc (Zam (fun h=>d3 (i2.1 h))) (bc (Zan ((ZcJ (Zbq _)).2 d16)) b0))) q0 c0 H
  ·exact Zaq (G:=Zae kp20 [] []) 1000 [false,false] (asm:=[true,(bif decide (i<(↑(List.map Bx.a cs).length:Int)) then ok else false)==false,(!ok)==false]) (vi 0) (by kernel_rfl) (bc rfl (bc (Zam (fun h=>d3 (i2.1 h))) (bc (Zam (fun h=>d16 ((ZcJ (Zbq _)).1 h))) b0))) q0 c0 H
end Go.Av

namespace Go.Av
open Go.Proofs
namespace N
noncomputable def mn (r q:Rat):Rat:=if r<q then r else q
noncomputable def seg (x1 y1 x2 y2 x3 y3 x4 y4:Rat):Rat:=
 if crs x1 y1 x2 y2 x3 y3 x4 y4 then qi 0 else mn (tsg x3 y3 x4 y4 x2 y2) (mn (tsg x3 y3 x4 y4 x1 y1) (mn (tsg x1 y1 x2 y2 x4 y4) (tsg x1 y1 x2 y2 x3 y3)))
def vaC (th gp sf:Int) (c:Bx):Prop:=rct c.x0 c.y0 c.x1 c.y1/\wth c.top (0-th-gp)/\c.top<sf
def vaP (cs:List Bx) (u0 v0 u1 v1 th gp sf:Int):Prop:=rct u0 v0 u1 v1/\wth th 1/\wth gp 0/\wth sf 1/\cs.length<=50 /\ ∀ c ∈ cs,vaC th gp sf c
open Classical in
noncomputable def vaE (cs:List Bx) (u0 v0 u1 v1 th gp sf:Int):Int:=if vaP cs u0 v0 u1 v1 th gp sf then 0 else 1
end N
theorem Zg8 {k:Nat} {r q:Rat} (h:N.okT k r) (h2:N.okT k q):N.okT k (N.mn r q):=by
 unfold N.mn
 split
 ·exact h
 ·exact h2
theorem mn_y {r q:Rat} (h:N.sgnI (r.num*(q.den:Int)-q.num*(r.den:Int))<0):N.mn r q=r:=if_pos (Zci.1 h)
theorem mn_n {r q:Rat} (h:¬N.sgnI (r.num*(q.den:Int)-q.num*(r.den:Int))<0):N.mn r q=q:=if_neg fun x=>h (Zci.2 x)
theorem seg_loop {q r1 r2 r3:Rat} (h:N.okT 400 q) (h1:N.okT 400 r1) (h2:N.okT 400 r2) (h3:N.okT 400 r3):Zfo q r1 r2 r3 (Zaf (ratF (N.mn r3 (N.mn r2 (N.mn r1 q))))):=by
 have R {r:Rat} (h:N.okT 400 r):N.okR r:=ZaX h (by omega)
 have s3:∀ q,Zep q r1 r2 r3 (Zaf (ratF q)):=fun q=>qSeg3 _ _ _ _ _ (.refl _)
 have s2:∀ q,N.okT 400 q->Zeq q r1 r2 r3 (Zaf (ratF (N.mn r3 q))):=fun q hq=>qSeg2 _ _ _ _ _ ⟨⟨R h3,R hq⟩,fun k=>by rw [mn_y k];exact s3 _,fun k=>by rw [mn_n k];exact s3 _⟩
 have s1:∀ q,N.okT 400 q->Zer q r1 r2 r3 (Zaf (ratF (N.mn r3 (N.mn r2 q)))):=fun q hq=>qSeg1 _ _ _ _ _ ⟨⟨R h2,R hq⟩,fun k=>by rw [mn_y k];exact s2 _ h2,fun k=>by rw [mn_n k];exact s2 _ hq⟩
 exact qSeg0 _ _ _ _ _ ⟨⟨R h1,R h⟩,fun k=>by rw [mn_y k];exact s1 _ h1,fun k=>by rw [mn_n k];exact s1 _ h⟩
theorem ZbL {x1 y1 x2 y2 x3 y3 x4 y4:Rat} (h:N.ZfZ x1 y1 x2 y2 x3 y3 x4 y4):N.okT 400 (N.seg x1 y1 x2 y2 x3 y3 x4 y4):=by
 obtain ⟨h1,h2,h3,h4⟩:=h
 unfold N.seg
 split
 ·exact Zcc (okT_int (by unfold N.inI;omega)) (by omega)
 ·exact Zg8 (Zcg h3 h4 h2) (Zg8 (Zcg h3 h4 h1) (Zg8 (Zcg h1 h2 h4) (Zcg h1 h2 h3)))
theorem ev63 (f1 f2 f3 f4 f5 f6 f7 f8 f9 f10 f11 f12 f13 f14 f15 f16:Bool) (x1 y1 x2 y2 x3 y3 x4 y4:Rat) (h:N.ZfZ x1 y1 x2 y2 x3 y3 x4 y4):Ev M1 (.pure 63 [vecA f1 f2 f3 f4 x1 y1,vecA f5 f6 f7 f8 x2 y2,vecA f9 f10 f11 f12 x3 y3,vecA f13 f14 f15 f16 x4 y4]) (ratF (N.seg x1 y1 x2 y2 x3 y3 x4 y4)) []:=by
 have h0:=h
 obtain ⟨h1,h2,h3,h4⟩:=h
 refine call63 (qSeg _ _ _ _ _ _ _ _ _ _ _ _ _ _ _ _ _ _ _ _ _ _ _ _ _ ⟨h0,fun k=>⟨by unfold N.inI;omega,?_⟩,fun k=>⟨⟨h1,h2,h3⟩,⟨h1,h2,h4⟩,⟨h3,h4,h1⟩,⟨h3,h4,h2⟩,?_⟩⟩)
 ·unfold N.seg;rw [if_pos k];exact .refl _
 ·unfold N.seg;rw [if_neg k];exact seg_loop (Zcg h1 h2 h3) (Zcg h1 h2 h4) (Zcg h3 h4 h1) (Zcg h3 h4 h2)
section
variable {f:Bool} {cs:List Bx} {u0 v0 u1 v1 th gp sf:Int}
theorem va_y (h:N.vaP cs u0 v0 u1 v1 th gp sf):N.vaE cs u0 v0 u1 v1 th gp sf=0:=if_pos h
theorem va_n (h:¬N.vaP cs u0 v0 u1 v1 th gp sf):N.vaE cs u0 v0 u1 v1 th gp sf=1:=if_neg h
theorem valR_loop (hN:cs.length<=1000) (m:Nat):∀ (i:Nat) (ok:Bool),i+m=cs.length->(ok=true ↔ (N.rct u0 v0 u1 v1/\N.wth th 1/\N.wth gp 0/\N.wth sf 1/\cs.length<=50) /\ ∀ j,j<i->N.vaC th gp sf (cs.getD j default))->Zdr f cs u0 v0 u1 v1 th gp sf ok i (Zaf (.int .i64 (N.vaE cs u0 v0 u1 v1 th gp sf))):=by
 have no:∀ i:Nat,¬((N.rct u0 v0 u1 v1/\N.wth th 1/\N.wth gp 0/\N.wth sf 1/\cs.length<=50) /\ ∀ j,j<i->N.vaC th gp sf (cs.getD j default))->i<=cs.length->N.vaE cs u0 v0 u1 v1 th gp sf=1:=fun i h hi=>va_n fun v=>h ⟨⟨v.1,v.2.1,v.2.2.1,v.2.2.2.1,v.2.2.2.2.1⟩,fun j hj=>v.2.2.2.2.2 _ (ZcM (by omega))⟩
 induction m with
 | zero =>
  intro i ok e hok
  refine qValRL _ _ _ _ _ _ _ _ _ _ _ _ ⟨fun x=>by omega,fun _=>⟨fun k => ?_,fun k => ?_⟩⟩
  ·rw [no i (fun x=>k (hok.2 x)) (by omega)]
  ·obtain ⟨⟨h1,h2,h3,h4,h5⟩,hj⟩:=hok.1 (Classical.not_not.1 k)
   rw [va_y ⟨h1,h2,h3,h4,h5,fun c hc=>by
    obtain ⟨j,hj2,rfl⟩:=List.mem_iff_getElem.1 hc
    have:=hj j (by omega)
    rwa [List.getD_eq_getElem?_getD,List.getElem?_eq_getElem hj2,Option.getD_some] at this⟩]
 | succ m ih =>
  intro i ok e hok
  have hi:i<cs.length:=by omega
  cases ok with
  | false =>
   refine qValRL _ _ _ _ _ _ _ _ _ _ _ _ ⟨fun x=>absurd x.2 (by decide),fun _=>⟨fun k => ?_,fun k=>absurd (by decide) k⟩⟩
   rw [no i (fun x=>absurd (hok.2 x) (by decide)) (by omega)]
  | true =>
   obtain ⟨H,hj⟩:=hok.1 rfl
   have b1:=H.2.1
   have b2:=H.2.2.1
   unfold N.wth at b1 b2
   refine qValRL _ _ _ _ _ _ _ _ _ _ _ _ ⟨fun x => ?_,fun x=>absurd ⟨by omega,rfl⟩ x⟩
   rw [Int.toNat_natCast,show (i:Int)+1=((i+1:Nat):Int) by omega,Zbh,Zbh]
   refine ⟨by omega,hi,by omega,by omega,by omega,ih (i+1) _ (by omega) ?_⟩
   rw [decide_eq_true_iff]
   constructor
   ·rintro ⟨⟨a,b⟩,c⟩;exact ⟨H,lt_succ_all hj ⟨a,b,c⟩⟩
   ·rintro ⟨_,k⟩;have:=k i (by omega);exact ⟨⟨this.1,this.2.1⟩,this.2.2⟩
end
theorem ev20 (f:Bool) (cs:List Bx) (u0 v0 u1 v1 th gp sf:Int) (h:cs.length<=1000):Ev M1 (.pure 20 [.agg [.int .i64 u0,.int .i64 v0,.int .i64 u1,.int .i64 v1,.int .i64 th,.int .i64 gp,.vec f 5 (cs.map Bx.a),.int .i64 sf]]) (.int .i64 (N.vaE cs u0 v0 u1 v1 th gp sf)) []:=by
 refine call20 (qValR _ _ _ _ _ _ _ _ _ _ (valR_loop h cs.length 0 _ (by omega) ?_))
 rw [Zbh,Zbh,Zbh,Zbh,decide_eq_true_iff]
 constructor
 ·rintro ⟨⟨⟨⟨a,b⟩,c⟩,d⟩,e⟩;exact ⟨⟨a,b,c,e,by omega⟩,fun j h=>absurd h (Nat.not_lt_zero j)⟩
 ·rintro ⟨⟨a,b,c,d,e⟩,_⟩;exact ⟨⟨⟨⟨a,b⟩,c⟩,by omega⟩,d⟩
end Go.Av

namespace Go.Av
open Go.Proofs
set_option maxRecDepth 100000
def fi46:Fi:=⟨82,[.tmp 8]⟩
def kp46:List (Nat × List Nat):=[(0,[3,4,5,6]),(1,[3,4,5,6,16]),(2,[8]),(3,[3,4,5,6,24]),(4,[8]),(5,[4,5,6,9]),(6,[4,5,6,9]),(7,[4,9,10,11]),(8,[9,10,11,12]),(9,[9,10,11,12,61,62,63]),(10,[9,10,11,12,61,62,63,64]),(11,[9,10,11,12,13,14,61,62,63]),(12,[9,10,11,12,61,62,63,80]),(13,[8]),(14,[9,10,11,12,61,62,63]),(15,[8])]
def qNe_at (x0 y0 x1 y1 tp ax ay bx by_ r:Int) (Q:AV->Heap->Prop):Prop:=Wp M1 (.run fi46 (atC (cd Tryz.f46) []) [(0,.agg [.int .i64 x0,.int .i64 y0,.int .i64 x1,.int .i64 y1,.int .i64 tp]),(1,.agg [.int .i64 ax,.int .i64 ay]),(2,.agg [.int .i64 bx,.int .i64 by_]),(3,.int .i64 r)] []) Q
def qNe0_at (u0 v0 u1 v1 a1 a2 b1 b2 m:Rat) (Q:AV->Heap->Prop):Prop:=Wp M1 (.run fi46 (atC (cd Tryz.f46) [1,1,1,1,1,1,1,0,1,0,0]) [(9,.ptr 0 0 0 0),(10,.ptr 1 0 0 0),(11,.ptr 2 0 0 0),(12,.vec true 8 [.agg [.bool (N.Zaa u0.num),.vec false 1 ((N.Zac u0.num).map (.int .u32)),.bool (N.Zaa (u0.den:Int)),.vec false 1 ((N.Zac (u0.den:Int)).map (.int .u32)),.bool (N.Zaa v0.num),.vec false 1 ((N.Zac v0.num).map (.int .u32)),.bool (N.Zaa (v0.den:Int)),.vec false 1 ((N.Zac (v0.den:Int)).map (.int .u32))],.agg [.bool (N.Zaa u1.num),.vec false 1 ((N.Zac u1.num).map (.int .u32)),.bool (N.Zaa (u1.den:Int)),.vec false 1 ((N.Zac (u1.den:Int)).map (.int .u32)),.bool (N.Zaa v0.num),.vec false 1 ((N.Zac v0.num).map (.int .u32)),.bool (N.Zaa (v0.den:Int)),.vec false 1 ((N.Zac (v0.den:Int)).map (.int .u32))],.agg [.bool (N.Zaa u1.num),.vec false 1 ((N.Zac u1.num).map (.int .u32)),.bool (N.Zaa (u1.den:Int)),.vec false 1 ((N.Zac (u1.den:Int)).map (.int .u32)),.bool (N.Zaa v1.num),.vec false 1 ((N.Zac v1.num).map (.int .u32)),.bool (N.Zaa (v1.den:Int)),.vec false 1 ((N.Zac (v1.den:Int)).map (.int .u32))],.agg [.bool (N.Zaa u0.num),.vec false 1 ((N.Zac u0.num).map (.int .u32)),.bool (N.Zaa (u0.den:Int)),.vec false 1 ((N.Zac (u0.den:Int)).map (.int .u32)),.bool (N.Zaa v1.num),.vec false 1 ((N.Zac v1.num).map (.int .u32)),.bool (N.Zaa (v1.den:Int)),.vec false 1 ((N.Zac (v1.den:Int)).map (.int .u32))]]),(61,.vec true 8 [.agg [.bool (N.Zaa u0.num),.vec false 1 ((N.Zac u0.num).map (.int .u32)),.bool (N.Zaa (u0.den:Int)),.vec false 1 ((N.Zac (u0.den:Int)).map (.int .u32)),.bool (N.Zaa v0.num),.vec false 1 ((N.Zac v0.num).map (.int .u32)),.bool (N.Zaa (v0.den:Int)),.vec false 1 ((N.Zac (v0.den:Int)).map (.int .u32))],.agg [.bool (N.Zaa u1.num),.vec false 1 ((N.Zac u1.num).map (.int .u32)),.bool (N.Zaa (u1.den:Int)),.vec false 1 ((N.Zac (u1.den:Int)).map (.int .u32)),.bool (N.Zaa v0.num),.vec false 1 ((N.Zac v0.num).map (.int .u32)),.bool (N.Zaa (v0.den:Int)),.vec false 1 ((N.Zac (v0.den:Int)).map (.int .u32))],.agg [.bool (N.Zaa u1.num),.vec false 1 ((N.Zac u1.num).map (.int .u32)),.bool (N.Zaa (u1.den:Int)),.vec false 1 ((N.Zac (u1.den:Int)).map (.int .u32)),.bool (N.Zaa v1.num),.vec false 1 ((N.Zac v1.num).map (.int .u32)),.bool (N.Zaa (v1.den:Int)),.vec false 1 ((N.Zac (v1.den:Int)).map (.int .u32))],.agg [.bool (N.Zaa u0.num),.vec false 1 ((N.Zac u0.num).map (.int .u32)),.bool (N.Zaa (u0.den:Int)),.vec false 1 ((N.Zac (u0.den:Int)).map (.int .u32)),.bool (N.Zaa v1.num),.vec false 1 ((N.Zac v1.num).map (.int .u32)),.bool (N.Zaa (v1.den:Int)),.vec false 1 ((N.Zac (v1.den:Int)).map (.int .u32))]]),(62,.int .i64 4),(63,.int .i64 0)] [⟨[ratF m],4,0,false,false⟩,⟨[.agg [.bool (N.Zaa a1.num),.vec false 1 ((N.Zac a1.num).map (.int .u32)),.bool (N.Zaa (a1.den:Int)),.vec false 1 ((N.Zac (a1.den:Int)).map (.int .u32)),.bool (N.Zaa a2.num),.vec false 1 ((N.Zac a2.num).map (.int .u32)),.bool (N.Zaa (a2.den:Int)),.vec false 1 ((N.Zac (a2.den:Int)).map (.int .u32))]],8,0,false,false⟩,⟨[.agg [.bool (N.Zaa b1.num),.vec false 1 ((N.Zac b1.num).map (.int .u32)),.bool (N.Zaa (b1.den:Int)),.vec false 1 ((N.Zac (b1.den:Int)).map (.int .u32)),.bool (N.Zaa b2.num),.vec false 1 ((N.Zac b2.num).map (.int .u32)),.bool (N.Zaa (b2.den:Int)),.vec false 1 ((N.Zac (b2.den:Int)).map (.int .u32))]],8,0,false,false⟩]) Q
def qNe1_at (u0 v0 u1 v1 a1 a2 b1 b2 m:Rat) (Q:AV->Heap->Prop):Prop:=Wp M1 (.run fi46 (atC (cd Tryz.f46) [1,1,1,1,1,1,1,0,1,0,0]) [(9,.ptr 0 0 0 0),(10,.ptr 1 0 0 0),(11,.ptr 2 0 0 0),(12,.vec true 8 [.agg [.bool (N.Zaa u0.num),.vec false 1 ((N.Zac u0.num).map (.int .u32)),.bool (N.Zaa (u0.den:Int)),.vec false 1 ((N.Zac (u0.den:Int)).map (.int .u32)),.bool (N.Zaa v0.num),.vec false 1 ((N.Zac v0.num).map (.int .u32)),.bool (N.Zaa (v0.den:Int)),.vec false 1 ((N.Zac (v0.den:Int)).map (.int .u32))],.agg [.bool (N.Zaa u1.num),.vec false 1 ((N.Zac u1.num).map (.int .u32)),.bool (N.Zaa (u1.den:Int)),.vec false 1 ((N.Zac (u1.den:Int)).map (.int .u32)),.bool (N.Zaa v0.num),.vec false 1 ((N.Zac v0.num).map (.int .u32)),.bool (N.Zaa (v0.den:Int)),.vec false 1 ((N.Zac (v0.den:Int)).map (.int .u32))],.agg [.bool (N.Zaa u1.num),.vec false 1 ((N.Zac u1.num).map (.int .u32)),.bool (N.Zaa (u1.den:Int)),.vec false 1 ((N.Zac (u1.den:Int)).map (.int .u32)),.bool (N.Zaa v1.num),.vec false 1 ((N.Zac v1.num).map (.int .u32)),.bool (N.Zaa (v1.den:Int)),.vec false 1 ((N.Zac (v1.den:Int)).map (.int .u32))],.agg [.bool (N.Zaa u0.num),.vec false 1 ((N.Zac u0.num).map (.int .u32)),.bool (N.Zaa (u0.den:Int)),.vec false 1 ((N.Zac (u0.den:Int)).map (.int .u32)),.bool (N.Zaa v1.num),.vec false 1 ((N.Zac v1.num).map (.int .u32)),.bool (N.Zaa (v1.den:Int)),.vec false 1 ((N.Zac (v1.den:Int)).map (.int .u32))]]),(61,.vec true 8 [.agg [.bool (N.Zaa u0.num),.vec false 1 ((N.Zac u0.num).map (.int .u32)),.bool (N.Zaa (u0.den:Int)),.vec false 1 ((N.Zac (u0.den:Int)).map (.int .u32)),.bool (N.Zaa v0.num),.vec false 1 ((N.Zac v0.num).map (.int .u32)),.bool (N.Zaa (v0.den:Int)),.vec false 1 ((N.Zac (v0.den:Int)).map (.int .u32))],.agg [.bool (N.Zaa u1.num),.vec false 1 ((N.Zac u1.num).map (.int .u32)),.bool (N.Zaa (u1.den:Int)),.vec false 1 ((N.Zac (u1.den:Int)).map (.int .u32)),.bool (N.Zaa v0.num),.vec false 1 ((N.Zac v0.num).map (.int .u32)),.bool (N.Zaa (v0.den:Int)),.vec false 1 ((N.Zac (v0.den:Int)).map (.int .u32))],.agg [.bool (N.Zaa u1.num),.vec false 1 ((N.Zac u1.num).map (.int .u32)),.bool (N.Zaa (u1.den:Int)),.vec false 1 ((N.Zac (u1.den:Int)).map (.int .u32)),.bool (N.Zaa v1.num),.vec false 1 ((N.Zac v1.num).map (.int .u32)),.bool (N.Zaa (v1.den:Int)),.vec false 1 ((N.Zac (v1.den:Int)).map (.int .u32))],.agg [.bool (N.Zaa u0.num),.vec false 1 ((N.Zac u0.num).map (.int .u32)),.bool (N.Zaa (u0.den:Int)),.vec false 1 ((N.Zac (u0.den:Int)).map (.int .u32)),.bool (N.Zaa v1.num),.vec false 1 ((N.Zac v1.num).map (.int .u32)),.bool (N.Zaa (v1.den:Int)),.vec false 1 ((N.Zac (v1.den:Int)).map (.int .u32))]]),(62,.int .i64 4),(63,.int .i64 1)] [⟨[ratF m],4,0,false,false⟩,⟨[.agg [.bool (N.Zaa a1.num),.vec false 1 ((N.Zac a1.num).map (.int .u32)),.bool (N.Zaa (a1.den:Int)),.vec false 1 ((N.Zac (a1.den:Int)).map (.int .u32)),.bool (N.Zaa a2.num),.vec false 1 ((N.Zac a2.num).map (.int .u32)),.bool (N.Zaa (a2.den:Int)),.vec false 1 ((N.Zac (a2.den:Int)).map (.int .u32))]],8,0,false,false⟩,⟨[.agg [.bool (N.Zaa b1.num),.vec false 1 ((N.Zac b1.num).map (.int .u32)),.bool (N.Zaa (b1.den:Int)),.vec false 1 ((N.Zac (b1.den:Int)).map (.int .u32)),.bool (N.Zaa b2.num),.vec false 1 ((N.Zac b2.num).map (.int .u32)),.bool (N.Zaa (b2.den:Int)),.vec false 1 ((N.Zac (b2.den:Int)).map (.int .u32))]],8,0,false,false⟩]) Q
def qNe2_at (u0 v0 u1 v1 a1 a2 b1 b2 m:Rat) (Q:AV->Heap->Prop):Prop:=Wp M1 (.run fi46 (atC (cd Tryz.f46) [1,1,1,1,1,1,1,0,1,0,0]) [(9,.ptr 0 0 0 0),(10,.ptr 1 0 0 0),(11,.ptr 2 0 0 0),(12,.vec true 8 [.agg [.bool (N.Zaa u0.num),.vec false 1 ((N.Zac u0.num).map (.int .u32)),.bool (N.Zaa (u0.den:Int)),.vec false 1 ((N.Zac (u0.den:Int)).map (.int .u32)),.bool (N.Zaa v0.num),.vec false 1 ((N.Zac v0.num).map (.int .u32)),.bool (N.Zaa (v0.den:Int)),.vec false 1 ((N.Zac (v0.den:Int)).map (.int .u32))],.agg [.bool (N.Zaa u1.num),.vec false 1 ((N.Zac u1.num).map (.int .u32)),.bool (N.Zaa (u1.den:Int)),.vec false 1 ((N.Zac (u1.den:Int)).map (.int .u32)),.bool (N.Zaa v0.num),.vec false 1 ((N.Zac v0.num).map (.int .u32)),.bool (N.Zaa (v0.den:Int)),.vec false 1 ((N.Zac (v0.den:Int)).map (.int .u32))],.agg [.bool (N.Zaa u1.num),.vec false 1 ((N.Zac u1.num).map (.int .u32)),.bool (N.Zaa (u1.den:Int)),.vec false 1 ((N.Zac (u1.den:Int)).map (.int .u32)),.bool (N.Zaa v1.num),.vec false 1 ((N.Zac v1.num).map (.int .u32)),.bool (N.Zaa (v1.den:Int)),.vec false 1 ((N.Zac (v1.den:Int)).map (.int .u32))],.agg [.bool (N.Zaa u0.num),.vec false 1 ((N.Zac u0.num).map (.int .u32)),.bool (N.Zaa (u0.den:Int)),.vec false 1 ((N.Zac (u0.den:Int)).map (.int .u32)),.bool (N.Zaa v1.num),.vec false 1 ((N.Zac v1.num).map (.int .u32)),.bool (N.Zaa (v1.den:Int)),.vec false 1 ((N.Zac (v1.den:Int)).map (.int .u32))]]),(61,.vec true 8 [.agg [.bool (N.Zaa u0.num),.vec false 1 ((N.Zac u0.num).map (.int .u32)),.bool (N.Zaa (u0.den:Int)),.vec false 1 ((N.Zac (u0.den:Int)).map (.int .u32)),.bool (N.Zaa v0.num),.vec false 1 ((N.Zac v0.num).map (.int .u32)),.bool (N.Zaa (v0.den:Int)),.vec false 1 ((N.Zac (v0.den:Int)).map (.int .u32))],.agg [.bool (N.Zaa u1.num),.vec false 1 ((N.Zac u1.num).map (.int .u32)),.bool (N.Zaa (u1.den:Int)),.vec false 1 ((N.Zac (u1.den:Int)).map (.int .u32)),.bool (N.Zaa v0.num),.vec false 1 ((N.Zac v0.num).map (.int .u32)),.bool (N.Zaa (v0.den:Int)),.vec false 1 ((N.Zac (v0.den:Int)).map (.int .u32))],.agg [.bool (N.Zaa u1.num),.vec false 1 ((N.Zac u1.num).map (.int .u32)),.bool (N.Zaa (u1.den:Int)),.vec false 1 ((N.Zac (u1.den:Int)).map (.int .u32)),.bool (N.Zaa v1.num),.vec false 1 ((N.Zac v1.num).map (.int .u32)),.bool (N.Zaa (v1.den:Int)),.vec false 1 ((N.Zac (v1.den:Int)).map (.int .u32))],.agg [.bool (N.Zaa u0.num),.vec false 1 ((N.Zac u0.num).map (.int .u32)),.bool (N.Zaa (u0.den:Int)),.vec false 1 ((N.Zac (u0.den:Int)).map (.int .u32)),.bool (N.Zaa v1.num),.vec false 1 ((N.Zac v1.num).map (.int .u32)),.bool (N.Zaa (v1.den:Int)),.vec false 1 ((N.Zac (v1.den:Int)).map (.int .u32))]]),(62,.int .i64 4),(63,.int .i64 2)] [⟨[ratF m],4,0,false,false⟩,⟨[.agg [.bool (N.Zaa a1.num),.vec false 1 ((N.Zac a1.num).map (.int .u32)),.bool (N.Zaa (a1.den:Int)),.vec false 1 ((N.Zac (a1.den:Int)).map (.int .u32)),.bool (N.Zaa a2.num),.vec false 1 ((N.Zac a2.num).map (.int .u32)),.bool (N.Zaa (a2.den:Int)),.vec false 1 ((N.Zac (a2.den:Int)).map (.int .u32))]],8,0,false,false⟩,⟨[.agg [.bool (N.Zaa b1.num),.vec false 1 ((N.Zac b1.num).map (.int .u32)),.bool (N.Zaa (b1.den:Int)),.vec false 1 ((N.Zac (b1.den:Int)).map (.int .u32)),.bool (N.Zaa b2.num),.vec false 1 ((N.Zac b2.num).map (.int .u32)),.bool (N.Zaa (b2.den:Int)),.vec false 1 ((N.Zac (b2.den:Int)).map (.int .u32))]],8,0,false,false⟩]) Q
def qNe3_at (u0 v0 u1 v1 a1 a2 b1 b2 m:Rat) (Q:AV->Heap->Prop):Prop:=Wp M1 (.run fi46 (atC (cd Tryz.f46) [1,1,1,1,1,1,1,0,1,0,0]) [(9,.ptr 0 0 0 0),(10,.ptr 1 0 0 0),(11,.ptr 2 0 0 0),(12,.vec true 8 [.agg [.bool (N.Zaa u0.num),.vec false 1 ((N.Zac u0.num).map (.int .u32)),.bool (N.Zaa (u0.den:Int)),.vec false 1 ((N.Zac (u0.den:Int)).map (.int .u32)),.bool (N.Zaa v0.num),.vec false 1 ((N.Zac v0.num).map (.int .u32)),.bool (N.Zaa (v0.den:Int)),.vec false 1 ((N.Zac (v0.den:Int)).map (.int .u32))],.agg [.bool (N.Zaa u1.num),.vec false 1 ((N.Zac u1.num).map (.int .u32)),.bool (N.Zaa (u1.den:Int)),.vec false 1 ((N.Zac (u1.den:Int)).map (.int .u32)),.bool (N.Zaa v0.num),.vec false 1 ((N.Zac v0.num).map (.int .u32)),.bool (N.Zaa (v0.den:Int)),.vec false 1 ((N.Zac (v0.den:Int)).map (.int .u32))],.agg [.bool (N.Zaa u1.num),.vec false 1 ((N.Zac u1.num).map (.int .u32)),.bool (N.Zaa (u1.den:Int)),.vec false 1 ((N.Zac (u1.den:Int)).map (.int .u32)),.bool (N.Zaa v1.num),.vec false 1 ((N.Zac v1.num).map (.int .u32)),.bool (N.Zaa (v1.den:Int)),.vec false 1 ((N.Zac (v1.den:Int)).map (.int .u32))],.agg [.bool (N.Zaa u0.num),.vec false 1 ((N.Zac u0.num).map (.int .u32)),.bool (N.Zaa (u0.den:Int)),.vec false 1 ((N.Zac (u0.den:Int)).map (.int .u32)),.bool (N.Zaa v1.num),.vec false 1 ((N.Zac v1.num).map (.int .u32)),.bool (N.Zaa (v1.den:Int)),.vec false 1 ((N.Zac (v1.den:Int)).map (.int .u32))]]),(61,.vec true 8 [.agg [.bool (N.Zaa u0.num),.vec false 1 ((N.Zac u0.num).map (.int .u32)),.bool (N.Zaa (u0.den:Int)),.vec false 1 ((N.Zac (u0.den:Int)).map (.int .u32)),.bool (N.Zaa v0.num),.vec false 1 ((N.Zac v0.num).map (.int .u32)),.bool (N.Zaa (v0.den:Int)),.vec false 1 ((N.Zac (v0.den:Int)).map (.int .u32))],.agg [.bool (N.Zaa u1.num),.vec false 1 ((N.Zac u1.num).map (.int .u32)),.bool (N.Zaa (u1.den:Int)),.vec false 1 ((N.Zac (u1.den:Int)).map (.int .u32)),.bool (N.Zaa v0.num),.vec false 1 ((N.Zac v0.num).map (.int .u32)),.bool (N.Zaa (v0.den:Int)),.vec false 1 ((N.Zac (v0.den:Int)).map (.int .u32))],.agg [.bool (N.Zaa u1.num),.vec false 1 ((N.Zac u1.num).map (.int .u32)),.bool (N.Zaa (u1.den:Int)),.vec false 1 ((N.Zac (u1.den:Int)).map (.int .u32)),.bool (N.Zaa v1.num),.vec false 1 ((N.Zac v1.num).map (.int .u32)),.bool (N.Zaa (v1.den:Int)),.vec false 1 ((N.Zac (v1.den:Int)).map (.int .u32))],.agg [.bool (N.Zaa u0.num),.vec false 1 ((N.Zac u0.num).map (.int .u32)),.bool (N.Zaa (u0.den:Int)),.vec false 1 ((N.Zac (u0.den:Int)).map (.int .u32)),.bool (N.Zaa v1.num),.vec false 1 ((N.Zac v1.num).map (.int .u32)),.bool (N.Zaa (v1.den:Int)),.vec false 1 ((N.Zac (v1.den:Int)).map (.int .u32))]]),(62,.int .i64 4),(63,.int .i64 3)] [⟨[ratF m],4,0,false,false⟩,⟨[.agg [.bool (N.Zaa a1.num),.vec false 1 ((N.Zac a1.num).map (.int .u32)),.bool (N.Zaa (a1.den:Int)),.vec false 1 ((N.Zac (a1.den:Int)).map (.int .u32)),.bool (N.Zaa a2.num),.vec false 1 ((N.Zac a2.num).map (.int .u32)),.bool (N.Zaa (a2.den:Int)),.vec false 1 ((N.Zac (a2.den:Int)).map (.int .u32))]],8,0,false,false⟩,⟨[.agg [.bool (N.Zaa b1.num),.vec false 1 ((N.Zac b1.num).map (.int .u32)),.bool (N.Zaa (b1.den:Int)),.vec false 1 ((N.Zac (b1.den:Int)).map (.int .u32)),.bool (N.Zaa b2.num),.vec false 1 ((N.Zac b2.num).map (.int .u32)),.bool (N.Zaa (b2.den:Int)),.vec false 1 ((N.Zac (b2.den:Int)).map (.int .u32))]],8,0,false,false⟩]) Q
def qNe4_at (u0 v0 u1 v1 a1 a2 b1 b2 m:Rat) (Q:AV->Heap->Prop):Prop:=Wp M1 (.run fi46 (atC (cd Tryz.f46) [1,1,1,1,1,1,1,0,1,0,0]) [(9,.ptr 0 0 0 0),(10,.ptr 1 0 0 0),(11,.ptr 2 0 0 0),(12,.vec true 8 [.agg [.bool (N.Zaa u0.num),.vec false 1 ((N.Zac u0.num).map (.int .u32)),.bool (N.Zaa (u0.den:Int)),.vec false 1 ((N.Zac (u0.den:Int)).map (.int .u32)),.bool (N.Zaa v0.num),.vec false 1 ((N.Zac v0.num).map (.int .u32)),.bool (N.Zaa (v0.den:Int)),.vec false 1 ((N.Zac (v0.den:Int)).map (.int .u32))],.agg [.bool (N.Zaa u1.num),.vec false 1 ((N.Zac u1.num).map (.int .u32)),.bool (N.Zaa (u1.den:Int)),.vec false 1 ((N.Zac (u1.den:Int)).map (.int .u32)),.bool (N.Zaa v0.num),.vec false 1 ((N.Zac v0.num).map (.int .u32)),.bool (N.Zaa (v0.den:Int)),.vec false 1 ((N.Zac (v0.den:Int)).map (.int .u32))],.agg [.bool (N.Zaa u1.num),.vec false 1 ((N.Zac u1.num).map (.int .u32)),.bool (N.Zaa (u1.den:Int)),.vec false 1 ((N.Zac (u1.den:Int)).map (.int .u32)),.bool (N.Zaa v1.num),.vec false 1 ((N.Zac v1.num).map (.int .u32)),.bool (N.Zaa (v1.den:Int)),.vec false 1 ((N.Zac (v1.den:Int)).map (.int .u32))],.agg [.bool (N.Zaa u0.num),.vec false 1 ((N.Zac u0.num).map (.int .u32)),.bool (N.Zaa (u0.den:Int)),.vec false 1 ((N.Zac (u0.den:Int)).map (.int .u32)),.bool (N.Zaa v1.num),.vec false 1 ((N.Zac v1.num).map (.int .u32)),.bool (N.Zaa (v1.den:Int)),.vec false 1 ((N.Zac (v1.den:Int)).map (.int .u32))]]),(61,.vec true 8 [.agg [.bool (N.Zaa u0.num),.vec false 1 ((N.Zac u0.num).map (.int .u32)),.bool (N.Zaa (u0.den:Int)),.vec false 1 ((N.Zac (u0.den:Int)).map (.int .u32)),.bool (N.Zaa v0.num),.vec false 1 ((N.Zac v0.num).map (.int .u32)),.bool (N.Zaa (v0.den:Int)),.vec false 1 ((N.Zac (v0.den:Int)).map (.int .u32))],.agg [.bool (N.Zaa u1.num),.vec false 1 ((N.Zac u1.num).map (.int .u32)),.bool (N.Zaa (u1.den:Int)),.vec false 1 ((N.Zac (u1.den:Int)).map (.int .u32)),.bool (N.Zaa v0.num),.vec false 1 ((N.Zac v0.num).map (.int .u32)),.bool (N.Zaa (v0.den:Int)),.vec false 1 ((N.Zac (v0.den:Int)).map (.int .u32))],.agg [.bool (N.Zaa u1.num),.vec false 1 ((N.Zac u1.num).map (.int .u32)),.bool (N.Zaa (u1.den:Int)),.vec false 1 ((N.Zac (u1.den:Int)).map (.int .u32)),.bool (N.Zaa v1.num),.vec false 1 ((N.Zac v1.num).map (.int .u32)),.bool (N.Zaa (v1.den:Int)),.vec false 1 ((N.Zac (v1.den:Int)).map (.int .u32))],.agg [.bool (N.Zaa u0.num),.vec false 1 ((N.Zac u0.num).map (.int .u32)),.bool (N.Zaa (u0.den:Int)),.vec false 1 ((N.Zac (u0.den:Int)).map (.int .u32)),.bool (N.Zaa v1.num),.vec false 1 ((N.Zac v1.num).map (.int .u32)),.bool (N.Zaa (v1.den:Int)),.vec false 1 ((N.Zac (v1.den:Int)).map (.int .u32))]]),(62,.int .i64 4),(63,.int .i64 4)] [⟨[ratF m],4,0,false,false⟩,⟨[.agg [.bool (N.Zaa a1.num),.vec false 1 ((N.Zac a1.num).map (.int .u32)),.bool (N.Zaa (a1.den:Int)),.vec false 1 ((N.Zac (a1.den:Int)).map (.int .u32)),.bool (N.Zaa a2.num),.vec false 1 ((N.Zac a2.num).map (.int .u32)),.bool (N.Zaa (a2.den:Int)),.vec false 1 ((N.Zac (a2.den:Int)).map (.int .u32))]],8,0,false,false⟩,⟨[.agg [.bool (N.Zaa b1.num),.vec false 1 ((N.Zac b1.num).map (.int .u32)),.bool (N.Zaa (b1.den:Int)),.vec false 1 ((N.Zac (b1.den:Int)).map (.int .u32)),.bool (N.Zaa b2.num),.vec false 1 ((N.Zac b2.num).map (.int .u32)),.bool (N.Zaa (b2.den:Int)),.vec false 1 ((N.Zac (b2.den:Int)).map (.int .u32))]],8,0,false,false⟩]) Q
theorem call46 {args:List AV} {d:AV} (h:wc M1 fi46 Tryz.f46 args d):Ev M1 (.pure 46 args) d []:=pcl _ _ (by kernel_rfl) h
noncomputable abbrev zNqO1 (bx:Int) (by_:Int):=ag [vb (N.Zaa (N.qi bx).num),vf (us (N.Zac (N.qi bx).num)),vb (N.Zaa (↑(N.qi bx).den:Int)),vf (us (N.Zac (↑(N.qi bx).den:Int))),vb (N.Zaa (N.qi by_).num),vf (us (N.Zac (N.qi by_).num)),vb (N.Zaa (↑(N.qi by_).den:Int)),vf (us (N.Zac (↑(N.qi by_).den:Int)))]
noncomputable abbrev zNqO2 (ax:Int) (ay:Int):=ag [vb (N.Zaa (N.qi ax).num),vf (us (N.Zac (N.qi ax).num)),vb (N.Zaa (↑(N.qi ax).den:Int)),vf (us (N.Zac (↑(N.qi ax).den:Int))),vb (N.Zaa (N.qi ay).num),vf (us (N.Zac (N.qi ay).num)),vb (N.Zaa (↑(N.qi ay).den:Int)),vf (us (N.Zac (↑(N.qi ay).den:Int)))]
noncomputable abbrev zNqO3 (x0:Int) (y0:Int):=ag [vb (N.Zaa (N.qi x0).num),vf (us (N.Zac (N.qi x0).num)),vb (N.Zaa (↑(N.qi x0).den:Int)),vf (us (N.Zac (↑(N.qi x0).den:Int))),vb (N.Zaa (N.qi y0).num),vf (us (N.Zac (N.qi y0).num)),vb (N.Zaa (↑(N.qi y0).den:Int)),vf (us (N.Zac (↑(N.qi y0).den:Int)))]
noncomputable abbrev zNqO4 (x1:Int) (y0:Int):=ag [vb (N.Zaa (N.qi x1).num),vf (us (N.Zac (N.qi x1).num)),vb (N.Zaa (↑(N.qi x1).den:Int)),vf (us (N.Zac (↑(N.qi x1).den:Int))),vb (N.Zaa (N.qi y0).num),vf (us (N.Zac (N.qi y0).num)),vb (N.Zaa (↑(N.qi y0).den:Int)),vf (us (N.Zac (↑(N.qi y0).den:Int)))]
noncomputable abbrev zNqO5 (x1:Int) (y1:Int):=ag [vb (N.Zaa (N.qi x1).num),vf (us (N.Zac (N.qi x1).num)),vb (N.Zaa (↑(N.qi x1).den:Int)),vf (us (N.Zac (↑(N.qi x1).den:Int))),vb (N.Zaa (N.qi y1).num),vf (us (N.Zac (N.qi y1).num)),vb (N.Zaa (↑(N.qi y1).den:Int)),vf (us (N.Zac (↑(N.qi y1).den:Int)))]
noncomputable abbrev zNqO6 (x0:Int) (y1:Int):=ag [vb (N.Zaa (N.qi x0).num),vf (us (N.Zac (N.qi x0).num)),vb (N.Zaa (↑(N.qi x0).den:Int)),vf (us (N.Zac (↑(N.qi x0).den:Int))),vb (N.Zaa (N.qi y1).num),vf (us (N.Zac (N.qi y1).num)),vb (N.Zaa (↑(N.qi y1).den:Int)),vf (us (N.Zac (↑(N.qi y1).den:Int)))]
noncomputable abbrev zNqO7 (x0:Int) (y0:Int) (x1:Int) (y1:Int) (tp:Int):=ag [vi x0,vi y0,vi x1,vi y1,vi tp]
noncomputable abbrev zNqO8 (bx:Int) (by_:Int):=ag [vi bx,vi by_]
noncomputable abbrev zNqO9 (ax:Int) (ay:Int):=ag [vi ax,vi ay]
theorem qNe (x0 y0 x1 y1 tp ax ay bx by_ r:Int)  (dq:AV) (H :
  ((r<=0)->vb false=dq) /\
  (¬(r<=0)->(((N.hld x0 y0 x1 y1 ax ay)\/(N.hld x0 y0 x1 y1 bx by_))->vb true=dq) /\
   (¬((N.hld x0 y0 x1 y1 ax ay)\/(N.hld x0 y0 x1 y1 bx by_))->(N.inI r) /\
    (N.okR (N.qi r)/\N.okR (N.qi r)) /\
    (N.Zga ax ay) /\
    (N.Zga bx by_) /\
    (N.Zga x0 y0) /\
    (N.Zga x1 y0) /\
    (N.Zga x1 y1) /\
    (N.Zga x0 y1) /\
    qNe0_at (N.qi x0) (N.qi y0) (N.qi x1) (N.qi y1) (N.qi ax) (N.qi ay) (N.qi bx) (N.qi by_) (N.qi r*N.qi r) (Zaf dq)))) :
 qNe_at x0 y0 x1 y1 tp ax ay bx by_ r (Zaf dq):=by
 unfold qNe_at
 rcases xq H with ⟨d2,H⟩|⟨d2,H⟩
 ·exact Zaq (G:=Zae kp46 [] []) 1000 [true] (vb false) (by kernel_rfl) (bc (Zan (Zab.2 d2)) b0) q0 c0 H
 ·refine Zad (G:=Zae kp46 [(3,2,.call (vb (decide (N.hld x0 y0 x1 y1 ax ay))) none),(3,6,.call (vb (decide (N.hld x0 y0 x1 y1 bx by_))) none)] []) 10 [false] ⟨(atC (cd Tryz.f46) [1,1,0,1]),[(3,vi r),(4,AV.ptr 0 0 0 0),(5,AV.ptr 1 0 0 0),(6,AV.ptr 2 0 0 0),(24,vb (bif decide (N.hld x0 y0 x1 y1 ax ay) then true else decide (N.hld x0 y0 x1 y1 bx by_)))],[⟨[(zNqO7 x0 y0 x1 y1 tp)],5,0,false,false⟩,⟨[(zNqO9 ax ay)],2,0,false,false⟩,⟨[(zNqO8 bx by_)],2,0,false,false⟩],[(decide (r<=0))==false,true,true,!(decide (N.hld x0 y0 x1 y1 ax ay)==false&&true)||true,!(decide (N.hld x0 y0 x1 y1 ax ay)==false&&true)||true],[],[⟨true,false,58,[(zNqO7 x0 y0 x1 y1 tp),(zNqO9 ax ay)],[],vb (decide (N.hld x0 y0 x1 y1 ax ay)),[]⟩,⟨decide (N.hld x0 y0 x1 y1 ax ay)==false&&true&&true,false,58,[(zNqO7 x0 y0 x1 y1 tp),(zNqO8 bx by_)],[],vb (decide (N.hld x0 y0 x1 y1 bx by_)),[]⟩]⟩ (by kernel_rfl) (bc (Zam (fun h=>d2 (Zab.1 h))) (bc rfl (bc rfl (bc (Bool.or_true _) (bc (Bool.or_true _) b0))))) q0 (cc (fun _=>(@ev58 x0 y0 x1 y1 tp ax ay)) (cc (fun hc=>((@ev58 x0 y0 x1 y1 tp bx by_):Ev M1 (Conf.pure 58 [(zNqO7 x0 y0 x1 y1 tp),(zNqO8 bx by_)]) (vb (decide (N.hld x0 y0 x1 y1 bx by_))) [])) c0)) ?_
  rcases xq H with ⟨d5,H⟩|⟨d5,H⟩
  ·exact Zaq (G:=Zae kp46 [] []) 1000 [true] (vb true) (by kernel_rfl) (bc (Zan ((Zdf Zab Zab).2 d5)) b0) q0 c0 H
  ·obtain ⟨k6,k7,k8,k9,H⟩:=H
   refine Zad (G:=Zae kp46 [(5,1,.call (ratF (N.qi r)) none),(6,2,.call (ratF (N.qi r*N.qi r)) none),(7,4,.call ((zNqO2 ax ay)) none),(7,9,.call ((zNqO1 bx by_)) none)] []) 7 [false] ⟨(atC (cd Tryz.f46) [1,1,1,1,1,0]),[(4,AV.ptr 0 0 0 0),(5,AV.ptr 1 0 0 0),(6,AV.ptr 2 0 0 0),(9,AV.ptr 3 0 0 0)],[⟨[(zNqO7 x0 y0 x1 y1 tp)],5,0,false,false⟩,⟨[(zNqO9 ax ay)],2,0,false,false⟩,⟨[(zNqO8 bx by_)],2,0,false,false⟩,⟨[ratF (N.qi r*N.qi r)],4,0,false,false⟩],_,[],_⟩ (by kernel_rfl) (bc (Zam (fun h=>d5 ((Zdf Zab Zab).1 h))) (bc rfl (bc rfl (bc rfl (bc rfl b0))))) q0 (ce (@ev59 r k6) (ce (@ev60 false false false false (N.qi r) (N.qi r) k7) c0)) (ZcN (G:=Zae kp46 [(5,1,.call (ratF (N.qi r)) none),(6,2,.call (ratF (N.qi r*N.qi r)) none),(7,4,.call ((zNqO2 ax ay)) none),(7,9,.call ((zNqO1 bx by_)) none)] []) [0,1,2,3,5,4] 10 (e1:=[(4,AV.ptr 0 0 0 0),(9,AV.ptr 3 0 0 0),(10,AV.ptr 4 0 0 0),(11,AV.ptr 5 0 0 0)]) (L1:=[⟨[(zNqO7 x0 y0 x1 y1 tp)],5,0,false,false⟩,⟨[(zNqO9 ax ay)],2,0,false,false⟩,⟨[(zNqO8 bx by_)],2,0,false,false⟩,⟨[ratF (N.qi r*N.qi r)],4,0,false,false⟩,⟨[(zNqO2 ax ay)],8,0,false,false⟩,⟨[(zNqO1 bx by_)],8,0,false,false⟩]) (a:=[true,true,true,true,true,true]) (q:=[]) (cs:=[⟨true,false,61,[vi ax,vi ay],[],(zNqO2 ax ay),[]⟩,⟨true,false,61,[vi bx,vi by_],[],(zNqO1 bx by_),[]⟩]) (by kernel_rfl) (by kernel_rfl) (Zag rfl (Zag rfl (Zag rfl (Zag rfl (Zag rfl (Zag rfl ZaB)))))) ZaV (ZaJ (fun _=>(@ev61 ax ay k8)) (ZaJ (fun _=>(@ev61 bx by_ k9)) ZaW)) ?_)
   obtain ⟨k10,k11,k12,k13,H⟩:=H
   exact Zad (G:=Zae kp46 [(8,4,.call ((zNqO3 x0 y0)) none),(8,9,.call ((zNqO4 x1 y0)) none),(8,14,.call ((zNqO5 x1 y1)) none),(8,19,.call ((zNqO6 x0 y1)) none)] []) 1000 [] ⟨(atC (cd Tryz.f46) [1,1,1,1,1,1,1,0,1,0,0]),[(9,AV.ptr 3 0 0 0),(10,AV.ptr 4 0 0 0),(11,AV.ptr 5 0 0 0),(12,AV.vec true 8 [(zNqO3 x0 y0),(zNqO4 x1 y0),(zNqO5 x1 y1),(zNqO6 x0 y1)]),(61,AV.vec true 8 [(zNqO3 x0 y0),(zNqO4 x1 y0),(zNqO5 x1 y1),(zNqO6 x0 y1)]),(62,vi 4),(63,vi 0)],[⟨[(zNqO7 x0 y0 x1 y1 tp)],5,0,false,false⟩,⟨[(zNqO9 ax ay)],2,0,false,false⟩,⟨[(zNqO8 bx by_)],2,0,false,false⟩,⟨[ratF (N.qi r*N.qi r)],4,0,false,false⟩,⟨[(zNqO2 ax ay)],8,0,false,false⟩,⟨[(zNqO1 bx by_)],8,0,false,false⟩],_,[],_⟩ (by kernel_rfl) (bc rfl (bc rfl (bc rfl (bc rfl (bc rfl (bc rfl (bc rfl (bc rfl b0)))))))) q0 (ce (@ev61 x0 y0 k10) (ce (@ev61 x1 y0 k11) (ce (@ev61 x1 y1 k12) (ce (@ev61 x0 y1 k13) c0)))) (Zas [3,4,5] (by kernel_rfl) H)
noncomputable abbrev ZgL (u0:Rat) (v0:Rat):=ag [vb (N.Zaa u0.num),vf (us (N.Zac u0.num)),vb (N.Zaa (↑u0.den:Int)),vf (us (N.Zac (↑u0.den:Int))),vb (N.Zaa v0.num),vf (us (N.Zac v0.num)),vb (N.Zaa (↑v0.den:Int)),vf (us (N.Zac (↑v0.den:Int)))]
noncomputable abbrev zNqO11 (u1:Rat) (v0:Rat):=ag [vb (N.Zaa u1.num),vf (us (N.Zac u1.num)),vb (N.Zaa (↑u1.den:Int)),vf (us (N.Zac (↑u1.den:Int))),vb (N.Zaa v0.num),vf (us (N.Zac v0.num)),vb (N.Zaa (↑v0.den:Int)),vf (us (N.Zac (↑v0.den:Int)))]
noncomputable abbrev zNqO12 (u1:Rat) (v1:Rat):=ag [vb (N.Zaa u1.num),vf (us (N.Zac u1.num)),vb (N.Zaa (↑u1.den:Int)),vf (us (N.Zac (↑u1.den:Int))),vb (N.Zaa v1.num),vf (us (N.Zac v1.num)),vb (N.Zaa (↑v1.den:Int)),vf (us (N.Zac (↑v1.den:Int)))]
noncomputable abbrev zNqO13 (u0:Rat) (v1:Rat):=ag [vb (N.Zaa u0.num),vf (us (N.Zac u0.num)),vb (N.Zaa (↑u0.den:Int)),vf (us (N.Zac (↑u0.den:Int))),vb (N.Zaa v1.num),vf (us (N.Zac v1.num)),vb (N.Zaa (↑v1.den:Int)),vf (us (N.Zac (↑v1.den:Int)))]
noncomputable abbrev zNqO14 (a1:Rat) (a2:Rat):=ag [vb (N.Zaa a1.num),vf (us (N.Zac a1.num)),vb (N.Zaa (↑a1.den:Int)),vf (us (N.Zac (↑a1.den:Int))),vb (N.Zaa a2.num),vf (us (N.Zac a2.num)),vb (N.Zaa (↑a2.den:Int)),vf (us (N.Zac (↑a2.den:Int)))]
noncomputable abbrev zNqO15 (b1:Rat) (b2:Rat):=ag [vb (N.Zaa b1.num),vf (us (N.Zac b1.num)),vb (N.Zaa (↑b1.den:Int)),vf (us (N.Zac (↑b1.den:Int))),vb (N.Zaa b2.num),vf (us (N.Zac b2.num)),vb (N.Zaa (↑b2.den:Int)),vf (us (N.Zac (↑b2.den:Int)))]
theorem qNe0 (u0 v0 u1 v1 a1 a2 b1 b2 m:Rat)  (dq:AV) (H :
  (N.ZfZ a1 a2 b1 b2 u0 v0 u1 v0) /\
  (N.okR (N.seg a1 a2 b1 b2 u0 v0 u1 v0)/\N.okR m) /\
  ((N.sgnI ((N.seg a1 a2 b1 b2 u0 v0 u1 v0).num*(↑m.den:Int)-m.num*(↑(N.seg a1 a2 b1 b2 u0 v0 u1 v0).den:Int))<0)->vb true=dq) /\
  (¬(N.sgnI ((N.seg a1 a2 b1 b2 u0 v0 u1 v0).num*(↑m.den:Int)-m.num*(↑(N.seg a1 a2 b1 b2 u0 v0 u1 v0).den:Int))<0)->qNe1_at u0 v0 u1 v1 a1 a2 b1 b2 m (Zaf dq))) :
 qNe0_at u0 v0 u1 v1 a1 a2 b1 b2 m (Zaf dq):=by
 unfold qNe0_at
 obtain ⟨k1,k2,H⟩:=H
 refine Zad (G:=Zae kp46 [(12,9,.call (ratF (N.seg a1 a2 b1 b2 u0 v0 u1 v0)) none),(12,11,.call (vi (N.sgnI ((N.seg a1 a2 b1 b2 u0 v0 u1 v0).num*(↑m.den:Int)-m.num*(↑(N.seg a1 a2 b1 b2 u0 v0 u1 v0).den:Int)))) none)] []) 11 [true] ⟨(atC (cd Tryz.f46) [1,1,1,1,1,1,1,0,1,0,0,1,1,0,0,1,1]),[(9,AV.ptr 0 0 0 0),(10,AV.ptr 1 0 0 0),(11,AV.ptr 2 0 0 0),(12,AV.vec true 8 [(ZgL u0 v0),(zNqO11 u1 v0),(zNqO12 u1 v1),(zNqO13 u0 v1)]),(61,AV.vec true 8 [(ZgL u0 v0),(zNqO11 u1 v0),(zNqO12 u1 v1),(zNqO13 u0 v1)]),(62,vi 4),(63,vi 0),(80,vb (decide (N.sgnI ((N.seg a1 a2 b1 b2 u0 v0 u1 v0).num*(↑m.den:Int)-m.num*(↑(N.seg a1 a2 b1 b2 u0 v0 u1 v0).den:Int))<0)))],[⟨[ratF m],4,0,false,false⟩,⟨[(zNqO14 a1 a2)],8,0,false,false⟩,⟨[(zNqO15 b1 b2)],8,0,false,false⟩,⟨[(ZgL u0 v0)],8,0,false,false⟩],_,[],_⟩ (by kernel_rfl) (bc rfl (bc rfl (bc rfl (bc rfl (bc rfl (bc rfl (bc rfl (bc rfl (bc rfl (bc rfl (bc rfl b0))))))))))) q0 (ce (@ev63 false false false false false false false false false false false false false false false false a1 a2 b1 b2 u0 v0 u1 v0 k1) (ce (@ev62 false false false false (N.seg a1 a2 b1 b2 u0 v0 u1 v0) m k2) c0)) ?_
 rcases xq H with ⟨d4,H⟩|⟨d4,H⟩
 ·exact Zaq (G:=Zae kp46 [] []) 1000 [true] (vb true) (by kernel_rfl) (bc (Zan (Zab.2 d4)) b0) q0 c0 H
 ·exact Zad (G:=Zae kp46 [] []) 1000 [false] ⟨(atC (cd Tryz.f46) [1,1,1,1,1,1,1,0,1,0,0]),[(9,AV.ptr 0 0 0 0),(10,AV.ptr 1 0 0 0),(11,AV.ptr 2 0 0 0),(12,AV.vec true 8 [(ZgL u0 v0),(zNqO11 u1 v0),(zNqO12 u1 v1),(zNqO13 u0 v1)]),(61,AV.vec true 8 [(ZgL u0 v0),(zNqO11 u1 v0),(zNqO12 u1 v1),(zNqO13 u0 v1)]),(62,vi 4),(63,vi 1)],[⟨[ratF m],4,0,false,false⟩,⟨[(zNqO14 a1 a2)],8,0,false,false⟩,⟨[(zNqO15 b1 b2)],8,0,false,false⟩,⟨[(ZgL u0 v0)],8,0,false,false⟩],_,[],_⟩ (by kernel_rfl) (bc (Zam (fun h=>d4 (Zab.1 h))) b0) q0 c0 (Zas [0,1,2] (by kernel_rfl) H)
noncomputable abbrev ZgK (u1:Rat) (v0:Rat):=ag [vb (N.Zaa u1.num),vf (us (N.Zac u1.num)),vb (N.Zaa (↑u1.den:Int)),vf (us (N.Zac (↑u1.den:Int))),vb (N.Zaa v0.num),vf (us (N.Zac v0.num)),vb (N.Zaa (↑v0.den:Int)),vf (us (N.Zac (↑v0.den:Int)))]
noncomputable abbrev zNqO17 (u0:Rat) (v0:Rat):=ag [vb (N.Zaa u0.num),vf (us (N.Zac u0.num)),vb (N.Zaa (↑u0.den:Int)),vf (us (N.Zac (↑u0.den:Int))),vb (N.Zaa v0.num),vf (us (N.Zac v0.num)),vb (N.Zaa (↑v0.den:Int)),vf (us (N.Zac (↑v0.den:Int)))]
noncomputable abbrev zNqO18 (u1:Rat) (v1:Rat):=ag [vb (N.Zaa u1.num),vf (us (N.Zac u1.num)),vb (N.Zaa (↑u1.den:Int)),vf (us (N.Zac (↑u1.den:Int))),vb (N.Zaa v1.num),vf (us (N.Zac v1.num)),vb (N.Zaa (↑v1.den:Int)),vf (us (N.Zac (↑v1.den:Int)))]
noncomputable abbrev zNqO19 (u0:Rat) (v1:Rat):=ag [vb (N.Zaa u0.num),vf (us (N.Zac u0.num)),vb (N.Zaa (↑u0.den:Int)),vf (us (N.Zac (↑u0.den:Int))),vb (N.Zaa v1.num),vf (us (N.Zac v1.num)),vb (N.Zaa (↑v1.den:Int)),vf (us (N.Zac (↑v1.den:Int)))]
noncomputable abbrev zNqO20 (a1:Rat) (a2:Rat):=ag [vb (N.Zaa a1.num),vf (us (N.Zac a1.num)),vb (N.Zaa (↑a1.den:Int)),vf (us (N.Zac (↑a1.den:Int))),vb (N.Zaa a2.num),vf (us (N.Zac a2.num)),vb (N.Zaa (↑a2.den:Int)),vf (us (N.Zac (↑a2.den:Int)))]
noncomputable abbrev zNqO21 (b1:Rat) (b2:Rat):=ag [vb (N.Zaa b1.num),vf (us (N.Zac b1.num)),vb (N.Zaa (↑b1.den:Int)),vf (us (N.Zac (↑b1.den:Int))),vb (N.Zaa b2.num),vf (us (N.Zac b2.num)),vb (N.Zaa (↑b2.den:Int)),vf (us (N.Zac (↑b2.den:Int)))]
theorem qNe1 (u0 v0 u1 v1 a1 a2 b1 b2 m:Rat)  (dq:AV) (H :
  (N.ZfZ a1 a2 b1 b2 u1 v0 u1 v1) /\
  (N.okR (N.seg a1 a2 b1 b2 u1 v0 u1 v1)/\N.okR m) /\
  ((N.sgnI ((N.seg a1 a2 b1 b2 u1 v0 u1 v1).num*(↑m.den:Int)-m.num*(↑(N.seg a1 a2 b1 b2 u1 v0 u1 v1).den:Int))<0)->vb true=dq) /\
  (¬(N.sgnI ((N.seg a1 a2 b1 b2 u1 v0 u1 v1).num*(↑m.den:Int)-m.num*(↑(N.seg a1 a2 b1 b2 u1 v0 u1 v1).den:Int))<0)->qNe2_at u0 v0 u1 v1 a1 a2 b1 b2 m (Zaf dq))) :
 qNe1_at u0 v0 u1 v1 a1 a2 b1 b2 m (Zaf dq):=by
 unfold qNe1_at
 obtain ⟨k1,k2,H⟩:=H
 refine Zad (G:=Zae kp46 [(12,9,.call (ratF (N.seg a1 a2 b1 b2 u1 v0 u1 v1)) none),(12,11,.call (vi (N.sgnI ((N.seg a1 a2 b1 b2 u1 v0 u1 v1).num*(↑m.den:Int)-m.num*(↑(N.seg a1 a2 b1 b2 u1 v0 u1 v1).den:Int)))) none)] []) 11 [true] ⟨(atC (cd Tryz.f46) [1,1,1,1,1,1,1,0,1,0,0,1,1,0,0,1,1]),[(9,AV.ptr 0 0 0 0),(10,AV.ptr 1 0 0 0),(11,AV.ptr 2 0 0 0),(12,AV.vec true 8 [(zNqO17 u0 v0),(ZgK u1 v0),(zNqO18 u1 v1),(zNqO19 u0 v1)]),(61,AV.vec true 8 [(zNqO17 u0 v0),(ZgK u1 v0),(zNqO18 u1 v1),(zNqO19 u0 v1)]),(62,vi 4),(63,vi 1),(80,vb (decide (N.sgnI ((N.seg a1 a2 b1 b2 u1 v0 u1 v1).num*(↑m.den:Int)-m.num*(↑(N.seg a1 a2 b1 b2 u1 v0 u1 v1).den:Int))<0)))],[⟨[ratF m],4,0,false,false⟩,⟨[(zNqO20 a1 a2)],8,0,false,false⟩,⟨[(zNqO21 b1 b2)],8,0,false,false⟩,⟨[(ZgK u1 v0)],8,0,false,false⟩],_,[],_⟩ (by kernel_rfl) (bc rfl (bc rfl (bc rfl (bc rfl (bc rfl (bc rfl (bc rfl (bc rfl (bc rfl (bc rfl (bc rfl b0))))))))))) q0 (ce (@ev63 false false false false false false false false false false false false false false false false a1 a2 b1 b2 u1 v0 u1 v1 k1) (ce (@ev62 false false false false (N.seg a1 a2 b1 b2 u1 v0 u1 v1) m k2) c0)) ?_
 rcases xq H with ⟨d4,H⟩|⟨d4,H⟩
 ·exact Zaq (G:=Zae kp46 [] []) 1000 [true] (vb true) (by kernel_rfl) (bc (Zan (Zab.2 d4)) b0) q0 c0 H
 ·exact Zad (G:=Zae kp46 [] []) 1000 [false] ⟨(atC (cd Tryz.f46) [1,1,1,1,1,1,1,0,1,0,0]),[(9,AV.ptr 0 0 0 0),(10,AV.ptr 1 0 0 0),(11,AV.ptr 2 0 0 0),(12,AV.vec true 8 [(zNqO17 u0 v0),(ZgK u1 v0),(zNqO18 u1 v1),(zNqO19 u0 v1)]),(61,AV.vec true 8 [(zNqO17 u0 v0),(ZgK u1 v0),(zNqO18 u1 v1),(zNqO19 u0 v1)]),(62,vi 4),(63,vi 2)],[⟨[ratF m],4,0,false,false⟩,⟨[(zNqO20 a1 a2)],8,0,false,false⟩,⟨[(zNqO21 b1 b2)],8,0,false,false⟩,⟨[(ZgK u1 v0)],8,0,false,false⟩],_,[],_⟩ (by kernel_rfl) (bc (Zam (fun h=>d4 (Zab.1 h))) b0) q0 c0 (Zas [0,1,2] (by kernel_rfl) H)
noncomputable abbrev ZgJ (u1:Rat) (v1:Rat):=ag [vb (N.Zaa u1.num),vf (us (N.Zac u1.num)),vb (N.Zaa (↑u1.den:Int)),vf (us (N.Zac (↑u1.den:Int))),vb (N.Zaa v1.num),vf (us (N.Zac v1.num)),vb (N.Zaa (↑v1.den:Int)),vf (us (N.Zac (↑v1.den:Int)))]
noncomputable abbrev zNqO23 (u0:Rat) (v0:Rat):=ag [vb (N.Zaa u0.num),vf (us (N.Zac u0.num)),vb (N.Zaa (↑u0.den:Int)),vf (us (N.Zac (↑u0.den:Int))),vb (N.Zaa v0.num),vf (us (N.Zac v0.num)),vb (N.Zaa (↑v0.den:Int)),vf (us (N.Zac (↑v0.den:Int)))]
noncomputable abbrev zNqO24 (u1:Rat) (v0:Rat):=ag [vb (N.Zaa u1.num),vf (us (N.Zac u1.num)),vb (N.Zaa (↑u1.den:Int)),vf (us (N.Zac (↑u1.den:Int))),vb (N.Zaa v0.num),vf (us (N.Zac v0.num)),vb (N.Zaa (↑v0.den:Int)),vf (us (N.Zac (↑v0.den:Int)))]
noncomputable abbrev zNqO25 (u0:Rat) (v1:Rat):=ag [vb (N.Zaa u0.num),vf (us (N.Zac u0.num)),vb (N.Zaa (↑u0.den:Int)),vf (us (N.Zac (↑u0.den:Int))),vb (N.Zaa v1.num),vf (us (N.Zac v1.num)),vb (N.Zaa (↑v1.den:Int)),vf (us (N.Zac (↑v1.den:Int)))]
noncomputable abbrev zNqO26 (a1:Rat) (a2:Rat):=ag [vb (N.Zaa a1.num),vf (us (N.Zac a1.num)),vb (N.Zaa (↑a1.den:Int)),vf (us (N.Zac (↑a1.den:Int))),vb (N.Zaa a2.num),vf (us (N.Zac a2.num)),vb (N.Zaa (↑a2.den:Int)),vf (us (N.Zac (↑a2.den:Int)))]
noncomputable abbrev zNqO27 (b1:Rat) (b2:Rat):=ag [vb (N.Zaa b1.num),vf (us (N.Zac b1.num)),vb (N.Zaa (↑b1.den:Int)),vf (us (N.Zac (↑b1.den:Int))),vb (N.Zaa b2.num),vf (us (N.Zac b2.num)),vb (N.Zaa (↑b2.den:Int)),vf (us (N.Zac (↑b2.den:Int)))]
theorem qNe2 (u0 v0 u1 v1 a1 a2 b1 b2 m:Rat)  (dq:AV) (H :
  (N.ZfZ a1 a2 b1 b2 u1 v1 u0 v1) /\
  (N.okR (N.seg a1 a2 b1 b2 u1 v1 u0 v1)/\N.okR m) /\
  ((N.sgnI ((N.seg a1 a2 b1 b2 u1 v1 u0 v1).num*(↑m.den:Int)-m.num*(↑(N.seg a1 a2 b1 b2 u1 v1 u0 v1).den:Int))<0)->vb true=dq) /\
  (¬(N.sgnI ((N.seg a1 a2 b1 b2 u1 v1 u0 v1).num*(↑m.den:Int)-m.num*(↑(N.seg a1 a2 b1 b2 u1 v1 u0 v1).den:Int))<0)->qNe3_at u0 v0 u1 v1 a1 a2 b1 b2 m (Zaf dq))) :
 qNe2_at u0 v0 u1 v1 a1 a2 b1 b2 m (Zaf dq):=by
 unfold qNe2_at
 obtain ⟨k1,k2,H⟩:=H
 refine Zad (G:=Zae kp46 [(12,9,.call (ratF (N.seg a1 a2 b1 b2 u1 v1 u0 v1)) none),(12,11,.call (vi (N.sgnI ((N.seg a1 a2 b1 b2 u1 v1 u0 v1).num*(↑m.den:Int)-m.num*(↑(N.seg a1 a2 b1 b2 u1 v1 u0 v1).den:Int)))) none)] []) 11 [true] ⟨(atC (cd Tryz.f46) [1,1,1,1,1,1,1,0,1,0,0,1,1,0,0,1,1]),[(9,AV.ptr 0 0 0 0),(10,AV.ptr 1 0 0 0),(11,AV.ptr 2 0 0 0),(12,AV.vec true 8 [(zNqO23 u0 v0),(zNqO24 u1 v0),(ZgJ u1 v1),(zNqO25 u0 v1)]),(61,AV.vec true 8 [(zNqO23 u0 v0),(zNqO24 u1 v0),(ZgJ u1 v1),(zNqO25 u0 v1)]),(62,vi 4),(63,vi 2),(80,vb (decide (N.sgnI ((N.seg a1 a2 b1 b2 u1 v1 u0 v1).num*(↑m.den:Int)-m.num*(↑(N.seg a1 a2 b1 b2 u1 v1 u0 v1).den:Int))<0)))],[⟨[ratF m],4,0,false,false⟩,⟨[(zNqO26 a1 a2)],8,0,false,false⟩,⟨[(zNqO27 b1 b2)],8,0,false,false⟩,⟨[(ZgJ u1 v1)],8,0,false,false⟩],_,[],_⟩ (by kernel_rfl) (bc rfl (bc rfl (bc rfl (bc rfl (bc rfl (bc rfl (bc rfl (bc rfl (bc rfl (bc rfl (bc rfl b0))))))))))) q0 (ce (@ev63 false false false false false false false false false false false false false false false false a1 a2 b1 b2 u1 v1 u0 v1 k1) (ce (@ev62 false false false false (N.seg a1 a2 b1 b2 u1 v1 u0 v1) m k2) c0)) ?_
 rcases xq H with ⟨d4,H⟩|⟨d4,H⟩
 ·exact Zaq (G:=Zae kp46 [] []) 1000 [true] (vb true) (by kernel_rfl) (bc (Zan (Zab.2 d4)) b0) q0 c0 H
 ·exact Zad (G:=Zae kp46 [] []) 1000 [false] ⟨(atC (cd Tryz.f46) [1,1,1,1,1,1,1,0,1,0,0]),[(9,AV.ptr 0 0 0 0),(10,AV.ptr 1 0 0 0),(11,AV.ptr 2 0 0 0),(12,AV.vec true 8 [(zNqO23 u0 v0),(zNqO24 u1 v0),(ZgJ u1 v1),(zNqO25 u0 v1)]),(61,AV.vec true 8 [(zNqO23 u0 v0),(zNqO24 u1 v0),(ZgJ u1 v1),(zNqO25 u0 v1)]),(62,vi 4),(63,vi 3)],[⟨[ratF m],4,0,false,false⟩,⟨[(zNqO26 a1 a2)],8,0,false,false⟩,⟨[(zNqO27 b1 b2)],8,0,false,false⟩,⟨[(ZgJ u1 v1)],8,0,false,false⟩],_,[],_⟩ (by kernel_rfl) (bc (Zam (fun h=>d4 (Zab.1 h))) b0) q0 c0 (Zas [0,1,2] (by kernel_rfl) H)
noncomputable abbrev ZgI (u0:Rat) (v1:Rat):=ag [vb (N.Zaa u0.num),vf (us (N.Zac u0.num)),vb (N.Zaa (↑u0.den:Int)),vf (us (N.Zac (↑u0.den:Int))),vb (N.Zaa v1.num),vf (us (N.Zac v1.num)),vb (N.Zaa (↑v1.den:Int)),vf (us (N.Zac (↑v1.den:Int)))]
noncomputable abbrev zNqO29 (u0:Rat) (v0:Rat):=ag [vb (N.Zaa u0.num),vf (us (N.Zac u0.num)),vb (N.Zaa (↑u0.den:Int)),vf (us (N.Zac (↑u0.den:Int))),vb (N.Zaa v0.num),vf (us (N.Zac v0.num)),vb (N.Zaa (↑v0.den:Int)),vf (us (N.Zac (↑v0.den:Int)))]
noncomputable abbrev zNqO30 (u1:Rat) (v0:Rat):=ag [vb (N.Zaa u1.num),vf (us (N.Zac u1.num)),vb (N.Zaa (↑u1.den:Int)),vf (us (N.Zac (↑u1.den:Int))),vb (N.Zaa v0.num),vf (us (N.Zac v0.num)),vb (N.Zaa (↑v0.den:Int)),vf (us (N.Zac (↑v0.den:Int)))]
noncomputable abbrev zNqO31 (u1:Rat) (v1:Rat):=ag [vb (N.Zaa u1.num),vf (us (N.Zac u1.num)),vb (N.Zaa (↑u1.den:Int)),vf (us (N.Zac (↑u1.den:Int))),vb (N.Zaa v1.num),vf (us (N.Zac v1.num)),vb (N.Zaa (↑v1.den:Int)),vf (us (N.Zac (↑v1.den:Int)))]
noncomputable abbrev zNqO32 (a1:Rat) (a2:Rat):=ag [vb (N.Zaa a1.num),vf (us (N.Zac a1.num)),vb (N.Zaa (↑a1.den:Int)),vf (us (N.Zac (↑a1.den:Int))),vb (N.Zaa a2.num),vf (us (N.Zac a2.num)),vb (N.Zaa (↑a2.den:Int)),vf (us (N.Zac (↑a2.den:Int)))]
noncomputable abbrev zNqO33 (b1:Rat) (b2:Rat):=ag [vb (N.Zaa b1.num),vf (us (N.Zac b1.num)),vb (N.Zaa (↑b1.den:Int)),vf (us (N.Zac (↑b1.den:Int))),vb (N.Zaa b2.num),vf (us (N.Zac b2.num)),vb (N.Zaa (↑b2.den:Int)),vf (us (N.Zac (↑b2.den:Int)))]
theorem qNe3 (u0 v0 u1 v1 a1 a2 b1 b2 m:Rat)  (dq:AV) (H :
  (N.ZfZ a1 a2 b1 b2 u0 v1 u0 v0) /\
  (N.okR (N.seg a1 a2 b1 b2 u0 v1 u0 v0)/\N.okR m) /\
  ((N.sgnI ((N.seg a1 a2 b1 b2 u0 v1 u0 v0).num*(↑m.den:Int)-m.num*(↑(N.seg a1 a2 b1 b2 u0 v1 u0 v0).den:Int))<0)->vb true=dq) /\
  (¬(N.sgnI ((N.seg a1 a2 b1 b2 u0 v1 u0 v0).num*(↑m.den:Int)-m.num*(↑(N.seg a1 a2 b1 b2 u0 v1 u0 v0).den:Int))<0)->qNe4_at u0 v0 u1 v1 a1 a2 b1 b2 m (Zaf dq))) :
 qNe3_at u0 v0 u1 v1 a1 a2 b1 b2 m (Zaf dq):=by
 unfold qNe3_at
 obtain ⟨k1,k2,H⟩:=H
 refine Zad (G:=Zae kp46 [(12,9,.call (ratF (N.seg a1 a2 b1 b2 u0 v1 u0 v0)) none),(12,11,.call (vi (N.sgnI ((N.seg a1 a2 b1 b2 u0 v1 u0 v0).num*(↑m.den:Int)-m.num*(↑(N.seg a1 a2 b1 b2 u0 v1 u0 v0).den:Int)))) none)] []) 11 [true] ⟨(atC (cd Tryz.f46) [1,1,1,1,1,1,1,0,1,0,0,1,1,0,0,1,1]),[(9,AV.ptr 0 0 0 0),(10,AV.ptr 1 0 0 0),(11,AV.ptr 2 0 0 0),(12,AV.vec true 8 [(zNqO29 u0 v0),(zNqO30 u1 v0),(zNqO31 u1 v1),(ZgI u0 v1)]),(61,AV.vec true 8 [(zNqO29 u0 v0),(zNqO30 u1 v0),(zNqO31 u1 v1),(ZgI u0 v1)]),(62,vi 4),(63,vi 3),(80,vb (decide (N.sgnI ((N.seg a1 a2 b1 b2 u0 v1 u0 v0).num*(↑m.den:Int)-m.num*(↑(N.seg a1 a2 b1 b2 u0 v1 u0 v0).den:Int))<0)))],[⟨[ratF m],4,0,false,false⟩,⟨[(zNqO32 a1 a2)],8,0,false,false⟩,⟨[(zNqO33 b1 b2)],8,0,false,false⟩,⟨[(ZgI u0 v1)],8,0,false,false⟩],_,[],_⟩ (by kernel_rfl) (bc rfl (bc rfl (bc rfl (bc rfl (bc rfl (bc rfl (bc rfl (bc rfl (bc rfl (bc rfl (bc rfl b0))))))))))) q0 (ce (@ev63 false false false false false false false false false false false false false false false false a1 a2 b1 b2 u0 v1 u0 v0 k1) (ce (@ev62 false false false false (N.seg a1 a2 b1 b2 u0 v1 u0 v0) m k2) c0)) ?_
 rcases xq H with ⟨d4,H⟩|⟨d4,H⟩
 ·exact Zaq (G:=Zae kp46 [] []) 1000 [true] (vb true) (by kernel_rfl) (bc (Zan (Zab.2 d4)) b0) q0 c0 H
 ·exact Zad (G:=Zae kp46 [] []) 1000 [false] ⟨(atC (cd Tryz.f46) [1,1,1,1,1,1,1,0,1,0,0]),[(9,AV.ptr 0 0 0 0),(10,AV.ptr 1 0 0 0),(11,AV.ptr 2 0 0 0),(12,AV.vec true 8 [(zNqO29 u0 v0),(zNqO30 u1 v0),(zNqO31 u1 v1),(ZgI u0 v1)]),(61,AV.vec true 8 [(zNqO29 u0 v0),(zNqO30 u1 v0),(zNqO31 u1 v1),(ZgI u0 v1)]),(62,vi 4),(63,vi 4)],[⟨[ratF m],4,0,false,false⟩,⟨[(zNqO32 a1 a2)],8,0,false,false⟩,⟨[(zNqO33 b1 b2)],8,0,false,false⟩,⟨[(ZgI u0 v1)],8,0,false,false⟩],_,[],_⟩ (by kernel_rfl) (bc (Zam (fun h=>d4 (Zab.1 h))) b0) q0 c0 (Zas [0,1,2] (by kernel_rfl) H)
theorem qNe4 (u0 v0 u1 v1 a1 a2 b1 b2 m:Rat)  (dq:AV) (H :
  vb false=dq) :
 qNe4_at u0 v0 u1 v1 a1 a2 b1 b2 m (Zaf dq):=by
 unfold qNe4_at
 exact Zaq (G:=Zae kp46 [] []) 1000 [false] (vb false) (by kernel_rfl) (bc rfl b0) q0 c0 H
end Go.Av

namespace Go.Av
open Go.Proofs
namespace N
noncomputable def neS (p0 q0 p1 q1 a1 a2 b1 b2 m:Rat):Prop:=seg a1 a2 b1 b2 p0 q0 p1 q0<m\/seg a1 a2 b1 b2 p1 q0 p1 q1<m\/seg a1 a2 b1 b2 p1 q1 p0 q1<m\/seg a1 a2 b1 b2 p0 q1 p0 q0<m
noncomputable def nea (x0 y0 x1 y1 ax ay bx by_ r:Int):Prop:=¬(r<=0)/\(hld x0 y0 x1 y1 ax ay\/hld x0 y0 x1 y1 bx by_\/neS (qi x0) (qi y0) (qi x1) (qi y1) (qi ax) (qi ay) (qi bx) (qi by_) (qi r*qi r))
def okNe (x0 y0 x1 y1 ax ay bx by_ r:Int):Prop:=cc x0/\cc y0/\cc x1/\cc y1/\cc ax/\cc ay/\cc bx/\cc by_/\cc r
end N
noncomputable instance (p0 q0 p1 q1 a1 a2 b1 b2 m:Rat):Decidable (N.neS p0 q0 p1 q1 a1 a2 b1 b2 m):=by unfold N.neS;infer_instance
noncomputable instance (x0 y0 x1 y1 ax ay bx by_ r:Int):Decidable (N.nea x0 y0 x1 y1 ax ay bx by_ r):=by unfold N.nea;infer_instance
theorem ZeH {n:Int} (h:N.cc n):N.inI n:=by unfold N.cc at h;unfold N.inI;omega
theorem Zbz {n:Int} (h:N.cc n):N.okT 10 (N.qi n):=Zcc (okT_int (ZeH h)) (by omega)
theorem near_loop {p0 q0 p1 q1 a1 a2 b1 b2 m:Rat} (h1:N.okV p0 q0) (h2:N.okV p1 q1) (h3:N.okV a1 a2) (h4:N.okV b1 b2) (hm:N.okT 400 m):qNe0_at p0 q0 p1 q1 a1 a2 b1 b2 m (Zaf (.bool (decide (N.neS p0 q0 p1 q1 a1 a2 b1 b2 m)))):=by
 have R {r:Rat} (h:N.okT 400 r):N.okR r:=ZaX h (by omega)
 have g1:N.okV p1 q0:=⟨h2.1,h1.2⟩
 have g2:N.okV p0 q1:=⟨h1.1,h2.2⟩
 have k0:N.ZfZ a1 a2 b1 b2 p0 q0 p1 q0:=⟨h3,h4,h1,g1⟩
 have k1:N.ZfZ a1 a2 b1 b2 p1 q0 p1 q1:=⟨h3,h4,g1,h2⟩
 have k2:N.ZfZ a1 a2 b1 b2 p1 q1 p0 q1:=⟨h3,h4,h2,g2⟩
 have k3:N.ZfZ a1 a2 b1 b2 p0 q1 p0 q0:=⟨h3,h4,g2,h1⟩
 have y:∀ h:N.neS p0 q0 p1 q1 a1 a2 b1 b2 m,AV.bool true = .bool (decide (N.neS p0 q0 p1 q1 a1 a2 b1 b2 m)):=fun h=>by rw [dec_t h]
 refine qNe0 _ _ _ _ _ _ _ _ _ _ ⟨k0,⟨R (ZbL k0),R hm⟩,fun x=>y (.inl (Zci.1 x)),fun x0 => ?_⟩
 refine qNe1 _ _ _ _ _ _ _ _ _ _ ⟨k1,⟨R (ZbL k1),R hm⟩,fun x=>y (.inr (.inl (Zci.1 x))),fun x1 => ?_⟩
 refine qNe2 _ _ _ _ _ _ _ _ _ _ ⟨k2,⟨R (ZbL k2),R hm⟩,fun x=>y (.inr (.inr (.inl (Zci.1 x)))),fun x2 => ?_⟩
 refine qNe3 _ _ _ _ _ _ _ _ _ _ ⟨k3,⟨R (ZbL k3),R hm⟩,fun x=>y (.inr (.inr (.inr (Zci.1 x)))),fun x3 => ?_⟩
 refine qNe4 _ _ _ _ _ _ _ _ _ _ ?_
 rw [decide_eq_false]
 rintro (h | h | h | h)
 ·exact x0 (Zci.2 h)
 ·exact x1 (Zci.2 h)
 ·exact x2 (Zci.2 h)
 ·exact x3 (Zci.2 h)
theorem ev46 (x0 y0 x1 y1 tp ax ay bx by_ r:Int) (h:N.okNe x0 y0 x1 y1 ax ay bx by_ r):Ev M1 (.pure 46 [.agg [.int .i64 x0,.int .i64 y0,.int .i64 x1,.int .i64 y1,.int .i64 tp],.agg [.int .i64 ax,.int .i64 ay],.agg [.int .i64 bx,.int .i64 by_],.int .i64 r]) (.bool (decide (N.nea x0 y0 x1 y1 ax ay bx by_ r))) []:=by
 obtain ⟨c1,c2,c3,c4,c5,c6,c7,c8,c9⟩:=h
 have V {u v:Int} (a:N.cc u) (b:N.cc v):N.okV (N.qi u) (N.qi v):=⟨Zbz a,Zbz b⟩
 have J {u v:Int} (a:N.cc u) (b:N.cc v):N.Zga u v:=⟨ZeH a,ZeH b⟩
 have mm:N.okT 400 (N.qi r*N.qi r):=Zcc (Zbs (Zbz c9) (Zbz c9)) (by omega)
 have R:N.okR (N.qi r):=ZaX (Zbz c9) (by omega)
 refine call46 (qNe _ _ _ _ _ _ _ _ _ _ _ ⟨fun k => ?_,fun k=>⟨fun j => ?_,fun j=>⟨ZeH c9,⟨R,R⟩,J c5 c6,J c7 c8,J c1 c2,J c3 c2,J c3 c4,J c1 c4,?_⟩⟩⟩)
 ·rw [decide_eq_false fun x=>x.1 k]
 ·rw [decide_eq_true (show N.nea x0 y0 x1 y1 ax ay bx by_ r from ⟨k,j.elim .inl fun x => .inr (.inl x)⟩)]
 ·have e:decide (N.nea x0 y0 x1 y1 ax ay bx by_ r)=decide (N.neS (N.qi x0) (N.qi y0) (N.qi x1) (N.qi y1) (N.qi ax) (N.qi ay) (N.qi bx) (N.qi by_) (N.qi r*N.qi r)):=
   Zc9 ⟨fun x=>x.2.elim (fun y=>absurd (.inl y) j) fun y=>y.elim (fun y=>absurd (.inr y) j) id,fun x=>⟨k,.inr (.inr x)⟩⟩
  rw [e]
  exact near_loop (V c1 c2) (V c3 c4) (V c5 c6) (V c7 c8) mm
end Go.Av

namespace Go.Av
open Go.Proofs
set_option maxRecDepth 100000
def fi7:Fi:=⟨46,[.tmp 6]⟩
def kp7:List (Nat × List Nat):=[(0,[1,2,3]),(1,[1,2,3,7]),(2,[1,2,7,11,12,13]),(3,[1,2,7,11,12,13,14]),(4,[1,2,7,9,11,12,13]),(5,[1,2,7,9,11,12,13,21]),(6,[1,2,7,11,12,13]),(7,[1,2,7,11,12,13]),(8,[6])]
def fi8:Fi:=⟨50,[.tmp 6]⟩
def kp8:List (Nat × List Nat):=[(0,[1,2,3]),(1,[1,2,3,7]),(2,[1,2,3,7,8]),(3,[1,2,3,7,8,14]),(4,[1,2,3,7,8]),(5,[1,2,3,7,8,9]),(6,[1,2,3,7,8,9,26]),(7,[1,2,3,7,8]),(8,[6])]
def fi21:Fi:=⟨41,[.tmp 8,.tmp 9]⟩
def kp21:List (Nat × List Nat):=[(0,[3,4,5,6]),(1,[3,4,5,6,10,11]),(2,[3,5,6,10,11,15,16,17]),(3,[3,5,6,10,11,15,16,17,18]),(4,[3,5,6,10,11,13,15,16,17]),(5,[3,5,6,10,11,13,15,16,17,35]),(6,[3,5,6,10,11,15,16,17]),(7,[3,5,6,10,11,15,16,17]),(8,[8,9])]
def qHi_at (f:Bool) (cs:List Bx) (u0 v0 u1 v1 th gp sf:Int) (ax ay bx by_ r:Int) (Q:AV->Heap->Prop):Prop:=Wp M1 (.run fi21 (atC (cd Tryz.f21) []) [(0,.agg [.int .i64 u0,.int .i64 v0,.int .i64 u1,.int .i64 v1,.int .i64 th,.int .i64 gp,.vec f 5 (cs.map Bx.a),.int .i64 sf]),(1,.agg [.int .i64 ax,.int .i64 ay]),(2,.agg [.int .i64 bx,.int .i64 by_]),(3,.int .i64 r)] []) Q
def ZeP (f:Bool) (cs:List Bx) (ax ay bx by_ r t:Int) (fo:Bool) (n i:Int) (Q:AV->Heap->Prop):Prop:=Wp M1 (.run fi21 (atC (cd Tryz.f21) [1,1,0,1,0,0]) [(3,.int .i64 r),(5,.ptr 0 0 0 0),(6,.ptr 1 0 0 0),(10,.int .i64 t),(11,.bool fo),(15,.vec f 5 (cs.map Bx.a)),(16,.int .i64 n),(17,.int .i64 i)] [⟨[.agg [.int .i64 ax,.int .i64 ay]],2,0,false,false⟩,⟨[.agg [.int .i64 bx,.int .i64 by_]],2,0,false,false⟩]) Q
def qBl_at (f:Bool) (cs:List Bx) (u0 v0 u1 v1 th gp sf:Int) (z r:Int) (Q:AV->Heap->Prop):Prop:=Wp M1 (.run fi7 (atC (cd Tryz.f7) []) [(0,.agg [.int .i64 u0,.int .i64 v0,.int .i64 u1,.int .i64 v1,.int .i64 th,.int .i64 gp,.vec f 5 (cs.map Bx.a),.int .i64 sf]),(1,.int .i64 z),(2,.int .i64 r)] []) Q
def ZfT (f:Bool) (cs:List Bx) (z r n i:Int) (Q:AV->Heap->Prop):Prop:=Wp M1 (.run fi7 (atC (cd Tryz.f7) [1,1,0,1,0,0]) [(1,.int .i64 z),(2,.int .i64 r),(7,.vnil),(11,.vec f 5 (cs.map Bx.a)),(12,.int .i64 n),(13,.int .i64 i)] []) Q
def ZeQ (f:Bool) (cs gs:List Bx) (v:Nat) (z r n i:Int) (Q:AV->Heap->Prop):Prop:=Wp M1 (.run fi7 (atC (cd Tryz.f7) [1,1,0,1,0,0]) [(1,.int .i64 z),(2,.int .i64 r),(7,.row 0 v),(11,.vec f 5 (cs.map Bx.a)),(12,.int .i64 n),(13,.int .i64 i)] [⟨gs.map Bx.a,5,v,false,true⟩]) Q
def qBk_at (f:Bool) (cs:List Bx) (u0 v0 u1 v1 th gp sf:Int) (z r:Int) (Q:AV->Heap->Prop):Prop:=Wp M1 (.run fi8 (atC (cd Tryz.f8) []) [(0,.agg [.int .i64 u0,.int .i64 v0,.int .i64 u1,.int .i64 v1,.int .i64 th,.int .i64 gp,.vec f 5 (cs.map Bx.a),.int .i64 sf]),(1,.int .i64 z),(2,.int .i64 r)] []) Q
def ZfU (f:Bool) (cs:List Bx) (u0 v0 u1 v1 th gp sf:Int) (z r i:Int) (Q:AV->Heap->Prop):Prop:=Wp M1 (.run fi8 (atC (cd Tryz.f8) [1,1,0,1,0,0]) [(1,.int .i64 z),(2,.int .i64 r),(3,.ptr 0 0 0 0),(7,.vnil),(8,.int .i64 i)] [⟨[.agg [.int .i64 u0,.int .i64 v0,.int .i64 u1,.int .i64 v1,.int .i64 th,.int .i64 gp,.vec f 5 (cs.map Bx.a),.int .i64 sf]],8,0,false,false⟩]) Q
def ZeR (f:Bool) (cs:List Bx) (u0 v0 u1 v1 th gp sf:Int) (gs:List Bx) (v:Nat) (z r i:Int) (Q:AV->Heap->Prop):Prop:=Wp M1 (.run fi8 (atC (cd Tryz.f8) [1,1,0,1,0,0]) [(1,.int .i64 z),(2,.int .i64 r),(3,.ptr 0 0 0 0),(7,.row 1 v),(8,.int .i64 i)] [⟨[.agg [.int .i64 u0,.int .i64 v0,.int .i64 u1,.int .i64 v1,.int .i64 th,.int .i64 gp,.vec f 5 (cs.map Bx.a),.int .i64 sf]],8,0,false,false⟩,⟨gs.map Bx.a,5,v,false,true⟩]) Q
theorem call7 {args:List AV} {d:AV} (h:wc M1 fi7 Tryz.f7 args d):Ev M1 (.pure 7 args) d []:=pcl _ _ (by kernel_rfl) h
theorem call8 {args:List AV} {d:AV} (h:wc M1 fi8 Tryz.f8 args d):Ev M1 (.pure 8 args) d []:=pcl _ _ (by kernel_rfl) h
theorem call21 {args:List AV} {d:AV} (h:wc M1 fi21 Tryz.f21 args d):Ev M1 (.pure 21 args) d []:=pcl _ _ (by kernel_rfl) h
theorem qHi (f:Bool) (cs:List Bx) (u0 v0 u1 v1 th gp sf:Int) (ax ay bx by_ r:Int)  (dq:AV) (H :
  ZeP f cs ax ay bx by_ r 0 false ((↑cs.length:Int)) 0 (Zaf dq)) :
 qHi_at f cs u0 v0 u1 v1 th gp sf ax ay bx by_ r (Zaf dq):=by
 unfold qHi_at
 have w1:(List.map Bx.a cs).length=cs.length:=List.length_map ..
 exact Zad (G:=Zae kp21 [] []) 1000 [] ⟨(atC (cd Tryz.f21) [1,1,0,1,0,0]),[(3,vi r),(5,AV.ptr 1 0 0 0),(6,AV.ptr 2 0 0 0),(10,vi 0),(11,vb false),(15,AV.vec f 5 (List.map Bx.a cs)),(16,vi (↑(List.map Bx.a cs).length:Int)),(17,vi 0)],[⟨[ag [vi u0,vi v0,vi u1,vi v1,vi th,vi gp,AV.vec f 5 (List.map Bx.a cs),vi sf]],8,0,false,false⟩,⟨[ag [vi ax,vi ay]],2,0,false,false⟩,⟨[ag [vi bx,vi by_]],2,0,false,false⟩],_,[],_⟩ (by kernel_rfl) (bc rfl b0) q0 c0 (by (try rw [w1]);all_goals exact Zas [1,2] (by kernel_rfl) H)
noncomputable abbrev zNqP1 (cs:List Bx) (i:Int):=ag [vi (cs.getD i.toNat default).x0,vi (cs.getD i.toNat default).y0,vi (cs.getD i.toNat default).x1,vi (cs.getD i.toNat default).y1,vi (cs.getD i.toNat default).top]
noncomputable abbrev zNqP2 (cs:List Bx) (i:Int) (ax:Int) (ay:Int) (bx:Int) (by_:Int) (r:Int):=N.nea (cs.getD i.toNat default).x0 (cs.getD i.toNat default).y0 (cs.getD i.toNat default).x1 (cs.getD i.toNat default).y1 ax ay bx by_ r
theorem qHiL (f:Bool) (cs:List Bx) (ax ay bx by_ r t:Int) (fo:Bool) (n i:Int)  (dq:AV) (H :
  ((i<n)->(0<=i) /\
   (i.toNat<cs.length) /\
   (N.okNe (cs.getD i.toNat default).x0 (cs.getD i.toNat default).y0 (cs.getD i.toNat default).x1 (cs.getD i.toNat default).y1 ax ay bx by_ r) /\
   (((N.nea (cs.getD i.toNat default).x0 (cs.getD i.toNat default).y0 (cs.getD i.toNat default).x1 (cs.getD i.toNat default).y1 ax ay bx by_ r)/\((¬(fo=true))\/((cs.getD i.toNat default).top>t)))->(-9223372036854775808<=i+1/\i+1<=9223372036854775807) /\
    ZeP f cs ax ay bx by_ r ((cs.getD i.toNat default).top) true n (i+1) (Zaf dq)) /\
   (¬((N.nea (cs.getD i.toNat default).x0 (cs.getD i.toNat default).y0 (cs.getD i.toNat default).x1 (cs.getD i.toNat default).y1 ax ay bx by_ r)/\((¬(fo=true))\/((cs.getD i.toNat default).top>t)))->(-9223372036854775808<=i+1/\i+1<=9223372036854775807) /\
    ZeP f cs ax ay bx by_ r t fo n (i+1) (Zaf dq))) /\
  (¬(i<n)->tu [vi t,vb fo]=dq)) :
 ZeP f cs ax ay bx by_ r t fo n i (Zaf dq):=by
 unfold ZeP
 rcases xq H with ⟨d2,H⟩|⟨d2,H⟩
 ·obtain ⟨k4,H⟩:=H
  have w5:(List.map Bx.a cs).length=cs.length:=List.length_map ..
  have i6:(decide (i.toNat<(List.map Bx.a cs).length))=true ↔ (i.toNat<cs.length):=(by (try rw [w5]);all_goals exact Zab)
  obtain ⟨k7,k8,H⟩:=H
  refine Zad (G:=Zae kp21 [(4,1,.elem ((zNqP1 cs i))),(5,4,.call (vb (decide (zNqP2 cs i ax ay bx by_ r))) none)] []) 11 [true] ⟨(atC (cd Tryz.f21) [1,1,0,1,0,0,1,1,0,0,1,1]),[(3,vi r),(5,AV.ptr 0 0 0 0),(6,AV.ptr 1 0 0 0),(10,vi t),(11,vb fo),(13,AV.ptr 2 0 0 0),(15,AV.vec f 5 (List.map Bx.a cs)),(16,vi n),(17,vi i),(35,vb (bif decide (zNqP2 cs i ax ay bx by_ r) then bif !fo then true else decide ((cs.getD i.toNat default).top>t) else false))],[⟨[ag [vi ax,vi ay]],2,0,false,false⟩,⟨[ag [vi bx,vi by_]],2,0,false,false⟩,⟨[(zNqP1 cs i)],5,0,false,false⟩],[(decide (i<n))==true,decide (0<=i),decide (i.toNat<(List.map Bx.a cs).length),true,true,true,true,!((!fo)==false&&(decide (zNqP2 cs i ax ay bx by_ r)==true&&true))||true],[((List.map Bx.a cs).get?Internal i.toNat=some ((zNqP1 cs i)))],_⟩ (by kernel_rfl) (bc (Zan (Zab.2 d2)) (bc (Zab.2 k4) (bc (i6.2 k7) (bc rfl (bc rfl (bc rfl (bc rfl (bc (Bool.or_true _) b0)))))))) (qc (Zao k7) q0) (ce (@ev46 ((cs.getD i.toNat default).x0) ((cs.getD i.toNat default).y0) ((cs.getD i.toNat default).x1) ((cs.getD i.toNat default).y1) ((cs.getD i.toNat default).top) ax ay bx by_ r k8) c0) ?_
  rcases xq H with ⟨d10,H⟩|⟨d10,H⟩
  ·obtain ⟨k11,H⟩:=H
   have w12:wi (i+1)=i+1:=wI64 k11
   exact Zad (G:=Zae kp21 [] []) 1000 [true] ⟨(atC (cd Tryz.f21) [1,1,0,1,0,0]),[(3,vi r),(5,AV.ptr 0 0 0 0),(6,AV.ptr 1 0 0 0),(10,vi (cs.getD i.toNat default).top),(11,vb true),(15,AV.vec f 5 (List.map Bx.a cs)),(16,vi n),(17,vi (wi (i+1)))],[⟨[ag [vi ax,vi ay]],2,0,false,false⟩,⟨[ag [vi bx,vi by_]],2,0,false,false⟩,⟨[(zNqP1 cs i)],5,0,false,false⟩],[(bif decide (zNqP2 cs i ax ay bx by_ r) then bif !fo then true else decide ((cs.getD i.toNat default).top>t) else false)==true,true],[],_⟩ (by kernel_rfl) (bc (Zan ((Zbt Zab (Zdf (ZcJ (Zbq _)) Zab)).2 d10)) (bc rfl b0)) q0 c0 (by (try rw [w12]);all_goals exact Zas [0,1] (by kernel_rfl) H)
  ·obtain ⟨k13,H⟩:=H
   have w14:wi (i+1)=i+1:=wI64 k13
   exact Zad (G:=Zae kp21 [] []) 1000 [false] ⟨(atC (cd Tryz.f21) [1,1,0,1,0,0]),[(3,vi r),(5,AV.ptr 0 0 0 0),(6,AV.ptr 1 0 0 0),(10,vi t),(11,vb fo),(15,AV.vec f 5 (List.map Bx.a cs)),(16,vi n),(17,vi (wi (i+1)))],[⟨[ag [vi ax,vi ay]],2,0,false,false⟩,⟨[ag [vi bx,vi by_]],2,0,false,false⟩,⟨[(zNqP1 cs i)],5,0,false,false⟩],[(bif decide (zNqP2 cs i ax ay bx by_ r) then bif !fo then true else decide ((cs.getD i.toNat default).top>t) else false)==false],[],_⟩ (by kernel_rfl) (bc (Zam (fun h=>d10 ((Zbt Zab (Zdf (ZcJ (Zbq _)) Zab)).1 h))) b0) q0 c0 (by (try rw [w14]);all_goals exact Zas [0,1] (by kernel_rfl) H)
 ·exact Zaq (G:=Zae kp21 [] []) 1000 [false] (tu [vi t,vb fo]) (by kernel_rfl) (bc (Zam (fun h=>d2 (Zab.1 h))) b0) q0 c0 H
theorem qBl (f:Bool) (cs:List Bx) (u0 v0 u1 v1 th gp sf:Int) (z r:Int)  (dq:AV) (H :
  ZfT f cs z r ((↑cs.length:Int)) 0 (Zaf dq)) :
 qBl_at f cs u0 v0 u1 v1 th gp sf z r (Zaf dq):=by
 unfold qBl_at
 have w1:(List.map Bx.a cs).length=cs.length:=List.length_map ..
 exact Zad (G:=Zae kp7 [] []) 1000 [] ⟨(atC (cd Tryz.f7) [1,1,0,1,0,0]),[(1,vi z),(2,vi r),(7,AV.vnil),(11,AV.vec f 5 (List.map Bx.a cs)),(12,vi (↑(List.map Bx.a cs).length:Int)),(13,vi 0)],[⟨[ag [vi u0,vi v0,vi u1,vi v1,vi th,vi gp,AV.vec f 5 (List.map Bx.a cs),vi sf]],8,0,false,false⟩],_,[],_⟩ (by kernel_rfl) (bc rfl b0) q0 c0 (by (try rw [w1]);all_goals exact Zas [] (by kernel_rfl) H)
noncomputable abbrev zNqP3 (cs:List Bx) (i:Int):=ag [vi (cs.getD i.toNat default).x0,vi (cs.getD i.toNat default).y0,vi (cs.getD i.toNat default).x1,vi (cs.getD i.toNat default).y1,vi (cs.getD i.toNat default).top]
theorem qBl0 (f:Bool) (cs:List Bx) (z r n i:Int)  (dq:AV) (H :
  ((i<n)->(0<=i) /\
   (i.toNat<cs.length) /\
   (-9223372036854775808<=(cs.getD i.toNat default).top+1000/\(cs.getD i.toNat default).top+1000<=9223372036854775807) /\
   (((cs.getD i.toNat default).top+1000>z)->(-9223372036854775808<=(cs.getD i.toNat default).x0-r/\(cs.getD i.toNat default).x0-r<=9223372036854775807) /\
    (-9223372036854775808<=(cs.getD i.toNat default).y0-r/\(cs.getD i.toNat default).y0-r<=9223372036854775807) /\
    (-9223372036854775808<=(cs.getD i.toNat default).x1+r/\(cs.getD i.toNat default).x1+r<=9223372036854775807) /\
    (-9223372036854775808<=(cs.getD i.toNat default).y1+r/\(cs.getD i.toNat default).y1+r<=9223372036854775807) /\
    (-9223372036854775808<=i+1/\i+1<=9223372036854775807) /\
    ZeQ f cs ([{ x0:=(cs.getD i.toNat default).x0-r,y0:=(cs.getD i.toNat default).y0-r,x1:=(cs.getD i.toNat default).x1+r,y1:=(cs.getD i.toNat default).y1+r,top:=(cs.getD i.toNat default).top }]) 0 z r n (i+1) (Zaf dq)) /\
   (¬((cs.getD i.toNat default).top+1000>z)->(-9223372036854775808<=i+1/\i+1<=9223372036854775807) /\
    ZfT f cs z r n (i+1) (Zaf dq))) /\
  (¬(i<n)->Weak (AV.vnil) dq)) :
 ZfT f cs z r n i (Zaf dq):=by
 unfold ZfT
 rcases xq H with ⟨d2,H⟩|⟨d2,H⟩
 ·obtain ⟨k4,H⟩:=H
  have w5:(List.map Bx.a cs).length=cs.length:=List.length_map ..
  have i6:(decide (i.toNat<(List.map Bx.a cs).length))=true ↔ (i.toNat<cs.length):=(by (try rw [w5]);all_goals exact Zab)
  obtain ⟨k7,k8,H⟩:=H
  have w9:wi ((cs.getD i.toNat default).top+1000)=(cs.getD i.toNat default).top+1000:=wI64 k8
  have i10:(decide (wi ((cs.getD i.toNat default).top+1000)>z))=true ↔ ((cs.getD i.toNat default).top+1000>z):=(by (try rw [w9]);all_goals exact Zab)
  refine Zad (G:=Zae kp7 [(4,1,.elem ((zNqP3 cs i)))] []) 11 [true] ⟨(atC (cd Tryz.f7) [1,1,0,1,0,0,1,1,0,0,1,1]),[(1,vi z),(2,vi r),(7,AV.vnil),(9,AV.ptr 0 0 0 0),(11,AV.vec f 5 (List.map Bx.a cs)),(12,vi n),(13,vi i),(21,vb (decide (wi ((cs.getD i.toNat default).top+1000)>z)))],[⟨[(zNqP3 cs i)],5,0,false,false⟩],_,[((List.map Bx.a cs).get?Internal i.toNat=some ((zNqP3 cs i)))],_⟩ (by kernel_rfl) (bc (Zan (Zab.2 d2)) (bc (Zab.2 k4) (bc (i6.2 k7) (bc rfl (bc rfl b0))))) (qc (Zao k7) q0) c0 ?_
  rcases xq H with ⟨d11,H⟩|⟨d11,H⟩
  ·obtain ⟨k12,H⟩:=H
   have w13:wi ((cs.getD i.toNat default).x0-r)=(cs.getD i.toNat default).x0-r:=wI64 k12
   obtain ⟨k14,H⟩:=H
   have w15:wi ((cs.getD i.toNat default).y0-r)=(cs.getD i.toNat default).y0-r:=wI64 k14
   obtain ⟨k16,H⟩:=H
   have w17:wi ((cs.getD i.toNat default).x1+r)=(cs.getD i.toNat default).x1+r:=wI64 k16
   obtain ⟨k18,H⟩:=H
   have w19:wi ((cs.getD i.toNat default).y1+r)=(cs.getD i.toNat default).y1+r:=wI64 k18
   obtain ⟨k20,H⟩:=H
   have w21:wi (i+1)=i+1:=wI64 k20
   have w22:[ag [vi ((cs.getD i.toNat default).x0-r),vi ((cs.getD i.toNat default).y0-r),vi ((cs.getD i.toNat default).x1+r),vi ((cs.getD i.toNat default).y1+r),vi (cs.getD i.toNat default).top]]=List.map Bx.a [{ x0:=(cs.getD i.toNat default).x0-r,y0:=(cs.getD i.toNat default).y0-r,x1:=(cs.getD i.toNat default).x1+r,y1:=(cs.getD i.toNat default).y1+r,top:=(cs.getD i.toNat default).top }]:=rfl
   exact Zad (G:=Zae kp7 [] []) 1000 [true] ⟨(atC (cd Tryz.f7) [1,1,0,1,0,0]),[(1,vi z),(2,vi r),(7,AV.row 1 0),(11,AV.vec f 5 (List.map Bx.a cs)),(12,vi n),(13,vi (wi (i+1)))],[⟨[(zNqP3 cs i)],5,0,false,false⟩,⟨[ag [vi (wi ((cs.getD i.toNat default).x0-r)),vi (wi ((cs.getD i.toNat default).y0-r)),vi (wi ((cs.getD i.toNat default).x1+r)),vi (wi ((cs.getD i.toNat default).y1+r)),vi (cs.getD i.toNat default).top]],5,0,false,true⟩],_,[],_⟩ (by kernel_rfl) (bc (Zan (i10.2 d11)) (bc rfl (bc rfl (bc rfl (bc rfl (bc rfl (bc rfl b0))))))) q0 c0 (by (try rw [w13]);(try rw [w15]);(try rw [w17]);(try rw [w19]);(try rw [w21]);(try rw [w22]);all_goals exact Zas [1] (by kernel_rfl) H)
  ·obtain ⟨k23,H⟩:=H
   have w24:wi (i+1)=i+1:=wI64 k23
   exact Zad (G:=Zae kp7 [] []) 1000 [false] ⟨(atC (cd Tryz.f7) [1,1,0,1,0,0]),[(1,vi z),(2,vi r),(7,AV.vnil),(11,AV.vec f 5 (List.map Bx.a cs)),(12,vi n),(13,vi (wi (i+1)))],[⟨[(zNqP3 cs i)],5,0,false,false⟩],_,[],_⟩ (by kernel_rfl) (bc (Zam (fun h=>d11 (i10.1 h))) b0) q0 c0 (by (try rw [w24]);all_goals exact Zas [] (by kernel_rfl) H)
 ·exact Zai (G:=Zae kp7 [] []) 1000 [false] (AV.vnil) (by kernel_rfl) (bc (Zam (fun h=>d2 (Zab.1 h))) b0) q0 c0 H
noncomputable abbrev zNqP4 (cs:List Bx) (i:Int):=ag [vi (cs.getD i.toNat default).x0,vi (cs.getD i.toNat default).y0,vi (cs.getD i.toNat default).x1,vi (cs.getD i.toNat default).y1,vi (cs.getD i.toNat default).top]
theorem qBlL (f:Bool) (cs gs:List Bx) (v:Nat) (z r n i:Int)  (dq:AV) (H :
  ((i<n)->(0<=i) /\
   (i.toNat<cs.length) /\
   (-9223372036854775808<=(cs.getD i.toNat default).top+1000/\(cs.getD i.toNat default).top+1000<=9223372036854775807) /\
   (((cs.getD i.toNat default).top+1000>z)->(-9223372036854775808<=(cs.getD i.toNat default).x0-r/\(cs.getD i.toNat default).x0-r<=9223372036854775807) /\
    (-9223372036854775808<=(cs.getD i.toNat default).y0-r/\(cs.getD i.toNat default).y0-r<=9223372036854775807) /\
    (-9223372036854775808<=(cs.getD i.toNat default).x1+r/\(cs.getD i.toNat default).x1+r<=9223372036854775807) /\
    (-9223372036854775808<=(cs.getD i.toNat default).y1+r/\(cs.getD i.toNat default).y1+r<=9223372036854775807) /\
    ((gs.length+1)*40<=1099511627776) /\
    (-9223372036854775808<=i+1/\i+1<=9223372036854775807) /\
    ZeQ f cs (gs++[{ x0:=(cs.getD i.toNat default).x0-r,y0:=(cs.getD i.toNat default).y0-r,x1:=(cs.getD i.toNat default).x1+r,y1:=(cs.getD i.toNat default).y1+r,top:=(cs.getD i.toNat default).top }]) (v+1) z r n (i+1) (Zaf dq)) /\
   (¬((cs.getD i.toNat default).top+1000>z)->(-9223372036854775808<=i+1/\i+1<=9223372036854775807) /\
    ZeQ f cs gs v z r n (i+1) (Zaf dq))) /\
  (¬(i<n)->Weak (AV.vec false 5 (List.map Bx.a gs)) dq)) :
 ZeQ f cs gs v z r n i (Zaf dq):=by
 unfold ZeQ
 rcases xq H with ⟨d2,H⟩|⟨d2,H⟩
 ·obtain ⟨k4,H⟩:=H
  have w5:(List.map Bx.a cs).length=cs.length:=List.length_map ..
  have i6:(decide (i.toNat<(List.map Bx.a cs).length))=true ↔ (i.toNat<cs.length):=(by (try rw [w5]);all_goals exact Zab)
  obtain ⟨k7,k8,H⟩:=H
  have w9:wi ((cs.getD i.toNat default).top+1000)=(cs.getD i.toNat default).top+1000:=wI64 k8
  have i10:(decide (wi ((cs.getD i.toNat default).top+1000)>z))=true ↔ ((cs.getD i.toNat default).top+1000>z):=(by (try rw [w9]);all_goals exact Zab)
  refine Zad (G:=Zae kp7 [(4,1,.elem ((zNqP4 cs i)))] []) 11 [true] ⟨(atC (cd Tryz.f7) [1,1,0,1,0,0,1,1,0,0,1,1]),[(1,vi z),(2,vi r),(7,AV.row 0 v),(9,AV.ptr 1 0 0 0),(11,AV.vec f 5 (List.map Bx.a cs)),(12,vi n),(13,vi i),(21,vb (decide (wi ((cs.getD i.toNat default).top+1000)>z)))],[⟨List.map Bx.a gs,5,v,false,true⟩,⟨[(zNqP4 cs i)],5,0,false,false⟩],_,[((List.map Bx.a cs).get?Internal i.toNat=some ((zNqP4 cs i)))],_⟩ (by kernel_rfl) (bc (Zan (Zab.2 d2)) (bc (Zab.2 k4) (bc (i6.2 k7) (bc rfl (bc rfl b0))))) (qc (Zao k7) q0) c0 ?_
  rcases xq H with ⟨d11,H⟩|⟨d11,H⟩
  ·have w12:(List.map Bx.a gs).length=gs.length:=List.length_map ..
   obtain ⟨k13,H⟩:=H
   have w14:wi ((cs.getD i.toNat default).x0-r)=(cs.getD i.toNat default).x0-r:=wI64 k13
   obtain ⟨k15,H⟩:=H
   have w16:wi ((cs.getD i.toNat default).y0-r)=(cs.getD i.toNat default).y0-r:=wI64 k15
   obtain ⟨k17,H⟩:=H
   have w18:wi ((cs.getD i.toNat default).x1+r)=(cs.getD i.toNat default).x1+r:=wI64 k17
   obtain ⟨k19,H⟩:=H
   have w20:wi ((cs.getD i.toNat default).y1+r)=(cs.getD i.toNat default).y1+r:=wI64 k19
   have i21:(decide (((List.map Bx.a gs).length+1)*40<=1099511627776))=true ↔ ((gs.length+1)*40<=1099511627776):=(by (try rw [w12]);(try rw [w14]);(try rw [w16]);(try rw [w18]);(try rw [w20]);all_goals exact Zab)
   obtain ⟨k22,H⟩:=H
   have w23:List.map Bx.a gs++[ag [vi ((cs.getD i.toNat default).x0-r),vi ((cs.getD i.toNat default).y0-r),vi ((cs.getD i.toNat default).x1+r),vi ((cs.getD i.toNat default).y1+r),vi (cs.getD i.toNat default).top]]=List.map Bx.a (gs++[{ x0:=(cs.getD i.toNat default).x0-r,y0:=(cs.getD i.toNat default).y0-r,x1:=(cs.getD i.toNat default).x1+r,y1:=(cs.getD i.toNat default).y1+r,top:=(cs.getD i.toNat default).top }]):=(Zex rfl rfl)
   obtain ⟨k24,H⟩:=H
   have w25:wi (i+1)=i+1:=wI64 k24
   exact Zad (G:=Zae kp7 [] []) 1000 [true] ⟨(atC (cd Tryz.f7) [1,1,0,1,0,0]),[(1,vi z),(2,vi r),(7,AV.row 0 (v+1)),(11,AV.vec f 5 (List.map Bx.a cs)),(12,vi n),(13,vi (wi (i+1)))],[⟨List.map Bx.a gs++[ag [vi (wi ((cs.getD i.toNat default).x0-r)),vi (wi ((cs.getD i.toNat default).y0-r)),vi (wi ((cs.getD i.toNat default).x1+r)),vi (wi ((cs.getD i.toNat default).y1+r)),vi (cs.getD i.toNat default).top]],5,v+1,false,true⟩,⟨[(zNqP4 cs i)],5,0,false,false⟩],[(decide (wi ((cs.getD i.toNat default).top+1000)>z))==true,true,true,true,true,true,v==v,decide (((List.map Bx.a gs).length+1)*40<=1099511627776)],[],_⟩ (by kernel_rfl) (bc (Zan (i10.2 d11)) (bc rfl (bc rfl (bc rfl (bc rfl (bc rfl (bc (beq_self_eq_true _) (bc (i21.2 k22) b0)))))))) q0 c0 (by (try rw [w14]);(try rw [w16]);(try rw [w18]);(try rw [w20]);(try rw [w23]);(try rw [w25]);all_goals exact Zas [0] (by kernel_rfl) H)
  ·obtain ⟨k26,H⟩:=H
   have w27:wi (i+1)=i+1:=wI64 k26
   exact Zad (G:=Zae kp7 [] []) 1000 [false] ⟨(atC (cd Tryz.f7) [1,1,0,1,0,0]),[(1,vi z),(2,vi r),(7,AV.row 0 v),(11,AV.vec f 5 (List.map Bx.a cs)),(12,vi n),(13,vi (wi (i+1)))],[⟨List.map Bx.a gs,5,v,false,true⟩,⟨[(zNqP4 cs i)],5,0,false,false⟩],_,[],_⟩ (by kernel_rfl) (bc (Zam (fun h=>d11 (i10.1 h))) b0) q0 c0 (by (try rw [w27]);all_goals exact Zas [0] (by kernel_rfl) H)
 ·exact Zb2 (G:=Zae kp7 [] []) 1000 [false] (k:=((atC (cd Tryz.f7) [1,1,1,1])).tail) (env':=[(6,AV.row 0 v)]) (L':=[⟨List.map Bx.a gs,5,v,false,true⟩]) (asm:=[(decide (i<n))==false]) (eqs:=[]) (calls:=[]) (AV.row 0 v) (by kernel_rfl) (by kernel_rfl) (Zag (Zam (fun h=>d2 (Zab.1 h))) ZaB) ZaV ZaW (Zds (d:=(AV.vec false 5 (List.map Bx.a gs))) (bs:=[v==v]) (by kernel_rfl) (by kernel_rfl) (Zag (beq_self_eq_true _) ZaB) (by kernel_rfl) H)
theorem qBk (f:Bool) (cs:List Bx) (u0 v0 u1 v1 th gp sf:Int) (z r:Int)  (dq:AV) (H :
  ZfU f cs u0 v0 u1 v1 th gp sf z r 0 (Zaf dq)) :
 qBk_at f cs u0 v0 u1 v1 th gp sf z r (Zaf dq):=by
 unfold qBk_at
 exact Zad (G:=Zae kp8 [] []) 1000 [] ⟨(atC (cd Tryz.f8) [1,1,0,1,0,0]),[(1,vi z),(2,vi r),(3,AV.ptr 0 0 0 0),(7,AV.vnil),(8,vi 0)],[⟨[ag [vi u0,vi v0,vi u1,vi v1,vi th,vi gp,AV.vec f 5 (List.map Bx.a cs),vi sf]],8,0,false,false⟩],_,[],_⟩ (by kernel_rfl) b0 q0 c0 H
noncomputable abbrev zNqP5 (cs:List Bx) (i:Int):=ag [vi (cs.getD i.toNat default).x0,vi (cs.getD i.toNat default).y0,vi (cs.getD i.toNat default).x1,vi (cs.getD i.toNat default).y1,vi (cs.getD i.toNat default).top]
theorem qBk0 (f:Bool) (cs:List Bx) (u0 v0 u1 v1 th gp sf:Int) (z r i:Int)  (dq:AV) (H :
  ((i<(↑cs.length:Int))->(0<=i) /\
   (i.toNat<cs.length) /\
   (-9223372036854775808<=(cs.getD i.toNat default).top+1000/\(cs.getD i.toNat default).top+1000<=9223372036854775807) /\
   (((cs.getD i.toNat default).top+1000>z)->(-9223372036854775808<=(cs.getD i.toNat default).x0-r/\(cs.getD i.toNat default).x0-r<=9223372036854775807) /\
    (-9223372036854775808<=(cs.getD i.toNat default).y0-r/\(cs.getD i.toNat default).y0-r<=9223372036854775807) /\
    (-9223372036854775808<=(cs.getD i.toNat default).x1+r/\(cs.getD i.toNat default).x1+r<=9223372036854775807) /\
    (-9223372036854775808<=(cs.getD i.toNat default).y1+r/\(cs.getD i.toNat default).y1+r<=9223372036854775807) /\
    (-9223372036854775808<=i+1/\i+1<=9223372036854775807) /\
    ZeR f cs u0 v0 u1 v1 th gp sf ([{ x0:=(cs.getD i.toNat default).x0-r,y0:=(cs.getD i.toNat default).y0-r,x1:=(cs.getD i.toNat default).x1+r,y1:=(cs.getD i.toNat default).y1+r,top:=(cs.getD i.toNat default).top }]) 0 z r (i+1) (Zaf dq)) /\
   (¬((cs.getD i.toNat default).top+1000>z)->(-9223372036854775808<=i+1/\i+1<=9223372036854775807) /\
    ZfU f cs u0 v0 u1 v1 th gp sf z r (i+1) (Zaf dq))) /\
  (¬(i<(↑cs.length:Int))->Weak (AV.vnil) dq)) :
 ZfU f cs u0 v0 u1 v1 th gp sf z r i (Zaf dq):=by
 unfold ZfU
 have w1:(List.map Bx.a cs).length=cs.length:=List.length_map ..
 have i2:(decide (i<(↑(List.map Bx.a cs).length:Int)))=true ↔ (i<(↑cs.length:Int)):=(by (try rw [w1]);all_goals exact Zab)
 rcases xq H with ⟨d3,H⟩|⟨d3,H⟩
 ·obtain ⟨k5,H⟩:=H
  have i6:(decide (i.toNat<(List.map Bx.a cs).length))=true ↔ (i.toNat<cs.length):=(by (try rw [w1]);all_goals exact Zab)
  obtain ⟨k7,k8,H⟩:=H
  have w9:wi ((cs.getD i.toNat default).top+1000)=(cs.getD i.toNat default).top+1000:=wI64 k8
  have i10:(decide (wi ((cs.getD i.toNat default).top+1000)>z))=true ↔ ((cs.getD i.toNat default).top+1000>z):=(by (try rw [w9]);all_goals exact Zab)
  refine Zad (G:=Zae kp8 [(5,4,.elem ((zNqP5 cs i)))] []) 11 [true] ⟨(atC (cd Tryz.f8) [1,1,0,1,0,0,1,0,0,1,1]),[(1,vi z),(2,vi r),(3,AV.ptr 0 0 0 0),(7,AV.vnil),(8,vi i),(9,AV.ptr 1 0 0 0),(26,vb (decide (wi ((cs.getD i.toNat default).top+1000)>z)))],[⟨[ag [vi u0,vi v0,vi u1,vi v1,vi th,vi gp,AV.vec f 5 (List.map Bx.a cs),vi sf]],8,0,false,false⟩,⟨[(zNqP5 cs i)],5,0,false,false⟩],_,[((List.map Bx.a cs).get?Internal i.toNat=some ((zNqP5 cs i)))],_⟩ (by kernel_rfl) (bc rfl (bc (Zan (i2.2 d3)) (bc rfl (bc (Zab.2 k5) (bc (i6.2 k7) (bc rfl (bc rfl b0))))))) (qc (Zao k7) q0) c0 ?_
  rcases xq H with ⟨d11,H⟩|⟨d11,H⟩
  ·obtain ⟨k12,H⟩:=H
   have w13:wi ((cs.getD i.toNat default).x0-r)=(cs.getD i.toNat default).x0-r:=wI64 k12
   obtain ⟨k14,H⟩:=H
   have w15:wi ((cs.getD i.toNat default).y0-r)=(cs.getD i.toNat default).y0-r:=wI64 k14
   obtain ⟨k16,H⟩:=H
   have w17:wi ((cs.getD i.toNat default).x1+r)=(cs.getD i.toNat default).x1+r:=wI64 k16
   obtain ⟨k18,H⟩:=H
   have w19:wi ((cs.getD i.toNat default).y1+r)=(cs.getD i.toNat default).y1+r:=wI64 k18
   obtain ⟨k20,H⟩:=H
   have w21:wi (i+1)=i+1:=wI64 k20
   have w22:[ag [vi ((cs.getD i.toNat default).x0-r),vi ((cs.getD i.toNat default).y0-r),vi ((cs.getD i.toNat default).x1+r),vi ((cs.getD i.toNat default).y1+r),vi (cs.getD i.toNat default).top]]=List.map Bx.a [{ x0:=(cs.getD i.toNat default).x0-r,y0:=(cs.getD i.toNat default).y0-r,x1:=(cs.getD i.toNat default).x1+r,y1:=(cs.getD i.toNat default).y1+r,top:=(cs.getD i.toNat default).top }]:=rfl
   exact Zad (G:=Zae kp8 [] []) 1000 [true] ⟨(atC (cd Tryz.f8) [1,1,0,1,0,0]),[(1,vi z),(2,vi r),(3,AV.ptr 0 0 0 0),(7,AV.row 2 0),(8,vi (wi (i+1)))],[⟨[ag [vi u0,vi v0,vi u1,vi v1,vi th,vi gp,AV.vec f 5 (List.map Bx.a cs),vi sf]],8,0,false,false⟩,⟨[(zNqP5 cs i)],5,0,false,false⟩,⟨[ag [vi (wi ((cs.getD i.toNat default).x0-r)),vi (wi ((cs.getD i.toNat default).y0-r)),vi (wi ((cs.getD i.toNat default).x1+r)),vi (wi ((cs.getD i.toNat default).y1+r)),vi (cs.getD i.toNat default).top]],5,0,false,true⟩],_,[],_⟩ (by kernel_rfl) (bc (Zan (i10.2 d11)) (bc rfl (bc rfl (bc rfl (bc rfl (bc rfl (bc rfl b0))))))) q0 c0 (by (try rw [w13]);(try rw [w15]);(try rw [w17]);(try rw [w19]);(try rw [w21]);(try rw [w22]);all_goals exact Zas [0,2] (by kernel_rfl) H)
  ·obtain ⟨k23,H⟩:=H
   have w24:wi (i+1)=i+1:=wI64 k23
   exact Zad (G:=Zae kp8 [] []) 1000 [false] ⟨(atC (cd Tryz.f8) [1,1,0,1,0,0]),[(1,vi z),(2,vi r),(3,AV.ptr 0 0 0 0),(7,AV.vnil),(8,vi (wi (i+1)))],[⟨[ag [vi u0,vi v0,vi u1,vi v1,vi th,vi gp,AV.vec f 5 (List.map Bx.a cs),vi sf]],8,0,false,false⟩,⟨[(zNqP5 cs i)],5,0,false,false⟩],_,[],_⟩ (by kernel_rfl) (bc (Zam (fun h=>d11 (i10.1 h))) b0) q0 c0 (by (try rw [w24]);all_goals exact Zas [0] (by kernel_rfl) H)
 ·exact Zai (G:=Zae kp8 [] []) 1000 [false] (AV.vnil) (by kernel_rfl) (bc rfl (bc (Zam (fun h=>d3 (i2.1 h))) b0)) q0 c0 H
noncomputable abbrev zNqP6 (cs:List Bx) (i:Int):=ag [vi (cs.getD i.toNat default).x0,vi (cs.getD i.toNat default).y0,vi (cs.getD i.toNat default).x1,vi (cs.getD i.toNat default).y1,vi (cs.getD i.toNat default).top]
theorem qBkL (f:Bool) (cs:List Bx) (u0 v0 u1 v1 th gp sf:Int) (gs:List Bx) (v:Nat) (z r i:Int)  (dq:AV) (H :
  ((i<(↑cs.length:Int))->(0<=i) /\
   (i.toNat<cs.length) /\
   (-9223372036854775808<=(cs.getD i.toNat default).top+1000/\(cs.getD i.toNat default).top+1000<=9223372036854775807) /\
   (((cs.getD i.toNat default).top+1000>z)->(-9223372036854775808<=(cs.getD i.toNat default).x0-r/\(cs.getD i.toNat default).x0-r<=9223372036854775807) /\
    (-9223372036854775808<=(cs.getD i.toNat default).y0-r/\(cs.getD i.toNat default).y0-r<=9223372036854775807) /\
    (-9223372036854775808<=(cs.getD i.toNat default).x1+r/\(cs.getD i.toNat default).x1+r<=9223372036854775807) /\
    (-9223372036854775808<=(cs.getD i.toNat default).y1+r/\(cs.getD i.toNat default).y1+r<=9223372036854775807) /\
    ((gs.length+1)*40<=1099511627776) /\
    (-9223372036854775808<=i+1/\i+1<=9223372036854775807) /\
    ZeR f cs u0 v0 u1 v1 th gp sf (gs++[{ x0:=(cs.getD i.toNat default).x0-r,y0:=(cs.getD i.toNat default).y0-r,x1:=(cs.getD i.toNat default).x1+r,y1:=(cs.getD i.toNat default).y1+r,top:=(cs.getD i.toNat default).top }]) (v+1) z r (i+1) (Zaf dq)) /\
   (¬((cs.getD i.toNat default).top+1000>z)->(-9223372036854775808<=i+1/\i+1<=9223372036854775807) /\
    ZeR f cs u0 v0 u1 v1 th gp sf gs v z r (i+1) (Zaf dq))) /\
  (¬(i<(↑cs.length:Int))->Weak (AV.vec false 5 (List.map Bx.a gs)) dq)) :
 ZeR f cs u0 v0 u1 v1 th gp sf gs v z r i (Zaf dq):=by
 unfold ZeR
 have w1:(List.map Bx.a cs).length=cs.length:=List.length_map ..
 have i2:(decide (i<(↑(List.map Bx.a cs).length:Int)))=true ↔ (i<(↑cs.length:Int)):=(by (try rw [w1]);all_goals exact Zab)
 rcases xq H with ⟨d3,H⟩|⟨d3,H⟩
 ·obtain ⟨k5,H⟩:=H
  have i6:(decide (i.toNat<(List.map Bx.a cs).length))=true ↔ (i.toNat<cs.length):=(by (try rw [w1]);all_goals exact Zab)
  obtain ⟨k7,k8,H⟩:=H
  have w9:wi ((cs.getD i.toNat default).top+1000)=(cs.getD i.toNat default).top+1000:=wI64 k8
  have i10:(decide (wi ((cs.getD i.toNat default).top+1000)>z))=true ↔ ((cs.getD i.toNat default).top+1000>z):=(by (try rw [w9]);all_goals exact Zab)
  refine Zad (G:=Zae kp8 [(5,4,.elem ((zNqP6 cs i)))] []) 11 [true] ⟨(atC (cd Tryz.f8) [1,1,0,1,0,0,1,0,0,1,1]),[(1,vi z),(2,vi r),(3,AV.ptr 0 0 0 0),(7,AV.row 1 v),(8,vi i),(9,AV.ptr 2 0 0 0),(26,vb (decide (wi ((cs.getD i.toNat default).top+1000)>z)))],[⟨[ag [vi u0,vi v0,vi u1,vi v1,vi th,vi gp,AV.vec f 5 (List.map Bx.a cs),vi sf]],8,0,false,false⟩,⟨List.map Bx.a gs,5,v,false,true⟩,⟨[(zNqP6 cs i)],5,0,false,false⟩],_,[((List.map Bx.a cs).get?Internal i.toNat=some ((zNqP6 cs i)))],_⟩ (by kernel_rfl) (bc rfl (bc (Zan (i2.2 d3)) (bc rfl (bc (Zab.2 k5) (bc (i6.2 k7) (bc rfl (bc rfl b0))))))) (qc (Zao k7) q0) c0 ?_
  rcases xq H with ⟨d11,H⟩|⟨d11,H⟩
  ·have w12:(List.map Bx.a gs).length=gs.length:=List.length_map ..
   obtain ⟨k13,H⟩:=H
   have w14:wi ((cs.getD i.toNat default).x0-r)=(cs.getD i.toNat default).x0-r:=wI64 k13
   obtain ⟨k15,H⟩:=H
   have w16:wi ((cs.getD i.toNat default).y0-r)=(cs.getD i.toNat default).y0-r:=wI64 k15
   obtain ⟨k17,H⟩:=H
   have w18:wi ((cs.getD i.toNat default).x1+r)=(cs.getD i.toNat default).x1+r:=wI64 k17
   obtain ⟨k19,H⟩:=H
   have w20:wi ((cs.getD i.toNat default).y1+r)=(cs.getD i.toNat default).y1+r:=wI64 k19
   have i21:(decide (((List.map Bx.a gs).length+1)*40<=1099511627776))=true ↔ ((gs.length+1)*40<=1099511627776):=(by (try rw [w12]);(try rw [w14]);(try rw [w16]);(try rw [w18]);(try rw [w20]);all_goals exact Zab)
   obtain ⟨k22,H⟩:=H
   have w23:List.map Bx.a gs++[ag [vi ((cs.getD i.toNat default).x0-r),vi ((cs.getD i.toNat default).y0-r),vi ((cs.getD i.toNat default).x1+r),vi ((cs.getD i.toNat default).y1+r),vi (cs.getD i.toNat default).top]]=List.map Bx.a (gs++[{ x0:=(cs.getD i.toNat default).x0-r,y0:=(cs.getD i.toNat default).y0-r,x1:=(cs.getD i.toNat default).x1+r,y1:=(cs.getD i.toNat default).y1+r,top:=(cs.getD i.toNat default).top }]):=(Zex rfl rfl)
   obtain ⟨k24,H⟩:=H
   have w25:wi (i+1)=i+1:=wI64 k24
   exact Zad (G:=Zae kp8 [] []) 1000 [true] ⟨(atC (cd Tryz.f8) [1,1,0,1,0,0]),[(1,vi z),(2,vi r),(3,AV.ptr 0 0 0 0),(7,AV.row 1 (v+1)),(8,vi (wi (i+1)))],[⟨[ag [vi u0,vi v0,vi u1,vi v1,vi th,vi gp,AV.vec f 5 (List.map Bx.a cs),vi sf]],8,0,false,false⟩,⟨List.map Bx.a gs++[ag [vi (wi ((cs.getD i.toNat default).x0-r)),vi (wi ((cs.getD i.toNat default).y0-r)),vi (wi ((cs.getD i.toNat default).x1+r)),vi (wi ((cs.getD i.toNat default).y1+r)),vi (cs.getD i.toNat default).top]],5,v+1,false,true⟩,⟨[(zNqP6 cs i)],5,0,false,false⟩],[(decide (wi ((cs.getD i.toNat default).top+1000)>z))==true,true,true,true,true,true,v==v,decide (((List.map Bx.a gs).length+1)*40<=1099511627776)],[],_⟩ (by kernel_rfl) (bc (Zan (i10.2 d11)) (bc rfl (bc rfl (bc rfl (bc rfl (bc rfl (bc (beq_self_eq_true _) (bc (i21.2 k22) b0)))))))) q0 c0 (by (try rw [w14]);(try rw [w16]);(try rw [w18]);(try rw [w20]);(try rw [w23]);(try rw [w25]);all_goals exact Zas [0,1] (by kernel_rfl) H)
  ·obtain ⟨k26,H⟩:=H
   have w27:wi (i+1)=i+1:=wI64 k26
   exact Zad (G:=Zae kp8 [] []) 1000 [false] ⟨(atC (cd Tryz.f8) [1,1,0,1,0,0]),[(1,vi z),(2,vi r),(3,AV.ptr 0 0 0 0),(7,AV.row 1 v),(8,vi (wi (i+1)))],[⟨[ag [vi u0,vi v0,vi u1,vi v1,vi th,vi gp,AV.vec f 5 (List.map Bx.a cs),vi sf]],8,0,false,false⟩,⟨List.map Bx.a gs,5,v,false,true⟩,⟨[(zNqP6 cs i)],5,0,false,false⟩],_,[],_⟩ (by kernel_rfl) (bc (Zam (fun h=>d11 (i10.1 h))) b0) q0 c0 (by (try rw [w27]);all_goals exact Zas [0,1] (by kernel_rfl) H)
 ·exact Zb2 (G:=Zae kp8 [] []) 1000 [false] (k:=((atC (cd Tryz.f8) [1,1,1,1])).tail) (env':=[(6,AV.row 1 v)]) (L':=[⟨[ag [vi u0,vi v0,vi u1,vi v1,vi th,vi gp,AV.vec f 5 (List.map Bx.a cs),vi sf]],8,0,false,false⟩,⟨List.map Bx.a gs,5,v,false,true⟩]) (asm:=[true,(decide (i<(↑(List.map Bx.a cs).length:Int)))==false]) (eqs:=[]) (calls:=[]) (AV.row 1 v) (by kernel_rfl) (by kernel_rfl) (Zag rfl (Zag (Zam (fun h=>d3 (i2.1 h))) ZaB)) ZaV ZaW (Zds (d:=(AV.vec false 5 (List.map Bx.a gs))) (bs:=[v==v]) (by kernel_rfl) (by kernel_rfl) (Zag (beq_self_eq_true _) ZaB) (by kernel_rfl) H)
end Go.Av

namespace Go.Av
open Go.Proofs
namespace N
noncomputable def hiF (ax ay bx by_ r:Int):List Bx->Int->Bool->Int × Bool
 | [],t,fo=>(t,fo)
 | c::cs,t,fo=>if nea c.x0 c.y0 c.x1 c.y1 ax ay bx by_ r/\(¬fo=true\/c.top>t) then hiF ax ay bx by_ r cs c.top true else hiF ax ay bx by_ r cs t fo
def okHi (cs:List Bx) (ax ay bx by_ r:Int):Prop:=cs.length<=1000/\(∀ c ∈ cs,ccb c)/\cc ax/\cc ay/\cc bx/\cc by_/\cc r
def blk1 (r:Int) (c:Bx):Bx:=⟨c.x0-r,c.y0-r,c.x1+r,c.y1+r,c.top⟩
def blk (cs:List Bx) (z r:Int):List Bx:=(cs.filter fun c=>decide (c.top+1000>z)).map (blk1 r)
def okBlk (cs:List Bx) (r:Int):Prop:=cs.length<=1000/\(∀ c ∈ cs,ccb c/\cc c.top)/\cc r
def bcs:List Bx:=[⟨10000,0,20000,5000,8000⟩]
end N
theorem hi_loop {f:Bool} {cs:List Bx} {ax ay bx by_ r:Int} (h:N.okHi cs ax ay bx by_ r) (m:Nat):∀ (i:Nat) (t:Int) (fo:Bool),i+m=cs.length ->
  ZeP f cs ax ay bx by_ r t fo cs.length i (Zaf (.tup [.int .i64 (N.hiF ax ay bx by_ r (cs.drop i) t fo).1,.bool (N.hiF ax ay bx by_ r (cs.drop i) t fo).2])):=by
 obtain ⟨h1,h2,h3,h4,h5,h6,h7⟩:=h
 induction m with
 | zero =>
  intro i t fo e
  refine qHiL _ _ _ _ _ _ _ _ _ _ _ _ ⟨fun x=>by omega,fun _ => ?_⟩
  rw [List.drop_eq_nil_of_le (by omega)];rfl
 | succ m ih =>
  intro i t fo e
  have hi:i<cs.length:=by omega
  refine qHiL _ _ _ _ _ _ _ _ _ _ _ _ ⟨fun x => ?_,fun x=>by omega⟩
  rw [Int.toNat_natCast,show (i:Int)+1=((i+1:Nat):Int) by omega,Zbu hi]
  obtain ⟨c1,c2,c3,c4⟩:=h2 _ (ZcM hi)
  refine ⟨by omega,hi,⟨c1,c2,c3,c4,h3,h4,h5,h6,h7⟩,fun k=>⟨by omega,?_⟩,fun k=>⟨by omega,?_⟩⟩
  ·rw [N.hiF,if_pos k];exact ih (i+1) _ _ (by omega)
  ·rw [N.hiF,if_neg k];exact ih (i+1) _ _ (by omega)
theorem ev21 (f:Bool) (cs:List Bx) (u0 v0 u1 v1 th gp sf ax ay bx by_ r:Int) (h:N.okHi cs ax ay bx by_ r):Ev M1 (.pure 21 [.agg [.int .i64 u0,.int .i64 v0,.int .i64 u1,.int .i64 v1,.int .i64 th,.int .i64 gp,.vec f 5 (cs.map Bx.a),.int .i64 sf],.agg [.int .i64 ax,.int .i64 ay],.agg [.int .i64 bx,.int .i64 by_],.int .i64 r]) (.tup [.int .i64 (N.hiF ax ay bx by_ r cs 0 false).1,.bool (N.hiF ax ay bx by_ r cs 0 false).2]) []:=by
 have:=hi_loop (f:=f) h cs.length 0 0 false (by omega)
 exact call21 (qHi _ _ _ _ _ _ _ _ _ _ _ _ _ _ _ this)
theorem blk_add {cs:List Bx} {z r:Int} {i:Nat} (hi:i<cs.length) (k:(cs.getD i default).top+1000>z):N.blk (cs.drop i) z r=⟨(cs.getD i default).x0-r,(cs.getD i default).y0-r,(cs.getD i default).x1+r,(cs.getD i default).y1+r,(cs.getD i default).top⟩::N.blk (cs.drop (i+1)) z r:=by
 rw [Zbu hi];unfold N.blk;rw [List.filter_cons_of_pos (p:=fun c:Bx=>decide (c.top+1000>z)) (decide_eq_true k)];rfl
theorem Zfz {cs:List Bx} {z r:Int} {i:Nat} (hi:i<cs.length) (k:¬(cs.getD i default).top+1000>z):N.blk (cs.drop i) z r=N.blk (cs.drop (i+1)) z r:=by
 rw [Zbu hi];unfold N.blk;rw [List.filter_cons_of_neg (by rw [decide_eq_true_iff];exact k)]
theorem blk_end {cs:List Bx} {z r:Int} {i:Nat} (hi:cs.length<=i):N.blk (cs.drop i) z r=[]:=by
 rw [List.drop_eq_nil_of_le hi];rfl
section
variable {f:Bool} {cs:List Bx} {z r:Int}
theorem bl_loop (h:N.okBlk cs r) (m:Nat):∀ (i:Nat) (gs:List Bx) (v:Nat),i+m=cs.length->gs.length<=i ->
  ZeQ f cs gs v z r cs.length i (Zaf (.vec false 5 ((gs++N.blk (cs.drop i) z r).map Bx.a))):=by
 obtain ⟨h1,h2,h3⟩:=h
 induction m with
 | zero =>
  intro i gs v e hg
  refine qBlL _ _ _ _ _ _ _ _ _ ⟨fun x=>by omega,fun _ => ?_⟩
  rw [blk_end (by omega),List.append_nil];exact .refl _
 | succ m ih =>
  intro i gs v e hg
  have hi:i<cs.length:=by omega
  obtain ⟨⟨c1,c2,c3,c4⟩,c5⟩:=h2 _ (ZcM hi)
  unfold N.cc at c1 c2 c3 c4 c5 h3
  refine qBlL _ _ _ _ _ _ _ _ _ ⟨fun x => ?_,fun x=>by omega⟩
  rw [Int.toNat_natCast,show (i:Int)+1=((i+1:Nat):Int) by omega]
  refine ⟨by omega,hi,by omega,fun k=>⟨by omega,by omega,by omega,by omega,by omega,by omega,?_⟩,fun k=>⟨by omega,?_⟩⟩
  ·have:=ih (i+1) (gs++[⟨(cs.getD i default).x0-r,(cs.getD i default).y0-r,(cs.getD i default).x1+r,(cs.getD i default).y1+r,(cs.getD i default).top⟩]) (v+1) (by omega) (by rw [List.length_append];show gs.length+1<=_;omega)
   rw [List.append_assoc] at this
   rw [blk_add hi k];exact this
  ·rw [Zfz hi k];exact ih (i+1) gs v (by omega) (by omega)
theorem bl_nil (h:N.okBlk cs r) (m:Nat):∀ i:Nat,i+m=cs.length ->
  ZfT f cs z r cs.length i (Zaf (.vec false 5 ((N.blk (cs.drop i) z r).map Bx.a))):=by
 have hh:=h
 obtain ⟨h1,h2,h3⟩:=h
 induction m with
 | zero =>
  intro i e
  refine qBl0 _ _ _ _ _ _ _ ⟨fun x=>by omega,fun _ => ?_⟩
  rw [blk_end (by omega)];exact .vnil 5
 | succ m ih =>
  intro i e
  have hi:i<cs.length:=by omega
  obtain ⟨⟨c1,c2,c3,c4⟩,c5⟩:=h2 _ (ZcM hi)
  unfold N.cc at c1 c2 c3 c4 c5 h3
  refine qBl0 _ _ _ _ _ _ _ ⟨fun x => ?_,fun x=>by omega⟩
  rw [Int.toNat_natCast,show (i:Int)+1=((i+1:Nat):Int) by omega]
  refine ⟨by omega,hi,by omega,fun k=>⟨by omega,by omega,by omega,by omega,by omega,?_⟩,fun k=>⟨by omega,?_⟩⟩
  ·rw [blk_add hi k]
   exact bl_loop hh m (i+1) [_] 0 (by omega) (by show 1<=_;omega)
  ·rw [Zfz hi k];exact ih (i+1) (by omega)
variable {u0 v0 u1 v1 th gp sf:Int}
theorem bk_loop (h:N.okBlk cs r) (m:Nat):∀ (i:Nat) (gs:List Bx) (v:Nat),i+m=cs.length->gs.length<=i ->
  ZeR f cs u0 v0 u1 v1 th gp sf gs v z r i (Zaf (.vec false 5 ((gs++N.blk (cs.drop i) z r).map Bx.a))):=by
 obtain ⟨h1,h2,h3⟩:=h
 induction m with
 | zero =>
  intro i gs v e hg
  refine qBkL _ _ _ _ _ _ _ _ _ _ _ _ _ _ _ ⟨fun x=>by omega,fun _ => ?_⟩
  rw [blk_end (by omega),List.append_nil];exact .refl _
 | succ m ih =>
  intro i gs v e hg
  have hi:i<cs.length:=by omega
  obtain ⟨⟨c1,c2,c3,c4⟩,c5⟩:=h2 _ (ZcM hi)
  unfold N.cc at c1 c2 c3 c4 c5 h3
  refine qBkL _ _ _ _ _ _ _ _ _ _ _ _ _ _ _ ⟨fun x => ?_,fun x=>by omega⟩
  rw [Int.toNat_natCast,show (i:Int)+1=((i+1:Nat):Int) by omega]
  refine ⟨by omega,hi,by omega,fun k=>⟨by omega,by omega,by omega,by omega,by omega,by omega,?_⟩,fun k=>⟨by omega,?_⟩⟩
  ·have:=ih (i+1) (gs++[⟨(cs.getD i default).x0-r,(cs.getD i default).y0-r,(cs.getD i default).x1+r,(cs.getD i default).y1+r,(cs.getD i default).top⟩]) (v+1) (by omega) (by rw [List.length_append];show gs.length+1<=_;omega)
   rw [List.append_assoc] at this
   rw [blk_add hi k];exact this
  ·rw [Zfz hi k];exact ih (i+1) gs v (by omega) (by omega)
theorem bk_nil (h:N.okBlk cs r) (m:Nat):∀ i:Nat,i+m=cs.length ->
  ZfU f cs u0 v0 u1 v1 th gp sf z r i (Zaf (.vec false 5 ((N.blk (cs.drop i) z r).map Bx.a))):=by
 have hh:=h
 obtain ⟨h1,h2,h3⟩:=h
 induction m with
 | zero =>
  intro i e
  refine qBk0 _ _ _ _ _ _ _ _ _ _ _ _ _ ⟨fun x=>by omega,fun _ => ?_⟩
  rw [blk_end (by omega)];exact .vnil 5
 | succ m ih =>
  intro i e
  have hi:i<cs.length:=by omega
  obtain ⟨⟨c1,c2,c3,c4⟩,c5⟩:=h2 _ (ZcM hi)
  unfold N.cc at c1 c2 c3 c4 c5 h3
  refine qBk0 _ _ _ _ _ _ _ _ _ _ _ _ _ ⟨fun x => ?_,fun x=>by omega⟩
  rw [Int.toNat_natCast,show (i:Int)+1=((i+1:Nat):Int) by omega]
  refine ⟨by omega,hi,by omega,fun k=>⟨by omega,by omega,by omega,by omega,by omega,?_⟩,fun k=>⟨by omega,?_⟩⟩
  ·rw [blk_add hi k]
   exact bk_loop hh m (i+1) [_] 0 (by omega) (by show 1<=_;omega)
  ·rw [Zfz hi k];exact ih (i+1) (by omega)
end
theorem ev7 (f:Bool) (cs:List Bx) (u0 v0 u1 v1 th gp sf z r:Int) (h:N.okBlk cs r):Ev M1 (.pure 7 [.agg [.int .i64 u0,.int .i64 v0,.int .i64 u1,.int .i64 v1,.int .i64 th,.int .i64 gp,.vec f 5 (cs.map Bx.a),.int .i64 sf],.int .i64 z,.int .i64 r]) (.vec false 5 ((N.blk cs z r).map Bx.a)) []:=
 call7 (qBl _ _ _ _ _ _ _ _ _ _ _ _ (bl_nil h cs.length 0 (by omega)))
theorem ev8 (f:Bool) (cs:List Bx) (u0 v0 u1 v1 th gp sf z r:Int) (h:N.okBlk cs r):Ev M1 (.pure 8 [.agg [.int .i64 u0,.int .i64 v0,.int .i64 u1,.int .i64 v1,.int .i64 th,.int .i64 gp,.vec f 5 (cs.map Bx.a),.int .i64 sf],.int .i64 z,.int .i64 r]) (.vec false 5 ((N.blk cs z r).map Bx.a)) []:=
 call8 (qBk _ _ _ _ _ _ _ _ _ _ _ _ (bk_nil h cs.length 0 (by omega)))
end Go.Av

namespace Go.Av
open Go.Proofs
set_option maxRecDepth 100000
def fi9:Fi:=⟨22,[.tmp 8]⟩
def kp9:List (Nat × List Nat):=[(0,[3,4,5,6]),(1,[9]),(2,[8])]
def fi11:Fi:=⟨7,[.tmp 2]⟩
def kp11:List (Nat × List Nat):=[(0,[1]),(1,[2])]
def qHgt_at (f:Bool) (cs:List Bx) (u0 v0 u1 v1 th gp sf:Int) (ax ay bx by_ r:Int) (Q:AV->Heap->Prop):Prop:=Wp M1 (.run fi9 (atC (cd Tryz.f9) []) [(0,.agg [.int .i64 u0,.int .i64 v0,.int .i64 u1,.int .i64 v1,.int .i64 th,.int .i64 gp,.vec f 5 (cs.map Bx.a),.int .i64 sf]),(1,.agg [.int .i64 ax,.int .i64 ay]),(2,.agg [.int .i64 bx,.int .i64 by_]),(3,.int .i64 r)] []) Q
def qFew_at (f:Bool) (cs:List Bx) (u0 v0 u1 v1 th gp sf:Int) (Q:AV->Heap->Prop):Prop:=Wp M1 (.run fi11 (atC (cd Tryz.f11) []) [(0,.agg [.int .i64 u0,.int .i64 v0,.int .i64 u1,.int .i64 v1,.int .i64 th,.int .i64 gp,.vec f 5 (cs.map Bx.a),.int .i64 sf])] []) Q
theorem call9 {args:List AV} {d:AV} (h:wc M1 fi9 Tryz.f9 args d):Ev M1 (.pure 9 args) d []:=pcl _ _ (by kernel_rfl) h
theorem call11 {args:List AV} {d:AV} (h:wc M1 fi11 Tryz.f11 args d):Ev M1 (.pure 11 args) d []:=pcl _ _ (by kernel_rfl) h
theorem qHgt (f:Bool) (cs:List Bx) (u0 v0 u1 v1 th gp sf:Int) (ax ay bx by_ r:Int)  (dq:AV) (H :
  (N.okHi cs ax ay bx by_ r) /\
  (-9223372036854775808<=(1000+if (N.hiF ax ay bx by_ r cs 0 false).fst>0 then (N.hiF ax ay bx by_ r cs 0 false).fst else 0)/\(1000+if (N.hiF ax ay bx by_ r cs 0 false).fst>0 then (N.hiF ax ay bx by_ r cs 0 false).fst else 0)<=9223372036854775807) /\
  vi (1000+if (N.hiF ax ay bx by_ r cs 0 false).fst>0 then (N.hiF ax ay bx by_ r cs 0 false).fst else 0)=dq) :
 qHgt_at f cs u0 v0 u1 v1 th gp sf ax ay bx by_ r (Zaf dq):=by
 unfold qHgt_at
 obtain ⟨k1,k2,H⟩:=H
 have w3:wi (1000+if (N.hiF ax ay bx by_ r cs 0 false).fst>0 then (N.hiF ax ay bx by_ r cs 0 false).fst else 0)=1000+if (N.hiF ax ay bx by_ r cs 0 false).fst>0 then (N.hiF ax ay bx by_ r cs 0 false).fst else 0:=wI64 k2
 exact Zaq (G:=Zae kp9 [(1,4,.call (tu [vi (N.hiF ax ay bx by_ r cs 0 false).fst,vb (N.hiF ax ay bx by_ r cs 0 false).2]) none)] []) 1000 [] (vi (wi (1000+if (N.hiF ax ay bx by_ r cs 0 false).fst>0 then (N.hiF ax ay bx by_ r cs 0 false).fst else 0))) (by kernel_rfl) (bc rfl (bc rfl (bc rfl b0))) q0 (ce (@ev21 f cs u0 v0 u1 v1 th gp sf ax ay bx by_ r k1) c0) (by (try rw [w3]);all_goals exact H)
theorem qFew (f:Bool) (cs:List Bx) (u0 v0 u1 v1 th gp sf:Int)  (dq:AV) (H :
  vb (decide ((↑cs.length:Int)<=6))=dq) :
 qFew_at f cs u0 v0 u1 v1 th gp sf (Zaf dq):=by
 unfold qFew_at
 have w1:(List.map Bx.a cs).length=cs.length:=List.length_map ..
 exact Zaq (G:=Zae kp11 [] []) 1000 [] (vb (decide ((↑(List.map Bx.a cs).length:Int)<=6))) (by kernel_rfl) (bc rfl b0) q0 c0 (by (try rw [w1]);all_goals exact H)
end Go.Av

namespace Go.Av
open Go.Proofs
noncomputable def N.hgt (cs:List Bx) (ax ay bx by_ r:Int):Int:=1000+if (N.hiF ax ay bx by_ r cs 0 false).fst>0 then (N.hiF ax ay bx by_ r cs 0 false).fst else 0
def N.okHg (cs:List Bx) (ax ay bx by_ r:Int):Prop:=N.okHi cs ax ay bx by_ r /\ ∀ c ∈ cs,c.top<=1000000000
theorem hiF_le {ax ay bx by_ r:Int}:∀ (cs:List Bx) (t:Int) (fo:Bool),t<=1000000000->(∀ c ∈ cs,c.top<=1000000000)->(N.hiF ax ay bx by_ r cs t fo).1<=1000000000:=by
 intro cs
 induction cs with
 | nil=>intro t fo h _;exact h
 | cons c cs ih =>
  intro t fo h h2
  rw [N.hiF]
  split
  ·exact ih _ _ (h2 c (.head _)) fun d hd=>h2 d (.tail _ hd)
  ·exact ih _ _ h fun d hd=>h2 d (.tail _ hd)
theorem hgt_bd {cs:List Bx} {ax ay bx by_ r:Int} (h:N.okHg cs ax ay bx by_ r):1000<=N.hgt cs ax ay bx by_ r/\N.hgt cs ax ay bx by_ r<=1000001000:=by
 have:=hiF_le (ax:=ax) (ay:=ay) (bx:=bx) (by_:=by_) (r:=r) cs 0 false (by omega) h.2
 unfold N.hgt
 split <;> omega
theorem ev9 (f:Bool) (cs:List Bx) (u0 v0 u1 v1 th gp sf ax ay bx by_ r:Int) (h:N.okHg cs ax ay bx by_ r):Ev M1 (.pure 9 [.agg [.int .i64 u0,.int .i64 v0,.int .i64 u1,.int .i64 v1,.int .i64 th,.int .i64 gp,.vec f 5 (cs.map Bx.a),.int .i64 sf],.agg [.int .i64 ax,.int .i64 ay],.agg [.int .i64 bx,.int .i64 by_],.int .i64 r]) (.int .i64 (N.hgt cs ax ay bx by_ r)) []:=by
 have b:=hgt_bd h
 exact call9 (qHgt _ _ _ _ _ _ _ _ _ _ _ _ _ _ _ ⟨h.1,by show _<=N.hgt cs ax ay bx by_ r/\N.hgt cs ax ay bx by_ r<=_;omega,rfl⟩)
theorem ev11 (f:Bool) (cs:List Bx) (u0 v0 u1 v1 th gp sf:Int):Ev M1 (.pure 11 [.agg [.int .i64 u0,.int .i64 v0,.int .i64 u1,.int .i64 v1,.int .i64 th,.int .i64 gp,.vec f 5 (cs.map Bx.a),.int .i64 sf]]) (.bool (decide (cs.length<=6))) []:=
 call11 (qFew _ _ _ _ _ _ _ _ _ _ (congrArg AV.bool (Zc9 (by omega))))
end Go.Av

namespace Go.Av
open Go.Proofs
set_option maxRecDepth 100000
def fi6:Fi:=⟨27,[.tmp 4]⟩
def kp6:List (Nat × List Nat):=[(0,[1,2]),(1,[2,7,8,9]),(2,[2,7,8,9,10]),(3,[2,6,7,8,9]),(4,[2,7,8,9,18]),(5,[4]),(6,[2,7,8,9]),(7,[4])]
def qRgt_at (f:Bool) (cs:List Bx) (u0 v0 u1 v1 th gp sf:Int) (nf:Bool) (ns:List Int) (Q:AV->Heap->Prop):Prop:=Wp M1 (.run fi6 (atC (cd Tryz.f6) []) [(0,.agg [.int .i64 u0,.int .i64 v0,.int .i64 u1,.int .i64 v1,.int .i64 th,.int .i64 gp,.vec f 5 (cs.map Bx.a),.int .i64 sf]),(1,.vec nf 1 (ns.map (.int .i64)))] []) Q
def Zes (f:Bool) (cs:List Bx) (u0 v0 u1 v1 th gp sf:Int) (nf:Bool) (ns:List Int) (n i:Int) (Q:AV->Heap->Prop):Prop:=Wp M1 (.run fi6 (atC (cd Tryz.f6) [1,0,1,0,0]) [(2,.ptr 0 0 0 0),(7,.vec nf 1 (ns.map (.int .i64))),(8,.int .i64 n),(9,.int .i64 i)] [⟨[.agg [.int .i64 u0,.int .i64 v0,.int .i64 u1,.int .i64 v1,.int .i64 th,.int .i64 gp,.vec f 5 (cs.map Bx.a),.int .i64 sf]],8,0,false,false⟩]) Q
theorem call6 {args:List AV} {d:AV} (h:wc M1 fi6 Tryz.f6 args d):Ev M1 (.pure 6 args) d []:=pcl _ _ (by kernel_rfl) h
theorem qRgt (f:Bool) (cs:List Bx) (u0 v0 u1 v1 th gp sf:Int) (nf:Bool) (ns:List Int)  (dq:AV) (H :
  Zes f cs u0 v0 u1 v1 th gp sf nf ns ((↑ns.length:Int)) 0 (Zaf dq)) :
 qRgt_at f cs u0 v0 u1 v1 th gp sf nf ns (Zaf dq):=by
 unfold qRgt_at
 have w1:(List.map vi ns).length=ns.length:=List.length_map ..
 exact Zad (G:=Zae kp6 [] []) 1000 [] ⟨(atC (cd Tryz.f6) [1,0,1,0,0]),[(2,AV.ptr 0 0 0 0),(7,AV.vec nf 1 (List.map vi ns)),(8,vi (↑(List.map vi ns).length:Int)),(9,vi 0)],[⟨[ag [vi u0,vi v0,vi u1,vi v1,vi th,vi gp,AV.vec f 5 (List.map Bx.a cs),vi sf]],8,0,false,false⟩],_,[],_⟩ (by kernel_rfl) b0 q0 c0 (by (try rw [w1]);all_goals exact H)
theorem qRgtL (f:Bool) (cs:List Bx) (u0 v0 u1 v1 th gp sf:Int) (nf:Bool) (ns:List Int) (n i:Int)  (dq:AV) (H :
  ((i<n)->(0<=i) /\
   (i.toNat<ns.length) /\
   (((ns.getD i.toNat default>10000000)\/(ns.getD i.toNat default < -10000000))->vb false=dq) /\
   (¬((ns.getD i.toNat default>10000000)\/(ns.getD i.toNat default < -10000000))->(-9223372036854775808<=i+1/\i+1<=9223372036854775807) /\
    Zes f cs u0 v0 u1 v1 th gp sf nf ns n (i+1) (Zaf dq))) /\
  (¬(i<n)->((cs.length<=6)->(cs.length<=1000)) /\
   vb (bif decide (cs.length<=6) then N.vaE cs u0 v0 u1 v1 th gp sf==0 else false)=dq)) :
 Zes f cs u0 v0 u1 v1 th gp sf nf ns n i (Zaf dq):=by
 unfold Zes
 rcases xq H with ⟨d2,H⟩|⟨d2,H⟩
 ·obtain ⟨k4,H⟩:=H
  have w5:(List.map vi ns).length=ns.length:=List.length_map ..
  have i6:(decide (i.toNat<(List.map vi ns).length))=true ↔ (i.toNat<ns.length):=(by (try rw [w5]);all_goals exact Zab)
  obtain ⟨k7,H⟩:=H
  refine Zad (G:=Zae kp6 [(3,1,.elem (vi (ns.getD i.toNat default)))] []) 11 [true] ⟨(atC (cd Tryz.f6) [1,0,1,0,0,1,1,0,0,1,1]),[(2,AV.ptr 0 0 0 0),(7,AV.vec nf 1 (List.map vi ns)),(8,vi n),(9,vi i),(18,vb (bif decide (ns.getD i.toNat default>10000000) then true else decide (ns.getD i.toNat default < -10000000)))],[⟨[ag [vi u0,vi v0,vi u1,vi v1,vi th,vi gp,AV.vec f 5 (List.map Bx.a cs),vi sf]],8,0,false,false⟩],_,[((List.map vi ns).get?Internal i.toNat=some (vi (ns.getD i.toNat default)))],_⟩ (by kernel_rfl) (bc (Zan (Zab.2 d2)) (bc (Zab.2 k4) (bc (i6.2 k7) b0))) (qc (Zao k7) q0) c0 ?_
  rcases xq H with ⟨d9,H⟩|⟨d9,H⟩
  ·exact Zaq (G:=Zae kp6 [] []) 1000 [true] (vb false) (by kernel_rfl) (bc (Zan ((Zdf Zab Zab).2 d9)) b0) q0 c0 H
  ·obtain ⟨k10,H⟩:=H
   have w11:wi (i+1)=i+1:=wI64 k10
   exact Zad (G:=Zae kp6 [] []) 1000 [false] ⟨(atC (cd Tryz.f6) [1,0,1,0,0]),[(2,AV.ptr 0 0 0 0),(7,AV.vec nf 1 (List.map vi ns)),(8,vi n),(9,vi (wi (i+1)))],[⟨[ag [vi u0,vi v0,vi u1,vi v1,vi th,vi gp,AV.vec f 5 (List.map Bx.a cs),vi sf]],8,0,false,false⟩],_,[],_⟩ (by kernel_rfl) (bc (Zam (fun h=>d9 ((Zdf Zab Zab).1 h))) b0) q0 c0 (by (try rw [w11]);all_goals exact H)
 ·obtain ⟨k13,H⟩:=H
  exact Zaq (G:=Zae kp6 [(7,1,.call (vb (decide (cs.length<=6))) none),(7,4,.call (vi (N.vaE cs u0 v0 u1 v1 th gp sf)) none)] []) 1000 [false] (asm:=[(decide (i<n))==false,true,!(decide (cs.length<=6)==true&&true)||true]) (calls:=[⟨true,false,11,[ag [vi u0,vi v0,vi u1,vi v1,vi th,vi gp,AV.vec f 5 (List.map Bx.a cs),vi sf]],[],vb (decide (cs.length<=6)),[]⟩,⟨decide (cs.length<=6)==true&&true&&true,false,20,[ag [vi u0,vi v0,vi u1,vi v1,vi th,vi gp,AV.vec f 5 (List.map Bx.a cs),vi sf]],[],vi (N.vaE cs u0 v0 u1 v1 th gp sf),[]⟩]) (vb (bif decide (cs.length<=6) then N.vaE cs u0 v0 u1 v1 th gp sf==0 else false)) (by kernel_rfl) (bc (Zam (fun h=>d2 (Zab.1 h))) (bc rfl (bc (Bool.or_true _) b0))) q0 (cc (fun _=>(@ev11 f cs u0 v0 u1 v1 th gp sf)) (cc (fun hc=>((@ev20 f cs u0 v0 u1 v1 th gp sf (k13 ((i_at (i_at (i_bt Zab))).1 hc))):Ev M1 (Conf.pure 20 [ag [vi u0,vi v0,vi u1,vi v1,vi th,vi gp,AV.vec f 5 (List.map Bx.a cs),vi sf]]) (vi (N.vaE cs u0 v0 u1 v1 th gp sf)) [])) c0)) H
end Go.Av

namespace Go.Av
structure EG where
 keep:List (Nat × List (Nat × List Nat))
 hot:List (Nat × List (Nat × List Nat))
 known:List (Nat × List AV × AV):=[]
mutual
def beqA:AV->AV->Bool
 | .bool a,.bool b=>a==b
 | .int k n,.int j m=>decide (k=j)&&n==m
 | .str a,.str b=>a==b
 | .agg a,.agg b=>beqAL a b
 | .tup a,.tup b=>beqAL a b
 | .vec f es a,.vec g fs b=>f==g&&(es==fs&&beqAL a b)
 | .nilp,.nilp=>true
 | .vnil,.vnil=>true
 | _,_=>false
def beqAL:List AV->List AV->Bool
 | [],[]=>true
 | a::l,b::m=>beqA a b&&beqAL l m
 | _,_=>false
end
mutual
theorem beqA_eq:∀ (a b:AV),beqA a b=true->a=b
 | .bool a,b,h=>by cases b <;> simp [beqA] at h;rw [h]
 | .int k n,b,h=>by cases b <;> simp [beqA] at h;rw [h.1,h.2]
 | .str a,b,h=>by cases b <;> simp [beqA] at h;rw [h]
 | .agg a,b,h=>by cases b <;> simp [beqA] at h;rw [beqAL_eq a _ h]
 | .tup a,b,h=>by cases b <;> simp [beqA] at h;rw [beqAL_eq a _ h]
 | .vec f es a,b,h=>by cases b <;> simp [beqA] at h;rw [h.1,h.2.1,beqAL_eq a _ h.2.2]
 | .nilp,b,h=>by cases b <;> simp [beqA] at h;rfl
 | .vnil,b,h=>by cases b <;> simp [beqA] at h;rfl
 | .any,b,h=>by cases b <;> simp [beqA] at h
 | .ptr ..,b,h=>by cases b <;> simp [beqA] at h
 | .eptr ..,b,h=>by cases b <;> simp [beqA] at h
 | .row ..,b,h=>by cases b <;> simp [beqA] at h
 | .ref ..,b,h=>by cases b <;> simp [beqA] at h
 | .func ..,b,h=>by cases b <;> simp [beqA] at h
 | .nilf,b,h=>by cases b <;> simp [beqA] at h
theorem beqAL_eq:∀ (a b:List AV),beqAL a b=true->a=b
 | [],b,h=>by cases b <;> simp [beqAL] at h;rfl
 | a::l,b,h=>by
  cases b with
  | nil=>simp [beqAL] at h
  | cons b m=>simp [beqAL] at h;rw [beqA_eq a b h.1,beqAL_eq l m h.2]
end
def Zf8 (f:Nat) (args:List AV):List (Nat × List AV × AV)->Option AV
 | []=>none
 | (g,bs,v)::l=>bif Nat.beq f g&&beqAL args bs then some v else Zf8 f args l
theorem known_in {f:Nat} {args:List AV} {v:AV}:∀ {l:List (Nat × List AV × AV)},Zf8 f args l=some v->(f,args,v) ∈ l
 | [],h=>by simp [Zf8] at h
 | (g,bs,u)::l,h=>by
  unfold Zf8 at h
  cases hb:(Nat.beq f g&&beqAL args bs) with
  | true =>
   rw [hb] at h
   simp only [cond_true,Option.some.injEq] at h
   simp only [Bool.and_eq_true,Nat.beq_eq] at hb
   rw [h,hb.1,beqAL_eq _ _ hb.2];exact .head _
  | false=>rw [hb] at h;exact .tail _ (known_in h)
def ofFn:List (Nat × List (Nat × List Nat))->Nat->List (Nat × List Nat)
 | [],_=>[]
 | (f,l)::t,g=>bif Nat.beq f g then l else ofFn t g
def runX (M:Mach) (fi:Fi) (kp ht:List (Nat × List Nat)) (call:ZaZ):Nat->List Item->Vars->Heap->Option (AV × Heap)
 | 0,_,_,_=>none
 | n+1,todo,env,L =>
  match todo with
  | []=>match ZeG M.P fi env L with
   | some v=>some (v,L)
   | none=>none
  | .inBlock _::k=>runX M fi kp ht call n k env L
  | .inLoop b::k=>runX M fi kp ht call n (.code b :: .inLoop b::k) env L
  | .code c::k =>
   match c with
   | .skip=>runX M fi kp ht call n k env L
   | .seq a b=>runX M fi kp ht call n (.code a :: .code b::k) env L
   | .cond c a b=>match evV env c with
    | .bool t=>runX M fi kp ht call n (.code (bif t then a else b)::k) env L
    | _=>none
   | .block id b=>runX M fi kp ht call n (.code b :: .inBlock id::k) env L
   | .loop b=>runX M fi kp ht call n (.code b :: .inLoop b::k) env L
   | .exit id=>match exitTo id k with
    | some k'=>runX M fi kp ht call n k' env L
    | none=>none
   | .region id ops draw =>
    match (bif draw then Zhk (hotOf ops (Za5 ht id)) ops else true) with
    | false=>none
    | true =>
     match ZaD M.P M.inl call fi.n ops (fun _=>none) (bif draw then hotOf ops (Za5 ht id) else fun _=>2) (List.range ops.size) ⟨lift env,L,[],[],[]⟩ with
     | some s=>match s.asm.all (fun b=>b),s.eqs with
      | true,[]=>runX M fi kp ht call n k (ZeE (Za5 kp id) s.env) s.L
      | _,_=>none
     | none=>none
   | .ret=>match ZeG M.P fi env L with
    | some v=>some (v,L)
    | none=>none
   | _=>none
  | _=>none
def ansX (M:Mach) (K:List (Nat × List AV × AV)) (ex:FuncId->List AV->Heap->Option (AV × Heap)):ZaZ:=fun g args L =>
 match M.inl g with
 | true=>match ex g args L with
  | some (v,L')=>some (v,some L')
  | none=>none
 | false=>match Zf8 g args K with
  | some d=>some (d,none)
  | none=>match ex g args [] with
   | some (v,L')=>match pureA L' v with
    | some d=>bif (versA L' v).all (fun b=>b)&&d.clean then some (d,none) else none
    | none=>none
   | none=>none
def execX (M:Mach) (G:EG):Nat->FuncId->List AV->Heap->Option (AV × Heap)
 | 0=>fun _ _ _=>none
 | n+1=>fun f args L =>
  match (M.P ()).funcs[f]? with
  | some fn=>match fn.body,fn.name == "runtime.NumGoroutine" with
   | some c,false=>runX M ⟨fn.ntmps,fn.results.toList⟩ (ofFn G.keep f) (ofFn G.hot f) (ansX M G.known (execX M G n)) 100000 [.code c] (ZbY 0 args) L
   | _,_=>none
  | none=>none
def GoodC (inl:FuncId->Bool) (call:ZaZ) (c:CF):Prop:=
 (c.own=true/\inl c.f=true /\ ∃ o,call c.f c.args c.L=some (c.v,o)/\c.L'=o.getD c.L) \/
 (inl c.f=false /\ ∃ L1,call c.f c.args []=some (c.v,some L1)) \/
 (c.own=false/\inl c.f=false/\call c.f c.args []=some (c.v,none))
section
variable {P:Unit->Program}
theorem Zbw {x:Option AV} {r:SR} (h:ZbP x=some r):r.calls=[]:=by
 unfold ZbP at h;split at h
 ·simp only [Option.some.injEq] at h;subst h;rfl
 ·simp at h
theorem intBin_no {op:BinOp} {k:IntKind} {x y:Int} {r:SR} (h:Zhf op k x y=some r):r.calls=[]:=by
 unfold Zhf at h
 split at h <;> first | (simp only [Option.some.injEq] at h;subst h;rfl) | (simp at h)
theorem strBin_no {op:BinOp} {x y:List UInt8} {r:SR} (h:ZgX op x y=some r):r.calls=[]:=by
 unfold ZgX at h
 split at h <;> first | (simp only [Option.some.injEq] at h;subst h;rfl) | (simp at h)
theorem binA_no {op:BinOp} {T:TypeId} {x y:AV} {r:SR} (h:binA P op T x y=some r):r.calls=[]:=by
 unfold binA at h
 split at h
 ·simp only [Option.some.injEq] at h;subst h;rfl
 ·simp only [Option.some.injEq] at h;subst h;rfl
 ·split at h
  ·exact intBin_no h
  ·simp at h
 ·exact strBin_no h
 ·split at h
  ·exact Zbw h
  ·simp at h
 ·split at h
  ·exact Zbw h
  ·simp at h
 ·simp at h
theorem boxA_no {L:Heap} {x:AV} {r:SR} (h:boxA L x=some r):r.calls=[]:=by
 unfold boxA at h;split at h
 ·simp only [Option.some.injEq] at h;subst h;rfl
 ·simp at h
theorem loadA_no {el:Option AV} {L:Heap} {T:TypeId} {p:AV} {r:SR} (h:loadA P el L T p=some r):r.calls=[]:=by
 unfold loadA at h
 repeat' split at h
 all_goals first | (simp only [Option.some.injEq] at h;subst h;rfl) | (simp at h)
theorem storeA_no {el:Option AV} {L:Heap} {T:TypeId} {p v:AV} {r:SR} (h:ZgY P el L T p v=some r):r.calls=[]:=by
 unfold ZgY at h
 repeat' split at h
 all_goals first | (simp only [Option.some.injEq] at h;subst h;rfl) | (simp at h)
theorem ZgF {keep:Bool} {L:Heap} {T:TypeId} {len:Nat} {parts:List (Nat × AV)} {r:SR} (h:Zbv P keep L T len parts=some r):r.calls=[]:=by
 unfold Zbv at h
 cases keep <;> simp only [cond_true,cond_false] at h <;> (repeat' split at h) <;> first | (simp only [Option.some.injEq] at h;subst h;rfl) | (simp at h)
theorem indexAddrA_no {L:Heap} {T:TypeId} {x i:AV} {r:SR} (h:Zcz P L T x i=some r):r.calls=[]:=by
 unfold Zcz at h
 repeat' split at h
 all_goals first | (simp only [Option.some.injEq] at h;subst h;rfl) | (simp at h)
theorem indexA_no {T:TypeId} {x i:AV} {r:SR} (h:Zhg P T x i=some r):r.calls=[]:=by
 unfold Zhg at h
 repeat' split at h
 all_goals first | (simp only [Option.some.injEq] at h;subst h;rfl) | (simp at h)
theorem sliceA_no {L:Heap} {T:TypeId} {x:AV} {lo hi mx:Option AV} {r:SR} (h:Zg0 P L T x lo hi mx=some r):r.calls=[]:=by
 unfold Zg0 at h
 repeat' split at h
 all_goals first | (simp only [Option.some.injEq] at h;subst h;rfl) | (simp at h)
theorem Zhm {L:Heap} {T:TypeId} {s x:AV} {r:SR} (h:ZdD P L T s x=some r):r.calls=[]:=by
 unfold ZdD at h
 repeat' split at h
 all_goals first | (simp only [Option.some.injEq] at h;subst h;rfl) | (simp at h)
theorem clearA_no {L:Heap} {T:TypeId} {d:AV} {r:SR} (h:clearA P L T d=some r):r.calls=[]:=by
 unfold clearA at h
 repeat' split at h
 all_goals first | (simp only [Option.some.injEq] at h;subst h;rfl) | (simp at h)
theorem lenA_no {L:Heap} {T:TypeId} {x:AV} {r:SR} (h:lenA P L T x=some r):r.calls=[]:=by
 unfold lenA at h
 repeat' split at h
 all_goals first | (simp only [Option.some.injEq] at h;subst h;rfl) | (simp at h)
theorem makeSliceA_no {L:Heap} {T:TypeId} {a b:AV} {r:SR} (h:ZcY P L T a b=some r):r.calls=[]:=by
 unfold ZcY at h
 repeat' split at h
 all_goals first | (simp only [Option.some.injEq] at h;subst h;rfl) | (simp at h)
theorem callF_good {inl:FuncId->Bool} {call:ZaZ} {L:Heap} {g:FuncId} {args:List AV} {r:SR} (h:Ze0 inl call L g args=some r):∀ c ∈ r.calls,GoodC inl call c:=by
 unfold Ze0 at h
 cases hi:inl g with
 | true =>
  rw [hi] at h
  simp only [cond_true] at h
  split at h
  ·rename_i rs args' Lc hin
   split at h
   ·rename_i v o hc
    split at h
    ·simp only [Option.some.injEq] at h
     subst h
     intro c hm
     simp only [List.mem_singleton] at hm
     subst hm
     exact .inl ⟨rfl,hi,o,hc,rfl⟩
    ·simp at h
   ·simp at h
  ·simp at h
 | false =>
  rw [hi] at h
  simp only [cond_false] at h
  split at h
  ·rename_i ds hds
   split at h
   ·rename_i d hc
    split at h
    ·split at h
     all_goals
      simp only [Option.some.injEq] at h
      subst h
      intro c hm
      simp only [List.mem_singleton] at hm
      subst hm
      exact .inr (.inr ⟨rfl,hi,hc⟩)
    ·simp at h
   ·rename_i v L1 hc
    split at h
    ·split at h
     ·split at h
      ·simp only [Option.some.injEq] at h
       subst h
       intro c hm
       simp only [List.mem_singleton] at hm
       subst hm
       exact .inr (.inl ⟨hi,L1,hc⟩)
      ·simp at h
     ·simp at h
    ·simp at h
   ·simp at h
  ·simp at h
theorem Za1 {inl:FuncId->Bool} {call:ZaZ} {r:SR} (h:r.calls=[]):∀ c ∈ r.calls,GoodC inl call c:=by
 rw [h];intro c hc;cases hc
theorem callA_good {inl:FuncId->Bool} {call:ZaZ} {ρ:Operand->AV} {L:Heap} {c:Call} {r:SR} (h:Zcs P inl call ρ L c=some r):∀ c ∈ r.calls,GoodC inl call c:=by
 unfold Zcs at h
 split at h
 ·apply Za1
  split at h
  ·split at h
   ·exact Zhm h
   ·exact Zhm h
   ·simp at h
  ·exact clearA_no h
  ·exact lenA_no h
  ·exact Zbw h
  ·exact Zbw h
  ·exact Zbw h
  ·simp at h
 ·split at h
  ·exact callF_good h
  ·simp at h
 ·simp at h
theorem stepA_good {inl:FuncId->Bool} {call:ZaZ} {ρ:Zbj->Operand->AV} {L:Heap} {o:Oper} {r:SR} (h:Zbn P inl call none ρ L o=some r):∀ c ∈ r.calls,GoodC inl call c:=by
 unfold Zbn at h
 simp only at h
 split at h
 ·simp only [Option.some.injEq] at h;subst h;exact Za1 rfl
 ·simp only [Option.some.injEq] at h;subst h;exact Za1 rfl
 ·split at h
  ·exact Za1 (Zbw h)
  ·exact Za1 (Zbw h)
 ·split at h
  ·exact Za1 (boxA_no h)
  ·simp at h
 ·exact Za1 (boxA_no h)
 ·exact Za1 (Zbw h)
 ·exact Za1 (ZgF h)
 ·exact Za1 (loadA_no h)
 ·exact Za1 (storeA_no h)
 ·split at h
  ·simp only [Option.some.injEq] at h;subst h;exact Za1 rfl
  ·simp only [Option.some.injEq] at h;subst h;exact Za1 rfl
  ·simp at h
 ·exact Za1 (binA_no h)
 ·exact Za1 (Zbw h)
 ·exact Za1 (Zbw h)
 ·simp only [Option.some.injEq] at h;subst h;exact Za1 rfl
 ·exact Za1 (makeSliceA_no h)
 ·exact Za1 (sliceA_no h)
 ·exact Za1 (Zbw h)
 ·exact Za1 (Zbw h)
 ·exact Za1 (indexAddrA_no h)
 ·exact Za1 (indexA_no h)
 ·split at h
  ·exact Za1 (Zbw h)
  ·simp at h
 ·exact callA_good h
 ·simp at h
theorem runOp_good {inl:FuncId->Bool} {call:ZaZ} {n:Nat} {ops:Array Oper} {hot:Nat} {o:Oper} {s s':RS} (h:ZbO P inl call n ops none hot o s=some s') (hs:∀ c ∈ s.calls,GoodC inl call c) :
  ∀ c ∈ s'.calls,GoodC inl call c:=by
 unfold ZbO at h
 split at h
 ·simp at h
 ·split at h
  ·simp only [Option.some.injEq] at h;subst h;exact hs
  ·simp at h
 ·split at h
  ·split at h
   ·simp at h
   ·split at h
    ·simp only [Option.some.injEq] at h;subst h;exact hs
    ·simp at h
  ·rename_i r hr
   have hg:=stepA_good hr
   split at h
   ·simp at h
   ·split at h
    ·simp at h
    ·split at h
     ·simp only [Option.some.injEq] at h;subst h
      intro c hc
      rcases List.mem_append.1 hc with hc | hc
      ·exact hs c hc
      ·exact hg c hc
     ·simp only [Option.some.injEq] at h;subst h
      intro c hc
      rcases List.mem_append.1 hc with hc | hc
      ·exact hs c hc
      ·obtain ⟨c0,h1,rfl⟩:=List.mem_map.1 hc
       exact hg c0 h1
theorem runOps_good {inl:FuncId->Bool} {call:ZaZ} {n:Nat} {ops:Array Oper} {hot:Nat->Nat}:∀ (l:List Nat) {s s':RS},ZaD P inl call n ops (fun _=>none) hot l s=some s'->(∀ c ∈ s.calls,GoodC inl call c) ->
  ∀ c ∈ s'.calls,GoodC inl call c:=by
 intro l
 induction l with
 | nil=>intro s s' h hs;simp only [ZaD,Option.some.injEq] at h;subst h;exact hs
 | cons i rest ih =>
  intro s s' h hs
  simp only [ZaD] at h
  split at h
  ·exact ih h hs
  ·split at h
   ·rename_i s1 h1
    exact ih h (runOp_good h1 hs)
   ·simp at h
end
def AnsOk (M:Mach) (call:ZaZ):Prop:=∀ f args L v o,call f args L=some (v,o) ->
 (M.inl f=true->Ev M (.own f args L) v (o.getD L))/\(M.inl f=false->o=none/\Ev M (.pure f args) v [])
theorem runX_sound {M:Mach} {fi:Fi} {kp ht:List (Nat × List Nat)} {call:ZaZ} (hc:AnsOk M call):∀ (n:Nat) {todo:List Item} {env:Vars} {L L':Heap} {v:AV},runX M fi kp ht call n todo env L=some (v,L') ->
  Ev M (.run fi todo env L) v L':=by
 intro n
 induction n with
 | zero=>intro todo env L L' v h;simp [runX] at h
 | succ n ih =>
  intro todo env L L' v h
  unfold runX at h
  split at h
  ·split at h
   ·rename_i w hf
    simp only [Option.some.injEq,Prod.mk.injEq] at h
    obtain ⟨rfl,rfl⟩:=h
    exact .done hf ⟨rfl,rfl⟩
   ·simp at h
  ·exact .inBlock (ih h)
  ·exact .inLoop (ih h)
  ·split at h
   ·exact .skip (ih h)
   ·exact .seq (ih h)
   ·split at h
    ·rename_i t ht
     exact .cond t ht (ih h)
    ·simp at h
   ·exact .block (ih h)
   ·exact .loop (ih h)
   ·split at h
    ·rename_i k' hk
     exact .exit hk (ih h)
    ·simp at h
   ·split at h
    ·simp at h
    ·rename_i id ops draw hd
     split at h
     ·rename_i s hr
      split at h
      ·rename_i ha he
       have hg:=runOps_good _ hr (by intro c hc;cases hc)
       refine .region call (fun _=>none) _ _ s (fun h1 => ?_) hr (fun b hb => ?_) (fun p hp => ?_) (fun c hcm _ ho => ?_) (fun c hcm _ ho => ?_) (ih h)
       ·subst h1;exact hd
       ·exact (List.all_eq_true.1 ha) b hb
       ·rw [he] at hp;cases hp
       ·rcases hg c hcm with ⟨_,h2,o,h3,h4⟩ | ⟨h2,L1,h3⟩ | ⟨h2,_⟩
        ·rw [h4];exact (hc _ _ _ _ _ h3).1 h2
        ·have:=((hc _ _ _ _ _ h3).2 h2).1;simp at this
        ·rw [ho] at h2;simp at h2
       ·rcases hg c hcm with ⟨h2,_⟩ | ⟨h2,L1,h3⟩ | ⟨_,h2,h3⟩
        ·rw [ho] at h2;simp at h2
        ·have:=((hc _ _ _ _ _ h3).2 h2).1;simp at this
        ·exact ((hc _ _ _ _ _ h3).2 h2).2
      ·simp at h
     ·simp at h
   ·split at h
    ·rename_i w hf
     simp only [Option.some.injEq,Prod.mk.injEq] at h
     obtain ⟨rfl,rfl⟩:=h
     exact .ret hf ⟨rfl,rfl⟩
    ·simp at h
   ·simp at h
  ·simp at h
def KnownOk (M:Mach) (G:EG):Prop:=∀ k ∈ G.known,Ev M (.pure k.1 k.2.1) k.2.2 []
theorem ansX_ok {M:Mach} {G:EG} (hK:KnownOk M G) {ex:FuncId->List AV->Heap->Option (AV × Heap)} (h:∀ f args L v L',ex f args L=some (v,L')->Ev M (.own f args L) v L'):AnsOk M (ansX M G.known ex):=by
 intro f args L v o hc
 unfold ansX at hc
 split at hc
 ·rename_i hi
  refine ⟨fun _ => ?_,fun h2=>by rw [hi] at h2;simp at h2⟩
  split at hc
  ·rename_i w L' he
   simp only [Option.some.injEq,Prod.mk.injEq] at hc
   obtain ⟨rfl,rfl⟩:=hc
   exact h _ _ _ _ _ he
  ·simp at hc
 ·rename_i hi
  refine ⟨fun h2=>by rw [hi] at h2;simp at h2,fun _ => ?_⟩
  split at hc
  ·rename_i d hd
   simp only [Option.some.injEq,Prod.mk.injEq] at hc
   obtain ⟨rfl,rfl⟩:=hc
   exact ⟨rfl,hK _ (known_in hd)⟩
  split at hc
  ·rename_i w L' he
   split at hc
   ·rename_i d hd
    cases hb:((versA L' w).all (fun b=>b)&&d.clean) with
    | false=>rw [hb] at hc;simp at hc
    | true =>
     rw [hb] at hc
     simp only [cond_true,Option.some.injEq,Prod.mk.injEq] at hc
     obtain ⟨rfl,rfl⟩:=hc
     simp only [Bool.and_eq_true,List.all_eq_true] at hb
     exact ⟨rfl,.pure (.mono (h _ _ _ _ _ he) fun x K ⟨e1,e2⟩=>by subst e1;subst e2;exact ⟨d,d,hd,hb.1,hb.2,.refl d,rfl,rfl⟩)⟩
   ·simp at hc
  ·simp at hc
theorem execX_sound {M:Mach} {G:EG} (hK:KnownOk M G):∀ (n:Nat) (f:FuncId) (args:List AV) (L:Heap) (v:AV) (L':Heap),execX M G n f args L=some (v,L')->Ev M (.own f args L) v L':=by
 intro n
 induction n with
 | zero=>intro f args L v L' h;simp [execX] at h
 | succ n ih =>
  intro f args L v L' h
  unfold execX at h
  split at h
  ·rename_i fn hf
   split at h
   ·rename_i c hb hn
    exact .own fn c hf hb hn (runX_sound (ansX_ok hK fun f args L v L' h=>ih f args L v L' h) _ h)
   ·simp at h
  ·simp at h
def execP (M:Mach) (G:EG) (n:Nat) (f:FuncId) (args:List AV):Option AV:=
 match execX M G n f args [] with
 | some (v,L')=>match pureA L' v with
  | some d=>bif (versA L' v).all (fun b=>b)&&d.clean then some d else none
  | none=>none
 | none=>none
theorem exec_ev {M:Mach} {G:EG} (hK:KnownOk M G) (n:Nat) {f:FuncId} {args:List AV} {d:AV} (h:execP M G n f args=some d):Ev M (.pure f args) d []:=by
 unfold execP at h
 split at h
 ·rename_i v L' he
  split at h
  ·rename_i d0 hd
   cases hb:((versA L' v).all (fun b=>b)&&d0.clean) with
   | false=>rw [hb] at h;simp at h
   | true =>
    rw [hb] at h
    simp only [cond_true,Option.some.injEq] at h
    subst h
    simp only [Bool.and_eq_true,List.all_eq_true] at hb
    exact .pure (.mono (execX_sound hK n _ _ _ _ _ he) fun x K ⟨e1,e2⟩=>by subst e1;subst e2;exact ⟨d0,d0,hd,hb.1,hb.2,.refl d0,rfl,rfl⟩)
  ·simp at h
 ·simp at h
end Go.Av

namespace Go.Av
open Go.Proofs
def awkT:List (Nat × List (Nat × List Nat)):=[(5,[(0,[]),(1,[1]),(2,[1,2,3]),(3,[0])]),
 (7,[(0,[1,2,3]),(1,[1,2,3,7]),(2,[1,2,7,11,12,13]),(3,[1,2,7,11,12,13,14]),(4,[1,2,7,9,11,12,13]),(5,[1,2,7,9,11,12,13,21]),(6,[1,2,7,11,12,13]),(7,[1,2,7,11,12,13]),(8,[6])]),
 (15,[(0,[0]),(1,[0])]),
 (16,[(0,[3,4,5]),(1,[3,4,5,14]),(2,[6,7]),(3,[3,4,5,17]),(4,[6,7]),(5,[3,4,5,31]),(6,[6,7]),(7,[3,4,5,8]),(8,[3,4,5,8,44]),(9,[6,7]),(10,[3,4,5,8,47]),(11,[6,7]),(12,[3,5,8,9]),(13,[5,8,9,52,53,54]),(14,[5,8,9,52,53,54,55]),(15,[5,8,9,11,52,53,54]),(16,[5,8,9,52,53,54]),(17,[5,8,9,52,53,54]),(18,[8,9]),(19,[12]),(20,[12,90]),(21,[6,7]),(22,[6,7])]),
 (17,[(0,[0,1,4]),(1,[4])]),
 (18,[(0,[0]),(1,[0,3]),(2,[0,3,4]),(3,[0,3,4,8]),(4,[0,3,4]),(5,[0,3,4]),(6,[2])]),
 (19,[(0,[3,4,5]),(1,[3,4,5,21]),(2,[6]),(3,[3,4,5,7,8]),(4,[3,4,5,7,8,9]),(5,[7,8,54]),(6,[6]),(7,[6])]),
 (24,[(0,[0]),(1,[5,6,7]),(2,[5,6,7,8]),(3,[4,5,6,7]),(4,[5,6,7,16]),(5,[2]),(6,[5,6,7]),(7,[2])]),
 (33,[(0,[0,1]),(1,[4])]),
 (34,[(0,[1]),(1,[2])]),
 (35,[(0,[1]),(1,[2])]),
 (36,[(0,[2,3,4]),(1,[5])]),
 (37,[(0,[1,2,3]),(1,[4])]),
 (38,[(0,[0,1]),(1,[0,1,5]),(2,[0,1,5,6]),(3,[0,1,5,6,7]),(4,[0,1,5,6,7,25,26]),(5,[0,1,5,6,7,25,26,27]),(6,[0,1,5,6,7,8,25,26]),(7,[0,1,5,6,7,25,26]),(8,[0,1,5,6,7,25,26]),(9,[0,1,5,6,7]),(10,[0,1,5,6,7,9]),(11,[0,1,5,6,7,9,39,40]),(12,[0,1,5,6,7,9,39,40,41]),(13,[0,1,5,6,7,9,10,39,40]),(14,[0,1,5,6,7,9,10,39,40,69]),(15,[0,1,5,6,7,9,39,40]),(16,[0,1,5,6,7,9,39,40]),(17,[0,1,5,6,7,9,73]),(18,[4]),(19,[0,1,5,6,7,9,78]),(20,[0,1,5,6,7,9]),(21,[0,1,5,6,7,9,83,84]),(22,[0,1,5,6,7,9,83,84,85]),(23,[0,1,5,6,7,9,11,83,84]),(24,[0,1,5,6,7,9,11,12,83,84]),(25,[0,1,5,6,7,9,11,12,83,84,132]),(26,[0,1,5,6,7,9,83,84]),(27,[0,1,5,6,7,9,83,84]),(28,[0,6,13]),(29,[0,6,13,14]),(30,[0,6,13,14,146]),(31,[0,6,13,14]),(32,[0,6,13,14,166]),(33,[0,6,13,14]),(34,[13]),(35,[4])]),
 (39,[(0,[2,3]),(1,[4])]),
 (40,[(0,[0,1,2,3,4,5]),(1,[0,1,2,3,4,5,14]),(2,[10]),(3,[0,1,2,3,4,5,11,12]),(4,[0,1,2,3,4,5,11,12,34]),(5,[4,5,11,12]),(6,[]),(7,[10])]),
 (41,[(0,[2,3,4]),(1,[2,3,4,7]),(2,[4]),(3,[4])]),
 (42,[(0,[2,3,4]),(1,[2,3,4,7]),(2,[4]),(3,[4])]),
 (43,[(0,[2,3]),(1,[4])]),
 (56,[(0,[0,1]),(1,[0,1,7,8]),(2,[0,1,7,8,9]),(3,[0,1,5,7,8]),(4,[0,1,5,7,8,16]),(5,[4]),(6,[0,1,7,8]),(7,[4])]),
 (57,[(0,[0,2,3]),(1,[0,2,3,9]),(2,[0,2,3]),(3,[0,2,3])])]
end Go.Av

namespace Go.Av
open Go.Proofs
theorem bcs_mem {c:Bx} (h:c ∈ N.bcs):c=⟨10000,0,20000,5000,8000⟩:=List.mem_singleton.1 h
theorem bcs_hg {ax ay bx by_ r:Int} (h:(N.cc ax/\N.cc ay)/\(N.cc bx/\N.cc by_)/\N.cc r):N.okHg N.bcs ax ay bx by_ r:=
 ⟨⟨by decide,fun c hc=>by rw [bcs_mem hc];unfold N.ccb N.cc;decide,h.1.1,h.1.2,h.2.1.1,h.2.1.2,h.2.2⟩,fun c hc=>by rw [bcs_mem hc];decide⟩
theorem bcs_n1:N.nea 10000 0 20000 5000 0 0 30000 0 3000:=by
 unfold N.nea N.neS N.seg;simp only [qi_eq];decide +kernel
theorem bcs_n2:¬N.nea 10000 0 20000 5000 0 9000 30000 9000 3000:=by
 unfold N.nea N.neS N.seg;simp only [qi_eq];decide +kernel
theorem bcs_h1:N.hgt N.bcs 0 0 30000 0 3000=9000:=by
 have e:N.hiF 0 0 30000 0 3000 N.bcs 0 false=(8000,true):=by
  unfold N.bcs;rw [N.hiF,if_pos ⟨bcs_n1,.inl (by decide)⟩];rfl
 unfold N.hgt;rw [e];rfl
theorem bcs_h2:N.hgt N.bcs 0 9000 30000 9000 3000=1000:=by
 have e:N.hiF 0 9000 30000 9000 3000 N.bcs 0 false=(0,false):=by
  unfold N.bcs;rw [N.hiF,if_neg fun x=>bcs_n2 x.1];rfl
 unfold N.hgt;rw [e];rfl
def benA:AV:=.agg [.int .i64 0,.int .i64 0,.int .i64 40000,.int .i64 30000,.int .i64 5000,.int .i64 0,.vec true 5 [.agg [.int .i64 10000,.int .i64 0,.int .i64 20000,.int .i64 5000,.int .i64 8000]],.int .i64 20000]
noncomputable def awkG:EG:=⟨awkT,[],[(9,[benA,.agg [.int .i64 0,.int .i64 0],.agg [.int .i64 30000,.int .i64 0],.int .i64 3000],.int .i64 9000),(9,[benA,.agg [.int .i64 0,.int .i64 9000],.agg [.int .i64 30000,.int .i64 9000],.int .i64 3000],.int .i64 1000)]⟩
theorem awkK:KnownOk M1 awkG:=by
 have C {n:Int} (h:-20000000<=n/\n<=20000000):N.cc n:=h
 intro k hk
 rcases List.mem_cons.1 hk with rfl | hk
 ·have:=ev9 true N.bcs 0 0 40000 30000 5000 0 20000 0 0 30000 0 3000 (bcs_hg ⟨⟨C (by decide),C (by decide)⟩,⟨C (by decide),C (by decide)⟩,C (by decide)⟩)
  rw [bcs_h1] at this;exact this
 ·rcases List.mem_cons.1 hk with rfl | hk
  ·have:=ev9 true N.bcs 0 0 40000 30000 5000 0 20000 0 9000 30000 9000 3000 (bcs_hg ⟨⟨C (by decide),C (by decide)⟩,⟨C (by decide),C (by decide)⟩,C (by decide)⟩)
   rw [bcs_h2] at this;exact this
  ·exact nomatch hk
set_option maxRecDepth 1000000 in
theorem ev5:Ev M1 (.pure 5 []) (.bool true) []:=exec_ev awkK 30 (by kernel_rfl)
def N.rgt (cs:List Bx) (u0 v0 u1 v1 th gp sf:Int):Prop:=cs.length<=6/\N.vaP cs u0 v0 u1 v1 th gp sf
end Go.Av

namespace Go.Av
structure Mv where
 kind:Int
 x:Int
 y:Int
 z:Int
 cx:Int
 cy:Int
 rate:Int
 deriving DecidableEq
instance:Inhabited Mv:=⟨⟨0,0,0,0,0,0,0⟩⟩
def Mv.a (m:Mv):AV:=.agg [.int .i64 m.kind,.int .i64 m.x,.int .i64 m.y,.int .i64 m.z,.int .i64 m.cx,.int .i64 m.cy,.int .i64 m.rate]
namespace N
def sam (x y z px py pz:Int):Prop:=x=px/\y=py/\z=pz
instance (x y z px py pz:Int):Decidable (sam x y z px py pz):=by unfold sam;infer_instance
def mkv (x y z r:Int):Mv:=if r>0 then ⟨2,x,y,z,0,0,r⟩ else ⟨1,x,y,z,0,0,0⟩
def tol (x y z px py pz r:Int):List Mv:=if sam x y z px py pz then [] else [mkv x y z r]
def stp (z:Int):Int:=if z>1000 then z else 1000
def dz1 (z pz:Int):Int:=if pz>stp z then stp z else pz
def ds2 (z pl px py pz:Int):List Mv:=if z<1000/\z<dz1 z pz then tol px py z px py (dz1 z pz) pl else []
def dno (z pz:Int):Prop:=¬pz>stp z/\¬(z<1000/\z<pz)
instance (z pz:Int):Decidable (dno z pz):=by unfold dno;infer_instance
end N
section
variable {z pl px py pz:Int}
end
end Go.Av

namespace Go.Av
open Go.Proofs
set_option maxRecDepth 100000
end Go.Av

namespace Go.Av
open Go.Proofs
end Go.Av

namespace Go.Av
open Go.Proofs
set_option maxRecDepth 100000
end Go.Av

namespace Go.Av
open Go.Proofs
end Go.Av

namespace Go.Av
open Go.Proofs
set_option maxRecDepth 100000
end Go.Av

namespace Go.Av
open Go.Proofs
end Go.Av

namespace Go.Av
open Go.Proofs
set_option maxRecDepth 100000
end Go.Av

namespace Go.Av
open Go.Proofs
namespace N
end N
section
variable {cs:List Bx} {u0 v0 u1 v1 th gp sf:Int}
theorem va_okH (h:N.vaP cs u0 v0 u1 v1 th gp sf) {ax ay bx by_ r:Int} (hc:(N.cc ax/\N.cc ay)/\(N.cc bx/\N.cc by_)/\N.cc r):N.okHg cs ax ay bx by_ r:=by
 obtain ⟨_,_,_,_,h5,h6⟩:=h
 refine ⟨⟨by omega,fun c hc => ?_,hc.1.1,hc.1.2,hc.2.1.1,hc.2.1.2,hc.2.2⟩,fun c hc => ?_⟩
 ·have:=(h6 c hc).1;unfold N.rct at this;unfold N.ccb N.cc;omega
 ·have:=(h6 c hc).2.1;unfold N.wth at this;omega
theorem va_okB (h:N.vaP cs u0 v0 u1 v1 th gp sf) {r:Int} (hr:N.cc r):N.okBlk cs r:=by
 obtain ⟨_,h2,h3,_,h5,h6⟩:=h
 refine ⟨by omega,fun c hc => ?_,hr⟩
 have a:=(h6 c hc).1
 have b:=(h6 c hc).2.1
 unfold N.wth at b h2 h3
 unfold N.rct at a
 unfold N.ccb N.cc;omega
theorem blk_len (cs:List Bx) (z r:Int):(N.blk cs z r).length<=cs.length:=by
 unfold N.blk;rw [List.length_map];exact List.length_filter_le ..
end
end Go.Av

namespace Go.Av
open Go.Proofs
set_option maxRecDepth 100000
def fi49:Fi:=⟨6,[.cell 2 87]⟩
def kp49:List (Nat × List Nat):=[(0,[1,2]),(1,[2])]
def fi66:Fi:=⟨31,[.tmp 4]⟩
def kp66:List (Nat × List Nat):=[(0,[2,3]),(1,[4])]
def fi67:Fi:=⟨10,[.cell 4 102]⟩
def kp67:List (Nat × List Nat):=[(0,[0,1,4]),(1,[4])]
def fi108:Fi:=⟨14,[.cell 4 87]⟩
def kp108:List (Nat × List Nat):=[(0,[2,3,4]),(1,[4,5]),(2,[4])]
def fi109:Fi:=⟨8,[.cell 4 87]⟩
def kp109:List (Nat × List Nat):=[(0,[2,3,4]),(1,[4])]
def fi121:Fi:=⟨8,[.cell 4 87]⟩
def kp121:List (Nat × List Nat):=[(0,[2,3,4]),(1,[4])]
def fi122:Fi:=⟨8,[.cell 4 87]⟩
def kp122:List (Nat × List Nat):=[(0,[2,3,4]),(1,[4])]
def qXadd_at (f1 f2 g1 g2:Bool) (r s:Rat) (Q:AV->Heap->Prop):Prop:=Wp M1 (.run fi122 (atC (cd Tryz.f122) []) [(0,ratA f1 f2 r),(1,ratA g1 g2 s)] []) Q
def qXsub_at (f1 f2 g1 g2:Bool) (r s:Rat) (Q:AV->Heap->Prop):Prop:=Wp M1 (.run fi121 (atC (cd Tryz.f121) []) [(0,ratA f1 f2 r),(1,ratA g1 g2 s)] []) Q
def qXmul_at (f1 f2 g1 g2:Bool) (r s:Rat) (Q:AV->Heap->Prop):Prop:=Wp M1 (.run fi109 (atC (cd Tryz.f109) []) [(0,ratA f1 f2 r),(1,ratA g1 g2 s)] []) Q
def qXov_at (f1 f2 g1 g2:Bool) (r s:Rat) (Q:AV->Heap->Prop):Prop:=Wp M1 (.run fi108 (atC (cd Tryz.f108) []) [(0,ratA f1 f2 r),(1,ratA g1 g2 s)] []) Q
def qXsq_at (f1 f2:Bool) (r:Rat) (Q:AV->Heap->Prop):Prop:=Wp M1 (.run fi49 (atC (cd Tryz.f49) []) [(0,ratA f1 f2 r)] []) Q
def qXvec_at (x y:Int) (Q:AV->Heap->Prop):Prop:=Wp M1 (.run fi67 (atC (cd Tryz.f67) []) [(0,.int .i64 x),(1,.int .i64 y)] []) Q
def qXin_at (x0 y0 x1 y1 tp x y:Int) (Q:AV->Heap->Prop):Prop:=Wp M1 (.run fi66 (atC (cd Tryz.f66) []) [(0,.agg [.int .i64 x0,.int .i64 y0,.int .i64 x1,.int .i64 y1,.int .i64 tp]),(1,.agg [.int .i64 x,.int .i64 y])] []) Q
theorem call49 {args:List AV} {d:AV} (h:wc M1 fi49 Tryz.f49 args d):Ev M1 (.pure 49 args) d []:=pcl _ _ (by kernel_rfl) h
theorem call66 {args:List AV} {d:AV} (h:wc M1 fi66 Tryz.f66 args d):Ev M1 (.pure 66 args) d []:=pcl _ _ (by kernel_rfl) h
theorem call67 {args:List AV} {d:AV} (h:wc M1 fi67 Tryz.f67 args d):Ev M1 (.pure 67 args) d []:=pcl _ _ (by kernel_rfl) h
theorem call108 {args:List AV} {d:AV} (h:wc M1 fi108 Tryz.f108 args d):Ev M1 (.pure 108 args) d []:=pcl _ _ (by kernel_rfl) h
theorem call109 {args:List AV} {d:AV} (h:wc M1 fi109 Tryz.f109 args d):Ev M1 (.pure 109 args) d []:=pcl _ _ (by kernel_rfl) h
theorem call121 {args:List AV} {d:AV} (h:wc M1 fi121 Tryz.f121 args d):Ev M1 (.pure 121 args) d []:=pcl _ _ (by kernel_rfl) h
theorem call122 {args:List AV} {d:AV} (h:wc M1 fi122 Tryz.f122 args d):Ev M1 (.pure 122 args) d []:=pcl _ _ (by kernel_rfl) h
theorem qXadd (f1 f2 g1 g2:Bool) (r s:Rat)  (dq:AV) (H :
  (N.okR r/\N.okR s) /\
  Weak (ratF (r+s)) dq) :
 qXadd_at f1 f2 g1 g2 r s (Zaf dq):=by
 unfold qXadd_at
 obtain ⟨k1,H⟩:=H
 exact Zai (G:=Zae kp122 [(1,2,.call (ratF (r+s)) none)] []) 1000 [] (ratF (r+s)) (by kernel_rfl) (bc rfl (bc rfl (bc rfl b0))) q0 (ce (@ev136 f1 f2 g1 g2 r s k1) c0) H
theorem qXsub (f1 f2 g1 g2:Bool) (r s:Rat)  (dq:AV) (H :
  (N.okR r/\N.okR s) /\
  Weak (ratF (r-s)) dq) :
 qXsub_at f1 f2 g1 g2 r s (Zaf dq):=by
 unfold qXsub_at
 obtain ⟨k1,H⟩:=H
 exact Zai (G:=Zae kp121 [(1,2,.call (ratF (r-s)) none)] []) 1000 [] (ratF (r-s)) (by kernel_rfl) (bc rfl (bc rfl (bc rfl b0))) q0 (ce (@ev135 f1 f2 g1 g2 r s k1) c0) H
theorem qXmul (f1 f2 g1 g2:Bool) (r s:Rat)  (dq:AV) (H :
  (N.okR r/\N.okR s) /\
  Weak (ratF (r*s)) dq) :
 qXmul_at f1 f2 g1 g2 r s (Zaf dq):=by
 unfold qXmul_at
 obtain ⟨k1,H⟩:=H
 exact Zai (G:=Zae kp109 [(1,2,.call (ratF (r*s)) none)] []) 1000 [] (ratF (r*s)) (by kernel_rfl) (bc rfl (bc rfl (bc rfl b0))) q0 (ce (@ev69 f1 f2 g1 g2 r s k1) c0) H
theorem qXov (f1 f2 g1 g2:Bool) (r s:Rat)  (dq:AV) (H :
  (N.okR r/\N.okR s/\s.num ≠ 0) /\
  Weak (ratF (r / s)) dq) :
 qXov_at f1 f2 g1 g2 r s (Zaf dq):=by
 unfold qXov_at
 obtain ⟨k1,H⟩:=H
 exact Zai (G:=Zae kp108 [(1,2,.call (tu [ratF (r / s),vi 0]) none)] []) 1000 [] (ratF (r / s)) (by kernel_rfl) (bc rfl (bc rfl (bc rfl (bc rfl (bc rfl b0))))) q0 (ce (@ev123 f1 f2 g1 g2 r s k1) c0) H
theorem qXsq (f1 f2:Bool) (r:Rat)  (dq:AV) (H :
  (N.okR r/\N.okR r) /\
  Weak (ratF (r*r)) dq) :
 qXsq_at f1 f2 r (Zaf dq):=by
 unfold qXsq_at
 obtain ⟨k1,H⟩:=H
 exact Zai (G:=Zae kp49 [(1,2,.call (ratF (r*r)) none)] []) 1000 [] (ratF (r*r)) (by kernel_rfl) (bc rfl (bc rfl (bc rfl b0))) q0 (ce (@ev69 f1 f2 f1 f2 r r k1) c0) H
theorem qXvec (x y:Int)  (dq:AV) (H :
  (N.inI x) /\
  (N.inI y) /\
  Weak (ag [vb (N.Zaa (N.qi x).num),vf (us (N.Zac (N.qi x).num)),vb (N.Zaa (↑(N.qi x).den:Int)),vf (us (N.Zac (↑(N.qi x).den:Int))),vb (N.Zaa (N.qi y).num),vf (us (N.Zac (N.qi y).num)),vb (N.Zaa (↑(N.qi y).den:Int)),vf (us (N.Zac (↑(N.qi y).den:Int)))]) dq) :
 qXvec_at x y (Zaf dq):=by
 unfold qXvec_at
 obtain ⟨k1,k2,H⟩:=H
 exact Zai (G:=Zae kp67 [(1,1,.call (ratF (N.qi x)) none),(1,3,.call (ratF (N.qi y)) none)] []) 1000 [] (ag [vb (N.Zaa (N.qi x).num),vf (us (N.Zac (N.qi x).num)),vb (N.Zaa (↑(N.qi x).den:Int)),vf (us (N.Zac (↑(N.qi x).den:Int))),vb (N.Zaa (N.qi y).num),vf (us (N.Zac (N.qi y).num)),vb (N.Zaa (↑(N.qi y).den:Int)),vf (us (N.Zac (↑(N.qi y).den:Int)))]) (by kernel_rfl) (bc rfl b0) q0 (ce (@ev50 x k1) (ce (@ev50 y k2) c0)) H
theorem qXin (x0 y0 x1 y1 tp x y:Int)  (dq:AV) (H :
  vb (bif bif bif decide (x0<=x) then decide (x<=x1) else false then decide (y0<=y) else false then decide (y<=y1) else false)=dq) :
 qXin_at x0 y0 x1 y1 tp x y (Zaf dq):=by
 unfold qXin_at
 exact Zaq (G:=Zae kp66 [] []) 1000 [] (asm:=[true,true,!(decide (x0<=x)==true&&true)||true,!(decide (x0<=x)==true&&true)||true,!((bif decide (x0<=x) then decide (x<=x1) else false)==true&&true)||true,!((bif decide (x0<=x) then decide (x<=x1) else false)==true&&true)||true,!((bif bif decide (x0<=x) then decide (x<=x1) else false then decide (y0<=y) else false)==true&&true)||true,!((bif bif decide (x0<=x) then decide (x<=x1) else false then decide (y0<=y) else false)==true&&true)||true]) (vb (bif bif bif decide (x0<=x) then decide (x<=x1) else false then decide (y0<=y) else false then decide (y<=y1) else false)) (by kernel_rfl) (bc rfl (bc rfl (bc (Bool.or_true _) (bc (Bool.or_true _) (bc (Bool.or_true _) (bc (Bool.or_true _) (bc (Bool.or_true _) (bc (Bool.or_true _) b0)))))))) q0 c0 H
end Go.Av

namespace Go.Av
open Go.Proofs
theorem ev122 (f1 f2 g1 g2:Bool) (r s:Rat) (h:N.okR r/\N.okR s):Ev M1 (.pure 122 [ratA f1 f2 r,ratA g1 g2 s]) (ratF (r+s)) []:=call122 (qXadd _ _ _ _ _ _ _ ⟨h,.refl _⟩)
theorem ev121 (f1 f2 g1 g2:Bool) (r s:Rat) (h:N.okR r/\N.okR s):Ev M1 (.pure 121 [ratA f1 f2 r,ratA g1 g2 s]) (ratF (r-s)) []:=call121 (qXsub _ _ _ _ _ _ _ ⟨h,.refl _⟩)
theorem ev109 (f1 f2 g1 g2:Bool) (r s:Rat) (h:N.okR r/\N.okR s):Ev M1 (.pure 109 [ratA f1 f2 r,ratA g1 g2 s]) (ratF (r*s)) []:=call109 (qXmul _ _ _ _ _ _ _ ⟨h,.refl _⟩)
theorem ev108 (f1 f2 g1 g2:Bool) (r s:Rat) (h:N.okR r/\N.okR s/\s.num ≠ 0):Ev M1 (.pure 108 [ratA f1 f2 r,ratA g1 g2 s]) (ratF (r / s)) []:=call108 (qXov _ _ _ _ _ _ _ ⟨h,.refl _⟩)
theorem ev49 (f1 f2:Bool) (r:Rat) (h:N.okR r):Ev M1 (.pure 49 [ratA f1 f2 r]) (ratF (r*r)) []:=call49 (qXsq _ _ _ _ ⟨⟨h,h⟩,.refl _⟩)
theorem ev67 (x y:Int) (h:N.Zga x y):Ev M1 (.pure 67 [.int .i64 x,.int .i64 y]) (vecA false false false false (N.qi x) (N.qi y)) []:=call67 (qXvec _ _ _ ⟨h.1,h.2,.refl _⟩)
theorem ev66 (x0 y0 x1 y1 tp x y:Int):Ev M1 (.pure 66 [.agg [.int .i64 x0,.int .i64 y0,.int .i64 x1,.int .i64 y1,.int .i64 tp],.agg [.int .i64 x,.int .i64 y]]) (.bool (decide (N.hld x0 y0 x1 y1 x y))) []:=
 call66 (qXin _ _ _ _ _ _ _ _ (congrArg AV.bool (by rw [Zbh,Zbh,Zbh];exact Zc9 (by unfold N.hld;omega))))
end Go.Av

namespace Go.Av
open Go.Proofs
set_option maxRecDepth 100000
def fi105:Fi:=⟨16,[.cell 4 87]⟩
def kp105:List (Nat × List Nat):=[(0,[2,3,4]),(1,[4])]
def fi106:Fi:=⟨16,[.cell 4 102]⟩
def kp106:List (Nat × List Nat):=[(0,[2,3,4]),(1,[4])]
def fi107:Fi:=⟨16,[.cell 4 87]⟩
def kp107:List (Nat × List Nat):=[(0,[2,3,4]),(1,[4])]
def qXway_at (f1 f2 f3 f4 f5 f6 f7 f8:Bool) (x1 y1 x2 y2:Rat) (Q:AV->Heap->Prop):Prop:=Wp M1 (.run fi106 (atC (cd Tryz.f106) []) [(0,.agg [.bool (N.Zaa x1.num),.vec f1 1 ((N.Zac x1.num).map (.int .u32)),.bool (N.Zaa (x1.den:Int)),.vec f2 1 ((N.Zac (x1.den:Int)).map (.int .u32)),.bool (N.Zaa y1.num),.vec f3 1 ((N.Zac y1.num).map (.int .u32)),.bool (N.Zaa (y1.den:Int)),.vec f4 1 ((N.Zac (y1.den:Int)).map (.int .u32))]),(1,.agg [.bool (N.Zaa x2.num),.vec f5 1 ((N.Zac x2.num).map (.int .u32)),.bool (N.Zaa (x2.den:Int)),.vec f6 1 ((N.Zac (x2.den:Int)).map (.int .u32)),.bool (N.Zaa y2.num),.vec f7 1 ((N.Zac y2.num).map (.int .u32)),.bool (N.Zaa (y2.den:Int)),.vec f8 1 ((N.Zac (y2.den:Int)).map (.int .u32))])] []) Q
def qXdot_at (f1 f2 f3 f4 f5 f6 f7 f8:Bool) (x1 y1 x2 y2:Rat) (Q:AV->Heap->Prop):Prop:=Wp M1 (.run fi107 (atC (cd Tryz.f107) []) [(0,.agg [.bool (N.Zaa x1.num),.vec f1 1 ((N.Zac x1.num).map (.int .u32)),.bool (N.Zaa (x1.den:Int)),.vec f2 1 ((N.Zac (x1.den:Int)).map (.int .u32)),.bool (N.Zaa y1.num),.vec f3 1 ((N.Zac y1.num).map (.int .u32)),.bool (N.Zaa (y1.den:Int)),.vec f4 1 ((N.Zac (y1.den:Int)).map (.int .u32))]),(1,.agg [.bool (N.Zaa x2.num),.vec f5 1 ((N.Zac x2.num).map (.int .u32)),.bool (N.Zaa (x2.den:Int)),.vec f6 1 ((N.Zac (x2.den:Int)).map (.int .u32)),.bool (N.Zaa y2.num),.vec f7 1 ((N.Zac y2.num).map (.int .u32)),.bool (N.Zaa (y2.den:Int)),.vec f8 1 ((N.Zac (y2.den:Int)).map (.int .u32))])] []) Q
def qXcro_at (f1 f2 f3 f4 f5 f6 f7 f8:Bool) (x1 y1 x2 y2:Rat) (Q:AV->Heap->Prop):Prop:=Wp M1 (.run fi105 (atC (cd Tryz.f105) []) [(0,.agg [.bool (N.Zaa x1.num),.vec f1 1 ((N.Zac x1.num).map (.int .u32)),.bool (N.Zaa (x1.den:Int)),.vec f2 1 ((N.Zac (x1.den:Int)).map (.int .u32)),.bool (N.Zaa y1.num),.vec f3 1 ((N.Zac y1.num).map (.int .u32)),.bool (N.Zaa (y1.den:Int)),.vec f4 1 ((N.Zac (y1.den:Int)).map (.int .u32))]),(1,.agg [.bool (N.Zaa x2.num),.vec f5 1 ((N.Zac x2.num).map (.int .u32)),.bool (N.Zaa (x2.den:Int)),.vec f6 1 ((N.Zac (x2.den:Int)).map (.int .u32)),.bool (N.Zaa y2.num),.vec f7 1 ((N.Zac y2.num).map (.int .u32)),.bool (N.Zaa (y2.den:Int)),.vec f8 1 ((N.Zac (y2.den:Int)).map (.int .u32))])] []) Q
theorem call105 {args:List AV} {d:AV} (h:wc M1 fi105 Tryz.f105 args d):Ev M1 (.pure 105 args) d []:=pcl _ _ (by kernel_rfl) h
theorem call106 {args:List AV} {d:AV} (h:wc M1 fi106 Tryz.f106 args d):Ev M1 (.pure 106 args) d []:=pcl _ _ (by kernel_rfl) h
theorem call107 {args:List AV} {d:AV} (h:wc M1 fi107 Tryz.f107 args d):Ev M1 (.pure 107 args) d []:=pcl _ _ (by kernel_rfl) h
theorem qXway (f1 f2 f3 f4 f5 f6 f7 f8:Bool) (x1 y1 x2 y2:Rat)  (dq:AV) (H :
  (N.okR x2/\N.okR x1) /\
  (N.okR y2/\N.okR y1) /\
  Weak (ag [vb (N.Zaa (x2-x1).num),vf (us (N.Zac (x2-x1).num)),vb (N.Zaa (↑(x2-x1).den:Int)),vf (us (N.Zac (↑(x2-x1).den:Int))),vb (N.Zaa (y2-y1).num),vf (us (N.Zac (y2-y1).num)),vb (N.Zaa (↑(y2-y1).den:Int)),vf (us (N.Zac (↑(y2-y1).den:Int)))]) dq) :
 qXway_at f1 f2 f3 f4 f5 f6 f7 f8 x1 y1 x2 y2 (Zaf dq):=by
 unfold qXway_at
 obtain ⟨k1,k2,H⟩:=H
 exact Zai (G:=Zae kp106 [(1,4,.call (ratF (x2-x1)) none),(1,9,.call (ratF (y2-y1)) none)] []) 1000 [] (ag [vb (N.Zaa (x2-x1).num),vf (us (N.Zac (x2-x1).num)),vb (N.Zaa (↑(x2-x1).den:Int)),vf (us (N.Zac (↑(x2-x1).den:Int))),vb (N.Zaa (y2-y1).num),vf (us (N.Zac (y2-y1).num)),vb (N.Zaa (↑(y2-y1).den:Int)),vf (us (N.Zac (↑(y2-y1).den:Int)))]) (by kernel_rfl) (bc rfl (bc rfl (bc rfl (bc rfl (bc rfl b0))))) q0 (ce (@ev121 f5 f6 f1 f2 x2 x1 k1) (ce (@ev121 f7 f8 f3 f4 y2 y1 k2) c0)) H
theorem qXdot (f1 f2 f3 f4 f5 f6 f7 f8:Bool) (x1 y1 x2 y2:Rat)  (dq:AV) (H :
  (N.okR x1/\N.okR x2) /\
  (N.okR y1/\N.okR y2) /\
  (N.okR (x1*x2)/\N.okR (y1*y2)) /\
  Weak (ratF (x1*x2+y1*y2)) dq) :
 qXdot_at f1 f2 f3 f4 f5 f6 f7 f8 x1 y1 x2 y2 (Zaf dq):=by
 unfold qXdot_at
 obtain ⟨k1,k2,k3,H⟩:=H
 exact Zai (G:=Zae kp107 [(1,4,.call (ratF (x1*x2)) none),(1,9,.call (ratF (y1*y2)) none),(1,10,.call (ratF (x1*x2+y1*y2)) none)] []) 1000 [] (ratF (x1*x2+y1*y2)) (by kernel_rfl) (bc rfl (bc rfl (bc rfl (bc rfl (bc rfl b0))))) q0 (ce (@ev109 f1 f2 f5 f6 x1 x2 k1) (ce (@ev109 f3 f4 f7 f8 y1 y2 k2) (ce (@ev122 false false false false (x1*x2) (y1*y2) k3) c0))) H
theorem qXcro (f1 f2 f3 f4 f5 f6 f7 f8:Bool) (x1 y1 x2 y2:Rat)  (dq:AV) (H :
  (N.okR x1/\N.okR y2) /\
  (N.okR y1/\N.okR x2) /\
  (N.okR (x1*y2)/\N.okR (y1*x2)) /\
  Weak (ratF (x1*y2-y1*x2)) dq) :
 qXcro_at f1 f2 f3 f4 f5 f6 f7 f8 x1 y1 x2 y2 (Zaf dq):=by
 unfold qXcro_at
 obtain ⟨k1,k2,k3,H⟩:=H
 exact Zai (G:=Zae kp105 [(1,4,.call (ratF (x1*y2)) none),(1,9,.call (ratF (y1*x2)) none),(1,10,.call (ratF (x1*y2-y1*x2)) none)] []) 1000 [] (ratF (x1*y2-y1*x2)) (by kernel_rfl) (bc rfl (bc rfl (bc rfl (bc rfl (bc rfl b0))))) q0 (ce (@ev109 f1 f2 f7 f8 x1 y2 k1) (ce (@ev109 f3 f4 f5 f6 y1 x2 k2) (ce (@ev121 false false false false (x1*y2) (y1*x2) k3) c0))) H
end Go.Av

namespace Go.Av
open Go.Proofs
theorem Zgk (f1 f2 f3 f4 f5 f6 f7 f8:Bool) (x1 y1 x2 y2:Rat) (h:N.okW x1 y1 x2 y2):Ev M1 (.pure 106 [vecA f1 f2 f3 f4 x1 y1,vecA f5 f6 f7 f8 x2 y2]) (vecA false false false false (x2-x1) (y2-y1)) []:=by
 obtain ⟨⟨h1,h2⟩,h3,h4⟩:=h
 exact call106 (qXway _ _ _ _ _ _ _ _ _ _ _ _ _ ⟨⟨ZaX h3 (by omega),ZaX h1 (by omega)⟩,⟨ZaX h4 (by omega),ZaX h2 (by omega)⟩,.refl _⟩)
theorem ev107 (f1 f2 f3 f4 f5 f6 f7 f8:Bool) (x1 y1 x2 y2:Rat) (h:N.okD x1 y1 x2 y2):Ev M1 (.pure 107 [vecA f1 f2 f3 f4 x1 y1,vecA f5 f6 f7 f8 x2 y2]) (ratF (x1*x2+y1*y2)) []:=by
 obtain ⟨⟨h1,h2⟩,h3,h4⟩:=h
 exact call107 (qXdot _ _ _ _ _ _ _ _ _ _ _ _ _ ⟨⟨ZaX h1 (by omega),ZaX h3 (by omega)⟩,⟨ZaX h2 (by omega),ZaX h4 (by omega)⟩,⟨ZaX (Zbs h1 h3) (by omega),ZaX (Zbs h2 h4) (by omega)⟩,.refl _⟩)
theorem ev105 (f1 f2 f3 f4 f5 f6 f7 f8:Bool) (x1 y1 x2 y2:Rat) (h:N.okD x1 y1 x2 y2):Ev M1 (.pure 105 [vecA f1 f2 f3 f4 x1 y1,vecA f5 f6 f7 f8 x2 y2]) (ratF (x1*y2-y1*x2)) []:=by
 obtain ⟨⟨h1,h2⟩,h3,h4⟩:=h
 exact call105 (qXcro _ _ _ _ _ _ _ _ _ _ _ _ _ ⟨⟨ZaX h1 (by omega),ZaX h4 (by omega)⟩,⟨ZaX h2 (by omega),ZaX h3 (by omega)⟩,⟨ZaX (Zbs h1 h4) (by omega),ZaX (Zbs h2 h3) (by omega)⟩,.refl _⟩)
end Go.Av

namespace Go.Av
open Go.Proofs
set_option maxRecDepth 100000
def fi84:Fi:=⟨55,[.tmp 8]⟩
def kp84:List (Nat × List Nat):=[(0,[4,5,6,7]),(1,[4,5,6,7,9,10]),(2,[9,10,11,12]),(3,[8])]
def fi85:Fi:=⟨49,[.cell 6 87]⟩
def kp85:List (Nat × List Nat):=[(0,[3,4,5,6]),(1,[4,5,6,7,8]),(2,[4,5,6,7,8,9,10]),(3,[4,5,6,7,8,9,10,27]),(4,[6]),(5,[4,5,6,7,8,9,34]),(6,[6,11]),(7,[6]),(8,[6,9,12]),(9,[6])]
def qXtos_at (f1 f2 f3 f4 f5 f6 f7 f8 f9 f10 f11 f12:Bool) (x1 y1 x2 y2 x3 y3:Rat) (Q:AV->Heap->Prop):Prop:=Wp M1 (.run fi85 (atC (cd Tryz.f85) []) [(0,.agg [.bool (N.Zaa x1.num),.vec f1 1 ((N.Zac x1.num).map (.int .u32)),.bool (N.Zaa (x1.den:Int)),.vec f2 1 ((N.Zac (x1.den:Int)).map (.int .u32)),.bool (N.Zaa y1.num),.vec f3 1 ((N.Zac y1.num).map (.int .u32)),.bool (N.Zaa (y1.den:Int)),.vec f4 1 ((N.Zac (y1.den:Int)).map (.int .u32))]),(1,.agg [.bool (N.Zaa x2.num),.vec f5 1 ((N.Zac x2.num).map (.int .u32)),.bool (N.Zaa (x2.den:Int)),.vec f6 1 ((N.Zac (x2.den:Int)).map (.int .u32)),.bool (N.Zaa y2.num),.vec f7 1 ((N.Zac y2.num).map (.int .u32)),.bool (N.Zaa (y2.den:Int)),.vec f8 1 ((N.Zac (y2.den:Int)).map (.int .u32))]),(2,.agg [.bool (N.Zaa x3.num),.vec f9 1 ((N.Zac x3.num).map (.int .u32)),.bool (N.Zaa (x3.den:Int)),.vec f10 1 ((N.Zac (x3.den:Int)).map (.int .u32)),.bool (N.Zaa y3.num),.vec f11 1 ((N.Zac y3.num).map (.int .u32)),.bool (N.Zaa (y3.den:Int)),.vec f12 1 ((N.Zac (y3.den:Int)).map (.int .u32))])] []) Q
def qXcrs_at (f1 f2 f3 f4 f5 f6 f7 f8 f9 f10 f11 f12 f13 f14 f15 f16:Bool) (x1 y1 x2 y2 x3 y3 x4 y4:Rat) (Q:AV->Heap->Prop):Prop:=Wp M1 (.run fi84 (atC (cd Tryz.f84) []) [(0,.agg [.bool (N.Zaa x1.num),.vec f1 1 ((N.Zac x1.num).map (.int .u32)),.bool (N.Zaa (x1.den:Int)),.vec f2 1 ((N.Zac (x1.den:Int)).map (.int .u32)),.bool (N.Zaa y1.num),.vec f3 1 ((N.Zac y1.num).map (.int .u32)),.bool (N.Zaa (y1.den:Int)),.vec f4 1 ((N.Zac (y1.den:Int)).map (.int .u32))]),(1,.agg [.bool (N.Zaa x2.num),.vec f5 1 ((N.Zac x2.num).map (.int .u32)),.bool (N.Zaa (x2.den:Int)),.vec f6 1 ((N.Zac (x2.den:Int)).map (.int .u32)),.bool (N.Zaa y2.num),.vec f7 1 ((N.Zac y2.num).map (.int .u32)),.bool (N.Zaa (y2.den:Int)),.vec f8 1 ((N.Zac (y2.den:Int)).map (.int .u32))]),(2,.agg [.bool (N.Zaa x3.num),.vec f9 1 ((N.Zac x3.num).map (.int .u32)),.bool (N.Zaa (x3.den:Int)),.vec f10 1 ((N.Zac (x3.den:Int)).map (.int .u32)),.bool (N.Zaa y3.num),.vec f11 1 ((N.Zac y3.num).map (.int .u32)),.bool (N.Zaa (y3.den:Int)),.vec f12 1 ((N.Zac (y3.den:Int)).map (.int .u32))]),(3,.agg [.bool (N.Zaa x4.num),.vec f13 1 ((N.Zac x4.num).map (.int .u32)),.bool (N.Zaa (x4.den:Int)),.vec f14 1 ((N.Zac (x4.den:Int)).map (.int .u32)),.bool (N.Zaa y4.num),.vec f15 1 ((N.Zac y4.num).map (.int .u32)),.bool (N.Zaa (y4.den:Int)),.vec f16 1 ((N.Zac (y4.den:Int)).map (.int .u32))])] []) Q
theorem call84 {args:List AV} {d:AV} (h:wc M1 fi84 Tryz.f84 args d):Ev M1 (.pure 84 args) d []:=pcl _ _ (by kernel_rfl) h
theorem call85 {args:List AV} {d:AV} (h:wc M1 fi85 Tryz.f85 args d):Ev M1 (.pure 85 args) d []:=pcl _ _ (by kernel_rfl) h
noncomputable abbrev ZfC (x2:Rat) (x1:Rat) (y2:Rat) (y1:Rat):=ag [vb (N.Zaa (x2-x1).num),vf (us (N.Zac (x2-x1).num)),vb (N.Zaa (↑(x2-x1).den:Int)),vf (us (N.Zac (↑(x2-x1).den:Int))),vb (N.Zaa (y2-y1).num),vf (us (N.Zac (y2-y1).num)),vb (N.Zaa (↑(y2-y1).den:Int)),vf (us (N.Zac (↑(y2-y1).den:Int)))]
noncomputable abbrev zNrB2 (x3:Rat) (x1:Rat) (y3:Rat) (y1:Rat):=ag [vb (N.Zaa (x3-x1).num),vf (us (N.Zac (x3-x1).num)),vb (N.Zaa (↑(x3-x1).den:Int)),vf (us (N.Zac (↑(x3-x1).den:Int))),vb (N.Zaa (y3-y1).num),vf (us (N.Zac (y3-y1).num)),vb (N.Zaa (↑(y3-y1).den:Int)),vf (us (N.Zac (↑(y3-y1).den:Int)))]
noncomputable abbrev zNrB3 (x1:Rat) (f1:Bool) (f2:Bool) (y1:Rat) (f3:Bool) (f4:Bool):=ag [vb (N.Zaa x1.num),AV.vec f1 1 (us (N.Zac x1.num)),vb (N.Zaa (↑x1.den:Int)),AV.vec f2 1 (us (N.Zac (↑x1.den:Int))),vb (N.Zaa y1.num),AV.vec f3 1 (us (N.Zac y1.num)),vb (N.Zaa (↑y1.den:Int)),AV.vec f4 1 (us (N.Zac (↑y1.den:Int)))]
noncomputable abbrev zNrB4 (x2:Rat) (f5:Bool) (f6:Bool) (y2:Rat) (f7:Bool) (f8:Bool):=ag [vb (N.Zaa x2.num),AV.vec f5 1 (us (N.Zac x2.num)),vb (N.Zaa (↑x2.den:Int)),AV.vec f6 1 (us (N.Zac (↑x2.den:Int))),vb (N.Zaa y2.num),AV.vec f7 1 (us (N.Zac y2.num)),vb (N.Zaa (↑y2.den:Int)),AV.vec f8 1 (us (N.Zac (↑y2.den:Int)))]
noncomputable abbrev zNrB5 (x3:Rat) (f9:Bool) (f10:Bool) (y3:Rat) (f11:Bool) (f12:Bool):=ag [vb (N.Zaa x3.num),AV.vec f9 1 (us (N.Zac x3.num)),vb (N.Zaa (↑x3.den:Int)),AV.vec f10 1 (us (N.Zac (↑x3.den:Int))),vb (N.Zaa y3.num),AV.vec f11 1 (us (N.Zac y3.num)),vb (N.Zaa (↑y3.den:Int)),AV.vec f12 1 (us (N.Zac (↑y3.den:Int)))]
noncomputable abbrev zNrB6:=ag [vb false,AV.vnil,vb false,AV.vnil]
noncomputable abbrev zNrB7 (x2:Rat) (x1:Rat) (x3:Rat) (y2:Rat) (y1:Rat) (y3:Rat):=N.sgnI (((x2-x1)*(x3-x1)+(y2-y1)*(y3-y1)).num*(↑((x2-x1)*(x2-x1)+(y2-y1)*(y2-y1)).den:Int)-((x2-x1)*(x2-x1)+(y2-y1)*(y2-y1)).num*(↑((x2-x1)*(x3-x1)+(y2-y1)*(y3-y1)).den:Int))>=0
theorem qXtos (f1 f2 f3 f4 f5 f6 f7 f8 f9 f10 f11 f12:Bool) (x1 y1 x2 y2 x3 y3:Rat)  (dq:AV) (H :
  (N.okW x1 y1 x2 y2) /\
  (N.okW x1 y1 x3 y3) /\
  (N.okD (x2-x1) (y2-y1) (x2-x1) (y2-y1)) /\
  (N.okD (x2-x1) (y2-y1) (x3-x1) (y3-y1)) /\
  ((N.sgnI ((x2-x1)*(x3-x1)+(y2-y1)*(y3-y1)).num<=0)->(N.okD (x3-x1) (y3-y1) (x3-x1) (y3-y1)) /\
   Weak (ratF ((x3-x1)*(x3-x1)+(y3-y1)*(y3-y1))) dq) /\
  (¬(N.sgnI ((x2-x1)*(x3-x1)+(y2-y1)*(y3-y1)).num<=0)->(N.okR ((x2-x1)*(x3-x1)+(y2-y1)*(y3-y1))/\N.okR ((x2-x1)*(x2-x1)+(y2-y1)*(y2-y1))) /\
   ((N.sgnI (((x2-x1)*(x3-x1)+(y2-y1)*(y3-y1)).num*(↑((x2-x1)*(x2-x1)+(y2-y1)*(y2-y1)).den:Int)-((x2-x1)*(x2-x1)+(y2-y1)*(y2-y1)).num*(↑((x2-x1)*(x3-x1)+(y2-y1)*(y3-y1)).den:Int))>=0)->(N.okW x2 y2 x3 y3) /\
    (N.okD (x3-x2) (y3-y2) (x3-x2) (y3-y2)) /\
    Weak (ratF ((x3-x2)*(x3-x2)+(y3-y2)*(y3-y2))) dq) /\
   (¬(N.sgnI (((x2-x1)*(x3-x1)+(y2-y1)*(y3-y1)).num*(↑((x2-x1)*(x2-x1)+(y2-y1)*(y2-y1)).den:Int)-((x2-x1)*(x2-x1)+(y2-y1)*(y2-y1)).num*(↑((x2-x1)*(x3-x1)+(y2-y1)*(y3-y1)).den:Int))>=0)->(N.okR ((x2-x1)*(y3-y1)-(y2-y1)*(x3-x1))/\N.okR ((x2-x1)*(y3-y1)-(y2-y1)*(x3-x1))) /\
    (N.okR (((x2-x1)*(y3-y1)-(y2-y1)*(x3-x1))*((x2-x1)*(y3-y1)-(y2-y1)*(x3-x1)))/\N.okR ((x2-x1)*(x2-x1)+(y2-y1)*(y2-y1))/\((x2-x1)*(x2-x1)+(y2-y1)*(y2-y1)).num ≠ 0) /\
    Weak (ratF (((x2-x1)*(y3-y1)-(y2-y1)*(x3-x1))*((x2-x1)*(y3-y1)-(y2-y1)*(x3-x1)) / ((x2-x1)*(x2-x1)+(y2-y1)*(y2-y1)))) dq))) :
 qXtos_at f1 f2 f3 f4 f5 f6 f7 f8 f9 f10 f11 f12 x1 y1 x2 y2 x3 y3 (Zaf dq):=by
 unfold qXtos_at
 obtain ⟨k1,k2,H⟩:=H
 refine Zad (G:=Zae kp85 [(1,2,.call ((ZfC x2 x1 y2 y1)) none),(1,5,.call ((zNrB2 x3 x1 y3 y1)) none)] []) 3 [] ⟨(atC (cd Tryz.f85) [1,0]),[(3,AV.ptr 0 0 0 0),(4,AV.ptr 1 0 0 0),(5,AV.ptr 2 0 0 0),(6,AV.ptr 3 0 0 0)],[⟨[(zNrB3 x1 f1 f2 y1 f3 f4)],8,0,false,false⟩,⟨[(zNrB4 x2 f5 f6 y2 f7 f8)],8,0,false,false⟩,⟨[(zNrB5 x3 f9 f10 y3 f11 f12)],8,0,false,false⟩,⟨[zNrB6],4,0,false,false⟩],_,[],_⟩ (by kernel_rfl) b0 q0 c0 (ZcN (G:=Zae kp85 [(1,2,.call ((ZfC x2 x1 y2 y1)) none),(1,5,.call ((zNrB2 x3 x1 y3 y1)) none)] []) [0,1,2,3,5,4] 6 (e1:=[(4,AV.ptr 1 0 0 0),(5,AV.ptr 2 0 0 0),(6,AV.ptr 3 0 0 0),(7,AV.ptr 4 0 0 0),(8,AV.ptr 5 0 0 0)]) (L1:=[⟨[(zNrB3 x1 f1 f2 y1 f3 f4)],8,0,false,false⟩,⟨[(zNrB4 x2 f5 f6 y2 f7 f8)],8,0,false,false⟩,⟨[(zNrB5 x3 f9 f10 y3 f11 f12)],8,0,false,false⟩,⟨[zNrB6],4,0,false,false⟩,⟨[(ZfC x2 x1 y2 y1)],8,0,false,false⟩,⟨[(zNrB2 x3 x1 y3 y1)],8,0,false,false⟩]) (a:=[true,true,true,true,true,true]) (q:=[]) (cs:=[⟨true,false,106,[(zNrB3 x1 f1 f2 y1 f3 f4),(zNrB4 x2 f5 f6 y2 f7 f8)],[],(ZfC x2 x1 y2 y1),[]⟩,⟨true,false,106,[(zNrB3 x1 f1 f2 y1 f3 f4),(zNrB5 x3 f9 f10 y3 f11 f12)],[],(zNrB2 x3 x1 y3 y1),[]⟩]) (by kernel_rfl) (by kernel_rfl) (Zag rfl (Zag rfl (Zag rfl (Zag rfl (Zag rfl (Zag rfl ZaB)))))) ZaV (ZaJ (fun _=>(@Zgk f1 f2 f3 f4 f5 f6 f7 f8 x1 y1 x2 y2 k1)) (ZaJ (fun _=>(@Zgk f1 f2 f3 f4 f9 f10 f11 f12 x1 y1 x3 y3 k2)) ZaW)) ?_)
 obtain ⟨k3,k4,H⟩:=H
 refine Zad (G:=Zae kp85 [(2,2,.call (ratF ((x2-x1)*(x2-x1)+(y2-y1)*(y2-y1))) none),(2,5,.call (ratF ((x2-x1)*(x3-x1)+(y2-y1)*(y3-y1))) none)] []) 1 [] ⟨(atC (cd Tryz.f85) [1,1,0]),[(4,AV.ptr 1 0 0 0),(5,AV.ptr 2 0 0 0),(6,AV.ptr 3 0 0 0),(7,AV.ptr 4 0 0 0),(8,AV.ptr 5 0 0 0)],[⟨[(zNrB3 x1 f1 f2 y1 f3 f4)],8,0,false,false⟩,⟨[(zNrB4 x2 f5 f6 y2 f7 f8)],8,0,false,false⟩,⟨[(zNrB5 x3 f9 f10 y3 f11 f12)],8,0,false,false⟩,⟨[zNrB6],4,0,false,false⟩,⟨[(ZfC x2 x1 y2 y1)],8,0,false,false⟩,⟨[(zNrB2 x3 x1 y3 y1)],8,0,false,false⟩],_,[],_⟩ (by kernel_rfl) b0 q0 c0 (ZcN (G:=Zae kp85 [(2,2,.call (ratF ((x2-x1)*(x2-x1)+(y2-y1)*(y2-y1))) none),(2,5,.call (ratF ((x2-x1)*(x3-x1)+(y2-y1)*(y3-y1))) none)] []) [0,1,2,3,4,5,7,6] 6 (e1:=[(4,AV.ptr 1 0 0 0),(5,AV.ptr 2 0 0 0),(6,AV.ptr 3 0 0 0),(7,AV.ptr 4 0 0 0),(8,AV.ptr 5 0 0 0),(9,AV.ptr 6 0 0 0),(10,AV.ptr 7 0 0 0)]) (L1:=[⟨[(zNrB3 x1 f1 f2 y1 f3 f4)],8,0,false,false⟩,⟨[(zNrB4 x2 f5 f6 y2 f7 f8)],8,0,false,false⟩,⟨[(zNrB5 x3 f9 f10 y3 f11 f12)],8,0,false,false⟩,⟨[zNrB6],4,0,false,false⟩,⟨[(ZfC x2 x1 y2 y1)],8,0,false,false⟩,⟨[(zNrB2 x3 x1 y3 y1)],8,0,false,false⟩,⟨[ratF ((x2-x1)*(x2-x1)+(y2-y1)*(y2-y1))],4,0,false,false⟩,⟨[ratF ((x2-x1)*(x3-x1)+(y2-y1)*(y3-y1))],4,0,false,false⟩]) (a:=[true,true,true,true,true,true]) (q:=[]) (cs:=[⟨true,false,107,[(ZfC x2 x1 y2 y1),(ZfC x2 x1 y2 y1)],[],ratF ((x2-x1)*(x2-x1)+(y2-y1)*(y2-y1)),[]⟩,⟨true,false,107,[(ZfC x2 x1 y2 y1),(zNrB2 x3 x1 y3 y1)],[],ratF ((x2-x1)*(x3-x1)+(y2-y1)*(y3-y1)),[]⟩]) (by kernel_rfl) (by kernel_rfl) (Zag rfl (Zag rfl (Zag rfl (Zag rfl (Zag rfl (Zag rfl ZaB)))))) ZaV (ZaJ (fun _=>(@ev107 false false false false false false false false (x2-x1) (y2-y1) (x2-x1) (y2-y1) k3)) (ZaJ (fun _=>(@ev107 false false false false false false false false (x2-x1) (y2-y1) (x3-x1) (y3-y1) k4)) ZaW)) ?_)
 refine Zad (G:=Zae kp85 [(3,1,.call (vi (N.sgnI ((x2-x1)*(x3-x1)+(y2-y1)*(y3-y1)).num)) none)] []) 3 [] ⟨(atC (cd Tryz.f85) [1,1,1,0,1]),[(4,AV.ptr 1 0 0 0),(5,AV.ptr 2 0 0 0),(6,AV.ptr 3 0 0 0),(7,AV.ptr 4 0 0 0),(8,AV.ptr 5 0 0 0),(9,AV.ptr 6 0 0 0),(10,AV.ptr 7 0 0 0),(27,vb (decide (N.sgnI ((x2-x1)*(x3-x1)+(y2-y1)*(y3-y1)).num<=0)))],[⟨[(zNrB3 x1 f1 f2 y1 f3 f4)],8,0,false,false⟩,⟨[(zNrB4 x2 f5 f6 y2 f7 f8)],8,0,false,false⟩,⟨[(zNrB5 x3 f9 f10 y3 f11 f12)],8,0,false,false⟩,⟨[zNrB6],4,0,false,false⟩,⟨[(ZfC x2 x1 y2 y1)],8,0,false,false⟩,⟨[(zNrB2 x3 x1 y3 y1)],8,0,false,false⟩,⟨[ratF ((x2-x1)*(x2-x1)+(y2-y1)*(y2-y1))],4,0,false,false⟩,⟨[ratF ((x2-x1)*(x3-x1)+(y2-y1)*(y3-y1))],4,0,false,false⟩],_,[],_⟩ (by kernel_rfl) (bc rfl b0) q0 (ce (@ev104 false false (((x2-x1)*(x3-x1)+(y2-y1)*(y3-y1)).num) ((↑((x2-x1)*(x3-x1)+(y2-y1)*(y3-y1)).den:Int))) c0) ?_
 rcases xq H with ⟨d6,H⟩|⟨d6,H⟩
 ·obtain ⟨k7,H⟩:=H
  exact Zai (G:=Zae kp85 [(4,2,.call (ratF ((x3-x1)*(x3-x1)+(y3-y1)*(y3-y1))) none)] []) 1000 [true] (ratF ((x3-x1)*(x3-x1)+(y3-y1)*(y3-y1))) (by kernel_rfl) (bc (Zan (Zab.2 d6)) (bc rfl (bc rfl (bc rfl b0)))) q0 (ce (@ev107 false false false false false false false false (x3-x1) (y3-y1) (x3-x1) (y3-y1) k7) c0) H
 ·obtain ⟨k8,H⟩:=H
  refine Zad (G:=Zae kp85 [(5,2,.call (vi (N.sgnI (((x2-x1)*(x3-x1)+(y2-y1)*(y3-y1)).num*(↑((x2-x1)*(x2-x1)+(y2-y1)*(y2-y1)).den:Int)-((x2-x1)*(x2-x1)+(y2-y1)*(y2-y1)).num*(↑((x2-x1)*(x3-x1)+(y2-y1)*(y3-y1)).den:Int)))) none)] []) 5 [false] ⟨(atC (cd Tryz.f85) [1,1,1,1,0,1]),[(4,AV.ptr 1 0 0 0),(5,AV.ptr 2 0 0 0),(6,AV.ptr 3 0 0 0),(7,AV.ptr 4 0 0 0),(8,AV.ptr 5 0 0 0),(9,AV.ptr 6 0 0 0),(34,vb (decide (zNrB7 x2 x1 x3 y2 y1 y3)))],[⟨[(zNrB3 x1 f1 f2 y1 f3 f4)],8,0,false,false⟩,⟨[(zNrB4 x2 f5 f6 y2 f7 f8)],8,0,false,false⟩,⟨[(zNrB5 x3 f9 f10 y3 f11 f12)],8,0,false,false⟩,⟨[zNrB6],4,0,false,false⟩,⟨[(ZfC x2 x1 y2 y1)],8,0,false,false⟩,⟨[(zNrB2 x3 x1 y3 y1)],8,0,false,false⟩,⟨[ratF ((x2-x1)*(x2-x1)+(y2-y1)*(y2-y1))],4,0,false,false⟩,⟨[ratF ((x2-x1)*(x3-x1)+(y2-y1)*(y3-y1))],4,0,false,false⟩],_,[],_⟩ (by kernel_rfl) (bc (Zam (fun h=>d6 (Zab.1 h))) (bc rfl (bc rfl b0))) q0 (ce (@ev47 false false false false ((x2-x1)*(x3-x1)+(y2-y1)*(y3-y1)) ((x2-x1)*(x2-x1)+(y2-y1)*(y2-y1)) k8) c0) ?_
  rcases xq H with ⟨d10,H⟩|⟨d10,H⟩
  ·obtain ⟨k11,k12,H⟩:=H
   exact Zai (G:=Zae kp85 [(6,2,.call (ag [vb (N.Zaa (x3-x2).num),vf (us (N.Zac (x3-x2).num)),vb (N.Zaa (↑(x3-x2).den:Int)),vf (us (N.Zac (↑(x3-x2).den:Int))),vb (N.Zaa (y3-y2).num),vf (us (N.Zac (y3-y2).num)),vb (N.Zaa (↑(y3-y2).den:Int)),vf (us (N.Zac (↑(y3-y2).den:Int)))]) none),(7,2,.call (ratF ((x3-x2)*(x3-x2)+(y3-y2)*(y3-y2))) none)] []) 1000 [true] (ratF ((x3-x2)*(x3-x2)+(y3-y2)*(y3-y2))) (by kernel_rfl) (bc (Zan (Zab.2 d10)) (bc rfl (bc rfl (bc rfl (bc rfl (bc rfl (bc rfl b0))))))) q0 (ce (@Zgk f5 f6 f7 f8 f9 f10 f11 f12 x2 y2 x3 y3 k11) (ce (@ev107 false false false false false false false false (x3-x2) (y3-y2) (x3-x2) (y3-y2) k12) c0)) H
  ·obtain ⟨k13,k14,H⟩:=H
   exact Zai (G:=Zae kp85 [(8,2,.call (ratF ((x2-x1)*(y3-y1)-(y2-y1)*(x3-x1))) none),(9,2,.call (ratF (((x2-x1)*(y3-y1)-(y2-y1)*(x3-x1))*((x2-x1)*(y3-y1)-(y2-y1)*(x3-x1)))) none),(9,4,.call (ratF (((x2-x1)*(y3-y1)-(y2-y1)*(x3-x1))*((x2-x1)*(y3-y1)-(y2-y1)*(x3-x1)) / ((x2-x1)*(x2-x1)+(y2-y1)*(y2-y1)))) none)] []) 1000 [false] (ratF (((x2-x1)*(y3-y1)-(y2-y1)*(x3-x1))*((x2-x1)*(y3-y1)-(y2-y1)*(x3-x1)) / ((x2-x1)*(x2-x1)+(y2-y1)*(y2-y1)))) (by kernel_rfl) (bc (Zam (fun h=>d10 (Zab.1 h))) (bc rfl (bc rfl (bc rfl (bc rfl (bc rfl (bc rfl (bc rfl b0)))))))) q0 (ce (@ev105 false false false false false false false false (x2-x1) (y2-y1) (x3-x1) (y3-y1) k4) (ce (@ev109 false false false false ((x2-x1)*(y3-y1)-(y2-y1)*(x3-x1)) ((x2-x1)*(y3-y1)-(y2-y1)*(x3-x1)) k13) (ce (@ev108 false false false false (((x2-x1)*(y3-y1)-(y2-y1)*(x3-x1))*((x2-x1)*(y3-y1)-(y2-y1)*(x3-x1))) ((x2-x1)*(x2-x1)+(y2-y1)*(y2-y1)) k14) c0))) H
noncomputable abbrev zNrB8 (x2:Rat) (x1:Rat) (y2:Rat) (y1:Rat):=ag [vb (N.Zaa (x2-x1).num),vf (us (N.Zac (x2-x1).num)),vb (N.Zaa (↑(x2-x1).den:Int)),vf (us (N.Zac (↑(x2-x1).den:Int))),vb (N.Zaa (y2-y1).num),vf (us (N.Zac (y2-y1).num)),vb (N.Zaa (↑(y2-y1).den:Int)),vf (us (N.Zac (↑(y2-y1).den:Int)))]
noncomputable abbrev zNrB9 (x4:Rat) (x3:Rat) (y4:Rat) (y3:Rat):=ag [vb (N.Zaa (x4-x3).num),vf (us (N.Zac (x4-x3).num)),vb (N.Zaa (↑(x4-x3).den:Int)),vf (us (N.Zac (↑(x4-x3).den:Int))),vb (N.Zaa (y4-y3).num),vf (us (N.Zac (y4-y3).num)),vb (N.Zaa (↑(y4-y3).den:Int)),vf (us (N.Zac (↑(y4-y3).den:Int)))]
theorem qXcrs (f1 f2 f3 f4 f5 f6 f7 f8 f9 f10 f11 f12 f13 f14 f15 f16:Bool) (x1 y1 x2 y2 x3 y3 x4 y4:Rat)  (dq:AV) (H :
  (N.okW x1 y1 x2 y2) /\
  (N.okW x1 y1 x3 y3) /\
  (N.okD (x2-x1) (y2-y1) (x3-x1) (y3-y1)) /\
  (N.okW x1 y1 x4 y4) /\
  (N.okD (x2-x1) (y2-y1) (x4-x1) (y4-y1)) /\
  (N.okW x3 y3 x4 y4) /\
  (N.okW x3 y3 x1 y1) /\
  (N.okD (x4-x3) (y4-y3) (x1-x3) (y1-y3)) /\
  (N.okW x3 y3 x2 y2) /\
  (N.okD (x4-x3) (y4-y3) (x2-x3) (y2-y3)) /\
  (-9223372036854775808<=N.sgnI ((x2-x1)*(y3-y1)-(y2-y1)*(x3-x1)).num*N.sgnI ((x2-x1)*(y4-y1)-(y2-y1)*(x4-x1)).num/\N.sgnI ((x2-x1)*(y3-y1)-(y2-y1)*(x3-x1)).num*N.sgnI ((x2-x1)*(y4-y1)-(y2-y1)*(x4-x1)).num<=9223372036854775807) /\
  vb (bif decide (N.sgnI ((x2-x1)*(y3-y1)-(y2-y1)*(x3-x1)).num*N.sgnI ((x2-x1)*(y4-y1)-(y2-y1)*(x4-x1)).num<0) then decide (IntKind.i64.wrap (N.sgnI ((x4-x3)*(y1-y3)-(y4-y3)*(x1-x3)).num*N.sgnI ((x4-x3)*(y2-y3)-(y4-y3)*(x2-x3)).num)<0) else false)=dq) :
 qXcrs_at f1 f2 f3 f4 f5 f6 f7 f8 f9 f10 f11 f12 f13 f14 f15 f16 x1 y1 x2 y2 x3 y3 x4 y4 (Zaf dq):=by
 unfold qXcrs_at
 obtain ⟨k1,k2,k3,k4,k5,k6,k7,k8,k9,k10,k11,H⟩:=H
 have w12:wi (N.sgnI ((x2-x1)*(y3-y1)-(y2-y1)*(x3-x1)).num*N.sgnI ((x2-x1)*(y4-y1)-(y2-y1)*(x4-x1)).num)=N.sgnI ((x2-x1)*(y3-y1)-(y2-y1)*(x3-x1)).num*N.sgnI ((x2-x1)*(y4-y1)-(y2-y1)*(x4-x1)).num:=wI64 k11
 exact Zaq (G:=Zae kp84 [(1,2,.call (zNrB8 x2 x1 y2 y1) none),(1,5,.call (ag [vb (N.Zaa (x3-x1).num),vf (us (N.Zac (x3-x1).num)),vb (N.Zaa (↑(x3-x1).den:Int)),vf (us (N.Zac (↑(x3-x1).den:Int))),vb (N.Zaa (y3-y1).num),vf (us (N.Zac (y3-y1).num)),vb (N.Zaa (↑(y3-y1).den:Int)),vf (us (N.Zac (↑(y3-y1).den:Int)))]) none),(1,6,.call (ratF ((x2-x1)*(y3-y1)-(y2-y1)*(x3-x1))) none),(1,7,.call (vi (N.sgnI ((x2-x1)*(y3-y1)-(y2-y1)*(x3-x1)).num)) none),(1,10,.call (zNrB8 x2 x1 y2 y1) none),(1,13,.call (ag [vb (N.Zaa (x4-x1).num),vf (us (N.Zac (x4-x1).num)),vb (N.Zaa (↑(x4-x1).den:Int)),vf (us (N.Zac (↑(x4-x1).den:Int))),vb (N.Zaa (y4-y1).num),vf (us (N.Zac (y4-y1).num)),vb (N.Zaa (↑(y4-y1).den:Int)),vf (us (N.Zac (↑(y4-y1).den:Int)))]) none),(1,14,.call (ratF ((x2-x1)*(y4-y1)-(y2-y1)*(x4-x1))) none),(1,15,.call (vi (N.sgnI ((x2-x1)*(y4-y1)-(y2-y1)*(x4-x1)).num)) none),(2,2,.call (zNrB9 x4 x3 y4 y3) none),(2,5,.call (ag [vb (N.Zaa (x1-x3).num),vf (us (N.Zac (x1-x3).num)),vb (N.Zaa (↑(x1-x3).den:Int)),vf (us (N.Zac (↑(x1-x3).den:Int))),vb (N.Zaa (y1-y3).num),vf (us (N.Zac (y1-y3).num)),vb (N.Zaa (↑(y1-y3).den:Int)),vf (us (N.Zac (↑(y1-y3).den:Int)))]) none),(2,6,.call (ratF ((x4-x3)*(y1-y3)-(y4-y3)*(x1-x3))) none),(2,7,.call (vi (N.sgnI ((x4-x3)*(y1-y3)-(y4-y3)*(x1-x3)).num)) none),(2,10,.call (zNrB9 x4 x3 y4 y3) none),(2,13,.call (ag [vb (N.Zaa (x2-x3).num),vf (us (N.Zac (x2-x3).num)),vb (N.Zaa (↑(x2-x3).den:Int)),vf (us (N.Zac (↑(x2-x3).den:Int))),vb (N.Zaa (y2-y3).num),vf (us (N.Zac (y2-y3).num)),vb (N.Zaa (↑(y2-y3).den:Int)),vf (us (N.Zac (↑(y2-y3).den:Int)))]) none),(2,14,.call (ratF ((x4-x3)*(y2-y3)-(y4-y3)*(x2-x3))) none),(2,15,.call (vi (N.sgnI ((x4-x3)*(y2-y3)-(y4-y3)*(x2-x3)).num)) none)] []) 1000 [] (vb (bif decide (wi (N.sgnI ((x2-x1)*(y3-y1)-(y2-y1)*(x3-x1)).num*N.sgnI ((x2-x1)*(y4-y1)-(y2-y1)*(x4-x1)).num)<0) then decide (wi (N.sgnI ((x4-x3)*(y1-y3)-(y4-y3)*(x1-x3)).num*N.sgnI ((x4-x3)*(y2-y3)-(y4-y3)*(x2-x3)).num)<0) else false)) (by kernel_rfl) (bc rfl (bc rfl (bc rfl (bc rfl (bc rfl (bc rfl (bc rfl (bc rfl (bc rfl (bc rfl (bc rfl (bc rfl (bc rfl (bc rfl (bc rfl (bc rfl b0)))))))))))))))) q0 (ce (@Zgk f1 f2 f3 f4 f5 f6 f7 f8 x1 y1 x2 y2 k1) (ce (@Zgk f1 f2 f3 f4 f9 f10 f11 f12 x1 y1 x3 y3 k2) (ce (@ev105 false false false false false false false false (x2-x1) (y2-y1) (x3-x1) (y3-y1) k3) (ce (@ev104 false false (((x2-x1)*(y3-y1)-(y2-y1)*(x3-x1)).num) ((↑((x2-x1)*(y3-y1)-(y2-y1)*(x3-x1)).den:Int))) (ce (@Zgk f1 f2 f3 f4 f5 f6 f7 f8 x1 y1 x2 y2 k1) (ce (@Zgk f1 f2 f3 f4 f13 f14 f15 f16 x1 y1 x4 y4 k4) (ce (@ev105 false false false false false false false false (x2-x1) (y2-y1) (x4-x1) (y4-y1) k5) (ce (@ev104 false false (((x2-x1)*(y4-y1)-(y2-y1)*(x4-x1)).num) ((↑((x2-x1)*(y4-y1)-(y2-y1)*(x4-x1)).den:Int))) (ce (@Zgk f9 f10 f11 f12 f13 f14 f15 f16 x3 y3 x4 y4 k6) (ce (@Zgk f9 f10 f11 f12 f1 f2 f3 f4 x3 y3 x1 y1 k7) (ce (@ev105 false false false false false false false false (x4-x3) (y4-y3) (x1-x3) (y1-y3) k8) (ce (@ev104 false false (((x4-x3)*(y1-y3)-(y4-y3)*(x1-x3)).num) ((↑((x4-x3)*(y1-y3)-(y4-y3)*(x1-x3)).den:Int))) (ce (@Zgk f9 f10 f11 f12 f13 f14 f15 f16 x3 y3 x4 y4 k6) (ce (@Zgk f9 f10 f11 f12 f5 f6 f7 f8 x3 y3 x2 y2 k9) (ce (@ev105 false false false false false false false false (x4-x3) (y4-y3) (x2-x3) (y2-y3) k10) (ce (@ev104 false false (((x4-x3)*(y2-y3)-(y4-y3)*(x2-x3)).num) ((↑((x4-x3)*(y2-y3)-(y4-y3)*(x2-x3)).den:Int))) c0)))))))))))))))) (by (try rw [w12]);all_goals exact H)
end Go.Av

namespace Go.Av
open Go.Proofs
theorem ev85 (f1 f2 f3 f4 f5 f6 f7 f8 f9 f10 f11 f12:Bool) (x1 y1 x2 y2 x3 y3:Rat) (h:N.okV3 x1 y1 x2 y2 x3 y3):Ev M1 (.pure 85 [vecA f1 f2 f3 f4 x1 y1,vecA f5 f6 f7 f8 x2 y2,vecA f9 f10 f11 f12 x3 y3]) (ratF (N.tsg x1 y1 x2 y2 x3 y3)) []:=by
 obtain ⟨h1,h2,h3⟩:=h
 have dd:=Zd3 h1 h2 h1 h2
 have dt:=Zd3 h1 h2 h1 h3
 have cr:=okT_crs h1 h2 h1 h3
 refine call85 (qXtos _ _ _ _ _ _ _ _ _ _ _ _ _ _ _ _ _ _ _ ⟨Zdd h1 h2,Zdd h1 h3,ZdW h1 h2 h1 h2,ZdW h1 h2 h1 h3,fun k=>⟨ZdW h1 h3 h1 h3,?_⟩,fun k=>⟨⟨ZaX dt (by omega),ZaX dd (by omega)⟩,fun j=>⟨Zdd h2 h3,ZdW h2 h3 h2 h3,?_⟩,fun j=>⟨⟨ZaX cr (by omega),ZaX cr (by omega)⟩,⟨ZaX (Zbs cr cr) (by omega),ZaX dd (by omega),fun e => ?_⟩,?_⟩⟩⟩)
 ·unfold N.tsg;rw [if_pos (Zdl.1 k)];exact .refl _
 ·unfold N.tsg;rw [if_neg fun x=>k (Zdl.2 x),if_pos (Zd8.1 j)];exact .refl _
 ·have e0:=Rat.num_eq_zero.1 e
  have k0:¬_:=fun x=>k (Zdl.2 x)
  have j0:¬_:=fun x=>j (Zd8.2 x)
  rw [e0] at j0
  grind
 ·unfold N.tsg;rw [if_neg fun x=>k (Zdl.2 x),if_neg fun x=>j (Zd8.2 x)];exact .refl _
theorem ev84 (f1 f2 f3 f4 f5 f6 f7 f8 f9 f10 f11 f12 f13 f14 f15 f16:Bool) (x1 y1 x2 y2 x3 y3 x4 y4:Rat) (h:N.ZfZ x1 y1 x2 y2 x3 y3 x4 y4):Ev M1 (.pure 84 [vecA f1 f2 f3 f4 x1 y1,vecA f5 f6 f7 f8 x2 y2,vecA f9 f10 f11 f12 x3 y3,vecA f13 f14 f15 f16 x4 y4]) (.bool (decide (N.crs x1 y1 x2 y2 x3 y3 x4 y4))) []:=by
 obtain ⟨h1,h2,h3,h4⟩:=h
 have b:=ZeM ((x2-x1)*(y3-y1)-(y2-y1)*(x3-x1)).num ((x2-x1)*(y4-y1)-(y2-y1)*(x4-x1)).num
 exact call84 (qXcrs _ _ _ _ _ _ _ _ _ _ _ _ _ _ _ _ _ _ _ _ _ _ _ _ _ ⟨Zdd h1 h2,Zdd h1 h3,ZdW h1 h2 h1 h3,Zdd h1 h4,ZdW h1 h2 h1 h4,Zdd h3 h4,Zdd h3 h1,ZdW h3 h4 h3 h1,Zdd h3 h2,ZdW h3 h4 h3 h2,by omega,congrArg AV.bool (crs_bool _ _ _ _ _ _ _ _)⟩)
end Go.Av

namespace Go.Av
open Go.Proofs
set_option maxRecDepth 100000
def fi68:Fi:=⟨53,[.cell 8 87]⟩
def kp68:List (Nat × List Nat):=[(0,[4,5,6,7,8]),(1,[4,5,6,7,8,16]),(2,[8]),(3,[4,5,6,7,8,9]),(4,[8,9,10]),(5,[8,9,10,11]),(6,[8,9,10,11,38]),(7,[8,9,10,11]),(8,[8,9,10,11,47]),(9,[8,9,10,11]),(10,[8])]
def qXsg_at (f1 f2 f3 f4 f5 f6 f7 f8 f9 f10 f11 f12 f13 f14 f15 f16:Bool) (x1 y1 x2 y2 x3 y3 x4 y4:Rat) (Q:AV->Heap->Prop):Prop:=Wp M1 (.run fi68 (atC (cd Tryz.f68) []) [(0,.agg [.bool (N.Zaa x1.num),.vec f1 1 ((N.Zac x1.num).map (.int .u32)),.bool (N.Zaa (x1.den:Int)),.vec f2 1 ((N.Zac (x1.den:Int)).map (.int .u32)),.bool (N.Zaa y1.num),.vec f3 1 ((N.Zac y1.num).map (.int .u32)),.bool (N.Zaa (y1.den:Int)),.vec f4 1 ((N.Zac (y1.den:Int)).map (.int .u32))]),(1,.agg [.bool (N.Zaa x2.num),.vec f5 1 ((N.Zac x2.num).map (.int .u32)),.bool (N.Zaa (x2.den:Int)),.vec f6 1 ((N.Zac (x2.den:Int)).map (.int .u32)),.bool (N.Zaa y2.num),.vec f7 1 ((N.Zac y2.num).map (.int .u32)),.bool (N.Zaa (y2.den:Int)),.vec f8 1 ((N.Zac (y2.den:Int)).map (.int .u32))]),(2,.agg [.bool (N.Zaa x3.num),.vec f9 1 ((N.Zac x3.num).map (.int .u32)),.bool (N.Zaa (x3.den:Int)),.vec f10 1 ((N.Zac (x3.den:Int)).map (.int .u32)),.bool (N.Zaa y3.num),.vec f11 1 ((N.Zac y3.num).map (.int .u32)),.bool (N.Zaa (y3.den:Int)),.vec f12 1 ((N.Zac (y3.den:Int)).map (.int .u32))]),(3,.agg [.bool (N.Zaa x4.num),.vec f13 1 ((N.Zac x4.num).map (.int .u32)),.bool (N.Zaa (x4.den:Int)),.vec f14 1 ((N.Zac (x4.den:Int)).map (.int .u32)),.bool (N.Zaa y4.num),.vec f15 1 ((N.Zac y4.num).map (.int .u32)),.bool (N.Zaa (y4.den:Int)),.vec f16 1 ((N.Zac (y4.den:Int)).map (.int .u32))])] []) Q
def Zfl (q r1 r2 r3:Rat) (Q:AV->Heap->Prop):Prop:=Wp M1 (.run fi68 (atC (cd Tryz.f68) [1,1,1,1,0,1,0,0]) [(8,.ptr 0 0 0 0),(9,.ptr 1 0 0 0),(10,.vec true 4 [ratF r1,ratF r2,ratF r3]),(11,.int .i64 0)] [⟨[.agg [.bool false,.vnil,.bool false,.vnil]],4,0,false,false⟩,⟨[ratF q],4,0,false,false⟩]) Q
def Zek (q r1 r2 r3:Rat) (Q:AV->Heap->Prop):Prop:=Wp M1 (.run fi68 (atC (cd Tryz.f68) [1,1,1,1,0,1,0,0]) [(8,.ptr 0 0 0 0),(9,.ptr 1 0 0 0),(10,.vec true 4 [ratF r1,ratF r2,ratF r3]),(11,.int .i64 1)] [⟨[.agg [.bool false,.vnil,.bool false,.vnil]],4,0,false,false⟩,⟨[ratF q],4,0,false,false⟩]) Q
def Zej (q r1 r2 r3:Rat) (Q:AV->Heap->Prop):Prop:=Wp M1 (.run fi68 (atC (cd Tryz.f68) [1,1,1,1,0,1,0,0]) [(8,.ptr 0 0 0 0),(9,.ptr 1 0 0 0),(10,.vec true 4 [ratF r1,ratF r2,ratF r3]),(11,.int .i64 2)] [⟨[.agg [.bool false,.vnil,.bool false,.vnil]],4,0,false,false⟩,⟨[ratF q],4,0,false,false⟩]) Q
def Zei (q r1 r2 r3:Rat) (Q:AV->Heap->Prop):Prop:=Wp M1 (.run fi68 (atC (cd Tryz.f68) [1,1,1,1,0,1,0,0]) [(8,.ptr 0 0 0 0),(9,.ptr 1 0 0 0),(10,.vec true 4 [ratF r1,ratF r2,ratF r3]),(11,.int .i64 3)] [⟨[.agg [.bool false,.vnil,.bool false,.vnil]],4,0,false,false⟩,⟨[ratF q],4,0,false,false⟩]) Q
theorem call68 {args:List AV} {d:AV} (h:wc M1 fi68 Tryz.f68 args d):Ev M1 (.pure 68 args) d []:=pcl _ _ (by kernel_rfl) h
noncomputable abbrev zNrC1 (x1:Rat) (f1:Bool) (f2:Bool) (y1:Rat) (f3:Bool) (f4:Bool):=ag [vb (N.Zaa x1.num),AV.vec f1 1 (us (N.Zac x1.num)),vb (N.Zaa (↑x1.den:Int)),AV.vec f2 1 (us (N.Zac (↑x1.den:Int))),vb (N.Zaa y1.num),AV.vec f3 1 (us (N.Zac y1.num)),vb (N.Zaa (↑y1.den:Int)),AV.vec f4 1 (us (N.Zac (↑y1.den:Int)))]
noncomputable abbrev zNrC2 (x2:Rat) (f5:Bool) (f6:Bool) (y2:Rat) (f7:Bool) (f8:Bool):=ag [vb (N.Zaa x2.num),AV.vec f5 1 (us (N.Zac x2.num)),vb (N.Zaa (↑x2.den:Int)),AV.vec f6 1 (us (N.Zac (↑x2.den:Int))),vb (N.Zaa y2.num),AV.vec f7 1 (us (N.Zac y2.num)),vb (N.Zaa (↑y2.den:Int)),AV.vec f8 1 (us (N.Zac (↑y2.den:Int)))]
noncomputable abbrev zNrC3 (x3:Rat) (f9:Bool) (f10:Bool) (y3:Rat) (f11:Bool) (f12:Bool):=ag [vb (N.Zaa x3.num),AV.vec f9 1 (us (N.Zac x3.num)),vb (N.Zaa (↑x3.den:Int)),AV.vec f10 1 (us (N.Zac (↑x3.den:Int))),vb (N.Zaa y3.num),AV.vec f11 1 (us (N.Zac y3.num)),vb (N.Zaa (↑y3.den:Int)),AV.vec f12 1 (us (N.Zac (↑y3.den:Int)))]
noncomputable abbrev zNrC4 (x4:Rat) (f13:Bool) (f14:Bool) (y4:Rat) (f15:Bool) (f16:Bool):=ag [vb (N.Zaa x4.num),AV.vec f13 1 (us (N.Zac x4.num)),vb (N.Zaa (↑x4.den:Int)),AV.vec f14 1 (us (N.Zac (↑x4.den:Int))),vb (N.Zaa y4.num),AV.vec f15 1 (us (N.Zac y4.num)),vb (N.Zaa (↑y4.den:Int)),AV.vec f16 1 (us (N.Zac (↑y4.den:Int)))]
theorem qXsg (f1 f2 f3 f4 f5 f6 f7 f8 f9 f10 f11 f12 f13 f14 f15 f16:Bool) (x1 y1 x2 y2 x3 y3 x4 y4:Rat)  (dq:AV) (H :
  (N.ZfZ x1 y1 x2 y2 x3 y3 x4 y4) /\
  ((N.crs x1 y1 x2 y2 x3 y3 x4 y4)->(N.inI 0) /\
   Weak (ratF (N.qi 0)) dq) /\
  (¬(N.crs x1 y1 x2 y2 x3 y3 x4 y4)->(N.okV3 x1 y1 x2 y2 x3 y3) /\
   (N.okV3 x1 y1 x2 y2 x4 y4) /\
   (N.okV3 x3 y3 x4 y4 x1 y1) /\
   (N.okV3 x3 y3 x4 y4 x2 y2) /\
   Zfl (N.tsg x1 y1 x2 y2 x3 y3) (N.tsg x1 y1 x2 y2 x4 y4) (N.tsg x3 y3 x4 y4 x1 y1) (N.tsg x3 y3 x4 y4 x2 y2) (Zaf dq))) :
 qXsg_at f1 f2 f3 f4 f5 f6 f7 f8 f9 f10 f11 f12 f13 f14 f15 f16 x1 y1 x2 y2 x3 y3 x4 y4 (Zaf dq):=by
 unfold qXsg_at
 obtain ⟨k1,H⟩:=H
 refine Zad (G:=Zae kp68 [(1,4,.call (vb (decide (N.crs x1 y1 x2 y2 x3 y3 x4 y4))) none)] []) 5 [] ⟨(atC (cd Tryz.f68) [1,0,1]),[(4,AV.ptr 0 0 0 0),(5,AV.ptr 1 0 0 0),(6,AV.ptr 2 0 0 0),(7,AV.ptr 3 0 0 0),(8,AV.ptr 4 0 0 0),(16,vb (decide (N.crs x1 y1 x2 y2 x3 y3 x4 y4)))],[⟨[(zNrC1 x1 f1 f2 y1 f3 f4)],8,0,false,false⟩,⟨[(zNrC2 x2 f5 f6 y2 f7 f8)],8,0,false,false⟩,⟨[(zNrC3 x3 f9 f10 y3 f11 f12)],8,0,false,false⟩,⟨[(zNrC4 x4 f13 f14 y4 f15 f16)],8,0,false,false⟩,⟨[ag [vb false,AV.vnil,vb false,AV.vnil]],4,0,false,false⟩],_,[],_⟩ (by kernel_rfl) (bc rfl (bc rfl (bc rfl (bc rfl b0)))) q0 (ce (@ev84 f1 f2 f3 f4 f5 f6 f7 f8 f9 f10 f11 f12 f13 f14 f15 f16 x1 y1 x2 y2 x3 y3 x4 y4 k1) c0) ?_
 rcases xq H with ⟨d3,H⟩|⟨d3,H⟩
 ·obtain ⟨k4,H⟩:=H
  exact Zai (G:=Zae kp68 [(2,0,.call (ratF (N.qi 0)) none)] []) 1000 [true] (ratF (N.qi 0)) (by kernel_rfl) (bc (Zan (Zab.2 d3)) (bc rfl b0)) q0 (ce (@ev50 0 k4) c0) H
 ·obtain ⟨k5,k6,k7,k8,H⟩:=H
  exact Zad (G:=Zae kp68 [(3,3,.call (ratF (N.tsg x1 y1 x2 y2 x3 y3)) none),(4,3,.call (ratF (N.tsg x1 y1 x2 y2 x4 y4)) none),(4,7,.call (ratF (N.tsg x3 y3 x4 y4 x1 y1)) none),(4,11,.call (ratF (N.tsg x3 y3 x4 y4 x2 y2)) none)] []) 1000 [false] ⟨(atC (cd Tryz.f68) [1,1,1,1,0,1,0,0]),[(8,AV.ptr 4 0 0 0),(9,AV.ptr 5 0 0 0),(10,AV.vec true 4 [ratF (N.tsg x1 y1 x2 y2 x4 y4),ratF (N.tsg x3 y3 x4 y4 x1 y1),ratF (N.tsg x3 y3 x4 y4 x2 y2)]),(11,vi 0)],[⟨[(zNrC1 x1 f1 f2 y1 f3 f4)],8,0,false,false⟩,⟨[(zNrC2 x2 f5 f6 y2 f7 f8)],8,0,false,false⟩,⟨[(zNrC3 x3 f9 f10 y3 f11 f12)],8,0,false,false⟩,⟨[(zNrC4 x4 f13 f14 y4 f15 f16)],8,0,false,false⟩,⟨[ag [vb false,AV.vnil,vb false,AV.vnil]],4,0,false,false⟩,⟨[ratF (N.tsg x1 y1 x2 y2 x3 y3)],4,0,false,false⟩],_,[],_⟩ (by kernel_rfl) (bc (Zam (fun h=>d3 (Zab.1 h))) (bc rfl (bc rfl (bc rfl (bc rfl (bc rfl (bc rfl (bc rfl (bc rfl (bc rfl (bc rfl (bc rfl (bc rfl (bc rfl b0)))))))))))))) q0 (ce (@ev85 f1 f2 f3 f4 f5 f6 f7 f8 f9 f10 f11 f12 x1 y1 x2 y2 x3 y3 k5) (ce (@ev85 f1 f2 f3 f4 f5 f6 f7 f8 f13 f14 f15 f16 x1 y1 x2 y2 x4 y4 k6) (ce (@ev85 f9 f10 f11 f12 f13 f14 f15 f16 f1 f2 f3 f4 x3 y3 x4 y4 x1 y1 k7) (ce (@ev85 f9 f10 f11 f12 f13 f14 f15 f16 f5 f6 f7 f8 x3 y3 x4 y4 x2 y2 k8) c0)))) (Zas [4,5] (by kernel_rfl) H)
noncomputable abbrev zNrC5:=ag [vb false,AV.vnil,vb false,AV.vnil]
theorem qXsg0 (q r1 r2 r3:Rat)  (dq:AV) (H :
  (N.okR r1/\N.okR q) /\
  ((N.sgnI (r1.num*(↑q.den:Int)-q.num*(↑r1.den:Int))<0)->Zek r1 r1 r2 r3 (Zaf dq)) /\
  (¬(N.sgnI (r1.num*(↑q.den:Int)-q.num*(↑r1.den:Int))<0)->Zek q r1 r2 r3 (Zaf dq))) :
 Zfl q r1 r2 r3 (Zaf dq):=by
 unfold Zfl
 obtain ⟨k1,H⟩:=H
 refine Zad (G:=Zae kp68 [(8,5,.call (vi (N.sgnI (r1.num*(↑q.den:Int)-q.num*(↑r1.den:Int)))) none)] []) 9 [true] ⟨(atC (cd Tryz.f68) [1,1,1,1,0,1,0,0,1,0,0,1]),[(8,AV.ptr 0 0 0 0),(9,AV.ptr 1 0 0 0),(10,AV.vec true 4 [ratF r1,ratF r2,ratF r3]),(11,vi 0),(47,vb (decide (N.sgnI (r1.num*(↑q.den:Int)-q.num*(↑r1.den:Int))<0)))],[⟨[zNrC5],4,0,false,false⟩,⟨[ratF q],4,0,false,false⟩],_,[],_⟩ (by kernel_rfl) (bc rfl (bc rfl (bc rfl (bc rfl b0)))) q0 (ce (@ev47 false false false false r1 q k1) c0) ?_
 rcases xq H with ⟨d3,H⟩|⟨d3,H⟩
 ·exact Zad (G:=Zae kp68 [] []) 1000 [true] ⟨(atC (cd Tryz.f68) [1,1,1,1,0,1,0,0]),[(8,AV.ptr 0 0 0 0),(9,AV.ptr 1 0 0 0),(10,AV.vec true 4 [ratF r1,ratF r2,ratF r3]),(11,vi 1)],[⟨[zNrC5],4,0,false,false⟩,⟨[ratF r1],4,0,false,false⟩],_,[],_⟩ (by kernel_rfl) (bc (Zan (Zab.2 d3)) (bc rfl (bc rfl (bc rfl b0)))) q0 c0 H
 ·exact Zad (G:=Zae kp68 [] []) 1000 [false] ⟨(atC (cd Tryz.f68) [1,1,1,1,0,1,0,0]),[(8,AV.ptr 0 0 0 0),(9,AV.ptr 1 0 0 0),(10,AV.vec true 4 [ratF r1,ratF r2,ratF r3]),(11,vi 1)],[⟨[zNrC5],4,0,false,false⟩,⟨[ratF q],4,0,false,false⟩],_,[],_⟩ (by kernel_rfl) (bc (Zam (fun h=>d3 (Zab.1 h))) b0) q0 c0 H
noncomputable abbrev zNrC6:=ag [vb false,AV.vnil,vb false,AV.vnil]
theorem qXsg1 (q r1 r2 r3:Rat)  (dq:AV) (H :
  (N.okR r2/\N.okR q) /\
  ((N.sgnI (r2.num*(↑q.den:Int)-q.num*(↑r2.den:Int))<0)->Zej r2 r1 r2 r3 (Zaf dq)) /\
  (¬(N.sgnI (r2.num*(↑q.den:Int)-q.num*(↑r2.den:Int))<0)->Zej q r1 r2 r3 (Zaf dq))) :
 Zek q r1 r2 r3 (Zaf dq):=by
 unfold Zek
 obtain ⟨k1,H⟩:=H
 refine Zad (G:=Zae kp68 [(8,5,.call (vi (N.sgnI (r2.num*(↑q.den:Int)-q.num*(↑r2.den:Int)))) none)] []) 9 [true] ⟨(atC (cd Tryz.f68) [1,1,1,1,0,1,0,0,1,0,0,1]),[(8,AV.ptr 0 0 0 0),(9,AV.ptr 1 0 0 0),(10,AV.vec true 4 [ratF r1,ratF r2,ratF r3]),(11,vi 1),(47,vb (decide (N.sgnI (r2.num*(↑q.den:Int)-q.num*(↑r2.den:Int))<0)))],[⟨[zNrC6],4,0,false,false⟩,⟨[ratF q],4,0,false,false⟩],_,[],_⟩ (by kernel_rfl) (bc rfl (bc rfl (bc rfl (bc rfl b0)))) q0 (ce (@ev47 false false false false r2 q k1) c0) ?_
 rcases xq H with ⟨d3,H⟩|⟨d3,H⟩
 ·exact Zad (G:=Zae kp68 [] []) 1000 [true] ⟨(atC (cd Tryz.f68) [1,1,1,1,0,1,0,0]),[(8,AV.ptr 0 0 0 0),(9,AV.ptr 1 0 0 0),(10,AV.vec true 4 [ratF r1,ratF r2,ratF r3]),(11,vi 2)],[⟨[zNrC6],4,0,false,false⟩,⟨[ratF r2],4,0,false,false⟩],_,[],_⟩ (by kernel_rfl) (bc (Zan (Zab.2 d3)) (bc rfl (bc rfl (bc rfl b0)))) q0 c0 H
 ·exact Zad (G:=Zae kp68 [] []) 1000 [false] ⟨(atC (cd Tryz.f68) [1,1,1,1,0,1,0,0]),[(8,AV.ptr 0 0 0 0),(9,AV.ptr 1 0 0 0),(10,AV.vec true 4 [ratF r1,ratF r2,ratF r3]),(11,vi 2)],[⟨[zNrC6],4,0,false,false⟩,⟨[ratF q],4,0,false,false⟩],_,[],_⟩ (by kernel_rfl) (bc (Zam (fun h=>d3 (Zab.1 h))) b0) q0 c0 H
noncomputable abbrev zNrC7:=ag [vb false,AV.vnil,vb false,AV.vnil]
theorem qXsg2 (q r1 r2 r3:Rat)  (dq:AV) (H :
  (N.okR r3/\N.okR q) /\
  ((N.sgnI (r3.num*(↑q.den:Int)-q.num*(↑r3.den:Int))<0)->Zei r3 r1 r2 r3 (Zaf dq)) /\
  (¬(N.sgnI (r3.num*(↑q.den:Int)-q.num*(↑r3.den:Int))<0)->Zei q r1 r2 r3 (Zaf dq))) :
 Zej q r1 r2 r3 (Zaf dq):=by
 unfold Zej
 obtain ⟨k1,H⟩:=H
 refine Zad (G:=Zae kp68 [(8,5,.call (vi (N.sgnI (r3.num*(↑q.den:Int)-q.num*(↑r3.den:Int)))) none)] []) 9 [true] ⟨(atC (cd Tryz.f68) [1,1,1,1,0,1,0,0,1,0,0,1]),[(8,AV.ptr 0 0 0 0),(9,AV.ptr 1 0 0 0),(10,AV.vec true 4 [ratF r1,ratF r2,ratF r3]),(11,vi 2),(47,vb (decide (N.sgnI (r3.num*(↑q.den:Int)-q.num*(↑r3.den:Int))<0)))],[⟨[zNrC7],4,0,false,false⟩,⟨[ratF q],4,0,false,false⟩],_,[],_⟩ (by kernel_rfl) (bc rfl (bc rfl (bc rfl (bc rfl b0)))) q0 (ce (@ev47 false false false false r3 q k1) c0) ?_
 rcases xq H with ⟨d3,H⟩|⟨d3,H⟩
 ·exact Zad (G:=Zae kp68 [] []) 1000 [true] ⟨(atC (cd Tryz.f68) [1,1,1,1,0,1,0,0]),[(8,AV.ptr 0 0 0 0),(9,AV.ptr 1 0 0 0),(10,AV.vec true 4 [ratF r1,ratF r2,ratF r3]),(11,vi 3)],[⟨[zNrC7],4,0,false,false⟩,⟨[ratF r3],4,0,false,false⟩],_,[],_⟩ (by kernel_rfl) (bc (Zan (Zab.2 d3)) (bc rfl (bc rfl (bc rfl b0)))) q0 c0 H
 ·exact Zad (G:=Zae kp68 [] []) 1000 [false] ⟨(atC (cd Tryz.f68) [1,1,1,1,0,1,0,0]),[(8,AV.ptr 0 0 0 0),(9,AV.ptr 1 0 0 0),(10,AV.vec true 4 [ratF r1,ratF r2,ratF r3]),(11,vi 3)],[⟨[zNrC7],4,0,false,false⟩,⟨[ratF q],4,0,false,false⟩],_,[],_⟩ (by kernel_rfl) (bc (Zam (fun h=>d3 (Zab.1 h))) b0) q0 c0 H
theorem qXsg3 (q r1 r2 r3:Rat)  (dq:AV) (H :
  Weak (ratF q) dq) :
 Zei q r1 r2 r3 (Zaf dq):=by
 unfold Zei
 exact Zai (G:=Zae kp68 [] []) 1000 [false] (ratF q) (by kernel_rfl) (bc rfl (bc rfl (bc rfl b0))) q0 c0 H
end Go.Av

namespace Go.Av
open Go.Proofs
theorem xseg_loop {q r1 r2 r3:Rat} (h:N.okT 400 q) (h1:N.okT 400 r1) (h2:N.okT 400 r2) (h3:N.okT 400 r3):Zfl q r1 r2 r3 (Zaf (ratF (N.mn r3 (N.mn r2 (N.mn r1 q))))):=by
 have R {r:Rat} (h:N.okT 400 r):N.okR r:=ZaX h (by omega)
 have s3:∀ q,Zei q r1 r2 r3 (Zaf (ratF q)):=fun q=>qXsg3 _ _ _ _ _ (.refl _)
 have s2:∀ q,N.okT 400 q->Zej q r1 r2 r3 (Zaf (ratF (N.mn r3 q))):=fun q hq=>qXsg2 _ _ _ _ _ ⟨⟨R h3,R hq⟩,fun k=>by rw [mn_y k];exact s3 _,fun k=>by rw [mn_n k];exact s3 _⟩
 have s1:∀ q,N.okT 400 q->Zek q r1 r2 r3 (Zaf (ratF (N.mn r3 (N.mn r2 q)))):=fun q hq=>qXsg1 _ _ _ _ _ ⟨⟨R h2,R hq⟩,fun k=>by rw [mn_y k];exact s2 _ h2,fun k=>by rw [mn_n k];exact s2 _ hq⟩
 exact qXsg0 _ _ _ _ _ ⟨⟨R h1,R h⟩,fun k=>by rw [mn_y k];exact s1 _ h1,fun k=>by rw [mn_n k];exact s1 _ h⟩
theorem ev68 (f1 f2 f3 f4 f5 f6 f7 f8 f9 f10 f11 f12 f13 f14 f15 f16:Bool) (x1 y1 x2 y2 x3 y3 x4 y4:Rat) (h:N.ZfZ x1 y1 x2 y2 x3 y3 x4 y4):Ev M1 (.pure 68 [vecA f1 f2 f3 f4 x1 y1,vecA f5 f6 f7 f8 x2 y2,vecA f9 f10 f11 f12 x3 y3,vecA f13 f14 f15 f16 x4 y4]) (ratF (N.seg x1 y1 x2 y2 x3 y3 x4 y4)) []:=by
 have h0:=h
 obtain ⟨h1,h2,h3,h4⟩:=h
 refine call68 (qXsg _ _ _ _ _ _ _ _ _ _ _ _ _ _ _ _ _ _ _ _ _ _ _ _ _ ⟨h0,fun k=>⟨by unfold N.inI;omega,?_⟩,fun k=>⟨⟨h1,h2,h3⟩,⟨h1,h2,h4⟩,⟨h3,h4,h1⟩,⟨h3,h4,h2⟩,?_⟩⟩)
 ·unfold N.seg;rw [if_pos k];exact .refl _
 ·unfold N.seg;rw [if_neg k];exact xseg_loop (Zcg h1 h2 h3) (Zcg h1 h2 h4) (Zcg h3 h4 h1) (Zcg h3 h4 h2)
end Go.Av

namespace Go.Av
open Go.Proofs
set_option maxRecDepth 100000
def fi48:Fi:=⟨76,[.cell 6 87]⟩
def kp48:List (Nat × List Nat):=[(0,[3,4,5,6]),(1,[3,4,5,6,18]),(2,[6]),(3,[4,5,6,7]),(4,[4,5,6,7,8]),(5,[4,5,6,7,8,9]),(6,[4,5,6,7,8,9,42]),(7,[4,5,6,7,8,9]),(8,[4,5,6,7,8,9,10]),(9,[4,5,6,7,8,9,10,73]),(10,[4,5,6,7,8,9]),(11,[6])]
def qXfa_at (x0 y0 x1 y1 tp ax ay bx by_:Int) (Q:AV->Heap->Prop):Prop:=Wp M1 (.run fi48 (atC (cd Tryz.f48) []) [(0,.agg [.int .i64 x0,.int .i64 y0,.int .i64 x1,.int .i64 y1,.int .i64 tp]),(1,.agg [.int .i64 ax,.int .i64 ay]),(2,.agg [.int .i64 bx,.int .i64 by_])] []) Q
def Zfn (u0 v0 u1 v1:Rat) (ax ay bx by_:Int) (Q:AV->Heap->Prop):Prop:=Wp M1 (.run fi48 (atC (cd Tryz.f48) [1,1,1,1,0,1,0,0]) [(4,.ptr 0 0 0 0),(5,.ptr 1 0 0 0),(6,.ptr 2 0 0 0),(7,.vec true 8 [.agg [.bool (N.Zaa u0.num),.vec false 1 ((N.Zac u0.num).map (.int .u32)),.bool (N.Zaa (u0.den:Int)),.vec false 1 ((N.Zac (u0.den:Int)).map (.int .u32)),.bool (N.Zaa v0.num),.vec false 1 ((N.Zac v0.num).map (.int .u32)),.bool (N.Zaa (v0.den:Int)),.vec false 1 ((N.Zac (v0.den:Int)).map (.int .u32))],.agg [.bool (N.Zaa u1.num),.vec false 1 ((N.Zac u1.num).map (.int .u32)),.bool (N.Zaa (u1.den:Int)),.vec false 1 ((N.Zac (u1.den:Int)).map (.int .u32)),.bool (N.Zaa v0.num),.vec false 1 ((N.Zac v0.num).map (.int .u32)),.bool (N.Zaa (v0.den:Int)),.vec false 1 ((N.Zac (v0.den:Int)).map (.int .u32))],.agg [.bool (N.Zaa u1.num),.vec false 1 ((N.Zac u1.num).map (.int .u32)),.bool (N.Zaa (u1.den:Int)),.vec false 1 ((N.Zac (u1.den:Int)).map (.int .u32)),.bool (N.Zaa v1.num),.vec false 1 ((N.Zac v1.num).map (.int .u32)),.bool (N.Zaa (v1.den:Int)),.vec false 1 ((N.Zac (v1.den:Int)).map (.int .u32))],.agg [.bool (N.Zaa u0.num),.vec false 1 ((N.Zac u0.num).map (.int .u32)),.bool (N.Zaa (u0.den:Int)),.vec false 1 ((N.Zac (u0.den:Int)).map (.int .u32)),.bool (N.Zaa v1.num),.vec false 1 ((N.Zac v1.num).map (.int .u32)),.bool (N.Zaa (v1.den:Int)),.vec false 1 ((N.Zac (v1.den:Int)).map (.int .u32))]]),(8,.ptr 3 0 0 0),(9,.int .i64 0)] [⟨[.agg [.int .i64 ax,.int .i64 ay]],2,0,false,false⟩,⟨[.agg [.int .i64 bx,.int .i64 by_]],2,0,false,false⟩,⟨[.agg [.bool false,.vnil,.bool false,.vnil]],4,0,false,false⟩,⟨[.agg [.bool false,.vnil,.bool false,.vnil]],4,0,false,false⟩]) Q
def Zfm (u0 v0 u1 v1:Rat) (ax ay bx by_:Int) (q:Rat) (Q:AV->Heap->Prop):Prop:=Wp M1 (.run fi48 (atC (cd Tryz.f48) [1,1,1,1,0,1,0,0]) [(4,.ptr 0 0 0 0),(5,.ptr 1 0 0 0),(6,.ptr 2 0 0 0),(7,.vec true 8 [.agg [.bool (N.Zaa u0.num),.vec false 1 ((N.Zac u0.num).map (.int .u32)),.bool (N.Zaa (u0.den:Int)),.vec false 1 ((N.Zac (u0.den:Int)).map (.int .u32)),.bool (N.Zaa v0.num),.vec false 1 ((N.Zac v0.num).map (.int .u32)),.bool (N.Zaa (v0.den:Int)),.vec false 1 ((N.Zac (v0.den:Int)).map (.int .u32))],.agg [.bool (N.Zaa u1.num),.vec false 1 ((N.Zac u1.num).map (.int .u32)),.bool (N.Zaa (u1.den:Int)),.vec false 1 ((N.Zac (u1.den:Int)).map (.int .u32)),.bool (N.Zaa v0.num),.vec false 1 ((N.Zac v0.num).map (.int .u32)),.bool (N.Zaa (v0.den:Int)),.vec false 1 ((N.Zac (v0.den:Int)).map (.int .u32))],.agg [.bool (N.Zaa u1.num),.vec false 1 ((N.Zac u1.num).map (.int .u32)),.bool (N.Zaa (u1.den:Int)),.vec false 1 ((N.Zac (u1.den:Int)).map (.int .u32)),.bool (N.Zaa v1.num),.vec false 1 ((N.Zac v1.num).map (.int .u32)),.bool (N.Zaa (v1.den:Int)),.vec false 1 ((N.Zac (v1.den:Int)).map (.int .u32))],.agg [.bool (N.Zaa u0.num),.vec false 1 ((N.Zac u0.num).map (.int .u32)),.bool (N.Zaa (u0.den:Int)),.vec false 1 ((N.Zac (u0.den:Int)).map (.int .u32)),.bool (N.Zaa v1.num),.vec false 1 ((N.Zac v1.num).map (.int .u32)),.bool (N.Zaa (v1.den:Int)),.vec false 1 ((N.Zac (v1.den:Int)).map (.int .u32))]]),(8,.ptr 3 0 0 0),(9,.int .i64 1)] [⟨[.agg [.int .i64 ax,.int .i64 ay]],2,0,false,false⟩,⟨[.agg [.int .i64 bx,.int .i64 by_]],2,0,false,false⟩,⟨[.agg [.bool false,.vnil,.bool false,.vnil]],4,0,false,false⟩,⟨[ratF q],4,0,false,false⟩]) Q
def Zeo (u0 v0 u1 v1:Rat) (ax ay bx by_:Int) (q:Rat) (Q:AV->Heap->Prop):Prop:=Wp M1 (.run fi48 (atC (cd Tryz.f48) [1,1,1,1,0,1,0,0]) [(4,.ptr 0 0 0 0),(5,.ptr 1 0 0 0),(6,.ptr 2 0 0 0),(7,.vec true 8 [.agg [.bool (N.Zaa u0.num),.vec false 1 ((N.Zac u0.num).map (.int .u32)),.bool (N.Zaa (u0.den:Int)),.vec false 1 ((N.Zac (u0.den:Int)).map (.int .u32)),.bool (N.Zaa v0.num),.vec false 1 ((N.Zac v0.num).map (.int .u32)),.bool (N.Zaa (v0.den:Int)),.vec false 1 ((N.Zac (v0.den:Int)).map (.int .u32))],.agg [.bool (N.Zaa u1.num),.vec false 1 ((N.Zac u1.num).map (.int .u32)),.bool (N.Zaa (u1.den:Int)),.vec false 1 ((N.Zac (u1.den:Int)).map (.int .u32)),.bool (N.Zaa v0.num),.vec false 1 ((N.Zac v0.num).map (.int .u32)),.bool (N.Zaa (v0.den:Int)),.vec false 1 ((N.Zac (v0.den:Int)).map (.int .u32))],.agg [.bool (N.Zaa u1.num),.vec false 1 ((N.Zac u1.num).map (.int .u32)),.bool (N.Zaa (u1.den:Int)),.vec false 1 ((N.Zac (u1.den:Int)).map (.int .u32)),.bool (N.Zaa v1.num),.vec false 1 ((N.Zac v1.num).map (.int .u32)),.bool (N.Zaa (v1.den:Int)),.vec false 1 ((N.Zac (v1.den:Int)).map (.int .u32))],.agg [.bool (N.Zaa u0.num),.vec false 1 ((N.Zac u0.num).map (.int .u32)),.bool (N.Zaa (u0.den:Int)),.vec false 1 ((N.Zac (u0.den:Int)).map (.int .u32)),.bool (N.Zaa v1.num),.vec false 1 ((N.Zac v1.num).map (.int .u32)),.bool (N.Zaa (v1.den:Int)),.vec false 1 ((N.Zac (v1.den:Int)).map (.int .u32))]]),(8,.ptr 3 0 0 0),(9,.int .i64 2)] [⟨[.agg [.int .i64 ax,.int .i64 ay]],2,0,false,false⟩,⟨[.agg [.int .i64 bx,.int .i64 by_]],2,0,false,false⟩,⟨[.agg [.bool false,.vnil,.bool false,.vnil]],4,0,false,false⟩,⟨[ratF q],4,0,false,false⟩]) Q
def Zen (u0 v0 u1 v1:Rat) (ax ay bx by_:Int) (q:Rat) (Q:AV->Heap->Prop):Prop:=Wp M1 (.run fi48 (atC (cd Tryz.f48) [1,1,1,1,0,1,0,0]) [(4,.ptr 0 0 0 0),(5,.ptr 1 0 0 0),(6,.ptr 2 0 0 0),(7,.vec true 8 [.agg [.bool (N.Zaa u0.num),.vec false 1 ((N.Zac u0.num).map (.int .u32)),.bool (N.Zaa (u0.den:Int)),.vec false 1 ((N.Zac (u0.den:Int)).map (.int .u32)),.bool (N.Zaa v0.num),.vec false 1 ((N.Zac v0.num).map (.int .u32)),.bool (N.Zaa (v0.den:Int)),.vec false 1 ((N.Zac (v0.den:Int)).map (.int .u32))],.agg [.bool (N.Zaa u1.num),.vec false 1 ((N.Zac u1.num).map (.int .u32)),.bool (N.Zaa (u1.den:Int)),.vec false 1 ((N.Zac (u1.den:Int)).map (.int .u32)),.bool (N.Zaa v0.num),.vec false 1 ((N.Zac v0.num).map (.int .u32)),.bool (N.Zaa (v0.den:Int)),.vec false 1 ((N.Zac (v0.den:Int)).map (.int .u32))],.agg [.bool (N.Zaa u1.num),.vec false 1 ((N.Zac u1.num).map (.int .u32)),.bool (N.Zaa (u1.den:Int)),.vec false 1 ((N.Zac (u1.den:Int)).map (.int .u32)),.bool (N.Zaa v1.num),.vec false 1 ((N.Zac v1.num).map (.int .u32)),.bool (N.Zaa (v1.den:Int)),.vec false 1 ((N.Zac (v1.den:Int)).map (.int .u32))],.agg [.bool (N.Zaa u0.num),.vec false 1 ((N.Zac u0.num).map (.int .u32)),.bool (N.Zaa (u0.den:Int)),.vec false 1 ((N.Zac (u0.den:Int)).map (.int .u32)),.bool (N.Zaa v1.num),.vec false 1 ((N.Zac v1.num).map (.int .u32)),.bool (N.Zaa (v1.den:Int)),.vec false 1 ((N.Zac (v1.den:Int)).map (.int .u32))]]),(8,.ptr 3 0 0 0),(9,.int .i64 3)] [⟨[.agg [.int .i64 ax,.int .i64 ay]],2,0,false,false⟩,⟨[.agg [.int .i64 bx,.int .i64 by_]],2,0,false,false⟩,⟨[.agg [.bool false,.vnil,.bool false,.vnil]],4,0,false,false⟩,⟨[ratF q],4,0,false,false⟩]) Q
def Zem (u0 v0 u1 v1:Rat) (ax ay bx by_:Int) (q:Rat) (Q:AV->Heap->Prop):Prop:=Wp M1 (.run fi48 (atC (cd Tryz.f48) [1,1,1,1,0,1,0,0]) [(4,.ptr 0 0 0 0),(5,.ptr 1 0 0 0),(6,.ptr 2 0 0 0),(7,.vec true 8 [.agg [.bool (N.Zaa u0.num),.vec false 1 ((N.Zac u0.num).map (.int .u32)),.bool (N.Zaa (u0.den:Int)),.vec false 1 ((N.Zac (u0.den:Int)).map (.int .u32)),.bool (N.Zaa v0.num),.vec false 1 ((N.Zac v0.num).map (.int .u32)),.bool (N.Zaa (v0.den:Int)),.vec false 1 ((N.Zac (v0.den:Int)).map (.int .u32))],.agg [.bool (N.Zaa u1.num),.vec false 1 ((N.Zac u1.num).map (.int .u32)),.bool (N.Zaa (u1.den:Int)),.vec false 1 ((N.Zac (u1.den:Int)).map (.int .u32)),.bool (N.Zaa v0.num),.vec false 1 ((N.Zac v0.num).map (.int .u32)),.bool (N.Zaa (v0.den:Int)),.vec false 1 ((N.Zac (v0.den:Int)).map (.int .u32))],.agg [.bool (N.Zaa u1.num),.vec false 1 ((N.Zac u1.num).map (.int .u32)),.bool (N.Zaa (u1.den:Int)),.vec false 1 ((N.Zac (u1.den:Int)).map (.int .u32)),.bool (N.Zaa v1.num),.vec false 1 ((N.Zac v1.num).map (.int .u32)),.bool (N.Zaa (v1.den:Int)),.vec false 1 ((N.Zac (v1.den:Int)).map (.int .u32))],.agg [.bool (N.Zaa u0.num),.vec false 1 ((N.Zac u0.num).map (.int .u32)),.bool (N.Zaa (u0.den:Int)),.vec false 1 ((N.Zac (u0.den:Int)).map (.int .u32)),.bool (N.Zaa v1.num),.vec false 1 ((N.Zac v1.num).map (.int .u32)),.bool (N.Zaa (v1.den:Int)),.vec false 1 ((N.Zac (v1.den:Int)).map (.int .u32))]]),(8,.ptr 3 0 0 0),(9,.int .i64 4)] [⟨[.agg [.int .i64 ax,.int .i64 ay]],2,0,false,false⟩,⟨[.agg [.int .i64 bx,.int .i64 by_]],2,0,false,false⟩,⟨[.agg [.bool false,.vnil,.bool false,.vnil]],4,0,false,false⟩,⟨[ratF q],4,0,false,false⟩]) Q
theorem call48 {args:List AV} {d:AV} (h:wc M1 fi48 Tryz.f48 args d):Ev M1 (.pure 48 args) d []:=pcl _ _ (by kernel_rfl) h
noncomputable abbrev zNrD1 (x0:Int) (y0:Int):=ag [vb (N.Zaa (N.qi x0).num),vf (us (N.Zac (N.qi x0).num)),vb (N.Zaa (↑(N.qi x0).den:Int)),vf (us (N.Zac (↑(N.qi x0).den:Int))),vb (N.Zaa (N.qi y0).num),vf (us (N.Zac (N.qi y0).num)),vb (N.Zaa (↑(N.qi y0).den:Int)),vf (us (N.Zac (↑(N.qi y0).den:Int)))]
noncomputable abbrev zNrD2 (x1:Int) (y0:Int):=ag [vb (N.Zaa (N.qi x1).num),vf (us (N.Zac (N.qi x1).num)),vb (N.Zaa (↑(N.qi x1).den:Int)),vf (us (N.Zac (↑(N.qi x1).den:Int))),vb (N.Zaa (N.qi y0).num),vf (us (N.Zac (N.qi y0).num)),vb (N.Zaa (↑(N.qi y0).den:Int)),vf (us (N.Zac (↑(N.qi y0).den:Int)))]
noncomputable abbrev zNrD3 (x1:Int) (y1:Int):=ag [vb (N.Zaa (N.qi x1).num),vf (us (N.Zac (N.qi x1).num)),vb (N.Zaa (↑(N.qi x1).den:Int)),vf (us (N.Zac (↑(N.qi x1).den:Int))),vb (N.Zaa (N.qi y1).num),vf (us (N.Zac (N.qi y1).num)),vb (N.Zaa (↑(N.qi y1).den:Int)),vf (us (N.Zac (↑(N.qi y1).den:Int)))]
noncomputable abbrev zNrD4 (x0:Int) (y1:Int):=ag [vb (N.Zaa (N.qi x0).num),vf (us (N.Zac (N.qi x0).num)),vb (N.Zaa (↑(N.qi x0).den:Int)),vf (us (N.Zac (↑(N.qi x0).den:Int))),vb (N.Zaa (N.qi y1).num),vf (us (N.Zac (N.qi y1).num)),vb (N.Zaa (↑(N.qi y1).den:Int)),vf (us (N.Zac (↑(N.qi y1).den:Int)))]
noncomputable abbrev zNrD5 (x0:Int) (y0:Int) (x1:Int) (y1:Int) (tp:Int):=ag [vi x0,vi y0,vi x1,vi y1,vi tp]
noncomputable abbrev zNrD6:=ag [vb false,AV.vnil,vb false,AV.vnil]
noncomputable abbrev zNrD7 (bx:Int) (by_:Int):=ag [vi bx,vi by_]
theorem qXfa (x0 y0 x1 y1 tp ax ay bx by_:Int)  (dq:AV) (H :
  (((N.hld x0 y0 x1 y1 ax ay)\/(N.hld x0 y0 x1 y1 bx by_))->(N.inI 0) /\
   Weak (ratF (N.qi 0)) dq) /\
  (¬((N.hld x0 y0 x1 y1 ax ay)\/(N.hld x0 y0 x1 y1 bx by_))->(N.Zga x0 y0) /\
   (N.Zga x1 y0) /\
   (N.Zga x1 y1) /\
   (N.Zga x0 y1) /\
   Zfn (N.qi x0) (N.qi y0) (N.qi x1) (N.qi y1) ax ay bx by_ (Zaf dq))) :
 qXfa_at x0 y0 x1 y1 tp ax ay bx by_ (Zaf dq):=by
 unfold qXfa_at
 refine Zad (G:=Zae kp48 [(1,2,.call (vb (decide (N.hld x0 y0 x1 y1 ax ay))) none),(1,6,.call (vb (decide (N.hld x0 y0 x1 y1 bx by_))) none)] []) 5 [] ⟨(atC (cd Tryz.f48) [1,0,1]),[(3,AV.ptr 0 0 0 0),(4,AV.ptr 1 0 0 0),(5,AV.ptr 2 0 0 0),(6,AV.ptr 3 0 0 0),(18,vb (bif decide (N.hld x0 y0 x1 y1 ax ay) then true else decide (N.hld x0 y0 x1 y1 bx by_)))],[⟨[(zNrD5 x0 y0 x1 y1 tp)],5,0,false,false⟩,⟨[ag [vi ax,vi ay]],2,0,false,false⟩,⟨[(zNrD7 bx by_)],2,0,false,false⟩,⟨[zNrD6],4,0,false,false⟩],[true,true,!(decide (N.hld x0 y0 x1 y1 ax ay)==false&&true)||true,!(decide (N.hld x0 y0 x1 y1 ax ay)==false&&true)||true],[],[⟨true,false,66,[(zNrD5 x0 y0 x1 y1 tp),ag [vi ax,vi ay]],[],vb (decide (N.hld x0 y0 x1 y1 ax ay)),[]⟩,⟨decide (N.hld x0 y0 x1 y1 ax ay)==false&&true&&true,false,66,[(zNrD5 x0 y0 x1 y1 tp),(zNrD7 bx by_)],[],vb (decide (N.hld x0 y0 x1 y1 bx by_)),[]⟩]⟩ (by kernel_rfl) (bc rfl (bc rfl (bc (Bool.or_true _) (bc (Bool.or_true _) b0)))) q0 (cc (fun _=>(@ev66 x0 y0 x1 y1 tp ax ay)) (cc (fun hc=>((@ev66 x0 y0 x1 y1 tp bx by_):Ev M1 (Conf.pure 66 [(zNrD5 x0 y0 x1 y1 tp),(zNrD7 bx by_)]) (vb (decide (N.hld x0 y0 x1 y1 bx by_))) [])) c0)) ?_
 rcases xq H with ⟨d3,H⟩|⟨d3,H⟩
 ·obtain ⟨k4,H⟩:=H
  exact Zai (G:=Zae kp48 [(2,0,.call (ratF (N.qi 0)) none)] []) 1000 [true] (ratF (N.qi 0)) (by kernel_rfl) (bc (Zan ((Zdf Zab Zab).2 d3)) (bc rfl b0)) q0 (ce (@ev50 0 k4) c0) H
 ·obtain ⟨k5,k6,k7,k8,H⟩:=H
  exact Zad (G:=Zae kp48 [(3,4,.call ((zNrD1 x0 y0)) none),(3,9,.call ((zNrD2 x1 y0)) none),(3,14,.call ((zNrD3 x1 y1)) none),(3,19,.call ((zNrD4 x0 y1)) none)] []) 1000 [false] ⟨(atC (cd Tryz.f48) [1,1,1,1,0,1,0,0]),[(4,AV.ptr 1 0 0 0),(5,AV.ptr 2 0 0 0),(6,AV.ptr 3 0 0 0),(7,AV.vec true 8 [(zNrD1 x0 y0),(zNrD2 x1 y0),(zNrD3 x1 y1),(zNrD4 x0 y1)]),(8,AV.ptr 4 0 0 0),(9,vi 0)],[⟨[(zNrD5 x0 y0 x1 y1 tp)],5,0,false,false⟩,⟨[ag [vi ax,vi ay]],2,0,false,false⟩,⟨[(zNrD7 bx by_)],2,0,false,false⟩,⟨[zNrD6],4,0,false,false⟩,⟨[zNrD6],4,0,false,false⟩],_,[],_⟩ (by kernel_rfl) (bc (Zam (fun h=>d3 ((Zdf Zab Zab).1 h))) (bc rfl (bc rfl (bc rfl (bc rfl (bc rfl (bc rfl (bc rfl (bc rfl b0))))))))) q0 (ce (@ev67 x0 y0 k5) (ce (@ev67 x1 y0 k6) (ce (@ev67 x1 y1 k7) (ce (@ev67 x0 y1 k8) c0)))) (Zas [1,2,3,4] (by kernel_rfl) H)
noncomputable abbrev zNrD8 (bx:Int) (by_:Int):=ag [vb (N.Zaa (N.qi bx).num),vf (us (N.Zac (N.qi bx).num)),vb (N.Zaa (↑(N.qi bx).den:Int)),vf (us (N.Zac (↑(N.qi bx).den:Int))),vb (N.Zaa (N.qi by_).num),vf (us (N.Zac (N.qi by_).num)),vb (N.Zaa (↑(N.qi by_).den:Int)),vf (us (N.Zac (↑(N.qi by_).den:Int)))]
noncomputable abbrev zNrD9 (ax:Int) (ay:Int):=ag [vb (N.Zaa (N.qi ax).num),vf (us (N.Zac (N.qi ax).num)),vb (N.Zaa (↑(N.qi ax).den:Int)),vf (us (N.Zac (↑(N.qi ax).den:Int))),vb (N.Zaa (N.qi ay).num),vf (us (N.Zac (N.qi ay).num)),vb (N.Zaa (↑(N.qi ay).den:Int)),vf (us (N.Zac (↑(N.qi ay).den:Int)))]
noncomputable abbrev zNrD10 (u0:Rat) (v0:Rat):=ag [vb (N.Zaa u0.num),vf (us (N.Zac u0.num)),vb (N.Zaa (↑u0.den:Int)),vf (us (N.Zac (↑u0.den:Int))),vb (N.Zaa v0.num),vf (us (N.Zac v0.num)),vb (N.Zaa (↑v0.den:Int)),vf (us (N.Zac (↑v0.den:Int)))]
noncomputable abbrev zNrD11 (u1:Rat) (v0:Rat):=ag [vb (N.Zaa u1.num),vf (us (N.Zac u1.num)),vb (N.Zaa (↑u1.den:Int)),vf (us (N.Zac (↑u1.den:Int))),vb (N.Zaa v0.num),vf (us (N.Zac v0.num)),vb (N.Zaa (↑v0.den:Int)),vf (us (N.Zac (↑v0.den:Int)))]
noncomputable abbrev zNrD12:=ag [vb false,AV.vnil,vb false,AV.vnil]
noncomputable abbrev ZgH (ax:Int) (ay:Int) (bx:Int) (by_:Int) (u0:Rat) (v0:Rat) (u1:Rat):=N.seg (N.qi ax) (N.qi ay) (N.qi bx) (N.qi by_) u0 v0 u1 v0
theorem qXfa0 (u0 v0 u1 v1:Rat) (ax ay bx by_:Int)  (dq:AV) (H :
  (N.Zga ax ay) /\
  (N.Zga bx by_) /\
  (N.ZfZ (N.qi ax) (N.qi ay) (N.qi bx) (N.qi by_) u0 v0 u1 v0) /\
  ∃ (n1:Int),
  ((¬(true=true))->(Ev M1 (Conf.pure 47 [ratF (N.seg (N.qi ax) (N.qi ay) (N.qi bx) (N.qi by_) u0 v0 u1 v0),ag [vb false,AV.vnil,vb false,AV.vnil]]) (vi n1) [])) /\
  Zfm u0 v0 u1 v1 ax ay bx by_ (N.seg (N.qi ax) (N.qi ay) (N.qi bx) (N.qi by_) u0 v0 u1 v0) (Zaf dq)) :
 Zfn u0 v0 u1 v1 ax ay bx by_ (Zaf dq):=by
 unfold Zfn
 obtain ⟨k4,k5,k6,n1,k8,H⟩:=H
 exact Zad (G:=Zae kp48 [(8,4,.call ((zNrD9 ax ay)) none),(8,9,.call ((zNrD8 bx by_)) none),(8,20,.call (ratF (ZgH ax ay bx by_ u0 v0 u1)) none),(9,5,.call (vi n1) none)] [(8,[6022,6021,902020,902019,902018,902013,902012,902009,3008,3006,902004,2003,2001])]) 1000 [true,true] ⟨(atC (cd Tryz.f48) [1,1,1,1,0,1,0,0]),[(4,AV.ptr 0 0 0 0),(5,AV.ptr 1 0 0 0),(6,AV.ptr 2 0 0 0),(7,AV.vec true 8 [(zNrD10 u0 v0),(zNrD11 u1 v0),ag [vb (N.Zaa u1.num),vf (us (N.Zac u1.num)),vb (N.Zaa (↑u1.den:Int)),vf (us (N.Zac (↑u1.den:Int))),vb (N.Zaa v1.num),vf (us (N.Zac v1.num)),vb (N.Zaa (↑v1.den:Int)),vf (us (N.Zac (↑v1.den:Int)))],ag [vb (N.Zaa u0.num),vf (us (N.Zac u0.num)),vb (N.Zaa (↑u0.den:Int)),vf (us (N.Zac (↑u0.den:Int))),vb (N.Zaa v1.num),vf (us (N.Zac v1.num)),vb (N.Zaa (↑v1.den:Int)),vf (us (N.Zac (↑v1.den:Int)))]]),(8,AV.ptr 3 0 0 0),(9,vi 1)],[⟨[ag [vi ax,vi ay]],2,0,false,false⟩,⟨[ag [vi bx,vi by_]],2,0,false,false⟩,⟨[zNrD12],4,0,false,false⟩,⟨[ratF (ZgH ax ay bx by_ u0 v0 u1)],4,0,false,false⟩,⟨[ratF (ZgH ax ay bx by_ u0 v0 u1)],4,0,false,false⟩],_,[],[⟨true,false,67,[vi ax,vi ay],[],(zNrD9 ax ay),[]⟩,⟨true,false,67,[vi bx,vi by_],[],(zNrD8 bx by_),[]⟩,⟨true,false,68,[(zNrD9 ax ay),(zNrD8 bx by_),(zNrD10 u0 v0),(zNrD11 u1 v0)],[],ratF (ZgH ax ay bx by_ u0 v0 u1),[]⟩,⟨true==false&&true&&true,false,47,[ratF (ZgH ax ay bx by_ u0 v0 u1),zNrD12],[],vi n1,[]⟩]⟩ (by kernel_rfl) (bc rfl (bc rfl (bc rfl (bc rfl (bc rfl (bc rfl (bc rfl (bc rfl (bc rfl (bc rfl (bc rfl (bc rfl (bc rfl (bc rfl (bc rfl (bc rfl b0)))))))))))))))) q0 (cc (fun _=>(@ev67 ax ay k4)) (cc (fun _=>(@ev67 bx by_ k5)) (cc (fun _=>(@ev68 false false false false false false false false false false false false false false false false (N.qi ax) (N.qi ay) (N.qi bx) (N.qi by_) u0 v0 u1 v0 k6)) (cc (fun hc=>((k8 ((i_at (i_at (i_bf (Zbq _)))).1 hc)):Ev M1 (Conf.pure 47 [ratF (ZgH ax ay bx by_ u0 v0 u1),zNrD12]) (vi n1) [])) c0)))) (Zas [0,1,2,3] (by kernel_rfl) H)
noncomputable abbrev zNrD14 (u1:Rat) (v0:Rat):=ag [vb (N.Zaa u1.num),vf (us (N.Zac u1.num)),vb (N.Zaa (↑u1.den:Int)),vf (us (N.Zac (↑u1.den:Int))),vb (N.Zaa v0.num),vf (us (N.Zac v0.num)),vb (N.Zaa (↑v0.den:Int)),vf (us (N.Zac (↑v0.den:Int)))]
noncomputable abbrev zNrD15 (u1:Rat) (v1:Rat):=ag [vb (N.Zaa u1.num),vf (us (N.Zac u1.num)),vb (N.Zaa (↑u1.den:Int)),vf (us (N.Zac (↑u1.den:Int))),vb (N.Zaa v1.num),vf (us (N.Zac v1.num)),vb (N.Zaa (↑v1.den:Int)),vf (us (N.Zac (↑v1.den:Int)))]
noncomputable abbrev zNrD16 (bx:Int) (by_:Int):=ag [vb (N.Zaa (N.qi bx).num),vf (us (N.Zac (N.qi bx).num)),vb (N.Zaa (↑(N.qi bx).den:Int)),vf (us (N.Zac (↑(N.qi bx).den:Int))),vb (N.Zaa (N.qi by_).num),vf (us (N.Zac (N.qi by_).num)),vb (N.Zaa (↑(N.qi by_).den:Int)),vf (us (N.Zac (↑(N.qi by_).den:Int)))]
noncomputable abbrev zNrD17 (ax:Int) (ay:Int):=ag [vb (N.Zaa (N.qi ax).num),vf (us (N.Zac (N.qi ax).num)),vb (N.Zaa (↑(N.qi ax).den:Int)),vf (us (N.Zac (↑(N.qi ax).den:Int))),vb (N.Zaa (N.qi ay).num),vf (us (N.Zac (N.qi ay).num)),vb (N.Zaa (↑(N.qi ay).den:Int)),vf (us (N.Zac (↑(N.qi ay).den:Int)))]
noncomputable abbrev zNrD18 (u0:Rat) (v0:Rat):=ag [vb (N.Zaa u0.num),vf (us (N.Zac u0.num)),vb (N.Zaa (↑u0.den:Int)),vf (us (N.Zac (↑u0.den:Int))),vb (N.Zaa v0.num),vf (us (N.Zac v0.num)),vb (N.Zaa (↑v0.den:Int)),vf (us (N.Zac (↑v0.den:Int)))]
noncomputable abbrev zNrD19 (u0:Rat) (v1:Rat):=ag [vb (N.Zaa u0.num),vf (us (N.Zac u0.num)),vb (N.Zaa (↑u0.den:Int)),vf (us (N.Zac (↑u0.den:Int))),vb (N.Zaa v1.num),vf (us (N.Zac v1.num)),vb (N.Zaa (↑v1.den:Int)),vf (us (N.Zac (↑v1.den:Int)))]
noncomputable abbrev Zb5 (ax:Int) (ay:Int) (bx:Int) (by_:Int) (u1:Rat) (v0:Rat) (v1:Rat):=N.seg (N.qi ax) (N.qi ay) (N.qi bx) (N.qi by_) u1 v0 u1 v1
noncomputable abbrev zNrD21:=ag [vb false,AV.vnil,vb false,AV.vnil]
theorem qXfa1 (u0 v0 u1 v1:Rat) (ax ay bx by_:Int) (q:Rat)  (dq:AV) (H :
  (N.Zga ax ay) /\
  (N.Zga bx by_) /\
  (N.ZfZ (N.qi ax) (N.qi ay) (N.qi bx) (N.qi by_) u1 v0 u1 v1) /\
  ((¬(false=true))->(N.okR (N.seg (N.qi ax) (N.qi ay) (N.qi bx) (N.qi by_) u1 v0 u1 v1)/\N.okR q)) /\
  ((N.sgnI ((N.seg (N.qi ax) (N.qi ay) (N.qi bx) (N.qi by_) u1 v0 u1 v1).num*(↑q.den:Int)-q.num*(↑(N.seg (N.qi ax) (N.qi ay) (N.qi bx) (N.qi by_) u1 v0 u1 v1).den:Int))<0)->Zeo u0 v0 u1 v1 ax ay bx by_ (N.seg (N.qi ax) (N.qi ay) (N.qi bx) (N.qi by_) u1 v0 u1 v1) (Zaf dq)) /\
  (¬(N.sgnI ((N.seg (N.qi ax) (N.qi ay) (N.qi bx) (N.qi by_) u1 v0 u1 v1).num*(↑q.den:Int)-q.num*(↑(N.seg (N.qi ax) (N.qi ay) (N.qi bx) (N.qi by_) u1 v0 u1 v1).den:Int))<0)->Zeo u0 v0 u1 v1 ax ay bx by_ q (Zaf dq))) :
 Zfm u0 v0 u1 v1 ax ay bx by_ q (Zaf dq):=by
 unfold Zfm
 obtain ⟨k4,k5,k6,k8,H⟩:=H
 refine Zad (G:=Zae kp48 [(8,4,.call ((zNrD17 ax ay)) none),(8,9,.call ((zNrD16 bx by_)) none),(8,20,.call (ratF (Zb5 ax ay bx by_ u1 v0 v1)) none),(9,5,.call (vi (N.sgnI ((Zb5 ax ay bx by_ u1 v0 v1).num*(↑q.den:Int)-q.num*(↑(Zb5 ax ay bx by_ u1 v0 v1).den:Int)))) none)] [(8,[6022,6021,902020,902019,902018,902013,902012,902009,3008,3006,902004,2003,2001])]) 11 [true] ⟨(atC (cd Tryz.f48) [1,1,1,1,0,1,0,0,1,0,0,1,1]),[(4,AV.ptr 0 0 0 0),(5,AV.ptr 1 0 0 0),(6,AV.ptr 2 0 0 0),(7,AV.vec true 8 [(zNrD18 u0 v0),(zNrD14 u1 v0),(zNrD15 u1 v1),(zNrD19 u0 v1)]),(8,AV.ptr 3 0 0 0),(9,vi 1),(10,AV.ptr 4 0 0 0),(73,vb (decide (N.sgnI ((Zb5 ax ay bx by_ u1 v0 v1).num*(↑q.den:Int)-q.num*(↑(Zb5 ax ay bx by_ u1 v0 v1).den:Int))<0)))],[⟨[ag [vi ax,vi ay]],2,0,false,false⟩,⟨[ag [vi bx,vi by_]],2,0,false,false⟩,⟨[zNrD21],4,0,false,false⟩,⟨[ratF q],4,0,false,false⟩,⟨[ratF (Zb5 ax ay bx by_ u1 v0 v1)],4,0,false,false⟩],_,[],[⟨true,false,67,[vi ax,vi ay],[],(zNrD17 ax ay),[]⟩,⟨true,false,67,[vi bx,vi by_],[],(zNrD16 bx by_),[]⟩,⟨true,false,68,[(zNrD17 ax ay),(zNrD16 bx by_),(zNrD14 u1 v0),(zNrD15 u1 v1)],[],ratF (Zb5 ax ay bx by_ u1 v0 v1),[]⟩,⟨false==false&&true&&true,false,47,[ratF (Zb5 ax ay bx by_ u1 v0 v1),ratF q],[],vi (N.sgnI ((Zb5 ax ay bx by_ u1 v0 v1).num*(↑q.den:Int)-q.num*(↑(Zb5 ax ay bx by_ u1 v0 v1).den:Int))),[]⟩]⟩ (by kernel_rfl) (bc rfl (bc rfl (bc rfl (bc rfl (bc rfl (bc rfl (bc rfl (bc rfl (bc rfl (bc rfl (bc rfl (bc rfl (bc rfl b0))))))))))))) q0 (cc (fun _=>(@ev67 ax ay k4)) (cc (fun _=>(@ev67 bx by_ k5)) (cc (fun _=>(@ev68 false false false false false false false false false false false false false false false false (N.qi ax) (N.qi ay) (N.qi bx) (N.qi by_) u1 v0 u1 v1 k6)) (cc (fun hc=>((@ev47 false false false false (Zb5 ax ay bx by_ u1 v0 v1) q (k8 ((i_at (i_at (i_bf (Zbq _)))).1 hc))):Ev M1 (Conf.pure 47 [ratF (Zb5 ax ay bx by_ u1 v0 v1),ratF q]) (vi (N.sgnI ((Zb5 ax ay bx by_ u1 v0 v1).num*(↑q.den:Int)-q.num*(↑(Zb5 ax ay bx by_ u1 v0 v1).den:Int)))) [])) c0)))) ?_
 rcases xq H with ⟨d10,H⟩|⟨d10,H⟩
 ·exact Zad (G:=Zae kp48 [] []) 1000 [true] ⟨(atC (cd Tryz.f48) [1,1,1,1,0,1,0,0]),[(4,AV.ptr 0 0 0 0),(5,AV.ptr 1 0 0 0),(6,AV.ptr 2 0 0 0),(7,AV.vec true 8 [(zNrD18 u0 v0),(zNrD14 u1 v0),(zNrD15 u1 v1),(zNrD19 u0 v1)]),(8,AV.ptr 3 0 0 0),(9,vi 2)],[⟨[ag [vi ax,vi ay]],2,0,false,false⟩,⟨[ag [vi bx,vi by_]],2,0,false,false⟩,⟨[zNrD21],4,0,false,false⟩,⟨[ratF (Zb5 ax ay bx by_ u1 v0 v1)],4,0,false,false⟩,⟨[ratF (Zb5 ax ay bx by_ u1 v0 v1)],4,0,false,false⟩],_,[],_⟩ (by kernel_rfl) (bc (Zan (Zab.2 d10)) (bc rfl (bc rfl b0))) q0 c0 (Zas [0,1,2,3] (by kernel_rfl) H)
 ·exact Zad (G:=Zae kp48 [] []) 1000 [false] ⟨(atC (cd Tryz.f48) [1,1,1,1,0,1,0,0]),[(4,AV.ptr 0 0 0 0),(5,AV.ptr 1 0 0 0),(6,AV.ptr 2 0 0 0),(7,AV.vec true 8 [(zNrD18 u0 v0),(zNrD14 u1 v0),(zNrD15 u1 v1),(zNrD19 u0 v1)]),(8,AV.ptr 3 0 0 0),(9,vi 2)],[⟨[ag [vi ax,vi ay]],2,0,false,false⟩,⟨[ag [vi bx,vi by_]],2,0,false,false⟩,⟨[zNrD21],4,0,false,false⟩,⟨[ratF q],4,0,false,false⟩,⟨[ratF (Zb5 ax ay bx by_ u1 v0 v1)],4,0,false,false⟩],_,[],_⟩ (by kernel_rfl) (bc (Zam (fun h=>d10 (Zab.1 h))) b0) q0 c0 (Zas [0,1,2,3] (by kernel_rfl) H)
noncomputable abbrev zNrD22 (u1:Rat) (v1:Rat):=ag [vb (N.Zaa u1.num),vf (us (N.Zac u1.num)),vb (N.Zaa (↑u1.den:Int)),vf (us (N.Zac (↑u1.den:Int))),vb (N.Zaa v1.num),vf (us (N.Zac v1.num)),vb (N.Zaa (↑v1.den:Int)),vf (us (N.Zac (↑v1.den:Int)))]
noncomputable abbrev zNrD23 (u0:Rat) (v1:Rat):=ag [vb (N.Zaa u0.num),vf (us (N.Zac u0.num)),vb (N.Zaa (↑u0.den:Int)),vf (us (N.Zac (↑u0.den:Int))),vb (N.Zaa v1.num),vf (us (N.Zac v1.num)),vb (N.Zaa (↑v1.den:Int)),vf (us (N.Zac (↑v1.den:Int)))]
noncomputable abbrev zNrD24 (bx:Int) (by_:Int):=ag [vb (N.Zaa (N.qi bx).num),vf (us (N.Zac (N.qi bx).num)),vb (N.Zaa (↑(N.qi bx).den:Int)),vf (us (N.Zac (↑(N.qi bx).den:Int))),vb (N.Zaa (N.qi by_).num),vf (us (N.Zac (N.qi by_).num)),vb (N.Zaa (↑(N.qi by_).den:Int)),vf (us (N.Zac (↑(N.qi by_).den:Int)))]
noncomputable abbrev zNrD25 (ax:Int) (ay:Int):=ag [vb (N.Zaa (N.qi ax).num),vf (us (N.Zac (N.qi ax).num)),vb (N.Zaa (↑(N.qi ax).den:Int)),vf (us (N.Zac (↑(N.qi ax).den:Int))),vb (N.Zaa (N.qi ay).num),vf (us (N.Zac (N.qi ay).num)),vb (N.Zaa (↑(N.qi ay).den:Int)),vf (us (N.Zac (↑(N.qi ay).den:Int)))]
noncomputable abbrev zNrD26 (u0:Rat) (v0:Rat):=ag [vb (N.Zaa u0.num),vf (us (N.Zac u0.num)),vb (N.Zaa (↑u0.den:Int)),vf (us (N.Zac (↑u0.den:Int))),vb (N.Zaa v0.num),vf (us (N.Zac v0.num)),vb (N.Zaa (↑v0.den:Int)),vf (us (N.Zac (↑v0.den:Int)))]
noncomputable abbrev zNrD27 (u1:Rat) (v0:Rat):=ag [vb (N.Zaa u1.num),vf (us (N.Zac u1.num)),vb (N.Zaa (↑u1.den:Int)),vf (us (N.Zac (↑u1.den:Int))),vb (N.Zaa v0.num),vf (us (N.Zac v0.num)),vb (N.Zaa (↑v0.den:Int)),vf (us (N.Zac (↑v0.den:Int)))]
noncomputable abbrev Zb4 (ax:Int) (ay:Int) (bx:Int) (by_:Int) (u1:Rat) (v1:Rat) (u0:Rat):=N.seg (N.qi ax) (N.qi ay) (N.qi bx) (N.qi by_) u1 v1 u0 v1
noncomputable abbrev zNrD29:=ag [vb false,AV.vnil,vb false,AV.vnil]
theorem qXfa2 (u0 v0 u1 v1:Rat) (ax ay bx by_:Int) (q:Rat)  (dq:AV) (H :
  (N.Zga ax ay) /\
  (N.Zga bx by_) /\
  (N.ZfZ (N.qi ax) (N.qi ay) (N.qi bx) (N.qi by_) u1 v1 u0 v1) /\
  ((¬(false=true))->(N.okR (N.seg (N.qi ax) (N.qi ay) (N.qi bx) (N.qi by_) u1 v1 u0 v1)/\N.okR q)) /\
  ((N.sgnI ((N.seg (N.qi ax) (N.qi ay) (N.qi bx) (N.qi by_) u1 v1 u0 v1).num*(↑q.den:Int)-q.num*(↑(N.seg (N.qi ax) (N.qi ay) (N.qi bx) (N.qi by_) u1 v1 u0 v1).den:Int))<0)->Zen u0 v0 u1 v1 ax ay bx by_ (N.seg (N.qi ax) (N.qi ay) (N.qi bx) (N.qi by_) u1 v1 u0 v1) (Zaf dq)) /\
  (¬(N.sgnI ((N.seg (N.qi ax) (N.qi ay) (N.qi bx) (N.qi by_) u1 v1 u0 v1).num*(↑q.den:Int)-q.num*(↑(N.seg (N.qi ax) (N.qi ay) (N.qi bx) (N.qi by_) u1 v1 u0 v1).den:Int))<0)->Zen u0 v0 u1 v1 ax ay bx by_ q (Zaf dq))) :
 Zeo u0 v0 u1 v1 ax ay bx by_ q (Zaf dq):=by
 unfold Zeo
 obtain ⟨k4,k5,k6,k8,H⟩:=H
 refine Zad (G:=Zae kp48 [(8,4,.call ((zNrD25 ax ay)) none),(8,9,.call ((zNrD24 bx by_)) none),(8,20,.call (ratF (Zb4 ax ay bx by_ u1 v1 u0)) none),(9,5,.call (vi (N.sgnI ((Zb4 ax ay bx by_ u1 v1 u0).num*(↑q.den:Int)-q.num*(↑(Zb4 ax ay bx by_ u1 v1 u0).den:Int)))) none)] [(8,[6022,6021,902020,902019,902018,902013,902012,902009,3008,3006,902004,2003,2001])]) 11 [true] ⟨(atC (cd Tryz.f48) [1,1,1,1,0,1,0,0,1,0,0,1,1]),[(4,AV.ptr 0 0 0 0),(5,AV.ptr 1 0 0 0),(6,AV.ptr 2 0 0 0),(7,AV.vec true 8 [(zNrD26 u0 v0),(zNrD27 u1 v0),(zNrD22 u1 v1),(zNrD23 u0 v1)]),(8,AV.ptr 3 0 0 0),(9,vi 2),(10,AV.ptr 4 0 0 0),(73,vb (decide (N.sgnI ((Zb4 ax ay bx by_ u1 v1 u0).num*(↑q.den:Int)-q.num*(↑(Zb4 ax ay bx by_ u1 v1 u0).den:Int))<0)))],[⟨[ag [vi ax,vi ay]],2,0,false,false⟩,⟨[ag [vi bx,vi by_]],2,0,false,false⟩,⟨[zNrD29],4,0,false,false⟩,⟨[ratF q],4,0,false,false⟩,⟨[ratF (Zb4 ax ay bx by_ u1 v1 u0)],4,0,false,false⟩],_,[],[⟨true,false,67,[vi ax,vi ay],[],(zNrD25 ax ay),[]⟩,⟨true,false,67,[vi bx,vi by_],[],(zNrD24 bx by_),[]⟩,⟨true,false,68,[(zNrD25 ax ay),(zNrD24 bx by_),(zNrD22 u1 v1),(zNrD23 u0 v1)],[],ratF (Zb4 ax ay bx by_ u1 v1 u0),[]⟩,⟨false==false&&true&&true,false,47,[ratF (Zb4 ax ay bx by_ u1 v1 u0),ratF q],[],vi (N.sgnI ((Zb4 ax ay bx by_ u1 v1 u0).num*(↑q.den:Int)-q.num*(↑(Zb4 ax ay bx by_ u1 v1 u0).den:Int))),[]⟩]⟩ (by kernel_rfl) (bc rfl (bc rfl (bc rfl (bc rfl (bc rfl (bc rfl (bc rfl (bc rfl (bc rfl (bc rfl (bc rfl (bc rfl (bc rfl b0))))))))))))) q0 (cc (fun _=>(@ev67 ax ay k4)) (cc (fun _=>(@ev67 bx by_ k5)) (cc (fun _=>(@ev68 false false false false false false false false false false false false false false false false (N.qi ax) (N.qi ay) (N.qi bx) (N.qi by_) u1 v1 u0 v1 k6)) (cc (fun hc=>((@ev47 false false false false (Zb4 ax ay bx by_ u1 v1 u0) q (k8 ((i_at (i_at (i_bf (Zbq _)))).1 hc))):Ev M1 (Conf.pure 47 [ratF (Zb4 ax ay bx by_ u1 v1 u0),ratF q]) (vi (N.sgnI ((Zb4 ax ay bx by_ u1 v1 u0).num*(↑q.den:Int)-q.num*(↑(Zb4 ax ay bx by_ u1 v1 u0).den:Int)))) [])) c0)))) ?_
 rcases xq H with ⟨d10,H⟩|⟨d10,H⟩
 ·exact Zad (G:=Zae kp48 [] []) 1000 [true] ⟨(atC (cd Tryz.f48) [1,1,1,1,0,1,0,0]),[(4,AV.ptr 0 0 0 0),(5,AV.ptr 1 0 0 0),(6,AV.ptr 2 0 0 0),(7,AV.vec true 8 [(zNrD26 u0 v0),(zNrD27 u1 v0),(zNrD22 u1 v1),(zNrD23 u0 v1)]),(8,AV.ptr 3 0 0 0),(9,vi 3)],[⟨[ag [vi ax,vi ay]],2,0,false,false⟩,⟨[ag [vi bx,vi by_]],2,0,false,false⟩,⟨[zNrD29],4,0,false,false⟩,⟨[ratF (Zb4 ax ay bx by_ u1 v1 u0)],4,0,false,false⟩,⟨[ratF (Zb4 ax ay bx by_ u1 v1 u0)],4,0,false,false⟩],_,[],_⟩ (by kernel_rfl) (bc (Zan (Zab.2 d10)) (bc rfl (bc rfl b0))) q0 c0 (Zas [0,1,2,3] (by kernel_rfl) H)
 ·exact Zad (G:=Zae kp48 [] []) 1000 [false] ⟨(atC (cd Tryz.f48) [1,1,1,1,0,1,0,0]),[(4,AV.ptr 0 0 0 0),(5,AV.ptr 1 0 0 0),(6,AV.ptr 2 0 0 0),(7,AV.vec true 8 [(zNrD26 u0 v0),(zNrD27 u1 v0),(zNrD22 u1 v1),(zNrD23 u0 v1)]),(8,AV.ptr 3 0 0 0),(9,vi 3)],[⟨[ag [vi ax,vi ay]],2,0,false,false⟩,⟨[ag [vi bx,vi by_]],2,0,false,false⟩,⟨[zNrD29],4,0,false,false⟩,⟨[ratF q],4,0,false,false⟩,⟨[ratF (Zb4 ax ay bx by_ u1 v1 u0)],4,0,false,false⟩],_,[],_⟩ (by kernel_rfl) (bc (Zam (fun h=>d10 (Zab.1 h))) b0) q0 c0 (Zas [0,1,2,3] (by kernel_rfl) H)
noncomputable abbrev zNrD30 (u0:Rat) (v0:Rat):=ag [vb (N.Zaa u0.num),vf (us (N.Zac u0.num)),vb (N.Zaa (↑u0.den:Int)),vf (us (N.Zac (↑u0.den:Int))),vb (N.Zaa v0.num),vf (us (N.Zac v0.num)),vb (N.Zaa (↑v0.den:Int)),vf (us (N.Zac (↑v0.den:Int)))]
noncomputable abbrev zNrD31 (u0:Rat) (v1:Rat):=ag [vb (N.Zaa u0.num),vf (us (N.Zac u0.num)),vb (N.Zaa (↑u0.den:Int)),vf (us (N.Zac (↑u0.den:Int))),vb (N.Zaa v1.num),vf (us (N.Zac v1.num)),vb (N.Zaa (↑v1.den:Int)),vf (us (N.Zac (↑v1.den:Int)))]
noncomputable abbrev zNrD32 (bx:Int) (by_:Int):=ag [vb (N.Zaa (N.qi bx).num),vf (us (N.Zac (N.qi bx).num)),vb (N.Zaa (↑(N.qi bx).den:Int)),vf (us (N.Zac (↑(N.qi bx).den:Int))),vb (N.Zaa (N.qi by_).num),vf (us (N.Zac (N.qi by_).num)),vb (N.Zaa (↑(N.qi by_).den:Int)),vf (us (N.Zac (↑(N.qi by_).den:Int)))]
noncomputable abbrev zNrD33 (ax:Int) (ay:Int):=ag [vb (N.Zaa (N.qi ax).num),vf (us (N.Zac (N.qi ax).num)),vb (N.Zaa (↑(N.qi ax).den:Int)),vf (us (N.Zac (↑(N.qi ax).den:Int))),vb (N.Zaa (N.qi ay).num),vf (us (N.Zac (N.qi ay).num)),vb (N.Zaa (↑(N.qi ay).den:Int)),vf (us (N.Zac (↑(N.qi ay).den:Int)))]
noncomputable abbrev zNrD34 (u1:Rat) (v0:Rat):=ag [vb (N.Zaa u1.num),vf (us (N.Zac u1.num)),vb (N.Zaa (↑u1.den:Int)),vf (us (N.Zac (↑u1.den:Int))),vb (N.Zaa v0.num),vf (us (N.Zac v0.num)),vb (N.Zaa (↑v0.den:Int)),vf (us (N.Zac (↑v0.den:Int)))]
noncomputable abbrev zNrD35 (u1:Rat) (v1:Rat):=ag [vb (N.Zaa u1.num),vf (us (N.Zac u1.num)),vb (N.Zaa (↑u1.den:Int)),vf (us (N.Zac (↑u1.den:Int))),vb (N.Zaa v1.num),vf (us (N.Zac v1.num)),vb (N.Zaa (↑v1.den:Int)),vf (us (N.Zac (↑v1.den:Int)))]
noncomputable abbrev Zb3 (ax:Int) (ay:Int) (bx:Int) (by_:Int) (u0:Rat) (v1:Rat) (v0:Rat):=N.seg (N.qi ax) (N.qi ay) (N.qi bx) (N.qi by_) u0 v1 u0 v0
noncomputable abbrev zNrD37:=ag [vb false,AV.vnil,vb false,AV.vnil]
theorem qXfa3 (u0 v0 u1 v1:Rat) (ax ay bx by_:Int) (q:Rat)  (dq:AV) (H :
  (N.Zga ax ay) /\
  (N.Zga bx by_) /\
  (N.ZfZ (N.qi ax) (N.qi ay) (N.qi bx) (N.qi by_) u0 v1 u0 v0) /\
  ((¬(false=true))->(N.okR (N.seg (N.qi ax) (N.qi ay) (N.qi bx) (N.qi by_) u0 v1 u0 v0)/\N.okR q)) /\
  ((N.sgnI ((N.seg (N.qi ax) (N.qi ay) (N.qi bx) (N.qi by_) u0 v1 u0 v0).num*(↑q.den:Int)-q.num*(↑(N.seg (N.qi ax) (N.qi ay) (N.qi bx) (N.qi by_) u0 v1 u0 v0).den:Int))<0)->Zem u0 v0 u1 v1 ax ay bx by_ (N.seg (N.qi ax) (N.qi ay) (N.qi bx) (N.qi by_) u0 v1 u0 v0) (Zaf dq)) /\
  (¬(N.sgnI ((N.seg (N.qi ax) (N.qi ay) (N.qi bx) (N.qi by_) u0 v1 u0 v0).num*(↑q.den:Int)-q.num*(↑(N.seg (N.qi ax) (N.qi ay) (N.qi bx) (N.qi by_) u0 v1 u0 v0).den:Int))<0)->Zem u0 v0 u1 v1 ax ay bx by_ q (Zaf dq))) :
 Zen u0 v0 u1 v1 ax ay bx by_ q (Zaf dq):=by
 unfold Zen
 obtain ⟨k4,k5,k6,k8,H⟩:=H
 refine Zad (G:=Zae kp48 [(8,4,.call ((zNrD33 ax ay)) none),(8,9,.call ((zNrD32 bx by_)) none),(8,20,.call (ratF (Zb3 ax ay bx by_ u0 v1 v0)) none),(9,5,.call (vi (N.sgnI ((Zb3 ax ay bx by_ u0 v1 v0).num*(↑q.den:Int)-q.num*(↑(Zb3 ax ay bx by_ u0 v1 v0).den:Int)))) none)] [(8,[6022,6021,902020,902019,902018,902013,902012,902009,3008,3006,902004,2003,2001])]) 11 [true] ⟨(atC (cd Tryz.f48) [1,1,1,1,0,1,0,0,1,0,0,1,1]),[(4,AV.ptr 0 0 0 0),(5,AV.ptr 1 0 0 0),(6,AV.ptr 2 0 0 0),(7,AV.vec true 8 [(zNrD30 u0 v0),(zNrD34 u1 v0),(zNrD35 u1 v1),(zNrD31 u0 v1)]),(8,AV.ptr 3 0 0 0),(9,vi 3),(10,AV.ptr 4 0 0 0),(73,vb (decide (N.sgnI ((Zb3 ax ay bx by_ u0 v1 v0).num*(↑q.den:Int)-q.num*(↑(Zb3 ax ay bx by_ u0 v1 v0).den:Int))<0)))],[⟨[ag [vi ax,vi ay]],2,0,false,false⟩,⟨[ag [vi bx,vi by_]],2,0,false,false⟩,⟨[zNrD37],4,0,false,false⟩,⟨[ratF q],4,0,false,false⟩,⟨[ratF (Zb3 ax ay bx by_ u0 v1 v0)],4,0,false,false⟩],_,[],[⟨true,false,67,[vi ax,vi ay],[],(zNrD33 ax ay),[]⟩,⟨true,false,67,[vi bx,vi by_],[],(zNrD32 bx by_),[]⟩,⟨true,false,68,[(zNrD33 ax ay),(zNrD32 bx by_),(zNrD31 u0 v1),(zNrD30 u0 v0)],[],ratF (Zb3 ax ay bx by_ u0 v1 v0),[]⟩,⟨false==false&&true&&true,false,47,[ratF (Zb3 ax ay bx by_ u0 v1 v0),ratF q],[],vi (N.sgnI ((Zb3 ax ay bx by_ u0 v1 v0).num*(↑q.den:Int)-q.num*(↑(Zb3 ax ay bx by_ u0 v1 v0).den:Int))),[]⟩]⟩ (by kernel_rfl) (bc rfl (bc rfl (bc rfl (bc rfl (bc rfl (bc rfl (bc rfl (bc rfl (bc rfl (bc rfl (bc rfl (bc rfl (bc rfl b0))))))))))))) q0 (cc (fun _=>(@ev67 ax ay k4)) (cc (fun _=>(@ev67 bx by_ k5)) (cc (fun _=>(@ev68 false false false false false false false false false false false false false false false false (N.qi ax) (N.qi ay) (N.qi bx) (N.qi by_) u0 v1 u0 v0 k6)) (cc (fun hc=>((@ev47 false false false false (Zb3 ax ay bx by_ u0 v1 v0) q (k8 ((i_at (i_at (i_bf (Zbq _)))).1 hc))):Ev M1 (Conf.pure 47 [ratF (Zb3 ax ay bx by_ u0 v1 v0),ratF q]) (vi (N.sgnI ((Zb3 ax ay bx by_ u0 v1 v0).num*(↑q.den:Int)-q.num*(↑(Zb3 ax ay bx by_ u0 v1 v0).den:Int)))) [])) c0)))) ?_
 rcases xq H with ⟨d10,H⟩|⟨d10,H⟩
 ·exact Zad (G:=Zae kp48 [] []) 1000 [true] ⟨(atC (cd Tryz.f48) [1,1,1,1,0,1,0,0]),[(4,AV.ptr 0 0 0 0),(5,AV.ptr 1 0 0 0),(6,AV.ptr 2 0 0 0),(7,AV.vec true 8 [(zNrD30 u0 v0),(zNrD34 u1 v0),(zNrD35 u1 v1),(zNrD31 u0 v1)]),(8,AV.ptr 3 0 0 0),(9,vi 4)],[⟨[ag [vi ax,vi ay]],2,0,false,false⟩,⟨[ag [vi bx,vi by_]],2,0,false,false⟩,⟨[zNrD37],4,0,false,false⟩,⟨[ratF (Zb3 ax ay bx by_ u0 v1 v0)],4,0,false,false⟩,⟨[ratF (Zb3 ax ay bx by_ u0 v1 v0)],4,0,false,false⟩],_,[],_⟩ (by kernel_rfl) (bc (Zan (Zab.2 d10)) (bc rfl (bc rfl b0))) q0 c0 (Zas [0,1,2,3] (by kernel_rfl) H)
 ·exact Zad (G:=Zae kp48 [] []) 1000 [false] ⟨(atC (cd Tryz.f48) [1,1,1,1,0,1,0,0]),[(4,AV.ptr 0 0 0 0),(5,AV.ptr 1 0 0 0),(6,AV.ptr 2 0 0 0),(7,AV.vec true 8 [(zNrD30 u0 v0),(zNrD34 u1 v0),(zNrD35 u1 v1),(zNrD31 u0 v1)]),(8,AV.ptr 3 0 0 0),(9,vi 4)],[⟨[ag [vi ax,vi ay]],2,0,false,false⟩,⟨[ag [vi bx,vi by_]],2,0,false,false⟩,⟨[zNrD37],4,0,false,false⟩,⟨[ratF q],4,0,false,false⟩,⟨[ratF (Zb3 ax ay bx by_ u0 v1 v0)],4,0,false,false⟩],_,[],_⟩ (by kernel_rfl) (bc (Zam (fun h=>d10 (Zab.1 h))) b0) q0 c0 (Zas [0,1,2,3] (by kernel_rfl) H)
theorem qXfa4 (u0 v0 u1 v1:Rat) (ax ay bx by_:Int) (q:Rat)  (dq:AV) (H :
  Weak (ratF q) dq) :
 Zem u0 v0 u1 v1 ax ay bx by_ q (Zaf dq):=by
 unfold Zem
 exact Zai (G:=Zae kp48 [] []) 1000 [false] (ratF q) (by kernel_rfl) (bc rfl (bc rfl (bc rfl b0))) q0 c0 H
end Go.Av
