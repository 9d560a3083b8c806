/- PART 5 of the texts of a claim, joined by a program: what each part shows stands at its head. -/
import Derived.Test.YtcekollfgmfdjaaGreatPartc780d28c62

namespace Go.Av
open Go.Proofs
set_option maxRecDepth 100000
def fi79:Fi:=⟨47,[.tmp 8]⟩
def kp79:List (Nat × List Nat):=[(0,[4,5,6,7]),(1,[4,5,6,7,9,10]),(2,[8])]
def fi80:Fi:=⟨51,[.cell 6 87]⟩
def kp80:List (Nat × List Nat):=[(0,[3,4,5,6]),(1,[4,5,6,7,8]),(2,[4,5,6,7,8,9,10]),(3,[4,5,6,7,8,9,10,25]),(4,[6]),(5,[4,5,6,7,8,9,32]),(6,[6,11]),(7,[6]),(8,[6,9,12]),(9,[6])]
def qToS_at (f1 f2 f3 f4 f5 f6 f7 f8 f9 f10 f11 f12:Bool) (x1 y1 x2 y2 x3 y3:Rat) (Q:AV->Heap->Prop):Prop:=Wp M1 (.run fi80 (atC (cd Tryz.f80) []) [(0,.agg [.bool (N.Zab x1.num),.vec f1 1 ((N.Zad x1.num).map (.int .u32)),.bool (N.Zab (x1.den:Int)),.vec f2 1 ((N.Zad (x1.den:Int)).map (.int .u32)),.bool (N.Zab y1.num),.vec f3 1 ((N.Zad y1.num).map (.int .u32)),.bool (N.Zab (y1.den:Int)),.vec f4 1 ((N.Zad (y1.den:Int)).map (.int .u32))]),(1,.agg [.bool (N.Zab x2.num),.vec f5 1 ((N.Zad x2.num).map (.int .u32)),.bool (N.Zab (x2.den:Int)),.vec f6 1 ((N.Zad (x2.den:Int)).map (.int .u32)),.bool (N.Zab y2.num),.vec f7 1 ((N.Zad y2.num).map (.int .u32)),.bool (N.Zab (y2.den:Int)),.vec f8 1 ((N.Zad (y2.den:Int)).map (.int .u32))]),(2,.agg [.bool (N.Zab x3.num),.vec f9 1 ((N.Zad x3.num).map (.int .u32)),.bool (N.Zab (x3.den:Int)),.vec f10 1 ((N.Zad (x3.den:Int)).map (.int .u32)),.bool (N.Zab y3.num),.vec f11 1 ((N.Zad y3.num).map (.int .u32)),.bool (N.Zab (y3.den:Int)),.vec f12 1 ((N.Zad (y3.den:Int)).map (.int .u32))])] []) Q
def qCrs_at (f1 f2 f3 f4 f5 f6 f7 f8 f9 f10 f11 f12 f13 f14 f15 f16:Bool) (x1 y1 x2 y2 x3 y3 x4 y4:Rat) (Q:AV->Heap->Prop):Prop:=Wp M1 (.run fi79 (atC (cd Tryz.f79) []) [(0,.agg [.bool (N.Zab x1.num),.vec f1 1 ((N.Zad x1.num).map (.int .u32)),.bool (N.Zab (x1.den:Int)),.vec f2 1 ((N.Zad (x1.den:Int)).map (.int .u32)),.bool (N.Zab y1.num),.vec f3 1 ((N.Zad y1.num).map (.int .u32)),.bool (N.Zab (y1.den:Int)),.vec f4 1 ((N.Zad (y1.den:Int)).map (.int .u32))]),(1,.agg [.bool (N.Zab x2.num),.vec f5 1 ((N.Zad x2.num).map (.int .u32)),.bool (N.Zab (x2.den:Int)),.vec f6 1 ((N.Zad (x2.den:Int)).map (.int .u32)),.bool (N.Zab y2.num),.vec f7 1 ((N.Zad y2.num).map (.int .u32)),.bool (N.Zab (y2.den:Int)),.vec f8 1 ((N.Zad (y2.den:Int)).map (.int .u32))]),(2,.agg [.bool (N.Zab x3.num),.vec f9 1 ((N.Zad x3.num).map (.int .u32)),.bool (N.Zab (x3.den:Int)),.vec f10 1 ((N.Zad (x3.den:Int)).map (.int .u32)),.bool (N.Zab y3.num),.vec f11 1 ((N.Zad y3.num).map (.int .u32)),.bool (N.Zab (y3.den:Int)),.vec f12 1 ((N.Zad (y3.den:Int)).map (.int .u32))]),(3,.agg [.bool (N.Zab x4.num),.vec f13 1 ((N.Zad x4.num).map (.int .u32)),.bool (N.Zab (x4.den:Int)),.vec f14 1 ((N.Zad (x4.den:Int)).map (.int .u32)),.bool (N.Zab y4.num),.vec f15 1 ((N.Zad y4.num).map (.int .u32)),.bool (N.Zab (y4.den:Int)),.vec f16 1 ((N.Zad (y4.den:Int)).map (.int .u32))])] []) Q
theorem call79 {args:List AV} {d:AV} (h:wc M1 fi79 Tryz.f79 args d):Ev M1 (.pure 79 args) d []:=pcl _ _ (by kernel_rfl) h
theorem call80 {args:List AV} {d:AV} (h:wc M1 fi80 Tryz.f80 args d):Ev M1 (.pure 80 args) d []:=pcl _ _ (by kernel_rfl) h
noncomputable abbrev Zgf (x2:Rat) (x1:Rat) (y2:Rat) (y1:Rat):=ag [vb (N.Zab (x2-x1).num),vf (us (N.Zad (x2-x1).num)),vb (N.Zab (↑(x2-x1).den:Int)),vf (us (N.Zad (↑(x2-x1).den:Int))),vb (N.Zab (y2-y1).num),vf (us (N.Zad (y2-y1).num)),vb (N.Zab (↑(y2-y1).den:Int)),vf (us (N.Zad (↑(y2-y1).den:Int)))]
noncomputable abbrev zNqM2 (x3:Rat) (x1:Rat) (y3:Rat) (y1:Rat):=ag [vb (N.Zab (x3-x1).num),vf (us (N.Zad (x3-x1).num)),vb (N.Zab (↑(x3-x1).den:Int)),vf (us (N.Zad (↑(x3-x1).den:Int))),vb (N.Zab (y3-y1).num),vf (us (N.Zad (y3-y1).num)),vb (N.Zab (↑(y3-y1).den:Int)),vf (us (N.Zad (↑(y3-y1).den:Int)))]
noncomputable abbrev zNqM3 (x1:Rat) (f1:Bool) (f2:Bool) (y1:Rat) (f3:Bool) (f4:Bool):=ag [vb (N.Zab x1.num),AV.vec f1 1 (us (N.Zad x1.num)),vb (N.Zab (↑x1.den:Int)),AV.vec f2 1 (us (N.Zad (↑x1.den:Int))),vb (N.Zab y1.num),AV.vec f3 1 (us (N.Zad y1.num)),vb (N.Zab (↑y1.den:Int)),AV.vec f4 1 (us (N.Zad (↑y1.den:Int)))]
noncomputable abbrev zNqM4 (x2:Rat) (f5:Bool) (f6:Bool) (y2:Rat) (f7:Bool) (f8:Bool):=ag [vb (N.Zab x2.num),AV.vec f5 1 (us (N.Zad x2.num)),vb (N.Zab (↑x2.den:Int)),AV.vec f6 1 (us (N.Zad (↑x2.den:Int))),vb (N.Zab y2.num),AV.vec f7 1 (us (N.Zad y2.num)),vb (N.Zab (↑y2.den:Int)),AV.vec f8 1 (us (N.Zad (↑y2.den:Int)))]
noncomputable abbrev zNqM5 (x3:Rat) (f9:Bool) (f10:Bool) (y3:Rat) (f11:Bool) (f12:Bool):=ag [vb (N.Zab x3.num),AV.vec f9 1 (us (N.Zad x3.num)),vb (N.Zab (↑x3.den:Int)),AV.vec f10 1 (us (N.Zad (↑x3.den:Int))),vb (N.Zab y3.num),AV.vec f11 1 (us (N.Zad y3.num)),vb (N.Zab (↑y3.den:Int)),AV.vec f12 1 (us (N.Zad (↑y3.den:Int)))]
noncomputable abbrev zNqM6:=ag [vb false,AV.vnil,vb false,AV.vnil]
noncomputable abbrev zNqM7 (x2:Rat) (x1:Rat) (x3:Rat) (y2:Rat) (y1:Rat) (y3:Rat):=N.sgnI (((x2-x1)*(x3-x1)+(y2-y1)*(y3-y1)).num*(↑((x2-x1)*(x2-x1)+(y2-y1)*(y2-y1)).den:Int)-((x2-x1)*(x2-x1)+(y2-y1)*(y2-y1)).num*(↑((x2-x1)*(x3-x1)+(y2-y1)*(y3-y1)).den:Int))>=0
theorem qToS (f1 f2 f3 f4 f5 f6 f7 f8 f9 f10 f11 f12:Bool) (x1 y1 x2 y2 x3 y3:Rat)  (dq:AV) (H :
  (N.okW x1 y1 x2 y2) /\
  (N.okW x1 y1 x3 y3) /\
  (N.okD (x2-x1) (y2-y1) (x2-x1) (y2-y1)) /\
  (N.okD (x2-x1) (y2-y1) (x3-x1) (y3-y1)) /\
  ((N.sgnI ((x2-x1)*(x3-x1)+(y2-y1)*(y3-y1)).num<=0)->(N.okD (x3-x1) (y3-y1) (x3-x1) (y3-y1)) /\
   Weak (ratF ((x3-x1)*(x3-x1)+(y3-y1)*(y3-y1))) dq) /\
  (¬(N.sgnI ((x2-x1)*(x3-x1)+(y2-y1)*(y3-y1)).num<=0)->(N.okR ((x2-x1)*(x3-x1)+(y2-y1)*(y3-y1))/\N.okR ((x2-x1)*(x2-x1)+(y2-y1)*(y2-y1))) /\
   ((N.sgnI (((x2-x1)*(x3-x1)+(y2-y1)*(y3-y1)).num*(↑((x2-x1)*(x2-x1)+(y2-y1)*(y2-y1)).den:Int)-((x2-x1)*(x2-x1)+(y2-y1)*(y2-y1)).num*(↑((x2-x1)*(x3-x1)+(y2-y1)*(y3-y1)).den:Int))>=0)->(N.okW x2 y2 x3 y3) /\
    (N.okD (x3-x2) (y3-y2) (x3-x2) (y3-y2)) /\
    Weak (ratF ((x3-x2)*(x3-x2)+(y3-y2)*(y3-y2))) dq) /\
   (¬(N.sgnI (((x2-x1)*(x3-x1)+(y2-y1)*(y3-y1)).num*(↑((x2-x1)*(x2-x1)+(y2-y1)*(y2-y1)).den:Int)-((x2-x1)*(x2-x1)+(y2-y1)*(y2-y1)).num*(↑((x2-x1)*(x3-x1)+(y2-y1)*(y3-y1)).den:Int))>=0)->(N.okR ((x2-x1)*(y3-y1)-(y2-y1)*(x3-x1))/\N.okR ((x2-x1)*(y3-y1)-(y2-y1)*(x3-x1))) /\
    (N.okR (((x2-x1)*(y3-y1)-(y2-y1)*(x3-x1))*((x2-x1)*(y3-y1)-(y2-y1)*(x3-x1)))/\N.okR ((x2-x1)*(x2-x1)+(y2-y1)*(y2-y1))/\((x2-x1)*(x2-x1)+(y2-y1)*(y2-y1)).num ≠ 0) /\
    Weak (ratF (((x2-x1)*(y3-y1)-(y2-y1)*(x3-x1))*((x2-x1)*(y3-y1)-(y2-y1)*(x3-x1)) / ((x2-x1)*(x2-x1)+(y2-y1)*(y2-y1)))) dq))) :
 qToS_at f1 f2 f3 f4 f5 f6 f7 f8 f9 f10 f11 f12 x1 y1 x2 y2 x3 y3 (Zag dq):=by
 unfold qToS_at
 obtain ⟨k1,k2,H⟩:=H
 refine Zaf (G:=Zae kp80 [(1,2,.call ((Zgf x2 x1 y2 y1)) none),(1,5,.call ((zNqM2 x3 x1 y3 y1)) none)] []) 3 [] ⟨(atC (cd Tryz.f80) [1,0]),[(3,AV.ptr 0 0 0 0),(4,AV.ptr 1 0 0 0),(5,AV.ptr 2 0 0 0),(6,AV.ptr 3 0 0 0)],[⟨[(zNqM3 x1 f1 f2 y1 f3 f4)],8,0,false,false⟩,⟨[(zNqM4 x2 f5 f6 y2 f7 f8)],8,0,false,false⟩,⟨[(zNqM5 x3 f9 f10 y3 f11 f12)],8,0,false,false⟩,⟨[zNqM6],4,0,false,false⟩],_,[],_⟩ (by kernel_rfl) b0 q0 c0 (Zdk (G:=Zae kp80 [(1,2,.call ((Zgf x2 x1 y2 y1)) none),(1,5,.call ((zNqM2 x3 x1 y3 y1)) none)] []) [0,1,2,3,5,4] 6 (e1:=[(4,AV.ptr 1 0 0 0),(5,AV.ptr 2 0 0 0),(6,AV.ptr 3 0 0 0),(7,AV.ptr 4 0 0 0),(8,AV.ptr 5 0 0 0)]) (L1:=[⟨[(zNqM3 x1 f1 f2 y1 f3 f4)],8,0,false,false⟩,⟨[(zNqM4 x2 f5 f6 y2 f7 f8)],8,0,false,false⟩,⟨[(zNqM5 x3 f9 f10 y3 f11 f12)],8,0,false,false⟩,⟨[zNqM6],4,0,false,false⟩,⟨[(Zgf x2 x1 y2 y1)],8,0,false,false⟩,⟨[(zNqM2 x3 x1 y3 y1)],8,0,false,false⟩]) (a:=[true,true,true,true,true,true]) (q:=[]) (cs:=[⟨true,false,98,[(zNqM3 x1 f1 f2 y1 f3 f4),(zNqM4 x2 f5 f6 y2 f7 f8)],[],(Zgf x2 x1 y2 y1),[]⟩,⟨true,false,98,[(zNqM3 x1 f1 f2 y1 f3 f4),(zNqM5 x3 f9 f10 y3 f11 f12)],[],(zNqM2 x3 x1 y3 y1),[]⟩]) (by kernel_rfl) (by kernel_rfl) (Zaa rfl (Zaa rfl (Zaa rfl (Zaa rfl (Zaa rfl (Zaa rfl Zal)))))) Zao (Zah (fun _=>(@ev98 f1 f2 f3 f4 f5 f6 f7 f8 x1 y1 x2 y2 k1)) (Zah (fun _=>(@ev98 f1 f2 f3 f4 f9 f10 f11 f12 x1 y1 x3 y3 k2)) Zap)) ?_)
 obtain ⟨k3,k4,H⟩:=H
 refine Zaf (G:=Zae kp80 [(2,2,.call (ratF ((x2-x1)*(x2-x1)+(y2-y1)*(y2-y1))) none),(2,5,.call (ratF ((x2-x1)*(x3-x1)+(y2-y1)*(y3-y1))) none)] []) 1 [] ⟨(atC (cd Tryz.f80) [1,1,0]),[(4,AV.ptr 1 0 0 0),(5,AV.ptr 2 0 0 0),(6,AV.ptr 3 0 0 0),(7,AV.ptr 4 0 0 0),(8,AV.ptr 5 0 0 0)],[⟨[(zNqM3 x1 f1 f2 y1 f3 f4)],8,0,false,false⟩,⟨[(zNqM4 x2 f5 f6 y2 f7 f8)],8,0,false,false⟩,⟨[(zNqM5 x3 f9 f10 y3 f11 f12)],8,0,false,false⟩,⟨[zNqM6],4,0,false,false⟩,⟨[(Zgf x2 x1 y2 y1)],8,0,false,false⟩,⟨[(zNqM2 x3 x1 y3 y1)],8,0,false,false⟩],_,[],_⟩ (by kernel_rfl) b0 q0 c0 (Zdk (G:=Zae kp80 [(2,2,.call (ratF ((x2-x1)*(x2-x1)+(y2-y1)*(y2-y1))) none),(2,5,.call (ratF ((x2-x1)*(x3-x1)+(y2-y1)*(y3-y1))) none)] []) [0,1,2,3,4,5,7,6] 6 (e1:=[(4,AV.ptr 1 0 0 0),(5,AV.ptr 2 0 0 0),(6,AV.ptr 3 0 0 0),(7,AV.ptr 4 0 0 0),(8,AV.ptr 5 0 0 0),(9,AV.ptr 6 0 0 0),(10,AV.ptr 7 0 0 0)]) (L1:=[⟨[(zNqM3 x1 f1 f2 y1 f3 f4)],8,0,false,false⟩,⟨[(zNqM4 x2 f5 f6 y2 f7 f8)],8,0,false,false⟩,⟨[(zNqM5 x3 f9 f10 y3 f11 f12)],8,0,false,false⟩,⟨[zNqM6],4,0,false,false⟩,⟨[(Zgf x2 x1 y2 y1)],8,0,false,false⟩,⟨[(zNqM2 x3 x1 y3 y1)],8,0,false,false⟩,⟨[ratF ((x2-x1)*(x2-x1)+(y2-y1)*(y2-y1))],4,0,false,false⟩,⟨[ratF ((x2-x1)*(x3-x1)+(y2-y1)*(y3-y1))],4,0,false,false⟩]) (a:=[true,true,true,true,true,true]) (q:=[]) (cs:=[⟨true,false,100,[(Zgf x2 x1 y2 y1),(Zgf x2 x1 y2 y1)],[],ratF ((x2-x1)*(x2-x1)+(y2-y1)*(y2-y1)),[]⟩,⟨true,false,100,[(Zgf x2 x1 y2 y1),(zNqM2 x3 x1 y3 y1)],[],ratF ((x2-x1)*(x3-x1)+(y2-y1)*(y3-y1)),[]⟩]) (by kernel_rfl) (by kernel_rfl) (Zaa rfl (Zaa rfl (Zaa rfl (Zaa rfl (Zaa rfl (Zaa rfl Zal)))))) Zao (Zah (fun _=>(@ev100 false false false false false false false false (x2-x1) (y2-y1) (x2-x1) (y2-y1) k3)) (Zah (fun _=>(@ev100 false false false false false false false false (x2-x1) (y2-y1) (x3-x1) (y3-y1) k4)) Zap)) ?_)
 refine Zaf (G:=Zae kp80 [(3,1,.call (vi (N.sgnI ((x2-x1)*(x3-x1)+(y2-y1)*(y3-y1)).num)) none)] []) 4 [] ⟨(atC (cd Tryz.f80) [1,1,1,0,0,1]),[(4,AV.ptr 1 0 0 0),(5,AV.ptr 2 0 0 0),(6,AV.ptr 3 0 0 0),(7,AV.ptr 4 0 0 0),(8,AV.ptr 5 0 0 0),(9,AV.ptr 6 0 0 0),(10,AV.ptr 7 0 0 0),(25,vb (decide (N.sgnI ((x2-x1)*(x3-x1)+(y2-y1)*(y3-y1)).num<=0)))],[⟨[(zNqM3 x1 f1 f2 y1 f3 f4)],8,0,false,false⟩,⟨[(zNqM4 x2 f5 f6 y2 f7 f8)],8,0,false,false⟩,⟨[(zNqM5 x3 f9 f10 y3 f11 f12)],8,0,false,false⟩,⟨[zNqM6],4,0,false,false⟩,⟨[(Zgf x2 x1 y2 y1)],8,0,false,false⟩,⟨[(zNqM2 x3 x1 y3 y1)],8,0,false,false⟩,⟨[ratF ((x2-x1)*(x2-x1)+(y2-y1)*(y2-y1))],4,0,false,false⟩,⟨[ratF ((x2-x1)*(x3-x1)+(y2-y1)*(y3-y1))],4,0,false,false⟩],_,[],_⟩ (by kernel_rfl) (bc rfl b0) q0 (ce (@ev77 false false (((x2-x1)*(x3-x1)+(y2-y1)*(y3-y1)).num) ((↑((x2-x1)*(x3-x1)+(y2-y1)*(y3-y1)).den:Int))) c0) ?_
 rcases xq H with ⟨d6,H⟩|⟨d6,H⟩
 ·obtain ⟨k7,H⟩:=H
  exact Zaj (G:=Zae kp80 [(4,2,.call (ratF ((x3-x1)*(x3-x1)+(y3-y1)*(y3-y1))) none)] []) 1000 [true] (ratF ((x3-x1)*(x3-x1)+(y3-y1)*(y3-y1))) (by kernel_rfl) (bc (Zam (Zac.2 d6)) (bc rfl (bc rfl (bc rfl b0)))) q0 (ce (@ev100 false false false false false false false false (x3-x1) (y3-y1) (x3-x1) (y3-y1) k7) c0) H
 ·obtain ⟨k8,H⟩:=H
  refine Zaf (G:=Zae kp80 [(5,2,.call (vi (N.sgnI (((x2-x1)*(x3-x1)+(y2-y1)*(y3-y1)).num*(↑((x2-x1)*(x2-x1)+(y2-y1)*(y2-y1)).den:Int)-((x2-x1)*(x2-x1)+(y2-y1)*(y2-y1)).num*(↑((x2-x1)*(x3-x1)+(y2-y1)*(y3-y1)).den:Int)))) none)] []) 3 [false] ⟨(atC (cd Tryz.f80) [1,1,1,0,0,1,1,1]),[(4,AV.ptr 1 0 0 0),(5,AV.ptr 2 0 0 0),(6,AV.ptr 3 0 0 0),(7,AV.ptr 4 0 0 0),(8,AV.ptr 5 0 0 0),(9,AV.ptr 6 0 0 0),(32,vb (decide (zNqM7 x2 x1 x3 y2 y1 y3)))],[⟨[(zNqM3 x1 f1 f2 y1 f3 f4)],8,0,false,false⟩,⟨[(zNqM4 x2 f5 f6 y2 f7 f8)],8,0,false,false⟩,⟨[(zNqM5 x3 f9 f10 y3 f11 f12)],8,0,false,false⟩,⟨[zNqM6],4,0,false,false⟩,⟨[(Zgf x2 x1 y2 y1)],8,0,false,false⟩,⟨[(zNqM2 x3 x1 y3 y1)],8,0,false,false⟩,⟨[ratF ((x2-x1)*(x2-x1)+(y2-y1)*(y2-y1))],4,0,false,false⟩,⟨[ratF ((x2-x1)*(x3-x1)+(y2-y1)*(y3-y1))],4,0,false,false⟩],_,[],_⟩ (by kernel_rfl) (bc (Zak (fun h=>d6 (Zac.1 h))) (bc rfl (bc rfl b0))) q0 (ce (@ev62 false false false false ((x2-x1)*(x3-x1)+(y2-y1)*(y3-y1)) ((x2-x1)*(x2-x1)+(y2-y1)*(y2-y1)) k8) c0) ?_
  rcases xq H with ⟨d10,H⟩|⟨d10,H⟩
  ·obtain ⟨k11,k12,H⟩:=H
   exact Zaj (G:=Zae kp80 [(6,2,.call (ag [vb (N.Zab (x3-x2).num),vf (us (N.Zad (x3-x2).num)),vb (N.Zab (↑(x3-x2).den:Int)),vf (us (N.Zad (↑(x3-x2).den:Int))),vb (N.Zab (y3-y2).num),vf (us (N.Zad (y3-y2).num)),vb (N.Zab (↑(y3-y2).den:Int)),vf (us (N.Zad (↑(y3-y2).den:Int)))]) none),(7,2,.call (ratF ((x3-x2)*(x3-x2)+(y3-y2)*(y3-y2))) none)] []) 1000 [true] (ratF ((x3-x2)*(x3-x2)+(y3-y2)*(y3-y2))) (by kernel_rfl) (bc (Zam (Zac.2 d10)) (bc rfl (bc rfl (bc rfl (bc rfl (bc rfl (bc rfl b0))))))) q0 (ce (@ev98 f5 f6 f7 f8 f9 f10 f11 f12 x2 y2 x3 y3 k11) (ce (@ev100 false false false false false false false false (x3-x2) (y3-y2) (x3-x2) (y3-y2) k12) c0)) H
  ·obtain ⟨k13,k14,H⟩:=H
   exact Zaj (G:=Zae kp80 [(8,2,.call (ratF ((x2-x1)*(y3-y1)-(y2-y1)*(x3-x1))) none),(9,2,.call (ratF (((x2-x1)*(y3-y1)-(y2-y1)*(x3-x1))*((x2-x1)*(y3-y1)-(y2-y1)*(x3-x1)))) none),(9,4,.call (ratF (((x2-x1)*(y3-y1)-(y2-y1)*(x3-x1))*((x2-x1)*(y3-y1)-(y2-y1)*(x3-x1)) / ((x2-x1)*(x2-x1)+(y2-y1)*(y2-y1)))) none)] []) 1000 [false] (ratF (((x2-x1)*(y3-y1)-(y2-y1)*(x3-x1))*((x2-x1)*(y3-y1)-(y2-y1)*(x3-x1)) / ((x2-x1)*(x2-x1)+(y2-y1)*(y2-y1)))) (by kernel_rfl) (bc (Zak (fun h=>d10 (Zac.1 h))) (bc rfl (bc rfl (bc rfl (bc rfl (bc rfl (bc rfl (bc rfl b0)))))))) q0 (ce (@ev99 false false false false false false false false (x2-x1) (y2-y1) (x3-x1) (y3-y1) k4) (ce (@ev102 false false false false ((x2-x1)*(y3-y1)-(y2-y1)*(x3-x1)) ((x2-x1)*(y3-y1)-(y2-y1)*(x3-x1)) k13) (ce (@ev101 false false false false (((x2-x1)*(y3-y1)-(y2-y1)*(x3-x1))*((x2-x1)*(y3-y1)-(y2-y1)*(x3-x1))) ((x2-x1)*(x2-x1)+(y2-y1)*(y2-y1)) k14) c0))) H
noncomputable abbrev zNqM8 (x4:Rat) (x3:Rat) (y4:Rat) (y3:Rat):=ag [vb (N.Zab (x4-x3).num),vf (us (N.Zad (x4-x3).num)),vb (N.Zab (↑(x4-x3).den:Int)),vf (us (N.Zad (↑(x4-x3).den:Int))),vb (N.Zab (y4-y3).num),vf (us (N.Zad (y4-y3).num)),vb (N.Zab (↑(y4-y3).den:Int)),vf (us (N.Zad (↑(y4-y3).den:Int)))]
noncomputable abbrev zNqM9 (x3:Rat) (f9:Bool) (f10:Bool) (y3:Rat) (f11:Bool) (f12:Bool):=ag [vb (N.Zab x3.num),AV.vec f9 1 (us (N.Zad x3.num)),vb (N.Zab (↑x3.den:Int)),AV.vec f10 1 (us (N.Zad (↑x3.den:Int))),vb (N.Zab y3.num),AV.vec f11 1 (us (N.Zad y3.num)),vb (N.Zab (↑y3.den:Int)),AV.vec f12 1 (us (N.Zad (↑y3.den:Int)))]
noncomputable abbrev Zhu (x2:Rat) (x1:Rat) (y2:Rat) (y1:Rat):=ag [vb (N.Zab (x2-x1).num),vf (us (N.Zad (x2-x1).num)),vb (N.Zab (↑(x2-x1).den:Int)),vf (us (N.Zad (↑(x2-x1).den:Int))),vb (N.Zab (y2-y1).num),vf (us (N.Zad (y2-y1).num)),vb (N.Zab (↑(y2-y1).den:Int)),vf (us (N.Zad (↑(y2-y1).den:Int)))]
noncomputable abbrev Zge (x1:Rat) (f1:Bool) (f2:Bool) (y1:Rat) (f3:Bool) (f4:Bool):=ag [vb (N.Zab x1.num),AV.vec f1 1 (us (N.Zad x1.num)),vb (N.Zab (↑x1.den:Int)),AV.vec f2 1 (us (N.Zad (↑x1.den:Int))),vb (N.Zab y1.num),AV.vec f3 1 (us (N.Zad y1.num)),vb (N.Zab (↑y1.den:Int)),AV.vec f4 1 (us (N.Zad (↑y1.den:Int)))]
noncomputable abbrev zNqM12 (x1:Rat) (x3:Rat) (y1:Rat) (y3:Rat):=ag [vb (N.Zab (x1-x3).num),vf (us (N.Zad (x1-x3).num)),vb (N.Zab (↑(x1-x3).den:Int)),vf (us (N.Zad (↑(x1-x3).den:Int))),vb (N.Zab (y1-y3).num),vf (us (N.Zad (y1-y3).num)),vb (N.Zab (↑(y1-y3).den:Int)),vf (us (N.Zad (↑(y1-y3).den:Int)))]
noncomputable abbrev zNqM13 (x2:Rat) (x3:Rat) (y2:Rat) (y3:Rat):=ag [vb (N.Zab (x2-x3).num),vf (us (N.Zad (x2-x3).num)),vb (N.Zab (↑(x2-x3).den:Int)),vf (us (N.Zad (↑(x2-x3).den:Int))),vb (N.Zab (y2-y3).num),vf (us (N.Zad (y2-y3).num)),vb (N.Zab (↑(y2-y3).den:Int)),vf (us (N.Zad (↑(y2-y3).den:Int)))]
noncomputable abbrev zNqM14 (x2:Rat) (f5:Bool) (f6:Bool) (y2:Rat) (f7:Bool) (f8:Bool):=ag [vb (N.Zab x2.num),AV.vec f5 1 (us (N.Zad x2.num)),vb (N.Zab (↑x2.den:Int)),AV.vec f6 1 (us (N.Zad (↑x2.den:Int))),vb (N.Zab y2.num),AV.vec f7 1 (us (N.Zad y2.num)),vb (N.Zab (↑y2.den:Int)),AV.vec f8 1 (us (N.Zad (↑y2.den:Int)))]
noncomputable abbrev zNqM15 (x4:Rat) (f13:Bool) (f14:Bool) (y4:Rat) (f15:Bool) (f16:Bool):=ag [vb (N.Zab x4.num),AV.vec f13 1 (us (N.Zad x4.num)),vb (N.Zab (↑x4.den:Int)),AV.vec f14 1 (us (N.Zad (↑x4.den:Int))),vb (N.Zab y4.num),AV.vec f15 1 (us (N.Zad y4.num)),vb (N.Zab (↑y4.den:Int)),AV.vec f16 1 (us (N.Zad (↑y4.den:Int)))]
noncomputable abbrev zNqM16 (x3:Rat) (x1:Rat) (y3:Rat) (y1:Rat):=ag [vb (N.Zab (x3-x1).num),vf (us (N.Zad (x3-x1).num)),vb (N.Zab (↑(x3-x1).den:Int)),vf (us (N.Zad (↑(x3-x1).den:Int))),vb (N.Zab (y3-y1).num),vf (us (N.Zad (y3-y1).num)),vb (N.Zab (↑(y3-y1).den:Int)),vf (us (N.Zad (↑(y3-y1).den:Int)))]
noncomputable abbrev zNqM17 (x4:Rat) (x1:Rat) (y4:Rat) (y1:Rat):=ag [vb (N.Zab (x4-x1).num),vf (us (N.Zad (x4-x1).num)),vb (N.Zab (↑(x4-x1).den:Int)),vf (us (N.Zad (↑(x4-x1).den:Int))),vb (N.Zab (y4-y1).num),vf (us (N.Zad (y4-y1).num)),vb (N.Zab (↑(y4-y1).den:Int)),vf (us (N.Zad (↑(y4-y1).den:Int)))]
noncomputable abbrev Zht (x2:Rat) (x1:Rat) (y3:Rat) (y1:Rat) (y2:Rat) (x3:Rat) (y4:Rat) (x4:Rat):=N.sgnI ((x2-x1)*(y3-y1)-(y2-y1)*(x3-x1)).num*N.sgnI ((x2-x1)*(y4-y1)-(y2-y1)*(x4-x1)).num<0
theorem qCrs (f1 f2 f3 f4 f5 f6 f7 f8 f9 f10 f11 f12 f13 f14 f15 f16:Bool) (x1 y1 x2 y2 x3 y3 x4 y4:Rat)  (dq:AV) (H :
  (N.okW x1 y1 x2 y2) /\
  (N.okW x3 y3 x4 y4) /\
  (N.okW x1 y1 x3 y3) /\
  (N.okD (x2-x1) (y2-y1) (x3-x1) (y3-y1)) /\
  (N.okW x1 y1 x4 y4) /\
  (N.okD (x2-x1) (y2-y1) (x4-x1) (y4-y1)) /\
  (-9223372036854775808<=N.sgnI ((x2-x1)*(y3-y1)-(y2-y1)*(x3-x1)).num*N.sgnI ((x2-x1)*(y4-y1)-(y2-y1)*(x4-x1)).num/\N.sgnI ((x2-x1)*(y3-y1)-(y2-y1)*(x3-x1)).num*N.sgnI ((x2-x1)*(y4-y1)-(y2-y1)*(x4-x1)).num<=9223372036854775807) /\
  ((N.sgnI ((x2-x1)*(y3-y1)-(y2-y1)*(x3-x1)).num*N.sgnI ((x2-x1)*(y4-y1)-(y2-y1)*(x4-x1)).num<0)->(N.okW x3 y3 x1 y1)) /\
  ((N.sgnI ((x2-x1)*(y3-y1)-(y2-y1)*(x3-x1)).num*N.sgnI ((x2-x1)*(y4-y1)-(y2-y1)*(x4-x1)).num<0)->(N.okD (x4-x3) (y4-y3) (x1-x3) (y1-y3))) /\
  ((N.sgnI ((x2-x1)*(y3-y1)-(y2-y1)*(x3-x1)).num*N.sgnI ((x2-x1)*(y4-y1)-(y2-y1)*(x4-x1)).num<0)->(N.okW x3 y3 x2 y2)) /\
  ((N.sgnI ((x2-x1)*(y3-y1)-(y2-y1)*(x3-x1)).num*N.sgnI ((x2-x1)*(y4-y1)-(y2-y1)*(x4-x1)).num<0)->(N.okD (x4-x3) (y4-y3) (x2-x3) (y2-y3))) /\
  vb (bif decide (N.sgnI ((x2-x1)*(y3-y1)-(y2-y1)*(x3-x1)).num*N.sgnI ((x2-x1)*(y4-y1)-(y2-y1)*(x4-x1)).num<0) then decide (IntKind.i64.wrap (N.sgnI ((x4-x3)*(y1-y3)-(y4-y3)*(x1-x3)).num*N.sgnI ((x4-x3)*(y2-y3)-(y4-y3)*(x2-x3)).num)<0) else false)=dq) :
 qCrs_at f1 f2 f3 f4 f5 f6 f7 f8 f9 f10 f11 f12 f13 f14 f15 f16 x1 y1 x2 y2 x3 y3 x4 y4 (Zag dq):=by
 unfold qCrs_at
 obtain ⟨k1,k2,H⟩:=H
 refine Zaf (G:=Zae kp79 [(1,2,.call ((Zhu x2 x1 y2 y1)) none),(1,5,.call ((zNqM8 x4 x3 y4 y3)) none)] []) 3 [] ⟨(atC (cd Tryz.f79) [1,0]),[(4,AV.ptr 0 0 0 0),(5,AV.ptr 1 0 0 0),(6,AV.ptr 2 0 0 0),(7,AV.ptr 3 0 0 0)],[⟨[(Zge x1 f1 f2 y1 f3 f4)],8,0,false,false⟩,⟨[(zNqM14 x2 f5 f6 y2 f7 f8)],8,0,false,false⟩,⟨[(zNqM9 x3 f9 f10 y3 f11 f12)],8,0,false,false⟩,⟨[(zNqM15 x4 f13 f14 y4 f15 f16)],8,0,false,false⟩],_,[],_⟩ (by kernel_rfl) b0 q0 c0 (Zdk (G:=Zae kp79 [(1,2,.call ((Zhu x2 x1 y2 y1)) none),(1,5,.call ((zNqM8 x4 x3 y4 y3)) none)] []) [0,1,2,3,5,4] 6 (e1:=[(4,AV.ptr 0 0 0 0),(5,AV.ptr 1 0 0 0),(6,AV.ptr 2 0 0 0),(7,AV.ptr 3 0 0 0),(9,AV.ptr 4 0 0 0),(10,AV.ptr 5 0 0 0)]) (L1:=[⟨[(Zge x1 f1 f2 y1 f3 f4)],8,0,false,false⟩,⟨[(zNqM14 x2 f5 f6 y2 f7 f8)],8,0,false,false⟩,⟨[(zNqM9 x3 f9 f10 y3 f11 f12)],8,0,false,false⟩,⟨[(zNqM15 x4 f13 f14 y4 f15 f16)],8,0,false,false⟩,⟨[(Zhu x2 x1 y2 y1)],8,0,false,false⟩,⟨[(zNqM8 x4 x3 y4 y3)],8,0,false,false⟩]) (a:=[true,true,true,true,true,true]) (q:=[]) (cs:=[⟨true,false,98,[(Zge x1 f1 f2 y1 f3 f4),(zNqM14 x2 f5 f6 y2 f7 f8)],[],(Zhu x2 x1 y2 y1),[]⟩,⟨true,false,98,[(zNqM9 x3 f9 f10 y3 f11 f12),(zNqM15 x4 f13 f14 y4 f15 f16)],[],(zNqM8 x4 x3 y4 y3),[]⟩]) (by kernel_rfl) (by kernel_rfl) (Zaa rfl (Zaa rfl (Zaa rfl (Zaa rfl (Zaa rfl (Zaa rfl Zal)))))) Zao (Zah (fun _=>(@ev98 f1 f2 f3 f4 f5 f6 f7 f8 x1 y1 x2 y2 k1)) (Zah (fun _=>(@ev98 f9 f10 f11 f12 f13 f14 f15 f16 x3 y3 x4 y4 k2)) Zap)) ?_)
 obtain ⟨k3,k4,k5,k6,k7,H⟩:=H
 have w8:wi (N.sgnI ((x2-x1)*(y3-y1)-(y2-y1)*(x3-x1)).num*N.sgnI ((x2-x1)*(y4-y1)-(y2-y1)*(x4-x1)).num)=N.sgnI ((x2-x1)*(y3-y1)-(y2-y1)*(x3-x1)).num*N.sgnI ((x2-x1)*(y4-y1)-(y2-y1)*(x4-x1)).num:=wI64 k7
 have i9:(decide (wi (N.sgnI ((x2-x1)*(y3-y1)-(y2-y1)*(x3-x1)).num*N.sgnI ((x2-x1)*(y4-y1)-(y2-y1)*(x4-x1)).num)<0)==true&&true&&true)=true ↔ (Zht x2 x1 y3 y1 y2 x3 y4 x4):=(by (try rw [w8]);all_goals exact (i_at (i_at (i_bt Zac))))
 obtain ⟨k10,H⟩:=H
 have i11:(decide (wi (N.sgnI ((x2-x1)*(y3-y1)-(y2-y1)*(x3-x1)).num*N.sgnI ((x2-x1)*(y4-y1)-(y2-y1)*(x4-x1)).num)<0)==true&&true&&true)=true ↔ (Zht x2 x1 y3 y1 y2 x3 y4 x4):=(by (try rw [w8]);all_goals exact (i_at (i_at (i_bt Zac))))
 obtain ⟨k12,H⟩:=H
 have i13:(decide (wi (N.sgnI ((x2-x1)*(y3-y1)-(y2-y1)*(x3-x1)).num*N.sgnI ((x2-x1)*(y4-y1)-(y2-y1)*(x4-x1)).num)<0)==true&&true&&true)=true ↔ (Zht x2 x1 y3 y1 y2 x3 y4 x4):=(by (try rw [w8]);all_goals exact (i_at (i_at (i_bt Zac))))
 have i14:(decide (wi (N.sgnI ((x2-x1)*(y3-y1)-(y2-y1)*(x3-x1)).num*N.sgnI ((x2-x1)*(y4-y1)-(y2-y1)*(x4-x1)).num)<0)==true&&true&&true)=true ↔ (Zht x2 x1 y3 y1 y2 x3 y4 x4):=(by (try rw [w8]);all_goals exact (i_at (i_at (i_bt Zac))))
 obtain ⟨k15,H⟩:=H
 have i16:(decide (wi (N.sgnI ((x2-x1)*(y3-y1)-(y2-y1)*(x3-x1)).num*N.sgnI ((x2-x1)*(y4-y1)-(y2-y1)*(x4-x1)).num)<0)==true&&true&&true)=true ↔ (Zht x2 x1 y3 y1 y2 x3 y4 x4):=(by (try rw [w8]);all_goals exact (i_at (i_at (i_bt Zac))))
 obtain ⟨k17,H⟩:=H
 have i18:(decide (wi (N.sgnI ((x2-x1)*(y3-y1)-(y2-y1)*(x3-x1)).num*N.sgnI ((x2-x1)*(y4-y1)-(y2-y1)*(x4-x1)).num)<0)==true&&true&&true)=true ↔ (Zht x2 x1 y3 y1 y2 x3 y4 x4):=(by (try rw [w8]);all_goals exact (i_at (i_at (i_bt Zac))))
 exact Zas (G:=Zae kp79 [(2,3,.call ((zNqM16 x3 x1 y3 y1)) none),(2,4,.call (ratF ((x2-x1)*(y3-y1)-(y2-y1)*(x3-x1))) none),(2,5,.call (vi (N.sgnI ((x2-x1)*(y3-y1)-(y2-y1)*(x3-x1)).num)) none),(2,9,.call ((zNqM17 x4 x1 y4 y1)) none),(2,10,.call (ratF ((x2-x1)*(y4-y1)-(y2-y1)*(x4-x1))) none),(2,11,.call (vi (N.sgnI ((x2-x1)*(y4-y1)-(y2-y1)*(x4-x1)).num)) none),(2,18,.call ((zNqM12 x1 x3 y1 y3)) none),(2,19,.call (ratF ((x4-x3)*(y1-y3)-(y4-y3)*(x1-x3))) none),(2,20,.call (vi (N.sgnI ((x4-x3)*(y1-y3)-(y4-y3)*(x1-x3)).num)) none),(2,24,.call ((zNqM13 x2 x3 y2 y3)) none),(2,25,.call (ratF ((x4-x3)*(y2-y3)-(y4-y3)*(x2-x3))) none),(2,26,.call (vi (N.sgnI ((x4-x3)*(y2-y3)-(y4-y3)*(x2-x3)).num)) none)] []) 1000 [] (asm:=[true,true,true,true,true,true,!(decide (wi (N.sgnI ((x2-x1)*(y3-y1)-(y2-y1)*(x3-x1)).num*N.sgnI ((x2-x1)*(y4-y1)-(y2-y1)*(x4-x1)).num)<0)==true&&true)||true,!(decide (wi (N.sgnI ((x2-x1)*(y3-y1)-(y2-y1)*(x3-x1)).num*N.sgnI ((x2-x1)*(y4-y1)-(y2-y1)*(x4-x1)).num)<0)==true&&true)||true,!(decide (wi (N.sgnI ((x2-x1)*(y3-y1)-(y2-y1)*(x3-x1)).num*N.sgnI ((x2-x1)*(y4-y1)-(y2-y1)*(x4-x1)).num)<0)==true&&true)||true,!(decide (wi (N.sgnI ((x2-x1)*(y3-y1)-(y2-y1)*(x3-x1)).num*N.sgnI ((x2-x1)*(y4-y1)-(y2-y1)*(x4-x1)).num)<0)==true&&true)||true,!(decide (wi (N.sgnI ((x2-x1)*(y3-y1)-(y2-y1)*(x3-x1)).num*N.sgnI ((x2-x1)*(y4-y1)-(y2-y1)*(x4-x1)).num)<0)==true&&true)||true,!(decide (wi (N.sgnI ((x2-x1)*(y3-y1)-(y2-y1)*(x3-x1)).num*N.sgnI ((x2-x1)*(y4-y1)-(y2-y1)*(x4-x1)).num)<0)==true&&true)||true]) (calls:=[⟨true,false,98,[(Zge x1 f1 f2 y1 f3 f4),(zNqM9 x3 f9 f10 y3 f11 f12)],[],(zNqM16 x3 x1 y3 y1),[]⟩,⟨true,false,99,[(Zhu x2 x1 y2 y1),(zNqM16 x3 x1 y3 y1)],[],ratF ((x2-x1)*(y3-y1)-(y2-y1)*(x3-x1)),[]⟩,⟨true,false,77,[ratF ((x2-x1)*(y3-y1)-(y2-y1)*(x3-x1))],[],vi (N.sgnI ((x2-x1)*(y3-y1)-(y2-y1)*(x3-x1)).num),[]⟩,⟨true,false,98,[(Zge x1 f1 f2 y1 f3 f4),(zNqM15 x4 f13 f14 y4 f15 f16)],[],(zNqM17 x4 x1 y4 y1),[]⟩,⟨true,false,99,[(Zhu x2 x1 y2 y1),(zNqM17 x4 x1 y4 y1)],[],ratF ((x2-x1)*(y4-y1)-(y2-y1)*(x4-x1)),[]⟩,⟨true,false,77,[ratF ((x2-x1)*(y4-y1)-(y2-y1)*(x4-x1))],[],vi (N.sgnI ((x2-x1)*(y4-y1)-(y2-y1)*(x4-x1)).num),[]⟩,⟨decide (wi (N.sgnI ((x2-x1)*(y3-y1)-(y2-y1)*(x3-x1)).num*N.sgnI ((x2-x1)*(y4-y1)-(y2-y1)*(x4-x1)).num)<0)==true&&true&&true,false,98,[(zNqM9 x3 f9 f10 y3 f11 f12),(Zge x1 f1 f2 y1 f3 f4)],[],(zNqM12 x1 x3 y1 y3),[]⟩,⟨decide (wi (N.sgnI ((x2-x1)*(y3-y1)-(y2-y1)*(x3-x1)).num*N.sgnI ((x2-x1)*(y4-y1)-(y2-y1)*(x4-x1)).num)<0)==true&&true&&true,false,99,[(zNqM8 x4 x3 y4 y3),(zNqM12 x1 x3 y1 y3)],[],ratF ((x4-x3)*(y1-y3)-(y4-y3)*(x1-x3)),[]⟩,⟨decide (wi (N.sgnI ((x2-x1)*(y3-y1)-(y2-y1)*(x3-x1)).num*N.sgnI ((x2-x1)*(y4-y1)-(y2-y1)*(x4-x1)).num)<0)==true&&true&&true,false,77,[ratF ((x4-x3)*(y1-y3)-(y4-y3)*(x1-x3))],[],vi (N.sgnI ((x4-x3)*(y1-y3)-(y4-y3)*(x1-x3)).num),[]⟩,⟨decide (wi (N.sgnI ((x2-x1)*(y3-y1)-(y2-y1)*(x3-x1)).num*N.sgnI ((x2-x1)*(y4-y1)-(y2-y1)*(x4-x1)).num)<0)==true&&true&&true,false,98,[(zNqM9 x3 f9 f10 y3 f11 f12),(zNqM14 x2 f5 f6 y2 f7 f8)],[],(zNqM13 x2 x3 y2 y3),[]⟩,⟨decide (wi (N.sgnI ((x2-x1)*(y3-y1)-(y2-y1)*(x3-x1)).num*N.sgnI ((x2-x1)*(y4-y1)-(y2-y1)*(x4-x1)).num)<0)==true&&true&&true,false,99,[(zNqM8 x4 x3 y4 y3),(zNqM13 x2 x3 y2 y3)],[],ratF ((x4-x3)*(y2-y3)-(y4-y3)*(x2-x3)),[]⟩,⟨decide (wi (N.sgnI ((x2-x1)*(y3-y1)-(y2-y1)*(x3-x1)).num*N.sgnI ((x2-x1)*(y4-y1)-(y2-y1)*(x4-x1)).num)<0)==true&&true&&true,false,77,[ratF ((x4-x3)*(y2-y3)-(y4-y3)*(x2-x3))],[],vi (N.sgnI ((x4-x3)*(y2-y3)-(y4-y3)*(x2-x3)).num),[]⟩]) (vb (bif decide (wi (N.sgnI ((x2-x1)*(y3-y1)-(y2-y1)*(x3-x1)).num*N.sgnI ((x2-x1)*(y4-y1)-(y2-y1)*(x4-x1)).num)<0) then decide (wi (N.sgnI ((x4-x3)*(y1-y3)-(y4-y3)*(x1-x3)).num*N.sgnI ((x4-x3)*(y2-y3)-(y4-y3)*(x2-x3)).num)<0) else false)) (by kernel_rfl) (bc rfl (bc rfl (bc rfl (bc rfl (bc rfl (bc rfl (bc (Bool.or_true _) (bc (Bool.or_true _) (bc (Bool.or_true _) (bc (Bool.or_true _) (bc (Bool.or_true _) (bc (Bool.or_true _) b0)))))))))))) q0 (cc (fun _=>(@ev98 f1 f2 f3 f4 f9 f10 f11 f12 x1 y1 x3 y3 k3)) (cc (fun _=>(@ev99 false false false false false false false false (x2-x1) (y2-y1) (x3-x1) (y3-y1) k4)) (cc (fun _=>(@ev77 false false (((x2-x1)*(y3-y1)-(y2-y1)*(x3-x1)).num) ((↑((x2-x1)*(y3-y1)-(y2-y1)*(x3-x1)).den:Int)))) (cc (fun _=>(@ev98 f1 f2 f3 f4 f13 f14 f15 f16 x1 y1 x4 y4 k5)) (cc (fun _=>(@ev99 false false false false false false false false (x2-x1) (y2-y1) (x4-x1) (y4-y1) k6)) (cc (fun _=>(@ev77 false false (((x2-x1)*(y4-y1)-(y2-y1)*(x4-x1)).num) ((↑((x2-x1)*(y4-y1)-(y2-y1)*(x4-x1)).den:Int)))) (cc (fun hc=>((@ev98 f9 f10 f11 f12 f1 f2 f3 f4 x3 y3 x1 y1 (k10 (i9.1 hc))):Ev M1 (Conf.pure 98 [(zNqM9 x3 f9 f10 y3 f11 f12),(Zge x1 f1 f2 y1 f3 f4)]) ((zNqM12 x1 x3 y1 y3)) [])) (cc (fun hc=>((@ev99 false false false false false false false false (x4-x3) (y4-y3) (x1-x3) (y1-y3) (k12 (i11.1 hc))):Ev M1 (Conf.pure 99 [(zNqM8 x4 x3 y4 y3),(zNqM12 x1 x3 y1 y3)]) (ratF ((x4-x3)*(y1-y3)-(y4-y3)*(x1-x3))) [])) (cc (fun hc=>((@ev77 false false (((x4-x3)*(y1-y3)-(y4-y3)*(x1-x3)).num) ((↑((x4-x3)*(y1-y3)-(y4-y3)*(x1-x3)).den:Int))):Ev M1 (Conf.pure 77 [ratF ((x4-x3)*(y1-y3)-(y4-y3)*(x1-x3))]) (vi (N.sgnI ((x4-x3)*(y1-y3)-(y4-y3)*(x1-x3)).num)) [])) (cc (fun hc=>((@ev98 f9 f10 f11 f12 f5 f6 f7 f8 x3 y3 x2 y2 (k15 (i14.1 hc))):Ev M1 (Conf.pure 98 [(zNqM9 x3 f9 f10 y3 f11 f12),(zNqM14 x2 f5 f6 y2 f7 f8)]) ((zNqM13 x2 x3 y2 y3)) [])) (cc (fun hc=>((@ev99 false false false false false false false false (x4-x3) (y4-y3) (x2-x3) (y2-y3) (k17 (i16.1 hc))):Ev M1 (Conf.pure 99 [(zNqM8 x4 x3 y4 y3),(zNqM13 x2 x3 y2 y3)]) (ratF ((x4-x3)*(y2-y3)-(y4-y3)*(x2-x3))) [])) (cc (fun hc=>((@ev77 false false (((x4-x3)*(y2-y3)-(y4-y3)*(x2-x3)).num) ((↑((x4-x3)*(y2-y3)-(y4-y3)*(x2-x3)).den:Int))):Ev M1 (Conf.pure 77 [ratF ((x4-x3)*(y2-y3)-(y4-y3)*(x2-x3))]) (vi (N.sgnI ((x4-x3)*(y2-y3)-(y4-y3)*(x2-x3)).num)) [])) c0)))))))))))) (by (try rw [w8]);all_goals exact H)
end Go.Av

namespace Go.Av
open Go.Proofs
namespace N
noncomputable def tsg (x1 y1 x2 y2 x3 y3:Rat):Rat:=
 if (x2-x1)*(x3-x1)+(y2-y1)*(y3-y1)<=0 then (x3-x1)*(x3-x1)+(y3-y1)*(y3-y1)
 else if (x2-x1)*(x2-x1)+(y2-y1)*(y2-y1)<=(x2-x1)*(x3-x1)+(y2-y1)*(y3-y1) then (x3-x2)*(x3-x2)+(y3-y2)*(y3-y2)
 else ((x2-x1)*(y3-y1)-(y2-y1)*(x3-x1))*((x2-x1)*(y3-y1)-(y2-y1)*(x3-x1)) / ((x2-x1)*(x2-x1)+(y2-y1)*(y2-y1))
def crs (x1 y1 x2 y2 x3 y3 x4 y4:Rat):Prop:=
 sgnI ((x2-x1)*(y3-y1)-(y2-y1)*(x3-x1)).num*sgnI ((x2-x1)*(y4-y1)-(y2-y1)*(x4-x1)).num<0/\sgnI ((x4-x3)*(y1-y3)-(y4-y3)*(x1-x3)).num*sgnI ((x4-x3)*(y2-y3)-(y4-y3)*(x2-x3)).num<0
def okV (x y:Rat):Prop:=okT 10 x/\okT 10 y
def okV3 (x1 y1 x2 y2 x3 y3:Rat):Prop:=okV x1 y1/\okV x2 y2/\okV x3 y3
def Zgz (x1 y1 x2 y2 x3 y3 x4 y4:Rat):Prop:=okV x1 y1/\okV x2 y2/\okV x3 y3/\okV x4 y4
end N
instance (x1 y1 x2 y2 x3 y3 x4 y4:Rat):Decidable (N.crs x1 y1 x2 y2 x3 y3 x4 y4):=by unfold N.crs;infer_instance
theorem ZeE {r s:Rat}:N.sgnI (r.num*(s.den:Int)-s.num*(r.den:Int))>=0 ↔ s<=r:=by
 rw [Rat.le_iff]
 generalize r.num*(s.den:Int)=u
 generalize s.num*(r.den:Int)=v
 unfold N.sgnI
 split
 ·omega
 ·split <;> omega
theorem Zcu {r s:Rat}:N.sgnI (r.num*(s.den:Int)-s.num*(r.den:Int))<0 ↔ r<s:=by
 rw [<- Rat.not_le,<- ZeE];omega
theorem ZdK {d:Rat}:N.sgnI d.num<=0 ↔ d<=0:=by
 rw [Rat.le_iff]
 show _ ↔ d.num*(1:Int)<=0*_
 rw [Int.zero_mul,Int.mul_one]
 unfold N.sgnI
 split
 ·omega
 ·split <;> omega
theorem ZdB {x1 y1 x2 y2:Rat} (h:N.okV x1 y1) (k:N.okV x2 y2):N.okW x1 y1 x2 y2:=⟨⟨Zco h.1 (by omega),Zco h.2 (by omega)⟩,Zco k.1 (by omega),Zco k.2 (by omega)⟩
theorem Zeq {x1 y1 x2 y2 x3 y3 x4 y4:Rat} (h1:N.okV x1 y1) (h2:N.okV x2 y2) (h3:N.okV x3 y3) (h4:N.okV x4 y4):N.okD (x2-x1) (y2-y1) (x4-x3) (y4-y3):=
 ⟨⟨Zco (Zb7 h2.1 h1.1) (by omega),Zco (Zb7 h2.2 h1.2) (by omega)⟩,Zco (Zb7 h4.1 h3.1) (by omega),Zco (Zb7 h4.2 h3.2) (by omega)⟩
theorem Zey {x1 y1 x2 y2 x3 y3 x4 y4:Rat} (h1:N.okV x1 y1) (h2:N.okV x2 y2) (h3:N.okV x3 y3) (h4:N.okV x4 y4):N.okT 100 ((x2-x1)*(x4-x3)+(y2-y1)*(y4-y3)):=
 Zco (okT_add (ZbB (Zb7 h2.1 h1.1) (Zb7 h4.1 h3.1)) (ZbB (Zb7 h2.2 h1.2) (Zb7 h4.2 h3.2))) (by omega)
theorem okT_crs {x1 y1 x2 y2 x3 y3 x4 y4:Rat} (h1:N.okV x1 y1) (h2:N.okV x2 y2) (h3:N.okV x3 y3) (h4:N.okV x4 y4):N.okT 100 ((x2-x1)*(y4-y3)-(y2-y1)*(x4-x3)):=
 Zco (Zb7 (ZbB (Zb7 h2.1 h1.1) (Zb7 h4.2 h3.2)) (ZbB (Zb7 h2.2 h1.2) (Zb7 h4.1 h3.1))) (by omega)
theorem okT_dv {k m:Nat} {r s:Rat} (h:N.okT k r) (h2:N.okT m s) (h0:s.num ≠ 0):N.okT (k+m) (r / s):=by
 have e:=Zg0 (p:=r.num*(s.den:Int)) (q:=(r.den:Int)*s.num) (Int.mul_ne_zero (Zb0 r) h0)
 rw [rat_div] at e
 exact ⟨Nat.le_trans (ZaP e.1) (ZaM h.1 (ZaS h2.2)),Nat.le_trans (ZaP e.2) (ZaM (ZaS h.2) h2.1)⟩
theorem Zcs {x1 y1 x2 y2 x3 y3:Rat} (h1:N.okV x1 y1) (h2:N.okV x2 y2) (h3:N.okV x3 y3):N.okT 400 (N.tsg x1 y1 x2 y2 x3 y3):=by
 unfold N.tsg
 split
 ·exact Zco (Zey h1 h3 h1 h3) (by omega)
 ·split
  ·exact Zco (Zey h2 h3 h2 h3) (by omega)
  ·rename_i n1 n2
   refine Zco (okT_dv (ZbB (okT_crs h1 h2 h1 h3) (okT_crs h1 h2 h1 h3)) (Zey h1 h2 h1 h2) fun e => ?_) (by omega)
   have:=Rat.num_eq_zero.1 e
   rw [this] at n2
   grind
theorem ev80 (f1 f2 f3 f4 f5 f6 f7 f8 f9 f10 f11 f12:Bool) (x1 y1 x2 y2 x3 y3:Rat) (h:N.okV3 x1 y1 x2 y2 x3 y3):Ev M1 (.pure 80 [vecA f1 f2 f3 f4 x1 y1,vecA f5 f6 f7 f8 x2 y2,vecA f9 f10 f11 f12 x3 y3]) (ratF (N.tsg x1 y1 x2 y2 x3 y3)) []:=by
 obtain ⟨h1,h2,h3⟩:=h
 have dd:=Zey h1 h2 h1 h2
 have dt:=Zey h1 h2 h1 h3
 have cr:=okT_crs h1 h2 h1 h3
 refine call80 (qToS _ _ _ _ _ _ _ _ _ _ _ _ _ _ _ _ _ _ _ ⟨ZdB h1 h2,ZdB h1 h3,Zeq h1 h2 h1 h2,Zeq h1 h2 h1 h3,fun k=>⟨Zeq h1 h3 h1 h3,?_⟩,fun k=>⟨⟨Za3 dt (by omega),Za3 dd (by omega)⟩,fun j=>⟨ZdB h2 h3,Zeq h2 h3 h2 h3,?_⟩,fun j=>⟨⟨Za3 cr (by omega),Za3 cr (by omega)⟩,⟨Za3 (ZbB cr cr) (by omega),Za3 dd (by omega),fun e => ?_⟩,?_⟩⟩⟩)
 ·unfold N.tsg;rw [if_pos (ZdK.1 k)];exact .refl _
 ·unfold N.tsg;rw [if_neg fun x=>k (ZdK.2 x),if_pos (ZeE.1 j)];exact .refl _
 ·have e0:=Rat.num_eq_zero.1 e
  have k0:¬_:=fun x=>k (ZdK.2 x)
  have j0:¬_:=fun x=>j (ZeE.2 x)
  rw [e0] at j0
  grind
 ·unfold N.tsg;rw [if_neg fun x=>k (ZdK.2 x),if_neg fun x=>j (ZeE.2 x)];exact .refl _
theorem sgn_bd (n:Int):-1<=N.sgnI n/\N.sgnI n<=1:=by
 unfold N.sgnI
 split
 ·omega
 ·split <;> omega
theorem Zfm (m n:Int):-1<=N.sgnI m*N.sgnI n/\N.sgnI m*N.sgnI n<=1:=by
 have a:=sgn_bd m
 have b:=sgn_bd n
 have c:N.sgnI m = -1\/N.sgnI m=0\/N.sgnI m=1:=by omega
 rcases c with c | c | c <;> rw [c] <;> omega
theorem crs_bool (x1 y1 x2 y2 x3 y3 x4 y4:Rat):(bif decide (N.sgnI ((x2-x1)*(y3-y1)-(y2-y1)*(x3-x1)).num*N.sgnI ((x2-x1)*(y4-y1)-(y2-y1)*(x4-x1)).num<0) then decide (IntKind.i64.wrap (N.sgnI ((x4-x3)*(y1-y3)-(y4-y3)*(x1-x3)).num*N.sgnI ((x4-x3)*(y2-y3)-(y4-y3)*(x2-x3)).num)<0) else false)=decide (N.crs x1 y1 x2 y2 x3 y3 x4 y4):=by
 have b:=Zfm ((x4-x3)*(y1-y3)-(y4-y3)*(x1-x3)).num ((x4-x3)*(y2-y3)-(y4-y3)*(x2-x3)).num
 rw [w64 _ (by omega),Za7]
 exact ZcW Iff.rfl
theorem ev79 (f1 f2 f3 f4 f5 f6 f7 f8 f9 f10 f11 f12 f13 f14 f15 f16:Bool) (x1 y1 x2 y2 x3 y3 x4 y4:Rat) (h:N.Zgz x1 y1 x2 y2 x3 y3 x4 y4):Ev M1 (.pure 79 [vecA f1 f2 f3 f4 x1 y1,vecA f5 f6 f7 f8 x2 y2,vecA f9 f10 f11 f12 x3 y3,vecA f13 f14 f15 f16 x4 y4]) (.bool (decide (N.crs x1 y1 x2 y2 x3 y3 x4 y4))) []:=by
 obtain ⟨h1,h2,h3,h4⟩:=h
 have b:=Zfm ((x2-x1)*(y3-y1)-(y2-y1)*(x3-x1)).num ((x2-x1)*(y4-y1)-(y2-y1)*(x4-x1)).num
 exact call79 (qCrs _ _ _ _ _ _ _ _ _ _ _ _ _ _ _ _ _ _ _ _ _ _ _ _ _ ⟨ZdB h1 h2,ZdB h3 h4,ZdB h1 h3,Zeq h1 h2 h1 h3,ZdB h1 h4,Zeq h1 h2 h1 h4,by omega,fun _=>ZdB h3 h1,fun _=>Zeq h3 h4 h3 h1,fun _=>ZdB h3 h2,fun _=>Zeq h3 h4 h3 h2,congrArg AV.bool (crs_bool _ _ _ _ _ _ _ _)⟩)
end Go.Av

namespace Go.Av
open Go.Proofs
set_option maxRecDepth 100000
def fi20:Fi:=⟨80,[.tmp 2]⟩
def kp20:List (Nat × List Nat):=[(0,[1]),(1,[1,3]),(2,[1,3,4]),(3,[1,3,4,43]),(4,[1,3,4]),(5,[1,4,5]),(6,[1,3,4]),(7,[79]),(8,[2]),(9,[2])]
def fi23:Fi:=⟨72,[.tmp 2]⟩
def kp23:List (Nat × List Nat):=[(0,[1]),(1,[1,38]),(2,[2]),(3,[1,40,41,42]),(4,[1,40,41,42,43]),(5,[1,4,40,41,42]),(6,[1,40,41,42,70]),(7,[2]),(8,[1,40,41,42]),(9,[2])]
def fi63:Fi:=⟨47,[.cell 8 87]⟩
def kp63:List (Nat × List Nat):=[(0,[4,5,6,7,8]),(1,[4,5,6,7,8,16]),(2,[8]),(3,[4,5,6,7,8,9]),(4,[8,9,34,35,36]),(5,[8,9,34,35,36,37]),(6,[8,9,11,34,35,36]),(7,[8,9,11,34,35,36,43]),(8,[8,9,34,35,36]),(9,[8,9,34,35,36]),(10,[8])]
def qSeg_at (f1 f2 f3 f4 f5 f6 f7 f8 f9 f10 f11 f12 f13 f14 f15 f16:Bool) (x1 y1 x2 y2 x3 y3 x4 y4:Rat) (Q:AV->Heap->Prop):Prop:=Wp M1 (.run fi63 (atC (cd Tryz.f63) []) [(0,.agg [.bool (N.Zab x1.num),.vec f1 1 ((N.Zad x1.num).map (.int .u32)),.bool (N.Zab (x1.den:Int)),.vec f2 1 ((N.Zad (x1.den:Int)).map (.int .u32)),.bool (N.Zab y1.num),.vec f3 1 ((N.Zad y1.num).map (.int .u32)),.bool (N.Zab (y1.den:Int)),.vec f4 1 ((N.Zad (y1.den:Int)).map (.int .u32))]),(1,.agg [.bool (N.Zab x2.num),.vec f5 1 ((N.Zad x2.num).map (.int .u32)),.bool (N.Zab (x2.den:Int)),.vec f6 1 ((N.Zad (x2.den:Int)).map (.int .u32)),.bool (N.Zab y2.num),.vec f7 1 ((N.Zad y2.num).map (.int .u32)),.bool (N.Zab (y2.den:Int)),.vec f8 1 ((N.Zad (y2.den:Int)).map (.int .u32))]),(2,.agg [.bool (N.Zab x3.num),.vec f9 1 ((N.Zad x3.num).map (.int .u32)),.bool (N.Zab (x3.den:Int)),.vec f10 1 ((N.Zad (x3.den:Int)).map (.int .u32)),.bool (N.Zab y3.num),.vec f11 1 ((N.Zad y3.num).map (.int .u32)),.bool (N.Zab (y3.den:Int)),.vec f12 1 ((N.Zad (y3.den:Int)).map (.int .u32))]),(3,.agg [.bool (N.Zab x4.num),.vec f13 1 ((N.Zad x4.num).map (.int .u32)),.bool (N.Zab (x4.den:Int)),.vec f14 1 ((N.Zad (x4.den:Int)).map (.int .u32)),.bool (N.Zab y4.num),.vec f15 1 ((N.Zad y4.num).map (.int .u32)),.bool (N.Zab (y4.den:Int)),.vec f16 1 ((N.Zad (y4.den:Int)).map (.int .u32))])] []) Q
def Zf0 (q r1 r2 r3:Rat) (Q:AV->Heap->Prop):Prop:=Wp M1 (.run fi63 (atC (cd Tryz.f63) [1,1,1,0,1,0,0]) [(8,.ptr 0 0 0 0),(9,.ptr 1 0 0 0),(34,.vec true 4 [ratF r1,ratF r2,ratF r3]),(35,.int .i64 3),(36,.int .i64 0)] [⟨[.agg [.bool false,.vnil,.bool false,.vnil]],4,0,false,false⟩,⟨[ratF q],4,0,false,false⟩]) Q
def Ze0 (q r1 r2 r3:Rat) (Q:AV->Heap->Prop):Prop:=Wp M1 (.run fi63 (atC (cd Tryz.f63) [1,1,1,0,1,0,0]) [(8,.ptr 0 0 0 0),(9,.ptr 1 0 0 0),(34,.vec true 4 [ratF r1,ratF r2,ratF r3]),(35,.int .i64 3),(36,.int .i64 1)] [⟨[.agg [.bool false,.vnil,.bool false,.vnil]],4,0,false,false⟩,⟨[ratF q],4,0,false,false⟩]) Q
def ZeZ (q r1 r2 r3:Rat) (Q:AV->Heap->Prop):Prop:=Wp M1 (.run fi63 (atC (cd Tryz.f63) [1,1,1,0,1,0,0]) [(8,.ptr 0 0 0 0),(9,.ptr 1 0 0 0),(34,.vec true 4 [ratF r1,ratF r2,ratF r3]),(35,.int .i64 3),(36,.int .i64 2)] [⟨[.agg [.bool false,.vnil,.bool false,.vnil]],4,0,false,false⟩,⟨[ratF q],4,0,false,false⟩]) Q
def ZeY (q r1 r2 r3:Rat) (Q:AV->Heap->Prop):Prop:=Wp M1 (.run fi63 (atC (cd Tryz.f63) [1,1,1,0,1,0,0]) [(8,.ptr 0 0 0 0),(9,.ptr 1 0 0 0),(34,.vec true 4 [ratF r1,ratF r2,ratF r3]),(35,.int .i64 3),(36,.int .i64 3)] [⟨[.agg [.bool false,.vnil,.bool false,.vnil]],4,0,false,false⟩,⟨[ratF q],4,0,false,false⟩]) Q
def qVal_at (f:Bool) (cs:List Bx) (u0 v0 u1 v1 th gp sf:Int) (Q:AV->Heap->Prop):Prop:=Wp M1 (.run fi23 (atC (cd Tryz.f23) []) [(0,.agg [.int .i64 u0,.int .i64 v0,.int .i64 u1,.int .i64 v1,.int .i64 th,.int .i64 gp,.vec f 5 (cs.map Bx.a),.int .i64 sf])] []) Q
def ZeX (f:Bool) (cs:List Bx) (u0 v0 u1 v1 th gp sf:Int) (n i:Int) (Q:AV->Heap->Prop):Prop:=Wp M1 (.run fi23 (atC (cd Tryz.f23) [1,1,0,1,0,0]) [(1,.ptr 0 0 0 0),(40,.vec f 5 (cs.map Bx.a)),(41,.int .i64 n),(42,.int .i64 i)] [⟨[.agg [.int .i64 u0,.int .i64 v0,.int .i64 u1,.int .i64 v1,.int .i64 th,.int .i64 gp,.vec f 5 (cs.map Bx.a),.int .i64 sf]],8,0,false,false⟩]) Q
def qValR_at (f:Bool) (cs:List Bx) (u0 v0 u1 v1 th gp sf:Int) (Q:AV->Heap->Prop):Prop:=Wp M1 (.run fi20 (atC (cd Tryz.f20) []) [(0,.agg [.int .i64 u0,.int .i64 v0,.int .i64 u1,.int .i64 v1,.int .i64 th,.int .i64 gp,.vec f 5 (cs.map Bx.a),.int .i64 sf])] []) Q
def ZdQ (f:Bool) (cs:List Bx) (u0 v0 u1 v1 th gp sf:Int) (ok:Bool) (i:Int) (Q:AV->Heap->Prop):Prop:=Wp M1 (.run fi20 (atC (cd Tryz.f20) [1,1,0,1,0,0]) [(1,.ptr 0 0 0 0),(3,.bool ok),(4,.int .i64 i)] [⟨[.agg [.int .i64 u0,.int .i64 v0,.int .i64 u1,.int .i64 v1,.int .i64 th,.int .i64 gp,.vec f 5 (cs.map Bx.a),.int .i64 sf]],8,0,false,false⟩]) Q
theorem call20 {args:List AV} {d:AV} (h:wc M1 fi20 Tryz.f20 args d):Ev M1 (.pure 20 args) d []:=pcl _ _ (by kernel_rfl) h
theorem call23 {args:List AV} {d:AV} (h:wc M1 fi23 Tryz.f23 args d):Ev M1 (.pure 23 args) d []:=pcl _ _ (by kernel_rfl) h
theorem call63 {args:List AV} {d:AV} (h:wc M1 fi63 Tryz.f63 args d):Ev M1 (.pure 63 args) d []:=pcl _ _ (by kernel_rfl) h
noncomputable abbrev zNqN1 (x1:Rat) (f1:Bool) (f2:Bool) (y1:Rat) (f3:Bool) (f4:Bool):=ag [vb (N.Zab x1.num),AV.vec f1 1 (us (N.Zad x1.num)),vb (N.Zab (↑x1.den:Int)),AV.vec f2 1 (us (N.Zad (↑x1.den:Int))),vb (N.Zab y1.num),AV.vec f3 1 (us (N.Zad y1.num)),vb (N.Zab (↑y1.den:Int)),AV.vec f4 1 (us (N.Zad (↑y1.den:Int)))]
noncomputable abbrev zNqN2 (x2:Rat) (f5:Bool) (f6:Bool) (y2:Rat) (f7:Bool) (f8:Bool):=ag [vb (N.Zab x2.num),AV.vec f5 1 (us (N.Zad x2.num)),vb (N.Zab (↑x2.den:Int)),AV.vec f6 1 (us (N.Zad (↑x2.den:Int))),vb (N.Zab y2.num),AV.vec f7 1 (us (N.Zad y2.num)),vb (N.Zab (↑y2.den:Int)),AV.vec f8 1 (us (N.Zad (↑y2.den:Int)))]
noncomputable abbrev zNqN3 (x3:Rat) (f9:Bool) (f10:Bool) (y3:Rat) (f11:Bool) (f12:Bool):=ag [vb (N.Zab x3.num),AV.vec f9 1 (us (N.Zad x3.num)),vb (N.Zab (↑x3.den:Int)),AV.vec f10 1 (us (N.Zad (↑x3.den:Int))),vb (N.Zab y3.num),AV.vec f11 1 (us (N.Zad y3.num)),vb (N.Zab (↑y3.den:Int)),AV.vec f12 1 (us (N.Zad (↑y3.den:Int)))]
noncomputable abbrev zNqN4 (x4:Rat) (f13:Bool) (f14:Bool) (y4:Rat) (f15:Bool) (f16:Bool):=ag [vb (N.Zab x4.num),AV.vec f13 1 (us (N.Zad x4.num)),vb (N.Zab (↑x4.den:Int)),AV.vec f14 1 (us (N.Zad (↑x4.den:Int))),vb (N.Zab y4.num),AV.vec f15 1 (us (N.Zad y4.num)),vb (N.Zab (↑y4.den:Int)),AV.vec f16 1 (us (N.Zad (↑y4.den:Int)))]
theorem qSeg (f1 f2 f3 f4 f5 f6 f7 f8 f9 f10 f11 f12 f13 f14 f15 f16:Bool) (x1 y1 x2 y2 x3 y3 x4 y4:Rat)  (dq:AV) (H :
  (N.Zgz x1 y1 x2 y2 x3 y3 x4 y4) /\
  ((N.crs x1 y1 x2 y2 x3 y3 x4 y4)->(N.inI 0) /\
   Weak (ratF (N.qi 0)) dq) /\
  (¬(N.crs x1 y1 x2 y2 x3 y3 x4 y4)->(N.okV3 x1 y1 x2 y2 x3 y3) /\
   (N.okV3 x1 y1 x2 y2 x4 y4) /\
   (N.okV3 x3 y3 x4 y4 x1 y1) /\
   (N.okV3 x3 y3 x4 y4 x2 y2) /\
   Zf0 (N.tsg x1 y1 x2 y2 x3 y3) (N.tsg x1 y1 x2 y2 x4 y4) (N.tsg x3 y3 x4 y4 x1 y1) (N.tsg x3 y3 x4 y4 x2 y2) (Zag dq))) :
 qSeg_at f1 f2 f3 f4 f5 f6 f7 f8 f9 f10 f11 f12 f13 f14 f15 f16 x1 y1 x2 y2 x3 y3 x4 y4 (Zag dq):=by
 unfold qSeg_at
 obtain ⟨k1,H⟩:=H
 refine Zaf (G:=Zae kp63 [(1,4,.call (vb (decide (N.crs x1 y1 x2 y2 x3 y3 x4 y4))) none)] []) 5 [] ⟨(atC (cd Tryz.f63) [1,0,1]),[(4,AV.ptr 0 0 0 0),(5,AV.ptr 1 0 0 0),(6,AV.ptr 2 0 0 0),(7,AV.ptr 3 0 0 0),(8,AV.ptr 4 0 0 0),(16,vb (decide (N.crs x1 y1 x2 y2 x3 y3 x4 y4)))],[⟨[(zNqN1 x1 f1 f2 y1 f3 f4)],8,0,false,false⟩,⟨[(zNqN2 x2 f5 f6 y2 f7 f8)],8,0,false,false⟩,⟨[(zNqN3 x3 f9 f10 y3 f11 f12)],8,0,false,false⟩,⟨[(zNqN4 x4 f13 f14 y4 f15 f16)],8,0,false,false⟩,⟨[ag [vb false,AV.vnil,vb false,AV.vnil]],4,0,false,false⟩],_,[],_⟩ (by kernel_rfl) (bc rfl (bc rfl (bc rfl (bc rfl b0)))) q0 (ce (@ev79 f1 f2 f3 f4 f5 f6 f7 f8 f9 f10 f11 f12 f13 f14 f15 f16 x1 y1 x2 y2 x3 y3 x4 y4 k1) c0) ?_
 rcases xq H with ⟨d3,H⟩|⟨d3,H⟩
 ·obtain ⟨k4,H⟩:=H
  exact Zaj (G:=Zae kp63 [(2,0,.call (ratF (N.qi 0)) none)] []) 1000 [true] (ratF (N.qi 0)) (by kernel_rfl) (bc (Zam (Zac.2 d3)) (bc rfl b0)) q0 (ce (@ev59 0 k4) c0) H
 ·obtain ⟨k5,k6,k7,k8,H⟩:=H
  exact Zaf (G:=Zae kp63 [(3,3,.call (ratF (N.tsg x1 y1 x2 y2 x3 y3)) none),(4,3,.call (ratF (N.tsg x1 y1 x2 y2 x4 y4)) none),(4,7,.call (ratF (N.tsg x3 y3 x4 y4 x1 y1)) none),(4,11,.call (ratF (N.tsg x3 y3 x4 y4 x2 y2)) none)] []) 1000 [false] ⟨(atC (cd Tryz.f63) [1,1,1,0,1,0,0]),[(8,AV.ptr 4 0 0 0),(9,AV.ptr 5 0 0 0),(34,AV.vec true 4 [ratF (N.tsg x1 y1 x2 y2 x4 y4),ratF (N.tsg x3 y3 x4 y4 x1 y1),ratF (N.tsg x3 y3 x4 y4 x2 y2)]),(35,vi 3),(36,vi 0)],[⟨[(zNqN1 x1 f1 f2 y1 f3 f4)],8,0,false,false⟩,⟨[(zNqN2 x2 f5 f6 y2 f7 f8)],8,0,false,false⟩,⟨[(zNqN3 x3 f9 f10 y3 f11 f12)],8,0,false,false⟩,⟨[(zNqN4 x4 f13 f14 y4 f15 f16)],8,0,false,false⟩,⟨[ag [vb false,AV.vnil,vb false,AV.vnil]],4,0,false,false⟩,⟨[ratF (N.tsg x1 y1 x2 y2 x3 y3)],4,0,false,false⟩],_,[],_⟩ (by kernel_rfl) (bc (Zak (fun h=>d3 (Zac.1 h))) (bc rfl (bc rfl (bc rfl (bc rfl (bc rfl (bc rfl (bc rfl (bc rfl (bc rfl (bc rfl (bc rfl (bc rfl (bc rfl b0)))))))))))))) q0 (ce (@ev80 f1 f2 f3 f4 f5 f6 f7 f8 f9 f10 f11 f12 x1 y1 x2 y2 x3 y3 k5) (ce (@ev80 f1 f2 f3 f4 f5 f6 f7 f8 f13 f14 f15 f16 x1 y1 x2 y2 x4 y4 k6) (ce (@ev80 f9 f10 f11 f12 f13 f14 f15 f16 f1 f2 f3 f4 x3 y3 x4 y4 x1 y1 k7) (ce (@ev80 f9 f10 f11 f12 f13 f14 f15 f16 f5 f6 f7 f8 x3 y3 x4 y4 x2 y2 k8) c0)))) (ZaA [4,5] (by kernel_rfl) H)
noncomputable abbrev zNqN5:=ag [vb false,AV.vnil,vb false,AV.vnil]
theorem qSeg0 (q r1 r2 r3:Rat)  (dq:AV) (H :
  (N.okR r1/\N.okR q) /\
  ((N.sgnI (r1.num*(↑q.den:Int)-q.num*(↑r1.den:Int))<0)->Ze0 r1 r1 r2 r3 (Zag dq)) /\
  (¬(N.sgnI (r1.num*(↑q.den:Int)-q.num*(↑r1.den:Int))<0)->Ze0 q r1 r2 r3 (Zag dq))) :
 Zf0 q r1 r2 r3 (Zag dq):=by
 unfold Zf0
 obtain ⟨k1,H⟩:=H
 refine Zaf (G:=Zae kp63 [(7,2,.call (vi (N.sgnI (r1.num*(↑q.den:Int)-q.num*(↑r1.den:Int)))) none)] []) 11 [true] ⟨(atC (cd Tryz.f63) [1,1,1,0,1,0,0,1,1,0,0,1,1]),[(8,AV.ptr 0 0 0 0),(9,AV.ptr 1 0 0 0),(11,AV.ptr 2 0 0 0),(34,AV.vec true 4 [ratF r1,ratF r2,ratF r3]),(35,vi 3),(36,vi 0),(43,vb (decide (N.sgnI (r1.num*(↑q.den:Int)-q.num*(↑r1.den:Int))<0)))],[⟨[zNqN5],4,0,false,false⟩,⟨[ratF q],4,0,false,false⟩,⟨[ratF r1],4,0,false,false⟩],_,[],_⟩ (by kernel_rfl) (bc rfl (bc rfl (bc rfl (bc rfl (bc rfl (bc rfl b0)))))) q0 (ce (@ev62 false false false false r1 q k1) c0) ?_
 rcases xq H with ⟨d3,H⟩|⟨d3,H⟩
 ·exact Zaf (G:=Zae kp63 [] []) 1000 [true] ⟨(atC (cd Tryz.f63) [1,1,1,0,1,0,0]),[(8,AV.ptr 0 0 0 0),(9,AV.ptr 1 0 0 0),(34,AV.vec true 4 [ratF r1,ratF r2,ratF r3]),(35,vi 3),(36,vi 1)],[⟨[zNqN5],4,0,false,false⟩,⟨[ratF r1],4,0,false,false⟩,⟨[ratF r1],4,0,false,false⟩],_,[],_⟩ (by kernel_rfl) (bc (Zam (Zac.2 d3)) (bc rfl (bc rfl b0))) q0 c0 (ZaA [0,1] (by kernel_rfl) H)
 ·exact Zaf (G:=Zae kp63 [] []) 1000 [false] ⟨(atC (cd Tryz.f63) [1,1,1,0,1,0,0]),[(8,AV.ptr 0 0 0 0),(9,AV.ptr 1 0 0 0),(34,AV.vec true 4 [ratF r1,ratF r2,ratF r3]),(35,vi 3),(36,vi 1)],[⟨[zNqN5],4,0,false,false⟩,⟨[ratF q],4,0,false,false⟩,⟨[ratF r1],4,0,false,false⟩],_,[],_⟩ (by kernel_rfl) (bc (Zak (fun h=>d3 (Zac.1 h))) b0) q0 c0 (ZaA [0,1] (by kernel_rfl) H)
noncomputable abbrev zNqN6:=ag [vb false,AV.vnil,vb false,AV.vnil]
theorem qSeg1 (q r1 r2 r3:Rat)  (dq:AV) (H :
  (N.okR r2/\N.okR q) /\
  ((N.sgnI (r2.num*(↑q.den:Int)-q.num*(↑r2.den:Int))<0)->ZeZ r2 r1 r2 r3 (Zag dq)) /\
  (¬(N.sgnI (r2.num*(↑q.den:Int)-q.num*(↑r2.den:Int))<0)->ZeZ q r1 r2 r3 (Zag dq))) :
 Ze0 q r1 r2 r3 (Zag dq):=by
 unfold Ze0
 obtain ⟨k1,H⟩:=H
 refine Zaf (G:=Zae kp63 [(7,2,.call (vi (N.sgnI (r2.num*(↑q.den:Int)-q.num*(↑r2.den:Int)))) none)] []) 11 [true] ⟨(atC (cd Tryz.f63) [1,1,1,0,1,0,0,1,1,0,0,1,1]),[(8,AV.ptr 0 0 0 0),(9,AV.ptr 1 0 0 0),(11,AV.ptr 2 0 0 0),(34,AV.vec true 4 [ratF r1,ratF r2,ratF r3]),(35,vi 3),(36,vi 1),(43,vb (decide (N.sgnI (r2.num*(↑q.den:Int)-q.num*(↑r2.den:Int))<0)))],[⟨[zNqN6],4,0,false,false⟩,⟨[ratF q],4,0,false,false⟩,⟨[ratF r2],4,0,false,false⟩],_,[],_⟩ (by kernel_rfl) (bc rfl (bc rfl (bc rfl (bc rfl (bc rfl (bc rfl b0)))))) q0 (ce (@ev62 false false false false r2 q k1) c0) ?_
 rcases xq H with ⟨d3,H⟩|⟨d3,H⟩
 ·exact Zaf (G:=Zae kp63 [] []) 1000 [true] ⟨(atC (cd Tryz.f63) [1,1,1,0,1,0,0]),[(8,AV.ptr 0 0 0 0),(9,AV.ptr 1 0 0 0),(34,AV.vec true 4 [ratF r1,ratF r2,ratF r3]),(35,vi 3),(36,vi 2)],[⟨[zNqN6],4,0,false,false⟩,⟨[ratF r2],4,0,false,false⟩,⟨[ratF r2],4,0,false,false⟩],_,[],_⟩ (by kernel_rfl) (bc (Zam (Zac.2 d3)) (bc rfl (bc rfl b0))) q0 c0 (ZaA [0,1] (by kernel_rfl) H)
 ·exact Zaf (G:=Zae kp63 [] []) 1000 [false] ⟨(atC (cd Tryz.f63) [1,1,1,0,1,0,0]),[(8,AV.ptr 0 0 0 0),(9,AV.ptr 1 0 0 0),(34,AV.vec true 4 [ratF r1,ratF r2,ratF r3]),(35,vi 3),(36,vi 2)],[⟨[zNqN6],4,0,false,false⟩,⟨[ratF q],4,0,false,false⟩,⟨[ratF r2],4,0,false,false⟩],_,[],_⟩ (by kernel_rfl) (bc (Zak (fun h=>d3 (Zac.1 h))) b0) q0 c0 (ZaA [0,1] (by kernel_rfl) H)
noncomputable abbrev zNqN7:=ag [vb false,AV.vnil,vb false,AV.vnil]
theorem qSeg2 (q r1 r2 r3:Rat)  (dq:AV) (H :
  (N.okR r3/\N.okR q) /\
  ((N.sgnI (r3.num*(↑q.den:Int)-q.num*(↑r3.den:Int))<0)->ZeY r3 r1 r2 r3 (Zag dq)) /\
  (¬(N.sgnI (r3.num*(↑q.den:Int)-q.num*(↑r3.den:Int))<0)->ZeY q r1 r2 r3 (Zag dq))) :
 ZeZ q r1 r2 r3 (Zag dq):=by
 unfold ZeZ
 obtain ⟨k1,H⟩:=H
 refine Zaf (G:=Zae kp63 [(7,2,.call (vi (N.sgnI (r3.num*(↑q.den:Int)-q.num*(↑r3.den:Int)))) none)] []) 11 [true] ⟨(atC (cd Tryz.f63) [1,1,1,0,1,0,0,1,1,0,0,1,1]),[(8,AV.ptr 0 0 0 0),(9,AV.ptr 1 0 0 0),(11,AV.ptr 2 0 0 0),(34,AV.vec true 4 [ratF r1,ratF r2,ratF r3]),(35,vi 3),(36,vi 2),(43,vb (decide (N.sgnI (r3.num*(↑q.den:Int)-q.num*(↑r3.den:Int))<0)))],[⟨[zNqN7],4,0,false,false⟩,⟨[ratF q],4,0,false,false⟩,⟨[ratF r3],4,0,false,false⟩],_,[],_⟩ (by kernel_rfl) (bc rfl (bc rfl (bc rfl (bc rfl (bc rfl (bc rfl b0)))))) q0 (ce (@ev62 false false false false r3 q k1) c0) ?_
 rcases xq H with ⟨d3,H⟩|⟨d3,H⟩
 ·exact Zaf (G:=Zae kp63 [] []) 1000 [true] ⟨(atC (cd Tryz.f63) [1,1,1,0,1,0,0]),[(8,AV.ptr 0 0 0 0),(9,AV.ptr 1 0 0 0),(34,AV.vec true 4 [ratF r1,ratF r2,ratF r3]),(35,vi 3),(36,vi 3)],[⟨[zNqN7],4,0,false,false⟩,⟨[ratF r3],4,0,false,false⟩,⟨[ratF r3],4,0,false,false⟩],_,[],_⟩ (by kernel_rfl) (bc (Zam (Zac.2 d3)) (bc rfl (bc rfl b0))) q0 c0 (ZaA [0,1] (by kernel_rfl) H)
 ·exact Zaf (G:=Zae kp63 [] []) 1000 [false] ⟨(atC (cd Tryz.f63) [1,1,1,0,1,0,0]),[(8,AV.ptr 0 0 0 0),(9,AV.ptr 1 0 0 0),(34,AV.vec true 4 [ratF r1,ratF r2,ratF r3]),(35,vi 3),(36,vi 3)],[⟨[zNqN7],4,0,false,false⟩,⟨[ratF q],4,0,false,false⟩,⟨[ratF r3],4,0,false,false⟩],_,[],_⟩ (by kernel_rfl) (bc (Zak (fun h=>d3 (Zac.1 h))) b0) q0 c0 (ZaA [0,1] (by kernel_rfl) H)
theorem qSeg3 (q r1 r2 r3:Rat)  (dq:AV) (H :
  Weak (ratF q) dq) :
 ZeY q r1 r2 r3 (Zag dq):=by
 unfold ZeY
 exact Zaj (G:=Zae kp63 [] []) 1000 [false] (ratF q) (by kernel_rfl) (bc rfl (bc rfl (bc rfl b0))) q0 c0 H
theorem qVal (f:Bool) (cs:List Bx) (u0 v0 u1 v1 th gp sf:Int)  (dq:AV) (H :
  ((((((¬(N.rct u0 v0 u1 v1))\/(¬(N.wth th 1)))\/(¬(N.wth gp 0)))\/(¬(N.wth sf 1)))\/((↑cs.length:Int)>50))->vi 1=dq) /\
  (¬(((((¬(N.rct u0 v0 u1 v1))\/(¬(N.wth th 1)))\/(¬(N.wth gp 0)))\/(¬(N.wth sf 1)))\/((↑cs.length:Int)>50))->ZeX f cs u0 v0 u1 v1 th gp sf ((↑cs.length:Int)) 0 (Zag dq))) :
 qVal_at f cs u0 v0 u1 v1 th gp sf (Zag dq):=by
 unfold qVal_at
 have w4:(List.map Bx.a cs).length=cs.length:=List.length_map ..
 have i5:(bif bif bif bif !decide (N.rct u0 v0 u1 v1) then true else !decide (N.wth th 1) then true else !decide (N.wth gp 0) then true else !decide (N.wth sf 1) then true else decide ((↑(List.map Bx.a cs).length:Int)>50))=true ↔ (((((¬(N.rct u0 v0 u1 v1))\/(¬(N.wth th 1)))\/(¬(N.wth gp 0)))\/(¬(N.wth sf 1)))\/((↑cs.length:Int)>50)):=(by (try rw [w4]);all_goals exact (ZbP (ZbP (ZbP (ZbP (Zbq Zac) (Zbq Zac)) (Zbq Zac)) (Zbq Zac)) Zac))
 refine Zaf (G:=Zae kp23 [(1,8,.call (vb (decide (N.rct u0 v0 u1 v1))) none),(1,13,.call (vb (decide (N.wth th 1))) none),(1,19,.call (vb (decide (N.wth gp 0))) none),(1,25,.call (vb (decide (N.wth sf 1))) none)] []) 5 [] ⟨(atC (cd Tryz.f23) [1,0,1]),[(1,AV.ptr 0 0 0 0),(38,vb (bif bif bif bif !decide (N.rct u0 v0 u1 v1) then true else !decide (N.wth th 1) then true else !decide (N.wth gp 0) then true else !decide (N.wth sf 1) then true else decide ((↑(List.map Bx.a cs).length:Int)>50)))],[⟨[ag [vi u0,vi v0,vi u1,vi v1,vi th,vi gp,AV.vec f 5 (List.map Bx.a cs),vi sf]],8,0,false,false⟩],[true,true,true,true,!((!decide (N.rct u0 v0 u1 v1))==false&&true)||true,!((bif !decide (N.rct u0 v0 u1 v1) then true else !decide (N.wth th 1))==false&&true)||true,!((bif bif !decide (N.rct u0 v0 u1 v1) then true else !decide (N.wth th 1) then true else !decide (N.wth gp 0))==false&&true)||true,!((bif bif bif !decide (N.rct u0 v0 u1 v1) then true else !decide (N.wth th 1) then true else !decide (N.wth gp 0) then true else !decide (N.wth sf 1))==false&&true)||true],[],[⟨true,false,51,[vi u0,vi v0,vi u1,vi v1],[],vb (decide (N.rct u0 v0 u1 v1)),[]⟩,⟨(!decide (N.rct u0 v0 u1 v1))==false&&true&&true,false,52,[vi th,vi 1],[],vb (decide (N.wth th 1)),[]⟩,⟨(bif !decide (N.rct u0 v0 u1 v1) then true else !decide (N.wth th 1))==false&&true&&true,false,52,[vi gp,vi 0],[],vb (decide (N.wth gp 0)),[]⟩,⟨(bif bif !decide (N.rct u0 v0 u1 v1) then true else !decide (N.wth th 1) then true else !decide (N.wth gp 0))==false&&true&&true,false,52,[vi sf,vi 1],[],vb (decide (N.wth sf 1)),[]⟩]⟩ (by kernel_rfl) (bc rfl (bc rfl (bc rfl (bc rfl (bc (Bool.or_true _) (bc (Bool.or_true _) (bc (Bool.or_true _) (bc (Bool.or_true _) b0)))))))) q0 (cc (fun _=>(@ev51 u0 v0 u1 v1)) (cc (fun hc=>((@ev52 th 1):Ev M1 (Conf.pure 52 [vi th,vi 1]) (vb (decide (N.wth th 1))) [])) (cc (fun hc=>((@ev52 gp 0):Ev M1 (Conf.pure 52 [vi gp,vi 0]) (vb (decide (N.wth gp 0))) [])) (cc (fun hc=>((@ev52 sf 1):Ev M1 (Conf.pure 52 [vi sf,vi 1]) (vb (decide (N.wth sf 1))) [])) c0)))) ?_
 rcases xq H with ⟨d6,H⟩|⟨d6,H⟩
 ·exact Zas (G:=Zae kp23 [] []) 1000 [true] (vi 1) (by kernel_rfl) (bc (Zam (i5.2 d6)) b0) q0 c0 H
 ·exact Zaf (G:=Zae kp23 [] []) 1000 [false] ⟨(atC (cd Tryz.f23) [1,1,0,1,0,0]),[(1,AV.ptr 0 0 0 0),(40,AV.vec f 5 (List.map Bx.a cs)),(41,vi (↑(List.map Bx.a cs).length:Int)),(42,vi 0)],[⟨[ag [vi u0,vi v0,vi u1,vi v1,vi th,vi gp,AV.vec f 5 (List.map Bx.a cs),vi sf]],8,0,false,false⟩],_,[],_⟩ (by kernel_rfl) (bc (Zak (fun h=>d6 (i5.1 h))) (bc rfl b0)) q0 c0 (by (try rw [w4]);all_goals exact H)
noncomputable abbrev zNqN8 (cs:List Bx) (i:Int):=N.rct (cs.getD i.toNat default).x0 (cs.getD i.toNat default).y0 (cs.getD i.toNat default).x1 (cs.getD i.toNat default).y1
noncomputable abbrev zNqN9 (cs:List Bx) (i:Int):=ag [vi (cs.getD i.toNat default).x0,vi (cs.getD i.toNat default).y0,vi (cs.getD i.toNat default).x1,vi (cs.getD i.toNat default).y1,vi (cs.getD i.toNat default).top]
noncomputable abbrev Zhs (cs:List Bx) (i:Int) (th:Int) (gp:Int):=N.wth (cs.getD i.toNat default).top (0-th-gp)
theorem qValL (f:Bool) (cs:List Bx) (u0 v0 u1 v1 th gp sf:Int) (n i:Int)  (dq:AV) (H :
  ((i<n)->(0<=i) /\
   (i.toNat<cs.length) /\
   ((¬(¬(N.rct (cs.getD i.toNat default).x0 (cs.getD i.toNat default).y0 (cs.getD i.toNat default).x1 (cs.getD i.toNat default).y1)))->(N.okTb th gp)) /\
   ((((¬(N.rct (cs.getD i.toNat default).x0 (cs.getD i.toNat default).y0 (cs.getD i.toNat default).x1 (cs.getD i.toNat default).y1))\/(¬(N.wth (cs.getD i.toNat default).top (0-th-gp))))\/((cs.getD i.toNat default).top>=sf))->vi 1=dq) /\
   (¬(((¬(N.rct (cs.getD i.toNat default).x0 (cs.getD i.toNat default).y0 (cs.getD i.toNat default).x1 (cs.getD i.toNat default).y1))\/(¬(N.wth (cs.getD i.toNat default).top (0-th-gp))))\/((cs.getD i.toNat default).top>=sf))->(-9223372036854775808<=i+1/\i+1<=9223372036854775807) /\
    ZeX f cs u0 v0 u1 v1 th gp sf n (i+1) (Zag dq))) /\
  (¬(i<n)->vi 0=dq)) :
 ZeX f cs u0 v0 u1 v1 th gp sf n i (Zag dq):=by
 unfold ZeX
 rcases xq H with ⟨d2,H⟩|⟨d2,H⟩
 ·obtain ⟨k4,H⟩:=H
  have w5:(List.map Bx.a cs).length=cs.length:=List.length_map ..
  have i6:(decide (i.toNat<(List.map Bx.a cs).length))=true ↔ (i.toNat<cs.length):=(by (try rw [w5]);all_goals exact Zac)
  obtain ⟨k7,k9,H⟩:=H
  refine Zaf (G:=Zae kp23 [(5,1,.elem ((zNqN9 cs i))),(6,8,.call (vb (decide (zNqN8 cs i))) none),(6,14,.call (vi (0-th-gp)) none),(6,15,.call (vb (decide (Zhs cs i th gp))) none)] []) 11 [true] ⟨(atC (cd Tryz.f23) [1,1,0,1,0,0,1,1,0,0,1,1]),[(1,AV.ptr 0 0 0 0),(40,AV.vec f 5 (List.map Bx.a cs)),(41,vi n),(42,vi i),(70,vb (bif bif !decide (zNqN8 cs i) then true else !decide (Zhs cs i th gp) then true else decide ((cs.getD i.toNat default).top>=sf)))],[⟨[ag [vi u0,vi v0,vi u1,vi v1,vi th,vi gp,AV.vec f 5 (List.map Bx.a cs),vi sf]],8,0,false,false⟩,⟨[(zNqN9 cs i)],5,0,false,false⟩],[(decide (i<n))==true,decide (0<=i),decide (i.toNat<(List.map Bx.a cs).length),true,true,true,true,true,!((!decide (zNqN8 cs i))==false&&true)||true,!((!decide (zNqN8 cs i))==false&&true)||true,!((bif !decide (zNqN8 cs i) then true else !decide (Zhs cs i th gp))==false&&true)||true,!((bif !decide (zNqN8 cs i) then true else !decide (Zhs cs i th gp))==false&&true)||true],[((List.map Bx.a cs).get?Internal i.toNat=some ((zNqN9 cs i)))],[⟨true,false,51,[vi (cs.getD i.toNat default).x0,vi (cs.getD i.toNat default).y0,vi (cs.getD i.toNat default).x1,vi (cs.getD i.toNat default).y1],[],vb (decide (zNqN8 cs i)),[]⟩,⟨(!decide (zNqN8 cs i))==false&&true&&true,false,53,[ag [vi u0,vi v0,vi u1,vi v1,vi th,vi gp,AV.vec f 5 (List.map Bx.a cs),vi sf]],[],vi (0-th-gp),[]⟩,⟨(!decide (zNqN8 cs i))==false&&true&&true,false,52,[vi (cs.getD i.toNat default).top,vi (0-th-gp)],[],vb (decide (Zhs cs i th gp)),[]⟩]⟩ (by kernel_rfl) (bc (Zam (Zac.2 d2)) (bc (Zac.2 k4) (bc (i6.2 k7) (bc rfl (bc rfl (bc rfl (bc rfl (bc rfl (bc (Bool.or_true _) (bc (Bool.or_true _) (bc (Bool.or_true _) (bc (Bool.or_true _) b0)))))))))))) (qc (Zat k7) q0) (cc (fun _=>(@ev51 ((cs.getD i.toNat default).x0) ((cs.getD i.toNat default).y0) ((cs.getD i.toNat default).x1) ((cs.getD i.toNat default).y1))) (cc (fun hc=>((@ev53 f cs u0 v0 u1 v1 th gp sf (k9 ((i_at (i_at (i_bf (Zbq Zac)))).1 hc))):Ev M1 (Conf.pure 53 [ag [vi u0,vi v0,vi u1,vi v1,vi th,vi gp,AV.vec f 5 (List.map Bx.a cs),vi sf]]) (vi (0-th-gp)) [])) (cc (fun hc=>((@ev52 ((cs.getD i.toNat default).top) (0-th-gp)):Ev M1 (Conf.pure 52 [vi (cs.getD i.toNat default).top,vi (0-th-gp)]) (vb (decide (Zhs cs i th gp))) [])) c0))) ?_
  rcases xq H with ⟨d12,H⟩|⟨d12,H⟩
  ·exact Zas (G:=Zae kp23 [] []) 1000 [true] (vi 1) (by kernel_rfl) (bc (Zam ((ZbP (ZbP (Zbq Zac) (Zbq Zac)) Zac).2 d12)) b0) q0 c0 H
  ·obtain ⟨k13,H⟩:=H
   have w14:wi (i+1)=i+1:=wI64 k13
   exact Zaf (G:=Zae kp23 [] []) 1000 [false] ⟨(atC (cd Tryz.f23) [1,1,0,1,0,0]),[(1,AV.ptr 0 0 0 0),(40,AV.vec f 5 (List.map Bx.a cs)),(41,vi n),(42,vi (wi (i+1)))],[⟨[ag [vi u0,vi v0,vi u1,vi v1,vi th,vi gp,AV.vec f 5 (List.map Bx.a cs),vi sf]],8,0,false,false⟩,⟨[(zNqN9 cs i)],5,0,false,false⟩],_,[],_⟩ (by kernel_rfl) (bc (Zak (fun h=>d12 ((ZbP (ZbP (Zbq Zac) (Zbq Zac)) Zac).1 h))) b0) q0 c0 (by (try rw [w14]);all_goals exact ZaA [0] (by kernel_rfl) H)
 ·exact Zas (G:=Zae kp23 [] []) 1000 [false] (vi 0) (by kernel_rfl) (bc (Zak (fun h=>d2 (Zac.1 h))) b0) q0 c0 H
theorem qValR (f:Bool) (cs:List Bx) (u0 v0 u1 v1 th gp sf:Int)  (dq:AV) (H :
  ZdQ f cs u0 v0 u1 v1 th gp sf (bif bif bif bif decide (N.rct u0 v0 u1 v1) then decide (N.wth th 1) else false then decide (N.wth gp 0) else false then decide ((↑cs.length:Int)<=50) else false then decide (N.wth sf 1) else false) 0 (Zag dq)) :
 qValR_at f cs u0 v0 u1 v1 th gp sf (Zag dq):=by
 unfold qValR_at
 have w3:(List.map Bx.a cs).length=cs.length:=List.length_map ..
 have i4:((bif bif bif decide (N.rct u0 v0 u1 v1) then decide (N.wth th 1) else false then decide (N.wth gp 0) else false then decide ((↑(List.map Bx.a cs).length:Int)<=50) else false)==true&&true&&true)=true ↔ ((((N.rct u0 v0 u1 v1)/\(N.wth th 1))/\(N.wth gp 0))/\((↑cs.length:Int)<=50)):=(by (try rw [w3]);all_goals exact (i_at (i_at (i_bt (Za1 (Za1 (Za1 Zac Zac) Zac) Zac)))))
 exact Zaf (G:=Zae kp20 [(1,8,.call (vb (decide (N.rct u0 v0 u1 v1))) none),(1,12,.call (vb (decide (N.wth th 1))) none),(1,17,.call (vb (decide (N.wth gp 0))) none),(1,28,.call (vb (decide (N.wth sf 1))) none)] []) 1000 [] ⟨(atC (cd Tryz.f20) [1,1,0,1,0,0]),[(1,AV.ptr 0 0 0 0),(3,vb (bif bif bif bif decide (N.rct u0 v0 u1 v1) then decide (N.wth th 1) else false then decide (N.wth gp 0) else false then decide ((↑(List.map Bx.a cs).length:Int)<=50) else false then decide (N.wth sf 1) else false)),(4,vi 0)],[⟨[ag [vi u0,vi v0,vi u1,vi v1,vi th,vi gp,AV.vec f 5 (List.map Bx.a cs),vi sf]],8,0,false,false⟩],[true,true,true,true,!(decide (N.rct u0 v0 u1 v1)==true&&true)||true,!((bif decide (N.rct u0 v0 u1 v1) then decide (N.wth th 1) else false)==true&&true)||true,!((bif bif decide (N.rct u0 v0 u1 v1) then decide (N.wth th 1) else false then decide (N.wth gp 0) else false)==true&&true)||true,!((bif bif bif decide (N.rct u0 v0 u1 v1) then decide (N.wth th 1) else false then decide (N.wth gp 0) else false then decide ((↑(List.map Bx.a cs).length:Int)<=50) else false)==true&&true)||true],[],[⟨true,false,44,[vi u0,vi v0,vi u1,vi v1],[],vb (decide (N.rct u0 v0 u1 v1)),[]⟩,⟨decide (N.rct u0 v0 u1 v1)==true&&true&&true,false,45,[vi th,vi 1],[],vb (decide (N.wth th 1)),[]⟩,⟨(bif decide (N.rct u0 v0 u1 v1) then decide (N.wth th 1) else false)==true&&true&&true,false,45,[vi gp,vi 0],[],vb (decide (N.wth gp 0)),[]⟩,⟨(bif bif bif decide (N.rct u0 v0 u1 v1) then decide (N.wth th 1) else false then decide (N.wth gp 0) else false then decide ((↑(List.map Bx.a cs).length:Int)<=50) else false)==true&&true&&true,false,45,[vi sf,vi 1],[],vb (decide (N.wth sf 1)),[]⟩]⟩ (by kernel_rfl) (bc rfl (bc rfl (bc rfl (bc rfl (bc (Bool.or_true _) (bc (Bool.or_true _) (bc (Bool.or_true _) (bc (Bool.or_true _) b0)))))))) q0 (cc (fun _=>(@ev44 u0 v0 u1 v1)) (cc (fun hc=>((@ev45 th 1):Ev M1 (Conf.pure 45 [vi th,vi 1]) (vb (decide (N.wth th 1))) [])) (cc (fun hc=>((@ev45 gp 0):Ev M1 (Conf.pure 45 [vi gp,vi 0]) (vb (decide (N.wth gp 0))) [])) (cc (fun hc=>((@ev45 sf 1):Ev M1 (Conf.pure 45 [vi sf,vi 1]) (vb (decide (N.wth sf 1))) [])) c0)))) (by (try rw [w3]);all_goals exact H)
noncomputable abbrev ZeI (cs:List Bx) (i:Int):=N.rct (cs.getD i.toNat default).x0 (cs.getD i.toNat default).y0 (cs.getD i.toNat default).x1 (cs.getD i.toNat default).y1
noncomputable abbrev zNqN12 (cs:List Bx) (i:Int):=ag [vi (cs.getD i.toNat default).x0,vi (cs.getD i.toNat default).y0,vi (cs.getD i.toNat default).x1,vi (cs.getD i.toNat default).y1,vi (cs.getD i.toNat default).top]
noncomputable abbrev Zhr (cs:List Bx) (i:Int) (th:Int) (gp:Int):=N.wth (cs.getD i.toNat default).top (0-th-gp)
theorem qValRL (f:Bool) (cs:List Bx) (u0 v0 u1 v1 th gp sf:Int) (ok:Bool) (i:Int)  (dq:AV) (H :
  (((i<(↑cs.length:Int))/\(ok=true))->(0<=i) /\
   (i.toNat<cs.length) /\
   (-9223372036854775808<=0-th/\0-th<=9223372036854775807) /\
   (-9223372036854775808<=0-th-gp/\0-th-gp<=9223372036854775807) /\
   (-9223372036854775808<=i+1/\i+1<=9223372036854775807) /\
   ZdQ f cs u0 v0 u1 v1 th gp sf (bif bif decide (N.rct (cs.getD i.toNat default).x0 (cs.getD i.toNat default).y0 (cs.getD i.toNat default).x1 (cs.getD i.toNat default).y1) then decide (N.wth (cs.getD i.toNat default).top (0-th-gp)) else false then decide ((cs.getD i.toNat default).top<sf) else false) (i+1) (Zag dq)) /\
  (¬((i<(↑cs.length:Int))/\(ok=true))->((¬(ok=true))->vi 1=dq) /\
   (¬(¬(ok=true))->vi 0=dq))) :
 ZdQ f cs u0 v0 u1 v1 th gp sf ok i (Zag dq):=by
 unfold ZdQ
 have w1:(List.map Bx.a cs).length=cs.length:=List.length_map ..
 have i2:(bif decide (i<(↑(List.map Bx.a cs).length:Int)) then ok else false)=true ↔ ((i<(↑cs.length:Int))/\(ok=true)):=(by (try rw [w1]);all_goals exact (Za1 Zac (Zbu _)))
 rcases xq H with ⟨d3,H⟩|⟨d3,H⟩
 ·obtain ⟨k5,H⟩:=H
  have i6:(decide (i.toNat<(List.map Bx.a cs).length))=true ↔ (i.toNat<cs.length):=(by (try rw [w1]);all_goals exact Zac)
  obtain ⟨k7,k8,H⟩:=H
  have w9:wi (0-th)=0-th:=wI64 k8
  obtain ⟨k10,H⟩:=H
  have w11:wi (0-th-gp)=0-th-gp:=wI64 k10
  obtain ⟨k13,H⟩:=H
  have w14:wi (i+1)=i+1:=wI64 k13
  exact Zaf (G:=Zae kp20 [(5,4,.elem ((zNqN12 cs i))),(6,8,.call (vb (decide (ZeI cs i))) none),(6,18,.call (vb (decide (Zhr cs i th gp))) none)] []) 1000 [true] ⟨(atC (cd Tryz.f20) [1,1,0,1,0,0]),[(1,AV.ptr 0 0 0 0),(3,vb (bif bif decide (ZeI cs i) then decide (Zhr cs i th gp) else false then decide ((cs.getD i.toNat default).top<sf) else false)),(4,vi (wi (i+1)))],[⟨[ag [vi u0,vi v0,vi u1,vi v1,vi th,vi gp,AV.vec f 5 (List.map Bx.a cs),vi sf]],8,0,false,false⟩,⟨[(zNqN12 cs i)],5,0,false,false⟩],[true,(bif decide (i<(↑(List.map Bx.a cs).length:Int)) then ok else false)==true,true,decide (0<=i),decide (i.toNat<(List.map Bx.a cs).length),true,true,true,true,true,!(decide (ZeI cs i)==true&&true)||true,!(decide (ZeI cs i)==true&&true)||true,!(decide (ZeI cs i)==true&&true)||true,!((bif decide (ZeI cs i) then decide (Zhr cs i th gp) else false)==true&&true)||true,!((bif decide (ZeI cs i) then decide (Zhr cs i th gp) else false)==true&&true)||true],[((List.map Bx.a cs).get?Internal i.toNat=some ((zNqN12 cs i)))],[⟨true,false,44,[vi (cs.getD i.toNat default).x0,vi (cs.getD i.toNat default).y0,vi (cs.getD i.toNat default).x1,vi (cs.getD i.toNat default).y1],[],vb (decide (ZeI cs i)),[]⟩,⟨decide (ZeI cs i)==true&&true&&true,false,45,[vi (cs.getD i.toNat default).top,vi (wi (wi (0-th)-gp))],[],vb (decide (Zhr cs i th gp)),[]⟩]⟩ (by kernel_rfl) (bc rfl (bc (Zam (i2.2 d3)) (bc rfl (bc (Zac.2 k5) (bc (i6.2 k7) (bc rfl (bc rfl (bc rfl (bc rfl (bc rfl (bc (Bool.or_true _) (bc (Bool.or_true _) (bc (Bool.or_true _) (bc (Bool.or_true _) (bc (Bool.or_true _) b0))))))))))))))) (qc (Zat k7) q0) (cc (fun _=>(@ev44 ((cs.getD i.toNat default).x0) ((cs.getD i.toNat default).y0) ((cs.getD i.toNat default).x1) ((cs.getD i.toNat default).y1))) (cc (fun hc=>((by (try rw [w9]);(try rw [w11]);all_goals exact (@ev45 ((cs.getD i.toNat default).top) (0-th-gp))):Ev M1 (Conf.pure 45 [vi (cs.getD i.toNat default).top,vi (wi (wi (0-th)-gp))]) (vb (decide (Zhr cs i th gp))) [])) c0)) (by (try rw [w14]);all_goals exact ZaA [0] (by kernel_rfl) H)
 ·rcases xq H with ⟨d16,H⟩|⟨d16,H⟩
  ·exact Zas (G:=Zae kp20 [] []) 1000 [false,true] (asm:=[true,(bif decide (i<(↑(List.map Bx.a cs).length:Int)) then ok else false)==false,(!ok)==true]) (vi 1) (by kernel_rfl) (bc rfl (bc (Zak (fun h=>d3 (i2.1 h))) (bc (Zam ((Zbq (Zbu _)).2 d16)) b0))) q0 c0 H
  ·exact Zas (G:=Zae kp20 [] []) 1000 [false,false] (asm:=[true,(bif decide (i<(↑(List.map Bx.a cs).length:Int)) then ok else false)==false,(!ok)==false]) (vi 0) (by kernel_rfl) (bc rfl (bc (Zak (fun h=>d3 (i2.1 h))) (bc (Zak (fun h=>d16 ((Zbq (Zbu _)).1 h))) b0))) q0 c0 H
end Go.Av

namespace Go.Av
open Go.Proofs
namespace N
noncomputable def mn (r q:Rat):Rat:=if r<q then r else q
noncomputable def seg (x1 y1 x2 y2 x3 y3 x4 y4:Rat):Rat:=
 if crs x1 y1 x2 y2 x3 y3 x4 y4 then qi 0 else mn (tsg x3 y3 x4 y4 x2 y2) (mn (tsg x3 y3 x4 y4 x1 y1) (mn (tsg x1 y1 x2 y2 x4 y4) (tsg x1 y1 x2 y2 x3 y3)))
def vaC (th gp sf:Int) (c:Bx):Prop:=rct c.x0 c.y0 c.x1 c.y1/\wth c.top (0-th-gp)/\c.top<sf
def vaP (cs:List Bx) (u0 v0 u1 v1 th gp sf:Int):Prop:=rct u0 v0 u1 v1/\wth th 1/\wth gp 0/\wth sf 1/\cs.length<=50 /\ ∀ c ∈ cs,vaC th gp sf c
open Classical in
noncomputable def vaE (cs:List Bx) (u0 v0 u1 v1 th gp sf:Int):Int:=if vaP cs u0 v0 u1 v1 th gp sf then 0 else 1
end N
theorem ZhO {k:Nat} {r q:Rat} (h:N.okT k r) (h2:N.okT k q):N.okT k (N.mn r q):=by
 unfold N.mn
 split
 ·exact h
 ·exact h2
theorem mn_y {r q:Rat} (h:N.sgnI (r.num*(q.den:Int)-q.num*(r.den:Int))<0):N.mn r q=r:=if_pos (Zcu.1 h)
theorem mn_n {r q:Rat} (h:¬N.sgnI (r.num*(q.den:Int)-q.num*(r.den:Int))<0):N.mn r q=q:=if_neg fun x=>h (Zcu.2 x)
theorem seg_loop {q r1 r2 r3:Rat} (h:N.okT 400 q) (h1:N.okT 400 r1) (h2:N.okT 400 r2) (h3:N.okT 400 r3):Zf0 q r1 r2 r3 (Zag (ratF (N.mn r3 (N.mn r2 (N.mn r1 q))))):=by
 have R {r:Rat} (h:N.okT 400 r):N.okR r:=Za3 h (by omega)
 have s3:∀ q,ZeY q r1 r2 r3 (Zag (ratF q)):=fun q=>qSeg3 _ _ _ _ _ (.refl _)
 have s2:∀ q,N.okT 400 q->ZeZ q r1 r2 r3 (Zag (ratF (N.mn r3 q))):=fun q hq=>qSeg2 _ _ _ _ _ ⟨⟨R h3,R hq⟩,fun k=>by rw [mn_y k];exact s3 _,fun k=>by rw [mn_n k];exact s3 _⟩
 have s1:∀ q,N.okT 400 q->Ze0 q r1 r2 r3 (Zag (ratF (N.mn r3 (N.mn r2 q)))):=fun q hq=>qSeg1 _ _ _ _ _ ⟨⟨R h2,R hq⟩,fun k=>by rw [mn_y k];exact s2 _ h2,fun k=>by rw [mn_n k];exact s2 _ hq⟩
 exact qSeg0 _ _ _ _ _ ⟨⟨R h1,R h⟩,fun k=>by rw [mn_y k];exact s1 _ h1,fun k=>by rw [mn_n k];exact s1 _ h⟩
theorem ZbY {x1 y1 x2 y2 x3 y3 x4 y4:Rat} (h:N.Zgz x1 y1 x2 y2 x3 y3 x4 y4):N.okT 400 (N.seg x1 y1 x2 y2 x3 y3 x4 y4):=by
 obtain ⟨h1,h2,h3,h4⟩:=h
 unfold N.seg
 split
 ·exact Zco (okT_int (by unfold N.inI;omega)) (by omega)
 ·exact ZhO (Zcs h3 h4 h2) (ZhO (Zcs h3 h4 h1) (ZhO (Zcs h1 h2 h4) (Zcs h1 h2 h3)))
theorem ev63 (f1 f2 f3 f4 f5 f6 f7 f8 f9 f10 f11 f12 f13 f14 f15 f16:Bool) (x1 y1 x2 y2 x3 y3 x4 y4:Rat) (h:N.Zgz x1 y1 x2 y2 x3 y3 x4 y4):Ev M1 (.pure 63 [vecA f1 f2 f3 f4 x1 y1,vecA f5 f6 f7 f8 x2 y2,vecA f9 f10 f11 f12 x3 y3,vecA f13 f14 f15 f16 x4 y4]) (ratF (N.seg x1 y1 x2 y2 x3 y3 x4 y4)) []:=by
 have h0:=h
 obtain ⟨h1,h2,h3,h4⟩:=h
 refine call63 (qSeg _ _ _ _ _ _ _ _ _ _ _ _ _ _ _ _ _ _ _ _ _ _ _ _ _ ⟨h0,fun k=>⟨by unfold N.inI;omega,?_⟩,fun k=>⟨⟨h1,h2,h3⟩,⟨h1,h2,h4⟩,⟨h3,h4,h1⟩,⟨h3,h4,h2⟩,?_⟩⟩)
 ·unfold N.seg;rw [if_pos k];exact .refl _
 ·unfold N.seg;rw [if_neg k];exact seg_loop (Zcs h1 h2 h3) (Zcs h1 h2 h4) (Zcs h3 h4 h1) (Zcs h3 h4 h2)
section
variable {f:Bool} {cs:List Bx} {u0 v0 u1 v1 th gp sf:Int}
theorem va_y (h:N.vaP cs u0 v0 u1 v1 th gp sf):N.vaE cs u0 v0 u1 v1 th gp sf=0:=if_pos h
theorem va_n (h:¬N.vaP cs u0 v0 u1 v1 th gp sf):N.vaE cs u0 v0 u1 v1 th gp sf=1:=if_neg h
theorem val_loop (h:N.rct u0 v0 u1 v1/\N.wth th 1/\N.wth gp 0/\N.wth sf 1/\cs.length<=50) (m:Nat):∀ i:Nat,i+m=cs.length->(∀ j,j<i->N.vaC th gp sf (cs.getD j default))->ZeX f cs u0 v0 u1 v1 th gp sf cs.length i (Zag (.int .i64 (N.vaE cs u0 v0 u1 v1 th gp sf))):=by
 obtain ⟨h1,h2,h3,h4,h5⟩:=h
 have tb:N.okTb th gp:=by unfold N.wth at h2 h3;unfold N.okTb N.inI;omega
 induction m with
 | zero =>
  intro i e hj
  refine qValL _ _ _ _ _ _ _ _ _ _ _ _ ⟨fun x=>by omega,fun _ => ?_⟩
  rw [va_y ⟨h1,h2,h3,h4,h5,fun c hc=>by
   obtain ⟨j,hj2,rfl⟩:=List.mem_iff_getElem.1 hc
   have:=hj j (by omega)
   rwa [List.getD_eq_getElem?_getD,List.getElem?_eq_getElem hj2,Option.getD_some] at this⟩]
 | succ m ih =>
  intro i e hj
  have hi:i<cs.length:=by omega
  refine qValL _ _ _ _ _ _ _ _ _ _ _ _ ⟨fun x => ?_,fun x=>by omega⟩
  rw [Int.toNat_natCast,show (i:Int)+1=((i+1:Nat):Int) by omega]
  refine ⟨by omega,hi,fun _=>tb,fun bad => ?_,fun ok=>⟨by omega,ih (i+1) (by omega) (ZgB hj ?_)⟩⟩
  ·rw [va_n fun v => ?_]
   have:=v.2.2.2.2.2 _ (Zfa hi)
   rcases bad with (b | b) | b
   ·exact b this.1
   ·exact b this.2.1
   ·have:=this.2.2;omega
  ·exact ⟨Classical.not_not.1 fun x=>ok (.inl (.inl x)),Classical.not_not.1 fun x=>ok (.inl (.inr x)),by omega⟩
theorem valR_loop (hN:cs.length<=1000) (m:Nat):∀ (i:Nat) (ok:Bool),i+m=cs.length->(ok=true ↔ (N.rct u0 v0 u1 v1/\N.wth th 1/\N.wth gp 0/\N.wth sf 1/\cs.length<=50) /\ ∀ j,j<i->N.vaC th gp sf (cs.getD j default))->ZdQ f cs u0 v0 u1 v1 th gp sf ok i (Zag (.int .i64 (N.vaE cs u0 v0 u1 v1 th gp sf))):=by
 have no:∀ i:Nat,¬((N.rct u0 v0 u1 v1/\N.wth th 1/\N.wth gp 0/\N.wth sf 1/\cs.length<=50) /\ ∀ j,j<i->N.vaC th gp sf (cs.getD j default))->i<=cs.length->N.vaE cs u0 v0 u1 v1 th gp sf=1:=fun i h hi=>va_n fun v=>h ⟨⟨v.1,v.2.1,v.2.2.1,v.2.2.2.1,v.2.2.2.2.1⟩,fun j hj=>v.2.2.2.2.2 _ (Zfa (by omega))⟩
 induction m with
 | zero =>
  intro i ok e hok
  refine qValRL _ _ _ _ _ _ _ _ _ _ _ _ ⟨fun x=>by omega,fun _=>⟨fun k => ?_,fun k => ?_⟩⟩
  ·rw [no i (fun x=>k (hok.2 x)) (by omega)]
  ·obtain ⟨⟨h1,h2,h3,h4,h5⟩,hj⟩:=hok.1 (Classical.not_not.1 k)
   rw [va_y ⟨h1,h2,h3,h4,h5,fun c hc=>by
    obtain ⟨j,hj2,rfl⟩:=List.mem_iff_getElem.1 hc
    have:=hj j (by omega)
    rwa [List.getD_eq_getElem?_getD,List.getElem?_eq_getElem hj2,Option.getD_some] at this⟩]
 | succ m ih =>
  intro i ok e hok
  have hi:i<cs.length:=by omega
  cases ok with
  | false =>
   refine qValRL _ _ _ _ _ _ _ _ _ _ _ _ ⟨fun x=>absurd x.2 (by decide),fun _=>⟨fun k => ?_,fun k=>absurd (by decide) k⟩⟩
   rw [no i (fun x=>absurd (hok.2 x) (by decide)) (by omega)]
  | true =>
   obtain ⟨H,hj⟩:=hok.1 rfl
   have b1:=H.2.1
   have b2:=H.2.2.1
   unfold N.wth at b1 b2
   refine qValRL _ _ _ _ _ _ _ _ _ _ _ _ ⟨fun x => ?_,fun x=>absurd ⟨by omega,rfl⟩ x⟩
   rw [Int.toNat_natCast,show (i:Int)+1=((i+1:Nat):Int) by omega,Za7,Za7]
   refine ⟨by omega,hi,by omega,by omega,by omega,ih (i+1) _ (by omega) ?_⟩
   rw [decide_eq_true_iff]
   constructor
   ·rintro ⟨⟨a,b⟩,c⟩;exact ⟨H,ZgB hj ⟨a,b,c⟩⟩
   ·rintro ⟨_,k⟩;have:=k i (by omega);exact ⟨⟨this.1,this.2.1⟩,this.2.2⟩
end
theorem ev23 (f:Bool) (cs:List Bx) (u0 v0 u1 v1 th gp sf:Int):Ev M1 (.pure 23 [.agg [.int .i64 u0,.int .i64 v0,.int .i64 u1,.int .i64 v1,.int .i64 th,.int .i64 gp,.vec f 5 (cs.map Bx.a),.int .i64 sf]]) (.int .i64 (N.vaE cs u0 v0 u1 v1 th gp sf)) []:=by
 refine call23 (qVal _ _ _ _ _ _ _ _ _ _ ⟨fun k => ?_,fun k => ?_⟩)
 ·rw [va_n fun v => ?_]
  rcases k with (((k | k) | k) | k) | k
  ·exact k v.1
  ·exact k v.2.1
  ·exact k v.2.2.1
  ·exact k v.2.2.2.1
  ·have:=v.2.2.2.2.1;omega
 ·exact val_loop ⟨Classical.not_not.1 fun x=>k (.inl (.inl (.inl (.inl x)))),Classical.not_not.1 fun x=>k (.inl (.inl (.inl (.inr x)))),Classical.not_not.1 fun x=>k (.inl (.inl (.inr x))),Classical.not_not.1 fun x=>k (.inl (.inr x)),by omega⟩ cs.length 0 (by omega) (fun j h=>absurd h (Nat.not_lt_zero j))
theorem ev20 (f:Bool) (cs:List Bx) (u0 v0 u1 v1 th gp sf:Int) (h:cs.length<=1000):Ev M1 (.pure 20 [.agg [.int .i64 u0,.int .i64 v0,.int .i64 u1,.int .i64 v1,.int .i64 th,.int .i64 gp,.vec f 5 (cs.map Bx.a),.int .i64 sf]]) (.int .i64 (N.vaE cs u0 v0 u1 v1 th gp sf)) []:=by
 refine call20 (qValR _ _ _ _ _ _ _ _ _ _ (valR_loop h cs.length 0 _ (by omega) ?_))
 rw [Za7,Za7,Za7,Za7,decide_eq_true_iff]
 constructor
 ·rintro ⟨⟨⟨⟨a,b⟩,c⟩,d⟩,e⟩;exact ⟨⟨a,b,c,e,by omega⟩,fun j h=>absurd h (Nat.not_lt_zero j)⟩
 ·rintro ⟨⟨a,b,c,d,e⟩,_⟩;exact ⟨⟨⟨⟨a,b⟩,c⟩,by omega⟩,d⟩
end Go.Av

namespace Go.Av
open Go.Proofs
set_option maxRecDepth 100000
def fi46:Fi:=⟨82,[.tmp 8]⟩
def kp46:List (Nat × List Nat):=[(0,[3,4,5,6]),(1,[3,4,5,6,16]),(2,[8]),(3,[3,4,5,6,24]),(4,[8]),(5,[4,5,6,9]),(6,[4,5,6,9]),(7,[4,9,10,11]),(8,[9,10,11,12]),(9,[9,10,11,12,61,62,63]),(10,[9,10,11,12,61,62,63,64]),(11,[9,10,11,12,13,14,61,62,63]),(12,[9,10,11,12,61,62,63,80]),(13,[8]),(14,[9,10,11,12,61,62,63]),(15,[8])]
def qNe_at (x0 y0 x1 y1 tp ax ay bx by_ r:Int) (Q:AV->Heap->Prop):Prop:=Wp M1 (.run fi46 (atC (cd Tryz.f46) []) [(0,.agg [.int .i64 x0,.int .i64 y0,.int .i64 x1,.int .i64 y1,.int .i64 tp]),(1,.agg [.int .i64 ax,.int .i64 ay]),(2,.agg [.int .i64 bx,.int .i64 by_]),(3,.int .i64 r)] []) Q
def qNe0_at (u0 v0 u1 v1 a1 a2 b1 b2 m:Rat) (Q:AV->Heap->Prop):Prop:=Wp M1 (.run fi46 (atC (cd Tryz.f46) [1,1,1,1,1,1,1,0,1,0,0]) [(9,.ptr 0 0 0 0),(10,.ptr 1 0 0 0),(11,.ptr 2 0 0 0),(12,.vec true 8 [.agg [.bool (N.Zab u0.num),.vec false 1 ((N.Zad u0.num).map (.int .u32)),.bool (N.Zab (u0.den:Int)),.vec false 1 ((N.Zad (u0.den:Int)).map (.int .u32)),.bool (N.Zab v0.num),.vec false 1 ((N.Zad v0.num).map (.int .u32)),.bool (N.Zab (v0.den:Int)),.vec false 1 ((N.Zad (v0.den:Int)).map (.int .u32))],.agg [.bool (N.Zab u1.num),.vec false 1 ((N.Zad u1.num).map (.int .u32)),.bool (N.Zab (u1.den:Int)),.vec false 1 ((N.Zad (u1.den:Int)).map (.int .u32)),.bool (N.Zab v0.num),.vec false 1 ((N.Zad v0.num).map (.int .u32)),.bool (N.Zab (v0.den:Int)),.vec false 1 ((N.Zad (v0.den:Int)).map (.int .u32))],.agg [.bool (N.Zab u1.num),.vec false 1 ((N.Zad u1.num).map (.int .u32)),.bool (N.Zab (u1.den:Int)),.vec false 1 ((N.Zad (u1.den:Int)).map (.int .u32)),.bool (N.Zab v1.num),.vec false 1 ((N.Zad v1.num).map (.int .u32)),.bool (N.Zab (v1.den:Int)),.vec false 1 ((N.Zad (v1.den:Int)).map (.int .u32))],.agg [.bool (N.Zab u0.num),.vec false 1 ((N.Zad u0.num).map (.int .u32)),.bool (N.Zab (u0.den:Int)),.vec false 1 ((N.Zad (u0.den:Int)).map (.int .u32)),.bool (N.Zab v1.num),.vec false 1 ((N.Zad v1.num).map (.int .u32)),.bool (N.Zab (v1.den:Int)),.vec false 1 ((N.Zad (v1.den:Int)).map (.int .u32))]]),(61,.vec true 8 [.agg [.bool (N.Zab u0.num),.vec false 1 ((N.Zad u0.num).map (.int .u32)),.bool (N.Zab (u0.den:Int)),.vec false 1 ((N.Zad (u0.den:Int)).map (.int .u32)),.bool (N.Zab v0.num),.vec false 1 ((N.Zad v0.num).map (.int .u32)),.bool (N.Zab (v0.den:Int)),.vec false 1 ((N.Zad (v0.den:Int)).map (.int .u32))],.agg [.bool (N.Zab u1.num),.vec false 1 ((N.Zad u1.num).map (.int .u32)),.bool (N.Zab (u1.den:Int)),.vec false 1 ((N.Zad (u1.den:Int)).map (.int .u32)),.bool (N.Zab v0.num),.vec false 1 ((N.Zad v0.num).map (.int .u32)),.bool (N.Zab (v0.den:Int)),.vec false 1 ((N.Zad (v0.den:Int)).map (.int .u32))],.agg [.bool (N.Zab u1.num),.vec false 1 ((N.Zad u1.num).map (.int .u32)),.bool (N.Zab (u1.den:Int)),.vec false 1 ((N.Zad (u1.den:Int)).map (.int .u32)),.bool (N.Zab v1.num),.vec false 1 ((N.Zad v1.num).map (.int .u32)),.bool (N.Zab (v1.den:Int)),.vec false 1 ((N.Zad (v1.den:Int)).map (.int .u32))],.agg [.bool (N.Zab u0.num),.vec false 1 ((N.Zad u0.num).map (.int .u32)),.bool (N.Zab (u0.den:Int)),.vec false 1 ((N.Zad (u0.den:Int)).map (.int .u32)),.bool (N.Zab v1.num),.vec false 1 ((N.Zad v1.num).map (.int .u32)),.bool (N.Zab (v1.den:Int)),.vec false 1 ((N.Zad (v1.den:Int)).map (.int .u32))]]),(62,.int .i64 4),(63,.int .i64 0)] [⟨[ratF m],4,0,false,false⟩,⟨[.agg [.bool (N.Zab a1.num),.vec false 1 ((N.Zad a1.num).map (.int .u32)),.bool (N.Zab (a1.den:Int)),.vec false 1 ((N.Zad (a1.den:Int)).map (.int .u32)),.bool (N.Zab a2.num),.vec false 1 ((N.Zad a2.num).map (.int .u32)),.bool (N.Zab (a2.den:Int)),.vec false 1 ((N.Zad (a2.den:Int)).map (.int .u32))]],8,0,false,false⟩,⟨[.agg [.bool (N.Zab b1.num),.vec false 1 ((N.Zad b1.num).map (.int .u32)),.bool (N.Zab (b1.den:Int)),.vec false 1 ((N.Zad (b1.den:Int)).map (.int .u32)),.bool (N.Zab b2.num),.vec false 1 ((N.Zad b2.num).map (.int .u32)),.bool (N.Zab (b2.den:Int)),.vec false 1 ((N.Zad (b2.den:Int)).map (.int .u32))]],8,0,false,false⟩]) Q
def qNe1_at (u0 v0 u1 v1 a1 a2 b1 b2 m:Rat) (Q:AV->Heap->Prop):Prop:=Wp M1 (.run fi46 (atC (cd Tryz.f46) [1,1,1,1,1,1,1,0,1,0,0]) [(9,.ptr 0 0 0 0),(10,.ptr 1 0 0 0),(11,.ptr 2 0 0 0),(12,.vec true 8 [.agg [.bool (N.Zab u0.num),.vec false 1 ((N.Zad u0.num).map (.int .u32)),.bool (N.Zab (u0.den:Int)),.vec false 1 ((N.Zad (u0.den:Int)).map (.int .u32)),.bool (N.Zab v0.num),.vec false 1 ((N.Zad v0.num).map (.int .u32)),.bool (N.Zab (v0.den:Int)),.vec false 1 ((N.Zad (v0.den:Int)).map (.int .u32))],.agg [.bool (N.Zab u1.num),.vec false 1 ((N.Zad u1.num).map (.int .u32)),.bool (N.Zab (u1.den:Int)),.vec false 1 ((N.Zad (u1.den:Int)).map (.int .u32)),.bool (N.Zab v0.num),.vec false 1 ((N.Zad v0.num).map (.int .u32)),.bool (N.Zab (v0.den:Int)),.vec false 1 ((N.Zad (v0.den:Int)).map (.int .u32))],.agg [.bool (N.Zab u1.num),.vec false 1 ((N.Zad u1.num).map (.int .u32)),.bool (N.Zab (u1.den:Int)),.vec false 1 ((N.Zad (u1.den:Int)).map (.int .u32)),.bool (N.Zab v1.num),.vec false 1 ((N.Zad v1.num).map (.int .u32)),.bool (N.Zab (v1.den:Int)),.vec false 1 ((N.Zad (v1.den:Int)).map (.int .u32))],.agg [.bool (N.Zab u0.num),.vec false 1 ((N.Zad u0.num).map (.int .u32)),.bool (N.Zab (u0.den:Int)),.vec false 1 ((N.Zad (u0.den:Int)).map (.int .u32)),.bool (N.Zab v1.num),.vec false 1 ((N.Zad v1.num).map (.int .u32)),.bool (N.Zab (v1.den:Int)),.vec false 1 ((N.Zad (v1.den:Int)).map (.int .u32))]]),(61,.vec true 8 [.agg [.bool (N.Zab u0.num),.vec false 1 ((N.Zad u0.num).map (.int .u32)),.bool (N.Zab (u0.den:Int)),.vec false 1 ((N.Zad (u0.den:Int)).map (.int .u32)),.bool (N.Zab v0.num),.vec false 1 ((N.Zad v0.num).map (.int .u32)),.bool (N.Zab (v0.den:Int)),.vec false 1 ((N.Zad (v0.den:Int)).map (.int .u32))],.agg [.bool (N.Zab u1.num),.vec false 1 ((N.Zad u1.num).map (.int .u32)),.bool (N.Zab (u1.den:Int)),.vec false 1 ((N.Zad (u1.den:Int)).map (.int .u32)),.bool (N.Zab v0.num),.vec false 1 ((N.Zad v0.num).map (.int .u32)),.bool (N.Zab (v0.den:Int)),.vec false 1 ((N.Zad (v0.den:Int)).map (.int .u32))],.agg [.bool (N.Zab u1.num),.vec false 1 ((N.Zad u1.num).map (.int .u32)),.bool (N.Zab (u1.den:Int)),.vec false 1 ((N.Zad (u1.den:Int)).map (.int .u32)),.bool (N.Zab v1.num),.vec false 1 ((N.Zad v1.num).map (.int .u32)),.bool (N.Zab (v1.den:Int)),.vec false 1 ((N.Zad (v1.den:Int)).map (.int .u32))],.agg [.bool (N.Zab u0.num),.vec false 1 ((N.Zad u0.num).map (.int .u32)),.bool (N.Zab (u0.den:Int)),.vec false 1 ((N.Zad (u0.den:Int)).map (.int .u32)),.bool (N.Zab v1.num),.vec false 1 ((N.Zad v1.num).map (.int .u32)),.bool (N.Zab (v1.den:Int)),.vec false 1 ((N.Zad (v1.den:Int)).map (.int .u32))]]),(62,.int .i64 4),(63,.int .i64 1)] [⟨[ratF m],4,0,false,false⟩,⟨[.agg [.bool (N.Zab a1.num),.vec false 1 ((N.Zad a1.num).map (.int .u32)),.bool (N.Zab (a1.den:Int)),.vec false 1 ((N.Zad (a1.den:Int)).map (.int .u32)),.bool (N.Zab a2.num),.vec false 1 ((N.Zad a2.num).map (.int .u32)),.bool (N.Zab (a2.den:Int)),.vec false 1 ((N.Zad (a2.den:Int)).map (.int .u32))]],8,0,false,false⟩,⟨[.agg [.bool (N.Zab b1.num),.vec false 1 ((N.Zad b1.num).map (.int .u32)),.bool (N.Zab (b1.den:Int)),.vec false 1 ((N.Zad (b1.den:Int)).map (.int .u32)),.bool (N.Zab b2.num),.vec false 1 ((N.Zad b2.num).map (.int .u32)),.bool (N.Zab (b2.den:Int)),.vec false 1 ((N.Zad (b2.den:Int)).map (.int .u32))]],8,0,false,false⟩]) Q
def qNe2_at (u0 v0 u1 v1 a1 a2 b1 b2 m:Rat) (Q:AV->Heap->Prop):Prop:=Wp M1 (.run fi46 (atC (cd Tryz.f46) [1,1,1,1,1,1,1,0,1,0,0]) [(9,.ptr 0 0 0 0),(10,.ptr 1 0 0 0),(11,.ptr 2 0 0 0),(12,.vec true 8 [.agg [.bool (N.Zab u0.num),.vec false 1 ((N.Zad u0.num).map (.int .u32)),.bool (N.Zab (u0.den:Int)),.vec false 1 ((N.Zad (u0.den:Int)).map (.int .u32)),.bool (N.Zab v0.num),.vec false 1 ((N.Zad v0.num).map (.int .u32)),.bool (N.Zab (v0.den:Int)),.vec false 1 ((N.Zad (v0.den:Int)).map (.int .u32))],.agg [.bool (N.Zab u1.num),.vec false 1 ((N.Zad u1.num).map (.int .u32)),.bool (N.Zab (u1.den:Int)),.vec false 1 ((N.Zad (u1.den:Int)).map (.int .u32)),.bool (N.Zab v0.num),.vec false 1 ((N.Zad v0.num).map (.int .u32)),.bool (N.Zab (v0.den:Int)),.vec false 1 ((N.Zad (v0.den:Int)).map (.int .u32))],.agg [.bool (N.Zab u1.num),.vec false 1 ((N.Zad u1.num).map (.int .u32)),.bool (N.Zab (u1.den:Int)),.vec false 1 ((N.Zad (u1.den:Int)).map (.int .u32)),.bool (N.Zab v1.num),.vec false 1 ((N.Zad v1.num).map (.int .u32)),.bool (N.Zab (v1.den:Int)),.vec false 1 ((N.Zad (v1.den:Int)).map (.int .u32))],.agg [.bool (N.Zab u0.num),.vec false 1 ((N.Zad u0.num).map (.int .u32)),.bool (N.Zab (u0.den:Int)),.vec false 1 ((N.Zad (u0.den:Int)).map (.int .u32)),.bool (N.Zab v1.num),.vec false 1 ((N.Zad v1.num).map (.int .u32)),.bool (N.Zab (v1.den:Int)),.vec false 1 ((N.Zad (v1.den:Int)).map (.int .u32))]]),(61,.vec true 8 [.agg [.bool (N.Zab u0.num),.vec false 1 ((N.Zad u0.num).map (.int .u32)),.bool (N.Zab (u0.den:Int)),.vec false 1 ((N.Zad (u0.den:Int)).map (.int .u32)),.bool (N.Zab v0.num),.vec false 1 ((N.Zad v0.num).map (.int .u32)),.bool (N.Zab (v0.den:Int)),.vec false 1 ((N.Zad (v0.den:Int)).map (.int .u32))],.agg [.bool (N.Zab u1.num),.vec false 1 ((N.Zad u1.num).map (.int .u32)),.bool (N.Zab (u1.den:Int)),.vec false 1 ((N.Zad (u1.den:Int)).map (.int .u32)),.bool (N.Zab v0.num),.vec false 1 ((N.Zad v0.num).map (.int .u32)),.bool (N.Zab (v0.den:Int)),.vec false 1 ((N.Zad (v0.den:Int)).map (.int .u32))],.agg [.bool (N.Zab u1.num),.vec false 1 ((N.Zad u1.num).map (.int .u32)),.bool (N.Zab (u1.den:Int)),.vec false 1 ((N.Zad (u1.den:Int)).map (.int .u32)),.bool (N.Zab v1.num),.vec false 1 ((N.Zad v1.num).map (.int .u32)),.bool (N.Zab (v1.den:Int)),.vec false 1 ((N.Zad (v1.den:Int)).map (.int .u32))],.agg [.bool (N.Zab u0.num),.vec false 1 ((N.Zad u0.num).map (.int .u32)),.bool (N.Zab (u0.den:Int)),.vec false 1 ((N.Zad (u0.den:Int)).map (.int .u32)),.bool (N.Zab v1.num),.vec false 1 ((N.Zad v1.num).map (.int .u32)),.bool (N.Zab (v1.den:Int)),.vec false 1 ((N.Zad (v1.den:Int)).map (.int .u32))]]),(62,.int .i64 4),(63,.int .i64 2)] [⟨[ratF m],4,0,false,false⟩,⟨[.agg [.bool (N.Zab a1.num),.vec false 1 ((N.Zad a1.num).map (.int .u32)),.bool (N.Zab (a1.den:Int)),.vec false 1 ((N.Zad (a1.den:Int)).map (.int .u32)),.bool (N.Zab a2.num),.vec false 1 ((N.Zad a2.num).map (.int .u32)),.bool (N.Zab (a2.den:Int)),.vec false 1 ((N.Zad (a2.den:Int)).map (.int .u32))]],8,0,false,false⟩,⟨[.agg [.bool (N.Zab b1.num),.vec false 1 ((N.Zad b1.num).map (.int .u32)),.bool (N.Zab (b1.den:Int)),.vec false 1 ((N.Zad (b1.den:Int)).map (.int .u32)),.bool (N.Zab b2.num),.vec false 1 ((N.Zad b2.num).map (.int .u32)),.bool (N.Zab (b2.den:Int)),.vec false 1 ((N.Zad (b2.den:Int)).map (.int .u32))]],8,0,false,false⟩]) Q
def qNe3_at (u0 v0 u1 v1 a1 a2 b1 b2 m:Rat) (Q:AV->Heap->Prop):Prop:=Wp M1 (.run fi46 (atC (cd Tryz.f46) [1,1,1,1,1,1,1,0,1,0,0]) [(9,.ptr 0 0 0 0),(10,.ptr 1 0 0 0),(11,.ptr 2 0 0 0),(12,.vec true 8 [.agg [.bool (N.Zab u0.num),.vec false 1 ((N.Zad u0.num).map (.int .u32)),.bool (N.Zab (u0.den:Int)),.vec false 1 ((N.Zad (u0.den:Int)).map (.int .u32)),.bool (N.Zab v0.num),.vec false 1 ((N.Zad v0.num).map (.int .u32)),.bool (N.Zab (v0.den:Int)),.vec false 1 ((N.Zad (v0.den:Int)).map (.int .u32))],.agg [.bool (N.Zab u1.num),.vec false 1 ((N.Zad u1.num).map (.int .u32)),.bool (N.Zab (u1.den:Int)),.vec false 1 ((N.Zad (u1.den:Int)).map (.int .u32)),.bool (N.Zab v0.num),.vec false 1 ((N.Zad v0.num).map (.int .u32)),.bool (N.Zab (v0.den:Int)),.vec false 1 ((N.Zad (v0.den:Int)).map (.int .u32))],.agg [.bool (N.Zab u1.num),.vec false 1 ((N.Zad u1.num).map (.int .u32)),.bool (N.Zab (u1.den:Int)),.vec false 1 ((N.Zad (u1.den:Int)).map (.int .u32)),.bool (N.Zab v1.num),.vec false 1 ((N.Zad v1.num).map (.int .u32)),.bool (N.Zab (v1.den:Int)),.vec false 1 ((N.Zad (v1.den:Int)).map (.int .u32))],.agg [.bool (N.Zab u0.num),.vec false 1 ((N.Zad u0.num).map (.int .u32)),.bool (N.Zab (u0.den:Int)),.vec false 1 ((N.Zad (u0.den:Int)).map (.int .u32)),.bool (N.Zab v1.num),.vec false 1 ((N.Zad v1.num).map (.int .u32)),.bool (N.Zab (v1.den:Int)),.vec false 1 ((N.Zad (v1.den:Int)).map (.int .u32))]]),(61,.vec true 8 [.agg [.bool (N.Zab u0.num),.vec false 1 ((N.Zad u0.num).map (.int .u32)),.bool (N.Zab (u0.den:Int)),.vec false 1 ((N.Zad (u0.den:Int)).map (.int .u32)),.bool (N.Zab v0.num),.vec false 1 ((N.Zad v0.num).map (.int .u32)),.bool (N.Zab (v0.den:Int)),.vec false 1 ((N.Zad (v0.den:Int)).map (.int .u32))],.agg [.bool (N.Zab u1.num),.vec false 1 ((N.Zad u1.num).map (.int .u32)),.bool (N.Zab (u1.den:Int)),.vec false 1 ((N.Zad (u1.den:Int)).map (.int .u32)),.bool (N.Zab v0.num),.vec false 1 ((N.Zad v0.num).map (.int .u32)),.bool (N.Zab (v0.den:Int)),.vec false 1 ((N.Zad (v0.den:Int)).map (.int .u32))],.agg [.bool (N.Zab u1.num),.vec false 1 ((N.Zad u1.num).map (.int .u32)),.bool (N.Zab (u1.den:Int)),.vec false 1 ((N.Zad (u1.den:Int)).map (.int .u32)),.bool (N.Zab v1.num),.vec false 1 ((N.Zad v1.num).map (.int .u32)),.bool (N.Zab (v1.den:Int)),.vec false 1 ((N.Zad (v1.den:Int)).map (.int .u32))],.agg [.bool (N.Zab u0.num),.vec false 1 ((N.Zad u0.num).map (.int .u32)),.bool (N.Zab (u0.den:Int)),.vec false 1 ((N.Zad (u0.den:Int)).map (.int .u32)),.bool (N.Zab v1.num),.vec false 1 ((N.Zad v1.num).map (.int .u32)),.bool (N.Zab (v1.den:Int)),.vec false 1 ((N.Zad (v1.den:Int)).map (.int .u32))]]),(62,.int .i64 4),(63,.int .i64 3)] [⟨[ratF m],4,0,false,false⟩,⟨[.agg [.bool (N.Zab a1.num),.vec false 1 ((N.Zad a1.num).map (.int .u32)),.bool (N.Zab (a1.den:Int)),.vec false 1 ((N.Zad (a1.den:Int)).map (.int .u32)),.bool (N.Zab a2.num),.vec false 1 ((N.Zad a2.num).map (.int .u32)),.bool (N.Zab (a2.den:Int)),.vec false 1 ((N.Zad (a2.den:Int)).map (.int .u32))]],8,0,false,false⟩,⟨[.agg [.bool (N.Zab b1.num),.vec false 1 ((N.Zad b1.num).map (.int .u32)),.bool (N.Zab (b1.den:Int)),.vec false 1 ((N.Zad (b1.den:Int)).map (.int .u32)),.bool (N.Zab b2.num),.vec false 1 ((N.Zad b2.num).map (.int .u32)),.bool (N.Zab (b2.den:Int)),.vec false 1 ((N.Zad (b2.den:Int)).map (.int .u32))]],8,0,false,false⟩]) Q
def qNe4_at (u0 v0 u1 v1 a1 a2 b1 b2 m:Rat) (Q:AV->Heap->Prop):Prop:=Wp M1 (.run fi46 (atC (cd Tryz.f46) [1,1,1,1,1,1,1,0,1,0,0]) [(9,.ptr 0 0 0 0),(10,.ptr 1 0 0 0),(11,.ptr 2 0 0 0),(12,.vec true 8 [.agg [.bool (N.Zab u0.num),.vec false 1 ((N.Zad u0.num).map (.int .u32)),.bool (N.Zab (u0.den:Int)),.vec false 1 ((N.Zad (u0.den:Int)).map (.int .u32)),.bool (N.Zab v0.num),.vec false 1 ((N.Zad v0.num).map (.int .u32)),.bool (N.Zab (v0.den:Int)),.vec false 1 ((N.Zad (v0.den:Int)).map (.int .u32))],.agg [.bool (N.Zab u1.num),.vec false 1 ((N.Zad u1.num).map (.int .u32)),.bool (N.Zab (u1.den:Int)),.vec false 1 ((N.Zad (u1.den:Int)).map (.int .u32)),.bool (N.Zab v0.num),.vec false 1 ((N.Zad v0.num).map (.int .u32)),.bool (N.Zab (v0.den:Int)),.vec false 1 ((N.Zad (v0.den:Int)).map (.int .u32))],.agg [.bool (N.Zab u1.num),.vec false 1 ((N.Zad u1.num).map (.int .u32)),.bool (N.Zab (u1.den:Int)),.vec false 1 ((N.Zad (u1.den:Int)).map (.int .u32)),.bool (N.Zab v1.num),.vec false 1 ((N.Zad v1.num).map (.int .u32)),.bool (N.Zab (v1.den:Int)),.vec false 1 ((N.Zad (v1.den:Int)).map (.int .u32))],.agg [.bool (N.Zab u0.num),.vec false 1 ((N.Zad u0.num).map (.int .u32)),.bool (N.Zab (u0.den:Int)),.vec false 1 ((N.Zad (u0.den:Int)).map (.int .u32)),.bool (N.Zab v1.num),.vec false 1 ((N.Zad v1.num).map (.int .u32)),.bool (N.Zab (v1.den:Int)),.vec false 1 ((N.Zad (v1.den:Int)).map (.int .u32))]]),(61,.vec true 8 [.agg [.bool (N.Zab u0.num),.vec false 1 ((N.Zad u0.num).map (.int .u32)),.bool (N.Zab (u0.den:Int)),.vec false 1 ((N.Zad (u0.den:Int)).map (.int .u32)),.bool (N.Zab v0.num),.vec false 1 ((N.Zad v0.num).map (.int .u32)),.bool (N.Zab (v0.den:Int)),.vec false 1 ((N.Zad (v0.den:Int)).map (.int .u32))],.agg [.bool (N.Zab u1.num),.vec false 1 ((N.Zad u1.num).map (.int .u32)),.bool (N.Zab (u1.den:Int)),.vec false 1 ((N.Zad (u1.den:Int)).map (.int .u32)),.bool (N.Zab v0.num),.vec false 1 ((N.Zad v0.num).map (.int .u32)),.bool (N.Zab (v0.den:Int)),.vec false 1 ((N.Zad (v0.den:Int)).map (.int .u32))],.agg [.bool (N.Zab u1.num),.vec false 1 ((N.Zad u1.num).map (.int .u32)),.bool (N.Zab (u1.den:Int)),.vec false 1 ((N.Zad (u1.den:Int)).map (.int .u32)),.bool (N.Zab v1.num),.vec false 1 ((N.Zad v1.num).map (.int .u32)),.bool (N.Zab (v1.den:Int)),.vec false 1 ((N.Zad (v1.den:Int)).map (.int .u32))],.agg [.bool (N.Zab u0.num),.vec false 1 ((N.Zad u0.num).map (.int .u32)),.bool (N.Zab (u0.den:Int)),.vec false 1 ((N.Zad (u0.den:Int)).map (.int .u32)),.bool (N.Zab v1.num),.vec false 1 ((N.Zad v1.num).map (.int .u32)),.bool (N.Zab (v1.den:Int)),.vec false 1 ((N.Zad (v1.den:Int)).map (.int .u32))]]),(62,.int .i64 4),(63,.int .i64 4)] [⟨[ratF m],4,0,false,false⟩,⟨[.agg [.bool (N.Zab a1.num),.vec false 1 ((N.Zad a1.num).map (.int .u32)),.bool (N.Zab (a1.den:Int)),.vec false 1 ((N.Zad (a1.den:Int)).map (.int .u32)),.bool (N.Zab a2.num),.vec false 1 ((N.Zad a2.num).map (.int .u32)),.bool (N.Zab (a2.den:Int)),.vec false 1 ((N.Zad (a2.den:Int)).map (.int .u32))]],8,0,false,false⟩,⟨[.agg [.bool (N.Zab b1.num),.vec false 1 ((N.Zad b1.num).map (.int .u32)),.bool (N.Zab (b1.den:Int)),.vec false 1 ((N.Zad (b1.den:Int)).map (.int .u32)),.bool (N.Zab b2.num),.vec false 1 ((N.Zad b2.num).map (.int .u32)),.bool (N.Zab (b2.den:Int)),.vec false 1 ((N.Zad (b2.den:Int)).map (.int .u32))]],8,0,false,false⟩]) Q
theorem call46 {args:List AV} {d:AV} (h:wc M1 fi46 Tryz.f46 args d):Ev M1 (.pure 46 args) d []:=pcl _ _ (by kernel_rfl) h
noncomputable abbrev zNqO1 (bx:Int) (by_:Int):=ag [vb (N.Zab (N.qi bx).num),vf (us (N.Zad (N.qi bx).num)),vb (N.Zab (↑(N.qi bx).den:Int)),vf (us (N.Zad (↑(N.qi bx).den:Int))),vb (N.Zab (N.qi by_).num),vf (us (N.Zad (N.qi by_).num)),vb (N.Zab (↑(N.qi by_).den:Int)),vf (us (N.Zad (↑(N.qi by_).den:Int)))]
noncomputable abbrev zNqO2 (ax:Int) (ay:Int):=ag [vb (N.Zab (N.qi ax).num),vf (us (N.Zad (N.qi ax).num)),vb (N.Zab (↑(N.qi ax).den:Int)),vf (us (N.Zad (↑(N.qi ax).den:Int))),vb (N.Zab (N.qi ay).num),vf (us (N.Zad (N.qi ay).num)),vb (N.Zab (↑(N.qi ay).den:Int)),vf (us (N.Zad (↑(N.qi ay).den:Int)))]
noncomputable abbrev zNqO3 (x0:Int) (y0:Int):=ag [vb (N.Zab (N.qi x0).num),vf (us (N.Zad (N.qi x0).num)),vb (N.Zab (↑(N.qi x0).den:Int)),vf (us (N.Zad (↑(N.qi x0).den:Int))),vb (N.Zab (N.qi y0).num),vf (us (N.Zad (N.qi y0).num)),vb (N.Zab (↑(N.qi y0).den:Int)),vf (us (N.Zad (↑(N.qi y0).den:Int)))]
noncomputable abbrev zNqO4 (x1:Int) (y0:Int):=ag [vb (N.Zab (N.qi x1).num),vf (us (N.Zad (N.qi x1).num)),vb (N.Zab (↑(N.qi x1).den:Int)),vf (us (N.Zad (↑(N.qi x1).den:Int))),vb (N.Zab (N.qi y0).num),vf (us (N.Zad (N.qi y0).num)),vb (N.Zab (↑(N.qi y0).den:Int)),vf (us (N.Zad (↑(N.qi y0).den:Int)))]
noncomputable abbrev zNqO5 (x1:Int) (y1:Int):=ag [vb (N.Zab (N.qi x1).num),vf (us (N.Zad (N.qi x1).num)),vb (N.Zab (↑(N.qi x1).den:Int)),vf (us (N.Zad (↑(N.qi x1).den:Int))),vb (N.Zab (N.qi y1).num),vf (us (N.Zad (N.qi y1).num)),vb (N.Zab (↑(N.qi y1).den:Int)),vf (us (N.Zad (↑(N.qi y1).den:Int)))]
noncomputable abbrev zNqO6 (x0:Int) (y1:Int):=ag [vb (N.Zab (N.qi x0).num),vf (us (N.Zad (N.qi x0).num)),vb (N.Zab (↑(N.qi x0).den:Int)),vf (us (N.Zad (↑(N.qi x0).den:Int))),vb (N.Zab (N.qi y1).num),vf (us (N.Zad (N.qi y1).num)),vb (N.Zab (↑(N.qi y1).den:Int)),vf (us (N.Zad (↑(N.qi y1).den:Int)))]
noncomputable abbrev zNqO7 (x0:Int) (y0:Int) (x1:Int) (y1:Int) (tp:Int):=ag [vi x0,vi y0,vi x1,vi y1,vi tp]
noncomputable abbrev zNqO8 (bx:Int) (by_:Int):=ag [vi bx,vi by_]
noncomputable abbrev zNqO9 (ax:Int) (ay:Int):=ag [vi ax,vi ay]
theorem qNe (x0 y0 x1 y1 tp ax ay bx by_ r:Int)  (dq:AV) (H :
  ((r<=0)->vb false=dq) /\
  (¬(r<=0)->(((N.hld x0 y0 x1 y1 ax ay)\/(N.hld x0 y0 x1 y1 bx by_))->vb true=dq) /\
   (¬((N.hld x0 y0 x1 y1 ax ay)\/(N.hld x0 y0 x1 y1 bx by_))->(N.inI r) /\
    (N.okR (N.qi r)/\N.okR (N.qi r)) /\
    (N.ZgL ax ay) /\
    (N.ZgL bx by_) /\
    (N.ZgL x0 y0) /\
    (N.ZgL x1 y0) /\
    (N.ZgL x1 y1) /\
    (N.ZgL x0 y1) /\
    qNe0_at (N.qi x0) (N.qi y0) (N.qi x1) (N.qi y1) (N.qi ax) (N.qi ay) (N.qi bx) (N.qi by_) (N.qi r*N.qi r) (Zag dq)))) :
 qNe_at x0 y0 x1 y1 tp ax ay bx by_ r (Zag dq):=by
 unfold qNe_at
 rcases xq H with ⟨d2,H⟩|⟨d2,H⟩
 ·exact Zas (G:=Zae kp46 [] []) 1000 [true] (vb false) (by kernel_rfl) (bc (Zam (Zac.2 d2)) b0) q0 c0 H
 ·refine Zaf (G:=Zae kp46 [(3,2,.call (vb (decide (N.hld x0 y0 x1 y1 ax ay))) none),(3,6,.call (vb (decide (N.hld x0 y0 x1 y1 bx by_))) none)] []) 10 [false] ⟨(atC (cd Tryz.f46) [1,1,0,1]),[(3,vi r),(4,AV.ptr 0 0 0 0),(5,AV.ptr 1 0 0 0),(6,AV.ptr 2 0 0 0),(24,vb (bif decide (N.hld x0 y0 x1 y1 ax ay) then true else decide (N.hld x0 y0 x1 y1 bx by_)))],[⟨[(zNqO7 x0 y0 x1 y1 tp)],5,0,false,false⟩,⟨[(zNqO9 ax ay)],2,0,false,false⟩,⟨[(zNqO8 bx by_)],2,0,false,false⟩],[(decide (r<=0))==false,true,true,!(decide (N.hld x0 y0 x1 y1 ax ay)==false&&true)||true,!(decide (N.hld x0 y0 x1 y1 ax ay)==false&&true)||true],[],[⟨true,false,58,[(zNqO7 x0 y0 x1 y1 tp),(zNqO9 ax ay)],[],vb (decide (N.hld x0 y0 x1 y1 ax ay)),[]⟩,⟨decide (N.hld x0 y0 x1 y1 ax ay)==false&&true&&true,false,58,[(zNqO7 x0 y0 x1 y1 tp),(zNqO8 bx by_)],[],vb (decide (N.hld x0 y0 x1 y1 bx by_)),[]⟩]⟩ (by kernel_rfl) (bc (Zak (fun h=>d2 (Zac.1 h))) (bc rfl (bc rfl (bc (Bool.or_true _) (bc (Bool.or_true _) b0))))) q0 (cc (fun _=>(@ev58 x0 y0 x1 y1 tp ax ay)) (cc (fun hc=>((@ev58 x0 y0 x1 y1 tp bx by_):Ev M1 (Conf.pure 58 [(zNqO7 x0 y0 x1 y1 tp),(zNqO8 bx by_)]) (vb (decide (N.hld x0 y0 x1 y1 bx by_))) [])) c0)) ?_
  rcases xq H with ⟨d5,H⟩|⟨d5,H⟩
  ·exact Zas (G:=Zae kp46 [] []) 1000 [true] (vb true) (by kernel_rfl) (bc (Zam ((ZbP Zac Zac).2 d5)) b0) q0 c0 H
  ·obtain ⟨k6,k7,k8,k9,H⟩:=H
   refine Zaf (G:=Zae kp46 [(5,1,.call (ratF (N.qi r)) none),(6,2,.call (ratF (N.qi r*N.qi r)) none),(7,4,.call ((zNqO2 ax ay)) none),(7,9,.call ((zNqO1 bx by_)) none)] []) 7 [false] ⟨(atC (cd Tryz.f46) [1,1,1,1,1,0]),[(4,AV.ptr 0 0 0 0),(5,AV.ptr 1 0 0 0),(6,AV.ptr 2 0 0 0),(9,AV.ptr 3 0 0 0)],[⟨[(zNqO7 x0 y0 x1 y1 tp)],5,0,false,false⟩,⟨[(zNqO9 ax ay)],2,0,false,false⟩,⟨[(zNqO8 bx by_)],2,0,false,false⟩,⟨[ratF (N.qi r*N.qi r)],4,0,false,false⟩],_,[],_⟩ (by kernel_rfl) (bc (Zak (fun h=>d5 ((ZbP Zac Zac).1 h))) (bc rfl (bc rfl (bc rfl (bc rfl b0))))) q0 (ce (@ev59 r k6) (ce (@ev60 false false false false (N.qi r) (N.qi r) k7) c0)) (Zdk (G:=Zae kp46 [(5,1,.call (ratF (N.qi r)) none),(6,2,.call (ratF (N.qi r*N.qi r)) none),(7,4,.call ((zNqO2 ax ay)) none),(7,9,.call ((zNqO1 bx by_)) none)] []) [0,1,2,3,5,4] 10 (e1:=[(4,AV.ptr 0 0 0 0),(9,AV.ptr 3 0 0 0),(10,AV.ptr 4 0 0 0),(11,AV.ptr 5 0 0 0)]) (L1:=[⟨[(zNqO7 x0 y0 x1 y1 tp)],5,0,false,false⟩,⟨[(zNqO9 ax ay)],2,0,false,false⟩,⟨[(zNqO8 bx by_)],2,0,false,false⟩,⟨[ratF (N.qi r*N.qi r)],4,0,false,false⟩,⟨[(zNqO2 ax ay)],8,0,false,false⟩,⟨[(zNqO1 bx by_)],8,0,false,false⟩]) (a:=[true,true,true,true,true,true]) (q:=[]) (cs:=[⟨true,false,61,[vi ax,vi ay],[],(zNqO2 ax ay),[]⟩,⟨true,false,61,[vi bx,vi by_],[],(zNqO1 bx by_),[]⟩]) (by kernel_rfl) (by kernel_rfl) (Zaa rfl (Zaa rfl (Zaa rfl (Zaa rfl (Zaa rfl (Zaa rfl Zal)))))) Zao (Zah (fun _=>(@ev61 ax ay k8)) (Zah (fun _=>(@ev61 bx by_ k9)) Zap)) ?_)
   obtain ⟨k10,k11,k12,k13,H⟩:=H
   exact Zaf (G:=Zae kp46 [(8,4,.call ((zNqO3 x0 y0)) none),(8,9,.call ((zNqO4 x1 y0)) none),(8,14,.call ((zNqO5 x1 y1)) none),(8,19,.call ((zNqO6 x0 y1)) none)] []) 1000 [] ⟨(atC (cd Tryz.f46) [1,1,1,1,1,1,1,0,1,0,0]),[(9,AV.ptr 3 0 0 0),(10,AV.ptr 4 0 0 0),(11,AV.ptr 5 0 0 0),(12,AV.vec true 8 [(zNqO3 x0 y0),(zNqO4 x1 y0),(zNqO5 x1 y1),(zNqO6 x0 y1)]),(61,AV.vec true 8 [(zNqO3 x0 y0),(zNqO4 x1 y0),(zNqO5 x1 y1),(zNqO6 x0 y1)]),(62,vi 4),(63,vi 0)],[⟨[(zNqO7 x0 y0 x1 y1 tp)],5,0,false,false⟩,⟨[(zNqO9 ax ay)],2,0,false,false⟩,⟨[(zNqO8 bx by_)],2,0,false,false⟩,⟨[ratF (N.qi r*N.qi r)],4,0,false,false⟩,⟨[(zNqO2 ax ay)],8,0,false,false⟩,⟨[(zNqO1 bx by_)],8,0,false,false⟩],_,[],_⟩ (by kernel_rfl) (bc rfl (bc rfl (bc rfl (bc rfl (bc rfl (bc rfl (bc rfl (bc rfl b0)))))))) q0 (ce (@ev61 x0 y0 k10) (ce (@ev61 x1 y0 k11) (ce (@ev61 x1 y1 k12) (ce (@ev61 x0 y1 k13) c0)))) (ZaA [3,4,5] (by kernel_rfl) H)
noncomputable abbrev Zhq (u0:Rat) (v0:Rat):=ag [vb (N.Zab u0.num),vf (us (N.Zad u0.num)),vb (N.Zab (↑u0.den:Int)),vf (us (N.Zad (↑u0.den:Int))),vb (N.Zab v0.num),vf (us (N.Zad v0.num)),vb (N.Zab (↑v0.den:Int)),vf (us (N.Zad (↑v0.den:Int)))]
noncomputable abbrev zNqO11 (u1:Rat) (v0:Rat):=ag [vb (N.Zab u1.num),vf (us (N.Zad u1.num)),vb (N.Zab (↑u1.den:Int)),vf (us (N.Zad (↑u1.den:Int))),vb (N.Zab v0.num),vf (us (N.Zad v0.num)),vb (N.Zab (↑v0.den:Int)),vf (us (N.Zad (↑v0.den:Int)))]
noncomputable abbrev zNqO12 (u1:Rat) (v1:Rat):=ag [vb (N.Zab u1.num),vf (us (N.Zad u1.num)),vb (N.Zab (↑u1.den:Int)),vf (us (N.Zad (↑u1.den:Int))),vb (N.Zab v1.num),vf (us (N.Zad v1.num)),vb (N.Zab (↑v1.den:Int)),vf (us (N.Zad (↑v1.den:Int)))]
noncomputable abbrev zNqO13 (u0:Rat) (v1:Rat):=ag [vb (N.Zab u0.num),vf (us (N.Zad u0.num)),vb (N.Zab (↑u0.den:Int)),vf (us (N.Zad (↑u0.den:Int))),vb (N.Zab v1.num),vf (us (N.Zad v1.num)),vb (N.Zab (↑v1.den:Int)),vf (us (N.Zad (↑v1.den:Int)))]
noncomputable abbrev zNqO14 (a1:Rat) (a2:Rat):=ag [vb (N.Zab a1.num),vf (us (N.Zad a1.num)),vb (N.Zab (↑a1.den:Int)),vf (us (N.Zad (↑a1.den:Int))),vb (N.Zab a2.num),vf (us (N.Zad a2.num)),vb (N.Zab (↑a2.den:Int)),vf (us (N.Zad (↑a2.den:Int)))]
noncomputable abbrev zNqO15 (b1:Rat) (b2:Rat):=ag [vb (N.Zab b1.num),vf (us (N.Zad b1.num)),vb (N.Zab (↑b1.den:Int)),vf (us (N.Zad (↑b1.den:Int))),vb (N.Zab b2.num),vf (us (N.Zad b2.num)),vb (N.Zab (↑b2.den:Int)),vf (us (N.Zad (↑b2.den:Int)))]
theorem qNe0 (u0 v0 u1 v1 a1 a2 b1 b2 m:Rat)  (dq:AV) (H :
  (N.Zgz a1 a2 b1 b2 u0 v0 u1 v0) /\
  (N.okR (N.seg a1 a2 b1 b2 u0 v0 u1 v0)/\N.okR m) /\
  ((N.sgnI ((N.seg a1 a2 b1 b2 u0 v0 u1 v0).num*(↑m.den:Int)-m.num*(↑(N.seg a1 a2 b1 b2 u0 v0 u1 v0).den:Int))<0)->vb true=dq) /\
  (¬(N.sgnI ((N.seg a1 a2 b1 b2 u0 v0 u1 v0).num*(↑m.den:Int)-m.num*(↑(N.seg a1 a2 b1 b2 u0 v0 u1 v0).den:Int))<0)->qNe1_at u0 v0 u1 v1 a1 a2 b1 b2 m (Zag dq))) :
 qNe0_at u0 v0 u1 v1 a1 a2 b1 b2 m (Zag dq):=by
 unfold qNe0_at
 obtain ⟨k1,k2,H⟩:=H
 refine Zaf (G:=Zae kp46 [(12,9,.call (ratF (N.seg a1 a2 b1 b2 u0 v0 u1 v0)) none),(12,11,.call (vi (N.sgnI ((N.seg a1 a2 b1 b2 u0 v0 u1 v0).num*(↑m.den:Int)-m.num*(↑(N.seg a1 a2 b1 b2 u0 v0 u1 v0).den:Int)))) none)] []) 11 [true] ⟨(atC (cd Tryz.f46) [1,1,1,1,1,1,1,0,1,0,0,1,1,0,0,1,1]),[(9,AV.ptr 0 0 0 0),(10,AV.ptr 1 0 0 0),(11,AV.ptr 2 0 0 0),(12,AV.vec true 8 [(Zhq u0 v0),(zNqO11 u1 v0),(zNqO12 u1 v1),(zNqO13 u0 v1)]),(61,AV.vec true 8 [(Zhq u0 v0),(zNqO11 u1 v0),(zNqO12 u1 v1),(zNqO13 u0 v1)]),(62,vi 4),(63,vi 0),(80,vb (decide (N.sgnI ((N.seg a1 a2 b1 b2 u0 v0 u1 v0).num*(↑m.den:Int)-m.num*(↑(N.seg a1 a2 b1 b2 u0 v0 u1 v0).den:Int))<0)))],[⟨[ratF m],4,0,false,false⟩,⟨[(zNqO14 a1 a2)],8,0,false,false⟩,⟨[(zNqO15 b1 b2)],8,0,false,false⟩,⟨[(Zhq u0 v0)],8,0,false,false⟩],_,[],_⟩ (by kernel_rfl) (bc rfl (bc rfl (bc rfl (bc rfl (bc rfl (bc rfl (bc rfl (bc rfl (bc rfl (bc rfl (bc rfl b0))))))))))) q0 (ce (@ev63 false false false false false false false false false false false false false false false false a1 a2 b1 b2 u0 v0 u1 v0 k1) (ce (@ev62 false false false false (N.seg a1 a2 b1 b2 u0 v0 u1 v0) m k2) c0)) ?_
 rcases xq H with ⟨d4,H⟩|⟨d4,H⟩
 ·exact Zas (G:=Zae kp46 [] []) 1000 [true] (vb true) (by kernel_rfl) (bc (Zam (Zac.2 d4)) b0) q0 c0 H
 ·exact Zaf (G:=Zae kp46 [] []) 1000 [false] ⟨(atC (cd Tryz.f46) [1,1,1,1,1,1,1,0,1,0,0]),[(9,AV.ptr 0 0 0 0),(10,AV.ptr 1 0 0 0),(11,AV.ptr 2 0 0 0),(12,AV.vec true 8 [(Zhq u0 v0),(zNqO11 u1 v0),(zNqO12 u1 v1),(zNqO13 u0 v1)]),(61,AV.vec true 8 [(Zhq u0 v0),(zNqO11 u1 v0),(zNqO12 u1 v1),(zNqO13 u0 v1)]),(62,vi 4),(63,vi 1)],[⟨[ratF m],4,0,false,false⟩,⟨[(zNqO14 a1 a2)],8,0,false,false⟩,⟨[(zNqO15 b1 b2)],8,0,false,false⟩,⟨[(Zhq u0 v0)],8,0,false,false⟩],_,[],_⟩ (by kernel_rfl) (bc (Zak (fun h=>d4 (Zac.1 h))) b0) q0 c0 (ZaA [0,1,2] (by kernel_rfl) H)
noncomputable abbrev Zhp (u1:Rat) (v0:Rat):=ag [vb (N.Zab u1.num),vf (us (N.Zad u1.num)),vb (N.Zab (↑u1.den:Int)),vf (us (N.Zad (↑u1.den:Int))),vb (N.Zab v0.num),vf (us (N.Zad v0.num)),vb (N.Zab (↑v0.den:Int)),vf (us (N.Zad (↑v0.den:Int)))]
noncomputable abbrev zNqO17 (u0:Rat) (v0:Rat):=ag [vb (N.Zab u0.num),vf (us (N.Zad u0.num)),vb (N.Zab (↑u0.den:Int)),vf (us (N.Zad (↑u0.den:Int))),vb (N.Zab v0.num),vf (us (N.Zad v0.num)),vb (N.Zab (↑v0.den:Int)),vf (us (N.Zad (↑v0.den:Int)))]
noncomputable abbrev zNqO18 (u1:Rat) (v1:Rat):=ag [vb (N.Zab u1.num),vf (us (N.Zad u1.num)),vb (N.Zab (↑u1.den:Int)),vf (us (N.Zad (↑u1.den:Int))),vb (N.Zab v1.num),vf (us (N.Zad v1.num)),vb (N.Zab (↑v1.den:Int)),vf (us (N.Zad (↑v1.den:Int)))]
noncomputable abbrev zNqO19 (u0:Rat) (v1:Rat):=ag [vb (N.Zab u0.num),vf (us (N.Zad u0.num)),vb (N.Zab (↑u0.den:Int)),vf (us (N.Zad (↑u0.den:Int))),vb (N.Zab v1.num),vf (us (N.Zad v1.num)),vb (N.Zab (↑v1.den:Int)),vf (us (N.Zad (↑v1.den:Int)))]
noncomputable abbrev zNqO20 (a1:Rat) (a2:Rat):=ag [vb (N.Zab a1.num),vf (us (N.Zad a1.num)),vb (N.Zab (↑a1.den:Int)),vf (us (N.Zad (↑a1.den:Int))),vb (N.Zab a2.num),vf (us (N.Zad a2.num)),vb (N.Zab (↑a2.den:Int)),vf (us (N.Zad (↑a2.den:Int)))]
noncomputable abbrev zNqO21 (b1:Rat) (b2:Rat):=ag [vb (N.Zab b1.num),vf (us (N.Zad b1.num)),vb (N.Zab (↑b1.den:Int)),vf (us (N.Zad (↑b1.den:Int))),vb (N.Zab b2.num),vf (us (N.Zad b2.num)),vb (N.Zab (↑b2.den:Int)),vf (us (N.Zad (↑b2.den:Int)))]
theorem qNe1 (u0 v0 u1 v1 a1 a2 b1 b2 m:Rat)  (dq:AV) (H :
  (N.Zgz a1 a2 b1 b2 u1 v0 u1 v1) /\
  (N.okR (N.seg a1 a2 b1 b2 u1 v0 u1 v1)/\N.okR m) /\
  ((N.sgnI ((N.seg a1 a2 b1 b2 u1 v0 u1 v1).num*(↑m.den:Int)-m.num*(↑(N.seg a1 a2 b1 b2 u1 v0 u1 v1).den:Int))<0)->vb true=dq) /\
  (¬(N.sgnI ((N.seg a1 a2 b1 b2 u1 v0 u1 v1).num*(↑m.den:Int)-m.num*(↑(N.seg a1 a2 b1 b2 u1 v0 u1 v1).den:Int))<0)->qNe2_at u0 v0 u1 v1 a1 a2 b1 b2 m (Zag dq))) :
 qNe1_at u0 v0 u1 v1 a1 a2 b1 b2 m (Zag dq):=by
 unfold qNe1_at
 obtain ⟨k1,k2,H⟩:=H
 refine Zaf (G:=Zae kp46 [(12,9,.call (ratF (N.seg a1 a2 b1 b2 u1 v0 u1 v1)) none),(12,11,.call (vi (N.sgnI ((N.seg a1 a2 b1 b2 u1 v0 u1 v1).num*(↑m.den:Int)-m.num*(↑(N.seg a1 a2 b1 b2 u1 v0 u1 v1).den:Int)))) none)] []) 11 [true] ⟨(atC (cd Tryz.f46) [1,1,1,1,1,1,1,0,1,0,0,1,1,0,0,1,1]),[(9,AV.ptr 0 0 0 0),(10,AV.ptr 1 0 0 0),(11,AV.ptr 2 0 0 0),(12,AV.vec true 8 [(zNqO17 u0 v0),(Zhp u1 v0),(zNqO18 u1 v1),(zNqO19 u0 v1)]),(61,AV.vec true 8 [(zNqO17 u0 v0),(Zhp u1 v0),(zNqO18 u1 v1),(zNqO19 u0 v1)]),(62,vi 4),(63,vi 1),(80,vb (decide (N.sgnI ((N.seg a1 a2 b1 b2 u1 v0 u1 v1).num*(↑m.den:Int)-m.num*(↑(N.seg a1 a2 b1 b2 u1 v0 u1 v1).den:Int))<0)))],[⟨[ratF m],4,0,false,false⟩,⟨[(zNqO20 a1 a2)],8,0,false,false⟩,⟨[(zNqO21 b1 b2)],8,0,false,false⟩,⟨[(Zhp u1 v0)],8,0,false,false⟩],_,[],_⟩ (by kernel_rfl) (bc rfl (bc rfl (bc rfl (bc rfl (bc rfl (bc rfl (bc rfl (bc rfl (bc rfl (bc rfl (bc rfl b0))))))))))) q0 (ce (@ev63 false false false false false false false false false false false false false false false false a1 a2 b1 b2 u1 v0 u1 v1 k1) (ce (@ev62 false false false false (N.seg a1 a2 b1 b2 u1 v0 u1 v1) m k2) c0)) ?_
 rcases xq H with ⟨d4,H⟩|⟨d4,H⟩
 ·exact Zas (G:=Zae kp46 [] []) 1000 [true] (vb true) (by kernel_rfl) (bc (Zam (Zac.2 d4)) b0) q0 c0 H
 ·exact Zaf (G:=Zae kp46 [] []) 1000 [false] ⟨(atC (cd Tryz.f46) [1,1,1,1,1,1,1,0,1,0,0]),[(9,AV.ptr 0 0 0 0),(10,AV.ptr 1 0 0 0),(11,AV.ptr 2 0 0 0),(12,AV.vec true 8 [(zNqO17 u0 v0),(Zhp u1 v0),(zNqO18 u1 v1),(zNqO19 u0 v1)]),(61,AV.vec true 8 [(zNqO17 u0 v0),(Zhp u1 v0),(zNqO18 u1 v1),(zNqO19 u0 v1)]),(62,vi 4),(63,vi 2)],[⟨[ratF m],4,0,false,false⟩,⟨[(zNqO20 a1 a2)],8,0,false,false⟩,⟨[(zNqO21 b1 b2)],8,0,false,false⟩,⟨[(Zhp u1 v0)],8,0,false,false⟩],_,[],_⟩ (by kernel_rfl) (bc (Zak (fun h=>d4 (Zac.1 h))) b0) q0 c0 (ZaA [0,1,2] (by kernel_rfl) H)
noncomputable abbrev Zho (u1:Rat) (v1:Rat):=ag [vb (N.Zab u1.num),vf (us (N.Zad u1.num)),vb (N.Zab (↑u1.den:Int)),vf (us (N.Zad (↑u1.den:Int))),vb (N.Zab v1.num),vf (us (N.Zad v1.num)),vb (N.Zab (↑v1.den:Int)),vf (us (N.Zad (↑v1.den:Int)))]
noncomputable abbrev zNqO23 (u0:Rat) (v0:Rat):=ag [vb (N.Zab u0.num),vf (us (N.Zad u0.num)),vb (N.Zab (↑u0.den:Int)),vf (us (N.Zad (↑u0.den:Int))),vb (N.Zab v0.num),vf (us (N.Zad v0.num)),vb (N.Zab (↑v0.den:Int)),vf (us (N.Zad (↑v0.den:Int)))]
noncomputable abbrev zNqO24 (u1:Rat) (v0:Rat):=ag [vb (N.Zab u1.num),vf (us (N.Zad u1.num)),vb (N.Zab (↑u1.den:Int)),vf (us (N.Zad (↑u1.den:Int))),vb (N.Zab v0.num),vf (us (N.Zad v0.num)),vb (N.Zab (↑v0.den:Int)),vf (us (N.Zad (↑v0.den:Int)))]
noncomputable abbrev zNqO25 (u0:Rat) (v1:Rat):=ag [vb (N.Zab u0.num),vf (us (N.Zad u0.num)),vb (N.Zab (↑u0.den:Int)),vf (us (N.Zad (↑u0.den:Int))),vb (N.Zab v1.num),vf (us (N.Zad v1.num)),vb (N.Zab (↑v1.den:Int)),vf (us (N.Zad (↑v1.den:Int)))]
noncomputable abbrev zNqO26 (a1:Rat) (a2:Rat):=ag [vb (N.Zab a1.num),vf (us (N.Zad a1.num)),vb (N.Zab (↑a1.den:Int)),vf (us (N.Zad (↑a1.den:Int))),vb (N.Zab a2.num),vf (us (N.Zad a2.num)),vb (N.Zab (↑a2.den:Int)),vf (us (N.Zad (↑a2.den:Int)))]
noncomputable abbrev zNqO27 (b1:Rat) (b2:Rat):=ag [vb (N.Zab b1.num),vf (us (N.Zad b1.num)),vb (N.Zab (↑b1.den:Int)),vf (us (N.Zad (↑b1.den:Int))),vb (N.Zab b2.num),vf (us (N.Zad b2.num)),vb (N.Zab (↑b2.den:Int)),vf (us (N.Zad (↑b2.den:Int)))]
theorem qNe2 (u0 v0 u1 v1 a1 a2 b1 b2 m:Rat)  (dq:AV) (H :
  (N.Zgz a1 a2 b1 b2 u1 v1 u0 v1) /\
  (N.okR (N.seg a1 a2 b1 b2 u1 v1 u0 v1)/\N.okR m) /\
  ((N.sgnI ((N.seg a1 a2 b1 b2 u1 v1 u0 v1).num*(↑m.den:Int)-m.num*(↑(N.seg a1 a2 b1 b2 u1 v1 u0 v1).den:Int))<0)->vb true=dq) /\
  (¬(N.sgnI ((N.seg a1 a2 b1 b2 u1 v1 u0 v1).num*(↑m.den:Int)-m.num*(↑(N.seg a1 a2 b1 b2 u1 v1 u0 v1).den:Int))<0)->qNe3_at u0 v0 u1 v1 a1 a2 b1 b2 m (Zag dq))) :
 qNe2_at u0 v0 u1 v1 a1 a2 b1 b2 m (Zag dq):=by
 unfold qNe2_at
 obtain ⟨k1,k2,H⟩:=H
 refine Zaf (G:=Zae kp46 [(12,9,.call (ratF (N.seg a1 a2 b1 b2 u1 v1 u0 v1)) none),(12,11,.call (vi (N.sgnI ((N.seg a1 a2 b1 b2 u1 v1 u0 v1).num*(↑m.den:Int)-m.num*(↑(N.seg a1 a2 b1 b2 u1 v1 u0 v1).den:Int)))) none)] []) 11 [true] ⟨(atC (cd Tryz.f46) [1,1,1,1,1,1,1,0,1,0,0,1,1,0,0,1,1]),[(9,AV.ptr 0 0 0 0),(10,AV.ptr 1 0 0 0),(11,AV.ptr 2 0 0 0),(12,AV.vec true 8 [(zNqO23 u0 v0),(zNqO24 u1 v0),(Zho u1 v1),(zNqO25 u0 v1)]),(61,AV.vec true 8 [(zNqO23 u0 v0),(zNqO24 u1 v0),(Zho u1 v1),(zNqO25 u0 v1)]),(62,vi 4),(63,vi 2),(80,vb (decide (N.sgnI ((N.seg a1 a2 b1 b2 u1 v1 u0 v1).num*(↑m.den:Int)-m.num*(↑(N.seg a1 a2 b1 b2 u1 v1 u0 v1).den:Int))<0)))],[⟨[ratF m],4,0,false,false⟩,⟨[(zNqO26 a1 a2)],8,0,false,false⟩,⟨[(zNqO27 b1 b2)],8,0,false,false⟩,⟨[(Zho u1 v1)],8,0,false,false⟩],_,[],_⟩ (by kernel_rfl) (bc rfl (bc rfl (bc rfl (bc rfl (bc rfl (bc rfl (bc rfl (bc rfl (bc rfl (bc rfl (bc rfl b0))))))))))) q0 (ce (@ev63 false false false false false false false false false false false false false false false false a1 a2 b1 b2 u1 v1 u0 v1 k1) (ce (@ev62 false false false false (N.seg a1 a2 b1 b2 u1 v1 u0 v1) m k2) c0)) ?_
 rcases xq H with ⟨d4,H⟩|⟨d4,H⟩
 ·exact Zas (G:=Zae kp46 [] []) 1000 [true] (vb true) (by kernel_rfl) (bc (Zam (Zac.2 d4)) b0) q0 c0 H
 ·exact Zaf (G:=Zae kp46 [] []) 1000 [false] ⟨(atC (cd Tryz.f46) [1,1,1,1,1,1,1,0,1,0,0]),[(9,AV.ptr 0 0 0 0),(10,AV.ptr 1 0 0 0),(11,AV.ptr 2 0 0 0),(12,AV.vec true 8 [(zNqO23 u0 v0),(zNqO24 u1 v0),(Zho u1 v1),(zNqO25 u0 v1)]),(61,AV.vec true 8 [(zNqO23 u0 v0),(zNqO24 u1 v0),(Zho u1 v1),(zNqO25 u0 v1)]),(62,vi 4),(63,vi 3)],[⟨[ratF m],4,0,false,false⟩,⟨[(zNqO26 a1 a2)],8,0,false,false⟩,⟨[(zNqO27 b1 b2)],8,0,false,false⟩,⟨[(Zho u1 v1)],8,0,false,false⟩],_,[],_⟩ (by kernel_rfl) (bc (Zak (fun h=>d4 (Zac.1 h))) b0) q0 c0 (ZaA [0,1,2] (by kernel_rfl) H)
noncomputable abbrev Zhn (u0:Rat) (v1:Rat):=ag [vb (N.Zab u0.num),vf (us (N.Zad u0.num)),vb (N.Zab (↑u0.den:Int)),vf (us (N.Zad (↑u0.den:Int))),vb (N.Zab v1.num),vf (us (N.Zad v1.num)),vb (N.Zab (↑v1.den:Int)),vf (us (N.Zad (↑v1.den:Int)))]
noncomputable abbrev zNqO29 (u0:Rat) (v0:Rat):=ag [vb (N.Zab u0.num),vf (us (N.Zad u0.num)),vb (N.Zab (↑u0.den:Int)),vf (us (N.Zad (↑u0.den:Int))),vb (N.Zab v0.num),vf (us (N.Zad v0.num)),vb (N.Zab (↑v0.den:Int)),vf (us (N.Zad (↑v0.den:Int)))]
noncomputable abbrev zNqO30 (u1:Rat) (v0:Rat):=ag [vb (N.Zab u1.num),vf (us (N.Zad u1.num)),vb (N.Zab (↑u1.den:Int)),vf (us (N.Zad (↑u1.den:Int))),vb (N.Zab v0.num),vf (us (N.Zad v0.num)),vb (N.Zab (↑v0.den:Int)),vf (us (N.Zad (↑v0.den:Int)))]
noncomputable abbrev zNqO31 (u1:Rat) (v1:Rat):=ag [vb (N.Zab u1.num),vf (us (N.Zad u1.num)),vb (N.Zab (↑u1.den:Int)),vf (us (N.Zad (↑u1.den:Int))),vb (N.Zab v1.num),vf (us (N.Zad v1.num)),vb (N.Zab (↑v1.den:Int)),vf (us (N.Zad (↑v1.den:Int)))]
noncomputable abbrev zNqO32 (a1:Rat) (a2:Rat):=ag [vb (N.Zab a1.num),vf (us (N.Zad a1.num)),vb (N.Zab (↑a1.den:Int)),vf (us (N.Zad (↑a1.den:Int))),vb (N.Zab a2.num),vf (us (N.Zad a2.num)),vb (N.Zab (↑a2.den:Int)),vf (us (N.Zad (↑a2.den:Int)))]
noncomputable abbrev zNqO33 (b1:Rat) (b2:Rat):=ag [vb (N.Zab b1.num),vf (us (N.Zad b1.num)),vb (N.Zab (↑b1.den:Int)),vf (us (N.Zad (↑b1.den:Int))),vb (N.Zab b2.num),vf (us (N.Zad b2.num)),vb (N.Zab (↑b2.den:Int)),vf (us (N.Zad (↑b2.den:Int)))]
theorem qNe3 (u0 v0 u1 v1 a1 a2 b1 b2 m:Rat)  (dq:AV) (H :
  (N.Zgz a1 a2 b1 b2 u0 v1 u0 v0) /\
  (N.okR (N.seg a1 a2 b1 b2 u0 v1 u0 v0)/\N.okR m) /\
  ((N.sgnI ((N.seg a1 a2 b1 b2 u0 v1 u0 v0).num*(↑m.den:Int)-m.num*(↑(N.seg a1 a2 b1 b2 u0 v1 u0 v0).den:Int))<0)->vb true=dq) /\
  (¬(N.sgnI ((N.seg a1 a2 b1 b2 u0 v1 u0 v0).num*(↑m.den:Int)-m.num*(↑(N.seg a1 a2 b1 b2 u0 v1 u0 v0).den:Int))<0)->qNe4_at u0 v0 u1 v1 a1 a2 b1 b2 m (Zag dq))) :
 qNe3_at u0 v0 u1 v1 a1 a2 b1 b2 m (Zag dq):=by
 unfold qNe3_at
 obtain ⟨k1,k2,H⟩:=H
 refine Zaf (G:=Zae kp46 [(12,9,.call (ratF (N.seg a1 a2 b1 b2 u0 v1 u0 v0)) none),(12,11,.call (vi (N.sgnI ((N.seg a1 a2 b1 b2 u0 v1 u0 v0).num*(↑m.den:Int)-m.num*(↑(N.seg a1 a2 b1 b2 u0 v1 u0 v0).den:Int)))) none)] []) 11 [true] ⟨(atC (cd Tryz.f46) [1,1,1,1,1,1,1,0,1,0,0,1,1,0,0,1,1]),[(9,AV.ptr 0 0 0 0),(10,AV.ptr 1 0 0 0),(11,AV.ptr 2 0 0 0),(12,AV.vec true 8 [(zNqO29 u0 v0),(zNqO30 u1 v0),(zNqO31 u1 v1),(Zhn u0 v1)]),(61,AV.vec true 8 [(zNqO29 u0 v0),(zNqO30 u1 v0),(zNqO31 u1 v1),(Zhn u0 v1)]),(62,vi 4),(63,vi 3),(80,vb (decide (N.sgnI ((N.seg a1 a2 b1 b2 u0 v1 u0 v0).num*(↑m.den:Int)-m.num*(↑(N.seg a1 a2 b1 b2 u0 v1 u0 v0).den:Int))<0)))],[⟨[ratF m],4,0,false,false⟩,⟨[(zNqO32 a1 a2)],8,0,false,false⟩,⟨[(zNqO33 b1 b2)],8,0,false,false⟩,⟨[(Zhn u0 v1)],8,0,false,false⟩],_,[],_⟩ (by kernel_rfl) (bc rfl (bc rfl (bc rfl (bc rfl (bc rfl (bc rfl (bc rfl (bc rfl (bc rfl (bc rfl (bc rfl b0))))))))))) q0 (ce (@ev63 false false false false false false false false false false false false false false false false a1 a2 b1 b2 u0 v1 u0 v0 k1) (ce (@ev62 false false false false (N.seg a1 a2 b1 b2 u0 v1 u0 v0) m k2) c0)) ?_
 rcases xq H with ⟨d4,H⟩|⟨d4,H⟩
 ·exact Zas (G:=Zae kp46 [] []) 1000 [true] (vb true) (by kernel_rfl) (bc (Zam (Zac.2 d4)) b0) q0 c0 H
 ·exact Zaf (G:=Zae kp46 [] []) 1000 [false] ⟨(atC (cd Tryz.f46) [1,1,1,1,1,1,1,0,1,0,0]),[(9,AV.ptr 0 0 0 0),(10,AV.ptr 1 0 0 0),(11,AV.ptr 2 0 0 0),(12,AV.vec true 8 [(zNqO29 u0 v0),(zNqO30 u1 v0),(zNqO31 u1 v1),(Zhn u0 v1)]),(61,AV.vec true 8 [(zNqO29 u0 v0),(zNqO30 u1 v0),(zNqO31 u1 v1),(Zhn u0 v1)]),(62,vi 4),(63,vi 4)],[⟨[ratF m],4,0,false,false⟩,⟨[(zNqO32 a1 a2)],8,0,false,false⟩,⟨[(zNqO33 b1 b2)],8,0,false,false⟩,⟨[(Zhn u0 v1)],8,0,false,false⟩],_,[],_⟩ (by kernel_rfl) (bc (Zak (fun h=>d4 (Zac.1 h))) b0) q0 c0 (ZaA [0,1,2] (by kernel_rfl) H)
theorem qNe4 (u0 v0 u1 v1 a1 a2 b1 b2 m:Rat)  (dq:AV) (H :
  vb false=dq) :
 qNe4_at u0 v0 u1 v1 a1 a2 b1 b2 m (Zag dq):=by
 unfold qNe4_at
 exact Zas (G:=Zae kp46 [] []) 1000 [false] (vb false) (by kernel_rfl) (bc rfl b0) q0 c0 H
end Go.Av

namespace Go.Av
open Go.Proofs
namespace N
noncomputable def neS (p0 q0 p1 q1 a1 a2 b1 b2 m:Rat):Prop:=seg a1 a2 b1 b2 p0 q0 p1 q0<m\/seg a1 a2 b1 b2 p1 q0 p1 q1<m\/seg a1 a2 b1 b2 p1 q1 p0 q1<m\/seg a1 a2 b1 b2 p0 q1 p0 q0<m
noncomputable def nea (x0 y0 x1 y1 ax ay bx by_ r:Int):Prop:=¬(r<=0)/\(hld x0 y0 x1 y1 ax ay\/hld x0 y0 x1 y1 bx by_\/neS (qi x0) (qi y0) (qi x1) (qi y1) (qi ax) (qi ay) (qi bx) (qi by_) (qi r*qi r))
def okNe (x0 y0 x1 y1 ax ay bx by_ r:Int):Prop:=cc x0/\cc y0/\cc x1/\cc y1/\cc ax/\cc ay/\cc bx/\cc by_/\cc r
end N
noncomputable instance (p0 q0 p1 q1 a1 a2 b1 b2 m:Rat):Decidable (N.neS p0 q0 p1 q1 a1 a2 b1 b2 m):=by unfold N.neS;infer_instance
noncomputable instance (x0 y0 x1 y1 ax ay bx by_ r:Int):Decidable (N.nea x0 y0 x1 y1 ax ay bx by_ r):=by unfold N.nea;infer_instance
theorem Zfg {n:Int} (h:N.cc n):N.inI n:=by unfold N.cc at h;unfold N.inI;omega
theorem ZbH {n:Int} (h:N.cc n):N.okT 10 (N.qi n):=Zco (okT_int (Zfg h)) (by omega)
theorem near_loop {p0 q0 p1 q1 a1 a2 b1 b2 m:Rat} (h1:N.okV p0 q0) (h2:N.okV p1 q1) (h3:N.okV a1 a2) (h4:N.okV b1 b2) (hm:N.okT 400 m):qNe0_at p0 q0 p1 q1 a1 a2 b1 b2 m (Zag (.bool (decide (N.neS p0 q0 p1 q1 a1 a2 b1 b2 m)))):=by
 have R {r:Rat} (h:N.okT 400 r):N.okR r:=Za3 h (by omega)
 have g1:N.okV p1 q0:=⟨h2.1,h1.2⟩
 have g2:N.okV p0 q1:=⟨h1.1,h2.2⟩
 have k0:N.Zgz a1 a2 b1 b2 p0 q0 p1 q0:=⟨h3,h4,h1,g1⟩
 have k1:N.Zgz a1 a2 b1 b2 p1 q0 p1 q1:=⟨h3,h4,g1,h2⟩
 have k2:N.Zgz a1 a2 b1 b2 p1 q1 p0 q1:=⟨h3,h4,h2,g2⟩
 have k3:N.Zgz a1 a2 b1 b2 p0 q1 p0 q0:=⟨h3,h4,g2,h1⟩
 have y:∀ h:N.neS p0 q0 p1 q1 a1 a2 b1 b2 m,AV.bool true = .bool (decide (N.neS p0 q0 p1 q1 a1 a2 b1 b2 m)):=fun h=>by rw [dec_t h]
 refine qNe0 _ _ _ _ _ _ _ _ _ _ ⟨k0,⟨R (ZbY k0),R hm⟩,fun x=>y (.inl (Zcu.1 x)),fun x0 => ?_⟩
 refine qNe1 _ _ _ _ _ _ _ _ _ _ ⟨k1,⟨R (ZbY k1),R hm⟩,fun x=>y (.inr (.inl (Zcu.1 x))),fun x1 => ?_⟩
 refine qNe2 _ _ _ _ _ _ _ _ _ _ ⟨k2,⟨R (ZbY k2),R hm⟩,fun x=>y (.inr (.inr (.inl (Zcu.1 x)))),fun x2 => ?_⟩
 refine qNe3 _ _ _ _ _ _ _ _ _ _ ⟨k3,⟨R (ZbY k3),R hm⟩,fun x=>y (.inr (.inr (.inr (Zcu.1 x)))),fun x3 => ?_⟩
 refine qNe4 _ _ _ _ _ _ _ _ _ _ ?_
 rw [decide_eq_false]
 rintro (h | h | h | h)
 ·exact x0 (Zcu.2 h)
 ·exact x1 (Zcu.2 h)
 ·exact x2 (Zcu.2 h)
 ·exact x3 (Zcu.2 h)
theorem ev46 (x0 y0 x1 y1 tp ax ay bx by_ r:Int) (h:N.okNe x0 y0 x1 y1 ax ay bx by_ r):Ev M1 (.pure 46 [.agg [.int .i64 x0,.int .i64 y0,.int .i64 x1,.int .i64 y1,.int .i64 tp],.agg [.int .i64 ax,.int .i64 ay],.agg [.int .i64 bx,.int .i64 by_],.int .i64 r]) (.bool (decide (N.nea x0 y0 x1 y1 ax ay bx by_ r))) []:=by
 obtain ⟨c1,c2,c3,c4,c5,c6,c7,c8,c9⟩:=h
 have V {u v:Int} (a:N.cc u) (b:N.cc v):N.okV (N.qi u) (N.qi v):=⟨ZbH a,ZbH b⟩
 have J {u v:Int} (a:N.cc u) (b:N.cc v):N.ZgL u v:=⟨Zfg a,Zfg b⟩
 have mm:N.okT 400 (N.qi r*N.qi r):=Zco (ZbB (ZbH c9) (ZbH c9)) (by omega)
 have R:N.okR (N.qi r):=Za3 (ZbH c9) (by omega)
 refine call46 (qNe _ _ _ _ _ _ _ _ _ _ _ ⟨fun k => ?_,fun k=>⟨fun j => ?_,fun j=>⟨Zfg c9,⟨R,R⟩,J c5 c6,J c7 c8,J c1 c2,J c3 c2,J c3 c4,J c1 c4,?_⟩⟩⟩)
 ·rw [decide_eq_false fun x=>x.1 k]
 ·rw [decide_eq_true (show N.nea x0 y0 x1 y1 ax ay bx by_ r from ⟨k,j.elim .inl fun x => .inr (.inl x)⟩)]
 ·have e:decide (N.nea x0 y0 x1 y1 ax ay bx by_ r)=decide (N.neS (N.qi x0) (N.qi y0) (N.qi x1) (N.qi y1) (N.qi ax) (N.qi ay) (N.qi bx) (N.qi by_) (N.qi r*N.qi r)):=
   ZcW ⟨fun x=>x.2.elim (fun y=>absurd (.inl y) j) fun y=>y.elim (fun y=>absurd (.inr y) j) id,fun x=>⟨k,.inr (.inr x)⟩⟩
  rw [e]
  exact near_loop (V c1 c2) (V c3 c4) (V c5 c6) (V c7 c8) mm
end Go.Av

namespace Go.Av
open Go.Proofs
set_option maxRecDepth 100000
def fi21:Fi:=⟨41,[.tmp 8,.tmp 9]⟩
def kp21:List (Nat × List Nat):=[(0,[3,4,5,6]),(1,[3,4,5,6,10,11]),(2,[3,5,6,10,11,15,16,17]),(3,[3,5,6,10,11,15,16,17,18]),(4,[3,5,6,10,11,13,15,16,17]),(5,[3,5,6,10,11,13,15,16,17,35]),(6,[3,5,6,10,11,15,16,17]),(7,[3,5,6,10,11,15,16,17]),(8,[8,9])]
def qHi_at (f:Bool) (cs:List Bx) (u0 v0 u1 v1 th gp sf:Int) (ax ay bx by_ r:Int) (Q:AV->Heap->Prop):Prop:=Wp M1 (.run fi21 (atC (cd Tryz.f21) []) [(0,.agg [.int .i64 u0,.int .i64 v0,.int .i64 u1,.int .i64 v1,.int .i64 th,.int .i64 gp,.vec f 5 (cs.map Bx.a),.int .i64 sf]),(1,.agg [.int .i64 ax,.int .i64 ay]),(2,.agg [.int .i64 bx,.int .i64 by_]),(3,.int .i64 r)] []) Q
def Zfp (f:Bool) (cs:List Bx) (ax ay bx by_ r t:Int) (fo:Bool) (n i:Int) (Q:AV->Heap->Prop):Prop:=Wp M1 (.run fi21 (atC (cd Tryz.f21) [1,1,0,1,0,0]) [(3,.int .i64 r),(5,.ptr 0 0 0 0),(6,.ptr 1 0 0 0),(10,.int .i64 t),(11,.bool fo),(15,.vec f 5 (cs.map Bx.a)),(16,.int .i64 n),(17,.int .i64 i)] [⟨[.agg [.int .i64 ax,.int .i64 ay]],2,0,false,false⟩,⟨[.agg [.int .i64 bx,.int .i64 by_]],2,0,false,false⟩]) Q
theorem call21 {args:List AV} {d:AV} (h:wc M1 fi21 Tryz.f21 args d):Ev M1 (.pure 21 args) d []:=pcl _ _ (by kernel_rfl) h
theorem qHi (f:Bool) (cs:List Bx) (u0 v0 u1 v1 th gp sf:Int) (ax ay bx by_ r:Int)  (dq:AV) (H :
  Zfp f cs ax ay bx by_ r 0 false ((↑cs.length:Int)) 0 (Zag dq)) :
 qHi_at f cs u0 v0 u1 v1 th gp sf ax ay bx by_ r (Zag dq):=by
 unfold qHi_at
 have w1:(List.map Bx.a cs).length=cs.length:=List.length_map ..
 exact Zaf (G:=Zae kp21 [] []) 1000 [] ⟨(atC (cd Tryz.f21) [1,1,0,1,0,0]),[(3,vi r),(5,AV.ptr 1 0 0 0),(6,AV.ptr 2 0 0 0),(10,vi 0),(11,vb false),(15,AV.vec f 5 (List.map Bx.a cs)),(16,vi (↑(List.map Bx.a cs).length:Int)),(17,vi 0)],[⟨[ag [vi u0,vi v0,vi u1,vi v1,vi th,vi gp,AV.vec f 5 (List.map Bx.a cs),vi sf]],8,0,false,false⟩,⟨[ag [vi ax,vi ay]],2,0,false,false⟩,⟨[ag [vi bx,vi by_]],2,0,false,false⟩],_,[],_⟩ (by kernel_rfl) (bc rfl b0) q0 c0 (by (try rw [w1]);all_goals exact ZaA [1,2] (by kernel_rfl) H)
noncomputable abbrev zNqP1 (cs:List Bx) (i:Int):=ag [vi (cs.getD i.toNat default).x0,vi (cs.getD i.toNat default).y0,vi (cs.getD i.toNat default).x1,vi (cs.getD i.toNat default).y1,vi (cs.getD i.toNat default).top]
noncomputable abbrev zNqP2 (cs:List Bx) (i:Int) (ax:Int) (ay:Int) (bx:Int) (by_:Int) (r:Int):=N.nea (cs.getD i.toNat default).x0 (cs.getD i.toNat default).y0 (cs.getD i.toNat default).x1 (cs.getD i.toNat default).y1 ax ay bx by_ r
theorem qHiL (f:Bool) (cs:List Bx) (ax ay bx by_ r t:Int) (fo:Bool) (n i:Int)  (dq:AV) (H :
  ((i<n)->(0<=i) /\
   (i.toNat<cs.length) /\
   (N.okNe (cs.getD i.toNat default).x0 (cs.getD i.toNat default).y0 (cs.getD i.toNat default).x1 (cs.getD i.toNat default).y1 ax ay bx by_ r) /\
   (((N.nea (cs.getD i.toNat default).x0 (cs.getD i.toNat default).y0 (cs.getD i.toNat default).x1 (cs.getD i.toNat default).y1 ax ay bx by_ r)/\((¬(fo=true))\/((cs.getD i.toNat default).top>t)))->(-9223372036854775808<=i+1/\i+1<=9223372036854775807) /\
    Zfp f cs ax ay bx by_ r ((cs.getD i.toNat default).top) true n (i+1) (Zag dq)) /\
   (¬((N.nea (cs.getD i.toNat default).x0 (cs.getD i.toNat default).y0 (cs.getD i.toNat default).x1 (cs.getD i.toNat default).y1 ax ay bx by_ r)/\((¬(fo=true))\/((cs.getD i.toNat default).top>t)))->(-9223372036854775808<=i+1/\i+1<=9223372036854775807) /\
    Zfp f cs ax ay bx by_ r t fo n (i+1) (Zag dq))) /\
  (¬(i<n)->tu [vi t,vb fo]=dq)) :
 Zfp f cs ax ay bx by_ r t fo n i (Zag dq):=by
 unfold Zfp
 rcases xq H with ⟨d2,H⟩|⟨d2,H⟩
 ·obtain ⟨k4,H⟩:=H
  have w5:(List.map Bx.a cs).length=cs.length:=List.length_map ..
  have i6:(decide (i.toNat<(List.map Bx.a cs).length))=true ↔ (i.toNat<cs.length):=(by (try rw [w5]);all_goals exact Zac)
  obtain ⟨k7,k8,H⟩:=H
  refine Zaf (G:=Zae kp21 [(4,1,.elem ((zNqP1 cs i))),(5,4,.call (vb (decide (zNqP2 cs i ax ay bx by_ r))) none)] []) 11 [true] ⟨(atC (cd Tryz.f21) [1,1,0,1,0,0,1,1,0,0,1,1]),[(3,vi r),(5,AV.ptr 0 0 0 0),(6,AV.ptr 1 0 0 0),(10,vi t),(11,vb fo),(13,AV.ptr 2 0 0 0),(15,AV.vec f 5 (List.map Bx.a cs)),(16,vi n),(17,vi i),(35,vb (bif decide (zNqP2 cs i ax ay bx by_ r) then bif !fo then true else decide ((cs.getD i.toNat default).top>t) else false))],[⟨[ag [vi ax,vi ay]],2,0,false,false⟩,⟨[ag [vi bx,vi by_]],2,0,false,false⟩,⟨[(zNqP1 cs i)],5,0,false,false⟩],[(decide (i<n))==true,decide (0<=i),decide (i.toNat<(List.map Bx.a cs).length),true,true,true,true,!((!fo)==false&&(decide (zNqP2 cs i ax ay bx by_ r)==true&&true))||true],[((List.map Bx.a cs).get?Internal i.toNat=some ((zNqP1 cs i)))],_⟩ (by kernel_rfl) (bc (Zam (Zac.2 d2)) (bc (Zac.2 k4) (bc (i6.2 k7) (bc rfl (bc rfl (bc rfl (bc rfl (bc (Bool.or_true _) b0)))))))) (qc (Zat k7) q0) (ce (@ev46 ((cs.getD i.toNat default).x0) ((cs.getD i.toNat default).y0) ((cs.getD i.toNat default).x1) ((cs.getD i.toNat default).y1) ((cs.getD i.toNat default).top) ax ay bx by_ r k8) c0) ?_
  rcases xq H with ⟨d10,H⟩|⟨d10,H⟩
  ·obtain ⟨k11,H⟩:=H
   have w12:wi (i+1)=i+1:=wI64 k11
   exact Zaf (G:=Zae kp21 [] []) 1000 [true] ⟨(atC (cd Tryz.f21) [1,1,0,1,0,0]),[(3,vi r),(5,AV.ptr 0 0 0 0),(6,AV.ptr 1 0 0 0),(10,vi (cs.getD i.toNat default).top),(11,vb true),(15,AV.vec f 5 (List.map Bx.a cs)),(16,vi n),(17,vi (wi (i+1)))],[⟨[ag [vi ax,vi ay]],2,0,false,false⟩,⟨[ag [vi bx,vi by_]],2,0,false,false⟩,⟨[(zNqP1 cs i)],5,0,false,false⟩],[(bif decide (zNqP2 cs i ax ay bx by_ r) then bif !fo then true else decide ((cs.getD i.toNat default).top>t) else false)==true,true],[],_⟩ (by kernel_rfl) (bc (Zam ((Za1 Zac (ZbP (Zbq (Zbu _)) Zac)).2 d10)) (bc rfl b0)) q0 c0 (by (try rw [w12]);all_goals exact ZaA [0,1] (by kernel_rfl) H)
  ·obtain ⟨k13,H⟩:=H
   have w14:wi (i+1)=i+1:=wI64 k13
   exact Zaf (G:=Zae kp21 [] []) 1000 [false] ⟨(atC (cd Tryz.f21) [1,1,0,1,0,0]),[(3,vi r),(5,AV.ptr 0 0 0 0),(6,AV.ptr 1 0 0 0),(10,vi t),(11,vb fo),(15,AV.vec f 5 (List.map Bx.a cs)),(16,vi n),(17,vi (wi (i+1)))],[⟨[ag [vi ax,vi ay]],2,0,false,false⟩,⟨[ag [vi bx,vi by_]],2,0,false,false⟩,⟨[(zNqP1 cs i)],5,0,false,false⟩],[(bif decide (zNqP2 cs i ax ay bx by_ r) then bif !fo then true else decide ((cs.getD i.toNat default).top>t) else false)==false],[],_⟩ (by kernel_rfl) (bc (Zak (fun h=>d10 ((Za1 Zac (ZbP (Zbq (Zbu _)) Zac)).1 h))) b0) q0 c0 (by (try rw [w14]);all_goals exact ZaA [0,1] (by kernel_rfl) H)
 ·exact Zas (G:=Zae kp21 [] []) 1000 [false] (tu [vi t,vb fo]) (by kernel_rfl) (bc (Zak (fun h=>d2 (Zac.1 h))) b0) q0 c0 H
end Go.Av

namespace Go.Av
open Go.Proofs
namespace N
noncomputable def hiF (ax ay bx by_ r:Int):List Bx->Int->Bool->Int × Bool
 | [],t,fo=>(t,fo)
 | c::cs,t,fo=>if nea c.x0 c.y0 c.x1 c.y1 ax ay bx by_ r/\(¬fo=true\/c.top>t) then hiF ax ay bx by_ r cs c.top true else hiF ax ay bx by_ r cs t fo
def okHi (cs:List Bx) (ax ay bx by_ r:Int):Prop:=cs.length<=1000/\(∀ c ∈ cs,ccb c)/\cc ax/\cc ay/\cc bx/\cc by_/\cc r
def blk1 (r:Int) (c:Bx):Bx:=⟨c.x0-r,c.y0-r,c.x1+r,c.y1+r,c.top⟩
def blk (cs:List Bx) (z r:Int):List Bx:=(cs.filter fun c=>decide (c.top+1000>z)).map (blk1 r)
def bcs:List Bx:=[⟨10000,0,20000,5000,8000⟩]
end N
theorem hi_loop {f:Bool} {cs:List Bx} {ax ay bx by_ r:Int} (h:N.okHi cs ax ay bx by_ r) (m:Nat):∀ (i:Nat) (t:Int) (fo:Bool),i+m=cs.length ->
  Zfp f cs ax ay bx by_ r t fo cs.length i (Zag (.tup [.int .i64 (N.hiF ax ay bx by_ r (cs.drop i) t fo).1,.bool (N.hiF ax ay bx by_ r (cs.drop i) t fo).2])):=by
 obtain ⟨h1,h2,h3,h4,h5,h6,h7⟩:=h
 induction m with
 | zero =>
  intro i t fo e
  refine qHiL _ _ _ _ _ _ _ _ _ _ _ _ ⟨fun x=>by omega,fun _ => ?_⟩
  rw [List.drop_eq_nil_of_le (by omega)];rfl
 | succ m ih =>
  intro i t fo e
  have hi:i<cs.length:=by omega
  refine qHiL _ _ _ _ _ _ _ _ _ _ _ _ ⟨fun x => ?_,fun x=>by omega⟩
  rw [Int.toNat_natCast,show (i:Int)+1=((i+1:Nat):Int) by omega,ZbJ hi]
  obtain ⟨c1,c2,c3,c4⟩:=h2 _ (Zfa hi)
  refine ⟨by omega,hi,⟨c1,c2,c3,c4,h3,h4,h5,h6,h7⟩,fun k=>⟨by omega,?_⟩,fun k=>⟨by omega,?_⟩⟩
  ·rw [N.hiF,if_pos k];exact ih (i+1) _ _ (by omega)
  ·rw [N.hiF,if_neg k];exact ih (i+1) _ _ (by omega)
theorem ev21 (f:Bool) (cs:List Bx) (u0 v0 u1 v1 th gp sf ax ay bx by_ r:Int) (h:N.okHi cs ax ay bx by_ r):Ev M1 (.pure 21 [.agg [.int .i64 u0,.int .i64 v0,.int .i64 u1,.int .i64 v1,.int .i64 th,.int .i64 gp,.vec f 5 (cs.map Bx.a),.int .i64 sf],.agg [.int .i64 ax,.int .i64 ay],.agg [.int .i64 bx,.int .i64 by_],.int .i64 r]) (.tup [.int .i64 (N.hiF ax ay bx by_ r cs 0 false).1,.bool (N.hiF ax ay bx by_ r cs 0 false).2]) []:=by
 have:=hi_loop (f:=f) h cs.length 0 0 false (by omega)
 exact call21 (qHi _ _ _ _ _ _ _ _ _ _ _ _ _ _ _ this)
section
variable {f:Bool} {cs:List Bx} {z r:Int}
variable {u0 v0 u1 v1 th gp sf:Int}
end
end Go.Av

namespace Go.Av
open Go.Proofs
set_option maxRecDepth 100000
def fi9:Fi:=⟨22,[.tmp 8]⟩
def kp9:List (Nat × List Nat):=[(0,[3,4,5,6]),(1,[9]),(2,[8])]
def fi11:Fi:=⟨7,[.tmp 2]⟩
def kp11:List (Nat × List Nat):=[(0,[1]),(1,[2])]
def qHgt_at (f:Bool) (cs:List Bx) (u0 v0 u1 v1 th gp sf:Int) (ax ay bx by_ r:Int) (Q:AV->Heap->Prop):Prop:=Wp M1 (.run fi9 (atC (cd Tryz.f9) []) [(0,.agg [.int .i64 u0,.int .i64 v0,.int .i64 u1,.int .i64 v1,.int .i64 th,.int .i64 gp,.vec f 5 (cs.map Bx.a),.int .i64 sf]),(1,.agg [.int .i64 ax,.int .i64 ay]),(2,.agg [.int .i64 bx,.int .i64 by_]),(3,.int .i64 r)] []) Q
def qFew_at (f:Bool) (cs:List Bx) (u0 v0 u1 v1 th gp sf:Int) (Q:AV->Heap->Prop):Prop:=Wp M1 (.run fi11 (atC (cd Tryz.f11) []) [(0,.agg [.int .i64 u0,.int .i64 v0,.int .i64 u1,.int .i64 v1,.int .i64 th,.int .i64 gp,.vec f 5 (cs.map Bx.a),.int .i64 sf])] []) Q
theorem call9 {args:List AV} {d:AV} (h:wc M1 fi9 Tryz.f9 args d):Ev M1 (.pure 9 args) d []:=pcl _ _ (by kernel_rfl) h
theorem call11 {args:List AV} {d:AV} (h:wc M1 fi11 Tryz.f11 args d):Ev M1 (.pure 11 args) d []:=pcl _ _ (by kernel_rfl) h
theorem qHgt (f:Bool) (cs:List Bx) (u0 v0 u1 v1 th gp sf:Int) (ax ay bx by_ r:Int)  (dq:AV) (H :
  (N.okHi cs ax ay bx by_ r) /\
  (-9223372036854775808<=(1000+if (N.hiF ax ay bx by_ r cs 0 false).fst>0 then (N.hiF ax ay bx by_ r cs 0 false).fst else 0)/\(1000+if (N.hiF ax ay bx by_ r cs 0 false).fst>0 then (N.hiF ax ay bx by_ r cs 0 false).fst else 0)<=9223372036854775807) /\
  vi (1000+if (N.hiF ax ay bx by_ r cs 0 false).fst>0 then (N.hiF ax ay bx by_ r cs 0 false).fst else 0)=dq) :
 qHgt_at f cs u0 v0 u1 v1 th gp sf ax ay bx by_ r (Zag dq):=by
 unfold qHgt_at
 obtain ⟨k1,k2,H⟩:=H
 have w3:wi (1000+if (N.hiF ax ay bx by_ r cs 0 false).fst>0 then (N.hiF ax ay bx by_ r cs 0 false).fst else 0)=1000+if (N.hiF ax ay bx by_ r cs 0 false).fst>0 then (N.hiF ax ay bx by_ r cs 0 false).fst else 0:=wI64 k2
 exact Zas (G:=Zae kp9 [(1,4,.call (tu [vi (N.hiF ax ay bx by_ r cs 0 false).fst,vb (N.hiF ax ay bx by_ r cs 0 false).2]) none)] []) 1000 [] (vi (wi (1000+if (N.hiF ax ay bx by_ r cs 0 false).fst>0 then (N.hiF ax ay bx by_ r cs 0 false).fst else 0))) (by kernel_rfl) (bc rfl (bc rfl (bc rfl b0))) q0 (ce (@ev21 f cs u0 v0 u1 v1 th gp sf ax ay bx by_ r k1) c0) (by (try rw [w3]);all_goals exact H)
theorem qFew (f:Bool) (cs:List Bx) (u0 v0 u1 v1 th gp sf:Int)  (dq:AV) (H :
  vb (decide ((↑cs.length:Int)<=6))=dq) :
 qFew_at f cs u0 v0 u1 v1 th gp sf (Zag dq):=by
 unfold qFew_at
 have w1:(List.map Bx.a cs).length=cs.length:=List.length_map ..
 exact Zas (G:=Zae kp11 [] []) 1000 [] (vb (decide ((↑(List.map Bx.a cs).length:Int)<=6))) (by kernel_rfl) (bc rfl b0) q0 c0 (by (try rw [w1]);all_goals exact H)
end Go.Av

namespace Go.Av
open Go.Proofs
noncomputable def N.hgt (cs:List Bx) (ax ay bx by_ r:Int):Int:=1000+if (N.hiF ax ay bx by_ r cs 0 false).fst>0 then (N.hiF ax ay bx by_ r cs 0 false).fst else 0
def N.okHg (cs:List Bx) (ax ay bx by_ r:Int):Prop:=N.okHi cs ax ay bx by_ r /\ ∀ c ∈ cs,c.top<=1000000000
theorem hiF_le {ax ay bx by_ r:Int}:∀ (cs:List Bx) (t:Int) (fo:Bool),t<=1000000000->(∀ c ∈ cs,c.top<=1000000000)->(N.hiF ax ay bx by_ r cs t fo).1<=1000000000:=by
 intro cs
 induction cs with
 | nil=>intro t fo h _;exact h
 | cons c cs ih =>
  intro t fo h h2
  rw [N.hiF]
  split
  ·exact ih _ _ (h2 c (.head _)) fun d hd=>h2 d (.tail _ hd)
  ·exact ih _ _ h fun d hd=>h2 d (.tail _ hd)
theorem hgt_bd {cs:List Bx} {ax ay bx by_ r:Int} (h:N.okHg cs ax ay bx by_ r):1000<=N.hgt cs ax ay bx by_ r/\N.hgt cs ax ay bx by_ r<=1000001000:=by
 have:=hiF_le (ax:=ax) (ay:=ay) (bx:=bx) (by_:=by_) (r:=r) cs 0 false (by omega) h.2
 unfold N.hgt
 split <;> omega
theorem ev9 (f:Bool) (cs:List Bx) (u0 v0 u1 v1 th gp sf ax ay bx by_ r:Int) (h:N.okHg cs ax ay bx by_ r):Ev M1 (.pure 9 [.agg [.int .i64 u0,.int .i64 v0,.int .i64 u1,.int .i64 v1,.int .i64 th,.int .i64 gp,.vec f 5 (cs.map Bx.a),.int .i64 sf],.agg [.int .i64 ax,.int .i64 ay],.agg [.int .i64 bx,.int .i64 by_],.int .i64 r]) (.int .i64 (N.hgt cs ax ay bx by_ r)) []:=by
 have b:=hgt_bd h
 exact call9 (qHgt _ _ _ _ _ _ _ _ _ _ _ _ _ _ _ ⟨h.1,by show _<=N.hgt cs ax ay bx by_ r/\N.hgt cs ax ay bx by_ r<=_;omega,rfl⟩)
theorem ev11 (f:Bool) (cs:List Bx) (u0 v0 u1 v1 th gp sf:Int):Ev M1 (.pure 11 [.agg [.int .i64 u0,.int .i64 v0,.int .i64 u1,.int .i64 v1,.int .i64 th,.int .i64 gp,.vec f 5 (cs.map Bx.a),.int .i64 sf]]) (.bool (decide (cs.length<=6))) []:=
 call11 (qFew _ _ _ _ _ _ _ _ _ _ (congrArg AV.bool (ZcW (by omega))))
end Go.Av

namespace Go.Av
open Go.Proofs
set_option maxRecDepth 100000
end Go.Av

namespace Go.Av
structure EG where
 keep:List (Nat × List (Nat × List Nat))
 hot:List (Nat × List (Nat × List Nat))
 known:List (Nat × List AV × AV):=[]
mutual
def beqA:AV->AV->Bool
 | .bool a,.bool b=>a==b
 | .int k n,.int j m=>decide (k=j)&&n==m
 | .str a,.str b=>a==b
 | .agg a,.agg b=>beqAL a b
 | .tup a,.tup b=>beqAL a b
 | .vec f es a,.vec g fs b=>f==g&&(es==fs&&beqAL a b)
 | .nilp,.nilp=>true
 | .vnil,.vnil=>true
 | _,_=>false
def beqAL:List AV->List AV->Bool
 | [],[]=>true
 | a::l,b::m=>beqA a b&&beqAL l m
 | _,_=>false
end
mutual
theorem beqA_eq:∀ (a b:AV),beqA a b=true->a=b
 | .bool a,b,h=>by cases b <;> simp [beqA] at h;rw [h]
 | .int k n,b,h=>by cases b <;> simp [beqA] at h;rw [h.1,h.2]
 | .str a,b,h=>by cases b <;> simp [beqA] at h;rw [h]
 | .agg a,b,h=>by cases b <;> simp [beqA] at h;rw [beqAL_eq a _ h]
 | .tup a,b,h=>by cases b <;> simp [beqA] at h;rw [beqAL_eq a _ h]
 | .vec f es a,b,h=>by cases b <;> simp [beqA] at h;rw [h.1,h.2.1,beqAL_eq a _ h.2.2]
 | .nilp,b,h=>by cases b <;> simp [beqA] at h;rfl
 | .vnil,b,h=>by cases b <;> simp [beqA] at h;rfl
 | .any,b,h=>by cases b <;> simp [beqA] at h
 | .ptr ..,b,h=>by cases b <;> simp [beqA] at h
 | .eptr ..,b,h=>by cases b <;> simp [beqA] at h
 | .row ..,b,h=>by cases b <;> simp [beqA] at h
 | .ref ..,b,h=>by cases b <;> simp [beqA] at h
 | .func ..,b,h=>by cases b <;> simp [beqA] at h
 | .nilf,b,h=>by cases b <;> simp [beqA] at h
theorem beqAL_eq:∀ (a b:List AV),beqAL a b=true->a=b
 | [],b,h=>by cases b <;> simp [beqAL] at h;rfl
 | a::l,b,h=>by
  cases b with
  | nil=>simp [beqAL] at h
  | cons b m=>simp [beqAL] at h;rw [beqA_eq a b h.1,beqAL_eq l m h.2]
end
def ZgJ (f:Nat) (args:List AV):List (Nat × List AV × AV)->Option AV
 | []=>none
 | (g,bs,v)::l=>bif Nat.beq f g&&beqAL args bs then some v else ZgJ f args l
theorem known_in {f:Nat} {args:List AV} {v:AV}:∀ {l:List (Nat × List AV × AV)},ZgJ f args l=some v->(f,args,v) ∈ l
 | [],h=>by simp [ZgJ] at h
 | (g,bs,u)::l,h=>by
  unfold ZgJ at h
  cases hb:(Nat.beq f g&&beqAL args bs) with
  | true =>
   rw [hb] at h
   simp only [cond_true,Option.some.injEq] at h
   simp only [Bool.and_eq_true,Nat.beq_eq] at hb
   rw [h,hb.1,beqAL_eq _ _ hb.2];exact .head _
  | false=>rw [hb] at h;exact .tail _ (known_in h)
def ofFn:List (Nat × List (Nat × List Nat))->Nat->List (Nat × List Nat)
 | [],_=>[]
 | (f,l)::t,g=>bif Nat.beq f g then l else ofFn t g
def runX (M:Mach) (fi:Fi) (kp ht:List (Nat × List Nat)) (call:Za6):Nat->List Item->Vars->Heap->Option (AV × Heap)
 | 0,_,_,_=>none
 | n+1,todo,env,L =>
  match todo with
  | []=>match Zff M.P fi env L with
   | some v=>some (v,L)
   | none=>none
  | .inBlock _::k=>runX M fi kp ht call n k env L
  | .inLoop b::k=>runX M fi kp ht call n (.code b :: .inLoop b::k) env L
  | .code c::k =>
   match c with
   | .skip=>runX M fi kp ht call n k env L
   | .seq a b=>runX M fi kp ht call n (.code a :: .code b::k) env L
   | .cond c a b=>match evV env c with
    | .bool t=>runX M fi kp ht call n (.code (bif t then a else b)::k) env L
    | _=>none
   | .block id b=>runX M fi kp ht call n (.code b :: .inBlock id::k) env L
   | .loop b=>runX M fi kp ht call n (.code b :: .inLoop b::k) env L
   | .exit id=>match exitTo id k with
    | some k'=>runX M fi kp ht call n k' env L
    | none=>none
   | .region id ops draw =>
    match (bif draw then Zh0 (hotOf ops (Zbd ht id)) ops else true) with
    | false=>none
    | true =>
     match ZaJ M.P M.inl call fi.n ops (fun _=>none) (bif draw then hotOf ops (Zbd ht id) else fun _=>2) (List.range ops.size) ⟨lift env,L,[],[],[]⟩ with
     | some s=>match s.asm.all (fun b=>b),s.eqs with
      | true,[]=>runX M fi kp ht call n k (Zfd (Zbd kp id) s.env) s.L
      | _,_=>none
     | none=>none
   | .ret=>match Zff M.P fi env L with
    | some v=>some (v,L)
    | none=>none
   | _=>none
  | _=>none
def ansX (M:Mach) (K:List (Nat × List AV × AV)) (ex:FuncId->List AV->Heap->Option (AV × Heap)):Za6:=fun g args L =>
 match M.inl g with
 | true=>match ex g args L with
  | some (v,L')=>some (v,some L')
  | none=>none
 | false=>match ZgJ g args K with
  | some d=>some (d,none)
  | none=>match ex g args [] with
   | some (v,L')=>match pureA L' v with
    | some d=>bif (versA L' v).all (fun b=>b)&&d.clean then some (d,none) else none
    | none=>none
   | none=>none
def execX (M:Mach) (G:EG):Nat->FuncId->List AV->Heap->Option (AV × Heap)
 | 0=>fun _ _ _=>none
 | n+1=>fun f args L =>
  match (M.P ()).funcs[f]? with
  | some fn=>match fn.body,fn.name == "runtime.NumGoroutine" with
   | some c,false=>runX M ⟨fn.ntmps,fn.results.toList⟩ (ofFn G.keep f) (ofFn G.hot f) (ansX M G.known (execX M G n)) 100000 [.code c] (Za2 0 args) L
   | _,_=>none
  | none=>none
def GoodC (inl:FuncId->Bool) (call:Za6) (c:CF):Prop:=
 (c.own=true/\inl c.f=true /\ ∃ o,call c.f c.args c.L=some (c.v,o)/\c.L'=o.getD c.L) \/
 (inl c.f=false /\ ∃ L1,call c.f c.args []=some (c.v,some L1)) \/
 (c.own=false/\inl c.f=false/\call c.f c.args []=some (c.v,none))
section
variable {P:Unit->Program}
theorem ZbE {x:Option AV} {r:SR} (h:Zb2 x=some r):r.calls=[]:=by
 unfold Zb2 at h;split at h
 ·simp only [Option.some.injEq] at h;subst h;rfl
 ·simp at h
theorem intBin_no {op:BinOp} {k:IntKind} {x y:Int} {r:SR} (h:ZhV op k x y=some r):r.calls=[]:=by
 unfold ZhV at h
 split at h <;> first | (simp only [Option.some.injEq] at h;subst h;rfl) | (simp at h)
theorem strBin_no {op:BinOp} {x y:List UInt8} {r:SR} (h:ZhD op x y=some r):r.calls=[]:=by
 unfold ZhD at h
 split at h <;> first | (simp only [Option.some.injEq] at h;subst h;rfl) | (simp at h)
theorem binA_no {op:BinOp} {T:TypeId} {x y:AV} {r:SR} (h:binA P op T x y=some r):r.calls=[]:=by
 unfold binA at h
 split at h
 ·simp only [Option.some.injEq] at h;subst h;rfl
 ·simp only [Option.some.injEq] at h;subst h;rfl
 ·split at h
  ·exact intBin_no h
  ·simp at h
 ·exact strBin_no h
 ·split at h
  ·exact ZbE h
  ·simp at h
 ·split at h
  ·exact ZbE h
  ·simp at h
 ·simp at h
theorem boxA_no {L:Heap} {x:AV} {r:SR} (h:boxA L x=some r):r.calls=[]:=by
 unfold boxA at h;split at h
 ·simp only [Option.some.injEq] at h;subst h;rfl
 ·simp at h
theorem loadA_no {el:Option AV} {L:Heap} {T:TypeId} {p:AV} {r:SR} (h:loadA P el L T p=some r):r.calls=[]:=by
 unfold loadA at h
 repeat' split at h
 all_goals first | (simp only [Option.some.injEq] at h;subst h;rfl) | (simp at h)
theorem storeA_no {el:Option AV} {L:Heap} {T:TypeId} {p v:AV} {r:SR} (h:ZhE P el L T p v=some r):r.calls=[]:=by
 unfold ZhE at h
 repeat' split at h
 all_goals first | (simp only [Option.some.injEq] at h;subst h;rfl) | (simp at h)
theorem Zhj {keep:Bool} {L:Heap} {T:TypeId} {len:Nat} {parts:List (Nat × AV)} {r:SR} (h:ZbC P keep L T len parts=some r):r.calls=[]:=by
 unfold ZbC at h
 cases keep <;> simp only [cond_true,cond_false] at h <;> (repeat' split at h) <;> first | (simp only [Option.some.injEq] at h;subst h;rfl) | (simp at h)
theorem indexAddrA_no {L:Heap} {T:TypeId} {x i:AV} {r:SR} (h:ZcN P L T x i=some r):r.calls=[]:=by
 unfold ZcN at h
 repeat' split at h
 all_goals first | (simp only [Option.some.injEq] at h;subst h;rfl) | (simp at h)
theorem indexA_no {T:TypeId} {x i:AV} {r:SR} (h:ZhW P T x i=some r):r.calls=[]:=by
 unfold ZhW at h
 repeat' split at h
 all_goals first | (simp only [Option.some.injEq] at h;subst h;rfl) | (simp at h)
theorem sliceA_no {L:Heap} {T:TypeId} {x:AV} {lo hi mx:Option AV} {r:SR} (h:ZhG P L T x lo hi mx=some r):r.calls=[]:=by
 unfold ZhG at h
 repeat' split at h
 all_goals first | (simp only [Option.some.injEq] at h;subst h;rfl) | (simp at h)
theorem Zh2 {L:Heap} {T:TypeId} {s x:AV} {r:SR} (h:Zd4 P L T s x=some r):r.calls=[]:=by
 unfold Zd4 at h
 repeat' split at h
 all_goals first | (simp only [Option.some.injEq] at h;subst h;rfl) | (simp at h)
theorem clearA_no {L:Heap} {T:TypeId} {d:AV} {r:SR} (h:clearA P L T d=some r):r.calls=[]:=by
 unfold clearA at h
 repeat' split at h
 all_goals first | (simp only [Option.some.injEq] at h;subst h;rfl) | (simp at h)
theorem lenA_no {L:Heap} {T:TypeId} {x:AV} {r:SR} (h:lenA P L T x=some r):r.calls=[]:=by
 unfold lenA at h
 repeat' split at h
 all_goals first | (simp only [Option.some.injEq] at h;subst h;rfl) | (simp at h)
theorem makeSliceA_no {L:Heap} {T:TypeId} {a b:AV} {r:SR} (h:Zdh P L T a b=some r):r.calls=[]:=by
 unfold Zdh at h
 repeat' split at h
 all_goals first | (simp only [Option.some.injEq] at h;subst h;rfl) | (simp at h)
theorem callF_good {inl:FuncId->Bool} {call:Za6} {L:Heap} {g:FuncId} {args:List AV} {r:SR} (h:Zfy inl call L g args=some r):∀ c ∈ r.calls,GoodC inl call c:=by
 unfold Zfy at h
 cases hi:inl g with
 | true =>
  rw [hi] at h
  simp only [cond_true] at h
  split at h
  ·rename_i rs args' Lc hin
   split at h
   ·rename_i v o hc
    split at h
    ·simp only [Option.some.injEq] at h
     subst h
     intro c hm
     simp only [List.mem_singleton] at hm
     subst hm
     exact .inl ⟨rfl,hi,o,hc,rfl⟩
    ·simp at h
   ·simp at h
  ·simp at h
 | false =>
  rw [hi] at h
  simp only [cond_false] at h
  split at h
  ·rename_i ds hds
   split at h
   ·rename_i d hc
    split at h
    ·split at h
     all_goals
      simp only [Option.some.injEq] at h
      subst h
      intro c hm
      simp only [List.mem_singleton] at hm
      subst hm
      exact .inr (.inr ⟨rfl,hi,hc⟩)
    ·simp at h
   ·rename_i v L1 hc
    split at h
    ·split at h
     ·split at h
      ·simp only [Option.some.injEq] at h
       subst h
       intro c hm
       simp only [List.mem_singleton] at hm
       subst hm
       exact .inr (.inl ⟨hi,L1,hc⟩)
      ·simp at h
     ·simp at h
    ·simp at h
   ·simp at h
  ·simp at h
theorem Za9 {inl:FuncId->Bool} {call:Za6} {r:SR} (h:r.calls=[]):∀ c ∈ r.calls,GoodC inl call c:=by
 rw [h];intro c hc;cases hc
theorem callA_good {inl:FuncId->Bool} {call:Za6} {ρ:Operand->AV} {L:Heap} {c:Call} {r:SR} (h:ZcG P inl call ρ L c=some r):∀ c ∈ r.calls,GoodC inl call c:=by
 unfold ZcG at h
 split at h
 ·apply Za9
  split at h
  ·split at h
   ·exact Zh2 h
   ·exact Zh2 h
   ·simp at h
  ·exact clearA_no h
  ·exact lenA_no h
  ·exact ZbE h
  ·exact ZbE h
  ·exact ZbE h
  ·simp at h
 ·split at h
  ·exact callF_good h
  ·simp at h
 ·simp at h
theorem stepA_good {inl:FuncId->Bool} {call:Za6} {ρ:Zbs->Operand->AV} {L:Heap} {o:Oper} {r:SR} (h:Zbx P inl call none ρ L o=some r):∀ c ∈ r.calls,GoodC inl call c:=by
 unfold Zbx at h
 simp only at h
 split at h
 ·simp only [Option.some.injEq] at h;subst h;exact Za9 rfl
 ·simp only [Option.some.injEq] at h;subst h;exact Za9 rfl
 ·split at h
  ·exact Za9 (ZbE h)
  ·exact Za9 (ZbE h)
 ·split at h
  ·exact Za9 (boxA_no h)
  ·simp at h
 ·exact Za9 (boxA_no h)
 ·exact Za9 (ZbE h)
 ·exact Za9 (Zhj h)
 ·exact Za9 (loadA_no h)
 ·exact Za9 (storeA_no h)
 ·split at h
  ·simp only [Option.some.injEq] at h;subst h;exact Za9 rfl
  ·simp only [Option.some.injEq] at h;subst h;exact Za9 rfl
  ·simp at h
 ·exact Za9 (binA_no h)
 ·exact Za9 (ZbE h)
 ·exact Za9 (ZbE h)
 ·simp only [Option.some.injEq] at h;subst h;exact Za9 rfl
 ·exact Za9 (makeSliceA_no h)
 ·exact Za9 (sliceA_no h)
 ·exact Za9 (ZbE h)
 ·exact Za9 (ZbE h)
 ·exact Za9 (indexAddrA_no h)
 ·exact Za9 (indexA_no h)
 ·split at h
  ·exact Za9 (ZbE h)
  ·simp at h
 ·exact callA_good h
 ·simp at h
theorem runOp_good {inl:FuncId->Bool} {call:Za6} {n:Nat} {ops:Array Oper} {hot:Nat} {o:Oper} {s s':RS} (h:Zb1 P inl call n ops none hot o s=some s') (hs:∀ c ∈ s.calls,GoodC inl call c) :
  ∀ c ∈ s'.calls,GoodC inl call c:=by
 unfold Zb1 at h
 split at h
 ·simp at h
 ·split at h
  ·simp only [Option.some.injEq] at h;subst h;exact hs
  ·simp at h
 ·split at h
  ·split at h
   ·simp at h
   ·split at h
    ·simp only [Option.some.injEq] at h;subst h;exact hs
    ·simp at h
  ·rename_i r hr
   have hg:=stepA_good hr
   split at h
   ·simp at h
   ·split at h
    ·simp at h
    ·split at h
     ·simp only [Option.some.injEq] at h;subst h
      intro c hc
      rcases List.mem_append.1 hc with hc | hc
      ·exact hs c hc
      ·exact hg c hc
     ·simp only [Option.some.injEq] at h;subst h
      intro c hc
      rcases List.mem_append.1 hc with hc | hc
      ·exact hs c hc
      ·obtain ⟨c0,h1,rfl⟩:=List.mem_map.1 hc
       exact hg c0 h1
theorem runOps_good {inl:FuncId->Bool} {call:Za6} {n:Nat} {ops:Array Oper} {hot:Nat->Nat}:∀ (l:List Nat) {s s':RS},ZaJ P inl call n ops (fun _=>none) hot l s=some s'->(∀ c ∈ s.calls,GoodC inl call c) ->
  ∀ c ∈ s'.calls,GoodC inl call c:=by
 intro l
 induction l with
 | nil=>intro s s' h hs;simp only [ZaJ,Option.some.injEq] at h;subst h;exact hs
 | cons i rest ih =>
  intro s s' h hs
  simp only [ZaJ] at h
  split at h
  ·exact ih h hs
  ·split at h
   ·rename_i s1 h1
    exact ih h (runOp_good h1 hs)
   ·simp at h
end
def AnsOk (M:Mach) (call:Za6):Prop:=∀ f args L v o,call f args L=some (v,o) ->
 (M.inl f=true->Ev M (.own f args L) v (o.getD L))/\(M.inl f=false->o=none/\Ev M (.pure f args) v [])
theorem runX_sound {M:Mach} {fi:Fi} {kp ht:List (Nat × List Nat)} {call:Za6} (hc:AnsOk M call):∀ (n:Nat) {todo:List Item} {env:Vars} {L L':Heap} {v:AV},runX M fi kp ht call n todo env L=some (v,L') ->
  Ev M (.run fi todo env L) v L':=by
 intro n
 induction n with
 | zero=>intro todo env L L' v h;simp [runX] at h
 | succ n ih =>
  intro todo env L L' v h
  unfold runX at h
  split at h
  ·split at h
   ·rename_i w hf
    simp only [Option.some.injEq,Prod.mk.injEq] at h
    obtain ⟨rfl,rfl⟩:=h
    exact .done hf ⟨rfl,rfl⟩
   ·simp at h
  ·exact .inBlock (ih h)
  ·exact .inLoop (ih h)
  ·split at h
   ·exact .skip (ih h)
   ·exact .seq (ih h)
   ·split at h
    ·rename_i t ht
     exact .cond t ht (ih h)
    ·simp at h
   ·exact .block (ih h)
   ·exact .loop (ih h)
   ·split at h
    ·rename_i k' hk
     exact .exit hk (ih h)
    ·simp at h
   ·split at h
    ·simp at h
    ·rename_i id ops draw hd
     split at h
     ·rename_i s hr
      split at h
      ·rename_i ha he
       have hg:=runOps_good _ hr (by intro c hc;cases hc)
       refine .region call (fun _=>none) _ _ s (fun h1 => ?_) hr (fun b hb => ?_) (fun p hp => ?_) (fun c hcm _ ho => ?_) (fun c hcm _ ho => ?_) (ih h)
       ·subst h1;exact hd
       ·exact (List.all_eq_true.1 ha) b hb
       ·rw [he] at hp;cases hp
       ·rcases hg c hcm with ⟨_,h2,o,h3,h4⟩ | ⟨h2,L1,h3⟩ | ⟨h2,_⟩
        ·rw [h4];exact (hc _ _ _ _ _ h3).1 h2
        ·have:=((hc _ _ _ _ _ h3).2 h2).1;simp at this
        ·rw [ho] at h2;simp at h2
       ·rcases hg c hcm with ⟨h2,_⟩ | ⟨h2,L1,h3⟩ | ⟨_,h2,h3⟩
        ·rw [ho] at h2;simp at h2
        ·have:=((hc _ _ _ _ _ h3).2 h2).1;simp at this
        ·exact ((hc _ _ _ _ _ h3).2 h2).2
      ·simp at h
     ·simp at h
   ·split at h
    ·rename_i w hf
     simp only [Option.some.injEq,Prod.mk.injEq] at h
     obtain ⟨rfl,rfl⟩:=h
     exact .ret hf ⟨rfl,rfl⟩
    ·simp at h
   ·simp at h
  ·simp at h
def KnownOk (M:Mach) (G:EG):Prop:=∀ k ∈ G.known,Ev M (.pure k.1 k.2.1) k.2.2 []
theorem ansX_ok {M:Mach} {G:EG} (hK:KnownOk M G) {ex:FuncId->List AV->Heap->Option (AV × Heap)} (h:∀ f args L v L',ex f args L=some (v,L')->Ev M (.own f args L) v L'):AnsOk M (ansX M G.known ex):=by
 intro f args L v o hc
 unfold ansX at hc
 split at hc
 ·rename_i hi
  refine ⟨fun _ => ?_,fun h2=>by rw [hi] at h2;simp at h2⟩
  split at hc
  ·rename_i w L' he
   simp only [Option.some.injEq,Prod.mk.injEq] at hc
   obtain ⟨rfl,rfl⟩:=hc
   exact h _ _ _ _ _ he
  ·simp at hc
 ·rename_i hi
  refine ⟨fun h2=>by rw [hi] at h2;simp at h2,fun _ => ?_⟩
  split at hc
  ·rename_i d hd
   simp only [Option.some.injEq,Prod.mk.injEq] at hc
   obtain ⟨rfl,rfl⟩:=hc
   exact ⟨rfl,hK _ (known_in hd)⟩
  split at hc
  ·rename_i w L' he
   split at hc
   ·rename_i d hd
    cases hb:((versA L' w).all (fun b=>b)&&d.clean) with
    | false=>rw [hb] at hc;simp at hc
    | true =>
     rw [hb] at hc
     simp only [cond_true,Option.some.injEq,Prod.mk.injEq] at hc
     obtain ⟨rfl,rfl⟩:=hc
     simp only [Bool.and_eq_true,List.all_eq_true] at hb
     exact ⟨rfl,.pure (.mono (h _ _ _ _ _ he) fun x K ⟨e1,e2⟩=>by subst e1;subst e2;exact ⟨d,d,hd,hb.1,hb.2,.refl d,rfl,rfl⟩)⟩
   ·simp at hc
  ·simp at hc
theorem execX_sound {M:Mach} {G:EG} (hK:KnownOk M G):∀ (n:Nat) (f:FuncId) (args:List AV) (L:Heap) (v:AV) (L':Heap),execX M G n f args L=some (v,L')->Ev M (.own f args L) v L':=by
 intro n
 induction n with
 | zero=>intro f args L v L' h;simp [execX] at h
 | succ n ih =>
  intro f args L v L' h
  unfold execX at h
  split at h
  ·rename_i fn hf
   split at h
   ·rename_i c hb hn
    exact .own fn c hf hb hn (runX_sound (ansX_ok hK fun f args L v L' h=>ih f args L v L' h) _ h)
   ·simp at h
  ·simp at h
def execP (M:Mach) (G:EG) (n:Nat) (f:FuncId) (args:List AV):Option AV:=
 match execX M G n f args [] with
 | some (v,L')=>match pureA L' v with
  | some d=>bif (versA L' v).all (fun b=>b)&&d.clean then some d else none
  | none=>none
 | none=>none
theorem exec_ev {M:Mach} {G:EG} (hK:KnownOk M G) (n:Nat) {f:FuncId} {args:List AV} {d:AV} (h:execP M G n f args=some d):Ev M (.pure f args) d []:=by
 unfold execP at h
 split at h
 ·rename_i v L' he
  split at h
  ·rename_i d0 hd
   cases hb:((versA L' v).all (fun b=>b)&&d0.clean) with
   | false=>rw [hb] at h;simp at h
   | true =>
    rw [hb] at h
    simp only [cond_true,Option.some.injEq] at h
    subst h
    simp only [Bool.and_eq_true,List.all_eq_true] at hb
    exact .pure (.mono (execX_sound hK n _ _ _ _ _ he) fun x K ⟨e1,e2⟩=>by subst e1;subst e2;exact ⟨d0,d0,hd,hb.1,hb.2,.refl d0,rfl,rfl⟩)
  ·simp at h
 ·simp at h
end Go.Av

namespace Go.Av
open Go.Proofs
def awkT:List (Nat × List (Nat × List Nat)):=[(5,[(0,[]),(1,[1]),(2,[1,2,3]),(3,[0])]),
 (7,[(0,[1,2,3]),(1,[1,2,3,7]),(2,[1,2,7,11,12,13]),(3,[1,2,7,11,12,13,14]),(4,[1,2,7,9,11,12,13]),(5,[1,2,7,9,11,12,13,21]),(6,[1,2,7,11,12,13]),(7,[1,2,7,11,12,13]),(8,[6])]),
 (15,[(0,[0]),(1,[0])]),
 (16,[(0,[3,4,5]),(1,[3,4,5,14]),(2,[6,7]),(3,[3,4,5,17]),(4,[6,7]),(5,[3,4,5,31]),(6,[6,7]),(7,[3,4,5,8]),(8,[3,4,5,8,44]),(9,[6,7]),(10,[3,4,5,8,47]),(11,[6,7]),(12,[3,5,8,9]),(13,[5,8,9,52,53,54]),(14,[5,8,9,52,53,54,55]),(15,[5,8,9,11,52,53,54]),(16,[5,8,9,52,53,54]),(17,[5,8,9,52,53,54]),(18,[8,9]),(19,[12]),(20,[12,90]),(21,[6,7]),(22,[6,7])]),
 (17,[(0,[0,1,4]),(1,[4])]),
 (18,[(0,[0]),(1,[0,3]),(2,[0,3,4]),(3,[0,3,4,8]),(4,[0,3,4]),(5,[0,3,4]),(6,[2])]),
 (19,[(0,[3,4,5]),(1,[3,4,5,21]),(2,[6]),(3,[3,4,5,7,8]),(4,[3,4,5,7,8,9]),(5,[7,8,54]),(6,[6]),(7,[6])]),
 (24,[(0,[0]),(1,[5,6,7]),(2,[5,6,7,8]),(3,[4,5,6,7]),(4,[5,6,7,16]),(5,[2]),(6,[5,6,7]),(7,[2])]),
 (33,[(0,[0,1]),(1,[4])]),
 (34,[(0,[1]),(1,[2])]),
 (35,[(0,[1]),(1,[2])]),
 (36,[(0,[2,3,4]),(1,[5])]),
 (37,[(0,[1,2,3]),(1,[4])]),
 (38,[(0,[0,1]),(1,[0,1,5]),(2,[0,1,5,6]),(3,[0,1,5,6,7]),(4,[0,1,5,6,7,25,26]),(5,[0,1,5,6,7,25,26,27]),(6,[0,1,5,6,7,8,25,26]),(7,[0,1,5,6,7,25,26]),(8,[0,1,5,6,7,25,26]),(9,[0,1,5,6,7]),(10,[0,1,5,6,7,9]),(11,[0,1,5,6,7,9,39,40]),(12,[0,1,5,6,7,9,39,40,41]),(13,[0,1,5,6,7,9,10,39,40]),(14,[0,1,5,6,7,9,10,39,40,69]),(15,[0,1,5,6,7,9,39,40]),(16,[0,1,5,6,7,9,39,40]),(17,[0,1,5,6,7,9,73]),(18,[4]),(19,[0,1,5,6,7,9,78]),(20,[0,1,5,6,7,9]),(21,[0,1,5,6,7,9,83,84]),(22,[0,1,5,6,7,9,83,84,85]),(23,[0,1,5,6,7,9,11,83,84]),(24,[0,1,5,6,7,9,11,12,83,84]),(25,[0,1,5,6,7,9,11,12,83,84,132]),(26,[0,1,5,6,7,9,83,84]),(27,[0,1,5,6,7,9,83,84]),(28,[0,6,13]),(29,[0,6,13,14]),(30,[0,6,13,14,146]),(31,[0,6,13,14]),(32,[0,6,13,14,166]),(33,[0,6,13,14]),(34,[13]),(35,[4])]),
 (39,[(0,[2,3]),(1,[4])]),
 (40,[(0,[0,1,2,3,4,5]),(1,[0,1,2,3,4,5,14]),(2,[10]),(3,[0,1,2,3,4,5,11,12]),(4,[0,1,2,3,4,5,11,12,34]),(5,[4,5,11,12]),(6,[]),(7,[10])]),
 (41,[(0,[2,3,4]),(1,[2,3,4,7]),(2,[4]),(3,[4])]),
 (42,[(0,[2,3,4]),(1,[2,3,4,7]),(2,[4]),(3,[4])]),
 (43,[(0,[2,3]),(1,[4])]),
 (56,[(0,[0,1]),(1,[0,1,7,8]),(2,[0,1,7,8,9]),(3,[0,1,5,7,8]),(4,[0,1,5,7,8,16]),(5,[4]),(6,[0,1,7,8]),(7,[4])]),
 (57,[(0,[0,2,3]),(1,[0,2,3,9]),(2,[0,2,3]),(3,[0,2,3])])]
end Go.Av

namespace Go.Av
open Go.Proofs
theorem bcs_mem {c:Bx} (h:c ∈ N.bcs):c=⟨10000,0,20000,5000,8000⟩:=List.mem_singleton.1 h
theorem bcs_hg {ax ay bx by_ r:Int} (h:(N.cc ax/\N.cc ay)/\(N.cc bx/\N.cc by_)/\N.cc r):N.okHg N.bcs ax ay bx by_ r:=
 ⟨⟨by decide,fun c hc=>by rw [bcs_mem hc];unfold N.ccb N.cc;decide,h.1.1,h.1.2,h.2.1.1,h.2.1.2,h.2.2⟩,fun c hc=>by rw [bcs_mem hc];decide⟩
theorem bcs_n1:N.nea 10000 0 20000 5000 0 0 30000 0 3000:=by
 unfold N.nea N.neS N.seg;simp only [qi_eq];decide +kernel
theorem bcs_n2:¬N.nea 10000 0 20000 5000 0 9000 30000 9000 3000:=by
 unfold N.nea N.neS N.seg;simp only [qi_eq];decide +kernel
theorem bcs_h1:N.hgt N.bcs 0 0 30000 0 3000=9000:=by
 have e:N.hiF 0 0 30000 0 3000 N.bcs 0 false=(8000,true):=by
  unfold N.bcs;rw [N.hiF,if_pos ⟨bcs_n1,.inl (by decide)⟩];rfl
 unfold N.hgt;rw [e];rfl
theorem bcs_h2:N.hgt N.bcs 0 9000 30000 9000 3000=1000:=by
 have e:N.hiF 0 9000 30000 9000 3000 N.bcs 0 false=(0,false):=by
  unfold N.bcs;rw [N.hiF,if_neg fun x=>bcs_n2 x.1];rfl
 unfold N.hgt;rw [e];rfl
def benA:AV:=.agg [.int .i64 0,.int .i64 0,.int .i64 40000,.int .i64 30000,.int .i64 5000,.int .i64 0,.vec true 5 [.agg [.int .i64 10000,.int .i64 0,.int .i64 20000,.int .i64 5000,.int .i64 8000]],.int .i64 20000]
noncomputable def awkG:EG:=⟨awkT,[],[(9,[benA,.agg [.int .i64 0,.int .i64 0],.agg [.int .i64 30000,.int .i64 0],.int .i64 3000],.int .i64 9000),(9,[benA,.agg [.int .i64 0,.int .i64 9000],.agg [.int .i64 30000,.int .i64 9000],.int .i64 3000],.int .i64 1000)]⟩
theorem awkK:KnownOk M1 awkG:=by
 have C {n:Int} (h:-20000000<=n/\n<=20000000):N.cc n:=h
 intro k hk
 rcases List.mem_cons.1 hk with rfl | hk
 ·have:=ev9 true N.bcs 0 0 40000 30000 5000 0 20000 0 0 30000 0 3000 (bcs_hg ⟨⟨C (by decide),C (by decide)⟩,⟨C (by decide),C (by decide)⟩,C (by decide)⟩)
  rw [bcs_h1] at this;exact this
 ·rcases List.mem_cons.1 hk with rfl | hk
  ·have:=ev9 true N.bcs 0 0 40000 30000 5000 0 20000 0 9000 30000 9000 3000 (bcs_hg ⟨⟨C (by decide),C (by decide)⟩,⟨C (by decide),C (by decide)⟩,C (by decide)⟩)
   rw [bcs_h2] at this;exact this
  ·exact nomatch hk
set_option maxRecDepth 1000000 in
theorem ev5:Ev M1 (.pure 5 []) (.bool true) []:=exec_ev awkK 30 (by kernel_rfl)
def N.rgt (cs:List Bx) (u0 v0 u1 v1 th gp sf:Int):Prop:=cs.length<=6/\N.vaP cs u0 v0 u1 v1 th gp sf
end Go.Av

namespace Go.Av
structure Mv where
 kind:Int
 x:Int
 y:Int
 z:Int
 cx:Int
 cy:Int
 rate:Int
 deriving DecidableEq
instance:Inhabited Mv:=⟨⟨0,0,0,0,0,0,0⟩⟩
def Mv.a (m:Mv):AV:=.agg [.int .i64 m.kind,.int .i64 m.x,.int .i64 m.y,.int .i64 m.z,.int .i64 m.cx,.int .i64 m.cy,.int .i64 m.rate]
namespace N
def sam (x y z px py pz:Int):Prop:=x=px/\y=py/\z=pz
instance (x y z px py pz:Int):Decidable (sam x y z px py pz):=by unfold sam;infer_instance
def mkv (x y z r:Int):Mv:=if r>0 then ⟨2,x,y,z,0,0,r⟩ else ⟨1,x,y,z,0,0,0⟩
def tol (x y z px py pz r:Int):List Mv:=if sam x y z px py pz then [] else [mkv x y z r]
def stp (z:Int):Int:=if z>1000 then z else 1000
def dz1 (z pz:Int):Int:=if pz>stp z then stp z else pz
def dz2 (z pz:Int):Int:=if z<1000/\z<dz1 z pz then z else dz1 z pz
def ds1 (z px py pz:Int):List Mv:=if pz>stp z then tol px py (stp z) px py pz 0 else []
def ds2 (z pl px py pz:Int):List Mv:=if z<1000/\z<dz1 z pz then tol px py z px py (dz1 z pz) pl else []
def dvn (z pl px py pz:Int):Nat:=if pz>stp z then 0+(ds2 z pl px py pz).length else 0
def dno (z pz:Int):Prop:=¬pz>stp z/\¬(z<1000/\z<pz)
instance (z pz:Int):Decidable (dno z pz):=by unfold dno;infer_instance
def adl (x y z px py pz r:Int):List Mv:=if sam x y z px py pz then [] else [⟨if r>0 then 2 else 1,x,y,z,0,0,r⟩]
end N
theorem Zcv {x y z px py pz r:Int} (h:0<=r):N.adl x y z px py pz r=N.tol x y z px py pz r:=by
 unfold N.adl N.tol N.mkv
 by_cases k:r>0
 ·rw [if_pos k,if_pos k]
 ·have:r=0:=by omega
  rw [if_neg k,if_neg k,this]
theorem tol_y {x y z px py pz r:Int} (h:N.sam x y z px py pz):N.tol x y z px py pz r=[]:=if_pos h
theorem tol_n {x y z px py pz r:Int} (h:¬N.sam x y z px py pz):N.tol x y z px py pz r=[N.mkv x y z r]:=if_neg h
theorem ZcR (x y z px py pz r:Int):(N.tol x y z px py pz r).length<=1:=by
 unfold N.tol;split
 ·exact Nat.zero_le _
 ·exact Nat.le_refl _
theorem Zha (x y z px py pz r:Int):(N.adl x y z px py pz r).length<=1:=by
 unfold N.adl;split
 ·exact Nat.zero_le _
 ·exact Nat.le_refl _
section
variable {z pl px py pz:Int}
theorem dsA (k:pz>N.stp z) (t:z<1000/\z<N.stp z):N.ds1 z px py pz=N.tol px py (N.stp z) px py pz 0/\N.ds2 z pl px py pz=N.tol px py z px py (N.stp z) pl/\N.dz2 z pz=z/\N.dvn z pl px py pz=0+(N.tol px py z px py (N.stp z) pl).length:=by
 have e1:N.dz1 z pz=N.stp z:=if_pos k
 have e2:N.ds2 z pl px py pz=N.tol px py z px py (N.stp z) pl:=by unfold N.ds2;rw [e1,if_pos t]
 exact ⟨if_pos k,e2,by unfold N.dz2;rw [e1,if_pos t],by unfold N.dvn;rw [if_pos k,e2]⟩
theorem dsB (k:pz>N.stp z) (t:¬(z<1000/\z<N.stp z)):N.ds1 z px py pz=N.tol px py (N.stp z) px py pz 0/\N.ds2 z pl px py pz=[]/\N.dz2 z pz=N.stp z/\N.dvn z pl px py pz=0:=by
 have e1:N.dz1 z pz=N.stp z:=if_pos k
 have e2:N.ds2 z pl px py pz=[]:=by unfold N.ds2;rw [e1,if_neg t]
 exact ⟨if_pos k,e2,by unfold N.dz2;rw [e1,if_neg t],by unfold N.dvn;rw [if_pos k,e2];rfl⟩
theorem dsC (k:¬pz>N.stp z) (t:z<1000/\z<pz):N.ds1 z px py pz=[]/\N.ds2 z pl px py pz=N.tol px py z px py pz pl/\N.dz2 z pz=z/\N.dvn z pl px py pz=0:=by
 have e1:N.dz1 z pz=pz:=if_neg k
 exact ⟨if_neg k,by unfold N.ds2;rw [e1,if_pos t],by unfold N.dz2;rw [e1,if_pos t],if_neg k⟩
theorem dsD (k:¬pz>N.stp z) (t:¬(z<1000/\z<pz)):N.ds1 z px py pz=[]/\N.ds2 z pl px py pz=[]/\N.dz2 z pz=pz/\N.dvn z pl px py pz=0:=by
 have e1:N.dz1 z pz=pz:=if_neg k
 exact ⟨if_neg k,by unfold N.ds2;rw [e1,if_neg t],by unfold N.dz2;rw [e1,if_neg t],if_neg k⟩
theorem ds_len (z pl px py pz:Int):(N.ds1 z px py pz).length<=1/\(N.ds2 z pl px py pz).length<=1:=by
 unfold N.ds1 N.ds2
 constructor
 ·split
  ·exact ZcR ..
  ·exact Nat.zero_le _
 ·split
  ·exact ZcR ..
  ·exact Nat.zero_le _
end
end Go.Av

namespace Go.Av
open Go.Proofs
set_option maxRecDepth 100000
def fi31:Fi:=⟨25,[.cell 6 66]⟩
def kp31:List (Nat × List Nat):=[(0,[2,3,4,6]),(1,[2,3,4,6,11]),(2,[6]),(3,[2,3,4,6,7]),(4,[2,3,4,6,7,14]),(5,[2,3,4,6,7]),(6,[6])]
def fi54:Fi:=⟨34,[]⟩
def kp54:List (Nat × List Nat):=[(0,[0,2,4]),(1,[0,2,4,12]),(2,[0,2,4,6]),(3,[0,2,4,6,16]),(4,[0,4,6]),(5,[])]
def qTo0_at (px py pz x y z r:Int) (Q:AV->Heap->Prop):Prop:=Wp M1 (.run fi54 (atC (cd Tryz.f54) []) [(0,.ptr 0 0 0 0),(1,.agg [.int .i64 x,.int .i64 y,.int .i64 z]),(2,.int .i64 r)] [⟨[.agg [.int .i64 px,.int .i64 py,.int .i64 pz,.vnil]],4,0,false,false⟩]) Q
def qTo1_at (ms:List Mv) (v:Nat) (px py pz x y z r:Int) (Q:AV->Heap->Prop):Prop:=Wp M1 (.run fi54 (atC (cd Tryz.f54) []) [(0,.ptr 0 0 0 0),(1,.agg [.int .i64 x,.int .i64 y,.int .i64 z]),(2,.int .i64 r)] [⟨[.agg [.int .i64 px,.int .i64 py,.int .i64 pz,.row 1 v]],4,0,false,false⟩,⟨ms.map Mv.a,7,v,false,true⟩]) Q
def qAd0_at (px py pz x y z r:Int) (Q:AV->Heap->Prop):Prop:=Wp M1 (.run fi31 (atC (cd Tryz.f31) []) [(0,.agg [.int .i64 px,.int .i64 py,.int .i64 pz,.vnil]),(1,.agg [.int .i64 x,.int .i64 y,.int .i64 z]),(2,.int .i64 r)] []) Q
def qAd1_at (ms:List Mv) (v:Nat) (px py pz x y z r:Int) (Q:AV->Heap->Prop):Prop:=Wp M1 (.run fi31 (atC (cd Tryz.f31) []) [(0,.agg [.int .i64 px,.int .i64 py,.int .i64 pz,.row 0 v]),(1,.agg [.int .i64 x,.int .i64 y,.int .i64 z]),(2,.int .i64 r)] [⟨ms.map Mv.a,7,v,false,true⟩]) Q
theorem owncall31 {args:List AV} {L:Heap} {Q:AV->Heap->Prop} (h:Wp M1 (.run fi31 [.code (cd Tryz.f31)] (Za2 0 args) L) Q):Wp M1 (.own 31 args L) Q:=
 ZdU Tryz.f31 fi31 (by kernel_rfl) (by kernel_rfl) (by kernel_rfl) (by kernel_rfl) h
theorem keepcall31 {args:List AV} {L:Heap} {v:AV} {K:Heap} (hk:Zcx L.length v K=true) (h:Wp M1 (.run fi31 [.code (cd Tryz.f31)] (Za2 0 args) L) (ZbR v K)):Ev M1 (.own 31 args L) v K:=
 Zee Tryz.f31 fi31 (by kernel_rfl) (by kernel_rfl) (by kernel_rfl) (by kernel_rfl) hk h
theorem owncall54 {args:List AV} {L:Heap} {Q:AV->Heap->Prop} (h:Wp M1 (.run fi54 [.code (cd Tryz.f54)] (Za2 0 args) L) Q):Wp M1 (.own 54 args L) Q:=
 ZdU Tryz.f54 fi54 (by kernel_rfl) (by kernel_rfl) (by kernel_rfl) (by kernel_rfl) h
theorem keepcall54 {args:List AV} {L:Heap} {v:AV} {K:Heap} (hk:Zcx L.length v K=true) (h:Wp M1 (.run fi54 [.code (cd Tryz.f54)] (Za2 0 args) L) (ZbR v K)):Ev M1 (.own 54 args L) v K:=
 Zee Tryz.f54 fi54 (by kernel_rfl) (by kernel_rfl) (by kernel_rfl) (by kernel_rfl) hk h
noncomputable abbrev zNqT1 (x:Int) (y:Int) (z:Int):=ag [vi 1,vi x,vi y,vi z,vi 0,vi 0,vi 0]
noncomputable abbrev zNqT2 (x:Int) (y:Int) (z:Int) (r:Int):=ag [vi 2,vi x,vi y,vi z,vi 0,vi 0,vi r]
noncomputable abbrev zNqT3 (x:Int) (y:Int) (z:Int):=ag [vi x,vi y,vi z]
theorem qTo0 (px py pz x y z r:Int)  (Q:AV->Heap->Prop) (H :
  (((x=px)/\((y=py)/\(z=pz)))->Q (tu []) [{ elems:=[ag [vi px,vi py,vi pz,AV.vnil]],es:=4,ver:=0,frozen:=false,clean:=false },{ elems:=[ag [vi x,vi y,vi z]],es:=3,ver:=0,frozen:=false,clean:=false }]) /\
  (¬((x=px)/\((y=py)/\(z=pz)))->((r>0)->Q (tu []) [{ elems:=[ag [vi x,vi y,vi z,AV.row 3 0]],es:=4,ver:=0,frozen:=false,clean:=false },{ elems:=[ag [vi x,vi y,vi z]],es:=3,ver:=0,frozen:=false,clean:=false },{ elems:=[ag [vi 2,vi x,vi y,vi z,vi 0,vi 0,vi r]],es:=7,ver:=0,frozen:=false,clean:=false },{ elems:=[ag [vi 2,vi x,vi y,vi z,vi 0,vi 0,vi r]],es:=7,ver:=0,frozen:=false,clean:=true }]) /\
   (¬(r>0)->Q (tu []) [{ elems:=[ag [vi x,vi y,vi z,AV.row 3 0]],es:=4,ver:=0,frozen:=false,clean:=false },{ elems:=[ag [vi x,vi y,vi z]],es:=3,ver:=0,frozen:=false,clean:=false },{ elems:=[ag [vi 1,vi x,vi y,vi z,vi 0,vi 0,vi 0]],es:=7,ver:=0,frozen:=false,clean:=false },{ elems:=[ag [vi 1,vi x,vi y,vi z,vi 0,vi 0,vi 0]],es:=7,ver:=0,frozen:=false,clean:=true }]))) :
 qTo0_at px py pz x y z r Q:=by
 unfold qTo0_at
 rcases xq H with ⟨d2,H⟩|⟨d2,H⟩
 ·exact ZaB (G:=Zae kp54 [] []) 1000 [true] (k:=((atC (cd Tryz.f54) [1,0,1,0])).tail) (env':=[(0,AV.ptr 0 0 0 0),(2,vi r),(4,AV.ptr 1 0 0 0),(12,vb (x==px&&(y==py&&(z==pz&&true))))]) (L':=[⟨[ag [vi px,vi py,vi pz,AV.vnil]],4,0,false,false⟩,⟨[(zNqT3 x y z)],3,0,false,false⟩]) (asm:=[true,true,(x==px&&(y==py&&(z==pz&&true)))==true]) (eqs:=[]) (calls:=[]) (tu []) (by kernel_rfl) (by kernel_rfl) (Zaa rfl (Zaa rfl (Zaa (Zam ((Za4 i_eq (Za4 i_eq (i_at i_eq))).2 d2)) Zal))) Zao Zap H
 ·rcases xq H with ⟨d4,H⟩|⟨d4,H⟩
  ·exact ZaR (G:=Zae kp54 [] [(5,[2015,2012,3009,5008,902007,4006,2005])]) 1000 [false,true] (env':=[]) (L':=[⟨[ag [vi x,vi y,vi z,AV.row 3 0]],4,0,false,false⟩,⟨[(zNqT3 x y z)],3,0,false,false⟩,⟨[(zNqT2 x y z r)],7,0,false,false⟩,⟨[(zNqT2 x y z r)],7,0,false,true⟩]) (asm:=[true,true,(x==px&&(y==py&&(z==pz&&true)))==false,true,true,(decide (r>0))==true,true,true,true,true,true,true,true,true]) (eqs:=[]) (calls:=[]) (tu []) (by kernel_rfl) (by kernel_rfl) (Zaa rfl (Zaa rfl (Zaa (Zak (fun h=>d2 ((Za4 i_eq (Za4 i_eq (i_at i_eq))).1 h))) (Zaa rfl (Zaa rfl (Zaa (Zam (Zac.2 d4)) (Zaa rfl (Zaa rfl (Zaa rfl (Zaa rfl (Zaa rfl (Zaa rfl (Zaa rfl (Zaa rfl Zal)))))))))))))) Zao Zap H
  ·exact ZaR (G:=Zae kp54 [] [(5,[2015,2012,3009,5008,902007,4006,2005])]) 1000 [false,false] (env':=[]) (L':=[⟨[ag [vi x,vi y,vi z,AV.row 3 0]],4,0,false,false⟩,⟨[(zNqT3 x y z)],3,0,false,false⟩,⟨[(zNqT1 x y z)],7,0,false,false⟩,⟨[(zNqT1 x y z)],7,0,false,true⟩]) (asm:=[true,true,(x==px&&(y==py&&(z==pz&&true)))==false,true,true,(decide (r>0))==false,true,true,true,true,true,true]) (eqs:=[]) (calls:=[]) (tu []) (by kernel_rfl) (by kernel_rfl) (Zaa rfl (Zaa rfl (Zaa (Zak (fun h=>d2 ((Za4 i_eq (Za4 i_eq (i_at i_eq))).1 h))) (Zaa rfl (Zaa rfl (Zaa (Zak (fun h=>d4 (Zac.1 h))) (Zaa rfl (Zaa rfl (Zaa rfl (Zaa rfl (Zaa rfl (Zaa rfl Zal)))))))))))) Zao Zap H
noncomputable abbrev zNqT4 (x:Int) (y:Int) (z:Int):=ag [vi x,vi y,vi z]
theorem qTo1 (ms:List Mv) (v:Nat) (px py pz x y z r:Int)  (dv:AV) (dK:Heap) (_:Zcx 2 dv dK=true) (H :
  (((x=px)/\((y=py)/\(z=pz)))->(ZbR dv dK) (tu []) [{ elems:=[ag [vi px,vi py,vi pz,AV.row 1 v]],es:=4,ver:=0,frozen:=false,clean:=false },{ elems:=List.map Mv.a ms,es:=7,ver:=v,frozen:=false,clean:=true },{ elems:=[ag [vi x,vi y,vi z]],es:=3,ver:=0,frozen:=false,clean:=false }]) /\
  (¬((x=px)/\((y=py)/\(z=pz)))->((r>0)->((ms.length+1)*56<=1099511627776) /\
    (ZbR dv dK) (tu []) [{ elems:=[ag [vi x,vi y,vi z,AV.row 1 (v+1)]],es:=4,ver:=0,frozen:=false,clean:=false },{ elems:=List.map Mv.a (ms++[{ kind:=2,x:=x,y:=y,z:=z,cx:=0,cy:=0,rate:=r }]),es:=7,ver:=v+1,frozen:=false,clean:=true },{ elems:=[ag [vi x,vi y,vi z]],es:=3,ver:=0,frozen:=false,clean:=false },{ elems:=[ag [vi 2,vi x,vi y,vi z,vi 0,vi 0,vi r]],es:=7,ver:=0,frozen:=false,clean:=false }]) /\
   (¬(r>0)->((ms.length+1)*56<=1099511627776) /\
    (ZbR dv dK) (tu []) [{ elems:=[ag [vi x,vi y,vi z,AV.row 1 (v+1)]],es:=4,ver:=0,frozen:=false,clean:=false },{ elems:=List.map Mv.a (ms++[{ kind:=1,x:=x,y:=y,z:=z,cx:=0,cy:=0,rate:=0 }]),es:=7,ver:=v+1,frozen:=false,clean:=true },{ elems:=[ag [vi x,vi y,vi z]],es:=3,ver:=0,frozen:=false,clean:=false },{ elems:=[ag [vi 1,vi x,vi y,vi z,vi 0,vi 0,vi 0]],es:=7,ver:=0,frozen:=false,clean:=false }]))) :
 qTo1_at ms v px py pz x y z r (ZbR dv dK):=by
 unfold qTo1_at
 rcases xq H with ⟨d2,H⟩|⟨d2,H⟩
 ·exact ZaB (G:=Zae kp54 [] []) 1000 [true] (k:=((atC (cd Tryz.f54) [1,0,1,0])).tail) (env':=[(0,AV.ptr 0 0 0 0),(2,vi r),(4,AV.ptr 2 0 0 0),(12,vb (x==px&&(y==py&&(z==pz&&true))))]) (L':=[⟨[ag [vi px,vi py,vi pz,AV.row 1 v]],4,0,false,false⟩,⟨List.map Mv.a ms,7,v,false,true⟩,⟨[(zNqT4 x y z)],3,0,false,false⟩]) (asm:=[true,true,(x==px&&(y==py&&(z==pz&&true)))==true]) (eqs:=[]) (calls:=[]) (tu []) (by kernel_rfl) (by kernel_rfl) (Zaa rfl (Zaa rfl (Zaa (Zam ((Za4 i_eq (Za4 i_eq (i_at i_eq))).2 d2)) Zal))) Zao Zap H
 ·rcases xq H with ⟨d4,H⟩|⟨d4,H⟩
  ·have w5:(List.map Mv.a ms).length=ms.length:=List.length_map ..
   have i6:(decide (((List.map Mv.a ms).length+1)*56<=1099511627776))=true ↔ ((ms.length+1)*56<=1099511627776):=(by (try rw [w5]);all_goals exact Zac)
   obtain ⟨k7,H⟩:=H
   have w8:List.map Mv.a ms++[ag [vi 2,vi x,vi y,vi z,vi 0,vi 0,vi r]]=List.map Mv.a (ms++[{ kind:=2,x:=x,y:=y,z:=z,cx:=0,cy:=0,rate:=r }]):=(ZdZ rfl rfl)
   exact ZaR (G:=Zae kp54 [] [(5,[2015,2012,4009,3008,902007,5006,2005])]) 1000 [false,true] (env':=[]) (L':=[⟨[ag [vi x,vi y,vi z,AV.row 1 (v+1)]],4,0,false,false⟩,⟨List.map Mv.a ms++[ag [vi 2,vi x,vi y,vi z,vi 0,vi 0,vi r]],7,v+1,false,true⟩,⟨[(zNqT4 x y z)],3,0,false,false⟩,⟨[ag [vi 2,vi x,vi y,vi z,vi 0,vi 0,vi r]],7,0,false,false⟩]) (asm:=[true,true,(x==px&&(y==py&&(z==pz&&true)))==false,true,true,(decide (r>0))==true,true,true,true,true,v==v,decide (((List.map Mv.a ms).length+1)*56<=1099511627776),true,true,true]) (eqs:=[]) (calls:=[]) (tu []) (by kernel_rfl) (by kernel_rfl) (Zaa rfl (Zaa rfl (Zaa (Zak (fun h=>d2 ((Za4 i_eq (Za4 i_eq (i_at i_eq))).1 h))) (Zaa rfl (Zaa rfl (Zaa (Zam (Zac.2 d4)) (Zaa rfl (Zaa rfl (Zaa rfl (Zaa rfl (Zaa (beq_self_eq_true _) (Zaa (i6.2 k7) (Zaa rfl (Zaa rfl (Zaa rfl Zal))))))))))))))) Zao Zap (by (try rw [w8]);all_goals exact H)
  ·have w9:(List.map Mv.a ms).length=ms.length:=List.length_map ..
   have i10:(decide (((List.map Mv.a ms).length+1)*56<=1099511627776))=true ↔ ((ms.length+1)*56<=1099511627776):=(by (try rw [w9]);all_goals exact Zac)
   obtain ⟨k11,H⟩:=H
   have w12:List.map Mv.a ms++[ag [vi 1,vi x,vi y,vi z,vi 0,vi 0,vi 0]]=List.map Mv.a (ms++[{ kind:=1,x:=x,y:=y,z:=z,cx:=0,cy:=0,rate:=0 }]):=(ZdZ rfl rfl)
   exact ZaR (G:=Zae kp54 [] [(5,[2015,2012,4009,3008,902007,5006,2005])]) 1000 [false,false] (env':=[]) (L':=[⟨[ag [vi x,vi y,vi z,AV.row 1 (v+1)]],4,0,false,false⟩,⟨List.map Mv.a ms++[ag [vi 1,vi x,vi y,vi z,vi 0,vi 0,vi 0]],7,v+1,false,true⟩,⟨[(zNqT4 x y z)],3,0,false,false⟩,⟨[ag [vi 1,vi x,vi y,vi z,vi 0,vi 0,vi 0]],7,0,false,false⟩]) (asm:=[true,true,(x==px&&(y==py&&(z==pz&&true)))==false,true,true,(decide (r>0))==false,true,true,v==v,decide (((List.map Mv.a ms).length+1)*56<=1099511627776),true,true,true]) (eqs:=[]) (calls:=[]) (tu []) (by kernel_rfl) (by kernel_rfl) (Zaa rfl (Zaa rfl (Zaa (Zak (fun h=>d2 ((Za4 i_eq (Za4 i_eq (i_at i_eq))).1 h))) (Zaa rfl (Zaa rfl (Zaa (Zak (fun h=>d4 (Zac.1 h))) (Zaa rfl (Zaa rfl (Zaa (beq_self_eq_true _) (Zaa (i10.2 k11) (Zaa rfl (Zaa rfl (Zaa rfl Zal))))))))))))) Zao Zap (by (try rw [w12]);all_goals exact H)
noncomputable abbrev zNqT5 (px:Int) (py:Int) (pz:Int):=ag [vi px,vi py,vi pz,AV.vnil]
noncomputable abbrev zNqT6 (x:Int) (y:Int) (z:Int):=ag [vi x,vi y,vi z,AV.row 3 0]
noncomputable abbrev zNqT7 (x:Int) (y:Int) (z:Int):=ag [vi x,vi y,vi z]
theorem qAd0 (px py pz x y z r:Int)  (Q:AV->Heap->Prop) (H :
  (((x=px)/\((y=py)/\(z=pz)))->Q (ag [vi px,vi py,vi pz,AV.vnil]) [{ elems:=[ag [vi px,vi py,vi pz,AV.vnil]],es:=4,ver:=0,frozen:=false,clean:=false },{ elems:=[ag [vi x,vi y,vi z]],es:=3,ver:=0,frozen:=false,clean:=false },{ elems:=[ag [vi px,vi py,vi pz,AV.vnil]],es:=4,ver:=0,frozen:=false,clean:=false }]) /\
  (¬((x=px)/\((y=py)/\(z=pz)))->((r>0)->Q (ag [vi x,vi y,vi z,AV.row 3 0]) [{ elems:=[ag [vi px,vi py,vi pz,AV.vnil]],es:=4,ver:=0,frozen:=false,clean:=false },{ elems:=[ag [vi x,vi y,vi z]],es:=3,ver:=0,frozen:=false,clean:=false },{ elems:=[ag [vi x,vi y,vi z,AV.row 3 0]],es:=4,ver:=0,frozen:=false,clean:=false },{ elems:=[ag [vi 2,vi x,vi y,vi z,vi 0,vi 0,vi r]],es:=7,ver:=0,frozen:=false,clean:=true }]) /\
   (¬(r>0)->Q (ag [vi x,vi y,vi z,AV.row 3 0]) [{ elems:=[ag [vi px,vi py,vi pz,AV.vnil]],es:=4,ver:=0,frozen:=false,clean:=false },{ elems:=[ag [vi x,vi y,vi z]],es:=3,ver:=0,frozen:=false,clean:=false },{ elems:=[ag [vi x,vi y,vi z,AV.row 3 0]],es:=4,ver:=0,frozen:=false,clean:=false },{ elems:=[ag [vi 1,vi x,vi y,vi z,vi 0,vi 0,vi r]],es:=7,ver:=0,frozen:=false,clean:=true }]))) :
 qAd0_at px py pz x y z r Q:=by
 unfold qAd0_at
 rcases xq H with ⟨d2,H⟩|⟨d2,H⟩
 ·exact ZaB (G:=Zae kp31 [] []) 1000 [true] (k:=((atC (cd Tryz.f31) [1,0,1,0,1])).tail) (env':=[(6,AV.ptr 2 0 0 0)]) (L':=[⟨[(zNqT5 px py pz)],4,0,false,false⟩,⟨[(zNqT7 x y z)],3,0,false,false⟩,⟨[(zNqT5 px py pz)],4,0,false,false⟩]) (asm:=[true,true,(x==px&&(y==py&&(z==pz&&true)))==true,true,true]) (eqs:=[]) (calls:=[]) ((zNqT5 px py pz)) (by kernel_rfl) (by kernel_rfl) (Zaa rfl (Zaa rfl (Zaa (Zam ((Za4 i_eq (Za4 i_eq (i_at i_eq))).2 d2)) (Zaa rfl (Zaa rfl Zal))))) Zao Zap H
 ·rcases xq H with ⟨d4,H⟩|⟨d4,H⟩
  ·exact ZaB (G:=Zae kp31 [] [(6,[4010,5008,902007,3004,2002,3000])]) 1000 [false,true] (k:=((atC (cd Tryz.f31) [1,1,1,1,1])).tail) (env':=[(6,AV.ptr 2 0 0 0)]) (L':=[⟨[(zNqT5 px py pz)],4,0,false,false⟩,⟨[(zNqT7 x y z)],3,0,false,false⟩,⟨[(zNqT6 x y z)],4,0,false,false⟩,⟨[ag [vi 2,vi x,vi y,vi z,vi 0,vi 0,vi r]],7,0,false,true⟩]) (asm:=[true,true,(x==px&&(y==py&&(z==pz&&true)))==false,(decide (r>0))==true,true,true,true,true,true]) (eqs:=[]) (calls:=[]) ((zNqT6 x y z)) (by kernel_rfl) (by kernel_rfl) (Zaa rfl (Zaa rfl (Zaa (Zak (fun h=>d2 ((Za4 i_eq (Za4 i_eq (i_at i_eq))).1 h))) (Zaa (Zam (Zac.2 d4)) (Zaa rfl (Zaa rfl (Zaa rfl (Zaa rfl (Zaa rfl Zal))))))))) Zao Zap H
  ·exact ZaB (G:=Zae kp31 [] [(6,[4010,5008,902007,3004,2002,3000])]) 1000 [false,false] (k:=((atC (cd Tryz.f31) [1,1,1,1,1])).tail) (env':=[(6,AV.ptr 2 0 0 0)]) (L':=[⟨[(zNqT5 px py pz)],4,0,false,false⟩,⟨[(zNqT7 x y z)],3,0,false,false⟩,⟨[(zNqT6 x y z)],4,0,false,false⟩,⟨[ag [vi 1,vi x,vi y,vi z,vi 0,vi 0,vi r]],7,0,false,true⟩]) (asm:=[true,true,(x==px&&(y==py&&(z==pz&&true)))==false,(decide (r>0))==false,true,true,true,true,true]) (eqs:=[]) (calls:=[]) ((zNqT6 x y z)) (by kernel_rfl) (by kernel_rfl) (Zaa rfl (Zaa rfl (Zaa (Zak (fun h=>d2 ((Za4 i_eq (Za4 i_eq (i_at i_eq))).1 h))) (Zaa (Zak (fun h=>d4 (Zac.1 h))) (Zaa rfl (Zaa rfl (Zaa rfl (Zaa rfl (Zaa rfl Zal))))))))) Zao Zap H
noncomputable abbrev zNqT8 (px:Int) (py:Int) (pz:Int) (v:Nat):=ag [vi px,vi py,vi pz,AV.row 0 v]
noncomputable abbrev zNqT9 (x:Int) (y:Int) (z:Int) (v:Nat):=ag [vi x,vi y,vi z,AV.row 0 (v+1)]
noncomputable abbrev zNqT10 (x:Int) (y:Int) (z:Int):=ag [vi x,vi y,vi z]
theorem qAd1 (ms:List Mv) (v:Nat) (px py pz x y z r:Int)  (dv:AV) (dK:Heap) (_:Zcx 1 dv dK=true) (H :
  (((x=px)/\((y=py)/\(z=pz)))->(ZbR dv dK) (ag [vi px,vi py,vi pz,AV.row 0 v]) [{ elems:=List.map Mv.a ms,es:=7,ver:=v,frozen:=false,clean:=true },{ elems:=[ag [vi px,vi py,vi pz,AV.row 0 v]],es:=4,ver:=0,frozen:=false,clean:=false },{ elems:=[ag [vi x,vi y,vi z]],es:=3,ver:=0,frozen:=false,clean:=false },{ elems:=[ag [vi px,vi py,vi pz,AV.row 0 v]],es:=4,ver:=0,frozen:=false,clean:=false }]) /\
  (¬((x=px)/\((y=py)/\(z=pz)))->((r>0)->((ms.length+1)*56<=1099511627776) /\
    (ZbR dv dK) (ag [vi x,vi y,vi z,AV.row 0 (v+1)]) [{ elems:=List.map Mv.a (ms++[{ kind:=2,x:=x,y:=y,z:=z,cx:=0,cy:=0,rate:=r }]),es:=7,ver:=v+1,frozen:=false,clean:=true },{ elems:=[ag [vi px,vi py,vi pz,AV.row 0 v]],es:=4,ver:=0,frozen:=false,clean:=false },{ elems:=[ag [vi x,vi y,vi z]],es:=3,ver:=0,frozen:=false,clean:=false },{ elems:=[ag [vi x,vi y,vi z,AV.row 0 (v+1)]],es:=4,ver:=0,frozen:=false,clean:=false }]) /\
   (¬(r>0)->((ms.length+1)*56<=1099511627776) /\
    (ZbR dv dK) (ag [vi x,vi y,vi z,AV.row 0 (v+1)]) [{ elems:=List.map Mv.a (ms++[{ kind:=1,x:=x,y:=y,z:=z,cx:=0,cy:=0,rate:=r }]),es:=7,ver:=v+1,frozen:=false,clean:=true },{ elems:=[ag [vi px,vi py,vi pz,AV.row 0 v]],es:=4,ver:=0,frozen:=false,clean:=false },{ elems:=[ag [vi x,vi y,vi z]],es:=3,ver:=0,frozen:=false,clean:=false },{ elems:=[ag [vi x,vi y,vi z,AV.row 0 (v+1)]],es:=4,ver:=0,frozen:=false,clean:=false }]))) :
 qAd1_at ms v px py pz x y z r (ZbR dv dK):=by
 unfold qAd1_at
 rcases xq H with ⟨d2,H⟩|⟨d2,H⟩
 ·exact ZaB (G:=Zae kp31 [] []) 1000 [true] (k:=((atC (cd Tryz.f31) [1,0,1,0,1])).tail) (env':=[(6,AV.ptr 3 0 0 0)]) (L':=[⟨List.map Mv.a ms,7,v,false,true⟩,⟨[(zNqT8 px py pz v)],4,0,false,false⟩,⟨[(zNqT10 x y z)],3,0,false,false⟩,⟨[(zNqT8 px py pz v)],4,0,false,false⟩]) (asm:=[true,true,(x==px&&(y==py&&(z==pz&&true)))==true,true,true]) (eqs:=[]) (calls:=[]) ((zNqT8 px py pz v)) (by kernel_rfl) (by kernel_rfl) (Zaa rfl (Zaa rfl (Zaa (Zam ((Za4 i_eq (Za4 i_eq (i_at i_eq))).2 d2)) (Zaa rfl (Zaa rfl Zal))))) Zao Zap H
 ·rcases xq H with ⟨d4,H⟩|⟨d4,H⟩
  ·have w5:(List.map Mv.a ms).length=ms.length:=List.length_map ..
   have i6:(decide (((List.map Mv.a ms).length+1)*56<=1099511627776))=true ↔ ((ms.length+1)*56<=1099511627776):=(by (try rw [w5]);all_goals exact Zac)
   obtain ⟨k7,H⟩:=H
   have w8:List.map Mv.a ms++[ag [vi 2,vi x,vi y,vi z,vi 0,vi 0,vi r]]=List.map Mv.a (ms++[{ kind:=2,x:=x,y:=y,z:=z,cx:=0,cy:=0,rate:=r }]):=(ZdZ rfl rfl)
   exact ZaB (G:=Zae kp31 [] [(6,[5010,2008,902007,4004,3002,4000])]) 1000 [false,true] (k:=((atC (cd Tryz.f31) [1,1,1,1,1])).tail) (env':=[(6,AV.ptr 3 0 0 0)]) (L':=[⟨List.map Mv.a ms++[ag [vi 2,vi x,vi y,vi z,vi 0,vi 0,vi r]],7,v+1,false,true⟩,⟨[(zNqT8 px py pz v)],4,0,false,false⟩,⟨[(zNqT10 x y z)],3,0,false,false⟩,⟨[(zNqT9 x y z v)],4,0,false,false⟩]) (asm:=[true,true,(x==px&&(y==py&&(z==pz&&true)))==false,(decide (r>0))==true,true,true,true,v==v,decide (((List.map Mv.a ms).length+1)*56<=1099511627776),true]) (eqs:=[]) (calls:=[]) ((zNqT9 x y z v)) (by kernel_rfl) (by kernel_rfl) (Zaa rfl (Zaa rfl (Zaa (Zak (fun h=>d2 ((Za4 i_eq (Za4 i_eq (i_at i_eq))).1 h))) (Zaa (Zam (Zac.2 d4)) (Zaa rfl (Zaa rfl (Zaa rfl (Zaa (beq_self_eq_true _) (Zaa (i6.2 k7) (Zaa rfl Zal)))))))))) Zao Zap (by (try rw [w8]);all_goals exact H)
  ·have w9:(List.map Mv.a ms).length=ms.length:=List.length_map ..
   have i10:(decide (((List.map Mv.a ms).length+1)*56<=1099511627776))=true ↔ ((ms.length+1)*56<=1099511627776):=(by (try rw [w9]);all_goals exact Zac)
   obtain ⟨k11,H⟩:=H
   have w12:List.map Mv.a ms++[ag [vi 1,vi x,vi y,vi z,vi 0,vi 0,vi r]]=List.map Mv.a (ms++[{ kind:=1,x:=x,y:=y,z:=z,cx:=0,cy:=0,rate:=r }]):=(ZdZ rfl rfl)
   exact ZaB (G:=Zae kp31 [] [(6,[5010,2008,902007,4004,3002,4000])]) 1000 [false,false] (k:=((atC (cd Tryz.f31) [1,1,1,1,1])).tail) (env':=[(6,AV.ptr 3 0 0 0)]) (L':=[⟨List.map Mv.a ms++[ag [vi 1,vi x,vi y,vi z,vi 0,vi 0,vi r]],7,v+1,false,true⟩,⟨[(zNqT8 px py pz v)],4,0,false,false⟩,⟨[(zNqT10 x y z)],3,0,false,false⟩,⟨[(zNqT9 x y z v)],4,0,false,false⟩]) (asm:=[true,true,(x==px&&(y==py&&(z==pz&&true)))==false,(decide (r>0))==false,true,true,true,v==v,decide (((List.map Mv.a ms).length+1)*56<=1099511627776),true]) (eqs:=[]) (calls:=[]) ((zNqT9 x y z v)) (by kernel_rfl) (by kernel_rfl) (Zaa rfl (Zaa rfl (Zaa (Zak (fun h=>d2 ((Za4 i_eq (Za4 i_eq (i_at i_eq))).1 h))) (Zaa (Zak (fun h=>d4 (Zac.1 h))) (Zaa rfl (Zaa rfl (Zaa rfl (Zaa (beq_self_eq_true _) (Zaa (i10.2 k11) (Zaa rfl Zal)))))))))) Zao Zap (by (try rw [w12]);all_goals exact H)
end Go.Av

namespace Go.Av
open Go.Proofs
theorem mkv_a {x y z r:Int}:(N.mkv x y z r).a=if r>0 then .agg [.int .i64 2,.int .i64 x,.int .i64 y,.int .i64 z,.int .i64 0,.int .i64 0,.int .i64 r] else .agg [.int .i64 1,.int .i64 x,.int .i64 y,.int .i64 z,.int .i64 0,.int .i64 0,.int .i64 0]:=by
 unfold N.mkv;split <;> rfl
theorem evo54_y (px py pz x y z r:Int) (c:N.sam x y z px py pz) :
  Ev M1 (.own 54 [.ptr 0 0 0 0,.agg [.int .i64 x,.int .i64 y,.int .i64 z],.int .i64 r] [⟨[.agg [.int .i64 px,.int .i64 py,.int .i64 pz,.vnil]],4,0,false,false⟩])
   (.tup []) [⟨[.agg [.int .i64 px,.int .i64 py,.int .i64 pz,.vnil]],4,0,false,false⟩,⟨[.agg [.int .i64 x,.int .i64 y,.int .i64 z]],3,0,false,false⟩]:=
 owncall54 (qTo0 _ _ _ _ _ _ _ _ ⟨fun _=>⟨rfl,rfl⟩,fun k=>absurd c k⟩)
theorem evo54_n (px py pz x y z r:Int) (c:¬N.sam x y z px py pz) :
  Ev M1 (.own 54 [.ptr 0 0 0 0,.agg [.int .i64 x,.int .i64 y,.int .i64 z],.int .i64 r] [⟨[.agg [.int .i64 px,.int .i64 py,.int .i64 pz,.vnil]],4,0,false,false⟩])
   (.tup []) [⟨[.agg [.int .i64 x,.int .i64 y,.int .i64 z,.row 3 0]],4,0,false,false⟩,⟨[.agg [.int .i64 x,.int .i64 y,.int .i64 z]],3,0,false,false⟩,⟨[(N.mkv x y z r).a],7,0,false,false⟩,⟨(N.tol x y z px py pz r).map Mv.a,7,0,false,true⟩]:=
 owncall54 (qTo0 _ _ _ _ _ _ _ _ ⟨fun k=>absurd k c,fun _=>⟨fun k=>by
  rw [tol_n c,List.map_cons,List.map_nil,mkv_a,if_pos k];exact ⟨rfl,rfl⟩,fun k=>by
  rw [tol_n c,List.map_cons,List.map_nil,mkv_a,if_neg k];exact ⟨rfl,rfl⟩⟩⟩)
theorem evo54 (ms:List Mv) (v:Nat) (px py pz x y z r:Int) (h:ms.length<=100000) :
  Ev M1 (.own 54 [.ptr 0 0 0 0,.agg [.int .i64 x,.int .i64 y,.int .i64 z],.int .i64 r] [⟨[.agg [.int .i64 px,.int .i64 py,.int .i64 pz,.row 1 v]],4,0,false,false⟩,⟨ms.map Mv.a,7,v,false,true⟩])
   (.tup []) [⟨[.agg [.int .i64 x,.int .i64 y,.int .i64 z,.row 1 (v+(N.tol x y z px py pz r).length)]],4,0,false,false⟩,⟨(ms++N.tol x y z px py pz r).map Mv.a,7,v+(N.tol x y z px py pz r).length,false,true⟩]:=by
 refine keepcall54 rfl (qTo1 _ _ _ _ _ _ _ _ _ _ _ rfl ⟨fun k => ?_,fun k=>⟨fun j=>⟨by omega,?_⟩,fun j=>⟨by omega,?_⟩⟩⟩)
 ·rw [tol_y (by exact k),List.append_nil,k.1,k.2.1,k.2.2];exact ⟨rfl,rfl⟩
 ·rw [tol_n (by exact k)];unfold N.mkv;rw [if_pos j];exact ⟨rfl,rfl⟩
 ·rw [tol_n (by exact k)];unfold N.mkv;rw [if_neg j];exact ⟨rfl,rfl⟩
theorem ZcV (px py pz x y z r:Int) (c:N.sam x y z px py pz) :
  Ev M1 (.own 31 [.agg [.int .i64 px,.int .i64 py,.int .i64 pz,.vnil],.agg [.int .i64 x,.int .i64 y,.int .i64 z],.int .i64 r] [])
   (.agg [.int .i64 px,.int .i64 py,.int .i64 pz,.vnil]) [⟨[.agg [.int .i64 px,.int .i64 py,.int .i64 pz,.vnil]],4,0,false,false⟩,⟨[.agg [.int .i64 x,.int .i64 y,.int .i64 z]],3,0,false,false⟩,⟨[.agg [.int .i64 px,.int .i64 py,.int .i64 pz,.vnil]],4,0,false,false⟩]:=
 owncall31 (qAd0 _ _ _ _ _ _ _ _ ⟨fun _=>⟨rfl,rfl⟩,fun k=>absurd c k⟩)
theorem ZeB (px py pz x y z r:Int) (c:¬N.sam x y z px py pz) :
  Ev M1 (.own 31 [.agg [.int .i64 px,.int .i64 py,.int .i64 pz,.vnil],.agg [.int .i64 x,.int .i64 y,.int .i64 z],.int .i64 r] [])
   (.agg [.int .i64 x,.int .i64 y,.int .i64 z,.row 3 0]) [⟨[.agg [.int .i64 px,.int .i64 py,.int .i64 pz,.vnil]],4,0,false,false⟩,⟨[.agg [.int .i64 x,.int .i64 y,.int .i64 z]],3,0,false,false⟩,⟨[.agg [.int .i64 x,.int .i64 y,.int .i64 z,.row 3 0]],4,0,false,false⟩,⟨(N.adl x y z px py pz r).map Mv.a,7,0,false,true⟩]:=
 owncall31 (qAd0 _ _ _ _ _ _ _ _ ⟨fun k=>absurd k c,fun _=>⟨fun k=>by
  unfold N.adl;rw [if_neg c,if_pos k];exact ⟨rfl,rfl⟩,fun k=>by
  unfold N.adl;rw [if_neg c,if_neg k];exact ⟨rfl,rfl⟩⟩⟩)
theorem evo31 (ms:List Mv) (v:Nat) (px py pz x y z r:Int) (h:ms.length<=100000) :
  Ev M1 (.own 31 [.agg [.int .i64 px,.int .i64 py,.int .i64 pz,.row 0 v],.agg [.int .i64 x,.int .i64 y,.int .i64 z],.int .i64 r] [⟨ms.map Mv.a,7,v,false,true⟩])
   (.agg [.int .i64 x,.int .i64 y,.int .i64 z,.row 0 (v+(N.adl x y z px py pz r).length)]) [⟨(ms++N.adl x y z px py pz r).map Mv.a,7,v+(N.adl x y z px py pz r).length,false,true⟩]:=by
 refine keepcall31 rfl (qAd1 _ _ _ _ _ _ _ _ _ _ _ rfl ⟨fun k => ?_,fun k=>⟨fun j=>⟨by omega,?_⟩,fun j=>⟨by omega,?_⟩⟩⟩)
 ·rw [show N.adl x y z px py pz r=[] from if_pos k,List.append_nil,k.1,k.2.1,k.2.2];exact ⟨rfl,rfl⟩
 ·unfold N.adl;rw [if_neg (show ¬N.sam x y z px py pz from k),if_pos j];exact ⟨rfl,rfl⟩
 ·unfold N.adl;rw [if_neg (show ¬N.sam x y z px py pz from k),if_neg j];exact ⟨rfl,rfl⟩
end Go.Av

namespace Go.Av
open Go.Proofs
set_option maxRecDepth 100000
def fi26:Fi:=⟨18,[]⟩
def kp26:List (Nat × List Nat):=[(0,[])]
def fi27:Fi:=⟨16,[]⟩
def kp27:List (Nat × List Nat):=[(0,[0,3]),(1,[])]
def qRi0_at (px py pz z:Int) (Q:AV->Heap->Prop):Prop:=Wp M1 (.run fi26 (atC (cd Tryz.f26) []) [(0,.ptr 0 0 0 0),(1,.int .i64 z)] [⟨[.agg [.int .i64 px,.int .i64 py,.int .i64 pz,.vnil]],4,0,false,false⟩]) Q
def qRi1_at (ms:List Mv) (v:Nat) (px py pz z:Int) (Q:AV->Heap->Prop):Prop:=Wp M1 (.run fi26 (atC (cd Tryz.f26) []) [(0,.ptr 0 0 0 0),(1,.int .i64 z)] [⟨[.agg [.int .i64 px,.int .i64 py,.int .i64 pz,.row 1 v]],4,0,false,false⟩,⟨ms.map Mv.a,7,v,false,true⟩]) Q
def qAc0_at (px py pz x y:Int) (Q:AV->Heap->Prop):Prop:=Wp M1 (.run fi27 (atC (cd Tryz.f27) []) [(0,.ptr 0 0 0 0),(1,.agg [.int .i64 x,.int .i64 y])] [⟨[.agg [.int .i64 px,.int .i64 py,.int .i64 pz,.vnil]],4,0,false,false⟩]) Q
def qAc1_at (ms:List Mv) (v:Nat) (px py pz x y:Int) (Q:AV->Heap->Prop):Prop:=Wp M1 (.run fi27 (atC (cd Tryz.f27) []) [(0,.ptr 0 0 0 0),(1,.agg [.int .i64 x,.int .i64 y])] [⟨[.agg [.int .i64 px,.int .i64 py,.int .i64 pz,.row 1 v]],4,0,false,false⟩,⟨ms.map Mv.a,7,v,false,true⟩]) Q
theorem owncall26 {args:List AV} {L:Heap} {Q:AV->Heap->Prop} (h:Wp M1 (.run fi26 [.code (cd Tryz.f26)] (Za2 0 args) L) Q):Wp M1 (.own 26 args L) Q:=
 ZdU Tryz.f26 fi26 (by kernel_rfl) (by kernel_rfl) (by kernel_rfl) (by kernel_rfl) h
theorem keepcall26 {args:List AV} {L:Heap} {v:AV} {K:Heap} (hk:Zcx L.length v K=true) (h:Wp M1 (.run fi26 [.code (cd Tryz.f26)] (Za2 0 args) L) (ZbR v K)):Ev M1 (.own 26 args L) v K:=
 Zee Tryz.f26 fi26 (by kernel_rfl) (by kernel_rfl) (by kernel_rfl) (by kernel_rfl) hk h
theorem owncall27 {args:List AV} {L:Heap} {Q:AV->Heap->Prop} (h:Wp M1 (.run fi27 [.code (cd Tryz.f27)] (Za2 0 args) L) Q):Wp M1 (.own 27 args L) Q:=
 ZdU Tryz.f27 fi27 (by kernel_rfl) (by kernel_rfl) (by kernel_rfl) (by kernel_rfl) h
theorem keepcall27 {args:List AV} {L:Heap} {v:AV} {K:Heap} (hk:Zcx L.length v K=true) (h:Wp M1 (.run fi27 [.code (cd Tryz.f27)] (Za2 0 args) L) (ZbR v K)):Ev M1 (.own 27 args L) v K:=
 Zee Tryz.f27 fi27 (by kernel_rfl) (by kernel_rfl) (by kernel_rfl) (by kernel_rfl) hk h
noncomputable abbrev zNqU1 (px:Int) (py:Int) (z:Int):=ag [vi px,vi py,vi z]
noncomputable abbrev zNqU2 (px:Int) (py:Int) (z:Int):=ag [vi (N.mkv px py z 0).kind,vi (N.mkv px py z 0).x,vi (N.mkv px py z 0).y,vi (N.mkv px py z 0).z,vi (N.mkv px py z 0).cx,vi (N.mkv px py z 0).cy,vi (N.mkv px py z 0).rate]
noncomputable abbrev zNqU3 (px:Int) (py:Int) (pz:Int):=ag [vi px,vi py,vi pz,AV.vnil]
theorem qRi0 (px py pz z:Int)  (Q:AV->Heap->Prop) (H :
  ((N.sam px py z px py pz)->Q (tu []) [{ elems:=[ag [vi px,vi py,vi pz,AV.vnil]],es:=4,ver:=0,frozen:=false,clean:=false }]) /\
  (¬(N.sam px py z px py pz)->Q (tu []) [{ elems:=[ag [vi px,vi py,vi z,AV.row 1 0]],es:=4,ver:=0,frozen:=false,clean:=false },{ elems:=List.map Mv.a (N.tol px py z px py pz 0),es:=7,ver:=0,frozen:=false,clean:=true }])) :
 qRi0_at px py pz z Q:=by
 unfold qRi0_at
 rcases xq H with ⟨d1,H⟩|⟨d1,H⟩
 ·exact ZaR (G:=Zae kp26 [(0,13,.call (tu []) (some [⟨[(zNqU3 px py pz)],4,0,false,false⟩,⟨[(zNqU1 px py z)],3,0,false,false⟩]))] [(0,[13])]) 1000 [] (env':=[]) (L':=[⟨[(zNqU3 px py pz)],4,0,false,false⟩]) (asm:=[true,true]) (eqs:=[]) (calls:=[⟨true,true,54,[AV.ptr 0 0 0 0,(zNqU1 px py z),vi 0],[⟨[(zNqU3 px py pz)],4,0,false,false⟩],tu [],[⟨[(zNqU3 px py pz)],4,0,false,false⟩,⟨[(zNqU1 px py z)],3,0,false,false⟩]⟩]) (tu []) (by kernel_rfl) (by kernel_rfl) (Zaa rfl (Zaa rfl Zal)) Zao (Zah (fun _=>(@evo54_y px py pz px py z 0 d1)) Zap) H
 ·exact ZaR (G:=Zae kp26 [(0,13,.call (tu []) (some [⟨[ag [vi px,vi py,vi z,AV.row 3 0]],4,0,false,false⟩,⟨[(zNqU1 px py z)],3,0,false,false⟩,⟨[(zNqU2 px py z)],7,0,false,false⟩,⟨List.map Mv.a (N.tol px py z px py pz 0),7,0,false,true⟩]))] [(0,[13])]) 1000 [] (env':=[]) (L':=[⟨[ag [vi px,vi py,vi z,AV.row 1 0]],4,0,false,false⟩,⟨List.map Mv.a (N.tol px py z px py pz 0),7,0,false,true⟩]) (asm:=[true,true]) (eqs:=[]) (calls:=[⟨true,true,54,[AV.ptr 0 0 0 0,(zNqU1 px py z),vi 0],[⟨[(zNqU3 px py pz)],4,0,false,false⟩],tu [],[⟨[ag [vi px,vi py,vi z,AV.row 3 0]],4,0,false,false⟩,⟨[(zNqU1 px py z)],3,0,false,false⟩,⟨[(zNqU2 px py z)],7,0,false,false⟩,⟨List.map Mv.a (N.tol px py z px py pz 0),7,0,false,true⟩]⟩]) (tu []) (by kernel_rfl) (by kernel_rfl) (Zaa rfl (Zaa rfl Zal)) Zao (Zah (fun _=>(@evo54_n px py pz px py z 0 d1)) Zap) H
noncomputable abbrev zNqU4 (px:Int) (py:Int) (z:Int) (v:Nat) (pz:Int):=ag [vi px,vi py,vi z,AV.row 1 (v+(N.tol px py z px py pz 0).length)]
theorem qRi1 (ms:List Mv) (v:Nat) (px py pz z:Int)  (dv:AV) (dK:Heap) (_:Zcx 2 dv dK=true) (H :
  (ms.length<=100000) /\
  (ZbR dv dK) (tu []) [{ elems:=[ag [vi px,vi py,vi z,AV.row 1 (v+(N.tol px py z px py pz 0).length)]],es:=4,ver:=0,frozen:=false,clean:=false },{ elems:=List.map Mv.a (ms++N.tol px py z px py pz 0),es:=7,ver:=v+(N.tol px py z px py pz 0).length,frozen:=false,clean:=true }]) :
 qRi1_at ms v px py pz z (ZbR dv dK):=by
 unfold qRi1_at
 obtain ⟨k1,H⟩:=H
 exact ZaR (G:=Zae kp26 [(0,13,.call (tu []) (some [⟨[(zNqU4 px py z v pz)],4,0,false,false⟩,⟨List.map Mv.a (ms++N.tol px py z px py pz 0),7,v+(N.tol px py z px py pz 0).length,false,true⟩]))] [(0,[13])]) 1000 [] (env':=[]) (L':=[⟨[(zNqU4 px py z v pz)],4,0,false,false⟩,⟨List.map Mv.a (ms++N.tol px py z px py pz 0),7,v+(N.tol px py z px py pz 0).length,false,true⟩]) (asm:=[true,true]) (eqs:=[]) (calls:=[⟨true,true,54,[AV.ptr 0 0 0 0,ag [vi px,vi py,vi z],vi 0],[⟨[ag [vi px,vi py,vi pz,AV.row 1 v]],4,0,false,false⟩,⟨List.map Mv.a ms,7,v,false,true⟩],tu [],[⟨[(zNqU4 px py z v pz)],4,0,false,false⟩,⟨List.map Mv.a (ms++N.tol px py z px py pz 0),7,v+(N.tol px py z px py pz 0).length,false,true⟩]⟩]) (tu []) (by kernel_rfl) (by kernel_rfl) (Zaa rfl (Zaa rfl Zal)) Zao (Zah (fun _=>(@evo54 ms v px py pz px py z 0 k1)) Zap) H
noncomputable abbrev zNqU5 (x:Int) (y:Int) (pz:Int):=ag [vi x,vi y,vi pz]
noncomputable abbrev zNqU6 (x:Int) (y:Int) (pz:Int):=ag [vi (N.mkv x y pz 0).kind,vi (N.mkv x y pz 0).x,vi (N.mkv x y pz 0).y,vi (N.mkv x y pz 0).z,vi (N.mkv x y pz 0).cx,vi (N.mkv x y pz 0).cy,vi (N.mkv x y pz 0).rate]
noncomputable abbrev zNqU7 (px:Int) (py:Int) (pz:Int):=ag [vi px,vi py,vi pz,AV.vnil]
theorem qAc0 (px py pz x y:Int)  (Q:AV->Heap->Prop) (H :
  ((N.sam x y pz px py pz)->Q (tu []) [{ elems:=[ag [vi px,vi py,vi pz,AV.vnil]],es:=4,ver:=0,frozen:=false,clean:=false },{ elems:=[ag [vi x,vi y]],es:=2,ver:=0,frozen:=false,clean:=false }]) /\
  (¬(N.sam x y pz px py pz)->Q (tu []) [{ elems:=[ag [vi x,vi y,vi pz,AV.row 2 0]],es:=4,ver:=0,frozen:=false,clean:=false },{ elems:=[ag [vi x,vi y]],es:=2,ver:=0,frozen:=false,clean:=false },{ elems:=List.map Mv.a (N.tol x y pz px py pz 0),es:=7,ver:=0,frozen:=false,clean:=true }])) :
 qAc0_at px py pz x y Q:=by
 unfold qAc0_at
 rcases xq H with ⟨d1,H⟩|⟨d1,H⟩
 ·exact ZaR (G:=Zae kp27 [(1,11,.call (tu []) (some [⟨[(zNqU7 px py pz)],4,0,false,false⟩,⟨[(zNqU5 x y pz)],3,0,false,false⟩]))] [(1,[11])]) 1000 [] (env':=[]) (L':=[⟨[(zNqU7 px py pz)],4,0,false,false⟩,⟨[ag [vi x,vi y]],2,0,false,false⟩]) (asm:=[true,true,true]) (eqs:=[]) (calls:=[⟨true,true,54,[AV.ptr 0 0 0 0,(zNqU5 x y pz),vi 0],[⟨[(zNqU7 px py pz)],4,0,false,false⟩],tu [],[⟨[(zNqU7 px py pz)],4,0,false,false⟩,⟨[(zNqU5 x y pz)],3,0,false,false⟩]⟩]) (tu []) (by kernel_rfl) (by kernel_rfl) (Zaa rfl (Zaa rfl (Zaa rfl Zal))) Zao (Zah (fun _=>(@evo54_y px py pz x y pz 0 d1)) Zap) H
 ·exact ZaR (G:=Zae kp27 [(1,11,.call (tu []) (some [⟨[ag [vi x,vi y,vi pz,AV.row 3 0]],4,0,false,false⟩,⟨[(zNqU5 x y pz)],3,0,false,false⟩,⟨[(zNqU6 x y pz)],7,0,false,false⟩,⟨List.map Mv.a (N.tol x y pz px py pz 0),7,0,false,true⟩]))] [(1,[11])]) 1000 [] (env':=[]) (L':=[⟨[ag [vi x,vi y,vi pz,AV.row 2 0]],4,0,false,false⟩,⟨[ag [vi x,vi y]],2,0,false,false⟩,⟨List.map Mv.a (N.tol x y pz px py pz 0),7,0,false,true⟩]) (asm:=[true,true,true]) (eqs:=[]) (calls:=[⟨true,true,54,[AV.ptr 0 0 0 0,(zNqU5 x y pz),vi 0],[⟨[(zNqU7 px py pz)],4,0,false,false⟩],tu [],[⟨[ag [vi x,vi y,vi pz,AV.row 3 0]],4,0,false,false⟩,⟨[(zNqU5 x y pz)],3,0,false,false⟩,⟨[(zNqU6 x y pz)],7,0,false,false⟩,⟨List.map Mv.a (N.tol x y pz px py pz 0),7,0,false,true⟩]⟩]) (tu []) (by kernel_rfl) (by kernel_rfl) (Zaa rfl (Zaa rfl (Zaa rfl Zal))) Zao (Zah (fun _=>(@evo54_n px py pz x y pz 0 d1)) Zap) H
noncomputable abbrev zNqU8 (x:Int) (y:Int) (pz:Int) (v:Nat) (px:Int) (py:Int):=ag [vi x,vi y,vi pz,AV.row 1 (v+(N.tol x y pz px py pz 0).length)]
theorem qAc1 (ms:List Mv) (v:Nat) (px py pz x y:Int)  (dv:AV) (dK:Heap) (_:Zcx 2 dv dK=true) (H :
  (ms.length<=100000) /\
  (ZbR dv dK) (tu []) [{ elems:=[ag [vi x,vi y,vi pz,AV.row 1 (v+(N.tol x y pz px py pz 0).length)]],es:=4,ver:=0,frozen:=false,clean:=false },{ elems:=List.map Mv.a (ms++N.tol x y pz px py pz 0),es:=7,ver:=v+(N.tol x y pz px py pz 0).length,frozen:=false,clean:=true },{ elems:=[ag [vi x,vi y]],es:=2,ver:=0,frozen:=false,clean:=false }]) :
 qAc1_at ms v px py pz x y (ZbR dv dK):=by
 unfold qAc1_at
 obtain ⟨k1,H⟩:=H
 exact ZaR (G:=Zae kp27 [(1,11,.call (tu []) (some [⟨[(zNqU8 x y pz v px py)],4,0,false,false⟩,⟨List.map Mv.a (ms++N.tol x y pz px py pz 0),7,v+(N.tol x y pz px py pz 0).length,false,true⟩]))] [(1,[11])]) 1000 [] (env':=[]) (L':=[⟨[(zNqU8 x y pz v px py)],4,0,false,false⟩,⟨List.map Mv.a (ms++N.tol x y pz px py pz 0),7,v+(N.tol x y pz px py pz 0).length,false,true⟩,⟨[ag [vi x,vi y]],2,0,false,false⟩]) (asm:=[true,true,true]) (eqs:=[]) (calls:=[⟨true,true,54,[AV.ptr 0 0 0 0,ag [vi x,vi y,vi pz],vi 0],[⟨[ag [vi px,vi py,vi pz,AV.row 1 v]],4,0,false,false⟩,⟨List.map Mv.a ms,7,v,false,true⟩],tu [],[⟨[(zNqU8 x y pz v px py)],4,0,false,false⟩,⟨List.map Mv.a (ms++N.tol x y pz px py pz 0),7,v+(N.tol x y pz px py pz 0).length,false,true⟩]⟩]) (tu []) (by kernel_rfl) (by kernel_rfl) (Zaa rfl (Zaa rfl (Zaa rfl Zal))) Zao (Zah (fun _=>(@evo54 ms v px py pz x y pz 0 k1)) Zap) H
end Go.Av

namespace Go.Av
open Go.Proofs
theorem ZgV (px py pz z:Int) (c:N.sam px py z px py pz) :
  Ev M1 (.own 26 [.ptr 0 0 0 0,.int .i64 z] [⟨[.agg [.int .i64 px,.int .i64 py,.int .i64 pz,.vnil]],4,0,false,false⟩])
   (.tup []) [⟨[.agg [.int .i64 px,.int .i64 py,.int .i64 pz,.vnil]],4,0,false,false⟩]:=
 owncall26 (qRi0 _ _ _ _ _ ⟨fun _=>⟨rfl,rfl⟩,fun k=>absurd c k⟩)
theorem evo26_n (px py pz z:Int) (c:¬N.sam px py z px py pz) :
  Ev M1 (.own 26 [.ptr 0 0 0 0,.int .i64 z] [⟨[.agg [.int .i64 px,.int .i64 py,.int .i64 pz,.vnil]],4,0,false,false⟩])
   (.tup []) [⟨[.agg [.int .i64 px,.int .i64 py,.int .i64 z,.row 1 0]],4,0,false,false⟩,⟨(N.tol px py z px py pz 0).map Mv.a,7,0,false,true⟩]:=
 owncall26 (qRi0 _ _ _ _ _ ⟨fun k=>absurd k c,fun _=>⟨rfl,rfl⟩⟩)
theorem evo26 (ms:List Mv) (v:Nat) (px py pz z:Int) (h:ms.length<=100000) :
  Ev M1 (.own 26 [.ptr 0 0 0 0,.int .i64 z] [⟨[.agg [.int .i64 px,.int .i64 py,.int .i64 pz,.row 1 v]],4,0,false,false⟩,⟨ms.map Mv.a,7,v,false,true⟩])
   (.tup []) [⟨[.agg [.int .i64 px,.int .i64 py,.int .i64 z,.row 1 (v+(N.tol px py z px py pz 0).length)]],4,0,false,false⟩,⟨(ms++N.tol px py z px py pz 0).map Mv.a,7,v+(N.tol px py z px py pz 0).length,false,true⟩]:=
 keepcall26 rfl (qRi1 _ _ _ _ _ _ _ _ rfl ⟨h,rfl,rfl⟩)
theorem evo27_y (px py pz x y:Int) (c:N.sam x y pz px py pz) :
  Ev M1 (.own 27 [.ptr 0 0 0 0,.agg [.int .i64 x,.int .i64 y]] [⟨[.agg [.int .i64 px,.int .i64 py,.int .i64 pz,.vnil]],4,0,false,false⟩])
   (.tup []) [⟨[.agg [.int .i64 px,.int .i64 py,.int .i64 pz,.vnil]],4,0,false,false⟩,⟨[.agg [.int .i64 x,.int .i64 y]],2,0,false,false⟩]:=
 owncall27 (qAc0 _ _ _ _ _ _ ⟨fun _=>⟨rfl,rfl⟩,fun k=>absurd c k⟩)
theorem evo27_n (px py pz x y:Int) (c:¬N.sam x y pz px py pz) :
  Ev M1 (.own 27 [.ptr 0 0 0 0,.agg [.int .i64 x,.int .i64 y]] [⟨[.agg [.int .i64 px,.int .i64 py,.int .i64 pz,.vnil]],4,0,false,false⟩])
   (.tup []) [⟨[.agg [.int .i64 x,.int .i64 y,.int .i64 pz,.row 2 0]],4,0,false,false⟩,⟨[.agg [.int .i64 x,.int .i64 y]],2,0,false,false⟩,⟨(N.tol x y pz px py pz 0).map Mv.a,7,0,false,true⟩]:=
 owncall27 (qAc0 _ _ _ _ _ _ ⟨fun k=>absurd k c,fun _=>⟨rfl,rfl⟩⟩)
theorem evo27 (ms:List Mv) (v:Nat) (px py pz x y:Int) (h:ms.length<=100000) :
  Ev M1 (.own 27 [.ptr 0 0 0 0,.agg [.int .i64 x,.int .i64 y]] [⟨[.agg [.int .i64 px,.int .i64 py,.int .i64 pz,.row 1 v]],4,0,false,false⟩,⟨ms.map Mv.a,7,v,false,true⟩])
   (.tup []) [⟨[.agg [.int .i64 x,.int .i64 y,.int .i64 pz,.row 1 (v+(N.tol x y pz px py pz 0).length)]],4,0,false,false⟩,⟨(ms++N.tol x y pz px py pz 0).map Mv.a,7,v+(N.tol x y pz px py pz 0).length,false,true⟩]:=
 keepcall27 rfl (qAc1 _ _ _ _ _ _ _ _ _ rfl ⟨h,rfl,rfl⟩)
end Go.Av

namespace Go.Av
open Go.Proofs
set_option maxRecDepth 100000
def fi28:Fi:=⟨45,[]⟩
def kp28:List (Nat × List Nat):=[(0,[0,1,2,6]),(1,[0,1,2,6,15]),(2,[0,1,2]),(3,[0,1,2,29]),(4,[])]
def fi32:Fi:=⟨30,[.cell 6 66]⟩
def kp32:List (Nat × List Nat):=[(0,[2,3,4,6]),(1,[2,3,4,6,7]),(2,[2,3,4,6,7,11]),(3,[2,3,4,6,7]),(4,[2,3,4,6,7,18]),(5,[2,3,4,6]),(6,[2,3,4,6,24]),(7,[3,6]),(8,[6])]
def qDe0_at (px py pz z pl:Int) (Q:AV->Heap->Prop):Prop:=Wp M1 (.run fi28 (atC (cd Tryz.f28) []) [(0,.ptr 0 0 0 0),(1,.int .i64 z),(2,.int .i64 pl)] [⟨[.agg [.int .i64 px,.int .i64 py,.int .i64 pz,.vnil]],4,0,false,false⟩]) Q
def qDe1_at (ms:List Mv) (v:Nat) (px py pz z pl:Int) (Q:AV->Heap->Prop):Prop:=Wp M1 (.run fi28 (atC (cd Tryz.f28) []) [(0,.ptr 0 0 0 0),(1,.int .i64 z),(2,.int .i64 pl)] [⟨[.agg [.int .i64 px,.int .i64 py,.int .i64 pz,.row 1 v]],4,0,false,false⟩,⟨ms.map Mv.a,7,v,false,true⟩]) Q
def qRd0_at (px py pz x y z pl:Int) (Q:AV->Heap->Prop):Prop:=Wp M1 (.run fi32 (atC (cd Tryz.f32) []) [(0,.agg [.int .i64 px,.int .i64 py,.int .i64 pz,.vnil]),(1,.agg [.int .i64 x,.int .i64 y,.int .i64 z]),(2,.int .i64 pl)] []) Q
def qRd1_at (ms:List Mv) (v:Nat) (px py pz x y z pl:Int) (Q:AV->Heap->Prop):Prop:=Wp M1 (.run fi32 (atC (cd Tryz.f32) []) [(0,.agg [.int .i64 px,.int .i64 py,.int .i64 pz,.row 0 v]),(1,.agg [.int .i64 x,.int .i64 y,.int .i64 z]),(2,.int .i64 pl)] [⟨ms.map Mv.a,7,v,false,true⟩]) Q
theorem owncall28 {args:List AV} {L:Heap} {Q:AV->Heap->Prop} (h:Wp M1 (.run fi28 [.code (cd Tryz.f28)] (Za2 0 args) L) Q):Wp M1 (.own 28 args L) Q:=
 ZdU Tryz.f28 fi28 (by kernel_rfl) (by kernel_rfl) (by kernel_rfl) (by kernel_rfl) h
theorem keepcall28 {args:List AV} {L:Heap} {v:AV} {K:Heap} (hk:Zcx L.length v K=true) (h:Wp M1 (.run fi28 [.code (cd Tryz.f28)] (Za2 0 args) L) (ZbR v K)):Ev M1 (.own 28 args L) v K:=
 Zee Tryz.f28 fi28 (by kernel_rfl) (by kernel_rfl) (by kernel_rfl) (by kernel_rfl) hk h
theorem owncall32 {args:List AV} {L:Heap} {Q:AV->Heap->Prop} (h:Wp M1 (.run fi32 [.code (cd Tryz.f32)] (Za2 0 args) L) Q):Wp M1 (.own 32 args L) Q:=
 ZdU Tryz.f32 fi32 (by kernel_rfl) (by kernel_rfl) (by kernel_rfl) (by kernel_rfl) h
theorem keepcall32 {args:List AV} {L:Heap} {v:AV} {K:Heap} (hk:Zcx L.length v K=true) (h:Wp M1 (.run fi32 [.code (cd Tryz.f32)] (Za2 0 args) L) (ZbR v K)):Ev M1 (.own 32 args L) v K:=
 Zee Tryz.f32 fi32 (by kernel_rfl) (by kernel_rfl) (by kernel_rfl) (by kernel_rfl) hk h
noncomputable abbrev Zeo (px:Int) (py:Int) (pz:Int):=ag [vi px,vi py,vi pz,AV.vnil]
noncomputable abbrev zNqV2 (px:Int) (py:Int) (z:Int) (pl:Int):=ag [vi (N.mkv px py z pl).kind,vi (N.mkv px py z pl).x,vi (N.mkv px py z pl).y,vi (N.mkv px py z pl).z,vi (N.mkv px py z pl).cx,vi (N.mkv px py z pl).cy,vi (N.mkv px py z pl).rate]
noncomputable abbrev Zfk (px:Int) (py:Int) (z:Int):=ag [vi px,vi py,vi z]
noncomputable abbrev zNqV4 (px:Int) (py:Int) (z:Int):=ag [vi px,vi py,vi (if z>1000 then z else 1000),AV.row 1 0]
noncomputable abbrev zNqV5 (z:Int) (pz:Int):=bif decide (z<1000) then decide (z<pz) else false
noncomputable abbrev zNqV6 (px:Int) (py:Int) (z:Int) (pl:Int):=ag [vi px,vi py,vi z,AV.row 1 (0+(N.tol px py z px py (if z>1000 then z else 1000) pl).length)]
noncomputable abbrev zNqV7 (z:Int):=bif decide (z<1000) then decide (z<if z>1000 then z else 1000) else false
noncomputable abbrev zNqV8 (px:Int) (py:Int) (z:Int):=ag [vi px,vi py,vi z,AV.row 3 0]
noncomputable abbrev zNqV9 (px:Int) (py:Int) (z:Int) (pz:Int):=N.tol px py (if z>1000 then z else 1000) px py pz 0
noncomputable abbrev zNqV10 (px:Int) (py:Int) (z:Int) (pz:Int) (pl:Int):=N.tol px py (if z>1000 then z else 1000) px py pz 0++N.tol px py z px py (if z>1000 then z else 1000) pl
theorem qDe0 (px py pz z pl:Int)  (Q:AV->Heap->Prop) (H :
    ((pz > if z > 1000 then z else 1000) -> ((N.sam px py (if z > 1000 then z else 1000) px py pz) -> (((z < 1000) /\ (z < pz)) -> ((N.sam px py z px py pz) -> Q (tu []) [{ elems:=[ag [vi px,vi py,vi pz,AV.vnil]],es:=4,ver:=0,frozen:=false,clean:=false }]) /\
          (¬(N.sam px py z px py pz)->Q (tu []) [{ elems:=[ag [vi px,vi py,vi z,AV.row 1 0]],es:=4,ver:=0,frozen:=false,clean:=false },{ elems:=List.map Mv.a (N.tol px py z px py pz pl),es:=7,ver:=0,frozen:=false,clean:=true }])) /\
        (¬((z<1000)/\(z<pz))->Q (tu []) [{ elems:=[ag [vi px,vi py,vi pz,AV.vnil]],es:=4,ver:=0,frozen:=false,clean:=false }])) /\
      (¬(N.sam px py (if z > 1000 then z else 1000) px py pz) -> (((z < 1000) /\ (z < if z > 1000 then z else 1000)) -> ((N.tol px py (if z > 1000 then z else 1000) px py pz 0).length <= 100000) /\
          Q (tu []) [{ elems:=[ag [vi px,vi py,vi z,AV.row 1 (0+(N.tol px py z px py (if z>1000 then z else 1000) pl).length)]],es:=4,ver:=0,frozen:=false,clean:=false },{ elems:=List.map Mv.a (N.tol px py (if z>1000 then z else 1000) px py pz 0++N.tol px py z px py (if z>1000 then z else 1000) pl),es:=7,ver:=0+(N.tol px py z px py (if z>1000 then z else 1000) pl).length,frozen:=false,clean:=true }]) /\
        (¬((z<1000)/\(z<if z>1000 then z else 1000))->Q (tu []) [{ elems:=[ag [vi px,vi py,vi (if z>1000 then z else 1000),AV.row 1 0]],es:=4,ver:=0,frozen:=false,clean:=false },{ elems:=List.map Mv.a (N.tol px py (if z>1000 then z else 1000) px py pz 0),es:=7,ver:=0,frozen:=false,clean:=true }]))) /\
    (¬(pz > if z > 1000 then z else 1000) -> (((z < 1000) /\ (z < pz)) -> ((N.sam px py z px py pz) -> Q (tu []) [{ elems:=[ag [vi px,vi py,vi pz,AV.vnil]],es:=4,ver:=0,frozen:=false,clean:=false }]) /\
        (¬(N.sam px py z px py pz)->Q (tu []) [{ elems:=[ag [vi px,vi py,vi z,AV.row 1 0]],es:=4,ver:=0,frozen:=false,clean:=false },{ elems:=List.map Mv.a (N.tol px py z px py pz pl),es:=7,ver:=0,frozen:=false,clean:=true }])) /\
      (¬((z<1000)/\(z<pz))->Q (tu []) [{ elems:=[ag [vi px,vi py,vi pz,AV.vnil]],es:=4,ver:=0,frozen:=false,clean:=false }]))) :
  qDe0_at px py pz z pl Q:=by
  unfold qDe0_at
  rcases xm (pz>if z>1000 then z else 1000) with d2 | d2
  · have H:=H.1 d2
    rcases xm (N.sam px py (if z>1000 then z else 1000) px py pz) with d3 | d3
    · have H:=H.1 d3
      refine Zaf (G:=Zae kp28 [(2,2,.call (tu []) none)] []) 9 [true] ⟨(atC (cd Tryz.f28) [1,1]),[(0,AV.ptr 0 0 0 0),(1,vi z),(2,vi pl),(29,vb (zNqV5 z pz))],[⟨[(Zeo px py pz)],4,0,false,false⟩],[true,(decide (pz>if z>1000 then z else 1000))==true,!(decide (z<1000)==true&&true)||true],[],[⟨true,true,26,[AV.ptr 0 0 0 0,vi (if z>1000 then z else 1000)],[⟨[(Zeo px py pz)],4,0,false,false⟩],tu [],[⟨[(Zeo px py pz)],4,0,false,false⟩]⟩]⟩ (by kernel_rfl) (bc rfl (bc (Zam (Zac.2 d2)) (bc (Bool.or_true _) b0))) q0 (cc (fun _=>(@ZgV px py pz (if z>1000 then z else 1000) d3)) c0) ?_
      rcases xm ((z<1000)/\(z<pz)) with d5 | d5
      · have H:=H.1 d5
        rcases xm (N.sam px py z px py pz) with d6 | d6
        · have H:=H.1 d6
          exact ZaR (G:=Zae kp28 [(4,14,.call (tu []) (some [⟨[(Zeo px py pz)],4,0,false,false⟩,⟨[(Zfk px py z)],3,0,false,false⟩]))] [(4,[14])]) 1000 [true] (env':=[]) (L':=[⟨[(Zeo px py pz)],4,0,false,false⟩]) (asm:=[(zNqV5 z pz)==true,true,true]) (eqs:=[]) (calls:=[⟨true,true,54,[AV.ptr 0 0 0 0,(Zfk px py z),vi pl],[⟨[(Zeo px py pz)],4,0,false,false⟩],tu [],[⟨[(Zeo px py pz)],4,0,false,false⟩,⟨[(Zfk px py z)],3,0,false,false⟩]⟩]) (tu []) (by kernel_rfl) (by kernel_rfl) (Zaa (Zam ((Za1 Zac Zac).2 d5)) (Zaa rfl (Zaa rfl Zal))) Zao (Zah (fun _=>(@evo54_y px py pz px py z pl d6)) Zap) H
        · have H:=H.2 d6
          exact ZaR (G:=Zae kp28 [(4,14,.call (tu []) (some [⟨[(zNqV8 px py z)],4,0,false,false⟩,⟨[(Zfk px py z)],3,0,false,false⟩,⟨[(zNqV2 px py z pl)],7,0,false,false⟩,⟨List.map Mv.a (N.tol px py z px py pz pl),7,0,false,true⟩]))] [(4,[14])]) 1000 [true] (env':=[]) (L':=[⟨[ag [vi px,vi py,vi z,AV.row 1 0]],4,0,false,false⟩,⟨List.map Mv.a (N.tol px py z px py pz pl),7,0,false,true⟩]) (asm:=[(zNqV5 z pz)==true,true,true]) (eqs:=[]) (calls:=[⟨true,true,54,[AV.ptr 0 0 0 0,(Zfk px py z),vi pl],[⟨[(Zeo px py pz)],4,0,false,false⟩],tu [],[⟨[(zNqV8 px py z)],4,0,false,false⟩,⟨[(Zfk px py z)],3,0,false,false⟩,⟨[(zNqV2 px py z pl)],7,0,false,false⟩,⟨List.map Mv.a (N.tol px py z px py pz pl),7,0,false,true⟩]⟩]) (tu []) (by kernel_rfl) (by kernel_rfl) (Zaa (Zam ((Za1 Zac Zac).2 d5)) (Zaa rfl (Zaa rfl Zal))) Zao (Zah (fun _=>(@evo54_n px py pz px py z pl d6)) Zap) H
      · have H:=H.2 d5
        exact ZaR (G:=Zae kp28 [] []) 1000 [false] (env':=[(0,AV.ptr 0 0 0 0),(1,vi z),(2,vi pl),(29,vb (zNqV5 z pz))]) (L':=[⟨[(Zeo px py pz)],4,0,false,false⟩]) (asm:=[(zNqV5 z pz)==false]) (eqs:=[]) (calls:=[]) (tu []) (by kernel_rfl) (by kernel_rfl) (Zaa (Zak (fun h=>d5 ((Za1 Zac Zac).1 h))) Zal) Zao Zap H
    · have H:=H.2 d3
      refine Zaf (G:=Zae kp28 [(2,2,.call (tu []) (some [⟨[(zNqV4 px py z)],4,0,false,false⟩,⟨List.map Mv.a (zNqV9 px py z pz),7,0,false,true⟩]))] []) 9 [true] ⟨(atC (cd Tryz.f28) [1,1]),[(0,AV.ptr 0 0 0 0),(1,vi z),(2,vi pl),(29,vb (zNqV7 z))],[⟨[(zNqV4 px py z)],4,0,false,false⟩,⟨List.map Mv.a (zNqV9 px py z pz),7,0,false,true⟩],[true,(decide (pz>if z>1000 then z else 1000))==true,!(decide (z<1000)==true&&true)||true],[],[⟨true,true,26,[AV.ptr 0 0 0 0,vi (if z>1000 then z else 1000)],[⟨[(Zeo px py pz)],4,0,false,false⟩],tu [],[⟨[(zNqV4 px py z)],4,0,false,false⟩,⟨List.map Mv.a (zNqV9 px py z pz),7,0,false,true⟩]⟩]⟩ (by kernel_rfl) (bc rfl (bc (Zam (Zac.2 d2)) (bc (Bool.or_true _) b0))) q0 (cc (fun _=>(@evo26_n px py pz (if z>1000 then z else 1000) d3)) c0) ?_
      rcases xm ((z<1000)/\(z<if z>1000 then z else 1000)) with d8 | d8
      · have H:=H.1 d8
        obtain ⟨k9,H⟩:=H
        exact ZaR (G:=Zae kp28 [(4,14,.call (tu []) (some [⟨[(zNqV6 px py z pl)],4,0,false,false⟩,⟨List.map Mv.a (zNqV10 px py z pz pl),7,0+(N.tol px py z px py (if z>1000 then z else 1000) pl).length,false,true⟩]))] [(4,[14])]) 1000 [true] (env':=[]) (L':=[⟨[(zNqV6 px py z pl)],4,0,false,false⟩,⟨List.map Mv.a (zNqV10 px py z pz pl),7,0+(N.tol px py z px py (if z>1000 then z else 1000) pl).length,false,true⟩]) (asm:=[(zNqV7 z)==true,true,true]) (eqs:=[]) (calls:=[⟨true,true,54,[AV.ptr 0 0 0 0,(Zfk px py z),vi pl],[⟨[(zNqV4 px py z)],4,0,false,false⟩,⟨List.map Mv.a (zNqV9 px py z pz),7,0,false,true⟩],tu [],[⟨[(zNqV6 px py z pl)],4,0,false,false⟩,⟨List.map Mv.a (zNqV10 px py z pz pl),7,0+(N.tol px py z px py (if z>1000 then z else 1000) pl).length,false,true⟩]⟩]) (tu []) (by kernel_rfl) (by kernel_rfl) (Zaa (Zam ((Za1 Zac Zac).2 d8)) (Zaa rfl (Zaa rfl Zal))) Zao (Zah (fun _=>(@evo54 (zNqV9 px py z pz) 0 px py (if z>1000 then z else 1000) px py z pl k9)) Zap) H
      · have H:=H.2 d8
        exact ZaR (G:=Zae kp28 [] []) 1000 [false] (env':=[(0,AV.ptr 0 0 0 0),(1,vi z),(2,vi pl),(29,vb (zNqV7 z))]) (L':=[⟨[(zNqV4 px py z)],4,0,false,false⟩,⟨List.map Mv.a (zNqV9 px py z pz),7,0,false,true⟩]) (asm:=[(zNqV7 z)==false]) (eqs:=[]) (calls:=[]) (tu []) (by kernel_rfl) (by kernel_rfl) (Zaa (Zak (fun h=>d8 ((Za1 Zac Zac).1 h))) Zal) Zao Zap H
  · have H:=H.2 d2
    rcases xm ((z<1000)/\(z<pz)) with d11 | d11
    · have H:=H.1 d11
      rcases xm (N.sam px py z px py pz) with d12 | d12
      · have H:=H.1 d12
        exact ZaR (G:=Zae kp28 [(4,14,.call (tu []) (some [⟨[(Zeo px py pz)],4,0,false,false⟩,⟨[(Zfk px py z)],3,0,false,false⟩]))] [(4,[14])]) 1000 [false,true] (env':=[]) (L':=[⟨[(Zeo px py pz)],4,0,false,false⟩]) (asm:=[true,(decide (pz>if z>1000 then z else 1000))==false,!(decide (z<1000)==true&&true)||true,(zNqV5 z pz)==true,true,true]) (eqs:=[]) (calls:=[⟨true,true,54,[AV.ptr 0 0 0 0,(Zfk px py z),vi pl],[⟨[(Zeo px py pz)],4,0,false,false⟩],tu [],[⟨[(Zeo px py pz)],4,0,false,false⟩,⟨[(Zfk px py z)],3,0,false,false⟩]⟩]) (tu []) (by kernel_rfl) (by kernel_rfl) (Zaa rfl (Zaa (Zak (fun h=>d2 (Zac.1 h))) (Zaa (Bool.or_true _) (Zaa (Zam ((Za1 Zac Zac).2 d11)) (Zaa rfl (Zaa rfl Zal)))))) Zao (Zah (fun _=>(@evo54_y px py pz px py z pl d12)) Zap) H
      · have H:=H.2 d12
        exact ZaR (G:=Zae kp28 [(4,14,.call (tu []) (some [⟨[(zNqV8 px py z)],4,0,false,false⟩,⟨[(Zfk px py z)],3,0,false,false⟩,⟨[(zNqV2 px py z pl)],7,0,false,false⟩,⟨List.map Mv.a (N.tol px py z px py pz pl),7,0,false,true⟩]))] [(4,[14])]) 1000 [false,true] (env':=[]) (L':=[⟨[ag [vi px,vi py,vi z,AV.row 1 0]],4,0,false,false⟩,⟨List.map Mv.a (N.tol px py z px py pz pl),7,0,false,true⟩]) (asm:=[true,(decide (pz>if z>1000 then z else 1000))==false,!(decide (z<1000)==true&&true)||true,(zNqV5 z pz)==true,true,true]) (eqs:=[]) (calls:=[⟨true,true,54,[AV.ptr 0 0 0 0,(Zfk px py z),vi pl],[⟨[(Zeo px py pz)],4,0,false,false⟩],tu [],[⟨[(zNqV8 px py z)],4,0,false,false⟩,⟨[(Zfk px py z)],3,0,false,false⟩,⟨[(zNqV2 px py z pl)],7,0,false,false⟩,⟨List.map Mv.a (N.tol px py z px py pz pl),7,0,false,true⟩]⟩]) (tu []) (by kernel_rfl) (by kernel_rfl) (Zaa rfl (Zaa (Zak (fun h=>d2 (Zac.1 h))) (Zaa (Bool.or_true _) (Zaa (Zam ((Za1 Zac Zac).2 d11)) (Zaa rfl (Zaa rfl Zal)))))) Zao (Zah (fun _=>(@evo54_n px py pz px py z pl d12)) Zap) H
    · have H:=H.2 d11
      exact ZaR (G:=Zae kp28 [] []) 1000 [false,false] (env':=[(0,AV.ptr 0 0 0 0),(1,vi z),(2,vi pl),(29,vb (zNqV5 z pz))]) (L':=[⟨[(Zeo px py pz)],4,0,false,false⟩]) (asm:=[true,(decide (pz>if z>1000 then z else 1000))==false,!(decide (z<1000)==true&&true)||true,(zNqV5 z pz)==false]) (eqs:=[]) (calls:=[]) (tu []) (by kernel_rfl) (by kernel_rfl) (Zaa rfl (Zaa (Zak (fun h=>d2 (Zac.1 h))) (Zaa (Bool.or_true _) (Zaa (Zak (fun h=>d11 ((Za1 Zac Zac).1 h))) Zal)))) Zao Zap H
noncomputable abbrev ZdE (px:Int) (py:Int) (z:Int) (pz:Int):=N.tol px py (if z>1000 then z else 1000) px py pz 0
noncomputable abbrev zNqV11 (px:Int) (py:Int) (z:Int) (v:Nat) (pz:Int):=ag [vi px,vi py,vi (if z>1000 then z else 1000),AV.row 1 (v+(ZdE px py z pz).length)]
noncomputable abbrev zNqV13 (px:Int) (py:Int) (z:Int) (v:Nat) (pz:Int) (pl:Int):=ag [vi px,vi py,vi z,AV.row 1 (v+(ZdE px py z pz).length+(N.tol px py z px py (if z>1000 then z else 1000) pl).length)]
noncomputable abbrev zNqV14 (z:Int):=bif decide (z<1000) then decide (z<if z>1000 then z else 1000) else false
noncomputable abbrev zNqV15 (px:Int) (py:Int) (z:Int) (v:Nat) (pz:Int) (pl:Int):=ag [vi px,vi py,vi z,AV.row 1 (v+(N.tol px py z px py pz pl).length)]
noncomputable abbrev zNqV16 (px:Int) (py:Int) (pz:Int) (v:Nat):=ag [vi px,vi py,vi pz,AV.row 1 v]
theorem qDe1 (ms:List Mv) (v:Nat) (px py pz z pl:Int)  (dv:AV) (dK:Heap) (_:Zcx 2 dv dK=true) (H :
  ((pz>if z>1000 then z else 1000)->(ms.length<=100000) /\
   (((z<1000)/\(z<if z>1000 then z else 1000))->((ms++N.tol px py (if z>1000 then z else 1000) px py pz 0).length<=100000) /\
    (ZbR dv dK) (tu []) [{ elems:=[ag [vi px,vi py,vi z,AV.row 1 (v+(N.tol px py (if z>1000 then z else 1000) px py pz 0).length+(N.tol px py z px py (if z>1000 then z else 1000) pl).length)]],es:=4,ver:=0,frozen:=false,clean:=false },{ elems:=List.map Mv.a (ms++N.tol px py (if z>1000 then z else 1000) px py pz 0++N.tol px py z px py (if z>1000 then z else 1000) pl),es:=7,ver:=v+(N.tol px py (if z>1000 then z else 1000) px py pz 0).length+(N.tol px py z px py (if z>1000 then z else 1000) pl).length,frozen:=false,clean:=true }]) /\
   (¬((z<1000)/\(z<if z>1000 then z else 1000))->(ZbR dv dK) (tu []) [{ elems:=[ag [vi px,vi py,vi (if z>1000 then z else 1000),AV.row 1 (v+(N.tol px py (if z>1000 then z else 1000) px py pz 0).length)]],es:=4,ver:=0,frozen:=false,clean:=false },{ elems:=List.map Mv.a (ms++N.tol px py (if z>1000 then z else 1000) px py pz 0),es:=7,ver:=v+(N.tol px py (if z>1000 then z else 1000) px py pz 0).length,frozen:=false,clean:=true }])) /\
  (¬(pz>if z>1000 then z else 1000)->(((z<1000)/\(z<pz))->(ms.length<=100000) /\
    (ZbR dv dK) (tu []) [{ elems:=[ag [vi px,vi py,vi z,AV.row 1 (v+(N.tol px py z px py pz pl).length)]],es:=4,ver:=0,frozen:=false,clean:=false },{ elems:=List.map Mv.a (ms++N.tol px py z px py pz pl),es:=7,ver:=v+(N.tol px py z px py pz pl).length,frozen:=false,clean:=true }]) /\
   (¬((z<1000)/\(z<pz))->(ZbR dv dK) (tu []) [{ elems:=[ag [vi px,vi py,vi pz,AV.row 1 v]],es:=4,ver:=0,frozen:=false,clean:=false },{ elems:=List.map Mv.a ms,es:=7,ver:=v,frozen:=false,clean:=true }]))) :
 qDe1_at ms v px py pz z pl (ZbR dv dK):=by
 unfold qDe1_at
 rcases xq H with ⟨d2,H⟩|⟨d2,H⟩
 ·obtain ⟨k3,H⟩:=H
  refine Zaf (G:=Zae kp28 [(2,2,.call (tu []) (some [⟨[(zNqV11 px py z v pz)],4,0,false,false⟩,⟨List.map Mv.a (ms++N.tol px py (if z>1000 then z else 1000) px py pz 0),7,v+(ZdE px py z pz).length,false,true⟩]))] []) 9 [true] ⟨(atC (cd Tryz.f28) [1,1]),[(0,AV.ptr 0 0 0 0),(1,vi z),(2,vi pl),(29,vb (zNqV14 z))],[⟨[(zNqV11 px py z v pz)],4,0,false,false⟩,⟨List.map Mv.a (ms++N.tol px py (if z>1000 then z else 1000) px py pz 0),7,v+(ZdE px py z pz).length,false,true⟩],[true,(decide (pz>if z>1000 then z else 1000))==true,!(decide (z<1000)==true&&true)||true],[],[⟨true,true,26,[AV.ptr 0 0 0 0,vi (if z>1000 then z else 1000)],[⟨[(zNqV16 px py pz v)],4,0,false,false⟩,⟨List.map Mv.a ms,7,v,false,true⟩],tu [],[⟨[(zNqV11 px py z v pz)],4,0,false,false⟩,⟨List.map Mv.a (ms++N.tol px py (if z>1000 then z else 1000) px py pz 0),7,v+(ZdE px py z pz).length,false,true⟩]⟩]⟩ (by kernel_rfl) (bc rfl (bc (Zam (Zac.2 d2)) (bc (Bool.or_true _) b0))) q0 (cc (fun _=>(@evo26 ms v px py pz (if z>1000 then z else 1000) k3)) c0) ?_
  rcases xq H with ⟨d5,H⟩|⟨d5,H⟩
  ·obtain ⟨k6,H⟩:=H
   exact ZaR (G:=Zae kp28 [(4,14,.call (tu []) (some [⟨[(zNqV13 px py z v pz pl)],4,0,false,false⟩,⟨List.map Mv.a (ms++N.tol px py (if z>1000 then z else 1000) px py pz 0++N.tol px py z px py (if z>1000 then z else 1000) pl),7,v+(ZdE px py z pz).length+(N.tol px py z px py (if z>1000 then z else 1000) pl).length,false,true⟩]))] [(4,[14])]) 1000 [true] (env':=[]) (L':=[⟨[(zNqV13 px py z v pz pl)],4,0,false,false⟩,⟨List.map Mv.a (ms++N.tol px py (if z>1000 then z else 1000) px py pz 0++N.tol px py z px py (if z>1000 then z else 1000) pl),7,v+(ZdE px py z pz).length+(N.tol px py z px py (if z>1000 then z else 1000) pl).length,false,true⟩]) (asm:=[(zNqV14 z)==true,true,true]) (eqs:=[]) (calls:=[⟨true,true,54,[AV.ptr 0 0 0 0,ag [vi px,vi py,vi z],vi pl],[⟨[(zNqV11 px py z v pz)],4,0,false,false⟩,⟨List.map Mv.a (ms++N.tol px py (if z>1000 then z else 1000) px py pz 0),7,v+(ZdE px py z pz).length,false,true⟩],tu [],[⟨[(zNqV13 px py z v pz pl)],4,0,false,false⟩,⟨List.map Mv.a (ms++N.tol px py (if z>1000 then z else 1000) px py pz 0++N.tol px py z px py (if z>1000 then z else 1000) pl),7,v+(ZdE px py z pz).length+(N.tol px py z px py (if z>1000 then z else 1000) pl).length,false,true⟩]⟩]) (tu []) (by kernel_rfl) (by kernel_rfl) (Zaa (Zam ((Za1 Zac Zac).2 d5)) (Zaa rfl (Zaa rfl Zal))) Zao (Zah (fun _=>(@evo54 (ms++N.tol px py (if z>1000 then z else 1000) px py pz 0) (v+(ZdE px py z pz).length) px py (if z>1000 then z else 1000) px py z pl k6)) Zap) H
  ·exact ZaR (G:=Zae kp28 [] []) 1000 [false] (env':=[(0,AV.ptr 0 0 0 0),(1,vi z),(2,vi pl),(29,vb (zNqV14 z))]) (L':=[⟨[(zNqV11 px py z v pz)],4,0,false,false⟩,⟨List.map Mv.a (ms++N.tol px py (if z>1000 then z else 1000) px py pz 0),7,v+(ZdE px py z pz).length,false,true⟩]) (asm:=[(zNqV14 z)==false]) (eqs:=[]) (calls:=[]) (tu []) (by kernel_rfl) (by kernel_rfl) (Zaa (Zak (fun h=>d5 ((Za1 Zac Zac).1 h))) Zal) Zao Zap H
 ·rcases xq H with ⟨d8,H⟩|⟨d8,H⟩
  ·obtain ⟨k9,H⟩:=H
   exact ZaR (G:=Zae kp28 [(4,14,.call (tu []) (some [⟨[(zNqV15 px py z v pz pl)],4,0,false,false⟩,⟨List.map Mv.a (ms++N.tol px py z px py pz pl),7,v+(N.tol px py z px py pz pl).length,false,true⟩]))] [(4,[14])]) 1000 [false,true] (env':=[]) (L':=[⟨[(zNqV15 px py z v pz pl)],4,0,false,false⟩,⟨List.map Mv.a (ms++N.tol px py z px py pz pl),7,v+(N.tol px py z px py pz pl).length,false,true⟩]) (asm:=[true,(decide (pz>if z>1000 then z else 1000))==false,!(decide (z<1000)==true&&true)||true,(bif decide (z<1000) then decide (z<pz) else false)==true,true,true]) (eqs:=[]) (calls:=[⟨true,true,54,[AV.ptr 0 0 0 0,ag [vi px,vi py,vi z],vi pl],[⟨[(zNqV16 px py pz v)],4,0,false,false⟩,⟨List.map Mv.a ms,7,v,false,true⟩],tu [],[⟨[(zNqV15 px py z v pz pl)],4,0,false,false⟩,⟨List.map Mv.a (ms++N.tol px py z px py pz pl),7,v+(N.tol px py z px py pz pl).length,false,true⟩]⟩]) (tu []) (by kernel_rfl) (by kernel_rfl) (Zaa rfl (Zaa (Zak (fun h=>d2 (Zac.1 h))) (Zaa (Bool.or_true _) (Zaa (Zam ((Za1 Zac Zac).2 d8)) (Zaa rfl (Zaa rfl Zal)))))) Zao (Zah (fun _=>(@evo54 ms v px py pz px py z pl k9)) Zap) H
  ·exact ZaR (G:=Zae kp28 [] []) 1000 [false,false] (env':=[(0,AV.ptr 0 0 0 0),(1,vi z),(2,vi pl),(29,vb (bif decide (z<1000) then decide (z<pz) else false))]) (L':=[⟨[(zNqV16 px py pz v)],4,0,false,false⟩,⟨List.map Mv.a ms,7,v,false,true⟩]) (asm:=[true,(decide (pz>if z>1000 then z else 1000))==false,!(decide (z<1000)==true&&true)||true,(bif decide (z<1000) then decide (z<pz) else false)==false]) (eqs:=[]) (calls:=[]) (tu []) (by kernel_rfl) (by kernel_rfl) (Zaa rfl (Zaa (Zak (fun h=>d2 (Zac.1 h))) (Zaa (Bool.or_true _) (Zaa (Zak (fun h=>d8 ((Za1 Zac Zac).1 h))) Zal)))) Zao Zap H
noncomputable abbrev ZaD (px:Int) (py:Int) (pz:Int):=ag [vi px,vi py,vi pz,AV.vnil]
noncomputable abbrev Zbe (x:Int) (y:Int) (z:Int):=ag [vi x,vi y,vi z]
noncomputable abbrev Zc0 (x:Int) (y:Int):=ag [vi x,vi y,vi 1000]
noncomputable abbrev Zdx (x:Int) (y:Int) (z:Int):=ag [vi x,vi y,vi z,AV.row 3 0]
noncomputable abbrev ZeH (x:Int) (y:Int) (z:Int):=ag [vi x,vi y,vi z,AV.row 4 0]
noncomputable abbrev zNqV22 (x:Int) (y:Int):=ag [vi x,vi y,vi 1000,AV.row 3 0]
noncomputable abbrev zNqV23 (x:Int) (y:Int) (z:Int) (pl:Int):=ag [vi x,vi y,vi z,AV.row 4 (0+(N.adl x y z x y 1000 pl).length)]
theorem qRd0 (px py pz x y z pl:Int)  (Q:AV->Heap->Prop) (H :
    ((z < 1000) -> ((pz > 1000) -> ((N.sam x y 1000 px py pz) -> ((N.sam x y z px py pz) -> Q (ag [vi px,vi py,vi pz,AV.vnil]) [{ elems:=[ag [vi px,vi py,vi pz,AV.vnil]],es:=4,ver:=0,frozen:=false,clean:=false },{ elems:=[ag [vi x,vi y,vi z]],es:=3,ver:=0,frozen:=false,clean:=false },{ elems:=[ag [vi px,vi py,vi pz,AV.vnil]],es:=4,ver:=0,frozen:=false,clean:=false },{ elems:=[ag [vi x,vi y,vi 1000]],es:=3,ver:=0,frozen:=false,clean:=false }]) /\
          (¬(N.sam x y z px py pz)->Q (ag [vi x,vi y,vi z,AV.row 4 0]) [{ elems:=[ag [vi x,vi y,vi z,AV.row 4 0]],es:=4,ver:=0,frozen:=false,clean:=false },{ elems:=[ag [vi x,vi y,vi z]],es:=3,ver:=0,frozen:=false,clean:=false },{ elems:=[ag [vi x,vi y,vi z,AV.row 4 0]],es:=4,ver:=0,frozen:=false,clean:=false },{ elems:=[ag [vi x,vi y,vi 1000]],es:=3,ver:=0,frozen:=false,clean:=false },{ elems:=List.map Mv.a (N.adl x y z px py pz pl),es:=7,ver:=0,frozen:=false,clean:=true }])) /\
        (¬(N.sam x y 1000 px py pz)->((N.adl x y 1000 px py pz 0).length<=100000) /\
          Q (ag [vi x,vi y,vi z,AV.row 4 (0+(N.adl x y z x y 1000 pl).length)]) [{ elems:=[ag [vi x,vi y,vi z,AV.row 4 (0+(N.adl x y z x y 1000 pl).length)]],es:=4,ver:=0,frozen:=false,clean:=false },{ elems:=[ag [vi x,vi y,vi z]],es:=3,ver:=0,frozen:=false,clean:=false },{ elems:=[ag [vi x,vi y,vi z,AV.row 4 (0+(N.adl x y z x y 1000 pl).length)]],es:=4,ver:=0,frozen:=false,clean:=false },{ elems:=[ag [vi x,vi y,vi 1000]],es:=3,ver:=0,frozen:=false,clean:=false },{ elems:=List.map Mv.a (N.adl x y 1000 px py pz 0++N.adl x y z x y 1000 pl),es:=7,ver:=0+(N.adl x y z x y 1000 pl).length,frozen:=false,clean:=true }])) /\
      (¬(pz>1000)->((N.sam x y z px py pz)->Q (ag [vi px,vi py,vi pz,AV.vnil]) [{ elems:=[ag [vi px,vi py,vi pz,AV.vnil]],es:=4,ver:=0,frozen:=false,clean:=false },{ elems:=[ag [vi x,vi y,vi z]],es:=3,ver:=0,frozen:=false,clean:=false },{ elems:=[ag [vi px,vi py,vi pz,AV.vnil]],es:=4,ver:=0,frozen:=false,clean:=false },{ elems:=[ag [vi x,vi y,vi 1000]],es:=3,ver:=0,frozen:=false,clean:=false }]) /\
        (¬(N.sam x y z px py pz)->Q (ag [vi x,vi y,vi z,AV.row 4 0]) [{ elems:=[ag [vi x,vi y,vi z,AV.row 4 0]],es:=4,ver:=0,frozen:=false,clean:=false },{ elems:=[ag [vi x,vi y,vi z]],es:=3,ver:=0,frozen:=false,clean:=false },{ elems:=[ag [vi x,vi y,vi z,AV.row 4 0]],es:=4,ver:=0,frozen:=false,clean:=false },{ elems:=[ag [vi x,vi y,vi 1000]],es:=3,ver:=0,frozen:=false,clean:=false },{ elems:=List.map Mv.a (N.adl x y z px py pz pl),es:=7,ver:=0,frozen:=false,clean:=true }]))) /\
    (¬(z < 1000) -> ((pz > z) -> ((N.sam x y z px py pz) -> Q (ag [vi px,vi py,vi pz,AV.vnil]) [{ elems:=[ag [vi px,vi py,vi pz,AV.vnil]],es:=4,ver:=0,frozen:=false,clean:=false },{ elems:=[ag [vi x,vi y,vi z]],es:=3,ver:=0,frozen:=false,clean:=false },{ elems:=[ag [vi px,vi py,vi pz,AV.vnil]],es:=4,ver:=0,frozen:=false,clean:=false },{ elems:=[ag [vi x,vi y,vi z]],es:=3,ver:=0,frozen:=false,clean:=false }]) /\
        (¬(N.sam x y z px py pz)->Q (ag [vi x,vi y,vi z,AV.row 4 0]) [{ elems:=[ag [vi x,vi y,vi z,AV.row 4 0]],es:=4,ver:=0,frozen:=false,clean:=false },{ elems:=[ag [vi x,vi y,vi z]],es:=3,ver:=0,frozen:=false,clean:=false },{ elems:=[ag [vi x,vi y,vi z,AV.row 4 0]],es:=4,ver:=0,frozen:=false,clean:=false },{ elems:=[ag [vi x,vi y,vi z]],es:=3,ver:=0,frozen:=false,clean:=false },{ elems:=List.map Mv.a (N.adl x y z px py pz 0),es:=7,ver:=0,frozen:=false,clean:=true }])) /\
      (¬(pz>z)->Q (ag [vi px,vi py,vi pz,AV.vnil]) [{ elems:=[ag [vi px,vi py,vi pz,AV.vnil]],es:=4,ver:=0,frozen:=false,clean:=false },{ elems:=[ag [vi x,vi y,vi z]],es:=3,ver:=0,frozen:=false,clean:=false },{ elems:=[ag [vi px,vi py,vi pz,AV.vnil]],es:=4,ver:=0,frozen:=false,clean:=false },{ elems:=[ag [vi x,vi y,vi z]],es:=3,ver:=0,frozen:=false,clean:=false }]))) :
  qRd0_at px py pz x y z pl Q:=by
  unfold qRd0_at
  rcases xm (z<1000) with d2 | d2
  · have H:=H.1 d2
    rcases xm (pz>1000) with d4 | d4
    · have H:=H.1 d4
      rcases xm (N.sam x y 1000 px py pz) with d5 | d5
      · have H:=H.1 d5
        rcases xm (N.sam x y z px py pz) with d7 | d7
        · have H:=H.1 d7
          exact ZaB (G:=Zae kp32 [(5,2,.call ((ZaD px py pz)) (some [⟨[(ZaD px py pz)],4,0,false,false⟩,⟨[(Zc0 x y)],3,0,false,false⟩,⟨[(ZaD px py pz)],4,0,false,false⟩])),(7,3,.call ((ZaD px py pz)) (some [⟨[(ZaD px py pz)],4,0,false,false⟩,⟨[(Zbe x y z)],3,0,false,false⟩,⟨[(ZaD px py pz)],4,0,false,false⟩]))] []) 1000 [true,true,true] (k:=((atC (cd Tryz.f32) [1,1,1,1,1,1])).tail) (env':=[(6,AV.ptr 2 0 0 0)]) (L':=[⟨[(ZaD px py pz)],4,0,false,false⟩,⟨[(Zbe x y z)],3,0,false,false⟩,⟨[(ZaD px py pz)],4,0,false,false⟩,⟨[(Zc0 x y)],3,0,false,false⟩]) (asm:=[true,true,true,(decide (z<1000))==true,0==0,true,true,(decide (pz>1000))==true,true,true,true,true,(decide (z<1000))==true,true,true,true,true,true]) (eqs:=[]) (calls:=[⟨true,true,31,[(ZaD px py pz),(Zc0 x y),vi 0],[],(ZaD px py pz),[⟨[(ZaD px py pz)],4,0,false,false⟩,⟨[(Zc0 x y)],3,0,false,false⟩,⟨[(ZaD px py pz)],4,0,false,false⟩]⟩,⟨true,true,31,[(ZaD px py pz),(Zbe x y z),vi pl],[],(ZaD px py pz),[⟨[(ZaD px py pz)],4,0,false,false⟩,⟨[(Zbe x y z)],3,0,false,false⟩,⟨[(ZaD px py pz)],4,0,false,false⟩]⟩]) ((ZaD px py pz)) (by kernel_rfl) (by kernel_rfl) (Zaa rfl (Zaa rfl (Zaa rfl (Zaa (Zam (Zac.2 d2)) (Zaa (beq_self_eq_true _) (Zaa rfl (Zaa rfl (Zaa (Zam (Zac.2 d4)) (Zaa rfl (Zaa rfl (Zaa rfl (Zaa rfl (Zaa (Zam (Zac.2 d2)) (Zaa rfl (Zaa rfl (Zaa rfl (Zaa rfl (Zaa rfl Zal)))))))))))))))))) Zao (Zah (fun _=>(@ZcV px py pz x y 1000 0 d5)) (Zah (fun _=>(@ZcV px py pz x y z pl d7)) Zap)) H
        · have H:=H.2 d7
          exact ZaB (G:=Zae kp32 [(5,2,.call ((ZaD px py pz)) (some [⟨[(ZaD px py pz)],4,0,false,false⟩,⟨[(Zc0 x y)],3,0,false,false⟩,⟨[(ZaD px py pz)],4,0,false,false⟩])),(7,3,.call ((Zdx x y z)) (some [⟨[(ZaD px py pz)],4,0,false,false⟩,⟨[(Zbe x y z)],3,0,false,false⟩,⟨[(Zdx x y z)],4,0,false,false⟩,⟨List.map Mv.a (N.adl x y z px py pz pl),7,0,false,true⟩]))] []) 1000 [true,true,true] (k:=((atC (cd Tryz.f32) [1,1,1,1,1,1])).tail) (env':=[(6,AV.ptr 2 0 0 0)]) (L':=[⟨[(ZeH x y z)],4,0,false,false⟩,⟨[(Zbe x y z)],3,0,false,false⟩,⟨[(ZeH x y z)],4,0,false,false⟩,⟨[(Zc0 x y)],3,0,false,false⟩,⟨List.map Mv.a (N.adl x y z px py pz pl),7,0,false,true⟩]) (asm:=[true,true,true,(decide (z<1000))==true,0==0,true,true,(decide (pz>1000))==true,true,true,true,true,(decide (z<1000))==true,true,true,true,true,true]) (eqs:=[]) (calls:=[⟨true,true,31,[(ZaD px py pz),(Zc0 x y),vi 0],[],(ZaD px py pz),[⟨[(ZaD px py pz)],4,0,false,false⟩,⟨[(Zc0 x y)],3,0,false,false⟩,⟨[(ZaD px py pz)],4,0,false,false⟩]⟩,⟨true,true,31,[(ZaD px py pz),(Zbe x y z),vi pl],[],(Zdx x y z),[⟨[(ZaD px py pz)],4,0,false,false⟩,⟨[(Zbe x y z)],3,0,false,false⟩,⟨[(Zdx x y z)],4,0,false,false⟩,⟨List.map Mv.a (N.adl x y z px py pz pl),7,0,false,true⟩]⟩]) ((ZeH x y z)) (by kernel_rfl) (by kernel_rfl) (Zaa rfl (Zaa rfl (Zaa rfl (Zaa (Zam (Zac.2 d2)) (Zaa (beq_self_eq_true _) (Zaa rfl (Zaa rfl (Zaa (Zam (Zac.2 d4)) (Zaa rfl (Zaa rfl (Zaa rfl (Zaa rfl (Zaa (Zam (Zac.2 d2)) (Zaa rfl (Zaa rfl (Zaa rfl (Zaa rfl (Zaa rfl Zal)))))))))))))))))) Zao (Zah (fun _=>(@ZcV px py pz x y 1000 0 d5)) (Zah (fun _=>(@ZeB px py pz x y z pl d7)) Zap)) H
      · have H:=H.2 d5
        obtain ⟨k9,H⟩:=H
        exact ZaB (G:=Zae kp32 [(5,2,.call ((zNqV22 x y)) (some [⟨[(ZaD px py pz)],4,0,false,false⟩,⟨[(Zc0 x y)],3,0,false,false⟩,⟨[(zNqV22 x y)],4,0,false,false⟩,⟨List.map Mv.a (N.adl x y 1000 px py pz 0),7,0,false,true⟩])),(7,3,.call (ag [vi x,vi y,vi z,AV.row 0 (0+(N.adl x y z x y 1000 pl).length)]) (some [⟨List.map Mv.a (N.adl x y 1000 px py pz 0++N.adl x y z x y 1000 pl),7,0+(N.adl x y z x y 1000 pl).length,false,true⟩]))] []) 1000 [true,true,true] (k:=((atC (cd Tryz.f32) [1,1,1,1,1,1])).tail) (env':=[(6,AV.ptr 2 0 0 0)]) (L':=[⟨[(zNqV23 x y z pl)],4,0,false,false⟩,⟨[(Zbe x y z)],3,0,false,false⟩,⟨[(zNqV23 x y z pl)],4,0,false,false⟩,⟨[(Zc0 x y)],3,0,false,false⟩,⟨List.map Mv.a (N.adl x y 1000 px py pz 0++N.adl x y z x y 1000 pl),7,0+(N.adl x y z x y 1000 pl).length,false,true⟩]) (asm:=[true,true,true,(decide (z<1000))==true,0==0,true,true,(decide (pz>1000))==true,true,true,true,true,(decide (z<1000))==true,true,true,true,true,true]) (eqs:=[]) (calls:=[⟨true,true,31,[(ZaD px py pz),(Zc0 x y),vi 0],[],(zNqV22 x y),[⟨[(ZaD px py pz)],4,0,false,false⟩,⟨[(Zc0 x y)],3,0,false,false⟩,⟨[(zNqV22 x y)],4,0,false,false⟩,⟨List.map Mv.a (N.adl x y 1000 px py pz 0),7,0,false,true⟩]⟩,⟨true,true,31,[ag [vi x,vi y,vi 1000,AV.row 0 0],(Zbe x y z),vi pl],[⟨List.map Mv.a (N.adl x y 1000 px py pz 0),7,0,false,true⟩],ag [vi x,vi y,vi z,AV.row 0 (0+(N.adl x y z x y 1000 pl).length)],[⟨List.map Mv.a (N.adl x y 1000 px py pz 0++N.adl x y z x y 1000 pl),7,0+(N.adl x y z x y 1000 pl).length,false,true⟩]⟩]) ((zNqV23 x y z pl)) (by kernel_rfl) (by kernel_rfl) (Zaa rfl (Zaa rfl (Zaa rfl (Zaa (Zam (Zac.2 d2)) (Zaa (beq_self_eq_true _) (Zaa rfl (Zaa rfl (Zaa (Zam (Zac.2 d4)) (Zaa rfl (Zaa rfl (Zaa rfl (Zaa rfl (Zaa (Zam (Zac.2 d2)) (Zaa rfl (Zaa rfl (Zaa rfl (Zaa rfl (Zaa rfl Zal)))))))))))))))))) Zao (Zah (fun _=>(@ZeB px py pz x y 1000 0 d5)) (Zah (fun _=>(@evo31 (N.adl x y 1000 px py pz 0) 0 x y 1000 x y z pl k9)) Zap)) H
    · have H:=H.2 d4
      rcases xm (N.sam x y z px py pz) with d11 | d11
      · have H:=H.1 d11
        exact ZaB (G:=Zae kp32 [(7,3,.call ((ZaD px py pz)) (some [⟨[(ZaD px py pz)],4,0,false,false⟩,⟨[(Zbe x y z)],3,0,false,false⟩,⟨[(ZaD px py pz)],4,0,false,false⟩]))] []) 1000 [true,false,true] (k:=((atC (cd Tryz.f32) [1,1,1,1,1,1])).tail) (env':=[(6,AV.ptr 2 0 0 0)]) (L':=[⟨[(ZaD px py pz)],4,0,false,false⟩,⟨[(Zbe x y z)],3,0,false,false⟩,⟨[(ZaD px py pz)],4,0,false,false⟩,⟨[(Zc0 x y)],3,0,false,false⟩]) (asm:=[true,true,true,(decide (z<1000))==true,0==0,true,true,(decide (pz>1000))==false,true,(decide (z<1000))==true,true,true,true,true,true]) (eqs:=[]) (calls:=[⟨true,true,31,[(ZaD px py pz),(Zbe x y z),vi pl],[],(ZaD px py pz),[⟨[(ZaD px py pz)],4,0,false,false⟩,⟨[(Zbe x y z)],3,0,false,false⟩,⟨[(ZaD px py pz)],4,0,false,false⟩]⟩]) ((ZaD px py pz)) (by kernel_rfl) (by kernel_rfl) (Zaa rfl (Zaa rfl (Zaa rfl (Zaa (Zam (Zac.2 d2)) (Zaa (beq_self_eq_true _) (Zaa rfl (Zaa rfl (Zaa (Zak (fun h=>d4 (Zac.1 h))) (Zaa rfl (Zaa (Zam (Zac.2 d2)) (Zaa rfl (Zaa rfl (Zaa rfl (Zaa rfl (Zaa rfl Zal))))))))))))))) Zao (Zah (fun _=>(@ZcV px py pz x y z pl d11)) Zap) H
      · have H:=H.2 d11
        exact ZaB (G:=Zae kp32 [(7,3,.call ((Zdx x y z)) (some [⟨[(ZaD px py pz)],4,0,false,false⟩,⟨[(Zbe x y z)],3,0,false,false⟩,⟨[(Zdx x y z)],4,0,false,false⟩,⟨List.map Mv.a (N.adl x y z px py pz pl),7,0,false,true⟩]))] []) 1000 [true,false,true] (k:=((atC (cd Tryz.f32) [1,1,1,1,1,1])).tail) (env':=[(6,AV.ptr 2 0 0 0)]) (L':=[⟨[(ZeH x y z)],4,0,false,false⟩,⟨[(Zbe x y z)],3,0,false,false⟩,⟨[(ZeH x y z)],4,0,false,false⟩,⟨[(Zc0 x y)],3,0,false,false⟩,⟨List.map Mv.a (N.adl x y z px py pz pl),7,0,false,true⟩]) (asm:=[true,true,true,(decide (z<1000))==true,0==0,true,true,(decide (pz>1000))==false,true,(decide (z<1000))==true,true,true,true,true,true]) (eqs:=[]) (calls:=[⟨true,true,31,[(ZaD px py pz),(Zbe x y z),vi pl],[],(Zdx x y z),[⟨[(ZaD px py pz)],4,0,false,false⟩,⟨[(Zbe x y z)],3,0,false,false⟩,⟨[(Zdx x y z)],4,0,false,false⟩,⟨List.map Mv.a (N.adl x y z px py pz pl),7,0,false,true⟩]⟩]) ((ZeH x y z)) (by kernel_rfl) (by kernel_rfl) (Zaa rfl (Zaa rfl (Zaa rfl (Zaa (Zam (Zac.2 d2)) (Zaa (beq_self_eq_true _) (Zaa rfl (Zaa rfl (Zaa (Zak (fun h=>d4 (Zac.1 h))) (Zaa rfl (Zaa (Zam (Zac.2 d2)) (Zaa rfl (Zaa rfl (Zaa rfl (Zaa rfl (Zaa rfl Zal))))))))))))))) Zao (Zah (fun _=>(@ZeB px py pz x y z pl d11)) Zap) H
  · have H:=H.2 d2
    rcases xm (pz>z) with d13 | d13
    · have H:=H.1 d13
      rcases xm (N.sam x y z px py pz) with d14 | d14
      · have H:=H.1 d14
        exact ZaB (G:=Zae kp32 [(5,2,.call ((ZaD px py pz)) (some [⟨[(ZaD px py pz)],4,0,false,false⟩,⟨[(Zbe x y z)],3,0,false,false⟩,⟨[(ZaD px py pz)],4,0,false,false⟩]))] []) 1000 [false,true,false] (k:=((atC (cd Tryz.f32) [1,1,1,1,1,1])).tail) (env':=[(6,AV.ptr 2 0 0 0)]) (L':=[⟨[(ZaD px py pz)],4,0,false,false⟩,⟨[(Zbe x y z)],3,0,false,false⟩,⟨[(ZaD px py pz)],4,0,false,false⟩,⟨[(Zbe x y z)],3,0,false,false⟩]) (asm:=[true,true,true,(decide (z<1000))==false,true,true,(decide (pz>z))==true,true,true,true,true,(decide (z<1000))==false,true,true]) (eqs:=[]) (calls:=[⟨true,true,31,[(ZaD px py pz),(Zbe x y z),vi 0],[],(ZaD px py pz),[⟨[(ZaD px py pz)],4,0,false,false⟩,⟨[(Zbe x y z)],3,0,false,false⟩,⟨[(ZaD px py pz)],4,0,false,false⟩]⟩]) ((ZaD px py pz)) (by kernel_rfl) (by kernel_rfl) (Zaa rfl (Zaa rfl (Zaa rfl (Zaa (Zak (fun h=>d2 (Zac.1 h))) (Zaa rfl (Zaa rfl (Zaa (Zam (Zac.2 d13)) (Zaa rfl (Zaa rfl (Zaa rfl (Zaa rfl (Zaa (Zak (fun h=>d2 (Zac.1 h))) (Zaa rfl (Zaa rfl Zal)))))))))))))) Zao (Zah (fun _=>(@ZcV px py pz x y z 0 d14)) Zap) H
      · have H:=H.2 d14
        exact ZaB (G:=Zae kp32 [(5,2,.call ((Zdx x y z)) (some [⟨[(ZaD px py pz)],4,0,false,false⟩,⟨[(Zbe x y z)],3,0,false,false⟩,⟨[(Zdx x y z)],4,0,false,false⟩,⟨List.map Mv.a (N.adl x y z px py pz 0),7,0,false,true⟩]))] []) 1000 [false,true,false] (k:=((atC (cd Tryz.f32) [1,1,1,1,1,1])).tail) (env':=[(6,AV.ptr 2 0 0 0)]) (L':=[⟨[(ZeH x y z)],4,0,false,false⟩,⟨[(Zbe x y z)],3,0,false,false⟩,⟨[(ZeH x y z)],4,0,false,false⟩,⟨[(Zbe x y z)],3,0,false,false⟩,⟨List.map Mv.a (N.adl x y z px py pz 0),7,0,false,true⟩]) (asm:=[true,true,true,(decide (z<1000))==false,true,true,(decide (pz>z))==true,true,true,true,true,(decide (z<1000))==false,true,true]) (eqs:=[]) (calls:=[⟨true,true,31,[(ZaD px py pz),(Zbe x y z),vi 0],[],(Zdx x y z),[⟨[(ZaD px py pz)],4,0,false,false⟩,⟨[(Zbe x y z)],3,0,false,false⟩,⟨[(Zdx x y z)],4,0,false,false⟩,⟨List.map Mv.a (N.adl x y z px py pz 0),7,0,false,true⟩]⟩]) ((ZeH x y z)) (by kernel_rfl) (by kernel_rfl) (Zaa rfl (Zaa rfl (Zaa rfl (Zaa (Zak (fun h=>d2 (Zac.1 h))) (Zaa rfl (Zaa rfl (Zaa (Zam (Zac.2 d13)) (Zaa rfl (Zaa rfl (Zaa rfl (Zaa rfl (Zaa (Zak (fun h=>d2 (Zac.1 h))) (Zaa rfl (Zaa rfl Zal)))))))))))))) Zao (Zah (fun _=>(@ZeB px py pz x y z 0 d14)) Zap) H
    · have H:=H.2 d13
      exact ZaB (G:=Zae kp32 [] []) 1000 [false,false,false] (k:=((atC (cd Tryz.f32) [1,1,1,1,1,1])).tail) (env':=[(6,AV.ptr 2 0 0 0)]) (L':=[⟨[(ZaD px py pz)],4,0,false,false⟩,⟨[(Zbe x y z)],3,0,false,false⟩,⟨[(ZaD px py pz)],4,0,false,false⟩,⟨[(Zbe x y z)],3,0,false,false⟩]) (asm:=[true,true,true,(decide (z<1000))==false,true,true,(decide (pz>z))==false,true,(decide (z<1000))==false,true,true]) (eqs:=[]) (calls:=[]) ((ZaD px py pz)) (by kernel_rfl) (by kernel_rfl) (Zaa rfl (Zaa rfl (Zaa rfl (Zaa (Zak (fun h=>d2 (Zac.1 h))) (Zaa rfl (Zaa rfl (Zaa (Zak (fun h=>d13 (Zac.1 h))) (Zaa rfl (Zaa (Zak (fun h=>d2 (Zac.1 h))) (Zaa rfl (Zaa rfl Zal))))))))))) Zao Zap H
noncomputable abbrev ZeG (x:Int) (y:Int) (z:Int):=ag [vi x,vi y,vi z]
noncomputable abbrev zNqV25 (x:Int) (y:Int) (z:Int) (v:Nat) (px:Int) (py:Int) (pz:Int) (pl:Int):=ag [vi x,vi y,vi z,AV.row 0 (v+(N.adl x y 1000 px py pz 0).length+(N.adl x y z x y 1000 pl).length)]
noncomputable abbrev zNqV26 (x:Int) (y:Int) (z:Int) (v:Nat) (px:Int) (py:Int) (pz:Int):=ag [vi x,vi y,vi z,AV.row 0 (v+(N.adl x y z px py pz 0).length)]
noncomputable abbrev Zhm (px:Int) (py:Int) (pz:Int) (v:Nat):=ag [vi px,vi py,vi pz,AV.row 0 v]
noncomputable abbrev zNqV28 (x:Int) (y:Int) (z:Int) (v:Nat) (px:Int) (py:Int) (pz:Int) (pl:Int):=ag [vi x,vi y,vi z,AV.row 0 (v+(N.adl x y z px py pz pl).length)]
noncomputable abbrev zNqV29 (x:Int) (y:Int) (v:Nat) (px:Int) (py:Int) (pz:Int):=ag [vi x,vi y,vi 1000,AV.row 0 (v+(N.adl x y 1000 px py pz 0).length)]
noncomputable abbrev zNqV30 (x:Int) (y:Int):=ag [vi x,vi y,vi 1000]
theorem qRd1 (ms:List Mv) (v:Nat) (px py pz x y z pl:Int)  (dv:AV) (dK:Heap) (_:Zcx 1 dv dK=true) (H :
  ((z<1000)->((pz>1000)->(ms.length<=100000) /\
    ((ms++N.adl x y 1000 px py pz 0).length<=100000) /\
    (ZbR dv dK) (ag [vi x,vi y,vi z,AV.row 0 (v+(N.adl x y 1000 px py pz 0).length+(N.adl x y z x y 1000 pl).length)]) [{ elems:=List.map Mv.a (ms++N.adl x y 1000 px py pz 0++N.adl x y z x y 1000 pl),es:=7,ver:=v+(N.adl x y 1000 px py pz 0).length+(N.adl x y z x y 1000 pl).length,frozen:=false,clean:=true },{ elems:=[ag [vi x,vi y,vi z,AV.row 0 (v+(N.adl x y 1000 px py pz 0).length+(N.adl x y z x y 1000 pl).length)]],es:=4,ver:=0,frozen:=false,clean:=false },{ elems:=[ag [vi x,vi y,vi z]],es:=3,ver:=0,frozen:=false,clean:=false },{ elems:=[ag [vi x,vi y,vi z,AV.row 0 (v+(N.adl x y 1000 px py pz 0).length+(N.adl x y z x y 1000 pl).length)]],es:=4,ver:=0,frozen:=false,clean:=false },{ elems:=[ag [vi x,vi y,vi 1000]],es:=3,ver:=0,frozen:=false,clean:=false }]) /\
   (¬(pz>1000)->(ms.length<=100000) /\
    (ZbR dv dK) (ag [vi x,vi y,vi z,AV.row 0 (v+(N.adl x y z px py pz pl).length)]) [{ elems:=List.map Mv.a (ms++N.adl x y z px py pz pl),es:=7,ver:=v+(N.adl x y z px py pz pl).length,frozen:=false,clean:=true },{ elems:=[ag [vi x,vi y,vi z,AV.row 0 (v+(N.adl x y z px py pz pl).length)]],es:=4,ver:=0,frozen:=false,clean:=false },{ elems:=[ag [vi x,vi y,vi z]],es:=3,ver:=0,frozen:=false,clean:=false },{ elems:=[ag [vi x,vi y,vi z,AV.row 0 (v+(N.adl x y z px py pz pl).length)]],es:=4,ver:=0,frozen:=false,clean:=false },{ elems:=[ag [vi x,vi y,vi 1000]],es:=3,ver:=0,frozen:=false,clean:=false }])) /\
  (¬(z<1000)->((pz>z)->(ms.length<=100000) /\
    (ZbR dv dK) (ag [vi x,vi y,vi z,AV.row 0 (v+(N.adl x y z px py pz 0).length)]) [{ elems:=List.map Mv.a (ms++N.adl x y z px py pz 0),es:=7,ver:=v+(N.adl x y z px py pz 0).length,frozen:=false,clean:=true },{ elems:=[ag [vi x,vi y,vi z,AV.row 0 (v+(N.adl x y z px py pz 0).length)]],es:=4,ver:=0,frozen:=false,clean:=false },{ elems:=[ag [vi x,vi y,vi z]],es:=3,ver:=0,frozen:=false,clean:=false },{ elems:=[ag [vi x,vi y,vi z,AV.row 0 (v+(N.adl x y z px py pz 0).length)]],es:=4,ver:=0,frozen:=false,clean:=false },{ elems:=[ag [vi x,vi y,vi z]],es:=3,ver:=0,frozen:=false,clean:=false }]) /\
   (¬(pz>z)->(ZbR dv dK) (ag [vi px,vi py,vi pz,AV.row 0 v]) [{ elems:=List.map Mv.a ms,es:=7,ver:=v,frozen:=false,clean:=true },{ elems:=[ag [vi px,vi py,vi pz,AV.row 0 v]],es:=4,ver:=0,frozen:=false,clean:=false },{ elems:=[ag [vi x,vi y,vi z]],es:=3,ver:=0,frozen:=false,clean:=false },{ elems:=[ag [vi px,vi py,vi pz,AV.row 0 v]],es:=4,ver:=0,frozen:=false,clean:=false },{ elems:=[ag [vi x,vi y,vi z]],es:=3,ver:=0,frozen:=false,clean:=false }]))) :
 qRd1_at ms v px py pz x y z pl (ZbR dv dK):=by
 unfold qRd1_at
 rcases xq H with ⟨d2,H⟩|⟨d2,H⟩
 ·rcases xq H with ⟨d4,H⟩|⟨d4,H⟩
  ·obtain ⟨k5,k7,H⟩:=H
   exact ZaB (G:=Zae kp32 [(5,2,.call ((zNqV29 x y v px py pz)) (some [⟨List.map Mv.a (ms++N.adl x y 1000 px py pz 0),7,v+(N.adl x y 1000 px py pz 0).length,false,true⟩])),(7,3,.call ((zNqV25 x y z v px py pz pl)) (some [⟨List.map Mv.a (ms++N.adl x y 1000 px py pz 0++N.adl x y z x y 1000 pl),7,v+(N.adl x y 1000 px py pz 0).length+(N.adl x y z x y 1000 pl).length,false,true⟩]))] []) 1000 [true,true,true] (k:=((atC (cd Tryz.f32) [1,1,1,1,1,1])).tail) (env':=[(6,AV.ptr 3 0 0 0)]) (L':=[⟨List.map Mv.a (ms++N.adl x y 1000 px py pz 0++N.adl x y z x y 1000 pl),7,v+(N.adl x y 1000 px py pz 0).length+(N.adl x y z x y 1000 pl).length,false,true⟩,⟨[(zNqV25 x y z v px py pz pl)],4,0,false,false⟩,⟨[(ZeG x y z)],3,0,false,false⟩,⟨[(zNqV25 x y z v px py pz pl)],4,0,false,false⟩,⟨[(zNqV30 x y)],3,0,false,false⟩]) (asm:=[true,true,true,(decide (z<1000))==true,0==0,true,true,(decide (pz>1000))==true,true,true,true,true,(decide (z<1000))==true,true,true,true,true,true]) (eqs:=[]) (calls:=[⟨true,true,31,[(Zhm px py pz v),(zNqV30 x y),vi 0],[⟨List.map Mv.a ms,7,v,false,true⟩],(zNqV29 x y v px py pz),[⟨List.map Mv.a (ms++N.adl x y 1000 px py pz 0),7,v+(N.adl x y 1000 px py pz 0).length,false,true⟩]⟩,⟨true,true,31,[(zNqV29 x y v px py pz),(ZeG x y z),vi pl],[⟨List.map Mv.a (ms++N.adl x y 1000 px py pz 0),7,v+(N.adl x y 1000 px py pz 0).length,false,true⟩],(zNqV25 x y z v px py pz pl),[⟨List.map Mv.a (ms++N.adl x y 1000 px py pz 0++N.adl x y z x y 1000 pl),7,v+(N.adl x y 1000 px py pz 0).length+(N.adl x y z x y 1000 pl).length,false,true⟩]⟩]) ((zNqV25 x y z v px py pz pl)) (by kernel_rfl) (by kernel_rfl) (Zaa rfl (Zaa rfl (Zaa rfl (Zaa (Zam (Zac.2 d2)) (Zaa (beq_self_eq_true _) (Zaa rfl (Zaa rfl (Zaa (Zam (Zac.2 d4)) (Zaa rfl (Zaa rfl (Zaa rfl (Zaa rfl (Zaa (Zam (Zac.2 d2)) (Zaa rfl (Zaa rfl (Zaa rfl (Zaa rfl (Zaa rfl Zal)))))))))))))))))) Zao (Zah (fun _=>(@evo31 ms v px py pz x y 1000 0 k5)) (Zah (fun _=>(@evo31 (ms++N.adl x y 1000 px py pz 0) (v+(N.adl x y 1000 px py pz 0).length) x y 1000 x y z pl k7)) Zap)) H
  ·obtain ⟨k9,H⟩:=H
   exact ZaB (G:=Zae kp32 [(7,3,.call ((zNqV28 x y z v px py pz pl)) (some [⟨List.map Mv.a (ms++N.adl x y z px py pz pl),7,v+(N.adl x y z px py pz pl).length,false,true⟩]))] []) 1000 [true,false,true] (k:=((atC (cd Tryz.f32) [1,1,1,1,1,1])).tail) (env':=[(6,AV.ptr 3 0 0 0)]) (L':=[⟨List.map Mv.a (ms++N.adl x y z px py pz pl),7,v+(N.adl x y z px py pz pl).length,false,true⟩,⟨[(zNqV28 x y z v px py pz pl)],4,0,false,false⟩,⟨[(ZeG x y z)],3,0,false,false⟩,⟨[(zNqV28 x y z v px py pz pl)],4,0,false,false⟩,⟨[(zNqV30 x y)],3,0,false,false⟩]) (asm:=[true,true,true,(decide (z<1000))==true,0==0,true,true,(decide (pz>1000))==false,true,(decide (z<1000))==true,true,true,true,true,true]) (eqs:=[]) (calls:=[⟨true,true,31,[(Zhm px py pz v),(ZeG x y z),vi pl],[⟨List.map Mv.a ms,7,v,false,true⟩],(zNqV28 x y z v px py pz pl),[⟨List.map Mv.a (ms++N.adl x y z px py pz pl),7,v+(N.adl x y z px py pz pl).length,false,true⟩]⟩]) ((zNqV28 x y z v px py pz pl)) (by kernel_rfl) (by kernel_rfl) (Zaa rfl (Zaa rfl (Zaa rfl (Zaa (Zam (Zac.2 d2)) (Zaa (beq_self_eq_true _) (Zaa rfl (Zaa rfl (Zaa (Zak (fun h=>d4 (Zac.1 h))) (Zaa rfl (Zaa (Zam (Zac.2 d2)) (Zaa rfl (Zaa rfl (Zaa rfl (Zaa rfl (Zaa rfl Zal))))))))))))))) Zao (Zah (fun _=>(@evo31 ms v px py pz x y z pl k9)) Zap) H
 ·rcases xq H with ⟨d11,H⟩|⟨d11,H⟩
  ·obtain ⟨k12,H⟩:=H
   exact ZaB (G:=Zae kp32 [(5,2,.call ((zNqV26 x y z v px py pz)) (some [⟨List.map Mv.a (ms++N.adl x y z px py pz 0),7,v+(N.adl x y z px py pz 0).length,false,true⟩]))] []) 1000 [false,true,false] (k:=((atC (cd Tryz.f32) [1,1,1,1,1,1])).tail) (env':=[(6,AV.ptr 3 0 0 0)]) (L':=[⟨List.map Mv.a (ms++N.adl x y z px py pz 0),7,v+(N.adl x y z px py pz 0).length,false,true⟩,⟨[(zNqV26 x y z v px py pz)],4,0,false,false⟩,⟨[(ZeG x y z)],3,0,false,false⟩,⟨[(zNqV26 x y z v px py pz)],4,0,false,false⟩,⟨[(ZeG x y z)],3,0,false,false⟩]) (asm:=[true,true,true,(decide (z<1000))==false,true,true,(decide (pz>z))==true,true,true,true,true,(decide (z<1000))==false,true,true]) (eqs:=[]) (calls:=[⟨true,true,31,[(Zhm px py pz v),(ZeG x y z),vi 0],[⟨List.map Mv.a ms,7,v,false,true⟩],(zNqV26 x y z v px py pz),[⟨List.map Mv.a (ms++N.adl x y z px py pz 0),7,v+(N.adl x y z px py pz 0).length,false,true⟩]⟩]) ((zNqV26 x y z v px py pz)) (by kernel_rfl) (by kernel_rfl) (Zaa rfl (Zaa rfl (Zaa rfl (Zaa (Zak (fun h=>d2 (Zac.1 h))) (Zaa rfl (Zaa rfl (Zaa (Zam (Zac.2 d11)) (Zaa rfl (Zaa rfl (Zaa rfl (Zaa rfl (Zaa (Zak (fun h=>d2 (Zac.1 h))) (Zaa rfl (Zaa rfl Zal)))))))))))))) Zao (Zah (fun _=>(@evo31 ms v px py pz x y z 0 k12)) Zap) H
  ·exact ZaB (G:=Zae kp32 [] []) 1000 [false,false,false] (k:=((atC (cd Tryz.f32) [1,1,1,1,1,1])).tail) (env':=[(6,AV.ptr 3 0 0 0)]) (L':=[⟨List.map Mv.a ms,7,v,false,true⟩,⟨[(Zhm px py pz v)],4,0,false,false⟩,⟨[(ZeG x y z)],3,0,false,false⟩,⟨[(Zhm px py pz v)],4,0,false,false⟩,⟨[(ZeG x y z)],3,0,false,false⟩]) (asm:=[true,true,true,(decide (z<1000))==false,true,true,(decide (pz>z))==false,true,(decide (z<1000))==false,true,true]) (eqs:=[]) (calls:=[]) ((Zhm px py pz v)) (by kernel_rfl) (by kernel_rfl) (Zaa rfl (Zaa rfl (Zaa rfl (Zaa (Zak (fun h=>d2 (Zac.1 h))) (Zaa rfl (Zaa rfl (Zaa (Zak (fun h=>d11 (Zac.1 h))) (Zaa rfl (Zaa (Zak (fun h=>d2 (Zac.1 h))) (Zaa rfl (Zaa rfl Zal))))))))))) Zao Zap H
end Go.Av

namespace Go.Av
open Go.Proofs
theorem evo28_y (px py pz z pl:Int) (c:N.dno z pz) :
  Ev M1 (.own 28 [.ptr 0 0 0 0,.int .i64 z,.int .i64 pl] [⟨[.agg [.int .i64 px,.int .i64 py,.int .i64 pz,.vnil]],4,0,false,false⟩])
   (.tup []) [⟨[.agg [.int .i64 px,.int .i64 py,.int .i64 pz,.vnil]],4,0,false,false⟩]:=
 owncall28 (qDe0 _ _ _ _ _ _ ⟨fun k=>absurd k c.1,fun _=>⟨fun t=>absurd t c.2,fun _=>⟨rfl,rfl⟩⟩⟩)
theorem evo28_n (px py pz z pl:Int) (c:¬N.dno z pz) :
  Ev M1 (.own 28 [.ptr 0 0 0 0,.int .i64 z,.int .i64 pl] [⟨[.agg [.int .i64 px,.int .i64 py,.int .i64 pz,.vnil]],4,0,false,false⟩])
   (.tup []) [⟨[.agg [.int .i64 px,.int .i64 py,.int .i64 (N.dz2 z pz),.row 1 (N.dvn z pl px py pz)]],4,0,false,false⟩,⟨(N.ds1 z px py pz++N.ds2 z pl px py pz).map Mv.a,7,N.dvn z pl px py pz,false,true⟩]:=by
 refine owncall28 (qDe0 _ _ _ _ _ _ ⟨fun k=>⟨fun s => ?_,fun _=>⟨fun t=>⟨?_,?_⟩,fun t => ?_⟩⟩,fun k=>⟨fun t=>⟨fun s => ?_,fun _ => ?_⟩,fun t=>absurd ⟨k,t⟩ c⟩⟩)
 ·have:=s.2.2;have k:pz>N.stp z:=k;have s2:N.stp z=pz:=s.2.2;omega
 ·exact Nat.le_trans (ZcR ..) (by omega)
 ·obtain ⟨e1,e2,e3,e4⟩:=dsA (pl:=pl) (px:=px) (py:=py) k t
  rw [e1,e2,e3,e4];exact ⟨rfl,rfl⟩
 ·obtain ⟨e1,e2,e3,e4⟩:=dsB (pl:=pl) (px:=px) (py:=py) k t
  rw [e1,e2,e3,e4,List.append_nil];exact ⟨rfl,rfl⟩
 ·have:=s.2.2;omega
 ·obtain ⟨e1,e2,e3,e4⟩:=dsC (pl:=pl) (px:=px) (py:=py) k t
  rw [e1,e2,e3,e4];exact ⟨rfl,rfl⟩
theorem evo28 (ms:List Mv) (v:Nat) (px py pz z pl:Int) (h:ms.length<=90000) :
  Ev M1 (.own 28 [.ptr 0 0 0 0,.int .i64 z,.int .i64 pl] [⟨[.agg [.int .i64 px,.int .i64 py,.int .i64 pz,.row 1 v]],4,0,false,false⟩,⟨ms.map Mv.a,7,v,false,true⟩])
   (.tup []) [⟨[.agg [.int .i64 px,.int .i64 py,.int .i64 (N.dz2 z pz),.row 1 (v+(N.ds1 z px py pz).length+(N.ds2 z pl px py pz).length)]],4,0,false,false⟩,⟨(ms++N.ds1 z px py pz++N.ds2 z pl px py pz).map Mv.a,7,v+(N.ds1 z px py pz).length+(N.ds2 z pl px py pz).length,false,true⟩]:=by
 refine keepcall28 rfl (qDe1 _ _ _ _ _ _ _ _ _ rfl ⟨fun k=>⟨by omega,fun t=>⟨?_,?_⟩,fun t => ?_⟩,fun k=>⟨fun t=>⟨by omega,?_⟩,fun t => ?_⟩⟩)
 ·rw [List.length_append];have:=ZcR px py (N.stp z) px py pz 0;exact Nat.le_trans (Nat.add_le_add h this) (by omega)
 ·obtain ⟨e1,e2,e3,_⟩:=dsA (pl:=pl) (px:=px) (py:=py) k t
  rw [e1,e2,e3];exact ⟨rfl,rfl⟩
 ·obtain ⟨e1,e2,e3,_⟩:=dsB (pl:=pl) (px:=px) (py:=py) k t
  rw [e1,e2,e3,List.append_nil];exact ⟨rfl,rfl⟩
 ·obtain ⟨e1,e2,e3,_⟩:=dsC (pl:=pl) (px:=px) (py:=py) k t
  rw [e1,e2,e3,List.append_nil];exact ⟨rfl,rfl⟩
 ·obtain ⟨e1,e2,e3,_⟩:=dsD (pl:=pl) (px:=px) (py:=py) k t
  rw [e1,e2,e3,List.append_nil,List.append_nil];exact ⟨rfl,rfl⟩
def N.okRd (x y z px py pz pl:Int):Prop:=x=px/\y=py/\z<=pz/\0<=pl
theorem Zdy {z:Int} (h:z<1000):N.stp z=1000:=if_neg (by omega)
theorem Zgo {z:Int} (h:¬z<1000):N.stp z=z:=by
 unfold N.stp;split <;> omega
theorem evo32_y (px py pz x y z pl:Int) (h:N.okRd x y z px py pz pl) (c:N.dno z pz) :
  Ev M1 (.own 32 [.agg [.int .i64 px,.int .i64 py,.int .i64 pz,.vnil],.agg [.int .i64 x,.int .i64 y,.int .i64 z],.int .i64 pl] [])
   (.agg [.int .i64 px,.int .i64 py,.int .i64 pz,.vnil]) [⟨[.agg [.int .i64 px,.int .i64 py,.int .i64 pz,.vnil]],4,0,false,false⟩,⟨[.agg [.int .i64 x,.int .i64 y,.int .i64 z]],3,0,false,false⟩,⟨[.agg [.int .i64 px,.int .i64 py,.int .i64 pz,.vnil]],4,0,false,false⟩,⟨[.agg [.int .i64 x,.int .i64 y,.int .i64 (N.stp z)]],3,0,false,false⟩]:=by
 obtain ⟨rfl,rfl,h3,h4⟩:=h
 obtain ⟨c1,c2⟩:=c
 refine owncall32 (qRd0 _ _ _ _ _ _ _ _ ⟨fun k => ?_,fun k => ?_⟩)
 ·rw [Zdy k] at c1 ⊢
  exact ⟨fun j=>absurd j c1,fun _=>⟨fun _=>⟨rfl,rfl⟩,fun s=>absurd ⟨rfl,rfl,by omega⟩ s⟩⟩
 ·rw [Zgo k] at c1 ⊢
  exact ⟨fun j=>absurd j c1,fun _=>⟨rfl,rfl⟩⟩
theorem evo32_n (px py pz x y z pl:Int) (h:N.okRd x y z px py pz pl) (c:¬N.dno z pz) :
  Ev M1 (.own 32 [.agg [.int .i64 px,.int .i64 py,.int .i64 pz,.vnil],.agg [.int .i64 x,.int .i64 y,.int .i64 z],.int .i64 pl] [])
   (.agg [.int .i64 x,.int .i64 y,.int .i64 z,.row 4 (N.dvn z pl px py pz)]) [⟨[.agg [.int .i64 x,.int .i64 y,.int .i64 z,.row 4 (N.dvn z pl px py pz)]],4,0,false,false⟩,⟨[.agg [.int .i64 x,.int .i64 y,.int .i64 z]],3,0,false,false⟩,⟨[.agg [.int .i64 x,.int .i64 y,.int .i64 z,.row 4 (N.dvn z pl px py pz)]],4,0,false,false⟩,⟨[.agg [.int .i64 x,.int .i64 y,.int .i64 (N.stp z)]],3,0,false,false⟩,⟨(N.ds1 z px py pz++N.ds2 z pl px py pz).map Mv.a,7,N.dvn z pl px py pz,false,true⟩]:=by
 obtain ⟨rfl,rfl,h3,h4⟩:=h
 refine owncall32 (qRd0 _ _ _ _ _ _ _ _ ⟨fun k=>⟨fun j=>⟨fun s => ?_,fun _=>⟨?_,?_⟩⟩,fun j=>⟨fun s => ?_,fun s => ?_⟩⟩,fun k=>⟨fun j=>⟨fun s => ?_,fun _ => ?_⟩,fun j => ?_⟩⟩)
 ·have:=s.2.2;omega
 ·exact Nat.le_trans (Zha ..) (by omega)
 ·obtain ⟨e1,e2,e3,e4⟩:=dsA (pl:=pl) (px:=x) (py:=y) (by rw [Zdy k];exact j) (show z<1000/\z<N.stp z from ⟨k,by rw [Zdy k];exact k⟩)
  rw [Zcv h4,Zcv (Int.le_refl 0),e1,e2,e4,Zdy k];exact ⟨rfl,rfl⟩
 ·exact absurd ⟨by rw [Zdy k];exact j,fun t=>by have:=s.2.2;omega⟩ c
 ·have t:z<1000/\z<pz:=⟨k,by
   have:z ≠ pz:=fun x=>s ⟨rfl,rfl,x⟩
   omega⟩
  obtain ⟨e1,e2,e3,e4⟩:=dsC (pl:=pl) (px:=x) (py:=y) (by rw [Zdy k];exact j) t
  rw [Zcv h4,e1,e2,e4,Zdy k];exact ⟨rfl,rfl⟩
 ·have:=s.2.2;omega
 ·obtain ⟨e1,e2,e3,e4⟩:=dsB (pl:=pl) (px:=x) (py:=y) (by rw [Zgo k];exact j) (show ¬(z<1000/\z<N.stp z) from fun x=>k x.1)
  rw [Zcv (Int.le_refl 0),e1,e2,e4,Zgo k,List.append_nil];exact ⟨rfl,rfl⟩
 ·exact absurd ⟨by rw [Zgo k];exact j,fun t=>k t.1⟩ c
theorem evo32 (ms:List Mv) (v:Nat) (px py pz x y z pl:Int) (h:ms.length<=90000/\N.okRd x y z px py pz pl) :
  Ev M1 (.own 32 [.agg [.int .i64 px,.int .i64 py,.int .i64 pz,.row 0 v],.agg [.int .i64 x,.int .i64 y,.int .i64 z],.int .i64 pl] [⟨ms.map Mv.a,7,v,false,true⟩])
   (.agg [.int .i64 x,.int .i64 y,.int .i64 z,.row 0 (v+(N.ds1 z px py pz).length+(N.ds2 z pl px py pz).length)]) [⟨(ms++N.ds1 z px py pz++N.ds2 z pl px py pz).map Mv.a,7,v+(N.ds1 z px py pz).length+(N.ds2 z pl px py pz).length,false,true⟩]:=by
 obtain ⟨hn,rfl,rfl,h3,h4⟩:=h
 refine keepcall32 rfl (qRd1 _ _ _ _ _ _ _ _ _ _ _ rfl ⟨fun k=>⟨fun j=>⟨by omega,?_,?_⟩,fun j=>⟨by omega,?_⟩⟩,fun k=>⟨fun j=>⟨by omega,?_⟩,fun j => ?_⟩⟩)
 ·rw [List.length_append];have:=Zha x y 1000 x y pz 0;omega
 ·obtain ⟨e1,e2,_,_⟩:=dsA (pl:=pl) (px:=x) (py:=y) (by rw [Zdy k];exact j) (show z<1000/\z<N.stp z from ⟨k,by rw [Zdy k];exact k⟩)
  rw [Zcv h4,Zcv (Int.le_refl 0),e1,e2,Zdy k];exact ⟨rfl,rfl⟩
 ·by_cases s:z=pz
  ·obtain ⟨e1,e2,_,_⟩:=dsD (pl:=pl) (px:=x) (py:=y) (by rw [Zdy k];exact j) (show ¬(z<1000/\z<pz) from fun x=>by omega)
   rw [e1,e2,show N.adl x y z x y pz pl=[] from if_pos ⟨rfl,rfl,s⟩,List.append_nil,List.append_nil];exact ⟨rfl,rfl⟩
  ·obtain ⟨e1,e2,_,_⟩:=dsC (pl:=pl) (px:=x) (py:=y) (by rw [Zdy k];exact j) (show z<1000/\z<pz from ⟨k,by omega⟩)
   rw [Zcv h4,e1,e2,List.append_nil];exact ⟨rfl,rfl⟩
 ·obtain ⟨e1,e2,_,_⟩:=dsB (pl:=pl) (px:=x) (py:=y) (by rw [Zgo k];exact j) (show ¬(z<1000/\z<N.stp z) from fun x=>k x.1)
  rw [Zcv (Int.le_refl 0),e1,e2,Zgo k,List.append_nil];exact ⟨rfl,rfl⟩
 ·obtain ⟨e1,e2,_,_⟩:=dsD (pl:=pl) (px:=x) (py:=y) (by rw [Zgo k];exact j) (show ¬(z<1000/\z<pz) from fun x=>k x.1)
  have e:pz=z:=by omega
  rw [e1,e2,List.append_nil,List.append_nil,e];exact ⟨rfl,rfl⟩
end Go.Av
