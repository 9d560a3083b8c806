/- PART 6 of the texts of a claim, joined by a program: what each part shows stands at its head. -/
import Derived.Test.YtnalglhidkknbaaGreatPartc957f80c67

namespace Go.Av
open Go.Proofs
set_option maxRecDepth 100000
def fi17:Fi:=⟨66,[.tmp 4]⟩
def kp17:List (Nat × List Nat):=[(0,[2,3]),(1,[2,5,6]),(2,[2,5,6,17]),(3,[2,5,6,17,18]),(4,[4]),(5,[2,5,6,20]),(6,[4]),(7,[5,6,7,8]),(8,[5,6,7,8,9]),(9,[5,6,7,8,42]),(10,[5,6,7,8]),(11,[4])]
def fi70:Fi:=⟨19,[.tmp 4]⟩
def kp70:List (Nat × List Nat):=[(0,[2,3]),(1,[2,3,5]),(2,[2,3,5,12]),(3,[4]),(4,[4])]
def mLC_at (f1 f2 f3 f4 f5 f6 g1 g2 g3 g4 g5 g6:Bool) (a b c x y q:Rat) (Q:AV->Heap->Prop):Prop:=Wp M1 (.run fi17 (atC (cd Tryz.f17) []) [(0,Zaq f1 f2 f3 f4 f5 f6 a b c),(1,Zaq g1 g2 g3 g4 g5 g6 x y q)] []) Q
def rComp7_at (f1 f2 f3 f4 f5 f6 f7 f8 f9 f10 g1 g2 g3 g4 g5 g6 g7 g8 g9 g10:Bool) (ax bx ay by_ c ux vx uy vy d:Rat) (Q:AV->Heap->Prop):Prop:=Wp M1 (.run fi70 (atC (cd Tryz.f70) []) [(0,.agg [.bool (Sp.Zaa ax.num),.vec f1 1 ((Sp.Zad ax.num).map (.int .u32)),.bool (Sp.Zaa (ax.den:Int)),.vec f2 1 ((Sp.Zad (ax.den:Int)).map (.int .u32)),.bool (Sp.Zaa bx.num),.vec f3 1 ((Sp.Zad bx.num).map (.int .u32)),.bool (Sp.Zaa (bx.den:Int)),.vec f4 1 ((Sp.Zad (bx.den:Int)).map (.int .u32)),.bool (Sp.Zaa ay.num),.vec f5 1 ((Sp.Zad ay.num).map (.int .u32)),.bool (Sp.Zaa (ay.den:Int)),.vec f6 1 ((Sp.Zad (ay.den:Int)).map (.int .u32)),.bool (Sp.Zaa by_.num),.vec f7 1 ((Sp.Zad by_.num).map (.int .u32)),.bool (Sp.Zaa (by_.den:Int)),.vec f8 1 ((Sp.Zad (by_.den:Int)).map (.int .u32)),.bool (Sp.Zaa c.num),.vec f9 1 ((Sp.Zad c.num).map (.int .u32)),.bool (Sp.Zaa (c.den:Int)),.vec f10 1 ((Sp.Zad (c.den:Int)).map (.int .u32))]),(1,.agg [.bool (Sp.Zaa ux.num),.vec g1 1 ((Sp.Zad ux.num).map (.int .u32)),.bool (Sp.Zaa (ux.den:Int)),.vec g2 1 ((Sp.Zad (ux.den:Int)).map (.int .u32)),.bool (Sp.Zaa vx.num),.vec g3 1 ((Sp.Zad vx.num).map (.int .u32)),.bool (Sp.Zaa (vx.den:Int)),.vec g4 1 ((Sp.Zad (vx.den:Int)).map (.int .u32)),.bool (Sp.Zaa uy.num),.vec g5 1 ((Sp.Zad uy.num).map (.int .u32)),.bool (Sp.Zaa (uy.den:Int)),.vec g6 1 ((Sp.Zad (uy.den:Int)).map (.int .u32)),.bool (Sp.Zaa vy.num),.vec g7 1 ((Sp.Zad vy.num).map (.int .u32)),.bool (Sp.Zaa (vy.den:Int)),.vec g8 1 ((Sp.Zad (vy.den:Int)).map (.int .u32)),.bool (Sp.Zaa d.num),.vec g9 1 ((Sp.Zad d.num).map (.int .u32)),.bool (Sp.Zaa (d.den:Int)),.vec g10 1 ((Sp.Zad (d.den:Int)).map (.int .u32))])] []) Q
theorem call17 {args:List AV} {d:AV} (h:wc M1 fi17 Tryz.f17 args d):Ev M1 (.pure 17 args) d []:=pcl _ _ (by kernel_rfl) h
theorem call70 {args:List AV} {d:AV} (h:wc M1 fi70 Tryz.f70 args d):Ev M1 (.pure 70 args) d []:=pcl _ _ (by kernel_rfl) h
noncomputable abbrev zNmE1 (a:Rat) (b:Rat) (c:Rat) (x:Rat) (y:Rat) (q:Rat):=(Pnt.a (Sp.Ze3 (Sp.fX a b c x y) (-b) (Sp.fY a b c x y) (- -a) (Sp.dep a b c x y q)))
noncomputable abbrev zNmE2 (a:Rat) (b:Rat) (c:Rat) (x:Rat) (y:Rat) (q:Rat):=(Pnt.a (Sp.Ze3 (Sp.fX a b c x y) (- -b) (Sp.fY a b c x y) (- - -a) (Sp.dep a b c x y q)))
noncomputable abbrev zNmE3 (a:Rat) (b:Rat) (c:Rat) (x:Rat) (y:Rat) (q:Rat):=(Pnt.a (Sp.Ze3 (Sp.fX a b c x y) b (Sp.fY a b c x y) (-a) (Sp.dep a b c x y q)))
noncomputable abbrev zNmE4 (a:Rat) (b:Rat) (c:Rat) (x:Rat) (y:Rat):=(vecF (Sp.fX a b c x y) (Sp.fY a b c x y))
noncomputable abbrev zNmE5 (a:Rat) (b:Rat) (c:Rat) (x:Rat) (y:Rat):=(pntF (Sp.fX a b c x y) (Sp.qi 0) (Sp.fY a b c x y) (Sp.qi 0) (Sp.qi 0))
theorem mLC (f1 f2 f3 f4 f5 f6 g1 g2 g3 g4 g5 g6:Bool) (a b c x y q:Rat)  (dq:AV) (H :
  (Sp.Zgl a b c /\ Sp.ZdM x y /\ Sp.okT 30 q) /\
  ((Sp.sgnI (Sp.dep a b c x y q).num = -1) -> Weak (AV.vnil) dq) /\
  (¬(Sp.sgnI (Sp.dep a b c x y q).num = -1) -> ((Sp.sgnI (Sp.dep a b c x y q).num = 0) -> Weak (AV.vec true 20 [(pntF (Sp.fX a b c x y) (Sp.qi 0) (Sp.fY a b c x y) (Sp.qi 0) (Sp.qi 0))]) dq) /\
   (¬(Sp.sgnI (Sp.dep a b c x y q).num = 0) -> (Sp.okB a.num) /\
    (((Sp.sgnI b.num < 0) \/ ((Sp.sgnI b.num = 0) /\ (Sp.sgnI (-a).num < 0))) -> (Sp.okB b.num) /\
     (Sp.okB (-a).num) /\
     (Sp.okB (-b).num) /\
     (Sp.okB (- -a).num) /\
     (Sp.okSr (Sp.fX a b c x y) (- -b) (Sp.fY a b c x y) (- - -a) (Sp.dep a b c x y q)) /\
     (Sp.okSr (Sp.fX a b c x y) (-b) (Sp.fY a b c x y) (- -a) (Sp.dep a b c x y q)) /\
     Weak (AV.vec true 20 [(Pnt.a (Sp.Ze3 (Sp.fX a b c x y) (- -b) (Sp.fY a b c x y) (- - -a) (Sp.dep a b c x y q))),(Pnt.a (Sp.Ze3 (Sp.fX a b c x y) (-b) (Sp.fY a b c x y) (- -a) (Sp.dep a b c x y q)))]) dq) /\
    (¬((Sp.sgnI b.num < 0) \/ ((Sp.sgnI b.num = 0) /\ (Sp.sgnI (-a).num < 0))) -> (Sp.okB b.num) /\
     (Sp.okB (-a).num) /\
     (Sp.okSr (Sp.fX a b c x y) (-b) (Sp.fY a b c x y) (- -a) (Sp.dep a b c x y q)) /\
     (Sp.okSr (Sp.fX a b c x y) b (Sp.fY a b c x y) (-a) (Sp.dep a b c x y q)) /\
     Weak (AV.vec true 20 [(Pnt.a (Sp.Ze3 (Sp.fX a b c x y) (-b) (Sp.fY a b c x y) (- -a) (Sp.dep a b c x y q))),(Pnt.a (Sp.Ze3 (Sp.fX a b c x y) b (Sp.fY a b c x y) (-a) (Sp.dep a b c x y q)))]) dq)))) :
 mLC_at f1 f2 f3 f4 f5 f6 g1 g2 g3 g4 g5 g6 a b c x y q (Zag dq):=by
 unfold mLC_at
 obtain ⟨k1,H⟩:=H
 refine Zae (G:=Zac kp17 [(1,2,.call (tu [ratF (Sp.dep a b c x y q),(zNmE4 a b c x y)]) none),(2,1,.call (vi (Sp.sgnI (Sp.dep a b c x y q).num)) none)] []) 10 [] ⟨(atC (cd Tryz.f17) [1,1,0,1,0,1]),[(2,AV.ptr 0 0 0 0),(5,AV.ptr 2 0 0 0),(6,AV.ptr 3 0 0 0),(17,vi (Sp.sgnI (Sp.dep a b c x y q).num)),(18,vb (Sp.sgnI (Sp.dep a b c x y q).num == -1))],[⟨[Zaq f1 f2 f3 f4 f5 f6 a b c],12,0,false,false⟩,⟨[Zaq g1 g2 g3 g4 g5 g6 x y q],12,0,false,false⟩,⟨[ratF (Sp.dep a b c x y q)],4,0,false,false⟩,⟨[(zNmE4 a b c x y)],8,0,false,false⟩],_,[],_⟩ (by kernel_rfl) (bc rfl (bc rfl (bc rfl (bc rfl (bc rfl b0))))) q0 (ce (@ev64 (f1) (f2) (f3) (f4) (f5) (f6) (g1) (g2) (g3) (g4) (g5) (g6) (a) (b) (c) (x) (y) (q) k1) (ce (@ev54 (false) (false) ((Sp.dep a b c x y q).num) ((↑(Sp.dep a b c x y q).den:Int))) c0)) ?_
 rcases xq H with ⟨d3,H⟩|⟨d3,H⟩
 ·exact Zah (G:=Zac kp17 [] []) 1000 [true] (AV.vnil) (by kernel_rfl) (bc (Zar (i_eq.2 d3)) b0) q0 c0 H
 ·rcases xq H with ⟨d5,H⟩|⟨d5,H⟩
  ·exact Zah (G:=Zac kp17 [(6,1,.call ((zNmE5 a b c x y)) none)] []) 1000 [false,true] (AV.vec true 20 [(zNmE5 a b c x y)]) (by kernel_rfl) (bc (Zan (fun h => d3 (i_eq.1 h))) (bc (Zar (i_eq.2 d5)) (bc rfl b0))) q0 (ce (@ev57 (false) (false) (false) (false) (Sp.fX a b c x y) (Sp.fY a b c x y)) c0) H
  ·obtain ⟨k6,H⟩:=H
   refine Zae (G:=Zac kp17 [(7,4,.call (ratF (-a)) none)] []) 7 [false,false] ⟨(atC (cd Tryz.f17) [1,1,1,0]),[(2,AV.ptr 0 0 0 0),(5,AV.ptr 2 0 0 0),(6,AV.ptr 3 0 0 0),(20,vb (Sp.sgnI (Sp.dep a b c x y q).num == 0))],[⟨[Zaq f1 f2 f3 f4 f5 f6 a b c],12,0,false,false⟩,⟨[Zaq g1 g2 g3 g4 g5 g6 x y q],12,0,false,false⟩,⟨[ratF (Sp.dep a b c x y q)],4,0,false,false⟩,⟨[(zNmE4 a b c x y)],8,0,false,false⟩],_,[],_⟩ (by kernel_rfl) (bc (Zan (fun h => d3 (i_eq.1 h))) (bc (Zan (fun h => d5 (i_eq.1 h))) b0)) q0 c0 (Zb6 (G:=Zac kp17 [(7,4,.call (ratF (-a)) none)] []) [0,1,2,3,5,4] 5 (e1:=[(5,AV.ptr 2 0 0 0),(6,AV.ptr 3 0 0 0),(7,AV.ptr 4 0 0 0),(8,AV.ptr 5 0 0 0)]) (L1:=[⟨[Zaq f1 f2 f3 f4 f5 f6 a b c],12,0,false,false⟩,⟨[Zaq g1 g2 g3 g4 g5 g6 x y q],12,0,false,false⟩,⟨[ratF (Sp.dep a b c x y q)],4,0,false,false⟩,⟨[(zNmE4 a b c x y)],8,0,false,false⟩,⟨[ratA f3 f4 b],4,0,false,false⟩,⟨[ratF (-a)],4,0,false,false⟩]) (a:=[true,true,true,true]) (q:=[]) (cs:=[⟨true,false,65,[ratA f1 f2 a],[],ratF (-a),[]⟩]) (by kernel_rfl) (by kernel_rfl) (Zai rfl (Zai rfl (Zai rfl (Zai rfl ZaL)))) Za0 (ZaG (fun _ => (@ev65 (f1) (f2) (a) k6)) Za1) ?_)
   refine Zae (G:=Zac kp17 [(8,1,.call (vi (Sp.sgnI b.num)) none),(9,7,.call (vi (Sp.sgnI (-a).num)) none)] []) 5 [] ⟨(atC (cd Tryz.f17) [1,1,1,1,0,1,1]),[(5,AV.ptr 2 0 0 0),(6,AV.ptr 3 0 0 0),(7,AV.ptr 4 0 0 0),(8,AV.ptr 5 0 0 0),(42,vb (bif decide (Sp.sgnI b.num < 0) then true else bif Sp.sgnI b.num == 0 then decide (Sp.sgnI (-a).num < 0) else false))],[⟨[Zaq f1 f2 f3 f4 f5 f6 a b c],12,0,false,false⟩,⟨[Zaq g1 g2 g3 g4 g5 g6 x y q],12,0,false,false⟩,⟨[ratF (Sp.dep a b c x y q)],4,0,false,false⟩,⟨[(zNmE4 a b c x y)],8,0,false,false⟩,⟨[ratA f3 f4 b],4,0,false,false⟩,⟨[ratF (-a)],4,0,false,false⟩],[true,!((Sp.sgnI b.num == 0) == true && (decide (Sp.sgnI b.num < 0) == false && true)) || true],[],[⟨true,false,54,[ratA f3 f4 b],[],vi (Sp.sgnI b.num),[]⟩,⟨(Sp.sgnI b.num == 0) == true && (decide (Sp.sgnI b.num < 0) == false && true) && true,false,54,[ratF (-a)],[],vi (Sp.sgnI (-a).num),[]⟩]⟩ (by kernel_rfl) (bc rfl (bc (Bool.or_true _) b0)) q0 (cc (fun _ => (@ev54 (f3) (f4) (b.num) ((↑b.den:Int)))) (cc (fun hc => ((@ev54 (false) (false) ((-a).num) ((↑(-a).den:Int))):Ev M1 (Conf.pure 54 [ratF (-a)]) (vi (Sp.sgnI (-a).num)) [])) c0)) ?_
   rcases xq H with ⟨d9,H⟩|⟨d9,H⟩
   ·obtain ⟨k10,k11,k12,k13,k14,k15,H⟩:=H
    exact Zah (G:=Zac kp17 [(10,1,.call (ratF (-b)) none),(10,3,.call (ratF (- -a)) none),(11,3,.call (ratF (- -b)) none),(11,7,.call (ratF (- - -a)) none),(11,9,.call ((zNmE2 a b c x y q)) none),(11,17,.call ((zNmE1 a b c x y q)) none)] []) 1000 [true] (AV.vec true 20 [(zNmE2 a b c x y q),(zNmE1 a b c x y q)]) (by kernel_rfl) (bc (Zar ((Za2 Zab (ZaK i_eq Zab)).2 d9)) (bc rfl (bc rfl (bc rfl (bc rfl (bc rfl (bc rfl (bc rfl (bc rfl (bc rfl (bc rfl (bc rfl (bc rfl (bc rfl (bc rfl b0))))))))))))))) q0 (ce (@ev65 (f3) (f4) (b) k10) (ce (@ev65 (false) (false) (-a) k11) (ce (@ev65 (false) (false) (-b) k12) (ce (@ev65 (false) (false) (- -a) k13) (ce (@ev66 (false) (false) (false) (false) (false) (false) (false) (false) (false) (false) (Sp.fX a b c x y) (- -b) (Sp.fY a b c x y) (- - -a) (Sp.dep a b c x y q) k14) (ce (@ev66 (false) (false) (false) (false) (false) (false) (false) (false) (false) (false) (Sp.fX a b c x y) (-b) (Sp.fY a b c x y) (- -a) (Sp.dep a b c x y q) k15) c0)))))) H
   ·obtain ⟨k16,k17,k18,k19,H⟩:=H
    exact Zah (G:=Zac kp17 [(11,3,.call (ratF (-b)) none),(11,7,.call (ratF (- -a)) none),(11,9,.call ((zNmE1 a b c x y q)) none),(11,17,.call ((zNmE3 a b c x y q)) none)] []) 1000 [false] (AV.vec true 20 [(zNmE1 a b c x y q),(zNmE3 a b c x y q)]) (by kernel_rfl) (bc (Zan (fun h => d9 ((Za2 Zab (ZaK i_eq Zab)).1 h))) (bc rfl (bc rfl (bc rfl (bc rfl (bc rfl (bc rfl (bc rfl (bc rfl (bc rfl (bc rfl b0))))))))))) q0 (ce (@ev65 (f3) (f4) (b) k16) (ce (@ev65 (false) (false) (-a) k17) (ce (@ev66 (false) (false) (false) (false) (false) (false) (false) (false) (false) (false) (Sp.fX a b c x y) (-b) (Sp.fY a b c x y) (- -a) (Sp.dep a b c x y q) k18) (ce (@ev66 (false) (false) (f3) (f4) (false) (false) (false) (false) (false) (false) (Sp.fX a b c x y) (b) (Sp.fY a b c x y) (-a) (Sp.dep a b c x y q) k19) c0)))) H
theorem rComp7 (f1 f2 f3 f4 f5 f6 f7 f8 f9 f10 g1 g2 g3 g4 g5 g6 g7 g8 g9 g10:Bool) (ax bx ay by_ c ux vx uy vy d:Rat)  (dq:AV) (H :
  (Sp.okC5 ax bx (Sp.rad bx c) ux vx (Sp.rad vx d)) /\
  ((¬Sp.cmpO ax bx (Sp.rad bx c) ux vx (Sp.rad vx d) = 0) -> vi (Sp.cmpO ax bx (Sp.rad bx c) ux vx (Sp.rad vx d)) = dq) /\
  (¬(¬Sp.cmpO ax bx (Sp.rad bx c) ux vx (Sp.rad vx d) = 0) -> (Sp.okC5 ay by_ (Sp.rad by_ c) uy vy (Sp.rad vy d)) /\
   vi (Sp.cmpO ay by_ (Sp.rad by_ c) uy vy (Sp.rad vy d)) = dq)) :
 rComp7_at f1 f2 f3 f4 f5 f6 f7 f8 f9 f10 g1 g2 g3 g4 g5 g6 g7 g8 g9 g10 ax bx ay by_ c ux vx uy vy d (Zag dq):=by
 unfold rComp7_at
 obtain ⟨k1,H⟩:=H
 refine Zae (G:=Zac kp70 [(1,1,.call (Zay ax bx (Sp.rad bx c)) none),(1,3,.call (Zay ux vx (Sp.rad vx d)) none),(1,4,.call (vi (Sp.cmpO ax bx (Sp.rad bx c) ux vx (Sp.rad vx d))) none)] []) 7 [] ⟨(atC (cd Tryz.f70) [1,0,1,1]),[(2,AV.ptr 0 0 0 0),(3,AV.ptr 1 0 0 0),(5,vi (Sp.cmpO ax bx (Sp.rad bx c) ux vx (Sp.rad vx d))),(12,vb (Sp.cmpO ax bx (Sp.rad bx c) ux vx (Sp.rad vx d) != 0))],[⟨[ag [vb (Sp.Zaa ax.num),AV.vec f1 1 (us (Sp.Zad ax.num)),vb (Sp.Zaa (↑ax.den:Int)),AV.vec f2 1 (us (Sp.Zad (↑ax.den:Int))),vb (Sp.Zaa bx.num),AV.vec f3 1 (us (Sp.Zad bx.num)),vb (Sp.Zaa (↑bx.den:Int)),AV.vec f4 1 (us (Sp.Zad (↑bx.den:Int))),vb (Sp.Zaa ay.num),AV.vec f5 1 (us (Sp.Zad ay.num)),vb (Sp.Zaa (↑ay.den:Int)),AV.vec f6 1 (us (Sp.Zad (↑ay.den:Int))),vb (Sp.Zaa by_.num),AV.vec f7 1 (us (Sp.Zad by_.num)),vb (Sp.Zaa (↑by_.den:Int)),AV.vec f8 1 (us (Sp.Zad (↑by_.den:Int))),vb (Sp.Zaa c.num),AV.vec f9 1 (us (Sp.Zad c.num)),vb (Sp.Zaa (↑c.den:Int)),AV.vec f10 1 (us (Sp.Zad (↑c.den:Int)))]],20,0,false,false⟩,⟨[ag [vb (Sp.Zaa ux.num),AV.vec g1 1 (us (Sp.Zad ux.num)),vb (Sp.Zaa (↑ux.den:Int)),AV.vec g2 1 (us (Sp.Zad (↑ux.den:Int))),vb (Sp.Zaa vx.num),AV.vec g3 1 (us (Sp.Zad vx.num)),vb (Sp.Zaa (↑vx.den:Int)),AV.vec g4 1 (us (Sp.Zad (↑vx.den:Int))),vb (Sp.Zaa uy.num),AV.vec g5 1 (us (Sp.Zad uy.num)),vb (Sp.Zaa (↑uy.den:Int)),AV.vec g6 1 (us (Sp.Zad (↑uy.den:Int))),vb (Sp.Zaa vy.num),AV.vec g7 1 (us (Sp.Zad vy.num)),vb (Sp.Zaa (↑vy.den:Int)),AV.vec g8 1 (us (Sp.Zad (↑vy.den:Int))),vb (Sp.Zaa d.num),AV.vec g9 1 (us (Sp.Zad d.num)),vb (Sp.Zaa (↑d.den:Int)),AV.vec g10 1 (us (Sp.Zad (↑d.den:Int)))]],20,0,false,false⟩],_,[],_⟩ (by kernel_rfl) (bc rfl (bc rfl b0)) q0 (ce (@ev108 (f1) (f2) (f3) (f4) (f5) (f6) (f7) (f8) (f9) (f10) (ax) (bx) (ay) (by_) (c)) (ce (@ev108 (g1) (g2) (g3) (g4) (g5) (g6) (g7) (g8) (g9) (g10) (ux) (vx) (uy) (vy) (d)) (ce (@ev107 (false) (false) (false) (false) (false) (false) (false) (false) (false) (false) (false) (false) (ax) (bx) (Sp.rad bx c) (ux) (vx) (Sp.rad vx d) k1) c0))) ?_
 rcases xq H with ⟨d3,H⟩|⟨d3,H⟩
 ·exact Zao (G:=Zac kp70 [] []) 1000 [true] (vi (Sp.cmpO ax bx (Sp.rad bx c) ux vx (Sp.rad vx d))) (by kernel_rfl) (bc (Zar (i_ne.2 d3)) b0) q0 c0 H
 ·obtain ⟨k4,H⟩:=H
  exact Zao (G:=Zac kp70 [(4,1,.call (Zay ay by_ (Sp.rad by_ c)) none),(4,3,.call (Zay uy vy (Sp.rad vy d)) none),(4,4,.call (vi (Sp.cmpO ay by_ (Sp.rad by_ c) uy vy (Sp.rad vy d))) none)] []) 1000 [false] (vi (Sp.cmpO ay by_ (Sp.rad by_ c) uy vy (Sp.rad vy d))) (by kernel_rfl) (bc (Zan (fun h => d3 (i_ne.1 h))) (bc rfl (bc rfl b0))) q0 (ce (@ev109 (f1) (f2) (f3) (f4) (f5) (f6) (f7) (f8) (f9) (f10) (ax) (bx) (ay) (by_) (c)) (ce (@ev109 (g1) (g2) (g3) (g4) (g5) (g6) (g7) (g8) (g9) (g10) (ux) (vx) (uy) (vy) (d)) (ce (@ev107 (false) (false) (false) (false) (false) (false) (false) (false) (false) (false) (false) (false) (ay) (by_) (Sp.rad by_ c) (uy) (vy) (Sp.rad vy d) k4) c0))) H
end Go.Av

namespace Go.Av
open Go.Proofs
theorem sgl {r:Rat}:Sp.sgnI r.num < 0 ↔ r < 0:=by
 have:=sg3 r.num
 have:=(@Zf8 r).2.2
 unfold Sp.sgR at this
 rw [<- this];omega
theorem Zgm {k:Nat} {r:Rat} (h:Sp.okT k r) (hk:k <= 90000):Sp.okB r.num:=by
 have:=h.1
 unfold Sp.okB;omega
theorem ZfK {k:Nat} {b c:Rat} (h:Sp.okT k c) (hk:1 <= k):Sp.okT k (Sp.rad b c):=by
 unfold Sp.rad
 split
 ·exact Zat Zb4 hk
 ·exact h
theorem ZcE (l:List Pnt):Weak (.vec true 20 (l.map Pnt.a)) (.vec false 20 (l.map Pnt.a)):=.full _ _
theorem lineC_0 {a b c x y q:Rat} (k:Sp.dep a b c x y q < 0):Sp.ZcQ a b c x y q = []:=by
 unfold Sp.ZcQ;rw [Zdo k,if_pos (by decide)]
theorem lineC_1 {a b c x y q:Rat} (k:Sp.dep a b c x y q = 0):Sp.ZcQ a b c x y q = [Sp.atP (Sp.fX a b c x y) (Sp.fY a b c x y)]:=by
 unfold Sp.ZcQ;rw [k,ZbZ,if_neg (by decide),if_pos rfl]
theorem Zgv {a b c x y q:Rat} (k:0 < Sp.dep a b c x y q):Sp.ZcQ a b c x y q = [Sp.Ze3 (Sp.fX a b c x y) (-Sp.dU a b) (Sp.fY a b c x y) (-Sp.dV a b) (Sp.dep a b c x y q),Sp.Ze3 (Sp.fX a b c x y) (Sp.dU a b) (Sp.fY a b c x y) (Sp.dV a b) (Sp.dep a b c x y q)]:=by
 unfold Sp.ZcQ;rw [Zdn k,if_neg (by decide),if_neg (by decide)]
theorem ev17 (f1 f2 f3 f4 f5 f6 g1 g2 g3 g4 g5 g6:Bool) (a b c x y q:Rat) (h:Sp.Zgl a b c /\ Sp.ZdM x y /\ Sp.okT 30 q):Ev M1 (.pure 17 [Zaq f1 f2 f3 f4 f5 f6 a b c,Zaq g1 g2 g3 g4 g5 g6 x y q]) (.vec false 20 ((Sp.ZcQ a b c x y q).map Pnt.a)) []:=by
 obtain ⟨hl,hv,hq⟩:=h
 have hf:=okT_f hl hv
 have hd:=okT_dep hl hv hq
 obtain ⟨⟨ha,hb,hc⟩,h0⟩:=hl
 have na:=Zbr ha
 have nb:=Zbr hb
 have nna:=Zbr na
 refine call17 (mLC _ _ _ _ _ _ _ _ _ _ _ _ _ _ _ _ _ _ _ ⟨⟨⟨⟨ha,hb,hc⟩,h0⟩,hv,hq⟩,fun k => ?_,fun k => ⟨fun j => ?_,fun j => ⟨Zgm ha (by omega),fun i => ?_,fun i => ?_⟩⟩⟩)
 ·rw [lineC_0 (Zf8.2.2.1 k)]
  exact .vnil 20
 ·rw [lineC_1 (sgz.1 j)]
  exact ZcE [Sp.atP (Sp.fX a b c x y) (Sp.fY a b c x y)]
 ·have p:0 < Sp.dep a b c x y q:=by
   rcases tri (Sp.dep a b c x y q) with t | t | t
   ·exact absurd (Zdo t) k
   ·exact absurd (sgz.2 t) j
   ·exact t
  rw [sgl,sgz,sgl] at i
  have e:Sp.dn a b = true:=decide_eq_true i
  rw [Zgv p]
  unfold Sp.dU Sp.dV
  rw [e,cond_true,cond_true]
  exact ⟨Zgm hb (by omega),Zgm na (by omega),Zgm nb (by omega),Zgm nna (by omega),⟨⟨hf.1,Zbr nb⟩,⟨hf.2,Zbr nna⟩,hd,p⟩,⟨⟨hf.1,nb⟩,⟨hf.2,nna⟩,hd,p⟩,ZcE [Sp.Ze3 (Sp.fX a b c x y) (- -b) (Sp.fY a b c x y) (- - -a) (Sp.dep a b c x y q),Sp.Ze3 (Sp.fX a b c x y) (-b) (Sp.fY a b c x y) (- -a) (Sp.dep a b c x y q)]⟩
 ·have p:0 < Sp.dep a b c x y q:=by
   rcases tri (Sp.dep a b c x y q) with t | t | t
   ·exact absurd (Zdo t) k
   ·exact absurd (sgz.2 t) j
   ·exact t
  rw [sgl,sgz,sgl] at i
  have e:Sp.dn a b = false:=decide_eq_false i
  rw [Zgv p]
  unfold Sp.dU Sp.dV
  rw [e,cond_false,cond_false]
  exact ⟨Zgm hb (by omega),Zgm na (by omega),⟨⟨hf.1,nb⟩,⟨hf.2,nna⟩,hd,p⟩,⟨⟨hf.1,hb⟩,⟨hf.2,na⟩,hd,p⟩,ZcE [Sp.Ze3 (Sp.fX a b c x y) (-b) (Sp.fY a b c x y) (- -a) (Sp.dep a b c x y q),Sp.Ze3 (Sp.fX a b c x y) b (Sp.fY a b c x y) (-a) (Sp.dep a b c x y q)]⟩
theorem ev70 (f1 f2 f3 f4 f5 f6 f7 f8 f9 f10 g1 g2 g3 g4 g5 g6 g7 g8 g9 g10:Bool) (ax bx ay by_ c ux vx uy vy d:Rat) (h:Sp.ZeZ ⟨ax,bx,ay,by_,c⟩ /\ Sp.ZeZ ⟨ux,vx,uy,vy,d⟩):Ev M1 (.pure 70 [pntA f1 f2 f3 f4 f5 f6 f7 f8 f9 f10 ax bx ay by_ c,pntA g1 g2 g3 g4 g5 g6 g7 g8 g9 g10 ux vx uy vy d]) (.int .i64 (Sp.ZfV ⟨ax,bx,ay,by_,c⟩ ⟨ux,vx,uy,vy,d⟩)) []:=by
 obtain ⟨h,k⟩:=h
 unfold Sp.ZeZ at h k
 refine call70 (rComp7 _ _ _ _ _ _ _ _ _ _ _ _ _ _ _ _ _ _ _ _ _ _ _ _ _ _ _ _ _ _ _ ⟨⟨⟨h.1.1,h.1.2,ZfK h.2.2 (by omega)⟩,k.1.1,k.1.2,ZfK k.2.2 (by omega)⟩,fun j => ?_,fun j => ⟨⟨⟨h.2.1.1,h.2.1.2,ZfK h.2.2 (by omega)⟩,k.2.1.1,k.2.1.2,ZfK k.2.2 (by omega)⟩,?_⟩⟩)
 ·unfold Sp.ZfV
  simp only [if_neg j]
 ·unfold Sp.ZfV
  simp only [if_pos (Classical.not_not.1 j)]
end Go.Av

namespace Go.Av
open Go.Proofs
set_option maxRecDepth 100000
def fi18:Fi:=⟨84,[.tmp 4]⟩
def kp18:List (Nat × List Nat):=[(0,[2,3]),(1,[2,3,5,6]),(2,[2,3,5,6,21]),(3,[4]),(4,[2,3,5,6,7]),(5,[2,5,6,8,9]),(6,[2,5,6,8,9,46]),(7,[4]),(8,[5,8,9,10,11]),(9,[12,13]),(10,[12,13,78]),(11,[12,13]),(12,[4])]
def fi22:Fi:=⟨23,[.tmp 4,.tmp 5]⟩
def kp22:List (Nat × List Nat):=[(0,[2,3]),(1,[2,3,10]),(2,[4,5]),(3,[2,3,13]),(4,[4,5]),(5,[2,6]),(6,[4,5])]
def fi37:Fi:=⟨9,[.tmp 4]⟩
def kp37:List (Nat × List Nat):=[(0,[2,3]),(1,[4])]
def Zgo (f1 f2 f3 f4 f5 f6 g1 g2 g3 g4 g5 g6:Bool) (a b c x y z:Rat) (Q:AV->Heap->Prop):Prop:=Wp M1 (.run fi22 (atC (cd Tryz.f22) []) [(0,Zaq f1 f2 f3 f4 f5 f6 a b c),(1,Zaq g1 g2 g3 g4 g5 g6 x y z)] []) Q
def rLC9_at (f1 f2 f3 f4 f5 f6 g1 g2 g3 g4 g5 g6:Bool) (a b c x y q:Rat) (Q:AV->Heap->Prop):Prop:=Wp M1 (.run fi18 (atC (cd Tryz.f18) []) [(0,Zaq f1 f2 f3 f4 f5 f6 a b c),(1,Zaq g1 g2 g3 g4 g5 g6 x y q)] []) Q
def rEq7_at (f1 f2 f3 f4 f5 f6 f7 f8 f9 f10 g1 g2 g3 g4 g5 g6 g7 g8 g9 g10:Bool) (ax bx ay by_ c ux vx uy vy d:Rat) (Q:AV->Heap->Prop):Prop:=Wp M1 (.run fi37 (atC (cd Tryz.f37) []) [(0,.agg [.bool (Sp.Zaa ax.num),.vec f1 1 ((Sp.Zad ax.num).map (.int .u32)),.bool (Sp.Zaa (ax.den:Int)),.vec f2 1 ((Sp.Zad (ax.den:Int)).map (.int .u32)),.bool (Sp.Zaa bx.num),.vec f3 1 ((Sp.Zad bx.num).map (.int .u32)),.bool (Sp.Zaa (bx.den:Int)),.vec f4 1 ((Sp.Zad (bx.den:Int)).map (.int .u32)),.bool (Sp.Zaa ay.num),.vec f5 1 ((Sp.Zad ay.num).map (.int .u32)),.bool (Sp.Zaa (ay.den:Int)),.vec f6 1 ((Sp.Zad (ay.den:Int)).map (.int .u32)),.bool (Sp.Zaa by_.num),.vec f7 1 ((Sp.Zad by_.num).map (.int .u32)),.bool (Sp.Zaa (by_.den:Int)),.vec f8 1 ((Sp.Zad (by_.den:Int)).map (.int .u32)),.bool (Sp.Zaa c.num),.vec f9 1 ((Sp.Zad c.num).map (.int .u32)),.bool (Sp.Zaa (c.den:Int)),.vec f10 1 ((Sp.Zad (c.den:Int)).map (.int .u32))]),(1,.agg [.bool (Sp.Zaa ux.num),.vec g1 1 ((Sp.Zad ux.num).map (.int .u32)),.bool (Sp.Zaa (ux.den:Int)),.vec g2 1 ((Sp.Zad (ux.den:Int)).map (.int .u32)),.bool (Sp.Zaa vx.num),.vec g3 1 ((Sp.Zad vx.num).map (.int .u32)),.bool (Sp.Zaa (vx.den:Int)),.vec g4 1 ((Sp.Zad (vx.den:Int)).map (.int .u32)),.bool (Sp.Zaa uy.num),.vec g5 1 ((Sp.Zad uy.num).map (.int .u32)),.bool (Sp.Zaa (uy.den:Int)),.vec g6 1 ((Sp.Zad (uy.den:Int)).map (.int .u32)),.bool (Sp.Zaa vy.num),.vec g7 1 ((Sp.Zad vy.num).map (.int .u32)),.bool (Sp.Zaa (vy.den:Int)),.vec g8 1 ((Sp.Zad (vy.den:Int)).map (.int .u32)),.bool (Sp.Zaa d.num),.vec g9 1 ((Sp.Zad d.num).map (.int .u32)),.bool (Sp.Zaa (d.den:Int)),.vec g10 1 ((Sp.Zad (d.den:Int)).map (.int .u32))])] []) Q
theorem call18 {args:List AV} {d:AV} (h:wc M1 fi18 Tryz.f18 args d):Ev M1 (.pure 18 args) d []:=pcl _ _ (by kernel_rfl) h
theorem call22 {args:List AV} {d:AV} (h:wc M1 fi22 Tryz.f22 args d):Ev M1 (.pure 22 args) d []:=pcl _ _ (by kernel_rfl) h
theorem call37 {args:List AV} {d:AV} (h:wc M1 fi37 Tryz.f37 args d):Ev M1 (.pure 37 args) d []:=pcl _ _ (by kernel_rfl) h
theorem mCircles (f1 f2 f3 f4 f5 f6 g1 g2 g3 g4 g5 g6:Bool) (a b c x y z:Rat)  (dq:AV) (H :
  (Sp.Zb5 a b c /\ Sp.Zb5 x y z) /\
  ((a = x /\ b = y /\ c = z) -> Weak (tu [AV.vnil,vi 10]) dq) /\
  (¬(a = x /\ b = y /\ c = z) -> ((a = x /\ b = y) -> Weak (tu [AV.vnil,vi 0]) dq) /\
   (¬(a = x /\ b = y) -> (Sp.Zgl (Sp.qi 2 * (x - a)) (Sp.qi 2 * (y - b)) (x * x + y * y - z - (a * a + b * b - c)) /\ Sp.ZdM a b /\ Sp.okT 30 c) /\
    Weak (tu [AV.vec false 20 (List.map Pnt.a (Sp.ZcQ (Sp.qi 2 * (x - a)) (Sp.qi 2 * (y - b)) (x * x + y * y - z - (a * a + b * b - c)) a b c)),vi 0]) dq))) :
 Zgo f1 f2 f3 f4 f5 f6 g1 g2 g3 g4 g5 g6 a b c x y z (Zag dq):=by
 unfold Zgo
 obtain ⟨k1,H⟩:=H
 refine Zae (G:=Zac kp22 [(1,2,.call (vb (decide (a = x /\ b = y /\ c = z))) none)] []) 5 [] ⟨(atC (cd Tryz.f22) [1,0,1]),[(2,AV.ptr 0 0 0 0),(3,AV.ptr 1 0 0 0),(10,vb (decide (a = x /\ b = y /\ c = z)))],[⟨[Zaq f1 f2 f3 f4 f5 f6 a b c],12,0,false,false⟩,⟨[Zaq g1 g2 g3 g4 g5 g6 x y z],12,0,false,false⟩],_,[],_⟩ (by kernel_rfl) (bc rfl (bc rfl b0)) q0 (ce (@ev72 (f1) (f2) (f3) (f4) (f5) (f6) (g1) (g2) (g3) (g4) (g5) (g6) (a) (b) (c) (x) (y) (z) k1) c0) ?_
 rcases xq H with ⟨d3,H⟩|⟨d3,H⟩
 ·exact Zah (G:=Zac kp22 [] []) 1000 [true] (tu [AV.vnil,vi 10]) (by kernel_rfl) (bc (Zar (Zab.2 d3)) b0) q0 c0 H
 ·refine Zae (G:=Zac kp22 [(3,2,.call (vb (decide (a = x /\ b = y))) none)] []) 5 [false] ⟨(atC (cd Tryz.f22) [1,1,0,1]),[(2,AV.ptr 0 0 0 0),(3,AV.ptr 1 0 0 0),(13,vb (decide (a = x /\ b = y)))],[⟨[Zaq f1 f2 f3 f4 f5 f6 a b c],12,0,false,false⟩,⟨[Zaq g1 g2 g3 g4 g5 g6 x y z],12,0,false,false⟩],_,[],_⟩ (by kernel_rfl) (bc (Zan (fun h => d3 (Zab.1 h))) (bc rfl (bc rfl b0))) q0 (ce (@ev73 (f1) (f2) (f3) (f4) (f5) (f6) (g1) (g2) (g3) (g4) (g5) (g6) (a) (b) (c) (x) (y) (z) k1) c0) ?_
  rcases xq H with ⟨d5,H⟩|⟨d5,H⟩
  ·exact Zah (G:=Zac kp22 [] []) 1000 [true] (tu [AV.vnil,vi 0]) (by kernel_rfl) (bc (Zar (Zab.2 d5)) b0) q0 c0 H
  ·obtain ⟨k6,H⟩:=H
   exact Zah (G:=Zac kp22 [(5,2,.call (tu [Zay (Sp.qi 2 * (x - a)) (Sp.qi 2 * (y - b)) (x * x + y * y - z - (a * a + b * b - c)),vi 0]) none),(6,2,.call (AV.vec false 20 (List.map Pnt.a (Sp.ZcQ (Sp.qi 2 * (x - a)) (Sp.qi 2 * (y - b)) (x * x + y * y - z - (a * a + b * b - c)) a b c))) none)] []) 1000 [false] (tu [AV.vec false 20 (List.map Pnt.a (Sp.ZcQ (Sp.qi 2 * (x - a)) (Sp.qi 2 * (y - b)) (x * x + y * y - z - (a * a + b * b - c)) a b c)),vi 0]) (by kernel_rfl) (bc (Zan (fun h => d5 (Zab.1 h))) (bc rfl (bc rfl (bc rfl (bc rfl (bc rfl b0)))))) q0 (ce (@ev25_n (f1) (f2) (f3) (f4) (f5) (f6) (g1) (g2) (g3) (g4) (g5) (g6) (a) (b) (c) (x) (y) (z) k1 d5) (ce (@ev17 (false) (false) (false) (false) (false) (false) (f1) (f2) (f3) (f4) (f5) (f6) (Sp.qi 2 * (x - a)) (Sp.qi 2 * (y - b)) (x * x + y * y - z - (a * a + b * b - c)) (a) (b) (c) k6) c0)) H
noncomputable abbrev zNmF3 (x:Rat) (a:Rat) (b:Rat) (c:Rat) (y:Rat) (q:Rat):=Sp.red (x-Sp.ZaS a b c x y / Sp.ZaD a b*a) (-(b / Sp.ZaD a b)) (y-Sp.ZaS a b c x y / Sp.ZaD a b*b) (-(-a / Sp.ZaD a b)) (Sp.Zb3 a b c x y q)
noncomputable abbrev zNmF1 (x:Rat) (a:Rat) (b:Rat) (c:Rat) (y:Rat) (q:Rat):=(Pnt.a (zNmF3 x a b c y q))
noncomputable abbrev zNmF4 (x:Rat) (a:Rat) (b:Rat) (c:Rat) (y:Rat) (q:Rat):=Sp.red (x-Sp.ZaS a b c x y / Sp.ZaD a b*a) (b / Sp.ZaD a b) (y-Sp.ZaS a b c x y / Sp.ZaD a b*b) (-a / Sp.ZaD a b) (Sp.Zb3 a b c x y q)
noncomputable abbrev zNmF2 (x:Rat) (a:Rat) (b:Rat) (c:Rat) (y:Rat) (q:Rat):=(Pnt.a (zNmF4 x a b c y q))
noncomputable abbrev zNmF5 (x:Rat) (a:Rat) (b:Rat) (c:Rat) (y:Rat):=(pntF (x-Sp.ZaS a b c x y / Sp.ZaD a b*a) (Sp.qi 0) (y-Sp.ZaS a b c x y / Sp.ZaD a b*b) (Sp.qi 0) (Sp.qi 0))
theorem rLC9 (f1 f2 f3 f4 f5 f6 g1 g2 g3 g4 g5 g6:Bool) (a b c x y q:Rat)  (dq:AV) (H :
  (Sp.Zb5 a b c /\ Sp.ZdM x y /\ Sp.okT 30 q) /\
  (Sp.ZdM a b) /\
  ((Sp.sgnI (Sp.Zb3 a b c x y q).num < 0) -> Weak (AV.vnil) dq) /\
  (¬(Sp.sgnI (Sp.Zb3 a b c x y q).num < 0) -> (Sp.Zb5 a b c /\ Sp.ZdM x y) /\
   (Sp.okR (Sp.ZaS a b c x y) /\ Sp.okR (Sp.ZaD a b) /\ (Sp.ZaD a b).num ≠ 0) /\
   (Sp.okR (Sp.ZaS a b c x y / Sp.ZaD a b) /\ Sp.okR a) /\
   (Sp.okR x /\ Sp.okR (Sp.ZaS a b c x y / Sp.ZaD a b * a)) /\
   (Sp.okR (Sp.ZaS a b c x y / Sp.ZaD a b) /\ Sp.okR b) /\
   (Sp.okR y /\ Sp.okR (Sp.ZaS a b c x y / Sp.ZaD a b * b)) /\
   ((Sp.sgnI (Sp.Zb3 a b c x y q).num = 0) -> Weak (AV.vec true 20 [(pntF (x - Sp.ZaS a b c x y / Sp.ZaD a b * a) (Sp.qi 0) (y - Sp.ZaS a b c x y / Sp.ZaD a b * b) (Sp.qi 0) (Sp.qi 0))]) dq) /\
   (¬(Sp.sgnI (Sp.Zb3 a b c x y q).num = 0) -> (Sp.okR b /\ Sp.okR (Sp.ZaD a b) /\ (Sp.ZaD a b).num ≠ 0) /\
    (Sp.ok a.num) /\
    (Sp.okR (-a) /\ Sp.okR (Sp.ZaD a b) /\ (Sp.ZaD a b).num ≠ 0) /\
    (Sp.ok (b / Sp.ZaD a b).num) /\
    (Sp.ok (-a / Sp.ZaD a b).num) /\
    (Sp.ZeZ { ax:=x - Sp.ZaS a b c x y / Sp.ZaD a b * a,bx:=-(b / Sp.ZaD a b),ay:=y - Sp.ZaS a b c x y / Sp.ZaD a b * b,by_:=-(-a / Sp.ZaD a b),c:=Sp.Zb3 a b c x y q }) /\
    (Sp.ZeZ { ax:=x - Sp.ZaS a b c x y / Sp.ZaD a b * a,bx:=b / Sp.ZaD a b,ay:=y - Sp.ZaS a b c x y / Sp.ZaD a b * b,by_:=-a / Sp.ZaD a b,c:=Sp.Zb3 a b c x y q }) /\
    (Sp.ZeZ (Sp.red (x - Sp.ZaS a b c x y / Sp.ZaD a b * a) (-(b / Sp.ZaD a b)) (y - Sp.ZaS a b c x y / Sp.ZaD a b * b) (-(-a / Sp.ZaD a b)) (Sp.Zb3 a b c x y q)) /\ Sp.ZeZ (Sp.red (x - Sp.ZaS a b c x y / Sp.ZaD a b * a) (b / Sp.ZaD a b) (y - Sp.ZaS a b c x y / Sp.ZaD a b * b) (-a / Sp.ZaD a b) (Sp.Zb3 a b c x y q))) /\
    ((Sp.ZfV (Sp.red (x - Sp.ZaS a b c x y / Sp.ZaD a b * a) (-(b / Sp.ZaD a b)) (y - Sp.ZaS a b c x y / Sp.ZaD a b * b) (-(-a / Sp.ZaD a b)) (Sp.Zb3 a b c x y q)) (Sp.red (x - Sp.ZaS a b c x y / Sp.ZaD a b * a) (b / Sp.ZaD a b) (y - Sp.ZaS a b c x y / Sp.ZaD a b * b) (-a / Sp.ZaD a b) (Sp.Zb3 a b c x y q)) > 0) -> Weak (AV.vec true 20 [(Pnt.a (Sp.red (x - Sp.ZaS a b c x y / Sp.ZaD a b * a) (b / Sp.ZaD a b) (y - Sp.ZaS a b c x y / Sp.ZaD a b * b) (-a / Sp.ZaD a b) (Sp.Zb3 a b c x y q))),(Pnt.a (Sp.red (x - Sp.ZaS a b c x y / Sp.ZaD a b * a) (-(b / Sp.ZaD a b)) (y - Sp.ZaS a b c x y / Sp.ZaD a b * b) (-(-a / Sp.ZaD a b)) (Sp.Zb3 a b c x y q)))]) dq) /\
    (¬(Sp.ZfV (Sp.red (x - Sp.ZaS a b c x y / Sp.ZaD a b * a) (-(b / Sp.ZaD a b)) (y - Sp.ZaS a b c x y / Sp.ZaD a b * b) (-(-a / Sp.ZaD a b)) (Sp.Zb3 a b c x y q)) (Sp.red (x - Sp.ZaS a b c x y / Sp.ZaD a b * a) (b / Sp.ZaD a b) (y - Sp.ZaS a b c x y / Sp.ZaD a b * b) (-a / Sp.ZaD a b) (Sp.Zb3 a b c x y q)) > 0) -> Weak (AV.vec true 20 [(Pnt.a (Sp.red (x - Sp.ZaS a b c x y / Sp.ZaD a b * a) (-(b / Sp.ZaD a b)) (y - Sp.ZaS a b c x y / Sp.ZaD a b * b) (-(-a / Sp.ZaD a b)) (Sp.Zb3 a b c x y q))),(Pnt.a (Sp.red (x - Sp.ZaS a b c x y / Sp.ZaD a b * a) (b / Sp.ZaD a b) (y - Sp.ZaS a b c x y / Sp.ZaD a b * b) (-a / Sp.ZaD a b) (Sp.Zb3 a b c x y q)))]) dq)))) :
 rLC9_at f1 f2 f3 f4 f5 f6 g1 g2 g3 g4 g5 g6 a b c x y q (Zag dq):=by
 unfold rLC9_at
 obtain ⟨k1,k2,H⟩:=H
 refine Zae (G:=Zac kp18 [(1,2,.call (ratF (Sp.Zb3 a b c x y q)) none),(1,4,.call (ratF (Sp.ZaD a b)) none)] []) 3 [] ⟨(atC (cd Tryz.f18) [1,0]),[(2,AV.ptr 0 0 0 0),(3,AV.ptr 1 0 0 0)],[⟨[Zaq f1 f2 f3 f4 f5 f6 a b c],12,0,false,false⟩,⟨[Zaq g1 g2 g3 g4 g5 g6 x y q],12,0,false,false⟩],_,[],_⟩ (by kernel_rfl) b0 q0 c0 (Zb6 (G:=Zac kp18 [(1,2,.call (ratF (Sp.Zb3 a b c x y q)) none),(1,4,.call (ratF (Sp.ZaD a b)) none)] []) [0,1,3,2] 5 (e1:=[(2,AV.ptr 0 0 0 0),(3,AV.ptr 1 0 0 0),(5,AV.ptr 2 0 0 0),(6,AV.ptr 3 0 0 0)]) (L1:=[⟨[Zaq f1 f2 f3 f4 f5 f6 a b c],12,0,false,false⟩,⟨[Zaq g1 g2 g3 g4 g5 g6 x y q],12,0,false,false⟩,⟨[ratF (Sp.Zb3 a b c x y q)],4,0,false,false⟩,⟨[ratF (Sp.ZaD a b)],4,0,false,false⟩]) (a:=[true,true,true,true,true]) (q:=[]) (cs:=[⟨true,false,21,[Zaq f1 f2 f3 f4 f5 f6 a b c,Zaq g1 g2 g3 g4 g5 g6 x y q],[],ratF (Sp.Zb3 a b c x y q),[]⟩,⟨true,false,67,[Zaq f1 f2 f3 f4 f5 f6 a b c],[],ratF (Sp.ZaD a b),[]⟩]) (by kernel_rfl) (by kernel_rfl) (Zai rfl (Zai rfl (Zai rfl (Zai rfl (Zai rfl ZaL))))) Za0 (ZaG (fun _ => (@ev21 (f1) (f2) (f3) (f4) (f5) (f6) (g1) (g2) (g3) (g4) (g5) (g6) (a) (b) (c) (x) (y) (q) k1)) (ZaG (fun _ => (@ev67 (f1) (f2) (f3) (f4) (f5) (f6) (a) (b) (c) k2)) Za1)) ?_)
 refine Zae (G:=Zac kp18 [(2,1,.call (vi (Sp.sgnI (Sp.Zb3 a b c x y q).num)) none)] []) 3 [] ⟨(atC (cd Tryz.f18) [1,1,0,1]),[(2,AV.ptr 0 0 0 0),(3,AV.ptr 1 0 0 0),(5,AV.ptr 2 0 0 0),(6,AV.ptr 3 0 0 0),(21,vb (decide (Sp.sgnI (Sp.Zb3 a b c x y q).num < 0)))],[⟨[Zaq f1 f2 f3 f4 f5 f6 a b c],12,0,false,false⟩,⟨[Zaq g1 g2 g3 g4 g5 g6 x y q],12,0,false,false⟩,⟨[ratF (Sp.Zb3 a b c x y q)],4,0,false,false⟩,⟨[ratF (Sp.ZaD a b)],4,0,false,false⟩],_,[],_⟩ (by kernel_rfl) (bc rfl b0) q0 (ce (@ev20 (false) (false) ((Sp.Zb3 a b c x y q).num) ((↑(Sp.Zb3 a b c x y q).den:Int))) c0) ?_
 rcases xq H with ⟨d4,H⟩|⟨d4,H⟩
 ·exact Zah (G:=Zac kp18 [] []) 1000 [true] (AV.vnil) (by kernel_rfl) (bc (Zar (Zab.2 d4)) b0) q0 c0 H
 ·obtain ⟨k5,k6,k7,k8,k9,k10,H⟩:=H
  refine Zae (G:=Zac kp18 [(4,5,.call (ratF (Sp.ZaS a b c x y)) none),(4,7,.call (ratF (Sp.ZaS a b c x y / Sp.ZaD a b)) none),(5,5,.call (ratF (Sp.ZaS a b c x y / Sp.ZaD a b * a)) none),(5,6,.call (ratF (x - Sp.ZaS a b c x y / Sp.ZaD a b * a)) none),(5,12,.call (ratF (Sp.ZaS a b c x y / Sp.ZaD a b * b)) none),(5,13,.call (ratF (y - Sp.ZaS a b c x y / Sp.ZaD a b * b)) none)] []) 5 [false] ⟨(atC (cd Tryz.f18) [1,1,1,1,0]),[(2,AV.ptr 0 0 0 0),(3,AV.ptr 1 0 0 0),(5,AV.ptr 2 0 0 0),(6,AV.ptr 3 0 0 0),(7,AV.ptr 4 0 0 0)],[⟨[Zaq f1 f2 f3 f4 f5 f6 a b c],12,0,false,false⟩,⟨[Zaq g1 g2 g3 g4 g5 g6 x y q],12,0,false,false⟩,⟨[ratF (Sp.Zb3 a b c x y q)],4,0,false,false⟩,⟨[ratF (Sp.ZaD a b)],4,0,false,false⟩,⟨[ratF (Sp.ZaS a b c x y / Sp.ZaD a b)],4,0,false,false⟩],_,[],_⟩ (by kernel_rfl) (bc (Zan (fun h => d4 (Zab.1 h))) (bc rfl (bc rfl (bc rfl (bc rfl (bc rfl b0)))))) q0 (ce (@ev30 (f1) (f2) (f3) (f4) (f5) (f6) (g1) (g2) (g3) (g4) (a) (b) (c) (x) (y) k5) (ce (@ev62 (false) (false) (false) (false) (Sp.ZaS a b c x y) (Sp.ZaD a b) k6) c0)) (Zb6 (G:=Zac kp18 [(4,5,.call (ratF (Sp.ZaS a b c x y)) none),(4,7,.call (ratF (Sp.ZaS a b c x y / Sp.ZaD a b)) none),(5,5,.call (ratF (Sp.ZaS a b c x y / Sp.ZaD a b * a)) none),(5,6,.call (ratF (x - Sp.ZaS a b c x y / Sp.ZaD a b * a)) none),(5,12,.call (ratF (Sp.ZaS a b c x y / Sp.ZaD a b * b)) none),(5,13,.call (ratF (y - Sp.ZaS a b c x y / Sp.ZaD a b * b)) none)] []) [0,1,2,3,4,6,5] 14 (e1:=[(2,AV.ptr 0 0 0 0),(5,AV.ptr 2 0 0 0),(6,AV.ptr 3 0 0 0),(8,AV.ptr 5 0 0 0),(9,AV.ptr 6 0 0 0)]) (L1:=[⟨[Zaq f1 f2 f3 f4 f5 f6 a b c],12,0,false,false⟩,⟨[Zaq g1 g2 g3 g4 g5 g6 x y q],12,0,false,false⟩,⟨[ratF (Sp.Zb3 a b c x y q)],4,0,false,false⟩,⟨[ratF (Sp.ZaD a b)],4,0,false,false⟩,⟨[ratF (Sp.ZaS a b c x y / Sp.ZaD a b)],4,0,false,false⟩,⟨[ratF (x - Sp.ZaS a b c x y / Sp.ZaD a b * a)],4,0,false,false⟩,⟨[ratF (y - Sp.ZaS a b c x y / Sp.ZaD a b * b)],4,0,false,false⟩]) (a:=[true,true,true,true,true,true,true,true]) (q:=[]) (cs:=[⟨true,false,60,[ratF (Sp.ZaS a b c x y / Sp.ZaD a b),ratA f1 f2 a],[],ratF (Sp.ZaS a b c x y / Sp.ZaD a b * a),[]⟩,⟨true,false,59,[ratA g1 g2 x,ratF (Sp.ZaS a b c x y / Sp.ZaD a b * a)],[],ratF (x - Sp.ZaS a b c x y / Sp.ZaD a b * a),[]⟩,⟨true,false,60,[ratF (Sp.ZaS a b c x y / Sp.ZaD a b),ratA f3 f4 b],[],ratF (Sp.ZaS a b c x y / Sp.ZaD a b * b),[]⟩,⟨true,false,59,[ratA g3 g4 y,ratF (Sp.ZaS a b c x y / Sp.ZaD a b * b)],[],ratF (y - Sp.ZaS a b c x y / Sp.ZaD a b * b),[]⟩]) (by kernel_rfl) (by kernel_rfl) (Zai rfl (Zai rfl (Zai rfl (Zai rfl (Zai rfl (Zai rfl (Zai rfl (Zai rfl ZaL)))))))) Za0 (ZaG (fun _ => (@ev60 (false) (false) (f1) (f2) (Sp.ZaS a b c x y / Sp.ZaD a b) (a) k7)) (ZaG (fun _ => (@ev59 (g1) (g2) (false) (false) (x) (Sp.ZaS a b c x y / Sp.ZaD a b * a) k8)) (ZaG (fun _ => (@ev60 (false) (false) (f3) (f4) (Sp.ZaS a b c x y / Sp.ZaD a b) (b) k9)) (ZaG (fun _ => (@ev59 (g3) (g4) (false) (false) (y) (Sp.ZaS a b c x y / Sp.ZaD a b * b) k10)) Za1)))) ?_)
  refine Zae (G:=Zac kp18 [(6,1,.call (vi (Sp.sgnI (Sp.Zb3 a b c x y q).num)) none)] []) 3 [] ⟨(atC (cd Tryz.f18) [1,1,1,1,1,0,1]),[(2,AV.ptr 0 0 0 0),(5,AV.ptr 2 0 0 0),(6,AV.ptr 3 0 0 0),(8,AV.ptr 5 0 0 0),(9,AV.ptr 6 0 0 0),(46,vb (Sp.sgnI (Sp.Zb3 a b c x y q).num == 0))],[⟨[Zaq f1 f2 f3 f4 f5 f6 a b c],12,0,false,false⟩,⟨[Zaq g1 g2 g3 g4 g5 g6 x y q],12,0,false,false⟩,⟨[ratF (Sp.Zb3 a b c x y q)],4,0,false,false⟩,⟨[ratF (Sp.ZaD a b)],4,0,false,false⟩,⟨[ratF (Sp.ZaS a b c x y / Sp.ZaD a b)],4,0,false,false⟩,⟨[ratF (x - Sp.ZaS a b c x y / Sp.ZaD a b * a)],4,0,false,false⟩,⟨[ratF (y - Sp.ZaS a b c x y / Sp.ZaD a b * b)],4,0,false,false⟩],_,[],_⟩ (by kernel_rfl) (bc rfl b0) q0 (ce (@ev20 (false) (false) ((Sp.Zb3 a b c x y q).num) ((↑(Sp.Zb3 a b c x y q).den:Int))) c0) ?_
  rcases xq H with ⟨d12,H⟩|⟨d12,H⟩
  ·exact Zah (G:=Zac kp18 [(7,3,.call ((zNmF5 x a b c y)) none)] []) 1000 [true] (AV.vec true 20 [(zNmF5 x a b c y)]) (by kernel_rfl) (bc (Zar (i_eq.2 d12)) (bc rfl (bc rfl b0))) q0 (ce (@ev61 (false) (false) (false) (false) (x - Sp.ZaS a b c x y / Sp.ZaD a b * a) (y - Sp.ZaS a b c x y / Sp.ZaD a b * b)) c0) H
  ·obtain ⟨k13,k14,k15,H⟩:=H
   refine Zae (G:=Zac kp18 [(8,3,.call (ratF (b / Sp.ZaD a b)) none),(8,6,.call (ratF (-a)) none),(8,8,.call (ratF (-a / Sp.ZaD a b)) none)] []) 3 [false] ⟨(atC (cd Tryz.f18) [1,1,1,1,1,1,0]),[(2,AV.ptr 0 0 0 0),(5,AV.ptr 2 0 0 0),(6,AV.ptr 3 0 0 0),(8,AV.ptr 5 0 0 0),(9,AV.ptr 6 0 0 0),(46,vb (Sp.sgnI (Sp.Zb3 a b c x y q).num == 0))],[⟨[Zaq f1 f2 f3 f4 f5 f6 a b c],12,0,false,false⟩,⟨[Zaq g1 g2 g3 g4 g5 g6 x y q],12,0,false,false⟩,⟨[ratF (Sp.Zb3 a b c x y q)],4,0,false,false⟩,⟨[ratF (Sp.ZaD a b)],4,0,false,false⟩,⟨[ratF (Sp.ZaS a b c x y / Sp.ZaD a b)],4,0,false,false⟩,⟨[ratF (x - Sp.ZaS a b c x y / Sp.ZaD a b * a)],4,0,false,false⟩,⟨[ratF (y - Sp.ZaS a b c x y / Sp.ZaD a b * b)],4,0,false,false⟩],_,[],_⟩ (by kernel_rfl) (bc (Zan (fun h => d12 (i_eq.1 h))) b0) q0 c0 (Zb6 (G:=Zac kp18 [(8,3,.call (ratF (b / Sp.ZaD a b)) none),(8,6,.call (ratF (-a)) none),(8,8,.call (ratF (-a / Sp.ZaD a b)) none)] []) [0,1,2,3,4,5,6,8,7] 9 (e1:=[(5,AV.ptr 2 0 0 0),(8,AV.ptr 5 0 0 0),(9,AV.ptr 6 0 0 0),(10,AV.ptr 7 0 0 0),(11,AV.ptr 8 0 0 0)]) (L1:=[⟨[Zaq f1 f2 f3 f4 f5 f6 a b c],12,0,false,false⟩,⟨[Zaq g1 g2 g3 g4 g5 g6 x y q],12,0,false,false⟩,⟨[ratF (Sp.Zb3 a b c x y q)],4,0,false,false⟩,⟨[ratF (Sp.ZaD a b)],4,0,false,false⟩,⟨[ratF (Sp.ZaS a b c x y / Sp.ZaD a b)],4,0,false,false⟩,⟨[ratF (x - Sp.ZaS a b c x y / Sp.ZaD a b * a)],4,0,false,false⟩,⟨[ratF (y - Sp.ZaS a b c x y / Sp.ZaD a b * b)],4,0,false,false⟩,⟨[ratF (b / Sp.ZaD a b)],4,0,false,false⟩,⟨[ratF (-a / Sp.ZaD a b)],4,0,false,false⟩]) (a:=[true,true,true,true,true,true]) (q:=[]) (cs:=[⟨true,false,62,[ratA f3 f4 b,ratF (Sp.ZaD a b)],[],ratF (b / Sp.ZaD a b),[]⟩,⟨true,false,68,[ratA f1 f2 a],[],ratF (-a),[]⟩,⟨true,false,62,[ratF (-a),ratF (Sp.ZaD a b)],[],ratF (-a / Sp.ZaD a b),[]⟩]) (by kernel_rfl) (by kernel_rfl) (Zai rfl (Zai rfl (Zai rfl (Zai rfl (Zai rfl (Zai rfl ZaL)))))) Za0 (ZaG (fun _ => (@ev62 (f3) (f4) (false) (false) (b) (Sp.ZaD a b) k13)) (ZaG (fun _ => (@ev68 (f1) (f2) (a) k14)) (ZaG (fun _ => (@ev62 (false) (false) (false) (false) (-a) (Sp.ZaD a b) k15)) Za1))) ?_)
   obtain ⟨k16,k17,k18,k19,H⟩:=H
   refine Zae (G:=Zac kp18 [(9,2,.call (ratF (-(b / Sp.ZaD a b))) none),(9,5,.call (ratF (-(-a / Sp.ZaD a b))) none),(9,7,.call ((zNmF1 x a b c y q)) none),(9,13,.call ((zNmF2 x a b c y q)) none)] []) 1 [] ⟨(atC (cd Tryz.f18) [1,1,1,1,1,1,1,0]),[(5,AV.ptr 2 0 0 0),(8,AV.ptr 5 0 0 0),(9,AV.ptr 6 0 0 0),(10,AV.ptr 7 0 0 0),(11,AV.ptr 8 0 0 0)],[⟨[Zaq f1 f2 f3 f4 f5 f6 a b c],12,0,false,false⟩,⟨[Zaq g1 g2 g3 g4 g5 g6 x y q],12,0,false,false⟩,⟨[ratF (Sp.Zb3 a b c x y q)],4,0,false,false⟩,⟨[ratF (Sp.ZaD a b)],4,0,false,false⟩,⟨[ratF (Sp.ZaS a b c x y / Sp.ZaD a b)],4,0,false,false⟩,⟨[ratF (x - Sp.ZaS a b c x y / Sp.ZaD a b * a)],4,0,false,false⟩,⟨[ratF (y - Sp.ZaS a b c x y / Sp.ZaD a b * b)],4,0,false,false⟩,⟨[ratF (b / Sp.ZaD a b)],4,0,false,false⟩,⟨[ratF (-a / Sp.ZaD a b)],4,0,false,false⟩],_,[],_⟩ (by kernel_rfl) b0 q0 c0 (Zb6 (G:=Zac kp18 [(9,2,.call (ratF (-(b / Sp.ZaD a b))) none),(9,5,.call (ratF (-(-a / Sp.ZaD a b))) none),(9,7,.call ((zNmF1 x a b c y q)) none),(9,13,.call ((zNmF2 x a b c y q)) none)] []) [0,1,2,3,4,5,6,7,8,10,9] 14 (e1:=[(12,AV.ptr 9 0 0 0),(13,AV.ptr 10 0 0 0)]) (L1:=[⟨[Zaq f1 f2 f3 f4 f5 f6 a b c],12,0,false,false⟩,⟨[Zaq g1 g2 g3 g4 g5 g6 x y q],12,0,false,false⟩,⟨[ratF (Sp.Zb3 a b c x y q)],4,0,false,false⟩,⟨[ratF (Sp.ZaD a b)],4,0,false,false⟩,⟨[ratF (Sp.ZaS a b c x y / Sp.ZaD a b)],4,0,false,false⟩,⟨[ratF (x - Sp.ZaS a b c x y / Sp.ZaD a b * a)],4,0,false,false⟩,⟨[ratF (y - Sp.ZaS a b c x y / Sp.ZaD a b * b)],4,0,false,false⟩,⟨[ratF (b / Sp.ZaD a b)],4,0,false,false⟩,⟨[ratF (-a / Sp.ZaD a b)],4,0,false,false⟩,⟨[(zNmF1 x a b c y q)],20,0,false,false⟩,⟨[(zNmF2 x a b c y q)],20,0,false,false⟩]) (a:=[true,true,true,true,true,true,true,true,true,true,true,true]) (q:=[]) (cs:=[⟨true,false,68,[ratF (b / Sp.ZaD a b)],[],ratF (-(b / Sp.ZaD a b)),[]⟩,⟨true,false,68,[ratF (-a / Sp.ZaD a b)],[],ratF (-(-a / Sp.ZaD a b)),[]⟩,⟨true,false,69,[ratF (x - Sp.ZaS a b c x y / Sp.ZaD a b * a),ratF (-(b / Sp.ZaD a b)),ratF (y - Sp.ZaS a b c x y / Sp.ZaD a b * b),ratF (-(-a / Sp.ZaD a b)),ratF (Sp.Zb3 a b c x y q)],[],(zNmF1 x a b c y q),[]⟩,⟨true,false,69,[ratF (x - Sp.ZaS a b c x y / Sp.ZaD a b * a),ratF (b / Sp.ZaD a b),ratF (y - Sp.ZaS a b c x y / Sp.ZaD a b * b),ratF (-a / Sp.ZaD a b),ratF (Sp.Zb3 a b c x y q)],[],(zNmF2 x a b c y q),[]⟩]) (by kernel_rfl) (by kernel_rfl) (Zai rfl (Zai rfl (Zai rfl (Zai rfl (Zai rfl (Zai rfl (Zai rfl (Zai rfl (Zai rfl (Zai rfl (Zai rfl (Zai rfl ZaL)))))))))))) Za0 (ZaG (fun _ => (@ev68 (false) (false) (b / Sp.ZaD a b) k16)) (ZaG (fun _ => (@ev68 (false) (false) (-a / Sp.ZaD a b) k17)) (ZaG (fun _ => (@ev69 (false) (false) (false) (false) (false) (false) (false) (false) (false) (false) (x - Sp.ZaS a b c x y / Sp.ZaD a b * a) (-(b / Sp.ZaD a b)) (y - Sp.ZaS a b c x y / Sp.ZaD a b * b) (-(-a / Sp.ZaD a b)) (Sp.Zb3 a b c x y q) k18)) (ZaG (fun _ => (@ev69 (false) (false) (false) (false) (false) (false) (false) (false) (false) (false) (x - Sp.ZaS a b c x y / Sp.ZaD a b * a) (b / Sp.ZaD a b) (y - Sp.ZaS a b c x y / Sp.ZaD a b * b) (-a / Sp.ZaD a b) (Sp.Zb3 a b c x y q) k19)) Za1)))) ?_)
   obtain ⟨k20,H⟩:=H
   refine Zae (G:=Zac kp18 [(10,2,.call (vi (Sp.ZfV (zNmF3 x a b c y q) (zNmF4 x a b c y q))) none)] []) 3 [] ⟨(atC (cd Tryz.f18) [1,1,1,1,1,1,1,1,0,1]),[(12,AV.ptr 9 0 0 0),(13,AV.ptr 10 0 0 0),(78,vb (decide (Sp.ZfV (zNmF3 x a b c y q) (zNmF4 x a b c y q) > 0)))],[⟨[Zaq f1 f2 f3 f4 f5 f6 a b c],12,0,false,false⟩,⟨[Zaq g1 g2 g3 g4 g5 g6 x y q],12,0,false,false⟩,⟨[ratF (Sp.Zb3 a b c x y q)],4,0,false,false⟩,⟨[ratF (Sp.ZaD a b)],4,0,false,false⟩,⟨[ratF (Sp.ZaS a b c x y / Sp.ZaD a b)],4,0,false,false⟩,⟨[ratF (x - Sp.ZaS a b c x y / Sp.ZaD a b * a)],4,0,false,false⟩,⟨[ratF (y - Sp.ZaS a b c x y / Sp.ZaD a b * b)],4,0,false,false⟩,⟨[ratF (b / Sp.ZaD a b)],4,0,false,false⟩,⟨[ratF (-a / Sp.ZaD a b)],4,0,false,false⟩,⟨[(zNmF1 x a b c y q)],20,0,false,false⟩,⟨[(zNmF2 x a b c y q)],20,0,false,false⟩],_,[],_⟩ (by kernel_rfl) (bc rfl (bc rfl b0)) q0 (ce (@ev70 (false) (false) (false) (false) (false) (false) (false) (false) (false) (false) (false) (false) (false) (false) (false) (false) (false) (false) (false) (false) ((zNmF3 x a b c y q).ax) ((zNmF3 x a b c y q).bx) ((zNmF3 x a b c y q).ay) ((zNmF3 x a b c y q).by_) ((zNmF3 x a b c y q).c) ((zNmF4 x a b c y q).ax) ((zNmF4 x a b c y q).bx) ((zNmF4 x a b c y q).ay) ((zNmF4 x a b c y q).by_) ((zNmF4 x a b c y q).c) k20) c0) ?_
   rcases xq H with ⟨d22,H⟩|⟨d22,H⟩
   ·exact Zah (G:=Zac kp18 [] []) 1000 [true] (AV.vec true 20 [(zNmF2 x a b c y q),(zNmF1 x a b c y q)]) (by kernel_rfl) (bc (Zar (Zab.2 d22)) (bc rfl (bc rfl (bc rfl (bc rfl (bc rfl (bc rfl b0))))))) q0 c0 H
   ·exact Zah (G:=Zac kp18 [] []) 1000 [false] (AV.vec true 20 [(zNmF1 x a b c y q),(zNmF2 x a b c y q)]) (by kernel_rfl) (bc (Zan (fun h => d22 (Zab.1 h))) (bc rfl (bc rfl b0))) q0 c0 H
theorem rEq7 (f1 f2 f3 f4 f5 f6 f7 f8 f9 f10 g1 g2 g3 g4 g5 g6 g7 g8 g9 g10:Bool) (ax bx ay by_ c ux vx uy vy d:Rat)  (dq:AV) (H :
  (Sp.ZeZ { ax:=ax,bx:=bx,ay:=ay,by_:=by_,c:=c } /\ Sp.ZeZ { ax:=ux,bx:=vx,ay:=uy,by_:=vy,c:=d }) /\
  vb (Sp.ZfV { ax:=ax,bx:=bx,ay:=ay,by_:=by_,c:=c } { ax:=ux,bx:=vx,ay:=uy,by_:=vy,c:=d } == 0) = dq) :
 rEq7_at f1 f2 f3 f4 f5 f6 f7 f8 f9 f10 g1 g2 g3 g4 g5 g6 g7 g8 g9 g10 ax bx ay by_ c ux vx uy vy d (Zag dq):=by
 unfold rEq7_at
 obtain ⟨k1,H⟩:=H
 exact Zao (G:=Zac kp37 [(1,2,.call (vi (Sp.ZfV { ax:=ax,bx:=bx,ay:=ay,by_:=by_,c:=c } { ax:=ux,bx:=vx,ay:=uy,by_:=vy,c:=d })) none)] []) 1000 [] (vb (Sp.ZfV { ax:=ax,bx:=bx,ay:=ay,by_:=by_,c:=c } { ax:=ux,bx:=vx,ay:=uy,by_:=vy,c:=d } == 0)) (by kernel_rfl) (bc rfl (bc rfl b0)) q0 (ce (@ev70 (f1) (f2) (f3) (f4) (f5) (f6) (f7) (f8) (f9) (f10) (g1) (g2) (g3) (g4) (g5) (g6) (g7) (g8) (g9) (g10) (ax) (bx) (ay) (by_) (c) (ux) (vx) (uy) (vy) (d) k1) c0) H
end Go.Av

namespace Go.Av
open Go.Proofs
namespace Sp
def Zg3 (a b c:Rat):Prop:=okT 2 a/\okT 2 b/\okT 2 c
noncomputable def rdA (a x:Rat):Rat:=qi 2*(x-a)
noncomputable def rdC (a b c x y z:Rat):Rat:=x*x+y*y-z-(a*a+b*b-c)
noncomputable def Zdk (a b c x y z:Rat):Int:=if a=x/\b=y then (if c=z then 10 else 0) else 0
noncomputable def ZgN (a b c x y z:Rat):List Pnt:=if a=x/\b=y then [] else ZcQ (rdA a x) (rdA b y) (rdC a b c x y z) a b c
noncomputable def cirR (a b c x y z:Rat):List Pnt:=if a=x/\b=y then [] else Zej (rdA a x) (rdA b y) (rdC a b c x y z) a b c
noncomputable def eqL:List Pnt -> List Pnt -> Bool
 | [],[] => true
 | p :: l,q :: m => bif decide (ZfV p q = 0) then eqL l m else false
 | _,_ => false
end Sp
theorem Zek {a b c:Rat} (h:Sp.Zg3 a b c):Sp.Zb5 a b c:=⟨Zat h.1 (by omega),Zat h.2.1 (by omega),Zat h.2.2 (by omega)⟩
theorem rd_ln {a b c x y z:Rat} (h:Sp.Zg3 a b c) (k:Sp.Zg3 x y z) (n:¬(a = x /\ b = y)):Sp.Zgl (Sp.rdA a x) (Sp.rdA b y) (Sp.rdC a b c x y z):=by
 obtain ⟨ha,hb,hc⟩:=h
 obtain ⟨hx,hy,hz⟩:=k
 refine ⟨⟨Zat (k:=8) (Zaf (Ze8 (by unfold Sp.inI;omega):Sp.okT 3 (Sp.qi 2)) (Zas hx ha)) (by omega),Zat (k:=8) (Zaf (Ze8 (by unfold Sp.inI;omega):Sp.okT 3 (Sp.qi 2)) (Zas hy hb)) (by omega),Zat (k:=25) (Zas (Zas (ZaB (Zaf hx hx) (Zaf hy hy)) hz) (Zas (ZaB (Zaf ha ha) (Zaf hb hb)) hc)) (by omega)⟩,?_⟩
 have t:Sp.qi 2 = 2:=by rw [Zfy];rfl
 unfold Sp.rdA
 rw [t]
 by_cases e:a = x
 ·right
  have:¬b = y:=fun f => n ⟨e,f⟩
  grind
 ·left
  grind
theorem ev22 (f1 f2 f3 f4 f5 f6 g1 g2 g3 g4 g5 g6:Bool) (a b c x y z:Rat) (h:Sp.Zg3 a b c /\ Sp.Zg3 x y z):Ev M1 (.pure 22 [Zaq f1 f2 f3 f4 f5 f6 a b c,Zaq g1 g2 g3 g4 g5 g6 x y z]) (.tup [.vec false 20 ((Sp.ZgN a b c x y z).map Pnt.a),.int .i64 (Sp.Zdk a b c x y z)]) []:=by
 obtain ⟨h1,h2⟩:=h
 have t1:=Zek h1
 refine call22 (mCircles _ _ _ _ _ _ _ _ _ _ _ _ _ _ _ _ _ _ _ ⟨⟨t1,Zek h2⟩,fun k => ?_,fun k => ⟨fun j => ?_,fun j => ⟨⟨rd_ln h1 h2 j,⟨t1.1,t1.2.1⟩,t1.2.2⟩,?_⟩⟩⟩)
 ·rw [show Sp.ZgN a b c x y z = [] from if_pos ⟨k.1,k.2.1⟩,show Sp.Zdk a b c x y z = 10 by unfold Sp.Zdk;rw [if_pos ⟨k.1,k.2.1⟩,if_pos k.2.2]]
  exact ZcF _
 ·rw [show Sp.ZgN a b c x y z = [] from if_pos j,show Sp.Zdk a b c x y z = 0 by unfold Sp.Zdk;rw [if_pos j,if_neg fun q => k ⟨j.1,j.2,q⟩]]
  exact ZcF _
 ·rw [show Sp.ZgN a b c x y z = Sp.ZcQ (Sp.rdA a x) (Sp.rdA b y) (Sp.rdC a b c x y z) a b c from if_neg j,show Sp.Zdk a b c x y z = 0 by unfold Sp.Zdk;rw [if_neg j]]
  exact .refl _
theorem qi1_ne:Sp.qi 1 ≠ 0:=by rw [Zfy];exact fun h=>by have:(1:Rat)=0:=h;grind
theorem okP5_red {x w y t r:Rat} (hx:Sp.okT 350 x) (hw:Sp.okT 160 w) (hy:Sp.okT 350 y) (ht:Sp.okT 160 t) (hr:Sp.okT 500 r):Sp.ZeZ (Sp.red x w y t r):=by
 by_cases k:Sp.rsq r
 ·rw [red_y k]
  exact ⟨⟨Zat (k:=1011) (ZaB hx (Zaf hw (ZdN k hr))) (by omega),Zat Zb4 (by omega)⟩,⟨Zat (k:=1011) (ZaB hy (Zaf ht (ZdN k hr))) (by omega),Zat Zb4 (by omega)⟩,Zat Zb4 (by omega)⟩
 ·rw [red_n k]
  exact ⟨⟨Zat hx (by omega),Zat hw (by omega)⟩,⟨Zat hy (by omega),Zat ht (by omega)⟩,Zat hr (by omega)⟩
theorem lineR_0 {a b c x y q:Rat} (k:Sp.Zb3 a b c x y q < 0):Sp.Zej a b c x y q = []:=by
 unfold Sp.Zej;rw [Zdo k,if_pos (by decide)]
theorem lineR_1 {a b c x y q:Rat} (k:Sp.Zb3 a b c x y q = 0):Sp.Zej a b c x y q = [Sp.atP (Sp.fX a b c x y) (Sp.fY a b c x y)]:=by
 unfold Sp.Zej;rw [k,ZbZ,if_neg (by decide),if_pos rfl]
theorem lineR_2 {a b c x y q:Rat} (k:0 < Sp.Zb3 a b c x y q):Sp.Zej a b c x y q = if Sp.ZfV (Sp.rP true a b c x y q) (Sp.rP false a b c x y q) > 0 then [Sp.rP false a b c x y q,Sp.rP true a b c x y q] else [Sp.rP true a b c x y q,Sp.rP false a b c x y q]:=by
 unfold Sp.Zej;rw [Zdn k,if_neg (by decide),if_neg (by decide)]
theorem okP5_rP {a b c x y q:Rat} (h:Sp.Zgl a b c) (hv:Sp.ZdM x y) (hq:Sp.okT 30 q) (s:Bool):Sp.ZeZ (Sp.rP s a b c x y q):=by
 have hf:=okT_f h hv
 have hnv:=okT_nv h.1 hv
 have hr:=okT_room h.1 hv hq
 obtain ⟨⟨ha,hb,hc⟩,h0⟩:=h
 have hn:(Sp.ZaD a b).num ≠ 0:=Zhw (Zes h0)
 have w1:=ZbR hb hnv.1 hn
 have w2:=ZbR (Zbr ha) hnv.1 hn
 unfold Sp.rP
 cases s with
 | true => rw [cond_true];exact okP5_red hf.1 (Zbr w1) hf.2 (Zbr w2) hr
 | false => rw [cond_false];exact okP5_red hf.1 w1 hf.2 w2 hr
theorem ev18 (f1 f2 f3 f4 f5 f6 g1 g2 g3 g4 g5 g6:Bool) (a b c x y q:Rat) (h:Sp.Zgl a b c /\ Sp.ZdM x y /\ Sp.okT 30 q):Ev M1 (.pure 18 [Zaq f1 f2 f3 f4 f5 f6 a b c,Zaq g1 g2 g3 g4 g5 g6 x y q]) (.vec false 20 ((Sp.Zej a b c x y q).map Pnt.a)) []:=by
 obtain ⟨hl,hv,hq⟩:=h
 have hf:=okT_f hl hv
 have hnv:=okT_nv hl.1 hv
 have hr:=okT_room hl.1 hv hq
 have r1:=okP5_rP hl hv hq true
 have r2:=okP5_rP hl hv hq false
 have h3:=hl.1
 have hv':=hv
 obtain ⟨⟨ha,hb,hc⟩,h0⟩:=hl
 obtain ⟨hx,hy⟩:=hv
 have hn:(Sp.ZaD a b).num ≠ 0:=Zhw (Zes h0)
 have w1:=ZbR hb hnv.1 hn
 have w2:=ZbR (Zbr ha) hnv.1 hn
 have le5 {k m:Nat} {r:Rat} (h:Sp.okT k r) (hk:k <= 1700):Sp.okT 1700 r:=Zat h hk
 refine call18 (rLC9 _ _ _ _ _ _ _ _ _ _ _ _ _ _ _ _ _ _ _ ⟨⟨h3,hv',hq⟩,⟨ha,hb⟩,fun k => ?_,fun k => ⟨⟨h3,hv'⟩,⟨Zaj hnv.2 (by omega),Zaj hnv.1 (by omega),hn⟩,⟨Zaj (ZbR hnv.2 hnv.1 hn) (by omega),Zaj ha (by omega)⟩,⟨Zaj hx (by omega),Zaj (Zaf (ZbR hnv.2 hnv.1 hn) ha) (by omega)⟩,⟨Zaj (ZbR hnv.2 hnv.1 hn) (by omega),Zaj hb (by omega)⟩,⟨Zaj hy (by omega),Zaj (Zaf (ZbR hnv.2 hnv.1 hn) hb) (by omega)⟩,fun j => ?_,fun j => ⟨⟨Zaj hb (by omega),Zaj hnv.1 (by omega),hn⟩,ok_of ha (by omega),⟨Zaj (Zbr ha) (by omega),Zaj hnv.1 (by omega),hn⟩,ok_of w1 (by omega),ok_of w2 (by omega),⟨⟨Zat hf.1 (by omega),Zat (Zbr w1) (by omega)⟩,⟨Zat hf.2 (by omega),Zat (Zbr w2) (by omega)⟩,Zat hr (by omega)⟩,⟨⟨Zat hf.1 (by omega),Zat w1 (by omega)⟩,⟨Zat hf.2 (by omega),Zat w2 (by omega)⟩,Zat hr (by omega)⟩,⟨r1,r2⟩,fun i => ?_,fun i => ?_⟩⟩⟩)
 ·rw [lineR_0 (sgl.1 k)]
  exact .vnil 20
 ·rw [lineR_1 (sgz.1 j)]
  exact ZcE [Sp.atP (Sp.fX a b c x y) (Sp.fY a b c x y)]
 ·have p:0 < Sp.Zb3 a b c x y q:=by
   rw [sgl] at k;rw [sgz] at j;grind
  rw [lineR_2 p,if_pos (show Sp.ZfV (Sp.rP true a b c x y q) (Sp.rP false a b c x y q) > 0 from i)]
  exact ZcE [Sp.rP false a b c x y q,Sp.rP true a b c x y q]
 ·have p:0 < Sp.Zb3 a b c x y q:=by
   rw [sgl] at k;rw [sgz] at j;grind
  rw [lineR_2 p,if_neg (show ¬Sp.ZfV (Sp.rP true a b c x y q) (Sp.rP false a b c x y q) > 0 from i)]
  exact ZcE [Sp.rP true a b c x y q,Sp.rP false a b c x y q]
theorem beq_dec (n:Int):(n == 0) = decide (n = 0):=by
 by_cases k:n = 0
 ·rw [decide_eq_true k,beq_iff_eq.2 k]
 ·rw [decide_eq_false k];simpa using k
theorem ev37 (f1 f2 f3 f4 f5 f6 f7 f8 f9 f10 g1 g2 g3 g4 g5 g6 g7 g8 g9 g10:Bool) (ax bx ay by_ c ux vx uy vy d:Rat) (h:Sp.ZeZ ⟨ax,bx,ay,by_,c⟩ /\ Sp.ZeZ ⟨ux,vx,uy,vy,d⟩):Ev M1 (.pure 37 [pntA f1 f2 f3 f4 f5 f6 f7 f8 f9 f10 ax bx ay by_ c,pntA g1 g2 g3 g4 g5 g6 g7 g8 g9 g10 ux vx uy vy d]) (.bool (decide (Sp.ZfV ⟨ax,bx,ay,by_,c⟩ ⟨ux,vx,uy,vy,d⟩ = 0))) []:=
 call37 (rEq7 _ _ _ _ _ _ _ _ _ _ _ _ _ _ _ _ _ _ _ _ _ _ _ _ _ _ _ _ _ _ _ ⟨h,by rw [beq_dec]⟩)
def Sp.okPL (l:List Pnt):Prop:=(∀ p ∈ l,ZeZ p)/\l.length<=100
end Go.Av

namespace Go.Av
open Go.Proofs
set_option maxRecDepth 100000
def fi23:Fi:=⟨26,[.tmp 4,.tmp 5]⟩
def kp23:List (Nat × List Nat):=[(0,[2,3]),(1,[2,3,10]),(2,[16]),(3,[4,5]),(4,[4,5]),(5,[2,6]),(6,[4,5])]
def fi46:Fi:=⟨5,[.cell 2 26]⟩
def kp46:List (Nat × List Nat):=[(0,[0,2]),(1,[2])]
def fi49:Fi:=⟨27,[.tmp 4]⟩
def kp49:List (Nat × List Nat):=[(0,[0,1]),(1,[0,1,10]),(2,[4]),(3,[0,1,5]),(4,[0,1,5,14]),(5,[0,1,5]),(6,[0,1,5,26]),(7,[4]),(8,[4])]
def fi51:Fi:=⟨36,[.tmp 2]⟩
def kp51:List (Nat × List Nat):=[(0,[0]),(1,[0,3]),(2,[0,3,7]),(3,[0,3]),(4,[0,3,35]),(5,[2]),(6,[2])]
def fi93:Fi:=⟨10,[.cell 4 47]⟩
def kp93:List (Nat × List Nat):=[(0,[0,1,4]),(1,[4])]
def rCir9_at (f1 f2 f3 f4 f5 f6 g1 g2 g3 g4 g5 g6:Bool) (a b c x y z:Rat) (Q:AV->Heap->Prop):Prop:=Wp M1 (.run fi23 (atC (cd Tryz.f23) []) [(0,Zaq f1 f2 f3 f4 f5 f6 a b c),(1,Zaq g1 g2 g3 g4 g5 g6 x y z)] []) Q
def rSame9_at (u v:Bool) (l m:List Pnt) (Q:AV->Heap->Prop):Prop:=Wp M1 (.run fi49 (atC (cd Tryz.f49) []) [(0,.vec u 20 (l.map Pnt.a)),(1,.vec v 20 (m.map Pnt.a))] []) Q
def Zdf (u v:Bool) (l m:List Pnt) (i:Int) (Q:AV->Heap->Prop):Prop:=Wp M1 (.run fi49 (atC (cd Tryz.f49) [1,1,0,1,0,0]) [(0,.vec u 20 (l.map Pnt.a)),(1,.vec v 20 (m.map Pnt.a)),(5,.int .i64 i)] []) Q
def wNum_at (a:Int) (Q:AV->Heap->Prop):Prop:=Wp M1 (.run fi46 (atC (cd Tryz.f46) []) [(0,.int .i64 a)] []) Q
def rVec7_at (a b:Int) (Q:AV->Heap->Prop):Prop:=Wp M1 (.run fi93 (atC (cd Tryz.f93) []) [(0,.int .i64 a),(1,.int .i64 b)] []) Q
def rFew_at (s1 t1 f1 g1 s2 t2 f2 g2 s3 t3 f3 g3:Bool) (x1 y1 x2 y2 x3 y3:List Int) (Q:AV->Heap->Prop):Prop:=Wp M1 (.run fi51 (atC (cd Tryz.f51) []) [(0,.vec true 4 [.agg [.bool s1,.vec f1 1 (x1.map (.int .u32)),.bool t1,.vec g1 1 (y1.map (.int .u32))],.agg [.bool s2,.vec f2 1 (x2.map (.int .u32)),.bool t2,.vec g2 1 (y2.map (.int .u32))],.agg [.bool s3,.vec f3 1 (x3.map (.int .u32)),.bool t3,.vec g3 1 (y3.map (.int .u32))]])] []) Q
def rFew0_at (s1 t1 f1 g1 s2 t2 f2 g2 s3 t3 f3 g3:Bool) (x1 y1 x2 y2 x3 y3:List Int) (Q:AV->Heap->Prop):Prop:=Wp M1 (.run fi51 (atC (cd Tryz.f51) [1,0,1,0,0]) [(0,.vec true 4 [.agg [.bool s1,.vec f1 1 (x1.map (.int .u32)),.bool t1,.vec g1 1 (y1.map (.int .u32))],.agg [.bool s2,.vec f2 1 (x2.map (.int .u32)),.bool t2,.vec g2 1 (y2.map (.int .u32))],.agg [.bool s3,.vec f3 1 (x3.map (.int .u32)),.bool t3,.vec g3 1 (y3.map (.int .u32))]]),(3,.int .i64 0)] []) Q
def rFew1_at (s1 t1 f1 g1 s2 t2 f2 g2 s3 t3 f3 g3:Bool) (x1 y1 x2 y2 x3 y3:List Int) (Q:AV->Heap->Prop):Prop:=Wp M1 (.run fi51 (atC (cd Tryz.f51) [1,0,1,0,0]) [(0,.vec true 4 [.agg [.bool s1,.vec f1 1 (x1.map (.int .u32)),.bool t1,.vec g1 1 (y1.map (.int .u32))],.agg [.bool s2,.vec f2 1 (x2.map (.int .u32)),.bool t2,.vec g2 1 (y2.map (.int .u32))],.agg [.bool s3,.vec f3 1 (x3.map (.int .u32)),.bool t3,.vec g3 1 (y3.map (.int .u32))]]),(3,.int .i64 1)] []) Q
def rFew2_at (s1 t1 f1 g1 s2 t2 f2 g2 s3 t3 f3 g3:Bool) (x1 y1 x2 y2 x3 y3:List Int) (Q:AV->Heap->Prop):Prop:=Wp M1 (.run fi51 (atC (cd Tryz.f51) [1,0,1,0,0]) [(0,.vec true 4 [.agg [.bool s1,.vec f1 1 (x1.map (.int .u32)),.bool t1,.vec g1 1 (y1.map (.int .u32))],.agg [.bool s2,.vec f2 1 (x2.map (.int .u32)),.bool t2,.vec g2 1 (y2.map (.int .u32))],.agg [.bool s3,.vec f3 1 (x3.map (.int .u32)),.bool t3,.vec g3 1 (y3.map (.int .u32))]]),(3,.int .i64 2)] []) Q
def rFew3_at (s1 t1 f1 g1 s2 t2 f2 g2 s3 t3 f3 g3:Bool) (x1 y1 x2 y2 x3 y3:List Int) (Q:AV->Heap->Prop):Prop:=Wp M1 (.run fi51 (atC (cd Tryz.f51) [1,0,1,0,0]) [(0,.vec true 4 [.agg [.bool s1,.vec f1 1 (x1.map (.int .u32)),.bool t1,.vec g1 1 (y1.map (.int .u32))],.agg [.bool s2,.vec f2 1 (x2.map (.int .u32)),.bool t2,.vec g2 1 (y2.map (.int .u32))],.agg [.bool s3,.vec f3 1 (x3.map (.int .u32)),.bool t3,.vec g3 1 (y3.map (.int .u32))]]),(3,.int .i64 3)] []) Q
theorem call23 {args:List AV} {d:AV} (h:wc M1 fi23 Tryz.f23 args d):Ev M1 (.pure 23 args) d []:=pcl _ _ (by kernel_rfl) h
theorem call46 {args:List AV} {d:AV} (h:wc M1 fi46 Tryz.f46 args d):Ev M1 (.pure 46 args) d []:=pcl _ _ (by kernel_rfl) h
theorem call49 {args:List AV} {d:AV} (h:wc M1 fi49 Tryz.f49 args d):Ev M1 (.pure 49 args) d []:=pcl _ _ (by kernel_rfl) h
theorem call51 {args:List AV} {d:AV} (h:wc M1 fi51 Tryz.f51 args d):Ev M1 (.pure 51 args) d []:=pcl _ _ (by kernel_rfl) h
theorem call93 {args:List AV} {d:AV} (h:wc M1 fi93 Tryz.f93 args d):Ev M1 (.pure 93 args) d []:=pcl _ _ (by kernel_rfl) h
theorem rCir9 (f1 f2 f3 f4 f5 f6 g1 g2 g3 g4 g5 g6:Bool) (a b c x y z:Rat)  (dq:AV) (H :
  (Sp.Zb5 a b c /\ Sp.Zb5 x y z) /\
  ((a = x /\ b = y) -> (Sp.okR c /\ Sp.okR z) /\
   ((Sp.sgnI (c.num * (↑z.den:Int) - z.num * (↑c.den:Int)) = 0) -> Weak (tu [AV.vnil,vi 10]) dq) /\
   (¬(Sp.sgnI (c.num * (↑z.den:Int) - z.num * (↑c.den:Int)) = 0) -> Weak (tu [AV.vnil,vi 0]) dq)) /\
  (¬(a = x /\ b = y) -> (Sp.Zgl (Sp.qi 2 * (x - a)) (Sp.qi 2 * (y - b)) (x * x + y * y - z - (a * a + b * b - c)) /\ Sp.ZdM a b /\ Sp.okT 30 c) /\
   Weak (tu [AV.vec false 20 (List.map Pnt.a (Sp.Zej (Sp.qi 2 * (x - a)) (Sp.qi 2 * (y - b)) (x * x + y * y - z - (a * a + b * b - c)) a b c)),vi 0]) dq)) :
 rCir9_at f1 f2 f3 f4 f5 f6 g1 g2 g3 g4 g5 g6 a b c x y z (Zag dq):=by
 unfold rCir9_at
 obtain ⟨k1,H⟩:=H
 refine Zae (G:=Zac kp23 [(1,2,.call (vb (decide (a = x /\ b = y))) none)] []) 5 [] ⟨(atC (cd Tryz.f23) [1,0,1]),[(2,AV.ptr 0 0 0 0),(3,AV.ptr 1 0 0 0),(10,vb (decide (a = x /\ b = y)))],[⟨[Zaq f1 f2 f3 f4 f5 f6 a b c],12,0,false,false⟩,⟨[Zaq g1 g2 g3 g4 g5 g6 x y z],12,0,false,false⟩],_,[],_⟩ (by kernel_rfl) (bc rfl (bc rfl b0)) q0 (ce (@ev26 (f1) (f2) (f3) (f4) (f5) (f6) (g1) (g2) (g3) (g4) (g5) (g6) (a) (b) (c) (x) (y) (z) k1) c0) ?_
 rcases xq H with ⟨d3,H⟩|⟨d3,H⟩
 ·obtain ⟨k4,H⟩:=H
  refine Zae (G:=Zac kp23 [(2,4,.call (vi (Sp.sgnI (c.num * (↑z.den:Int) - z.num * (↑c.den:Int)))) none)] []) 4 [true] ⟨(atC (cd Tryz.f23) [1,0,1,0,0,1]),[(16,vb (Sp.sgnI (c.num * (↑z.den:Int) - z.num * (↑c.den:Int)) == 0))],[⟨[Zaq f1 f2 f3 f4 f5 f6 a b c],12,0,false,false⟩,⟨[Zaq g1 g2 g3 g4 g5 g6 x y z],12,0,false,false⟩],_,[],_⟩ (by kernel_rfl) (bc (Zar (Zab.2 d3)) (bc rfl (bc rfl b0))) q0 (ce (@ev74 (f5) (f6) (g5) (g6) (c) (z) k4) c0) ?_
  rcases xq H with ⟨d6,H⟩|⟨d6,H⟩
  ·exact Zah (G:=Zac kp23 [] []) 1000 [true] (tu [AV.vnil,vi 10]) (by kernel_rfl) (bc (Zar (i_eq.2 d6)) b0) q0 c0 H
  ·exact Zah (G:=Zac kp23 [] []) 1000 [false] (tu [AV.vnil,vi 0]) (by kernel_rfl) (bc (Zan (fun h => d6 (i_eq.1 h))) b0) q0 c0 H
 ·obtain ⟨k7,H⟩:=H
  exact Zah (G:=Zac kp23 [(5,2,.call (tu [Zay (Sp.qi 2 * (x - a)) (Sp.qi 2 * (y - b)) (x * x + y * y - z - (a * a + b * b - c)),vi 0]) none),(6,2,.call (AV.vec false 20 (List.map Pnt.a (Sp.Zej (Sp.qi 2 * (x - a)) (Sp.qi 2 * (y - b)) (x * x + y * y - z - (a * a + b * b - c)) a b c))) none)] []) 1000 [false] (tu [AV.vec false 20 (List.map Pnt.a (Sp.Zej (Sp.qi 2 * (x - a)) (Sp.qi 2 * (y - b)) (x * x + y * y - z - (a * a + b * b - c)) a b c)),vi 0]) (by kernel_rfl) (bc (Zan (fun h => d3 (Zab.1 h))) (bc rfl (bc rfl (bc rfl (bc rfl (bc rfl b0)))))) q0 (ce (@ev31_n (f1) (f2) (f3) (f4) (f5) (f6) (g1) (g2) (g3) (g4) (g5) (g6) (a) (b) (c) (x) (y) (z) k1 d3) (ce (@ev18 (false) (false) (false) (false) (false) (false) (f1) (f2) (f3) (f4) (f5) (f6) (Sp.qi 2 * (x - a)) (Sp.qi 2 * (y - b)) (x * x + y * y - z - (a * a + b * b - c)) (a) (b) (c) k7) c0)) H
theorem rSame9 (u v:Bool) (l m:List Pnt)  (dq:AV) (H :
  ((¬(↑l.length:Int) = (↑m.length:Int)) -> vb false = dq) /\
  (¬(¬(↑l.length:Int) = (↑m.length:Int)) -> Zdf (u) (v) (l) (m) (0) (Zag dq))) :
 rSame9_at u v l m (Zag dq):=by
 unfold rSame9_at
 have w1:(List.map Pnt.a l).length = l.length:=List.length_map ..
 have w2:(List.map Pnt.a m).length = m.length:=List.length_map ..
 have i3:((↑(List.map Pnt.a l).length:Int) != (↑(List.map Pnt.a m).length:Int)) = true ↔ (¬(↑l.length:Int) = (↑m.length:Int)):=(by (try rw [w1]);(try rw [w2]);all_goals exact i_ne)
 rcases xq H with ⟨d4,H⟩|⟨d4,H⟩
 ·exact Zao (G:=Zac kp49 [] []) 1000 [true] (vb false) (by kernel_rfl) (bc (Zar (i3.2 d4)) b0) q0 c0 H
 ·exact Zae (G:=Zac kp49 [] []) 1000 [false] ⟨(atC (cd Tryz.f49) [1,1,0,1,0,0]),[(0,AV.vec u 20 (List.map Pnt.a l)),(1,AV.vec v 20 (List.map Pnt.a m)),(5,vi 0)],[],_,[],_⟩ (by kernel_rfl) (bc (Zan (fun h => d4 (i3.1 h))) b0) q0 c0 (H)
noncomputable abbrev zNmG1 (l:List Pnt) (i:Int):=(Pnt.a (l.getD i.toNat default))
noncomputable abbrev zNmG2 (m:List Pnt) (i:Int):=(Pnt.a (m.getD i.toNat default))
theorem rSame9H (u v:Bool) (l m:List Pnt) (i:Int)  (dq:AV) (H :
  ((i < (↑l.length:Int)) -> (Sp.ZeZ (l.getD i.toNat default) /\ Sp.ZeZ (m.getD i.toNat default)) /\
   (0 <= i) /\
   (i.toNat < l.length) /\
   (i.toNat < m.length) /\
   ((¬(Sp.ZfV (l.getD i.toNat default) (m.getD i.toNat default) = 0)) -> vb false = dq) /\
   (¬(¬(Sp.ZfV (l.getD i.toNat default) (m.getD i.toNat default) = 0)) -> (-9223372036854775808 <= i + 1 /\ i + 1 <= 9223372036854775807) /\
    Zdf (u) (v) (l) (m) (i + 1) (Zag dq))) /\
  (¬(i < (↑l.length:Int)) -> vb true = dq)) :
 Zdf u v l m i (Zag dq):=by
 unfold Zdf
 have w1:(List.map Pnt.a l).length = l.length:=List.length_map ..
 have i2:(decide (i < (↑(List.map Pnt.a l).length:Int))) = true ↔ (i < (↑l.length:Int)):=(by (try rw [w1]);all_goals exact Zab)
 rcases xq H with ⟨d3,H⟩|⟨d3,H⟩
 ·obtain ⟨k4,k6,H⟩:=H
  have i7:(decide (i.toNat < (List.map Pnt.a l).length)) = true ↔ (i.toNat < l.length):=(by (try rw [w1]);all_goals exact Zab)
  obtain ⟨k8,H⟩:=H
  have w10:(List.map Pnt.a m).length = m.length:=List.length_map ..
  have i11:(decide (i.toNat < (List.map Pnt.a m).length)) = true ↔ (i.toNat < m.length):=(by (try rw [w10]);all_goals exact Zab)
  obtain ⟨k12,H⟩:=H
  refine Zae (G:=Zac kp49 [(6,3,.elem (zNmG1 l i)),(6,7,.elem (zNmG2 m i)),(6,8,.call (vb (decide (Sp.ZfV (l.getD i.toNat default) (m.getD i.toNat default) = 0))) none)] []) 9 [true] ⟨(atC (cd Tryz.f49) [1,1,0,1,0,0,1,0,0,1]),[(0,AV.vec u 20 (List.map Pnt.a l)),(1,AV.vec v 20 (List.map Pnt.a m)),(5,vi i),(26,vb !decide (Sp.ZfV (l.getD i.toNat default) (m.getD i.toNat default) = 0))],[],_,[((List.map Pnt.a l).get?Internal i.toNat = some (zNmG1 l i)),((List.map Pnt.a m).get?Internal i.toNat = some (zNmG2 m i))],_⟩ (by kernel_rfl) (bc (Zar (i2.2 d3)) (bc (Zab.2 k6) (bc (i7.2 k8) (bc (Zab.2 k6) (bc (i11.2 k12) b0))))) (qc (Zav k8) (qc (Zav k12) q0)) (ce (@ev37 (false) (false) (false) (false) (false) (false) (false) (false) (false) (false) (false) (false) (false) (false) (false) (false) (false) (false) (false) (false) ((l.getD i.toNat default).ax) ((l.getD i.toNat default).bx) ((l.getD i.toNat default).ay) ((l.getD i.toNat default).by_) ((l.getD i.toNat default).c) ((m.getD i.toNat default).ax) ((m.getD i.toNat default).bx) ((m.getD i.toNat default).ay) ((m.getD i.toNat default).by_) ((m.getD i.toNat default).c) k4) c0) ?_
  rcases xq H with ⟨d14,H⟩|⟨d14,H⟩
  ·exact Zao (G:=Zac kp49 [] []) 1000 [true] (vb false) (by kernel_rfl) (bc (Zar ((ZaQ Zab).2 d14)) b0) q0 c0 H
  ·obtain ⟨k15,H⟩:=H
   have w16:wi (i + 1) = i + 1:=wI64 k15
   exact Zae (G:=Zac kp49 [] []) 1000 [false] ⟨(atC (cd Tryz.f49) [1,1,0,1,0,0]),[(0,AV.vec u 20 (List.map Pnt.a l)),(1,AV.vec v 20 (List.map Pnt.a m)),(5,vi (wi (i + 1)))],[],_,[],_⟩ (by kernel_rfl) (bc (Zan (fun h => d14 ((ZaQ Zab).1 h))) b0) q0 c0 (by (try rw [w16]);all_goals exact H)
 ·exact Zao (G:=Zac kp49 [] []) 1000 [false] (vb true) (by kernel_rfl) (bc (Zan (fun h => d3 (i2.1 h))) b0) q0 c0 H
theorem wNum (a:Int)  (dq:AV) (H :
  (Sp.inI a) /\
  Weak (ratF (Sp.qi a)) dq) :
 wNum_at a (Zag dq):=by
 unfold wNum_at
 obtain ⟨k1,H⟩:=H
 exact Zah (G:=Zac kp46 [(1,1,.call (ratF (Sp.qi a)) none)] []) 1000 [] (ratF (Sp.qi a)) (by kernel_rfl) (bc rfl b0) q0 (ce (@ev84 (a) k1) c0) H
theorem rVec7 (a b:Int)  (dq:AV) (H :
  (Sp.inI a) /\
  (Sp.inI b) /\
  Weak ((vecF (Sp.qi a) (Sp.qi b))) dq) :
 rVec7_at a b (Zag dq):=by
 unfold rVec7_at
 obtain ⟨k1,k2,H⟩:=H
 exact Zah (G:=Zac kp93 [(1,1,.call (ratF (Sp.qi a)) none),(1,3,.call (ratF (Sp.qi b)) none)] []) 1000 [] ((vecF (Sp.qi a) (Sp.qi b))) (by kernel_rfl) (bc rfl b0) q0 (ce (@ev84 (a) k1) (ce (@ev84 (b) k2) c0)) H
theorem rFew (s1 t1 f1 g1 s2 t2 f2 g2 s3 t3 f3 g3:Bool) (x1 y1 x2 y2 x3 y3:List Int)  (dq:AV) (H :
  rFew0_at (s1) (t1) (f1) (g1) (s2) (t2) (f2) (g2) (s3) (t3) (f3) (g3) (x1) (y1) (x2) (y2) (x3) (y3) (Zag dq)) :
 rFew_at s1 t1 f1 g1 s2 t2 f2 g2 s3 t3 f3 g3 x1 y1 x2 y2 x3 y3 (Zag dq):=by
 unfold rFew_at
 exact Zae (G:=Zac kp51 [] []) 1000 [] ⟨(atC (cd Tryz.f51) [1,0,1,0,0]),[(0,AV.vec true 4 [ag [vb s1,AV.vec f1 1 (us x1),vb t1,AV.vec g1 1 (us y1)],ag [vb s2,AV.vec f2 1 (us x2),vb t2,AV.vec g2 1 (us y2)],ag [vb s3,AV.vec f3 1 (us x3),vb t3,AV.vec g3 1 (us y3)]]),(3,vi 0)],[],_,[],_⟩ (by kernel_rfl) b0 q0 c0 (H)
noncomputable abbrev zNmG3 (s1:Bool) (f1:Bool) (x1:List Int) (t1:Bool) (g1:Bool) (y1:List Int):=ag [vb s1,AV.vec f1 1 (us x1),vb t1,AV.vec g1 1 (us y1)]
theorem rFew0 (s1 t1 f1 g1 s2 t2 f2 g2 s3 t3 f3 g3:Bool) (x1 y1 x2 y2 x3 y3:List Int)  (dq:AV) (H :
  ((¬(((↑x1.length:Int) > 2) \/ ((↑y1.length:Int) > 2))) -> (Sp.okA x1 y1)) /\
  (((((↑x1.length:Int) > 2) \/ ((↑y1.length:Int) > 2)) \/ (¬(Sp.Zc3 s1 x1 t1 y1 = true))) -> vb false = dq) /\
  (¬((((↑x1.length:Int) > 2) \/ ((↑y1.length:Int) > 2)) \/ (¬(Sp.Zc3 s1 x1 t1 y1 = true))) -> rFew1_at (s1) (t1) (f1) (g1) (s2) (t2) (f2) (g2) (s3) (t3) (f3) (g3) (x1) (y1) (x2) (y2) (x3) (y3) (Zag dq))) :
 rFew0_at s1 t1 f1 g1 s2 t2 f2 g2 s3 t3 f3 g3 x1 y1 x2 y2 x3 y3 (Zag dq):=by
 unfold rFew0_at
 have w1:(us x1).length = x1.length:=List.length_map ..
 have w2:(us y1).length = y1.length:=List.length_map ..
 have i3:((bif decide ((↑(us x1).length:Int) > 2) then true else decide ((↑(us y1).length:Int) > 2)) == false && true && true) = true ↔ (¬(((↑x1.length:Int) > 2) \/ ((↑y1.length:Int) > 2))):=(by (try rw [w1]);(try rw [w2]);all_goals exact (i_at (i_at (i_bf (Za2 Zab Zab)))))
 obtain ⟨k4,H⟩:=H
 have i5:(bif bif decide ((↑(us x1).length:Int) > 2) then true else decide ((↑(us y1).length:Int) > 2) then true else !Sp.Zc3 s1 x1 t1 y1) = true ↔ ((((↑x1.length:Int) > 2) \/ ((↑y1.length:Int) > 2)) \/ (¬(Sp.Zc3 s1 x1 t1 y1 = true))):=(by (try rw [w1]);(try rw [w2]);all_goals exact (Za2 (Za2 Zab Zab) (ZaQ (ZaH _))))
 refine Zae (G:=Zac kp51 [(4,23,.call (vb (Sp.Zc3 s1 x1 t1 y1)) none)] []) 9 [true] ⟨(atC (cd Tryz.f51) [1,0,1,0,0,1,0,0,1]),[(0,AV.vec true 4 [(zNmG3 s1 f1 x1 t1 g1 y1),ag [vb s2,AV.vec f2 1 (us x2),vb t2,AV.vec g2 1 (us y2)],ag [vb s3,AV.vec f3 1 (us x3),vb t3,AV.vec g3 1 (us y3)]]),(3,vi 0),(35,vb (bif bif decide ((↑(us x1).length:Int) > 2) then true else decide ((↑(us y1).length:Int) > 2) then true else !Sp.Zc3 s1 x1 t1 y1))],[],[true == true,true,true,!(decide ((↑(us x1).length:Int) > 2) == false && true) || true,!(decide ((↑(us x1).length:Int) > 2) == false && true) || true,!((bif decide ((↑(us x1).length:Int) > 2) then true else decide ((↑(us y1).length:Int) > 2)) == false && true) || true,!((bif decide ((↑(us x1).length:Int) > 2) then true else decide ((↑(us y1).length:Int) > 2)) == false && true) || true],[],[⟨(bif decide ((↑(us x1).length:Int) > 2) then true else decide ((↑(us y1).length:Int) > 2)) == false && true && true,false,27,[(zNmG3 s1 f1 x1 t1 g1 y1)],[],vb (Sp.Zc3 s1 x1 t1 y1),[]⟩]⟩ (by kernel_rfl) (bc rfl (bc rfl (bc rfl (bc (Bool.or_true _) (bc (Bool.or_true _) (bc (Bool.or_true _) (bc (Bool.or_true _) b0))))))) q0 (cc (fun hc => ((@ev27 (s1) (f1) (t1) (g1) (x1) (y1) (k4 (i3.1 hc))):Ev M1 (Conf.pure 27 [(zNmG3 s1 f1 x1 t1 g1 y1)]) (vb (Sp.Zc3 s1 x1 t1 y1)) [])) c0) ?_
 rcases xq H with ⟨d6,H⟩|⟨d6,H⟩
 ·exact Zao (G:=Zac kp51 [] []) 1000 [true] (vb false) (by kernel_rfl) (bc (Zar (i5.2 d6)) b0) q0 c0 H
 ·exact Zae (G:=Zac kp51 [] []) 1000 [false] ⟨(atC (cd Tryz.f51) [1,0,1,0,0]),[(0,AV.vec true 4 [(zNmG3 s1 f1 x1 t1 g1 y1),ag [vb s2,AV.vec f2 1 (us x2),vb t2,AV.vec g2 1 (us y2)],ag [vb s3,AV.vec f3 1 (us x3),vb t3,AV.vec g3 1 (us y3)]]),(3,vi 1)],[],_,[],_⟩ (by kernel_rfl) (bc (Zan (fun h => d6 (i5.1 h))) b0) q0 c0 (H)
noncomputable abbrev zNmG4 (s2:Bool) (f2:Bool) (x2:List Int) (t2:Bool) (g2:Bool) (y2:List Int):=ag [vb s2,AV.vec f2 1 (us x2),vb t2,AV.vec g2 1 (us y2)]
theorem rFew1 (s1 t1 f1 g1 s2 t2 f2 g2 s3 t3 f3 g3:Bool) (x1 y1 x2 y2 x3 y3:List Int)  (dq:AV) (H :
  ((¬(((↑x2.length:Int) > 2) \/ ((↑y2.length:Int) > 2))) -> (Sp.okA x2 y2)) /\
  (((((↑x2.length:Int) > 2) \/ ((↑y2.length:Int) > 2)) \/ (¬(Sp.Zc3 s2 x2 t2 y2 = true))) -> vb false = dq) /\
  (¬((((↑x2.length:Int) > 2) \/ ((↑y2.length:Int) > 2)) \/ (¬(Sp.Zc3 s2 x2 t2 y2 = true))) -> rFew2_at (s1) (t1) (f1) (g1) (s2) (t2) (f2) (g2) (s3) (t3) (f3) (g3) (x1) (y1) (x2) (y2) (x3) (y3) (Zag dq))) :
 rFew1_at s1 t1 f1 g1 s2 t2 f2 g2 s3 t3 f3 g3 x1 y1 x2 y2 x3 y3 (Zag dq):=by
 unfold rFew1_at
 have w1:(us x2).length = x2.length:=List.length_map ..
 have w2:(us y2).length = y2.length:=List.length_map ..
 have i3:((bif decide ((↑(us x2).length:Int) > 2) then true else decide ((↑(us y2).length:Int) > 2)) == false && true && true) = true ↔ (¬(((↑x2.length:Int) > 2) \/ ((↑y2.length:Int) > 2))):=(by (try rw [w1]);(try rw [w2]);all_goals exact (i_at (i_at (i_bf (Za2 Zab Zab)))))
 obtain ⟨k4,H⟩:=H
 have i5:(bif bif decide ((↑(us x2).length:Int) > 2) then true else decide ((↑(us y2).length:Int) > 2) then true else !Sp.Zc3 s2 x2 t2 y2) = true ↔ ((((↑x2.length:Int) > 2) \/ ((↑y2.length:Int) > 2)) \/ (¬(Sp.Zc3 s2 x2 t2 y2 = true))):=(by (try rw [w1]);(try rw [w2]);all_goals exact (Za2 (Za2 Zab Zab) (ZaQ (ZaH _))))
 refine Zae (G:=Zac kp51 [(4,23,.call (vb (Sp.Zc3 s2 x2 t2 y2)) none)] []) 9 [true] ⟨(atC (cd Tryz.f51) [1,0,1,0,0,1,0,0,1]),[(0,AV.vec true 4 [ag [vb s1,AV.vec f1 1 (us x1),vb t1,AV.vec g1 1 (us y1)],(zNmG4 s2 f2 x2 t2 g2 y2),ag [vb s3,AV.vec f3 1 (us x3),vb t3,AV.vec g3 1 (us y3)]]),(3,vi 1),(35,vb (bif bif decide ((↑(us x2).length:Int) > 2) then true else decide ((↑(us y2).length:Int) > 2) then true else !Sp.Zc3 s2 x2 t2 y2))],[],[true == true,true,true,!(decide ((↑(us x2).length:Int) > 2) == false && true) || true,!(decide ((↑(us x2).length:Int) > 2) == false && true) || true,!((bif decide ((↑(us x2).length:Int) > 2) then true else decide ((↑(us y2).length:Int) > 2)) == false && true) || true,!((bif decide ((↑(us x2).length:Int) > 2) then true else decide ((↑(us y2).length:Int) > 2)) == false && true) || true],[],[⟨(bif decide ((↑(us x2).length:Int) > 2) then true else decide ((↑(us y2).length:Int) > 2)) == false && true && true,false,27,[(zNmG4 s2 f2 x2 t2 g2 y2)],[],vb (Sp.Zc3 s2 x2 t2 y2),[]⟩]⟩ (by kernel_rfl) (bc rfl (bc rfl (bc rfl (bc (Bool.or_true _) (bc (Bool.or_true _) (bc (Bool.or_true _) (bc (Bool.or_true _) b0))))))) q0 (cc (fun hc => ((@ev27 (s2) (f2) (t2) (g2) (x2) (y2) (k4 (i3.1 hc))):Ev M1 (Conf.pure 27 [(zNmG4 s2 f2 x2 t2 g2 y2)]) (vb (Sp.Zc3 s2 x2 t2 y2)) [])) c0) ?_
 rcases xq H with ⟨d6,H⟩|⟨d6,H⟩
 ·exact Zao (G:=Zac kp51 [] []) 1000 [true] (vb false) (by kernel_rfl) (bc (Zar (i5.2 d6)) b0) q0 c0 H
 ·exact Zae (G:=Zac kp51 [] []) 1000 [false] ⟨(atC (cd Tryz.f51) [1,0,1,0,0]),[(0,AV.vec true 4 [ag [vb s1,AV.vec f1 1 (us x1),vb t1,AV.vec g1 1 (us y1)],(zNmG4 s2 f2 x2 t2 g2 y2),ag [vb s3,AV.vec f3 1 (us x3),vb t3,AV.vec g3 1 (us y3)]]),(3,vi 2)],[],_,[],_⟩ (by kernel_rfl) (bc (Zan (fun h => d6 (i5.1 h))) b0) q0 c0 (H)
noncomputable abbrev zNmG5 (s3:Bool) (f3:Bool) (x3:List Int) (t3:Bool) (g3:Bool) (y3:List Int):=ag [vb s3,AV.vec f3 1 (us x3),vb t3,AV.vec g3 1 (us y3)]
theorem rFew2 (s1 t1 f1 g1 s2 t2 f2 g2 s3 t3 f3 g3:Bool) (x1 y1 x2 y2 x3 y3:List Int)  (dq:AV) (H :
  ((¬(((↑x3.length:Int) > 2) \/ ((↑y3.length:Int) > 2))) -> (Sp.okA x3 y3)) /\
  (((((↑x3.length:Int) > 2) \/ ((↑y3.length:Int) > 2)) \/ (¬(Sp.Zc3 s3 x3 t3 y3 = true))) -> vb false = dq) /\
  (¬((((↑x3.length:Int) > 2) \/ ((↑y3.length:Int) > 2)) \/ (¬(Sp.Zc3 s3 x3 t3 y3 = true))) -> rFew3_at (s1) (t1) (f1) (g1) (s2) (t2) (f2) (g2) (s3) (t3) (f3) (g3) (x1) (y1) (x2) (y2) (x3) (y3) (Zag dq))) :
 rFew2_at s1 t1 f1 g1 s2 t2 f2 g2 s3 t3 f3 g3 x1 y1 x2 y2 x3 y3 (Zag dq):=by
 unfold rFew2_at
 have w1:(us x3).length = x3.length:=List.length_map ..
 have w2:(us y3).length = y3.length:=List.length_map ..
 have i3:((bif decide ((↑(us x3).length:Int) > 2) then true else decide ((↑(us y3).length:Int) > 2)) == false && true && true) = true ↔ (¬(((↑x3.length:Int) > 2) \/ ((↑y3.length:Int) > 2))):=(by (try rw [w1]);(try rw [w2]);all_goals exact (i_at (i_at (i_bf (Za2 Zab Zab)))))
 obtain ⟨k4,H⟩:=H
 have i5:(bif bif decide ((↑(us x3).length:Int) > 2) then true else decide ((↑(us y3).length:Int) > 2) then true else !Sp.Zc3 s3 x3 t3 y3) = true ↔ ((((↑x3.length:Int) > 2) \/ ((↑y3.length:Int) > 2)) \/ (¬(Sp.Zc3 s3 x3 t3 y3 = true))):=(by (try rw [w1]);(try rw [w2]);all_goals exact (Za2 (Za2 Zab Zab) (ZaQ (ZaH _))))
 refine Zae (G:=Zac kp51 [(4,23,.call (vb (Sp.Zc3 s3 x3 t3 y3)) none)] []) 9 [true] ⟨(atC (cd Tryz.f51) [1,0,1,0,0,1,0,0,1]),[(0,AV.vec true 4 [ag [vb s1,AV.vec f1 1 (us x1),vb t1,AV.vec g1 1 (us y1)],ag [vb s2,AV.vec f2 1 (us x2),vb t2,AV.vec g2 1 (us y2)],(zNmG5 s3 f3 x3 t3 g3 y3)]),(3,vi 2),(35,vb (bif bif decide ((↑(us x3).length:Int) > 2) then true else decide ((↑(us y3).length:Int) > 2) then true else !Sp.Zc3 s3 x3 t3 y3))],[],[true == true,true,true,!(decide ((↑(us x3).length:Int) > 2) == false && true) || true,!(decide ((↑(us x3).length:Int) > 2) == false && true) || true,!((bif decide ((↑(us x3).length:Int) > 2) then true else decide ((↑(us y3).length:Int) > 2)) == false && true) || true,!((bif decide ((↑(us x3).length:Int) > 2) then true else decide ((↑(us y3).length:Int) > 2)) == false && true) || true],[],[⟨(bif decide ((↑(us x3).length:Int) > 2) then true else decide ((↑(us y3).length:Int) > 2)) == false && true && true,false,27,[(zNmG5 s3 f3 x3 t3 g3 y3)],[],vb (Sp.Zc3 s3 x3 t3 y3),[]⟩]⟩ (by kernel_rfl) (bc rfl (bc rfl (bc rfl (bc (Bool.or_true _) (bc (Bool.or_true _) (bc (Bool.or_true _) (bc (Bool.or_true _) b0))))))) q0 (cc (fun hc => ((@ev27 (s3) (f3) (t3) (g3) (x3) (y3) (k4 (i3.1 hc))):Ev M1 (Conf.pure 27 [(zNmG5 s3 f3 x3 t3 g3 y3)]) (vb (Sp.Zc3 s3 x3 t3 y3)) [])) c0) ?_
 rcases xq H with ⟨d6,H⟩|⟨d6,H⟩
 ·exact Zao (G:=Zac kp51 [] []) 1000 [true] (vb false) (by kernel_rfl) (bc (Zar (i5.2 d6)) b0) q0 c0 H
 ·exact Zae (G:=Zac kp51 [] []) 1000 [false] ⟨(atC (cd Tryz.f51) [1,0,1,0,0]),[(0,AV.vec true 4 [ag [vb s1,AV.vec f1 1 (us x1),vb t1,AV.vec g1 1 (us y1)],ag [vb s2,AV.vec f2 1 (us x2),vb t2,AV.vec g2 1 (us y2)],(zNmG5 s3 f3 x3 t3 g3 y3)]),(3,vi 3)],[],_,[],_⟩ (by kernel_rfl) (bc (Zan (fun h => d6 (i5.1 h))) b0) q0 c0 (H)
theorem rFew3 (s1 t1 f1 g1 s2 t2 f2 g2 s3 t3 f3 g3:Bool) (x1 y1 x2 y2 x3 y3:List Int)  (dq:AV) (H :
  vb true = dq) :
 rFew3_at s1 t1 f1 g1 s2 t2 f2 g2 s3 t3 f3 g3 x1 y1 x2 y2 x3 y3 (Zag dq):=by
 unfold rFew3_at
 exact Zao (G:=Zac kp51 [] []) 1000 [false] (vb true) (by kernel_rfl) (bc rfl b0) q0 c0 H
end Go.Av

namespace Go.Av
open Go.Proofs
theorem ev23 (f1 f2 f3 f4 f5 f6 g1 g2 g3 g4 g5 g6:Bool) (a b c x y z:Rat) (h:Sp.Zg3 a b c /\ Sp.Zg3 x y z):Ev M1 (.pure 23 [Zaq f1 f2 f3 f4 f5 f6 a b c,Zaq g1 g2 g3 g4 g5 g6 x y z]) (.tup [.vec false 20 ((Sp.cirR a b c x y z).map Pnt.a),.int .i64 (Sp.Zdk a b c x y z)]) []:=by
 obtain ⟨h1,h2⟩:=h
 have t1:=Zek h1
 refine call23 (rCir9 _ _ _ _ _ _ _ _ _ _ _ _ _ _ _ _ _ _ _ ⟨⟨t1,Zek h2⟩,fun k => ⟨⟨Zaj h1.2.2 (by omega),Zaj h2.2.2 (by omega)⟩,fun j => ?_,fun j => ?_⟩,fun j => ⟨⟨rd_ln h1 h2 j,⟨t1.1,t1.2.1⟩,t1.2.2⟩,?_⟩⟩)
 ·rw [cross] at j
  rw [show Sp.cirR a b c x y z = [] from if_pos k,show Sp.Zdk a b c x y z = 10 by unfold Sp.Zdk;rw [if_pos k,if_pos j]]
  exact ZcF _
 ·rw [cross] at j
  rw [show Sp.cirR a b c x y z = [] from if_pos k,show Sp.Zdk a b c x y z = 0 by unfold Sp.Zdk;rw [if_pos k,if_neg j]]
  exact ZcF _
 ·rw [show Sp.cirR a b c x y z = Sp.Zej (Sp.rdA a x) (Sp.rdA b y) (Sp.rdC a b c x y z) a b c from if_neg j,show Sp.Zdk a b c x y z = 0 by unfold Sp.Zdk;rw [if_neg j]]
  exact .refl _
theorem eqL_cons (p q:Pnt) (l m:List Pnt):Sp.eqL (p::l) (q::m)=bif decide (Sp.ZfV p q=0) then Sp.eqL l m else false:=rfl
theorem eqL_len:∀ {l m:List Pnt},l.length ≠ m.length -> Sp.eqL l m = false
 | [],[],h => absurd rfl h
 | [],q :: m,_ => rfl
 | p :: l,[],_ => rfl
 | p :: l,q :: m,h => by
  rw [eqL_cons,eqL_len (l:=l) (m:=m) (by simpa using h)]
  cases decide (Sp.ZfV p q = 0) <;> rfl
theorem same_loop {u v:Bool} {l m:List Pnt} {dq:AV} (h:Sp.okPL l) (g:Sp.okPL m) (e:l.length = m.length) (k:Nat):∀ (i:Nat),i + k = l.length -> AV.bool (Sp.eqL (l.drop i) (m.drop i)) = dq -> Zdf u v l m i (Zag dq):=by
 have hl:=h.2
 induction k with
 | zero =>
  intro i e2 hq
  refine rSame9H _ _ _ _ _ _ ⟨fun x => by omega,fun _ => ?_⟩
  rw [List.drop_eq_nil_of_le (by omega),List.drop_eq_nil_of_le (by omega)] at hq
  exact hq
 | succ k ih =>
  intro i e2 hq
  rw [ZcS (d:=l) (i:=i) (by omega),ZcS (d:=m) (i:=i) (by omega),eqL_cons] at hq
  have p1:=h.1 _ (ZfQ (d:=l) (i:=i) (by omega))
  have p2:=g.1 _ (ZfQ (d:=m) (i:=i) (by omega))
  have nx:=ih (i + 1) (by omega)
  refine rSame9H _ _ _ _ _ _ ⟨fun x => ?_,fun x => by omega⟩
  rw [Int.toNat_natCast,show (i:Int) + 1 = ((i + 1:Nat):Int) by omega]
  refine ⟨⟨p1,p2⟩,by omega,by omega,by omega,fun y => ?_,fun y => ⟨by omega,nx ?_⟩⟩
  ·rw [decide_eq_false y] at hq;exact hq
  ·rw [decide_eq_true (Classical.not_not.1 y)] at hq;exact hq
theorem ev49 (u v:Bool) (l m:List Pnt) (h:Sp.okPL l /\ Sp.okPL m):Ev M1 (.pure 49 [.vec u 20 (l.map Pnt.a),.vec v 20 (m.map Pnt.a)]) (.bool (Sp.eqL l m)) []:=by
 refine call49 (rSame9 _ _ _ _ _ ⟨fun k => ?_,fun k => ?_⟩)
 ·rw [eqL_len (by omega)]
 ·exact same_loop h.1 h.2 (by omega) l.length 0 (by omega) rfl
theorem ev46 (a:Int) (h:Sp.inI a):Ev M1 (.pure 46 [.int .i64 a]) (ratF (Sp.qi a)) []:=
 call46 (wNum _ _ ⟨h,.refl _⟩)
theorem ev93 (a b:Int) (h:Sp.inI a /\ Sp.inI b):Ev M1 (.pure 93 [.int .i64 a,.int .i64 b]) (vecF (Sp.qi a) (Sp.qi b)) []:=
 call93 (rVec7 _ _ _ ⟨h.1,h.2,.refl _⟩)
noncomputable def Sp.few3 (s1 t1 s2 t2 s3 t3:Bool) (x1 y1 x2 y2 x3 y3:List Int):Bool:=Zbc 2 s1 x1 t1 y1&&Zbc 2 s2 x2 t2 y2&&Zbc 2 s3 x3 t3 y3
def Sp.okRw (x1 y1 x2 y2 x3 y3:List Int):Prop:=((∀ v ∈ x1,0<=v) /\ ∀ v ∈ y1,0<=v)/\((∀ v ∈ x2,0<=v) /\ ∀ v ∈ y2,0<=v)/\(∀ v ∈ x3,0<=v) /\ ∀ v ∈ y3,0<=v
theorem small_y {s t:Bool} {x y:List Int} (h:¬((((x.length:Int) > 2) \/ ((y.length:Int) > 2)) \/ (¬(Sp.Zc3 s x t y = true)))):Sp.Zbc 2 s x t y = true:=by
 unfold Sp.Zbc
 rw [decide_eq_true (by omega),decide_eq_true (by omega),cond_true,cond_true]
 exact Classical.not_not.1 fun k => h (.inr k)
theorem small_n {s t:Bool} {x y:List Int} (h:(((x.length:Int) > 2) \/ ((y.length:Int) > 2)) \/ (¬(Sp.Zc3 s x t y = true))):Sp.Zbc 2 s x t y = false:=by
 rcases Bool.eq_false_or_eq_true (Sp.Zbc 2 s x t y) with k | k
 ·have:=Zhk.1 k
  rcases h with h | h
  ·omega
  ·exact absurd (ZeA.2 this.2.2) h
 ·exact k
theorem Zf6 {x y:List Int} (h:(∀ v ∈ x,0<=v) /\ ∀ v ∈ y,0<=v) (k:¬(((x.length:Int)>2)\/((y.length:Int)>2))):Sp.okA x y:=⟨⟨by omega,h.1⟩,⟨by omega,h.2⟩⟩
theorem ev51 (s1 t1 f1 g1 s2 t2 f2 g2 s3 t3 f3 g3:Bool) (x1 y1 x2 y2 x3 y3:List Int) (h:Sp.okRw x1 y1 x2 y2 x3 y3):Ev M1 (.pure 51 [.vec true 4 [.agg [.bool s1,.vec f1 1 (x1.map (.int .u32)),.bool t1,.vec g1 1 (y1.map (.int .u32))],.agg [.bool s2,.vec f2 1 (x2.map (.int .u32)),.bool t2,.vec g2 1 (y2.map (.int .u32))],.agg [.bool s3,.vec f3 1 (x3.map (.int .u32)),.bool t3,.vec g3 1 (y3.map (.int .u32))]]]) (.bool (Sp.few3 s1 t1 s2 t2 s3 t3 x1 y1 x2 y2 x3 y3)) []:=by
 obtain ⟨h1,h2,h3⟩:=h
 unfold Sp.few3
 refine call51 (rFew _ _ _ _ _ _ _ _ _ _ _ _ _ _ _ _ _ _ _ (rFew0 _ _ _ _ _ _ _ _ _ _ _ _ _ _ _ _ _ _ _ ⟨Zf6 h1,fun k => ?_,fun k1 => rFew1 _ _ _ _ _ _ _ _ _ _ _ _ _ _ _ _ _ _ _ ⟨Zf6 h2,fun k => ?_,fun k2 => rFew2 _ _ _ _ _ _ _ _ _ _ _ _ _ _ _ _ _ _ _ ⟨Zf6 h3,fun k => ?_,fun k3 => rFew3 _ _ _ _ _ _ _ _ _ _ _ _ _ _ _ _ _ _ _ ?_⟩⟩⟩))
 ·rw [small_n k];rfl
 ·rw [small_n k,Bool.and_false];rfl
 ·rw [small_n k,Bool.and_false]
 ·rw [small_y k1,small_y k2,small_y k3];rfl
end Go.Av

namespace Go.Av
open Go.Proofs
set_option maxRecDepth 100000
def fi16:Fi:=⟨17,[.tmp 2]⟩
def kp16:List (Nat × List Nat):=[(0,[1]),(1,[2])]
def fi47:Fi:=⟨14,[.cell 6 28]⟩
def kp47:List (Nat × List Nat):=[(0,[0,1,2,6]),(1,[6])]
def fi48:Fi:=⟨14,[.cell 6 38]⟩
def kp48:List (Nat × List Nat):=[(0,[0,1,2,6]),(1,[6])]
def fi50:Fi:=⟨9,[.cell 4 56]⟩
def kp50:List (Nat × List Nat):=[(0,[0,1,4]),(1,[4])]
def wLine_at (a b c:Int) (Q:AV->Heap->Prop):Prop:=Wp M1 (.run fi47 (atC (cd Tryz.f47) []) [(0,.int .i64 a),(1,.int .i64 b),(2,.int .i64 c)] []) Q
def wCirc_at (a b c:Int) (Q:AV->Heap->Prop):Prop:=Wp M1 (.run fi48 (atC (cd Tryz.f48) []) [(0,.int .i64 a),(1,.int .i64 b),(2,.int .i64 c)] []) Q
def wAt_at (a b:Int) (Q:AV->Heap->Prop):Prop:=Wp M1 (.run fi50 (atC (cd Tryz.f50) []) [(0,.int .i64 a),(1,.int .i64 b)] []) Q
def rCirc_at (f1 f2 f3 f4 f5 f6:Bool) (a b c:Rat) (Q:AV->Heap->Prop):Prop:=Wp M1 (.run fi16 (atC (cd Tryz.f16) []) [(0,Zaq f1 f2 f3 f4 f5 f6 a b c)] []) Q
def rCircR_at (s1 t1 f1 g1 s2 t2 f2 g2 s3 t3 f3 g3:Bool) (x1 y1 x2 y2 x3 y3:List Int) (Q:AV->Heap->Prop):Prop:=Wp M1 (.run fi16 (atC (cd Tryz.f16) []) [(0,.agg [.bool s1,.vec f1 1 (x1.map (.int .u32)),.bool t1,.vec g1 1 (y1.map (.int .u32)),.bool s2,.vec f2 1 (x2.map (.int .u32)),.bool t2,.vec g2 1 (y2.map (.int .u32)),.bool s3,.vec f3 1 (x3.map (.int .u32)),.bool t3,.vec g3 1 (y3.map (.int .u32))])] []) Q
theorem call16 {args:List AV} {d:AV} (h:wc M1 fi16 Tryz.f16 args d):Ev M1 (.pure 16 args) d []:=pcl _ _ (by kernel_rfl) h
theorem call47 {args:List AV} {d:AV} (h:wc M1 fi47 Tryz.f47 args d):Ev M1 (.pure 47 args) d []:=pcl _ _ (by kernel_rfl) h
theorem call48 {args:List AV} {d:AV} (h:wc M1 fi48 Tryz.f48 args d):Ev M1 (.pure 48 args) d []:=pcl _ _ (by kernel_rfl) h
theorem call50 {args:List AV} {d:AV} (h:wc M1 fi50 Tryz.f50 args d):Ev M1 (.pure 50 args) d []:=pcl _ _ (by kernel_rfl) h
theorem wLine (a b c:Int)  (dq:AV) (H :
  (Sp.inI a) /\
  (Sp.inI b) /\
  (Sp.inI c) /\
  Weak (Zay (Sp.qi a) (Sp.qi b) (Sp.qi c)) dq) :
 wLine_at a b c (Zag dq):=by
 unfold wLine_at
 obtain ⟨k1,k2,k3,H⟩:=H
 exact Zah (G:=Zac kp47 [(1,1,.call (ratF (Sp.qi a)) none),(1,3,.call (ratF (Sp.qi b)) none),(1,5,.call (ratF (Sp.qi c)) none)] []) 1000 [] (Zay (Sp.qi a) (Sp.qi b) (Sp.qi c)) (by kernel_rfl) (bc rfl b0) q0 (ce (@ev46 (a) k1) (ce (@ev46 (b) k2) (ce (@ev46 (c) k3) c0))) H
theorem wCirc (a b c:Int)  (dq:AV) (H :
  (Sp.inI a) /\
  (Sp.inI b) /\
  (Sp.inI c) /\
  Weak (Zay (Sp.qi a) (Sp.qi b) (Sp.qi c)) dq) :
 wCirc_at a b c (Zag dq):=by
 unfold wCirc_at
 obtain ⟨k1,k2,k3,H⟩:=H
 exact Zah (G:=Zac kp48 [(1,1,.call (ratF (Sp.qi a)) none),(1,3,.call (ratF (Sp.qi b)) none),(1,5,.call (ratF (Sp.qi c)) none)] []) 1000 [] (Zay (Sp.qi a) (Sp.qi b) (Sp.qi c)) (by kernel_rfl) (bc rfl b0) q0 (ce (@ev46 (a) k1) (ce (@ev46 (b) k2) (ce (@ev46 (c) k3) c0))) H
noncomputable abbrev zNmH1 (a:Int) (b:Int):=(pntF (Sp.qi a) (Sp.qi 0) (Sp.qi b) (Sp.qi 0) (Sp.qi 0))
theorem wAt (a b:Int)  (dq:AV) (H :
  (Sp.inI a /\ Sp.inI b) /\
  Weak ((pntF (Sp.qi a) (Sp.qi 0) (Sp.qi b) (Sp.qi 0) (Sp.qi 0))) dq) :
 wAt_at a b (Zag dq):=by
 unfold wAt_at
 obtain ⟨k1,H⟩:=H
 exact Zah (G:=Zac kp50 [(1,2,.call ((vecF (Sp.qi a) (Sp.qi b))) none),(1,3,.call (zNmH1 a b) none)] []) 1000 [] (zNmH1 a b) (by kernel_rfl) (bc rfl b0) q0 (ce (@ev93 (a) (b) k1) (ce (@ev61 (false) (false) (false) (false) (Sp.qi a) (Sp.qi b)) c0)) H
noncomputable abbrev zNmH6 (a:Rat) (b:Rat) (c:Rat):=Sp.few3 (Sp.Zaa a.num) (Sp.Zaa (↑a.den:Int)) (Sp.Zaa b.num) (Sp.Zaa (↑b.den:Int)) (Sp.Zaa c.num) (Sp.Zaa (↑c.den:Int)) (Sp.Zad a.num) (Sp.Zad (↑a.den:Int)) (Sp.Zad b.num) (Sp.Zad (↑b.den:Int)) (Sp.Zad c.num) (Sp.Zad (↑c.den:Int))
theorem rCirc (f1 f2 f3 f4 f5 f6:Bool) (a b c:Rat)  (dq:AV) (H :
  (Sp.okRw (Sp.Zad a.num) (Sp.Zad (↑a.den:Int)) (Sp.Zad b.num) (Sp.Zad (↑b.den:Int)) (Sp.Zad c.num) (Sp.Zad (↑c.den:Int))) /\
  vb (bif Sp.few3 (Sp.Zaa a.num) (Sp.Zaa (↑a.den:Int)) (Sp.Zaa b.num) (Sp.Zaa (↑b.den:Int)) (Sp.Zaa c.num) (Sp.Zaa (↑c.den:Int)) (Sp.Zad a.num) (Sp.Zad (↑a.den:Int)) (Sp.Zad b.num) (Sp.Zad (↑b.den:Int)) (Sp.Zad c.num) (Sp.Zad (↑c.den:Int)) then decide (Sp.sgnI c.num > 0) else false) = dq) :
 rCirc_at f1 f2 f3 f4 f5 f6 a b c (Zag dq):=by
 unfold rCirc_at
 obtain ⟨k1,H⟩:=H
 exact Zao (G:=Zac kp16 [(1,7,.call (vb (zNmH6 a b c)) none),(1,11,.call (vi (Sp.sgnI c.num)) none)] []) 1000 [] (asm:=[true,true,true,!(Sp.few3 (Sp.Zaa a.num) (Sp.Zaa (↑a.den:Int)) (Sp.Zaa b.num) (Sp.Zaa (↑b.den:Int)) (Sp.Zaa c.num) (Sp.Zaa (↑c.den:Int)) (Sp.Zad a.num) (Sp.Zad (↑a.den:Int)) (Sp.Zad b.num) (Sp.Zad (↑b.den:Int)) (Sp.Zad c.num) (Sp.Zad (↑c.den:Int)) == true && true) || true]) (calls:=[⟨true,false,51,[AV.vec true 4 [ratA f1 f2 a,ratA f3 f4 b,ratA f5 f6 c]],[],vb (zNmH6 a b c),[]⟩,⟨Sp.few3 (Sp.Zaa a.num) (Sp.Zaa (↑a.den:Int)) (Sp.Zaa b.num) (Sp.Zaa (↑b.den:Int)) (Sp.Zaa c.num) (Sp.Zaa (↑c.den:Int)) (Sp.Zad a.num) (Sp.Zad (↑a.den:Int)) (Sp.Zad b.num) (Sp.Zad (↑b.den:Int)) (Sp.Zad c.num) (Sp.Zad (↑c.den:Int)) == true && true && true,false,20,[ratA f5 f6 c],[],vi (Sp.sgnI c.num),[]⟩]) (vb (bif Sp.few3 (Sp.Zaa a.num) (Sp.Zaa (↑a.den:Int)) (Sp.Zaa b.num) (Sp.Zaa (↑b.den:Int)) (Sp.Zaa c.num) (Sp.Zaa (↑c.den:Int)) (Sp.Zad a.num) (Sp.Zad (↑a.den:Int)) (Sp.Zad b.num) (Sp.Zad (↑b.den:Int)) (Sp.Zad c.num) (Sp.Zad (↑c.den:Int)) then decide (Sp.sgnI c.num > 0) else false)) (by kernel_rfl) (bc rfl (bc rfl (bc rfl (bc (Bool.or_true _) b0)))) q0 (cc (fun _ => (@ev51 (Sp.Zaa a.num) (Sp.Zaa (↑a.den:Int)) (f1) (f2) (Sp.Zaa b.num) (Sp.Zaa (↑b.den:Int)) (f3) (f4) (Sp.Zaa c.num) (Sp.Zaa (↑c.den:Int)) (f5) (f6) (Sp.Zad a.num) (Sp.Zad (↑a.den:Int)) (Sp.Zad b.num) (Sp.Zad (↑b.den:Int)) (Sp.Zad c.num) (Sp.Zad (↑c.den:Int)) k1)) (cc (fun hc => ((@ev20 (f5) (f6) (c.num) ((↑c.den:Int))):Ev M1 (Conf.pure 20 [ratA f5 f6 c]) (vi (Sp.sgnI c.num)) [])) c0)) H
noncomputable abbrev zNmH7 (s3:Bool) (f3:Bool) (x3:List Int) (t3:Bool) (g3:Bool) (y3:List Int):=ag [vb s3,AV.vec f3 1 (us x3),vb t3,AV.vec g3 1 (us y3)]
theorem rCircR (s1 t1 f1 g1 s2 t2 f2 g2 s3 t3 f3 g3:Bool) (x1 y1 x2 y2 x3 y3:List Int)  (dq:AV) (H :
  (Sp.okRw x1 y1 x2 y2 x3 y3) /\
  ∃ (n1:Int),
  ((Sp.few3 s1 t1 s2 t2 s3 t3 x1 y1 x2 y2 x3 y3 = true) -> (Ev M1 (Conf.pure 20 [ag [vb s3,AV.vec f3 1 (us x3),vb t3,AV.vec g3 1 (us y3)]]) (vi n1) [])) /\
  vb (bif Sp.few3 s1 t1 s2 t2 s3 t3 x1 y1 x2 y2 x3 y3 then decide (n1 > 0) else false) = dq) :
 rCircR_at s1 t1 f1 g1 s2 t2 f2 g2 s3 t3 f3 g3 x1 y1 x2 y2 x3 y3 (Zag dq):=by
 unfold rCircR_at
 obtain ⟨k1,n1,k3,H⟩:=H
 exact Zao (G:=Zac kp16 [(1,7,.call (vb (Sp.few3 s1 t1 s2 t2 s3 t3 x1 y1 x2 y2 x3 y3)) none),(1,11,.call (vi n1) none)] []) 1000 [] (asm:=[true,true,true,!(Sp.few3 s1 t1 s2 t2 s3 t3 x1 y1 x2 y2 x3 y3 == true && true) || true]) (calls:=[⟨true,false,51,[AV.vec true 4 [ag [vb s1,AV.vec f1 1 (us x1),vb t1,AV.vec g1 1 (us y1)],ag [vb s2,AV.vec f2 1 (us x2),vb t2,AV.vec g2 1 (us y2)],(zNmH7 s3 f3 x3 t3 g3 y3)]],[],vb (Sp.few3 s1 t1 s2 t2 s3 t3 x1 y1 x2 y2 x3 y3),[]⟩,⟨Sp.few3 s1 t1 s2 t2 s3 t3 x1 y1 x2 y2 x3 y3 == true && true && true,false,20,[(zNmH7 s3 f3 x3 t3 g3 y3)],[],vi n1,[]⟩]) (vb (bif Sp.few3 s1 t1 s2 t2 s3 t3 x1 y1 x2 y2 x3 y3 then decide (n1 > 0) else false)) (by kernel_rfl) (bc rfl (bc rfl (bc rfl (bc (Bool.or_true _) b0)))) q0 (cc (fun _ => (@ev51 (s1) (t1) (f1) (g1) (s2) (t2) (f2) (g2) (s3) (t3) (f3) (g3) (x1) (y1) (x2) (y2) (x3) (y3) k1)) (cc (fun hc => ((k3 ((i_at (i_at (i_bt (ZaH _)))).1 hc)):Ev M1 (Conf.pure 20 [(zNmH7 s3 f3 x3 t3 g3 y3)]) (vi n1) [])) c0)) H
end Go.Av

namespace Go.Av
open Go.Proofs
theorem ev47 (a b c:Int) (h:Sp.inI a /\ Sp.inI b /\ Sp.inI c):Ev M1 (.pure 47 [.int .i64 a,.int .i64 b,.int .i64 c]) (Zay (Sp.qi a) (Sp.qi b) (Sp.qi c)) []:=
 call47 (wLine _ _ _ _ ⟨h.1,h.2.1,h.2.2,.refl _⟩)
theorem ev48 (a b c:Int) (h:Sp.inI a /\ Sp.inI b /\ Sp.inI c):Ev M1 (.pure 48 [.int .i64 a,.int .i64 b,.int .i64 c]) (Zay (Sp.qi a) (Sp.qi b) (Sp.qi c)) []:=
 call48 (wCirc _ _ _ _ ⟨h.1,h.2.1,h.2.2,.refl _⟩)
theorem ev50 (a b:Int) (h:Sp.inI a /\ Sp.inI b):Ev M1 (.pure 50 [.int .i64 a,.int .i64 b]) (pntF (Sp.qi a) (Sp.qi 0) (Sp.qi b) (Sp.qi 0) (Sp.qi 0)) []:=
 call50 (wAt _ _ _ ⟨h,.refl _⟩)
namespace Sp
noncomputable def ZcC (s1 t1 s2 t2 s3 t3:Bool) (x1 y1 x2 y2 x3 y3:List Int):Bool:=few3 s1 t1 s2 t2 s3 t3 x1 y1 x2 y2 x3 y3&&(decide (x3.length ≠ 0) && !s3)
noncomputable abbrev ZdY (a b c:Rat):Bool:=ZcC (Zaa a.num) (Zaa (a.den:Int)) (Zaa b.num) (Zaa (b.den:Int)) (Zaa c.num) (Zaa (c.den:Int)) (Zad a.num) (Zad (a.den:Int)) (Zad b.num) (Zad (b.den:Int)) (Zad c.num) (Zad (c.den:Int))
end Sp
theorem few3_rat {s1 t1 s2 t2 s3 t3:Bool} {x1 y1 x2 y2 x3 y3:List Int} (h:Sp.few3 s1 t1 s2 t2 s3 t3 x1 y1 x2 y2 x3 y3 = true):∃ a b c:Rat,Sp.Zg3 a b c /\ (s1 = Sp.Zaa a.num /\ x1 = Sp.Zad a.num /\ t1 = Sp.Zaa (a.den:Int) /\ y1 = Sp.Zad (a.den:Int)) /\ (s2 = Sp.Zaa b.num /\ x2 = Sp.Zad b.num /\ t2 = Sp.Zaa (b.den:Int) /\ y2 = Sp.Zad (b.den:Int)) /\ s3 = Sp.Zaa c.num /\ x3 = Sp.Zad c.num /\ t3 = Sp.Zaa (c.den:Int) /\ y3 = Sp.Zad (c.den:Int):=by
 unfold Sp.few3 at h
 rw [Bool.and_eq_true,Bool.and_eq_true] at h
 obtain ⟨a,ka,ea⟩:=Zc9 h.1.1
 obtain ⟨b,kb,eb⟩:=Zc9 h.1.2
 obtain ⟨c,kc,ec⟩:=Zc9 h.2
 exact ⟨a,b,c,⟨ka,kb,kc⟩,ea,eb,ec⟩
theorem lim_len0 (v:Int):(Sp.Zad v).length ≠ 0 ↔ v ≠ 0:=by
 rw [ZaY]
 have:=ZaE (v:=v.natAbs)
 omega
theorem sg_gt (v:Int):decide (Sp.sgnI v > 0) = (decide ((Sp.Zad v).length ≠ 0) && !Sp.Zaa v):=by
 by_cases k:v = 0
 ·subst k;rw [decide_eq_false (show ¬(Sp.Zad 0).length ≠ 0 from fun h => (lim_len0 0).1 h rfl)];rfl
 ·rw [decide_eq_true ((lim_len0 v).2 k),Bool.true_and]
  by_cases n:v < 0
  ·rw [Zal.2 n]
   refine decide_eq_false ?_
   unfold Sp.sgnI;rw [if_pos n];decide
  ·rw [show Sp.Zaa v = false from decide_eq_false n]
   refine decide_eq_true ?_
   unfold Sp.sgnI;rw [if_neg n,if_pos (by omega)];decide
theorem ev16 (s1 t1 f1 g1 s2 t2 f2 g2 s3 t3 f3 g3:Bool) (x1 y1 x2 y2 x3 y3:List Int) (h:Sp.okRw x1 y1 x2 y2 x3 y3):Ev M1 (.pure 16 [.agg [.bool s1,.vec f1 1 (x1.map (.int .u32)),.bool t1,.vec g1 1 (y1.map (.int .u32)),.bool s2,.vec f2 1 (x2.map (.int .u32)),.bool t2,.vec g2 1 (y2.map (.int .u32)),.bool s3,.vec f3 1 (x3.map (.int .u32)),.bool t3,.vec g3 1 (y3.map (.int .u32))]]) (.bool (Sp.ZcC s1 t1 s2 t2 s3 t3 x1 y1 x2 y2 x3 y3)) []:=by
 by_cases k:Sp.few3 s1 t1 s2 t2 s3 t3 x1 y1 x2 y2 x3 y3 = true
 ·obtain ⟨a,b,c,hk,⟨rfl,rfl,rfl,rfl⟩,⟨rfl,rfl,rfl,rfl⟩,rfl,rfl,rfl,rfl⟩:=few3_rat k
  refine call16 (rCirc _ _ _ _ _ _ _ _ _ _ ⟨h,?_⟩)
  unfold Sp.ZcC
  rw [k,sg_gt];rfl
 ·refine call16 (rCircR _ _ _ _ _ _ _ _ _ _ _ _ _ _ _ _ _ _ _ ⟨h,0,fun j => absurd j k,?_⟩)
  unfold Sp.ZcC
  rw [(Bool.not_eq_true _).mp k];rfl
theorem circB_few {s1 t1 s2 t2 s3 t3:Bool} {x1 y1 x2 y2 x3 y3:List Int} (h:Sp.ZcC s1 t1 s2 t2 s3 t3 x1 y1 x2 y2 x3 y3 = true):Sp.few3 s1 t1 s2 t2 s3 t3 x1 y1 x2 y2 x3 y3 = true:=by
 unfold Sp.ZcC at h;rw [Bool.and_eq_true] at h;exact h.1
end Go.Av

namespace Go.Av
open Go.Proofs
set_option maxRecDepth 100000
def fi11:Fi:=⟨72,[.tmp 0]⟩
def kp11:List (Nat × List Nat):=[(0,[]),(1,[1,2]),(2,[1,2,3]),(3,[1,2,3,4]),(4,[1,2,3,4,5,6]),(5,[1,2,3,4,5,6,8]),(6,[0])]
def wAwake_at  (Q:AV->Heap->Prop):Prop:=Wp M1 (.run fi11 (atC (cd Tryz.f11) []) [] []) Q
theorem call11 {args:List AV} {d:AV} (h:wc M1 fi11 Tryz.f11 args d):Ev M1 (.pure 11 args) d []:=pcl _ _ (by kernel_rfl) h
noncomputable abbrev Zg0:=(pntF (Sp.qi 1) (Sp.qi 0) (Sp.qi 1) (Sp.qi 0) (Sp.qi 0))
noncomputable abbrev zNmI2:=(pntF (Sp.qi (-1)) (Sp.qi 0) (Sp.qi 1) (Sp.qi 0) (Sp.qi 0))
noncomputable abbrev zNmI3:=(pntF (Sp.qi 2) (Sp.qi 0) (Sp.qi 1) (Sp.qi 0) (Sp.qi 0))
noncomputable abbrev zNmI4:=Sp.linL (Sp.qi 1) (Sp.qi 1) (Sp.qi 3) (Sp.qi 1) (Sp.qi (-1)) (Sp.qi 1)
noncomputable abbrev zNmI5:=Sp.dep (Sp.qi 1) (Sp.qi 1) (Sp.qi 2) (Sp.qi 0) (Sp.qi 0) (Sp.qi 2)=0
noncomputable abbrev zNmI6:=Sp.ZcQ (Sp.qi 0) (Sp.qi 1) (Sp.qi 1) (Sp.qi 0) (Sp.qi 0) (Sp.qi 2)
noncomputable abbrev zNmI7:=Sp.ZcQ (Sp.qi 1) (Sp.qi 1) (Sp.qi 2) (Sp.qi 0) (Sp.qi 0) (Sp.qi 2)
noncomputable abbrev zNmI8:=(↑(Sp.ZgN (Sp.qi 0) (Sp.qi 0) (Sp.qi 1) (Sp.qi 1) (Sp.qi 0) (Sp.qi 1)).length:Int)=2
noncomputable abbrev zNmI9 (b1:Bool):=bif Sp.Zev (Sp.qi 1) (Sp.qi 1) (Sp.qi 3) (Sp.qi 1) (Sp.qi (-1)) (Sp.qi 1)==0 then b1 else false
noncomputable abbrev zNmI10:=Sp.Zev (Sp.qi 1) (Sp.qi 1) (Sp.qi 3) (Sp.qi 1) (Sp.qi (-1)) (Sp.qi 1)=0
noncomputable abbrev zNmI11:=Sp.Zdk (Sp.qi 0) (Sp.qi 0) (Sp.qi 1) (Sp.qi 0) (Sp.qi 0) (Sp.qi 1)=10
noncomputable abbrev zNmI12:=Sp.Zdk (Sp.qi 0) (Sp.qi 0) (Sp.qi 1) (Sp.qi 1) (Sp.qi 0) (Sp.qi 1)=0
theorem wAwake   (dq:AV) (H :
  (Sp.inI 1 /\ Sp.inI 1 /\ Sp.inI 3) /\
  (Sp.inI 1 /\ Sp.inI (-1) /\ Sp.inI 1) /\
  (Sp.Zb5 (Sp.qi 1) (Sp.qi 1) (Sp.qi 3) /\ Sp.Zb5 (Sp.qi 1) (Sp.qi (-1)) (Sp.qi 1)) /\
  (Sp.inI 0 /\ Sp.inI 1 /\ Sp.inI 1) /\
  (Sp.inI 0 /\ Sp.inI 0 /\ Sp.inI 2) /\
  (Sp.Zgl (Sp.qi 0) (Sp.qi 1) (Sp.qi 1) /\ Sp.ZdM (Sp.qi 0) (Sp.qi 0) /\ Sp.okT 30 (Sp.qi 2)) /\
  (Sp.inI 1 /\ Sp.inI 1 /\ Sp.inI 2) /\
  (Sp.Zgl (Sp.qi 1) (Sp.qi 1) (Sp.qi 2) /\ Sp.ZdM (Sp.qi 0) (Sp.qi 0) /\ Sp.okT 30 (Sp.qi 2)) /\
  (Sp.inI 0 /\ Sp.inI 0 /\ Sp.inI 1) /\
  (Sp.inI 1 /\ Sp.inI 0 /\ Sp.inI 1) /\
  (Sp.Zg3 (Sp.qi 0) (Sp.qi 0) (Sp.qi 1) /\ Sp.Zg3 (Sp.qi 1) (Sp.qi 0) (Sp.qi 1)) /\
  (Sp.Zg3 (Sp.qi 0) (Sp.qi 0) (Sp.qi 1) /\ Sp.Zg3 (Sp.qi 0) (Sp.qi 0) (Sp.qi 1)) /\
  ((Sp.Zev (Sp.qi 1) (Sp.qi 1) (Sp.qi 3) (Sp.qi 1) (Sp.qi (-1)) (Sp.qi 1) = 0) -> (Sp.inI 2 /\ Sp.inI 1)) /\
  ∃ (b1:Bool),
  ((Sp.Zev (Sp.qi 1) (Sp.qi 1) (Sp.qi 3) (Sp.qi 1) (Sp.qi (-1)) (Sp.qi 1) = 0) -> (Ev M1 (Conf.pure 49 [AV.vec false 20 (List.map Pnt.a (Sp.linL (Sp.qi 1) (Sp.qi 1) (Sp.qi 3) (Sp.qi 1) (Sp.qi (-1)) (Sp.qi 1))),AV.vec true 20 [(pntF (Sp.qi 2) (Sp.qi 0) (Sp.qi 1) (Sp.qi 0) (Sp.qi 0))]]) (vb b1) [])) /\
  (((Sp.Zev (Sp.qi 1) (Sp.qi 1) (Sp.qi 3) (Sp.qi 1) (Sp.qi (-1)) (Sp.qi 1) = 0) /\ (b1 = true)) -> (Sp.inI (-1) /\ Sp.inI 1)) /\
  (((Sp.Zev (Sp.qi 1) (Sp.qi 1) (Sp.qi 3) (Sp.qi 1) (Sp.qi (-1)) (Sp.qi 1) = 0) /\ (b1 = true)) -> (Sp.inI 1 /\ Sp.inI 1)) /\
  ∃ (b2:Bool),
  (((Sp.Zev (Sp.qi 1) (Sp.qi 1) (Sp.qi 3) (Sp.qi 1) (Sp.qi (-1)) (Sp.qi 1) = 0) /\ (b1 = true)) -> (Ev M1 (Conf.pure 49 [AV.vec false 20 (List.map Pnt.a (Sp.ZcQ (Sp.qi 0) (Sp.qi 1) (Sp.qi 1) (Sp.qi 0) (Sp.qi 0) (Sp.qi 2))),AV.vec true 20 [(pntF (Sp.qi (-1)) (Sp.qi 0) (Sp.qi 1) (Sp.qi 0) (Sp.qi 0)),(pntF (Sp.qi 1) (Sp.qi 0) (Sp.qi 1) (Sp.qi 0) (Sp.qi 0))]]) (vb b2) [])) /\
  ((((Sp.Zev (Sp.qi 1) (Sp.qi 1) (Sp.qi 3) (Sp.qi 1) (Sp.qi (-1)) (Sp.qi 1) = 0) /\ (b1 = true)) /\ (b2 = true)) -> (Sp.inI 1 /\ Sp.inI 1)) /\
  ∃ (b3:Bool),
  ((((Sp.Zev (Sp.qi 1) (Sp.qi 1) (Sp.qi 3) (Sp.qi 1) (Sp.qi (-1)) (Sp.qi 1) = 0) /\ (b1 = true)) /\ (b2 = true)) -> (Ev M1 (Conf.pure 49 [AV.vec false 20 (List.map Pnt.a (Sp.ZcQ (Sp.qi 1) (Sp.qi 1) (Sp.qi 2) (Sp.qi 0) (Sp.qi 0) (Sp.qi 2))),AV.vec true 20 [(pntF (Sp.qi 1) (Sp.qi 0) (Sp.qi 1) (Sp.qi 0) (Sp.qi 0))]]) (vb b3) [])) /\
  vb (bif bif bif bif bif bif bif Sp.Zev (Sp.qi 1) (Sp.qi 1) (Sp.qi 3) (Sp.qi 1) (Sp.qi (-1)) (Sp.qi 1) == 0 then b1 else false then b2 else false then b3 else false then Sp.Zdk (Sp.qi 0) (Sp.qi 0) (Sp.qi 1) (Sp.qi 1) (Sp.qi 0) (Sp.qi 1) == 0 else false then (↑(Sp.ZgN (Sp.qi 0) (Sp.qi 0) (Sp.qi 1) (Sp.qi 1) (Sp.qi 0) (Sp.qi 1)).length:Int) == 2 else false then Sp.Zdk (Sp.qi 0) (Sp.qi 0) (Sp.qi 1) (Sp.qi 0) (Sp.qi 0) (Sp.qi 1) == 10 else false then decide (Sp.dep (Sp.qi 1) (Sp.qi 1) (Sp.qi 2) (Sp.qi 0) (Sp.qi 0) (Sp.qi 2) = 0) else false) = dq) :
 wAwake_at  (Zag dq):=by
 unfold wAwake_at
 obtain ⟨k1,k2,k3,k4,k5,k6,k7,k8,k9,k10,k11,k12,k14,b1,k16,k18,k20,b2,k22,k24,b3,k26,H⟩:=H
 have w27:(List.map Pnt.a (Sp.ZgN (Sp.qi 0) (Sp.qi 0) (Sp.qi 1) (Sp.qi 1) (Sp.qi 0) (Sp.qi 1))).length = (Sp.ZgN (Sp.qi 0) (Sp.qi 0) (Sp.qi 1) (Sp.qi 1) (Sp.qi 0) (Sp.qi 1)).length:=List.length_map ..
 have i28:((bif bif bif bif bif bif Sp.Zev (Sp.qi 1) (Sp.qi 1) (Sp.qi 3) (Sp.qi 1) (Sp.qi (-1)) (Sp.qi 1) == 0 then b1 else false then b2 else false then b3 else false then Sp.Zdk (Sp.qi 0) (Sp.qi 0) (Sp.qi 1) (Sp.qi 1) (Sp.qi 0) (Sp.qi 1) == 0 else false then (↑(List.map Pnt.a (Sp.ZgN (Sp.qi 0) (Sp.qi 0) (Sp.qi 1) (Sp.qi 1) (Sp.qi 0) (Sp.qi 1))).length:Int) == 2 else false then Sp.Zdk (Sp.qi 0) (Sp.qi 0) (Sp.qi 1) (Sp.qi 0) (Sp.qi 0) (Sp.qi 1) == 10 else false) == true && true && true) = true ↔ ((((((zNmI10 /\ (b1 = true)) /\ (b2 = true)) /\ (b3 = true)) /\ zNmI12) /\ zNmI8) /\ zNmI11):=(by (try rw [w27]);all_goals exact (i_at (i_at (i_bt (ZaK (ZaK (ZaK (ZaK (ZaK (ZaK i_eq (ZaH _)) (ZaH _)) (ZaH _)) i_eq) i_eq) i_eq)))))
 have i29:((bif bif bif bif bif bif Sp.Zev (Sp.qi 1) (Sp.qi 1) (Sp.qi 3) (Sp.qi 1) (Sp.qi (-1)) (Sp.qi 1) == 0 then b1 else false then b2 else false then b3 else false then Sp.Zdk (Sp.qi 0) (Sp.qi 0) (Sp.qi 1) (Sp.qi 1) (Sp.qi 0) (Sp.qi 1) == 0 else false then (↑(List.map Pnt.a (Sp.ZgN (Sp.qi 0) (Sp.qi 0) (Sp.qi 1) (Sp.qi 1) (Sp.qi 0) (Sp.qi 1))).length:Int) == 2 else false then Sp.Zdk (Sp.qi 0) (Sp.qi 0) (Sp.qi 1) (Sp.qi 0) (Sp.qi 0) (Sp.qi 1) == 10 else false) == true && true && true) = true ↔ ((((((zNmI10 /\ (b1 = true)) /\ (b2 = true)) /\ (b3 = true)) /\ zNmI12) /\ zNmI8) /\ zNmI11):=(by (try rw [w27]);all_goals exact (i_at (i_at (i_bt (ZaK (ZaK (ZaK (ZaK (ZaK (ZaK i_eq (ZaH _)) (ZaH _)) (ZaH _)) i_eq) i_eq) i_eq)))))
 have i30:((bif bif bif bif bif bif Sp.Zev (Sp.qi 1) (Sp.qi 1) (Sp.qi 3) (Sp.qi 1) (Sp.qi (-1)) (Sp.qi 1) == 0 then b1 else false then b2 else false then b3 else false then Sp.Zdk (Sp.qi 0) (Sp.qi 0) (Sp.qi 1) (Sp.qi 1) (Sp.qi 0) (Sp.qi 1) == 0 else false then (↑(List.map Pnt.a (Sp.ZgN (Sp.qi 0) (Sp.qi 0) (Sp.qi 1) (Sp.qi 1) (Sp.qi 0) (Sp.qi 1))).length:Int) == 2 else false then Sp.Zdk (Sp.qi 0) (Sp.qi 0) (Sp.qi 1) (Sp.qi 0) (Sp.qi 0) (Sp.qi 1) == 10 else false) == true && true && true) = true ↔ ((((((zNmI10 /\ (b1 = true)) /\ (b2 = true)) /\ (b3 = true)) /\ zNmI12) /\ zNmI8) /\ zNmI11):=(by (try rw [w27]);all_goals exact (i_at (i_at (i_bt (ZaK (ZaK (ZaK (ZaK (ZaK (ZaK i_eq (ZaH _)) (ZaH _)) (ZaH _)) i_eq) i_eq) i_eq)))))
 exact Zao (G:=Zac kp11 [(1,0,.call (Zay (Sp.qi 1) (Sp.qi 1) (Sp.qi 3)) none),(1,1,.call (Zay (Sp.qi 1) (Sp.qi (-1)) (Sp.qi 1)) none),(1,2,.call (tu [AV.vec false 20 (List.map Pnt.a zNmI4),vi (Sp.Zev (Sp.qi 1) (Sp.qi 1) (Sp.qi 3) (Sp.qi 1) (Sp.qi (-1)) (Sp.qi 1))]) none),(2,0,.call (Zay (Sp.qi 0) (Sp.qi 1) (Sp.qi 1)) none),(2,1,.call (Zay (Sp.qi 0) (Sp.qi 0) (Sp.qi 2)) none),(2,2,.call (AV.vec false 20 (List.map Pnt.a zNmI6)) none),(3,0,.call (Zay (Sp.qi 1) (Sp.qi 1) (Sp.qi 2)) none),(3,1,.call (Zay (Sp.qi 0) (Sp.qi 0) (Sp.qi 2)) none),(3,2,.call (AV.vec false 20 (List.map Pnt.a zNmI7)) none),(4,0,.call (Zay (Sp.qi 0) (Sp.qi 0) (Sp.qi 1)) none),(4,1,.call (Zay (Sp.qi 1) (Sp.qi 0) (Sp.qi 1)) none),(4,2,.call (tu [AV.vec false 20 (List.map Pnt.a (Sp.ZgN (Sp.qi 0) (Sp.qi 0) (Sp.qi 1) (Sp.qi 1) (Sp.qi 0) (Sp.qi 1))),vi (Sp.Zdk (Sp.qi 0) (Sp.qi 0) (Sp.qi 1) (Sp.qi 1) (Sp.qi 0) (Sp.qi 1))]) none),(5,0,.call (Zay (Sp.qi 0) (Sp.qi 0) (Sp.qi 1)) none),(5,1,.call (Zay (Sp.qi 0) (Sp.qi 0) (Sp.qi 1)) none),(5,2,.call (tu [AV.vec false 20 (List.map Pnt.a (Sp.ZgN (Sp.qi 0) (Sp.qi 0) (Sp.qi 1) (Sp.qi 0) (Sp.qi 0) (Sp.qi 1))),vi (Sp.Zdk (Sp.qi 0) (Sp.qi 0) (Sp.qi 1) (Sp.qi 0) (Sp.qi 0) (Sp.qi 1))]) none),(6,4,.call (zNmI3) none),(6,6,.call (vb b1) none),(6,10,.call (zNmI2) none),(6,11,.call (Zg0) none),(6,13,.call (vb b2) none),(6,17,.call (Zg0) none),(6,19,.call (vb b3) none),(6,35,.call (Zay (Sp.qi 1) (Sp.qi 1) (Sp.qi 2)) none),(6,36,.call (Zay (Sp.qi 0) (Sp.qi 0) (Sp.qi 2)) none),(6,37,.call (vb (decide zNmI5)) none)] []) 1000 [] (calls:=[⟨true,false,47,[vi 1,vi 1,vi 3],[],Zay (Sp.qi 1) (Sp.qi 1) (Sp.qi 3),[]⟩,⟨true,false,47,[vi 1,vi (-1),vi 1],[],Zay (Sp.qi 1) (Sp.qi (-1)) (Sp.qi 1),[]⟩,⟨true,false,13,[Zay (Sp.qi 1) (Sp.qi 1) (Sp.qi 3),Zay (Sp.qi 1) (Sp.qi (-1)) (Sp.qi 1)],[],tu [AV.vec false 20 (List.map Pnt.a zNmI4),vi (Sp.Zev (Sp.qi 1) (Sp.qi 1) (Sp.qi 3) (Sp.qi 1) (Sp.qi (-1)) (Sp.qi 1))],[]⟩,⟨true,false,47,[vi 0,vi 1,vi 1],[],Zay (Sp.qi 0) (Sp.qi 1) (Sp.qi 1),[]⟩,⟨true,false,48,[vi 0,vi 0,vi 2],[],Zay (Sp.qi 0) (Sp.qi 0) (Sp.qi 2),[]⟩,⟨true,false,17,[Zay (Sp.qi 0) (Sp.qi 1) (Sp.qi 1),Zay (Sp.qi 0) (Sp.qi 0) (Sp.qi 2)],[],AV.vec false 20 (List.map Pnt.a zNmI6),[]⟩,⟨true,false,47,[vi 1,vi 1,vi 2],[],Zay (Sp.qi 1) (Sp.qi 1) (Sp.qi 2),[]⟩,⟨true,false,48,[vi 0,vi 0,vi 2],[],Zay (Sp.qi 0) (Sp.qi 0) (Sp.qi 2),[]⟩,⟨true,false,17,[Zay (Sp.qi 1) (Sp.qi 1) (Sp.qi 2),Zay (Sp.qi 0) (Sp.qi 0) (Sp.qi 2)],[],AV.vec false 20 (List.map Pnt.a zNmI7),[]⟩,⟨true,false,48,[vi 0,vi 0,vi 1],[],Zay (Sp.qi 0) (Sp.qi 0) (Sp.qi 1),[]⟩,⟨true,false,48,[vi 1,vi 0,vi 1],[],Zay (Sp.qi 1) (Sp.qi 0) (Sp.qi 1),[]⟩,⟨true,false,22,[Zay (Sp.qi 0) (Sp.qi 0) (Sp.qi 1),Zay (Sp.qi 1) (Sp.qi 0) (Sp.qi 1)],[],tu [AV.vec false 20 (List.map Pnt.a (Sp.ZgN (Sp.qi 0) (Sp.qi 0) (Sp.qi 1) (Sp.qi 1) (Sp.qi 0) (Sp.qi 1))),vi (Sp.Zdk (Sp.qi 0) (Sp.qi 0) (Sp.qi 1) (Sp.qi 1) (Sp.qi 0) (Sp.qi 1))],[]⟩,⟨true,false,48,[vi 0,vi 0,vi 1],[],Zay (Sp.qi 0) (Sp.qi 0) (Sp.qi 1),[]⟩,⟨true,false,48,[vi 0,vi 0,vi 1],[],Zay (Sp.qi 0) (Sp.qi 0) (Sp.qi 1),[]⟩,⟨true,false,22,[Zay (Sp.qi 0) (Sp.qi 0) (Sp.qi 1),Zay (Sp.qi 0) (Sp.qi 0) (Sp.qi 1)],[],tu [AV.vec false 20 (List.map Pnt.a (Sp.ZgN (Sp.qi 0) (Sp.qi 0) (Sp.qi 1) (Sp.qi 0) (Sp.qi 0) (Sp.qi 1))),vi (Sp.Zdk (Sp.qi 0) (Sp.qi 0) (Sp.qi 1) (Sp.qi 0) (Sp.qi 0) (Sp.qi 1))],[]⟩,⟨(Sp.Zev (Sp.qi 1) (Sp.qi 1) (Sp.qi 3) (Sp.qi 1) (Sp.qi (-1)) (Sp.qi 1) == 0) == true && true && true,false,50,[vi 2,vi 1],[],zNmI3,[]⟩,⟨(Sp.Zev (Sp.qi 1) (Sp.qi 1) (Sp.qi 3) (Sp.qi 1) (Sp.qi (-1)) (Sp.qi 1) == 0) == true && true && true,false,49,[AV.vec false 20 (List.map Pnt.a zNmI4),AV.vec true 20 [zNmI3]],[],vb b1,[]⟩,⟨(zNmI9 b1) == true && true && true,false,50,[vi (-1),vi 1],[],zNmI2,[]⟩,⟨(zNmI9 b1) == true && true && true,false,50,[vi 1,vi 1],[],Zg0,[]⟩,⟨(zNmI9 b1) == true && true && true,false,49,[AV.vec false 20 (List.map Pnt.a zNmI6),AV.vec true 20 [zNmI2,Zg0]],[],vb b2,[]⟩,⟨(bif bif Sp.Zev (Sp.qi 1) (Sp.qi 1) (Sp.qi 3) (Sp.qi 1) (Sp.qi (-1)) (Sp.qi 1) == 0 then b1 else false then b2 else false) == true && true && true,false,50,[vi 1,vi 1],[],Zg0,[]⟩,⟨(bif bif Sp.Zev (Sp.qi 1) (Sp.qi 1) (Sp.qi 3) (Sp.qi 1) (Sp.qi (-1)) (Sp.qi 1) == 0 then b1 else false then b2 else false) == true && true && true,false,49,[AV.vec false 20 (List.map Pnt.a zNmI7),AV.vec true 20 [Zg0]],[],vb b3,[]⟩,⟨(bif bif bif bif bif bif Sp.Zev (Sp.qi 1) (Sp.qi 1) (Sp.qi 3) (Sp.qi 1) (Sp.qi (-1)) (Sp.qi 1) == 0 then b1 else false then b2 else false then b3 else false then Sp.Zdk (Sp.qi 0) (Sp.qi 0) (Sp.qi 1) (Sp.qi 1) (Sp.qi 0) (Sp.qi 1) == 0 else false then (↑(List.map Pnt.a (Sp.ZgN (Sp.qi 0) (Sp.qi 0) (Sp.qi 1) (Sp.qi 1) (Sp.qi 0) (Sp.qi 1))).length:Int) == 2 else false then Sp.Zdk (Sp.qi 0) (Sp.qi 0) (Sp.qi 1) (Sp.qi 0) (Sp.qi 0) (Sp.qi 1) == 10 else false) == true && true && true,false,47,[vi 1,vi 1,vi 2],[],Zay (Sp.qi 1) (Sp.qi 1) (Sp.qi 2),[]⟩,⟨(bif bif bif bif bif bif Sp.Zev (Sp.qi 1) (Sp.qi 1) (Sp.qi 3) (Sp.qi 1) (Sp.qi (-1)) (Sp.qi 1) == 0 then b1 else false then b2 else false then b3 else false then Sp.Zdk (Sp.qi 0) (Sp.qi 0) (Sp.qi 1) (Sp.qi 1) (Sp.qi 0) (Sp.qi 1) == 0 else false then (↑(List.map Pnt.a (Sp.ZgN (Sp.qi 0) (Sp.qi 0) (Sp.qi 1) (Sp.qi 1) (Sp.qi 0) (Sp.qi 1))).length:Int) == 2 else false then Sp.Zdk (Sp.qi 0) (Sp.qi 0) (Sp.qi 1) (Sp.qi 0) (Sp.qi 0) (Sp.qi 1) == 10 else false) == true && true && true,false,48,[vi 0,vi 0,vi 2],[],Zay (Sp.qi 0) (Sp.qi 0) (Sp.qi 2),[]⟩,⟨(bif bif bif bif bif bif Sp.Zev (Sp.qi 1) (Sp.qi 1) (Sp.qi 3) (Sp.qi 1) (Sp.qi (-1)) (Sp.qi 1) == 0 then b1 else false then b2 else false then b3 else false then Sp.Zdk (Sp.qi 0) (Sp.qi 0) (Sp.qi 1) (Sp.qi 1) (Sp.qi 0) (Sp.qi 1) == 0 else false then (↑(List.map Pnt.a (Sp.ZgN (Sp.qi 0) (Sp.qi 0) (Sp.qi 1) (Sp.qi 1) (Sp.qi 0) (Sp.qi 1))).length:Int) == 2 else false then Sp.Zdk (Sp.qi 0) (Sp.qi 0) (Sp.qi 1) (Sp.qi 0) (Sp.qi 0) (Sp.qi 1) == 10 else false) == true && true && true,false,19,[Zay (Sp.qi 1) (Sp.qi 1) (Sp.qi 2),Zay (Sp.qi 0) (Sp.qi 0) (Sp.qi 2)],[],vb (decide zNmI5),[]⟩]) (vb (bif bif bif bif bif bif bif Sp.Zev (Sp.qi 1) (Sp.qi 1) (Sp.qi 3) (Sp.qi 1) (Sp.qi (-1)) (Sp.qi 1) == 0 then b1 else false then b2 else false then b3 else false then Sp.Zdk (Sp.qi 0) (Sp.qi 0) (Sp.qi 1) (Sp.qi 1) (Sp.qi 0) (Sp.qi 1) == 0 else false then (↑(List.map Pnt.a (Sp.ZgN (Sp.qi 0) (Sp.qi 0) (Sp.qi 1) (Sp.qi 1) (Sp.qi 0) (Sp.qi 1))).length:Int) == 2 else false then Sp.Zdk (Sp.qi 0) (Sp.qi 0) (Sp.qi 1) (Sp.qi 0) (Sp.qi 0) (Sp.qi 1) == 10 else false then decide zNmI5 else false)) (by kernel_rfl) b0 q0 (cc (fun _ => (@ev47 (1) (1) (3) k1)) (cc (fun _ => (@ev47 (1) (-1) (1) k2)) (cc (fun _ => (@ev13 (false) (false) (false) (false) (false) (false) (false) (false) (false) (false) (false) (false) (Sp.qi 1) (Sp.qi 1) (Sp.qi 3) (Sp.qi 1) (Sp.qi (-1)) (Sp.qi 1) k3)) (cc (fun _ => (@ev47 (0) (1) (1) k4)) (cc (fun _ => (@ev48 (0) (0) (2) k5)) (cc (fun _ => (@ev17 (false) (false) (false) (false) (false) (false) (false) (false) (false) (false) (false) (false) (Sp.qi 0) (Sp.qi 1) (Sp.qi 1) (Sp.qi 0) (Sp.qi 0) (Sp.qi 2) k6)) (cc (fun _ => (@ev47 (1) (1) (2) k7)) (cc (fun _ => (@ev48 (0) (0) (2) k5)) (cc (fun _ => (@ev17 (false) (false) (false) (false) (false) (false) (false) (false) (false) (false) (false) (false) (Sp.qi 1) (Sp.qi 1) (Sp.qi 2) (Sp.qi 0) (Sp.qi 0) (Sp.qi 2) k8)) (cc (fun _ => (@ev48 (0) (0) (1) k9)) (cc (fun _ => (@ev48 (1) (0) (1) k10)) (cc (fun _ => (@ev22 (false) (false) (false) (false) (false) (false) (false) (false) (false) (false) (false) (false) (Sp.qi 0) (Sp.qi 0) (Sp.qi 1) (Sp.qi 1) (Sp.qi 0) (Sp.qi 1) k11)) (cc (fun _ => (@ev48 (0) (0) (1) k9)) (cc (fun _ => (@ev48 (0) (0) (1) k9)) (cc (fun _ => (@ev22 (false) (false) (false) (false) (false) (false) (false) (false) (false) (false) (false) (false) (Sp.qi 0) (Sp.qi 0) (Sp.qi 1) (Sp.qi 0) (Sp.qi 0) (Sp.qi 1) k12)) (cc (fun hc => ((@ev50 (2) (1) (k14 ((i_at (i_at (i_bt i_eq))).1 hc))):Ev M1 (Conf.pure 50 [vi 2,vi 1]) (zNmI3) [])) (cc (fun hc => ((k16 ((i_at (i_at (i_bt i_eq))).1 hc)):Ev M1 (Conf.pure 49 [AV.vec false 20 (List.map Pnt.a zNmI4),AV.vec true 20 [zNmI3]]) (vb b1) [])) (cc (fun hc => ((@ev50 (-1) (1) (k18 ((i_at (i_at (i_bt (ZaK i_eq (ZaH _))))).1 hc))):Ev M1 (Conf.pure 50 [vi (-1),vi 1]) (zNmI2) [])) (cc (fun hc => ((@ev50 (1) (1) (k20 ((i_at (i_at (i_bt (ZaK i_eq (ZaH _))))).1 hc))):Ev M1 (Conf.pure 50 [vi 1,vi 1]) (Zg0) [])) (cc (fun hc => ((k22 ((i_at (i_at (i_bt (ZaK i_eq (ZaH _))))).1 hc)):Ev M1 (Conf.pure 49 [AV.vec false 20 (List.map Pnt.a zNmI6),AV.vec true 20 [zNmI2,Zg0]]) (vb b2) [])) (cc (fun hc => ((@ev50 (1) (1) (k24 ((i_at (i_at (i_bt (ZaK (ZaK i_eq (ZaH _)) (ZaH _))))).1 hc))):Ev M1 (Conf.pure 50 [vi 1,vi 1]) (Zg0) [])) (cc (fun hc => ((k26 ((i_at (i_at (i_bt (ZaK (ZaK i_eq (ZaH _)) (ZaH _))))).1 hc)):Ev M1 (Conf.pure 49 [AV.vec false 20 (List.map Pnt.a zNmI7),AV.vec true 20 [Zg0]]) (vb b3) [])) (cc (fun hc => ((@ev47 (1) (1) (2) k7):Ev M1 (Conf.pure 47 [vi 1,vi 1,vi 2]) (Zay (Sp.qi 1) (Sp.qi 1) (Sp.qi 2)) [])) (cc (fun hc => ((@ev48 (0) (0) (2) k5):Ev M1 (Conf.pure 48 [vi 0,vi 0,vi 2]) (Zay (Sp.qi 0) (Sp.qi 0) (Sp.qi 2)) [])) (cc (fun hc => ((@ev19 (false) (false) (false) (false) (false) (false) (false) (false) (false) (false) (false) (false) (Sp.qi 1) (Sp.qi 1) (Sp.qi 2) (Sp.qi 0) (Sp.qi 0) (Sp.qi 2) k8):Ev M1 (Conf.pure 19 [Zay (Sp.qi 1) (Sp.qi 1) (Sp.qi 2),Zay (Sp.qi 0) (Sp.qi 0) (Sp.qi 2)]) (vb (decide zNmI5)) [])) c0))))))))))))))))))))))))) (by (try rw [w27]);all_goals exact H)
end Go.Av

namespace Go.Av
open Go.Proofs
theorem okT_sm {n:Int} (h:n.natAbs < 1000000000):Sp.okT 1 (Sp.qi n):=by
 rw [Zfy]
 have e:(1000000000:Nat) ^ 1 = 1000000000:=rfl
 refine ⟨?_,?_⟩
 ·rw [Rat.num_intCast]
  refine Zax.1 ?_
  unfold Sp.fits;omega
 ·rw [Rat.den_intCast]
  refine Zax.1 ?_
  unfold Sp.fits;omega
theorem sm_30 {n:Int} (h:n.natAbs<1000000000):Sp.okT 30 (Sp.qi n):=Zat (okT_sm h) (by omega)
theorem sm_2 {n:Int} (h:n.natAbs<1000000000):Sp.okT 2 (Sp.qi n):=Zat (okT_sm h) (by omega)
theorem okP5_at {x y:Rat} {k:Nat} (hx:Sp.okT k x) (hy:Sp.okT k y) (hk:k<=2200):Sp.ZeZ (Sp.atP x y):=⟨⟨Zat hx hk,Zat Zb4 (by omega)⟩,⟨Zat hy hk,Zat Zb4 (by omega)⟩,Zat Zb4 (by omega)⟩
def Sp.okP4 (p:Pnt):Prop:=(Sp.okT 2100 p.ax/\Sp.okT 200 p.bx)/\(Sp.okT 2100 p.ay/\Sp.okT 200 p.by_)/\Sp.okT 1700 p.c
theorem okP5_4 {p:Pnt} (h:Sp.okP4 p):Sp.ZeZ p:=⟨⟨Zat h.1.1 (by omega),h.1.2⟩,⟨Zat h.2.1.1 (by omega),h.2.1.2⟩,h.2.2⟩
theorem okP4_at {x y:Rat} (hx:Sp.okT 350 x) (hy:Sp.okT 350 y):Sp.okP4 (Sp.atP x y):=⟨⟨Zat hx (by omega),Zat Zb4 (by omega)⟩,⟨Zat hy (by omega),Zat Zb4 (by omega)⟩,Zat Zb4 (by omega)⟩
theorem okP4_surd {x u y v k:Rat} (h:Sp.okSr x u y v k):Sp.okP4 (Sp.Ze3 x u y v k):=by
 obtain ⟨⟨h1,h2⟩,⟨h3,h4⟩,h5,h6⟩:=h
 by_cases s:Sp.rsq k
 ·rw [show Sp.Ze3 x u y v k = Sp.atP (x + u * Sp.rt k) (y + v * Sp.rt k) from if_pos s]
  have a1:=ZaB h1 (Zaf h2 (ZdN s h5))
  have a2:=ZaB h3 (Zaf h4 (ZdN s h5))
  exact ⟨⟨Zat a1 (by omega),Zat Zb4 (by omega)⟩,⟨Zat a2 (by omega),Zat Zb4 (by omega)⟩,Zat Zb4 (by omega)⟩
 ·rw [show Sp.Ze3 x u y v k = ⟨x,u,y,v,if u = 0 /\ v = 0 then Sp.qi 0 else k⟩ from if_neg s]
  refine ⟨⟨Zat h1 (by omega),Zat h2 (by omega)⟩,⟨Zat h3 (by omega),Zat h4 (by omega)⟩,?_⟩
  show Sp.okT 1700 (if u = 0 /\ v = 0 then Sp.qi 0 else k)
  split
  ·exact Zat Zb4 (by omega)
  ·exact h5
theorem okT_d {a b c:Rat} (h:Sp.Zgl a b c):Sp.okT 30 (Sp.dU a b) /\ Sp.okT 30 (Sp.dV a b):=by
 obtain ⟨⟨ha,hb,hc⟩,_⟩:=h
 unfold Sp.dU Sp.dV
 cases Sp.dn a b with
 | true => exact ⟨Zbr hb,Zbr (Zbr ha)⟩
 | false => exact ⟨hb,Zbr ha⟩
theorem lineC_ok {a b c x y q:Rat} (h:Sp.Zgl a b c) (hv:Sp.ZdM x y) (hq:Sp.okT 30 q):(∀ p ∈ Sp.ZcQ a b c x y q,Sp.okP4 p) /\ (Sp.ZcQ a b c x y q).length <= 2:=by
 have hf:=okT_f h hv
 have hd:=okT_dep h hv hq
 have du:=okT_d h
 rcases tri (Sp.dep a b c x y q) with k | k | k
 ·rw [lineC_0 k];exact ⟨fun p hp => (nomatch hp),by simp⟩
 ·rw [lineC_1 k]
  exact ⟨fun p hp => by rw [List.mem_singleton.1 hp];exact okP4_at hf.1 hf.2,by simp⟩
 ·rw [Zgv k]
  refine ⟨fun p hp => ?_,by simp⟩
  simp only [List.mem_cons,List.not_mem_nil,or_false] at hp
  rcases hp with rfl | rfl
  ·exact okP4_surd ⟨⟨hf.1,Zbr du.1⟩,⟨hf.2,Zbr du.2⟩,hd,k⟩
  ·exact okP4_surd ⟨⟨hf.1,du.1⟩,⟨hf.2,du.2⟩,hd,k⟩
theorem lineR_ok {a b c x y q:Rat} (h:Sp.Zgl a b c) (hv:Sp.ZdM x y) (hq:Sp.okT 30 q):(∀ p ∈ Sp.Zej a b c x y q,Sp.ZeZ p) /\ (Sp.Zej a b c x y q).length <= 2:=by
 have hf:=okT_f h hv
 have r1:=okP5_rP h hv hq true
 have r2:=okP5_rP h hv hq false
 rcases tri (Sp.Zb3 a b c x y q) with k | k | k
 ·rw [lineR_0 k];exact ⟨fun p hp => (nomatch hp),by simp⟩
 ·rw [lineR_1 k]
  exact ⟨fun p hp => by rw [List.mem_singleton.1 hp];exact okP5_at hf.1 hf.2 (by omega),by simp⟩
 ·rw [lineR_2 k]
  split
  ·refine ⟨fun p hp => ?_,by simp⟩
   simp only [List.mem_cons,List.not_mem_nil,or_false] at hp
   rcases hp with rfl | rfl
   ·exact r2
   ·exact r1
  ·refine ⟨fun p hp => ?_,by simp⟩
   simp only [List.mem_cons,List.not_mem_nil,or_false] at hp
   rcases hp with rfl | rfl
   ·exact r1
   ·exact r2
theorem pl_C {a b c x y q:Rat} (h:Sp.Zgl a b c) (hv:Sp.ZdM x y) (hq:Sp.okT 30 q):Sp.okPL (Sp.ZcQ a b c x y q):=⟨fun p hp=>okP5_4 ((lineC_ok h hv hq).1 p hp),by have:=(lineC_ok h hv hq).2;omega⟩
theorem pl_R {a b c x y q:Rat} (h:Sp.Zgl a b c) (hv:Sp.ZdM x y) (hq:Sp.okT 30 q):Sp.okPL (Sp.Zej a b c x y q):=⟨(lineR_ok h hv hq).1,by have:=(lineR_ok h hv hq).2;omega⟩
theorem pl_nil:Sp.okPL []:=⟨fun p hp=>(nomatch hp),by simp⟩
theorem pl_cir {a b c x y z:Rat} (h:Sp.Zg3 a b c) (k:Sp.Zg3 x y z):Sp.okPL (Sp.ZgN a b c x y z) /\ Sp.okPL (Sp.cirR a b c x y z):=by
 unfold Sp.ZgN Sp.cirR
 have t:=Zek h
 by_cases n:a = x /\ b = y
 ·rw [if_pos n,if_pos n];exact ⟨pl_nil,pl_nil⟩
 ·rw [if_neg n,if_neg n]
  exact ⟨pl_C (rd_ln h k n) ⟨t.1,t.2.1⟩ t.2.2,pl_R (rd_ln h k n) ⟨t.1,t.2.1⟩ t.2.2⟩
theorem ZfR:∀ {l m:List Pnt},Sp.sameL l m -> Sp.eqL l m = true
 | [],[],_ => rfl
 | p :: l,q :: m,h => by rw [eqL_cons,decide_eq_true (cmpP_same h.1)];exact ZfR h.2
theorem qz:Sp.qi 0=0:=qi_z
theorem q_1:Sp.qi 1=1:=by rw [Zfy];rfl
theorem q_2:Sp.qi 2=2:=by rw [Zfy];rfl
theorem q_3:Sp.qi 3=3:=by rw [Zfy];rfl
theorem q_m:Sp.qi (-1) = -1:=by rw [Zfy];rfl
theorem ex_lin:Sp.Zev 1 1 3 1 (-1) 1 = 0 /\ Sp.linL 1 1 3 1 (-1) 1 = [Sp.atP 2 1]:=by
 have n:¬(1:Rat) * -1 - 1 * 1 = 0:=by decide +kernel
 rw [(lin_2 n).1,(lin_2 n).2]
 exact ⟨rfl,by rw [show ((3:Rat) * -1 - 1 * 1) / (1 * -1 - 1 * 1) = 2 by decide +kernel,show ((1:Rat) * 1 - 1 * 3) / (1 * -1 - 1 * 1) = 1 by decide +kernel]⟩
theorem rsq1:Sp.rsq (1:Rat):=rsq_of (s:=1) (by decide +kernel)
theorem rt1:Sp.rt (1:Rat)=1:=sqrt_unique (rt_nn rsq1) (by decide +kernel) (by rw [rt_mul rsq1];decide +kernel)
theorem ex_lc:Sp.ZcQ 0 1 1 0 0 2 = [Sp.atP (-1) 1,Sp.atP 1 1]:=by
 have fx:Sp.fX 0 1 1 0 0 = 0:=by unfold Sp.fX Sp.ZaS Sp.ZaD;decide +kernel
 have fy:Sp.fY 0 1 1 0 0 = 1:=by unfold Sp.fY Sp.ZaS Sp.ZaD;decide +kernel
 have d:Sp.dep 0 1 1 0 0 2 = 1:=by unfold Sp.dep;rw [fx,fy];unfold Sp.ZaD;decide +kernel
 have e:Sp.dn 0 1 = false:=decide_eq_false (by decide +kernel)
 rw [Zgv (by rw [d];decide +kernel),fx,fy,d]
 unfold Sp.dU Sp.dV Sp.Ze3
 rw [e,cond_false,cond_false,if_pos rsq1,if_pos rsq1,rt1,show (0:Rat) + -1 * 1 = -1 by decide +kernel,show (1:Rat) + - -0 * 1 = 1 by decide +kernel,show (0:Rat) + 1 * 1 = 1 by decide +kernel,show (1:Rat) + -0 * 1 = 1 by decide +kernel]
theorem ex_dep:Sp.dep 1 1 2 0 0 2 = 0 /\ Sp.ZcQ 1 1 2 0 0 2 = [Sp.atP 1 1]:=by
 have fx:Sp.fX 1 1 2 0 0 = 1:=by unfold Sp.fX Sp.ZaS Sp.ZaD;decide +kernel
 have fy:Sp.fY 1 1 2 0 0 = 1:=by unfold Sp.fY Sp.ZaS Sp.ZaD;decide +kernel
 have d:Sp.dep 1 1 2 0 0 2 = 0:=by unfold Sp.dep;rw [fx,fy];unfold Sp.ZaD;decide +kernel
 exact ⟨d,by rw [lineC_1 d,fx,fy]⟩
theorem ex_cir:Sp.Zdk 0 0 1 1 0 1 = 0 /\ (Sp.ZgN 0 0 1 1 0 1).length = 2 /\ Sp.Zdk 0 0 1 0 0 1 = 10:=by
 have n:¬((0:Rat) = 1 /\ (0:Rat) = 0):=by decide +kernel
 refine ⟨by unfold Sp.Zdk;rw [if_neg n],?_,by unfold Sp.Zdk;rw [if_pos ⟨rfl,rfl⟩,if_pos rfl]⟩
 unfold Sp.ZgN
 rw [if_neg n,Zgv ?_]
 ·rfl
 ·unfold Sp.rdA Sp.rdC Sp.dep Sp.fX Sp.fY Sp.ZaS Sp.ZaD
  rw [q_2]
  decide +kernel
theorem ev11:Ev M1 (.pure 11 []) (.bool true) []:=by
 have I:∀ n:Int,n.natAbs < 1000000000 -> Sp.inI n:=fun n h => by unfold Sp.inI;omega
 have l1:Sp.Zgl (Sp.qi 0) (Sp.qi 1) (Sp.qi 1):=⟨⟨sm_30 (by decide),sm_30 (by decide),sm_30 (by decide)⟩,.inr qi1_ne⟩
 have l2:Sp.Zgl (Sp.qi 1) (Sp.qi 1) (Sp.qi 2):=⟨⟨sm_30 (by decide),sm_30 (by decide),sm_30 (by decide)⟩,.inl qi1_ne⟩
 have v0:Sp.ZdM (Sp.qi 0) (Sp.qi 0):=⟨sm_30 (by decide),sm_30 (by decide)⟩
 have t2:Sp.okT 30 (Sp.qi 2):=sm_30 (by decide)
 have i1:Sp.Zg3 (Sp.qi 0) (Sp.qi 0) (Sp.qi 1):=⟨sm_2 (by decide),sm_2 (by decide),sm_2 (by decide)⟩
 have i2:Sp.Zg3 (Sp.qi 1) (Sp.qi 0) (Sp.qi 1):=⟨sm_2 (by decide),sm_2 (by decide),sm_2 (by decide)⟩
 have a1:Sp.Zg3 (Sp.qi 1) (Sp.qi 1) (Sp.qi 3):=⟨sm_2 (by decide),sm_2 (by decide),sm_2 (by decide)⟩
 have a2:Sp.Zg3 (Sp.qi 1) (Sp.qi (-1)) (Sp.qi 1):=⟨sm_2 (by decide),sm_2 (by decide),sm_2 (by decide)⟩
 have P:∀ m n:Int,m.natAbs < 1000000000 -> n.natAbs < 1000000000 -> Sp.ZeZ (Sp.atP (Sp.qi m) (Sp.qi n)):=fun m n h k => okP5_at (okT_sm h) (okT_sm k) (by omega)
 have E:∀ {l m:List Pnt} (v:Bool),l = m -> Sp.okPL m -> Ev M1 (.pure 49 [.vec false 20 (l.map Pnt.a),.vec v 20 (m.map Pnt.a)]) (.bool (Sp.eqL l m)) []:=fun v e h => ev49 false v _ _ ⟨by rw [e];exact h,h⟩
 have V:∀ x y:Rat,Sp.validP (Sp.atP x y):=at_valid
 have e1:Sp.linL (Sp.qi 1) (Sp.qi 1) (Sp.qi 3) (Sp.qi 1) (Sp.qi (-1)) (Sp.qi 1) = [Sp.atP (Sp.qi 2) (Sp.qi 1)]:=by rw [q_1,q_2,q_3,q_m];exact ex_lin.2
 have e2:Sp.ZcQ (Sp.qi 0) (Sp.qi 1) (Sp.qi 1) (Sp.qi 0) (Sp.qi 0) (Sp.qi 2) = [Sp.atP (Sp.qi (-1)) (Sp.qi 1),Sp.atP (Sp.qi 1) (Sp.qi 1)]:=by rw [q_1,q_2,q_m,qz];exact ex_lc
 have e3:Sp.ZcQ (Sp.qi 1) (Sp.qi 1) (Sp.qi 2) (Sp.qi 0) (Sp.qi 0) (Sp.qi 2) = [Sp.atP (Sp.qi 1) (Sp.qi 1)]:=by rw [q_1,q_2,qz];exact ex_dep.2
 have k1:=E true e1 ⟨fun p hp => by rw [List.mem_singleton.1 hp];exact P _ _ (by decide) (by decide),by decide⟩
 have k2:=E true e2 ⟨fun p hp => by simp only [List.mem_cons,List.not_mem_nil,or_false] at hp;rcases hp with rfl | rfl <;> exact P _ _ (by decide) (by decide),by decide⟩
 have k3:=E true e3 ⟨fun p hp => by rw [List.mem_singleton.1 hp];exact P _ _ (by decide) (by decide),by decide⟩
 rw [e1,show Sp.eqL [Sp.atP (Sp.qi 2) (Sp.qi 1)] [Sp.atP (Sp.qi 2) (Sp.qi 1)] = true from ZfR ⟨at_same _ _,trivial⟩] at k1
 rw [e2,show Sp.eqL [Sp.atP (Sp.qi (-1)) (Sp.qi 1),Sp.atP (Sp.qi 1) (Sp.qi 1)] [Sp.atP (Sp.qi (-1)) (Sp.qi 1),Sp.atP (Sp.qi 1) (Sp.qi 1)] = true from ZfR ⟨at_same _ _,at_same _ _,trivial⟩] at k2
 rw [e3,show Sp.eqL [Sp.atP (Sp.qi 1) (Sp.qi 1)] [Sp.atP (Sp.qi 1) (Sp.qi 1)] = true from ZfR ⟨at_same _ _,trivial⟩] at k3
 rw [<- e1] at k1
 rw [<- e2] at k2
 rw [<- e3] at k3
 have m (n:Int) (h:n.natAbs < 1000000000:=by decide):Sp.inI n:=I n h
 refine call11 (wAwake _ ⟨⟨m 1,m 1,m 3⟩,⟨m 1,m (-1),m 1⟩,⟨Zek a1,Zek a2⟩,⟨m 0,m 1,m 1⟩,⟨m 0,m 0,m 2⟩,⟨l1,v0,t2⟩,⟨m 1,m 1,m 2⟩,⟨l2,v0,t2⟩,⟨m 0,m 0,m 1⟩,⟨m 1,m 0,m 1⟩,⟨i1,i2⟩,⟨i1,i1⟩,fun _ => ⟨m 2,m 1⟩,true,fun _ => ?_,fun _ => ⟨m (-1),m 1⟩,fun _ => ⟨m 1,m 1⟩,true,fun _ => ?_,fun _ => ⟨m 1,m 1⟩,true,fun _ => ?_,?_⟩)
 ·rw [e1] at k1 ⊢;exact k1
 ·rw [e2] at k2 ⊢;exact k2
 ·rw [e3] at k3 ⊢;exact k3
 ·rw [q_1,q_2,q_3,q_m,qz,ex_lin.1,ex_cir.1,ex_cir.2.1,ex_cir.2.2,decide_eq_true ex_dep.1]
  rfl
namespace Sp
end Sp
end Go.Av

namespace Go.Av
open Go.Proofs
set_option maxRecDepth 100000
end Go.Av

namespace Go.Av
open Go.Proofs
theorem rd_ne {a b x y:Rat} (h:¬(a = x /\ b = y)):Sp.rdA a x ≠ 0 \/ Sp.rdA b y ≠ 0:=by
 unfold Sp.rdA
 rw [q_2]
 by_cases k:a = x
 ·exact .inr fun e => h ⟨k,by grind⟩
 ·exact .inl fun e => k (by grind)
end Go.Av

namespace Go.Av
open Go.Proofs
set_option maxRecDepth 100000
end Go.Av

namespace Go.Av
open Go.Proofs
end Go.Av

namespace Go.Av
open Go.Proofs
set_option maxRecDepth 100000
def fi6:Fi:=⟨135,[.tmp 6]⟩
def kp6:List (Nat × List Nat):=[(0,[3,4,5]),(1,[3,4,5,39]),(2,[6]),(3,[3,4,5,7,8]),(4,[3,4,5,7,8,49]),(5,[6]),(6,[3,4,5,7,83]),(7,[6]),(8,[3,4,5,7,9]),(9,[3,4,7,108]),(10,[6]),(11,[3,4,7,10]),(12,[7,10,12]),(13,[7,10,121,122,123]),(14,[7,10,121,122,123,124]),(15,[7,10,15,121,122,123]),(16,[7,10,121,122,123,130]),(17,[6]),(18,[7,10,121,122,123]),(19,[6])]
def lwRad_at (a b c x y z u v:Rat) (Q:AV->Heap->Prop):Prop:=Wp M1 (.run fi6 (atC (cd Tryz.f6) []) [(0,Zaq false false false false false false a b c),(1,Zaq false false false false false false x y z),(2,.agg [.bool (Sp.Zaa u.num),.vec false 1 ((Sp.Zad u.num).map (.int .u32)),.bool (Sp.Zaa (u.den:Int)),.vec false 1 ((Sp.Zad (u.den:Int)).map (.int .u32)),.bool (Sp.Zaa v.num),.vec false 1 ((Sp.Zad v.num).map (.int .u32)),.bool (Sp.Zaa (v.den:Int)),.vec false 1 ((Sp.Zad (v.den:Int)).map (.int .u32))])] []) Q
def lwRadR_at (s1 t1 f1 g1 s2 t2 f2 g2 s3 t3 f3 g3 s4 t4 f4 g4 s5 t5 f5 g5 s6 t6 f6 g6 s7 t7 f7 g7 s8 t8 f8 g8:Bool) (x1 y1 x2 y2 x3 y3 x4 y4 x5 y5 x6 y6 x7 y7 x8 y8:List Int) (Q:AV->Heap->Prop):Prop:=Wp M1 (.run fi6 (atC (cd Tryz.f6) []) [(0,.agg [.bool s1,.vec f1 1 (x1.map (.int .u32)),.bool t1,.vec g1 1 (y1.map (.int .u32)),.bool s2,.vec f2 1 (x2.map (.int .u32)),.bool t2,.vec g2 1 (y2.map (.int .u32)),.bool s3,.vec f3 1 (x3.map (.int .u32)),.bool t3,.vec g3 1 (y3.map (.int .u32))]),(1,.agg [.bool s4,.vec f4 1 (x4.map (.int .u32)),.bool t4,.vec g4 1 (y4.map (.int .u32)),.bool s5,.vec f5 1 (x5.map (.int .u32)),.bool t5,.vec g5 1 (y5.map (.int .u32)),.bool s6,.vec f6 1 (x6.map (.int .u32)),.bool t6,.vec g6 1 (y6.map (.int .u32))]),(2,.agg [.bool s7,.vec f7 1 (x7.map (.int .u32)),.bool t7,.vec g7 1 (y7.map (.int .u32)),.bool s8,.vec f8 1 (x8.map (.int .u32)),.bool t8,.vec g8 1 (y8.map (.int .u32))])] []) Q
def ZdS (p q r s t w:Rat) (l:List Pnt) (n i:Int) (Q:AV->Heap->Prop):Prop:=Wp M1 (.run fi6 (atC (cd Tryz.f6) [1,1,1,1,1,1,1,1,1,0,1,0,0]) [(7,.ptr 0 0 0 0),(10,.ptr 1 0 0 0),(121,.vec false 20 (l.map Pnt.a)),(122,.int .i64 n),(123,.int .i64 i)] [⟨[Zaq false false false false false false p q r],12,0,false,false⟩,⟨[Zaq false false false false false false s t w],12,0,false,false⟩]) Q
theorem call6 {args:List AV} {d:AV} (h:wc M1 fi6 Tryz.f6 args d):Ev M1 (.pure 6 args) d []:=pcl _ _ (by kernel_rfl) h
noncomputable abbrev zNmN1 (a:Rat) (b:Rat) (c:Rat) (x:Rat) (y:Rat) (z:Rat) (u:Rat) (v:Rat):=bif bif bif !Sp.ZdY a b c then true else !Sp.ZdY x y z then true else !Sp.Zbc 2 (Sp.Zaa u.num) (Sp.Zad u.num) (Sp.Zaa (↑u.den:Int)) (Sp.Zad (↑u.den:Int)) then true else !Sp.Zbc 2 (Sp.Zaa v.num) (Sp.Zad v.num) (Sp.Zaa (↑v.den:Int)) (Sp.Zad (↑v.den:Int))
noncomputable abbrev zNmN2 (x:Rat) (a:Rat) (y:Rat) (b:Rat) (z:Rat) (c:Rat):=bif bif !Sp.Zc3 (Sp.Zaa (Sp.qi 2*(x-a)).num) (Sp.Zad (Sp.qi 2*(x-a)).num) (Sp.Zaa (↑(Sp.qi 2*(x-a)).den:Int)) (Sp.Zad (↑(Sp.qi 2*(x-a)).den:Int)) then true else !Sp.Zc3 (Sp.Zaa (Sp.qi 2*(y-b)).num) (Sp.Zad (Sp.qi 2*(y-b)).num) (Sp.Zaa (↑(Sp.qi 2*(y-b)).den:Int)) (Sp.Zad (↑(Sp.qi 2*(y-b)).den:Int)) then true else !Sp.Zc3 (Sp.Zaa (x*x+y*y-z-(a*a+b*b-c)).num) (Sp.Zad (x*x+y*y-z-(a*a+b*b-c)).num) (Sp.Zaa (↑(x*x+y*y-z-(a*a+b*b-c)).den:Int)) (Sp.Zad (↑(x*x+y*y-z-(a*a+b*b-c)).den:Int))
noncomputable abbrev zNmN3 (x:Rat) (a:Rat) (y:Rat) (b:Rat) (z:Rat) (c:Rat):=bif bif bif !Sp.Zc3 (Sp.Zaa (Sp.qi 2*(x-a)).num) (Sp.Zad (Sp.qi 2*(x-a)).num) (Sp.Zaa (↑(Sp.qi 2*(x-a)).den:Int)) (Sp.Zad (↑(Sp.qi 2*(x-a)).den:Int)) then true else !Sp.Zc3 (Sp.Zaa (Sp.qi 2*(y-b)).num) (Sp.Zad (Sp.qi 2*(y-b)).num) (Sp.Zaa (↑(Sp.qi 2*(y-b)).den:Int)) (Sp.Zad (↑(Sp.qi 2*(y-b)).den:Int)) then true else !Sp.Zc3 (Sp.Zaa (x*x+y*y-z-(a*a+b*b-c)).num) (Sp.Zad (x*x+y*y-z-(a*a+b*b-c)).num) (Sp.Zaa (↑(x*x+y*y-z-(a*a+b*b-c)).den:Int)) (Sp.Zad (↑(x*x+y*y-z-(a*a+b*b-c)).den:Int)) then true else bif Sp.sgnI (Sp.qi 2*(x-a)).num==0 then Sp.sgnI (Sp.qi 2*(y-b)).num==0 else false
noncomputable abbrev zNmN4 (u:Rat) (v:Rat):=(vecF u v)
noncomputable abbrev zNmN5 (a:Rat) (b:Rat) (c:Rat) (x:Rat) (y:Rat) (z:Rat) (u:Rat):=bif bif !Sp.ZdY a b c then true else !Sp.ZdY x y z then true else !Sp.Zbc 2 (Sp.Zaa u.num) (Sp.Zad u.num) (Sp.Zaa (↑u.den:Int)) (Sp.Zad (↑u.den:Int))
noncomputable abbrev zNmN6 (x:Rat) (y:Rat) (z:Rat):=Sp.ZdY x y z
noncomputable abbrev zNmN7 (a:Rat) (b:Rat) (c:Rat) (x:Rat) (y:Rat) (z:Rat):=bif !Sp.ZdY a b c then true else !Sp.ZdY x y z
noncomputable abbrev zNmN8 (x:Rat) (y:Rat) (z:Rat) (a:Rat) (b:Rat) (c:Rat):=Sp.Zc3 (Sp.Zaa (x*x+y*y-z-(a*a+b*b-c)).num) (Sp.Zad (x*x+y*y-z-(a*a+b*b-c)).num) (Sp.Zaa (↑(x*x+y*y-z-(a*a+b*b-c)).den:Int)) (Sp.Zad (↑(x*x+y*y-z-(a*a+b*b-c)).den:Int))
noncomputable abbrev zNmN9 (x:Rat) (a:Rat) (y:Rat) (b:Rat):=bif !Sp.Zc3 (Sp.Zaa (Sp.qi 2*(x-a)).num) (Sp.Zad (Sp.qi 2*(x-a)).num) (Sp.Zaa (↑(Sp.qi 2*(x-a)).den:Int)) (Sp.Zad (↑(Sp.qi 2*(x-a)).den:Int)) then true else !Sp.Zc3 (Sp.Zaa (Sp.qi 2*(y-b)).num) (Sp.Zad (Sp.qi 2*(y-b)).num) (Sp.Zaa (↑(Sp.qi 2*(y-b)).den:Int)) (Sp.Zad (↑(Sp.qi 2*(y-b)).den:Int))
noncomputable abbrev zNmN10 (x:Rat) (a:Rat):=Sp.Zc3 (Sp.Zaa (Sp.qi 2*(x-a)).num) (Sp.Zad (Sp.qi 2*(x-a)).num) (Sp.Zaa (↑(Sp.qi 2*(x-a)).den:Int)) (Sp.Zad (↑(Sp.qi 2*(x-a)).den:Int))
noncomputable abbrev zNmN11 (y:Rat) (b:Rat):=Sp.Zc3 (Sp.Zaa (Sp.qi 2*(y-b)).num) (Sp.Zad (Sp.qi 2*(y-b)).num) (Sp.Zaa (↑(Sp.qi 2*(y-b)).den:Int)) (Sp.Zad (↑(Sp.qi 2*(y-b)).den:Int))
noncomputable abbrev zNmN12 (x:Rat) (a:Rat) (y:Rat) (b:Rat) (z:Rat) (c:Rat) (u:Rat) (v:Rat):=Sp.ZaS (Sp.qi 2*(x-a)) (Sp.qi 2*(y-b)) (x*x+y*y-z-(a*a+b*b-c)) u v
noncomputable abbrev zNmN13 (a:Rat) (b:Rat) (c:Rat):=Sp.ZdY a b c
noncomputable abbrev zNmN14 (u:Rat):=Sp.Zbc 2 (Sp.Zaa u.num) (Sp.Zad u.num) (Sp.Zaa (↑u.den:Int)) (Sp.Zad (↑u.den:Int))
noncomputable abbrev zNmN15 (v:Rat):=Sp.Zbc 2 (Sp.Zaa v.num) (Sp.Zad v.num) (Sp.Zaa (↑v.den:Int)) (Sp.Zad (↑v.den:Int))
theorem lwRad (a b c x y z u v:Rat)  (dq:AV) (H :
  (Sp.okRw (Sp.Zad a.num) (Sp.Zad (↑a.den:Int)) (Sp.Zad b.num) (Sp.Zad (↑b.den:Int)) (Sp.Zad c.num) (Sp.Zad (↑c.den:Int))) /\
  ((¬(¬(Sp.ZdY a b c = true))) -> (Sp.okRw (Sp.Zad x.num) (Sp.Zad (↑x.den:Int)) (Sp.Zad y.num) (Sp.Zad (↑y.den:Int)) (Sp.Zad z.num) (Sp.Zad (↑z.den:Int)))) /\
  ((¬((¬(Sp.ZdY a b c = true)) \/ (¬(Sp.ZdY x y z = true)))) -> (Sp.okU 2 (Sp.Zad u.num) (Sp.Zad (↑u.den:Int)))) /\
  ((¬(((¬(Sp.ZdY a b c = true)) \/ (¬(Sp.ZdY x y z = true))) \/ (¬(Sp.Zbc 2 (Sp.Zaa u.num) (Sp.Zad u.num) (Sp.Zaa (↑u.den:Int)) (Sp.Zad (↑u.den:Int)) = true)))) -> (Sp.okU 2 (Sp.Zad v.num) (Sp.Zad (↑v.den:Int)))) /\
  (((((¬(Sp.ZdY a b c = true)) \/ (¬(Sp.ZdY x y z = true))) \/ (¬(Sp.Zbc 2 (Sp.Zaa u.num) (Sp.Zad u.num) (Sp.Zaa (↑u.den:Int)) (Sp.Zad (↑u.den:Int)) = true))) \/ (¬(Sp.Zbc 2 (Sp.Zaa v.num) (Sp.Zad v.num) (Sp.Zaa (↑v.den:Int)) (Sp.Zad (↑v.den:Int)) = true))) -> vb true = dq) /\
  (¬((((¬(Sp.ZdY a b c = true)) \/ (¬(Sp.ZdY x y z = true))) \/ (¬(Sp.Zbc 2 (Sp.Zaa u.num) (Sp.Zad u.num) (Sp.Zaa (↑u.den:Int)) (Sp.Zad (↑u.den:Int)) = true))) \/ (¬(Sp.Zbc 2 (Sp.Zaa v.num) (Sp.Zad v.num) (Sp.Zaa (↑v.den:Int)) (Sp.Zad (↑v.den:Int)) = true))) -> ((a = x /\ b = y) -> (Sp.Zb5 a b c /\ Sp.Zb5 x y z) /\
    vb true = dq) /\
   (¬(a = x /\ b = y) -> (Sp.Zb5 a b c /\ Sp.Zb5 x y z) /\
    ((¬(false = true)) -> (Sp.okA (Sp.Zad (Sp.qi 2 * (x - a)).num) (Sp.Zad (↑(Sp.qi 2 * (x - a)).den:Int)))) /\
    ((¬(¬(Sp.Zc3 (Sp.Zaa (Sp.qi 2 * (x - a)).num) (Sp.Zad (Sp.qi 2 * (x - a)).num) (Sp.Zaa (↑(Sp.qi 2 * (x - a)).den:Int)) (Sp.Zad (↑(Sp.qi 2 * (x - a)).den:Int)) = true))) -> (Sp.okA (Sp.Zad (Sp.qi 2 * (y - b)).num) (Sp.Zad (↑(Sp.qi 2 * (y - b)).den:Int)))) /\
    ((¬((¬(Sp.Zc3 (Sp.Zaa (Sp.qi 2 * (x - a)).num) (Sp.Zad (Sp.qi 2 * (x - a)).num) (Sp.Zaa (↑(Sp.qi 2 * (x - a)).den:Int)) (Sp.Zad (↑(Sp.qi 2 * (x - a)).den:Int)) = true)) \/ (¬(Sp.Zc3 (Sp.Zaa (Sp.qi 2 * (y - b)).num) (Sp.Zad (Sp.qi 2 * (y - b)).num) (Sp.Zaa (↑(Sp.qi 2 * (y - b)).den:Int)) (Sp.Zad (↑(Sp.qi 2 * (y - b)).den:Int)) = true)))) -> (Sp.okA (Sp.Zad (x * x + y * y - z - (a * a + b * b - c)).num) (Sp.Zad (↑(x * x + y * y - z - (a * a + b * b - c)).den:Int)))) /\
    (((((¬(Sp.Zc3 (Sp.Zaa (Sp.qi 2 * (x - a)).num) (Sp.Zad (Sp.qi 2 * (x - a)).num) (Sp.Zaa (↑(Sp.qi 2 * (x - a)).den:Int)) (Sp.Zad (↑(Sp.qi 2 * (x - a)).den:Int)) = true)) \/ (¬(Sp.Zc3 (Sp.Zaa (Sp.qi 2 * (y - b)).num) (Sp.Zad (Sp.qi 2 * (y - b)).num) (Sp.Zaa (↑(Sp.qi 2 * (y - b)).den:Int)) (Sp.Zad (↑(Sp.qi 2 * (y - b)).den:Int)) = true))) \/ (¬(Sp.Zc3 (Sp.Zaa (x * x + y * y - z - (a * a + b * b - c)).num) (Sp.Zad (x * x + y * y - z - (a * a + b * b - c)).num) (Sp.Zaa (↑(x * x + y * y - z - (a * a + b * b - c)).den:Int)) (Sp.Zad (↑(x * x + y * y - z - (a * a + b * b - c)).den:Int)) = true))) \/ ((Sp.sgnI (Sp.qi 2 * (x - a)).num = 0) /\ (Sp.sgnI (Sp.qi 2 * (y - b)).num = 0))) -> vb false = dq) /\
    (¬((((¬(Sp.Zc3 (Sp.Zaa (Sp.qi 2 * (x - a)).num) (Sp.Zad (Sp.qi 2 * (x - a)).num) (Sp.Zaa (↑(Sp.qi 2 * (x - a)).den:Int)) (Sp.Zad (↑(Sp.qi 2 * (x - a)).den:Int)) = true)) \/ (¬(Sp.Zc3 (Sp.Zaa (Sp.qi 2 * (y - b)).num) (Sp.Zad (Sp.qi 2 * (y - b)).num) (Sp.Zaa (↑(Sp.qi 2 * (y - b)).den:Int)) (Sp.Zad (↑(Sp.qi 2 * (y - b)).den:Int)) = true))) \/ (¬(Sp.Zc3 (Sp.Zaa (x * x + y * y - z - (a * a + b * b - c)).num) (Sp.Zad (x * x + y * y - z - (a * a + b * b - c)).num) (Sp.Zaa (↑(x * x + y * y - z - (a * a + b * b - c)).den:Int)) (Sp.Zad (↑(x * x + y * y - z - (a * a + b * b - c)).den:Int)) = true))) \/ ((Sp.sgnI (Sp.qi 2 * (x - a)).num = 0) /\ (Sp.sgnI (Sp.qi 2 * (y - b)).num = 0))) -> (Sp.Zb5 a b c /\ Sp.ZdM u v) /\
     (Sp.Zb5 x y z /\ Sp.ZdM u v) /\
     (Sp.okR ((u - a) * (u - a) + (v - b) * (v - b) - c) /\ Sp.okR ((u - x) * (u - x) + (v - y) * (v - y) - z)) /\
     (Sp.Zb5 (Sp.qi 2 * (x - a)) (Sp.qi 2 * (y - b)) (x * x + y * y - z - (a * a + b * b - c)) /\ Sp.ZdM u v) /\
     ((¬((Sp.sgnI ((u - a) * (u - a) + (v - b) * (v - b) - c - ((u - x) * (u - x) + (v - y) * (v - y) - z)).num == 0) = (Sp.sgnI (Sp.ZaS (Sp.qi 2 * (x - a)) (Sp.qi 2 * (y - b)) (x * x + y * y - z - (a * a + b * b - c)) u v).num == 0))) -> vb false = dq) /\
     (¬(¬((Sp.sgnI ((u - a) * (u - a) + (v - b) * (v - b) - c - ((u - x) * (u - x) + (v - y) * (v - y) - z)).num == 0) = (Sp.sgnI (Sp.ZaS (Sp.qi 2 * (x - a)) (Sp.qi 2 * (y - b)) (x * x + y * y - z - (a * a + b * b - c)) u v).num == 0))) -> (Sp.Zg3 a b c /\ Sp.Zg3 x y z) /\
      ZdS (Sp.qi 2 * (x - a)) (Sp.qi 2 * (y - b)) (x * x + y * y - z - (a * a + b * b - c)) (Sp.qi 2 * (x - a)) (Sp.qi 2 * (y - b)) (x * x + y * y - z - (a * a + b * b - c)) (Sp.cirR a b c x y z) ((↑(Sp.cirR a b c x y z).length:Int)) (0) (Zag dq)))))) :
 lwRad_at a b c x y z u v (Zag dq):=by
 unfold lwRad_at
 obtain ⟨k1,k3,k5,k7,H⟩:=H
 refine Zae (G:=Zac kp6 [(1,0,.call (vb true) none),(1,4,.call (vb (zNmN13 a b c)) none),(1,9,.call (vb (zNmN6 x y z)) none),(1,15,.call (vb (zNmN14 u)) none),(1,21,.call (vb (zNmN15 v)) none)] []) 5 [] ⟨(atC (cd Tryz.f6) [1,0,1]),[(3,AV.ptr 0 0 0 0),(4,AV.ptr 1 0 0 0),(5,AV.ptr 2 0 0 0),(39,vb (zNmN1 a b c x y z u v))],[⟨[Zay a b c],12,0,false,false⟩,⟨[Zay x y z],12,0,false,false⟩,⟨[(zNmN4 u v)],8,0,false,false⟩],[true,!((!Sp.ZdY a b c) == false && true) || true,!((zNmN7 a b c x y z) == false && true) || true,!((zNmN5 a b c x y z u) == false && true) || true],[],[⟨true,false,11,[],[],vb true,[]⟩,⟨true,false,16,[Zay a b c],[],vb (zNmN13 a b c),[]⟩,⟨(!Sp.ZdY a b c) == false && true && true,false,16,[Zay x y z],[],vb (zNmN6 x y z),[]⟩,⟨(zNmN7 a b c x y z) == false && true && true,false,24,[ratF u,vi 2],[],vb (zNmN14 u),[]⟩,⟨(zNmN5 a b c x y z u) == false && true && true,false,24,[ratF v,vi 2],[],vb (zNmN15 v),[]⟩]⟩ (by kernel_rfl) (bc rfl (bc (Bool.or_true _) (bc (Bool.or_true _) (bc (Bool.or_true _) b0)))) q0 (cc (fun _ => (@ev11 )) (cc (fun _ => (@ev16 (Sp.Zaa a.num) (Sp.Zaa (↑a.den:Int)) (false) (false) (Sp.Zaa b.num) (Sp.Zaa (↑b.den:Int)) (false) (false) (Sp.Zaa c.num) (Sp.Zaa (↑c.den:Int)) (false) (false) (Sp.Zad a.num) (Sp.Zad (↑a.den:Int)) (Sp.Zad b.num) (Sp.Zad (↑b.den:Int)) (Sp.Zad c.num) (Sp.Zad (↑c.den:Int)) k1)) (cc (fun hc => ((@ev16 (Sp.Zaa x.num) (Sp.Zaa (↑x.den:Int)) (false) (false) (Sp.Zaa y.num) (Sp.Zaa (↑y.den:Int)) (false) (false) (Sp.Zaa z.num) (Sp.Zaa (↑z.den:Int)) (false) (false) (Sp.Zad x.num) (Sp.Zad (↑x.den:Int)) (Sp.Zad y.num) (Sp.Zad (↑y.den:Int)) (Sp.Zad z.num) (Sp.Zad (↑z.den:Int)) (k3 ((i_at (i_at (i_bf (ZaQ (ZaH _))))).1 hc))):Ev M1 (Conf.pure 16 [Zay x y z]) (vb (zNmN6 x y z)) [])) (cc (fun hc => ((@ev24 (Sp.Zaa u.num) (false) (Sp.Zaa (↑u.den:Int)) (false) (Sp.Zad u.num) (Sp.Zad (↑u.den:Int)) (2) (k5 ((i_at (i_at (i_bf (Za2 (ZaQ (ZaH _)) (ZaQ (ZaH _)))))).1 hc))):Ev M1 (Conf.pure 24 [ratF u,vi 2]) (vb (zNmN14 u)) [])) (cc (fun hc => ((@ev24 (Sp.Zaa v.num) (false) (Sp.Zaa (↑v.den:Int)) (false) (Sp.Zad v.num) (Sp.Zad (↑v.den:Int)) (2) (k7 ((i_at (i_at (i_bf (Za2 (Za2 (ZaQ (ZaH _)) (ZaQ (ZaH _))) (ZaQ (ZaH _)))))).1 hc))):Ev M1 (Conf.pure 24 [ratF v,vi 2]) (vb (zNmN15 v)) [])) c0))))) ?_
 rcases xq H with ⟨d9,H⟩|⟨d9,H⟩
 ·exact Zao (G:=Zac kp6 [(2,0,.call (vb true) none)] []) 1000 [true] (asm:=[(zNmN1 a b c x y z u v) == true]) (vb true) (by kernel_rfl) (bc (Zar ((Za2 (Za2 (Za2 (ZaQ (ZaH _)) (ZaQ (ZaH _))) (ZaQ (ZaH _))) (ZaQ (ZaH _))).2 d9)) b0) q0 (ce (@ev11 ) c0) H
 ·rcases xq H with ⟨d10,H⟩|⟨d10,H⟩
  ·obtain ⟨k11,H⟩:=H
   exact Zao (G:=Zac kp6 [(3,2,.call (tu [ag [vb false,vf [],vb false,vf [],vb false,vf [],vb false,vf [],vb false,vf [],vb false,vf []],vi 6]) none),(4,2,.call (vb (decide (a = x /\ b = y))) none)] []) 1000 [false,true] (asm:=[(zNmN1 a b c x y z u v) == false,true,true,true,true,true,(decide (a = x /\ b = y)) == true]) (vb true) (by kernel_rfl) (bc (Zan (fun h => d9 ((Za2 (Za2 (Za2 (ZaQ (ZaH _)) (ZaQ (ZaH _))) (ZaQ (ZaH _))) (ZaQ (ZaH _))).1 h))) (bc rfl (bc rfl (bc rfl (bc rfl (bc rfl (bc (Zar (Zab.2 d10)) b0))))))) q0 (ce (@ev25_y (false) (false) (false) (false) (false) (false) (false) (false) (false) (false) (false) (false) (a) (b) (c) (x) (y) (z) k11 d10) (ce (@ev26 (false) (false) (false) (false) (false) (false) (false) (false) (false) (false) (false) (false) (a) (b) (c) (x) (y) (z) k11) c0)) H
  ·obtain ⟨k13,k16,k18,k20,H⟩:=H
   refine Zae (G:=Zac kp6 [(3,2,.call (tu [Zay (Sp.qi 2 * (x - a)) (Sp.qi 2 * (y - b)) (x * x + y * y - z - (a * a + b * b - c)),vi 0]) none),(4,2,.call (vb (decide (a = x /\ b = y))) none),(6,5,.call (vb (zNmN10 x a)) none),(6,11,.call (vb (zNmN11 y b)) none),(6,17,.call (vb (zNmN8 x y z a b c)) none),(6,23,.call (vi (Sp.sgnI (Sp.qi 2 * (x - a)).num)) none),(6,28,.call (vi (Sp.sgnI (Sp.qi 2 * (y - b)).num)) none)] []) 12 [false,false] ⟨(atC (cd Tryz.f6) [1,1,1,1,0,1]),[(3,AV.ptr 0 0 0 0),(4,AV.ptr 1 0 0 0),(5,AV.ptr 2 0 0 0),(7,AV.ptr 3 0 0 0),(83,vb (zNmN3 x a y b z c))],[⟨[Zay a b c],12,0,false,false⟩,⟨[Zay x y z],12,0,false,false⟩,⟨[(zNmN4 u v)],8,0,false,false⟩,⟨[Zay (Sp.qi 2 * (x - a)) (Sp.qi 2 * (y - b)) (x * x + y * y - z - (a * a + b * b - c))],12,0,false,false⟩],[(zNmN1 a b c x y z u v) == false,true,true,true,true,true,(decide (a = x /\ b = y)) == false,true,!((!Sp.Zc3 (Sp.Zaa (Sp.qi 2 * (x - a)).num) (Sp.Zad (Sp.qi 2 * (x - a)).num) (Sp.Zaa (↑(Sp.qi 2 * (x - a)).den:Int)) (Sp.Zad (↑(Sp.qi 2 * (x - a)).den:Int))) == false && true) || true,!((zNmN9 x a y b) == false && true) || true,!((zNmN2 x a y b z c) == false && true) || true,!((Sp.sgnI (Sp.qi 2 * (x - a)).num == 0) == true && ((zNmN2 x a y b z c) == false && true)) || true],[],[⟨true,false,25,[Zay a b c,Zay x y z],[],tu [Zay (Sp.qi 2 * (x - a)) (Sp.qi 2 * (y - b)) (x * x + y * y - z - (a * a + b * b - c)),vi 0],[]⟩,⟨true,false,26,[Zay a b c,Zay x y z],[],vb (decide (a = x /\ b = y)),[]⟩,⟨false == false && true && true,false,27,[ratF (Sp.qi 2 * (x - a))],[],vb (zNmN10 x a),[]⟩,⟨(!Sp.Zc3 (Sp.Zaa (Sp.qi 2 * (x - a)).num) (Sp.Zad (Sp.qi 2 * (x - a)).num) (Sp.Zaa (↑(Sp.qi 2 * (x - a)).den:Int)) (Sp.Zad (↑(Sp.qi 2 * (x - a)).den:Int))) == false && true && true,false,27,[ratF (Sp.qi 2 * (y - b))],[],vb (zNmN11 y b),[]⟩,⟨(zNmN9 x a y b) == false && true && true,false,27,[ratF (x * x + y * y - z - (a * a + b * b - c))],[],vb (zNmN8 x y z a b c),[]⟩,⟨(zNmN2 x a y b z c) == false && true && true,false,20,[ratF (Sp.qi 2 * (x - a))],[],vi (Sp.sgnI (Sp.qi 2 * (x - a)).num),[]⟩,⟨(Sp.sgnI (Sp.qi 2 * (x - a)).num == 0) == true && ((zNmN2 x a y b z c) == false && true) && true,false,20,[ratF (Sp.qi 2 * (y - b))],[],vi (Sp.sgnI (Sp.qi 2 * (y - b)).num),[]⟩]⟩ (by kernel_rfl) (bc (Zan (fun h => d9 ((Za2 (Za2 (Za2 (ZaQ (ZaH _)) (ZaQ (ZaH _))) (ZaQ (ZaH _))) (ZaQ (ZaH _))).1 h))) (bc rfl (bc rfl (bc rfl (bc rfl (bc rfl (bc (Zan (fun h => d10 (Zab.1 h))) (bc rfl (bc (Bool.or_true _) (bc (Bool.or_true _) (bc (Bool.or_true _) (bc (Bool.or_true _) b0)))))))))))) q0 (cc (fun _ => (@ev25_n (false) (false) (false) (false) (false) (false) (false) (false) (false) (false) (false) (false) (a) (b) (c) (x) (y) (z) k13 d10)) (cc (fun _ => (@ev26 (false) (false) (false) (false) (false) (false) (false) (false) (false) (false) (false) (false) (a) (b) (c) (x) (y) (z) k13)) (cc (fun hc => ((@ev27 (Sp.Zaa (Sp.qi 2 * (x - a)).num) (false) (Sp.Zaa (↑(Sp.qi 2 * (x - a)).den:Int)) (false) (Sp.Zad (Sp.qi 2 * (x - a)).num) (Sp.Zad (↑(Sp.qi 2 * (x - a)).den:Int)) (k16 ((i_at (i_at (i_bf (ZaH _)))).1 hc))):Ev M1 (Conf.pure 27 [ratF (Sp.qi 2 * (x - a))]) (vb (zNmN10 x a)) [])) (cc (fun hc => ((@ev27 (Sp.Zaa (Sp.qi 2 * (y - b)).num) (false) (Sp.Zaa (↑(Sp.qi 2 * (y - b)).den:Int)) (false) (Sp.Zad (Sp.qi 2 * (y - b)).num) (Sp.Zad (↑(Sp.qi 2 * (y - b)).den:Int)) (k18 ((i_at (i_at (i_bf (ZaQ (ZaH _))))).1 hc))):Ev M1 (Conf.pure 27 [ratF (Sp.qi 2 * (y - b))]) (vb (zNmN11 y b)) [])) (cc (fun hc => ((@ev27 (Sp.Zaa (x * x + y * y - z - (a * a + b * b - c)).num) (false) (Sp.Zaa (↑(x * x + y * y - z - (a * a + b * b - c)).den:Int)) (false) (Sp.Zad (x * x + y * y - z - (a * a + b * b - c)).num) (Sp.Zad (↑(x * x + y * y - z - (a * a + b * b - c)).den:Int)) (k20 ((i_at (i_at (i_bf (Za2 (ZaQ (ZaH _)) (ZaQ (ZaH _)))))).1 hc))):Ev M1 (Conf.pure 27 [ratF (x * x + y * y - z - (a * a + b * b - c))]) (vb (zNmN8 x y z a b c)) [])) (cc (fun hc => ((@ev20 (false) (false) ((Sp.qi 2 * (x - a)).num) ((↑(Sp.qi 2 * (x - a)).den:Int))):Ev M1 (Conf.pure 20 [ratF (Sp.qi 2 * (x - a))]) (vi (Sp.sgnI (Sp.qi 2 * (x - a)).num)) [])) (cc (fun hc => ((@ev20 (false) (false) ((Sp.qi 2 * (y - b)).num) ((↑(Sp.qi 2 * (y - b)).den:Int))):Ev M1 (Conf.pure 20 [ratF (Sp.qi 2 * (y - b))]) (vi (Sp.sgnI (Sp.qi 2 * (y - b)).num)) [])) c0))))))) ?_
   rcases xq H with ⟨d24,H⟩|⟨d24,H⟩
   ·exact Zao (G:=Zac kp6 [] []) 1000 [true] (asm:=[(zNmN3 x a y b z c) == true]) (vb false) (by kernel_rfl) (bc (Zar ((Za2 (Za2 (Za2 (ZaQ (ZaH _)) (ZaQ (ZaH _))) (ZaQ (ZaH _))) (ZaK i_eq i_eq)).2 d24)) b0) q0 c0 H
   ·obtain ⟨k25,k26,k27,k28,H⟩:=H
    refine Zae (G:=Zac kp6 [(8,5,.call (ratF ((u - a) * (u - a) + (v - b) * (v - b) - c)) none),(8,11,.call (ratF ((u - x) * (u - x) + (v - y) * (v - y) - z)) none),(8,12,.call (ratF ((u - a) * (u - a) + (v - b) * (v - b) - c - ((u - x) * (u - x) + (v - y) * (v - y) - z))) none),(9,1,.call (vi (Sp.sgnI ((u - a) * (u - a) + (v - b) * (v - b) - c - ((u - x) * (u - x) + (v - y) * (v - y) - z)).num)) none),(9,8,.call (ratF (zNmN12 x a y b z c u v)) none),(9,9,.call (vi (Sp.sgnI (zNmN12 x a y b z c u v).num)) none)] []) 7 [false] ⟨(atC (cd Tryz.f6) [1,1,1,1,1,1,0,1]),[(3,AV.ptr 0 0 0 0),(4,AV.ptr 1 0 0 0),(7,AV.ptr 3 0 0 0),(108,vb !(Sp.sgnI ((u - a) * (u - a) + (v - b) * (v - b) - c - ((u - x) * (u - x) + (v - y) * (v - y) - z)).num == 0) == (Sp.sgnI (zNmN12 x a y b z c u v).num == 0))],[⟨[Zay a b c],12,0,false,false⟩,⟨[Zay x y z],12,0,false,false⟩,⟨[(zNmN4 u v)],8,0,false,false⟩,⟨[Zay (Sp.qi 2 * (x - a)) (Sp.qi 2 * (y - b)) (x * x + y * y - z - (a * a + b * b - c))],12,0,false,false⟩,⟨[ratF ((u - a) * (u - a) + (v - b) * (v - b) - c - ((u - x) * (u - x) + (v - y) * (v - y) - z))],4,0,false,false⟩],[(zNmN3 x a y b z c) == false,true,true,true,true,true,true,true,true,true,true,true],[],_⟩ (by kernel_rfl) (bc (Zan (fun h => d24 ((Za2 (Za2 (Za2 (ZaQ (ZaH _)) (ZaQ (ZaH _))) (ZaQ (ZaH _))) (ZaK i_eq i_eq)).1 h))) (bc rfl (bc rfl (bc rfl (bc rfl (bc rfl (bc rfl (bc rfl (bc rfl (bc rfl (bc rfl (bc rfl b0)))))))))))) q0 (ce (@ev29 (false) (false) (false) (false) (false) (false) (false) (false) (false) (false) (a) (b) (c) (u) (v) k25) (ce (@ev29 (false) (false) (false) (false) (false) (false) (false) (false) (false) (false) (x) (y) (z) (u) (v) k26) (ce (@ev28 (false) (false) (false) (false) ((u - a) * (u - a) + (v - b) * (v - b) - c) ((u - x) * (u - x) + (v - y) * (v - y) - z) k27) (ce (@ev20 (false) (false) (((u - a) * (u - a) + (v - b) * (v - b) - c - ((u - x) * (u - x) + (v - y) * (v - y) - z)).num) ((↑((u - a) * (u - a) + (v - b) * (v - b) - c - ((u - x) * (u - x) + (v - y) * (v - y) - z)).den:Int))) (ce (@ev30 (false) (false) (false) (false) (false) (false) (false) (false) (false) (false) (Sp.qi 2 * (x - a)) (Sp.qi 2 * (y - b)) (x * x + y * y - z - (a * a + b * b - c)) (u) (v) k28) (ce (@ev20 (false) (false) ((zNmN12 x a y b z c u v).num) ((↑(zNmN12 x a y b z c u v).den:Int))) c0)))))) ?_
    rcases xq H with ⟨d30,H⟩|⟨d30,H⟩
    ·exact Zao (G:=Zac kp6 [] []) 1000 [true] (vb false) (by kernel_rfl) (bc (Zar ((ZaQ i_eq).2 d30)) b0) q0 c0 H
    ·obtain ⟨k31,H⟩:=H
     have w32:(List.map Pnt.a (Sp.cirR a b c x y z)).length = (Sp.cirR a b c x y z).length:=List.length_map ..
     exact Zae (G:=Zac kp6 [(11,2,.call (tu [Zay (Sp.qi 2 * (x - a)) (Sp.qi 2 * (y - b)) (x * x + y * y - z - (a * a + b * b - c)),vi 0]) none),(12,2,.call (tu [AV.vec false 20 (List.map Pnt.a (Sp.cirR a b c x y z)),vi (Sp.Zdk a b c x y z)]) none)] []) 1000 [false] ⟨(atC (cd Tryz.f6) [1,1,1,1,1,1,1,1,1,0,1,0,0]),[(7,AV.ptr 3 0 0 0),(10,AV.ptr 5 0 0 0),(121,AV.vec false 20 (List.map Pnt.a (Sp.cirR a b c x y z))),(122,vi (↑(List.map Pnt.a (Sp.cirR a b c x y z)).length:Int)),(123,vi 0)],[⟨[Zay a b c],12,0,false,false⟩,⟨[Zay x y z],12,0,false,false⟩,⟨[(zNmN4 u v)],8,0,false,false⟩,⟨[Zay (Sp.qi 2 * (x - a)) (Sp.qi 2 * (y - b)) (x * x + y * y - z - (a * a + b * b - c))],12,0,false,false⟩,⟨[ratF ((u - a) * (u - a) + (v - b) * (v - b) - c - ((u - x) * (u - x) + (v - y) * (v - y) - z))],4,0,false,false⟩,⟨[Zay (Sp.qi 2 * (x - a)) (Sp.qi 2 * (y - b)) (x * x + y * y - z - (a * a + b * b - c))],12,0,false,false⟩],_,[],_⟩ (by kernel_rfl) (bc (Zan (fun h => d30 ((ZaQ i_eq).1 h))) (bc rfl (bc rfl (bc rfl (bc rfl (bc rfl b0)))))) q0 (ce (@ev31_n (false) (false) (false) (false) (false) (false) (false) (false) (false) (false) (false) (false) (a) (b) (c) (x) (y) (z) k13 d10) (ce (@ev23 (false) (false) (false) (false) (false) (false) (false) (false) (false) (false) (false) (false) (a) (b) (c) (x) (y) (z) k31) c0)) (by (try rw [w32]);all_goals exact ZbG [3,5] (by kernel_rfl) H)
noncomputable abbrev zNmN16 (s4:Bool) (f4:Bool) (x4:List Int) (t4:Bool) (g4:Bool) (y4:List Int) (s5:Bool) (f5:Bool) (x5:List Int) (t5:Bool) (g5:Bool) (y5:List Int) (s6:Bool) (f6:Bool) (x6:List Int) (t6:Bool) (g6:Bool) (y6:List Int):=ag [vb s4,AV.vec f4 1 (us x4),vb t4,AV.vec g4 1 (us y4),vb s5,AV.vec f5 1 (us x5),vb t5,AV.vec g5 1 (us y5),vb s6,AV.vec f6 1 (us x6),vb t6,AV.vec g6 1 (us y6)]
theorem lwRadR (s1 t1 f1 g1 s2 t2 f2 g2 s3 t3 f3 g3 s4 t4 f4 g4 s5 t5 f5 g5 s6 t6 f6 g6 s7 t7 f7 g7 s8 t8 f8 g8:Bool) (x1 y1 x2 y2 x3 y3 x4 y4 x5 y5 x6 y6 x7 y7 x8 y8:List Int)  (dq:AV) (H :
  (Sp.okRw x1 y1 x2 y2 x3 y3) /\
  ((¬(¬(Sp.ZcC s1 t1 s2 t2 s3 t3 x1 y1 x2 y2 x3 y3 = true))) -> (Sp.okRw x4 y4 x5 y5 x6 y6)) /\
  ((¬((¬(Sp.ZcC s1 t1 s2 t2 s3 t3 x1 y1 x2 y2 x3 y3 = true)) \/ (¬(Sp.ZcC s4 t4 s5 t5 s6 t6 x4 y4 x5 y5 x6 y6 = true)))) -> (Sp.okU 2 x7 y7)) /\
  ((¬(((¬(Sp.ZcC s1 t1 s2 t2 s3 t3 x1 y1 x2 y2 x3 y3 = true)) \/ (¬(Sp.ZcC s4 t4 s5 t5 s6 t6 x4 y4 x5 y5 x6 y6 = true))) \/ (¬(Sp.Zbc 2 s7 x7 t7 y7 = true)))) -> (Sp.okU 2 x8 y8)) /\
  (((((¬(Sp.ZcC s1 t1 s2 t2 s3 t3 x1 y1 x2 y2 x3 y3 = true)) \/ (¬(Sp.ZcC s4 t4 s5 t5 s6 t6 x4 y4 x5 y5 x6 y6 = true))) \/ (¬(Sp.Zbc 2 s7 x7 t7 y7 = true))) \/ (¬(Sp.Zbc 2 s8 x8 t8 y8 = true))) -> vb true = dq) /\
  (¬((((¬(Sp.ZcC s1 t1 s2 t2 s3 t3 x1 y1 x2 y2 x3 y3 = true)) \/ (¬(Sp.ZcC s4 t4 s5 t5 s6 t6 x4 y4 x5 y5 x6 y6 = true))) \/ (¬(Sp.Zbc 2 s7 x7 t7 y7 = true))) \/ (¬(Sp.Zbc 2 s8 x8 t8 y8 = true))) -> False)) :
 lwRadR_at s1 t1 f1 g1 s2 t2 f2 g2 s3 t3 f3 g3 s4 t4 f4 g4 s5 t5 f5 g5 s6 t6 f6 g6 s7 t7 f7 g7 s8 t8 f8 g8 x1 y1 x2 y2 x3 y3 x4 y4 x5 y5 x6 y6 x7 y7 x8 y8 (Zag dq):=by
 unfold lwRadR_at
 obtain ⟨k1,k3,k5,k7,H⟩:=H
 refine Zae (G:=Zac kp6 [(1,0,.call (vb true) none),(1,4,.call (vb (Sp.ZcC s1 t1 s2 t2 s3 t3 x1 y1 x2 y2 x3 y3)) none),(1,9,.call (vb (Sp.ZcC s4 t4 s5 t5 s6 t6 x4 y4 x5 y5 x6 y6)) none),(1,15,.call (vb (Sp.Zbc 2 s7 x7 t7 y7)) none),(1,21,.call (vb (Sp.Zbc 2 s8 x8 t8 y8)) none)] []) 5 [] ⟨(atC (cd Tryz.f6) [1,0,1]),[(3,AV.ptr 0 0 0 0),(4,AV.ptr 1 0 0 0),(5,AV.ptr 2 0 0 0),(39,vb (bif bif bif !Sp.ZcC s1 t1 s2 t2 s3 t3 x1 y1 x2 y2 x3 y3 then true else !Sp.ZcC s4 t4 s5 t5 s6 t6 x4 y4 x5 y5 x6 y6 then true else !Sp.Zbc 2 s7 x7 t7 y7 then true else !Sp.Zbc 2 s8 x8 t8 y8))],[⟨[ag [vb s1,AV.vec f1 1 (us x1),vb t1,AV.vec g1 1 (us y1),vb s2,AV.vec f2 1 (us x2),vb t2,AV.vec g2 1 (us y2),vb s3,AV.vec f3 1 (us x3),vb t3,AV.vec g3 1 (us y3)]],12,0,false,false⟩,⟨[(zNmN16 s4 f4 x4 t4 g4 y4 s5 f5 x5 t5 g5 y5 s6 f6 x6 t6 g6 y6)],12,0,false,false⟩,⟨[ag [vb s7,AV.vec f7 1 (us x7),vb t7,AV.vec g7 1 (us y7),vb s8,AV.vec f8 1 (us x8),vb t8,AV.vec g8 1 (us y8)]],8,0,false,false⟩],[true,!((!Sp.ZcC s1 t1 s2 t2 s3 t3 x1 y1 x2 y2 x3 y3) == false && true) || true,!((bif !Sp.ZcC s1 t1 s2 t2 s3 t3 x1 y1 x2 y2 x3 y3 then true else !Sp.ZcC s4 t4 s5 t5 s6 t6 x4 y4 x5 y5 x6 y6) == false && true) || true,!((bif bif !Sp.ZcC s1 t1 s2 t2 s3 t3 x1 y1 x2 y2 x3 y3 then true else !Sp.ZcC s4 t4 s5 t5 s6 t6 x4 y4 x5 y5 x6 y6 then true else !Sp.Zbc 2 s7 x7 t7 y7) == false && true) || true],[],[⟨true,false,11,[],[],vb true,[]⟩,⟨true,false,16,[ag [vb s1,AV.vec f1 1 (us x1),vb t1,AV.vec g1 1 (us y1),vb s2,AV.vec f2 1 (us x2),vb t2,AV.vec g2 1 (us y2),vb s3,AV.vec f3 1 (us x3),vb t3,AV.vec g3 1 (us y3)]],[],vb (Sp.ZcC s1 t1 s2 t2 s3 t3 x1 y1 x2 y2 x3 y3),[]⟩,⟨(!Sp.ZcC s1 t1 s2 t2 s3 t3 x1 y1 x2 y2 x3 y3) == false && true && true,false,16,[(zNmN16 s4 f4 x4 t4 g4 y4 s5 f5 x5 t5 g5 y5 s6 f6 x6 t6 g6 y6)],[],vb (Sp.ZcC s4 t4 s5 t5 s6 t6 x4 y4 x5 y5 x6 y6),[]⟩,⟨(bif !Sp.ZcC s1 t1 s2 t2 s3 t3 x1 y1 x2 y2 x3 y3 then true else !Sp.ZcC s4 t4 s5 t5 s6 t6 x4 y4 x5 y5 x6 y6) == false && true && true,false,24,[ag [vb s7,AV.vec f7 1 (us x7),vb t7,AV.vec g7 1 (us y7)],vi 2],[],vb (Sp.Zbc 2 s7 x7 t7 y7),[]⟩,⟨(bif bif !Sp.ZcC s1 t1 s2 t2 s3 t3 x1 y1 x2 y2 x3 y3 then true else !Sp.ZcC s4 t4 s5 t5 s6 t6 x4 y4 x5 y5 x6 y6 then true else !Sp.Zbc 2 s7 x7 t7 y7) == false && true && true,false,24,[ag [vb s8,AV.vec f8 1 (us x8),vb t8,AV.vec g8 1 (us y8)],vi 2],[],vb (Sp.Zbc 2 s8 x8 t8 y8),[]⟩]⟩ (by kernel_rfl) (bc rfl (bc (Bool.or_true _) (bc (Bool.or_true _) (bc (Bool.or_true _) b0)))) q0 (cc (fun _ => (@ev11 )) (cc (fun _ => (@ev16 (s1) (t1) (f1) (g1) (s2) (t2) (f2) (g2) (s3) (t3) (f3) (g3) (x1) (y1) (x2) (y2) (x3) (y3) k1)) (cc (fun hc => ((@ev16 (s4) (t4) (f4) (g4) (s5) (t5) (f5) (g5) (s6) (t6) (f6) (g6) (x4) (y4) (x5) (y5) (x6) (y6) (k3 ((i_at (i_at (i_bf (ZaQ (ZaH _))))).1 hc))):Ev M1 (Conf.pure 16 [(zNmN16 s4 f4 x4 t4 g4 y4 s5 f5 x5 t5 g5 y5 s6 f6 x6 t6 g6 y6)]) (vb (Sp.ZcC s4 t4 s5 t5 s6 t6 x4 y4 x5 y5 x6 y6)) [])) (cc (fun hc => ((@ev24 (s7) (f7) (t7) (g7) (x7) (y7) (2) (k5 ((i_at (i_at (i_bf (Za2 (ZaQ (ZaH _)) (ZaQ (ZaH _)))))).1 hc))):Ev M1 (Conf.pure 24 [ag [vb s7,AV.vec f7 1 (us x7),vb t7,AV.vec g7 1 (us y7)],vi 2]) (vb (Sp.Zbc 2 s7 x7 t7 y7)) [])) (cc (fun hc => ((@ev24 (s8) (f8) (t8) (g8) (x8) (y8) (2) (k7 ((i_at (i_at (i_bf (Za2 (Za2 (ZaQ (ZaH _)) (ZaQ (ZaH _))) (ZaQ (ZaH _)))))).1 hc))):Ev M1 (Conf.pure 24 [ag [vb s8,AV.vec f8 1 (us x8),vb t8,AV.vec g8 1 (us y8)],vi 2]) (vb (Sp.Zbc 2 s8 x8 t8 y8)) [])) c0))))) ?_
 rcases xq H with ⟨d9,H⟩|⟨d9,H⟩
 ·exact Zao (G:=Zac kp6 [(2,0,.call (vb true) none)] []) 1000 [true] (asm:=[(bif bif bif !Sp.ZcC s1 t1 s2 t2 s3 t3 x1 y1 x2 y2 x3 y3 then true else !Sp.ZcC s4 t4 s5 t5 s6 t6 x4 y4 x5 y5 x6 y6 then true else !Sp.Zbc 2 s7 x7 t7 y7 then true else !Sp.Zbc 2 s8 x8 t8 y8) == true]) (vb true) (by kernel_rfl) (bc (Zar ((Za2 (Za2 (Za2 (ZaQ (ZaH _)) (ZaQ (ZaH _))) (ZaQ (ZaH _))) (ZaQ (ZaH _))).2 d9)) b0) q0 (ce (@ev11 ) c0) H
 ·exact False.elim H
noncomputable abbrev zNmN17 (l:List Pnt) (i:Int):=(Pnt.a (l.getD i.toNat default))
theorem lwRadH (p q r s t w:Rat) (l:List Pnt) (n i:Int)  (dq:AV) (H :
  ((i < n) -> (0 <= i) /\
   (i.toNat < l.length) /\
   (Sp.Zb5 p q r /\ Sp.ZeZ (l.getD i.toNat default) /\ Sp.isNN (l.getD i.toNat default).c) /\
   ((¬Sp.side p q r (l.getD i.toNat default).ax (l.getD i.toNat default).bx (l.getD i.toNat default).ay (l.getD i.toNat default).by_ (l.getD i.toNat default).c = 0) -> vb false = dq) /\
   (¬(¬Sp.side p q r (l.getD i.toNat default).ax (l.getD i.toNat default).bx (l.getD i.toNat default).ay (l.getD i.toNat default).by_ (l.getD i.toNat default).c = 0) -> (-9223372036854775808 <= i + 1 /\ i + 1 <= 9223372036854775807) /\
    ZdS (p) (q) (r) (s) (t) (w) (l) (n) (i + 1) (Zag dq))) /\
  (¬(i < n) -> (Sp.Zb5 p q r /\ Sp.Zb5 s t w) /\
   vb (decide (p * t = q * s /\ p * w = r * s /\ q * w = r * t)) = dq)) :
 ZdS p q r s t w l n i (Zag dq):=by
 unfold ZdS
 rcases xq H with ⟨d2,H⟩|⟨d2,H⟩
 ·obtain ⟨k4,H⟩:=H
  have w5:(List.map Pnt.a l).length = l.length:=List.length_map ..
  have i6:(decide (i.toNat < (List.map Pnt.a l).length)) = true ↔ (i.toNat < l.length):=(by (try rw [w5]);all_goals exact Zab)
  obtain ⟨k7,k8,H⟩:=H
  refine Zae (G:=Zac kp6 [(15,1,.elem ((zNmN17 l i))),(16,2,.call (vi (Sp.side p q r (l.getD i.toNat default).ax (l.getD i.toNat default).bx (l.getD i.toNat default).ay (l.getD i.toNat default).by_ (l.getD i.toNat default).c)) none)] []) 11 [true] ⟨(atC (cd Tryz.f6) [1,1,1,1,1,1,1,1,1,0,1,0,0,1,1,0,0,1,1]),[(7,AV.ptr 0 0 0 0),(10,AV.ptr 1 0 0 0),(121,AV.vec false 20 (List.map Pnt.a l)),(122,vi n),(123,vi i),(130,vb (Sp.side p q r (l.getD i.toNat default).ax (l.getD i.toNat default).bx (l.getD i.toNat default).ay (l.getD i.toNat default).by_ (l.getD i.toNat default).c != 0))],[⟨[Zay p q r],12,0,false,false⟩,⟨[Zay s t w],12,0,false,false⟩,⟨[(zNmN17 l i)],20,0,false,false⟩],_,[((List.map Pnt.a l).get?Internal i.toNat = some ((zNmN17 l i)))],_⟩ (by kernel_rfl) (bc (Zar (Zab.2 d2)) (bc (Zab.2 k4) (bc (i6.2 k7) (bc rfl (bc rfl (bc rfl b0)))))) (qc (Zav k7) q0) (ce (@ev32 (false) (false) (false) (false) (false) (false) (false) (false) (false) (false) (false) (false) (false) (false) (false) (false) (p) (q) (r) ((l.getD i.toNat default).ax) ((l.getD i.toNat default).bx) ((l.getD i.toNat default).ay) ((l.getD i.toNat default).by_) ((l.getD i.toNat default).c) k8) c0) ?_
  rcases xq H with ⟨d10,H⟩|⟨d10,H⟩
  ·exact Zao (G:=Zac kp6 [] []) 1000 [true] (vb false) (by kernel_rfl) (bc (Zar (i_ne.2 d10)) b0) q0 c0 H
  ·obtain ⟨k11,H⟩:=H
   have w12:wi (i + 1) = i + 1:=wI64 k11
   exact Zae (G:=Zac kp6 [] []) 1000 [false] ⟨(atC (cd Tryz.f6) [1,1,1,1,1,1,1,1,1,0,1,0,0]),[(7,AV.ptr 0 0 0 0),(10,AV.ptr 1 0 0 0),(121,AV.vec false 20 (List.map Pnt.a l)),(122,vi n),(123,vi (wi (i + 1)))],[⟨[Zay p q r],12,0,false,false⟩,⟨[Zay s t w],12,0,false,false⟩,⟨[(zNmN17 l i)],20,0,false,false⟩],_,[],_⟩ (by kernel_rfl) (bc (Zan (fun h => d10 (i_ne.1 h))) b0) q0 c0 (by (try rw [w12]);all_goals exact ZbG [0,1] (by kernel_rfl) H)
 ·obtain ⟨k13,H⟩:=H
  exact Zao (G:=Zac kp6 [(19,2,.call (vb (decide (p * t = q * s /\ p * w = r * s /\ q * w = r * t))) none)] []) 1000 [false] (vb (decide (p * t = q * s /\ p * w = r * s /\ q * w = r * t))) (by kernel_rfl) (bc (Zan (fun h => d2 (Zab.1 h))) (bc rfl (bc rfl b0))) q0 (ce (@ev33 (false) (false) (false) (false) (false) (false) (false) (false) (false) (false) (false) (false) (p) (q) (r) (s) (t) (w) k13) c0) H
end Go.Av

namespace Go.Av
open Go.Proofs
def Sp.onL (A B C:Rat) (p:Pnt):Prop:=A*p.ax+B*p.ay-C=0/\A*p.bx+B*p.by_=0/\Sp.isNN p.c
theorem nn_0:Sp.isNN (Sp.qi 0):=by rw [qi_z];exact Int.le_refl 0
theorem at_on {A B C x y:Rat} (h:A * x + B * y - C = 0):Sp.onL A B C (Sp.atP x y):=by
 refine ⟨h,?_,nn_0⟩
 show A * Sp.qi 0 + B * Sp.qi 0 = 0
 rw [qi_z];grind
theorem red_on {A B C x y w t k:Rat} (h:A * x + B * y - C = 0) (g:A * w + B * t = 0) (hk:0 < k):Sp.onL A B C (Sp.red x w y t k):=by
 unfold Sp.red
 by_cases s:Sp.rsq k
 ·rw [if_pos s]
  exact at_on (by grind)
 ·rw [if_neg s]
  exact ⟨h,g,nn_pos2 hk⟩
theorem lineR_on {A B C X Y Q:Rat} (h:A ≠ 0 \/ B ≠ 0):∀ p ∈ Sp.Zej A B C X Y Q,Sp.onL A B C p:=by
 have f:=f_eq (C:=C) (X:=X) (Y:=Y) h
 have r (k:0 < Sp.Zb3 A B C X Y Q) (s:Bool):Sp.onL A B C (Sp.rP s A B C X Y Q):=by
  cases s with
  | true => exact red_on f (by rw [Rat.div_def,Rat.div_def];grind) k
  | false => exact red_on f (by rw [Rat.div_def,Rat.div_def];grind) k
 rcases tri (Sp.Zb3 A B C X Y Q) with k | k | k
 ·rw [lineR_0 k];exact fun p hp => (nomatch hp)
 ·rw [lineR_1 k];intro p hp;rw [List.mem_singleton.1 hp];exact at_on f
 ·rw [lineR_2 k]
  split
  ·intro p hp
   simp only [List.mem_cons,List.not_mem_nil,or_false] at hp
   rcases hp with rfl | rfl
   ·exact r k false
   ·exact r k true
  ·intro p hp
   simp only [List.mem_cons,List.not_mem_nil,or_false] at hp
   rcases hp with rfl | rfl
   ·exact r k true
   ·exact r k false
theorem side_on {A B C:Rat} {p:Pnt} (h:Sp.onL A B C p):Sp.side A B C p.ax p.bx p.ay p.by_ p.c = 0:=by
 have m:Sp.mkA 0 0 p.c = 0:=by
  unfold Sp.mkA
  by_cases k:Sp.rsq p.c
  ·rw [if_pos k];grind
  ·rw [if_neg k]
 have n:Sp.mkB 0 p.c = 0:=by
  unfold Sp.mkB
  by_cases k:Sp.rsq p.c
  ·rw [if_pos k];exact qi_z
  ·rw [if_neg k]
 unfold Sp.side
 rw [h.1,h.2.1,m,n]
 unfold Sp.sgP
 rw [if_pos (.inl rfl)];rfl
theorem rad_loop {p q r:Rat} {l:List Pnt} (h3:Sp.Zb5 p q r) (hl:Sp.okPL l) (h:∀ x ∈ l,Sp.onL p q r x) (k:Nat):∀ i:Nat,i + k = l.length -> ZdS p q r p q r l l.length i (Zag (.bool true)):=by
 have hn:=hl.2
 induction k with
 | zero => exact fun i e => lwRadH _ _ _ _ _ _ _ _ _ _ ⟨fun x => by omega,fun _ => ⟨⟨h3,h3⟩,by rw [decide_eq_true ⟨Rat.mul_comm p q,Rat.mul_comm p r,Rat.mul_comm q r⟩]⟩⟩
 | succ k ih =>
  intro i e2
  have hi:i < l.length:=by omega
  have hm:=ZfQ (d:=l) (i:=i) hi
  have on:=h _ hm
  have nx:=ih (i + 1) (by omega)
  refine lwRadH _ _ _ _ _ _ _ _ _ _ ⟨fun x => ?_,fun x => by omega⟩
  rw [Int.toNat_natCast,show (i:Int) + 1 = ((i + 1:Nat):Int) by omega]
  exact ⟨by omega,hi,⟨h3,hl.1 _ hm,on.2.2⟩,fun bad => absurd (side_on on) bad,fun _ => ⟨by omega,nx⟩⟩
theorem pow_val (a b c x y z u v:Rat):(u - a) * (u - a) + (v - b) * (v - b) - c - ((u - x) * (u - x) + (v - y) * (v - y) - z) = Sp.ZaS (Sp.qi 2 * (x - a)) (Sp.qi 2 * (y - b)) (x * x + y * y - z - (a * a + b * b - c)) u v:=by
 unfold Sp.ZaS;rw [q_2];grind
theorem okT_pw {a b c u v:Rat} (h:Sp.Zg3 a b c) (hu:Sp.okT 2 u) (hv:Sp.okT 2 v):Sp.okR ((u - a) * (u - a) + (v - b) * (v - b) - c):=by
 have s1:=Zas hu h.1
 have s2:=Zas hv h.2.1
 exact Zaj (Zas (ZaB (Zaf s1 s1) (Zaf s2 s2)) h.2.2) (by omega)
theorem cirR_on {a b c x y z:Rat} (n:¬(a = x /\ b = y)):∀ p ∈ Sp.cirR a b c x y z,Sp.onL (Sp.rdA a x) (Sp.rdA b y) (Sp.rdC a b c x y z) p:=by
 unfold Sp.cirR
 rw [if_neg n]
 exact lineR_on (rd_ne n)
theorem sgn_ne {A:Rat} (h:A ≠ 0):¬Sp.sgnI A.num=0:=fun e=>h (Rat.num_eq_zero.1 (Zbz.1 e))
theorem ev6 (s1 t1 s2 t2 s3 t3 s4 t4 s5 t5 s6 t6 s7 t7 s8 t8:Bool) (x1 y1 x2 y2 x3 y3 x4 y4 x5 y5 x6 y6 x7 y7 x8 y8:List Int) (h1:Sp.okRw x1 y1 x2 y2 x3 y3) (h2:Sp.okRw x4 y4 x5 y5 x6 y6) (h3:Sp.okU 2 x7 y7) (h4:Sp.okU 2 x8 y8):Ev M1 (.pure 6 [.agg [.bool s1,.vec false 1 (x1.map (.int .u32)),.bool t1,.vec false 1 (y1.map (.int .u32)),.bool s2,.vec false 1 (x2.map (.int .u32)),.bool t2,.vec false 1 (y2.map (.int .u32)),.bool s3,.vec false 1 (x3.map (.int .u32)),.bool t3,.vec false 1 (y3.map (.int .u32))],.agg [.bool s4,.vec false 1 (x4.map (.int .u32)),.bool t4,.vec false 1 (y4.map (.int .u32)),.bool s5,.vec false 1 (x5.map (.int .u32)),.bool t5,.vec false 1 (y5.map (.int .u32)),.bool s6,.vec false 1 (x6.map (.int .u32)),.bool t6,.vec false 1 (y6.map (.int .u32))],.agg [.bool s7,.vec false 1 (x7.map (.int .u32)),.bool t7,.vec false 1 (y7.map (.int .u32)),.bool s8,.vec false 1 (x8.map (.int .u32)),.bool t8,.vec false 1 (y8.map (.int .u32))]]) (.bool true) []:=by
 have no (k:(((¬(Sp.ZcC s1 t1 s2 t2 s3 t3 x1 y1 x2 y2 x3 y3 = true)) \/ (¬(Sp.ZcC s4 t4 s5 t5 s6 t6 x4 y4 x5 y5 x6 y6 = true))) \/ (¬(Sp.Zbc 2 s7 x7 t7 y7 = true))) \/ (¬(Sp.Zbc 2 s8 x8 t8 y8 = true))):Ev M1 (.pure 6 [.agg [.bool s1,.vec false 1 (x1.map (.int .u32)),.bool t1,.vec false 1 (y1.map (.int .u32)),.bool s2,.vec false 1 (x2.map (.int .u32)),.bool t2,.vec false 1 (y2.map (.int .u32)),.bool s3,.vec false 1 (x3.map (.int .u32)),.bool t3,.vec false 1 (y3.map (.int .u32))],.agg [.bool s4,.vec false 1 (x4.map (.int .u32)),.bool t4,.vec false 1 (y4.map (.int .u32)),.bool s5,.vec false 1 (x5.map (.int .u32)),.bool t5,.vec false 1 (y5.map (.int .u32)),.bool s6,.vec false 1 (x6.map (.int .u32)),.bool t6,.vec false 1 (y6.map (.int .u32))],.agg [.bool s7,.vec false 1 (x7.map (.int .u32)),.bool t7,.vec false 1 (y7.map (.int .u32)),.bool s8,.vec false 1 (x8.map (.int .u32)),.bool t8,.vec false 1 (y8.map (.int .u32))]]) (.bool true) []:=call6 (lwRadR _ _ _ _ _ _ _ _ _ _ _ _ _ _ _ _ _ _ _ _ _ _ _ _ _ _ _ _ _ _ _ _ _ _ _ _ _ _ _ _ _ _ _ _ _ _ _ _ _ ⟨h1,fun _ => h2,fun _ => h3,fun _ => h4,fun _ => rfl,fun j => absurd k j⟩)
 by_cases k1:Sp.ZcC s1 t1 s2 t2 s3 t3 x1 y1 x2 y2 x3 y3 = true
 case neg => exact no (.inl (.inl (.inl k1)))
 by_cases k2:Sp.ZcC s4 t4 s5 t5 s6 t6 x4 y4 x5 y5 x6 y6 = true
 case neg => exact no (.inl (.inl (.inr k2)))
 by_cases k3:Sp.Zbc 2 s7 x7 t7 y7 = true
 case neg => exact no (.inl (.inr k3))
 by_cases k4:Sp.Zbc 2 s8 x8 t8 y8 = true
 case neg => exact no (.inr k4)
 clear no
 obtain ⟨a,b,c,e1,⟨rfl,rfl,rfl,rfl⟩,⟨rfl,rfl,rfl,rfl⟩,rfl,rfl,rfl,rfl⟩:=few3_rat (circB_few k1)
 obtain ⟨x,y,z,e2,⟨rfl,rfl,rfl,rfl⟩,⟨rfl,rfl,rfl,rfl⟩,rfl,rfl,rfl,rfl⟩:=few3_rat (circB_few k2)
 obtain ⟨u,hu0,rfl,rfl,rfl,rfl⟩:=Zc9 k3
 obtain ⟨v,hv0,rfl,rfl,rfl,rfl⟩:=Zc9 k4
 have hu:Sp.okT 2 u:=hu0
 have hv:Sp.okT 2 v:=hv0
 have t1:=Zek e1
 have t2:=Zek e2
 have hvn:Sp.ZdM u v:=⟨Zat hu (by omega),Zat hv (by omega)⟩
 refine call6 (lwRad _ _ _ _ _ _ _ _ _ ⟨h1,fun _ => h2,fun _ => h3,fun _ => h4,fun k => (k.elim (fun k => k.elim (fun k => k.elim (fun j => absurd k1 j) fun j => absurd k2 j) fun j => absurd k3 j) fun j => absurd k4 j),fun _ => ⟨fun _ => ⟨⟨t1,t2⟩,rfl⟩,fun n => ?_⟩⟩)
 have ln:=rd_ln e1 e2 n
 have ne:=rd_ne n
 have ok:=Zek e1
 refine ⟨⟨t1,t2⟩,fun _ => okA_rat ln.1.1 (by omega),fun _ => okA_rat ln.1.2.1 (by omega),fun _ => okA_rat ln.1.2.2 (by omega),fun bad => ?_,fun _ => ⟨⟨t1,hvn⟩,⟨t2,hvn⟩,⟨okT_pw e1 hu hv,okT_pw e2 hu hv⟩,⟨ln.1,hvn⟩,fun bad => absurd (by rw [pow_val]) bad,fun _ => ⟨⟨e1,e2⟩,rad_loop ln.1 (pl_cir e1 e2).2 (cirR_on n) (Sp.cirR a b c x y z).length 0 (by omega)⟩⟩⟩
 rcases bad with ((b1 | b1) | b1) | b1
 ·exact absurd (valB_rat _) b1
 ·exact absurd (valB_rat _) b1
 ·exact absurd (valB_rat _) b1
 ·rcases ne with ne | ne
  ·exact absurd b1.1 (sgn_ne ne)
  ·exact absurd b1.2 (sgn_ne ne)
end Go.Av
