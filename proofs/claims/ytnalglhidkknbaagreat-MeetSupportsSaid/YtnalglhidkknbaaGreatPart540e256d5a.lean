/- PART 6 of the texts of a claim, joined by a program: what each part shows stands at its head. -/
import Derived.Test.YtnalglhidkknbaaGreatPart275ef9d375

namespace Go.Av
open Go.Proofs
set_option maxRecDepth 100000
def fi23:Fi:=⟨26,[.tmp 4,.tmp 5]⟩
def kp23:List (Nat × List Nat):=[(0,[2,3]),(1,[2,3,10]),(2,[16]),(3,[4,5]),(4,[4,5]),(5,[2,6]),(6,[4,5])]
def fi46:Fi:=⟨5,[.cell 2 26]⟩
def kp46:List (Nat × List Nat):=[(0,[0,2]),(1,[2])]
def fi49:Fi:=⟨27,[.tmp 4]⟩
def kp49:List (Nat × List Nat):=[(0,[0,1]),(1,[0,1,10]),(2,[4]),(3,[0,1,5]),(4,[0,1,5,14]),(5,[0,1,5]),(6,[0,1,5,26]),(7,[4]),(8,[4])]
def fi51:Fi:=⟨36,[.tmp 2]⟩
def kp51:List (Nat × List Nat):=[(0,[0]),(1,[0,3]),(2,[0,3,7]),(3,[0,3]),(4,[0,3,35]),(5,[2]),(6,[2])]
def fi93:Fi:=⟨10,[.cell 4 47]⟩
def kp93:List (Nat × List Nat):=[(0,[0,1,4]),(1,[4])]
def rCir9_at (f1 f2 f3 f4 f5 f6 g1 g2 g3 g4 g5 g6:Bool) (a b c x y z:Rat) (Q:AV->Heap->Prop):Prop:=Wp M1 (.run fi23 (atC (cd Tryz.f23) []) [(0,Zar f1 f2 f3 f4 f5 f6 a b c),(1,Zar g1 g2 g3 g4 g5 g6 x y z)] []) Q
def rSame9_at (u v:Bool) (l m:List Pnt) (Q:AV->Heap->Prop):Prop:=Wp M1 (.run fi49 (atC (cd Tryz.f49) []) [(0,.vec u 20 (l.map Pnt.a)),(1,.vec v 20 (m.map Pnt.a))] []) Q
def Zdl (u v:Bool) (l m:List Pnt) (i:Int) (Q:AV->Heap->Prop):Prop:=Wp M1 (.run fi49 (atC (cd Tryz.f49) [1,1,0,1,0,0]) [(0,.vec u 20 (l.map Pnt.a)),(1,.vec v 20 (m.map Pnt.a)),(5,.int .i64 i)] []) Q
def wNum_at (a:Int) (Q:AV->Heap->Prop):Prop:=Wp M1 (.run fi46 (atC (cd Tryz.f46) []) [(0,.int .i64 a)] []) Q
def rVec7_at (a b:Int) (Q:AV->Heap->Prop):Prop:=Wp M1 (.run fi93 (atC (cd Tryz.f93) []) [(0,.int .i64 a),(1,.int .i64 b)] []) Q
def rFew_at (s1 t1 f1 g1 s2 t2 f2 g2 s3 t3 f3 g3:Bool) (x1 y1 x2 y2 x3 y3:List Int) (Q:AV->Heap->Prop):Prop:=Wp M1 (.run fi51 (atC (cd Tryz.f51) []) [(0,.vec true 4 [.agg [.bool s1,.vec f1 1 (x1.map (.int .u32)),.bool t1,.vec g1 1 (y1.map (.int .u32))],.agg [.bool s2,.vec f2 1 (x2.map (.int .u32)),.bool t2,.vec g2 1 (y2.map (.int .u32))],.agg [.bool s3,.vec f3 1 (x3.map (.int .u32)),.bool t3,.vec g3 1 (y3.map (.int .u32))]])] []) Q
def rFew0_at (s1 t1 f1 g1 s2 t2 f2 g2 s3 t3 f3 g3:Bool) (x1 y1 x2 y2 x3 y3:List Int) (Q:AV->Heap->Prop):Prop:=Wp M1 (.run fi51 (atC (cd Tryz.f51) [1,0,1,0,0]) [(0,.vec true 4 [.agg [.bool s1,.vec f1 1 (x1.map (.int .u32)),.bool t1,.vec g1 1 (y1.map (.int .u32))],.agg [.bool s2,.vec f2 1 (x2.map (.int .u32)),.bool t2,.vec g2 1 (y2.map (.int .u32))],.agg [.bool s3,.vec f3 1 (x3.map (.int .u32)),.bool t3,.vec g3 1 (y3.map (.int .u32))]]),(3,.int .i64 0)] []) Q
def rFew1_at (s1 t1 f1 g1 s2 t2 f2 g2 s3 t3 f3 g3:Bool) (x1 y1 x2 y2 x3 y3:List Int) (Q:AV->Heap->Prop):Prop:=Wp M1 (.run fi51 (atC (cd Tryz.f51) [1,0,1,0,0]) [(0,.vec true 4 [.agg [.bool s1,.vec f1 1 (x1.map (.int .u32)),.bool t1,.vec g1 1 (y1.map (.int .u32))],.agg [.bool s2,.vec f2 1 (x2.map (.int .u32)),.bool t2,.vec g2 1 (y2.map (.int .u32))],.agg [.bool s3,.vec f3 1 (x3.map (.int .u32)),.bool t3,.vec g3 1 (y3.map (.int .u32))]]),(3,.int .i64 1)] []) Q
def rFew2_at (s1 t1 f1 g1 s2 t2 f2 g2 s3 t3 f3 g3:Bool) (x1 y1 x2 y2 x3 y3:List Int) (Q:AV->Heap->Prop):Prop:=Wp M1 (.run fi51 (atC (cd Tryz.f51) [1,0,1,0,0]) [(0,.vec true 4 [.agg [.bool s1,.vec f1 1 (x1.map (.int .u32)),.bool t1,.vec g1 1 (y1.map (.int .u32))],.agg [.bool s2,.vec f2 1 (x2.map (.int .u32)),.bool t2,.vec g2 1 (y2.map (.int .u32))],.agg [.bool s3,.vec f3 1 (x3.map (.int .u32)),.bool t3,.vec g3 1 (y3.map (.int .u32))]]),(3,.int .i64 2)] []) Q
def rFew3_at (s1 t1 f1 g1 s2 t2 f2 g2 s3 t3 f3 g3:Bool) (x1 y1 x2 y2 x3 y3:List Int) (Q:AV->Heap->Prop):Prop:=Wp M1 (.run fi51 (atC (cd Tryz.f51) [1,0,1,0,0]) [(0,.vec true 4 [.agg [.bool s1,.vec f1 1 (x1.map (.int .u32)),.bool t1,.vec g1 1 (y1.map (.int .u32))],.agg [.bool s2,.vec f2 1 (x2.map (.int .u32)),.bool t2,.vec g2 1 (y2.map (.int .u32))],.agg [.bool s3,.vec f3 1 (x3.map (.int .u32)),.bool t3,.vec g3 1 (y3.map (.int .u32))]]),(3,.int .i64 3)] []) Q
theorem call23 {args:List AV} {d:AV} (h:wc M1 fi23 Tryz.f23 args d):Ev M1 (.pure 23 args) d []:=pcl _ _ (by kernel_rfl) h
theorem call46 {args:List AV} {d:AV} (h:wc M1 fi46 Tryz.f46 args d):Ev M1 (.pure 46 args) d []:=pcl _ _ (by kernel_rfl) h
theorem call49 {args:List AV} {d:AV} (h:wc M1 fi49 Tryz.f49 args d):Ev M1 (.pure 49 args) d []:=pcl _ _ (by kernel_rfl) h
theorem call51 {args:List AV} {d:AV} (h:wc M1 fi51 Tryz.f51 args d):Ev M1 (.pure 51 args) d []:=pcl _ _ (by kernel_rfl) h
theorem call93 {args:List AV} {d:AV} (h:wc M1 fi93 Tryz.f93 args d):Ev M1 (.pure 93 args) d []:=pcl _ _ (by kernel_rfl) h
theorem rCir9 (f1 f2 f3 f4 f5 f6 g1 g2 g3 g4 g5 g6:Bool) (a b c x y z:Rat)  (dq:AV) (H :
  (J.ZcW a b c/\J.ZcW x y z) /\
  ((a=x/\b=y)->(J.okR c/\J.okR z) /\
   ((J.sgnI (c.num*(↑z.den:Int)-z.num*(↑c.den:Int))=0)->Weak (tu [AV.vnil,vi 10]) dq) /\
   (¬(J.sgnI (c.num*(↑z.den:Int)-z.num*(↑c.den:Int))=0)->Weak (tu [AV.vnil,vi 0]) dq)) /\
  (¬(a=x/\b=y)->(J.Zfc (J.qi 2*(x-a)) (J.qi 2*(y-b)) (x*x+y*y-z-(a*a+b*b-c))/\J.ZdT a b/\J.okT 30 c) /\
   Weak (tu [AV.vec false 20 (List.map Pnt.a (J.Zcz (J.qi 2*(x-a)) (J.qi 2*(y-b)) (x*x+y*y-z-(a*a+b*b-c)) a b c)),vi 0]) dq)) :
 rCir9_at f1 f2 f3 f4 f5 f6 g1 g2 g3 g4 g5 g6 a b c x y z (Zag dq):=by
 unfold rCir9_at
 obtain ⟨k1,H⟩:=H
 refine Zae (G:=Zac kp23 [(1,2,.call (vb (decide (a=x/\b=y))) none)] []) 5 [] ⟨(atC (cd Tryz.f23) [1,0,1]),[(2,AV.ptr 0 0 0 0),(3,AV.ptr 1 0 0 0),(10,vb (decide (a=x/\b=y)))],[⟨[Zar f1 f2 f3 f4 f5 f6 a b c],12,0,false,false⟩,⟨[Zar g1 g2 g3 g4 g5 g6 x y z],12,0,false,false⟩],_,[],_⟩ (by kernel_rfl) (bc rfl (bc rfl b0)) q0 (ce (@ev26 f1 f2 f3 f4 f5 f6 g1 g2 g3 g4 g5 g6 a b c x y z k1) c0) ?_
 rcases xq H with ⟨d3,H⟩|⟨d3,H⟩
 ·obtain ⟨k4,H⟩:=H
  refine Zae (G:=Zac kp23 [(2,4,.call (vi (J.sgnI (c.num*(↑z.den:Int)-z.num*(↑c.den:Int)))) none)] []) 4 [true] ⟨(atC (cd Tryz.f23) [1,0,1,0,0,1]),[(16,vb (J.sgnI (c.num*(↑z.den:Int)-z.num*(↑c.den:Int))==0))],[⟨[Zar f1 f2 f3 f4 f5 f6 a b c],12,0,false,false⟩,⟨[Zar g1 g2 g3 g4 g5 g6 x y z],12,0,false,false⟩],_,[],_⟩ (by kernel_rfl) (bc (Zap (Zad.2 d3)) (bc rfl (bc rfl b0))) q0 (ce (@ev74 f5 f6 g5 g6 c z k4) c0) ?_
  rcases xq H with ⟨d6,H⟩|⟨d6,H⟩
  ·exact Zah (G:=Zac kp23 [] []) 1000 [true] (tu [AV.vnil,vi 10]) (by kernel_rfl) (bc (Zap (i_eq.2 d6)) b0) q0 c0 H
  ·exact Zah (G:=Zac kp23 [] []) 1000 [false] (tu [AV.vnil,vi 0]) (by kernel_rfl) (bc (Zam (fun h=>d6 (i_eq.1 h))) b0) q0 c0 H
 ·obtain ⟨k7,H⟩:=H
  exact Zah (G:=Zac kp23 [(5,2,.call (tu [ZaH (J.qi 2*(x-a)) (J.qi 2*(y-b)) (x*x+y*y-z-(a*a+b*b-c)),vi 0]) none),(6,2,.call (AV.vec false 20 (List.map Pnt.a (J.Zcz (J.qi 2*(x-a)) (J.qi 2*(y-b)) (x*x+y*y-z-(a*a+b*b-c)) a b c))) none)] []) 1000 [false] (tu [AV.vec false 20 (List.map Pnt.a (J.Zcz (J.qi 2*(x-a)) (J.qi 2*(y-b)) (x*x+y*y-z-(a*a+b*b-c)) a b c)),vi 0]) (by kernel_rfl) (bc (Zam (fun h=>d3 (Zad.1 h))) (bc rfl (bc rfl (bc rfl (bc rfl (bc rfl b0)))))) q0 (ce (@ev31_n f1 f2 f3 f4 f5 f6 g1 g2 g3 g4 g5 g6 a b c x y z k1 d3) (ce (@ev18 false false false false false false f1 f2 f3 f4 f5 f6 (J.qi 2*(x-a)) (J.qi 2*(y-b)) (x*x+y*y-z-(a*a+b*b-c)) a b c k7) c0)) H
theorem rSame9 (u v:Bool) (l m:List Pnt)  (dq:AV) (H :
  ((¬(↑l.length:Int)=(↑m.length:Int))->vb false=dq) /\
  (¬(¬(↑l.length:Int)=(↑m.length:Int))->Zdl u v l m 0 (Zag dq))) :
 rSame9_at u v l m (Zag dq):=by
 unfold rSame9_at
 have w1:(List.map Pnt.a l).length=l.length:=List.length_map ..
 have w2:(List.map Pnt.a m).length=m.length:=List.length_map ..
 have i3:((↑(List.map Pnt.a l).length:Int) != (↑(List.map Pnt.a m).length:Int))=true ↔ (¬(↑l.length:Int)=(↑m.length:Int)):=(by (try rw [w1]);(try rw [w2]);all_goals exact i_ne)
 rcases xq H with ⟨d4,H⟩|⟨d4,H⟩
 ·exact Zaq (G:=Zac kp49 [] []) 1000 [true] (vb false) (by kernel_rfl) (bc (Zap (i3.2 d4)) b0) q0 c0 H
 ·exact Zae (G:=Zac kp49 [] []) 1000 [false] ⟨(atC (cd Tryz.f49) [1,1,0,1,0,0]),[(0,AV.vec u 20 (List.map Pnt.a l)),(1,AV.vec v 20 (List.map Pnt.a m)),(5,vi 0)],[],_,[],_⟩ (by kernel_rfl) (bc (Zam (fun h=>d4 (i3.1 h))) b0) q0 c0 H
noncomputable abbrev zNmG1 (l:List Pnt) (i:Int):=(Pnt.a (l.getD i.toNat default))
noncomputable abbrev zNmG2 (m:List Pnt) (i:Int):=(Pnt.a (m.getD i.toNat default))
theorem rSame9H (u v:Bool) (l m:List Pnt) (i:Int)  (dq:AV) (H :
  ((i<(↑l.length:Int))->(J.ZfQ (l.getD i.toNat default)/\J.ZfQ (m.getD i.toNat default)) /\
   (0<=i) /\
   (i.toNat<l.length) /\
   (i.toNat<m.length) /\
   ((¬(J.Ze9 (l.getD i.toNat default) (m.getD i.toNat default)=0))->vb false=dq) /\
   (¬(¬(J.Ze9 (l.getD i.toNat default) (m.getD i.toNat default)=0))->(-9223372036854775808<=i+1/\i+1<=9223372036854775807) /\
    Zdl u v l m (i+1) (Zag dq))) /\
  (¬(i<(↑l.length:Int))->vb true=dq)) :
 Zdl u v l m i (Zag dq):=by
 unfold Zdl
 have w1:(List.map Pnt.a l).length=l.length:=List.length_map ..
 have i2:(decide (i<(↑(List.map Pnt.a l).length:Int)))=true ↔ (i<(↑l.length:Int)):=(by (try rw [w1]);all_goals exact Zad)
 rcases xq H with ⟨d3,H⟩|⟨d3,H⟩
 ·obtain ⟨k4,k6,H⟩:=H
  have i7:(decide (i.toNat<(List.map Pnt.a l).length))=true ↔ (i.toNat<l.length):=(by (try rw [w1]);all_goals exact Zad)
  obtain ⟨k8,H⟩:=H
  have w10:(List.map Pnt.a m).length=m.length:=List.length_map ..
  have i11:(decide (i.toNat<(List.map Pnt.a m).length))=true ↔ (i.toNat<m.length):=(by (try rw [w10]);all_goals exact Zad)
  obtain ⟨k12,H⟩:=H
  refine Zae (G:=Zac kp49 [(6,3,.elem (zNmG1 l i)),(6,7,.elem (zNmG2 m i)),(6,8,.call (vb (decide (J.Ze9 (l.getD i.toNat default) (m.getD i.toNat default)=0))) none)] []) 9 [true] ⟨(atC (cd Tryz.f49) [1,1,0,1,0,0,1,0,0,1]),[(0,AV.vec u 20 (List.map Pnt.a l)),(1,AV.vec v 20 (List.map Pnt.a m)),(5,vi i),(26,vb !decide (J.Ze9 (l.getD i.toNat default) (m.getD i.toNat default)=0))],[],_,[((List.map Pnt.a l).get?Internal i.toNat=some (zNmG1 l i)),((List.map Pnt.a m).get?Internal i.toNat=some (zNmG2 m i))],_⟩ (by kernel_rfl) (bc (Zap (i2.2 d3)) (bc (Zad.2 k6) (bc (i7.2 k8) (bc (Zad.2 k6) (bc (i11.2 k12) b0))))) (qc (Zaw k8) (qc (Zaw k12) q0)) (ce (@ev37 false false false false false false false false false false false false false false false false false false false false ((l.getD i.toNat default).ax) ((l.getD i.toNat default).bx) ((l.getD i.toNat default).ay) ((l.getD i.toNat default).by_) ((l.getD i.toNat default).c) ((m.getD i.toNat default).ax) ((m.getD i.toNat default).bx) ((m.getD i.toNat default).ay) ((m.getD i.toNat default).by_) ((m.getD i.toNat default).c) k4) c0) ?_
  rcases xq H with ⟨d14,H⟩|⟨d14,H⟩
  ·exact Zaq (G:=Zac kp49 [] []) 1000 [true] (vb false) (by kernel_rfl) (bc (Zap ((ZaN Zad).2 d14)) b0) q0 c0 H
  ·obtain ⟨k15,H⟩:=H
   have w16:wi (i+1)=i+1:=wI64 k15
   exact Zae (G:=Zac kp49 [] []) 1000 [false] ⟨(atC (cd Tryz.f49) [1,1,0,1,0,0]),[(0,AV.vec u 20 (List.map Pnt.a l)),(1,AV.vec v 20 (List.map Pnt.a m)),(5,vi (wi (i+1)))],[],_,[],_⟩ (by kernel_rfl) (bc (Zam (fun h=>d14 ((ZaN Zad).1 h))) b0) q0 c0 (by (try rw [w16]);all_goals exact H)
 ·exact Zaq (G:=Zac kp49 [] []) 1000 [false] (vb true) (by kernel_rfl) (bc (Zam (fun h=>d3 (i2.1 h))) b0) q0 c0 H
theorem wNum (a:Int)  (dq:AV) (H :
  (J.inI a) /\
  Weak (ratF (J.qi a)) dq) :
 wNum_at a (Zag dq):=by
 unfold wNum_at
 obtain ⟨k1,H⟩:=H
 exact Zah (G:=Zac kp46 [(1,1,.call (ratF (J.qi a)) none)] []) 1000 [] (ratF (J.qi a)) (by kernel_rfl) (bc rfl b0) q0 (ce (@ev84 a k1) c0) H
theorem rVec7 (a b:Int)  (dq:AV) (H :
  (J.inI a) /\
  (J.inI b) /\
  Weak ((vecF (J.qi a) (J.qi b))) dq) :
 rVec7_at a b (Zag dq):=by
 unfold rVec7_at
 obtain ⟨k1,k2,H⟩:=H
 exact Zah (G:=Zac kp93 [(1,1,.call (ratF (J.qi a)) none),(1,3,.call (ratF (J.qi b)) none)] []) 1000 [] ((vecF (J.qi a) (J.qi b))) (by kernel_rfl) (bc rfl b0) q0 (ce (@ev84 a k1) (ce (@ev84 b k2) c0)) H
theorem rFew (s1 t1 f1 g1 s2 t2 f2 g2 s3 t3 f3 g3:Bool) (x1 y1 x2 y2 x3 y3:List Int)  (dq:AV) (H :
  rFew0_at s1 t1 f1 g1 s2 t2 f2 g2 s3 t3 f3 g3 x1 y1 x2 y2 x3 y3 (Zag dq)) :
 rFew_at s1 t1 f1 g1 s2 t2 f2 g2 s3 t3 f3 g3 x1 y1 x2 y2 x3 y3 (Zag dq):=by
 unfold rFew_at
 exact Zae (G:=Zac kp51 [] []) 1000 [] ⟨(atC (cd Tryz.f51) [1,0,1,0,0]),[(0,AV.vec true 4 [ag [vb s1,AV.vec f1 1 (us x1),vb t1,AV.vec g1 1 (us y1)],ag [vb s2,AV.vec f2 1 (us x2),vb t2,AV.vec g2 1 (us y2)],ag [vb s3,AV.vec f3 1 (us x3),vb t3,AV.vec g3 1 (us y3)]]),(3,vi 0)],[],_,[],_⟩ (by kernel_rfl) b0 q0 c0 H
noncomputable abbrev zNmG3 (s1:Bool) (f1:Bool) (x1:List Int) (t1:Bool) (g1:Bool) (y1:List Int):=ag [vb s1,AV.vec f1 1 (us x1),vb t1,AV.vec g1 1 (us y1)]
theorem rFew0 (s1 t1 f1 g1 s2 t2 f2 g2 s3 t3 f3 g3:Bool) (x1 y1 x2 y2 x3 y3:List Int)  (dq:AV) (H :
  ((¬(((↑x1.length:Int)>2)\/((↑y1.length:Int)>2)))->(J.okA x1 y1)) /\
  (((((↑x1.length:Int)>2)\/((↑y1.length:Int)>2))\/(¬(J.Zcw s1 x1 t1 y1=true)))->vb false=dq) /\
  (¬((((↑x1.length:Int)>2)\/((↑y1.length:Int)>2))\/(¬(J.Zcw s1 x1 t1 y1=true)))->rFew1_at s1 t1 f1 g1 s2 t2 f2 g2 s3 t3 f3 g3 x1 y1 x2 y2 x3 y3 (Zag dq))) :
 rFew0_at s1 t1 f1 g1 s2 t2 f2 g2 s3 t3 f3 g3 x1 y1 x2 y2 x3 y3 (Zag dq):=by
 unfold rFew0_at
 have w1:(us x1).length=x1.length:=List.length_map ..
 have w2:(us y1).length=y1.length:=List.length_map ..
 have i3:((bif decide ((↑(us x1).length:Int)>2) then true else decide ((↑(us y1).length:Int)>2))==false&&true&&true)=true ↔ (¬(((↑x1.length:Int)>2)\/((↑y1.length:Int)>2))):=(by (try rw [w1]);(try rw [w2]);all_goals exact (i_at (i_at (i_bf (Za4 Zad Zad)))))
 obtain ⟨k4,H⟩:=H
 have i5:(bif bif decide ((↑(us x1).length:Int)>2) then true else decide ((↑(us y1).length:Int)>2) then true else !J.Zcw s1 x1 t1 y1)=true ↔ ((((↑x1.length:Int)>2)\/((↑y1.length:Int)>2))\/(¬(J.Zcw s1 x1 t1 y1=true))):=(by (try rw [w1]);(try rw [w2]);all_goals exact (Za4 (Za4 Zad Zad) (ZaN (Zau _))))
 refine Zae (G:=Zac kp51 [(4,23,.call (vb (J.Zcw s1 x1 t1 y1)) none)] []) 9 [true] ⟨(atC (cd Tryz.f51) [1,0,1,0,0,1,0,0,1]),[(0,AV.vec true 4 [(zNmG3 s1 f1 x1 t1 g1 y1),ag [vb s2,AV.vec f2 1 (us x2),vb t2,AV.vec g2 1 (us y2)],ag [vb s3,AV.vec f3 1 (us x3),vb t3,AV.vec g3 1 (us y3)]]),(3,vi 0),(35,vb (bif bif decide ((↑(us x1).length:Int)>2) then true else decide ((↑(us y1).length:Int)>2) then true else !J.Zcw s1 x1 t1 y1))],[],[true==true,true,true,!(decide ((↑(us x1).length:Int)>2)==false&&true)||true,!(decide ((↑(us x1).length:Int)>2)==false&&true)||true,!((bif decide ((↑(us x1).length:Int)>2) then true else decide ((↑(us y1).length:Int)>2))==false&&true)||true,!((bif decide ((↑(us x1).length:Int)>2) then true else decide ((↑(us y1).length:Int)>2))==false&&true)||true],[],[⟨(bif decide ((↑(us x1).length:Int)>2) then true else decide ((↑(us y1).length:Int)>2))==false&&true&&true,false,27,[(zNmG3 s1 f1 x1 t1 g1 y1)],[],vb (J.Zcw s1 x1 t1 y1),[]⟩]⟩ (by kernel_rfl) (bc rfl (bc rfl (bc rfl (bc (Bool.or_true _) (bc (Bool.or_true _) (bc (Bool.or_true _) (bc (Bool.or_true _) b0))))))) q0 (cc (fun hc=>((@ev27 s1 f1 t1 g1 x1 y1 (k4 (i3.1 hc))):Ev M1 (Conf.pure 27 [(zNmG3 s1 f1 x1 t1 g1 y1)]) (vb (J.Zcw s1 x1 t1 y1)) [])) c0) ?_
 rcases xq H with ⟨d6,H⟩|⟨d6,H⟩
 ·exact Zaq (G:=Zac kp51 [] []) 1000 [true] (vb false) (by kernel_rfl) (bc (Zap (i5.2 d6)) b0) q0 c0 H
 ·exact Zae (G:=Zac kp51 [] []) 1000 [false] ⟨(atC (cd Tryz.f51) [1,0,1,0,0]),[(0,AV.vec true 4 [(zNmG3 s1 f1 x1 t1 g1 y1),ag [vb s2,AV.vec f2 1 (us x2),vb t2,AV.vec g2 1 (us y2)],ag [vb s3,AV.vec f3 1 (us x3),vb t3,AV.vec g3 1 (us y3)]]),(3,vi 1)],[],_,[],_⟩ (by kernel_rfl) (bc (Zam (fun h=>d6 (i5.1 h))) b0) q0 c0 H
noncomputable abbrev zNmG4 (s2:Bool) (f2:Bool) (x2:List Int) (t2:Bool) (g2:Bool) (y2:List Int):=ag [vb s2,AV.vec f2 1 (us x2),vb t2,AV.vec g2 1 (us y2)]
theorem rFew1 (s1 t1 f1 g1 s2 t2 f2 g2 s3 t3 f3 g3:Bool) (x1 y1 x2 y2 x3 y3:List Int)  (dq:AV) (H :
  ((¬(((↑x2.length:Int)>2)\/((↑y2.length:Int)>2)))->(J.okA x2 y2)) /\
  (((((↑x2.length:Int)>2)\/((↑y2.length:Int)>2))\/(¬(J.Zcw s2 x2 t2 y2=true)))->vb false=dq) /\
  (¬((((↑x2.length:Int)>2)\/((↑y2.length:Int)>2))\/(¬(J.Zcw s2 x2 t2 y2=true)))->rFew2_at s1 t1 f1 g1 s2 t2 f2 g2 s3 t3 f3 g3 x1 y1 x2 y2 x3 y3 (Zag dq))) :
 rFew1_at s1 t1 f1 g1 s2 t2 f2 g2 s3 t3 f3 g3 x1 y1 x2 y2 x3 y3 (Zag dq):=by
 unfold rFew1_at
 have w1:(us x2).length=x2.length:=List.length_map ..
 have w2:(us y2).length=y2.length:=List.length_map ..
 have i3:((bif decide ((↑(us x2).length:Int)>2) then true else decide ((↑(us y2).length:Int)>2))==false&&true&&true)=true ↔ (¬(((↑x2.length:Int)>2)\/((↑y2.length:Int)>2))):=(by (try rw [w1]);(try rw [w2]);all_goals exact (i_at (i_at (i_bf (Za4 Zad Zad)))))
 obtain ⟨k4,H⟩:=H
 have i5:(bif bif decide ((↑(us x2).length:Int)>2) then true else decide ((↑(us y2).length:Int)>2) then true else !J.Zcw s2 x2 t2 y2)=true ↔ ((((↑x2.length:Int)>2)\/((↑y2.length:Int)>2))\/(¬(J.Zcw s2 x2 t2 y2=true))):=(by (try rw [w1]);(try rw [w2]);all_goals exact (Za4 (Za4 Zad Zad) (ZaN (Zau _))))
 refine Zae (G:=Zac kp51 [(4,23,.call (vb (J.Zcw s2 x2 t2 y2)) none)] []) 9 [true] ⟨(atC (cd Tryz.f51) [1,0,1,0,0,1,0,0,1]),[(0,AV.vec true 4 [ag [vb s1,AV.vec f1 1 (us x1),vb t1,AV.vec g1 1 (us y1)],(zNmG4 s2 f2 x2 t2 g2 y2),ag [vb s3,AV.vec f3 1 (us x3),vb t3,AV.vec g3 1 (us y3)]]),(3,vi 1),(35,vb (bif bif decide ((↑(us x2).length:Int)>2) then true else decide ((↑(us y2).length:Int)>2) then true else !J.Zcw s2 x2 t2 y2))],[],[true==true,true,true,!(decide ((↑(us x2).length:Int)>2)==false&&true)||true,!(decide ((↑(us x2).length:Int)>2)==false&&true)||true,!((bif decide ((↑(us x2).length:Int)>2) then true else decide ((↑(us y2).length:Int)>2))==false&&true)||true,!((bif decide ((↑(us x2).length:Int)>2) then true else decide ((↑(us y2).length:Int)>2))==false&&true)||true],[],[⟨(bif decide ((↑(us x2).length:Int)>2) then true else decide ((↑(us y2).length:Int)>2))==false&&true&&true,false,27,[(zNmG4 s2 f2 x2 t2 g2 y2)],[],vb (J.Zcw s2 x2 t2 y2),[]⟩]⟩ (by kernel_rfl) (bc rfl (bc rfl (bc rfl (bc (Bool.or_true _) (bc (Bool.or_true _) (bc (Bool.or_true _) (bc (Bool.or_true _) b0))))))) q0 (cc (fun hc=>((@ev27 s2 f2 t2 g2 x2 y2 (k4 (i3.1 hc))):Ev M1 (Conf.pure 27 [(zNmG4 s2 f2 x2 t2 g2 y2)]) (vb (J.Zcw s2 x2 t2 y2)) [])) c0) ?_
 rcases xq H with ⟨d6,H⟩|⟨d6,H⟩
 ·exact Zaq (G:=Zac kp51 [] []) 1000 [true] (vb false) (by kernel_rfl) (bc (Zap (i5.2 d6)) b0) q0 c0 H
 ·exact Zae (G:=Zac kp51 [] []) 1000 [false] ⟨(atC (cd Tryz.f51) [1,0,1,0,0]),[(0,AV.vec true 4 [ag [vb s1,AV.vec f1 1 (us x1),vb t1,AV.vec g1 1 (us y1)],(zNmG4 s2 f2 x2 t2 g2 y2),ag [vb s3,AV.vec f3 1 (us x3),vb t3,AV.vec g3 1 (us y3)]]),(3,vi 2)],[],_,[],_⟩ (by kernel_rfl) (bc (Zam (fun h=>d6 (i5.1 h))) b0) q0 c0 H
noncomputable abbrev zNmG5 (s3:Bool) (f3:Bool) (x3:List Int) (t3:Bool) (g3:Bool) (y3:List Int):=ag [vb s3,AV.vec f3 1 (us x3),vb t3,AV.vec g3 1 (us y3)]
theorem rFew2 (s1 t1 f1 g1 s2 t2 f2 g2 s3 t3 f3 g3:Bool) (x1 y1 x2 y2 x3 y3:List Int)  (dq:AV) (H :
  ((¬(((↑x3.length:Int)>2)\/((↑y3.length:Int)>2)))->(J.okA x3 y3)) /\
  (((((↑x3.length:Int)>2)\/((↑y3.length:Int)>2))\/(¬(J.Zcw s3 x3 t3 y3=true)))->vb false=dq) /\
  (¬((((↑x3.length:Int)>2)\/((↑y3.length:Int)>2))\/(¬(J.Zcw s3 x3 t3 y3=true)))->rFew3_at s1 t1 f1 g1 s2 t2 f2 g2 s3 t3 f3 g3 x1 y1 x2 y2 x3 y3 (Zag dq))) :
 rFew2_at s1 t1 f1 g1 s2 t2 f2 g2 s3 t3 f3 g3 x1 y1 x2 y2 x3 y3 (Zag dq):=by
 unfold rFew2_at
 have w1:(us x3).length=x3.length:=List.length_map ..
 have w2:(us y3).length=y3.length:=List.length_map ..
 have i3:((bif decide ((↑(us x3).length:Int)>2) then true else decide ((↑(us y3).length:Int)>2))==false&&true&&true)=true ↔ (¬(((↑x3.length:Int)>2)\/((↑y3.length:Int)>2))):=(by (try rw [w1]);(try rw [w2]);all_goals exact (i_at (i_at (i_bf (Za4 Zad Zad)))))
 obtain ⟨k4,H⟩:=H
 have i5:(bif bif decide ((↑(us x3).length:Int)>2) then true else decide ((↑(us y3).length:Int)>2) then true else !J.Zcw s3 x3 t3 y3)=true ↔ ((((↑x3.length:Int)>2)\/((↑y3.length:Int)>2))\/(¬(J.Zcw s3 x3 t3 y3=true))):=(by (try rw [w1]);(try rw [w2]);all_goals exact (Za4 (Za4 Zad Zad) (ZaN (Zau _))))
 refine Zae (G:=Zac kp51 [(4,23,.call (vb (J.Zcw s3 x3 t3 y3)) none)] []) 9 [true] ⟨(atC (cd Tryz.f51) [1,0,1,0,0,1,0,0,1]),[(0,AV.vec true 4 [ag [vb s1,AV.vec f1 1 (us x1),vb t1,AV.vec g1 1 (us y1)],ag [vb s2,AV.vec f2 1 (us x2),vb t2,AV.vec g2 1 (us y2)],(zNmG5 s3 f3 x3 t3 g3 y3)]),(3,vi 2),(35,vb (bif bif decide ((↑(us x3).length:Int)>2) then true else decide ((↑(us y3).length:Int)>2) then true else !J.Zcw s3 x3 t3 y3))],[],[true==true,true,true,!(decide ((↑(us x3).length:Int)>2)==false&&true)||true,!(decide ((↑(us x3).length:Int)>2)==false&&true)||true,!((bif decide ((↑(us x3).length:Int)>2) then true else decide ((↑(us y3).length:Int)>2))==false&&true)||true,!((bif decide ((↑(us x3).length:Int)>2) then true else decide ((↑(us y3).length:Int)>2))==false&&true)||true],[],[⟨(bif decide ((↑(us x3).length:Int)>2) then true else decide ((↑(us y3).length:Int)>2))==false&&true&&true,false,27,[(zNmG5 s3 f3 x3 t3 g3 y3)],[],vb (J.Zcw s3 x3 t3 y3),[]⟩]⟩ (by kernel_rfl) (bc rfl (bc rfl (bc rfl (bc (Bool.or_true _) (bc (Bool.or_true _) (bc (Bool.or_true _) (bc (Bool.or_true _) b0))))))) q0 (cc (fun hc=>((@ev27 s3 f3 t3 g3 x3 y3 (k4 (i3.1 hc))):Ev M1 (Conf.pure 27 [(zNmG5 s3 f3 x3 t3 g3 y3)]) (vb (J.Zcw s3 x3 t3 y3)) [])) c0) ?_
 rcases xq H with ⟨d6,H⟩|⟨d6,H⟩
 ·exact Zaq (G:=Zac kp51 [] []) 1000 [true] (vb false) (by kernel_rfl) (bc (Zap (i5.2 d6)) b0) q0 c0 H
 ·exact Zae (G:=Zac kp51 [] []) 1000 [false] ⟨(atC (cd Tryz.f51) [1,0,1,0,0]),[(0,AV.vec true 4 [ag [vb s1,AV.vec f1 1 (us x1),vb t1,AV.vec g1 1 (us y1)],ag [vb s2,AV.vec f2 1 (us x2),vb t2,AV.vec g2 1 (us y2)],(zNmG5 s3 f3 x3 t3 g3 y3)]),(3,vi 3)],[],_,[],_⟩ (by kernel_rfl) (bc (Zam (fun h=>d6 (i5.1 h))) b0) q0 c0 H
theorem rFew3 (s1 t1 f1 g1 s2 t2 f2 g2 s3 t3 f3 g3:Bool) (x1 y1 x2 y2 x3 y3:List Int)  (dq:AV) (H :
  vb true=dq) :
 rFew3_at s1 t1 f1 g1 s2 t2 f2 g2 s3 t3 f3 g3 x1 y1 x2 y2 x3 y3 (Zag dq):=by
 unfold rFew3_at
 exact Zaq (G:=Zac kp51 [] []) 1000 [false] (vb true) (by kernel_rfl) (bc rfl b0) q0 c0 H
end Go.Av

namespace Go.Av
open Go.Proofs
theorem ev23 (f1 f2 f3 f4 f5 f6 g1 g2 g3 g4 g5 g6:Bool) (a b c x y z:Rat) (h:J.ZeF a b c/\J.ZeF x y z):Ev M1 (.pure 23 [Zar f1 f2 f3 f4 f5 f6 a b c,Zar g1 g2 g3 g4 g5 g6 x y z]) (.tup [.vec false 20 ((J.cirR a b c x y z).map Pnt.a),.int .i64 (J.ZcY a b c x y z)]) []:=by
 obtain ⟨h1,h2⟩:=h
 have t1:=ZbY h1
 refine call23 (rCir9 _ _ _ _ _ _ _ _ _ _ _ _ _ _ _ _ _ _ _ ⟨⟨t1,ZbY h2⟩,fun k=>⟨⟨Zak h1.2.2 (by omega),Zak h2.2.2 (by omega)⟩,fun j => ?_,fun j => ?_⟩,fun j=>⟨⟨rd_ln h1 h2 j,⟨t1.1,t1.2.1⟩,t1.2.2⟩,?_⟩⟩)
 ·rw [cross] at j
  rw [show J.cirR a b c x y z=[] from if_pos k,show J.ZcY a b c x y z=10 by unfold J.ZcY;rw [if_pos k,if_pos j]]
  exact ZbW _
 ·rw [cross] at j
  rw [show J.cirR a b c x y z=[] from if_pos k,show J.ZcY a b c x y z=0 by unfold J.ZcY;rw [if_pos k,if_neg j]]
  exact ZbW _
 ·rw [show J.cirR a b c x y z=J.Zcz (J.rdA a x) (J.rdA b y) (J.rdC a b c x y z) a b c from if_neg j,show J.ZcY a b c x y z=0 by unfold J.ZcY;rw [if_neg j]]
  exact .refl _
theorem eqL_cons (p q:Pnt) (l m:List Pnt):J.eqL (p::l) (q::m)=bif decide (J.Ze9 p q=0) then J.eqL l m else false:=rfl
theorem eqL_len:∀ {l m:List Pnt},l.length ≠ m.length->J.eqL l m=false
 | [],[],h=>absurd rfl h
 | [],q::m,_=>rfl
 | p::l,[],_=>rfl
 | p::l,q::m,h=>by
  rw [eqL_cons,eqL_len (l:=l) (m:=m) (by simpa using h)]
  cases decide (J.Ze9 p q=0) <;> rfl
theorem same_loop {u v:Bool} {l m:List Pnt} {dq:AV} (h:J.Zhh l) (g:J.Zhh m) (e:l.length=m.length) (k:Nat):∀ (i:Nat),i+k=l.length->AV.bool (J.eqL (l.drop i) (m.drop i))=dq->Zdl u v l m i (Zag dq):=by
 have hl:=h.2
 induction k with
 | zero =>
  intro i e2 hq
  refine rSame9H _ _ _ _ _ _ ⟨fun x=>by omega,fun _ => ?_⟩
  rw [List.drop_eq_nil_of_le (by omega),List.drop_eq_nil_of_le (by omega)] at hq
  exact hq
 | succ k ih =>
  intro i e2 hq
  rw [Zcv (d:=l) (i:=i) (by omega),Zcv (d:=m) (i:=i) (by omega),eqL_cons] at hq
  have p1:=h.1 _ (Zf8 (d:=l) (i:=i) (by omega))
  have p2:=g.1 _ (Zf8 (d:=m) (i:=i) (by omega))
  have nx:=ih (i+1) (by omega)
  refine rSame9H _ _ _ _ _ _ ⟨fun x => ?_,fun x=>by omega⟩
  rw [Int.toNat_natCast,show (i:Int)+1=((i+1:Nat):Int) by omega]
  refine ⟨⟨p1,p2⟩,by omega,by omega,by omega,fun y => ?_,fun y=>⟨by omega,nx ?_⟩⟩
  ·rw [decide_eq_false y] at hq;exact hq
  ·rw [decide_eq_true (Classical.not_not.1 y)] at hq;exact hq
theorem ev49 (u v:Bool) (l m:List Pnt) (h:J.Zhh l/\J.Zhh m):Ev M1 (.pure 49 [.vec u 20 (l.map Pnt.a),.vec v 20 (m.map Pnt.a)]) (.bool (J.eqL l m)) []:=by
 refine call49 (rSame9 _ _ _ _ _ ⟨fun k => ?_,fun k => ?_⟩)
 ·rw [eqL_len (by omega)]
 ·exact same_loop h.1 h.2 (by omega) l.length 0 (by omega) rfl
theorem ev46 (a:Int) (h:J.inI a):Ev M1 (.pure 46 [.int .i64 a]) (ratF (J.qi a)) []:=
 call46 (wNum _ _ ⟨h,.refl _⟩)
theorem ev93 (a b:Int) (h:J.inI a/\J.inI b):Ev M1 (.pure 93 [.int .i64 a,.int .i64 b]) (vecF (J.qi a) (J.qi b)) []:=
 call93 (rVec7 _ _ _ ⟨h.1,h.2,.refl _⟩)
noncomputable def J.ZdE (s1 t1 s2 t2 s3 t3:Bool) (x1 y1 x2 y2 x3 y3:List Int):Bool:=Zer 2 s1 x1 t1 y1&&Zer 2 s2 x2 t2 y2&&Zer 2 s3 x3 t3 y3
def J.ZhO (x1 y1 x2 y2 x3 y3:List Int):Prop:=((∀ v ∈ x1,0<=v) /\ ∀ v ∈ y1,0<=v)/\((∀ v ∈ x2,0<=v) /\ ∀ v ∈ y2,0<=v)/\(∀ v ∈ x3,0<=v) /\ ∀ v ∈ y3,0<=v
theorem small_y {s t:Bool} {x y:List Int} (h:¬((((x.length:Int)>2)\/((y.length:Int)>2))\/(¬(J.Zcw s x t y=true)))):J.Zer 2 s x t y=true:=by
 unfold J.Zer
 rw [decide_eq_true (by omega),decide_eq_true (by omega),cond_true,cond_true]
 exact Classical.not_not.1 fun k=>h (.inr k)
theorem small_n {s t:Bool} {x y:List Int} (h:(((x.length:Int)>2)\/((y.length:Int)>2))\/(¬(J.Zcw s x t y=true))):J.Zer 2 s x t y=false:=by
 rcases Bool.eq_false_or_eq_true (J.Zer 2 s x t y) with k | k
 ·have:=ZhC.1 k
  rcases h with h | h
  ·omega
  ·exact absurd (ZeK.2 this.2.2) h
 ·exact k
theorem Zgn {x y:List Int} (h:(∀ v ∈ x,0<=v) /\ ∀ v ∈ y,0<=v) (k:¬(((x.length:Int)>2)\/((y.length:Int)>2))):J.okA x y:=⟨⟨by omega,h.1⟩,⟨by omega,h.2⟩⟩
theorem ev51 (s1 t1 f1 g1 s2 t2 f2 g2 s3 t3 f3 g3:Bool) (x1 y1 x2 y2 x3 y3:List Int) (h:J.ZhO x1 y1 x2 y2 x3 y3):Ev M1 (.pure 51 [.vec true 4 [.agg [.bool s1,.vec f1 1 (x1.map (.int .u32)),.bool t1,.vec g1 1 (y1.map (.int .u32))],.agg [.bool s2,.vec f2 1 (x2.map (.int .u32)),.bool t2,.vec g2 1 (y2.map (.int .u32))],.agg [.bool s3,.vec f3 1 (x3.map (.int .u32)),.bool t3,.vec g3 1 (y3.map (.int .u32))]]]) (.bool (J.ZdE s1 t1 s2 t2 s3 t3 x1 y1 x2 y2 x3 y3)) []:=by
 obtain ⟨h1,h2,h3⟩:=h
 unfold J.ZdE
 refine call51 (rFew _ _ _ _ _ _ _ _ _ _ _ _ _ _ _ _ _ _ _ (rFew0 _ _ _ _ _ _ _ _ _ _ _ _ _ _ _ _ _ _ _ ⟨Zgn h1,fun k => ?_,fun k1=>rFew1 _ _ _ _ _ _ _ _ _ _ _ _ _ _ _ _ _ _ _ ⟨Zgn h2,fun k => ?_,fun k2=>rFew2 _ _ _ _ _ _ _ _ _ _ _ _ _ _ _ _ _ _ _ ⟨Zgn h3,fun k => ?_,fun k3=>rFew3 _ _ _ _ _ _ _ _ _ _ _ _ _ _ _ _ _ _ _ ?_⟩⟩⟩))
 ·rw [small_n k];rfl
 ·rw [small_n k,Bool.and_false];rfl
 ·rw [small_n k,Bool.and_false]
 ·rw [small_y k1,small_y k2,small_y k3];rfl
end Go.Av

namespace Go.Av
open Go.Proofs
set_option maxRecDepth 100000
def fi12:Fi:=⟨23,[.tmp 2]⟩
def kp12:List (Nat × List Nat):=[(0,[1]),(1,[2])]
def fi15:Fi:=⟨21,[.tmp 8]⟩
def kp15:List (Nat × List Nat):=[(0,[0,1,2,3]),(1,[8])]
def fi16:Fi:=⟨17,[.tmp 2]⟩
def kp16:List (Nat × List Nat):=[(0,[1]),(1,[2])]
def fi47:Fi:=⟨14,[.cell 6 28]⟩
def kp47:List (Nat × List Nat):=[(0,[0,1,2,6]),(1,[6])]
def fi48:Fi:=⟨14,[.cell 6 38]⟩
def kp48:List (Nat × List Nat):=[(0,[0,1,2,6]),(1,[6])]
def fi50:Fi:=⟨9,[.cell 4 56]⟩
def kp50:List (Nat × List Nat):=[(0,[0,1,4]),(1,[4])]
def wLine_at (a b c:Int) (Q:AV->Heap->Prop):Prop:=Wp M1 (.run fi47 (atC (cd Tryz.f47) []) [(0,.int .i64 a),(1,.int .i64 b),(2,.int .i64 c)] []) Q
def wCirc_at (a b c:Int) (Q:AV->Heap->Prop):Prop:=Wp M1 (.run fi48 (atC (cd Tryz.f48) []) [(0,.int .i64 a),(1,.int .i64 b),(2,.int .i64 c)] []) Q
def wAt_at (a b:Int) (Q:AV->Heap->Prop):Prop:=Wp M1 (.run fi50 (atC (cd Tryz.f50) []) [(0,.int .i64 a),(1,.int .i64 b)] []) Q
def wSame_at (u v:Bool) (l m:List Pnt) (e f:Int) (Q:AV->Heap->Prop):Prop:=Wp M1 (.run fi15 (atC (cd Tryz.f15) []) [(0,.vec u 20 (l.map Pnt.a)),(1,.int .i64 e),(2,.vec v 20 (m.map Pnt.a)),(3,.int .i64 f)] []) Q
def rLine_at (f1 f2 f3 f4 f5 f6:Bool) (a b c:Rat) (Q:AV->Heap->Prop):Prop:=Wp M1 (.run fi12 (atC (cd Tryz.f12) []) [(0,Zar f1 f2 f3 f4 f5 f6 a b c)] []) Q
def rLineR_at (s1 t1 f1 g1 s2 t2 f2 g2 s3 t3 f3 g3:Bool) (x1 y1 x2 y2 x3 y3:List Int) (Q:AV->Heap->Prop):Prop:=Wp M1 (.run fi12 (atC (cd Tryz.f12) []) [(0,.agg [.bool s1,.vec f1 1 (x1.map (.int .u32)),.bool t1,.vec g1 1 (y1.map (.int .u32)),.bool s2,.vec f2 1 (x2.map (.int .u32)),.bool t2,.vec g2 1 (y2.map (.int .u32)),.bool s3,.vec f3 1 (x3.map (.int .u32)),.bool t3,.vec g3 1 (y3.map (.int .u32))])] []) Q
def rCirc_at (f1 f2 f3 f4 f5 f6:Bool) (a b c:Rat) (Q:AV->Heap->Prop):Prop:=Wp M1 (.run fi16 (atC (cd Tryz.f16) []) [(0,Zar f1 f2 f3 f4 f5 f6 a b c)] []) Q
def rCircR_at (s1 t1 f1 g1 s2 t2 f2 g2 s3 t3 f3 g3:Bool) (x1 y1 x2 y2 x3 y3:List Int) (Q:AV->Heap->Prop):Prop:=Wp M1 (.run fi16 (atC (cd Tryz.f16) []) [(0,.agg [.bool s1,.vec f1 1 (x1.map (.int .u32)),.bool t1,.vec g1 1 (y1.map (.int .u32)),.bool s2,.vec f2 1 (x2.map (.int .u32)),.bool t2,.vec g2 1 (y2.map (.int .u32)),.bool s3,.vec f3 1 (x3.map (.int .u32)),.bool t3,.vec g3 1 (y3.map (.int .u32))])] []) Q
theorem call12 {args:List AV} {d:AV} (h:wc M1 fi12 Tryz.f12 args d):Ev M1 (.pure 12 args) d []:=pcl _ _ (by kernel_rfl) h
theorem call15 {args:List AV} {d:AV} (h:wc M1 fi15 Tryz.f15 args d):Ev M1 (.pure 15 args) d []:=pcl _ _ (by kernel_rfl) h
theorem call16 {args:List AV} {d:AV} (h:wc M1 fi16 Tryz.f16 args d):Ev M1 (.pure 16 args) d []:=pcl _ _ (by kernel_rfl) h
theorem call47 {args:List AV} {d:AV} (h:wc M1 fi47 Tryz.f47 args d):Ev M1 (.pure 47 args) d []:=pcl _ _ (by kernel_rfl) h
theorem call48 {args:List AV} {d:AV} (h:wc M1 fi48 Tryz.f48 args d):Ev M1 (.pure 48 args) d []:=pcl _ _ (by kernel_rfl) h
theorem call50 {args:List AV} {d:AV} (h:wc M1 fi50 Tryz.f50 args d):Ev M1 (.pure 50 args) d []:=pcl _ _ (by kernel_rfl) h
theorem wLine (a b c:Int)  (dq:AV) (H :
  (J.inI a) /\
  (J.inI b) /\
  (J.inI c) /\
  Weak (ZaH (J.qi a) (J.qi b) (J.qi c)) dq) :
 wLine_at a b c (Zag dq):=by
 unfold wLine_at
 obtain ⟨k1,k2,k3,H⟩:=H
 exact Zah (G:=Zac kp47 [(1,1,.call (ratF (J.qi a)) none),(1,3,.call (ratF (J.qi b)) none),(1,5,.call (ratF (J.qi c)) none)] []) 1000 [] (ZaH (J.qi a) (J.qi b) (J.qi c)) (by kernel_rfl) (bc rfl b0) q0 (ce (@ev46 a k1) (ce (@ev46 b k2) (ce (@ev46 c k3) c0))) H
theorem wCirc (a b c:Int)  (dq:AV) (H :
  (J.inI a) /\
  (J.inI b) /\
  (J.inI c) /\
  Weak (ZaH (J.qi a) (J.qi b) (J.qi c)) dq) :
 wCirc_at a b c (Zag dq):=by
 unfold wCirc_at
 obtain ⟨k1,k2,k3,H⟩:=H
 exact Zah (G:=Zac kp48 [(1,1,.call (ratF (J.qi a)) none),(1,3,.call (ratF (J.qi b)) none),(1,5,.call (ratF (J.qi c)) none)] []) 1000 [] (ZaH (J.qi a) (J.qi b) (J.qi c)) (by kernel_rfl) (bc rfl b0) q0 (ce (@ev46 a k1) (ce (@ev46 b k2) (ce (@ev46 c k3) c0))) H
noncomputable abbrev zNmH1 (a:Int) (b:Int):=(pntF (J.qi a) (J.qi 0) (J.qi b) (J.qi 0) (J.qi 0))
theorem wAt (a b:Int)  (dq:AV) (H :
  (J.inI a/\J.inI b) /\
  Weak ((pntF (J.qi a) (J.qi 0) (J.qi b) (J.qi 0) (J.qi 0))) dq) :
 wAt_at a b (Zag dq):=by
 unfold wAt_at
 obtain ⟨k1,H⟩:=H
 exact Zah (G:=Zac kp50 [(1,2,.call ((vecF (J.qi a) (J.qi b))) none),(1,3,.call (zNmH1 a b) none)] []) 1000 [] (zNmH1 a b) (by kernel_rfl) (bc rfl b0) q0 (ce (@ev93 a b k1) (ce (@ev61 false false false false (J.qi a) (J.qi b)) c0)) H
theorem wSame (u v:Bool) (l m:List Pnt) (e f:Int)  (dq:AV) (H :
  ((e=f)->(J.Zhh l)) /\
  (((e=f)/\(J.Zfu l=true))->(J.Zhh l/\J.Zhh m)) /\
  vb (bif bif e==f then J.Zfu l else false then J.eqL l m else false)=dq) :
 wSame_at u v l m e f (Zag dq):=by
 unfold wSame_at
 obtain ⟨k2,k4,H⟩:=H
 exact Zaq (G:=Zac kp15 [(1,5,.call (vb (J.Zfu l)) none),(1,10,.call (vb (J.eqL l m)) none)] []) 1000 [] (calls:=[⟨(e==f)==true&&true&&true,false,63,[AV.vec u 20 (List.map Pnt.a l)],[],vb (J.Zfu l),[]⟩,⟨(bif e==f then J.Zfu l else false)==true&&true&&true,false,49,[AV.vec u 20 (List.map Pnt.a l),AV.vec v 20 (List.map Pnt.a m)],[],vb (J.eqL l m),[]⟩]) (vb (bif bif e==f then J.Zfu l else false then J.eqL l m else false)) (by kernel_rfl) b0 q0 (cc (fun hc=>((@ev63 u l (k2 ((i_at (i_at (i_bt i_eq))).1 hc))):Ev M1 (Conf.pure 63 [AV.vec u 20 (List.map Pnt.a l)]) (vb (J.Zfu l)) [])) (cc (fun hc=>((@ev49 u v l m (k4 ((i_at (i_at (i_bt (ZaI i_eq (Zau _))))).1 hc))):Ev M1 (Conf.pure 49 [AV.vec u 20 (List.map Pnt.a l),AV.vec v 20 (List.map Pnt.a m)]) (vb (J.eqL l m)) [])) c0)) H
noncomputable abbrev zNmH2 (a:Rat) (b:Rat) (c:Rat):=J.ZdE (J.Zaa a.num) (J.Zaa (↑a.den:Int)) (J.Zaa b.num) (J.Zaa (↑b.den:Int)) (J.Zaa c.num) (J.Zaa (↑c.den:Int)) (J.Zab a.num) (J.Zab (↑a.den:Int)) (J.Zab b.num) (J.Zab (↑b.den:Int)) (J.Zab c.num) (J.Zab (↑c.den:Int))==true&&true
noncomputable abbrev zNmH3 (a:Rat) (b:Rat) (c:Rat):=J.ZdE (J.Zaa a.num) (J.Zaa (↑a.den:Int)) (J.Zaa b.num) (J.Zaa (↑b.den:Int)) (J.Zaa c.num) (J.Zaa (↑c.den:Int)) (J.Zab a.num) (J.Zab (↑a.den:Int)) (J.Zab b.num) (J.Zab (↑b.den:Int)) (J.Zab c.num) (J.Zab (↑c.den:Int))
theorem rLine (f1 f2 f3 f4 f5 f6:Bool) (a b c:Rat)  (dq:AV) (H :
  (J.ZhO (J.Zab a.num) (J.Zab (↑a.den:Int)) (J.Zab b.num) (J.Zab (↑b.den:Int)) (J.Zab c.num) (J.Zab (↑c.den:Int))) /\
  (vb (bif J.ZdE (J.Zaa a.num) (J.Zaa (↑a.den:Int)) (J.Zaa b.num) (J.Zaa (↑b.den:Int)) (J.Zaa c.num) (J.Zaa (↑c.den:Int)) (J.Zab a.num) (J.Zab (↑a.den:Int)) (J.Zab b.num) (J.Zab (↑b.den:Int)) (J.Zab c.num) (J.Zab (↑c.den:Int)) then bif J.sgnI a.num != 0 then true else J.sgnI b.num != 0 else false))=dq) :
 rLine_at f1 f2 f3 f4 f5 f6 a b c (Zag dq):=by
 unfold rLine_at
 obtain ⟨k1,H⟩:=H
 exact Zaq (G:=Zac kp12 [(1,7,.call (vb (zNmH3 a b c)) none),(1,11,.call (vi (J.sgnI a.num)) none),(1,16,.call (vi (J.sgnI b.num)) none)] []) 1000 [] (asm:=[true,true,true,!(zNmH2 a b c)||true,!((J.sgnI a.num != 0)==false&&(zNmH2 a b c))||true]) (calls:=[⟨true,false,51,[AV.vec true 4 [ratA f1 f2 a,ratA f3 f4 b,ratA f5 f6 c]],[],vb (zNmH3 a b c),[]⟩,⟨J.ZdE (J.Zaa a.num) (J.Zaa (↑a.den:Int)) (J.Zaa b.num) (J.Zaa (↑b.den:Int)) (J.Zaa c.num) (J.Zaa (↑c.den:Int)) (J.Zab a.num) (J.Zab (↑a.den:Int)) (J.Zab b.num) (J.Zab (↑b.den:Int)) (J.Zab c.num) (J.Zab (↑c.den:Int))==true&&true&&true,false,20,[ratA f1 f2 a],[],vi (J.sgnI a.num),[]⟩,⟨(J.sgnI a.num != 0)==false&&(zNmH2 a b c)&&true,false,20,[ratA f3 f4 b],[],vi (J.sgnI b.num),[]⟩]) (vb (bif J.ZdE (J.Zaa a.num) (J.Zaa (↑a.den:Int)) (J.Zaa b.num) (J.Zaa (↑b.den:Int)) (J.Zaa c.num) (J.Zaa (↑c.den:Int)) (J.Zab a.num) (J.Zab (↑a.den:Int)) (J.Zab b.num) (J.Zab (↑b.den:Int)) (J.Zab c.num) (J.Zab (↑c.den:Int)) then bif J.sgnI a.num != 0 then true else J.sgnI b.num != 0 else false)) (by kernel_rfl) (bc rfl (bc rfl (bc rfl (bc (Bool.or_true _) (bc (Bool.or_true _) b0))))) q0 (cc (fun _=>(@ev51 (J.Zaa a.num) (J.Zaa (↑a.den:Int)) f1 f2 (J.Zaa b.num) (J.Zaa (↑b.den:Int)) f3 f4 (J.Zaa c.num) (J.Zaa (↑c.den:Int)) f5 f6 (J.Zab a.num) (J.Zab (↑a.den:Int)) (J.Zab b.num) (J.Zab (↑b.den:Int)) (J.Zab c.num) (J.Zab (↑c.den:Int)) k1)) (cc (fun hc=>((@ev20 f1 f2 (a.num) ((↑a.den:Int))):Ev M1 (Conf.pure 20 [ratA f1 f2 a]) (vi (J.sgnI a.num)) [])) (cc (fun hc=>((@ev20 f3 f4 (b.num) ((↑b.den:Int))):Ev M1 (Conf.pure 20 [ratA f3 f4 b]) (vi (J.sgnI b.num)) [])) c0))) H
noncomputable abbrev zNmH4 (s1:Bool) (f1:Bool) (x1:List Int) (t1:Bool) (g1:Bool) (y1:List Int):=ag [vb s1,AV.vec f1 1 (us x1),vb t1,AV.vec g1 1 (us y1)]
noncomputable abbrev zNmH5 (s2:Bool) (f2:Bool) (x2:List Int) (t2:Bool) (g2:Bool) (y2:List Int):=ag [vb s2,AV.vec f2 1 (us x2),vb t2,AV.vec g2 1 (us y2)]
theorem rLineR (s1 t1 f1 g1 s2 t2 f2 g2 s3 t3 f3 g3:Bool) (x1 y1 x2 y2 x3 y3:List Int)  (dq:AV) (H :
  (J.ZhO x1 y1 x2 y2 x3 y3) /\
  ∃ (n1:Int),
  ((J.ZdE s1 t1 s2 t2 s3 t3 x1 y1 x2 y2 x3 y3=true)->(Ev M1 (Conf.pure 20 [ag [vb s1,AV.vec f1 1 (us x1),vb t1,AV.vec g1 1 (us y1)]]) (vi n1) [])) /\
  ∃ (n2:Int),
  (((¬(¬n1=0))/\(J.ZdE s1 t1 s2 t2 s3 t3 x1 y1 x2 y2 x3 y3=true))->(Ev M1 (Conf.pure 20 [ag [vb s2,AV.vec f2 1 (us x2),vb t2,AV.vec g2 1 (us y2)]]) (vi n2) [])) /\
  (vb (bif J.ZdE s1 t1 s2 t2 s3 t3 x1 y1 x2 y2 x3 y3 then bif n1 != 0 then true else n2 != 0 else false))=dq) :
 rLineR_at s1 t1 f1 g1 s2 t2 f2 g2 s3 t3 f3 g3 x1 y1 x2 y2 x3 y3 (Zag dq):=by
 unfold rLineR_at
 obtain ⟨k1,n1,k3,n2,k5,H⟩:=H
 exact Zaq (G:=Zac kp12 [(1,7,.call (vb (J.ZdE s1 t1 s2 t2 s3 t3 x1 y1 x2 y2 x3 y3)) none),(1,11,.call (vi n1) none),(1,16,.call (vi n2) none)] []) 1000 [] (asm:=[true,true,true,!(J.ZdE s1 t1 s2 t2 s3 t3 x1 y1 x2 y2 x3 y3==true&&true)||true,!((n1 != 0)==false&&(J.ZdE s1 t1 s2 t2 s3 t3 x1 y1 x2 y2 x3 y3==true&&true))||true]) (calls:=[⟨true,false,51,[AV.vec true 4 [(zNmH4 s1 f1 x1 t1 g1 y1),(zNmH5 s2 f2 x2 t2 g2 y2),ag [vb s3,AV.vec f3 1 (us x3),vb t3,AV.vec g3 1 (us y3)]]],[],vb (J.ZdE s1 t1 s2 t2 s3 t3 x1 y1 x2 y2 x3 y3),[]⟩,⟨J.ZdE s1 t1 s2 t2 s3 t3 x1 y1 x2 y2 x3 y3==true&&true&&true,false,20,[(zNmH4 s1 f1 x1 t1 g1 y1)],[],vi n1,[]⟩,⟨(n1 != 0)==false&&(J.ZdE s1 t1 s2 t2 s3 t3 x1 y1 x2 y2 x3 y3==true&&true)&&true,false,20,[(zNmH5 s2 f2 x2 t2 g2 y2)],[],vi n2,[]⟩]) (vb (bif J.ZdE s1 t1 s2 t2 s3 t3 x1 y1 x2 y2 x3 y3 then bif n1 != 0 then true else n2 != 0 else false)) (by kernel_rfl) (bc rfl (bc rfl (bc rfl (bc (Bool.or_true _) (bc (Bool.or_true _) b0))))) q0 (cc (fun _=>(@ev51 s1 t1 f1 g1 s2 t2 f2 g2 s3 t3 f3 g3 x1 y1 x2 y2 x3 y3 k1)) (cc (fun hc=>((k3 ((i_at (i_at (i_bt (Zau _)))).1 hc)):Ev M1 (Conf.pure 20 [(zNmH4 s1 f1 x1 t1 g1 y1)]) (vi n1) [])) (cc (fun hc=>((k5 ((i_at (i_and (i_bf i_ne) (i_at (i_bt (Zau _))))).1 hc)):Ev M1 (Conf.pure 20 [(zNmH5 s2 f2 x2 t2 g2 y2)]) (vi n2) [])) c0))) H
noncomputable abbrev zNmH6 (a:Rat) (b:Rat) (c:Rat):=J.ZdE (J.Zaa a.num) (J.Zaa (↑a.den:Int)) (J.Zaa b.num) (J.Zaa (↑b.den:Int)) (J.Zaa c.num) (J.Zaa (↑c.den:Int)) (J.Zab a.num) (J.Zab (↑a.den:Int)) (J.Zab b.num) (J.Zab (↑b.den:Int)) (J.Zab c.num) (J.Zab (↑c.den:Int))
theorem rCirc (f1 f2 f3 f4 f5 f6:Bool) (a b c:Rat)  (dq:AV) (H :
  (J.ZhO (J.Zab a.num) (J.Zab (↑a.den:Int)) (J.Zab b.num) (J.Zab (↑b.den:Int)) (J.Zab c.num) (J.Zab (↑c.den:Int))) /\
  vb (bif J.ZdE (J.Zaa a.num) (J.Zaa (↑a.den:Int)) (J.Zaa b.num) (J.Zaa (↑b.den:Int)) (J.Zaa c.num) (J.Zaa (↑c.den:Int)) (J.Zab a.num) (J.Zab (↑a.den:Int)) (J.Zab b.num) (J.Zab (↑b.den:Int)) (J.Zab c.num) (J.Zab (↑c.den:Int)) then decide (J.sgnI c.num>0) else false)=dq) :
 rCirc_at f1 f2 f3 f4 f5 f6 a b c (Zag dq):=by
 unfold rCirc_at
 obtain ⟨k1,H⟩:=H
 exact Zaq (G:=Zac kp16 [(1,7,.call (vb (zNmH6 a b c)) none),(1,11,.call (vi (J.sgnI c.num)) none)] []) 1000 [] (asm:=[true,true,true,!(J.ZdE (J.Zaa a.num) (J.Zaa (↑a.den:Int)) (J.Zaa b.num) (J.Zaa (↑b.den:Int)) (J.Zaa c.num) (J.Zaa (↑c.den:Int)) (J.Zab a.num) (J.Zab (↑a.den:Int)) (J.Zab b.num) (J.Zab (↑b.den:Int)) (J.Zab c.num) (J.Zab (↑c.den:Int))==true&&true)||true]) (calls:=[⟨true,false,51,[AV.vec true 4 [ratA f1 f2 a,ratA f3 f4 b,ratA f5 f6 c]],[],vb (zNmH6 a b c),[]⟩,⟨J.ZdE (J.Zaa a.num) (J.Zaa (↑a.den:Int)) (J.Zaa b.num) (J.Zaa (↑b.den:Int)) (J.Zaa c.num) (J.Zaa (↑c.den:Int)) (J.Zab a.num) (J.Zab (↑a.den:Int)) (J.Zab b.num) (J.Zab (↑b.den:Int)) (J.Zab c.num) (J.Zab (↑c.den:Int))==true&&true&&true,false,20,[ratA f5 f6 c],[],vi (J.sgnI c.num),[]⟩]) (vb (bif J.ZdE (J.Zaa a.num) (J.Zaa (↑a.den:Int)) (J.Zaa b.num) (J.Zaa (↑b.den:Int)) (J.Zaa c.num) (J.Zaa (↑c.den:Int)) (J.Zab a.num) (J.Zab (↑a.den:Int)) (J.Zab b.num) (J.Zab (↑b.den:Int)) (J.Zab c.num) (J.Zab (↑c.den:Int)) then decide (J.sgnI c.num>0) else false)) (by kernel_rfl) (bc rfl (bc rfl (bc rfl (bc (Bool.or_true _) b0)))) q0 (cc (fun _=>(@ev51 (J.Zaa a.num) (J.Zaa (↑a.den:Int)) f1 f2 (J.Zaa b.num) (J.Zaa (↑b.den:Int)) f3 f4 (J.Zaa c.num) (J.Zaa (↑c.den:Int)) f5 f6 (J.Zab a.num) (J.Zab (↑a.den:Int)) (J.Zab b.num) (J.Zab (↑b.den:Int)) (J.Zab c.num) (J.Zab (↑c.den:Int)) k1)) (cc (fun hc=>((@ev20 f5 f6 (c.num) ((↑c.den:Int))):Ev M1 (Conf.pure 20 [ratA f5 f6 c]) (vi (J.sgnI c.num)) [])) c0)) H
noncomputable abbrev zNmH7 (s3:Bool) (f3:Bool) (x3:List Int) (t3:Bool) (g3:Bool) (y3:List Int):=ag [vb s3,AV.vec f3 1 (us x3),vb t3,AV.vec g3 1 (us y3)]
theorem rCircR (s1 t1 f1 g1 s2 t2 f2 g2 s3 t3 f3 g3:Bool) (x1 y1 x2 y2 x3 y3:List Int)  (dq:AV) (H :
  (J.ZhO x1 y1 x2 y2 x3 y3) /\
  ∃ (n1:Int),
  ((J.ZdE s1 t1 s2 t2 s3 t3 x1 y1 x2 y2 x3 y3=true)->(Ev M1 (Conf.pure 20 [ag [vb s3,AV.vec f3 1 (us x3),vb t3,AV.vec g3 1 (us y3)]]) (vi n1) [])) /\
  vb (bif J.ZdE s1 t1 s2 t2 s3 t3 x1 y1 x2 y2 x3 y3 then decide (n1>0) else false)=dq) :
 rCircR_at s1 t1 f1 g1 s2 t2 f2 g2 s3 t3 f3 g3 x1 y1 x2 y2 x3 y3 (Zag dq):=by
 unfold rCircR_at
 obtain ⟨k1,n1,k3,H⟩:=H
 exact Zaq (G:=Zac kp16 [(1,7,.call (vb (J.ZdE s1 t1 s2 t2 s3 t3 x1 y1 x2 y2 x3 y3)) none),(1,11,.call (vi n1) none)] []) 1000 [] (asm:=[true,true,true,!(J.ZdE s1 t1 s2 t2 s3 t3 x1 y1 x2 y2 x3 y3==true&&true)||true]) (calls:=[⟨true,false,51,[AV.vec true 4 [ag [vb s1,AV.vec f1 1 (us x1),vb t1,AV.vec g1 1 (us y1)],ag [vb s2,AV.vec f2 1 (us x2),vb t2,AV.vec g2 1 (us y2)],(zNmH7 s3 f3 x3 t3 g3 y3)]],[],vb (J.ZdE s1 t1 s2 t2 s3 t3 x1 y1 x2 y2 x3 y3),[]⟩,⟨J.ZdE s1 t1 s2 t2 s3 t3 x1 y1 x2 y2 x3 y3==true&&true&&true,false,20,[(zNmH7 s3 f3 x3 t3 g3 y3)],[],vi n1,[]⟩]) (vb (bif J.ZdE s1 t1 s2 t2 s3 t3 x1 y1 x2 y2 x3 y3 then decide (n1>0) else false)) (by kernel_rfl) (bc rfl (bc rfl (bc rfl (bc (Bool.or_true _) b0)))) q0 (cc (fun _=>(@ev51 s1 t1 f1 g1 s2 t2 f2 g2 s3 t3 f3 g3 x1 y1 x2 y2 x3 y3 k1)) (cc (fun hc=>((k3 ((i_at (i_at (i_bt (Zau _)))).1 hc)):Ev M1 (Conf.pure 20 [(zNmH7 s3 f3 x3 t3 g3 y3)]) (vi n1) [])) c0)) H
end Go.Av

namespace Go.Av
open Go.Proofs
theorem ev47 (a b c:Int) (h:J.inI a/\J.inI b/\J.inI c):Ev M1 (.pure 47 [.int .i64 a,.int .i64 b,.int .i64 c]) (ZaH (J.qi a) (J.qi b) (J.qi c)) []:=
 call47 (wLine _ _ _ _ ⟨h.1,h.2.1,h.2.2,.refl _⟩)
theorem ev48 (a b c:Int) (h:J.inI a/\J.inI b/\J.inI c):Ev M1 (.pure 48 [.int .i64 a,.int .i64 b,.int .i64 c]) (ZaH (J.qi a) (J.qi b) (J.qi c)) []:=
 call48 (wCirc _ _ _ _ ⟨h.1,h.2.1,h.2.2,.refl _⟩)
theorem ev50 (a b:Int) (h:J.inI a/\J.inI b):Ev M1 (.pure 50 [.int .i64 a,.int .i64 b]) (pntF (J.qi a) (J.qi 0) (J.qi b) (J.qi 0) (J.qi 0)) []:=
 call50 (wAt _ _ _ ⟨h,.refl _⟩)
namespace J
noncomputable def smB (l:List Pnt) (e:Int) (m:List Pnt) (f:Int):Bool:=bif bif e==f then Zfu l else false then eqL l m else false
noncomputable def ZcA (s1 t1 s2 t2 s3 t3:Bool) (x1 y1 x2 y2 x3 y3:List Int):Bool:=ZdE s1 t1 s2 t2 s3 t3 x1 y1 x2 y2 x3 y3&&(decide (x1.length ≠ 0)||decide (x2.length ≠ 0))
noncomputable abbrev Zet (a b c:Rat):Bool:=ZcA (Zaa a.num) (Zaa (a.den:Int)) (Zaa b.num) (Zaa (b.den:Int)) (Zaa c.num) (Zaa (c.den:Int)) (Zab a.num) (Zab (a.den:Int)) (Zab b.num) (Zab (b.den:Int)) (Zab c.num) (Zab (c.den:Int))
noncomputable def Zc3 (s1 t1 s2 t2 s3 t3:Bool) (x1 y1 x2 y2 x3 y3:List Int):Bool:=ZdE s1 t1 s2 t2 s3 t3 x1 y1 x2 y2 x3 y3&&(decide (x3.length ≠ 0) && !s3)
noncomputable abbrev ZfK (a b c:Rat):Bool:=Zc3 (Zaa a.num) (Zaa (a.den:Int)) (Zaa b.num) (Zaa (b.den:Int)) (Zaa c.num) (Zaa (c.den:Int)) (Zab a.num) (Zab (a.den:Int)) (Zab b.num) (Zab (b.den:Int)) (Zab c.num) (Zab (c.den:Int))
end J
theorem ev15 (u v:Bool) (l m:List Pnt) (e f:Int) (h:J.Zhh l/\J.Zhh m):Ev M1 (.pure 15 [.vec u 20 (l.map Pnt.a),.int .i64 e,.vec v 20 (m.map Pnt.a),.int .i64 f]) (.bool (J.smB l e m f)) []:=
 call15 (wSame _ _ _ _ _ _ _ ⟨fun _=>h.1,fun _=>h,rfl⟩)
theorem Zen {s1 t1 s2 t2 s3 t3:Bool} {x1 y1 x2 y2 x3 y3:List Int} (h:J.ZdE s1 t1 s2 t2 s3 t3 x1 y1 x2 y2 x3 y3=true):∃ a b c:Rat,J.ZeF a b c/\(s1=J.Zaa a.num/\x1=J.Zab a.num/\t1=J.Zaa (a.den:Int)/\y1=J.Zab (a.den:Int))/\(s2=J.Zaa b.num/\x2=J.Zab b.num/\t2=J.Zaa (b.den:Int)/\y2=J.Zab (b.den:Int))/\s3=J.Zaa c.num/\x3=J.Zab c.num/\t3=J.Zaa (c.den:Int)/\y3=J.Zab (c.den:Int):=by
 unfold J.ZdE at h
 rw [Bool.and_eq_true,Bool.and_eq_true] at h
 obtain ⟨a,ka,ea⟩:=Zfg h.1.1
 obtain ⟨b,kb,eb⟩:=Zfg h.1.2
 obtain ⟨c,kc,ec⟩:=Zfg h.2
 exact ⟨a,b,c,⟨ka,kb,kc⟩,ea,eb,ec⟩
theorem Zeg (v:Int):(J.Zab v).length ≠ 0 ↔ v ≠ 0:=by
 rw [ZaZ]
 have:=ZaE (v:=v.natAbs)
 omega
theorem sg_ne (v:Int):(J.sgnI v != 0)=decide ((J.Zab v).length ≠ 0):=by
 by_cases k:v=0
 ·subst k;rw [decide_eq_false fun h=>(Zeg 0).1 h rfl];rfl
 ·rw [decide_eq_true ((Zeg v).2 k),bne_iff_ne]
  exact fun e=>k (ZbB.1 e)
theorem sg_gt (v:Int):decide (J.sgnI v>0)=(decide ((J.Zab v).length ≠ 0) && !J.Zaa v):=by
 by_cases k:v=0
 ·subst k;rw [decide_eq_false (show ¬(J.Zab 0).length ≠ 0 from fun h=>(Zeg 0).1 h rfl)];rfl
 ·rw [decide_eq_true ((Zeg v).2 k),Bool.true_and]
  by_cases n:v<0
  ·rw [Zal.2 n]
   refine decide_eq_false ?_
   unfold J.sgnI;rw [if_pos n];decide
  ·rw [show J.Zaa v=false from decide_eq_false n]
   refine decide_eq_true ?_
   unfold J.sgnI;rw [if_neg n,if_pos (by omega)];decide
theorem ev12 (s1 t1 f1 g1 s2 t2 f2 g2 s3 t3 f3 g3:Bool) (x1 y1 x2 y2 x3 y3:List Int) (h:J.ZhO x1 y1 x2 y2 x3 y3):Ev M1 (.pure 12 [.agg [.bool s1,.vec f1 1 (x1.map (.int .u32)),.bool t1,.vec g1 1 (y1.map (.int .u32)),.bool s2,.vec f2 1 (x2.map (.int .u32)),.bool t2,.vec g2 1 (y2.map (.int .u32)),.bool s3,.vec f3 1 (x3.map (.int .u32)),.bool t3,.vec g3 1 (y3.map (.int .u32))]]) (.bool (J.ZcA s1 t1 s2 t2 s3 t3 x1 y1 x2 y2 x3 y3)) []:=by
 by_cases k:J.ZdE s1 t1 s2 t2 s3 t3 x1 y1 x2 y2 x3 y3=true
 ·obtain ⟨a,b,c,hk,⟨rfl,rfl,rfl,rfl⟩,⟨rfl,rfl,rfl,rfl⟩,rfl,rfl,rfl,rfl⟩:=Zen k
  refine call12 (rLine _ _ _ _ _ _ _ _ _ _ ⟨h,?_⟩)
  unfold J.ZcA
  rw [k,sg_ne,sg_ne]
  cases decide ((J.Zab a.num).length ≠ 0) <;> cases decide ((J.Zab b.num).length ≠ 0) <;> rfl
 ·refine call12 (rLineR _ _ _ _ _ _ _ _ _ _ _ _ _ _ _ _ _ _ _ ⟨h,0,fun j=>absurd j k,0,fun j=>absurd j.2 k,?_⟩)
  unfold J.ZcA
  rw [(Bool.not_eq_true _).mp k];rfl
theorem ev16 (s1 t1 f1 g1 s2 t2 f2 g2 s3 t3 f3 g3:Bool) (x1 y1 x2 y2 x3 y3:List Int) (h:J.ZhO x1 y1 x2 y2 x3 y3):Ev M1 (.pure 16 [.agg [.bool s1,.vec f1 1 (x1.map (.int .u32)),.bool t1,.vec g1 1 (y1.map (.int .u32)),.bool s2,.vec f2 1 (x2.map (.int .u32)),.bool t2,.vec g2 1 (y2.map (.int .u32)),.bool s3,.vec f3 1 (x3.map (.int .u32)),.bool t3,.vec g3 1 (y3.map (.int .u32))]]) (.bool (J.Zc3 s1 t1 s2 t2 s3 t3 x1 y1 x2 y2 x3 y3)) []:=by
 by_cases k:J.ZdE s1 t1 s2 t2 s3 t3 x1 y1 x2 y2 x3 y3=true
 ·obtain ⟨a,b,c,hk,⟨rfl,rfl,rfl,rfl⟩,⟨rfl,rfl,rfl,rfl⟩,rfl,rfl,rfl,rfl⟩:=Zen k
  refine call16 (rCirc _ _ _ _ _ _ _ _ _ _ ⟨h,?_⟩)
  unfold J.Zc3
  rw [k,sg_gt];rfl
 ·refine call16 (rCircR _ _ _ _ _ _ _ _ _ _ _ _ _ _ _ _ _ _ _ ⟨h,0,fun j=>absurd j k,?_⟩)
  unfold J.Zc3
  rw [(Bool.not_eq_true _).mp k];rfl
theorem lineB_few {s1 t1 s2 t2 s3 t3:Bool} {x1 y1 x2 y2 x3 y3:List Int} (h:J.ZcA s1 t1 s2 t2 s3 t3 x1 y1 x2 y2 x3 y3=true):J.ZdE s1 t1 s2 t2 s3 t3 x1 y1 x2 y2 x3 y3=true:=by
 unfold J.ZcA at h;rw [Bool.and_eq_true] at h;exact h.1
theorem circB_few {s1 t1 s2 t2 s3 t3:Bool} {x1 y1 x2 y2 x3 y3:List Int} (h:J.Zc3 s1 t1 s2 t2 s3 t3 x1 y1 x2 y2 x3 y3=true):J.ZdE s1 t1 s2 t2 s3 t3 x1 y1 x2 y2 x3 y3=true:=by
 unfold J.Zc3 at h;rw [Bool.and_eq_true] at h;exact h.1
theorem lineB_ne {a b c:Rat} (h:J.ZcA (J.Zaa a.num) (J.Zaa (a.den:Int)) (J.Zaa b.num) (J.Zaa (b.den:Int)) (J.Zaa c.num) (J.Zaa (c.den:Int)) (J.Zab a.num) (J.Zab (a.den:Int)) (J.Zab b.num) (J.Zab (b.den:Int)) (J.Zab c.num) (J.Zab (c.den:Int))=true):a ≠ 0\/b ≠ 0:=by
 unfold J.ZcA at h
 rw [Bool.and_eq_true,Bool.or_eq_true,decide_eq_true_iff,decide_eq_true_iff,Zeg,Zeg] at h
 exact h.2.imp (fun k e=>k (Rat.num_eq_zero.2 e)) fun k e=>k (Rat.num_eq_zero.2 e)
end Go.Av

namespace Go.Av
open Go.Proofs
set_option maxRecDepth 100000
def fi11:Fi:=⟨72,[.tmp 0]⟩
def kp11:List (Nat × List Nat):=[(0,[]),(1,[1,2]),(2,[1,2,3]),(3,[1,2,3,4]),(4,[1,2,3,4,5,6]),(5,[1,2,3,4,5,6,8]),(6,[0])]
def fi43:Fi:=⟨43,[.tmp 4,.tmp 5]⟩
def kp43:List (Nat × List Nat):=[(0,[2,3]),(1,[2,3,6]),(2,[4,5]),(3,[2,3,20]),(4,[4,5]),(5,[2,3,28]),(6,[4,5]),(7,[4,5])]
def fi44:Fi:=⟨40,[.tmp 4,.tmp 5]⟩
def kp44:List (Nat × List Nat):=[(0,[2,3]),(1,[2,3,11]),(2,[4,5]),(3,[2,3,20]),(4,[4,5]),(5,[2,3,27]),(6,[4,5]),(7,[4,5])]
def wAwake_at  (Q:AV->Heap->Prop):Prop:=Wp M1 (.run fi11 (atC (cd Tryz.f11) []) [] []) Q
def mSup_at (p1 q1 p2 q2:Bool) (w1 w2:Nat->Bool) (l1 l2:Nat->List Int) (a b c x y z d e f u v r:Rat) (Q:AV->Heap->Prop):Prop:=Wp M1 (.run fi43 (atC (cd Tryz.f43) []) [(0,.agg (.bool p1::.bool (J.Zaa a.num)::.vec false 1 ((J.Zab a.num).map (.int .u32))::.bool (J.Zaa (a.den:Int))::.vec false 1 ((J.Zab (a.den:Int)).map (.int .u32))::.bool (J.Zaa b.num)::.vec false 1 ((J.Zab b.num).map (.int .u32))::.bool (J.Zaa (b.den:Int))::.vec false 1 ((J.Zab (b.den:Int)).map (.int .u32))::.bool (J.Zaa c.num)::.vec false 1 ((J.Zab c.num).map (.int .u32))::.bool (J.Zaa (c.den:Int))::.vec false 1 ((J.Zab (c.den:Int)).map (.int .u32))::.bool (J.Zaa x.num)::.vec false 1 ((J.Zab x.num).map (.int .u32))::.bool (J.Zaa (x.den:Int))::.vec false 1 ((J.Zab (x.den:Int)).map (.int .u32))::.bool (J.Zaa y.num)::.vec false 1 ((J.Zab y.num).map (.int .u32))::.bool (J.Zaa (y.den:Int))::.vec false 1 ((J.Zab (y.den:Int)).map (.int .u32))::.bool (J.Zaa z.num)::.vec false 1 ((J.Zab z.num).map (.int .u32))::.bool (J.Zaa (z.den:Int))::.vec false 1 ((J.Zab (z.den:Int)).map (.int .u32))::.bool q1::w20 w1 l1)),(1,.agg (.bool p2::.bool (J.Zaa d.num)::.vec false 1 ((J.Zab d.num).map (.int .u32))::.bool (J.Zaa (d.den:Int))::.vec false 1 ((J.Zab (d.den:Int)).map (.int .u32))::.bool (J.Zaa e.num)::.vec false 1 ((J.Zab e.num).map (.int .u32))::.bool (J.Zaa (e.den:Int))::.vec false 1 ((J.Zab (e.den:Int)).map (.int .u32))::.bool (J.Zaa f.num)::.vec false 1 ((J.Zab f.num).map (.int .u32))::.bool (J.Zaa (f.den:Int))::.vec false 1 ((J.Zab (f.den:Int)).map (.int .u32))::.bool (J.Zaa u.num)::.vec false 1 ((J.Zab u.num).map (.int .u32))::.bool (J.Zaa (u.den:Int))::.vec false 1 ((J.Zab (u.den:Int)).map (.int .u32))::.bool (J.Zaa v.num)::.vec false 1 ((J.Zab v.num).map (.int .u32))::.bool (J.Zaa (v.den:Int))::.vec false 1 ((J.Zab (v.den:Int)).map (.int .u32))::.bool (J.Zaa r.num)::.vec false 1 ((J.Zab r.num).map (.int .u32))::.bool (J.Zaa (r.den:Int))::.vec false 1 ((J.Zab (r.den:Int)).map (.int .u32))::.bool q2::w20 w2 l2))] []) Q
def rSup9_at (p1 q1 p2 q2:Bool) (w1 w2:Nat->Bool) (l1 l2:Nat->List Int) (a b c x y z d e f u v r:Rat) (Q:AV->Heap->Prop):Prop:=Wp M1 (.run fi44 (atC (cd Tryz.f44) []) [(0,.agg (.bool p1::.bool (J.Zaa a.num)::.vec false 1 ((J.Zab a.num).map (.int .u32))::.bool (J.Zaa (a.den:Int))::.vec false 1 ((J.Zab (a.den:Int)).map (.int .u32))::.bool (J.Zaa b.num)::.vec false 1 ((J.Zab b.num).map (.int .u32))::.bool (J.Zaa (b.den:Int))::.vec false 1 ((J.Zab (b.den:Int)).map (.int .u32))::.bool (J.Zaa c.num)::.vec false 1 ((J.Zab c.num).map (.int .u32))::.bool (J.Zaa (c.den:Int))::.vec false 1 ((J.Zab (c.den:Int)).map (.int .u32))::.bool (J.Zaa x.num)::.vec false 1 ((J.Zab x.num).map (.int .u32))::.bool (J.Zaa (x.den:Int))::.vec false 1 ((J.Zab (x.den:Int)).map (.int .u32))::.bool (J.Zaa y.num)::.vec false 1 ((J.Zab y.num).map (.int .u32))::.bool (J.Zaa (y.den:Int))::.vec false 1 ((J.Zab (y.den:Int)).map (.int .u32))::.bool (J.Zaa z.num)::.vec false 1 ((J.Zab z.num).map (.int .u32))::.bool (J.Zaa (z.den:Int))::.vec false 1 ((J.Zab (z.den:Int)).map (.int .u32))::.bool q1::w20 w1 l1)),(1,.agg (.bool p2::.bool (J.Zaa d.num)::.vec false 1 ((J.Zab d.num).map (.int .u32))::.bool (J.Zaa (d.den:Int))::.vec false 1 ((J.Zab (d.den:Int)).map (.int .u32))::.bool (J.Zaa e.num)::.vec false 1 ((J.Zab e.num).map (.int .u32))::.bool (J.Zaa (e.den:Int))::.vec false 1 ((J.Zab (e.den:Int)).map (.int .u32))::.bool (J.Zaa f.num)::.vec false 1 ((J.Zab f.num).map (.int .u32))::.bool (J.Zaa (f.den:Int))::.vec false 1 ((J.Zab (f.den:Int)).map (.int .u32))::.bool (J.Zaa u.num)::.vec false 1 ((J.Zab u.num).map (.int .u32))::.bool (J.Zaa (u.den:Int))::.vec false 1 ((J.Zab (u.den:Int)).map (.int .u32))::.bool (J.Zaa v.num)::.vec false 1 ((J.Zab v.num).map (.int .u32))::.bool (J.Zaa (v.den:Int))::.vec false 1 ((J.Zab (v.den:Int)).map (.int .u32))::.bool (J.Zaa r.num)::.vec false 1 ((J.Zab r.num).map (.int .u32))::.bool (J.Zaa (r.den:Int))::.vec false 1 ((J.Zab (r.den:Int)).map (.int .u32))::.bool q2::w20 w2 l2))] []) Q
theorem call11 {args:List AV} {d:AV} (h:wc M1 fi11 Tryz.f11 args d):Ev M1 (.pure 11 args) d []:=pcl _ _ (by kernel_rfl) h
theorem call43 {args:List AV} {d:AV} (h:wc M1 fi43 Tryz.f43 args d):Ev M1 (.pure 43 args) d []:=pcl _ _ (by kernel_rfl) h
theorem call44 {args:List AV} {d:AV} (h:wc M1 fi44 Tryz.f44 args d):Ev M1 (.pure 44 args) d []:=pcl _ _ (by kernel_rfl) h
noncomputable abbrev Zhj:=(pntF (J.qi 1) (J.qi 0) (J.qi 1) (J.qi 0) (J.qi 0))
noncomputable abbrev zNmI2:=(pntF (J.qi (-1)) (J.qi 0) (J.qi 1) (J.qi 0) (J.qi 0))
noncomputable abbrev zNmI3:=(pntF (J.qi 2) (J.qi 0) (J.qi 1) (J.qi 0) (J.qi 0))
noncomputable abbrev zNmI4:=J.Zfr (J.qi 1) (J.qi 1) (J.qi 3) (J.qi 1) (J.qi (-1)) (J.qi 1)
noncomputable abbrev zNmI5:=J.dep (J.qi 1) (J.qi 1) (J.qi 2) (J.qi 0) (J.qi 0) (J.qi 2)=0
noncomputable abbrev zNmI6:=J.ZbN (J.qi 0) (J.qi 1) (J.qi 1) (J.qi 0) (J.qi 0) (J.qi 2)
noncomputable abbrev zNmI7:=J.ZbN (J.qi 1) (J.qi 1) (J.qi 2) (J.qi 0) (J.qi 0) (J.qi 2)
noncomputable abbrev zNmI8:=(↑(J.ZeG (J.qi 0) (J.qi 0) (J.qi 1) (J.qi 1) (J.qi 0) (J.qi 1)).length:Int)=2
noncomputable abbrev zNmI9 (b1:Bool):=bif J.Zdx (J.qi 1) (J.qi 1) (J.qi 3) (J.qi 1) (J.qi (-1)) (J.qi 1)==0 then b1 else false
noncomputable abbrev zNmI10:=J.Zdx (J.qi 1) (J.qi 1) (J.qi 3) (J.qi 1) (J.qi (-1)) (J.qi 1)=0
noncomputable abbrev zNmI11:=J.ZcY (J.qi 0) (J.qi 0) (J.qi 1) (J.qi 0) (J.qi 0) (J.qi 1)=10
noncomputable abbrev zNmI12:=J.ZcY (J.qi 0) (J.qi 0) (J.qi 1) (J.qi 1) (J.qi 0) (J.qi 1)=0
theorem wAwake   (dq:AV) (H :
  (J.inI 1/\J.inI 1/\J.inI 3) /\
  (J.inI 1/\J.inI (-1)/\J.inI 1) /\
  (J.ZcW (J.qi 1) (J.qi 1) (J.qi 3)/\J.ZcW (J.qi 1) (J.qi (-1)) (J.qi 1)) /\
  (J.inI 0/\J.inI 1/\J.inI 1) /\
  (J.inI 0/\J.inI 0/\J.inI 2) /\
  (J.Zfc (J.qi 0) (J.qi 1) (J.qi 1)/\J.ZdT (J.qi 0) (J.qi 0)/\J.okT 30 (J.qi 2)) /\
  (J.inI 1/\J.inI 1/\J.inI 2) /\
  (J.Zfc (J.qi 1) (J.qi 1) (J.qi 2)/\J.ZdT (J.qi 0) (J.qi 0)/\J.okT 30 (J.qi 2)) /\
  (J.inI 0/\J.inI 0/\J.inI 1) /\
  (J.inI 1/\J.inI 0/\J.inI 1) /\
  (J.ZeF (J.qi 0) (J.qi 0) (J.qi 1)/\J.ZeF (J.qi 1) (J.qi 0) (J.qi 1)) /\
  (J.ZeF (J.qi 0) (J.qi 0) (J.qi 1)/\J.ZeF (J.qi 0) (J.qi 0) (J.qi 1)) /\
  ((J.Zdx (J.qi 1) (J.qi 1) (J.qi 3) (J.qi 1) (J.qi (-1)) (J.qi 1)=0)->(J.inI 2/\J.inI 1)) /\
  ∃ (b1:Bool),
  ((J.Zdx (J.qi 1) (J.qi 1) (J.qi 3) (J.qi 1) (J.qi (-1)) (J.qi 1)=0)->(Ev M1 (Conf.pure 49 [AV.vec false 20 (List.map Pnt.a (J.Zfr (J.qi 1) (J.qi 1) (J.qi 3) (J.qi 1) (J.qi (-1)) (J.qi 1))),AV.vec true 20 [(pntF (J.qi 2) (J.qi 0) (J.qi 1) (J.qi 0) (J.qi 0))]]) (vb b1) [])) /\
  (((J.Zdx (J.qi 1) (J.qi 1) (J.qi 3) (J.qi 1) (J.qi (-1)) (J.qi 1)=0)/\(b1=true))->(J.inI (-1)/\J.inI 1)) /\
  (((J.Zdx (J.qi 1) (J.qi 1) (J.qi 3) (J.qi 1) (J.qi (-1)) (J.qi 1)=0)/\(b1=true))->(J.inI 1/\J.inI 1)) /\
  ∃ (b2:Bool),
  (((J.Zdx (J.qi 1) (J.qi 1) (J.qi 3) (J.qi 1) (J.qi (-1)) (J.qi 1)=0)/\(b1=true))->(Ev M1 (Conf.pure 49 [AV.vec false 20 (List.map Pnt.a (J.ZbN (J.qi 0) (J.qi 1) (J.qi 1) (J.qi 0) (J.qi 0) (J.qi 2))),AV.vec true 20 [(pntF (J.qi (-1)) (J.qi 0) (J.qi 1) (J.qi 0) (J.qi 0)),(pntF (J.qi 1) (J.qi 0) (J.qi 1) (J.qi 0) (J.qi 0))]]) (vb b2) [])) /\
  ((((J.Zdx (J.qi 1) (J.qi 1) (J.qi 3) (J.qi 1) (J.qi (-1)) (J.qi 1)=0)/\(b1=true))/\(b2=true))->(J.inI 1/\J.inI 1)) /\
  ∃ (b3:Bool),
  ((((J.Zdx (J.qi 1) (J.qi 1) (J.qi 3) (J.qi 1) (J.qi (-1)) (J.qi 1)=0)/\(b1=true))/\(b2=true))->(Ev M1 (Conf.pure 49 [AV.vec false 20 (List.map Pnt.a (J.ZbN (J.qi 1) (J.qi 1) (J.qi 2) (J.qi 0) (J.qi 0) (J.qi 2))),AV.vec true 20 [(pntF (J.qi 1) (J.qi 0) (J.qi 1) (J.qi 0) (J.qi 0))]]) (vb b3) [])) /\
  vb (bif bif bif bif bif bif bif J.Zdx (J.qi 1) (J.qi 1) (J.qi 3) (J.qi 1) (J.qi (-1)) (J.qi 1)==0 then b1 else false then b2 else false then b3 else false then J.ZcY (J.qi 0) (J.qi 0) (J.qi 1) (J.qi 1) (J.qi 0) (J.qi 1)==0 else false then (↑(J.ZeG (J.qi 0) (J.qi 0) (J.qi 1) (J.qi 1) (J.qi 0) (J.qi 1)).length:Int)==2 else false then J.ZcY (J.qi 0) (J.qi 0) (J.qi 1) (J.qi 0) (J.qi 0) (J.qi 1)==10 else false then decide (J.dep (J.qi 1) (J.qi 1) (J.qi 2) (J.qi 0) (J.qi 0) (J.qi 2)=0) else false)=dq) :
 wAwake_at  (Zag dq):=by
 unfold wAwake_at
 obtain ⟨k1,k2,k3,k4,k5,k6,k7,k8,k9,k10,k11,k12,k14,b1,k16,k18,k20,b2,k22,k24,b3,k26,H⟩:=H
 have w27:(List.map Pnt.a (J.ZeG (J.qi 0) (J.qi 0) (J.qi 1) (J.qi 1) (J.qi 0) (J.qi 1))).length=(J.ZeG (J.qi 0) (J.qi 0) (J.qi 1) (J.qi 1) (J.qi 0) (J.qi 1)).length:=List.length_map ..
 have i28:((bif bif bif bif bif bif J.Zdx (J.qi 1) (J.qi 1) (J.qi 3) (J.qi 1) (J.qi (-1)) (J.qi 1)==0 then b1 else false then b2 else false then b3 else false then J.ZcY (J.qi 0) (J.qi 0) (J.qi 1) (J.qi 1) (J.qi 0) (J.qi 1)==0 else false then (↑(List.map Pnt.a (J.ZeG (J.qi 0) (J.qi 0) (J.qi 1) (J.qi 1) (J.qi 0) (J.qi 1))).length:Int)==2 else false then J.ZcY (J.qi 0) (J.qi 0) (J.qi 1) (J.qi 0) (J.qi 0) (J.qi 1)==10 else false)==true&&true&&true)=true ↔ ((((((zNmI10/\(b1=true))/\(b2=true))/\(b3=true))/\zNmI12)/\zNmI8)/\zNmI11):=(by (try rw [w27]);all_goals exact (i_at (i_at (i_bt (ZaI (ZaI (ZaI (ZaI (ZaI (ZaI i_eq (Zau _)) (Zau _)) (Zau _)) i_eq) i_eq) i_eq)))))
 have i29:((bif bif bif bif bif bif J.Zdx (J.qi 1) (J.qi 1) (J.qi 3) (J.qi 1) (J.qi (-1)) (J.qi 1)==0 then b1 else false then b2 else false then b3 else false then J.ZcY (J.qi 0) (J.qi 0) (J.qi 1) (J.qi 1) (J.qi 0) (J.qi 1)==0 else false then (↑(List.map Pnt.a (J.ZeG (J.qi 0) (J.qi 0) (J.qi 1) (J.qi 1) (J.qi 0) (J.qi 1))).length:Int)==2 else false then J.ZcY (J.qi 0) (J.qi 0) (J.qi 1) (J.qi 0) (J.qi 0) (J.qi 1)==10 else false)==true&&true&&true)=true ↔ ((((((zNmI10/\(b1=true))/\(b2=true))/\(b3=true))/\zNmI12)/\zNmI8)/\zNmI11):=(by (try rw [w27]);all_goals exact (i_at (i_at (i_bt (ZaI (ZaI (ZaI (ZaI (ZaI (ZaI i_eq (Zau _)) (Zau _)) (Zau _)) i_eq) i_eq) i_eq)))))
 have i30:((bif bif bif bif bif bif J.Zdx (J.qi 1) (J.qi 1) (J.qi 3) (J.qi 1) (J.qi (-1)) (J.qi 1)==0 then b1 else false then b2 else false then b3 else false then J.ZcY (J.qi 0) (J.qi 0) (J.qi 1) (J.qi 1) (J.qi 0) (J.qi 1)==0 else false then (↑(List.map Pnt.a (J.ZeG (J.qi 0) (J.qi 0) (J.qi 1) (J.qi 1) (J.qi 0) (J.qi 1))).length:Int)==2 else false then J.ZcY (J.qi 0) (J.qi 0) (J.qi 1) (J.qi 0) (J.qi 0) (J.qi 1)==10 else false)==true&&true&&true)=true ↔ ((((((zNmI10/\(b1=true))/\(b2=true))/\(b3=true))/\zNmI12)/\zNmI8)/\zNmI11):=(by (try rw [w27]);all_goals exact (i_at (i_at (i_bt (ZaI (ZaI (ZaI (ZaI (ZaI (ZaI i_eq (Zau _)) (Zau _)) (Zau _)) i_eq) i_eq) i_eq)))))
 exact Zaq (G:=Zac kp11 [(1,0,.call (ZaH (J.qi 1) (J.qi 1) (J.qi 3)) none),(1,1,.call (ZaH (J.qi 1) (J.qi (-1)) (J.qi 1)) none),(1,2,.call (tu [AV.vec false 20 (List.map Pnt.a zNmI4),vi (J.Zdx (J.qi 1) (J.qi 1) (J.qi 3) (J.qi 1) (J.qi (-1)) (J.qi 1))]) none),(2,0,.call (ZaH (J.qi 0) (J.qi 1) (J.qi 1)) none),(2,1,.call (ZaH (J.qi 0) (J.qi 0) (J.qi 2)) none),(2,2,.call (AV.vec false 20 (List.map Pnt.a zNmI6)) none),(3,0,.call (ZaH (J.qi 1) (J.qi 1) (J.qi 2)) none),(3,1,.call (ZaH (J.qi 0) (J.qi 0) (J.qi 2)) none),(3,2,.call (AV.vec false 20 (List.map Pnt.a zNmI7)) none),(4,0,.call (ZaH (J.qi 0) (J.qi 0) (J.qi 1)) none),(4,1,.call (ZaH (J.qi 1) (J.qi 0) (J.qi 1)) none),(4,2,.call (tu [AV.vec false 20 (List.map Pnt.a (J.ZeG (J.qi 0) (J.qi 0) (J.qi 1) (J.qi 1) (J.qi 0) (J.qi 1))),vi (J.ZcY (J.qi 0) (J.qi 0) (J.qi 1) (J.qi 1) (J.qi 0) (J.qi 1))]) none),(5,0,.call (ZaH (J.qi 0) (J.qi 0) (J.qi 1)) none),(5,1,.call (ZaH (J.qi 0) (J.qi 0) (J.qi 1)) none),(5,2,.call (tu [AV.vec false 20 (List.map Pnt.a (J.ZeG (J.qi 0) (J.qi 0) (J.qi 1) (J.qi 0) (J.qi 0) (J.qi 1))),vi (J.ZcY (J.qi 0) (J.qi 0) (J.qi 1) (J.qi 0) (J.qi 0) (J.qi 1))]) none),(6,4,.call zNmI3 none),(6,6,.call (vb b1) none),(6,10,.call zNmI2 none),(6,11,.call Zhj none),(6,13,.call (vb b2) none),(6,17,.call Zhj none),(6,19,.call (vb b3) none),(6,35,.call (ZaH (J.qi 1) (J.qi 1) (J.qi 2)) none),(6,36,.call (ZaH (J.qi 0) (J.qi 0) (J.qi 2)) none),(6,37,.call (vb (decide zNmI5)) none)] []) 1000 [] (calls:=[⟨true,false,47,[vi 1,vi 1,vi 3],[],ZaH (J.qi 1) (J.qi 1) (J.qi 3),[]⟩,⟨true,false,47,[vi 1,vi (-1),vi 1],[],ZaH (J.qi 1) (J.qi (-1)) (J.qi 1),[]⟩,⟨true,false,13,[ZaH (J.qi 1) (J.qi 1) (J.qi 3),ZaH (J.qi 1) (J.qi (-1)) (J.qi 1)],[],tu [AV.vec false 20 (List.map Pnt.a zNmI4),vi (J.Zdx (J.qi 1) (J.qi 1) (J.qi 3) (J.qi 1) (J.qi (-1)) (J.qi 1))],[]⟩,⟨true,false,47,[vi 0,vi 1,vi 1],[],ZaH (J.qi 0) (J.qi 1) (J.qi 1),[]⟩,⟨true,false,48,[vi 0,vi 0,vi 2],[],ZaH (J.qi 0) (J.qi 0) (J.qi 2),[]⟩,⟨true,false,17,[ZaH (J.qi 0) (J.qi 1) (J.qi 1),ZaH (J.qi 0) (J.qi 0) (J.qi 2)],[],AV.vec false 20 (List.map Pnt.a zNmI6),[]⟩,⟨true,false,47,[vi 1,vi 1,vi 2],[],ZaH (J.qi 1) (J.qi 1) (J.qi 2),[]⟩,⟨true,false,48,[vi 0,vi 0,vi 2],[],ZaH (J.qi 0) (J.qi 0) (J.qi 2),[]⟩,⟨true,false,17,[ZaH (J.qi 1) (J.qi 1) (J.qi 2),ZaH (J.qi 0) (J.qi 0) (J.qi 2)],[],AV.vec false 20 (List.map Pnt.a zNmI7),[]⟩,⟨true,false,48,[vi 0,vi 0,vi 1],[],ZaH (J.qi 0) (J.qi 0) (J.qi 1),[]⟩,⟨true,false,48,[vi 1,vi 0,vi 1],[],ZaH (J.qi 1) (J.qi 0) (J.qi 1),[]⟩,⟨true,false,22,[ZaH (J.qi 0) (J.qi 0) (J.qi 1),ZaH (J.qi 1) (J.qi 0) (J.qi 1)],[],tu [AV.vec false 20 (List.map Pnt.a (J.ZeG (J.qi 0) (J.qi 0) (J.qi 1) (J.qi 1) (J.qi 0) (J.qi 1))),vi (J.ZcY (J.qi 0) (J.qi 0) (J.qi 1) (J.qi 1) (J.qi 0) (J.qi 1))],[]⟩,⟨true,false,48,[vi 0,vi 0,vi 1],[],ZaH (J.qi 0) (J.qi 0) (J.qi 1),[]⟩,⟨true,false,48,[vi 0,vi 0,vi 1],[],ZaH (J.qi 0) (J.qi 0) (J.qi 1),[]⟩,⟨true,false,22,[ZaH (J.qi 0) (J.qi 0) (J.qi 1),ZaH (J.qi 0) (J.qi 0) (J.qi 1)],[],tu [AV.vec false 20 (List.map Pnt.a (J.ZeG (J.qi 0) (J.qi 0) (J.qi 1) (J.qi 0) (J.qi 0) (J.qi 1))),vi (J.ZcY (J.qi 0) (J.qi 0) (J.qi 1) (J.qi 0) (J.qi 0) (J.qi 1))],[]⟩,⟨(J.Zdx (J.qi 1) (J.qi 1) (J.qi 3) (J.qi 1) (J.qi (-1)) (J.qi 1)==0)==true&&true&&true,false,50,[vi 2,vi 1],[],zNmI3,[]⟩,⟨(J.Zdx (J.qi 1) (J.qi 1) (J.qi 3) (J.qi 1) (J.qi (-1)) (J.qi 1)==0)==true&&true&&true,false,49,[AV.vec false 20 (List.map Pnt.a zNmI4),AV.vec true 20 [zNmI3]],[],vb b1,[]⟩,⟨(zNmI9 b1)==true&&true&&true,false,50,[vi (-1),vi 1],[],zNmI2,[]⟩,⟨(zNmI9 b1)==true&&true&&true,false,50,[vi 1,vi 1],[],Zhj,[]⟩,⟨(zNmI9 b1)==true&&true&&true,false,49,[AV.vec false 20 (List.map Pnt.a zNmI6),AV.vec true 20 [zNmI2,Zhj]],[],vb b2,[]⟩,⟨(bif bif J.Zdx (J.qi 1) (J.qi 1) (J.qi 3) (J.qi 1) (J.qi (-1)) (J.qi 1)==0 then b1 else false then b2 else false)==true&&true&&true,false,50,[vi 1,vi 1],[],Zhj,[]⟩,⟨(bif bif J.Zdx (J.qi 1) (J.qi 1) (J.qi 3) (J.qi 1) (J.qi (-1)) (J.qi 1)==0 then b1 else false then b2 else false)==true&&true&&true,false,49,[AV.vec false 20 (List.map Pnt.a zNmI7),AV.vec true 20 [Zhj]],[],vb b3,[]⟩,⟨(bif bif bif bif bif bif J.Zdx (J.qi 1) (J.qi 1) (J.qi 3) (J.qi 1) (J.qi (-1)) (J.qi 1)==0 then b1 else false then b2 else false then b3 else false then J.ZcY (J.qi 0) (J.qi 0) (J.qi 1) (J.qi 1) (J.qi 0) (J.qi 1)==0 else false then (↑(List.map Pnt.a (J.ZeG (J.qi 0) (J.qi 0) (J.qi 1) (J.qi 1) (J.qi 0) (J.qi 1))).length:Int)==2 else false then J.ZcY (J.qi 0) (J.qi 0) (J.qi 1) (J.qi 0) (J.qi 0) (J.qi 1)==10 else false)==true&&true&&true,false,47,[vi 1,vi 1,vi 2],[],ZaH (J.qi 1) (J.qi 1) (J.qi 2),[]⟩,⟨(bif bif bif bif bif bif J.Zdx (J.qi 1) (J.qi 1) (J.qi 3) (J.qi 1) (J.qi (-1)) (J.qi 1)==0 then b1 else false then b2 else false then b3 else false then J.ZcY (J.qi 0) (J.qi 0) (J.qi 1) (J.qi 1) (J.qi 0) (J.qi 1)==0 else false then (↑(List.map Pnt.a (J.ZeG (J.qi 0) (J.qi 0) (J.qi 1) (J.qi 1) (J.qi 0) (J.qi 1))).length:Int)==2 else false then J.ZcY (J.qi 0) (J.qi 0) (J.qi 1) (J.qi 0) (J.qi 0) (J.qi 1)==10 else false)==true&&true&&true,false,48,[vi 0,vi 0,vi 2],[],ZaH (J.qi 0) (J.qi 0) (J.qi 2),[]⟩,⟨(bif bif bif bif bif bif J.Zdx (J.qi 1) (J.qi 1) (J.qi 3) (J.qi 1) (J.qi (-1)) (J.qi 1)==0 then b1 else false then b2 else false then b3 else false then J.ZcY (J.qi 0) (J.qi 0) (J.qi 1) (J.qi 1) (J.qi 0) (J.qi 1)==0 else false then (↑(List.map Pnt.a (J.ZeG (J.qi 0) (J.qi 0) (J.qi 1) (J.qi 1) (J.qi 0) (J.qi 1))).length:Int)==2 else false then J.ZcY (J.qi 0) (J.qi 0) (J.qi 1) (J.qi 0) (J.qi 0) (J.qi 1)==10 else false)==true&&true&&true,false,19,[ZaH (J.qi 1) (J.qi 1) (J.qi 2),ZaH (J.qi 0) (J.qi 0) (J.qi 2)],[],vb (decide zNmI5),[]⟩]) (vb (bif bif bif bif bif bif bif J.Zdx (J.qi 1) (J.qi 1) (J.qi 3) (J.qi 1) (J.qi (-1)) (J.qi 1)==0 then b1 else false then b2 else false then b3 else false then J.ZcY (J.qi 0) (J.qi 0) (J.qi 1) (J.qi 1) (J.qi 0) (J.qi 1)==0 else false then (↑(List.map Pnt.a (J.ZeG (J.qi 0) (J.qi 0) (J.qi 1) (J.qi 1) (J.qi 0) (J.qi 1))).length:Int)==2 else false then J.ZcY (J.qi 0) (J.qi 0) (J.qi 1) (J.qi 0) (J.qi 0) (J.qi 1)==10 else false then decide zNmI5 else false)) (by kernel_rfl) b0 q0 (cc (fun _=>(@ev47 1 1 3 k1)) (cc (fun _=>(@ev47 1 (-1) 1 k2)) (cc (fun _=>(@ev13 false false false false false false false false false false false false (J.qi 1) (J.qi 1) (J.qi 3) (J.qi 1) (J.qi (-1)) (J.qi 1) k3)) (cc (fun _=>(@ev47 0 1 1 k4)) (cc (fun _=>(@ev48 0 0 2 k5)) (cc (fun _=>(@ev17 false false false false false false false false false false false false (J.qi 0) (J.qi 1) (J.qi 1) (J.qi 0) (J.qi 0) (J.qi 2) k6)) (cc (fun _=>(@ev47 1 1 2 k7)) (cc (fun _=>(@ev48 0 0 2 k5)) (cc (fun _=>(@ev17 false false false false false false false false false false false false (J.qi 1) (J.qi 1) (J.qi 2) (J.qi 0) (J.qi 0) (J.qi 2) k8)) (cc (fun _=>(@ev48 0 0 1 k9)) (cc (fun _=>(@ev48 1 0 1 k10)) (cc (fun _=>(@ev22 false false false false false false false false false false false false (J.qi 0) (J.qi 0) (J.qi 1) (J.qi 1) (J.qi 0) (J.qi 1) k11)) (cc (fun _=>(@ev48 0 0 1 k9)) (cc (fun _=>(@ev48 0 0 1 k9)) (cc (fun _=>(@ev22 false false false false false false false false false false false false (J.qi 0) (J.qi 0) (J.qi 1) (J.qi 0) (J.qi 0) (J.qi 1) k12)) (cc (fun hc=>((@ev50 2 1 (k14 ((i_at (i_at (i_bt i_eq))).1 hc))):Ev M1 (Conf.pure 50 [vi 2,vi 1]) zNmI3 [])) (cc (fun hc=>((k16 ((i_at (i_at (i_bt i_eq))).1 hc)):Ev M1 (Conf.pure 49 [AV.vec false 20 (List.map Pnt.a zNmI4),AV.vec true 20 [zNmI3]]) (vb b1) [])) (cc (fun hc=>((@ev50 (-1) 1 (k18 ((i_at (i_at (i_bt (ZaI i_eq (Zau _))))).1 hc))):Ev M1 (Conf.pure 50 [vi (-1),vi 1]) zNmI2 [])) (cc (fun hc=>((@ev50 1 1 (k20 ((i_at (i_at (i_bt (ZaI i_eq (Zau _))))).1 hc))):Ev M1 (Conf.pure 50 [vi 1,vi 1]) Zhj [])) (cc (fun hc=>((k22 ((i_at (i_at (i_bt (ZaI i_eq (Zau _))))).1 hc)):Ev M1 (Conf.pure 49 [AV.vec false 20 (List.map Pnt.a zNmI6),AV.vec true 20 [zNmI2,Zhj]]) (vb b2) [])) (cc (fun hc=>((@ev50 1 1 (k24 ((i_at (i_at (i_bt (ZaI (ZaI i_eq (Zau _)) (Zau _))))).1 hc))):Ev M1 (Conf.pure 50 [vi 1,vi 1]) Zhj [])) (cc (fun hc=>((k26 ((i_at (i_at (i_bt (ZaI (ZaI i_eq (Zau _)) (Zau _))))).1 hc)):Ev M1 (Conf.pure 49 [AV.vec false 20 (List.map Pnt.a zNmI7),AV.vec true 20 [Zhj]]) (vb b3) [])) (cc (fun hc=>((@ev47 1 1 2 k7):Ev M1 (Conf.pure 47 [vi 1,vi 1,vi 2]) (ZaH (J.qi 1) (J.qi 1) (J.qi 2)) [])) (cc (fun hc=>((@ev48 0 0 2 k5):Ev M1 (Conf.pure 48 [vi 0,vi 0,vi 2]) (ZaH (J.qi 0) (J.qi 0) (J.qi 2)) [])) (cc (fun hc=>((@ev19 false false false false false false false false false false false false (J.qi 1) (J.qi 1) (J.qi 2) (J.qi 0) (J.qi 0) (J.qi 2) k8):Ev M1 (Conf.pure 19 [ZaH (J.qi 1) (J.qi 1) (J.qi 2),ZaH (J.qi 0) (J.qi 0) (J.qi 2)]) (vb (decide zNmI5)) [])) c0))))))))))))))))))))))))) (by (try rw [w27]);all_goals exact H)
theorem mSup (p1 q1 p2 q2:Bool) (w1 w2:Nat->Bool) (l1 l2:Nat->List Int) (a b c x y z d e f u v r:Rat)  (dq:AV) (H :
  (((p1=true)/\(p2=true))->(J.ZeF x y z/\J.ZeF u v r) /\
   Weak (tu [AV.vec false 20 (List.map Pnt.a (J.ZeG x y z u v r)),vi (J.ZcY x y z u v r)]) dq) /\
  (¬((p1=true)/\(p2=true))->((p1=true)->(J.Zfc d e f/\J.ZdT x y/\J.okT 30 z) /\
    Weak (tu [AV.vec false 20 (List.map Pnt.a (J.ZbN d e f x y z)),vi 0]) dq) /\
   (¬(p1=true)->((p2=true)->(J.Zfc a b c/\J.ZdT u v/\J.okT 30 r) /\
     Weak (tu [AV.vec false 20 (List.map Pnt.a (J.ZbN a b c u v r)),vi 0]) dq) /\
    (¬(p2=true)->(J.ZcW a b c/\J.ZcW d e f) /\
     Weak (tu [AV.vec false 20 (List.map Pnt.a (J.Zfr a b c d e f)),vi (J.Zdx a b c d e f)]) dq)))) :
 mSup_at p1 q1 p2 q2 w1 w2 l1 l2 a b c x y z d e f u v r (Zag dq):=by
 unfold mSup_at
 rcases xq H with ⟨d2,H⟩|⟨d2,H⟩
 ·obtain ⟨k3,H⟩:=H
  exact Zah (G:=Zac kp43 [(2,4,.call (tu [AV.vec false 20 (List.map Pnt.a (J.ZeG x y z u v r)),vi (J.ZcY x y z u v r)]) none)] []) 1000 [true] (asm:=[true,!(p1==true&&true)||true,(bif p1 then p2 else false)==true,true,true]) (tu [AV.vec false 20 (List.map Pnt.a (J.ZeG x y z u v r)),vi (J.ZcY x y z u v r)]) (by kernel_rfl) (bc rfl (bc (Bool.or_true _) (bc (Zap ((ZaI (Zau _) (Zau _)).2 d2)) (bc rfl (bc rfl b0))))) q0 (ce (@ev22 false false false false false false false false false false false false x y z u v r k3) c0) H
 ·rcases xq H with ⟨d5,H⟩|⟨d5,H⟩
  ·obtain ⟨k6,H⟩:=H
   exact Zah (G:=Zac kp43 [(4,4,.call (AV.vec false 20 (List.map Pnt.a (J.ZbN d e f x y z))) none)] []) 1000 [false,true] (asm:=[true,!(p1==true&&true)||true,(bif p1 then p2 else false)==false,true,(p1)==true,true,true]) (tu [AV.vec false 20 (List.map Pnt.a (J.ZbN d e f x y z)),vi 0]) (by kernel_rfl) (bc rfl (bc (Bool.or_true _) (bc (Zam (fun h=>d2 ((ZaI (Zau _) (Zau _)).1 h))) (bc rfl (bc (Zap ((Zau _).2 d5)) (bc rfl (bc rfl b0))))))) q0 (ce (@ev17 false false false false false false false false false false false false d e f x y z k6) c0) H
  ·rcases xq H with ⟨d8,H⟩|⟨d8,H⟩
   ·obtain ⟨k9,H⟩:=H
    exact Zah (G:=Zac kp43 [(6,4,.call (AV.vec false 20 (List.map Pnt.a (J.ZbN a b c u v r))) none)] []) 1000 [false,false,true] (asm:=[true,!(p1==true&&true)||true,(bif p1 then p2 else false)==false,true,(p1)==false,true,(p2)==true,true,true]) (tu [AV.vec false 20 (List.map Pnt.a (J.ZbN a b c u v r)),vi 0]) (by kernel_rfl) (bc rfl (bc (Bool.or_true _) (bc (Zam (fun h=>d2 ((ZaI (Zau _) (Zau _)).1 h))) (bc rfl (bc (Zam (fun h=>d5 ((Zau _).1 h))) (bc rfl (bc (Zap ((Zau _).2 d8)) (bc rfl (bc rfl b0))))))))) q0 (ce (@ev17 false false false false false false false false false false false false a b c u v r k9) c0) H
   ·obtain ⟨k10,H⟩:=H
    exact Zah (G:=Zac kp43 [(7,4,.call (tu [AV.vec false 20 (List.map Pnt.a (J.Zfr a b c d e f)),vi (J.Zdx a b c d e f)]) none)] []) 1000 [false,false,false] (asm:=[true,!(p1==true&&true)||true,(bif p1 then p2 else false)==false,true,(p1)==false,true,(p2)==false,true,true]) (tu [AV.vec false 20 (List.map Pnt.a (J.Zfr a b c d e f)),vi (J.Zdx a b c d e f)]) (by kernel_rfl) (bc rfl (bc (Bool.or_true _) (bc (Zam (fun h=>d2 ((ZaI (Zau _) (Zau _)).1 h))) (bc rfl (bc (Zam (fun h=>d5 ((Zau _).1 h))) (bc rfl (bc (Zam (fun h=>d8 ((Zau _).1 h))) (bc rfl (bc rfl b0))))))))) q0 (ce (@ev13 false false false false false false false false false false false false a b c d e f k10) c0) H
theorem rSup9 (p1 q1 p2 q2:Bool) (w1 w2:Nat->Bool) (l1 l2:Nat->List Int) (a b c x y z d e f u v r:Rat)  (dq:AV) (H :
  (((p1=true)/\(p2=true))->(J.ZeF x y z/\J.ZeF u v r) /\
   Weak (tu [AV.vec false 20 (List.map Pnt.a (J.cirR x y z u v r)),vi (J.ZcY x y z u v r)]) dq) /\
  (¬((p1=true)/\(p2=true))->((p1=true)->(J.Zfc d e f/\J.ZdT x y/\J.okT 30 z) /\
    Weak (tu [AV.vec false 20 (List.map Pnt.a (J.Zcz d e f x y z)),vi 0]) dq) /\
   (¬(p1=true)->((p2=true)->(J.Zfc a b c/\J.ZdT u v/\J.okT 30 r) /\
     Weak (tu [AV.vec false 20 (List.map Pnt.a (J.Zcz a b c u v r)),vi 0]) dq) /\
    (¬(p2=true)->(J.ZcW a b c/\J.ZcW d e f) /\
     Weak (tu [AV.vec false 20 (List.map Pnt.a (J.Zfr a b c d e f)),vi (J.Zdx a b c d e f)]) dq)))) :
 rSup9_at p1 q1 p2 q2 w1 w2 l1 l2 a b c x y z d e f u v r (Zag dq):=by
 unfold rSup9_at
 rcases xq H with ⟨d2,H⟩|⟨d2,H⟩
 ·obtain ⟨k3,H⟩:=H
  exact Zah (G:=Zac kp44 [(2,4,.call (tu [AV.vec false 20 (List.map Pnt.a (J.cirR x y z u v r)),vi (J.ZcY x y z u v r)]) none)] []) 1000 [true] (asm:=[true,!(p1==true&&true)||true,(bif p1 then p2 else false)==true,true,true]) (tu [AV.vec false 20 (List.map Pnt.a (J.cirR x y z u v r)),vi (J.ZcY x y z u v r)]) (by kernel_rfl) (bc rfl (bc (Bool.or_true _) (bc (Zap ((ZaI (Zau _) (Zau _)).2 d2)) (bc rfl (bc rfl b0))))) q0 (ce (@ev23 false false false false false false false false false false false false x y z u v r k3) c0) H
 ·rcases xq H with ⟨d5,H⟩|⟨d5,H⟩
  ·obtain ⟨k6,H⟩:=H
   exact Zah (G:=Zac kp44 [(4,4,.call (AV.vec false 20 (List.map Pnt.a (J.Zcz d e f x y z))) none)] []) 1000 [false,true] (asm:=[true,!(p1==true&&true)||true,(bif p1 then p2 else false)==false,0==0,(p1)==true,true,true]) (tu [AV.vec false 20 (List.map Pnt.a (J.Zcz d e f x y z)),vi 0]) (by kernel_rfl) (bc rfl (bc (Bool.or_true _) (bc (Zam (fun h=>d2 ((ZaI (Zau _) (Zau _)).1 h))) (bc (beq_self_eq_true _) (bc (Zap ((Zau _).2 d5)) (bc rfl (bc rfl b0))))))) q0 (ce (@ev18 false false false false false false false false false false false false d e f x y z k6) c0) H
  ·rcases xq H with ⟨d8,H⟩|⟨d8,H⟩
   ·obtain ⟨k9,H⟩:=H
    exact Zah (G:=Zac kp44 [(6,4,.call (AV.vec false 20 (List.map Pnt.a (J.Zcz a b c u v r))) none)] []) 1000 [false,false,true] (asm:=[true,!(p1==true&&true)||true,(bif p1 then p2 else false)==false,0==0,(p1)==false,0==0,(p2)==true,true,true]) (tu [AV.vec false 20 (List.map Pnt.a (J.Zcz a b c u v r)),vi 0]) (by kernel_rfl) (bc rfl (bc (Bool.or_true _) (bc (Zam (fun h=>d2 ((ZaI (Zau _) (Zau _)).1 h))) (bc (beq_self_eq_true _) (bc (Zam (fun h=>d5 ((Zau _).1 h))) (bc (beq_self_eq_true _) (bc (Zap ((Zau _).2 d8)) (bc rfl (bc rfl b0))))))))) q0 (ce (@ev18 false false false false false false false false false false false false a b c u v r k9) c0) H
   ·obtain ⟨k10,H⟩:=H
    exact Zah (G:=Zac kp44 [(7,4,.call (tu [AV.vec false 20 (List.map Pnt.a (J.Zfr a b c d e f)),vi (J.Zdx a b c d e f)]) none)] []) 1000 [false,false,false] (asm:=[true,!(p1==true&&true)||true,(bif p1 then p2 else false)==false,0==0,(p1)==false,0==0,(p2)==false,true,true]) (tu [AV.vec false 20 (List.map Pnt.a (J.Zfr a b c d e f)),vi (J.Zdx a b c d e f)]) (by kernel_rfl) (bc rfl (bc (Bool.or_true _) (bc (Zam (fun h=>d2 ((ZaI (Zau _) (Zau _)).1 h))) (bc (beq_self_eq_true _) (bc (Zam (fun h=>d5 ((Zau _).1 h))) (bc (beq_self_eq_true _) (bc (Zam (fun h=>d8 ((Zau _).1 h))) (bc rfl (bc rfl b0))))))))) q0 (ce (@ev14 false false false false false false false false false false false false a b c d e f k10) c0) H
end Go.Av

namespace Go.Av
open Go.Proofs
theorem okT_sm {n:Int} (h:n.natAbs<1000000000):J.okT 1 (J.qi n):=by
 rw [ZfP]
 have e:(1000000000:Nat) ^ 1=1000000000:=rfl
 refine ⟨?_,?_⟩
 ·rw [Rat.num_intCast]
  refine Zay.1 ?_
  unfold J.fits;omega
 ·rw [Rat.den_intCast]
  refine Zay.1 ?_
  unfold J.fits;omega
theorem sm_30 {n:Int} (h:n.natAbs<1000000000):J.okT 30 (J.qi n):=Zas (okT_sm h) (by omega)
theorem sm_2 {n:Int} (h:n.natAbs<1000000000):J.okT 2 (J.qi n):=Zas (okT_sm h) (by omega)
theorem okP5_at {x y:Rat} {k:Nat} (hx:J.okT k x) (hy:J.okT k y) (hk:k<=2200):J.ZfQ (J.atP x y):=⟨⟨Zas hx hk,Zas Zcr (by omega)⟩,⟨Zas hy hk,Zas Zcr (by omega)⟩,Zas Zcr (by omega)⟩
def J.okP4 (p:Pnt):Prop:=(J.okT 2100 p.ax/\J.okT 200 p.bx)/\(J.okT 2100 p.ay/\J.okT 200 p.by_)/\J.okT 1700 p.c
theorem okP5_4 {p:Pnt} (h:J.okP4 p):J.ZfQ p:=⟨⟨Zas h.1.1 (by omega),h.1.2⟩,⟨Zas h.2.1.1 (by omega),h.2.1.2⟩,h.2.2⟩
theorem okP4_at {x y:Rat} (hx:J.okT 350 x) (hy:J.okT 350 y):J.okP4 (J.atP x y):=⟨⟨Zas hx (by omega),Zas Zcr (by omega)⟩,⟨Zas hy (by omega),Zas Zcr (by omega)⟩,Zas Zcr (by omega)⟩
theorem okP4_surd {x u y v k:Rat} (h:J.okSr x u y v k):J.okP4 (J.Zd7 x u y v k):=by
 obtain ⟨⟨h1,h2⟩,⟨h3,h4⟩,h5,h6⟩:=h
 by_cases s:J.rsq k
 ·rw [show J.Zd7 x u y v k=J.atP (x+u*J.rt k) (y+v*J.rt k) from if_pos s]
  have a1:=ZaG h1 (Zaf h2 (ZeW s h5))
  have a2:=ZaG h3 (Zaf h4 (ZeW s h5))
  exact ⟨⟨Zas a1 (by omega),Zas Zcr (by omega)⟩,⟨Zas a2 (by omega),Zas Zcr (by omega)⟩,Zas Zcr (by omega)⟩
 ·rw [show J.Zd7 x u y v k=⟨x,u,y,v,if u=0/\v=0 then J.qi 0 else k⟩ from if_neg s]
  refine ⟨⟨Zas h1 (by omega),Zas h2 (by omega)⟩,⟨Zas h3 (by omega),Zas h4 (by omega)⟩,?_⟩
  show J.okT 1700 (if u=0/\v=0 then J.qi 0 else k)
  split
  ·exact Zas Zcr (by omega)
  ·exact h5
theorem okT_d {a b c:Rat} (h:J.Zfc a b c):J.okT 30 (J.dU a b)/\J.okT 30 (J.dV a b):=by
 obtain ⟨⟨ha,hb,hc⟩,_⟩:=h
 unfold J.dU J.dV
 cases J.dn a b with
 | true=>exact ⟨Zbs hb,Zbs (Zbs ha)⟩
 | false=>exact ⟨hb,Zbs ha⟩
theorem lineC_ok {a b c x y q:Rat} (h:J.Zfc a b c) (hv:J.ZdT x y) (hq:J.okT 30 q):(∀ p ∈ J.ZbN a b c x y q,J.okP4 p)/\(J.ZbN a b c x y q).length<=2:=by
 have hf:=okT_f h hv
 have hd:=okT_dep h hv hq
 have du:=okT_d h
 rcases tri (J.dep a b c x y q) with k | k | k
 ·rw [lineC_0 k];exact ⟨fun p hp=>(nomatch hp),by simp⟩
 ·rw [lineC_1 k]
  exact ⟨fun p hp=>by rw [List.mem_singleton.1 hp];exact okP4_at hf.1 hf.2,by simp⟩
 ·rw [ZgO k]
  refine ⟨fun p hp => ?_,by simp⟩
  simp only [List.mem_cons,List.not_mem_nil,or_false] at hp
  rcases hp with rfl | rfl
  ·exact okP4_surd ⟨⟨hf.1,Zbs du.1⟩,⟨hf.2,Zbs du.2⟩,hd,k⟩
  ·exact okP4_surd ⟨⟨hf.1,du.1⟩,⟨hf.2,du.2⟩,hd,k⟩
theorem lineR_ok {a b c x y q:Rat} (h:J.Zfc a b c) (hv:J.ZdT x y) (hq:J.okT 30 q):(∀ p ∈ J.Zcz a b c x y q,J.ZfQ p)/\(J.Zcz a b c x y q).length<=2:=by
 have hf:=okT_f h hv
 have r1:=okP5_rP h hv hq true
 have r2:=okP5_rP h hv hq false
 rcases tri (J.Zb6 a b c x y q) with k | k | k
 ·rw [lineR_0 k];exact ⟨fun p hp=>(nomatch hp),by simp⟩
 ·rw [lineR_1 k]
  exact ⟨fun p hp=>by rw [List.mem_singleton.1 hp];exact okP5_at hf.1 hf.2 (by omega),by simp⟩
 ·rw [lineR_2 k]
  split
  ·refine ⟨fun p hp => ?_,by simp⟩
   simp only [List.mem_cons,List.not_mem_nil,or_false] at hp
   rcases hp with rfl | rfl
   ·exact r2
   ·exact r1
  ·refine ⟨fun p hp => ?_,by simp⟩
   simp only [List.mem_cons,List.not_mem_nil,or_false] at hp
   rcases hp with rfl | rfl
   ·exact r1
   ·exact r2
theorem pl_C {a b c x y q:Rat} (h:J.Zfc a b c) (hv:J.ZdT x y) (hq:J.okT 30 q):J.Zhh (J.ZbN a b c x y q):=⟨fun p hp=>okP5_4 ((lineC_ok h hv hq).1 p hp),by have:=(lineC_ok h hv hq).2;omega⟩
theorem pl_R {a b c x y q:Rat} (h:J.Zfc a b c) (hv:J.ZdT x y) (hq:J.okT 30 q):J.Zhh (J.Zcz a b c x y q):=⟨(lineR_ok h hv hq).1,by have:=(lineR_ok h hv hq).2;omega⟩
theorem pl_nil:J.Zhh []:=⟨fun p hp=>(nomatch hp),by simp⟩
theorem pl_cir {a b c x y z:Rat} (h:J.ZeF a b c) (k:J.ZeF x y z):J.Zhh (J.ZeG a b c x y z)/\J.Zhh (J.cirR a b c x y z):=by
 unfold J.ZeG J.cirR
 have t:=ZbY h
 by_cases n:a=x/\b=y
 ·rw [if_pos n,if_pos n];exact ⟨pl_nil,pl_nil⟩
 ·rw [if_neg n,if_neg n]
  exact ⟨pl_C (rd_ln h k n) ⟨t.1,t.2.1⟩ t.2.2,pl_R (rd_ln h k n) ⟨t.1,t.2.1⟩ t.2.2⟩
theorem pl_lin {a b c x y z:Rat} (h:J.ZeF a b c) (k:J.ZeF x y z):J.Zhh (J.Zfr a b c x y z):=by
 obtain ⟨ha,hb,hc⟩:=h
 obtain ⟨hx,hy,hz⟩:=k
 unfold J.Zfr
 by_cases n:a*y-x*b=0
 ·rw [if_pos n];exact pl_nil
 ·rw [if_neg n]
  have ne:(a*y-x*b).num ≠ 0:=fun e=>n (Rat.num_eq_zero.1 e)
  refine ⟨fun p hp => ?_,by simp⟩
  rw [List.mem_singleton.1 hp]
  exact okP5_at (k:=100) (Zas (k:=18) (ZbK (Zat (Zaf hc hy) (Zaf hz hb)) (Zat (Zaf ha hy) (Zaf hx hb)) ne) (by omega)) (Zas (k:=18) (ZbK (Zat (Zaf ha hz) (Zaf hx hc)) (Zat (Zaf ha hy) (Zaf hx hb)) ne) (by omega)) (by omega)
theorem Ze8:∀ {l m:List Pnt},J.sameL l m->J.eqL l m=true
 | [],[],_=>rfl
 | p::l,q::m,h=>by rw [eqL_cons,decide_eq_true (cmpP_same h.1)];exact Ze8 h.2
theorem goodL_of {l:List Pnt} (h:∀ p ∈ l,J.ZbA p):J.Zfu l=true:=List.all_eq_true.2 fun p hp=>vP_true.2 (h p hp)
theorem qz:J.qi 0=0:=qi_z
theorem q_1:J.qi 1=1:=by rw [ZfP];rfl
theorem q_2:J.qi 2=2:=by rw [ZfP];rfl
theorem q_3:J.qi 3=3:=by rw [ZfP];rfl
theorem q_m:J.qi (-1) = -1:=by rw [ZfP];rfl
theorem ex_lin:J.Zdx 1 1 3 1 (-1) 1=0/\J.Zfr 1 1 3 1 (-1) 1=[J.atP 2 1]:=by
 have n:¬(1:Rat) * -1-1*1=0:=by decide +kernel
 rw [(lin_2 n).1,(lin_2 n).2]
 exact ⟨rfl,by rw [show ((3:Rat) * -1-1*1) / (1 * -1-1*1)=2 by decide +kernel,show ((1:Rat)*1-1*3) / (1 * -1-1*1)=1 by decide +kernel]⟩
theorem rsq1:J.rsq (1:Rat):=rsq_of (s:=1) (by decide +kernel)
theorem rt1:J.rt (1:Rat)=1:=Zgm (rt_nn rsq1) (by decide +kernel) (by rw [ZhF rsq1];decide +kernel)
theorem ex_lc:J.ZbN 0 1 1 0 0 2=[J.atP (-1) 1,J.atP 1 1]:=by
 have fx:J.fX 0 1 1 0 0=0:=by unfold J.fX J.ZaW J.ZaC;decide +kernel
 have fy:J.fY 0 1 1 0 0=1:=by unfold J.fY J.ZaW J.ZaC;decide +kernel
 have d:J.dep 0 1 1 0 0 2=1:=by unfold J.dep;rw [fx,fy];unfold J.ZaC;decide +kernel
 have e:J.dn 0 1=false:=decide_eq_false (by decide +kernel)
 rw [ZgO (by rw [d];decide +kernel),fx,fy,d]
 unfold J.dU J.dV J.Zd7
 rw [e,cond_false,cond_false,if_pos rsq1,if_pos rsq1,rt1,show (0:Rat) + -1*1 = -1 by decide +kernel,show (1:Rat) + - -0*1=1 by decide +kernel,show (0:Rat)+1*1=1 by decide +kernel,show (1:Rat) + -0*1=1 by decide +kernel]
theorem ex_dep:J.dep 1 1 2 0 0 2=0/\J.ZbN 1 1 2 0 0 2=[J.atP 1 1]:=by
 have fx:J.fX 1 1 2 0 0=1:=by unfold J.fX J.ZaW J.ZaC;decide +kernel
 have fy:J.fY 1 1 2 0 0=1:=by unfold J.fY J.ZaW J.ZaC;decide +kernel
 have d:J.dep 1 1 2 0 0 2=0:=by unfold J.dep;rw [fx,fy];unfold J.ZaC;decide +kernel
 exact ⟨d,by rw [lineC_1 d,fx,fy]⟩
theorem ex_cir:J.ZcY 0 0 1 1 0 1=0/\(J.ZeG 0 0 1 1 0 1).length=2/\J.ZcY 0 0 1 0 0 1=10:=by
 have n:¬((0:Rat)=1/\(0:Rat)=0):=by decide +kernel
 refine ⟨by unfold J.ZcY;rw [if_neg n],?_,by unfold J.ZcY;rw [if_pos ⟨rfl,rfl⟩,if_pos rfl]⟩
 unfold J.ZeG
 rw [if_neg n,ZgO ?_]
 ·rfl
 ·unfold J.rdA J.rdC J.dep J.fX J.fY J.ZaW J.ZaC
  rw [q_2]
  decide +kernel
theorem ev11:Ev M1 (.pure 11 []) (.bool true) []:=by
 have I:∀ n:Int,n.natAbs<1000000000->J.inI n:=fun n h=>by unfold J.inI;omega
 have l1:J.Zfc (J.qi 0) (J.qi 1) (J.qi 1):=⟨⟨sm_30 (by decide),sm_30 (by decide),sm_30 (by decide)⟩,.inr qi1_ne⟩
 have l2:J.Zfc (J.qi 1) (J.qi 1) (J.qi 2):=⟨⟨sm_30 (by decide),sm_30 (by decide),sm_30 (by decide)⟩,.inl qi1_ne⟩
 have v0:J.ZdT (J.qi 0) (J.qi 0):=⟨sm_30 (by decide),sm_30 (by decide)⟩
 have t2:J.okT 30 (J.qi 2):=sm_30 (by decide)
 have i1:J.ZeF (J.qi 0) (J.qi 0) (J.qi 1):=⟨sm_2 (by decide),sm_2 (by decide),sm_2 (by decide)⟩
 have i2:J.ZeF (J.qi 1) (J.qi 0) (J.qi 1):=⟨sm_2 (by decide),sm_2 (by decide),sm_2 (by decide)⟩
 have a1:J.ZeF (J.qi 1) (J.qi 1) (J.qi 3):=⟨sm_2 (by decide),sm_2 (by decide),sm_2 (by decide)⟩
 have a2:J.ZeF (J.qi 1) (J.qi (-1)) (J.qi 1):=⟨sm_2 (by decide),sm_2 (by decide),sm_2 (by decide)⟩
 have P:∀ m n:Int,m.natAbs<1000000000->n.natAbs<1000000000->J.ZfQ (J.atP (J.qi m) (J.qi n)):=fun m n h k=>okP5_at (okT_sm h) (okT_sm k) (by omega)
 have E:∀ {l m:List Pnt} (v:Bool),l=m->J.Zhh m->Ev M1 (.pure 49 [.vec false 20 (l.map Pnt.a),.vec v 20 (m.map Pnt.a)]) (.bool (J.eqL l m)) []:=fun v e h=>ev49 false v _ _ ⟨by rw [e];exact h,h⟩
 have V:∀ x y:Rat,J.ZbA (J.atP x y):=Zgc
 have e1:J.Zfr (J.qi 1) (J.qi 1) (J.qi 3) (J.qi 1) (J.qi (-1)) (J.qi 1)=[J.atP (J.qi 2) (J.qi 1)]:=by rw [q_1,q_2,q_3,q_m];exact ex_lin.2
 have e2:J.ZbN (J.qi 0) (J.qi 1) (J.qi 1) (J.qi 0) (J.qi 0) (J.qi 2)=[J.atP (J.qi (-1)) (J.qi 1),J.atP (J.qi 1) (J.qi 1)]:=by rw [q_1,q_2,q_m,qz];exact ex_lc
 have e3:J.ZbN (J.qi 1) (J.qi 1) (J.qi 2) (J.qi 0) (J.qi 0) (J.qi 2)=[J.atP (J.qi 1) (J.qi 1)]:=by rw [q_1,q_2,qz];exact ex_dep.2
 have k1:=E true e1 ⟨fun p hp=>by rw [List.mem_singleton.1 hp];exact P _ _ (by decide) (by decide),by decide⟩
 have k2:=E true e2 ⟨fun p hp=>by simp only [List.mem_cons,List.not_mem_nil,or_false] at hp;rcases hp with rfl | rfl <;> exact P _ _ (by decide) (by decide),by decide⟩
 have k3:=E true e3 ⟨fun p hp=>by rw [List.mem_singleton.1 hp];exact P _ _ (by decide) (by decide),by decide⟩
 rw [e1,show J.eqL [J.atP (J.qi 2) (J.qi 1)] [J.atP (J.qi 2) (J.qi 1)]=true from Ze8 ⟨Zfz _ _,trivial⟩] at k1
 rw [e2,show J.eqL [J.atP (J.qi (-1)) (J.qi 1),J.atP (J.qi 1) (J.qi 1)] [J.atP (J.qi (-1)) (J.qi 1),J.atP (J.qi 1) (J.qi 1)]=true from Ze8 ⟨Zfz _ _,Zfz _ _,trivial⟩] at k2
 rw [e3,show J.eqL [J.atP (J.qi 1) (J.qi 1)] [J.atP (J.qi 1) (J.qi 1)]=true from Ze8 ⟨Zfz _ _,trivial⟩] at k3
 rw [<- e1] at k1
 rw [<- e2] at k2
 rw [<- e3] at k3
 have m (n:Int) (h:n.natAbs<1000000000:=by decide):J.inI n:=I n h
 refine call11 (wAwake _ ⟨⟨m 1,m 1,m 3⟩,⟨m 1,m (-1),m 1⟩,⟨ZbY a1,ZbY a2⟩,⟨m 0,m 1,m 1⟩,⟨m 0,m 0,m 2⟩,⟨l1,v0,t2⟩,⟨m 1,m 1,m 2⟩,⟨l2,v0,t2⟩,⟨m 0,m 0,m 1⟩,⟨m 1,m 0,m 1⟩,⟨i1,i2⟩,⟨i1,i1⟩,fun _=>⟨m 2,m 1⟩,true,fun _ => ?_,fun _=>⟨m (-1),m 1⟩,fun _=>⟨m 1,m 1⟩,true,fun _ => ?_,fun _=>⟨m 1,m 1⟩,true,fun _ => ?_,?_⟩)
 ·rw [e1] at k1 ⊢;exact k1
 ·rw [e2] at k2 ⊢;exact k2
 ·rw [e3] at k3 ⊢;exact k3
 ·rw [q_1,q_2,q_3,q_m,qz,ex_lin.1,ex_cir.1,ex_cir.2.1,ex_cir.2.2,decide_eq_true ex_dep.1]
  rfl
namespace J
noncomputable def supL (p1 p2:Bool) (a b c x y z d e f u v r:Rat):List Pnt:=bif p1 then (bif p2 then ZeG x y z u v r else ZbN d e f x y z) else bif p2 then ZbN a b c u v r else Zfr a b c d e f
noncomputable def supR (p1 p2:Bool) (a b c x y z d e f u v r:Rat):List Pnt:=bif p1 then (bif p2 then cirR x y z u v r else Zcz d e f x y z) else bif p2 then Zcz a b c u v r else Zfr a b c d e f
noncomputable def supE (p1 p2:Bool) (a b c x y z d e f u v r:Rat):Int:=bif p1 then (bif p2 then ZcY x y z u v r else 0) else bif p2 then 0 else Zdx a b c d e f
def okSu (a b c x y z d e f u v r:Rat):Prop:=((ZeF a b c/\(a ≠ 0\/b ≠ 0))/\ZeF x y z)/\(ZeF d e f/\(d ≠ 0\/e ≠ 0))/\ZeF u v r
end J
theorem ln_I2 {a b c:Rat} (h:J.ZeF a b c) (k:a ≠ 0\/b ≠ 0):J.Zfc a b c:=⟨ZbY h,k⟩
theorem vn_I2 {a b c:Rat} (h:J.ZeF a b c):J.ZdT a b:=⟨(ZbY h).1,(ZbY h).2.1⟩
abbrev crvF (p q:Bool) (w1:Nat->Bool) (l1:Nat->List Int) (a b c x y z:Rat):AV:=.agg (.bool p::.bool (J.Zaa a.num)::.vec false 1 ((J.Zab a.num).map (.int .u32))::.bool (J.Zaa (a.den:Int))::.vec false 1 ((J.Zab (a.den:Int)).map (.int .u32))::.bool (J.Zaa b.num)::.vec false 1 ((J.Zab b.num).map (.int .u32))::.bool (J.Zaa (b.den:Int))::.vec false 1 ((J.Zab (b.den:Int)).map (.int .u32))::.bool (J.Zaa c.num)::.vec false 1 ((J.Zab c.num).map (.int .u32))::.bool (J.Zaa (c.den:Int))::.vec false 1 ((J.Zab (c.den:Int)).map (.int .u32))::.bool (J.Zaa x.num)::.vec false 1 ((J.Zab x.num).map (.int .u32))::.bool (J.Zaa (x.den:Int))::.vec false 1 ((J.Zab (x.den:Int)).map (.int .u32))::.bool (J.Zaa y.num)::.vec false 1 ((J.Zab y.num).map (.int .u32))::.bool (J.Zaa (y.den:Int))::.vec false 1 ((J.Zab (y.den:Int)).map (.int .u32))::.bool (J.Zaa z.num)::.vec false 1 ((J.Zab z.num).map (.int .u32))::.bool (J.Zaa (z.den:Int))::.vec false 1 ((J.Zab (z.den:Int)).map (.int .u32))::.bool q::w20 w1 l1)
theorem ev43 (p1 q1 p2 q2:Bool) (w1 w2:Nat->Bool) (l1 l2:Nat->List Int) (a b c x y z d e f u v r:Rat) (h:J.okSu a b c x y z d e f u v r):Ev M1 (.pure 43 [crvF p1 q1 w1 l1 a b c x y z,crvF p2 q2 w2 l2 d e f u v r]) (.tup [.vec false 20 ((J.supL p1 p2 a b c x y z d e f u v r).map Pnt.a),.int .i64 (J.supE p1 p2 a b c x y z d e f u v r)]) []:=by
 obtain ⟨⟨⟨h1,n1⟩,h2⟩,⟨h3,n3⟩,h4⟩:=h
 refine call43 (mSup _ _ _ _ _ _ _ _ _ _ _ _ _ _ _ _ _ _ _ _ _ ⟨fun k=>⟨⟨h2,h4⟩,?_⟩,fun k=>⟨fun j=>⟨⟨ln_I2 h3 n3,vn_I2 h2,(ZbY h2).2.2⟩,?_⟩,fun j=>⟨fun i=>⟨⟨ln_I2 h1 n1,vn_I2 h4,(ZbY h4).2.2⟩,?_⟩,fun i=>⟨⟨ZbY h1,ZbY h3⟩,?_⟩⟩⟩⟩)
 ·rw [k.1,k.2];exact .refl _
 ·rw [j,show p2=false by cases p2 with | false=>rfl | true=>exact absurd ⟨j,rfl⟩ k];exact .refl _
 ·rw [i,show p1=false by simpa using j];exact .refl _
 ·rw [show p2=false by simpa using i,show p1=false by simpa using j];exact .refl _
theorem ev44 (p1 q1 p2 q2:Bool) (w1 w2:Nat->Bool) (l1 l2:Nat->List Int) (a b c x y z d e f u v r:Rat) (h:J.okSu a b c x y z d e f u v r):Ev M1 (.pure 44 [crvF p1 q1 w1 l1 a b c x y z,crvF p2 q2 w2 l2 d e f u v r]) (.tup [.vec false 20 ((J.supR p1 p2 a b c x y z d e f u v r).map Pnt.a),.int .i64 (J.supE p1 p2 a b c x y z d e f u v r)]) []:=by
 obtain ⟨⟨⟨h1,n1⟩,h2⟩,⟨h3,n3⟩,h4⟩:=h
 refine call44 (rSup9 _ _ _ _ _ _ _ _ _ _ _ _ _ _ _ _ _ _ _ _ _ ⟨fun k=>⟨⟨h2,h4⟩,?_⟩,fun k=>⟨fun j=>⟨⟨ln_I2 h3 n3,vn_I2 h2,(ZbY h2).2.2⟩,?_⟩,fun j=>⟨fun i=>⟨⟨ln_I2 h1 n1,vn_I2 h4,(ZbY h4).2.2⟩,?_⟩,fun i=>⟨⟨ZbY h1,ZbY h3⟩,?_⟩⟩⟩⟩)
 ·rw [k.1,k.2];exact .refl _
 ·rw [j,show p2=false by cases p2 with | false=>rfl | true=>exact absurd ⟨j,rfl⟩ k];exact .refl _
 ·rw [i,show p1=false by simpa using j];exact .refl _
 ·rw [show p2=false by simpa using i,show p1=false by simpa using j];exact .refl _
end Go.Av

namespace Go.Av
open Go.Proofs
set_option maxRecDepth 100000
def fi9:Fi:=⟨53,[.tmp 4]⟩
def kp9:List (Nat × List Nat):=[(0,[2,3]),(1,[2,3,34]),(2,[4]),(3,[2,3,5,6]),(4,[5,6,7,8]),(5,[4])]
def lwSup_at (p1 q1 p2 q2:Bool) (w1 w2:Nat->Bool) (l1 l2:Nat->List Int) (a b c x y z d e f u v r:Rat) (Q:AV->Heap->Prop):Prop:=Wp M1 (.run fi9 (atC (cd Tryz.f9) []) [(0,.agg (.bool p1::.bool (J.Zaa a.num)::.vec false 1 ((J.Zab a.num).map (.int .u32))::.bool (J.Zaa (a.den:Int))::.vec false 1 ((J.Zab (a.den:Int)).map (.int .u32))::.bool (J.Zaa b.num)::.vec false 1 ((J.Zab b.num).map (.int .u32))::.bool (J.Zaa (b.den:Int))::.vec false 1 ((J.Zab (b.den:Int)).map (.int .u32))::.bool (J.Zaa c.num)::.vec false 1 ((J.Zab c.num).map (.int .u32))::.bool (J.Zaa (c.den:Int))::.vec false 1 ((J.Zab (c.den:Int)).map (.int .u32))::.bool (J.Zaa x.num)::.vec false 1 ((J.Zab x.num).map (.int .u32))::.bool (J.Zaa (x.den:Int))::.vec false 1 ((J.Zab (x.den:Int)).map (.int .u32))::.bool (J.Zaa y.num)::.vec false 1 ((J.Zab y.num).map (.int .u32))::.bool (J.Zaa (y.den:Int))::.vec false 1 ((J.Zab (y.den:Int)).map (.int .u32))::.bool (J.Zaa z.num)::.vec false 1 ((J.Zab z.num).map (.int .u32))::.bool (J.Zaa (z.den:Int))::.vec false 1 ((J.Zab (z.den:Int)).map (.int .u32))::.bool q1::w20 w1 l1)),(1,.agg (.bool p2::.bool (J.Zaa d.num)::.vec false 1 ((J.Zab d.num).map (.int .u32))::.bool (J.Zaa (d.den:Int))::.vec false 1 ((J.Zab (d.den:Int)).map (.int .u32))::.bool (J.Zaa e.num)::.vec false 1 ((J.Zab e.num).map (.int .u32))::.bool (J.Zaa (e.den:Int))::.vec false 1 ((J.Zab (e.den:Int)).map (.int .u32))::.bool (J.Zaa f.num)::.vec false 1 ((J.Zab f.num).map (.int .u32))::.bool (J.Zaa (f.den:Int))::.vec false 1 ((J.Zab (f.den:Int)).map (.int .u32))::.bool (J.Zaa u.num)::.vec false 1 ((J.Zab u.num).map (.int .u32))::.bool (J.Zaa (u.den:Int))::.vec false 1 ((J.Zab (u.den:Int)).map (.int .u32))::.bool (J.Zaa v.num)::.vec false 1 ((J.Zab v.num).map (.int .u32))::.bool (J.Zaa (v.den:Int))::.vec false 1 ((J.Zab (v.den:Int)).map (.int .u32))::.bool (J.Zaa r.num)::.vec false 1 ((J.Zab r.num).map (.int .u32))::.bool (J.Zaa (r.den:Int))::.vec false 1 ((J.Zab (r.den:Int)).map (.int .u32))::.bool q2::w20 w2 l2))] []) Q
def lwSupR_at (p1 q1 p2 q2:Bool) (w1 w2:Nat->Bool) (l1 l2:Nat->List Int) (s1 t1 f1 g1 s2 t2 f2 g2 s3 t3 f3 g3 s4 t4 f4 g4 s5 t5 f5 g5 s6 t6 f6 g6 s7 t7 f7 g7 s8 t8 f8 g8 s9 t9 f9 g9 s10 t10 f10 g10 s11 t11 f11 g11 s12 t12 f12 g12:Bool) (x1 y1 x2 y2 x3 y3 x4 y4 x5 y5 x6 y6 x7 y7 x8 y8 x9 y9 x10 y10 x11 y11 x12 y12:List Int) (Q:AV->Heap->Prop):Prop:=Wp M1 (.run fi9 (atC (cd Tryz.f9) []) [(0,.agg (.bool p1::.bool s1::.vec f1 1 (x1.map (.int .u32))::.bool t1::.vec g1 1 (y1.map (.int .u32))::.bool s2::.vec f2 1 (x2.map (.int .u32))::.bool t2::.vec g2 1 (y2.map (.int .u32))::.bool s3::.vec f3 1 (x3.map (.int .u32))::.bool t3::.vec g3 1 (y3.map (.int .u32))::.bool s4::.vec f4 1 (x4.map (.int .u32))::.bool t4::.vec g4 1 (y4.map (.int .u32))::.bool s5::.vec f5 1 (x5.map (.int .u32))::.bool t5::.vec g5 1 (y5.map (.int .u32))::.bool s6::.vec f6 1 (x6.map (.int .u32))::.bool t6::.vec g6 1 (y6.map (.int .u32))::.bool q1::w20 w1 l1)),(1,.agg (.bool p2::.bool s7::.vec f7 1 (x7.map (.int .u32))::.bool t7::.vec g7 1 (y7.map (.int .u32))::.bool s8::.vec f8 1 (x8.map (.int .u32))::.bool t8::.vec g8 1 (y8.map (.int .u32))::.bool s9::.vec f9 1 (x9.map (.int .u32))::.bool t9::.vec g9 1 (y9.map (.int .u32))::.bool s10::.vec f10 1 (x10.map (.int .u32))::.bool t10::.vec g10 1 (y10.map (.int .u32))::.bool s11::.vec f11 1 (x11.map (.int .u32))::.bool t11::.vec g11 1 (y11.map (.int .u32))::.bool s12::.vec f12 1 (x12.map (.int .u32))::.bool t12::.vec g12 1 (y12.map (.int .u32))::.bool q2::w20 w2 l2))] []) Q
theorem call9 {args:List AV} {d:AV} (h:wc M1 fi9 Tryz.f9 args d):Ev M1 (.pure 9 args) d []:=pcl _ _ (by kernel_rfl) h
noncomputable abbrev zNmJ14 (a:Rat) (b:Rat) (c:Rat) (x:Rat) (y:Rat) (z:Rat) (d:Rat) (e:Rat) (f:Rat) (u:Rat) (v:Rat) (r:Rat):=bif bif bif !J.Zet a b c then true else !J.ZfK x y z then true else !J.Zet d e f then true else !J.ZfK u v r
noncomputable abbrev zNmJ15 (a:Rat) (b:Rat) (c:Rat) (x:Rat) (y:Rat) (z:Rat) (d:Rat) (e:Rat) (f:Rat):=bif bif !J.Zet a b c then true else !J.ZfK x y z then true else !J.Zet d e f
noncomputable abbrev zNmJ16 (x:Rat) (y:Rat) (z:Rat):=J.ZfK x y z
noncomputable abbrev zNmJ17 (d:Rat) (e:Rat) (f:Rat):=J.Zet d e f
noncomputable abbrev zNmJ18 (u:Rat) (v:Rat) (r:Rat):=J.ZfK u v r
noncomputable abbrev zNmJ19 (a:Rat) (b:Rat) (c:Rat) (x:Rat) (y:Rat) (z:Rat):=bif !J.Zet a b c then true else !J.ZfK x y z
noncomputable abbrev zNmJ20 (a:Rat) (b:Rat) (c:Rat):=J.Zet a b c
theorem lwSup (p1 q1 p2 q2:Bool) (w1 w2:Nat->Bool) (l1 l2:Nat->List Int) (a b c x y z d e f u v r:Rat)  (dq:AV) (H :
  (J.ZhO (J.Zab a.num) (J.Zab (↑a.den:Int)) (J.Zab b.num) (J.Zab (↑b.den:Int)) (J.Zab c.num) (J.Zab (↑c.den:Int))) /\
  ((¬(¬(J.Zet a b c=true)))->(J.ZhO (J.Zab x.num) (J.Zab (↑x.den:Int)) (J.Zab y.num) (J.Zab (↑y.den:Int)) (J.Zab z.num) (J.Zab (↑z.den:Int)))) /\
  ((¬((¬(J.Zet a b c=true))\/(¬(J.ZfK x y z=true))))->(J.ZhO (J.Zab d.num) (J.Zab (↑d.den:Int)) (J.Zab e.num) (J.Zab (↑e.den:Int)) (J.Zab f.num) (J.Zab (↑f.den:Int)))) /\
  ((¬(((¬(J.Zet a b c=true))\/(¬(J.ZfK x y z=true)))\/(¬(J.Zet d e f=true))))->(J.ZhO (J.Zab u.num) (J.Zab (↑u.den:Int)) (J.Zab v.num) (J.Zab (↑v.den:Int)) (J.Zab r.num) (J.Zab (↑r.den:Int)))) /\
  (((((¬(J.Zet a b c=true))\/(¬(J.ZfK x y z=true)))\/(¬(J.Zet d e f=true)))\/(¬(J.ZfK u v r=true)))->vb true=dq) /\
  (¬((((¬(J.Zet a b c=true))\/(¬(J.ZfK x y z=true)))\/(¬(J.Zet d e f=true)))\/(¬(J.ZfK u v r=true)))->(J.okSu a b c x y z d e f u v r) /\
   (J.Zhh (J.supL p1 p2 a b c x y z d e f u v r)/\J.Zhh (J.supR p1 p2 a b c x y z d e f u v r)) /\
   vb (J.smB (J.supL p1 p2 a b c x y z d e f u v r) (J.supE p1 p2 a b c x y z d e f u v r) (J.supR p1 p2 a b c x y z d e f u v r) (J.supE p1 p2 a b c x y z d e f u v r))=dq)) :
 lwSup_at p1 q1 p2 q2 w1 w2 l1 l2 a b c x y z d e f u v r (Zag dq):=by
 unfold lwSup_at
 obtain ⟨k1,k3,k5,k7,H⟩:=H
 refine Zae (G:=Zac kp9 [(1,0,.call (vb true) none),(1,5,.call (vb (zNmJ20 a b c)) none),(1,11,.call (vb (zNmJ16 x y z)) none),(1,17,.call (vb (zNmJ17 d e f)) none),(1,23,.call (vb (zNmJ18 u v r)) none)] []) 5 [] ⟨(atC (cd Tryz.f9) [1,0,1]),[(2,AV.ptr 0 0 0 0),(3,AV.ptr 1 0 0 0),(34,vb (zNmJ14 a b c x y z d e f u v r))],[⟨[ag (vb p1::vb (J.Zaa a.num)::vf (us (J.Zab a.num))::vb (J.Zaa (↑a.den:Int))::vf (us (J.Zab (↑a.den:Int)))::vb (J.Zaa b.num)::vf (us (J.Zab b.num))::vb (J.Zaa (↑b.den:Int))::vf (us (J.Zab (↑b.den:Int)))::vb (J.Zaa c.num)::vf (us (J.Zab c.num))::vb (J.Zaa (↑c.den:Int))::vf (us (J.Zab (↑c.den:Int)))::vb (J.Zaa x.num)::vf (us (J.Zab x.num))::vb (J.Zaa (↑x.den:Int))::vf (us (J.Zab (↑x.den:Int)))::vb (J.Zaa y.num)::vf (us (J.Zab y.num))::vb (J.Zaa (↑y.den:Int))::vf (us (J.Zab (↑y.den:Int)))::vb (J.Zaa z.num)::vf (us (J.Zab z.num))::vb (J.Zaa (↑z.den:Int))::vf (us (J.Zab (↑z.den:Int)))::vb q1::w20 w1 l1)],66,0,false,false⟩,⟨[ag (vb p2::vb (J.Zaa d.num)::vf (us (J.Zab d.num))::vb (J.Zaa (↑d.den:Int))::vf (us (J.Zab (↑d.den:Int)))::vb (J.Zaa e.num)::vf (us (J.Zab e.num))::vb (J.Zaa (↑e.den:Int))::vf (us (J.Zab (↑e.den:Int)))::vb (J.Zaa f.num)::vf (us (J.Zab f.num))::vb (J.Zaa (↑f.den:Int))::vf (us (J.Zab (↑f.den:Int)))::vb (J.Zaa u.num)::vf (us (J.Zab u.num))::vb (J.Zaa (↑u.den:Int))::vf (us (J.Zab (↑u.den:Int)))::vb (J.Zaa v.num)::vf (us (J.Zab v.num))::vb (J.Zaa (↑v.den:Int))::vf (us (J.Zab (↑v.den:Int)))::vb (J.Zaa r.num)::vf (us (J.Zab r.num))::vb (J.Zaa (↑r.den:Int))::vf (us (J.Zab (↑r.den:Int)))::vb q2::w20 w2 l2)],66,0,false,false⟩],[true,!((!J.Zet a b c)==false&&true)||true,!((zNmJ19 a b c x y z)==false&&true)||true,!((zNmJ15 a b c x y z d e f)==false&&true)||true],[],[⟨true,false,11,[],[],vb true,[]⟩,⟨true,false,12,[ZaH a b c],[],vb (zNmJ20 a b c),[]⟩,⟨(!J.Zet a b c)==false&&true&&true,false,16,[ZaH x y z],[],vb (zNmJ16 x y z),[]⟩,⟨(zNmJ19 a b c x y z)==false&&true&&true,false,12,[ZaH d e f],[],vb (zNmJ17 d e f),[]⟩,⟨(zNmJ15 a b c x y z d e f)==false&&true&&true,false,16,[ZaH u v r],[],vb (zNmJ18 u v r),[]⟩]⟩ (by kernel_rfl) (bc rfl (bc (Bool.or_true _) (bc (Bool.or_true _) (bc (Bool.or_true _) b0)))) q0 (cc (fun _=>(@ev11 )) (cc (fun _=>(@ev12 (J.Zaa a.num) (J.Zaa (↑a.den:Int)) false false (J.Zaa b.num) (J.Zaa (↑b.den:Int)) false false (J.Zaa c.num) (J.Zaa (↑c.den:Int)) false false (J.Zab a.num) (J.Zab (↑a.den:Int)) (J.Zab b.num) (J.Zab (↑b.den:Int)) (J.Zab c.num) (J.Zab (↑c.den:Int)) k1)) (cc (fun hc=>((@ev16 (J.Zaa x.num) (J.Zaa (↑x.den:Int)) false false (J.Zaa y.num) (J.Zaa (↑y.den:Int)) false false (J.Zaa z.num) (J.Zaa (↑z.den:Int)) false false (J.Zab x.num) (J.Zab (↑x.den:Int)) (J.Zab y.num) (J.Zab (↑y.den:Int)) (J.Zab z.num) (J.Zab (↑z.den:Int)) (k3 ((i_at (i_at (i_bf (ZaN (Zau _))))).1 hc))):Ev M1 (Conf.pure 16 [ZaH x y z]) (vb (zNmJ16 x y z)) [])) (cc (fun hc=>((@ev12 (J.Zaa d.num) (J.Zaa (↑d.den:Int)) false false (J.Zaa e.num) (J.Zaa (↑e.den:Int)) false false (J.Zaa f.num) (J.Zaa (↑f.den:Int)) false false (J.Zab d.num) (J.Zab (↑d.den:Int)) (J.Zab e.num) (J.Zab (↑e.den:Int)) (J.Zab f.num) (J.Zab (↑f.den:Int)) (k5 ((i_at (i_at (i_bf (Za4 (ZaN (Zau _)) (ZaN (Zau _)))))).1 hc))):Ev M1 (Conf.pure 12 [ZaH d e f]) (vb (zNmJ17 d e f)) [])) (cc (fun hc=>((@ev16 (J.Zaa u.num) (J.Zaa (↑u.den:Int)) false false (J.Zaa v.num) (J.Zaa (↑v.den:Int)) false false (J.Zaa r.num) (J.Zaa (↑r.den:Int)) false false (J.Zab u.num) (J.Zab (↑u.den:Int)) (J.Zab v.num) (J.Zab (↑v.den:Int)) (J.Zab r.num) (J.Zab (↑r.den:Int)) (k7 ((i_at (i_at (i_bf (Za4 (Za4 (ZaN (Zau _)) (ZaN (Zau _))) (ZaN (Zau _)))))).1 hc))):Ev M1 (Conf.pure 16 [ZaH u v r]) (vb (zNmJ18 u v r)) [])) c0))))) ?_
 rcases xq H with ⟨d9,H⟩|⟨d9,H⟩
 ·exact Zaq (G:=Zac kp9 [(2,0,.call (vb true) none)] []) 1000 [true] (asm:=[(zNmJ14 a b c x y z d e f u v r)==true]) (vb true) (by kernel_rfl) (bc (Zap ((Za4 (Za4 (Za4 (ZaN (Zau _)) (ZaN (Zau _))) (ZaN (Zau _))) (ZaN (Zau _))).2 d9)) b0) q0 (ce (@ev11 ) c0) H
 ·obtain ⟨k10,k11,H⟩:=H
  exact Zaq (G:=Zac kp9 [(3,2,.call (tu [AV.vec false 20 (List.map Pnt.a (J.supL p1 p2 a b c x y z d e f u v r)),vi (J.supE p1 p2 a b c x y z d e f u v r)]) none),(4,2,.call (tu [AV.vec false 20 (List.map Pnt.a (J.supR p1 p2 a b c x y z d e f u v r)),vi (J.supE p1 p2 a b c x y z d e f u v r)]) none),(5,4,.call (vb (J.smB (J.supL p1 p2 a b c x y z d e f u v r) (J.supE p1 p2 a b c x y z d e f u v r) (J.supR p1 p2 a b c x y z d e f u v r) (J.supE p1 p2 a b c x y z d e f u v r))) none)] []) 1000 [false] (asm:=[(zNmJ14 a b c x y z d e f u v r)==false,true,true,true,true]) (vb (J.smB (J.supL p1 p2 a b c x y z d e f u v r) (J.supE p1 p2 a b c x y z d e f u v r) (J.supR p1 p2 a b c x y z d e f u v r) (J.supE p1 p2 a b c x y z d e f u v r))) (by kernel_rfl) (bc (Zam (fun h=>d9 ((Za4 (Za4 (Za4 (ZaN (Zau _)) (ZaN (Zau _))) (ZaN (Zau _))) (ZaN (Zau _))).1 h))) (bc rfl (bc rfl (bc rfl (bc rfl b0))))) q0 (ce (@ev43 p1 q1 p2 q2 w1 w2 l1 l2 a b c x y z d e f u v r k10) (ce (@ev44 p1 q1 p2 q2 w1 w2 l1 l2 a b c x y z d e f u v r k10) (ce (@ev15 false false (J.supL p1 p2 a b c x y z d e f u v r) (J.supR p1 p2 a b c x y z d e f u v r) (J.supE p1 p2 a b c x y z d e f u v r) (J.supE p1 p2 a b c x y z d e f u v r) k11) c0))) H
theorem lwSupR (p1 q1 p2 q2:Bool) (w1 w2:Nat->Bool) (l1 l2:Nat->List Int) (s1 t1 f1 g1 s2 t2 f2 g2 s3 t3 f3 g3 s4 t4 f4 g4 s5 t5 f5 g5 s6 t6 f6 g6 s7 t7 f7 g7 s8 t8 f8 g8 s9 t9 f9 g9 s10 t10 f10 g10 s11 t11 f11 g11 s12 t12 f12 g12:Bool) (x1 y1 x2 y2 x3 y3 x4 y4 x5 y5 x6 y6 x7 y7 x8 y8 x9 y9 x10 y10 x11 y11 x12 y12:List Int)  (dq:AV) (H :
  (J.ZhO x1 y1 x2 y2 x3 y3) /\
  ((¬(¬(J.ZcA s1 t1 s2 t2 s3 t3 x1 y1 x2 y2 x3 y3=true)))->(J.ZhO x4 y4 x5 y5 x6 y6)) /\
  ((¬((¬(J.ZcA s1 t1 s2 t2 s3 t3 x1 y1 x2 y2 x3 y3=true))\/(¬(J.Zc3 s4 t4 s5 t5 s6 t6 x4 y4 x5 y5 x6 y6=true))))->(J.ZhO x7 y7 x8 y8 x9 y9)) /\
  ((¬(((¬(J.ZcA s1 t1 s2 t2 s3 t3 x1 y1 x2 y2 x3 y3=true))\/(¬(J.Zc3 s4 t4 s5 t5 s6 t6 x4 y4 x5 y5 x6 y6=true)))\/(¬(J.ZcA s7 t7 s8 t8 s9 t9 x7 y7 x8 y8 x9 y9=true))))->(J.ZhO x10 y10 x11 y11 x12 y12)) /\
  (((((¬(J.ZcA s1 t1 s2 t2 s3 t3 x1 y1 x2 y2 x3 y3=true))\/(¬(J.Zc3 s4 t4 s5 t5 s6 t6 x4 y4 x5 y5 x6 y6=true)))\/(¬(J.ZcA s7 t7 s8 t8 s9 t9 x7 y7 x8 y8 x9 y9=true)))\/(¬(J.Zc3 s10 t10 s11 t11 s12 t12 x10 y10 x11 y11 x12 y12=true)))->vb true=dq) /\
  (¬((((¬(J.ZcA s1 t1 s2 t2 s3 t3 x1 y1 x2 y2 x3 y3=true))\/(¬(J.Zc3 s4 t4 s5 t5 s6 t6 x4 y4 x5 y5 x6 y6=true)))\/(¬(J.ZcA s7 t7 s8 t8 s9 t9 x7 y7 x8 y8 x9 y9=true)))\/(¬(J.Zc3 s10 t10 s11 t11 s12 t12 x10 y10 x11 y11 x12 y12=true)))->False)) :
 lwSupR_at p1 q1 p2 q2 w1 w2 l1 l2 s1 t1 f1 g1 s2 t2 f2 g2 s3 t3 f3 g3 s4 t4 f4 g4 s5 t5 f5 g5 s6 t6 f6 g6 s7 t7 f7 g7 s8 t8 f8 g8 s9 t9 f9 g9 s10 t10 f10 g10 s11 t11 f11 g11 s12 t12 f12 g12 x1 y1 x2 y2 x3 y3 x4 y4 x5 y5 x6 y6 x7 y7 x8 y8 x9 y9 x10 y10 x11 y11 x12 y12 (Zag dq):=by
 unfold lwSupR_at
 obtain ⟨k1,k3,k5,k7,H⟩:=H
 refine Zae (G:=Zac kp9 [(1,0,.call (vb true) none),(1,5,.call (vb (J.ZcA s1 t1 s2 t2 s3 t3 x1 y1 x2 y2 x3 y3)) none),(1,11,.call (vb (J.Zc3 s4 t4 s5 t5 s6 t6 x4 y4 x5 y5 x6 y6)) none),(1,17,.call (vb (J.ZcA s7 t7 s8 t8 s9 t9 x7 y7 x8 y8 x9 y9)) none),(1,23,.call (vb (J.Zc3 s10 t10 s11 t11 s12 t12 x10 y10 x11 y11 x12 y12)) none)] []) 5 [] ⟨(atC (cd Tryz.f9) [1,0,1]),[(2,AV.ptr 0 0 0 0),(3,AV.ptr 1 0 0 0),(34,vb (bif bif bif !J.ZcA s1 t1 s2 t2 s3 t3 x1 y1 x2 y2 x3 y3 then true else !J.Zc3 s4 t4 s5 t5 s6 t6 x4 y4 x5 y5 x6 y6 then true else !J.ZcA s7 t7 s8 t8 s9 t9 x7 y7 x8 y8 x9 y9 then true else !J.Zc3 s10 t10 s11 t11 s12 t12 x10 y10 x11 y11 x12 y12))],[⟨[ag (vb p1::vb s1::AV.vec f1 1 (us x1)::vb t1::AV.vec g1 1 (us y1)::vb s2::AV.vec f2 1 (us x2)::vb t2::AV.vec g2 1 (us y2)::vb s3::AV.vec f3 1 (us x3)::vb t3::AV.vec g3 1 (us y3)::vb s4::AV.vec f4 1 (us x4)::vb t4::AV.vec g4 1 (us y4)::vb s5::AV.vec f5 1 (us x5)::vb t5::AV.vec g5 1 (us y5)::vb s6::AV.vec f6 1 (us x6)::vb t6::AV.vec g6 1 (us y6)::vb q1::w20 w1 l1)],66,0,false,false⟩,⟨[ag (vb p2::vb s7::AV.vec f7 1 (us x7)::vb t7::AV.vec g7 1 (us y7)::vb s8::AV.vec f8 1 (us x8)::vb t8::AV.vec g8 1 (us y8)::vb s9::AV.vec f9 1 (us x9)::vb t9::AV.vec g9 1 (us y9)::vb s10::AV.vec f10 1 (us x10)::vb t10::AV.vec g10 1 (us y10)::vb s11::AV.vec f11 1 (us x11)::vb t11::AV.vec g11 1 (us y11)::vb s12::AV.vec f12 1 (us x12)::vb t12::AV.vec g12 1 (us y12)::vb q2::w20 w2 l2)],66,0,false,false⟩],[true,!((!J.ZcA s1 t1 s2 t2 s3 t3 x1 y1 x2 y2 x3 y3)==false&&true)||true,!((bif !J.ZcA s1 t1 s2 t2 s3 t3 x1 y1 x2 y2 x3 y3 then true else !J.Zc3 s4 t4 s5 t5 s6 t6 x4 y4 x5 y5 x6 y6)==false&&true)||true,!((bif bif !J.ZcA s1 t1 s2 t2 s3 t3 x1 y1 x2 y2 x3 y3 then true else !J.Zc3 s4 t4 s5 t5 s6 t6 x4 y4 x5 y5 x6 y6 then true else !J.ZcA s7 t7 s8 t8 s9 t9 x7 y7 x8 y8 x9 y9)==false&&true)||true],[],[⟨true,false,11,[],[],vb true,[]⟩,⟨true,false,12,[ag [vb s1,AV.vec f1 1 (us x1),vb t1,AV.vec g1 1 (us y1),vb s2,AV.vec f2 1 (us x2),vb t2,AV.vec g2 1 (us y2),vb s3,AV.vec f3 1 (us x3),vb t3,AV.vec g3 1 (us y3)]],[],vb (J.ZcA s1 t1 s2 t2 s3 t3 x1 y1 x2 y2 x3 y3),[]⟩,⟨(!J.ZcA s1 t1 s2 t2 s3 t3 x1 y1 x2 y2 x3 y3)==false&&true&&true,false,16,[ag [vb s4,AV.vec f4 1 (us x4),vb t4,AV.vec g4 1 (us y4),vb s5,AV.vec f5 1 (us x5),vb t5,AV.vec g5 1 (us y5),vb s6,AV.vec f6 1 (us x6),vb t6,AV.vec g6 1 (us y6)]],[],vb (J.Zc3 s4 t4 s5 t5 s6 t6 x4 y4 x5 y5 x6 y6),[]⟩,⟨(bif !J.ZcA s1 t1 s2 t2 s3 t3 x1 y1 x2 y2 x3 y3 then true else !J.Zc3 s4 t4 s5 t5 s6 t6 x4 y4 x5 y5 x6 y6)==false&&true&&true,false,12,[ag [vb s7,AV.vec f7 1 (us x7),vb t7,AV.vec g7 1 (us y7),vb s8,AV.vec f8 1 (us x8),vb t8,AV.vec g8 1 (us y8),vb s9,AV.vec f9 1 (us x9),vb t9,AV.vec g9 1 (us y9)]],[],vb (J.ZcA s7 t7 s8 t8 s9 t9 x7 y7 x8 y8 x9 y9),[]⟩,⟨(bif bif !J.ZcA s1 t1 s2 t2 s3 t3 x1 y1 x2 y2 x3 y3 then true else !J.Zc3 s4 t4 s5 t5 s6 t6 x4 y4 x5 y5 x6 y6 then true else !J.ZcA s7 t7 s8 t8 s9 t9 x7 y7 x8 y8 x9 y9)==false&&true&&true,false,16,[ag [vb s10,AV.vec f10 1 (us x10),vb t10,AV.vec g10 1 (us y10),vb s11,AV.vec f11 1 (us x11),vb t11,AV.vec g11 1 (us y11),vb s12,AV.vec f12 1 (us x12),vb t12,AV.vec g12 1 (us y12)]],[],vb (J.Zc3 s10 t10 s11 t11 s12 t12 x10 y10 x11 y11 x12 y12),[]⟩]⟩ (by kernel_rfl) (bc rfl (bc (Bool.or_true _) (bc (Bool.or_true _) (bc (Bool.or_true _) b0)))) q0 (cc (fun _=>(@ev11 )) (cc (fun _=>(@ev12 s1 t1 f1 g1 s2 t2 f2 g2 s3 t3 f3 g3 x1 y1 x2 y2 x3 y3 k1)) (cc (fun hc=>((@ev16 s4 t4 f4 g4 s5 t5 f5 g5 s6 t6 f6 g6 x4 y4 x5 y5 x6 y6 (k3 ((i_at (i_at (i_bf (ZaN (Zau _))))).1 hc))):Ev M1 (Conf.pure 16 [ag [vb s4,AV.vec f4 1 (us x4),vb t4,AV.vec g4 1 (us y4),vb s5,AV.vec f5 1 (us x5),vb t5,AV.vec g5 1 (us y5),vb s6,AV.vec f6 1 (us x6),vb t6,AV.vec g6 1 (us y6)]]) (vb (J.Zc3 s4 t4 s5 t5 s6 t6 x4 y4 x5 y5 x6 y6)) [])) (cc (fun hc=>((@ev12 s7 t7 f7 g7 s8 t8 f8 g8 s9 t9 f9 g9 x7 y7 x8 y8 x9 y9 (k5 ((i_at (i_at (i_bf (Za4 (ZaN (Zau _)) (ZaN (Zau _)))))).1 hc))):Ev M1 (Conf.pure 12 [ag [vb s7,AV.vec f7 1 (us x7),vb t7,AV.vec g7 1 (us y7),vb s8,AV.vec f8 1 (us x8),vb t8,AV.vec g8 1 (us y8),vb s9,AV.vec f9 1 (us x9),vb t9,AV.vec g9 1 (us y9)]]) (vb (J.ZcA s7 t7 s8 t8 s9 t9 x7 y7 x8 y8 x9 y9)) [])) (cc (fun hc=>((@ev16 s10 t10 f10 g10 s11 t11 f11 g11 s12 t12 f12 g12 x10 y10 x11 y11 x12 y12 (k7 ((i_at (i_at (i_bf (Za4 (Za4 (ZaN (Zau _)) (ZaN (Zau _))) (ZaN (Zau _)))))).1 hc))):Ev M1 (Conf.pure 16 [ag [vb s10,AV.vec f10 1 (us x10),vb t10,AV.vec g10 1 (us y10),vb s11,AV.vec f11 1 (us x11),vb t11,AV.vec g11 1 (us y11),vb s12,AV.vec f12 1 (us x12),vb t12,AV.vec g12 1 (us y12)]]) (vb (J.Zc3 s10 t10 s11 t11 s12 t12 x10 y10 x11 y11 x12 y12)) [])) c0))))) ?_
 rcases xq H with ⟨d9,H⟩|⟨d9,H⟩
 ·exact Zaq (G:=Zac kp9 [(2,0,.call (vb true) none)] []) 1000 [true] (asm:=[(bif bif bif !J.ZcA s1 t1 s2 t2 s3 t3 x1 y1 x2 y2 x3 y3 then true else !J.Zc3 s4 t4 s5 t5 s6 t6 x4 y4 x5 y5 x6 y6 then true else !J.ZcA s7 t7 s8 t8 s9 t9 x7 y7 x8 y8 x9 y9 then true else !J.Zc3 s10 t10 s11 t11 s12 t12 x10 y10 x11 y11 x12 y12)==true]) (vb true) (by kernel_rfl) (bc (Zap ((Za4 (Za4 (Za4 (ZaN (Zau _)) (ZaN (Zau _))) (ZaN (Zau _))) (ZaN (Zau _))).2 d9)) b0) q0 (ce (@ev11 ) c0) H
 ·exact False.elim H
end Go.Av

namespace Go.Av
open Go.Proofs
theorem sm_true {l m:List Pnt} {e:Int} (h:J.sameL l m /\ ∀ p ∈ l,J.ZbA p):J.smB l e m e=true:=by
 unfold J.smB
 rw [beq_self_eq_true,cond_true,goodL_of h.2,cond_true,Ze8 h.1]
theorem lin_same (a b c x y z:Rat):J.sameL (J.Zfr a b c x y z) (J.Zfr a b c x y z) /\ ∀ p ∈ J.Zfr a b c x y z,J.ZbA p:=by
 have v:∀ p ∈ J.Zfr a b c x y z,J.ZbA p:=by
  unfold J.Zfr
  split
  ·exact fun p hp=>(nomatch hp)
  ·intro p hp;rw [List.mem_singleton.1 hp];exact Zgc _ _
 exact ⟨ZhE v,v⟩
theorem rd_ne {a b x y:Rat} (h:¬(a=x/\b=y)):J.rdA a x ≠ 0\/J.rdA b y ≠ 0:=by
 unfold J.rdA
 rw [q_2]
 by_cases k:a=x
 ·exact .inr fun e=>h ⟨k,by grind⟩
 ·exact .inl fun e=>k (by grind)
theorem cir_same (a b c x y z:Rat):J.sameL (J.ZeG a b c x y z) (J.cirR a b c x y z) /\ ∀ p ∈ J.ZeG a b c x y z,J.ZbA p:=by
 unfold J.ZeG J.cirR
 by_cases k:a=x/\b=y
 ·rw [if_pos k,if_pos k];exact ⟨trivial,fun p hp=>(nomatch hp)⟩
 ·rw [if_neg k,if_neg k];exact ZgN (rd_ne k)
theorem rw_rat (a b c:Rat):J.ZhO (J.Zab a.num) (J.Zab (a.den:Int)) (J.Zab b.num) (J.Zab (b.den:Int)) (J.Zab c.num) (J.Zab (c.den:Int)):=
 ⟨⟨fun v hv=>(Zeu _ v hv).1,fun v hv=>(Zeu _ v hv).1⟩,⟨fun v hv=>(Zeu _ v hv).1,fun v hv=>(Zeu _ v hv).1⟩,fun v hv=>(Zeu _ v hv).1,fun v hv=>(Zeu _ v hv).1⟩
theorem sup_same (p1 p2:Bool) {a b c x y z d e f u v r:Rat} (h:J.okSu a b c x y z d e f u v r):(J.sameL (J.supL p1 p2 a b c x y z d e f u v r) (J.supR p1 p2 a b c x y z d e f u v r) /\ ∀ p ∈ J.supL p1 p2 a b c x y z d e f u v r,J.ZbA p)/\J.Zhh (J.supL p1 p2 a b c x y z d e f u v r)/\J.Zhh (J.supR p1 p2 a b c x y z d e f u v r):=by
 obtain ⟨⟨⟨h1,n1⟩,h2⟩,⟨h3,n3⟩,h4⟩:=h
 have c2:=(ZbY h2).2.2
 have c4:=(ZbY h4).2.2
 cases p1 with
 | true=>cases p2 with
  | true=>exact ⟨cir_same _ _ _ _ _ _,pl_cir h2 h4⟩
  | false=>exact ⟨ZgN n3,pl_C (ln_I2 h3 n3) (vn_I2 h2) c2,pl_R (ln_I2 h3 n3) (vn_I2 h2) c2⟩
 | false=>cases p2 with
  | true=>exact ⟨ZgN n1,pl_C (ln_I2 h1 n1) (vn_I2 h4) c4,pl_R (ln_I2 h1 n1) (vn_I2 h4) c4⟩
  | false=>exact ⟨lin_same _ _ _ _ _ _,pl_lin h1 h3,pl_lin h1 h3⟩
theorem ev9 (p1 q1 p2 q2:Bool) (w1 w2:Nat->Bool) (l1 l2:Nat->List Int) (s1 t1 s2 t2 s3 t3 s4 t4 s5 t5 s6 t6 s7 t7 s8 t8 s9 t9 s10 t10 s11 t11 s12 t12:Bool) (x1 y1 x2 y2 x3 y3 x4 y4 x5 y5 x6 y6 x7 y7 x8 y8 x9 y9 x10 y10 x11 y11 x12 y12:List Int) (h1:J.ZhO x1 y1 x2 y2 x3 y3) (h2:J.ZhO x4 y4 x5 y5 x6 y6) (h3:J.ZhO x7 y7 x8 y8 x9 y9) (h4:J.ZhO x10 y10 x11 y11 x12 y12):Ev M1 (.pure 9 [.agg (.bool p1::.bool s1::.vec false 1 (x1.map (.int .u32))::.bool t1::.vec false 1 (y1.map (.int .u32))::.bool s2::.vec false 1 (x2.map (.int .u32))::.bool t2::.vec false 1 (y2.map (.int .u32))::.bool s3::.vec false 1 (x3.map (.int .u32))::.bool t3::.vec false 1 (y3.map (.int .u32))::.bool s4::.vec false 1 (x4.map (.int .u32))::.bool t4::.vec false 1 (y4.map (.int .u32))::.bool s5::.vec false 1 (x5.map (.int .u32))::.bool t5::.vec false 1 (y5.map (.int .u32))::.bool s6::.vec false 1 (x6.map (.int .u32))::.bool t6::.vec false 1 (y6.map (.int .u32))::.bool q1::w20 w1 l1),.agg (.bool p2::.bool s7::.vec false 1 (x7.map (.int .u32))::.bool t7::.vec false 1 (y7.map (.int .u32))::.bool s8::.vec false 1 (x8.map (.int .u32))::.bool t8::.vec false 1 (y8.map (.int .u32))::.bool s9::.vec false 1 (x9.map (.int .u32))::.bool t9::.vec false 1 (y9.map (.int .u32))::.bool s10::.vec false 1 (x10.map (.int .u32))::.bool t10::.vec false 1 (y10.map (.int .u32))::.bool s11::.vec false 1 (x11.map (.int .u32))::.bool t11::.vec false 1 (y11.map (.int .u32))::.bool s12::.vec false 1 (x12.map (.int .u32))::.bool t12::.vec false 1 (y12.map (.int .u32))::.bool q2::w20 w2 l2)]) (.bool true) []:=by
 have no (k:(((¬(J.ZcA s1 t1 s2 t2 s3 t3 x1 y1 x2 y2 x3 y3=true))\/(¬(J.Zc3 s4 t4 s5 t5 s6 t6 x4 y4 x5 y5 x6 y6=true)))\/(¬(J.ZcA s7 t7 s8 t8 s9 t9 x7 y7 x8 y8 x9 y9=true)))\/(¬(J.Zc3 s10 t10 s11 t11 s12 t12 x10 y10 x11 y11 x12 y12=true))):Ev M1 (.pure 9 [.agg (.bool p1::.bool s1::.vec false 1 (x1.map (.int .u32))::.bool t1::.vec false 1 (y1.map (.int .u32))::.bool s2::.vec false 1 (x2.map (.int .u32))::.bool t2::.vec false 1 (y2.map (.int .u32))::.bool s3::.vec false 1 (x3.map (.int .u32))::.bool t3::.vec false 1 (y3.map (.int .u32))::.bool s4::.vec false 1 (x4.map (.int .u32))::.bool t4::.vec false 1 (y4.map (.int .u32))::.bool s5::.vec false 1 (x5.map (.int .u32))::.bool t5::.vec false 1 (y5.map (.int .u32))::.bool s6::.vec false 1 (x6.map (.int .u32))::.bool t6::.vec false 1 (y6.map (.int .u32))::.bool q1::w20 w1 l1),.agg (.bool p2::.bool s7::.vec false 1 (x7.map (.int .u32))::.bool t7::.vec false 1 (y7.map (.int .u32))::.bool s8::.vec false 1 (x8.map (.int .u32))::.bool t8::.vec false 1 (y8.map (.int .u32))::.bool s9::.vec false 1 (x9.map (.int .u32))::.bool t9::.vec false 1 (y9.map (.int .u32))::.bool s10::.vec false 1 (x10.map (.int .u32))::.bool t10::.vec false 1 (y10.map (.int .u32))::.bool s11::.vec false 1 (x11.map (.int .u32))::.bool t11::.vec false 1 (y11.map (.int .u32))::.bool s12::.vec false 1 (x12.map (.int .u32))::.bool t12::.vec false 1 (y12.map (.int .u32))::.bool q2::w20 w2 l2)]) (.bool true) []:=call9 (lwSupR _ _ _ _ _ _ _ _ _ _ _ _ _ _ _ _ _ _ _ _ _ _ _ _ _ _ _ _ _ _ _ _ _ _ _ _ _ _ _ _ _ _ _ _ _ _ _ _ _ _ _ _ _ _ _ _ _ _ _ _ _ _ _ _ _ _ _ _ _ _ _ _ _ _ _ _ _ _ _ _ _ ⟨h1,fun _=>h2,fun _=>h3,fun _=>h4,fun _=>rfl,fun j=>absurd k j⟩)
 by_cases k1:J.ZcA s1 t1 s2 t2 s3 t3 x1 y1 x2 y2 x3 y3=true
 case neg=>exact no (.inl (.inl (.inl k1)))
 by_cases k2:J.Zc3 s4 t4 s5 t5 s6 t6 x4 y4 x5 y5 x6 y6=true
 case neg=>exact no (.inl (.inl (.inr k2)))
 by_cases k3:J.ZcA s7 t7 s8 t8 s9 t9 x7 y7 x8 y8 x9 y9=true
 case neg=>exact no (.inl (.inr k3))
 by_cases k4:J.Zc3 s10 t10 s11 t11 s12 t12 x10 y10 x11 y11 x12 y12=true
 case neg=>exact no (.inr k4)
 clear no
 obtain ⟨a,b,c,e1,⟨rfl,rfl,rfl,rfl⟩,⟨rfl,rfl,rfl,rfl⟩,rfl,rfl,rfl,rfl⟩:=Zen (lineB_few k1)
 obtain ⟨x,y,z,e2,⟨rfl,rfl,rfl,rfl⟩,⟨rfl,rfl,rfl,rfl⟩,rfl,rfl,rfl,rfl⟩:=Zen (circB_few k2)
 obtain ⟨d,e,f,e3,⟨rfl,rfl,rfl,rfl⟩,⟨rfl,rfl,rfl,rfl⟩,rfl,rfl,rfl,rfl⟩:=Zen (lineB_few k3)
 obtain ⟨u,v,r,e4,⟨rfl,rfl,rfl,rfl⟩,⟨rfl,rfl,rfl,rfl⟩,rfl,rfl,rfl,rfl⟩:=Zen (circB_few k4)
 have hs:J.okSu a b c x y z d e f u v r:=⟨⟨⟨e1,lineB_ne k1⟩,e2⟩,⟨e3,lineB_ne k3⟩,e4⟩
 have ss:=sup_same p1 p2 hs
 exact call9 (lwSup _ _ _ _ _ _ _ _ _ _ _ _ _ _ _ _ _ _ _ _ _ ⟨rw_rat a b c,fun _=>rw_rat x y z,fun _=>rw_rat d e f,fun _=>rw_rat u v r,fun k=>(k.elim (fun k=>k.elim (fun k=>k.elim (fun j=>absurd k1 j) fun j=>absurd k2 j) fun j=>absurd k3 j) fun j=>absurd k4 j),fun _=>⟨hs,ss.2,by rw [sm_true ss.1]⟩⟩)
end Go.Av
