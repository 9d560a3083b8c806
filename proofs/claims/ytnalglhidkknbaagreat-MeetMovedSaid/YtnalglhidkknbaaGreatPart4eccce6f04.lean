/- PART 6 of the texts of a claim, joined by a program: what each part shows stands at its head. -/
import Derived.Test.YtnalglhidkknbaaGreatPartda318f51b8

namespace Go.Av
open Go.Proofs
set_option maxRecDepth 100000
def fi46:Fi:=⟨5,[.cell 2 26]⟩
def kp46:List (Nat × List Nat):=[(0,[0,2]),(1,[2])]
def fi49:Fi:=⟨27,[.tmp 4]⟩
def kp49:List (Nat × List Nat):=[(0,[0,1]),(1,[0,1,10]),(2,[4]),(3,[0,1,5]),(4,[0,1,5,14]),(5,[0,1,5]),(6,[0,1,5,26]),(7,[4]),(8,[4])]
def fi51:Fi:=⟨36,[.tmp 2]⟩
def kp51:List (Nat × List Nat):=[(0,[0]),(1,[0,3]),(2,[0,3,7]),(3,[0,3]),(4,[0,3,35]),(5,[2]),(6,[2])]
def fi93:Fi:=⟨10,[.cell 4 47]⟩
def kp93:List (Nat × List Nat):=[(0,[0,1,4]),(1,[4])]
def rSame9_at (u v:Bool) (l m:List Pnt) (Q:AV->Heap->Prop):Prop:=Wp M1 (.run fi49 (atC (cd Tryz.f49) []) [(0,.vec u 20 (l.map Pnt.a)),(1,.vec v 20 (m.map Pnt.a))] []) Q
def Zc9 (u v:Bool) (l m:List Pnt) (i:Int) (Q:AV->Heap->Prop):Prop:=Wp M1 (.run fi49 (atC (cd Tryz.f49) [1,1,0,1,0,0]) [(0,.vec u 20 (l.map Pnt.a)),(1,.vec v 20 (m.map Pnt.a)),(5,.int .i64 i)] []) Q
def wNum_at (a:Int) (Q:AV->Heap->Prop):Prop:=Wp M1 (.run fi46 (atC (cd Tryz.f46) []) [(0,.int .i64 a)] []) Q
def rVec7_at (a b:Int) (Q:AV->Heap->Prop):Prop:=Wp M1 (.run fi93 (atC (cd Tryz.f93) []) [(0,.int .i64 a),(1,.int .i64 b)] []) Q
def rFew_at (s1 t1 f1 g1 s2 t2 f2 g2 s3 t3 f3 g3:Bool) (x1 y1 x2 y2 x3 y3:List Int) (Q:AV->Heap->Prop):Prop:=Wp M1 (.run fi51 (atC (cd Tryz.f51) []) [(0,.vec true 4 [.agg [.bool s1,.vec f1 1 (x1.map (.int .u32)),.bool t1,.vec g1 1 (y1.map (.int .u32))],.agg [.bool s2,.vec f2 1 (x2.map (.int .u32)),.bool t2,.vec g2 1 (y2.map (.int .u32))],.agg [.bool s3,.vec f3 1 (x3.map (.int .u32)),.bool t3,.vec g3 1 (y3.map (.int .u32))]])] []) Q
def rFew0_at (s1 t1 f1 g1 s2 t2 f2 g2 s3 t3 f3 g3:Bool) (x1 y1 x2 y2 x3 y3:List Int) (Q:AV->Heap->Prop):Prop:=Wp M1 (.run fi51 (atC (cd Tryz.f51) [1,0,1,0,0]) [(0,.vec true 4 [.agg [.bool s1,.vec f1 1 (x1.map (.int .u32)),.bool t1,.vec g1 1 (y1.map (.int .u32))],.agg [.bool s2,.vec f2 1 (x2.map (.int .u32)),.bool t2,.vec g2 1 (y2.map (.int .u32))],.agg [.bool s3,.vec f3 1 (x3.map (.int .u32)),.bool t3,.vec g3 1 (y3.map (.int .u32))]]),(3,.int .i64 0)] []) Q
def rFew1_at (s1 t1 f1 g1 s2 t2 f2 g2 s3 t3 f3 g3:Bool) (x1 y1 x2 y2 x3 y3:List Int) (Q:AV->Heap->Prop):Prop:=Wp M1 (.run fi51 (atC (cd Tryz.f51) [1,0,1,0,0]) [(0,.vec true 4 [.agg [.bool s1,.vec f1 1 (x1.map (.int .u32)),.bool t1,.vec g1 1 (y1.map (.int .u32))],.agg [.bool s2,.vec f2 1 (x2.map (.int .u32)),.bool t2,.vec g2 1 (y2.map (.int .u32))],.agg [.bool s3,.vec f3 1 (x3.map (.int .u32)),.bool t3,.vec g3 1 (y3.map (.int .u32))]]),(3,.int .i64 1)] []) Q
def rFew2_at (s1 t1 f1 g1 s2 t2 f2 g2 s3 t3 f3 g3:Bool) (x1 y1 x2 y2 x3 y3:List Int) (Q:AV->Heap->Prop):Prop:=Wp M1 (.run fi51 (atC (cd Tryz.f51) [1,0,1,0,0]) [(0,.vec true 4 [.agg [.bool s1,.vec f1 1 (x1.map (.int .u32)),.bool t1,.vec g1 1 (y1.map (.int .u32))],.agg [.bool s2,.vec f2 1 (x2.map (.int .u32)),.bool t2,.vec g2 1 (y2.map (.int .u32))],.agg [.bool s3,.vec f3 1 (x3.map (.int .u32)),.bool t3,.vec g3 1 (y3.map (.int .u32))]]),(3,.int .i64 2)] []) Q
def rFew3_at (s1 t1 f1 g1 s2 t2 f2 g2 s3 t3 f3 g3:Bool) (x1 y1 x2 y2 x3 y3:List Int) (Q:AV->Heap->Prop):Prop:=Wp M1 (.run fi51 (atC (cd Tryz.f51) [1,0,1,0,0]) [(0,.vec true 4 [.agg [.bool s1,.vec f1 1 (x1.map (.int .u32)),.bool t1,.vec g1 1 (y1.map (.int .u32))],.agg [.bool s2,.vec f2 1 (x2.map (.int .u32)),.bool t2,.vec g2 1 (y2.map (.int .u32))],.agg [.bool s3,.vec f3 1 (x3.map (.int .u32)),.bool t3,.vec g3 1 (y3.map (.int .u32))]]),(3,.int .i64 3)] []) Q
theorem call46 {args:List AV} {d:AV} (h:wc M1 fi46 Tryz.f46 args d):Ev M1 (.pure 46 args) d []:=pcl _ _ (by kernel_rfl) h
theorem call49 {args:List AV} {d:AV} (h:wc M1 fi49 Tryz.f49 args d):Ev M1 (.pure 49 args) d []:=pcl _ _ (by kernel_rfl) h
theorem call51 {args:List AV} {d:AV} (h:wc M1 fi51 Tryz.f51 args d):Ev M1 (.pure 51 args) d []:=pcl _ _ (by kernel_rfl) h
theorem call93 {args:List AV} {d:AV} (h:wc M1 fi93 Tryz.f93 args d):Ev M1 (.pure 93 args) d []:=pcl _ _ (by kernel_rfl) h
theorem rSame9 (u v:Bool) (l m:List Pnt)  (dq:AV) (H :
  ((¬(↑l.length:Int) = (↑m.length:Int)) -> vb false = dq) /\
  (¬(¬(↑l.length:Int) = (↑m.length:Int)) -> Zc9 (u) (v) (l) (m) (0) (Zaf dq))) :
 rSame9_at u v l m (Zaf dq):=by
 unfold rSame9_at
 have w1:(List.map Pnt.a l).length = l.length:=List.length_map ..
 have w2:(List.map Pnt.a m).length = m.length:=List.length_map ..
 have i3:((↑(List.map Pnt.a l).length:Int) != (↑(List.map Pnt.a m).length:Int)) = true ↔ (¬(↑l.length:Int) = (↑m.length:Int)):=(by (try rw [w1]);(try rw [w2]);all_goals exact i_ne)
 rcases xq H with ⟨d4,H⟩|⟨d4,H⟩
 ·exact Zap (G:=Zad kp49 [] []) 1000 [true] (vb false) (by kernel_rfl) (bc (Zaq (i3.2 d4)) b0) q0 c0 H
 ·exact Zae (G:=Zad kp49 [] []) 1000 [false] ⟨(atC (cd Tryz.f49) [1,1,0,1,0,0]),[(0,AV.vec u 20 (List.map Pnt.a l)),(1,AV.vec v 20 (List.map Pnt.a m)),(5,vi 0)],[],_,[],_⟩ (by kernel_rfl) (bc (Zao (fun h => d4 (i3.1 h))) b0) q0 c0 (H)
noncomputable abbrev zNmG1 (l:List Pnt) (i:Int):=(Pnt.a (l.getD i.toNat default))
noncomputable abbrev zNmG2 (m:List Pnt) (i:Int):=(Pnt.a (m.getD i.toNat default))
theorem rSame9H (u v:Bool) (l m:List Pnt) (i:Int)  (dq:AV) (H :
  ((i < (↑l.length:Int)) -> (Sp.Zgn (l.getD i.toNat default) /\ Sp.Zgn (m.getD i.toNat default)) /\
   (0 <= i) /\
   (i.toNat < l.length) /\
   (i.toNat < m.length) /\
   ((¬(Sp.Zew (l.getD i.toNat default) (m.getD i.toNat default) = 0)) -> vb false = dq) /\
   (¬(¬(Sp.Zew (l.getD i.toNat default) (m.getD i.toNat default) = 0)) -> (-9223372036854775808 <= i + 1 /\ i + 1 <= 9223372036854775807) /\
    Zc9 (u) (v) (l) (m) (i + 1) (Zaf dq))) /\
  (¬(i < (↑l.length:Int)) -> vb true = dq)) :
 Zc9 u v l m i (Zaf dq):=by
 unfold Zc9
 have w1:(List.map Pnt.a l).length = l.length:=List.length_map ..
 have i2:(decide (i < (↑(List.map Pnt.a l).length:Int))) = true ↔ (i < (↑l.length:Int)):=(by (try rw [w1]);all_goals exact Zab)
 rcases xq H with ⟨d3,H⟩|⟨d3,H⟩
 ·obtain ⟨k4,k6,H⟩:=H
  have i7:(decide (i.toNat < (List.map Pnt.a l).length)) = true ↔ (i.toNat < l.length):=(by (try rw [w1]);all_goals exact Zab)
  obtain ⟨k8,H⟩:=H
  have w10:(List.map Pnt.a m).length = m.length:=List.length_map ..
  have i11:(decide (i.toNat < (List.map Pnt.a m).length)) = true ↔ (i.toNat < m.length):=(by (try rw [w10]);all_goals exact Zab)
  obtain ⟨k12,H⟩:=H
  refine Zae (G:=Zad kp49 [(6,3,.elem (zNmG1 l i)),(6,7,.elem (zNmG2 m i)),(6,8,.call (vb (decide (Sp.Zew (l.getD i.toNat default) (m.getD i.toNat default) = 0))) none)] []) 9 [true] ⟨(atC (cd Tryz.f49) [1,1,0,1,0,0,1,0,0,1]),[(0,AV.vec u 20 (List.map Pnt.a l)),(1,AV.vec v 20 (List.map Pnt.a m)),(5,vi i),(26,vb !decide (Sp.Zew (l.getD i.toNat default) (m.getD i.toNat default) = 0))],[],_,[((List.map Pnt.a l).get?Internal i.toNat = some (zNmG1 l i)),((List.map Pnt.a m).get?Internal i.toNat = some (zNmG2 m i))],_⟩ (by kernel_rfl) (bc (Zaq (i2.2 d3)) (bc (Zab.2 k6) (bc (i7.2 k8) (bc (Zab.2 k6) (bc (i11.2 k12) b0))))) (qc (Zar k8) (qc (Zar k12) q0)) (ce (@ev37 (false) (false) (false) (false) (false) (false) (false) (false) (false) (false) (false) (false) (false) (false) (false) (false) (false) (false) (false) (false) ((l.getD i.toNat default).ax) ((l.getD i.toNat default).bx) ((l.getD i.toNat default).ay) ((l.getD i.toNat default).by_) ((l.getD i.toNat default).c) ((m.getD i.toNat default).ax) ((m.getD i.toNat default).bx) ((m.getD i.toNat default).ay) ((m.getD i.toNat default).by_) ((m.getD i.toNat default).c) k4) c0) ?_
  rcases xq H with ⟨d14,H⟩|⟨d14,H⟩
  ·exact Zap (G:=Zad kp49 [] []) 1000 [true] (vb false) (by kernel_rfl) (bc (Zaq ((ZaF Zab).2 d14)) b0) q0 c0 H
  ·obtain ⟨k15,H⟩:=H
   have w16:wi (i + 1) = i + 1:=wI64 k15
   exact Zae (G:=Zad kp49 [] []) 1000 [false] ⟨(atC (cd Tryz.f49) [1,1,0,1,0,0]),[(0,AV.vec u 20 (List.map Pnt.a l)),(1,AV.vec v 20 (List.map Pnt.a m)),(5,vi (wi (i + 1)))],[],_,[],_⟩ (by kernel_rfl) (bc (Zao (fun h => d14 ((ZaF Zab).1 h))) b0) q0 c0 (by (try rw [w16]);all_goals exact H)
 ·exact Zap (G:=Zad kp49 [] []) 1000 [false] (vb true) (by kernel_rfl) (bc (Zao (fun h => d3 (i2.1 h))) b0) q0 c0 H
theorem wNum (a:Int)  (dq:AV) (H :
  (Sp.inI a) /\
  Weak (ratF (Sp.qi a)) dq) :
 wNum_at a (Zaf dq):=by
 unfold wNum_at
 obtain ⟨k1,H⟩:=H
 exact Zag (G:=Zad kp46 [(1,1,.call (ratF (Sp.qi a)) none)] []) 1000 [] (ratF (Sp.qi a)) (by kernel_rfl) (bc rfl b0) q0 (ce (@ev84 (a) k1) c0) H
theorem rVec7 (a b:Int)  (dq:AV) (H :
  (Sp.inI a) /\
  (Sp.inI b) /\
  Weak ((vecF (Sp.qi a) (Sp.qi b))) dq) :
 rVec7_at a b (Zaf dq):=by
 unfold rVec7_at
 obtain ⟨k1,k2,H⟩:=H
 exact Zag (G:=Zad kp93 [(1,1,.call (ratF (Sp.qi a)) none),(1,3,.call (ratF (Sp.qi b)) none)] []) 1000 [] ((vecF (Sp.qi a) (Sp.qi b))) (by kernel_rfl) (bc rfl b0) q0 (ce (@ev84 (a) k1) (ce (@ev84 (b) k2) c0)) H
theorem rFew (s1 t1 f1 g1 s2 t2 f2 g2 s3 t3 f3 g3:Bool) (x1 y1 x2 y2 x3 y3:List Int)  (dq:AV) (H :
  rFew0_at (s1) (t1) (f1) (g1) (s2) (t2) (f2) (g2) (s3) (t3) (f3) (g3) (x1) (y1) (x2) (y2) (x3) (y3) (Zaf dq)) :
 rFew_at s1 t1 f1 g1 s2 t2 f2 g2 s3 t3 f3 g3 x1 y1 x2 y2 x3 y3 (Zaf dq):=by
 unfold rFew_at
 exact Zae (G:=Zad kp51 [] []) 1000 [] ⟨(atC (cd Tryz.f51) [1,0,1,0,0]),[(0,AV.vec true 4 [ag [vb s1,AV.vec f1 1 (us x1),vb t1,AV.vec g1 1 (us y1)],ag [vb s2,AV.vec f2 1 (us x2),vb t2,AV.vec g2 1 (us y2)],ag [vb s3,AV.vec f3 1 (us x3),vb t3,AV.vec g3 1 (us y3)]]),(3,vi 0)],[],_,[],_⟩ (by kernel_rfl) b0 q0 c0 (H)
noncomputable abbrev zNmG3 (s1:Bool) (f1:Bool) (x1:List Int) (t1:Bool) (g1:Bool) (y1:List Int):=ag [vb s1,AV.vec f1 1 (us x1),vb t1,AV.vec g1 1 (us y1)]
theorem rFew0 (s1 t1 f1 g1 s2 t2 f2 g2 s3 t3 f3 g3:Bool) (x1 y1 x2 y2 x3 y3:List Int)  (dq:AV) (H :
  ((¬(((↑x1.length:Int) > 2) \/ ((↑y1.length:Int) > 2))) -> (Sp.okA x1 y1)) /\
  (((((↑x1.length:Int) > 2) \/ ((↑y1.length:Int) > 2)) \/ (¬(Sp.Zcn s1 x1 t1 y1 = true))) -> vb false = dq) /\
  (¬((((↑x1.length:Int) > 2) \/ ((↑y1.length:Int) > 2)) \/ (¬(Sp.Zcn s1 x1 t1 y1 = true))) -> rFew1_at (s1) (t1) (f1) (g1) (s2) (t2) (f2) (g2) (s3) (t3) (f3) (g3) (x1) (y1) (x2) (y2) (x3) (y3) (Zaf dq))) :
 rFew0_at s1 t1 f1 g1 s2 t2 f2 g2 s3 t3 f3 g3 x1 y1 x2 y2 x3 y3 (Zaf dq):=by
 unfold rFew0_at
 have w1:(us x1).length = x1.length:=List.length_map ..
 have w2:(us y1).length = y1.length:=List.length_map ..
 have i3:((bif decide ((↑(us x1).length:Int) > 2) then true else decide ((↑(us y1).length:Int) > 2)) == false && true && true) = true ↔ (¬(((↑x1.length:Int) > 2) \/ ((↑y1.length:Int) > 2))):=(by (try rw [w1]);(try rw [w2]);all_goals exact (i_at (i_at (i_bf (ZaU Zab Zab)))))
 obtain ⟨k4,H⟩:=H
 have i5:(bif bif decide ((↑(us x1).length:Int) > 2) then true else decide ((↑(us y1).length:Int) > 2) then true else !Sp.Zcn s1 x1 t1 y1) = true ↔ ((((↑x1.length:Int) > 2) \/ ((↑y1.length:Int) > 2)) \/ (¬(Sp.Zcn s1 x1 t1 y1 = true))):=(by (try rw [w1]);(try rw [w2]);all_goals exact (ZaU (ZaU Zab Zab) (ZaF (Zav _))))
 refine Zae (G:=Zad kp51 [(4,23,.call (vb (Sp.Zcn s1 x1 t1 y1)) none)] []) 9 [true] ⟨(atC (cd Tryz.f51) [1,0,1,0,0,1,0,0,1]),[(0,AV.vec true 4 [(zNmG3 s1 f1 x1 t1 g1 y1),ag [vb s2,AV.vec f2 1 (us x2),vb t2,AV.vec g2 1 (us y2)],ag [vb s3,AV.vec f3 1 (us x3),vb t3,AV.vec g3 1 (us y3)]]),(3,vi 0),(35,vb (bif bif decide ((↑(us x1).length:Int) > 2) then true else decide ((↑(us y1).length:Int) > 2) then true else !Sp.Zcn s1 x1 t1 y1))],[],[true == true,true,true,!(decide ((↑(us x1).length:Int) > 2) == false && true) || true,!(decide ((↑(us x1).length:Int) > 2) == false && true) || true,!((bif decide ((↑(us x1).length:Int) > 2) then true else decide ((↑(us y1).length:Int) > 2)) == false && true) || true,!((bif decide ((↑(us x1).length:Int) > 2) then true else decide ((↑(us y1).length:Int) > 2)) == false && true) || true],[],[⟨(bif decide ((↑(us x1).length:Int) > 2) then true else decide ((↑(us y1).length:Int) > 2)) == false && true && true,false,27,[(zNmG3 s1 f1 x1 t1 g1 y1)],[],vb (Sp.Zcn s1 x1 t1 y1),[]⟩]⟩ (by kernel_rfl) (bc rfl (bc rfl (bc rfl (bc (Bool.or_true _) (bc (Bool.or_true _) (bc (Bool.or_true _) (bc (Bool.or_true _) b0))))))) q0 (cc (fun hc => ((@ev27 (s1) (f1) (t1) (g1) (x1) (y1) (k4 (i3.1 hc))):Ev M1 (Conf.pure 27 [(zNmG3 s1 f1 x1 t1 g1 y1)]) (vb (Sp.Zcn s1 x1 t1 y1)) [])) c0) ?_
 rcases xq H with ⟨d6,H⟩|⟨d6,H⟩
 ·exact Zap (G:=Zad kp51 [] []) 1000 [true] (vb false) (by kernel_rfl) (bc (Zaq (i5.2 d6)) b0) q0 c0 H
 ·exact Zae (G:=Zad kp51 [] []) 1000 [false] ⟨(atC (cd Tryz.f51) [1,0,1,0,0]),[(0,AV.vec true 4 [(zNmG3 s1 f1 x1 t1 g1 y1),ag [vb s2,AV.vec f2 1 (us x2),vb t2,AV.vec g2 1 (us y2)],ag [vb s3,AV.vec f3 1 (us x3),vb t3,AV.vec g3 1 (us y3)]]),(3,vi 1)],[],_,[],_⟩ (by kernel_rfl) (bc (Zao (fun h => d6 (i5.1 h))) b0) q0 c0 (H)
noncomputable abbrev zNmG4 (s2:Bool) (f2:Bool) (x2:List Int) (t2:Bool) (g2:Bool) (y2:List Int):=ag [vb s2,AV.vec f2 1 (us x2),vb t2,AV.vec g2 1 (us y2)]
theorem rFew1 (s1 t1 f1 g1 s2 t2 f2 g2 s3 t3 f3 g3:Bool) (x1 y1 x2 y2 x3 y3:List Int)  (dq:AV) (H :
  ((¬(((↑x2.length:Int) > 2) \/ ((↑y2.length:Int) > 2))) -> (Sp.okA x2 y2)) /\
  (((((↑x2.length:Int) > 2) \/ ((↑y2.length:Int) > 2)) \/ (¬(Sp.Zcn s2 x2 t2 y2 = true))) -> vb false = dq) /\
  (¬((((↑x2.length:Int) > 2) \/ ((↑y2.length:Int) > 2)) \/ (¬(Sp.Zcn s2 x2 t2 y2 = true))) -> rFew2_at (s1) (t1) (f1) (g1) (s2) (t2) (f2) (g2) (s3) (t3) (f3) (g3) (x1) (y1) (x2) (y2) (x3) (y3) (Zaf dq))) :
 rFew1_at s1 t1 f1 g1 s2 t2 f2 g2 s3 t3 f3 g3 x1 y1 x2 y2 x3 y3 (Zaf dq):=by
 unfold rFew1_at
 have w1:(us x2).length = x2.length:=List.length_map ..
 have w2:(us y2).length = y2.length:=List.length_map ..
 have i3:((bif decide ((↑(us x2).length:Int) > 2) then true else decide ((↑(us y2).length:Int) > 2)) == false && true && true) = true ↔ (¬(((↑x2.length:Int) > 2) \/ ((↑y2.length:Int) > 2))):=(by (try rw [w1]);(try rw [w2]);all_goals exact (i_at (i_at (i_bf (ZaU Zab Zab)))))
 obtain ⟨k4,H⟩:=H
 have i5:(bif bif decide ((↑(us x2).length:Int) > 2) then true else decide ((↑(us y2).length:Int) > 2) then true else !Sp.Zcn s2 x2 t2 y2) = true ↔ ((((↑x2.length:Int) > 2) \/ ((↑y2.length:Int) > 2)) \/ (¬(Sp.Zcn s2 x2 t2 y2 = true))):=(by (try rw [w1]);(try rw [w2]);all_goals exact (ZaU (ZaU Zab Zab) (ZaF (Zav _))))
 refine Zae (G:=Zad kp51 [(4,23,.call (vb (Sp.Zcn s2 x2 t2 y2)) none)] []) 9 [true] ⟨(atC (cd Tryz.f51) [1,0,1,0,0,1,0,0,1]),[(0,AV.vec true 4 [ag [vb s1,AV.vec f1 1 (us x1),vb t1,AV.vec g1 1 (us y1)],(zNmG4 s2 f2 x2 t2 g2 y2),ag [vb s3,AV.vec f3 1 (us x3),vb t3,AV.vec g3 1 (us y3)]]),(3,vi 1),(35,vb (bif bif decide ((↑(us x2).length:Int) > 2) then true else decide ((↑(us y2).length:Int) > 2) then true else !Sp.Zcn s2 x2 t2 y2))],[],[true == true,true,true,!(decide ((↑(us x2).length:Int) > 2) == false && true) || true,!(decide ((↑(us x2).length:Int) > 2) == false && true) || true,!((bif decide ((↑(us x2).length:Int) > 2) then true else decide ((↑(us y2).length:Int) > 2)) == false && true) || true,!((bif decide ((↑(us x2).length:Int) > 2) then true else decide ((↑(us y2).length:Int) > 2)) == false && true) || true],[],[⟨(bif decide ((↑(us x2).length:Int) > 2) then true else decide ((↑(us y2).length:Int) > 2)) == false && true && true,false,27,[(zNmG4 s2 f2 x2 t2 g2 y2)],[],vb (Sp.Zcn s2 x2 t2 y2),[]⟩]⟩ (by kernel_rfl) (bc rfl (bc rfl (bc rfl (bc (Bool.or_true _) (bc (Bool.or_true _) (bc (Bool.or_true _) (bc (Bool.or_true _) b0))))))) q0 (cc (fun hc => ((@ev27 (s2) (f2) (t2) (g2) (x2) (y2) (k4 (i3.1 hc))):Ev M1 (Conf.pure 27 [(zNmG4 s2 f2 x2 t2 g2 y2)]) (vb (Sp.Zcn s2 x2 t2 y2)) [])) c0) ?_
 rcases xq H with ⟨d6,H⟩|⟨d6,H⟩
 ·exact Zap (G:=Zad kp51 [] []) 1000 [true] (vb false) (by kernel_rfl) (bc (Zaq (i5.2 d6)) b0) q0 c0 H
 ·exact Zae (G:=Zad kp51 [] []) 1000 [false] ⟨(atC (cd Tryz.f51) [1,0,1,0,0]),[(0,AV.vec true 4 [ag [vb s1,AV.vec f1 1 (us x1),vb t1,AV.vec g1 1 (us y1)],(zNmG4 s2 f2 x2 t2 g2 y2),ag [vb s3,AV.vec f3 1 (us x3),vb t3,AV.vec g3 1 (us y3)]]),(3,vi 2)],[],_,[],_⟩ (by kernel_rfl) (bc (Zao (fun h => d6 (i5.1 h))) b0) q0 c0 (H)
noncomputable abbrev zNmG5 (s3:Bool) (f3:Bool) (x3:List Int) (t3:Bool) (g3:Bool) (y3:List Int):=ag [vb s3,AV.vec f3 1 (us x3),vb t3,AV.vec g3 1 (us y3)]
theorem rFew2 (s1 t1 f1 g1 s2 t2 f2 g2 s3 t3 f3 g3:Bool) (x1 y1 x2 y2 x3 y3:List Int)  (dq:AV) (H :
  ((¬(((↑x3.length:Int) > 2) \/ ((↑y3.length:Int) > 2))) -> (Sp.okA x3 y3)) /\
  (((((↑x3.length:Int) > 2) \/ ((↑y3.length:Int) > 2)) \/ (¬(Sp.Zcn s3 x3 t3 y3 = true))) -> vb false = dq) /\
  (¬((((↑x3.length:Int) > 2) \/ ((↑y3.length:Int) > 2)) \/ (¬(Sp.Zcn s3 x3 t3 y3 = true))) -> rFew3_at (s1) (t1) (f1) (g1) (s2) (t2) (f2) (g2) (s3) (t3) (f3) (g3) (x1) (y1) (x2) (y2) (x3) (y3) (Zaf dq))) :
 rFew2_at s1 t1 f1 g1 s2 t2 f2 g2 s3 t3 f3 g3 x1 y1 x2 y2 x3 y3 (Zaf dq):=by
 unfold rFew2_at
 have w1:(us x3).length = x3.length:=List.length_map ..
 have w2:(us y3).length = y3.length:=List.length_map ..
 have i3:((bif decide ((↑(us x3).length:Int) > 2) then true else decide ((↑(us y3).length:Int) > 2)) == false && true && true) = true ↔ (¬(((↑x3.length:Int) > 2) \/ ((↑y3.length:Int) > 2))):=(by (try rw [w1]);(try rw [w2]);all_goals exact (i_at (i_at (i_bf (ZaU Zab Zab)))))
 obtain ⟨k4,H⟩:=H
 have i5:(bif bif decide ((↑(us x3).length:Int) > 2) then true else decide ((↑(us y3).length:Int) > 2) then true else !Sp.Zcn s3 x3 t3 y3) = true ↔ ((((↑x3.length:Int) > 2) \/ ((↑y3.length:Int) > 2)) \/ (¬(Sp.Zcn s3 x3 t3 y3 = true))):=(by (try rw [w1]);(try rw [w2]);all_goals exact (ZaU (ZaU Zab Zab) (ZaF (Zav _))))
 refine Zae (G:=Zad kp51 [(4,23,.call (vb (Sp.Zcn s3 x3 t3 y3)) none)] []) 9 [true] ⟨(atC (cd Tryz.f51) [1,0,1,0,0,1,0,0,1]),[(0,AV.vec true 4 [ag [vb s1,AV.vec f1 1 (us x1),vb t1,AV.vec g1 1 (us y1)],ag [vb s2,AV.vec f2 1 (us x2),vb t2,AV.vec g2 1 (us y2)],(zNmG5 s3 f3 x3 t3 g3 y3)]),(3,vi 2),(35,vb (bif bif decide ((↑(us x3).length:Int) > 2) then true else decide ((↑(us y3).length:Int) > 2) then true else !Sp.Zcn s3 x3 t3 y3))],[],[true == true,true,true,!(decide ((↑(us x3).length:Int) > 2) == false && true) || true,!(decide ((↑(us x3).length:Int) > 2) == false && true) || true,!((bif decide ((↑(us x3).length:Int) > 2) then true else decide ((↑(us y3).length:Int) > 2)) == false && true) || true,!((bif decide ((↑(us x3).length:Int) > 2) then true else decide ((↑(us y3).length:Int) > 2)) == false && true) || true],[],[⟨(bif decide ((↑(us x3).length:Int) > 2) then true else decide ((↑(us y3).length:Int) > 2)) == false && true && true,false,27,[(zNmG5 s3 f3 x3 t3 g3 y3)],[],vb (Sp.Zcn s3 x3 t3 y3),[]⟩]⟩ (by kernel_rfl) (bc rfl (bc rfl (bc rfl (bc (Bool.or_true _) (bc (Bool.or_true _) (bc (Bool.or_true _) (bc (Bool.or_true _) b0))))))) q0 (cc (fun hc => ((@ev27 (s3) (f3) (t3) (g3) (x3) (y3) (k4 (i3.1 hc))):Ev M1 (Conf.pure 27 [(zNmG5 s3 f3 x3 t3 g3 y3)]) (vb (Sp.Zcn s3 x3 t3 y3)) [])) c0) ?_
 rcases xq H with ⟨d6,H⟩|⟨d6,H⟩
 ·exact Zap (G:=Zad kp51 [] []) 1000 [true] (vb false) (by kernel_rfl) (bc (Zaq (i5.2 d6)) b0) q0 c0 H
 ·exact Zae (G:=Zad kp51 [] []) 1000 [false] ⟨(atC (cd Tryz.f51) [1,0,1,0,0]),[(0,AV.vec true 4 [ag [vb s1,AV.vec f1 1 (us x1),vb t1,AV.vec g1 1 (us y1)],ag [vb s2,AV.vec f2 1 (us x2),vb t2,AV.vec g2 1 (us y2)],(zNmG5 s3 f3 x3 t3 g3 y3)]),(3,vi 3)],[],_,[],_⟩ (by kernel_rfl) (bc (Zao (fun h => d6 (i5.1 h))) b0) q0 c0 (H)
theorem rFew3 (s1 t1 f1 g1 s2 t2 f2 g2 s3 t3 f3 g3:Bool) (x1 y1 x2 y2 x3 y3:List Int)  (dq:AV) (H :
  vb true = dq) :
 rFew3_at s1 t1 f1 g1 s2 t2 f2 g2 s3 t3 f3 g3 x1 y1 x2 y2 x3 y3 (Zaf dq):=by
 unfold rFew3_at
 exact Zap (G:=Zad kp51 [] []) 1000 [false] (vb true) (by kernel_rfl) (bc rfl b0) q0 c0 H
end Go.Av

namespace Go.Av
open Go.Proofs
theorem eqL_cons (p q:Pnt) (l m:List Pnt):Sp.eqL (p::l) (q::m)=bif decide (Sp.Zew p q=0) then Sp.eqL l m else false:=rfl
theorem eqL_len:∀ {l m:List Pnt},l.length ≠ m.length -> Sp.eqL l m = false
 | [],[],h => absurd rfl h
 | [],q :: m,_ => rfl
 | p :: l,[],_ => rfl
 | p :: l,q :: m,h => by
  rw [eqL_cons,eqL_len (l:=l) (m:=m) (by simpa using h)]
  cases decide (Sp.Zew p q = 0) <;> rfl
theorem same_loop {u v:Bool} {l m:List Pnt} {dq:AV} (h:Sp.okPL l) (g:Sp.okPL m) (e:l.length = m.length) (k:Nat):∀ (i:Nat),i + k = l.length -> AV.bool (Sp.eqL (l.drop i) (m.drop i)) = dq -> Zc9 u v l m i (Zaf dq):=by
 have hl:=h.2
 induction k with
 | zero =>
  intro i e2 hq
  refine rSame9H _ _ _ _ _ _ ⟨fun x => by omega,fun _ => ?_⟩
  rw [List.drop_eq_nil_of_le (by omega),List.drop_eq_nil_of_le (by omega)] at hq
  exact hq
 | succ k ih =>
  intro i e2 hq
  rw [ZcL (d:=l) (i:=i) (by omega),ZcL (d:=m) (i:=i) (by omega),eqL_cons] at hq
  have p1:=h.1 _ (ZfQ (d:=l) (i:=i) (by omega))
  have p2:=g.1 _ (ZfQ (d:=m) (i:=i) (by omega))
  have nx:=ih (i + 1) (by omega)
  refine rSame9H _ _ _ _ _ _ ⟨fun x => ?_,fun x => by omega⟩
  rw [Int.toNat_natCast,show (i:Int) + 1 = ((i + 1:Nat):Int) by omega]
  refine ⟨⟨p1,p2⟩,by omega,by omega,by omega,fun y => ?_,fun y => ⟨by omega,nx ?_⟩⟩
  ·rw [decide_eq_false y] at hq;exact hq
  ·rw [decide_eq_true (Classical.not_not.1 y)] at hq;exact hq
theorem ev49 (u v:Bool) (l m:List Pnt) (h:Sp.okPL l /\ Sp.okPL m):Ev M1 (.pure 49 [.vec u 20 (l.map Pnt.a),.vec v 20 (m.map Pnt.a)]) (.bool (Sp.eqL l m)) []:=by
 refine call49 (rSame9 _ _ _ _ _ ⟨fun k => ?_,fun k => ?_⟩)
 ·rw [eqL_len (by omega)]
 ·exact same_loop h.1 h.2 (by omega) l.length 0 (by omega) rfl
theorem ev46 (a:Int) (h:Sp.inI a):Ev M1 (.pure 46 [.int .i64 a]) (ratF (Sp.qi a)) []:=
 call46 (wNum _ _ ⟨h,.refl _⟩)
theorem ev93 (a b:Int) (h:Sp.inI a /\ Sp.inI b):Ev M1 (.pure 93 [.int .i64 a,.int .i64 b]) (vecF (Sp.qi a) (Sp.qi b)) []:=
 call93 (rVec7 _ _ _ ⟨h.1,h.2,.refl _⟩)
noncomputable def Sp.Zdu (s1 t1 s2 t2 s3 t3:Bool) (x1 y1 x2 y2 x3 y3:List Int):Bool:=Zef 2 s1 x1 t1 y1&&Zef 2 s2 x2 t2 y2&&Zef 2 s3 x3 t3 y3
def Sp.okRw (x1 y1 x2 y2 x3 y3:List Int):Prop:=((∀ v ∈ x1,0<=v) /\ ∀ v ∈ y1,0<=v)/\((∀ v ∈ x2,0<=v) /\ ∀ v ∈ y2,0<=v)/\(∀ v ∈ x3,0<=v) /\ ∀ v ∈ y3,0<=v
theorem small_y {s t:Bool} {x y:List Int} (h:¬((((x.length:Int) > 2) \/ ((y.length:Int) > 2)) \/ (¬(Sp.Zcn s x t y = true)))):Sp.Zef 2 s x t y = true:=by
 unfold Sp.Zef
 rw [decide_eq_true (by omega),decide_eq_true (by omega),cond_true,cond_true]
 exact Classical.not_not.1 fun k => h (.inr k)
theorem small_n {s t:Bool} {x y:List Int} (h:(((x.length:Int) > 2) \/ ((y.length:Int) > 2)) \/ (¬(Sp.Zcn s x t y = true))):Sp.Zef 2 s x t y = false:=by
 rcases Bool.eq_false_or_eq_true (Sp.Zef 2 s x t y) with k | k
 ·have:=Zhp.1 k
  rcases h with h | h
  ·omega
  ·exact absurd (ZeA.2 this.2.2) h
 ·exact k
theorem Zf7 {x y:List Int} (h:(∀ v ∈ x,0<=v) /\ ∀ v ∈ y,0<=v) (k:¬(((x.length:Int)>2)\/((y.length:Int)>2))):Sp.okA x y:=⟨⟨by omega,h.1⟩,⟨by omega,h.2⟩⟩
theorem ev51 (s1 t1 f1 g1 s2 t2 f2 g2 s3 t3 f3 g3:Bool) (x1 y1 x2 y2 x3 y3:List Int) (h:Sp.okRw x1 y1 x2 y2 x3 y3):Ev M1 (.pure 51 [.vec true 4 [.agg [.bool s1,.vec f1 1 (x1.map (.int .u32)),.bool t1,.vec g1 1 (y1.map (.int .u32))],.agg [.bool s2,.vec f2 1 (x2.map (.int .u32)),.bool t2,.vec g2 1 (y2.map (.int .u32))],.agg [.bool s3,.vec f3 1 (x3.map (.int .u32)),.bool t3,.vec g3 1 (y3.map (.int .u32))]]]) (.bool (Sp.Zdu s1 t1 s2 t2 s3 t3 x1 y1 x2 y2 x3 y3)) []:=by
 obtain ⟨h1,h2,h3⟩:=h
 unfold Sp.Zdu
 refine call51 (rFew _ _ _ _ _ _ _ _ _ _ _ _ _ _ _ _ _ _ _ (rFew0 _ _ _ _ _ _ _ _ _ _ _ _ _ _ _ _ _ _ _ ⟨Zf7 h1,fun k => ?_,fun k1 => rFew1 _ _ _ _ _ _ _ _ _ _ _ _ _ _ _ _ _ _ _ ⟨Zf7 h2,fun k => ?_,fun k2 => rFew2 _ _ _ _ _ _ _ _ _ _ _ _ _ _ _ _ _ _ _ ⟨Zf7 h3,fun k => ?_,fun k3 => rFew3 _ _ _ _ _ _ _ _ _ _ _ _ _ _ _ _ _ _ _ ?_⟩⟩⟩))
 ·rw [small_n k];rfl
 ·rw [small_n k,Bool.and_false];rfl
 ·rw [small_n k,Bool.and_false]
 ·rw [small_y k1,small_y k2,small_y k3];rfl
end Go.Av

namespace Go.Av
open Go.Proofs
set_option maxRecDepth 100000
def fi12:Fi:=⟨23,[.tmp 2]⟩
def kp12:List (Nat × List Nat):=[(0,[1]),(1,[2])]
def fi16:Fi:=⟨17,[.tmp 2]⟩
def kp16:List (Nat × List Nat):=[(0,[1]),(1,[2])]
def fi47:Fi:=⟨14,[.cell 6 28]⟩
def kp47:List (Nat × List Nat):=[(0,[0,1,2,6]),(1,[6])]
def fi48:Fi:=⟨14,[.cell 6 38]⟩
def kp48:List (Nat × List Nat):=[(0,[0,1,2,6]),(1,[6])]
def fi50:Fi:=⟨9,[.cell 4 56]⟩
def kp50:List (Nat × List Nat):=[(0,[0,1,4]),(1,[4])]
def wLine_at (a b c:Int) (Q:AV->Heap->Prop):Prop:=Wp M1 (.run fi47 (atC (cd Tryz.f47) []) [(0,.int .i64 a),(1,.int .i64 b),(2,.int .i64 c)] []) Q
def wCirc_at (a b c:Int) (Q:AV->Heap->Prop):Prop:=Wp M1 (.run fi48 (atC (cd Tryz.f48) []) [(0,.int .i64 a),(1,.int .i64 b),(2,.int .i64 c)] []) Q
def wAt_at (a b:Int) (Q:AV->Heap->Prop):Prop:=Wp M1 (.run fi50 (atC (cd Tryz.f50) []) [(0,.int .i64 a),(1,.int .i64 b)] []) Q
def rLine_at (f1 f2 f3 f4 f5 f6:Bool) (a b c:Rat) (Q:AV->Heap->Prop):Prop:=Wp M1 (.run fi12 (atC (cd Tryz.f12) []) [(0,ZaE f1 f2 f3 f4 f5 f6 a b c)] []) Q
def rLineR_at (s1 t1 f1 g1 s2 t2 f2 g2 s3 t3 f3 g3:Bool) (x1 y1 x2 y2 x3 y3:List Int) (Q:AV->Heap->Prop):Prop:=Wp M1 (.run fi12 (atC (cd Tryz.f12) []) [(0,.agg [.bool s1,.vec f1 1 (x1.map (.int .u32)),.bool t1,.vec g1 1 (y1.map (.int .u32)),.bool s2,.vec f2 1 (x2.map (.int .u32)),.bool t2,.vec g2 1 (y2.map (.int .u32)),.bool s3,.vec f3 1 (x3.map (.int .u32)),.bool t3,.vec g3 1 (y3.map (.int .u32))])] []) Q
def rCirc_at (f1 f2 f3 f4 f5 f6:Bool) (a b c:Rat) (Q:AV->Heap->Prop):Prop:=Wp M1 (.run fi16 (atC (cd Tryz.f16) []) [(0,ZaE f1 f2 f3 f4 f5 f6 a b c)] []) Q
def rCircR_at (s1 t1 f1 g1 s2 t2 f2 g2 s3 t3 f3 g3:Bool) (x1 y1 x2 y2 x3 y3:List Int) (Q:AV->Heap->Prop):Prop:=Wp M1 (.run fi16 (atC (cd Tryz.f16) []) [(0,.agg [.bool s1,.vec f1 1 (x1.map (.int .u32)),.bool t1,.vec g1 1 (y1.map (.int .u32)),.bool s2,.vec f2 1 (x2.map (.int .u32)),.bool t2,.vec g2 1 (y2.map (.int .u32)),.bool s3,.vec f3 1 (x3.map (.int .u32)),.bool t3,.vec g3 1 (y3.map (.int .u32))])] []) Q
theorem call12 {args:List AV} {d:AV} (h:wc M1 fi12 Tryz.f12 args d):Ev M1 (.pure 12 args) d []:=pcl _ _ (by kernel_rfl) h
theorem call16 {args:List AV} {d:AV} (h:wc M1 fi16 Tryz.f16 args d):Ev M1 (.pure 16 args) d []:=pcl _ _ (by kernel_rfl) h
theorem call47 {args:List AV} {d:AV} (h:wc M1 fi47 Tryz.f47 args d):Ev M1 (.pure 47 args) d []:=pcl _ _ (by kernel_rfl) h
theorem call48 {args:List AV} {d:AV} (h:wc M1 fi48 Tryz.f48 args d):Ev M1 (.pure 48 args) d []:=pcl _ _ (by kernel_rfl) h
theorem call50 {args:List AV} {d:AV} (h:wc M1 fi50 Tryz.f50 args d):Ev M1 (.pure 50 args) d []:=pcl _ _ (by kernel_rfl) h
theorem wLine (a b c:Int)  (dq:AV) (H :
  (Sp.inI a) /\
  (Sp.inI b) /\
  (Sp.inI c) /\
  Weak (ZaD (Sp.qi a) (Sp.qi b) (Sp.qi c)) dq) :
 wLine_at a b c (Zaf dq):=by
 unfold wLine_at
 obtain ⟨k1,k2,k3,H⟩:=H
 exact Zag (G:=Zad kp47 [(1,1,.call (ratF (Sp.qi a)) none),(1,3,.call (ratF (Sp.qi b)) none),(1,5,.call (ratF (Sp.qi c)) none)] []) 1000 [] (ZaD (Sp.qi a) (Sp.qi b) (Sp.qi c)) (by kernel_rfl) (bc rfl b0) q0 (ce (@ev46 (a) k1) (ce (@ev46 (b) k2) (ce (@ev46 (c) k3) c0))) H
theorem wCirc (a b c:Int)  (dq:AV) (H :
  (Sp.inI a) /\
  (Sp.inI b) /\
  (Sp.inI c) /\
  Weak (ZaD (Sp.qi a) (Sp.qi b) (Sp.qi c)) dq) :
 wCirc_at a b c (Zaf dq):=by
 unfold wCirc_at
 obtain ⟨k1,k2,k3,H⟩:=H
 exact Zag (G:=Zad kp48 [(1,1,.call (ratF (Sp.qi a)) none),(1,3,.call (ratF (Sp.qi b)) none),(1,5,.call (ratF (Sp.qi c)) none)] []) 1000 [] (ZaD (Sp.qi a) (Sp.qi b) (Sp.qi c)) (by kernel_rfl) (bc rfl b0) q0 (ce (@ev46 (a) k1) (ce (@ev46 (b) k2) (ce (@ev46 (c) k3) c0))) H
noncomputable abbrev zNmH1 (a:Int) (b:Int):=(pntF (Sp.qi a) (Sp.qi 0) (Sp.qi b) (Sp.qi 0) (Sp.qi 0))
theorem wAt (a b:Int)  (dq:AV) (H :
  (Sp.inI a /\ Sp.inI b) /\
  Weak ((pntF (Sp.qi a) (Sp.qi 0) (Sp.qi b) (Sp.qi 0) (Sp.qi 0))) dq) :
 wAt_at a b (Zaf dq):=by
 unfold wAt_at
 obtain ⟨k1,H⟩:=H
 exact Zag (G:=Zad kp50 [(1,2,.call ((vecF (Sp.qi a) (Sp.qi b))) none),(1,3,.call (zNmH1 a b) none)] []) 1000 [] (zNmH1 a b) (by kernel_rfl) (bc rfl b0) q0 (ce (@ev93 (a) (b) k1) (ce (@ev61 (false) (false) (false) (false) (Sp.qi a) (Sp.qi b)) c0)) H
noncomputable abbrev zNmH2 (a:Rat) (b:Rat) (c:Rat):=Sp.Zdu (Sp.Zaa a.num) (Sp.Zaa (↑a.den:Int)) (Sp.Zaa b.num) (Sp.Zaa (↑b.den:Int)) (Sp.Zaa c.num) (Sp.Zaa (↑c.den:Int)) (Sp.Zac a.num) (Sp.Zac (↑a.den:Int)) (Sp.Zac b.num) (Sp.Zac (↑b.den:Int)) (Sp.Zac c.num) (Sp.Zac (↑c.den:Int))==true&&true
noncomputable abbrev zNmH3 (a:Rat) (b:Rat) (c:Rat):=Sp.Zdu (Sp.Zaa a.num) (Sp.Zaa (↑a.den:Int)) (Sp.Zaa b.num) (Sp.Zaa (↑b.den:Int)) (Sp.Zaa c.num) (Sp.Zaa (↑c.den:Int)) (Sp.Zac a.num) (Sp.Zac (↑a.den:Int)) (Sp.Zac b.num) (Sp.Zac (↑b.den:Int)) (Sp.Zac c.num) (Sp.Zac (↑c.den:Int))
theorem rLine (f1 f2 f3 f4 f5 f6:Bool) (a b c:Rat)  (dq:AV) (H :
  (Sp.okRw (Sp.Zac a.num) (Sp.Zac (↑a.den:Int)) (Sp.Zac b.num) (Sp.Zac (↑b.den:Int)) (Sp.Zac c.num) (Sp.Zac (↑c.den:Int))) /\
  (vb (bif Sp.Zdu (Sp.Zaa a.num) (Sp.Zaa (↑a.den:Int)) (Sp.Zaa b.num) (Sp.Zaa (↑b.den:Int)) (Sp.Zaa c.num) (Sp.Zaa (↑c.den:Int)) (Sp.Zac a.num) (Sp.Zac (↑a.den:Int)) (Sp.Zac b.num) (Sp.Zac (↑b.den:Int)) (Sp.Zac c.num) (Sp.Zac (↑c.den:Int)) then bif Sp.sgnI a.num != 0 then true else Sp.sgnI b.num != 0 else false)) = dq) :
 rLine_at f1 f2 f3 f4 f5 f6 a b c (Zaf dq):=by
 unfold rLine_at
 obtain ⟨k1,H⟩:=H
 exact Zap (G:=Zad kp12 [(1,7,.call (vb (zNmH3 a b c)) none),(1,11,.call (vi (Sp.sgnI a.num)) none),(1,16,.call (vi (Sp.sgnI b.num)) none)] []) 1000 [] (asm:=[true,true,true,!(zNmH2 a b c) || true,!((Sp.sgnI a.num != 0) == false && (zNmH2 a b c)) || true]) (calls:=[⟨true,false,51,[AV.vec true 4 [ratA f1 f2 a,ratA f3 f4 b,ratA f5 f6 c]],[],vb (zNmH3 a b c),[]⟩,⟨Sp.Zdu (Sp.Zaa a.num) (Sp.Zaa (↑a.den:Int)) (Sp.Zaa b.num) (Sp.Zaa (↑b.den:Int)) (Sp.Zaa c.num) (Sp.Zaa (↑c.den:Int)) (Sp.Zac a.num) (Sp.Zac (↑a.den:Int)) (Sp.Zac b.num) (Sp.Zac (↑b.den:Int)) (Sp.Zac c.num) (Sp.Zac (↑c.den:Int)) == true && true && true,false,20,[ratA f1 f2 a],[],vi (Sp.sgnI a.num),[]⟩,⟨(Sp.sgnI a.num != 0) == false && (zNmH2 a b c) && true,false,20,[ratA f3 f4 b],[],vi (Sp.sgnI b.num),[]⟩]) (vb (bif Sp.Zdu (Sp.Zaa a.num) (Sp.Zaa (↑a.den:Int)) (Sp.Zaa b.num) (Sp.Zaa (↑b.den:Int)) (Sp.Zaa c.num) (Sp.Zaa (↑c.den:Int)) (Sp.Zac a.num) (Sp.Zac (↑a.den:Int)) (Sp.Zac b.num) (Sp.Zac (↑b.den:Int)) (Sp.Zac c.num) (Sp.Zac (↑c.den:Int)) then bif Sp.sgnI a.num != 0 then true else Sp.sgnI b.num != 0 else false)) (by kernel_rfl) (bc rfl (bc rfl (bc rfl (bc (Bool.or_true _) (bc (Bool.or_true _) b0))))) q0 (cc (fun _ => (@ev51 (Sp.Zaa a.num) (Sp.Zaa (↑a.den:Int)) (f1) (f2) (Sp.Zaa b.num) (Sp.Zaa (↑b.den:Int)) (f3) (f4) (Sp.Zaa c.num) (Sp.Zaa (↑c.den:Int)) (f5) (f6) (Sp.Zac a.num) (Sp.Zac (↑a.den:Int)) (Sp.Zac b.num) (Sp.Zac (↑b.den:Int)) (Sp.Zac c.num) (Sp.Zac (↑c.den:Int)) k1)) (cc (fun hc => ((@ev20 (f1) (f2) (a.num) ((↑a.den:Int))):Ev M1 (Conf.pure 20 [ratA f1 f2 a]) (vi (Sp.sgnI a.num)) [])) (cc (fun hc => ((@ev20 (f3) (f4) (b.num) ((↑b.den:Int))):Ev M1 (Conf.pure 20 [ratA f3 f4 b]) (vi (Sp.sgnI b.num)) [])) c0))) H
noncomputable abbrev zNmH4 (s1:Bool) (f1:Bool) (x1:List Int) (t1:Bool) (g1:Bool) (y1:List Int):=ag [vb s1,AV.vec f1 1 (us x1),vb t1,AV.vec g1 1 (us y1)]
noncomputable abbrev zNmH5 (s2:Bool) (f2:Bool) (x2:List Int) (t2:Bool) (g2:Bool) (y2:List Int):=ag [vb s2,AV.vec f2 1 (us x2),vb t2,AV.vec g2 1 (us y2)]
theorem rLineR (s1 t1 f1 g1 s2 t2 f2 g2 s3 t3 f3 g3:Bool) (x1 y1 x2 y2 x3 y3:List Int)  (dq:AV) (H :
  (Sp.okRw x1 y1 x2 y2 x3 y3) /\
  ∃ (n1:Int),
  ((Sp.Zdu s1 t1 s2 t2 s3 t3 x1 y1 x2 y2 x3 y3 = true) -> (Ev M1 (Conf.pure 20 [ag [vb s1,AV.vec f1 1 (us x1),vb t1,AV.vec g1 1 (us y1)]]) (vi n1) [])) /\
  ∃ (n2:Int),
  (((¬(¬n1 = 0)) /\ (Sp.Zdu s1 t1 s2 t2 s3 t3 x1 y1 x2 y2 x3 y3 = true)) -> (Ev M1 (Conf.pure 20 [ag [vb s2,AV.vec f2 1 (us x2),vb t2,AV.vec g2 1 (us y2)]]) (vi n2) [])) /\
  (vb (bif Sp.Zdu s1 t1 s2 t2 s3 t3 x1 y1 x2 y2 x3 y3 then bif n1 != 0 then true else n2 != 0 else false)) = dq) :
 rLineR_at s1 t1 f1 g1 s2 t2 f2 g2 s3 t3 f3 g3 x1 y1 x2 y2 x3 y3 (Zaf dq):=by
 unfold rLineR_at
 obtain ⟨k1,n1,k3,n2,k5,H⟩:=H
 exact Zap (G:=Zad kp12 [(1,7,.call (vb (Sp.Zdu s1 t1 s2 t2 s3 t3 x1 y1 x2 y2 x3 y3)) none),(1,11,.call (vi n1) none),(1,16,.call (vi n2) none)] []) 1000 [] (asm:=[true,true,true,!(Sp.Zdu s1 t1 s2 t2 s3 t3 x1 y1 x2 y2 x3 y3 == true && true) || true,!((n1 != 0) == false && (Sp.Zdu s1 t1 s2 t2 s3 t3 x1 y1 x2 y2 x3 y3 == true && true)) || true]) (calls:=[⟨true,false,51,[AV.vec true 4 [(zNmH4 s1 f1 x1 t1 g1 y1),(zNmH5 s2 f2 x2 t2 g2 y2),ag [vb s3,AV.vec f3 1 (us x3),vb t3,AV.vec g3 1 (us y3)]]],[],vb (Sp.Zdu s1 t1 s2 t2 s3 t3 x1 y1 x2 y2 x3 y3),[]⟩,⟨Sp.Zdu s1 t1 s2 t2 s3 t3 x1 y1 x2 y2 x3 y3 == true && true && true,false,20,[(zNmH4 s1 f1 x1 t1 g1 y1)],[],vi n1,[]⟩,⟨(n1 != 0) == false && (Sp.Zdu s1 t1 s2 t2 s3 t3 x1 y1 x2 y2 x3 y3 == true && true) && true,false,20,[(zNmH5 s2 f2 x2 t2 g2 y2)],[],vi n2,[]⟩]) (vb (bif Sp.Zdu s1 t1 s2 t2 s3 t3 x1 y1 x2 y2 x3 y3 then bif n1 != 0 then true else n2 != 0 else false)) (by kernel_rfl) (bc rfl (bc rfl (bc rfl (bc (Bool.or_true _) (bc (Bool.or_true _) b0))))) q0 (cc (fun _ => (@ev51 (s1) (t1) (f1) (g1) (s2) (t2) (f2) (g2) (s3) (t3) (f3) (g3) (x1) (y1) (x2) (y2) (x3) (y3) k1)) (cc (fun hc => ((k3 ((i_at (i_at (i_bt (Zav _)))).1 hc)):Ev M1 (Conf.pure 20 [(zNmH4 s1 f1 x1 t1 g1 y1)]) (vi n1) [])) (cc (fun hc => ((k5 ((i_at (i_and (i_bf i_ne) (i_at (i_bt (Zav _))))).1 hc)):Ev M1 (Conf.pure 20 [(zNmH5 s2 f2 x2 t2 g2 y2)]) (vi n2) [])) c0))) H
noncomputable abbrev zNmH6 (a:Rat) (b:Rat) (c:Rat):=Sp.Zdu (Sp.Zaa a.num) (Sp.Zaa (↑a.den:Int)) (Sp.Zaa b.num) (Sp.Zaa (↑b.den:Int)) (Sp.Zaa c.num) (Sp.Zaa (↑c.den:Int)) (Sp.Zac a.num) (Sp.Zac (↑a.den:Int)) (Sp.Zac b.num) (Sp.Zac (↑b.den:Int)) (Sp.Zac c.num) (Sp.Zac (↑c.den:Int))
theorem rCirc (f1 f2 f3 f4 f5 f6:Bool) (a b c:Rat)  (dq:AV) (H :
  (Sp.okRw (Sp.Zac a.num) (Sp.Zac (↑a.den:Int)) (Sp.Zac b.num) (Sp.Zac (↑b.den:Int)) (Sp.Zac c.num) (Sp.Zac (↑c.den:Int))) /\
  vb (bif Sp.Zdu (Sp.Zaa a.num) (Sp.Zaa (↑a.den:Int)) (Sp.Zaa b.num) (Sp.Zaa (↑b.den:Int)) (Sp.Zaa c.num) (Sp.Zaa (↑c.den:Int)) (Sp.Zac a.num) (Sp.Zac (↑a.den:Int)) (Sp.Zac b.num) (Sp.Zac (↑b.den:Int)) (Sp.Zac c.num) (Sp.Zac (↑c.den:Int)) then decide (Sp.sgnI c.num > 0) else false) = dq) :
 rCirc_at f1 f2 f3 f4 f5 f6 a b c (Zaf dq):=by
 unfold rCirc_at
 obtain ⟨k1,H⟩:=H
 exact Zap (G:=Zad kp16 [(1,7,.call (vb (zNmH6 a b c)) none),(1,11,.call (vi (Sp.sgnI c.num)) none)] []) 1000 [] (asm:=[true,true,true,!(Sp.Zdu (Sp.Zaa a.num) (Sp.Zaa (↑a.den:Int)) (Sp.Zaa b.num) (Sp.Zaa (↑b.den:Int)) (Sp.Zaa c.num) (Sp.Zaa (↑c.den:Int)) (Sp.Zac a.num) (Sp.Zac (↑a.den:Int)) (Sp.Zac b.num) (Sp.Zac (↑b.den:Int)) (Sp.Zac c.num) (Sp.Zac (↑c.den:Int)) == true && true) || true]) (calls:=[⟨true,false,51,[AV.vec true 4 [ratA f1 f2 a,ratA f3 f4 b,ratA f5 f6 c]],[],vb (zNmH6 a b c),[]⟩,⟨Sp.Zdu (Sp.Zaa a.num) (Sp.Zaa (↑a.den:Int)) (Sp.Zaa b.num) (Sp.Zaa (↑b.den:Int)) (Sp.Zaa c.num) (Sp.Zaa (↑c.den:Int)) (Sp.Zac a.num) (Sp.Zac (↑a.den:Int)) (Sp.Zac b.num) (Sp.Zac (↑b.den:Int)) (Sp.Zac c.num) (Sp.Zac (↑c.den:Int)) == true && true && true,false,20,[ratA f5 f6 c],[],vi (Sp.sgnI c.num),[]⟩]) (vb (bif Sp.Zdu (Sp.Zaa a.num) (Sp.Zaa (↑a.den:Int)) (Sp.Zaa b.num) (Sp.Zaa (↑b.den:Int)) (Sp.Zaa c.num) (Sp.Zaa (↑c.den:Int)) (Sp.Zac a.num) (Sp.Zac (↑a.den:Int)) (Sp.Zac b.num) (Sp.Zac (↑b.den:Int)) (Sp.Zac c.num) (Sp.Zac (↑c.den:Int)) then decide (Sp.sgnI c.num > 0) else false)) (by kernel_rfl) (bc rfl (bc rfl (bc rfl (bc (Bool.or_true _) b0)))) q0 (cc (fun _ => (@ev51 (Sp.Zaa a.num) (Sp.Zaa (↑a.den:Int)) (f1) (f2) (Sp.Zaa b.num) (Sp.Zaa (↑b.den:Int)) (f3) (f4) (Sp.Zaa c.num) (Sp.Zaa (↑c.den:Int)) (f5) (f6) (Sp.Zac a.num) (Sp.Zac (↑a.den:Int)) (Sp.Zac b.num) (Sp.Zac (↑b.den:Int)) (Sp.Zac c.num) (Sp.Zac (↑c.den:Int)) k1)) (cc (fun hc => ((@ev20 (f5) (f6) (c.num) ((↑c.den:Int))):Ev M1 (Conf.pure 20 [ratA f5 f6 c]) (vi (Sp.sgnI c.num)) [])) c0)) H
noncomputable abbrev zNmH7 (s3:Bool) (f3:Bool) (x3:List Int) (t3:Bool) (g3:Bool) (y3:List Int):=ag [vb s3,AV.vec f3 1 (us x3),vb t3,AV.vec g3 1 (us y3)]
theorem rCircR (s1 t1 f1 g1 s2 t2 f2 g2 s3 t3 f3 g3:Bool) (x1 y1 x2 y2 x3 y3:List Int)  (dq:AV) (H :
  (Sp.okRw x1 y1 x2 y2 x3 y3) /\
  ∃ (n1:Int),
  ((Sp.Zdu s1 t1 s2 t2 s3 t3 x1 y1 x2 y2 x3 y3 = true) -> (Ev M1 (Conf.pure 20 [ag [vb s3,AV.vec f3 1 (us x3),vb t3,AV.vec g3 1 (us y3)]]) (vi n1) [])) /\
  vb (bif Sp.Zdu s1 t1 s2 t2 s3 t3 x1 y1 x2 y2 x3 y3 then decide (n1 > 0) else false) = dq) :
 rCircR_at s1 t1 f1 g1 s2 t2 f2 g2 s3 t3 f3 g3 x1 y1 x2 y2 x3 y3 (Zaf dq):=by
 unfold rCircR_at
 obtain ⟨k1,n1,k3,H⟩:=H
 exact Zap (G:=Zad kp16 [(1,7,.call (vb (Sp.Zdu s1 t1 s2 t2 s3 t3 x1 y1 x2 y2 x3 y3)) none),(1,11,.call (vi n1) none)] []) 1000 [] (asm:=[true,true,true,!(Sp.Zdu s1 t1 s2 t2 s3 t3 x1 y1 x2 y2 x3 y3 == true && true) || true]) (calls:=[⟨true,false,51,[AV.vec true 4 [ag [vb s1,AV.vec f1 1 (us x1),vb t1,AV.vec g1 1 (us y1)],ag [vb s2,AV.vec f2 1 (us x2),vb t2,AV.vec g2 1 (us y2)],(zNmH7 s3 f3 x3 t3 g3 y3)]],[],vb (Sp.Zdu s1 t1 s2 t2 s3 t3 x1 y1 x2 y2 x3 y3),[]⟩,⟨Sp.Zdu s1 t1 s2 t2 s3 t3 x1 y1 x2 y2 x3 y3 == true && true && true,false,20,[(zNmH7 s3 f3 x3 t3 g3 y3)],[],vi n1,[]⟩]) (vb (bif Sp.Zdu s1 t1 s2 t2 s3 t3 x1 y1 x2 y2 x3 y3 then decide (n1 > 0) else false)) (by kernel_rfl) (bc rfl (bc rfl (bc rfl (bc (Bool.or_true _) b0)))) q0 (cc (fun _ => (@ev51 (s1) (t1) (f1) (g1) (s2) (t2) (f2) (g2) (s3) (t3) (f3) (g3) (x1) (y1) (x2) (y2) (x3) (y3) k1)) (cc (fun hc => ((k3 ((i_at (i_at (i_bt (Zav _)))).1 hc)):Ev M1 (Conf.pure 20 [(zNmH7 s3 f3 x3 t3 g3 y3)]) (vi n1) [])) c0)) H
end Go.Av

namespace Go.Av
open Go.Proofs
theorem ev47 (a b c:Int) (h:Sp.inI a /\ Sp.inI b /\ Sp.inI c):Ev M1 (.pure 47 [.int .i64 a,.int .i64 b,.int .i64 c]) (ZaD (Sp.qi a) (Sp.qi b) (Sp.qi c)) []:=
 call47 (wLine _ _ _ _ ⟨h.1,h.2.1,h.2.2,.refl _⟩)
theorem ev48 (a b c:Int) (h:Sp.inI a /\ Sp.inI b /\ Sp.inI c):Ev M1 (.pure 48 [.int .i64 a,.int .i64 b,.int .i64 c]) (ZaD (Sp.qi a) (Sp.qi b) (Sp.qi c)) []:=
 call48 (wCirc _ _ _ _ ⟨h.1,h.2.1,h.2.2,.refl _⟩)
theorem ev50 (a b:Int) (h:Sp.inI a /\ Sp.inI b):Ev M1 (.pure 50 [.int .i64 a,.int .i64 b]) (pntF (Sp.qi a) (Sp.qi 0) (Sp.qi b) (Sp.qi 0) (Sp.qi 0)) []:=
 call50 (wAt _ _ _ ⟨h,.refl _⟩)
namespace Sp
noncomputable def Zed (s1 t1 s2 t2 s3 t3:Bool) (x1 y1 x2 y2 x3 y3:List Int):Bool:=Zdu s1 t1 s2 t2 s3 t3 x1 y1 x2 y2 x3 y3&&(decide (x1.length ≠ 0)||decide (x2.length ≠ 0))
noncomputable abbrev lineBQ (a b c:Rat):Bool:=Zed (Zaa a.num) (Zaa (a.den:Int)) (Zaa b.num) (Zaa (b.den:Int)) (Zaa c.num) (Zaa (c.den:Int)) (Zac a.num) (Zac (a.den:Int)) (Zac b.num) (Zac (b.den:Int)) (Zac c.num) (Zac (c.den:Int))
noncomputable def Zc1 (s1 t1 s2 t2 s3 t3:Bool) (x1 y1 x2 y2 x3 y3:List Int):Bool:=Zdu s1 t1 s2 t2 s3 t3 x1 y1 x2 y2 x3 y3&&(decide (x3.length ≠ 0) && !s3)
noncomputable abbrev ZgQ (a b c:Rat):Bool:=Zc1 (Zaa a.num) (Zaa (a.den:Int)) (Zaa b.num) (Zaa (b.den:Int)) (Zaa c.num) (Zaa (c.den:Int)) (Zac a.num) (Zac (a.den:Int)) (Zac b.num) (Zac (b.den:Int)) (Zac c.num) (Zac (c.den:Int))
end Sp
theorem ZeZ {s1 t1 s2 t2 s3 t3:Bool} {x1 y1 x2 y2 x3 y3:List Int} (h:Sp.Zdu s1 t1 s2 t2 s3 t3 x1 y1 x2 y2 x3 y3 = true):∃ a b c:Rat,Sp.okI2 a b c /\ (s1 = Sp.Zaa a.num /\ x1 = Sp.Zac a.num /\ t1 = Sp.Zaa (a.den:Int) /\ y1 = Sp.Zac (a.den:Int)) /\ (s2 = Sp.Zaa b.num /\ x2 = Sp.Zac b.num /\ t2 = Sp.Zaa (b.den:Int) /\ y2 = Sp.Zac (b.den:Int)) /\ s3 = Sp.Zaa c.num /\ x3 = Sp.Zac c.num /\ t3 = Sp.Zaa (c.den:Int) /\ y3 = Sp.Zac (c.den:Int):=by
 unfold Sp.Zdu at h
 rw [Bool.and_eq_true,Bool.and_eq_true] at h
 obtain ⟨a,ka,ea⟩:=Ze6 h.1.1
 obtain ⟨b,kb,eb⟩:=Ze6 h.1.2
 obtain ⟨c,kc,ec⟩:=Ze6 h.2
 exact ⟨a,b,c,⟨ka,kb,kc⟩,ea,eb,ec⟩
theorem Zd3 (v:Int):(Sp.Zac v).length ≠ 0 ↔ v ≠ 0:=by
 rw [ZaV]
 have:=ZaB (v:=v.natAbs)
 omega
theorem sg_ne (v:Int):(Sp.sgnI v != 0) = decide ((Sp.Zac v).length ≠ 0):=by
 by_cases k:v = 0
 ·subst k;rw [decide_eq_false fun h => (Zd3 0).1 h rfl];rfl
 ·rw [decide_eq_true ((Zd3 v).2 k),bne_iff_ne]
  exact fun e => k (ZbF.1 e)
theorem sg_gt (v:Int):decide (Sp.sgnI v > 0) = (decide ((Sp.Zac v).length ≠ 0) && !Sp.Zaa v):=by
 by_cases k:v = 0
 ·subst k;rw [decide_eq_false (show ¬(Sp.Zac 0).length ≠ 0 from fun h => (Zd3 0).1 h rfl)];rfl
 ·rw [decide_eq_true ((Zd3 v).2 k),Bool.true_and]
  by_cases n:v < 0
  ·rw [Zaj.2 n]
   refine decide_eq_false ?_
   unfold Sp.sgnI;rw [if_pos n];decide
  ·rw [show Sp.Zaa v = false from decide_eq_false n]
   refine decide_eq_true ?_
   unfold Sp.sgnI;rw [if_neg n,if_pos (by omega)];decide
theorem ev12 (s1 t1 f1 g1 s2 t2 f2 g2 s3 t3 f3 g3:Bool) (x1 y1 x2 y2 x3 y3:List Int) (h:Sp.okRw x1 y1 x2 y2 x3 y3):Ev M1 (.pure 12 [.agg [.bool s1,.vec f1 1 (x1.map (.int .u32)),.bool t1,.vec g1 1 (y1.map (.int .u32)),.bool s2,.vec f2 1 (x2.map (.int .u32)),.bool t2,.vec g2 1 (y2.map (.int .u32)),.bool s3,.vec f3 1 (x3.map (.int .u32)),.bool t3,.vec g3 1 (y3.map (.int .u32))]]) (.bool (Sp.Zed s1 t1 s2 t2 s3 t3 x1 y1 x2 y2 x3 y3)) []:=by
 by_cases k:Sp.Zdu s1 t1 s2 t2 s3 t3 x1 y1 x2 y2 x3 y3 = true
 ·obtain ⟨a,b,c,hk,⟨rfl,rfl,rfl,rfl⟩,⟨rfl,rfl,rfl,rfl⟩,rfl,rfl,rfl,rfl⟩:=ZeZ k
  refine call12 (rLine _ _ _ _ _ _ _ _ _ _ ⟨h,?_⟩)
  unfold Sp.Zed
  rw [k,sg_ne,sg_ne]
  cases decide ((Sp.Zac a.num).length ≠ 0) <;> cases decide ((Sp.Zac b.num).length ≠ 0) <;> rfl
 ·refine call12 (rLineR _ _ _ _ _ _ _ _ _ _ _ _ _ _ _ _ _ _ _ ⟨h,0,fun j => absurd j k,0,fun j => absurd j.2 k,?_⟩)
  unfold Sp.Zed
  rw [(Bool.not_eq_true _).mp k];rfl
theorem ev16 (s1 t1 f1 g1 s2 t2 f2 g2 s3 t3 f3 g3:Bool) (x1 y1 x2 y2 x3 y3:List Int) (h:Sp.okRw x1 y1 x2 y2 x3 y3):Ev M1 (.pure 16 [.agg [.bool s1,.vec f1 1 (x1.map (.int .u32)),.bool t1,.vec g1 1 (y1.map (.int .u32)),.bool s2,.vec f2 1 (x2.map (.int .u32)),.bool t2,.vec g2 1 (y2.map (.int .u32)),.bool s3,.vec f3 1 (x3.map (.int .u32)),.bool t3,.vec g3 1 (y3.map (.int .u32))]]) (.bool (Sp.Zc1 s1 t1 s2 t2 s3 t3 x1 y1 x2 y2 x3 y3)) []:=by
 by_cases k:Sp.Zdu s1 t1 s2 t2 s3 t3 x1 y1 x2 y2 x3 y3 = true
 ·obtain ⟨a,b,c,hk,⟨rfl,rfl,rfl,rfl⟩,⟨rfl,rfl,rfl,rfl⟩,rfl,rfl,rfl,rfl⟩:=ZeZ k
  refine call16 (rCirc _ _ _ _ _ _ _ _ _ _ ⟨h,?_⟩)
  unfold Sp.Zc1
  rw [k,sg_gt];rfl
 ·refine call16 (rCircR _ _ _ _ _ _ _ _ _ _ _ _ _ _ _ _ _ _ _ ⟨h,0,fun j => absurd j k,?_⟩)
  unfold Sp.Zc1
  rw [(Bool.not_eq_true _).mp k];rfl
theorem lineB_few {s1 t1 s2 t2 s3 t3:Bool} {x1 y1 x2 y2 x3 y3:List Int} (h:Sp.Zed s1 t1 s2 t2 s3 t3 x1 y1 x2 y2 x3 y3 = true):Sp.Zdu s1 t1 s2 t2 s3 t3 x1 y1 x2 y2 x3 y3 = true:=by
 unfold Sp.Zed at h;rw [Bool.and_eq_true] at h;exact h.1
theorem circB_few {s1 t1 s2 t2 s3 t3:Bool} {x1 y1 x2 y2 x3 y3:List Int} (h:Sp.Zc1 s1 t1 s2 t2 s3 t3 x1 y1 x2 y2 x3 y3 = true):Sp.Zdu s1 t1 s2 t2 s3 t3 x1 y1 x2 y2 x3 y3 = true:=by
 unfold Sp.Zc1 at h;rw [Bool.and_eq_true] at h;exact h.1
theorem lineB_ne {a b c:Rat} (h:Sp.Zed (Sp.Zaa a.num) (Sp.Zaa (a.den:Int)) (Sp.Zaa b.num) (Sp.Zaa (b.den:Int)) (Sp.Zaa c.num) (Sp.Zaa (c.den:Int)) (Sp.Zac a.num) (Sp.Zac (a.den:Int)) (Sp.Zac b.num) (Sp.Zac (b.den:Int)) (Sp.Zac c.num) (Sp.Zac (c.den:Int)) = true):a ≠ 0 \/ b ≠ 0:=by
 unfold Sp.Zed at h
 rw [Bool.and_eq_true,Bool.or_eq_true,decide_eq_true_iff,decide_eq_true_iff,Zd3,Zd3] at h
 exact h.2.imp (fun k e => k (Rat.num_eq_zero.2 e)) fun k e => k (Rat.num_eq_zero.2 e)
end Go.Av

namespace Go.Av
open Go.Proofs
set_option maxRecDepth 100000
def fi11:Fi:=⟨72,[.tmp 0]⟩
def kp11:List (Nat × List Nat):=[(0,[]),(1,[1,2]),(2,[1,2,3]),(3,[1,2,3,4]),(4,[1,2,3,4,5,6]),(5,[1,2,3,4,5,6,8]),(6,[0])]
def wAwake_at  (Q:AV->Heap->Prop):Prop:=Wp M1 (.run fi11 (atC (cd Tryz.f11) []) [] []) Q
theorem call11 {args:List AV} {d:AV} (h:wc M1 fi11 Tryz.f11 args d):Ev M1 (.pure 11 args) d []:=pcl _ _ (by kernel_rfl) h
noncomputable abbrev Zg5:=(pntF (Sp.qi 1) (Sp.qi 0) (Sp.qi 1) (Sp.qi 0) (Sp.qi 0))
noncomputable abbrev zNmI2:=(pntF (Sp.qi (-1)) (Sp.qi 0) (Sp.qi 1) (Sp.qi 0) (Sp.qi 0))
noncomputable abbrev zNmI3:=(pntF (Sp.qi 2) (Sp.qi 0) (Sp.qi 1) (Sp.qi 0) (Sp.qi 0))
noncomputable abbrev zNmI4:=Sp.linL (Sp.qi 1) (Sp.qi 1) (Sp.qi 3) (Sp.qi 1) (Sp.qi (-1)) (Sp.qi 1)
noncomputable abbrev zNmI5:=Sp.dep (Sp.qi 1) (Sp.qi 1) (Sp.qi 2) (Sp.qi 0) (Sp.qi 0) (Sp.qi 2)=0
noncomputable abbrev zNmI6:=Sp.Za3 (Sp.qi 0) (Sp.qi 1) (Sp.qi 1) (Sp.qi 0) (Sp.qi 0) (Sp.qi 2)
noncomputable abbrev zNmI7:=Sp.Za3 (Sp.qi 1) (Sp.qi 1) (Sp.qi 2) (Sp.qi 0) (Sp.qi 0) (Sp.qi 2)
noncomputable abbrev zNmI8:=(↑(Sp.Zhe (Sp.qi 0) (Sp.qi 0) (Sp.qi 1) (Sp.qi 1) (Sp.qi 0) (Sp.qi 1)).length:Int)=2
noncomputable abbrev zNmI9 (b1:Bool):=bif Sp.Zet (Sp.qi 1) (Sp.qi 1) (Sp.qi 3) (Sp.qi 1) (Sp.qi (-1)) (Sp.qi 1)==0 then b1 else false
noncomputable abbrev zNmI10:=Sp.Zet (Sp.qi 1) (Sp.qi 1) (Sp.qi 3) (Sp.qi 1) (Sp.qi (-1)) (Sp.qi 1)=0
noncomputable abbrev zNmI11:=Sp.Zee (Sp.qi 0) (Sp.qi 0) (Sp.qi 1) (Sp.qi 0) (Sp.qi 0) (Sp.qi 1)=10
noncomputable abbrev zNmI12:=Sp.Zee (Sp.qi 0) (Sp.qi 0) (Sp.qi 1) (Sp.qi 1) (Sp.qi 0) (Sp.qi 1)=0
theorem wAwake   (dq:AV) (H :
  (Sp.inI 1 /\ Sp.inI 1 /\ Sp.inI 3) /\
  (Sp.inI 1 /\ Sp.inI (-1) /\ Sp.inI 1) /\
  (Sp.Zg2 (Sp.qi 1) (Sp.qi 1) (Sp.qi 3) /\ Sp.Zg2 (Sp.qi 1) (Sp.qi (-1)) (Sp.qi 1)) /\
  (Sp.inI 0 /\ Sp.inI 1 /\ Sp.inI 1) /\
  (Sp.inI 0 /\ Sp.inI 0 /\ Sp.inI 2) /\
  (Sp.Zg3 (Sp.qi 0) (Sp.qi 1) (Sp.qi 1) /\ Sp.okVn (Sp.qi 0) (Sp.qi 0) /\ Sp.okT 30 (Sp.qi 2)) /\
  (Sp.inI 1 /\ Sp.inI 1 /\ Sp.inI 2) /\
  (Sp.Zg3 (Sp.qi 1) (Sp.qi 1) (Sp.qi 2) /\ Sp.okVn (Sp.qi 0) (Sp.qi 0) /\ Sp.okT 30 (Sp.qi 2)) /\
  (Sp.inI 0 /\ Sp.inI 0 /\ Sp.inI 1) /\
  (Sp.inI 1 /\ Sp.inI 0 /\ Sp.inI 1) /\
  (Sp.okI2 (Sp.qi 0) (Sp.qi 0) (Sp.qi 1) /\ Sp.okI2 (Sp.qi 1) (Sp.qi 0) (Sp.qi 1)) /\
  (Sp.okI2 (Sp.qi 0) (Sp.qi 0) (Sp.qi 1) /\ Sp.okI2 (Sp.qi 0) (Sp.qi 0) (Sp.qi 1)) /\
  ((Sp.Zet (Sp.qi 1) (Sp.qi 1) (Sp.qi 3) (Sp.qi 1) (Sp.qi (-1)) (Sp.qi 1) = 0) -> (Sp.inI 2 /\ Sp.inI 1)) /\
  ∃ (b1:Bool),
  ((Sp.Zet (Sp.qi 1) (Sp.qi 1) (Sp.qi 3) (Sp.qi 1) (Sp.qi (-1)) (Sp.qi 1) = 0) -> (Ev M1 (Conf.pure 49 [AV.vec false 20 (List.map Pnt.a (Sp.linL (Sp.qi 1) (Sp.qi 1) (Sp.qi 3) (Sp.qi 1) (Sp.qi (-1)) (Sp.qi 1))),AV.vec true 20 [(pntF (Sp.qi 2) (Sp.qi 0) (Sp.qi 1) (Sp.qi 0) (Sp.qi 0))]]) (vb b1) [])) /\
  (((Sp.Zet (Sp.qi 1) (Sp.qi 1) (Sp.qi 3) (Sp.qi 1) (Sp.qi (-1)) (Sp.qi 1) = 0) /\ (b1 = true)) -> (Sp.inI (-1) /\ Sp.inI 1)) /\
  (((Sp.Zet (Sp.qi 1) (Sp.qi 1) (Sp.qi 3) (Sp.qi 1) (Sp.qi (-1)) (Sp.qi 1) = 0) /\ (b1 = true)) -> (Sp.inI 1 /\ Sp.inI 1)) /\
  ∃ (b2:Bool),
  (((Sp.Zet (Sp.qi 1) (Sp.qi 1) (Sp.qi 3) (Sp.qi 1) (Sp.qi (-1)) (Sp.qi 1) = 0) /\ (b1 = true)) -> (Ev M1 (Conf.pure 49 [AV.vec false 20 (List.map Pnt.a (Sp.Za3 (Sp.qi 0) (Sp.qi 1) (Sp.qi 1) (Sp.qi 0) (Sp.qi 0) (Sp.qi 2))),AV.vec true 20 [(pntF (Sp.qi (-1)) (Sp.qi 0) (Sp.qi 1) (Sp.qi 0) (Sp.qi 0)),(pntF (Sp.qi 1) (Sp.qi 0) (Sp.qi 1) (Sp.qi 0) (Sp.qi 0))]]) (vb b2) [])) /\
  ((((Sp.Zet (Sp.qi 1) (Sp.qi 1) (Sp.qi 3) (Sp.qi 1) (Sp.qi (-1)) (Sp.qi 1) = 0) /\ (b1 = true)) /\ (b2 = true)) -> (Sp.inI 1 /\ Sp.inI 1)) /\
  ∃ (b3:Bool),
  ((((Sp.Zet (Sp.qi 1) (Sp.qi 1) (Sp.qi 3) (Sp.qi 1) (Sp.qi (-1)) (Sp.qi 1) = 0) /\ (b1 = true)) /\ (b2 = true)) -> (Ev M1 (Conf.pure 49 [AV.vec false 20 (List.map Pnt.a (Sp.Za3 (Sp.qi 1) (Sp.qi 1) (Sp.qi 2) (Sp.qi 0) (Sp.qi 0) (Sp.qi 2))),AV.vec true 20 [(pntF (Sp.qi 1) (Sp.qi 0) (Sp.qi 1) (Sp.qi 0) (Sp.qi 0))]]) (vb b3) [])) /\
  vb (bif bif bif bif bif bif bif Sp.Zet (Sp.qi 1) (Sp.qi 1) (Sp.qi 3) (Sp.qi 1) (Sp.qi (-1)) (Sp.qi 1) == 0 then b1 else false then b2 else false then b3 else false then Sp.Zee (Sp.qi 0) (Sp.qi 0) (Sp.qi 1) (Sp.qi 1) (Sp.qi 0) (Sp.qi 1) == 0 else false then (↑(Sp.Zhe (Sp.qi 0) (Sp.qi 0) (Sp.qi 1) (Sp.qi 1) (Sp.qi 0) (Sp.qi 1)).length:Int) == 2 else false then Sp.Zee (Sp.qi 0) (Sp.qi 0) (Sp.qi 1) (Sp.qi 0) (Sp.qi 0) (Sp.qi 1) == 10 else false then decide (Sp.dep (Sp.qi 1) (Sp.qi 1) (Sp.qi 2) (Sp.qi 0) (Sp.qi 0) (Sp.qi 2) = 0) else false) = dq) :
 wAwake_at  (Zaf dq):=by
 unfold wAwake_at
 obtain ⟨k1,k2,k3,k4,k5,k6,k7,k8,k9,k10,k11,k12,k14,b1,k16,k18,k20,b2,k22,k24,b3,k26,H⟩:=H
 have w27:(List.map Pnt.a (Sp.Zhe (Sp.qi 0) (Sp.qi 0) (Sp.qi 1) (Sp.qi 1) (Sp.qi 0) (Sp.qi 1))).length = (Sp.Zhe (Sp.qi 0) (Sp.qi 0) (Sp.qi 1) (Sp.qi 1) (Sp.qi 0) (Sp.qi 1)).length:=List.length_map ..
 have i28:((bif bif bif bif bif bif Sp.Zet (Sp.qi 1) (Sp.qi 1) (Sp.qi 3) (Sp.qi 1) (Sp.qi (-1)) (Sp.qi 1) == 0 then b1 else false then b2 else false then b3 else false then Sp.Zee (Sp.qi 0) (Sp.qi 0) (Sp.qi 1) (Sp.qi 1) (Sp.qi 0) (Sp.qi 1) == 0 else false then (↑(List.map Pnt.a (Sp.Zhe (Sp.qi 0) (Sp.qi 0) (Sp.qi 1) (Sp.qi 1) (Sp.qi 0) (Sp.qi 1))).length:Int) == 2 else false then Sp.Zee (Sp.qi 0) (Sp.qi 0) (Sp.qi 1) (Sp.qi 0) (Sp.qi 0) (Sp.qi 1) == 10 else false) == true && true && true) = true ↔ ((((((zNmI10 /\ (b1 = true)) /\ (b2 = true)) /\ (b3 = true)) /\ zNmI12) /\ zNmI8) /\ zNmI11):=(by (try rw [w27]);all_goals exact (i_at (i_at (i_bt (ZaK (ZaK (ZaK (ZaK (ZaK (ZaK i_eq (Zav _)) (Zav _)) (Zav _)) i_eq) i_eq) i_eq)))))
 have i29:((bif bif bif bif bif bif Sp.Zet (Sp.qi 1) (Sp.qi 1) (Sp.qi 3) (Sp.qi 1) (Sp.qi (-1)) (Sp.qi 1) == 0 then b1 else false then b2 else false then b3 else false then Sp.Zee (Sp.qi 0) (Sp.qi 0) (Sp.qi 1) (Sp.qi 1) (Sp.qi 0) (Sp.qi 1) == 0 else false then (↑(List.map Pnt.a (Sp.Zhe (Sp.qi 0) (Sp.qi 0) (Sp.qi 1) (Sp.qi 1) (Sp.qi 0) (Sp.qi 1))).length:Int) == 2 else false then Sp.Zee (Sp.qi 0) (Sp.qi 0) (Sp.qi 1) (Sp.qi 0) (Sp.qi 0) (Sp.qi 1) == 10 else false) == true && true && true) = true ↔ ((((((zNmI10 /\ (b1 = true)) /\ (b2 = true)) /\ (b3 = true)) /\ zNmI12) /\ zNmI8) /\ zNmI11):=(by (try rw [w27]);all_goals exact (i_at (i_at (i_bt (ZaK (ZaK (ZaK (ZaK (ZaK (ZaK i_eq (Zav _)) (Zav _)) (Zav _)) i_eq) i_eq) i_eq)))))
 have i30:((bif bif bif bif bif bif Sp.Zet (Sp.qi 1) (Sp.qi 1) (Sp.qi 3) (Sp.qi 1) (Sp.qi (-1)) (Sp.qi 1) == 0 then b1 else false then b2 else false then b3 else false then Sp.Zee (Sp.qi 0) (Sp.qi 0) (Sp.qi 1) (Sp.qi 1) (Sp.qi 0) (Sp.qi 1) == 0 else false then (↑(List.map Pnt.a (Sp.Zhe (Sp.qi 0) (Sp.qi 0) (Sp.qi 1) (Sp.qi 1) (Sp.qi 0) (Sp.qi 1))).length:Int) == 2 else false then Sp.Zee (Sp.qi 0) (Sp.qi 0) (Sp.qi 1) (Sp.qi 0) (Sp.qi 0) (Sp.qi 1) == 10 else false) == true && true && true) = true ↔ ((((((zNmI10 /\ (b1 = true)) /\ (b2 = true)) /\ (b3 = true)) /\ zNmI12) /\ zNmI8) /\ zNmI11):=(by (try rw [w27]);all_goals exact (i_at (i_at (i_bt (ZaK (ZaK (ZaK (ZaK (ZaK (ZaK i_eq (Zav _)) (Zav _)) (Zav _)) i_eq) i_eq) i_eq)))))
 exact Zap (G:=Zad kp11 [(1,0,.call (ZaD (Sp.qi 1) (Sp.qi 1) (Sp.qi 3)) none),(1,1,.call (ZaD (Sp.qi 1) (Sp.qi (-1)) (Sp.qi 1)) none),(1,2,.call (tu [AV.vec false 20 (List.map Pnt.a zNmI4),vi (Sp.Zet (Sp.qi 1) (Sp.qi 1) (Sp.qi 3) (Sp.qi 1) (Sp.qi (-1)) (Sp.qi 1))]) none),(2,0,.call (ZaD (Sp.qi 0) (Sp.qi 1) (Sp.qi 1)) none),(2,1,.call (ZaD (Sp.qi 0) (Sp.qi 0) (Sp.qi 2)) none),(2,2,.call (AV.vec false 20 (List.map Pnt.a zNmI6)) none),(3,0,.call (ZaD (Sp.qi 1) (Sp.qi 1) (Sp.qi 2)) none),(3,1,.call (ZaD (Sp.qi 0) (Sp.qi 0) (Sp.qi 2)) none),(3,2,.call (AV.vec false 20 (List.map Pnt.a zNmI7)) none),(4,0,.call (ZaD (Sp.qi 0) (Sp.qi 0) (Sp.qi 1)) none),(4,1,.call (ZaD (Sp.qi 1) (Sp.qi 0) (Sp.qi 1)) none),(4,2,.call (tu [AV.vec false 20 (List.map Pnt.a (Sp.Zhe (Sp.qi 0) (Sp.qi 0) (Sp.qi 1) (Sp.qi 1) (Sp.qi 0) (Sp.qi 1))),vi (Sp.Zee (Sp.qi 0) (Sp.qi 0) (Sp.qi 1) (Sp.qi 1) (Sp.qi 0) (Sp.qi 1))]) none),(5,0,.call (ZaD (Sp.qi 0) (Sp.qi 0) (Sp.qi 1)) none),(5,1,.call (ZaD (Sp.qi 0) (Sp.qi 0) (Sp.qi 1)) none),(5,2,.call (tu [AV.vec false 20 (List.map Pnt.a (Sp.Zhe (Sp.qi 0) (Sp.qi 0) (Sp.qi 1) (Sp.qi 0) (Sp.qi 0) (Sp.qi 1))),vi (Sp.Zee (Sp.qi 0) (Sp.qi 0) (Sp.qi 1) (Sp.qi 0) (Sp.qi 0) (Sp.qi 1))]) none),(6,4,.call (zNmI3) none),(6,6,.call (vb b1) none),(6,10,.call (zNmI2) none),(6,11,.call (Zg5) none),(6,13,.call (vb b2) none),(6,17,.call (Zg5) none),(6,19,.call (vb b3) none),(6,35,.call (ZaD (Sp.qi 1) (Sp.qi 1) (Sp.qi 2)) none),(6,36,.call (ZaD (Sp.qi 0) (Sp.qi 0) (Sp.qi 2)) none),(6,37,.call (vb (decide zNmI5)) none)] []) 1000 [] (calls:=[⟨true,false,47,[vi 1,vi 1,vi 3],[],ZaD (Sp.qi 1) (Sp.qi 1) (Sp.qi 3),[]⟩,⟨true,false,47,[vi 1,vi (-1),vi 1],[],ZaD (Sp.qi 1) (Sp.qi (-1)) (Sp.qi 1),[]⟩,⟨true,false,13,[ZaD (Sp.qi 1) (Sp.qi 1) (Sp.qi 3),ZaD (Sp.qi 1) (Sp.qi (-1)) (Sp.qi 1)],[],tu [AV.vec false 20 (List.map Pnt.a zNmI4),vi (Sp.Zet (Sp.qi 1) (Sp.qi 1) (Sp.qi 3) (Sp.qi 1) (Sp.qi (-1)) (Sp.qi 1))],[]⟩,⟨true,false,47,[vi 0,vi 1,vi 1],[],ZaD (Sp.qi 0) (Sp.qi 1) (Sp.qi 1),[]⟩,⟨true,false,48,[vi 0,vi 0,vi 2],[],ZaD (Sp.qi 0) (Sp.qi 0) (Sp.qi 2),[]⟩,⟨true,false,17,[ZaD (Sp.qi 0) (Sp.qi 1) (Sp.qi 1),ZaD (Sp.qi 0) (Sp.qi 0) (Sp.qi 2)],[],AV.vec false 20 (List.map Pnt.a zNmI6),[]⟩,⟨true,false,47,[vi 1,vi 1,vi 2],[],ZaD (Sp.qi 1) (Sp.qi 1) (Sp.qi 2),[]⟩,⟨true,false,48,[vi 0,vi 0,vi 2],[],ZaD (Sp.qi 0) (Sp.qi 0) (Sp.qi 2),[]⟩,⟨true,false,17,[ZaD (Sp.qi 1) (Sp.qi 1) (Sp.qi 2),ZaD (Sp.qi 0) (Sp.qi 0) (Sp.qi 2)],[],AV.vec false 20 (List.map Pnt.a zNmI7),[]⟩,⟨true,false,48,[vi 0,vi 0,vi 1],[],ZaD (Sp.qi 0) (Sp.qi 0) (Sp.qi 1),[]⟩,⟨true,false,48,[vi 1,vi 0,vi 1],[],ZaD (Sp.qi 1) (Sp.qi 0) (Sp.qi 1),[]⟩,⟨true,false,22,[ZaD (Sp.qi 0) (Sp.qi 0) (Sp.qi 1),ZaD (Sp.qi 1) (Sp.qi 0) (Sp.qi 1)],[],tu [AV.vec false 20 (List.map Pnt.a (Sp.Zhe (Sp.qi 0) (Sp.qi 0) (Sp.qi 1) (Sp.qi 1) (Sp.qi 0) (Sp.qi 1))),vi (Sp.Zee (Sp.qi 0) (Sp.qi 0) (Sp.qi 1) (Sp.qi 1) (Sp.qi 0) (Sp.qi 1))],[]⟩,⟨true,false,48,[vi 0,vi 0,vi 1],[],ZaD (Sp.qi 0) (Sp.qi 0) (Sp.qi 1),[]⟩,⟨true,false,48,[vi 0,vi 0,vi 1],[],ZaD (Sp.qi 0) (Sp.qi 0) (Sp.qi 1),[]⟩,⟨true,false,22,[ZaD (Sp.qi 0) (Sp.qi 0) (Sp.qi 1),ZaD (Sp.qi 0) (Sp.qi 0) (Sp.qi 1)],[],tu [AV.vec false 20 (List.map Pnt.a (Sp.Zhe (Sp.qi 0) (Sp.qi 0) (Sp.qi 1) (Sp.qi 0) (Sp.qi 0) (Sp.qi 1))),vi (Sp.Zee (Sp.qi 0) (Sp.qi 0) (Sp.qi 1) (Sp.qi 0) (Sp.qi 0) (Sp.qi 1))],[]⟩,⟨(Sp.Zet (Sp.qi 1) (Sp.qi 1) (Sp.qi 3) (Sp.qi 1) (Sp.qi (-1)) (Sp.qi 1) == 0) == true && true && true,false,50,[vi 2,vi 1],[],zNmI3,[]⟩,⟨(Sp.Zet (Sp.qi 1) (Sp.qi 1) (Sp.qi 3) (Sp.qi 1) (Sp.qi (-1)) (Sp.qi 1) == 0) == true && true && true,false,49,[AV.vec false 20 (List.map Pnt.a zNmI4),AV.vec true 20 [zNmI3]],[],vb b1,[]⟩,⟨(zNmI9 b1) == true && true && true,false,50,[vi (-1),vi 1],[],zNmI2,[]⟩,⟨(zNmI9 b1) == true && true && true,false,50,[vi 1,vi 1],[],Zg5,[]⟩,⟨(zNmI9 b1) == true && true && true,false,49,[AV.vec false 20 (List.map Pnt.a zNmI6),AV.vec true 20 [zNmI2,Zg5]],[],vb b2,[]⟩,⟨(bif bif Sp.Zet (Sp.qi 1) (Sp.qi 1) (Sp.qi 3) (Sp.qi 1) (Sp.qi (-1)) (Sp.qi 1) == 0 then b1 else false then b2 else false) == true && true && true,false,50,[vi 1,vi 1],[],Zg5,[]⟩,⟨(bif bif Sp.Zet (Sp.qi 1) (Sp.qi 1) (Sp.qi 3) (Sp.qi 1) (Sp.qi (-1)) (Sp.qi 1) == 0 then b1 else false then b2 else false) == true && true && true,false,49,[AV.vec false 20 (List.map Pnt.a zNmI7),AV.vec true 20 [Zg5]],[],vb b3,[]⟩,⟨(bif bif bif bif bif bif Sp.Zet (Sp.qi 1) (Sp.qi 1) (Sp.qi 3) (Sp.qi 1) (Sp.qi (-1)) (Sp.qi 1) == 0 then b1 else false then b2 else false then b3 else false then Sp.Zee (Sp.qi 0) (Sp.qi 0) (Sp.qi 1) (Sp.qi 1) (Sp.qi 0) (Sp.qi 1) == 0 else false then (↑(List.map Pnt.a (Sp.Zhe (Sp.qi 0) (Sp.qi 0) (Sp.qi 1) (Sp.qi 1) (Sp.qi 0) (Sp.qi 1))).length:Int) == 2 else false then Sp.Zee (Sp.qi 0) (Sp.qi 0) (Sp.qi 1) (Sp.qi 0) (Sp.qi 0) (Sp.qi 1) == 10 else false) == true && true && true,false,47,[vi 1,vi 1,vi 2],[],ZaD (Sp.qi 1) (Sp.qi 1) (Sp.qi 2),[]⟩,⟨(bif bif bif bif bif bif Sp.Zet (Sp.qi 1) (Sp.qi 1) (Sp.qi 3) (Sp.qi 1) (Sp.qi (-1)) (Sp.qi 1) == 0 then b1 else false then b2 else false then b3 else false then Sp.Zee (Sp.qi 0) (Sp.qi 0) (Sp.qi 1) (Sp.qi 1) (Sp.qi 0) (Sp.qi 1) == 0 else false then (↑(List.map Pnt.a (Sp.Zhe (Sp.qi 0) (Sp.qi 0) (Sp.qi 1) (Sp.qi 1) (Sp.qi 0) (Sp.qi 1))).length:Int) == 2 else false then Sp.Zee (Sp.qi 0) (Sp.qi 0) (Sp.qi 1) (Sp.qi 0) (Sp.qi 0) (Sp.qi 1) == 10 else false) == true && true && true,false,48,[vi 0,vi 0,vi 2],[],ZaD (Sp.qi 0) (Sp.qi 0) (Sp.qi 2),[]⟩,⟨(bif bif bif bif bif bif Sp.Zet (Sp.qi 1) (Sp.qi 1) (Sp.qi 3) (Sp.qi 1) (Sp.qi (-1)) (Sp.qi 1) == 0 then b1 else false then b2 else false then b3 else false then Sp.Zee (Sp.qi 0) (Sp.qi 0) (Sp.qi 1) (Sp.qi 1) (Sp.qi 0) (Sp.qi 1) == 0 else false then (↑(List.map Pnt.a (Sp.Zhe (Sp.qi 0) (Sp.qi 0) (Sp.qi 1) (Sp.qi 1) (Sp.qi 0) (Sp.qi 1))).length:Int) == 2 else false then Sp.Zee (Sp.qi 0) (Sp.qi 0) (Sp.qi 1) (Sp.qi 0) (Sp.qi 0) (Sp.qi 1) == 10 else false) == true && true && true,false,19,[ZaD (Sp.qi 1) (Sp.qi 1) (Sp.qi 2),ZaD (Sp.qi 0) (Sp.qi 0) (Sp.qi 2)],[],vb (decide zNmI5),[]⟩]) (vb (bif bif bif bif bif bif bif Sp.Zet (Sp.qi 1) (Sp.qi 1) (Sp.qi 3) (Sp.qi 1) (Sp.qi (-1)) (Sp.qi 1) == 0 then b1 else false then b2 else false then b3 else false then Sp.Zee (Sp.qi 0) (Sp.qi 0) (Sp.qi 1) (Sp.qi 1) (Sp.qi 0) (Sp.qi 1) == 0 else false then (↑(List.map Pnt.a (Sp.Zhe (Sp.qi 0) (Sp.qi 0) (Sp.qi 1) (Sp.qi 1) (Sp.qi 0) (Sp.qi 1))).length:Int) == 2 else false then Sp.Zee (Sp.qi 0) (Sp.qi 0) (Sp.qi 1) (Sp.qi 0) (Sp.qi 0) (Sp.qi 1) == 10 else false then decide zNmI5 else false)) (by kernel_rfl) b0 q0 (cc (fun _ => (@ev47 (1) (1) (3) k1)) (cc (fun _ => (@ev47 (1) (-1) (1) k2)) (cc (fun _ => (@ev13 (false) (false) (false) (false) (false) (false) (false) (false) (false) (false) (false) (false) (Sp.qi 1) (Sp.qi 1) (Sp.qi 3) (Sp.qi 1) (Sp.qi (-1)) (Sp.qi 1) k3)) (cc (fun _ => (@ev47 (0) (1) (1) k4)) (cc (fun _ => (@ev48 (0) (0) (2) k5)) (cc (fun _ => (@ev17 (false) (false) (false) (false) (false) (false) (false) (false) (false) (false) (false) (false) (Sp.qi 0) (Sp.qi 1) (Sp.qi 1) (Sp.qi 0) (Sp.qi 0) (Sp.qi 2) k6)) (cc (fun _ => (@ev47 (1) (1) (2) k7)) (cc (fun _ => (@ev48 (0) (0) (2) k5)) (cc (fun _ => (@ev17 (false) (false) (false) (false) (false) (false) (false) (false) (false) (false) (false) (false) (Sp.qi 1) (Sp.qi 1) (Sp.qi 2) (Sp.qi 0) (Sp.qi 0) (Sp.qi 2) k8)) (cc (fun _ => (@ev48 (0) (0) (1) k9)) (cc (fun _ => (@ev48 (1) (0) (1) k10)) (cc (fun _ => (@ev22 (false) (false) (false) (false) (false) (false) (false) (false) (false) (false) (false) (false) (Sp.qi 0) (Sp.qi 0) (Sp.qi 1) (Sp.qi 1) (Sp.qi 0) (Sp.qi 1) k11)) (cc (fun _ => (@ev48 (0) (0) (1) k9)) (cc (fun _ => (@ev48 (0) (0) (1) k9)) (cc (fun _ => (@ev22 (false) (false) (false) (false) (false) (false) (false) (false) (false) (false) (false) (false) (Sp.qi 0) (Sp.qi 0) (Sp.qi 1) (Sp.qi 0) (Sp.qi 0) (Sp.qi 1) k12)) (cc (fun hc => ((@ev50 (2) (1) (k14 ((i_at (i_at (i_bt i_eq))).1 hc))):Ev M1 (Conf.pure 50 [vi 2,vi 1]) (zNmI3) [])) (cc (fun hc => ((k16 ((i_at (i_at (i_bt i_eq))).1 hc)):Ev M1 (Conf.pure 49 [AV.vec false 20 (List.map Pnt.a zNmI4),AV.vec true 20 [zNmI3]]) (vb b1) [])) (cc (fun hc => ((@ev50 (-1) (1) (k18 ((i_at (i_at (i_bt (ZaK i_eq (Zav _))))).1 hc))):Ev M1 (Conf.pure 50 [vi (-1),vi 1]) (zNmI2) [])) (cc (fun hc => ((@ev50 (1) (1) (k20 ((i_at (i_at (i_bt (ZaK i_eq (Zav _))))).1 hc))):Ev M1 (Conf.pure 50 [vi 1,vi 1]) (Zg5) [])) (cc (fun hc => ((k22 ((i_at (i_at (i_bt (ZaK i_eq (Zav _))))).1 hc)):Ev M1 (Conf.pure 49 [AV.vec false 20 (List.map Pnt.a zNmI6),AV.vec true 20 [zNmI2,Zg5]]) (vb b2) [])) (cc (fun hc => ((@ev50 (1) (1) (k24 ((i_at (i_at (i_bt (ZaK (ZaK i_eq (Zav _)) (Zav _))))).1 hc))):Ev M1 (Conf.pure 50 [vi 1,vi 1]) (Zg5) [])) (cc (fun hc => ((k26 ((i_at (i_at (i_bt (ZaK (ZaK i_eq (Zav _)) (Zav _))))).1 hc)):Ev M1 (Conf.pure 49 [AV.vec false 20 (List.map Pnt.a zNmI7),AV.vec true 20 [Zg5]]) (vb b3) [])) (cc (fun hc => ((@ev47 (1) (1) (2) k7):Ev M1 (Conf.pure 47 [vi 1,vi 1,vi 2]) (ZaD (Sp.qi 1) (Sp.qi 1) (Sp.qi 2)) [])) (cc (fun hc => ((@ev48 (0) (0) (2) k5):Ev M1 (Conf.pure 48 [vi 0,vi 0,vi 2]) (ZaD (Sp.qi 0) (Sp.qi 0) (Sp.qi 2)) [])) (cc (fun hc => ((@ev19 (false) (false) (false) (false) (false) (false) (false) (false) (false) (false) (false) (false) (Sp.qi 1) (Sp.qi 1) (Sp.qi 2) (Sp.qi 0) (Sp.qi 0) (Sp.qi 2) k8):Ev M1 (Conf.pure 19 [ZaD (Sp.qi 1) (Sp.qi 1) (Sp.qi 2),ZaD (Sp.qi 0) (Sp.qi 0) (Sp.qi 2)]) (vb (decide zNmI5)) [])) c0))))))))))))))))))))))))) (by (try rw [w27]);all_goals exact H)
end Go.Av

namespace Go.Av
open Go.Proofs
theorem okT_sm {n:Int} (h:n.natAbs < 1000000000):Sp.okT 1 (Sp.qi n):=by
 rw [Zfz]
 have e:(1000000000:Nat) ^ 1 = 1000000000:=rfl
 refine ⟨?_,?_⟩
 ·rw [Rat.num_intCast]
  refine Zau.1 ?_
  unfold Sp.fits;omega
 ·rw [Rat.den_intCast]
  refine Zau.1 ?_
  unfold Sp.fits;omega
theorem sm_30 {n:Int} (h:n.natAbs<1000000000):Sp.okT 30 (Sp.qi n):=Zay (okT_sm h) (by omega)
theorem sm_2 {n:Int} (h:n.natAbs<1000000000):Sp.okT 2 (Sp.qi n):=Zay (okT_sm h) (by omega)
theorem okP5_at {x y:Rat} {k:Nat} (hx:Sp.okT k x) (hy:Sp.okT k y) (hk:k<=2200):Sp.Zgn (Sp.atP x y):=⟨⟨Zay hx hk,Zay ZcS (by omega)⟩,⟨Zay hy hk,Zay ZcS (by omega)⟩,Zay ZcS (by omega)⟩
def Sp.okP4 (p:Pnt):Prop:=(Sp.okT 2100 p.ax/\Sp.okT 200 p.bx)/\(Sp.okT 2100 p.ay/\Sp.okT 200 p.by_)/\Sp.okT 1700 p.c
theorem okP5_4 {p:Pnt} (h:Sp.okP4 p):Sp.Zgn p:=⟨⟨Zay h.1.1 (by omega),h.1.2⟩,⟨Zay h.2.1.1 (by omega),h.2.1.2⟩,h.2.2⟩
theorem okP4_at {x y:Rat} (hx:Sp.okT 350 x) (hy:Sp.okT 350 y):Sp.okP4 (Sp.atP x y):=⟨⟨Zay hx (by omega),Zay ZcS (by omega)⟩,⟨Zay hy (by omega),Zay ZcS (by omega)⟩,Zay ZcS (by omega)⟩
theorem okP4_surd {x u y v k:Rat} (h:Sp.okSr x u y v k):Sp.okP4 (Sp.Zdq x u y v k):=by
 obtain ⟨⟨h1,h2⟩,⟨h3,h4⟩,h5,h6⟩:=h
 by_cases s:Sp.rsq k
 ·rw [show Sp.Zdq x u y v k = Sp.atP (x + u * Sp.rt k) (y + v * Sp.rt k) from if_pos s]
  have a1:=ZaH h1 (Zah h2 (okT_rt s h5))
  have a2:=ZaH h3 (Zah h4 (okT_rt s h5))
  exact ⟨⟨Zay a1 (by omega),Zay ZcS (by omega)⟩,⟨Zay a2 (by omega),Zay ZcS (by omega)⟩,Zay ZcS (by omega)⟩
 ·rw [show Sp.Zdq x u y v k = ⟨x,u,y,v,if u = 0 /\ v = 0 then Sp.qi 0 else k⟩ from if_neg s]
  refine ⟨⟨Zay h1 (by omega),Zay h2 (by omega)⟩,⟨Zay h3 (by omega),Zay h4 (by omega)⟩,?_⟩
  show Sp.okT 1700 (if u = 0 /\ v = 0 then Sp.qi 0 else k)
  split
  ·exact Zay ZcS (by omega)
  ·exact h5
theorem okT_d {a b c:Rat} (h:Sp.Zg3 a b c):Sp.okT 30 (Sp.dU a b) /\ Sp.okT 30 (Sp.dV a b):=by
 obtain ⟨⟨ha,hb,hc⟩,_⟩:=h
 unfold Sp.dU Sp.dV
 cases Sp.dn a b with
 | true => exact ⟨Zb5 hb,Zb5 (Zb5 ha)⟩
 | false => exact ⟨hb,Zb5 ha⟩
theorem lineC_ok {a b c x y q:Rat} (h:Sp.Zg3 a b c) (hv:Sp.okVn x y) (hq:Sp.okT 30 q):(∀ p ∈ Sp.Za3 a b c x y q,Sp.okP4 p) /\ (Sp.Za3 a b c x y q).length <= 2:=by
 have hf:=okT_f h hv
 have hd:=okT_dep h hv hq
 have du:=okT_d h
 rcases tri (Sp.dep a b c x y q) with k | k | k
 ·rw [lineC_0 k];exact ⟨fun p hp => (nomatch hp),by simp⟩
 ·rw [lineC_1 k]
  exact ⟨fun p hp => by rw [List.mem_singleton.1 hp];exact okP4_at hf.1 hf.2,by simp⟩
 ·rw [Zgy k]
  refine ⟨fun p hp => ?_,by simp⟩
  simp only [List.mem_cons,List.not_mem_nil,or_false] at hp
  rcases hp with rfl | rfl
  ·exact okP4_surd ⟨⟨hf.1,Zb5 du.1⟩,⟨hf.2,Zb5 du.2⟩,hd,k⟩
  ·exact okP4_surd ⟨⟨hf.1,du.1⟩,⟨hf.2,du.2⟩,hd,k⟩
theorem ZfR:∀ {l m:List Pnt},Sp.sameL l m -> Sp.eqL l m = true
 | [],[],_ => rfl
 | p :: l,q :: m,h => by rw [eqL_cons,decide_eq_true (cmpP_same h.1)];exact ZfR h.2
theorem qz:Sp.qi 0=0:=qi_z
theorem q_1:Sp.qi 1=1:=by rw [Zfz];rfl
theorem q_2:Sp.qi 2=2:=by rw [Zfz];rfl
theorem q_3:Sp.qi 3=3:=by rw [Zfz];rfl
theorem q_m:Sp.qi (-1) = -1:=by rw [Zfz];rfl
theorem ex_lin:Sp.Zet 1 1 3 1 (-1) 1 = 0 /\ Sp.linL 1 1 3 1 (-1) 1 = [Sp.atP 2 1]:=by
 have n:¬(1:Rat) * -1 - 1 * 1 = 0:=by decide +kernel
 rw [(lin_2 n).1,(lin_2 n).2]
 exact ⟨rfl,by rw [show ((3:Rat) * -1 - 1 * 1) / (1 * -1 - 1 * 1) = 2 by decide +kernel,show ((1:Rat) * 1 - 1 * 3) / (1 * -1 - 1 * 1) = 1 by decide +kernel]⟩
theorem rsq1:Sp.rsq (1:Rat):=rsq_of (s:=1) (by decide +kernel)
theorem rt1:Sp.rt (1:Rat)=1:=Zf6 (rt_nn rsq1) (by decide +kernel) (by rw [Zhr rsq1];decide +kernel)
theorem ex_lc:Sp.Za3 0 1 1 0 0 2 = [Sp.atP (-1) 1,Sp.atP 1 1]:=by
 have fx:Sp.fX 0 1 1 0 0 = 0:=by unfold Sp.fX Sp.val2 Sp.Zdr;decide +kernel
 have fy:Sp.fY 0 1 1 0 0 = 1:=by unfold Sp.fY Sp.val2 Sp.Zdr;decide +kernel
 have d:Sp.dep 0 1 1 0 0 2 = 1:=by unfold Sp.dep;rw [fx,fy];unfold Sp.Zdr;decide +kernel
 have e:Sp.dn 0 1 = false:=decide_eq_false (by decide +kernel)
 rw [Zgy (by rw [d];decide +kernel),fx,fy,d]
 unfold Sp.dU Sp.dV Sp.Zdq
 rw [e,cond_false,cond_false,if_pos rsq1,if_pos rsq1,rt1,show (0:Rat) + -1 * 1 = -1 by decide +kernel,show (1:Rat) + - -0 * 1 = 1 by decide +kernel,show (0:Rat) + 1 * 1 = 1 by decide +kernel,show (1:Rat) + -0 * 1 = 1 by decide +kernel]
theorem ex_dep:Sp.dep 1 1 2 0 0 2 = 0 /\ Sp.Za3 1 1 2 0 0 2 = [Sp.atP 1 1]:=by
 have fx:Sp.fX 1 1 2 0 0 = 1:=by unfold Sp.fX Sp.val2 Sp.Zdr;decide +kernel
 have fy:Sp.fY 1 1 2 0 0 = 1:=by unfold Sp.fY Sp.val2 Sp.Zdr;decide +kernel
 have d:Sp.dep 1 1 2 0 0 2 = 0:=by unfold Sp.dep;rw [fx,fy];unfold Sp.Zdr;decide +kernel
 exact ⟨d,by rw [lineC_1 d,fx,fy]⟩
theorem ex_cir:Sp.Zee 0 0 1 1 0 1 = 0 /\ (Sp.Zhe 0 0 1 1 0 1).length = 2 /\ Sp.Zee 0 0 1 0 0 1 = 10:=by
 have n:¬((0:Rat) = 1 /\ (0:Rat) = 0):=by decide +kernel
 refine ⟨by unfold Sp.Zee;rw [if_neg n],?_,by unfold Sp.Zee;rw [if_pos ⟨rfl,rfl⟩,if_pos rfl]⟩
 unfold Sp.Zhe
 rw [if_neg n,Zgy ?_]
 ·rfl
 ·unfold Sp.rdA Sp.rdC Sp.dep Sp.fX Sp.fY Sp.val2 Sp.Zdr
  rw [q_2]
  decide +kernel
theorem ev11:Ev M1 (.pure 11 []) (.bool true) []:=by
 have I:∀ n:Int,n.natAbs < 1000000000 -> Sp.inI n:=fun n h => by unfold Sp.inI;omega
 have l1:Sp.Zg3 (Sp.qi 0) (Sp.qi 1) (Sp.qi 1):=⟨⟨sm_30 (by decide),sm_30 (by decide),sm_30 (by decide)⟩,.inr qi1_ne⟩
 have l2:Sp.Zg3 (Sp.qi 1) (Sp.qi 1) (Sp.qi 2):=⟨⟨sm_30 (by decide),sm_30 (by decide),sm_30 (by decide)⟩,.inl qi1_ne⟩
 have v0:Sp.okVn (Sp.qi 0) (Sp.qi 0):=⟨sm_30 (by decide),sm_30 (by decide)⟩
 have t2:Sp.okT 30 (Sp.qi 2):=sm_30 (by decide)
 have i1:Sp.okI2 (Sp.qi 0) (Sp.qi 0) (Sp.qi 1):=⟨sm_2 (by decide),sm_2 (by decide),sm_2 (by decide)⟩
 have i2:Sp.okI2 (Sp.qi 1) (Sp.qi 0) (Sp.qi 1):=⟨sm_2 (by decide),sm_2 (by decide),sm_2 (by decide)⟩
 have a1:Sp.okI2 (Sp.qi 1) (Sp.qi 1) (Sp.qi 3):=⟨sm_2 (by decide),sm_2 (by decide),sm_2 (by decide)⟩
 have a2:Sp.okI2 (Sp.qi 1) (Sp.qi (-1)) (Sp.qi 1):=⟨sm_2 (by decide),sm_2 (by decide),sm_2 (by decide)⟩
 have P:∀ m n:Int,m.natAbs < 1000000000 -> n.natAbs < 1000000000 -> Sp.Zgn (Sp.atP (Sp.qi m) (Sp.qi n)):=fun m n h k => okP5_at (okT_sm h) (okT_sm k) (by omega)
 have E:∀ {l m:List Pnt} (v:Bool),l = m -> Sp.okPL m -> Ev M1 (.pure 49 [.vec false 20 (l.map Pnt.a),.vec v 20 (m.map Pnt.a)]) (.bool (Sp.eqL l m)) []:=fun v e h => ev49 false v _ _ ⟨by rw [e];exact h,h⟩
 have V:∀ x y:Rat,Sp.ZbL (Sp.atP x y):=at_valid
 have e1:Sp.linL (Sp.qi 1) (Sp.qi 1) (Sp.qi 3) (Sp.qi 1) (Sp.qi (-1)) (Sp.qi 1) = [Sp.atP (Sp.qi 2) (Sp.qi 1)]:=by rw [q_1,q_2,q_3,q_m];exact ex_lin.2
 have e2:Sp.Za3 (Sp.qi 0) (Sp.qi 1) (Sp.qi 1) (Sp.qi 0) (Sp.qi 0) (Sp.qi 2) = [Sp.atP (Sp.qi (-1)) (Sp.qi 1),Sp.atP (Sp.qi 1) (Sp.qi 1)]:=by rw [q_1,q_2,q_m,qz];exact ex_lc
 have e3:Sp.Za3 (Sp.qi 1) (Sp.qi 1) (Sp.qi 2) (Sp.qi 0) (Sp.qi 0) (Sp.qi 2) = [Sp.atP (Sp.qi 1) (Sp.qi 1)]:=by rw [q_1,q_2,qz];exact ex_dep.2
 have k1:=E true e1 ⟨fun p hp => by rw [List.mem_singleton.1 hp];exact P _ _ (by decide) (by decide),by decide⟩
 have k2:=E true e2 ⟨fun p hp => by simp only [List.mem_cons,List.not_mem_nil,or_false] at hp;rcases hp with rfl | rfl <;> exact P _ _ (by decide) (by decide),by decide⟩
 have k3:=E true e3 ⟨fun p hp => by rw [List.mem_singleton.1 hp];exact P _ _ (by decide) (by decide),by decide⟩
 rw [e1,show Sp.eqL [Sp.atP (Sp.qi 2) (Sp.qi 1)] [Sp.atP (Sp.qi 2) (Sp.qi 1)] = true from ZfR ⟨Zfl _ _,trivial⟩] at k1
 rw [e2,show Sp.eqL [Sp.atP (Sp.qi (-1)) (Sp.qi 1),Sp.atP (Sp.qi 1) (Sp.qi 1)] [Sp.atP (Sp.qi (-1)) (Sp.qi 1),Sp.atP (Sp.qi 1) (Sp.qi 1)] = true from ZfR ⟨Zfl _ _,Zfl _ _,trivial⟩] at k2
 rw [e3,show Sp.eqL [Sp.atP (Sp.qi 1) (Sp.qi 1)] [Sp.atP (Sp.qi 1) (Sp.qi 1)] = true from ZfR ⟨Zfl _ _,trivial⟩] at k3
 rw [<- e1] at k1
 rw [<- e2] at k2
 rw [<- e3] at k3
 have m (n:Int) (h:n.natAbs < 1000000000:=by decide):Sp.inI n:=I n h
 refine call11 (wAwake _ ⟨⟨m 1,m 1,m 3⟩,⟨m 1,m (-1),m 1⟩,⟨okT3_S a1,okT3_S a2⟩,⟨m 0,m 1,m 1⟩,⟨m 0,m 0,m 2⟩,⟨l1,v0,t2⟩,⟨m 1,m 1,m 2⟩,⟨l2,v0,t2⟩,⟨m 0,m 0,m 1⟩,⟨m 1,m 0,m 1⟩,⟨i1,i2⟩,⟨i1,i1⟩,fun _ => ⟨m 2,m 1⟩,true,fun _ => ?_,fun _ => ⟨m (-1),m 1⟩,fun _ => ⟨m 1,m 1⟩,true,fun _ => ?_,fun _ => ⟨m 1,m 1⟩,true,fun _ => ?_,?_⟩)
 ·rw [e1] at k1 ⊢;exact k1
 ·rw [e2] at k2 ⊢;exact k2
 ·rw [e3] at k3 ⊢;exact k3
 ·rw [q_1,q_2,q_3,q_m,qz,ex_lin.1,ex_cir.1,ex_cir.2.1,ex_cir.2.2,decide_eq_true ex_dep.1]
  rfl
namespace Sp
end Sp
end Go.Av

namespace Go.Av
open Go.Proofs
set_option maxRecDepth 100000
end Go.Av

namespace Go.Av
open Go.Proofs
theorem rw_rat (a b c:Rat):Sp.okRw (Sp.Zac a.num) (Sp.Zac (a.den:Int)) (Sp.Zac b.num) (Sp.Zac (b.den:Int)) (Sp.Zac c.num) (Sp.Zac (c.den:Int)):=
 ⟨⟨fun v hv => (Zeh _ v hv).1,fun v hv => (Zeh _ v hv).1⟩,⟨fun v hv => (Zeh _ v hv).1,fun v hv => (Zeh _ v hv).1⟩,fun v hv => (Zeh _ v hv).1,fun v hv => (Zeh _ v hv).1⟩
end Go.Av

namespace Go.Av
open Go.Proofs
set_option maxRecDepth 100000
def fi7:Fi:=⟨110,[.tmp 6]⟩
def kp7:List (Nat × List Nat):=[(0,[3,4,5]),(1,[3,4,5,29]),(2,[6]),(3,[3,4,7]),(4,[3,4,7,8]),(5,[3,4,7,8]),(6,[3,4,7,8,9]),(7,[7,10,11]),(8,[7,10,11,75]),(9,[6]),(10,[7,10,11,77,78]),(11,[7,10,11,77,78,79]),(12,[7,10,11,12,77,78]),(13,[7,10,11,77,78,108]),(14,[6]),(15,[7,10,11,77,78]),(16,[6])]
def lwMv_at (a b c x y z u v r:Rat) (Q:AV->Heap->Prop):Prop:=Wp M1 (.run fi7 (atC (cd Tryz.f7) []) [(0,ZaE false false false false false false a b c),(1,ZaE false false false false false false x y z),(2,ZaE false false false false false false u v r)] []) Q
def lwMvR_at (s1 t1 f1 g1 s2 t2 f2 g2 s3 t3 f3 g3 s4 t4 f4 g4 s5 t5 f5 g5 s6 t6 f6 g6 s7 t7 f7 g7 s8 t8 f8 g8 s9 t9 f9 g9:Bool) (x1 y1 x2 y2 x3 y3 x4 y4 x5 y5 x6 y6 x7 y7 x8 y8 x9 y9:List Int) (Q:AV->Heap->Prop):Prop:=Wp M1 (.run fi7 (atC (cd Tryz.f7) []) [(0,.agg [.bool s1,.vec f1 1 (x1.map (.int .u32)),.bool t1,.vec g1 1 (y1.map (.int .u32)),.bool s2,.vec f2 1 (x2.map (.int .u32)),.bool t2,.vec g2 1 (y2.map (.int .u32)),.bool s3,.vec f3 1 (x3.map (.int .u32)),.bool t3,.vec g3 1 (y3.map (.int .u32))]),(1,.agg [.bool s4,.vec f4 1 (x4.map (.int .u32)),.bool t4,.vec g4 1 (y4.map (.int .u32)),.bool s5,.vec f5 1 (x5.map (.int .u32)),.bool t5,.vec g5 1 (y5.map (.int .u32)),.bool s6,.vec f6 1 (x6.map (.int .u32)),.bool t6,.vec g6 1 (y6.map (.int .u32))]),(2,.agg [.bool s7,.vec f7 1 (x7.map (.int .u32)),.bool t7,.vec g7 1 (y7.map (.int .u32)),.bool s8,.vec f8 1 (x8.map (.int .u32)),.bool t8,.vec g8 1 (y8.map (.int .u32)),.bool s9,.vec f9 1 (x9.map (.int .u32)),.bool t9,.vec g9 1 (y9.map (.int .u32))])] []) Q
def ZeP (u v:Rat) (l m:List Pnt) (n i:Int) (Q:AV->Heap->Prop):Prop:=Wp M1 (.run fi7 (atC (cd Tryz.f7) [1,1,1,1,1,1,1,1,0,1,0,0]) [(7,.ptr 0 0 0 0),(10,.vec false 20 (l.map Pnt.a)),(11,.vec false 20 (m.map Pnt.a)),(77,.int .i64 n),(78,.int .i64 i)] [⟨[.agg [.bool (Sp.Zaa u.num),.vec false 1 ((Sp.Zac u.num).map (.int .u32)),.bool (Sp.Zaa (u.den:Int)),.vec false 1 ((Sp.Zac (u.den:Int)).map (.int .u32)),.bool (Sp.Zaa v.num),.vec false 1 ((Sp.Zac v.num).map (.int .u32)),.bool (Sp.Zaa (v.den:Int)),.vec false 1 ((Sp.Zac (v.den:Int)).map (.int .u32))]],8,0,false,false⟩]) Q
theorem call7 {args:List AV} {d:AV} (h:wc M1 fi7 Tryz.f7 args d):Ev M1 (.pure 7 args) d []:=pcl _ _ (by kernel_rfl) h
noncomputable abbrev zNmK1 (a:Rat) (b:Rat) (c:Rat) (x:Rat) (y:Rat) (z:Rat) (u:Rat) (v:Rat) (r:Rat):=bif bif !Sp.lineBQ a b c then true else !Sp.ZgQ x y z then true else !Sp.ZgQ u v r
noncomputable abbrev zNmK2 (x:Rat) (y:Rat) (z:Rat):=Sp.ZgQ x y z
noncomputable abbrev zNmK3 (u:Rat) (v:Rat) (r:Rat):=Sp.ZgQ u v r
noncomputable abbrev zNmK4 (a:Rat) (b:Rat) (c:Rat) (x:Rat) (y:Rat) (z:Rat):=bif !Sp.lineBQ a b c then true else !Sp.ZgQ x y z
noncomputable abbrev zNmK5 (u:Rat) (v:Rat):=(vecF u v)
noncomputable abbrev zNmK6 (a:Rat) (b:Rat) (c:Rat):=Sp.lineBQ a b c
theorem lwMv (a b c x y z u v r:Rat)  (dq:AV) (H :
  (Sp.okRw (Sp.Zac a.num) (Sp.Zac (↑a.den:Int)) (Sp.Zac b.num) (Sp.Zac (↑b.den:Int)) (Sp.Zac c.num) (Sp.Zac (↑c.den:Int))) /\
  ((¬(¬(Sp.lineBQ a b c = true))) -> (Sp.okRw (Sp.Zac x.num) (Sp.Zac (↑x.den:Int)) (Sp.Zac y.num) (Sp.Zac (↑y.den:Int)) (Sp.Zac z.num) (Sp.Zac (↑z.den:Int)))) /\
  ((¬((¬(Sp.lineBQ a b c = true)) \/ (¬(Sp.ZgQ x y z = true)))) -> (Sp.okRw (Sp.Zac u.num) (Sp.Zac (↑u.den:Int)) (Sp.Zac v.num) (Sp.Zac (↑v.den:Int)) (Sp.Zac r.num) (Sp.Zac (↑r.den:Int)))) /\
  ((((¬(Sp.lineBQ a b c = true)) \/ (¬(Sp.ZgQ x y z = true))) \/ (¬(Sp.ZgQ u v r = true))) -> vb true = dq) /\
  (¬(((¬(Sp.lineBQ a b c = true)) \/ (¬(Sp.ZgQ x y z = true))) \/ (¬(Sp.ZgQ u v r = true))) -> (Sp.okR a /\ Sp.okR u) /\
   (Sp.okR b /\ Sp.okR v) /\
   (Sp.okR (a * u) /\ Sp.okR (b * v)) /\
   (Sp.okR c /\ Sp.okR (a * u + b * v)) /\
   (Sp.okR x /\ Sp.okR u) /\
   (Sp.okR y /\ Sp.okR v) /\
   (Sp.Zg3 a b c /\ Sp.okVn x y /\ Sp.okT 30 z) /\
   (Sp.Zg3 a b (c + (a * u + b * v)) /\ Sp.okVn (x + u) (y + v) /\ Sp.okT 30 z) /\
   ((¬(↑(Sp.Za3 a b c x y z).length:Int) = (↑(Sp.Za3 a b (c + (a * u + b * v)) (x + u) (y + v) z).length:Int)) -> vb false = dq) /\
   (¬(¬(↑(Sp.Za3 a b c x y z).length:Int) = (↑(Sp.Za3 a b (c + (a * u + b * v)) (x + u) (y + v) z).length:Int)) -> ZeP (u) (v) (Sp.Za3 a b c x y z) (Sp.Za3 a b (c + (a * u + b * v)) (x + u) (y + v) z) ((↑(Sp.Za3 a b c x y z).length:Int)) (0) (Zaf dq)))) :
 lwMv_at a b c x y z u v r (Zaf dq):=by
 unfold lwMv_at
 obtain ⟨k1,k3,k5,H⟩:=H
 refine Zae (G:=Zad kp7 [(1,0,.call (vb true) none),(1,4,.call (vb (zNmK6 a b c)) none),(1,9,.call (vb (zNmK2 x y z)) none),(1,14,.call (vb (zNmK3 u v r)) none)] []) 5 [] ⟨(atC (cd Tryz.f7) [1,0,1]),[(3,AV.ptr 0 0 0 0),(4,AV.ptr 1 0 0 0),(5,AV.ptr 2 0 0 0),(29,vb (zNmK1 a b c x y z u v r))],[⟨[ZaD a b c],12,0,false,false⟩,⟨[ZaD x y z],12,0,false,false⟩,⟨[ZaD u v r],12,0,false,false⟩],[true,!((!Sp.lineBQ a b c) == false && true) || true,!((zNmK4 a b c x y z) == false && true) || true],[],[⟨true,false,11,[],[],vb true,[]⟩,⟨true,false,12,[ZaD a b c],[],vb (zNmK6 a b c),[]⟩,⟨(!Sp.lineBQ a b c) == false && true && true,false,16,[ZaD x y z],[],vb (zNmK2 x y z),[]⟩,⟨(zNmK4 a b c x y z) == false && true && true,false,16,[ZaD u v r],[],vb (zNmK3 u v r),[]⟩]⟩ (by kernel_rfl) (bc rfl (bc (Bool.or_true _) (bc (Bool.or_true _) b0))) q0 (cc (fun _ => (@ev11 )) (cc (fun _ => (@ev12 (Sp.Zaa a.num) (Sp.Zaa (↑a.den:Int)) (false) (false) (Sp.Zaa b.num) (Sp.Zaa (↑b.den:Int)) (false) (false) (Sp.Zaa c.num) (Sp.Zaa (↑c.den:Int)) (false) (false) (Sp.Zac a.num) (Sp.Zac (↑a.den:Int)) (Sp.Zac b.num) (Sp.Zac (↑b.den:Int)) (Sp.Zac c.num) (Sp.Zac (↑c.den:Int)) k1)) (cc (fun hc => ((@ev16 (Sp.Zaa x.num) (Sp.Zaa (↑x.den:Int)) (false) (false) (Sp.Zaa y.num) (Sp.Zaa (↑y.den:Int)) (false) (false) (Sp.Zaa z.num) (Sp.Zaa (↑z.den:Int)) (false) (false) (Sp.Zac x.num) (Sp.Zac (↑x.den:Int)) (Sp.Zac y.num) (Sp.Zac (↑y.den:Int)) (Sp.Zac z.num) (Sp.Zac (↑z.den:Int)) (k3 ((i_at (i_at (i_bf (ZaF (Zav _))))).1 hc))):Ev M1 (Conf.pure 16 [ZaD x y z]) (vb (zNmK2 x y z)) [])) (cc (fun hc => ((@ev16 (Sp.Zaa u.num) (Sp.Zaa (↑u.den:Int)) (false) (false) (Sp.Zaa v.num) (Sp.Zaa (↑v.den:Int)) (false) (false) (Sp.Zaa r.num) (Sp.Zaa (↑r.den:Int)) (false) (false) (Sp.Zac u.num) (Sp.Zac (↑u.den:Int)) (Sp.Zac v.num) (Sp.Zac (↑v.den:Int)) (Sp.Zac r.num) (Sp.Zac (↑r.den:Int)) (k5 ((i_at (i_at (i_bf (ZaU (ZaF (Zav _)) (ZaF (Zav _)))))).1 hc))):Ev M1 (Conf.pure 16 [ZaD u v r]) (vb (zNmK3 u v r)) [])) c0)))) ?_
 rcases xq H with ⟨d7,H⟩|⟨d7,H⟩
 ·exact Zap (G:=Zad kp7 [(2,0,.call (vb true) none)] []) 1000 [true] (asm:=[(zNmK1 a b c x y z u v r) == true]) (vb true) (by kernel_rfl) (bc (Zaq ((ZaU (ZaU (ZaF (Zav _)) (ZaF (Zav _))) (ZaF (Zav _))).2 d7)) b0) q0 (ce (@ev11 ) c0) H
 ·obtain ⟨k8,k9,k10,k11,k12,k13,k14,k15,H⟩:=H
  have w16:(List.map Pnt.a (Sp.Za3 a b c x y z)).length = (Sp.Za3 a b c x y z).length:=List.length_map ..
  have w17:(List.map Pnt.a (Sp.Za3 a b (c + (a * u + b * v)) (x + u) (y + v) z)).length = (Sp.Za3 a b (c + (a * u + b * v)) (x + u) (y + v) z).length:=List.length_map ..
  have i18:((↑(List.map Pnt.a (Sp.Za3 a b c x y z)).length:Int) != (↑(List.map Pnt.a (Sp.Za3 a b (c + (a * u + b * v)) (x + u) (y + v) z)).length:Int)) = true ↔ (¬(↑(Sp.Za3 a b c x y z).length:Int) = (↑(Sp.Za3 a b (c + (a * u + b * v)) (x + u) (y + v) z).length:Int)):=(by (try rw [w16]);(try rw [w17]);all_goals exact i_ne)
  refine Zae (G:=Zad kp7 [(5,6,.call (ratF (a * u)) none),(5,11,.call (ratF (b * v)) none),(5,12,.call (ratF (a * u + b * v)) none),(5,13,.call (ratF (c + (a * u + b * v))) none),(6,4,.call (ratF (x + u)) none),(6,9,.call (ratF (y + v)) none),(7,2,.call (AV.vec false 20 (List.map Pnt.a (Sp.Za3 a b c x y z))) none),(7,5,.call (AV.vec false 20 (List.map Pnt.a (Sp.Za3 a b (c + (a * u + b * v)) (x + u) (y + v) z))) none)] []) 15 [false] ⟨(atC (cd Tryz.f7) [1,1,1,1,1,1,1,0,1]),[(7,AV.ptr 3 0 0 0),(10,AV.vec false 20 (List.map Pnt.a (Sp.Za3 a b c x y z))),(11,AV.vec false 20 (List.map Pnt.a (Sp.Za3 a b (c + (a * u + b * v)) (x + u) (y + v) z))),(75,vb ((↑(List.map Pnt.a (Sp.Za3 a b c x y z)).length:Int) != (↑(List.map Pnt.a (Sp.Za3 a b (c + (a * u + b * v)) (x + u) (y + v) z)).length:Int)))],[⟨[ZaD a b c],12,0,false,false⟩,⟨[ZaD x y z],12,0,false,false⟩,⟨[ZaD u v r],12,0,false,false⟩,⟨[(zNmK5 u v)],8,0,false,false⟩,⟨[ZaD a b (c + (a * u + b * v))],12,0,false,false⟩,⟨[ZaD (x + u) (y + v) z],12,0,false,false⟩],[(zNmK1 a b c x y z u v r) == false,true,true,true,true,true,true,true,true,true,true,true,true,true,true,true,true,true,true,true,true,true],[],_⟩ (by kernel_rfl) (bc (Zao (fun h => d7 ((ZaU (ZaU (ZaF (Zav _)) (ZaF (Zav _))) (ZaF (Zav _))).1 h))) (bc rfl (bc rfl (bc rfl (bc rfl (bc rfl (bc rfl (bc rfl (bc rfl (bc rfl (bc rfl (bc rfl (bc rfl (bc rfl (bc rfl (bc rfl (bc rfl (bc rfl (bc rfl (bc rfl (bc rfl (bc rfl b0)))))))))))))))))))))) q0 (ce (@ev35 (false) (false) (false) (false) (a) (u) k8) (ce (@ev35 (false) (false) (false) (false) (b) (v) k9) (ce (@ev34 (false) (false) (false) (false) (a * u) (b * v) k10) (ce (@ev34 (false) (false) (false) (false) (c) (a * u + b * v) k11) (ce (@ev34 (false) (false) (false) (false) (x) (u) k12) (ce (@ev34 (false) (false) (false) (false) (y) (v) k13) (ce (@ev17 (false) (false) (false) (false) (false) (false) (false) (false) (false) (false) (false) (false) (a) (b) (c) (x) (y) (z) k14) (ce (@ev17 (false) (false) (false) (false) (false) (false) (false) (false) (false) (false) (false) (false) (a) (b) (c + (a * u + b * v)) (x + u) (y + v) (z) k15) c0)))))))) ?_
  rcases xq H with ⟨d19,H⟩|⟨d19,H⟩
  ·exact Zap (G:=Zad kp7 [] []) 1000 [true] (vb false) (by kernel_rfl) (bc (Zaq (i18.2 d19)) b0) q0 c0 H
  ·exact Zae (G:=Zad kp7 [] []) 1000 [false] ⟨(atC (cd Tryz.f7) [1,1,1,1,1,1,1,1,0,1,0,0]),[(7,AV.ptr 3 0 0 0),(10,AV.vec false 20 (List.map Pnt.a (Sp.Za3 a b c x y z))),(11,AV.vec false 20 (List.map Pnt.a (Sp.Za3 a b (c + (a * u + b * v)) (x + u) (y + v) z))),(77,vi (↑(List.map Pnt.a (Sp.Za3 a b c x y z)).length:Int)),(78,vi 0)],[⟨[ZaD a b c],12,0,false,false⟩,⟨[ZaD x y z],12,0,false,false⟩,⟨[ZaD u v r],12,0,false,false⟩,⟨[(zNmK5 u v)],8,0,false,false⟩,⟨[ZaD a b (c + (a * u + b * v))],12,0,false,false⟩,⟨[ZaD (x + u) (y + v) z],12,0,false,false⟩],_,[],_⟩ (by kernel_rfl) (bc (Zao (fun h => d19 (i18.1 h))) b0) q0 c0 (by (try rw [w16]);all_goals exact ZbK [3] (by kernel_rfl) H)
noncomputable abbrev zNmK7 (s4:Bool) (f4:Bool) (x4:List Int) (t4:Bool) (g4:Bool) (y4:List Int) (s5:Bool) (f5:Bool) (x5:List Int) (t5:Bool) (g5:Bool) (y5:List Int) (s6:Bool) (f6:Bool) (x6:List Int) (t6:Bool) (g6:Bool) (y6:List Int):=ag [vb s4,AV.vec f4 1 (us x4),vb t4,AV.vec g4 1 (us y4),vb s5,AV.vec f5 1 (us x5),vb t5,AV.vec g5 1 (us y5),vb s6,AV.vec f6 1 (us x6),vb t6,AV.vec g6 1 (us y6)]
noncomputable abbrev zNmK8 (s7:Bool) (f7:Bool) (x7:List Int) (t7:Bool) (g7:Bool) (y7:List Int) (s8:Bool) (f8:Bool) (x8:List Int) (t8:Bool) (g8:Bool) (y8:List Int) (s9:Bool) (f9:Bool) (x9:List Int) (t9:Bool) (g9:Bool) (y9:List Int):=ag [vb s7,AV.vec f7 1 (us x7),vb t7,AV.vec g7 1 (us y7),vb s8,AV.vec f8 1 (us x8),vb t8,AV.vec g8 1 (us y8),vb s9,AV.vec f9 1 (us x9),vb t9,AV.vec g9 1 (us y9)]
theorem lwMvR (s1 t1 f1 g1 s2 t2 f2 g2 s3 t3 f3 g3 s4 t4 f4 g4 s5 t5 f5 g5 s6 t6 f6 g6 s7 t7 f7 g7 s8 t8 f8 g8 s9 t9 f9 g9:Bool) (x1 y1 x2 y2 x3 y3 x4 y4 x5 y5 x6 y6 x7 y7 x8 y8 x9 y9:List Int)  (dq:AV) (H :
  (Sp.okRw x1 y1 x2 y2 x3 y3) /\
  ((¬(¬(Sp.Zed s1 t1 s2 t2 s3 t3 x1 y1 x2 y2 x3 y3 = true))) -> (Sp.okRw x4 y4 x5 y5 x6 y6)) /\
  ((¬((¬(Sp.Zed s1 t1 s2 t2 s3 t3 x1 y1 x2 y2 x3 y3 = true)) \/ (¬(Sp.Zc1 s4 t4 s5 t5 s6 t6 x4 y4 x5 y5 x6 y6 = true)))) -> (Sp.okRw x7 y7 x8 y8 x9 y9)) /\
  ((((¬(Sp.Zed s1 t1 s2 t2 s3 t3 x1 y1 x2 y2 x3 y3 = true)) \/ (¬(Sp.Zc1 s4 t4 s5 t5 s6 t6 x4 y4 x5 y5 x6 y6 = true))) \/ (¬(Sp.Zc1 s7 t7 s8 t8 s9 t9 x7 y7 x8 y8 x9 y9 = true))) -> vb true = dq) /\
  (¬(((¬(Sp.Zed s1 t1 s2 t2 s3 t3 x1 y1 x2 y2 x3 y3 = true)) \/ (¬(Sp.Zc1 s4 t4 s5 t5 s6 t6 x4 y4 x5 y5 x6 y6 = true))) \/ (¬(Sp.Zc1 s7 t7 s8 t8 s9 t9 x7 y7 x8 y8 x9 y9 = true))) -> False)) :
 lwMvR_at s1 t1 f1 g1 s2 t2 f2 g2 s3 t3 f3 g3 s4 t4 f4 g4 s5 t5 f5 g5 s6 t6 f6 g6 s7 t7 f7 g7 s8 t8 f8 g8 s9 t9 f9 g9 x1 y1 x2 y2 x3 y3 x4 y4 x5 y5 x6 y6 x7 y7 x8 y8 x9 y9 (Zaf dq):=by
 unfold lwMvR_at
 obtain ⟨k1,k3,k5,H⟩:=H
 refine Zae (G:=Zad kp7 [(1,0,.call (vb true) none),(1,4,.call (vb (Sp.Zed s1 t1 s2 t2 s3 t3 x1 y1 x2 y2 x3 y3)) none),(1,9,.call (vb (Sp.Zc1 s4 t4 s5 t5 s6 t6 x4 y4 x5 y5 x6 y6)) none),(1,14,.call (vb (Sp.Zc1 s7 t7 s8 t8 s9 t9 x7 y7 x8 y8 x9 y9)) none)] []) 5 [] ⟨(atC (cd Tryz.f7) [1,0,1]),[(3,AV.ptr 0 0 0 0),(4,AV.ptr 1 0 0 0),(5,AV.ptr 2 0 0 0),(29,vb (bif bif !Sp.Zed s1 t1 s2 t2 s3 t3 x1 y1 x2 y2 x3 y3 then true else !Sp.Zc1 s4 t4 s5 t5 s6 t6 x4 y4 x5 y5 x6 y6 then true else !Sp.Zc1 s7 t7 s8 t8 s9 t9 x7 y7 x8 y8 x9 y9))],[⟨[ag [vb s1,AV.vec f1 1 (us x1),vb t1,AV.vec g1 1 (us y1),vb s2,AV.vec f2 1 (us x2),vb t2,AV.vec g2 1 (us y2),vb s3,AV.vec f3 1 (us x3),vb t3,AV.vec g3 1 (us y3)]],12,0,false,false⟩,⟨[(zNmK7 s4 f4 x4 t4 g4 y4 s5 f5 x5 t5 g5 y5 s6 f6 x6 t6 g6 y6)],12,0,false,false⟩,⟨[(zNmK8 s7 f7 x7 t7 g7 y7 s8 f8 x8 t8 g8 y8 s9 f9 x9 t9 g9 y9)],12,0,false,false⟩],[true,!((!Sp.Zed s1 t1 s2 t2 s3 t3 x1 y1 x2 y2 x3 y3) == false && true) || true,!((bif !Sp.Zed s1 t1 s2 t2 s3 t3 x1 y1 x2 y2 x3 y3 then true else !Sp.Zc1 s4 t4 s5 t5 s6 t6 x4 y4 x5 y5 x6 y6) == false && true) || true],[],[⟨true,false,11,[],[],vb true,[]⟩,⟨true,false,12,[ag [vb s1,AV.vec f1 1 (us x1),vb t1,AV.vec g1 1 (us y1),vb s2,AV.vec f2 1 (us x2),vb t2,AV.vec g2 1 (us y2),vb s3,AV.vec f3 1 (us x3),vb t3,AV.vec g3 1 (us y3)]],[],vb (Sp.Zed s1 t1 s2 t2 s3 t3 x1 y1 x2 y2 x3 y3),[]⟩,⟨(!Sp.Zed s1 t1 s2 t2 s3 t3 x1 y1 x2 y2 x3 y3) == false && true && true,false,16,[(zNmK7 s4 f4 x4 t4 g4 y4 s5 f5 x5 t5 g5 y5 s6 f6 x6 t6 g6 y6)],[],vb (Sp.Zc1 s4 t4 s5 t5 s6 t6 x4 y4 x5 y5 x6 y6),[]⟩,⟨(bif !Sp.Zed s1 t1 s2 t2 s3 t3 x1 y1 x2 y2 x3 y3 then true else !Sp.Zc1 s4 t4 s5 t5 s6 t6 x4 y4 x5 y5 x6 y6) == false && true && true,false,16,[(zNmK8 s7 f7 x7 t7 g7 y7 s8 f8 x8 t8 g8 y8 s9 f9 x9 t9 g9 y9)],[],vb (Sp.Zc1 s7 t7 s8 t8 s9 t9 x7 y7 x8 y8 x9 y9),[]⟩]⟩ (by kernel_rfl) (bc rfl (bc (Bool.or_true _) (bc (Bool.or_true _) b0))) q0 (cc (fun _ => (@ev11 )) (cc (fun _ => (@ev12 (s1) (t1) (f1) (g1) (s2) (t2) (f2) (g2) (s3) (t3) (f3) (g3) (x1) (y1) (x2) (y2) (x3) (y3) k1)) (cc (fun hc => ((@ev16 (s4) (t4) (f4) (g4) (s5) (t5) (f5) (g5) (s6) (t6) (f6) (g6) (x4) (y4) (x5) (y5) (x6) (y6) (k3 ((i_at (i_at (i_bf (ZaF (Zav _))))).1 hc))):Ev M1 (Conf.pure 16 [(zNmK7 s4 f4 x4 t4 g4 y4 s5 f5 x5 t5 g5 y5 s6 f6 x6 t6 g6 y6)]) (vb (Sp.Zc1 s4 t4 s5 t5 s6 t6 x4 y4 x5 y5 x6 y6)) [])) (cc (fun hc => ((@ev16 (s7) (t7) (f7) (g7) (s8) (t8) (f8) (g8) (s9) (t9) (f9) (g9) (x7) (y7) (x8) (y8) (x9) (y9) (k5 ((i_at (i_at (i_bf (ZaU (ZaF (Zav _)) (ZaF (Zav _)))))).1 hc))):Ev M1 (Conf.pure 16 [(zNmK8 s7 f7 x7 t7 g7 y7 s8 f8 x8 t8 g8 y8 s9 f9 x9 t9 g9 y9)]) (vb (Sp.Zc1 s7 t7 s8 t8 s9 t9 x7 y7 x8 y8 x9 y9)) [])) c0)))) ?_
 rcases xq H with ⟨d7,H⟩|⟨d7,H⟩
 ·exact Zap (G:=Zad kp7 [(2,0,.call (vb true) none)] []) 1000 [true] (asm:=[(bif bif !Sp.Zed s1 t1 s2 t2 s3 t3 x1 y1 x2 y2 x3 y3 then true else !Sp.Zc1 s4 t4 s5 t5 s6 t6 x4 y4 x5 y5 x6 y6 then true else !Sp.Zc1 s7 t7 s8 t8 s9 t9 x7 y7 x8 y8 x9 y9) == true]) (vb true) (by kernel_rfl) (bc (Zaq ((ZaU (ZaU (ZaF (Zav _)) (ZaF (Zav _))) (ZaF (Zav _))).2 d7)) b0) q0 (ce (@ev11 ) c0) H
 ·exact False.elim H
noncomputable abbrev zNmK9 (m:List Pnt) (i:Int):=(Pnt.a (m.getD i.toNat default))
noncomputable abbrev ZfX (l:List Pnt) (i:Int):=(Pnt.a (l.getD i.toNat default))
noncomputable abbrev zNmK11 (l:List Pnt) (i:Int) (u:Rat) (v:Rat):=(pntF ((l.getD i.toNat default).ax+u) (l.getD i.toNat default).bx ((l.getD i.toNat default).ay+v) (l.getD i.toNat default).by_ (l.getD i.toNat default).c)
noncomputable abbrev Zdw (l:List Pnt) (i:Int) (m:List Pnt):=bif !Sp.vP (l.getD i.toNat default).ax (l.getD i.toNat default).bx (l.getD i.toNat default).ay (l.getD i.toNat default).by_ (l.getD i.toNat default).c then true else !Sp.vP (m.getD i.toNat default).ax (m.getD i.toNat default).bx (m.getD i.toNat default).ay (m.getD i.toNat default).by_ (m.getD i.toNat default).c
noncomputable abbrev zNmK13 (u:Rat) (v:Rat):=(vecF u v)
noncomputable abbrev zNmK14 (l:List Pnt) (i:Int):=Sp.vP (l.getD i.toNat default).ax (l.getD i.toNat default).bx (l.getD i.toNat default).ay (l.getD i.toNat default).by_ (l.getD i.toNat default).c=true
noncomputable abbrev zNmK15 (m:List Pnt) (i:Int):=Sp.vP (m.getD i.toNat default).ax (m.getD i.toNat default).bx (m.getD i.toNat default).ay (m.getD i.toNat default).by_ (m.getD i.toNat default).c=true
noncomputable abbrev zNmK16 (m:List Pnt) (i:Int):=Sp.vP (m.getD i.toNat default).ax (m.getD i.toNat default).bx (m.getD i.toNat default).ay (m.getD i.toNat default).by_ (m.getD i.toNat default).c
noncomputable abbrev zNmK17 (l:List Pnt) (i:Int):=Sp.vP (l.getD i.toNat default).ax (l.getD i.toNat default).bx (l.getD i.toNat default).ay (l.getD i.toNat default).by_ (l.getD i.toNat default).c
theorem lwMvH (u v:Rat) (l m:List Pnt) (n i:Int)  (dq:AV) (H :
  ((i < n) -> (Sp.Zgn (l.getD i.toNat default)) /\
   ((¬(¬(Sp.vP (l.getD i.toNat default).ax (l.getD i.toNat default).bx (l.getD i.toNat default).ay (l.getD i.toNat default).by_ (l.getD i.toNat default).c = true))) -> (Sp.Zgn (m.getD i.toNat default))) /\
   ((¬((¬(Sp.vP (l.getD i.toNat default).ax (l.getD i.toNat default).bx (l.getD i.toNat default).ay (l.getD i.toNat default).by_ (l.getD i.toNat default).c = true)) \/ (¬(Sp.vP (m.getD i.toNat default).ax (m.getD i.toNat default).bx (m.getD i.toNat default).ay (m.getD i.toNat default).by_ (m.getD i.toNat default).c = true)))) -> (Sp.Zgn (l.getD i.toNat default) /\ Sp.okT 40 u /\ Sp.okT 40 v)) /\
   ((¬((¬(Sp.vP (l.getD i.toNat default).ax (l.getD i.toNat default).bx (l.getD i.toNat default).ay (l.getD i.toNat default).by_ (l.getD i.toNat default).c = true)) \/ (¬(Sp.vP (m.getD i.toNat default).ax (m.getD i.toNat default).bx (m.getD i.toNat default).ay (m.getD i.toNat default).by_ (m.getD i.toNat default).c = true)))) -> (Sp.Zgn { ax:=(l.getD i.toNat default).ax + u,bx:=(l.getD i.toNat default).bx,ay:=(l.getD i.toNat default).ay + v,by_:=(l.getD i.toNat default).by_,c:=(l.getD i.toNat default).c } /\ Sp.Zgn (m.getD i.toNat default))) /\
   (0 <= i) /\
   (i.toNat < l.length) /\
   ((¬(¬(Sp.vP (l.getD i.toNat default).ax (l.getD i.toNat default).bx (l.getD i.toNat default).ay (l.getD i.toNat default).by_ (l.getD i.toNat default).c = true))) -> (i.toNat < m.length)) /\
   ((¬((¬(Sp.vP (l.getD i.toNat default).ax (l.getD i.toNat default).bx (l.getD i.toNat default).ay (l.getD i.toNat default).by_ (l.getD i.toNat default).c = true)) \/ (¬(Sp.vP (m.getD i.toNat default).ax (m.getD i.toNat default).bx (m.getD i.toNat default).ay (m.getD i.toNat default).by_ (m.getD i.toNat default).c = true)))) -> (i.toNat < m.length)) /\
   ((((¬(Sp.vP (l.getD i.toNat default).ax (l.getD i.toNat default).bx (l.getD i.toNat default).ay (l.getD i.toNat default).by_ (l.getD i.toNat default).c = true)) \/ (¬(Sp.vP (m.getD i.toNat default).ax (m.getD i.toNat default).bx (m.getD i.toNat default).ay (m.getD i.toNat default).by_ (m.getD i.toNat default).c = true))) \/ (¬(Sp.Zew { ax:=(l.getD i.toNat default).ax + u,bx:=(l.getD i.toNat default).bx,ay:=(l.getD i.toNat default).ay + v,by_:=(l.getD i.toNat default).by_,c:=(l.getD i.toNat default).c } (m.getD i.toNat default) = 0))) -> vb false = dq) /\
   (¬(((¬(Sp.vP (l.getD i.toNat default).ax (l.getD i.toNat default).bx (l.getD i.toNat default).ay (l.getD i.toNat default).by_ (l.getD i.toNat default).c = true)) \/ (¬(Sp.vP (m.getD i.toNat default).ax (m.getD i.toNat default).bx (m.getD i.toNat default).ay (m.getD i.toNat default).by_ (m.getD i.toNat default).c = true))) \/ (¬(Sp.Zew { ax:=(l.getD i.toNat default).ax + u,bx:=(l.getD i.toNat default).bx,ay:=(l.getD i.toNat default).ay + v,by_:=(l.getD i.toNat default).by_,c:=(l.getD i.toNat default).c } (m.getD i.toNat default) = 0))) -> (-9223372036854775808 <= i + 1 /\ i + 1 <= 9223372036854775807) /\
    ZeP (u) (v) (l) (m) (n) (i + 1) (Zaf dq))) /\
  (¬(i < n) -> vb true = dq)) :
 ZeP u v l m n i (Zaf dq):=by
 unfold ZeP
 rcases xq H with ⟨d2,H⟩|⟨d2,H⟩
 ·obtain ⟨k3,k5,k7,k9,k11,H⟩:=H
  have w12:(List.map Pnt.a l).length = l.length:=List.length_map ..
  have i13:(decide (i.toNat < (List.map Pnt.a l).length)) = true ↔ (i.toNat < l.length):=(by (try rw [w12]);all_goals exact Zab)
  obtain ⟨k14,H⟩:=H
  have w16:(List.map Pnt.a m).length = m.length:=List.length_map ..
  have i17:(!((!Sp.vP (l.getD i.toNat default).ax (l.getD i.toNat default).bx (l.getD i.toNat default).ay (l.getD i.toNat default).by_ (l.getD i.toNat default).c) == false && true) || decide (i.toNat < (List.map Pnt.a m).length)) = true ↔ ((¬(¬(zNmK14 l i))) -> (i.toNat < m.length)):=(by (try rw [w16]);all_goals exact (Zdt (i_at (i_bf (ZaF (Zav _)))) Zab))
  obtain ⟨k18,H⟩:=H
  have i20:(!((Zdw l i m) == false && true) || decide (i.toNat < (List.map Pnt.a l).length)) = true ↔ ((¬((¬(zNmK14 l i)) \/ (¬(zNmK15 m i)))) -> (i.toNat < l.length)):=(by (try rw [w12]);all_goals exact (Zdt (i_at (i_bf (ZaU (ZaF (Zav _)) (ZaF (Zav _))))) Zab))
  have i22:(!((Zdw l i m) == false && true) || decide (i.toNat < (List.map Pnt.a m).length)) = true ↔ ((¬((¬(zNmK14 l i)) \/ (¬(zNmK15 m i)))) -> (i.toNat < m.length)):=(by (try rw [w16]);all_goals exact (Zdt (i_at (i_bf (ZaU (ZaF (Zav _)) (ZaF (Zav _))))) Zab))
  obtain ⟨k23,H⟩:=H
  refine Zae (G:=Zad kp7 [(13,3,.elem ((ZfX l i))),(13,4,.call (vb (zNmK17 l i)) none),(13,10,.elem ((zNmK9 m i))),(13,11,.call (vb (zNmK16 m i)) none),(13,18,.elem ((ZfX l i))),(13,20,.call ((zNmK11 l i u v)) none),(13,24,.elem ((zNmK9 m i))),(13,25,.call (vb (decide (Sp.Zew { ax:=(l.getD i.toNat default).ax + u,bx:=(l.getD i.toNat default).bx,ay:=(l.getD i.toNat default).ay + v,by_:=(l.getD i.toNat default).by_,c:=(l.getD i.toNat default).c } (m.getD i.toNat default) = 0))) none)] []) 11 [true] ⟨(atC (cd Tryz.f7) [1,1,1,1,1,1,1,1,0,1,0,0,1,1,0,0,1,1]),[(7,AV.ptr 0 0 0 0),(10,AV.vec false 20 (List.map Pnt.a l)),(11,AV.vec false 20 (List.map Pnt.a m)),(77,vi n),(78,vi i),(108,vb (bif bif !Sp.vP (l.getD i.toNat default).ax (l.getD i.toNat default).bx (l.getD i.toNat default).ay (l.getD i.toNat default).by_ (l.getD i.toNat default).c then true else !Sp.vP (m.getD i.toNat default).ax (m.getD i.toNat default).bx (m.getD i.toNat default).ay (m.getD i.toNat default).by_ (m.getD i.toNat default).c then true else !decide (Sp.Zew { ax:=(l.getD i.toNat default).ax + u,bx:=(l.getD i.toNat default).bx,ay:=(l.getD i.toNat default).ay + v,by_:=(l.getD i.toNat default).by_,c:=(l.getD i.toNat default).c } (m.getD i.toNat default) = 0)))],[⟨[(zNmK13 u v)],8,0,false,false⟩],[(decide (i < n)) == true,decide (0 <= i),decide (i.toNat < (List.map Pnt.a l).length),!((!Sp.vP (l.getD i.toNat default).ax (l.getD i.toNat default).bx (l.getD i.toNat default).ay (l.getD i.toNat default).by_ (l.getD i.toNat default).c) == false && true) || decide (0 <= i),!((!Sp.vP (l.getD i.toNat default).ax (l.getD i.toNat default).bx (l.getD i.toNat default).ay (l.getD i.toNat default).by_ (l.getD i.toNat default).c) == false && true) || decide (i.toNat < (List.map Pnt.a m).length),!((Zdw l i m) == false && true) || decide (0 <= i),!((Zdw l i m) == false && true) || decide (i.toNat < (List.map Pnt.a l).length),!((Zdw l i m) == false && true) || true,!((Zdw l i m) == false && true) || decide (0 <= i),!((Zdw l i m) == false && true) || decide (i.toNat < (List.map Pnt.a m).length)],[((List.map Pnt.a l).get?Internal i.toNat = some ((ZfX l i))),(((!Sp.vP (l.getD i.toNat default).ax (l.getD i.toNat default).bx (l.getD i.toNat default).ay (l.getD i.toNat default).by_ (l.getD i.toNat default).c) == false && true) = true -> (List.map Pnt.a m).get?Internal i.toNat = some ((zNmK9 m i))),(((Zdw l i m) == false && true) = true -> (List.map Pnt.a l).get?Internal i.toNat = some ((ZfX l i))),(((Zdw l i m) == false && true) = true -> (List.map Pnt.a m).get?Internal i.toNat = some ((zNmK9 m i)))],[⟨true,false,36,[(ZfX l i)],[],vb (zNmK17 l i),[]⟩,⟨(!Sp.vP (l.getD i.toNat default).ax (l.getD i.toNat default).bx (l.getD i.toNat default).ay (l.getD i.toNat default).by_ (l.getD i.toNat default).c) == false && true && true,false,36,[(zNmK9 m i)],[],vb (zNmK16 m i),[]⟩,⟨(Zdw l i m) == false && true && true,false,38,[(ZfX l i),(zNmK13 u v)],[],(zNmK11 l i u v),[]⟩,⟨(Zdw l i m) == false && true && true,false,37,[(zNmK11 l i u v),(zNmK9 m i)],[],vb (decide (Sp.Zew { ax:=(l.getD i.toNat default).ax + u,bx:=(l.getD i.toNat default).bx,ay:=(l.getD i.toNat default).ay + v,by_:=(l.getD i.toNat default).by_,c:=(l.getD i.toNat default).c } (m.getD i.toNat default) = 0)),[]⟩]⟩ (by kernel_rfl) (bc (Zaq (Zab.2 d2)) (bc (Zab.2 k11) (bc (i13.2 k14) (bc ((Zdt (i_at (i_bf (ZaF (Zav _)))) Zab).2 (fun _ => k11)) (bc (i17.2 k18) (bc ((Zdt (i_at (i_bf (ZaU (ZaF (Zav _)) (ZaF (Zav _))))) Zab).2 (fun _ => k11)) (bc (i20.2 (fun _ => k14)) (bc (Bool.or_true _) (bc ((Zdt (i_at (i_bf (ZaU (ZaF (Zav _)) (ZaF (Zav _))))) Zab).2 (fun _ => k11)) (bc (i22.2 k23) b0)))))))))) (qc (Zar k14) (qc (fun h => Zar (k18 ((i_at (i_bf (ZaF (Zav _)))).1 h))) (qc (fun h => Zar k14) (qc (fun h => Zar (k23 ((i_at (i_bf (ZaU (ZaF (Zav _)) (ZaF (Zav _))))).1 h))) q0)))) (cc (fun _ => (@ev36 (false) (false) (false) (false) (false) (false) (false) (false) (false) (false) ((l.getD i.toNat default).ax) ((l.getD i.toNat default).bx) ((l.getD i.toNat default).ay) ((l.getD i.toNat default).by_) ((l.getD i.toNat default).c) k3)) (cc (fun hc => ((@ev36 (false) (false) (false) (false) (false) (false) (false) (false) (false) (false) ((m.getD i.toNat default).ax) ((m.getD i.toNat default).bx) ((m.getD i.toNat default).ay) ((m.getD i.toNat default).by_) ((m.getD i.toNat default).c) (k5 ((i_at (i_at (i_bf (ZaF (Zav _))))).1 hc))):Ev M1 (Conf.pure 36 [(zNmK9 m i)]) (vb (zNmK16 m i)) [])) (cc (fun hc => ((@ev38 (false) (false) (false) (false) (false) (false) (false) (false) (false) (false) (false) (false) (false) (false) ((l.getD i.toNat default).ax) ((l.getD i.toNat default).bx) ((l.getD i.toNat default).ay) ((l.getD i.toNat default).by_) ((l.getD i.toNat default).c) (u) (v) (k7 ((i_at (i_at (i_bf (ZaU (ZaF (Zav _)) (ZaF (Zav _)))))).1 hc))):Ev M1 (Conf.pure 38 [(ZfX l i),(zNmK13 u v)]) ((zNmK11 l i u v)) [])) (cc (fun hc => ((@ev37 (false) (false) (false) (false) (false) (false) (false) (false) (false) (false) (false) (false) (false) (false) (false) (false) (false) (false) (false) (false) ((l.getD i.toNat default).ax + u) ((l.getD i.toNat default).bx) ((l.getD i.toNat default).ay + v) ((l.getD i.toNat default).by_) ((l.getD i.toNat default).c) ((m.getD i.toNat default).ax) ((m.getD i.toNat default).bx) ((m.getD i.toNat default).ay) ((m.getD i.toNat default).by_) ((m.getD i.toNat default).c) (k9 ((i_at (i_at (i_bf (ZaU (ZaF (Zav _)) (ZaF (Zav _)))))).1 hc))):Ev M1 (Conf.pure 37 [(zNmK11 l i u v),(zNmK9 m i)]) (vb (decide (Sp.Zew { ax:=(l.getD i.toNat default).ax + u,bx:=(l.getD i.toNat default).bx,ay:=(l.getD i.toNat default).ay + v,by_:=(l.getD i.toNat default).by_,c:=(l.getD i.toNat default).c } (m.getD i.toNat default) = 0))) [])) c0)))) ?_
  rcases xq H with ⟨d28,H⟩|⟨d28,H⟩
  ·exact Zap (G:=Zad kp7 [] []) 1000 [true] (asm:=[(bif bif !Sp.vP (l.getD i.toNat default).ax (l.getD i.toNat default).bx (l.getD i.toNat default).ay (l.getD i.toNat default).by_ (l.getD i.toNat default).c then true else !Sp.vP (m.getD i.toNat default).ax (m.getD i.toNat default).bx (m.getD i.toNat default).ay (m.getD i.toNat default).by_ (m.getD i.toNat default).c then true else !decide (Sp.Zew { ax:=(l.getD i.toNat default).ax + u,bx:=(l.getD i.toNat default).bx,ay:=(l.getD i.toNat default).ay + v,by_:=(l.getD i.toNat default).by_,c:=(l.getD i.toNat default).c } (m.getD i.toNat default) = 0)) == true]) (vb false) (by kernel_rfl) (bc (Zaq ((ZaU (ZaU (ZaF (Zav _)) (ZaF (Zav _))) (ZaF Zab)).2 d28)) b0) q0 c0 H
  ·obtain ⟨k29,H⟩:=H
   have w30:wi (i + 1) = i + 1:=wI64 k29
   exact Zae (G:=Zad kp7 [] []) 1000 [false] ⟨(atC (cd Tryz.f7) [1,1,1,1,1,1,1,1,0,1,0,0]),[(7,AV.ptr 0 0 0 0),(10,AV.vec false 20 (List.map Pnt.a l)),(11,AV.vec false 20 (List.map Pnt.a m)),(77,vi n),(78,vi (wi (i + 1)))],[⟨[(zNmK13 u v)],8,0,false,false⟩],[(bif bif !Sp.vP (l.getD i.toNat default).ax (l.getD i.toNat default).bx (l.getD i.toNat default).ay (l.getD i.toNat default).by_ (l.getD i.toNat default).c then true else !Sp.vP (m.getD i.toNat default).ax (m.getD i.toNat default).bx (m.getD i.toNat default).ay (m.getD i.toNat default).by_ (m.getD i.toNat default).c then true else !decide (Sp.Zew { ax:=(l.getD i.toNat default).ax + u,bx:=(l.getD i.toNat default).bx,ay:=(l.getD i.toNat default).ay + v,by_:=(l.getD i.toNat default).by_,c:=(l.getD i.toNat default).c } (m.getD i.toNat default) = 0)) == false],[],_⟩ (by kernel_rfl) (bc (Zao (fun h => d28 ((ZaU (ZaU (ZaF (Zav _)) (ZaF (Zav _))) (ZaF Zab)).1 h))) b0) q0 c0 (by (try rw [w30]);all_goals exact H)
 ·exact Zap (G:=Zad kp7 [] []) 1000 [false] (vb true) (by kernel_rfl) (bc (Zao (fun h => d2 (Zab.1 h))) b0) q0 c0 H
end Go.Av

namespace Go.Av
open Go.Proofs
theorem okP5_mv {p:Pnt} {u v:Rat} (h:Sp.okP4 p) (hu:Sp.okT 40 u) (hv:Sp.okT 40 v):Sp.Zgn (Sp.mvP p u v):=
 ⟨⟨Zay (ZaH h.1.1 hu) (by omega),Zay h.1.2 (by omega)⟩,⟨Zay (ZaH h.2.1.1 hv) (by omega),Zay h.2.1.2 (by omega)⟩,h.2.2⟩
theorem mv_loop {u v:Rat} {l:List Pnt} (hu:Sp.okT 40 u) (hv:Sp.okT 40 v) (h:∀ p ∈ l,Sp.okP4 p /\ Sp.ZbL p) (hl:l.length <= 100) (k:Nat):∀ i:Nat,i + k = l.length -> ZeP u v l (l.map fun p => Sp.mvP p u v) l.length i (Zaf (.bool true)):=by
 induction k with
 | zero => exact fun i e => lwMvH _ _ _ _ _ _ _ ⟨fun x => by omega,fun _ => rfl⟩
 | succ k ih =>
  intro i e2
  have hi:i < l.length:=by omega
  have gm:(l.map fun p => Sp.mvP p u v).getD i default = Sp.mvP (l.getD i default) u v:=by
   rw [List.getD_eq_getElem?_getD,List.getD_eq_getElem?_getD,List.getElem?_map,List.getElem?_eq_getElem hi];rfl
  obtain ⟨p4,pv⟩:=h _ (ZfQ (d:=l) (i:=i) hi)
  have o5:=okP5_4 p4
  have m5:=okP5_mv p4 hu hv
  have pm:Sp.ZbL (Sp.mvP (l.getD i default) u v):=pv
  have nx:=ih (i + 1) (by omega)
  have lm:i < (l.map fun p => Sp.mvP p u v).length:=by rw [List.length_map];exact hi
  refine lwMvH _ _ _ _ _ _ _ ⟨fun x => ?_,fun x => by omega⟩
  rw [Int.toNat_natCast,gm,show (i:Int) + 1 = ((i + 1:Nat):Int) by omega]
  refine ⟨o5,fun _ => m5,fun _ => ⟨o5,hu,hv⟩,fun _ => ⟨m5,m5⟩,by omega,hi,fun _ => lm,fun _ => lm,fun bad => ?_,fun _ => ⟨by omega,nx⟩⟩
  rcases bad with (b | b) | b
  ·exact absurd (Zf1.2 pv) b
  ·exact absurd (Zf1.2 pm) b
  ·exact absurd (cmpP_same (same_refl pm)) b
theorem lineC_4 {a b c x y q:Rat} (h:Sp.Zg3 a b c) (hv:Sp.okVn x y) (hq:Sp.okT 30 q):∀ p ∈ Sp.Za3 a b c x y q,Sp.okP4 p/\Sp.ZbL p:=fun p hp=>⟨(lineC_ok h hv hq).1 p hp,(line_same h.2).2 p hp⟩
theorem mv_ok {a b c x y z u v r:Rat} (ha:Sp.okI2 a b c) (hx:Sp.okI2 x y z) (hu:Sp.okI2 u v r) (ne:a ≠ 0 \/ b ≠ 0):((Sp.okR a /\ Sp.okR u) /\ (Sp.okR b /\ Sp.okR v) /\ (Sp.okR (a * u) /\ Sp.okR (b * v)) /\ (Sp.okR c /\ Sp.okR (a * u + b * v)) /\ (Sp.okR x /\ Sp.okR u) /\ (Sp.okR y /\ Sp.okR v) /\ (Sp.Zg3 a b c /\ Sp.okVn x y /\ Sp.okT 30 z) /\ (Sp.Zg3 a b (c + (a * u + b * v)) /\ Sp.okVn (x + u) (y + v) /\ Sp.okT 30 z)):=by
 obtain ⟨a1,a2,a3⟩:=ha
 obtain ⟨x1,x2,x3⟩:=hx
 obtain ⟨u1,u2,u3⟩:=hu
 have m1:=Zah a1 u1
 have m2:=Zah a2 u2
 have s1:=ZaH m1 m2
 have s2:=ZaH a3 s1
 have R {k:Nat} {r:Rat} (h:Sp.okT k r) (j:k <= 30):Sp.okT 30 r:=Zay h j
 exact ⟨⟨Zam a1 (by omega),Zam u1 (by omega)⟩,⟨Zam a2 (by omega),Zam u2 (by omega)⟩,⟨Zam m1 (by omega),Zam m2 (by omega)⟩,⟨Zam a3 (by omega),Zam s1 (by omega)⟩,⟨Zam x1 (by omega),Zam u1 (by omega)⟩,⟨Zam x2 (by omega),Zam u2 (by omega)⟩,⟨⟨⟨R a1 (by omega),R a2 (by omega),R a3 (by omega)⟩,ne⟩,⟨R x1 (by omega),R x2 (by omega)⟩,R x3 (by omega)⟩,⟨⟨R a1 (by omega),R a2 (by omega),R s2 (by omega)⟩,ne⟩,⟨R (ZaH x1 u1) (by omega),R (ZaH x2 u2) (by omega)⟩,R x3 (by omega)⟩
theorem ev7 (s1 t1 s2 t2 s3 t3 s4 t4 s5 t5 s6 t6 s7 t7 s8 t8 s9 t9:Bool) (x1 y1 x2 y2 x3 y3 x4 y4 x5 y5 x6 y6 x7 y7 x8 y8 x9 y9:List Int) (h1:Sp.okRw x1 y1 x2 y2 x3 y3) (h2:Sp.okRw x4 y4 x5 y5 x6 y6) (h3:Sp.okRw x7 y7 x8 y8 x9 y9):Ev M1 (.pure 7 [.agg [.bool s1,.vec false 1 (x1.map (.int .u32)),.bool t1,.vec false 1 (y1.map (.int .u32)),.bool s2,.vec false 1 (x2.map (.int .u32)),.bool t2,.vec false 1 (y2.map (.int .u32)),.bool s3,.vec false 1 (x3.map (.int .u32)),.bool t3,.vec false 1 (y3.map (.int .u32))],.agg [.bool s4,.vec false 1 (x4.map (.int .u32)),.bool t4,.vec false 1 (y4.map (.int .u32)),.bool s5,.vec false 1 (x5.map (.int .u32)),.bool t5,.vec false 1 (y5.map (.int .u32)),.bool s6,.vec false 1 (x6.map (.int .u32)),.bool t6,.vec false 1 (y6.map (.int .u32))],.agg [.bool s7,.vec false 1 (x7.map (.int .u32)),.bool t7,.vec false 1 (y7.map (.int .u32)),.bool s8,.vec false 1 (x8.map (.int .u32)),.bool t8,.vec false 1 (y8.map (.int .u32)),.bool s9,.vec false 1 (x9.map (.int .u32)),.bool t9,.vec false 1 (y9.map (.int .u32))]]) (.bool true) []:=by
 have no (k:((¬(Sp.Zed s1 t1 s2 t2 s3 t3 x1 y1 x2 y2 x3 y3 = true)) \/ (¬(Sp.Zc1 s4 t4 s5 t5 s6 t6 x4 y4 x5 y5 x6 y6 = true))) \/ (¬(Sp.Zc1 s7 t7 s8 t8 s9 t9 x7 y7 x8 y8 x9 y9 = true))):Ev M1 (.pure 7 [.agg [.bool s1,.vec false 1 (x1.map (.int .u32)),.bool t1,.vec false 1 (y1.map (.int .u32)),.bool s2,.vec false 1 (x2.map (.int .u32)),.bool t2,.vec false 1 (y2.map (.int .u32)),.bool s3,.vec false 1 (x3.map (.int .u32)),.bool t3,.vec false 1 (y3.map (.int .u32))],.agg [.bool s4,.vec false 1 (x4.map (.int .u32)),.bool t4,.vec false 1 (y4.map (.int .u32)),.bool s5,.vec false 1 (x5.map (.int .u32)),.bool t5,.vec false 1 (y5.map (.int .u32)),.bool s6,.vec false 1 (x6.map (.int .u32)),.bool t6,.vec false 1 (y6.map (.int .u32))],.agg [.bool s7,.vec false 1 (x7.map (.int .u32)),.bool t7,.vec false 1 (y7.map (.int .u32)),.bool s8,.vec false 1 (x8.map (.int .u32)),.bool t8,.vec false 1 (y8.map (.int .u32)),.bool s9,.vec false 1 (x9.map (.int .u32)),.bool t9,.vec false 1 (y9.map (.int .u32))]]) (.bool true) []:=call7 (lwMvR _ _ _ _ _ _ _ _ _ _ _ _ _ _ _ _ _ _ _ _ _ _ _ _ _ _ _ _ _ _ _ _ _ _ _ _ _ _ _ _ _ _ _ _ _ _ _ _ _ _ _ _ _ _ _ ⟨h1,fun _ => h2,fun _ => h3,fun _ => rfl,fun j => absurd k j⟩)
 by_cases k1:Sp.Zed s1 t1 s2 t2 s3 t3 x1 y1 x2 y2 x3 y3 = true
 case neg => exact no (.inl (.inl k1))
 by_cases k2:Sp.Zc1 s4 t4 s5 t5 s6 t6 x4 y4 x5 y5 x6 y6 = true
 case neg => exact no (.inl (.inr k2))
 by_cases k3:Sp.Zc1 s7 t7 s8 t8 s9 t9 x7 y7 x8 y8 x9 y9 = true
 case neg => exact no (.inr k3)
 clear no
 obtain ⟨a,b,c,e1,⟨rfl,rfl,rfl,rfl⟩,⟨rfl,rfl,rfl,rfl⟩,rfl,rfl,rfl,rfl⟩:=ZeZ (lineB_few k1)
 obtain ⟨x,y,z,e2,⟨rfl,rfl,rfl,rfl⟩,⟨rfl,rfl,rfl,rfl⟩,rfl,rfl,rfl,rfl⟩:=ZeZ (circB_few k2)
 obtain ⟨u,v,r,e3,⟨rfl,rfl,rfl,rfl⟩,⟨rfl,rfl,rfl,rfl⟩,rfl,rfl,rfl,rfl⟩:=ZeZ (circB_few k3)
 have ne:=lineB_ne k1
 obtain ⟨g1,g2,g3,g4,g5,g6,g7,g8⟩:=mv_ok e1 e2 e3 ne
 have mv:=line_mv (C:=c) (X:=x) (Y:=y) (Q:=z) (v:=u) (w:=v) ne
 have ln:=(lineC_ok g7.1 g7.2.1 g7.2.2).2
 refine call7 (lwMv _ _ _ _ _ _ _ _ _ _ ⟨rw_rat a b c,fun _ => rw_rat x y z,fun _ => rw_rat u v r,fun k => (k.elim (fun k => k.elim (fun j => absurd k1 j) fun j => absurd k2 j) fun j => absurd k3 j),fun _ => ⟨g1,g2,g3,g4,g5,g6,g7,g8,?_,?_⟩⟩)
 ·intro bad
  rw [mv,List.length_map] at bad
  exact absurd rfl bad
 ·intro _
  rw [mv]
  exact mv_loop (l:=Sp.Za3 a b c x y z) (Zay e3.1 (by omega)) (Zay e3.2.1 (by omega)) (lineC_4 g7.1 g7.2.1 g7.2.2) (by omega) (Sp.Za3 a b c x y z).length 0 (by omega)
end Go.Av
