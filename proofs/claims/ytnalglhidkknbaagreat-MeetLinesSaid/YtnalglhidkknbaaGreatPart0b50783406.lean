/- PART 6 of the texts of a claim, joined by a program: what each part shows stands at its head. -/
import Derived.Test.YtnalglhidkknbaaGreatPart8d92020fec

namespace Go.Av
open Go.Proofs
set_option maxRecDepth 100000
def fi46:Fi:=⟨5,[.cell 2 26]⟩
def kp46:List (Nat × List Nat):=[(0,[0,2]),(1,[2])]
def fi49:Fi:=⟨27,[.tmp 4]⟩
def kp49:List (Nat × List Nat):=[(0,[0,1]),(1,[0,1,10]),(2,[4]),(3,[0,1,5]),(4,[0,1,5,14]),(5,[0,1,5]),(6,[0,1,5,26]),(7,[4]),(8,[4])]
def fi51:Fi:=⟨36,[.tmp 2]⟩
def kp51:List (Nat × List Nat):=[(0,[0]),(1,[0,3]),(2,[0,3,7]),(3,[0,3]),(4,[0,3,35]),(5,[2]),(6,[2])]
def fi93:Fi:=⟨10,[.cell 4 47]⟩
def kp93:List (Nat × List Nat):=[(0,[0,1,4]),(1,[4])]
def rSame9_at (u v:Bool) (l m:List Pnt) (Q:AV->Heap->Prop):Prop:=Wp M1 (.run fi49 (atC (cd Tryz.f49) []) [(0,.vec u 20 (l.map Pnt.a)),(1,.vec v 20 (m.map Pnt.a))] []) Q
def Zc3 (u v:Bool) (l m:List Pnt) (i:Int) (Q:AV->Heap->Prop):Prop:=Wp M1 (.run fi49 (atC (cd Tryz.f49) [1,1,0,1,0,0]) [(0,.vec u 20 (l.map Pnt.a)),(1,.vec v 20 (m.map Pnt.a)),(5,.int .i64 i)] []) Q
def wNum_at (a:Int) (Q:AV->Heap->Prop):Prop:=Wp M1 (.run fi46 (atC (cd Tryz.f46) []) [(0,.int .i64 a)] []) Q
def rVec7_at (a b:Int) (Q:AV->Heap->Prop):Prop:=Wp M1 (.run fi93 (atC (cd Tryz.f93) []) [(0,.int .i64 a),(1,.int .i64 b)] []) Q
def rFew_at (s1 t1 f1 g1 s2 t2 f2 g2 s3 t3 f3 g3:Bool) (x1 y1 x2 y2 x3 y3:List Int) (Q:AV->Heap->Prop):Prop:=Wp M1 (.run fi51 (atC (cd Tryz.f51) []) [(0,.vec true 4 [.agg [.bool s1,.vec f1 1 (x1.map (.int .u32)),.bool t1,.vec g1 1 (y1.map (.int .u32))],.agg [.bool s2,.vec f2 1 (x2.map (.int .u32)),.bool t2,.vec g2 1 (y2.map (.int .u32))],.agg [.bool s3,.vec f3 1 (x3.map (.int .u32)),.bool t3,.vec g3 1 (y3.map (.int .u32))]])] []) Q
def rFew0_at (s1 t1 f1 g1 s2 t2 f2 g2 s3 t3 f3 g3:Bool) (x1 y1 x2 y2 x3 y3:List Int) (Q:AV->Heap->Prop):Prop:=Wp M1 (.run fi51 (atC (cd Tryz.f51) [1,0,1,0,0]) [(0,.vec true 4 [.agg [.bool s1,.vec f1 1 (x1.map (.int .u32)),.bool t1,.vec g1 1 (y1.map (.int .u32))],.agg [.bool s2,.vec f2 1 (x2.map (.int .u32)),.bool t2,.vec g2 1 (y2.map (.int .u32))],.agg [.bool s3,.vec f3 1 (x3.map (.int .u32)),.bool t3,.vec g3 1 (y3.map (.int .u32))]]),(3,.int .i64 0)] []) Q
def rFew1_at (s1 t1 f1 g1 s2 t2 f2 g2 s3 t3 f3 g3:Bool) (x1 y1 x2 y2 x3 y3:List Int) (Q:AV->Heap->Prop):Prop:=Wp M1 (.run fi51 (atC (cd Tryz.f51) [1,0,1,0,0]) [(0,.vec true 4 [.agg [.bool s1,.vec f1 1 (x1.map (.int .u32)),.bool t1,.vec g1 1 (y1.map (.int .u32))],.agg [.bool s2,.vec f2 1 (x2.map (.int .u32)),.bool t2,.vec g2 1 (y2.map (.int .u32))],.agg [.bool s3,.vec f3 1 (x3.map (.int .u32)),.bool t3,.vec g3 1 (y3.map (.int .u32))]]),(3,.int .i64 1)] []) Q
def rFew2_at (s1 t1 f1 g1 s2 t2 f2 g2 s3 t3 f3 g3:Bool) (x1 y1 x2 y2 x3 y3:List Int) (Q:AV->Heap->Prop):Prop:=Wp M1 (.run fi51 (atC (cd Tryz.f51) [1,0,1,0,0]) [(0,.vec true 4 [.agg [.bool s1,.vec f1 1 (x1.map (.int .u32)),.bool t1,.vec g1 1 (y1.map (.int .u32))],.agg [.bool s2,.vec f2 1 (x2.map (.int .u32)),.bool t2,.vec g2 1 (y2.map (.int .u32))],.agg [.bool s3,.vec f3 1 (x3.map (.int .u32)),.bool t3,.vec g3 1 (y3.map (.int .u32))]]),(3,.int .i64 2)] []) Q
def rFew3_at (s1 t1 f1 g1 s2 t2 f2 g2 s3 t3 f3 g3:Bool) (x1 y1 x2 y2 x3 y3:List Int) (Q:AV->Heap->Prop):Prop:=Wp M1 (.run fi51 (atC (cd Tryz.f51) [1,0,1,0,0]) [(0,.vec true 4 [.agg [.bool s1,.vec f1 1 (x1.map (.int .u32)),.bool t1,.vec g1 1 (y1.map (.int .u32))],.agg [.bool s2,.vec f2 1 (x2.map (.int .u32)),.bool t2,.vec g2 1 (y2.map (.int .u32))],.agg [.bool s3,.vec f3 1 (x3.map (.int .u32)),.bool t3,.vec g3 1 (y3.map (.int .u32))]]),(3,.int .i64 3)] []) Q
theorem call46 {args:List AV} {d:AV} (h:wc M1 fi46 Tryz.f46 args d):Ev M1 (.pure 46 args) d []:=pcl _ _ (by kernel_rfl) h
theorem call49 {args:List AV} {d:AV} (h:wc M1 fi49 Tryz.f49 args d):Ev M1 (.pure 49 args) d []:=pcl _ _ (by kernel_rfl) h
theorem call51 {args:List AV} {d:AV} (h:wc M1 fi51 Tryz.f51 args d):Ev M1 (.pure 51 args) d []:=pcl _ _ (by kernel_rfl) h
theorem call93 {args:List AV} {d:AV} (h:wc M1 fi93 Tryz.f93 args d):Ev M1 (.pure 93 args) d []:=pcl _ _ (by kernel_rfl) h
theorem rSame9 (u v:Bool) (l m:List Pnt)  (dq:AV) (H :
  ((¬(↑l.length:Int) = (↑m.length:Int)) -> vb false = dq) /\
  (¬(¬(↑l.length:Int) = (↑m.length:Int)) -> Zc3 (u) (v) (l) (m) (0) (Zaf dq))) :
 rSame9_at u v l m (Zaf dq):=by
 unfold rSame9_at
 have w1:(List.map Pnt.a l).length = l.length:=List.length_map ..
 have w2:(List.map Pnt.a m).length = m.length:=List.length_map ..
 have i3:((↑(List.map Pnt.a l).length:Int) != (↑(List.map Pnt.a m).length:Int)) = true ↔ (¬(↑l.length:Int) = (↑m.length:Int)):=(by (try rw [w1]);(try rw [w2]);all_goals exact i_ne)
 rcases xq H with ⟨d4,H⟩|⟨d4,H⟩
 ·exact Zap (G:=Zac kp49 [] []) 1000 [true] (vb false) (by kernel_rfl) (bc (Zaq (i3.2 d4)) b0) q0 c0 H
 ·exact Zae (G:=Zac kp49 [] []) 1000 [false] ⟨(atC (cd Tryz.f49) [1,1,0,1,0,0]),[(0,AV.vec u 20 (List.map Pnt.a l)),(1,AV.vec v 20 (List.map Pnt.a m)),(5,vi 0)],[],_,[],_⟩ (by kernel_rfl) (bc (Zan (fun h => d4 (i3.1 h))) b0) q0 c0 (H)
noncomputable abbrev zNmG1 (l:List Pnt) (i:Int):=(Pnt.a (l.getD i.toNat default))
noncomputable abbrev zNmG2 (m:List Pnt) (i:Int):=(Pnt.a (m.getD i.toNat default))
theorem rSame9H (u v:Bool) (l m:List Pnt) (i:Int)  (dq:AV) (H :
  ((i < (↑l.length:Int)) -> (Sp.okP5 (l.getD i.toNat default) /\ Sp.okP5 (m.getD i.toNat default)) /\
   (0 <= i) /\
   (i.toNat < l.length) /\
   (i.toNat < m.length) /\
   ((¬(Sp.cmpP (l.getD i.toNat default) (m.getD i.toNat default) = 0)) -> vb false = dq) /\
   (¬(¬(Sp.cmpP (l.getD i.toNat default) (m.getD i.toNat default) = 0)) -> (-9223372036854775808 <= i + 1 /\ i + 1 <= 9223372036854775807) /\
    Zc3 (u) (v) (l) (m) (i + 1) (Zaf dq))) /\
  (¬(i < (↑l.length:Int)) -> vb true = dq)) :
 Zc3 u v l m i (Zaf dq):=by
 unfold Zc3
 have w1:(List.map Pnt.a l).length = l.length:=List.length_map ..
 have i2:(decide (i < (↑(List.map Pnt.a l).length:Int))) = true ↔ (i < (↑l.length:Int)):=(by (try rw [w1]);all_goals exact Zab)
 rcases xq H with ⟨d3,H⟩|⟨d3,H⟩
 ·obtain ⟨k4,k6,H⟩:=H
  have i7:(decide (i.toNat < (List.map Pnt.a l).length)) = true ↔ (i.toNat < l.length):=(by (try rw [w1]);all_goals exact Zab)
  obtain ⟨k8,H⟩:=H
  have w10:(List.map Pnt.a m).length = m.length:=List.length_map ..
  have i11:(decide (i.toNat < (List.map Pnt.a m).length)) = true ↔ (i.toNat < m.length):=(by (try rw [w10]);all_goals exact Zab)
  obtain ⟨k12,H⟩:=H
  refine Zae (G:=Zac kp49 [(6,3,.elem (zNmG1 l i)),(6,7,.elem (zNmG2 m i)),(6,8,.call (vb (decide (Sp.cmpP (l.getD i.toNat default) (m.getD i.toNat default) = 0))) none)] []) 9 [true] ⟨(atC (cd Tryz.f49) [1,1,0,1,0,0,1,0,0,1]),[(0,AV.vec u 20 (List.map Pnt.a l)),(1,AV.vec v 20 (List.map Pnt.a m)),(5,vi i),(26,vb !decide (Sp.cmpP (l.getD i.toNat default) (m.getD i.toNat default) = 0))],[],_,[((List.map Pnt.a l).get?Internal i.toNat = some (zNmG1 l i)),((List.map Pnt.a m).get?Internal i.toNat = some (zNmG2 m i))],_⟩ (by kernel_rfl) (bc (Zaq (i2.2 d3)) (bc (Zab.2 k6) (bc (i7.2 k8) (bc (Zab.2 k6) (bc (i11.2 k12) b0))))) (qc (Zas k8) (qc (Zas k12) q0)) (ce (@ev37 (false) (false) (false) (false) (false) (false) (false) (false) (false) (false) (false) (false) (false) (false) (false) (false) (false) (false) (false) (false) ((l.getD i.toNat default).ax) ((l.getD i.toNat default).bx) ((l.getD i.toNat default).ay) ((l.getD i.toNat default).by_) ((l.getD i.toNat default).c) ((m.getD i.toNat default).ax) ((m.getD i.toNat default).bx) ((m.getD i.toNat default).ay) ((m.getD i.toNat default).by_) ((m.getD i.toNat default).c) k4) c0) ?_
  rcases xq H with ⟨d14,H⟩|⟨d14,H⟩
  ·exact Zap (G:=Zac kp49 [] []) 1000 [true] (vb false) (by kernel_rfl) (bc (Zaq ((ZaY Zab).2 d14)) b0) q0 c0 H
  ·obtain ⟨k15,H⟩:=H
   have w16:wi (i + 1) = i + 1:=wI64 k15
   exact Zae (G:=Zac kp49 [] []) 1000 [false] ⟨(atC (cd Tryz.f49) [1,1,0,1,0,0]),[(0,AV.vec u 20 (List.map Pnt.a l)),(1,AV.vec v 20 (List.map Pnt.a m)),(5,vi (wi (i + 1)))],[],_,[],_⟩ (by kernel_rfl) (bc (Zan (fun h => d14 ((ZaY Zab).1 h))) b0) q0 c0 (by (try rw [w16]);all_goals exact H)
 ·exact Zap (G:=Zac kp49 [] []) 1000 [false] (vb true) (by kernel_rfl) (bc (Zan (fun h => d3 (i2.1 h))) b0) q0 c0 H
theorem wNum (a:Int)  (dq:AV) (H :
  (Sp.inI a) /\
  Weak (ratF (Sp.qi a)) dq) :
 wNum_at a (Zaf dq):=by
 unfold wNum_at
 obtain ⟨k1,H⟩:=H
 exact Zah (G:=Zac kp46 [(1,1,.call (ratF (Sp.qi a)) none)] []) 1000 [] (ratF (Sp.qi a)) (by kernel_rfl) (bc rfl b0) q0 (ce (@ev84 (a) k1) c0) H
theorem rVec7 (a b:Int)  (dq:AV) (H :
  (Sp.inI a) /\
  (Sp.inI b) /\
  Weak ((vecF (Sp.qi a) (Sp.qi b))) dq) :
 rVec7_at a b (Zaf dq):=by
 unfold rVec7_at
 obtain ⟨k1,k2,H⟩:=H
 exact Zah (G:=Zac kp93 [(1,1,.call (ratF (Sp.qi a)) none),(1,3,.call (ratF (Sp.qi b)) none)] []) 1000 [] ((vecF (Sp.qi a) (Sp.qi b))) (by kernel_rfl) (bc rfl b0) q0 (ce (@ev84 (a) k1) (ce (@ev84 (b) k2) c0)) H
theorem rFew (s1 t1 f1 g1 s2 t2 f2 g2 s3 t3 f3 g3:Bool) (x1 y1 x2 y2 x3 y3:List Int)  (dq:AV) (H :
  rFew0_at (s1) (t1) (f1) (g1) (s2) (t2) (f2) (g2) (s3) (t3) (f3) (g3) (x1) (y1) (x2) (y2) (x3) (y3) (Zaf dq)) :
 rFew_at s1 t1 f1 g1 s2 t2 f2 g2 s3 t3 f3 g3 x1 y1 x2 y2 x3 y3 (Zaf dq):=by
 unfold rFew_at
 exact Zae (G:=Zac kp51 [] []) 1000 [] ⟨(atC (cd Tryz.f51) [1,0,1,0,0]),[(0,AV.vec true 4 [ag [vb s1,AV.vec f1 1 (us x1),vb t1,AV.vec g1 1 (us y1)],ag [vb s2,AV.vec f2 1 (us x2),vb t2,AV.vec g2 1 (us y2)],ag [vb s3,AV.vec f3 1 (us x3),vb t3,AV.vec g3 1 (us y3)]]),(3,vi 0)],[],_,[],_⟩ (by kernel_rfl) b0 q0 c0 (H)
noncomputable abbrev zNmG3 (s1:Bool) (f1:Bool) (x1:List Int) (t1:Bool) (g1:Bool) (y1:List Int):=ag [vb s1,AV.vec f1 1 (us x1),vb t1,AV.vec g1 1 (us y1)]
theorem rFew0 (s1 t1 f1 g1 s2 t2 f2 g2 s3 t3 f3 g3:Bool) (x1 y1 x2 y2 x3 y3:List Int)  (dq:AV) (H :
  ((¬(((↑x1.length:Int) > 2) \/ ((↑y1.length:Int) > 2))) -> (Sp.okA x1 y1)) /\
  (((((↑x1.length:Int) > 2) \/ ((↑y1.length:Int) > 2)) \/ (¬(Sp.Zck s1 x1 t1 y1 = true))) -> vb false = dq) /\
  (¬((((↑x1.length:Int) > 2) \/ ((↑y1.length:Int) > 2)) \/ (¬(Sp.Zck s1 x1 t1 y1 = true))) -> rFew1_at (s1) (t1) (f1) (g1) (s2) (t2) (f2) (g2) (s3) (t3) (f3) (g3) (x1) (y1) (x2) (y2) (x3) (y3) (Zaf dq))) :
 rFew0_at s1 t1 f1 g1 s2 t2 f2 g2 s3 t3 f3 g3 x1 y1 x2 y2 x3 y3 (Zaf dq):=by
 unfold rFew0_at
 have w1:(us x1).length = x1.length:=List.length_map ..
 have w2:(us y1).length = y1.length:=List.length_map ..
 have i3:((bif decide ((↑(us x1).length:Int) > 2) then true else decide ((↑(us y1).length:Int) > 2)) == false && true && true) = true ↔ (¬(((↑x1.length:Int) > 2) \/ ((↑y1.length:Int) > 2))):=(by (try rw [w1]);(try rw [w2]);all_goals exact (i_at (i_at (i_bf (Zbg Zab Zab)))))
 obtain ⟨k4,H⟩:=H
 have i5:(bif bif decide ((↑(us x1).length:Int) > 2) then true else decide ((↑(us y1).length:Int) > 2) then true else !Sp.Zck s1 x1 t1 y1) = true ↔ ((((↑x1.length:Int) > 2) \/ ((↑y1.length:Int) > 2)) \/ (¬(Sp.Zck s1 x1 t1 y1 = true))):=(by (try rw [w1]);(try rw [w2]);all_goals exact (Zbg (Zbg Zab Zab) (ZaY (ZaC _))))
 refine Zae (G:=Zac kp51 [(4,23,.call (vb (Sp.Zck s1 x1 t1 y1)) none)] []) 9 [true] ⟨(atC (cd Tryz.f51) [1,0,1,0,0,1,0,0,1]),[(0,AV.vec true 4 [(zNmG3 s1 f1 x1 t1 g1 y1),ag [vb s2,AV.vec f2 1 (us x2),vb t2,AV.vec g2 1 (us y2)],ag [vb s3,AV.vec f3 1 (us x3),vb t3,AV.vec g3 1 (us y3)]]),(3,vi 0),(35,vb (bif bif decide ((↑(us x1).length:Int) > 2) then true else decide ((↑(us y1).length:Int) > 2) then true else !Sp.Zck s1 x1 t1 y1))],[],[true == true,true,true,!(decide ((↑(us x1).length:Int) > 2) == false && true) || true,!(decide ((↑(us x1).length:Int) > 2) == false && true) || true,!((bif decide ((↑(us x1).length:Int) > 2) then true else decide ((↑(us y1).length:Int) > 2)) == false && true) || true,!((bif decide ((↑(us x1).length:Int) > 2) then true else decide ((↑(us y1).length:Int) > 2)) == false && true) || true],[],[⟨(bif decide ((↑(us x1).length:Int) > 2) then true else decide ((↑(us y1).length:Int) > 2)) == false && true && true,false,27,[(zNmG3 s1 f1 x1 t1 g1 y1)],[],vb (Sp.Zck s1 x1 t1 y1),[]⟩]⟩ (by kernel_rfl) (bc rfl (bc rfl (bc rfl (bc (Bool.or_true _) (bc (Bool.or_true _) (bc (Bool.or_true _) (bc (Bool.or_true _) b0))))))) q0 (cc (fun hc => ((@ev27 (s1) (f1) (t1) (g1) (x1) (y1) (k4 (i3.1 hc))):Ev M1 (Conf.pure 27 [(zNmG3 s1 f1 x1 t1 g1 y1)]) (vb (Sp.Zck s1 x1 t1 y1)) [])) c0) ?_
 rcases xq H with ⟨d6,H⟩|⟨d6,H⟩
 ·exact Zap (G:=Zac kp51 [] []) 1000 [true] (vb false) (by kernel_rfl) (bc (Zaq (i5.2 d6)) b0) q0 c0 H
 ·exact Zae (G:=Zac kp51 [] []) 1000 [false] ⟨(atC (cd Tryz.f51) [1,0,1,0,0]),[(0,AV.vec true 4 [(zNmG3 s1 f1 x1 t1 g1 y1),ag [vb s2,AV.vec f2 1 (us x2),vb t2,AV.vec g2 1 (us y2)],ag [vb s3,AV.vec f3 1 (us x3),vb t3,AV.vec g3 1 (us y3)]]),(3,vi 1)],[],_,[],_⟩ (by kernel_rfl) (bc (Zan (fun h => d6 (i5.1 h))) b0) q0 c0 (H)
noncomputable abbrev zNmG4 (s2:Bool) (f2:Bool) (x2:List Int) (t2:Bool) (g2:Bool) (y2:List Int):=ag [vb s2,AV.vec f2 1 (us x2),vb t2,AV.vec g2 1 (us y2)]
theorem rFew1 (s1 t1 f1 g1 s2 t2 f2 g2 s3 t3 f3 g3:Bool) (x1 y1 x2 y2 x3 y3:List Int)  (dq:AV) (H :
  ((¬(((↑x2.length:Int) > 2) \/ ((↑y2.length:Int) > 2))) -> (Sp.okA x2 y2)) /\
  (((((↑x2.length:Int) > 2) \/ ((↑y2.length:Int) > 2)) \/ (¬(Sp.Zck s2 x2 t2 y2 = true))) -> vb false = dq) /\
  (¬((((↑x2.length:Int) > 2) \/ ((↑y2.length:Int) > 2)) \/ (¬(Sp.Zck s2 x2 t2 y2 = true))) -> rFew2_at (s1) (t1) (f1) (g1) (s2) (t2) (f2) (g2) (s3) (t3) (f3) (g3) (x1) (y1) (x2) (y2) (x3) (y3) (Zaf dq))) :
 rFew1_at s1 t1 f1 g1 s2 t2 f2 g2 s3 t3 f3 g3 x1 y1 x2 y2 x3 y3 (Zaf dq):=by
 unfold rFew1_at
 have w1:(us x2).length = x2.length:=List.length_map ..
 have w2:(us y2).length = y2.length:=List.length_map ..
 have i3:((bif decide ((↑(us x2).length:Int) > 2) then true else decide ((↑(us y2).length:Int) > 2)) == false && true && true) = true ↔ (¬(((↑x2.length:Int) > 2) \/ ((↑y2.length:Int) > 2))):=(by (try rw [w1]);(try rw [w2]);all_goals exact (i_at (i_at (i_bf (Zbg Zab Zab)))))
 obtain ⟨k4,H⟩:=H
 have i5:(bif bif decide ((↑(us x2).length:Int) > 2) then true else decide ((↑(us y2).length:Int) > 2) then true else !Sp.Zck s2 x2 t2 y2) = true ↔ ((((↑x2.length:Int) > 2) \/ ((↑y2.length:Int) > 2)) \/ (¬(Sp.Zck s2 x2 t2 y2 = true))):=(by (try rw [w1]);(try rw [w2]);all_goals exact (Zbg (Zbg Zab Zab) (ZaY (ZaC _))))
 refine Zae (G:=Zac kp51 [(4,23,.call (vb (Sp.Zck s2 x2 t2 y2)) none)] []) 9 [true] ⟨(atC (cd Tryz.f51) [1,0,1,0,0,1,0,0,1]),[(0,AV.vec true 4 [ag [vb s1,AV.vec f1 1 (us x1),vb t1,AV.vec g1 1 (us y1)],(zNmG4 s2 f2 x2 t2 g2 y2),ag [vb s3,AV.vec f3 1 (us x3),vb t3,AV.vec g3 1 (us y3)]]),(3,vi 1),(35,vb (bif bif decide ((↑(us x2).length:Int) > 2) then true else decide ((↑(us y2).length:Int) > 2) then true else !Sp.Zck s2 x2 t2 y2))],[],[true == true,true,true,!(decide ((↑(us x2).length:Int) > 2) == false && true) || true,!(decide ((↑(us x2).length:Int) > 2) == false && true) || true,!((bif decide ((↑(us x2).length:Int) > 2) then true else decide ((↑(us y2).length:Int) > 2)) == false && true) || true,!((bif decide ((↑(us x2).length:Int) > 2) then true else decide ((↑(us y2).length:Int) > 2)) == false && true) || true],[],[⟨(bif decide ((↑(us x2).length:Int) > 2) then true else decide ((↑(us y2).length:Int) > 2)) == false && true && true,false,27,[(zNmG4 s2 f2 x2 t2 g2 y2)],[],vb (Sp.Zck s2 x2 t2 y2),[]⟩]⟩ (by kernel_rfl) (bc rfl (bc rfl (bc rfl (bc (Bool.or_true _) (bc (Bool.or_true _) (bc (Bool.or_true _) (bc (Bool.or_true _) b0))))))) q0 (cc (fun hc => ((@ev27 (s2) (f2) (t2) (g2) (x2) (y2) (k4 (i3.1 hc))):Ev M1 (Conf.pure 27 [(zNmG4 s2 f2 x2 t2 g2 y2)]) (vb (Sp.Zck s2 x2 t2 y2)) [])) c0) ?_
 rcases xq H with ⟨d6,H⟩|⟨d6,H⟩
 ·exact Zap (G:=Zac kp51 [] []) 1000 [true] (vb false) (by kernel_rfl) (bc (Zaq (i5.2 d6)) b0) q0 c0 H
 ·exact Zae (G:=Zac kp51 [] []) 1000 [false] ⟨(atC (cd Tryz.f51) [1,0,1,0,0]),[(0,AV.vec true 4 [ag [vb s1,AV.vec f1 1 (us x1),vb t1,AV.vec g1 1 (us y1)],(zNmG4 s2 f2 x2 t2 g2 y2),ag [vb s3,AV.vec f3 1 (us x3),vb t3,AV.vec g3 1 (us y3)]]),(3,vi 2)],[],_,[],_⟩ (by kernel_rfl) (bc (Zan (fun h => d6 (i5.1 h))) b0) q0 c0 (H)
noncomputable abbrev zNmG5 (s3:Bool) (f3:Bool) (x3:List Int) (t3:Bool) (g3:Bool) (y3:List Int):=ag [vb s3,AV.vec f3 1 (us x3),vb t3,AV.vec g3 1 (us y3)]
theorem rFew2 (s1 t1 f1 g1 s2 t2 f2 g2 s3 t3 f3 g3:Bool) (x1 y1 x2 y2 x3 y3:List Int)  (dq:AV) (H :
  ((¬(((↑x3.length:Int) > 2) \/ ((↑y3.length:Int) > 2))) -> (Sp.okA x3 y3)) /\
  (((((↑x3.length:Int) > 2) \/ ((↑y3.length:Int) > 2)) \/ (¬(Sp.Zck s3 x3 t3 y3 = true))) -> vb false = dq) /\
  (¬((((↑x3.length:Int) > 2) \/ ((↑y3.length:Int) > 2)) \/ (¬(Sp.Zck s3 x3 t3 y3 = true))) -> rFew3_at (s1) (t1) (f1) (g1) (s2) (t2) (f2) (g2) (s3) (t3) (f3) (g3) (x1) (y1) (x2) (y2) (x3) (y3) (Zaf dq))) :
 rFew2_at s1 t1 f1 g1 s2 t2 f2 g2 s3 t3 f3 g3 x1 y1 x2 y2 x3 y3 (Zaf dq):=by
 unfold rFew2_at
 have w1:(us x3).length = x3.length:=List.length_map ..
 have w2:(us y3).length = y3.length:=List.length_map ..
 have i3:((bif decide ((↑(us x3).length:Int) > 2) then true else decide ((↑(us y3).length:Int) > 2)) == false && true && true) = true ↔ (¬(((↑x3.length:Int) > 2) \/ ((↑y3.length:Int) > 2))):=(by (try rw [w1]);(try rw [w2]);all_goals exact (i_at (i_at (i_bf (Zbg Zab Zab)))))
 obtain ⟨k4,H⟩:=H
 have i5:(bif bif decide ((↑(us x3).length:Int) > 2) then true else decide ((↑(us y3).length:Int) > 2) then true else !Sp.Zck s3 x3 t3 y3) = true ↔ ((((↑x3.length:Int) > 2) \/ ((↑y3.length:Int) > 2)) \/ (¬(Sp.Zck s3 x3 t3 y3 = true))):=(by (try rw [w1]);(try rw [w2]);all_goals exact (Zbg (Zbg Zab Zab) (ZaY (ZaC _))))
 refine Zae (G:=Zac kp51 [(4,23,.call (vb (Sp.Zck s3 x3 t3 y3)) none)] []) 9 [true] ⟨(atC (cd Tryz.f51) [1,0,1,0,0,1,0,0,1]),[(0,AV.vec true 4 [ag [vb s1,AV.vec f1 1 (us x1),vb t1,AV.vec g1 1 (us y1)],ag [vb s2,AV.vec f2 1 (us x2),vb t2,AV.vec g2 1 (us y2)],(zNmG5 s3 f3 x3 t3 g3 y3)]),(3,vi 2),(35,vb (bif bif decide ((↑(us x3).length:Int) > 2) then true else decide ((↑(us y3).length:Int) > 2) then true else !Sp.Zck s3 x3 t3 y3))],[],[true == true,true,true,!(decide ((↑(us x3).length:Int) > 2) == false && true) || true,!(decide ((↑(us x3).length:Int) > 2) == false && true) || true,!((bif decide ((↑(us x3).length:Int) > 2) then true else decide ((↑(us y3).length:Int) > 2)) == false && true) || true,!((bif decide ((↑(us x3).length:Int) > 2) then true else decide ((↑(us y3).length:Int) > 2)) == false && true) || true],[],[⟨(bif decide ((↑(us x3).length:Int) > 2) then true else decide ((↑(us y3).length:Int) > 2)) == false && true && true,false,27,[(zNmG5 s3 f3 x3 t3 g3 y3)],[],vb (Sp.Zck s3 x3 t3 y3),[]⟩]⟩ (by kernel_rfl) (bc rfl (bc rfl (bc rfl (bc (Bool.or_true _) (bc (Bool.or_true _) (bc (Bool.or_true _) (bc (Bool.or_true _) b0))))))) q0 (cc (fun hc => ((@ev27 (s3) (f3) (t3) (g3) (x3) (y3) (k4 (i3.1 hc))):Ev M1 (Conf.pure 27 [(zNmG5 s3 f3 x3 t3 g3 y3)]) (vb (Sp.Zck s3 x3 t3 y3)) [])) c0) ?_
 rcases xq H with ⟨d6,H⟩|⟨d6,H⟩
 ·exact Zap (G:=Zac kp51 [] []) 1000 [true] (vb false) (by kernel_rfl) (bc (Zaq (i5.2 d6)) b0) q0 c0 H
 ·exact Zae (G:=Zac kp51 [] []) 1000 [false] ⟨(atC (cd Tryz.f51) [1,0,1,0,0]),[(0,AV.vec true 4 [ag [vb s1,AV.vec f1 1 (us x1),vb t1,AV.vec g1 1 (us y1)],ag [vb s2,AV.vec f2 1 (us x2),vb t2,AV.vec g2 1 (us y2)],(zNmG5 s3 f3 x3 t3 g3 y3)]),(3,vi 3)],[],_,[],_⟩ (by kernel_rfl) (bc (Zan (fun h => d6 (i5.1 h))) b0) q0 c0 (H)
theorem rFew3 (s1 t1 f1 g1 s2 t2 f2 g2 s3 t3 f3 g3:Bool) (x1 y1 x2 y2 x3 y3:List Int)  (dq:AV) (H :
  vb true = dq) :
 rFew3_at s1 t1 f1 g1 s2 t2 f2 g2 s3 t3 f3 g3 x1 y1 x2 y2 x3 y3 (Zaf dq):=by
 unfold rFew3_at
 exact Zap (G:=Zac kp51 [] []) 1000 [false] (vb true) (by kernel_rfl) (bc rfl b0) q0 c0 H
end Go.Av

namespace Go.Av
open Go.Proofs
theorem eqL_cons (p q:Pnt) (l m:List Pnt):Sp.eqL (p::l) (q::m)=bif decide (Sp.cmpP p q=0) then Sp.eqL l m else false:=rfl
theorem eqL_len:∀ {l m:List Pnt},l.length ≠ m.length -> Sp.eqL l m = false
 | [],[],h => absurd rfl h
 | [],q :: m,_ => rfl
 | p :: l,[],_ => rfl
 | p :: l,q :: m,h => by
  rw [eqL_cons,eqL_len (l:=l) (m:=m) (by simpa using h)]
  cases decide (Sp.cmpP p q = 0) <;> rfl
theorem same_loop {u v:Bool} {l m:List Pnt} {dq:AV} (h:Sp.okPL l) (g:Sp.okPL m) (e:l.length = m.length) (k:Nat):∀ (i:Nat),i + k = l.length -> AV.bool (Sp.eqL (l.drop i) (m.drop i)) = dq -> Zc3 u v l m i (Zaf dq):=by
 have hl:=h.2
 induction k with
 | zero =>
  intro i e2 hq
  refine rSame9H _ _ _ _ _ _ ⟨fun x => by omega,fun _ => ?_⟩
  rw [List.drop_eq_nil_of_le (by omega),List.drop_eq_nil_of_le (by omega)] at hq
  exact hq
 | succ k ih =>
  intro i e2 hq
  rw [Zcj (d:=l) (i:=i) (by omega),Zcj (d:=m) (i:=i) (by omega),eqL_cons] at hq
  have p1:=h.1 _ (ZfI (d:=l) (i:=i) (by omega))
  have p2:=g.1 _ (ZfI (d:=m) (i:=i) (by omega))
  have nx:=ih (i + 1) (by omega)
  refine rSame9H _ _ _ _ _ _ ⟨fun x => ?_,fun x => by omega⟩
  rw [Int.toNat_natCast,show (i:Int) + 1 = ((i + 1:Nat):Int) by omega]
  refine ⟨⟨p1,p2⟩,by omega,by omega,by omega,fun y => ?_,fun y => ⟨by omega,nx ?_⟩⟩
  ·rw [decide_eq_false y] at hq;exact hq
  ·rw [decide_eq_true (Classical.not_not.1 y)] at hq;exact hq
theorem ev49 (u v:Bool) (l m:List Pnt) (h:Sp.okPL l /\ Sp.okPL m):Ev M1 (.pure 49 [.vec u 20 (l.map Pnt.a),.vec v 20 (m.map Pnt.a)]) (.bool (Sp.eqL l m)) []:=by
 refine call49 (rSame9 _ _ _ _ _ ⟨fun k => ?_,fun k => ?_⟩)
 ·rw [eqL_len (by omega)]
 ·exact same_loop h.1 h.2 (by omega) l.length 0 (by omega) rfl
theorem ev46 (a:Int) (h:Sp.inI a):Ev M1 (.pure 46 [.int .i64 a]) (ratF (Sp.qi a)) []:=
 call46 (wNum _ _ ⟨h,.refl _⟩)
theorem ev93 (a b:Int) (h:Sp.inI a /\ Sp.inI b):Ev M1 (.pure 93 [.int .i64 a,.int .i64 b]) (vecF (Sp.qi a) (Sp.qi b)) []:=
 call93 (rVec7 _ _ _ ⟨h.1,h.2,.refl _⟩)
noncomputable def Sp.ZgO (s1 t1 s2 t2 s3 t3:Bool) (x1 y1 x2 y2 x3 y3:List Int):Bool:=Zd8 2 s1 x1 t1 y1&&Zd8 2 s2 x2 t2 y2&&Zd8 2 s3 x3 t3 y3
def Sp.okRw (x1 y1 x2 y2 x3 y3:List Int):Prop:=((∀ v ∈ x1,0<=v) /\ ∀ v ∈ y1,0<=v)/\((∀ v ∈ x2,0<=v) /\ ∀ v ∈ y2,0<=v)/\(∀ v ∈ x3,0<=v) /\ ∀ v ∈ y3,0<=v
theorem small_y {s t:Bool} {x y:List Int} (h:¬((((x.length:Int) > 2) \/ ((y.length:Int) > 2)) \/ (¬(Sp.Zck s x t y = true)))):Sp.Zd8 2 s x t y = true:=by
 unfold Sp.Zd8
 rw [decide_eq_true (by omega),decide_eq_true (by omega),cond_true,cond_true]
 exact Classical.not_not.1 fun k => h (.inr k)
theorem small_n {s t:Bool} {x y:List Int} (h:(((x.length:Int) > 2) \/ ((y.length:Int) > 2)) \/ (¬(Sp.Zck s x t y = true))):Sp.Zd8 2 s x t y = false:=by
 rcases Bool.eq_false_or_eq_true (Sp.Zd8 2 s x t y) with k | k
 ·have:=Zha.1 k
  rcases h with h | h
  ·omega
  ·exact absurd (Zep.2 this.2.2) h
 ·exact k
theorem ZfW {x y:List Int} (h:(∀ v ∈ x,0<=v) /\ ∀ v ∈ y,0<=v) (k:¬(((x.length:Int)>2)\/((y.length:Int)>2))):Sp.okA x y:=⟨⟨by omega,h.1⟩,⟨by omega,h.2⟩⟩
theorem ev51 (s1 t1 f1 g1 s2 t2 f2 g2 s3 t3 f3 g3:Bool) (x1 y1 x2 y2 x3 y3:List Int) (h:Sp.okRw x1 y1 x2 y2 x3 y3):Ev M1 (.pure 51 [.vec true 4 [.agg [.bool s1,.vec f1 1 (x1.map (.int .u32)),.bool t1,.vec g1 1 (y1.map (.int .u32))],.agg [.bool s2,.vec f2 1 (x2.map (.int .u32)),.bool t2,.vec g2 1 (y2.map (.int .u32))],.agg [.bool s3,.vec f3 1 (x3.map (.int .u32)),.bool t3,.vec g3 1 (y3.map (.int .u32))]]]) (.bool (Sp.ZgO s1 t1 s2 t2 s3 t3 x1 y1 x2 y2 x3 y3)) []:=by
 obtain ⟨h1,h2,h3⟩:=h
 unfold Sp.ZgO
 refine call51 (rFew _ _ _ _ _ _ _ _ _ _ _ _ _ _ _ _ _ _ _ (rFew0 _ _ _ _ _ _ _ _ _ _ _ _ _ _ _ _ _ _ _ ⟨ZfW h1,fun k => ?_,fun k1 => rFew1 _ _ _ _ _ _ _ _ _ _ _ _ _ _ _ _ _ _ _ ⟨ZfW h2,fun k => ?_,fun k2 => rFew2 _ _ _ _ _ _ _ _ _ _ _ _ _ _ _ _ _ _ _ ⟨ZfW h3,fun k => ?_,fun k3 => rFew3 _ _ _ _ _ _ _ _ _ _ _ _ _ _ _ _ _ _ _ ?_⟩⟩⟩))
 ·rw [small_n k];rfl
 ·rw [small_n k,Bool.and_false];rfl
 ·rw [small_n k,Bool.and_false]
 ·rw [small_y k1,small_y k2,small_y k3];rfl
end Go.Av

namespace Go.Av
open Go.Proofs
set_option maxRecDepth 100000
def fi12:Fi:=⟨23,[.tmp 2]⟩
def kp12:List (Nat × List Nat):=[(0,[1]),(1,[2])]
def fi15:Fi:=⟨21,[.tmp 8]⟩
def kp15:List (Nat × List Nat):=[(0,[0,1,2,3]),(1,[8])]
def fi47:Fi:=⟨14,[.cell 6 28]⟩
def kp47:List (Nat × List Nat):=[(0,[0,1,2,6]),(1,[6])]
def fi48:Fi:=⟨14,[.cell 6 38]⟩
def kp48:List (Nat × List Nat):=[(0,[0,1,2,6]),(1,[6])]
def fi50:Fi:=⟨9,[.cell 4 56]⟩
def kp50:List (Nat × List Nat):=[(0,[0,1,4]),(1,[4])]
def wLine_at (a b c:Int) (Q:AV->Heap->Prop):Prop:=Wp M1 (.run fi47 (atC (cd Tryz.f47) []) [(0,.int .i64 a),(1,.int .i64 b),(2,.int .i64 c)] []) Q
def wCirc_at (a b c:Int) (Q:AV->Heap->Prop):Prop:=Wp M1 (.run fi48 (atC (cd Tryz.f48) []) [(0,.int .i64 a),(1,.int .i64 b),(2,.int .i64 c)] []) Q
def wAt_at (a b:Int) (Q:AV->Heap->Prop):Prop:=Wp M1 (.run fi50 (atC (cd Tryz.f50) []) [(0,.int .i64 a),(1,.int .i64 b)] []) Q
def wSame_at (u v:Bool) (l m:List Pnt) (e f:Int) (Q:AV->Heap->Prop):Prop:=Wp M1 (.run fi15 (atC (cd Tryz.f15) []) [(0,.vec u 20 (l.map Pnt.a)),(1,.int .i64 e),(2,.vec v 20 (m.map Pnt.a)),(3,.int .i64 f)] []) Q
def rLine_at (f1 f2 f3 f4 f5 f6:Bool) (a b c:Rat) (Q:AV->Heap->Prop):Prop:=Wp M1 (.run fi12 (atC (cd Tryz.f12) []) [(0,Zay f1 f2 f3 f4 f5 f6 a b c)] []) Q
def rLineR_at (s1 t1 f1 g1 s2 t2 f2 g2 s3 t3 f3 g3:Bool) (x1 y1 x2 y2 x3 y3:List Int) (Q:AV->Heap->Prop):Prop:=Wp M1 (.run fi12 (atC (cd Tryz.f12) []) [(0,.agg [.bool s1,.vec f1 1 (x1.map (.int .u32)),.bool t1,.vec g1 1 (y1.map (.int .u32)),.bool s2,.vec f2 1 (x2.map (.int .u32)),.bool t2,.vec g2 1 (y2.map (.int .u32)),.bool s3,.vec f3 1 (x3.map (.int .u32)),.bool t3,.vec g3 1 (y3.map (.int .u32))])] []) Q
theorem call12 {args:List AV} {d:AV} (h:wc M1 fi12 Tryz.f12 args d):Ev M1 (.pure 12 args) d []:=pcl _ _ (by kernel_rfl) h
theorem call15 {args:List AV} {d:AV} (h:wc M1 fi15 Tryz.f15 args d):Ev M1 (.pure 15 args) d []:=pcl _ _ (by kernel_rfl) h
theorem call47 {args:List AV} {d:AV} (h:wc M1 fi47 Tryz.f47 args d):Ev M1 (.pure 47 args) d []:=pcl _ _ (by kernel_rfl) h
theorem call48 {args:List AV} {d:AV} (h:wc M1 fi48 Tryz.f48 args d):Ev M1 (.pure 48 args) d []:=pcl _ _ (by kernel_rfl) h
theorem call50 {args:List AV} {d:AV} (h:wc M1 fi50 Tryz.f50 args d):Ev M1 (.pure 50 args) d []:=pcl _ _ (by kernel_rfl) h
theorem wLine (a b c:Int)  (dq:AV) (H :
  (Sp.inI a) /\
  (Sp.inI b) /\
  (Sp.inI c) /\
  Weak (ZaD (Sp.qi a) (Sp.qi b) (Sp.qi c)) dq) :
 wLine_at a b c (Zaf dq):=by
 unfold wLine_at
 obtain ⟨k1,k2,k3,H⟩:=H
 exact Zah (G:=Zac kp47 [(1,1,.call (ratF (Sp.qi a)) none),(1,3,.call (ratF (Sp.qi b)) none),(1,5,.call (ratF (Sp.qi c)) none)] []) 1000 [] (ZaD (Sp.qi a) (Sp.qi b) (Sp.qi c)) (by kernel_rfl) (bc rfl b0) q0 (ce (@ev46 (a) k1) (ce (@ev46 (b) k2) (ce (@ev46 (c) k3) c0))) H
theorem wCirc (a b c:Int)  (dq:AV) (H :
  (Sp.inI a) /\
  (Sp.inI b) /\
  (Sp.inI c) /\
  Weak (ZaD (Sp.qi a) (Sp.qi b) (Sp.qi c)) dq) :
 wCirc_at a b c (Zaf dq):=by
 unfold wCirc_at
 obtain ⟨k1,k2,k3,H⟩:=H
 exact Zah (G:=Zac kp48 [(1,1,.call (ratF (Sp.qi a)) none),(1,3,.call (ratF (Sp.qi b)) none),(1,5,.call (ratF (Sp.qi c)) none)] []) 1000 [] (ZaD (Sp.qi a) (Sp.qi b) (Sp.qi c)) (by kernel_rfl) (bc rfl b0) q0 (ce (@ev46 (a) k1) (ce (@ev46 (b) k2) (ce (@ev46 (c) k3) c0))) H
noncomputable abbrev zNmH1 (a:Int) (b:Int):=(pntF (Sp.qi a) (Sp.qi 0) (Sp.qi b) (Sp.qi 0) (Sp.qi 0))
theorem wAt (a b:Int)  (dq:AV) (H :
  (Sp.inI a /\ Sp.inI b) /\
  Weak ((pntF (Sp.qi a) (Sp.qi 0) (Sp.qi b) (Sp.qi 0) (Sp.qi 0))) dq) :
 wAt_at a b (Zaf dq):=by
 unfold wAt_at
 obtain ⟨k1,H⟩:=H
 exact Zah (G:=Zac kp50 [(1,2,.call ((vecF (Sp.qi a) (Sp.qi b))) none),(1,3,.call (zNmH1 a b) none)] []) 1000 [] (zNmH1 a b) (by kernel_rfl) (bc rfl b0) q0 (ce (@ev93 (a) (b) k1) (ce (@ev61 (false) (false) (false) (false) (Sp.qi a) (Sp.qi b)) c0)) H
theorem wSame (u v:Bool) (l m:List Pnt) (e f:Int)  (dq:AV) (H :
  ((e = f) -> (Sp.okPL l)) /\
  (((e = f) /\ (Sp.Ze6 l = true)) -> (Sp.okPL l /\ Sp.okPL m)) /\
  vb (bif bif e == f then Sp.Ze6 l else false then Sp.eqL l m else false) = dq) :
 wSame_at u v l m e f (Zaf dq):=by
 unfold wSame_at
 obtain ⟨k2,k4,H⟩:=H
 exact Zap (G:=Zac kp15 [(1,5,.call (vb (Sp.Ze6 l)) none),(1,10,.call (vb (Sp.eqL l m)) none)] []) 1000 [] (calls:=[⟨(e == f) == true && true && true,false,63,[AV.vec u 20 (List.map Pnt.a l)],[],vb (Sp.Ze6 l),[]⟩,⟨(bif e == f then Sp.Ze6 l else false) == true && true && true,false,49,[AV.vec u 20 (List.map Pnt.a l),AV.vec v 20 (List.map Pnt.a m)],[],vb (Sp.eqL l m),[]⟩]) (vb (bif bif e == f then Sp.Ze6 l else false then Sp.eqL l m else false)) (by kernel_rfl) b0 q0 (cc (fun hc => ((@ev63 (u) (l) (k2 ((i_at (i_at (i_bt i_eq))).1 hc))):Ev M1 (Conf.pure 63 [AV.vec u 20 (List.map Pnt.a l)]) (vb (Sp.Ze6 l)) [])) (cc (fun hc => ((@ev49 (u) (v) (l) (m) (k4 ((i_at (i_at (i_bt (ZaG i_eq (ZaC _))))).1 hc))):Ev M1 (Conf.pure 49 [AV.vec u 20 (List.map Pnt.a l),AV.vec v 20 (List.map Pnt.a m)]) (vb (Sp.eqL l m)) [])) c0)) H
noncomputable abbrev zNmH2 (a:Rat) (b:Rat) (c:Rat):=Sp.ZgO (Sp.Zaa a.num) (Sp.Zaa (↑a.den:Int)) (Sp.Zaa b.num) (Sp.Zaa (↑b.den:Int)) (Sp.Zaa c.num) (Sp.Zaa (↑c.den:Int)) (Sp.Zad a.num) (Sp.Zad (↑a.den:Int)) (Sp.Zad b.num) (Sp.Zad (↑b.den:Int)) (Sp.Zad c.num) (Sp.Zad (↑c.den:Int))==true&&true
noncomputable abbrev zNmH3 (a:Rat) (b:Rat) (c:Rat):=Sp.ZgO (Sp.Zaa a.num) (Sp.Zaa (↑a.den:Int)) (Sp.Zaa b.num) (Sp.Zaa (↑b.den:Int)) (Sp.Zaa c.num) (Sp.Zaa (↑c.den:Int)) (Sp.Zad a.num) (Sp.Zad (↑a.den:Int)) (Sp.Zad b.num) (Sp.Zad (↑b.den:Int)) (Sp.Zad c.num) (Sp.Zad (↑c.den:Int))
theorem rLine (f1 f2 f3 f4 f5 f6:Bool) (a b c:Rat)  (dq:AV) (H :
  (Sp.okRw (Sp.Zad a.num) (Sp.Zad (↑a.den:Int)) (Sp.Zad b.num) (Sp.Zad (↑b.den:Int)) (Sp.Zad c.num) (Sp.Zad (↑c.den:Int))) /\
  (vb (bif Sp.ZgO (Sp.Zaa a.num) (Sp.Zaa (↑a.den:Int)) (Sp.Zaa b.num) (Sp.Zaa (↑b.den:Int)) (Sp.Zaa c.num) (Sp.Zaa (↑c.den:Int)) (Sp.Zad a.num) (Sp.Zad (↑a.den:Int)) (Sp.Zad b.num) (Sp.Zad (↑b.den:Int)) (Sp.Zad c.num) (Sp.Zad (↑c.den:Int)) then bif Sp.sgnI a.num != 0 then true else Sp.sgnI b.num != 0 else false)) = dq) :
 rLine_at f1 f2 f3 f4 f5 f6 a b c (Zaf dq):=by
 unfold rLine_at
 obtain ⟨k1,H⟩:=H
 exact Zap (G:=Zac kp12 [(1,7,.call (vb (zNmH3 a b c)) none),(1,11,.call (vi (Sp.sgnI a.num)) none),(1,16,.call (vi (Sp.sgnI b.num)) none)] []) 1000 [] (asm:=[true,true,true,!(zNmH2 a b c) || true,!((Sp.sgnI a.num != 0) == false && (zNmH2 a b c)) || true]) (calls:=[⟨true,false,51,[AV.vec true 4 [ratA f1 f2 a,ratA f3 f4 b,ratA f5 f6 c]],[],vb (zNmH3 a b c),[]⟩,⟨Sp.ZgO (Sp.Zaa a.num) (Sp.Zaa (↑a.den:Int)) (Sp.Zaa b.num) (Sp.Zaa (↑b.den:Int)) (Sp.Zaa c.num) (Sp.Zaa (↑c.den:Int)) (Sp.Zad a.num) (Sp.Zad (↑a.den:Int)) (Sp.Zad b.num) (Sp.Zad (↑b.den:Int)) (Sp.Zad c.num) (Sp.Zad (↑c.den:Int)) == true && true && true,false,20,[ratA f1 f2 a],[],vi (Sp.sgnI a.num),[]⟩,⟨(Sp.sgnI a.num != 0) == false && (zNmH2 a b c) && true,false,20,[ratA f3 f4 b],[],vi (Sp.sgnI b.num),[]⟩]) (vb (bif Sp.ZgO (Sp.Zaa a.num) (Sp.Zaa (↑a.den:Int)) (Sp.Zaa b.num) (Sp.Zaa (↑b.den:Int)) (Sp.Zaa c.num) (Sp.Zaa (↑c.den:Int)) (Sp.Zad a.num) (Sp.Zad (↑a.den:Int)) (Sp.Zad b.num) (Sp.Zad (↑b.den:Int)) (Sp.Zad c.num) (Sp.Zad (↑c.den:Int)) then bif Sp.sgnI a.num != 0 then true else Sp.sgnI b.num != 0 else false)) (by kernel_rfl) (bc rfl (bc rfl (bc rfl (bc (Bool.or_true _) (bc (Bool.or_true _) b0))))) q0 (cc (fun _ => (@ev51 (Sp.Zaa a.num) (Sp.Zaa (↑a.den:Int)) (f1) (f2) (Sp.Zaa b.num) (Sp.Zaa (↑b.den:Int)) (f3) (f4) (Sp.Zaa c.num) (Sp.Zaa (↑c.den:Int)) (f5) (f6) (Sp.Zad a.num) (Sp.Zad (↑a.den:Int)) (Sp.Zad b.num) (Sp.Zad (↑b.den:Int)) (Sp.Zad c.num) (Sp.Zad (↑c.den:Int)) k1)) (cc (fun hc => ((@ev20 (f1) (f2) (a.num) ((↑a.den:Int))):Ev M1 (Conf.pure 20 [ratA f1 f2 a]) (vi (Sp.sgnI a.num)) [])) (cc (fun hc => ((@ev20 (f3) (f4) (b.num) ((↑b.den:Int))):Ev M1 (Conf.pure 20 [ratA f3 f4 b]) (vi (Sp.sgnI b.num)) [])) c0))) H
noncomputable abbrev zNmH4 (s1:Bool) (f1:Bool) (x1:List Int) (t1:Bool) (g1:Bool) (y1:List Int):=ag [vb s1,AV.vec f1 1 (us x1),vb t1,AV.vec g1 1 (us y1)]
noncomputable abbrev zNmH5 (s2:Bool) (f2:Bool) (x2:List Int) (t2:Bool) (g2:Bool) (y2:List Int):=ag [vb s2,AV.vec f2 1 (us x2),vb t2,AV.vec g2 1 (us y2)]
theorem rLineR (s1 t1 f1 g1 s2 t2 f2 g2 s3 t3 f3 g3:Bool) (x1 y1 x2 y2 x3 y3:List Int)  (dq:AV) (H :
  (Sp.okRw x1 y1 x2 y2 x3 y3) /\
  ∃ (n1:Int),
  ((Sp.ZgO s1 t1 s2 t2 s3 t3 x1 y1 x2 y2 x3 y3 = true) -> (Ev M1 (Conf.pure 20 [ag [vb s1,AV.vec f1 1 (us x1),vb t1,AV.vec g1 1 (us y1)]]) (vi n1) [])) /\
  ∃ (n2:Int),
  (((¬(¬n1 = 0)) /\ (Sp.ZgO s1 t1 s2 t2 s3 t3 x1 y1 x2 y2 x3 y3 = true)) -> (Ev M1 (Conf.pure 20 [ag [vb s2,AV.vec f2 1 (us x2),vb t2,AV.vec g2 1 (us y2)]]) (vi n2) [])) /\
  (vb (bif Sp.ZgO s1 t1 s2 t2 s3 t3 x1 y1 x2 y2 x3 y3 then bif n1 != 0 then true else n2 != 0 else false)) = dq) :
 rLineR_at s1 t1 f1 g1 s2 t2 f2 g2 s3 t3 f3 g3 x1 y1 x2 y2 x3 y3 (Zaf dq):=by
 unfold rLineR_at
 obtain ⟨k1,n1,k3,n2,k5,H⟩:=H
 exact Zap (G:=Zac kp12 [(1,7,.call (vb (Sp.ZgO s1 t1 s2 t2 s3 t3 x1 y1 x2 y2 x3 y3)) none),(1,11,.call (vi n1) none),(1,16,.call (vi n2) none)] []) 1000 [] (asm:=[true,true,true,!(Sp.ZgO s1 t1 s2 t2 s3 t3 x1 y1 x2 y2 x3 y3 == true && true) || true,!((n1 != 0) == false && (Sp.ZgO s1 t1 s2 t2 s3 t3 x1 y1 x2 y2 x3 y3 == true && true)) || true]) (calls:=[⟨true,false,51,[AV.vec true 4 [(zNmH4 s1 f1 x1 t1 g1 y1),(zNmH5 s2 f2 x2 t2 g2 y2),ag [vb s3,AV.vec f3 1 (us x3),vb t3,AV.vec g3 1 (us y3)]]],[],vb (Sp.ZgO s1 t1 s2 t2 s3 t3 x1 y1 x2 y2 x3 y3),[]⟩,⟨Sp.ZgO s1 t1 s2 t2 s3 t3 x1 y1 x2 y2 x3 y3 == true && true && true,false,20,[(zNmH4 s1 f1 x1 t1 g1 y1)],[],vi n1,[]⟩,⟨(n1 != 0) == false && (Sp.ZgO s1 t1 s2 t2 s3 t3 x1 y1 x2 y2 x3 y3 == true && true) && true,false,20,[(zNmH5 s2 f2 x2 t2 g2 y2)],[],vi n2,[]⟩]) (vb (bif Sp.ZgO s1 t1 s2 t2 s3 t3 x1 y1 x2 y2 x3 y3 then bif n1 != 0 then true else n2 != 0 else false)) (by kernel_rfl) (bc rfl (bc rfl (bc rfl (bc (Bool.or_true _) (bc (Bool.or_true _) b0))))) q0 (cc (fun _ => (@ev51 (s1) (t1) (f1) (g1) (s2) (t2) (f2) (g2) (s3) (t3) (f3) (g3) (x1) (y1) (x2) (y2) (x3) (y3) k1)) (cc (fun hc => ((k3 ((i_at (i_at (i_bt (ZaC _)))).1 hc)):Ev M1 (Conf.pure 20 [(zNmH4 s1 f1 x1 t1 g1 y1)]) (vi n1) [])) (cc (fun hc => ((k5 ((i_at (i_and (i_bf i_ne) (i_at (i_bt (ZaC _))))).1 hc)):Ev M1 (Conf.pure 20 [(zNmH5 s2 f2 x2 t2 g2 y2)]) (vi n2) [])) c0))) H
end Go.Av

namespace Go.Av
open Go.Proofs
theorem ev47 (a b c:Int) (h:Sp.inI a /\ Sp.inI b /\ Sp.inI c):Ev M1 (.pure 47 [.int .i64 a,.int .i64 b,.int .i64 c]) (ZaD (Sp.qi a) (Sp.qi b) (Sp.qi c)) []:=
 call47 (wLine _ _ _ _ ⟨h.1,h.2.1,h.2.2,.refl _⟩)
theorem ev48 (a b c:Int) (h:Sp.inI a /\ Sp.inI b /\ Sp.inI c):Ev M1 (.pure 48 [.int .i64 a,.int .i64 b,.int .i64 c]) (ZaD (Sp.qi a) (Sp.qi b) (Sp.qi c)) []:=
 call48 (wCirc _ _ _ _ ⟨h.1,h.2.1,h.2.2,.refl _⟩)
theorem ev50 (a b:Int) (h:Sp.inI a /\ Sp.inI b):Ev M1 (.pure 50 [.int .i64 a,.int .i64 b]) (pntF (Sp.qi a) (Sp.qi 0) (Sp.qi b) (Sp.qi 0) (Sp.qi 0)) []:=
 call50 (wAt _ _ _ ⟨h,.refl _⟩)
namespace Sp
noncomputable def smB (l:List Pnt) (e:Int) (m:List Pnt) (f:Int):Bool:=bif bif e==f then Ze6 l else false then eqL l m else false
noncomputable def Zdn (s1 t1 s2 t2 s3 t3:Bool) (x1 y1 x2 y2 x3 y3:List Int):Bool:=ZgO s1 t1 s2 t2 s3 t3 x1 y1 x2 y2 x3 y3&&(decide (x1.length ≠ 0)||decide (x2.length ≠ 0))
noncomputable abbrev Zgl (a b c:Rat):Bool:=Zdn (Zaa a.num) (Zaa (a.den:Int)) (Zaa b.num) (Zaa (b.den:Int)) (Zaa c.num) (Zaa (c.den:Int)) (Zad a.num) (Zad (a.den:Int)) (Zad b.num) (Zad (b.den:Int)) (Zad c.num) (Zad (c.den:Int))
end Sp
theorem ev15 (u v:Bool) (l m:List Pnt) (e f:Int) (h:Sp.okPL l /\ Sp.okPL m):Ev M1 (.pure 15 [.vec u 20 (l.map Pnt.a),.int .i64 e,.vec v 20 (m.map Pnt.a),.int .i64 f]) (.bool (Sp.smB l e m f)) []:=
 call15 (wSame _ _ _ _ _ _ _ ⟨fun _ => h.1,fun _ => h,rfl⟩)
theorem few3_rat {s1 t1 s2 t2 s3 t3:Bool} {x1 y1 x2 y2 x3 y3:List Int} (h:Sp.ZgO s1 t1 s2 t2 s3 t3 x1 y1 x2 y2 x3 y3 = true):∃ a b c:Rat,Sp.okI2 a b c /\ (s1 = Sp.Zaa a.num /\ x1 = Sp.Zad a.num /\ t1 = Sp.Zaa (a.den:Int) /\ y1 = Sp.Zad (a.den:Int)) /\ (s2 = Sp.Zaa b.num /\ x2 = Sp.Zad b.num /\ t2 = Sp.Zaa (b.den:Int) /\ y2 = Sp.Zad (b.den:Int)) /\ s3 = Sp.Zaa c.num /\ x3 = Sp.Zad c.num /\ t3 = Sp.Zaa (c.den:Int) /\ y3 = Sp.Zad (c.den:Int):=by
 unfold Sp.ZgO at h
 rw [Bool.and_eq_true,Bool.and_eq_true] at h
 obtain ⟨a,ka,ea⟩:=ZeT h.1.1
 obtain ⟨b,kb,eb⟩:=ZeT h.1.2
 obtain ⟨c,kc,ec⟩:=ZeT h.2
 exact ⟨a,b,c,⟨ka,kb,kc⟩,ea,eb,ec⟩
theorem lim_len0 (v:Int):(Sp.Zad v).length ≠ 0 ↔ v ≠ 0:=by
 rw [ZaV]
 have:=ZaA (v:=v.natAbs)
 omega
theorem sg_ne (v:Int):(Sp.sgnI v != 0) = decide ((Sp.Zad v).length ≠ 0):=by
 by_cases k:v = 0
 ·subst k;rw [decide_eq_false fun h => (lim_len0 0).1 h rfl];rfl
 ·rw [decide_eq_true ((lim_len0 v).2 k),bne_iff_ne]
  exact fun e => k (Zbv.1 e)
theorem ev12 (s1 t1 f1 g1 s2 t2 f2 g2 s3 t3 f3 g3:Bool) (x1 y1 x2 y2 x3 y3:List Int) (h:Sp.okRw x1 y1 x2 y2 x3 y3):Ev M1 (.pure 12 [.agg [.bool s1,.vec f1 1 (x1.map (.int .u32)),.bool t1,.vec g1 1 (y1.map (.int .u32)),.bool s2,.vec f2 1 (x2.map (.int .u32)),.bool t2,.vec g2 1 (y2.map (.int .u32)),.bool s3,.vec f3 1 (x3.map (.int .u32)),.bool t3,.vec g3 1 (y3.map (.int .u32))]]) (.bool (Sp.Zdn s1 t1 s2 t2 s3 t3 x1 y1 x2 y2 x3 y3)) []:=by
 by_cases k:Sp.ZgO s1 t1 s2 t2 s3 t3 x1 y1 x2 y2 x3 y3 = true
 ·obtain ⟨a,b,c,hk,⟨rfl,rfl,rfl,rfl⟩,⟨rfl,rfl,rfl,rfl⟩,rfl,rfl,rfl,rfl⟩:=few3_rat k
  refine call12 (rLine _ _ _ _ _ _ _ _ _ _ ⟨h,?_⟩)
  unfold Sp.Zdn
  rw [k,sg_ne,sg_ne]
  cases decide ((Sp.Zad a.num).length ≠ 0) <;> cases decide ((Sp.Zad b.num).length ≠ 0) <;> rfl
 ·refine call12 (rLineR _ _ _ _ _ _ _ _ _ _ _ _ _ _ _ _ _ _ _ ⟨h,0,fun j => absurd j k,0,fun j => absurd j.2 k,?_⟩)
  unfold Sp.Zdn
  rw [(Bool.not_eq_true _).mp k];rfl
theorem lineB_few {s1 t1 s2 t2 s3 t3:Bool} {x1 y1 x2 y2 x3 y3:List Int} (h:Sp.Zdn s1 t1 s2 t2 s3 t3 x1 y1 x2 y2 x3 y3 = true):Sp.ZgO s1 t1 s2 t2 s3 t3 x1 y1 x2 y2 x3 y3 = true:=by
 unfold Sp.Zdn at h;rw [Bool.and_eq_true] at h;exact h.1
end Go.Av

namespace Go.Av
open Go.Proofs
set_option maxRecDepth 100000
def fi11:Fi:=⟨72,[.tmp 0]⟩
def kp11:List (Nat × List Nat):=[(0,[]),(1,[1,2]),(2,[1,2,3]),(3,[1,2,3,4]),(4,[1,2,3,4,5,6]),(5,[1,2,3,4,5,6,8]),(6,[0])]
def wAwake_at  (Q:AV->Heap->Prop):Prop:=Wp M1 (.run fi11 (atC (cd Tryz.f11) []) [] []) Q
theorem call11 {args:List AV} {d:AV} (h:wc M1 fi11 Tryz.f11 args d):Ev M1 (.pure 11 args) d []:=pcl _ _ (by kernel_rfl) h
noncomputable abbrev ZgQ:=(pntF (Sp.qi 1) (Sp.qi 0) (Sp.qi 1) (Sp.qi 0) (Sp.qi 0))
noncomputable abbrev zNmI2:=(pntF (Sp.qi (-1)) (Sp.qi 0) (Sp.qi 1) (Sp.qi 0) (Sp.qi 0))
noncomputable abbrev zNmI3:=(pntF (Sp.qi 2) (Sp.qi 0) (Sp.qi 1) (Sp.qi 0) (Sp.qi 0))
noncomputable abbrev zNmI4:=Sp.Zej (Sp.qi 1) (Sp.qi 1) (Sp.qi 3) (Sp.qi 1) (Sp.qi (-1)) (Sp.qi 1)
noncomputable abbrev zNmI5:=Sp.dep (Sp.qi 1) (Sp.qi 1) (Sp.qi 2) (Sp.qi 0) (Sp.qi 0) (Sp.qi 2)=0
noncomputable abbrev zNmI6:=Sp.Zc8 (Sp.qi 0) (Sp.qi 1) (Sp.qi 1) (Sp.qi 0) (Sp.qi 0) (Sp.qi 2)
noncomputable abbrev zNmI7:=Sp.Zc8 (Sp.qi 1) (Sp.qi 1) (Sp.qi 2) (Sp.qi 0) (Sp.qi 0) (Sp.qi 2)
noncomputable abbrev zNmI8:=(↑(Sp.ZgZ (Sp.qi 0) (Sp.qi 0) (Sp.qi 1) (Sp.qi 1) (Sp.qi 0) (Sp.qi 1)).length:Int)=2
noncomputable abbrev zNmI9 (b1:Bool):=bif Sp.ZcW (Sp.qi 1) (Sp.qi 1) (Sp.qi 3) (Sp.qi 1) (Sp.qi (-1)) (Sp.qi 1)==0 then b1 else false
noncomputable abbrev zNmI10:=Sp.ZcW (Sp.qi 1) (Sp.qi 1) (Sp.qi 3) (Sp.qi 1) (Sp.qi (-1)) (Sp.qi 1)=0
noncomputable abbrev zNmI11:=Sp.Zd7 (Sp.qi 0) (Sp.qi 0) (Sp.qi 1) (Sp.qi 0) (Sp.qi 0) (Sp.qi 1)=10
noncomputable abbrev zNmI12:=Sp.Zd7 (Sp.qi 0) (Sp.qi 0) (Sp.qi 1) (Sp.qi 1) (Sp.qi 0) (Sp.qi 1)=0
theorem wAwake   (dq:AV) (H :
  (Sp.inI 1 /\ Sp.inI 1 /\ Sp.inI 3) /\
  (Sp.inI 1 /\ Sp.inI (-1) /\ Sp.inI 1) /\
  (Sp.Zem (Sp.qi 1) (Sp.qi 1) (Sp.qi 3) /\ Sp.Zem (Sp.qi 1) (Sp.qi (-1)) (Sp.qi 1)) /\
  (Sp.inI 0 /\ Sp.inI 1 /\ Sp.inI 1) /\
  (Sp.inI 0 /\ Sp.inI 0 /\ Sp.inI 2) /\
  (Sp.okLn (Sp.qi 0) (Sp.qi 1) (Sp.qi 1) /\ Sp.okVn (Sp.qi 0) (Sp.qi 0) /\ Sp.okT 30 (Sp.qi 2)) /\
  (Sp.inI 1 /\ Sp.inI 1 /\ Sp.inI 2) /\
  (Sp.okLn (Sp.qi 1) (Sp.qi 1) (Sp.qi 2) /\ Sp.okVn (Sp.qi 0) (Sp.qi 0) /\ Sp.okT 30 (Sp.qi 2)) /\
  (Sp.inI 0 /\ Sp.inI 0 /\ Sp.inI 1) /\
  (Sp.inI 1 /\ Sp.inI 0 /\ Sp.inI 1) /\
  (Sp.okI2 (Sp.qi 0) (Sp.qi 0) (Sp.qi 1) /\ Sp.okI2 (Sp.qi 1) (Sp.qi 0) (Sp.qi 1)) /\
  (Sp.okI2 (Sp.qi 0) (Sp.qi 0) (Sp.qi 1) /\ Sp.okI2 (Sp.qi 0) (Sp.qi 0) (Sp.qi 1)) /\
  ((Sp.ZcW (Sp.qi 1) (Sp.qi 1) (Sp.qi 3) (Sp.qi 1) (Sp.qi (-1)) (Sp.qi 1) = 0) -> (Sp.inI 2 /\ Sp.inI 1)) /\
  ∃ (b1:Bool),
  ((Sp.ZcW (Sp.qi 1) (Sp.qi 1) (Sp.qi 3) (Sp.qi 1) (Sp.qi (-1)) (Sp.qi 1) = 0) -> (Ev M1 (Conf.pure 49 [AV.vec false 20 (List.map Pnt.a (Sp.Zej (Sp.qi 1) (Sp.qi 1) (Sp.qi 3) (Sp.qi 1) (Sp.qi (-1)) (Sp.qi 1))),AV.vec true 20 [(pntF (Sp.qi 2) (Sp.qi 0) (Sp.qi 1) (Sp.qi 0) (Sp.qi 0))]]) (vb b1) [])) /\
  (((Sp.ZcW (Sp.qi 1) (Sp.qi 1) (Sp.qi 3) (Sp.qi 1) (Sp.qi (-1)) (Sp.qi 1) = 0) /\ (b1 = true)) -> (Sp.inI (-1) /\ Sp.inI 1)) /\
  (((Sp.ZcW (Sp.qi 1) (Sp.qi 1) (Sp.qi 3) (Sp.qi 1) (Sp.qi (-1)) (Sp.qi 1) = 0) /\ (b1 = true)) -> (Sp.inI 1 /\ Sp.inI 1)) /\
  ∃ (b2:Bool),
  (((Sp.ZcW (Sp.qi 1) (Sp.qi 1) (Sp.qi 3) (Sp.qi 1) (Sp.qi (-1)) (Sp.qi 1) = 0) /\ (b1 = true)) -> (Ev M1 (Conf.pure 49 [AV.vec false 20 (List.map Pnt.a (Sp.Zc8 (Sp.qi 0) (Sp.qi 1) (Sp.qi 1) (Sp.qi 0) (Sp.qi 0) (Sp.qi 2))),AV.vec true 20 [(pntF (Sp.qi (-1)) (Sp.qi 0) (Sp.qi 1) (Sp.qi 0) (Sp.qi 0)),(pntF (Sp.qi 1) (Sp.qi 0) (Sp.qi 1) (Sp.qi 0) (Sp.qi 0))]]) (vb b2) [])) /\
  ((((Sp.ZcW (Sp.qi 1) (Sp.qi 1) (Sp.qi 3) (Sp.qi 1) (Sp.qi (-1)) (Sp.qi 1) = 0) /\ (b1 = true)) /\ (b2 = true)) -> (Sp.inI 1 /\ Sp.inI 1)) /\
  ∃ (b3:Bool),
  ((((Sp.ZcW (Sp.qi 1) (Sp.qi 1) (Sp.qi 3) (Sp.qi 1) (Sp.qi (-1)) (Sp.qi 1) = 0) /\ (b1 = true)) /\ (b2 = true)) -> (Ev M1 (Conf.pure 49 [AV.vec false 20 (List.map Pnt.a (Sp.Zc8 (Sp.qi 1) (Sp.qi 1) (Sp.qi 2) (Sp.qi 0) (Sp.qi 0) (Sp.qi 2))),AV.vec true 20 [(pntF (Sp.qi 1) (Sp.qi 0) (Sp.qi 1) (Sp.qi 0) (Sp.qi 0))]]) (vb b3) [])) /\
  vb (bif bif bif bif bif bif bif Sp.ZcW (Sp.qi 1) (Sp.qi 1) (Sp.qi 3) (Sp.qi 1) (Sp.qi (-1)) (Sp.qi 1) == 0 then b1 else false then b2 else false then b3 else false then Sp.Zd7 (Sp.qi 0) (Sp.qi 0) (Sp.qi 1) (Sp.qi 1) (Sp.qi 0) (Sp.qi 1) == 0 else false then (↑(Sp.ZgZ (Sp.qi 0) (Sp.qi 0) (Sp.qi 1) (Sp.qi 1) (Sp.qi 0) (Sp.qi 1)).length:Int) == 2 else false then Sp.Zd7 (Sp.qi 0) (Sp.qi 0) (Sp.qi 1) (Sp.qi 0) (Sp.qi 0) (Sp.qi 1) == 10 else false then decide (Sp.dep (Sp.qi 1) (Sp.qi 1) (Sp.qi 2) (Sp.qi 0) (Sp.qi 0) (Sp.qi 2) = 0) else false) = dq) :
 wAwake_at  (Zaf dq):=by
 unfold wAwake_at
 obtain ⟨k1,k2,k3,k4,k5,k6,k7,k8,k9,k10,k11,k12,k14,b1,k16,k18,k20,b2,k22,k24,b3,k26,H⟩:=H
 have w27:(List.map Pnt.a (Sp.ZgZ (Sp.qi 0) (Sp.qi 0) (Sp.qi 1) (Sp.qi 1) (Sp.qi 0) (Sp.qi 1))).length = (Sp.ZgZ (Sp.qi 0) (Sp.qi 0) (Sp.qi 1) (Sp.qi 1) (Sp.qi 0) (Sp.qi 1)).length:=List.length_map ..
 have i28:((bif bif bif bif bif bif Sp.ZcW (Sp.qi 1) (Sp.qi 1) (Sp.qi 3) (Sp.qi 1) (Sp.qi (-1)) (Sp.qi 1) == 0 then b1 else false then b2 else false then b3 else false then Sp.Zd7 (Sp.qi 0) (Sp.qi 0) (Sp.qi 1) (Sp.qi 1) (Sp.qi 0) (Sp.qi 1) == 0 else false then (↑(List.map Pnt.a (Sp.ZgZ (Sp.qi 0) (Sp.qi 0) (Sp.qi 1) (Sp.qi 1) (Sp.qi 0) (Sp.qi 1))).length:Int) == 2 else false then Sp.Zd7 (Sp.qi 0) (Sp.qi 0) (Sp.qi 1) (Sp.qi 0) (Sp.qi 0) (Sp.qi 1) == 10 else false) == true && true && true) = true ↔ ((((((zNmI10 /\ (b1 = true)) /\ (b2 = true)) /\ (b3 = true)) /\ zNmI12) /\ zNmI8) /\ zNmI11):=(by (try rw [w27]);all_goals exact (i_at (i_at (i_bt (ZaG (ZaG (ZaG (ZaG (ZaG (ZaG i_eq (ZaC _)) (ZaC _)) (ZaC _)) i_eq) i_eq) i_eq)))))
 have i29:((bif bif bif bif bif bif Sp.ZcW (Sp.qi 1) (Sp.qi 1) (Sp.qi 3) (Sp.qi 1) (Sp.qi (-1)) (Sp.qi 1) == 0 then b1 else false then b2 else false then b3 else false then Sp.Zd7 (Sp.qi 0) (Sp.qi 0) (Sp.qi 1) (Sp.qi 1) (Sp.qi 0) (Sp.qi 1) == 0 else false then (↑(List.map Pnt.a (Sp.ZgZ (Sp.qi 0) (Sp.qi 0) (Sp.qi 1) (Sp.qi 1) (Sp.qi 0) (Sp.qi 1))).length:Int) == 2 else false then Sp.Zd7 (Sp.qi 0) (Sp.qi 0) (Sp.qi 1) (Sp.qi 0) (Sp.qi 0) (Sp.qi 1) == 10 else false) == true && true && true) = true ↔ ((((((zNmI10 /\ (b1 = true)) /\ (b2 = true)) /\ (b3 = true)) /\ zNmI12) /\ zNmI8) /\ zNmI11):=(by (try rw [w27]);all_goals exact (i_at (i_at (i_bt (ZaG (ZaG (ZaG (ZaG (ZaG (ZaG i_eq (ZaC _)) (ZaC _)) (ZaC _)) i_eq) i_eq) i_eq)))))
 have i30:((bif bif bif bif bif bif Sp.ZcW (Sp.qi 1) (Sp.qi 1) (Sp.qi 3) (Sp.qi 1) (Sp.qi (-1)) (Sp.qi 1) == 0 then b1 else false then b2 else false then b3 else false then Sp.Zd7 (Sp.qi 0) (Sp.qi 0) (Sp.qi 1) (Sp.qi 1) (Sp.qi 0) (Sp.qi 1) == 0 else false then (↑(List.map Pnt.a (Sp.ZgZ (Sp.qi 0) (Sp.qi 0) (Sp.qi 1) (Sp.qi 1) (Sp.qi 0) (Sp.qi 1))).length:Int) == 2 else false then Sp.Zd7 (Sp.qi 0) (Sp.qi 0) (Sp.qi 1) (Sp.qi 0) (Sp.qi 0) (Sp.qi 1) == 10 else false) == true && true && true) = true ↔ ((((((zNmI10 /\ (b1 = true)) /\ (b2 = true)) /\ (b3 = true)) /\ zNmI12) /\ zNmI8) /\ zNmI11):=(by (try rw [w27]);all_goals exact (i_at (i_at (i_bt (ZaG (ZaG (ZaG (ZaG (ZaG (ZaG i_eq (ZaC _)) (ZaC _)) (ZaC _)) i_eq) i_eq) i_eq)))))
 exact Zap (G:=Zac kp11 [(1,0,.call (ZaD (Sp.qi 1) (Sp.qi 1) (Sp.qi 3)) none),(1,1,.call (ZaD (Sp.qi 1) (Sp.qi (-1)) (Sp.qi 1)) none),(1,2,.call (tu [AV.vec false 20 (List.map Pnt.a zNmI4),vi (Sp.ZcW (Sp.qi 1) (Sp.qi 1) (Sp.qi 3) (Sp.qi 1) (Sp.qi (-1)) (Sp.qi 1))]) none),(2,0,.call (ZaD (Sp.qi 0) (Sp.qi 1) (Sp.qi 1)) none),(2,1,.call (ZaD (Sp.qi 0) (Sp.qi 0) (Sp.qi 2)) none),(2,2,.call (AV.vec false 20 (List.map Pnt.a zNmI6)) none),(3,0,.call (ZaD (Sp.qi 1) (Sp.qi 1) (Sp.qi 2)) none),(3,1,.call (ZaD (Sp.qi 0) (Sp.qi 0) (Sp.qi 2)) none),(3,2,.call (AV.vec false 20 (List.map Pnt.a zNmI7)) none),(4,0,.call (ZaD (Sp.qi 0) (Sp.qi 0) (Sp.qi 1)) none),(4,1,.call (ZaD (Sp.qi 1) (Sp.qi 0) (Sp.qi 1)) none),(4,2,.call (tu [AV.vec false 20 (List.map Pnt.a (Sp.ZgZ (Sp.qi 0) (Sp.qi 0) (Sp.qi 1) (Sp.qi 1) (Sp.qi 0) (Sp.qi 1))),vi (Sp.Zd7 (Sp.qi 0) (Sp.qi 0) (Sp.qi 1) (Sp.qi 1) (Sp.qi 0) (Sp.qi 1))]) none),(5,0,.call (ZaD (Sp.qi 0) (Sp.qi 0) (Sp.qi 1)) none),(5,1,.call (ZaD (Sp.qi 0) (Sp.qi 0) (Sp.qi 1)) none),(5,2,.call (tu [AV.vec false 20 (List.map Pnt.a (Sp.ZgZ (Sp.qi 0) (Sp.qi 0) (Sp.qi 1) (Sp.qi 0) (Sp.qi 0) (Sp.qi 1))),vi (Sp.Zd7 (Sp.qi 0) (Sp.qi 0) (Sp.qi 1) (Sp.qi 0) (Sp.qi 0) (Sp.qi 1))]) none),(6,4,.call (zNmI3) none),(6,6,.call (vb b1) none),(6,10,.call (zNmI2) none),(6,11,.call (ZgQ) none),(6,13,.call (vb b2) none),(6,17,.call (ZgQ) none),(6,19,.call (vb b3) none),(6,35,.call (ZaD (Sp.qi 1) (Sp.qi 1) (Sp.qi 2)) none),(6,36,.call (ZaD (Sp.qi 0) (Sp.qi 0) (Sp.qi 2)) none),(6,37,.call (vb (decide zNmI5)) none)] []) 1000 [] (calls:=[⟨true,false,47,[vi 1,vi 1,vi 3],[],ZaD (Sp.qi 1) (Sp.qi 1) (Sp.qi 3),[]⟩,⟨true,false,47,[vi 1,vi (-1),vi 1],[],ZaD (Sp.qi 1) (Sp.qi (-1)) (Sp.qi 1),[]⟩,⟨true,false,13,[ZaD (Sp.qi 1) (Sp.qi 1) (Sp.qi 3),ZaD (Sp.qi 1) (Sp.qi (-1)) (Sp.qi 1)],[],tu [AV.vec false 20 (List.map Pnt.a zNmI4),vi (Sp.ZcW (Sp.qi 1) (Sp.qi 1) (Sp.qi 3) (Sp.qi 1) (Sp.qi (-1)) (Sp.qi 1))],[]⟩,⟨true,false,47,[vi 0,vi 1,vi 1],[],ZaD (Sp.qi 0) (Sp.qi 1) (Sp.qi 1),[]⟩,⟨true,false,48,[vi 0,vi 0,vi 2],[],ZaD (Sp.qi 0) (Sp.qi 0) (Sp.qi 2),[]⟩,⟨true,false,17,[ZaD (Sp.qi 0) (Sp.qi 1) (Sp.qi 1),ZaD (Sp.qi 0) (Sp.qi 0) (Sp.qi 2)],[],AV.vec false 20 (List.map Pnt.a zNmI6),[]⟩,⟨true,false,47,[vi 1,vi 1,vi 2],[],ZaD (Sp.qi 1) (Sp.qi 1) (Sp.qi 2),[]⟩,⟨true,false,48,[vi 0,vi 0,vi 2],[],ZaD (Sp.qi 0) (Sp.qi 0) (Sp.qi 2),[]⟩,⟨true,false,17,[ZaD (Sp.qi 1) (Sp.qi 1) (Sp.qi 2),ZaD (Sp.qi 0) (Sp.qi 0) (Sp.qi 2)],[],AV.vec false 20 (List.map Pnt.a zNmI7),[]⟩,⟨true,false,48,[vi 0,vi 0,vi 1],[],ZaD (Sp.qi 0) (Sp.qi 0) (Sp.qi 1),[]⟩,⟨true,false,48,[vi 1,vi 0,vi 1],[],ZaD (Sp.qi 1) (Sp.qi 0) (Sp.qi 1),[]⟩,⟨true,false,22,[ZaD (Sp.qi 0) (Sp.qi 0) (Sp.qi 1),ZaD (Sp.qi 1) (Sp.qi 0) (Sp.qi 1)],[],tu [AV.vec false 20 (List.map Pnt.a (Sp.ZgZ (Sp.qi 0) (Sp.qi 0) (Sp.qi 1) (Sp.qi 1) (Sp.qi 0) (Sp.qi 1))),vi (Sp.Zd7 (Sp.qi 0) (Sp.qi 0) (Sp.qi 1) (Sp.qi 1) (Sp.qi 0) (Sp.qi 1))],[]⟩,⟨true,false,48,[vi 0,vi 0,vi 1],[],ZaD (Sp.qi 0) (Sp.qi 0) (Sp.qi 1),[]⟩,⟨true,false,48,[vi 0,vi 0,vi 1],[],ZaD (Sp.qi 0) (Sp.qi 0) (Sp.qi 1),[]⟩,⟨true,false,22,[ZaD (Sp.qi 0) (Sp.qi 0) (Sp.qi 1),ZaD (Sp.qi 0) (Sp.qi 0) (Sp.qi 1)],[],tu [AV.vec false 20 (List.map Pnt.a (Sp.ZgZ (Sp.qi 0) (Sp.qi 0) (Sp.qi 1) (Sp.qi 0) (Sp.qi 0) (Sp.qi 1))),vi (Sp.Zd7 (Sp.qi 0) (Sp.qi 0) (Sp.qi 1) (Sp.qi 0) (Sp.qi 0) (Sp.qi 1))],[]⟩,⟨(Sp.ZcW (Sp.qi 1) (Sp.qi 1) (Sp.qi 3) (Sp.qi 1) (Sp.qi (-1)) (Sp.qi 1) == 0) == true && true && true,false,50,[vi 2,vi 1],[],zNmI3,[]⟩,⟨(Sp.ZcW (Sp.qi 1) (Sp.qi 1) (Sp.qi 3) (Sp.qi 1) (Sp.qi (-1)) (Sp.qi 1) == 0) == true && true && true,false,49,[AV.vec false 20 (List.map Pnt.a zNmI4),AV.vec true 20 [zNmI3]],[],vb b1,[]⟩,⟨(zNmI9 b1) == true && true && true,false,50,[vi (-1),vi 1],[],zNmI2,[]⟩,⟨(zNmI9 b1) == true && true && true,false,50,[vi 1,vi 1],[],ZgQ,[]⟩,⟨(zNmI9 b1) == true && true && true,false,49,[AV.vec false 20 (List.map Pnt.a zNmI6),AV.vec true 20 [zNmI2,ZgQ]],[],vb b2,[]⟩,⟨(bif bif Sp.ZcW (Sp.qi 1) (Sp.qi 1) (Sp.qi 3) (Sp.qi 1) (Sp.qi (-1)) (Sp.qi 1) == 0 then b1 else false then b2 else false) == true && true && true,false,50,[vi 1,vi 1],[],ZgQ,[]⟩,⟨(bif bif Sp.ZcW (Sp.qi 1) (Sp.qi 1) (Sp.qi 3) (Sp.qi 1) (Sp.qi (-1)) (Sp.qi 1) == 0 then b1 else false then b2 else false) == true && true && true,false,49,[AV.vec false 20 (List.map Pnt.a zNmI7),AV.vec true 20 [ZgQ]],[],vb b3,[]⟩,⟨(bif bif bif bif bif bif Sp.ZcW (Sp.qi 1) (Sp.qi 1) (Sp.qi 3) (Sp.qi 1) (Sp.qi (-1)) (Sp.qi 1) == 0 then b1 else false then b2 else false then b3 else false then Sp.Zd7 (Sp.qi 0) (Sp.qi 0) (Sp.qi 1) (Sp.qi 1) (Sp.qi 0) (Sp.qi 1) == 0 else false then (↑(List.map Pnt.a (Sp.ZgZ (Sp.qi 0) (Sp.qi 0) (Sp.qi 1) (Sp.qi 1) (Sp.qi 0) (Sp.qi 1))).length:Int) == 2 else false then Sp.Zd7 (Sp.qi 0) (Sp.qi 0) (Sp.qi 1) (Sp.qi 0) (Sp.qi 0) (Sp.qi 1) == 10 else false) == true && true && true,false,47,[vi 1,vi 1,vi 2],[],ZaD (Sp.qi 1) (Sp.qi 1) (Sp.qi 2),[]⟩,⟨(bif bif bif bif bif bif Sp.ZcW (Sp.qi 1) (Sp.qi 1) (Sp.qi 3) (Sp.qi 1) (Sp.qi (-1)) (Sp.qi 1) == 0 then b1 else false then b2 else false then b3 else false then Sp.Zd7 (Sp.qi 0) (Sp.qi 0) (Sp.qi 1) (Sp.qi 1) (Sp.qi 0) (Sp.qi 1) == 0 else false then (↑(List.map Pnt.a (Sp.ZgZ (Sp.qi 0) (Sp.qi 0) (Sp.qi 1) (Sp.qi 1) (Sp.qi 0) (Sp.qi 1))).length:Int) == 2 else false then Sp.Zd7 (Sp.qi 0) (Sp.qi 0) (Sp.qi 1) (Sp.qi 0) (Sp.qi 0) (Sp.qi 1) == 10 else false) == true && true && true,false,48,[vi 0,vi 0,vi 2],[],ZaD (Sp.qi 0) (Sp.qi 0) (Sp.qi 2),[]⟩,⟨(bif bif bif bif bif bif Sp.ZcW (Sp.qi 1) (Sp.qi 1) (Sp.qi 3) (Sp.qi 1) (Sp.qi (-1)) (Sp.qi 1) == 0 then b1 else false then b2 else false then b3 else false then Sp.Zd7 (Sp.qi 0) (Sp.qi 0) (Sp.qi 1) (Sp.qi 1) (Sp.qi 0) (Sp.qi 1) == 0 else false then (↑(List.map Pnt.a (Sp.ZgZ (Sp.qi 0) (Sp.qi 0) (Sp.qi 1) (Sp.qi 1) (Sp.qi 0) (Sp.qi 1))).length:Int) == 2 else false then Sp.Zd7 (Sp.qi 0) (Sp.qi 0) (Sp.qi 1) (Sp.qi 0) (Sp.qi 0) (Sp.qi 1) == 10 else false) == true && true && true,false,19,[ZaD (Sp.qi 1) (Sp.qi 1) (Sp.qi 2),ZaD (Sp.qi 0) (Sp.qi 0) (Sp.qi 2)],[],vb (decide zNmI5),[]⟩]) (vb (bif bif bif bif bif bif bif Sp.ZcW (Sp.qi 1) (Sp.qi 1) (Sp.qi 3) (Sp.qi 1) (Sp.qi (-1)) (Sp.qi 1) == 0 then b1 else false then b2 else false then b3 else false then Sp.Zd7 (Sp.qi 0) (Sp.qi 0) (Sp.qi 1) (Sp.qi 1) (Sp.qi 0) (Sp.qi 1) == 0 else false then (↑(List.map Pnt.a (Sp.ZgZ (Sp.qi 0) (Sp.qi 0) (Sp.qi 1) (Sp.qi 1) (Sp.qi 0) (Sp.qi 1))).length:Int) == 2 else false then Sp.Zd7 (Sp.qi 0) (Sp.qi 0) (Sp.qi 1) (Sp.qi 0) (Sp.qi 0) (Sp.qi 1) == 10 else false then decide zNmI5 else false)) (by kernel_rfl) b0 q0 (cc (fun _ => (@ev47 (1) (1) (3) k1)) (cc (fun _ => (@ev47 (1) (-1) (1) k2)) (cc (fun _ => (@ev13 (false) (false) (false) (false) (false) (false) (false) (false) (false) (false) (false) (false) (Sp.qi 1) (Sp.qi 1) (Sp.qi 3) (Sp.qi 1) (Sp.qi (-1)) (Sp.qi 1) k3)) (cc (fun _ => (@ev47 (0) (1) (1) k4)) (cc (fun _ => (@ev48 (0) (0) (2) k5)) (cc (fun _ => (@ev17 (false) (false) (false) (false) (false) (false) (false) (false) (false) (false) (false) (false) (Sp.qi 0) (Sp.qi 1) (Sp.qi 1) (Sp.qi 0) (Sp.qi 0) (Sp.qi 2) k6)) (cc (fun _ => (@ev47 (1) (1) (2) k7)) (cc (fun _ => (@ev48 (0) (0) (2) k5)) (cc (fun _ => (@ev17 (false) (false) (false) (false) (false) (false) (false) (false) (false) (false) (false) (false) (Sp.qi 1) (Sp.qi 1) (Sp.qi 2) (Sp.qi 0) (Sp.qi 0) (Sp.qi 2) k8)) (cc (fun _ => (@ev48 (0) (0) (1) k9)) (cc (fun _ => (@ev48 (1) (0) (1) k10)) (cc (fun _ => (@ev22 (false) (false) (false) (false) (false) (false) (false) (false) (false) (false) (false) (false) (Sp.qi 0) (Sp.qi 0) (Sp.qi 1) (Sp.qi 1) (Sp.qi 0) (Sp.qi 1) k11)) (cc (fun _ => (@ev48 (0) (0) (1) k9)) (cc (fun _ => (@ev48 (0) (0) (1) k9)) (cc (fun _ => (@ev22 (false) (false) (false) (false) (false) (false) (false) (false) (false) (false) (false) (false) (Sp.qi 0) (Sp.qi 0) (Sp.qi 1) (Sp.qi 0) (Sp.qi 0) (Sp.qi 1) k12)) (cc (fun hc => ((@ev50 (2) (1) (k14 ((i_at (i_at (i_bt i_eq))).1 hc))):Ev M1 (Conf.pure 50 [vi 2,vi 1]) (zNmI3) [])) (cc (fun hc => ((k16 ((i_at (i_at (i_bt i_eq))).1 hc)):Ev M1 (Conf.pure 49 [AV.vec false 20 (List.map Pnt.a zNmI4),AV.vec true 20 [zNmI3]]) (vb b1) [])) (cc (fun hc => ((@ev50 (-1) (1) (k18 ((i_at (i_at (i_bt (ZaG i_eq (ZaC _))))).1 hc))):Ev M1 (Conf.pure 50 [vi (-1),vi 1]) (zNmI2) [])) (cc (fun hc => ((@ev50 (1) (1) (k20 ((i_at (i_at (i_bt (ZaG i_eq (ZaC _))))).1 hc))):Ev M1 (Conf.pure 50 [vi 1,vi 1]) (ZgQ) [])) (cc (fun hc => ((k22 ((i_at (i_at (i_bt (ZaG i_eq (ZaC _))))).1 hc)):Ev M1 (Conf.pure 49 [AV.vec false 20 (List.map Pnt.a zNmI6),AV.vec true 20 [zNmI2,ZgQ]]) (vb b2) [])) (cc (fun hc => ((@ev50 (1) (1) (k24 ((i_at (i_at (i_bt (ZaG (ZaG i_eq (ZaC _)) (ZaC _))))).1 hc))):Ev M1 (Conf.pure 50 [vi 1,vi 1]) (ZgQ) [])) (cc (fun hc => ((k26 ((i_at (i_at (i_bt (ZaG (ZaG i_eq (ZaC _)) (ZaC _))))).1 hc)):Ev M1 (Conf.pure 49 [AV.vec false 20 (List.map Pnt.a zNmI7),AV.vec true 20 [ZgQ]]) (vb b3) [])) (cc (fun hc => ((@ev47 (1) (1) (2) k7):Ev M1 (Conf.pure 47 [vi 1,vi 1,vi 2]) (ZaD (Sp.qi 1) (Sp.qi 1) (Sp.qi 2)) [])) (cc (fun hc => ((@ev48 (0) (0) (2) k5):Ev M1 (Conf.pure 48 [vi 0,vi 0,vi 2]) (ZaD (Sp.qi 0) (Sp.qi 0) (Sp.qi 2)) [])) (cc (fun hc => ((@ev19 (false) (false) (false) (false) (false) (false) (false) (false) (false) (false) (false) (false) (Sp.qi 1) (Sp.qi 1) (Sp.qi 2) (Sp.qi 0) (Sp.qi 0) (Sp.qi 2) k8):Ev M1 (Conf.pure 19 [ZaD (Sp.qi 1) (Sp.qi 1) (Sp.qi 2),ZaD (Sp.qi 0) (Sp.qi 0) (Sp.qi 2)]) (vb (decide zNmI5)) [])) c0))))))))))))))))))))))))) (by (try rw [w27]);all_goals exact H)
end Go.Av

namespace Go.Av
open Go.Proofs
theorem okT_sm {n:Int} (h:n.natAbs < 1000000000):Sp.okT 1 (Sp.qi n):=by
 rw [Zfo]
 have e:(1000000000:Nat) ^ 1 = 1000000000:=rfl
 refine ⟨?_,?_⟩
 ·rw [Rat.num_intCast]
  refine Zau.1 ?_
  unfold Sp.fits;omega
 ·rw [Rat.den_intCast]
  refine Zau.1 ?_
  unfold Sp.fits;omega
theorem sm_30 {n:Int} (h:n.natAbs<1000000000):Sp.okT 30 (Sp.qi n):=ZaI (okT_sm h) (by omega)
theorem sm_2 {n:Int} (h:n.natAbs<1000000000):Sp.okT 2 (Sp.qi n):=ZaI (okT_sm h) (by omega)
theorem okP5_at {x y:Rat} {k:Nat} (hx:Sp.okT k x) (hy:Sp.okT k y) (hk:k<=2200):Sp.okP5 (Sp.atP x y):=⟨⟨ZaI hx hk,ZaI Zga (by omega)⟩,⟨ZaI hy hk,ZaI Zga (by omega)⟩,ZaI Zga (by omega)⟩
theorem pl_nil:Sp.okPL []:=⟨fun p hp=>(nomatch hp),by simp⟩
theorem pl_lin {a b c x y z:Rat} (h:Sp.okI2 a b c) (k:Sp.okI2 x y z):Sp.okPL (Sp.Zej a b c x y z):=by
 obtain ⟨ha,hb,hc⟩:=h
 obtain ⟨hx,hy,hz⟩:=k
 unfold Sp.Zej
 by_cases n:a * y - x * b = 0
 ·rw [if_pos n];exact pl_nil
 ·rw [if_neg n]
  have ne:(a * y - x * b).num ≠ 0:=fun e => n (Rat.num_eq_zero.1 e)
  refine ⟨fun p hp => ?_,by simp⟩
  rw [List.mem_singleton.1 hp]
  exact okP5_at (k:=100) (ZaI (k:=18) (Zdf (Zav (Zag hc hy) (Zag hz hb)) (Zav (Zag ha hy) (Zag hx hb)) ne) (by omega)) (ZaI (k:=18) (Zdf (Zav (Zag ha hz) (Zag hx hc)) (Zav (Zag ha hy) (Zag hx hb)) ne) (by omega)) (by omega)
theorem ZeM:∀ {l m:List Pnt},Sp.sameL l m -> Sp.eqL l m = true
 | [],[],_ => rfl
 | p :: l,q :: m,h => by rw [eqL_cons,decide_eq_true (cmpP_same h.1)];exact ZeM h.2
theorem goodL_of {l:List Pnt} (h:∀ p ∈ l,Sp.ZbS p):Sp.Ze6 l=true:=List.all_eq_true.2 fun p hp=>vP_true.2 (h p hp)
theorem qz:Sp.qi 0=0:=qi_z
theorem q_1:Sp.qi 1=1:=by rw [Zfo];rfl
theorem q_2:Sp.qi 2=2:=by rw [Zfo];rfl
theorem q_3:Sp.qi 3=3:=by rw [Zfo];rfl
theorem q_m:Sp.qi (-1) = -1:=by rw [Zfo];rfl
theorem ex_lin:Sp.ZcW 1 1 3 1 (-1) 1 = 0 /\ Sp.Zej 1 1 3 1 (-1) 1 = [Sp.atP 2 1]:=by
 have n:¬(1:Rat) * -1 - 1 * 1 = 0:=by decide +kernel
 rw [(lin_2 n).1,(lin_2 n).2]
 exact ⟨rfl,by rw [show ((3:Rat) * -1 - 1 * 1) / (1 * -1 - 1 * 1) = 2 by decide +kernel,show ((1:Rat) * 1 - 1 * 3) / (1 * -1 - 1 * 1) = 1 by decide +kernel]⟩
theorem rsq1:Sp.rsq (1:Rat):=rsq_of (s:=1) (by decide +kernel)
theorem rt1:Sp.rt (1:Rat)=1:=sqrt_unique (rt_nn rsq1) (by decide +kernel) (by rw [rt_mul rsq1];decide +kernel)
theorem ex_lc:Sp.Zc8 0 1 1 0 0 2 = [Sp.atP (-1) 1,Sp.atP 1 1]:=by
 have fx:Sp.fX 0 1 1 0 0 = 0:=by unfold Sp.fX Sp.val2 Sp.nrm2;decide +kernel
 have fy:Sp.fY 0 1 1 0 0 = 1:=by unfold Sp.fY Sp.val2 Sp.nrm2;decide +kernel
 have d:Sp.dep 0 1 1 0 0 2 = 1:=by unfold Sp.dep;rw [fx,fy];unfold Sp.nrm2;decide +kernel
 have e:Sp.dn 0 1 = false:=decide_eq_false (by decide +kernel)
 rw [lineC_2 (by rw [d];decide +kernel),fx,fy,d]
 unfold Sp.dU Sp.dV Sp.Zft
 rw [e,cond_false,cond_false,if_pos rsq1,if_pos rsq1,rt1,show (0:Rat) + -1 * 1 = -1 by decide +kernel,show (1:Rat) + - -0 * 1 = 1 by decide +kernel,show (0:Rat) + 1 * 1 = 1 by decide +kernel,show (1:Rat) + -0 * 1 = 1 by decide +kernel]
theorem ex_dep:Sp.dep 1 1 2 0 0 2 = 0 /\ Sp.Zc8 1 1 2 0 0 2 = [Sp.atP 1 1]:=by
 have fx:Sp.fX 1 1 2 0 0 = 1:=by unfold Sp.fX Sp.val2 Sp.nrm2;decide +kernel
 have fy:Sp.fY 1 1 2 0 0 = 1:=by unfold Sp.fY Sp.val2 Sp.nrm2;decide +kernel
 have d:Sp.dep 1 1 2 0 0 2 = 0:=by unfold Sp.dep;rw [fx,fy];unfold Sp.nrm2;decide +kernel
 exact ⟨d,by rw [lineC_1 d,fx,fy]⟩
theorem ex_cir:Sp.Zd7 0 0 1 1 0 1 = 0 /\ (Sp.ZgZ 0 0 1 1 0 1).length = 2 /\ Sp.Zd7 0 0 1 0 0 1 = 10:=by
 have n:¬((0:Rat) = 1 /\ (0:Rat) = 0):=by decide +kernel
 refine ⟨by unfold Sp.Zd7;rw [if_neg n],?_,by unfold Sp.Zd7;rw [if_pos ⟨rfl,rfl⟩,if_pos rfl]⟩
 unfold Sp.ZgZ
 rw [if_neg n,lineC_2 ?_]
 ·rfl
 ·unfold Sp.rdA Sp.rdC Sp.dep Sp.fX Sp.fY Sp.val2 Sp.nrm2
  rw [q_2]
  decide +kernel
theorem ev11:Ev M1 (.pure 11 []) (.bool true) []:=by
 have I:∀ n:Int,n.natAbs < 1000000000 -> Sp.inI n:=fun n h => by unfold Sp.inI;omega
 have l1:Sp.okLn (Sp.qi 0) (Sp.qi 1) (Sp.qi 1):=⟨⟨sm_30 (by decide),sm_30 (by decide),sm_30 (by decide)⟩,.inr qi1_ne⟩
 have l2:Sp.okLn (Sp.qi 1) (Sp.qi 1) (Sp.qi 2):=⟨⟨sm_30 (by decide),sm_30 (by decide),sm_30 (by decide)⟩,.inl qi1_ne⟩
 have v0:Sp.okVn (Sp.qi 0) (Sp.qi 0):=⟨sm_30 (by decide),sm_30 (by decide)⟩
 have t2:Sp.okT 30 (Sp.qi 2):=sm_30 (by decide)
 have i1:Sp.okI2 (Sp.qi 0) (Sp.qi 0) (Sp.qi 1):=⟨sm_2 (by decide),sm_2 (by decide),sm_2 (by decide)⟩
 have i2:Sp.okI2 (Sp.qi 1) (Sp.qi 0) (Sp.qi 1):=⟨sm_2 (by decide),sm_2 (by decide),sm_2 (by decide)⟩
 have a1:Sp.okI2 (Sp.qi 1) (Sp.qi 1) (Sp.qi 3):=⟨sm_2 (by decide),sm_2 (by decide),sm_2 (by decide)⟩
 have a2:Sp.okI2 (Sp.qi 1) (Sp.qi (-1)) (Sp.qi 1):=⟨sm_2 (by decide),sm_2 (by decide),sm_2 (by decide)⟩
 have P:∀ m n:Int,m.natAbs < 1000000000 -> n.natAbs < 1000000000 -> Sp.okP5 (Sp.atP (Sp.qi m) (Sp.qi n)):=fun m n h k => okP5_at (okT_sm h) (okT_sm k) (by omega)
 have E:∀ {l m:List Pnt} (v:Bool),l = m -> Sp.okPL m -> Ev M1 (.pure 49 [.vec false 20 (l.map Pnt.a),.vec v 20 (m.map Pnt.a)]) (.bool (Sp.eqL l m)) []:=fun v e h => ev49 false v _ _ ⟨by rw [e];exact h,h⟩
 have V:∀ x y:Rat,Sp.ZbS (Sp.atP x y):=at_valid
 have e1:Sp.Zej (Sp.qi 1) (Sp.qi 1) (Sp.qi 3) (Sp.qi 1) (Sp.qi (-1)) (Sp.qi 1) = [Sp.atP (Sp.qi 2) (Sp.qi 1)]:=by rw [q_1,q_2,q_3,q_m];exact ex_lin.2
 have e2:Sp.Zc8 (Sp.qi 0) (Sp.qi 1) (Sp.qi 1) (Sp.qi 0) (Sp.qi 0) (Sp.qi 2) = [Sp.atP (Sp.qi (-1)) (Sp.qi 1),Sp.atP (Sp.qi 1) (Sp.qi 1)]:=by rw [q_1,q_2,q_m,qz];exact ex_lc
 have e3:Sp.Zc8 (Sp.qi 1) (Sp.qi 1) (Sp.qi 2) (Sp.qi 0) (Sp.qi 0) (Sp.qi 2) = [Sp.atP (Sp.qi 1) (Sp.qi 1)]:=by rw [q_1,q_2,qz];exact ex_dep.2
 have k1:=E true e1 ⟨fun p hp => by rw [List.mem_singleton.1 hp];exact P _ _ (by decide) (by decide),by decide⟩
 have k2:=E true e2 ⟨fun p hp => by simp only [List.mem_cons,List.not_mem_nil,or_false] at hp;rcases hp with rfl | rfl <;> exact P _ _ (by decide) (by decide),by decide⟩
 have k3:=E true e3 ⟨fun p hp => by rw [List.mem_singleton.1 hp];exact P _ _ (by decide) (by decide),by decide⟩
 rw [e1,show Sp.eqL [Sp.atP (Sp.qi 2) (Sp.qi 1)] [Sp.atP (Sp.qi 2) (Sp.qi 1)] = true from ZeM ⟨at_same _ _,trivial⟩] at k1
 rw [e2,show Sp.eqL [Sp.atP (Sp.qi (-1)) (Sp.qi 1),Sp.atP (Sp.qi 1) (Sp.qi 1)] [Sp.atP (Sp.qi (-1)) (Sp.qi 1),Sp.atP (Sp.qi 1) (Sp.qi 1)] = true from ZeM ⟨at_same _ _,at_same _ _,trivial⟩] at k2
 rw [e3,show Sp.eqL [Sp.atP (Sp.qi 1) (Sp.qi 1)] [Sp.atP (Sp.qi 1) (Sp.qi 1)] = true from ZeM ⟨at_same _ _,trivial⟩] at k3
 rw [<- e1] at k1
 rw [<- e2] at k2
 rw [<- e3] at k3
 have m (n:Int) (h:n.natAbs < 1000000000:=by decide):Sp.inI n:=I n h
 refine call11 (wAwake _ ⟨⟨m 1,m 1,m 3⟩,⟨m 1,m (-1),m 1⟩,⟨Zhl a1,Zhl a2⟩,⟨m 0,m 1,m 1⟩,⟨m 0,m 0,m 2⟩,⟨l1,v0,t2⟩,⟨m 1,m 1,m 2⟩,⟨l2,v0,t2⟩,⟨m 0,m 0,m 1⟩,⟨m 1,m 0,m 1⟩,⟨i1,i2⟩,⟨i1,i1⟩,fun _ => ⟨m 2,m 1⟩,true,fun _ => ?_,fun _ => ⟨m (-1),m 1⟩,fun _ => ⟨m 1,m 1⟩,true,fun _ => ?_,fun _ => ⟨m 1,m 1⟩,true,fun _ => ?_,?_⟩)
 ·rw [e1] at k1 ⊢;exact k1
 ·rw [e2] at k2 ⊢;exact k2
 ·rw [e3] at k3 ⊢;exact k3
 ·rw [q_1,q_2,q_3,q_m,qz,ex_lin.1,ex_cir.1,ex_cir.2.1,ex_cir.2.2,decide_eq_true ex_dep.1]
  rfl
namespace Sp
end Sp
end Go.Av

namespace Go.Av
open Go.Proofs
set_option maxRecDepth 100000
def fi3:Fi:=⟨39,[.tmp 4]⟩
def kp3:List (Nat × List Nat):=[(0,[2,3]),(1,[2,3,20]),(2,[4]),(3,[2,3,5,6]),(4,[5,6,7,8]),(5,[4])]
def lwLin_at (a b c x y z:Rat) (Q:AV->Heap->Prop):Prop:=Wp M1 (.run fi3 (atC (cd Tryz.f3) []) [(0,Zay false false false false false false a b c),(1,Zay false false false false false false x y z)] []) Q
def lwLinR_at (s1 t1 f1 g1 s2 t2 f2 g2 s3 t3 f3 g3 s4 t4 f4 g4 s5 t5 f5 g5 s6 t6 f6 g6:Bool) (x1 y1 x2 y2 x3 y3 x4 y4 x5 y5 x6 y6:List Int) (Q:AV->Heap->Prop):Prop:=Wp M1 (.run fi3 (atC (cd Tryz.f3) []) [(0,.agg [.bool s1,.vec f1 1 (x1.map (.int .u32)),.bool t1,.vec g1 1 (y1.map (.int .u32)),.bool s2,.vec f2 1 (x2.map (.int .u32)),.bool t2,.vec g2 1 (y2.map (.int .u32)),.bool s3,.vec f3 1 (x3.map (.int .u32)),.bool t3,.vec g3 1 (y3.map (.int .u32))]),(1,.agg [.bool s4,.vec f4 1 (x4.map (.int .u32)),.bool t4,.vec g4 1 (y4.map (.int .u32)),.bool s5,.vec f5 1 (x5.map (.int .u32)),.bool t5,.vec g5 1 (y5.map (.int .u32)),.bool s6,.vec f6 1 (x6.map (.int .u32)),.bool t6,.vec g6 1 (y6.map (.int .u32))])] []) Q
theorem call3 {args:List AV} {d:AV} (h:wc M1 fi3 Tryz.f3 args d):Ev M1 (.pure 3 args) d []:=pcl _ _ (by kernel_rfl) h
noncomputable abbrev zNmJ1 (a:Rat) (b:Rat) (c:Rat) (x:Rat) (y:Rat) (z:Rat):=bif !Sp.Zgl a b c then true else !Sp.Zgl x y z
noncomputable abbrev zNmJ2 (x:Rat) (y:Rat) (z:Rat):=Sp.Zgl x y z
noncomputable abbrev zNmJ3 (a:Rat) (b:Rat) (c:Rat):=Sp.Zgl a b c
theorem lwLin (a b c x y z:Rat)  (dq:AV) (H :
  (Sp.okRw (Sp.Zad a.num) (Sp.Zad (↑a.den:Int)) (Sp.Zad b.num) (Sp.Zad (↑b.den:Int)) (Sp.Zad c.num) (Sp.Zad (↑c.den:Int))) /\
  ((¬(¬(Sp.Zgl a b c = true))) -> (Sp.okRw (Sp.Zad x.num) (Sp.Zad (↑x.den:Int)) (Sp.Zad y.num) (Sp.Zad (↑y.den:Int)) (Sp.Zad z.num) (Sp.Zad (↑z.den:Int)))) /\
  (((¬(Sp.Zgl a b c = true)) \/ (¬(Sp.Zgl x y z = true))) -> vb true = dq) /\
  (¬((¬(Sp.Zgl a b c = true)) \/ (¬(Sp.Zgl x y z = true))) -> (Sp.Zem a b c /\ Sp.Zem x y z) /\
   (Sp.okPL (Sp.Zej a b c x y z) /\ Sp.okPL (Sp.Zej a b c x y z)) /\
   vb (Sp.smB (Sp.Zej a b c x y z) (Sp.ZcW a b c x y z) (Sp.Zej a b c x y z) (Sp.ZcW a b c x y z)) = dq)) :
 lwLin_at a b c x y z (Zaf dq):=by
 unfold lwLin_at
 obtain ⟨k1,k3,H⟩:=H
 refine Zae (G:=Zac kp3 [(1,0,.call (vb true) none),(1,4,.call (vb (zNmJ3 a b c)) none),(1,9,.call (vb (zNmJ2 x y z)) none)] []) 5 [] ⟨(atC (cd Tryz.f3) [1,0,1]),[(2,AV.ptr 0 0 0 0),(3,AV.ptr 1 0 0 0),(20,vb (zNmJ1 a b c x y z))],[⟨[ZaD a b c],12,0,false,false⟩,⟨[ZaD x y z],12,0,false,false⟩],[true,!((!Sp.Zgl a b c) == false && true) || true],[],[⟨true,false,11,[],[],vb true,[]⟩,⟨true,false,12,[ZaD a b c],[],vb (zNmJ3 a b c),[]⟩,⟨(!Sp.Zgl a b c) == false && true && true,false,12,[ZaD x y z],[],vb (zNmJ2 x y z),[]⟩]⟩ (by kernel_rfl) (bc rfl (bc (Bool.or_true _) b0)) q0 (cc (fun _ => (@ev11 )) (cc (fun _ => (@ev12 (Sp.Zaa a.num) (Sp.Zaa (↑a.den:Int)) (false) (false) (Sp.Zaa b.num) (Sp.Zaa (↑b.den:Int)) (false) (false) (Sp.Zaa c.num) (Sp.Zaa (↑c.den:Int)) (false) (false) (Sp.Zad a.num) (Sp.Zad (↑a.den:Int)) (Sp.Zad b.num) (Sp.Zad (↑b.den:Int)) (Sp.Zad c.num) (Sp.Zad (↑c.den:Int)) k1)) (cc (fun hc => ((@ev12 (Sp.Zaa x.num) (Sp.Zaa (↑x.den:Int)) (false) (false) (Sp.Zaa y.num) (Sp.Zaa (↑y.den:Int)) (false) (false) (Sp.Zaa z.num) (Sp.Zaa (↑z.den:Int)) (false) (false) (Sp.Zad x.num) (Sp.Zad (↑x.den:Int)) (Sp.Zad y.num) (Sp.Zad (↑y.den:Int)) (Sp.Zad z.num) (Sp.Zad (↑z.den:Int)) (k3 ((i_at (i_at (i_bf (ZaY (ZaC _))))).1 hc))):Ev M1 (Conf.pure 12 [ZaD x y z]) (vb (zNmJ2 x y z)) [])) c0))) ?_
 rcases xq H with ⟨d5,H⟩|⟨d5,H⟩
 ·exact Zap (G:=Zac kp3 [(2,0,.call (vb true) none)] []) 1000 [true] (asm:=[(zNmJ1 a b c x y z) == true]) (vb true) (by kernel_rfl) (bc (Zaq ((Zbg (ZaY (ZaC _)) (ZaY (ZaC _))).2 d5)) b0) q0 (ce (@ev11 ) c0) H
 ·obtain ⟨k6,k7,H⟩:=H
  exact Zap (G:=Zac kp3 [(3,2,.call (tu [AV.vec false 20 (List.map Pnt.a (Sp.Zej a b c x y z)),vi (Sp.ZcW a b c x y z)]) none),(4,2,.call (tu [AV.vec false 20 (List.map Pnt.a (Sp.Zej a b c x y z)),vi (Sp.ZcW a b c x y z)]) none),(5,4,.call (vb (Sp.smB (Sp.Zej a b c x y z) (Sp.ZcW a b c x y z) (Sp.Zej a b c x y z) (Sp.ZcW a b c x y z))) none)] []) 1000 [false] (asm:=[(zNmJ1 a b c x y z) == false,true,true,true,true]) (vb (Sp.smB (Sp.Zej a b c x y z) (Sp.ZcW a b c x y z) (Sp.Zej a b c x y z) (Sp.ZcW a b c x y z))) (by kernel_rfl) (bc (Zan (fun h => d5 ((Zbg (ZaY (ZaC _)) (ZaY (ZaC _))).1 h))) (bc rfl (bc rfl (bc rfl (bc rfl b0))))) q0 (ce (@ev13 (false) (false) (false) (false) (false) (false) (false) (false) (false) (false) (false) (false) (a) (b) (c) (x) (y) (z) k6) (ce (@ev14 (false) (false) (false) (false) (false) (false) (false) (false) (false) (false) (false) (false) (a) (b) (c) (x) (y) (z) k6) (ce (@ev15 (false) (false) (Sp.Zej a b c x y z) (Sp.Zej a b c x y z) (Sp.ZcW a b c x y z) (Sp.ZcW a b c x y z) k7) c0))) H
noncomputable abbrev zNmJ4 (s4:Bool) (f4:Bool) (x4:List Int) (t4:Bool) (g4:Bool) (y4:List Int) (s5:Bool) (f5:Bool) (x5:List Int) (t5:Bool) (g5:Bool) (y5:List Int) (s6:Bool) (f6:Bool) (x6:List Int) (t6:Bool) (g6:Bool) (y6:List Int):=ag [vb s4,AV.vec f4 1 (us x4),vb t4,AV.vec g4 1 (us y4),vb s5,AV.vec f5 1 (us x5),vb t5,AV.vec g5 1 (us y5),vb s6,AV.vec f6 1 (us x6),vb t6,AV.vec g6 1 (us y6)]
theorem lwLinR (s1 t1 f1 g1 s2 t2 f2 g2 s3 t3 f3 g3 s4 t4 f4 g4 s5 t5 f5 g5 s6 t6 f6 g6:Bool) (x1 y1 x2 y2 x3 y3 x4 y4 x5 y5 x6 y6:List Int)  (dq:AV) (H :
  (Sp.okRw x1 y1 x2 y2 x3 y3) /\
  ((¬(¬(Sp.Zdn s1 t1 s2 t2 s3 t3 x1 y1 x2 y2 x3 y3 = true))) -> (Sp.okRw x4 y4 x5 y5 x6 y6)) /\
  (((¬(Sp.Zdn s1 t1 s2 t2 s3 t3 x1 y1 x2 y2 x3 y3 = true)) \/ (¬(Sp.Zdn s4 t4 s5 t5 s6 t6 x4 y4 x5 y5 x6 y6 = true))) -> vb true = dq) /\
  (¬((¬(Sp.Zdn s1 t1 s2 t2 s3 t3 x1 y1 x2 y2 x3 y3 = true)) \/ (¬(Sp.Zdn s4 t4 s5 t5 s6 t6 x4 y4 x5 y5 x6 y6 = true))) -> False)) :
 lwLinR_at s1 t1 f1 g1 s2 t2 f2 g2 s3 t3 f3 g3 s4 t4 f4 g4 s5 t5 f5 g5 s6 t6 f6 g6 x1 y1 x2 y2 x3 y3 x4 y4 x5 y5 x6 y6 (Zaf dq):=by
 unfold lwLinR_at
 obtain ⟨k1,k3,H⟩:=H
 refine Zae (G:=Zac kp3 [(1,0,.call (vb true) none),(1,4,.call (vb (Sp.Zdn s1 t1 s2 t2 s3 t3 x1 y1 x2 y2 x3 y3)) none),(1,9,.call (vb (Sp.Zdn s4 t4 s5 t5 s6 t6 x4 y4 x5 y5 x6 y6)) none)] []) 5 [] ⟨(atC (cd Tryz.f3) [1,0,1]),[(2,AV.ptr 0 0 0 0),(3,AV.ptr 1 0 0 0),(20,vb (bif !Sp.Zdn s1 t1 s2 t2 s3 t3 x1 y1 x2 y2 x3 y3 then true else !Sp.Zdn s4 t4 s5 t5 s6 t6 x4 y4 x5 y5 x6 y6))],[⟨[ag [vb s1,AV.vec f1 1 (us x1),vb t1,AV.vec g1 1 (us y1),vb s2,AV.vec f2 1 (us x2),vb t2,AV.vec g2 1 (us y2),vb s3,AV.vec f3 1 (us x3),vb t3,AV.vec g3 1 (us y3)]],12,0,false,false⟩,⟨[(zNmJ4 s4 f4 x4 t4 g4 y4 s5 f5 x5 t5 g5 y5 s6 f6 x6 t6 g6 y6)],12,0,false,false⟩],[true,!((!Sp.Zdn s1 t1 s2 t2 s3 t3 x1 y1 x2 y2 x3 y3) == false && true) || true],[],[⟨true,false,11,[],[],vb true,[]⟩,⟨true,false,12,[ag [vb s1,AV.vec f1 1 (us x1),vb t1,AV.vec g1 1 (us y1),vb s2,AV.vec f2 1 (us x2),vb t2,AV.vec g2 1 (us y2),vb s3,AV.vec f3 1 (us x3),vb t3,AV.vec g3 1 (us y3)]],[],vb (Sp.Zdn s1 t1 s2 t2 s3 t3 x1 y1 x2 y2 x3 y3),[]⟩,⟨(!Sp.Zdn s1 t1 s2 t2 s3 t3 x1 y1 x2 y2 x3 y3) == false && true && true,false,12,[(zNmJ4 s4 f4 x4 t4 g4 y4 s5 f5 x5 t5 g5 y5 s6 f6 x6 t6 g6 y6)],[],vb (Sp.Zdn s4 t4 s5 t5 s6 t6 x4 y4 x5 y5 x6 y6),[]⟩]⟩ (by kernel_rfl) (bc rfl (bc (Bool.or_true _) b0)) q0 (cc (fun _ => (@ev11 )) (cc (fun _ => (@ev12 (s1) (t1) (f1) (g1) (s2) (t2) (f2) (g2) (s3) (t3) (f3) (g3) (x1) (y1) (x2) (y2) (x3) (y3) k1)) (cc (fun hc => ((@ev12 (s4) (t4) (f4) (g4) (s5) (t5) (f5) (g5) (s6) (t6) (f6) (g6) (x4) (y4) (x5) (y5) (x6) (y6) (k3 ((i_at (i_at (i_bf (ZaY (ZaC _))))).1 hc))):Ev M1 (Conf.pure 12 [(zNmJ4 s4 f4 x4 t4 g4 y4 s5 f5 x5 t5 g5 y5 s6 f6 x6 t6 g6 y6)]) (vb (Sp.Zdn s4 t4 s5 t5 s6 t6 x4 y4 x5 y5 x6 y6)) [])) c0))) ?_
 rcases xq H with ⟨d5,H⟩|⟨d5,H⟩
 ·exact Zap (G:=Zac kp3 [(2,0,.call (vb true) none)] []) 1000 [true] (asm:=[(bif !Sp.Zdn s1 t1 s2 t2 s3 t3 x1 y1 x2 y2 x3 y3 then true else !Sp.Zdn s4 t4 s5 t5 s6 t6 x4 y4 x5 y5 x6 y6) == true]) (vb true) (by kernel_rfl) (bc (Zaq ((Zbg (ZaY (ZaC _)) (ZaY (ZaC _))).2 d5)) b0) q0 (ce (@ev11 ) c0) H
 ·exact False.elim H
end Go.Av

namespace Go.Av
open Go.Proofs
theorem sm_true {l m:List Pnt} {e:Int} (h:Sp.sameL l m /\ ∀ p ∈ l,Sp.ZbS p):Sp.smB l e m e = true:=by
 unfold Sp.smB
 rw [beq_self_eq_true,cond_true,goodL_of h.2,cond_true,ZeM h.1]
theorem lin_same (a b c x y z:Rat):Sp.sameL (Sp.Zej a b c x y z) (Sp.Zej a b c x y z) /\ ∀ p ∈ Sp.Zej a b c x y z,Sp.ZbS p:=by
 have v:∀ p ∈ Sp.Zej a b c x y z,Sp.ZbS p:=by
  unfold Sp.Zej
  split
  ·exact fun p hp => (nomatch hp)
  ·intro p hp;rw [List.mem_singleton.1 hp];exact at_valid _ _
 exact ⟨Zhc v,v⟩
theorem rw_rat (a b c:Rat):Sp.okRw (Sp.Zad a.num) (Sp.Zad (a.den:Int)) (Sp.Zad b.num) (Sp.Zad (b.den:Int)) (Sp.Zad c.num) (Sp.Zad (c.den:Int)):=
 ⟨⟨fun v hv => (Zd9 _ v hv).1,fun v hv => (Zd9 _ v hv).1⟩,⟨fun v hv => (Zd9 _ v hv).1,fun v hv => (Zd9 _ v hv).1⟩,fun v hv => (Zd9 _ v hv).1,fun v hv => (Zd9 _ v hv).1⟩
theorem ev3 (s1 t1 s2 t2 s3 t3 s4 t4 s5 t5 s6 t6:Bool) (x1 y1 x2 y2 x3 y3 x4 y4 x5 y5 x6 y6:List Int) (h1:Sp.okRw x1 y1 x2 y2 x3 y3) (h2:Sp.okRw x4 y4 x5 y5 x6 y6):Ev M1 (.pure 3 [.agg [.bool s1,.vec false 1 (x1.map (.int .u32)),.bool t1,.vec false 1 (y1.map (.int .u32)),.bool s2,.vec false 1 (x2.map (.int .u32)),.bool t2,.vec false 1 (y2.map (.int .u32)),.bool s3,.vec false 1 (x3.map (.int .u32)),.bool t3,.vec false 1 (y3.map (.int .u32))],.agg [.bool s4,.vec false 1 (x4.map (.int .u32)),.bool t4,.vec false 1 (y4.map (.int .u32)),.bool s5,.vec false 1 (x5.map (.int .u32)),.bool t5,.vec false 1 (y5.map (.int .u32)),.bool s6,.vec false 1 (x6.map (.int .u32)),.bool t6,.vec false 1 (y6.map (.int .u32))]]) (.bool true) []:=by
 by_cases k1:Sp.Zdn s1 t1 s2 t2 s3 t3 x1 y1 x2 y2 x3 y3 = true
 ·by_cases k2:Sp.Zdn s4 t4 s5 t5 s6 t6 x4 y4 x5 y5 x6 y6 = true
  ·obtain ⟨a,b,c,ha,⟨rfl,rfl,rfl,rfl⟩,⟨rfl,rfl,rfl,rfl⟩,rfl,rfl,rfl,rfl⟩:=few3_rat (lineB_few k1)
   obtain ⟨x,y,z,hx,⟨rfl,rfl,rfl,rfl⟩,⟨rfl,rfl,rfl,rfl⟩,rfl,rfl,rfl,rfl⟩:=few3_rat (lineB_few k2)
   exact call3 (lwLin _ _ _ _ _ _ _ ⟨rw_rat a b c,fun _ => rw_rat x y z,fun k => (k.elim (fun j => absurd k1 j) fun j => absurd k2 j),fun _ => ⟨⟨Zhl ha,Zhl hx⟩,⟨pl_lin ha hx,pl_lin ha hx⟩,by rw [sm_true (lin_same a b c x y z)]⟩⟩)
  ·exact call3 (lwLinR _ _ _ _ _ _ _ _ _ _ _ _ _ _ _ _ _ _ _ _ _ _ _ _ _ _ _ _ _ _ _ _ _ _ _ _ _ ⟨h1,fun _ => h2,fun _ => rfl,fun k => absurd (.inr k2) k⟩)
 ·exact call3 (lwLinR _ _ _ _ _ _ _ _ _ _ _ _ _ _ _ _ _ _ _ _ _ _ _ _ _ _ _ _ _ _ _ _ _ _ _ _ _ ⟨h1,fun _ => h2,fun _ => rfl,fun k => absurd (.inl k1) k⟩)
end Go.Av
