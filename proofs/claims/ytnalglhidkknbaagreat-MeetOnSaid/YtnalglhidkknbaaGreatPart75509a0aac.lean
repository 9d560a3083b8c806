/- PART 6 of the texts of a claim, joined by a program: what each part shows stands at its head. -/
import Derived.Test.YtnalglhidkknbaaGreatPartf01e2b7217

namespace Go.Av
open Go.Proofs
namespace J
def ZdK (a b c:Rat):Prop:=okT 2 a/\okT 2 b/\okT 2 c
noncomputable def rdA (a x:Rat):Rat:=qi 2*(x-a)
noncomputable def rdC (a b c x y z:Rat):Rat:=x*x+y*y-z-(a*a+b*b-c)
noncomputable def Zdr (a b c x y z:Rat):Int:=if a=x/\b=y then (if c=z then 10 else 0) else 0
noncomputable def Zea (a b c x y z:Rat):List Pnt:=if a=x/\b=y then [] else Zbk (rdA a x) (rdA b y) (rdC a b c x y z) a b c
noncomputable def cirR (a b c x y z:Rat):List Pnt:=if a=x/\b=y then [] else Zfb (rdA a x) (rdA b y) (rdC a b c x y z) a b c
noncomputable def ZfF (l:List Pnt):Bool:=l.all fun p=>vP p.ax p.bx p.ay p.by_ p.c
noncomputable def eqL:List Pnt->List Pnt->Bool
 | [],[]=>true
 | p::l,q::m=>bif decide (Zhh p q=0) then eqL l m else false
 | _,_=>false
end J
theorem ZbX {a b c:Rat} (h:J.ZdK a b c):J.Zey a b c:=⟨Zar h.1 (by omega),Zar h.2.1 (by omega),Zar h.2.2 (by omega)⟩
theorem rd_ln {a b c x y z:Rat} (h:J.ZdK a b c) (k:J.ZdK x y z) (n:¬(a=x/\b=y)):J.Zga (J.rdA a x) (J.rdA b y) (J.rdC a b c x y z):=by
 obtain ⟨ha,hb,hc⟩:=h
 obtain ⟨hx,hy,hz⟩:=k
 refine ⟨⟨Zar (k:=8) (Zaf (okT_int (by unfold J.inI;omega):J.okT 3 (J.qi 2)) (Zax hx ha)) (by omega),Zar (k:=8) (Zaf (okT_int (by unfold J.inI;omega):J.okT 3 (J.qi 2)) (Zax hy hb)) (by omega),Zar (k:=25) (Zax (Zax (ZaC (Zaf hx hx) (Zaf hy hy)) hz) (Zax (ZaC (Zaf ha ha) (Zaf hb hb)) hc)) (by omega)⟩,?_⟩
 have t:J.qi 2=2:=by rw [Ze2];rfl
 unfold J.rdA
 rw [t]
 by_cases e:a=x
 ·right
  have:¬b=y:=fun f=>n ⟨e,f⟩
  grind
 ·left
  grind
theorem ev22 (f1 f2 f3 f4 f5 f6 g1 g2 g3 g4 g5 g6:Bool) (a b c x y z:Rat) (h:J.ZdK a b c/\J.ZdK x y z):Ev M1 (.pure 22 [Zaw f1 f2 f3 f4 f5 f6 a b c,Zaw g1 g2 g3 g4 g5 g6 x y z]) (.tup [.vec false 20 ((J.Zea a b c x y z).map Pnt.a),.int .i64 (J.Zdr a b c x y z)]) []:=by
 obtain ⟨h1,h2⟩:=h
 have t1:=ZbX h1
 refine call22 (mCircles _ _ _ _ _ _ _ _ _ _ _ _ _ _ _ _ _ _ _ ⟨⟨t1,ZbX h2⟩,fun k => ?_,fun k=>⟨fun j => ?_,fun j=>⟨⟨rd_ln h1 h2 j,⟨t1.1,t1.2.1⟩,t1.2.2⟩,?_⟩⟩⟩)
 ·rw [show J.Zea a b c x y z=[] from if_pos ⟨k.1,k.2.1⟩,show J.Zdr a b c x y z=10 by unfold J.Zdr;rw [if_pos ⟨k.1,k.2.1⟩,if_pos k.2.2]]
  exact Zec _
 ·rw [show J.Zea a b c x y z=[] from if_pos j,show J.Zdr a b c x y z=0 by unfold J.Zdr;rw [if_pos j,if_neg fun q=>k ⟨j.1,j.2,q⟩]]
  exact Zec _
 ·rw [show J.Zea a b c x y z=J.Zbk (J.rdA a x) (J.rdA b y) (J.rdC a b c x y z) a b c from if_neg j,show J.Zdr a b c x y z=0 by unfold J.Zdr;rw [if_neg j]]
  exact .refl _
theorem qi1_ne:J.qi 1 ≠ 0:=by rw [Ze2];exact fun h=>by have:(1:Rat)=0:=h;grind
theorem okP5_red {x w y t r:Rat} (hx:J.okT 350 x) (hw:J.okT 160 w) (hy:J.okT 350 y) (ht:J.okT 160 t) (hr:J.okT 500 r):J.ZdG (J.red x w y t r):=by
 by_cases k:J.rsq r
 ·rw [red_y k]
  exact ⟨⟨Zar (k:=1011) (ZaC hx (Zaf hw (ZgL k hr))) (by omega),Zar ZbO (by omega)⟩,⟨Zar (k:=1011) (ZaC hy (Zaf ht (ZgL k hr))) (by omega),Zar ZbO (by omega)⟩,Zar ZbO (by omega)⟩
 ·rw [red_n k]
  exact ⟨⟨Zar hx (by omega),Zar hw (by omega)⟩,⟨Zar hy (by omega),Zar ht (by omega)⟩,Zar hr (by omega)⟩
theorem lineR_0 {a b c x y q:Rat} (k:J.room a b c x y q<0):J.Zfb a b c x y q=[]:=by
 unfold J.Zfb;rw [Zbx k,if_pos (by decide)]
theorem lineR_1 {a b c x y q:Rat} (k:J.room a b c x y q=0):J.Zfb a b c x y q=[J.atP (J.fX a b c x y) (J.fY a b c x y)]:=by
 unfold J.Zfb;rw [k,ZaU,if_neg (by decide),if_pos rfl]
theorem lineR_2 {a b c x y q:Rat} (k:0<J.room a b c x y q):J.Zfb a b c x y q=if J.Zhh (J.rP true a b c x y q) (J.rP false a b c x y q)>0 then [J.rP false a b c x y q,J.rP true a b c x y q] else [J.rP true a b c x y q,J.rP false a b c x y q]:=by
 unfold J.Zfb;rw [ZaW k,if_neg (by decide),if_neg (by decide)]
theorem okP5_rP {a b c x y q:Rat} (h:J.Zga a b c) (hv:J.ZgK x y) (hq:J.okT 30 q) (s:Bool):J.ZdG (J.rP s a b c x y q):=by
 have hf:=okT_f h hv
 have hnv:=okT_nv h.1 hv
 have hr:=okT_room h.1 hv hq
 obtain ⟨⟨ha,hb,hc⟩,h0⟩:=h
 have hn:(J.Zcu a b).num ≠ 0:=num_ne (Zcb h0)
 have w1:=Zca hb hnv.1 hn
 have w2:=Zca (Zbe ha) hnv.1 hn
 unfold J.rP
 cases s with
 | true=>rw [cond_true];exact okP5_red hf.1 (Zbe w1) hf.2 (Zbe w2) hr
 | false=>rw [cond_false];exact okP5_red hf.1 w1 hf.2 w2 hr
theorem beq_dec (n:Int):(n==0)=decide (n=0):=by
 by_cases k:n=0
 ·rw [decide_eq_true k,beq_iff_eq.2 k]
 ·rw [decide_eq_false k];simpa using k
theorem ev37 (f1 f2 f3 f4 f5 f6 f7 f8 f9 f10 g1 g2 g3 g4 g5 g6 g7 g8 g9 g10:Bool) (ax bx ay by_ c ux vx uy vy d:Rat) (h:J.ZdG ⟨ax,bx,ay,by_,c⟩/\J.ZdG ⟨ux,vx,uy,vy,d⟩):Ev M1 (.pure 37 [pntA f1 f2 f3 f4 f5 f6 f7 f8 f9 f10 ax bx ay by_ c,pntA g1 g2 g3 g4 g5 g6 g7 g8 g9 g10 ux vx uy vy d]) (.bool (decide (J.Zhh ⟨ax,bx,ay,by_,c⟩ ⟨ux,vx,uy,vy,d⟩=0))) []:=
 call37 (rEq7 _ _ _ _ _ _ _ _ _ _ _ _ _ _ _ _ _ _ _ _ _ _ _ _ _ _ _ _ _ _ _ ⟨h,by rw [beq_dec]⟩)
def J.Ze6 (l:List Pnt):Prop:=(∀ p ∈ l,ZdG p)/\l.length<=100
theorem good_loop {f:Bool} {l:List Pnt} {dq:AV} (h:J.Ze6 l) (k:Nat):∀ (i:Nat),i+k=l.length->AV.bool (J.ZfF (l.drop i))=dq->ZdY f l i (Zag dq):=by
 have hl:=h.2
 induction k with
 | zero =>
  intro i e hq
  refine rGoodH _ _ _ _ ⟨fun x=>by omega,fun _ => ?_⟩
  rw [List.drop_eq_nil_of_le (by omega)] at hq
  exact hq
 | succ k ih =>
  intro i e hq
  rw [Zcs (d:=l) (i:=i) (by omega)] at hq
  have m:=h.1 _ (Zfj (d:=l) (i:=i) (by omega))
  have nx:=ih (i+1) (by omega)
  refine rGoodH _ _ _ _ ⟨fun x => ?_,fun x=>by omega⟩
  rw [Int.toNat_natCast,show (i:Int)+1=((i+1:Nat):Int) by omega]
  have e2:J.ZfF (l.getD i default::l.drop (i+1))=(J.vP (l.getD i default).ax (l.getD i default).bx (l.getD i default).ay (l.getD i default).by_ (l.getD i default).c&&J.ZfF (l.drop (i+1))):=rfl
  rw [e2] at hq
  refine ⟨m,by omega,by omega,fun y => ?_,fun y=>⟨by omega,nx ?_⟩⟩
  ·rw [(Bool.not_eq_true _).mp y,Bool.false_and] at hq;exact hq
  ·rw [Classical.not_not.1 y,Bool.true_and] at hq;exact hq
theorem ev63 (f:Bool) (l:List Pnt) (h:J.Ze6 l):Ev M1 (.pure 63 [.vec f 20 (l.map Pnt.a)]) (.bool (J.ZfF l)) []:=
 call63 (rGood _ _ _ (good_loop h l.length 0 (by omega) rfl))
end Go.Av

namespace Go.Av
open Go.Proofs
set_option maxRecDepth 100000
def fi46:Fi:=⟨5,[.cell 2 26]⟩
def kp46:List (Nat × List Nat):=[(0,[0,2]),(1,[2])]
def fi49:Fi:=⟨27,[.tmp 4]⟩
def kp49:List (Nat × List Nat):=[(0,[0,1]),(1,[0,1,10]),(2,[4]),(3,[0,1,5]),(4,[0,1,5,14]),(5,[0,1,5]),(6,[0,1,5,26]),(7,[4]),(8,[4])]
def fi51:Fi:=⟨36,[.tmp 2]⟩
def kp51:List (Nat × List Nat):=[(0,[0]),(1,[0,3]),(2,[0,3,7]),(3,[0,3]),(4,[0,3,35]),(5,[2]),(6,[2])]
def fi93:Fi:=⟨10,[.cell 4 47]⟩
def kp93:List (Nat × List Nat):=[(0,[0,1,4]),(1,[4])]
def rSame9_at (u v:Bool) (l m:List Pnt) (Q:AV->Heap->Prop):Prop:=Wp M1 (.run fi49 (atC (cd Tryz.f49) []) [(0,.vec u 20 (l.map Pnt.a)),(1,.vec v 20 (m.map Pnt.a))] []) Q
def Zdj (u v:Bool) (l m:List Pnt) (i:Int) (Q:AV->Heap->Prop):Prop:=Wp M1 (.run fi49 (atC (cd Tryz.f49) [1,1,0,1,0,0]) [(0,.vec u 20 (l.map Pnt.a)),(1,.vec v 20 (m.map Pnt.a)),(5,.int .i64 i)] []) Q
def wNum_at (a:Int) (Q:AV->Heap->Prop):Prop:=Wp M1 (.run fi46 (atC (cd Tryz.f46) []) [(0,.int .i64 a)] []) Q
def rVec7_at (a b:Int) (Q:AV->Heap->Prop):Prop:=Wp M1 (.run fi93 (atC (cd Tryz.f93) []) [(0,.int .i64 a),(1,.int .i64 b)] []) Q
def rFew_at (s1 t1 f1 g1 s2 t2 f2 g2 s3 t3 f3 g3:Bool) (x1 y1 x2 y2 x3 y3:List Int) (Q:AV->Heap->Prop):Prop:=Wp M1 (.run fi51 (atC (cd Tryz.f51) []) [(0,.vec true 4 [.agg [.bool s1,.vec f1 1 (x1.map (.int .u32)),.bool t1,.vec g1 1 (y1.map (.int .u32))],.agg [.bool s2,.vec f2 1 (x2.map (.int .u32)),.bool t2,.vec g2 1 (y2.map (.int .u32))],.agg [.bool s3,.vec f3 1 (x3.map (.int .u32)),.bool t3,.vec g3 1 (y3.map (.int .u32))]])] []) Q
def rFew0_at (s1 t1 f1 g1 s2 t2 f2 g2 s3 t3 f3 g3:Bool) (x1 y1 x2 y2 x3 y3:List Int) (Q:AV->Heap->Prop):Prop:=Wp M1 (.run fi51 (atC (cd Tryz.f51) [1,0,1,0,0]) [(0,.vec true 4 [.agg [.bool s1,.vec f1 1 (x1.map (.int .u32)),.bool t1,.vec g1 1 (y1.map (.int .u32))],.agg [.bool s2,.vec f2 1 (x2.map (.int .u32)),.bool t2,.vec g2 1 (y2.map (.int .u32))],.agg [.bool s3,.vec f3 1 (x3.map (.int .u32)),.bool t3,.vec g3 1 (y3.map (.int .u32))]]),(3,.int .i64 0)] []) Q
def rFew1_at (s1 t1 f1 g1 s2 t2 f2 g2 s3 t3 f3 g3:Bool) (x1 y1 x2 y2 x3 y3:List Int) (Q:AV->Heap->Prop):Prop:=Wp M1 (.run fi51 (atC (cd Tryz.f51) [1,0,1,0,0]) [(0,.vec true 4 [.agg [.bool s1,.vec f1 1 (x1.map (.int .u32)),.bool t1,.vec g1 1 (y1.map (.int .u32))],.agg [.bool s2,.vec f2 1 (x2.map (.int .u32)),.bool t2,.vec g2 1 (y2.map (.int .u32))],.agg [.bool s3,.vec f3 1 (x3.map (.int .u32)),.bool t3,.vec g3 1 (y3.map (.int .u32))]]),(3,.int .i64 1)] []) Q
def rFew2_at (s1 t1 f1 g1 s2 t2 f2 g2 s3 t3 f3 g3:Bool) (x1 y1 x2 y2 x3 y3:List Int) (Q:AV->Heap->Prop):Prop:=Wp M1 (.run fi51 (atC (cd Tryz.f51) [1,0,1,0,0]) [(0,.vec true 4 [.agg [.bool s1,.vec f1 1 (x1.map (.int .u32)),.bool t1,.vec g1 1 (y1.map (.int .u32))],.agg [.bool s2,.vec f2 1 (x2.map (.int .u32)),.bool t2,.vec g2 1 (y2.map (.int .u32))],.agg [.bool s3,.vec f3 1 (x3.map (.int .u32)),.bool t3,.vec g3 1 (y3.map (.int .u32))]]),(3,.int .i64 2)] []) Q
def rFew3_at (s1 t1 f1 g1 s2 t2 f2 g2 s3 t3 f3 g3:Bool) (x1 y1 x2 y2 x3 y3:List Int) (Q:AV->Heap->Prop):Prop:=Wp M1 (.run fi51 (atC (cd Tryz.f51) [1,0,1,0,0]) [(0,.vec true 4 [.agg [.bool s1,.vec f1 1 (x1.map (.int .u32)),.bool t1,.vec g1 1 (y1.map (.int .u32))],.agg [.bool s2,.vec f2 1 (x2.map (.int .u32)),.bool t2,.vec g2 1 (y2.map (.int .u32))],.agg [.bool s3,.vec f3 1 (x3.map (.int .u32)),.bool t3,.vec g3 1 (y3.map (.int .u32))]]),(3,.int .i64 3)] []) Q
theorem call46 {args:List AV} {d:AV} (h:wc M1 fi46 Tryz.f46 args d):Ev M1 (.pure 46 args) d []:=pcl _ _ (by kernel_rfl) h
theorem call49 {args:List AV} {d:AV} (h:wc M1 fi49 Tryz.f49 args d):Ev M1 (.pure 49 args) d []:=pcl _ _ (by kernel_rfl) h
theorem call51 {args:List AV} {d:AV} (h:wc M1 fi51 Tryz.f51 args d):Ev M1 (.pure 51 args) d []:=pcl _ _ (by kernel_rfl) h
theorem call93 {args:List AV} {d:AV} (h:wc M1 fi93 Tryz.f93 args d):Ev M1 (.pure 93 args) d []:=pcl _ _ (by kernel_rfl) h
theorem rSame9 (u v:Bool) (l m:List Pnt)  (dq:AV) (H :
  ((¬(↑l.length:Int)=(↑m.length:Int))->vb false=dq) /\
  (¬(¬(↑l.length:Int)=(↑m.length:Int))->Zdj u v l m 0 (Zag dq))) :
 rSame9_at u v l m (Zag dq):=by
 unfold rSame9_at
 have w1:(List.map Pnt.a l).length=l.length:=List.length_map ..
 have w2:(List.map Pnt.a m).length=m.length:=List.length_map ..
 have i3:((↑(List.map Pnt.a l).length:Int) != (↑(List.map Pnt.a m).length:Int))=true ↔ (¬(↑l.length:Int)=(↑m.length:Int)):=(by (try rw [w1]);(try rw [w2]);all_goals exact i_ne)
 rcases xq H with ⟨d4,H⟩|⟨d4,H⟩
 ·exact Zao (G:=Zad kp49 [] []) 1000 [true] (vb false) (by kernel_rfl) (bc (Zaq (i3.2 d4)) b0) q0 c0 H
 ·exact Zae (G:=Zad kp49 [] []) 1000 [false] ⟨(atC (cd Tryz.f49) [1,1,0,1,0,0]),[(0,AV.vec u 20 (List.map Pnt.a l)),(1,AV.vec v 20 (List.map Pnt.a m)),(5,vi 0)],[],_,[],_⟩ (by kernel_rfl) (bc (Zam (fun h=>d4 (i3.1 h))) b0) q0 c0 H
noncomputable abbrev zNmG1 (l:List Pnt) (i:Int):=(Pnt.a (l.getD i.toNat default))
noncomputable abbrev zNmG2 (m:List Pnt) (i:Int):=(Pnt.a (m.getD i.toNat default))
theorem rSame9H (u v:Bool) (l m:List Pnt) (i:Int)  (dq:AV) (H :
  ((i<(↑l.length:Int))->(J.ZdG (l.getD i.toNat default)/\J.ZdG (m.getD i.toNat default)) /\
   (0<=i) /\
   (i.toNat<l.length) /\
   (i.toNat<m.length) /\
   ((¬(J.Zhh (l.getD i.toNat default) (m.getD i.toNat default)=0))->vb false=dq) /\
   (¬(¬(J.Zhh (l.getD i.toNat default) (m.getD i.toNat default)=0))->(-9223372036854775808<=i+1/\i+1<=9223372036854775807) /\
    Zdj u v l m (i+1) (Zag dq))) /\
  (¬(i<(↑l.length:Int))->vb true=dq)) :
 Zdj u v l m i (Zag dq):=by
 unfold Zdj
 have w1:(List.map Pnt.a l).length=l.length:=List.length_map ..
 have i2:(decide (i<(↑(List.map Pnt.a l).length:Int)))=true ↔ (i<(↑l.length:Int)):=(by (try rw [w1]);all_goals exact Zac)
 rcases xq H with ⟨d3,H⟩|⟨d3,H⟩
 ·obtain ⟨k4,k6,H⟩:=H
  have i7:(decide (i.toNat<(List.map Pnt.a l).length))=true ↔ (i.toNat<l.length):=(by (try rw [w1]);all_goals exact Zac)
  obtain ⟨k8,H⟩:=H
  have w10:(List.map Pnt.a m).length=m.length:=List.length_map ..
  have i11:(decide (i.toNat<(List.map Pnt.a m).length))=true ↔ (i.toNat<m.length):=(by (try rw [w10]);all_goals exact Zac)
  obtain ⟨k12,H⟩:=H
  refine Zae (G:=Zad kp49 [(6,3,.elem (zNmG1 l i)),(6,7,.elem (zNmG2 m i)),(6,8,.call (vb (decide (J.Zhh (l.getD i.toNat default) (m.getD i.toNat default)=0))) none)] []) 9 [true] ⟨(atC (cd Tryz.f49) [1,1,0,1,0,0,1,0,0,1]),[(0,AV.vec u 20 (List.map Pnt.a l)),(1,AV.vec v 20 (List.map Pnt.a m)),(5,vi i),(26,vb !decide (J.Zhh (l.getD i.toNat default) (m.getD i.toNat default)=0))],[],_,[((List.map Pnt.a l).get?Internal i.toNat=some (zNmG1 l i)),((List.map Pnt.a m).get?Internal i.toNat=some (zNmG2 m i))],_⟩ (by kernel_rfl) (bc (Zaq (i2.2 d3)) (bc (Zac.2 k6) (bc (i7.2 k8) (bc (Zac.2 k6) (bc (i11.2 k12) b0))))) (qc (Zat k8) (qc (Zat k12) q0)) (ce (@ev37 false false false false false false false false false false false false false false false false false false false false ((l.getD i.toNat default).ax) ((l.getD i.toNat default).bx) ((l.getD i.toNat default).ay) ((l.getD i.toNat default).by_) ((l.getD i.toNat default).c) ((m.getD i.toNat default).ax) ((m.getD i.toNat default).bx) ((m.getD i.toNat default).ay) ((m.getD i.toNat default).by_) ((m.getD i.toNat default).c) k4) c0) ?_
  rcases xq H with ⟨d14,H⟩|⟨d14,H⟩
  ·exact Zao (G:=Zad kp49 [] []) 1000 [true] (vb false) (by kernel_rfl) (bc (Zaq ((ZaH Zac).2 d14)) b0) q0 c0 H
  ·obtain ⟨k15,H⟩:=H
   have w16:wi (i+1)=i+1:=wI64 k15
   exact Zae (G:=Zad kp49 [] []) 1000 [false] ⟨(atC (cd Tryz.f49) [1,1,0,1,0,0]),[(0,AV.vec u 20 (List.map Pnt.a l)),(1,AV.vec v 20 (List.map Pnt.a m)),(5,vi (wi (i+1)))],[],_,[],_⟩ (by kernel_rfl) (bc (Zam (fun h=>d14 ((ZaH Zac).1 h))) b0) q0 c0 (by (try rw [w16]);all_goals exact H)
 ·exact Zao (G:=Zad kp49 [] []) 1000 [false] (vb true) (by kernel_rfl) (bc (Zam (fun h=>d3 (i2.1 h))) b0) q0 c0 H
theorem wNum (a:Int)  (dq:AV) (H :
  (J.inI a) /\
  Weak (ratF (J.qi a)) dq) :
 wNum_at a (Zag dq):=by
 unfold wNum_at
 obtain ⟨k1,H⟩:=H
 exact Zah (G:=Zad kp46 [(1,1,.call (ratF (J.qi a)) none)] []) 1000 [] (ratF (J.qi a)) (by kernel_rfl) (bc rfl b0) q0 (ce (@ev84 a k1) c0) H
theorem rVec7 (a b:Int)  (dq:AV) (H :
  (J.inI a) /\
  (J.inI b) /\
  Weak ((vecF (J.qi a) (J.qi b))) dq) :
 rVec7_at a b (Zag dq):=by
 unfold rVec7_at
 obtain ⟨k1,k2,H⟩:=H
 exact Zah (G:=Zad kp93 [(1,1,.call (ratF (J.qi a)) none),(1,3,.call (ratF (J.qi b)) none)] []) 1000 [] ((vecF (J.qi a) (J.qi b))) (by kernel_rfl) (bc rfl b0) q0 (ce (@ev84 a k1) (ce (@ev84 b k2) c0)) H
theorem rFew (s1 t1 f1 g1 s2 t2 f2 g2 s3 t3 f3 g3:Bool) (x1 y1 x2 y2 x3 y3:List Int)  (dq:AV) (H :
  rFew0_at s1 t1 f1 g1 s2 t2 f2 g2 s3 t3 f3 g3 x1 y1 x2 y2 x3 y3 (Zag dq)) :
 rFew_at s1 t1 f1 g1 s2 t2 f2 g2 s3 t3 f3 g3 x1 y1 x2 y2 x3 y3 (Zag dq):=by
 unfold rFew_at
 exact Zae (G:=Zad kp51 [] []) 1000 [] ⟨(atC (cd Tryz.f51) [1,0,1,0,0]),[(0,AV.vec true 4 [ag [vb s1,AV.vec f1 1 (us x1),vb t1,AV.vec g1 1 (us y1)],ag [vb s2,AV.vec f2 1 (us x2),vb t2,AV.vec g2 1 (us y2)],ag [vb s3,AV.vec f3 1 (us x3),vb t3,AV.vec g3 1 (us y3)]]),(3,vi 0)],[],_,[],_⟩ (by kernel_rfl) b0 q0 c0 H
noncomputable abbrev zNmG3 (s1:Bool) (f1:Bool) (x1:List Int) (t1:Bool) (g1:Bool) (y1:List Int):=ag [vb s1,AV.vec f1 1 (us x1),vb t1,AV.vec g1 1 (us y1)]
theorem rFew0 (s1 t1 f1 g1 s2 t2 f2 g2 s3 t3 f3 g3:Bool) (x1 y1 x2 y2 x3 y3:List Int)  (dq:AV) (H :
  ((¬(((↑x1.length:Int)>2)\/((↑y1.length:Int)>2)))->(J.okA x1 y1)) /\
  (((((↑x1.length:Int)>2)\/((↑y1.length:Int)>2))\/(¬(J.Zct s1 x1 t1 y1=true)))->vb false=dq) /\
  (¬((((↑x1.length:Int)>2)\/((↑y1.length:Int)>2))\/(¬(J.Zct s1 x1 t1 y1=true)))->rFew1_at s1 t1 f1 g1 s2 t2 f2 g2 s3 t3 f3 g3 x1 y1 x2 y2 x3 y3 (Zag dq))) :
 rFew0_at s1 t1 f1 g1 s2 t2 f2 g2 s3 t3 f3 g3 x1 y1 x2 y2 x3 y3 (Zag dq):=by
 unfold rFew0_at
 have w1:(us x1).length=x1.length:=List.length_map ..
 have w2:(us y1).length=y1.length:=List.length_map ..
 have i3:((bif decide ((↑(us x1).length:Int)>2) then true else decide ((↑(us y1).length:Int)>2))==false&&true&&true)=true ↔ (¬(((↑x1.length:Int)>2)\/((↑y1.length:Int)>2))):=(by (try rw [w1]);(try rw [w2]);all_goals exact (i_at (i_at (i_bf (ZaM Zac Zac)))))
 obtain ⟨k4,H⟩:=H
 have i5:(bif bif decide ((↑(us x1).length:Int)>2) then true else decide ((↑(us y1).length:Int)>2) then true else !J.Zct s1 x1 t1 y1)=true ↔ ((((↑x1.length:Int)>2)\/((↑y1.length:Int)>2))\/(¬(J.Zct s1 x1 t1 y1=true))):=(by (try rw [w1]);(try rw [w2]);all_goals exact (ZaM (ZaM Zac Zac) (ZaH (Zas _))))
 refine Zae (G:=Zad kp51 [(4,23,.call (vb (J.Zct s1 x1 t1 y1)) none)] []) 9 [true] ⟨(atC (cd Tryz.f51) [1,0,1,0,0,1,0,0,1]),[(0,AV.vec true 4 [(zNmG3 s1 f1 x1 t1 g1 y1),ag [vb s2,AV.vec f2 1 (us x2),vb t2,AV.vec g2 1 (us y2)],ag [vb s3,AV.vec f3 1 (us x3),vb t3,AV.vec g3 1 (us y3)]]),(3,vi 0),(35,vb (bif bif decide ((↑(us x1).length:Int)>2) then true else decide ((↑(us y1).length:Int)>2) then true else !J.Zct s1 x1 t1 y1))],[],[true==true,true,true,!(decide ((↑(us x1).length:Int)>2)==false&&true)||true,!(decide ((↑(us x1).length:Int)>2)==false&&true)||true,!((bif decide ((↑(us x1).length:Int)>2) then true else decide ((↑(us y1).length:Int)>2))==false&&true)||true,!((bif decide ((↑(us x1).length:Int)>2) then true else decide ((↑(us y1).length:Int)>2))==false&&true)||true],[],[⟨(bif decide ((↑(us x1).length:Int)>2) then true else decide ((↑(us y1).length:Int)>2))==false&&true&&true,false,27,[(zNmG3 s1 f1 x1 t1 g1 y1)],[],vb (J.Zct s1 x1 t1 y1),[]⟩]⟩ (by kernel_rfl) (bc rfl (bc rfl (bc rfl (bc (Bool.or_true _) (bc (Bool.or_true _) (bc (Bool.or_true _) (bc (Bool.or_true _) b0))))))) q0 (cc (fun hc=>((@ev27 s1 f1 t1 g1 x1 y1 (k4 (i3.1 hc))):Ev M1 (Conf.pure 27 [(zNmG3 s1 f1 x1 t1 g1 y1)]) (vb (J.Zct s1 x1 t1 y1)) [])) c0) ?_
 rcases xq H with ⟨d6,H⟩|⟨d6,H⟩
 ·exact Zao (G:=Zad kp51 [] []) 1000 [true] (vb false) (by kernel_rfl) (bc (Zaq (i5.2 d6)) b0) q0 c0 H
 ·exact Zae (G:=Zad kp51 [] []) 1000 [false] ⟨(atC (cd Tryz.f51) [1,0,1,0,0]),[(0,AV.vec true 4 [(zNmG3 s1 f1 x1 t1 g1 y1),ag [vb s2,AV.vec f2 1 (us x2),vb t2,AV.vec g2 1 (us y2)],ag [vb s3,AV.vec f3 1 (us x3),vb t3,AV.vec g3 1 (us y3)]]),(3,vi 1)],[],_,[],_⟩ (by kernel_rfl) (bc (Zam (fun h=>d6 (i5.1 h))) b0) q0 c0 H
noncomputable abbrev zNmG4 (s2:Bool) (f2:Bool) (x2:List Int) (t2:Bool) (g2:Bool) (y2:List Int):=ag [vb s2,AV.vec f2 1 (us x2),vb t2,AV.vec g2 1 (us y2)]
theorem rFew1 (s1 t1 f1 g1 s2 t2 f2 g2 s3 t3 f3 g3:Bool) (x1 y1 x2 y2 x3 y3:List Int)  (dq:AV) (H :
  ((¬(((↑x2.length:Int)>2)\/((↑y2.length:Int)>2)))->(J.okA x2 y2)) /\
  (((((↑x2.length:Int)>2)\/((↑y2.length:Int)>2))\/(¬(J.Zct s2 x2 t2 y2=true)))->vb false=dq) /\
  (¬((((↑x2.length:Int)>2)\/((↑y2.length:Int)>2))\/(¬(J.Zct s2 x2 t2 y2=true)))->rFew2_at s1 t1 f1 g1 s2 t2 f2 g2 s3 t3 f3 g3 x1 y1 x2 y2 x3 y3 (Zag dq))) :
 rFew1_at s1 t1 f1 g1 s2 t2 f2 g2 s3 t3 f3 g3 x1 y1 x2 y2 x3 y3 (Zag dq):=by
 unfold rFew1_at
 have w1:(us x2).length=x2.length:=List.length_map ..
 have w2:(us y2).length=y2.length:=List.length_map ..
 have i3:((bif decide ((↑(us x2).length:Int)>2) then true else decide ((↑(us y2).length:Int)>2))==false&&true&&true)=true ↔ (¬(((↑x2.length:Int)>2)\/((↑y2.length:Int)>2))):=(by (try rw [w1]);(try rw [w2]);all_goals exact (i_at (i_at (i_bf (ZaM Zac Zac)))))
 obtain ⟨k4,H⟩:=H
 have i5:(bif bif decide ((↑(us x2).length:Int)>2) then true else decide ((↑(us y2).length:Int)>2) then true else !J.Zct s2 x2 t2 y2)=true ↔ ((((↑x2.length:Int)>2)\/((↑y2.length:Int)>2))\/(¬(J.Zct s2 x2 t2 y2=true))):=(by (try rw [w1]);(try rw [w2]);all_goals exact (ZaM (ZaM Zac Zac) (ZaH (Zas _))))
 refine Zae (G:=Zad kp51 [(4,23,.call (vb (J.Zct s2 x2 t2 y2)) none)] []) 9 [true] ⟨(atC (cd Tryz.f51) [1,0,1,0,0,1,0,0,1]),[(0,AV.vec true 4 [ag [vb s1,AV.vec f1 1 (us x1),vb t1,AV.vec g1 1 (us y1)],(zNmG4 s2 f2 x2 t2 g2 y2),ag [vb s3,AV.vec f3 1 (us x3),vb t3,AV.vec g3 1 (us y3)]]),(3,vi 1),(35,vb (bif bif decide ((↑(us x2).length:Int)>2) then true else decide ((↑(us y2).length:Int)>2) then true else !J.Zct s2 x2 t2 y2))],[],[true==true,true,true,!(decide ((↑(us x2).length:Int)>2)==false&&true)||true,!(decide ((↑(us x2).length:Int)>2)==false&&true)||true,!((bif decide ((↑(us x2).length:Int)>2) then true else decide ((↑(us y2).length:Int)>2))==false&&true)||true,!((bif decide ((↑(us x2).length:Int)>2) then true else decide ((↑(us y2).length:Int)>2))==false&&true)||true],[],[⟨(bif decide ((↑(us x2).length:Int)>2) then true else decide ((↑(us y2).length:Int)>2))==false&&true&&true,false,27,[(zNmG4 s2 f2 x2 t2 g2 y2)],[],vb (J.Zct s2 x2 t2 y2),[]⟩]⟩ (by kernel_rfl) (bc rfl (bc rfl (bc rfl (bc (Bool.or_true _) (bc (Bool.or_true _) (bc (Bool.or_true _) (bc (Bool.or_true _) b0))))))) q0 (cc (fun hc=>((@ev27 s2 f2 t2 g2 x2 y2 (k4 (i3.1 hc))):Ev M1 (Conf.pure 27 [(zNmG4 s2 f2 x2 t2 g2 y2)]) (vb (J.Zct s2 x2 t2 y2)) [])) c0) ?_
 rcases xq H with ⟨d6,H⟩|⟨d6,H⟩
 ·exact Zao (G:=Zad kp51 [] []) 1000 [true] (vb false) (by kernel_rfl) (bc (Zaq (i5.2 d6)) b0) q0 c0 H
 ·exact Zae (G:=Zad kp51 [] []) 1000 [false] ⟨(atC (cd Tryz.f51) [1,0,1,0,0]),[(0,AV.vec true 4 [ag [vb s1,AV.vec f1 1 (us x1),vb t1,AV.vec g1 1 (us y1)],(zNmG4 s2 f2 x2 t2 g2 y2),ag [vb s3,AV.vec f3 1 (us x3),vb t3,AV.vec g3 1 (us y3)]]),(3,vi 2)],[],_,[],_⟩ (by kernel_rfl) (bc (Zam (fun h=>d6 (i5.1 h))) b0) q0 c0 H
noncomputable abbrev zNmG5 (s3:Bool) (f3:Bool) (x3:List Int) (t3:Bool) (g3:Bool) (y3:List Int):=ag [vb s3,AV.vec f3 1 (us x3),vb t3,AV.vec g3 1 (us y3)]
theorem rFew2 (s1 t1 f1 g1 s2 t2 f2 g2 s3 t3 f3 g3:Bool) (x1 y1 x2 y2 x3 y3:List Int)  (dq:AV) (H :
  ((¬(((↑x3.length:Int)>2)\/((↑y3.length:Int)>2)))->(J.okA x3 y3)) /\
  (((((↑x3.length:Int)>2)\/((↑y3.length:Int)>2))\/(¬(J.Zct s3 x3 t3 y3=true)))->vb false=dq) /\
  (¬((((↑x3.length:Int)>2)\/((↑y3.length:Int)>2))\/(¬(J.Zct s3 x3 t3 y3=true)))->rFew3_at s1 t1 f1 g1 s2 t2 f2 g2 s3 t3 f3 g3 x1 y1 x2 y2 x3 y3 (Zag dq))) :
 rFew2_at s1 t1 f1 g1 s2 t2 f2 g2 s3 t3 f3 g3 x1 y1 x2 y2 x3 y3 (Zag dq):=by
 unfold rFew2_at
 have w1:(us x3).length=x3.length:=List.length_map ..
 have w2:(us y3).length=y3.length:=List.length_map ..
 have i3:((bif decide ((↑(us x3).length:Int)>2) then true else decide ((↑(us y3).length:Int)>2))==false&&true&&true)=true ↔ (¬(((↑x3.length:Int)>2)\/((↑y3.length:Int)>2))):=(by (try rw [w1]);(try rw [w2]);all_goals exact (i_at (i_at (i_bf (ZaM Zac Zac)))))
 obtain ⟨k4,H⟩:=H
 have i5:(bif bif decide ((↑(us x3).length:Int)>2) then true else decide ((↑(us y3).length:Int)>2) then true else !J.Zct s3 x3 t3 y3)=true ↔ ((((↑x3.length:Int)>2)\/((↑y3.length:Int)>2))\/(¬(J.Zct s3 x3 t3 y3=true))):=(by (try rw [w1]);(try rw [w2]);all_goals exact (ZaM (ZaM Zac Zac) (ZaH (Zas _))))
 refine Zae (G:=Zad kp51 [(4,23,.call (vb (J.Zct s3 x3 t3 y3)) none)] []) 9 [true] ⟨(atC (cd Tryz.f51) [1,0,1,0,0,1,0,0,1]),[(0,AV.vec true 4 [ag [vb s1,AV.vec f1 1 (us x1),vb t1,AV.vec g1 1 (us y1)],ag [vb s2,AV.vec f2 1 (us x2),vb t2,AV.vec g2 1 (us y2)],(zNmG5 s3 f3 x3 t3 g3 y3)]),(3,vi 2),(35,vb (bif bif decide ((↑(us x3).length:Int)>2) then true else decide ((↑(us y3).length:Int)>2) then true else !J.Zct s3 x3 t3 y3))],[],[true==true,true,true,!(decide ((↑(us x3).length:Int)>2)==false&&true)||true,!(decide ((↑(us x3).length:Int)>2)==false&&true)||true,!((bif decide ((↑(us x3).length:Int)>2) then true else decide ((↑(us y3).length:Int)>2))==false&&true)||true,!((bif decide ((↑(us x3).length:Int)>2) then true else decide ((↑(us y3).length:Int)>2))==false&&true)||true],[],[⟨(bif decide ((↑(us x3).length:Int)>2) then true else decide ((↑(us y3).length:Int)>2))==false&&true&&true,false,27,[(zNmG5 s3 f3 x3 t3 g3 y3)],[],vb (J.Zct s3 x3 t3 y3),[]⟩]⟩ (by kernel_rfl) (bc rfl (bc rfl (bc rfl (bc (Bool.or_true _) (bc (Bool.or_true _) (bc (Bool.or_true _) (bc (Bool.or_true _) b0))))))) q0 (cc (fun hc=>((@ev27 s3 f3 t3 g3 x3 y3 (k4 (i3.1 hc))):Ev M1 (Conf.pure 27 [(zNmG5 s3 f3 x3 t3 g3 y3)]) (vb (J.Zct s3 x3 t3 y3)) [])) c0) ?_
 rcases xq H with ⟨d6,H⟩|⟨d6,H⟩
 ·exact Zao (G:=Zad kp51 [] []) 1000 [true] (vb false) (by kernel_rfl) (bc (Zaq (i5.2 d6)) b0) q0 c0 H
 ·exact Zae (G:=Zad kp51 [] []) 1000 [false] ⟨(atC (cd Tryz.f51) [1,0,1,0,0]),[(0,AV.vec true 4 [ag [vb s1,AV.vec f1 1 (us x1),vb t1,AV.vec g1 1 (us y1)],ag [vb s2,AV.vec f2 1 (us x2),vb t2,AV.vec g2 1 (us y2)],(zNmG5 s3 f3 x3 t3 g3 y3)]),(3,vi 3)],[],_,[],_⟩ (by kernel_rfl) (bc (Zam (fun h=>d6 (i5.1 h))) b0) q0 c0 H
theorem rFew3 (s1 t1 f1 g1 s2 t2 f2 g2 s3 t3 f3 g3:Bool) (x1 y1 x2 y2 x3 y3:List Int)  (dq:AV) (H :
  vb true=dq) :
 rFew3_at s1 t1 f1 g1 s2 t2 f2 g2 s3 t3 f3 g3 x1 y1 x2 y2 x3 y3 (Zag dq):=by
 unfold rFew3_at
 exact Zao (G:=Zad kp51 [] []) 1000 [false] (vb true) (by kernel_rfl) (bc rfl b0) q0 c0 H
end Go.Av

namespace Go.Av
open Go.Proofs
theorem eqL_cons (p q:Pnt) (l m:List Pnt):J.eqL (p::l) (q::m)=bif decide (J.Zhh p q=0) then J.eqL l m else false:=rfl
theorem eqL_len:∀ {l m:List Pnt},l.length ≠ m.length->J.eqL l m=false
 | [],[],h=>absurd rfl h
 | [],q::m,_=>rfl
 | p::l,[],_=>rfl
 | p::l,q::m,h=>by
  rw [eqL_cons,eqL_len (l:=l) (m:=m) (by simpa using h)]
  cases decide (J.Zhh p q=0) <;> rfl
theorem same_loop {u v:Bool} {l m:List Pnt} {dq:AV} (h:J.Ze6 l) (g:J.Ze6 m) (e:l.length=m.length) (k:Nat):∀ (i:Nat),i+k=l.length->AV.bool (J.eqL (l.drop i) (m.drop i))=dq->Zdj u v l m i (Zag dq):=by
 have hl:=h.2
 induction k with
 | zero =>
  intro i e2 hq
  refine rSame9H _ _ _ _ _ _ ⟨fun x=>by omega,fun _ => ?_⟩
  rw [List.drop_eq_nil_of_le (by omega),List.drop_eq_nil_of_le (by omega)] at hq
  exact hq
 | succ k ih =>
  intro i e2 hq
  rw [Zcs (d:=l) (i:=i) (by omega),Zcs (d:=m) (i:=i) (by omega),eqL_cons] at hq
  have p1:=h.1 _ (Zfj (d:=l) (i:=i) (by omega))
  have p2:=g.1 _ (Zfj (d:=m) (i:=i) (by omega))
  have nx:=ih (i+1) (by omega)
  refine rSame9H _ _ _ _ _ _ ⟨fun x => ?_,fun x=>by omega⟩
  rw [Int.toNat_natCast,show (i:Int)+1=((i+1:Nat):Int) by omega]
  refine ⟨⟨p1,p2⟩,by omega,by omega,by omega,fun y => ?_,fun y=>⟨by omega,nx ?_⟩⟩
  ·rw [decide_eq_false y] at hq;exact hq
  ·rw [decide_eq_true (Classical.not_not.1 y)] at hq;exact hq
theorem ev49 (u v:Bool) (l m:List Pnt) (h:J.Ze6 l/\J.Ze6 m):Ev M1 (.pure 49 [.vec u 20 (l.map Pnt.a),.vec v 20 (m.map Pnt.a)]) (.bool (J.eqL l m)) []:=by
 refine call49 (rSame9 _ _ _ _ _ ⟨fun k => ?_,fun k => ?_⟩)
 ·rw [eqL_len (by omega)]
 ·exact same_loop h.1 h.2 (by omega) l.length 0 (by omega) rfl
theorem ev46 (a:Int) (h:J.inI a):Ev M1 (.pure 46 [.int .i64 a]) (ratF (J.qi a)) []:=
 call46 (wNum _ _ ⟨h,.refl _⟩)
theorem ev93 (a b:Int) (h:J.inI a/\J.inI b):Ev M1 (.pure 93 [.int .i64 a,.int .i64 b]) (vecF (J.qi a) (J.qi b)) []:=
 call93 (rVec7 _ _ _ ⟨h.1,h.2,.refl _⟩)
noncomputable def J.ZdI (s1 t1 s2 t2 s3 t3:Bool) (x1 y1 x2 y2 x3 y3:List Int):Bool:=Zez 2 s1 x1 t1 y1&&Zez 2 s2 x2 t2 y2&&Zez 2 s3 x3 t3 y3
def J.Zh7 (x1 y1 x2 y2 x3 y3:List Int):Prop:=((∀ v ∈ x1,0<=v) /\ ∀ v ∈ y1,0<=v)/\((∀ v ∈ x2,0<=v) /\ ∀ v ∈ y2,0<=v)/\(∀ v ∈ x3,0<=v) /\ ∀ v ∈ y3,0<=v
theorem small_y {s t:Bool} {x y:List Int} (h:¬((((x.length:Int)>2)\/((y.length:Int)>2))\/(¬(J.Zct s x t y=true)))):J.Zez 2 s x t y=true:=by
 unfold J.Zez
 rw [decide_eq_true (by omega),decide_eq_true (by omega),cond_true,cond_true]
 exact Classical.not_not.1 fun k=>h (.inr k)
theorem small_n {s t:Bool} {x y:List Int} (h:(((x.length:Int)>2)\/((y.length:Int)>2))\/(¬(J.Zct s x t y=true))):J.Zez 2 s x t y=false:=by
 rcases Bool.eq_false_or_eq_true (J.Zez 2 s x t y) with k | k
 ·have:=ZhV.1 k
  rcases h with h | h
  ·omega
  ·exact absurd (ZeS.2 this.2.2) h
 ·exact k
theorem Zgu {x y:List Int} (h:(∀ v ∈ x,0<=v) /\ ∀ v ∈ y,0<=v) (k:¬(((x.length:Int)>2)\/((y.length:Int)>2))):J.okA x y:=⟨⟨by omega,h.1⟩,⟨by omega,h.2⟩⟩
theorem ev51 (s1 t1 f1 g1 s2 t2 f2 g2 s3 t3 f3 g3:Bool) (x1 y1 x2 y2 x3 y3:List Int) (h:J.Zh7 x1 y1 x2 y2 x3 y3):Ev M1 (.pure 51 [.vec true 4 [.agg [.bool s1,.vec f1 1 (x1.map (.int .u32)),.bool t1,.vec g1 1 (y1.map (.int .u32))],.agg [.bool s2,.vec f2 1 (x2.map (.int .u32)),.bool t2,.vec g2 1 (y2.map (.int .u32))],.agg [.bool s3,.vec f3 1 (x3.map (.int .u32)),.bool t3,.vec g3 1 (y3.map (.int .u32))]]]) (.bool (J.ZdI s1 t1 s2 t2 s3 t3 x1 y1 x2 y2 x3 y3)) []:=by
 obtain ⟨h1,h2,h3⟩:=h
 unfold J.ZdI
 refine call51 (rFew _ _ _ _ _ _ _ _ _ _ _ _ _ _ _ _ _ _ _ (rFew0 _ _ _ _ _ _ _ _ _ _ _ _ _ _ _ _ _ _ _ ⟨Zgu h1,fun k => ?_,fun k1=>rFew1 _ _ _ _ _ _ _ _ _ _ _ _ _ _ _ _ _ _ _ ⟨Zgu h2,fun k => ?_,fun k2=>rFew2 _ _ _ _ _ _ _ _ _ _ _ _ _ _ _ _ _ _ _ ⟨Zgu h3,fun k => ?_,fun k3=>rFew3 _ _ _ _ _ _ _ _ _ _ _ _ _ _ _ _ _ _ _ ?_⟩⟩⟩))
 ·rw [small_n k];rfl
 ·rw [small_n k,Bool.and_false];rfl
 ·rw [small_n k,Bool.and_false]
 ·rw [small_y k1,small_y k2,small_y k3];rfl
end Go.Av

namespace Go.Av
open Go.Proofs
set_option maxRecDepth 100000
def fi12:Fi:=⟨23,[.tmp 2]⟩
def kp12:List (Nat × List Nat):=[(0,[1]),(1,[2])]
def fi15:Fi:=⟨21,[.tmp 8]⟩
def kp15:List (Nat × List Nat):=[(0,[0,1,2,3]),(1,[8])]
def fi16:Fi:=⟨17,[.tmp 2]⟩
def kp16:List (Nat × List Nat):=[(0,[1]),(1,[2])]
def fi47:Fi:=⟨14,[.cell 6 28]⟩
def kp47:List (Nat × List Nat):=[(0,[0,1,2,6]),(1,[6])]
def fi48:Fi:=⟨14,[.cell 6 38]⟩
def kp48:List (Nat × List Nat):=[(0,[0,1,2,6]),(1,[6])]
def fi50:Fi:=⟨9,[.cell 4 56]⟩
def kp50:List (Nat × List Nat):=[(0,[0,1,4]),(1,[4])]
def wLine_at (a b c:Int) (Q:AV->Heap->Prop):Prop:=Wp M1 (.run fi47 (atC (cd Tryz.f47) []) [(0,.int .i64 a),(1,.int .i64 b),(2,.int .i64 c)] []) Q
def wCirc_at (a b c:Int) (Q:AV->Heap->Prop):Prop:=Wp M1 (.run fi48 (atC (cd Tryz.f48) []) [(0,.int .i64 a),(1,.int .i64 b),(2,.int .i64 c)] []) Q
def wAt_at (a b:Int) (Q:AV->Heap->Prop):Prop:=Wp M1 (.run fi50 (atC (cd Tryz.f50) []) [(0,.int .i64 a),(1,.int .i64 b)] []) Q
def wSame_at (u v:Bool) (l m:List Pnt) (e f:Int) (Q:AV->Heap->Prop):Prop:=Wp M1 (.run fi15 (atC (cd Tryz.f15) []) [(0,.vec u 20 (l.map Pnt.a)),(1,.int .i64 e),(2,.vec v 20 (m.map Pnt.a)),(3,.int .i64 f)] []) Q
def rLine_at (f1 f2 f3 f4 f5 f6:Bool) (a b c:Rat) (Q:AV->Heap->Prop):Prop:=Wp M1 (.run fi12 (atC (cd Tryz.f12) []) [(0,Zaw f1 f2 f3 f4 f5 f6 a b c)] []) Q
def rLineR_at (s1 t1 f1 g1 s2 t2 f2 g2 s3 t3 f3 g3:Bool) (x1 y1 x2 y2 x3 y3:List Int) (Q:AV->Heap->Prop):Prop:=Wp M1 (.run fi12 (atC (cd Tryz.f12) []) [(0,.agg [.bool s1,.vec f1 1 (x1.map (.int .u32)),.bool t1,.vec g1 1 (y1.map (.int .u32)),.bool s2,.vec f2 1 (x2.map (.int .u32)),.bool t2,.vec g2 1 (y2.map (.int .u32)),.bool s3,.vec f3 1 (x3.map (.int .u32)),.bool t3,.vec g3 1 (y3.map (.int .u32))])] []) Q
def rCirc_at (f1 f2 f3 f4 f5 f6:Bool) (a b c:Rat) (Q:AV->Heap->Prop):Prop:=Wp M1 (.run fi16 (atC (cd Tryz.f16) []) [(0,Zaw f1 f2 f3 f4 f5 f6 a b c)] []) Q
def rCircR_at (s1 t1 f1 g1 s2 t2 f2 g2 s3 t3 f3 g3:Bool) (x1 y1 x2 y2 x3 y3:List Int) (Q:AV->Heap->Prop):Prop:=Wp M1 (.run fi16 (atC (cd Tryz.f16) []) [(0,.agg [.bool s1,.vec f1 1 (x1.map (.int .u32)),.bool t1,.vec g1 1 (y1.map (.int .u32)),.bool s2,.vec f2 1 (x2.map (.int .u32)),.bool t2,.vec g2 1 (y2.map (.int .u32)),.bool s3,.vec f3 1 (x3.map (.int .u32)),.bool t3,.vec g3 1 (y3.map (.int .u32))])] []) Q
theorem call12 {args:List AV} {d:AV} (h:wc M1 fi12 Tryz.f12 args d):Ev M1 (.pure 12 args) d []:=pcl _ _ (by kernel_rfl) h
theorem call15 {args:List AV} {d:AV} (h:wc M1 fi15 Tryz.f15 args d):Ev M1 (.pure 15 args) d []:=pcl _ _ (by kernel_rfl) h
theorem call16 {args:List AV} {d:AV} (h:wc M1 fi16 Tryz.f16 args d):Ev M1 (.pure 16 args) d []:=pcl _ _ (by kernel_rfl) h
theorem call47 {args:List AV} {d:AV} (h:wc M1 fi47 Tryz.f47 args d):Ev M1 (.pure 47 args) d []:=pcl _ _ (by kernel_rfl) h
theorem call48 {args:List AV} {d:AV} (h:wc M1 fi48 Tryz.f48 args d):Ev M1 (.pure 48 args) d []:=pcl _ _ (by kernel_rfl) h
theorem call50 {args:List AV} {d:AV} (h:wc M1 fi50 Tryz.f50 args d):Ev M1 (.pure 50 args) d []:=pcl _ _ (by kernel_rfl) h
theorem wLine (a b c:Int)  (dq:AV) (H :
  (J.inI a) /\
  (J.inI b) /\
  (J.inI c) /\
  Weak (Zau (J.qi a) (J.qi b) (J.qi c)) dq) :
 wLine_at a b c (Zag dq):=by
 unfold wLine_at
 obtain ⟨k1,k2,k3,H⟩:=H
 exact Zah (G:=Zad kp47 [(1,1,.call (ratF (J.qi a)) none),(1,3,.call (ratF (J.qi b)) none),(1,5,.call (ratF (J.qi c)) none)] []) 1000 [] (Zau (J.qi a) (J.qi b) (J.qi c)) (by kernel_rfl) (bc rfl b0) q0 (ce (@ev46 a k1) (ce (@ev46 b k2) (ce (@ev46 c k3) c0))) H
theorem wCirc (a b c:Int)  (dq:AV) (H :
  (J.inI a) /\
  (J.inI b) /\
  (J.inI c) /\
  Weak (Zau (J.qi a) (J.qi b) (J.qi c)) dq) :
 wCirc_at a b c (Zag dq):=by
 unfold wCirc_at
 obtain ⟨k1,k2,k3,H⟩:=H
 exact Zah (G:=Zad kp48 [(1,1,.call (ratF (J.qi a)) none),(1,3,.call (ratF (J.qi b)) none),(1,5,.call (ratF (J.qi c)) none)] []) 1000 [] (Zau (J.qi a) (J.qi b) (J.qi c)) (by kernel_rfl) (bc rfl b0) q0 (ce (@ev46 a k1) (ce (@ev46 b k2) (ce (@ev46 c k3) c0))) H
noncomputable abbrev zNmH1 (a:Int) (b:Int):=(pntF (J.qi a) (J.qi 0) (J.qi b) (J.qi 0) (J.qi 0))
theorem wAt (a b:Int)  (dq:AV) (H :
  (J.inI a/\J.inI b) /\
  Weak ((pntF (J.qi a) (J.qi 0) (J.qi b) (J.qi 0) (J.qi 0))) dq) :
 wAt_at a b (Zag dq):=by
 unfold wAt_at
 obtain ⟨k1,H⟩:=H
 exact Zah (G:=Zad kp50 [(1,2,.call ((vecF (J.qi a) (J.qi b))) none),(1,3,.call (zNmH1 a b) none)] []) 1000 [] (zNmH1 a b) (by kernel_rfl) (bc rfl b0) q0 (ce (@ev93 a b k1) (ce (@ev61 false false false false (J.qi a) (J.qi b)) c0)) H
theorem wSame (u v:Bool) (l m:List Pnt) (e f:Int)  (dq:AV) (H :
  ((e=f)->(J.Ze6 l)) /\
  (((e=f)/\(J.ZfF l=true))->(J.Ze6 l/\J.Ze6 m)) /\
  vb (bif bif e==f then J.ZfF l else false then J.eqL l m else false)=dq) :
 wSame_at u v l m e f (Zag dq):=by
 unfold wSame_at
 obtain ⟨k2,k4,H⟩:=H
 exact Zao (G:=Zad kp15 [(1,5,.call (vb (J.ZfF l)) none),(1,10,.call (vb (J.eqL l m)) none)] []) 1000 [] (calls:=[⟨(e==f)==true&&true&&true,false,63,[AV.vec u 20 (List.map Pnt.a l)],[],vb (J.ZfF l),[]⟩,⟨(bif e==f then J.ZfF l else false)==true&&true&&true,false,49,[AV.vec u 20 (List.map Pnt.a l),AV.vec v 20 (List.map Pnt.a m)],[],vb (J.eqL l m),[]⟩]) (vb (bif bif e==f then J.ZfF l else false then J.eqL l m else false)) (by kernel_rfl) b0 q0 (cc (fun hc=>((@ev63 u l (k2 ((i_at (i_at (i_bt i_eq))).1 hc))):Ev M1 (Conf.pure 63 [AV.vec u 20 (List.map Pnt.a l)]) (vb (J.ZfF l)) [])) (cc (fun hc=>((@ev49 u v l m (k4 ((i_at (i_at (i_bt (ZaG i_eq (Zas _))))).1 hc))):Ev M1 (Conf.pure 49 [AV.vec u 20 (List.map Pnt.a l),AV.vec v 20 (List.map Pnt.a m)]) (vb (J.eqL l m)) [])) c0)) H
noncomputable abbrev zNmH2 (a:Rat) (b:Rat) (c:Rat):=J.ZdI (J.Zaa a.num) (J.Zaa (↑a.den:Int)) (J.Zaa b.num) (J.Zaa (↑b.den:Int)) (J.Zaa c.num) (J.Zaa (↑c.den:Int)) (J.Zab a.num) (J.Zab (↑a.den:Int)) (J.Zab b.num) (J.Zab (↑b.den:Int)) (J.Zab c.num) (J.Zab (↑c.den:Int))==true&&true
noncomputable abbrev zNmH3 (a:Rat) (b:Rat) (c:Rat):=J.ZdI (J.Zaa a.num) (J.Zaa (↑a.den:Int)) (J.Zaa b.num) (J.Zaa (↑b.den:Int)) (J.Zaa c.num) (J.Zaa (↑c.den:Int)) (J.Zab a.num) (J.Zab (↑a.den:Int)) (J.Zab b.num) (J.Zab (↑b.den:Int)) (J.Zab c.num) (J.Zab (↑c.den:Int))
theorem rLine (f1 f2 f3 f4 f5 f6:Bool) (a b c:Rat)  (dq:AV) (H :
  (J.Zh7 (J.Zab a.num) (J.Zab (↑a.den:Int)) (J.Zab b.num) (J.Zab (↑b.den:Int)) (J.Zab c.num) (J.Zab (↑c.den:Int))) /\
  (vb (bif J.ZdI (J.Zaa a.num) (J.Zaa (↑a.den:Int)) (J.Zaa b.num) (J.Zaa (↑b.den:Int)) (J.Zaa c.num) (J.Zaa (↑c.den:Int)) (J.Zab a.num) (J.Zab (↑a.den:Int)) (J.Zab b.num) (J.Zab (↑b.den:Int)) (J.Zab c.num) (J.Zab (↑c.den:Int)) then bif J.sgnI a.num != 0 then true else J.sgnI b.num != 0 else false))=dq) :
 rLine_at f1 f2 f3 f4 f5 f6 a b c (Zag dq):=by
 unfold rLine_at
 obtain ⟨k1,H⟩:=H
 exact Zao (G:=Zad kp12 [(1,7,.call (vb (zNmH3 a b c)) none),(1,11,.call (vi (J.sgnI a.num)) none),(1,16,.call (vi (J.sgnI b.num)) none)] []) 1000 [] (asm:=[true,true,true,!(zNmH2 a b c)||true,!((J.sgnI a.num != 0)==false&&(zNmH2 a b c))||true]) (calls:=[⟨true,false,51,[AV.vec true 4 [ratA f1 f2 a,ratA f3 f4 b,ratA f5 f6 c]],[],vb (zNmH3 a b c),[]⟩,⟨J.ZdI (J.Zaa a.num) (J.Zaa (↑a.den:Int)) (J.Zaa b.num) (J.Zaa (↑b.den:Int)) (J.Zaa c.num) (J.Zaa (↑c.den:Int)) (J.Zab a.num) (J.Zab (↑a.den:Int)) (J.Zab b.num) (J.Zab (↑b.den:Int)) (J.Zab c.num) (J.Zab (↑c.den:Int))==true&&true&&true,false,20,[ratA f1 f2 a],[],vi (J.sgnI a.num),[]⟩,⟨(J.sgnI a.num != 0)==false&&(zNmH2 a b c)&&true,false,20,[ratA f3 f4 b],[],vi (J.sgnI b.num),[]⟩]) (vb (bif J.ZdI (J.Zaa a.num) (J.Zaa (↑a.den:Int)) (J.Zaa b.num) (J.Zaa (↑b.den:Int)) (J.Zaa c.num) (J.Zaa (↑c.den:Int)) (J.Zab a.num) (J.Zab (↑a.den:Int)) (J.Zab b.num) (J.Zab (↑b.den:Int)) (J.Zab c.num) (J.Zab (↑c.den:Int)) then bif J.sgnI a.num != 0 then true else J.sgnI b.num != 0 else false)) (by kernel_rfl) (bc rfl (bc rfl (bc rfl (bc (Bool.or_true _) (bc (Bool.or_true _) b0))))) q0 (cc (fun _=>(@ev51 (J.Zaa a.num) (J.Zaa (↑a.den:Int)) f1 f2 (J.Zaa b.num) (J.Zaa (↑b.den:Int)) f3 f4 (J.Zaa c.num) (J.Zaa (↑c.den:Int)) f5 f6 (J.Zab a.num) (J.Zab (↑a.den:Int)) (J.Zab b.num) (J.Zab (↑b.den:Int)) (J.Zab c.num) (J.Zab (↑c.den:Int)) k1)) (cc (fun hc=>((@ev20 f1 f2 (a.num) ((↑a.den:Int))):Ev M1 (Conf.pure 20 [ratA f1 f2 a]) (vi (J.sgnI a.num)) [])) (cc (fun hc=>((@ev20 f3 f4 (b.num) ((↑b.den:Int))):Ev M1 (Conf.pure 20 [ratA f3 f4 b]) (vi (J.sgnI b.num)) [])) c0))) H
noncomputable abbrev zNmH4 (s1:Bool) (f1:Bool) (x1:List Int) (t1:Bool) (g1:Bool) (y1:List Int):=ag [vb s1,AV.vec f1 1 (us x1),vb t1,AV.vec g1 1 (us y1)]
noncomputable abbrev zNmH5 (s2:Bool) (f2:Bool) (x2:List Int) (t2:Bool) (g2:Bool) (y2:List Int):=ag [vb s2,AV.vec f2 1 (us x2),vb t2,AV.vec g2 1 (us y2)]
theorem rLineR (s1 t1 f1 g1 s2 t2 f2 g2 s3 t3 f3 g3:Bool) (x1 y1 x2 y2 x3 y3:List Int)  (dq:AV) (H :
  (J.Zh7 x1 y1 x2 y2 x3 y3) /\
  ∃ (n1:Int),
  ((J.ZdI s1 t1 s2 t2 s3 t3 x1 y1 x2 y2 x3 y3=true)->(Ev M1 (Conf.pure 20 [ag [vb s1,AV.vec f1 1 (us x1),vb t1,AV.vec g1 1 (us y1)]]) (vi n1) [])) /\
  ∃ (n2:Int),
  (((¬(¬n1=0))/\(J.ZdI s1 t1 s2 t2 s3 t3 x1 y1 x2 y2 x3 y3=true))->(Ev M1 (Conf.pure 20 [ag [vb s2,AV.vec f2 1 (us x2),vb t2,AV.vec g2 1 (us y2)]]) (vi n2) [])) /\
  (vb (bif J.ZdI s1 t1 s2 t2 s3 t3 x1 y1 x2 y2 x3 y3 then bif n1 != 0 then true else n2 != 0 else false))=dq) :
 rLineR_at s1 t1 f1 g1 s2 t2 f2 g2 s3 t3 f3 g3 x1 y1 x2 y2 x3 y3 (Zag dq):=by
 unfold rLineR_at
 obtain ⟨k1,n1,k3,n2,k5,H⟩:=H
 exact Zao (G:=Zad kp12 [(1,7,.call (vb (J.ZdI s1 t1 s2 t2 s3 t3 x1 y1 x2 y2 x3 y3)) none),(1,11,.call (vi n1) none),(1,16,.call (vi n2) none)] []) 1000 [] (asm:=[true,true,true,!(J.ZdI s1 t1 s2 t2 s3 t3 x1 y1 x2 y2 x3 y3==true&&true)||true,!((n1 != 0)==false&&(J.ZdI s1 t1 s2 t2 s3 t3 x1 y1 x2 y2 x3 y3==true&&true))||true]) (calls:=[⟨true,false,51,[AV.vec true 4 [(zNmH4 s1 f1 x1 t1 g1 y1),(zNmH5 s2 f2 x2 t2 g2 y2),ag [vb s3,AV.vec f3 1 (us x3),vb t3,AV.vec g3 1 (us y3)]]],[],vb (J.ZdI s1 t1 s2 t2 s3 t3 x1 y1 x2 y2 x3 y3),[]⟩,⟨J.ZdI s1 t1 s2 t2 s3 t3 x1 y1 x2 y2 x3 y3==true&&true&&true,false,20,[(zNmH4 s1 f1 x1 t1 g1 y1)],[],vi n1,[]⟩,⟨(n1 != 0)==false&&(J.ZdI s1 t1 s2 t2 s3 t3 x1 y1 x2 y2 x3 y3==true&&true)&&true,false,20,[(zNmH5 s2 f2 x2 t2 g2 y2)],[],vi n2,[]⟩]) (vb (bif J.ZdI s1 t1 s2 t2 s3 t3 x1 y1 x2 y2 x3 y3 then bif n1 != 0 then true else n2 != 0 else false)) (by kernel_rfl) (bc rfl (bc rfl (bc rfl (bc (Bool.or_true _) (bc (Bool.or_true _) b0))))) q0 (cc (fun _=>(@ev51 s1 t1 f1 g1 s2 t2 f2 g2 s3 t3 f3 g3 x1 y1 x2 y2 x3 y3 k1)) (cc (fun hc=>((k3 ((i_at (i_at (i_bt (Zas _)))).1 hc)):Ev M1 (Conf.pure 20 [(zNmH4 s1 f1 x1 t1 g1 y1)]) (vi n1) [])) (cc (fun hc=>((k5 ((i_at (i_and (i_bf i_ne) (i_at (i_bt (Zas _))))).1 hc)):Ev M1 (Conf.pure 20 [(zNmH5 s2 f2 x2 t2 g2 y2)]) (vi n2) [])) c0))) H
noncomputable abbrev zNmH6 (a:Rat) (b:Rat) (c:Rat):=J.ZdI (J.Zaa a.num) (J.Zaa (↑a.den:Int)) (J.Zaa b.num) (J.Zaa (↑b.den:Int)) (J.Zaa c.num) (J.Zaa (↑c.den:Int)) (J.Zab a.num) (J.Zab (↑a.den:Int)) (J.Zab b.num) (J.Zab (↑b.den:Int)) (J.Zab c.num) (J.Zab (↑c.den:Int))
theorem rCirc (f1 f2 f3 f4 f5 f6:Bool) (a b c:Rat)  (dq:AV) (H :
  (J.Zh7 (J.Zab a.num) (J.Zab (↑a.den:Int)) (J.Zab b.num) (J.Zab (↑b.den:Int)) (J.Zab c.num) (J.Zab (↑c.den:Int))) /\
  vb (bif J.ZdI (J.Zaa a.num) (J.Zaa (↑a.den:Int)) (J.Zaa b.num) (J.Zaa (↑b.den:Int)) (J.Zaa c.num) (J.Zaa (↑c.den:Int)) (J.Zab a.num) (J.Zab (↑a.den:Int)) (J.Zab b.num) (J.Zab (↑b.den:Int)) (J.Zab c.num) (J.Zab (↑c.den:Int)) then decide (J.sgnI c.num>0) else false)=dq) :
 rCirc_at f1 f2 f3 f4 f5 f6 a b c (Zag dq):=by
 unfold rCirc_at
 obtain ⟨k1,H⟩:=H
 exact Zao (G:=Zad kp16 [(1,7,.call (vb (zNmH6 a b c)) none),(1,11,.call (vi (J.sgnI c.num)) none)] []) 1000 [] (asm:=[true,true,true,!(J.ZdI (J.Zaa a.num) (J.Zaa (↑a.den:Int)) (J.Zaa b.num) (J.Zaa (↑b.den:Int)) (J.Zaa c.num) (J.Zaa (↑c.den:Int)) (J.Zab a.num) (J.Zab (↑a.den:Int)) (J.Zab b.num) (J.Zab (↑b.den:Int)) (J.Zab c.num) (J.Zab (↑c.den:Int))==true&&true)||true]) (calls:=[⟨true,false,51,[AV.vec true 4 [ratA f1 f2 a,ratA f3 f4 b,ratA f5 f6 c]],[],vb (zNmH6 a b c),[]⟩,⟨J.ZdI (J.Zaa a.num) (J.Zaa (↑a.den:Int)) (J.Zaa b.num) (J.Zaa (↑b.den:Int)) (J.Zaa c.num) (J.Zaa (↑c.den:Int)) (J.Zab a.num) (J.Zab (↑a.den:Int)) (J.Zab b.num) (J.Zab (↑b.den:Int)) (J.Zab c.num) (J.Zab (↑c.den:Int))==true&&true&&true,false,20,[ratA f5 f6 c],[],vi (J.sgnI c.num),[]⟩]) (vb (bif J.ZdI (J.Zaa a.num) (J.Zaa (↑a.den:Int)) (J.Zaa b.num) (J.Zaa (↑b.den:Int)) (J.Zaa c.num) (J.Zaa (↑c.den:Int)) (J.Zab a.num) (J.Zab (↑a.den:Int)) (J.Zab b.num) (J.Zab (↑b.den:Int)) (J.Zab c.num) (J.Zab (↑c.den:Int)) then decide (J.sgnI c.num>0) else false)) (by kernel_rfl) (bc rfl (bc rfl (bc rfl (bc (Bool.or_true _) b0)))) q0 (cc (fun _=>(@ev51 (J.Zaa a.num) (J.Zaa (↑a.den:Int)) f1 f2 (J.Zaa b.num) (J.Zaa (↑b.den:Int)) f3 f4 (J.Zaa c.num) (J.Zaa (↑c.den:Int)) f5 f6 (J.Zab a.num) (J.Zab (↑a.den:Int)) (J.Zab b.num) (J.Zab (↑b.den:Int)) (J.Zab c.num) (J.Zab (↑c.den:Int)) k1)) (cc (fun hc=>((@ev20 f5 f6 (c.num) ((↑c.den:Int))):Ev M1 (Conf.pure 20 [ratA f5 f6 c]) (vi (J.sgnI c.num)) [])) c0)) H
noncomputable abbrev zNmH7 (s3:Bool) (f3:Bool) (x3:List Int) (t3:Bool) (g3:Bool) (y3:List Int):=ag [vb s3,AV.vec f3 1 (us x3),vb t3,AV.vec g3 1 (us y3)]
theorem rCircR (s1 t1 f1 g1 s2 t2 f2 g2 s3 t3 f3 g3:Bool) (x1 y1 x2 y2 x3 y3:List Int)  (dq:AV) (H :
  (J.Zh7 x1 y1 x2 y2 x3 y3) /\
  ∃ (n1:Int),
  ((J.ZdI s1 t1 s2 t2 s3 t3 x1 y1 x2 y2 x3 y3=true)->(Ev M1 (Conf.pure 20 [ag [vb s3,AV.vec f3 1 (us x3),vb t3,AV.vec g3 1 (us y3)]]) (vi n1) [])) /\
  vb (bif J.ZdI s1 t1 s2 t2 s3 t3 x1 y1 x2 y2 x3 y3 then decide (n1>0) else false)=dq) :
 rCircR_at s1 t1 f1 g1 s2 t2 f2 g2 s3 t3 f3 g3 x1 y1 x2 y2 x3 y3 (Zag dq):=by
 unfold rCircR_at
 obtain ⟨k1,n1,k3,H⟩:=H
 exact Zao (G:=Zad kp16 [(1,7,.call (vb (J.ZdI s1 t1 s2 t2 s3 t3 x1 y1 x2 y2 x3 y3)) none),(1,11,.call (vi n1) none)] []) 1000 [] (asm:=[true,true,true,!(J.ZdI s1 t1 s2 t2 s3 t3 x1 y1 x2 y2 x3 y3==true&&true)||true]) (calls:=[⟨true,false,51,[AV.vec true 4 [ag [vb s1,AV.vec f1 1 (us x1),vb t1,AV.vec g1 1 (us y1)],ag [vb s2,AV.vec f2 1 (us x2),vb t2,AV.vec g2 1 (us y2)],(zNmH7 s3 f3 x3 t3 g3 y3)]],[],vb (J.ZdI s1 t1 s2 t2 s3 t3 x1 y1 x2 y2 x3 y3),[]⟩,⟨J.ZdI s1 t1 s2 t2 s3 t3 x1 y1 x2 y2 x3 y3==true&&true&&true,false,20,[(zNmH7 s3 f3 x3 t3 g3 y3)],[],vi n1,[]⟩]) (vb (bif J.ZdI s1 t1 s2 t2 s3 t3 x1 y1 x2 y2 x3 y3 then decide (n1>0) else false)) (by kernel_rfl) (bc rfl (bc rfl (bc rfl (bc (Bool.or_true _) b0)))) q0 (cc (fun _=>(@ev51 s1 t1 f1 g1 s2 t2 f2 g2 s3 t3 f3 g3 x1 y1 x2 y2 x3 y3 k1)) (cc (fun hc=>((k3 ((i_at (i_at (i_bt (Zas _)))).1 hc)):Ev M1 (Conf.pure 20 [(zNmH7 s3 f3 x3 t3 g3 y3)]) (vi n1) [])) c0)) H
end Go.Av

namespace Go.Av
open Go.Proofs
theorem ev47 (a b c:Int) (h:J.inI a/\J.inI b/\J.inI c):Ev M1 (.pure 47 [.int .i64 a,.int .i64 b,.int .i64 c]) (Zau (J.qi a) (J.qi b) (J.qi c)) []:=
 call47 (wLine _ _ _ _ ⟨h.1,h.2.1,h.2.2,.refl _⟩)
theorem ev48 (a b c:Int) (h:J.inI a/\J.inI b/\J.inI c):Ev M1 (.pure 48 [.int .i64 a,.int .i64 b,.int .i64 c]) (Zau (J.qi a) (J.qi b) (J.qi c)) []:=
 call48 (wCirc _ _ _ _ ⟨h.1,h.2.1,h.2.2,.refl _⟩)
theorem ev50 (a b:Int) (h:J.inI a/\J.inI b):Ev M1 (.pure 50 [.int .i64 a,.int .i64 b]) (pntF (J.qi a) (J.qi 0) (J.qi b) (J.qi 0) (J.qi 0)) []:=
 call50 (wAt _ _ _ ⟨h,.refl _⟩)
namespace J
noncomputable def smB (l:List Pnt) (e:Int) (m:List Pnt) (f:Int):Bool:=bif bif e==f then ZfF l else false then eqL l m else false
noncomputable def ZcU (s1 t1 s2 t2 s3 t3:Bool) (x1 y1 x2 y2 x3 y3:List Int):Bool:=ZdI s1 t1 s2 t2 s3 t3 x1 y1 x2 y2 x3 y3&&(decide (x1.length ≠ 0)||decide (x2.length ≠ 0))
noncomputable abbrev ZeA (a b c:Rat):Bool:=ZcU (Zaa a.num) (Zaa (a.den:Int)) (Zaa b.num) (Zaa (b.den:Int)) (Zaa c.num) (Zaa (c.den:Int)) (Zab a.num) (Zab (a.den:Int)) (Zab b.num) (Zab (b.den:Int)) (Zab c.num) (Zab (c.den:Int))
noncomputable def Zdp (s1 t1 s2 t2 s3 t3:Bool) (x1 y1 x2 y2 x3 y3:List Int):Bool:=ZdI s1 t1 s2 t2 s3 t3 x1 y1 x2 y2 x3 y3&&(decide (x3.length ≠ 0) && !s3)
noncomputable abbrev ZfT (a b c:Rat):Bool:=Zdp (Zaa a.num) (Zaa (a.den:Int)) (Zaa b.num) (Zaa (b.den:Int)) (Zaa c.num) (Zaa (c.den:Int)) (Zab a.num) (Zab (a.den:Int)) (Zab b.num) (Zab (b.den:Int)) (Zab c.num) (Zab (c.den:Int))
end J
theorem ev15 (u v:Bool) (l m:List Pnt) (e f:Int) (h:J.Ze6 l/\J.Ze6 m):Ev M1 (.pure 15 [.vec u 20 (l.map Pnt.a),.int .i64 e,.vec v 20 (m.map Pnt.a),.int .i64 f]) (.bool (J.smB l e m f)) []:=
 call15 (wSame _ _ _ _ _ _ _ ⟨fun _=>h.1,fun _=>h,rfl⟩)
theorem Zet {s1 t1 s2 t2 s3 t3:Bool} {x1 y1 x2 y2 x3 y3:List Int} (h:J.ZdI s1 t1 s2 t2 s3 t3 x1 y1 x2 y2 x3 y3=true):∃ a b c:Rat,J.ZdK a b c/\(s1=J.Zaa a.num/\x1=J.Zab a.num/\t1=J.Zaa (a.den:Int)/\y1=J.Zab (a.den:Int))/\(s2=J.Zaa b.num/\x2=J.Zab b.num/\t2=J.Zaa (b.den:Int)/\y2=J.Zab (b.den:Int))/\s3=J.Zaa c.num/\x3=J.Zab c.num/\t3=J.Zaa (c.den:Int)/\y3=J.Zab (c.den:Int):=by
 unfold J.ZdI at h
 rw [Bool.and_eq_true,Bool.and_eq_true] at h
 obtain ⟨a,ka,ea⟩:=Zft h.1.1
 obtain ⟨b,kb,eb⟩:=Zft h.1.2
 obtain ⟨c,kc,ec⟩:=Zft h.2
 exact ⟨a,b,c,⟨ka,kb,kc⟩,ea,eb,ec⟩
theorem Zem (v:Int):(J.Zab v).length ≠ 0 ↔ v ≠ 0:=by
 rw [ZaX]
 have:=ZaE (v:=v.natAbs)
 omega
theorem sg_ne (v:Int):(J.sgnI v != 0)=decide ((J.Zab v).length ≠ 0):=by
 by_cases k:v=0
 ·subst k;rw [decide_eq_false fun h=>(Zem 0).1 h rfl];rfl
 ·rw [decide_eq_true ((Zem v).2 k),bne_iff_ne]
  exact fun e=>k (ZbK.1 e)
theorem sg_gt (v:Int):decide (J.sgnI v>0)=(decide ((J.Zab v).length ≠ 0) && !J.Zaa v):=by
 by_cases k:v=0
 ·subst k;rw [decide_eq_false (show ¬(J.Zab 0).length ≠ 0 from fun h=>(Zem 0).1 h rfl)];rfl
 ·rw [decide_eq_true ((Zem v).2 k),Bool.true_and]
  by_cases n:v<0
  ·rw [Zak.2 n]
   refine decide_eq_false ?_
   unfold J.sgnI;rw [if_pos n];decide
  ·rw [show J.Zaa v=false from decide_eq_false n]
   refine decide_eq_true ?_
   unfold J.sgnI;rw [if_neg n,if_pos (by omega)];decide
theorem ev12 (s1 t1 f1 g1 s2 t2 f2 g2 s3 t3 f3 g3:Bool) (x1 y1 x2 y2 x3 y3:List Int) (h:J.Zh7 x1 y1 x2 y2 x3 y3):Ev M1 (.pure 12 [.agg [.bool s1,.vec f1 1 (x1.map (.int .u32)),.bool t1,.vec g1 1 (y1.map (.int .u32)),.bool s2,.vec f2 1 (x2.map (.int .u32)),.bool t2,.vec g2 1 (y2.map (.int .u32)),.bool s3,.vec f3 1 (x3.map (.int .u32)),.bool t3,.vec g3 1 (y3.map (.int .u32))]]) (.bool (J.ZcU s1 t1 s2 t2 s3 t3 x1 y1 x2 y2 x3 y3)) []:=by
 by_cases k:J.ZdI s1 t1 s2 t2 s3 t3 x1 y1 x2 y2 x3 y3=true
 ·obtain ⟨a,b,c,hk,⟨rfl,rfl,rfl,rfl⟩,⟨rfl,rfl,rfl,rfl⟩,rfl,rfl,rfl,rfl⟩:=Zet k
  refine call12 (rLine _ _ _ _ _ _ _ _ _ _ ⟨h,?_⟩)
  unfold J.ZcU
  rw [k,sg_ne,sg_ne]
  cases decide ((J.Zab a.num).length ≠ 0) <;> cases decide ((J.Zab b.num).length ≠ 0) <;> rfl
 ·refine call12 (rLineR _ _ _ _ _ _ _ _ _ _ _ _ _ _ _ _ _ _ _ ⟨h,0,fun j=>absurd j k,0,fun j=>absurd j.2 k,?_⟩)
  unfold J.ZcU
  rw [(Bool.not_eq_true _).mp k];rfl
theorem ev16 (s1 t1 f1 g1 s2 t2 f2 g2 s3 t3 f3 g3:Bool) (x1 y1 x2 y2 x3 y3:List Int) (h:J.Zh7 x1 y1 x2 y2 x3 y3):Ev M1 (.pure 16 [.agg [.bool s1,.vec f1 1 (x1.map (.int .u32)),.bool t1,.vec g1 1 (y1.map (.int .u32)),.bool s2,.vec f2 1 (x2.map (.int .u32)),.bool t2,.vec g2 1 (y2.map (.int .u32)),.bool s3,.vec f3 1 (x3.map (.int .u32)),.bool t3,.vec g3 1 (y3.map (.int .u32))]]) (.bool (J.Zdp s1 t1 s2 t2 s3 t3 x1 y1 x2 y2 x3 y3)) []:=by
 by_cases k:J.ZdI s1 t1 s2 t2 s3 t3 x1 y1 x2 y2 x3 y3=true
 ·obtain ⟨a,b,c,hk,⟨rfl,rfl,rfl,rfl⟩,⟨rfl,rfl,rfl,rfl⟩,rfl,rfl,rfl,rfl⟩:=Zet k
  refine call16 (rCirc _ _ _ _ _ _ _ _ _ _ ⟨h,?_⟩)
  unfold J.Zdp
  rw [k,sg_gt];rfl
 ·refine call16 (rCircR _ _ _ _ _ _ _ _ _ _ _ _ _ _ _ _ _ _ _ ⟨h,0,fun j=>absurd j k,?_⟩)
  unfold J.Zdp
  rw [(Bool.not_eq_true _).mp k];rfl
theorem lineB_few {s1 t1 s2 t2 s3 t3:Bool} {x1 y1 x2 y2 x3 y3:List Int} (h:J.ZcU s1 t1 s2 t2 s3 t3 x1 y1 x2 y2 x3 y3=true):J.ZdI s1 t1 s2 t2 s3 t3 x1 y1 x2 y2 x3 y3=true:=by
 unfold J.ZcU at h;rw [Bool.and_eq_true] at h;exact h.1
theorem circB_few {s1 t1 s2 t2 s3 t3:Bool} {x1 y1 x2 y2 x3 y3:List Int} (h:J.Zdp s1 t1 s2 t2 s3 t3 x1 y1 x2 y2 x3 y3=true):J.ZdI s1 t1 s2 t2 s3 t3 x1 y1 x2 y2 x3 y3=true:=by
 unfold J.Zdp at h;rw [Bool.and_eq_true] at h;exact h.1
theorem lineB_ne {a b c:Rat} (h:J.ZcU (J.Zaa a.num) (J.Zaa (a.den:Int)) (J.Zaa b.num) (J.Zaa (b.den:Int)) (J.Zaa c.num) (J.Zaa (c.den:Int)) (J.Zab a.num) (J.Zab (a.den:Int)) (J.Zab b.num) (J.Zab (b.den:Int)) (J.Zab c.num) (J.Zab (c.den:Int))=true):a ≠ 0\/b ≠ 0:=by
 unfold J.ZcU at h
 rw [Bool.and_eq_true,Bool.or_eq_true,decide_eq_true_iff,decide_eq_true_iff,Zem,Zem] at h
 exact h.2.imp (fun k e=>k (Rat.num_eq_zero.2 e)) fun k e=>k (Rat.num_eq_zero.2 e)
end Go.Av

namespace Go.Av
open Go.Proofs
set_option maxRecDepth 100000
def fi11:Fi:=⟨72,[.tmp 0]⟩
def kp11:List (Nat × List Nat):=[(0,[]),(1,[1,2]),(2,[1,2,3]),(3,[1,2,3,4]),(4,[1,2,3,4,5,6]),(5,[1,2,3,4,5,6,8]),(6,[0])]
def fi43:Fi:=⟨43,[.tmp 4,.tmp 5]⟩
def kp43:List (Nat × List Nat):=[(0,[2,3]),(1,[2,3,6]),(2,[4,5]),(3,[2,3,20]),(4,[4,5]),(5,[2,3,28]),(6,[4,5]),(7,[4,5])]
def wAwake_at  (Q:AV->Heap->Prop):Prop:=Wp M1 (.run fi11 (atC (cd Tryz.f11) []) [] []) Q
def mSup_at (p1 q1 p2 q2:Bool) (w1 w2:Nat->Bool) (l1 l2:Nat->List Int) (a b c x y z d e f u v r:Rat) (Q:AV->Heap->Prop):Prop:=Wp M1 (.run fi43 (atC (cd Tryz.f43) []) [(0,.agg (.bool p1::.bool (J.Zaa a.num)::.vec false 1 ((J.Zab a.num).map (.int .u32))::.bool (J.Zaa (a.den:Int))::.vec false 1 ((J.Zab (a.den:Int)).map (.int .u32))::.bool (J.Zaa b.num)::.vec false 1 ((J.Zab b.num).map (.int .u32))::.bool (J.Zaa (b.den:Int))::.vec false 1 ((J.Zab (b.den:Int)).map (.int .u32))::.bool (J.Zaa c.num)::.vec false 1 ((J.Zab c.num).map (.int .u32))::.bool (J.Zaa (c.den:Int))::.vec false 1 ((J.Zab (c.den:Int)).map (.int .u32))::.bool (J.Zaa x.num)::.vec false 1 ((J.Zab x.num).map (.int .u32))::.bool (J.Zaa (x.den:Int))::.vec false 1 ((J.Zab (x.den:Int)).map (.int .u32))::.bool (J.Zaa y.num)::.vec false 1 ((J.Zab y.num).map (.int .u32))::.bool (J.Zaa (y.den:Int))::.vec false 1 ((J.Zab (y.den:Int)).map (.int .u32))::.bool (J.Zaa z.num)::.vec false 1 ((J.Zab z.num).map (.int .u32))::.bool (J.Zaa (z.den:Int))::.vec false 1 ((J.Zab (z.den:Int)).map (.int .u32))::.bool q1::w20 w1 l1)),(1,.agg (.bool p2::.bool (J.Zaa d.num)::.vec false 1 ((J.Zab d.num).map (.int .u32))::.bool (J.Zaa (d.den:Int))::.vec false 1 ((J.Zab (d.den:Int)).map (.int .u32))::.bool (J.Zaa e.num)::.vec false 1 ((J.Zab e.num).map (.int .u32))::.bool (J.Zaa (e.den:Int))::.vec false 1 ((J.Zab (e.den:Int)).map (.int .u32))::.bool (J.Zaa f.num)::.vec false 1 ((J.Zab f.num).map (.int .u32))::.bool (J.Zaa (f.den:Int))::.vec false 1 ((J.Zab (f.den:Int)).map (.int .u32))::.bool (J.Zaa u.num)::.vec false 1 ((J.Zab u.num).map (.int .u32))::.bool (J.Zaa (u.den:Int))::.vec false 1 ((J.Zab (u.den:Int)).map (.int .u32))::.bool (J.Zaa v.num)::.vec false 1 ((J.Zab v.num).map (.int .u32))::.bool (J.Zaa (v.den:Int))::.vec false 1 ((J.Zab (v.den:Int)).map (.int .u32))::.bool (J.Zaa r.num)::.vec false 1 ((J.Zab r.num).map (.int .u32))::.bool (J.Zaa (r.den:Int))::.vec false 1 ((J.Zab (r.den:Int)).map (.int .u32))::.bool q2::w20 w2 l2))] []) Q
theorem call11 {args:List AV} {d:AV} (h:wc M1 fi11 Tryz.f11 args d):Ev M1 (.pure 11 args) d []:=pcl _ _ (by kernel_rfl) h
theorem call43 {args:List AV} {d:AV} (h:wc M1 fi43 Tryz.f43 args d):Ev M1 (.pure 43 args) d []:=pcl _ _ (by kernel_rfl) h
noncomputable abbrev Zhv:=(pntF (J.qi 1) (J.qi 0) (J.qi 1) (J.qi 0) (J.qi 0))
noncomputable abbrev zNmI2:=(pntF (J.qi (-1)) (J.qi 0) (J.qi 1) (J.qi 0) (J.qi 0))
noncomputable abbrev zNmI3:=(pntF (J.qi 2) (J.qi 0) (J.qi 1) (J.qi 0) (J.qi 0))
noncomputable abbrev zNmI4:=J.Zd4 (J.qi 1) (J.qi 1) (J.qi 3) (J.qi 1) (J.qi (-1)) (J.qi 1)
noncomputable abbrev zNmI5:=J.dep (J.qi 1) (J.qi 1) (J.qi 2) (J.qi 0) (J.qi 0) (J.qi 2)=0
noncomputable abbrev zNmI6:=J.Zbk (J.qi 0) (J.qi 1) (J.qi 1) (J.qi 0) (J.qi 0) (J.qi 2)
noncomputable abbrev zNmI7:=J.Zbk (J.qi 1) (J.qi 1) (J.qi 2) (J.qi 0) (J.qi 0) (J.qi 2)
noncomputable abbrev zNmI8:=(↑(J.Zea (J.qi 0) (J.qi 0) (J.qi 1) (J.qi 1) (J.qi 0) (J.qi 1)).length:Int)=2
noncomputable abbrev zNmI9 (b1:Bool):=bif J.Zdo (J.qi 1) (J.qi 1) (J.qi 3) (J.qi 1) (J.qi (-1)) (J.qi 1)==0 then b1 else false
noncomputable abbrev zNmI10:=J.Zdo (J.qi 1) (J.qi 1) (J.qi 3) (J.qi 1) (J.qi (-1)) (J.qi 1)=0
noncomputable abbrev zNmI11:=J.Zdr (J.qi 0) (J.qi 0) (J.qi 1) (J.qi 0) (J.qi 0) (J.qi 1)=10
noncomputable abbrev zNmI12:=J.Zdr (J.qi 0) (J.qi 0) (J.qi 1) (J.qi 1) (J.qi 0) (J.qi 1)=0
theorem wAwake   (dq:AV) (H :
  (J.inI 1/\J.inI 1/\J.inI 3) /\
  (J.inI 1/\J.inI (-1)/\J.inI 1) /\
  (J.Zey (J.qi 1) (J.qi 1) (J.qi 3)/\J.Zey (J.qi 1) (J.qi (-1)) (J.qi 1)) /\
  (J.inI 0/\J.inI 1/\J.inI 1) /\
  (J.inI 0/\J.inI 0/\J.inI 2) /\
  (J.Zga (J.qi 0) (J.qi 1) (J.qi 1)/\J.ZgK (J.qi 0) (J.qi 0)/\J.okT 30 (J.qi 2)) /\
  (J.inI 1/\J.inI 1/\J.inI 2) /\
  (J.Zga (J.qi 1) (J.qi 1) (J.qi 2)/\J.ZgK (J.qi 0) (J.qi 0)/\J.okT 30 (J.qi 2)) /\
  (J.inI 0/\J.inI 0/\J.inI 1) /\
  (J.inI 1/\J.inI 0/\J.inI 1) /\
  (J.ZdK (J.qi 0) (J.qi 0) (J.qi 1)/\J.ZdK (J.qi 1) (J.qi 0) (J.qi 1)) /\
  (J.ZdK (J.qi 0) (J.qi 0) (J.qi 1)/\J.ZdK (J.qi 0) (J.qi 0) (J.qi 1)) /\
  ((J.Zdo (J.qi 1) (J.qi 1) (J.qi 3) (J.qi 1) (J.qi (-1)) (J.qi 1)=0)->(J.inI 2/\J.inI 1)) /\
  ∃ (b1:Bool),
  ((J.Zdo (J.qi 1) (J.qi 1) (J.qi 3) (J.qi 1) (J.qi (-1)) (J.qi 1)=0)->(Ev M1 (Conf.pure 49 [AV.vec false 20 (List.map Pnt.a (J.Zd4 (J.qi 1) (J.qi 1) (J.qi 3) (J.qi 1) (J.qi (-1)) (J.qi 1))),AV.vec true 20 [(pntF (J.qi 2) (J.qi 0) (J.qi 1) (J.qi 0) (J.qi 0))]]) (vb b1) [])) /\
  (((J.Zdo (J.qi 1) (J.qi 1) (J.qi 3) (J.qi 1) (J.qi (-1)) (J.qi 1)=0)/\(b1=true))->(J.inI (-1)/\J.inI 1)) /\
  (((J.Zdo (J.qi 1) (J.qi 1) (J.qi 3) (J.qi 1) (J.qi (-1)) (J.qi 1)=0)/\(b1=true))->(J.inI 1/\J.inI 1)) /\
  ∃ (b2:Bool),
  (((J.Zdo (J.qi 1) (J.qi 1) (J.qi 3) (J.qi 1) (J.qi (-1)) (J.qi 1)=0)/\(b1=true))->(Ev M1 (Conf.pure 49 [AV.vec false 20 (List.map Pnt.a (J.Zbk (J.qi 0) (J.qi 1) (J.qi 1) (J.qi 0) (J.qi 0) (J.qi 2))),AV.vec true 20 [(pntF (J.qi (-1)) (J.qi 0) (J.qi 1) (J.qi 0) (J.qi 0)),(pntF (J.qi 1) (J.qi 0) (J.qi 1) (J.qi 0) (J.qi 0))]]) (vb b2) [])) /\
  ((((J.Zdo (J.qi 1) (J.qi 1) (J.qi 3) (J.qi 1) (J.qi (-1)) (J.qi 1)=0)/\(b1=true))/\(b2=true))->(J.inI 1/\J.inI 1)) /\
  ∃ (b3:Bool),
  ((((J.Zdo (J.qi 1) (J.qi 1) (J.qi 3) (J.qi 1) (J.qi (-1)) (J.qi 1)=0)/\(b1=true))/\(b2=true))->(Ev M1 (Conf.pure 49 [AV.vec false 20 (List.map Pnt.a (J.Zbk (J.qi 1) (J.qi 1) (J.qi 2) (J.qi 0) (J.qi 0) (J.qi 2))),AV.vec true 20 [(pntF (J.qi 1) (J.qi 0) (J.qi 1) (J.qi 0) (J.qi 0))]]) (vb b3) [])) /\
  vb (bif bif bif bif bif bif bif J.Zdo (J.qi 1) (J.qi 1) (J.qi 3) (J.qi 1) (J.qi (-1)) (J.qi 1)==0 then b1 else false then b2 else false then b3 else false then J.Zdr (J.qi 0) (J.qi 0) (J.qi 1) (J.qi 1) (J.qi 0) (J.qi 1)==0 else false then (↑(J.Zea (J.qi 0) (J.qi 0) (J.qi 1) (J.qi 1) (J.qi 0) (J.qi 1)).length:Int)==2 else false then J.Zdr (J.qi 0) (J.qi 0) (J.qi 1) (J.qi 0) (J.qi 0) (J.qi 1)==10 else false then decide (J.dep (J.qi 1) (J.qi 1) (J.qi 2) (J.qi 0) (J.qi 0) (J.qi 2)=0) else false)=dq) :
 wAwake_at  (Zag dq):=by
 unfold wAwake_at
 obtain ⟨k1,k2,k3,k4,k5,k6,k7,k8,k9,k10,k11,k12,k14,b1,k16,k18,k20,b2,k22,k24,b3,k26,H⟩:=H
 have w27:(List.map Pnt.a (J.Zea (J.qi 0) (J.qi 0) (J.qi 1) (J.qi 1) (J.qi 0) (J.qi 1))).length=(J.Zea (J.qi 0) (J.qi 0) (J.qi 1) (J.qi 1) (J.qi 0) (J.qi 1)).length:=List.length_map ..
 have i28:((bif bif bif bif bif bif J.Zdo (J.qi 1) (J.qi 1) (J.qi 3) (J.qi 1) (J.qi (-1)) (J.qi 1)==0 then b1 else false then b2 else false then b3 else false then J.Zdr (J.qi 0) (J.qi 0) (J.qi 1) (J.qi 1) (J.qi 0) (J.qi 1)==0 else false then (↑(List.map Pnt.a (J.Zea (J.qi 0) (J.qi 0) (J.qi 1) (J.qi 1) (J.qi 0) (J.qi 1))).length:Int)==2 else false then J.Zdr (J.qi 0) (J.qi 0) (J.qi 1) (J.qi 0) (J.qi 0) (J.qi 1)==10 else false)==true&&true&&true)=true ↔ ((((((zNmI10/\(b1=true))/\(b2=true))/\(b3=true))/\zNmI12)/\zNmI8)/\zNmI11):=(by (try rw [w27]);all_goals exact (i_at (i_at (i_bt (ZaG (ZaG (ZaG (ZaG (ZaG (ZaG i_eq (Zas _)) (Zas _)) (Zas _)) i_eq) i_eq) i_eq)))))
 have i29:((bif bif bif bif bif bif J.Zdo (J.qi 1) (J.qi 1) (J.qi 3) (J.qi 1) (J.qi (-1)) (J.qi 1)==0 then b1 else false then b2 else false then b3 else false then J.Zdr (J.qi 0) (J.qi 0) (J.qi 1) (J.qi 1) (J.qi 0) (J.qi 1)==0 else false then (↑(List.map Pnt.a (J.Zea (J.qi 0) (J.qi 0) (J.qi 1) (J.qi 1) (J.qi 0) (J.qi 1))).length:Int)==2 else false then J.Zdr (J.qi 0) (J.qi 0) (J.qi 1) (J.qi 0) (J.qi 0) (J.qi 1)==10 else false)==true&&true&&true)=true ↔ ((((((zNmI10/\(b1=true))/\(b2=true))/\(b3=true))/\zNmI12)/\zNmI8)/\zNmI11):=(by (try rw [w27]);all_goals exact (i_at (i_at (i_bt (ZaG (ZaG (ZaG (ZaG (ZaG (ZaG i_eq (Zas _)) (Zas _)) (Zas _)) i_eq) i_eq) i_eq)))))
 have i30:((bif bif bif bif bif bif J.Zdo (J.qi 1) (J.qi 1) (J.qi 3) (J.qi 1) (J.qi (-1)) (J.qi 1)==0 then b1 else false then b2 else false then b3 else false then J.Zdr (J.qi 0) (J.qi 0) (J.qi 1) (J.qi 1) (J.qi 0) (J.qi 1)==0 else false then (↑(List.map Pnt.a (J.Zea (J.qi 0) (J.qi 0) (J.qi 1) (J.qi 1) (J.qi 0) (J.qi 1))).length:Int)==2 else false then J.Zdr (J.qi 0) (J.qi 0) (J.qi 1) (J.qi 0) (J.qi 0) (J.qi 1)==10 else false)==true&&true&&true)=true ↔ ((((((zNmI10/\(b1=true))/\(b2=true))/\(b3=true))/\zNmI12)/\zNmI8)/\zNmI11):=(by (try rw [w27]);all_goals exact (i_at (i_at (i_bt (ZaG (ZaG (ZaG (ZaG (ZaG (ZaG i_eq (Zas _)) (Zas _)) (Zas _)) i_eq) i_eq) i_eq)))))
 exact Zao (G:=Zad kp11 [(1,0,.call (Zau (J.qi 1) (J.qi 1) (J.qi 3)) none),(1,1,.call (Zau (J.qi 1) (J.qi (-1)) (J.qi 1)) none),(1,2,.call (tu [AV.vec false 20 (List.map Pnt.a zNmI4),vi (J.Zdo (J.qi 1) (J.qi 1) (J.qi 3) (J.qi 1) (J.qi (-1)) (J.qi 1))]) none),(2,0,.call (Zau (J.qi 0) (J.qi 1) (J.qi 1)) none),(2,1,.call (Zau (J.qi 0) (J.qi 0) (J.qi 2)) none),(2,2,.call (AV.vec false 20 (List.map Pnt.a zNmI6)) none),(3,0,.call (Zau (J.qi 1) (J.qi 1) (J.qi 2)) none),(3,1,.call (Zau (J.qi 0) (J.qi 0) (J.qi 2)) none),(3,2,.call (AV.vec false 20 (List.map Pnt.a zNmI7)) none),(4,0,.call (Zau (J.qi 0) (J.qi 0) (J.qi 1)) none),(4,1,.call (Zau (J.qi 1) (J.qi 0) (J.qi 1)) none),(4,2,.call (tu [AV.vec false 20 (List.map Pnt.a (J.Zea (J.qi 0) (J.qi 0) (J.qi 1) (J.qi 1) (J.qi 0) (J.qi 1))),vi (J.Zdr (J.qi 0) (J.qi 0) (J.qi 1) (J.qi 1) (J.qi 0) (J.qi 1))]) none),(5,0,.call (Zau (J.qi 0) (J.qi 0) (J.qi 1)) none),(5,1,.call (Zau (J.qi 0) (J.qi 0) (J.qi 1)) none),(5,2,.call (tu [AV.vec false 20 (List.map Pnt.a (J.Zea (J.qi 0) (J.qi 0) (J.qi 1) (J.qi 0) (J.qi 0) (J.qi 1))),vi (J.Zdr (J.qi 0) (J.qi 0) (J.qi 1) (J.qi 0) (J.qi 0) (J.qi 1))]) none),(6,4,.call zNmI3 none),(6,6,.call (vb b1) none),(6,10,.call zNmI2 none),(6,11,.call Zhv none),(6,13,.call (vb b2) none),(6,17,.call Zhv none),(6,19,.call (vb b3) none),(6,35,.call (Zau (J.qi 1) (J.qi 1) (J.qi 2)) none),(6,36,.call (Zau (J.qi 0) (J.qi 0) (J.qi 2)) none),(6,37,.call (vb (decide zNmI5)) none)] []) 1000 [] (calls:=[⟨true,false,47,[vi 1,vi 1,vi 3],[],Zau (J.qi 1) (J.qi 1) (J.qi 3),[]⟩,⟨true,false,47,[vi 1,vi (-1),vi 1],[],Zau (J.qi 1) (J.qi (-1)) (J.qi 1),[]⟩,⟨true,false,13,[Zau (J.qi 1) (J.qi 1) (J.qi 3),Zau (J.qi 1) (J.qi (-1)) (J.qi 1)],[],tu [AV.vec false 20 (List.map Pnt.a zNmI4),vi (J.Zdo (J.qi 1) (J.qi 1) (J.qi 3) (J.qi 1) (J.qi (-1)) (J.qi 1))],[]⟩,⟨true,false,47,[vi 0,vi 1,vi 1],[],Zau (J.qi 0) (J.qi 1) (J.qi 1),[]⟩,⟨true,false,48,[vi 0,vi 0,vi 2],[],Zau (J.qi 0) (J.qi 0) (J.qi 2),[]⟩,⟨true,false,17,[Zau (J.qi 0) (J.qi 1) (J.qi 1),Zau (J.qi 0) (J.qi 0) (J.qi 2)],[],AV.vec false 20 (List.map Pnt.a zNmI6),[]⟩,⟨true,false,47,[vi 1,vi 1,vi 2],[],Zau (J.qi 1) (J.qi 1) (J.qi 2),[]⟩,⟨true,false,48,[vi 0,vi 0,vi 2],[],Zau (J.qi 0) (J.qi 0) (J.qi 2),[]⟩,⟨true,false,17,[Zau (J.qi 1) (J.qi 1) (J.qi 2),Zau (J.qi 0) (J.qi 0) (J.qi 2)],[],AV.vec false 20 (List.map Pnt.a zNmI7),[]⟩,⟨true,false,48,[vi 0,vi 0,vi 1],[],Zau (J.qi 0) (J.qi 0) (J.qi 1),[]⟩,⟨true,false,48,[vi 1,vi 0,vi 1],[],Zau (J.qi 1) (J.qi 0) (J.qi 1),[]⟩,⟨true,false,22,[Zau (J.qi 0) (J.qi 0) (J.qi 1),Zau (J.qi 1) (J.qi 0) (J.qi 1)],[],tu [AV.vec false 20 (List.map Pnt.a (J.Zea (J.qi 0) (J.qi 0) (J.qi 1) (J.qi 1) (J.qi 0) (J.qi 1))),vi (J.Zdr (J.qi 0) (J.qi 0) (J.qi 1) (J.qi 1) (J.qi 0) (J.qi 1))],[]⟩,⟨true,false,48,[vi 0,vi 0,vi 1],[],Zau (J.qi 0) (J.qi 0) (J.qi 1),[]⟩,⟨true,false,48,[vi 0,vi 0,vi 1],[],Zau (J.qi 0) (J.qi 0) (J.qi 1),[]⟩,⟨true,false,22,[Zau (J.qi 0) (J.qi 0) (J.qi 1),Zau (J.qi 0) (J.qi 0) (J.qi 1)],[],tu [AV.vec false 20 (List.map Pnt.a (J.Zea (J.qi 0) (J.qi 0) (J.qi 1) (J.qi 0) (J.qi 0) (J.qi 1))),vi (J.Zdr (J.qi 0) (J.qi 0) (J.qi 1) (J.qi 0) (J.qi 0) (J.qi 1))],[]⟩,⟨(J.Zdo (J.qi 1) (J.qi 1) (J.qi 3) (J.qi 1) (J.qi (-1)) (J.qi 1)==0)==true&&true&&true,false,50,[vi 2,vi 1],[],zNmI3,[]⟩,⟨(J.Zdo (J.qi 1) (J.qi 1) (J.qi 3) (J.qi 1) (J.qi (-1)) (J.qi 1)==0)==true&&true&&true,false,49,[AV.vec false 20 (List.map Pnt.a zNmI4),AV.vec true 20 [zNmI3]],[],vb b1,[]⟩,⟨(zNmI9 b1)==true&&true&&true,false,50,[vi (-1),vi 1],[],zNmI2,[]⟩,⟨(zNmI9 b1)==true&&true&&true,false,50,[vi 1,vi 1],[],Zhv,[]⟩,⟨(zNmI9 b1)==true&&true&&true,false,49,[AV.vec false 20 (List.map Pnt.a zNmI6),AV.vec true 20 [zNmI2,Zhv]],[],vb b2,[]⟩,⟨(bif bif J.Zdo (J.qi 1) (J.qi 1) (J.qi 3) (J.qi 1) (J.qi (-1)) (J.qi 1)==0 then b1 else false then b2 else false)==true&&true&&true,false,50,[vi 1,vi 1],[],Zhv,[]⟩,⟨(bif bif J.Zdo (J.qi 1) (J.qi 1) (J.qi 3) (J.qi 1) (J.qi (-1)) (J.qi 1)==0 then b1 else false then b2 else false)==true&&true&&true,false,49,[AV.vec false 20 (List.map Pnt.a zNmI7),AV.vec true 20 [Zhv]],[],vb b3,[]⟩,⟨(bif bif bif bif bif bif J.Zdo (J.qi 1) (J.qi 1) (J.qi 3) (J.qi 1) (J.qi (-1)) (J.qi 1)==0 then b1 else false then b2 else false then b3 else false then J.Zdr (J.qi 0) (J.qi 0) (J.qi 1) (J.qi 1) (J.qi 0) (J.qi 1)==0 else false then (↑(List.map Pnt.a (J.Zea (J.qi 0) (J.qi 0) (J.qi 1) (J.qi 1) (J.qi 0) (J.qi 1))).length:Int)==2 else false then J.Zdr (J.qi 0) (J.qi 0) (J.qi 1) (J.qi 0) (J.qi 0) (J.qi 1)==10 else false)==true&&true&&true,false,47,[vi 1,vi 1,vi 2],[],Zau (J.qi 1) (J.qi 1) (J.qi 2),[]⟩,⟨(bif bif bif bif bif bif J.Zdo (J.qi 1) (J.qi 1) (J.qi 3) (J.qi 1) (J.qi (-1)) (J.qi 1)==0 then b1 else false then b2 else false then b3 else false then J.Zdr (J.qi 0) (J.qi 0) (J.qi 1) (J.qi 1) (J.qi 0) (J.qi 1)==0 else false then (↑(List.map Pnt.a (J.Zea (J.qi 0) (J.qi 0) (J.qi 1) (J.qi 1) (J.qi 0) (J.qi 1))).length:Int)==2 else false then J.Zdr (J.qi 0) (J.qi 0) (J.qi 1) (J.qi 0) (J.qi 0) (J.qi 1)==10 else false)==true&&true&&true,false,48,[vi 0,vi 0,vi 2],[],Zau (J.qi 0) (J.qi 0) (J.qi 2),[]⟩,⟨(bif bif bif bif bif bif J.Zdo (J.qi 1) (J.qi 1) (J.qi 3) (J.qi 1) (J.qi (-1)) (J.qi 1)==0 then b1 else false then b2 else false then b3 else false then J.Zdr (J.qi 0) (J.qi 0) (J.qi 1) (J.qi 1) (J.qi 0) (J.qi 1)==0 else false then (↑(List.map Pnt.a (J.Zea (J.qi 0) (J.qi 0) (J.qi 1) (J.qi 1) (J.qi 0) (J.qi 1))).length:Int)==2 else false then J.Zdr (J.qi 0) (J.qi 0) (J.qi 1) (J.qi 0) (J.qi 0) (J.qi 1)==10 else false)==true&&true&&true,false,19,[Zau (J.qi 1) (J.qi 1) (J.qi 2),Zau (J.qi 0) (J.qi 0) (J.qi 2)],[],vb (decide zNmI5),[]⟩]) (vb (bif bif bif bif bif bif bif J.Zdo (J.qi 1) (J.qi 1) (J.qi 3) (J.qi 1) (J.qi (-1)) (J.qi 1)==0 then b1 else false then b2 else false then b3 else false then J.Zdr (J.qi 0) (J.qi 0) (J.qi 1) (J.qi 1) (J.qi 0) (J.qi 1)==0 else false then (↑(List.map Pnt.a (J.Zea (J.qi 0) (J.qi 0) (J.qi 1) (J.qi 1) (J.qi 0) (J.qi 1))).length:Int)==2 else false then J.Zdr (J.qi 0) (J.qi 0) (J.qi 1) (J.qi 0) (J.qi 0) (J.qi 1)==10 else false then decide zNmI5 else false)) (by kernel_rfl) b0 q0 (cc (fun _=>(@ev47 1 1 3 k1)) (cc (fun _=>(@ev47 1 (-1) 1 k2)) (cc (fun _=>(@ev13 false false false false false false false false false false false false (J.qi 1) (J.qi 1) (J.qi 3) (J.qi 1) (J.qi (-1)) (J.qi 1) k3)) (cc (fun _=>(@ev47 0 1 1 k4)) (cc (fun _=>(@ev48 0 0 2 k5)) (cc (fun _=>(@ev17 false false false false false false false false false false false false (J.qi 0) (J.qi 1) (J.qi 1) (J.qi 0) (J.qi 0) (J.qi 2) k6)) (cc (fun _=>(@ev47 1 1 2 k7)) (cc (fun _=>(@ev48 0 0 2 k5)) (cc (fun _=>(@ev17 false false false false false false false false false false false false (J.qi 1) (J.qi 1) (J.qi 2) (J.qi 0) (J.qi 0) (J.qi 2) k8)) (cc (fun _=>(@ev48 0 0 1 k9)) (cc (fun _=>(@ev48 1 0 1 k10)) (cc (fun _=>(@ev22 false false false false false false false false false false false false (J.qi 0) (J.qi 0) (J.qi 1) (J.qi 1) (J.qi 0) (J.qi 1) k11)) (cc (fun _=>(@ev48 0 0 1 k9)) (cc (fun _=>(@ev48 0 0 1 k9)) (cc (fun _=>(@ev22 false false false false false false false false false false false false (J.qi 0) (J.qi 0) (J.qi 1) (J.qi 0) (J.qi 0) (J.qi 1) k12)) (cc (fun hc=>((@ev50 2 1 (k14 ((i_at (i_at (i_bt i_eq))).1 hc))):Ev M1 (Conf.pure 50 [vi 2,vi 1]) zNmI3 [])) (cc (fun hc=>((k16 ((i_at (i_at (i_bt i_eq))).1 hc)):Ev M1 (Conf.pure 49 [AV.vec false 20 (List.map Pnt.a zNmI4),AV.vec true 20 [zNmI3]]) (vb b1) [])) (cc (fun hc=>((@ev50 (-1) 1 (k18 ((i_at (i_at (i_bt (ZaG i_eq (Zas _))))).1 hc))):Ev M1 (Conf.pure 50 [vi (-1),vi 1]) zNmI2 [])) (cc (fun hc=>((@ev50 1 1 (k20 ((i_at (i_at (i_bt (ZaG i_eq (Zas _))))).1 hc))):Ev M1 (Conf.pure 50 [vi 1,vi 1]) Zhv [])) (cc (fun hc=>((k22 ((i_at (i_at (i_bt (ZaG i_eq (Zas _))))).1 hc)):Ev M1 (Conf.pure 49 [AV.vec false 20 (List.map Pnt.a zNmI6),AV.vec true 20 [zNmI2,Zhv]]) (vb b2) [])) (cc (fun hc=>((@ev50 1 1 (k24 ((i_at (i_at (i_bt (ZaG (ZaG i_eq (Zas _)) (Zas _))))).1 hc))):Ev M1 (Conf.pure 50 [vi 1,vi 1]) Zhv [])) (cc (fun hc=>((k26 ((i_at (i_at (i_bt (ZaG (ZaG i_eq (Zas _)) (Zas _))))).1 hc)):Ev M1 (Conf.pure 49 [AV.vec false 20 (List.map Pnt.a zNmI7),AV.vec true 20 [Zhv]]) (vb b3) [])) (cc (fun hc=>((@ev47 1 1 2 k7):Ev M1 (Conf.pure 47 [vi 1,vi 1,vi 2]) (Zau (J.qi 1) (J.qi 1) (J.qi 2)) [])) (cc (fun hc=>((@ev48 0 0 2 k5):Ev M1 (Conf.pure 48 [vi 0,vi 0,vi 2]) (Zau (J.qi 0) (J.qi 0) (J.qi 2)) [])) (cc (fun hc=>((@ev19 false false false false false false false false false false false false (J.qi 1) (J.qi 1) (J.qi 2) (J.qi 0) (J.qi 0) (J.qi 2) k8):Ev M1 (Conf.pure 19 [Zau (J.qi 1) (J.qi 1) (J.qi 2),Zau (J.qi 0) (J.qi 0) (J.qi 2)]) (vb (decide zNmI5)) [])) c0))))))))))))))))))))))))) (by (try rw [w27]);all_goals exact H)
theorem mSup (p1 q1 p2 q2:Bool) (w1 w2:Nat->Bool) (l1 l2:Nat->List Int) (a b c x y z d e f u v r:Rat)  (dq:AV) (H :
  (((p1=true)/\(p2=true))->(J.ZdK x y z/\J.ZdK u v r) /\
   Weak (tu [AV.vec false 20 (List.map Pnt.a (J.Zea x y z u v r)),vi (J.Zdr x y z u v r)]) dq) /\
  (¬((p1=true)/\(p2=true))->((p1=true)->(J.Zga d e f/\J.ZgK x y/\J.okT 30 z) /\
    Weak (tu [AV.vec false 20 (List.map Pnt.a (J.Zbk d e f x y z)),vi 0]) dq) /\
   (¬(p1=true)->((p2=true)->(J.Zga a b c/\J.ZgK u v/\J.okT 30 r) /\
     Weak (tu [AV.vec false 20 (List.map Pnt.a (J.Zbk a b c u v r)),vi 0]) dq) /\
    (¬(p2=true)->(J.Zey a b c/\J.Zey d e f) /\
     Weak (tu [AV.vec false 20 (List.map Pnt.a (J.Zd4 a b c d e f)),vi (J.Zdo a b c d e f)]) dq)))) :
 mSup_at p1 q1 p2 q2 w1 w2 l1 l2 a b c x y z d e f u v r (Zag dq):=by
 unfold mSup_at
 rcases xq H with ⟨d2,H⟩|⟨d2,H⟩
 ·obtain ⟨k3,H⟩:=H
  exact Zah (G:=Zad kp43 [(2,4,.call (tu [AV.vec false 20 (List.map Pnt.a (J.Zea x y z u v r)),vi (J.Zdr x y z u v r)]) none)] []) 1000 [true] (asm:=[true,!(p1==true&&true)||true,(bif p1 then p2 else false)==true,true,true]) (tu [AV.vec false 20 (List.map Pnt.a (J.Zea x y z u v r)),vi (J.Zdr x y z u v r)]) (by kernel_rfl) (bc rfl (bc (Bool.or_true _) (bc (Zaq ((ZaG (Zas _) (Zas _)).2 d2)) (bc rfl (bc rfl b0))))) q0 (ce (@ev22 false false false false false false false false false false false false x y z u v r k3) c0) H
 ·rcases xq H with ⟨d5,H⟩|⟨d5,H⟩
  ·obtain ⟨k6,H⟩:=H
   exact Zah (G:=Zad kp43 [(4,4,.call (AV.vec false 20 (List.map Pnt.a (J.Zbk d e f x y z))) none)] []) 1000 [false,true] (asm:=[true,!(p1==true&&true)||true,(bif p1 then p2 else false)==false,true,(p1)==true,true,true]) (tu [AV.vec false 20 (List.map Pnt.a (J.Zbk d e f x y z)),vi 0]) (by kernel_rfl) (bc rfl (bc (Bool.or_true _) (bc (Zam (fun h=>d2 ((ZaG (Zas _) (Zas _)).1 h))) (bc rfl (bc (Zaq ((Zas _).2 d5)) (bc rfl (bc rfl b0))))))) q0 (ce (@ev17 false false false false false false false false false false false false d e f x y z k6) c0) H
  ·rcases xq H with ⟨d8,H⟩|⟨d8,H⟩
   ·obtain ⟨k9,H⟩:=H
    exact Zah (G:=Zad kp43 [(6,4,.call (AV.vec false 20 (List.map Pnt.a (J.Zbk a b c u v r))) none)] []) 1000 [false,false,true] (asm:=[true,!(p1==true&&true)||true,(bif p1 then p2 else false)==false,true,(p1)==false,true,(p2)==true,true,true]) (tu [AV.vec false 20 (List.map Pnt.a (J.Zbk a b c u v r)),vi 0]) (by kernel_rfl) (bc rfl (bc (Bool.or_true _) (bc (Zam (fun h=>d2 ((ZaG (Zas _) (Zas _)).1 h))) (bc rfl (bc (Zam (fun h=>d5 ((Zas _).1 h))) (bc rfl (bc (Zaq ((Zas _).2 d8)) (bc rfl (bc rfl b0))))))))) q0 (ce (@ev17 false false false false false false false false false false false false a b c u v r k9) c0) H
   ·obtain ⟨k10,H⟩:=H
    exact Zah (G:=Zad kp43 [(7,4,.call (tu [AV.vec false 20 (List.map Pnt.a (J.Zd4 a b c d e f)),vi (J.Zdo a b c d e f)]) none)] []) 1000 [false,false,false] (asm:=[true,!(p1==true&&true)||true,(bif p1 then p2 else false)==false,true,(p1)==false,true,(p2)==false,true,true]) (tu [AV.vec false 20 (List.map Pnt.a (J.Zd4 a b c d e f)),vi (J.Zdo a b c d e f)]) (by kernel_rfl) (bc rfl (bc (Bool.or_true _) (bc (Zam (fun h=>d2 ((ZaG (Zas _) (Zas _)).1 h))) (bc rfl (bc (Zam (fun h=>d5 ((Zas _).1 h))) (bc rfl (bc (Zam (fun h=>d8 ((Zas _).1 h))) (bc rfl (bc rfl b0))))))))) q0 (ce (@ev13 false false false false false false false false false false false false a b c d e f k10) c0) H
end Go.Av

namespace Go.Av
open Go.Proofs
theorem okT_sm {n:Int} (h:n.natAbs<1000000000):J.okT 1 (J.qi n):=by
 rw [Ze2]
 have e:(1000000000:Nat) ^ 1=1000000000:=rfl
 refine ⟨?_,?_⟩
 ·rw [Rat.num_intCast]
  refine Zaz.1 ?_
  unfold J.fits;omega
 ·rw [Rat.den_intCast]
  refine Zaz.1 ?_
  unfold J.fits;omega
theorem sm_30 {n:Int} (h:n.natAbs<1000000000):J.okT 30 (J.qi n):=Zar (okT_sm h) (by omega)
theorem sm_2 {n:Int} (h:n.natAbs<1000000000):J.okT 2 (J.qi n):=Zar (okT_sm h) (by omega)
theorem okP5_at {x y:Rat} {k:Nat} (hx:J.okT k x) (hy:J.okT k y) (hk:k<=2200):J.ZdG (J.atP x y):=⟨⟨Zar hx hk,Zar ZbO (by omega)⟩,⟨Zar hy hk,Zar ZbO (by omega)⟩,Zar ZbO (by omega)⟩
def J.okP4 (p:Pnt):Prop:=(J.okT 2100 p.ax/\J.okT 200 p.bx)/\(J.okT 2100 p.ay/\J.okT 200 p.by_)/\J.okT 1700 p.c
theorem okP5_4 {p:Pnt} (h:J.okP4 p):J.ZdG p:=⟨⟨Zar h.1.1 (by omega),h.1.2⟩,⟨Zar h.2.1.1 (by omega),h.2.1.2⟩,h.2.2⟩
theorem okP4_at {x y:Rat} (hx:J.okT 350 x) (hy:J.okT 350 y):J.okP4 (J.atP x y):=⟨⟨Zar hx (by omega),Zar ZbO (by omega)⟩,⟨Zar hy (by omega),Zar ZbO (by omega)⟩,Zar ZbO (by omega)⟩
theorem okP4_surd {x u y v k:Rat} (h:J.okSr x u y v k):J.okP4 (J.Zdd x u y v k):=by
 obtain ⟨⟨h1,h2⟩,⟨h3,h4⟩,h5,h6⟩:=h
 by_cases s:J.rsq k
 ·rw [show J.Zdd x u y v k=J.atP (x+u*J.rt k) (y+v*J.rt k) from if_pos s]
  have a1:=ZaC h1 (Zaf h2 (ZgL s h5))
  have a2:=ZaC h3 (Zaf h4 (ZgL s h5))
  exact ⟨⟨Zar a1 (by omega),Zar ZbO (by omega)⟩,⟨Zar a2 (by omega),Zar ZbO (by omega)⟩,Zar ZbO (by omega)⟩
 ·rw [show J.Zdd x u y v k=⟨x,u,y,v,if u=0/\v=0 then J.qi 0 else k⟩ from if_neg s]
  refine ⟨⟨Zar h1 (by omega),Zar h2 (by omega)⟩,⟨Zar h3 (by omega),Zar h4 (by omega)⟩,?_⟩
  show J.okT 1700 (if u=0/\v=0 then J.qi 0 else k)
  split
  ·exact Zar ZbO (by omega)
  ·exact h5
theorem okT_d {a b c:Rat} (h:J.Zga a b c):J.okT 30 (J.dU a b)/\J.okT 30 (J.dV a b):=by
 obtain ⟨⟨ha,hb,hc⟩,_⟩:=h
 unfold J.dU J.dV
 cases J.dn a b with
 | true=>exact ⟨Zbe hb,Zbe (Zbe ha)⟩
 | false=>exact ⟨hb,Zbe ha⟩
theorem lineC_ok {a b c x y q:Rat} (h:J.Zga a b c) (hv:J.ZgK x y) (hq:J.okT 30 q):(∀ p ∈ J.Zbk a b c x y q,J.okP4 p)/\(J.Zbk a b c x y q).length<=2:=by
 have hf:=okT_f h hv
 have hd:=okT_dep h hv hq
 have du:=okT_d h
 rcases tri (J.dep a b c x y q) with k | k | k
 ·rw [lineC_0 k];exact ⟨fun p hp=>(nomatch hp),by simp⟩
 ·rw [ZgZ k]
  exact ⟨fun p hp=>by rw [List.mem_singleton.1 hp];exact okP4_at hf.1 hf.2,by simp⟩
 ·rw [ZeM k]
  refine ⟨fun p hp => ?_,by simp⟩
  simp only [List.mem_cons,List.not_mem_nil,or_false] at hp
  rcases hp with rfl | rfl
  ·exact okP4_surd ⟨⟨hf.1,Zbe du.1⟩,⟨hf.2,Zbe du.2⟩,hd,k⟩
  ·exact okP4_surd ⟨⟨hf.1,du.1⟩,⟨hf.2,du.2⟩,hd,k⟩
theorem lineR_ok {a b c x y q:Rat} (h:J.Zga a b c) (hv:J.ZgK x y) (hq:J.okT 30 q):(∀ p ∈ J.Zfb a b c x y q,J.ZdG p)/\(J.Zfb a b c x y q).length<=2:=by
 have hf:=okT_f h hv
 have r1:=okP5_rP h hv hq true
 have r2:=okP5_rP h hv hq false
 rcases tri (J.room a b c x y q) with k | k | k
 ·rw [lineR_0 k];exact ⟨fun p hp=>(nomatch hp),by simp⟩
 ·rw [lineR_1 k]
  exact ⟨fun p hp=>by rw [List.mem_singleton.1 hp];exact okP5_at hf.1 hf.2 (by omega),by simp⟩
 ·rw [lineR_2 k]
  split
  ·refine ⟨fun p hp => ?_,by simp⟩
   simp only [List.mem_cons,List.not_mem_nil,or_false] at hp
   rcases hp with rfl | rfl
   ·exact r2
   ·exact r1
  ·refine ⟨fun p hp => ?_,by simp⟩
   simp only [List.mem_cons,List.not_mem_nil,or_false] at hp
   rcases hp with rfl | rfl
   ·exact r1
   ·exact r2
theorem pl_C {a b c x y q:Rat} (h:J.Zga a b c) (hv:J.ZgK x y) (hq:J.okT 30 q):J.Ze6 (J.Zbk a b c x y q):=⟨fun p hp=>okP5_4 ((lineC_ok h hv hq).1 p hp),by have:=(lineC_ok h hv hq).2;omega⟩
theorem pl_R {a b c x y q:Rat} (h:J.Zga a b c) (hv:J.ZgK x y) (hq:J.okT 30 q):J.Ze6 (J.Zfb a b c x y q):=⟨(lineR_ok h hv hq).1,by have:=(lineR_ok h hv hq).2;omega⟩
theorem pl_nil:J.Ze6 []:=⟨fun p hp=>(nomatch hp),by simp⟩
theorem pl_cir {a b c x y z:Rat} (h:J.ZdK a b c) (k:J.ZdK x y z):J.Ze6 (J.Zea a b c x y z)/\J.Ze6 (J.cirR a b c x y z):=by
 unfold J.Zea J.cirR
 have t:=ZbX h
 by_cases n:a=x/\b=y
 ·rw [if_pos n,if_pos n];exact ⟨pl_nil,pl_nil⟩
 ·rw [if_neg n,if_neg n]
  exact ⟨pl_C (rd_ln h k n) ⟨t.1,t.2.1⟩ t.2.2,pl_R (rd_ln h k n) ⟨t.1,t.2.1⟩ t.2.2⟩
theorem pl_lin {a b c x y z:Rat} (h:J.ZdK a b c) (k:J.ZdK x y z):J.Ze6 (J.Zd4 a b c x y z):=by
 obtain ⟨ha,hb,hc⟩:=h
 obtain ⟨hx,hy,hz⟩:=k
 unfold J.Zd4
 by_cases n:a*y-x*b=0
 ·rw [if_pos n];exact pl_nil
 ·rw [if_neg n]
  have ne:(a*y-x*b).num ≠ 0:=fun e=>n (Rat.num_eq_zero.1 e)
  refine ⟨fun p hp => ?_,by simp⟩
  rw [List.mem_singleton.1 hp]
  exact okP5_at (k:=100) (Zar (k:=18) (Zca (Zax (Zaf hc hy) (Zaf hz hb)) (Zax (Zaf ha hy) (Zaf hx hb)) ne) (by omega)) (Zar (k:=18) (Zca (Zax (Zaf ha hz) (Zaf hx hc)) (Zax (Zaf ha hy) (Zaf hx hb)) ne) (by omega)) (by omega)
theorem Zfm:∀ {l m:List Pnt},J.Zgy l m->J.eqL l m=true
 | [],[],_=>rfl
 | p::l,q::m,h=>by rw [eqL_cons,decide_eq_true (cmpP_same h.1)];exact Zfm h.2
theorem goodL_of {l:List Pnt} (h:∀ p ∈ l,J.Zbu p):J.ZfF l=true:=List.all_eq_true.2 fun p hp=>vP_true.2 (h p hp)
theorem qz:J.qi 0=0:=qi_z
theorem q_1:J.qi 1=1:=by rw [Ze2];rfl
theorem q_2:J.qi 2=2:=by rw [Ze2];rfl
theorem q_3:J.qi 3=3:=by rw [Ze2];rfl
theorem q_m:J.qi (-1) = -1:=by rw [Ze2];rfl
theorem ex_lin:J.Zdo 1 1 3 1 (-1) 1=0/\J.Zd4 1 1 3 1 (-1) 1=[J.atP 2 1]:=by
 have n:¬(1:Rat) * -1-1*1=0:=by decide +kernel
 rw [(lin_2 n).1,(lin_2 n).2]
 exact ⟨rfl,by rw [show ((3:Rat) * -1-1*1) / (1 * -1-1*1)=2 by decide +kernel,show ((1:Rat)*1-1*3) / (1 * -1-1*1)=1 by decide +kernel]⟩
theorem rsq1:J.rsq (1:Rat):=rsq_of (s:=1) (by decide +kernel)
theorem rt1:J.rt (1:Rat)=1:=Zgt (rt_nn rsq1) (by decide +kernel) (by rw [Zgz rsq1];decide +kernel)
theorem ex_lc:J.Zbk 0 1 1 0 0 2=[J.atP (-1) 1,J.atP 1 1]:=by
 have fx:J.fX 0 1 1 0 0=0:=by unfold J.fX J.val2 J.Zcu;decide +kernel
 have fy:J.fY 0 1 1 0 0=1:=by unfold J.fY J.val2 J.Zcu;decide +kernel
 have d:J.dep 0 1 1 0 0 2=1:=by unfold J.dep;rw [fx,fy];unfold J.Zcu;decide +kernel
 have e:J.dn 0 1=false:=decide_eq_false (by decide +kernel)
 rw [ZeM (by rw [d];decide +kernel),fx,fy,d]
 unfold J.dU J.dV J.Zdd
 rw [e,cond_false,cond_false,if_pos rsq1,if_pos rsq1,rt1,show (0:Rat) + -1*1 = -1 by decide +kernel,show (1:Rat) + - -0*1=1 by decide +kernel,show (0:Rat)+1*1=1 by decide +kernel,show (1:Rat) + -0*1=1 by decide +kernel]
theorem ex_dep:J.dep 1 1 2 0 0 2=0/\J.Zbk 1 1 2 0 0 2=[J.atP 1 1]:=by
 have fx:J.fX 1 1 2 0 0=1:=by unfold J.fX J.val2 J.Zcu;decide +kernel
 have fy:J.fY 1 1 2 0 0=1:=by unfold J.fY J.val2 J.Zcu;decide +kernel
 have d:J.dep 1 1 2 0 0 2=0:=by unfold J.dep;rw [fx,fy];unfold J.Zcu;decide +kernel
 exact ⟨d,by rw [ZgZ d,fx,fy]⟩
theorem ex_cir:J.Zdr 0 0 1 1 0 1=0/\(J.Zea 0 0 1 1 0 1).length=2/\J.Zdr 0 0 1 0 0 1=10:=by
 have n:¬((0:Rat)=1/\(0:Rat)=0):=by decide +kernel
 refine ⟨by unfold J.Zdr;rw [if_neg n],?_,by unfold J.Zdr;rw [if_pos ⟨rfl,rfl⟩,if_pos rfl]⟩
 unfold J.Zea
 rw [if_neg n,ZeM ?_]
 ·rfl
 ·unfold J.rdA J.rdC J.dep J.fX J.fY J.val2 J.Zcu
  rw [q_2]
  decide +kernel
theorem ev11:Ev M1 (.pure 11 []) (.bool true) []:=by
 have I:∀ n:Int,n.natAbs<1000000000->J.inI n:=fun n h=>by unfold J.inI;omega
 have l1:J.Zga (J.qi 0) (J.qi 1) (J.qi 1):=⟨⟨sm_30 (by decide),sm_30 (by decide),sm_30 (by decide)⟩,.inr qi1_ne⟩
 have l2:J.Zga (J.qi 1) (J.qi 1) (J.qi 2):=⟨⟨sm_30 (by decide),sm_30 (by decide),sm_30 (by decide)⟩,.inl qi1_ne⟩
 have v0:J.ZgK (J.qi 0) (J.qi 0):=⟨sm_30 (by decide),sm_30 (by decide)⟩
 have t2:J.okT 30 (J.qi 2):=sm_30 (by decide)
 have i1:J.ZdK (J.qi 0) (J.qi 0) (J.qi 1):=⟨sm_2 (by decide),sm_2 (by decide),sm_2 (by decide)⟩
 have i2:J.ZdK (J.qi 1) (J.qi 0) (J.qi 1):=⟨sm_2 (by decide),sm_2 (by decide),sm_2 (by decide)⟩
 have a1:J.ZdK (J.qi 1) (J.qi 1) (J.qi 3):=⟨sm_2 (by decide),sm_2 (by decide),sm_2 (by decide)⟩
 have a2:J.ZdK (J.qi 1) (J.qi (-1)) (J.qi 1):=⟨sm_2 (by decide),sm_2 (by decide),sm_2 (by decide)⟩
 have P:∀ m n:Int,m.natAbs<1000000000->n.natAbs<1000000000->J.ZdG (J.atP (J.qi m) (J.qi n)):=fun m n h k=>okP5_at (okT_sm h) (okT_sm k) (by omega)
 have E:∀ {l m:List Pnt} (v:Bool),l=m->J.Ze6 m->Ev M1 (.pure 49 [.vec false 20 (l.map Pnt.a),.vec v 20 (m.map Pnt.a)]) (.bool (J.eqL l m)) []:=fun v e h=>ev49 false v _ _ ⟨by rw [e];exact h,h⟩
 have V:∀ x y:Rat,J.Zbu (J.atP x y):=Zgj
 have e1:J.Zd4 (J.qi 1) (J.qi 1) (J.qi 3) (J.qi 1) (J.qi (-1)) (J.qi 1)=[J.atP (J.qi 2) (J.qi 1)]:=by rw [q_1,q_2,q_3,q_m];exact ex_lin.2
 have e2:J.Zbk (J.qi 0) (J.qi 1) (J.qi 1) (J.qi 0) (J.qi 0) (J.qi 2)=[J.atP (J.qi (-1)) (J.qi 1),J.atP (J.qi 1) (J.qi 1)]:=by rw [q_1,q_2,q_m,qz];exact ex_lc
 have e3:J.Zbk (J.qi 1) (J.qi 1) (J.qi 2) (J.qi 0) (J.qi 0) (J.qi 2)=[J.atP (J.qi 1) (J.qi 1)]:=by rw [q_1,q_2,qz];exact ex_dep.2
 have k1:=E true e1 ⟨fun p hp=>by rw [List.mem_singleton.1 hp];exact P _ _ (by decide) (by decide),by decide⟩
 have k2:=E true e2 ⟨fun p hp=>by simp only [List.mem_cons,List.not_mem_nil,or_false] at hp;rcases hp with rfl | rfl <;> exact P _ _ (by decide) (by decide),by decide⟩
 have k3:=E true e3 ⟨fun p hp=>by rw [List.mem_singleton.1 hp];exact P _ _ (by decide) (by decide),by decide⟩
 rw [e1,show J.eqL [J.atP (J.qi 2) (J.qi 1)] [J.atP (J.qi 2) (J.qi 1)]=true from Zfm ⟨ZeP _ _,trivial⟩] at k1
 rw [e2,show J.eqL [J.atP (J.qi (-1)) (J.qi 1),J.atP (J.qi 1) (J.qi 1)] [J.atP (J.qi (-1)) (J.qi 1),J.atP (J.qi 1) (J.qi 1)]=true from Zfm ⟨ZeP _ _,ZeP _ _,trivial⟩] at k2
 rw [e3,show J.eqL [J.atP (J.qi 1) (J.qi 1)] [J.atP (J.qi 1) (J.qi 1)]=true from Zfm ⟨ZeP _ _,trivial⟩] at k3
 rw [<- e1] at k1
 rw [<- e2] at k2
 rw [<- e3] at k3
 have m (n:Int) (h:n.natAbs<1000000000:=by decide):J.inI n:=I n h
 refine call11 (wAwake _ ⟨⟨m 1,m 1,m 3⟩,⟨m 1,m (-1),m 1⟩,⟨ZbX a1,ZbX a2⟩,⟨m 0,m 1,m 1⟩,⟨m 0,m 0,m 2⟩,⟨l1,v0,t2⟩,⟨m 1,m 1,m 2⟩,⟨l2,v0,t2⟩,⟨m 0,m 0,m 1⟩,⟨m 1,m 0,m 1⟩,⟨i1,i2⟩,⟨i1,i1⟩,fun _=>⟨m 2,m 1⟩,true,fun _ => ?_,fun _=>⟨m (-1),m 1⟩,fun _=>⟨m 1,m 1⟩,true,fun _ => ?_,fun _=>⟨m 1,m 1⟩,true,fun _ => ?_,?_⟩)
 ·rw [e1] at k1 ⊢;exact k1
 ·rw [e2] at k2 ⊢;exact k2
 ·rw [e3] at k3 ⊢;exact k3
 ·rw [q_1,q_2,q_3,q_m,qz,ex_lin.1,ex_cir.1,ex_cir.2.1,ex_cir.2.2,decide_eq_true ex_dep.1]
  rfl
namespace J
noncomputable def Zcv (p1 p2:Bool) (a b c x y z d e f u v r:Rat):List Pnt:=bif p1 then (bif p2 then Zea x y z u v r else Zbk d e f x y z) else bif p2 then Zbk a b c u v r else Zd4 a b c d e f
noncomputable def supR (p1 p2:Bool) (a b c x y z d e f u v r:Rat):List Pnt:=bif p1 then (bif p2 then cirR x y z u v r else Zfb d e f x y z) else bif p2 then Zfb a b c u v r else Zd4 a b c d e f
noncomputable def ZdJ (p1 p2:Bool) (a b c x y z d e f u v r:Rat):Int:=bif p1 then (bif p2 then Zdr x y z u v r else 0) else bif p2 then 0 else Zdo a b c d e f
def okSu (a b c x y z d e f u v r:Rat):Prop:=((ZdK a b c/\(a ≠ 0\/b ≠ 0))/\ZdK x y z)/\(ZdK d e f/\(d ≠ 0\/e ≠ 0))/\ZdK u v r
end J
theorem ln_I2 {a b c:Rat} (h:J.ZdK a b c) (k:a ≠ 0\/b ≠ 0):J.Zga a b c:=⟨ZbX h,k⟩
theorem Zhw {a b c:Rat} (h:J.ZdK a b c):J.ZgK a b:=⟨(ZbX h).1,(ZbX h).2.1⟩
abbrev crvF (p q:Bool) (w1:Nat->Bool) (l1:Nat->List Int) (a b c x y z:Rat):AV:=.agg (.bool p::.bool (J.Zaa a.num)::.vec false 1 ((J.Zab a.num).map (.int .u32))::.bool (J.Zaa (a.den:Int))::.vec false 1 ((J.Zab (a.den:Int)).map (.int .u32))::.bool (J.Zaa b.num)::.vec false 1 ((J.Zab b.num).map (.int .u32))::.bool (J.Zaa (b.den:Int))::.vec false 1 ((J.Zab (b.den:Int)).map (.int .u32))::.bool (J.Zaa c.num)::.vec false 1 ((J.Zab c.num).map (.int .u32))::.bool (J.Zaa (c.den:Int))::.vec false 1 ((J.Zab (c.den:Int)).map (.int .u32))::.bool (J.Zaa x.num)::.vec false 1 ((J.Zab x.num).map (.int .u32))::.bool (J.Zaa (x.den:Int))::.vec false 1 ((J.Zab (x.den:Int)).map (.int .u32))::.bool (J.Zaa y.num)::.vec false 1 ((J.Zab y.num).map (.int .u32))::.bool (J.Zaa (y.den:Int))::.vec false 1 ((J.Zab (y.den:Int)).map (.int .u32))::.bool (J.Zaa z.num)::.vec false 1 ((J.Zab z.num).map (.int .u32))::.bool (J.Zaa (z.den:Int))::.vec false 1 ((J.Zab (z.den:Int)).map (.int .u32))::.bool q::w20 w1 l1)
theorem ev43 (p1 q1 p2 q2:Bool) (w1 w2:Nat->Bool) (l1 l2:Nat->List Int) (a b c x y z d e f u v r:Rat) (h:J.okSu a b c x y z d e f u v r):Ev M1 (.pure 43 [crvF p1 q1 w1 l1 a b c x y z,crvF p2 q2 w2 l2 d e f u v r]) (.tup [.vec false 20 ((J.Zcv p1 p2 a b c x y z d e f u v r).map Pnt.a),.int .i64 (J.ZdJ p1 p2 a b c x y z d e f u v r)]) []:=by
 obtain ⟨⟨⟨h1,n1⟩,h2⟩,⟨h3,n3⟩,h4⟩:=h
 refine call43 (mSup _ _ _ _ _ _ _ _ _ _ _ _ _ _ _ _ _ _ _ _ _ ⟨fun k=>⟨⟨h2,h4⟩,?_⟩,fun k=>⟨fun j=>⟨⟨ln_I2 h3 n3,Zhw h2,(ZbX h2).2.2⟩,?_⟩,fun j=>⟨fun i=>⟨⟨ln_I2 h1 n1,Zhw h4,(ZbX h4).2.2⟩,?_⟩,fun i=>⟨⟨ZbX h1,ZbX h3⟩,?_⟩⟩⟩⟩)
 ·rw [k.1,k.2];exact .refl _
 ·rw [j,show p2=false by cases p2 with | false=>rfl | true=>exact absurd ⟨j,rfl⟩ k];exact .refl _
 ·rw [i,show p1=false by simpa using j];exact .refl _
 ·rw [show p2=false by simpa using i,show p1=false by simpa using j];exact .refl _
end Go.Av

namespace Go.Av
open Go.Proofs
set_option maxRecDepth 100000
end Go.Av

namespace Go.Av
open Go.Proofs
theorem sm_true {l m:List Pnt} {e:Int} (h:J.Zgy l m /\ ∀ p ∈ l,J.Zbu p):J.smB l e m e=true:=by
 unfold J.smB
 rw [beq_self_eq_true,cond_true,goodL_of h.2,cond_true,Zfm h.1]
theorem lin_same (a b c x y z:Rat):J.Zgy (J.Zd4 a b c x y z) (J.Zd4 a b c x y z) /\ ∀ p ∈ J.Zd4 a b c x y z,J.Zbu p:=by
 have v:∀ p ∈ J.Zd4 a b c x y z,J.Zbu p:=by
  unfold J.Zd4
  split
  ·exact fun p hp=>(nomatch hp)
  ·intro p hp;rw [List.mem_singleton.1 hp];exact Zgj _ _
 exact ⟨ZcK v,v⟩
theorem rd_ne {a b x y:Rat} (h:¬(a=x/\b=y)):J.rdA a x ≠ 0\/J.rdA b y ≠ 0:=by
 unfold J.rdA
 rw [q_2]
 by_cases k:a=x
 ·exact .inr fun e=>h ⟨k,by grind⟩
 ·exact .inl fun e=>k (by grind)
theorem cir_same (a b c x y z:Rat):J.Zgy (J.Zea a b c x y z) (J.cirR a b c x y z) /\ ∀ p ∈ J.Zea a b c x y z,J.Zbu p:=by
 unfold J.Zea J.cirR
 by_cases k:a=x/\b=y
 ·rw [if_pos k,if_pos k];exact ⟨trivial,fun p hp=>(nomatch hp)⟩
 ·rw [if_neg k,if_neg k];exact Zd3 (rd_ne k)
theorem rw_rat (a b c:Rat):J.Zh7 (J.Zab a.num) (J.Zab (a.den:Int)) (J.Zab b.num) (J.Zab (b.den:Int)) (J.Zab c.num) (J.Zab (c.den:Int)):=
 ⟨⟨fun v hv=>(ZeB _ v hv).1,fun v hv=>(ZeB _ v hv).1⟩,⟨fun v hv=>(ZeB _ v hv).1,fun v hv=>(ZeB _ v hv).1⟩,fun v hv=>(ZeB _ v hv).1,fun v hv=>(ZeB _ v hv).1⟩
theorem sup_same (p1 p2:Bool) {a b c x y z d e f u v r:Rat} (h:J.okSu a b c x y z d e f u v r):(J.Zgy (J.Zcv p1 p2 a b c x y z d e f u v r) (J.supR p1 p2 a b c x y z d e f u v r) /\ ∀ p ∈ J.Zcv p1 p2 a b c x y z d e f u v r,J.Zbu p)/\J.Ze6 (J.Zcv p1 p2 a b c x y z d e f u v r)/\J.Ze6 (J.supR p1 p2 a b c x y z d e f u v r):=by
 obtain ⟨⟨⟨h1,n1⟩,h2⟩,⟨h3,n3⟩,h4⟩:=h
 have c2:=(ZbX h2).2.2
 have c4:=(ZbX h4).2.2
 cases p1 with
 | true=>cases p2 with
  | true=>exact ⟨cir_same _ _ _ _ _ _,pl_cir h2 h4⟩
  | false=>exact ⟨Zd3 n3,pl_C (ln_I2 h3 n3) (Zhw h2) c2,pl_R (ln_I2 h3 n3) (Zhw h2) c2⟩
 | false=>cases p2 with
  | true=>exact ⟨Zd3 n1,pl_C (ln_I2 h1 n1) (Zhw h4) c4,pl_R (ln_I2 h1 n1) (Zhw h4) c4⟩
  | false=>exact ⟨lin_same _ _ _ _ _ _,pl_lin h1 h3,pl_lin h1 h3⟩
end Go.Av

namespace Go.Av
open Go.Proofs
set_option maxRecDepth 100000
end Go.Av

namespace Go.Av
open Go.Proofs
end Go.Av

namespace Go.Av
open Go.Proofs
set_option maxRecDepth 100000
end Go.Av

namespace Go.Av
open Go.Proofs
def J.onL (A B C:Rat) (p:Pnt):Prop:=A*p.ax+B*p.ay-C=0/\A*p.bx+B*p.by_=0/\J.ZhC p.c
theorem nn_0:J.ZhC (J.qi 0):=by rw [qi_z];exact Int.le_refl 0
theorem at_on {A B C x y:Rat} (h:A*x+B*y-C=0):J.onL A B C (J.atP x y):=by
 refine ⟨h,?_,nn_0⟩
 show A*J.qi 0+B*J.qi 0=0
 rw [qi_z];grind
theorem side_on {A B C:Rat} {p:Pnt} (h:J.onL A B C p):J.side A B C p.ax p.bx p.ay p.by_ p.c=0:=by
 have m:J.mkA 0 0 p.c=0:=by
  unfold J.mkA
  by_cases k:J.rsq p.c
  ·rw [if_pos k];grind
  ·rw [if_neg k]
 have n:J.mkB 0 p.c=0:=by
  unfold J.mkB
  by_cases k:J.rsq p.c
  ·rw [if_pos k];exact qi_z
  ·rw [if_neg k]
 unfold J.side
 rw [h.1,h.2.1,m,n]
 unfold J.sgP
 rw [if_pos (.inl rfl)];rfl
end Go.Av

namespace Go.Av
open Go.Proofs
theorem isCom_self (b c:Rat):J.Zc7 b c b c:=by
 unfold J.Zc7
 by_cases h:b=0
 ·simp [h]
 ·simp
theorem ev161 (f1 f2 f3 f4 f5 f6:Bool) (a b c:Rat) (h:J.okO a b c):Ev M1 (.pure 161 [Zaw f1 f2 f3 f4 f5 f6 a b c]) (Zau (a*a+b*b*J.com b c c) (J.prB (a*b+b*a) (J.com b c c)) (J.prC (a*b+b*a) (J.com b c c))) []:=
 call161 (rSq3 _ _ _ _ _ _ _ _ _ _ ⟨fun _=>⟨⟨h,h⟩,.refl _⟩,fun n=>absurd (isCom_self b c) n⟩)
theorem Zew (b c:Rat):J.com b c c=c:=by unfold J.com;split <;> rfl
noncomputable def J.sA (a b c:Rat):Rat:=a*a+b*b*J.com b c c
noncomputable def J.sB (a b c:Rat):Rat:=J.prB (a*b+b*a) (J.com b c c)
noncomputable def J.sC (a b c:Rat):Rat:=J.prC (a*b+b*a) (J.com b c c)
theorem sC_c {a b c:Rat} (h:J.sB a b (J.rad b c) ≠ 0):J.sC a b (J.rad b c)=c:=by
 unfold J.sB J.prB at h
 unfold J.sC J.prC
 rw [Zew] at h ⊢
 by_cases k:a*b+b*a=0\/J.rad b c=0
 ·rw [if_pos k] at h;exact absurd qi_z h
 ·rw [if_neg k]
  by_cases z:b=0
  ·exact absurd (.inl (by rw [z];grind)) k
  ·exact radn z
theorem sq_com (a b d e c:Rat):J.Zc7 (J.sB a b (J.rad b c)) (J.sC a b (J.rad b c)) (J.sB d e (J.rad e c)) (J.sC d e (J.rad e c)):=by
 by_cases k:J.sB a b (J.rad b c)=0
 ·exact .inl k
 ·by_cases j:J.sB d e (J.rad e c)=0
  ·exact .inr (.inl j)
  ·exact .inr (.inr (by rw [sC_c k,sC_c j]))
theorem okO_sq {a b c:Rat} (ha:J.okT 2241 a) (hb:J.okT 200 b) (hc:J.okT 1700 c):J.okO a b (J.rad b c)/\J.okO (J.sA a b (J.rad b c)) (J.sB a b (J.rad b c)) (J.sC a b (J.rad b c)):=by
 have hr:J.okT 1700 (J.rad b c):=by
  unfold J.rad
  split
  ·exact Zar ZbO (by omega)
  ·exact hc
 refine ⟨⟨Zar ha (by omega),Zar hb (by omega),Zar hr (by omega)⟩,?_,?_,?_⟩
 ·unfold J.sA;rw [Zew];exact Zar (ZaC (Zaf ha ha) (Zaf (Zaf hb hb) hr)) (by omega)
 ·unfold J.sB J.prB
  split
  ·exact Zar ZbO (by omega)
  ·exact Zar (ZaC (Zaf ha hb) (Zaf hb ha)) (by omega)
 ·unfold J.sC J.prC
  split
  ·exact Zar ZbO (by omega)
  ·rw [Zew];exact Zar hr (by omega)
theorem ev133 (f1 f2 f3 f4 f5 f6 f7 f8 f9 f10 g1 g2 g3 g4:Bool) (ax bx ay by_ c x y:Rat) (h:J.ZdG ⟨ax,bx,ay,by_,c⟩/\J.okT 40 x/\J.okT 40 y):Ev M1 (.pure 133 [pntA f1 f2 f3 f4 f5 f6 f7 f8 f9 f10 ax bx ay by_ c,vecA g1 g2 g3 g4 x y]) (Zau (J.sA (ax + -x) bx (J.rad bx c)+J.sA (ay + -y) by_ (J.rad by_ c)) (J.prB (J.sB (ax + -x) bx (J.rad bx c)+J.sB (ay + -y) by_ (J.rad by_ c)) (J.com (J.sB (ax + -x) bx (J.rad bx c)) (J.sC (ax + -x) bx (J.rad bx c)) (J.sC (ay + -y) by_ (J.rad by_ c)))) (J.prC (J.sB (ax + -x) bx (J.rad bx c)+J.sB (ay + -y) by_ (J.rad by_ c)) (J.com (J.sB (ax + -x) bx (J.rad bx c)) (J.sC (ax + -x) bx (J.rad bx c)) (J.sC (ay + -y) by_ (J.rad by_ c))))) []:=by
 obtain ⟨hp,hx,hy⟩:=h
 have hp':=hp
 obtain ⟨⟨p1,p2⟩,⟨p3,p4⟩,p5⟩:=hp'
 have o1:=okO_sq (ZaC p1 (Zbe hx)) p2 p5
 have o2:=okO_sq (ZaC p3 (Zbe hy)) p4 p5
 have s1:=ev161 false false false false false false _ _ _ o1.1
 have s2:=ev161 false false false false false false _ _ _ o2.1
 have ad:=ev160_y false false false false false false false false false false false false _ _ _ _ _ _ ⟨o1.2,o2.2⟩ (sq_com (ax + -x) bx (ay + -y) by_ c)
 exact call133 (rSqu7 _ _ _ _ _ _ _ _ _ _ _ _ _ _ _ _ _ _ _ _ _ _ ⟨⟨Zar hx (by omega),Zar hy (by omega)⟩,⟨hp,Zbe hx,Zbe hy⟩,_,_,_,_,_,_,_,_,_,_,_,_,s1,_,_,_,_,_,_,_,_,_,_,_,_,s2,_,_,_,_,_,_,_,_,_,_,_,_,_,ad,.refl _⟩)
end Go.Av

namespace Go.Av
open Go.Proofs
set_option maxRecDepth 100000
def fi45:Fi:=⟨10,[.tmp 4]⟩
def kp45:List (Nat × List Nat):=[(0,[2,3]),(1,[4])]
def fi92:Fi:=⟨16,[.cell 4 98]⟩
def kp92:List (Nat × List Nat):=[(0,[2,3,4]),(1,[4])]
def rPow8_at (f1 f2 f3 f4 f5 f6 g1 g2 g3 g4 g5 g6 g7 g8 g9 g10:Bool) (x y q ax bx ay by_ d:Rat) (Q:AV->Heap->Prop):Prop:=Wp M1 (.run fi92 (atC (cd Tryz.f92) []) [(0,Zaw f1 f2 f3 f4 f5 f6 x y q),(1,.agg [.bool (J.Zaa ax.num),.vec g1 1 ((J.Zab ax.num).map (.int .u32)),.bool (J.Zaa (ax.den:Int)),.vec g2 1 ((J.Zab (ax.den:Int)).map (.int .u32)),.bool (J.Zaa bx.num),.vec g3 1 ((J.Zab bx.num).map (.int .u32)),.bool (J.Zaa (bx.den:Int)),.vec g4 1 ((J.Zab (bx.den:Int)).map (.int .u32)),.bool (J.Zaa ay.num),.vec g5 1 ((J.Zab ay.num).map (.int .u32)),.bool (J.Zaa (ay.den:Int)),.vec g6 1 ((J.Zab (ay.den:Int)).map (.int .u32)),.bool (J.Zaa by_.num),.vec g7 1 ((J.Zab by_.num).map (.int .u32)),.bool (J.Zaa (by_.den:Int)),.vec g8 1 ((J.Zab (by_.den:Int)).map (.int .u32)),.bool (J.Zaa d.num),.vec g9 1 ((J.Zab d.num).map (.int .u32)),.bool (J.Zaa (d.den:Int)),.vec g10 1 ((J.Zab (d.den:Int)).map (.int .u32))])] []) Q
def rIns8_at (f1 f2 f3 f4 f5 f6 g1 g2 g3 g4 g5 g6 g7 g8 g9 g10:Bool) (x y q ax bx ay by_ d:Rat) (Q:AV->Heap->Prop):Prop:=Wp M1 (.run fi45 (atC (cd Tryz.f45) []) [(0,Zaw f1 f2 f3 f4 f5 f6 x y q),(1,.agg [.bool (J.Zaa ax.num),.vec g1 1 ((J.Zab ax.num).map (.int .u32)),.bool (J.Zaa (ax.den:Int)),.vec g2 1 ((J.Zab (ax.den:Int)).map (.int .u32)),.bool (J.Zaa bx.num),.vec g3 1 ((J.Zab bx.num).map (.int .u32)),.bool (J.Zaa (bx.den:Int)),.vec g4 1 ((J.Zab (bx.den:Int)).map (.int .u32)),.bool (J.Zaa ay.num),.vec g5 1 ((J.Zab ay.num).map (.int .u32)),.bool (J.Zaa (ay.den:Int)),.vec g6 1 ((J.Zab (ay.den:Int)).map (.int .u32)),.bool (J.Zaa by_.num),.vec g7 1 ((J.Zab by_.num).map (.int .u32)),.bool (J.Zaa (by_.den:Int)),.vec g8 1 ((J.Zab (by_.den:Int)).map (.int .u32)),.bool (J.Zaa d.num),.vec g9 1 ((J.Zab d.num).map (.int .u32)),.bool (J.Zaa (d.den:Int)),.vec g10 1 ((J.Zab (d.den:Int)).map (.int .u32))])] []) Q
theorem call45 {args:List AV} {d:AV} (h:wc M1 fi45 Tryz.f45 args d):Ev M1 (.pure 45 args) d []:=pcl _ _ (by kernel_rfl) h
theorem call92 {args:List AV} {d:AV} (h:wc M1 fi92 Tryz.f92 args d):Ev M1 (.pure 92 args) d []:=pcl _ _ (by kernel_rfl) h
noncomputable abbrev zNmO1 (ax:Rat) (x:Rat) (bx:Rat) (d:Rat) (ay:Rat) (y:Rat) (by_:Rat):=J.com (J.sB (ax + -x) bx (J.rad bx d)) (J.sC (ax + -x) bx (J.rad bx d)) (J.sC (ay + -y) by_ (J.rad by_ d))
noncomputable abbrev zNmO2 (ax:Rat) (x:Rat) (bx:Rat) (d:Rat) (ay:Rat) (y:Rat) (by_:Rat):=J.sB (ax + -x) bx (J.rad bx d)+J.sB (ay + -y) by_ (J.rad by_ d)
theorem rPow8 (f1 f2 f3 f4 f5 f6 g1 g2 g3 g4 g5 g6 g7 g8 g9 g10:Bool) (x y q ax bx ay by_ d:Rat)  (dq:AV) (H :
  (J.ZdG { ax:=ax,bx:=bx,ay:=ay,by_:=by_,c:=d } /\ J.okT 40 x/\J.okT 40 y) /\
  (J.ok q.num) /\
  (J.okR (J.sA (ax + -x) bx (J.rad bx d)+J.sA (ay + -y) by_ (J.rad by_ d))/\J.okR (-q)) /\
  Weak (Zau (J.sA (ax + -x) bx (J.rad bx d)+J.sA (ay + -y) by_ (J.rad by_ d) + -q) (J.prB (J.sB (ax + -x) bx (J.rad bx d)+J.sB (ay + -y) by_ (J.rad by_ d)) (J.com (J.sB (ax + -x) bx (J.rad bx d)) (J.sC (ax + -x) bx (J.rad bx d)) (J.sC (ay + -y) by_ (J.rad by_ d)))) (J.prC (J.sB (ax + -x) bx (J.rad bx d)+J.sB (ay + -y) by_ (J.rad by_ d)) (J.com (J.sB (ax + -x) bx (J.rad bx d)) (J.sC (ax + -x) bx (J.rad bx d)) (J.sC (ay + -y) by_ (J.rad by_ d))))) dq) :
 rPow8_at f1 f2 f3 f4 f5 f6 g1 g2 g3 g4 g5 g6 g7 g8 g9 g10 x y q ax bx ay by_ d (Zag dq):=by
 unfold rPow8_at
 obtain ⟨k1,k2,k3,H⟩:=H
 exact Zah (G:=Zad kp92 [(1,6,.call (Zau (J.sA (ax + -x) bx (J.rad bx d)+J.sA (ay + -y) by_ (J.rad by_ d)) (J.prB (zNmO2 ax x bx d ay y by_) (zNmO1 ax x bx d ay y by_)) (J.prC (zNmO2 ax x bx d ay y by_) (zNmO1 ax x bx d ay y by_))) none),(1,9,.call (ratF (-q)) none),(1,10,.call (Zau (J.sA (ax + -x) bx (J.rad bx d)+J.sA (ay + -y) by_ (J.rad by_ d) + -q) (J.prB (zNmO2 ax x bx d ay y by_) (zNmO1 ax x bx d ay y by_)) (J.prC (zNmO2 ax x bx d ay y by_) (zNmO1 ax x bx d ay y by_))) none)] []) 1000 [] (Zau (J.sA (ax + -x) bx (J.rad bx d)+J.sA (ay + -y) by_ (J.rad by_ d) + -q) (J.prB (zNmO2 ax x bx d ay y by_) (zNmO1 ax x bx d ay y by_)) (J.prC (zNmO2 ax x bx d ay y by_) (zNmO1 ax x bx d ay y by_))) (by kernel_rfl) (bc rfl (bc rfl (bc rfl (bc rfl (bc rfl b0))))) q0 (ce (@ev133 g1 g2 g3 g4 g5 g6 g7 g8 g9 g10 f1 f2 f3 f4 ax bx ay by_ d x y k1) (ce (@ev82 f5 f6 q k2) (ce (@ev132 false false false false false false false false (J.sA (ax + -x) bx (J.rad bx d)+J.sA (ay + -y) by_ (J.rad by_ d)) (J.prB (zNmO2 ax x bx d ay y by_) (zNmO1 ax x bx d ay y by_)) (J.prC (zNmO2 ax x bx d ay y by_) (zNmO1 ax x bx d ay y by_)) (-q) k3) c0))) H
theorem rIns8 (f1 f2 f3 f4 f5 f6 g1 g2 g3 g4 g5 g6 g7 g8 g9 g10:Bool) (x y q ax bx ay by_ d:Rat)  (dq:AV) (H :
  ∃ (b1:Bool) (l1:List Int) (b2:Bool) (l2:List Int) (b3:Bool) (l3:List Int) (b4:Bool) (l4:List Int) (b5:Bool) (l5:List Int) (b6:Bool) (l6:List Int),
  (Ev M1 (Conf.pure 92 [Zaw f1 f2 f3 f4 f5 f6 x y q,ag [vb (J.Zaa ax.num),AV.vec g1 1 (us (J.Zab ax.num)),vb (J.Zaa (↑ax.den:Int)),AV.vec g2 1 (us (J.Zab (↑ax.den:Int))),vb (J.Zaa bx.num),AV.vec g3 1 (us (J.Zab bx.num)),vb (J.Zaa (↑bx.den:Int)),AV.vec g4 1 (us (J.Zab (↑bx.den:Int))),vb (J.Zaa ay.num),AV.vec g5 1 (us (J.Zab ay.num)),vb (J.Zaa (↑ay.den:Int)),AV.vec g6 1 (us (J.Zab (↑ay.den:Int))),vb (J.Zaa by_.num),AV.vec g7 1 (us (J.Zab by_.num)),vb (J.Zaa (↑by_.den:Int)),AV.vec g8 1 (us (J.Zab (↑by_.den:Int))),vb (J.Zaa d.num),AV.vec g9 1 (us (J.Zab d.num)),vb (J.Zaa (↑d.den:Int)),AV.vec g10 1 (us (J.Zab (↑d.den:Int)))]]) (ag [vb b1,vf (us l1),vb b2,vf (us l2),vb b3,vf (us l3),vb b4,vf (us l4),vb b5,vf (us l5),vb b6,vf (us l6)]) []) /\
  ∃ (n1:Int),
  (Ev M1 (Conf.pure 85 [ag [vb b1,vf (us l1),vb b2,vf (us l2),vb b3,vf (us l3),vb b4,vf (us l4),vb b5,vf (us l5),vb b6,vf (us l6)]]) (vi n1) []) /\
  (-9223372036854775808<=0-n1/\0-n1<=9223372036854775807) /\
  vi (0-n1)=dq) :
 rIns8_at f1 f2 f3 f4 f5 f6 g1 g2 g3 g4 g5 g6 g7 g8 g9 g10 x y q ax bx ay by_ d (Zag dq):=by
 unfold rIns8_at
 obtain ⟨b1,l1,b2,l2,b3,l3,b4,l4,b5,l5,b6,l6,k1,n1,k2,k3,H⟩:=H
 have w4:wi (0-n1)=0-n1:=wI64 k3
 exact Zao (G:=Zad kp45 [(1,2,.call (ag [vb b1,vf (us l1),vb b2,vf (us l2),vb b3,vf (us l3),vb b4,vf (us l4),vb b5,vf (us l5),vb b6,vf (us l6)]) none),(1,3,.call (vi n1) none)] []) 1000 [] (vi (wi (0-n1))) (by kernel_rfl) (bc rfl (bc rfl b0)) q0 (ce k1 (ce k2 c0)) (by (try rw [w4]);all_goals exact H)
end Go.Av

namespace Go.Av
open Go.Proofs
def J.onC (x y q:Rat) (p:Pnt):Prop:=(p.ax-x)*(p.ax-x)+(p.ay-y)*(p.ay-y)+(p.bx*p.bx+p.by_*p.by_)*p.c-q=0/\(p.ax-x)*p.bx+(p.ay-y)*p.by_=0
theorem f_dir {A B C X Y:Rat}:(J.fX A B C X Y-X)*J.dU A B+(J.fY A B C X Y-Y)*J.dV A B=0:=by
 have e:=(dU_sq A B).2
 unfold J.fX J.fY
 generalize J.val2 A B C X Y / J.Zcu A B=m
 grind
theorem atP_onC {x y q X Y:Rat} (h:(X-x)*(X-x)+(Y-y)*(Y-y)-q=0):J.onC x y q (J.atP X Y):=by
 unfold J.onC J.atP
 rw [qi_z]
 exact ⟨by grind,by grind⟩
theorem surd_onC {x y q X Y u v k:Rat} (h:(X-x)*(X-x)+(Y-y)*(Y-y)+(u*u+v*v)*k-q=0) (g:(X-x)*u+(Y-y)*v=0):J.onC x y q (J.Zdd X u Y v k):=by
 unfold J.Zdd
 by_cases s:J.rsq k
 ·rw [if_pos s]
  have r:=Zgz s
  refine atP_onC ?_
  generalize J.rt k=t at *
  have e:(X+u*t-x)*(X+u*t-x)+(Y+v*t-y)*(Y+v*t-y)-q=(X-x)*(X-x)+(Y-y)*(Y-y)+(u*u+v*v)*(t*t)-q+2*t*((X-x)*u+(Y-y)*v):=by grind
  rw [e,r,h,g];grind
 ·rw [if_neg s]
  refine ⟨?_,g⟩
  by_cases z:u=0/\v=0
  ·obtain ⟨rfl,rfl⟩:=z
   have e (w:Rat):(X-x)*(X-x)+(Y-y)*(Y-y)+((0:Rat)*0+0*0)*w-q=0:=by grind
   exact e _
  ·show _+(u*u+v*v)*(if u=0/\v=0 then J.qi 0 else k)-q=0
   rw [if_neg z];exact h
theorem Zfc {A B C X Y Q:Rat} (h:A ≠ 0\/B ≠ 0):∀ p ∈ J.Zbk A B C X Y Q,J.onC X Y Q p:=by
 have d:=dep_eq (C:=C) (X:=X) (Y:=Y) (Q:=Q) h
 have g:=f_dir (A:=A) (B:=B) (C:=C) (X:=X) (Y:=Y)
 have n:=(dU_sq A B).1
 rcases tri (J.dep A B C X Y Q) with k | k | k
 ·rw [lineC_0 k];exact fun p hp=>(nomatch hp)
 ·rw [ZgZ k];intro p hp;rw [List.mem_singleton.1 hp]
  rw [k,Rat.zero_mul] at d
  exact atP_onC (by grind)
 ·rw [ZeM k]
  intro p hp
  simp only [List.mem_cons,List.not_mem_nil,or_false] at hp
  rcases hp with rfl | rfl
  ·refine surd_onC ?_ (by grind)
   rw [show -J.dU A B * -J.dU A B + -J.dV A B * -J.dV A B=J.Zcu A B by rw [<- n];grind]
   grind
  ·refine surd_onC ?_ g
   rw [n]
   grind
theorem surd_onL {A B C X Y u v k:Rat} (h:A*X+B*Y-C=0) (g:A*u+B*v=0) (hk:0<k):J.onL A B C (J.Zdd X u Y v k):=by
 unfold J.Zdd
 by_cases s:J.rsq k
 ·rw [if_pos s]
  refine at_on ?_
  generalize J.rt k=t
  have e:A*(X+u*t)+B*(Y+v*t)-C=A*X+B*Y-C+(A*u+B*v)*t:=by grind
  rw [e,h,g];grind
 ·rw [if_neg s]
  refine ⟨h,g,?_⟩
  show J.ZhC (if u=0/\v=0 then J.qi 0 else k)
  split
  ·exact nn_0
  ·exact nn_pos2 hk
theorem lineC_onL {A B C X Y Q:Rat} (h:A ≠ 0\/B ≠ 0):∀ p ∈ J.Zbk A B C X Y Q,J.onL A B C p:=by
 have f:=f_eq (C:=C) (X:=X) (Y:=Y) h
 have e:=(dU_sq A B).2
 rcases tri (J.dep A B C X Y Q) with k | k | k
 ·rw [lineC_0 k];exact fun p hp=>(nomatch hp)
 ·rw [ZgZ k];intro p hp;rw [List.mem_singleton.1 hp];exact at_on f
 ·rw [ZeM k]
  intro p hp
  simp only [List.mem_cons,List.not_mem_nil,or_false] at hp
  rcases hp with rfl | rfl
  ·exact surd_onL f (by grind) k
  ·exact surd_onL f e k
theorem cirL_onC {a b c x y z:Rat}:∀ p ∈ J.Zea a b c x y z,J.onC a b c p/\J.onC x y z p:=by
 unfold J.Zea
 by_cases n:a=x/\b=y
 ·rw [if_pos n];exact fun p hp=>(nomatch hp)
 ·rw [if_neg n]
  have ne:=rd_ne n
  intro p hp
  refine ⟨Zfc ne p hp,?_⟩
  have h:a ≠ x\/b ≠ y:=by
   by_cases k:a=x
   ·exact .inr fun e=>n ⟨k,e⟩
   ·exact .inl k
  have hs:(x ≠ a\/y ≠ b):=h.imp Ne.symm Ne.symm
  unfold J.rdA J.rdC at hp
  rw [circ_comm h] at hp
  have ne2:J.qi 2*(a-x) ≠ 0\/J.qi 2*(b-y) ≠ 0:=rd_ne (a:=x) (b:=y) (x:=a) (y:=b) fun e=>hs.elim (fun t=>t e.1) fun t=>t e.2
  exact Zfc ne2 p hp
theorem linL_onL {a b c x y z:Rat}:∀ p ∈ J.Zd4 a b c x y z,J.onL a b c p/\J.onL x y z p:=by
 unfold J.Zd4
 by_cases n:a*y-x*b=0
 ·rw [if_pos n];exact fun p hp=>(nomatch hp)
 ·rw [if_neg n]
  intro p hp
  rw [List.mem_singleton.1 hp]
  have i:(a*y-x*b)*(a*y-x*b)⁻¹=1:=Rat.mul_inv_cancel _ n
  rw [Rat.div_def,Rat.div_def]
  generalize (a*y-x*b)⁻¹=m at *
  exact ⟨at_on (by grind),at_on (by grind)⟩
end Go.Av

namespace Go.Av
open Go.Proofs
theorem sA_eq (a b c:Rat):J.sA a b (J.rad b c)=a*a+b*b*c:=by
 unfold J.sA;rw [Zew]
 by_cases k:b=0
 ·rw [k];grind
 ·rw [radn k]
theorem sB_eq (a b:Rat) {c:Rat} (h:c ≠ 0):J.sB a b (J.rad b c)=a*b+b*a:=by
 unfold J.sB J.prB;rw [Zew]
 by_cases k:a*b+b*a=0\/J.rad b c=0
 ·rw [if_pos k,qi_z]
  rcases k with k | k
  ·exact k.symm
  ·by_cases z:b=0
   ·rw [z];grind
   ·rw [radn z] at k;exact absurd k h
 ·rw [if_neg k]
theorem sB_0 (a b:Rat):J.sB a b (J.rad b 0)=0:=by
 unfold J.sB J.prB;rw [Zew]
 have r:J.rad b 0=0:=by unfold J.rad;split <;> first | exact qi_z | rfl
 rw [if_pos (.inr r),qi_z]
theorem pow_0 {ax bx ay by_ c x y q:Rat} (h:J.onC x y q ⟨ax,bx,ay,by_,c⟩):J.sA (ax + -x) bx (J.rad bx c)+J.sA (ay + -y) by_ (J.rad by_ c) + -q=0/\J.sB (ax + -x) bx (J.rad bx c)+J.sB (ay + -y) by_ (J.rad by_ c)=0:=by
 obtain ⟨h1,h2⟩:=h
 have h1:(ax-x)*(ax-x)+(ay-y)*(ay-y)+(bx*bx+by_*by_)*c-q=0:=h1
 have h2:(ax-x)*bx+(ay-y)*by_=0:=h2
 rw [sA_eq,sA_eq]
 refine ⟨by grind,?_⟩
 by_cases k:c=0
 ·rw [k,sB_0,sB_0];grind
 ·rw [sB_eq _ _ k,sB_eq _ _ k];grind
theorem ev45 (f1 f2 f3 f4 f5 f6 g1 g2 g3 g4 g5 g6 g7 g8 g9 g10:Bool) (x y q ax bx ay by_ d:Rat) (h:J.ZdG ⟨ax,bx,ay,by_,d⟩/\J.ZdK x y q/\J.onC x y q ⟨ax,bx,ay,by_,d⟩):Ev M1 (.pure 45 [Zaw f1 f2 f3 f4 f5 f6 x y q,pntA g1 g2 g3 g4 g5 g6 g7 g8 g9 g10 ax bx ay by_ d]) (.int .i64 0) []:=by
 obtain ⟨hp,hi,hc⟩:=h
 have hp':=hp
 obtain ⟨⟨p1,p2⟩,⟨p3,p4⟩,p5⟩:=hp'
 have hx:J.okT 40 x:=Zar hi.1 (by omega)
 have hy:J.okT 40 y:=Zar hi.2.1 (by omega)
 have o1:=okO_sq (ZaC p1 (Zbe hx)) p2 p5
 have o2:=okO_sq (ZaC p3 (Zbe hy)) p4 p5
 obtain ⟨z1,z2⟩:=pow_0 hc
 have pw:Ev M1 (.pure 92 [Zaw f1 f2 f3 f4 f5 f6 x y q,pntA g1 g2 g3 g4 g5 g6 g7 g8 g9 g10 ax bx ay by_ d]) (Zau 0 (J.qi 0) (J.qi 0)) []:=by
  refine call92 (rPow8 _ _ _ _ _ _ _ _ _ _ _ _ _ _ _ _ _ _ _ _ _ _ _ _ _ ⟨⟨hp,hx,hy⟩,(by have:=(Zaj hi.2.2 (by omega)).1;unfold J.ok;omega),⟨Zaj (ZaC o1.2.1 o2.2.1) (by omega),Zaj (Zbe hi.2.2) (by omega)⟩,?_⟩)
  rw [z1,z2]
  unfold J.prB J.prC
  rw [if_pos (.inl rfl),if_pos (.inl rfl)]
  exact .refl _
 have o0:J.okO 0 (J.qi 0) (J.qi 0):=by
  have t:J.okT 9000 (J.qi 0):=Zar ZbO (by omega)
  exact ⟨by rw [<- qi_z];exact t,t,t⟩
 have sg:=ev85 false false false false false false 0 (J.qi 0) (J.qi 0) o0
 have s0:J.sgP 0 (J.qi 0) (J.qi 0)=0:=by
  unfold J.sgP
  rw [qi_z,if_pos (.inl rfl)];rfl
 rw [s0] at sg
 exact call45 (rIns8 _ _ _ _ _ _ _ _ _ _ _ _ _ _ _ _ _ _ _ _ _ _ _ _ _ ⟨_,_,_,_,_,_,_,_,_,_,_,_,pw,_,sg,by omega,rfl⟩)
end Go.Av

namespace Go.Av
open Go.Proofs
theorem cirL_comm (a b c x y z:Rat):J.Zea a b c x y z=J.Zea x y z a b c:=by
 unfold J.Zea
 by_cases n:a=x/\b=y
 ·rw [if_pos n,if_pos ⟨n.1.symm,n.2.symm⟩]
 ·rw [if_neg n,if_neg fun k=>n ⟨k.1.symm,k.2.symm⟩]
  unfold J.rdA J.rdC
  exact circ_comm (by
   by_cases k:a=x
   ·exact .inr fun e=>n ⟨k,e⟩
   ·exact .inl k)
theorem neg_div2 {n m:Rat} (h:m ≠ 0):-n / -m=n / m:=by
 have i:=Rat.mul_inv_cancel m h
 have j:=Rat.mul_inv_cancel (-m) (by grind)
 rw [Rat.div_def,Rat.div_def]
 generalize (-m)⁻¹=p at *
 generalize m⁻¹=q at *
 have e:p*(m*q) = -((-m*p)*q):=by grind
 rw [i,j] at e
 have e2:p = -q:=by grind
 rw [e2];grind
theorem mul_div2 {k n m:Rat} (hk:k ≠ 0) (h:m ≠ 0):(k*n) / (k*m)=n / m:=by
 have i:=Rat.mul_inv_cancel m h
 have j:=Rat.mul_inv_cancel (k*m) (fun e=>by rcases Rat.mul_eq_zero.1 e with e | e <;> contradiction)
 rw [Rat.div_def,Rat.div_def]
 generalize (k*m)⁻¹=p at *
 generalize m⁻¹=q at *
 have e:k*p*(m*q)=(k*m*p)*q:=by grind
 rw [i,j] at e
 have e2:k*p=q:=by grind
 rw [show k*n*p=n*(k*p) by grind,e2]
theorem linL_comm (a b c x y z:Rat):J.Zd4 a b c x y z=J.Zd4 x y z a b c:=by
 unfold J.Zd4
 have e:x*b-a*y = -(a*y-x*b):=by grind
 by_cases n:a*y-x*b=0
 ·rw [if_pos n,if_pos (by rw [e,n];grind)]
 ·rw [if_neg n,if_neg (by rw [e];grind),e,show z*b-c*y = -(c*y-z*b) by grind,show x*c-a*z = -(a*z-x*c) by grind,neg_div2 n,neg_div2 n]
theorem linL_scale {a b c x y z k:Rat} (hk:k ≠ 0):J.Zd4 (k*a) (k*b) (k*c) x y z=J.Zd4 a b c x y z:=by
 unfold J.Zd4
 have e:k*a*y-x*(k*b)=k*(a*y-x*b):=by grind
 by_cases n:a*y-x*b=0
 ·rw [if_pos n,if_pos (by rw [e,n];grind)]
 ·rw [if_neg n,if_neg (by rw [e];intro h;rcases Rat.mul_eq_zero.1 h with h | h <;> contradiction),e,show k*c*y-z*(k*b)=k*(c*y-z*b) by grind,show k*a*z-x*(k*c)=k*(a*z-x*c) by grind,mul_div2 hk n,mul_div2 hk n]
theorem ZfE {α:Type} {p q:Prop} [Decidable p] [Decidable q] (h:p ↔ q) (u v:α):(if p then u else v)=if q then u else v:=by
 by_cases k:p
 ·rw [if_pos k,if_pos (h.1 k)]
 ·rw [if_neg k,if_neg fun x=>k (h.2 x)]
theorem linE_comm (a b c x y z:Rat):J.Zdo a b c x y z=J.Zdo x y z a b c:=by
 unfold J.Zdo
 rw [ZfE (p:=a*y-x*b=0) (q:=x*b-a*y=0) (by constructor <;> intro h <;> grind),ZfE (p:=a*z=x*c/\b*z=y*c) (q:=x*c=a*z/\y*c=b*z) ⟨fun h=>⟨h.1.symm,h.2.symm⟩,fun h=>⟨h.1.symm,h.2.symm⟩⟩]
theorem mul_can {k p q:Rat} (hk:k ≠ 0):k*p=k*q ↔ p=q:=by
 constructor
 ·intro h
  have:k*(p-q)=0:=by grind
  rcases Rat.mul_eq_zero.1 this with e | e
  ·contradiction
  ·grind
 ·intro h;rw [h]
theorem linE_scale {a b c x y z k:Rat} (hk:k ≠ 0):J.Zdo (k*a) (k*b) (k*c) x y z=J.Zdo a b c x y z:=by
 unfold J.Zdo
 have e1:k*a*y-x*(k*b)=0 ↔ a*y-x*b=0:=by
  rw [show k*a*y-x*(k*b)=k*(a*y-x*b) by grind]
  exact ⟨fun h=>by rcases Rat.mul_eq_zero.1 h with h | h <;> first | contradiction | exact h,fun h=>by rw [h];grind⟩
 have e2:(k*a*z=x*(k*c)/\k*b*z=y*(k*c)) ↔ (a*z=x*c/\b*z=y*c):=by
  rw [show k*a*z=k*(a*z) by grind,show x*(k*c)=k*(x*c) by grind,show k*b*z=k*(b*z) by grind,show y*(k*c)=k*(y*c) by grind,mul_can hk,mul_can hk]
 rw [ZfE e1,ZfE e2]
theorem cirE_comm (a b c x y z:Rat):J.Zdr a b c x y z=J.Zdr x y z a b c:=by
 unfold J.Zdr
 rw [ZfE (p:=a=x/\b=y) (q:=x=a/\y=b) ⟨fun h=>⟨h.1.symm,h.2.symm⟩,fun h=>⟨h.1.symm,h.2.symm⟩⟩,ZfE (p:=c=z) (q:=z=c) eq_comm]
theorem supL_comm (p1 p2:Bool) (a b c x y z d e f u v r:Rat):J.Zcv p2 p1 d e f u v r a b c x y z=J.Zcv p1 p2 a b c x y z d e f u v r/\J.ZdJ p2 p1 d e f u v r a b c x y z=J.ZdJ p1 p2 a b c x y z d e f u v r:=by
 cases p1 <;> cases p2
 ·exact ⟨linL_comm _ _ _ _ _ _,linE_comm _ _ _ _ _ _⟩
 ·exact ⟨rfl,rfl⟩
 ·exact ⟨rfl,rfl⟩
 ·exact ⟨cirL_comm _ _ _ _ _ _,cirE_comm _ _ _ _ _ _⟩
def J.onS (p:Bool) (a b c x y z:Rat) (q:Pnt):Prop:=bif p then J.onC x y z q else J.onL a b c q
theorem supL_on (p1 p2:Bool) {a b c x y z d e f u v r:Rat} (h1:a ≠ 0\/b ≠ 0) (h2:d ≠ 0\/e ≠ 0):∀ q ∈ J.Zcv p1 p2 a b c x y z d e f u v r,J.onS p1 a b c x y z q/\J.onS p2 d e f u v r q:=by
 cases p1 <;> cases p2
 ·exact linL_onL
 ·exact fun q hq=>⟨lineC_onL h1 q hq,Zfc h1 q hq⟩
 ·exact fun q hq=>⟨Zfc h2 q hq,lineC_onL h2 q hq⟩
 ·exact cirL_onC
namespace J
def okI3 (a b c:Rat):Prop:=okT 3 a/\okT 3 b/\okT 3 c
def okSw (a b c x y z d e f u v r:Rat):Prop:=((okI3 a b c/\(a ≠ 0\/b ≠ 0))/\ZdK x y z)/\(ZdK d e f/\(d ≠ 0\/e ≠ 0))/\ZdK u v r
end J
theorem okI3_S {a b c:Rat} (h:J.okI3 a b c):J.Zey a b c:=⟨Zar h.1 (by omega),Zar h.2.1 (by omega),Zar h.2.2 (by omega)⟩
theorem pl_lin3 {a b c x y z:Rat} (h:J.okI3 a b c) (k:J.ZdK x y z):J.Ze6 (J.Zd4 a b c x y z):=by
 obtain ⟨ha,hb,hc⟩:=h
 obtain ⟨hx,hy,hz⟩:=k
 unfold J.Zd4
 by_cases n:a*y-x*b=0
 ·rw [if_pos n];exact pl_nil
 ·rw [if_neg n]
  have ne:(a*y-x*b).num ≠ 0:=fun e=>n (Rat.num_eq_zero.1 e)
  refine ⟨fun p hp => ?_,by simp⟩
  rw [List.mem_singleton.1 hp]
  exact okP5_at (k:=100) (Zar (k:=22) (Zca (Zax (Zaf hc hy) (Zaf hz hb)) (Zax (Zaf ha hy) (Zaf hx hb)) ne) (by omega)) (Zar (k:=22) (Zca (Zax (Zaf ha hz) (Zaf hx hc)) (Zax (Zaf ha hy) (Zaf hx hb)) ne) (by omega)) (by omega)
theorem supL_pl (p1 p2:Bool) {a b c x y z d e f u v r:Rat} (h:J.okSw a b c x y z d e f u v r):J.Ze6 (J.Zcv p1 p2 a b c x y z d e f u v r):=by
 obtain ⟨⟨⟨h1,n1⟩,h2⟩,⟨h3,n3⟩,h4⟩:=h
 have c2:=(ZbX h2).2.2
 have c4:=(ZbX h4).2.2
 cases p1 <;> cases p2
 ·exact pl_lin3 h1 h3
 ·exact pl_C ⟨okI3_S h1,n1⟩ (Zhw h4) c4
 ·exact pl_C (ln_I2 h3 n3) (Zhw h2) c2
 ·exact (pl_cir h2 h4).1
theorem supL_val (p1 p2:Bool) {a b c x y z d e f u v r:Rat} (n1:a ≠ 0\/b ≠ 0) (n3:d ≠ 0\/e ≠ 0):∀ p ∈ J.Zcv p1 p2 a b c x y z d e f u v r,J.Zbu p:=by
 cases p1 <;> cases p2
 ·exact (lin_same _ _ _ _ _ _).2
 ·exact (Zd3 n1).2
 ·exact (Zd3 n3).2
 ·exact (cir_same _ _ _ _ _ _).2
theorem mul_ne {k a b:Rat} (hk:k ≠ 0) (h:a ≠ 0\/b ≠ 0):k*a ≠ 0\/k*b ≠ 0:=by
 rcases h with h | h
 ·exact .inl fun e=>by rcases Rat.mul_eq_zero.1 e with e | e <;> contradiction
 ·exact .inr fun e=>by rcases Rat.mul_eq_zero.1 e with e | e <;> contradiction
theorem supL_scale (p1 p2:Bool) {a b c x y z d e f u v r k:Rat} (hk:k ≠ 0) (n1:a ≠ 0\/b ≠ 0) (n3:d ≠ 0\/e ≠ 0):J.Zgy (J.Zcv p1 p2 (k*a) (k*b) (k*c) x y z d e f u v r) (J.Zcv p1 p2 a b c x y z d e f u v r)/\J.ZdJ p1 p2 (k*a) (k*b) (k*c) x y z d e f u v r=J.ZdJ p1 p2 a b c x y z d e f u v r:=by
 have v:=supL_val p1 p2 (a:=a) (b:=b) (c:=c) (x:=x) (y:=y) (z:=z) (d:=d) (e:=e) (f:=f) (u:=u) (v:=v) (r:=r) n1 n3
 cases p1 <;> cases p2
 ·refine ⟨?_,linE_scale hk⟩
  show J.Zgy (J.Zd4 (k*a) (k*b) (k*c) d e f) (J.Zd4 a b c d e f)
  rw [linL_scale hk];exact ZcK v
 ·exact ⟨line_scale n1 hk,rfl⟩
 ·exact ⟨ZcK v,rfl⟩
 ·exact ⟨ZcK v,rfl⟩
theorem ev43_a (p1 q1 p2 q2:Bool) (w1 w2:Nat->Bool) (l1 l2:Nat->List Int) (a b c x y z d e f u v r:Rat) (h:J.okSw a b c x y z d e f u v r):Ev M1 (.pure 43 [crvF p1 q1 w1 l1 a b c x y z,crvF p2 q2 w2 l2 d e f u v r]) (.tup [.vec false 20 ((J.Zcv p1 p2 a b c x y z d e f u v r).map Pnt.a),.int .i64 (J.ZdJ p1 p2 a b c x y z d e f u v r)]) []:=by
 obtain ⟨⟨⟨h1,n1⟩,h2⟩,⟨h3,n3⟩,h4⟩:=h
 refine call43 (mSup _ _ _ _ _ _ _ _ _ _ _ _ _ _ _ _ _ _ _ _ _ ⟨fun k=>⟨⟨h2,h4⟩,?_⟩,fun k=>⟨fun j=>⟨⟨ln_I2 h3 n3,Zhw h2,(ZbX h2).2.2⟩,?_⟩,fun j=>⟨fun i=>⟨⟨⟨okI3_S h1,n1⟩,Zhw h4,(ZbX h4).2.2⟩,?_⟩,fun i=>⟨⟨okI3_S h1,ZbX h3⟩,?_⟩⟩⟩⟩)
 ·rw [k.1,k.2];exact .refl _
 ·rw [j,show p2=false by cases p2 with | false=>rfl | true=>exact absurd ⟨j,rfl⟩ k];exact .refl _
 ·rw [i,show p1=false by simpa using j];exact .refl _
 ·rw [show p2=false by simpa using i,show p1=false by simpa using j];exact .refl _
end Go.Av

namespace Go.Av
open Go.Proofs
set_option maxRecDepth 100000
def fi10:Fi:=⟨135,[.tmp 6]⟩
def kp10:List (Nat × List Nat):=[(0,[2,3,4]),(1,[2,3,4,47]),(2,[6]),(3,[2,3,4,7,8]),(4,[2,3,4,7,8,9,10]),(5,[2,3,4,7,8,66]),(6,[6]),(7,[2,3,4,7,8,67,68,69]),(8,[2,3,4,7,8,67,68,69,70]),(9,[2,3,4,7,8,12,67,68,69]),(10,[2,3,4,7,8,12,67,68,69,75,76,77]),(11,[2,3,4,7,8,12,67,68,69,75,76,77,78]),(12,[2,3,4,7,8,12,14,67,68,69,75,76,77]),(13,[2,3,4,7,8,12,67,68,69,75,76,77,101]),(14,[6]),(15,[2,3,4,7,8,12,67,68,69,75,76,77]),(16,[2,3,4,7,8,67,68,69]),(17,[3,4,7,8,15]),(18,[3,4,7,8]),(19,[7,8,16,17]),(20,[6])]
def lwOn_at (p1 q1 p2 q2:Bool) (w1 w2:Nat->Bool) (l1 l2:Nat->List Int) (a b c x y z d e f u v r:Rat) (k:Int) (Q:AV->Heap->Prop):Prop:=Wp M1 (.run fi10 (atC (cd Tryz.f10) []) [(0,crvF p1 q1 w1 l1 a b c x y z),(1,crvF p2 q2 w2 l2 d e f u v r),(2,.int .i8 k)] []) Q
def lwOnR_at (p1 q1 p2 q2:Bool) (w1 w2:Nat->Bool) (l1 l2:Nat->List Int) (s1 t1 f1 g1 s2 t2 f2 g2 s3 t3 f3 g3 s4 t4 f4 g4 s5 t5 f5 g5 s6 t6 f6 g6 s7 t7 f7 g7 s8 t8 f8 g8 s9 t9 f9 g9 s10 t10 f10 g10 s11 t11 f11 g11 s12 t12 f12 g12:Bool) (x1 y1 x2 y2 x3 y3 x4 y4 x5 y5 x6 y6 x7 y7 x8 y8 x9 y9 x10 y10 x11 y11 x12 y12:List Int) (k:Int) (Q:AV->Heap->Prop):Prop:=Wp M1 (.run fi10 (atC (cd Tryz.f10) []) [(0,.agg (.bool p1::.bool s1::.vec f1 1 (x1.map (.int .u32))::.bool t1::.vec g1 1 (y1.map (.int .u32))::.bool s2::.vec f2 1 (x2.map (.int .u32))::.bool t2::.vec g2 1 (y2.map (.int .u32))::.bool s3::.vec f3 1 (x3.map (.int .u32))::.bool t3::.vec g3 1 (y3.map (.int .u32))::.bool s4::.vec f4 1 (x4.map (.int .u32))::.bool t4::.vec g4 1 (y4.map (.int .u32))::.bool s5::.vec f5 1 (x5.map (.int .u32))::.bool t5::.vec g5 1 (y5.map (.int .u32))::.bool s6::.vec f6 1 (x6.map (.int .u32))::.bool t6::.vec g6 1 (y6.map (.int .u32))::.bool q1::w20 w1 l1)),(1,.agg (.bool p2::.bool s7::.vec f7 1 (x7.map (.int .u32))::.bool t7::.vec g7 1 (y7.map (.int .u32))::.bool s8::.vec f8 1 (x8.map (.int .u32))::.bool t8::.vec g8 1 (y8.map (.int .u32))::.bool s9::.vec f9 1 (x9.map (.int .u32))::.bool t9::.vec g9 1 (y9.map (.int .u32))::.bool s10::.vec f10 1 (x10.map (.int .u32))::.bool t10::.vec g10 1 (y10.map (.int .u32))::.bool s11::.vec f11 1 (x11.map (.int .u32))::.bool t11::.vec g11 1 (y11.map (.int .u32))::.bool s12::.vec f12 1 (x12.map (.int .u32))::.bool t12::.vec g12 1 (y12.map (.int .u32))::.bool q2::w20 w2 l2)),(2,.int .i8 k)] []) Q
def Ze9 (p1 q1 p2 q2:Bool) (w1 w2:Nat->Bool) (l1 l2:Nat->List Int) (a b c x y z d e f u v r:Rat) (k ee n i:Int) (l:List Pnt) (Q:AV->Heap->Prop):Prop:=Wp M1 (.run fi10 (atC (cd Tryz.f10) [1,1,1,1,1,0,1,0,0]) [(2,.int .i8 k),(3,.ptr 0 0 0 0),(4,.ptr 1 0 0 0),(7,.vec false 20 (l.map Pnt.a)),(8,.int .i64 ee),(67,.vec false 20 (l.map Pnt.a)),(68,.int .i64 n),(69,.int .i64 i)] [⟨[crvF p1 q1 w1 l1 a b c x y z],66,0,false,false⟩,⟨[crvF p2 q2 w2 l2 d e f u v r],66,0,false,false⟩]) Q
def ZgS (p1 q1 p2 q2:Bool) (w1 w2:Nat->Bool) (l1 l2:Nat->List Int) (a b c x y z d e f u v r:Rat) (k ee n i:Int) (l:List Pnt) (P:Pnt) (Q:AV->Heap->Prop):Prop:=Wp M1 (.run fi10 (atC (cd Tryz.f10) [1,1,1,1,1,0,1,0,0,1,1,0,0,1,1,0,0]) [(2,.int .i8 k),(3,.ptr 0 0 0 0),(4,.ptr 1 0 0 0),(7,.vec false 20 (l.map Pnt.a)),(8,.int .i64 ee),(12,.ptr 2 0 0 0),(67,.vec false 20 (l.map Pnt.a)),(68,.int .i64 n),(69,.int .i64 i),(75,.vec true 66 [crvF p1 q1 w1 l1 a b c x y z,crvF p2 q2 w2 l2 d e f u v r]),(76,.int .i64 2),(77,.int .i64 0)] [⟨[crvF p1 q1 w1 l1 a b c x y z],66,0,false,false⟩,⟨[crvF p2 q2 w2 l2 d e f u v r],66,0,false,false⟩,⟨[.agg [.bool (J.Zaa P.ax.num),.vec false 1 ((J.Zab P.ax.num).map (.int .u32)),.bool (J.Zaa (P.ax.den:Int)),.vec false 1 ((J.Zab (P.ax.den:Int)).map (.int .u32)),.bool (J.Zaa P.bx.num),.vec false 1 ((J.Zab P.bx.num).map (.int .u32)),.bool (J.Zaa (P.bx.den:Int)),.vec false 1 ((J.Zab (P.bx.den:Int)).map (.int .u32)),.bool (J.Zaa P.ay.num),.vec false 1 ((J.Zab P.ay.num).map (.int .u32)),.bool (J.Zaa (P.ay.den:Int)),.vec false 1 ((J.Zab (P.ay.den:Int)).map (.int .u32)),.bool (J.Zaa P.by_.num),.vec false 1 ((J.Zab P.by_.num).map (.int .u32)),.bool (J.Zaa (P.by_.den:Int)),.vec false 1 ((J.Zab (P.by_.den:Int)).map (.int .u32)),.bool (J.Zaa P.c.num),.vec false 1 ((J.Zab P.c.num).map (.int .u32)),.bool (J.Zaa (P.c.den:Int)),.vec false 1 ((J.Zab (P.c.den:Int)).map (.int .u32))]],20,0,false,false⟩]) Q
def ZgR (p1 q1 p2 q2:Bool) (w1 w2:Nat->Bool) (l1 l2:Nat->List Int) (a b c x y z d e f u v r:Rat) (k ee n i:Int) (l:List Pnt) (P:Pnt) (Q:AV->Heap->Prop):Prop:=Wp M1 (.run fi10 (atC (cd Tryz.f10) [1,1,1,1,1,0,1,0,0,1,1,0,0,1,1,0,0]) [(2,.int .i8 k),(3,.ptr 0 0 0 0),(4,.ptr 1 0 0 0),(7,.vec false 20 (l.map Pnt.a)),(8,.int .i64 ee),(12,.ptr 2 0 0 0),(67,.vec false 20 (l.map Pnt.a)),(68,.int .i64 n),(69,.int .i64 i),(75,.vec true 66 [crvF p1 q1 w1 l1 a b c x y z,crvF p2 q2 w2 l2 d e f u v r]),(76,.int .i64 2),(77,.int .i64 1)] [⟨[crvF p1 q1 w1 l1 a b c x y z],66,0,false,false⟩,⟨[crvF p2 q2 w2 l2 d e f u v r],66,0,false,false⟩,⟨[.agg [.bool (J.Zaa P.ax.num),.vec false 1 ((J.Zab P.ax.num).map (.int .u32)),.bool (J.Zaa (P.ax.den:Int)),.vec false 1 ((J.Zab (P.ax.den:Int)).map (.int .u32)),.bool (J.Zaa P.bx.num),.vec false 1 ((J.Zab P.bx.num).map (.int .u32)),.bool (J.Zaa (P.bx.den:Int)),.vec false 1 ((J.Zab (P.bx.den:Int)).map (.int .u32)),.bool (J.Zaa P.ay.num),.vec false 1 ((J.Zab P.ay.num).map (.int .u32)),.bool (J.Zaa (P.ay.den:Int)),.vec false 1 ((J.Zab (P.ay.den:Int)).map (.int .u32)),.bool (J.Zaa P.by_.num),.vec false 1 ((J.Zab P.by_.num).map (.int .u32)),.bool (J.Zaa (P.by_.den:Int)),.vec false 1 ((J.Zab (P.by_.den:Int)).map (.int .u32)),.bool (J.Zaa P.c.num),.vec false 1 ((J.Zab P.c.num).map (.int .u32)),.bool (J.Zaa (P.c.den:Int)),.vec false 1 ((J.Zab (P.c.den:Int)).map (.int .u32))]],20,0,false,false⟩]) Q
def ZgQ (p1 q1 p2 q2:Bool) (w1 w2:Nat->Bool) (l1 l2:Nat->List Int) (a b c x y z d e f u v r:Rat) (k ee n i:Int) (l:List Pnt) (P:Pnt) (Q:AV->Heap->Prop):Prop:=Wp M1 (.run fi10 (atC (cd Tryz.f10) [1,1,1,1,1,0,1,0,0,1,1,0,0,1,1,0,0]) [(2,.int .i8 k),(3,.ptr 0 0 0 0),(4,.ptr 1 0 0 0),(7,.vec false 20 (l.map Pnt.a)),(8,.int .i64 ee),(12,.ptr 2 0 0 0),(67,.vec false 20 (l.map Pnt.a)),(68,.int .i64 n),(69,.int .i64 i),(75,.vec true 66 [crvF p1 q1 w1 l1 a b c x y z,crvF p2 q2 w2 l2 d e f u v r]),(76,.int .i64 2),(77,.int .i64 2)] [⟨[crvF p1 q1 w1 l1 a b c x y z],66,0,false,false⟩,⟨[crvF p2 q2 w2 l2 d e f u v r],66,0,false,false⟩,⟨[.agg [.bool (J.Zaa P.ax.num),.vec false 1 ((J.Zab P.ax.num).map (.int .u32)),.bool (J.Zaa (P.ax.den:Int)),.vec false 1 ((J.Zab (P.ax.den:Int)).map (.int .u32)),.bool (J.Zaa P.bx.num),.vec false 1 ((J.Zab P.bx.num).map (.int .u32)),.bool (J.Zaa (P.bx.den:Int)),.vec false 1 ((J.Zab (P.bx.den:Int)).map (.int .u32)),.bool (J.Zaa P.ay.num),.vec false 1 ((J.Zab P.ay.num).map (.int .u32)),.bool (J.Zaa (P.ay.den:Int)),.vec false 1 ((J.Zab (P.ay.den:Int)).map (.int .u32)),.bool (J.Zaa P.by_.num),.vec false 1 ((J.Zab P.by_.num).map (.int .u32)),.bool (J.Zaa (P.by_.den:Int)),.vec false 1 ((J.Zab (P.by_.den:Int)).map (.int .u32)),.bool (J.Zaa P.c.num),.vec false 1 ((J.Zab P.c.num).map (.int .u32)),.bool (J.Zaa (P.c.den:Int)),.vec false 1 ((J.Zab (P.c.den:Int)).map (.int .u32))]],20,0,false,false⟩]) Q
theorem call10 {args:List AV} {d:AV} (h:wc M1 fi10 Tryz.f10 args d):Ev M1 (.pure 10 args) d []:=pcl _ _ (by kernel_rfl) h
noncomputable abbrev zNmP1 (p1:Bool) (a:Rat) (b:Rat) (c:Rat) (x:Rat) (y:Rat) (z:Rat) (q1:Bool) (w1:Nat->Bool) (l1:Nat->List Int):=ag (vb p1::vb (J.Zaa a.num)::vf (us (J.Zab a.num))::vb (J.Zaa (↑a.den:Int))::vf (us (J.Zab (↑a.den:Int)))::vb (J.Zaa b.num)::vf (us (J.Zab b.num))::vb (J.Zaa (↑b.den:Int))::vf (us (J.Zab (↑b.den:Int)))::vb (J.Zaa c.num)::vf (us (J.Zab c.num))::vb (J.Zaa (↑c.den:Int))::vf (us (J.Zab (↑c.den:Int)))::vb (J.Zaa x.num)::vf (us (J.Zab x.num))::vb (J.Zaa (↑x.den:Int))::vf (us (J.Zab (↑x.den:Int)))::vb (J.Zaa y.num)::vf (us (J.Zab y.num))::vb (J.Zaa (↑y.den:Int))::vf (us (J.Zab (↑y.den:Int)))::vb (J.Zaa z.num)::vf (us (J.Zab z.num))::vb (J.Zaa (↑z.den:Int))::vf (us (J.Zab (↑z.den:Int)))::vb q1::w20 w1 l1)
noncomputable abbrev zNmP2 (p2:Bool) (d:Rat) (e:Rat) (f:Rat) (u:Rat) (v:Rat) (r:Rat) (q2:Bool) (w2:Nat->Bool) (l2:Nat->List Int):=ag (vb p2::vb (J.Zaa d.num)::vf (us (J.Zab d.num))::vb (J.Zaa (↑d.den:Int))::vf (us (J.Zab (↑d.den:Int)))::vb (J.Zaa e.num)::vf (us (J.Zab e.num))::vb (J.Zaa (↑e.den:Int))::vf (us (J.Zab (↑e.den:Int)))::vb (J.Zaa f.num)::vf (us (J.Zab f.num))::vb (J.Zaa (↑f.den:Int))::vf (us (J.Zab (↑f.den:Int)))::vb (J.Zaa u.num)::vf (us (J.Zab u.num))::vb (J.Zaa (↑u.den:Int))::vf (us (J.Zab (↑u.den:Int)))::vb (J.Zaa v.num)::vf (us (J.Zab v.num))::vb (J.Zaa (↑v.den:Int))::vf (us (J.Zab (↑v.den:Int)))::vb (J.Zaa r.num)::vf (us (J.Zab r.num))::vb (J.Zaa (↑r.den:Int))::vf (us (J.Zab (↑r.den:Int)))::vb q2::w20 w2 l2)
noncomputable abbrev zNmP3 (a:Rat) (b:Rat) (c:Rat) (x:Rat) (y:Rat) (z:Rat) (d:Rat) (e:Rat) (f:Rat) (u:Rat) (v:Rat) (r:Rat) (k:Int):=bif bif bif bif !J.ZeA a b c then true else !J.ZfT x y z then true else !J.ZeA d e f then true else !J.ZfT u v r then true else k==0
noncomputable abbrev zNmP4 (a:Rat) (b:Rat) (c:Rat) (x:Rat) (y:Rat) (z:Rat) (d:Rat) (e:Rat) (f:Rat):=bif bif !J.ZeA a b c then true else !J.ZfT x y z then true else !J.ZeA d e f
noncomputable abbrev zNmP5 (x:Rat) (y:Rat) (z:Rat):=J.ZfT x y z
noncomputable abbrev zNmP6 (d:Rat) (e:Rat) (f:Rat):=J.ZeA d e f
noncomputable abbrev zNmP7 (u:Rat) (v:Rat) (r:Rat):=J.ZfT u v r
noncomputable abbrev zNmP8 (a:Rat) (b:Rat) (c:Rat) (x:Rat) (y:Rat) (z:Rat):=bif !J.ZeA a b c then true else !J.ZfT x y z
noncomputable abbrev zNmP9 (a:Rat) (b:Rat) (c:Rat):=J.ZeA a b c
theorem lwOn (p1 q1 p2 q2:Bool) (w1 w2:Nat->Bool) (l1 l2:Nat->List Int) (a b c x y z d e f u v r:Rat) (k:Int)  (dq:AV) (H :
  (J.Zh7 (J.Zab a.num) (J.Zab (↑a.den:Int)) (J.Zab b.num) (J.Zab (↑b.den:Int)) (J.Zab c.num) (J.Zab (↑c.den:Int))) /\
  ((¬(¬(J.ZeA a b c=true)))->(J.Zh7 (J.Zab x.num) (J.Zab (↑x.den:Int)) (J.Zab y.num) (J.Zab (↑y.den:Int)) (J.Zab z.num) (J.Zab (↑z.den:Int)))) /\
  ((¬((¬(J.ZeA a b c=true))\/(¬(J.ZfT x y z=true))))->(J.Zh7 (J.Zab d.num) (J.Zab (↑d.den:Int)) (J.Zab e.num) (J.Zab (↑e.den:Int)) (J.Zab f.num) (J.Zab (↑f.den:Int)))) /\
  ((¬(((¬(J.ZeA a b c=true))\/(¬(J.ZfT x y z=true)))\/(¬(J.ZeA d e f=true))))->(J.Zh7 (J.Zab u.num) (J.Zab (↑u.den:Int)) (J.Zab v.num) (J.Zab (↑v.den:Int)) (J.Zab r.num) (J.Zab (↑r.den:Int)))) /\
  ((((((¬(J.ZeA a b c=true))\/(¬(J.ZfT x y z=true)))\/(¬(J.ZeA d e f=true)))\/(¬(J.ZfT u v r=true)))\/(k=0))->vb true=dq) /\
  (¬(((((¬(J.ZeA a b c=true))\/(¬(J.ZfT x y z=true)))\/(¬(J.ZeA d e f=true)))\/(¬(J.ZfT u v r=true)))\/(k=0))->(J.okSu a b c x y z d e f u v r) /\
   (J.okSu d e f u v r a b c x y z) /\
   (J.Ze6 (J.Zcv p1 p2 a b c x y z d e f u v r)/\J.Ze6 (J.Zcv p2 p1 d e f u v r a b c x y z)) /\
   ((¬(J.smB (J.Zcv p1 p2 a b c x y z d e f u v r) (J.ZdJ p1 p2 a b c x y z d e f u v r) (J.Zcv p2 p1 d e f u v r a b c x y z) (J.ZdJ p2 p1 d e f u v r a b c x y z)=true))->vb false=dq) /\
   (¬(¬(J.smB (J.Zcv p1 p2 a b c x y z d e f u v r) (J.ZdJ p1 p2 a b c x y z d e f u v r) (J.Zcv p2 p1 d e f u v r a b c x y z) (J.ZdJ p2 p1 d e f u v r a b c x y z)=true))->Ze9 p1 q1 p2 q2 w1 w2 l1 l2 a b c x y z d e f u v r k (J.ZdJ p1 p2 a b c x y z d e f u v r) ((↑(J.Zcv p1 p2 a b c x y z d e f u v r).length:Int)) 0 (J.Zcv p1 p2 a b c x y z d e f u v r) (Zag dq)))) :
 lwOn_at p1 q1 p2 q2 w1 w2 l1 l2 a b c x y z d e f u v r k (Zag dq):=by
 unfold lwOn_at
 obtain ⟨k1,k3,k5,k7,H⟩:=H
 refine Zae (G:=Zad kp10 [(1,0,.call (vb true) none),(1,5,.call (vb (zNmP9 a b c)) none),(1,11,.call (vb (zNmP5 x y z)) none),(1,17,.call (vb (zNmP6 d e f)) none),(1,23,.call (vb (zNmP7 u v r)) none)] []) 5 [] ⟨(atC (cd Tryz.f10) [1,0,1]),[(2,AV.int IntKind.i8 k),(3,AV.ptr 0 0 0 0),(4,AV.ptr 1 0 0 0),(47,vb (zNmP3 a b c x y z d e f u v r k))],[⟨[(zNmP1 p1 a b c x y z q1 w1 l1)],66,0,false,false⟩,⟨[(zNmP2 p2 d e f u v r q2 w2 l2)],66,0,false,false⟩],[true,!((!J.ZeA a b c)==false&&true)||true,!((zNmP8 a b c x y z)==false&&true)||true,!((zNmP4 a b c x y z d e f)==false&&true)||true],[],[⟨true,false,11,[],[],vb true,[]⟩,⟨true,false,12,[Zau a b c],[],vb (zNmP9 a b c),[]⟩,⟨(!J.ZeA a b c)==false&&true&&true,false,16,[Zau x y z],[],vb (zNmP5 x y z),[]⟩,⟨(zNmP8 a b c x y z)==false&&true&&true,false,12,[Zau d e f],[],vb (zNmP6 d e f),[]⟩,⟨(zNmP4 a b c x y z d e f)==false&&true&&true,false,16,[Zau u v r],[],vb (zNmP7 u v r),[]⟩]⟩ (by kernel_rfl) (bc rfl (bc (Bool.or_true _) (bc (Bool.or_true _) (bc (Bool.or_true _) b0)))) q0 (cc (fun _=>(@ev11 )) (cc (fun _=>(@ev12 (J.Zaa a.num) (J.Zaa (↑a.den:Int)) false false (J.Zaa b.num) (J.Zaa (↑b.den:Int)) false false (J.Zaa c.num) (J.Zaa (↑c.den:Int)) false false (J.Zab a.num) (J.Zab (↑a.den:Int)) (J.Zab b.num) (J.Zab (↑b.den:Int)) (J.Zab c.num) (J.Zab (↑c.den:Int)) k1)) (cc (fun hc=>((@ev16 (J.Zaa x.num) (J.Zaa (↑x.den:Int)) false false (J.Zaa y.num) (J.Zaa (↑y.den:Int)) false false (J.Zaa z.num) (J.Zaa (↑z.den:Int)) false false (J.Zab x.num) (J.Zab (↑x.den:Int)) (J.Zab y.num) (J.Zab (↑y.den:Int)) (J.Zab z.num) (J.Zab (↑z.den:Int)) (k3 ((i_at (i_at (i_bf (ZaH (Zas _))))).1 hc))):Ev M1 (Conf.pure 16 [Zau x y z]) (vb (zNmP5 x y z)) [])) (cc (fun hc=>((@ev12 (J.Zaa d.num) (J.Zaa (↑d.den:Int)) false false (J.Zaa e.num) (J.Zaa (↑e.den:Int)) false false (J.Zaa f.num) (J.Zaa (↑f.den:Int)) false false (J.Zab d.num) (J.Zab (↑d.den:Int)) (J.Zab e.num) (J.Zab (↑e.den:Int)) (J.Zab f.num) (J.Zab (↑f.den:Int)) (k5 ((i_at (i_at (i_bf (ZaM (ZaH (Zas _)) (ZaH (Zas _)))))).1 hc))):Ev M1 (Conf.pure 12 [Zau d e f]) (vb (zNmP6 d e f)) [])) (cc (fun hc=>((@ev16 (J.Zaa u.num) (J.Zaa (↑u.den:Int)) false false (J.Zaa v.num) (J.Zaa (↑v.den:Int)) false false (J.Zaa r.num) (J.Zaa (↑r.den:Int)) false false (J.Zab u.num) (J.Zab (↑u.den:Int)) (J.Zab v.num) (J.Zab (↑v.den:Int)) (J.Zab r.num) (J.Zab (↑r.den:Int)) (k7 ((i_at (i_at (i_bf (ZaM (ZaM (ZaH (Zas _)) (ZaH (Zas _))) (ZaH (Zas _)))))).1 hc))):Ev M1 (Conf.pure 16 [Zau u v r]) (vb (zNmP7 u v r)) [])) c0))))) ?_
 rcases xq H with ⟨d9,H⟩|⟨d9,H⟩
 ·exact Zao (G:=Zad kp10 [(2,0,.call (vb true) none)] []) 1000 [true] (asm:=[(zNmP3 a b c x y z d e f u v r k)==true]) (vb true) (by kernel_rfl) (bc (Zaq ((ZaM (ZaM (ZaM (ZaM (ZaH (Zas _)) (ZaH (Zas _))) (ZaH (Zas _))) (ZaH (Zas _))) i_eq).2 d9)) b0) q0 (ce (@ev11 ) c0) H
 ·obtain ⟨k10,k11,k12,H⟩:=H
  refine Zae (G:=Zad kp10 [(3,2,.call (tu [AV.vec false 20 (List.map Pnt.a (J.Zcv p1 p2 a b c x y z d e f u v r)),vi (J.ZdJ p1 p2 a b c x y z d e f u v r)]) none),(4,2,.call (tu [AV.vec false 20 (List.map Pnt.a (J.Zcv p2 p1 d e f u v r a b c x y z)),vi (J.ZdJ p2 p1 d e f u v r a b c x y z)]) none),(5,4,.call (vb (J.smB (J.Zcv p1 p2 a b c x y z d e f u v r) (J.ZdJ p1 p2 a b c x y z d e f u v r) (J.Zcv p2 p1 d e f u v r a b c x y z) (J.ZdJ p2 p1 d e f u v r a b c x y z))) none)] []) 9 [false] ⟨(atC (cd Tryz.f10) [1,1,1,1,0,1]),[(2,AV.int IntKind.i8 k),(3,AV.ptr 0 0 0 0),(4,AV.ptr 1 0 0 0),(7,AV.vec false 20 (List.map Pnt.a (J.Zcv p1 p2 a b c x y z d e f u v r))),(8,vi (J.ZdJ p1 p2 a b c x y z d e f u v r)),(66,vb !J.smB (J.Zcv p1 p2 a b c x y z d e f u v r) (J.ZdJ p1 p2 a b c x y z d e f u v r) (J.Zcv p2 p1 d e f u v r a b c x y z) (J.ZdJ p2 p1 d e f u v r a b c x y z))],[⟨[(zNmP1 p1 a b c x y z q1 w1 l1)],66,0,false,false⟩,⟨[(zNmP2 p2 d e f u v r q2 w2 l2)],66,0,false,false⟩],[(zNmP3 a b c x y z d e f u v r k)==false,true,true,true,true],[],_⟩ (by kernel_rfl) (bc (Zam (fun h=>d9 ((ZaM (ZaM (ZaM (ZaM (ZaH (Zas _)) (ZaH (Zas _))) (ZaH (Zas _))) (ZaH (Zas _))) i_eq).1 h))) (bc rfl (bc rfl (bc rfl (bc rfl b0))))) q0 (ce (@ev43 p1 q1 p2 q2 w1 w2 l1 l2 a b c x y z d e f u v r k10) (ce (@ev43 p2 q2 p1 q1 w2 w1 l2 l1 d e f u v r a b c x y z k11) (ce (@ev15 false false (J.Zcv p1 p2 a b c x y z d e f u v r) (J.Zcv p2 p1 d e f u v r a b c x y z) (J.ZdJ p1 p2 a b c x y z d e f u v r) (J.ZdJ p2 p1 d e f u v r a b c x y z) k12) c0))) ?_
  rcases xq H with ⟨d14,H⟩|⟨d14,H⟩
  ·exact Zao (G:=Zad kp10 [] []) 1000 [true] (asm:=[(!J.smB (J.Zcv p1 p2 a b c x y z d e f u v r) (J.ZdJ p1 p2 a b c x y z d e f u v r) (J.Zcv p2 p1 d e f u v r a b c x y z) (J.ZdJ p2 p1 d e f u v r a b c x y z))==true]) (vb false) (by kernel_rfl) (bc (Zaq ((ZaH (Zas _)).2 d14)) b0) q0 c0 H
  ·have w15:(List.map Pnt.a (J.Zcv p1 p2 a b c x y z d e f u v r)).length=(J.Zcv p1 p2 a b c x y z d e f u v r).length:=List.length_map ..
   exact Zae (G:=Zad kp10 [] []) 1000 [false] ⟨(atC (cd Tryz.f10) [1,1,1,1,1,0,1,0,0]),[(2,AV.int IntKind.i8 k),(3,AV.ptr 0 0 0 0),(4,AV.ptr 1 0 0 0),(7,AV.vec false 20 (List.map Pnt.a (J.Zcv p1 p2 a b c x y z d e f u v r))),(8,vi (J.ZdJ p1 p2 a b c x y z d e f u v r)),(67,AV.vec false 20 (List.map Pnt.a (J.Zcv p1 p2 a b c x y z d e f u v r))),(68,vi (↑(List.map Pnt.a (J.Zcv p1 p2 a b c x y z d e f u v r)).length:Int)),(69,vi 0)],[⟨[(zNmP1 p1 a b c x y z q1 w1 l1)],66,0,false,false⟩,⟨[(zNmP2 p2 d e f u v r q2 w2 l2)],66,0,false,false⟩],[(!J.smB (J.Zcv p1 p2 a b c x y z d e f u v r) (J.ZdJ p1 p2 a b c x y z d e f u v r) (J.Zcv p2 p1 d e f u v r a b c x y z) (J.ZdJ p2 p1 d e f u v r a b c x y z))==false],[],_⟩ (by kernel_rfl) (bc (Zam (fun h=>d14 ((ZaH (Zas _)).1 h))) b0) q0 c0 (by (try rw [w15]);all_goals exact H)
theorem lwOnR (p1 q1 p2 q2:Bool) (w1 w2:Nat->Bool) (l1 l2:Nat->List Int) (s1 t1 f1 g1 s2 t2 f2 g2 s3 t3 f3 g3 s4 t4 f4 g4 s5 t5 f5 g5 s6 t6 f6 g6 s7 t7 f7 g7 s8 t8 f8 g8 s9 t9 f9 g9 s10 t10 f10 g10 s11 t11 f11 g11 s12 t12 f12 g12:Bool) (x1 y1 x2 y2 x3 y3 x4 y4 x5 y5 x6 y6 x7 y7 x8 y8 x9 y9 x10 y10 x11 y11 x12 y12:List Int) (k:Int)  (dq:AV) (H :
  (J.Zh7 x1 y1 x2 y2 x3 y3) /\
  ((¬(¬(J.ZcU s1 t1 s2 t2 s3 t3 x1 y1 x2 y2 x3 y3=true)))->(J.Zh7 x4 y4 x5 y5 x6 y6)) /\
  ((¬((¬(J.ZcU s1 t1 s2 t2 s3 t3 x1 y1 x2 y2 x3 y3=true))\/(¬(J.Zdp s4 t4 s5 t5 s6 t6 x4 y4 x5 y5 x6 y6=true))))->(J.Zh7 x7 y7 x8 y8 x9 y9)) /\
  ((¬(((¬(J.ZcU s1 t1 s2 t2 s3 t3 x1 y1 x2 y2 x3 y3=true))\/(¬(J.Zdp s4 t4 s5 t5 s6 t6 x4 y4 x5 y5 x6 y6=true)))\/(¬(J.ZcU s7 t7 s8 t8 s9 t9 x7 y7 x8 y8 x9 y9=true))))->(J.Zh7 x10 y10 x11 y11 x12 y12)) /\
  ((((((¬(J.ZcU s1 t1 s2 t2 s3 t3 x1 y1 x2 y2 x3 y3=true))\/(¬(J.Zdp s4 t4 s5 t5 s6 t6 x4 y4 x5 y5 x6 y6=true)))\/(¬(J.ZcU s7 t7 s8 t8 s9 t9 x7 y7 x8 y8 x9 y9=true)))\/(¬(J.Zdp s10 t10 s11 t11 s12 t12 x10 y10 x11 y11 x12 y12=true)))\/(k=0))->vb true=dq) /\
  (¬(((((¬(J.ZcU s1 t1 s2 t2 s3 t3 x1 y1 x2 y2 x3 y3=true))\/(¬(J.Zdp s4 t4 s5 t5 s6 t6 x4 y4 x5 y5 x6 y6=true)))\/(¬(J.ZcU s7 t7 s8 t8 s9 t9 x7 y7 x8 y8 x9 y9=true)))\/(¬(J.Zdp s10 t10 s11 t11 s12 t12 x10 y10 x11 y11 x12 y12=true)))\/(k=0))->False)) :
 lwOnR_at p1 q1 p2 q2 w1 w2 l1 l2 s1 t1 f1 g1 s2 t2 f2 g2 s3 t3 f3 g3 s4 t4 f4 g4 s5 t5 f5 g5 s6 t6 f6 g6 s7 t7 f7 g7 s8 t8 f8 g8 s9 t9 f9 g9 s10 t10 f10 g10 s11 t11 f11 g11 s12 t12 f12 g12 x1 y1 x2 y2 x3 y3 x4 y4 x5 y5 x6 y6 x7 y7 x8 y8 x9 y9 x10 y10 x11 y11 x12 y12 k (Zag dq):=by
 unfold lwOnR_at
 obtain ⟨k1,k3,k5,k7,H⟩:=H
 refine Zae (G:=Zad kp10 [(1,0,.call (vb true) none),(1,5,.call (vb (J.ZcU s1 t1 s2 t2 s3 t3 x1 y1 x2 y2 x3 y3)) none),(1,11,.call (vb (J.Zdp s4 t4 s5 t5 s6 t6 x4 y4 x5 y5 x6 y6)) none),(1,17,.call (vb (J.ZcU s7 t7 s8 t8 s9 t9 x7 y7 x8 y8 x9 y9)) none),(1,23,.call (vb (J.Zdp s10 t10 s11 t11 s12 t12 x10 y10 x11 y11 x12 y12)) none)] []) 5 [] ⟨(atC (cd Tryz.f10) [1,0,1]),[(2,AV.int IntKind.i8 k),(3,AV.ptr 0 0 0 0),(4,AV.ptr 1 0 0 0),(47,vb (bif bif bif bif !J.ZcU s1 t1 s2 t2 s3 t3 x1 y1 x2 y2 x3 y3 then true else !J.Zdp s4 t4 s5 t5 s6 t6 x4 y4 x5 y5 x6 y6 then true else !J.ZcU s7 t7 s8 t8 s9 t9 x7 y7 x8 y8 x9 y9 then true else !J.Zdp s10 t10 s11 t11 s12 t12 x10 y10 x11 y11 x12 y12 then true else k==0))],[⟨[ag (vb p1::vb s1::AV.vec f1 1 (us x1)::vb t1::AV.vec g1 1 (us y1)::vb s2::AV.vec f2 1 (us x2)::vb t2::AV.vec g2 1 (us y2)::vb s3::AV.vec f3 1 (us x3)::vb t3::AV.vec g3 1 (us y3)::vb s4::AV.vec f4 1 (us x4)::vb t4::AV.vec g4 1 (us y4)::vb s5::AV.vec f5 1 (us x5)::vb t5::AV.vec g5 1 (us y5)::vb s6::AV.vec f6 1 (us x6)::vb t6::AV.vec g6 1 (us y6)::vb q1::w20 w1 l1)],66,0,false,false⟩,⟨[ag (vb p2::vb s7::AV.vec f7 1 (us x7)::vb t7::AV.vec g7 1 (us y7)::vb s8::AV.vec f8 1 (us x8)::vb t8::AV.vec g8 1 (us y8)::vb s9::AV.vec f9 1 (us x9)::vb t9::AV.vec g9 1 (us y9)::vb s10::AV.vec f10 1 (us x10)::vb t10::AV.vec g10 1 (us y10)::vb s11::AV.vec f11 1 (us x11)::vb t11::AV.vec g11 1 (us y11)::vb s12::AV.vec f12 1 (us x12)::vb t12::AV.vec g12 1 (us y12)::vb q2::w20 w2 l2)],66,0,false,false⟩],[true,!((!J.ZcU s1 t1 s2 t2 s3 t3 x1 y1 x2 y2 x3 y3)==false&&true)||true,!((bif !J.ZcU s1 t1 s2 t2 s3 t3 x1 y1 x2 y2 x3 y3 then true else !J.Zdp s4 t4 s5 t5 s6 t6 x4 y4 x5 y5 x6 y6)==false&&true)||true,!((bif bif !J.ZcU s1 t1 s2 t2 s3 t3 x1 y1 x2 y2 x3 y3 then true else !J.Zdp s4 t4 s5 t5 s6 t6 x4 y4 x5 y5 x6 y6 then true else !J.ZcU s7 t7 s8 t8 s9 t9 x7 y7 x8 y8 x9 y9)==false&&true)||true],[],[⟨true,false,11,[],[],vb true,[]⟩,⟨true,false,12,[ag [vb s1,AV.vec f1 1 (us x1),vb t1,AV.vec g1 1 (us y1),vb s2,AV.vec f2 1 (us x2),vb t2,AV.vec g2 1 (us y2),vb s3,AV.vec f3 1 (us x3),vb t3,AV.vec g3 1 (us y3)]],[],vb (J.ZcU s1 t1 s2 t2 s3 t3 x1 y1 x2 y2 x3 y3),[]⟩,⟨(!J.ZcU s1 t1 s2 t2 s3 t3 x1 y1 x2 y2 x3 y3)==false&&true&&true,false,16,[ag [vb s4,AV.vec f4 1 (us x4),vb t4,AV.vec g4 1 (us y4),vb s5,AV.vec f5 1 (us x5),vb t5,AV.vec g5 1 (us y5),vb s6,AV.vec f6 1 (us x6),vb t6,AV.vec g6 1 (us y6)]],[],vb (J.Zdp s4 t4 s5 t5 s6 t6 x4 y4 x5 y5 x6 y6),[]⟩,⟨(bif !J.ZcU s1 t1 s2 t2 s3 t3 x1 y1 x2 y2 x3 y3 then true else !J.Zdp s4 t4 s5 t5 s6 t6 x4 y4 x5 y5 x6 y6)==false&&true&&true,false,12,[ag [vb s7,AV.vec f7 1 (us x7),vb t7,AV.vec g7 1 (us y7),vb s8,AV.vec f8 1 (us x8),vb t8,AV.vec g8 1 (us y8),vb s9,AV.vec f9 1 (us x9),vb t9,AV.vec g9 1 (us y9)]],[],vb (J.ZcU s7 t7 s8 t8 s9 t9 x7 y7 x8 y8 x9 y9),[]⟩,⟨(bif bif !J.ZcU s1 t1 s2 t2 s3 t3 x1 y1 x2 y2 x3 y3 then true else !J.Zdp s4 t4 s5 t5 s6 t6 x4 y4 x5 y5 x6 y6 then true else !J.ZcU s7 t7 s8 t8 s9 t9 x7 y7 x8 y8 x9 y9)==false&&true&&true,false,16,[ag [vb s10,AV.vec f10 1 (us x10),vb t10,AV.vec g10 1 (us y10),vb s11,AV.vec f11 1 (us x11),vb t11,AV.vec g11 1 (us y11),vb s12,AV.vec f12 1 (us x12),vb t12,AV.vec g12 1 (us y12)]],[],vb (J.Zdp s10 t10 s11 t11 s12 t12 x10 y10 x11 y11 x12 y12),[]⟩]⟩ (by kernel_rfl) (bc rfl (bc (Bool.or_true _) (bc (Bool.or_true _) (bc (Bool.or_true _) b0)))) q0 (cc (fun _=>(@ev11 )) (cc (fun _=>(@ev12 s1 t1 f1 g1 s2 t2 f2 g2 s3 t3 f3 g3 x1 y1 x2 y2 x3 y3 k1)) (cc (fun hc=>((@ev16 s4 t4 f4 g4 s5 t5 f5 g5 s6 t6 f6 g6 x4 y4 x5 y5 x6 y6 (k3 ((i_at (i_at (i_bf (ZaH (Zas _))))).1 hc))):Ev M1 (Conf.pure 16 [ag [vb s4,AV.vec f4 1 (us x4),vb t4,AV.vec g4 1 (us y4),vb s5,AV.vec f5 1 (us x5),vb t5,AV.vec g5 1 (us y5),vb s6,AV.vec f6 1 (us x6),vb t6,AV.vec g6 1 (us y6)]]) (vb (J.Zdp s4 t4 s5 t5 s6 t6 x4 y4 x5 y5 x6 y6)) [])) (cc (fun hc=>((@ev12 s7 t7 f7 g7 s8 t8 f8 g8 s9 t9 f9 g9 x7 y7 x8 y8 x9 y9 (k5 ((i_at (i_at (i_bf (ZaM (ZaH (Zas _)) (ZaH (Zas _)))))).1 hc))):Ev M1 (Conf.pure 12 [ag [vb s7,AV.vec f7 1 (us x7),vb t7,AV.vec g7 1 (us y7),vb s8,AV.vec f8 1 (us x8),vb t8,AV.vec g8 1 (us y8),vb s9,AV.vec f9 1 (us x9),vb t9,AV.vec g9 1 (us y9)]]) (vb (J.ZcU s7 t7 s8 t8 s9 t9 x7 y7 x8 y8 x9 y9)) [])) (cc (fun hc=>((@ev16 s10 t10 f10 g10 s11 t11 f11 g11 s12 t12 f12 g12 x10 y10 x11 y11 x12 y12 (k7 ((i_at (i_at (i_bf (ZaM (ZaM (ZaH (Zas _)) (ZaH (Zas _))) (ZaH (Zas _)))))).1 hc))):Ev M1 (Conf.pure 16 [ag [vb s10,AV.vec f10 1 (us x10),vb t10,AV.vec g10 1 (us y10),vb s11,AV.vec f11 1 (us x11),vb t11,AV.vec g11 1 (us y11),vb s12,AV.vec f12 1 (us x12),vb t12,AV.vec g12 1 (us y12)]]) (vb (J.Zdp s10 t10 s11 t11 s12 t12 x10 y10 x11 y11 x12 y12)) [])) c0))))) ?_
 rcases xq H with ⟨d9,H⟩|⟨d9,H⟩
 ·exact Zao (G:=Zad kp10 [(2,0,.call (vb true) none)] []) 1000 [true] (asm:=[(bif bif bif bif !J.ZcU s1 t1 s2 t2 s3 t3 x1 y1 x2 y2 x3 y3 then true else !J.Zdp s4 t4 s5 t5 s6 t6 x4 y4 x5 y5 x6 y6 then true else !J.ZcU s7 t7 s8 t8 s9 t9 x7 y7 x8 y8 x9 y9 then true else !J.Zdp s10 t10 s11 t11 s12 t12 x10 y10 x11 y11 x12 y12 then true else k==0)==true]) (vb true) (by kernel_rfl) (bc (Zaq ((ZaM (ZaM (ZaM (ZaM (ZaH (Zas _)) (ZaH (Zas _))) (ZaH (Zas _))) (ZaH (Zas _))) i_eq).2 d9)) b0) q0 (ce (@ev11 ) c0) H
 ·exact False.elim H
noncomputable abbrev zNmP10 (p2:Bool) (d:Rat) (e:Rat) (f:Rat) (u:Rat) (v:Rat) (r:Rat) (q2:Bool) (w2:Nat->Bool) (l2:Nat->List Int):=ag (vb p2::vb (J.Zaa d.num)::vf (us (J.Zab d.num))::vb (J.Zaa (↑d.den:Int))::vf (us (J.Zab (↑d.den:Int)))::vb (J.Zaa e.num)::vf (us (J.Zab e.num))::vb (J.Zaa (↑e.den:Int))::vf (us (J.Zab (↑e.den:Int)))::vb (J.Zaa f.num)::vf (us (J.Zab f.num))::vb (J.Zaa (↑f.den:Int))::vf (us (J.Zab (↑f.den:Int)))::vb (J.Zaa u.num)::vf (us (J.Zab u.num))::vb (J.Zaa (↑u.den:Int))::vf (us (J.Zab (↑u.den:Int)))::vb (J.Zaa v.num)::vf (us (J.Zab v.num))::vb (J.Zaa (↑v.den:Int))::vf (us (J.Zab (↑v.den:Int)))::vb (J.Zaa r.num)::vf (us (J.Zab r.num))::vb (J.Zaa (↑r.den:Int))::vf (us (J.Zab (↑r.den:Int)))::vb q2::w20 w2 l2)
noncomputable abbrev zNmP11 (l:List Pnt) (i:Int):=(Pnt.a (l.getD i.toNat default))
noncomputable abbrev zNmP12 (p1:Bool) (a:Rat) (b:Rat) (c:Rat) (x:Rat) (y:Rat) (z:Rat) (q1:Bool) (w1:Nat->Bool) (l1:Nat->List Int):=ag (vb p1::vb (J.Zaa a.num)::vf (us (J.Zab a.num))::vb (J.Zaa (↑a.den:Int))::vf (us (J.Zab (↑a.den:Int)))::vb (J.Zaa b.num)::vf (us (J.Zab b.num))::vb (J.Zaa (↑b.den:Int))::vf (us (J.Zab (↑b.den:Int)))::vb (J.Zaa c.num)::vf (us (J.Zab c.num))::vb (J.Zaa (↑c.den:Int))::vf (us (J.Zab (↑c.den:Int)))::vb (J.Zaa x.num)::vf (us (J.Zab x.num))::vb (J.Zaa (↑x.den:Int))::vf (us (J.Zab (↑x.den:Int)))::vb (J.Zaa y.num)::vf (us (J.Zab y.num))::vb (J.Zaa (↑y.den:Int))::vf (us (J.Zab (↑y.den:Int)))::vb (J.Zaa z.num)::vf (us (J.Zab z.num))::vb (J.Zaa (↑z.den:Int))::vf (us (J.Zab (↑z.den:Int)))::vb q1::w20 w1 l1)
theorem lwOnP (p1 q1 p2 q2:Bool) (w1 w2:Nat->Bool) (l1 l2:Nat->List Int) (a b c x y z d e f u v r:Rat) (k ee n i:Int) (l:List Pnt)  (dq:AV) (H :
  ((i<n)->(0<=i) /\
   (i.toNat<l.length) /\
   ZgS p1 q1 p2 q2 w1 w2 l1 l2 a b c x y z d e f u v r k ee n i l (l.getD i.toNat default) (Zag dq)) /\
  (¬(i<n)->(-9223372036854775808<=k/\k<=9223372036854775807) /\
   (J.inI k) /\
   (J.okR (J.qi k)/\J.okR a) /\
   (J.okR (J.qi k)/\J.okR b) /\
   (J.okR (J.qi k)/\J.okR c) /\
   (J.okSw (J.qi k*a) (J.qi k*b) (J.qi k*c) x y z d e f u v r) /\
   (J.Ze6 (J.Zcv p1 p2 (J.qi k*a) (J.qi k*b) (J.qi k*c) x y z d e f u v r)/\J.Ze6 l) /\
   vb (J.smB (J.Zcv p1 p2 (J.qi k*a) (J.qi k*b) (J.qi k*c) x y z d e f u v r) (J.ZdJ p1 p2 (J.qi k*a) (J.qi k*b) (J.qi k*c) x y z d e f u v r) l ee)=dq)) :
 Ze9 p1 q1 p2 q2 w1 w2 l1 l2 a b c x y z d e f u v r k ee n i l (Zag dq):=by
 unfold Ze9
 rcases xq H with ⟨d2,H⟩|⟨d2,H⟩
 ·obtain ⟨k4,H⟩:=H
  have w5:(List.map Pnt.a l).length=l.length:=List.length_map ..
  have i6:(decide (i.toNat<(List.map Pnt.a l).length))=true ↔ (i.toNat<l.length):=(by (try rw [w5]);all_goals exact Zac)
  obtain ⟨k7,H⟩:=H
  exact Zae (G:=Zad kp10 [(9,1,.elem ((zNmP11 l i)))] []) 1000 [true] ⟨(atC (cd Tryz.f10) [1,1,1,1,1,0,1,0,0,1,1,0,0,1,1,0,0]),[(2,AV.int IntKind.i8 k),(3,AV.ptr 0 0 0 0),(4,AV.ptr 1 0 0 0),(7,AV.vec false 20 (List.map Pnt.a l)),(8,vi ee),(12,AV.ptr 2 0 0 0),(67,AV.vec false 20 (List.map Pnt.a l)),(68,vi n),(69,vi i),(75,AV.vec true 66 [(zNmP12 p1 a b c x y z q1 w1 l1),(zNmP10 p2 d e f u v r q2 w2 l2)]),(76,vi 2),(77,vi 0)],[⟨[(zNmP12 p1 a b c x y z q1 w1 l1)],66,0,false,false⟩,⟨[(zNmP10 p2 d e f u v r q2 w2 l2)],66,0,false,false⟩,⟨[(zNmP11 l i)],20,0,false,false⟩],_,[((List.map Pnt.a l).get?Internal i.toNat=some ((zNmP11 l i)))],_⟩ (by kernel_rfl) (bc (Zaq (Zac.2 d2)) (bc (Zac.2 k4) (bc (i6.2 k7) (bc rfl (bc rfl (bc rfl b0)))))) (qc (Zat k7) q0) c0 H
 ·obtain ⟨k8,H⟩:=H
  have w9:wi k=k:=wI64 k8
  obtain ⟨k10,k11,k12,k13,k14,k15,H⟩:=H
  exact Zao (G:=Zad kp10 [(17,2,.call (ratF (J.qi k)) none),(18,4,.call (ratF (J.qi k*a)) none),(18,9,.call (ratF (J.qi k*b)) none),(18,14,.call (ratF (J.qi k*c)) none),(19,2,.call (tu [AV.vec false 20 (List.map Pnt.a (J.Zcv p1 p2 (J.qi k*a) (J.qi k*b) (J.qi k*c) x y z d e f u v r)),vi (J.ZdJ p1 p2 (J.qi k*a) (J.qi k*b) (J.qi k*c) x y z d e f u v r)]) none),(20,4,.call (vb (J.smB (J.Zcv p1 p2 (J.qi k*a) (J.qi k*b) (J.qi k*c) x y z d e f u v r) (J.ZdJ p1 p2 (J.qi k*a) (J.qi k*b) (J.qi k*c) x y z d e f u v r) l ee)) none)] []) 1000 [false] (calls:=[pc 46 [vi (wi k)] (ratF (J.qi k)),pc 35 [ratF (J.qi k),ratF a] (ratF (J.qi k*a)),pc 35 [ratF (J.qi k),ratF b] (ratF (J.qi k*b)),pc 35 [ratF (J.qi k),ratF c] (ratF (J.qi k*c)),pc 43 [ag (vb p1::vb (J.Zaa (J.qi k*a).num)::vf (us (J.Zab (J.qi k*a).num))::vb (J.Zaa (↑(J.qi k*a).den:Int))::vf (us (J.Zab (↑(J.qi k*a).den:Int)))::vb (J.Zaa (J.qi k*b).num)::vf (us (J.Zab (J.qi k*b).num))::vb (J.Zaa (↑(J.qi k*b).den:Int))::vf (us (J.Zab (↑(J.qi k*b).den:Int)))::vb (J.Zaa (J.qi k*c).num)::vf (us (J.Zab (J.qi k*c).num))::vb (J.Zaa (↑(J.qi k*c).den:Int))::vf (us (J.Zab (↑(J.qi k*c).den:Int)))::vb (J.Zaa x.num)::vf (us (J.Zab x.num))::vb (J.Zaa (↑x.den:Int))::vf (us (J.Zab (↑x.den:Int)))::vb (J.Zaa y.num)::vf (us (J.Zab y.num))::vb (J.Zaa (↑y.den:Int))::vf (us (J.Zab (↑y.den:Int)))::vb (J.Zaa z.num)::vf (us (J.Zab z.num))::vb (J.Zaa (↑z.den:Int))::vf (us (J.Zab (↑z.den:Int)))::vb q1::w20 w1 l1),(zNmP10 p2 d e f u v r q2 w2 l2)] (tu [AV.vec false 20 (List.map Pnt.a (J.Zcv p1 p2 (J.qi k*a) (J.qi k*b) (J.qi k*c) x y z d e f u v r)),vi (J.ZdJ p1 p2 (J.qi k*a) (J.qi k*b) (J.qi k*c) x y z d e f u v r)]),pc 15 [AV.vec false 20 (List.map Pnt.a (J.Zcv p1 p2 (J.qi k*a) (J.qi k*b) (J.qi k*c) x y z d e f u v r)),vi (J.ZdJ p1 p2 (J.qi k*a) (J.qi k*b) (J.qi k*c) x y z d e f u v r),AV.vec false 20 (List.map Pnt.a l),vi ee] (vb (J.smB (J.Zcv p1 p2 (J.qi k*a) (J.qi k*b) (J.qi k*c) x y z d e f u v r) (J.ZdJ p1 p2 (J.qi k*a) (J.qi k*b) (J.qi k*c) x y z d e f u v r) l ee))]) (vb (J.smB (J.Zcv p1 p2 (J.qi k*a) (J.qi k*b) (J.qi k*c) x y z d e f u v r) (J.ZdJ p1 p2 (J.qi k*a) (J.qi k*b) (J.qi k*c) x y z d e f u v r) l ee)) (by kernel_rfl) (bc (Zam (fun h=>d2 (Zac.1 h))) (bc rfl (bc rfl (bc rfl (bc rfl (bc rfl (bc rfl (bc rfl (bc rfl (bc rfl (bc rfl b0))))))))))) q0 (ce (by (try rw [w9]);all_goals exact (@ev46 k k10)) (ce (@ev35 false false false false (J.qi k) a k11) (ce (@ev35 false false false false (J.qi k) b k12) (ce (@ev35 false false false false (J.qi k) c k13) (ce (@ev43_a p1 q1 p2 q2 w1 w2 l1 l2 (J.qi k*a) (J.qi k*b) (J.qi k*c) x y z d e f u v r k14) (ce (@ev15 false false (J.Zcv p1 p2 (J.qi k*a) (J.qi k*b) (J.qi k*c) x y z d e f u v r) l (J.ZdJ p1 p2 (J.qi k*a) (J.qi k*b) (J.qi k*c) x y z d e f u v r) ee k15) c0)))))) H
noncomputable abbrev ZhK (p1:Bool) (a:Rat) (b:Rat) (c:Rat) (x:Rat) (y:Rat) (z:Rat) (q1:Bool) (w1:Nat->Bool) (l1:Nat->List Int):=ag (vb p1::vb (J.Zaa a.num)::vf (us (J.Zab a.num))::vb (J.Zaa (↑a.den:Int))::vf (us (J.Zab (↑a.den:Int)))::vb (J.Zaa b.num)::vf (us (J.Zab b.num))::vb (J.Zaa (↑b.den:Int))::vf (us (J.Zab (↑b.den:Int)))::vb (J.Zaa c.num)::vf (us (J.Zab c.num))::vb (J.Zaa (↑c.den:Int))::vf (us (J.Zab (↑c.den:Int)))::vb (J.Zaa x.num)::vf (us (J.Zab x.num))::vb (J.Zaa (↑x.den:Int))::vf (us (J.Zab (↑x.den:Int)))::vb (J.Zaa y.num)::vf (us (J.Zab y.num))::vb (J.Zaa (↑y.den:Int))::vf (us (J.Zab (↑y.den:Int)))::vb (J.Zaa z.num)::vf (us (J.Zab z.num))::vb (J.Zaa (↑z.den:Int))::vf (us (J.Zab (↑z.den:Int)))::vb q1::w20 w1 l1)
noncomputable abbrev zNmP14 (p2:Bool) (d:Rat) (e:Rat) (f:Rat) (u:Rat) (v:Rat) (r:Rat) (q2:Bool) (w2:Nat->Bool) (l2:Nat->List Int):=ag (vb p2::vb (J.Zaa d.num)::vf (us (J.Zab d.num))::vb (J.Zaa (↑d.den:Int))::vf (us (J.Zab (↑d.den:Int)))::vb (J.Zaa e.num)::vf (us (J.Zab e.num))::vb (J.Zaa (↑e.den:Int))::vf (us (J.Zab (↑e.den:Int)))::vb (J.Zaa f.num)::vf (us (J.Zab f.num))::vb (J.Zaa (↑f.den:Int))::vf (us (J.Zab (↑f.den:Int)))::vb (J.Zaa u.num)::vf (us (J.Zab u.num))::vb (J.Zaa (↑u.den:Int))::vf (us (J.Zab (↑u.den:Int)))::vb (J.Zaa v.num)::vf (us (J.Zab v.num))::vb (J.Zaa (↑v.den:Int))::vf (us (J.Zab (↑v.den:Int)))::vb (J.Zaa r.num)::vf (us (J.Zab r.num))::vb (J.Zaa (↑r.den:Int))::vf (us (J.Zab (↑r.den:Int)))::vb q2::w20 w2 l2)
noncomputable abbrev ZhJ (P:Pnt):=(Pnt.a P)
noncomputable abbrev zNmP16 (p1:Bool) (a:Rat) (b:Rat) (c:Rat) (P:Pnt):=bif bif p1 then false else false then true else bif !p1 then J.side a b c P.ax P.bx P.ay P.by_ P.c != 0 else false
theorem lwOnQ0 (p1 q1 p2 q2:Bool) (w1 w2:Nat->Bool) (l1 l2:Nat->List Int) (a b c x y z d e f u v r:Rat) (k ee n i:Int) (l:List Pnt) (P:Pnt)  (dq:AV) (H :
  ((p1=true)->(J.ZdG { ax:=P.ax,bx:=P.bx,ay:=P.ay,by_:=P.by_,c:=P.c } /\ J.ZdK x y z/\J.onC x y z { ax:=P.ax,bx:=P.bx,ay:=P.ay,by_:=P.by_,c:=P.c })) /\
  (((¬(p1=true))/\(¬((p1=true)/\(false=true))))->(J.Zey a b c/\J.ZdG { ax:=P.ax,bx:=P.bx,ay:=P.ay,by_:=P.by_,c:=P.c } /\ J.ZhC P.c)) /\
  ((((p1=true)/\(false=true))\/((¬(p1=true))/\(¬J.side a b c P.ax P.bx P.ay P.by_ P.c=0)))->vb false=dq) /\
  (¬(((p1=true)/\(false=true))\/((¬(p1=true))/\(¬J.side a b c P.ax P.bx P.ay P.by_ P.c=0)))->ZgR p1 q1 p2 q2 w1 w2 l1 l2 a b c x y z d e f u v r k ee n i l P (Zag dq))) :
 ZgS p1 q1 p2 q2 w1 w2 l1 l2 a b c x y z d e f u v r k ee n i l P (Zag dq):=by
 unfold ZgS
 obtain ⟨k2,k4,H⟩:=H
 refine Zae (G:=Zad kp10 [(13,6,.call (vi 0) none),(13,17,.call (vi (J.side a b c P.ax P.bx P.ay P.by_ P.c)) none)] []) 11 [true] ⟨(atC (cd Tryz.f10) [1,1,1,1,1,0,1,0,0,1,1,0,0,1,1,0,0,1,1,0,0,1,1]),[(2,AV.int IntKind.i8 k),(3,AV.ptr 0 0 0 0),(4,AV.ptr 1 0 0 0),(7,AV.vec false 20 (List.map Pnt.a l)),(8,vi ee),(12,AV.ptr 2 0 0 0),(67,AV.vec false 20 (List.map Pnt.a l)),(68,vi n),(69,vi i),(75,AV.vec true 66 [(ZhK p1 a b c x y z q1 w1 l1),(zNmP14 p2 d e f u v r q2 w2 l2)]),(76,vi 2),(77,vi 0),(101,vb (zNmP16 p1 a b c P))],[⟨[(ZhK p1 a b c x y z q1 w1 l1)],66,0,false,false⟩,⟨[(zNmP14 p2 d e f u v r q2 w2 l2)],66,0,false,false⟩,⟨[(ZhJ P)],20,0,false,false⟩,⟨[(ZhK p1 a b c x y z q1 w1 l1)],66,0,false,false⟩],[true==true,true,true,true,true,!(p1==true&&true)||true,!(p1==true&&true)||true,!((bif p1 then false else false)==false&&true)||true,!((!p1)==true&&((bif p1 then false else false)==false&&true))||true,!((!p1)==true&&((bif p1 then false else false)==false&&true))||true],[],[⟨p1==true&&true&&true,false,45,[Zau x y z,(ZhJ P)],[],vi 0,[]⟩,⟨(!p1)==true&&((bif p1 then false else false)==false&&true)&&true,false,32,[Zau a b c,(ZhJ P)],[],vi (J.side a b c P.ax P.bx P.ay P.by_ P.c),[]⟩]⟩ (by kernel_rfl) (bc rfl (bc rfl (bc rfl (bc rfl (bc rfl (bc (Bool.or_true _) (bc (Bool.or_true _) (bc (Bool.or_true _) (bc (Bool.or_true _) (bc (Bool.or_true _) b0)))))))))) q0 (cc (fun hc=>((@ev45 false false false false false false false false false false false false false false false false x y z (P.ax) (P.bx) (P.ay) (P.by_) (P.c) (k2 ((i_at (i_at (i_bt (Zas _)))).1 hc))):Ev M1 (Conf.pure 45 [Zau x y z,(ZhJ P)]) (vi 0) [])) (cc (fun hc=>((@ev32 false false false false false false false false false false false false false false false false a b c (P.ax) (P.bx) (P.ay) (P.by_) (P.c) (k4 ((i_at (i_and (i_bt (ZaH (Zas _))) (i_at (i_bf (ZaG (Zas _) (Zas _)))))).1 hc))):Ev M1 (Conf.pure 32 [Zau a b c,(ZhJ P)]) (vi (J.side a b c P.ax P.bx P.ay P.by_ P.c)) [])) c0)) ?_
 rcases xq H with ⟨d6,H⟩|⟨d6,H⟩
 ·exact Zao (G:=Zad kp10 [] []) 1000 [true] (asm:=[(zNmP16 p1 a b c P)==true]) (vb false) (by kernel_rfl) (bc (Zaq ((ZaM (ZaG (Zas _) (Zas _)) (ZaG (ZaH (Zas _)) i_ne)).2 d6)) b0) q0 c0 H
 ·exact Zae (G:=Zad kp10 [] []) 1000 [false] ⟨(atC (cd Tryz.f10) [1,1,1,1,1,0,1,0,0,1,1,0,0,1,1,0,0]),[(2,AV.int IntKind.i8 k),(3,AV.ptr 0 0 0 0),(4,AV.ptr 1 0 0 0),(7,AV.vec false 20 (List.map Pnt.a l)),(8,vi ee),(12,AV.ptr 2 0 0 0),(67,AV.vec false 20 (List.map Pnt.a l)),(68,vi n),(69,vi i),(75,AV.vec true 66 [(ZhK p1 a b c x y z q1 w1 l1),(zNmP14 p2 d e f u v r q2 w2 l2)]),(76,vi 2),(77,vi 1)],[⟨[(ZhK p1 a b c x y z q1 w1 l1)],66,0,false,false⟩,⟨[(zNmP14 p2 d e f u v r q2 w2 l2)],66,0,false,false⟩,⟨[(ZhJ P)],20,0,false,false⟩,⟨[(ZhK p1 a b c x y z q1 w1 l1)],66,0,false,false⟩],[(zNmP16 p1 a b c P)==false],[],_⟩ (by kernel_rfl) (bc (Zam (fun h=>d6 ((ZaM (ZaG (Zas _) (Zas _)) (ZaG (ZaH (Zas _)) i_ne)).1 h))) b0) q0 c0 (ZbB [0,1,2] (by kernel_rfl) H)
noncomputable abbrev ZhI (p2:Bool) (d:Rat) (e:Rat) (f:Rat) (u:Rat) (v:Rat) (r:Rat) (q2:Bool) (w2:Nat->Bool) (l2:Nat->List Int):=ag (vb p2::vb (J.Zaa d.num)::vf (us (J.Zab d.num))::vb (J.Zaa (↑d.den:Int))::vf (us (J.Zab (↑d.den:Int)))::vb (J.Zaa e.num)::vf (us (J.Zab e.num))::vb (J.Zaa (↑e.den:Int))::vf (us (J.Zab (↑e.den:Int)))::vb (J.Zaa f.num)::vf (us (J.Zab f.num))::vb (J.Zaa (↑f.den:Int))::vf (us (J.Zab (↑f.den:Int)))::vb (J.Zaa u.num)::vf (us (J.Zab u.num))::vb (J.Zaa (↑u.den:Int))::vf (us (J.Zab (↑u.den:Int)))::vb (J.Zaa v.num)::vf (us (J.Zab v.num))::vb (J.Zaa (↑v.den:Int))::vf (us (J.Zab (↑v.den:Int)))::vb (J.Zaa r.num)::vf (us (J.Zab r.num))::vb (J.Zaa (↑r.den:Int))::vf (us (J.Zab (↑r.den:Int)))::vb q2::w20 w2 l2)
noncomputable abbrev zNmP18 (p1:Bool) (a:Rat) (b:Rat) (c:Rat) (x:Rat) (y:Rat) (z:Rat) (q1:Bool) (w1:Nat->Bool) (l1:Nat->List Int):=ag (vb p1::vb (J.Zaa a.num)::vf (us (J.Zab a.num))::vb (J.Zaa (↑a.den:Int))::vf (us (J.Zab (↑a.den:Int)))::vb (J.Zaa b.num)::vf (us (J.Zab b.num))::vb (J.Zaa (↑b.den:Int))::vf (us (J.Zab (↑b.den:Int)))::vb (J.Zaa c.num)::vf (us (J.Zab c.num))::vb (J.Zaa (↑c.den:Int))::vf (us (J.Zab (↑c.den:Int)))::vb (J.Zaa x.num)::vf (us (J.Zab x.num))::vb (J.Zaa (↑x.den:Int))::vf (us (J.Zab (↑x.den:Int)))::vb (J.Zaa y.num)::vf (us (J.Zab y.num))::vb (J.Zaa (↑y.den:Int))::vf (us (J.Zab (↑y.den:Int)))::vb (J.Zaa z.num)::vf (us (J.Zab z.num))::vb (J.Zaa (↑z.den:Int))::vf (us (J.Zab (↑z.den:Int)))::vb q1::w20 w1 l1)
noncomputable abbrev ZhH (P:Pnt):=(Pnt.a P)
noncomputable abbrev zNmP20 (p2:Bool) (d:Rat) (e:Rat) (f:Rat) (P:Pnt):=bif bif p2 then false else false then true else bif !p2 then J.side d e f P.ax P.bx P.ay P.by_ P.c != 0 else false
theorem lwOnQ1 (p1 q1 p2 q2:Bool) (w1 w2:Nat->Bool) (l1 l2:Nat->List Int) (a b c x y z d e f u v r:Rat) (k ee n i:Int) (l:List Pnt) (P:Pnt)  (dq:AV) (H :
  ((p2=true)->(J.ZdG { ax:=P.ax,bx:=P.bx,ay:=P.ay,by_:=P.by_,c:=P.c } /\ J.ZdK u v r/\J.onC u v r { ax:=P.ax,bx:=P.bx,ay:=P.ay,by_:=P.by_,c:=P.c })) /\
  (((¬(p2=true))/\(¬((p2=true)/\(false=true))))->(J.Zey d e f/\J.ZdG { ax:=P.ax,bx:=P.bx,ay:=P.ay,by_:=P.by_,c:=P.c } /\ J.ZhC P.c)) /\
  ((((p2=true)/\(false=true))\/((¬(p2=true))/\(¬J.side d e f P.ax P.bx P.ay P.by_ P.c=0)))->vb false=dq) /\
  (¬(((p2=true)/\(false=true))\/((¬(p2=true))/\(¬J.side d e f P.ax P.bx P.ay P.by_ P.c=0)))->ZgQ p1 q1 p2 q2 w1 w2 l1 l2 a b c x y z d e f u v r k ee n i l P (Zag dq))) :
 ZgR p1 q1 p2 q2 w1 w2 l1 l2 a b c x y z d e f u v r k ee n i l P (Zag dq):=by
 unfold ZgR
 obtain ⟨k2,k4,H⟩:=H
 refine Zae (G:=Zad kp10 [(13,6,.call (vi 0) none),(13,17,.call (vi (J.side d e f P.ax P.bx P.ay P.by_ P.c)) none)] []) 11 [true] ⟨(atC (cd Tryz.f10) [1,1,1,1,1,0,1,0,0,1,1,0,0,1,1,0,0,1,1,0,0,1,1]),[(2,AV.int IntKind.i8 k),(3,AV.ptr 0 0 0 0),(4,AV.ptr 1 0 0 0),(7,AV.vec false 20 (List.map Pnt.a l)),(8,vi ee),(12,AV.ptr 2 0 0 0),(67,AV.vec false 20 (List.map Pnt.a l)),(68,vi n),(69,vi i),(75,AV.vec true 66 [(zNmP18 p1 a b c x y z q1 w1 l1),(ZhI p2 d e f u v r q2 w2 l2)]),(76,vi 2),(77,vi 1),(101,vb (zNmP20 p2 d e f P))],[⟨[(zNmP18 p1 a b c x y z q1 w1 l1)],66,0,false,false⟩,⟨[(ZhI p2 d e f u v r q2 w2 l2)],66,0,false,false⟩,⟨[(ZhH P)],20,0,false,false⟩,⟨[(ZhI p2 d e f u v r q2 w2 l2)],66,0,false,false⟩],[true==true,true,true,true,true,!(p2==true&&true)||true,!(p2==true&&true)||true,!((bif p2 then false else false)==false&&true)||true,!((!p2)==true&&((bif p2 then false else false)==false&&true))||true,!((!p2)==true&&((bif p2 then false else false)==false&&true))||true],[],[⟨p2==true&&true&&true,false,45,[Zau u v r,(ZhH P)],[],vi 0,[]⟩,⟨(!p2)==true&&((bif p2 then false else false)==false&&true)&&true,false,32,[Zau d e f,(ZhH P)],[],vi (J.side d e f P.ax P.bx P.ay P.by_ P.c),[]⟩]⟩ (by kernel_rfl) (bc rfl (bc rfl (bc rfl (bc rfl (bc rfl (bc (Bool.or_true _) (bc (Bool.or_true _) (bc (Bool.or_true _) (bc (Bool.or_true _) (bc (Bool.or_true _) b0)))))))))) q0 (cc (fun hc=>((@ev45 false false false false false false false false false false false false false false false false u v r (P.ax) (P.bx) (P.ay) (P.by_) (P.c) (k2 ((i_at (i_at (i_bt (Zas _)))).1 hc))):Ev M1 (Conf.pure 45 [Zau u v r,(ZhH P)]) (vi 0) [])) (cc (fun hc=>((@ev32 false false false false false false false false false false false false false false false false d e f (P.ax) (P.bx) (P.ay) (P.by_) (P.c) (k4 ((i_at (i_and (i_bt (ZaH (Zas _))) (i_at (i_bf (ZaG (Zas _) (Zas _)))))).1 hc))):Ev M1 (Conf.pure 32 [Zau d e f,(ZhH P)]) (vi (J.side d e f P.ax P.bx P.ay P.by_ P.c)) [])) c0)) ?_
 rcases xq H with ⟨d6,H⟩|⟨d6,H⟩
 ·exact Zao (G:=Zad kp10 [] []) 1000 [true] (asm:=[(zNmP20 p2 d e f P)==true]) (vb false) (by kernel_rfl) (bc (Zaq ((ZaM (ZaG (Zas _) (Zas _)) (ZaG (ZaH (Zas _)) i_ne)).2 d6)) b0) q0 c0 H
 ·exact Zae (G:=Zad kp10 [] []) 1000 [false] ⟨(atC (cd Tryz.f10) [1,1,1,1,1,0,1,0,0,1,1,0,0,1,1,0,0]),[(2,AV.int IntKind.i8 k),(3,AV.ptr 0 0 0 0),(4,AV.ptr 1 0 0 0),(7,AV.vec false 20 (List.map Pnt.a l)),(8,vi ee),(12,AV.ptr 2 0 0 0),(67,AV.vec false 20 (List.map Pnt.a l)),(68,vi n),(69,vi i),(75,AV.vec true 66 [(zNmP18 p1 a b c x y z q1 w1 l1),(ZhI p2 d e f u v r q2 w2 l2)]),(76,vi 2),(77,vi 2)],[⟨[(zNmP18 p1 a b c x y z q1 w1 l1)],66,0,false,false⟩,⟨[(ZhI p2 d e f u v r q2 w2 l2)],66,0,false,false⟩,⟨[(ZhH P)],20,0,false,false⟩,⟨[(ZhI p2 d e f u v r q2 w2 l2)],66,0,false,false⟩],[(zNmP20 p2 d e f P)==false],[],_⟩ (by kernel_rfl) (bc (Zam (fun h=>d6 ((ZaM (ZaG (Zas _) (Zas _)) (ZaG (ZaH (Zas _)) i_ne)).1 h))) b0) q0 c0 (ZbB [0,1,2] (by kernel_rfl) H)
theorem lwOnQ2 (p1 q1 p2 q2:Bool) (w1 w2:Nat->Bool) (l1 l2:Nat->List Int) (a b c x y z d e f u v r:Rat) (k ee n i:Int) (l:List Pnt) (P:Pnt)  (dq:AV) (H :
  (-9223372036854775808<=i+1/\i+1<=9223372036854775807) /\
  Ze9 p1 q1 p2 q2 w1 w2 l1 l2 a b c x y z d e f u v r k ee n (i+1) l (Zag dq)) :
 ZgQ p1 q1 p2 q2 w1 w2 l1 l2 a b c x y z d e f u v r k ee n i l P (Zag dq):=by
 unfold ZgQ
 obtain ⟨k1,H⟩:=H
 have ww2:wi (i+1)=i+1:=wI64 k1
 exact Zae (G:=Zad kp10 [] []) 1000 [false] ⟨(atC (cd Tryz.f10) [1,1,1,1,1,0,1,0,0]),[(2,AV.int IntKind.i8 k),(3,AV.ptr 0 0 0 0),(4,AV.ptr 1 0 0 0),(7,AV.vec false 20 (List.map Pnt.a l)),(8,vi ee),(67,AV.vec false 20 (List.map Pnt.a l)),(68,vi n),(69,vi (wi (i+1)))],[⟨[ag (vb p1::vb (J.Zaa a.num)::vf (us (J.Zab a.num))::vb (J.Zaa (↑a.den:Int))::vf (us (J.Zab (↑a.den:Int)))::vb (J.Zaa b.num)::vf (us (J.Zab b.num))::vb (J.Zaa (↑b.den:Int))::vf (us (J.Zab (↑b.den:Int)))::vb (J.Zaa c.num)::vf (us (J.Zab c.num))::vb (J.Zaa (↑c.den:Int))::vf (us (J.Zab (↑c.den:Int)))::vb (J.Zaa x.num)::vf (us (J.Zab x.num))::vb (J.Zaa (↑x.den:Int))::vf (us (J.Zab (↑x.den:Int)))::vb (J.Zaa y.num)::vf (us (J.Zab y.num))::vb (J.Zaa (↑y.den:Int))::vf (us (J.Zab (↑y.den:Int)))::vb (J.Zaa z.num)::vf (us (J.Zab z.num))::vb (J.Zaa (↑z.den:Int))::vf (us (J.Zab (↑z.den:Int)))::vb q1::w20 w1 l1)],66,0,false,false⟩,⟨[ag (vb p2::vb (J.Zaa d.num)::vf (us (J.Zab d.num))::vb (J.Zaa (↑d.den:Int))::vf (us (J.Zab (↑d.den:Int)))::vb (J.Zaa e.num)::vf (us (J.Zab e.num))::vb (J.Zaa (↑e.den:Int))::vf (us (J.Zab (↑e.den:Int)))::vb (J.Zaa f.num)::vf (us (J.Zab f.num))::vb (J.Zaa (↑f.den:Int))::vf (us (J.Zab (↑f.den:Int)))::vb (J.Zaa u.num)::vf (us (J.Zab u.num))::vb (J.Zaa (↑u.den:Int))::vf (us (J.Zab (↑u.den:Int)))::vb (J.Zaa v.num)::vf (us (J.Zab v.num))::vb (J.Zaa (↑v.den:Int))::vf (us (J.Zab (↑v.den:Int)))::vb (J.Zaa r.num)::vf (us (J.Zab r.num))::vb (J.Zaa (↑r.den:Int))::vf (us (J.Zab (↑r.den:Int)))::vb q2::w20 w2 l2)],66,0,false,false⟩,⟨[(Pnt.a P)],20,0,false,false⟩],_,[],_⟩ (by kernel_rfl) (bc rfl b0) q0 c0 (by (try rw [ww2]);all_goals exact ZbB [0,1] (by kernel_rfl) H)
end Go.Av

namespace Go.Av
open Go.Proofs
theorem q_pre {p:Bool} {a b c x y z:Rat} {P:Pnt} (h:J.onS p a b c x y z P) (hp:J.ZdG P) (h1:J.ZdK a b c) (h2:J.ZdK x y z):((p=true)->(J.ZdG P/\J.ZdK x y z/\J.onC x y z P))/\(((¬(p=true))/\(¬((p=true)/\(false=true))))->(J.Zey a b c/\J.ZdG P/\J.ZhC P.c))/\¬(((p=true)/\(false=true))\/((¬(p=true))/\(¬J.side a b c P.ax P.bx P.ay P.by_ P.c=0))):=by
 cases p with
 | true=>exact ⟨fun _=>⟨hp,h2,h⟩,fun k=>absurd rfl k.1,fun k=>k.elim (fun j=>absurd j.2 (by decide)) fun j=>absurd rfl j.1⟩
 | false =>
  have h:J.onL a b c P:=h
  exact ⟨fun k=>absurd k (by decide),fun _=>⟨ZbX h1,hp,h.2.2⟩,fun k=>k.elim (fun j=>absurd j.2 (by decide)) fun j=>absurd (side_on h) j.2⟩
theorem on_loop {p1 q1 p2 q2:Bool} {w1 w2:Nat->Bool} {l1 l2:Nat->List Int} {a b c x y z d e f u v r:Rat} {k ee n:Int} {l:List Pnt} {dq:AV} (hs:J.okSu a b c x y z d e f u v r) (hl:J.Ze6 l) (ho:∀ q ∈ l,J.onS p1 a b c x y z q/\J.onS p2 d e f u v r q) (hn:n=l.length)
  (fin:∀ i:Int,¬(i<n)->(-9223372036854775808<=k/\k<=9223372036854775807)/\(J.inI k)/\(J.okR (J.qi k)/\J.okR a)/\(J.okR (J.qi k)/\J.okR b)/\(J.okR (J.qi k)/\J.okR c)/\(J.okSw (J.qi k*a) (J.qi k*b) (J.qi k*c) x y z d e f u v r)/\(J.Ze6 (J.Zcv p1 p2 (J.qi k*a) (J.qi k*b) (J.qi k*c) x y z d e f u v r)/\J.Ze6 l) /\
   AV.bool (J.smB (J.Zcv p1 p2 (J.qi k*a) (J.qi k*b) (J.qi k*c) x y z d e f u v r) (J.ZdJ p1 p2 (J.qi k*a) (J.qi k*b) (J.qi k*c) x y z d e f u v r) l ee)=dq) (m:Nat):∀ i:Nat,i+m=l.length->Ze9 p1 q1 p2 q2 w1 w2 l1 l2 a b c x y z d e f u v r k ee n i l (Zag dq):=by
 obtain ⟨⟨⟨h1,n1⟩,h2⟩,⟨h3,n3⟩,h4⟩:=hs
 have len:=hl.2
 induction m with
 | zero=>exact fun i e=>lwOnP _ _ _ _ _ _ _ _ _ _ _ _ _ _ _ _ _ _ _ _ _ _ _ _ _ _ ⟨fun x=>by omega,fin _⟩
 | succ m ih =>
  intro i e2
  have hi:i<l.length:=by omega
  have hm:=Zfj (d:=l) (i:=i) hi
  have on:=ho _ hm
  have nx:=ih (i+1) (by omega)
  have ok:=hl.1 _ hm
  have a1:=q_pre on.1 ok h1 h2
  have a2:=q_pre on.2 ok h3 h4
  refine lwOnP _ _ _ _ _ _ _ _ _ _ _ _ _ _ _ _ _ _ _ _ _ _ _ _ _ _ ⟨fun x=>⟨by omega,hi,?_⟩,fun x=>by omega⟩
  rw [Int.toNat_natCast]
  refine lwOnQ0 _ _ _ _ _ _ _ _ _ _ _ _ _ _ _ _ _ _ _ _ _ _ _ _ _ _ _ ⟨a1.1,a1.2.1,fun bad=>absurd bad a1.2.2,fun _ => ?_⟩
  refine lwOnQ1 _ _ _ _ _ _ _ _ _ _ _ _ _ _ _ _ _ _ _ _ _ _ _ _ _ _ _ ⟨a2.1,a2.2.1,fun bad=>absurd bad a2.2.2,fun _ => ?_⟩
  refine lwOnQ2 _ _ _ _ _ _ _ _ _ _ _ _ _ _ _ _ _ _ _ _ _ _ _ _ _ _ _ ⟨by omega,?_⟩
  rw [show (i:Int)+1=((i+1:Nat):Int) by omega]
  exact nx
theorem ev10 (p1 q1 p2 q2:Bool) (w1 w2:Nat->Bool) (l1 l2:Nat->List Int) (s1 t1 s2 t2 s3 t3 s4 t4 s5 t5 s6 t6 s7 t7 s8 t8 s9 t9 s10 t10 s11 t11 s12 t12:Bool) (x1 y1 x2 y2 x3 y3 x4 y4 x5 y5 x6 y6 x7 y7 x8 y8 x9 y9 x10 y10 x11 y11 x12 y12:List Int) (k:Int) (h1:J.Zh7 x1 y1 x2 y2 x3 y3) (h2:J.Zh7 x4 y4 x5 y5 x6 y6) (h3:J.Zh7 x7 y7 x8 y8 x9 y9) (h4:J.Zh7 x10 y10 x11 y11 x12 y12) (hk:-128<=k/\k<=127):Ev M1 (.pure 10 [.agg (.bool p1::.bool s1::.vec false 1 (x1.map (.int .u32))::.bool t1::.vec false 1 (y1.map (.int .u32))::.bool s2::.vec false 1 (x2.map (.int .u32))::.bool t2::.vec false 1 (y2.map (.int .u32))::.bool s3::.vec false 1 (x3.map (.int .u32))::.bool t3::.vec false 1 (y3.map (.int .u32))::.bool s4::.vec false 1 (x4.map (.int .u32))::.bool t4::.vec false 1 (y4.map (.int .u32))::.bool s5::.vec false 1 (x5.map (.int .u32))::.bool t5::.vec false 1 (y5.map (.int .u32))::.bool s6::.vec false 1 (x6.map (.int .u32))::.bool t6::.vec false 1 (y6.map (.int .u32))::.bool q1::w20 w1 l1),.agg (.bool p2::.bool s7::.vec false 1 (x7.map (.int .u32))::.bool t7::.vec false 1 (y7.map (.int .u32))::.bool s8::.vec false 1 (x8.map (.int .u32))::.bool t8::.vec false 1 (y8.map (.int .u32))::.bool s9::.vec false 1 (x9.map (.int .u32))::.bool t9::.vec false 1 (y9.map (.int .u32))::.bool s10::.vec false 1 (x10.map (.int .u32))::.bool t10::.vec false 1 (y10.map (.int .u32))::.bool s11::.vec false 1 (x11.map (.int .u32))::.bool t11::.vec false 1 (y11.map (.int .u32))::.bool s12::.vec false 1 (x12.map (.int .u32))::.bool t12::.vec false 1 (y12.map (.int .u32))::.bool q2::w20 w2 l2),.int .i8 k]) (.bool true) []:=by
 by_cases j:((((¬(J.ZcU s1 t1 s2 t2 s3 t3 x1 y1 x2 y2 x3 y3=true))\/(¬(J.Zdp s4 t4 s5 t5 s6 t6 x4 y4 x5 y5 x6 y6=true)))\/(¬(J.ZcU s7 t7 s8 t8 s9 t9 x7 y7 x8 y8 x9 y9=true)))\/(¬(J.Zdp s10 t10 s11 t11 s12 t12 x10 y10 x11 y11 x12 y12=true)))\/(k=0)
 ·exact call10 (lwOnR _ _ _ _ _ _ _ _ _ _ _ _ _ _ _ _ _ _ _ _ _ _ _ _ _ _ _ _ _ _ _ _ _ _ _ _ _ _ _ _ _ _ _ _ _ _ _ _ _ _ _ _ _ _ _ _ _ _ _ _ _ _ _ _ _ _ _ _ _ _ _ _ _ _ _ _ _ _ _ _ _ _ ⟨h1,fun _=>h2,fun _=>h3,fun _=>h4,fun _=>rfl,fun i=>absurd j i⟩)
 have k1:=Classical.not_not.1 fun q=>j (.inl (.inl (.inl (.inl q))))
 have k2:=Classical.not_not.1 fun q=>j (.inl (.inl (.inl (.inr q))))
 have k3:=Classical.not_not.1 fun q=>j (.inl (.inl (.inr q)))
 have k4:=Classical.not_not.1 fun q=>j (.inl (.inr q))
 have k5:=fun q=>j (.inr q)
 obtain ⟨a,b,c,e1,⟨rfl,rfl,rfl,rfl⟩,⟨rfl,rfl,rfl,rfl⟩,rfl,rfl,rfl,rfl⟩:=Zet (lineB_few k1)
 obtain ⟨x,y,z,e2,⟨rfl,rfl,rfl,rfl⟩,⟨rfl,rfl,rfl,rfl⟩,rfl,rfl,rfl,rfl⟩:=Zet (circB_few k2)
 obtain ⟨d,e,f,e3,⟨rfl,rfl,rfl,rfl⟩,⟨rfl,rfl,rfl,rfl⟩,rfl,rfl,rfl,rfl⟩:=Zet (lineB_few k3)
 obtain ⟨u,v,r,e4,⟨rfl,rfl,rfl,rfl⟩,⟨rfl,rfl,rfl,rfl⟩,rfl,rfl,rfl,rfl⟩:=Zet (circB_few k4)
 have n1:=lineB_ne k1
 have n3:=lineB_ne k3
 have hs:J.okSu a b c x y z d e f u v r:=⟨⟨⟨e1,n1⟩,e2⟩,⟨e3,n3⟩,e4⟩
 have hs2:J.okSu d e f u v r a b c x y z:=⟨⟨⟨e3,n3⟩,e4⟩,⟨e1,n1⟩,e2⟩
 have kt:J.okT 1 (J.qi k):=okT_sm (by omega)
 have kn:J.qi k ≠ 0:=by
  rw [Ze2]
  intro h
  have:=congrArg Rat.num h
  rw [Rat.num_intCast] at this
  exact k5 this
 have hw:J.okSw (J.qi k*a) (J.qi k*b) (J.qi k*c) x y z d e f u v r:=⟨⟨⟨⟨Zaf kt e1.1,Zaf kt e1.2.1,Zaf kt e1.2.2⟩,mul_ne kn n1⟩,e2⟩,⟨e3,n3⟩,e4⟩
 have ss:=sup_same p1 p2 hs
 have sc:=supL_scale p1 p2 (c:=c) (x:=x) (y:=y) (z:=z) (f:=f) (u:=u) (v:=v) (r:=r) kn n1 n3
 have cm:=supL_comm p1 p2 a b c x y z d e f u v r
 have vl:=ss.1.2
 have R2 {t:Rat} (h:J.okT 2 t):J.okR t:=Zaj h (by omega)
 have kr:J.okR (J.qi k):=Zaj kt (by omega)
 have same1:J.smB (J.Zcv p1 p2 a b c x y z d e f u v r) (J.ZdJ p1 p2 a b c x y z d e f u v r) (J.Zcv p2 p1 d e f u v r a b c x y z) (J.ZdJ p2 p1 d e f u v r a b c x y z)=true:=by
  rw [cm.1,cm.2];exact sm_true ⟨ZcK vl,vl⟩
 refine call10 (lwOn _ _ _ _ _ _ _ _ _ _ _ _ _ _ _ _ _ _ _ _ _ _ ⟨rw_rat a b c,fun _=>rw_rat x y z,fun _=>rw_rat d e f,fun _=>rw_rat u v r,fun j=>(j.elim (fun k=>k.elim (fun k=>k.elim (fun k=>k.elim (fun j=>absurd k1 j) fun j=>absurd k2 j) fun j=>absurd k3 j) fun j=>absurd k4 j) fun j=>absurd j k5),fun _=>⟨hs,hs2,⟨ss.2.1,by rw [cm.1];exact ss.2.1⟩,fun bad=>absurd same1 bad,fun _ => ?_⟩⟩)
 refine on_loop hs ss.2.1 (supL_on p1 p2 n1 n3) rfl (fun _ _=>⟨by omega,by unfold J.inI;omega,⟨kr,R2 e1.1⟩,⟨kr,R2 e1.2.1⟩,⟨kr,R2 e1.2.2⟩,hw,⟨supL_pl p1 p2 hw,ss.2.1⟩,?_⟩) _ 0 (Nat.zero_add _)
 rw [sc.2,sm_true ⟨sc.1,supL_val p1 p2 (mul_ne kn n1) n3⟩]
end Go.Av
