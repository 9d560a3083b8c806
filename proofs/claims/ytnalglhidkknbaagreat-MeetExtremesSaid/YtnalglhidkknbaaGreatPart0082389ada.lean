/- PART 6 of the texts of a claim, joined by a program: what each part shows stands at its head. -/
import Derived.Test.YtnalglhidkknbaaGreatPartb9c715f398

namespace Go.Av
open Go.Proofs
theorem sgl {r:Rat}:Sp.sgnI r.num < 0 ↔ r < 0:=by
 have:=sg3 r.num
 have:=(@Zc6 r).2.2
 unfold Sp.sgR at this
 rw [<- this];omega
theorem Zfq {k:Nat} {r:Rat} (h:Sp.okT k r) (hk:k <= 90000):Sp.okB r.num:=by
 have:=h.1
 unfold Sp.okB;omega
theorem ZfP {k:Nat} {b c:Rat} (h:Sp.okT k c) (hk:1 <= k):Sp.okT k (Sp.rad b c):=by
 unfold Sp.rad
 split
 ·exact Zan ZbC hk
 ·exact h
theorem ZcK (l:List Pnt):Weak (.vec true 20 (l.map Pnt.a)) (.vec false 20 (l.map Pnt.a)):=.full _ _
theorem lineC_0 {a b c x y q:Rat} (k:Sp.dep a b c x y q < 0):Sp.Zbu a b c x y q = []:=by
 unfold Sp.Zbu;rw [ZbH k,if_pos (by decide)]
theorem lineC_1 {a b c x y q:Rat} (k:Sp.dep a b c x y q = 0):Sp.Zbu a b c x y q = [Sp.atP (Sp.fX a b c x y) (Sp.fY a b c x y)]:=by
 unfold Sp.Zbu;rw [k,ZaX,if_neg (by decide),if_pos rfl]
theorem ZgD {a b c x y q:Rat} (k:0 < Sp.dep a b c x y q):Sp.Zbu a b c x y q = [Sp.Zbj (Sp.fX a b c x y) (-Sp.dU a b) (Sp.fY a b c x y) (-Sp.dV a b) (Sp.dep a b c x y q),Sp.Zbj (Sp.fX a b c x y) (Sp.dU a b) (Sp.fY a b c x y) (Sp.dV a b) (Sp.dep a b c x y q)]:=by
 unfold Sp.Zbu;rw [Zbd k,if_neg (by decide),if_neg (by decide)]
theorem ev17 (f1 f2 f3 f4 f5 f6 g1 g2 g3 g4 g5 g6:Bool) (a b c x y q:Rat) (h:Sp.ZfD a b c /\ Sp.Zdx x y /\ Sp.okT 30 q):Ev M1 (.pure 17 [Zas f1 f2 f3 f4 f5 f6 a b c,Zas g1 g2 g3 g4 g5 g6 x y q]) (.vec false 20 ((Sp.Zbu a b c x y q).map Pnt.a)) []:=by
 obtain ⟨hl,hv,hq⟩:=h
 have hf:=okT_f hl hv
 have hd:=okT_dep hl hv hq
 obtain ⟨⟨ha,hb,hc⟩,h0⟩:=hl
 have na:=Zbh ha
 have nb:=Zbh hb
 have nna:=Zbh na
 refine call17 (mLC _ _ _ _ _ _ _ _ _ _ _ _ _ _ _ _ _ _ _ ⟨⟨⟨⟨ha,hb,hc⟩,h0⟩,hv,hq⟩,fun k => ?_,fun k => ⟨fun j => ?_,fun j => ⟨Zfq ha (by omega),fun i => ?_,fun i => ?_⟩⟩⟩)
 ·rw [lineC_0 (Zc6.2.2.1 k)]
  exact .vnil 20
 ·rw [lineC_1 (sgz.1 j)]
  exact ZcK [Sp.atP (Sp.fX a b c x y) (Sp.fY a b c x y)]
 ·have p:0 < Sp.dep a b c x y q:=by
   rcases tri (Sp.dep a b c x y q) with t | t | t
   ·exact absurd (ZbH t) k
   ·exact absurd (sgz.2 t) j
   ·exact t
  rw [sgl,sgz,sgl] at i
  have e:Sp.dn a b = true:=decide_eq_true i
  rw [ZgD p]
  unfold Sp.dU Sp.dV
  rw [e,cond_true,cond_true]
  exact ⟨Zfq hb (by omega),Zfq na (by omega),Zfq nb (by omega),Zfq nna (by omega),⟨⟨hf.1,Zbh nb⟩,⟨hf.2,Zbh nna⟩,hd,p⟩,⟨⟨hf.1,nb⟩,⟨hf.2,nna⟩,hd,p⟩,ZcK [Sp.Zbj (Sp.fX a b c x y) (- -b) (Sp.fY a b c x y) (- - -a) (Sp.dep a b c x y q),Sp.Zbj (Sp.fX a b c x y) (-b) (Sp.fY a b c x y) (- -a) (Sp.dep a b c x y q)]⟩
 ·have p:0 < Sp.dep a b c x y q:=by
   rcases tri (Sp.dep a b c x y q) with t | t | t
   ·exact absurd (ZbH t) k
   ·exact absurd (sgz.2 t) j
   ·exact t
  rw [sgl,sgz,sgl] at i
  have e:Sp.dn a b = false:=decide_eq_false i
  rw [ZgD p]
  unfold Sp.dU Sp.dV
  rw [e,cond_false,cond_false]
  exact ⟨Zfq hb (by omega),Zfq na (by omega),⟨⟨hf.1,nb⟩,⟨hf.2,nna⟩,hd,p⟩,⟨⟨hf.1,hb⟩,⟨hf.2,na⟩,hd,p⟩,ZcK [Sp.Zbj (Sp.fX a b c x y) (-b) (Sp.fY a b c x y) (- -a) (Sp.dep a b c x y q),Sp.Zbj (Sp.fX a b c x y) b (Sp.fY a b c x y) (-a) (Sp.dep a b c x y q)]⟩
theorem Zgr:Sp.okT 3 (Sp.qi 1):=Zgs (by unfold Sp.inI;omega)
theorem ev39 (f1 f2 f3 f4 f5 f6:Bool) (x y q:Rat) (h:Sp.Zdx x y /\ Sp.okT 30 q /\ 0 < q):Ev M1 (.pure 39 [Zas f1 f2 f3 f4 f5 f6 x y q]) (.tup [Pnt.a (Sp.Zbj x (-Sp.qi 1) y (Sp.qi 0) q),Pnt.a (Sp.Zbj x (Sp.qi 1) y (Sp.qi 0) q)]) []:=by
 obtain ⟨⟨hx,hy⟩,hq,p⟩:=h
 exact call39 (mExt _ _ _ _ _ _ _ _ _ _ ⟨by unfold Sp.inI;omega,by unfold Sp.inI;omega,Zfq Zgr (by omega),⟨⟨Zan hx (by omega),Zan (Zbh Zgr) (by omega)⟩,⟨Zan hy (by omega),Zan ZbC (by omega)⟩,Zan hq (by omega),p⟩,⟨⟨Zan hx (by omega),Zan Zgr (by omega)⟩,⟨Zan hy (by omega),Zan ZbC (by omega)⟩,Zan hq (by omega),p⟩,.refl _⟩)
theorem ev40 (f1 f2 f3 f4 f5 f6:Bool) (x y q:Rat) (h:Sp.Zdx x y /\ Sp.okT 30 q /\ 0 < q):Ev M1 (.pure 40 [Zas f1 f2 f3 f4 f5 f6 x y q]) (.tup [Pnt.a (Sp.red x (-Sp.qi 1) y (Sp.qi 0) q),Pnt.a (Sp.red x (Sp.qi 1) y (Sp.qi 0) q)]) []:=by
 obtain ⟨⟨hx,hy⟩,hq,p⟩:=h
 exact call40 (rExt _ _ _ _ _ _ _ _ _ _ ⟨by unfold Sp.inI;omega,by unfold Sp.inI;omega,ok_of Zgr (by omega),⟨⟨Zan hx (by omega),Zan (Zbh Zgr) (by omega)⟩,⟨Zan hy (by omega),Zan ZbC (by omega)⟩,Zan hq (by omega)⟩,⟨⟨Zan hx (by omega),Zan Zgr (by omega)⟩,⟨Zan hy (by omega),Zan ZbC (by omega)⟩,Zan hq (by omega)⟩,.refl _⟩)
theorem ev70 (f1 f2 f3 f4 f5 f6 f7 f8 f9 f10 g1 g2 g3 g4 g5 g6 g7 g8 g9 g10:Bool) (ax bx ay by_ c ux vx uy vy d:Rat) (h:Sp.Ze4 ⟨ax,bx,ay,by_,c⟩ /\ Sp.Ze4 ⟨ux,vx,uy,vy,d⟩):Ev M1 (.pure 70 [pntA f1 f2 f3 f4 f5 f6 f7 f8 f9 f10 ax bx ay by_ c,pntA g1 g2 g3 g4 g5 g6 g7 g8 g9 g10 ux vx uy vy d]) (.int .i64 (Sp.Ze0 ⟨ax,bx,ay,by_,c⟩ ⟨ux,vx,uy,vy,d⟩)) []:=by
 obtain ⟨h,k⟩:=h
 unfold Sp.Ze4 at h k
 refine call70 (rComp7 _ _ _ _ _ _ _ _ _ _ _ _ _ _ _ _ _ _ _ _ _ _ _ _ _ _ _ _ _ _ _ ⟨⟨⟨h.1.1,h.1.2,ZfP h.2.2 (by omega)⟩,k.1.1,k.1.2,ZfP k.2.2 (by omega)⟩,fun j => ?_,fun j => ⟨⟨⟨h.2.1.1,h.2.1.2,ZfP h.2.2 (by omega)⟩,k.2.1.1,k.2.1.2,ZfP k.2.2 (by omega)⟩,?_⟩⟩)
 ·unfold Sp.Ze0
  simp only [if_neg j]
 ·unfold Sp.Ze0
  simp only [if_pos (Classical.not_not.1 j)]
end Go.Av

namespace Go.Av
open Go.Proofs
set_option maxRecDepth 100000
def fi18:Fi:=⟨84,[.tmp 4]⟩
def kp18:List (Nat × List Nat):=[(0,[2,3]),(1,[2,3,5,6]),(2,[2,3,5,6,21]),(3,[4]),(4,[2,3,5,6,7]),(5,[2,5,6,8,9]),(6,[2,5,6,8,9,46]),(7,[4]),(8,[5,8,9,10,11]),(9,[12,13]),(10,[12,13,78]),(11,[12,13]),(12,[4])]
def fi22:Fi:=⟨23,[.tmp 4,.tmp 5]⟩
def kp22:List (Nat × List Nat):=[(0,[2,3]),(1,[2,3,10]),(2,[4,5]),(3,[2,3,13]),(4,[4,5]),(5,[2,6]),(6,[4,5])]
def fi37:Fi:=⟨9,[.tmp 4]⟩
def kp37:List (Nat × List Nat):=[(0,[2,3]),(1,[4])]
def fi41:Fi:=⟨11,[.tmp 4]⟩
def kp41:List (Nat × List Nat):=[(0,[2,3]),(1,[4])]
def fi63:Fi:=⟨16,[.tmp 2]⟩
def kp63:List (Nat × List Nat):=[(0,[0]),(1,[0,3]),(2,[0,3,7]),(3,[0,3]),(4,[0,3,15]),(5,[2]),(6,[2])]
def Zgw (f1 f2 f3 f4 f5 f6 g1 g2 g3 g4 g5 g6:Bool) (a b c x y z:Rat) (Q:AV->Heap->Prop):Prop:=Wp M1 (.run fi22 (atC (cd Tryz.f22) []) [(0,Zas f1 f2 f3 f4 f5 f6 a b c),(1,Zas g1 g2 g3 g4 g5 g6 x y z)] []) Q
def mAtX_at (f1 f2 f3 f4 f5 f6 g1 g2:Bool) (x y q z:Rat) (Q:AV->Heap->Prop):Prop:=Wp M1 (.run fi41 (atC (cd Tryz.f41) []) [(0,Zas f1 f2 f3 f4 f5 f6 x y q),(1,ratA g1 g2 z)] []) Q
def rLC9_at (f1 f2 f3 f4 f5 f6 g1 g2 g3 g4 g5 g6:Bool) (a b c x y q:Rat) (Q:AV->Heap->Prop):Prop:=Wp M1 (.run fi18 (atC (cd Tryz.f18) []) [(0,Zas f1 f2 f3 f4 f5 f6 a b c),(1,Zas g1 g2 g3 g4 g5 g6 x y q)] []) Q
def rEq7_at (f1 f2 f3 f4 f5 f6 f7 f8 f9 f10 g1 g2 g3 g4 g5 g6 g7 g8 g9 g10:Bool) (ax bx ay by_ c ux vx uy vy d:Rat) (Q:AV->Heap->Prop):Prop:=Wp M1 (.run fi37 (atC (cd Tryz.f37) []) [(0,.agg [.bool (Sp.Zaa ax.num),.vec f1 1 ((Sp.Zad ax.num).map (.int .u32)),.bool (Sp.Zaa (ax.den:Int)),.vec f2 1 ((Sp.Zad (ax.den:Int)).map (.int .u32)),.bool (Sp.Zaa bx.num),.vec f3 1 ((Sp.Zad bx.num).map (.int .u32)),.bool (Sp.Zaa (bx.den:Int)),.vec f4 1 ((Sp.Zad (bx.den:Int)).map (.int .u32)),.bool (Sp.Zaa ay.num),.vec f5 1 ((Sp.Zad ay.num).map (.int .u32)),.bool (Sp.Zaa (ay.den:Int)),.vec f6 1 ((Sp.Zad (ay.den:Int)).map (.int .u32)),.bool (Sp.Zaa by_.num),.vec f7 1 ((Sp.Zad by_.num).map (.int .u32)),.bool (Sp.Zaa (by_.den:Int)),.vec f8 1 ((Sp.Zad (by_.den:Int)).map (.int .u32)),.bool (Sp.Zaa c.num),.vec f9 1 ((Sp.Zad c.num).map (.int .u32)),.bool (Sp.Zaa (c.den:Int)),.vec f10 1 ((Sp.Zad (c.den:Int)).map (.int .u32))]),(1,.agg [.bool (Sp.Zaa ux.num),.vec g1 1 ((Sp.Zad ux.num).map (.int .u32)),.bool (Sp.Zaa (ux.den:Int)),.vec g2 1 ((Sp.Zad (ux.den:Int)).map (.int .u32)),.bool (Sp.Zaa vx.num),.vec g3 1 ((Sp.Zad vx.num).map (.int .u32)),.bool (Sp.Zaa (vx.den:Int)),.vec g4 1 ((Sp.Zad (vx.den:Int)).map (.int .u32)),.bool (Sp.Zaa uy.num),.vec g5 1 ((Sp.Zad uy.num).map (.int .u32)),.bool (Sp.Zaa (uy.den:Int)),.vec g6 1 ((Sp.Zad (uy.den:Int)).map (.int .u32)),.bool (Sp.Zaa vy.num),.vec g7 1 ((Sp.Zad vy.num).map (.int .u32)),.bool (Sp.Zaa (vy.den:Int)),.vec g8 1 ((Sp.Zad (vy.den:Int)).map (.int .u32)),.bool (Sp.Zaa d.num),.vec g9 1 ((Sp.Zad d.num).map (.int .u32)),.bool (Sp.Zaa (d.den:Int)),.vec g10 1 ((Sp.Zad (d.den:Int)).map (.int .u32))])] []) Q
def rGood_at (u:Bool) (l:List Pnt) (Q:AV->Heap->Prop):Prop:=Wp M1 (.run fi63 (atC (cd Tryz.f63) []) [(0,.vec u 20 (l.map Pnt.a))] []) Q
def ZdK (u:Bool) (l:List Pnt) (i:Int) (Q:AV->Heap->Prop):Prop:=Wp M1 (.run fi63 (atC (cd Tryz.f63) [1,0,1,0,0]) [(0,.vec u 20 (l.map Pnt.a)),(3,.int .i64 i)] []) Q
theorem call18 {args:List AV} {d:AV} (h:wc M1 fi18 Tryz.f18 args d):Ev M1 (.pure 18 args) d []:=pcl _ _ (by kernel_rfl) h
theorem call22 {args:List AV} {d:AV} (h:wc M1 fi22 Tryz.f22 args d):Ev M1 (.pure 22 args) d []:=pcl _ _ (by kernel_rfl) h
theorem call37 {args:List AV} {d:AV} (h:wc M1 fi37 Tryz.f37 args d):Ev M1 (.pure 37 args) d []:=pcl _ _ (by kernel_rfl) h
theorem call41 {args:List AV} {d:AV} (h:wc M1 fi41 Tryz.f41 args d):Ev M1 (.pure 41 args) d []:=pcl _ _ (by kernel_rfl) h
theorem call63 {args:List AV} {d:AV} (h:wc M1 fi63 Tryz.f63 args d):Ev M1 (.pure 63 args) d []:=pcl _ _ (by kernel_rfl) h
theorem mCircles (f1 f2 f3 f4 f5 f6 g1 g2 g3 g4 g5 g6:Bool) (a b c x y z:Rat)  (dq:AV) (H :
  (Sp.ZeM a b c /\ Sp.ZeM x y z) /\
  ((a = x /\ b = y /\ c = z) -> Weak (tu [AV.vnil,vi 10]) dq) /\
  (¬(a = x /\ b = y /\ c = z) -> ((a = x /\ b = y) -> Weak (tu [AV.vnil,vi 0]) dq) /\
   (¬(a = x /\ b = y) -> (Sp.ZfD (Sp.qi 2 * (x - a)) (Sp.qi 2 * (y - b)) (x * x + y * y - z - (a * a + b * b - c)) /\ Sp.Zdx a b /\ Sp.okT 30 c) /\
    Weak (tu [AV.vec false 20 (List.map Pnt.a (Sp.Zbu (Sp.qi 2 * (x - a)) (Sp.qi 2 * (y - b)) (x * x + y * y - z - (a * a + b * b - c)) a b c)),vi 0]) dq))) :
 Zgw f1 f2 f3 f4 f5 f6 g1 g2 g3 g4 g5 g6 a b c x y z (Zaf dq):=by
 unfold Zgw
 obtain ⟨k1,H⟩:=H
 refine Zae (G:=Zac kp22 [(1,2,.call (vb (decide (a = x /\ b = y /\ c = z))) none)] []) 5 [] ⟨(atC (cd Tryz.f22) [1,0,1]),[(2,AV.ptr 0 0 0 0),(3,AV.ptr 1 0 0 0),(10,vb (decide (a = x /\ b = y /\ c = z)))],[⟨[Zas f1 f2 f3 f4 f5 f6 a b c],12,0,false,false⟩,⟨[Zas g1 g2 g3 g4 g5 g6 x y z],12,0,false,false⟩],_,[],_⟩ (by kernel_rfl) (bc rfl (bc rfl b0)) q0 (ce (@ev72 (f1) (f2) (f3) (f4) (f5) (f6) (g1) (g2) (g3) (g4) (g5) (g6) (a) (b) (c) (x) (y) (z) k1) c0) ?_
 rcases xq H with ⟨d3,H⟩|⟨d3,H⟩
 ·exact Zah (G:=Zac kp22 [] []) 1000 [true] (tu [AV.vnil,vi 10]) (by kernel_rfl) (bc (Zar (Zab.2 d3)) b0) q0 c0 H
 ·refine Zae (G:=Zac kp22 [(3,2,.call (vb (decide (a = x /\ b = y))) none)] []) 5 [false] ⟨(atC (cd Tryz.f22) [1,1,0,1]),[(2,AV.ptr 0 0 0 0),(3,AV.ptr 1 0 0 0),(13,vb (decide (a = x /\ b = y)))],[⟨[Zas f1 f2 f3 f4 f5 f6 a b c],12,0,false,false⟩,⟨[Zas g1 g2 g3 g4 g5 g6 x y z],12,0,false,false⟩],_,[],_⟩ (by kernel_rfl) (bc (Zao (fun h => d3 (Zab.1 h))) (bc rfl (bc rfl b0))) q0 (ce (@ev73 (f1) (f2) (f3) (f4) (f5) (f6) (g1) (g2) (g3) (g4) (g5) (g6) (a) (b) (c) (x) (y) (z) k1) c0) ?_
  rcases xq H with ⟨d5,H⟩|⟨d5,H⟩
  ·exact Zah (G:=Zac kp22 [] []) 1000 [true] (tu [AV.vnil,vi 0]) (by kernel_rfl) (bc (Zar (Zab.2 d5)) b0) q0 c0 H
  ·obtain ⟨k6,H⟩:=H
   exact Zah (G:=Zac kp22 [(5,2,.call (tu [ZaH (Sp.qi 2 * (x - a)) (Sp.qi 2 * (y - b)) (x * x + y * y - z - (a * a + b * b - c)),vi 0]) none),(6,2,.call (AV.vec false 20 (List.map Pnt.a (Sp.Zbu (Sp.qi 2 * (x - a)) (Sp.qi 2 * (y - b)) (x * x + y * y - z - (a * a + b * b - c)) a b c))) none)] []) 1000 [false] (tu [AV.vec false 20 (List.map Pnt.a (Sp.Zbu (Sp.qi 2 * (x - a)) (Sp.qi 2 * (y - b)) (x * x + y * y - z - (a * a + b * b - c)) a b c)),vi 0]) (by kernel_rfl) (bc (Zao (fun h => d5 (Zab.1 h))) (bc rfl (bc rfl (bc rfl (bc rfl (bc rfl b0)))))) q0 (ce (@ev25_n (f1) (f2) (f3) (f4) (f5) (f6) (g1) (g2) (g3) (g4) (g5) (g6) (a) (b) (c) (x) (y) (z) k1 d5) (ce (@ev17 (false) (false) (false) (false) (false) (false) (f1) (f2) (f3) (f4) (f5) (f6) (Sp.qi 2 * (x - a)) (Sp.qi 2 * (y - b)) (x * x + y * y - z - (a * a + b * b - c)) (a) (b) (c) k6) c0)) H
theorem mAtX (f1 f2 f3 f4 f5 f6 g1 g2:Bool) (x y q z:Rat)  (dq:AV) (H :
  (Sp.inI 1) /\
  (Sp.inI 0) /\
  (Sp.ZfD (Sp.qi 1) (Sp.qi 0) z /\ Sp.Zdx x y /\ Sp.okT 30 q) /\
  Weak (AV.vec false 20 (List.map Pnt.a (Sp.Zbu (Sp.qi 1) (Sp.qi 0) z x y q))) dq) :
 mAtX_at f1 f2 f3 f4 f5 f6 g1 g2 x y q z (Zaf dq):=by
 unfold mAtX_at
 obtain ⟨k1,k2,k3,H⟩:=H
 exact Zah (G:=Zac kp41 [(1,0,.call (ratF (Sp.qi 1)) none),(1,1,.call (ratF (Sp.qi 0)) none),(1,5,.call (AV.vec false 20 (List.map Pnt.a (Sp.Zbu (Sp.qi 1) (Sp.qi 0) z x y q))) none)] []) 1000 [] (AV.vec false 20 (List.map Pnt.a (Sp.Zbu (Sp.qi 1) (Sp.qi 0) z x y q))) (by kernel_rfl) (bc rfl (bc rfl b0)) q0 (ce (@ev75 (1) k1) (ce (@ev75 (0) k2) (ce (@ev17 (false) (false) (false) (false) (g1) (g2) (f1) (f2) (f3) (f4) (f5) (f6) (Sp.qi 1) (Sp.qi 0) (z) (x) (y) (q) k3) c0))) H
noncomputable abbrev zNmF3 (x:Rat) (a:Rat) (b:Rat) (c:Rat) (y:Rat) (q:Rat):=Sp.red (x-Sp.ZaV a b c x y / Sp.Zaz a b*a) (-(b / Sp.Zaz a b)) (y-Sp.ZaV a b c x y / Sp.Zaz a b*b) (-(-a / Sp.Zaz a b)) (Sp.Zb7 a b c x y q)
noncomputable abbrev zNmF1 (x:Rat) (a:Rat) (b:Rat) (c:Rat) (y:Rat) (q:Rat):=(Pnt.a (zNmF3 x a b c y q))
noncomputable abbrev zNmF4 (x:Rat) (a:Rat) (b:Rat) (c:Rat) (y:Rat) (q:Rat):=Sp.red (x-Sp.ZaV a b c x y / Sp.Zaz a b*a) (b / Sp.Zaz a b) (y-Sp.ZaV a b c x y / Sp.Zaz a b*b) (-a / Sp.Zaz a b) (Sp.Zb7 a b c x y q)
noncomputable abbrev zNmF2 (x:Rat) (a:Rat) (b:Rat) (c:Rat) (y:Rat) (q:Rat):=(Pnt.a (zNmF4 x a b c y q))
noncomputable abbrev zNmF5 (x:Rat) (a:Rat) (b:Rat) (c:Rat) (y:Rat):=(pntF (x-Sp.ZaV a b c x y / Sp.Zaz a b*a) (Sp.qi 0) (y-Sp.ZaV a b c x y / Sp.Zaz a b*b) (Sp.qi 0) (Sp.qi 0))
theorem rLC9 (f1 f2 f3 f4 f5 f6 g1 g2 g3 g4 g5 g6:Bool) (a b c x y q:Rat)  (dq:AV) (H :
  (Sp.ZeM a b c /\ Sp.Zdx x y /\ Sp.okT 30 q) /\
  (Sp.Zdx a b) /\
  ((Sp.sgnI (Sp.Zb7 a b c x y q).num < 0) -> Weak (AV.vnil) dq) /\
  (¬(Sp.sgnI (Sp.Zb7 a b c x y q).num < 0) -> (Sp.ZeM a b c /\ Sp.Zdx x y) /\
   (Sp.okR (Sp.ZaV a b c x y) /\ Sp.okR (Sp.Zaz a b) /\ (Sp.Zaz a b).num ≠ 0) /\
   (Sp.okR (Sp.ZaV a b c x y / Sp.Zaz a b) /\ Sp.okR a) /\
   (Sp.okR x /\ Sp.okR (Sp.ZaV a b c x y / Sp.Zaz a b * a)) /\
   (Sp.okR (Sp.ZaV a b c x y / Sp.Zaz a b) /\ Sp.okR b) /\
   (Sp.okR y /\ Sp.okR (Sp.ZaV a b c x y / Sp.Zaz a b * b)) /\
   ((Sp.sgnI (Sp.Zb7 a b c x y q).num = 0) -> Weak (AV.vec true 20 [(pntF (x - Sp.ZaV a b c x y / Sp.Zaz a b * a) (Sp.qi 0) (y - Sp.ZaV a b c x y / Sp.Zaz a b * b) (Sp.qi 0) (Sp.qi 0))]) dq) /\
   (¬(Sp.sgnI (Sp.Zb7 a b c x y q).num = 0) -> (Sp.okR b /\ Sp.okR (Sp.Zaz a b) /\ (Sp.Zaz a b).num ≠ 0) /\
    (Sp.ok a.num) /\
    (Sp.okR (-a) /\ Sp.okR (Sp.Zaz a b) /\ (Sp.Zaz a b).num ≠ 0) /\
    (Sp.ok (b / Sp.Zaz a b).num) /\
    (Sp.ok (-a / Sp.Zaz a b).num) /\
    (Sp.Ze4 { ax:=x - Sp.ZaV a b c x y / Sp.Zaz a b * a,bx:=-(b / Sp.Zaz a b),ay:=y - Sp.ZaV a b c x y / Sp.Zaz a b * b,by_:=-(-a / Sp.Zaz a b),c:=Sp.Zb7 a b c x y q }) /\
    (Sp.Ze4 { ax:=x - Sp.ZaV a b c x y / Sp.Zaz a b * a,bx:=b / Sp.Zaz a b,ay:=y - Sp.ZaV a b c x y / Sp.Zaz a b * b,by_:=-a / Sp.Zaz a b,c:=Sp.Zb7 a b c x y q }) /\
    (Sp.Ze4 (Sp.red (x - Sp.ZaV a b c x y / Sp.Zaz a b * a) (-(b / Sp.Zaz a b)) (y - Sp.ZaV a b c x y / Sp.Zaz a b * b) (-(-a / Sp.Zaz a b)) (Sp.Zb7 a b c x y q)) /\ Sp.Ze4 (Sp.red (x - Sp.ZaV a b c x y / Sp.Zaz a b * a) (b / Sp.Zaz a b) (y - Sp.ZaV a b c x y / Sp.Zaz a b * b) (-a / Sp.Zaz a b) (Sp.Zb7 a b c x y q))) /\
    ((Sp.Ze0 (Sp.red (x - Sp.ZaV a b c x y / Sp.Zaz a b * a) (-(b / Sp.Zaz a b)) (y - Sp.ZaV a b c x y / Sp.Zaz a b * b) (-(-a / Sp.Zaz a b)) (Sp.Zb7 a b c x y q)) (Sp.red (x - Sp.ZaV a b c x y / Sp.Zaz a b * a) (b / Sp.Zaz a b) (y - Sp.ZaV a b c x y / Sp.Zaz a b * b) (-a / Sp.Zaz a b) (Sp.Zb7 a b c x y q)) > 0) -> Weak (AV.vec true 20 [(Pnt.a (Sp.red (x - Sp.ZaV a b c x y / Sp.Zaz a b * a) (b / Sp.Zaz a b) (y - Sp.ZaV a b c x y / Sp.Zaz a b * b) (-a / Sp.Zaz a b) (Sp.Zb7 a b c x y q))),(Pnt.a (Sp.red (x - Sp.ZaV a b c x y / Sp.Zaz a b * a) (-(b / Sp.Zaz a b)) (y - Sp.ZaV a b c x y / Sp.Zaz a b * b) (-(-a / Sp.Zaz a b)) (Sp.Zb7 a b c x y q)))]) dq) /\
    (¬(Sp.Ze0 (Sp.red (x - Sp.ZaV a b c x y / Sp.Zaz a b * a) (-(b / Sp.Zaz a b)) (y - Sp.ZaV a b c x y / Sp.Zaz a b * b) (-(-a / Sp.Zaz a b)) (Sp.Zb7 a b c x y q)) (Sp.red (x - Sp.ZaV a b c x y / Sp.Zaz a b * a) (b / Sp.Zaz a b) (y - Sp.ZaV a b c x y / Sp.Zaz a b * b) (-a / Sp.Zaz a b) (Sp.Zb7 a b c x y q)) > 0) -> Weak (AV.vec true 20 [(Pnt.a (Sp.red (x - Sp.ZaV a b c x y / Sp.Zaz a b * a) (-(b / Sp.Zaz a b)) (y - Sp.ZaV a b c x y / Sp.Zaz a b * b) (-(-a / Sp.Zaz a b)) (Sp.Zb7 a b c x y q))),(Pnt.a (Sp.red (x - Sp.ZaV a b c x y / Sp.Zaz a b * a) (b / Sp.Zaz a b) (y - Sp.ZaV a b c x y / Sp.Zaz a b * b) (-a / Sp.Zaz a b) (Sp.Zb7 a b c x y q)))]) dq)))) :
 rLC9_at f1 f2 f3 f4 f5 f6 g1 g2 g3 g4 g5 g6 a b c x y q (Zaf dq):=by
 unfold rLC9_at
 obtain ⟨k1,k2,H⟩:=H
 refine Zae (G:=Zac kp18 [(1,2,.call (ratF (Sp.Zb7 a b c x y q)) none),(1,4,.call (ratF (Sp.Zaz a b)) none)] []) 3 [] ⟨(atC (cd Tryz.f18) [1,0]),[(2,AV.ptr 0 0 0 0),(3,AV.ptr 1 0 0 0)],[⟨[Zas f1 f2 f3 f4 f5 f6 a b c],12,0,false,false⟩,⟨[Zas g1 g2 g3 g4 g5 g6 x y q],12,0,false,false⟩],_,[],_⟩ (by kernel_rfl) b0 q0 c0 (Zcx (G:=Zac kp18 [(1,2,.call (ratF (Sp.Zb7 a b c x y q)) none),(1,4,.call (ratF (Sp.Zaz a b)) none)] []) [0,1,3,2] 5 (e1:=[(2,AV.ptr 0 0 0 0),(3,AV.ptr 1 0 0 0),(5,AV.ptr 2 0 0 0),(6,AV.ptr 3 0 0 0)]) (L1:=[⟨[Zas f1 f2 f3 f4 f5 f6 a b c],12,0,false,false⟩,⟨[Zas g1 g2 g3 g4 g5 g6 x y q],12,0,false,false⟩,⟨[ratF (Sp.Zb7 a b c x y q)],4,0,false,false⟩,⟨[ratF (Sp.Zaz a b)],4,0,false,false⟩]) (a:=[true,true,true,true,true]) (q:=[]) (cs:=[⟨true,false,21,[Zas f1 f2 f3 f4 f5 f6 a b c,Zas g1 g2 g3 g4 g5 g6 x y q],[],ratF (Sp.Zb7 a b c x y q),[]⟩,⟨true,false,67,[Zas f1 f2 f3 f4 f5 f6 a b c],[],ratF (Sp.Zaz a b),[]⟩]) (by kernel_rfl) (by kernel_rfl) (Zai rfl (Zai rfl (Zai rfl (Zai rfl (Zai rfl ZaM))))) Za1 (ZaF (fun _ => (@ev21 (f1) (f2) (f3) (f4) (f5) (f6) (g1) (g2) (g3) (g4) (g5) (g6) (a) (b) (c) (x) (y) (q) k1)) (ZaF (fun _ => (@ev67 (f1) (f2) (f3) (f4) (f5) (f6) (a) (b) (c) k2)) Za2)) ?_)
 refine Zae (G:=Zac kp18 [(2,1,.call (vi (Sp.sgnI (Sp.Zb7 a b c x y q).num)) none)] []) 3 [] ⟨(atC (cd Tryz.f18) [1,1,0,1]),[(2,AV.ptr 0 0 0 0),(3,AV.ptr 1 0 0 0),(5,AV.ptr 2 0 0 0),(6,AV.ptr 3 0 0 0),(21,vb (decide (Sp.sgnI (Sp.Zb7 a b c x y q).num < 0)))],[⟨[Zas f1 f2 f3 f4 f5 f6 a b c],12,0,false,false⟩,⟨[Zas g1 g2 g3 g4 g5 g6 x y q],12,0,false,false⟩,⟨[ratF (Sp.Zb7 a b c x y q)],4,0,false,false⟩,⟨[ratF (Sp.Zaz a b)],4,0,false,false⟩],_,[],_⟩ (by kernel_rfl) (bc rfl b0) q0 (ce (@ev20 (false) (false) ((Sp.Zb7 a b c x y q).num) ((↑(Sp.Zb7 a b c x y q).den:Int))) c0) ?_
 rcases xq H with ⟨d4,H⟩|⟨d4,H⟩
 ·exact Zah (G:=Zac kp18 [] []) 1000 [true] (AV.vnil) (by kernel_rfl) (bc (Zar (Zab.2 d4)) b0) q0 c0 H
 ·obtain ⟨k5,k6,k7,k8,k9,k10,H⟩:=H
  refine Zae (G:=Zac kp18 [(4,5,.call (ratF (Sp.ZaV a b c x y)) none),(4,7,.call (ratF (Sp.ZaV a b c x y / Sp.Zaz a b)) none),(5,5,.call (ratF (Sp.ZaV a b c x y / Sp.Zaz a b * a)) none),(5,6,.call (ratF (x - Sp.ZaV a b c x y / Sp.Zaz a b * a)) none),(5,12,.call (ratF (Sp.ZaV a b c x y / Sp.Zaz a b * b)) none),(5,13,.call (ratF (y - Sp.ZaV a b c x y / Sp.Zaz a b * b)) none)] []) 5 [false] ⟨(atC (cd Tryz.f18) [1,1,1,1,0]),[(2,AV.ptr 0 0 0 0),(3,AV.ptr 1 0 0 0),(5,AV.ptr 2 0 0 0),(6,AV.ptr 3 0 0 0),(7,AV.ptr 4 0 0 0)],[⟨[Zas f1 f2 f3 f4 f5 f6 a b c],12,0,false,false⟩,⟨[Zas g1 g2 g3 g4 g5 g6 x y q],12,0,false,false⟩,⟨[ratF (Sp.Zb7 a b c x y q)],4,0,false,false⟩,⟨[ratF (Sp.Zaz a b)],4,0,false,false⟩,⟨[ratF (Sp.ZaV a b c x y / Sp.Zaz a b)],4,0,false,false⟩],_,[],_⟩ (by kernel_rfl) (bc (Zao (fun h => d4 (Zab.1 h))) (bc rfl (bc rfl (bc rfl (bc rfl (bc rfl b0)))))) q0 (ce (@ev30 (f1) (f2) (f3) (f4) (f5) (f6) (g1) (g2) (g3) (g4) (a) (b) (c) (x) (y) k5) (ce (@ev62 (false) (false) (false) (false) (Sp.ZaV a b c x y) (Sp.Zaz a b) k6) c0)) (Zcx (G:=Zac kp18 [(4,5,.call (ratF (Sp.ZaV a b c x y)) none),(4,7,.call (ratF (Sp.ZaV a b c x y / Sp.Zaz a b)) none),(5,5,.call (ratF (Sp.ZaV a b c x y / Sp.Zaz a b * a)) none),(5,6,.call (ratF (x - Sp.ZaV a b c x y / Sp.Zaz a b * a)) none),(5,12,.call (ratF (Sp.ZaV a b c x y / Sp.Zaz a b * b)) none),(5,13,.call (ratF (y - Sp.ZaV a b c x y / Sp.Zaz a b * b)) none)] []) [0,1,2,3,4,6,5] 14 (e1:=[(2,AV.ptr 0 0 0 0),(5,AV.ptr 2 0 0 0),(6,AV.ptr 3 0 0 0),(8,AV.ptr 5 0 0 0),(9,AV.ptr 6 0 0 0)]) (L1:=[⟨[Zas f1 f2 f3 f4 f5 f6 a b c],12,0,false,false⟩,⟨[Zas g1 g2 g3 g4 g5 g6 x y q],12,0,false,false⟩,⟨[ratF (Sp.Zb7 a b c x y q)],4,0,false,false⟩,⟨[ratF (Sp.Zaz a b)],4,0,false,false⟩,⟨[ratF (Sp.ZaV a b c x y / Sp.Zaz a b)],4,0,false,false⟩,⟨[ratF (x - Sp.ZaV a b c x y / Sp.Zaz a b * a)],4,0,false,false⟩,⟨[ratF (y - Sp.ZaV a b c x y / Sp.Zaz a b * b)],4,0,false,false⟩]) (a:=[true,true,true,true,true,true,true,true]) (q:=[]) (cs:=[⟨true,false,60,[ratF (Sp.ZaV a b c x y / Sp.Zaz a b),ratA f1 f2 a],[],ratF (Sp.ZaV a b c x y / Sp.Zaz a b * a),[]⟩,⟨true,false,59,[ratA g1 g2 x,ratF (Sp.ZaV a b c x y / Sp.Zaz a b * a)],[],ratF (x - Sp.ZaV a b c x y / Sp.Zaz a b * a),[]⟩,⟨true,false,60,[ratF (Sp.ZaV a b c x y / Sp.Zaz a b),ratA f3 f4 b],[],ratF (Sp.ZaV a b c x y / Sp.Zaz a b * b),[]⟩,⟨true,false,59,[ratA g3 g4 y,ratF (Sp.ZaV a b c x y / Sp.Zaz a b * b)],[],ratF (y - Sp.ZaV a b c x y / Sp.Zaz a b * b),[]⟩]) (by kernel_rfl) (by kernel_rfl) (Zai rfl (Zai rfl (Zai rfl (Zai rfl (Zai rfl (Zai rfl (Zai rfl (Zai rfl ZaM)))))))) Za1 (ZaF (fun _ => (@ev60 (false) (false) (f1) (f2) (Sp.ZaV a b c x y / Sp.Zaz a b) (a) k7)) (ZaF (fun _ => (@ev59 (g1) (g2) (false) (false) (x) (Sp.ZaV a b c x y / Sp.Zaz a b * a) k8)) (ZaF (fun _ => (@ev60 (false) (false) (f3) (f4) (Sp.ZaV a b c x y / Sp.Zaz a b) (b) k9)) (ZaF (fun _ => (@ev59 (g3) (g4) (false) (false) (y) (Sp.ZaV a b c x y / Sp.Zaz a b * b) k10)) Za2)))) ?_)
  refine Zae (G:=Zac kp18 [(6,1,.call (vi (Sp.sgnI (Sp.Zb7 a b c x y q).num)) none)] []) 3 [] ⟨(atC (cd Tryz.f18) [1,1,1,1,1,0,1]),[(2,AV.ptr 0 0 0 0),(5,AV.ptr 2 0 0 0),(6,AV.ptr 3 0 0 0),(8,AV.ptr 5 0 0 0),(9,AV.ptr 6 0 0 0),(46,vb (Sp.sgnI (Sp.Zb7 a b c x y q).num == 0))],[⟨[Zas f1 f2 f3 f4 f5 f6 a b c],12,0,false,false⟩,⟨[Zas g1 g2 g3 g4 g5 g6 x y q],12,0,false,false⟩,⟨[ratF (Sp.Zb7 a b c x y q)],4,0,false,false⟩,⟨[ratF (Sp.Zaz a b)],4,0,false,false⟩,⟨[ratF (Sp.ZaV a b c x y / Sp.Zaz a b)],4,0,false,false⟩,⟨[ratF (x - Sp.ZaV a b c x y / Sp.Zaz a b * a)],4,0,false,false⟩,⟨[ratF (y - Sp.ZaV a b c x y / Sp.Zaz a b * b)],4,0,false,false⟩],_,[],_⟩ (by kernel_rfl) (bc rfl b0) q0 (ce (@ev20 (false) (false) ((Sp.Zb7 a b c x y q).num) ((↑(Sp.Zb7 a b c x y q).den:Int))) c0) ?_
  rcases xq H with ⟨d12,H⟩|⟨d12,H⟩
  ·exact Zah (G:=Zac kp18 [(7,3,.call ((zNmF5 x a b c y)) none)] []) 1000 [true] (AV.vec true 20 [(zNmF5 x a b c y)]) (by kernel_rfl) (bc (Zar (i_eq.2 d12)) (bc rfl (bc rfl b0))) q0 (ce (@ev61 (false) (false) (false) (false) (x - Sp.ZaV a b c x y / Sp.Zaz a b * a) (y - Sp.ZaV a b c x y / Sp.Zaz a b * b)) c0) H
  ·obtain ⟨k13,k14,k15,H⟩:=H
   refine Zae (G:=Zac kp18 [(8,3,.call (ratF (b / Sp.Zaz a b)) none),(8,6,.call (ratF (-a)) none),(8,8,.call (ratF (-a / Sp.Zaz a b)) none)] []) 3 [false] ⟨(atC (cd Tryz.f18) [1,1,1,1,1,1,0]),[(2,AV.ptr 0 0 0 0),(5,AV.ptr 2 0 0 0),(6,AV.ptr 3 0 0 0),(8,AV.ptr 5 0 0 0),(9,AV.ptr 6 0 0 0),(46,vb (Sp.sgnI (Sp.Zb7 a b c x y q).num == 0))],[⟨[Zas f1 f2 f3 f4 f5 f6 a b c],12,0,false,false⟩,⟨[Zas g1 g2 g3 g4 g5 g6 x y q],12,0,false,false⟩,⟨[ratF (Sp.Zb7 a b c x y q)],4,0,false,false⟩,⟨[ratF (Sp.Zaz a b)],4,0,false,false⟩,⟨[ratF (Sp.ZaV a b c x y / Sp.Zaz a b)],4,0,false,false⟩,⟨[ratF (x - Sp.ZaV a b c x y / Sp.Zaz a b * a)],4,0,false,false⟩,⟨[ratF (y - Sp.ZaV a b c x y / Sp.Zaz a b * b)],4,0,false,false⟩],_,[],_⟩ (by kernel_rfl) (bc (Zao (fun h => d12 (i_eq.1 h))) b0) q0 c0 (Zcx (G:=Zac kp18 [(8,3,.call (ratF (b / Sp.Zaz a b)) none),(8,6,.call (ratF (-a)) none),(8,8,.call (ratF (-a / Sp.Zaz a b)) none)] []) [0,1,2,3,4,5,6,8,7] 9 (e1:=[(5,AV.ptr 2 0 0 0),(8,AV.ptr 5 0 0 0),(9,AV.ptr 6 0 0 0),(10,AV.ptr 7 0 0 0),(11,AV.ptr 8 0 0 0)]) (L1:=[⟨[Zas f1 f2 f3 f4 f5 f6 a b c],12,0,false,false⟩,⟨[Zas g1 g2 g3 g4 g5 g6 x y q],12,0,false,false⟩,⟨[ratF (Sp.Zb7 a b c x y q)],4,0,false,false⟩,⟨[ratF (Sp.Zaz a b)],4,0,false,false⟩,⟨[ratF (Sp.ZaV a b c x y / Sp.Zaz a b)],4,0,false,false⟩,⟨[ratF (x - Sp.ZaV a b c x y / Sp.Zaz a b * a)],4,0,false,false⟩,⟨[ratF (y - Sp.ZaV a b c x y / Sp.Zaz a b * b)],4,0,false,false⟩,⟨[ratF (b / Sp.Zaz a b)],4,0,false,false⟩,⟨[ratF (-a / Sp.Zaz a b)],4,0,false,false⟩]) (a:=[true,true,true,true,true,true]) (q:=[]) (cs:=[⟨true,false,62,[ratA f3 f4 b,ratF (Sp.Zaz a b)],[],ratF (b / Sp.Zaz a b),[]⟩,⟨true,false,68,[ratA f1 f2 a],[],ratF (-a),[]⟩,⟨true,false,62,[ratF (-a),ratF (Sp.Zaz a b)],[],ratF (-a / Sp.Zaz a b),[]⟩]) (by kernel_rfl) (by kernel_rfl) (Zai rfl (Zai rfl (Zai rfl (Zai rfl (Zai rfl (Zai rfl ZaM)))))) Za1 (ZaF (fun _ => (@ev62 (f3) (f4) (false) (false) (b) (Sp.Zaz a b) k13)) (ZaF (fun _ => (@ev68 (f1) (f2) (a) k14)) (ZaF (fun _ => (@ev62 (false) (false) (false) (false) (-a) (Sp.Zaz a b) k15)) Za2))) ?_)
   obtain ⟨k16,k17,k18,k19,H⟩:=H
   refine Zae (G:=Zac kp18 [(9,2,.call (ratF (-(b / Sp.Zaz a b))) none),(9,5,.call (ratF (-(-a / Sp.Zaz a b))) none),(9,7,.call ((zNmF1 x a b c y q)) none),(9,13,.call ((zNmF2 x a b c y q)) none)] []) 1 [] ⟨(atC (cd Tryz.f18) [1,1,1,1,1,1,1,0]),[(5,AV.ptr 2 0 0 0),(8,AV.ptr 5 0 0 0),(9,AV.ptr 6 0 0 0),(10,AV.ptr 7 0 0 0),(11,AV.ptr 8 0 0 0)],[⟨[Zas f1 f2 f3 f4 f5 f6 a b c],12,0,false,false⟩,⟨[Zas g1 g2 g3 g4 g5 g6 x y q],12,0,false,false⟩,⟨[ratF (Sp.Zb7 a b c x y q)],4,0,false,false⟩,⟨[ratF (Sp.Zaz a b)],4,0,false,false⟩,⟨[ratF (Sp.ZaV a b c x y / Sp.Zaz a b)],4,0,false,false⟩,⟨[ratF (x - Sp.ZaV a b c x y / Sp.Zaz a b * a)],4,0,false,false⟩,⟨[ratF (y - Sp.ZaV a b c x y / Sp.Zaz a b * b)],4,0,false,false⟩,⟨[ratF (b / Sp.Zaz a b)],4,0,false,false⟩,⟨[ratF (-a / Sp.Zaz a b)],4,0,false,false⟩],_,[],_⟩ (by kernel_rfl) b0 q0 c0 (Zcx (G:=Zac kp18 [(9,2,.call (ratF (-(b / Sp.Zaz a b))) none),(9,5,.call (ratF (-(-a / Sp.Zaz a b))) none),(9,7,.call ((zNmF1 x a b c y q)) none),(9,13,.call ((zNmF2 x a b c y q)) none)] []) [0,1,2,3,4,5,6,7,8,10,9] 14 (e1:=[(12,AV.ptr 9 0 0 0),(13,AV.ptr 10 0 0 0)]) (L1:=[⟨[Zas f1 f2 f3 f4 f5 f6 a b c],12,0,false,false⟩,⟨[Zas g1 g2 g3 g4 g5 g6 x y q],12,0,false,false⟩,⟨[ratF (Sp.Zb7 a b c x y q)],4,0,false,false⟩,⟨[ratF (Sp.Zaz a b)],4,0,false,false⟩,⟨[ratF (Sp.ZaV a b c x y / Sp.Zaz a b)],4,0,false,false⟩,⟨[ratF (x - Sp.ZaV a b c x y / Sp.Zaz a b * a)],4,0,false,false⟩,⟨[ratF (y - Sp.ZaV a b c x y / Sp.Zaz a b * b)],4,0,false,false⟩,⟨[ratF (b / Sp.Zaz a b)],4,0,false,false⟩,⟨[ratF (-a / Sp.Zaz a b)],4,0,false,false⟩,⟨[(zNmF1 x a b c y q)],20,0,false,false⟩,⟨[(zNmF2 x a b c y q)],20,0,false,false⟩]) (a:=[true,true,true,true,true,true,true,true,true,true,true,true]) (q:=[]) (cs:=[⟨true,false,68,[ratF (b / Sp.Zaz a b)],[],ratF (-(b / Sp.Zaz a b)),[]⟩,⟨true,false,68,[ratF (-a / Sp.Zaz a b)],[],ratF (-(-a / Sp.Zaz a b)),[]⟩,⟨true,false,69,[ratF (x - Sp.ZaV a b c x y / Sp.Zaz a b * a),ratF (-(b / Sp.Zaz a b)),ratF (y - Sp.ZaV a b c x y / Sp.Zaz a b * b),ratF (-(-a / Sp.Zaz a b)),ratF (Sp.Zb7 a b c x y q)],[],(zNmF1 x a b c y q),[]⟩,⟨true,false,69,[ratF (x - Sp.ZaV a b c x y / Sp.Zaz a b * a),ratF (b / Sp.Zaz a b),ratF (y - Sp.ZaV a b c x y / Sp.Zaz a b * b),ratF (-a / Sp.Zaz a b),ratF (Sp.Zb7 a b c x y q)],[],(zNmF2 x a b c y q),[]⟩]) (by kernel_rfl) (by kernel_rfl) (Zai rfl (Zai rfl (Zai rfl (Zai rfl (Zai rfl (Zai rfl (Zai rfl (Zai rfl (Zai rfl (Zai rfl (Zai rfl (Zai rfl ZaM)))))))))))) Za1 (ZaF (fun _ => (@ev68 (false) (false) (b / Sp.Zaz a b) k16)) (ZaF (fun _ => (@ev68 (false) (false) (-a / Sp.Zaz a b) k17)) (ZaF (fun _ => (@ev69 (false) (false) (false) (false) (false) (false) (false) (false) (false) (false) (x - Sp.ZaV a b c x y / Sp.Zaz a b * a) (-(b / Sp.Zaz a b)) (y - Sp.ZaV a b c x y / Sp.Zaz a b * b) (-(-a / Sp.Zaz a b)) (Sp.Zb7 a b c x y q) k18)) (ZaF (fun _ => (@ev69 (false) (false) (false) (false) (false) (false) (false) (false) (false) (false) (x - Sp.ZaV a b c x y / Sp.Zaz a b * a) (b / Sp.Zaz a b) (y - Sp.ZaV a b c x y / Sp.Zaz a b * b) (-a / Sp.Zaz a b) (Sp.Zb7 a b c x y q) k19)) Za2)))) ?_)
   obtain ⟨k20,H⟩:=H
   refine Zae (G:=Zac kp18 [(10,2,.call (vi (Sp.Ze0 (zNmF3 x a b c y q) (zNmF4 x a b c y q))) none)] []) 3 [] ⟨(atC (cd Tryz.f18) [1,1,1,1,1,1,1,1,0,1]),[(12,AV.ptr 9 0 0 0),(13,AV.ptr 10 0 0 0),(78,vb (decide (Sp.Ze0 (zNmF3 x a b c y q) (zNmF4 x a b c y q) > 0)))],[⟨[Zas f1 f2 f3 f4 f5 f6 a b c],12,0,false,false⟩,⟨[Zas g1 g2 g3 g4 g5 g6 x y q],12,0,false,false⟩,⟨[ratF (Sp.Zb7 a b c x y q)],4,0,false,false⟩,⟨[ratF (Sp.Zaz a b)],4,0,false,false⟩,⟨[ratF (Sp.ZaV a b c x y / Sp.Zaz a b)],4,0,false,false⟩,⟨[ratF (x - Sp.ZaV a b c x y / Sp.Zaz a b * a)],4,0,false,false⟩,⟨[ratF (y - Sp.ZaV a b c x y / Sp.Zaz a b * b)],4,0,false,false⟩,⟨[ratF (b / Sp.Zaz a b)],4,0,false,false⟩,⟨[ratF (-a / Sp.Zaz a b)],4,0,false,false⟩,⟨[(zNmF1 x a b c y q)],20,0,false,false⟩,⟨[(zNmF2 x a b c y q)],20,0,false,false⟩],_,[],_⟩ (by kernel_rfl) (bc rfl (bc rfl b0)) q0 (ce (@ev70 (false) (false) (false) (false) (false) (false) (false) (false) (false) (false) (false) (false) (false) (false) (false) (false) (false) (false) (false) (false) ((zNmF3 x a b c y q).ax) ((zNmF3 x a b c y q).bx) ((zNmF3 x a b c y q).ay) ((zNmF3 x a b c y q).by_) ((zNmF3 x a b c y q).c) ((zNmF4 x a b c y q).ax) ((zNmF4 x a b c y q).bx) ((zNmF4 x a b c y q).ay) ((zNmF4 x a b c y q).by_) ((zNmF4 x a b c y q).c) k20) c0) ?_
   rcases xq H with ⟨d22,H⟩|⟨d22,H⟩
   ·exact Zah (G:=Zac kp18 [] []) 1000 [true] (AV.vec true 20 [(zNmF2 x a b c y q),(zNmF1 x a b c y q)]) (by kernel_rfl) (bc (Zar (Zab.2 d22)) (bc rfl (bc rfl (bc rfl (bc rfl (bc rfl (bc rfl b0))))))) q0 c0 H
   ·exact Zah (G:=Zac kp18 [] []) 1000 [false] (AV.vec true 20 [(zNmF1 x a b c y q),(zNmF2 x a b c y q)]) (by kernel_rfl) (bc (Zao (fun h => d22 (Zab.1 h))) (bc rfl (bc rfl b0))) q0 c0 H
theorem rEq7 (f1 f2 f3 f4 f5 f6 f7 f8 f9 f10 g1 g2 g3 g4 g5 g6 g7 g8 g9 g10:Bool) (ax bx ay by_ c ux vx uy vy d:Rat)  (dq:AV) (H :
  (Sp.Ze4 { ax:=ax,bx:=bx,ay:=ay,by_:=by_,c:=c } /\ Sp.Ze4 { ax:=ux,bx:=vx,ay:=uy,by_:=vy,c:=d }) /\
  vb (Sp.Ze0 { ax:=ax,bx:=bx,ay:=ay,by_:=by_,c:=c } { ax:=ux,bx:=vx,ay:=uy,by_:=vy,c:=d } == 0) = dq) :
 rEq7_at f1 f2 f3 f4 f5 f6 f7 f8 f9 f10 g1 g2 g3 g4 g5 g6 g7 g8 g9 g10 ax bx ay by_ c ux vx uy vy d (Zaf dq):=by
 unfold rEq7_at
 obtain ⟨k1,H⟩:=H
 exact Zaq (G:=Zac kp37 [(1,2,.call (vi (Sp.Ze0 { ax:=ax,bx:=bx,ay:=ay,by_:=by_,c:=c } { ax:=ux,bx:=vx,ay:=uy,by_:=vy,c:=d })) none)] []) 1000 [] (vb (Sp.Ze0 { ax:=ax,bx:=bx,ay:=ay,by_:=by_,c:=c } { ax:=ux,bx:=vx,ay:=uy,by_:=vy,c:=d } == 0)) (by kernel_rfl) (bc rfl (bc rfl b0)) q0 (ce (@ev70 (f1) (f2) (f3) (f4) (f5) (f6) (f7) (f8) (f9) (f10) (g1) (g2) (g3) (g4) (g5) (g6) (g7) (g8) (g9) (g10) (ax) (bx) (ay) (by_) (c) (ux) (vx) (uy) (vy) (d) k1) c0) H
theorem rGood (u:Bool) (l:List Pnt)  (dq:AV) (H :
  ZdK (u) (l) (0) (Zaf dq)) :
 rGood_at u l (Zaf dq):=by
 unfold rGood_at
 exact Zae (G:=Zac kp63 [] []) 1000 [] ⟨(atC (cd Tryz.f63) [1,0,1,0,0]),[(0,AV.vec u 20 (List.map Pnt.a l)),(3,vi 0)],[],_,[],_⟩ (by kernel_rfl) b0 q0 c0 (H)
noncomputable abbrev zNmF6 (l:List Pnt) (i:Int):=(Pnt.a (l.getD i.toNat default))
theorem rGoodH (u:Bool) (l:List Pnt) (i:Int)  (dq:AV) (H :
  ((i < (↑l.length:Int)) -> (Sp.Ze4 (l.getD i.toNat default)) /\
   (0 <= i) /\
   (i.toNat < l.length) /\
   ((¬(Sp.vP (l.getD i.toNat default).ax (l.getD i.toNat default).bx (l.getD i.toNat default).ay (l.getD i.toNat default).by_ (l.getD i.toNat default).c = true)) -> vb false = dq) /\
   (¬(¬(Sp.vP (l.getD i.toNat default).ax (l.getD i.toNat default).bx (l.getD i.toNat default).ay (l.getD i.toNat default).by_ (l.getD i.toNat default).c = true)) -> (-9223372036854775808 <= i + 1 /\ i + 1 <= 9223372036854775807) /\
    ZdK (u) (l) (i + 1) (Zaf dq))) /\
  (¬(i < (↑l.length:Int)) -> vb true = dq)) :
 ZdK u l i (Zaf dq):=by
 unfold ZdK
 have w1:(List.map Pnt.a l).length = l.length:=List.length_map ..
 have i2:(decide (i < (↑(List.map Pnt.a l).length:Int))) = true ↔ (i < (↑l.length:Int)):=(by (try rw [w1]);all_goals exact Zab)
 rcases xq H with ⟨d3,H⟩|⟨d3,H⟩
 ·obtain ⟨k4,k6,H⟩:=H
  have i7:(decide (i.toNat < (List.map Pnt.a l).length)) = true ↔ (i.toNat < l.length):=(by (try rw [w1]);all_goals exact Zab)
  obtain ⟨k8,H⟩:=H
  refine Zae (G:=Zac kp63 [(4,3,.elem (zNmF6 l i)),(4,4,.call (vb (Sp.vP (l.getD i.toNat default).ax (l.getD i.toNat default).bx (l.getD i.toNat default).ay (l.getD i.toNat default).by_ (l.getD i.toNat default).c)) none)] []) 9 [true] ⟨(atC (cd Tryz.f63) [1,0,1,0,0,1,0,0,1]),[(0,AV.vec u 20 (List.map Pnt.a l)),(3,vi i),(15,vb !Sp.vP (l.getD i.toNat default).ax (l.getD i.toNat default).bx (l.getD i.toNat default).ay (l.getD i.toNat default).by_ (l.getD i.toNat default).c)],[],_,[((List.map Pnt.a l).get?Internal i.toNat = some (zNmF6 l i))],_⟩ (by kernel_rfl) (bc (Zar (i2.2 d3)) (bc (Zab.2 k6) (bc (i7.2 k8) b0))) (qc (Zau k8) q0) (ce (@ev36 (false) (false) (false) (false) (false) (false) (false) (false) (false) (false) ((l.getD i.toNat default).ax) ((l.getD i.toNat default).bx) ((l.getD i.toNat default).ay) ((l.getD i.toNat default).by_) ((l.getD i.toNat default).c) k4) c0) ?_
  rcases xq H with ⟨d10,H⟩|⟨d10,H⟩
  ·exact Zaq (G:=Zac kp63 [] []) 1000 [true] (asm:=[(!Sp.vP (l.getD i.toNat default).ax (l.getD i.toNat default).bx (l.getD i.toNat default).ay (l.getD i.toNat default).by_ (l.getD i.toNat default).c) == true]) (vb false) (by kernel_rfl) (bc (Zar ((Za3 (ZaE _)).2 d10)) b0) q0 c0 H
  ·obtain ⟨k11,H⟩:=H
   have w12:wi (i + 1) = i + 1:=wI64 k11
   exact Zae (G:=Zac kp63 [] []) 1000 [false] ⟨(atC (cd Tryz.f63) [1,0,1,0,0]),[(0,AV.vec u 20 (List.map Pnt.a l)),(3,vi (wi (i + 1)))],[],[(!Sp.vP (l.getD i.toNat default).ax (l.getD i.toNat default).bx (l.getD i.toNat default).ay (l.getD i.toNat default).by_ (l.getD i.toNat default).c) == false],[],_⟩ (by kernel_rfl) (bc (Zao (fun h => d10 ((Za3 (ZaE _)).1 h))) b0) q0 c0 (by (try rw [w12]);all_goals exact H)
 ·exact Zaq (G:=Zac kp63 [] []) 1000 [false] (vb true) (by kernel_rfl) (bc (Zao (fun h => d3 (i2.1 h))) b0) q0 c0 H
end Go.Av

namespace Go.Av
open Go.Proofs
namespace Sp
def okI2 (a b c:Rat):Prop:=okT 2 a/\okT 2 b/\okT 2 c
noncomputable def rdA (a x:Rat):Rat:=qi 2*(x-a)
noncomputable def rdC (a b c x y z:Rat):Rat:=x*x+y*y-z-(a*a+b*b-c)
noncomputable def Zej (a b c x y z:Rat):Int:=if a=x/\b=y then (if c=z then 10 else 0) else 0
noncomputable def Zhh (a b c x y z:Rat):List Pnt:=if a=x/\b=y then [] else Zbu (rdA a x) (rdA b y) (rdC a b c x y z) a b c
noncomputable def Zfi (l:List Pnt):Bool:=l.all fun p=>vP p.ax p.bx p.ay p.by_ p.c
noncomputable def eqL:List Pnt -> List Pnt -> Bool
 | [],[] => true
 | p :: l,q :: m => bif decide (Ze0 p q = 0) then eqL l m else false
 | _,_ => false
end Sp
theorem Zgt {a b c:Rat} (h:Sp.okI2 a b c):Sp.ZeM a b c:=⟨Zan h.1 (by omega),Zan h.2.1 (by omega),Zan h.2.2 (by omega)⟩
theorem rd_ln {a b c x y z:Rat} (h:Sp.okI2 a b c) (k:Sp.okI2 x y z) (n:¬(a = x /\ b = y)):Sp.ZfD (Sp.rdA a x) (Sp.rdA b y) (Sp.rdC a b c x y z):=by
 obtain ⟨ha,hb,hc⟩:=h
 obtain ⟨hx,hy,hz⟩:=k
 refine ⟨⟨Zan (k:=8) (Zag (Zgs (by unfold Sp.inI;omega):Sp.okT 3 (Sp.qi 2)) (ZaA hx ha)) (by omega),Zan (k:=8) (Zag (Zgs (by unfold Sp.inI;omega):Sp.okT 3 (Sp.qi 2)) (ZaA hy hb)) (by omega),Zan (k:=25) (ZaA (ZaA (ZaG (Zag hx hx) (Zag hy hy)) hz) (ZaA (ZaG (Zag ha ha) (Zag hb hb)) hc)) (by omega)⟩,?_⟩
 have t:Sp.qi 2 = 2:=by rw [ZfC];rfl
 unfold Sp.rdA
 rw [t]
 by_cases e:a = x
 ·right
  have:¬b = y:=fun f => n ⟨e,f⟩
  grind
 ·left
  grind
theorem ev22 (f1 f2 f3 f4 f5 f6 g1 g2 g3 g4 g5 g6:Bool) (a b c x y z:Rat) (h:Sp.okI2 a b c /\ Sp.okI2 x y z):Ev M1 (.pure 22 [Zas f1 f2 f3 f4 f5 f6 a b c,Zas g1 g2 g3 g4 g5 g6 x y z]) (.tup [.vec false 20 ((Sp.Zhh a b c x y z).map Pnt.a),.int .i64 (Sp.Zej a b c x y z)]) []:=by
 obtain ⟨h1,h2⟩:=h
 have t1:=Zgt h1
 refine call22 (mCircles _ _ _ _ _ _ _ _ _ _ _ _ _ _ _ _ _ _ _ ⟨⟨t1,Zgt h2⟩,fun k => ?_,fun k => ⟨fun j => ?_,fun j => ⟨⟨rd_ln h1 h2 j,⟨t1.1,t1.2.1⟩,t1.2.2⟩,?_⟩⟩⟩)
 ·rw [show Sp.Zhh a b c x y z = [] from if_pos ⟨k.1,k.2.1⟩,show Sp.Zej a b c x y z = 10 by unfold Sp.Zej;rw [if_pos ⟨k.1,k.2.1⟩,if_pos k.2.2]]
  exact ZdZ _
 ·rw [show Sp.Zhh a b c x y z = [] from if_pos j,show Sp.Zej a b c x y z = 0 by unfold Sp.Zej;rw [if_pos j,if_neg fun q => k ⟨j.1,j.2,q⟩]]
  exact ZdZ _
 ·rw [show Sp.Zhh a b c x y z = Sp.Zbu (Sp.rdA a x) (Sp.rdA b y) (Sp.rdC a b c x y z) a b c from if_neg j,show Sp.Zej a b c x y z = 0 by unfold Sp.Zej;rw [if_neg j]]
  exact .refl _
theorem qi1_ne:Sp.qi 1 ≠ 0:=by rw [ZfC];exact fun h=>by have:(1:Rat)=0:=h;grind
theorem ln_1 {z:Rat} (h:Sp.okT 30 z):Sp.ZfD (Sp.qi 1) (Sp.qi 0) z:=⟨⟨Zan Zgr (by omega),Zan ZbC (by omega),h⟩,.inl qi1_ne⟩
theorem ev41 (f1 f2 f3 f4 f5 f6 g1 g2:Bool) (x y q z:Rat) (h:Sp.Zdx x y /\ Sp.okT 30 q /\ Sp.okT 30 z):Ev M1 (.pure 41 [Zas f1 f2 f3 f4 f5 f6 x y q,ratA g1 g2 z]) (.vec false 20 ((Sp.Zbu (Sp.qi 1) (Sp.qi 0) z x y q).map Pnt.a)) []:=
 call41 (mAtX _ _ _ _ _ _ _ _ _ _ _ _ _ ⟨by unfold Sp.inI;omega,by unfold Sp.inI;omega,⟨ln_1 h.2.2,h.1,h.2.1⟩,.refl _⟩)
theorem okP5_red {x w y t r:Rat} (hx:Sp.okT 350 x) (hw:Sp.okT 160 w) (hy:Sp.okT 350 y) (ht:Sp.okT 160 t) (hr:Sp.okT 500 r):Sp.Ze4 (Sp.red x w y t r):=by
 by_cases k:Sp.rsq r
 ·rw [red_y k]
  exact ⟨⟨Zan (k:=1011) (ZaG hx (Zag hw (ZdM k hr))) (by omega),Zan ZbC (by omega)⟩,⟨Zan (k:=1011) (ZaG hy (Zag ht (ZdM k hr))) (by omega),Zan ZbC (by omega)⟩,Zan ZbC (by omega)⟩
 ·rw [red_n k]
  exact ⟨⟨Zan hx (by omega),Zan hw (by omega)⟩,⟨Zan hy (by omega),Zan ht (by omega)⟩,Zan hr (by omega)⟩
theorem lineR_0 {a b c x y q:Rat} (k:Sp.Zb7 a b c x y q < 0):Sp.Zce a b c x y q = []:=by
 unfold Sp.Zce;rw [ZbH k,if_pos (by decide)]
theorem lineR_1 {a b c x y q:Rat} (k:Sp.Zb7 a b c x y q = 0):Sp.Zce a b c x y q = [Sp.atP (Sp.fX a b c x y) (Sp.fY a b c x y)]:=by
 unfold Sp.Zce;rw [k,ZaX,if_neg (by decide),if_pos rfl]
theorem lineR_2 {a b c x y q:Rat} (k:0 < Sp.Zb7 a b c x y q):Sp.Zce a b c x y q = if Sp.Ze0 (Sp.rP true a b c x y q) (Sp.rP false a b c x y q) > 0 then [Sp.rP false a b c x y q,Sp.rP true a b c x y q] else [Sp.rP true a b c x y q,Sp.rP false a b c x y q]:=by
 unfold Sp.Zce;rw [Zbd k,if_neg (by decide),if_neg (by decide)]
theorem okP5_rP {a b c x y q:Rat} (h:Sp.ZfD a b c) (hv:Sp.Zdx x y) (hq:Sp.okT 30 q) (s:Bool):Sp.Ze4 (Sp.rP s a b c x y q):=by
 have hf:=okT_f h hv
 have hnv:=okT_nv h.1 hv
 have hr:=okT_room h.1 hv hq
 obtain ⟨⟨ha,hb,hc⟩,h0⟩:=h
 have hn:(Sp.Zaz a b).num ≠ 0:=ZhE (ZdO h0)
 have w1:=ZbU hb hnv.1 hn
 have w2:=ZbU (Zbh ha) hnv.1 hn
 unfold Sp.rP
 cases s with
 | true => rw [cond_true];exact okP5_red hf.1 (Zbh w1) hf.2 (Zbh w2) hr
 | false => rw [cond_false];exact okP5_red hf.1 w1 hf.2 w2 hr
theorem ev18 (f1 f2 f3 f4 f5 f6 g1 g2 g3 g4 g5 g6:Bool) (a b c x y q:Rat) (h:Sp.ZfD a b c /\ Sp.Zdx x y /\ Sp.okT 30 q):Ev M1 (.pure 18 [Zas f1 f2 f3 f4 f5 f6 a b c,Zas g1 g2 g3 g4 g5 g6 x y q]) (.vec false 20 ((Sp.Zce a b c x y q).map Pnt.a)) []:=by
 obtain ⟨hl,hv,hq⟩:=h
 have hf:=okT_f hl hv
 have hnv:=okT_nv hl.1 hv
 have hr:=okT_room hl.1 hv hq
 have r1:=okP5_rP hl hv hq true
 have r2:=okP5_rP hl hv hq false
 have h3:=hl.1
 have hv':=hv
 obtain ⟨⟨ha,hb,hc⟩,h0⟩:=hl
 obtain ⟨hx,hy⟩:=hv
 have hn:(Sp.Zaz a b).num ≠ 0:=ZhE (ZdO h0)
 have w1:=ZbU hb hnv.1 hn
 have w2:=ZbU (Zbh ha) hnv.1 hn
 have le5 {k m:Nat} {r:Rat} (h:Sp.okT k r) (hk:k <= 1700):Sp.okT 1700 r:=Zan h hk
 refine call18 (rLC9 _ _ _ _ _ _ _ _ _ _ _ _ _ _ _ _ _ _ _ ⟨⟨h3,hv',hq⟩,⟨ha,hb⟩,fun k => ?_,fun k => ⟨⟨h3,hv'⟩,⟨Zak hnv.2 (by omega),Zak hnv.1 (by omega),hn⟩,⟨Zak (ZbU hnv.2 hnv.1 hn) (by omega),Zak ha (by omega)⟩,⟨Zak hx (by omega),Zak (Zag (ZbU hnv.2 hnv.1 hn) ha) (by omega)⟩,⟨Zak (ZbU hnv.2 hnv.1 hn) (by omega),Zak hb (by omega)⟩,⟨Zak hy (by omega),Zak (Zag (ZbU hnv.2 hnv.1 hn) hb) (by omega)⟩,fun j => ?_,fun j => ⟨⟨Zak hb (by omega),Zak hnv.1 (by omega),hn⟩,ok_of ha (by omega),⟨Zak (Zbh ha) (by omega),Zak hnv.1 (by omega),hn⟩,ok_of w1 (by omega),ok_of w2 (by omega),⟨⟨Zan hf.1 (by omega),Zan (Zbh w1) (by omega)⟩,⟨Zan hf.2 (by omega),Zan (Zbh w2) (by omega)⟩,Zan hr (by omega)⟩,⟨⟨Zan hf.1 (by omega),Zan w1 (by omega)⟩,⟨Zan hf.2 (by omega),Zan w2 (by omega)⟩,Zan hr (by omega)⟩,⟨r1,r2⟩,fun i => ?_,fun i => ?_⟩⟩⟩)
 ·rw [lineR_0 (sgl.1 k)]
  exact .vnil 20
 ·rw [lineR_1 (sgz.1 j)]
  exact ZcK [Sp.atP (Sp.fX a b c x y) (Sp.fY a b c x y)]
 ·have p:0 < Sp.Zb7 a b c x y q:=by
   rw [sgl] at k;rw [sgz] at j;grind
  rw [lineR_2 p,if_pos (show Sp.Ze0 (Sp.rP true a b c x y q) (Sp.rP false a b c x y q) > 0 from i)]
  exact ZcK [Sp.rP false a b c x y q,Sp.rP true a b c x y q]
 ·have p:0 < Sp.Zb7 a b c x y q:=by
   rw [sgl] at k;rw [sgz] at j;grind
  rw [lineR_2 p,if_neg (show ¬Sp.Ze0 (Sp.rP true a b c x y q) (Sp.rP false a b c x y q) > 0 from i)]
  exact ZcK [Sp.rP true a b c x y q,Sp.rP false a b c x y q]
theorem beq_dec (n:Int):(n == 0) = decide (n = 0):=by
 by_cases k:n = 0
 ·rw [decide_eq_true k,beq_iff_eq.2 k]
 ·rw [decide_eq_false k];simpa using k
theorem ev37 (f1 f2 f3 f4 f5 f6 f7 f8 f9 f10 g1 g2 g3 g4 g5 g6 g7 g8 g9 g10:Bool) (ax bx ay by_ c ux vx uy vy d:Rat) (h:Sp.Ze4 ⟨ax,bx,ay,by_,c⟩ /\ Sp.Ze4 ⟨ux,vx,uy,vy,d⟩):Ev M1 (.pure 37 [pntA f1 f2 f3 f4 f5 f6 f7 f8 f9 f10 ax bx ay by_ c,pntA g1 g2 g3 g4 g5 g6 g7 g8 g9 g10 ux vx uy vy d]) (.bool (decide (Sp.Ze0 ⟨ax,bx,ay,by_,c⟩ ⟨ux,vx,uy,vy,d⟩ = 0))) []:=
 call37 (rEq7 _ _ _ _ _ _ _ _ _ _ _ _ _ _ _ _ _ _ _ _ _ _ _ _ _ _ _ _ _ _ _ ⟨h,by rw [beq_dec]⟩)
def Sp.Zg6 (l:List Pnt):Prop:=(∀ p ∈ l,Ze4 p)/\l.length<=100
theorem good_loop {f:Bool} {l:List Pnt} {dq:AV} (h:Sp.Zg6 l) (k:Nat):∀ (i:Nat),i + k = l.length -> AV.bool (Sp.Zfi (l.drop i)) = dq -> ZdK f l i (Zaf dq):=by
 have hl:=h.2
 induction k with
 | zero =>
  intro i e hq
  refine rGoodH _ _ _ _ ⟨fun x => by omega,fun _ => ?_⟩
  rw [List.drop_eq_nil_of_le (by omega)] at hq
  exact hq
 | succ k ih =>
  intro i e hq
  rw [Zcw (d:=l) (i:=i) (by omega)] at hq
  have m:=h.1 _ (ZfV (d:=l) (i:=i) (by omega))
  have nx:=ih (i + 1) (by omega)
  refine rGoodH _ _ _ _ ⟨fun x => ?_,fun x => by omega⟩
  rw [Int.toNat_natCast,show (i:Int) + 1 = ((i + 1:Nat):Int) by omega]
  have e2:Sp.Zfi (l.getD i default :: l.drop (i + 1)) = (Sp.vP (l.getD i default).ax (l.getD i default).bx (l.getD i default).ay (l.getD i default).by_ (l.getD i default).c && Sp.Zfi (l.drop (i + 1))):=rfl
  rw [e2] at hq
  refine ⟨m,by omega,by omega,fun y => ?_,fun y => ⟨by omega,nx ?_⟩⟩
  ·rw [(Bool.not_eq_true _).mp y,Bool.false_and] at hq;exact hq
  ·rw [Classical.not_not.1 y,Bool.true_and] at hq;exact hq
theorem ev63 (f:Bool) (l:List Pnt) (h:Sp.Zg6 l):Ev M1 (.pure 63 [.vec f 20 (l.map Pnt.a)]) (.bool (Sp.Zfi l)) []:=
 call63 (rGood _ _ _ (good_loop h l.length 0 (by omega) rfl))
end Go.Av

namespace Go.Av
open Go.Proofs
set_option maxRecDepth 100000
def fi42:Fi:=⟨11,[.tmp 4]⟩
def kp42:List (Nat × List Nat):=[(0,[2,3]),(1,[4])]
def fi46:Fi:=⟨5,[.cell 2 26]⟩
def kp46:List (Nat × List Nat):=[(0,[0,2]),(1,[2])]
def fi49:Fi:=⟨27,[.tmp 4]⟩
def kp49:List (Nat × List Nat):=[(0,[0,1]),(1,[0,1,10]),(2,[4]),(3,[0,1,5]),(4,[0,1,5,14]),(5,[0,1,5]),(6,[0,1,5,26]),(7,[4]),(8,[4])]
def fi51:Fi:=⟨36,[.tmp 2]⟩
def kp51:List (Nat × List Nat):=[(0,[0]),(1,[0,3]),(2,[0,3,7]),(3,[0,3]),(4,[0,3,35]),(5,[2]),(6,[2])]
def fi93:Fi:=⟨10,[.cell 4 47]⟩
def kp93:List (Nat × List Nat):=[(0,[0,1,4]),(1,[4])]
def rAtX9_at (f1 f2 f3 f4 f5 f6 g1 g2:Bool) (x y q z:Rat) (Q:AV->Heap->Prop):Prop:=Wp M1 (.run fi42 (atC (cd Tryz.f42) []) [(0,Zas f1 f2 f3 f4 f5 f6 x y q),(1,ratA g1 g2 z)] []) Q
def rSame9_at (u v:Bool) (l m:List Pnt) (Q:AV->Heap->Prop):Prop:=Wp M1 (.run fi49 (atC (cd Tryz.f49) []) [(0,.vec u 20 (l.map Pnt.a)),(1,.vec v 20 (m.map Pnt.a))] []) Q
def Zdg (u v:Bool) (l m:List Pnt) (i:Int) (Q:AV->Heap->Prop):Prop:=Wp M1 (.run fi49 (atC (cd Tryz.f49) [1,1,0,1,0,0]) [(0,.vec u 20 (l.map Pnt.a)),(1,.vec v 20 (m.map Pnt.a)),(5,.int .i64 i)] []) Q
def wNum_at (a:Int) (Q:AV->Heap->Prop):Prop:=Wp M1 (.run fi46 (atC (cd Tryz.f46) []) [(0,.int .i64 a)] []) Q
def rVec7_at (a b:Int) (Q:AV->Heap->Prop):Prop:=Wp M1 (.run fi93 (atC (cd Tryz.f93) []) [(0,.int .i64 a),(1,.int .i64 b)] []) Q
def rFew_at (s1 t1 f1 g1 s2 t2 f2 g2 s3 t3 f3 g3:Bool) (x1 y1 x2 y2 x3 y3:List Int) (Q:AV->Heap->Prop):Prop:=Wp M1 (.run fi51 (atC (cd Tryz.f51) []) [(0,.vec true 4 [.agg [.bool s1,.vec f1 1 (x1.map (.int .u32)),.bool t1,.vec g1 1 (y1.map (.int .u32))],.agg [.bool s2,.vec f2 1 (x2.map (.int .u32)),.bool t2,.vec g2 1 (y2.map (.int .u32))],.agg [.bool s3,.vec f3 1 (x3.map (.int .u32)),.bool t3,.vec g3 1 (y3.map (.int .u32))]])] []) Q
def rFew0_at (s1 t1 f1 g1 s2 t2 f2 g2 s3 t3 f3 g3:Bool) (x1 y1 x2 y2 x3 y3:List Int) (Q:AV->Heap->Prop):Prop:=Wp M1 (.run fi51 (atC (cd Tryz.f51) [1,0,1,0,0]) [(0,.vec true 4 [.agg [.bool s1,.vec f1 1 (x1.map (.int .u32)),.bool t1,.vec g1 1 (y1.map (.int .u32))],.agg [.bool s2,.vec f2 1 (x2.map (.int .u32)),.bool t2,.vec g2 1 (y2.map (.int .u32))],.agg [.bool s3,.vec f3 1 (x3.map (.int .u32)),.bool t3,.vec g3 1 (y3.map (.int .u32))]]),(3,.int .i64 0)] []) Q
def rFew1_at (s1 t1 f1 g1 s2 t2 f2 g2 s3 t3 f3 g3:Bool) (x1 y1 x2 y2 x3 y3:List Int) (Q:AV->Heap->Prop):Prop:=Wp M1 (.run fi51 (atC (cd Tryz.f51) [1,0,1,0,0]) [(0,.vec true 4 [.agg [.bool s1,.vec f1 1 (x1.map (.int .u32)),.bool t1,.vec g1 1 (y1.map (.int .u32))],.agg [.bool s2,.vec f2 1 (x2.map (.int .u32)),.bool t2,.vec g2 1 (y2.map (.int .u32))],.agg [.bool s3,.vec f3 1 (x3.map (.int .u32)),.bool t3,.vec g3 1 (y3.map (.int .u32))]]),(3,.int .i64 1)] []) Q
def rFew2_at (s1 t1 f1 g1 s2 t2 f2 g2 s3 t3 f3 g3:Bool) (x1 y1 x2 y2 x3 y3:List Int) (Q:AV->Heap->Prop):Prop:=Wp M1 (.run fi51 (atC (cd Tryz.f51) [1,0,1,0,0]) [(0,.vec true 4 [.agg [.bool s1,.vec f1 1 (x1.map (.int .u32)),.bool t1,.vec g1 1 (y1.map (.int .u32))],.agg [.bool s2,.vec f2 1 (x2.map (.int .u32)),.bool t2,.vec g2 1 (y2.map (.int .u32))],.agg [.bool s3,.vec f3 1 (x3.map (.int .u32)),.bool t3,.vec g3 1 (y3.map (.int .u32))]]),(3,.int .i64 2)] []) Q
def rFew3_at (s1 t1 f1 g1 s2 t2 f2 g2 s3 t3 f3 g3:Bool) (x1 y1 x2 y2 x3 y3:List Int) (Q:AV->Heap->Prop):Prop:=Wp M1 (.run fi51 (atC (cd Tryz.f51) [1,0,1,0,0]) [(0,.vec true 4 [.agg [.bool s1,.vec f1 1 (x1.map (.int .u32)),.bool t1,.vec g1 1 (y1.map (.int .u32))],.agg [.bool s2,.vec f2 1 (x2.map (.int .u32)),.bool t2,.vec g2 1 (y2.map (.int .u32))],.agg [.bool s3,.vec f3 1 (x3.map (.int .u32)),.bool t3,.vec g3 1 (y3.map (.int .u32))]]),(3,.int .i64 3)] []) Q
theorem call42 {args:List AV} {d:AV} (h:wc M1 fi42 Tryz.f42 args d):Ev M1 (.pure 42 args) d []:=pcl _ _ (by kernel_rfl) h
theorem call46 {args:List AV} {d:AV} (h:wc M1 fi46 Tryz.f46 args d):Ev M1 (.pure 46 args) d []:=pcl _ _ (by kernel_rfl) h
theorem call49 {args:List AV} {d:AV} (h:wc M1 fi49 Tryz.f49 args d):Ev M1 (.pure 49 args) d []:=pcl _ _ (by kernel_rfl) h
theorem call51 {args:List AV} {d:AV} (h:wc M1 fi51 Tryz.f51 args d):Ev M1 (.pure 51 args) d []:=pcl _ _ (by kernel_rfl) h
theorem call93 {args:List AV} {d:AV} (h:wc M1 fi93 Tryz.f93 args d):Ev M1 (.pure 93 args) d []:=pcl _ _ (by kernel_rfl) h
theorem rAtX9 (f1 f2 f3 f4 f5 f6 g1 g2:Bool) (x y q z:Rat)  (dq:AV) (H :
  (Sp.inI 1) /\
  (Sp.inI 0) /\
  (Sp.ZfD (Sp.qi 1) (Sp.qi 0) z /\ Sp.Zdx x y /\ Sp.okT 30 q) /\
  Weak (AV.vec false 20 (List.map Pnt.a (Sp.Zce (Sp.qi 1) (Sp.qi 0) z x y q))) dq) :
 rAtX9_at f1 f2 f3 f4 f5 f6 g1 g2 x y q z (Zaf dq):=by
 unfold rAtX9_at
 obtain ⟨k1,k2,k3,H⟩:=H
 exact Zah (G:=Zac kp42 [(1,0,.call (ratF (Sp.qi 1)) none),(1,1,.call (ratF (Sp.qi 0)) none),(1,5,.call (AV.vec false 20 (List.map Pnt.a (Sp.Zce (Sp.qi 1) (Sp.qi 0) z x y q))) none)] []) 1000 [] (AV.vec false 20 (List.map Pnt.a (Sp.Zce (Sp.qi 1) (Sp.qi 0) z x y q))) (by kernel_rfl) (bc rfl (bc rfl b0)) q0 (ce (@ev84 (1) k1) (ce (@ev84 (0) k2) (ce (@ev18 (false) (false) (false) (false) (g1) (g2) (f1) (f2) (f3) (f4) (f5) (f6) (Sp.qi 1) (Sp.qi 0) (z) (x) (y) (q) k3) c0))) H
theorem rSame9 (u v:Bool) (l m:List Pnt)  (dq:AV) (H :
  ((¬(↑l.length:Int) = (↑m.length:Int)) -> vb false = dq) /\
  (¬(¬(↑l.length:Int) = (↑m.length:Int)) -> Zdg (u) (v) (l) (m) (0) (Zaf dq))) :
 rSame9_at u v l m (Zaf dq):=by
 unfold rSame9_at
 have w1:(List.map Pnt.a l).length = l.length:=List.length_map ..
 have w2:(List.map Pnt.a m).length = m.length:=List.length_map ..
 have i3:((↑(List.map Pnt.a l).length:Int) != (↑(List.map Pnt.a m).length:Int)) = true ↔ (¬(↑l.length:Int) = (↑m.length:Int)):=(by (try rw [w1]);(try rw [w2]);all_goals exact i_ne)
 rcases xq H with ⟨d4,H⟩|⟨d4,H⟩
 ·exact Zaq (G:=Zac kp49 [] []) 1000 [true] (vb false) (by kernel_rfl) (bc (Zar (i3.2 d4)) b0) q0 c0 H
 ·exact Zae (G:=Zac kp49 [] []) 1000 [false] ⟨(atC (cd Tryz.f49) [1,1,0,1,0,0]),[(0,AV.vec u 20 (List.map Pnt.a l)),(1,AV.vec v 20 (List.map Pnt.a m)),(5,vi 0)],[],_,[],_⟩ (by kernel_rfl) (bc (Zao (fun h => d4 (i3.1 h))) b0) q0 c0 (H)
noncomputable abbrev zNmG1 (l:List Pnt) (i:Int):=(Pnt.a (l.getD i.toNat default))
noncomputable abbrev zNmG2 (m:List Pnt) (i:Int):=(Pnt.a (m.getD i.toNat default))
theorem rSame9H (u v:Bool) (l m:List Pnt) (i:Int)  (dq:AV) (H :
  ((i < (↑l.length:Int)) -> (Sp.Ze4 (l.getD i.toNat default) /\ Sp.Ze4 (m.getD i.toNat default)) /\
   (0 <= i) /\
   (i.toNat < l.length) /\
   (i.toNat < m.length) /\
   ((¬(Sp.Ze0 (l.getD i.toNat default) (m.getD i.toNat default) = 0)) -> vb false = dq) /\
   (¬(¬(Sp.Ze0 (l.getD i.toNat default) (m.getD i.toNat default) = 0)) -> (-9223372036854775808 <= i + 1 /\ i + 1 <= 9223372036854775807) /\
    Zdg (u) (v) (l) (m) (i + 1) (Zaf dq))) /\
  (¬(i < (↑l.length:Int)) -> vb true = dq)) :
 Zdg u v l m i (Zaf dq):=by
 unfold Zdg
 have w1:(List.map Pnt.a l).length = l.length:=List.length_map ..
 have i2:(decide (i < (↑(List.map Pnt.a l).length:Int))) = true ↔ (i < (↑l.length:Int)):=(by (try rw [w1]);all_goals exact Zab)
 rcases xq H with ⟨d3,H⟩|⟨d3,H⟩
 ·obtain ⟨k4,k6,H⟩:=H
  have i7:(decide (i.toNat < (List.map Pnt.a l).length)) = true ↔ (i.toNat < l.length):=(by (try rw [w1]);all_goals exact Zab)
  obtain ⟨k8,H⟩:=H
  have w10:(List.map Pnt.a m).length = m.length:=List.length_map ..
  have i11:(decide (i.toNat < (List.map Pnt.a m).length)) = true ↔ (i.toNat < m.length):=(by (try rw [w10]);all_goals exact Zab)
  obtain ⟨k12,H⟩:=H
  refine Zae (G:=Zac kp49 [(6,3,.elem (zNmG1 l i)),(6,7,.elem (zNmG2 m i)),(6,8,.call (vb (decide (Sp.Ze0 (l.getD i.toNat default) (m.getD i.toNat default) = 0))) none)] []) 9 [true] ⟨(atC (cd Tryz.f49) [1,1,0,1,0,0,1,0,0,1]),[(0,AV.vec u 20 (List.map Pnt.a l)),(1,AV.vec v 20 (List.map Pnt.a m)),(5,vi i),(26,vb !decide (Sp.Ze0 (l.getD i.toNat default) (m.getD i.toNat default) = 0))],[],_,[((List.map Pnt.a l).get?Internal i.toNat = some (zNmG1 l i)),((List.map Pnt.a m).get?Internal i.toNat = some (zNmG2 m i))],_⟩ (by kernel_rfl) (bc (Zar (i2.2 d3)) (bc (Zab.2 k6) (bc (i7.2 k8) (bc (Zab.2 k6) (bc (i11.2 k12) b0))))) (qc (Zau k8) (qc (Zau k12) q0)) (ce (@ev37 (false) (false) (false) (false) (false) (false) (false) (false) (false) (false) (false) (false) (false) (false) (false) (false) (false) (false) (false) (false) ((l.getD i.toNat default).ax) ((l.getD i.toNat default).bx) ((l.getD i.toNat default).ay) ((l.getD i.toNat default).by_) ((l.getD i.toNat default).c) ((m.getD i.toNat default).ax) ((m.getD i.toNat default).bx) ((m.getD i.toNat default).ay) ((m.getD i.toNat default).by_) ((m.getD i.toNat default).c) k4) c0) ?_
  rcases xq H with ⟨d14,H⟩|⟨d14,H⟩
  ·exact Zaq (G:=Zac kp49 [] []) 1000 [true] (vb false) (by kernel_rfl) (bc (Zar ((Za3 Zab).2 d14)) b0) q0 c0 H
  ·obtain ⟨k15,H⟩:=H
   have w16:wi (i + 1) = i + 1:=wI64 k15
   exact Zae (G:=Zac kp49 [] []) 1000 [false] ⟨(atC (cd Tryz.f49) [1,1,0,1,0,0]),[(0,AV.vec u 20 (List.map Pnt.a l)),(1,AV.vec v 20 (List.map Pnt.a m)),(5,vi (wi (i + 1)))],[],_,[],_⟩ (by kernel_rfl) (bc (Zao (fun h => d14 ((Za3 Zab).1 h))) b0) q0 c0 (by (try rw [w16]);all_goals exact H)
 ·exact Zaq (G:=Zac kp49 [] []) 1000 [false] (vb true) (by kernel_rfl) (bc (Zao (fun h => d3 (i2.1 h))) b0) q0 c0 H
theorem wNum (a:Int)  (dq:AV) (H :
  (Sp.inI a) /\
  Weak (ratF (Sp.qi a)) dq) :
 wNum_at a (Zaf dq):=by
 unfold wNum_at
 obtain ⟨k1,H⟩:=H
 exact Zah (G:=Zac kp46 [(1,1,.call (ratF (Sp.qi a)) none)] []) 1000 [] (ratF (Sp.qi a)) (by kernel_rfl) (bc rfl b0) q0 (ce (@ev84 (a) k1) c0) H
theorem rVec7 (a b:Int)  (dq:AV) (H :
  (Sp.inI a) /\
  (Sp.inI b) /\
  Weak ((vecF (Sp.qi a) (Sp.qi b))) dq) :
 rVec7_at a b (Zaf dq):=by
 unfold rVec7_at
 obtain ⟨k1,k2,H⟩:=H
 exact Zah (G:=Zac kp93 [(1,1,.call (ratF (Sp.qi a)) none),(1,3,.call (ratF (Sp.qi b)) none)] []) 1000 [] ((vecF (Sp.qi a) (Sp.qi b))) (by kernel_rfl) (bc rfl b0) q0 (ce (@ev84 (a) k1) (ce (@ev84 (b) k2) c0)) H
theorem rFew (s1 t1 f1 g1 s2 t2 f2 g2 s3 t3 f3 g3:Bool) (x1 y1 x2 y2 x3 y3:List Int)  (dq:AV) (H :
  rFew0_at (s1) (t1) (f1) (g1) (s2) (t2) (f2) (g2) (s3) (t3) (f3) (g3) (x1) (y1) (x2) (y2) (x3) (y3) (Zaf dq)) :
 rFew_at s1 t1 f1 g1 s2 t2 f2 g2 s3 t3 f3 g3 x1 y1 x2 y2 x3 y3 (Zaf dq):=by
 unfold rFew_at
 exact Zae (G:=Zac kp51 [] []) 1000 [] ⟨(atC (cd Tryz.f51) [1,0,1,0,0]),[(0,AV.vec true 4 [ag [vb s1,AV.vec f1 1 (us x1),vb t1,AV.vec g1 1 (us y1)],ag [vb s2,AV.vec f2 1 (us x2),vb t2,AV.vec g2 1 (us y2)],ag [vb s3,AV.vec f3 1 (us x3),vb t3,AV.vec g3 1 (us y3)]]),(3,vi 0)],[],_,[],_⟩ (by kernel_rfl) b0 q0 c0 (H)
noncomputable abbrev zNmG3 (s1:Bool) (f1:Bool) (x1:List Int) (t1:Bool) (g1:Bool) (y1:List Int):=ag [vb s1,AV.vec f1 1 (us x1),vb t1,AV.vec g1 1 (us y1)]
theorem rFew0 (s1 t1 f1 g1 s2 t2 f2 g2 s3 t3 f3 g3:Bool) (x1 y1 x2 y2 x3 y3:List Int)  (dq:AV) (H :
  ((¬(((↑x1.length:Int) > 2) \/ ((↑y1.length:Int) > 2))) -> (Sp.okA x1 y1)) /\
  (((((↑x1.length:Int) > 2) \/ ((↑y1.length:Int) > 2)) \/ (¬(Sp.Zb9 s1 x1 t1 y1 = true))) -> vb false = dq) /\
  (¬((((↑x1.length:Int) > 2) \/ ((↑y1.length:Int) > 2)) \/ (¬(Sp.Zb9 s1 x1 t1 y1 = true))) -> rFew1_at (s1) (t1) (f1) (g1) (s2) (t2) (f2) (g2) (s3) (t3) (f3) (g3) (x1) (y1) (x2) (y2) (x3) (y3) (Zaf dq))) :
 rFew0_at s1 t1 f1 g1 s2 t2 f2 g2 s3 t3 f3 g3 x1 y1 x2 y2 x3 y3 (Zaf dq):=by
 unfold rFew0_at
 have w1:(us x1).length = x1.length:=List.length_map ..
 have w2:(us y1).length = y1.length:=List.length_map ..
 have i3:((bif decide ((↑(us x1).length:Int) > 2) then true else decide ((↑(us y1).length:Int) > 2)) == false && true && true) = true ↔ (¬(((↑x1.length:Int) > 2) \/ ((↑y1.length:Int) > 2))):=(by (try rw [w1]);(try rw [w2]);all_goals exact (i_at (i_at (i_bf (Zbm Zab Zab)))))
 obtain ⟨k4,H⟩:=H
 have i5:(bif bif decide ((↑(us x1).length:Int) > 2) then true else decide ((↑(us y1).length:Int) > 2) then true else !Sp.Zb9 s1 x1 t1 y1) = true ↔ ((((↑x1.length:Int) > 2) \/ ((↑y1.length:Int) > 2)) \/ (¬(Sp.Zb9 s1 x1 t1 y1 = true))):=(by (try rw [w1]);(try rw [w2]);all_goals exact (Zbm (Zbm Zab Zab) (Za3 (ZaE _))))
 refine Zae (G:=Zac kp51 [(4,23,.call (vb (Sp.Zb9 s1 x1 t1 y1)) none)] []) 9 [true] ⟨(atC (cd Tryz.f51) [1,0,1,0,0,1,0,0,1]),[(0,AV.vec true 4 [(zNmG3 s1 f1 x1 t1 g1 y1),ag [vb s2,AV.vec f2 1 (us x2),vb t2,AV.vec g2 1 (us y2)],ag [vb s3,AV.vec f3 1 (us x3),vb t3,AV.vec g3 1 (us y3)]]),(3,vi 0),(35,vb (bif bif decide ((↑(us x1).length:Int) > 2) then true else decide ((↑(us y1).length:Int) > 2) then true else !Sp.Zb9 s1 x1 t1 y1))],[],[true == true,true,true,!(decide ((↑(us x1).length:Int) > 2) == false && true) || true,!(decide ((↑(us x1).length:Int) > 2) == false && true) || true,!((bif decide ((↑(us x1).length:Int) > 2) then true else decide ((↑(us y1).length:Int) > 2)) == false && true) || true,!((bif decide ((↑(us x1).length:Int) > 2) then true else decide ((↑(us y1).length:Int) > 2)) == false && true) || true],[],[⟨(bif decide ((↑(us x1).length:Int) > 2) then true else decide ((↑(us y1).length:Int) > 2)) == false && true && true,false,27,[(zNmG3 s1 f1 x1 t1 g1 y1)],[],vb (Sp.Zb9 s1 x1 t1 y1),[]⟩]⟩ (by kernel_rfl) (bc rfl (bc rfl (bc rfl (bc (Bool.or_true _) (bc (Bool.or_true _) (bc (Bool.or_true _) (bc (Bool.or_true _) b0))))))) q0 (cc (fun hc => ((@ev27 (s1) (f1) (t1) (g1) (x1) (y1) (k4 (i3.1 hc))):Ev M1 (Conf.pure 27 [(zNmG3 s1 f1 x1 t1 g1 y1)]) (vb (Sp.Zb9 s1 x1 t1 y1)) [])) c0) ?_
 rcases xq H with ⟨d6,H⟩|⟨d6,H⟩
 ·exact Zaq (G:=Zac kp51 [] []) 1000 [true] (vb false) (by kernel_rfl) (bc (Zar (i5.2 d6)) b0) q0 c0 H
 ·exact Zae (G:=Zac kp51 [] []) 1000 [false] ⟨(atC (cd Tryz.f51) [1,0,1,0,0]),[(0,AV.vec true 4 [(zNmG3 s1 f1 x1 t1 g1 y1),ag [vb s2,AV.vec f2 1 (us x2),vb t2,AV.vec g2 1 (us y2)],ag [vb s3,AV.vec f3 1 (us x3),vb t3,AV.vec g3 1 (us y3)]]),(3,vi 1)],[],_,[],_⟩ (by kernel_rfl) (bc (Zao (fun h => d6 (i5.1 h))) b0) q0 c0 (H)
noncomputable abbrev zNmG4 (s2:Bool) (f2:Bool) (x2:List Int) (t2:Bool) (g2:Bool) (y2:List Int):=ag [vb s2,AV.vec f2 1 (us x2),vb t2,AV.vec g2 1 (us y2)]
theorem rFew1 (s1 t1 f1 g1 s2 t2 f2 g2 s3 t3 f3 g3:Bool) (x1 y1 x2 y2 x3 y3:List Int)  (dq:AV) (H :
  ((¬(((↑x2.length:Int) > 2) \/ ((↑y2.length:Int) > 2))) -> (Sp.okA x2 y2)) /\
  (((((↑x2.length:Int) > 2) \/ ((↑y2.length:Int) > 2)) \/ (¬(Sp.Zb9 s2 x2 t2 y2 = true))) -> vb false = dq) /\
  (¬((((↑x2.length:Int) > 2) \/ ((↑y2.length:Int) > 2)) \/ (¬(Sp.Zb9 s2 x2 t2 y2 = true))) -> rFew2_at (s1) (t1) (f1) (g1) (s2) (t2) (f2) (g2) (s3) (t3) (f3) (g3) (x1) (y1) (x2) (y2) (x3) (y3) (Zaf dq))) :
 rFew1_at s1 t1 f1 g1 s2 t2 f2 g2 s3 t3 f3 g3 x1 y1 x2 y2 x3 y3 (Zaf dq):=by
 unfold rFew1_at
 have w1:(us x2).length = x2.length:=List.length_map ..
 have w2:(us y2).length = y2.length:=List.length_map ..
 have i3:((bif decide ((↑(us x2).length:Int) > 2) then true else decide ((↑(us y2).length:Int) > 2)) == false && true && true) = true ↔ (¬(((↑x2.length:Int) > 2) \/ ((↑y2.length:Int) > 2))):=(by (try rw [w1]);(try rw [w2]);all_goals exact (i_at (i_at (i_bf (Zbm Zab Zab)))))
 obtain ⟨k4,H⟩:=H
 have i5:(bif bif decide ((↑(us x2).length:Int) > 2) then true else decide ((↑(us y2).length:Int) > 2) then true else !Sp.Zb9 s2 x2 t2 y2) = true ↔ ((((↑x2.length:Int) > 2) \/ ((↑y2.length:Int) > 2)) \/ (¬(Sp.Zb9 s2 x2 t2 y2 = true))):=(by (try rw [w1]);(try rw [w2]);all_goals exact (Zbm (Zbm Zab Zab) (Za3 (ZaE _))))
 refine Zae (G:=Zac kp51 [(4,23,.call (vb (Sp.Zb9 s2 x2 t2 y2)) none)] []) 9 [true] ⟨(atC (cd Tryz.f51) [1,0,1,0,0,1,0,0,1]),[(0,AV.vec true 4 [ag [vb s1,AV.vec f1 1 (us x1),vb t1,AV.vec g1 1 (us y1)],(zNmG4 s2 f2 x2 t2 g2 y2),ag [vb s3,AV.vec f3 1 (us x3),vb t3,AV.vec g3 1 (us y3)]]),(3,vi 1),(35,vb (bif bif decide ((↑(us x2).length:Int) > 2) then true else decide ((↑(us y2).length:Int) > 2) then true else !Sp.Zb9 s2 x2 t2 y2))],[],[true == true,true,true,!(decide ((↑(us x2).length:Int) > 2) == false && true) || true,!(decide ((↑(us x2).length:Int) > 2) == false && true) || true,!((bif decide ((↑(us x2).length:Int) > 2) then true else decide ((↑(us y2).length:Int) > 2)) == false && true) || true,!((bif decide ((↑(us x2).length:Int) > 2) then true else decide ((↑(us y2).length:Int) > 2)) == false && true) || true],[],[⟨(bif decide ((↑(us x2).length:Int) > 2) then true else decide ((↑(us y2).length:Int) > 2)) == false && true && true,false,27,[(zNmG4 s2 f2 x2 t2 g2 y2)],[],vb (Sp.Zb9 s2 x2 t2 y2),[]⟩]⟩ (by kernel_rfl) (bc rfl (bc rfl (bc rfl (bc (Bool.or_true _) (bc (Bool.or_true _) (bc (Bool.or_true _) (bc (Bool.or_true _) b0))))))) q0 (cc (fun hc => ((@ev27 (s2) (f2) (t2) (g2) (x2) (y2) (k4 (i3.1 hc))):Ev M1 (Conf.pure 27 [(zNmG4 s2 f2 x2 t2 g2 y2)]) (vb (Sp.Zb9 s2 x2 t2 y2)) [])) c0) ?_
 rcases xq H with ⟨d6,H⟩|⟨d6,H⟩
 ·exact Zaq (G:=Zac kp51 [] []) 1000 [true] (vb false) (by kernel_rfl) (bc (Zar (i5.2 d6)) b0) q0 c0 H
 ·exact Zae (G:=Zac kp51 [] []) 1000 [false] ⟨(atC (cd Tryz.f51) [1,0,1,0,0]),[(0,AV.vec true 4 [ag [vb s1,AV.vec f1 1 (us x1),vb t1,AV.vec g1 1 (us y1)],(zNmG4 s2 f2 x2 t2 g2 y2),ag [vb s3,AV.vec f3 1 (us x3),vb t3,AV.vec g3 1 (us y3)]]),(3,vi 2)],[],_,[],_⟩ (by kernel_rfl) (bc (Zao (fun h => d6 (i5.1 h))) b0) q0 c0 (H)
noncomputable abbrev zNmG5 (s3:Bool) (f3:Bool) (x3:List Int) (t3:Bool) (g3:Bool) (y3:List Int):=ag [vb s3,AV.vec f3 1 (us x3),vb t3,AV.vec g3 1 (us y3)]
theorem rFew2 (s1 t1 f1 g1 s2 t2 f2 g2 s3 t3 f3 g3:Bool) (x1 y1 x2 y2 x3 y3:List Int)  (dq:AV) (H :
  ((¬(((↑x3.length:Int) > 2) \/ ((↑y3.length:Int) > 2))) -> (Sp.okA x3 y3)) /\
  (((((↑x3.length:Int) > 2) \/ ((↑y3.length:Int) > 2)) \/ (¬(Sp.Zb9 s3 x3 t3 y3 = true))) -> vb false = dq) /\
  (¬((((↑x3.length:Int) > 2) \/ ((↑y3.length:Int) > 2)) \/ (¬(Sp.Zb9 s3 x3 t3 y3 = true))) -> rFew3_at (s1) (t1) (f1) (g1) (s2) (t2) (f2) (g2) (s3) (t3) (f3) (g3) (x1) (y1) (x2) (y2) (x3) (y3) (Zaf dq))) :
 rFew2_at s1 t1 f1 g1 s2 t2 f2 g2 s3 t3 f3 g3 x1 y1 x2 y2 x3 y3 (Zaf dq):=by
 unfold rFew2_at
 have w1:(us x3).length = x3.length:=List.length_map ..
 have w2:(us y3).length = y3.length:=List.length_map ..
 have i3:((bif decide ((↑(us x3).length:Int) > 2) then true else decide ((↑(us y3).length:Int) > 2)) == false && true && true) = true ↔ (¬(((↑x3.length:Int) > 2) \/ ((↑y3.length:Int) > 2))):=(by (try rw [w1]);(try rw [w2]);all_goals exact (i_at (i_at (i_bf (Zbm Zab Zab)))))
 obtain ⟨k4,H⟩:=H
 have i5:(bif bif decide ((↑(us x3).length:Int) > 2) then true else decide ((↑(us y3).length:Int) > 2) then true else !Sp.Zb9 s3 x3 t3 y3) = true ↔ ((((↑x3.length:Int) > 2) \/ ((↑y3.length:Int) > 2)) \/ (¬(Sp.Zb9 s3 x3 t3 y3 = true))):=(by (try rw [w1]);(try rw [w2]);all_goals exact (Zbm (Zbm Zab Zab) (Za3 (ZaE _))))
 refine Zae (G:=Zac kp51 [(4,23,.call (vb (Sp.Zb9 s3 x3 t3 y3)) none)] []) 9 [true] ⟨(atC (cd Tryz.f51) [1,0,1,0,0,1,0,0,1]),[(0,AV.vec true 4 [ag [vb s1,AV.vec f1 1 (us x1),vb t1,AV.vec g1 1 (us y1)],ag [vb s2,AV.vec f2 1 (us x2),vb t2,AV.vec g2 1 (us y2)],(zNmG5 s3 f3 x3 t3 g3 y3)]),(3,vi 2),(35,vb (bif bif decide ((↑(us x3).length:Int) > 2) then true else decide ((↑(us y3).length:Int) > 2) then true else !Sp.Zb9 s3 x3 t3 y3))],[],[true == true,true,true,!(decide ((↑(us x3).length:Int) > 2) == false && true) || true,!(decide ((↑(us x3).length:Int) > 2) == false && true) || true,!((bif decide ((↑(us x3).length:Int) > 2) then true else decide ((↑(us y3).length:Int) > 2)) == false && true) || true,!((bif decide ((↑(us x3).length:Int) > 2) then true else decide ((↑(us y3).length:Int) > 2)) == false && true) || true],[],[⟨(bif decide ((↑(us x3).length:Int) > 2) then true else decide ((↑(us y3).length:Int) > 2)) == false && true && true,false,27,[(zNmG5 s3 f3 x3 t3 g3 y3)],[],vb (Sp.Zb9 s3 x3 t3 y3),[]⟩]⟩ (by kernel_rfl) (bc rfl (bc rfl (bc rfl (bc (Bool.or_true _) (bc (Bool.or_true _) (bc (Bool.or_true _) (bc (Bool.or_true _) b0))))))) q0 (cc (fun hc => ((@ev27 (s3) (f3) (t3) (g3) (x3) (y3) (k4 (i3.1 hc))):Ev M1 (Conf.pure 27 [(zNmG5 s3 f3 x3 t3 g3 y3)]) (vb (Sp.Zb9 s3 x3 t3 y3)) [])) c0) ?_
 rcases xq H with ⟨d6,H⟩|⟨d6,H⟩
 ·exact Zaq (G:=Zac kp51 [] []) 1000 [true] (vb false) (by kernel_rfl) (bc (Zar (i5.2 d6)) b0) q0 c0 H
 ·exact Zae (G:=Zac kp51 [] []) 1000 [false] ⟨(atC (cd Tryz.f51) [1,0,1,0,0]),[(0,AV.vec true 4 [ag [vb s1,AV.vec f1 1 (us x1),vb t1,AV.vec g1 1 (us y1)],ag [vb s2,AV.vec f2 1 (us x2),vb t2,AV.vec g2 1 (us y2)],(zNmG5 s3 f3 x3 t3 g3 y3)]),(3,vi 3)],[],_,[],_⟩ (by kernel_rfl) (bc (Zao (fun h => d6 (i5.1 h))) b0) q0 c0 (H)
theorem rFew3 (s1 t1 f1 g1 s2 t2 f2 g2 s3 t3 f3 g3:Bool) (x1 y1 x2 y2 x3 y3:List Int)  (dq:AV) (H :
  vb true = dq) :
 rFew3_at s1 t1 f1 g1 s2 t2 f2 g2 s3 t3 f3 g3 x1 y1 x2 y2 x3 y3 (Zaf dq):=by
 unfold rFew3_at
 exact Zaq (G:=Zac kp51 [] []) 1000 [false] (vb true) (by kernel_rfl) (bc rfl b0) q0 c0 H
end Go.Av

namespace Go.Av
open Go.Proofs
theorem ev42 (f1 f2 f3 f4 f5 f6 g1 g2:Bool) (x y q z:Rat) (h:Sp.Zdx x y /\ Sp.okT 30 q /\ Sp.okT 30 z):Ev M1 (.pure 42 [Zas f1 f2 f3 f4 f5 f6 x y q,ratA g1 g2 z]) (.vec false 20 ((Sp.Zce (Sp.qi 1) (Sp.qi 0) z x y q).map Pnt.a)) []:=
 call42 (rAtX9 _ _ _ _ _ _ _ _ _ _ _ _ _ ⟨by unfold Sp.inI;omega,by unfold Sp.inI;omega,⟨ln_1 h.2.2,h.1,h.2.1⟩,.refl _⟩)
theorem eqL_cons (p q:Pnt) (l m:List Pnt):Sp.eqL (p::l) (q::m)=bif decide (Sp.Ze0 p q=0) then Sp.eqL l m else false:=rfl
theorem eqL_len:∀ {l m:List Pnt},l.length ≠ m.length -> Sp.eqL l m = false
 | [],[],h => absurd rfl h
 | [],q :: m,_ => rfl
 | p :: l,[],_ => rfl
 | p :: l,q :: m,h => by
  rw [eqL_cons,eqL_len (l:=l) (m:=m) (by simpa using h)]
  cases decide (Sp.Ze0 p q = 0) <;> rfl
theorem same_loop {u v:Bool} {l m:List Pnt} {dq:AV} (h:Sp.Zg6 l) (g:Sp.Zg6 m) (e:l.length = m.length) (k:Nat):∀ (i:Nat),i + k = l.length -> AV.bool (Sp.eqL (l.drop i) (m.drop i)) = dq -> Zdg u v l m i (Zaf dq):=by
 have hl:=h.2
 induction k with
 | zero =>
  intro i e2 hq
  refine rSame9H _ _ _ _ _ _ ⟨fun x => by omega,fun _ => ?_⟩
  rw [List.drop_eq_nil_of_le (by omega),List.drop_eq_nil_of_le (by omega)] at hq
  exact hq
 | succ k ih =>
  intro i e2 hq
  rw [Zcw (d:=l) (i:=i) (by omega),Zcw (d:=m) (i:=i) (by omega),eqL_cons] at hq
  have p1:=h.1 _ (ZfV (d:=l) (i:=i) (by omega))
  have p2:=g.1 _ (ZfV (d:=m) (i:=i) (by omega))
  have nx:=ih (i + 1) (by omega)
  refine rSame9H _ _ _ _ _ _ ⟨fun x => ?_,fun x => by omega⟩
  rw [Int.toNat_natCast,show (i:Int) + 1 = ((i + 1:Nat):Int) by omega]
  refine ⟨⟨p1,p2⟩,by omega,by omega,by omega,fun y => ?_,fun y => ⟨by omega,nx ?_⟩⟩
  ·rw [decide_eq_false y] at hq;exact hq
  ·rw [decide_eq_true (Classical.not_not.1 y)] at hq;exact hq
theorem ev49 (u v:Bool) (l m:List Pnt) (h:Sp.Zg6 l /\ Sp.Zg6 m):Ev M1 (.pure 49 [.vec u 20 (l.map Pnt.a),.vec v 20 (m.map Pnt.a)]) (.bool (Sp.eqL l m)) []:=by
 refine call49 (rSame9 _ _ _ _ _ ⟨fun k => ?_,fun k => ?_⟩)
 ·rw [eqL_len (by omega)]
 ·exact same_loop h.1 h.2 (by omega) l.length 0 (by omega) rfl
theorem ev46 (a:Int) (h:Sp.inI a):Ev M1 (.pure 46 [.int .i64 a]) (ratF (Sp.qi a)) []:=
 call46 (wNum _ _ ⟨h,.refl _⟩)
theorem ev93 (a b:Int) (h:Sp.inI a /\ Sp.inI b):Ev M1 (.pure 93 [.int .i64 a,.int .i64 b]) (vecF (Sp.qi a) (Sp.qi b)) []:=
 call93 (rVec7 _ _ _ ⟨h.1,h.2,.refl _⟩)
noncomputable def Sp.few3 (s1 t1 s2 t2 s3 t3:Bool) (x1 y1 x2 y2 x3 y3:List Int):Bool:=ZbX 2 s1 x1 t1 y1&&ZbX 2 s2 x2 t2 y2&&ZbX 2 s3 x3 t3 y3
def Sp.okRw (x1 y1 x2 y2 x3 y3:List Int):Prop:=((∀ v ∈ x1,0<=v) /\ ∀ v ∈ y1,0<=v)/\((∀ v ∈ x2,0<=v) /\ ∀ v ∈ y2,0<=v)/\(∀ v ∈ x3,0<=v) /\ ∀ v ∈ y3,0<=v
theorem small_y {s t:Bool} {x y:List Int} (h:¬((((x.length:Int) > 2) \/ ((y.length:Int) > 2)) \/ (¬(Sp.Zb9 s x t y = true)))):Sp.ZbX 2 s x t y = true:=by
 unfold Sp.ZbX
 rw [decide_eq_true (by omega),decide_eq_true (by omega),cond_true,cond_true]
 exact Classical.not_not.1 fun k => h (.inr k)
theorem small_n {s t:Bool} {x y:List Int} (h:(((x.length:Int) > 2) \/ ((y.length:Int) > 2)) \/ (¬(Sp.Zb9 s x t y = true))):Sp.ZbX 2 s x t y = false:=by
 rcases Bool.eq_false_or_eq_true (Sp.ZbX 2 s x t y) with k | k
 ·have:=Zht.1 k
  rcases h with h | h
  ·omega
  ·exact absurd (ZeA.2 this.2.2) h
 ·exact k
theorem Zga {x y:List Int} (h:(∀ v ∈ x,0<=v) /\ ∀ v ∈ y,0<=v) (k:¬(((x.length:Int)>2)\/((y.length:Int)>2))):Sp.okA x y:=⟨⟨by omega,h.1⟩,⟨by omega,h.2⟩⟩
theorem ev51 (s1 t1 f1 g1 s2 t2 f2 g2 s3 t3 f3 g3:Bool) (x1 y1 x2 y2 x3 y3:List Int) (h:Sp.okRw x1 y1 x2 y2 x3 y3):Ev M1 (.pure 51 [.vec true 4 [.agg [.bool s1,.vec f1 1 (x1.map (.int .u32)),.bool t1,.vec g1 1 (y1.map (.int .u32))],.agg [.bool s2,.vec f2 1 (x2.map (.int .u32)),.bool t2,.vec g2 1 (y2.map (.int .u32))],.agg [.bool s3,.vec f3 1 (x3.map (.int .u32)),.bool t3,.vec g3 1 (y3.map (.int .u32))]]]) (.bool (Sp.few3 s1 t1 s2 t2 s3 t3 x1 y1 x2 y2 x3 y3)) []:=by
 obtain ⟨h1,h2,h3⟩:=h
 unfold Sp.few3
 refine call51 (rFew _ _ _ _ _ _ _ _ _ _ _ _ _ _ _ _ _ _ _ (rFew0 _ _ _ _ _ _ _ _ _ _ _ _ _ _ _ _ _ _ _ ⟨Zga h1,fun k => ?_,fun k1 => rFew1 _ _ _ _ _ _ _ _ _ _ _ _ _ _ _ _ _ _ _ ⟨Zga h2,fun k => ?_,fun k2 => rFew2 _ _ _ _ _ _ _ _ _ _ _ _ _ _ _ _ _ _ _ ⟨Zga h3,fun k => ?_,fun k3 => rFew3 _ _ _ _ _ _ _ _ _ _ _ _ _ _ _ _ _ _ _ ?_⟩⟩⟩))
 ·rw [small_n k];rfl
 ·rw [small_n k,Bool.and_false];rfl
 ·rw [small_n k,Bool.and_false]
 ·rw [small_y k1,small_y k2,small_y k3];rfl
end Go.Av

namespace Go.Av
open Go.Proofs
set_option maxRecDepth 100000
def fi15:Fi:=⟨21,[.tmp 8]⟩
def kp15:List (Nat × List Nat):=[(0,[0,1,2,3]),(1,[8])]
def fi16:Fi:=⟨17,[.tmp 2]⟩
def kp16:List (Nat × List Nat):=[(0,[1]),(1,[2])]
def fi47:Fi:=⟨14,[.cell 6 28]⟩
def kp47:List (Nat × List Nat):=[(0,[0,1,2,6]),(1,[6])]
def fi48:Fi:=⟨14,[.cell 6 38]⟩
def kp48:List (Nat × List Nat):=[(0,[0,1,2,6]),(1,[6])]
def fi50:Fi:=⟨9,[.cell 4 56]⟩
def kp50:List (Nat × List Nat):=[(0,[0,1,4]),(1,[4])]
def wLine_at (a b c:Int) (Q:AV->Heap->Prop):Prop:=Wp M1 (.run fi47 (atC (cd Tryz.f47) []) [(0,.int .i64 a),(1,.int .i64 b),(2,.int .i64 c)] []) Q
def wCirc_at (a b c:Int) (Q:AV->Heap->Prop):Prop:=Wp M1 (.run fi48 (atC (cd Tryz.f48) []) [(0,.int .i64 a),(1,.int .i64 b),(2,.int .i64 c)] []) Q
def wAt_at (a b:Int) (Q:AV->Heap->Prop):Prop:=Wp M1 (.run fi50 (atC (cd Tryz.f50) []) [(0,.int .i64 a),(1,.int .i64 b)] []) Q
def wSame_at (u v:Bool) (l m:List Pnt) (e f:Int) (Q:AV->Heap->Prop):Prop:=Wp M1 (.run fi15 (atC (cd Tryz.f15) []) [(0,.vec u 20 (l.map Pnt.a)),(1,.int .i64 e),(2,.vec v 20 (m.map Pnt.a)),(3,.int .i64 f)] []) Q
def rCirc_at (f1 f2 f3 f4 f5 f6:Bool) (a b c:Rat) (Q:AV->Heap->Prop):Prop:=Wp M1 (.run fi16 (atC (cd Tryz.f16) []) [(0,Zas f1 f2 f3 f4 f5 f6 a b c)] []) Q
def rCircR_at (s1 t1 f1 g1 s2 t2 f2 g2 s3 t3 f3 g3:Bool) (x1 y1 x2 y2 x3 y3:List Int) (Q:AV->Heap->Prop):Prop:=Wp M1 (.run fi16 (atC (cd Tryz.f16) []) [(0,.agg [.bool s1,.vec f1 1 (x1.map (.int .u32)),.bool t1,.vec g1 1 (y1.map (.int .u32)),.bool s2,.vec f2 1 (x2.map (.int .u32)),.bool t2,.vec g2 1 (y2.map (.int .u32)),.bool s3,.vec f3 1 (x3.map (.int .u32)),.bool t3,.vec g3 1 (y3.map (.int .u32))])] []) Q
theorem call15 {args:List AV} {d:AV} (h:wc M1 fi15 Tryz.f15 args d):Ev M1 (.pure 15 args) d []:=pcl _ _ (by kernel_rfl) h
theorem call16 {args:List AV} {d:AV} (h:wc M1 fi16 Tryz.f16 args d):Ev M1 (.pure 16 args) d []:=pcl _ _ (by kernel_rfl) h
theorem call47 {args:List AV} {d:AV} (h:wc M1 fi47 Tryz.f47 args d):Ev M1 (.pure 47 args) d []:=pcl _ _ (by kernel_rfl) h
theorem call48 {args:List AV} {d:AV} (h:wc M1 fi48 Tryz.f48 args d):Ev M1 (.pure 48 args) d []:=pcl _ _ (by kernel_rfl) h
theorem call50 {args:List AV} {d:AV} (h:wc M1 fi50 Tryz.f50 args d):Ev M1 (.pure 50 args) d []:=pcl _ _ (by kernel_rfl) h
theorem wLine (a b c:Int)  (dq:AV) (H :
  (Sp.inI a) /\
  (Sp.inI b) /\
  (Sp.inI c) /\
  Weak (ZaH (Sp.qi a) (Sp.qi b) (Sp.qi c)) dq) :
 wLine_at a b c (Zaf dq):=by
 unfold wLine_at
 obtain ⟨k1,k2,k3,H⟩:=H
 exact Zah (G:=Zac kp47 [(1,1,.call (ratF (Sp.qi a)) none),(1,3,.call (ratF (Sp.qi b)) none),(1,5,.call (ratF (Sp.qi c)) none)] []) 1000 [] (ZaH (Sp.qi a) (Sp.qi b) (Sp.qi c)) (by kernel_rfl) (bc rfl b0) q0 (ce (@ev46 (a) k1) (ce (@ev46 (b) k2) (ce (@ev46 (c) k3) c0))) H
theorem wCirc (a b c:Int)  (dq:AV) (H :
  (Sp.inI a) /\
  (Sp.inI b) /\
  (Sp.inI c) /\
  Weak (ZaH (Sp.qi a) (Sp.qi b) (Sp.qi c)) dq) :
 wCirc_at a b c (Zaf dq):=by
 unfold wCirc_at
 obtain ⟨k1,k2,k3,H⟩:=H
 exact Zah (G:=Zac kp48 [(1,1,.call (ratF (Sp.qi a)) none),(1,3,.call (ratF (Sp.qi b)) none),(1,5,.call (ratF (Sp.qi c)) none)] []) 1000 [] (ZaH (Sp.qi a) (Sp.qi b) (Sp.qi c)) (by kernel_rfl) (bc rfl b0) q0 (ce (@ev46 (a) k1) (ce (@ev46 (b) k2) (ce (@ev46 (c) k3) c0))) H
noncomputable abbrev zNmH1 (a:Int) (b:Int):=(pntF (Sp.qi a) (Sp.qi 0) (Sp.qi b) (Sp.qi 0) (Sp.qi 0))
theorem wAt (a b:Int)  (dq:AV) (H :
  (Sp.inI a /\ Sp.inI b) /\
  Weak ((pntF (Sp.qi a) (Sp.qi 0) (Sp.qi b) (Sp.qi 0) (Sp.qi 0))) dq) :
 wAt_at a b (Zaf dq):=by
 unfold wAt_at
 obtain ⟨k1,H⟩:=H
 exact Zah (G:=Zac kp50 [(1,2,.call ((vecF (Sp.qi a) (Sp.qi b))) none),(1,3,.call (zNmH1 a b) none)] []) 1000 [] (zNmH1 a b) (by kernel_rfl) (bc rfl b0) q0 (ce (@ev93 (a) (b) k1) (ce (@ev61 (false) (false) (false) (false) (Sp.qi a) (Sp.qi b)) c0)) H
theorem wSame (u v:Bool) (l m:List Pnt) (e f:Int)  (dq:AV) (H :
  ((e = f) -> (Sp.Zg6 l)) /\
  (((e = f) /\ (Sp.Zfi l = true)) -> (Sp.Zg6 l /\ Sp.Zg6 m)) /\
  vb (bif bif e == f then Sp.Zfi l else false then Sp.eqL l m else false) = dq) :
 wSame_at u v l m e f (Zaf dq):=by
 unfold wSame_at
 obtain ⟨k2,k4,H⟩:=H
 exact Zaq (G:=Zac kp15 [(1,5,.call (vb (Sp.Zfi l)) none),(1,10,.call (vb (Sp.eqL l m)) none)] []) 1000 [] (calls:=[⟨(e == f) == true && true && true,false,63,[AV.vec u 20 (List.map Pnt.a l)],[],vb (Sp.Zfi l),[]⟩,⟨(bif e == f then Sp.Zfi l else false) == true && true && true,false,49,[AV.vec u 20 (List.map Pnt.a l),AV.vec v 20 (List.map Pnt.a m)],[],vb (Sp.eqL l m),[]⟩]) (vb (bif bif e == f then Sp.Zfi l else false then Sp.eqL l m else false)) (by kernel_rfl) b0 q0 (cc (fun hc => ((@ev63 (u) (l) (k2 ((i_at (i_at (i_bt i_eq))).1 hc))):Ev M1 (Conf.pure 63 [AV.vec u 20 (List.map Pnt.a l)]) (vb (Sp.Zfi l)) [])) (cc (fun hc => ((@ev49 (u) (v) (l) (m) (k4 ((i_at (i_at (i_bt (ZaK i_eq (ZaE _))))).1 hc))):Ev M1 (Conf.pure 49 [AV.vec u 20 (List.map Pnt.a l),AV.vec v 20 (List.map Pnt.a m)]) (vb (Sp.eqL l m)) [])) c0)) H
noncomputable abbrev zNmH6 (a:Rat) (b:Rat) (c:Rat):=Sp.few3 (Sp.Zaa a.num) (Sp.Zaa (↑a.den:Int)) (Sp.Zaa b.num) (Sp.Zaa (↑b.den:Int)) (Sp.Zaa c.num) (Sp.Zaa (↑c.den:Int)) (Sp.Zad a.num) (Sp.Zad (↑a.den:Int)) (Sp.Zad b.num) (Sp.Zad (↑b.den:Int)) (Sp.Zad c.num) (Sp.Zad (↑c.den:Int))
theorem rCirc (f1 f2 f3 f4 f5 f6:Bool) (a b c:Rat)  (dq:AV) (H :
  (Sp.okRw (Sp.Zad a.num) (Sp.Zad (↑a.den:Int)) (Sp.Zad b.num) (Sp.Zad (↑b.den:Int)) (Sp.Zad c.num) (Sp.Zad (↑c.den:Int))) /\
  vb (bif Sp.few3 (Sp.Zaa a.num) (Sp.Zaa (↑a.den:Int)) (Sp.Zaa b.num) (Sp.Zaa (↑b.den:Int)) (Sp.Zaa c.num) (Sp.Zaa (↑c.den:Int)) (Sp.Zad a.num) (Sp.Zad (↑a.den:Int)) (Sp.Zad b.num) (Sp.Zad (↑b.den:Int)) (Sp.Zad c.num) (Sp.Zad (↑c.den:Int)) then decide (Sp.sgnI c.num > 0) else false) = dq) :
 rCirc_at f1 f2 f3 f4 f5 f6 a b c (Zaf dq):=by
 unfold rCirc_at
 obtain ⟨k1,H⟩:=H
 exact Zaq (G:=Zac kp16 [(1,7,.call (vb (zNmH6 a b c)) none),(1,11,.call (vi (Sp.sgnI c.num)) none)] []) 1000 [] (asm:=[true,true,true,!(Sp.few3 (Sp.Zaa a.num) (Sp.Zaa (↑a.den:Int)) (Sp.Zaa b.num) (Sp.Zaa (↑b.den:Int)) (Sp.Zaa c.num) (Sp.Zaa (↑c.den:Int)) (Sp.Zad a.num) (Sp.Zad (↑a.den:Int)) (Sp.Zad b.num) (Sp.Zad (↑b.den:Int)) (Sp.Zad c.num) (Sp.Zad (↑c.den:Int)) == true && true) || true]) (calls:=[⟨true,false,51,[AV.vec true 4 [ratA f1 f2 a,ratA f3 f4 b,ratA f5 f6 c]],[],vb (zNmH6 a b c),[]⟩,⟨Sp.few3 (Sp.Zaa a.num) (Sp.Zaa (↑a.den:Int)) (Sp.Zaa b.num) (Sp.Zaa (↑b.den:Int)) (Sp.Zaa c.num) (Sp.Zaa (↑c.den:Int)) (Sp.Zad a.num) (Sp.Zad (↑a.den:Int)) (Sp.Zad b.num) (Sp.Zad (↑b.den:Int)) (Sp.Zad c.num) (Sp.Zad (↑c.den:Int)) == true && true && true,false,20,[ratA f5 f6 c],[],vi (Sp.sgnI c.num),[]⟩]) (vb (bif Sp.few3 (Sp.Zaa a.num) (Sp.Zaa (↑a.den:Int)) (Sp.Zaa b.num) (Sp.Zaa (↑b.den:Int)) (Sp.Zaa c.num) (Sp.Zaa (↑c.den:Int)) (Sp.Zad a.num) (Sp.Zad (↑a.den:Int)) (Sp.Zad b.num) (Sp.Zad (↑b.den:Int)) (Sp.Zad c.num) (Sp.Zad (↑c.den:Int)) then decide (Sp.sgnI c.num > 0) else false)) (by kernel_rfl) (bc rfl (bc rfl (bc rfl (bc (Bool.or_true _) b0)))) q0 (cc (fun _ => (@ev51 (Sp.Zaa a.num) (Sp.Zaa (↑a.den:Int)) (f1) (f2) (Sp.Zaa b.num) (Sp.Zaa (↑b.den:Int)) (f3) (f4) (Sp.Zaa c.num) (Sp.Zaa (↑c.den:Int)) (f5) (f6) (Sp.Zad a.num) (Sp.Zad (↑a.den:Int)) (Sp.Zad b.num) (Sp.Zad (↑b.den:Int)) (Sp.Zad c.num) (Sp.Zad (↑c.den:Int)) k1)) (cc (fun hc => ((@ev20 (f5) (f6) (c.num) ((↑c.den:Int))):Ev M1 (Conf.pure 20 [ratA f5 f6 c]) (vi (Sp.sgnI c.num)) [])) c0)) H
noncomputable abbrev zNmH7 (s3:Bool) (f3:Bool) (x3:List Int) (t3:Bool) (g3:Bool) (y3:List Int):=ag [vb s3,AV.vec f3 1 (us x3),vb t3,AV.vec g3 1 (us y3)]
theorem rCircR (s1 t1 f1 g1 s2 t2 f2 g2 s3 t3 f3 g3:Bool) (x1 y1 x2 y2 x3 y3:List Int)  (dq:AV) (H :
  (Sp.okRw x1 y1 x2 y2 x3 y3) /\
  ∃ (n1:Int),
  ((Sp.few3 s1 t1 s2 t2 s3 t3 x1 y1 x2 y2 x3 y3 = true) -> (Ev M1 (Conf.pure 20 [ag [vb s3,AV.vec f3 1 (us x3),vb t3,AV.vec g3 1 (us y3)]]) (vi n1) [])) /\
  vb (bif Sp.few3 s1 t1 s2 t2 s3 t3 x1 y1 x2 y2 x3 y3 then decide (n1 > 0) else false) = dq) :
 rCircR_at s1 t1 f1 g1 s2 t2 f2 g2 s3 t3 f3 g3 x1 y1 x2 y2 x3 y3 (Zaf dq):=by
 unfold rCircR_at
 obtain ⟨k1,n1,k3,H⟩:=H
 exact Zaq (G:=Zac kp16 [(1,7,.call (vb (Sp.few3 s1 t1 s2 t2 s3 t3 x1 y1 x2 y2 x3 y3)) none),(1,11,.call (vi n1) none)] []) 1000 [] (asm:=[true,true,true,!(Sp.few3 s1 t1 s2 t2 s3 t3 x1 y1 x2 y2 x3 y3 == true && true) || true]) (calls:=[⟨true,false,51,[AV.vec true 4 [ag [vb s1,AV.vec f1 1 (us x1),vb t1,AV.vec g1 1 (us y1)],ag [vb s2,AV.vec f2 1 (us x2),vb t2,AV.vec g2 1 (us y2)],(zNmH7 s3 f3 x3 t3 g3 y3)]],[],vb (Sp.few3 s1 t1 s2 t2 s3 t3 x1 y1 x2 y2 x3 y3),[]⟩,⟨Sp.few3 s1 t1 s2 t2 s3 t3 x1 y1 x2 y2 x3 y3 == true && true && true,false,20,[(zNmH7 s3 f3 x3 t3 g3 y3)],[],vi n1,[]⟩]) (vb (bif Sp.few3 s1 t1 s2 t2 s3 t3 x1 y1 x2 y2 x3 y3 then decide (n1 > 0) else false)) (by kernel_rfl) (bc rfl (bc rfl (bc rfl (bc (Bool.or_true _) b0)))) q0 (cc (fun _ => (@ev51 (s1) (t1) (f1) (g1) (s2) (t2) (f2) (g2) (s3) (t3) (f3) (g3) (x1) (y1) (x2) (y2) (x3) (y3) k1)) (cc (fun hc => ((k3 ((i_at (i_at (i_bt (ZaE _)))).1 hc)):Ev M1 (Conf.pure 20 [(zNmH7 s3 f3 x3 t3 g3 y3)]) (vi n1) [])) c0)) H
end Go.Av

namespace Go.Av
open Go.Proofs
theorem ev47 (a b c:Int) (h:Sp.inI a /\ Sp.inI b /\ Sp.inI c):Ev M1 (.pure 47 [.int .i64 a,.int .i64 b,.int .i64 c]) (ZaH (Sp.qi a) (Sp.qi b) (Sp.qi c)) []:=
 call47 (wLine _ _ _ _ ⟨h.1,h.2.1,h.2.2,.refl _⟩)
theorem ev48 (a b c:Int) (h:Sp.inI a /\ Sp.inI b /\ Sp.inI c):Ev M1 (.pure 48 [.int .i64 a,.int .i64 b,.int .i64 c]) (ZaH (Sp.qi a) (Sp.qi b) (Sp.qi c)) []:=
 call48 (wCirc _ _ _ _ ⟨h.1,h.2.1,h.2.2,.refl _⟩)
theorem ev50 (a b:Int) (h:Sp.inI a /\ Sp.inI b):Ev M1 (.pure 50 [.int .i64 a,.int .i64 b]) (pntF (Sp.qi a) (Sp.qi 0) (Sp.qi b) (Sp.qi 0) (Sp.qi 0)) []:=
 call50 (wAt _ _ _ ⟨h,.refl _⟩)
namespace Sp
noncomputable def smB (l:List Pnt) (e:Int) (m:List Pnt) (f:Int):Bool:=bif bif e==f then Zfi l else false then eqL l m else false
noncomputable def Ze1 (s1 t1 s2 t2 s3 t3:Bool) (x1 y1 x2 y2 x3 y3:List Int):Bool:=few3 s1 t1 s2 t2 s3 t3 x1 y1 x2 y2 x3 y3&&(decide (x3.length ≠ 0) && !s3)
noncomputable abbrev circBQ (a b c:Rat):Bool:=Ze1 (Zaa a.num) (Zaa (a.den:Int)) (Zaa b.num) (Zaa (b.den:Int)) (Zaa c.num) (Zaa (c.den:Int)) (Zad a.num) (Zad (a.den:Int)) (Zad b.num) (Zad (b.den:Int)) (Zad c.num) (Zad (c.den:Int))
end Sp
theorem ev15 (u v:Bool) (l m:List Pnt) (e f:Int) (h:Sp.Zg6 l /\ Sp.Zg6 m):Ev M1 (.pure 15 [.vec u 20 (l.map Pnt.a),.int .i64 e,.vec v 20 (m.map Pnt.a),.int .i64 f]) (.bool (Sp.smB l e m f)) []:=
 call15 (wSame _ _ _ _ _ _ _ ⟨fun _ => h.1,fun _ => h,rfl⟩)
theorem few3_rat {s1 t1 s2 t2 s3 t3:Bool} {x1 y1 x2 y2 x3 y3:List Int} (h:Sp.few3 s1 t1 s2 t2 s3 t3 x1 y1 x2 y2 x3 y3 = true):∃ a b c:Rat,Sp.okI2 a b c /\ (s1 = Sp.Zaa a.num /\ x1 = Sp.Zad a.num /\ t1 = Sp.Zaa (a.den:Int) /\ y1 = Sp.Zad (a.den:Int)) /\ (s2 = Sp.Zaa b.num /\ x2 = Sp.Zad b.num /\ t2 = Sp.Zaa (b.den:Int) /\ y2 = Sp.Zad (b.den:Int)) /\ s3 = Sp.Zaa c.num /\ x3 = Sp.Zad c.num /\ t3 = Sp.Zaa (c.den:Int) /\ y3 = Sp.Zad (c.den:Int):=by
 unfold Sp.few3 at h
 rw [Bool.and_eq_true,Bool.and_eq_true] at h
 obtain ⟨a,ka,ea⟩:=Zd1 h.1.1
 obtain ⟨b,kb,eb⟩:=Zd1 h.1.2
 obtain ⟨c,kc,ec⟩:=Zd1 h.2
 exact ⟨a,b,c,⟨ka,kb,kc⟩,ea,eb,ec⟩
theorem lim_len0 (v:Int):(Sp.Zad v).length ≠ 0 ↔ v ≠ 0:=by
 rw [ZaY]
 have:=ZaC (v:=v.natAbs)
 omega
theorem sg_gt (v:Int):decide (Sp.sgnI v > 0) = (decide ((Sp.Zad v).length ≠ 0) && !Sp.Zaa v):=by
 by_cases k:v = 0
 ·subst k;rw [decide_eq_false (show ¬(Sp.Zad 0).length ≠ 0 from fun h => (lim_len0 0).1 h rfl)];rfl
 ·rw [decide_eq_true ((lim_len0 v).2 k),Bool.true_and]
  by_cases n:v < 0
  ·rw [Zal.2 n]
   refine decide_eq_false ?_
   unfold Sp.sgnI;rw [if_pos n];decide
  ·rw [show Sp.Zaa v = false from decide_eq_false n]
   refine decide_eq_true ?_
   unfold Sp.sgnI;rw [if_neg n,if_pos (by omega)];decide
theorem ev16 (s1 t1 f1 g1 s2 t2 f2 g2 s3 t3 f3 g3:Bool) (x1 y1 x2 y2 x3 y3:List Int) (h:Sp.okRw x1 y1 x2 y2 x3 y3):Ev M1 (.pure 16 [.agg [.bool s1,.vec f1 1 (x1.map (.int .u32)),.bool t1,.vec g1 1 (y1.map (.int .u32)),.bool s2,.vec f2 1 (x2.map (.int .u32)),.bool t2,.vec g2 1 (y2.map (.int .u32)),.bool s3,.vec f3 1 (x3.map (.int .u32)),.bool t3,.vec g3 1 (y3.map (.int .u32))]]) (.bool (Sp.Ze1 s1 t1 s2 t2 s3 t3 x1 y1 x2 y2 x3 y3)) []:=by
 by_cases k:Sp.few3 s1 t1 s2 t2 s3 t3 x1 y1 x2 y2 x3 y3 = true
 ·obtain ⟨a,b,c,hk,⟨rfl,rfl,rfl,rfl⟩,⟨rfl,rfl,rfl,rfl⟩,rfl,rfl,rfl,rfl⟩:=few3_rat k
  refine call16 (rCirc _ _ _ _ _ _ _ _ _ _ ⟨h,?_⟩)
  unfold Sp.Ze1
  rw [k,sg_gt];rfl
 ·refine call16 (rCircR _ _ _ _ _ _ _ _ _ _ _ _ _ _ _ _ _ _ _ ⟨h,0,fun j => absurd j k,?_⟩)
  unfold Sp.Ze1
  rw [(Bool.not_eq_true _).mp k];rfl
theorem circB_few {s1 t1 s2 t2 s3 t3:Bool} {x1 y1 x2 y2 x3 y3:List Int} (h:Sp.Ze1 s1 t1 s2 t2 s3 t3 x1 y1 x2 y2 x3 y3 = true):Sp.few3 s1 t1 s2 t2 s3 t3 x1 y1 x2 y2 x3 y3 = true:=by
 unfold Sp.Ze1 at h;rw [Bool.and_eq_true] at h;exact h.1
theorem circB_pos {a b c:Rat} (h:Sp.Ze1 (Sp.Zaa a.num) (Sp.Zaa (a.den:Int)) (Sp.Zaa b.num) (Sp.Zaa (b.den:Int)) (Sp.Zaa c.num) (Sp.Zaa (c.den:Int)) (Sp.Zad a.num) (Sp.Zad (a.den:Int)) (Sp.Zad b.num) (Sp.Zad (b.den:Int)) (Sp.Zad c.num) (Sp.Zad (c.den:Int)) = true):0 < c:=by
 unfold Sp.Ze1 at h
 rw [Bool.and_eq_true,<- sg_gt,decide_eq_true_iff] at h
 exact sgp.1 h.2
end Go.Av

namespace Go.Av
open Go.Proofs
set_option maxRecDepth 100000
def fi11:Fi:=⟨72,[.tmp 0]⟩
def kp11:List (Nat × List Nat):=[(0,[]),(1,[1,2]),(2,[1,2,3]),(3,[1,2,3,4]),(4,[1,2,3,4,5,6]),(5,[1,2,3,4,5,6,8]),(6,[0])]
def wAwake_at  (Q:AV->Heap->Prop):Prop:=Wp M1 (.run fi11 (atC (cd Tryz.f11) []) [] []) Q
theorem call11 {args:List AV} {d:AV} (h:wc M1 fi11 Tryz.f11 args d):Ev M1 (.pure 11 args) d []:=pcl _ _ (by kernel_rfl) h
noncomputable abbrev Zg8:=(pntF (Sp.qi 1) (Sp.qi 0) (Sp.qi 1) (Sp.qi 0) (Sp.qi 0))
noncomputable abbrev zNmI2:=(pntF (Sp.qi (-1)) (Sp.qi 0) (Sp.qi 1) (Sp.qi 0) (Sp.qi 0))
noncomputable abbrev zNmI3:=(pntF (Sp.qi 2) (Sp.qi 0) (Sp.qi 1) (Sp.qi 0) (Sp.qi 0))
noncomputable abbrev zNmI4:=Sp.linL (Sp.qi 1) (Sp.qi 1) (Sp.qi 3) (Sp.qi 1) (Sp.qi (-1)) (Sp.qi 1)
noncomputable abbrev zNmI5:=Sp.dep (Sp.qi 1) (Sp.qi 1) (Sp.qi 2) (Sp.qi 0) (Sp.qi 0) (Sp.qi 2)=0
noncomputable abbrev zNmI6:=Sp.Zbu (Sp.qi 0) (Sp.qi 1) (Sp.qi 1) (Sp.qi 0) (Sp.qi 0) (Sp.qi 2)
noncomputable abbrev zNmI7:=Sp.Zbu (Sp.qi 1) (Sp.qi 1) (Sp.qi 2) (Sp.qi 0) (Sp.qi 0) (Sp.qi 2)
noncomputable abbrev zNmI8:=(↑(Sp.Zhh (Sp.qi 0) (Sp.qi 0) (Sp.qi 1) (Sp.qi 1) (Sp.qi 0) (Sp.qi 1)).length:Int)=2
noncomputable abbrev zNmI9 (b1:Bool):=bif Sp.Zeu (Sp.qi 1) (Sp.qi 1) (Sp.qi 3) (Sp.qi 1) (Sp.qi (-1)) (Sp.qi 1)==0 then b1 else false
noncomputable abbrev zNmI10:=Sp.Zeu (Sp.qi 1) (Sp.qi 1) (Sp.qi 3) (Sp.qi 1) (Sp.qi (-1)) (Sp.qi 1)=0
noncomputable abbrev zNmI11:=Sp.Zej (Sp.qi 0) (Sp.qi 0) (Sp.qi 1) (Sp.qi 0) (Sp.qi 0) (Sp.qi 1)=10
noncomputable abbrev zNmI12:=Sp.Zej (Sp.qi 0) (Sp.qi 0) (Sp.qi 1) (Sp.qi 1) (Sp.qi 0) (Sp.qi 1)=0
theorem wAwake   (dq:AV) (H :
  (Sp.inI 1 /\ Sp.inI 1 /\ Sp.inI 3) /\
  (Sp.inI 1 /\ Sp.inI (-1) /\ Sp.inI 1) /\
  (Sp.ZeM (Sp.qi 1) (Sp.qi 1) (Sp.qi 3) /\ Sp.ZeM (Sp.qi 1) (Sp.qi (-1)) (Sp.qi 1)) /\
  (Sp.inI 0 /\ Sp.inI 1 /\ Sp.inI 1) /\
  (Sp.inI 0 /\ Sp.inI 0 /\ Sp.inI 2) /\
  (Sp.ZfD (Sp.qi 0) (Sp.qi 1) (Sp.qi 1) /\ Sp.Zdx (Sp.qi 0) (Sp.qi 0) /\ Sp.okT 30 (Sp.qi 2)) /\
  (Sp.inI 1 /\ Sp.inI 1 /\ Sp.inI 2) /\
  (Sp.ZfD (Sp.qi 1) (Sp.qi 1) (Sp.qi 2) /\ Sp.Zdx (Sp.qi 0) (Sp.qi 0) /\ Sp.okT 30 (Sp.qi 2)) /\
  (Sp.inI 0 /\ Sp.inI 0 /\ Sp.inI 1) /\
  (Sp.inI 1 /\ Sp.inI 0 /\ Sp.inI 1) /\
  (Sp.okI2 (Sp.qi 0) (Sp.qi 0) (Sp.qi 1) /\ Sp.okI2 (Sp.qi 1) (Sp.qi 0) (Sp.qi 1)) /\
  (Sp.okI2 (Sp.qi 0) (Sp.qi 0) (Sp.qi 1) /\ Sp.okI2 (Sp.qi 0) (Sp.qi 0) (Sp.qi 1)) /\
  ((Sp.Zeu (Sp.qi 1) (Sp.qi 1) (Sp.qi 3) (Sp.qi 1) (Sp.qi (-1)) (Sp.qi 1) = 0) -> (Sp.inI 2 /\ Sp.inI 1)) /\
  ∃ (b1:Bool),
  ((Sp.Zeu (Sp.qi 1) (Sp.qi 1) (Sp.qi 3) (Sp.qi 1) (Sp.qi (-1)) (Sp.qi 1) = 0) -> (Ev M1 (Conf.pure 49 [AV.vec false 20 (List.map Pnt.a (Sp.linL (Sp.qi 1) (Sp.qi 1) (Sp.qi 3) (Sp.qi 1) (Sp.qi (-1)) (Sp.qi 1))),AV.vec true 20 [(pntF (Sp.qi 2) (Sp.qi 0) (Sp.qi 1) (Sp.qi 0) (Sp.qi 0))]]) (vb b1) [])) /\
  (((Sp.Zeu (Sp.qi 1) (Sp.qi 1) (Sp.qi 3) (Sp.qi 1) (Sp.qi (-1)) (Sp.qi 1) = 0) /\ (b1 = true)) -> (Sp.inI (-1) /\ Sp.inI 1)) /\
  (((Sp.Zeu (Sp.qi 1) (Sp.qi 1) (Sp.qi 3) (Sp.qi 1) (Sp.qi (-1)) (Sp.qi 1) = 0) /\ (b1 = true)) -> (Sp.inI 1 /\ Sp.inI 1)) /\
  ∃ (b2:Bool),
  (((Sp.Zeu (Sp.qi 1) (Sp.qi 1) (Sp.qi 3) (Sp.qi 1) (Sp.qi (-1)) (Sp.qi 1) = 0) /\ (b1 = true)) -> (Ev M1 (Conf.pure 49 [AV.vec false 20 (List.map Pnt.a (Sp.Zbu (Sp.qi 0) (Sp.qi 1) (Sp.qi 1) (Sp.qi 0) (Sp.qi 0) (Sp.qi 2))),AV.vec true 20 [(pntF (Sp.qi (-1)) (Sp.qi 0) (Sp.qi 1) (Sp.qi 0) (Sp.qi 0)),(pntF (Sp.qi 1) (Sp.qi 0) (Sp.qi 1) (Sp.qi 0) (Sp.qi 0))]]) (vb b2) [])) /\
  ((((Sp.Zeu (Sp.qi 1) (Sp.qi 1) (Sp.qi 3) (Sp.qi 1) (Sp.qi (-1)) (Sp.qi 1) = 0) /\ (b1 = true)) /\ (b2 = true)) -> (Sp.inI 1 /\ Sp.inI 1)) /\
  ∃ (b3:Bool),
  ((((Sp.Zeu (Sp.qi 1) (Sp.qi 1) (Sp.qi 3) (Sp.qi 1) (Sp.qi (-1)) (Sp.qi 1) = 0) /\ (b1 = true)) /\ (b2 = true)) -> (Ev M1 (Conf.pure 49 [AV.vec false 20 (List.map Pnt.a (Sp.Zbu (Sp.qi 1) (Sp.qi 1) (Sp.qi 2) (Sp.qi 0) (Sp.qi 0) (Sp.qi 2))),AV.vec true 20 [(pntF (Sp.qi 1) (Sp.qi 0) (Sp.qi 1) (Sp.qi 0) (Sp.qi 0))]]) (vb b3) [])) /\
  vb (bif bif bif bif bif bif bif Sp.Zeu (Sp.qi 1) (Sp.qi 1) (Sp.qi 3) (Sp.qi 1) (Sp.qi (-1)) (Sp.qi 1) == 0 then b1 else false then b2 else false then b3 else false then Sp.Zej (Sp.qi 0) (Sp.qi 0) (Sp.qi 1) (Sp.qi 1) (Sp.qi 0) (Sp.qi 1) == 0 else false then (↑(Sp.Zhh (Sp.qi 0) (Sp.qi 0) (Sp.qi 1) (Sp.qi 1) (Sp.qi 0) (Sp.qi 1)).length:Int) == 2 else false then Sp.Zej (Sp.qi 0) (Sp.qi 0) (Sp.qi 1) (Sp.qi 0) (Sp.qi 0) (Sp.qi 1) == 10 else false then decide (Sp.dep (Sp.qi 1) (Sp.qi 1) (Sp.qi 2) (Sp.qi 0) (Sp.qi 0) (Sp.qi 2) = 0) else false) = dq) :
 wAwake_at  (Zaf dq):=by
 unfold wAwake_at
 obtain ⟨k1,k2,k3,k4,k5,k6,k7,k8,k9,k10,k11,k12,k14,b1,k16,k18,k20,b2,k22,k24,b3,k26,H⟩:=H
 have w27:(List.map Pnt.a (Sp.Zhh (Sp.qi 0) (Sp.qi 0) (Sp.qi 1) (Sp.qi 1) (Sp.qi 0) (Sp.qi 1))).length = (Sp.Zhh (Sp.qi 0) (Sp.qi 0) (Sp.qi 1) (Sp.qi 1) (Sp.qi 0) (Sp.qi 1)).length:=List.length_map ..
 have i28:((bif bif bif bif bif bif Sp.Zeu (Sp.qi 1) (Sp.qi 1) (Sp.qi 3) (Sp.qi 1) (Sp.qi (-1)) (Sp.qi 1) == 0 then b1 else false then b2 else false then b3 else false then Sp.Zej (Sp.qi 0) (Sp.qi 0) (Sp.qi 1) (Sp.qi 1) (Sp.qi 0) (Sp.qi 1) == 0 else false then (↑(List.map Pnt.a (Sp.Zhh (Sp.qi 0) (Sp.qi 0) (Sp.qi 1) (Sp.qi 1) (Sp.qi 0) (Sp.qi 1))).length:Int) == 2 else false then Sp.Zej (Sp.qi 0) (Sp.qi 0) (Sp.qi 1) (Sp.qi 0) (Sp.qi 0) (Sp.qi 1) == 10 else false) == true && true && true) = true ↔ ((((((zNmI10 /\ (b1 = true)) /\ (b2 = true)) /\ (b3 = true)) /\ zNmI12) /\ zNmI8) /\ zNmI11):=(by (try rw [w27]);all_goals exact (i_at (i_at (i_bt (ZaK (ZaK (ZaK (ZaK (ZaK (ZaK i_eq (ZaE _)) (ZaE _)) (ZaE _)) i_eq) i_eq) i_eq)))))
 have i29:((bif bif bif bif bif bif Sp.Zeu (Sp.qi 1) (Sp.qi 1) (Sp.qi 3) (Sp.qi 1) (Sp.qi (-1)) (Sp.qi 1) == 0 then b1 else false then b2 else false then b3 else false then Sp.Zej (Sp.qi 0) (Sp.qi 0) (Sp.qi 1) (Sp.qi 1) (Sp.qi 0) (Sp.qi 1) == 0 else false then (↑(List.map Pnt.a (Sp.Zhh (Sp.qi 0) (Sp.qi 0) (Sp.qi 1) (Sp.qi 1) (Sp.qi 0) (Sp.qi 1))).length:Int) == 2 else false then Sp.Zej (Sp.qi 0) (Sp.qi 0) (Sp.qi 1) (Sp.qi 0) (Sp.qi 0) (Sp.qi 1) == 10 else false) == true && true && true) = true ↔ ((((((zNmI10 /\ (b1 = true)) /\ (b2 = true)) /\ (b3 = true)) /\ zNmI12) /\ zNmI8) /\ zNmI11):=(by (try rw [w27]);all_goals exact (i_at (i_at (i_bt (ZaK (ZaK (ZaK (ZaK (ZaK (ZaK i_eq (ZaE _)) (ZaE _)) (ZaE _)) i_eq) i_eq) i_eq)))))
 have i30:((bif bif bif bif bif bif Sp.Zeu (Sp.qi 1) (Sp.qi 1) (Sp.qi 3) (Sp.qi 1) (Sp.qi (-1)) (Sp.qi 1) == 0 then b1 else false then b2 else false then b3 else false then Sp.Zej (Sp.qi 0) (Sp.qi 0) (Sp.qi 1) (Sp.qi 1) (Sp.qi 0) (Sp.qi 1) == 0 else false then (↑(List.map Pnt.a (Sp.Zhh (Sp.qi 0) (Sp.qi 0) (Sp.qi 1) (Sp.qi 1) (Sp.qi 0) (Sp.qi 1))).length:Int) == 2 else false then Sp.Zej (Sp.qi 0) (Sp.qi 0) (Sp.qi 1) (Sp.qi 0) (Sp.qi 0) (Sp.qi 1) == 10 else false) == true && true && true) = true ↔ ((((((zNmI10 /\ (b1 = true)) /\ (b2 = true)) /\ (b3 = true)) /\ zNmI12) /\ zNmI8) /\ zNmI11):=(by (try rw [w27]);all_goals exact (i_at (i_at (i_bt (ZaK (ZaK (ZaK (ZaK (ZaK (ZaK i_eq (ZaE _)) (ZaE _)) (ZaE _)) i_eq) i_eq) i_eq)))))
 exact Zaq (G:=Zac kp11 [(1,0,.call (ZaH (Sp.qi 1) (Sp.qi 1) (Sp.qi 3)) none),(1,1,.call (ZaH (Sp.qi 1) (Sp.qi (-1)) (Sp.qi 1)) none),(1,2,.call (tu [AV.vec false 20 (List.map Pnt.a zNmI4),vi (Sp.Zeu (Sp.qi 1) (Sp.qi 1) (Sp.qi 3) (Sp.qi 1) (Sp.qi (-1)) (Sp.qi 1))]) none),(2,0,.call (ZaH (Sp.qi 0) (Sp.qi 1) (Sp.qi 1)) none),(2,1,.call (ZaH (Sp.qi 0) (Sp.qi 0) (Sp.qi 2)) none),(2,2,.call (AV.vec false 20 (List.map Pnt.a zNmI6)) none),(3,0,.call (ZaH (Sp.qi 1) (Sp.qi 1) (Sp.qi 2)) none),(3,1,.call (ZaH (Sp.qi 0) (Sp.qi 0) (Sp.qi 2)) none),(3,2,.call (AV.vec false 20 (List.map Pnt.a zNmI7)) none),(4,0,.call (ZaH (Sp.qi 0) (Sp.qi 0) (Sp.qi 1)) none),(4,1,.call (ZaH (Sp.qi 1) (Sp.qi 0) (Sp.qi 1)) none),(4,2,.call (tu [AV.vec false 20 (List.map Pnt.a (Sp.Zhh (Sp.qi 0) (Sp.qi 0) (Sp.qi 1) (Sp.qi 1) (Sp.qi 0) (Sp.qi 1))),vi (Sp.Zej (Sp.qi 0) (Sp.qi 0) (Sp.qi 1) (Sp.qi 1) (Sp.qi 0) (Sp.qi 1))]) none),(5,0,.call (ZaH (Sp.qi 0) (Sp.qi 0) (Sp.qi 1)) none),(5,1,.call (ZaH (Sp.qi 0) (Sp.qi 0) (Sp.qi 1)) none),(5,2,.call (tu [AV.vec false 20 (List.map Pnt.a (Sp.Zhh (Sp.qi 0) (Sp.qi 0) (Sp.qi 1) (Sp.qi 0) (Sp.qi 0) (Sp.qi 1))),vi (Sp.Zej (Sp.qi 0) (Sp.qi 0) (Sp.qi 1) (Sp.qi 0) (Sp.qi 0) (Sp.qi 1))]) none),(6,4,.call (zNmI3) none),(6,6,.call (vb b1) none),(6,10,.call (zNmI2) none),(6,11,.call (Zg8) none),(6,13,.call (vb b2) none),(6,17,.call (Zg8) none),(6,19,.call (vb b3) none),(6,35,.call (ZaH (Sp.qi 1) (Sp.qi 1) (Sp.qi 2)) none),(6,36,.call (ZaH (Sp.qi 0) (Sp.qi 0) (Sp.qi 2)) none),(6,37,.call (vb (decide zNmI5)) none)] []) 1000 [] (calls:=[⟨true,false,47,[vi 1,vi 1,vi 3],[],ZaH (Sp.qi 1) (Sp.qi 1) (Sp.qi 3),[]⟩,⟨true,false,47,[vi 1,vi (-1),vi 1],[],ZaH (Sp.qi 1) (Sp.qi (-1)) (Sp.qi 1),[]⟩,⟨true,false,13,[ZaH (Sp.qi 1) (Sp.qi 1) (Sp.qi 3),ZaH (Sp.qi 1) (Sp.qi (-1)) (Sp.qi 1)],[],tu [AV.vec false 20 (List.map Pnt.a zNmI4),vi (Sp.Zeu (Sp.qi 1) (Sp.qi 1) (Sp.qi 3) (Sp.qi 1) (Sp.qi (-1)) (Sp.qi 1))],[]⟩,⟨true,false,47,[vi 0,vi 1,vi 1],[],ZaH (Sp.qi 0) (Sp.qi 1) (Sp.qi 1),[]⟩,⟨true,false,48,[vi 0,vi 0,vi 2],[],ZaH (Sp.qi 0) (Sp.qi 0) (Sp.qi 2),[]⟩,⟨true,false,17,[ZaH (Sp.qi 0) (Sp.qi 1) (Sp.qi 1),ZaH (Sp.qi 0) (Sp.qi 0) (Sp.qi 2)],[],AV.vec false 20 (List.map Pnt.a zNmI6),[]⟩,⟨true,false,47,[vi 1,vi 1,vi 2],[],ZaH (Sp.qi 1) (Sp.qi 1) (Sp.qi 2),[]⟩,⟨true,false,48,[vi 0,vi 0,vi 2],[],ZaH (Sp.qi 0) (Sp.qi 0) (Sp.qi 2),[]⟩,⟨true,false,17,[ZaH (Sp.qi 1) (Sp.qi 1) (Sp.qi 2),ZaH (Sp.qi 0) (Sp.qi 0) (Sp.qi 2)],[],AV.vec false 20 (List.map Pnt.a zNmI7),[]⟩,⟨true,false,48,[vi 0,vi 0,vi 1],[],ZaH (Sp.qi 0) (Sp.qi 0) (Sp.qi 1),[]⟩,⟨true,false,48,[vi 1,vi 0,vi 1],[],ZaH (Sp.qi 1) (Sp.qi 0) (Sp.qi 1),[]⟩,⟨true,false,22,[ZaH (Sp.qi 0) (Sp.qi 0) (Sp.qi 1),ZaH (Sp.qi 1) (Sp.qi 0) (Sp.qi 1)],[],tu [AV.vec false 20 (List.map Pnt.a (Sp.Zhh (Sp.qi 0) (Sp.qi 0) (Sp.qi 1) (Sp.qi 1) (Sp.qi 0) (Sp.qi 1))),vi (Sp.Zej (Sp.qi 0) (Sp.qi 0) (Sp.qi 1) (Sp.qi 1) (Sp.qi 0) (Sp.qi 1))],[]⟩,⟨true,false,48,[vi 0,vi 0,vi 1],[],ZaH (Sp.qi 0) (Sp.qi 0) (Sp.qi 1),[]⟩,⟨true,false,48,[vi 0,vi 0,vi 1],[],ZaH (Sp.qi 0) (Sp.qi 0) (Sp.qi 1),[]⟩,⟨true,false,22,[ZaH (Sp.qi 0) (Sp.qi 0) (Sp.qi 1),ZaH (Sp.qi 0) (Sp.qi 0) (Sp.qi 1)],[],tu [AV.vec false 20 (List.map Pnt.a (Sp.Zhh (Sp.qi 0) (Sp.qi 0) (Sp.qi 1) (Sp.qi 0) (Sp.qi 0) (Sp.qi 1))),vi (Sp.Zej (Sp.qi 0) (Sp.qi 0) (Sp.qi 1) (Sp.qi 0) (Sp.qi 0) (Sp.qi 1))],[]⟩,⟨(Sp.Zeu (Sp.qi 1) (Sp.qi 1) (Sp.qi 3) (Sp.qi 1) (Sp.qi (-1)) (Sp.qi 1) == 0) == true && true && true,false,50,[vi 2,vi 1],[],zNmI3,[]⟩,⟨(Sp.Zeu (Sp.qi 1) (Sp.qi 1) (Sp.qi 3) (Sp.qi 1) (Sp.qi (-1)) (Sp.qi 1) == 0) == true && true && true,false,49,[AV.vec false 20 (List.map Pnt.a zNmI4),AV.vec true 20 [zNmI3]],[],vb b1,[]⟩,⟨(zNmI9 b1) == true && true && true,false,50,[vi (-1),vi 1],[],zNmI2,[]⟩,⟨(zNmI9 b1) == true && true && true,false,50,[vi 1,vi 1],[],Zg8,[]⟩,⟨(zNmI9 b1) == true && true && true,false,49,[AV.vec false 20 (List.map Pnt.a zNmI6),AV.vec true 20 [zNmI2,Zg8]],[],vb b2,[]⟩,⟨(bif bif Sp.Zeu (Sp.qi 1) (Sp.qi 1) (Sp.qi 3) (Sp.qi 1) (Sp.qi (-1)) (Sp.qi 1) == 0 then b1 else false then b2 else false) == true && true && true,false,50,[vi 1,vi 1],[],Zg8,[]⟩,⟨(bif bif Sp.Zeu (Sp.qi 1) (Sp.qi 1) (Sp.qi 3) (Sp.qi 1) (Sp.qi (-1)) (Sp.qi 1) == 0 then b1 else false then b2 else false) == true && true && true,false,49,[AV.vec false 20 (List.map Pnt.a zNmI7),AV.vec true 20 [Zg8]],[],vb b3,[]⟩,⟨(bif bif bif bif bif bif Sp.Zeu (Sp.qi 1) (Sp.qi 1) (Sp.qi 3) (Sp.qi 1) (Sp.qi (-1)) (Sp.qi 1) == 0 then b1 else false then b2 else false then b3 else false then Sp.Zej (Sp.qi 0) (Sp.qi 0) (Sp.qi 1) (Sp.qi 1) (Sp.qi 0) (Sp.qi 1) == 0 else false then (↑(List.map Pnt.a (Sp.Zhh (Sp.qi 0) (Sp.qi 0) (Sp.qi 1) (Sp.qi 1) (Sp.qi 0) (Sp.qi 1))).length:Int) == 2 else false then Sp.Zej (Sp.qi 0) (Sp.qi 0) (Sp.qi 1) (Sp.qi 0) (Sp.qi 0) (Sp.qi 1) == 10 else false) == true && true && true,false,47,[vi 1,vi 1,vi 2],[],ZaH (Sp.qi 1) (Sp.qi 1) (Sp.qi 2),[]⟩,⟨(bif bif bif bif bif bif Sp.Zeu (Sp.qi 1) (Sp.qi 1) (Sp.qi 3) (Sp.qi 1) (Sp.qi (-1)) (Sp.qi 1) == 0 then b1 else false then b2 else false then b3 else false then Sp.Zej (Sp.qi 0) (Sp.qi 0) (Sp.qi 1) (Sp.qi 1) (Sp.qi 0) (Sp.qi 1) == 0 else false then (↑(List.map Pnt.a (Sp.Zhh (Sp.qi 0) (Sp.qi 0) (Sp.qi 1) (Sp.qi 1) (Sp.qi 0) (Sp.qi 1))).length:Int) == 2 else false then Sp.Zej (Sp.qi 0) (Sp.qi 0) (Sp.qi 1) (Sp.qi 0) (Sp.qi 0) (Sp.qi 1) == 10 else false) == true && true && true,false,48,[vi 0,vi 0,vi 2],[],ZaH (Sp.qi 0) (Sp.qi 0) (Sp.qi 2),[]⟩,⟨(bif bif bif bif bif bif Sp.Zeu (Sp.qi 1) (Sp.qi 1) (Sp.qi 3) (Sp.qi 1) (Sp.qi (-1)) (Sp.qi 1) == 0 then b1 else false then b2 else false then b3 else false then Sp.Zej (Sp.qi 0) (Sp.qi 0) (Sp.qi 1) (Sp.qi 1) (Sp.qi 0) (Sp.qi 1) == 0 else false then (↑(List.map Pnt.a (Sp.Zhh (Sp.qi 0) (Sp.qi 0) (Sp.qi 1) (Sp.qi 1) (Sp.qi 0) (Sp.qi 1))).length:Int) == 2 else false then Sp.Zej (Sp.qi 0) (Sp.qi 0) (Sp.qi 1) (Sp.qi 0) (Sp.qi 0) (Sp.qi 1) == 10 else false) == true && true && true,false,19,[ZaH (Sp.qi 1) (Sp.qi 1) (Sp.qi 2),ZaH (Sp.qi 0) (Sp.qi 0) (Sp.qi 2)],[],vb (decide zNmI5),[]⟩]) (vb (bif bif bif bif bif bif bif Sp.Zeu (Sp.qi 1) (Sp.qi 1) (Sp.qi 3) (Sp.qi 1) (Sp.qi (-1)) (Sp.qi 1) == 0 then b1 else false then b2 else false then b3 else false then Sp.Zej (Sp.qi 0) (Sp.qi 0) (Sp.qi 1) (Sp.qi 1) (Sp.qi 0) (Sp.qi 1) == 0 else false then (↑(List.map Pnt.a (Sp.Zhh (Sp.qi 0) (Sp.qi 0) (Sp.qi 1) (Sp.qi 1) (Sp.qi 0) (Sp.qi 1))).length:Int) == 2 else false then Sp.Zej (Sp.qi 0) (Sp.qi 0) (Sp.qi 1) (Sp.qi 0) (Sp.qi 0) (Sp.qi 1) == 10 else false then decide zNmI5 else false)) (by kernel_rfl) b0 q0 (cc (fun _ => (@ev47 (1) (1) (3) k1)) (cc (fun _ => (@ev47 (1) (-1) (1) k2)) (cc (fun _ => (@ev13 (false) (false) (false) (false) (false) (false) (false) (false) (false) (false) (false) (false) (Sp.qi 1) (Sp.qi 1) (Sp.qi 3) (Sp.qi 1) (Sp.qi (-1)) (Sp.qi 1) k3)) (cc (fun _ => (@ev47 (0) (1) (1) k4)) (cc (fun _ => (@ev48 (0) (0) (2) k5)) (cc (fun _ => (@ev17 (false) (false) (false) (false) (false) (false) (false) (false) (false) (false) (false) (false) (Sp.qi 0) (Sp.qi 1) (Sp.qi 1) (Sp.qi 0) (Sp.qi 0) (Sp.qi 2) k6)) (cc (fun _ => (@ev47 (1) (1) (2) k7)) (cc (fun _ => (@ev48 (0) (0) (2) k5)) (cc (fun _ => (@ev17 (false) (false) (false) (false) (false) (false) (false) (false) (false) (false) (false) (false) (Sp.qi 1) (Sp.qi 1) (Sp.qi 2) (Sp.qi 0) (Sp.qi 0) (Sp.qi 2) k8)) (cc (fun _ => (@ev48 (0) (0) (1) k9)) (cc (fun _ => (@ev48 (1) (0) (1) k10)) (cc (fun _ => (@ev22 (false) (false) (false) (false) (false) (false) (false) (false) (false) (false) (false) (false) (Sp.qi 0) (Sp.qi 0) (Sp.qi 1) (Sp.qi 1) (Sp.qi 0) (Sp.qi 1) k11)) (cc (fun _ => (@ev48 (0) (0) (1) k9)) (cc (fun _ => (@ev48 (0) (0) (1) k9)) (cc (fun _ => (@ev22 (false) (false) (false) (false) (false) (false) (false) (false) (false) (false) (false) (false) (Sp.qi 0) (Sp.qi 0) (Sp.qi 1) (Sp.qi 0) (Sp.qi 0) (Sp.qi 1) k12)) (cc (fun hc => ((@ev50 (2) (1) (k14 ((i_at (i_at (i_bt i_eq))).1 hc))):Ev M1 (Conf.pure 50 [vi 2,vi 1]) (zNmI3) [])) (cc (fun hc => ((k16 ((i_at (i_at (i_bt i_eq))).1 hc)):Ev M1 (Conf.pure 49 [AV.vec false 20 (List.map Pnt.a zNmI4),AV.vec true 20 [zNmI3]]) (vb b1) [])) (cc (fun hc => ((@ev50 (-1) (1) (k18 ((i_at (i_at (i_bt (ZaK i_eq (ZaE _))))).1 hc))):Ev M1 (Conf.pure 50 [vi (-1),vi 1]) (zNmI2) [])) (cc (fun hc => ((@ev50 (1) (1) (k20 ((i_at (i_at (i_bt (ZaK i_eq (ZaE _))))).1 hc))):Ev M1 (Conf.pure 50 [vi 1,vi 1]) (Zg8) [])) (cc (fun hc => ((k22 ((i_at (i_at (i_bt (ZaK i_eq (ZaE _))))).1 hc)):Ev M1 (Conf.pure 49 [AV.vec false 20 (List.map Pnt.a zNmI6),AV.vec true 20 [zNmI2,Zg8]]) (vb b2) [])) (cc (fun hc => ((@ev50 (1) (1) (k24 ((i_at (i_at (i_bt (ZaK (ZaK i_eq (ZaE _)) (ZaE _))))).1 hc))):Ev M1 (Conf.pure 50 [vi 1,vi 1]) (Zg8) [])) (cc (fun hc => ((k26 ((i_at (i_at (i_bt (ZaK (ZaK i_eq (ZaE _)) (ZaE _))))).1 hc)):Ev M1 (Conf.pure 49 [AV.vec false 20 (List.map Pnt.a zNmI7),AV.vec true 20 [Zg8]]) (vb b3) [])) (cc (fun hc => ((@ev47 (1) (1) (2) k7):Ev M1 (Conf.pure 47 [vi 1,vi 1,vi 2]) (ZaH (Sp.qi 1) (Sp.qi 1) (Sp.qi 2)) [])) (cc (fun hc => ((@ev48 (0) (0) (2) k5):Ev M1 (Conf.pure 48 [vi 0,vi 0,vi 2]) (ZaH (Sp.qi 0) (Sp.qi 0) (Sp.qi 2)) [])) (cc (fun hc => ((@ev19 (false) (false) (false) (false) (false) (false) (false) (false) (false) (false) (false) (false) (Sp.qi 1) (Sp.qi 1) (Sp.qi 2) (Sp.qi 0) (Sp.qi 0) (Sp.qi 2) k8):Ev M1 (Conf.pure 19 [ZaH (Sp.qi 1) (Sp.qi 1) (Sp.qi 2),ZaH (Sp.qi 0) (Sp.qi 0) (Sp.qi 2)]) (vb (decide zNmI5)) [])) c0))))))))))))))))))))))))) (by (try rw [w27]);all_goals exact H)
end Go.Av

namespace Go.Av
open Go.Proofs
theorem okT_sm {n:Int} (h:n.natAbs < 1000000000):Sp.okT 1 (Sp.qi n):=by
 rw [ZfC]
 have e:(1000000000:Nat) ^ 1 = 1000000000:=rfl
 refine ⟨?_,?_⟩
 ·rw [Rat.num_intCast]
  refine Zaw.1 ?_
  unfold Sp.fits;omega
 ·rw [Rat.den_intCast]
  refine Zaw.1 ?_
  unfold Sp.fits;omega
theorem Zgb {n:Int} (h:n.natAbs<1000000000):Sp.okT 30 (Sp.qi n):=Zan (okT_sm h) (by omega)
theorem sm_2 {n:Int} (h:n.natAbs<1000000000):Sp.okT 2 (Sp.qi n):=Zan (okT_sm h) (by omega)
theorem okP5_at {x y:Rat} {k:Nat} (hx:Sp.okT k x) (hy:Sp.okT k y) (hk:k<=2200):Sp.Ze4 (Sp.atP x y):=⟨⟨Zan hx hk,Zan ZbC (by omega)⟩,⟨Zan hy hk,Zan ZbC (by omega)⟩,Zan ZbC (by omega)⟩
def Sp.okP4 (p:Pnt):Prop:=(Sp.okT 2100 p.ax/\Sp.okT 200 p.bx)/\(Sp.okT 2100 p.ay/\Sp.okT 200 p.by_)/\Sp.okT 1700 p.c
theorem okP5_4 {p:Pnt} (h:Sp.okP4 p):Sp.Ze4 p:=⟨⟨Zan h.1.1 (by omega),h.1.2⟩,⟨Zan h.2.1.1 (by omega),h.2.1.2⟩,h.2.2⟩
theorem okP4_at {x y:Rat} (hx:Sp.okT 350 x) (hy:Sp.okT 350 y):Sp.okP4 (Sp.atP x y):=⟨⟨Zan hx (by omega),Zan ZbC (by omega)⟩,⟨Zan hy (by omega),Zan ZbC (by omega)⟩,Zan ZbC (by omega)⟩
theorem ZeN {x u y v k:Rat} (h:Sp.okSr x u y v k):Sp.okP4 (Sp.Zbj x u y v k):=by
 obtain ⟨⟨h1,h2⟩,⟨h3,h4⟩,h5,h6⟩:=h
 by_cases s:Sp.rsq k
 ·rw [show Sp.Zbj x u y v k = Sp.atP (x + u * Sp.rt k) (y + v * Sp.rt k) from if_pos s]
  have a1:=ZaG h1 (Zag h2 (ZdM s h5))
  have a2:=ZaG h3 (Zag h4 (ZdM s h5))
  exact ⟨⟨Zan a1 (by omega),Zan ZbC (by omega)⟩,⟨Zan a2 (by omega),Zan ZbC (by omega)⟩,Zan ZbC (by omega)⟩
 ·rw [show Sp.Zbj x u y v k = ⟨x,u,y,v,if u = 0 /\ v = 0 then Sp.qi 0 else k⟩ from if_neg s]
  refine ⟨⟨Zan h1 (by omega),Zan h2 (by omega)⟩,⟨Zan h3 (by omega),Zan h4 (by omega)⟩,?_⟩
  show Sp.okT 1700 (if u = 0 /\ v = 0 then Sp.qi 0 else k)
  split
  ·exact Zan ZbC (by omega)
  ·exact h5
theorem okT_d {a b c:Rat} (h:Sp.ZfD a b c):Sp.okT 30 (Sp.dU a b) /\ Sp.okT 30 (Sp.dV a b):=by
 obtain ⟨⟨ha,hb,hc⟩,_⟩:=h
 unfold Sp.dU Sp.dV
 cases Sp.dn a b with
 | true => exact ⟨Zbh hb,Zbh (Zbh ha)⟩
 | false => exact ⟨hb,Zbh ha⟩
theorem lineC_ok {a b c x y q:Rat} (h:Sp.ZfD a b c) (hv:Sp.Zdx x y) (hq:Sp.okT 30 q):(∀ p ∈ Sp.Zbu a b c x y q,Sp.okP4 p) /\ (Sp.Zbu a b c x y q).length <= 2:=by
 have hf:=okT_f h hv
 have hd:=okT_dep h hv hq
 have du:=okT_d h
 rcases tri (Sp.dep a b c x y q) with k | k | k
 ·rw [lineC_0 k];exact ⟨fun p hp => (nomatch hp),by simp⟩
 ·rw [lineC_1 k]
  exact ⟨fun p hp => by rw [List.mem_singleton.1 hp];exact okP4_at hf.1 hf.2,by simp⟩
 ·rw [ZgD k]
  refine ⟨fun p hp => ?_,by simp⟩
  simp only [List.mem_cons,List.not_mem_nil,or_false] at hp
  rcases hp with rfl | rfl
  ·exact ZeN ⟨⟨hf.1,Zbh du.1⟩,⟨hf.2,Zbh du.2⟩,hd,k⟩
  ·exact ZeN ⟨⟨hf.1,du.1⟩,⟨hf.2,du.2⟩,hd,k⟩
theorem lineR_ok {a b c x y q:Rat} (h:Sp.ZfD a b c) (hv:Sp.Zdx x y) (hq:Sp.okT 30 q):(∀ p ∈ Sp.Zce a b c x y q,Sp.Ze4 p) /\ (Sp.Zce a b c x y q).length <= 2:=by
 have hf:=okT_f h hv
 have r1:=okP5_rP h hv hq true
 have r2:=okP5_rP h hv hq false
 rcases tri (Sp.Zb7 a b c x y q) with k | k | k
 ·rw [lineR_0 k];exact ⟨fun p hp => (nomatch hp),by simp⟩
 ·rw [lineR_1 k]
  exact ⟨fun p hp => by rw [List.mem_singleton.1 hp];exact okP5_at hf.1 hf.2 (by omega),by simp⟩
 ·rw [lineR_2 k]
  split
  ·refine ⟨fun p hp => ?_,by simp⟩
   simp only [List.mem_cons,List.not_mem_nil,or_false] at hp
   rcases hp with rfl | rfl
   ·exact r2
   ·exact r1
  ·refine ⟨fun p hp => ?_,by simp⟩
   simp only [List.mem_cons,List.not_mem_nil,or_false] at hp
   rcases hp with rfl | rfl
   ·exact r1
   ·exact r2
theorem pl_C {a b c x y q:Rat} (h:Sp.ZfD a b c) (hv:Sp.Zdx x y) (hq:Sp.okT 30 q):Sp.Zg6 (Sp.Zbu a b c x y q):=⟨fun p hp=>okP5_4 ((lineC_ok h hv hq).1 p hp),by have:=(lineC_ok h hv hq).2;omega⟩
theorem pl_R {a b c x y q:Rat} (h:Sp.ZfD a b c) (hv:Sp.Zdx x y) (hq:Sp.okT 30 q):Sp.Zg6 (Sp.Zce a b c x y q):=⟨(lineR_ok h hv hq).1,by have:=(lineR_ok h hv hq).2;omega⟩
theorem ZeZ:∀ {l m:List Pnt},Sp.sameL l m -> Sp.eqL l m = true
 | [],[],_ => rfl
 | p :: l,q :: m,h => by rw [eqL_cons,decide_eq_true (cmpP_same h.1)];exact ZeZ h.2
theorem goodL_of {l:List Pnt} (h:∀ p ∈ l,Sp.Zb3 p):Sp.Zfi l=true:=List.all_eq_true.2 fun p hp=>vP_true.2 (h p hp)
theorem qz:Sp.qi 0=0:=qi_z
theorem q_1:Sp.qi 1=1:=by rw [ZfC];rfl
theorem q_2:Sp.qi 2=2:=by rw [ZfC];rfl
theorem q_3:Sp.qi 3=3:=by rw [ZfC];rfl
theorem q_m:Sp.qi (-1) = -1:=by rw [ZfC];rfl
theorem ex_lin:Sp.Zeu 1 1 3 1 (-1) 1 = 0 /\ Sp.linL 1 1 3 1 (-1) 1 = [Sp.atP 2 1]:=by
 have n:¬(1:Rat) * -1 - 1 * 1 = 0:=by decide +kernel
 rw [(lin_2 n).1,(lin_2 n).2]
 exact ⟨rfl,by rw [show ((3:Rat) * -1 - 1 * 1) / (1 * -1 - 1 * 1) = 2 by decide +kernel,show ((1:Rat) * 1 - 1 * 3) / (1 * -1 - 1 * 1) = 1 by decide +kernel]⟩
theorem rsq1:Sp.rsq (1:Rat):=rsq_of (s:=1) (by decide +kernel)
theorem rt1:Sp.rt (1:Rat)=1:=Zf9 (rt_nn rsq1) (by decide +kernel) (by rw [Zhv rsq1];decide +kernel)
theorem ex_lc:Sp.Zbu 0 1 1 0 0 2 = [Sp.atP (-1) 1,Sp.atP 1 1]:=by
 have fx:Sp.fX 0 1 1 0 0 = 0:=by unfold Sp.fX Sp.ZaV Sp.Zaz;decide +kernel
 have fy:Sp.fY 0 1 1 0 0 = 1:=by unfold Sp.fY Sp.ZaV Sp.Zaz;decide +kernel
 have d:Sp.dep 0 1 1 0 0 2 = 1:=by unfold Sp.dep;rw [fx,fy];unfold Sp.Zaz;decide +kernel
 have e:Sp.dn 0 1 = false:=decide_eq_false (by decide +kernel)
 rw [ZgD (by rw [d];decide +kernel),fx,fy,d]
 unfold Sp.dU Sp.dV Sp.Zbj
 rw [e,cond_false,cond_false,if_pos rsq1,if_pos rsq1,rt1,show (0:Rat) + -1 * 1 = -1 by decide +kernel,show (1:Rat) + - -0 * 1 = 1 by decide +kernel,show (0:Rat) + 1 * 1 = 1 by decide +kernel,show (1:Rat) + -0 * 1 = 1 by decide +kernel]
theorem ex_dep:Sp.dep 1 1 2 0 0 2 = 0 /\ Sp.Zbu 1 1 2 0 0 2 = [Sp.atP 1 1]:=by
 have fx:Sp.fX 1 1 2 0 0 = 1:=by unfold Sp.fX Sp.ZaV Sp.Zaz;decide +kernel
 have fy:Sp.fY 1 1 2 0 0 = 1:=by unfold Sp.fY Sp.ZaV Sp.Zaz;decide +kernel
 have d:Sp.dep 1 1 2 0 0 2 = 0:=by unfold Sp.dep;rw [fx,fy];unfold Sp.Zaz;decide +kernel
 exact ⟨d,by rw [lineC_1 d,fx,fy]⟩
theorem ex_cir:Sp.Zej 0 0 1 1 0 1 = 0 /\ (Sp.Zhh 0 0 1 1 0 1).length = 2 /\ Sp.Zej 0 0 1 0 0 1 = 10:=by
 have n:¬((0:Rat) = 1 /\ (0:Rat) = 0):=by decide +kernel
 refine ⟨by unfold Sp.Zej;rw [if_neg n],?_,by unfold Sp.Zej;rw [if_pos ⟨rfl,rfl⟩,if_pos rfl]⟩
 unfold Sp.Zhh
 rw [if_neg n,ZgD ?_]
 ·rfl
 ·unfold Sp.rdA Sp.rdC Sp.dep Sp.fX Sp.fY Sp.ZaV Sp.Zaz
  rw [q_2]
  decide +kernel
theorem ev11:Ev M1 (.pure 11 []) (.bool true) []:=by
 have I:∀ n:Int,n.natAbs < 1000000000 -> Sp.inI n:=fun n h => by unfold Sp.inI;omega
 have l1:Sp.ZfD (Sp.qi 0) (Sp.qi 1) (Sp.qi 1):=⟨⟨Zgb (by decide),Zgb (by decide),Zgb (by decide)⟩,.inr qi1_ne⟩
 have l2:Sp.ZfD (Sp.qi 1) (Sp.qi 1) (Sp.qi 2):=⟨⟨Zgb (by decide),Zgb (by decide),Zgb (by decide)⟩,.inl qi1_ne⟩
 have v0:Sp.Zdx (Sp.qi 0) (Sp.qi 0):=⟨Zgb (by decide),Zgb (by decide)⟩
 have t2:Sp.okT 30 (Sp.qi 2):=Zgb (by decide)
 have i1:Sp.okI2 (Sp.qi 0) (Sp.qi 0) (Sp.qi 1):=⟨sm_2 (by decide),sm_2 (by decide),sm_2 (by decide)⟩
 have i2:Sp.okI2 (Sp.qi 1) (Sp.qi 0) (Sp.qi 1):=⟨sm_2 (by decide),sm_2 (by decide),sm_2 (by decide)⟩
 have a1:Sp.okI2 (Sp.qi 1) (Sp.qi 1) (Sp.qi 3):=⟨sm_2 (by decide),sm_2 (by decide),sm_2 (by decide)⟩
 have a2:Sp.okI2 (Sp.qi 1) (Sp.qi (-1)) (Sp.qi 1):=⟨sm_2 (by decide),sm_2 (by decide),sm_2 (by decide)⟩
 have P:∀ m n:Int,m.natAbs < 1000000000 -> n.natAbs < 1000000000 -> Sp.Ze4 (Sp.atP (Sp.qi m) (Sp.qi n)):=fun m n h k => okP5_at (okT_sm h) (okT_sm k) (by omega)
 have E:∀ {l m:List Pnt} (v:Bool),l = m -> Sp.Zg6 m -> Ev M1 (.pure 49 [.vec false 20 (l.map Pnt.a),.vec v 20 (m.map Pnt.a)]) (.bool (Sp.eqL l m)) []:=fun v e h => ev49 false v _ _ ⟨by rw [e];exact h,h⟩
 have V:∀ x y:Rat,Sp.Zb3 (Sp.atP x y):=at_valid
 have e1:Sp.linL (Sp.qi 1) (Sp.qi 1) (Sp.qi 3) (Sp.qi 1) (Sp.qi (-1)) (Sp.qi 1) = [Sp.atP (Sp.qi 2) (Sp.qi 1)]:=by rw [q_1,q_2,q_3,q_m];exact ex_lin.2
 have e2:Sp.Zbu (Sp.qi 0) (Sp.qi 1) (Sp.qi 1) (Sp.qi 0) (Sp.qi 0) (Sp.qi 2) = [Sp.atP (Sp.qi (-1)) (Sp.qi 1),Sp.atP (Sp.qi 1) (Sp.qi 1)]:=by rw [q_1,q_2,q_m,qz];exact ex_lc
 have e3:Sp.Zbu (Sp.qi 1) (Sp.qi 1) (Sp.qi 2) (Sp.qi 0) (Sp.qi 0) (Sp.qi 2) = [Sp.atP (Sp.qi 1) (Sp.qi 1)]:=by rw [q_1,q_2,qz];exact ex_dep.2
 have k1:=E true e1 ⟨fun p hp => by rw [List.mem_singleton.1 hp];exact P _ _ (by decide) (by decide),by decide⟩
 have k2:=E true e2 ⟨fun p hp => by simp only [List.mem_cons,List.not_mem_nil,or_false] at hp;rcases hp with rfl | rfl <;> exact P _ _ (by decide) (by decide),by decide⟩
 have k3:=E true e3 ⟨fun p hp => by rw [List.mem_singleton.1 hp];exact P _ _ (by decide) (by decide),by decide⟩
 rw [e1,show Sp.eqL [Sp.atP (Sp.qi 2) (Sp.qi 1)] [Sp.atP (Sp.qi 2) (Sp.qi 1)] = true from ZeZ ⟨Zfn _ _,trivial⟩] at k1
 rw [e2,show Sp.eqL [Sp.atP (Sp.qi (-1)) (Sp.qi 1),Sp.atP (Sp.qi 1) (Sp.qi 1)] [Sp.atP (Sp.qi (-1)) (Sp.qi 1),Sp.atP (Sp.qi 1) (Sp.qi 1)] = true from ZeZ ⟨Zfn _ _,Zfn _ _,trivial⟩] at k2
 rw [e3,show Sp.eqL [Sp.atP (Sp.qi 1) (Sp.qi 1)] [Sp.atP (Sp.qi 1) (Sp.qi 1)] = true from ZeZ ⟨Zfn _ _,trivial⟩] at k3
 rw [<- e1] at k1
 rw [<- e2] at k2
 rw [<- e3] at k3
 have m (n:Int) (h:n.natAbs < 1000000000:=by decide):Sp.inI n:=I n h
 refine call11 (wAwake _ ⟨⟨m 1,m 1,m 3⟩,⟨m 1,m (-1),m 1⟩,⟨Zgt a1,Zgt a2⟩,⟨m 0,m 1,m 1⟩,⟨m 0,m 0,m 2⟩,⟨l1,v0,t2⟩,⟨m 1,m 1,m 2⟩,⟨l2,v0,t2⟩,⟨m 0,m 0,m 1⟩,⟨m 1,m 0,m 1⟩,⟨i1,i2⟩,⟨i1,i1⟩,fun _ => ⟨m 2,m 1⟩,true,fun _ => ?_,fun _ => ⟨m (-1),m 1⟩,fun _ => ⟨m 1,m 1⟩,true,fun _ => ?_,fun _ => ⟨m 1,m 1⟩,true,fun _ => ?_,?_⟩)
 ·rw [e1] at k1 ⊢;exact k1
 ·rw [e2] at k2 ⊢;exact k2
 ·rw [e3] at k3 ⊢;exact k3
 ·rw [q_1,q_2,q_3,q_m,qz,ex_lin.1,ex_cir.1,ex_cir.2.1,ex_cir.2.2,decide_eq_true ex_dep.1]
  rfl
namespace Sp
end Sp
theorem vn_I2 {a b c:Rat} (h:Sp.okI2 a b c):Sp.Zdx a b:=⟨(Zgt h).1,(Zgt h).2.1⟩
end Go.Av

namespace Go.Av
open Go.Proofs
set_option maxRecDepth 100000
end Go.Av

namespace Go.Av
open Go.Proofs
theorem sm_true {l m:List Pnt} {e:Int} (h:Sp.sameL l m /\ ∀ p ∈ l,Sp.Zb3 p):Sp.smB l e m e = true:=by
 unfold Sp.smB
 rw [beq_self_eq_true,cond_true,goodL_of h.2,cond_true,ZeZ h.1]
end Go.Av

namespace Go.Av
open Go.Proofs
theorem ev15_b (u v:Bool) (a1 a2 a3 a4 a5 b1 b2 b3 b4 b5 c1 c2 c3 c4 c5 d1 d2 d3 d4 d5:Rat) (e f:Int) (h:Sp.Zg6 [⟨a1,a2,a3,a4,a5⟩,⟨b1,b2,b3,b4,b5⟩] /\ Sp.Zg6 [⟨c1,c2,c3,c4,c5⟩,⟨d1,d2,d3,d4,d5⟩]):Ev M1 (.pure 15 [.vec u 20 [pntF a1 a2 a3 a4 a5,pntF b1 b2 b3 b4 b5],.int .i64 e,.vec v 20 [pntF c1 c2 c3 c4 c5,pntF d1 d2 d3 d4 d5],.int .i64 f]) (.bool (Sp.smB [⟨a1,a2,a3,a4,a5⟩,⟨b1,b2,b3,b4,b5⟩] e [⟨c1,c2,c3,c4,c5⟩,⟨d1,d2,d3,d4,d5⟩] f)) []:=
 ev15 u v _ _ e f h
theorem okP5_rd2 {x u y v k:Rat} (h:Sp.okSr x u y v k):Sp.Ze4 (Sp.red x u y v k):=by
 obtain ⟨⟨h1,h2⟩,⟨h3,h4⟩,h5,h6⟩:=h
 unfold Sp.red
 by_cases s:Sp.rsq k
 ·rw [if_pos s]
  have a1:=ZaG h1 (Zag h2 (ZdM s h5))
  have a2:=ZaG h3 (Zag h4 (ZdM s h5))
  exact ⟨⟨Zan a1 (by omega),Zan ZbC (by omega)⟩,⟨Zan a2 (by omega),Zan ZbC (by omega)⟩,Zan ZbC (by omega)⟩
 ·rw [if_neg s]
  exact ⟨⟨Zan h1 (by omega),Zan h2 (by omega)⟩,⟨Zan h3 (by omega),Zan h4 (by omega)⟩,h5⟩
theorem ext_same {x y q:Rat} (hq:0 < q):Sp.sameL [Sp.Zbj x (-Sp.qi 1) y (Sp.qi 0) q,Sp.Zbj x (Sp.qi 1) y (Sp.qi 0) q] [Sp.red x (-Sp.qi 1) y (Sp.qi 0) q,Sp.red x (Sp.qi 1) y (Sp.qi 0) q] /\ ∀ p ∈ [Sp.Zbj x (-Sp.qi 1) y (Sp.qi 0) q,Sp.Zbj x (Sp.qi 1) y (Sp.qi 0) q],Sp.Zb3 p:=by
 have s (w t:Rat):Sp.sameP (Sp.Zbj x w y t q) (Sp.red x w y t q):=by
  have:=surd_red (x:=x) (y:=y) (u:=w) (v:=t) (w:=w) (t:=t) (k:=q) (n:=1) (by decide +kernel) hq (by grind) (by grind)
  rwa [show q * (1 * 1:Rat) = q by grind] at this
 refine ⟨⟨s _ _,s _ _,trivial⟩,fun p hp => ?_⟩
 simp only [List.mem_cons,List.not_mem_nil,or_false] at hp
 rcases hp with rfl | rfl <;> exact Zhr hq
theorem ext_ok {x y q:Rat} (h:Sp.okI2 x y q) (hq:0 < q):Sp.Zg6 [Sp.Zbj x (-Sp.qi 1) y (Sp.qi 0) q,Sp.Zbj x (Sp.qi 1) y (Sp.qi 0) q] /\ Sp.Zg6 [Sp.red x (-Sp.qi 1) y (Sp.qi 0) q,Sp.red x (Sp.qi 1) y (Sp.qi 0) q]:=by
 have r1:Sp.okT 30 (Sp.qi 1):=Zgb (by decide)
 have r0:Sp.okT 30 (Sp.qi 0):=Zgb (by decide)
 have k (u:Rat) (hu:Sp.okT 30 u):Sp.okSr x u y (Sp.qi 0) q:=⟨⟨Zan h.1 (by omega),hu⟩,⟨Zan h.2.1 (by omega),r0⟩,Zan h.2.2 (by omega),hq⟩
 have k1:=k _ (Zbh r1)
 have k2:=k _ r1
 refine ⟨⟨fun p hp => ?_,by simp⟩,⟨fun p hp => ?_,by simp⟩⟩
 ·simp only [List.mem_cons,List.not_mem_nil,or_false] at hp
  rcases hp with rfl | rfl
  ·exact okP5_4 (ZeN k1)
  ·exact okP5_4 (ZeN k2)
 ·simp only [List.mem_cons,List.not_mem_nil,or_false] at hp
  rcases hp with rfl | rfl
  ·exact okP5_rd2 k1
  ·exact okP5_rd2 k2
end Go.Av

namespace Go.Av
open Go.Proofs
set_option maxRecDepth 100000
def fi8:Fi:=⟨48,[.tmp 4]⟩
def kp8:List (Nat × List Nat):=[(0,[2,3]),(1,[2,3,20]),(2,[4]),(3,[2,3,5,6]),(4,[2,3,5,6,7,8]),(5,[4])]
def lwExt_at (a b c z:Rat) (Q:AV->Heap->Prop):Prop:=Wp M1 (.run fi8 (atC (cd Tryz.f8) []) [(0,Zas false false false false false false a b c),(1,ratF z)] []) Q
def lwExtR_at (s1 t1 f1 g1 s2 t2 f2 g2 s3 t3 f3 g3 s4 t4 f4 g4:Bool) (x1 y1 x2 y2 x3 y3 x4 y4:List Int) (Q:AV->Heap->Prop):Prop:=Wp M1 (.run fi8 (atC (cd Tryz.f8) []) [(0,.agg [.bool s1,.vec f1 1 (x1.map (.int .u32)),.bool t1,.vec g1 1 (y1.map (.int .u32)),.bool s2,.vec f2 1 (x2.map (.int .u32)),.bool t2,.vec g2 1 (y2.map (.int .u32)),.bool s3,.vec f3 1 (x3.map (.int .u32)),.bool t3,.vec g3 1 (y3.map (.int .u32))]),(1,.agg [.bool s4,.vec f4 1 (x4.map (.int .u32)),.bool t4,.vec g4 1 (y4.map (.int .u32))])] []) Q
theorem call8 {args:List AV} {d:AV} (h:wc M1 fi8 Tryz.f8 args d):Ev M1 (.pure 8 args) d []:=pcl _ _ (by kernel_rfl) h
noncomputable abbrev zNmL1 (a:Rat) (b:Rat) (c:Rat):=tu [(Pnt.a (Sp.Zbj a (-Sp.qi 1) b (Sp.qi 0) c)),(Pnt.a (Sp.Zbj a (Sp.qi 1) b (Sp.qi 0) c))]
noncomputable abbrev zNmL2 (a:Rat) (b:Rat) (c:Rat):=tu [(Pnt.a (Sp.red a (-Sp.qi 1) b (Sp.qi 0) c)),(Pnt.a (Sp.red a (Sp.qi 1) b (Sp.qi 0) c))]
noncomputable abbrev zNmL3 (a:Rat) (b:Rat) (c:Rat) (z:Rat):=bif !Sp.circBQ a b c then true else !Sp.ZbX 2 (Sp.Zaa z.num) (Sp.Zad z.num) (Sp.Zaa (↑z.den:Int)) (Sp.Zad (↑z.den:Int))
noncomputable abbrev zNmL4 (a:Rat) (b:Rat) (c:Rat):=Sp.circBQ a b c
noncomputable abbrev zNmL5 (z:Rat):=Sp.ZbX 2 (Sp.Zaa z.num) (Sp.Zad z.num) (Sp.Zaa (↑z.den:Int)) (Sp.Zad (↑z.den:Int))
noncomputable abbrev zNmL6 (z:Rat) (a:Rat) (b:Rat) (c:Rat):=Sp.smB (Sp.Zbu (Sp.qi 1) (Sp.qi 0) z a b c) 0 (Sp.Zce (Sp.qi 1) (Sp.qi 0) z a b c) 0
theorem lwExt (a b c z:Rat)  (dq:AV) (H :
  (Sp.okRw (Sp.Zad a.num) (Sp.Zad (↑a.den:Int)) (Sp.Zad b.num) (Sp.Zad (↑b.den:Int)) (Sp.Zad c.num) (Sp.Zad (↑c.den:Int))) /\
  ((¬(¬(Sp.circBQ a b c = true))) -> (Sp.okU 2 (Sp.Zad z.num) (Sp.Zad (↑z.den:Int)))) /\
  (((¬(Sp.circBQ a b c = true)) \/ (¬(Sp.ZbX 2 (Sp.Zaa z.num) (Sp.Zad z.num) (Sp.Zaa (↑z.den:Int)) (Sp.Zad (↑z.den:Int)) = true))) -> vb true = dq) /\
  (¬((¬(Sp.circBQ a b c = true)) \/ (¬(Sp.ZbX 2 (Sp.Zaa z.num) (Sp.Zad z.num) (Sp.Zaa (↑z.den:Int)) (Sp.Zad (↑z.den:Int)) = true))) -> (Sp.Zdx a b /\ Sp.okT 30 c /\ 0 < c) /\
   (Sp.Zg6 [(Sp.Zbj a (-Sp.qi 1) b (Sp.qi 0) c),(Sp.Zbj a (Sp.qi 1) b (Sp.qi 0) c)] /\ Sp.Zg6 [(Sp.red a (-Sp.qi 1) b (Sp.qi 0) c),(Sp.red a (Sp.qi 1) b (Sp.qi 0) c)]) /\
   ((Sp.smB [(Sp.Zbj a (-Sp.qi 1) b (Sp.qi 0) c),(Sp.Zbj a (Sp.qi 1) b (Sp.qi 0) c)] 0 [(Sp.red a (-Sp.qi 1) b (Sp.qi 0) c),(Sp.red a (Sp.qi 1) b (Sp.qi 0) c)] 0 = true) -> (Sp.Zdx a b /\ Sp.okT 30 c /\ Sp.okT 30 z)) /\
   ((Sp.smB [(Sp.Zbj a (-Sp.qi 1) b (Sp.qi 0) c),(Sp.Zbj a (Sp.qi 1) b (Sp.qi 0) c)] 0 [(Sp.red a (-Sp.qi 1) b (Sp.qi 0) c),(Sp.red a (Sp.qi 1) b (Sp.qi 0) c)] 0 = true) -> (Sp.Zg6 (Sp.Zbu (Sp.qi 1) (Sp.qi 0) z a b c) /\ Sp.Zg6 (Sp.Zce (Sp.qi 1) (Sp.qi 0) z a b c))) /\
   vb (bif Sp.smB [(Sp.Zbj a (-Sp.qi 1) b (Sp.qi 0) c),(Sp.Zbj a (Sp.qi 1) b (Sp.qi 0) c)] 0 [(Sp.red a (-Sp.qi 1) b (Sp.qi 0) c),(Sp.red a (Sp.qi 1) b (Sp.qi 0) c)] 0 then Sp.smB (Sp.Zbu (Sp.qi 1) (Sp.qi 0) z a b c) 0 (Sp.Zce (Sp.qi 1) (Sp.qi 0) z a b c) 0 else false) = dq)) :
 lwExt_at a b c z (Zaf dq):=by
 unfold lwExt_at
 obtain ⟨k1,k3,H⟩:=H
 refine Zae (G:=Zac kp8 [(1,0,.call (vb true) none),(1,4,.call (vb (zNmL4 a b c)) none),(1,9,.call (vb (zNmL5 z)) none)] []) 5 [] ⟨(atC (cd Tryz.f8) [1,0,1]),[(2,AV.ptr 0 0 0 0),(3,AV.ptr 1 0 0 0),(20,vb (zNmL3 a b c z))],[⟨[ZaH a b c],12,0,false,false⟩,⟨[ratF z],4,0,false,false⟩],[true,!((!Sp.circBQ a b c) == false && true) || true],[],[⟨true,false,11,[],[],vb true,[]⟩,⟨true,false,16,[ZaH a b c],[],vb (zNmL4 a b c),[]⟩,⟨(!Sp.circBQ a b c) == false && true && true,false,24,[ratF z,vi 2],[],vb (zNmL5 z),[]⟩]⟩ (by kernel_rfl) (bc rfl (bc (Bool.or_true _) b0)) q0 (cc (fun _ => (@ev11 )) (cc (fun _ => (@ev16 (Sp.Zaa a.num) (Sp.Zaa (↑a.den:Int)) (false) (false) (Sp.Zaa b.num) (Sp.Zaa (↑b.den:Int)) (false) (false) (Sp.Zaa c.num) (Sp.Zaa (↑c.den:Int)) (false) (false) (Sp.Zad a.num) (Sp.Zad (↑a.den:Int)) (Sp.Zad b.num) (Sp.Zad (↑b.den:Int)) (Sp.Zad c.num) (Sp.Zad (↑c.den:Int)) k1)) (cc (fun hc => ((@ev24 (Sp.Zaa z.num) (false) (Sp.Zaa (↑z.den:Int)) (false) (Sp.Zad z.num) (Sp.Zad (↑z.den:Int)) (2) (k3 ((i_at (i_at (i_bf (Za3 (ZaE _))))).1 hc))):Ev M1 (Conf.pure 24 [ratF z,vi 2]) (vb (zNmL5 z)) [])) c0))) ?_
 rcases xq H with ⟨d5,H⟩|⟨d5,H⟩
 ·exact Zaq (G:=Zac kp8 [(2,0,.call (vb true) none)] []) 1000 [true] (asm:=[(zNmL3 a b c z) == true]) (vb true) (by kernel_rfl) (bc (Zar ((Zbm (Za3 (ZaE _)) (Za3 (ZaE _))).2 d5)) b0) q0 (ce (@ev11 ) c0) H
 ·obtain ⟨k6,k7,k9,k12,H⟩:=H
  exact Zaq (G:=Zac kp8 [(3,1,.call ((zNmL1 a b c)) none),(4,1,.call ((zNmL2 a b c)) none),(5,6,.call (vb (Sp.smB [(Sp.Zbj a (-Sp.qi 1) b (Sp.qi 0) c),(Sp.Zbj a (Sp.qi 1) b (Sp.qi 0) c)] 0 [(Sp.red a (-Sp.qi 1) b (Sp.qi 0) c),(Sp.red a (Sp.qi 1) b (Sp.qi 0) c)] 0)) none),(5,10,.call (AV.vec false 20 (List.map Pnt.a (Sp.Zbu (Sp.qi 1) (Sp.qi 0) z a b c))) none),(5,13,.call (AV.vec false 20 (List.map Pnt.a (Sp.Zce (Sp.qi 1) (Sp.qi 0) z a b c))) none),(5,14,.call (vb (zNmL6 z a b c)) none)] []) 1000 [false] (asm:=[(zNmL3 a b c z) == false,true,true,true,true,true,true,true,true,true,true,!(Sp.smB [(Sp.Zbj a (-Sp.qi 1) b (Sp.qi 0) c),(Sp.Zbj a (Sp.qi 1) b (Sp.qi 0) c)] 0 [(Sp.red a (-Sp.qi 1) b (Sp.qi 0) c),(Sp.red a (Sp.qi 1) b (Sp.qi 0) c)] 0 == true && true) || true,!(Sp.smB [(Sp.Zbj a (-Sp.qi 1) b (Sp.qi 0) c),(Sp.Zbj a (Sp.qi 1) b (Sp.qi 0) c)] 0 [(Sp.red a (-Sp.qi 1) b (Sp.qi 0) c),(Sp.red a (Sp.qi 1) b (Sp.qi 0) c)] 0 == true && true) || true,!(Sp.smB [(Sp.Zbj a (-Sp.qi 1) b (Sp.qi 0) c),(Sp.Zbj a (Sp.qi 1) b (Sp.qi 0) c)] 0 [(Sp.red a (-Sp.qi 1) b (Sp.qi 0) c),(Sp.red a (Sp.qi 1) b (Sp.qi 0) c)] 0 == true && true) || true,!(Sp.smB [(Sp.Zbj a (-Sp.qi 1) b (Sp.qi 0) c),(Sp.Zbj a (Sp.qi 1) b (Sp.qi 0) c)] 0 [(Sp.red a (-Sp.qi 1) b (Sp.qi 0) c),(Sp.red a (Sp.qi 1) b (Sp.qi 0) c)] 0 == true && true) || true]) (calls:=[⟨true,false,39,[ZaH a b c],[],(zNmL1 a b c),[]⟩,⟨true,false,40,[ZaH a b c],[],(zNmL2 a b c),[]⟩,⟨true,false,15,[AV.vec true 20 [(Pnt.a (Sp.Zbj a (-Sp.qi 1) b (Sp.qi 0) c)),(Pnt.a (Sp.Zbj a (Sp.qi 1) b (Sp.qi 0) c))],vi 0,AV.vec true 20 [(Pnt.a (Sp.red a (-Sp.qi 1) b (Sp.qi 0) c)),(Pnt.a (Sp.red a (Sp.qi 1) b (Sp.qi 0) c))],vi 0],[],vb (Sp.smB [(Sp.Zbj a (-Sp.qi 1) b (Sp.qi 0) c),(Sp.Zbj a (Sp.qi 1) b (Sp.qi 0) c)] 0 [(Sp.red a (-Sp.qi 1) b (Sp.qi 0) c),(Sp.red a (Sp.qi 1) b (Sp.qi 0) c)] 0),[]⟩,⟨Sp.smB [(Sp.Zbj a (-Sp.qi 1) b (Sp.qi 0) c),(Sp.Zbj a (Sp.qi 1) b (Sp.qi 0) c)] 0 [(Sp.red a (-Sp.qi 1) b (Sp.qi 0) c),(Sp.red a (Sp.qi 1) b (Sp.qi 0) c)] 0 == true && true && true,false,41,[ZaH a b c,ratF z],[],AV.vec false 20 (List.map Pnt.a (Sp.Zbu (Sp.qi 1) (Sp.qi 0) z a b c)),[]⟩,⟨Sp.smB [(Sp.Zbj a (-Sp.qi 1) b (Sp.qi 0) c),(Sp.Zbj a (Sp.qi 1) b (Sp.qi 0) c)] 0 [(Sp.red a (-Sp.qi 1) b (Sp.qi 0) c),(Sp.red a (Sp.qi 1) b (Sp.qi 0) c)] 0 == true && true && true,false,42,[ZaH a b c,ratF z],[],AV.vec false 20 (List.map Pnt.a (Sp.Zce (Sp.qi 1) (Sp.qi 0) z a b c)),[]⟩,⟨Sp.smB [(Sp.Zbj a (-Sp.qi 1) b (Sp.qi 0) c),(Sp.Zbj a (Sp.qi 1) b (Sp.qi 0) c)] 0 [(Sp.red a (-Sp.qi 1) b (Sp.qi 0) c),(Sp.red a (Sp.qi 1) b (Sp.qi 0) c)] 0 == true && true && true,false,15,[AV.vec false 20 (List.map Pnt.a (Sp.Zbu (Sp.qi 1) (Sp.qi 0) z a b c)),vi 0,AV.vec false 20 (List.map Pnt.a (Sp.Zce (Sp.qi 1) (Sp.qi 0) z a b c)),vi 0],[],vb (zNmL6 z a b c),[]⟩]) (vb (bif Sp.smB [(Sp.Zbj a (-Sp.qi 1) b (Sp.qi 0) c),(Sp.Zbj a (Sp.qi 1) b (Sp.qi 0) c)] 0 [(Sp.red a (-Sp.qi 1) b (Sp.qi 0) c),(Sp.red a (Sp.qi 1) b (Sp.qi 0) c)] 0 then Sp.smB (Sp.Zbu (Sp.qi 1) (Sp.qi 0) z a b c) 0 (Sp.Zce (Sp.qi 1) (Sp.qi 0) z a b c) 0 else false)) (by kernel_rfl) (bc (Zao (fun h => d5 ((Zbm (Za3 (ZaE _)) (Za3 (ZaE _))).1 h))) (bc rfl (bc rfl (bc rfl (bc rfl (bc rfl (bc rfl (bc rfl (bc rfl (bc rfl (bc rfl (bc (Bool.or_true _) (bc (Bool.or_true _) (bc (Bool.or_true _) (bc (Bool.or_true _) b0))))))))))))))) q0 (cc (fun _ => (@ev39 (false) (false) (false) (false) (false) (false) (a) (b) (c) k6)) (cc (fun _ => (@ev40 (false) (false) (false) (false) (false) (false) (a) (b) (c) k6)) (cc (fun _ => (@ev15_b (true) (true) ((Sp.Zbj a (-Sp.qi 1) b (Sp.qi 0) c).ax) ((Sp.Zbj a (-Sp.qi 1) b (Sp.qi 0) c).bx) ((Sp.Zbj a (-Sp.qi 1) b (Sp.qi 0) c).ay) ((Sp.Zbj a (-Sp.qi 1) b (Sp.qi 0) c).by_) ((Sp.Zbj a (-Sp.qi 1) b (Sp.qi 0) c).c) ((Sp.Zbj a (Sp.qi 1) b (Sp.qi 0) c).ax) ((Sp.Zbj a (Sp.qi 1) b (Sp.qi 0) c).bx) ((Sp.Zbj a (Sp.qi 1) b (Sp.qi 0) c).ay) ((Sp.Zbj a (Sp.qi 1) b (Sp.qi 0) c).by_) ((Sp.Zbj a (Sp.qi 1) b (Sp.qi 0) c).c) ((Sp.red a (-Sp.qi 1) b (Sp.qi 0) c).ax) ((Sp.red a (-Sp.qi 1) b (Sp.qi 0) c).bx) ((Sp.red a (-Sp.qi 1) b (Sp.qi 0) c).ay) ((Sp.red a (-Sp.qi 1) b (Sp.qi 0) c).by_) ((Sp.red a (-Sp.qi 1) b (Sp.qi 0) c).c) ((Sp.red a (Sp.qi 1) b (Sp.qi 0) c).ax) ((Sp.red a (Sp.qi 1) b (Sp.qi 0) c).bx) ((Sp.red a (Sp.qi 1) b (Sp.qi 0) c).ay) ((Sp.red a (Sp.qi 1) b (Sp.qi 0) c).by_) ((Sp.red a (Sp.qi 1) b (Sp.qi 0) c).c) (0) (0) k7)) (cc (fun hc => ((@ev41 (false) (false) (false) (false) (false) (false) (false) (false) (a) (b) (c) (z) (k9 ((i_at (i_at (i_bt (ZaE _)))).1 hc))):Ev M1 (Conf.pure 41 [ZaH a b c,ratF z]) (AV.vec false 20 (List.map Pnt.a (Sp.Zbu (Sp.qi 1) (Sp.qi 0) z a b c))) [])) (cc (fun hc => ((@ev42 (false) (false) (false) (false) (false) (false) (false) (false) (a) (b) (c) (z) (k9 ((i_at (i_at (i_bt (ZaE _)))).1 hc))):Ev M1 (Conf.pure 42 [ZaH a b c,ratF z]) (AV.vec false 20 (List.map Pnt.a (Sp.Zce (Sp.qi 1) (Sp.qi 0) z a b c))) [])) (cc (fun hc => ((@ev15 (false) (false) (Sp.Zbu (Sp.qi 1) (Sp.qi 0) z a b c) (Sp.Zce (Sp.qi 1) (Sp.qi 0) z a b c) (0) (0) (k12 ((i_at (i_at (i_bt (ZaE _)))).1 hc))):Ev M1 (Conf.pure 15 [AV.vec false 20 (List.map Pnt.a (Sp.Zbu (Sp.qi 1) (Sp.qi 0) z a b c)),vi 0,AV.vec false 20 (List.map Pnt.a (Sp.Zce (Sp.qi 1) (Sp.qi 0) z a b c)),vi 0]) (vb (zNmL6 z a b c)) [])) c0)))))) H
noncomputable abbrev zNmL7 (s4:Bool) (f4:Bool) (x4:List Int) (t4:Bool) (g4:Bool) (y4:List Int):=ag [vb s4,AV.vec f4 1 (us x4),vb t4,AV.vec g4 1 (us y4)]
theorem lwExtR (s1 t1 f1 g1 s2 t2 f2 g2 s3 t3 f3 g3 s4 t4 f4 g4:Bool) (x1 y1 x2 y2 x3 y3 x4 y4:List Int)  (dq:AV) (H :
  (Sp.okRw x1 y1 x2 y2 x3 y3) /\
  ((¬(¬(Sp.Ze1 s1 t1 s2 t2 s3 t3 x1 y1 x2 y2 x3 y3 = true))) -> (Sp.okU 2 x4 y4)) /\
  (((¬(Sp.Ze1 s1 t1 s2 t2 s3 t3 x1 y1 x2 y2 x3 y3 = true)) \/ (¬(Sp.ZbX 2 s4 x4 t4 y4 = true))) -> vb true = dq) /\
  (¬((¬(Sp.Ze1 s1 t1 s2 t2 s3 t3 x1 y1 x2 y2 x3 y3 = true)) \/ (¬(Sp.ZbX 2 s4 x4 t4 y4 = true))) -> False)) :
 lwExtR_at s1 t1 f1 g1 s2 t2 f2 g2 s3 t3 f3 g3 s4 t4 f4 g4 x1 y1 x2 y2 x3 y3 x4 y4 (Zaf dq):=by
 unfold lwExtR_at
 obtain ⟨k1,k3,H⟩:=H
 refine Zae (G:=Zac kp8 [(1,0,.call (vb true) none),(1,4,.call (vb (Sp.Ze1 s1 t1 s2 t2 s3 t3 x1 y1 x2 y2 x3 y3)) none),(1,9,.call (vb (Sp.ZbX 2 s4 x4 t4 y4)) none)] []) 5 [] ⟨(atC (cd Tryz.f8) [1,0,1]),[(2,AV.ptr 0 0 0 0),(3,AV.ptr 1 0 0 0),(20,vb (bif !Sp.Ze1 s1 t1 s2 t2 s3 t3 x1 y1 x2 y2 x3 y3 then true else !Sp.ZbX 2 s4 x4 t4 y4))],[⟨[ag [vb s1,AV.vec f1 1 (us x1),vb t1,AV.vec g1 1 (us y1),vb s2,AV.vec f2 1 (us x2),vb t2,AV.vec g2 1 (us y2),vb s3,AV.vec f3 1 (us x3),vb t3,AV.vec g3 1 (us y3)]],12,0,false,false⟩,⟨[(zNmL7 s4 f4 x4 t4 g4 y4)],4,0,false,false⟩],[true,!((!Sp.Ze1 s1 t1 s2 t2 s3 t3 x1 y1 x2 y2 x3 y3) == false && true) || true],[],[⟨true,false,11,[],[],vb true,[]⟩,⟨true,false,16,[ag [vb s1,AV.vec f1 1 (us x1),vb t1,AV.vec g1 1 (us y1),vb s2,AV.vec f2 1 (us x2),vb t2,AV.vec g2 1 (us y2),vb s3,AV.vec f3 1 (us x3),vb t3,AV.vec g3 1 (us y3)]],[],vb (Sp.Ze1 s1 t1 s2 t2 s3 t3 x1 y1 x2 y2 x3 y3),[]⟩,⟨(!Sp.Ze1 s1 t1 s2 t2 s3 t3 x1 y1 x2 y2 x3 y3) == false && true && true,false,24,[(zNmL7 s4 f4 x4 t4 g4 y4),vi 2],[],vb (Sp.ZbX 2 s4 x4 t4 y4),[]⟩]⟩ (by kernel_rfl) (bc rfl (bc (Bool.or_true _) b0)) q0 (cc (fun _ => (@ev11 )) (cc (fun _ => (@ev16 (s1) (t1) (f1) (g1) (s2) (t2) (f2) (g2) (s3) (t3) (f3) (g3) (x1) (y1) (x2) (y2) (x3) (y3) k1)) (cc (fun hc => ((@ev24 (s4) (f4) (t4) (g4) (x4) (y4) (2) (k3 ((i_at (i_at (i_bf (Za3 (ZaE _))))).1 hc))):Ev M1 (Conf.pure 24 [(zNmL7 s4 f4 x4 t4 g4 y4),vi 2]) (vb (Sp.ZbX 2 s4 x4 t4 y4)) [])) c0))) ?_
 rcases xq H with ⟨d5,H⟩|⟨d5,H⟩
 ·exact Zaq (G:=Zac kp8 [(2,0,.call (vb true) none)] []) 1000 [true] (asm:=[(bif !Sp.Ze1 s1 t1 s2 t2 s3 t3 x1 y1 x2 y2 x3 y3 then true else !Sp.ZbX 2 s4 x4 t4 y4) == true]) (vb true) (by kernel_rfl) (bc (Zar ((Zbm (Za3 (ZaE _)) (Za3 (ZaE _))).2 d5)) b0) q0 (ce (@ev11 ) c0) H
 ·exact False.elim H
end Go.Av

namespace Go.Av
open Go.Proofs
theorem ev8 (s1 t1 s2 t2 s3 t3 s4 t4:Bool) (x1 y1 x2 y2 x3 y3 x4 y4:List Int) (h1:Sp.okRw x1 y1 x2 y2 x3 y3) (h2:Sp.okU 2 x4 y4):Ev M1 (.pure 8 [.agg [.bool s1,.vec false 1 (x1.map (.int .u32)),.bool t1,.vec false 1 (y1.map (.int .u32)),.bool s2,.vec false 1 (x2.map (.int .u32)),.bool t2,.vec false 1 (y2.map (.int .u32)),.bool s3,.vec false 1 (x3.map (.int .u32)),.bool t3,.vec false 1 (y3.map (.int .u32))],.agg [.bool s4,.vec false 1 (x4.map (.int .u32)),.bool t4,.vec false 1 (y4.map (.int .u32))]]) (.bool true) []:=by
 by_cases k1:Sp.Ze1 s1 t1 s2 t2 s3 t3 x1 y1 x2 y2 x3 y3 = true
 case neg => exact call8 (lwExtR _ _ _ _ _ _ _ _ _ _ _ _ _ _ _ _ _ _ _ _ _ _ _ _ _ ⟨h1,fun _ => h2,fun _ => rfl,fun k => absurd (.inl k1) k⟩)
 by_cases k2:Sp.ZbX 2 s4 x4 t4 y4 = true
 case neg => exact call8 (lwExtR _ _ _ _ _ _ _ _ _ _ _ _ _ _ _ _ _ _ _ _ _ _ _ _ _ ⟨h1,fun _ => h2,fun _ => rfl,fun k => absurd (.inr k2) k⟩)
 obtain ⟨a,b,c,ha,⟨rfl,rfl,rfl,rfl⟩,⟨rfl,rfl,rfl,rfl⟩,rfl,rfl,rfl,rfl⟩:=few3_rat (circB_few k1)
 obtain ⟨z,hz0,rfl,rfl,rfl,rfl⟩:=Zd1 k2
 have hz2:Sp.okT 2 z:=hz0
 have hz:Sp.okT 30 z:=Zan hz2 (by omega)
 have hv:=vn_I2 ha
 have hc:=(Zgt ha).2.2
 have pos:=circB_pos k1
 have s1:=sm_true (e:=0) (ext_same (x:=a) (y:=b) pos)
 have s2:=sm_true (e:=0) (line_same (A:=Sp.qi 1) (B:=Sp.qi 0) (C:=z) (X:=a) (Y:=b) (Q:=c) (.inl qi1_ne))
 refine call8 (lwExt _ _ _ _ _ ⟨h1,fun _ => h2,fun k => (k.elim (fun j => absurd k1 j) fun j => absurd k2 j),fun _ => ⟨⟨hv,hc,pos⟩,ext_ok ha pos,fun _ => ⟨hv,hc,hz⟩,fun _ => ⟨pl_C (ln_1 hz) hv hc,pl_R (ln_1 hz) hv hc⟩,?_⟩⟩)
 exact congrArg AV.bool (show (bif Sp.smB [Sp.Zbj a (-Sp.qi 1) b (Sp.qi 0) c,Sp.Zbj a (Sp.qi 1) b (Sp.qi 0) c] 0 [Sp.red a (-Sp.qi 1) b (Sp.qi 0) c,Sp.red a (Sp.qi 1) b (Sp.qi 0) c] 0 then Sp.smB (Sp.Zbu (Sp.qi 1) (Sp.qi 0) z a b c) 0 (Sp.Zce (Sp.qi 1) (Sp.qi 0) z a b c) 0 else false) = true by rw [s1,cond_true,s2])
end Go.Av
