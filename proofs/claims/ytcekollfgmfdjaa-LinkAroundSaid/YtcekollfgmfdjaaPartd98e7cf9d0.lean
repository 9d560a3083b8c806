/- PART 4 of the texts of a claim, joined by a program: what each part shows stands at its head. -/
import Derived.Test.YtcekollfgmfdjaaPart9256b403fd

namespace Go.Av
open Go.Proofs
set_option maxRecDepth 100000
def fi11:Fi:=⟨92,[.tmp 6,.tmp 7]⟩
def kp11:List (Nat × List Nat):=[(0,[3,4,5]),(1,[3,4,5,14]),(2,[6,7]),(3,[3,4,5,17]),(4,[6,7]),(5,[3,4,5,31]),(6,[6,7]),(7,[3,4,5,8]),(8,[3,4,5,8,44]),(9,[6,7]),(10,[3,4,5,8,47]),(11,[6,7]),(12,[3,5,8,9]),(13,[5,8,9,52,53,54]),(14,[5,8,9,52,53,54,55]),(15,[5,8,9,11,52,53,54]),(16,[5,8,9,52,53,54]),(17,[5,8,9,52,53,54]),(18,[8,9]),(19,[12]),(20,[12,90]),(21,[6,7]),(22,[6,7])]
def fi13:Fi:=⟨95,[.tmp 6]⟩
def kp13:List (Nat × List Nat):=[(0,[0,4,5]),(1,[0,7]),(2,[0,7,8]),(3,[0,7,8,9]),(4,[0,7,8,9,25]),(5,[0,7,8,9]),(6,[0,7,8,9]),(7,[0,7,8,10]),(8,[0,7,8,31]),(9,[0,7,8,10]),(10,[0,7,8,10,11]),(11,[0,7,8,10,11,35]),(12,[0,7,8,10,11]),(13,[0,7,8,10,11,12]),(14,[0,7,8,10,11,12,48]),(15,[0,7,8,10,11,12]),(16,[0,7,8,10,11,12,13]),(17,[0,7,8,10,11,12,13,14]),(18,[0,7,8,10,11,12,14,84]),(19,[0,7,8,10,11,12]),(20,[6])]
def qAr_at (f:Bool) (bs:List Bx) (ax ay bx by_:Int) (Q:AV->Heap->Prop):Prop:=Wp M1 (.run fi11 (atC (cd Try.f11) []) [(0,.vec f 5 (bs.map Bx.a)),(1,.agg [.int .i64 ax,.int .i64 ay]),(2,.agg [.int .i64 bx,.int .i64 by_])] []) Q
def qArI_at (f:Bool) (bs:List Bx) (ax ay bx by_:Int) (n i:Int) (Q:AV->Heap->Prop):Prop:=Wp M1 (.run fi11 (atC (cd Try.f11) [1,1,1,1,1,1,1,1,0,1,0,0]) [(5,.ptr 0 0 0 0),(8,.func (.func 42) [] [.ptr 1 0 0 0]),(9,.vec true 2 [.agg [.int .i64 ax,.int .i64 ay]]),(52,.vec f 5 (bs.map Bx.a)),(53,.int .i64 n),(54,.int .i64 i)] [⟨[.agg [.int .i64 bx,.int .i64 by_]],2,0,false,false⟩,⟨[.vec f 5 (bs.map Bx.a)],1,0,false,false⟩]) Q
def Zfx (f:Bool) (bs:List Bx) (gs:List Gp) (v:Nat) (bx by_ n i:Int) (Q:AV->Heap->Prop):Prop:=Wp M1 (.run fi11 (atC (cd Try.f11) [1,1,1,1,1,1,1,1,0,1,0,0]) [(5,.ptr 0 0 0 0),(8,.func (.func 42) [] [.ptr 1 0 0 0]),(9,.row 2 v),(52,.vec f 5 (bs.map Bx.a)),(53,.int .i64 n),(54,.int .i64 i)] [⟨[.agg [.int .i64 bx,.int .i64 by_]],2,0,false,false⟩,⟨[.vec f 5 (bs.map Bx.a)],1,0,false,false⟩,⟨gs.map Gp.a,2,v,false,true⟩]) Q
def qBe_at (f:Bool) (bs:List Bx) (ax ay bx by_:Int) (Q:AV->Heap->Prop):Prop:=Wp M1 (.run fi13 (atC (cd Try.f13) []) [(0,.vec f 5 (bs.map Bx.a)),(1,.agg [.int .i64 ax,.int .i64 ay]),(2,.agg [.int .i64 bx,.int .i64 by_])] []) Q
def Zep (f g:Bool) (bs:List Bx) (nd:List Gp) (be:List Int) (i:Int) (Q:AV->Heap->Prop):Prop:=Wp M1 (.run fi13 (atC (cd Try.f13) [1,1,1,0,1,0,0]) [(0,.vec f 5 (bs.map Bx.a)),(7,.vec g 2 (nd.map Gp.a)),(8,.row 0 0),(9,.int .i64 i)] [⟨be.map (.int .i64),1,0,false,true⟩]) Q
def Zc0 (f g:Bool) (bs:List Bx) (nd:List Gp) (be:List Int) (ch:Bool) (Q:AV->Heap->Prop):Prop:=Wp M1 (.run fi13 (atC (cd Try.f13) [1,1,1,1,0,1,0,0]) [(0,.vec f 5 (bs.map Bx.a)),(7,.vec g 2 (nd.map Gp.a)),(8,.row 0 0),(10,.bool ch)] [⟨be.map (.int .i64),1,0,false,true⟩]) Q
def Zfw (f g:Bool) (bs:List Bx) (nd:List Gp) (be:List Int) (ch:Bool) (i:Int) (Q:AV->Heap->Prop):Prop:=Wp M1 (.run fi13 (atC (cd Try.f13) [1,1,1,1,0,1,0,0,1,0,1,1,0,0]) [(0,.vec f 5 (bs.map Bx.a)),(7,.vec g 2 (nd.map Gp.a)),(8,.row 0 0),(10,.bool ch),(11,.int .i64 i)] [⟨be.map (.int .i64),1,0,false,true⟩]) Q
def Zeo (f g:Bool) (bs:List Bx) (nd:List Gp) (be:List Int) (ch:Bool) (i k:Int) (Q:AV->Heap->Prop):Prop:=Wp M1 (.run fi13 (atC (cd Try.f13) [1,1,1,1,0,1,0,0,1,0,1,1,0,0,1,0,0,1,0,0]) [(0,.vec f 5 (bs.map Bx.a)),(7,.vec g 2 (nd.map Gp.a)),(8,.row 0 0),(10,.bool ch),(11,.int .i64 i),(12,.int .i64 k)] [⟨be.map (.int .i64),1,0,false,true⟩]) Q
theorem call11 {args:List AV} {d:AV} (h:wc M1 fi11 Try.f11 args d):Ev M1 (.pure 11 args) d []:=pcl _ _ (by kernel_rfl) h
theorem call13 {args:List AV} {d:AV} (h:wc M1 fi13 Try.f13 args d):Ev M1 (.pure 13 args) d []:=pcl _ _ (by kernel_rfl) h
noncomputable abbrev zNqJ1 (ax:Int) (ay:Int):=ag [vi ax,vi ay]
noncomputable abbrev zNqJ2 (bx:Int) (by_:Int):=ag [vi bx,vi by_]
theorem qAr (f:Bool) (bs:List Bx) (ax ay bx by_:Int)  (dq:AV) (H :
  (bs.length<=100) /\
  ((O.any O.bxI bs=true)->Weak (tu [AV.vnil,vi 1]) dq) /\
  (¬(O.any O.bxI bs=true)->(((↑bs.length:Int)>8)->Weak (tu [AV.vnil,vi 3]) dq) /\
   (¬((↑bs.length:Int)>8)->(((O.fr4 ax ay bx by_)\/(O.any O.bxF bs=true))->Weak (tu [AV.vnil,vi 11]) dq) /\
    (¬((O.fr4 ax ay bx by_)\/(O.any O.bxF bs=true))->(O.okFr bs ax ay ax ay) /\
     ((¬(¬(O.frB bs { x:=ax,y:=ay } { x:=ax,y:=ay } = true)))->(O.okFr bs bx by_ bx by_)) /\
     (((¬(O.frB bs { x:=ax,y:=ay } { x:=ax,y:=ay } = true))\/(¬(O.frB bs { x:=bx,y:=by_ } { x:=bx,y:=by_ } = true)))->Weak (tu [AV.vnil,vi 15]) dq) /\
     (¬((¬(O.frB bs { x:=ax,y:=ay } { x:=ax,y:=ay } = true))\/(¬(O.frB bs { x:=bx,y:=by_ } { x:=bx,y:=by_ } = true)))->(((ax=bx)/\(ay=by_))->Weak (tu [AV.vec true 2 [ag [vi ax,vi ay]],vi 0]) dq) /\
      (¬((ax=bx)/\(ay=by_))->qArI_at f bs ax ay bx by_ ((↑bs.length:Int)) 0 (Zae dq))))))) :
 qAr_at f bs ax ay bx by_ (Zae dq):=by
 unfold qAr_at
 obtain ⟨k1,H⟩:=H
 refine Zac (G:=Zad kp11 [(1,1,.call (vb (O.any O.bxI bs)) none)] []) 5 [] ⟨(atC (cd Try.f11) [1,0,1]),[(3,AV.ptr 0 0 0 0),(4,AV.ptr 1 0 0 0),(5,AV.ptr 2 0 0 0),(14,vb (O.any O.bxI bs))],[⟨[AV.vec f 5 (List.map Bx.a bs)],1,0,false,false⟩,⟨[(zNqJ1 ax ay)],2,0,false,false⟩,⟨[(zNqJ2 bx by_)],2,0,false,false⟩],_,[],_⟩ (by kernel_rfl) (bc rfl b0) q0 (ce (@ev38_a f bs k1) c0) ?_
 rcases xq H with ⟨d3,H⟩|⟨d3,H⟩
 ·exact Zao (G:=Zad kp11 [] []) 1000 [true] (asm:=[(O.any O.bxI bs)==true]) (tu [AV.vnil,vi 1]) (by kernel_rfl) (bc (Zal ((Zay _).2 d3)) b0) q0 c0 H
 ·have w4:(List.map Bx.a bs).length=bs.length:=List.length_map ..
  have i5:(decide ((↑(List.map Bx.a bs).length:Int)>8))=true ↔ ((↑bs.length:Int)>8):=(by (try rw [w4]);all_goals exact Zab)
  rcases xq H with ⟨d6,H⟩|⟨d6,H⟩
  ·exact Zao (G:=Zad kp11 [] []) 1000 [false,true] (asm:=[(O.any O.bxI bs)==false,true,(decide ((↑(List.map Bx.a bs).length:Int)>8))==true]) (tu [AV.vnil,vi 3]) (by kernel_rfl) (bc (Zak (fun h=>d3 ((Zay _).1 h))) (bc rfl (bc (Zal (i5.2 d6)) b0))) q0 c0 H
  ·refine Zac (G:=Zad kp11 [(5,9,.call (vb (decide (O.fr4 ax ay bx by_))) none),(5,12,.call (vb (O.any O.bxF bs)) none)] []) 10 [false,false] ⟨(atC (cd Try.f11) [1,1,1,0,1]),[(3,AV.ptr 0 0 0 0),(4,AV.ptr 1 0 0 0),(5,AV.ptr 2 0 0 0),(31,vb (bif decide (O.fr4 ax ay bx by_) then true else O.any O.bxF bs))],[⟨[AV.vec f 5 (List.map Bx.a bs)],1,0,false,false⟩,⟨[(zNqJ1 ax ay)],2,0,false,false⟩,⟨[(zNqJ2 bx by_)],2,0,false,false⟩],[(O.any O.bxI bs)==false,true,(decide ((↑(List.map Bx.a bs).length:Int)>8))==false,true,true,true,true,!(decide (O.fr4 ax ay bx by_)==false&&true)||true],[],[⟨true,false,40,[AV.vec true 1 [vi ax,vi ay,vi bx,vi by_]],[],vb (decide (O.fr4 ax ay bx by_)),[]⟩,⟨decide (O.fr4 ax ay bx by_)==false&&true&&true,false,38,[AV.vec f 5 (List.map Bx.a bs),AV.func (Fn.func 41) [] []],[],vb (O.any O.bxF bs),[]⟩]⟩ (by kernel_rfl) (bc (Zak (fun h=>d3 ((Zay _).1 h))) (bc rfl (bc (Zak (fun h=>d6 (i5.1 h))) (bc rfl (bc rfl (bc rfl (bc rfl (bc (Bool.or_true _) b0)))))))) q0 (cc (fun _=>(@ev40_d true ax ay bx by_)) (cc (fun hc=>((@ev38_b f bs k1):Ev M1 (Conf.pure 38 [AV.vec f 5 (List.map Bx.a bs),AV.func (Fn.func 41) [] []]) (vb (O.any O.bxF bs)) [])) c0)) ?_
   rcases xq H with ⟨d9,H⟩|⟨d9,H⟩
   ·exact Zao (G:=Zad kp11 [] []) 1000 [true] (asm:=[(bif decide (O.fr4 ax ay bx by_) then true else O.any O.bxF bs)==true]) (tu [AV.vnil,vi 11]) (by kernel_rfl) (bc (Zal ((ZaE Zab (Zay _)).2 d9)) b0) q0 c0 H
   ·obtain ⟨k10,k12,H⟩:=H
    refine Zac (G:=Zad kp11 [(8,3,.call (vb (O.frB bs { x:=ax,y:=ay } { x:=ax,y:=ay })) none),(8,9,.call (vb (O.frB bs { x:=bx,y:=by_ } { x:=bx,y:=by_ })) none)] []) 7 [false] ⟨(atC (cd Try.f11) [1,1,1,1,1,0,1]),[(3,AV.ptr 0 0 0 0),(4,AV.ptr 1 0 0 0),(5,AV.ptr 2 0 0 0),(8,AV.func (Fn.func 42) [] [AV.ptr 0 0 0 0]),(44,vb (bif !O.frB bs { x:=ax,y:=ay } { x:=ax,y:=ay } then true else !O.frB bs { x:=bx,y:=by_ } { x:=bx,y:=by_ }))],[⟨[AV.vec f 5 (List.map Bx.a bs)],1,0,false,false⟩,⟨[(zNqJ1 ax ay)],2,0,false,false⟩,⟨[(zNqJ2 bx by_)],2,0,false,false⟩],[(bif decide (O.fr4 ax ay bx by_) then true else O.any O.bxF bs)==false,true,true,true,!((!O.frB bs { x:=ax,y:=ay } { x:=ax,y:=ay })==false&&true)||true,!((!O.frB bs { x:=ax,y:=ay } { x:=ax,y:=ay })==false&&true)||true,!((!O.frB bs { x:=ax,y:=ay } { x:=ax,y:=ay })==false&&true)||true],[],[⟨true,false,42,[(zNqJ1 ax ay),(zNqJ1 ax ay),AV.eptr 1 [AV.vec f 5 (List.map Bx.a bs)] 0 0],[],vb (O.frB bs { x:=ax,y:=ay } { x:=ax,y:=ay }),[]⟩,⟨(!O.frB bs { x:=ax,y:=ay } { x:=ax,y:=ay })==false&&true&&true,false,42,[(zNqJ2 bx by_),(zNqJ2 bx by_),AV.eptr 1 [AV.vec f 5 (List.map Bx.a bs)] 0 0],[],vb (O.frB bs { x:=bx,y:=by_ } { x:=bx,y:=by_ }),[]⟩]⟩ (by kernel_rfl) (bc (Zak (fun h=>d9 ((ZaE Zab (Zay _)).1 h))) (bc rfl (bc rfl (bc rfl (bc (Bool.or_true _) (bc (Bool.or_true _) (bc (Bool.or_true _) b0))))))) q0 (cc (fun _=>(@ev42 f bs ax ay ax ay k10)) (cc (fun hc=>((@ev42 f bs bx by_ bx by_ (k12 ((i_at (i_at (i_bf (Za2 (Zay _))))).1 hc))):Ev M1 (Conf.pure 42 [(zNqJ2 bx by_),(zNqJ2 bx by_),AV.eptr 1 [AV.vec f 5 (List.map Bx.a bs)] 0 0]) (vb (O.frB bs { x:=bx,y:=by_ } { x:=bx,y:=by_ })) [])) c0)) ?_
    rcases xq H with ⟨d14,H⟩|⟨d14,H⟩
    ·exact Zao (G:=Zad kp11 [] []) 1000 [true] (asm:=[(bif !O.frB bs { x:=ax,y:=ay } { x:=ax,y:=ay } then true else !O.frB bs { x:=bx,y:=by_ } { x:=bx,y:=by_ })==true]) (tu [AV.vnil,vi 15]) (by kernel_rfl) (bc (Zal ((ZaE (Za2 (Zay _)) (Za2 (Zay _))).2 d14)) b0) q0 c0 H
    ·rcases xq H with ⟨d16,H⟩|⟨d16,H⟩
     ·exact Zao (G:=Zad kp11 [] []) 1000 [false,true] (asm:=[(bif !O.frB bs { x:=ax,y:=ay } { x:=ax,y:=ay } then true else !O.frB bs { x:=bx,y:=by_ } { x:=bx,y:=by_ })==false,true,true,(ax==bx&&(ay==by_&&true))==true,true]) (tu [AV.vec true 2 [(zNqJ1 ax ay)],vi 0]) (by kernel_rfl) (bc (Zak (fun h=>d14 ((ZaE (Za2 (Zay _)) (Za2 (Zay _))).1 h))) (bc rfl (bc rfl (bc (Zal ((Zcy i_eq (i_at i_eq)).2 d16)) (bc rfl b0))))) q0 c0 H
     ·exact Zac (G:=Zad kp11 [] []) 1000 [false,false] ⟨(atC (cd Try.f11) [1,1,1,1,1,1,1,1,0,1,0,0]),[(5,AV.ptr 2 0 0 0),(8,AV.func (Fn.func 42) [] [AV.ptr 0 0 0 0]),(9,AV.vec true 2 [(zNqJ1 ax ay)]),(52,AV.vec f 5 (List.map Bx.a bs)),(53,vi (↑(List.map Bx.a bs).length:Int)),(54,vi 0)],[⟨[AV.vec f 5 (List.map Bx.a bs)],1,0,false,false⟩,⟨[(zNqJ1 ax ay)],2,0,false,false⟩,⟨[(zNqJ2 bx by_)],2,0,false,false⟩],[(bif !O.frB bs { x:=ax,y:=ay } { x:=ax,y:=ay } then true else !O.frB bs { x:=bx,y:=by_ } { x:=bx,y:=by_ })==false,true,true,(ax==bx&&(ay==by_&&true))==false,true,true],[],_⟩ (by kernel_rfl) (bc (Zak (fun h=>d14 ((ZaE (Za2 (Zay _)) (Za2 (Zay _))).1 h))) (bc rfl (bc rfl (bc (Zak (fun h=>d16 ((Zcy i_eq (i_at i_eq)).1 h))) (bc rfl (bc rfl b0)))))) q0 c0 (by (try rw [w4]);all_goals exact Zas [2,0] (by kernel_rfl) H)
noncomputable abbrev zNqJ3 (bs:List Bx) (i:Int):=ag [vi (bs.getD i.toNat default).x0,vi (bs.getD i.toNat default).y0,vi (bs.getD i.toNat default).x1,vi (bs.getD i.toNat default).y1,vi (bs.getD i.toNat default).top]
theorem qArI (f:Bool) (bs:List Bx) (ax ay bx by_:Int) (n i:Int)  (dq:AV) (H :
  ((i<n)->(0<=i) /\
   (i.toNat<bs.length) /\
   (-9223372036854775808<=i+1/\i+1<=9223372036854775807) /\
   Zfx f bs ([{ x:=ax,y:=ay },{ x:=(bs.getD i.toNat default).x0,y:=(bs.getD i.toNat default).y0 },{ x:=(bs.getD i.toNat default).x1,y:=(bs.getD i.toNat default).y0 },{ x:=(bs.getD i.toNat default).x1,y:=(bs.getD i.toNat default).y1 },{ x:=(bs.getD i.toNat default).x0,y:=(bs.getD i.toNat default).y1 }]) 0 bx by_ n (i+1) (Zae dq)) /\
  (¬(i<n)->((O.lnk bs [{ x:=ax,y:=ay },{ x:=bx,y:=by_ }])->(O.okSh bs [{ x:=ax,y:=ay },{ x:=bx,y:=by_ }]) /\
    Weak (tu [AV.vec false 2 (ag [vi (O.shH f false bs [{ x:=ax,y:=ay },{ x:=bx,y:=by_ }]).x,vi (O.shH f false bs [{ x:=ax,y:=ay },{ x:=bx,y:=by_ }]).y]::List.map Gp.a (O.shT f false bs [{ x:=ax,y:=ay },{ x:=bx,y:=by_ }])),vi 0]) dq) /\
   (¬(O.lnk bs [{ x:=ax,y:=ay },{ x:=bx,y:=by_ }])->(O.okSh bs [{ x:=ax,y:=ay },{ x:=bx,y:=by_ }]) /\
    Weak (tu [AV.vnil,vi 16]) dq))) :
 qArI_at f bs ax ay bx by_ n i (Zae dq):=by
 unfold qArI_at
 rcases xq H with ⟨d2,H⟩|⟨d2,H⟩
 ·obtain ⟨k4,H⟩:=H
  have w5:(List.map Bx.a bs).length=bs.length:=List.length_map ..
  have i6:(decide (i.toNat<(List.map Bx.a bs).length))=true ↔ (i.toNat<bs.length):=(by (try rw [w5]);all_goals exact Zab)
  obtain ⟨k7,k8,H⟩:=H
  have w9:wi (i+1)=i+1:=wI64 k8
  have w10:[ag [vi ax,vi ay],ag [vi (bs.getD i.toNat default).x0,vi (bs.getD i.toNat default).y0],ag [vi (bs.getD i.toNat default).x1,vi (bs.getD i.toNat default).y0],ag [vi (bs.getD i.toNat default).x1,vi (bs.getD i.toNat default).y1],ag [vi (bs.getD i.toNat default).x0,vi (bs.getD i.toNat default).y1]]=List.map Gp.a [{ x:=ax,y:=ay },{ x:=(bs.getD i.toNat default).x0,y:=(bs.getD i.toNat default).y0 },{ x:=(bs.getD i.toNat default).x1,y:=(bs.getD i.toNat default).y0 },{ x:=(bs.getD i.toNat default).x1,y:=(bs.getD i.toNat default).y1 },{ x:=(bs.getD i.toNat default).x0,y:=(bs.getD i.toNat default).y1 }]:=rfl
  exact Zac (G:=Zad kp11 [(15,1,.elem ((zNqJ3 bs i)))] []) 1000 [true] ⟨(atC (cd Try.f11) [1,1,1,1,1,1,1,1,0,1,0,0]),[(5,AV.ptr 0 0 0 0),(8,AV.func (Fn.func 42) [] [AV.ptr 1 0 0 0]),(9,AV.row 3 0),(52,AV.vec f 5 (List.map Bx.a bs)),(53,vi n),(54,vi (wi (i+1)))],[⟨[ag [vi bx,vi by_]],2,0,false,false⟩,⟨[AV.vec f 5 (List.map Bx.a bs)],1,0,false,false⟩,⟨[(zNqJ3 bs i)],5,0,false,false⟩,⟨[ag [vi ax,vi ay],ag [vi (bs.getD i.toNat default).x0,vi (bs.getD i.toNat default).y0],ag [vi (bs.getD i.toNat default).x1,vi (bs.getD i.toNat default).y0],ag [vi (bs.getD i.toNat default).x1,vi (bs.getD i.toNat default).y1],ag [vi (bs.getD i.toNat default).x0,vi (bs.getD i.toNat default).y1]],2,0,false,true⟩],_,[((List.map Bx.a bs).get?Internal i.toNat=some ((zNqJ3 bs i)))],_⟩ (by kernel_rfl) (bc (Zal (Zab.2 d2)) (bc (Zab.2 k4) (bc (i6.2 k7) (bc rfl (bc rfl (bc rfl (bc rfl (bc rfl (bc rfl (bc rfl (bc rfl (bc rfl (bc rfl b0))))))))))))) (qc (Zai k7) q0) c0 (by (try rw [w9]);(try rw [w10]);all_goals exact Zas [0,1,3] (by kernel_rfl) H)
 ·rcases xq H with ⟨d11,H⟩|⟨d11,H⟩
  ·obtain ⟨k12,H⟩:=H
   exact Zao (G:=Zad kp11 [(19,2,.call (AV.vec false 2 (ag [vi (O.shH f false bs [{ x:=ax,y:=ay },{ x:=bx,y:=by_ }]).x,vi (O.shH f false bs [{ x:=ax,y:=ay },{ x:=bx,y:=by_ }]).y]::List.map Gp.a (O.shT f false bs [{ x:=ax,y:=ay },{ x:=bx,y:=by_ }]))) none)] []) 1000 [false,false] (tu [AV.vec false 2 (ag [vi (O.shH f false bs [{ x:=ax,y:=ay },{ x:=bx,y:=by_ }]).x,vi (O.shH f false bs [{ x:=ax,y:=ay },{ x:=bx,y:=by_ }]).y]::List.map Gp.a (O.shT f false bs [{ x:=ax,y:=ay },{ x:=bx,y:=by_ }])),vi 0]) (by kernel_rfl) (bc (Zak (fun h=>d2 (Zab.1 h))) (bc rfl (bc rfl (bc rfl (bc rfl (bc rfl b0)))))) q0 (ce (@ev44_y2 f false bs ax ay bx by_ k12 d11) c0) (by with_reducible exact H)
  ·obtain ⟨k13,H⟩:=H
   exact Zao (G:=Zad kp11 [(19,2,.call (AV.vnil) none)] []) 1000 [false,true] (tu [AV.vnil,vi 16]) (by kernel_rfl) (bc (Zak (fun h=>d2 (Zab.1 h))) (bc rfl (bc rfl (bc rfl (bc rfl (bc rfl b0)))))) q0 (ce (@ev44_n2 f false bs ax ay bx by_ k13 d11) c0) H
noncomputable abbrev zNqJ4 (bs:List Bx) (i:Int):=ag [vi (bs.getD i.toNat default).x0,vi (bs.getD i.toNat default).y0,vi (bs.getD i.toNat default).x1,vi (bs.getD i.toNat default).y1,vi (bs.getD i.toNat default).top]
theorem qArL (f:Bool) (bs:List Bx) (gs:List Gp) (v:Nat) (bx by_ n i:Int)  (dq:AV) (H :
  ((i<n)->(0<=i) /\
   (i.toNat<bs.length) /\
   ((gs.length+4)*16<=1099511627776) /\
   (-9223372036854775808<=i+1/\i+1<=9223372036854775807) /\
   Zfx f bs (gs++[{ x:=(bs.getD i.toNat default).x0,y:=(bs.getD i.toNat default).y0 },{ x:=(bs.getD i.toNat default).x1,y:=(bs.getD i.toNat default).y0 },{ x:=(bs.getD i.toNat default).x1,y:=(bs.getD i.toNat default).y1 },{ x:=(bs.getD i.toNat default).x0,y:=(bs.getD i.toNat default).y1 }]) (v+1) bx by_ n (i+1) (Zae dq)) /\
  (¬(i<n)->((gs.length+1)*16<=1099511627776) /\
   ((O.lnk bs (gs++[{ x:=bx,y:=by_ }]))->(O.okSh bs (gs++[{ x:=bx,y:=by_ }])) /\
    Weak (tu [AV.vec false 2 (ag [vi (O.shH f false bs (gs++[{ x:=bx,y:=by_ }])).x,vi (O.shH f false bs (gs++[{ x:=bx,y:=by_ }])).y]::List.map Gp.a (O.shT f false bs (gs++[{ x:=bx,y:=by_ }]))),vi 0]) dq) /\
   (¬(O.lnk bs (gs++[{ x:=bx,y:=by_ }]))->(O.okSh bs (gs++[{ x:=bx,y:=by_ }])) /\
    Weak (tu [AV.vnil,vi 16]) dq))) :
 Zfx f bs gs v bx by_ n i (Zae dq):=by
 unfold Zfx
 rcases xq H with ⟨d2,H⟩|⟨d2,H⟩
 ·obtain ⟨k4,H⟩:=H
  have w5:(List.map Bx.a bs).length=bs.length:=List.length_map ..
  have i6:(decide (i.toNat<(List.map Bx.a bs).length))=true ↔ (i.toNat<bs.length):=(by (try rw [w5]);all_goals exact Zab)
  obtain ⟨k7,H⟩:=H
  have w8:(List.map Gp.a gs).length=gs.length:=List.length_map ..
  have i9:(decide (((List.map Gp.a gs).length+4)*16<=1099511627776))=true ↔ ((gs.length+4)*16<=1099511627776):=(by (try rw [w8]);all_goals exact Zab)
  obtain ⟨k10,H⟩:=H
  have w11:List.map Gp.a gs++[ag [vi (bs.getD i.toNat default).x0,vi (bs.getD i.toNat default).y0],ag [vi (bs.getD i.toNat default).x1,vi (bs.getD i.toNat default).y0],ag [vi (bs.getD i.toNat default).x1,vi (bs.getD i.toNat default).y1],ag [vi (bs.getD i.toNat default).x0,vi (bs.getD i.toNat default).y1]]=List.map Gp.a (gs++[{ x:=(bs.getD i.toNat default).x0,y:=(bs.getD i.toNat default).y0 },{ x:=(bs.getD i.toNat default).x1,y:=(bs.getD i.toNat default).y0 },{ x:=(bs.getD i.toNat default).x1,y:=(bs.getD i.toNat default).y1 },{ x:=(bs.getD i.toNat default).x0,y:=(bs.getD i.toNat default).y1 }]):=(ZcO rfl rfl)
  obtain ⟨k12,H⟩:=H
  have w13:wi (i+1)=i+1:=wI64 k12
  exact Zac (G:=Zad kp11 [(15,1,.elem ((zNqJ4 bs i)))] []) 1000 [true] ⟨(atC (cd Try.f11) [1,1,1,1,1,1,1,1,0,1,0,0]),[(5,AV.ptr 0 0 0 0),(8,AV.func (Fn.func 42) [] [AV.ptr 1 0 0 0]),(9,AV.row 2 (v+1)),(52,AV.vec f 5 (List.map Bx.a bs)),(53,vi n),(54,vi (wi (i+1)))],[⟨[ag [vi bx,vi by_]],2,0,false,false⟩,⟨[AV.vec f 5 (List.map Bx.a bs)],1,0,false,false⟩,⟨List.map Gp.a gs++[ag [vi (bs.getD i.toNat default).x0,vi (bs.getD i.toNat default).y0],ag [vi (bs.getD i.toNat default).x1,vi (bs.getD i.toNat default).y0],ag [vi (bs.getD i.toNat default).x1,vi (bs.getD i.toNat default).y1],ag [vi (bs.getD i.toNat default).x0,vi (bs.getD i.toNat default).y1]],2,v+1,false,true⟩,⟨[(zNqJ4 bs i)],5,0,false,false⟩],[(decide (i<n))==true,decide (0<=i),decide (i.toNat<(List.map Bx.a bs).length),true,true,true,true,true,true,true,true,true,v==v,decide (((List.map Gp.a gs).length+4)*16<=1099511627776)],[((List.map Bx.a bs).get?Internal i.toNat=some ((zNqJ4 bs i)))],_⟩ (by kernel_rfl) (bc (Zal (Zab.2 d2)) (bc (Zab.2 k4) (bc (i6.2 k7) (bc rfl (bc rfl (bc rfl (bc rfl (bc rfl (bc rfl (bc rfl (bc rfl (bc rfl (bc (beq_self_eq_true _) (bc (i9.2 k10) b0)))))))))))))) (qc (Zai k7) q0) c0 (by (try rw [w11]);(try rw [w13]);all_goals exact Zas [0,1,2] (by kernel_rfl) H)
 ·have w14:(List.map Gp.a gs).length=gs.length:=List.length_map ..
  have i15:(decide (((List.map Gp.a gs).length+1)*16<=1099511627776))=true ↔ ((gs.length+1)*16<=1099511627776):=(by (try rw [w14]);all_goals exact Zab)
  obtain ⟨k16,H⟩:=H
  have w17:List.map Gp.a gs++[ag [vi bx,vi by_]]=List.map Gp.a (gs++[{ x:=bx,y:=by_ }]):=(ZcO rfl rfl)
  rcases xq H with ⟨d18,H⟩|⟨d18,H⟩
  ·obtain ⟨k19,H⟩:=H
   exact Zao (G:=Zad kp11 [(19,2,.call (AV.vec false 2 (ag [vi (O.shH f false bs (gs++[{ x:=bx,y:=by_ }])).x,vi (O.shH f false bs (gs++[{ x:=bx,y:=by_ }])).y]::List.map Gp.a (O.shT f false bs (gs++[{ x:=bx,y:=by_ }])))) none)] []) 1000 [false,false] (asm:=[(decide (i<n))==false,true,v==v,decide (((List.map Gp.a gs).length+1)*16<=1099511627776),v+1==v+1,true,false==false]) (calls:=[pc 44 [AV.vec false 2 (List.map Gp.a gs++[ag [vi bx,vi by_]]),AV.func (Fn.func 42) [] [AV.eptr 1 [AV.vec f 5 (List.map Bx.a bs)] 0 0]] (AV.vec false 2 (ag [vi (O.shH f false bs (gs++[{ x:=bx,y:=by_ }])).x,vi (O.shH f false bs (gs++[{ x:=bx,y:=by_ }])).y]::List.map Gp.a (O.shT f false bs (gs++[{ x:=bx,y:=by_ }]))))]) (tu [AV.vec false 2 (ag [vi (O.shH f false bs (gs++[{ x:=bx,y:=by_ }])).x,vi (O.shH f false bs (gs++[{ x:=bx,y:=by_ }])).y]::List.map Gp.a (O.shT f false bs (gs++[{ x:=bx,y:=by_ }]))),vi 0]) (by kernel_rfl) (bc (Zak (fun h=>d2 (Zab.1 h))) (bc rfl (bc (beq_self_eq_true _) (bc (i15.2 k16) (bc (beq_self_eq_true _) (bc rfl (bc rfl b0))))))) q0 (ce (by (try rw [w17]);all_goals exact (@ev44_y f false bs (gs++[{ x:=bx,y:=by_ }]) k19 d18)) c0) (by with_reducible exact H)
  ·obtain ⟨k20,H⟩:=H
   exact Zao (G:=Zad kp11 [(19,2,.call (AV.vnil) none)] []) 1000 [false,true] (asm:=[(decide (i<n))==false,true,v==v,decide (((List.map Gp.a gs).length+1)*16<=1099511627776),v+1==v+1,true,true==true]) (calls:=[pc 44 [AV.vec false 2 (List.map Gp.a gs++[ag [vi bx,vi by_]]),AV.func (Fn.func 42) [] [AV.eptr 1 [AV.vec f 5 (List.map Bx.a bs)] 0 0]] (AV.vnil)]) (tu [AV.vnil,vi 16]) (by kernel_rfl) (bc (Zak (fun h=>d2 (Zab.1 h))) (bc rfl (bc (beq_self_eq_true _) (bc (i15.2 k16) (bc (beq_self_eq_true _) (bc rfl (bc rfl b0))))))) q0 (ce (by (try rw [w17]);all_goals exact (@ev44_n f false bs (gs++[{ x:=bx,y:=by_ }]) k20 d18)) c0) H
theorem qBe (f:Bool) (bs:List Bx) (ax ay bx by_:Int)  (dq:AV) (H :
  (bs.length<=100) /\
  (0<=(↑(O.Zbu bs { x:=ax,y:=ay } { x:=bx,y:=by_ }).length:Int)) /\
  ((↑(O.Zbu bs { x:=ax,y:=ay } { x:=bx,y:=by_ }).length:Int)*8<=1099511627776) /\
  ((↑(O.Zbu bs { x:=ax,y:=ay } { x:=bx,y:=by_ }).length:Int)<=1099511627776) /\
  Zep f false bs (O.Zbu bs { x:=ax,y:=ay } { x:=bx,y:=by_ }) (List.replicate (↑(O.Zbu bs { x:=ax,y:=ay } { x:=bx,y:=by_ }).length:Int).toNat (0:Int)) 1 (Zae dq)) :
 qBe_at f bs ax ay bx by_ (Zae dq):=by
 unfold qBe_at
 obtain ⟨k1,H⟩:=H
 have w2:(List.map Gp.a (O.Zbu bs { x:=ax,y:=ay } { x:=bx,y:=by_ })).length=(O.Zbu bs { x:=ax,y:=ay } { x:=bx,y:=by_ }).length:=List.length_map ..
 have i3:(decide (0<=(↑(List.map Gp.a (O.Zbu bs { x:=ax,y:=ay } { x:=bx,y:=by_ })).length:Int)))=true ↔ (0<=(↑(O.Zbu bs { x:=ax,y:=ay } { x:=bx,y:=by_ }).length:Int)):=(by (try rw [w2]);all_goals exact Zab)
 obtain ⟨k4,H⟩:=H
 have i5:(decide ((↑(List.map Gp.a (O.Zbu bs { x:=ax,y:=ay } { x:=bx,y:=by_ })).length:Int)<=(↑(List.map Gp.a (O.Zbu bs { x:=ax,y:=ay } { x:=bx,y:=by_ })).length:Int)))=true ↔ ((↑(O.Zbu bs { x:=ax,y:=ay } { x:=bx,y:=by_ }).length:Int)<=(↑(O.Zbu bs { x:=ax,y:=ay } { x:=bx,y:=by_ }).length:Int)):=(by (try rw [w2]);all_goals exact Zab)
 have i6:(decide ((↑(List.map Gp.a (O.Zbu bs { x:=ax,y:=ay } { x:=bx,y:=by_ })).length:Int)*8<=1099511627776))=true ↔ ((↑(O.Zbu bs { x:=ax,y:=ay } { x:=bx,y:=by_ }).length:Int)*8<=1099511627776):=(by (try rw [w2]);all_goals exact Zab)
 obtain ⟨k7,H⟩:=H
 have i8:(decide ((↑(List.map Gp.a (O.Zbu bs { x:=ax,y:=ay } { x:=bx,y:=by_ })).length:Int)<=1099511627776))=true ↔ ((↑(O.Zbu bs { x:=ax,y:=ay } { x:=bx,y:=by_ }).length:Int)<=1099511627776):=(by (try rw [w2]);all_goals exact Zab)
 obtain ⟨k9,H⟩:=H
 have w10:List.replicate (↑(O.Zbu bs { x:=ax,y:=ay } { x:=bx,y:=by_ }).length:Int).toNat (vi 0)=List.map vi (List.replicate (↑(O.Zbu bs { x:=ax,y:=ay } { x:=bx,y:=by_ }).length:Int).toNat (0:Int)):=(ZfH rfl)
 exact Zac (G:=Zad kp13 [(1,3,.call (AV.vec false 2 (List.map Gp.a (O.Zbu bs { x:=ax,y:=ay } { x:=bx,y:=by_ }))) none)] []) 1000 [] ⟨(atC (cd Try.f13) [1,1,1,0,1,0,0]),[(0,AV.vec f 5 (List.map Bx.a bs)),(7,AV.vec false 2 (List.map Gp.a (O.Zbu bs { x:=ax,y:=ay } { x:=bx,y:=by_ }))),(8,AV.row 2 0),(9,vi 1)],[⟨[ag [vi ax,vi ay]],2,0,false,false⟩,⟨[ag [vi bx,vi by_]],2,0,false,false⟩,⟨List.replicate (↑(List.map Gp.a (O.Zbu bs { x:=ax,y:=ay } { x:=bx,y:=by_ })).length:Int).toNat (vi 0),1,0,false,true⟩],[true,true,decide (0<=(↑(List.map Gp.a (O.Zbu bs { x:=ax,y:=ay } { x:=bx,y:=by_ })).length:Int)),decide ((↑(List.map Gp.a (O.Zbu bs { x:=ax,y:=ay } { x:=bx,y:=by_ })).length:Int)<=(↑(List.map Gp.a (O.Zbu bs { x:=ax,y:=ay } { x:=bx,y:=by_ })).length:Int)),decide ((↑(List.map Gp.a (O.Zbu bs { x:=ax,y:=ay } { x:=bx,y:=by_ })).length:Int)*8<=1099511627776),decide ((↑(List.map Gp.a (O.Zbu bs { x:=ax,y:=ay } { x:=bx,y:=by_ })).length:Int)<=1099511627776)],[],_⟩ (by kernel_rfl) (bc rfl (bc rfl (bc (i3.2 k4) (bc (i5.2 (by omega)) (bc (i6.2 k7) (bc (i8.2 k9) b0)))))) q0 (ce (@ev17 f bs ax ay bx by_ k1) c0) (by (try rw [w2]);(try rw [w10]);all_goals exact Zas [2] (by kernel_rfl) H)
theorem qBe1 (f g:Bool) (bs:List Bx) (nd:List Gp) (be:List Int) (i:Int)  (dq:AV) (H :
  ((i<(↑be.length:Int))->(0<=i) /\
   (i.toNat<be.length) /\
   (-9223372036854775808<=i+1/\i+1<=9223372036854775807) /\
   Zep f g bs nd (be.set i.toNat (-1)) (i+1) (Zae dq)) /\
  (¬(i<(↑be.length:Int))->Zc0 f g bs nd be true (Zae dq))) :
 Zep f g bs nd be i (Zae dq):=by
 unfold Zep
 have w1:(List.map vi be).length=be.length:=List.length_map ..
 have i2:(decide (i<(↑(List.map vi be).length:Int)))=true ↔ (i<(↑be.length:Int)):=(by (try rw [w1]);all_goals exact Zab)
 rcases xq H with ⟨d3,H⟩|⟨d3,H⟩
 ·obtain ⟨k5,H⟩:=H
  have i6:(decide (i.toNat<(List.map vi be).length))=true ↔ (i.toNat<be.length):=(by (try rw [w1]);all_goals exact Zab)
  obtain ⟨k7,H⟩:=H
  have w8:(List.map vi be).set i.toNat (vi (-1))=List.map vi (be.set i.toNat (-1)):=(Za4 rfl rfl)
  obtain ⟨k9,H⟩:=H
  have w10:wi (i+1)=i+1:=wI64 k9
  exact Zac (G:=Zad kp13 [(6,3,.elem (vi (be.getD i.toNat default)))] []) 1000 [true] ⟨(atC (cd Try.f13) [1,1,1,0,1,0,0]),[(0,AV.vec f 5 (List.map Bx.a bs)),(7,AV.vec g 2 (List.map Gp.a nd)),(8,AV.row 0 0),(9,vi (wi (i+1)))],[⟨(List.map vi be).set i.toNat (vi (-1)),1,0,false,true⟩],_,[((List.map vi be).get?Internal i.toNat=some (vi (be.getD i.toNat default)))],_⟩ (by kernel_rfl) (bc rfl (bc (Zal (i2.2 d3)) (bc rfl (bc (Zab.2 k5) (bc (i6.2 k7) (bc rfl b0)))))) (qc (Zai k7) q0) c0 (by (try rw [w8]);(try rw [w10]);all_goals exact H)
 ·exact Zac (G:=Zad kp13 [] []) 1000 [false] ⟨(atC (cd Try.f13) [1,1,1,1,0,1,0,0]),[(0,AV.vec f 5 (List.map Bx.a bs)),(7,AV.vec g 2 (List.map Gp.a nd)),(8,AV.row 0 0),(10,vb true)],[⟨List.map vi be,1,0,false,true⟩],_,[],_⟩ (by kernel_rfl) (bc rfl (bc (Zak (fun h=>d3 (i2.1 h))) b0)) q0 c0 H
noncomputable abbrev zNqJ5 (be:List Int):=vi (be.getD ((↑be.length:Int)-1).toNat default)
theorem qBe2 (f g:Bool) (bs:List Bx) (nd:List Gp) (be:List Int) (ch:Bool)  (dq:AV) (H :
  ((ch=true)->Zfw f g bs nd be false 0 (Zae dq)) /\
  (¬(ch=true)->(-9223372036854775808<=(↑be.length:Int)-1/\(↑be.length:Int)-1<=9223372036854775807) /\
   (0<=(↑be.length:Int)-1) /\
   (((↑be.length:Int)-1).toNat<be.length) /\
   vi (be.getD ((↑be.length:Int)-1).toNat default)=dq)) :
 Zc0 f g bs nd be ch (Zae dq):=by
 unfold Zc0
 rcases xq H with ⟨d2,H⟩|⟨d2,H⟩
 ·exact Zac (G:=Zad kp13 [] []) 1000 [true] ⟨(atC (cd Try.f13) [1,1,1,1,0,1,0,0,1,0,1,1,0,0]),[(0,AV.vec f 5 (List.map Bx.a bs)),(7,AV.vec g 2 (List.map Gp.a nd)),(8,AV.row 0 0),(10,vb false),(11,vi 0)],[⟨List.map vi be,1,0,false,true⟩],[(ch)==true],[],_⟩ (by kernel_rfl) (bc (Zal ((Zay _).2 d2)) b0) q0 c0 H
 ·have w3:(List.map vi be).length=be.length:=List.length_map ..
  obtain ⟨k4,H⟩:=H
  have w5:wi ((↑be.length:Int)-1)=(↑be.length:Int)-1:=wI64 k4
  have i6:(decide (0<=wi ((↑(List.map vi be).length:Int)-1)))=true ↔ (0<=(↑be.length:Int)-1):=(by (try rw [w3]);(try rw [w5]);all_goals exact Zab)
  obtain ⟨k7,H⟩:=H
  have i8:(decide ((wi ((↑(List.map vi be).length:Int)-1)).toNat<(List.map vi be).length))=true ↔ (((↑be.length:Int)-1).toNat<be.length):=(by (try rw [w3]);(try rw [w5]);all_goals exact Zab)
  obtain ⟨k9,H⟩:=H
  exact Zah (G:=Zad kp13 [(20,5,.elem (zNqJ5 be))] []) 1000 [false] (asm:=[(ch)==false,true,true,decide (0<=wi ((↑(List.map vi be).length:Int)-1)),decide ((wi ((↑(List.map vi be).length:Int)-1)).toNat<(List.map vi be).length),true]) (eqs:=[((List.map vi be).get?Internal (wi ((↑(List.map vi be).length:Int)-1)).toNat=some (zNqJ5 be))]) (zNqJ5 be) (by kernel_rfl) (bc (Zak (fun h=>d2 ((Zay _).1 h))) (bc rfl (bc rfl (bc (i6.2 k7) (bc (i8.2 k9) (bc rfl b0)))))) (qc (by (try rw [w3]);(try rw [w5]);all_goals exact (Zai k9)) q0) c0 H
theorem qBe3 (f g:Bool) (bs:List Bx) (nd:List Gp) (be:List Int) (ch:Bool) (i:Int)  (dq:AV) (H :
  ((i<(↑nd.length:Int))->Zeo f g bs nd be ch i 0 (Zae dq)) /\
  (¬(i<(↑nd.length:Int))->Zc0 f g bs nd be ch (Zae dq))) :
 Zfw f g bs nd be ch i (Zae dq):=by
 unfold Zfw
 have w1:(List.map Gp.a nd).length=nd.length:=List.length_map ..
 have i2:(decide (i<(↑(List.map Gp.a nd).length:Int)))=true ↔ (i<(↑nd.length:Int)):=(by (try rw [w1]);all_goals exact Zab)
 rcases xq H with ⟨d3,H⟩|⟨d3,H⟩
 ·exact Zac (G:=Zad kp13 [] []) 1000 [true] ⟨(atC (cd Try.f13) [1,1,1,1,0,1,0,0,1,0,1,1,0,0,1,0,0,1,0,0]),[(0,AV.vec f 5 (List.map Bx.a bs)),(7,AV.vec g 2 (List.map Gp.a nd)),(8,AV.row 0 0),(10,vb ch),(11,vi i),(12,vi 0)],[⟨List.map vi be,1,0,false,true⟩],_,[],_⟩ (by kernel_rfl) (bc (Zal (i2.2 d3)) b0) q0 c0 H
 ·exact Zac (G:=Zad kp13 [] []) 1000 [false] ⟨(atC (cd Try.f13) [1,1,1,1,0,1,0,0]),[(0,AV.vec f 5 (List.map Bx.a bs)),(7,AV.vec g 2 (List.map Gp.a nd)),(8,AV.row 0 0),(10,vb ch),(11,vi i),(35,vb (decide (i<(↑(List.map Gp.a nd).length:Int))))],[⟨List.map vi be,1,0,false,true⟩],_,[],_⟩ (by kernel_rfl) (bc (Zak (fun h=>d3 (i2.1 h))) b0) q0 c0 (by (try rw [w1]);all_goals exact Wp.less [0,7,8,10] H)
noncomputable abbrev zNqJ6 (nd:List Gp) (i:Int):=ag [vi (nd.getD i.toNat default).x,vi (nd.getD i.toNat default).y]
noncomputable abbrev zNqJ7 (nd:List Gp) (k:Int):=ag [vi (nd.getD k.toNat default).x,vi (nd.getD k.toNat default).y]
theorem qBe4 (f g:Bool) (bs:List Bx) (nd:List Gp) (be:List Int) (ch:Bool) (i k:Int)  (dq:AV) (H :
  ((k<(↑nd.length:Int))->(0<=i)) /\
  ((k<(↑nd.length:Int))->(i.toNat<be.length)) /\
  (((k<(↑nd.length:Int))/\(be.getD i.toNat default>=0))->(0<=i) /\
   (i.toNat<nd.length) /\
   (0<=k) /\
   (k.toNat<nd.length) /\
   (O.cb4 (nd.getD i.toNat default).x (nd.getD i.toNat default).y (nd.getD k.toNat default).x (nd.getD k.toNat default).y) /\
   (i.toNat<be.length) /\
   (-9223372036854775808<=be.getD i.toNat default+O.gap { x:=(nd.getD i.toNat default).x,y:=(nd.getD i.toNat default).y } { x:=(nd.getD k.toNat default).x,y:=(nd.getD k.toNat default).y } /\ be.getD i.toNat default+O.gap { x:=(nd.getD i.toNat default).x,y:=(nd.getD i.toNat default).y } { x:=(nd.getD k.toNat default).x,y:=(nd.getD k.toNat default).y } <= 9223372036854775807) /\
   (((be.getD k.toNat default<0)\/(be.getD i.toNat default+O.gap { x:=(nd.getD i.toNat default).x,y:=(nd.getD i.toNat default).y } { x:=(nd.getD k.toNat default).x,y:=(nd.getD k.toNat default).y } < be.getD k.toNat default))->(O.okFr bs (nd.getD i.toNat default).x (nd.getD i.toNat default).y (nd.getD k.toNat default).x (nd.getD k.toNat default).y)) /\
   (k.toNat<be.length) /\
   ((((be.getD k.toNat default<0)\/(be.getD i.toNat default+O.gap { x:=(nd.getD i.toNat default).x,y:=(nd.getD i.toNat default).y } { x:=(nd.getD k.toNat default).x,y:=(nd.getD k.toNat default).y } < be.getD k.toNat default))/\(O.frB bs { x:=(nd.getD i.toNat default).x,y:=(nd.getD i.toNat default).y } { x:=(nd.getD k.toNat default).x,y:=(nd.getD k.toNat default).y } = true))->(-9223372036854775808<=k+1/\k+1<=9223372036854775807) /\
    Zeo f g bs nd (be.set k.toNat (be.getD i.toNat default+O.gap (nd.getD i.toNat default) (nd.getD k.toNat default))) true i (k+1) (Zae dq)) /\
   (¬(((be.getD k.toNat default<0)\/(be.getD i.toNat default+O.gap { x:=(nd.getD i.toNat default).x,y:=(nd.getD i.toNat default).y } { x:=(nd.getD k.toNat default).x,y:=(nd.getD k.toNat default).y } < be.getD k.toNat default))/\(O.frB bs { x:=(nd.getD i.toNat default).x,y:=(nd.getD i.toNat default).y } { x:=(nd.getD k.toNat default).x,y:=(nd.getD k.toNat default).y } = true))->(-9223372036854775808<=k+1/\k+1<=9223372036854775807) /\
    Zeo f g bs nd be ch i (k+1) (Zae dq))) /\
  (¬((k<(↑nd.length:Int))/\(be.getD i.toNat default>=0))->(-9223372036854775808<=i+1/\i+1<=9223372036854775807) /\
   Zfw f g bs nd be ch (i+1) (Zae dq))) :
 Zeo f g bs nd be ch i k (Zae dq):=by
 unfold Zeo
 have w1:(List.map Gp.a nd).length=nd.length:=List.length_map ..
 have i2:(!(decide (k<(↑(List.map Gp.a nd).length:Int))==true&&true)||decide (0<=i))=true ↔ ((k<(↑nd.length:Int))->(0<=i)):=(by (try rw [w1]);all_goals exact (ZaV (i_at (i_bt Zab)) Zab))
 obtain ⟨k3,H⟩:=H
 have w4:(List.map vi be).length=be.length:=List.length_map ..
 have i5:(!(decide (k<(↑(List.map Gp.a nd).length:Int))==true&&true)||decide (i.toNat<(List.map vi be).length))=true ↔ ((k<(↑nd.length:Int))->(i.toNat<be.length)):=(by (try rw [w1]);(try rw [w4]);all_goals exact (ZaV (i_at (i_bt Zab)) Zab))
 obtain ⟨k6,H⟩:=H
 have i8:(bif decide (k<(↑(List.map Gp.a nd).length:Int)) then decide (be.getD i.toNat default>=0) else false)=true ↔ ((k<(↑nd.length:Int))/\(be.getD i.toNat default>=0)):=(by (try rw [w1]);all_goals exact (ZaM Zab Zab))
 refine Zac (G:=Zad kp13 [(14,8,.elem (vi (be.getD i.toNat default)))] []) 3 [] ⟨(atC (cd Try.f13) [1,1,1,1,0,1,0,0,1,0,1,1,0,0,1,0,0,1,0,0,0,1]),[(0,AV.vec f 5 (List.map Bx.a bs)),(7,AV.vec g 2 (List.map Gp.a nd)),(8,AV.row 0 0),(10,vb ch),(11,vi i),(12,vi k),(48,vb (bif decide (k<(↑(List.map Gp.a nd).length:Int)) then decide (be.getD i.toNat default>=0) else false))],[⟨List.map vi be,1,0,false,true⟩],[!(decide (k<(↑(List.map Gp.a nd).length:Int))==true&&true)||true,!(decide (k<(↑(List.map Gp.a nd).length:Int))==true&&true)||decide (0<=i),!(decide (k<(↑(List.map Gp.a nd).length:Int))==true&&true)||decide (i.toNat<(List.map vi be).length),!(decide (k<(↑(List.map Gp.a nd).length:Int))==true&&true)||true],[((decide (k<(↑(List.map Gp.a nd).length:Int))==true&&true)=true->(List.map vi be).get?Internal i.toNat=some (vi (be.getD i.toNat default)))],_⟩ (by kernel_rfl) (bc (Bool.or_true _) (bc (i2.2 k3) (bc (i5.2 k6) (bc (Bool.or_true _) b0)))) (qc (by (try rw [w1]);all_goals exact (fun h=>Zai (k6 ((i_at (i_bt Zab)).1 h)))) q0) c0 ?_
 rcases xq H with ⟨d9,H⟩|⟨d9,H⟩
 ·obtain ⟨k11,H⟩:=H
  have i12:(decide (i.toNat<(List.map Gp.a nd).length))=true ↔ (i.toNat<nd.length):=(by (try rw [w1]);all_goals exact Zab)
  obtain ⟨k13,k15,H⟩:=H
  have i16:(decide (k.toNat<(List.map Gp.a nd).length))=true ↔ (k.toNat<nd.length):=(by (try rw [w1]);all_goals exact Zab)
  obtain ⟨k17,k18,H⟩:=H
  have i20:(decide (i.toNat<(List.map vi be).length))=true ↔ (i.toNat<be.length):=(by (try rw [w4]);all_goals exact Zab)
  obtain ⟨k21,k22,H⟩:=H
  have w23:wi (be.getD i.toNat default+O.gap { x:=(nd.getD i.toNat default).x,y:=(nd.getD i.toNat default).y } { x:=(nd.getD k.toNat default).x,y:=(nd.getD k.toNat default).y })=be.getD i.toNat default+O.gap { x:=(nd.getD i.toNat default).x,y:=(nd.getD i.toNat default).y } { x:=(nd.getD k.toNat default).x,y:=(nd.getD k.toNat default).y }:=wI64 k22
  have i24:((bif decide (be.getD k.toNat default<0) then true else decide (wi (be.getD i.toNat default+O.gap { x:=(nd.getD i.toNat default).x,y:=(nd.getD i.toNat default).y } { x:=(nd.getD k.toNat default).x,y:=(nd.getD k.toNat default).y })<be.getD k.toNat default))==true&&true&&true)=true ↔ ((be.getD k.toNat default<0)\/(be.getD i.toNat default+O.gap { x:=(nd.getD i.toNat default).x,y:=(nd.getD i.toNat default).y } { x:=(nd.getD k.toNat default).x,y:=(nd.getD k.toNat default).y } < be.getD k.toNat default)):=(by (try rw [w23]);all_goals exact (i_at (i_at (i_bt (ZaE Zab Zab)))))
  obtain ⟨k25,H⟩:=H
  have i27:(decide (k.toNat<(List.map vi be).length))=true ↔ (k.toNat<be.length):=(by (try rw [w4]);all_goals exact Zab)
  obtain ⟨k28,H⟩:=H
  have i30:(!(decide (be.getD k.toNat default<0)==false&&true)||decide (k.toNat<(List.map vi be).length))=true ↔ ((¬(be.getD k.toNat default<0))->(k.toNat<be.length)):=(by (try rw [w4]);all_goals exact (ZaV (i_at (i_bf Zab)) Zab))
  have i32:(bif bif decide (be.getD k.toNat default<0) then true else decide (wi (be.getD i.toNat default+O.gap { x:=(nd.getD i.toNat default).x,y:=(nd.getD i.toNat default).y } { x:=(nd.getD k.toNat default).x,y:=(nd.getD k.toNat default).y })<be.getD k.toNat default) then O.frB bs { x:=(nd.getD i.toNat default).x,y:=(nd.getD i.toNat default).y } { x:=(nd.getD k.toNat default).x,y:=(nd.getD k.toNat default).y } else false)=true ↔ (((be.getD k.toNat default<0)\/(be.getD i.toNat default+O.gap { x:=(nd.getD i.toNat default).x,y:=(nd.getD i.toNat default).y } { x:=(nd.getD k.toNat default).x,y:=(nd.getD k.toNat default).y } < be.getD k.toNat default))/\(O.frB bs { x:=(nd.getD i.toNat default).x,y:=(nd.getD i.toNat default).y } { x:=(nd.getD k.toNat default).x,y:=(nd.getD k.toNat default).y } = true)):=(by (try rw [w23]);all_goals exact (ZaM (ZaE Zab Zab) (Zay _)))
  refine Zac (G:=Zad kp13 [(16,3,.elem ((zNqJ6 nd i))),(16,7,.elem ((zNqJ7 nd k))),(17,3,.elem (vi (be.getD i.toNat default))),(17,5,.call (vi (O.gap { x:=(nd.getD i.toNat default).x,y:=(nd.getD i.toNat default).y } { x:=(nd.getD k.toNat default).x,y:=(nd.getD k.toNat default).y })) none),(18,3,.elem (vi (be.getD k.toNat default))),(18,10,.elem (vi (be.getD k.toNat default))),(18,16,.call (vb (O.frB bs { x:=(nd.getD i.toNat default).x,y:=(nd.getD i.toNat default).y } { x:=(nd.getD k.toNat default).x,y:=(nd.getD k.toNat default).y })) none)] []) 10 [true] ⟨(atC (cd Try.f13) [1,1,1,1,0,1,0,0,1,0,1,1,0,0,1,0,0,1,0,0,1,0,0,1,1,1]),[(0,AV.vec f 5 (List.map Bx.a bs)),(7,AV.vec g 2 (List.map Gp.a nd)),(8,AV.row 0 0),(10,vb ch),(11,vi i),(12,vi k),(14,vi (wi (be.getD i.toNat default+O.gap { x:=(nd.getD i.toNat default).x,y:=(nd.getD i.toNat default).y } { x:=(nd.getD k.toNat default).x,y:=(nd.getD k.toNat default).y }))),(84,vb (bif bif decide (be.getD k.toNat default<0) then true else decide (wi (be.getD i.toNat default+O.gap { x:=(nd.getD i.toNat default).x,y:=(nd.getD i.toNat default).y } { x:=(nd.getD k.toNat default).x,y:=(nd.getD k.toNat default).y })<be.getD k.toNat default) then O.frB bs { x:=(nd.getD i.toNat default).x,y:=(nd.getD i.toNat default).y } { x:=(nd.getD k.toNat default).x,y:=(nd.getD k.toNat default).y } else false))],[⟨List.map vi be,1,0,false,true⟩],[(bif decide (k<(↑(List.map Gp.a nd).length:Int)) then decide (be.getD i.toNat default>=0) else false)==true,decide (0<=i),decide (i.toNat<(List.map Gp.a nd).length),decide (0<=k),decide (k.toNat<(List.map Gp.a nd).length),true,decide (0<=i),decide (i.toNat<(List.map vi be).length),true,true,decide (0<=k),decide (k.toNat<(List.map vi be).length),true,!(decide (be.getD k.toNat default<0)==false&&true)||true,!(decide (be.getD k.toNat default<0)==false&&true)||decide (0<=k),!(decide (be.getD k.toNat default<0)==false&&true)||decide (k.toNat<(List.map vi be).length),!(decide (be.getD k.toNat default<0)==false&&true)||true],[((List.map Gp.a nd).get?Internal i.toNat=some ((zNqJ6 nd i))),((List.map Gp.a nd).get?Internal k.toNat=some ((zNqJ7 nd k))),((List.map vi be).get?Internal i.toNat=some (vi (be.getD i.toNat default))),((List.map vi be).get?Internal k.toNat=some (vi (be.getD k.toNat default))),((decide (be.getD k.toNat default<0)==false&&true)=true->(List.map vi be).get?Internal k.toNat=some (vi (be.getD k.toNat default)))],[⟨true,false,16,[AV.vec true 2 [(zNqJ6 nd i),(zNqJ7 nd k)]],[],vi (O.gap { x:=(nd.getD i.toNat default).x,y:=(nd.getD i.toNat default).y } { x:=(nd.getD k.toNat default).x,y:=(nd.getD k.toNat default).y }),[]⟩,⟨(bif decide (be.getD k.toNat default<0) then true else decide (wi (be.getD i.toNat default+O.gap { x:=(nd.getD i.toNat default).x,y:=(nd.getD i.toNat default).y } { x:=(nd.getD k.toNat default).x,y:=(nd.getD k.toNat default).y })<be.getD k.toNat default))==true&&true&&true,false,15,[AV.vec f 5 (List.map Bx.a bs),AV.vec true 2 [(zNqJ6 nd i),(zNqJ7 nd k)]],[],vb (O.frB bs { x:=(nd.getD i.toNat default).x,y:=(nd.getD i.toNat default).y } { x:=(nd.getD k.toNat default).x,y:=(nd.getD k.toNat default).y }),[]⟩]⟩ (by kernel_rfl) (bc (Zal (i8.2 d9)) (bc (Zab.2 k11) (bc (i12.2 k13) (bc (Zab.2 k15) (bc (i16.2 k17) (bc rfl (bc (Zab.2 k11) (bc (i20.2 k21) (bc rfl (bc rfl (bc (Zab.2 k15) (bc (i27.2 k28) (bc rfl (bc (Bool.or_true _) (bc ((ZaV (i_at (i_bf Zab)) Zab).2 (fun _=>k15)) (bc (i30.2 (fun _=>k28)) (bc (Bool.or_true _) b0))))))))))))))))) (qc (Zai k13) (qc (Zai k17) (qc (Zai k21) (qc (Zai k28) (qc (fun h=>Zai k28) q0))))) (cc (fun _=>(@ev16_b true ((nd.getD i.toNat default).x) ((nd.getD i.toNat default).y) ((nd.getD k.toNat default).x) ((nd.getD k.toNat default).y) k18)) (cc (fun hc=>((@ev15_b f true bs ((nd.getD i.toNat default).x) ((nd.getD i.toNat default).y) ((nd.getD k.toNat default).x) ((nd.getD k.toNat default).y) (k25 (i24.1 hc))):Ev M1 (Conf.pure 15 [AV.vec f 5 (List.map Bx.a bs),AV.vec true 2 [(zNqJ6 nd i),(zNqJ7 nd k)]]) (vb (O.frB bs { x:=(nd.getD i.toNat default).x,y:=(nd.getD i.toNat default).y } { x:=(nd.getD k.toNat default).x,y:=(nd.getD k.toNat default).y })) [])) c0)) ?_
  rcases xq H with ⟨d33,H⟩|⟨d33,H⟩
  ·have i35:(decide (k.toNat<(List.map vi be).length))=true ↔ (k.toNat<be.length):=(by (try rw [w4]);all_goals exact Zab)
   have w36:(List.map vi be).set k.toNat (vi (be.getD i.toNat default+O.gap { x:=(nd.getD i.toNat default).x,y:=(nd.getD i.toNat default).y } { x:=(nd.getD k.toNat default).x,y:=(nd.getD k.toNat default).y }))=List.map vi (be.set k.toNat (be.getD i.toNat default+O.gap (nd.getD i.toNat default) (nd.getD k.toNat default))):=(Za4 rfl rfl)
   obtain ⟨k37,H⟩:=H
   have w38:wi (k+1)=k+1:=wI64 k37
   exact Zac (G:=Zad kp13 [(19,4,.elem (vi (be.getD k.toNat default)))] []) 1000 [true] ⟨(atC (cd Try.f13) [1,1,1,1,0,1,0,0,1,0,1,1,0,0,1,0,0,1,0,0]),[(0,AV.vec f 5 (List.map Bx.a bs)),(7,AV.vec g 2 (List.map Gp.a nd)),(8,AV.row 0 0),(10,vb true),(11,vi i),(12,vi (wi (k+1)))],[⟨(List.map vi be).set k.toNat (vi (wi (be.getD i.toNat default+O.gap { x:=(nd.getD i.toNat default).x,y:=(nd.getD i.toNat default).y } { x:=(nd.getD k.toNat default).x,y:=(nd.getD k.toNat default).y }))),1,0,false,true⟩],_,[((List.map vi be).get?Internal k.toNat=some (vi (be.getD k.toNat default)))],_⟩ (by kernel_rfl) (bc (Zal (i32.2 d33)) (bc rfl (bc (Zab.2 k15) (bc (i35.2 k28) (bc rfl b0))))) (qc (Zai k28) q0) c0 (by (try rw [w23]);(try rw [w36]);(try rw [w38]);all_goals exact H)
  ·obtain ⟨k39,H⟩:=H
   have w40:wi (k+1)=k+1:=wI64 k39
   exact Zac (G:=Zad kp13 [] []) 1000 [false] ⟨(atC (cd Try.f13) [1,1,1,1,0,1,0,0,1,0,1,1,0,0,1,0,0,1,0,0]),[(0,AV.vec f 5 (List.map Bx.a bs)),(7,AV.vec g 2 (List.map Gp.a nd)),(8,AV.row 0 0),(10,vb ch),(11,vi i),(12,vi (wi (k+1)))],[⟨List.map vi be,1,0,false,true⟩],_,[],_⟩ (by kernel_rfl) (bc (Zak (fun h=>d33 (i32.1 h))) b0) q0 c0 (by (try rw [w40]);all_goals exact H)
 ·obtain ⟨k41,H⟩:=H
  have w42:wi (i+1)=i+1:=wI64 k41
  exact Zac (G:=Zad kp13 [] []) 1000 [false] ⟨(atC (cd Try.f13) [1,1,1,1,0,1,0,0,1,0,1,1,0,0]),[(0,AV.vec f 5 (List.map Bx.a bs)),(7,AV.vec g 2 (List.map Gp.a nd)),(8,AV.row 0 0),(10,vb ch),(11,vi (wi (i+1)))],[⟨List.map vi be,1,0,false,true⟩],_,[],_⟩ (by kernel_rfl) (bc (Zak (fun h=>d9 (i8.1 h))) b0) q0 c0 (by (try rw [w42]);all_goals exact H)
end Go.Av

namespace Go.Av
open Go.Proofs
namespace O
def MinD (bs:List Bx) (l:List Gp) (n:Int):Prop:=
 (n = -1/\¬lnk bs l)\/(Wk (nd l) (Zbz bs) (l.getD 0 default) (l.getD (l.length-1) default) n /\ ∀ d,Wk (nd l) (Zbz bs) (l.getD 0 default) (l.getD (l.length-1) default) d->n<=d)
def mu1 (v:Int):Nat:=if v<0 then 40000000001 else v.toNat
def mu (be:List Int):Nat:=(be.map mu1).sum
def cnn (be:List Int):Nat:=be.countP fun v=>decide (0<=v)
structure Lab (bs:List Bx) (l:List Gp) (be:List Int):Prop where
 len:be.length=l.length
 h0:be.getD 0 default=0
 neg:∀ i,i<l.length->be.getD i default<0->be.getD i default = -1
 snd:∀ i,i<l.length->0<=be.getD i default->Wk (nd l) (Zbz bs) (l.getD 0 default) (l.getD i default) (be.getD i default)
 bd:∀ i,i<l.length->be.getD i default<=(cnn be:Int)*40000000
def Cl1 (bs:List Bx) (l:List Gp) (be:List Int) (i k:Nat):Prop:=
 0<=be.getD i default->Zbz bs (l.getD i default) (l.getD k default)->0<=be.getD k default/\be.getD k default<=be.getD i default+gap (l.getD i default) (l.getD k default)
end O
theorem sum_set {l:List Int}:∀ {k:Nat} {v:Int},k<l.length->O.mu (l.set k v)+O.mu1 (l.getD k default)=O.mu l+O.mu1 v:=by
 induction l with
 | nil=>intro k v h;simp at h
 | cons x l ih =>
  intro k v h
  cases k with
  | zero=>show O.mu1 v+O.mu l+O.mu1 x=O.mu1 x+O.mu l+O.mu1 v;omega
  | succ k =>
   have:=ih (k:=k) (v:=v) (by simpa using h)
   show O.mu1 x+O.mu (l.set k v)+O.mu1 (l.getD k default)=O.mu1 x+O.mu l+O.mu1 v
   omega
theorem cnn_set {l:List Int}:∀ {k:Nat} {v:Int},k<l.length->0<=v->(l.getD k default<0->O.cnn (l.set k v)=O.cnn l+1)/\(0<=l.getD k default->O.cnn (l.set k v)=O.cnn l):=by
 induction l with
 | nil=>intro k v h;simp at h
 | cons x l ih =>
  intro k v h hv
  cases k with
  | zero =>
   show (x<0->O.cnn (v::l)=O.cnn (x::l)+1)/\(0<=x->O.cnn (v::l)=O.cnn (x::l))
   unfold O.cnn
   rw [List.countP_cons,List.countP_cons,if_pos (decide_eq_true hv)]
   exact ⟨fun h=>by rw [if_neg (by simpa using h)],fun h=>by rw [if_pos (decide_eq_true h)]⟩
  | succ k =>
   have:=ih (k:=k) (v:=v) (by simpa using h) hv
   show (l.getD k default<0->O.cnn (x::l.set k v)=O.cnn (x::l)+1)/\(0<=l.getD k default->O.cnn (x::l.set k v)=O.cnn (x::l))
   unfold O.cnn at *
   rw [List.countP_cons,List.countP_cons]
   exact ⟨fun h=>by have:=this.1 h;omega,fun h=>by have:=this.2 h;omega⟩
theorem cnn_le (l:List Int):O.cnn l<=l.length:=List.countP_le_length
section
variable {f g:Bool} {bs:List Bx} {l:List Gp}
theorem lab_le (hl:O.okP8 l) {be:List Int} (L:O.Lab bs l be) {i:Nat} (hi:i<l.length):be.getD i default<=40000000000:=by
 have:=L.bd i hi
 have:=cnn_le be
 have:=L.len
 have:=hl.1
 omega
theorem lab_set (hl:O.okP8 l) {be:List Int} (L:O.Lab bs l be) {i k:Nat} (hi:i<l.length) (hk:k<l.length) (h0:0<=be.getD i default) (hb:be.getD k default<0\/be.getD i default+O.gap (l.getD i default) (l.getD k default)<be.getD k default) (hf:O.Zbz bs (l.getD i default) (l.getD k default)) :
  O.Lab bs l (be.set k (be.getD i default+O.gap (l.getD i default) (l.getD k default)))/\O.mu (be.set k (be.getD i default+O.gap (l.getD i default) (l.getD k default)))<O.mu be:=by
 have g0:=Zcq (l.getD i default) (l.getD k default)
 have gM:=(ccp_cb (hl.2 _ (ZaA (d:=l) hi)) (hl.2 _ (ZaA (d:=l) hk))).2
 have len:=L.len
 obtain ⟨v,hv⟩:∃ v,v=be.getD i default+O.gap (l.getD i default) (l.getD k default):=⟨_,rfl⟩
 rw [<- hv] at hb ⊢
 have kl:k<be.length:=by omega
 have gs:=fun j=>ZbI be k j v kl
 have cs:=cnn_set (l:=be) (k:=k) (v:=v) kl (by omega)
 have bi:=L.bd i hi
 have L':O.Lab bs l (be.set k v):=by
  refine ⟨by rw [List.length_set];exact len,?_,fun j hj => ?_,fun j hj => ?_,fun j hj => ?_⟩
  ·rw [gs]
   split
   ·next e=>subst e;have:=L.h0;omega
   ·exact L.h0
  ·rw [gs]
   split
   ·intro;omega
   ·exact L.neg j hj
  ·rw [gs]
   split
   ·next e=>subst e;intro;rw [hv];exact (L.snd i hi h0).snoc ⟨j,hj,rfl⟩ hf
   ·exact L.snd j hj
  ·have bj:=L.bd j hj
   have c1:(O.cnn be:Int)<=O.cnn (be.set k v):=by
    by_cases x:be.getD k default<0
    ·have:=cs.1 x;omega
    ·have:=cs.2 (by omega);omega
   rw [gs]
   split
   ·next e =>
    subst e
    rcases hb with hb | hb
    ·have:=cs.1 hb;omega
    ·by_cases x:be.getD j default<0
     ·have:=cs.1 x;omega
     ·have:=cs.2 (by omega);omega
   ·omega
 refine ⟨L',?_⟩
 have s:=sum_set (l:=be) (k:=k) (v:=v) kl
 have vb:v<=40000000000:=by
  have:=lab_le hl L' hk
  rw [gs,if_pos rfl] at this;exact this
 have lt:O.mu1 v<O.mu1 (be.getD k default):=by
  unfold O.mu1
  rw [if_neg (show ¬v<0 by omega)]
  split
  ·omega
  ·omega
 omega
theorem pass4 (hb:O.okB8 bs) (hl:O.okP8 l) {N:Nat} {Fin:Int->Prop} (nx:∀ (be:List Int) (ch:Bool),O.Lab bs l be->(ch=false -> ∀ i k,i<l.length->k<l.length->O.Cl1 bs l be i k)->(ch=true->O.mu be<N) -> ∃ n,Fin n/\Zc0 f g bs l be ch (Zae (.int .i64 n))) (m:Nat) :
  ∀ (i:Nat) (be:List Int) (ch:Bool),i+m=l.length->O.Lab bs l be->O.mu be<=N->(ch=true->O.mu be<N)->(ch=false -> ∀ i' k,i'<i->k<l.length->O.Cl1 bs l be i' k) -> ∃ n,Fin n/\Zfw f g bs l be ch i (Zae (.int .i64 n)):=by
 have lN:=hl.1
 induction m with
 | zero =>
  intro i be ch e L mN mc cl
  obtain ⟨n,hn,w⟩:=nx be ch L (fun c i' k h1 h2=>cl c i' k (by omega) h2) mc
  exact ⟨n,hn,qBe3 _ _ _ _ _ _ _ _ ⟨fun x=>by omega,fun _=>w⟩⟩
 | succ m ih =>
  intro i be ch e L mN mc cl
  have hi:i<l.length:=by omega
  have inner:∀ (q k:Nat) (be:List Int) (ch:Bool),k+q=l.length->O.Lab bs l be->O.mu be<=N->(ch=true->O.mu be<N)->(ch=false -> ∀ i' k,i'<i->k<l.length->O.Cl1 bs l be i' k)->(ch=false -> ∀ k',k'<k->O.Cl1 bs l be i k') -> ∃ n,Fin n/\Zeo f g bs l be ch i k (Zae (.int .i64 n)):=by
   intro q
   induction q with
   | zero =>
    intro k be ch e L mN mc cl ck
    have len:=L.len
    obtain ⟨n,hn,w⟩:=ih (i+1) be ch (by omega) L mN mc (fun c i' k' h1 h2=>by
     by_cases x:i'=i
     ·subst x;exact ck c k' (by omega)
     ·exact cl c i' k' (by omega) h2)
    refine ⟨n,hn,qBe4 _ _ _ _ _ _ _ _ _ ⟨fun x=>by omega,fun x=>by omega,fun x=>by omega,fun _=>⟨by omega,?_⟩⟩⟩
    rw [show (i:Int)+1=((i+1:Nat):Int) by omega];exact w
   | succ q iq =>
    intro k be ch e L mN mc cl ck
    have hk:k<l.length:=by omega
    have len:=L.len
    by_cases h0:0<=be.getD i default
    ·have pi:=hl.2 _ (ZaA (d:=l) hi)
     have pk:=hl.2 _ (ZaA (d:=l) hk)
     have cg:=ccp_cb pi pk
     have g0:=Zcq (l.getD i default) (l.getD k default)
     have bi:=lab_le hl L hi
     have bdd:-9223372036854775808<=be.getD i default+O.gap (l.getD i default) (l.getD k default)/\be.getD i default+O.gap (l.getD i default) (l.getD k default)<=9223372036854775807:=by omega
     have fr:O.okFr bs (l.getD i default).x (l.getD i default).y (l.getD k default).x (l.getD k default).y:=⟨hb,pi,pk⟩
     by_cases c:(be.getD k default<0\/be.getD i default+O.gap (l.getD i default) (l.getD k default)<be.getD k default)/\O.Zbz bs (l.getD i default) (l.getD k default)
     ·have S:=lab_set hl L hi hk h0 c.1 c.2
      obtain ⟨n,hn,w⟩:=iq (k+1) _ true (by omega) S.1 (by omega) (fun _=>by omega) (fun x=>absurd x (by decide)) (fun x=>absurd x (by decide))
      refine ⟨n,hn,qBe4 _ _ _ _ _ _ _ _ _ ⟨fun x=>by omega,fun x=>by omega,fun x => ?_,fun x=>by rw [Int.toNat_natCast] at x;exact absurd ⟨by omega,h0⟩ x⟩⟩
      rw [Int.toNat_natCast,Int.toNat_natCast,show (k:Int)+1=((k+1:Nat):Int) by omega]
      exact ⟨by omega,hi,by omega,hk,cg.1,by omega,bdd,fun _=>fr,by omega,fun _=>⟨by omega,w⟩,fun y=>absurd ⟨c.1,ZdC.2 c.2⟩ y⟩
     ·obtain ⟨n,hn,w⟩:=iq (k+1) be ch (by omega) L mN mc cl (fun x k' hk'=>by
       by_cases y:k'=k
       ·subst y
        intro _ fr2
        have:¬(be.getD k' default<0\/be.getD i default+O.gap (l.getD i default) (l.getD k' default)<be.getD k' default):=fun z=>c ⟨z,fr2⟩
        omega
       ·exact ck x k' (by omega))
      refine ⟨n,hn,qBe4 _ _ _ _ _ _ _ _ _ ⟨fun x=>by omega,fun x=>by omega,fun x => ?_,fun x=>by rw [Int.toNat_natCast] at x;exact absurd ⟨by omega,h0⟩ x⟩⟩
      rw [Int.toNat_natCast,Int.toNat_natCast,show (k:Int)+1=((k+1:Nat):Int) by omega]
      exact ⟨by omega,hi,by omega,hk,cg.1,by omega,bdd,fun _=>fr,by omega,fun y=>absurd ⟨y.1,ZdC.1 y.2⟩ c,fun _=>⟨by omega,w⟩⟩
    ·obtain ⟨n,hn,w⟩:=ih (i+1) be ch (by omega) L mN mc (fun c i' k' h1 h2=>by
      by_cases x:i'=i
      ·subst x;intro y;omega
      ·exact cl c i' k' (by omega) h2)
     refine ⟨n,hn,qBe4 _ _ _ _ _ _ _ _ _ ⟨fun x=>by omega,fun x=>by omega,fun x=>by rw [Int.toNat_natCast] at x;omega,fun _=>⟨by omega,?_⟩⟩⟩
     rw [show (i:Int)+1=((i+1:Nat):Int) by omega];exact w
  obtain ⟨n,hn,w⟩:=inner l.length 0 be ch (by omega) L mN mc cl (fun _ k' h=>by omega)
  exact ⟨n,hn,qBe3 _ _ _ _ _ _ _ _ ⟨fun _=>w,fun x=>by omega⟩⟩
theorem best_run (hb:O.okB8 bs) (hl:O.okP8 l) (hp:0<l.length) (haa:O.Zbz bs (l.getD 0 default) (l.getD 0 default)) (N:Nat) :
  ∀ (be:List Int) (ch:Bool),O.Lab bs l be->(ch=false -> ∀ i k,i<l.length->k<l.length->O.Cl1 bs l be i k)->(ch=true->O.mu be<N) -> ∃ n,O.MinD bs l n/\Zc0 f g bs l be ch (Zae (.int .i64 n)):=by
 have lN:=hl.1
 have fin:∀ be:List Int,O.Lab bs l be->(∀ i k,i<l.length->k<l.length->O.Cl1 bs l be i k) -> ∃ n,O.MinD bs l n/\Zc0 f g bs l be false (Zae (.int .i64 n)):=fun be L cl=>by
  have len:=L.len
  have last:l.length-1<l.length:=by omega
  refine ⟨be.getD (l.length-1) default,?_,qBe2 _ _ _ _ _ _ _ ⟨fun x=>absurd x (by decide),fun _=>⟨by omega,by omega,by omega,by rw [show ((be.length:Int)-1).toNat=l.length-1 by omega]⟩⟩⟩
  have least:∀ d,O.Wk (O.nd l) (O.Zbz bs) (l.getD 0 default) (l.getD (l.length-1) default) d->0<=be.getD (l.length-1) default/\be.getD (l.length-1) default<=d:=fun d w=>closed_le L.h0 hp rfl haa cl w (l.length-1) last rfl
  by_cases x:be.getD (l.length-1) default<0
  ·exact .inl ⟨L.neg _ last x,fun ⟨d,w⟩=>by have:=(least d w).1;omega⟩
  ·exact .inr ⟨L.snd _ last (by omega),fun d w=>(least d w).2⟩
 induction N with
 | zero =>
  intro be ch L cl mc
  cases ch with
  | true=>exact absurd (mc rfl) (Nat.not_lt_zero _)
  | false=>exact fin be L (cl rfl)
 | succ N ih =>
  intro be ch L cl mc
  cases ch with
  | false=>exact fin be L (cl rfl)
  | true =>
   obtain ⟨n,hn,w⟩:=pass4 (f:=f) (g:=g) hb hl ih l.length 0 be false (by omega) L (by have:=mc rfl;omega) (fun x=>absurd x (by decide)) (fun _ i' k h=>by omega)
   exact ⟨n,hn,qBe2 _ _ _ _ _ _ _ ⟨fun _=>w,fun x=>absurd rfl x⟩⟩
theorem best_init (hN:l.length<=1000) (hp:0<l.length) {dq:AV} (H:Zc0 f g bs l (0::List.replicate (l.length-1) (-1:Int)) true (Zae dq)) (k:Nat):∀ i:Nat,0<i->i+k=l.length->Zep f g bs l (0::(List.replicate (i-1) (-1:Int)++List.replicate k 0)) i (Zae dq):=by
 induction k with
 | zero =>
  intro i h0 e
  refine qBe1 _ _ _ _ _ _ _ ⟨fun x=>by simp at x;omega,fun _ => ?_⟩
  rw [List.replicate_zero,List.append_nil,show i-1=l.length-1 by omega];exact H
 | succ k ih =>
  intro i h0 e
  obtain ⟨j,rfl⟩:∃ j,i=j+1:=⟨i-1,by omega⟩
  have nx:=ih (j+2) (by omega) (by omega)
  rw [show j+2-1=j+1 by omega] at nx
  refine qBe1 _ _ _ _ _ _ _ ⟨fun _ => ?_,fun x=>by simp at x;omega⟩
  rw [Int.toNat_natCast,show ((j+1:Nat):Int)+1=((j+2:Nat):Int) by omega,Nat.add_sub_cancel,List.set_cons_succ,List.set_append_right _ _ (by simp),List.length_replicate,Nat.sub_self,List.replicate_succ (n:=k),List.set_cons_zero]
  rw [List.replicate_succ' (n:=j),List.append_assoc,List.singleton_append] at nx
  exact ⟨by omega,by simp,by omega,nx⟩
theorem best_ex (hb:O.okB8 bs) (hl:O.okP8 l) (hp:0<l.length) (haa:O.Zbz bs (l.getD 0 default) (l.getD 0 default)):∃ n,O.MinD bs l n/\Zep f g bs l (List.replicate l.length (0:Int)) 1 (Zae (.int .i64 n)):=by
 have g1:∀ i,i<l.length->i ≠ 0->(0::List.replicate (l.length-1) (-1:Int)).getD i default = -1:=fun i hi h0=>by
  obtain ⟨j,rfl⟩:∃ j,i=j+1:=⟨i-1,by omega⟩
  rw [List.getD_cons_succ,List.getD_eq_getElem?_getD,List.getElem?_replicate,if_pos (by omega)];rfl
 have L:O.Lab bs l (0::List.replicate (l.length-1) (-1:Int)):=by
  refine ⟨by simp;omega,rfl,fun i hi => ?_,fun i hi => ?_,fun i hi => ?_⟩
  ·by_cases z:i=0
   ·subst z;intro x;exact absurd (show (0:Int)<0 from x) (by decide)
   ·intro _;exact g1 i hi z
  ·by_cases z:i=0
   ·subst z;intro _;exact .nil
   ·rw [g1 i hi z];intro x;omega
  ·by_cases z:i=0
   ·subst z;show (0:Int)<=_;omega
   ·rw [g1 i hi z];omega
 obtain ⟨n,hn,w⟩:=best_run (f:=f) (g:=g) hb hl hp haa (O.mu (0::List.replicate (l.length-1) (-1:Int))+1) _ true L (fun x=>absurd x (by decide)) (fun _=>by omega)
 refine ⟨n,hn,?_⟩
 have:=best_init (f:=f) (g:=g) (bs:=bs) hl.1 hp w (l.length-1) 1 (by omega) (by omega)
 rw [show (0:Int)::(List.replicate (1-1) (-1:Int)++List.replicate (l.length-1) 0)=List.replicate l.length 0 by
  obtain ⟨n,e⟩:∃ n,l.length=n+1:=⟨l.length-1,by omega⟩
  rw [e];rfl] at this
 exact this
end
namespace O
noncomputable def mind (bs:List Bx) (l:List Gp):Int:=Classical.epsilon (MinD bs l)
end O
theorem ZfE {bs:List Bx} {l:List Gp} {n m:Int} (h:O.MinD bs l n) (k:O.MinD bs l m):n=m:=by
 rcases h with ⟨e,h⟩ | ⟨w,h⟩
 ·rcases k with ⟨e2,_⟩ | ⟨w2,_⟩
  ·omega
  ·exact absurd ⟨_,w2⟩ h
 ·rcases k with ⟨_,k⟩ | ⟨w2,k⟩
  ·exact absurd ⟨_,w⟩ k
  ·have:=h _ w2;have:=k _ w;omega
theorem nod_last (bs:List Bx) (a b:Gp):(O.Zbu bs a b).getD ((O.Zbu bs a b).length-1) default=b:=by
 have e:(O.Zbu bs a b).length-1=(a::bs.flatMap O.crnR).length:=by unfold O.Zbu;simp
 rw [e,List.getD_eq_getElem?_getD]
 unfold O.Zbu
 rw [List.getElem?_append_right (Nat.le_refl _),Nat.sub_self];rfl
namespace O
def okSp (bs:List Bx) (ax ay bx by_:Int):Prop:=okB8 bs/\ccp ⟨ax,ay⟩/\ccp ⟨bx,by_⟩/\Zbz bs ⟨ax,ay⟩ ⟨ax,ay⟩
end O
theorem nod_ok {bs:List Bx} {a b:Gp} (hb:O.okB8 bs) (ha:O.ccp a) (hq:O.ccp b):O.okP8 (O.Zbu bs a b):=by
 refine ⟨by rw [nod_len];have:=hb.1;omega,fun p hp => ?_⟩
 unfold O.Zbu at hp
 rcases List.mem_append.1 hp with hp | hp
 ·rcases List.mem_cons.1 hp with rfl | hp
  ·exact ha
  ·obtain ⟨c,hc,hp⟩:=List.mem_flatMap.1 hp
   have k:=hb.2 c hc
   unfold O.crnR at hp
   simp only [List.mem_cons,List.not_mem_nil,or_false] at hp
   rcases hp with rfl | rfl | rfl | rfl
   ·exact ⟨k.1,k.2.1⟩
   ·exact ⟨k.1,k.2.2.2⟩
   ·exact ⟨k.2.2.1,k.2.1⟩
   ·exact ⟨k.2.2.1,k.2.2.2⟩
 ·rw [List.mem_singleton.1 hp];exact hq
theorem ev13 (f:Bool) (bs:List Bx) (ax ay bx by_:Int) (h:O.okSp bs ax ay bx by_):Ev M1 (.pure 13 [.vec f 5 (bs.map Bx.a),.agg [.int .i64 ax,.int .i64 ay],.agg [.int .i64 bx,.int .i64 by_]]) (.int .i64 (O.mind bs (O.Zbu bs ⟨ax,ay⟩ ⟨bx,by_⟩))) []:=by
 have hb:=h.1.1
 have ln:=nod_len bs ⟨ax,ay⟩ ⟨bx,by_⟩
 obtain ⟨n,hn,w⟩:=best_ex (f:=f) (g:=false) (l:=O.Zbu bs ⟨ax,ay⟩ ⟨bx,by_⟩) h.1 (nod_ok h.1 h.2.1 h.2.2.1) (by omega) h.2.2.2
 have e:O.mind bs (O.Zbu bs ⟨ax,ay⟩ ⟨bx,by_⟩)=n:=ZfE (Classical.epsilon_spec (p:=O.MinD bs (O.Zbu bs ⟨ax,ay⟩ ⟨bx,by_⟩)) ⟨n,hn⟩) hn
 rw [e]
 refine call13 (qBe _ _ _ _ _ _ _ ⟨hb,by omega,by omega,by omega,?_⟩)
 rw [Int.toNat_natCast]
 exact w
end Go.Av

namespace Go.Av
open Go.Proofs
namespace O
def crnP (c:Bx):List Gp:=[⟨c.x0,c.y0⟩,⟨c.x1,c.y0⟩,⟨c.x1,c.y1⟩,⟨c.x0,c.y1⟩]
def ZcP (bs:List Bx) (a b:Gp):List Gp:=a::bs.flatMap crnP++[b]
open Classical in
noncomputable def arE (bs:List Bx) (a b:Gp):Int:=
 if ∃ c ∈ bs,bxI c then 1 else if bs.length>8 then 3 else if fr4 a.x a.y b.x b.y \/ ∃ c ∈ bs,bxF c then 11 else if ¬Zbz bs a a\/¬Zbz bs b b then 15 else if a=b then 0 else if lnk bs (ZcP bs a b) then 0 else 16
noncomputable def arP (f:Bool) (bs:List Bx) (a b:Gp):List Gp:=if arE bs a b=0 then (if a=b then [a] else shP f false bs (ZcP bs a b)) else []
end O
theorem weak_no (k:Int):Weak (AV.tup [.vnil,.int .i64 k]) (.tup [.vec false 2 [],.int .i64 k]):=.tup _ _ rfl fun i x y hx hy=>by
 match i with
 | 0=>simp at hx hy;subst hx;subst hy;exact .vnil 2
 | 1=>simp at hx hy;subst hx;subst hy;exact .refl _
 | i+2=>simp at hx
theorem weak_one (xs:List AV) (k:Int):Weak (AV.tup [.vec true 2 xs,.int .i64 k]) (.tup [.vec false 2 xs,.int .i64 k]):=.tup _ _ rfl fun i x y hx hy=>by
 match i with
 | 0=>simp at hx hy;subst hx;subst hy;exact .full 2 _
 | 1=>simp at hx hy;subst hx;subst hy;exact .refl _
 | i+2=>simp at hx
theorem ZeZ (bs:List Bx) (a b:Gp):(O.ZcP bs a b).length=4*bs.length+2:=by
 unfold O.ZcP
 rw [List.length_append,List.length_cons,List.length_flatMap]
 have:(bs.map fun c=>(O.crnP c).length).sum=4*bs.length:=by
  induction bs with
  | nil=>rfl
  | cons c bs ih=>rw [List.map_cons,List.sum_cons,ih,List.length_cons];show 4+_=_;omega
 rw [this];rfl
theorem nodP_last (bs:List Bx) (a b:Gp):(O.ZcP bs a b).getD ((O.ZcP bs a b).length-1) default=b:=by
 have e:(O.ZcP bs a b).length-1=(a::bs.flatMap O.crnP).length:=by unfold O.ZcP;simp
 rw [e,List.getD_eq_getElem?_getD]
 unfold O.ZcP
 rw [List.getElem?_append_right (Nat.le_refl _),Nat.sub_self];rfl
theorem Ze0 {bs:List Bx} {a b p:Gp}:p ∈ O.ZcP bs a b ↔ p ∈ O.Zbu bs a b:=by
 unfold O.ZcP O.Zbu
 simp only [List.mem_append,List.mem_cons,List.mem_flatMap,O.crnP,O.crnR,List.not_mem_nil,or_false]
 constructor
 ·rintro ((h | ⟨c,hc,h⟩) | h)
  ·exact .inl (.inl h)
  ·exact .inl (.inr ⟨c,hc,by rcases h with h | h | h | h <;> simp [h]⟩)
  ·exact .inr h
 ·rintro ((h | ⟨c,hc,h⟩) | h)
  ·exact .inl (.inl h)
  ·exact .inl (.inr ⟨c,hc,by rcases h with h | h | h | h <;> simp [h]⟩)
  ·exact .inr h
theorem nodP_ok {bs:List Bx} {a b:Gp} (hb:O.okB8 bs) (ha:O.ccp a) (hq:O.ccp b):O.okP8 (O.ZcP bs a b):=
 ⟨by rw [ZeZ];have:=hb.1;omega,fun p hp=>(nod_ok hb ha hq).2 p (Ze0.1 hp)⟩
theorem ZfD {l:List Gp} {p:Gp}:O.nd l p ↔ p ∈ l:=by
 constructor
 ·rintro ⟨i,hi,rfl⟩;exact ZaA hi
 ·intro h
  obtain ⟨j,hj,rfl⟩:=List.mem_iff_getElem.1 h
  exact ⟨j,hj,by rw [List.getD_eq_getElem?_getD,List.getElem?_eq_getElem hj,Option.getD_some]⟩
theorem wk_mono {nd nd':Gp->Prop} {fr:Gp->Gp->Prop} (h:∀ p,nd p->nd' p) {a q:Gp} {d:Int} (w:O.Wk nd fr a q d):O.Wk nd' fr a q d:=by
 induction w with
 | nil=>exact .nil
 | snoc _ k e ih=>exact .snoc ih (h _ k) e
theorem wk_nod {bs:List Bx} {a b p q:Gp} {d:Int}:O.Wk (O.nd (O.ZcP bs a b)) (O.Zbz bs) p q d ↔ O.Wk (O.nd (O.Zbu bs a b)) (O.Zbz bs) p q d:=
 ⟨wk_mono fun _ h=>ZfD.2 (Ze0.1 (ZfD.1 h)),wk_mono fun _ h=>ZfD.2 (Ze0.2 (ZfD.1 h))⟩
theorem lnk_nod {bs:List Bx} {a b:Gp}:O.lnk bs (O.ZcP bs a b) ↔ O.lnk bs (O.Zbu bs a b):=by
 unfold O.lnk
 rw [nod_last,nodP_last]
 exact ⟨fun ⟨d,w⟩=>⟨d,wk_nod.1 w⟩,fun ⟨d,w⟩=>⟨d,wk_nod.2 w⟩⟩
theorem Zez {p:Bx->Prop} {bs:List Bx}:O.any p bs=true ↔ ∃ c ∈ bs,p c:=by
 unfold O.any
 exact ⟨fun h=>dec_of h,fun h=>ZeM h⟩
noncomputable abbrev arR (f:Bool) (bs:List Bx) (a b:Gp):AV:=.tup [.vec false 2 ((O.arP f bs a b).map Gp.a),.int .i64 (O.arE bs a b)]
theorem ar_no {f:Bool} {bs:List Bx} {a b:Gp} {k:Int} (h:O.arE bs a b=k) (hk:k ≠ 0):Weak (AV.tup [.vnil,.int .i64 k]) (arR f bs a b):=by
 have e:O.arP f bs a b=[]:=by unfold O.arP;rw [h,if_neg hk]
 show Weak _ (AV.tup _)
 rw [e,h];exact weak_no k
section
variable {f:Bool} {bs:List Bx} {a b:Gp}
theorem ar_end (h:O.okSh bs (O.ZcP bs a b)) (ne:a ≠ b) (e:O.lnk bs (O.ZcP bs a b)->O.arE bs a b=0) (n:¬O.lnk bs (O.ZcP bs a b)->O.arE bs a b=16) {l:List Gp} (hl:l=O.ZcP bs a b) :
  ((O.lnk bs l)->(O.okSh bs l)/\Weak (AV.tup [AV.vec false 2 (AV.agg [.int .i64 (O.shH f false bs l).x,.int .i64 (O.shH f false bs l).y]::List.map Gp.a (O.shT f false bs l)),.int .i64 0]) (arR f bs a b)) /\
  (¬(O.lnk bs l)->(O.okSh bs l)/\Weak (AV.tup [AV.vnil,.int .i64 16]) (arR f bs a b)):=by
 subst hl
 refine ⟨fun k=>⟨h,?_⟩,fun k=>⟨h,ar_no (n k) (by decide)⟩⟩
 have e1:O.arP f bs a b=O.shP f false bs (O.ZcP bs a b):=by unfold O.arP;rw [if_pos (e k),if_neg ne]
 show Weak _ (AV.tup _)
 rw [e1,e k,shP_cons h k]
 exact .refl _
theorem ar_loop (h:O.okSh bs (O.ZcP bs a b)) (ne:a ≠ b) (e:O.lnk bs (O.ZcP bs a b)->O.arE bs a b=0) (n:¬O.lnk bs (O.ZcP bs a b)->O.arE bs a b=16) (m:Nat):∀ (i:Nat) (gs:List Gp) (v:Nat),i+m=bs.length->gs.length<=1+4*i->gs++(bs.drop i).flatMap O.crnP++[b]=O.ZcP bs a b->Zfx f bs gs v b.x b.y bs.length i (Zae (arR f bs a b)):=by
 have hb:=h.1.1
 induction m with
 | zero =>
  intro i gs v e1 hg eq
  rw [List.drop_eq_nil_of_le (by omega),List.flatMap_nil,List.append_nil] at eq
  exact qArL _ _ _ _ _ _ _ _ _ ⟨fun x=>by omega,fun _=>⟨by omega,ar_end h ne e n eq⟩⟩
 | succ m ih =>
  intro i gs v e1 hg eq
  have hi:i<bs.length:=by omega
  have nx:=ih (i+1) (gs++O.crnP (bs.getD i default)) (v+1) (by omega) (by rw [List.length_append];show gs.length+4<=_;omega) (by rw [<- eq,ZaP hi,List.flatMap_cons];simp only [List.append_assoc])
  refine qArL _ _ _ _ _ _ _ _ _ ⟨fun x => ?_,fun x=>by omega⟩
  rw [Int.toNat_natCast,show (i:Int)+1=((i+1:Nat):Int) by omega]
  exact ⟨by omega,hi,by omega,by omega,nx⟩
end
open Classical in
theorem ev11 (f:Bool) (bs:List Bx) (ax ay bx by_:Int) (h:bs.length<=100):Ev M1 (.pure 11 [.vec f 5 (bs.map Bx.a),.agg [.int .i64 ax,.int .i64 ay],.agg [.int .i64 bx,.int .i64 by_]]) (.tup [.vec false 2 ((O.arP f bs ⟨ax,ay⟩ ⟨bx,by_⟩).map Gp.a),.int .i64 (O.arE bs ⟨ax,ay⟩ ⟨bx,by_⟩)]) []:=by
 refine call11 (qAr _ _ _ _ _ _ _ ⟨h,fun k1=>ar_no ?_ (by decide),fun k1=>⟨fun k2=>ar_no ?_ (by decide),fun k2=>⟨fun k3=>ar_no ?_ (by decide),fun k3 => ?_⟩⟩⟩)
 ·unfold O.arE;rw [if_pos (Zez.1 k1)]
 ·unfold O.arE;rw [if_neg fun x=>k1 (Zez.2 x),if_pos (by omega)]
 ·unfold O.arE;rw [if_neg fun x=>k1 (Zez.2 x),if_neg (by omega),if_pos (k3.imp id Zez.1)]
 ·have n1:¬∃ c ∈ bs,O.bxI c:=fun x=>k1 (Zez.2 x)
  have n2:¬bs.length>8:=by omega
  have n3:¬(O.fr4 ax ay bx by_ \/ ∃ c ∈ bs,O.bxF c):=fun x=>k3 (x.imp id Zez.2)
  have hb:O.okB8 bs:=⟨h,fun c hc=>by
   have:¬O.bxF c:=fun x=>n3 (.inr ⟨c,hc,x⟩)
   unfold O.bxF O.fr4 O.fr1 at this
   unfold O.ccb O.cc;omega⟩
  have n4:¬O.fr4 ax ay bx by_:=fun x=>n3 (.inl x)
  unfold O.fr4 O.fr1 at n4
  have ha:O.ccp ⟨ax,ay⟩:=by unfold O.ccp O.cc;show (_<=ax/\ax<=_)/\_<=ay/\ay<=_;omega
  have hq:O.ccp ⟨bx,by_⟩:=by unfold O.ccp O.cc;show (_<=bx/\bx<=_)/\_<=by_/\by_<=_;omega
  have E:O.arE bs ⟨ax,ay⟩ ⟨bx,by_⟩=if ¬O.Zbz bs ⟨ax,ay⟩ ⟨ax,ay⟩\/¬O.Zbz bs ⟨bx,by_⟩ ⟨bx,by_⟩ then 15 else if (⟨ax,ay⟩:Gp)=⟨bx,by_⟩ then 0 else if O.lnk bs (O.ZcP bs ⟨ax,ay⟩ ⟨bx,by_⟩) then 0 else 16:=by
   unfold O.arE;rw [if_neg n1,if_neg n2,if_neg n3]
  refine ⟨⟨hb,ha,ha⟩,fun _=>⟨hb,hq,hq⟩,fun k4=>ar_no ?_ (by decide),fun k4 => ?_⟩
  ·rw [E,if_pos (k4.imp (fun x y=>x (ZdC.2 y)) fun x y=>x (ZdC.2 y))]
  ·have f4:¬(¬O.Zbz bs ⟨ax,ay⟩ ⟨ax,ay⟩\/¬O.Zbz bs ⟨bx,by_⟩ ⟨bx,by_⟩):=fun x=>k4 (x.imp (fun x y=>x (ZdC.1 y)) fun x y=>x (ZdC.1 y))
   have fa:O.Zbz bs ⟨ax,ay⟩ ⟨ax,ay⟩:=Classical.not_not.1 fun x=>f4 (.inl x)
   rw [if_neg f4] at E
   refine ⟨fun k5 => ?_,fun k5 => ?_⟩
   ·have e0:O.arE bs ⟨ax,ay⟩ ⟨bx,by_⟩=0:=by rw [E,if_pos (by rw [k5.1,k5.2])]
    have e1:O.arP f bs ⟨ax,ay⟩ ⟨bx,by_⟩=[⟨ax,ay⟩]:=by unfold O.arP;rw [if_pos e0,if_pos (by rw [k5.1,k5.2])]
    rw [e0,e1];exact weak_one _ _
   ·have ne:(⟨ax,ay⟩:Gp) ≠ ⟨bx,by_⟩:=fun x=>k5 (by injection x with x y;exact ⟨x,y⟩)
    rw [if_neg ne] at E
    have ok:O.okSh bs (O.ZcP bs ⟨ax,ay⟩ ⟨bx,by_⟩):=⟨hb,nodP_ok hb ha hq,by rw [ZeZ];omega,fa⟩
    have ey:O.lnk bs (O.ZcP bs ⟨ax,ay⟩ ⟨bx,by_⟩)->O.arE bs ⟨ax,ay⟩ ⟨bx,by_⟩=0:=fun k=>by rw [E,if_pos k]
    have en:¬O.lnk bs (O.ZcP bs ⟨ax,ay⟩ ⟨bx,by_⟩)->O.arE bs ⟨ax,ay⟩ ⟨bx,by_⟩=16:=fun k=>by rw [E,if_neg k]
    refine qArI _ _ _ _ _ _ _ _ _ ⟨fun x=>⟨by omega,by omega,by omega,?_⟩,fun x=>ar_end ok ne ey en ?_⟩
    ·have nx:=ar_loop (f:=f) ok ne ey en (bs.length-1) 1 ((⟨ax,ay⟩:Gp)::O.crnP (bs.getD 0 default)) 0 (by omega) (by show 5<=_;omega) (by
      have e:bs=bs.getD 0 default::bs.drop 1:=by
       have:=ZaP (d:=bs) (i:=0) (by omega);rwa [List.drop_zero] at this
      have e2:bs.flatMap O.crnP=O.crnP (bs.getD 0 default)++(bs.drop 1).flatMap O.crnP:=by conv=>lhs;rw [e,List.flatMap_cons]
      unfold O.ZcP
      rw [e2];simp)
     exact nx
    ·have:bs=[]:=List.eq_nil_of_length_eq_zero (by omega)
     subst this;rfl
end Go.Av

namespace Go.Av
open Go.Proofs
set_option maxRecDepth 100000
def fi90:Fi:=⟨68,[.tmp 4]⟩
def kp90:List (Nat × List Nat):=[(0,[0,1]),(1,[0,1,5]),(2,[1,5,18,19,20]),(3,[1,5,18,19,20,21]),(4,[1,5,6,7,18,19,20]),(5,[1,5,6,7,8,18,19,20]),(6,[1,5,6,7,8,18,19,20,25,26,27]),(7,[1,5,6,7,8,18,19,20,25,26,27,28]),(8,[1,5,6,7,8,9,10,18,19,20,25,26,27]),(9,[1,5,6,7,9,11,18,19,20,25,26,27]),(10,[1,5,6,7,8,18,19,20,25,26,27]),(11,[1,5,6,7,8,18,19,20,25,26,27]),(12,[1,5,18,19,20]),(13,[1,5,18,19,20]),(14,[4])]
def Zfb (fa fb:Bool) (a b:List Int) (Q:AV->Heap->Prop):Prop:=Wp M1 (.run fi90 (atC (cd Try.f90) []) [(0,.vec fa 1 (a.map (.int .u32))),(1,.vec fb 1 (b.map (.int .u32)))] []) Q
def Zcd (fb fx:Bool) (b x o:List Int) (n i:Int) (Q:AV->Heap->Prop):Prop:=Wp M1 (.run fi90 (atC (cd Try.f90) [1,1,0,1,0,0]) [(1,.vec fb 1 (b.map (.int .u32))),(5,.row 0 0),(18,.vec fx 1 (x.map (.int .u32))),(19,.int .i64 n),(20,.int .i64 i)] [⟨o.map (.int .u32),1,0,false,true⟩]) Q
def Zcc (fb fx fy:Bool) (b x y o:List Int) (i0 x0 c n i m k:Int) (Q:AV->Heap->Prop):Prop:=Wp M1 (.run fi90 (atC (cd Try.f90) [1,1,0,1,0,0,1,1,0,0,1,1,0,1,0,0]) [(1,.vec fb 1 (b.map (.int .u32))),(5,.row 0 0),(6,.int .i64 i0),(7,.int .u32 x0),(8,.int .u64 c),(18,.vec fx 1 (x.map (.int .u32))),(19,.int .i64 n),(20,.int .i64 i),(25,.vec fy 1 (y.map (.int .u32))),(26,.int .i64 m),(27,.int .i64 k)] [⟨o.map (.int .u32),1,0,false,true⟩]) Q
theorem call90 {args:List AV} {d:AV} (h:wc M1 fi90 Try.f90 args d):Ev M1 (.pure 90 args) d []:=pcl _ _ (by kernel_rfl) h
theorem owncall90 {args:List AV} {L:Heap} {Q:AV->Heap->Prop} (h:Wp M1 (.run fi90 [.code (cd Try.f90)] (ZbB 0 args) L) Q):Wp M1 (.own 90 args L) Q:=
 own_wp Try.f90 fi90 (by kernel_rfl) (by kernel_rfl) (by kernel_rfl) (by kernel_rfl) h
theorem vTimes (fa fb:Bool) (a b:List Int)  (Q:AV->Heap->Prop) (H :
  (-9223372036854775808<=(↑a.length:Int)+(↑b.length:Int)/\(↑a.length:Int)+(↑b.length:Int)<=9223372036854775807) /\
  (0<=(↑a.length:Int)+(↑b.length:Int)) /\
  (((↑a.length:Int)+(↑b.length:Int))*4<=1099511627776) /\
  ((↑a.length:Int)+(↑b.length:Int)<=1099511627776) /\
  Zcd fb fa b a (List.replicate ((↑a.length:Int)+(↑b.length:Int)).toNat (0:Int)) ((↑a.length:Int)) 0 Q) :
 Zfb fa fb a b Q:=by
 unfold Zfb
 have w1:(us a).length=a.length:=List.length_map ..
 have w2:(us b).length=b.length:=List.length_map ..
 obtain ⟨k3,H⟩:=H
 have w4:wi ((↑a.length:Int)+(↑b.length:Int))=(↑a.length:Int)+(↑b.length:Int):=wI64 k3
 have i5:(decide (0<=wi ((↑(us a).length:Int)+(↑(us b).length:Int))))=true ↔ (0<=(↑a.length:Int)+(↑b.length:Int)):=(by (try rw [w1]);(try rw [w2]);(try rw [w4]);all_goals exact Zab)
 obtain ⟨k6,H⟩:=H
 have i7:(decide (wi ((↑(us a).length:Int)+(↑(us b).length:Int))<=wi ((↑(us a).length:Int)+(↑(us b).length:Int))))=true ↔ ((↑a.length:Int)+(↑b.length:Int)<=(↑a.length:Int)+(↑b.length:Int)):=(by (try rw [w1]);(try rw [w2]);(try rw [w4]);all_goals exact Zab)
 have i8:(decide (wi ((↑(us a).length:Int)+(↑(us b).length:Int))*4<=1099511627776))=true ↔ (((↑a.length:Int)+(↑b.length:Int))*4<=1099511627776):=(by (try rw [w1]);(try rw [w2]);(try rw [w4]);all_goals exact Zab)
 obtain ⟨k9,H⟩:=H
 have i10:(decide (wi ((↑(us a).length:Int)+(↑(us b).length:Int))<=1099511627776))=true ↔ ((↑a.length:Int)+(↑b.length:Int)<=1099511627776):=(by (try rw [w1]);(try rw [w2]);(try rw [w4]);all_goals exact Zab)
 obtain ⟨k11,H⟩:=H
 have w12:List.replicate ((↑a.length:Int)+(↑b.length:Int)).toNat (vu 0)=us (List.replicate ((↑a.length:Int)+(↑b.length:Int)).toNat (0:Int)):=(ZfH rfl)
 exact Zac (G:=Zad kp90 [] []) 1000 [] ⟨(atC (cd Try.f90) [1,1,0,1,0,0]),[(1,AV.vec fb 1 (us b)),(5,AV.row 0 0),(18,AV.vec fa 1 (us a)),(19,vi (↑(us a).length:Int)),(20,vi 0)],[⟨List.replicate (wi ((↑(us a).length:Int)+(↑(us b).length:Int))).toNat (vu 0),1,0,false,true⟩],[decide (0<=wi ((↑(us a).length:Int)+(↑(us b).length:Int))),decide (wi ((↑(us a).length:Int)+(↑(us b).length:Int))<=wi ((↑(us a).length:Int)+(↑(us b).length:Int))),decide (wi ((↑(us a).length:Int)+(↑(us b).length:Int))*4<=1099511627776),decide (wi ((↑(us a).length:Int)+(↑(us b).length:Int))<=1099511627776)],[],_⟩ (by kernel_rfl) (bc (i5.2 k6) (bc (i7.2 (by omega)) (bc (i8.2 k9) (bc (i10.2 k11) b0)))) q0 c0 (by (try rw [w1]);(try rw [w2]);(try rw [w4]);(try rw [w12]);all_goals exact H)
theorem vTimesA (fb fx:Bool) (b x o:List Int) (n i:Int)  (Q:AV->Heap->Prop) (H :
  ((i<n)->(0<=i) /\
   (i.toNat<x.length) /\
   Zcc fb fx fb b x b o i (x.getD i.toNat default) 0 n i ((↑b.length:Int)) 0 Q) /\
  (¬(i<n)->Q (AV.row 0 0) [{ elems:=us o,es:=1,ver:=0,frozen:=false,clean:=true }])) :
 Zcd fb fx b x o n i Q:=by
 unfold Zcd
 rcases xq H with ⟨d2,H⟩|⟨d2,H⟩
 ·obtain ⟨k4,H⟩:=H
  have w5:(us x).length=x.length:=List.length_map ..
  have i6:(decide (i.toNat<(us x).length))=true ↔ (i.toNat<x.length):=(by (try rw [w5]);all_goals exact Zab)
  obtain ⟨k7,H⟩:=H
  have w8:(us b).length=b.length:=List.length_map ..
  exact Zac (G:=Zad kp90 [(4,2,.elem (vu (x.getD i.toNat default)))] []) 1000 [true] ⟨(atC (cd Try.f90) [1,1,0,1,0,0,1,1,0,0,1,1,0,1,0,0]),[(1,AV.vec fb 1 (us b)),(5,AV.row 0 0),(6,vi i),(7,vu (x.getD i.toNat default)),(8,vw 0),(18,AV.vec fx 1 (us x)),(19,vi n),(20,vi i),(25,AV.vec fb 1 (us b)),(26,vi (↑(us b).length:Int)),(27,vi 0)],[⟨us o,1,0,false,true⟩],_,[((us x).get?Internal i.toNat=some (vu (x.getD i.toNat default)))],_⟩ (by kernel_rfl) (bc (Zal (Zab.2 d2)) (bc (Zab.2 k4) (bc (i6.2 k7) b0))) (qc (Zai k7) q0) c0 (by (try rw [w8]);all_goals exact H)
 ·exact Zbm (G:=Zad kp90 [] []) 1000 [false] (k:=((atC (cd Try.f90) [1,1,1,1])).tail) (env':=[(4,AV.row 0 0)]) (L':=[⟨us o,1,0,false,true⟩]) (asm:=[(decide (i<n))==false]) (eqs:=[]) (calls:=[]) (AV.row 0 0) (by kernel_rfl) (by kernel_rfl) (Zag (Zak (fun h=>d2 (Zab.1 h))) Zax) ZaN ZaO H
theorem vTimesB (fb fx fy:Bool) (b x y o:List Int) (i0 x0 c n i m k:Int)  (Q:AV->Heap->Prop) (H :
  ((k<m)->(0<=k) /\
   (k.toNat<y.length) /\
   (-9223372036854775808<=i0+k/\i0+k<=9223372036854775807) /\
   (0<=i0+k) /\
   ((i0+k).toNat<o.length) /\
   (0<=o.getD (i0+k).toNat default/\o.getD (i0+k).toNat default<=18446744073709551615) /\
   (0<=x0/\x0<=18446744073709551615) /\
   (0<=y.getD k.toNat default/\y.getD k.toNat default<=18446744073709551615) /\
   (0<=x0*y.getD k.toNat default/\x0*y.getD k.toNat default<=18446744073709551615) /\
   (0<=o.getD (i0+k).toNat default+x0*y.getD k.toNat default/\o.getD (i0+k).toNat default+x0*y.getD k.toNat default<=18446744073709551615) /\
   (0<=o.getD (i0+k).toNat default+x0*y.getD k.toNat default+c/\o.getD (i0+k).toNat default+x0*y.getD k.toNat default+c<=18446744073709551615) /\
   (0<=(o.getD (i0+k).toNat default+x0*y.getD k.toNat default+c).tdiv 1000000000/\(o.getD (i0+k).toNat default+x0*y.getD k.toNat default+c).tdiv 1000000000<=18446744073709551615) /\
   (0<=(o.getD (i0+k).toNat default+x0*y.getD k.toNat default+c).tmod 1000000000/\(o.getD (i0+k).toNat default+x0*y.getD k.toNat default+c).tmod 1000000000<=4294967295) /\
   (-9223372036854775808<=k+1/\k+1<=9223372036854775807) /\
   Zcc fb fx fy b x y (o.set (i0+k).toNat ((o.getD (i0+k).toNat default+x0*y.getD k.toNat default+c).tmod 1000000000)) i0 x0 ((o.getD (i0+k).toNat default+x0*y.getD k.toNat default+c).tdiv 1000000000) n i m (k+1) Q) /\
  (¬(k<m)->(-9223372036854775808<=i0+(↑b.length:Int)/\i0+(↑b.length:Int)<=9223372036854775807) /\
   (0<=i0+(↑b.length:Int)) /\
   ((i0+(↑b.length:Int)).toNat<o.length) /\
   (0<=c/\c<=4294967295) /\
   (-9223372036854775808<=i+1/\i+1<=9223372036854775807) /\
   Zcd fb fx b x (o.set (i0+(↑b.length:Int)).toNat c) n (i+1) Q)) :
 Zcc fb fx fy b x y o i0 x0 c n i m k Q:=by
 unfold Zcc
 rcases xq H with ⟨d2,H⟩|⟨d2,H⟩
 ·obtain ⟨k4,H⟩:=H
  have w5:(us y).length=y.length:=List.length_map ..
  have i6:(decide (k.toNat<(us y).length))=true ↔ (k.toNat<y.length):=(by (try rw [w5]);all_goals exact Zab)
  obtain ⟨k7,k8,H⟩:=H
  have w9:wi (i0+k)=i0+k:=wI64 k8
  have i10:(decide (0<=wi (i0+k)))=true ↔ (0<=i0+k):=(by (try rw [w9]);all_goals exact Zab)
  obtain ⟨k11,H⟩:=H
  have w12:(us o).length=o.length:=List.length_map ..
  have i13:(decide ((wi (i0+k)).toNat<(us o).length))=true ↔ ((i0+k).toNat<o.length):=(by (try rw [w9]);(try rw [w12]);all_goals exact Zab)
  obtain ⟨k14,k15,H⟩:=H
  have w16:wu (o.getD (i0+k).toNat default)=o.getD (i0+k).toNat default:=wU64 k15
  obtain ⟨k17,H⟩:=H
  have w18:wu x0=x0:=wU64 k17
  obtain ⟨k19,H⟩:=H
  have w20:wu (y.getD k.toNat default)=y.getD k.toNat default:=wU64 k19
  obtain ⟨k21,H⟩:=H
  have w22:wu (x0*y.getD k.toNat default)=x0*y.getD k.toNat default:=wU64 k21
  obtain ⟨k23,H⟩:=H
  have w24:wu (o.getD (i0+k).toNat default+x0*y.getD k.toNat default)=o.getD (i0+k).toNat default+x0*y.getD k.toNat default:=wU64 k23
  obtain ⟨k25,H⟩:=H
  have w26:wu (o.getD (i0+k).toNat default+x0*y.getD k.toNat default+c)=o.getD (i0+k).toNat default+x0*y.getD k.toNat default+c:=wU64 k25
  have i27:(decide (0<=wi (i0+k)))=true ↔ (0<=i0+k):=(by (try rw [w9]);all_goals exact Zab)
  have i28:(decide ((wi (i0+k)).toNat<(us o).length))=true ↔ ((i0+k).toNat<o.length):=(by (try rw [w9]);(try rw [w12]);all_goals exact Zab)
  obtain ⟨k29,H⟩:=H
  have w30:wu ((o.getD (i0+k).toNat default+x0*y.getD k.toNat default+c).tdiv 1000000000)=(o.getD (i0+k).toNat default+x0*y.getD k.toNat default+c).tdiv 1000000000:=wU64 k29
  obtain ⟨k31,H⟩:=H
  have w32:wv ((o.getD (i0+k).toNat default+x0*y.getD k.toNat default+c).tmod 1000000000)=(o.getD (i0+k).toNat default+x0*y.getD k.toNat default+c).tmod 1000000000:=wU32 k31
  have w33:(us o).set (i0+k).toNat (vu ((o.getD (i0+k).toNat default+x0*y.getD k.toNat default+c).tmod 1000000000))=us (o.set (i0+k).toNat ((o.getD (i0+k).toNat default+x0*y.getD k.toNat default+c).tmod 1000000000)):=(Za4 rfl rfl)
  obtain ⟨k34,H⟩:=H
  have w35:wi (k+1)=k+1:=wI64 k34
  exact Zac (G:=Zad kp90 [(8,2,.elem (vu (y.getD k.toNat default))),(9,5,.elem (vu (o.getD (i0+k).toNat default))),(10,10,.elem (vu (o.getD (i0+k).toNat default)))] []) 1000 [true] ⟨(atC (cd Try.f90) [1,1,0,1,0,0,1,1,0,0,1,1,0,1,0,0]),[(1,AV.vec fb 1 (us b)),(5,AV.row 0 0),(6,vi i0),(7,vu x0),(8,vw (wu ((wu (wu (wu (o.getD (i0+k).toNat default)+wu (wu x0*wu (y.getD k.toNat default)))+c)).tdiv 1000000000))),(18,AV.vec fx 1 (us x)),(19,vi n),(20,vi i),(25,AV.vec fy 1 (us y)),(26,vi m),(27,vi (wi (k+1)))],[⟨(us o).set (wi (i0+k)).toNat (vu (wv ((wu (wu (wu (o.getD (i0+k).toNat default)+wu (wu x0*wu (y.getD k.toNat default)))+c)).tmod 1000000000))),1,0,false,true⟩],_,[((us y).get?Internal k.toNat=some (vu (y.getD k.toNat default))),((us o).get?Internal (wi (i0+k)).toNat=some (vu (o.getD (i0+k).toNat default))),((us o).get?Internal (wi (i0+k)).toNat=some (vu (o.getD (i0+k).toNat default)))],_⟩ (by kernel_rfl) (bc (Zal (Zab.2 d2)) (bc (Zab.2 k4) (bc (i6.2 k7) (bc rfl (bc (i10.2 k11) (bc (i13.2 k14) (bc rfl (bc rfl (bc rfl (bc rfl (bc (i27.2 k11) (bc (i28.2 k14) (bc rfl b0))))))))))))) (qc (Zai k7) (qc (by (try rw [w9]);all_goals exact (Zai k14)) (qc (by (try rw [w9]);all_goals exact (Zai k14)) q0))) c0 (by (try rw [w9]);(try rw [w16]);(try rw [w18]);(try rw [w20]);(try rw [w22]);(try rw [w24]);(try rw [w26]);(try rw [w30]);(try rw [w32]);(try rw [w33]);(try rw [w35]);all_goals exact H)
 ·have w36:(us b).length=b.length:=List.length_map ..
  obtain ⟨k37,H⟩:=H
  have w38:wi (i0+(↑b.length:Int))=i0+(↑b.length:Int):=wI64 k37
  have i39:(decide (0<=wi (i0+(↑(us b).length:Int))))=true ↔ (0<=i0+(↑b.length:Int)):=(by (try rw [w36]);(try rw [w38]);all_goals exact Zab)
  obtain ⟨k40,H⟩:=H
  have w41:(us o).length=o.length:=List.length_map ..
  have i42:(decide ((wi (i0+(↑(us b).length:Int))).toNat<(us o).length))=true ↔ ((i0+(↑b.length:Int)).toNat<o.length):=(by (try rw [w36]);(try rw [w38]);(try rw [w41]);all_goals exact Zab)
  obtain ⟨k43,k44,H⟩:=H
  have w45:wv c=c:=wU32 k44
  have w46:(us o).set (i0+(↑b.length:Int)).toNat (vu c)=us (o.set (i0+(↑b.length:Int)).toNat c):=(Za4 rfl rfl)
  obtain ⟨k47,H⟩:=H
  have w48:wi (i+1)=i+1:=wI64 k47
  exact Zac (G:=Zad kp90 [(12,8,.elem (vu (o.getD (i0+(↑b.length:Int)).toNat default)))] []) 1000 [false] ⟨(atC (cd Try.f90) [1,1,0,1,0,0]),[(1,AV.vec fb 1 (us b)),(5,AV.row 0 0),(18,AV.vec fx 1 (us x)),(19,vi n),(20,vi (wi (i+1)))],[⟨(us o).set (wi (i0+(↑(us b).length:Int))).toNat (vu (wv c)),1,0,false,true⟩],_,[((us o).get?Internal (wi (i0+(↑(us b).length:Int))).toNat=some (vu (o.getD (i0+(↑b.length:Int)).toNat default)))],_⟩ (by kernel_rfl) (bc (Zak (fun h=>d2 (Zab.1 h))) (bc rfl (bc (i39.2 k40) (bc (i42.2 k43) (bc rfl b0))))) (qc (by (try rw [w36]);(try rw [w38]);all_goals exact (Zai k43)) q0) c0 (by (try rw [w36]);(try rw [w38]);(try rw [w45]);(try rw [w46]);(try rw [w48]);all_goals exact H)
end Go.Av

namespace Go.Av
open Go.Proofs
set_option maxRecDepth 100000
def fi92:Fi:=⟨45,[.tmp 4]⟩
def kp92:List (Nat × List Nat):=[(0,[0,1]),(1,[0,1]),(2,[0,1,14]),(3,[19]),(4,[4]),(5,[4]),(6,[0,1,5]),(7,[0,1,5,24]),(8,[0,1,5]),(9,[0,1,5,35]),(10,[4]),(11,[0,1,5,44]),(12,[4]),(13,[4])]
def fi105:Fi:=⟨44,[.tmp 4,.tmp 5]⟩
def kp105:List (Nat × List Nat):=[(0,[0,1]),(1,[0,1,6]),(2,[0,1,6,7]),(3,[0,1,6,7,8]),(4,[0,1,6,7,8,17]),(5,[0,1,6,7,8]),(6,[0,1,6,8,9]),(7,[0,1,6,7,8]),(8,[4,5])]
def fi112:Fi:=⟨53,[.tmp 4]⟩
def kp112:List (Nat × List Nat):=[(0,[0,1]),(1,[0,1,13]),(2,[0,1]),(3,[0,1,5]),(4,[0,1,5,6]),(5,[1,5,6,20,21,22]),(6,[1,5,6,20,21,22,23]),(7,[1,5,6,7,8,20,21,22]),(8,[1,5,7,8,20,21,22]),(9,[1,5,7,8,20,21,22,33]),(10,[1,5,8,20,21,22]),(11,[1,5,6,8,20,21,22]),(12,[1,5,6,8,20,21,22,41]),(13,[1,5,6,8,20,21,22]),(14,[1,5,6,20,21,22]),(15,[1,5,6,20,21,22]),(16,[4])]
def fi113:Fi:=⟨44,[.tmp 4]⟩
def kp113:List (Nat × List Nat):=[(0,[0,1]),(1,[0,1,5]),(2,[0,1,5,6]),(3,[1,5,6,13,14,15]),(4,[1,5,6,13,14,15,16]),(5,[1,5,6,7,8,13,14,15]),(6,[1,5,7,8,9,13,14,15]),(7,[1,5,7,8,9,13,14,15,24]),(8,[1,5,7,8,9,13,14,15]),(9,[1,5,6,7,8,9,13,14,15]),(10,[1,5,6,7,8,9,13,14,15,33]),(11,[1,5,6,7,8,9,13,14,15]),(12,[1,5,6,13,14,15]),(13,[1,5,6,13,14,15]),(14,[4])]
def Zfg (fa fb:Bool) (a b:List Int) (Q:AV->Heap->Prop):Prop:=Wp M1 (.run fi92 (atC (cd Try.f92) []) [(0,.vec fa 1 (a.map (.int .u32))),(1,.vec fb 1 (b.map (.int .u32)))] []) Q
def ZbX (fa fb:Bool) (a b:List Int) (i:Int) (Q:AV->Heap->Prop):Prop:=Wp M1 (.run fi92 (atC (cd Try.f92) [1,1,1,0,1,0,0]) [(0,.vec fa 1 (a.map (.int .u32))),(1,.vec fb 1 (b.map (.int .u32))),(5,.int .i64 i)] []) Q
def vPlus_at (fa fb:Bool) (a b:List Int) (Q:AV->Heap->Prop):Prop:=Wp M1 (.run fi112 (atC (cd Try.f112) []) [(0,.vec fa 1 (a.map (.int .u32))),(1,.vec fb 1 (b.map (.int .u32)))] []) Q
def ZbW (fb fx:Bool) (b x o:List Int) (c n i:Int) (v:Nat) (Q:AV->Heap->Prop):Prop:=Wp M1 (.run fi112 (atC (cd Try.f112) [1,1,1,1,0,1,0,0]) [(1,.vec fb 1 (b.map (.int .u32))),(5,.row 0 v),(6,.int .u32 c),(20,.vec fx 1 (x.map (.int .u32))),(21,.int .i64 n),(22,.int .i64 i)] [⟨o.map (.int .u32),1,v,false,true⟩]) Q
def vMinus_at (fa fb:Bool) (a b:List Int) (Q:AV->Heap->Prop):Prop:=Wp M1 (.run fi113 (atC (cd Try.f113) []) [(0,.vec fa 1 (a.map (.int .u32))),(1,.vec fb 1 (b.map (.int .u32)))] []) Q
def Zbj (fb fx:Bool) (b x o:List Int) (c n i:Int) (Q:AV->Heap->Prop):Prop:=Wp M1 (.run fi113 (atC (cd Try.f113) [1,1,1,0,1,0,0]) [(1,.vec fb 1 (b.map (.int .u32))),(5,.row 0 0),(6,.int .u32 c),(13,.vec fx 1 (x.map (.int .u32))),(14,.int .i64 n),(15,.int .i64 i)] [⟨o.map (.int .u32),1,0,false,true⟩]) Q
def Zgv (fa:Bool) (a:List Int) (d:Int) (Q:AV->Heap->Prop):Prop:=Wp M1 (.run fi105 (atC (cd Try.f105) []) [(0,.vec fa 1 (a.map (.int .u32))),(1,.int .u32 d)] []) Q
def ZbK (fa:Bool) (a o:List Int) (d r i:Int) (Q:AV->Heap->Prop):Prop:=Wp M1 (.run fi105 (atC (cd Try.f105) [1,1,1,0,1,0,0]) [(0,.vec fa 1 (a.map (.int .u32))),(1,.int .u32 d),(6,.row 0 0),(7,.int .u64 r),(8,.int .i64 i)] [⟨o.map (.int .u32),1,0,false,true⟩]) Q
theorem call92 {args:List AV} {d:AV} (h:wc M1 fi92 Try.f92 args d):Ev M1 (.pure 92 args) d []:=pcl _ _ (by kernel_rfl) h
theorem call105 {args:List AV} {d:AV} (h:wc M1 fi105 Try.f105 args d):Ev M1 (.pure 105 args) d []:=pcl _ _ (by kernel_rfl) h
theorem call112 {args:List AV} {d:AV} (h:wc M1 fi112 Try.f112 args d):Ev M1 (.pure 112 args) d []:=pcl _ _ (by kernel_rfl) h
theorem call113 {args:List AV} {d:AV} (h:wc M1 fi113 Try.f113 args d):Ev M1 (.pure 113 args) d []:=pcl _ _ (by kernel_rfl) h
theorem vCompare (fa fb:Bool) (a b:List Int)  (dq:AV) (H :
  ∃ (l1:List Int),
  (Ev M1 (Conf.pure 101 [AV.vec fa 1 (us a)]) (vf (us l1)) []) /\
  ∃ (l2:List Int),
  (Ev M1 (Conf.pure 101 [AV.vec fb 1 (us b)]) (vf (us l2)) []) /\
  ((¬(↑l1.length:Int)=(↑l2.length:Int))->(((↑l1.length:Int)<(↑l2.length:Int))->vi (-1)=dq) /\
   (¬((↑l1.length:Int)<(↑l2.length:Int))->vi 1=dq)) /\
  (¬(¬(↑l1.length:Int)=(↑l2.length:Int))->(-9223372036854775808<=(↑l1.length:Int)-1/\(↑l1.length:Int)-1<=9223372036854775807) /\
   ZbX false false l1 l2 ((↑l1.length:Int)-1) (Zae dq))) :
 Zfg fa fb a b (Zae dq):=by
 unfold Zfg
 obtain ⟨l1,k1,l2,k2,H⟩:=H
 have w3:(us l1).length=l1.length:=List.length_map ..
 have w4:(us l2).length=l2.length:=List.length_map ..
 have i5:((↑(us l1).length:Int) != (↑(us l2).length:Int))=true ↔ (¬(↑l1.length:Int)=(↑l2.length:Int)):=(by (try rw [w3]);(try rw [w4]);all_goals exact i_ne)
 refine Zac (G:=Zad kp92 [(1,1,.call (vf (us l1)) none),(1,3,.call (vf (us l2)) none)] []) 7 [] ⟨(atC (cd Try.f92) [1,1,0,1]),[(0,vf (us l1)),(1,vf (us l2)),(14,vb ((↑(us l1).length:Int) != (↑(us l2).length:Int)))],[],_,[],_⟩ (by kernel_rfl) b0 q0 (ce k1 (ce k2 c0)) ?_
 rcases xq H with ⟨d6,H⟩|⟨d6,H⟩
 ·have i7:(decide ((↑(us l1).length:Int)<(↑(us l2).length:Int)))=true ↔ ((↑l1.length:Int)<(↑l2.length:Int)):=(by (try rw [w3]);(try rw [w4]);all_goals exact Zab)
  rcases xq H with ⟨d8,H⟩|⟨d8,H⟩
  ·exact Zah (G:=Zad kp92 [] []) 1000 [true,true] (vi (-1)) (by kernel_rfl) (bc (Zal (i5.2 d6)) (bc (Zal (i7.2 d8)) b0)) q0 c0 H
  ·exact Zah (G:=Zad kp92 [] []) 1000 [true,false] (vi 1) (by kernel_rfl) (bc (Zal (i5.2 d6)) (bc (Zak (fun h=>d8 (i7.1 h))) b0)) q0 c0 H
 ·obtain ⟨k9,H⟩:=H
  have w10:wi ((↑l1.length:Int)-1)=(↑l1.length:Int)-1:=wI64 k9
  exact Zac (G:=Zad kp92 [] []) 1000 [false] ⟨(atC (cd Try.f92) [1,1,1,0,1,0,0]),[(0,vf (us l1)),(1,vf (us l2)),(5,vi (wi ((↑(us l1).length:Int)-1)))],[],_,[],_⟩ (by kernel_rfl) (bc (Zak (fun h=>d6 (i5.1 h))) b0) q0 c0 (by (try rw [w3]);(try rw [w10]);all_goals exact H)
theorem vCompareA (fa fb:Bool) (a b:List Int) (i:Int)  (dq:AV) (H :
  ((i>=0)->(0<=i) /\
   (i.toNat<a.length) /\
   (i.toNat<b.length) /\
   ((a.getD i.toNat default<b.getD i.toNat default)->vi (-1)=dq) /\
   (¬(a.getD i.toNat default<b.getD i.toNat default)->((a.getD i.toNat default>b.getD i.toNat default)->vi 1=dq) /\
    (¬(a.getD i.toNat default>b.getD i.toNat default)->(-9223372036854775808<=i-1/\i-1<=9223372036854775807) /\
     ZbX fa fb a b (i-1) (Zae dq)))) /\
  (¬(i>=0)->vi 0=dq)) :
 ZbX fa fb a b i (Zae dq):=by
 unfold ZbX
 rcases xq H with ⟨d2,H⟩|⟨d2,H⟩
 ·obtain ⟨k4,H⟩:=H
  have w5:(us a).length=a.length:=List.length_map ..
  have i6:(decide (i.toNat<(us a).length))=true ↔ (i.toNat<a.length):=(by (try rw [w5]);all_goals exact Zab)
  obtain ⟨k7,H⟩:=H
  have w9:(us b).length=b.length:=List.length_map ..
  have i10:(decide (i.toNat<(us b).length))=true ↔ (i.toNat<b.length):=(by (try rw [w9]);all_goals exact Zab)
  obtain ⟨k11,H⟩:=H
  refine Zac (G:=Zad kp92 [(9,3,.elem (vu (a.getD i.toNat default))),(9,7,.elem (vu (b.getD i.toNat default)))] []) 10 [true] ⟨(atC (cd Try.f92) [1,1,1,0,1,0,0,1,0,0,0,1]),[(0,AV.vec fa 1 (us a)),(1,AV.vec fb 1 (us b)),(5,vi i),(35,vb (decide (a.getD i.toNat default<b.getD i.toNat default)))],[],_,[((us a).get?Internal i.toNat=some (vu (a.getD i.toNat default))),((us b).get?Internal i.toNat=some (vu (b.getD i.toNat default)))],_⟩ (by kernel_rfl) (bc (Zal (Zab.2 d2)) (bc (Zab.2 k4) (bc (i6.2 k7) (bc (Zab.2 k4) (bc (i10.2 k11) b0))))) (qc (Zai k7) (qc (Zai k11) q0)) c0 ?_
  rcases xq H with ⟨d13,H⟩|⟨d13,H⟩
  ·exact Zah (G:=Zad kp92 [] []) 1000 [true] (vi (-1)) (by kernel_rfl) (bc (Zal (Zab.2 d13)) b0) q0 c0 H
  ·have i15:(decide (i.toNat<(us a).length))=true ↔ (i.toNat<a.length):=(by (try rw [w5]);all_goals exact Zab)
   have i17:(decide (i.toNat<(us b).length))=true ↔ (i.toNat<b.length):=(by (try rw [w9]);all_goals exact Zab)
   refine Zac (G:=Zad kp92 [(11,3,.elem (vu (a.getD i.toNat default))),(11,7,.elem (vu (b.getD i.toNat default)))] []) 4 [false] ⟨(atC (cd Try.f92) [1,1,1,0,1,0,0,1,0,0,1,1]),[(0,AV.vec fa 1 (us a)),(1,AV.vec fb 1 (us b)),(5,vi i),(44,vb (decide (a.getD i.toNat default>b.getD i.toNat default)))],[],_,[((us a).get?Internal i.toNat=some (vu (a.getD i.toNat default))),((us b).get?Internal i.toNat=some (vu (b.getD i.toNat default)))],_⟩ (by kernel_rfl) (bc (Zak (fun h=>d13 (Zab.1 h))) (bc (Zab.2 k4) (bc (i15.2 k7) (bc (Zab.2 k4) (bc (i17.2 k11) b0))))) (qc (Zai k7) (qc (Zai k11) q0)) c0 ?_
   rcases xq H with ⟨d19,H⟩|⟨d19,H⟩
   ·exact Zah (G:=Zad kp92 [] []) 1000 [true] (vi 1) (by kernel_rfl) (bc (Zal (Zab.2 d19)) b0) q0 c0 H
   ·obtain ⟨k20,H⟩:=H
    have w21:wi (i-1)=i-1:=wI64 k20
    exact Zac (G:=Zad kp92 [] []) 1000 [false] ⟨(atC (cd Try.f92) [1,1,1,0,1,0,0]),[(0,AV.vec fa 1 (us a)),(1,AV.vec fb 1 (us b)),(5,vi (wi (i-1)))],[],_,[],_⟩ (by kernel_rfl) (bc (Zak (fun h=>d19 (Zab.1 h))) b0) q0 c0 (by (try rw [w21]);all_goals exact H)
 ·exact Zah (G:=Zad kp92 [] []) 1000 [false] (vi 0) (by kernel_rfl) (bc (Zak (fun h=>d2 (Zab.1 h))) b0) q0 c0 H
theorem vPlus (fa fb:Bool) (a b:List Int)  (dq:AV) (H :
  (((↑a.length:Int)<(↑b.length:Int))->(-9223372036854775808<=(↑b.length:Int)+1/\(↑b.length:Int)+1<=9223372036854775807) /\
   (0<=(↑b.length:Int)+1) /\
   (((↑b.length:Int)+1)*4<=1099511627776) /\
   ((↑b.length:Int)+1<=1099511627776) /\
   Wp M1 (.run fi112 (atC (cd Try.f112) [1,1,1,1,0,1,0,0]) [(1,AV.vec fa 1 (us a)),(5,AV.row 0 0),(6,vu 0),(20,AV.vec fb 1 (us b)),(21,vi (↑b.length:Int)),(22,vi 0)] [{ elems:=[],es:=1,ver:=0,frozen:=false,clean:=true }]) (Zae dq)) /\
  (¬((↑a.length:Int)<(↑b.length:Int))->(-9223372036854775808<=(↑a.length:Int)+1/\(↑a.length:Int)+1<=9223372036854775807) /\
   (0<=(↑a.length:Int)+1) /\
   (((↑a.length:Int)+1)*4<=1099511627776) /\
   ((↑a.length:Int)+1<=1099511627776) /\
   Wp M1 (.run fi112 (atC (cd Try.f112) [1,1,1,1,0,1,0,0]) [(1,AV.vec fb 1 (us b)),(5,AV.row 0 0),(6,vu 0),(20,AV.vec fa 1 (us a)),(21,vi (↑a.length:Int)),(22,vi 0)] [{ elems:=[],es:=1,ver:=0,frozen:=false,clean:=true }]) (Zae dq))) :
 vPlus_at fa fb a b (Zae dq):=by
 unfold vPlus_at
 have w1:(us a).length=a.length:=List.length_map ..
 have w2:(us b).length=b.length:=List.length_map ..
 have i3:(decide ((↑(us a).length:Int)<(↑(us b).length:Int)))=true ↔ ((↑a.length:Int)<(↑b.length:Int)):=(by (try rw [w1]);(try rw [w2]);all_goals exact Zab)
 rcases xq H with ⟨d4,H⟩|⟨d4,H⟩
 ·obtain ⟨k5,H⟩:=H
  have w6:wi ((↑b.length:Int)+1)=(↑b.length:Int)+1:=wI64 k5
  have i7:(decide (0<=wi ((↑(us b).length:Int)+1)))=true ↔ (0<=(↑b.length:Int)+1):=(by (try rw [w2]);(try rw [w6]);all_goals exact Zab)
  obtain ⟨k8,H⟩:=H
  have i9:(decide (wi ((↑(us b).length:Int)+1)*4<=1099511627776))=true ↔ (((↑b.length:Int)+1)*4<=1099511627776):=(by (try rw [w2]);(try rw [w6]);all_goals exact Zab)
  obtain ⟨k10,H⟩:=H
  have i11:(decide (wi ((↑(us b).length:Int)+1)<=1099511627776))=true ↔ ((↑b.length:Int)+1<=1099511627776):=(by (try rw [w2]);(try rw [w6]);all_goals exact Zab)
  obtain ⟨k12,H⟩:=H
  have w13:[]=us []:=rfl
  exact Zac (G:=Zad kp112 [] []) 1000 [true] ⟨(atC (cd Try.f112) [1,1,1,1,0,1,0,0]),[(1,AV.vec fa 1 (us a)),(5,AV.row 0 0),(6,vu 0),(20,AV.vec fb 1 (us b)),(21,vi (↑(us b).length:Int)),(22,vi 0)],[⟨[],1,0,false,true⟩],_,[],_⟩ (by kernel_rfl) (bc (Zal (i3.2 d4)) (bc rfl (bc (i7.2 k8) (bc (i9.2 k10) (bc (i11.2 k12) b0))))) q0 c0 (by (try rw [w2]);(try rw [w13]);all_goals exact H)
 ·obtain ⟨k14,H⟩:=H
  have w15:wi ((↑a.length:Int)+1)=(↑a.length:Int)+1:=wI64 k14
  have i16:(decide (0<=wi ((↑(us a).length:Int)+1)))=true ↔ (0<=(↑a.length:Int)+1):=(by (try rw [w1]);(try rw [w15]);all_goals exact Zab)
  obtain ⟨k17,H⟩:=H
  have i18:(decide (wi ((↑(us a).length:Int)+1)*4<=1099511627776))=true ↔ (((↑a.length:Int)+1)*4<=1099511627776):=(by (try rw [w1]);(try rw [w15]);all_goals exact Zab)
  obtain ⟨k19,H⟩:=H
  have i20:(decide (wi ((↑(us a).length:Int)+1)<=1099511627776))=true ↔ ((↑a.length:Int)+1<=1099511627776):=(by (try rw [w1]);(try rw [w15]);all_goals exact Zab)
  obtain ⟨k21,H⟩:=H
  have w22:[]=us []:=rfl
  exact Zac (G:=Zad kp112 [] []) 1000 [false] ⟨(atC (cd Try.f112) [1,1,1,1,0,1,0,0]),[(1,AV.vec fb 1 (us b)),(5,AV.row 0 0),(6,vu 0),(20,AV.vec fa 1 (us a)),(21,vi (↑(us a).length:Int)),(22,vi 0)],[⟨[],1,0,false,true⟩],_,[],_⟩ (by kernel_rfl) (bc (Zak (fun h=>d4 (i3.1 h))) (bc rfl (bc (i16.2 k17) (bc (i18.2 k19) (bc (i20.2 k21) b0))))) q0 c0 (by (try rw [w1]);(try rw [w22]);all_goals exact H)
theorem vPlusA (fb fx:Bool) (b x o:List Int) (c n i:Int) (v:Nat)  (dq:AV) (H :
  ((i<n)->(0<=i) /\
   (i.toNat<x.length) /\
   (0<=x.getD i.toNat default+c/\x.getD i.toNat default+c<=4294967295) /\
   ((i<(↑b.length:Int))->(i.toNat<b.length) /\
    (0<=x.getD i.toNat default+c+b.getD i.toNat default/\x.getD i.toNat default+c+b.getD i.toNat default<=4294967295) /\
    ((x.getD i.toNat default+c+b.getD i.toNat default>=1000000000)->(0<=x.getD i.toNat default+c+b.getD i.toNat default-1000000000/\x.getD i.toNat default+c+b.getD i.toNat default-1000000000<=4294967295) /\
     ((o.length+1)*4<=1099511627776) /\
     (-9223372036854775808<=i+1/\i+1<=9223372036854775807) /\
     ZbW fb fx b x (o++[x.getD i.toNat default+c+b.getD i.toNat default-1000000000]) 1 n (i+1) (v+1) (Zae dq)) /\
    (¬(x.getD i.toNat default+c+b.getD i.toNat default>=1000000000)->((o.length+1)*4<=1099511627776) /\
     (-9223372036854775808<=i+1/\i+1<=9223372036854775807) /\
     ZbW fb fx b x (o++[x.getD i.toNat default+c+b.getD i.toNat default]) 0 n (i+1) (v+1) (Zae dq))) /\
   (¬(i<(↑b.length:Int))->((x.getD i.toNat default+c>=1000000000)->(0<=x.getD i.toNat default+c-1000000000/\x.getD i.toNat default+c-1000000000<=4294967295) /\
     ((o.length+1)*4<=1099511627776) /\
     (-9223372036854775808<=i+1/\i+1<=9223372036854775807) /\
     ZbW fb fx b x (o++[x.getD i.toNat default+c-1000000000]) 1 n (i+1) (v+1) (Zae dq)) /\
    (¬(x.getD i.toNat default+c>=1000000000)->((o.length+1)*4<=1099511627776) /\
     (-9223372036854775808<=i+1/\i+1<=9223372036854775807) /\
     ZbW fb fx b x (o++[x.getD i.toNat default+c]) 0 n (i+1) (v+1) (Zae dq)))) /\
  (¬(i<n)->((o.length+1)*4<=1099511627776) /\
   Weak (vf (us (o++[c]))) dq)) :
 ZbW fb fx b x o c n i v (Zae dq):=by
 unfold ZbW
 rcases xq H with ⟨d2,H⟩|⟨d2,H⟩
 ·obtain ⟨k4,H⟩:=H
  have w5:(us x).length=x.length:=List.length_map ..
  have i6:(decide (i.toNat<(us x).length))=true ↔ (i.toNat<x.length):=(by (try rw [w5]);all_goals exact Zab)
  obtain ⟨k7,k8,H⟩:=H
  have w9:wv (x.getD i.toNat default+c)=x.getD i.toNat default+c:=wU32 k8
  have w10:(us b).length=b.length:=List.length_map ..
  have i11:(decide (i<(↑(us b).length:Int)))=true ↔ (i<(↑b.length:Int)):=(by (try rw [w10]);all_goals exact Zab)
  refine Zac (G:=Zad kp112 [(7,2,.elem (vu (x.getD i.toNat default)))] []) 14 [true] ⟨(atC (cd Try.f112) [1,1,1,1,0,1,0,0,1,1,0,0,1,1,0,1]),[(1,AV.vec fb 1 (us b)),(5,AV.row 0 v),(7,vi i),(8,vu (wv (x.getD i.toNat default+c))),(20,AV.vec fx 1 (us x)),(21,vi n),(22,vi i),(33,vb (decide (i<(↑(us b).length:Int))))],[⟨us o,1,v,false,true⟩],_,[((us x).get?Internal i.toNat=some (vu (x.getD i.toNat default)))],_⟩ (by kernel_rfl) (bc (Zal (Zab.2 d2)) (bc (Zab.2 k4) (bc (i6.2 k7) b0))) (qc (Zai k7) q0) c0 ?_
  rcases xq H with ⟨d12,H⟩|⟨d12,H⟩
  ·have i14:(decide (i.toNat<(us b).length))=true ↔ (i.toNat<b.length):=(by (try rw [w10]);all_goals exact Zab)
   obtain ⟨k15,k16,H⟩:=H
   have w17:wv (x.getD i.toNat default+c+b.getD i.toNat default)=x.getD i.toNat default+c+b.getD i.toNat default:=wU32 k16
   have i18:(decide (wv (wv (x.getD i.toNat default+c)+b.getD i.toNat default)>=1000000000))=true ↔ (x.getD i.toNat default+c+b.getD i.toNat default>=1000000000):=(by (try rw [w9]);(try rw [w17]);all_goals exact Zab)
   refine Zac (G:=Zad kp112 [(10,4,.elem (vu (b.getD i.toNat default)))] []) 7 [true] ⟨(atC (cd Try.f112) [1,1,1,1,0,1,0,0,1,1,0,0,1,1,1,1,0,1]),[(1,AV.vec fb 1 (us b)),(5,AV.row 0 v),(6,vu 0),(8,vu (wv (wv (x.getD i.toNat default+c)+b.getD i.toNat default))),(20,AV.vec fx 1 (us x)),(21,vi n),(22,vi i),(41,vb (decide (wv (wv (x.getD i.toNat default+c)+b.getD i.toNat default)>=1000000000)))],[⟨us o,1,v,false,true⟩],_,[((us b).get?Internal i.toNat=some (vu (b.getD i.toNat default)))],_⟩ (by kernel_rfl) (bc (Zal (i11.2 d12)) (bc (Zab.2 k4) (bc (i14.2 k15) b0))) (qc (Zai k15) q0) c0 ?_
   rcases xq H with ⟨d19,H⟩|⟨d19,H⟩
   ·obtain ⟨k20,H⟩:=H
    have w21:wv (x.getD i.toNat default+c+b.getD i.toNat default-1000000000)=x.getD i.toNat default+c+b.getD i.toNat default-1000000000:=wU32 k20
    have w22:(us o).length=o.length:=List.length_map ..
    have i23:(decide (((us o).length+1)*4<=1099511627776))=true ↔ ((o.length+1)*4<=1099511627776):=(by (try rw [w9]);(try rw [w17]);(try rw [w21]);(try rw [w22]);all_goals exact Zab)
    obtain ⟨k24,H⟩:=H
    have w25:us o++[vu (x.getD i.toNat default+c+b.getD i.toNat default-1000000000)]=us (o++[x.getD i.toNat default+c+b.getD i.toNat default-1000000000]):=(ZcO rfl rfl)
    obtain ⟨k26,H⟩:=H
    have w27:wi (i+1)=i+1:=wI64 k26
    exact Zac (G:=Zad kp112 [] []) 1000 [true] ⟨(atC (cd Try.f112) [1,1,1,1,0,1,0,0]),[(1,AV.vec fb 1 (us b)),(5,AV.row 0 (v+1)),(6,vu 1),(20,AV.vec fx 1 (us x)),(21,vi n),(22,vi (wi (i+1)))],[⟨us o++[vu (wv (wv (wv (x.getD i.toNat default+c)+b.getD i.toNat default)-1000000000))],1,v+1,false,true⟩],[(decide (wv (wv (x.getD i.toNat default+c)+b.getD i.toNat default)>=1000000000))==true,v==v,decide (((us o).length+1)*4<=1099511627776)],[],_⟩ (by kernel_rfl) (bc (Zal (i18.2 d19)) (bc (beq_self_eq_true _) (bc (i23.2 k24) b0))) q0 c0 (by (try rw [w9]);(try rw [w17]);(try rw [w21]);(try rw [w25]);(try rw [w27]);all_goals exact H)
   ·have w28:(us o).length=o.length:=List.length_map ..
    have i29:(decide (((us o).length+1)*4<=1099511627776))=true ↔ ((o.length+1)*4<=1099511627776):=(by (try rw [w9]);(try rw [w17]);(try rw [w28]);all_goals exact Zab)
    obtain ⟨k30,H⟩:=H
    have w31:us o++[vu (x.getD i.toNat default+c+b.getD i.toNat default)]=us (o++[x.getD i.toNat default+c+b.getD i.toNat default]):=(ZcO rfl rfl)
    obtain ⟨k32,H⟩:=H
    have w33:wi (i+1)=i+1:=wI64 k32
    exact Zac (G:=Zad kp112 [] []) 1000 [false] ⟨(atC (cd Try.f112) [1,1,1,1,0,1,0,0]),[(1,AV.vec fb 1 (us b)),(5,AV.row 0 (v+1)),(6,vu 0),(20,AV.vec fx 1 (us x)),(21,vi n),(22,vi (wi (i+1)))],[⟨us o++[vu (wv (wv (x.getD i.toNat default+c)+b.getD i.toNat default))],1,v+1,false,true⟩],[(decide (wv (wv (x.getD i.toNat default+c)+b.getD i.toNat default)>=1000000000))==false,v==v,decide (((us o).length+1)*4<=1099511627776)],[],_⟩ (by kernel_rfl) (bc (Zak (fun h=>d19 (i18.1 h))) (bc (beq_self_eq_true _) (bc (i29.2 k30) b0))) q0 c0 (by (try rw [w9]);(try rw [w17]);(try rw [w31]);(try rw [w33]);all_goals exact H)
  ·have i34:(decide (wv (x.getD i.toNat default+c)>=1000000000))=true ↔ (x.getD i.toNat default+c>=1000000000):=(by (try rw [w9]);all_goals exact Zab)
   rcases xq H with ⟨d35,H⟩|⟨d35,H⟩
   ·obtain ⟨k36,H⟩:=H
    have w37:wv (x.getD i.toNat default+c-1000000000)=x.getD i.toNat default+c-1000000000:=wU32 k36
    have w38:(us o).length=o.length:=List.length_map ..
    have i39:(decide (((us o).length+1)*4<=1099511627776))=true ↔ ((o.length+1)*4<=1099511627776):=(by (try rw [w9]);(try rw [w37]);(try rw [w38]);all_goals exact Zab)
    obtain ⟨k40,H⟩:=H
    have w41:us o++[vu (x.getD i.toNat default+c-1000000000)]=us (o++[x.getD i.toNat default+c-1000000000]):=(ZcO rfl rfl)
    obtain ⟨k42,H⟩:=H
    have w43:wi (i+1)=i+1:=wI64 k42
    exact Zac (G:=Zad kp112 [] []) 1000 [false,true] ⟨(atC (cd Try.f112) [1,1,1,1,0,1,0,0]),[(1,AV.vec fb 1 (us b)),(5,AV.row 0 (v+1)),(6,vu 1),(20,AV.vec fx 1 (us x)),(21,vi n),(22,vi (wi (i+1)))],[⟨us o++[vu (wv (wv (x.getD i.toNat default+c)-1000000000))],1,v+1,false,true⟩],[(decide (i<(↑(us b).length:Int)))==false,(decide (wv (x.getD i.toNat default+c)>=1000000000))==true,v==v,decide (((us o).length+1)*4<=1099511627776)],[],_⟩ (by kernel_rfl) (bc (Zak (fun h=>d12 (i11.1 h))) (bc (Zal (i34.2 d35)) (bc (beq_self_eq_true _) (bc (i39.2 k40) b0)))) q0 c0 (by (try rw [w9]);(try rw [w37]);(try rw [w41]);(try rw [w43]);all_goals exact H)
   ·have w44:(us o).length=o.length:=List.length_map ..
    have i45:(decide (((us o).length+1)*4<=1099511627776))=true ↔ ((o.length+1)*4<=1099511627776):=(by (try rw [w9]);(try rw [w44]);all_goals exact Zab)
    obtain ⟨k46,H⟩:=H
    have w47:us o++[vu (x.getD i.toNat default+c)]=us (o++[x.getD i.toNat default+c]):=(ZcO rfl rfl)
    obtain ⟨k48,H⟩:=H
    have w49:wi (i+1)=i+1:=wI64 k48
    exact Zac (G:=Zad kp112 [] []) 1000 [false,false] ⟨(atC (cd Try.f112) [1,1,1,1,0,1,0,0]),[(1,AV.vec fb 1 (us b)),(5,AV.row 0 (v+1)),(6,vu 0),(20,AV.vec fx 1 (us x)),(21,vi n),(22,vi (wi (i+1)))],[⟨us o++[vu (wv (x.getD i.toNat default+c))],1,v+1,false,true⟩],[(decide (i<(↑(us b).length:Int)))==false,(decide (wv (x.getD i.toNat default+c)>=1000000000))==false,v==v,decide (((us o).length+1)*4<=1099511627776)],[],_⟩ (by kernel_rfl) (bc (Zak (fun h=>d12 (i11.1 h))) (bc (Zak (fun h=>d35 (i34.1 h))) (bc (beq_self_eq_true _) (bc (i45.2 k46) b0)))) q0 c0 (by (try rw [w9]);(try rw [w47]);(try rw [w49]);all_goals exact H)
 ·have w50:(us o).length=o.length:=List.length_map ..
  have i51:(decide (((us o).length+1)*4<=1099511627776))=true ↔ ((o.length+1)*4<=1099511627776):=(by (try rw [w50]);all_goals exact Zab)
  obtain ⟨k52,H⟩:=H
  have w53:us o++[vu c]=us (o++[c]):=(ZcO rfl rfl)
  exact Zbm (G:=Zad kp112 [] []) 1000 [false] (k:=((atC (cd Try.f112) [1,1,1,1,1,1])).tail) (env':=[(4,AV.row 0 (v+1))]) (L':=[⟨us o++[vu c],1,v+1,false,true⟩]) (asm:=[(decide (i<n))==false,v==v,decide (((us o).length+1)*4<=1099511627776)]) (eqs:=[]) (calls:=[]) (AV.row 0 (v+1)) (by kernel_rfl) (by kernel_rfl) (Zag (Zak (fun h=>d2 (Zab.1 h))) (Zag (beq_self_eq_true _) (Zag (i51.2 k52) Zax))) ZaN ZaO (ZcF (d:=(vf (us o++[vu c]))) (bs:=[v+1==v+1]) (by kernel_rfl) (by kernel_rfl) (Zag (beq_self_eq_true _) Zax) (by kernel_rfl) (by (try rw [w53]);all_goals exact H))
theorem vMinus (fa fb:Bool) (a b:List Int)  (dq:AV) (H :
  (0<=(↑a.length:Int)) /\
  ((↑a.length:Int)*4<=1099511627776) /\
  ((↑a.length:Int)<=1099511627776) /\
  Zbj fb fa b a (List.replicate (↑a.length:Int).toNat (0:Int)) 0 ((↑a.length:Int)) 0 (Zae dq)) :
 vMinus_at fa fb a b (Zae dq):=by
 unfold vMinus_at
 have w1:(us a).length=a.length:=List.length_map ..
 have i2:(decide (0<=(↑(us a).length:Int)))=true ↔ (0<=(↑a.length:Int)):=(by (try rw [w1]);all_goals exact Zab)
 obtain ⟨k3,H⟩:=H
 have i4:(decide ((↑(us a).length:Int)<=(↑(us a).length:Int)))=true ↔ ((↑a.length:Int)<=(↑a.length:Int)):=(by (try rw [w1]);all_goals exact Zab)
 have i5:(decide ((↑(us a).length:Int)*4<=1099511627776))=true ↔ ((↑a.length:Int)*4<=1099511627776):=(by (try rw [w1]);all_goals exact Zab)
 obtain ⟨k6,H⟩:=H
 have i7:(decide ((↑(us a).length:Int)<=1099511627776))=true ↔ ((↑a.length:Int)<=1099511627776):=(by (try rw [w1]);all_goals exact Zab)
 obtain ⟨k8,H⟩:=H
 have w9:List.replicate (↑a.length:Int).toNat (vu 0)=us (List.replicate (↑a.length:Int).toNat (0:Int)):=(ZfH rfl)
 exact Zac (G:=Zad kp113 [] []) 1000 [] ⟨(atC (cd Try.f113) [1,1,1,0,1,0,0]),[(1,AV.vec fb 1 (us b)),(5,AV.row 0 0),(6,vu 0),(13,AV.vec fa 1 (us a)),(14,vi (↑(us a).length:Int)),(15,vi 0)],[⟨List.replicate (↑(us a).length:Int).toNat (vu 0),1,0,false,true⟩],[decide (0<=(↑(us a).length:Int)),decide ((↑(us a).length:Int)<=(↑(us a).length:Int)),decide ((↑(us a).length:Int)*4<=1099511627776),decide ((↑(us a).length:Int)<=1099511627776)],[],_⟩ (by kernel_rfl) (bc (i2.2 k3) (bc (i4.2 (by omega)) (bc (i5.2 k6) (bc (i7.2 k8) b0)))) q0 c0 (by (try rw [w1]);(try rw [w9]);all_goals exact H)
theorem vMinusA (fb fx:Bool) (b x o:List Int) (c n i:Int)  (dq:AV) (H :
  ((i<n)->(0<=i) /\
   (i.toNat<x.length) /\
   ((i<(↑b.length:Int))->(i.toNat<b.length) /\
    (0<=c+b.getD i.toNat default/\c+b.getD i.toNat default<=4294967295) /\
    ((x.getD i.toNat default<c+b.getD i.toNat default)->(0<=x.getD i.toNat default+1000000000/\x.getD i.toNat default+1000000000<=4294967295) /\
     (i.toNat<o.length) /\
     (0<=x.getD i.toNat default+1000000000-(c+b.getD i.toNat default)/\x.getD i.toNat default+1000000000-(c+b.getD i.toNat default)<=4294967295) /\
     (-9223372036854775808<=i+1/\i+1<=9223372036854775807) /\
     Zbj fb fx b x (o.set i.toNat (x.getD i.toNat default+1000000000-(c+b.getD i.toNat default))) 1 n (i+1) (Zae dq)) /\
    (¬(x.getD i.toNat default<c+b.getD i.toNat default)->(i.toNat<o.length) /\
     (0<=x.getD i.toNat default-(c+b.getD i.toNat default)/\x.getD i.toNat default-(c+b.getD i.toNat default)<=4294967295) /\
     (-9223372036854775808<=i+1/\i+1<=9223372036854775807) /\
     Zbj fb fx b x (o.set i.toNat (x.getD i.toNat default-(c+b.getD i.toNat default))) 0 n (i+1) (Zae dq))) /\
   (¬(i<(↑b.length:Int))->((x.getD i.toNat default<c)->(0<=x.getD i.toNat default+1000000000/\x.getD i.toNat default+1000000000<=4294967295) /\
     (i.toNat<o.length) /\
     (0<=x.getD i.toNat default+1000000000-c/\x.getD i.toNat default+1000000000-c<=4294967295) /\
     (-9223372036854775808<=i+1/\i+1<=9223372036854775807) /\
     Zbj fb fx b x (o.set i.toNat (x.getD i.toNat default+1000000000-c)) 1 n (i+1) (Zae dq)) /\
    (¬(x.getD i.toNat default<c)->(i.toNat<o.length) /\
     (0<=x.getD i.toNat default-c/\x.getD i.toNat default-c<=4294967295) /\
     (-9223372036854775808<=i+1/\i+1<=9223372036854775807) /\
     Zbj fb fx b x (o.set i.toNat (x.getD i.toNat default-c)) 0 n (i+1) (Zae dq)))) /\
  (¬(i<n)->Weak (vf (us o)) dq)) :
 Zbj fb fx b x o c n i (Zae dq):=by
 unfold Zbj
 rcases xq H with ⟨d2,H⟩|⟨d2,H⟩
 ·obtain ⟨k4,H⟩:=H
  have w5:(us x).length=x.length:=List.length_map ..
  have i6:(decide (i.toNat<(us x).length))=true ↔ (i.toNat<x.length):=(by (try rw [w5]);all_goals exact Zab)
  obtain ⟨k7,H⟩:=H
  have w8:(us b).length=b.length:=List.length_map ..
  have i9:(decide (i<(↑(us b).length:Int)))=true ↔ (i<(↑b.length:Int)):=(by (try rw [w8]);all_goals exact Zab)
  refine Zac (G:=Zad kp113 [(5,2,.elem (vu (x.getD i.toNat default)))] []) 14 [true] ⟨(atC (cd Try.f113) [1,1,1,0,1,0,0,1,1,0,0,1,1,0,1]),[(1,AV.vec fb 1 (us b)),(5,AV.row 0 0),(7,vi i),(8,vu (x.getD i.toNat default)),(9,vu c),(13,AV.vec fx 1 (us x)),(14,vi n),(15,vi i),(24,vb (decide (i<(↑(us b).length:Int))))],[⟨us o,1,0,false,true⟩],_,[((us x).get?Internal i.toNat=some (vu (x.getD i.toNat default)))],_⟩ (by kernel_rfl) (bc (Zal (Zab.2 d2)) (bc (Zab.2 k4) (bc (i6.2 k7) b0))) (qc (Zai k7) q0) c0 ?_
  rcases xq H with ⟨d10,H⟩|⟨d10,H⟩
  ·have i12:(decide (i.toNat<(us b).length))=true ↔ (i.toNat<b.length):=(by (try rw [w8]);all_goals exact Zab)
   obtain ⟨k13,k14,H⟩:=H
   have w15:wv (c+b.getD i.toNat default)=c+b.getD i.toNat default:=wU32 k14
   have i16:(decide (x.getD i.toNat default<wv (c+b.getD i.toNat default)))=true ↔ (x.getD i.toNat default<c+b.getD i.toNat default):=(by (try rw [w15]);all_goals exact Zab)
   refine Zac (G:=Zad kp113 [(8,4,.elem (vu (b.getD i.toNat default)))] []) 7 [true] ⟨(atC (cd Try.f113) [1,1,1,0,1,0,0,1,1,0,0,1,1,1,1,0,1]),[(1,AV.vec fb 1 (us b)),(5,AV.row 0 0),(6,vu 0),(7,vi i),(8,vu (x.getD i.toNat default)),(9,vu (wv (c+b.getD i.toNat default))),(13,AV.vec fx 1 (us x)),(14,vi n),(15,vi i),(33,vb (decide (x.getD i.toNat default<wv (c+b.getD i.toNat default))))],[⟨us o,1,0,false,true⟩],_,[((us b).get?Internal i.toNat=some (vu (b.getD i.toNat default)))],_⟩ (by kernel_rfl) (bc (Zal (i9.2 d10)) (bc (Zab.2 k4) (bc (i12.2 k13) b0))) (qc (Zai k13) q0) c0 ?_
   rcases xq H with ⟨d17,H⟩|⟨d17,H⟩
   ·obtain ⟨k18,H⟩:=H
    have w19:wv (x.getD i.toNat default+1000000000)=x.getD i.toNat default+1000000000:=wU32 k18
    have w21:(us o).length=o.length:=List.length_map ..
    have i22:(decide (i.toNat<(us o).length))=true ↔ (i.toNat<o.length):=(by (try rw [w21]);all_goals exact Zab)
    obtain ⟨k23,k24,H⟩:=H
    have w25:wv (x.getD i.toNat default+1000000000-(c+b.getD i.toNat default))=x.getD i.toNat default+1000000000-(c+b.getD i.toNat default):=wU32 k24
    have w26:(us o).set i.toNat (vu (x.getD i.toNat default+1000000000-(c+b.getD i.toNat default)))=us (o.set i.toNat (x.getD i.toNat default+1000000000-(c+b.getD i.toNat default))):=(Za4 rfl rfl)
    obtain ⟨k27,H⟩:=H
    have w28:wi (i+1)=i+1:=wI64 k27
    exact Zac (G:=Zad kp113 [(12,6,.elem (vu (o.getD i.toNat default)))] []) 1000 [true] ⟨(atC (cd Try.f113) [1,1,1,0,1,0,0]),[(1,AV.vec fb 1 (us b)),(5,AV.row 0 0),(6,vu 1),(13,AV.vec fx 1 (us x)),(14,vi n),(15,vi (wi (i+1)))],[⟨(us o).set i.toNat (vu (wv (wv (x.getD i.toNat default+1000000000)-wv (c+b.getD i.toNat default)))),1,0,false,true⟩],_,[((us o).get?Internal i.toNat=some (vu (o.getD i.toNat default)))],_⟩ (by kernel_rfl) (bc (Zal (i16.2 d17)) (bc rfl (bc (Zab.2 k4) (bc (i22.2 k23) (bc rfl b0))))) (qc (Zai k23) q0) c0 (by (try rw [w15]);(try rw [w19]);(try rw [w25]);(try rw [w26]);(try rw [w28]);all_goals exact H)
   ·have w30:(us o).length=o.length:=List.length_map ..
    have i31:(decide (i.toNat<(us o).length))=true ↔ (i.toNat<o.length):=(by (try rw [w30]);all_goals exact Zab)
    obtain ⟨k32,k33,H⟩:=H
    have w34:wv (x.getD i.toNat default-(c+b.getD i.toNat default))=x.getD i.toNat default-(c+b.getD i.toNat default):=wU32 k33
    have w35:(us o).set i.toNat (vu (x.getD i.toNat default-(c+b.getD i.toNat default)))=us (o.set i.toNat (x.getD i.toNat default-(c+b.getD i.toNat default))):=(Za4 rfl rfl)
    obtain ⟨k36,H⟩:=H
    have w37:wi (i+1)=i+1:=wI64 k36
    exact Zac (G:=Zad kp113 [(12,6,.elem (vu (o.getD i.toNat default)))] []) 1000 [false] ⟨(atC (cd Try.f113) [1,1,1,0,1,0,0]),[(1,AV.vec fb 1 (us b)),(5,AV.row 0 0),(6,vu 0),(13,AV.vec fx 1 (us x)),(14,vi n),(15,vi (wi (i+1)))],[⟨(us o).set i.toNat (vu (wv (x.getD i.toNat default-wv (c+b.getD i.toNat default)))),1,0,false,true⟩],_,[((us o).get?Internal i.toNat=some (vu (o.getD i.toNat default)))],_⟩ (by kernel_rfl) (bc (Zak (fun h=>d17 (i16.1 h))) (bc rfl (bc (Zab.2 k4) (bc (i31.2 k32) (bc rfl b0))))) (qc (Zai k32) q0) c0 (by (try rw [w15]);(try rw [w34]);(try rw [w35]);(try rw [w37]);all_goals exact H)
  ·rcases xq H with ⟨d39,H⟩|⟨d39,H⟩
   ·obtain ⟨k40,H⟩:=H
    have w41:wv (x.getD i.toNat default+1000000000)=x.getD i.toNat default+1000000000:=wU32 k40
    have w43:(us o).length=o.length:=List.length_map ..
    have i44:(decide (i.toNat<(us o).length))=true ↔ (i.toNat<o.length):=(by (try rw [w43]);all_goals exact Zab)
    obtain ⟨k45,k46,H⟩:=H
    have w47:wv (x.getD i.toNat default+1000000000-c)=x.getD i.toNat default+1000000000-c:=wU32 k46
    have w48:(us o).set i.toNat (vu (x.getD i.toNat default+1000000000-c))=us (o.set i.toNat (x.getD i.toNat default+1000000000-c)):=(Za4 rfl rfl)
    obtain ⟨k49,H⟩:=H
    have w50:wi (i+1)=i+1:=wI64 k49
    exact Zac (G:=Zad kp113 [(12,6,.elem (vu (o.getD i.toNat default)))] []) 1000 [false,true] ⟨(atC (cd Try.f113) [1,1,1,0,1,0,0]),[(1,AV.vec fb 1 (us b)),(5,AV.row 0 0),(6,vu 1),(13,AV.vec fx 1 (us x)),(14,vi n),(15,vi (wi (i+1)))],[⟨(us o).set i.toNat (vu (wv (wv (x.getD i.toNat default+1000000000)-c))),1,0,false,true⟩],_,[((us o).get?Internal i.toNat=some (vu (o.getD i.toNat default)))],_⟩ (by kernel_rfl) (bc (Zak (fun h=>d10 (i9.1 h))) (bc (Zal (Zab.2 d39)) (bc rfl (bc (Zab.2 k4) (bc (i44.2 k45) (bc rfl b0)))))) (qc (Zai k45) q0) c0 (by (try rw [w41]);(try rw [w47]);(try rw [w48]);(try rw [w50]);all_goals exact H)
   ·have w52:(us o).length=o.length:=List.length_map ..
    have i53:(decide (i.toNat<(us o).length))=true ↔ (i.toNat<o.length):=(by (try rw [w52]);all_goals exact Zab)
    obtain ⟨k54,k55,H⟩:=H
    have w56:wv (x.getD i.toNat default-c)=x.getD i.toNat default-c:=wU32 k55
    have w57:(us o).set i.toNat (vu (x.getD i.toNat default-c))=us (o.set i.toNat (x.getD i.toNat default-c)):=(Za4 rfl rfl)
    obtain ⟨k58,H⟩:=H
    have w59:wi (i+1)=i+1:=wI64 k58
    exact Zac (G:=Zad kp113 [(12,6,.elem (vu (o.getD i.toNat default)))] []) 1000 [false,false] ⟨(atC (cd Try.f113) [1,1,1,0,1,0,0]),[(1,AV.vec fb 1 (us b)),(5,AV.row 0 0),(6,vu 0),(13,AV.vec fx 1 (us x)),(14,vi n),(15,vi (wi (i+1)))],[⟨(us o).set i.toNat (vu (wv (x.getD i.toNat default-c))),1,0,false,true⟩],_,[((us o).get?Internal i.toNat=some (vu (o.getD i.toNat default)))],_⟩ (by kernel_rfl) (bc (Zak (fun h=>d10 (i9.1 h))) (bc (Zak (fun h=>d39 (Zab.1 h))) (bc rfl (bc (Zab.2 k4) (bc (i53.2 k54) (bc rfl b0)))))) (qc (Zai k54) q0) c0 (by (try rw [w56]);(try rw [w57]);(try rw [w59]);all_goals exact H)
 ·exact Zbm (G:=Zad kp113 [] []) 1000 [false] (k:=((atC (cd Try.f113) [1,1,1,1,1])).tail) (env':=[(4,AV.row 0 0)]) (L':=[⟨us o,1,0,false,true⟩]) (asm:=[(decide (i<n))==false]) (eqs:=[]) (calls:=[]) (AV.row 0 0) (by kernel_rfl) (by kernel_rfl) (Zag (Zak (fun h=>d2 (Zab.1 h))) Zax) ZaN ZaO (ZcF (d:=(vf (us o))) (bs:=[0==0]) (by kernel_rfl) (by kernel_rfl) (Zag (beq_self_eq_true _) Zax) (by kernel_rfl) H)
theorem vByWord (fa:Bool) (a:List Int) (d:Int)  (dq:AV) (H :
  (0<=(↑a.length:Int)) /\
  ((↑a.length:Int)*4<=1099511627776) /\
  ((↑a.length:Int)<=1099511627776) /\
  (-9223372036854775808<=(↑a.length:Int)-1/\(↑a.length:Int)-1<=9223372036854775807) /\
  ZbK fa a (List.replicate (↑a.length:Int).toNat (0:Int)) d 0 ((↑a.length:Int)-1) (Zae dq)) :
 Zgv fa a d (Zae dq):=by
 unfold Zgv
 have w1:(us a).length=a.length:=List.length_map ..
 have i2:(decide (0<=(↑(us a).length:Int)))=true ↔ (0<=(↑a.length:Int)):=(by (try rw [w1]);all_goals exact Zab)
 obtain ⟨k3,H⟩:=H
 have i4:(decide ((↑(us a).length:Int)<=(↑(us a).length:Int)))=true ↔ ((↑a.length:Int)<=(↑a.length:Int)):=(by (try rw [w1]);all_goals exact Zab)
 have i5:(decide ((↑(us a).length:Int)*4<=1099511627776))=true ↔ ((↑a.length:Int)*4<=1099511627776):=(by (try rw [w1]);all_goals exact Zab)
 obtain ⟨k6,H⟩:=H
 have i7:(decide ((↑(us a).length:Int)<=1099511627776))=true ↔ ((↑a.length:Int)<=1099511627776):=(by (try rw [w1]);all_goals exact Zab)
 obtain ⟨k8,H⟩:=H
 have w9:List.replicate (↑a.length:Int).toNat (vu 0)=us (List.replicate (↑a.length:Int).toNat (0:Int)):=(ZfH rfl)
 obtain ⟨k10,H⟩:=H
 have w11:wi ((↑a.length:Int)-1)=(↑a.length:Int)-1:=wI64 k10
 exact Zac (G:=Zad kp105 [] []) 1000 [] ⟨(atC (cd Try.f105) [1,1,1,0,1,0,0]),[(0,AV.vec fa 1 (us a)),(1,vu d),(6,AV.row 0 0),(7,vw 0),(8,vi (wi ((↑(us a).length:Int)-1)))],[⟨List.replicate (↑(us a).length:Int).toNat (vu 0),1,0,false,true⟩],[decide (0<=(↑(us a).length:Int)),decide ((↑(us a).length:Int)<=(↑(us a).length:Int)),decide ((↑(us a).length:Int)*4<=1099511627776),decide ((↑(us a).length:Int)<=1099511627776)],[],_⟩ (by kernel_rfl) (bc (i2.2 k3) (bc (i4.2 (by omega)) (bc (i5.2 k6) (bc (i7.2 k8) b0)))) q0 c0 (by (try rw [w1]);(try rw [w9]);(try rw [w11]);all_goals exact H)
theorem vByWordA (fa:Bool) (a o:List Int) (d r i:Int)  (dq:AV) (H :
  ((i>=0)->(0<=i) /\
   (i.toNat<a.length) /\
   (0<=r*1000000000/\r*1000000000<=18446744073709551615) /\
   (0<=a.getD i.toNat default/\a.getD i.toNat default<=18446744073709551615) /\
   (0<=r*1000000000+a.getD i.toNat default/\r*1000000000+a.getD i.toNat default<=18446744073709551615) /\
   (0<=d/\d<=18446744073709551615) /\
   (¬d=0) /\
   (i.toNat<o.length) /\
   (0<=(r*1000000000+a.getD i.toNat default).tdiv d/\(r*1000000000+a.getD i.toNat default).tdiv d<=18446744073709551615) /\
   (0<=(r*1000000000+a.getD i.toNat default).tdiv d/\(r*1000000000+a.getD i.toNat default).tdiv d<=4294967295) /\
   (-9223372036854775808<=i-1/\i-1<=9223372036854775807) /\
   ZbK fa a (o.set i.toNat ((r*1000000000+a.getD i.toNat default).tdiv d)) d ((r*1000000000+a.getD i.toNat default).tmod d) (i-1) (Zae dq)) /\
  (¬(i>=0)->(0<=r/\r<=4294967295) /\
   Weak (tu [vf (us o),AV.vec true 1 [vu r]]) dq)) :
 ZbK fa a o d r i (Zae dq):=by
 unfold ZbK
 rcases xq H with ⟨d2,H⟩|⟨d2,H⟩
 ·obtain ⟨k4,H⟩:=H
  have w5:(us a).length=a.length:=List.length_map ..
  have i6:(decide (i.toNat<(us a).length))=true ↔ (i.toNat<a.length):=(by (try rw [w5]);all_goals exact Zab)
  obtain ⟨k7,k8,H⟩:=H
  have w9:wu (r*1000000000)=r*1000000000:=wU64 k8
  obtain ⟨k10,H⟩:=H
  have w11:wu (a.getD i.toNat default)=a.getD i.toNat default:=wU64 k10
  obtain ⟨k12,H⟩:=H
  have w13:wu (r*1000000000+a.getD i.toNat default)=r*1000000000+a.getD i.toNat default:=wU64 k12
  obtain ⟨k14,H⟩:=H
  have w15:wu d=d:=wU64 k14
  have i16:(!wu d==0)=true ↔ (¬d=0):=(by (try rw [w15]);all_goals exact i_neq)
  obtain ⟨k17,H⟩:=H
  have i18:(!wu d==0)=true ↔ (¬d=0):=(by (try rw [w15]);all_goals exact i_neq)
  have w20:(us o).length=o.length:=List.length_map ..
  have i21:(decide (i.toNat<(us o).length))=true ↔ (i.toNat<o.length):=(by (try rw [w20]);all_goals exact Zab)
  obtain ⟨k22,k23,H⟩:=H
  have w24:wu ((r*1000000000+a.getD i.toNat default).tdiv d)=(r*1000000000+a.getD i.toNat default).tdiv d:=wU64 k23
  obtain ⟨k25,H⟩:=H
  have w26:wv ((r*1000000000+a.getD i.toNat default).tdiv d)=(r*1000000000+a.getD i.toNat default).tdiv d:=wU32 k25
  have w27:(us o).set i.toNat (vu ((r*1000000000+a.getD i.toNat default).tdiv d))=us (o.set i.toNat ((r*1000000000+a.getD i.toNat default).tdiv d)):=(Za4 rfl rfl)
  obtain ⟨k28,H⟩:=H
  have w29:wi (i-1)=i-1:=wI64 k28
  exact Zac (G:=Zad kp105 [(6,5,.elem (vu (a.getD i.toNat default))),(7,12,.elem (vu (o.getD i.toNat default)))] []) 1000 [true] ⟨(atC (cd Try.f105) [1,1,1,0,1,0,0]),[(0,AV.vec fa 1 (us a)),(1,vu d),(6,AV.row 0 0),(7,vw ((wu (wu (r*1000000000)+wu (a.getD i.toNat default))).tmod (wu d))),(8,vi (wi (i-1)))],[⟨(us o).set i.toNat (vu (wv (wu ((wu (wu (r*1000000000)+wu (a.getD i.toNat default))).tdiv (wu d))))),1,0,false,true⟩],_,[((us a).get?Internal i.toNat=some (vu (a.getD i.toNat default))),((us o).get?Internal i.toNat=some (vu (o.getD i.toNat default)))],_⟩ (by kernel_rfl) (bc (Zal (Zab.2 d2)) (bc (Zab.2 k4) (bc (i6.2 k7) (bc (i16.2 k17) (bc (i18.2 k17) (bc rfl (bc (Zab.2 k4) (bc (i21.2 k22) (bc rfl b0))))))))) (qc (Zai k7) (qc (Zai k22) q0)) c0 (by (try rw [w9]);(try rw [w11]);(try rw [w13]);(try rw [w15]);(try rw [w24]);(try rw [w26]);(try rw [w27]);(try rw [w29]);all_goals exact H)
 ·obtain ⟨k30,H⟩:=H
  have w31:wv r=r:=wU32 k30
  exact Zbm (G:=Zad kp105 [] []) 1000 [false] (k:=((atC (cd Try.f105) [1,1,1,1,1])).tail) (env':=[(4,AV.row 0 0),(5,AV.vec true 1 [vu (wv r)])]) (L':=[⟨us o,1,0,false,true⟩]) (asm:=[(decide (i>=0))==false]) (eqs:=[]) (calls:=[]) (tu [AV.row 0 0,AV.vec true 1 [vu (wv r)]]) (by kernel_rfl) (by kernel_rfl) (Zag (Zak (fun h=>d2 (Zab.1 h))) Zax) ZaN ZaO (ZcF (d:=(tu [vf (us o),AV.vec true 1 [vu (wv r)]])) (bs:=[0==0]) (by kernel_rfl) (by kernel_rfl) (Zag (beq_self_eq_true _) Zax) (by kernel_rfl) (by (try rw [w31]);all_goals exact H))
end Go.Av

namespace Go.Av
open Go.Proofs
theorem Zbr (v i:Nat):v / 1000000000 ^ i / 1000000000=v / 1000000000 ^ (i+1):=by rw [Nat.div_div_eq_div_mul,Nat.pow_succ]
theorem Zbe {n v i:Nat} (h:O.fits n v) (hi:n<=i):v / 1000000000 ^ i=0:=Zd9.1 (Zb2 h hi)
theorem ZfG {fa fb:Bool} {n v w:Nat} {dq:AV} (hn:n<=1000000) (hq:AV.int .i64 (O.sgnI ((v:Int)-w))=dq):∀ (k:Nat),k<=n->v / 1000000000 ^ k=w / 1000000000 ^ k->ZbX fa fb (O.Zat n v) (O.Zat n w) ((k:Int)-1) (Zae dq)
 | 0,hk,he=>by
  have e:v=w:=by simpa using he
  refine vCompareA _ _ _ _ _ _ ⟨fun h=>by omega,fun _ => ?_⟩
  rw [<- hq,e]
  congr 1
  unfold O.sgnI
  rw [if_neg (by omega),if_neg (by omega)]
 | k+1,hk,he=>by
  have e1:(((k+1:Nat):Int)-1)=(k:Nat):=by omega
  rw [e1]
  refine vCompareA _ _ _ _ _ _ ⟨fun _ => ?_,fun h=>by omega⟩
  rw [Int.toNat_natCast,ZaI v (show k<n by omega),ZaI w (show k<n by omega),Zaq,Zaq]
  have s1:=ZcJ v k
  have s2:=ZcJ w k
  rw [<- he] at s2
  refine ⟨by omega,by omega,by omega,fun h => ?_,fun h=>⟨fun h2 => ?_,fun h2=>⟨by omega,?_⟩⟩⟩
  ·have:=digit_lt (v:=v) (w:=w) (i:=k) (by omega)
   rw [<- hq];congr 1
   unfold O.sgnI
   rw [if_pos (by omega)]
  ·have:=digit_lt (v:=w) (w:=v) (i:=k) (by omega)
   rw [<- hq];congr 1
   unfold O.sgnI
   rw [if_neg (by omega),if_pos (by omega)]
  ·exact ZfG hn hq k (by omega) (by omega)
theorem compareN (fa fb:Bool) (n v m w:Nat) (h:O.Za0 n/\O.Za0 m/\O.fits n v/\O.fits m w):Ev M1 (.pure 92 [usA fa (O.Zat n v),usA fb (O.Zat m w)]) (.int .i64 (O.sgnI ((v:Int)-w))) []:=by
 obtain ⟨h1,h2,h3,h4⟩:=h
 have c1:=ZaC.1 h3
 have c2:=ZaC.1 h4
 have h1':n<=1000000:=h1
 have h2':m<=1000000:=h2
 refine call92 (vCompare _ _ _ _ _ ⟨O.lim v,trimN fa n v ⟨h1,h3⟩,O.lim w,trimN fb m w ⟨h2,h4⟩,?_⟩)
 rw [ZfI,ZfI]
 refine ⟨fun h=>⟨fun k => ?_,fun k => ?_⟩,fun h=>⟨by omega,?_⟩⟩
 ·have:=cmp_len (v:=v) (w:=w) (by omega)
  congr 1
  unfold O.sgnI
  rw [if_pos (by omega)]
 ·have:=cmp_len (v:=w) (w:=v) (by omega)
  congr 1
  unfold O.sgnI
  rw [if_neg (by omega),if_pos (by omega)]
 ·have e:O.cnt w=O.cnt v:=by omega
  have hw:O.lim w=O.Zat (O.cnt v) w:=by unfold O.lim;rw [e]
  rw [hw]
  refine ZfG (by omega) rfl (O.cnt v) (Nat.le_refl _) ?_
  rw [Zbe (Zap v) (Nat.le_refl _),Zbe (Zap w) (by omega)]
theorem ev92 (fa fb:Bool) (v w:Int) (h:O.ok v/\O.ok w):Ev M1 (.pure 92 [usA fa (O.Zaf v),usA fb (O.Zaf w)]) (.int .i64 (O.sgnI ((v.natAbs:Int)-w.natAbs))) []:=compareN fa fb _ _ _ _ ⟨h.1,h.2,Zap _,Zap _⟩
theorem loopPlus {fb fx:Bool} {n m v w:Nat} {dq:AV} (hn:n<=1000000) (hmn:m<=n) (hv:O.fits n v) (hw:O.fits m w):∀ (k i:Nat) (o:List Int) (c:Nat) (r:Nat),i+k=n->c<=1->o.length<=1000000+i ->
  usA false (o++O.Zat (k+1) (v / 1000000000 ^ i+w / 1000000000 ^ i+c))=dq->ZbW fb fx (O.Zat m w) (O.Zat n v) o c n i r (Zae dq)
 | 0,i,o,c,r,hi,hc,hol,hq=>by
  rw [Zbe hv (by omega),Zbe hw (by omega)] at hq
  have e:O.Zat 1 (0+0+c)=[(c:Int)]:=by simp [O.Zat];omega
  rw [Nat.zero_add,e] at hq
  exact vPlusA _ _ _ _ _ _ _ _ _ _ ⟨fun h=>by omega,fun _=>⟨by omega,by rw [<- hq];exact .refl _⟩⟩
 | k+1,i,o,c,r,hi,hc,hol,hq=>by
  have gx:=ZaI v (show i<n by omega)
  rw [plus_step,Zbr,Zbr] at hq
  have nxt:∀ (d:Int) (c':Nat),((v / 1000000000 ^ i % 1000000000+w / 1000000000 ^ i % 1000000000+c) % 1000000000:Nat)=d->(v / 1000000000 ^ i % 1000000000+w / 1000000000 ^ i % 1000000000+c) / 1000000000=c'->c'<=1->ZbW fb fx (O.Zat m w) (O.Zat n v) (o++[d]) c' n ((i:Int)+1) (r+1) (Zae dq):=by
   intro d c' hd hc' hc1
   refine loopPlus hn hmn hv hw k (i+1) (o++[d]) c' (r+1) (by omega) hc1 (by simp;omega) ?_
   rw [<- hq,hd,hc',List.append_assoc];rfl
  refine vPlusA _ _ _ _ _ _ _ _ _ _ ⟨fun _ => ?_,fun h=>by omega⟩
  rw [Int.toNat_natCast,gx,Zaq,Zaq]
  by_cases him:i<m
  ·rw [ZaI w him]
   generalize v / 1000000000 ^ i=V at nxt
   generalize w / 1000000000 ^ i=W at nxt
   refine ⟨by omega,by omega,by omega,fun _=>⟨by omega,by omega,fun h=>⟨by omega,by omega,by omega,nxt _ 1 (by omega) (by omega) (by omega)⟩,fun h=>⟨by omega,by omega,nxt _ 0 (by omega) (by omega) (by omega)⟩⟩,fun h=>by omega⟩
  ·have hW:=Zbe hw (show m<=i by omega)
   rw [hW] at nxt
   generalize v / 1000000000 ^ i=V at nxt
   refine ⟨by omega,by omega,by omega,fun h=>by omega,fun _=>⟨fun h=>⟨by omega,by omega,by omega,nxt _ 1 (by omega) (by omega) (by omega)⟩,fun h=>⟨by omega,by omega,nxt _ 0 (by omega) (by omega) (by omega)⟩⟩⟩
theorem ev112 (fa fb:Bool) (v w:Int) (h:O.ok v/\O.ok w):Ev M1 (.pure 112 [usA fa (O.Zaf v),usA fb (O.Zaf w)]) (usA false (O.Zat (max (O.cnt v.natAbs) (O.cnt w.natAbs)+1) (v.natAbs+w.natAbs))) []:=by
 have h1:O.cnt v.natAbs<=1000000:=h.1
 have h2:O.cnt w.natAbs<=1000000:=h.2
 refine call112 (vPlus _ _ _ _ _ ?_)
 rw [Zbv,Zbv]
 refine ⟨fun k=>⟨by omega,by omega,by omega,by omega,?_⟩,fun k=>⟨by omega,by omega,by omega,by omega,?_⟩⟩
 ·have:=loopPlus (fb:=fa) (fx:=fb) (v:=w.natAbs) (w:=v.natAbs) (dq:=usA false (O.Zat (max (O.cnt v.natAbs) (O.cnt w.natAbs)+1) (v.natAbs+w.natAbs))) h2 (show O.cnt v.natAbs<=O.cnt w.natAbs by omega) (Zap _) (Zap _) (O.cnt w.natAbs) 0 [] 0 0 (by omega) (by omega) (by simp) (by
   rw [Nat.max_eq_right (by omega)];simp [Nat.add_comm])
  exact this
 ·have:=loopPlus (fb:=fb) (fx:=fa) (v:=v.natAbs) (w:=w.natAbs) (dq:=usA false (O.Zat (max (O.cnt v.natAbs) (O.cnt w.natAbs)+1) (v.natAbs+w.natAbs))) h1 (show O.cnt w.natAbs<=O.cnt v.natAbs by omega) (Zap _) (Zap _) (O.cnt v.natAbs) 0 [] 0 0 (by omega) (by omega) (by simp) (by
   rw [Nat.max_eq_left (by omega)];simp)
  exact this
theorem ZbF {o:List Int} {i:Nat} {d:Int} (h:i<o.length):(o.set i d).take (i+1)=o.take i++[d]:=by
 rw [List.take_add_one,List.take_set_of_le (Nat.le_refl _),List.getElem?_set_self h];rfl
theorem ZfF {fb fx:Bool} {n m v w:Nat} {dq:AV} (hn:n<=1000000) (hv:O.fits n v) (hw:O.fits m w) (hm:m<=1000000):∀ (k i:Nat) (o:List Int) (c:Nat),i+k=n->c<=1->o.length=n->w / 1000000000 ^ i+c<=v / 1000000000 ^ i ->
  usA false (o.take i++O.Zat k (v / 1000000000 ^ i-w / 1000000000 ^ i-c))=dq->Zbj fb fx (O.Zat m w) (O.Zat n v) o c n i (Zae dq)
 | 0,i,o,c,hi,hc,hol,hle,hq=>by
  rw [List.take_of_length_le (by omega),O.Zat,List.append_nil] at hq
  exact vMinusA _ _ _ _ _ _ _ _ _ ⟨fun h=>by omega,fun _=>by rw [<- hq];exact .refl _⟩
 | k+1,i,o,c,hi,hc,hol,hle,hq=>by
  have gx:=ZaI v (show i<n by omega)
  obtain ⟨s1,s2⟩:=minus_step k (v / 1000000000 ^ i) (w / 1000000000 ^ i) c hle hc
  rw [Zbr,Zbr] at s1 s2
  have nxt1:v / 1000000000 ^ i % 1000000000<w / 1000000000 ^ i % 1000000000+c -> ∀ d:Int,((v / 1000000000 ^ i % 1000000000+1000000000-(w / 1000000000 ^ i % 1000000000+c):Nat):Int)=d->Zbj fb fx (O.Zat m w) (O.Zat n v) (o.set i d) (1:Nat) n ((i:Int)+1) (Zae dq):=by
   intro hlt d hd
   obtain ⟨t1,t2⟩:=s1 hlt
   refine ZfF hn hv hw hm k (i+1) (o.set i d) 1 (by omega) (by omega) (by simpa using hol) t2 ?_
   rw [ZbF (by omega),<- hq,t1,hd,List.append_assoc];rfl
  have nxt0:¬v / 1000000000 ^ i % 1000000000<w / 1000000000 ^ i % 1000000000+c -> ∀ d:Int,((v / 1000000000 ^ i % 1000000000-(w / 1000000000 ^ i % 1000000000+c):Nat):Int)=d->Zbj fb fx (O.Zat m w) (O.Zat n v) (o.set i d) (0:Nat) n ((i:Int)+1) (Zae dq):=by
   intro hlt d hd
   obtain ⟨t1,t2⟩:=s2 hlt
   refine ZfF hn hv hw hm k (i+1) (o.set i d) 0 (by omega) (by omega) (by simpa using hol) t2 ?_
   rw [ZbF (by omega),<- hq,t1,hd,List.append_assoc];rfl
  refine vMinusA _ _ _ _ _ _ _ _ _ ⟨fun _ => ?_,fun h=>by omega⟩
  rw [Int.toNat_natCast,gx,Zaq,Zaq]
  by_cases him:i<m
  ·rw [ZaI w him]
   generalize v / 1000000000 ^ i=V at nxt0 nxt1
   generalize w / 1000000000 ^ i=W at nxt0 nxt1
   exact ⟨by omega,by omega,fun _=>⟨by omega,by omega,fun h=>⟨by omega,by omega,by omega,by omega,nxt1 (by omega) _ (by omega)⟩,fun h=>⟨by omega,by omega,by omega,nxt0 (by omega) _ (by omega)⟩⟩,fun h=>by omega⟩
  ·have hW:=Zbe hw (show m<=i by omega)
   rw [hW] at nxt0 nxt1
   generalize v / 1000000000 ^ i=V at nxt0 nxt1
   exact ⟨by omega,by omega,fun h=>by omega,fun _=>⟨fun h=>⟨by omega,by omega,by omega,by omega,nxt1 (by omega) _ (by omega)⟩,fun h=>⟨by omega,by omega,by omega,nxt0 (by omega) _ (by omega)⟩⟩⟩
theorem ev113 (fa fb:Bool) (v w:Int) (h:O.ok v/\O.ok w/\w.natAbs<=v.natAbs):Ev M1 (.pure 113 [usA fa (O.Zaf v),usA fb (O.Zaf w)]) (usA false (O.Zat (O.cnt v.natAbs) (v.natAbs-w.natAbs))) []:=by
 obtain ⟨h1,h2,h3⟩:=h
 have h1':O.cnt v.natAbs<=1000000:=h1
 refine call113 (vMinus _ _ _ _ _ ?_)
 rw [Zbv,Int.toNat_natCast]
 refine ⟨by omega,by omega,by omega,?_⟩
 have:=ZfF (fb:=fb) (fx:=fa) (v:=v.natAbs) (w:=w.natAbs) (dq:=usA false (O.Zat (O.cnt v.natAbs) (v.natAbs-w.natAbs))) h1' (Zap _) (Zap _) h2 (O.cnt v.natAbs) 0 (List.replicate (O.cnt v.natAbs) 0) 0 (by omega) (by omega) (by simp) (by simpa using h3) (by simp)
 exact this
theorem Zea {o:List Int} {i:Nat} {d:Int} (h:i<o.length):(o.set i d).drop i=d::o.drop (i+1):=by
 rw [ZaP (by simpa using h),List.drop_set_of_lt (by omega)]
 congr 1
 rw [List.getD_eq_getElem?_getD,List.getElem?_set_self h];rfl
theorem ZgI {fa:Bool} {n v d:Nat} {dq:AV} (hn:n<=1000000) (hd:0<d/\d<1000000000) (hq:AV.tup [usA false (O.Zat n (v / d)),usA false [((v % d:Nat):Int)]]=dq):∀ (i k:Nat) (o:List Int),i+k=n->o.length=n->o.drop i=O.Zat k (v / 1000000000 ^ i / d)->ZbK fa (O.Zat n v) o d ((v / 1000000000 ^ i % d:Nat):Int) ((i:Int)-1) (Zae dq)
 | 0,k,o,hi,hol,ho=>by
  have hk:k=n:=by omega
  subst hk
  rw [List.drop_zero] at ho
  simp only [Nat.pow_zero,Nat.div_one] at ho ⊢
  have hm:=Nat.mod_lt v hd.1
  refine vByWordA _ _ _ _ _ _ _ ⟨fun h=>by omega,fun _=>⟨by omega,?_⟩⟩
  rw [ho,<- hq]
  refine .tup _ _ rfl fun i x y hx hy => ?_
  match i with
  | 0=>simp at hx hy;subst hx;subst hy;exact .refl _
  | 1=>simp at hx hy;subst hx;subst hy;exact ZcB _ _ _
  | i+2=>simp at hx
 | i+1,k,o,hi,hol,ho=>by
  have gx:=ZaI v (show i<n by omega)
  have e1:(((i+1:Nat):Int)-1)=(i:Nat):=by omega
  have hs:=ZcJ v i
  have hx:v / 1000000000 ^ i % 1000000000<1000000000:=Nat.mod_lt _ (by omega)
  obtain ⟨b1,b2,b3⟩:=byWord_step (v / 1000000000 ^ (i+1)) (v / 1000000000 ^ i % 1000000000) d hx hd.1
  have hs':v / 1000000000 ^ i % 1000000000+1000000000*(v / 1000000000 ^ (i+1))=v / 1000000000 ^ i:=by omega
  rw [hs'] at b1 b2
  have hr:=Nat.mod_lt (v / 1000000000 ^ (i+1)) hd.1
  rw [e1]
  refine vByWordA _ _ _ _ _ _ _ ⟨fun _ => ?_,fun h=>by omega⟩
  rw [Int.toNat_natCast,gx,Zaq]
  have c1:((v / 1000000000 ^ (i+1) % d:Nat):Int)*1000000000+((v / 1000000000 ^ i % 1000000000:Nat):Int)=((v / 1000000000 ^ (i+1) % d*1000000000+v / 1000000000 ^ i % 1000000000:Nat):Int):=by omega
  obtain ⟨q0,hq0⟩:∃ q0,q0=(v / 1000000000 ^ (i+1) % d*1000000000+v / 1000000000 ^ i % 1000000000) / d:=⟨_,rfl⟩
  have c2:(((v / 1000000000 ^ (i+1) % d*1000000000+v / 1000000000 ^ i % 1000000000:Nat):Int)).tdiv d=(q0:Nat):=by rw [hq0];exact (Int.ofNat_tdiv _ _).symm
  have c3:(((v / 1000000000 ^ (i+1) % d*1000000000+v / 1000000000 ^ i % 1000000000:Nat):Int)).tmod d=((v / 1000000000 ^ i % d:Nat):Int):=by rw [b2];exact (Int.ofNat_tmod _ _).symm
  rw [<- hq0] at b1 b3
  rw [c1,c2,c3]
  have main:ZbK fa (O.Zat n v) (o.set i (q0:Nat)) d ((v / 1000000000 ^ i % d:Nat):Int) ((i:Int)-1) (Zae dq):=by
   refine ZgI hn hd hq i (k+1) _ (by omega) (by simpa using hol) ?_
   rw [Zea (by omega),ho,ZaB,b1]
   generalize v / 1000000000 ^ (i+1) / d=z
   have e2:(1000000000*z+q0) % 1000000000=q0:=by omega
   have e3:(1000000000*z+q0) / 1000000000=z:=by omega
   rw [e2,e3]
  have hx':((v / 1000000000 ^ i % 1000000000:Nat):Int)<1000000000:=by omega
  have hr':((v / 1000000000 ^ (i+1) % d:Nat):Int)<d:=by exact_mod_cast hr
  refine ⟨by omega,by omega,?_,by omega,?_,by omega,by omega,by omega,by omega,by omega,by omega,main⟩
  ·generalize v / 1000000000 ^ (i+1) % d=R at hr'
   omega
  ·generalize v / 1000000000 ^ (i+1) % d=R at hr'
   omega
theorem byWordN (fa:Bool) (n v d:Nat) (h:O.Za0 n/\O.fits n v/\0<d/\d<1000000000):Ev M1 (.pure 105 [usA fa (O.Zat n v),.int .u32 d]) (.tup [usA false (O.Zat n (v / d)),usA false [((v % d:Nat):Int)]]) []:=by
 obtain ⟨h1,h2,h3,h4⟩:=h
 have h1':n<=1000000:=h1
 refine call105 (vByWord _ _ _ _ ?_)
 rw [Zaq,Int.toNat_natCast]
 refine ⟨by omega,by omega,by omega,by omega,?_⟩
 have e0:=Zbe h2 (Nat.le_refl n)
 have:=ZgI (fa:=fa) (v:=v) (dq:=.tup [usA false (O.Zat n (v / d)),usA false [((v % d:Nat):Int)]]) h1' ⟨h3,h4⟩ rfl n 0 (List.replicate n 0) (by omega) (by simp) (by simp [O.Zat])
 rw [e0,Nat.zero_mod] at this
 exact this
end Go.Av

namespace Go.Av
open Go.Proofs
namespace O
def zs (n:Nat):List Int:=List.replicate n 0
end O
theorem Zd2:∀ (n k v:Nat),O.fits n v->O.Zat (n+k) v=O.Zat n v++O.zs k
 | n,0,v,_=>by simp [O.zs]
 | n,k+1,v,h=>by
  rw [<- Nat.add_assoc,Zd0,Zd2 n k v h,List.append_assoc]
  congr 1
  have e:v / 1000000000 ^ (n+k)=0:=Zbe h (by omega)
  rw [e]
  unfold O.zs
  rw [<- List.replicate_append_replicate (n:=k) (m:=1)];rfl
theorem ZgF {fb fx fy:Bool} {b x:List Int} {m w xd n i K:Nat} {Q0:List Int} {Q:AV->Heap->Prop} (hm:m<=1000000) (hi:i<=1000000) (hK:K<=1000000) (hb:b.length=m) (hx:xd<1000000000) (hw:O.fits m w)
  (hq:∀ o:List Int,o=Q0++O.zs K->Zcd fb fx b x o n ((i:Int)+1) Q) :
  ∀ (r j:Nat) (o:List Int) (U c:Nat),j+r=m->o.length=i+m+1+K->c<1000000000->O.fits r U->o.drop (i+j)=O.Zat r U++O.zs (K+1)->o.take (i+j)++O.Zat (r+1) (U+xd*(w / 1000000000 ^ j)+c)=Q0 ->
   Zcc fb fx fy b x (O.Zat m w) o i xd c n i m j Q
 | 0,j,o,U,c,hj,hol,hc,hU,ho,hQ=>by
  have hU0:=Zbp.1 hU
  have hj':j=m:=by omega
  subst hj'
  rw [Zbe hw (Nat.le_refl _),hU0,Nat.mul_zero] at hQ
  have e:O.Zat 1 (0+0+c)=[(c:Int)]:=by simp [O.Zat];omega
  rw [Nat.zero_add,e] at hQ
  rw [hU0,O.Zat,List.nil_append] at ho
  refine vTimesB _ _ _ _ _ _ _ _ _ _ _ _ _ _ _ ⟨fun h=>by omega,fun _ => ?_⟩
  rw [hb]
  have e1:((i:Int)+(j:Int)).toNat=i+j:=by omega
  rw [e1]
  refine ⟨by omega,by omega,by omega,by omega,by omega,hq _ ?_⟩
  have ho2:o.drop (i+j+1)=O.zs K:=by
   rw [show i+j+1=1+(i+j) by omega,Nat.add_comm 1,<- List.drop_drop,ho];rfl
  rw [<- hQ,<- ho2]
  rw [List.set_eq_take_append_cons_drop,if_pos (by omega),List.append_assoc];rfl
 | r+1,j,o,U,c,hj,hol,hc,hU,ho,hQ=>by
  have gy:=ZaI w (show j<m by omega)
  have e1:((i:Int)+(j:Int)).toNat=i+j:=by omega
  have hod:=ZaP (d:=o) (i:=i+j) (by omega)
  rw [ho,ZaB,List.cons_append] at hod
  obtain ⟨g1,g2⟩:=List.cons.inj hod
  have hu:U % 1000000000<1000000000:=Nat.mod_lt _ (by omega)
  have hy:w / 1000000000 ^ j % 1000000000<1000000000:=Nat.mod_lt _ (by omega)
  obtain ⟨w1,w2⟩:=times_word hu hx hy hc
  rw [times_step,Zbr] at hQ
  refine vTimesB _ _ _ _ _ _ _ _ _ _ _ _ _ _ _ ⟨fun _ => ?_,fun h=>by omega⟩
  rw [Int.toNat_natCast,e1,gy,Zaq,<- g1]
  have c1:((xd:Nat):Int)*((w / 1000000000 ^ j % 1000000000:Nat):Int)=((xd*(w / 1000000000 ^ j % 1000000000):Nat):Int):=(Int.natCast_mul _ _).symm
  rw [c1]
  have main:∀ d c':Int,d=(((U % 1000000000+xd*(w / 1000000000 ^ j % 1000000000)+c) % 1000000000:Nat):Int)->c'=(((U % 1000000000+xd*(w / 1000000000 ^ j % 1000000000)+c) / 1000000000:Nat):Int) ->
    Zcc fb fx fy b x (O.Zat m w) (o.set (i+j) d) i xd c' n i m ((j:Int)+1) Q:=by
   intro d c' hd hc'
   subst hc'
   refine ZgF hm hi hK hb hx hw hq r (j+1) _ (U / 1000000000) _ (by omega) (by simpa using hol) w2 (Zcz.1 hU) ?_ ?_
   ·rw [show i+(j+1)=i+j+1 by omega,List.drop_set_of_lt (by omega),<- g2]
   ·rw [show i+(j+1)=i+j+1 by omega,ZbF (by omega),<- hQ,hd,List.append_assoc];rfl
  generalize xd*(w / 1000000000 ^ j % 1000000000)=p at w1 w2 main
  have hu':((U % 1000000000:Nat):Int)<1000000000:=by omega
  generalize U % 1000000000=u at w1 w2 main hu'
  have c2:((u:Nat):Int)+((p:Nat):Int)+((c:Nat):Int)=((u+p+c:Nat):Int):=by omega
  have c3:(((u+p+c:Nat):Int)).tdiv 1000000000=(((u+p+c) / 1000000000:Nat):Int):=by
   rw [Int.tdiv_eq_ediv_of_nonneg (by omega)];omega
  have c4:(((u+p+c:Nat):Int)).tmod 1000000000=(((u+p+c) % 1000000000:Nat):Int):=by
   rw [Int.tmod_eq_emod_of_nonneg (by omega)];omega
  rw [c2,c3,c4]
  exact ⟨by omega,by omega,by omega,by omega,by omega,by omega,by omega,by omega,by omega,by omega,by omega,by omega,by omega,by omega,main _ _ rfl rfl⟩
theorem ZgG {fb fx:Bool} {n m v w:Nat} {R:List Int} {Q:AV->Heap->Prop} (hn:n<=1000000) (hm:m<=1000000) (hv:O.fits n v) (hw:O.fits m w) (hq:Q (.row 0 0) [⟨R.map (.int .u32),1,0,false,true⟩]) :
  ∀ (k i:Nat) (o:List Int) (U:Nat),i+k=n->o.length=n+m->O.fits m U->o.drop i=O.Zat m U++O.zs k->o.take i++O.Zat (m+k) (U+v / 1000000000 ^ i*w)=R->Zcd fb fx (O.Zat m w) (O.Zat n v) o n i Q
 | 0,i,o,U,hi,hol,hU,ho,hR=>by
  have hi':i=n:=by omega
  subst hi'
  rw [Zbe hv (Nat.le_refl _),Nat.zero_mul,Nat.add_zero,Nat.add_zero] at hR
  have e:O.Zat m U++O.zs 0=O.Zat m U:=by simp [O.zs]
  rw [e] at ho
  rw [<- ho,List.take_append_drop] at hR
  exact vTimesA _ _ _ _ _ _ _ _ ⟨fun h=>by omega,fun _=>by rw [hR];exact hq⟩
 | k+1,i,o,U,hi,hol,hU,ho,hR=>by
  have gx:=ZaI v (show i<n by omega)
  have hx:v / 1000000000 ^ i % 1000000000<1000000000:=Nat.mod_lt _ (by omega)
  refine vTimesA _ _ _ _ _ _ _ _ ⟨fun _ => ?_,fun h=>by omega⟩
  rw [Int.toNat_natCast,gx,Zaq,Zaq]
  refine ⟨by omega,by omega,?_⟩
  have hf:O.fits (m+1) (U+v / 1000000000 ^ i % 1000000000*w):=fits_mul rfl hU hw hx
  have hP:1000000000 ^ m=1000000000 ^ m:=rfl
  have step:U+v / 1000000000 ^ i*w=U+v / 1000000000 ^ i % 1000000000*w+1000000000*(v / 1000000000 ^ (i+1)*w):=by
   have hs:=ZcJ v i
   generalize v / 1000000000 ^ (i+1)=V' at hs ⊢
   generalize v / 1000000000 ^ i % 1000000000=d at hs ⊢
   rw [hs];grind
  refine ZgF (Q0:=o.take i++O.Zat (m+1) (U+v / 1000000000 ^ i % 1000000000*w)) (K:=k) hm (by omega) (by omega) (Zaq _ _) hx hw (fun o' ho' => ?_) m 0 o U 0 (by omega) (by omega) (by omega) hU ho (by simp)
  have hlen:(o.take i).length=i:=by rw [List.length_take];omega
  refine ZgG hn hm hv hw hq k (i+1) o' ((U+v / 1000000000 ^ i % 1000000000*w) / 1000000000) (by omega) ?_ (Zcz.1 hf) ?_ ?_
  ·rw [ho']
   simp only [List.length_append,hlen,Zaq,O.zs,List.length_replicate]
   omega
  ·rw [ho',ZaB]
   have e1:i+1=(o.take i++[(((U+v / 1000000000 ^ i % 1000000000*w) % 1000000000:Nat):Int)]).length:=by simp [hlen]
   rw [e1]
   have e2:o.take i++((((U+v / 1000000000 ^ i % 1000000000*w) % 1000000000:Nat):Int)::O.Zat m ((U+v / 1000000000 ^ i % 1000000000*w) / 1000000000))++O.zs k
     = (o.take i++[(((U+v / 1000000000 ^ i % 1000000000*w) % 1000000000:Nat):Int)])++(O.Zat m ((U+v / 1000000000 ^ i % 1000000000*w) / 1000000000)++O.zs k):=by simp
   rw [e2,List.drop_left]
  ·rw [<- hR,ho',ZaB,show m+(k+1)=(m+k)+1 by omega,ZaB (m+k)]
   have e1:i+1=(o.take i++[(((U+v / 1000000000 ^ i % 1000000000*w) % 1000000000:Nat):Int)]).length:=by simp [hlen]
   have e2:o.take i++((((U+v / 1000000000 ^ i % 1000000000*w) % 1000000000:Nat):Int)::O.Zat m ((U+v / 1000000000 ^ i % 1000000000*w) / 1000000000))++O.zs k
     = (o.take i++[(((U+v / 1000000000 ^ i % 1000000000*w) % 1000000000:Nat):Int)])++(O.Zat m ((U+v / 1000000000 ^ i % 1000000000*w) / 1000000000)++O.zs k):=by simp
   rw [e2,e1,List.take_left,List.append_assoc]
   have e3:(U+v / 1000000000 ^ i*w) % 1000000000=(U+v / 1000000000 ^ i % 1000000000*w) % 1000000000:=by rw [step];omega
   have e4:(U+v / 1000000000 ^ i*w) / 1000000000=(U+v / 1000000000 ^ i % 1000000000*w) / 1000000000+v / 1000000000 ^ (i+1)*w:=by rw [step];omega
   rw [e3,e4,<- e1];rfl
theorem timesQ {Q:AV->Heap->Prop} (fa fb:Bool) (n v m w:Nat) (h:O.Za0 n/\O.Za0 m/\O.fits n v/\O.fits m w) (hq:Q (.row 0 0) [⟨(O.Zat (n+m) (v*w)).map (.int .u32),1,0,false,true⟩]):Zfb fa fb (O.Zat n v) (O.Zat m w) Q:=by
 obtain ⟨h1,h2,h3,h4⟩:=h
 have h1':n<=1000000:=h1
 have h2':m<=1000000:=h2
 refine vTimes _ _ _ _ _ ?_
 rw [Zaq,Zaq]
 have e:((n:Int)+(m:Int)).toNat=n+m:=by omega
 rw [e]
 refine ⟨by omega,by omega,by omega,by omega,?_⟩
 have:=ZgG (fb:=fb) (fx:=fa) (R:=O.Zat (n+m) (v*w)) (Q:=Q) h1' h2' h3 h4 hq n 0 (List.replicate (n+m) 0) 0 (by omega) (by simp) (ZaC.2 (by rw [ZbV];omega)) (by
  rw [List.drop_zero,limN_zero];unfold O.zs;rw [List.replicate_append_replicate,Nat.add_comm]) (by simp [Nat.add_comm])
 exact this
theorem timesN (fa fb:Bool) (n v m w:Nat) (h:O.Za0 n/\O.Za0 m/\O.fits n v/\O.fits m w):Ev M1 (.pure 90 [usA fa (O.Zat n v),usA fb (O.Zat m w)]) (usA false (O.Zat (n+m) (v*w))) []:=
 call90 (timesQ fa fb n v m w h ⟨_,rfl,⟨rfl,trivial⟩,rfl,.refl _⟩)
theorem evf90 (fa fb:Bool) (v:Nat) (s:Int) (h:O.Za0 (O.cnt v)/\0<=s/\s<1000000000):Ev M1 (.own 90 [usA fa (O.lim v),.vec fb 1 [.int .u32 s]] []) (.row 0 0) [⟨(O.Zat (O.cnt v+1) (v*s.toNat)).map (.int .u32),1,0,false,true⟩]:=by
 have e:[AV.int .u32 s]=(O.Zat 1 s.toNat).map (.int .u32):=by
  simp only [O.Zat,List.map_cons,List.map_nil]
  have:((s.toNat % 1000000000:Nat):Int)=s:=by omega
  rw [this]
 rw [e]
 exact owncall90 (timesQ fa fb _ v 1 s.toNat ⟨h.1,by unfold O.Za0;omega,Zap _,by unfold O.fits;omega⟩ ⟨rfl,rfl⟩)
theorem ev90 (fa fb:Bool) (v w:Int) (h:O.ok v/\O.ok w):Ev M1 (.pure 90 [usA fa (O.Zaf v),usA fb (O.Zaf w)]) (usA false (O.Zat (O.cnt v.natAbs+O.cnt w.natAbs) (v.natAbs*w.natAbs))) []:=timesN fa fb _ _ _ _ ⟨h.1,h.2,Zap _,Zap _⟩
theorem ZfU {n m v w:Nat} (hv:O.fits n v) (hw:O.fits m w):O.fits (n+m) (v*w):=by
 unfold O.fits at *
 rw [Nat.pow_add]
 exact Nat.mul_lt_mul'' hv hw
theorem fits_sum {n v w:Nat} (hv:O.fits n v) (hw:O.fits n w):O.fits (n+1) (v+w):=by
 unfold O.fits at *
 rw [Nat.pow_succ];omega
end Go.Av

namespace Go.Av
open Go.Proofs
set_option maxRecDepth 100000
def fi75:Fi:=⟨15,[.cell 2 108]⟩
def kp75:List (Nat × List Nat):=[(0,[0,2]),(1,[0,2,3]),(2,[0,2,3,7]),(3,[0,2,3]),(4,[2])]
def fi77:Fi:=⟨16,[.cell 4 108]⟩
def kp77:List (Nat × List Nat):=[(0,[2,3,4]),(1,[4])]
def fi80:Fi:=⟨24,[.tmp 4]⟩
def kp80:List (Nat × List Nat):=[(0,[2,3]),(1,[2,3,9]),(2,[11]),(3,[4]),(4,[4]),(5,[2,3,13]),(6,[4]),(7,[4])]
def fi87:Fi:=⟨10,[.cell 2 108]⟩
def kp87:List (Nat × List Nat):=[(0,[1,2]),(1,[2])]
def fi98:Fi:=⟨30,[.tmp 2,.tmp 3]⟩
def kp98:List (Nat × List Nat):=[(0,[1]),(1,[1,6]),(2,[1,6,7]),(3,[2,3]),(4,[1,6,9]),(5,[2,3]),(6,[1,16]),(7,[2,3]),(8,[2,3])]
def fi108:Fi:=⟨18,[.cell 4 108]⟩
def kp108:List (Nat × List Nat):=[(0,[2,3,4]),(1,[2,3,4]),(2,[4])]
def fi109:Fi:=⟨34,[.cell 4 108]⟩
def kp109:List (Nat × List Nat):=[(0,[2,3,4]),(1,[2,3,4,9]),(2,[4]),(3,[2,3,4,23]),(4,[2,3,4]),(5,[4])]
def vWord_at (fa s:Bool) (a:List Int) (Q:AV->Heap->Prop):Prop:=Wp M1 (.run fi98 (atC (cd Try.f98) []) [(0,.agg [.bool s,.vec fa 1 (a.map (.int .u32))])] []) Q
def ZdG (n:Int) (Q:AV->Heap->Prop):Prop:=Wp M1 (.run fi75 (atC (cd Try.f75) []) [(0,.int .i64 n)] []) Q
def vSub_at (fa fb:Bool) (a b:Int) (Q:AV->Heap->Prop):Prop:=Wp M1 (.run fi108 (atC (cd Try.f108) []) [(0,bigA fa a),(1,bigA fb b)] []) Q
def vAdd_at (fa fb:Bool) (a b:Int) (Q:AV->Heap->Prop):Prop:=Wp M1 (.run fi109 (atC (cd Try.f109) []) [(0,bigA fa a),(1,bigA fb b)] []) Q
def vMul_at (fa fb:Bool) (a b:Int) (Q:AV->Heap->Prop):Prop:=Wp M1 (.run fi77 (atC (cd Try.f77) []) [(0,bigA fa a),(1,bigA fb b)] []) Q
def vNeg0_at (fa:Bool) (Q:AV->Heap->Prop):Prop:=Wp M1 (.run fi87 (atC (cd Try.f87) []) [(0,.agg [.bool false,.vec fa 1 []])] []) Q
def vNeg_at (s fa:Bool) (x:Int) (a:List Int) (Q:AV->Heap->Prop):Prop:=Wp M1 (.run fi87 (atC (cd Try.f87) []) [(0,.agg [.bool s,.vec fa 1 ((x::a).map (.int .u32))])] []) Q
def vCmp_at (fa fb:Bool) (a b:Int) (Q:AV->Heap->Prop):Prop:=Wp M1 (.run fi80 (atC (cd Try.f80) []) [(0,bigA fa a),(1,bigA fb b)] []) Q
theorem call75 {args:List AV} {d:AV} (h:wc M1 fi75 Try.f75 args d):Ev M1 (.pure 75 args) d []:=pcl _ _ (by kernel_rfl) h
theorem call77 {args:List AV} {d:AV} (h:wc M1 fi77 Try.f77 args d):Ev M1 (.pure 77 args) d []:=pcl _ _ (by kernel_rfl) h
theorem call80 {args:List AV} {d:AV} (h:wc M1 fi80 Try.f80 args d):Ev M1 (.pure 80 args) d []:=pcl _ _ (by kernel_rfl) h
theorem call87 {args:List AV} {d:AV} (h:wc M1 fi87 Try.f87 args d):Ev M1 (.pure 87 args) d []:=pcl _ _ (by kernel_rfl) h
theorem call98 {args:List AV} {d:AV} (h:wc M1 fi98 Try.f98 args d):Ev M1 (.pure 98 args) d []:=pcl _ _ (by kernel_rfl) h
theorem call108 {args:List AV} {d:AV} (h:wc M1 fi108 Try.f108 args d):Ev M1 (.pure 108 args) d []:=pcl _ _ (by kernel_rfl) h
theorem call109 {args:List AV} {d:AV} (h:wc M1 fi109 Try.f109 args d):Ev M1 (.pure 109 args) d []:=pcl _ _ (by kernel_rfl) h
theorem vWord (fa s:Bool) (a:List Int)  (dq:AV) (H :
  (((↑a.length:Int)=0)->tu [vw 0,vb true]=dq) /\
  (¬((↑a.length:Int)=0)->(((↑a.length:Int)=1)->(0<a.length) /\
    (0<=a.getD 0 default/\a.getD 0 default<=18446744073709551615) /\
    tu [vw (a.getD 0 default),vb true]=dq) /\
   (¬((↑a.length:Int)=1)->(((↑a.length:Int)=2)->(1<a.length) /\
     (0<a.length) /\
     (0<=a.getD 1 default/\a.getD 1 default<=18446744073709551615) /\
     (0<=a.getD 1 default*1000000000/\a.getD 1 default*1000000000<=18446744073709551615) /\
     (0<=a.getD 0 default/\a.getD 0 default<=18446744073709551615) /\
     (0<=a.getD 1 default*1000000000+a.getD 0 default/\a.getD 1 default*1000000000+a.getD 0 default<=18446744073709551615) /\
     tu [vw (a.getD 1 default*1000000000+a.getD 0 default),vb true]=dq) /\
    (¬((↑a.length:Int)=2)->tu [vw 0,vb false]=dq)))) :
 vWord_at fa s a (Zae dq):=by
 unfold vWord_at
 have w1:(us a).length=a.length:=List.length_map ..
 have i2:((↑(us a).length:Int)==0)=true ↔ ((↑a.length:Int)=0):=(by (try rw [w1]);all_goals exact i_eq)
 rcases xq H with ⟨d3,H⟩|⟨d3,H⟩
 ·exact Zah (G:=Zad kp98 [] []) 1000 [true] (tu [vw 0,vb true]) (by kernel_rfl) (bc rfl (bc (Zal (i2.2 d3)) b0)) q0 c0 H
 ·have i4:((↑(us a).length:Int)==1)=true ↔ ((↑a.length:Int)=1):=(by (try rw [w1]);all_goals exact i_eq)
  rcases xq H with ⟨d5,H⟩|⟨d5,H⟩
  ·have i6:(decide (0<(us a).length))=true ↔ (0<a.length):=(by (try rw [w1]);all_goals exact Zab)
   obtain ⟨k7,k8,H⟩:=H
   have w9:wu (a.getD 0 default)=a.getD 0 default:=wU64 k8
   exact Zah (G:=Zad kp98 [(5,3,.elem (vu (a.getD 0 default)))] []) 1000 [false,true] (eqs:=[((us a).get?Internal 0=some (vu (a.getD 0 default)))]) (tu [vw (wu (a.getD 0 default)),vb true]) (by kernel_rfl) (bc rfl (bc (Zak (fun h=>d3 (i2.1 h))) (bc (Zal (i4.2 d5)) (bc rfl (bc rfl (bc (i6.2 k7) b0)))))) (qc (Zai k7) q0) c0 (by (try rw [w9]);all_goals exact H)
  ·have i10:((↑(us a).length:Int)==2)=true ↔ ((↑a.length:Int)=2):=(by (try rw [w1]);all_goals exact i_eq)
   rcases xq H with ⟨d11,H⟩|⟨d11,H⟩
   ·have i12:(decide (1<(us a).length))=true ↔ (1<a.length):=(by (try rw [w1]);all_goals exact Zab)
    obtain ⟨k13,H⟩:=H
    have i14:(decide (0<(us a).length))=true ↔ (0<a.length):=(by (try rw [w1]);all_goals exact Zab)
    obtain ⟨k15,k16,H⟩:=H
    have w17:wu (a.getD 1 default)=a.getD 1 default:=wU64 k16
    obtain ⟨k18,H⟩:=H
    have w19:wu (a.getD 1 default*1000000000)=a.getD 1 default*1000000000:=wU64 k18
    obtain ⟨k20,H⟩:=H
    have w21:wu (a.getD 0 default)=a.getD 0 default:=wU64 k20
    obtain ⟨k22,H⟩:=H
    have w23:wu (a.getD 1 default*1000000000+a.getD 0 default)=a.getD 1 default*1000000000+a.getD 0 default:=wU64 k22
    exact Zah (G:=Zad kp98 [(7,3,.elem (vu (a.getD 1 default))),(7,9,.elem (vu (a.getD 0 default)))] []) 1000 [false,false,true] (eqs:=[((us a).get?Internal 1=some (vu (a.getD 1 default))),((us a).get?Internal 0=some (vu (a.getD 0 default)))]) (tu [vw (wu (wu (wu (a.getD 1 default)*1000000000)+wu (a.getD 0 default))),vb true]) (by kernel_rfl) (bc rfl (bc (Zak (fun h=>d3 (i2.1 h))) (bc (Zak (fun h=>d5 (i4.1 h))) (bc (Zal (i10.2 d11)) (bc rfl (bc rfl (bc (i12.2 k13) (bc rfl (bc rfl (bc (i14.2 k15) b0)))))))))) (qc (Zai k13) (qc (Zai k15) q0)) c0 (by (try rw [w17]);(try rw [w19]);(try rw [w21]);(try rw [w23]);all_goals exact H)
   ·exact Zah (G:=Zad kp98 [] []) 1000 [false,false,false] (tu [vw 0,vb false]) (by kernel_rfl) (bc rfl (bc (Zak (fun h=>d3 (i2.1 h))) (bc (Zak (fun h=>d5 (i4.1 h))) (bc (Zak (fun h=>d11 (i10.1 h))) b0)))) q0 c0 H
theorem vFromInt64 (n:Int)  (dq:AV) (H :
  ((n<0)->(0<=IntKind.u64.wrap (0-IntKind.u64.wrap n)/\IntKind.u64.wrap (0-IntKind.u64.wrap n)<=18446744073709551615) /\
   (O.Za0 3/\O.fits 3 (IntKind.u64.wrap (0-IntKind.u64.wrap n)).toNat) /\
   Weak (bigA false (O.sg (decide (n<0)) (IntKind.u64.wrap (0-IntKind.u64.wrap n)).toNat)) dq) /\
  (¬(n<0)->(0<=IntKind.u64.wrap n/\IntKind.u64.wrap n<=18446744073709551615) /\
   (O.Za0 3/\O.fits 3 (IntKind.u64.wrap n).toNat) /\
   Weak (bigA false (O.sg (decide (n<0)) (IntKind.u64.wrap n).toNat)) dq)) :
 ZdG n (Zae dq):=by
 unfold ZdG
 rcases xq H with ⟨d2,H⟩|⟨d2,H⟩
 ·obtain ⟨k3,k4,H⟩:=H
  exact Zao (G:=Zad kp75 [(4,3,.call (vf (us (O.Zat 3 (wu (0-wu n)).toNat))) none),(4,4,.call (bigA false (O.sg (decide (n<0)) (wu (0-wu n)).toNat)) none)] []) 1000 [true] (bigA false (O.sg (decide (n<0)) (wu (0-wu n)).toNat)) (by kernel_rfl) (bc (Zal (Zab.2 d2)) (bc rfl b0)) q0 (ce (@ev85 (wu (0-wu n)) k3) (ce (@ev84 (decide (n<0)) false 3 ((wu (0-wu n)).toNat) k4) c0)) H
 ·obtain ⟨k5,k6,H⟩:=H
  exact Zao (G:=Zad kp75 [(4,3,.call (vf (us (O.Zat 3 (wu n).toNat))) none),(4,4,.call (bigA false (O.sg (decide (n<0)) (wu n).toNat)) none)] []) 1000 [false] (bigA false (O.sg (decide (n<0)) (wu n).toNat)) (by kernel_rfl) (bc (Zak (fun h=>d2 (Zab.1 h))) (bc rfl b0)) q0 (ce (@ev85 (wu n) k5) (ce (@ev84 (decide (n<0)) false 3 ((wu n).toNat) k6) c0)) H
theorem vSub (fa fb:Bool) (a b:Int)  (dq:AV) (H :
  ∃ (b1:Bool) (l1:List Int),
  (Ev M1 (Conf.pure 109 [bigA fa a,ag [vb (bif !O.Zaa b then decide ((↑(O.Zaf b).length:Int)>0) else false),AV.vec fb 1 (us (O.Zaf b))]]) (ag [vb b1,vf (us l1)]) []) /\
  Weak (ag [vb b1,vf (us l1)]) dq) :
 vSub_at fa fb a b (Zae dq):=by
 unfold vSub_at
 have w1:(us (O.Zaf b)).length=(O.Zaf b).length:=List.length_map ..
 obtain ⟨b1,l1,k2,H⟩:=H
 exact Zao (G:=Zad kp108 [(2,2,.call (ag [vb b1,vf (us l1)]) none)] []) 1000 [] (asm:=[true,!((!O.Zaa b)==true&&true)||true,true,true,true,true]) (calls:=[pc 109 [bigA fa a,ag [vb (bif !O.Zaa b then decide ((↑(us (O.Zaf b)).length:Int)>0) else false),AV.vec fb 1 (us (O.Zaf b))]] (ag [vb b1,vf (us l1)])]) (ag [vb b1,vf (us l1)]) (by kernel_rfl) (bc rfl (bc (Bool.or_true _) (bc rfl (bc rfl (bc rfl (bc rfl b0)))))) q0 (ce (by (try rw [w1]);all_goals exact k2) c0) H
theorem vAdd (fa fb:Bool) (a b:Int)  (dq:AV) (H :
  ((O.Zaa a=O.Zaa b)->(O.ok a/\O.ok b) /\
   (O.Za0 (max (O.cnt a.natAbs) (O.cnt b.natAbs)+1)/\O.fits (max (O.cnt a.natAbs) (O.cnt b.natAbs)+1) (a.natAbs+b.natAbs)) /\
   Weak (bigA false (O.sg (O.Zaa a) (a.natAbs+b.natAbs))) dq) /\
  (¬(O.Zaa a=O.Zaa b)->(O.ok a/\O.ok b) /\
   ((O.sgnI ((↑a.natAbs:Int)-(↑b.natAbs:Int))<0)->(O.ok b/\O.ok a/\a.natAbs<=b.natAbs) /\
    (O.Za0 (O.cnt b.natAbs)/\O.fits (O.cnt b.natAbs) (b.natAbs-a.natAbs)) /\
    Weak (bigA false (O.sg (O.Zaa b) (b.natAbs-a.natAbs))) dq) /\
   (¬(O.sgnI ((↑a.natAbs:Int)-(↑b.natAbs:Int))<0)->(O.ok a/\O.ok b/\b.natAbs<=a.natAbs) /\
    (O.Za0 (O.cnt a.natAbs)/\O.fits (O.cnt a.natAbs) (a.natAbs-b.natAbs)) /\
    Weak (bigA false (O.sg (O.Zaa a) (a.natAbs-b.natAbs))) dq))) :
 vAdd_at fa fb a b (Zae dq):=by
 unfold vAdd_at
 rcases xq H with ⟨d2,H⟩|⟨d2,H⟩
 ·obtain ⟨k3,k4,H⟩:=H
  exact Zao (G:=Zad kp109 [(2,6,.call (vf (us (O.Zat (max (O.cnt a.natAbs) (O.cnt b.natAbs)+1) (a.natAbs+b.natAbs)))) none),(2,7,.call (bigA false (O.sg (O.Zaa a) (a.natAbs+b.natAbs))) none)] []) 1000 [true] (bigA false (O.sg (O.Zaa a) (a.natAbs+b.natAbs))) (by kernel_rfl) (bc rfl (bc rfl (bc (Zal (i_eq.2 d2)) (bc rfl (bc rfl (bc rfl (bc rfl b0))))))) q0 (ce (@ev112 fa fb a b k3) (ce (@ev84 (O.Zaa a) false (max (O.cnt a.natAbs) (O.cnt b.natAbs)+1) (a.natAbs+b.natAbs) k4) c0)) H
 ·obtain ⟨k5,H⟩:=H
  refine Zac (G:=Zad kp109 [(3,4,.call (vi (O.sgnI ((↑a.natAbs:Int)-(↑b.natAbs:Int)))) none)] []) 10 [false] ⟨(atC (cd Try.f109) [1,1,0,1]),[(2,AV.ptr 0 0 0 0),(3,AV.ptr 1 0 0 0),(4,AV.ptr 2 0 0 0),(23,vb (decide (O.sgnI ((↑a.natAbs:Int)-(↑b.natAbs:Int))<0)))],[⟨[bigA fa a],2,0,false,false⟩,⟨[bigA fb b],2,0,false,false⟩,⟨[ag [vb false,AV.vnil]],2,0,false,false⟩],_,[],_⟩ (by kernel_rfl) (bc rfl (bc rfl (bc (Zak (fun h=>d2 (i_eq.1 h))) (bc rfl (bc rfl b0))))) q0 (ce (@ev92 fa fb a b k5) c0) ?_
  rcases xq H with ⟨d7,H⟩|⟨d7,H⟩
  ·obtain ⟨k8,k9,H⟩:=H
   exact Zao (G:=Zad kp109 [(5,6,.call (vf (us (O.Zat (O.cnt b.natAbs) (b.natAbs-a.natAbs)))) none),(5,7,.call (bigA false (O.sg (O.Zaa b) (b.natAbs-a.natAbs))) none)] []) 1000 [true] (bigA false (O.sg (O.Zaa b) (b.natAbs-a.natAbs))) (by kernel_rfl) (bc (Zal (Zab.2 d7)) (bc rfl (bc rfl (bc rfl (bc rfl (bc rfl (bc rfl (bc rfl (bc rfl b0))))))))) q0 (ce (@ev113 fb fa b a k8) (ce (@ev84 (O.Zaa b) false (O.cnt b.natAbs) (b.natAbs-a.natAbs) k9) c0)) H
  ·obtain ⟨k10,k11,H⟩:=H
   exact Zao (G:=Zad kp109 [(5,6,.call (vf (us (O.Zat (O.cnt a.natAbs) (a.natAbs-b.natAbs)))) none),(5,7,.call (bigA false (O.sg (O.Zaa a) (a.natAbs-b.natAbs))) none)] []) 1000 [false] (bigA false (O.sg (O.Zaa a) (a.natAbs-b.natAbs))) (by kernel_rfl) (bc (Zak (fun h=>d7 (Zab.1 h))) (bc rfl (bc rfl (bc rfl (bc rfl b0))))) q0 (ce (@ev113 fa fb a b k10) (ce (@ev84 (O.Zaa a) false (O.cnt a.natAbs) (a.natAbs-b.natAbs) k11) c0)) H
theorem vMul (fa fb:Bool) (a b:Int)  (dq:AV) (H :
  (O.ok a/\O.ok b) /\
  (O.Za0 (O.cnt a.natAbs+O.cnt b.natAbs)/\O.fits (O.cnt a.natAbs+O.cnt b.natAbs) (a.natAbs*b.natAbs)) /\
  Weak (bigA false (O.sg (!O.Zaa a==O.Zaa b) (a.natAbs*b.natAbs))) dq) :
 vMul_at fa fb a b (Zae dq):=by
 unfold vMul_at
 obtain ⟨k1,k2,H⟩:=H
 exact Zao (G:=Zad kp77 [(1,9,.call (vf (us (O.Zat (O.cnt a.natAbs+O.cnt b.natAbs) (a.natAbs*b.natAbs)))) none),(1,10,.call (bigA false (O.sg (!O.Zaa a==O.Zaa b) (a.natAbs*b.natAbs))) none)] []) 1000 [] (bigA false (O.sg (!O.Zaa a==O.Zaa b) (a.natAbs*b.natAbs))) (by kernel_rfl) (bc rfl (bc rfl (bc rfl (bc rfl (bc rfl b0))))) q0 (ce (@ev90 fa fb a b k1) (ce (@ev84 (!O.Zaa a==O.Zaa b) false (O.cnt a.natAbs+O.cnt b.natAbs) (a.natAbs*b.natAbs) k2) c0)) H
theorem vNeg0 (fa:Bool)  (dq:AV) (H :
  ∃ (b2:Bool) (l2:List Int),
  (Ev M1 (Conf.pure 84 [vb true,AV.vnil]) (ag [vb b2,vf (us l2)]) []) /\
  Weak (ag [vb b2,vf (us l2)]) dq) :
 vNeg0_at fa (Zae dq):=by
 unfold vNeg0_at
 obtain ⟨b2,l2,k2,H⟩:=H
 exact Zao (G:=Zad kp87 [(1,6,.call (ag [vb b2,vf (us l2)]) none)] [(1,[3007,902006,4005,2004,2001])]) 1000 [] (ag [vb b2,vf (us l2)]) (by kernel_rfl) (bc rfl (bc rfl (bc rfl b0))) q0 (ce k2 c0) H
theorem vNeg (s fa:Bool) (x:Int) (a:List Int)  (dq:AV) (H :
  ∃ (b2:Bool) (l2:List Int),
  (Ev M1 (Conf.pure 84 [vb !s,vf (vu x::us a)]) (ag [vb b2,vf (us l2)]) []) /\
  ((a.length+1)*4<=1099511627776) /\
  Weak (ag [vb b2,vf (us l2)]) dq) :
 vNeg_at s fa x a (Zae dq):=by
 unfold vNeg_at
 obtain ⟨b2,l2,k2,H⟩:=H
 have w3:(us a).length=a.length:=List.length_map ..
 have i4:(decide (((us a).length+1)*4<=1099511627776))=true ↔ ((a.length+1)*4<=1099511627776):=(by (try rw [w3]);all_goals exact Zab)
 obtain ⟨k5,H⟩:=H
 exact Zao (G:=Zad kp87 [(1,6,.call (ag [vb b2,vf (us l2)]) none)] [(1,[3007,6,4005,2004,2001])]) 1000 [] (ag [vb b2,vf (us l2)]) (by kernel_rfl) (bc rfl (bc rfl (bc (i4.2 k5) (bc rfl (bc rfl b0))))) q0 (ce k2 c0) H
theorem vCmp (fa fb:Bool) (a b:Int)  (dq:AV) (H :
  ((¬(O.Zaa a=O.Zaa b))->((O.Zaa a=true)->vi (-1)=dq) /\
   (¬(O.Zaa a=true)->vi 1=dq)) /\
  (¬(¬(O.Zaa a=O.Zaa b))->((O.Zaa a=true)->(O.ok b/\O.ok a) /\
    vi (O.sgnI ((↑b.natAbs:Int)-(↑a.natAbs:Int)))=dq) /\
   (¬(O.Zaa a=true)->(O.ok a/\O.ok b) /\
    vi (O.sgnI ((↑a.natAbs:Int)-(↑b.natAbs:Int)))=dq))) :
 vCmp_at fa fb a b (Zae dq):=by
 unfold vCmp_at
 rcases xq H with ⟨d2,H⟩|⟨d2,H⟩
 ·rcases xq H with ⟨d4,H⟩|⟨d4,H⟩
  ·exact Zah (G:=Zad kp80 [] []) 1000 [true,true] (asm:=[true,true,(!O.Zaa a==O.Zaa b)==true,0==0,(O.Zaa a)==true]) (vi (-1)) (by kernel_rfl) (bc rfl (bc rfl (bc (Zal ((Za2 i_eq).2 d2)) (bc (beq_self_eq_true _) (bc (Zal ((Zay _).2 d4)) b0))))) q0 c0 H
  ·exact Zah (G:=Zad kp80 [] []) 1000 [true,false] (asm:=[true,true,(!O.Zaa a==O.Zaa b)==true,0==0,(O.Zaa a)==false]) (vi 1) (by kernel_rfl) (bc rfl (bc rfl (bc (Zal ((Za2 i_eq).2 d2)) (bc (beq_self_eq_true _) (bc (Zak (fun h=>d4 ((Zay _).1 h))) b0))))) q0 c0 H
 ·rcases xq H with ⟨d6,H⟩|⟨d6,H⟩
  ·obtain ⟨k7,H⟩:=H
   exact Zah (G:=Zad kp80 [(6,4,.call (vi (O.sgnI ((↑b.natAbs:Int)-(↑a.natAbs:Int)))) none)] []) 1000 [false,true] (asm:=[true,true,(!O.Zaa a==O.Zaa b)==false,0==0,(O.Zaa a)==true,true,true]) (vi (O.sgnI ((↑b.natAbs:Int)-(↑a.natAbs:Int)))) (by kernel_rfl) (bc rfl (bc rfl (bc (Zak (fun h=>d2 ((Za2 i_eq).1 h))) (bc (beq_self_eq_true _) (bc (Zal ((Zay _).2 d6)) (bc rfl (bc rfl b0))))))) q0 (ce (@ev92 fb fa b a k7) c0) H
  ·obtain ⟨k8,H⟩:=H
   exact Zah (G:=Zad kp80 [(7,4,.call (vi (O.sgnI ((↑a.natAbs:Int)-(↑b.natAbs:Int)))) none)] []) 1000 [false,false] (asm:=[true,true,(!O.Zaa a==O.Zaa b)==false,0==0,(O.Zaa a)==false,true,true]) (vi (O.sgnI ((↑a.natAbs:Int)-(↑b.natAbs:Int)))) (by kernel_rfl) (bc rfl (bc rfl (bc (Zak (fun h=>d2 ((Za2 i_eq).1 h))) (bc (beq_self_eq_true _) (bc (Zak (fun h=>d6 ((Zay _).1 h))) (bc rfl (bc rfl b0))))))) q0 (ce (@ev92 fa fb a b k8) c0) H
end Go.Av

namespace Go.Av
open Go.Proofs
namespace O
def okB (v:Int):Prop:=cnt v.natAbs<=400000
end O
theorem Zc3 {v:Int} (h:O.okB v):O.ok v:=by unfold O.okB at h;unfold O.ok;omega
theorem weak_bnil (b:Bool):Weak (.agg [.bool b,.vnil]) (.agg [.bool b,.vec false 1 []]):=by
 refine .agg _ _ rfl fun i x y hx hy => ?_
 match i with
 | 0=>simp at hx hy;subst hx;subst hy;exact .refl _
 | 1=>simp at hx hy;subst hx;subst hy;exact .vnil 1
 | i+2=>simp at hx
theorem limI_neg (v:Int):O.Zaf (-v)=O.Zaf v:=by unfold O.Zaf;rw [Int.natAbs_neg]
theorem sg_add {a b:Int} (h:O.Zaa a=O.Zaa b):O.sg (O.Zaa a) (a.natAbs+b.natAbs)=a+b:=by
 unfold O.sg
 by_cases k:a<0
 ·have kb:b<0:=Zan.1 (by rw [<- h];exact Zan.2 k)
  rw [if_pos (Zan.2 k)];omega
 ·have kb:¬b<0:=fun x=>k (Zan.1 (by rw [h];exact Zan.2 x))
  rw [if_neg (fun x=>k (Zan.1 x))];omega
theorem sg_sub {a b:Int} (h:¬O.Zaa a=O.Zaa b) (hl:b.natAbs<=a.natAbs):O.sg (O.Zaa a) (a.natAbs-b.natAbs)=a+b:=by
 unfold O.sg
 by_cases k:a<0
 ·have kb:¬b<0:=fun x=>h (by rw [Zan.2 k,Zan.2 x])
  rw [if_pos (Zan.2 k)];omega
 ·have kb:b<0:=by
   by_cases kb:b<0
   ·exact kb
   ·exact absurd (by rw [Bool.eq_false_iff.2 (fun x=>k (Zan.1 x)),Bool.eq_false_iff.2 (fun x=>kb (Zan.1 x))]) h
  rw [if_neg (fun x=>k (Zan.1 x))];omega
theorem sg_mul (a b:Int):O.sg (!(O.Zaa a==O.Zaa b)) (a.natAbs*b.natAbs)=a*b:=by
 unfold O.sg
 have hm:((a.natAbs*b.natAbs:Nat):Int)=(a.natAbs:Int)*(b.natAbs:Int):=Int.natCast_mul _ _
 rw [hm]
 by_cases ka:a<0
 ·have ea:(a.natAbs:Int) = -a:=by omega
  rw [Zan.2 ka,ea]
  by_cases kb:b<0
  ·have eb:(b.natAbs:Int) = -b:=by omega
   rw [Zan.2 kb,eb,if_neg (by simp),Int.neg_mul_neg]
  ·have eb:(b.natAbs:Int)=b:=by omega
   rw [Bool.eq_false_iff.2 (fun x=>kb (Zan.1 x)),eb,if_pos (by simp),Int.neg_mul,Int.neg_neg]
 ·have ea:(a.natAbs:Int)=a:=by omega
  rw [Bool.eq_false_iff.2 (fun x=>ka (Zan.1 x)),ea]
  by_cases kb:b<0
  ·have eb:(b.natAbs:Int) = -b:=by omega
   rw [Zan.2 kb,eb,if_pos (by simp),Int.mul_neg,Int.neg_neg]
  ·have eb:(b.natAbs:Int)=b:=by omega
   rw [Bool.eq_false_iff.2 (fun x=>kb (Zan.1 x)),eb,if_neg (by simp)]
theorem ZcV {n:Int}:O.sgnI n<0 ↔ n<0:=by
 unfold O.sgnI
 (repeat' split) <;> omega
theorem ev109 (fa fb:Bool) (a b:Int) (h:O.okB a/\O.okB b):Ev M1 (.pure 109 [bigA fa a,bigA fb b]) (bigA false (a+b)) []:=by
 obtain ⟨ha,hb⟩:=h
 have oa:=Zc3 ha
 have ob:=Zc3 hb
 unfold O.okB at ha hb
 refine call109 (vAdd _ _ _ _ _ ⟨fun h=>⟨⟨oa,ob⟩,⟨?_,?_⟩,?_⟩,fun h=>⟨⟨oa,ob⟩,fun k=>⟨⟨ob,oa,?_⟩,⟨ob,Zc6 (Zap _) (by omega)⟩,?_⟩,fun k=>⟨⟨oa,ob,?_⟩,⟨oa,Zc6 (Zap _) (by omega)⟩,?_⟩⟩⟩)
 ·unfold O.Za0;omega
 ·exact fits_sum (Zb2 (Zap _) (by omega)) (Zb2 (Zap _) (by omega))
 ·rw [sg_add h];exact .refl _
 ·rw [ZcV] at k;omega
 ·rw [ZcV] at k
  rw [sg_sub (fun x=>h x.symm) (by omega),Int.add_comm];exact .refl _
 ·rw [ZcV] at k;omega
 ·rw [ZcV] at k
  rw [sg_sub h (by omega)];exact .refl _
theorem ev77 (fa fb:Bool) (a b:Int) (h:O.okB a/\O.okB b):Ev M1 (.pure 77 [bigA fa a,bigA fb b]) (bigA false (a*b)) []:=by
 obtain ⟨ha,hb⟩:=h
 have oa:=Zc3 ha
 have ob:=Zc3 hb
 unfold O.okB at ha hb
 refine call77 (vMul _ _ _ _ _ ⟨⟨oa,ob⟩,⟨?_,ZfU (Zap _) (Zap _)⟩,?_⟩)
 ·unfold O.Za0;omega
 ·rw [sg_mul];exact .refl _
theorem ev80 (fa fb:Bool) (a b:Int) (h:O.okB a/\O.okB b):Ev M1 (.pure 80 [bigA fa a,bigA fb b]) (.int .i64 (O.sgnI (a-b))) []:=by
 have oa:=Zc3 h.1
 have ob:=Zc3 h.2
 refine call80 (vCmp _ _ _ _ _ ⟨fun k=>⟨fun ka => ?_,fun ka => ?_⟩,fun k=>⟨fun ka=>⟨⟨ob,oa⟩,?_⟩,fun ka=>⟨⟨oa,ob⟩,?_⟩⟩⟩)
 ·have kb:¬b<0:=fun x=>k (by rw [ka,Zan.2 x])
  rw [Zan] at ka
  congr 1;unfold O.sgnI;rw [if_pos (by omega)]
 ·have kb:b<0:=by
   by_cases kb:b<0
   ·exact kb
   ·exact absurd (by rw [Bool.eq_false_iff.2 ka,Bool.eq_false_iff.2 (fun x=>kb (Zan.1 x))]) k
  have ka:¬a<0:=fun x=>ka (Zan.2 x)
  congr 1;unfold O.sgnI;rw [if_neg (by omega),if_pos (by omega)]
 ·have k:=Classical.not_not.1 k
  have kb:=Zan.1 (k ▸ ka)
  rw [Zan] at ka
  congr 2;omega
 ·have k:=Classical.not_not.1 k
  have kb:¬b<0:=fun x=>ka (by rw [k];exact Zan.2 x)
  have ka:¬a<0:=fun x=>ka (Zan.2 x)
  congr 2;omega
theorem ev87 (fa:Bool) (v:Int) (h:O.okB v):Ev M1 (.pure 87 [bigA fa v]) (bigA false (-v)) []:=by
 have ov:=Zc3 h
 by_cases h0:v=0
 ·subst h0
  have e1:O.Zaa 0=false:=rfl
  have e2:O.Zaf 0=[]:=ZdZ
  have e3:bigA fa 0 = .agg [.bool false,.vec fa 1 []]:=by
   show AV.agg [.bool (O.Zaa 0),.vec fa 1 ((O.Zaf 0).map (.int .u32))]=_
   rw [e1,e2];rfl
  have e4:bigA false (-0) = .agg [.bool false,.vec false 1 []]:=by
   show AV.agg [.bool (O.Zaa (-0)),.vec false 1 ((O.Zaf (-0)).map (.int .u32))]=_
   rw [Int.neg_zero,e1,e2];rfl
  rw [e3,e4]
  refine call87 (vNeg0 fa _ ⟨false,[],?_,.refl _⟩)
  exact call84 (vSigned0 true _ (vSigned0A true _ (weak_bnil false)))
 ·have hne:O.Zaf v ≠ []:=by
   intro e
   have:=Zbv v
   rw [e] at this
   exact h0 (Int.natAbs_eq_zero.1 (ZaZ.1 this.symm))
  obtain ⟨x,l,hl⟩:=List.exists_cons_of_ne_nil hne
  have es:=ev84_a (!O.Zaa v) false v ov
  have e5:O.sg (!O.Zaa v) v.natAbs = -v:=by
   unfold O.sg
   by_cases k:v<0
   ·rw [Zan.2 k,if_neg (by simp)];omega
   ·rw [Bool.eq_false_iff.2 (fun x=>k (Zan.1 x)),if_pos (by simp)];omega
  rw [e5] at es
  have hle:=Zbv v
  rw [hl] at hle
  simp only [List.length_cons] at hle
  unfold O.ok at ov
  have e6:bigA fa v = .agg [.bool (O.Zaa v),.vec fa 1 ((x::l).map (.int .u32))]:=by
   show AV.agg [.bool (O.Zaa v),.vec fa 1 ((O.Zaf v).map (.int .u32))]=_
   rw [hl]
  rw [hl] at es
  rw [e6]
  exact call87 (vNeg _ _ _ _ _ ⟨_,_,es,by omega,.refl _⟩)
theorem ev108 (fa fb:Bool) (a b:Int) (h:O.okB a/\O.okB b):Ev M1 (.pure 108 [bigA fa a,bigA fb b]) (bigA false (a-b)) []:=by
 have hb:O.okB (-b):=by have:=h.2;unfold O.okB at *;rwa [Int.natAbs_neg]
 have ea:=ev109 fa fb a (-b) ⟨h.1,hb⟩
 have e1:O.Zaa (-b)=(bif !O.Zaa b then decide (((O.Zaf b).length:Int)>0) else false):=by
  have hl:=Zbv b
  unfold O.Zaa
  by_cases k:b<0
  ·simp [k];omega
  ·have:decide (b<0)=false:=by simp [k]
   rw [this,Bool.not_false,cond_true,decide_eq_decide,hl]
   have:=ZaZ (v:=b.natAbs)
   omega
 have e2:bigA fb (-b) = .agg [.bool (bif !O.Zaa b then decide (((O.Zaf b).length:Int)>0) else false),.vec fb 1 ((O.Zaf b).map (.int .u32))]:=by
  show AV.agg [.bool (O.Zaa (-b)),.vec fb 1 ((O.Zaf (-b)).map (.int .u32))]=_
  rw [e1,limI_neg]
 rw [e2] at ea
 exact call108 (vSub _ _ _ _ _ ⟨_,_,ea,.refl _⟩)
theorem wrap_neg {n:Int} (h:-9223372036854775808<=n/\n<0):IntKind.u64.wrap n=n+18446744073709551616:=by
 have e1:(2:Int) ^ IntKind.u64.bits=18446744073709551616:=rfl
 have e3:IntKind.u64.signed=false:=rfl
 simp only [IntKind.wrap,e1,e3,Bool.false_and,Bool.false_eq_true,if_false]
 omega
theorem fits3 {u:Nat} (h:u<=18446744073709551615):O.fits 3 u:=by
 unfold O.fits
 have:(1000000000:Nat) ^ 3=1000000000000000000000000000:=by decide
 omega
def O.inI (n:Int):Prop:=-9223372036854775808<=n/\n<=9223372036854775807
theorem ev75 (n:Int) (h:O.inI n):Ev M1 (.pure 75 [.int .i64 n]) (bigA false n) []:=by
 unfold O.inI at h
 refine call75 (vFromInt64 n _ ⟨fun k => ?_,fun k => ?_⟩)
 ·have e1:IntKind.u64.wrap (0-IntKind.u64.wrap n) = -n:=by
   rw [wrap_neg ⟨h.1,k⟩]
   have e1:(2:Int) ^ IntKind.u64.bits=18446744073709551616:=rfl
   have e3:IntKind.u64.signed=false:=rfl
   simp only [IntKind.wrap,e1,e3,Bool.false_and,Bool.false_eq_true,if_false]
   omega
  have e2:O.sg (decide (n<0)) (-n).toNat=n:=by unfold O.sg;rw [if_pos (by simpa using k)];omega
  rw [e1,e2]
  exact ⟨by omega,⟨by unfold O.Za0;omega,fits3 (by omega)⟩,.refl _⟩
 ·have e1:IntKind.u64.wrap n=n:=wU64 ⟨by omega,by omega⟩
  have e2:O.sg (decide (n<0)) n.toNat=n:=by unfold O.sg;rw [if_neg (by simpa using k)];omega
  rw [e1,e2]
  exact ⟨by omega,⟨by unfold O.Za0;omega,fits3 (by omega)⟩,.refl _⟩
end Go.Av

namespace Go.Av
open Go.Proofs
set_option maxRecDepth 100000
def fi106:Fi:=⟨62,[.tmp 6]⟩
def kp106:List (Nat × List Nat):=[(0,[0,1,2]),(1,[0,1,2,7,8]),(2,[0,1,2,7,8,14,15]),(3,[0,1,2,7,8,14,15,16]),(4,[0,1,2,7,8,9,14,15]),(5,[0,1,2,8,9,10,14,15]),(6,[0,1,2,8,9,10,14,15,22]),(7,[0,1,2,8,9,10,14,15]),(8,[0,1,2,7,8,9,10,14,15]),(9,[0,1,2,7,9,11,14,15]),(10,[0,1,2,7,8,9,11,14,15]),(11,[0,1,2,7,8,9,11,12,14,15]),(12,[0,1,2,7,8,9,11,12,14,15,45]),(13,[0,1,2,7,8,9,11,12,14,15]),(14,[0,1,2,7,8,14,15]),(15,[0,1,2,7,8,14,15]),(16,[6])]
def fi107:Fi:=⟨37,[]⟩
def kp107:List (Nat × List Nat):=[(0,[0,1,4]),(1,[0,1,4,8,9]),(2,[0,1,4,8,9,10]),(3,[0,1,4,5,8,9]),(4,[0,1,5,6,8,9]),(5,[0,1,5,6,8,9,21]),(6,[0,1,5,6,8,9]),(7,[0,1,4,5,6,8,9]),(8,[0,1,4,5,6,8,9,29]),(9,[0,1,4,5,6,8,9]),(10,[0,1,4,8,9]),(11,[0,1,4,8,9])]
def ZeA (u b:List Int) (fb:Bool) (v lo len:Nat) (g:Int) (Q:AV->Heap->Prop):Prop:=Wp M1 (.run fi106 (atC (cd Try.f106) []) [(0,.ref 0 v lo len),(1,.vec fb 1 (b.map (.int .u32))),(2,.int .u64 g)] [⟨u.map (.int .u32),1,v,false,true⟩]) Q
def ZaW (u b:List Int) (fb:Bool) (v lo len:Nat) (g c w n i:Int) (Q:AV->Heap->Prop):Prop:=Wp M1 (.run fi106 (atC (cd Try.f106) [1,1,0,1,0,0]) [(0,.ref 0 v lo len),(1,.vec fb 1 (b.map (.int .u32))),(2,.int .u64 g),(7,.int .u64 c),(8,.int .u64 w),(14,.int .i64 n),(15,.int .i64 i)] [⟨u.map (.int .u32),1,v,false,true⟩]) Q
def Zfd (u b:List Int) (fb:Bool) (v lo len:Nat) (Q:AV->Heap->Prop):Prop:=Wp M1 (.run fi107 (atC (cd Try.f107) []) [(0,.ref 0 v lo len),(1,.vec fb 1 (b.map (.int .u32)))] [⟨u.map (.int .u32),1,v,false,true⟩]) Q
def Za3 (u b:List Int) (fb:Bool) (v lo len:Nat) (c n i:Int) (Q:AV->Heap->Prop):Prop:=Wp M1 (.run fi107 (atC (cd Try.f107) [1,1,0,0]) [(0,.ref 0 v lo len),(1,.vec fb 1 (b.map (.int .u32))),(4,.int .u32 c),(8,.int .i64 n),(9,.int .i64 i)] [⟨u.map (.int .u32),1,v,false,true⟩]) Q
theorem owncall106 {args:List AV} {L:Heap} {Q:AV->Heap->Prop} (h:Wp M1 (.run fi106 [.code (cd Try.f106)] (ZbB 0 args) L) Q):Wp M1 (.own 106 args L) Q:=
 own_wp Try.f106 fi106 (by kernel_rfl) (by kernel_rfl) (by kernel_rfl) (by kernel_rfl) h
theorem owncall107 {args:List AV} {L:Heap} {Q:AV->Heap->Prop} (h:Wp M1 (.run fi107 [.code (cd Try.f107)] (ZbB 0 args) L) Q):Wp M1 (.own 107 args L) Q:=
 own_wp Try.f107 fi107 (by kernel_rfl) (by kernel_rfl) (by kernel_rfl) (by kernel_rfl) h
theorem vSubtract (u b:List Int) (fb:Bool) (v lo len:Nat) (g:Int)  (Q:AV->Heap->Prop) (H :
  ZaW u b fb v lo len g 0 0 ((↑len:Int)) 0 Q) :
 ZeA u b fb v lo len g Q:=by
 unfold ZeA
 exact Zac (G:=Zad kp106 [] []) 1000 [] ⟨(atC (cd Try.f106) [1,1,0,1,0,0]),[(0,AV.ref 0 v lo len),(1,AV.vec fb 1 (us b)),(2,vw g),(7,vw 0),(8,vw 0),(14,vi (↑len:Int)),(15,vi 0)],[⟨us u,1,v,false,true⟩],[v==v],[],_⟩ (by kernel_rfl) (bc (beq_self_eq_true _) b0) q0 c0 H
noncomputable abbrev ZeJ (u:List Int) (lo:Nat) (i:Int):=vu (u.getD (lo+i.toNat) default)
theorem Zgq (u b:List Int) (fb:Bool) (v lo len:Nat) (g c w n i:Int)  (Q:AV->Heap->Prop) (H :
  ((i<n)->((i<(↑b.length:Int))->(0<=i) /\
    (i.toNat<b.length) /\
    (0<=b.getD i.toNat default/\b.getD i.toNat default<=18446744073709551615) /\
    (0<=b.getD i.toNat default*g/\b.getD i.toNat default*g<=18446744073709551615) /\
    (0<=c+b.getD i.toNat default*g/\c+b.getD i.toNat default*g<=18446744073709551615) /\
    (0<=(c+b.getD i.toNat default*g).tdiv 1000000000/\(c+b.getD i.toNat default*g).tdiv 1000000000<=18446744073709551615) /\
    (0<=(c+b.getD i.toNat default*g).tmod 1000000000+w/\(c+b.getD i.toNat default*g).tmod 1000000000+w<=18446744073709551615) /\
    (i.toNat<len) /\
    (lo+i.toNat<u.length) /\
    (0<=u.getD (lo+i.toNat) default/\u.getD (lo+i.toNat) default<=18446744073709551615) /\
    ((u.getD (lo+i.toNat) default<(c+b.getD i.toNat default*g).tmod 1000000000+w)->(0<=u.getD (lo+i.toNat) default+1000000000/\u.getD (lo+i.toNat) default+1000000000<=18446744073709551615) /\
     (0<=u.getD (lo+i.toNat) default+1000000000-((c+b.getD i.toNat default*g).tmod 1000000000+w)/\u.getD (lo+i.toNat) default+1000000000-((c+b.getD i.toNat default*g).tmod 1000000000+w)<=18446744073709551615) /\
     (0<=u.getD (lo+i.toNat) default+1000000000-((c+b.getD i.toNat default*g).tmod 1000000000+w)/\u.getD (lo+i.toNat) default+1000000000-((c+b.getD i.toNat default*g).tmod 1000000000+w)<=4294967295) /\
     (-9223372036854775808<=i+1/\i+1<=9223372036854775807) /\
     ZaW (u.set (lo+i.toNat) (u.getD (lo+i.toNat) default+1000000000-((c+b.getD i.toNat default*g).tmod 1000000000+w))) b fb v lo len g ((c+b.getD i.toNat default*g).tdiv 1000000000) 1 n (i+1) Q) /\
    (¬(u.getD (lo+i.toNat) default<(c+b.getD i.toNat default*g).tmod 1000000000+w)->(0<=u.getD (lo+i.toNat) default-((c+b.getD i.toNat default*g).tmod 1000000000+w)/\u.getD (lo+i.toNat) default-((c+b.getD i.toNat default*g).tmod 1000000000+w)<=18446744073709551615) /\
     (0<=u.getD (lo+i.toNat) default-((c+b.getD i.toNat default*g).tmod 1000000000+w)/\u.getD (lo+i.toNat) default-((c+b.getD i.toNat default*g).tmod 1000000000+w)<=4294967295) /\
     (-9223372036854775808<=i+1/\i+1<=9223372036854775807) /\
     ZaW (u.set (lo+i.toNat) (u.getD (lo+i.toNat) default-((c+b.getD i.toNat default*g).tmod 1000000000+w))) b fb v lo len g ((c+b.getD i.toNat default*g).tdiv 1000000000) 0 n (i+1) Q)) /\
   (¬(i<(↑b.length:Int))->(0<=c.tdiv 1000000000/\c.tdiv 1000000000<=18446744073709551615) /\
    (0<=c.tmod 1000000000+w/\c.tmod 1000000000+w<=18446744073709551615) /\
    (0<=i) /\
    (i.toNat<len) /\
    (lo+i.toNat<u.length) /\
    (0<=u.getD (lo+i.toNat) default/\u.getD (lo+i.toNat) default<=18446744073709551615) /\
    ((u.getD (lo+i.toNat) default<c.tmod 1000000000+w)->(0<=u.getD (lo+i.toNat) default+1000000000/\u.getD (lo+i.toNat) default+1000000000<=18446744073709551615) /\
     (0<=u.getD (lo+i.toNat) default+1000000000-(c.tmod 1000000000+w)/\u.getD (lo+i.toNat) default+1000000000-(c.tmod 1000000000+w)<=18446744073709551615) /\
     (0<=u.getD (lo+i.toNat) default+1000000000-(c.tmod 1000000000+w)/\u.getD (lo+i.toNat) default+1000000000-(c.tmod 1000000000+w)<=4294967295) /\
     (-9223372036854775808<=i+1/\i+1<=9223372036854775807) /\
     ZaW (u.set (lo+i.toNat) (u.getD (lo+i.toNat) default+1000000000-(c.tmod 1000000000+w))) b fb v lo len g (c.tdiv 1000000000) 1 n (i+1) Q) /\
    (¬(u.getD (lo+i.toNat) default<c.tmod 1000000000+w)->(0<=u.getD (lo+i.toNat) default-(c.tmod 1000000000+w)/\u.getD (lo+i.toNat) default-(c.tmod 1000000000+w)<=18446744073709551615) /\
     (0<=u.getD (lo+i.toNat) default-(c.tmod 1000000000+w)/\u.getD (lo+i.toNat) default-(c.tmod 1000000000+w)<=4294967295) /\
     (-9223372036854775808<=i+1/\i+1<=9223372036854775807) /\
     ZaW (u.set (lo+i.toNat) (u.getD (lo+i.toNat) default-(c.tmod 1000000000+w))) b fb v lo len g (c.tdiv 1000000000) 0 n (i+1) Q))) /\
  (¬(i<n)->Q (vb (bif decide (w>0) then true else decide (c>0))) [{ elems:=us u,es:=1,ver:=v,frozen:=false,clean:=true }])) :
 ZaW u b fb v lo len g c w n i Q:=by
 unfold ZaW
 rcases xq H with ⟨d2,H⟩|⟨d2,H⟩
 ·have w3:(us b).length=b.length:=List.length_map ..
  have i4:(decide (i<(↑(us b).length:Int)))=true ↔ (i<(↑b.length:Int)):=(by (try rw [w3]);all_goals exact Zab)
  rcases xq H with ⟨d5,H⟩|⟨d5,H⟩
  ·obtain ⟨k7,H⟩:=H
   have i8:(decide (i.toNat<(us b).length))=true ↔ (i.toNat<b.length):=(by (try rw [w3]);all_goals exact Zab)
   obtain ⟨k9,k10,H⟩:=H
   have w11:wu (b.getD i.toNat default)=b.getD i.toNat default:=wU64 k10
   obtain ⟨k12,H⟩:=H
   have w13:wu (b.getD i.toNat default*g)=b.getD i.toNat default*g:=wU64 k12
   obtain ⟨k14,H⟩:=H
   have w15:wu (c+b.getD i.toNat default*g)=c+b.getD i.toNat default*g:=wU64 k14
   obtain ⟨k16,H⟩:=H
   have w17:wu ((c+b.getD i.toNat default*g).tdiv 1000000000)=(c+b.getD i.toNat default*g).tdiv 1000000000:=wU64 k16
   obtain ⟨k18,H⟩:=H
   have w19:wu ((c+b.getD i.toNat default*g).tmod 1000000000+w)=(c+b.getD i.toNat default*g).tmod 1000000000+w:=wU64 k18
   obtain ⟨k22,k23,k24,H⟩:=H
   have w25:wu (u.getD (lo+i.toNat) default)=u.getD (lo+i.toNat) default:=wU64 k24
   have i26:(decide (wu (u.getD (lo+i.toNat) default)<wu ((wu (c+wu (wu (b.getD i.toNat default)*g))).tmod 1000000000+w)))=true ↔ (u.getD (lo+i.toNat) default<(c+b.getD i.toNat default*g).tmod 1000000000+w):=(by (try rw [w11]);(try rw [w13]);(try rw [w15]);(try rw [w19]);(try rw [w25]);all_goals exact Zab)
   refine Zac (G:=Zad kp106 [(7,4,.elem (vu (b.getD i.toNat default))),(11,3,.elem (ZeJ u lo i))] []) 27 [true,true] ⟨(atC (cd Try.f106) [1,1,0,1,0,0,1,1,0,0,1,1,1,1,1,1,1,0,1]),[(0,AV.ref 0 v lo len),(1,AV.vec fb 1 (us b)),(2,vw g),(7,vw (wu ((wu (c+wu (wu (b.getD i.toNat default)*g))).tdiv 1000000000))),(8,vw 0),(9,vi i),(11,vw (wu ((wu (c+wu (wu (b.getD i.toNat default)*g))).tmod 1000000000+w))),(12,vw (wu (u.getD (lo+i.toNat) default))),(14,vi n),(15,vi i),(45,vb (decide (wu (u.getD (lo+i.toNat) default)<wu ((wu (c+wu (wu (b.getD i.toNat default)*g))).tmod 1000000000+w))))],[⟨us u,1,v,false,true⟩],[(decide (i<n))==true,(decide (i<(↑(us b).length:Int)))==true,decide (0<=i),decide (i.toNat<(us b).length),true,true,v==v,decide (0<=i),decide (i.toNat<len),v==v],[((us b).get?Internal i.toNat=some (vu (b.getD i.toNat default))),((us u).get?Internal (lo+i.toNat)=some (ZeJ u lo i))],_⟩ (by kernel_rfl) (bc (Zal (Zab.2 d2)) (bc (Zal (i4.2 d5)) (bc (Zab.2 k7) (bc (i8.2 k9) (bc rfl (bc rfl (bc (beq_self_eq_true _) (bc (Zab.2 k7) (bc (Zab.2 k22) (bc (beq_self_eq_true _) b0)))))))))) (qc (Zai k9) (qc (Zai k23) q0)) c0 ?_
   rcases xq H with ⟨d27,H⟩|⟨d27,H⟩
   ·obtain ⟨k28,H⟩:=H
    have w29:wu (u.getD (lo+i.toNat) default+1000000000)=u.getD (lo+i.toNat) default+1000000000:=wU64 k28
    obtain ⟨k32,H⟩:=H
    have w33:wu (u.getD (lo+i.toNat) default+1000000000-((c+b.getD i.toNat default*g).tmod 1000000000+w))=u.getD (lo+i.toNat) default+1000000000-((c+b.getD i.toNat default*g).tmod 1000000000+w):=wU64 k32
    obtain ⟨k34,H⟩:=H
    have w35:wv (u.getD (lo+i.toNat) default+1000000000-((c+b.getD i.toNat default*g).tmod 1000000000+w))=u.getD (lo+i.toNat) default+1000000000-((c+b.getD i.toNat default*g).tmod 1000000000+w):=wU32 k34
    have w36:(us u).set (lo+i.toNat) (vu (u.getD (lo+i.toNat) default+1000000000-((c+b.getD i.toNat default*g).tmod 1000000000+w)))=us (u.set (lo+i.toNat) (u.getD (lo+i.toNat) default+1000000000-((c+b.getD i.toNat default*g).tmod 1000000000+w))):=(Za4 rfl rfl)
    obtain ⟨k37,H⟩:=H
    have w38:wi (i+1)=i+1:=wI64 k37
    exact Zac (G:=Zad kp106 [(14,7,.elem (ZeJ u lo i))] []) 1000 [true] ⟨(atC (cd Try.f106) [1,1,0,1,0,0]),[(0,AV.ref 0 v lo len),(1,AV.vec fb 1 (us b)),(2,vw g),(7,vw (wu ((wu (c+wu (wu (b.getD i.toNat default)*g))).tdiv 1000000000))),(8,vw 1),(14,vi n),(15,vi (wi (i+1)))],[⟨(us u).set (lo+i.toNat) (vu (wv (wu (wu (wu (u.getD (lo+i.toNat) default)+1000000000)-wu ((wu (c+wu (wu (b.getD i.toNat default)*g))).tmod 1000000000+w))))),1,v,false,true⟩],[(decide (wu (u.getD (lo+i.toNat) default)<wu ((wu (c+wu (wu (b.getD i.toNat default)*g))).tmod 1000000000+w)))==true,v==v,decide (0<=i),decide (i.toNat<len),v==v],[((us u).get?Internal (lo+i.toNat)=some (ZeJ u lo i))],_⟩ (by kernel_rfl) (bc (Zal (i26.2 d27)) (bc (beq_self_eq_true _) (bc (Zab.2 k7) (bc (Zab.2 k22) (bc (beq_self_eq_true _) b0))))) (qc (Zai k23) q0) c0 (by (try rw [w11]);(try rw [w13]);(try rw [w15]);(try rw [w17]);(try rw [w19]);(try rw [w25]);(try rw [w29]);(try rw [w33]);(try rw [w35]);(try rw [w36]);(try rw [w38]);all_goals exact H)
   ·obtain ⟨k41,H⟩:=H
    have w42:wu (u.getD (lo+i.toNat) default-((c+b.getD i.toNat default*g).tmod 1000000000+w))=u.getD (lo+i.toNat) default-((c+b.getD i.toNat default*g).tmod 1000000000+w):=wU64 k41
    obtain ⟨k43,H⟩:=H
    have w44:wv (u.getD (lo+i.toNat) default-((c+b.getD i.toNat default*g).tmod 1000000000+w))=u.getD (lo+i.toNat) default-((c+b.getD i.toNat default*g).tmod 1000000000+w):=wU32 k43
    have w45:(us u).set (lo+i.toNat) (vu (u.getD (lo+i.toNat) default-((c+b.getD i.toNat default*g).tmod 1000000000+w)))=us (u.set (lo+i.toNat) (u.getD (lo+i.toNat) default-((c+b.getD i.toNat default*g).tmod 1000000000+w))):=(Za4 rfl rfl)
    obtain ⟨k46,H⟩:=H
    have w47:wi (i+1)=i+1:=wI64 k46
    exact Zac (G:=Zad kp106 [(14,7,.elem (ZeJ u lo i))] []) 1000 [false] ⟨(atC (cd Try.f106) [1,1,0,1,0,0]),[(0,AV.ref 0 v lo len),(1,AV.vec fb 1 (us b)),(2,vw g),(7,vw (wu ((wu (c+wu (wu (b.getD i.toNat default)*g))).tdiv 1000000000))),(8,vw 0),(14,vi n),(15,vi (wi (i+1)))],[⟨(us u).set (lo+i.toNat) (vu (wv (wu (wu (u.getD (lo+i.toNat) default)-wu ((wu (c+wu (wu (b.getD i.toNat default)*g))).tmod 1000000000+w))))),1,v,false,true⟩],[(decide (wu (u.getD (lo+i.toNat) default)<wu ((wu (c+wu (wu (b.getD i.toNat default)*g))).tmod 1000000000+w)))==false,v==v,decide (0<=i),decide (i.toNat<len),v==v],[((us u).get?Internal (lo+i.toNat)=some (ZeJ u lo i))],_⟩ (by kernel_rfl) (bc (Zak (fun h=>d27 (i26.1 h))) (bc (beq_self_eq_true _) (bc (Zab.2 k7) (bc (Zab.2 k22) (bc (beq_self_eq_true _) b0))))) (qc (Zai k23) q0) c0 (by (try rw [w11]);(try rw [w13]);(try rw [w15]);(try rw [w17]);(try rw [w19]);(try rw [w25]);(try rw [w42]);(try rw [w44]);(try rw [w45]);(try rw [w47]);all_goals exact H)
  ·obtain ⟨k48,H⟩:=H
   have w49:wu (c.tdiv 1000000000)=c.tdiv 1000000000:=wU64 k48
   obtain ⟨k50,H⟩:=H
   have w51:wu (c.tmod 1000000000+w)=c.tmod 1000000000+w:=wU64 k50
   obtain ⟨k53,k55,k56,k57,H⟩:=H
   have w58:wu (u.getD (lo+i.toNat) default)=u.getD (lo+i.toNat) default:=wU64 k57
   have i59:(decide (wu (u.getD (lo+i.toNat) default)<wu (c.tmod 1000000000+w)))=true ↔ (u.getD (lo+i.toNat) default<c.tmod 1000000000+w):=(by (try rw [w51]);(try rw [w58]);all_goals exact Zab)
   refine Zac (G:=Zad kp106 [(11,3,.elem (ZeJ u lo i))] []) 27 [true,false] ⟨(atC (cd Try.f106) [1,1,0,1,0,0,1,1,0,0,1,1,1,1,1,1,1,0,1]),[(0,AV.ref 0 v lo len),(1,AV.vec fb 1 (us b)),(2,vw g),(7,vw (wu (c.tdiv 1000000000))),(8,vw 0),(9,vi i),(11,vw (wu (c.tmod 1000000000+w))),(12,vw (wu (u.getD (lo+i.toNat) default))),(14,vi n),(15,vi i),(45,vb (decide (wu (u.getD (lo+i.toNat) default)<wu (c.tmod 1000000000+w))))],[⟨us u,1,v,false,true⟩],[(decide (i<n))==true,(decide (i<(↑(us b).length:Int)))==false,true,true,v==v,decide (0<=i),decide (i.toNat<len),v==v],[((us u).get?Internal (lo+i.toNat)=some (ZeJ u lo i))],_⟩ (by kernel_rfl) (bc (Zal (Zab.2 d2)) (bc (Zak (fun h=>d5 (i4.1 h))) (bc rfl (bc rfl (bc (beq_self_eq_true _) (bc (Zab.2 k53) (bc (Zab.2 k55) (bc (beq_self_eq_true _) b0)))))))) (qc (Zai k56) q0) c0 ?_
   rcases xq H with ⟨d60,H⟩|⟨d60,H⟩
   ·obtain ⟨k61,H⟩:=H
    have w62:wu (u.getD (lo+i.toNat) default+1000000000)=u.getD (lo+i.toNat) default+1000000000:=wU64 k61
    obtain ⟨k65,H⟩:=H
    have w66:wu (u.getD (lo+i.toNat) default+1000000000-(c.tmod 1000000000+w))=u.getD (lo+i.toNat) default+1000000000-(c.tmod 1000000000+w):=wU64 k65
    obtain ⟨k67,H⟩:=H
    have w68:wv (u.getD (lo+i.toNat) default+1000000000-(c.tmod 1000000000+w))=u.getD (lo+i.toNat) default+1000000000-(c.tmod 1000000000+w):=wU32 k67
    have w69:(us u).set (lo+i.toNat) (vu (u.getD (lo+i.toNat) default+1000000000-(c.tmod 1000000000+w)))=us (u.set (lo+i.toNat) (u.getD (lo+i.toNat) default+1000000000-(c.tmod 1000000000+w))):=(Za4 rfl rfl)
    obtain ⟨k70,H⟩:=H
    have w71:wi (i+1)=i+1:=wI64 k70
    exact Zac (G:=Zad kp106 [(14,7,.elem (ZeJ u lo i))] []) 1000 [true] ⟨(atC (cd Try.f106) [1,1,0,1,0,0]),[(0,AV.ref 0 v lo len),(1,AV.vec fb 1 (us b)),(2,vw g),(7,vw (wu (c.tdiv 1000000000))),(8,vw 1),(14,vi n),(15,vi (wi (i+1)))],[⟨(us u).set (lo+i.toNat) (vu (wv (wu (wu (wu (u.getD (lo+i.toNat) default)+1000000000)-wu (c.tmod 1000000000+w))))),1,v,false,true⟩],[(decide (wu (u.getD (lo+i.toNat) default)<wu (c.tmod 1000000000+w)))==true,v==v,decide (0<=i),decide (i.toNat<len),v==v],[((us u).get?Internal (lo+i.toNat)=some (ZeJ u lo i))],_⟩ (by kernel_rfl) (bc (Zal (i59.2 d60)) (bc (beq_self_eq_true _) (bc (Zab.2 k53) (bc (Zab.2 k55) (bc (beq_self_eq_true _) b0))))) (qc (Zai k56) q0) c0 (by (try rw [w49]);(try rw [w51]);(try rw [w58]);(try rw [w62]);(try rw [w66]);(try rw [w68]);(try rw [w69]);(try rw [w71]);all_goals exact H)
   ·obtain ⟨k74,H⟩:=H
    have w75:wu (u.getD (lo+i.toNat) default-(c.tmod 1000000000+w))=u.getD (lo+i.toNat) default-(c.tmod 1000000000+w):=wU64 k74
    obtain ⟨k76,H⟩:=H
    have w77:wv (u.getD (lo+i.toNat) default-(c.tmod 1000000000+w))=u.getD (lo+i.toNat) default-(c.tmod 1000000000+w):=wU32 k76
    have w78:(us u).set (lo+i.toNat) (vu (u.getD (lo+i.toNat) default-(c.tmod 1000000000+w)))=us (u.set (lo+i.toNat) (u.getD (lo+i.toNat) default-(c.tmod 1000000000+w))):=(Za4 rfl rfl)
    obtain ⟨k79,H⟩:=H
    have w80:wi (i+1)=i+1:=wI64 k79
    exact Zac (G:=Zad kp106 [(14,7,.elem (ZeJ u lo i))] []) 1000 [false] ⟨(atC (cd Try.f106) [1,1,0,1,0,0]),[(0,AV.ref 0 v lo len),(1,AV.vec fb 1 (us b)),(2,vw g),(7,vw (wu (c.tdiv 1000000000))),(8,vw 0),(14,vi n),(15,vi (wi (i+1)))],[⟨(us u).set (lo+i.toNat) (vu (wv (wu (wu (u.getD (lo+i.toNat) default)-wu (c.tmod 1000000000+w))))),1,v,false,true⟩],[(decide (wu (u.getD (lo+i.toNat) default)<wu (c.tmod 1000000000+w)))==false,v==v,decide (0<=i),decide (i.toNat<len),v==v],[((us u).get?Internal (lo+i.toNat)=some (ZeJ u lo i))],_⟩ (by kernel_rfl) (bc (Zak (fun h=>d60 (i59.1 h))) (bc (beq_self_eq_true _) (bc (Zab.2 k53) (bc (Zab.2 k55) (bc (beq_self_eq_true _) b0))))) (qc (Zai k56) q0) c0 (by (try rw [w49]);(try rw [w51]);(try rw [w58]);(try rw [w75]);(try rw [w77]);(try rw [w78]);(try rw [w80]);all_goals exact H)
 ·exact Zbm (G:=Zad kp106 [] []) 1000 [false] (k:=((atC (cd Try.f106) [1,1,1,1])).tail) (env':=[(6,vb (bif decide (w>0) then true else decide (c>0)))]) (L':=[⟨us u,1,v,false,true⟩]) (asm:=[(decide (i<n))==false]) (eqs:=[]) (calls:=[]) (vb (bif decide (w>0) then true else decide (c>0))) (by kernel_rfl) (by kernel_rfl) (Zag (Zak (fun h=>d2 (Zab.1 h))) Zax) ZaN ZaO H
theorem vRestore (u b:List Int) (fb:Bool) (v lo len:Nat)  (Q:AV->Heap->Prop) (H :
  Za3 u b fb v lo len 0 ((↑len:Int)) 0 Q) :
 Zfd u b fb v lo len Q:=by
 unfold Zfd
 exact Zac (G:=Zad kp107 [] []) 1000 [] ⟨(atC (cd Try.f107) [1,1,0,0]),[(0,AV.ref 0 v lo len),(1,AV.vec fb 1 (us b)),(4,vu 0),(8,vi (↑len:Int)),(9,vi 0)],[⟨us u,1,v,false,true⟩],[v==v],[],_⟩ (by kernel_rfl) (bc (beq_self_eq_true _) b0) q0 c0 H
noncomputable abbrev Zgf (u:List Int) (lo:Nat) (i:Int):=vu (u.getD (lo+i.toNat) default)
theorem vRestoreA (u b:List Int) (fb:Bool) (v lo len:Nat) (c n i:Int)  (Q:AV->Heap->Prop) (H :
  ((i<n)->(0<=i) /\
   (i.toNat<len) /\
   (lo+i.toNat<u.length) /\
   (0<=u.getD (lo+i.toNat) default+c/\u.getD (lo+i.toNat) default+c<=4294967295) /\
   ((i<(↑b.length:Int))->(i.toNat<b.length) /\
    (0<=u.getD (lo+i.toNat) default+c+b.getD i.toNat default/\u.getD (lo+i.toNat) default+c+b.getD i.toNat default<=4294967295) /\
    ((u.getD (lo+i.toNat) default+c+b.getD i.toNat default>=1000000000)->(0<=u.getD (lo+i.toNat) default+c+b.getD i.toNat default-1000000000/\u.getD (lo+i.toNat) default+c+b.getD i.toNat default-1000000000<=4294967295) /\
     (-9223372036854775808<=i+1/\i+1<=9223372036854775807) /\
     Za3 (u.set (lo+i.toNat) (u.getD (lo+i.toNat) default+c+b.getD i.toNat default-1000000000)) b fb v lo len 1 n (i+1) Q) /\
    (¬(u.getD (lo+i.toNat) default+c+b.getD i.toNat default>=1000000000)->(-9223372036854775808<=i+1/\i+1<=9223372036854775807) /\
     Za3 (u.set (lo+i.toNat) (u.getD (lo+i.toNat) default+c+b.getD i.toNat default)) b fb v lo len 0 n (i+1) Q)) /\
   (¬(i<(↑b.length:Int))->((u.getD (lo+i.toNat) default+c>=1000000000)->(0<=u.getD (lo+i.toNat) default+c-1000000000/\u.getD (lo+i.toNat) default+c-1000000000<=4294967295) /\
     (-9223372036854775808<=i+1/\i+1<=9223372036854775807) /\
     Za3 (u.set (lo+i.toNat) (u.getD (lo+i.toNat) default+c-1000000000)) b fb v lo len 1 n (i+1) Q) /\
    (¬(u.getD (lo+i.toNat) default+c>=1000000000)->(-9223372036854775808<=i+1/\i+1<=9223372036854775807) /\
     Za3 (u.set (lo+i.toNat) (u.getD (lo+i.toNat) default+c)) b fb v lo len 0 n (i+1) Q))) /\
  (¬(i<n)->Q (tu []) [{ elems:=us u,es:=1,ver:=v,frozen:=false,clean:=true }])) :
 Za3 u b fb v lo len c n i Q:=by
 unfold Za3
 rcases xq H with ⟨d2,H⟩|⟨d2,H⟩
 ·obtain ⟨k4,k6,k7,k8,H⟩:=H
  have w9:wv (u.getD (lo+i.toNat) default+c)=u.getD (lo+i.toNat) default+c:=wU32 k8
  have w10:(us b).length=b.length:=List.length_map ..
  have i11:(decide (i<(↑(us b).length:Int)))=true ↔ (i<(↑b.length:Int)):=(by (try rw [w10]);all_goals exact Zab)
  refine Zac (G:=Zad kp107 [(4,3,.elem (Zgf u lo i))] []) 14 [true] ⟨(atC (cd Try.f107) [1,1,0,0,1,1,0,0,1,1,0,1]),[(0,AV.ref 0 v lo len),(1,AV.vec fb 1 (us b)),(5,vi i),(6,vu (wv (u.getD (lo+i.toNat) default+c))),(8,vi n),(9,vi i),(21,vb (decide (i<(↑(us b).length:Int))))],[⟨us u,1,v,false,true⟩],[(decide (i<n))==true,v==v,decide (0<=i),decide (i.toNat<len),v==v],[((us u).get?Internal (lo+i.toNat)=some (Zgf u lo i))],_⟩ (by kernel_rfl) (bc (Zal (Zab.2 d2)) (bc (beq_self_eq_true _) (bc (Zab.2 k4) (bc (Zab.2 k6) (bc (beq_self_eq_true _) b0))))) (qc (Zai k7) q0) c0 ?_
  rcases xq H with ⟨d12,H⟩|⟨d12,H⟩
  ·have i14:(decide (i.toNat<(us b).length))=true ↔ (i.toNat<b.length):=(by (try rw [w10]);all_goals exact Zab)
   obtain ⟨k15,k16,H⟩:=H
   have w17:wv (u.getD (lo+i.toNat) default+c+b.getD i.toNat default)=u.getD (lo+i.toNat) default+c+b.getD i.toNat default:=wU32 k16
   have i18:(decide (wv (wv (u.getD (lo+i.toNat) default+c)+b.getD i.toNat default)>=1000000000))=true ↔ (u.getD (lo+i.toNat) default+c+b.getD i.toNat default>=1000000000):=(by (try rw [w9]);(try rw [w17]);all_goals exact Zab)
   refine Zac (G:=Zad kp107 [(6,4,.elem (vu (b.getD i.toNat default)))] []) 7 [true] ⟨(atC (cd Try.f107) [1,1,0,0,1,1,0,0,1,1,1,1,0,1]),[(0,AV.ref 0 v lo len),(1,AV.vec fb 1 (us b)),(4,vu 0),(5,vi i),(6,vu (wv (wv (u.getD (lo+i.toNat) default+c)+b.getD i.toNat default))),(8,vi n),(9,vi i),(29,vb (decide (wv (wv (u.getD (lo+i.toNat) default+c)+b.getD i.toNat default)>=1000000000)))],[⟨us u,1,v,false,true⟩],_,[((us b).get?Internal i.toNat=some (vu (b.getD i.toNat default)))],_⟩ (by kernel_rfl) (bc (Zal (i11.2 d12)) (bc (Zab.2 k4) (bc (i14.2 k15) b0))) (qc (Zai k15) q0) c0 ?_
   rcases xq H with ⟨d19,H⟩|⟨d19,H⟩
   ·obtain ⟨k20,H⟩:=H
    have w21:wv (u.getD (lo+i.toNat) default+c+b.getD i.toNat default-1000000000)=u.getD (lo+i.toNat) default+c+b.getD i.toNat default-1000000000:=wU32 k20
    have w24:(us u).set (lo+i.toNat) (vu (u.getD (lo+i.toNat) default+c+b.getD i.toNat default-1000000000))=us (u.set (lo+i.toNat) (u.getD (lo+i.toNat) default+c+b.getD i.toNat default-1000000000)):=(Za4 rfl rfl)
    obtain ⟨k25,H⟩:=H
    have w26:wi (i+1)=i+1:=wI64 k25
    exact Zac (G:=Zad kp107 [(10,4,.elem (Zgf u lo i))] []) 1000 [true] ⟨(atC (cd Try.f107) [1,1,0,0]),[(0,AV.ref 0 v lo len),(1,AV.vec fb 1 (us b)),(4,vu 1),(8,vi n),(9,vi (wi (i+1)))],[⟨(us u).set (lo+i.toNat) (vu (wv (wv (wv (u.getD (lo+i.toNat) default+c)+b.getD i.toNat default)-1000000000))),1,v,false,true⟩],[(decide (wv (wv (u.getD (lo+i.toNat) default+c)+b.getD i.toNat default)>=1000000000))==true,v==v,decide (0<=i),decide (i.toNat<len),v==v],[((us u).get?Internal (lo+i.toNat)=some (Zgf u lo i))],_⟩ (by kernel_rfl) (bc (Zal (i18.2 d19)) (bc (beq_self_eq_true _) (bc (Zab.2 k4) (bc (Zab.2 k6) (bc (beq_self_eq_true _) b0))))) (qc (Zai k7) q0) c0 (by (try rw [w9]);(try rw [w17]);(try rw [w21]);(try rw [w24]);(try rw [w26]);all_goals exact H)
   ·have w29:(us u).set (lo+i.toNat) (vu (u.getD (lo+i.toNat) default+c+b.getD i.toNat default))=us (u.set (lo+i.toNat) (u.getD (lo+i.toNat) default+c+b.getD i.toNat default)):=(Za4 rfl rfl)
    obtain ⟨k30,H⟩:=H
    have w31:wi (i+1)=i+1:=wI64 k30
    exact Zac (G:=Zad kp107 [(10,4,.elem (Zgf u lo i))] []) 1000 [false] ⟨(atC (cd Try.f107) [1,1,0,0]),[(0,AV.ref 0 v lo len),(1,AV.vec fb 1 (us b)),(4,vu 0),(8,vi n),(9,vi (wi (i+1)))],[⟨(us u).set (lo+i.toNat) (vu (wv (wv (u.getD (lo+i.toNat) default+c)+b.getD i.toNat default))),1,v,false,true⟩],[(decide (wv (wv (u.getD (lo+i.toNat) default+c)+b.getD i.toNat default)>=1000000000))==false,v==v,decide (0<=i),decide (i.toNat<len),v==v],[((us u).get?Internal (lo+i.toNat)=some (Zgf u lo i))],_⟩ (by kernel_rfl) (bc (Zak (fun h=>d19 (i18.1 h))) (bc (beq_self_eq_true _) (bc (Zab.2 k4) (bc (Zab.2 k6) (bc (beq_self_eq_true _) b0))))) (qc (Zai k7) q0) c0 (by (try rw [w9]);(try rw [w17]);(try rw [w29]);(try rw [w31]);all_goals exact H)
  ·have i32:(decide (wv (u.getD (lo+i.toNat) default+c)>=1000000000))=true ↔ (u.getD (lo+i.toNat) default+c>=1000000000):=(by (try rw [w9]);all_goals exact Zab)
   rcases xq H with ⟨d33,H⟩|⟨d33,H⟩
   ·obtain ⟨k34,H⟩:=H
    have w35:wv (u.getD (lo+i.toNat) default+c-1000000000)=u.getD (lo+i.toNat) default+c-1000000000:=wU32 k34
    have w38:(us u).set (lo+i.toNat) (vu (u.getD (lo+i.toNat) default+c-1000000000))=us (u.set (lo+i.toNat) (u.getD (lo+i.toNat) default+c-1000000000)):=(Za4 rfl rfl)
    obtain ⟨k39,H⟩:=H
    have w40:wi (i+1)=i+1:=wI64 k39
    exact Zac (G:=Zad kp107 [(10,4,.elem (Zgf u lo i))] []) 1000 [false,true] ⟨(atC (cd Try.f107) [1,1,0,0]),[(0,AV.ref 0 v lo len),(1,AV.vec fb 1 (us b)),(4,vu 1),(8,vi n),(9,vi (wi (i+1)))],[⟨(us u).set (lo+i.toNat) (vu (wv (wv (u.getD (lo+i.toNat) default+c)-1000000000))),1,v,false,true⟩],[(decide (i<(↑(us b).length:Int)))==false,(decide (wv (u.getD (lo+i.toNat) default+c)>=1000000000))==true,v==v,decide (0<=i),decide (i.toNat<len),v==v],[((us u).get?Internal (lo+i.toNat)=some (Zgf u lo i))],_⟩ (by kernel_rfl) (bc (Zak (fun h=>d12 (i11.1 h))) (bc (Zal (i32.2 d33)) (bc (beq_self_eq_true _) (bc (Zab.2 k4) (bc (Zab.2 k6) (bc (beq_self_eq_true _) b0)))))) (qc (Zai k7) q0) c0 (by (try rw [w9]);(try rw [w35]);(try rw [w38]);(try rw [w40]);all_goals exact H)
   ·have w43:(us u).set (lo+i.toNat) (vu (u.getD (lo+i.toNat) default+c))=us (u.set (lo+i.toNat) (u.getD (lo+i.toNat) default+c)):=(Za4 rfl rfl)
    obtain ⟨k44,H⟩:=H
    have w45:wi (i+1)=i+1:=wI64 k44
    exact Zac (G:=Zad kp107 [(10,4,.elem (Zgf u lo i))] []) 1000 [false,false] ⟨(atC (cd Try.f107) [1,1,0,0]),[(0,AV.ref 0 v lo len),(1,AV.vec fb 1 (us b)),(4,vu 0),(8,vi n),(9,vi (wi (i+1)))],[⟨(us u).set (lo+i.toNat) (vu (wv (u.getD (lo+i.toNat) default+c))),1,v,false,true⟩],[(decide (i<(↑(us b).length:Int)))==false,(decide (wv (u.getD (lo+i.toNat) default+c)>=1000000000))==false,v==v,decide (0<=i),decide (i.toNat<len),v==v],[((us u).get?Internal (lo+i.toNat)=some (Zgf u lo i))],_⟩ (by kernel_rfl) (bc (Zak (fun h=>d12 (i11.1 h))) (bc (Zak (fun h=>d33 (i32.1 h))) (bc (beq_self_eq_true _) (bc (Zab.2 k4) (bc (Zab.2 k6) (bc (beq_self_eq_true _) b0)))))) (qc (Zai k7) q0) c0 (by (try rw [w9]);(try rw [w43]);(try rw [w45]);all_goals exact H)
 ·exact path_end (G:=Zad kp107 [] []) 1000 [false] (env':=[(0,AV.ref 0 v lo len),(1,AV.vec fb 1 (us b)),(4,vu c),(8,vi n),(9,vi i),(10,vb (decide (i<n)))]) (L':=[⟨us u,1,v,false,true⟩]) (asm:=[(decide (i<n))==false]) (eqs:=[]) (calls:=[]) (tu []) (by kernel_rfl) (by kernel_rfl) (Zag (Zak (fun h=>d2 (Zab.1 h))) Zax) ZaN ZaO H
end Go.Av

namespace Go.Av
open Go.Proofs
namespace O
def Zed:Nat->Int->List Int
 | 0,_=>[]
 | n+1,z=>z % 1000000000::Zed n (z / 1000000000)
def Za1 (u:List Int) (lo len:Nat) (z:Int):List Int:=u.take lo++(Zed len z++u.drop (lo+len))
def win (u:List Int) (lo len:Nat):Nat:=valL ((u.drop lo).take len)
def okL (l:List Int):Prop:=∀ x ∈ l,0<=x/\x<1000000000
end O
abbrev urow (u:List Int) (v:Nat):Row:=⟨u.map (.int .u32),1,v,false,true⟩
theorem Ze1:∀ (n v:Nat),O.Zed n v=O.Zat n v
 | 0,v=>rfl
 | n+1,v=>by
  rw [O.Zed,ZaB,<- Ze1 n]
  congr 1
theorem Ze2:∀ (n:Nat) (z:Int),(O.Zed n z).length=n
 | 0,z=>rfl
 | n+1,z=>by simp [O.Zed,Ze2 n]
theorem limZ_ok:∀ (n:Nat) (z:Int),O.okL (O.Zed n z)
 | 0,z=>by intro x hx;simp [O.Zed] at hx
 | n+1,z=>by
  intro x hx
  rcases List.mem_cons.1 hx with rfl | hx
  ·omega
  ·exact limZ_ok n _ x hx
theorem ZeD {u l:List Int} {i:Nat} {x:Int} (hi:i<u.length) (h:u.drop i=x::l):u.getD i default=x/\u.drop (i+1)=l:=by
 rw [ZaP hi] at h
 exact List.cons.inj h
theorem loopSub {fb:Bool} {m V g v lo:Nat} {rest R:List Int} {neg:Prop} [Decidable neg] {Q:AV->Heap->Prop} (hm:m<=1000000) (hlo:lo<=10000000) (hg:g<1000000000) (hV:O.fits m V) (hQ:Q (.bool (decide neg)) [urow R v]) :
    ∀ (k i:Nat) (u:List Int) (W c w:Nat),i+k=m+1->u.length=lo+(m+1)+rest.length->u.drop (lo+i)=O.Zat k W++rest->O.fits k W->c<1000000000->w<=1 ->
      (((W:Int)-((V / 1000000000 ^ i*g:Nat):Int)-c-w<0) ↔ neg)->u.take (lo+i)++(O.Zed k ((W:Int)-((V / 1000000000 ^ i*g:Nat):Int)-c-w)++rest)=R ->
      ZaW u (O.Zat m V) fb v lo (m+1) g c w ((m+1:Nat):Int) i Q
  | 0,i,u,W,c,w,hi,hul,hud,hW,hc,hw,hneg,hR=>by
    have hW0:=Zbp.1 hW
    rw [Zbe hV (by omega),Nat.zero_mul,hW0] at hneg
    rw [O.Zed,List.nil_append] at hR
    rw [O.Zat,List.nil_append] at hud
    have e:u=R:=by rw [<- hR,<- hud,List.take_append_drop]
    refine Zgq _ _ _ _ _ _ _ _ _ _ _ _ ⟨fun h=>by omega,fun _ => ?_⟩
    have eb:(bif decide ((w:Int)>0) then true else decide ((c:Int)>0))=decide neg:=by
      rw [<- decide_eq_decide.2 hneg]
      by_cases h1:(w:Int)>0
      · rw [decide_eq_true h1,cond_true];symm;rw [decide_eq_true_iff];omega
      · rw [decide_eq_false h1,cond_false,decide_eq_decide];omega
    rw [eb,e];exact hQ
  | k+1,i,u,W,c,w,hi,hul,hud,hW,hc,hw,hneg,hR=>by
    rw [ZaB,List.cons_append] at hud
    obtain ⟨gu,hud'⟩:=ZeD (by omega) hud
    have hp:=ZdY g (V / 1000000000 ^ i)
    rw [Nat.mul_comm g (V / 1000000000 ^ i),Zbr] at hp
    rw [Nat.mul_comm g (V / 1000000000 ^ (i+1)),Nat.mul_comm g (V / 1000000000 ^ i % 1000000000)] at hp
    have hd:V / 1000000000 ^ i % 1000000000<1000000000:=Nat.mod_lt _ (by omega)
    have hpb:V / 1000000000 ^ i % 1000000000*g<=999999999*999999999:=Nat.mul_le_mul (by omega) (by omega)
    have nxt:∀ (x:Int) (c' w':Nat),c' = (c + V / 1000000000 ^ i % 1000000000 * g) / 1000000000 ->
        ((((W % 1000000000:Nat):Int)<(((c+V / 1000000000 ^ i % 1000000000*g) % 1000000000+w:Nat):Int)/\w'=1/\x=((W % 1000000000:Nat):Int)+1000000000-(((c+V / 1000000000 ^ i % 1000000000*g) % 1000000000+w:Nat):Int)) \/
         (¬((W % 1000000000:Nat):Int)<(((c+V / 1000000000 ^ i % 1000000000*g) % 1000000000+w:Nat):Int)/\w'=0/\x=((W % 1000000000:Nat):Int)-(((c+V / 1000000000 ^ i % 1000000000*g) % 1000000000+w:Nat):Int))) ->
        ZaW (u.set (lo+i) x) (O.Zat m V) fb v lo (m+1) g c' w' ((m+1:Nat):Int) ((i:Int)+1) Q:=by
      intro x c' w' hc' hx
      have key:((W:Int)-((V / 1000000000 ^ i*g:Nat):Int)-c-w) % 1000000000=x/\((W:Int)-((V / 1000000000 ^ i*g:Nat):Int)-c-w) / 1000000000=((W / 1000000000:Nat):Int)-((V / 1000000000 ^ (i+1)*g:Nat):Int)-c'-w':=by
        generalize V / 1000000000 ^ i*g=a at hp
        generalize V / 1000000000 ^ (i+1)*g=b at hp
        generalize V / 1000000000 ^ i % 1000000000*g=p at hp hpb hc' hx
        subst hc'
        rcases hx with ⟨h1,rfl,rfl⟩ | ⟨h1,rfl,rfl⟩ <;> omega
      refine loopSub hm hlo hg hV hQ k (i+1) _ (W / 1000000000) c' w' (by omega) (by simpa using hul) ?_ (Zcz.1 hW) ?_ ?_ ?_ ?_
      · rw [show lo+(i+1)=lo+i+1 by omega,List.drop_set_of_lt (by omega)];exact hud'
      · rw [hc']
        generalize V / 1000000000 ^ i % 1000000000*g=p at hpb
        omega
      · rcases hx with ⟨_,h,_⟩ | ⟨_,h,_⟩ <;> omega
      · rw [<- hneg,<- key.2];omega
      · rw [show lo+(i+1)=lo+i+1 by omega,ZbF (by omega),<- hR,O.Zed,key.1,key.2,List.append_assoc];rfl
    refine Zgq _ _ _ _ _ _ _ _ _ _ _ _ ⟨fun _ => ?_,fun h=>by omega⟩
    rw [Int.toNat_natCast,gu,Zaq]
    have hWm:W % 1000000000<1000000000:=Nat.mod_lt _ (by omega)
    by_cases him:i<m
    · rw [ZaI V him]
      have c1:((V / 1000000000 ^ i % 1000000000:Nat):Int)*(g:Int)=((V / 1000000000 ^ i % 1000000000*g:Nat):Int):=(Int.natCast_mul _ _).symm
      rw [c1]
      have hd':((V / 1000000000 ^ i % 1000000000:Nat):Int)<1000000000:=by omega
      have hd0:(0:Int)<=((V / 1000000000 ^ i % 1000000000:Nat):Int):=by omega
      generalize ((V / 1000000000 ^ i % 1000000000:Nat):Int)=dI at hd' hd0
      generalize V / 1000000000 ^ i % 1000000000*g=p at hpb nxt
      have c2:((c:Nat):Int)+((p:Nat):Int)=((c+p:Nat):Int):=by omega
      have c3:(((c+p:Nat):Int)).tdiv 1000000000=(((c+p) / 1000000000:Nat):Int):=by rw [Int.tdiv_eq_ediv_of_nonneg (by omega)];omega
      have c4:(((c+p:Nat):Int)).tmod 1000000000=(((c+p) % 1000000000:Nat):Int):=by rw [Int.tmod_eq_emod_of_nonneg (by omega)];omega
      rw [c2,c3,c4]
      have c5:(((c+p) % 1000000000:Nat):Int)+(w:Int)=(((c+p) % 1000000000+w:Nat):Int):=by omega
      rw [c5]
      have hy:(c+p) % 1000000000+w<=1000000000:=by omega
      refine ⟨fun _=>⟨by omega,by omega,by omega,by omega,by omega,by omega,by omega,by omega,by omega,by omega,fun h=>⟨by omega,by omega,by omega,by omega,nxt _ _ 1 rfl (.inl ⟨h,rfl,rfl⟩)⟩,fun h=>⟨by omega,by omega,by omega,nxt _ _ 0 rfl (.inr ⟨h,rfl,rfl⟩)⟩⟩,fun h=>by omega⟩
    · have hV0:=Zbe hV (show m<=i by omega)
      rw [hV0,Nat.zero_mod,Nat.zero_mul] at nxt
      simp only [Nat.add_zero] at nxt
      have c3:((c:Nat):Int).tdiv 1000000000=((c / 1000000000:Nat):Int):=by rw [Int.tdiv_eq_ediv_of_nonneg (by omega)];omega
      have c4:((c:Nat):Int).tmod 1000000000=((c % 1000000000:Nat):Int):=by rw [Int.tmod_eq_emod_of_nonneg (by omega)];omega
      rw [c3,c4]
      have c5:((c % 1000000000:Nat):Int)+(w:Int)=((c % 1000000000+w:Nat):Int):=by omega
      rw [c5]
      have hy:c % 1000000000+w<=1000000000:=by omega
      refine ⟨fun h=>by omega,fun _=>⟨by omega,by omega,by omega,by omega,by omega,by omega,fun h=>⟨by omega,by omega,by omega,by omega,nxt _ _ 1 rfl (.inl ⟨h,rfl,rfl⟩)⟩,fun h=>⟨by omega,by omega,by omega,nxt _ _ 0 rfl (.inr ⟨h,rfl,rfl⟩)⟩⟩⟩
theorem win_drop {u:List Int} {lo len:Nat} (hu:O.okL u) (hl:lo+len<=u.length):u.drop lo=O.Zat len (O.win u lo len)++u.drop (lo+len)/\O.fits len (O.win u lo len):=by
 have hok:∀ x ∈ (u.drop lo).take len,0<=x/\x<1000000000:=fun x hx=>hu x (List.mem_of_mem_drop (List.mem_of_mem_take hx))
 obtain ⟨h1,h2⟩:=Ze3 _ hok
 have hlen:((u.drop lo).take len).length=len:=by rw [List.length_take,List.length_drop];omega
 rw [hlen] at h1 h2
 refine ⟨?_,h2⟩
 unfold O.win
 rw [<- h1]
 conv=>lhs;rw [<- List.take_append_drop len (u.drop lo),List.drop_drop]
theorem evo106 (u b:List Int) (fb:Bool) (v lo len:Nat) (g:Int) (h:O.okL u/\O.okL b/\lo+len<=u.length/\len=b.length+1/\u.length<=1000000/\0<=g/\g<1000000000) :
  Ev M1 (.own 106 [.ref 0 v lo len,usA fb b,.int .u64 g] [urow u v]) (.bool (decide ((O.win u lo len:Int)-g*(valL b:Nat)<0))) [urow (O.Za1 u lo len ((O.win u lo len:Int)-g*(valL b:Nat))) v]:=by
 obtain ⟨hu,hb,h1,h2,h3,h4,h5⟩:=h
 obtain ⟨b1,b2⟩:=Ze3 b hb
 obtain ⟨w1,w2⟩:=win_drop hu h1
 subst h2
 obtain ⟨gn,rfl⟩:=Int.eq_ofNat_of_zero_le h4
 refine owncall106 (vSubtract _ _ _ _ _ _ _ _ ?_)
 generalize hV:valL b=V at b1 b2
 rw [b1]
 have e0:((V / 1000000000 ^ 0*gn:Nat):Int)=(gn:Int)*(V:Int):=by rw [Nat.pow_zero,Nat.div_one,Nat.mul_comm,Int.natCast_mul]
 have:=loopSub (fb:=fb) (m:=b.length) (V:=V) (g:=gn) (v:=v) (lo:=lo) (rest:=u.drop (lo+(b.length+1))) (R:=O.Za1 u lo (b.length+1) ((O.win u lo (b.length+1):Int)-(gn:Int)*(V:Int))) (neg:=(O.win u lo (b.length+1):Int)-(gn:Int)*(V:Int)<0)
  (Q:=isR (.bool (decide ((O.win u lo (b.length+1):Int)-(gn:Int)*(V:Int)<0))) [urow (O.Za1 u lo (b.length+1) ((O.win u lo (b.length+1):Int)-(gn:Int)*(V:Int))) v]) (by omega) (by omega) (by omega) b2 ⟨rfl,rfl⟩
  (b.length+1) 0 u (O.win u lo (b.length+1)) 0 0 (by omega) (by rw [List.length_drop];omega) w1 w2 (by omega) (by omega) (by rw [e0];simp) (by rw [e0];simp [O.Za1])
 rw [Zaq] at *
 exact this
end Go.Av

namespace Go.Av
open Go.Proofs
theorem limZ_add:∀ (n:Nat) (a b c:Int),O.Zed n a=O.Zed n b->O.Zed n (a+c)=O.Zed n (b+c)
 | 0,a,b,c,_=>rfl
 | n+1,a,b,c,h=>by
  rw [O.Zed,O.Zed] at h
  obtain ⟨h1,h2⟩:=List.cons.inj h
  rw [O.Zed,O.Zed]
  have e1:(a+c) % 1000000000=(b+c) % 1000000000:=by omega
  have e2:(a+c) / 1000000000=a / 1000000000+(a % 1000000000+c) / 1000000000:=by omega
  have e3:(b+c) / 1000000000=b / 1000000000+(a % 1000000000+c) / 1000000000:=by omega
  rw [e1,e2,e3,limZ_add n _ _ _ h2]
theorem loopRes {fb:Bool} {m V v lo:Nat} {rest R:List Int} {Q:AV->Heap->Prop} (hm:m<=1000000) (hlo:lo<=10000000) (hV:O.fits m V) (hQ:Q (.tup []) [urow R v]) :
  ∀ (k i:Nat) (u:List Int) (z:Int) (c:Nat),i+k=m+1->u.length=lo+(m+1)+rest.length->u.drop (lo+i)=O.Zed k z++rest->c<=1 ->
   u.take (lo+i)++(O.Zed k (z+((V / 1000000000 ^ i:Nat):Int)+c)++rest)=R->Za3 u (O.Zat m V) fb v lo (m+1) c ((m+1:Nat):Int) i Q
 | 0,i,u,z,c,hi,hul,hud,hc,hR=>by
  rw [O.Zed,List.nil_append] at hR hud
  have e:u=R:=by rw [<- hR,<- hud,List.take_append_drop]
  exact vRestoreA _ _ _ _ _ _ _ _ _ _ ⟨fun h=>by omega,fun _=>by rw [e];exact hQ⟩
 | k+1,i,u,z,c,hi,hul,hud,hc,hR=>by
  rw [O.Zed,List.cons_append] at hud
  obtain ⟨gu,hud'⟩:=ZeD (by omega) hud
  have hn:=Zbr V i
  have nxt:∀ (x:Int) (c':Nat),(z % 1000000000+c+((V / 1000000000 ^ i % 1000000000:Nat):Int)>=1000000000/\c'=1/\x=z % 1000000000+c+((V / 1000000000 ^ i % 1000000000:Nat):Int)-1000000000\/¬z % 1000000000+c+((V / 1000000000 ^ i % 1000000000:Nat):Int)>=1000000000/\c'=0/\x=z % 1000000000+c+((V / 1000000000 ^ i % 1000000000:Nat):Int)) ->
    Za3 (u.set (lo+i) x) (O.Zat m V) fb v lo (m+1) c' ((m+1:Nat):Int) ((i:Int)+1) Q:=by
   intro x c' hx
   have key:(z+((V / 1000000000 ^ i:Nat):Int)+c) % 1000000000=x/\(z+((V / 1000000000 ^ i:Nat):Int)+c) / 1000000000=z / 1000000000+((V / 1000000000 ^ (i+1):Nat):Int)+c':=by
    generalize V / 1000000000 ^ (i+1)=b at hn
    generalize V / 1000000000 ^ i=a at hn hx
    subst hn
    rcases hx with ⟨h1,rfl,rfl⟩ | ⟨h1,rfl,rfl⟩ <;> omega
   refine loopRes hm hlo hV hQ k (i+1) _ (z / 1000000000) c' (by omega) (by simpa using hul) ?_ (by omega) ?_
   ·rw [show lo+(i+1)=lo+i+1 by omega,List.drop_set_of_lt (by omega)];exact hud'
   ·rw [show lo+(i+1)=lo+i+1 by omega,ZbF (by omega),<- hR,O.Zed,key.1,key.2,List.append_assoc];rfl
  refine vRestoreA _ _ _ _ _ _ _ _ _ _ ⟨fun _ => ?_,fun h=>by omega⟩
  rw [Int.toNat_natCast,gu,Zaq]
  by_cases him:i<m
  ·rw [ZaI V him]
   have hd:((V / 1000000000 ^ i % 1000000000:Nat):Int)<1000000000:=by omega
   have hd0:(0:Int)<=((V / 1000000000 ^ i % 1000000000:Nat):Int):=by omega
   generalize ((V / 1000000000 ^ i % 1000000000:Nat):Int)=d at hd hd0 nxt
   exact ⟨by omega,by omega,by omega,by omega,fun _=>⟨by omega,by omega,fun h=>⟨by omega,by omega,nxt _ 1 (.inl ⟨h,rfl,rfl⟩)⟩,fun h=>⟨by omega,nxt _ 0 (.inr ⟨h,rfl,rfl⟩)⟩⟩,fun h=>by omega⟩
  ·have hV0:=Zbe hV (show m<=i by omega)
   rw [hV0,Nat.zero_mod] at nxt
   simp only [Int.ofNat_zero,Int.add_zero] at nxt
   exact ⟨by omega,by omega,by omega,by omega,fun h=>by omega,fun _=>⟨fun h=>⟨by omega,by omega,nxt _ 1 (.inl ⟨h,rfl,rfl⟩)⟩,fun h=>⟨by omega,nxt _ 0 (.inr ⟨h,rfl,rfl⟩)⟩⟩⟩
theorem evo107 (u b:List Int) (fb:Bool) (v lo len:Nat) (h:O.okL u/\O.okL b/\lo+len<=u.length/\len=b.length+1/\u.length<=1000000) :
  Ev M1 (.own 107 [.ref 0 v lo len,usA fb b] [urow u v]) (.tup []) [urow (O.Za1 u lo len ((O.win u lo len:Int)+(valL b:Nat))) v]:=by
 obtain ⟨hu,hb,h1,h2,h3⟩:=h
 obtain ⟨b1,b2⟩:=Ze3 b hb
 obtain ⟨w1,w2⟩:=win_drop hu h1
 subst h2
 refine owncall107 (vRestore _ _ _ _ _ _ _ ?_)
 generalize hV:valL b=V at b1 b2
 rw [b1]
 have:=loopRes (fb:=fb) (m:=b.length) (V:=V) (v:=v) (lo:=lo) (rest:=u.drop (lo+(b.length+1))) (R:=O.Za1 u lo (b.length+1) ((O.win u lo (b.length+1):Int)+(V:Int)))
  (Q:=isR (.tup []) [urow (O.Za1 u lo (b.length+1) ((O.win u lo (b.length+1):Int)+(V:Int))) v]) (by omega) (by omega) b2 ⟨rfl,rfl⟩
  (b.length+1) 0 u (O.win u lo (b.length+1)) 0 (by omega) (by rw [List.length_drop];omega) (by rw [Ze1];exact w1) (by omega) (by simp [O.Za1])
 rw [Zaq] at *
 exact this
theorem lim_ok (v:Nat):O.okL (O.lim v):=limN_ok _ _
theorem ZeS {u:List Int} {lo len:Nat} {z:Int} (h:lo+len<=u.length):(O.Za1 u lo len z).length=u.length:=by
 unfold O.Za1
 simp only [List.length_append,List.length_take,Ze2,List.length_drop]
 omega
theorem rowZ_ok {u:List Int} {lo len:Nat} {z:Int} (h:O.okL u):O.okL (O.Za1 u lo len z):=by
 intro x hx
 unfold O.Za1 at hx
 rcases List.mem_append.1 hx with hx | hx
 ·exact h x (List.mem_of_mem_take hx)
 ·rcases List.mem_append.1 hx with hx | hx
  ·exact limZ_ok _ _ x hx
  ·exact h x (List.mem_of_mem_drop hx)
theorem rowZ_again {u:List Int} {lo len:Nat} {z c:Int} (h:lo+len<=u.length) (hu:O.okL u):O.Za1 (O.Za1 u lo len z) lo len ((O.win (O.Za1 u lo len z) lo len:Int)+c)=O.Za1 u lo len (z+c):=by
 have hw:=win_drop (rowZ_ok (lo:=lo) (len:=len) (z:=z) hu) (by rw [ZeS h];exact h)
 have e1:(O.Za1 u lo len z).take lo=u.take lo:=by
  unfold O.Za1
  rw [List.take_append_of_le_length (by rw [List.length_take];omega),List.take_take]
  congr 1;omega
 have e2:(O.Za1 u lo len z).drop lo=O.Zed len z++u.drop (lo+len):=by
  unfold O.Za1
  rw [List.drop_append_of_le_length (by rw [List.length_take];omega),List.drop_of_length_le (by rw [List.length_take];omega),List.nil_append]
 have e3:(O.Za1 u lo len z).drop (lo+len)=u.drop (lo+len):=by
  rw [<- List.drop_drop,e2,List.drop_append_of_le_length (by rw [Ze2];omega),List.drop_of_length_le (by rw [Ze2];omega),List.nil_append]
 have e4:O.Zed len (O.win (O.Za1 u lo len z) lo len:Int)=O.Zed len z:=by
  have:=hw.1
  rw [e2,e3] at this
  rw [Ze1]
  exact (List.append_cancel_right this).symm
 show (O.Za1 u lo len z).take lo++(O.Zed len ((O.win (O.Za1 u lo len z) lo len:Int)+c)++(O.Za1 u lo len z).drop (lo+len))=_
 rw [e1,e3,limZ_add len _ z c e4]
 rfl
end Go.Av

namespace Go.Av
open Go.Proofs
set_option maxRecDepth 100000
def fi99:Fi:=⟨179,[.tmp 4,.tmp 5]⟩
def kp99:List (Nat × List Nat):=[(0,[0,1]),(1,[0,1]),(2,[0,1,23]),(3,[4,5]),(4,[0,1,34]),(5,[4,5]),(6,[0,1,6]),(7,[0,1,6,7]),(8,[1,6,7,8]),(9,[6,7,8,9]),(10,[6,7,8,9,10]),(11,[6,7,8,9,10,11]),(12,[6,7,8,9,10,11,70]),(13,[6,7,8,9,10,11]),(14,[6,7,8,9,10,11,12]),(15,[6,7,8,9,10,11,13,14]),(16,[6,7,8,9,10,11,13,14,129]),(17,[6,7,8,9,10,11,13,14]),(18,[6,7,8,9,10,11,13,14]),(19,[6,7,8,9,10,11,13,14,141]),(20,[6,7,8,9,10,11,13,151]),(21,[6,7,8,9,10,11,13]),(22,[6,7,8,9,10,11,13]),(23,[6,7,8,9,10,11]),(24,[10,15]),(25,[4,5])]
def Zff (fa fb:Bool) (a b:List Int) (Q:AV->Heap->Prop):Prop:=Wp M1 (.run fi99 (atC (cd Try.f99) []) [(0,.vec fa 1 (a.map (.int .u32))),(1,.vec fb 1 (b.map (.int .u32)))] []) Q
def Zfe (fa fb:Bool) (a b:List Int) (Q:AV->Heap->Prop):Prop:=Wp M1 (.run fi99 (atC (cd Try.f99) []) [(0,.vec fa 1 (a.map (.int .u32))),(1,.vec fb 1 (b.map (.int .u32)))] []) Q
def ZaQ (u b q:List Int) (fb:Bool) (v:Nat) (n s k:Int) (Q:AV->Heap->Prop):Prop:=Wp M1 (.run fi99 (atC (cd Try.f99) [1,1,1,1,1,1,1,1,1,0,1,0,0]) [(6,.int .i64 n),(7,.int .u32 s),(8,.row 0 v),(9,.vec fb 1 (b.map (.int .u32))),(10,.row 1 0),(11,.int .i64 k)] [⟨u.map (.int .u32),1,v,false,true⟩,⟨q.map (.int .u32),1,0,false,true⟩]) Q
def Zch (u b q:List Int) (fb:Bool) (v:Nat) (n s k:Int) (g r:Int) (Q:AV->Heap->Prop):Prop:=Wp M1 (.run fi99 (atC (cd Try.f99) [1,1,1,1,1,1,1,1,1,0,1,0,0,1,0,0,1,1,0,0,0]) [(6,.int .i64 n),(7,.int .u32 s),(8,.row 0 v),(9,.vec fb 1 (b.map (.int .u32))),(10,.row 1 0),(11,.int .i64 k),(13,.int .u64 g),(14,.int .u64 r)] [⟨u.map (.int .u32),1,v,false,true⟩,⟨q.map (.int .u32),1,0,false,true⟩]) Q
theorem call99 {args:List AV} {d:AV} (h:wc M1 fi99 Try.f99 args d):Ev M1 (.pure 99 args) d []:=pcl _ _ (by kernel_rfl) h
theorem vDivide0 (fa fb:Bool) (a b:List Int)  (dq:AV) (H :
  (Ev M1 (Conf.pure 101 [AV.vec fa 1 (us a)]) (vf []) []) /\
  ∃ (l1:List Int),
  (Ev M1 (Conf.pure 101 [AV.vec fb 1 (us b)]) (vf (us l1)) []) /\
  (((↑l1.length:Int)=1) -> ∃ (l2:List Int) (l3:List Int),
   (Ev M1 (Conf.pure 105 [vf [],vu (l1.getD 0 default)]) (tu [vf (us l2),vf (us l3)]) []) /\
   (0<l1.length) /\
   Weak (tu [vf (us l2),vf (us l3)]) dq) /\
  (¬((↑l1.length:Int)=1)->(Ev M1 (Conf.pure 92 [vf [],vf (us l1)]) (vi (-1)) []) /\
   Weak (tu [AV.vnil,AV.vnil]) dq)) :
 Zff fa fb a b (Zae dq):=by
 unfold Zff
 obtain ⟨k1,l1,k2,H⟩:=H
 have w3:(us l1).length=l1.length:=List.length_map ..
 have i4:((↑(us l1).length:Int)==1)=true ↔ ((↑l1.length:Int)=1):=(by (try rw [w3]);all_goals exact i_eq)
 refine Zac (G:=Zad kp99 [(1,1,.call (.vec false 1 []) none),(1,3,.call (vf (us l1)) none)] []) 7 [] ⟨(atC (cd Try.f99) [1,1,0,1]),[(0,vf []),(1,vf (us l1)),(23,vb ((↑(us l1).length:Int)==1))],[],_,[],_⟩ (by kernel_rfl) b0 q0 (ce k1 (ce k2 c0)) ?_
 rcases xq H with ⟨d5,H⟩|⟨d5,H⟩
 ·obtain ⟨l2,l3,k6,H⟩:=H
  have i7:(decide (0<(us l1).length))=true ↔ (0<l1.length):=(by (try rw [w3]);all_goals exact Zab)
  obtain ⟨k8,H⟩:=H
  exact Zao (G:=Zad kp99 [(3,3,.elem (vu (l1.getD 0 default))),(3,4,.call (tu [vf (us l2),vf (us l3)]) none)] []) 1000 [true] (eqs:=[((us l1).get?Internal 0=some (vu (l1.getD 0 default)))]) (tu [vf (us l2),vf (us l3)]) (by kernel_rfl) (bc (Zal (i4.2 d5)) (bc rfl (bc (i7.2 k8) b0))) (qc (Zai k8) q0) (ce k6 c0) H
 ·obtain ⟨k9,H⟩:=H
  exact Zao (G:=Zad kp99 [(4,2,.call (.int .i64 (-1)) none)] []) 1000 [false,true] (tu [AV.vnil,AV.vnil]) (by kernel_rfl) (bc (Zak (fun h=>d5 (i4.1 h))) (bc rfl b0)) q0 (ce k9 c0) H
noncomputable abbrev zNvF1 (x:Int) (l:List Int):=vu x::us l
theorem vDivideC (fa fb:Bool) (a b:List Int) (x:Int) (l ul:List Int) (dq:AV) (H :
  (Ev M1 (Conf.pure 101 [AV.vec fa 1 (us a)]) (vf (vu x::us l)) []) /\
  ∃ (l1:List Int),
  (Ev M1 (Conf.pure 101 [AV.vec fb 1 (us b)]) (vf (us l1)) []) /\
  (((↑l1.length:Int)=1) -> ∃ (l2:List Int) (l3:List Int),
   (Ev M1 (Conf.pure 105 [vf (vu x::us l),vu (l1.getD 0 default)]) (tu [vf (us l2),vf (us l3)]) []) /\
   (0<l1.length) /\
   Weak (tu [vf (us l2),vf (us l3)]) dq) /\
  (¬((↑l1.length:Int)=1) -> ∃ (n1:Int),
   (Ev M1 (Conf.pure 92 [vf (vu x::us l),vf (us l1)]) (vi n1) []) /\
   ((n1<0)->((l.length+1)*4<=1099511627776) /\
    Weak (tu [AV.vnil,vf (vu x::us l)]) dq) /\
   (¬(n1<0)->(-9223372036854775808<=(↑l1.length:Int)-1/\(↑l1.length:Int)-1<=9223372036854775807) /\
    (0<=(↑l1.length:Int)-1) /\
    (((↑l1.length:Int)-1).toNat<l1.length) /\
    (0<=l1.getD ((↑l1.length:Int)-1).toNat default/\l1.getD ((↑l1.length:Int)-1).toNat default<=18446744073709551615) /\
    (0<=l1.getD ((↑l1.length:Int)-1).toNat default+1/\l1.getD ((↑l1.length:Int)-1).toNat default+1<=18446744073709551615) /\
    (¬l1.getD ((↑l1.length:Int)-1).toNat default+1=0) /\
    (0<=Int.tdiv 1000000000 (l1.getD ((↑l1.length:Int)-1).toNat default+1)/\Int.tdiv 1000000000 (l1.getD ((↑l1.length:Int)-1).toNat default+1)<=18446744073709551615) /\
    (0<=Int.tdiv 1000000000 (l1.getD ((↑l1.length:Int)-1).toNat default+1)/\Int.tdiv 1000000000 (l1.getD ((↑l1.length:Int)-1).toNat default+1)<=4294967295) /\
    (Ev M1 (Conf.own 90 [vf (vu x::us l),AV.vec true 1 [vu (Int.tdiv 1000000000 (l1.getD ((↑l1.length:Int)-1).toNat default+1))]] []) (AV.row 0 0) [{ elems:=us ul,es:=1,ver:=0,frozen:=false,clean:=true }]) /\
    ((ul.length+1)*4<=1099511627776) /\
    ∃ (l4:List Int),
    (Ev M1 (Conf.pure 90 [vf (us l1),AV.vec true 1 [vu (Int.tdiv 1000000000 (l1.getD ((↑l1.length:Int)-1).toNat default+1))]]) (vf (us l4)) []) /\
    ∃ (l5:List Int),
    (Ev M1 (Conf.pure 101 [vf (us l4)]) (vf (us l5)) []) /\
    (-9223372036854775808<=(↑(ul++[0]).length:Int)-(↑l1.length:Int)/\(↑(ul++[0]).length:Int)-(↑l1.length:Int)<=9223372036854775807) /\
    (0<=(↑(ul++[0]).length:Int)-(↑l1.length:Int)) /\
    (((↑(ul++[0]).length:Int)-(↑l1.length:Int))*4<=1099511627776) /\
    ((↑(ul++[0]).length:Int)-(↑l1.length:Int)<=1099511627776) /\
    (-9223372036854775808<=(↑(ul++[0]).length:Int)-(↑l1.length:Int)-1/\(↑(ul++[0]).length:Int)-(↑l1.length:Int)-1<=9223372036854775807) /\
    ZaQ (ul++[0]) l5 (List.replicate ((↑(ul++[0]).length:Int)-(↑l1.length:Int)).toNat (0:Int)) false 1 ((↑l1.length:Int)) (Int.tdiv 1000000000 (l1.getD ((↑l1.length:Int)-1).toNat default+1)) ((↑(ul++[0]).length:Int)-(↑l1.length:Int)-1) (Zae dq)))) :
 Zfe fa fb a b (Zae dq):=by
 unfold Zfe
 obtain ⟨k1,l1,k2,H⟩:=H
 have w3:(us l1).length=l1.length:=List.length_map ..
 have i4:((↑(us l1).length:Int)==1)=true ↔ ((↑l1.length:Int)=1):=(by (try rw [w3]);all_goals exact i_eq)
 refine Zac (G:=Zad kp99 [(1,1,.call (.vec false 1 ((x::l).map (.int .u32))) none),(1,3,.call (vf (us l1)) none)] []) 7 [] ⟨(atC (cd Try.f99) [1,1,0,1]),[(0,vf (zNvF1 x l)),(1,vf (us l1)),(23,vb ((↑(us l1).length:Int)==1))],[],_,[],_⟩ (by kernel_rfl) b0 q0 (ce k1 (ce k2 c0)) ?_
 rcases xq H with ⟨d5,H⟩|⟨d5,H⟩
 ·obtain ⟨l2,l3,k6,H⟩:=H
  have i7:(decide (0<(us l1).length))=true ↔ (0<l1.length):=(by (try rw [w3]);all_goals exact Zab)
  obtain ⟨k8,H⟩:=H
  exact Zao (G:=Zad kp99 [(3,3,.elem (vu (l1.getD 0 default))),(3,4,.call (tu [vf (us l2),vf (us l3)]) none)] []) 1000 [true] (eqs:=[((us l1).get?Internal 0=some (vu (l1.getD 0 default)))]) (tu [vf (us l2),vf (us l3)]) (by kernel_rfl) (bc (Zal (i4.2 d5)) (bc rfl (bc (i7.2 k8) b0))) (qc (Zai k8) q0) (ce k6 c0) H
 ·obtain ⟨n1,k9,H⟩:=H
  refine Zac (G:=Zad kp99 [(4,2,.call (vi n1) none)] []) 5 [false] ⟨(atC (cd Try.f99) [1,1,1,0,1]),[(0,vf (zNvF1 x l)),(1,vf (us l1)),(34,vb (decide (n1<0)))],[],_,[],_⟩ (by kernel_rfl) (bc (Zak (fun h=>d5 (i4.1 h))) b0) q0 (ce k9 c0) ?_
  rcases xq H with ⟨d11,H⟩|⟨d11,H⟩
  ·have w12:(us l).length=l.length:=List.length_map ..
   have i13:(decide (((us l).length+1)*4<=1099511627776))=true ↔ ((l.length+1)*4<=1099511627776):=(by (try rw [w12]);all_goals exact Zab)
   obtain ⟨k14,H⟩:=H
   exact Zbm (G:=Zad kp99 [] []) 1000 [true] (k:=((atC (cd Try.f99) [1,1,1,0,1,0,1])).tail) (env':=[(4,AV.vnil),(5,AV.row 0 0)]) (L':=[⟨vu x::us l,1,0,false,true⟩]) (asm:=[(decide (n1<0))==true,decide (((us l).length+1)*4<=1099511627776)]) (eqs:=[]) (calls:=[]) (tu [AV.vnil,AV.row 0 0]) (by kernel_rfl) (by kernel_rfl) (Zag (Zal (Zab.2 d11)) (Zag (i13.2 k14) Zax)) ZaN ZaO (ZcF (d:=(tu [AV.vnil,vf (zNvF1 x l)])) (bs:=[0==0]) (by kernel_rfl) (by kernel_rfl) (Zag (beq_self_eq_true _) Zax) (by kernel_rfl) H)
  ·obtain ⟨k15,H⟩:=H
   have w16:wi ((↑l1.length:Int)-1)=(↑l1.length:Int)-1:=wI64 k15
   have i17:(decide (0<=wi ((↑(us l1).length:Int)-1)))=true ↔ (0<=(↑l1.length:Int)-1):=(by (try rw [w3]);(try rw [w16]);all_goals exact Zab)
   obtain ⟨k18,H⟩:=H
   have i19:(decide ((wi ((↑(us l1).length:Int)-1)).toNat<(us l1).length))=true ↔ (((↑l1.length:Int)-1).toNat<l1.length):=(by (try rw [w3]);(try rw [w16]);all_goals exact Zab)
   obtain ⟨k20,k21,H⟩:=H
   have w22:wu (l1.getD ((↑l1.length:Int)-1).toNat default)=l1.getD ((↑l1.length:Int)-1).toNat default:=wU64 k21
   obtain ⟨k23,H⟩:=H
   have w24:wu (l1.getD ((↑l1.length:Int)-1).toNat default+1)=l1.getD ((↑l1.length:Int)-1).toNat default+1:=wU64 k23
   have i25:(!wu (wu (l1.getD ((↑l1.length:Int)-1).toNat default)+1)==0)=true ↔ (¬l1.getD ((↑l1.length:Int)-1).toNat default+1=0):=(by (try rw [w22]);(try rw [w24]);all_goals exact i_neq)
   obtain ⟨k26,k27,H⟩:=H
   have w28:wu (Int.tdiv 1000000000 (l1.getD ((↑l1.length:Int)-1).toNat default+1))=Int.tdiv 1000000000 (l1.getD ((↑l1.length:Int)-1).toNat default+1):=wU64 k27
   obtain ⟨k29,H⟩:=H
   have w30:wv (Int.tdiv 1000000000 (l1.getD ((↑l1.length:Int)-1).toNat default+1))=Int.tdiv 1000000000 (l1.getD ((↑l1.length:Int)-1).toNat default+1):=wU32 k29
   obtain ⟨k31,H⟩:=H
   have w32:(us ul).length=ul.length:=List.length_map ..
   have i33:(decide (((us ul).length+1)*4<=1099511627776))=true ↔ ((ul.length+1)*4<=1099511627776):=(by (try rw [w32]);all_goals exact Zab)
   obtain ⟨k34,H⟩:=H
   have w35:us ul++[vu 0]=us (ul++[0]):=(ZcO rfl rfl)
   obtain ⟨l4,k36,l5,k37,H⟩:=H
   have w38:(us (ul++[0])).length=(ul++[0]).length:=List.length_map ..
   obtain ⟨k39,H⟩:=H
   have w40:wi ((↑(ul++[0]).length:Int)-(↑l1.length:Int))=(↑(ul++[0]).length:Int)-(↑l1.length:Int):=wI64 k39
   have i41:(decide (0<=wi ((↑(us ul++[vu 0]).length:Int)-(↑(us l1).length:Int))))=true ↔ (0<=(↑(ul++[0]).length:Int)-(↑l1.length:Int)):=(by (try rw [w3]);(try rw [w35]);(try rw [w38]);(try rw [w40]);all_goals exact Zab)
   obtain ⟨k42,H⟩:=H
   have i43:(decide (wi ((↑(us ul++[vu 0]).length:Int)-(↑(us l1).length:Int))<=wi ((↑(us ul++[vu 0]).length:Int)-(↑(us l1).length:Int))))=true ↔ ((↑(ul++[0]).length:Int)-(↑l1.length:Int)<=(↑(ul++[0]).length:Int)-(↑l1.length:Int)):=(by (try rw [w3]);(try rw [w35]);(try rw [w38]);(try rw [w40]);all_goals exact Zab)
   have i44:(decide (wi ((↑(us ul++[vu 0]).length:Int)-(↑(us l1).length:Int))*4<=1099511627776))=true ↔ (((↑(ul++[0]).length:Int)-(↑l1.length:Int))*4<=1099511627776):=(by (try rw [w3]);(try rw [w35]);(try rw [w38]);(try rw [w40]);all_goals exact Zab)
   obtain ⟨k45,H⟩:=H
   have i46:(decide (wi ((↑(us ul++[vu 0]).length:Int)-(↑(us l1).length:Int))<=1099511627776))=true ↔ ((↑(ul++[0]).length:Int)-(↑l1.length:Int)<=1099511627776):=(by (try rw [w3]);(try rw [w35]);(try rw [w38]);(try rw [w40]);all_goals exact Zab)
   obtain ⟨k47,H⟩:=H
   have w48:List.replicate ((↑(ul++[0]).length:Int)-(↑l1.length:Int)).toNat (vu 0)=us (List.replicate ((↑(ul++[0]).length:Int)-(↑l1.length:Int)).toNat (0:Int)):=(ZfH rfl)
   obtain ⟨k49,H⟩:=H
   have w50:wi ((↑(ul++[0]).length:Int)-(↑l1.length:Int)-1)=(↑(ul++[0]).length:Int)-(↑l1.length:Int)-1:=wI64 k49
   exact Zac (G:=Zad kp99 [(7,4,.elem (vu (l1.getD ((↑l1.length:Int)-1).toNat default))),(8,3,(.call (.row 0 0) (some [⟨ul.map (.int .u32),1,0,false,true⟩]):Ans)),(9,3,.call (vf (us l4)) none),(9,4,.call (vf (us l5)) none)] []) 1000 [false] ⟨(atC (cd Try.f99) [1,1,1,1,1,1,1,1,1,0,1,0,0]),[(6,vi (↑(us l1).length:Int)),(7,vu (wv (wu (Int.tdiv 1000000000 (wu (wu (l1.getD ((↑l1.length:Int)-1).toNat default)+1)))))),(8,AV.row 0 1),(9,vf (us l5)),(10,AV.row 1 0),(11,vi (wi (wi ((↑(us ul++[vu 0]).length:Int)-(↑(us l1).length:Int))-1)))],[⟨us ul++[vu 0],1,1,false,true⟩,⟨List.replicate (wi ((↑(us ul++[vu 0]).length:Int)-(↑(us l1).length:Int))).toNat (vu 0),1,0,false,true⟩],[(decide (n1<0))==false,decide (0<=wi ((↑(us l1).length:Int)-1)),decide ((wi ((↑(us l1).length:Int)-1)).toNat<(us l1).length),!wu (wu (l1.getD ((↑l1.length:Int)-1).toNat default)+1)==0,scalarL (us ul),true,decide (((us ul).length+1)*4<=1099511627776),true,decide (0<=wi ((↑(us ul++[vu 0]).length:Int)-(↑(us l1).length:Int))),decide (wi ((↑(us ul++[vu 0]).length:Int)-(↑(us l1).length:Int))<=wi ((↑(us ul++[vu 0]).length:Int)-(↑(us l1).length:Int))),decide (wi ((↑(us ul++[vu 0]).length:Int)-(↑(us l1).length:Int))*4<=1099511627776),decide (wi ((↑(us ul++[vu 0]).length:Int)-(↑(us l1).length:Int))<=1099511627776),true],[((us l1).get?Internal (wi ((↑(us l1).length:Int)-1)).toNat=some (vu (l1.getD ((↑l1.length:Int)-1).toNat default)))],[⟨true,true,90,[vf (zNvF1 x l),AV.vec true 1 [vu (wv (wu (Int.tdiv 1000000000 (wu (wu (l1.getD ((↑l1.length:Int)-1).toNat default)+1)))))]],[],AV.row 0 0,[⟨us ul,1,0,false,true⟩]⟩,⟨true,false,90,[vf (us l1),AV.vec true 1 [vu (wv (wu (Int.tdiv 1000000000 (wu (wu (l1.getD ((↑l1.length:Int)-1).toNat default)+1)))))]],[],vf (us l4),[]⟩,⟨true,false,101,[vf (us l4)],[],vf (us l5),[]⟩]⟩ (by kernel_rfl) (bc (Zak (fun h=>d11 (Zab.1 h))) (bc (i17.2 k18) (bc (i19.2 k20) (bc (i25.2 k26) (bc (by first | exact sc_int _ | exact sc_bool _) (bc rfl (bc (i33.2 k34) (bc rfl (bc (i41.2 k42) (bc (i43.2 (by omega)) (bc (i44.2 k45) (bc (i46.2 k47) (bc rfl b0))))))))))))) (qc (by (try rw [w3]);(try rw [w16]);all_goals exact (Zai k20)) q0) (cc (fun _=>(by (try rw [w22]);(try rw [w24]);(try rw [w28]);(try rw [w30]);all_goals exact k31)) (cc (fun _=>(by (try rw [w22]);(try rw [w24]);(try rw [w28]);(try rw [w30]);all_goals exact k36)) (cc (fun _=>k37) c0))) (by (try rw [w3]);(try rw [w22]);(try rw [w24]);(try rw [w28]);(try rw [w30]);(try rw [w35]);(try rw [w38]);(try rw [w40]);(try rw [w48]);(try rw [w50]);all_goals exact H)
noncomputable abbrev zNvF2 (b:List Int) (n:Int):=vu (b.getD (n-1).toNat default)
theorem vDivideK (u b q:List Int) (fb:Bool) (v:Nat) (n s k:Int)  (dq:AV) (H :
  ((k>=0)->(-9223372036854775808<=k+n/\k+n<=9223372036854775807) /\
   (-9223372036854775808<=k+n-1/\k+n-1<=9223372036854775807) /\
   (0<=k+n) /\
   ((k+n).toNat<u.length) /\
   (0<=k+n-1) /\
   ((k+n-1).toNat<u.length) /\
   (0<=u.getD (k+n).toNat default/\u.getD (k+n).toNat default<=18446744073709551615) /\
   (0<=u.getD (k+n).toNat default*1000000000/\u.getD (k+n).toNat default*1000000000<=18446744073709551615) /\
   (0<=u.getD (k+n-1).toNat default/\u.getD (k+n-1).toNat default<=18446744073709551615) /\
   (0<=u.getD (k+n).toNat default*1000000000+u.getD (k+n-1).toNat default/\u.getD (k+n).toNat default*1000000000+u.getD (k+n-1).toNat default<=18446744073709551615) /\
   (-9223372036854775808<=n-1/\n-1<=9223372036854775807) /\
   (0<=n-1) /\
   ((n-1).toNat<b.length) /\
   (0<=b.getD (n-1).toNat default/\b.getD (n-1).toNat default<=18446744073709551615) /\
   (¬b.getD (n-1).toNat default=0) /\
   (0<=(u.getD (k+n).toNat default*1000000000+u.getD (k+n-1).toNat default).tdiv (b.getD (n-1).toNat default)/\(u.getD (k+n).toNat default*1000000000+u.getD (k+n-1).toNat default).tdiv (b.getD (n-1).toNat default)<=18446744073709551615) /\
   Zch u b q fb v n s k ((u.getD (k+n).toNat default*1000000000+u.getD (k+n-1).toNat default).tdiv (b.getD (n-1).toNat default)) ((u.getD (k+n).toNat default*1000000000+u.getD (k+n-1).toNat default).tmod (b.getD (n-1).toNat default)) (Zae dq)) /\
  (¬(k>=0) -> ∃ (l1:List Int),
   (Ev M1 (Conf.pure 101 [vf (us (List.take (n.toNat-0) (List.drop 0 u)))]) (vf (us l1)) []) /\
   ∃ (l2:List Int) (l3:List Int),
   (Ev M1 (Conf.pure 105 [vf (us l1),vu s]) (tu [vf (us l2),vf (us l3)]) []) /\
   (0<=n) /\
   (0<=n.toNat) /\
   (n.toNat<=u.length) /\
   Weak (tu [vf (us q),vf (us l2)]) dq)) :
 ZaQ u b q fb v n s k (Zae dq):=by
 unfold ZaQ
 rcases xq H with ⟨d2,H⟩|⟨d2,H⟩
 ·obtain ⟨k3,H⟩:=H
  have w4:wi (k+n)=k+n:=wI64 k3
  obtain ⟨k5,H⟩:=H
  have w6:wi (k+n-1)=k+n-1:=wI64 k5
  have i7:(decide (0<=wi (k+n)))=true ↔ (0<=k+n):=(by (try rw [w4]);all_goals exact Zab)
  obtain ⟨k8,H⟩:=H
  have w9:(us u).length=u.length:=List.length_map ..
  have i10:(decide ((wi (k+n)).toNat<(us u).length))=true ↔ ((k+n).toNat<u.length):=(by (try rw [w4]);(try rw [w9]);all_goals exact Zab)
  obtain ⟨k11,H⟩:=H
  have i12:(decide (0<=wi (wi (k+n)-1)))=true ↔ (0<=k+n-1):=(by (try rw [w4]);(try rw [w6]);all_goals exact Zab)
  obtain ⟨k13,H⟩:=H
  have i14:(decide ((wi (wi (k+n)-1)).toNat<(us u).length))=true ↔ ((k+n-1).toNat<u.length):=(by (try rw [w4]);(try rw [w6]);(try rw [w9]);all_goals exact Zab)
  obtain ⟨k15,k16,H⟩:=H
  have w17:wu (u.getD (k+n).toNat default)=u.getD (k+n).toNat default:=wU64 k16
  obtain ⟨k18,H⟩:=H
  have w19:wu (u.getD (k+n).toNat default*1000000000)=u.getD (k+n).toNat default*1000000000:=wU64 k18
  obtain ⟨k20,H⟩:=H
  have w21:wu (u.getD (k+n-1).toNat default)=u.getD (k+n-1).toNat default:=wU64 k20
  obtain ⟨k22,H⟩:=H
  have w23:wu (u.getD (k+n).toNat default*1000000000+u.getD (k+n-1).toNat default)=u.getD (k+n).toNat default*1000000000+u.getD (k+n-1).toNat default:=wU64 k22
  obtain ⟨k24,H⟩:=H
  have w25:wi (n-1)=n-1:=wI64 k24
  have i26:(decide (0<=wi (n-1)))=true ↔ (0<=n-1):=(by (try rw [w25]);all_goals exact Zab)
  obtain ⟨k27,H⟩:=H
  have w28:(us b).length=b.length:=List.length_map ..
  have i29:(decide ((wi (n-1)).toNat<(us b).length))=true ↔ ((n-1).toNat<b.length):=(by (try rw [w25]);(try rw [w28]);all_goals exact Zab)
  obtain ⟨k30,k31,H⟩:=H
  have w32:wu (b.getD (n-1).toNat default)=b.getD (n-1).toNat default:=wU64 k31
  have i33:(!wu (b.getD (n-1).toNat default)==0)=true ↔ (¬b.getD (n-1).toNat default=0):=(by (try rw [w32]);all_goals exact i_neq)
  obtain ⟨k34,H⟩:=H
  have i35:(decide (0<=wi (n-1)))=true ↔ (0<=n-1):=(by (try rw [w25]);all_goals exact Zab)
  have i36:(decide ((wi (n-1)).toNat<(us b).length))=true ↔ ((n-1).toNat<b.length):=(by (try rw [w25]);(try rw [w28]);all_goals exact Zab)
  have i37:(!wu (b.getD (n-1).toNat default)==0)=true ↔ (¬b.getD (n-1).toNat default=0):=(by (try rw [w32]);all_goals exact i_neq)
  obtain ⟨k38,H⟩:=H
  have w39:wu ((u.getD (k+n).toNat default*1000000000+u.getD (k+n-1).toNat default).tdiv (b.getD (n-1).toNat default))=(u.getD (k+n).toNat default*1000000000+u.getD (k+n-1).toNat default).tdiv (b.getD (n-1).toNat default):=wU64 k38
  exact Zac (G:=Zad kp99 [(14,5,.elem (vu (u.getD (k+n).toNat default))),(14,14,.elem (vu (u.getD (k+n-1).toNat default))),(15,5,.elem (zNvF2 b n)),(15,13,.elem (zNvF2 b n))] []) 1000 [true] ⟨(atC (cd Try.f99) [1,1,1,1,1,1,1,1,1,0,1,0,0,1,0,0,1,1,0,0,0]),[(6,vi n),(7,vu s),(8,AV.row 0 v),(9,AV.vec fb 1 (us b)),(10,AV.row 1 0),(11,vi k),(13,vw (wu ((wu (wu (wu (u.getD (k+n).toNat default)*1000000000)+wu (u.getD (k+n-1).toNat default))).tdiv (wu (b.getD (n-1).toNat default))))),(14,vw ((wu (wu (wu (u.getD (k+n).toNat default)*1000000000)+wu (u.getD (k+n-1).toNat default))).tmod (wu (b.getD (n-1).toNat default))))],[⟨us u,1,v,false,true⟩,⟨us q,1,0,false,true⟩],[(decide (k>=0))==true,v==v,decide (0<=wi (k+n)),decide ((wi (k+n)).toNat<(us u).length),v==v,v==v,decide (0<=wi (wi (k+n)-1)),decide ((wi (wi (k+n)-1)).toNat<(us u).length),v==v,decide (0<=wi (n-1)),decide ((wi (n-1)).toNat<(us b).length),!wu (b.getD (n-1).toNat default)==0,decide (0<=wi (n-1)),decide ((wi (n-1)).toNat<(us b).length),!wu (b.getD (n-1).toNat default)==0],[((us u).get?Internal (wi (k+n)).toNat=some (vu (u.getD (k+n).toNat default))),((us u).get?Internal (wi (wi (k+n)-1)).toNat=some (vu (u.getD (k+n-1).toNat default))),((us b).get?Internal (wi (n-1)).toNat=some (zNvF2 b n)),((us b).get?Internal (wi (n-1)).toNat=some (zNvF2 b n))],_⟩ (by kernel_rfl) (bc (Zal (Zab.2 d2)) (bc (beq_self_eq_true _) (bc (i7.2 k8) (bc (i10.2 k11) (bc (beq_self_eq_true _) (bc (beq_self_eq_true _) (bc (i12.2 k13) (bc (i14.2 k15) (bc (beq_self_eq_true _) (bc (i26.2 k27) (bc (i29.2 k30) (bc (i33.2 k34) (bc (i35.2 k27) (bc (i36.2 k30) (bc (i37.2 k34) b0))))))))))))))) (qc (by (try rw [w4]);all_goals exact (Zai k11)) (qc (by (try rw [w4]);(try rw [w6]);all_goals exact (Zai k15)) (qc (by (try rw [w25]);all_goals exact (Zai k30)) (qc (by (try rw [w25]);all_goals exact (Zai k30)) q0)))) c0 (by (try rw [w17]);(try rw [w19]);(try rw [w21]);(try rw [w23]);(try rw [w32]);(try rw [w39]);all_goals exact H)
 ·have w40:List.drop 0 (us u)=us (List.drop 0 u):=(lm_drop rfl)
  have w41:List.take (n.toNat-0) (us (List.drop 0 u))=us (List.take (n.toNat-0) (List.drop 0 u)):=(lm_take rfl)
  obtain ⟨l1,k42,l2,l3,k43,k45,k47,H⟩:=H
  have w48:(us u).length=u.length:=List.length_map ..
  have i49:(decide (n.toNat<=(us u).length))=true ↔ (n.toNat<=u.length):=(by (try rw [w48]);all_goals exact Zab)
  obtain ⟨k50,H⟩:=H
  exact Zbm (G:=Zad kp99 [(24,3,.call (vf (us l1)) none),(24,5,.call (tu [vf (us l2),vf (us l3)]) none)] []) 1000 [false] (k:=((atC (cd Try.f99) [1,1,1,1,1,1,1,1,1,1,1,1])).tail) (env':=[(4,AV.row 1 0),(5,vf (us l2))]) (L':=[⟨us u,1,v,true,true⟩,⟨us q,1,0,false,true⟩]) (asm:=[(decide (k>=0))==false,v==v,decide (0<=n),decide (0<=n.toNat),decide (n.toNat<=(us u).length),v==v]) (eqs:=[]) (calls:=[⟨true,false,101,[vf (List.take (n.toNat-0) (List.drop 0 (us u)))],[],vf (us l1),[]⟩,⟨true,false,105,[vf (us l1),vu s],[],tu [vf (us l2),vf (us l3)],[]⟩]) (tu [AV.row 1 0,vf (us l2)]) (by kernel_rfl) (by kernel_rfl) (Zag (Zak (fun h=>d2 (Zab.1 h))) (Zag (beq_self_eq_true _) (Zag (Zab.2 k45) (Zag (Zab.2 k47) (Zag (i49.2 k50) (Zag (beq_self_eq_true _) Zax)))))) ZaN (ZaL (fun _=>(by (try rw [w40]);(try rw [w41]);all_goals exact k42)) (ZaL (fun _=>k43) ZaO)) (ZcF (d:=(tu [vf (us q),vf (us l2)])) (bs:=[0==0]) (by kernel_rfl) (by kernel_rfl) (Zag (beq_self_eq_true _) Zax) (by kernel_rfl) H)
noncomputable abbrev zNvF3 (g:Int) (b:List Int) (n:Int) (r:Int) (u:List Int) (k:Int):=wu (g*wu (b.getD (n-2).toNat default))>wu (wu (r*1000000000)+wu (u.getD (k+n-2).toNat default))
theorem vDivideG (u b q:List Int) (fb:Bool) (v:Nat) (n s k:Int) (g r:Int)  (dq:AV) (H :
  (-9223372036854775808<=n-2/\n-2<=9223372036854775807) /\
  (-9223372036854775808<=k+n/\k+n<=9223372036854775807) /\
  (-9223372036854775808<=k+n-2/\k+n-2<=9223372036854775807) /\
  ((¬(g>=1000000000))->(0<=n-2)) /\
  ((¬(g>=1000000000))->((n-2).toNat<b.length)) /\
  ((¬(g>=1000000000))->(0<=k+n-2)) /\
  ((¬(g>=1000000000))->((k+n-2).toNat<u.length)) /\
  (((g>=1000000000)\/(IntKind.u64.wrap (g*IntKind.u64.wrap (b.getD (n-2).toNat default))>IntKind.u64.wrap (IntKind.u64.wrap (r*1000000000)+IntKind.u64.wrap (u.getD (k+n-2).toNat default))))->(0<=g-1/\g-1<=18446744073709551615) /\
   (-9223372036854775808<=n-1/\n-1<=9223372036854775807) /\
   (0<=n-1) /\
   ((n-1).toNat<b.length) /\
   (0<=b.getD (n-1).toNat default/\b.getD (n-1).toNat default<=18446744073709551615) /\
   (0<=r+b.getD (n-1).toNat default/\r+b.getD (n-1).toNat default<=18446744073709551615) /\
   ((r+b.getD (n-1).toNat default>=1000000000)->(-9223372036854775808<=k+n+1/\k+n+1<=9223372036854775807) /\
    (O.okL u/\O.okL b/\k.toNat+((k+n+1).toNat-k.toNat)<=u.length/\(k+n+1).toNat-k.toNat=b.length+1/\u.length<=1000000/\0<=g-1/\g-1<1000000000) /\
    (0<=k) /\
    (0<=k+n+1) /\
    (k.toNat<=(k+n+1).toNat) /\
    ((k+n+1).toNat<=u.length) /\
    (((↑(O.win u k.toNat ((k+n+1).toNat-k.toNat)):Int)-(g-1)*(↑(valL b):Int)<0)->(0<=g-1-1/\g-1-1<=18446744073709551615) /\
     (O.okL (O.Za1 u k.toNat ((k+n+1).toNat-k.toNat) ((↑(O.win u k.toNat ((k+n+1).toNat-k.toNat)):Int)-(g-1)*(↑(valL b):Int)))/\O.okL b/\k.toNat+((k+n+1).toNat-k.toNat)<=(O.Za1 u k.toNat ((k+n+1).toNat-k.toNat) ((↑(O.win u k.toNat ((k+n+1).toNat-k.toNat)):Int)-(g-1)*(↑(valL b):Int))).length/\(k+n+1).toNat-k.toNat=b.length+1/\(O.Za1 u k.toNat ((k+n+1).toNat-k.toNat) ((↑(O.win u k.toNat ((k+n+1).toNat-k.toNat)):Int)-(g-1)*(↑(valL b):Int))).length<=1000000) /\
     ((k+n+1).toNat<=(O.Za1 u k.toNat ((k+n+1).toNat-k.toNat) ((↑(O.win u k.toNat ((k+n+1).toNat-k.toNat)):Int)-(g-1)*(↑(valL b):Int))).length) /\
     (k.toNat<q.length) /\
     (0<=g-1-1/\g-1-1<=4294967295) /\
     (-9223372036854775808<=k-1/\k-1<=9223372036854775807) /\
     ZaQ (O.Za1 (O.Za1 u k.toNat ((k+n+1).toNat-k.toNat) ((↑(O.win u k.toNat ((k+n+1).toNat-k.toNat)):Int)-(g-1)*(↑(valL b):Int))) k.toNat ((k+n+1).toNat-k.toNat) ((↑(O.win (O.Za1 u k.toNat ((k+n+1).toNat-k.toNat) ((↑(O.win u k.toNat ((k+n+1).toNat-k.toNat)):Int)-(g-1)*(↑(valL b):Int))) k.toNat ((k+n+1).toNat-k.toNat)):Int)+(↑(valL b):Int))) b (q.set k.toNat (g-1-1)) fb v n s (k-1) (Zae dq)) /\
    (¬((↑(O.win u k.toNat ((k+n+1).toNat-k.toNat)):Int)-(g-1)*(↑(valL b):Int)<0)->(k.toNat<q.length) /\
     (0<=g-1/\g-1<=4294967295) /\
     (-9223372036854775808<=k-1/\k-1<=9223372036854775807) /\
     ZaQ (O.Za1 u k.toNat ((k+n+1).toNat-k.toNat) ((↑(O.win u k.toNat ((k+n+1).toNat-k.toNat)):Int)-(g-1)*(↑(valL b):Int))) b (q.set k.toNat (g-1)) fb v n s (k-1) (Zae dq))) /\
   (¬(r+b.getD (n-1).toNat default>=1000000000)->Zch u b q fb v n s k (g-1) (r+b.getD (n-1).toNat default) (Zae dq))) /\
  (¬((g>=1000000000)\/(IntKind.u64.wrap (g*IntKind.u64.wrap (b.getD (n-2).toNat default))>IntKind.u64.wrap (IntKind.u64.wrap (r*1000000000)+IntKind.u64.wrap (u.getD (k+n-2).toNat default))))->(-9223372036854775808<=k+n+1/\k+n+1<=9223372036854775807) /\
   (O.okL u/\O.okL b/\k.toNat+((k+n+1).toNat-k.toNat)<=u.length/\(k+n+1).toNat-k.toNat=b.length+1/\u.length<=1000000/\0<=g/\g<1000000000) /\
   (0<=k) /\
   (0<=k+n+1) /\
   (k.toNat<=(k+n+1).toNat) /\
   ((k+n+1).toNat<=u.length) /\
   (((↑(O.win u k.toNat ((k+n+1).toNat-k.toNat)):Int)-g*(↑(valL b):Int)<0)->(0<=g-1/\g-1<=18446744073709551615) /\
    (O.okL (O.Za1 u k.toNat ((k+n+1).toNat-k.toNat) ((↑(O.win u k.toNat ((k+n+1).toNat-k.toNat)):Int)-g*(↑(valL b):Int)))/\O.okL b/\k.toNat+((k+n+1).toNat-k.toNat)<=(O.Za1 u k.toNat ((k+n+1).toNat-k.toNat) ((↑(O.win u k.toNat ((k+n+1).toNat-k.toNat)):Int)-g*(↑(valL b):Int))).length/\(k+n+1).toNat-k.toNat=b.length+1/\(O.Za1 u k.toNat ((k+n+1).toNat-k.toNat) ((↑(O.win u k.toNat ((k+n+1).toNat-k.toNat)):Int)-g*(↑(valL b):Int))).length<=1000000) /\
    ((k+n+1).toNat<=(O.Za1 u k.toNat ((k+n+1).toNat-k.toNat) ((↑(O.win u k.toNat ((k+n+1).toNat-k.toNat)):Int)-g*(↑(valL b):Int))).length) /\
    (k.toNat<q.length) /\
    (0<=g-1/\g-1<=4294967295) /\
    (-9223372036854775808<=k-1/\k-1<=9223372036854775807) /\
    ZaQ (O.Za1 (O.Za1 u k.toNat ((k+n+1).toNat-k.toNat) ((↑(O.win u k.toNat ((k+n+1).toNat-k.toNat)):Int)-g*(↑(valL b):Int))) k.toNat ((k+n+1).toNat-k.toNat) ((↑(O.win (O.Za1 u k.toNat ((k+n+1).toNat-k.toNat) ((↑(O.win u k.toNat ((k+n+1).toNat-k.toNat)):Int)-g*(↑(valL b):Int))) k.toNat ((k+n+1).toNat-k.toNat)):Int)+(↑(valL b):Int))) b (q.set k.toNat (g-1)) fb v n s (k-1) (Zae dq)) /\
   (¬((↑(O.win u k.toNat ((k+n+1).toNat-k.toNat)):Int)-g*(↑(valL b):Int)<0)->(k.toNat<q.length) /\
    (0<=g/\g<=4294967295) /\
    (-9223372036854775808<=k-1/\k-1<=9223372036854775807) /\
    ZaQ (O.Za1 u k.toNat ((k+n+1).toNat-k.toNat) ((↑(O.win u k.toNat ((k+n+1).toNat-k.toNat)):Int)-g*(↑(valL b):Int))) b (q.set k.toNat g) fb v n s (k-1) (Zae dq)))) :
 Zch u b q fb v n s k g r (Zae dq):=by
 unfold Zch
 obtain ⟨k1,H⟩:=H
 have w2:wi (n-2)=n-2:=wI64 k1
 obtain ⟨k3,H⟩:=H
 have w4:wi (k+n)=k+n:=wI64 k3
 obtain ⟨k5,H⟩:=H
 have w6:wi (k+n-2)=k+n-2:=wI64 k5
 have i7:(!(decide (g>=1000000000)==false&&true)||decide (0<=wi (n-2)))=true ↔ ((¬(g>=1000000000))->(0<=n-2)):=(by (try rw [w2]);all_goals exact (ZaV (i_at (i_bf Zab)) Zab))
 obtain ⟨k8,H⟩:=H
 have w9:(us b).length=b.length:=List.length_map ..
 have i10:(!(decide (g>=1000000000)==false&&true)||decide ((wi (n-2)).toNat<(us b).length))=true ↔ ((¬(g>=1000000000))->((n-2).toNat<b.length)):=(by (try rw [w2]);(try rw [w9]);all_goals exact (ZaV (i_at (i_bf Zab)) Zab))
 obtain ⟨k11,H⟩:=H
 have i13:(!(decide (g>=1000000000)==false&&true)||decide (0<=wi (wi (k+n)-2)))=true ↔ ((¬(g>=1000000000))->(0<=k+n-2)):=(by (try rw [w4]);(try rw [w6]);all_goals exact (ZaV (i_at (i_bf Zab)) Zab))
 obtain ⟨k14,H⟩:=H
 have w15:(us u).length=u.length:=List.length_map ..
 have i16:(!(decide (g>=1000000000)==false&&true)||decide ((wi (wi (k+n)-2)).toNat<(us u).length))=true ↔ ((¬(g>=1000000000))->((k+n-2).toNat<u.length)):=(by (try rw [w4]);(try rw [w6]);(try rw [w15]);all_goals exact (ZaV (i_at (i_bf Zab)) Zab))
 obtain ⟨k17,H⟩:=H
 refine Zac (G:=Zad kp99 [(16,8,.elem (vu (b.getD (n-2).toNat default))),(16,19,.elem (vu (u.getD (k+n-2).toNat default)))] []) 3 [] ⟨(atC (cd Try.f99) [1,1,1,1,1,1,1,1,1,0,1,0,0,1,0,0,1,1,0,0,0,0,1]),[(6,vi n),(7,vu s),(8,AV.row 0 v),(9,AV.vec fb 1 (us b)),(10,AV.row 1 0),(11,vi k),(13,vw g),(14,vw r),(129,vb (bif decide (g>=1000000000) then true else decide (zNvF3 g b n r u k)))],[⟨us u,1,v,false,true⟩,⟨us q,1,0,false,true⟩],[!(decide (g>=1000000000)==false&&true)||decide (0<=wi (n-2)),!(decide (g>=1000000000)==false&&true)||decide ((wi (n-2)).toNat<(us b).length),!(decide (g>=1000000000)==false&&true)||v==v,!(decide (g>=1000000000)==false&&true)||decide (0<=wi (wi (k+n)-2)),!(decide (g>=1000000000)==false&&true)||decide ((wi (wi (k+n)-2)).toNat<(us u).length),!(decide (g>=1000000000)==false&&true)||v==v],[((decide (g>=1000000000)==false&&true)=true->(us b).get?Internal (wi (n-2)).toNat=some (vu (b.getD (n-2).toNat default))),((decide (g>=1000000000)==false&&true)=true->(us u).get?Internal (wi (wi (k+n)-2)).toNat=some (vu (u.getD (k+n-2).toNat default)))],_⟩ (by kernel_rfl) (bc (i7.2 k8) (bc (i10.2 k11) (bc ((ZaV (i_at (i_bf Zab)) i_eq).2 (fun _=>rfl)) (bc (i13.2 k14) (bc (i16.2 k17) (bc ((ZaV (i_at (i_bf Zab)) i_eq).2 (fun _=>rfl)) b0)))))) (qc (by (try rw [w2]);all_goals exact (fun h=>Zai (k11 ((i_at (i_bf Zab)).1 h)))) (qc (by (try rw [w4]);(try rw [w6]);all_goals exact (fun h=>Zai (k17 ((i_at (i_bf Zab)).1 h)))) q0)) c0 ?_
 rcases xq H with ⟨d22,H⟩|⟨d22,H⟩
 ·obtain ⟨k23,H⟩:=H
  have w24:wu (g-1)=g-1:=wU64 k23
  obtain ⟨k25,H⟩:=H
  have w26:wi (n-1)=n-1:=wI64 k25
  have i27:(decide (0<=wi (n-1)))=true ↔ (0<=n-1):=(by (try rw [w26]);all_goals exact Zab)
  obtain ⟨k28,H⟩:=H
  have i29:(decide ((wi (n-1)).toNat<(us b).length))=true ↔ ((n-1).toNat<b.length):=(by (try rw [w9]);(try rw [w26]);all_goals exact Zab)
  obtain ⟨k30,k31,H⟩:=H
  have w32:wu (b.getD (n-1).toNat default)=b.getD (n-1).toNat default:=wU64 k31
  obtain ⟨k33,H⟩:=H
  have w34:wu (r+b.getD (n-1).toNat default)=r+b.getD (n-1).toNat default:=wU64 k33
  have i35:(decide (wu (r+wu (b.getD (n-1).toNat default))>=1000000000))=true ↔ (r+b.getD (n-1).toNat default>=1000000000):=(by (try rw [w32]);(try rw [w34]);all_goals exact Zab)
  refine Zac (G:=Zad kp99 [(18,5,.elem (vu (b.getD (n-1).toNat default)))] []) 9 [true] ⟨(atC (cd Try.f99) [1,1,1,1,1,1,1,1,1,0,1,0,0,1,0,0,1,1,0,0,0,1,0,1,1,1]),[(6,vi n),(7,vu s),(8,AV.row 0 v),(9,AV.vec fb 1 (us b)),(10,AV.row 1 0),(11,vi k),(13,vw (wu (g-1))),(14,vw (wu (r+wu (b.getD (n-1).toNat default)))),(141,vb (decide (wu (r+wu (b.getD (n-1).toNat default))>=1000000000)))],[⟨us u,1,v,false,true⟩,⟨us q,1,0,false,true⟩],_,[((us b).get?Internal (wi (n-1)).toNat=some (vu (b.getD (n-1).toNat default)))],_⟩ (by kernel_rfl) (bc (Zal ((ZaE Zab Zab).2 d22)) (bc (i27.2 k28) (bc (i29.2 k30) b0))) (qc (by (try rw [w26]);all_goals exact (Zai k30)) q0) c0 ?_
  rcases xq H with ⟨d36,H⟩|⟨d36,H⟩
  ·obtain ⟨k37,H⟩:=H
   have w38:wi (k+n+1)=k+n+1:=wI64 k37
   obtain ⟨k39,k41,H⟩:=H
   have i42:(decide (0<=wi (wi (k+n)+1)))=true ↔ (0<=k+n+1):=(by (try rw [w4]);(try rw [w38]);all_goals exact Zab)
   obtain ⟨k43,H⟩:=H
   have i44:(decide (k.toNat<=(wi (wi (k+n)+1)).toNat))=true ↔ (k.toNat<=(k+n+1).toNat):=(by (try rw [w4]);(try rw [w38]);all_goals exact Zab)
   obtain ⟨k45,H⟩:=H
   have i46:(decide ((wi (wi (k+n)+1)).toNat<=(us u).length))=true ↔ ((k+n+1).toNat<=u.length):=(by (try rw [w4]);(try rw [w15]);(try rw [w38]);all_goals exact Zab)
   obtain ⟨k47,H⟩:=H
   refine Zac (G:=Zad kp99 [(20,9,.call (vb (decide ((↑(O.win u k.toNat ((k+n+1).toNat-k.toNat)):Int)-(g-1)*(↑(valL b):Int)<0))) (some [⟨us (O.Za1 u k.toNat ((k+n+1).toNat-k.toNat) ((↑(O.win u k.toNat ((k+n+1).toNat-k.toNat)):Int)-(g-1)*(↑(valL b):Int))),1,v,false,true⟩]))] []) 5 [true] ⟨(atC (cd Try.f99) [1,1,1,1,1,1,1,1,1,0,1,0,0,1,0,0,1,1,1,0,1]),[(6,vi n),(7,vu s),(8,AV.row 0 v),(9,AV.vec fb 1 (us b)),(10,AV.row 1 0),(11,vi k),(13,vw (wu (g-1))),(151,vb (decide ((↑(O.win u k.toNat ((k+n+1).toNat-k.toNat)):Int)-(g-1)*(↑(valL b):Int)<0)))],[⟨us (O.Za1 u k.toNat ((k+n+1).toNat-k.toNat) ((↑(O.win u k.toNat ((k+n+1).toNat-k.toNat)):Int)-(g-1)*(↑(valL b):Int))),1,v,false,true⟩,⟨us q,1,0,false,true⟩],[(decide (wu (r+wu (b.getD (n-1).toNat default))>=1000000000))==true,v==v,decide (0<=k),decide (0<=wi (wi (k+n)+1)),decide (k.toNat<=(wi (wi (k+n)+1)).toNat),decide ((wi (wi (k+n)+1)).toNat<=(us u).length)],[],[⟨true,true,106,[AV.ref 0 v k.toNat ((wi (wi (k+n)+1)).toNat-k.toNat),AV.vec fb 1 (us b),vw (wu (g-1))],[⟨us u,1,v,false,true⟩],vb (decide ((↑(O.win u k.toNat ((k+n+1).toNat-k.toNat)):Int)-(g-1)*(↑(valL b):Int)<0)),[⟨us (O.Za1 u k.toNat ((k+n+1).toNat-k.toNat) ((↑(O.win u k.toNat ((k+n+1).toNat-k.toNat)):Int)-(g-1)*(↑(valL b):Int))),1,v,false,true⟩]⟩]⟩ (by kernel_rfl) (bc (Zal (i35.2 d36)) (bc (beq_self_eq_true _) (bc (Zab.2 k41) (bc (i42.2 k43) (bc (i44.2 k45) (bc (i46.2 k47) b0)))))) q0 (cc (fun _=>(by (try rw [w4]);(try rw [w24]);(try rw [w38]);all_goals exact (@evo106 u b fb v (k.toNat) ((k+n+1).toNat-k.toNat) (g-1) k39))) c0) ?_
   rcases xq H with ⟨d49,H⟩|⟨d49,H⟩
   ·obtain ⟨k50,H⟩:=H
    have w51:wu (g-1-1)=g-1-1:=wU64 k50
    obtain ⟨k52,H⟩:=H
    have i54:(decide (0<=wi (wi (k+n)+1)))=true ↔ (0<=k+n+1):=(by (try rw [w4]);(try rw [w38]);all_goals exact Zab)
    have i55:(decide (k.toNat<=(wi (wi (k+n)+1)).toNat))=true ↔ (k.toNat<=(k+n+1).toNat):=(by (try rw [w4]);(try rw [w38]);all_goals exact Zab)
    have w56:(us (O.Za1 u k.toNat ((k+n+1).toNat-k.toNat) ((↑(O.win u k.toNat ((k+n+1).toNat-k.toNat)):Int)-(g-1)*(↑(valL b):Int)))).length=(O.Za1 u k.toNat ((k+n+1).toNat-k.toNat) ((↑(O.win u k.toNat ((k+n+1).toNat-k.toNat)):Int)-(g-1)*(↑(valL b):Int))).length:=List.length_map ..
    have i57:(decide ((wi (wi (k+n)+1)).toNat<=(us (O.Za1 u k.toNat ((k+n+1).toNat-k.toNat) ((↑(O.win u k.toNat ((k+n+1).toNat-k.toNat)):Int)-(g-1)*(↑(valL b):Int)))).length))=true ↔ ((k+n+1).toNat<=(O.Za1 u k.toNat ((k+n+1).toNat-k.toNat) ((↑(O.win u k.toNat ((k+n+1).toNat-k.toNat)):Int)-(g-1)*(↑(valL b):Int))).length):=(by (try rw [w4]);(try rw [w38]);(try rw [w56]);all_goals exact Zab)
    obtain ⟨k58,H⟩:=H
    have w60:(us q).length=q.length:=List.length_map ..
    have i61:(decide (k.toNat<(us q).length))=true ↔ (k.toNat<q.length):=(by (try rw [w60]);all_goals exact Zab)
    obtain ⟨k62,k63,H⟩:=H
    have w64:wv (g-1-1)=g-1-1:=wU32 k63
    have w65:(us q).set k.toNat (vu (g-1-1))=us (q.set k.toNat (g-1-1)):=(Za4 rfl rfl)
    obtain ⟨k66,H⟩:=H
    have w67:wi (k-1)=k-1:=wI64 k66
    exact Zac (G:=Zad kp99 [(22,8,.call (tu []) (some [⟨us (O.Za1 (O.Za1 u k.toNat ((k+n+1).toNat-k.toNat) ((↑(O.win u k.toNat ((k+n+1).toNat-k.toNat)):Int)-(g-1)*(↑(valL b):Int))) k.toNat ((k+n+1).toNat-k.toNat) ((↑(O.win (O.Za1 u k.toNat ((k+n+1).toNat-k.toNat) ((↑(O.win u k.toNat ((k+n+1).toNat-k.toNat)):Int)-(g-1)*(↑(valL b):Int))) k.toNat ((k+n+1).toNat-k.toNat)):Int)+(↑(valL b):Int))),1,v,false,true⟩])),(23,5,.elem (vu (q.getD k.toNat default)))] []) 1000 [true] ⟨(atC (cd Try.f99) [1,1,1,1,1,1,1,1,1,0,1,0,0]),[(6,vi n),(7,vu s),(8,AV.row 0 v),(9,AV.vec fb 1 (us b)),(10,AV.row 1 0),(11,vi (wi (k-1)))],[⟨us (O.Za1 (O.Za1 u k.toNat ((k+n+1).toNat-k.toNat) ((↑(O.win u k.toNat ((k+n+1).toNat-k.toNat)):Int)-(g-1)*(↑(valL b):Int))) k.toNat ((k+n+1).toNat-k.toNat) ((↑(O.win (O.Za1 u k.toNat ((k+n+1).toNat-k.toNat) ((↑(O.win u k.toNat ((k+n+1).toNat-k.toNat)):Int)-(g-1)*(↑(valL b):Int))) k.toNat ((k+n+1).toNat-k.toNat)):Int)+(↑(valL b):Int))),1,v,false,true⟩,⟨(us q).set k.toNat (vu (wv (wu (wu (g-1)-1)))),1,0,false,true⟩],[(decide ((↑(O.win u k.toNat ((k+n+1).toNat-k.toNat)):Int)-(g-1)*(↑(valL b):Int)<0))==true,v==v,decide (0<=k),decide (0<=wi (wi (k+n)+1)),decide (k.toNat<=(wi (wi (k+n)+1)).toNat),decide ((wi (wi (k+n)+1)).toNat<=(us (O.Za1 u k.toNat ((k+n+1).toNat-k.toNat) ((↑(O.win u k.toNat ((k+n+1).toNat-k.toNat)):Int)-(g-1)*(↑(valL b):Int)))).length),true,decide (0<=k),decide (k.toNat<(us q).length),true],[((us q).get?Internal k.toNat=some (vu (q.getD k.toNat default)))],[⟨true,true,107,[AV.ref 0 v k.toNat ((wi (wi (k+n)+1)).toNat-k.toNat),AV.vec fb 1 (us b)],[⟨us (O.Za1 u k.toNat ((k+n+1).toNat-k.toNat) ((↑(O.win u k.toNat ((k+n+1).toNat-k.toNat)):Int)-(g-1)*(↑(valL b):Int))),1,v,false,true⟩],tu [],[⟨us (O.Za1 (O.Za1 u k.toNat ((k+n+1).toNat-k.toNat) ((↑(O.win u k.toNat ((k+n+1).toNat-k.toNat)):Int)-(g-1)*(↑(valL b):Int))) k.toNat ((k+n+1).toNat-k.toNat) ((↑(O.win (O.Za1 u k.toNat ((k+n+1).toNat-k.toNat) ((↑(O.win u k.toNat ((k+n+1).toNat-k.toNat)):Int)-(g-1)*(↑(valL b):Int))) k.toNat ((k+n+1).toNat-k.toNat)):Int)+(↑(valL b):Int))),1,v,false,true⟩]⟩]⟩ (by kernel_rfl) (bc (Zal (Zab.2 d49)) (bc (beq_self_eq_true _) (bc (Zab.2 k41) (bc (i54.2 k43) (bc (i55.2 k45) (bc (i57.2 k58) (bc rfl (bc (Zab.2 k41) (bc (i61.2 k62) (bc rfl b0)))))))))) (qc (Zai k62) q0) (cc (fun _=>(by (try rw [w4]);(try rw [w38]);all_goals exact (@evo107 (O.Za1 u k.toNat ((k+n+1).toNat-k.toNat) ((↑(O.win u k.toNat ((k+n+1).toNat-k.toNat)):Int)-(g-1)*(↑(valL b):Int))) b fb v (k.toNat) ((k+n+1).toNat-k.toNat) k52))) c0) (by (try rw [w24]);(try rw [w51]);(try rw [w64]);(try rw [w65]);(try rw [w67]);all_goals exact H)
   ·have w69:(us q).length=q.length:=List.length_map ..
    have i70:(decide (k.toNat<(us q).length))=true ↔ (k.toNat<q.length):=(by (try rw [w69]);all_goals exact Zab)
    obtain ⟨k71,k72,H⟩:=H
    have w73:wv (g-1)=g-1:=wU32 k72
    have w74:(us q).set k.toNat (vu (g-1))=us (q.set k.toNat (g-1)):=(Za4 rfl rfl)
    obtain ⟨k75,H⟩:=H
    have w76:wi (k-1)=k-1:=wI64 k75
    exact Zac (G:=Zad kp99 [(23,5,.elem (vu (q.getD k.toNat default)))] []) 1000 [false] ⟨(atC (cd Try.f99) [1,1,1,1,1,1,1,1,1,0,1,0,0]),[(6,vi n),(7,vu s),(8,AV.row 0 v),(9,AV.vec fb 1 (us b)),(10,AV.row 1 0),(11,vi (wi (k-1)))],[⟨us (O.Za1 u k.toNat ((k+n+1).toNat-k.toNat) ((↑(O.win u k.toNat ((k+n+1).toNat-k.toNat)):Int)-(g-1)*(↑(valL b):Int))),1,v,false,true⟩,⟨(us q).set k.toNat (vu (wv (wu (g-1)))),1,0,false,true⟩],_,[((us q).get?Internal k.toNat=some (vu (q.getD k.toNat default)))],_⟩ (by kernel_rfl) (bc (Zak (fun h=>d49 (Zab.1 h))) (bc rfl (bc (Zab.2 k41) (bc (i70.2 k71) (bc rfl b0))))) (qc (Zai k71) q0) c0 (by (try rw [w24]);(try rw [w73]);(try rw [w74]);(try rw [w76]);all_goals exact H)
  ·exact Zac (G:=Zad kp99 [] []) 1000 [false] ⟨(atC (cd Try.f99) [1,1,1,1,1,1,1,1,1,0,1,0,0,1,0,0,1,1,0,0,0]),[(6,vi n),(7,vu s),(8,AV.row 0 v),(9,AV.vec fb 1 (us b)),(10,AV.row 1 0),(11,vi k),(13,vw (wu (g-1))),(14,vw (wu (r+wu (b.getD (n-1).toNat default)))),(141,vb (decide (wu (r+wu (b.getD (n-1).toNat default))>=1000000000)))],[⟨us u,1,v,false,true⟩,⟨us q,1,0,false,true⟩],_,[],_⟩ (by kernel_rfl) (bc (Zak (fun h=>d36 (i35.1 h))) b0) q0 c0 (by (try rw [w24]);(try rw [w32]);(try rw [w34]);all_goals exact Wp.less [6,7,8,9,10,11,13,14] H)
 ·obtain ⟨k77,H⟩:=H
  have w78:wi (k+n+1)=k+n+1:=wI64 k77
  obtain ⟨k79,k81,H⟩:=H
  have i82:(decide (0<=wi (wi (k+n)+1)))=true ↔ (0<=k+n+1):=(by (try rw [w4]);(try rw [w78]);all_goals exact Zab)
  obtain ⟨k83,H⟩:=H
  have i84:(decide (k.toNat<=(wi (wi (k+n)+1)).toNat))=true ↔ (k.toNat<=(k+n+1).toNat):=(by (try rw [w4]);(try rw [w78]);all_goals exact Zab)
  obtain ⟨k85,H⟩:=H
  have i86:(decide ((wi (wi (k+n)+1)).toNat<=(us u).length))=true ↔ ((k+n+1).toNat<=u.length):=(by (try rw [w4]);(try rw [w15]);(try rw [w78]);all_goals exact Zab)
  obtain ⟨k87,H⟩:=H
  refine Zac (G:=Zad kp99 [(20,9,.call (vb (decide ((↑(O.win u k.toNat ((k+n+1).toNat-k.toNat)):Int)-g*(↑(valL b):Int)<0))) (some [⟨us (O.Za1 u k.toNat ((k+n+1).toNat-k.toNat) ((↑(O.win u k.toNat ((k+n+1).toNat-k.toNat)):Int)-g*(↑(valL b):Int))),1,v,false,true⟩]))] []) 5 [false] ⟨(atC (cd Try.f99) [1,1,1,1,1,1,1,1,1,0,1,0,0,1,0,0,1,1,1,0,1]),[(6,vi n),(7,vu s),(8,AV.row 0 v),(9,AV.vec fb 1 (us b)),(10,AV.row 1 0),(11,vi k),(13,vw g),(151,vb (decide ((↑(O.win u k.toNat ((k+n+1).toNat-k.toNat)):Int)-g*(↑(valL b):Int)<0)))],[⟨us (O.Za1 u k.toNat ((k+n+1).toNat-k.toNat) ((↑(O.win u k.toNat ((k+n+1).toNat-k.toNat)):Int)-g*(↑(valL b):Int))),1,v,false,true⟩,⟨us q,1,0,false,true⟩],[(bif decide (g>=1000000000) then true else decide (zNvF3 g b n r u k))==false,v==v,decide (0<=k),decide (0<=wi (wi (k+n)+1)),decide (k.toNat<=(wi (wi (k+n)+1)).toNat),decide ((wi (wi (k+n)+1)).toNat<=(us u).length)],[],[⟨true,true,106,[AV.ref 0 v k.toNat ((wi (wi (k+n)+1)).toNat-k.toNat),AV.vec fb 1 (us b),vw g],[⟨us u,1,v,false,true⟩],vb (decide ((↑(O.win u k.toNat ((k+n+1).toNat-k.toNat)):Int)-g*(↑(valL b):Int)<0)),[⟨us (O.Za1 u k.toNat ((k+n+1).toNat-k.toNat) ((↑(O.win u k.toNat ((k+n+1).toNat-k.toNat)):Int)-g*(↑(valL b):Int))),1,v,false,true⟩]⟩]⟩ (by kernel_rfl) (bc (Zak (fun h=>d22 ((ZaE Zab Zab).1 h))) (bc (beq_self_eq_true _) (bc (Zab.2 k81) (bc (i82.2 k83) (bc (i84.2 k85) (bc (i86.2 k87) b0)))))) q0 (cc (fun _=>(by (try rw [w4]);(try rw [w78]);all_goals exact (@evo106 u b fb v (k.toNat) ((k+n+1).toNat-k.toNat) g k79))) c0) ?_
  rcases xq H with ⟨d89,H⟩|⟨d89,H⟩
  ·obtain ⟨k90,H⟩:=H
   have w91:wu (g-1)=g-1:=wU64 k90
   obtain ⟨k92,H⟩:=H
   have i94:(decide (0<=wi (wi (k+n)+1)))=true ↔ (0<=k+n+1):=(by (try rw [w4]);(try rw [w78]);all_goals exact Zab)
   have i95:(decide (k.toNat<=(wi (wi (k+n)+1)).toNat))=true ↔ (k.toNat<=(k+n+1).toNat):=(by (try rw [w4]);(try rw [w78]);all_goals exact Zab)
   have w96:(us (O.Za1 u k.toNat ((k+n+1).toNat-k.toNat) ((↑(O.win u k.toNat ((k+n+1).toNat-k.toNat)):Int)-g*(↑(valL b):Int)))).length=(O.Za1 u k.toNat ((k+n+1).toNat-k.toNat) ((↑(O.win u k.toNat ((k+n+1).toNat-k.toNat)):Int)-g*(↑(valL b):Int))).length:=List.length_map ..
   have i97:(decide ((wi (wi (k+n)+1)).toNat<=(us (O.Za1 u k.toNat ((k+n+1).toNat-k.toNat) ((↑(O.win u k.toNat ((k+n+1).toNat-k.toNat)):Int)-g*(↑(valL b):Int)))).length))=true ↔ ((k+n+1).toNat<=(O.Za1 u k.toNat ((k+n+1).toNat-k.toNat) ((↑(O.win u k.toNat ((k+n+1).toNat-k.toNat)):Int)-g*(↑(valL b):Int))).length):=(by (try rw [w4]);(try rw [w78]);(try rw [w96]);all_goals exact Zab)
   obtain ⟨k98,H⟩:=H
   have w100:(us q).length=q.length:=List.length_map ..
   have i101:(decide (k.toNat<(us q).length))=true ↔ (k.toNat<q.length):=(by (try rw [w100]);all_goals exact Zab)
   obtain ⟨k102,k103,H⟩:=H
   have w104:wv (g-1)=g-1:=wU32 k103
   have w105:(us q).set k.toNat (vu (g-1))=us (q.set k.toNat (g-1)):=(Za4 rfl rfl)
   obtain ⟨k106,H⟩:=H
   have w107:wi (k-1)=k-1:=wI64 k106
   exact Zac (G:=Zad kp99 [(22,8,.call (tu []) (some [⟨us (O.Za1 (O.Za1 u k.toNat ((k+n+1).toNat-k.toNat) ((↑(O.win u k.toNat ((k+n+1).toNat-k.toNat)):Int)-g*(↑(valL b):Int))) k.toNat ((k+n+1).toNat-k.toNat) ((↑(O.win (O.Za1 u k.toNat ((k+n+1).toNat-k.toNat) ((↑(O.win u k.toNat ((k+n+1).toNat-k.toNat)):Int)-g*(↑(valL b):Int))) k.toNat ((k+n+1).toNat-k.toNat)):Int)+(↑(valL b):Int))),1,v,false,true⟩])),(23,5,.elem (vu (q.getD k.toNat default)))] []) 1000 [true] ⟨(atC (cd Try.f99) [1,1,1,1,1,1,1,1,1,0,1,0,0]),[(6,vi n),(7,vu s),(8,AV.row 0 v),(9,AV.vec fb 1 (us b)),(10,AV.row 1 0),(11,vi (wi (k-1)))],[⟨us (O.Za1 (O.Za1 u k.toNat ((k+n+1).toNat-k.toNat) ((↑(O.win u k.toNat ((k+n+1).toNat-k.toNat)):Int)-g*(↑(valL b):Int))) k.toNat ((k+n+1).toNat-k.toNat) ((↑(O.win (O.Za1 u k.toNat ((k+n+1).toNat-k.toNat) ((↑(O.win u k.toNat ((k+n+1).toNat-k.toNat)):Int)-g*(↑(valL b):Int))) k.toNat ((k+n+1).toNat-k.toNat)):Int)+(↑(valL b):Int))),1,v,false,true⟩,⟨(us q).set k.toNat (vu (wv (wu (g-1)))),1,0,false,true⟩],[(decide ((↑(O.win u k.toNat ((k+n+1).toNat-k.toNat)):Int)-g*(↑(valL b):Int)<0))==true,v==v,decide (0<=k),decide (0<=wi (wi (k+n)+1)),decide (k.toNat<=(wi (wi (k+n)+1)).toNat),decide ((wi (wi (k+n)+1)).toNat<=(us (O.Za1 u k.toNat ((k+n+1).toNat-k.toNat) ((↑(O.win u k.toNat ((k+n+1).toNat-k.toNat)):Int)-g*(↑(valL b):Int)))).length),true,decide (0<=k),decide (k.toNat<(us q).length),true],[((us q).get?Internal k.toNat=some (vu (q.getD k.toNat default)))],[⟨true,true,107,[AV.ref 0 v k.toNat ((wi (wi (k+n)+1)).toNat-k.toNat),AV.vec fb 1 (us b)],[⟨us (O.Za1 u k.toNat ((k+n+1).toNat-k.toNat) ((↑(O.win u k.toNat ((k+n+1).toNat-k.toNat)):Int)-g*(↑(valL b):Int))),1,v,false,true⟩],tu [],[⟨us (O.Za1 (O.Za1 u k.toNat ((k+n+1).toNat-k.toNat) ((↑(O.win u k.toNat ((k+n+1).toNat-k.toNat)):Int)-g*(↑(valL b):Int))) k.toNat ((k+n+1).toNat-k.toNat) ((↑(O.win (O.Za1 u k.toNat ((k+n+1).toNat-k.toNat) ((↑(O.win u k.toNat ((k+n+1).toNat-k.toNat)):Int)-g*(↑(valL b):Int))) k.toNat ((k+n+1).toNat-k.toNat)):Int)+(↑(valL b):Int))),1,v,false,true⟩]⟩]⟩ (by kernel_rfl) (bc (Zal (Zab.2 d89)) (bc (beq_self_eq_true _) (bc (Zab.2 k81) (bc (i94.2 k83) (bc (i95.2 k85) (bc (i97.2 k98) (bc rfl (bc (Zab.2 k81) (bc (i101.2 k102) (bc rfl b0)))))))))) (qc (Zai k102) q0) (cc (fun _=>(by (try rw [w4]);(try rw [w78]);all_goals exact (@evo107 (O.Za1 u k.toNat ((k+n+1).toNat-k.toNat) ((↑(O.win u k.toNat ((k+n+1).toNat-k.toNat)):Int)-g*(↑(valL b):Int))) b fb v (k.toNat) ((k+n+1).toNat-k.toNat) k92))) c0) (by (try rw [w91]);(try rw [w104]);(try rw [w105]);(try rw [w107]);all_goals exact H)
  ·have w109:(us q).length=q.length:=List.length_map ..
   have i110:(decide (k.toNat<(us q).length))=true ↔ (k.toNat<q.length):=(by (try rw [w109]);all_goals exact Zab)
   obtain ⟨k111,k112,H⟩:=H
   have w113:wv g=g:=wU32 k112
   have w114:(us q).set k.toNat (vu g)=us (q.set k.toNat g):=(Za4 rfl rfl)
   obtain ⟨k115,H⟩:=H
   have w116:wi (k-1)=k-1:=wI64 k115
   exact Zac (G:=Zad kp99 [(23,5,.elem (vu (q.getD k.toNat default)))] []) 1000 [false] ⟨(atC (cd Try.f99) [1,1,1,1,1,1,1,1,1,0,1,0,0]),[(6,vi n),(7,vu s),(8,AV.row 0 v),(9,AV.vec fb 1 (us b)),(10,AV.row 1 0),(11,vi (wi (k-1)))],[⟨us (O.Za1 u k.toNat ((k+n+1).toNat-k.toNat) ((↑(O.win u k.toNat ((k+n+1).toNat-k.toNat)):Int)-g*(↑(valL b):Int))),1,v,false,true⟩,⟨(us q).set k.toNat (vu (wv g)),1,0,false,true⟩],_,[((us q).get?Internal k.toNat=some (vu (q.getD k.toNat default)))],_⟩ (by kernel_rfl) (bc (Zak (fun h=>d89 (Zab.1 h))) (bc rfl (bc (Zab.2 k81) (bc (i110.2 k111) (bc rfl b0))))) (qc (Zai k111) q0) c0 (by (try rw [w113]);(try rw [w114]);(try rw [w116]);all_goals exact H)
end Go.Av

namespace Go.Av
open Go.Proofs
theorem Zdk:∀ (a b x:Nat),O.Zat (a+b) x=O.Zat a x++O.Zat b (x / 1000000000 ^ a)
 | 0,b,x=>by simp [O.Zat]
 | a+1,b,x=>by
  rw [show a+1+b=(a+b)+1 by omega,ZaB,ZaB,Zdk a b,List.cons_append,Nat.div_div_eq_div_mul,Nat.pow_succ,Nat.mul_comm (1000000000 ^ a)]
theorem limN_mod:∀ (a x:Nat),O.Zat a (x % 1000000000 ^ a)=O.Zat a x
 | 0,x=>rfl
 | a+1,x=>by
  rw [ZaB,ZaB]
  have e1:x % 1000000000 ^ (a+1) % 1000000000=x % 1000000000:=Nat.mod_mod_of_dvd _ ⟨1000000000 ^ a,by rw [Nat.pow_succ,Nat.mul_comm]⟩
  have e2:x % 1000000000 ^ (a+1) / 1000000000=x / 1000000000 % 1000000000 ^ a:=by rw [Nat.pow_succ,Nat.mul_comm,Nat.mod_mul_right_div_self]
  rw [e1,e2,limN_mod a]
theorem limN_low (a x y:Nat):O.Zat a (x % 1000000000 ^ a+1000000000 ^ a*y)=O.Zat a x:=by
 rw [<- limN_mod a (x % 1000000000 ^ a+1000000000 ^ a*y),Nat.add_mul_mod_self_left,Nat.mod_mod,limN_mod]
theorem limN_more' (n m v:Nat) (h:O.fits n v) (hm:n<=m):O.Zat m v=O.Zat n v++O.zs (m-n):=by
 obtain ⟨d,rfl⟩:=Nat.exists_eq_add_of_le hm
 rw [Zd2 n d v h,Nat.add_sub_cancel_left]
theorem rowZ_lim {L U lo len:Nat} {Z:Nat} (hl:lo+len<=L) (hU:O.fits (lo+len) U) (hZ:O.fits len Z):O.Za1 (O.Zat L U) lo len (Z:Int)=O.Zat L (U % 1000000000 ^ lo+1000000000 ^ lo*Z):=by
 have e:L=lo+(len+(L-lo-len)):=by omega
 unfold O.Za1
 rw [Ze1,Zd3 _ _ _ hl,Zbe hU (Nat.le_refl _),limN_zero]
 conv=>rhs;rw [e]
 rw [Zdk,limN_low]
 have e2:(U % 1000000000 ^ lo+1000000000 ^ lo*Z) / 1000000000 ^ lo=Z:=by
  rw [Nat.add_mul_div_left _ _ (Nat.pow_pos (by omega)),Nat.div_eq_of_lt (Nat.mod_lt _ (Nat.pow_pos (by omega))),Nat.zero_add]
 rw [e2,Zd2 len _ Z hZ]
 have e3:(O.Zat L U).take lo=O.Zat lo U:=by
  conv=>lhs;rw [e,Zdk]
  rw [List.take_append_of_le_length (by rw [Zaq];omega),List.take_of_length_le (by rw [Zaq];omega)]
 rw [e3,show L-(lo+len)=L-lo-len by omega];rfl
theorem win_lim {L U lo len:Nat} (hl:lo+len<=L) (hU:O.fits (lo+len) U):O.win (O.Zat L U) lo len=U / 1000000000 ^ lo:=by
 have hf:O.fits len (U / 1000000000 ^ lo):=by
  rw [Zd9,Nat.div_div_eq_div_mul,<- Nat.pow_add]
  exact Zbe hU (Nat.le_refl _)
 unfold O.win
 rw [Zd3 _ _ _ (by omega),limN_more' len (L-lo) _ hf (by omega),List.take_append_of_le_length (by rw [Zaq];omega),List.take_of_length_le (by rw [Zaq];omega),val_limN _ _ hf]
theorem limN_okL (n v:Nat):O.okL (O.Zat n v):=limN_ok n v
def AfterG (u b q:List Int) (fb:Bool) (v:Nat) (n s k g:Int) (dq:AV):Prop:=
 (-9223372036854775808<=k+n+1/\k+n+1<=9223372036854775807) /\
 (O.okL u/\O.okL b/\k.toNat+((k+n+1).toNat-k.toNat)<=u.length/\(k+n+1).toNat-k.toNat=b.length+1/\u.length<=1000000/\0<=g/\g<1000000000) /\
 (0<=k)/\(0<=k+n+1)/\(k.toNat<=(k+n+1).toNat)/\((k+n+1).toNat<=u.length) /\
 (((O.win u k.toNat ((k+n+1).toNat-k.toNat):Int)-g*(valL b:Nat)<0)->(0<=g-1/\g-1<=18446744073709551615) /\
  (O.okL (O.Za1 u k.toNat ((k+n+1).toNat-k.toNat) ((O.win u k.toNat ((k+n+1).toNat-k.toNat):Int)-g*(valL b:Nat)))/\O.okL b/\k.toNat+((k+n+1).toNat-k.toNat)<=(O.Za1 u k.toNat ((k+n+1).toNat-k.toNat) ((O.win u k.toNat ((k+n+1).toNat-k.toNat):Int)-g*(valL b:Nat))).length/\(k+n+1).toNat-k.toNat=b.length+1/\(O.Za1 u k.toNat ((k+n+1).toNat-k.toNat) ((O.win u k.toNat ((k+n+1).toNat-k.toNat):Int)-g*(valL b:Nat))).length<=1000000) /\
  ((k+n+1).toNat<=(O.Za1 u k.toNat ((k+n+1).toNat-k.toNat) ((O.win u k.toNat ((k+n+1).toNat-k.toNat):Int)-g*(valL b:Nat))).length) /\
  (k.toNat<q.length)/\(0<=g-1/\g-1<=4294967295)/\(-9223372036854775808<=k-1/\k-1<=9223372036854775807) /\
  ZaQ (O.Za1 (O.Za1 u k.toNat ((k+n+1).toNat-k.toNat) ((O.win u k.toNat ((k+n+1).toNat-k.toNat):Int)-g*(valL b:Nat))) k.toNat ((k+n+1).toNat-k.toNat) ((O.win (O.Za1 u k.toNat ((k+n+1).toNat-k.toNat) ((O.win u k.toNat ((k+n+1).toNat-k.toNat):Int)-g*(valL b:Nat))) k.toNat ((k+n+1).toNat-k.toNat):Int)+(valL b:Nat))) b (q.set k.toNat (g-1)) fb v n s (k-1) (Zae dq)) /\
 (¬((O.win u k.toNat ((k+n+1).toNat-k.toNat):Int)-g*(valL b:Nat)<0)->(k.toNat<q.length)/\(0<=g/\g<=4294967295)/\(-9223372036854775808<=k-1/\k-1<=9223372036854775807) /\
  ZaQ (O.Za1 u k.toNat ((k+n+1).toNat-k.toNat) ((O.win u k.toNat ((k+n+1).toNat-k.toNat):Int)-g*(valL b:Nat))) b (q.set k.toNat g) fb v n s (k-1) (Zae dq))
theorem afterG {q:List Int} {fb:Bool} {v n k L U V g:Nat} {s:Int} {dq:AV} (hL:L<=1000000) (hkn:k+n+1<=L) (hq:q.length<=1000000/\k<q.length) (hV0:0<V) (hV:O.fits n V) (hU:O.fits (k+(n+1)) U) (hg:g<1000000000) (h1:U / 1000000000 ^ k / V<=g) (h2:g<=U / 1000000000 ^ k / V+1)
  (cont:ZaQ (O.Zat L (U % 1000000000 ^ k+1000000000 ^ k*(U / 1000000000 ^ k % V))) (O.Zat n V) (q.set k ((U / 1000000000 ^ k / V:Nat):Int)) fb v n s ((k:Int)-1) (Zae dq)) :
  AfterG (O.Zat L U) (O.Zat n V) q fb v n s k g dq:=by
 unfold AfterG
 have e1:((k:Int)+n+1).toNat-(k:Int).toNat=n+1:=by omega
 rw [e1,Int.toNat_natCast,win_lim (by omega) hU,val_limN n V hV]
 have hok:=limN_okL L U
 have hlen:=Zaq L U
 have hdm:=Nat.div_add_mod (U / 1000000000 ^ k) V
 have hml:=Nat.mod_lt (U / 1000000000 ^ k) hV0
 have hfm:O.fits (n+1) (U / 1000000000 ^ k % V):=Zb2 (Zc6 hV (Nat.le_of_lt hml)) (by omega)
 have hrow:=rowZ_lim (L:=L) (U:=U) (lo:=k) (len:=n+1) (by omega) hU hfm
 have hgV:(g:Int)*(V:Int)=((g*V:Nat):Int):=(Int.natCast_mul _ _).symm
 rw [hgV]
 generalize hW:U / 1000000000 ^ k=W at hdm hml h1 h2 hrow cont
 have hq1:W / V*V+W % V=W:=by rw [Nat.mul_comm];exact hdm
 generalize W / V=q0 at hq1 h1 h2 cont
 generalize W % V=r0 at hq1 hml hrow cont
 refine ⟨by omega,⟨hok,limN_okL n V,by omega,by rw [Zaq],by omega,by omega,by omega⟩,by omega,by omega,by omega,by omega,fun hneg => ?_,fun hneg => ?_⟩
 ·have hg1:g=q0+1:=by
   rcases Nat.lt_or_ge q0 g with k1 | k1
   ·omega
   ·have:g=q0:=by omega
    subst this
    omega
  have hgw:g*V=q0*V+V:=by rw [hg1,Nat.succ_mul]
  have ez:(W:Int)-((g*V:Nat):Int)+(V:Int)=(r0:Int):=by omega
  have eg:(g:Int)-1=(q0:Int):=by omega
  rw [rowZ_again (by omega) hok,ez,hrow,eg]
  refine ⟨by omega,⟨rowZ_ok hok,limN_okL n V,by rw [ZeS (by omega)];omega,by rw [Zaq],by rw [ZeS (by omega)];omega⟩,by rw [ZeS (by omega)];omega,by omega,by omega,by omega,cont⟩
 ·have hg1:g=q0:=by
   rcases Nat.lt_or_ge q0 g with k1 | k1
   ·exfalso
    have:g=q0+1:=by omega
    have hgw:g*V=q0*V+V:=by rw [this,Nat.succ_mul]
    omega
   ·omega
  subst hg1
  have ez:(W:Int)-((g*V:Nat):Int)=(r0:Int):=by omega
  rw [ez,hrow]
  exact ⟨by omega,by omega,by omega,cont⟩
theorem loopG {q:List Int} {fb:Bool} {v n k L U V:Nat} {s:Int} {dq:AV} (hn:2<=n) (hL:L<=1000000) (hkn:k+n+1<=L) (hq:q.length<=1000000/\k<q.length) (hV:O.fits n V) (hU:O.fits (k+(n+1)) U) (hE:Est (1000000000 ^ (n-2)) (U / 1000000000 ^ k) V)
  (cont:ZaQ (O.Zat L (U % 1000000000 ^ k+1000000000 ^ k*(U / 1000000000 ^ k % V))) (O.Zat n V) (q.set k ((U / 1000000000 ^ k / V:Nat):Int)) fb v n s ((k:Int)-1) (Zae dq)) :
  ∀ (g r:Nat),g*(V / 1000000000 ^ (n-2) / 1000000000)+r=U / 1000000000 ^ k / 1000000000 ^ (n-2) / 1000000000->U / 1000000000 ^ k / V<=g->r<1000000000->g<18446744073709551615->Zch (O.Zat L U) (O.Zat n V) q fb v n s k g r (Zae dq):=by
 have hV0:=hE.V0
 have more:=fun g r=>hE.more (g:=g) (r:=r)
 have less:=fun g r=>hE.less (g:=g) (r:=r)
 have small:=fun g r=>hE.small (g:=g) (r:=r)
 have b1:(O.Zat n V).getD (n-1) default=((V / 1000000000 ^ (n-2) / 1000000000:Nat):Int):=by
  rw [ZaI V (by omega),Zbr,show n-2+1=n-1 by omega]
  have:=Zca (n:=n-1) (v:=V) (by rw [show n-1+1=n by omega];exact hV)
  rw [Nat.mod_eq_of_lt this]
 have b2:(O.Zat n V).getD (n-2) default=((V / 1000000000 ^ (n-2) % 1000000000:Nat):Int):=ZaI V (by omega)
 have u2:(O.Zat L U).getD (k+n-2) default=((U / 1000000000 ^ k / 1000000000 ^ (n-2) % 1000000000:Nat):Int):=by
  rw [ZaI U (by omega),Nat.div_div_eq_div_mul,<- Nat.pow_add,show k+(n-2)=k+n-2 by omega]
 have hv1:V / 1000000000 ^ (n-2) / 1000000000<1000000000:=by
  rw [Zbr,show n-2+1=n-1 by omega]
  exact Zca (by rw [show n-1+1=n by omega];exact hV)
 have e1:((n:Int)-1).toNat=n-1:=by omega
 have e2:((n:Int)-2).toNat=n-2:=by omega
 have e3:((k:Int)+n-2).toNat=k+n-2:=by omega
 have after:∀ g:Nat,g<1000000000->U / 1000000000 ^ k / V<=g->g<=U / 1000000000 ^ k / V+1->AfterG (O.Zat L U) (O.Zat n V) q fb v n s k g dq:=fun g h0 h1 h2=>afterG hL hkn hq hV0 hV hU h0 h1 h2 cont
 clear cont hE hV0
 generalize V / 1000000000 ^ (n-2)=d at *
 generalize U / 1000000000 ^ k / 1000000000 ^ (n-2)=x at *
 generalize U / 1000000000 ^ k / V=q0 at *
 have htest:∀ g r:Nat,r<1000000000->(((((g:Nat):Int)>=1000000000)\/(IntKind.u64.wrap (((g:Nat):Int)*IntKind.u64.wrap ((O.Zat n V).getD ((n:Int)-2).toNat default))>IntKind.u64.wrap (IntKind.u64.wrap ((r:Int)*1000000000)+IntKind.u64.wrap ((O.Zat L U).getD ((k:Int)+n-2).toNat default)))) ↔
   (g>=1000000000\/g*(d % 1000000000)>r*1000000000+x % 1000000000)):=by
  intro g r hr
  rw [e2,e3,b2,u2]
  have hv2:d % 1000000000<1000000000:=Nat.mod_lt _ (by omega)
  have hu2:x % 1000000000<1000000000:=Nat.mod_lt _ (by omega)
  generalize d % 1000000000=v2 at hv2
  generalize x % 1000000000=x2 at hu2
  rw [wU64 (n:=(v2:Int)) (by omega),wU64 (n:=(x2:Int)) (by omega),wU64 (n:=(r:Int)*1000000000) (by omega),wU64 (n:=(r:Int)*1000000000+(x2:Int)) (by omega)]
  by_cases hbig:g>=1000000000
  ·exact ⟨fun _ => .inl hbig,fun _ => .inl (by omega)⟩
  ·have hm:((g:Nat):Int)*(v2:Int)=((g*v2:Nat):Int):=(Int.natCast_mul _ _).symm
   have hle:g*v2<=1000000000*1000000000:=Nat.mul_le_mul (by omega) (by omega)
   rw [hm,wU64 (by omega)]
   constructor
   ·rintro (h | h)
    ·exact absurd (by omega) hbig
    ·right;omega
   ·rintro (h | h)
    ·exact absurd h hbig
    ·right;omega
 intro g
 induction g with
 | zero =>
  intro r hgr hqg hr hgb
  have hno:¬(0>=1000000000\/0*(d % 1000000000)>r*1000000000+x % 1000000000):=fun h=>by have:=more 0 r hgr h;omega
  exact vDivideG _ _ _ _ _ _ _ _ _ _ _ ⟨by omega,by omega,by omega,fun _=>by omega,fun _=>by rw [Zaq];omega,fun _=>by omega,fun _=>by rw [Zaq];omega,fun h=>absurd ((htest 0 r hr).1 h) hno,fun _=>after 0 (by omega) hqg (less 0 r hgr (by omega))⟩
 | succ g ih =>
  intro r hgr hqg hr hgb
  refine vDivideG _ _ _ _ _ _ _ _ _ _ _ ⟨by omega,by omega,by omega,fun _=>by omega,fun _=>by rw [Zaq];omega,fun _=>by omega,fun _=>by rw [Zaq];omega,fun h => ?_,fun h => ?_⟩
  ·have ht:=(htest (g+1) r hr).1 h
   have hlt:=more (g+1) r hgr ht
   have hgr':g*(d / 1000000000)+(r+d / 1000000000)=x / 1000000000:=by rw [<- hgr,Nat.succ_mul];omega
   have eg:((g+1:Nat):Int)-1=(g:Int):=by omega
   rw [e1,b1,eg]
   have er:(r:Int)+((d / 1000000000:Nat):Int)=((r+d / 1000000000:Nat):Int):=by omega
   rw [er]
   refine ⟨by omega,by omega,by omega,by rw [Zaq];omega,by omega,by omega,fun hbr => ?_,fun hbr => ?_⟩
   ·have hsm:=small g _ hgr' (by omega)
    refine after g hsm (by omega) (less g _ hgr' ?_)
    have:g*(d % 1000000000)<=1000000000*1000000000:=Nat.mul_le_mul (by omega) (by omega)
    omega
   ·exact ih _ hgr' (by omega) (by omega) (by omega)
  ·have ht:¬(g+1>=1000000000\/(g+1)*(d % 1000000000)>r*1000000000+x % 1000000000):=fun y=>h ((htest (g+1) r hr).2 y)
   exact after (g+1) (by omega) hqg (less (g+1) r hgr (by omega))
end Go.Av
