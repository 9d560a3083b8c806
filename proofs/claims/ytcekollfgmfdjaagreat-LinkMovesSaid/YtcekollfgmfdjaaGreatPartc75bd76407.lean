/- PART 6 of the texts of a claim, joined by a program: what each part shows stands at its head. -/
import Derived.Test.YtcekollfgmfdjaaGreatPartd918d3420f

namespace Go.Av
open Go.Proofs
set_option maxRecDepth 100000
def fi12:Fi:=⟨83,[.tmp 10,.tmp 11]⟩
def kp12:List (Nat × List Nat):=[(0,[3,4,5,6,7]),(1,[3,4,5,6,7,12]),(2,[3,4,5,6,7,12,17]),(3,[10,11]),(4,[3,4,5,6,7,24]),(5,[10,11]),(6,[3,4,5,6,7,39]),(7,[10,11]),(8,[3,4,5,6,7,13]),(9,[13]),(10,[3,4,5,6,7,13,46]),(11,[4,7,13]),(12,[4,7,13]),(13,[13]),(14,[4,7,13,72]),(15,[13]),(16,[10,11])]
def qLk_at (f:Bool) (cs:List Bx) (u0 v0 u1 v1 th gp sf:Int) (fx fy fz tx ty tz:Int) (r pl:Int) (Q:AV->Heap->Prop):Prop:=Wp M1 (.run fi12 (atC (cd Tryz.f12) []) [(0,.agg [.int .i64 u0,.int .i64 v0,.int .i64 u1,.int .i64 v1,.int .i64 th,.int .i64 gp,.vec f 5 (cs.map Bx.a),.int .i64 sf]),(1,.agg [.int .i64 fx,.int .i64 fy,.int .i64 fz]),(2,.agg [.int .i64 tx,.int .i64 ty,.int .i64 tz]),(3,.int .i64 r),(4,.int .i64 pl)] []) Q
theorem call12 {args:List AV} {d:AV} (h:wc M1 fi12 Tryz.f12 args d):Ev M1 (.pure 12 args) d []:=pcl _ _ (by kernel_rfl) h
noncomputable abbrev ZeF (tx:Int) (ty:Int) (tz:Int) (fz:Int) (cs:List Bx) (fx:Int) (fy:Int) (r:Int):=N.tol tx ty (if tz>if fz>N.hgt cs fx fy tx ty r then fz else N.hgt cs fx fy tx ty r then tz else if fz>N.hgt cs fx fy tx ty r then fz else N.hgt cs fx fy tx ty r) fx fy (if tz>if fz>N.hgt cs fx fy tx ty r then fz else N.hgt cs fx fy tx ty r then tz else if fz>N.hgt cs fx fy tx ty r then fz else N.hgt cs fx fy tx ty r) 0
noncomputable abbrev zNqW2 (fx:Int) (fy:Int) (tz:Int) (fz:Int) (cs:List Bx) (tx:Int) (ty:Int) (r:Int) (pl:Int):=N.tol fx fy (if tz>if fz>N.hgt cs fx fy tx ty r then fz else N.hgt cs fx fy tx ty r then tz else if fz>N.hgt cs fx fy tx ty r then fz else N.hgt cs fx fy tx ty r) fx fy fz 0++N.tol tx ty (if tz>if fz>N.hgt cs fx fy tx ty r then fz else N.hgt cs fx fy tx ty r then tz else if fz>N.hgt cs fx fy tx ty r then fz else N.hgt cs fx fy tx ty r) fx fy (if tz>if fz>N.hgt cs fx fy tx ty r then fz else N.hgt cs fx fy tx ty r then tz else if fz>N.hgt cs fx fy tx ty r then fz else N.hgt cs fx fy tx ty r) 0++N.ds1 tz tx ty (if tz>if fz>N.hgt cs fx fy tx ty r then fz else N.hgt cs fx fy tx ty r then tz else if fz>N.hgt cs fx fy tx ty r then fz else N.hgt cs fx fy tx ty r)++N.ds2 tz pl tx ty (if tz>if fz>N.hgt cs fx fy tx ty r then fz else N.hgt cs fx fy tx ty r then tz else if fz>N.hgt cs fx fy tx ty r then fz else N.hgt cs fx fy tx ty r)
noncomputable abbrev ZcA (fx:Int) (fy:Int) (fz:Int):=ag [vi fx,vi fy,vi fz,AV.vnil]
noncomputable abbrev zNqW4 (fx:Int) (fy:Int) (tz:Int) (fz:Int) (cs:List Bx) (tx:Int) (ty:Int) (r:Int):=N.tol fx fy (if tz>if fz>N.hgt cs fx fy tx ty r then fz else N.hgt cs fx fy tx ty r then tz else if fz>N.hgt cs fx fy tx ty r then fz else N.hgt cs fx fy tx ty r) fx fy fz 0++N.tol tx ty (if tz>if fz>N.hgt cs fx fy tx ty r then fz else N.hgt cs fx fy tx ty r then tz else if fz>N.hgt cs fx fy tx ty r then fz else N.hgt cs fx fy tx ty r) fx fy (if tz>if fz>N.hgt cs fx fy tx ty r then fz else N.hgt cs fx fy tx ty r then tz else if fz>N.hgt cs fx fy tx ty r then fz else N.hgt cs fx fy tx ty r) 0
noncomputable abbrev zNqW5 (tz:Int) (tx:Int) (ty:Int) (fz:Int) (cs:List Bx) (fx:Int) (fy:Int) (r:Int):=N.ds1 tz tx ty (if tz>if fz>N.hgt cs fx fy tx ty r then fz else N.hgt cs fx fy tx ty r then tz else if fz>N.hgt cs fx fy tx ty r then fz else N.hgt cs fx fy tx ty r)
noncomputable abbrev zNqW6 (tz:Int) (pl:Int) (tx:Int) (ty:Int) (fz:Int) (cs:List Bx) (fx:Int) (fy:Int) (r:Int):=N.ds2 tz pl tx ty (if tz>if fz>N.hgt cs fx fy tx ty r then fz else N.hgt cs fx fy tx ty r then tz else if fz>N.hgt cs fx fy tx ty r then fz else N.hgt cs fx fy tx ty r)
noncomputable abbrev ZbN (tx:Int) (ty:Int):=ag [vi tx,vi ty]
noncomputable abbrev Zen (tx:Int) (ty:Int) (tz:Int):=ag [vi tx,vi ty,vi tz]
noncomputable abbrev ZfL (fx:Int) (fy:Int) (fz:Int):=ag [vi fx,vi fy,vi fz]
noncomputable abbrev Zc9 (fx:Int) (fy:Int):=ag [vi fx,vi fy]
noncomputable abbrev zNqW11 (tx:Int) (ty:Int) (tz:Int) (fz:Int) (cs:List Bx) (fx:Int) (fy:Int) (r:Int):=ag [vi tx,vi ty,vi (if tz>if fz>N.hgt cs fx fy tx ty r then fz else N.hgt cs fx fy tx ty r then tz else if fz>N.hgt cs fx fy tx ty r then fz else N.hgt cs fx fy tx ty r),AV.row 1 (0+(ZeF tx ty tz fz cs fx fy r).length)]
noncomputable abbrev zNqW12 (fx:Int) (fy:Int) (tz:Int) (fz:Int) (cs:List Bx) (tx:Int) (ty:Int) (r:Int):=N.tol fx fy (if tz>if fz>N.hgt cs fx fy tx ty r then fz else N.hgt cs fx fy tx ty r then tz else if fz>N.hgt cs fx fy tx ty r then fz else N.hgt cs fx fy tx ty r) fx fy fz 0
noncomputable abbrev zNqW13 (fx:Int) (fy:Int) (tz:Int) (fz:Int) (cs:List Bx) (tx:Int) (ty:Int) (r:Int):=ag [vi fx,vi fy,vi (if tz>if fz>N.hgt cs fx fy tx ty r then fz else N.hgt cs fx fy tx ty r then tz else if fz>N.hgt cs fx fy tx ty r then fz else N.hgt cs fx fy tx ty r),AV.row 1 0]
noncomputable abbrev zNqW14 (fx:Int) (fy:Int) (tz:Int) (fz:Int) (pl:Int):=ag [vi fx,vi fy,vi (N.dz2 tz fz),AV.row 1 (N.dvn tz pl fx fy fz)]
noncomputable abbrev zNqW15 (tx:Int) (ty:Int) (tz:Int) (fz:Int) (cs:List Bx) (fx:Int) (fy:Int) (r:Int) (pl:Int):=ag [vi tx,vi ty,vi (N.dz2 tz (if tz>if fz>N.hgt cs fx fy tx ty r then fz else N.hgt cs fx fy tx ty r then tz else if fz>N.hgt cs fx fy tx ty r then fz else N.hgt cs fx fy tx ty r)),AV.row 1 (0+(ZeF tx ty tz fz cs fx fy r).length+(zNqW5 tz tx ty fz cs fx fy r).length+(zNqW6 tz pl tx ty fz cs fx fy r).length)]
theorem qLk (f:Bool) (cs:List Bx) (u0 v0 u1 v1 th gp sf:Int) (fx fy fz tx ty tz:Int) (r pl:Int)  (dq:AV) (H :
  ((¬N.vaE cs u0 v0 u1 v1 th gp sf=0)->Weak (tu [AV.vnil,vi (N.vaE cs u0 v0 u1 v1 th gp sf)]) dq) /\
  (¬(¬N.vaE cs u0 v0 u1 v1 th gp sf=0)->(((r<0)\/(pl<=0))->Weak (tu [AV.vnil,vi 1]) dq) /\
   (¬((r<0)\/(pl<=0)) -> ∃ (b1:Bool),
    (Ev M1 (Conf.pure 24 [AV.vec true 1 [vi fx,vi fy,vi fz,vi tx,vi ty,vi tz,vi r]]) (vb b1) []) /\
    ((b1=true)->Weak (tu [AV.vnil,vi 11]) dq) /\
    (¬(b1=true)->((¬((fx=tx)/\(fy=ty)))->(N.okHg cs fx fy tx ty r) /\
      ((N.sam fx fy (if tz>if fz>N.hgt cs fx fy tx ty r then fz else N.hgt cs fx fy tx ty r then tz else if fz>N.hgt cs fx fy tx ty r then fz else N.hgt cs fx fy tx ty r) fx fy fz)->((N.sam tx ty fz fx fy fz)->((N.dno tz fz)->Weak (tu [AV.vnil,vi 0]) dq) /\
        (¬(N.dno tz fz)->Weak (tu [AV.vec false 7 (List.map Mv.a (N.ds1 tz fx fy fz++N.ds2 tz pl fx fy fz)),vi 0]) dq)) /\
       (¬(N.sam tx ty fz fx fy fz)->((N.tol tx ty fz fx fy fz 0).length<=90000) /\
        Weak (tu [AV.vec false 7 (List.map Mv.a (N.tol tx ty fz fx fy fz 0++N.ds1 tz tx ty fz++N.ds2 tz pl tx ty fz)),vi 0]) dq)) /\
      (¬(N.sam fx fy (if tz>if fz>N.hgt cs fx fy tx ty r then fz else N.hgt cs fx fy tx ty r then tz else if fz>N.hgt cs fx fy tx ty r then fz else N.hgt cs fx fy tx ty r) fx fy fz)->((N.tol fx fy (if tz>if fz>N.hgt cs fx fy tx ty r then fz else N.hgt cs fx fy tx ty r then tz else if fz>N.hgt cs fx fy tx ty r then fz else N.hgt cs fx fy tx ty r) fx fy fz 0).length<=100000) /\
       ((N.tol fx fy (if tz>if fz>N.hgt cs fx fy tx ty r then fz else N.hgt cs fx fy tx ty r then tz else if fz>N.hgt cs fx fy tx ty r then fz else N.hgt cs fx fy tx ty r) fx fy fz 0++N.tol tx ty (if tz>if fz>N.hgt cs fx fy tx ty r then fz else N.hgt cs fx fy tx ty r then tz else if fz>N.hgt cs fx fy tx ty r then fz else N.hgt cs fx fy tx ty r) fx fy (if tz>if fz>N.hgt cs fx fy tx ty r then fz else N.hgt cs fx fy tx ty r then tz else if fz>N.hgt cs fx fy tx ty r then fz else N.hgt cs fx fy tx ty r) 0).length<=90000) /\
       Weak (tu [AV.vec false 7 (List.map Mv.a (N.tol fx fy (if tz>if fz>N.hgt cs fx fy tx ty r then fz else N.hgt cs fx fy tx ty r then tz else if fz>N.hgt cs fx fy tx ty r then fz else N.hgt cs fx fy tx ty r) fx fy fz 0++N.tol tx ty (if tz>if fz>N.hgt cs fx fy tx ty r then fz else N.hgt cs fx fy tx ty r then tz else if fz>N.hgt cs fx fy tx ty r then fz else N.hgt cs fx fy tx ty r) fx fy (if tz>if fz>N.hgt cs fx fy tx ty r then fz else N.hgt cs fx fy tx ty r then tz else if fz>N.hgt cs fx fy tx ty r then fz else N.hgt cs fx fy tx ty r) 0++N.ds1 tz tx ty (if tz>if fz>N.hgt cs fx fy tx ty r then fz else N.hgt cs fx fy tx ty r then tz else if fz>N.hgt cs fx fy tx ty r then fz else N.hgt cs fx fy tx ty r)++N.ds2 tz pl tx ty (if tz>if fz>N.hgt cs fx fy tx ty r then fz else N.hgt cs fx fy tx ty r then tz else if fz>N.hgt cs fx fy tx ty r then fz else N.hgt cs fx fy tx ty r))),vi 0]) dq)) /\
     (¬(¬((fx=tx)/\(fy=ty)))->((tz>fz)->((N.sam fx fy tz fx fy fz)->Weak (tu [AV.vnil,vi 0]) dq) /\
       (¬(N.sam fx fy tz fx fy fz)->Weak (tu [AV.vec false 7 (List.map Mv.a (N.tol fx fy tz fx fy fz 0)),vi 0]) dq)) /\
      (¬(tz>fz)->((N.dno tz fz)->Weak (tu [AV.vnil,vi 0]) dq) /\
       (¬(N.dno tz fz)->Weak (tu [AV.vec false 7 (List.map Mv.a (N.ds1 tz fx fy fz++N.ds2 tz pl fx fy fz)),vi 0]) dq))))))) :
 qLk_at f cs u0 v0 u1 v1 th gp sf fx fy fz tx ty tz r pl (Zag dq):=by
 unfold qLk_at
 refine Zaf (G:=Zae kp12 [(1,1,.call (vi (N.vaE cs u0 v0 u1 v1 th gp sf)) none)] []) 7 [] ⟨(atC (cd Tryz.f12) [1,0,1,1]),[(3,vi r),(4,vi pl),(5,AV.ptr 0 0 0 0),(6,AV.ptr 1 0 0 0),(7,AV.ptr 2 0 0 0),(12,vi (N.vaE cs u0 v0 u1 v1 th gp sf)),(17,vb (N.vaE cs u0 v0 u1 v1 th gp sf != 0))],[⟨[ag [vi u0,vi v0,vi u1,vi v1,vi th,vi gp,AV.vec f 5 (List.map Bx.a cs),vi sf]],8,0,false,false⟩,⟨[(ZfL fx fy fz)],3,0,false,false⟩,⟨[(Zen tx ty tz)],3,0,false,false⟩],_,[],_⟩ (by kernel_rfl) (bc rfl b0) q0 (ce (@ev23 f cs u0 v0 u1 v1 th gp sf) c0) ?_
 rcases xq H with ⟨d2,H⟩|⟨d2,H⟩
 ·exact Zaj (G:=Zae kp12 [] []) 1000 [true] (tu [AV.vnil,vi (N.vaE cs u0 v0 u1 v1 th gp sf)]) (by kernel_rfl) (bc (Zam (i_ne.2 d2)) b0) q0 c0 H
 ·rcases xq H with ⟨d4,H⟩|⟨d4,H⟩
  ·exact Zaj (G:=Zae kp12 [] []) 1000 [false,true] (tu [AV.vnil,vi 1]) (by kernel_rfl) (bc (Zak (fun h=>d2 (i_ne.1 h))) (bc (Zam ((ZbP Zac Zac).2 d4)) b0)) q0 c0 H
  ·obtain ⟨b1,k5,H⟩:=H
   refine Zaf (G:=Zae kp12 [(6,14,.call (vb b1) none)] []) 10 [false,false] ⟨(atC (cd Tryz.f12) [1,1,1,0,1]),[(3,vi r),(4,vi pl),(5,AV.ptr 0 0 0 0),(6,AV.ptr 1 0 0 0),(7,AV.ptr 2 0 0 0),(39,vb b1)],[⟨[ag [vi u0,vi v0,vi u1,vi v1,vi th,vi gp,AV.vec f 5 (List.map Bx.a cs),vi sf]],8,0,false,false⟩,⟨[(ZfL fx fy fz)],3,0,false,false⟩,⟨[(Zen tx ty tz)],3,0,false,false⟩],_,[],_⟩ (by kernel_rfl) (bc (Zak (fun h=>d2 (i_ne.1 h))) (bc (Zak (fun h=>d4 ((ZbP Zac Zac).1 h))) (bc rfl (bc rfl (bc rfl (bc rfl (bc rfl (bc rfl b0)))))))) q0 (ce k5 c0) ?_
   rcases xq H with ⟨d7,H⟩|⟨d7,H⟩
   ·exact Zaj (G:=Zae kp12 [] []) 1000 [true] (asm:=[(b1)==true]) (tu [AV.vnil,vi 11]) (by kernel_rfl) (bc (Zam ((Zbu _).2 d7)) b0) q0 c0 H
   ·refine Zaf (G:=Zae kp12 [(10,1,.call ((Zc9 fx fy)) none),(10,3,.call ((ZbN tx ty)) none)] []) 8 [false] ⟨(atC (cd Tryz.f12) [1,1,1,1,1,0,0,1]),[(3,vi r),(4,vi pl),(5,AV.ptr 0 0 0 0),(6,AV.ptr 1 0 0 0),(7,AV.ptr 2 0 0 0),(13,AV.ptr 3 0 0 0),(46,vb !(fx==tx&&(fy==ty&&true)))],[⟨[ag [vi u0,vi v0,vi u1,vi v1,vi th,vi gp,AV.vec f 5 (List.map Bx.a cs),vi sf]],8,0,false,false⟩,⟨[(ZfL fx fy fz)],3,0,false,false⟩,⟨[(Zen tx ty tz)],3,0,false,false⟩,⟨[(ZcA fx fy fz)],4,0,false,false⟩],[(b1)==false,true,true,true,true],[],_⟩ (by kernel_rfl) (bc (Zak (fun h=>d7 ((Zbu _).1 h))) (bc rfl (bc rfl (bc rfl (bc rfl b0))))) q0 (ce (@ev25 fx fy fz) (ce (@ev25 tx ty tz) c0)) ?_
    rcases xq H with ⟨d9,H⟩|⟨d9,H⟩
    ·obtain ⟨k10,H⟩:=H
     rcases xq H with ⟨d11,H⟩|⟨d11,H⟩
     ·rcases xq H with ⟨d12,H⟩|⟨d12,H⟩
      ·rcases xq H with ⟨d13,H⟩|⟨d13,H⟩
       ·exact Zaj (G:=Zae kp12 [(11,2,.call ((Zc9 fx fy)) none),(11,4,.call ((ZbN tx ty)) none),(11,6,.call (vi (N.hgt cs fx fy tx ty r)) none),(11,12,.call (tu []) none),(12,1,.call ((ZbN tx ty)) none),(12,2,.call (tu []) (some [⟨[(ZcA fx fy fz)],4,0,false,false⟩,⟨[(ZbN tx ty)],2,0,false,false⟩])),(13,3,.call (tu []) none)] [(11,[1012])]) 1000 [true] (calls:=[⟨true,false,25,[(ZfL fx fy fz)],[],(Zc9 fx fy),[]⟩,⟨true,false,25,[(Zen tx ty tz)],[],(ZbN tx ty),[]⟩,⟨true,false,9,[ag [vi u0,vi v0,vi u1,vi v1,vi th,vi gp,AV.vec f 5 (List.map Bx.a cs),vi sf],(Zc9 fx fy),(ZbN tx ty),vi r],[],vi (N.hgt cs fx fy tx ty r),[]⟩,⟨true,true,26,[AV.ptr 0 0 0 0,vi (if tz>if fz>N.hgt cs fx fy tx ty r then fz else N.hgt cs fx fy tx ty r then tz else if fz>N.hgt cs fx fy tx ty r then fz else N.hgt cs fx fy tx ty r)],[⟨[(ZcA fx fy fz)],4,0,false,false⟩],tu [],[⟨[(ZcA fx fy fz)],4,0,false,false⟩]⟩,⟨true,false,25,[(Zen tx ty tz)],[],(ZbN tx ty),[]⟩,⟨true,true,27,[AV.ptr 0 0 0 0,(ZbN tx ty)],[⟨[(ZcA fx fy fz)],4,0,false,false⟩],tu [],[⟨[(ZcA fx fy fz)],4,0,false,false⟩,⟨[(ZbN tx ty)],2,0,false,false⟩]⟩,⟨true,true,28,[AV.ptr 0 0 0 0,vi tz,vi pl],[⟨[(ZcA fx fy fz)],4,0,false,false⟩],tu [],[⟨[(ZcA fx fy fz)],4,0,false,false⟩]⟩]) (tu [AV.vnil,vi 0]) (by kernel_rfl) (bc (Zam ((Zbq (Za4 i_eq (i_at i_eq))).2 d9)) (bc rfl (bc rfl (bc rfl (bc rfl (bc rfl (bc rfl (bc rfl (bc rfl b0))))))))) q0 (cc (fun _=>(@ev25 fx fy fz)) (cc (fun _=>(@ev25 tx ty tz)) (cc (fun _=>(@ev9 f cs u0 v0 u1 v1 th gp sf fx fy tx ty r k10)) (cc (fun _=>(@ZgV fx fy fz (if tz>if fz>N.hgt cs fx fy tx ty r then fz else N.hgt cs fx fy tx ty r then tz else if fz>N.hgt cs fx fy tx ty r then fz else N.hgt cs fx fy tx ty r) d11)) (cc (fun _=>(@ev25 tx ty tz)) (cc (fun _=>(@evo27_y fx fy fz tx ty d12)) (cc (fun _=>(@evo28_y fx fy fz tz pl d13)) c0))))))) H
       ·exact ZaB (G:=Zae kp12 [(11,2,.call ((Zc9 fx fy)) none),(11,4,.call ((ZbN tx ty)) none),(11,6,.call (vi (N.hgt cs fx fy tx ty r)) none),(11,12,.call (tu []) none),(12,1,.call ((ZbN tx ty)) none),(12,2,.call (tu []) (some [⟨[(ZcA fx fy fz)],4,0,false,false⟩,⟨[(ZbN tx ty)],2,0,false,false⟩])),(13,3,.call (tu []) (some [⟨[(zNqW14 fx fy tz fz pl)],4,0,false,false⟩,⟨List.map Mv.a (N.ds1 tz fx fy fz++N.ds2 tz pl fx fy fz),7,N.dvn tz pl fx fy fz,false,true⟩]))] [(11,[1012])]) 1000 [true] (k:=((atC (cd Tryz.f12) [1,1,1,1,1,1,1])).tail) (env':=[(10,AV.row 4 (N.dvn tz pl fx fy fz)),(11,vi 0)]) (L':=[⟨[ag [vi u0,vi v0,vi u1,vi v1,vi th,vi gp,AV.vec f 5 (List.map Bx.a cs),vi sf]],8,0,false,false⟩,⟨[(ZfL fx fy fz)],3,0,false,false⟩,⟨[(Zen tx ty tz)],3,0,false,false⟩,⟨[ag [vi fx,vi fy,vi (N.dz2 tz fz),AV.row 4 (N.dvn tz pl fx fy fz)]],4,0,false,false⟩,⟨List.map Mv.a (N.ds1 tz fx fy fz++N.ds2 tz pl fx fy fz),7,N.dvn tz pl fx fy fz,false,true⟩]) (asm:=[(!(fx==tx&&(fy==ty&&true)))==true,true,true,true,true,true,true,true,true]) (eqs:=[]) (calls:=[⟨true,false,25,[(ZfL fx fy fz)],[],(Zc9 fx fy),[]⟩,⟨true,false,25,[(Zen tx ty tz)],[],(ZbN tx ty),[]⟩,⟨true,false,9,[ag [vi u0,vi v0,vi u1,vi v1,vi th,vi gp,AV.vec f 5 (List.map Bx.a cs),vi sf],(Zc9 fx fy),(ZbN tx ty),vi r],[],vi (N.hgt cs fx fy tx ty r),[]⟩,⟨true,true,26,[AV.ptr 0 0 0 0,vi (if tz>if fz>N.hgt cs fx fy tx ty r then fz else N.hgt cs fx fy tx ty r then tz else if fz>N.hgt cs fx fy tx ty r then fz else N.hgt cs fx fy tx ty r)],[⟨[(ZcA fx fy fz)],4,0,false,false⟩],tu [],[⟨[(ZcA fx fy fz)],4,0,false,false⟩]⟩,⟨true,false,25,[(Zen tx ty tz)],[],(ZbN tx ty),[]⟩,⟨true,true,27,[AV.ptr 0 0 0 0,(ZbN tx ty)],[⟨[(ZcA fx fy fz)],4,0,false,false⟩],tu [],[⟨[(ZcA fx fy fz)],4,0,false,false⟩,⟨[(ZbN tx ty)],2,0,false,false⟩]⟩,⟨true,true,28,[AV.ptr 0 0 0 0,vi tz,vi pl],[⟨[(ZcA fx fy fz)],4,0,false,false⟩],tu [],[⟨[(zNqW14 fx fy tz fz pl)],4,0,false,false⟩,⟨List.map Mv.a (N.ds1 tz fx fy fz++N.ds2 tz pl fx fy fz),7,N.dvn tz pl fx fy fz,false,true⟩]⟩]) (tu [AV.row 4 (N.dvn tz pl fx fy fz),vi 0]) (by kernel_rfl) (by kernel_rfl) (Zaa (Zam ((Zbq (Za4 i_eq (i_at i_eq))).2 d9)) (Zaa rfl (Zaa rfl (Zaa rfl (Zaa rfl (Zaa rfl (Zaa rfl (Zaa rfl (Zaa rfl Zal))))))))) Zao (Zah (fun _=>(@ev25 fx fy fz)) (Zah (fun _=>(@ev25 tx ty tz)) (Zah (fun _=>(@ev9 f cs u0 v0 u1 v1 th gp sf fx fy tx ty r k10)) (Zah (fun _=>(@ZgV fx fy fz (if tz>if fz>N.hgt cs fx fy tx ty r then fz else N.hgt cs fx fy tx ty r then tz else if fz>N.hgt cs fx fy tx ty r then fz else N.hgt cs fx fy tx ty r) d11)) (Zah (fun _=>(@ev25 tx ty tz)) (Zah (fun _=>(@evo27_y fx fy fz tx ty d12)) (Zah (fun _=>(@evo28_n fx fy fz tz pl d13)) Zap))))))) (ZbI (d:=(tu [AV.vec false 7 (List.map Mv.a (N.ds1 tz fx fy fz++N.ds2 tz pl fx fy fz)),vi 0])) (bs:=[N.dvn tz pl fx fy fz==N.dvn tz pl fx fy fz]) (by kernel_rfl) (by kernel_rfl) (Zaa (beq_self_eq_true _) Zal) (by kernel_rfl) H)
      ·obtain ⟨k14,H⟩:=H
       exact ZaB (G:=Zae kp12 [(11,2,.call ((Zc9 fx fy)) none),(11,4,.call ((ZbN tx ty)) none),(11,6,.call (vi (N.hgt cs fx fy tx ty r)) none),(11,12,.call (tu []) none),(12,1,.call ((ZbN tx ty)) none),(12,2,.call (tu []) (some [⟨[ag [vi tx,vi ty,vi fz,AV.row 2 0]],4,0,false,false⟩,⟨[(ZbN tx ty)],2,0,false,false⟩,⟨List.map Mv.a (N.tol tx ty fz fx fy fz 0),7,0,false,true⟩])),(13,3,.call (tu []) (some [⟨[ag [vi tx,vi ty,vi (N.dz2 tz fz),AV.row 1 (0+(N.ds1 tz tx ty fz).length+(N.ds2 tz pl tx ty fz).length)]],4,0,false,false⟩,⟨List.map Mv.a (N.tol tx ty fz fx fy fz 0++N.ds1 tz tx ty fz++N.ds2 tz pl tx ty fz),7,0+(N.ds1 tz tx ty fz).length+(N.ds2 tz pl tx ty fz).length,false,true⟩]))] [(11,[1012])]) 1000 [true] (k:=((atC (cd Tryz.f12) [1,1,1,1,1,1,1])).tail) (env':=[(10,AV.row 4 (0+(N.ds1 tz tx ty fz).length+(N.ds2 tz pl tx ty fz).length)),(11,vi 0)]) (L':=[⟨[ag [vi u0,vi v0,vi u1,vi v1,vi th,vi gp,AV.vec f 5 (List.map Bx.a cs),vi sf]],8,0,false,false⟩,⟨[(ZfL fx fy fz)],3,0,false,false⟩,⟨[(Zen tx ty tz)],3,0,false,false⟩,⟨[ag [vi tx,vi ty,vi (N.dz2 tz fz),AV.row 4 (0+(N.ds1 tz tx ty fz).length+(N.ds2 tz pl tx ty fz).length)]],4,0,false,false⟩,⟨List.map Mv.a (N.tol tx ty fz fx fy fz 0++N.ds1 tz tx ty fz++N.ds2 tz pl tx ty fz),7,0+(N.ds1 tz tx ty fz).length+(N.ds2 tz pl tx ty fz).length,false,true⟩]) (asm:=[(!(fx==tx&&(fy==ty&&true)))==true,true,true,true,true,true,true,true,true]) (eqs:=[]) (calls:=[⟨true,false,25,[(ZfL fx fy fz)],[],(Zc9 fx fy),[]⟩,⟨true,false,25,[(Zen tx ty tz)],[],(ZbN tx ty),[]⟩,⟨true,false,9,[ag [vi u0,vi v0,vi u1,vi v1,vi th,vi gp,AV.vec f 5 (List.map Bx.a cs),vi sf],(Zc9 fx fy),(ZbN tx ty),vi r],[],vi (N.hgt cs fx fy tx ty r),[]⟩,⟨true,true,26,[AV.ptr 0 0 0 0,vi (if tz>if fz>N.hgt cs fx fy tx ty r then fz else N.hgt cs fx fy tx ty r then tz else if fz>N.hgt cs fx fy tx ty r then fz else N.hgt cs fx fy tx ty r)],[⟨[(ZcA fx fy fz)],4,0,false,false⟩],tu [],[⟨[(ZcA fx fy fz)],4,0,false,false⟩]⟩,⟨true,false,25,[(Zen tx ty tz)],[],(ZbN tx ty),[]⟩,⟨true,true,27,[AV.ptr 0 0 0 0,(ZbN tx ty)],[⟨[(ZcA fx fy fz)],4,0,false,false⟩],tu [],[⟨[ag [vi tx,vi ty,vi fz,AV.row 2 0]],4,0,false,false⟩,⟨[(ZbN tx ty)],2,0,false,false⟩,⟨List.map Mv.a (N.tol tx ty fz fx fy fz 0),7,0,false,true⟩]⟩,⟨true,true,28,[AV.ptr 0 0 0 0,vi tz,vi pl],[⟨[ag [vi tx,vi ty,vi fz,AV.row 1 0]],4,0,false,false⟩,⟨List.map Mv.a (N.tol tx ty fz fx fy fz 0),7,0,false,true⟩],tu [],[⟨[ag [vi tx,vi ty,vi (N.dz2 tz fz),AV.row 1 (0+(N.ds1 tz tx ty fz).length+(N.ds2 tz pl tx ty fz).length)]],4,0,false,false⟩,⟨List.map Mv.a (N.tol tx ty fz fx fy fz 0++N.ds1 tz tx ty fz++N.ds2 tz pl tx ty fz),7,0+(N.ds1 tz tx ty fz).length+(N.ds2 tz pl tx ty fz).length,false,true⟩]⟩]) (tu [AV.row 4 (0+(N.ds1 tz tx ty fz).length+(N.ds2 tz pl tx ty fz).length),vi 0]) (by kernel_rfl) (by kernel_rfl) (Zaa (Zam ((Zbq (Za4 i_eq (i_at i_eq))).2 d9)) (Zaa rfl (Zaa rfl (Zaa rfl (Zaa rfl (Zaa rfl (Zaa rfl (Zaa rfl (Zaa rfl Zal))))))))) Zao (Zah (fun _=>(@ev25 fx fy fz)) (Zah (fun _=>(@ev25 tx ty tz)) (Zah (fun _=>(@ev9 f cs u0 v0 u1 v1 th gp sf fx fy tx ty r k10)) (Zah (fun _=>(@ZgV fx fy fz (if tz>if fz>N.hgt cs fx fy tx ty r then fz else N.hgt cs fx fy tx ty r then tz else if fz>N.hgt cs fx fy tx ty r then fz else N.hgt cs fx fy tx ty r) d11)) (Zah (fun _=>(@ev25 tx ty tz)) (Zah (fun _=>(@evo27_n fx fy fz tx ty d12)) (Zah (fun _=>(@evo28 (N.tol tx ty fz fx fy fz 0) 0 tx ty fz tz pl k14)) Zap))))))) (ZbI (d:=(tu [AV.vec false 7 (List.map Mv.a (N.tol tx ty fz fx fy fz 0++N.ds1 tz tx ty fz++N.ds2 tz pl tx ty fz)),vi 0])) (bs:=[0+(N.ds1 tz tx ty fz).length+(N.ds2 tz pl tx ty fz).length==0+(N.ds1 tz tx ty fz).length+(N.ds2 tz pl tx ty fz).length]) (by kernel_rfl) (by kernel_rfl) (Zaa (beq_self_eq_true _) Zal) (by kernel_rfl) H)
     ·obtain ⟨k15,k16,H⟩:=H
      exact ZaB (G:=Zae kp12 [(11,2,.call ((Zc9 fx fy)) none),(11,4,.call ((ZbN tx ty)) none),(11,6,.call (vi (N.hgt cs fx fy tx ty r)) none),(11,12,.call (tu []) (some [⟨[(zNqW13 fx fy tz fz cs tx ty r)],4,0,false,false⟩,⟨List.map Mv.a (zNqW12 fx fy tz fz cs tx ty r),7,0,false,true⟩])),(12,1,.call ((ZbN tx ty)) none),(12,2,.call (tu []) (some [⟨[(zNqW11 tx ty tz fz cs fx fy r)],4,0,false,false⟩,⟨List.map Mv.a (zNqW4 fx fy tz fz cs tx ty r),7,0+(ZeF tx ty tz fz cs fx fy r).length,false,true⟩])),(13,3,.call (tu []) (some [⟨[(zNqW15 tx ty tz fz cs fx fy r pl)],4,0,false,false⟩,⟨List.map Mv.a (zNqW2 fx fy tz fz cs tx ty r pl),7,0+(ZeF tx ty tz fz cs fx fy r).length+(zNqW5 tz tx ty fz cs fx fy r).length+(zNqW6 tz pl tx ty fz cs fx fy r).length,false,true⟩]))] [(11,[12])]) 1000 [true] (k:=((atC (cd Tryz.f12) [1,1,1,1,1,1,1])).tail) (env':=[(10,AV.row 4 (0+(ZeF tx ty tz fz cs fx fy r).length+(zNqW5 tz tx ty fz cs fx fy r).length+(zNqW6 tz pl tx ty fz cs fx fy r).length)),(11,vi 0)]) (L':=[⟨[ag [vi u0,vi v0,vi u1,vi v1,vi th,vi gp,AV.vec f 5 (List.map Bx.a cs),vi sf]],8,0,false,false⟩,⟨[(ZfL fx fy fz)],3,0,false,false⟩,⟨[(Zen tx ty tz)],3,0,false,false⟩,⟨[ag [vi tx,vi ty,vi (N.dz2 tz (if tz>if fz>N.hgt cs fx fy tx ty r then fz else N.hgt cs fx fy tx ty r then tz else if fz>N.hgt cs fx fy tx ty r then fz else N.hgt cs fx fy tx ty r)),AV.row 4 (0+(ZeF tx ty tz fz cs fx fy r).length+(zNqW5 tz tx ty fz cs fx fy r).length+(zNqW6 tz pl tx ty fz cs fx fy r).length)]],4,0,false,false⟩,⟨List.map Mv.a (zNqW2 fx fy tz fz cs tx ty r pl),7,0+(ZeF tx ty tz fz cs fx fy r).length+(zNqW5 tz tx ty fz cs fx fy r).length+(zNqW6 tz pl tx ty fz cs fx fy r).length,false,true⟩]) (asm:=[(!(fx==tx&&(fy==ty&&true)))==true,true,true,true,true,true,true,true,true]) (eqs:=[]) (calls:=[⟨true,false,25,[(ZfL fx fy fz)],[],(Zc9 fx fy),[]⟩,⟨true,false,25,[(Zen tx ty tz)],[],(ZbN tx ty),[]⟩,⟨true,false,9,[ag [vi u0,vi v0,vi u1,vi v1,vi th,vi gp,AV.vec f 5 (List.map Bx.a cs),vi sf],(Zc9 fx fy),(ZbN tx ty),vi r],[],vi (N.hgt cs fx fy tx ty r),[]⟩,⟨true,true,26,[AV.ptr 0 0 0 0,vi (if tz>if fz>N.hgt cs fx fy tx ty r then fz else N.hgt cs fx fy tx ty r then tz else if fz>N.hgt cs fx fy tx ty r then fz else N.hgt cs fx fy tx ty r)],[⟨[(ZcA fx fy fz)],4,0,false,false⟩],tu [],[⟨[(zNqW13 fx fy tz fz cs tx ty r)],4,0,false,false⟩,⟨List.map Mv.a (zNqW12 fx fy tz fz cs tx ty r),7,0,false,true⟩]⟩,⟨true,false,25,[(Zen tx ty tz)],[],(ZbN tx ty),[]⟩,⟨true,true,27,[AV.ptr 0 0 0 0,(ZbN tx ty)],[⟨[(zNqW13 fx fy tz fz cs tx ty r)],4,0,false,false⟩,⟨List.map Mv.a (zNqW12 fx fy tz fz cs tx ty r),7,0,false,true⟩],tu [],[⟨[(zNqW11 tx ty tz fz cs fx fy r)],4,0,false,false⟩,⟨List.map Mv.a (zNqW4 fx fy tz fz cs tx ty r),7,0+(ZeF tx ty tz fz cs fx fy r).length,false,true⟩]⟩,⟨true,true,28,[AV.ptr 0 0 0 0,vi tz,vi pl],[⟨[(zNqW11 tx ty tz fz cs fx fy r)],4,0,false,false⟩,⟨List.map Mv.a (zNqW4 fx fy tz fz cs tx ty r),7,0+(ZeF tx ty tz fz cs fx fy r).length,false,true⟩],tu [],[⟨[(zNqW15 tx ty tz fz cs fx fy r pl)],4,0,false,false⟩,⟨List.map Mv.a (zNqW2 fx fy tz fz cs tx ty r pl),7,0+(ZeF tx ty tz fz cs fx fy r).length+(zNqW5 tz tx ty fz cs fx fy r).length+(zNqW6 tz pl tx ty fz cs fx fy r).length,false,true⟩]⟩]) (tu [AV.row 4 (0+(ZeF tx ty tz fz cs fx fy r).length+(zNqW5 tz tx ty fz cs fx fy r).length+(zNqW6 tz pl tx ty fz cs fx fy r).length),vi 0]) (by kernel_rfl) (by kernel_rfl) (Zaa (Zam ((Zbq (Za4 i_eq (i_at i_eq))).2 d9)) (Zaa rfl (Zaa rfl (Zaa rfl (Zaa rfl (Zaa rfl (Zaa rfl (Zaa rfl (Zaa rfl Zal))))))))) Zao (Zah (fun _=>(@ev25 fx fy fz)) (Zah (fun _=>(@ev25 tx ty tz)) (Zah (fun _=>(@ev9 f cs u0 v0 u1 v1 th gp sf fx fy tx ty r k10)) (Zah (fun _=>(@evo26_n fx fy fz (if tz>if fz>N.hgt cs fx fy tx ty r then fz else N.hgt cs fx fy tx ty r then tz else if fz>N.hgt cs fx fy tx ty r then fz else N.hgt cs fx fy tx ty r) d11)) (Zah (fun _=>(@ev25 tx ty tz)) (Zah (fun _=>(@evo27 (zNqW12 fx fy tz fz cs tx ty r) 0 fx fy (if tz>if fz>N.hgt cs fx fy tx ty r then fz else N.hgt cs fx fy tx ty r then tz else if fz>N.hgt cs fx fy tx ty r then fz else N.hgt cs fx fy tx ty r) tx ty k15)) (Zah (fun _=>(@evo28 (zNqW4 fx fy tz fz cs tx ty r) (0+(ZeF tx ty tz fz cs fx fy r).length) tx ty (if tz>if fz>N.hgt cs fx fy tx ty r then fz else N.hgt cs fx fy tx ty r then tz else if fz>N.hgt cs fx fy tx ty r then fz else N.hgt cs fx fy tx ty r) tz pl k16)) Zap))))))) (ZbI (d:=(tu [AV.vec false 7 (List.map Mv.a (zNqW2 fx fy tz fz cs tx ty r pl)),vi 0])) (bs:=[0+(ZeF tx ty tz fz cs fx fy r).length+(zNqW5 tz tx ty fz cs fx fy r).length+(zNqW6 tz pl tx ty fz cs fx fy r).length==0+(ZeF tx ty tz fz cs fx fy r).length+(zNqW5 tz tx ty fz cs fx fy r).length+(zNqW6 tz pl tx ty fz cs fx fy r).length]) (by kernel_rfl) (by kernel_rfl) (Zaa (beq_self_eq_true _) Zal) (by kernel_rfl) H)
    ·rcases xq H with ⟨d18,H⟩|⟨d18,H⟩
     ·rcases xq H with ⟨d19,H⟩|⟨d19,H⟩
      ·exact Zaj (G:=Zae kp12 [(15,2,.call (tu []) none)] []) 1000 [false,true] (calls:=[⟨true,true,26,[AV.ptr 0 0 0 0,vi tz],[⟨[(ZcA fx fy fz)],4,0,false,false⟩],tu [],[⟨[(ZcA fx fy fz)],4,0,false,false⟩]⟩]) (tu [AV.vnil,vi 0]) (by kernel_rfl) (bc (Zak (fun h=>d9 ((Zbq (Za4 i_eq (i_at i_eq))).1 h))) (bc rfl (bc rfl (bc (Zam (Zac.2 d18)) (bc rfl (bc rfl b0)))))) q0 (cc (fun _=>(@ZgV fx fy fz tz d19)) c0) H
      ·exact ZaB (G:=Zae kp12 [(15,2,.call (tu []) (some [⟨[ag [vi fx,vi fy,vi tz,AV.row 1 0]],4,0,false,false⟩,⟨List.map Mv.a (N.tol fx fy tz fx fy fz 0),7,0,false,true⟩]))] []) 1000 [false,true] (k:=((atC (cd Tryz.f12) [1,1,1,1,1,1,1])).tail) (env':=[(10,AV.row 4 0),(11,vi 0)]) (L':=[⟨[ag [vi u0,vi v0,vi u1,vi v1,vi th,vi gp,AV.vec f 5 (List.map Bx.a cs),vi sf]],8,0,false,false⟩,⟨[(ZfL fx fy fz)],3,0,false,false⟩,⟨[(Zen tx ty tz)],3,0,false,false⟩,⟨[ag [vi fx,vi fy,vi tz,AV.row 4 0]],4,0,false,false⟩,⟨List.map Mv.a (N.tol fx fy tz fx fy fz 0),7,0,false,true⟩]) (asm:=[(!(fx==tx&&(fy==ty&&true)))==false,true,true,(decide (tz>fz))==true,true,true]) (eqs:=[]) (calls:=[⟨true,true,26,[AV.ptr 0 0 0 0,vi tz],[⟨[(ZcA fx fy fz)],4,0,false,false⟩],tu [],[⟨[ag [vi fx,vi fy,vi tz,AV.row 1 0]],4,0,false,false⟩,⟨List.map Mv.a (N.tol fx fy tz fx fy fz 0),7,0,false,true⟩]⟩]) (tu [AV.row 4 0,vi 0]) (by kernel_rfl) (by kernel_rfl) (Zaa (Zak (fun h=>d9 ((Zbq (Za4 i_eq (i_at i_eq))).1 h))) (Zaa rfl (Zaa rfl (Zaa (Zam (Zac.2 d18)) (Zaa rfl (Zaa rfl Zal)))))) Zao (Zah (fun _=>(@evo26_n fx fy fz tz d19)) Zap) (ZbI (d:=(tu [AV.vec false 7 (List.map Mv.a (N.tol fx fy tz fx fy fz 0)),vi 0])) (bs:=[0==0]) (by kernel_rfl) (by kernel_rfl) (Zaa (beq_self_eq_true _) Zal) (by kernel_rfl) H)
     ·rcases xq H with ⟨d20,H⟩|⟨d20,H⟩
      ·exact Zaj (G:=Zae kp12 [(9,3,.call (tu []) none)] []) 1000 [false,false] (calls:=[⟨true,true,28,[AV.ptr 0 0 0 0,vi tz,vi pl],[⟨[(ZcA fx fy fz)],4,0,false,false⟩],tu [],[⟨[(ZcA fx fy fz)],4,0,false,false⟩]⟩]) (tu [AV.vnil,vi 0]) (by kernel_rfl) (bc (Zak (fun h=>d9 ((Zbq (Za4 i_eq (i_at i_eq))).1 h))) (bc rfl (bc rfl (bc (Zak (fun h=>d18 (Zac.1 h))) (bc rfl (bc rfl b0)))))) q0 (cc (fun _=>(@evo28_y fx fy fz tz pl d20)) c0) H
      ·exact ZaB (G:=Zae kp12 [(9,3,.call (tu []) (some [⟨[(zNqW14 fx fy tz fz pl)],4,0,false,false⟩,⟨List.map Mv.a (N.ds1 tz fx fy fz++N.ds2 tz pl fx fy fz),7,N.dvn tz pl fx fy fz,false,true⟩]))] []) 1000 [false,false] (k:=((atC (cd Tryz.f12) [1,1,1,1,1,1,1])).tail) (env':=[(10,AV.row 4 (N.dvn tz pl fx fy fz)),(11,vi 0)]) (L':=[⟨[ag [vi u0,vi v0,vi u1,vi v1,vi th,vi gp,AV.vec f 5 (List.map Bx.a cs),vi sf]],8,0,false,false⟩,⟨[(ZfL fx fy fz)],3,0,false,false⟩,⟨[(Zen tx ty tz)],3,0,false,false⟩,⟨[ag [vi fx,vi fy,vi (N.dz2 tz fz),AV.row 4 (N.dvn tz pl fx fy fz)]],4,0,false,false⟩,⟨List.map Mv.a (N.ds1 tz fx fy fz++N.ds2 tz pl fx fy fz),7,N.dvn tz pl fx fy fz,false,true⟩]) (asm:=[(!(fx==tx&&(fy==ty&&true)))==false,true,true,(decide (tz>fz))==false,true,true]) (eqs:=[]) (calls:=[⟨true,true,28,[AV.ptr 0 0 0 0,vi tz,vi pl],[⟨[(ZcA fx fy fz)],4,0,false,false⟩],tu [],[⟨[(zNqW14 fx fy tz fz pl)],4,0,false,false⟩,⟨List.map Mv.a (N.ds1 tz fx fy fz++N.ds2 tz pl fx fy fz),7,N.dvn tz pl fx fy fz,false,true⟩]⟩]) (tu [AV.row 4 (N.dvn tz pl fx fy fz),vi 0]) (by kernel_rfl) (by kernel_rfl) (Zaa (Zak (fun h=>d9 ((Zbq (Za4 i_eq (i_at i_eq))).1 h))) (Zaa rfl (Zaa rfl (Zaa (Zak (fun h=>d18 (Zac.1 h))) (Zaa rfl (Zaa rfl Zal)))))) Zao (Zah (fun _=>(@evo28_n fx fy fz tz pl d20)) Zap) (ZbI (d:=(tu [AV.vec false 7 (List.map Mv.a (N.ds1 tz fx fy fz++N.ds2 tz pl fx fy fz)),vi 0])) (bs:=[N.dvn tz pl fx fy fz==N.dvn tz pl fx fy fz]) (by kernel_rfl) (by kernel_rfl) (Zaa (beq_self_eq_true _) Zal) (by kernel_rfl) H)
end Go.Av

namespace Go.Av
open Go.Proofs
namespace N
def lnH (fz tz h:Int):Int:=if tz>if fz>h then fz else h then tz else if fz>h then fz else h
def upl (fx fy fz tx ty tz pl h:Int):List Mv:=tol fx fy h fx fy fz 0++tol tx ty h fx fy h 0++ds1 tz tx ty h++ds2 tz pl tx ty h
open Classical in
noncomputable def lnE (cs:List Bx) (u0 v0 u1 v1 th gp sf fx fy fz tx ty tz r pl:Int):Int:=
 if ¬vaP cs u0 v0 u1 v1 th gp sf then 1 else if r<0\/pl<=0 then 1 else if fr7 fx fy fz tx ty tz r then 11 else 0
noncomputable def lnM (cs:List Bx) (fx fy fz tx ty tz r pl:Int):List Mv:=
 if ¬(fx=tx/\fy=ty) then upl fx fy fz tx ty tz pl (lnH fz tz (hgt cs fx fy tx ty r)) else if tz>fz then tol fx fy tz fx fy fz 0 else ds1 tz fx fy fz++ds2 tz pl fx fy fz
noncomputable def lnP (cs:List Bx) (u0 v0 u1 v1 th gp sf fx fy fz tx ty tz r pl:Int):List Mv:=
 if lnE cs u0 v0 u1 v1 th gp sf fx fy fz tx ty tz r pl=0 then lnM cs fx fy fz tx ty tz r pl else []
end N
theorem weak_mn (k:Int):Weak (AV.tup [.vnil,.int .i64 k]) (.tup [.vec false 7 [],.int .i64 k]):=.tup _ _ rfl fun i x y hx hy=>by
 match i with
 | 0=>simp at hx hy;subst hx;subst hy;exact .vnil 7
 | 1=>simp at hx hy;subst hx;subst hy;exact .refl _
 | i+2=>simp at hx
theorem weak_m0 {k:Int} {l:List Mv} (h:l=[]):Weak (AV.tup [.vnil,.int .i64 k]) (.tup [.vec false 7 (l.map Mv.a),.int .i64 k]):=by
 subst h;exact weak_mn k
theorem ZdG {k:Int} {l m:List Mv} (h:l=m):Weak (AV.tup [.vec false 7 (l.map Mv.a),.int .i64 k]) (.tup [.vec false 7 (m.map Mv.a),.int .i64 k]):=by
 subst h;exact .refl _
section
variable {cs:List Bx} {u0 v0 u1 v1 th gp sf:Int}
theorem va_okH (h:N.vaP cs u0 v0 u1 v1 th gp sf) {ax ay bx by_ r:Int} (hc:(N.cc ax/\N.cc ay)/\(N.cc bx/\N.cc by_)/\N.cc r):N.okHg cs ax ay bx by_ r:=by
 obtain ⟨_,_,_,_,h5,h6⟩:=h
 refine ⟨⟨by omega,fun c hc => ?_,hc.1.1,hc.1.2,hc.2.1.1,hc.2.1.2,hc.2.2⟩,fun c hc => ?_⟩
 ·have:=(h6 c hc).1;unfold N.rct at this;unfold N.ccb N.cc;omega
 ·have:=(h6 c hc).2.1;unfold N.wth at this;omega
theorem ZfN:¬N.vaE cs u0 v0 u1 v1 th gp sf=0 ↔ ¬N.vaP cs u0 v0 u1 v1 th gp sf:=by
 constructor
 ·intro h k;exact h (va_y k)
 ·intro h k;rw [va_n h] at k;exact absurd k (by decide)
end
theorem sam_up {fx fy h fz:Int} (k:N.sam fx fy h fx fy fz):h=fz:=k.2.2
open Classical in
theorem ev12 (f:Bool) (cs:List Bx) (u0 v0 u1 v1 th gp sf fx fy fz tx ty tz r pl:Int) :
  Ev M1 (.pure 12 [.agg [.int .i64 u0,.int .i64 v0,.int .i64 u1,.int .i64 v1,.int .i64 th,.int .i64 gp,.vec f 5 (cs.map Bx.a),.int .i64 sf],.agg [.int .i64 fx,.int .i64 fy,.int .i64 fz],.agg [.int .i64 tx,.int .i64 ty,.int .i64 tz],.int .i64 r,.int .i64 pl])
   (.tup [.vec false 7 ((N.lnP cs u0 v0 u1 v1 th gp sf fx fy fz tx ty tz r pl).map Mv.a),.int .i64 (N.lnE cs u0 v0 u1 v1 th gp sf fx fy fz tx ty tz r pl)]) []:=by
 have E {k:Int} (h:N.lnE cs u0 v0 u1 v1 th gp sf fx fy fz tx ty tz r pl=k) (hk:k ≠ 0):Weak (AV.tup [.vnil,.int .i64 k]) (.tup [.vec false 7 ((N.lnP cs u0 v0 u1 v1 th gp sf fx fy fz tx ty tz r pl).map Mv.a),.int .i64 (N.lnE cs u0 v0 u1 v1 th gp sf fx fy fz tx ty tz r pl)]):=by
  rw [h];exact weak_m0 (by unfold N.lnP;rw [h,if_neg hk])
 refine call12 (qLk _ _ _ _ _ _ _ _ _ _ _ _ _ _ _ _ _ _ ⟨fun k1 => ?_,fun k1=>⟨fun k2=>E ?_ (by decide),fun k2=>⟨_,ev24_g true fx fy fz tx ty tz r,fun k3=>E ?_ (by decide),fun k3 => ?_⟩⟩⟩)
 ·rw [va_n (ZfN.1 k1)];exact E (by unfold N.lnE;rw [if_pos (ZfN.1 k1)]) (by decide)
 ·unfold N.lnE;rw [if_neg fun x=>k1 (ZfN.2 x),if_pos k2]
 ·unfold N.lnE;rw [if_neg fun x=>k1 (ZfN.2 x),if_neg k2,if_pos (dec_of k3)]
 ·have k3:¬N.fr7 fx fy fz tx ty tz r:=fun x=>k3 (dec_t x)
  have e0:N.lnE cs u0 v0 u1 v1 th gp sf fx fy fz tx ty tz r pl=0:=by unfold N.lnE;rw [if_neg fun x=>k1 (ZfN.2 x),if_neg k2,if_neg k3]
  have eP:N.lnP cs u0 v0 u1 v1 th gp sf fx fy fz tx ty tz r pl=N.lnM cs fx fy fz tx ty tz r pl:=by unfold N.lnP;rw [if_pos e0]
  rw [e0,eP]
  have v:N.vaP cs u0 v0 u1 v1 th gp sf:=Classical.not_not.1 fun x=>k1 (ZfN.2 x)
  refine ⟨fun k4 => ?_,fun k4 => ?_⟩
  ·have ok:N.okHg cs fx fy tx ty r:=va_okH v (by unfold N.fr7 N.fr4 N.fr1 at k3;unfold N.cc;omega)
   have eM:N.lnM cs fx fy fz tx ty tz r pl=N.upl fx fy fz tx ty tz pl (N.lnH fz tz (N.hgt cs fx fy tx ty r)):=by unfold N.lnM;rw [if_pos k4]
   rw [eM]
   have eH:N.lnH fz tz (N.hgt cs fx fy tx ty r)=if tz>if fz>N.hgt cs fx fy tx ty r then fz else N.hgt cs fx fy tx ty r then tz else if fz>N.hgt cs fx fy tx ty r then fz else N.hgt cs fx fy tx ty r:=rfl
   rw [<- eH]
   generalize N.lnH fz tz (N.hgt cs fx fy tx ty r)=H
   refine ⟨ok,fun s=>⟨fun t=>absurd ⟨t.1.symm,t.2.1.symm⟩ k4,fun t=>⟨Nat.le_trans (ZcR ..) (by omega),?_⟩⟩,fun s=>⟨Nat.le_trans (ZcR ..) (by omega),?_,?_⟩⟩
   ·refine ZdG ?_
    have e:=sam_up s
    subst e
    unfold N.upl;rw [tol_y s,List.nil_append]
   ·rw [List.length_append];exact Nat.le_trans (Nat.add_le_add (ZcR ..) (ZcR ..)) (by omega)
   ·exact ZdG rfl
  ·refine ⟨fun k5=>⟨fun s => ?_,fun s=>ZdG ?_⟩,fun k5=>⟨fun s=>weak_m0 ?_,fun s=>ZdG ?_⟩⟩
   ·have:=s.2.2;omega
   ·unfold N.lnM;rw [if_neg k4,if_pos k5]
   ·unfold N.lnM;rw [if_neg k4,if_neg k5]
    obtain ⟨e1,e2,_,_⟩:=dsD (pl:=pl) (px:=fx) (py:=fy) s.1 s.2
    rw [e1,e2];rfl
   ·unfold N.lnM;rw [if_neg k4,if_neg k5]
end Go.Av

namespace Go.Av
open Go.Proofs
set_option maxRecDepth 100000
def fi49:Fi:=⟨6,[.cell 2 87]⟩
def kp49:List (Nat × List Nat):=[(0,[1,2]),(1,[2])]
def fi66:Fi:=⟨31,[.tmp 4]⟩
def kp66:List (Nat × List Nat):=[(0,[2,3]),(1,[4])]
def fi67:Fi:=⟨10,[.cell 4 102]⟩
def kp67:List (Nat × List Nat):=[(0,[0,1,4]),(1,[4])]
def fi108:Fi:=⟨14,[.cell 4 87]⟩
def kp108:List (Nat × List Nat):=[(0,[2,3,4]),(1,[4,5]),(2,[4])]
def fi109:Fi:=⟨8,[.cell 4 87]⟩
def kp109:List (Nat × List Nat):=[(0,[2,3,4]),(1,[4])]
def fi121:Fi:=⟨8,[.cell 4 87]⟩
def kp121:List (Nat × List Nat):=[(0,[2,3,4]),(1,[4])]
def fi122:Fi:=⟨8,[.cell 4 87]⟩
def kp122:List (Nat × List Nat):=[(0,[2,3,4]),(1,[4])]
def qXadd_at (f1 f2 g1 g2:Bool) (r s:Rat) (Q:AV->Heap->Prop):Prop:=Wp M1 (.run fi122 (atC (cd Tryz.f122) []) [(0,ratA f1 f2 r),(1,ratA g1 g2 s)] []) Q
def qXsub_at (f1 f2 g1 g2:Bool) (r s:Rat) (Q:AV->Heap->Prop):Prop:=Wp M1 (.run fi121 (atC (cd Tryz.f121) []) [(0,ratA f1 f2 r),(1,ratA g1 g2 s)] []) Q
def qXmul_at (f1 f2 g1 g2:Bool) (r s:Rat) (Q:AV->Heap->Prop):Prop:=Wp M1 (.run fi109 (atC (cd Tryz.f109) []) [(0,ratA f1 f2 r),(1,ratA g1 g2 s)] []) Q
def qXov_at (f1 f2 g1 g2:Bool) (r s:Rat) (Q:AV->Heap->Prop):Prop:=Wp M1 (.run fi108 (atC (cd Tryz.f108) []) [(0,ratA f1 f2 r),(1,ratA g1 g2 s)] []) Q
def qXsq_at (f1 f2:Bool) (r:Rat) (Q:AV->Heap->Prop):Prop:=Wp M1 (.run fi49 (atC (cd Tryz.f49) []) [(0,ratA f1 f2 r)] []) Q
def qXvec_at (x y:Int) (Q:AV->Heap->Prop):Prop:=Wp M1 (.run fi67 (atC (cd Tryz.f67) []) [(0,.int .i64 x),(1,.int .i64 y)] []) Q
def qXin_at (x0 y0 x1 y1 tp x y:Int) (Q:AV->Heap->Prop):Prop:=Wp M1 (.run fi66 (atC (cd Tryz.f66) []) [(0,.agg [.int .i64 x0,.int .i64 y0,.int .i64 x1,.int .i64 y1,.int .i64 tp]),(1,.agg [.int .i64 x,.int .i64 y])] []) Q
theorem call49 {args:List AV} {d:AV} (h:wc M1 fi49 Tryz.f49 args d):Ev M1 (.pure 49 args) d []:=pcl _ _ (by kernel_rfl) h
theorem call66 {args:List AV} {d:AV} (h:wc M1 fi66 Tryz.f66 args d):Ev M1 (.pure 66 args) d []:=pcl _ _ (by kernel_rfl) h
theorem call67 {args:List AV} {d:AV} (h:wc M1 fi67 Tryz.f67 args d):Ev M1 (.pure 67 args) d []:=pcl _ _ (by kernel_rfl) h
theorem call108 {args:List AV} {d:AV} (h:wc M1 fi108 Tryz.f108 args d):Ev M1 (.pure 108 args) d []:=pcl _ _ (by kernel_rfl) h
theorem call109 {args:List AV} {d:AV} (h:wc M1 fi109 Tryz.f109 args d):Ev M1 (.pure 109 args) d []:=pcl _ _ (by kernel_rfl) h
theorem call121 {args:List AV} {d:AV} (h:wc M1 fi121 Tryz.f121 args d):Ev M1 (.pure 121 args) d []:=pcl _ _ (by kernel_rfl) h
theorem call122 {args:List AV} {d:AV} (h:wc M1 fi122 Tryz.f122 args d):Ev M1 (.pure 122 args) d []:=pcl _ _ (by kernel_rfl) h
theorem qXadd (f1 f2 g1 g2:Bool) (r s:Rat)  (dq:AV) (H :
  (N.okR r/\N.okR s) /\
  Weak (ratF (r+s)) dq) :
 qXadd_at f1 f2 g1 g2 r s (Zag dq):=by
 unfold qXadd_at
 obtain ⟨k1,H⟩:=H
 exact Zaj (G:=Zae kp122 [(1,2,.call (ratF (r+s)) none)] []) 1000 [] (ratF (r+s)) (by kernel_rfl) (bc rfl (bc rfl (bc rfl b0))) q0 (ce (@ev136 f1 f2 g1 g2 r s k1) c0) H
theorem qXsub (f1 f2 g1 g2:Bool) (r s:Rat)  (dq:AV) (H :
  (N.okR r/\N.okR s) /\
  Weak (ratF (r-s)) dq) :
 qXsub_at f1 f2 g1 g2 r s (Zag dq):=by
 unfold qXsub_at
 obtain ⟨k1,H⟩:=H
 exact Zaj (G:=Zae kp121 [(1,2,.call (ratF (r-s)) none)] []) 1000 [] (ratF (r-s)) (by kernel_rfl) (bc rfl (bc rfl (bc rfl b0))) q0 (ce (@ev135 f1 f2 g1 g2 r s k1) c0) H
theorem qXmul (f1 f2 g1 g2:Bool) (r s:Rat)  (dq:AV) (H :
  (N.okR r/\N.okR s) /\
  Weak (ratF (r*s)) dq) :
 qXmul_at f1 f2 g1 g2 r s (Zag dq):=by
 unfold qXmul_at
 obtain ⟨k1,H⟩:=H
 exact Zaj (G:=Zae kp109 [(1,2,.call (ratF (r*s)) none)] []) 1000 [] (ratF (r*s)) (by kernel_rfl) (bc rfl (bc rfl (bc rfl b0))) q0 (ce (@ev69 f1 f2 g1 g2 r s k1) c0) H
theorem qXov (f1 f2 g1 g2:Bool) (r s:Rat)  (dq:AV) (H :
  (N.okR r/\N.okR s/\s.num ≠ 0) /\
  Weak (ratF (r / s)) dq) :
 qXov_at f1 f2 g1 g2 r s (Zag dq):=by
 unfold qXov_at
 obtain ⟨k1,H⟩:=H
 exact Zaj (G:=Zae kp108 [(1,2,.call (tu [ratF (r / s),vi 0]) none)] []) 1000 [] (ratF (r / s)) (by kernel_rfl) (bc rfl (bc rfl (bc rfl (bc rfl (bc rfl b0))))) q0 (ce (@ev123 f1 f2 g1 g2 r s k1) c0) H
theorem qXsq (f1 f2:Bool) (r:Rat)  (dq:AV) (H :
  (N.okR r/\N.okR r) /\
  Weak (ratF (r*r)) dq) :
 qXsq_at f1 f2 r (Zag dq):=by
 unfold qXsq_at
 obtain ⟨k1,H⟩:=H
 exact Zaj (G:=Zae kp49 [(1,2,.call (ratF (r*r)) none)] []) 1000 [] (ratF (r*r)) (by kernel_rfl) (bc rfl (bc rfl (bc rfl b0))) q0 (ce (@ev69 f1 f2 f1 f2 r r k1) c0) H
theorem qXvec (x y:Int)  (dq:AV) (H :
  (N.inI x) /\
  (N.inI y) /\
  Weak (ag [vb (N.Zab (N.qi x).num),vf (us (N.Zad (N.qi x).num)),vb (N.Zab (↑(N.qi x).den:Int)),vf (us (N.Zad (↑(N.qi x).den:Int))),vb (N.Zab (N.qi y).num),vf (us (N.Zad (N.qi y).num)),vb (N.Zab (↑(N.qi y).den:Int)),vf (us (N.Zad (↑(N.qi y).den:Int)))]) dq) :
 qXvec_at x y (Zag dq):=by
 unfold qXvec_at
 obtain ⟨k1,k2,H⟩:=H
 exact Zaj (G:=Zae kp67 [(1,1,.call (ratF (N.qi x)) none),(1,3,.call (ratF (N.qi y)) none)] []) 1000 [] (ag [vb (N.Zab (N.qi x).num),vf (us (N.Zad (N.qi x).num)),vb (N.Zab (↑(N.qi x).den:Int)),vf (us (N.Zad (↑(N.qi x).den:Int))),vb (N.Zab (N.qi y).num),vf (us (N.Zad (N.qi y).num)),vb (N.Zab (↑(N.qi y).den:Int)),vf (us (N.Zad (↑(N.qi y).den:Int)))]) (by kernel_rfl) (bc rfl b0) q0 (ce (@ev50 x k1) (ce (@ev50 y k2) c0)) H
theorem qXin (x0 y0 x1 y1 tp x y:Int)  (dq:AV) (H :
  vb (bif bif bif decide (x0<=x) then decide (x<=x1) else false then decide (y0<=y) else false then decide (y<=y1) else false)=dq) :
 qXin_at x0 y0 x1 y1 tp x y (Zag dq):=by
 unfold qXin_at
 exact Zas (G:=Zae kp66 [] []) 1000 [] (asm:=[true,true,!(decide (x0<=x)==true&&true)||true,!(decide (x0<=x)==true&&true)||true,!((bif decide (x0<=x) then decide (x<=x1) else false)==true&&true)||true,!((bif decide (x0<=x) then decide (x<=x1) else false)==true&&true)||true,!((bif bif decide (x0<=x) then decide (x<=x1) else false then decide (y0<=y) else false)==true&&true)||true,!((bif bif decide (x0<=x) then decide (x<=x1) else false then decide (y0<=y) else false)==true&&true)||true]) (vb (bif bif bif decide (x0<=x) then decide (x<=x1) else false then decide (y0<=y) else false then decide (y<=y1) else false)) (by kernel_rfl) (bc rfl (bc rfl (bc (Bool.or_true _) (bc (Bool.or_true _) (bc (Bool.or_true _) (bc (Bool.or_true _) (bc (Bool.or_true _) (bc (Bool.or_true _) b0)))))))) q0 c0 H
end Go.Av

namespace Go.Av
open Go.Proofs
theorem ev122 (f1 f2 g1 g2:Bool) (r s:Rat) (h:N.okR r/\N.okR s):Ev M1 (.pure 122 [ratA f1 f2 r,ratA g1 g2 s]) (ratF (r+s)) []:=call122 (qXadd _ _ _ _ _ _ _ ⟨h,.refl _⟩)
theorem ev121 (f1 f2 g1 g2:Bool) (r s:Rat) (h:N.okR r/\N.okR s):Ev M1 (.pure 121 [ratA f1 f2 r,ratA g1 g2 s]) (ratF (r-s)) []:=call121 (qXsub _ _ _ _ _ _ _ ⟨h,.refl _⟩)
theorem ev109 (f1 f2 g1 g2:Bool) (r s:Rat) (h:N.okR r/\N.okR s):Ev M1 (.pure 109 [ratA f1 f2 r,ratA g1 g2 s]) (ratF (r*s)) []:=call109 (qXmul _ _ _ _ _ _ _ ⟨h,.refl _⟩)
theorem ev108 (f1 f2 g1 g2:Bool) (r s:Rat) (h:N.okR r/\N.okR s/\s.num ≠ 0):Ev M1 (.pure 108 [ratA f1 f2 r,ratA g1 g2 s]) (ratF (r / s)) []:=call108 (qXov _ _ _ _ _ _ _ ⟨h,.refl _⟩)
theorem ev49 (f1 f2:Bool) (r:Rat) (h:N.okR r):Ev M1 (.pure 49 [ratA f1 f2 r]) (ratF (r*r)) []:=call49 (qXsq _ _ _ _ ⟨⟨h,h⟩,.refl _⟩)
theorem ev67 (x y:Int) (h:N.ZgL x y):Ev M1 (.pure 67 [.int .i64 x,.int .i64 y]) (vecA false false false false (N.qi x) (N.qi y)) []:=call67 (qXvec _ _ _ ⟨h.1,h.2,.refl _⟩)
theorem ev66 (x0 y0 x1 y1 tp x y:Int):Ev M1 (.pure 66 [.agg [.int .i64 x0,.int .i64 y0,.int .i64 x1,.int .i64 y1,.int .i64 tp],.agg [.int .i64 x,.int .i64 y]]) (.bool (decide (N.hld x0 y0 x1 y1 x y))) []:=
 call66 (qXin _ _ _ _ _ _ _ _ (congrArg AV.bool (by rw [Za7,Za7,Za7];exact ZcW (by unfold N.hld;omega))))
end Go.Av

namespace Go.Av
open Go.Proofs
set_option maxRecDepth 100000
def fi105:Fi:=⟨16,[.cell 4 87]⟩
def kp105:List (Nat × List Nat):=[(0,[2,3,4]),(1,[4])]
def fi106:Fi:=⟨16,[.cell 4 102]⟩
def kp106:List (Nat × List Nat):=[(0,[2,3,4]),(1,[4])]
def fi107:Fi:=⟨16,[.cell 4 87]⟩
def kp107:List (Nat × List Nat):=[(0,[2,3,4]),(1,[4])]
def qXway_at (f1 f2 f3 f4 f5 f6 f7 f8:Bool) (x1 y1 x2 y2:Rat) (Q:AV->Heap->Prop):Prop:=Wp M1 (.run fi106 (atC (cd Tryz.f106) []) [(0,.agg [.bool (N.Zab x1.num),.vec f1 1 ((N.Zad x1.num).map (.int .u32)),.bool (N.Zab (x1.den:Int)),.vec f2 1 ((N.Zad (x1.den:Int)).map (.int .u32)),.bool (N.Zab y1.num),.vec f3 1 ((N.Zad y1.num).map (.int .u32)),.bool (N.Zab (y1.den:Int)),.vec f4 1 ((N.Zad (y1.den:Int)).map (.int .u32))]),(1,.agg [.bool (N.Zab x2.num),.vec f5 1 ((N.Zad x2.num).map (.int .u32)),.bool (N.Zab (x2.den:Int)),.vec f6 1 ((N.Zad (x2.den:Int)).map (.int .u32)),.bool (N.Zab y2.num),.vec f7 1 ((N.Zad y2.num).map (.int .u32)),.bool (N.Zab (y2.den:Int)),.vec f8 1 ((N.Zad (y2.den:Int)).map (.int .u32))])] []) Q
def qXdot_at (f1 f2 f3 f4 f5 f6 f7 f8:Bool) (x1 y1 x2 y2:Rat) (Q:AV->Heap->Prop):Prop:=Wp M1 (.run fi107 (atC (cd Tryz.f107) []) [(0,.agg [.bool (N.Zab x1.num),.vec f1 1 ((N.Zad x1.num).map (.int .u32)),.bool (N.Zab (x1.den:Int)),.vec f2 1 ((N.Zad (x1.den:Int)).map (.int .u32)),.bool (N.Zab y1.num),.vec f3 1 ((N.Zad y1.num).map (.int .u32)),.bool (N.Zab (y1.den:Int)),.vec f4 1 ((N.Zad (y1.den:Int)).map (.int .u32))]),(1,.agg [.bool (N.Zab x2.num),.vec f5 1 ((N.Zad x2.num).map (.int .u32)),.bool (N.Zab (x2.den:Int)),.vec f6 1 ((N.Zad (x2.den:Int)).map (.int .u32)),.bool (N.Zab y2.num),.vec f7 1 ((N.Zad y2.num).map (.int .u32)),.bool (N.Zab (y2.den:Int)),.vec f8 1 ((N.Zad (y2.den:Int)).map (.int .u32))])] []) Q
def qXcro_at (f1 f2 f3 f4 f5 f6 f7 f8:Bool) (x1 y1 x2 y2:Rat) (Q:AV->Heap->Prop):Prop:=Wp M1 (.run fi105 (atC (cd Tryz.f105) []) [(0,.agg [.bool (N.Zab x1.num),.vec f1 1 ((N.Zad x1.num).map (.int .u32)),.bool (N.Zab (x1.den:Int)),.vec f2 1 ((N.Zad (x1.den:Int)).map (.int .u32)),.bool (N.Zab y1.num),.vec f3 1 ((N.Zad y1.num).map (.int .u32)),.bool (N.Zab (y1.den:Int)),.vec f4 1 ((N.Zad (y1.den:Int)).map (.int .u32))]),(1,.agg [.bool (N.Zab x2.num),.vec f5 1 ((N.Zad x2.num).map (.int .u32)),.bool (N.Zab (x2.den:Int)),.vec f6 1 ((N.Zad (x2.den:Int)).map (.int .u32)),.bool (N.Zab y2.num),.vec f7 1 ((N.Zad y2.num).map (.int .u32)),.bool (N.Zab (y2.den:Int)),.vec f8 1 ((N.Zad (y2.den:Int)).map (.int .u32))])] []) Q
theorem call105 {args:List AV} {d:AV} (h:wc M1 fi105 Tryz.f105 args d):Ev M1 (.pure 105 args) d []:=pcl _ _ (by kernel_rfl) h
theorem call106 {args:List AV} {d:AV} (h:wc M1 fi106 Tryz.f106 args d):Ev M1 (.pure 106 args) d []:=pcl _ _ (by kernel_rfl) h
theorem call107 {args:List AV} {d:AV} (h:wc M1 fi107 Tryz.f107 args d):Ev M1 (.pure 107 args) d []:=pcl _ _ (by kernel_rfl) h
theorem qXway (f1 f2 f3 f4 f5 f6 f7 f8:Bool) (x1 y1 x2 y2:Rat)  (dq:AV) (H :
  (N.okR x2/\N.okR x1) /\
  (N.okR y2/\N.okR y1) /\
  Weak (ag [vb (N.Zab (x2-x1).num),vf (us (N.Zad (x2-x1).num)),vb (N.Zab (↑(x2-x1).den:Int)),vf (us (N.Zad (↑(x2-x1).den:Int))),vb (N.Zab (y2-y1).num),vf (us (N.Zad (y2-y1).num)),vb (N.Zab (↑(y2-y1).den:Int)),vf (us (N.Zad (↑(y2-y1).den:Int)))]) dq) :
 qXway_at f1 f2 f3 f4 f5 f6 f7 f8 x1 y1 x2 y2 (Zag dq):=by
 unfold qXway_at
 obtain ⟨k1,k2,H⟩:=H
 exact Zaj (G:=Zae kp106 [(1,4,.call (ratF (x2-x1)) none),(1,9,.call (ratF (y2-y1)) none)] []) 1000 [] (ag [vb (N.Zab (x2-x1).num),vf (us (N.Zad (x2-x1).num)),vb (N.Zab (↑(x2-x1).den:Int)),vf (us (N.Zad (↑(x2-x1).den:Int))),vb (N.Zab (y2-y1).num),vf (us (N.Zad (y2-y1).num)),vb (N.Zab (↑(y2-y1).den:Int)),vf (us (N.Zad (↑(y2-y1).den:Int)))]) (by kernel_rfl) (bc rfl (bc rfl (bc rfl (bc rfl (bc rfl b0))))) q0 (ce (@ev121 f5 f6 f1 f2 x2 x1 k1) (ce (@ev121 f7 f8 f3 f4 y2 y1 k2) c0)) H
theorem qXdot (f1 f2 f3 f4 f5 f6 f7 f8:Bool) (x1 y1 x2 y2:Rat)  (dq:AV) (H :
  (N.okR x1/\N.okR x2) /\
  (N.okR y1/\N.okR y2) /\
  (N.okR (x1*x2)/\N.okR (y1*y2)) /\
  Weak (ratF (x1*x2+y1*y2)) dq) :
 qXdot_at f1 f2 f3 f4 f5 f6 f7 f8 x1 y1 x2 y2 (Zag dq):=by
 unfold qXdot_at
 obtain ⟨k1,k2,k3,H⟩:=H
 exact Zaj (G:=Zae kp107 [(1,4,.call (ratF (x1*x2)) none),(1,9,.call (ratF (y1*y2)) none),(1,10,.call (ratF (x1*x2+y1*y2)) none)] []) 1000 [] (ratF (x1*x2+y1*y2)) (by kernel_rfl) (bc rfl (bc rfl (bc rfl (bc rfl (bc rfl b0))))) q0 (ce (@ev109 f1 f2 f5 f6 x1 x2 k1) (ce (@ev109 f3 f4 f7 f8 y1 y2 k2) (ce (@ev122 false false false false (x1*x2) (y1*y2) k3) c0))) H
theorem qXcro (f1 f2 f3 f4 f5 f6 f7 f8:Bool) (x1 y1 x2 y2:Rat)  (dq:AV) (H :
  (N.okR x1/\N.okR y2) /\
  (N.okR y1/\N.okR x2) /\
  (N.okR (x1*y2)/\N.okR (y1*x2)) /\
  Weak (ratF (x1*y2-y1*x2)) dq) :
 qXcro_at f1 f2 f3 f4 f5 f6 f7 f8 x1 y1 x2 y2 (Zag dq):=by
 unfold qXcro_at
 obtain ⟨k1,k2,k3,H⟩:=H
 exact Zaj (G:=Zae kp105 [(1,4,.call (ratF (x1*y2)) none),(1,9,.call (ratF (y1*x2)) none),(1,10,.call (ratF (x1*y2-y1*x2)) none)] []) 1000 [] (ratF (x1*y2-y1*x2)) (by kernel_rfl) (bc rfl (bc rfl (bc rfl (bc rfl (bc rfl b0))))) q0 (ce (@ev109 f1 f2 f7 f8 x1 y2 k1) (ce (@ev109 f3 f4 f5 f6 y1 x2 k2) (ce (@ev121 false false false false (x1*y2) (y1*x2) k3) c0))) H
end Go.Av

namespace Go.Av
open Go.Proofs
theorem ZgW (f1 f2 f3 f4 f5 f6 f7 f8:Bool) (x1 y1 x2 y2:Rat) (h:N.okW x1 y1 x2 y2):Ev M1 (.pure 106 [vecA f1 f2 f3 f4 x1 y1,vecA f5 f6 f7 f8 x2 y2]) (vecA false false false false (x2-x1) (y2-y1)) []:=by
 obtain ⟨⟨h1,h2⟩,h3,h4⟩:=h
 exact call106 (qXway _ _ _ _ _ _ _ _ _ _ _ _ _ ⟨⟨Za3 h3 (by omega),Za3 h1 (by omega)⟩,⟨Za3 h4 (by omega),Za3 h2 (by omega)⟩,.refl _⟩)
theorem ev107 (f1 f2 f3 f4 f5 f6 f7 f8:Bool) (x1 y1 x2 y2:Rat) (h:N.okD x1 y1 x2 y2):Ev M1 (.pure 107 [vecA f1 f2 f3 f4 x1 y1,vecA f5 f6 f7 f8 x2 y2]) (ratF (x1*x2+y1*y2)) []:=by
 obtain ⟨⟨h1,h2⟩,h3,h4⟩:=h
 exact call107 (qXdot _ _ _ _ _ _ _ _ _ _ _ _ _ ⟨⟨Za3 h1 (by omega),Za3 h3 (by omega)⟩,⟨Za3 h2 (by omega),Za3 h4 (by omega)⟩,⟨Za3 (ZbB h1 h3) (by omega),Za3 (ZbB h2 h4) (by omega)⟩,.refl _⟩)
theorem ev105 (f1 f2 f3 f4 f5 f6 f7 f8:Bool) (x1 y1 x2 y2:Rat) (h:N.okD x1 y1 x2 y2):Ev M1 (.pure 105 [vecA f1 f2 f3 f4 x1 y1,vecA f5 f6 f7 f8 x2 y2]) (ratF (x1*y2-y1*x2)) []:=by
 obtain ⟨⟨h1,h2⟩,h3,h4⟩:=h
 exact call105 (qXcro _ _ _ _ _ _ _ _ _ _ _ _ _ ⟨⟨Za3 h1 (by omega),Za3 h4 (by omega)⟩,⟨Za3 h2 (by omega),Za3 h3 (by omega)⟩,⟨Za3 (ZbB h1 h4) (by omega),Za3 (ZbB h2 h3) (by omega)⟩,.refl _⟩)
end Go.Av

namespace Go.Av
open Go.Proofs
set_option maxRecDepth 100000
def fi84:Fi:=⟨55,[.tmp 8]⟩
def kp84:List (Nat × List Nat):=[(0,[4,5,6,7]),(1,[4,5,6,7,9,10]),(2,[9,10,11,12]),(3,[8])]
def fi85:Fi:=⟨49,[.cell 6 87]⟩
def kp85:List (Nat × List Nat):=[(0,[3,4,5,6]),(1,[4,5,6,7,8]),(2,[4,5,6,7,8,9,10]),(3,[4,5,6,7,8,9,10,27]),(4,[6]),(5,[4,5,6,7,8,9,34]),(6,[6,11]),(7,[6]),(8,[6,9,12]),(9,[6])]
def qXtos_at (f1 f2 f3 f4 f5 f6 f7 f8 f9 f10 f11 f12:Bool) (x1 y1 x2 y2 x3 y3:Rat) (Q:AV->Heap->Prop):Prop:=Wp M1 (.run fi85 (atC (cd Tryz.f85) []) [(0,.agg [.bool (N.Zab x1.num),.vec f1 1 ((N.Zad x1.num).map (.int .u32)),.bool (N.Zab (x1.den:Int)),.vec f2 1 ((N.Zad (x1.den:Int)).map (.int .u32)),.bool (N.Zab y1.num),.vec f3 1 ((N.Zad y1.num).map (.int .u32)),.bool (N.Zab (y1.den:Int)),.vec f4 1 ((N.Zad (y1.den:Int)).map (.int .u32))]),(1,.agg [.bool (N.Zab x2.num),.vec f5 1 ((N.Zad x2.num).map (.int .u32)),.bool (N.Zab (x2.den:Int)),.vec f6 1 ((N.Zad (x2.den:Int)).map (.int .u32)),.bool (N.Zab y2.num),.vec f7 1 ((N.Zad y2.num).map (.int .u32)),.bool (N.Zab (y2.den:Int)),.vec f8 1 ((N.Zad (y2.den:Int)).map (.int .u32))]),(2,.agg [.bool (N.Zab x3.num),.vec f9 1 ((N.Zad x3.num).map (.int .u32)),.bool (N.Zab (x3.den:Int)),.vec f10 1 ((N.Zad (x3.den:Int)).map (.int .u32)),.bool (N.Zab y3.num),.vec f11 1 ((N.Zad y3.num).map (.int .u32)),.bool (N.Zab (y3.den:Int)),.vec f12 1 ((N.Zad (y3.den:Int)).map (.int .u32))])] []) Q
def qXcrs_at (f1 f2 f3 f4 f5 f6 f7 f8 f9 f10 f11 f12 f13 f14 f15 f16:Bool) (x1 y1 x2 y2 x3 y3 x4 y4:Rat) (Q:AV->Heap->Prop):Prop:=Wp M1 (.run fi84 (atC (cd Tryz.f84) []) [(0,.agg [.bool (N.Zab x1.num),.vec f1 1 ((N.Zad x1.num).map (.int .u32)),.bool (N.Zab (x1.den:Int)),.vec f2 1 ((N.Zad (x1.den:Int)).map (.int .u32)),.bool (N.Zab y1.num),.vec f3 1 ((N.Zad y1.num).map (.int .u32)),.bool (N.Zab (y1.den:Int)),.vec f4 1 ((N.Zad (y1.den:Int)).map (.int .u32))]),(1,.agg [.bool (N.Zab x2.num),.vec f5 1 ((N.Zad x2.num).map (.int .u32)),.bool (N.Zab (x2.den:Int)),.vec f6 1 ((N.Zad (x2.den:Int)).map (.int .u32)),.bool (N.Zab y2.num),.vec f7 1 ((N.Zad y2.num).map (.int .u32)),.bool (N.Zab (y2.den:Int)),.vec f8 1 ((N.Zad (y2.den:Int)).map (.int .u32))]),(2,.agg [.bool (N.Zab x3.num),.vec f9 1 ((N.Zad x3.num).map (.int .u32)),.bool (N.Zab (x3.den:Int)),.vec f10 1 ((N.Zad (x3.den:Int)).map (.int .u32)),.bool (N.Zab y3.num),.vec f11 1 ((N.Zad y3.num).map (.int .u32)),.bool (N.Zab (y3.den:Int)),.vec f12 1 ((N.Zad (y3.den:Int)).map (.int .u32))]),(3,.agg [.bool (N.Zab x4.num),.vec f13 1 ((N.Zad x4.num).map (.int .u32)),.bool (N.Zab (x4.den:Int)),.vec f14 1 ((N.Zad (x4.den:Int)).map (.int .u32)),.bool (N.Zab y4.num),.vec f15 1 ((N.Zad y4.num).map (.int .u32)),.bool (N.Zab (y4.den:Int)),.vec f16 1 ((N.Zad (y4.den:Int)).map (.int .u32))])] []) Q
theorem call84 {args:List AV} {d:AV} (h:wc M1 fi84 Tryz.f84 args d):Ev M1 (.pure 84 args) d []:=pcl _ _ (by kernel_rfl) h
theorem call85 {args:List AV} {d:AV} (h:wc M1 fi85 Tryz.f85 args d):Ev M1 (.pure 85 args) d []:=pcl _ _ (by kernel_rfl) h
noncomputable abbrev Zgd (x2:Rat) (x1:Rat) (y2:Rat) (y1:Rat):=ag [vb (N.Zab (x2-x1).num),vf (us (N.Zad (x2-x1).num)),vb (N.Zab (↑(x2-x1).den:Int)),vf (us (N.Zad (↑(x2-x1).den:Int))),vb (N.Zab (y2-y1).num),vf (us (N.Zad (y2-y1).num)),vb (N.Zab (↑(y2-y1).den:Int)),vf (us (N.Zad (↑(y2-y1).den:Int)))]
noncomputable abbrev zNrB2 (x3:Rat) (x1:Rat) (y3:Rat) (y1:Rat):=ag [vb (N.Zab (x3-x1).num),vf (us (N.Zad (x3-x1).num)),vb (N.Zab (↑(x3-x1).den:Int)),vf (us (N.Zad (↑(x3-x1).den:Int))),vb (N.Zab (y3-y1).num),vf (us (N.Zad (y3-y1).num)),vb (N.Zab (↑(y3-y1).den:Int)),vf (us (N.Zad (↑(y3-y1).den:Int)))]
noncomputable abbrev zNrB3 (x1:Rat) (f1:Bool) (f2:Bool) (y1:Rat) (f3:Bool) (f4:Bool):=ag [vb (N.Zab x1.num),AV.vec f1 1 (us (N.Zad x1.num)),vb (N.Zab (↑x1.den:Int)),AV.vec f2 1 (us (N.Zad (↑x1.den:Int))),vb (N.Zab y1.num),AV.vec f3 1 (us (N.Zad y1.num)),vb (N.Zab (↑y1.den:Int)),AV.vec f4 1 (us (N.Zad (↑y1.den:Int)))]
noncomputable abbrev zNrB4 (x2:Rat) (f5:Bool) (f6:Bool) (y2:Rat) (f7:Bool) (f8:Bool):=ag [vb (N.Zab x2.num),AV.vec f5 1 (us (N.Zad x2.num)),vb (N.Zab (↑x2.den:Int)),AV.vec f6 1 (us (N.Zad (↑x2.den:Int))),vb (N.Zab y2.num),AV.vec f7 1 (us (N.Zad y2.num)),vb (N.Zab (↑y2.den:Int)),AV.vec f8 1 (us (N.Zad (↑y2.den:Int)))]
noncomputable abbrev zNrB5 (x3:Rat) (f9:Bool) (f10:Bool) (y3:Rat) (f11:Bool) (f12:Bool):=ag [vb (N.Zab x3.num),AV.vec f9 1 (us (N.Zad x3.num)),vb (N.Zab (↑x3.den:Int)),AV.vec f10 1 (us (N.Zad (↑x3.den:Int))),vb (N.Zab y3.num),AV.vec f11 1 (us (N.Zad y3.num)),vb (N.Zab (↑y3.den:Int)),AV.vec f12 1 (us (N.Zad (↑y3.den:Int)))]
noncomputable abbrev zNrB6:=ag [vb false,AV.vnil,vb false,AV.vnil]
noncomputable abbrev zNrB7 (x2:Rat) (x1:Rat) (x3:Rat) (y2:Rat) (y1:Rat) (y3:Rat):=N.sgnI (((x2-x1)*(x3-x1)+(y2-y1)*(y3-y1)).num*(↑((x2-x1)*(x2-x1)+(y2-y1)*(y2-y1)).den:Int)-((x2-x1)*(x2-x1)+(y2-y1)*(y2-y1)).num*(↑((x2-x1)*(x3-x1)+(y2-y1)*(y3-y1)).den:Int))>=0
theorem qXtos (f1 f2 f3 f4 f5 f6 f7 f8 f9 f10 f11 f12:Bool) (x1 y1 x2 y2 x3 y3:Rat)  (dq:AV) (H :
  (N.okW x1 y1 x2 y2) /\
  (N.okW x1 y1 x3 y3) /\
  (N.okD (x2-x1) (y2-y1) (x2-x1) (y2-y1)) /\
  (N.okD (x2-x1) (y2-y1) (x3-x1) (y3-y1)) /\
  ((N.sgnI ((x2-x1)*(x3-x1)+(y2-y1)*(y3-y1)).num<=0)->(N.okD (x3-x1) (y3-y1) (x3-x1) (y3-y1)) /\
   Weak (ratF ((x3-x1)*(x3-x1)+(y3-y1)*(y3-y1))) dq) /\
  (¬(N.sgnI ((x2-x1)*(x3-x1)+(y2-y1)*(y3-y1)).num<=0)->(N.okR ((x2-x1)*(x3-x1)+(y2-y1)*(y3-y1))/\N.okR ((x2-x1)*(x2-x1)+(y2-y1)*(y2-y1))) /\
   ((N.sgnI (((x2-x1)*(x3-x1)+(y2-y1)*(y3-y1)).num*(↑((x2-x1)*(x2-x1)+(y2-y1)*(y2-y1)).den:Int)-((x2-x1)*(x2-x1)+(y2-y1)*(y2-y1)).num*(↑((x2-x1)*(x3-x1)+(y2-y1)*(y3-y1)).den:Int))>=0)->(N.okW x2 y2 x3 y3) /\
    (N.okD (x3-x2) (y3-y2) (x3-x2) (y3-y2)) /\
    Weak (ratF ((x3-x2)*(x3-x2)+(y3-y2)*(y3-y2))) dq) /\
   (¬(N.sgnI (((x2-x1)*(x3-x1)+(y2-y1)*(y3-y1)).num*(↑((x2-x1)*(x2-x1)+(y2-y1)*(y2-y1)).den:Int)-((x2-x1)*(x2-x1)+(y2-y1)*(y2-y1)).num*(↑((x2-x1)*(x3-x1)+(y2-y1)*(y3-y1)).den:Int))>=0)->(N.okR ((x2-x1)*(y3-y1)-(y2-y1)*(x3-x1))/\N.okR ((x2-x1)*(y3-y1)-(y2-y1)*(x3-x1))) /\
    (N.okR (((x2-x1)*(y3-y1)-(y2-y1)*(x3-x1))*((x2-x1)*(y3-y1)-(y2-y1)*(x3-x1)))/\N.okR ((x2-x1)*(x2-x1)+(y2-y1)*(y2-y1))/\((x2-x1)*(x2-x1)+(y2-y1)*(y2-y1)).num ≠ 0) /\
    Weak (ratF (((x2-x1)*(y3-y1)-(y2-y1)*(x3-x1))*((x2-x1)*(y3-y1)-(y2-y1)*(x3-x1)) / ((x2-x1)*(x2-x1)+(y2-y1)*(y2-y1)))) dq))) :
 qXtos_at f1 f2 f3 f4 f5 f6 f7 f8 f9 f10 f11 f12 x1 y1 x2 y2 x3 y3 (Zag dq):=by
 unfold qXtos_at
 obtain ⟨k1,k2,H⟩:=H
 refine Zaf (G:=Zae kp85 [(1,2,.call ((Zgd x2 x1 y2 y1)) none),(1,5,.call ((zNrB2 x3 x1 y3 y1)) none)] []) 3 [] ⟨(atC (cd Tryz.f85) [1,0]),[(3,AV.ptr 0 0 0 0),(4,AV.ptr 1 0 0 0),(5,AV.ptr 2 0 0 0),(6,AV.ptr 3 0 0 0)],[⟨[(zNrB3 x1 f1 f2 y1 f3 f4)],8,0,false,false⟩,⟨[(zNrB4 x2 f5 f6 y2 f7 f8)],8,0,false,false⟩,⟨[(zNrB5 x3 f9 f10 y3 f11 f12)],8,0,false,false⟩,⟨[zNrB6],4,0,false,false⟩],_,[],_⟩ (by kernel_rfl) b0 q0 c0 (Zdk (G:=Zae kp85 [(1,2,.call ((Zgd x2 x1 y2 y1)) none),(1,5,.call ((zNrB2 x3 x1 y3 y1)) none)] []) [0,1,2,3,5,4] 6 (e1:=[(4,AV.ptr 1 0 0 0),(5,AV.ptr 2 0 0 0),(6,AV.ptr 3 0 0 0),(7,AV.ptr 4 0 0 0),(8,AV.ptr 5 0 0 0)]) (L1:=[⟨[(zNrB3 x1 f1 f2 y1 f3 f4)],8,0,false,false⟩,⟨[(zNrB4 x2 f5 f6 y2 f7 f8)],8,0,false,false⟩,⟨[(zNrB5 x3 f9 f10 y3 f11 f12)],8,0,false,false⟩,⟨[zNrB6],4,0,false,false⟩,⟨[(Zgd x2 x1 y2 y1)],8,0,false,false⟩,⟨[(zNrB2 x3 x1 y3 y1)],8,0,false,false⟩]) (a:=[true,true,true,true,true,true]) (q:=[]) (cs:=[⟨true,false,106,[(zNrB3 x1 f1 f2 y1 f3 f4),(zNrB4 x2 f5 f6 y2 f7 f8)],[],(Zgd x2 x1 y2 y1),[]⟩,⟨true,false,106,[(zNrB3 x1 f1 f2 y1 f3 f4),(zNrB5 x3 f9 f10 y3 f11 f12)],[],(zNrB2 x3 x1 y3 y1),[]⟩]) (by kernel_rfl) (by kernel_rfl) (Zaa rfl (Zaa rfl (Zaa rfl (Zaa rfl (Zaa rfl (Zaa rfl Zal)))))) Zao (Zah (fun _=>(@ZgW f1 f2 f3 f4 f5 f6 f7 f8 x1 y1 x2 y2 k1)) (Zah (fun _=>(@ZgW f1 f2 f3 f4 f9 f10 f11 f12 x1 y1 x3 y3 k2)) Zap)) ?_)
 obtain ⟨k3,k4,H⟩:=H
 refine Zaf (G:=Zae kp85 [(2,2,.call (ratF ((x2-x1)*(x2-x1)+(y2-y1)*(y2-y1))) none),(2,5,.call (ratF ((x2-x1)*(x3-x1)+(y2-y1)*(y3-y1))) none)] []) 1 [] ⟨(atC (cd Tryz.f85) [1,1,0]),[(4,AV.ptr 1 0 0 0),(5,AV.ptr 2 0 0 0),(6,AV.ptr 3 0 0 0),(7,AV.ptr 4 0 0 0),(8,AV.ptr 5 0 0 0)],[⟨[(zNrB3 x1 f1 f2 y1 f3 f4)],8,0,false,false⟩,⟨[(zNrB4 x2 f5 f6 y2 f7 f8)],8,0,false,false⟩,⟨[(zNrB5 x3 f9 f10 y3 f11 f12)],8,0,false,false⟩,⟨[zNrB6],4,0,false,false⟩,⟨[(Zgd x2 x1 y2 y1)],8,0,false,false⟩,⟨[(zNrB2 x3 x1 y3 y1)],8,0,false,false⟩],_,[],_⟩ (by kernel_rfl) b0 q0 c0 (Zdk (G:=Zae kp85 [(2,2,.call (ratF ((x2-x1)*(x2-x1)+(y2-y1)*(y2-y1))) none),(2,5,.call (ratF ((x2-x1)*(x3-x1)+(y2-y1)*(y3-y1))) none)] []) [0,1,2,3,4,5,7,6] 6 (e1:=[(4,AV.ptr 1 0 0 0),(5,AV.ptr 2 0 0 0),(6,AV.ptr 3 0 0 0),(7,AV.ptr 4 0 0 0),(8,AV.ptr 5 0 0 0),(9,AV.ptr 6 0 0 0),(10,AV.ptr 7 0 0 0)]) (L1:=[⟨[(zNrB3 x1 f1 f2 y1 f3 f4)],8,0,false,false⟩,⟨[(zNrB4 x2 f5 f6 y2 f7 f8)],8,0,false,false⟩,⟨[(zNrB5 x3 f9 f10 y3 f11 f12)],8,0,false,false⟩,⟨[zNrB6],4,0,false,false⟩,⟨[(Zgd x2 x1 y2 y1)],8,0,false,false⟩,⟨[(zNrB2 x3 x1 y3 y1)],8,0,false,false⟩,⟨[ratF ((x2-x1)*(x2-x1)+(y2-y1)*(y2-y1))],4,0,false,false⟩,⟨[ratF ((x2-x1)*(x3-x1)+(y2-y1)*(y3-y1))],4,0,false,false⟩]) (a:=[true,true,true,true,true,true]) (q:=[]) (cs:=[⟨true,false,107,[(Zgd x2 x1 y2 y1),(Zgd x2 x1 y2 y1)],[],ratF ((x2-x1)*(x2-x1)+(y2-y1)*(y2-y1)),[]⟩,⟨true,false,107,[(Zgd x2 x1 y2 y1),(zNrB2 x3 x1 y3 y1)],[],ratF ((x2-x1)*(x3-x1)+(y2-y1)*(y3-y1)),[]⟩]) (by kernel_rfl) (by kernel_rfl) (Zaa rfl (Zaa rfl (Zaa rfl (Zaa rfl (Zaa rfl (Zaa rfl Zal)))))) Zao (Zah (fun _=>(@ev107 false false false false false false false false (x2-x1) (y2-y1) (x2-x1) (y2-y1) k3)) (Zah (fun _=>(@ev107 false false false false false false false false (x2-x1) (y2-y1) (x3-x1) (y3-y1) k4)) Zap)) ?_)
 refine Zaf (G:=Zae kp85 [(3,1,.call (vi (N.sgnI ((x2-x1)*(x3-x1)+(y2-y1)*(y3-y1)).num)) none)] []) 3 [] ⟨(atC (cd Tryz.f85) [1,1,1,0,1]),[(4,AV.ptr 1 0 0 0),(5,AV.ptr 2 0 0 0),(6,AV.ptr 3 0 0 0),(7,AV.ptr 4 0 0 0),(8,AV.ptr 5 0 0 0),(9,AV.ptr 6 0 0 0),(10,AV.ptr 7 0 0 0),(27,vb (decide (N.sgnI ((x2-x1)*(x3-x1)+(y2-y1)*(y3-y1)).num<=0)))],[⟨[(zNrB3 x1 f1 f2 y1 f3 f4)],8,0,false,false⟩,⟨[(zNrB4 x2 f5 f6 y2 f7 f8)],8,0,false,false⟩,⟨[(zNrB5 x3 f9 f10 y3 f11 f12)],8,0,false,false⟩,⟨[zNrB6],4,0,false,false⟩,⟨[(Zgd x2 x1 y2 y1)],8,0,false,false⟩,⟨[(zNrB2 x3 x1 y3 y1)],8,0,false,false⟩,⟨[ratF ((x2-x1)*(x2-x1)+(y2-y1)*(y2-y1))],4,0,false,false⟩,⟨[ratF ((x2-x1)*(x3-x1)+(y2-y1)*(y3-y1))],4,0,false,false⟩],_,[],_⟩ (by kernel_rfl) (bc rfl b0) q0 (ce (@ev104 false false (((x2-x1)*(x3-x1)+(y2-y1)*(y3-y1)).num) ((↑((x2-x1)*(x3-x1)+(y2-y1)*(y3-y1)).den:Int))) c0) ?_
 rcases xq H with ⟨d6,H⟩|⟨d6,H⟩
 ·obtain ⟨k7,H⟩:=H
  exact Zaj (G:=Zae kp85 [(4,2,.call (ratF ((x3-x1)*(x3-x1)+(y3-y1)*(y3-y1))) none)] []) 1000 [true] (ratF ((x3-x1)*(x3-x1)+(y3-y1)*(y3-y1))) (by kernel_rfl) (bc (Zam (Zac.2 d6)) (bc rfl (bc rfl (bc rfl b0)))) q0 (ce (@ev107 false false false false false false false false (x3-x1) (y3-y1) (x3-x1) (y3-y1) k7) c0) H
 ·obtain ⟨k8,H⟩:=H
  refine Zaf (G:=Zae kp85 [(5,2,.call (vi (N.sgnI (((x2-x1)*(x3-x1)+(y2-y1)*(y3-y1)).num*(↑((x2-x1)*(x2-x1)+(y2-y1)*(y2-y1)).den:Int)-((x2-x1)*(x2-x1)+(y2-y1)*(y2-y1)).num*(↑((x2-x1)*(x3-x1)+(y2-y1)*(y3-y1)).den:Int)))) none)] []) 5 [false] ⟨(atC (cd Tryz.f85) [1,1,1,1,0,1]),[(4,AV.ptr 1 0 0 0),(5,AV.ptr 2 0 0 0),(6,AV.ptr 3 0 0 0),(7,AV.ptr 4 0 0 0),(8,AV.ptr 5 0 0 0),(9,AV.ptr 6 0 0 0),(34,vb (decide (zNrB7 x2 x1 x3 y2 y1 y3)))],[⟨[(zNrB3 x1 f1 f2 y1 f3 f4)],8,0,false,false⟩,⟨[(zNrB4 x2 f5 f6 y2 f7 f8)],8,0,false,false⟩,⟨[(zNrB5 x3 f9 f10 y3 f11 f12)],8,0,false,false⟩,⟨[zNrB6],4,0,false,false⟩,⟨[(Zgd x2 x1 y2 y1)],8,0,false,false⟩,⟨[(zNrB2 x3 x1 y3 y1)],8,0,false,false⟩,⟨[ratF ((x2-x1)*(x2-x1)+(y2-y1)*(y2-y1))],4,0,false,false⟩,⟨[ratF ((x2-x1)*(x3-x1)+(y2-y1)*(y3-y1))],4,0,false,false⟩],_,[],_⟩ (by kernel_rfl) (bc (Zak (fun h=>d6 (Zac.1 h))) (bc rfl (bc rfl b0))) q0 (ce (@ev47 false false false false ((x2-x1)*(x3-x1)+(y2-y1)*(y3-y1)) ((x2-x1)*(x2-x1)+(y2-y1)*(y2-y1)) k8) c0) ?_
  rcases xq H with ⟨d10,H⟩|⟨d10,H⟩
  ·obtain ⟨k11,k12,H⟩:=H
   exact Zaj (G:=Zae kp85 [(6,2,.call (ag [vb (N.Zab (x3-x2).num),vf (us (N.Zad (x3-x2).num)),vb (N.Zab (↑(x3-x2).den:Int)),vf (us (N.Zad (↑(x3-x2).den:Int))),vb (N.Zab (y3-y2).num),vf (us (N.Zad (y3-y2).num)),vb (N.Zab (↑(y3-y2).den:Int)),vf (us (N.Zad (↑(y3-y2).den:Int)))]) none),(7,2,.call (ratF ((x3-x2)*(x3-x2)+(y3-y2)*(y3-y2))) none)] []) 1000 [true] (ratF ((x3-x2)*(x3-x2)+(y3-y2)*(y3-y2))) (by kernel_rfl) (bc (Zam (Zac.2 d10)) (bc rfl (bc rfl (bc rfl (bc rfl (bc rfl (bc rfl b0))))))) q0 (ce (@ZgW f5 f6 f7 f8 f9 f10 f11 f12 x2 y2 x3 y3 k11) (ce (@ev107 false false false false false false false false (x3-x2) (y3-y2) (x3-x2) (y3-y2) k12) c0)) H
  ·obtain ⟨k13,k14,H⟩:=H
   exact Zaj (G:=Zae kp85 [(8,2,.call (ratF ((x2-x1)*(y3-y1)-(y2-y1)*(x3-x1))) none),(9,2,.call (ratF (((x2-x1)*(y3-y1)-(y2-y1)*(x3-x1))*((x2-x1)*(y3-y1)-(y2-y1)*(x3-x1)))) none),(9,4,.call (ratF (((x2-x1)*(y3-y1)-(y2-y1)*(x3-x1))*((x2-x1)*(y3-y1)-(y2-y1)*(x3-x1)) / ((x2-x1)*(x2-x1)+(y2-y1)*(y2-y1)))) none)] []) 1000 [false] (ratF (((x2-x1)*(y3-y1)-(y2-y1)*(x3-x1))*((x2-x1)*(y3-y1)-(y2-y1)*(x3-x1)) / ((x2-x1)*(x2-x1)+(y2-y1)*(y2-y1)))) (by kernel_rfl) (bc (Zak (fun h=>d10 (Zac.1 h))) (bc rfl (bc rfl (bc rfl (bc rfl (bc rfl (bc rfl (bc rfl b0)))))))) q0 (ce (@ev105 false false false false false false false false (x2-x1) (y2-y1) (x3-x1) (y3-y1) k4) (ce (@ev109 false false false false ((x2-x1)*(y3-y1)-(y2-y1)*(x3-x1)) ((x2-x1)*(y3-y1)-(y2-y1)*(x3-x1)) k13) (ce (@ev108 false false false false (((x2-x1)*(y3-y1)-(y2-y1)*(x3-x1))*((x2-x1)*(y3-y1)-(y2-y1)*(x3-x1))) ((x2-x1)*(x2-x1)+(y2-y1)*(y2-y1)) k14) c0))) H
noncomputable abbrev zNrB8 (x2:Rat) (x1:Rat) (y2:Rat) (y1:Rat):=ag [vb (N.Zab (x2-x1).num),vf (us (N.Zad (x2-x1).num)),vb (N.Zab (↑(x2-x1).den:Int)),vf (us (N.Zad (↑(x2-x1).den:Int))),vb (N.Zab (y2-y1).num),vf (us (N.Zad (y2-y1).num)),vb (N.Zab (↑(y2-y1).den:Int)),vf (us (N.Zad (↑(y2-y1).den:Int)))]
noncomputable abbrev zNrB9 (x4:Rat) (x3:Rat) (y4:Rat) (y3:Rat):=ag [vb (N.Zab (x4-x3).num),vf (us (N.Zad (x4-x3).num)),vb (N.Zab (↑(x4-x3).den:Int)),vf (us (N.Zad (↑(x4-x3).den:Int))),vb (N.Zab (y4-y3).num),vf (us (N.Zad (y4-y3).num)),vb (N.Zab (↑(y4-y3).den:Int)),vf (us (N.Zad (↑(y4-y3).den:Int)))]
theorem qXcrs (f1 f2 f3 f4 f5 f6 f7 f8 f9 f10 f11 f12 f13 f14 f15 f16:Bool) (x1 y1 x2 y2 x3 y3 x4 y4:Rat)  (dq:AV) (H :
  (N.okW x1 y1 x2 y2) /\
  (N.okW x1 y1 x3 y3) /\
  (N.okD (x2-x1) (y2-y1) (x3-x1) (y3-y1)) /\
  (N.okW x1 y1 x4 y4) /\
  (N.okD (x2-x1) (y2-y1) (x4-x1) (y4-y1)) /\
  (N.okW x3 y3 x4 y4) /\
  (N.okW x3 y3 x1 y1) /\
  (N.okD (x4-x3) (y4-y3) (x1-x3) (y1-y3)) /\
  (N.okW x3 y3 x2 y2) /\
  (N.okD (x4-x3) (y4-y3) (x2-x3) (y2-y3)) /\
  (-9223372036854775808<=N.sgnI ((x2-x1)*(y3-y1)-(y2-y1)*(x3-x1)).num*N.sgnI ((x2-x1)*(y4-y1)-(y2-y1)*(x4-x1)).num/\N.sgnI ((x2-x1)*(y3-y1)-(y2-y1)*(x3-x1)).num*N.sgnI ((x2-x1)*(y4-y1)-(y2-y1)*(x4-x1)).num<=9223372036854775807) /\
  vb (bif decide (N.sgnI ((x2-x1)*(y3-y1)-(y2-y1)*(x3-x1)).num*N.sgnI ((x2-x1)*(y4-y1)-(y2-y1)*(x4-x1)).num<0) then decide (IntKind.i64.wrap (N.sgnI ((x4-x3)*(y1-y3)-(y4-y3)*(x1-x3)).num*N.sgnI ((x4-x3)*(y2-y3)-(y4-y3)*(x2-x3)).num)<0) else false)=dq) :
 qXcrs_at f1 f2 f3 f4 f5 f6 f7 f8 f9 f10 f11 f12 f13 f14 f15 f16 x1 y1 x2 y2 x3 y3 x4 y4 (Zag dq):=by
 unfold qXcrs_at
 obtain ⟨k1,k2,k3,k4,k5,k6,k7,k8,k9,k10,k11,H⟩:=H
 have w12:wi (N.sgnI ((x2-x1)*(y3-y1)-(y2-y1)*(x3-x1)).num*N.sgnI ((x2-x1)*(y4-y1)-(y2-y1)*(x4-x1)).num)=N.sgnI ((x2-x1)*(y3-y1)-(y2-y1)*(x3-x1)).num*N.sgnI ((x2-x1)*(y4-y1)-(y2-y1)*(x4-x1)).num:=wI64 k11
 exact Zas (G:=Zae kp84 [(1,2,.call (zNrB8 x2 x1 y2 y1) none),(1,5,.call (ag [vb (N.Zab (x3-x1).num),vf (us (N.Zad (x3-x1).num)),vb (N.Zab (↑(x3-x1).den:Int)),vf (us (N.Zad (↑(x3-x1).den:Int))),vb (N.Zab (y3-y1).num),vf (us (N.Zad (y3-y1).num)),vb (N.Zab (↑(y3-y1).den:Int)),vf (us (N.Zad (↑(y3-y1).den:Int)))]) none),(1,6,.call (ratF ((x2-x1)*(y3-y1)-(y2-y1)*(x3-x1))) none),(1,7,.call (vi (N.sgnI ((x2-x1)*(y3-y1)-(y2-y1)*(x3-x1)).num)) none),(1,10,.call (zNrB8 x2 x1 y2 y1) none),(1,13,.call (ag [vb (N.Zab (x4-x1).num),vf (us (N.Zad (x4-x1).num)),vb (N.Zab (↑(x4-x1).den:Int)),vf (us (N.Zad (↑(x4-x1).den:Int))),vb (N.Zab (y4-y1).num),vf (us (N.Zad (y4-y1).num)),vb (N.Zab (↑(y4-y1).den:Int)),vf (us (N.Zad (↑(y4-y1).den:Int)))]) none),(1,14,.call (ratF ((x2-x1)*(y4-y1)-(y2-y1)*(x4-x1))) none),(1,15,.call (vi (N.sgnI ((x2-x1)*(y4-y1)-(y2-y1)*(x4-x1)).num)) none),(2,2,.call (zNrB9 x4 x3 y4 y3) none),(2,5,.call (ag [vb (N.Zab (x1-x3).num),vf (us (N.Zad (x1-x3).num)),vb (N.Zab (↑(x1-x3).den:Int)),vf (us (N.Zad (↑(x1-x3).den:Int))),vb (N.Zab (y1-y3).num),vf (us (N.Zad (y1-y3).num)),vb (N.Zab (↑(y1-y3).den:Int)),vf (us (N.Zad (↑(y1-y3).den:Int)))]) none),(2,6,.call (ratF ((x4-x3)*(y1-y3)-(y4-y3)*(x1-x3))) none),(2,7,.call (vi (N.sgnI ((x4-x3)*(y1-y3)-(y4-y3)*(x1-x3)).num)) none),(2,10,.call (zNrB9 x4 x3 y4 y3) none),(2,13,.call (ag [vb (N.Zab (x2-x3).num),vf (us (N.Zad (x2-x3).num)),vb (N.Zab (↑(x2-x3).den:Int)),vf (us (N.Zad (↑(x2-x3).den:Int))),vb (N.Zab (y2-y3).num),vf (us (N.Zad (y2-y3).num)),vb (N.Zab (↑(y2-y3).den:Int)),vf (us (N.Zad (↑(y2-y3).den:Int)))]) none),(2,14,.call (ratF ((x4-x3)*(y2-y3)-(y4-y3)*(x2-x3))) none),(2,15,.call (vi (N.sgnI ((x4-x3)*(y2-y3)-(y4-y3)*(x2-x3)).num)) none)] []) 1000 [] (vb (bif decide (wi (N.sgnI ((x2-x1)*(y3-y1)-(y2-y1)*(x3-x1)).num*N.sgnI ((x2-x1)*(y4-y1)-(y2-y1)*(x4-x1)).num)<0) then decide (wi (N.sgnI ((x4-x3)*(y1-y3)-(y4-y3)*(x1-x3)).num*N.sgnI ((x4-x3)*(y2-y3)-(y4-y3)*(x2-x3)).num)<0) else false)) (by kernel_rfl) (bc rfl (bc rfl (bc rfl (bc rfl (bc rfl (bc rfl (bc rfl (bc rfl (bc rfl (bc rfl (bc rfl (bc rfl (bc rfl (bc rfl (bc rfl (bc rfl b0)))))))))))))))) q0 (ce (@ZgW f1 f2 f3 f4 f5 f6 f7 f8 x1 y1 x2 y2 k1) (ce (@ZgW f1 f2 f3 f4 f9 f10 f11 f12 x1 y1 x3 y3 k2) (ce (@ev105 false false false false false false false false (x2-x1) (y2-y1) (x3-x1) (y3-y1) k3) (ce (@ev104 false false (((x2-x1)*(y3-y1)-(y2-y1)*(x3-x1)).num) ((↑((x2-x1)*(y3-y1)-(y2-y1)*(x3-x1)).den:Int))) (ce (@ZgW f1 f2 f3 f4 f5 f6 f7 f8 x1 y1 x2 y2 k1) (ce (@ZgW f1 f2 f3 f4 f13 f14 f15 f16 x1 y1 x4 y4 k4) (ce (@ev105 false false false false false false false false (x2-x1) (y2-y1) (x4-x1) (y4-y1) k5) (ce (@ev104 false false (((x2-x1)*(y4-y1)-(y2-y1)*(x4-x1)).num) ((↑((x2-x1)*(y4-y1)-(y2-y1)*(x4-x1)).den:Int))) (ce (@ZgW f9 f10 f11 f12 f13 f14 f15 f16 x3 y3 x4 y4 k6) (ce (@ZgW f9 f10 f11 f12 f1 f2 f3 f4 x3 y3 x1 y1 k7) (ce (@ev105 false false false false false false false false (x4-x3) (y4-y3) (x1-x3) (y1-y3) k8) (ce (@ev104 false false (((x4-x3)*(y1-y3)-(y4-y3)*(x1-x3)).num) ((↑((x4-x3)*(y1-y3)-(y4-y3)*(x1-x3)).den:Int))) (ce (@ZgW f9 f10 f11 f12 f13 f14 f15 f16 x3 y3 x4 y4 k6) (ce (@ZgW f9 f10 f11 f12 f5 f6 f7 f8 x3 y3 x2 y2 k9) (ce (@ev105 false false false false false false false false (x4-x3) (y4-y3) (x2-x3) (y2-y3) k10) (ce (@ev104 false false (((x4-x3)*(y2-y3)-(y4-y3)*(x2-x3)).num) ((↑((x4-x3)*(y2-y3)-(y4-y3)*(x2-x3)).den:Int))) c0)))))))))))))))) (by (try rw [w12]);all_goals exact H)
end Go.Av

namespace Go.Av
open Go.Proofs
theorem ev85 (f1 f2 f3 f4 f5 f6 f7 f8 f9 f10 f11 f12:Bool) (x1 y1 x2 y2 x3 y3:Rat) (h:N.okV3 x1 y1 x2 y2 x3 y3):Ev M1 (.pure 85 [vecA f1 f2 f3 f4 x1 y1,vecA f5 f6 f7 f8 x2 y2,vecA f9 f10 f11 f12 x3 y3]) (ratF (N.tsg x1 y1 x2 y2 x3 y3)) []:=by
 obtain ⟨h1,h2,h3⟩:=h
 have dd:=Zey h1 h2 h1 h2
 have dt:=Zey h1 h2 h1 h3
 have cr:=okT_crs h1 h2 h1 h3
 refine call85 (qXtos _ _ _ _ _ _ _ _ _ _ _ _ _ _ _ _ _ _ _ ⟨ZdB h1 h2,ZdB h1 h3,Zeq h1 h2 h1 h2,Zeq h1 h2 h1 h3,fun k=>⟨Zeq h1 h3 h1 h3,?_⟩,fun k=>⟨⟨Za3 dt (by omega),Za3 dd (by omega)⟩,fun j=>⟨ZdB h2 h3,Zeq h2 h3 h2 h3,?_⟩,fun j=>⟨⟨Za3 cr (by omega),Za3 cr (by omega)⟩,⟨Za3 (ZbB cr cr) (by omega),Za3 dd (by omega),fun e => ?_⟩,?_⟩⟩⟩)
 ·unfold N.tsg;rw [if_pos (ZdK.1 k)];exact .refl _
 ·unfold N.tsg;rw [if_neg fun x=>k (ZdK.2 x),if_pos (ZeE.1 j)];exact .refl _
 ·have e0:=Rat.num_eq_zero.1 e
  have k0:¬_:=fun x=>k (ZdK.2 x)
  have j0:¬_:=fun x=>j (ZeE.2 x)
  rw [e0] at j0
  grind
 ·unfold N.tsg;rw [if_neg fun x=>k (ZdK.2 x),if_neg fun x=>j (ZeE.2 x)];exact .refl _
theorem ev84 (f1 f2 f3 f4 f5 f6 f7 f8 f9 f10 f11 f12 f13 f14 f15 f16:Bool) (x1 y1 x2 y2 x3 y3 x4 y4:Rat) (h:N.Zgz x1 y1 x2 y2 x3 y3 x4 y4):Ev M1 (.pure 84 [vecA f1 f2 f3 f4 x1 y1,vecA f5 f6 f7 f8 x2 y2,vecA f9 f10 f11 f12 x3 y3,vecA f13 f14 f15 f16 x4 y4]) (.bool (decide (N.crs x1 y1 x2 y2 x3 y3 x4 y4))) []:=by
 obtain ⟨h1,h2,h3,h4⟩:=h
 have b:=Zfm ((x2-x1)*(y3-y1)-(y2-y1)*(x3-x1)).num ((x2-x1)*(y4-y1)-(y2-y1)*(x4-x1)).num
 exact call84 (qXcrs _ _ _ _ _ _ _ _ _ _ _ _ _ _ _ _ _ _ _ _ _ _ _ _ _ ⟨ZdB h1 h2,ZdB h1 h3,Zeq h1 h2 h1 h3,ZdB h1 h4,Zeq h1 h2 h1 h4,ZdB h3 h4,ZdB h3 h1,Zeq h3 h4 h3 h1,ZdB h3 h2,Zeq h3 h4 h3 h2,by omega,congrArg AV.bool (crs_bool _ _ _ _ _ _ _ _)⟩)
end Go.Av

namespace Go.Av
open Go.Proofs
set_option maxRecDepth 100000
def fi68:Fi:=⟨53,[.cell 8 87]⟩
def kp68:List (Nat × List Nat):=[(0,[4,5,6,7,8]),(1,[4,5,6,7,8,16]),(2,[8]),(3,[4,5,6,7,8,9]),(4,[8,9,10]),(5,[8,9,10,11]),(6,[8,9,10,11,38]),(7,[8,9,10,11]),(8,[8,9,10,11,47]),(9,[8,9,10,11]),(10,[8])]
def qXsg_at (f1 f2 f3 f4 f5 f6 f7 f8 f9 f10 f11 f12 f13 f14 f15 f16:Bool) (x1 y1 x2 y2 x3 y3 x4 y4:Rat) (Q:AV->Heap->Prop):Prop:=Wp M1 (.run fi68 (atC (cd Tryz.f68) []) [(0,.agg [.bool (N.Zab x1.num),.vec f1 1 ((N.Zad x1.num).map (.int .u32)),.bool (N.Zab (x1.den:Int)),.vec f2 1 ((N.Zad (x1.den:Int)).map (.int .u32)),.bool (N.Zab y1.num),.vec f3 1 ((N.Zad y1.num).map (.int .u32)),.bool (N.Zab (y1.den:Int)),.vec f4 1 ((N.Zad (y1.den:Int)).map (.int .u32))]),(1,.agg [.bool (N.Zab x2.num),.vec f5 1 ((N.Zad x2.num).map (.int .u32)),.bool (N.Zab (x2.den:Int)),.vec f6 1 ((N.Zad (x2.den:Int)).map (.int .u32)),.bool (N.Zab y2.num),.vec f7 1 ((N.Zad y2.num).map (.int .u32)),.bool (N.Zab (y2.den:Int)),.vec f8 1 ((N.Zad (y2.den:Int)).map (.int .u32))]),(2,.agg [.bool (N.Zab x3.num),.vec f9 1 ((N.Zad x3.num).map (.int .u32)),.bool (N.Zab (x3.den:Int)),.vec f10 1 ((N.Zad (x3.den:Int)).map (.int .u32)),.bool (N.Zab y3.num),.vec f11 1 ((N.Zad y3.num).map (.int .u32)),.bool (N.Zab (y3.den:Int)),.vec f12 1 ((N.Zad (y3.den:Int)).map (.int .u32))]),(3,.agg [.bool (N.Zab x4.num),.vec f13 1 ((N.Zad x4.num).map (.int .u32)),.bool (N.Zab (x4.den:Int)),.vec f14 1 ((N.Zad (x4.den:Int)).map (.int .u32)),.bool (N.Zab y4.num),.vec f15 1 ((N.Zad y4.num).map (.int .u32)),.bool (N.Zab (y4.den:Int)),.vec f16 1 ((N.Zad (y4.den:Int)).map (.int .u32))])] []) Q
def ZfX (q r1 r2 r3:Rat) (Q:AV->Heap->Prop):Prop:=Wp M1 (.run fi68 (atC (cd Tryz.f68) [1,1,1,1,0,1,0,0]) [(8,.ptr 0 0 0 0),(9,.ptr 1 0 0 0),(10,.vec true 4 [ratF r1,ratF r2,ratF r3]),(11,.int .i64 0)] [⟨[.agg [.bool false,.vnil,.bool false,.vnil]],4,0,false,false⟩,⟨[ratF q],4,0,false,false⟩]) Q
def ZeT (q r1 r2 r3:Rat) (Q:AV->Heap->Prop):Prop:=Wp M1 (.run fi68 (atC (cd Tryz.f68) [1,1,1,1,0,1,0,0]) [(8,.ptr 0 0 0 0),(9,.ptr 1 0 0 0),(10,.vec true 4 [ratF r1,ratF r2,ratF r3]),(11,.int .i64 1)] [⟨[.agg [.bool false,.vnil,.bool false,.vnil]],4,0,false,false⟩,⟨[ratF q],4,0,false,false⟩]) Q
def ZeS (q r1 r2 r3:Rat) (Q:AV->Heap->Prop):Prop:=Wp M1 (.run fi68 (atC (cd Tryz.f68) [1,1,1,1,0,1,0,0]) [(8,.ptr 0 0 0 0),(9,.ptr 1 0 0 0),(10,.vec true 4 [ratF r1,ratF r2,ratF r3]),(11,.int .i64 2)] [⟨[.agg [.bool false,.vnil,.bool false,.vnil]],4,0,false,false⟩,⟨[ratF q],4,0,false,false⟩]) Q
def ZeR (q r1 r2 r3:Rat) (Q:AV->Heap->Prop):Prop:=Wp M1 (.run fi68 (atC (cd Tryz.f68) [1,1,1,1,0,1,0,0]) [(8,.ptr 0 0 0 0),(9,.ptr 1 0 0 0),(10,.vec true 4 [ratF r1,ratF r2,ratF r3]),(11,.int .i64 3)] [⟨[.agg [.bool false,.vnil,.bool false,.vnil]],4,0,false,false⟩,⟨[ratF q],4,0,false,false⟩]) Q
theorem call68 {args:List AV} {d:AV} (h:wc M1 fi68 Tryz.f68 args d):Ev M1 (.pure 68 args) d []:=pcl _ _ (by kernel_rfl) h
noncomputable abbrev zNrC1 (x1:Rat) (f1:Bool) (f2:Bool) (y1:Rat) (f3:Bool) (f4:Bool):=ag [vb (N.Zab x1.num),AV.vec f1 1 (us (N.Zad x1.num)),vb (N.Zab (↑x1.den:Int)),AV.vec f2 1 (us (N.Zad (↑x1.den:Int))),vb (N.Zab y1.num),AV.vec f3 1 (us (N.Zad y1.num)),vb (N.Zab (↑y1.den:Int)),AV.vec f4 1 (us (N.Zad (↑y1.den:Int)))]
noncomputable abbrev zNrC2 (x2:Rat) (f5:Bool) (f6:Bool) (y2:Rat) (f7:Bool) (f8:Bool):=ag [vb (N.Zab x2.num),AV.vec f5 1 (us (N.Zad x2.num)),vb (N.Zab (↑x2.den:Int)),AV.vec f6 1 (us (N.Zad (↑x2.den:Int))),vb (N.Zab y2.num),AV.vec f7 1 (us (N.Zad y2.num)),vb (N.Zab (↑y2.den:Int)),AV.vec f8 1 (us (N.Zad (↑y2.den:Int)))]
noncomputable abbrev zNrC3 (x3:Rat) (f9:Bool) (f10:Bool) (y3:Rat) (f11:Bool) (f12:Bool):=ag [vb (N.Zab x3.num),AV.vec f9 1 (us (N.Zad x3.num)),vb (N.Zab (↑x3.den:Int)),AV.vec f10 1 (us (N.Zad (↑x3.den:Int))),vb (N.Zab y3.num),AV.vec f11 1 (us (N.Zad y3.num)),vb (N.Zab (↑y3.den:Int)),AV.vec f12 1 (us (N.Zad (↑y3.den:Int)))]
noncomputable abbrev zNrC4 (x4:Rat) (f13:Bool) (f14:Bool) (y4:Rat) (f15:Bool) (f16:Bool):=ag [vb (N.Zab x4.num),AV.vec f13 1 (us (N.Zad x4.num)),vb (N.Zab (↑x4.den:Int)),AV.vec f14 1 (us (N.Zad (↑x4.den:Int))),vb (N.Zab y4.num),AV.vec f15 1 (us (N.Zad y4.num)),vb (N.Zab (↑y4.den:Int)),AV.vec f16 1 (us (N.Zad (↑y4.den:Int)))]
theorem qXsg (f1 f2 f3 f4 f5 f6 f7 f8 f9 f10 f11 f12 f13 f14 f15 f16:Bool) (x1 y1 x2 y2 x3 y3 x4 y4:Rat)  (dq:AV) (H :
  (N.Zgz x1 y1 x2 y2 x3 y3 x4 y4) /\
  ((N.crs x1 y1 x2 y2 x3 y3 x4 y4)->(N.inI 0) /\
   Weak (ratF (N.qi 0)) dq) /\
  (¬(N.crs x1 y1 x2 y2 x3 y3 x4 y4)->(N.okV3 x1 y1 x2 y2 x3 y3) /\
   (N.okV3 x1 y1 x2 y2 x4 y4) /\
   (N.okV3 x3 y3 x4 y4 x1 y1) /\
   (N.okV3 x3 y3 x4 y4 x2 y2) /\
   ZfX (N.tsg x1 y1 x2 y2 x3 y3) (N.tsg x1 y1 x2 y2 x4 y4) (N.tsg x3 y3 x4 y4 x1 y1) (N.tsg x3 y3 x4 y4 x2 y2) (Zag dq))) :
 qXsg_at f1 f2 f3 f4 f5 f6 f7 f8 f9 f10 f11 f12 f13 f14 f15 f16 x1 y1 x2 y2 x3 y3 x4 y4 (Zag dq):=by
 unfold qXsg_at
 obtain ⟨k1,H⟩:=H
 refine Zaf (G:=Zae kp68 [(1,4,.call (vb (decide (N.crs x1 y1 x2 y2 x3 y3 x4 y4))) none)] []) 5 [] ⟨(atC (cd Tryz.f68) [1,0,1]),[(4,AV.ptr 0 0 0 0),(5,AV.ptr 1 0 0 0),(6,AV.ptr 2 0 0 0),(7,AV.ptr 3 0 0 0),(8,AV.ptr 4 0 0 0),(16,vb (decide (N.crs x1 y1 x2 y2 x3 y3 x4 y4)))],[⟨[(zNrC1 x1 f1 f2 y1 f3 f4)],8,0,false,false⟩,⟨[(zNrC2 x2 f5 f6 y2 f7 f8)],8,0,false,false⟩,⟨[(zNrC3 x3 f9 f10 y3 f11 f12)],8,0,false,false⟩,⟨[(zNrC4 x4 f13 f14 y4 f15 f16)],8,0,false,false⟩,⟨[ag [vb false,AV.vnil,vb false,AV.vnil]],4,0,false,false⟩],_,[],_⟩ (by kernel_rfl) (bc rfl (bc rfl (bc rfl (bc rfl b0)))) q0 (ce (@ev84 f1 f2 f3 f4 f5 f6 f7 f8 f9 f10 f11 f12 f13 f14 f15 f16 x1 y1 x2 y2 x3 y3 x4 y4 k1) c0) ?_
 rcases xq H with ⟨d3,H⟩|⟨d3,H⟩
 ·obtain ⟨k4,H⟩:=H
  exact Zaj (G:=Zae kp68 [(2,0,.call (ratF (N.qi 0)) none)] []) 1000 [true] (ratF (N.qi 0)) (by kernel_rfl) (bc (Zam (Zac.2 d3)) (bc rfl b0)) q0 (ce (@ev50 0 k4) c0) H
 ·obtain ⟨k5,k6,k7,k8,H⟩:=H
  exact Zaf (G:=Zae kp68 [(3,3,.call (ratF (N.tsg x1 y1 x2 y2 x3 y3)) none),(4,3,.call (ratF (N.tsg x1 y1 x2 y2 x4 y4)) none),(4,7,.call (ratF (N.tsg x3 y3 x4 y4 x1 y1)) none),(4,11,.call (ratF (N.tsg x3 y3 x4 y4 x2 y2)) none)] []) 1000 [false] ⟨(atC (cd Tryz.f68) [1,1,1,1,0,1,0,0]),[(8,AV.ptr 4 0 0 0),(9,AV.ptr 5 0 0 0),(10,AV.vec true 4 [ratF (N.tsg x1 y1 x2 y2 x4 y4),ratF (N.tsg x3 y3 x4 y4 x1 y1),ratF (N.tsg x3 y3 x4 y4 x2 y2)]),(11,vi 0)],[⟨[(zNrC1 x1 f1 f2 y1 f3 f4)],8,0,false,false⟩,⟨[(zNrC2 x2 f5 f6 y2 f7 f8)],8,0,false,false⟩,⟨[(zNrC3 x3 f9 f10 y3 f11 f12)],8,0,false,false⟩,⟨[(zNrC4 x4 f13 f14 y4 f15 f16)],8,0,false,false⟩,⟨[ag [vb false,AV.vnil,vb false,AV.vnil]],4,0,false,false⟩,⟨[ratF (N.tsg x1 y1 x2 y2 x3 y3)],4,0,false,false⟩],_,[],_⟩ (by kernel_rfl) (bc (Zak (fun h=>d3 (Zac.1 h))) (bc rfl (bc rfl (bc rfl (bc rfl (bc rfl (bc rfl (bc rfl (bc rfl (bc rfl (bc rfl (bc rfl (bc rfl (bc rfl b0)))))))))))))) q0 (ce (@ev85 f1 f2 f3 f4 f5 f6 f7 f8 f9 f10 f11 f12 x1 y1 x2 y2 x3 y3 k5) (ce (@ev85 f1 f2 f3 f4 f5 f6 f7 f8 f13 f14 f15 f16 x1 y1 x2 y2 x4 y4 k6) (ce (@ev85 f9 f10 f11 f12 f13 f14 f15 f16 f1 f2 f3 f4 x3 y3 x4 y4 x1 y1 k7) (ce (@ev85 f9 f10 f11 f12 f13 f14 f15 f16 f5 f6 f7 f8 x3 y3 x4 y4 x2 y2 k8) c0)))) (ZaA [4,5] (by kernel_rfl) H)
noncomputable abbrev zNrC5:=ag [vb false,AV.vnil,vb false,AV.vnil]
theorem qXsg0 (q r1 r2 r3:Rat)  (dq:AV) (H :
  (N.okR r1/\N.okR q) /\
  ((N.sgnI (r1.num*(↑q.den:Int)-q.num*(↑r1.den:Int))<0)->ZeT r1 r1 r2 r3 (Zag dq)) /\
  (¬(N.sgnI (r1.num*(↑q.den:Int)-q.num*(↑r1.den:Int))<0)->ZeT q r1 r2 r3 (Zag dq))) :
 ZfX q r1 r2 r3 (Zag dq):=by
 unfold ZfX
 obtain ⟨k1,H⟩:=H
 refine Zaf (G:=Zae kp68 [(8,5,.call (vi (N.sgnI (r1.num*(↑q.den:Int)-q.num*(↑r1.den:Int)))) none)] []) 9 [true] ⟨(atC (cd Tryz.f68) [1,1,1,1,0,1,0,0,1,0,0,1]),[(8,AV.ptr 0 0 0 0),(9,AV.ptr 1 0 0 0),(10,AV.vec true 4 [ratF r1,ratF r2,ratF r3]),(11,vi 0),(47,vb (decide (N.sgnI (r1.num*(↑q.den:Int)-q.num*(↑r1.den:Int))<0)))],[⟨[zNrC5],4,0,false,false⟩,⟨[ratF q],4,0,false,false⟩],_,[],_⟩ (by kernel_rfl) (bc rfl (bc rfl (bc rfl (bc rfl b0)))) q0 (ce (@ev47 false false false false r1 q k1) c0) ?_
 rcases xq H with ⟨d3,H⟩|⟨d3,H⟩
 ·exact Zaf (G:=Zae kp68 [] []) 1000 [true] ⟨(atC (cd Tryz.f68) [1,1,1,1,0,1,0,0]),[(8,AV.ptr 0 0 0 0),(9,AV.ptr 1 0 0 0),(10,AV.vec true 4 [ratF r1,ratF r2,ratF r3]),(11,vi 1)],[⟨[zNrC5],4,0,false,false⟩,⟨[ratF r1],4,0,false,false⟩],_,[],_⟩ (by kernel_rfl) (bc (Zam (Zac.2 d3)) (bc rfl (bc rfl (bc rfl b0)))) q0 c0 H
 ·exact Zaf (G:=Zae kp68 [] []) 1000 [false] ⟨(atC (cd Tryz.f68) [1,1,1,1,0,1,0,0]),[(8,AV.ptr 0 0 0 0),(9,AV.ptr 1 0 0 0),(10,AV.vec true 4 [ratF r1,ratF r2,ratF r3]),(11,vi 1)],[⟨[zNrC5],4,0,false,false⟩,⟨[ratF q],4,0,false,false⟩],_,[],_⟩ (by kernel_rfl) (bc (Zak (fun h=>d3 (Zac.1 h))) b0) q0 c0 H
noncomputable abbrev zNrC6:=ag [vb false,AV.vnil,vb false,AV.vnil]
theorem qXsg1 (q r1 r2 r3:Rat)  (dq:AV) (H :
  (N.okR r2/\N.okR q) /\
  ((N.sgnI (r2.num*(↑q.den:Int)-q.num*(↑r2.den:Int))<0)->ZeS r2 r1 r2 r3 (Zag dq)) /\
  (¬(N.sgnI (r2.num*(↑q.den:Int)-q.num*(↑r2.den:Int))<0)->ZeS q r1 r2 r3 (Zag dq))) :
 ZeT q r1 r2 r3 (Zag dq):=by
 unfold ZeT
 obtain ⟨k1,H⟩:=H
 refine Zaf (G:=Zae kp68 [(8,5,.call (vi (N.sgnI (r2.num*(↑q.den:Int)-q.num*(↑r2.den:Int)))) none)] []) 9 [true] ⟨(atC (cd Tryz.f68) [1,1,1,1,0,1,0,0,1,0,0,1]),[(8,AV.ptr 0 0 0 0),(9,AV.ptr 1 0 0 0),(10,AV.vec true 4 [ratF r1,ratF r2,ratF r3]),(11,vi 1),(47,vb (decide (N.sgnI (r2.num*(↑q.den:Int)-q.num*(↑r2.den:Int))<0)))],[⟨[zNrC6],4,0,false,false⟩,⟨[ratF q],4,0,false,false⟩],_,[],_⟩ (by kernel_rfl) (bc rfl (bc rfl (bc rfl (bc rfl b0)))) q0 (ce (@ev47 false false false false r2 q k1) c0) ?_
 rcases xq H with ⟨d3,H⟩|⟨d3,H⟩
 ·exact Zaf (G:=Zae kp68 [] []) 1000 [true] ⟨(atC (cd Tryz.f68) [1,1,1,1,0,1,0,0]),[(8,AV.ptr 0 0 0 0),(9,AV.ptr 1 0 0 0),(10,AV.vec true 4 [ratF r1,ratF r2,ratF r3]),(11,vi 2)],[⟨[zNrC6],4,0,false,false⟩,⟨[ratF r2],4,0,false,false⟩],_,[],_⟩ (by kernel_rfl) (bc (Zam (Zac.2 d3)) (bc rfl (bc rfl (bc rfl b0)))) q0 c0 H
 ·exact Zaf (G:=Zae kp68 [] []) 1000 [false] ⟨(atC (cd Tryz.f68) [1,1,1,1,0,1,0,0]),[(8,AV.ptr 0 0 0 0),(9,AV.ptr 1 0 0 0),(10,AV.vec true 4 [ratF r1,ratF r2,ratF r3]),(11,vi 2)],[⟨[zNrC6],4,0,false,false⟩,⟨[ratF q],4,0,false,false⟩],_,[],_⟩ (by kernel_rfl) (bc (Zak (fun h=>d3 (Zac.1 h))) b0) q0 c0 H
noncomputable abbrev zNrC7:=ag [vb false,AV.vnil,vb false,AV.vnil]
theorem qXsg2 (q r1 r2 r3:Rat)  (dq:AV) (H :
  (N.okR r3/\N.okR q) /\
  ((N.sgnI (r3.num*(↑q.den:Int)-q.num*(↑r3.den:Int))<0)->ZeR r3 r1 r2 r3 (Zag dq)) /\
  (¬(N.sgnI (r3.num*(↑q.den:Int)-q.num*(↑r3.den:Int))<0)->ZeR q r1 r2 r3 (Zag dq))) :
 ZeS q r1 r2 r3 (Zag dq):=by
 unfold ZeS
 obtain ⟨k1,H⟩:=H
 refine Zaf (G:=Zae kp68 [(8,5,.call (vi (N.sgnI (r3.num*(↑q.den:Int)-q.num*(↑r3.den:Int)))) none)] []) 9 [true] ⟨(atC (cd Tryz.f68) [1,1,1,1,0,1,0,0,1,0,0,1]),[(8,AV.ptr 0 0 0 0),(9,AV.ptr 1 0 0 0),(10,AV.vec true 4 [ratF r1,ratF r2,ratF r3]),(11,vi 2),(47,vb (decide (N.sgnI (r3.num*(↑q.den:Int)-q.num*(↑r3.den:Int))<0)))],[⟨[zNrC7],4,0,false,false⟩,⟨[ratF q],4,0,false,false⟩],_,[],_⟩ (by kernel_rfl) (bc rfl (bc rfl (bc rfl (bc rfl b0)))) q0 (ce (@ev47 false false false false r3 q k1) c0) ?_
 rcases xq H with ⟨d3,H⟩|⟨d3,H⟩
 ·exact Zaf (G:=Zae kp68 [] []) 1000 [true] ⟨(atC (cd Tryz.f68) [1,1,1,1,0,1,0,0]),[(8,AV.ptr 0 0 0 0),(9,AV.ptr 1 0 0 0),(10,AV.vec true 4 [ratF r1,ratF r2,ratF r3]),(11,vi 3)],[⟨[zNrC7],4,0,false,false⟩,⟨[ratF r3],4,0,false,false⟩],_,[],_⟩ (by kernel_rfl) (bc (Zam (Zac.2 d3)) (bc rfl (bc rfl (bc rfl b0)))) q0 c0 H
 ·exact Zaf (G:=Zae kp68 [] []) 1000 [false] ⟨(atC (cd Tryz.f68) [1,1,1,1,0,1,0,0]),[(8,AV.ptr 0 0 0 0),(9,AV.ptr 1 0 0 0),(10,AV.vec true 4 [ratF r1,ratF r2,ratF r3]),(11,vi 3)],[⟨[zNrC7],4,0,false,false⟩,⟨[ratF q],4,0,false,false⟩],_,[],_⟩ (by kernel_rfl) (bc (Zak (fun h=>d3 (Zac.1 h))) b0) q0 c0 H
theorem qXsg3 (q r1 r2 r3:Rat)  (dq:AV) (H :
  Weak (ratF q) dq) :
 ZeR q r1 r2 r3 (Zag dq):=by
 unfold ZeR
 exact Zaj (G:=Zae kp68 [] []) 1000 [false] (ratF q) (by kernel_rfl) (bc rfl (bc rfl (bc rfl b0))) q0 c0 H
end Go.Av

namespace Go.Av
open Go.Proofs
theorem xseg_loop {q r1 r2 r3:Rat} (h:N.okT 400 q) (h1:N.okT 400 r1) (h2:N.okT 400 r2) (h3:N.okT 400 r3):ZfX q r1 r2 r3 (Zag (ratF (N.mn r3 (N.mn r2 (N.mn r1 q))))):=by
 have R {r:Rat} (h:N.okT 400 r):N.okR r:=Za3 h (by omega)
 have s3:∀ q,ZeR q r1 r2 r3 (Zag (ratF q)):=fun q=>qXsg3 _ _ _ _ _ (.refl _)
 have s2:∀ q,N.okT 400 q->ZeS q r1 r2 r3 (Zag (ratF (N.mn r3 q))):=fun q hq=>qXsg2 _ _ _ _ _ ⟨⟨R h3,R hq⟩,fun k=>by rw [mn_y k];exact s3 _,fun k=>by rw [mn_n k];exact s3 _⟩
 have s1:∀ q,N.okT 400 q->ZeT q r1 r2 r3 (Zag (ratF (N.mn r3 (N.mn r2 q)))):=fun q hq=>qXsg1 _ _ _ _ _ ⟨⟨R h2,R hq⟩,fun k=>by rw [mn_y k];exact s2 _ h2,fun k=>by rw [mn_n k];exact s2 _ hq⟩
 exact qXsg0 _ _ _ _ _ ⟨⟨R h1,R h⟩,fun k=>by rw [mn_y k];exact s1 _ h1,fun k=>by rw [mn_n k];exact s1 _ h⟩
theorem ev68 (f1 f2 f3 f4 f5 f6 f7 f8 f9 f10 f11 f12 f13 f14 f15 f16:Bool) (x1 y1 x2 y2 x3 y3 x4 y4:Rat) (h:N.Zgz x1 y1 x2 y2 x3 y3 x4 y4):Ev M1 (.pure 68 [vecA f1 f2 f3 f4 x1 y1,vecA f5 f6 f7 f8 x2 y2,vecA f9 f10 f11 f12 x3 y3,vecA f13 f14 f15 f16 x4 y4]) (ratF (N.seg x1 y1 x2 y2 x3 y3 x4 y4)) []:=by
 have h0:=h
 obtain ⟨h1,h2,h3,h4⟩:=h
 refine call68 (qXsg _ _ _ _ _ _ _ _ _ _ _ _ _ _ _ _ _ _ _ _ _ _ _ _ _ ⟨h0,fun k=>⟨by unfold N.inI;omega,?_⟩,fun k=>⟨⟨h1,h2,h3⟩,⟨h1,h2,h4⟩,⟨h3,h4,h1⟩,⟨h3,h4,h2⟩,?_⟩⟩)
 ·unfold N.seg;rw [if_pos k];exact .refl _
 ·unfold N.seg;rw [if_neg k];exact xseg_loop (Zcs h1 h2 h3) (Zcs h1 h2 h4) (Zcs h3 h4 h1) (Zcs h3 h4 h2)
end Go.Av

namespace Go.Av
open Go.Proofs
set_option maxRecDepth 100000
def fi48:Fi:=⟨76,[.cell 6 87]⟩
def kp48:List (Nat × List Nat):=[(0,[3,4,5,6]),(1,[3,4,5,6,18]),(2,[6]),(3,[4,5,6,7]),(4,[4,5,6,7,8]),(5,[4,5,6,7,8,9]),(6,[4,5,6,7,8,9,42]),(7,[4,5,6,7,8,9]),(8,[4,5,6,7,8,9,10]),(9,[4,5,6,7,8,9,10,73]),(10,[4,5,6,7,8,9]),(11,[6])]
def qXfa_at (x0 y0 x1 y1 tp ax ay bx by_:Int) (Q:AV->Heap->Prop):Prop:=Wp M1 (.run fi48 (atC (cd Tryz.f48) []) [(0,.agg [.int .i64 x0,.int .i64 y0,.int .i64 x1,.int .i64 y1,.int .i64 tp]),(1,.agg [.int .i64 ax,.int .i64 ay]),(2,.agg [.int .i64 bx,.int .i64 by_])] []) Q
def ZfZ (u0 v0 u1 v1:Rat) (ax ay bx by_:Int) (Q:AV->Heap->Prop):Prop:=Wp M1 (.run fi48 (atC (cd Tryz.f48) [1,1,1,1,0,1,0,0]) [(4,.ptr 0 0 0 0),(5,.ptr 1 0 0 0),(6,.ptr 2 0 0 0),(7,.vec true 8 [.agg [.bool (N.Zab u0.num),.vec false 1 ((N.Zad u0.num).map (.int .u32)),.bool (N.Zab (u0.den:Int)),.vec false 1 ((N.Zad (u0.den:Int)).map (.int .u32)),.bool (N.Zab v0.num),.vec false 1 ((N.Zad v0.num).map (.int .u32)),.bool (N.Zab (v0.den:Int)),.vec false 1 ((N.Zad (v0.den:Int)).map (.int .u32))],.agg [.bool (N.Zab u1.num),.vec false 1 ((N.Zad u1.num).map (.int .u32)),.bool (N.Zab (u1.den:Int)),.vec false 1 ((N.Zad (u1.den:Int)).map (.int .u32)),.bool (N.Zab v0.num),.vec false 1 ((N.Zad v0.num).map (.int .u32)),.bool (N.Zab (v0.den:Int)),.vec false 1 ((N.Zad (v0.den:Int)).map (.int .u32))],.agg [.bool (N.Zab u1.num),.vec false 1 ((N.Zad u1.num).map (.int .u32)),.bool (N.Zab (u1.den:Int)),.vec false 1 ((N.Zad (u1.den:Int)).map (.int .u32)),.bool (N.Zab v1.num),.vec false 1 ((N.Zad v1.num).map (.int .u32)),.bool (N.Zab (v1.den:Int)),.vec false 1 ((N.Zad (v1.den:Int)).map (.int .u32))],.agg [.bool (N.Zab u0.num),.vec false 1 ((N.Zad u0.num).map (.int .u32)),.bool (N.Zab (u0.den:Int)),.vec false 1 ((N.Zad (u0.den:Int)).map (.int .u32)),.bool (N.Zab v1.num),.vec false 1 ((N.Zad v1.num).map (.int .u32)),.bool (N.Zab (v1.den:Int)),.vec false 1 ((N.Zad (v1.den:Int)).map (.int .u32))]]),(8,.ptr 3 0 0 0),(9,.int .i64 0)] [⟨[.agg [.int .i64 ax,.int .i64 ay]],2,0,false,false⟩,⟨[.agg [.int .i64 bx,.int .i64 by_]],2,0,false,false⟩,⟨[.agg [.bool false,.vnil,.bool false,.vnil]],4,0,false,false⟩,⟨[.agg [.bool false,.vnil,.bool false,.vnil]],4,0,false,false⟩]) Q
def ZfY (u0 v0 u1 v1:Rat) (ax ay bx by_:Int) (q:Rat) (Q:AV->Heap->Prop):Prop:=Wp M1 (.run fi48 (atC (cd Tryz.f48) [1,1,1,1,0,1,0,0]) [(4,.ptr 0 0 0 0),(5,.ptr 1 0 0 0),(6,.ptr 2 0 0 0),(7,.vec true 8 [.agg [.bool (N.Zab u0.num),.vec false 1 ((N.Zad u0.num).map (.int .u32)),.bool (N.Zab (u0.den:Int)),.vec false 1 ((N.Zad (u0.den:Int)).map (.int .u32)),.bool (N.Zab v0.num),.vec false 1 ((N.Zad v0.num).map (.int .u32)),.bool (N.Zab (v0.den:Int)),.vec false 1 ((N.Zad (v0.den:Int)).map (.int .u32))],.agg [.bool (N.Zab u1.num),.vec false 1 ((N.Zad u1.num).map (.int .u32)),.bool (N.Zab (u1.den:Int)),.vec false 1 ((N.Zad (u1.den:Int)).map (.int .u32)),.bool (N.Zab v0.num),.vec false 1 ((N.Zad v0.num).map (.int .u32)),.bool (N.Zab (v0.den:Int)),.vec false 1 ((N.Zad (v0.den:Int)).map (.int .u32))],.agg [.bool (N.Zab u1.num),.vec false 1 ((N.Zad u1.num).map (.int .u32)),.bool (N.Zab (u1.den:Int)),.vec false 1 ((N.Zad (u1.den:Int)).map (.int .u32)),.bool (N.Zab v1.num),.vec false 1 ((N.Zad v1.num).map (.int .u32)),.bool (N.Zab (v1.den:Int)),.vec false 1 ((N.Zad (v1.den:Int)).map (.int .u32))],.agg [.bool (N.Zab u0.num),.vec false 1 ((N.Zad u0.num).map (.int .u32)),.bool (N.Zab (u0.den:Int)),.vec false 1 ((N.Zad (u0.den:Int)).map (.int .u32)),.bool (N.Zab v1.num),.vec false 1 ((N.Zad v1.num).map (.int .u32)),.bool (N.Zab (v1.den:Int)),.vec false 1 ((N.Zad (v1.den:Int)).map (.int .u32))]]),(8,.ptr 3 0 0 0),(9,.int .i64 1)] [⟨[.agg [.int .i64 ax,.int .i64 ay]],2,0,false,false⟩,⟨[.agg [.int .i64 bx,.int .i64 by_]],2,0,false,false⟩,⟨[.agg [.bool false,.vnil,.bool false,.vnil]],4,0,false,false⟩,⟨[ratF q],4,0,false,false⟩]) Q
def ZeW (u0 v0 u1 v1:Rat) (ax ay bx by_:Int) (q:Rat) (Q:AV->Heap->Prop):Prop:=Wp M1 (.run fi48 (atC (cd Tryz.f48) [1,1,1,1,0,1,0,0]) [(4,.ptr 0 0 0 0),(5,.ptr 1 0 0 0),(6,.ptr 2 0 0 0),(7,.vec true 8 [.agg [.bool (N.Zab u0.num),.vec false 1 ((N.Zad u0.num).map (.int .u32)),.bool (N.Zab (u0.den:Int)),.vec false 1 ((N.Zad (u0.den:Int)).map (.int .u32)),.bool (N.Zab v0.num),.vec false 1 ((N.Zad v0.num).map (.int .u32)),.bool (N.Zab (v0.den:Int)),.vec false 1 ((N.Zad (v0.den:Int)).map (.int .u32))],.agg [.bool (N.Zab u1.num),.vec false 1 ((N.Zad u1.num).map (.int .u32)),.bool (N.Zab (u1.den:Int)),.vec false 1 ((N.Zad (u1.den:Int)).map (.int .u32)),.bool (N.Zab v0.num),.vec false 1 ((N.Zad v0.num).map (.int .u32)),.bool (N.Zab (v0.den:Int)),.vec false 1 ((N.Zad (v0.den:Int)).map (.int .u32))],.agg [.bool (N.Zab u1.num),.vec false 1 ((N.Zad u1.num).map (.int .u32)),.bool (N.Zab (u1.den:Int)),.vec false 1 ((N.Zad (u1.den:Int)).map (.int .u32)),.bool (N.Zab v1.num),.vec false 1 ((N.Zad v1.num).map (.int .u32)),.bool (N.Zab (v1.den:Int)),.vec false 1 ((N.Zad (v1.den:Int)).map (.int .u32))],.agg [.bool (N.Zab u0.num),.vec false 1 ((N.Zad u0.num).map (.int .u32)),.bool (N.Zab (u0.den:Int)),.vec false 1 ((N.Zad (u0.den:Int)).map (.int .u32)),.bool (N.Zab v1.num),.vec false 1 ((N.Zad v1.num).map (.int .u32)),.bool (N.Zab (v1.den:Int)),.vec false 1 ((N.Zad (v1.den:Int)).map (.int .u32))]]),(8,.ptr 3 0 0 0),(9,.int .i64 2)] [⟨[.agg [.int .i64 ax,.int .i64 ay]],2,0,false,false⟩,⟨[.agg [.int .i64 bx,.int .i64 by_]],2,0,false,false⟩,⟨[.agg [.bool false,.vnil,.bool false,.vnil]],4,0,false,false⟩,⟨[ratF q],4,0,false,false⟩]) Q
def ZeV (u0 v0 u1 v1:Rat) (ax ay bx by_:Int) (q:Rat) (Q:AV->Heap->Prop):Prop:=Wp M1 (.run fi48 (atC (cd Tryz.f48) [1,1,1,1,0,1,0,0]) [(4,.ptr 0 0 0 0),(5,.ptr 1 0 0 0),(6,.ptr 2 0 0 0),(7,.vec true 8 [.agg [.bool (N.Zab u0.num),.vec false 1 ((N.Zad u0.num).map (.int .u32)),.bool (N.Zab (u0.den:Int)),.vec false 1 ((N.Zad (u0.den:Int)).map (.int .u32)),.bool (N.Zab v0.num),.vec false 1 ((N.Zad v0.num).map (.int .u32)),.bool (N.Zab (v0.den:Int)),.vec false 1 ((N.Zad (v0.den:Int)).map (.int .u32))],.agg [.bool (N.Zab u1.num),.vec false 1 ((N.Zad u1.num).map (.int .u32)),.bool (N.Zab (u1.den:Int)),.vec false 1 ((N.Zad (u1.den:Int)).map (.int .u32)),.bool (N.Zab v0.num),.vec false 1 ((N.Zad v0.num).map (.int .u32)),.bool (N.Zab (v0.den:Int)),.vec false 1 ((N.Zad (v0.den:Int)).map (.int .u32))],.agg [.bool (N.Zab u1.num),.vec false 1 ((N.Zad u1.num).map (.int .u32)),.bool (N.Zab (u1.den:Int)),.vec false 1 ((N.Zad (u1.den:Int)).map (.int .u32)),.bool (N.Zab v1.num),.vec false 1 ((N.Zad v1.num).map (.int .u32)),.bool (N.Zab (v1.den:Int)),.vec false 1 ((N.Zad (v1.den:Int)).map (.int .u32))],.agg [.bool (N.Zab u0.num),.vec false 1 ((N.Zad u0.num).map (.int .u32)),.bool (N.Zab (u0.den:Int)),.vec false 1 ((N.Zad (u0.den:Int)).map (.int .u32)),.bool (N.Zab v1.num),.vec false 1 ((N.Zad v1.num).map (.int .u32)),.bool (N.Zab (v1.den:Int)),.vec false 1 ((N.Zad (v1.den:Int)).map (.int .u32))]]),(8,.ptr 3 0 0 0),(9,.int .i64 3)] [⟨[.agg [.int .i64 ax,.int .i64 ay]],2,0,false,false⟩,⟨[.agg [.int .i64 bx,.int .i64 by_]],2,0,false,false⟩,⟨[.agg [.bool false,.vnil,.bool false,.vnil]],4,0,false,false⟩,⟨[ratF q],4,0,false,false⟩]) Q
def ZeU (u0 v0 u1 v1:Rat) (ax ay bx by_:Int) (q:Rat) (Q:AV->Heap->Prop):Prop:=Wp M1 (.run fi48 (atC (cd Tryz.f48) [1,1,1,1,0,1,0,0]) [(4,.ptr 0 0 0 0),(5,.ptr 1 0 0 0),(6,.ptr 2 0 0 0),(7,.vec true 8 [.agg [.bool (N.Zab u0.num),.vec false 1 ((N.Zad u0.num).map (.int .u32)),.bool (N.Zab (u0.den:Int)),.vec false 1 ((N.Zad (u0.den:Int)).map (.int .u32)),.bool (N.Zab v0.num),.vec false 1 ((N.Zad v0.num).map (.int .u32)),.bool (N.Zab (v0.den:Int)),.vec false 1 ((N.Zad (v0.den:Int)).map (.int .u32))],.agg [.bool (N.Zab u1.num),.vec false 1 ((N.Zad u1.num).map (.int .u32)),.bool (N.Zab (u1.den:Int)),.vec false 1 ((N.Zad (u1.den:Int)).map (.int .u32)),.bool (N.Zab v0.num),.vec false 1 ((N.Zad v0.num).map (.int .u32)),.bool (N.Zab (v0.den:Int)),.vec false 1 ((N.Zad (v0.den:Int)).map (.int .u32))],.agg [.bool (N.Zab u1.num),.vec false 1 ((N.Zad u1.num).map (.int .u32)),.bool (N.Zab (u1.den:Int)),.vec false 1 ((N.Zad (u1.den:Int)).map (.int .u32)),.bool (N.Zab v1.num),.vec false 1 ((N.Zad v1.num).map (.int .u32)),.bool (N.Zab (v1.den:Int)),.vec false 1 ((N.Zad (v1.den:Int)).map (.int .u32))],.agg [.bool (N.Zab u0.num),.vec false 1 ((N.Zad u0.num).map (.int .u32)),.bool (N.Zab (u0.den:Int)),.vec false 1 ((N.Zad (u0.den:Int)).map (.int .u32)),.bool (N.Zab v1.num),.vec false 1 ((N.Zad v1.num).map (.int .u32)),.bool (N.Zab (v1.den:Int)),.vec false 1 ((N.Zad (v1.den:Int)).map (.int .u32))]]),(8,.ptr 3 0 0 0),(9,.int .i64 4)] [⟨[.agg [.int .i64 ax,.int .i64 ay]],2,0,false,false⟩,⟨[.agg [.int .i64 bx,.int .i64 by_]],2,0,false,false⟩,⟨[.agg [.bool false,.vnil,.bool false,.vnil]],4,0,false,false⟩,⟨[ratF q],4,0,false,false⟩]) Q
theorem call48 {args:List AV} {d:AV} (h:wc M1 fi48 Tryz.f48 args d):Ev M1 (.pure 48 args) d []:=pcl _ _ (by kernel_rfl) h
noncomputable abbrev zNrD1 (x0:Int) (y0:Int):=ag [vb (N.Zab (N.qi x0).num),vf (us (N.Zad (N.qi x0).num)),vb (N.Zab (↑(N.qi x0).den:Int)),vf (us (N.Zad (↑(N.qi x0).den:Int))),vb (N.Zab (N.qi y0).num),vf (us (N.Zad (N.qi y0).num)),vb (N.Zab (↑(N.qi y0).den:Int)),vf (us (N.Zad (↑(N.qi y0).den:Int)))]
noncomputable abbrev zNrD2 (x1:Int) (y0:Int):=ag [vb (N.Zab (N.qi x1).num),vf (us (N.Zad (N.qi x1).num)),vb (N.Zab (↑(N.qi x1).den:Int)),vf (us (N.Zad (↑(N.qi x1).den:Int))),vb (N.Zab (N.qi y0).num),vf (us (N.Zad (N.qi y0).num)),vb (N.Zab (↑(N.qi y0).den:Int)),vf (us (N.Zad (↑(N.qi y0).den:Int)))]
noncomputable abbrev zNrD3 (x1:Int) (y1:Int):=ag [vb (N.Zab (N.qi x1).num),vf (us (N.Zad (N.qi x1).num)),vb (N.Zab (↑(N.qi x1).den:Int)),vf (us (N.Zad (↑(N.qi x1).den:Int))),vb (N.Zab (N.qi y1).num),vf (us (N.Zad (N.qi y1).num)),vb (N.Zab (↑(N.qi y1).den:Int)),vf (us (N.Zad (↑(N.qi y1).den:Int)))]
noncomputable abbrev zNrD4 (x0:Int) (y1:Int):=ag [vb (N.Zab (N.qi x0).num),vf (us (N.Zad (N.qi x0).num)),vb (N.Zab (↑(N.qi x0).den:Int)),vf (us (N.Zad (↑(N.qi x0).den:Int))),vb (N.Zab (N.qi y1).num),vf (us (N.Zad (N.qi y1).num)),vb (N.Zab (↑(N.qi y1).den:Int)),vf (us (N.Zad (↑(N.qi y1).den:Int)))]
noncomputable abbrev zNrD5 (x0:Int) (y0:Int) (x1:Int) (y1:Int) (tp:Int):=ag [vi x0,vi y0,vi x1,vi y1,vi tp]
noncomputable abbrev zNrD6:=ag [vb false,AV.vnil,vb false,AV.vnil]
noncomputable abbrev zNrD7 (bx:Int) (by_:Int):=ag [vi bx,vi by_]
theorem qXfa (x0 y0 x1 y1 tp ax ay bx by_:Int)  (dq:AV) (H :
  (((N.hld x0 y0 x1 y1 ax ay)\/(N.hld x0 y0 x1 y1 bx by_))->(N.inI 0) /\
   Weak (ratF (N.qi 0)) dq) /\
  (¬((N.hld x0 y0 x1 y1 ax ay)\/(N.hld x0 y0 x1 y1 bx by_))->(N.ZgL x0 y0) /\
   (N.ZgL x1 y0) /\
   (N.ZgL x1 y1) /\
   (N.ZgL x0 y1) /\
   ZfZ (N.qi x0) (N.qi y0) (N.qi x1) (N.qi y1) ax ay bx by_ (Zag dq))) :
 qXfa_at x0 y0 x1 y1 tp ax ay bx by_ (Zag dq):=by
 unfold qXfa_at
 refine Zaf (G:=Zae kp48 [(1,2,.call (vb (decide (N.hld x0 y0 x1 y1 ax ay))) none),(1,6,.call (vb (decide (N.hld x0 y0 x1 y1 bx by_))) none)] []) 5 [] ⟨(atC (cd Tryz.f48) [1,0,1]),[(3,AV.ptr 0 0 0 0),(4,AV.ptr 1 0 0 0),(5,AV.ptr 2 0 0 0),(6,AV.ptr 3 0 0 0),(18,vb (bif decide (N.hld x0 y0 x1 y1 ax ay) then true else decide (N.hld x0 y0 x1 y1 bx by_)))],[⟨[(zNrD5 x0 y0 x1 y1 tp)],5,0,false,false⟩,⟨[ag [vi ax,vi ay]],2,0,false,false⟩,⟨[(zNrD7 bx by_)],2,0,false,false⟩,⟨[zNrD6],4,0,false,false⟩],[true,true,!(decide (N.hld x0 y0 x1 y1 ax ay)==false&&true)||true,!(decide (N.hld x0 y0 x1 y1 ax ay)==false&&true)||true],[],[⟨true,false,66,[(zNrD5 x0 y0 x1 y1 tp),ag [vi ax,vi ay]],[],vb (decide (N.hld x0 y0 x1 y1 ax ay)),[]⟩,⟨decide (N.hld x0 y0 x1 y1 ax ay)==false&&true&&true,false,66,[(zNrD5 x0 y0 x1 y1 tp),(zNrD7 bx by_)],[],vb (decide (N.hld x0 y0 x1 y1 bx by_)),[]⟩]⟩ (by kernel_rfl) (bc rfl (bc rfl (bc (Bool.or_true _) (bc (Bool.or_true _) b0)))) q0 (cc (fun _=>(@ev66 x0 y0 x1 y1 tp ax ay)) (cc (fun hc=>((@ev66 x0 y0 x1 y1 tp bx by_):Ev M1 (Conf.pure 66 [(zNrD5 x0 y0 x1 y1 tp),(zNrD7 bx by_)]) (vb (decide (N.hld x0 y0 x1 y1 bx by_))) [])) c0)) ?_
 rcases xq H with ⟨d3,H⟩|⟨d3,H⟩
 ·obtain ⟨k4,H⟩:=H
  exact Zaj (G:=Zae kp48 [(2,0,.call (ratF (N.qi 0)) none)] []) 1000 [true] (ratF (N.qi 0)) (by kernel_rfl) (bc (Zam ((ZbP Zac Zac).2 d3)) (bc rfl b0)) q0 (ce (@ev50 0 k4) c0) H
 ·obtain ⟨k5,k6,k7,k8,H⟩:=H
  exact Zaf (G:=Zae kp48 [(3,4,.call ((zNrD1 x0 y0)) none),(3,9,.call ((zNrD2 x1 y0)) none),(3,14,.call ((zNrD3 x1 y1)) none),(3,19,.call ((zNrD4 x0 y1)) none)] []) 1000 [false] ⟨(atC (cd Tryz.f48) [1,1,1,1,0,1,0,0]),[(4,AV.ptr 1 0 0 0),(5,AV.ptr 2 0 0 0),(6,AV.ptr 3 0 0 0),(7,AV.vec true 8 [(zNrD1 x0 y0),(zNrD2 x1 y0),(zNrD3 x1 y1),(zNrD4 x0 y1)]),(8,AV.ptr 4 0 0 0),(9,vi 0)],[⟨[(zNrD5 x0 y0 x1 y1 tp)],5,0,false,false⟩,⟨[ag [vi ax,vi ay]],2,0,false,false⟩,⟨[(zNrD7 bx by_)],2,0,false,false⟩,⟨[zNrD6],4,0,false,false⟩,⟨[zNrD6],4,0,false,false⟩],_,[],_⟩ (by kernel_rfl) (bc (Zak (fun h=>d3 ((ZbP Zac Zac).1 h))) (bc rfl (bc rfl (bc rfl (bc rfl (bc rfl (bc rfl (bc rfl (bc rfl b0))))))))) q0 (ce (@ev67 x0 y0 k5) (ce (@ev67 x1 y0 k6) (ce (@ev67 x1 y1 k7) (ce (@ev67 x0 y1 k8) c0)))) (ZaA [1,2,3,4] (by kernel_rfl) H)
noncomputable abbrev zNrD8 (bx:Int) (by_:Int):=ag [vb (N.Zab (N.qi bx).num),vf (us (N.Zad (N.qi bx).num)),vb (N.Zab (↑(N.qi bx).den:Int)),vf (us (N.Zad (↑(N.qi bx).den:Int))),vb (N.Zab (N.qi by_).num),vf (us (N.Zad (N.qi by_).num)),vb (N.Zab (↑(N.qi by_).den:Int)),vf (us (N.Zad (↑(N.qi by_).den:Int)))]
noncomputable abbrev zNrD9 (ax:Int) (ay:Int):=ag [vb (N.Zab (N.qi ax).num),vf (us (N.Zad (N.qi ax).num)),vb (N.Zab (↑(N.qi ax).den:Int)),vf (us (N.Zad (↑(N.qi ax).den:Int))),vb (N.Zab (N.qi ay).num),vf (us (N.Zad (N.qi ay).num)),vb (N.Zab (↑(N.qi ay).den:Int)),vf (us (N.Zad (↑(N.qi ay).den:Int)))]
noncomputable abbrev zNrD10 (u0:Rat) (v0:Rat):=ag [vb (N.Zab u0.num),vf (us (N.Zad u0.num)),vb (N.Zab (↑u0.den:Int)),vf (us (N.Zad (↑u0.den:Int))),vb (N.Zab v0.num),vf (us (N.Zad v0.num)),vb (N.Zab (↑v0.den:Int)),vf (us (N.Zad (↑v0.den:Int)))]
noncomputable abbrev zNrD11 (u1:Rat) (v0:Rat):=ag [vb (N.Zab u1.num),vf (us (N.Zad u1.num)),vb (N.Zab (↑u1.den:Int)),vf (us (N.Zad (↑u1.den:Int))),vb (N.Zab v0.num),vf (us (N.Zad v0.num)),vb (N.Zab (↑v0.den:Int)),vf (us (N.Zad (↑v0.den:Int)))]
noncomputable abbrev zNrD12:=ag [vb false,AV.vnil,vb false,AV.vnil]
noncomputable abbrev Zhl (ax:Int) (ay:Int) (bx:Int) (by_:Int) (u0:Rat) (v0:Rat) (u1:Rat):=N.seg (N.qi ax) (N.qi ay) (N.qi bx) (N.qi by_) u0 v0 u1 v0
theorem qXfa0 (u0 v0 u1 v1:Rat) (ax ay bx by_:Int)  (dq:AV) (H :
  (N.ZgL ax ay) /\
  (N.ZgL bx by_) /\
  (N.Zgz (N.qi ax) (N.qi ay) (N.qi bx) (N.qi by_) u0 v0 u1 v0) /\
  ∃ (n1:Int),
  ((¬(true=true))->(Ev M1 (Conf.pure 47 [ratF (N.seg (N.qi ax) (N.qi ay) (N.qi bx) (N.qi by_) u0 v0 u1 v0),ag [vb false,AV.vnil,vb false,AV.vnil]]) (vi n1) [])) /\
  ZfY u0 v0 u1 v1 ax ay bx by_ (N.seg (N.qi ax) (N.qi ay) (N.qi bx) (N.qi by_) u0 v0 u1 v0) (Zag dq)) :
 ZfZ u0 v0 u1 v1 ax ay bx by_ (Zag dq):=by
 unfold ZfZ
 obtain ⟨k4,k5,k6,n1,k8,H⟩:=H
 exact Zaf (G:=Zae kp48 [(8,4,.call ((zNrD9 ax ay)) none),(8,9,.call ((zNrD8 bx by_)) none),(8,20,.call (ratF (Zhl ax ay bx by_ u0 v0 u1)) none),(9,5,.call (vi n1) none)] [(8,[6022,6021,902020,902019,902018,902013,902012,902009,3008,3006,902004,2003,2001])]) 1000 [true,true] ⟨(atC (cd Tryz.f48) [1,1,1,1,0,1,0,0]),[(4,AV.ptr 0 0 0 0),(5,AV.ptr 1 0 0 0),(6,AV.ptr 2 0 0 0),(7,AV.vec true 8 [(zNrD10 u0 v0),(zNrD11 u1 v0),ag [vb (N.Zab u1.num),vf (us (N.Zad u1.num)),vb (N.Zab (↑u1.den:Int)),vf (us (N.Zad (↑u1.den:Int))),vb (N.Zab v1.num),vf (us (N.Zad v1.num)),vb (N.Zab (↑v1.den:Int)),vf (us (N.Zad (↑v1.den:Int)))],ag [vb (N.Zab u0.num),vf (us (N.Zad u0.num)),vb (N.Zab (↑u0.den:Int)),vf (us (N.Zad (↑u0.den:Int))),vb (N.Zab v1.num),vf (us (N.Zad v1.num)),vb (N.Zab (↑v1.den:Int)),vf (us (N.Zad (↑v1.den:Int)))]]),(8,AV.ptr 3 0 0 0),(9,vi 1)],[⟨[ag [vi ax,vi ay]],2,0,false,false⟩,⟨[ag [vi bx,vi by_]],2,0,false,false⟩,⟨[zNrD12],4,0,false,false⟩,⟨[ratF (Zhl ax ay bx by_ u0 v0 u1)],4,0,false,false⟩,⟨[ratF (Zhl ax ay bx by_ u0 v0 u1)],4,0,false,false⟩],_,[],[⟨true,false,67,[vi ax,vi ay],[],(zNrD9 ax ay),[]⟩,⟨true,false,67,[vi bx,vi by_],[],(zNrD8 bx by_),[]⟩,⟨true,false,68,[(zNrD9 ax ay),(zNrD8 bx by_),(zNrD10 u0 v0),(zNrD11 u1 v0)],[],ratF (Zhl ax ay bx by_ u0 v0 u1),[]⟩,⟨true==false&&true&&true,false,47,[ratF (Zhl ax ay bx by_ u0 v0 u1),zNrD12],[],vi n1,[]⟩]⟩ (by kernel_rfl) (bc rfl (bc rfl (bc rfl (bc rfl (bc rfl (bc rfl (bc rfl (bc rfl (bc rfl (bc rfl (bc rfl (bc rfl (bc rfl (bc rfl (bc rfl (bc rfl b0)))))))))))))))) q0 (cc (fun _=>(@ev67 ax ay k4)) (cc (fun _=>(@ev67 bx by_ k5)) (cc (fun _=>(@ev68 false false false false false false false false false false false false false false false false (N.qi ax) (N.qi ay) (N.qi bx) (N.qi by_) u0 v0 u1 v0 k6)) (cc (fun hc=>((k8 ((i_at (i_at (i_bf (Zbu _)))).1 hc)):Ev M1 (Conf.pure 47 [ratF (Zhl ax ay bx by_ u0 v0 u1),zNrD12]) (vi n1) [])) c0)))) (ZaA [0,1,2,3] (by kernel_rfl) H)
noncomputable abbrev zNrD14 (u1:Rat) (v0:Rat):=ag [vb (N.Zab u1.num),vf (us (N.Zad u1.num)),vb (N.Zab (↑u1.den:Int)),vf (us (N.Zad (↑u1.den:Int))),vb (N.Zab v0.num),vf (us (N.Zad v0.num)),vb (N.Zab (↑v0.den:Int)),vf (us (N.Zad (↑v0.den:Int)))]
noncomputable abbrev zNrD15 (u1:Rat) (v1:Rat):=ag [vb (N.Zab u1.num),vf (us (N.Zad u1.num)),vb (N.Zab (↑u1.den:Int)),vf (us (N.Zad (↑u1.den:Int))),vb (N.Zab v1.num),vf (us (N.Zad v1.num)),vb (N.Zab (↑v1.den:Int)),vf (us (N.Zad (↑v1.den:Int)))]
noncomputable abbrev zNrD16 (bx:Int) (by_:Int):=ag [vb (N.Zab (N.qi bx).num),vf (us (N.Zad (N.qi bx).num)),vb (N.Zab (↑(N.qi bx).den:Int)),vf (us (N.Zad (↑(N.qi bx).den:Int))),vb (N.Zab (N.qi by_).num),vf (us (N.Zad (N.qi by_).num)),vb (N.Zab (↑(N.qi by_).den:Int)),vf (us (N.Zad (↑(N.qi by_).den:Int)))]
noncomputable abbrev zNrD17 (ax:Int) (ay:Int):=ag [vb (N.Zab (N.qi ax).num),vf (us (N.Zad (N.qi ax).num)),vb (N.Zab (↑(N.qi ax).den:Int)),vf (us (N.Zad (↑(N.qi ax).den:Int))),vb (N.Zab (N.qi ay).num),vf (us (N.Zad (N.qi ay).num)),vb (N.Zab (↑(N.qi ay).den:Int)),vf (us (N.Zad (↑(N.qi ay).den:Int)))]
noncomputable abbrev zNrD18 (u0:Rat) (v0:Rat):=ag [vb (N.Zab u0.num),vf (us (N.Zad u0.num)),vb (N.Zab (↑u0.den:Int)),vf (us (N.Zad (↑u0.den:Int))),vb (N.Zab v0.num),vf (us (N.Zad v0.num)),vb (N.Zab (↑v0.den:Int)),vf (us (N.Zad (↑v0.den:Int)))]
noncomputable abbrev zNrD19 (u0:Rat) (v1:Rat):=ag [vb (N.Zab u0.num),vf (us (N.Zad u0.num)),vb (N.Zab (↑u0.den:Int)),vf (us (N.Zad (↑u0.den:Int))),vb (N.Zab v1.num),vf (us (N.Zad v1.num)),vb (N.Zab (↑v1.den:Int)),vf (us (N.Zad (↑v1.den:Int)))]
noncomputable abbrev Zcg (ax:Int) (ay:Int) (bx:Int) (by_:Int) (u1:Rat) (v0:Rat) (v1:Rat):=N.seg (N.qi ax) (N.qi ay) (N.qi bx) (N.qi by_) u1 v0 u1 v1
noncomputable abbrev zNrD21:=ag [vb false,AV.vnil,vb false,AV.vnil]
theorem qXfa1 (u0 v0 u1 v1:Rat) (ax ay bx by_:Int) (q:Rat)  (dq:AV) (H :
  (N.ZgL ax ay) /\
  (N.ZgL bx by_) /\
  (N.Zgz (N.qi ax) (N.qi ay) (N.qi bx) (N.qi by_) u1 v0 u1 v1) /\
  ((¬(false=true))->(N.okR (N.seg (N.qi ax) (N.qi ay) (N.qi bx) (N.qi by_) u1 v0 u1 v1)/\N.okR q)) /\
  ((N.sgnI ((N.seg (N.qi ax) (N.qi ay) (N.qi bx) (N.qi by_) u1 v0 u1 v1).num*(↑q.den:Int)-q.num*(↑(N.seg (N.qi ax) (N.qi ay) (N.qi bx) (N.qi by_) u1 v0 u1 v1).den:Int))<0)->ZeW u0 v0 u1 v1 ax ay bx by_ (N.seg (N.qi ax) (N.qi ay) (N.qi bx) (N.qi by_) u1 v0 u1 v1) (Zag dq)) /\
  (¬(N.sgnI ((N.seg (N.qi ax) (N.qi ay) (N.qi bx) (N.qi by_) u1 v0 u1 v1).num*(↑q.den:Int)-q.num*(↑(N.seg (N.qi ax) (N.qi ay) (N.qi bx) (N.qi by_) u1 v0 u1 v1).den:Int))<0)->ZeW u0 v0 u1 v1 ax ay bx by_ q (Zag dq))) :
 ZfY u0 v0 u1 v1 ax ay bx by_ q (Zag dq):=by
 unfold ZfY
 obtain ⟨k4,k5,k6,k8,H⟩:=H
 refine Zaf (G:=Zae kp48 [(8,4,.call ((zNrD17 ax ay)) none),(8,9,.call ((zNrD16 bx by_)) none),(8,20,.call (ratF (Zcg ax ay bx by_ u1 v0 v1)) none),(9,5,.call (vi (N.sgnI ((Zcg ax ay bx by_ u1 v0 v1).num*(↑q.den:Int)-q.num*(↑(Zcg ax ay bx by_ u1 v0 v1).den:Int)))) none)] [(8,[6022,6021,902020,902019,902018,902013,902012,902009,3008,3006,902004,2003,2001])]) 11 [true] ⟨(atC (cd Tryz.f48) [1,1,1,1,0,1,0,0,1,0,0,1,1]),[(4,AV.ptr 0 0 0 0),(5,AV.ptr 1 0 0 0),(6,AV.ptr 2 0 0 0),(7,AV.vec true 8 [(zNrD18 u0 v0),(zNrD14 u1 v0),(zNrD15 u1 v1),(zNrD19 u0 v1)]),(8,AV.ptr 3 0 0 0),(9,vi 1),(10,AV.ptr 4 0 0 0),(73,vb (decide (N.sgnI ((Zcg ax ay bx by_ u1 v0 v1).num*(↑q.den:Int)-q.num*(↑(Zcg ax ay bx by_ u1 v0 v1).den:Int))<0)))],[⟨[ag [vi ax,vi ay]],2,0,false,false⟩,⟨[ag [vi bx,vi by_]],2,0,false,false⟩,⟨[zNrD21],4,0,false,false⟩,⟨[ratF q],4,0,false,false⟩,⟨[ratF (Zcg ax ay bx by_ u1 v0 v1)],4,0,false,false⟩],_,[],[⟨true,false,67,[vi ax,vi ay],[],(zNrD17 ax ay),[]⟩,⟨true,false,67,[vi bx,vi by_],[],(zNrD16 bx by_),[]⟩,⟨true,false,68,[(zNrD17 ax ay),(zNrD16 bx by_),(zNrD14 u1 v0),(zNrD15 u1 v1)],[],ratF (Zcg ax ay bx by_ u1 v0 v1),[]⟩,⟨false==false&&true&&true,false,47,[ratF (Zcg ax ay bx by_ u1 v0 v1),ratF q],[],vi (N.sgnI ((Zcg ax ay bx by_ u1 v0 v1).num*(↑q.den:Int)-q.num*(↑(Zcg ax ay bx by_ u1 v0 v1).den:Int))),[]⟩]⟩ (by kernel_rfl) (bc rfl (bc rfl (bc rfl (bc rfl (bc rfl (bc rfl (bc rfl (bc rfl (bc rfl (bc rfl (bc rfl (bc rfl (bc rfl b0))))))))))))) q0 (cc (fun _=>(@ev67 ax ay k4)) (cc (fun _=>(@ev67 bx by_ k5)) (cc (fun _=>(@ev68 false false false false false false false false false false false false false false false false (N.qi ax) (N.qi ay) (N.qi bx) (N.qi by_) u1 v0 u1 v1 k6)) (cc (fun hc=>((@ev47 false false false false (Zcg ax ay bx by_ u1 v0 v1) q (k8 ((i_at (i_at (i_bf (Zbu _)))).1 hc))):Ev M1 (Conf.pure 47 [ratF (Zcg ax ay bx by_ u1 v0 v1),ratF q]) (vi (N.sgnI ((Zcg ax ay bx by_ u1 v0 v1).num*(↑q.den:Int)-q.num*(↑(Zcg ax ay bx by_ u1 v0 v1).den:Int)))) [])) c0)))) ?_
 rcases xq H with ⟨d10,H⟩|⟨d10,H⟩
 ·exact Zaf (G:=Zae kp48 [] []) 1000 [true] ⟨(atC (cd Tryz.f48) [1,1,1,1,0,1,0,0]),[(4,AV.ptr 0 0 0 0),(5,AV.ptr 1 0 0 0),(6,AV.ptr 2 0 0 0),(7,AV.vec true 8 [(zNrD18 u0 v0),(zNrD14 u1 v0),(zNrD15 u1 v1),(zNrD19 u0 v1)]),(8,AV.ptr 3 0 0 0),(9,vi 2)],[⟨[ag [vi ax,vi ay]],2,0,false,false⟩,⟨[ag [vi bx,vi by_]],2,0,false,false⟩,⟨[zNrD21],4,0,false,false⟩,⟨[ratF (Zcg ax ay bx by_ u1 v0 v1)],4,0,false,false⟩,⟨[ratF (Zcg ax ay bx by_ u1 v0 v1)],4,0,false,false⟩],_,[],_⟩ (by kernel_rfl) (bc (Zam (Zac.2 d10)) (bc rfl (bc rfl b0))) q0 c0 (ZaA [0,1,2,3] (by kernel_rfl) H)
 ·exact Zaf (G:=Zae kp48 [] []) 1000 [false] ⟨(atC (cd Tryz.f48) [1,1,1,1,0,1,0,0]),[(4,AV.ptr 0 0 0 0),(5,AV.ptr 1 0 0 0),(6,AV.ptr 2 0 0 0),(7,AV.vec true 8 [(zNrD18 u0 v0),(zNrD14 u1 v0),(zNrD15 u1 v1),(zNrD19 u0 v1)]),(8,AV.ptr 3 0 0 0),(9,vi 2)],[⟨[ag [vi ax,vi ay]],2,0,false,false⟩,⟨[ag [vi bx,vi by_]],2,0,false,false⟩,⟨[zNrD21],4,0,false,false⟩,⟨[ratF q],4,0,false,false⟩,⟨[ratF (Zcg ax ay bx by_ u1 v0 v1)],4,0,false,false⟩],_,[],_⟩ (by kernel_rfl) (bc (Zak (fun h=>d10 (Zac.1 h))) b0) q0 c0 (ZaA [0,1,2,3] (by kernel_rfl) H)
noncomputable abbrev zNrD22 (u1:Rat) (v1:Rat):=ag [vb (N.Zab u1.num),vf (us (N.Zad u1.num)),vb (N.Zab (↑u1.den:Int)),vf (us (N.Zad (↑u1.den:Int))),vb (N.Zab v1.num),vf (us (N.Zad v1.num)),vb (N.Zab (↑v1.den:Int)),vf (us (N.Zad (↑v1.den:Int)))]
noncomputable abbrev zNrD23 (u0:Rat) (v1:Rat):=ag [vb (N.Zab u0.num),vf (us (N.Zad u0.num)),vb (N.Zab (↑u0.den:Int)),vf (us (N.Zad (↑u0.den:Int))),vb (N.Zab v1.num),vf (us (N.Zad v1.num)),vb (N.Zab (↑v1.den:Int)),vf (us (N.Zad (↑v1.den:Int)))]
noncomputable abbrev zNrD24 (bx:Int) (by_:Int):=ag [vb (N.Zab (N.qi bx).num),vf (us (N.Zad (N.qi bx).num)),vb (N.Zab (↑(N.qi bx).den:Int)),vf (us (N.Zad (↑(N.qi bx).den:Int))),vb (N.Zab (N.qi by_).num),vf (us (N.Zad (N.qi by_).num)),vb (N.Zab (↑(N.qi by_).den:Int)),vf (us (N.Zad (↑(N.qi by_).den:Int)))]
noncomputable abbrev zNrD25 (ax:Int) (ay:Int):=ag [vb (N.Zab (N.qi ax).num),vf (us (N.Zad (N.qi ax).num)),vb (N.Zab (↑(N.qi ax).den:Int)),vf (us (N.Zad (↑(N.qi ax).den:Int))),vb (N.Zab (N.qi ay).num),vf (us (N.Zad (N.qi ay).num)),vb (N.Zab (↑(N.qi ay).den:Int)),vf (us (N.Zad (↑(N.qi ay).den:Int)))]
noncomputable abbrev zNrD26 (u0:Rat) (v0:Rat):=ag [vb (N.Zab u0.num),vf (us (N.Zad u0.num)),vb (N.Zab (↑u0.den:Int)),vf (us (N.Zad (↑u0.den:Int))),vb (N.Zab v0.num),vf (us (N.Zad v0.num)),vb (N.Zab (↑v0.den:Int)),vf (us (N.Zad (↑v0.den:Int)))]
noncomputable abbrev zNrD27 (u1:Rat) (v0:Rat):=ag [vb (N.Zab u1.num),vf (us (N.Zad u1.num)),vb (N.Zab (↑u1.den:Int)),vf (us (N.Zad (↑u1.den:Int))),vb (N.Zab v0.num),vf (us (N.Zad v0.num)),vb (N.Zab (↑v0.den:Int)),vf (us (N.Zad (↑v0.den:Int)))]
noncomputable abbrev Zcf (ax:Int) (ay:Int) (bx:Int) (by_:Int) (u1:Rat) (v1:Rat) (u0:Rat):=N.seg (N.qi ax) (N.qi ay) (N.qi bx) (N.qi by_) u1 v1 u0 v1
noncomputable abbrev zNrD29:=ag [vb false,AV.vnil,vb false,AV.vnil]
theorem qXfa2 (u0 v0 u1 v1:Rat) (ax ay bx by_:Int) (q:Rat)  (dq:AV) (H :
  (N.ZgL ax ay) /\
  (N.ZgL bx by_) /\
  (N.Zgz (N.qi ax) (N.qi ay) (N.qi bx) (N.qi by_) u1 v1 u0 v1) /\
  ((¬(false=true))->(N.okR (N.seg (N.qi ax) (N.qi ay) (N.qi bx) (N.qi by_) u1 v1 u0 v1)/\N.okR q)) /\
  ((N.sgnI ((N.seg (N.qi ax) (N.qi ay) (N.qi bx) (N.qi by_) u1 v1 u0 v1).num*(↑q.den:Int)-q.num*(↑(N.seg (N.qi ax) (N.qi ay) (N.qi bx) (N.qi by_) u1 v1 u0 v1).den:Int))<0)->ZeV u0 v0 u1 v1 ax ay bx by_ (N.seg (N.qi ax) (N.qi ay) (N.qi bx) (N.qi by_) u1 v1 u0 v1) (Zag dq)) /\
  (¬(N.sgnI ((N.seg (N.qi ax) (N.qi ay) (N.qi bx) (N.qi by_) u1 v1 u0 v1).num*(↑q.den:Int)-q.num*(↑(N.seg (N.qi ax) (N.qi ay) (N.qi bx) (N.qi by_) u1 v1 u0 v1).den:Int))<0)->ZeV u0 v0 u1 v1 ax ay bx by_ q (Zag dq))) :
 ZeW u0 v0 u1 v1 ax ay bx by_ q (Zag dq):=by
 unfold ZeW
 obtain ⟨k4,k5,k6,k8,H⟩:=H
 refine Zaf (G:=Zae kp48 [(8,4,.call ((zNrD25 ax ay)) none),(8,9,.call ((zNrD24 bx by_)) none),(8,20,.call (ratF (Zcf ax ay bx by_ u1 v1 u0)) none),(9,5,.call (vi (N.sgnI ((Zcf ax ay bx by_ u1 v1 u0).num*(↑q.den:Int)-q.num*(↑(Zcf ax ay bx by_ u1 v1 u0).den:Int)))) none)] [(8,[6022,6021,902020,902019,902018,902013,902012,902009,3008,3006,902004,2003,2001])]) 11 [true] ⟨(atC (cd Tryz.f48) [1,1,1,1,0,1,0,0,1,0,0,1,1]),[(4,AV.ptr 0 0 0 0),(5,AV.ptr 1 0 0 0),(6,AV.ptr 2 0 0 0),(7,AV.vec true 8 [(zNrD26 u0 v0),(zNrD27 u1 v0),(zNrD22 u1 v1),(zNrD23 u0 v1)]),(8,AV.ptr 3 0 0 0),(9,vi 2),(10,AV.ptr 4 0 0 0),(73,vb (decide (N.sgnI ((Zcf ax ay bx by_ u1 v1 u0).num*(↑q.den:Int)-q.num*(↑(Zcf ax ay bx by_ u1 v1 u0).den:Int))<0)))],[⟨[ag [vi ax,vi ay]],2,0,false,false⟩,⟨[ag [vi bx,vi by_]],2,0,false,false⟩,⟨[zNrD29],4,0,false,false⟩,⟨[ratF q],4,0,false,false⟩,⟨[ratF (Zcf ax ay bx by_ u1 v1 u0)],4,0,false,false⟩],_,[],[⟨true,false,67,[vi ax,vi ay],[],(zNrD25 ax ay),[]⟩,⟨true,false,67,[vi bx,vi by_],[],(zNrD24 bx by_),[]⟩,⟨true,false,68,[(zNrD25 ax ay),(zNrD24 bx by_),(zNrD22 u1 v1),(zNrD23 u0 v1)],[],ratF (Zcf ax ay bx by_ u1 v1 u0),[]⟩,⟨false==false&&true&&true,false,47,[ratF (Zcf ax ay bx by_ u1 v1 u0),ratF q],[],vi (N.sgnI ((Zcf ax ay bx by_ u1 v1 u0).num*(↑q.den:Int)-q.num*(↑(Zcf ax ay bx by_ u1 v1 u0).den:Int))),[]⟩]⟩ (by kernel_rfl) (bc rfl (bc rfl (bc rfl (bc rfl (bc rfl (bc rfl (bc rfl (bc rfl (bc rfl (bc rfl (bc rfl (bc rfl (bc rfl b0))))))))))))) q0 (cc (fun _=>(@ev67 ax ay k4)) (cc (fun _=>(@ev67 bx by_ k5)) (cc (fun _=>(@ev68 false false false false false false false false false false false false false false false false (N.qi ax) (N.qi ay) (N.qi bx) (N.qi by_) u1 v1 u0 v1 k6)) (cc (fun hc=>((@ev47 false false false false (Zcf ax ay bx by_ u1 v1 u0) q (k8 ((i_at (i_at (i_bf (Zbu _)))).1 hc))):Ev M1 (Conf.pure 47 [ratF (Zcf ax ay bx by_ u1 v1 u0),ratF q]) (vi (N.sgnI ((Zcf ax ay bx by_ u1 v1 u0).num*(↑q.den:Int)-q.num*(↑(Zcf ax ay bx by_ u1 v1 u0).den:Int)))) [])) c0)))) ?_
 rcases xq H with ⟨d10,H⟩|⟨d10,H⟩
 ·exact Zaf (G:=Zae kp48 [] []) 1000 [true] ⟨(atC (cd Tryz.f48) [1,1,1,1,0,1,0,0]),[(4,AV.ptr 0 0 0 0),(5,AV.ptr 1 0 0 0),(6,AV.ptr 2 0 0 0),(7,AV.vec true 8 [(zNrD26 u0 v0),(zNrD27 u1 v0),(zNrD22 u1 v1),(zNrD23 u0 v1)]),(8,AV.ptr 3 0 0 0),(9,vi 3)],[⟨[ag [vi ax,vi ay]],2,0,false,false⟩,⟨[ag [vi bx,vi by_]],2,0,false,false⟩,⟨[zNrD29],4,0,false,false⟩,⟨[ratF (Zcf ax ay bx by_ u1 v1 u0)],4,0,false,false⟩,⟨[ratF (Zcf ax ay bx by_ u1 v1 u0)],4,0,false,false⟩],_,[],_⟩ (by kernel_rfl) (bc (Zam (Zac.2 d10)) (bc rfl (bc rfl b0))) q0 c0 (ZaA [0,1,2,3] (by kernel_rfl) H)
 ·exact Zaf (G:=Zae kp48 [] []) 1000 [false] ⟨(atC (cd Tryz.f48) [1,1,1,1,0,1,0,0]),[(4,AV.ptr 0 0 0 0),(5,AV.ptr 1 0 0 0),(6,AV.ptr 2 0 0 0),(7,AV.vec true 8 [(zNrD26 u0 v0),(zNrD27 u1 v0),(zNrD22 u1 v1),(zNrD23 u0 v1)]),(8,AV.ptr 3 0 0 0),(9,vi 3)],[⟨[ag [vi ax,vi ay]],2,0,false,false⟩,⟨[ag [vi bx,vi by_]],2,0,false,false⟩,⟨[zNrD29],4,0,false,false⟩,⟨[ratF q],4,0,false,false⟩,⟨[ratF (Zcf ax ay bx by_ u1 v1 u0)],4,0,false,false⟩],_,[],_⟩ (by kernel_rfl) (bc (Zak (fun h=>d10 (Zac.1 h))) b0) q0 c0 (ZaA [0,1,2,3] (by kernel_rfl) H)
noncomputable abbrev zNrD30 (u0:Rat) (v0:Rat):=ag [vb (N.Zab u0.num),vf (us (N.Zad u0.num)),vb (N.Zab (↑u0.den:Int)),vf (us (N.Zad (↑u0.den:Int))),vb (N.Zab v0.num),vf (us (N.Zad v0.num)),vb (N.Zab (↑v0.den:Int)),vf (us (N.Zad (↑v0.den:Int)))]
noncomputable abbrev zNrD31 (u0:Rat) (v1:Rat):=ag [vb (N.Zab u0.num),vf (us (N.Zad u0.num)),vb (N.Zab (↑u0.den:Int)),vf (us (N.Zad (↑u0.den:Int))),vb (N.Zab v1.num),vf (us (N.Zad v1.num)),vb (N.Zab (↑v1.den:Int)),vf (us (N.Zad (↑v1.den:Int)))]
noncomputable abbrev zNrD32 (bx:Int) (by_:Int):=ag [vb (N.Zab (N.qi bx).num),vf (us (N.Zad (N.qi bx).num)),vb (N.Zab (↑(N.qi bx).den:Int)),vf (us (N.Zad (↑(N.qi bx).den:Int))),vb (N.Zab (N.qi by_).num),vf (us (N.Zad (N.qi by_).num)),vb (N.Zab (↑(N.qi by_).den:Int)),vf (us (N.Zad (↑(N.qi by_).den:Int)))]
noncomputable abbrev zNrD33 (ax:Int) (ay:Int):=ag [vb (N.Zab (N.qi ax).num),vf (us (N.Zad (N.qi ax).num)),vb (N.Zab (↑(N.qi ax).den:Int)),vf (us (N.Zad (↑(N.qi ax).den:Int))),vb (N.Zab (N.qi ay).num),vf (us (N.Zad (N.qi ay).num)),vb (N.Zab (↑(N.qi ay).den:Int)),vf (us (N.Zad (↑(N.qi ay).den:Int)))]
noncomputable abbrev zNrD34 (u1:Rat) (v0:Rat):=ag [vb (N.Zab u1.num),vf (us (N.Zad u1.num)),vb (N.Zab (↑u1.den:Int)),vf (us (N.Zad (↑u1.den:Int))),vb (N.Zab v0.num),vf (us (N.Zad v0.num)),vb (N.Zab (↑v0.den:Int)),vf (us (N.Zad (↑v0.den:Int)))]
noncomputable abbrev zNrD35 (u1:Rat) (v1:Rat):=ag [vb (N.Zab u1.num),vf (us (N.Zad u1.num)),vb (N.Zab (↑u1.den:Int)),vf (us (N.Zad (↑u1.den:Int))),vb (N.Zab v1.num),vf (us (N.Zad v1.num)),vb (N.Zab (↑v1.den:Int)),vf (us (N.Zad (↑v1.den:Int)))]
noncomputable abbrev Zce (ax:Int) (ay:Int) (bx:Int) (by_:Int) (u0:Rat) (v1:Rat) (v0:Rat):=N.seg (N.qi ax) (N.qi ay) (N.qi bx) (N.qi by_) u0 v1 u0 v0
noncomputable abbrev zNrD37:=ag [vb false,AV.vnil,vb false,AV.vnil]
theorem qXfa3 (u0 v0 u1 v1:Rat) (ax ay bx by_:Int) (q:Rat)  (dq:AV) (H :
  (N.ZgL ax ay) /\
  (N.ZgL bx by_) /\
  (N.Zgz (N.qi ax) (N.qi ay) (N.qi bx) (N.qi by_) u0 v1 u0 v0) /\
  ((¬(false=true))->(N.okR (N.seg (N.qi ax) (N.qi ay) (N.qi bx) (N.qi by_) u0 v1 u0 v0)/\N.okR q)) /\
  ((N.sgnI ((N.seg (N.qi ax) (N.qi ay) (N.qi bx) (N.qi by_) u0 v1 u0 v0).num*(↑q.den:Int)-q.num*(↑(N.seg (N.qi ax) (N.qi ay) (N.qi bx) (N.qi by_) u0 v1 u0 v0).den:Int))<0)->ZeU u0 v0 u1 v1 ax ay bx by_ (N.seg (N.qi ax) (N.qi ay) (N.qi bx) (N.qi by_) u0 v1 u0 v0) (Zag dq)) /\
  (¬(N.sgnI ((N.seg (N.qi ax) (N.qi ay) (N.qi bx) (N.qi by_) u0 v1 u0 v0).num*(↑q.den:Int)-q.num*(↑(N.seg (N.qi ax) (N.qi ay) (N.qi bx) (N.qi by_) u0 v1 u0 v0).den:Int))<0)->ZeU u0 v0 u1 v1 ax ay bx by_ q (Zag dq))) :
 ZeV u0 v0 u1 v1 ax ay bx by_ q (Zag dq):=by
 unfold ZeV
 obtain ⟨k4,k5,k6,k8,H⟩:=H
 refine Zaf (G:=Zae kp48 [(8,4,.call ((zNrD33 ax ay)) none),(8,9,.call ((zNrD32 bx by_)) none),(8,20,.call (ratF (Zce ax ay bx by_ u0 v1 v0)) none),(9,5,.call (vi (N.sgnI ((Zce ax ay bx by_ u0 v1 v0).num*(↑q.den:Int)-q.num*(↑(Zce ax ay bx by_ u0 v1 v0).den:Int)))) none)] [(8,[6022,6021,902020,902019,902018,902013,902012,902009,3008,3006,902004,2003,2001])]) 11 [true] ⟨(atC (cd Tryz.f48) [1,1,1,1,0,1,0,0,1,0,0,1,1]),[(4,AV.ptr 0 0 0 0),(5,AV.ptr 1 0 0 0),(6,AV.ptr 2 0 0 0),(7,AV.vec true 8 [(zNrD30 u0 v0),(zNrD34 u1 v0),(zNrD35 u1 v1),(zNrD31 u0 v1)]),(8,AV.ptr 3 0 0 0),(9,vi 3),(10,AV.ptr 4 0 0 0),(73,vb (decide (N.sgnI ((Zce ax ay bx by_ u0 v1 v0).num*(↑q.den:Int)-q.num*(↑(Zce ax ay bx by_ u0 v1 v0).den:Int))<0)))],[⟨[ag [vi ax,vi ay]],2,0,false,false⟩,⟨[ag [vi bx,vi by_]],2,0,false,false⟩,⟨[zNrD37],4,0,false,false⟩,⟨[ratF q],4,0,false,false⟩,⟨[ratF (Zce ax ay bx by_ u0 v1 v0)],4,0,false,false⟩],_,[],[⟨true,false,67,[vi ax,vi ay],[],(zNrD33 ax ay),[]⟩,⟨true,false,67,[vi bx,vi by_],[],(zNrD32 bx by_),[]⟩,⟨true,false,68,[(zNrD33 ax ay),(zNrD32 bx by_),(zNrD31 u0 v1),(zNrD30 u0 v0)],[],ratF (Zce ax ay bx by_ u0 v1 v0),[]⟩,⟨false==false&&true&&true,false,47,[ratF (Zce ax ay bx by_ u0 v1 v0),ratF q],[],vi (N.sgnI ((Zce ax ay bx by_ u0 v1 v0).num*(↑q.den:Int)-q.num*(↑(Zce ax ay bx by_ u0 v1 v0).den:Int))),[]⟩]⟩ (by kernel_rfl) (bc rfl (bc rfl (bc rfl (bc rfl (bc rfl (bc rfl (bc rfl (bc rfl (bc rfl (bc rfl (bc rfl (bc rfl (bc rfl b0))))))))))))) q0 (cc (fun _=>(@ev67 ax ay k4)) (cc (fun _=>(@ev67 bx by_ k5)) (cc (fun _=>(@ev68 false false false false false false false false false false false false false false false false (N.qi ax) (N.qi ay) (N.qi bx) (N.qi by_) u0 v1 u0 v0 k6)) (cc (fun hc=>((@ev47 false false false false (Zce ax ay bx by_ u0 v1 v0) q (k8 ((i_at (i_at (i_bf (Zbu _)))).1 hc))):Ev M1 (Conf.pure 47 [ratF (Zce ax ay bx by_ u0 v1 v0),ratF q]) (vi (N.sgnI ((Zce ax ay bx by_ u0 v1 v0).num*(↑q.den:Int)-q.num*(↑(Zce ax ay bx by_ u0 v1 v0).den:Int)))) [])) c0)))) ?_
 rcases xq H with ⟨d10,H⟩|⟨d10,H⟩
 ·exact Zaf (G:=Zae kp48 [] []) 1000 [true] ⟨(atC (cd Tryz.f48) [1,1,1,1,0,1,0,0]),[(4,AV.ptr 0 0 0 0),(5,AV.ptr 1 0 0 0),(6,AV.ptr 2 0 0 0),(7,AV.vec true 8 [(zNrD30 u0 v0),(zNrD34 u1 v0),(zNrD35 u1 v1),(zNrD31 u0 v1)]),(8,AV.ptr 3 0 0 0),(9,vi 4)],[⟨[ag [vi ax,vi ay]],2,0,false,false⟩,⟨[ag [vi bx,vi by_]],2,0,false,false⟩,⟨[zNrD37],4,0,false,false⟩,⟨[ratF (Zce ax ay bx by_ u0 v1 v0)],4,0,false,false⟩,⟨[ratF (Zce ax ay bx by_ u0 v1 v0)],4,0,false,false⟩],_,[],_⟩ (by kernel_rfl) (bc (Zam (Zac.2 d10)) (bc rfl (bc rfl b0))) q0 c0 (ZaA [0,1,2,3] (by kernel_rfl) H)
 ·exact Zaf (G:=Zae kp48 [] []) 1000 [false] ⟨(atC (cd Tryz.f48) [1,1,1,1,0,1,0,0]),[(4,AV.ptr 0 0 0 0),(5,AV.ptr 1 0 0 0),(6,AV.ptr 2 0 0 0),(7,AV.vec true 8 [(zNrD30 u0 v0),(zNrD34 u1 v0),(zNrD35 u1 v1),(zNrD31 u0 v1)]),(8,AV.ptr 3 0 0 0),(9,vi 4)],[⟨[ag [vi ax,vi ay]],2,0,false,false⟩,⟨[ag [vi bx,vi by_]],2,0,false,false⟩,⟨[zNrD37],4,0,false,false⟩,⟨[ratF q],4,0,false,false⟩,⟨[ratF (Zce ax ay bx by_ u0 v1 v0)],4,0,false,false⟩],_,[],_⟩ (by kernel_rfl) (bc (Zak (fun h=>d10 (Zac.1 h))) b0) q0 c0 (ZaA [0,1,2,3] (by kernel_rfl) H)
theorem qXfa4 (u0 v0 u1 v1:Rat) (ax ay bx by_:Int) (q:Rat)  (dq:AV) (H :
  Weak (ratF q) dq) :
 ZeU u0 v0 u1 v1 ax ay bx by_ q (Zag dq):=by
 unfold ZeU
 exact Zaj (G:=Zae kp48 [] []) 1000 [false] (ratF q) (by kernel_rfl) (bc rfl (bc rfl (bc rfl b0))) q0 c0 H
end Go.Av

namespace Go.Av
open Go.Proofs
namespace N
noncomputable def farS (p0 q0 p1 q1 a1 a2 b1 b2:Rat):Rat:=mn (seg a1 a2 b1 b2 p0 q1 p0 q0) (mn (seg a1 a2 b1 b2 p1 q1 p0 q1) (mn (seg a1 a2 b1 b2 p1 q0 p1 q1) (seg a1 a2 b1 b2 p0 q0 p1 q0)))
noncomputable def farQ (x0 y0 x1 y1 ax ay bx by_:Int):Rat:=if hld x0 y0 x1 y1 ax ay\/hld x0 y0 x1 y1 bx by_ then qi 0 else farS (qi x0) (qi y0) (qi x1) (qi y1) (qi ax) (qi ay) (qi bx) (qi by_)
def okFa (x0 y0 x1 y1 ax ay bx by_:Int):Prop:=cc x0/\cc y0/\cc x1/\cc y1/\cc ax/\cc ay/\cc bx/\cc by_
end N
theorem mn_lt {r q m:Rat}:N.mn r q<m ↔ r<m\/q<m:=by
 unfold N.mn
 split <;> constructor <;> intro h <;> grind
theorem far_lt {p0 q0 p1 q1 a1 a2 b1 b2 m:Rat}:N.farS p0 q0 p1 q1 a1 a2 b1 b2<m ↔ N.neS p0 q0 p1 q1 a1 a2 b1 b2 m:=by
 unfold N.farS N.neS
 rw [mn_lt,mn_lt,mn_lt]
 constructor
 ·rintro (h | h | h | h)
  ·exact .inr (.inr (.inr h))
  ·exact .inr (.inr (.inl h))
  ·exact .inr (.inl h)
  ·exact .inl h
 ·rintro (h | h | h | h)
  ·exact .inr (.inr (.inr h))
  ·exact .inr (.inr (.inl h))
  ·exact .inr (.inl h)
  ·exact .inl h
theorem near_far {x0 y0 x1 y1 ax ay bx by_ r:Int}:N.nea x0 y0 x1 y1 ax ay bx by_ r ↔ r>0/\N.farQ x0 y0 x1 y1 ax ay bx by_<N.qi r*N.qi r:=by
 unfold N.nea N.farQ
 constructor
 ·rintro ⟨h,k⟩
  refine ⟨by omega,?_⟩
  split
  ·rename_i j
   rw [qi_eq,qi_eq]
   have:(0:Rat)<(r:Rat):=Rat.intCast_lt_intCast (a:=0).2 (by omega)
   have:=Rat.mul_pos this this
   simpa using this
  ·rename_i j
   rcases k with k | k | k
   ·exact absurd (.inl k) j
   ·exact absurd (.inr k) j
   ·exact far_lt.2 k
 ·rintro ⟨h,k⟩
  refine ⟨by omega,?_⟩
  split at k
  ·rename_i j;rcases j with j | j
   ·exact .inl j
   ·exact .inr (.inl j)
  ·exact .inr (.inr (far_lt.1 k))
theorem okT_farS {p0 q0 p1 q1 a1 a2 b1 b2:Rat} (h1:N.okV p0 q0) (h2:N.okV p1 q1) (h3:N.okV a1 a2) (h4:N.okV b1 b2):N.okT 400 (N.farS p0 q0 p1 q1 a1 a2 b1 b2):=by
 have g1:N.okV p1 q0:=⟨h2.1,h1.2⟩
 have g2:N.okV p0 q1:=⟨h1.1,h2.2⟩
 exact ZhO (ZbY ⟨h3,h4,g2,h1⟩) (ZhO (ZbY ⟨h3,h4,h2,g2⟩) (ZhO (ZbY ⟨h3,h4,g1,h2⟩) (ZbY ⟨h3,h4,h1,g1⟩)))
theorem okT_farQ {x0 y0 x1 y1 ax ay bx by_:Int} (h:N.okFa x0 y0 x1 y1 ax ay bx by_):N.okT 400 (N.farQ x0 y0 x1 y1 ax ay bx by_):=by
 obtain ⟨c1,c2,c3,c4,c5,c6,c7,c8⟩:=h
 unfold N.farQ
 split
 ·exact Zco (okT_int (by unfold N.inI;omega)) (by omega)
 ·exact okT_farS ⟨ZbH c1,ZbH c2⟩ ⟨ZbH c3,ZbH c4⟩ ⟨ZbH c5,ZbH c6⟩ ⟨ZbH c7,ZbH c8⟩
theorem farq_loop {u0 v0 u1 v1:Rat} {ax ay bx by_:Int} (h1:N.okV u0 v0) (h2:N.okV u1 v1) (c1:N.cc ax) (c2:N.cc ay) (c3:N.cc bx) (c4:N.cc by_) :
  ZfZ u0 v0 u1 v1 ax ay bx by_ (Zag (ratF (N.farS u0 v0 u1 v1 (N.qi ax) (N.qi ay) (N.qi bx) (N.qi by_)))):=by
 have R {r:Rat} (h:N.okT 400 r):N.okR r:=Za3 h (by omega)
 have J {u v:Int} (a:N.cc u) (b:N.cc v):N.ZgL u v:=⟨Zfg a,Zfg b⟩
 have ja:=J c1 c2
 have jb:=J c3 c4
 have g3:N.okV (N.qi ax) (N.qi ay):=⟨ZbH c1,ZbH c2⟩
 have g4:N.okV (N.qi bx) (N.qi by_):=⟨ZbH c3,ZbH c4⟩
 have g1:N.okV u1 v0:=⟨h2.1,h1.2⟩
 have g2:N.okV u0 v1:=⟨h1.1,h2.2⟩
 have k0:N.Zgz (N.qi ax) (N.qi ay) (N.qi bx) (N.qi by_) u0 v0 u1 v0:=⟨g3,g4,h1,g1⟩
 have k1:N.Zgz (N.qi ax) (N.qi ay) (N.qi bx) (N.qi by_) u1 v0 u1 v1:=⟨g3,g4,g1,h2⟩
 have k2:N.Zgz (N.qi ax) (N.qi ay) (N.qi bx) (N.qi by_) u1 v1 u0 v1:=⟨g3,g4,h2,g2⟩
 have k3:N.Zgz (N.qi ax) (N.qi ay) (N.qi bx) (N.qi by_) u0 v1 u0 v0:=⟨g3,g4,g2,h1⟩
 have s4:∀ q,ZeU u0 v0 u1 v1 ax ay bx by_ q (Zag (ratF q)):=fun q=>qXfa4 _ _ _ _ _ _ _ _ _ _ (.refl _)
 have s3:∀ q,N.okT 400 q->ZeV u0 v0 u1 v1 ax ay bx by_ q (Zag (ratF (N.mn (N.seg (N.qi ax) (N.qi ay) (N.qi bx) (N.qi by_) u0 v1 u0 v0) q))):=fun q hq =>
  qXfa3 _ _ _ _ _ _ _ _ _ _ ⟨ja,jb,k3,fun _=>⟨R (ZbY k3),R hq⟩,fun k=>by rw [mn_y k];exact s4 _,fun k=>by rw [mn_n k];exact s4 _⟩
 have s2:∀ q,N.okT 400 q->ZeW u0 v0 u1 v1 ax ay bx by_ q (Zag (ratF (N.mn (N.seg (N.qi ax) (N.qi ay) (N.qi bx) (N.qi by_) u0 v1 u0 v0) (N.mn (N.seg (N.qi ax) (N.qi ay) (N.qi bx) (N.qi by_) u1 v1 u0 v1) q)))):=fun q hq =>
  qXfa2 _ _ _ _ _ _ _ _ _ _ ⟨ja,jb,k2,fun _=>⟨R (ZbY k2),R hq⟩,fun k=>by rw [mn_y k];exact s3 _ (ZbY k2),fun k=>by rw [mn_n k];exact s3 _ hq⟩
 have s1:∀ q,N.okT 400 q->ZfY u0 v0 u1 v1 ax ay bx by_ q (Zag (ratF (N.mn (N.seg (N.qi ax) (N.qi ay) (N.qi bx) (N.qi by_) u0 v1 u0 v0) (N.mn (N.seg (N.qi ax) (N.qi ay) (N.qi bx) (N.qi by_) u1 v1 u0 v1) (N.mn (N.seg (N.qi ax) (N.qi ay) (N.qi bx) (N.qi by_) u1 v0 u1 v1) q))))):=fun q hq =>
  qXfa1 _ _ _ _ _ _ _ _ _ _ ⟨ja,jb,k1,fun _=>⟨R (ZbY k1),R hq⟩,fun k=>by rw [mn_y k];exact s2 _ (ZbY k1),fun k=>by rw [mn_n k];exact s2 _ hq⟩
 exact qXfa0 _ _ _ _ _ _ _ _ _ ⟨ja,jb,k0,0,fun h=>absurd rfl h,s1 _ (ZbY k0)⟩
theorem ev48 (x0 y0 x1 y1 tp ax ay bx by_:Int) (h:N.okFa x0 y0 x1 y1 ax ay bx by_):Ev M1 (.pure 48 [.agg [.int .i64 x0,.int .i64 y0,.int .i64 x1,.int .i64 y1,.int .i64 tp],.agg [.int .i64 ax,.int .i64 ay],.agg [.int .i64 bx,.int .i64 by_]]) (ratF (N.farQ x0 y0 x1 y1 ax ay bx by_)) []:=by
 obtain ⟨c1,c2,c3,c4,c5,c6,c7,c8⟩:=h
 have V {u v:Int} (a:N.cc u) (b:N.cc v):N.okV (N.qi u) (N.qi v):=⟨ZbH a,ZbH b⟩
 have J {u v:Int} (a:N.cc u) (b:N.cc v):N.ZgL u v:=⟨Zfg a,Zfg b⟩
 refine call48 (qXfa _ _ _ _ _ _ _ _ _ _ ⟨fun k=>⟨by unfold N.inI;omega,?_⟩,fun k=>⟨J c1 c2,J c3 c2,J c3 c4,J c1 c4,?_⟩⟩)
 ·unfold N.farQ;rw [if_pos k];exact .refl _
 ·unfold N.farQ;rw [if_neg k];exact farq_loop (V c1 c2) (V c3 c4) c5 c6 c7 c8
end Go.Av

namespace Go.Av
open Go.Proofs
set_option maxRecDepth 100000
def fi22:Fi:=⟨53,[.tmp 8,.tmp 9]⟩
def kp22:List (Nat × List Nat):=[(0,[3,4,5,6]),(1,[3,4,5,6,10,11]),(2,[3,4,5,6,10,11,12]),(3,[3,4,5,6,10,11,12,18]),(4,[3,4,5,6,10,11,12]),(5,[3,4,5,6,10,11,12,13]),(6,[3,4,5,6,10,11,12,13,48]),(7,[3,4,5,6,10,11,12]),(8,[8,9])]
def qXhi_at (f:Bool) (cs:List Bx) (u0 v0 u1 v1 th gp sf:Int) (ax ay bx by_ r:Int) (Q:AV->Heap->Prop):Prop:=Wp M1 (.run fi22 (atC (cd Tryz.f22) []) [(0,.agg [.int .i64 u0,.int .i64 v0,.int .i64 u1,.int .i64 v1,.int .i64 th,.int .i64 gp,.vec f 5 (cs.map Bx.a),.int .i64 sf]),(1,.agg [.int .i64 ax,.int .i64 ay]),(2,.agg [.int .i64 bx,.int .i64 by_]),(3,.int .i64 r)] []) Q
def Zec (f:Bool) (cs:List Bx) (u0 v0 u1 v1 th gp sf:Int) (ax ay bx by_ r t:Int) (fo:Bool) (i:Int) (Q:AV->Heap->Prop):Prop:=Wp M1 (.run fi22 (atC (cd Tryz.f22) [1,1,0,1,0,0]) [(3,.int .i64 r),(4,.ptr 0 0 0 0),(5,.ptr 1 0 0 0),(6,.ptr 2 0 0 0),(10,.int .i64 t),(11,.bool fo),(12,.int .i64 i)] [⟨[.agg [.int .i64 u0,.int .i64 v0,.int .i64 u1,.int .i64 v1,.int .i64 th,.int .i64 gp,.vec f 5 (cs.map Bx.a),.int .i64 sf]],8,0,false,false⟩,⟨[.agg [.int .i64 ax,.int .i64 ay]],2,0,false,false⟩,⟨[.agg [.int .i64 bx,.int .i64 by_]],2,0,false,false⟩]) Q
theorem call22 {args:List AV} {d:AV} (h:wc M1 fi22 Tryz.f22 args d):Ev M1 (.pure 22 args) d []:=pcl _ _ (by kernel_rfl) h
theorem qXhi (f:Bool) (cs:List Bx) (u0 v0 u1 v1 th gp sf:Int) (ax ay bx by_ r:Int)  (dq:AV) (H :
  Zec f cs u0 v0 u1 v1 th gp sf ax ay bx by_ r 0 false 0 (Zag dq)) :
 qXhi_at f cs u0 v0 u1 v1 th gp sf ax ay bx by_ r (Zag dq):=by
 unfold qXhi_at
 exact Zaf (G:=Zae kp22 [] []) 1000 [] ⟨(atC (cd Tryz.f22) [1,1,0,1,0,0]),[(3,vi r),(4,AV.ptr 0 0 0 0),(5,AV.ptr 1 0 0 0),(6,AV.ptr 2 0 0 0),(10,vi 0),(11,vb false),(12,vi 0)],[⟨[ag [vi u0,vi v0,vi u1,vi v1,vi th,vi gp,AV.vec f 5 (List.map Bx.a cs),vi sf]],8,0,false,false⟩,⟨[ag [vi ax,vi ay]],2,0,false,false⟩,⟨[ag [vi bx,vi by_]],2,0,false,false⟩],_,[],_⟩ (by kernel_rfl) b0 q0 c0 H
noncomputable abbrev Zhf (cs:List Bx) (i:Int) (ax:Int) (ay:Int) (bx:Int) (by_:Int):=N.farQ (cs.getD i.toNat default).x0 (cs.getD i.toNat default).y0 (cs.getD i.toNat default).x1 (cs.getD i.toNat default).y1 ax ay bx by_
noncomputable abbrev zNrE2 (cs:List Bx) (i:Int):=ag [vi (cs.getD i.toNat default).x0,vi (cs.getD i.toNat default).y0,vi (cs.getD i.toNat default).x1,vi (cs.getD i.toNat default).y1,vi (cs.getD i.toNat default).top]
noncomputable abbrev zNrE3 (cs:List Bx) (i:Int) (ax:Int) (ay:Int) (bx:Int) (by_:Int) (r:Int):=N.sgnI ((Zhf cs i ax ay bx by_).num*(↑(N.qi r*N.qi r).den:Int)-(N.qi r*N.qi r).num*(↑(Zhf cs i ax ay bx by_).den:Int))<0
noncomputable abbrev zNrE4 (cs:List Bx) (i:Int) (ax:Int) (ay:Int) (bx:Int) (by_:Int) (r:Int):=N.sgnI ((Zhf cs i ax ay bx by_).num*(↑(N.qi r*N.qi r).den:Int)-(N.qi r*N.qi r).num*(↑(Zhf cs i ax ay bx by_).den:Int))
noncomputable abbrev zNrE5 (ax:Int) (ay:Int):=ag [vi ax,vi ay]
noncomputable abbrev zNrE6 (r:Int) (cs:List Bx) (i:Int) (ax:Int) (ay:Int) (bx:Int) (by_:Int) (fo:Bool) (t:Int):=bif bif decide (r>0) then decide (zNrE3 cs i ax ay bx by_ r) else false then bif !fo then true else decide ((cs.getD i.toNat default).top>t) else false
noncomputable abbrev zNrE7 (bx:Int) (by_:Int):=ag [vi bx,vi by_]
theorem qXhiL (f:Bool) (cs:List Bx) (u0 v0 u1 v1 th gp sf:Int) (ax ay bx by_ r t:Int) (fo:Bool) (i:Int)  (dq:AV) (H :
  ((i<(↑cs.length:Int))->(0<=i) /\
   (i.toNat<cs.length) /\
   ((r>0)->(N.okFa (cs.getD i.toNat default).x0 (cs.getD i.toNat default).y0 (cs.getD i.toNat default).x1 (cs.getD i.toNat default).y1 ax ay bx by_)) /\
   ((r>0)->(N.inI r)) /\
   ((r>0)->(N.okR (N.qi r))) /\
   ((r>0)->(N.okR (N.farQ (cs.getD i.toNat default).x0 (cs.getD i.toNat default).y0 (cs.getD i.toNat default).x1 (cs.getD i.toNat default).y1 ax ay bx by_)/\N.okR (N.qi r*N.qi r))) /\
   ((((r>0)/\(N.sgnI ((N.farQ (cs.getD i.toNat default).x0 (cs.getD i.toNat default).y0 (cs.getD i.toNat default).x1 (cs.getD i.toNat default).y1 ax ay bx by_).num*(↑(N.qi r*N.qi r).den:Int)-(N.qi r*N.qi r).num*(↑(N.farQ (cs.getD i.toNat default).x0 (cs.getD i.toNat default).y0 (cs.getD i.toNat default).x1 (cs.getD i.toNat default).y1 ax ay bx by_).den:Int))<0))/\((¬(fo=true))\/((cs.getD i.toNat default).top>t)))->(-9223372036854775808<=i+1/\i+1<=9223372036854775807) /\
    Zec f cs u0 v0 u1 v1 th gp sf ax ay bx by_ r ((cs.getD i.toNat default).top) true (i+1) (Zag dq)) /\
   (¬(((r>0)/\(N.sgnI ((N.farQ (cs.getD i.toNat default).x0 (cs.getD i.toNat default).y0 (cs.getD i.toNat default).x1 (cs.getD i.toNat default).y1 ax ay bx by_).num*(↑(N.qi r*N.qi r).den:Int)-(N.qi r*N.qi r).num*(↑(N.farQ (cs.getD i.toNat default).x0 (cs.getD i.toNat default).y0 (cs.getD i.toNat default).x1 (cs.getD i.toNat default).y1 ax ay bx by_).den:Int))<0))/\((¬(fo=true))\/((cs.getD i.toNat default).top>t)))->(-9223372036854775808<=i+1/\i+1<=9223372036854775807) /\
    Zec f cs u0 v0 u1 v1 th gp sf ax ay bx by_ r t fo (i+1) (Zag dq))) /\
  (¬(i<(↑cs.length:Int))->tu [vi t,vb fo]=dq)) :
 Zec f cs u0 v0 u1 v1 th gp sf ax ay bx by_ r t fo i (Zag dq):=by
 unfold Zec
 have w1:(List.map Bx.a cs).length=cs.length:=List.length_map ..
 have i2:(decide (i<(↑(List.map Bx.a cs).length:Int)))=true ↔ (i<(↑cs.length:Int)):=(by (try rw [w1]);all_goals exact Zac)
 rcases xq H with ⟨d3,H⟩|⟨d3,H⟩
 ·obtain ⟨k5,H⟩:=H
  have i6:(decide (i.toNat<(List.map Bx.a cs).length))=true ↔ (i.toNat<cs.length):=(by (try rw [w1]);all_goals exact Zac)
  obtain ⟨k7,k9,k11,k13,k15,H⟩:=H
  refine Zaf (G:=Zae kp22 [(5,4,.elem ((zNrE2 cs i))),(6,6,.call (ratF (Zhf cs i ax ay bx by_)) none),(6,8,.call (ratF (N.qi r)) none),(6,9,.call (ratF (N.qi r*N.qi r)) none),(6,10,.call (vi (zNrE4 cs i ax ay bx by_ r)) none)] []) 11 [true] ⟨(atC (cd Tryz.f22) [1,1,0,1,0,0,1,0,0,1,1]),[(3,vi r),(4,AV.ptr 0 0 0 0),(5,AV.ptr 1 0 0 0),(6,AV.ptr 2 0 0 0),(10,vi t),(11,vb fo),(12,vi i),(13,AV.ptr 3 0 0 0),(48,vb (zNrE6 r cs i ax ay bx by_ fo t))],[⟨[ag [vi u0,vi v0,vi u1,vi v1,vi th,vi gp,AV.vec f 5 (List.map Bx.a cs),vi sf]],8,0,false,false⟩,⟨[(zNrE5 ax ay)],2,0,false,false⟩,⟨[(zNrE7 bx by_)],2,0,false,false⟩,⟨[(zNrE2 cs i)],5,0,false,false⟩],[true,(decide (i<(↑(List.map Bx.a cs).length:Int)))==true,true,decide (0<=i),decide (i.toNat<(List.map Bx.a cs).length),true,!(decide (r>0)==true&&true)||true,!(decide (r>0)==true&&true)||true,!(decide (r>0)==true&&true)||true,!((!fo)==false&&((bif decide (r>0) then decide (zNrE3 cs i ax ay bx by_ r) else false)==true&&true))||true],[((List.map Bx.a cs).get?Internal i.toNat=some ((zNrE2 cs i)))],[⟨decide (r>0)==true&&true&&true,false,48,[(zNrE2 cs i),(zNrE5 ax ay),(zNrE7 bx by_)],[],ratF (Zhf cs i ax ay bx by_),[]⟩,⟨decide (r>0)==true&&true&&true,false,50,[vi r],[],ratF (N.qi r),[]⟩,⟨decide (r>0)==true&&true&&true,false,49,[ratF (N.qi r)],[],ratF (N.qi r*N.qi r),[]⟩,⟨decide (r>0)==true&&true&&true,false,47,[ratF (Zhf cs i ax ay bx by_),ratF (N.qi r*N.qi r)],[],vi (zNrE4 cs i ax ay bx by_ r),[]⟩]⟩ (by kernel_rfl) (bc rfl (bc (Zam (i2.2 d3)) (bc rfl (bc (Zac.2 k5) (bc (i6.2 k7) (bc rfl (bc (Bool.or_true _) (bc (Bool.or_true _) (bc (Bool.or_true _) (bc (Bool.or_true _) b0)))))))))) (qc (Zat k7) q0) (cc (fun hc=>((@ev48 ((cs.getD i.toNat default).x0) ((cs.getD i.toNat default).y0) ((cs.getD i.toNat default).x1) ((cs.getD i.toNat default).y1) ((cs.getD i.toNat default).top) ax ay bx by_ (k9 ((i_at (i_at (i_bt Zac))).1 hc))):Ev M1 (Conf.pure 48 [(zNrE2 cs i),(zNrE5 ax ay),(zNrE7 bx by_)]) (ratF (Zhf cs i ax ay bx by_)) [])) (cc (fun hc=>((@ev50 r (k11 ((i_at (i_at (i_bt Zac))).1 hc))):Ev M1 (Conf.pure 50 [vi r]) (ratF (N.qi r)) [])) (cc (fun hc=>((@ev49 false false (N.qi r) (k13 ((i_at (i_at (i_bt Zac))).1 hc))):Ev M1 (Conf.pure 49 [ratF (N.qi r)]) (ratF (N.qi r*N.qi r)) [])) (cc (fun hc=>((@ev47 false false false false (Zhf cs i ax ay bx by_) (N.qi r*N.qi r) (k15 ((i_at (i_at (i_bt Zac))).1 hc))):Ev M1 (Conf.pure 47 [ratF (Zhf cs i ax ay bx by_),ratF (N.qi r*N.qi r)]) (vi (zNrE4 cs i ax ay bx by_ r)) [])) c0)))) ?_
  rcases xq H with ⟨d17,H⟩|⟨d17,H⟩
  ·obtain ⟨k18,H⟩:=H
   have w19:wi (i+1)=i+1:=wI64 k18
   exact Zaf (G:=Zae kp22 [] []) 1000 [true] ⟨(atC (cd Tryz.f22) [1,1,0,1,0,0]),[(3,vi r),(4,AV.ptr 0 0 0 0),(5,AV.ptr 1 0 0 0),(6,AV.ptr 2 0 0 0),(10,vi (cs.getD i.toNat default).top),(11,vb true),(12,vi (wi (i+1)))],[⟨[ag [vi u0,vi v0,vi u1,vi v1,vi th,vi gp,AV.vec f 5 (List.map Bx.a cs),vi sf]],8,0,false,false⟩,⟨[(zNrE5 ax ay)],2,0,false,false⟩,⟨[(zNrE7 bx by_)],2,0,false,false⟩,⟨[(zNrE2 cs i)],5,0,false,false⟩],[(zNrE6 r cs i ax ay bx by_ fo t)==true,true],[],_⟩ (by kernel_rfl) (bc (Zam ((Za1 (Za1 Zac Zac) (ZbP (Zbq (Zbu _)) Zac)).2 d17)) (bc rfl b0)) q0 c0 (by (try rw [w19]);all_goals exact ZaA [0,1,2] (by kernel_rfl) H)
  ·obtain ⟨k20,H⟩:=H
   have w21:wi (i+1)=i+1:=wI64 k20
   exact Zaf (G:=Zae kp22 [] []) 1000 [false] ⟨(atC (cd Tryz.f22) [1,1,0,1,0,0]),[(3,vi r),(4,AV.ptr 0 0 0 0),(5,AV.ptr 1 0 0 0),(6,AV.ptr 2 0 0 0),(10,vi t),(11,vb fo),(12,vi (wi (i+1)))],[⟨[ag [vi u0,vi v0,vi u1,vi v1,vi th,vi gp,AV.vec f 5 (List.map Bx.a cs),vi sf]],8,0,false,false⟩,⟨[(zNrE5 ax ay)],2,0,false,false⟩,⟨[(zNrE7 bx by_)],2,0,false,false⟩,⟨[(zNrE2 cs i)],5,0,false,false⟩],[(zNrE6 r cs i ax ay bx by_ fo t)==false],[],_⟩ (by kernel_rfl) (bc (Zak (fun h=>d17 ((Za1 (Za1 Zac Zac) (ZbP (Zbq (Zbu _)) Zac)).1 h))) b0) q0 c0 (by (try rw [w21]);all_goals exact ZaA [0,1,2] (by kernel_rfl) H)
 ·exact Zas (G:=Zae kp22 [] []) 1000 [false] (tu [vi t,vb fo]) (by kernel_rfl) (bc rfl (bc (Zak (fun h=>d3 (i2.1 h))) b0)) q0 c0 H
end Go.Av

namespace Go.Av
open Go.Proofs
section
variable {f:Bool} {cs:List Bx} {u0 v0 u1 v1 th gp sf ax ay bx by_ r:Int}
theorem hiF_no:∀ (cs:List Bx) (t:Int) (fo:Bool),(fo=false->t=0)->(N.hiF ax ay bx by_ r cs t fo).2=false->(N.hiF ax ay bx by_ r cs t fo).1=0
 | [],_,_,h,k=>h k
 | c::cs,t,fo,h,k=>by
  rw [N.hiF] at k ⊢
  split
  ·rename_i j
   rw [if_pos j] at k
   exact hiF_no cs c.top true (fun x=>absurd x (by decide)) k
  ·rename_i j
   rw [if_neg j] at k
   exact hiF_no cs t fo h k
theorem hgt_ref (h:¬(N.hiF ax ay bx by_ r cs 0 false).2=true\/(N.hiF ax ay bx by_ r cs 0 false).1<0):N.hgt cs ax ay bx by_ r=1000:=by
 unfold N.hgt
 rcases h with h | h
 ·have:=hiF_no cs 0 false (fun _=>rfl) (by simpa using h)
  rw [this];rfl
 ·rw [if_neg (by omega)];rfl
theorem hgt_ref2 (h:¬(¬(N.hiF ax ay bx by_ r cs 0 false).2=true\/(N.hiF ax ay bx by_ r cs 0 false).1<0)):N.hgt cs ax ay bx by_ r=(N.hiF ax ay bx by_ r cs 0 false).1+1000:=by
 unfold N.hgt
 split <;> omega
theorem xhi_loop (h:N.okHi cs ax ay bx by_ r) (m:Nat):∀ (i:Nat) (t:Int) (fo:Bool),i+m=cs.length ->
  Zec f cs u0 v0 u1 v1 th gp sf ax ay bx by_ r t fo i (Zag (.tup [.int .i64 (N.hiF ax ay bx by_ r (cs.drop i) t fo).1,.bool (N.hiF ax ay bx by_ r (cs.drop i) t fo).2])):=by
 obtain ⟨h1,h2,h3,h4,h5,h6,h7⟩:=h
 induction m with
 | zero =>
  intro i t fo e
  refine qXhiL _ _ _ _ _ _ _ _ _ _ _ _ _ _ _ _ _ _ ⟨fun x=>by omega,fun _ => ?_⟩
  rw [List.drop_eq_nil_of_le (by omega)];rfl
 | succ m ih =>
  intro i t fo e
  have hi:i<cs.length:=by omega
  refine qXhiL _ _ _ _ _ _ _ _ _ _ _ _ _ _ _ _ _ _ ⟨fun x => ?_,fun x=>by omega⟩
  rw [Int.toNat_natCast,show (i:Int)+1=((i+1:Nat):Int) by omega,ZbJ hi]
  obtain ⟨c1,c2,c3,c4⟩:=h2 _ (Zfa hi)
  have hr:N.okR (N.qi r):=Za3 (ZbH h7) (by omega)
  have hrr:N.okR (N.qi r*N.qi r):=Za3 (ZbB (ZbH h7) (ZbH h7)) (by omega)
  have hfa:N.okFa (cs.getD i default).x0 (cs.getD i default).y0 (cs.getD i default).x1 (cs.getD i default).y1 ax ay bx by_:=⟨c1,c2,c3,c4,h3,h4,h5,h6⟩
  refine ⟨by omega,hi,fun _=>hfa,fun _=>Zfg h7,fun _=>hr,fun _=>⟨Za3 (okT_farQ hfa) (by omega),hrr⟩,fun k=>⟨by omega,?_⟩,fun k=>⟨by omega,?_⟩⟩
  ·rw [N.hiF,if_pos ⟨near_far.2 ⟨k.1.1,Zcu.1 k.1.2⟩,k.2⟩];exact ih (i+1) _ _ (by omega)
  ·rw [N.hiF,if_neg fun x=>k ⟨⟨(near_far.1 x.1).1,Zcu.2 (near_far.1 x.1).2⟩,x.2⟩];exact ih (i+1) _ _ (by omega)
end
theorem ev22 (f:Bool) (cs:List Bx) (u0 v0 u1 v1 th gp sf ax ay bx by_ r:Int) (h:N.okHi cs ax ay bx by_ r):Ev M1 (.pure 22 [.agg [.int .i64 u0,.int .i64 v0,.int .i64 u1,.int .i64 v1,.int .i64 th,.int .i64 gp,.vec f 5 (cs.map Bx.a),.int .i64 sf],.agg [.int .i64 ax,.int .i64 ay],.agg [.int .i64 bx,.int .i64 by_],.int .i64 r]) (.tup [.int .i64 (N.hiF ax ay bx by_ r cs 0 false).1,.bool (N.hiF ax ay bx by_ r cs 0 false).2]) []:=by
 have:=xhi_loop (f:=f) (u0:=u0) (v0:=v0) (u1:=u1) (v1:=v1) (th:=th) (gp:=gp) (sf:=sf) h cs.length 0 0 false (by omega)
 exact call22 (qXhi _ _ _ _ _ _ _ _ _ _ _ _ _ _ _ this)
end Go.Av

namespace Go.Av
open Go.Proofs
set_option maxRecDepth 100000
def fi10:Fi:=⟨27,[.tmp 8]⟩
def kp10:List (Nat × List Nat):=[(0,[3,4,5,6]),(1,[9,10]),(2,[9,24]),(3,[9]),(4,[8])]
def qXhg_at (f:Bool) (cs:List Bx) (u0 v0 u1 v1 th gp sf:Int) (ax ay bx by_ r:Int) (Q:AV->Heap->Prop):Prop:=Wp M1 (.run fi10 (atC (cd Tryz.f10) []) [(0,.agg [.int .i64 u0,.int .i64 v0,.int .i64 u1,.int .i64 v1,.int .i64 th,.int .i64 gp,.vec f 5 (cs.map Bx.a),.int .i64 sf]),(1,.agg [.int .i64 ax,.int .i64 ay]),(2,.agg [.int .i64 bx,.int .i64 by_]),(3,.int .i64 r)] []) Q
theorem call10 {args:List AV} {d:AV} (h:wc M1 fi10 Tryz.f10 args d):Ev M1 (.pure 10 args) d []:=pcl _ _ (by kernel_rfl) h
noncomputable abbrev zNrF1 (ax:Int) (ay:Int) (bx:Int) (by_:Int) (r:Int) (cs:List Bx):=bif !(N.hiF ax ay bx by_ r cs 0 false).2 then true else decide ((N.hiF ax ay bx by_ r cs 0 false).fst<0)
theorem qXhg (f:Bool) (cs:List Bx) (u0 v0 u1 v1 th gp sf:Int) (ax ay bx by_ r:Int)  (dq:AV) (H :
  (N.okHi cs ax ay bx by_ r) /\
  (((¬((N.hiF ax ay bx by_ r cs 0 false).2=true))\/((N.hiF ax ay bx by_ r cs 0 false).fst<0))->vi 1000=dq) /\
  (¬((¬((N.hiF ax ay bx by_ r cs 0 false).2=true))\/((N.hiF ax ay bx by_ r cs 0 false).fst<0))->(-9223372036854775808<=(N.hiF ax ay bx by_ r cs 0 false).fst+1000/\(N.hiF ax ay bx by_ r cs 0 false).fst+1000<=9223372036854775807) /\
   vi ((N.hiF ax ay bx by_ r cs 0 false).fst+1000)=dq)) :
 qXhg_at f cs u0 v0 u1 v1 th gp sf ax ay bx by_ r (Zag dq):=by
 unfold qXhg_at
 obtain ⟨k1,H⟩:=H
 refine Zaf (G:=Zae kp10 [(1,4,.call (tu [vi (N.hiF ax ay bx by_ r cs 0 false).fst,vb (N.hiF ax ay bx by_ r cs 0 false).2]) none)] []) 7 [] ⟨(atC (cd Tryz.f10) [1,1,0,1]),[(9,vi (N.hiF ax ay bx by_ r cs 0 false).fst),(24,vb (zNrF1 ax ay bx by_ r cs))],[⟨[ag [vi u0,vi v0,vi u1,vi v1,vi th,vi gp,AV.vec f 5 (List.map Bx.a cs),vi sf]],8,0,false,false⟩,⟨[ag [vi ax,vi ay]],2,0,false,false⟩,⟨[ag [vi bx,vi by_]],2,0,false,false⟩],_,[],_⟩ (by kernel_rfl) (bc rfl (bc rfl (bc rfl b0))) q0 (ce (@ev22 f cs u0 v0 u1 v1 th gp sf ax ay bx by_ r k1) c0) ?_
 rcases xq H with ⟨d3,H⟩|⟨d3,H⟩
 ·exact Zas (G:=Zae kp10 [] []) 1000 [true] (asm:=[(zNrF1 ax ay bx by_ r cs)==true]) (vi 1000) (by kernel_rfl) (bc (Zam ((ZbP (Zbq (Zbu _)) Zac).2 d3)) b0) q0 c0 H
 ·obtain ⟨k4,H⟩:=H
  have w5:wi ((N.hiF ax ay bx by_ r cs 0 false).fst+1000)=(N.hiF ax ay bx by_ r cs 0 false).fst+1000:=wI64 k4
  exact Zas (G:=Zae kp10 [] []) 1000 [false] (asm:=[(zNrF1 ax ay bx by_ r cs)==false]) (vi (wi ((N.hiF ax ay bx by_ r cs 0 false).fst+1000))) (by kernel_rfl) (bc (Zak (fun h=>d3 ((ZbP (Zbq (Zbu _)) Zac).1 h))) b0) q0 c0 (by (try rw [w5]);all_goals exact H)
end Go.Av

namespace Go.Av
open Go.Proofs
theorem ev10 (f:Bool) (cs:List Bx) (u0 v0 u1 v1 th gp sf ax ay bx by_ r:Int) (h:N.okHg cs ax ay bx by_ r):Ev M1 (.pure 10 [.agg [.int .i64 u0,.int .i64 v0,.int .i64 u1,.int .i64 v1,.int .i64 th,.int .i64 gp,.vec f 5 (cs.map Bx.a),.int .i64 sf],.agg [.int .i64 ax,.int .i64 ay],.agg [.int .i64 bx,.int .i64 by_],.int .i64 r]) (.int .i64 (N.hgt cs ax ay bx by_ r)) []:=by
 have b:=hgt_bd h
 refine call10 (qXhg _ _ _ _ _ _ _ _ _ _ _ _ _ _ _ ⟨h.1,fun k => ?_,fun k => ?_⟩)
 ·rw [hgt_ref k]
 ·rw [hgt_ref2 k];rw [hgt_ref2 k] at b;exact ⟨by omega,rfl⟩
end Go.Av

namespace Go.Av
open Go.Proofs
set_option maxRecDepth 100000
def fi13:Fi:=⟨90,[.tmp 10,.tmp 11]⟩
def kp13:List (Nat × List Nat):=[(0,[3,4,5,6,7]),(1,[3,4,5,6,7,12]),(2,[3,4,5,6,7,12,18]),(3,[10,11]),(4,[3,4,5,6,7,25]),(5,[10,11]),(6,[3,4,5,6,7,35]),(7,[10,11]),(8,[3,4,5,6,7,13]),(9,[3,4,5,6,7,13,42]),(10,[4,7,13,47]),(11,[10,11]),(12,[10,11]),(13,[4,6,7,13,14]),(14,[4,7,13,14]),(15,[4,7,13]),(16,[10,11])]
def qXlk_at (f:Bool) (cs:List Bx) (u0 v0 u1 v1 th gp sf:Int) (fx fy fz tx ty tz:Int) (r pl:Int) (Q:AV->Heap->Prop):Prop:=Wp M1 (.run fi13 (atC (cd Tryz.f13) []) [(0,.agg [.int .i64 u0,.int .i64 v0,.int .i64 u1,.int .i64 v1,.int .i64 th,.int .i64 gp,.vec f 5 (cs.map Bx.a),.int .i64 sf]),(1,.agg [.int .i64 fx,.int .i64 fy,.int .i64 fz]),(2,.agg [.int .i64 tx,.int .i64 ty,.int .i64 tz]),(3,.int .i64 r),(4,.int .i64 pl)] []) Q
theorem call13 {args:List AV} {d:AV} (h:wc M1 fi13 Tryz.f13 args d):Ev M1 (.pure 13 args) d []:=pcl _ _ (by kernel_rfl) h
noncomputable abbrev Zes (tx:Int) (ty:Int) (tz:Int) (fz:Int) (cs:List Bx) (fx:Int) (fy:Int) (r:Int):=N.adl tx ty (if tz>if fz>N.hgt cs fx fy tx ty r then fz else N.hgt cs fx fy tx ty r then tz else if fz>N.hgt cs fx fy tx ty r then fz else N.hgt cs fx fy tx ty r) fx fy (if tz>if fz>N.hgt cs fx fy tx ty r then fz else N.hgt cs fx fy tx ty r then tz else if fz>N.hgt cs fx fy tx ty r then fz else N.hgt cs fx fy tx ty r) 0
noncomputable abbrev ZaI (fx:Int) (fy:Int) (fz:Int):=ag [vi fx,vi fy,vi fz,AV.vnil]
noncomputable abbrev zNrG3 (fx:Int) (fy:Int) (tz:Int) (fz:Int) (cs:List Bx) (tx:Int) (ty:Int) (r:Int) (pl:Int):=N.adl fx fy (if tz>if fz>N.hgt cs fx fy tx ty r then fz else N.hgt cs fx fy tx ty r then tz else if fz>N.hgt cs fx fy tx ty r then fz else N.hgt cs fx fy tx ty r) fx fy fz 0++N.adl tx ty (if tz>if fz>N.hgt cs fx fy tx ty r then fz else N.hgt cs fx fy tx ty r then tz else if fz>N.hgt cs fx fy tx ty r then fz else N.hgt cs fx fy tx ty r) fx fy (if tz>if fz>N.hgt cs fx fy tx ty r then fz else N.hgt cs fx fy tx ty r then tz else if fz>N.hgt cs fx fy tx ty r then fz else N.hgt cs fx fy tx ty r) 0++N.ds1 tz tx ty (if tz>if fz>N.hgt cs fx fy tx ty r then fz else N.hgt cs fx fy tx ty r then tz else if fz>N.hgt cs fx fy tx ty r then fz else N.hgt cs fx fy tx ty r)++N.ds2 tz pl tx ty (if tz>if fz>N.hgt cs fx fy tx ty r then fz else N.hgt cs fx fy tx ty r then tz else if fz>N.hgt cs fx fy tx ty r then fz else N.hgt cs fx fy tx ty r)
noncomputable abbrev ZdA (tz:Int) (tx:Int) (ty:Int) (fz:Int) (cs:List Bx) (fx:Int) (fy:Int) (r:Int):=N.ds1 tz tx ty (if tz>if fz>N.hgt cs fx fy tx ty r then fz else N.hgt cs fx fy tx ty r then tz else if fz>N.hgt cs fx fy tx ty r then fz else N.hgt cs fx fy tx ty r)
noncomputable abbrev Zdz (tz:Int) (pl:Int) (tx:Int) (ty:Int) (fz:Int) (cs:List Bx) (fx:Int) (fy:Int) (r:Int):=N.ds2 tz pl tx ty (if tz>if fz>N.hgt cs fx fy tx ty r then fz else N.hgt cs fx fy tx ty r then tz else if fz>N.hgt cs fx fy tx ty r then fz else N.hgt cs fx fy tx ty r)
noncomputable abbrev ZfK (fx:Int) (fy:Int) (tz:Int) (fz:Int) (cs:List Bx) (tx:Int) (ty:Int) (r:Int):=ag [vi fx,vi fy,vi (if tz>if fz>N.hgt cs fx fy tx ty r then fz else N.hgt cs fx fy tx ty r then tz else if fz>N.hgt cs fx fy tx ty r then fz else N.hgt cs fx fy tx ty r)]
noncomputable abbrev ZbD (tx:Int) (ty:Int) (tz:Int):=ag [vi tx,vi ty,vi tz]
noncomputable abbrev Zhe (tx:Int) (ty:Int) (tz:Int) (fz:Int) (cs:List Bx) (fx:Int) (fy:Int) (r:Int):=ag [vi tx,vi ty,vi (if tz>if fz>N.hgt cs fx fy tx ty r then fz else N.hgt cs fx fy tx ty r then tz else if fz>N.hgt cs fx fy tx ty r then fz else N.hgt cs fx fy tx ty r)]
noncomputable abbrev zNrG9 (tx:Int) (ty:Int) (tz:Int) (fz:Int) (cs:List Bx) (fx:Int) (fy:Int) (r:Int) (pl:Int):=N.adl tx ty (if tz>if fz>N.hgt cs fx fy tx ty r then fz else N.hgt cs fx fy tx ty r then tz else if fz>N.hgt cs fx fy tx ty r then fz else N.hgt cs fx fy tx ty r) fx fy fz 0++N.ds1 tz tx ty (if tz>if fz>N.hgt cs fx fy tx ty r then fz else N.hgt cs fx fy tx ty r then tz else if fz>N.hgt cs fx fy tx ty r then fz else N.hgt cs fx fy tx ty r)++N.ds2 tz pl tx ty (if tz>if fz>N.hgt cs fx fy tx ty r then fz else N.hgt cs fx fy tx ty r then tz else if fz>N.hgt cs fx fy tx ty r then fz else N.hgt cs fx fy tx ty r)
noncomputable abbrev zNrG10 (fx:Int) (fy:Int) (tz:Int) (fz:Int) (cs:List Bx) (tx:Int) (ty:Int) (r:Int):=N.adl fx fy (if tz>if fz>N.hgt cs fx fy tx ty r then fz else N.hgt cs fx fy tx ty r then tz else if fz>N.hgt cs fx fy tx ty r then fz else N.hgt cs fx fy tx ty r) fx fy fz 0++N.adl tx ty (if tz>if fz>N.hgt cs fx fy tx ty r then fz else N.hgt cs fx fy tx ty r then tz else if fz>N.hgt cs fx fy tx ty r then fz else N.hgt cs fx fy tx ty r) fx fy (if tz>if fz>N.hgt cs fx fy tx ty r then fz else N.hgt cs fx fy tx ty r then tz else if fz>N.hgt cs fx fy tx ty r then fz else N.hgt cs fx fy tx ty r) 0
noncomputable abbrev Zdw (tx:Int) (ty:Int) (tz:Int) (pl:Int) (fx:Int) (fy:Int) (fz:Int):=ag [vi tx,vi ty,vi tz,AV.row 4 (N.dvn tz pl fx fy fz)]
noncomputable abbrev Zc8 (fx:Int) (fy:Int) (fz:Int):=ag [vi fx,vi fy,vi fz]
noncomputable abbrev zNrG13 (tx:Int) (ty:Int) (tz:Int) (fz:Int) (cs:List Bx) (fx:Int) (fy:Int) (r:Int):=ag [vi tx,vi ty,vi (if tz>if fz>N.hgt cs fx fy tx ty r then fz else N.hgt cs fx fy tx ty r then tz else if fz>N.hgt cs fx fy tx ty r then fz else N.hgt cs fx fy tx ty r),AV.row 3 0]
noncomputable abbrev zNrG14 (fx:Int) (fy:Int) (tz:Int) (fz:Int) (cs:List Bx) (tx:Int) (ty:Int) (r:Int):=ag [vi fx,vi fy,vi (if tz>if fz>N.hgt cs fx fy tx ty r then fz else N.hgt cs fx fy tx ty r then tz else if fz>N.hgt cs fx fy tx ty r then fz else N.hgt cs fx fy tx ty r),AV.row 3 0]
noncomputable abbrev Zc7 (fx:Int) (fy:Int):=ag [vi fx,vi fy]
noncomputable abbrev Zc6 (tx:Int) (ty:Int):=ag [vi tx,vi ty]
noncomputable abbrev ZfA (tx:Int) (ty:Int) (tz:Int):=ag [vi tx,vi ty,vi (N.stp tz)]
noncomputable abbrev zNrG18 (tx:Int) (ty:Int) (tz:Int) (fz:Int) (cs:List Bx) (fx:Int) (fy:Int) (r:Int):=ag [vi tx,vi ty,vi (if tz>if fz>N.hgt cs fx fy tx ty r then fz else N.hgt cs fx fy tx ty r then tz else if fz>N.hgt cs fx fy tx ty r then fz else N.hgt cs fx fy tx ty r),AV.row 0 (0+(Zes tx ty tz fz cs fx fy r).length)]
noncomputable abbrev zNrG19 (tx:Int) (ty:Int) (tz:Int) (fz:Int) (cs:List Bx) (fx:Int) (fy:Int) (r:Int):=N.adl tx ty (if tz>if fz>N.hgt cs fx fy tx ty r then fz else N.hgt cs fx fy tx ty r then tz else if fz>N.hgt cs fx fy tx ty r then fz else N.hgt cs fx fy tx ty r) fx fy fz 0
noncomputable abbrev zNrG20 (fx:Int) (fy:Int) (tz:Int) (fz:Int) (cs:List Bx) (tx:Int) (ty:Int) (r:Int):=N.adl fx fy (if tz>if fz>N.hgt cs fx fy tx ty r then fz else N.hgt cs fx fy tx ty r then tz else if fz>N.hgt cs fx fy tx ty r then fz else N.hgt cs fx fy tx ty r) fx fy fz 0
noncomputable abbrev zNrG21 (tx:Int) (ty:Int) (tz:Int):=ag [vi tx,vi ty,vi tz,AV.row 3 0]
theorem qXlk (f:Bool) (cs:List Bx) (u0 v0 u1 v1 th gp sf:Int) (fx fy fz tx ty tz:Int) (r pl:Int)  (dq:AV) (H :
    (cs.length<=1000) /\
    ((¬N.vaE cs u0 v0 u1 v1 th gp sf=0)->Weak (tu [AV.vnil,vi (N.vaE cs u0 v0 u1 v1 th gp sf)]) dq) /\
    (¬(¬N.vaE cs u0 v0 u1 v1 th gp sf=0)->(((r<0)\/(pl<=0))->Weak (tu [AV.vnil,vi 1]) dq) /\
      (¬((r<0)\/(pl<=0))->((((N.fr1 fx\/N.fr1 fy\/N.fr1 fz)\/(N.fr1 tx\/N.fr1 ty\/N.fr1 tz))\/(r>10000000))->Weak (tu [AV.vnil,vi 11]) dq) /\
        (¬(((N.fr1 fx \/ N.fr1 fy \/ N.fr1 fz) \/ (N.fr1 tx \/ N.fr1 ty \/ N.fr1 tz)) \/ (r > 10000000)) -> (((fx = tx) /\ (fy = ty)) -> ((tz > fz) -> ((N.sam tx ty tz fx fy fz) -> Weak (tu [AV.vnil,vi 0]) dq) /\
              (¬(N.sam tx ty tz fx fy fz)->Weak (tu [AV.vec false 7 (List.map Mv.a (N.adl tx ty tz fx fy fz 0)),vi 0]) dq)) /\
            (¬(tz > fz) -> ((N.dno tz fz) -> (N.okRd tx ty tz fx fy fz pl) /\
                Weak (tu [AV.vnil,vi 0]) dq) /\
              (¬(N.dno tz fz)->(N.okRd tx ty tz fx fy fz pl) /\
                Weak (tu [AV.vec false 7 (List.map Mv.a (N.ds1 tz fx fy fz++N.ds2 tz pl fx fy fz)),vi 0]) dq))) /\
          (¬((fx=tx)/\(fy=ty))->(N.okHg cs fx fy tx ty r) /\
            ((N.sam fx fy (if tz > if fz > N.hgt cs fx fy tx ty r then fz else N.hgt cs fx fy tx ty r then tz else if fz > N.hgt cs fx fy tx ty r then fz else N.hgt cs fx fy tx ty r) fx fy fz) -> ((N.sam tx ty (if tz > if fz > N.hgt cs fx fy tx ty r then fz else N.hgt cs fx fy tx ty r then tz else if fz > N.hgt cs fx fy tx ty r then fz else N.hgt cs fx fy tx ty r) fx fy fz) -> ((N.dno tz fz) -> (N.okRd tx ty tz fx fy fz pl) /\
                  Weak (tu [AV.vnil,vi 0]) dq) /\
                (¬(N.dno tz fz)->(N.okRd tx ty tz fx fy fz pl) /\
                  Weak (tu [AV.vec false 7 (List.map Mv.a (N.ds1 tz fx fy fz++N.ds2 tz pl fx fy fz)),vi 0]) dq)) /\
              (¬(N.sam tx ty (if tz>if fz>N.hgt cs fx fy tx ty r then fz else N.hgt cs fx fy tx ty r then tz else if fz>N.hgt cs fx fy tx ty r then fz else N.hgt cs fx fy tx ty r) fx fy fz)->((N.adl tx ty (if tz>if fz>N.hgt cs fx fy tx ty r then fz else N.hgt cs fx fy tx ty r then tz else if fz>N.hgt cs fx fy tx ty r then fz else N.hgt cs fx fy tx ty r) fx fy fz 0).length<=90000/\N.okRd tx ty tz tx ty (if tz>if fz>N.hgt cs fx fy tx ty r then fz else N.hgt cs fx fy tx ty r then tz else if fz>N.hgt cs fx fy tx ty r then fz else N.hgt cs fx fy tx ty r) pl) /\
                Weak (tu [AV.vec false 7 (List.map Mv.a (N.adl tx ty (if tz>if fz>N.hgt cs fx fy tx ty r then fz else N.hgt cs fx fy tx ty r then tz else if fz>N.hgt cs fx fy tx ty r then fz else N.hgt cs fx fy tx ty r) fx fy fz 0++N.ds1 tz tx ty (if tz>if fz>N.hgt cs fx fy tx ty r then fz else N.hgt cs fx fy tx ty r then tz else if fz>N.hgt cs fx fy tx ty r then fz else N.hgt cs fx fy tx ty r)++N.ds2 tz pl tx ty (if tz>if fz>N.hgt cs fx fy tx ty r then fz else N.hgt cs fx fy tx ty r then tz else if fz>N.hgt cs fx fy tx ty r then fz else N.hgt cs fx fy tx ty r))),vi 0]) dq)) /\
            (¬(N.sam fx fy (if tz>if fz>N.hgt cs fx fy tx ty r then fz else N.hgt cs fx fy tx ty r then tz else if fz>N.hgt cs fx fy tx ty r then fz else N.hgt cs fx fy tx ty r) fx fy fz)->((N.adl fx fy (if tz>if fz>N.hgt cs fx fy tx ty r then fz else N.hgt cs fx fy tx ty r then tz else if fz>N.hgt cs fx fy tx ty r then fz else N.hgt cs fx fy tx ty r) fx fy fz 0).length<=100000) /\
              ((N.adl fx fy (if tz>if fz>N.hgt cs fx fy tx ty r then fz else N.hgt cs fx fy tx ty r then tz else if fz>N.hgt cs fx fy tx ty r then fz else N.hgt cs fx fy tx ty r) fx fy fz 0++N.adl tx ty (if tz>if fz>N.hgt cs fx fy tx ty r then fz else N.hgt cs fx fy tx ty r then tz else if fz>N.hgt cs fx fy tx ty r then fz else N.hgt cs fx fy tx ty r) fx fy (if tz>if fz>N.hgt cs fx fy tx ty r then fz else N.hgt cs fx fy tx ty r then tz else if fz>N.hgt cs fx fy tx ty r then fz else N.hgt cs fx fy tx ty r) 0).length<=90000/\N.okRd tx ty tz tx ty (if tz>if fz>N.hgt cs fx fy tx ty r then fz else N.hgt cs fx fy tx ty r then tz else if fz>N.hgt cs fx fy tx ty r then fz else N.hgt cs fx fy tx ty r) pl) /\
              Weak (tu [AV.vec false 7 (List.map Mv.a (N.adl fx fy (if tz>if fz>N.hgt cs fx fy tx ty r then fz else N.hgt cs fx fy tx ty r then tz else if fz>N.hgt cs fx fy tx ty r then fz else N.hgt cs fx fy tx ty r) fx fy fz 0++N.adl tx ty (if tz>if fz>N.hgt cs fx fy tx ty r then fz else N.hgt cs fx fy tx ty r then tz else if fz>N.hgt cs fx fy tx ty r then fz else N.hgt cs fx fy tx ty r) fx fy (if tz>if fz>N.hgt cs fx fy tx ty r then fz else N.hgt cs fx fy tx ty r then tz else if fz>N.hgt cs fx fy tx ty r then fz else N.hgt cs fx fy tx ty r) 0++N.ds1 tz tx ty (if tz>if fz>N.hgt cs fx fy tx ty r then fz else N.hgt cs fx fy tx ty r then tz else if fz>N.hgt cs fx fy tx ty r then fz else N.hgt cs fx fy tx ty r)++N.ds2 tz pl tx ty (if tz>if fz>N.hgt cs fx fy tx ty r then fz else N.hgt cs fx fy tx ty r then tz else if fz>N.hgt cs fx fy tx ty r then fz else N.hgt cs fx fy tx ty r))),vi 0]) dq)))))) :
  qXlk_at f cs u0 v0 u1 v1 th gp sf fx fy fz tx ty tz r pl (Zag dq):=by
  unfold qXlk_at
  obtain ⟨k1,H⟩:=H
  refine Zaf (G:=Zae kp13 [(1,1,.call (vi (N.vaE cs u0 v0 u1 v1 th gp sf)) none)] []) 7 [] ⟨(atC (cd Tryz.f13) [1,0,1,1]),[(3,vi r),(4,vi pl),(5,AV.ptr 0 0 0 0),(6,AV.ptr 1 0 0 0),(7,AV.ptr 2 0 0 0),(12,vi (N.vaE cs u0 v0 u1 v1 th gp sf)),(18,vb (N.vaE cs u0 v0 u1 v1 th gp sf != 0))],[⟨[ag [vi u0,vi v0,vi u1,vi v1,vi th,vi gp,AV.vec f 5 (List.map Bx.a cs),vi sf]],8,0,false,false⟩,⟨[(Zc8 fx fy fz)],3,0,false,false⟩,⟨[(ZbD tx ty tz)],3,0,false,false⟩],_,[],_⟩ (by kernel_rfl) (bc rfl b0) q0 (ce (@ev20 f cs u0 v0 u1 v1 th gp sf k1) c0) ?_
  rcases xm (¬N.vaE cs u0 v0 u1 v1 th gp sf=0) with d3 | d3
  · have H:=H.1 d3
    exact Zaj (G:=Zae kp13 [] []) 1000 [true] (tu [AV.vnil,vi (N.vaE cs u0 v0 u1 v1 th gp sf)]) (by kernel_rfl) (bc (Zam (i_ne.2 d3)) b0) q0 c0 H
  · have H:=H.2 d3
    rcases xm ((r<0)\/(pl<=0)) with d5 | d5
    · have H:=H.1 d5
      exact Zaj (G:=Zae kp13 [] []) 1000 [false,true] (tu [AV.vnil,vi 1]) (by kernel_rfl) (bc (Zak (fun h=>d3 (i_ne.1 h))) (bc (Zam ((ZbP Zac Zac).2 d5)) b0)) q0 c0 H
    · have H:=H.2 d5
      refine Zaf (G:=Zae kp13 [(6,1,.call (vb (decide (N.fr1 fx\/N.fr1 fy\/N.fr1 fz))) none),(6,4,.call (vb (decide (N.fr1 tx\/N.fr1 ty\/N.fr1 tz))) none)] []) 10 [false,false] ⟨(atC (cd Tryz.f13) [1,1,1,0,1]),[(3,vi r),(4,vi pl),(5,AV.ptr 0 0 0 0),(6,AV.ptr 1 0 0 0),(7,AV.ptr 2 0 0 0),(35,vb (bif bif decide (N.fr1 fx\/N.fr1 fy\/N.fr1 fz) then true else decide (N.fr1 tx\/N.fr1 ty\/N.fr1 tz) then true else decide (r>10000000)))],[⟨[ag [vi u0,vi v0,vi u1,vi v1,vi th,vi gp,AV.vec f 5 (List.map Bx.a cs),vi sf]],8,0,false,false⟩,⟨[(Zc8 fx fy fz)],3,0,false,false⟩,⟨[(ZbD tx ty tz)],3,0,false,false⟩],[(N.vaE cs u0 v0 u1 v1 th gp sf != 0)==false,(bif decide (r<0) then true else decide (pl<=0))==false,true,!(decide (N.fr1 fx\/N.fr1 fy\/N.fr1 fz)==false&&true)||true],[],[⟨true,false,29,[(Zc8 fx fy fz)],[],vb (decide (N.fr1 fx\/N.fr1 fy\/N.fr1 fz)),[]⟩,⟨decide (N.fr1 fx\/N.fr1 fy\/N.fr1 fz)==false&&true&&true,false,29,[(ZbD tx ty tz)],[],vb (decide (N.fr1 tx\/N.fr1 ty\/N.fr1 tz)),[]⟩]⟩ (by kernel_rfl) (bc (Zak (fun h=>d3 (i_ne.1 h))) (bc (Zak (fun h=>d5 ((ZbP Zac Zac).1 h))) (bc rfl (bc (Bool.or_true _) b0)))) q0 (cc (fun _=>(@ev29 fx fy fz)) (cc (fun hc=>((@ev29 tx ty tz):Ev M1 (Conf.pure 29 [(ZbD tx ty tz)]) (vb (decide (N.fr1 tx\/N.fr1 ty\/N.fr1 tz))) [])) c0)) ?_
      rcases xm (((N.fr1 fx\/N.fr1 fy\/N.fr1 fz)\/(N.fr1 tx\/N.fr1 ty\/N.fr1 tz))\/(r>10000000)) with d8 | d8
      · have H:=H.1 d8
        exact Zaj (G:=Zae kp13 [] []) 1000 [true] (tu [AV.vnil,vi 11]) (by kernel_rfl) (bc (Zam ((ZbP (ZbP Zac Zac) Zac).2 d8)) b0) q0 c0 H
      · have H:=H.2 d8
        refine Zaf (G:=Zae kp13 [(9,1,.call ((Zc7 fx fy)) none),(9,3,.call ((Zc6 tx ty)) none)] []) 7 [false] ⟨(atC (cd Tryz.f13) [1,1,1,1,1,0,1]),[(3,vi r),(4,vi pl),(5,AV.ptr 0 0 0 0),(6,AV.ptr 1 0 0 0),(7,AV.ptr 2 0 0 0),(13,AV.ptr 3 0 0 0),(42,vb (fx==tx&&(fy==ty&&true)))],[⟨[ag [vi u0,vi v0,vi u1,vi v1,vi th,vi gp,AV.vec f 5 (List.map Bx.a cs),vi sf]],8,0,false,false⟩,⟨[(Zc8 fx fy fz)],3,0,false,false⟩,⟨[(ZbD tx ty tz)],3,0,false,false⟩,⟨[(ZaI fx fy fz)],4,0,false,false⟩],_,[],_⟩ (by kernel_rfl) (bc (Zak (fun h=>d8 ((ZbP (ZbP Zac Zac) Zac).1 h))) (bc rfl (bc rfl (bc rfl (bc rfl b0))))) q0 (ce (@ev30 fx fy fz) (ce (@ev30 tx ty tz) c0)) ?_
        rcases xm ((fx=tx)/\(fy=ty)) with d10 | d10
        · have H:=H.1 d10
          rcases xm (tz>fz) with d12 | d12
          · have H:=H.1 d12
            rcases xm (N.sam tx ty tz fx fy fz) with d13 | d13
            · have H:=H.1 d13
              exact Zaj (G:=Zae kp13 [(11,2,.call ((ZaI fx fy fz)) (some [⟨[(ZaI fx fy fz)],4,0,false,false⟩,⟨[(ZbD tx ty tz)],3,0,false,false⟩,⟨[(ZaI fx fy fz)],4,0,false,false⟩]))] []) 1000 [true,true] (calls:=[⟨true,true,31,[(ZaI fx fy fz),(ZbD tx ty tz),vi 0],[],(ZaI fx fy fz),[⟨[(ZaI fx fy fz)],4,0,false,false⟩,⟨[(ZbD tx ty tz)],3,0,false,false⟩,⟨[(ZaI fx fy fz)],4,0,false,false⟩]⟩]) (tu [AV.vnil,vi 0]) (by kernel_rfl) (bc (Zam ((Za4 i_eq (i_at i_eq)).2 d10)) (bc rfl (bc rfl (bc (Zam (Zac.2 d12)) (bc rfl (bc rfl b0)))))) q0 (cc (fun _=>(@ZcV fx fy fz tx ty tz 0 d13)) c0) H
            · have H:=H.2 d13
              exact ZaB (G:=Zae kp13 [(11,2,.call ((zNrG21 tx ty tz)) (some [⟨[(ZaI fx fy fz)],4,0,false,false⟩,⟨[(ZbD tx ty tz)],3,0,false,false⟩,⟨[(zNrG21 tx ty tz)],4,0,false,false⟩,⟨List.map Mv.a (N.adl tx ty tz fx fy fz 0),7,0,false,true⟩]))] []) 1000 [true,true] (k:=((atC (cd Tryz.f13) [1,1,1,1,1,0,1,0,0,1,0,1])).tail) (env':=[(10,AV.row 4 0),(11,vi 0)]) (L':=[⟨[ag [vi u0,vi v0,vi u1,vi v1,vi th,vi gp,AV.vec f 5 (List.map Bx.a cs),vi sf]],8,0,false,false⟩,⟨[(Zc8 fx fy fz)],3,0,false,false⟩,⟨[(ZbD tx ty tz)],3,0,false,false⟩,⟨[(ZaI fx fy fz)],4,0,false,false⟩,⟨List.map Mv.a (N.adl tx ty tz fx fy fz 0),7,0,false,true⟩]) (asm:=[(fx==tx&&(fy==ty&&true))==true,true,true,(decide (tz>fz))==true,true,true]) (eqs:=[]) (calls:=[⟨true,true,31,[(ZaI fx fy fz),(ZbD tx ty tz),vi 0],[],(zNrG21 tx ty tz),[⟨[(ZaI fx fy fz)],4,0,false,false⟩,⟨[(ZbD tx ty tz)],3,0,false,false⟩,⟨[(zNrG21 tx ty tz)],4,0,false,false⟩,⟨List.map Mv.a (N.adl tx ty tz fx fy fz 0),7,0,false,true⟩]⟩]) (tu [AV.row 4 0,vi 0]) (by kernel_rfl) (by kernel_rfl) (Zaa (Zam ((Za4 i_eq (i_at i_eq)).2 d10)) (Zaa rfl (Zaa rfl (Zaa (Zam (Zac.2 d12)) (Zaa rfl (Zaa rfl Zal)))))) Zao (Zah (fun _=>(@ZeB fx fy fz tx ty tz 0 d13)) Zap) (ZbI (d:=(tu [AV.vec false 7 (List.map Mv.a (N.adl tx ty tz fx fy fz 0)),vi 0])) (bs:=[0==0]) (by kernel_rfl) (by kernel_rfl) (Zaa (beq_self_eq_true _) Zal) (by kernel_rfl) H)
          · have H:=H.2 d12
            rcases xm (N.dno tz fz) with d14 | d14
            · have H:=H.1 d14
              obtain ⟨k15,H⟩:=H
              exact Zaj (G:=Zae kp13 [(12,3,.call ((ZaI fx fy fz)) (some [⟨[(ZaI fx fy fz)],4,0,false,false⟩,⟨[(ZbD tx ty tz)],3,0,false,false⟩,⟨[(ZaI fx fy fz)],4,0,false,false⟩,⟨[(ZfA tx ty tz)],3,0,false,false⟩]))] []) 1000 [true,false] (calls:=[⟨true,true,32,[(ZaI fx fy fz),(ZbD tx ty tz),vi pl],[],(ZaI fx fy fz),[⟨[(ZaI fx fy fz)],4,0,false,false⟩,⟨[(ZbD tx ty tz)],3,0,false,false⟩,⟨[(ZaI fx fy fz)],4,0,false,false⟩,⟨[(ZfA tx ty tz)],3,0,false,false⟩]⟩]) (tu [AV.vnil,vi 0]) (by kernel_rfl) (bc (Zam ((Za4 i_eq (i_at i_eq)).2 d10)) (bc rfl (bc rfl (bc (Zak (fun h=>d12 (Zac.1 h))) (bc rfl (bc rfl b0)))))) q0 (cc (fun _=>(@evo32_y fx fy fz tx ty tz pl k15 d14)) c0) H
            · have H:=H.2 d14
              obtain ⟨k16,H⟩:=H
              exact ZaB (G:=Zae kp13 [(12,3,.call ((Zdw tx ty tz pl fx fy fz)) (some [⟨[(Zdw tx ty tz pl fx fy fz)],4,0,false,false⟩,⟨[(ZbD tx ty tz)],3,0,false,false⟩,⟨[(Zdw tx ty tz pl fx fy fz)],4,0,false,false⟩,⟨[(ZfA tx ty tz)],3,0,false,false⟩,⟨List.map Mv.a (N.ds1 tz fx fy fz++N.ds2 tz pl fx fy fz),7,N.dvn tz pl fx fy fz,false,true⟩]))] []) 1000 [true,false] (k:=((atC (cd Tryz.f13) [1,1,1,1,1,0,1,0,1,1])).tail) (env':=[(10,AV.row 4 (N.dvn tz pl fx fy fz)),(11,vi 0)]) (L':=[⟨[ag [vi u0,vi v0,vi u1,vi v1,vi th,vi gp,AV.vec f 5 (List.map Bx.a cs),vi sf]],8,0,false,false⟩,⟨[(Zc8 fx fy fz)],3,0,false,false⟩,⟨[(ZbD tx ty tz)],3,0,false,false⟩,⟨[(ZaI fx fy fz)],4,0,false,false⟩,⟨List.map Mv.a (N.ds1 tz fx fy fz++N.ds2 tz pl fx fy fz),7,N.dvn tz pl fx fy fz,false,true⟩]) (asm:=[(fx==tx&&(fy==ty&&true))==true,true,true,(decide (tz>fz))==false,true,true]) (eqs:=[]) (calls:=[⟨true,true,32,[(ZaI fx fy fz),(ZbD tx ty tz),vi pl],[],(Zdw tx ty tz pl fx fy fz),[⟨[(Zdw tx ty tz pl fx fy fz)],4,0,false,false⟩,⟨[(ZbD tx ty tz)],3,0,false,false⟩,⟨[(Zdw tx ty tz pl fx fy fz)],4,0,false,false⟩,⟨[(ZfA tx ty tz)],3,0,false,false⟩,⟨List.map Mv.a (N.ds1 tz fx fy fz++N.ds2 tz pl fx fy fz),7,N.dvn tz pl fx fy fz,false,true⟩]⟩]) (tu [AV.row 4 (N.dvn tz pl fx fy fz),vi 0]) (by kernel_rfl) (by kernel_rfl) (Zaa (Zam ((Za4 i_eq (i_at i_eq)).2 d10)) (Zaa rfl (Zaa rfl (Zaa (Zak (fun h=>d12 (Zac.1 h))) (Zaa rfl (Zaa rfl Zal)))))) Zao (Zah (fun _=>(@evo32_n fx fy fz tx ty tz pl k16 d14)) Zap) (ZbI (d:=(tu [AV.vec false 7 (List.map Mv.a (N.ds1 tz fx fy fz++N.ds2 tz pl fx fy fz)),vi 0])) (bs:=[N.dvn tz pl fx fy fz==N.dvn tz pl fx fy fz]) (by kernel_rfl) (by kernel_rfl) (Zaa (beq_self_eq_true _) Zal) (by kernel_rfl) H)
        · have H:=H.2 d10
          obtain ⟨k17,H⟩:=H
          rcases xm (N.sam fx fy (if tz>if fz>N.hgt cs fx fy tx ty r then fz else N.hgt cs fx fy tx ty r then tz else if fz>N.hgt cs fx fy tx ty r then fz else N.hgt cs fx fy tx ty r) fx fy fz) with d18 | d18
          · have H:=H.1 d18
            rcases xm (N.sam tx ty (if tz>if fz>N.hgt cs fx fy tx ty r then fz else N.hgt cs fx fy tx ty r then tz else if fz>N.hgt cs fx fy tx ty r then fz else N.hgt cs fx fy tx ty r) fx fy fz) with d19 | d19
            · have H:=H.1 d19
              rcases xm (N.dno tz fz) with d20 | d20
              · have H:=H.1 d20
                obtain ⟨k21,H⟩:=H
                exact Zaj (G:=Zae kp13 [(13,2,.call ((Zc7 fx fy)) none),(13,4,.call ((Zc6 tx ty)) none),(13,6,.call (vi (N.hgt cs fx fy tx ty r)) none),(14,7,.call ((ZaI fx fy fz)) (some [⟨[(ZaI fx fy fz)],4,0,false,false⟩,⟨[(ZfK fx fy tz fz cs tx ty r)],3,0,false,false⟩,⟨[(ZaI fx fy fz)],4,0,false,false⟩])),(15,7,.call ((ZaI fx fy fz)) (some [⟨[(ZaI fx fy fz)],4,0,false,false⟩,⟨[(Zhe tx ty tz fz cs fx fy r)],3,0,false,false⟩,⟨[(ZaI fx fy fz)],4,0,false,false⟩])),(16,3,.call ((ZaI fx fy fz)) (some [⟨[(ZaI fx fy fz)],4,0,false,false⟩,⟨[(ZbD tx ty tz)],3,0,false,false⟩,⟨[(ZaI fx fy fz)],4,0,false,false⟩,⟨[(ZfA tx ty tz)],3,0,false,false⟩]))] []) 1000 [false] (calls:=[⟨true,false,30,[(Zc8 fx fy fz)],[],(Zc7 fx fy),[]⟩,⟨true,false,30,[(ZbD tx ty tz)],[],(Zc6 tx ty),[]⟩,⟨true,false,10,[ag [vi u0,vi v0,vi u1,vi v1,vi th,vi gp,AV.vec f 5 (List.map Bx.a cs),vi sf],(Zc7 fx fy),(Zc6 tx ty),vi r],[],vi (N.hgt cs fx fy tx ty r),[]⟩,⟨true,true,31,[(ZaI fx fy fz),(ZfK fx fy tz fz cs tx ty r),vi 0],[],(ZaI fx fy fz),[⟨[(ZaI fx fy fz)],4,0,false,false⟩,⟨[(ZfK fx fy tz fz cs tx ty r)],3,0,false,false⟩,⟨[(ZaI fx fy fz)],4,0,false,false⟩]⟩,⟨true,true,31,[(ZaI fx fy fz),(Zhe tx ty tz fz cs fx fy r),vi 0],[],(ZaI fx fy fz),[⟨[(ZaI fx fy fz)],4,0,false,false⟩,⟨[(Zhe tx ty tz fz cs fx fy r)],3,0,false,false⟩,⟨[(ZaI fx fy fz)],4,0,false,false⟩]⟩,⟨true,true,32,[(ZaI fx fy fz),(ZbD tx ty tz),vi pl],[],(ZaI fx fy fz),[⟨[(ZaI fx fy fz)],4,0,false,false⟩,⟨[(ZbD tx ty tz)],3,0,false,false⟩,⟨[(ZaI fx fy fz)],4,0,false,false⟩,⟨[(ZfA tx ty tz)],3,0,false,false⟩]⟩]) (tu [AV.vnil,vi 0]) (by kernel_rfl) (bc (Zak (fun h=>d10 ((Za4 i_eq (i_at i_eq)).1 h))) (bc rfl (bc rfl (bc rfl (bc rfl (bc rfl (bc rfl (bc rfl (bc rfl (bc rfl (bc rfl (bc rfl (bc rfl (bc rfl (bc rfl (bc rfl b0)))))))))))))))) q0 (cc (fun _=>(@ev30 fx fy fz)) (cc (fun _=>(@ev30 tx ty tz)) (cc (fun _=>(@ev10 f cs u0 v0 u1 v1 th gp sf fx fy tx ty r k17)) (cc (fun _=>(@ZcV fx fy fz fx fy (if tz>if fz>N.hgt cs fx fy tx ty r then fz else N.hgt cs fx fy tx ty r then tz else if fz>N.hgt cs fx fy tx ty r then fz else N.hgt cs fx fy tx ty r) 0 d18)) (cc (fun _=>(@ZcV fx fy fz tx ty (if tz>if fz>N.hgt cs fx fy tx ty r then fz else N.hgt cs fx fy tx ty r then tz else if fz>N.hgt cs fx fy tx ty r then fz else N.hgt cs fx fy tx ty r) 0 d19)) (cc (fun _=>(@evo32_y fx fy fz tx ty tz pl k21 d20)) c0)))))) H
              · have H:=H.2 d20
                obtain ⟨k22,H⟩:=H
                exact ZaB (G:=Zae kp13 [(13,2,.call ((Zc7 fx fy)) none),(13,4,.call ((Zc6 tx ty)) none),(13,6,.call (vi (N.hgt cs fx fy tx ty r)) none),(14,7,.call ((ZaI fx fy fz)) (some [⟨[(ZaI fx fy fz)],4,0,false,false⟩,⟨[(ZfK fx fy tz fz cs tx ty r)],3,0,false,false⟩,⟨[(ZaI fx fy fz)],4,0,false,false⟩])),(15,7,.call ((ZaI fx fy fz)) (some [⟨[(ZaI fx fy fz)],4,0,false,false⟩,⟨[(Zhe tx ty tz fz cs fx fy r)],3,0,false,false⟩,⟨[(ZaI fx fy fz)],4,0,false,false⟩])),(16,3,.call ((Zdw tx ty tz pl fx fy fz)) (some [⟨[(Zdw tx ty tz pl fx fy fz)],4,0,false,false⟩,⟨[(ZbD tx ty tz)],3,0,false,false⟩,⟨[(Zdw tx ty tz pl fx fy fz)],4,0,false,false⟩,⟨[(ZfA tx ty tz)],3,0,false,false⟩,⟨List.map Mv.a (N.ds1 tz fx fy fz++N.ds2 tz pl fx fy fz),7,N.dvn tz pl fx fy fz,false,true⟩]))] []) 1000 [false] (k:=((atC (cd Tryz.f13) [1,1,1,1,1,1,1,1,1,1])).tail) (env':=[(10,AV.row 4 (N.dvn tz pl fx fy fz)),(11,vi 0)]) (L':=[⟨[ag [vi u0,vi v0,vi u1,vi v1,vi th,vi gp,AV.vec f 5 (List.map Bx.a cs),vi sf]],8,0,false,false⟩,⟨[(Zc8 fx fy fz)],3,0,false,false⟩,⟨[(ZbD tx ty tz)],3,0,false,false⟩,⟨[(ZaI fx fy fz)],4,0,false,false⟩,⟨List.map Mv.a (N.ds1 tz fx fy fz++N.ds2 tz pl fx fy fz),7,N.dvn tz pl fx fy fz,false,true⟩]) (asm:=[(fx==tx&&(fy==ty&&true))==false,true,true,true,true,true,true,true,true,true,true,true,true,true,true,true]) (eqs:=[]) (calls:=[⟨true,false,30,[(Zc8 fx fy fz)],[],(Zc7 fx fy),[]⟩,⟨true,false,30,[(ZbD tx ty tz)],[],(Zc6 tx ty),[]⟩,⟨true,false,10,[ag [vi u0,vi v0,vi u1,vi v1,vi th,vi gp,AV.vec f 5 (List.map Bx.a cs),vi sf],(Zc7 fx fy),(Zc6 tx ty),vi r],[],vi (N.hgt cs fx fy tx ty r),[]⟩,⟨true,true,31,[(ZaI fx fy fz),(ZfK fx fy tz fz cs tx ty r),vi 0],[],(ZaI fx fy fz),[⟨[(ZaI fx fy fz)],4,0,false,false⟩,⟨[(ZfK fx fy tz fz cs tx ty r)],3,0,false,false⟩,⟨[(ZaI fx fy fz)],4,0,false,false⟩]⟩,⟨true,true,31,[(ZaI fx fy fz),(Zhe tx ty tz fz cs fx fy r),vi 0],[],(ZaI fx fy fz),[⟨[(ZaI fx fy fz)],4,0,false,false⟩,⟨[(Zhe tx ty tz fz cs fx fy r)],3,0,false,false⟩,⟨[(ZaI fx fy fz)],4,0,false,false⟩]⟩,⟨true,true,32,[(ZaI fx fy fz),(ZbD tx ty tz),vi pl],[],(Zdw tx ty tz pl fx fy fz),[⟨[(Zdw tx ty tz pl fx fy fz)],4,0,false,false⟩,⟨[(ZbD tx ty tz)],3,0,false,false⟩,⟨[(Zdw tx ty tz pl fx fy fz)],4,0,false,false⟩,⟨[(ZfA tx ty tz)],3,0,false,false⟩,⟨List.map Mv.a (N.ds1 tz fx fy fz++N.ds2 tz pl fx fy fz),7,N.dvn tz pl fx fy fz,false,true⟩]⟩]) (tu [AV.row 4 (N.dvn tz pl fx fy fz),vi 0]) (by kernel_rfl) (by kernel_rfl) (Zaa (Zak (fun h=>d10 ((Za4 i_eq (i_at i_eq)).1 h))) (Zaa rfl (Zaa rfl (Zaa rfl (Zaa rfl (Zaa rfl (Zaa rfl (Zaa rfl (Zaa rfl (Zaa rfl (Zaa rfl (Zaa rfl (Zaa rfl (Zaa rfl (Zaa rfl (Zaa rfl Zal)))))))))))))))) Zao (Zah (fun _=>(@ev30 fx fy fz)) (Zah (fun _=>(@ev30 tx ty tz)) (Zah (fun _=>(@ev10 f cs u0 v0 u1 v1 th gp sf fx fy tx ty r k17)) (Zah (fun _=>(@ZcV fx fy fz fx fy (if tz>if fz>N.hgt cs fx fy tx ty r then fz else N.hgt cs fx fy tx ty r then tz else if fz>N.hgt cs fx fy tx ty r then fz else N.hgt cs fx fy tx ty r) 0 d18)) (Zah (fun _=>(@ZcV fx fy fz tx ty (if tz>if fz>N.hgt cs fx fy tx ty r then fz else N.hgt cs fx fy tx ty r then tz else if fz>N.hgt cs fx fy tx ty r then fz else N.hgt cs fx fy tx ty r) 0 d19)) (Zah (fun _=>(@evo32_n fx fy fz tx ty tz pl k22 d20)) Zap)))))) (ZbI (d:=(tu [AV.vec false 7 (List.map Mv.a (N.ds1 tz fx fy fz++N.ds2 tz pl fx fy fz)),vi 0])) (bs:=[N.dvn tz pl fx fy fz==N.dvn tz pl fx fy fz]) (by kernel_rfl) (by kernel_rfl) (Zaa (beq_self_eq_true _) Zal) (by kernel_rfl) H)
            · have H:=H.2 d19
              obtain ⟨k23,H⟩:=H
              exact ZaB (G:=Zae kp13 [(13,2,.call ((Zc7 fx fy)) none),(13,4,.call ((Zc6 tx ty)) none),(13,6,.call (vi (N.hgt cs fx fy tx ty r)) none),(14,7,.call ((ZaI fx fy fz)) (some [⟨[(ZaI fx fy fz)],4,0,false,false⟩,⟨[(ZfK fx fy tz fz cs tx ty r)],3,0,false,false⟩,⟨[(ZaI fx fy fz)],4,0,false,false⟩])),(15,7,.call ((zNrG13 tx ty tz fz cs fx fy r)) (some [⟨[(ZaI fx fy fz)],4,0,false,false⟩,⟨[(Zhe tx ty tz fz cs fx fy r)],3,0,false,false⟩,⟨[(zNrG13 tx ty tz fz cs fx fy r)],4,0,false,false⟩,⟨List.map Mv.a (zNrG19 tx ty tz fz cs fx fy r),7,0,false,true⟩])),(16,3,.call (ag [vi tx,vi ty,vi tz,AV.row 0 (0+(ZdA tz tx ty fz cs fx fy r).length+(Zdz tz pl tx ty fz cs fx fy r).length)]) (some [⟨List.map Mv.a (zNrG9 tx ty tz fz cs fx fy r pl),7,0+(ZdA tz tx ty fz cs fx fy r).length+(Zdz tz pl tx ty fz cs fx fy r).length,false,true⟩]))] []) 1000 [false] (k:=((atC (cd Tryz.f13) [1,1,1,1,1,1,1,1,1,1])).tail) (env':=[(10,AV.row 4 (0+(ZdA tz tx ty fz cs fx fy r).length+(Zdz tz pl tx ty fz cs fx fy r).length)),(11,vi 0)]) (L':=[⟨[ag [vi u0,vi v0,vi u1,vi v1,vi th,vi gp,AV.vec f 5 (List.map Bx.a cs),vi sf]],8,0,false,false⟩,⟨[(Zc8 fx fy fz)],3,0,false,false⟩,⟨[(ZbD tx ty tz)],3,0,false,false⟩,⟨[ag [vi tx,vi ty,vi (if tz>if fz>N.hgt cs fx fy tx ty r then fz else N.hgt cs fx fy tx ty r then tz else if fz>N.hgt cs fx fy tx ty r then fz else N.hgt cs fx fy tx ty r),AV.row 4 0]],4,0,false,false⟩,⟨List.map Mv.a (zNrG9 tx ty tz fz cs fx fy r pl),7,0+(ZdA tz tx ty fz cs fx fy r).length+(Zdz tz pl tx ty fz cs fx fy r).length,false,true⟩]) (asm:=[(fx==tx&&(fy==ty&&true))==false,true,true,true,true,true,true,true,true,true,true,true,true,true,true,true]) (eqs:=[]) (calls:=[⟨true,false,30,[(Zc8 fx fy fz)],[],(Zc7 fx fy),[]⟩,⟨true,false,30,[(ZbD tx ty tz)],[],(Zc6 tx ty),[]⟩,⟨true,false,10,[ag [vi u0,vi v0,vi u1,vi v1,vi th,vi gp,AV.vec f 5 (List.map Bx.a cs),vi sf],(Zc7 fx fy),(Zc6 tx ty),vi r],[],vi (N.hgt cs fx fy tx ty r),[]⟩,⟨true,true,31,[(ZaI fx fy fz),(ZfK fx fy tz fz cs tx ty r),vi 0],[],(ZaI fx fy fz),[⟨[(ZaI fx fy fz)],4,0,false,false⟩,⟨[(ZfK fx fy tz fz cs tx ty r)],3,0,false,false⟩,⟨[(ZaI fx fy fz)],4,0,false,false⟩]⟩,⟨true,true,31,[(ZaI fx fy fz),(Zhe tx ty tz fz cs fx fy r),vi 0],[],(zNrG13 tx ty tz fz cs fx fy r),[⟨[(ZaI fx fy fz)],4,0,false,false⟩,⟨[(Zhe tx ty tz fz cs fx fy r)],3,0,false,false⟩,⟨[(zNrG13 tx ty tz fz cs fx fy r)],4,0,false,false⟩,⟨List.map Mv.a (zNrG19 tx ty tz fz cs fx fy r),7,0,false,true⟩]⟩,⟨true,true,32,[ag [vi tx,vi ty,vi (if tz>if fz>N.hgt cs fx fy tx ty r then fz else N.hgt cs fx fy tx ty r then tz else if fz>N.hgt cs fx fy tx ty r then fz else N.hgt cs fx fy tx ty r),AV.row 0 0],(ZbD tx ty tz),vi pl],[⟨List.map Mv.a (zNrG19 tx ty tz fz cs fx fy r),7,0,false,true⟩],ag [vi tx,vi ty,vi tz,AV.row 0 (0+(ZdA tz tx ty fz cs fx fy r).length+(Zdz tz pl tx ty fz cs fx fy r).length)],[⟨List.map Mv.a (zNrG9 tx ty tz fz cs fx fy r pl),7,0+(ZdA tz tx ty fz cs fx fy r).length+(Zdz tz pl tx ty fz cs fx fy r).length,false,true⟩]⟩]) (tu [AV.row 4 (0+(ZdA tz tx ty fz cs fx fy r).length+(Zdz tz pl tx ty fz cs fx fy r).length),vi 0]) (by kernel_rfl) (by kernel_rfl) (Zaa (Zak (fun h=>d10 ((Za4 i_eq (i_at i_eq)).1 h))) (Zaa rfl (Zaa rfl (Zaa rfl (Zaa rfl (Zaa rfl (Zaa rfl (Zaa rfl (Zaa rfl (Zaa rfl (Zaa rfl (Zaa rfl (Zaa rfl (Zaa rfl (Zaa rfl (Zaa rfl Zal)))))))))))))))) Zao (Zah (fun _=>(@ev30 fx fy fz)) (Zah (fun _=>(@ev30 tx ty tz)) (Zah (fun _=>(@ev10 f cs u0 v0 u1 v1 th gp sf fx fy tx ty r k17)) (Zah (fun _=>(@ZcV fx fy fz fx fy (if tz>if fz>N.hgt cs fx fy tx ty r then fz else N.hgt cs fx fy tx ty r then tz else if fz>N.hgt cs fx fy tx ty r then fz else N.hgt cs fx fy tx ty r) 0 d18)) (Zah (fun _=>(@ZeB fx fy fz tx ty (if tz>if fz>N.hgt cs fx fy tx ty r then fz else N.hgt cs fx fy tx ty r then tz else if fz>N.hgt cs fx fy tx ty r then fz else N.hgt cs fx fy tx ty r) 0 d19)) (Zah (fun _=>(@evo32 (zNrG19 tx ty tz fz cs fx fy r) 0 tx ty (if tz>if fz>N.hgt cs fx fy tx ty r then fz else N.hgt cs fx fy tx ty r then tz else if fz>N.hgt cs fx fy tx ty r then fz else N.hgt cs fx fy tx ty r) tx ty tz pl k23)) Zap)))))) (ZbI (d:=(tu [AV.vec false 7 (List.map Mv.a (zNrG9 tx ty tz fz cs fx fy r pl)),vi 0])) (bs:=[0+(ZdA tz tx ty fz cs fx fy r).length+(Zdz tz pl tx ty fz cs fx fy r).length==0+(ZdA tz tx ty fz cs fx fy r).length+(Zdz tz pl tx ty fz cs fx fy r).length]) (by kernel_rfl) (by kernel_rfl) (Zaa (beq_self_eq_true _) Zal) (by kernel_rfl) H)
          · have H:=H.2 d18
            obtain ⟨k24,k25,H⟩:=H
            exact ZaB (G:=Zae kp13 [(13,2,.call ((Zc7 fx fy)) none),(13,4,.call ((Zc6 tx ty)) none),(13,6,.call (vi (N.hgt cs fx fy tx ty r)) none),(14,7,.call ((zNrG14 fx fy tz fz cs tx ty r)) (some [⟨[(ZaI fx fy fz)],4,0,false,false⟩,⟨[(ZfK fx fy tz fz cs tx ty r)],3,0,false,false⟩,⟨[(zNrG14 fx fy tz fz cs tx ty r)],4,0,false,false⟩,⟨List.map Mv.a (zNrG20 fx fy tz fz cs tx ty r),7,0,false,true⟩])),(15,7,.call ((zNrG18 tx ty tz fz cs fx fy r)) (some [⟨List.map Mv.a (zNrG10 fx fy tz fz cs tx ty r),7,0+(Zes tx ty tz fz cs fx fy r).length,false,true⟩])),(16,3,.call (ag [vi tx,vi ty,vi tz,AV.row 0 (0+(Zes tx ty tz fz cs fx fy r).length+(ZdA tz tx ty fz cs fx fy r).length+(Zdz tz pl tx ty fz cs fx fy r).length)]) (some [⟨List.map Mv.a (zNrG3 fx fy tz fz cs tx ty r pl),7,0+(Zes tx ty tz fz cs fx fy r).length+(ZdA tz tx ty fz cs fx fy r).length+(Zdz tz pl tx ty fz cs fx fy r).length,false,true⟩]))] []) 1000 [false] (k:=((atC (cd Tryz.f13) [1,1,1,1,1,1,1,1,1,1])).tail) (env':=[(10,AV.row 4 (0+(Zes tx ty tz fz cs fx fy r).length+(ZdA tz tx ty fz cs fx fy r).length+(Zdz tz pl tx ty fz cs fx fy r).length)),(11,vi 0)]) (L':=[⟨[ag [vi u0,vi v0,vi u1,vi v1,vi th,vi gp,AV.vec f 5 (List.map Bx.a cs),vi sf]],8,0,false,false⟩,⟨[(Zc8 fx fy fz)],3,0,false,false⟩,⟨[(ZbD tx ty tz)],3,0,false,false⟩,⟨[ag [vi tx,vi ty,vi (if tz>if fz>N.hgt cs fx fy tx ty r then fz else N.hgt cs fx fy tx ty r then tz else if fz>N.hgt cs fx fy tx ty r then fz else N.hgt cs fx fy tx ty r),AV.row 4 (0+(Zes tx ty tz fz cs fx fy r).length)]],4,0,false,false⟩,⟨List.map Mv.a (zNrG3 fx fy tz fz cs tx ty r pl),7,0+(Zes tx ty tz fz cs fx fy r).length+(ZdA tz tx ty fz cs fx fy r).length+(Zdz tz pl tx ty fz cs fx fy r).length,false,true⟩]) (asm:=[(fx==tx&&(fy==ty&&true))==false,true,true,true,true,true,true,true,true,true,true,true,true,true,true,true]) (eqs:=[]) (calls:=[⟨true,false,30,[(Zc8 fx fy fz)],[],(Zc7 fx fy),[]⟩,⟨true,false,30,[(ZbD tx ty tz)],[],(Zc6 tx ty),[]⟩,⟨true,false,10,[ag [vi u0,vi v0,vi u1,vi v1,vi th,vi gp,AV.vec f 5 (List.map Bx.a cs),vi sf],(Zc7 fx fy),(Zc6 tx ty),vi r],[],vi (N.hgt cs fx fy tx ty r),[]⟩,⟨true,true,31,[(ZaI fx fy fz),(ZfK fx fy tz fz cs tx ty r),vi 0],[],(zNrG14 fx fy tz fz cs tx ty r),[⟨[(ZaI fx fy fz)],4,0,false,false⟩,⟨[(ZfK fx fy tz fz cs tx ty r)],3,0,false,false⟩,⟨[(zNrG14 fx fy tz fz cs tx ty r)],4,0,false,false⟩,⟨List.map Mv.a (zNrG20 fx fy tz fz cs tx ty r),7,0,false,true⟩]⟩,⟨true,true,31,[ag [vi fx,vi fy,vi (if tz>if fz>N.hgt cs fx fy tx ty r then fz else N.hgt cs fx fy tx ty r then tz else if fz>N.hgt cs fx fy tx ty r then fz else N.hgt cs fx fy tx ty r),AV.row 0 0],(Zhe tx ty tz fz cs fx fy r),vi 0],[⟨List.map Mv.a (zNrG20 fx fy tz fz cs tx ty r),7,0,false,true⟩],(zNrG18 tx ty tz fz cs fx fy r),[⟨List.map Mv.a (zNrG10 fx fy tz fz cs tx ty r),7,0+(Zes tx ty tz fz cs fx fy r).length,false,true⟩]⟩,⟨true,true,32,[(zNrG18 tx ty tz fz cs fx fy r),(ZbD tx ty tz),vi pl],[⟨List.map Mv.a (zNrG10 fx fy tz fz cs tx ty r),7,0+(Zes tx ty tz fz cs fx fy r).length,false,true⟩],ag [vi tx,vi ty,vi tz,AV.row 0 (0+(Zes tx ty tz fz cs fx fy r).length+(ZdA tz tx ty fz cs fx fy r).length+(Zdz tz pl tx ty fz cs fx fy r).length)],[⟨List.map Mv.a (zNrG3 fx fy tz fz cs tx ty r pl),7,0+(Zes tx ty tz fz cs fx fy r).length+(ZdA tz tx ty fz cs fx fy r).length+(Zdz tz pl tx ty fz cs fx fy r).length,false,true⟩]⟩]) (tu [AV.row 4 (0+(Zes tx ty tz fz cs fx fy r).length+(ZdA tz tx ty fz cs fx fy r).length+(Zdz tz pl tx ty fz cs fx fy r).length),vi 0]) (by kernel_rfl) (by kernel_rfl) (Zaa (Zak (fun h=>d10 ((Za4 i_eq (i_at i_eq)).1 h))) (Zaa rfl (Zaa rfl (Zaa rfl (Zaa rfl (Zaa rfl (Zaa rfl (Zaa rfl (Zaa rfl (Zaa rfl (Zaa rfl (Zaa rfl (Zaa rfl (Zaa rfl (Zaa rfl (Zaa rfl Zal)))))))))))))))) Zao (Zah (fun _=>(@ev30 fx fy fz)) (Zah (fun _=>(@ev30 tx ty tz)) (Zah (fun _=>(@ev10 f cs u0 v0 u1 v1 th gp sf fx fy tx ty r k17)) (Zah (fun _=>(@ZeB fx fy fz fx fy (if tz>if fz>N.hgt cs fx fy tx ty r then fz else N.hgt cs fx fy tx ty r then tz else if fz>N.hgt cs fx fy tx ty r then fz else N.hgt cs fx fy tx ty r) 0 d18)) (Zah (fun _=>(@evo31 (zNrG20 fx fy tz fz cs tx ty r) 0 fx fy (if tz>if fz>N.hgt cs fx fy tx ty r then fz else N.hgt cs fx fy tx ty r then tz else if fz>N.hgt cs fx fy tx ty r then fz else N.hgt cs fx fy tx ty r) tx ty (if tz>if fz>N.hgt cs fx fy tx ty r then fz else N.hgt cs fx fy tx ty r then tz else if fz>N.hgt cs fx fy tx ty r then fz else N.hgt cs fx fy tx ty r) 0 k24)) (Zah (fun _=>(@evo32 (zNrG10 fx fy tz fz cs tx ty r) (0+(Zes tx ty tz fz cs fx fy r).length) tx ty (if tz>if fz>N.hgt cs fx fy tx ty r then fz else N.hgt cs fx fy tx ty r then tz else if fz>N.hgt cs fx fy tx ty r then fz else N.hgt cs fx fy tx ty r) tx ty tz pl k25)) Zap)))))) (ZbI (d:=(tu [AV.vec false 7 (List.map Mv.a (zNrG3 fx fy tz fz cs tx ty r pl)),vi 0])) (bs:=[0+(Zes tx ty tz fz cs fx fy r).length+(ZdA tz tx ty fz cs fx fy r).length+(Zdz tz pl tx ty fz cs fx fy r).length==0+(Zes tx ty tz fz cs fx fy r).length+(ZdA tz tx ty fz cs fx fy r).length+(Zdz tz pl tx ty fz cs fx fy r).length]) (by kernel_rfl) (by kernel_rfl) (Zaa (beq_self_eq_true _) Zal) (by kernel_rfl) H)
end Go.Av

namespace Go.Av
open Go.Proofs
theorem lnH_ge (fz tz h:Int):tz<=N.lnH fz tz h:=by unfold N.lnH;split <;> omega
open Classical in
theorem ev13 (f:Bool) (cs:List Bx) (u0 v0 u1 v1 th gp sf fx fy fz tx ty tz r pl:Int) (hl:cs.length<=1000) :
  Ev M1 (.pure 13 [.agg [.int .i64 u0,.int .i64 v0,.int .i64 u1,.int .i64 v1,.int .i64 th,.int .i64 gp,.vec f 5 (cs.map Bx.a),.int .i64 sf],.agg [.int .i64 fx,.int .i64 fy,.int .i64 fz],.agg [.int .i64 tx,.int .i64 ty,.int .i64 tz],.int .i64 r,.int .i64 pl])
   (.tup [.vec false 7 ((N.lnP cs u0 v0 u1 v1 th gp sf fx fy fz tx ty tz r pl).map Mv.a),.int .i64 (N.lnE cs u0 v0 u1 v1 th gp sf fx fy fz tx ty tz r pl)]) []:=by
 have E {k:Int} (h:N.lnE cs u0 v0 u1 v1 th gp sf fx fy fz tx ty tz r pl=k) (hk:k ≠ 0):Weak (AV.tup [.vnil,.int .i64 k]) (.tup [.vec false 7 ((N.lnP cs u0 v0 u1 v1 th gp sf fx fy fz tx ty tz r pl).map Mv.a),.int .i64 (N.lnE cs u0 v0 u1 v1 th gp sf fx fy fz tx ty tz r pl)]):=by
  rw [h];exact weak_m0 (by unfold N.lnP;rw [h,if_neg hk])
 refine call13 (qXlk _ _ _ _ _ _ _ _ _ _ _ _ _ _ _ _ _ _ ⟨hl,fun k1 => ?_,fun k1=>⟨fun k2=>E ?_ (by decide),fun k2=>⟨fun k3=>E ?_ (by decide),fun k3 => ?_⟩⟩⟩)
 ·rw [va_n (ZfN.1 k1)];exact E (by unfold N.lnE;rw [if_pos (ZfN.1 k1)]) (by decide)
 ·unfold N.lnE;rw [if_neg fun x=>k1 (ZfN.2 x),if_pos k2]
 ·unfold N.lnE;rw [if_neg fun x=>k1 (ZfN.2 x),if_neg k2,if_pos (by unfold N.fr7 N.fr4;simp only [N.fr1] at k3 ⊢;omega)]
 ·have k3:¬N.fr7 fx fy fz tx ty tz r:=fun x=>k3 (by unfold N.fr7 N.fr4 at x;simp only [N.fr1] at x ⊢;omega)
  have e0:N.lnE cs u0 v0 u1 v1 th gp sf fx fy fz tx ty tz r pl=0:=by unfold N.lnE;rw [if_neg fun x=>k1 (ZfN.2 x),if_neg k2,if_neg k3]
  have eP:N.lnP cs u0 v0 u1 v1 th gp sf fx fy fz tx ty tz r pl=N.lnM cs fx fy fz tx ty tz r pl:=by unfold N.lnP;rw [if_pos e0]
  rw [e0,eP]
  have v:N.vaP cs u0 v0 u1 v1 th gp sf:=Classical.not_not.1 fun x=>k1 (ZfN.2 x)
  have hp:0<=pl:=by omega
  refine ⟨fun k4 => ?_,fun k4 => ?_⟩
  ·obtain ⟨rfl,rfl⟩:=k4
   refine ⟨fun k5=>⟨fun s => ?_,fun s=>ZdG ?_⟩,fun k5=>⟨fun s=>⟨⟨rfl,rfl,by omega,hp⟩,weak_m0 ?_⟩,fun s=>⟨⟨rfl,rfl,by omega,hp⟩,ZdG ?_⟩⟩⟩
   ·have:=s.2.2;omega
   ·unfold N.lnM;rw [if_neg fun x=>x ⟨rfl,rfl⟩,if_pos k5,Zcv (Int.le_refl 0)]
   ·unfold N.lnM;rw [if_neg fun x=>x ⟨rfl,rfl⟩,if_neg k5]
    obtain ⟨e1,e2,_,_⟩:=dsD (pl:=pl) (px:=fx) (py:=fy) s.1 s.2
    rw [e1,e2];rfl
   ·unfold N.lnM;rw [if_neg fun x=>x ⟨rfl,rfl⟩,if_neg k5]
  ·have ok:N.okHg cs fx fy tx ty r:=va_okH v (by unfold N.fr7 at k3;simp only [N.fr4,N.fr1] at k3;unfold N.cc;omega)
   have eM:N.lnM cs fx fy fz tx ty tz r pl=N.upl fx fy fz tx ty tz pl (N.lnH fz tz (N.hgt cs fx fy tx ty r)):=by unfold N.lnM;rw [if_pos k4]
   rw [eM]
   have eH:N.lnH fz tz (N.hgt cs fx fy tx ty r)=if tz>if fz>N.hgt cs fx fy tx ty r then fz else N.hgt cs fx fy tx ty r then tz else if fz>N.hgt cs fx fy tx ty r then fz else N.hgt cs fx fy tx ty r:=rfl
   rw [<- eH]
   have hge:=lnH_ge fz tz (N.hgt cs fx fy tx ty r)
   generalize N.lnH fz tz (N.hgt cs fx fy tx ty r)=H at hge
   have A1:=Zha fx fy H fx fy fz 0
   have A2:=Zha tx ty H fx fy H 0
   have A3:=Zha tx ty H fx fy fz 0
   refine ⟨ok,fun s=>⟨fun t=>absurd ⟨t.1.symm,t.2.1.symm⟩ k4,fun t=>⟨⟨by omega,rfl,rfl,hge,hp⟩,?_⟩⟩,fun s=>⟨by omega,⟨?_,rfl,rfl,hge,hp⟩,?_⟩⟩
   ·refine ZdG ?_
    have e:=sam_up s
    subst e
    unfold N.upl;rw [tol_y s,List.nil_append,Zcv (Int.le_refl 0)]
   ·rw [List.length_append];omega
   ·refine ZdG ?_
    unfold N.upl;rw [Zcv (Int.le_refl 0),Zcv (Int.le_refl 0)]
end Go.Av

namespace Go.Av
open Go.Proofs
set_option maxRecDepth 100000
def fi14:Fi:=⟨26,[.tmp 4]⟩
def kp14:List (Nat × List Nat):=[(0,[0,1]),(1,[0,1,10]),(2,[4]),(3,[0,1,5]),(4,[0,1,5,14]),(5,[0,1,5]),(6,[0,1,5,25]),(7,[4]),(8,[4])]
def qSame_at (f g:Bool) (l m:List Mv) (Q:AV->Heap->Prop):Prop:=Wp M1 (.run fi14 (atC (cd Tryz.f14) []) [(0,.vec f 7 (l.map Mv.a)),(1,.vec g 7 (m.map Mv.a))] []) Q
def ZdR (f g:Bool) (l m:List Mv) (i:Int) (Q:AV->Heap->Prop):Prop:=Wp M1 (.run fi14 (atC (cd Tryz.f14) [1,1,0,1,0,0]) [(0,.vec f 7 (l.map Mv.a)),(1,.vec g 7 (m.map Mv.a)),(5,.int .i64 i)] []) Q
theorem call14 {args:List AV} {d:AV} (h:wc M1 fi14 Tryz.f14 args d):Ev M1 (.pure 14 args) d []:=pcl _ _ (by kernel_rfl) h
theorem qSame (f g:Bool) (l m:List Mv)  (dq:AV) (H :
  ((¬(↑l.length:Int)=(↑m.length:Int))->vb false=dq) /\
  (¬(¬(↑l.length:Int)=(↑m.length:Int))->ZdR f g l m 0 (Zag dq))) :
 qSame_at f g l m (Zag dq):=by
 unfold qSame_at
 have w1:(List.map Mv.a l).length=l.length:=List.length_map ..
 have w2:(List.map Mv.a m).length=m.length:=List.length_map ..
 have i3:((↑(List.map Mv.a l).length:Int) != (↑(List.map Mv.a m).length:Int))=true ↔ (¬(↑l.length:Int)=(↑m.length:Int)):=(by (try rw [w1]);(try rw [w2]);all_goals exact i_ne)
 rcases xq H with ⟨d4,H⟩|⟨d4,H⟩
 ·exact Zas (G:=Zae kp14 [] []) 1000 [true] (vb false) (by kernel_rfl) (bc (Zam (i3.2 d4)) b0) q0 c0 H
 ·exact Zaf (G:=Zae kp14 [] []) 1000 [false] ⟨(atC (cd Tryz.f14) [1,1,0,1,0,0]),[(0,AV.vec f 7 (List.map Mv.a l)),(1,AV.vec g 7 (List.map Mv.a m)),(5,vi 0)],[],_,[],_⟩ (by kernel_rfl) (bc (Zak (fun h=>d4 (i3.1 h))) b0) q0 c0 H
noncomputable abbrev zNqX1 (l:List Mv) (i:Int):=ag [vi (l.getD i.toNat default).kind,vi (l.getD i.toNat default).x,vi (l.getD i.toNat default).y,vi (l.getD i.toNat default).z,vi (l.getD i.toNat default).cx,vi (l.getD i.toNat default).cy,vi (l.getD i.toNat default).rate]
noncomputable abbrev zNqX2 (m:List Mv) (i:Int):=ag [vi (m.getD i.toNat default).kind,vi (m.getD i.toNat default).x,vi (m.getD i.toNat default).y,vi (m.getD i.toNat default).z,vi (m.getD i.toNat default).cx,vi (m.getD i.toNat default).cy,vi (m.getD i.toNat default).rate]
theorem qSameL (f g:Bool) (l m:List Mv) (i:Int)  (dq:AV) (H :
  ((i<(↑l.length:Int))->(0<=i) /\
   (i.toNat<l.length) /\
   (i.toNat<m.length) /\
   ((¬(((l.getD i.toNat default).kind=(m.getD i.toNat default).kind)/\((((l.getD i.toNat default).x=(m.getD i.toNat default).x)/\(((l.getD i.toNat default).y=(m.getD i.toNat default).y)/\((l.getD i.toNat default).z=(m.getD i.toNat default).z)))/\((((l.getD i.toNat default).cx=(m.getD i.toNat default).cx)/\((l.getD i.toNat default).cy=(m.getD i.toNat default).cy))/\((l.getD i.toNat default).rate=(m.getD i.toNat default).rate)))))->vb false=dq) /\
   (¬(¬(((l.getD i.toNat default).kind=(m.getD i.toNat default).kind)/\((((l.getD i.toNat default).x=(m.getD i.toNat default).x)/\(((l.getD i.toNat default).y=(m.getD i.toNat default).y)/\((l.getD i.toNat default).z=(m.getD i.toNat default).z)))/\((((l.getD i.toNat default).cx=(m.getD i.toNat default).cx)/\((l.getD i.toNat default).cy=(m.getD i.toNat default).cy))/\((l.getD i.toNat default).rate=(m.getD i.toNat default).rate)))))->(-9223372036854775808<=i+1/\i+1<=9223372036854775807) /\
    ZdR f g l m (i+1) (Zag dq))) /\
  (¬(i<(↑l.length:Int))->vb true=dq)) :
 ZdR f g l m i (Zag dq):=by
 unfold ZdR
 have w1:(List.map Mv.a l).length=l.length:=List.length_map ..
 have i2:(decide (i<(↑(List.map Mv.a l).length:Int)))=true ↔ (i<(↑l.length:Int)):=(by (try rw [w1]);all_goals exact Zac)
 rcases xq H with ⟨d3,H⟩|⟨d3,H⟩
 ·obtain ⟨k5,H⟩:=H
  have i6:(decide (i.toNat<(List.map Mv.a l).length))=true ↔ (i.toNat<l.length):=(by (try rw [w1]);all_goals exact Zac)
  obtain ⟨k7,H⟩:=H
  have w9:(List.map Mv.a m).length=m.length:=List.length_map ..
  have i10:(decide (i.toNat<(List.map Mv.a m).length))=true ↔ (i.toNat<m.length):=(by (try rw [w9]);all_goals exact Zac)
  obtain ⟨k11,H⟩:=H
  refine Zaf (G:=Zae kp14 [(6,3,.elem (zNqX1 l i)),(6,7,.elem (zNqX2 m i))] []) 9 [true] ⟨(atC (cd Tryz.f14) [1,1,0,1,0,0,1,0,0,1]),[(0,AV.vec f 7 (List.map Mv.a l)),(1,AV.vec g 7 (List.map Mv.a m)),(5,vi i),(25,vb !((l.getD i.toNat default).kind==(m.getD i.toNat default).kind&&((l.getD i.toNat default).x==(m.getD i.toNat default).x&&((l.getD i.toNat default).y==(m.getD i.toNat default).y&&((l.getD i.toNat default).z==(m.getD i.toNat default).z&&true))&&((l.getD i.toNat default).cx==(m.getD i.toNat default).cx&&((l.getD i.toNat default).cy==(m.getD i.toNat default).cy&&true)&&((l.getD i.toNat default).rate==(m.getD i.toNat default).rate&&true)))))],[],_,[((List.map Mv.a l).get?Internal i.toNat=some (zNqX1 l i)),((List.map Mv.a m).get?Internal i.toNat=some (zNqX2 m i))],_⟩ (by kernel_rfl) (bc (Zam (i2.2 d3)) (bc (Zac.2 k5) (bc (i6.2 k7) (bc (Zac.2 k5) (bc (i10.2 k11) b0))))) (qc (Zat k7) (qc (Zat k11) q0)) c0 ?_
  rcases xq H with ⟨d13,H⟩|⟨d13,H⟩
  ·exact Zas (G:=Zae kp14 [] []) 1000 [true] (vb false) (by kernel_rfl) (bc (Zam ((Zbq (Za4 i_eq (Za4 (Za4 i_eq (Za4 i_eq (i_at i_eq))) (Za4 (Za4 i_eq (i_at i_eq)) (i_at i_eq))))).2 d13)) b0) q0 c0 H
  ·obtain ⟨k14,H⟩:=H
   have w15:wi (i+1)=i+1:=wI64 k14
   exact Zaf (G:=Zae kp14 [] []) 1000 [false] ⟨(atC (cd Tryz.f14) [1,1,0,1,0,0]),[(0,AV.vec f 7 (List.map Mv.a l)),(1,AV.vec g 7 (List.map Mv.a m)),(5,vi (wi (i+1)))],[],_,[],_⟩ (by kernel_rfl) (bc (Zak (fun h=>d13 ((Zbq (Za4 i_eq (Za4 (Za4 i_eq (Za4 i_eq (i_at i_eq))) (Za4 (Za4 i_eq (i_at i_eq)) (i_at i_eq))))).1 h))) b0) q0 c0 (by (try rw [w15]);all_goals exact H)
 ·exact Zas (G:=Zae kp14 [] []) 1000 [false] (vb true) (by kernel_rfl) (bc (Zak (fun h=>d3 (i2.1 h))) b0) q0 c0 H
end Go.Av

namespace Go.Av
open Go.Proofs
namespace N
def inr (l:List Int):Prop:=∀ n ∈ l,¬fr1 n
def rg6 (cs:List Bx) (u0 v0 u1 v1 th gp sf a b c d e g:Int):Prop:=((¬fr1 a/\¬fr1 b/\¬fr1 c)/\¬fr1 d/\¬fr1 e/\¬fr1 g)/\rgt cs u0 v0 u1 v1 th gp sf
end N
noncomputable instance (cs:List Bx) (u0 v0 u1 v1 th gp sf a b c d e g:Int):Decidable (N.rg6 cs u0 v0 u1 v1 th gp sf a b c d e g):=Classical.propDecidable _
def N.okSn (l m:List Mv):Prop:=l=m/\l.length<=100000
theorem smw_loop {f g:Bool} {l:List Mv} (hl:l.length<=100000) (m:Nat):∀ i:Nat,i+m=l.length->ZdR f g l l i (Zag (.bool true)):=by
 induction m with
 | zero=>exact fun i e=>qSameL _ _ _ _ _ _ ⟨fun x=>by omega,fun _=>rfl⟩
 | succ m ih =>
  intro i e
  have hi:i<l.length:=by omega
  refine qSameL _ _ _ _ _ _ ⟨fun x => ?_,fun x=>by omega⟩
  rw [Int.toNat_natCast,show (i:Int)+1=((i+1:Nat):Int) by omega]
  exact ⟨by omega,hi,hi,fun k=>absurd ⟨rfl,⟨rfl,rfl,rfl⟩,⟨rfl,rfl⟩,rfl⟩ k,fun _=>⟨by omega,ih (i+1) (by omega)⟩⟩
theorem ev14 (f g:Bool) (l m:List Mv) (h:N.okSn l m):Ev M1 (.pure 14 [.vec f 7 (l.map Mv.a),.vec g 7 (m.map Mv.a)]) (.bool true) []:=by
 obtain ⟨rfl,h⟩:=h
 exact call14 (qSame _ _ _ _ _ ⟨fun k=>absurd rfl k,fun _=>smw_loop h l.length 0 (by omega)⟩)
theorem lnN_len {cs:List Bx} {fx fy fz tx ty tz r pl:Int}:(N.lnM cs fx fy fz tx ty tz r pl).length<=4:=by
 unfold N.lnM
 split
 ·unfold N.upl
  generalize N.lnH fz tz _=h
  rw [List.length_append,List.length_append,List.length_append]
  have:=ZcR fx fy h fx fy fz 0
  have:=ZcR tx ty h fx fy h 0
  have:=ds_len tz pl tx ty h
  omega
 ·split
  ·exact Nat.le_trans (ZcR ..) (by omega)
  ·rw [List.length_append];have:=ds_len tz pl fx fy fz;omega
theorem lnQ_len {cs:List Bx} {u0 v0 u1 v1 th gp sf fx fy fz tx ty tz r pl:Int}:(N.lnP cs u0 v0 u1 v1 th gp sf fx fy fz tx ty tz r pl).length<=4:=by
 unfold N.lnP
 split
 ·exact lnN_len
 ·show 0<=4;omega
end Go.Av

namespace Go.Av
open Go.Proofs
set_option maxRecDepth 100000
def fi4:Fi:=⟨53,[.tmp 6]⟩
def kp4:List (Nat × List Nat):=[(0,[3,4,5]),(1,[3,4,5,17]),(2,[6]),(3,[3,4,5,7,8]),(4,[7,8,9,10]),(5,[6])]
def qXlm_at (f:Bool) (cs:List Bx) (u0 v0 u1 v1 th gp sf:Int) (fx fy fz tx ty tz:Int) (r pl:Int) (Q:AV->Heap->Prop):Prop:=Wp M1 (.run fi4 (atC (cd Tryz.f4) []) [(0,.agg [.int .i64 u0,.int .i64 v0,.int .i64 u1,.int .i64 v1,.int .i64 th,.int .i64 gp,.vec f 5 (cs.map Bx.a),.int .i64 sf]),(1,.agg [.int .i64 fx,.int .i64 fy,.int .i64 fz,.int .i64 tx,.int .i64 ty,.int .i64 tz]),(2,.agg [.int .i64 r,.int .i64 pl])] []) Q
theorem call4 {args:List AV} {d:AV} (h:wc M1 fi4 Tryz.f4 args d):Ev M1 (.pure 4 args) d []:=pcl _ _ (by kernel_rfl) h
theorem qXlm (f:Bool) (cs:List Bx) (u0 v0 u1 v1 th gp sf:Int) (fx fy fz tx ty tz:Int) (r pl:Int)  (dq:AV) (H :
  ((¬(cs.length<=6))->vb true=dq) /\
  (¬(¬(cs.length<=6))->(cs.length<=1000) /\
   ((N.lnE cs u0 v0 u1 v1 th gp sf fx fy fz tx ty tz r pl=N.lnE cs u0 v0 u1 v1 th gp sf fx fy fz tx ty tz r pl)->(N.okSn (N.lnP cs u0 v0 u1 v1 th gp sf fx fy fz tx ty tz r pl) (N.lnP cs u0 v0 u1 v1 th gp sf fx fy fz tx ty tz r pl))) /\
   vb (bif N.lnE cs u0 v0 u1 v1 th gp sf fx fy fz tx ty tz r pl==N.lnE cs u0 v0 u1 v1 th gp sf fx fy fz tx ty tz r pl then true else false)=dq)) :
 qXlm_at f cs u0 v0 u1 v1 th gp sf fx fy fz tx ty tz r pl (Zag dq):=by
 unfold qXlm_at
 refine Zaf (G:=Zae kp4 [(1,0,.call (vb true) none),(1,4,.call (vb (decide (cs.length<=6))) none)] []) 5 [] ⟨(atC (cd Tryz.f4) [1,0,1]),[(3,AV.ptr 0 0 0 0),(4,AV.ptr 1 0 0 0),(5,AV.ptr 2 0 0 0),(17,vb !decide (cs.length<=6))],[⟨[ag [vi u0,vi v0,vi u1,vi v1,vi th,vi gp,AV.vec f 5 (List.map Bx.a cs),vi sf]],8,0,false,false⟩,⟨[ag [vi fx,vi fy,vi fz,vi tx,vi ty,vi tz]],6,0,false,false⟩,⟨[ag [vi r,vi pl]],2,0,false,false⟩],_,[],_⟩ (by kernel_rfl) (bc rfl b0) q0 (ce (@ev5 ) (ce (@ev11 f cs u0 v0 u1 v1 th gp sf) c0)) ?_
 rcases xq H with ⟨d2,H⟩|⟨d2,H⟩
 ·exact Zas (G:=Zae kp4 [(2,0,.call (vb true) none)] []) 1000 [true] (vb true) (by kernel_rfl) (bc (Zam ((Zbq Zac).2 d2)) b0) q0 (ce (@ev5 ) c0) H
 ·obtain ⟨k3,k5,H⟩:=H
  exact Zas (G:=Zae kp4 [(3,9,.call (tu [AV.vec false 7 (List.map Mv.a (N.lnP cs u0 v0 u1 v1 th gp sf fx fy fz tx ty tz r pl)),vi (N.lnE cs u0 v0 u1 v1 th gp sf fx fy fz tx ty tz r pl)]) none),(4,9,.call (tu [AV.vec false 7 (List.map Mv.a (N.lnP cs u0 v0 u1 v1 th gp sf fx fy fz tx ty tz r pl)),vi (N.lnE cs u0 v0 u1 v1 th gp sf fx fy fz tx ty tz r pl)]) none),(5,6,.call (vb true) none)] []) 1000 [false] (calls:=[⟨true,false,12,[ag [vi u0,vi v0,vi u1,vi v1,vi th,vi gp,AV.vec f 5 (List.map Bx.a cs),vi sf],ag [vi fx,vi fy,vi fz],ag [vi tx,vi ty,vi tz],vi r,vi pl],[],tu [AV.vec false 7 (List.map Mv.a (N.lnP cs u0 v0 u1 v1 th gp sf fx fy fz tx ty tz r pl)),vi (N.lnE cs u0 v0 u1 v1 th gp sf fx fy fz tx ty tz r pl)],[]⟩,⟨true,false,13,[ag [vi u0,vi v0,vi u1,vi v1,vi th,vi gp,AV.vec f 5 (List.map Bx.a cs),vi sf],ag [vi fx,vi fy,vi fz],ag [vi tx,vi ty,vi tz],vi r,vi pl],[],tu [AV.vec false 7 (List.map Mv.a (N.lnP cs u0 v0 u1 v1 th gp sf fx fy fz tx ty tz r pl)),vi (N.lnE cs u0 v0 u1 v1 th gp sf fx fy fz tx ty tz r pl)],[]⟩,⟨(N.lnE cs u0 v0 u1 v1 th gp sf fx fy fz tx ty tz r pl==N.lnE cs u0 v0 u1 v1 th gp sf fx fy fz tx ty tz r pl)==true&&true&&true,false,14,[AV.vec false 7 (List.map Mv.a (N.lnP cs u0 v0 u1 v1 th gp sf fx fy fz tx ty tz r pl)),AV.vec false 7 (List.map Mv.a (N.lnP cs u0 v0 u1 v1 th gp sf fx fy fz tx ty tz r pl))],[],vb true,[]⟩]) (vb (bif N.lnE cs u0 v0 u1 v1 th gp sf fx fy fz tx ty tz r pl==N.lnE cs u0 v0 u1 v1 th gp sf fx fy fz tx ty tz r pl then true else false)) (by kernel_rfl) (bc (Zak (fun h=>d2 ((Zbq Zac).1 h))) (bc rfl (bc rfl (bc rfl (bc rfl (bc rfl (bc rfl (bc rfl (bc rfl (bc rfl (bc rfl (bc rfl (bc rfl (bc rfl (bc rfl (bc rfl (bc rfl (bc rfl (bc rfl (bc rfl (bc rfl (bc rfl (bc rfl (bc rfl (bc rfl (bc rfl (bc rfl b0))))))))))))))))))))))))))) q0 (cc (fun _=>(@ev12 f cs u0 v0 u1 v1 th gp sf fx fy fz tx ty tz r pl)) (cc (fun _=>(@ev13 f cs u0 v0 u1 v1 th gp sf fx fy fz tx ty tz r pl k3)) (cc (fun hc=>((@ev14 false false (N.lnP cs u0 v0 u1 v1 th gp sf fx fy fz tx ty tz r pl) (N.lnP cs u0 v0 u1 v1 th gp sf fx fy fz tx ty tz r pl) (k5 ((i_at (i_at (i_bt i_eq))).1 hc))):Ev M1 (Conf.pure 14 [AV.vec false 7 (List.map Mv.a (N.lnP cs u0 v0 u1 v1 th gp sf fx fy fz tx ty tz r pl)),AV.vec false 7 (List.map Mv.a (N.lnP cs u0 v0 u1 v1 th gp sf fx fy fz tx ty tz r pl))]) (vb true) [])) c0))) H
end Go.Av

namespace Go.Av
open Go.Proofs
theorem lm_ev (f:Bool) (cs:List Bx) (u0 v0 u1 v1 th gp sf fx fy fz tx ty tz r pl:Int) :
  Ev M1 (.pure 4 [.agg [.int .i64 u0,.int .i64 v0,.int .i64 u1,.int .i64 v1,.int .i64 th,.int .i64 gp,.vec f 5 (cs.map Bx.a),.int .i64 sf],.agg [.int .i64 fx,.int .i64 fy,.int .i64 fz,.int .i64 tx,.int .i64 ty,.int .i64 tz],.agg [.int .i64 r,.int .i64 pl]]) (.bool true) []:=by
 refine call4 (qXlm _ _ _ _ _ _ _ _ _ _ _ _ _ _ _ _ _ _ ⟨fun _=>rfl,fun k=>⟨by omega,fun _=>⟨rfl,Nat.le_trans lnQ_len (by omega)⟩,?_⟩⟩)
 rw [beq_self_eq_true];rfl
end Go.Av
