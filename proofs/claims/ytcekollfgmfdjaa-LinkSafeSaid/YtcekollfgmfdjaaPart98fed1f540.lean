/- PART 6 of the texts of a claim, joined by a program: what each part shows stands at its head. -/
import Derived.Test.YtcekollfgmfdjaaPart516e6fd6d8

namespace Go.Av
open Go.Proofs
set_option maxRecDepth 100000
def fi6:Fi:=⟨59,[.tmp 6]⟩
def kp6:List (Nat × List Nat):=[(0,[3,4,5]),(1,[3,4,5,15]),(2,[6]),(3,[3,4,5,7,8]),(4,[3,4,5,7,31]),(5,[6]),(6,[6])]
def qLf_at (f:Bool) (cs:List Bx) (u0 v0 u1 v1 th gp sf:Int) (fx fy fz tx ty tz:Int) (r pl:Int) (Q:AV->Heap->Prop):Prop:=Wp M1 (.run fi6 (atC (cd Try.f6) []) [(0,.agg [.int .i64 u0,.int .i64 v0,.int .i64 u1,.int .i64 v1,.int .i64 th,.int .i64 gp,.vec f 5 (cs.map Bx.a),.int .i64 sf]),(1,.agg [.int .i64 fx,.int .i64 fy,.int .i64 fz,.int .i64 tx,.int .i64 ty,.int .i64 tz]),(2,.agg [.int .i64 r,.int .i64 pl])] []) Q
theorem call6 {args:List AV} {d:AV} (h:wc M1 fi6 Try.f6 args d):Ev M1 (.pure 6 args) d []:=pcl _ _ (by kernel_rfl) h
theorem qLf (f:Bool) (cs:List Bx) (u0 v0 u1 v1 th gp sf:Int) (fx fy fz tx ty tz:Int) (r pl:Int)  (dq:AV) (H :
  ((¬(O.rgt cs u0 v0 u1 v1 th gp sf))->vb true=dq) /\
  (¬(¬(O.rgt cs u0 v0 u1 v1 th gp sf))->((¬O.lnE cs u0 v0 u1 v1 th gp sf fx fy fz tx ty tz r pl=0)->vb ((↑(O.lnP cs u0 v0 u1 v1 th gp sf fx fy fz tx ty tz r pl).length:Int)==0)=dq) /\
   (¬(¬O.lnE cs u0 v0 u1 v1 th gp sf fx fy fz tx ty tz r pl=0)->(O.okHg cs fx fy tx ty r) /\
    (O.okSf tx ty tz fx fy fz (O.hgt cs fx fy tx ty r) (O.lnP cs u0 v0 u1 v1 th gp sf fx fy fz tx ty tz r pl)) /\
    vb true=dq))) :
 qLf_at f cs u0 v0 u1 v1 th gp sf fx fy fz tx ty tz r pl (Zag dq):=by
 unfold qLf_at
 refine Zae (G:=Zad kp6 [(1,0,.call (vb true) none),(1,4,.call (vb (decide (O.rgt cs u0 v0 u1 v1 th gp sf))) none)] []) 5 [] ⟨(atC (cd Try.f6) [1,0,1]),[(3,AV.ptr 0 0 0 0),(4,AV.ptr 1 0 0 0),(5,AV.ptr 2 0 0 0),(15,vb !decide (O.rgt cs u0 v0 u1 v1 th gp sf))],[⟨[ag [vi u0,vi v0,vi u1,vi v1,vi th,vi gp,AV.vec f 5 (List.map Bx.a cs),vi sf]],8,0,false,false⟩,⟨[ag [vi fx,vi fy,vi fz,vi tx,vi ty,vi tz]],6,0,false,false⟩,⟨[ag [vi r,vi pl]],2,0,false,false⟩],_,[],_⟩ (by kernel_rfl) (bc rfl b0) q0 (ce (@ev8 ) (ce (@ev19 f cs u0 v0 u1 v1 th gp sf) c0)) ?_
 rcases xq H with ⟨d2,H⟩|⟨d2,H⟩
 ·exact Zaj (G:=Zad kp6 [(2,0,.call (vb true) none)] []) 1000 [true] (vb true) (by kernel_rfl) (bc (Zam ((ZaI Zac).2 d2)) b0) q0 (ce (@ev8 ) c0) H
 ·refine Zae (G:=Zad kp6 [(3,9,.call (tu [AV.vec false 7 (List.map Mv.a (O.lnP cs u0 v0 u1 v1 th gp sf fx fy fz tx ty tz r pl)),vi (O.lnE cs u0 v0 u1 v1 th gp sf fx fy fz tx ty tz r pl)]) none)] []) 7 [false] ⟨(atC (cd Try.f6) [1,1,1,0,1]),[(3,AV.ptr 0 0 0 0),(4,AV.ptr 1 0 0 0),(5,AV.ptr 2 0 0 0),(7,AV.vec false 7 (List.map Mv.a (O.lnP cs u0 v0 u1 v1 th gp sf fx fy fz tx ty tz r pl))),(31,vb (O.lnE cs u0 v0 u1 v1 th gp sf fx fy fz tx ty tz r pl != 0))],[⟨[ag [vi u0,vi v0,vi u1,vi v1,vi th,vi gp,AV.vec f 5 (List.map Bx.a cs),vi sf]],8,0,false,false⟩,⟨[ag [vi fx,vi fy,vi fz,vi tx,vi ty,vi tz]],6,0,false,false⟩,⟨[ag [vi r,vi pl]],2,0,false,false⟩],_,[],_⟩ (by kernel_rfl) (bc (Zai (fun h=>d2 ((ZaI Zac).1 h))) (bc rfl (bc rfl (bc rfl (bc rfl (bc rfl (bc rfl (bc rfl (bc rfl (bc rfl (bc rfl (bc rfl (bc rfl (bc rfl b0)))))))))))))) q0 (ce (@ev20 f cs u0 v0 u1 v1 th gp sf fx fy fz tx ty tz r pl) c0) ?_
  rcases xq H with ⟨d4,H⟩|⟨d4,H⟩
  ·have w5:(List.map Mv.a (O.lnP cs u0 v0 u1 v1 th gp sf fx fy fz tx ty tz r pl)).length=(O.lnP cs u0 v0 u1 v1 th gp sf fx fy fz tx ty tz r pl).length:=List.length_map ..
   exact Zaj (G:=Zad kp6 [] []) 1000 [true] (vb ((↑(List.map Mv.a (O.lnP cs u0 v0 u1 v1 th gp sf fx fy fz tx ty tz r pl)).length:Int)==0)) (by kernel_rfl) (bc (Zam (i_ne.2 d4)) b0) q0 c0 (by (try rw [w5]);all_goals exact H)
  ·obtain ⟨k6,k7,H⟩:=H
   exact Zaj (G:=Zad kp6 [(6,12,.call (ag [vi fx,vi fy]) none),(6,19,.call (ag [vi tx,vi ty]) none),(6,22,.call (vi (O.hgt cs fx fy tx ty r)) none),(6,23,.call (vb true) none)] []) 1000 [false] (vb true) (by kernel_rfl) (bc (Zai (fun h=>d4 (i_ne.1 h))) (bc rfl (bc rfl (bc rfl (bc rfl (bc rfl (bc rfl (bc rfl (bc rfl (bc rfl (bc rfl (bc rfl (bc rfl (bc rfl (bc rfl (bc rfl (bc rfl (bc rfl (bc rfl (bc rfl (bc rfl (bc rfl (bc rfl b0))))))))))))))))))))))) q0 (ce (@ev23 fx fy) (ce (@ev23 tx ty) (ce (@ev22 f cs u0 v0 u1 v1 th gp sf fx fy tx ty r k6) (ce (@ev21 fx fy fz tx ty tz false (O.lnP cs u0 v0 u1 v1 th gp sf fx fy fz tx ty tz r pl) (O.hgt cs fx fy tx ty r) k7) c0)))) H
end Go.Av

namespace Go.Av
open Go.Proofs
section
variable {cs:List Bx} {u0 v0 u1 v1 th gp sf fx fy fz tx ty tz z r pl:Int}
theorem ln_ok (h:O.lnE cs u0 v0 u1 v1 th gp sf fx fy fz tx ty tz r pl=0):O.vaP cs u0 v0 u1 v1 th gp sf/\¬(r<0\/pl<=0)/\¬O.fr7 fx fy fz tx ty tz r:=by
 unfold O.lnE at h
 by_cases h1:¬O.vaP cs u0 v0 u1 v1 th gp sf
 ·rw [if_pos h1] at h;exact absurd h (by decide)
 rw [if_neg h1] at h
 by_cases h2:r<0\/pl<=0
 ·rw [if_pos h2] at h;exact absurd h (by decide)
 rw [if_neg h2] at h
 by_cases h3:O.fr7 fx fy fz tx ty tz r
 ·rw [if_pos h3] at h;exact absurd h (by decide)
 exact ⟨Classical.not_not.1 h1,h2,h3⟩
end
theorem lf_ev (f:Bool) (cs:List Bx) (u0 v0 u1 v1 th gp sf fx fy fz tx ty tz r pl:Int) :
  Ev M1 (.pure 6 [.agg [.int .i64 u0,.int .i64 v0,.int .i64 u1,.int .i64 v1,.int .i64 th,.int .i64 gp,.vec f 5 (cs.map Bx.a),.int .i64 sf],.agg [.int .i64 fx,.int .i64 fy,.int .i64 fz,.int .i64 tx,.int .i64 ty,.int .i64 tz],.agg [.int .i64 r,.int .i64 pl]]) (.bool true) []:=by
 refine call6 (qLf _ _ _ _ _ _ _ _ _ _ _ _ _ _ _ _ _ _ ⟨fun _=>rfl,fun _=>⟨fun k2=>congrArg AV.bool ?_,fun k2 => ?_⟩⟩)
 ·have:O.lnP cs u0 v0 u1 v1 th gp sf fx fy fz tx ty tz r pl=[]:=by unfold O.lnP;rw [if_neg k2]
  rw [this];rfl
 ·have k2:=Classical.not_not.1 k2
  obtain ⟨v,h2,h3⟩:=ln_ok k2
  have ok:O.okHg cs fx fy tx ty r:=va_okH v (by unfold O.fr7 O.fr4 O.fr1 at h3;unfold O.cc;omega)
  have e:O.lnP cs u0 v0 u1 v1 th gp sf fx fy fz tx ty tz r pl=O.lnM cs fx fy fz tx ty tz r pl:=by unfold O.lnP;rw [if_pos k2]
  exact ⟨ok,by rw [e];exact ⟨Nat.le_trans lnM_len (by omega),lnM_safe rfl (hgt_bd ok).1 (by omega)⟩,rfl⟩
end Go.Av
