/- PART 5 of the texts of a claim, joined by a program: what each part shows stands at its head. -/
import Derived.Test.YtcekollfgmfdjaaPart3426fcea83

namespace Go.Av
open Go.Proofs
set_option maxRecDepth 100000
end Go.Av

namespace Go.Av
open Go.Proofs
end Go.Av

namespace Go.Av
open Go.Proofs
end Go.Av

namespace Go.Av
open Go.Proofs
end Go.Av

namespace Go.Av
open Go.Proofs
set_option maxRecDepth 100000
end Go.Av

namespace Go.Av
open Go.Proofs
end Go.Av

namespace Go.Av
open Go.Proofs
end Go.Av

namespace Go.Av
open Go.Proofs
set_option maxRecDepth 100000
end Go.Av

namespace Go.Av
open Go.Proofs
set_option maxRecDepth 100000
def fi83:Fi:=⟨2,[.cell 0 108]⟩
def kp83:List (Nat × List Nat):=[(0,[0]),(1,[0])]
def fi89:Fi:=⟨16,[.cell 4 108]⟩
def kp89:List (Nat × List Nat):=[(0,[2,3,4]),(1,[4,5]),(2,[4])]
def vUnit_at  (Q:AV->Heap->Prop):Prop:=Wp M1 (.run fi83 (atC (cd Try.f83) []) [] []) Q
def vExact_at (fa fb:Bool) (a b:Int) (Q:AV->Heap->Prop):Prop:=Wp M1 (.run fi89 (atC (cd Try.f89) []) [(0,bigA fa a),(1,bigA fb b)] []) Q
theorem call83 {args:List AV} {d:AV} (h:wc M1 fi83 Try.f83 args d):Ev M1 (.pure 83 args) d []:=pcl _ _ (by kernel_rfl) h
theorem call89 {args:List AV} {d:AV} (h:wc M1 fi89 Try.f89 args d):Ev M1 (.pure 89 args) d []:=pcl _ _ (by kernel_rfl) h
theorem vUnit   (dq:AV) (H :
  (O.inI 1) /\
  Weak (ag [vb false,vf (us (O.Zag 1))]) dq) :
 vUnit_at  (Zaf dq):=by
 unfold vUnit_at
 obtain ⟨k1,H⟩:=H
 exact Zao (G:=Zad kp83 [(1,0,.call (ag [vb false,vf (us (O.Zag 1))]) none)] []) 1000 [] (ag [vb false,vf (us (O.Zag 1))]) (by kernel_rfl) (bc rfl b0) q0 (ce (@ev75 1 k1) c0) H
theorem vExact (fa fb:Bool) (a b:Int)  (dq:AV) (H :
  (O.okB a/\O.okB b/\b ≠ 0) /\
  Weak (bigA false (O.flo a b)) dq) :
 vExact_at fa fb a b (Zaf dq):=by
 unfold vExact_at
 obtain ⟨k1,H⟩:=H
 exact Zao (G:=Zad kp89 [(1,2,.call (tu [bigA false (O.flo a b),bigA false (O.flr a b),vi 0]) none)] []) 1000 [] (bigA false (O.flo a b)) (by kernel_rfl) (bc rfl (bc rfl (bc rfl (bc rfl (bc rfl (bc rfl b0)))))) q0 (ce (@ev100 fa fb a b k1) c0) H
end Go.Av

namespace Go.Av
open Go.Proofs
theorem ev83:Ev M1 (.pure 83 []) (.agg [.bool false,.vec false 1 ((O.Zag 1).map (.int .u32))]) []:=
 call83 (vUnit _ ⟨by unfold O.inI;omega,.refl _⟩)
theorem ev89 (fa fb:Bool) (a b:Int) (h:O.okB a/\O.okB b/\b ≠ 0):Ev M1 (.pure 89 [bigA fa a,bigA fb b]) (bigA false (O.flo a b)) []:=
 call89 (vExact _ _ _ _ _ ⟨h,.refl _⟩)
theorem ev80_a (fa:Bool) (a:Int) (h:O.okB a):Ev M1 (.pure 80 [bigA fa a,.agg [.bool false,.vec false 1 ((O.Zag 1).map (.int .u32))]]) (.int .i64 (O.sgnI (a-1))) []:=
 ev80 fa false a 1 ⟨h,okB_small (by decide)⟩
end Go.Av

namespace Go.Av
open Go.Proofs
set_option maxRecDepth 100000
def fi74:Fi:=⟨6,[.cell 2 110]⟩
def kp74:List (Nat × List Nat):=[(0,[1,2]),(1,[2])]
def fi76:Fi:=⟨29,[.cell 4 110]⟩
def kp76:List (Nat × List Nat):=[(0,[2,3,4]),(1,[2,3,4,8]),(2,[2,3,4]),(3,[2,3,4,5]),(4,[2,3,4,5,19]),(5,[2,3,4]),(6,[4])]
def fi79:Fi:=⟨6,[.tmp 2]⟩
def kp79:List (Nat × List Nat):=[(0,[1]),(1,[2])]
def fi114:Fi:=⟨9,[.cell 2 110]⟩
def kp114:List (Nat × List Nat):=[(0,[1,2]),(1,[2])]
def vWhole_at (fa:Bool) (a:Int) (Q:AV->Heap->Prop):Prop:=Wp M1 (.run fi74 (atC (cd Try.f74) []) [(0,bigA fa a)] []) Q
def Zgu (fa fb:Bool) (a b:Int) (Q:AV->Heap->Prop):Prop:=Wp M1 (.run fi76 (atC (cd Try.f76) []) [(0,bigA fa a),(1,bigA fb b)] []) Q
def vRSign_at (fa ga:Bool) (p q:Int) (Q:AV->Heap->Prop):Prop:=Wp M1 (.run fi79 (atC (cd Try.f79) []) [(0,.agg [.bool (O.Zaa p),.vec fa 1 ((O.Zag p).map (.int .u32)),.bool (O.Zaa q),.vec ga 1 ((O.Zag q).map (.int .u32))])] []) Q
def vRNeg_at (fa ga:Bool) (p q:Int) (Q:AV->Heap->Prop):Prop:=Wp M1 (.run fi114 (atC (cd Try.f114) []) [(0,.agg [.bool (O.Zaa p),.vec fa 1 ((O.Zag p).map (.int .u32)),.bool (O.Zaa q),.vec ga 1 ((O.Zag q).map (.int .u32))])] []) Q
theorem call74 {args:List AV} {d:AV} (h:wc M1 fi74 Try.f74 args d):Ev M1 (.pure 74 args) d []:=pcl _ _ (by kernel_rfl) h
theorem call76 {args:List AV} {d:AV} (h:wc M1 fi76 Try.f76 args d):Ev M1 (.pure 76 args) d []:=pcl _ _ (by kernel_rfl) h
theorem call79 {args:List AV} {d:AV} (h:wc M1 fi79 Try.f79 args d):Ev M1 (.pure 79 args) d []:=pcl _ _ (by kernel_rfl) h
theorem call114 {args:List AV} {d:AV} (h:wc M1 fi114 Try.f114 args d):Ev M1 (.pure 114 args) d []:=pcl _ _ (by kernel_rfl) h
theorem vWhole (fa:Bool) (a:Int)  (dq:AV) (H :
  Weak (ag [vb (O.Zaa a),AV.vec fa 1 (us (O.Zag a)),vb false,vf (us (O.Zag 1))]) dq) :
 vWhole_at fa a (Zaf dq):=by
 unfold vWhole_at
 exact Zao (G:=Zad kp74 [(1,1,.call (ag [vb false,vf (us (O.Zag 1))]) none)] []) 1000 [] (ag [vb (O.Zaa a),AV.vec fa 1 (us (O.Zag a)),vb false,vf (us (O.Zag 1))]) (by kernel_rfl) (bc rfl (bc rfl b0)) q0 (ce (@ev83 ) c0) H
noncomputable abbrev zNvJ1:=ag [vb false,AV.vnil,vb false,AV.vnil]
theorem vReduce (fa fb:Bool) (a b:Int)  (dq:AV) (H :
  ((O.sgnI b<0)->(O.okB a) /\
   (O.okB b) /\
   (O.okB (-a)/\O.okB (-b)) /\
   (O.okB (↑((-a).gcd (-b)):Int)) /\
   ((¬O.sgnI ((↑((-a).gcd (-b)):Int)-1)=0)->(O.okB (-a)/\O.okB (↑((-a).gcd (-b)):Int)/\(↑((-a).gcd (-b)):Int) ≠ 0) /\
    (O.okB (-b)/\O.okB (↑((-a).gcd (-b)):Int)/\(↑((-a).gcd (-b)):Int) ≠ 0) /\
    Weak (ag [vb (O.Zaa (O.flo (-a) (↑((-a).gcd (-b)):Int))),vf (us (O.Zag (O.flo (-a) (↑((-a).gcd (-b)):Int)))),vb (O.Zaa (O.flo (-b) (↑((-a).gcd (-b)):Int))),vf (us (O.Zag (O.flo (-b) (↑((-a).gcd (-b)):Int))))]) dq) /\
   (¬(¬O.sgnI ((↑((-a).gcd (-b)):Int)-1)=0)->Weak (ag [vb (O.Zaa (-a)),vf (us (O.Zag (-a))),vb (O.Zaa (-b)),vf (us (O.Zag (-b)))]) dq)) /\
  (¬(O.sgnI b<0)->(O.okB a/\O.okB b) /\
   (O.okB (↑(a.gcd b):Int)) /\
   ((¬O.sgnI ((↑(a.gcd b):Int)-1)=0)->(O.okB a/\O.okB (↑(a.gcd b):Int)/\(↑(a.gcd b):Int) ≠ 0) /\
    (O.okB b/\O.okB (↑(a.gcd b):Int)/\(↑(a.gcd b):Int) ≠ 0) /\
    Weak (ag [vb (O.Zaa (O.flo a (↑(a.gcd b):Int))),vf (us (O.Zag (O.flo a (↑(a.gcd b):Int)))),vb (O.Zaa (O.flo b (↑(a.gcd b):Int))),vf (us (O.Zag (O.flo b (↑(a.gcd b):Int))))]) dq) /\
   (¬(¬O.sgnI ((↑(a.gcd b):Int)-1)=0)->Weak (ag [vb (O.Zaa a),AV.vec fa 1 (us (O.Zag a)),vb (O.Zaa b),AV.vec fb 1 (us (O.Zag b))]) dq))) :
 Zgu fa fb a b (Zaf dq):=by
 unfold Zgu
 refine Zac (G:=Zad kp76 [(1,1,.call (vi (O.sgnI b)) none)] []) 5 [] ⟨(atC (cd Try.f76) [1,0,1]),[(2,AV.ptr 0 0 0 0),(3,AV.ptr 1 0 0 0),(4,AV.ptr 2 0 0 0),(8,vb (decide (O.sgnI b<0)))],[⟨[bigA fa a],2,0,false,false⟩,⟨[bigA fb b],2,0,false,false⟩,⟨[zNvJ1],4,0,false,false⟩],_,[],_⟩ (by kernel_rfl) (bc rfl b0) q0 (ce (@ev86 fb b) c0) ?_
 rcases xq H with ⟨d2,H⟩|⟨d2,H⟩
 ·obtain ⟨k3,k4,k5,k6,H⟩:=H
  refine Zac (G:=Zad kp76 [(2,1,.call (bigA false (-a)) none),(2,3,.call (bigA false (-b)) none),(3,2,.call (bigA false (↑((-a).gcd (-b)):Int)) none),(4,1,.call (ag [vb false,vf (us (O.Zag 1))]) none),(4,2,.call (vi (O.sgnI ((↑((-a).gcd (-b)):Int)-1))) none)] []) 7 [true] ⟨(atC (cd Try.f76) [1,1,0,1,1]),[(2,AV.ptr 0 0 0 0),(3,AV.ptr 1 0 0 0),(4,AV.ptr 2 0 0 0),(5,AV.ptr 3 0 0 0),(19,vb (O.sgnI ((↑((-a).gcd (-b)):Int)-1) != 0))],[⟨[bigA false (-a)],2,0,false,false⟩,⟨[bigA false (-b)],2,0,false,false⟩,⟨[zNvJ1],4,0,false,false⟩,⟨[bigA false (↑((-a).gcd (-b)):Int)],2,0,false,false⟩],_,[],_⟩ (by kernel_rfl) (bc (Zal (Zab.2 d2)) (bc rfl (bc rfl (bc rfl (bc rfl (bc rfl (bc rfl (bc rfl (bc rfl b0))))))))) q0 (ce (@ev87 fa a k3) (ce (@ev87 fb b k4) (ce (@ev88 false false (-a) (-b) k5) (ce (@ev83 ) (ce (@ev80_a false ((↑((-a).gcd (-b)):Int)) k6) c0))))) ?_
  rcases xq H with ⟨d8,H⟩|⟨d8,H⟩
  ·obtain ⟨k9,k10,H⟩:=H
   exact Zao (G:=Zad kp76 [(5,2,.call (bigA false (O.flo (-a) (↑((-a).gcd (-b)):Int))) none),(5,5,.call (bigA false (O.flo (-b) (↑((-a).gcd (-b)):Int))) none)] []) 1000 [true] (ag [vb (O.Zaa (O.flo (-a) (↑((-a).gcd (-b)):Int))),vf (us (O.Zag (O.flo (-a) (↑((-a).gcd (-b)):Int)))),vb (O.Zaa (O.flo (-b) (↑((-a).gcd (-b)):Int))),vf (us (O.Zag (O.flo (-b) (↑((-a).gcd (-b)):Int))))]) (by kernel_rfl) (bc (Zal (i_ne.2 d8)) (bc rfl (bc rfl (bc rfl (bc rfl (bc rfl (bc rfl (bc rfl (bc rfl (bc rfl b0)))))))))) q0 (ce (@ev89 false false (-a) ((↑((-a).gcd (-b)):Int)) k9) (ce (@ev89 false false (-b) ((↑((-a).gcd (-b)):Int)) k10) c0)) H
  ·exact Zao (G:=Zad kp76 [] []) 1000 [false] (ag [vb (O.Zaa (-a)),vf (us (O.Zag (-a))),vb (O.Zaa (-b)),vf (us (O.Zag (-b)))]) (by kernel_rfl) (bc (Zak (fun h=>d8 (i_ne.1 h))) (bc rfl (bc rfl (bc rfl b0)))) q0 c0 H
 ·obtain ⟨k11,k12,H⟩:=H
  refine Zac (G:=Zad kp76 [(3,2,.call (bigA false (↑(a.gcd b):Int)) none),(4,1,.call (ag [vb false,vf (us (O.Zag 1))]) none),(4,2,.call (vi (O.sgnI ((↑(a.gcd b):Int)-1))) none)] []) 7 [false] ⟨(atC (cd Try.f76) [1,1,0,1,1]),[(2,AV.ptr 0 0 0 0),(3,AV.ptr 1 0 0 0),(4,AV.ptr 2 0 0 0),(5,AV.ptr 3 0 0 0),(19,vb (O.sgnI ((↑(a.gcd b):Int)-1) != 0))],[⟨[bigA fa a],2,0,false,false⟩,⟨[bigA fb b],2,0,false,false⟩,⟨[zNvJ1],4,0,false,false⟩,⟨[bigA false (↑(a.gcd b):Int)],2,0,false,false⟩],_,[],_⟩ (by kernel_rfl) (bc (Zak (fun h=>d2 (Zab.1 h))) (bc rfl (bc rfl (bc rfl (bc rfl b0))))) q0 (ce (@ev88 fa fb a b k11) (ce (@ev83 ) (ce (@ev80_a false ((↑(a.gcd b):Int)) k12) c0))) ?_
  rcases xq H with ⟨d14,H⟩|⟨d14,H⟩
  ·obtain ⟨k15,k16,H⟩:=H
   exact Zao (G:=Zad kp76 [(5,2,.call (bigA false (O.flo a (↑(a.gcd b):Int))) none),(5,5,.call (bigA false (O.flo b (↑(a.gcd b):Int))) none)] []) 1000 [true] (ag [vb (O.Zaa (O.flo a (↑(a.gcd b):Int))),vf (us (O.Zag (O.flo a (↑(a.gcd b):Int)))),vb (O.Zaa (O.flo b (↑(a.gcd b):Int))),vf (us (O.Zag (O.flo b (↑(a.gcd b):Int))))]) (by kernel_rfl) (bc (Zal (i_ne.2 d14)) (bc rfl (bc rfl (bc rfl (bc rfl (bc rfl (bc rfl (bc rfl (bc rfl (bc rfl b0)))))))))) q0 (ce (@ev89 fa false a ((↑(a.gcd b):Int)) k15) (ce (@ev89 fb false b ((↑(a.gcd b):Int)) k16) c0)) H
  ·exact Zao (G:=Zad kp76 [] []) 1000 [false] (ag [vb (O.Zaa a),AV.vec fa 1 (us (O.Zag a)),vb (O.Zaa b),AV.vec fb 1 (us (O.Zag b))]) (by kernel_rfl) (bc (Zak (fun h=>d14 (i_ne.1 h))) (bc rfl (bc rfl (bc rfl b0)))) q0 c0 H
theorem vRSign (fa ga:Bool) (p q:Int)  (dq:AV) (H :
  vi (O.sgnI p)=dq) :
 vRSign_at fa ga p q (Zaf dq):=by
 unfold vRSign_at
 exact Zah (G:=Zad kp79 [(1,2,.call (vi (O.sgnI p)) none)] []) 1000 [] (vi (O.sgnI p)) (by kernel_rfl) (bc rfl b0) q0 (ce (@ev86 fa p) c0) H
theorem vRNeg (fa ga:Bool) (p q:Int)  (dq:AV) (H :
  (O.okB p) /\
  Weak (ag [vb (O.Zaa (-p)),vf (us (O.Zag (-p))),vb (O.Zaa q),AV.vec ga 1 (us (O.Zag q))]) dq) :
 vRNeg_at fa ga p q (Zaf dq):=by
 unfold vRNeg_at
 obtain ⟨k1,H⟩:=H
 exact Zao (G:=Zad kp114 [(1,2,.call (bigA false (-p)) none)] []) 1000 [] (ag [vb (O.Zaa (-p)),vf (us (O.Zag (-p))),vb (O.Zaa q),AV.vec ga 1 (us (O.Zag q))]) (by kernel_rfl) (bc rfl (bc rfl (bc rfl b0))) q0 (ce (@ev87 fa p k1) c0) H
end Go.Av

namespace Go.Av
open Go.Proofs
abbrev ratA (f g:Bool) (r:Rat):AV:=.agg [.bool (O.Zaa r.num),.vec f 1 ((O.Zag r.num).map (.int .u32)),.bool (O.Zaa (r.den:Int)),.vec g 1 ((O.Zag (r.den:Int)).map (.int .u32))]
abbrev ratF (r:Rat):AV:=ratA false false r
theorem ZeK (b d f g:Bool) (xs ys:List AV):Weak (.agg [.bool b,.vec f 1 xs,.bool d,.vec g 1 ys]) (.agg [.bool b,.vec false 1 xs,.bool d,.vec false 1 ys]):=by
 refine .agg _ _ rfl fun i x y hx hy => ?_
 match i with
 | 0=>simp at hx hy;subst hx;subst hy;exact .refl _
 | 1=>simp at hx hy;subst hx;subst hy;exact ZcA _ _ _
 | 2=>simp at hx hy;subst hx;subst hy;exact .refl _
 | 3=>simp at hx hy;subst hx;subst hy;exact ZcA _ _ _
 | i+4=>simp at hx
theorem rat_neg {a b:Int} (h:b<0):(Rat.divInt a b).num=(-a) / (((-a).gcd (-b):Nat):Int)/\((Rat.divInt a b).den:Int)=(-b) / (((-a).gcd (-b):Nat):Int):=by
 have e:(-a).gcd (-b)=b.gcd a:=by rw [Int.neg_gcd,Int.gcd_neg,Int.gcd_comm]
 rw [e,Rat.num_divInt,Rat.den_divInt,if_neg (by omega),Int.sign_eq_neg_one_of_neg h]
 refine ⟨by rw [Int.neg_mul,Int.one_mul],?_⟩
 have e2:((b.natAbs / b.gcd a:Nat):Int)=(b.natAbs:Int) / (b.gcd a:Int):=rfl
 rw [e2]
 congr 1;omega
theorem rat_pos {a b:Int} (h:0<b):(Rat.divInt a b).num=a / ((a.gcd b:Nat):Int)/\((Rat.divInt a b).den:Int)=b / ((a.gcd b:Nat):Int):=by
 have e:a.gcd b=b.gcd a:=Int.gcd_comm _ _
 rw [e,Rat.num_divInt,Rat.den_divInt,if_neg (by omega),Int.sign_eq_one_of_pos h]
 refine ⟨by rw [Int.one_mul],?_⟩
 have e2:((b.natAbs / b.gcd a:Nat):Int)=(b.natAbs:Int) / (b.gcd a:Int):=rfl
 rw [e2]
 congr 1;omega
theorem gcd_okB {a b:Int} (hb:b ≠ 0) (h:O.okB b):O.okB ((a.gcd b:Nat):Int)/\((a.gcd b:Nat):Int) ≠ 0:=by
 have h1:0<a.gcd b:=Int.gcd_pos_of_ne_zero_right _ hb
 have h2:a.gcd b<=b.natAbs:=Nat.le_of_dvd (by omega) (Int.gcd_dvd_natAbs_right a b)
 have:=Zbg h2
 refine ⟨?_,by omega⟩
 unfold O.okB at *
 rw [Int.natAbs_natCast];omega
theorem flo_pos {a:Int} {g:Nat} (h:(g:Int) ≠ 0):O.flo a (g:Int)=a / (g:Int):=by
 unfold O.flo
 rw [if_pos (by omega)]
theorem ev76 (fa fb:Bool) (a b:Int) (h:O.okB a/\O.okB b/\b ≠ 0):Ev M1 (.pure 76 [bigA fa a,bigA fb b]) (ratF (Rat.divInt a b)) []:=by
 obtain ⟨ha,hb,h0⟩:=h
 have hna:O.okB (-a):=by unfold O.okB at *;rwa [Int.natAbs_neg]
 have hnb:O.okB (-b):=by unfold O.okB at *;rwa [Int.natAbs_neg]
 refine call76 (vReduce _ _ _ _ _ ⟨fun k => ?_,fun k => ?_⟩)
 ·rw [ZcV] at k
  obtain ⟨g1,g2⟩:=gcd_okB (a:=-a) (b:=-b) (by omega) hnb
  obtain ⟨r1,r2⟩:=rat_neg (a:=a) k
  refine ⟨ha,hb,⟨hna,hnb⟩,g1,fun _=>⟨⟨hna,g1,g2⟩,⟨hnb,g1,g2⟩,?_⟩,fun k2 => ?_⟩
  ·show Weak _ (AV.agg [.bool (O.Zaa (Rat.divInt a b).num),.vec false 1 ((O.Zag (Rat.divInt a b).num).map (.int .u32)),.bool (O.Zaa ((Rat.divInt a b).den:Int)),.vec false 1 ((O.Zag ((Rat.divInt a b).den:Int)).map (.int .u32))])
   rw [r1,r2,flo_pos g2,flo_pos g2];exact .refl _
  ·have k2:=ZdG.1 (Classical.not_not.1 k2)
   have e:(((-a).gcd (-b):Nat):Int)=1:=by omega
   show Weak _ (AV.agg [.bool (O.Zaa (Rat.divInt a b).num),.vec false 1 ((O.Zag (Rat.divInt a b).num).map (.int .u32)),.bool (O.Zaa ((Rat.divInt a b).den:Int)),.vec false 1 ((O.Zag ((Rat.divInt a b).den:Int)).map (.int .u32))])
   rw [r1,r2,e,Int.ediv_one,Int.ediv_one];exact ZeK _ _ _ _ _ _
 ·rw [ZcV] at k
  obtain ⟨g1,g2⟩:=gcd_okB (a:=a) (b:=b) h0 hb
  obtain ⟨r1,r2⟩:=rat_pos (a:=a) (show 0<b by omega)
  refine ⟨⟨ha,hb⟩,g1,fun _=>⟨⟨ha,g1,g2⟩,⟨hb,g1,g2⟩,?_⟩,fun k2 => ?_⟩
  ·show Weak _ (AV.agg [.bool (O.Zaa (Rat.divInt a b).num),.vec false 1 ((O.Zag (Rat.divInt a b).num).map (.int .u32)),.bool (O.Zaa ((Rat.divInt a b).den:Int)),.vec false 1 ((O.Zag ((Rat.divInt a b).den:Int)).map (.int .u32))])
   rw [r1,r2,flo_pos g2,flo_pos g2];exact .refl _
  ·have k2:=ZdG.1 (Classical.not_not.1 k2)
   have e:((a.gcd b:Nat):Int)=1:=by omega
   show Weak _ (AV.agg [.bool (O.Zaa (Rat.divInt a b).num),.vec false 1 ((O.Zag (Rat.divInt a b).num).map (.int .u32)),.bool (O.Zaa ((Rat.divInt a b).den:Int)),.vec false 1 ((O.Zag ((Rat.divInt a b).den:Int)).map (.int .u32))])
   rw [r1,r2,e,Int.ediv_one,Int.ediv_one];exact ZeK _ _ _ _ _ _
theorem ev79 (fa ga:Bool) (p q:Int):Ev M1 (.pure 79 [.agg [.bool (O.Zaa p),.vec fa 1 ((O.Zag p).map (.int .u32)),.bool (O.Zaa q),.vec ga 1 ((O.Zag q).map (.int .u32))]]) (.int .i64 (O.sgnI p)) []:=
 call79 (vRSign _ _ _ _ _ rfl)
end Go.Av

namespace Go.Av
open Go.Proofs
theorem ev114 (fa ga:Bool) (r:Rat) (h:O.okB r.num):Ev M1 (.pure 114 [ratA fa ga r]) (ratF (-r)) []:=by
 refine call114 (vRNeg _ _ _ _ _ ⟨h,?_⟩)
 show Weak _ (AV.agg [.bool (O.Zaa (-r).num),.vec false 1 ((O.Zag (-r).num).map (.int .u32)),.bool (O.Zaa ((-r).den:Int)),.vec false 1 ((O.Zag ((-r).den:Int)).map (.int .u32))])
 rw [Rat.neg_num,Rat.neg_den]
 exact ZeK _ _ _ _ _ _
namespace O
end O
theorem ev74 (fa:Bool) (a:Int):Ev M1 (.pure 74 [bigA fa a]) (ratF (a:Rat)) []:=by
 refine call74 (vWhole _ _ _ ?_)
 show Weak _ (AV.agg [.bool (O.Zaa (a:Rat).num),.vec false 1 ((O.Zag (a:Rat).num).map (.int .u32)),.bool (O.Zaa ((a:Rat).den:Int)),.vec false 1 ((O.Zag ((a:Rat).den:Int)).map (.int .u32))])
 rw [Rat.num_intCast,Rat.den_intCast]
 exact ZeK _ _ _ _ _ _
end Go.Av

namespace Go.Av
open Go.Proofs
set_option maxRecDepth 100000
def fi69:Fi:=⟨6,[.cell 2 110]⟩
def kp69:List (Nat × List Nat):=[(0,[0,2]),(1,[2])]
def fi70:Fi:=⟨16,[.cell 4 110]⟩
def kp70:List (Nat × List Nat):=[(0,[2,3,4]),(1,[4])]
def fi72:Fi:=⟨25,[.tmp 4]⟩
def kp72:List (Nat × List Nat):=[(0,[2,3]),(1,[2,3,5]),(2,[2,3,5,12]),(3,[4]),(4,[4])]
def fi104:Fi:=⟨21,[.cell 4 110,.tmp 5]⟩
def kp104:List (Nat × List Nat):=[(0,[2,3,4]),(1,[2,3,4,8]),(2,[4,5]),(3,[4,5])]
def fi111:Fi:=⟨36,[.cell 4 110]⟩
def kp111:List (Nat × List Nat):=[(0,[2,3,4]),(1,[2,3,4,10]),(2,[4]),(3,[4])]
def vRAdd_at (fa ga fb gb:Bool) (r s:Rat) (Q:AV->Heap->Prop):Prop:=Wp M1 (.run fi111 (atC (cd Try.f111) []) [(0,ratA fa ga r),(1,ratA fb gb s)] []) Q
def vRMul_at (fa ga fb gb:Bool) (r s:Rat) (Q:AV->Heap->Prop):Prop:=Wp M1 (.run fi70 (atC (cd Try.f70) []) [(0,ratA fa ga r),(1,ratA fb gb s)] []) Q
def vRDiv_at (fa ga fb gb:Bool) (r s:Rat) (Q:AV->Heap->Prop):Prop:=Wp M1 (.run fi104 (atC (cd Try.f104) []) [(0,ratA fa ga r),(1,ratA fb gb s)] []) Q
def vRCmp_at (fa ga fb gb:Bool) (r s:Rat) (Q:AV->Heap->Prop):Prop:=Wp M1 (.run fi72 (atC (cd Try.f72) []) [(0,ratA fa ga r),(1,ratA fb gb s)] []) Q
def vRFrom_at (n:Int) (Q:AV->Heap->Prop):Prop:=Wp M1 (.run fi69 (atC (cd Try.f69) []) [(0,.int .i64 n)] []) Q
theorem call69 {args:List AV} {d:AV} (h:wc M1 fi69 Try.f69 args d):Ev M1 (.pure 69 args) d []:=pcl _ _ (by kernel_rfl) h
theorem call70 {args:List AV} {d:AV} (h:wc M1 fi70 Try.f70 args d):Ev M1 (.pure 70 args) d []:=pcl _ _ (by kernel_rfl) h
theorem call72 {args:List AV} {d:AV} (h:wc M1 fi72 Try.f72 args d):Ev M1 (.pure 72 args) d []:=pcl _ _ (by kernel_rfl) h
theorem call104 {args:List AV} {d:AV} (h:wc M1 fi104 Try.f104 args d):Ev M1 (.pure 104 args) d []:=pcl _ _ (by kernel_rfl) h
theorem call111 {args:List AV} {d:AV} (h:wc M1 fi111 Try.f111 args d):Ev M1 (.pure 111 args) d []:=pcl _ _ (by kernel_rfl) h
theorem vRAdd (fa ga fb gb:Bool) (r s:Rat)  (dq:AV) (H :
  (O.okB (↑r.den:Int)/\O.okB (↑s.den:Int)) /\
  ((O.sgnI ((↑r.den:Int)-(↑s.den:Int))=0)->(O.okB r.num/\O.okB s.num) /\
   (O.okB (r.num+s.num)/\O.okB (↑r.den:Int)/\(↑r.den:Int) ≠ 0) /\
   Weak (ratF (Rat.divInt (r.num+s.num) (↑r.den:Int))) dq) /\
  (¬(O.sgnI ((↑r.den:Int)-(↑s.den:Int))=0)->(O.okB r.num/\O.okB (↑s.den:Int)) /\
   (O.okB s.num/\O.okB (↑r.den:Int)) /\
   (O.okB (r.num*(↑s.den:Int))/\O.okB (s.num*(↑r.den:Int))) /\
   (O.okB (r.num*(↑s.den:Int)+s.num*(↑r.den:Int))/\O.okB ((↑r.den:Int)*(↑s.den:Int))/\(↑r.den:Int)*(↑s.den:Int) ≠ 0) /\
   Weak (ratF (Rat.divInt (r.num*(↑s.den:Int)+s.num*(↑r.den:Int)) ((↑r.den:Int)*(↑s.den:Int)))) dq)) :
 vRAdd_at fa ga fb gb r s (Zaf dq):=by
 unfold vRAdd_at
 obtain ⟨k1,H⟩:=H
 refine Zac (G:=Zad kp111 [(1,4,.call (vi (O.sgnI ((↑r.den:Int)-(↑s.den:Int)))) none)] []) 5 [] ⟨(atC (cd Try.f111) [1,0,1]),[(2,AV.ptr 0 0 0 0),(3,AV.ptr 1 0 0 0),(4,AV.ptr 2 0 0 0),(10,vb (O.sgnI ((↑r.den:Int)-(↑s.den:Int))==0))],[⟨[ratA fa ga r],4,0,false,false⟩,⟨[ratA fb gb s],4,0,false,false⟩,⟨[ag [vb false,AV.vnil,vb false,AV.vnil]],4,0,false,false⟩],_,[],_⟩ (by kernel_rfl) (bc rfl (bc rfl b0)) q0 (ce (@ev80 ga gb ((↑r.den:Int)) ((↑s.den:Int)) k1) c0) ?_
 rcases xq H with ⟨d3,H⟩|⟨d3,H⟩
 ·obtain ⟨k4,k5,H⟩:=H
  exact Zao (G:=Zad kp111 [(2,4,.call (bigA false (r.num+s.num)) none),(2,7,.call (ratF (Rat.divInt (r.num+s.num) (↑r.den:Int))) none)] []) 1000 [true] (ratF (Rat.divInt (r.num+s.num) (↑r.den:Int))) (by kernel_rfl) (bc (Zal (i_eq.2 d3)) (bc rfl (bc rfl (bc rfl (bc rfl b0))))) q0 (ce (@ev109 fa fb (r.num) (s.num) k4) (ce (@ev76 false ga (r.num+s.num) ((↑r.den:Int)) k5) c0)) H
 ·obtain ⟨k6,k7,k8,k9,H⟩:=H
  exact Zao (G:=Zad kp111 [(3,4,.call (bigA false (r.num*(↑s.den:Int))) none),(3,9,.call (bigA false (s.num*(↑r.den:Int))) none),(3,10,.call (bigA false (r.num*(↑s.den:Int)+s.num*(↑r.den:Int))) none),(3,15,.call (bigA false ((↑r.den:Int)*(↑s.den:Int))) none),(3,16,.call (ratF (Rat.divInt (r.num*(↑s.den:Int)+s.num*(↑r.den:Int)) ((↑r.den:Int)*(↑s.den:Int)))) none)] []) 1000 [false] (ratF (Rat.divInt (r.num*(↑s.den:Int)+s.num*(↑r.den:Int)) ((↑r.den:Int)*(↑s.den:Int)))) (by kernel_rfl) (bc (Zak (fun h=>d3 (i_eq.1 h))) (bc rfl (bc rfl (bc rfl (bc rfl (bc rfl (bc rfl (bc rfl b0)))))))) q0 (ce (@ev77 fa gb (r.num) ((↑s.den:Int)) k6) (ce (@ev77 fb ga (s.num) ((↑r.den:Int)) k7) (ce (@ev109 false false (r.num*(↑s.den:Int)) (s.num*(↑r.den:Int)) k8) (ce (@ev77 ga gb ((↑r.den:Int)) ((↑s.den:Int)) k1) (ce (@ev76 false false (r.num*(↑s.den:Int)+s.num*(↑r.den:Int)) ((↑r.den:Int)*(↑s.den:Int)) k9) c0))))) H
theorem vRMul (fa ga fb gb:Bool) (r s:Rat)  (dq:AV) (H :
  (O.okB r.num/\O.okB s.num) /\
  (O.okB (↑r.den:Int)/\O.okB (↑s.den:Int)) /\
  (O.okB (r.num*s.num)/\O.okB ((↑r.den:Int)*(↑s.den:Int))/\(↑r.den:Int)*(↑s.den:Int) ≠ 0) /\
  Weak (ratF (Rat.divInt (r.num*s.num) ((↑r.den:Int)*(↑s.den:Int)))) dq) :
 vRMul_at fa ga fb gb r s (Zaf dq):=by
 unfold vRMul_at
 obtain ⟨k1,k2,k3,H⟩:=H
 exact Zao (G:=Zad kp70 [(1,4,.call (bigA false (r.num*s.num)) none),(1,9,.call (bigA false ((↑r.den:Int)*(↑s.den:Int))) none),(1,10,.call (ratF (Rat.divInt (r.num*s.num) ((↑r.den:Int)*(↑s.den:Int)))) none)] []) 1000 [] (ratF (Rat.divInt (r.num*s.num) ((↑r.den:Int)*(↑s.den:Int)))) (by kernel_rfl) (bc rfl (bc rfl (bc rfl (bc rfl (bc rfl b0))))) q0 (ce (@ev77 fa fb (r.num) (s.num) k1) (ce (@ev77 ga gb ((↑r.den:Int)) ((↑s.den:Int)) k2) (ce (@ev76 false false (r.num*s.num) ((↑r.den:Int)*(↑s.den:Int)) k3) c0))) H
theorem vRDiv (fa ga fb gb:Bool) (r s:Rat)  (dq:AV) (H :
  ((O.sgnI s.num=0)->Weak (tu [ag [vb false,AV.vnil,vb false,AV.vnil],vi 6]) dq) /\
  (¬(O.sgnI s.num=0)->(O.okB r.num/\O.okB (↑s.den:Int)) /\
   (O.okB (↑r.den:Int)/\O.okB s.num) /\
   (O.okB (r.num*(↑s.den:Int))/\O.okB ((↑r.den:Int)*s.num)/\(↑r.den:Int)*s.num ≠ 0) /\
   Weak (tu [ratF (Rat.divInt (r.num*(↑s.den:Int)) ((↑r.den:Int)*s.num)),vi 0]) dq)) :
 vRDiv_at fa ga fb gb r s (Zaf dq):=by
 unfold vRDiv_at
 refine Zac (G:=Zad kp104 [(1,1,.call (vi (O.sgnI s.num)) none)] []) 5 [] ⟨(atC (cd Try.f104) [1,0,1]),[(2,AV.ptr 0 0 0 0),(3,AV.ptr 1 0 0 0),(4,AV.ptr 2 0 0 0),(8,vb (O.sgnI s.num==0))],[⟨[ratA fa ga r],4,0,false,false⟩,⟨[ratA fb gb s],4,0,false,false⟩,⟨[ag [vb false,AV.vnil,vb false,AV.vnil]],4,0,false,false⟩],_,[],_⟩ (by kernel_rfl) (bc rfl b0) q0 (ce (@ev79 fb gb (s.num) ((↑s.den:Int))) c0) ?_
 rcases xq H with ⟨d2,H⟩|⟨d2,H⟩
 ·exact Zao (G:=Zad kp104 [] []) 1000 [true] (tu [ag [vb false,AV.vnil,vb false,AV.vnil],vi 6]) (by kernel_rfl) (bc (Zal (i_eq.2 d2)) (bc rfl b0)) q0 c0 H
 ·obtain ⟨k3,k4,k5,H⟩:=H
  exact Zao (G:=Zad kp104 [(3,4,.call (bigA false (r.num*(↑s.den:Int))) none),(3,9,.call (bigA false ((↑r.den:Int)*s.num)) none),(3,10,.call (ratF (Rat.divInt (r.num*(↑s.den:Int)) ((↑r.den:Int)*s.num))) none)] []) 1000 [false] (tu [ratF (Rat.divInt (r.num*(↑s.den:Int)) ((↑r.den:Int)*s.num)),vi 0]) (by kernel_rfl) (bc (Zak (fun h=>d2 (i_eq.1 h))) (bc rfl (bc rfl (bc rfl (bc rfl (bc rfl b0)))))) q0 (ce (@ev77 fa gb (r.num) ((↑s.den:Int)) k3) (ce (@ev77 ga fb ((↑r.den:Int)) (s.num) k4) (ce (@ev76 false false (r.num*(↑s.den:Int)) ((↑r.den:Int)*s.num) k5) c0))) H
theorem vRCmp (fa ga fb gb:Bool) (r s:Rat)  (dq:AV) (H :
  ∃ (n1:Int),
  (Ev M1 (Conf.pure 78 [vi (O.sgnI r.num),vi (O.sgnI s.num)]) (vi n1) []) /\
  ((¬n1=0)->vi n1=dq) /\
  (¬(¬n1=0)->(O.okB r.num/\O.okB (↑s.den:Int)) /\
   (O.okB s.num/\O.okB (↑r.den:Int)) /\
   (O.okB (r.num*(↑s.den:Int))/\O.okB (s.num*(↑r.den:Int))) /\
   vi (O.sgnI (r.num*(↑s.den:Int)-s.num*(↑r.den:Int)))=dq)) :
 vRCmp_at fa ga fb gb r s (Zaf dq):=by
 unfold vRCmp_at
 obtain ⟨n1,k1,H⟩:=H
 refine Zac (G:=Zad kp72 [(1,1,.call (vi (O.sgnI r.num)) none),(1,3,.call (vi (O.sgnI s.num)) none),(1,4,.call (vi n1) none)] []) 7 [] ⟨(atC (cd Try.f72) [1,0,1,1]),[(2,AV.ptr 0 0 0 0),(3,AV.ptr 1 0 0 0),(5,vi n1),(12,vb (n1 != 0))],[⟨[ratA fa ga r],4,0,false,false⟩,⟨[ratA fb gb s],4,0,false,false⟩],_,[],_⟩ (by kernel_rfl) (bc rfl (bc rfl b0)) q0 (ce (@ev79 fa ga (r.num) ((↑r.den:Int))) (ce (@ev79 fb gb (s.num) ((↑s.den:Int))) (ce k1 c0))) ?_
 rcases xq H with ⟨d3,H⟩|⟨d3,H⟩
 ·exact Zah (G:=Zad kp72 [] []) 1000 [true] (vi n1) (by kernel_rfl) (bc (Zal (i_ne.2 d3)) b0) q0 c0 H
 ·obtain ⟨k4,k5,k6,H⟩:=H
  exact Zah (G:=Zad kp72 [(4,4,.call (bigA false (r.num*(↑s.den:Int))) none),(4,9,.call (bigA false (s.num*(↑r.den:Int))) none),(4,10,.call (vi (O.sgnI (r.num*(↑s.den:Int)-s.num*(↑r.den:Int)))) none)] []) 1000 [false] (vi (O.sgnI (r.num*(↑s.den:Int)-s.num*(↑r.den:Int)))) (by kernel_rfl) (bc (Zak (fun h=>d3 (i_ne.1 h))) (bc rfl (bc rfl (bc rfl (bc rfl b0))))) q0 (ce (@ev77 fa gb (r.num) ((↑s.den:Int)) k4) (ce (@ev77 fb ga (s.num) ((↑r.den:Int)) k5) (ce (@ev80 false false (r.num*(↑s.den:Int)) (s.num*(↑r.den:Int)) k6) c0))) H
theorem vRFrom (n:Int)  (dq:AV) (H :
  (O.inI n) /\
  Weak (ratF (↑n:Rat)) dq) :
 vRFrom_at n (Zaf dq):=by
 unfold vRFrom_at
 obtain ⟨k1,H⟩:=H
 exact Zao (G:=Zad kp69 [(1,1,.call (bigA false n) none),(1,2,.call (ratF (↑n:Rat)) none)] []) 1000 [] (ratF (↑n:Rat)) (by kernel_rfl) (bc rfl b0) q0 (ce (@ev75 n k1) (ce (@ev74 false n) c0)) H
end Go.Av

namespace Go.Av
open Go.Proofs
def O.okR (r:Rat):Prop:=O.cnt r.num.natAbs<=90000/\O.cnt r.den<=90000
theorem okR_B {r:Rat} (h:O.okR r):O.okB r.num/\O.okB (r.den:Int):=by
 unfold O.okR at h
 unfold O.okB
 rw [Int.natAbs_natCast];omega
theorem Za8 {a b:Int} {n m:Nat} (ha:O.cnt a.natAbs<=n) (hb:O.cnt b.natAbs<=m):O.cnt (a*b).natAbs<=n+m:=by
 rw [Int.natAbs_mul]
 exact ZaB.1 (ZfR (ZaB.2 ha) (ZaB.2 hb))
theorem cnt_addI {a b:Int} {n:Nat} (ha:O.cnt a.natAbs<=n) (hb:O.cnt b.natAbs<=n):O.cnt (a+b).natAbs<=n+1:=by
 have h:=ZaB.1 (fits_sum (ZaB.2 ha) (ZaB.2 hb))
 exact Nat.le_trans (Zbg (Int.natAbs_add_le a b)) h
theorem Zbl {r:Rat} {n:Nat} (h:O.cnt r.den<=n):O.cnt ((r.den:Int)).natAbs<=n:=by rwa [Int.natAbs_natCast]
theorem Zcr (r:Rat):(r.den:Int) ≠ 0:=by have:=r.den_pos;omega
theorem rat_add (r s:Rat):Rat.divInt (r.num*(s.den:Int)+s.num*(r.den:Int)) ((r.den:Int)*(s.den:Int))=r+s:=by
 rw [<- Rat.divInt_add_divInt _ _ (Zcr r) (Zcr s),Rat.num_divInt_den,Rat.num_divInt_den]
theorem rat_add_same {r s:Rat} (h:(r.den:Int)=(s.den:Int)):Rat.divInt (r.num+s.num) (r.den:Int)=r+s:=by
 rw [<- rat_add,<- h,<- Int.add_mul,Rat.divInt_mul_right (Zcr r)]
theorem rat_mul (r s:Rat):Rat.divInt (r.num*s.num) ((r.den:Int)*(s.den:Int))=r*s:=by
 rw [<- Rat.divInt_mul_divInt,Rat.num_divInt_den,Rat.num_divInt_den]
theorem rat_div (r s:Rat):Rat.divInt (r.num*(s.den:Int)) ((r.den:Int)*s.num)=r / s:=by
 rw [<- Rat.divInt_mul_divInt,Rat.num_divInt_den,<- Rat.inv_divInt,Rat.num_divInt_den,Rat.div_def]
theorem ev111 (fa ga fb gb:Bool) (r s:Rat) (h:O.okR r/\O.okR s):Ev M1 (.pure 111 [ratA fa ga r,ratA fb gb s]) (ratF (r+s)) []:=by
 obtain ⟨hr,hs⟩:=h
 obtain ⟨r1,r2⟩:=okR_B hr
 obtain ⟨s1,s2⟩:=okR_B hs
 obtain ⟨cr1,cr2⟩:=hr
 obtain ⟨cs1,cs2⟩:=hs
 have m1:=Za8 cr1 (Zbl cs2)
 have m2:=Za8 cs1 (Zbl cr2)
 have m3:=Za8 (Zbl cr2) (Zbl cs2)
 have a1:=cnt_addI m1 m2
 have a2:=cnt_addI cr1 cs1
 refine call111 (vRAdd _ _ _ _ _ _ _ ⟨⟨r2,s2⟩,fun k=>⟨⟨r1,s1⟩,⟨by unfold O.okB;omega,r2,Zcr r⟩,?_⟩,fun k=>⟨⟨r1,s2⟩,⟨s1,r2⟩,⟨by unfold O.okB;omega,by unfold O.okB;omega⟩,⟨by unfold O.okB;omega,by unfold O.okB;omega,Int.mul_ne_zero (Zcr r) (Zcr s)⟩,?_⟩⟩)
 ·have k:=ZdG.1 k
  rw [rat_add_same (by omega)];exact .refl _
 ·rw [rat_add];exact .refl _
theorem ev70 (fa ga fb gb:Bool) (r s:Rat) (h:O.okR r/\O.okR s):Ev M1 (.pure 70 [ratA fa ga r,ratA fb gb s]) (ratF (r*s)) []:=by
 obtain ⟨hr,hs⟩:=h
 obtain ⟨r1,r2⟩:=okR_B hr
 obtain ⟨s1,s2⟩:=okR_B hs
 obtain ⟨cr1,cr2⟩:=hr
 obtain ⟨cs1,cs2⟩:=hs
 have m1:=Za8 cr1 cs1
 have m3:=Za8 (Zbl cr2) (Zbl cs2)
 refine call70 (vRMul _ _ _ _ _ _ _ ⟨⟨r1,s1⟩,⟨r2,s2⟩,⟨by unfold O.okB;omega,by unfold O.okB;omega,Int.mul_ne_zero (Zcr r) (Zcr s)⟩,?_⟩)
 rw [rat_mul];exact .refl _
theorem hid_ex (r:Rat):∃ s:Rat,s=r:=⟨r,rfl⟩
noncomputable def O.hid (r:Rat):Rat:=Classical.choose (hid_ex r)
theorem hid_eq (r:Rat):O.hid r=r:=Classical.choose_spec (hid_ex r)
noncomputable def O.qi (n:Int):Rat:=O.hid n
theorem qi_eq (n:Int):O.qi n=(n:Rat):=hid_eq _
theorem ev69 (n:Int) (h:O.inI n):Ev M1 (.pure 69 [.int .i64 n]) (ratF (O.qi n)) []:=by
 rw [qi_eq]
 exact call69 (vRFrom _ _ ⟨h,.refl _⟩)
end Go.Av

namespace Go.Av
open Go.Proofs
namespace O
end O
end Go.Av

namespace Go.Av
open Go.Proofs
end Go.Av

namespace Go.Av
open Go.Proofs
set_option maxRecDepth 100000
end Go.Av

namespace Go.Av
open Go.Proofs
set_option maxRecDepth 100000
def fi91:Fi:=⟨6,[.tmp 2]⟩
def kp91:List (Nat × List Nat):=[(0,[0]),(1,[2])]
def vIsNaN_at (x:Int) (Q:AV->Heap->Prop):Prop:=Wp M1 (.run fi91 (atC (cd Try.f91) []) [(0,.int .i64 x)] []) Q
theorem call91 {args:List AV} {d:AV} (h:wc M1 fi91 Try.f91 args d):Ev M1 (.pure 91 args) d []:=pcl _ _ (by kernel_rfl) h
theorem vIsNaN (x:Int)  (dq:AV) (H :
  (vb (x != x))=dq) :
 vIsNaN_at x (Zaf dq):=by
 unfold vIsNaN_at
 exact Zah (G:=Zad kp91 [] []) 1000 [] (vb (x != x)) (by kernel_rfl) b0 q0 c0 H
end Go.Av

namespace Go.Av
open Go.Proofs
theorem ev91 (x:Int):Ev M1 (.pure 91 [.int .i64 x]) (.bool false) []:=
 call91 (vIsNaN _ _ (by simp))
theorem ev104 (fa ga fb gb:Bool) (r s:Rat) (h:O.okR r/\O.okR s/\s.num ≠ 0):Ev M1 (.pure 104 [ratA fa ga r,ratA fb gb s]) (.tup [ratF (r / s),.int .i64 0]) []:=by
 obtain ⟨hr,hs,h0⟩:=h
 obtain ⟨r1,r2⟩:=okR_B hr
 obtain ⟨s1,s2⟩:=okR_B hs
 obtain ⟨cr1,cr2⟩:=hr
 obtain ⟨cs1,cs2⟩:=hs
 have m1:=Za8 cr1 (Zbl cs2)
 have m3:=Za8 (Zbl cr2) cs1
 refine call104 (vRDiv _ _ _ _ _ _ _ ⟨fun k=>absurd (ZdG.1 k) h0,fun _=>⟨⟨r1,s2⟩,⟨r2,s1⟩,⟨by unfold O.okB;omega,by unfold O.okB;omega,Int.mul_ne_zero (Zcr r) h0⟩,?_⟩⟩)
 rw [rat_div];exact .refl _
end Go.Av

namespace Go.Av
open Go.Proofs
set_option maxRecDepth 100000
def fi78:Fi:=⟨20,[.tmp 4]⟩
def kp78:List (Nat × List Nat):=[(0,[0,1]),(1,[0,1,5]),(2,[0,1,5,6]),(3,[0,1,6,11]),(4,[12]),(5,[4]),(6,[4]),(7,[0,1,13]),(8,[4]),(9,[0,1,16]),(10,[4]),(11,[19]),(12,[4]),(13,[4])]
def fi110:Fi:=⟨9,[.cell 4 110]⟩
def kp110:List (Nat × List Nat):=[(0,[2,3,4]),(1,[4])]
def Zgw (x y:Int) (Q:AV->Heap->Prop):Prop:=Wp M1 (.run fi78 (atC (cd Try.f78) []) [(0,.int .i64 x),(1,.int .i64 y)] []) Q
def vRSub_at (fa ga fb gb:Bool) (r s:Rat) (Q:AV->Heap->Prop):Prop:=Wp M1 (.run fi110 (atC (cd Try.f110) []) [(0,ratA fa ga r),(1,ratA fb gb s)] []) Q
theorem call78 {args:List AV} {d:AV} (h:wc M1 fi78 Try.f78 args d):Ev M1 (.pure 78 args) d []:=pcl _ _ (by kernel_rfl) h
theorem call110 {args:List AV} {d:AV} (h:wc M1 fi110 Try.f110 args d):Ev M1 (.pure 110 args) d []:=pcl _ _ (by kernel_rfl) h
theorem vCmpInt (x y:Int)  (dq:AV) (H :
  ((x<y)->vi (-1)=dq) /\
  (¬(x<y)->((x>y)->vi 1=dq) /\
   (¬(x>y)->vi 0=dq))) :
 Zgw x y (Zaf dq):=by
 unfold Zgw
 refine Zac (G:=Zad kp78 [(1,1,.call (vb false) none),(2,1,.call (vb false) none)] []) 19 [false,false] ⟨(atC (cd Try.f78) [1,1,1,1,1,0,1]),[(0,vi x),(1,vi y),(16,vb (decide (x<y)))],[],_,[],_⟩ (by kernel_rfl) (bc rfl (bc rfl b0)) q0 (ce (@ev91 x) (ce (@ev91 y) c0)) ?_
 rcases xq H with ⟨d2,H⟩|⟨d2,H⟩
 ·exact Zah (G:=Zad kp78 [] []) 1000 [true] (vi (-1)) (by kernel_rfl) (bc (Zal (Zab.2 d2)) b0) q0 c0 H
 ·rcases xq H with ⟨d4,H⟩|⟨d4,H⟩
  ·exact Zah (G:=Zad kp78 [] []) 1000 [false,true] (vi 1) (by kernel_rfl) (bc (Zak (fun h=>d2 (Zab.1 h))) (bc (Zal (Zab.2 d4)) b0)) q0 c0 H
  ·exact Zah (G:=Zad kp78 [] []) 1000 [false,false] (vi 0) (by kernel_rfl) (bc (Zak (fun h=>d2 (Zab.1 h))) (bc (Zak (fun h=>d4 (Zab.1 h))) b0)) q0 c0 H
theorem vRSub (fa ga fb gb:Bool) (r s:Rat)  (dq:AV) (H :
  (O.okB s.num) /\
  (O.okR r/\O.okR (-s)) /\
  Weak (ratF (r + -s)) dq) :
 vRSub_at fa ga fb gb r s (Zaf dq):=by
 unfold vRSub_at
 obtain ⟨k1,k2,H⟩:=H
 exact Zao (G:=Zad kp110 [(1,2,.call (ratF (-s)) none),(1,3,.call (ratF (r + -s)) none)] []) 1000 [] (ratF (r + -s)) (by kernel_rfl) (bc rfl (bc rfl (bc rfl b0))) q0 (ce (@ev114 fb gb s k1) (ce (@ev111 fa ga false false r (-s) k2) c0)) H
end Go.Av

namespace Go.Av
open Go.Proofs
theorem ev78 (x y:Int):Ev M1 (.pure 78 [.int .i64 x,.int .i64 y]) (.int .i64 (O.sgnI (x-y))) []:=by
 refine call78 (vCmpInt _ _ _ ⟨fun h => ?_,fun h=>⟨fun k => ?_,fun k => ?_⟩⟩)
 ·unfold O.sgnI;rw [if_pos (by omega)]
 ·unfold O.sgnI;rw [if_neg (by omega),if_pos (by omega)]
 ·unfold O.sgnI;rw [if_neg (by omega),if_neg (by omega)]
theorem okR_neg {s:Rat} (h:O.okR s):O.okR (-s):=by
 unfold O.okR at *
 rw [Rat.neg_num,Rat.neg_den,Int.natAbs_neg];exact h
theorem ev110 (fa ga fb gb:Bool) (r s:Rat) (h:O.okR r/\O.okR s):Ev M1 (.pure 110 [ratA fa ga r,ratA fb gb s]) (ratF (r-s)) []:=by
 refine call110 (vRSub _ _ _ _ _ _ _ ⟨(okR_B h.2).1,⟨h.1,okR_neg h.2⟩,?_⟩)
 rw [<- Rat.sub_eq_add_neg];exact .refl _
theorem sgn_mul (a:Int) {d:Int} (h:0<d):(a<0->a*d<0)/\(a=0->a*d=0)/\(0<a->0<a*d):=
 ⟨fun k=>Int.mul_neg_of_neg_of_pos k h,fun k=>by rw [k,Int.zero_mul],fun k=>Int.mul_pos k h⟩
theorem ev72 (fa ga fb gb:Bool) (r s:Rat) (h:O.okR r/\O.okR s):Ev M1 (.pure 72 [ratA fa ga r,ratA fb gb s]) (.int .i64 (O.sgnI (r.num*(s.den:Int)-s.num*(r.den:Int)))) []:=by
 obtain ⟨hr,hs⟩:=h
 obtain ⟨r1,r2⟩:=okR_B hr
 obtain ⟨s1,s2⟩:=okR_B hs
 obtain ⟨cr1,cr2⟩:=hr
 obtain ⟨cs1,cs2⟩:=hs
 have m1:=Za8 cr1 (Zbl cs2)
 have m2:=Za8 cs1 (Zbl cr2)
 refine call72 (vRCmp _ _ _ _ _ _ _ ⟨_,ev78 _ _,fun k => ?_,fun _=>⟨⟨r1,s2⟩,⟨s1,r2⟩,⟨by unfold O.okB;omega,by unfold O.okB;omega⟩,rfl⟩⟩)
 obtain ⟨a1,a2,a3⟩:=sgn_mul r.num (d:=(s.den:Int)) (by have:=s.den_pos;omega)
 obtain ⟨b1,b2,b3⟩:=sgn_mul s.num (d:=(r.den:Int)) (by have:=r.den_pos;omega)
 congr 1
 generalize r.num*(s.den:Int)=A at a1 a2 a3 ⊢
 generalize s.num*(r.den:Int)=B at b1 b2 b3 ⊢
 unfold O.sgnI at k ⊢
 (repeat' split at k) <;> (repeat' split) <;> omega
end Go.Av

namespace Go.Av
open Go.Proofs
end Go.Av

namespace Go.Av
open Go.Proofs
end Go.Av

namespace Go.Av
open Go.Proofs
set_option maxRecDepth 100000
end Go.Av

namespace Go.Av
open Go.Proofs
set_option maxRecDepth 100000
end Go.Av

namespace Go.Av
open Go.Proofs
end Go.Av

namespace Go.Av
open Go.Proofs
theorem inI_cnt {n:Int} (h:O.inI n):O.cnt n.natAbs<=3:=by
 unfold O.inI at h
 exact cnt_u64 (by omega)
end Go.Av

namespace Go.Av
open Go.Proofs
set_option maxRecDepth 100000
end Go.Av

namespace Go.Av
open Go.Proofs
end Go.Av

namespace Go.Av
open Go.Proofs
set_option maxRecDepth 100000
end Go.Av

namespace Go.Av
open Go.Proofs
def O.okT (k:Nat) (r:Rat):Prop:=O.cnt r.num.natAbs<=k/\O.cnt r.den<=k
theorem Zb4 {k:Nat} {r:Rat} (h:O.okT k r) (hk:k<=90000):O.okR r:=⟨Nat.le_trans h.1 hk,Nat.le_trans h.2 hk⟩
theorem Zb6 {k m:Nat} {r:Rat} (h:O.okT k r) (hk:k<=m):O.okT m r:=⟨Nat.le_trans h.1 hk,Nat.le_trans h.2 hk⟩
theorem ZfW {p q:Int} (hq:q ≠ 0):(Rat.divInt p q).num.natAbs<=p.natAbs/\(Rat.divInt p q).den<=q.natAbs:=by
 by_cases h:0<q
 ·obtain ⟨e1,e2⟩:=rat_pos (a:=p) h
  have e3:(Rat.divInt p q).den=((q / ((p.gcd q:Nat):Int))).natAbs:=by omega
  rw [e1,e3]
  refine ⟨?_,?_⟩
  ·rw [Int.natAbs_ediv_of_dvd (Int.gcd_dvd_left ..)];exact Nat.div_le_self _ _
  ·rw [Int.natAbs_ediv_of_dvd (Int.gcd_dvd_right ..)];exact Nat.div_le_self _ _
 ·obtain ⟨e1,e2⟩:=rat_neg (a:=p) (b:=q) (by omega)
  have e3:(Rat.divInt p q).den=((-q / (((-p).gcd (-q):Nat):Int))).natAbs:=by omega
  rw [e1,e3]
  refine ⟨?_,?_⟩
  ·rw [Int.natAbs_ediv_of_dvd (Int.gcd_dvd_left ..),Int.natAbs_neg];exact Nat.div_le_self _ _
  ·rw [Int.natAbs_ediv_of_dvd (Int.gcd_dvd_right ..),Int.natAbs_neg];exact Nat.div_le_self _ _
theorem Zcj {k m:Nat} {r s:Rat} (h:O.okT k r) (h2:O.okT m s):O.okT (k+m) (r*s):=by
 have e:=ZfW (p:=r.num*s.num) (q:=(r.den:Int)*(s.den:Int)) (Int.mul_ne_zero (Zcr r) (Zcr s))
 rw [rat_mul] at e
 refine ⟨Nat.le_trans (Zbg e.1) (Za8 h.1 h2.1),Nat.le_trans (Zbg e.2) (Za8 (Zbl h.2) (Zbl h2.2))⟩
theorem okT_add {k m:Nat} {r s:Rat} (h:O.okT k r) (h2:O.okT m s):O.okT (k+m+1) (r+s):=by
 have e:=ZfW (p:=r.num*(s.den:Int)+s.num*(r.den:Int)) (q:=(r.den:Int)*(s.den:Int)) (Int.mul_ne_zero (Zcr r) (Zcr s))
 rw [rat_add] at e
 have m1:=Za8 h.1 (Zbl h2.2)
 have m2:=Za8 h2.1 (Zbl h.2)
 have m3:=Za8 (Zbl h.2) (Zbl h2.2)
 have:=cnt_addI m1 (Nat.le_trans m2 (by omega))
 exact ⟨Nat.le_trans (Zbg e.1) this,Nat.le_trans (Zbg e.2) (Nat.le_trans m3 (by omega))⟩
theorem okT_neg {k:Nat} {r:Rat} (h:O.okT k r):O.okT k (-r):=by
 unfold O.okT
 rw [Rat.neg_num,Rat.neg_den,Int.natAbs_neg];exact h
theorem ZbJ {k m:Nat} {r s:Rat} (h:O.okT k r) (h2:O.okT m s):O.okT (k+m+1) (r-s):=by
 rw [Rat.sub_eq_add_neg];exact okT_add h (okT_neg h2)
theorem okT_int {n:Int} (h:O.inI n):O.okT 3 (O.qi n):=by
 rw [qi_eq]
 unfold O.okT
 rw [Rat.num_intCast,Rat.den_intCast]
 exact ⟨inI_cnt h,by have:=cnt_small (n:=1) (by decide);omega⟩
def O.isCom (b c y z:Rat):Prop:=b=0\/y=0\/c=z
instance (b c y z:Rat):Decidable (O.isCom b c y z):=inferInstanceAs (Decidable (_\/_))
end Go.Av

namespace Go.Av
open Go.Proofs
set_option maxRecDepth 100000
def fi68:Fi:=⟨31,[.tmp 4]⟩
def kp68:List (Nat × List Nat):=[(0,[2,3]),(1,[4])]
def fi71:Fi:=⟨10,[.cell 4 114]⟩
def kp71:List (Nat × List Nat):=[(0,[0,1,4]),(1,[4])]
def fi96:Fi:=⟨17,[.cell 4 110]⟩
def kp96:List (Nat × List Nat):=[(0,[2,3,4]),(1,[4,5,6]),(2,[4,5,14]),(3,[4]),(4,[4])]
def fi97:Fi:=⟨8,[.cell 4 110]⟩
def kp97:List (Nat × List Nat):=[(0,[2,3,4]),(1,[4])]
def fi102:Fi:=⟨8,[.cell 4 110]⟩
def kp102:List (Nat × List Nat):=[(0,[2,3,4]),(1,[4])]
def fi103:Fi:=⟨8,[.cell 4 110]⟩
def kp103:List (Nat × List Nat):=[(0,[2,3,4]),(1,[4])]
def qAdd_at (f1 f2 g1 g2:Bool) (r s:Rat) (Q:AV->Heap->Prop):Prop:=Wp M1 (.run fi103 (atC (cd Try.f103) []) [(0,ratA f1 f2 r),(1,ratA g1 g2 s)] []) Q
def qSub_at (f1 f2 g1 g2:Bool) (r s:Rat) (Q:AV->Heap->Prop):Prop:=Wp M1 (.run fi102 (atC (cd Try.f102) []) [(0,ratA f1 f2 r),(1,ratA g1 g2 s)] []) Q
def qMul_at (f1 f2 g1 g2:Bool) (r s:Rat) (Q:AV->Heap->Prop):Prop:=Wp M1 (.run fi97 (atC (cd Try.f97) []) [(0,ratA f1 f2 r),(1,ratA g1 g2 s)] []) Q
def qOver_at (f1 f2 g1 g2:Bool) (r s:Rat) (Q:AV->Heap->Prop):Prop:=Wp M1 (.run fi96 (atC (cd Try.f96) []) [(0,ratA f1 f2 r),(1,ratA g1 g2 s)] []) Q
def qVec_at (x y:Int) (Q:AV->Heap->Prop):Prop:=Wp M1 (.run fi71 (atC (cd Try.f71) []) [(0,.int .i64 x),(1,.int .i64 y)] []) Q
def qHolds_at (x0 y0 x1 y1 tp x y:Int) (Q:AV->Heap->Prop):Prop:=Wp M1 (.run fi68 (atC (cd Try.f68) []) [(0,.agg [.int .i64 x0,.int .i64 y0,.int .i64 x1,.int .i64 y1,.int .i64 tp]),(1,.agg [.int .i64 x,.int .i64 y])] []) Q
theorem call68 {args:List AV} {d:AV} (h:wc M1 fi68 Try.f68 args d):Ev M1 (.pure 68 args) d []:=pcl _ _ (by kernel_rfl) h
theorem call71 {args:List AV} {d:AV} (h:wc M1 fi71 Try.f71 args d):Ev M1 (.pure 71 args) d []:=pcl _ _ (by kernel_rfl) h
theorem call96 {args:List AV} {d:AV} (h:wc M1 fi96 Try.f96 args d):Ev M1 (.pure 96 args) d []:=pcl _ _ (by kernel_rfl) h
theorem call97 {args:List AV} {d:AV} (h:wc M1 fi97 Try.f97 args d):Ev M1 (.pure 97 args) d []:=pcl _ _ (by kernel_rfl) h
theorem call102 {args:List AV} {d:AV} (h:wc M1 fi102 Try.f102 args d):Ev M1 (.pure 102 args) d []:=pcl _ _ (by kernel_rfl) h
theorem call103 {args:List AV} {d:AV} (h:wc M1 fi103 Try.f103 args d):Ev M1 (.pure 103 args) d []:=pcl _ _ (by kernel_rfl) h
theorem qAdd (f1 f2 g1 g2:Bool) (r s:Rat)  (dq:AV) (H :
  (O.okR r/\O.okR s) /\
  Weak (ratF (r+s)) dq) :
 qAdd_at f1 f2 g1 g2 r s (Zaf dq):=by
 unfold qAdd_at
 obtain ⟨k1,H⟩:=H
 exact Zao (G:=Zad kp103 [(1,2,.call (ratF (r+s)) none)] []) 1000 [] (ratF (r+s)) (by kernel_rfl) (bc rfl (bc rfl (bc rfl b0))) q0 (ce (@ev111 f1 f2 g1 g2 r s k1) c0) H
theorem qSub (f1 f2 g1 g2:Bool) (r s:Rat)  (dq:AV) (H :
  (O.okR r/\O.okR s) /\
  Weak (ratF (r-s)) dq) :
 qSub_at f1 f2 g1 g2 r s (Zaf dq):=by
 unfold qSub_at
 obtain ⟨k1,H⟩:=H
 exact Zao (G:=Zad kp102 [(1,2,.call (ratF (r-s)) none)] []) 1000 [] (ratF (r-s)) (by kernel_rfl) (bc rfl (bc rfl (bc rfl b0))) q0 (ce (@ev110 f1 f2 g1 g2 r s k1) c0) H
theorem qMul (f1 f2 g1 g2:Bool) (r s:Rat)  (dq:AV) (H :
  (O.okR r/\O.okR s) /\
  Weak (ratF (r*s)) dq) :
 qMul_at f1 f2 g1 g2 r s (Zaf dq):=by
 unfold qMul_at
 obtain ⟨k1,H⟩:=H
 exact Zao (G:=Zad kp97 [(1,2,.call (ratF (r*s)) none)] []) 1000 [] (ratF (r*s)) (by kernel_rfl) (bc rfl (bc rfl (bc rfl b0))) q0 (ce (@ev70 f1 f2 g1 g2 r s k1) c0) H
theorem qOver (f1 f2 g1 g2:Bool) (r s:Rat)  (dq:AV) (H :
  (O.okR r/\O.okR s/\s.num ≠ 0) /\
  Weak (ratF (r / s)) dq) :
 qOver_at f1 f2 g1 g2 r s (Zaf dq):=by
 unfold qOver_at
 obtain ⟨k1,H⟩:=H
 exact Zao (G:=Zad kp96 [(1,2,.call (tu [ratF (r / s),vi 0]) none)] []) 1000 [false] (ratF (r / s)) (by kernel_rfl) (bc rfl (bc rfl (bc rfl (bc rfl (bc rfl (bc rfl b0)))))) q0 (ce (@ev104 f1 f2 g1 g2 r s k1) c0) H
theorem qVec (x y:Int)  (dq:AV) (H :
  (O.inI x) /\
  (O.inI y) /\
  Weak (ag [vb (O.Zaa (O.qi x).num),vf (us (O.Zag (O.qi x).num)),vb (O.Zaa (↑(O.qi x).den:Int)),vf (us (O.Zag (↑(O.qi x).den:Int))),vb (O.Zaa (O.qi y).num),vf (us (O.Zag (O.qi y).num)),vb (O.Zaa (↑(O.qi y).den:Int)),vf (us (O.Zag (↑(O.qi y).den:Int)))]) dq) :
 qVec_at x y (Zaf dq):=by
 unfold qVec_at
 obtain ⟨k1,k2,H⟩:=H
 exact Zao (G:=Zad kp71 [(1,1,.call (ratF (O.qi x)) none),(1,3,.call (ratF (O.qi y)) none)] []) 1000 [] (ag [vb (O.Zaa (O.qi x).num),vf (us (O.Zag (O.qi x).num)),vb (O.Zaa (↑(O.qi x).den:Int)),vf (us (O.Zag (↑(O.qi x).den:Int))),vb (O.Zaa (O.qi y).num),vf (us (O.Zag (O.qi y).num)),vb (O.Zaa (↑(O.qi y).den:Int)),vf (us (O.Zag (↑(O.qi y).den:Int)))]) (by kernel_rfl) (bc rfl b0) q0 (ce (@ev69 x k1) (ce (@ev69 y k2) c0)) H
theorem qHolds (x0 y0 x1 y1 tp x y:Int)  (dq:AV) (H :
  vb (bif bif bif decide (x0<=x) then decide (x<=x1) else false then decide (y0<=y) else false then decide (y<=y1) else false)=dq) :
 qHolds_at x0 y0 x1 y1 tp x y (Zaf dq):=by
 unfold qHolds_at
 exact Zah (G:=Zad kp68 [] []) 1000 [] (asm:=[true,true,!(decide (x0<=x)==true&&true)||true,!(decide (x0<=x)==true&&true)||true,!((bif decide (x0<=x) then decide (x<=x1) else false)==true&&true)||true,!((bif decide (x0<=x) then decide (x<=x1) else false)==true&&true)||true,!((bif bif decide (x0<=x) then decide (x<=x1) else false then decide (y0<=y) else false)==true&&true)||true,!((bif bif decide (x0<=x) then decide (x<=x1) else false then decide (y0<=y) else false)==true&&true)||true]) (vb (bif bif bif decide (x0<=x) then decide (x<=x1) else false then decide (y0<=y) else false then decide (y<=y1) else false)) (by kernel_rfl) (bc rfl (bc rfl (bc (Bool.or_true _) (bc (Bool.or_true _) (bc (Bool.or_true _) (bc (Bool.or_true _) (bc (Bool.or_true _) (bc (Bool.or_true _) b0)))))))) q0 c0 H
end Go.Av

namespace Go.Av
open Go.Proofs
theorem ev103 (f1 f2 g1 g2:Bool) (r s:Rat) (h:O.okR r/\O.okR s):Ev M1 (.pure 103 [ratA f1 f2 r,ratA g1 g2 s]) (ratF (r+s)) []:=call103 (qAdd _ _ _ _ _ _ _ ⟨h,.refl _⟩)
theorem ev102 (f1 f2 g1 g2:Bool) (r s:Rat) (h:O.okR r/\O.okR s):Ev M1 (.pure 102 [ratA f1 f2 r,ratA g1 g2 s]) (ratF (r-s)) []:=call102 (qSub _ _ _ _ _ _ _ ⟨h,.refl _⟩)
theorem ev97 (f1 f2 g1 g2:Bool) (r s:Rat) (h:O.okR r/\O.okR s):Ev M1 (.pure 97 [ratA f1 f2 r,ratA g1 g2 s]) (ratF (r*s)) []:=call97 (qMul _ _ _ _ _ _ _ ⟨h,.refl _⟩)
theorem ev96 (f1 f2 g1 g2:Bool) (r s:Rat) (h:O.okR r/\O.okR s/\s.num ≠ 0):Ev M1 (.pure 96 [ratA f1 f2 r,ratA g1 g2 s]) (ratF (r / s)) []:=call96 (qOver _ _ _ _ _ _ _ ⟨h,.refl _⟩)
abbrev vecA (f1 f2 f3 f4:Bool) (x y:Rat):AV:=.agg [.bool (O.Zaa x.num),.vec f1 1 ((O.Zag x.num).map (.int .u32)),.bool (O.Zaa (x.den:Int)),.vec f2 1 ((O.Zag (x.den:Int)).map (.int .u32)),.bool (O.Zaa y.num),.vec f3 1 ((O.Zag y.num).map (.int .u32)),.bool (O.Zaa (y.den:Int)),.vec f4 1 ((O.Zag (y.den:Int)).map (.int .u32))]
def O.inI2 (x y:Int):Prop:=O.inI x/\O.inI y
theorem ev71 (x y:Int) (h:O.inI2 x y):Ev M1 (.pure 71 [.int .i64 x,.int .i64 y]) (vecA false false false false (O.qi x) (O.qi y)) []:=call71 (qVec _ _ _ ⟨h.1,h.2,.refl _⟩)
namespace O
def hld (x0 y0 x1 y1 x y:Int):Prop:=x0<=x/\x<=x1/\y0<=y/\y<=y1
def rct (x0 y0 x1 y1:Int):Prop:=x0<x1/\y0<y1/\x0 >= -10000000/\y0 >= -10000000/\x1<=10000000/\y1<=10000000
def wth (n l:Int):Prop:=n>=l/\n<=10000000
end O
instance (x0 y0 x1 y1 x y:Int):Decidable (O.hld x0 y0 x1 y1 x y):=by unfold O.hld;infer_instance
instance (x0 y0 x1 y1:Int):Decidable (O.rct x0 y0 x1 y1):=by unfold O.rct;infer_instance
instance (n l:Int):Decidable (O.wth n l):=by unfold O.wth;infer_instance
theorem ev68 (x0 y0 x1 y1 tp x y:Int):Ev M1 (.pure 68 [.agg [.int .i64 x0,.int .i64 y0,.int .i64 x1,.int .i64 y1,.int .i64 tp],.agg [.int .i64 x,.int .i64 y]]) (.bool (decide (O.hld x0 y0 x1 y1 x y))) []:=
 call68 (qHolds _ _ _ _ _ _ _ _ (congrArg AV.bool (by rw [ZcL,ZcL,ZcL];exact ZdD (by unfold O.hld;omega))))
end Go.Av

namespace Go.Av
open Go.Proofs
set_option maxRecDepth 100000
def fi93:Fi:=⟨16,[.cell 4 114]⟩
def kp93:List (Nat × List Nat):=[(0,[2,3,4]),(1,[4])]
def fi94:Fi:=⟨16,[.cell 4 110]⟩
def kp94:List (Nat × List Nat):=[(0,[2,3,4]),(1,[4])]
def fi95:Fi:=⟨16,[.cell 4 110]⟩
def kp95:List (Nat × List Nat):=[(0,[2,3,4]),(1,[4])]
def qWay_at (f1 f2 f3 f4 f5 f6 f7 f8:Bool) (x1 y1 x2 y2:Rat) (Q:AV->Heap->Prop):Prop:=Wp M1 (.run fi93 (atC (cd Try.f93) []) [(0,.agg [.bool (O.Zaa x1.num),.vec f1 1 ((O.Zag x1.num).map (.int .u32)),.bool (O.Zaa (x1.den:Int)),.vec f2 1 ((O.Zag (x1.den:Int)).map (.int .u32)),.bool (O.Zaa y1.num),.vec f3 1 ((O.Zag y1.num).map (.int .u32)),.bool (O.Zaa (y1.den:Int)),.vec f4 1 ((O.Zag (y1.den:Int)).map (.int .u32))]),(1,.agg [.bool (O.Zaa x2.num),.vec f5 1 ((O.Zag x2.num).map (.int .u32)),.bool (O.Zaa (x2.den:Int)),.vec f6 1 ((O.Zag (x2.den:Int)).map (.int .u32)),.bool (O.Zaa y2.num),.vec f7 1 ((O.Zag y2.num).map (.int .u32)),.bool (O.Zaa (y2.den:Int)),.vec f8 1 ((O.Zag (y2.den:Int)).map (.int .u32))])] []) Q
def qDot_at (f1 f2 f3 f4 f5 f6 f7 f8:Bool) (x1 y1 x2 y2:Rat) (Q:AV->Heap->Prop):Prop:=Wp M1 (.run fi95 (atC (cd Try.f95) []) [(0,.agg [.bool (O.Zaa x1.num),.vec f1 1 ((O.Zag x1.num).map (.int .u32)),.bool (O.Zaa (x1.den:Int)),.vec f2 1 ((O.Zag (x1.den:Int)).map (.int .u32)),.bool (O.Zaa y1.num),.vec f3 1 ((O.Zag y1.num).map (.int .u32)),.bool (O.Zaa (y1.den:Int)),.vec f4 1 ((O.Zag (y1.den:Int)).map (.int .u32))]),(1,.agg [.bool (O.Zaa x2.num),.vec f5 1 ((O.Zag x2.num).map (.int .u32)),.bool (O.Zaa (x2.den:Int)),.vec f6 1 ((O.Zag (x2.den:Int)).map (.int .u32)),.bool (O.Zaa y2.num),.vec f7 1 ((O.Zag y2.num).map (.int .u32)),.bool (O.Zaa (y2.den:Int)),.vec f8 1 ((O.Zag (y2.den:Int)).map (.int .u32))])] []) Q
def qCross_at (f1 f2 f3 f4 f5 f6 f7 f8:Bool) (x1 y1 x2 y2:Rat) (Q:AV->Heap->Prop):Prop:=Wp M1 (.run fi94 (atC (cd Try.f94) []) [(0,.agg [.bool (O.Zaa x1.num),.vec f1 1 ((O.Zag x1.num).map (.int .u32)),.bool (O.Zaa (x1.den:Int)),.vec f2 1 ((O.Zag (x1.den:Int)).map (.int .u32)),.bool (O.Zaa y1.num),.vec f3 1 ((O.Zag y1.num).map (.int .u32)),.bool (O.Zaa (y1.den:Int)),.vec f4 1 ((O.Zag (y1.den:Int)).map (.int .u32))]),(1,.agg [.bool (O.Zaa x2.num),.vec f5 1 ((O.Zag x2.num).map (.int .u32)),.bool (O.Zaa (x2.den:Int)),.vec f6 1 ((O.Zag (x2.den:Int)).map (.int .u32)),.bool (O.Zaa y2.num),.vec f7 1 ((O.Zag y2.num).map (.int .u32)),.bool (O.Zaa (y2.den:Int)),.vec f8 1 ((O.Zag (y2.den:Int)).map (.int .u32))])] []) Q
theorem call93 {args:List AV} {d:AV} (h:wc M1 fi93 Try.f93 args d):Ev M1 (.pure 93 args) d []:=pcl _ _ (by kernel_rfl) h
theorem call94 {args:List AV} {d:AV} (h:wc M1 fi94 Try.f94 args d):Ev M1 (.pure 94 args) d []:=pcl _ _ (by kernel_rfl) h
theorem call95 {args:List AV} {d:AV} (h:wc M1 fi95 Try.f95 args d):Ev M1 (.pure 95 args) d []:=pcl _ _ (by kernel_rfl) h
theorem qWay (f1 f2 f3 f4 f5 f6 f7 f8:Bool) (x1 y1 x2 y2:Rat)  (dq:AV) (H :
  (O.okR x2/\O.okR x1) /\
  (O.okR y2/\O.okR y1) /\
  Weak (ag [vb (O.Zaa (x2-x1).num),vf (us (O.Zag (x2-x1).num)),vb (O.Zaa (↑(x2-x1).den:Int)),vf (us (O.Zag (↑(x2-x1).den:Int))),vb (O.Zaa (y2-y1).num),vf (us (O.Zag (y2-y1).num)),vb (O.Zaa (↑(y2-y1).den:Int)),vf (us (O.Zag (↑(y2-y1).den:Int)))]) dq) :
 qWay_at f1 f2 f3 f4 f5 f6 f7 f8 x1 y1 x2 y2 (Zaf dq):=by
 unfold qWay_at
 obtain ⟨k1,k2,H⟩:=H
 exact Zao (G:=Zad kp93 [(1,4,.call (ratF (x2-x1)) none),(1,9,.call (ratF (y2-y1)) none)] []) 1000 [] (ag [vb (O.Zaa (x2-x1).num),vf (us (O.Zag (x2-x1).num)),vb (O.Zaa (↑(x2-x1).den:Int)),vf (us (O.Zag (↑(x2-x1).den:Int))),vb (O.Zaa (y2-y1).num),vf (us (O.Zag (y2-y1).num)),vb (O.Zaa (↑(y2-y1).den:Int)),vf (us (O.Zag (↑(y2-y1).den:Int)))]) (by kernel_rfl) (bc rfl (bc rfl (bc rfl (bc rfl (bc rfl b0))))) q0 (ce (@ev102 f5 f6 f1 f2 x2 x1 k1) (ce (@ev102 f7 f8 f3 f4 y2 y1 k2) c0)) H
theorem qDot (f1 f2 f3 f4 f5 f6 f7 f8:Bool) (x1 y1 x2 y2:Rat)  (dq:AV) (H :
  (O.okR x1/\O.okR x2) /\
  (O.okR y1/\O.okR y2) /\
  (O.okR (x1*x2)/\O.okR (y1*y2)) /\
  Weak (ratF (x1*x2+y1*y2)) dq) :
 qDot_at f1 f2 f3 f4 f5 f6 f7 f8 x1 y1 x2 y2 (Zaf dq):=by
 unfold qDot_at
 obtain ⟨k1,k2,k3,H⟩:=H
 exact Zao (G:=Zad kp95 [(1,4,.call (ratF (x1*x2)) none),(1,9,.call (ratF (y1*y2)) none),(1,10,.call (ratF (x1*x2+y1*y2)) none)] []) 1000 [] (ratF (x1*x2+y1*y2)) (by kernel_rfl) (bc rfl (bc rfl (bc rfl (bc rfl (bc rfl b0))))) q0 (ce (@ev97 f1 f2 f5 f6 x1 x2 k1) (ce (@ev97 f3 f4 f7 f8 y1 y2 k2) (ce (@ev103 false false false false (x1*x2) (y1*y2) k3) c0))) H
theorem qCross (f1 f2 f3 f4 f5 f6 f7 f8:Bool) (x1 y1 x2 y2:Rat)  (dq:AV) (H :
  (O.okR x1/\O.okR y2) /\
  (O.okR y1/\O.okR x2) /\
  (O.okR (x1*y2)/\O.okR (y1*x2)) /\
  Weak (ratF (x1*y2-y1*x2)) dq) :
 qCross_at f1 f2 f3 f4 f5 f6 f7 f8 x1 y1 x2 y2 (Zaf dq):=by
 unfold qCross_at
 obtain ⟨k1,k2,k3,H⟩:=H
 exact Zao (G:=Zad kp94 [(1,4,.call (ratF (x1*y2)) none),(1,9,.call (ratF (y1*x2)) none),(1,10,.call (ratF (x1*y2-y1*x2)) none)] []) 1000 [] (ratF (x1*y2-y1*x2)) (by kernel_rfl) (bc rfl (bc rfl (bc rfl (bc rfl (bc rfl b0))))) q0 (ce (@ev97 f1 f2 f7 f8 x1 y2 k1) (ce (@ev97 f3 f4 f5 f6 y1 x2 k2) (ce (@ev102 false false false false (x1*y2) (y1*x2) k3) c0))) H
end Go.Av

namespace Go.Av
open Go.Proofs
namespace O
def okW (x1 y1 x2 y2:Rat):Prop:=(okT 100 x1/\okT 100 y1)/\okT 100 x2/\okT 100 y2
def okD (x1 y1 x2 y2:Rat):Prop:=(okT 1000 x1/\okT 1000 y1)/\okT 1000 x2/\okT 1000 y2
end O
theorem ev93 (f1 f2 f3 f4 f5 f6 f7 f8:Bool) (x1 y1 x2 y2:Rat) (h:O.okW x1 y1 x2 y2):Ev M1 (.pure 93 [vecA f1 f2 f3 f4 x1 y1,vecA f5 f6 f7 f8 x2 y2]) (vecA false false false false (x2-x1) (y2-y1)) []:=by
 obtain ⟨⟨h1,h2⟩,h3,h4⟩:=h
 exact call93 (qWay _ _ _ _ _ _ _ _ _ _ _ _ _ ⟨⟨Zb4 h3 (by omega),Zb4 h1 (by omega)⟩,⟨Zb4 h4 (by omega),Zb4 h2 (by omega)⟩,.refl _⟩)
theorem ev95 (f1 f2 f3 f4 f5 f6 f7 f8:Bool) (x1 y1 x2 y2:Rat) (h:O.okD x1 y1 x2 y2):Ev M1 (.pure 95 [vecA f1 f2 f3 f4 x1 y1,vecA f5 f6 f7 f8 x2 y2]) (ratF (x1*x2+y1*y2)) []:=by
 obtain ⟨⟨h1,h2⟩,h3,h4⟩:=h
 exact call95 (qDot _ _ _ _ _ _ _ _ _ _ _ _ _ ⟨⟨Zb4 h1 (by omega),Zb4 h3 (by omega)⟩,⟨Zb4 h2 (by omega),Zb4 h4 (by omega)⟩,⟨Zb4 (Zcj h1 h3) (by omega),Zb4 (Zcj h2 h4) (by omega)⟩,.refl _⟩)
theorem ev94 (f1 f2 f3 f4 f5 f6 f7 f8:Bool) (x1 y1 x2 y2:Rat) (h:O.okD x1 y1 x2 y2):Ev M1 (.pure 94 [vecA f1 f2 f3 f4 x1 y1,vecA f5 f6 f7 f8 x2 y2]) (ratF (x1*y2-y1*x2)) []:=by
 obtain ⟨⟨h1,h2⟩,h3,h4⟩:=h
 exact call94 (qCross _ _ _ _ _ _ _ _ _ _ _ _ _ ⟨⟨Zb4 h1 (by omega),Zb4 h4 (by omega)⟩,⟨Zb4 h2 (by omega),Zb4 h3 (by omega)⟩,⟨Zb4 (Zcj h1 h4) (by omega),Zb4 (Zcj h2 h3) (by omega)⟩,.refl _⟩)
end Go.Av

namespace Go.Av
open Go.Proofs
set_option maxRecDepth 100000
def fi81:Fi:=⟨47,[.tmp 8]⟩
def kp81:List (Nat × List Nat):=[(0,[4,5,6,7]),(1,[4,5,6,7,9,10]),(2,[8])]
def fi82:Fi:=⟨51,[.cell 6 110]⟩
def kp82:List (Nat × List Nat):=[(0,[3,4,5,6]),(1,[4,5,6,7,8]),(2,[4,5,6,7,8,9,10]),(3,[4,5,6,7,8,9,10,25]),(4,[6]),(5,[4,5,6,7,8,9,32]),(6,[6,11]),(7,[6]),(8,[6,9,12]),(9,[6])]
def qToS_at (f1 f2 f3 f4 f5 f6 f7 f8 f9 f10 f11 f12:Bool) (x1 y1 x2 y2 x3 y3:Rat) (Q:AV->Heap->Prop):Prop:=Wp M1 (.run fi82 (atC (cd Try.f82) []) [(0,.agg [.bool (O.Zaa x1.num),.vec f1 1 ((O.Zag x1.num).map (.int .u32)),.bool (O.Zaa (x1.den:Int)),.vec f2 1 ((O.Zag (x1.den:Int)).map (.int .u32)),.bool (O.Zaa y1.num),.vec f3 1 ((O.Zag y1.num).map (.int .u32)),.bool (O.Zaa (y1.den:Int)),.vec f4 1 ((O.Zag (y1.den:Int)).map (.int .u32))]),(1,.agg [.bool (O.Zaa x2.num),.vec f5 1 ((O.Zag x2.num).map (.int .u32)),.bool (O.Zaa (x2.den:Int)),.vec f6 1 ((O.Zag (x2.den:Int)).map (.int .u32)),.bool (O.Zaa y2.num),.vec f7 1 ((O.Zag y2.num).map (.int .u32)),.bool (O.Zaa (y2.den:Int)),.vec f8 1 ((O.Zag (y2.den:Int)).map (.int .u32))]),(2,.agg [.bool (O.Zaa x3.num),.vec f9 1 ((O.Zag x3.num).map (.int .u32)),.bool (O.Zaa (x3.den:Int)),.vec f10 1 ((O.Zag (x3.den:Int)).map (.int .u32)),.bool (O.Zaa y3.num),.vec f11 1 ((O.Zag y3.num).map (.int .u32)),.bool (O.Zaa (y3.den:Int)),.vec f12 1 ((O.Zag (y3.den:Int)).map (.int .u32))])] []) Q
def qCrs_at (f1 f2 f3 f4 f5 f6 f7 f8 f9 f10 f11 f12 f13 f14 f15 f16:Bool) (x1 y1 x2 y2 x3 y3 x4 y4:Rat) (Q:AV->Heap->Prop):Prop:=Wp M1 (.run fi81 (atC (cd Try.f81) []) [(0,.agg [.bool (O.Zaa x1.num),.vec f1 1 ((O.Zag x1.num).map (.int .u32)),.bool (O.Zaa (x1.den:Int)),.vec f2 1 ((O.Zag (x1.den:Int)).map (.int .u32)),.bool (O.Zaa y1.num),.vec f3 1 ((O.Zag y1.num).map (.int .u32)),.bool (O.Zaa (y1.den:Int)),.vec f4 1 ((O.Zag (y1.den:Int)).map (.int .u32))]),(1,.agg [.bool (O.Zaa x2.num),.vec f5 1 ((O.Zag x2.num).map (.int .u32)),.bool (O.Zaa (x2.den:Int)),.vec f6 1 ((O.Zag (x2.den:Int)).map (.int .u32)),.bool (O.Zaa y2.num),.vec f7 1 ((O.Zag y2.num).map (.int .u32)),.bool (O.Zaa (y2.den:Int)),.vec f8 1 ((O.Zag (y2.den:Int)).map (.int .u32))]),(2,.agg [.bool (O.Zaa x3.num),.vec f9 1 ((O.Zag x3.num).map (.int .u32)),.bool (O.Zaa (x3.den:Int)),.vec f10 1 ((O.Zag (x3.den:Int)).map (.int .u32)),.bool (O.Zaa y3.num),.vec f11 1 ((O.Zag y3.num).map (.int .u32)),.bool (O.Zaa (y3.den:Int)),.vec f12 1 ((O.Zag (y3.den:Int)).map (.int .u32))]),(3,.agg [.bool (O.Zaa x4.num),.vec f13 1 ((O.Zag x4.num).map (.int .u32)),.bool (O.Zaa (x4.den:Int)),.vec f14 1 ((O.Zag (x4.den:Int)).map (.int .u32)),.bool (O.Zaa y4.num),.vec f15 1 ((O.Zag y4.num).map (.int .u32)),.bool (O.Zaa (y4.den:Int)),.vec f16 1 ((O.Zag (y4.den:Int)).map (.int .u32))])] []) Q
theorem call81 {args:List AV} {d:AV} (h:wc M1 fi81 Try.f81 args d):Ev M1 (.pure 81 args) d []:=pcl _ _ (by kernel_rfl) h
theorem call82 {args:List AV} {d:AV} (h:wc M1 fi82 Try.f82 args d):Ev M1 (.pure 82 args) d []:=pcl _ _ (by kernel_rfl) h
noncomputable abbrev Zfa (x2:Rat) (x1:Rat) (y2:Rat) (y1:Rat):=ag [vb (O.Zaa (x2-x1).num),vf (us (O.Zag (x2-x1).num)),vb (O.Zaa (↑(x2-x1).den:Int)),vf (us (O.Zag (↑(x2-x1).den:Int))),vb (O.Zaa (y2-y1).num),vf (us (O.Zag (y2-y1).num)),vb (O.Zaa (↑(y2-y1).den:Int)),vf (us (O.Zag (↑(y2-y1).den:Int)))]
noncomputable abbrev zNqM2 (x3:Rat) (x1:Rat) (y3:Rat) (y1:Rat):=ag [vb (O.Zaa (x3-x1).num),vf (us (O.Zag (x3-x1).num)),vb (O.Zaa (↑(x3-x1).den:Int)),vf (us (O.Zag (↑(x3-x1).den:Int))),vb (O.Zaa (y3-y1).num),vf (us (O.Zag (y3-y1).num)),vb (O.Zaa (↑(y3-y1).den:Int)),vf (us (O.Zag (↑(y3-y1).den:Int)))]
noncomputable abbrev zNqM3 (x1:Rat) (f1:Bool) (f2:Bool) (y1:Rat) (f3:Bool) (f4:Bool):=ag [vb (O.Zaa x1.num),AV.vec f1 1 (us (O.Zag x1.num)),vb (O.Zaa (↑x1.den:Int)),AV.vec f2 1 (us (O.Zag (↑x1.den:Int))),vb (O.Zaa y1.num),AV.vec f3 1 (us (O.Zag y1.num)),vb (O.Zaa (↑y1.den:Int)),AV.vec f4 1 (us (O.Zag (↑y1.den:Int)))]
noncomputable abbrev zNqM4 (x2:Rat) (f5:Bool) (f6:Bool) (y2:Rat) (f7:Bool) (f8:Bool):=ag [vb (O.Zaa x2.num),AV.vec f5 1 (us (O.Zag x2.num)),vb (O.Zaa (↑x2.den:Int)),AV.vec f6 1 (us (O.Zag (↑x2.den:Int))),vb (O.Zaa y2.num),AV.vec f7 1 (us (O.Zag y2.num)),vb (O.Zaa (↑y2.den:Int)),AV.vec f8 1 (us (O.Zag (↑y2.den:Int)))]
noncomputable abbrev zNqM5 (x3:Rat) (f9:Bool) (f10:Bool) (y3:Rat) (f11:Bool) (f12:Bool):=ag [vb (O.Zaa x3.num),AV.vec f9 1 (us (O.Zag x3.num)),vb (O.Zaa (↑x3.den:Int)),AV.vec f10 1 (us (O.Zag (↑x3.den:Int))),vb (O.Zaa y3.num),AV.vec f11 1 (us (O.Zag y3.num)),vb (O.Zaa (↑y3.den:Int)),AV.vec f12 1 (us (O.Zag (↑y3.den:Int)))]
noncomputable abbrev zNqM6:=ag [vb false,AV.vnil,vb false,AV.vnil]
noncomputable abbrev zNqM7 (x2:Rat) (x1:Rat) (x3:Rat) (y2:Rat) (y1:Rat) (y3:Rat):=O.sgnI (((x2-x1)*(x3-x1)+(y2-y1)*(y3-y1)).num*(↑((x2-x1)*(x2-x1)+(y2-y1)*(y2-y1)).den:Int)-((x2-x1)*(x2-x1)+(y2-y1)*(y2-y1)).num*(↑((x2-x1)*(x3-x1)+(y2-y1)*(y3-y1)).den:Int))>=0
theorem qToS (f1 f2 f3 f4 f5 f6 f7 f8 f9 f10 f11 f12:Bool) (x1 y1 x2 y2 x3 y3:Rat)  (dq:AV) (H :
  (O.okW x1 y1 x2 y2) /\
  (O.okW x1 y1 x3 y3) /\
  (O.okD (x2-x1) (y2-y1) (x2-x1) (y2-y1)) /\
  (O.okD (x2-x1) (y2-y1) (x3-x1) (y3-y1)) /\
  ((O.sgnI ((x2-x1)*(x3-x1)+(y2-y1)*(y3-y1)).num<=0)->(O.okD (x3-x1) (y3-y1) (x3-x1) (y3-y1)) /\
   Weak (ratF ((x3-x1)*(x3-x1)+(y3-y1)*(y3-y1))) dq) /\
  (¬(O.sgnI ((x2-x1)*(x3-x1)+(y2-y1)*(y3-y1)).num<=0)->(O.okR ((x2-x1)*(x3-x1)+(y2-y1)*(y3-y1))/\O.okR ((x2-x1)*(x2-x1)+(y2-y1)*(y2-y1))) /\
   ((O.sgnI (((x2-x1)*(x3-x1)+(y2-y1)*(y3-y1)).num*(↑((x2-x1)*(x2-x1)+(y2-y1)*(y2-y1)).den:Int)-((x2-x1)*(x2-x1)+(y2-y1)*(y2-y1)).num*(↑((x2-x1)*(x3-x1)+(y2-y1)*(y3-y1)).den:Int))>=0)->(O.okW x2 y2 x3 y3) /\
    (O.okD (x3-x2) (y3-y2) (x3-x2) (y3-y2)) /\
    Weak (ratF ((x3-x2)*(x3-x2)+(y3-y2)*(y3-y2))) dq) /\
   (¬(O.sgnI (((x2-x1)*(x3-x1)+(y2-y1)*(y3-y1)).num*(↑((x2-x1)*(x2-x1)+(y2-y1)*(y2-y1)).den:Int)-((x2-x1)*(x2-x1)+(y2-y1)*(y2-y1)).num*(↑((x2-x1)*(x3-x1)+(y2-y1)*(y3-y1)).den:Int))>=0)->(O.okR ((x2-x1)*(y3-y1)-(y2-y1)*(x3-x1))/\O.okR ((x2-x1)*(y3-y1)-(y2-y1)*(x3-x1))) /\
    (O.okR (((x2-x1)*(y3-y1)-(y2-y1)*(x3-x1))*((x2-x1)*(y3-y1)-(y2-y1)*(x3-x1)))/\O.okR ((x2-x1)*(x2-x1)+(y2-y1)*(y2-y1))/\((x2-x1)*(x2-x1)+(y2-y1)*(y2-y1)).num ≠ 0) /\
    Weak (ratF (((x2-x1)*(y3-y1)-(y2-y1)*(x3-x1))*((x2-x1)*(y3-y1)-(y2-y1)*(x3-x1)) / ((x2-x1)*(x2-x1)+(y2-y1)*(y2-y1)))) dq))) :
 qToS_at f1 f2 f3 f4 f5 f6 f7 f8 f9 f10 f11 f12 x1 y1 x2 y2 x3 y3 (Zaf dq):=by
 unfold qToS_at
 obtain ⟨k1,k2,H⟩:=H
 refine Zac (G:=Zad kp82 [(1,2,.call ((Zfa x2 x1 y2 y1)) none),(1,5,.call ((zNqM2 x3 x1 y3 y1)) none)] []) 3 [] ⟨(atC (cd Try.f82) [1,0]),[(3,AV.ptr 0 0 0 0),(4,AV.ptr 1 0 0 0),(5,AV.ptr 2 0 0 0),(6,AV.ptr 3 0 0 0)],[⟨[(zNqM3 x1 f1 f2 y1 f3 f4)],8,0,false,false⟩,⟨[(zNqM4 x2 f5 f6 y2 f7 f8)],8,0,false,false⟩,⟨[(zNqM5 x3 f9 f10 y3 f11 f12)],8,0,false,false⟩,⟨[zNqM6],4,0,false,false⟩],_,[],_⟩ (by kernel_rfl) b0 q0 c0 (ZcR (G:=Zad kp82 [(1,2,.call ((Zfa x2 x1 y2 y1)) none),(1,5,.call ((zNqM2 x3 x1 y3 y1)) none)] []) [0,1,2,3,5,4] 6 (e1:=[(4,AV.ptr 1 0 0 0),(5,AV.ptr 2 0 0 0),(6,AV.ptr 3 0 0 0),(7,AV.ptr 4 0 0 0),(8,AV.ptr 5 0 0 0)]) (L1:=[⟨[(zNqM3 x1 f1 f2 y1 f3 f4)],8,0,false,false⟩,⟨[(zNqM4 x2 f5 f6 y2 f7 f8)],8,0,false,false⟩,⟨[(zNqM5 x3 f9 f10 y3 f11 f12)],8,0,false,false⟩,⟨[zNqM6],4,0,false,false⟩,⟨[(Zfa x2 x1 y2 y1)],8,0,false,false⟩,⟨[(zNqM2 x3 x1 y3 y1)],8,0,false,false⟩]) (a:=[true,true,true,true,true,true]) (q:=[]) (cs:=[⟨true,false,93,[(zNqM3 x1 f1 f2 y1 f3 f4),(zNqM4 x2 f5 f6 y2 f7 f8)],[],(Zfa x2 x1 y2 y1),[]⟩,⟨true,false,93,[(zNqM3 x1 f1 f2 y1 f3 f4),(zNqM5 x3 f9 f10 y3 f11 f12)],[],(zNqM2 x3 x1 y3 y1),[]⟩]) (by kernel_rfl) (by kernel_rfl) (Zae rfl (Zae rfl (Zae rfl (Zae rfl (Zae rfl (Zae rfl Zaw)))))) ZaK (ZaN (fun _=>(@ev93 f1 f2 f3 f4 f5 f6 f7 f8 x1 y1 x2 y2 k1)) (ZaN (fun _=>(@ev93 f1 f2 f3 f4 f9 f10 f11 f12 x1 y1 x3 y3 k2)) ZaL)) ?_)
 obtain ⟨k3,k4,H⟩:=H
 refine Zac (G:=Zad kp82 [(2,2,.call (ratF ((x2-x1)*(x2-x1)+(y2-y1)*(y2-y1))) none),(2,5,.call (ratF ((x2-x1)*(x3-x1)+(y2-y1)*(y3-y1))) none)] []) 1 [] ⟨(atC (cd Try.f82) [1,1,0]),[(4,AV.ptr 1 0 0 0),(5,AV.ptr 2 0 0 0),(6,AV.ptr 3 0 0 0),(7,AV.ptr 4 0 0 0),(8,AV.ptr 5 0 0 0)],[⟨[(zNqM3 x1 f1 f2 y1 f3 f4)],8,0,false,false⟩,⟨[(zNqM4 x2 f5 f6 y2 f7 f8)],8,0,false,false⟩,⟨[(zNqM5 x3 f9 f10 y3 f11 f12)],8,0,false,false⟩,⟨[zNqM6],4,0,false,false⟩,⟨[(Zfa x2 x1 y2 y1)],8,0,false,false⟩,⟨[(zNqM2 x3 x1 y3 y1)],8,0,false,false⟩],_,[],_⟩ (by kernel_rfl) b0 q0 c0 (ZcR (G:=Zad kp82 [(2,2,.call (ratF ((x2-x1)*(x2-x1)+(y2-y1)*(y2-y1))) none),(2,5,.call (ratF ((x2-x1)*(x3-x1)+(y2-y1)*(y3-y1))) none)] []) [0,1,2,3,4,5,7,6] 6 (e1:=[(4,AV.ptr 1 0 0 0),(5,AV.ptr 2 0 0 0),(6,AV.ptr 3 0 0 0),(7,AV.ptr 4 0 0 0),(8,AV.ptr 5 0 0 0),(9,AV.ptr 6 0 0 0),(10,AV.ptr 7 0 0 0)]) (L1:=[⟨[(zNqM3 x1 f1 f2 y1 f3 f4)],8,0,false,false⟩,⟨[(zNqM4 x2 f5 f6 y2 f7 f8)],8,0,false,false⟩,⟨[(zNqM5 x3 f9 f10 y3 f11 f12)],8,0,false,false⟩,⟨[zNqM6],4,0,false,false⟩,⟨[(Zfa x2 x1 y2 y1)],8,0,false,false⟩,⟨[(zNqM2 x3 x1 y3 y1)],8,0,false,false⟩,⟨[ratF ((x2-x1)*(x2-x1)+(y2-y1)*(y2-y1))],4,0,false,false⟩,⟨[ratF ((x2-x1)*(x3-x1)+(y2-y1)*(y3-y1))],4,0,false,false⟩]) (a:=[true,true,true,true,true,true]) (q:=[]) (cs:=[⟨true,false,95,[(Zfa x2 x1 y2 y1),(Zfa x2 x1 y2 y1)],[],ratF ((x2-x1)*(x2-x1)+(y2-y1)*(y2-y1)),[]⟩,⟨true,false,95,[(Zfa x2 x1 y2 y1),(zNqM2 x3 x1 y3 y1)],[],ratF ((x2-x1)*(x3-x1)+(y2-y1)*(y3-y1)),[]⟩]) (by kernel_rfl) (by kernel_rfl) (Zae rfl (Zae rfl (Zae rfl (Zae rfl (Zae rfl (Zae rfl Zaw)))))) ZaK (ZaN (fun _=>(@ev95 false false false false false false false false (x2-x1) (y2-y1) (x2-x1) (y2-y1) k3)) (ZaN (fun _=>(@ev95 false false false false false false false false (x2-x1) (y2-y1) (x3-x1) (y3-y1) k4)) ZaL)) ?_)
 refine Zac (G:=Zad kp82 [(3,1,.call (vi (O.sgnI ((x2-x1)*(x3-x1)+(y2-y1)*(y3-y1)).num)) none)] []) 4 [] ⟨(atC (cd Try.f82) [1,1,1,0,0,1]),[(4,AV.ptr 1 0 0 0),(5,AV.ptr 2 0 0 0),(6,AV.ptr 3 0 0 0),(7,AV.ptr 4 0 0 0),(8,AV.ptr 5 0 0 0),(9,AV.ptr 6 0 0 0),(10,AV.ptr 7 0 0 0),(25,vb (decide (O.sgnI ((x2-x1)*(x3-x1)+(y2-y1)*(y3-y1)).num<=0)))],[⟨[(zNqM3 x1 f1 f2 y1 f3 f4)],8,0,false,false⟩,⟨[(zNqM4 x2 f5 f6 y2 f7 f8)],8,0,false,false⟩,⟨[(zNqM5 x3 f9 f10 y3 f11 f12)],8,0,false,false⟩,⟨[zNqM6],4,0,false,false⟩,⟨[(Zfa x2 x1 y2 y1)],8,0,false,false⟩,⟨[(zNqM2 x3 x1 y3 y1)],8,0,false,false⟩,⟨[ratF ((x2-x1)*(x2-x1)+(y2-y1)*(y2-y1))],4,0,false,false⟩,⟨[ratF ((x2-x1)*(x3-x1)+(y2-y1)*(y3-y1))],4,0,false,false⟩],_,[],_⟩ (by kernel_rfl) (bc rfl b0) q0 (ce (@ev79 false false (((x2-x1)*(x3-x1)+(y2-y1)*(y3-y1)).num) ((↑((x2-x1)*(x3-x1)+(y2-y1)*(y3-y1)).den:Int))) c0) ?_
 rcases xq H with ⟨d6,H⟩|⟨d6,H⟩
 ·obtain ⟨k7,H⟩:=H
  exact Zao (G:=Zad kp82 [(4,2,.call (ratF ((x3-x1)*(x3-x1)+(y3-y1)*(y3-y1))) none)] []) 1000 [true] (ratF ((x3-x1)*(x3-x1)+(y3-y1)*(y3-y1))) (by kernel_rfl) (bc (Zal (Zab.2 d6)) (bc rfl (bc rfl (bc rfl b0)))) q0 (ce (@ev95 false false false false false false false false (x3-x1) (y3-y1) (x3-x1) (y3-y1) k7) c0) H
 ·obtain ⟨k8,H⟩:=H
  refine Zac (G:=Zad kp82 [(5,2,.call (vi (O.sgnI (((x2-x1)*(x3-x1)+(y2-y1)*(y3-y1)).num*(↑((x2-x1)*(x2-x1)+(y2-y1)*(y2-y1)).den:Int)-((x2-x1)*(x2-x1)+(y2-y1)*(y2-y1)).num*(↑((x2-x1)*(x3-x1)+(y2-y1)*(y3-y1)).den:Int)))) none)] []) 3 [false] ⟨(atC (cd Try.f82) [1,1,1,0,0,1,1,1]),[(4,AV.ptr 1 0 0 0),(5,AV.ptr 2 0 0 0),(6,AV.ptr 3 0 0 0),(7,AV.ptr 4 0 0 0),(8,AV.ptr 5 0 0 0),(9,AV.ptr 6 0 0 0),(32,vb (decide (zNqM7 x2 x1 x3 y2 y1 y3)))],[⟨[(zNqM3 x1 f1 f2 y1 f3 f4)],8,0,false,false⟩,⟨[(zNqM4 x2 f5 f6 y2 f7 f8)],8,0,false,false⟩,⟨[(zNqM5 x3 f9 f10 y3 f11 f12)],8,0,false,false⟩,⟨[zNqM6],4,0,false,false⟩,⟨[(Zfa x2 x1 y2 y1)],8,0,false,false⟩,⟨[(zNqM2 x3 x1 y3 y1)],8,0,false,false⟩,⟨[ratF ((x2-x1)*(x2-x1)+(y2-y1)*(y2-y1))],4,0,false,false⟩,⟨[ratF ((x2-x1)*(x3-x1)+(y2-y1)*(y3-y1))],4,0,false,false⟩],_,[],_⟩ (by kernel_rfl) (bc (Zak (fun h=>d6 (Zab.1 h))) (bc rfl (bc rfl b0))) q0 (ce (@ev72 false false false false ((x2-x1)*(x3-x1)+(y2-y1)*(y3-y1)) ((x2-x1)*(x2-x1)+(y2-y1)*(y2-y1)) k8) c0) ?_
  rcases xq H with ⟨d10,H⟩|⟨d10,H⟩
  ·obtain ⟨k11,k12,H⟩:=H
   exact Zao (G:=Zad kp82 [(6,2,.call (ag [vb (O.Zaa (x3-x2).num),vf (us (O.Zag (x3-x2).num)),vb (O.Zaa (↑(x3-x2).den:Int)),vf (us (O.Zag (↑(x3-x2).den:Int))),vb (O.Zaa (y3-y2).num),vf (us (O.Zag (y3-y2).num)),vb (O.Zaa (↑(y3-y2).den:Int)),vf (us (O.Zag (↑(y3-y2).den:Int)))]) none),(7,2,.call (ratF ((x3-x2)*(x3-x2)+(y3-y2)*(y3-y2))) none)] []) 1000 [true] (ratF ((x3-x2)*(x3-x2)+(y3-y2)*(y3-y2))) (by kernel_rfl) (bc (Zal (Zab.2 d10)) (bc rfl (bc rfl (bc rfl (bc rfl (bc rfl (bc rfl b0))))))) q0 (ce (@ev93 f5 f6 f7 f8 f9 f10 f11 f12 x2 y2 x3 y3 k11) (ce (@ev95 false false false false false false false false (x3-x2) (y3-y2) (x3-x2) (y3-y2) k12) c0)) H
  ·obtain ⟨k13,k14,H⟩:=H
   exact Zao (G:=Zad kp82 [(8,2,.call (ratF ((x2-x1)*(y3-y1)-(y2-y1)*(x3-x1))) none),(9,2,.call (ratF (((x2-x1)*(y3-y1)-(y2-y1)*(x3-x1))*((x2-x1)*(y3-y1)-(y2-y1)*(x3-x1)))) none),(9,4,.call (ratF (((x2-x1)*(y3-y1)-(y2-y1)*(x3-x1))*((x2-x1)*(y3-y1)-(y2-y1)*(x3-x1)) / ((x2-x1)*(x2-x1)+(y2-y1)*(y2-y1)))) none)] []) 1000 [false] (ratF (((x2-x1)*(y3-y1)-(y2-y1)*(x3-x1))*((x2-x1)*(y3-y1)-(y2-y1)*(x3-x1)) / ((x2-x1)*(x2-x1)+(y2-y1)*(y2-y1)))) (by kernel_rfl) (bc (Zak (fun h=>d10 (Zab.1 h))) (bc rfl (bc rfl (bc rfl (bc rfl (bc rfl (bc rfl (bc rfl b0)))))))) q0 (ce (@ev94 false false false false false false false false (x2-x1) (y2-y1) (x3-x1) (y3-y1) k4) (ce (@ev97 false false false false ((x2-x1)*(y3-y1)-(y2-y1)*(x3-x1)) ((x2-x1)*(y3-y1)-(y2-y1)*(x3-x1)) k13) (ce (@ev96 false false false false (((x2-x1)*(y3-y1)-(y2-y1)*(x3-x1))*((x2-x1)*(y3-y1)-(y2-y1)*(x3-x1))) ((x2-x1)*(x2-x1)+(y2-y1)*(y2-y1)) k14) c0))) H
noncomputable abbrev zNqM8 (x4:Rat) (x3:Rat) (y4:Rat) (y3:Rat):=ag [vb (O.Zaa (x4-x3).num),vf (us (O.Zag (x4-x3).num)),vb (O.Zaa (↑(x4-x3).den:Int)),vf (us (O.Zag (↑(x4-x3).den:Int))),vb (O.Zaa (y4-y3).num),vf (us (O.Zag (y4-y3).num)),vb (O.Zaa (↑(y4-y3).den:Int)),vf (us (O.Zag (↑(y4-y3).den:Int)))]
noncomputable abbrev zNqM9 (x3:Rat) (f9:Bool) (f10:Bool) (y3:Rat) (f11:Bool) (f12:Bool):=ag [vb (O.Zaa x3.num),AV.vec f9 1 (us (O.Zag x3.num)),vb (O.Zaa (↑x3.den:Int)),AV.vec f10 1 (us (O.Zag (↑x3.den:Int))),vb (O.Zaa y3.num),AV.vec f11 1 (us (O.Zag y3.num)),vb (O.Zaa (↑y3.den:Int)),AV.vec f12 1 (us (O.Zag (↑y3.den:Int)))]
noncomputable abbrev Zgr (x2:Rat) (x1:Rat) (y2:Rat) (y1:Rat):=ag [vb (O.Zaa (x2-x1).num),vf (us (O.Zag (x2-x1).num)),vb (O.Zaa (↑(x2-x1).den:Int)),vf (us (O.Zag (↑(x2-x1).den:Int))),vb (O.Zaa (y2-y1).num),vf (us (O.Zag (y2-y1).num)),vb (O.Zaa (↑(y2-y1).den:Int)),vf (us (O.Zag (↑(y2-y1).den:Int)))]
noncomputable abbrev Ze9 (x1:Rat) (f1:Bool) (f2:Bool) (y1:Rat) (f3:Bool) (f4:Bool):=ag [vb (O.Zaa x1.num),AV.vec f1 1 (us (O.Zag x1.num)),vb (O.Zaa (↑x1.den:Int)),AV.vec f2 1 (us (O.Zag (↑x1.den:Int))),vb (O.Zaa y1.num),AV.vec f3 1 (us (O.Zag y1.num)),vb (O.Zaa (↑y1.den:Int)),AV.vec f4 1 (us (O.Zag (↑y1.den:Int)))]
noncomputable abbrev zNqM12 (x1:Rat) (x3:Rat) (y1:Rat) (y3:Rat):=ag [vb (O.Zaa (x1-x3).num),vf (us (O.Zag (x1-x3).num)),vb (O.Zaa (↑(x1-x3).den:Int)),vf (us (O.Zag (↑(x1-x3).den:Int))),vb (O.Zaa (y1-y3).num),vf (us (O.Zag (y1-y3).num)),vb (O.Zaa (↑(y1-y3).den:Int)),vf (us (O.Zag (↑(y1-y3).den:Int)))]
noncomputable abbrev zNqM13 (x2:Rat) (x3:Rat) (y2:Rat) (y3:Rat):=ag [vb (O.Zaa (x2-x3).num),vf (us (O.Zag (x2-x3).num)),vb (O.Zaa (↑(x2-x3).den:Int)),vf (us (O.Zag (↑(x2-x3).den:Int))),vb (O.Zaa (y2-y3).num),vf (us (O.Zag (y2-y3).num)),vb (O.Zaa (↑(y2-y3).den:Int)),vf (us (O.Zag (↑(y2-y3).den:Int)))]
noncomputable abbrev zNqM14 (x2:Rat) (f5:Bool) (f6:Bool) (y2:Rat) (f7:Bool) (f8:Bool):=ag [vb (O.Zaa x2.num),AV.vec f5 1 (us (O.Zag x2.num)),vb (O.Zaa (↑x2.den:Int)),AV.vec f6 1 (us (O.Zag (↑x2.den:Int))),vb (O.Zaa y2.num),AV.vec f7 1 (us (O.Zag y2.num)),vb (O.Zaa (↑y2.den:Int)),AV.vec f8 1 (us (O.Zag (↑y2.den:Int)))]
noncomputable abbrev zNqM15 (x4:Rat) (f13:Bool) (f14:Bool) (y4:Rat) (f15:Bool) (f16:Bool):=ag [vb (O.Zaa x4.num),AV.vec f13 1 (us (O.Zag x4.num)),vb (O.Zaa (↑x4.den:Int)),AV.vec f14 1 (us (O.Zag (↑x4.den:Int))),vb (O.Zaa y4.num),AV.vec f15 1 (us (O.Zag y4.num)),vb (O.Zaa (↑y4.den:Int)),AV.vec f16 1 (us (O.Zag (↑y4.den:Int)))]
noncomputable abbrev zNqM16 (x3:Rat) (x1:Rat) (y3:Rat) (y1:Rat):=ag [vb (O.Zaa (x3-x1).num),vf (us (O.Zag (x3-x1).num)),vb (O.Zaa (↑(x3-x1).den:Int)),vf (us (O.Zag (↑(x3-x1).den:Int))),vb (O.Zaa (y3-y1).num),vf (us (O.Zag (y3-y1).num)),vb (O.Zaa (↑(y3-y1).den:Int)),vf (us (O.Zag (↑(y3-y1).den:Int)))]
noncomputable abbrev zNqM17 (x4:Rat) (x1:Rat) (y4:Rat) (y1:Rat):=ag [vb (O.Zaa (x4-x1).num),vf (us (O.Zag (x4-x1).num)),vb (O.Zaa (↑(x4-x1).den:Int)),vf (us (O.Zag (↑(x4-x1).den:Int))),vb (O.Zaa (y4-y1).num),vf (us (O.Zag (y4-y1).num)),vb (O.Zaa (↑(y4-y1).den:Int)),vf (us (O.Zag (↑(y4-y1).den:Int)))]
noncomputable abbrev Zgq (x2:Rat) (x1:Rat) (y3:Rat) (y1:Rat) (y2:Rat) (x3:Rat) (y4:Rat) (x4:Rat):=O.sgnI ((x2-x1)*(y3-y1)-(y2-y1)*(x3-x1)).num*O.sgnI ((x2-x1)*(y4-y1)-(y2-y1)*(x4-x1)).num<0
theorem qCrs (f1 f2 f3 f4 f5 f6 f7 f8 f9 f10 f11 f12 f13 f14 f15 f16:Bool) (x1 y1 x2 y2 x3 y3 x4 y4:Rat)  (dq:AV) (H :
  (O.okW x1 y1 x2 y2) /\
  (O.okW x3 y3 x4 y4) /\
  (O.okW x1 y1 x3 y3) /\
  (O.okD (x2-x1) (y2-y1) (x3-x1) (y3-y1)) /\
  (O.okW x1 y1 x4 y4) /\
  (O.okD (x2-x1) (y2-y1) (x4-x1) (y4-y1)) /\
  (-9223372036854775808<=O.sgnI ((x2-x1)*(y3-y1)-(y2-y1)*(x3-x1)).num*O.sgnI ((x2-x1)*(y4-y1)-(y2-y1)*(x4-x1)).num/\O.sgnI ((x2-x1)*(y3-y1)-(y2-y1)*(x3-x1)).num*O.sgnI ((x2-x1)*(y4-y1)-(y2-y1)*(x4-x1)).num<=9223372036854775807) /\
  ((O.sgnI ((x2-x1)*(y3-y1)-(y2-y1)*(x3-x1)).num*O.sgnI ((x2-x1)*(y4-y1)-(y2-y1)*(x4-x1)).num<0)->(O.okW x3 y3 x1 y1)) /\
  ((O.sgnI ((x2-x1)*(y3-y1)-(y2-y1)*(x3-x1)).num*O.sgnI ((x2-x1)*(y4-y1)-(y2-y1)*(x4-x1)).num<0)->(O.okD (x4-x3) (y4-y3) (x1-x3) (y1-y3))) /\
  ((O.sgnI ((x2-x1)*(y3-y1)-(y2-y1)*(x3-x1)).num*O.sgnI ((x2-x1)*(y4-y1)-(y2-y1)*(x4-x1)).num<0)->(O.okW x3 y3 x2 y2)) /\
  ((O.sgnI ((x2-x1)*(y3-y1)-(y2-y1)*(x3-x1)).num*O.sgnI ((x2-x1)*(y4-y1)-(y2-y1)*(x4-x1)).num<0)->(O.okD (x4-x3) (y4-y3) (x2-x3) (y2-y3))) /\
  vb (bif decide (O.sgnI ((x2-x1)*(y3-y1)-(y2-y1)*(x3-x1)).num*O.sgnI ((x2-x1)*(y4-y1)-(y2-y1)*(x4-x1)).num<0) then decide (IntKind.i64.wrap (O.sgnI ((x4-x3)*(y1-y3)-(y4-y3)*(x1-x3)).num*O.sgnI ((x4-x3)*(y2-y3)-(y4-y3)*(x2-x3)).num)<0) else false)=dq) :
 qCrs_at f1 f2 f3 f4 f5 f6 f7 f8 f9 f10 f11 f12 f13 f14 f15 f16 x1 y1 x2 y2 x3 y3 x4 y4 (Zaf dq):=by
 unfold qCrs_at
 obtain ⟨k1,k2,H⟩:=H
 refine Zac (G:=Zad kp81 [(1,2,.call ((Zgr x2 x1 y2 y1)) none),(1,5,.call ((zNqM8 x4 x3 y4 y3)) none)] []) 3 [] ⟨(atC (cd Try.f81) [1,0]),[(4,AV.ptr 0 0 0 0),(5,AV.ptr 1 0 0 0),(6,AV.ptr 2 0 0 0),(7,AV.ptr 3 0 0 0)],[⟨[(Ze9 x1 f1 f2 y1 f3 f4)],8,0,false,false⟩,⟨[(zNqM14 x2 f5 f6 y2 f7 f8)],8,0,false,false⟩,⟨[(zNqM9 x3 f9 f10 y3 f11 f12)],8,0,false,false⟩,⟨[(zNqM15 x4 f13 f14 y4 f15 f16)],8,0,false,false⟩],_,[],_⟩ (by kernel_rfl) b0 q0 c0 (ZcR (G:=Zad kp81 [(1,2,.call ((Zgr x2 x1 y2 y1)) none),(1,5,.call ((zNqM8 x4 x3 y4 y3)) none)] []) [0,1,2,3,5,4] 6 (e1:=[(4,AV.ptr 0 0 0 0),(5,AV.ptr 1 0 0 0),(6,AV.ptr 2 0 0 0),(7,AV.ptr 3 0 0 0),(9,AV.ptr 4 0 0 0),(10,AV.ptr 5 0 0 0)]) (L1:=[⟨[(Ze9 x1 f1 f2 y1 f3 f4)],8,0,false,false⟩,⟨[(zNqM14 x2 f5 f6 y2 f7 f8)],8,0,false,false⟩,⟨[(zNqM9 x3 f9 f10 y3 f11 f12)],8,0,false,false⟩,⟨[(zNqM15 x4 f13 f14 y4 f15 f16)],8,0,false,false⟩,⟨[(Zgr x2 x1 y2 y1)],8,0,false,false⟩,⟨[(zNqM8 x4 x3 y4 y3)],8,0,false,false⟩]) (a:=[true,true,true,true,true,true]) (q:=[]) (cs:=[⟨true,false,93,[(Ze9 x1 f1 f2 y1 f3 f4),(zNqM14 x2 f5 f6 y2 f7 f8)],[],(Zgr x2 x1 y2 y1),[]⟩,⟨true,false,93,[(zNqM9 x3 f9 f10 y3 f11 f12),(zNqM15 x4 f13 f14 y4 f15 f16)],[],(zNqM8 x4 x3 y4 y3),[]⟩]) (by kernel_rfl) (by kernel_rfl) (Zae rfl (Zae rfl (Zae rfl (Zae rfl (Zae rfl (Zae rfl Zaw)))))) ZaK (ZaN (fun _=>(@ev93 f1 f2 f3 f4 f5 f6 f7 f8 x1 y1 x2 y2 k1)) (ZaN (fun _=>(@ev93 f9 f10 f11 f12 f13 f14 f15 f16 x3 y3 x4 y4 k2)) ZaL)) ?_)
 obtain ⟨k3,k4,k5,k6,k7,H⟩:=H
 have w8:wi (O.sgnI ((x2-x1)*(y3-y1)-(y2-y1)*(x3-x1)).num*O.sgnI ((x2-x1)*(y4-y1)-(y2-y1)*(x4-x1)).num)=O.sgnI ((x2-x1)*(y3-y1)-(y2-y1)*(x3-x1)).num*O.sgnI ((x2-x1)*(y4-y1)-(y2-y1)*(x4-x1)).num:=wI64 k7
 have i9:(decide (wi (O.sgnI ((x2-x1)*(y3-y1)-(y2-y1)*(x3-x1)).num*O.sgnI ((x2-x1)*(y4-y1)-(y2-y1)*(x4-x1)).num)<0)==true&&true&&true)=true ↔ (Zgq x2 x1 y3 y1 y2 x3 y4 x4):=(by (try rw [w8]);all_goals exact (i_at (i_at (i_bt Zab))))
 obtain ⟨k10,H⟩:=H
 have i11:(decide (wi (O.sgnI ((x2-x1)*(y3-y1)-(y2-y1)*(x3-x1)).num*O.sgnI ((x2-x1)*(y4-y1)-(y2-y1)*(x4-x1)).num)<0)==true&&true&&true)=true ↔ (Zgq x2 x1 y3 y1 y2 x3 y4 x4):=(by (try rw [w8]);all_goals exact (i_at (i_at (i_bt Zab))))
 obtain ⟨k12,H⟩:=H
 have i13:(decide (wi (O.sgnI ((x2-x1)*(y3-y1)-(y2-y1)*(x3-x1)).num*O.sgnI ((x2-x1)*(y4-y1)-(y2-y1)*(x4-x1)).num)<0)==true&&true&&true)=true ↔ (Zgq x2 x1 y3 y1 y2 x3 y4 x4):=(by (try rw [w8]);all_goals exact (i_at (i_at (i_bt Zab))))
 have i14:(decide (wi (O.sgnI ((x2-x1)*(y3-y1)-(y2-y1)*(x3-x1)).num*O.sgnI ((x2-x1)*(y4-y1)-(y2-y1)*(x4-x1)).num)<0)==true&&true&&true)=true ↔ (Zgq x2 x1 y3 y1 y2 x3 y4 x4):=(by (try rw [w8]);all_goals exact (i_at (i_at (i_bt Zab))))
 obtain ⟨k15,H⟩:=H
 have i16:(decide (wi (O.sgnI ((x2-x1)*(y3-y1)-(y2-y1)*(x3-x1)).num*O.sgnI ((x2-x1)*(y4-y1)-(y2-y1)*(x4-x1)).num)<0)==true&&true&&true)=true ↔ (Zgq x2 x1 y3 y1 y2 x3 y4 x4):=(by (try rw [w8]);all_goals exact (i_at (i_at (i_bt Zab))))
 obtain ⟨k17,H⟩:=H
 have i18:(decide (wi (O.sgnI ((x2-x1)*(y3-y1)-(y2-y1)*(x3-x1)).num*O.sgnI ((x2-x1)*(y4-y1)-(y2-y1)*(x4-x1)).num)<0)==true&&true&&true)=true ↔ (Zgq x2 x1 y3 y1 y2 x3 y4 x4):=(by (try rw [w8]);all_goals exact (i_at (i_at (i_bt Zab))))
 exact Zah (G:=Zad kp81 [(2,3,.call ((zNqM16 x3 x1 y3 y1)) none),(2,4,.call (ratF ((x2-x1)*(y3-y1)-(y2-y1)*(x3-x1))) none),(2,5,.call (vi (O.sgnI ((x2-x1)*(y3-y1)-(y2-y1)*(x3-x1)).num)) none),(2,9,.call ((zNqM17 x4 x1 y4 y1)) none),(2,10,.call (ratF ((x2-x1)*(y4-y1)-(y2-y1)*(x4-x1))) none),(2,11,.call (vi (O.sgnI ((x2-x1)*(y4-y1)-(y2-y1)*(x4-x1)).num)) none),(2,18,.call ((zNqM12 x1 x3 y1 y3)) none),(2,19,.call (ratF ((x4-x3)*(y1-y3)-(y4-y3)*(x1-x3))) none),(2,20,.call (vi (O.sgnI ((x4-x3)*(y1-y3)-(y4-y3)*(x1-x3)).num)) none),(2,24,.call ((zNqM13 x2 x3 y2 y3)) none),(2,25,.call (ratF ((x4-x3)*(y2-y3)-(y4-y3)*(x2-x3))) none),(2,26,.call (vi (O.sgnI ((x4-x3)*(y2-y3)-(y4-y3)*(x2-x3)).num)) none)] []) 1000 [] (asm:=[true,true,true,true,true,true,!(decide (wi (O.sgnI ((x2-x1)*(y3-y1)-(y2-y1)*(x3-x1)).num*O.sgnI ((x2-x1)*(y4-y1)-(y2-y1)*(x4-x1)).num)<0)==true&&true)||true,!(decide (wi (O.sgnI ((x2-x1)*(y3-y1)-(y2-y1)*(x3-x1)).num*O.sgnI ((x2-x1)*(y4-y1)-(y2-y1)*(x4-x1)).num)<0)==true&&true)||true,!(decide (wi (O.sgnI ((x2-x1)*(y3-y1)-(y2-y1)*(x3-x1)).num*O.sgnI ((x2-x1)*(y4-y1)-(y2-y1)*(x4-x1)).num)<0)==true&&true)||true,!(decide (wi (O.sgnI ((x2-x1)*(y3-y1)-(y2-y1)*(x3-x1)).num*O.sgnI ((x2-x1)*(y4-y1)-(y2-y1)*(x4-x1)).num)<0)==true&&true)||true,!(decide (wi (O.sgnI ((x2-x1)*(y3-y1)-(y2-y1)*(x3-x1)).num*O.sgnI ((x2-x1)*(y4-y1)-(y2-y1)*(x4-x1)).num)<0)==true&&true)||true,!(decide (wi (O.sgnI ((x2-x1)*(y3-y1)-(y2-y1)*(x3-x1)).num*O.sgnI ((x2-x1)*(y4-y1)-(y2-y1)*(x4-x1)).num)<0)==true&&true)||true]) (calls:=[⟨true,false,93,[(Ze9 x1 f1 f2 y1 f3 f4),(zNqM9 x3 f9 f10 y3 f11 f12)],[],(zNqM16 x3 x1 y3 y1),[]⟩,⟨true,false,94,[(Zgr x2 x1 y2 y1),(zNqM16 x3 x1 y3 y1)],[],ratF ((x2-x1)*(y3-y1)-(y2-y1)*(x3-x1)),[]⟩,⟨true,false,79,[ratF ((x2-x1)*(y3-y1)-(y2-y1)*(x3-x1))],[],vi (O.sgnI ((x2-x1)*(y3-y1)-(y2-y1)*(x3-x1)).num),[]⟩,⟨true,false,93,[(Ze9 x1 f1 f2 y1 f3 f4),(zNqM15 x4 f13 f14 y4 f15 f16)],[],(zNqM17 x4 x1 y4 y1),[]⟩,⟨true,false,94,[(Zgr x2 x1 y2 y1),(zNqM17 x4 x1 y4 y1)],[],ratF ((x2-x1)*(y4-y1)-(y2-y1)*(x4-x1)),[]⟩,⟨true,false,79,[ratF ((x2-x1)*(y4-y1)-(y2-y1)*(x4-x1))],[],vi (O.sgnI ((x2-x1)*(y4-y1)-(y2-y1)*(x4-x1)).num),[]⟩,⟨decide (wi (O.sgnI ((x2-x1)*(y3-y1)-(y2-y1)*(x3-x1)).num*O.sgnI ((x2-x1)*(y4-y1)-(y2-y1)*(x4-x1)).num)<0)==true&&true&&true,false,93,[(zNqM9 x3 f9 f10 y3 f11 f12),(Ze9 x1 f1 f2 y1 f3 f4)],[],(zNqM12 x1 x3 y1 y3),[]⟩,⟨decide (wi (O.sgnI ((x2-x1)*(y3-y1)-(y2-y1)*(x3-x1)).num*O.sgnI ((x2-x1)*(y4-y1)-(y2-y1)*(x4-x1)).num)<0)==true&&true&&true,false,94,[(zNqM8 x4 x3 y4 y3),(zNqM12 x1 x3 y1 y3)],[],ratF ((x4-x3)*(y1-y3)-(y4-y3)*(x1-x3)),[]⟩,⟨decide (wi (O.sgnI ((x2-x1)*(y3-y1)-(y2-y1)*(x3-x1)).num*O.sgnI ((x2-x1)*(y4-y1)-(y2-y1)*(x4-x1)).num)<0)==true&&true&&true,false,79,[ratF ((x4-x3)*(y1-y3)-(y4-y3)*(x1-x3))],[],vi (O.sgnI ((x4-x3)*(y1-y3)-(y4-y3)*(x1-x3)).num),[]⟩,⟨decide (wi (O.sgnI ((x2-x1)*(y3-y1)-(y2-y1)*(x3-x1)).num*O.sgnI ((x2-x1)*(y4-y1)-(y2-y1)*(x4-x1)).num)<0)==true&&true&&true,false,93,[(zNqM9 x3 f9 f10 y3 f11 f12),(zNqM14 x2 f5 f6 y2 f7 f8)],[],(zNqM13 x2 x3 y2 y3),[]⟩,⟨decide (wi (O.sgnI ((x2-x1)*(y3-y1)-(y2-y1)*(x3-x1)).num*O.sgnI ((x2-x1)*(y4-y1)-(y2-y1)*(x4-x1)).num)<0)==true&&true&&true,false,94,[(zNqM8 x4 x3 y4 y3),(zNqM13 x2 x3 y2 y3)],[],ratF ((x4-x3)*(y2-y3)-(y4-y3)*(x2-x3)),[]⟩,⟨decide (wi (O.sgnI ((x2-x1)*(y3-y1)-(y2-y1)*(x3-x1)).num*O.sgnI ((x2-x1)*(y4-y1)-(y2-y1)*(x4-x1)).num)<0)==true&&true&&true,false,79,[ratF ((x4-x3)*(y2-y3)-(y4-y3)*(x2-x3))],[],vi (O.sgnI ((x4-x3)*(y2-y3)-(y4-y3)*(x2-x3)).num),[]⟩]) (vb (bif decide (wi (O.sgnI ((x2-x1)*(y3-y1)-(y2-y1)*(x3-x1)).num*O.sgnI ((x2-x1)*(y4-y1)-(y2-y1)*(x4-x1)).num)<0) then decide (wi (O.sgnI ((x4-x3)*(y1-y3)-(y4-y3)*(x1-x3)).num*O.sgnI ((x4-x3)*(y2-y3)-(y4-y3)*(x2-x3)).num)<0) else false)) (by kernel_rfl) (bc rfl (bc rfl (bc rfl (bc rfl (bc rfl (bc rfl (bc (Bool.or_true _) (bc (Bool.or_true _) (bc (Bool.or_true _) (bc (Bool.or_true _) (bc (Bool.or_true _) (bc (Bool.or_true _) b0)))))))))))) q0 (cc (fun _=>(@ev93 f1 f2 f3 f4 f9 f10 f11 f12 x1 y1 x3 y3 k3)) (cc (fun _=>(@ev94 false false false false false false false false (x2-x1) (y2-y1) (x3-x1) (y3-y1) k4)) (cc (fun _=>(@ev79 false false (((x2-x1)*(y3-y1)-(y2-y1)*(x3-x1)).num) ((↑((x2-x1)*(y3-y1)-(y2-y1)*(x3-x1)).den:Int)))) (cc (fun _=>(@ev93 f1 f2 f3 f4 f13 f14 f15 f16 x1 y1 x4 y4 k5)) (cc (fun _=>(@ev94 false false false false false false false false (x2-x1) (y2-y1) (x4-x1) (y4-y1) k6)) (cc (fun _=>(@ev79 false false (((x2-x1)*(y4-y1)-(y2-y1)*(x4-x1)).num) ((↑((x2-x1)*(y4-y1)-(y2-y1)*(x4-x1)).den:Int)))) (cc (fun hc=>((@ev93 f9 f10 f11 f12 f1 f2 f3 f4 x3 y3 x1 y1 (k10 (i9.1 hc))):Ev M1 (Conf.pure 93 [(zNqM9 x3 f9 f10 y3 f11 f12),(Ze9 x1 f1 f2 y1 f3 f4)]) ((zNqM12 x1 x3 y1 y3)) [])) (cc (fun hc=>((@ev94 false false false false false false false false (x4-x3) (y4-y3) (x1-x3) (y1-y3) (k12 (i11.1 hc))):Ev M1 (Conf.pure 94 [(zNqM8 x4 x3 y4 y3),(zNqM12 x1 x3 y1 y3)]) (ratF ((x4-x3)*(y1-y3)-(y4-y3)*(x1-x3))) [])) (cc (fun hc=>((@ev79 false false (((x4-x3)*(y1-y3)-(y4-y3)*(x1-x3)).num) ((↑((x4-x3)*(y1-y3)-(y4-y3)*(x1-x3)).den:Int))):Ev M1 (Conf.pure 79 [ratF ((x4-x3)*(y1-y3)-(y4-y3)*(x1-x3))]) (vi (O.sgnI ((x4-x3)*(y1-y3)-(y4-y3)*(x1-x3)).num)) [])) (cc (fun hc=>((@ev93 f9 f10 f11 f12 f5 f6 f7 f8 x3 y3 x2 y2 (k15 (i14.1 hc))):Ev M1 (Conf.pure 93 [(zNqM9 x3 f9 f10 y3 f11 f12),(zNqM14 x2 f5 f6 y2 f7 f8)]) ((zNqM13 x2 x3 y2 y3)) [])) (cc (fun hc=>((@ev94 false false false false false false false false (x4-x3) (y4-y3) (x2-x3) (y2-y3) (k17 (i16.1 hc))):Ev M1 (Conf.pure 94 [(zNqM8 x4 x3 y4 y3),(zNqM13 x2 x3 y2 y3)]) (ratF ((x4-x3)*(y2-y3)-(y4-y3)*(x2-x3))) [])) (cc (fun hc=>((@ev79 false false (((x4-x3)*(y2-y3)-(y4-y3)*(x2-x3)).num) ((↑((x4-x3)*(y2-y3)-(y4-y3)*(x2-x3)).den:Int))):Ev M1 (Conf.pure 79 [ratF ((x4-x3)*(y2-y3)-(y4-y3)*(x2-x3))]) (vi (O.sgnI ((x4-x3)*(y2-y3)-(y4-y3)*(x2-x3)).num)) [])) c0)))))))))))) (by (try rw [w8]);all_goals exact H)
end Go.Av

namespace Go.Av
open Go.Proofs
namespace O
noncomputable def tsg (x1 y1 x2 y2 x3 y3:Rat):Rat:=
 if (x2-x1)*(x3-x1)+(y2-y1)*(y3-y1)<=0 then (x3-x1)*(x3-x1)+(y3-y1)*(y3-y1)
 else if (x2-x1)*(x2-x1)+(y2-y1)*(y2-y1)<=(x2-x1)*(x3-x1)+(y2-y1)*(y3-y1) then (x3-x2)*(x3-x2)+(y3-y2)*(y3-y2)
 else ((x2-x1)*(y3-y1)-(y2-y1)*(x3-x1))*((x2-x1)*(y3-y1)-(y2-y1)*(x3-x1)) / ((x2-x1)*(x2-x1)+(y2-y1)*(y2-y1))
def crs (x1 y1 x2 y2 x3 y3 x4 y4:Rat):Prop:=
 sgnI ((x2-x1)*(y3-y1)-(y2-y1)*(x3-x1)).num*sgnI ((x2-x1)*(y4-y1)-(y2-y1)*(x4-x1)).num<0/\sgnI ((x4-x3)*(y1-y3)-(y4-y3)*(x1-x3)).num*sgnI ((x4-x3)*(y2-y3)-(y4-y3)*(x2-x3)).num<0
def okV (x y:Rat):Prop:=okT 10 x/\okT 10 y
def okV3 (x1 y1 x2 y2 x3 y3:Rat):Prop:=okV x1 y1/\okV x2 y2/\okV x3 y3
def okV4 (x1 y1 x2 y2 x3 y3 x4 y4:Rat):Prop:=okV x1 y1/\okV x2 y2/\okV x3 y3/\okV x4 y4
end O
instance (x1 y1 x2 y2 x3 y3 x4 y4:Rat):Decidable (O.crs x1 y1 x2 y2 x3 y3 x4 y4):=by unfold O.crs;infer_instance
theorem cmp_ge2 {r s:Rat}:O.sgnI (r.num*(s.den:Int)-s.num*(r.den:Int))>=0 ↔ s<=r:=by
 rw [Rat.le_iff]
 generalize r.num*(s.den:Int)=u
 generalize s.num*(r.den:Int)=v
 unfold O.sgnI
 split
 ·omega
 ·split <;> omega
theorem Zct {r s:Rat}:O.sgnI (r.num*(s.den:Int)-s.num*(r.den:Int))<0 ↔ r<s:=by
 rw [<- Rat.not_le,<- cmp_ge2];omega
theorem sgn_le0 {d:Rat}:O.sgnI d.num<=0 ↔ d<=0:=by
 rw [Rat.le_iff]
 show _ ↔ d.num*(1:Int)<=0*_
 rw [Int.zero_mul,Int.mul_one]
 unfold O.sgnI
 split
 ·omega
 ·split <;> omega
theorem okW_V {x1 y1 x2 y2:Rat} (h:O.okV x1 y1) (k:O.okV x2 y2):O.okW x1 y1 x2 y2:=⟨⟨Zb6 h.1 (by omega),Zb6 h.2 (by omega)⟩,Zb6 k.1 (by omega),Zb6 k.2 (by omega)⟩
theorem okD_V {x1 y1 x2 y2 x3 y3 x4 y4:Rat} (h1:O.okV x1 y1) (h2:O.okV x2 y2) (h3:O.okV x3 y3) (h4:O.okV x4 y4):O.okD (x2-x1) (y2-y1) (x4-x3) (y4-y3):=
 ⟨⟨Zb6 (ZbJ h2.1 h1.1) (by omega),Zb6 (ZbJ h2.2 h1.2) (by omega)⟩,Zb6 (ZbJ h4.1 h3.1) (by omega),Zb6 (ZbJ h4.2 h3.2) (by omega)⟩
theorem ZfA {x1 y1 x2 y2 x3 y3 x4 y4:Rat} (h1:O.okV x1 y1) (h2:O.okV x2 y2) (h3:O.okV x3 y3) (h4:O.okV x4 y4):O.okT 100 ((x2-x1)*(x4-x3)+(y2-y1)*(y4-y3)):=
 Zb6 (okT_add (Zcj (ZbJ h2.1 h1.1) (ZbJ h4.1 h3.1)) (Zcj (ZbJ h2.2 h1.2) (ZbJ h4.2 h3.2))) (by omega)
theorem okT_crs {x1 y1 x2 y2 x3 y3 x4 y4:Rat} (h1:O.okV x1 y1) (h2:O.okV x2 y2) (h3:O.okV x3 y3) (h4:O.okV x4 y4):O.okT 100 ((x2-x1)*(y4-y3)-(y2-y1)*(x4-x3)):=
 Zb6 (ZbJ (Zcj (ZbJ h2.1 h1.1) (ZbJ h4.2 h3.2)) (Zcj (ZbJ h2.2 h1.2) (ZbJ h4.1 h3.1))) (by omega)
theorem okT_dv {k m:Nat} {r s:Rat} (h:O.okT k r) (h2:O.okT m s) (h0:s.num ≠ 0):O.okT (k+m) (r / s):=by
 have e:=ZfW (p:=r.num*(s.den:Int)) (q:=(r.den:Int)*s.num) (Int.mul_ne_zero (Zcr r) h0)
 rw [rat_div] at e
 exact ⟨Nat.le_trans (Zbg e.1) (Za8 h.1 (Zbl h2.2)),Nat.le_trans (Zbg e.2) (Za8 (Zbl h.2) h2.1)⟩
theorem Zc1 {x1 y1 x2 y2 x3 y3:Rat} (h1:O.okV x1 y1) (h2:O.okV x2 y2) (h3:O.okV x3 y3):O.okT 400 (O.tsg x1 y1 x2 y2 x3 y3):=by
 unfold O.tsg
 split
 ·exact Zb6 (ZfA h1 h3 h1 h3) (by omega)
 ·split
  ·exact Zb6 (ZfA h2 h3 h2 h3) (by omega)
  ·rename_i n1 n2
   refine Zb6 (okT_dv (Zcj (okT_crs h1 h2 h1 h3) (okT_crs h1 h2 h1 h3)) (ZfA h1 h2 h1 h2) fun e => ?_) (by omega)
   have:=Rat.num_eq_zero.1 e
   rw [this] at n2
   grind
theorem ev82 (f1 f2 f3 f4 f5 f6 f7 f8 f9 f10 f11 f12:Bool) (x1 y1 x2 y2 x3 y3:Rat) (h:O.okV3 x1 y1 x2 y2 x3 y3):Ev M1 (.pure 82 [vecA f1 f2 f3 f4 x1 y1,vecA f5 f6 f7 f8 x2 y2,vecA f9 f10 f11 f12 x3 y3]) (ratF (O.tsg x1 y1 x2 y2 x3 y3)) []:=by
 obtain ⟨h1,h2,h3⟩:=h
 have dd:=ZfA h1 h2 h1 h2
 have dt:=ZfA h1 h2 h1 h3
 have cr:=okT_crs h1 h2 h1 h3
 refine call82 (qToS _ _ _ _ _ _ _ _ _ _ _ _ _ _ _ _ _ _ _ ⟨okW_V h1 h2,okW_V h1 h3,okD_V h1 h2 h1 h2,okD_V h1 h2 h1 h3,fun k=>⟨okD_V h1 h3 h1 h3,?_⟩,fun k=>⟨⟨Zb4 dt (by omega),Zb4 dd (by omega)⟩,fun j=>⟨okW_V h2 h3,okD_V h2 h3 h2 h3,?_⟩,fun j=>⟨⟨Zb4 cr (by omega),Zb4 cr (by omega)⟩,⟨Zb4 (Zcj cr cr) (by omega),Zb4 dd (by omega),fun e => ?_⟩,?_⟩⟩⟩)
 ·unfold O.tsg;rw [if_pos (sgn_le0.1 k)];exact .refl _
 ·unfold O.tsg;rw [if_neg fun x=>k (sgn_le0.2 x),if_pos (cmp_ge2.1 j)];exact .refl _
 ·have e0:=Rat.num_eq_zero.1 e
  have k0:¬_:=fun x=>k (sgn_le0.2 x)
  have j0:¬_:=fun x=>j (cmp_ge2.2 x)
  rw [e0] at j0
  grind
 ·unfold O.tsg;rw [if_neg fun x=>k (sgn_le0.2 x),if_neg fun x=>j (cmp_ge2.2 x)];exact .refl _
theorem sgn_bd (n:Int):-1<=O.sgnI n/\O.sgnI n<=1:=by
 unfold O.sgnI
 split
 ·omega
 ·split <;> omega
theorem Zgz (m n:Int):-1<=O.sgnI m*O.sgnI n/\O.sgnI m*O.sgnI n<=1:=by
 have a:=sgn_bd m
 have b:=sgn_bd n
 have c:O.sgnI m = -1\/O.sgnI m=0\/O.sgnI m=1:=by omega
 rcases c with c | c | c <;> rw [c] <;> omega
theorem crs_bool (x1 y1 x2 y2 x3 y3 x4 y4:Rat):(bif decide (O.sgnI ((x2-x1)*(y3-y1)-(y2-y1)*(x3-x1)).num*O.sgnI ((x2-x1)*(y4-y1)-(y2-y1)*(x4-x1)).num<0) then decide (IntKind.i64.wrap (O.sgnI ((x4-x3)*(y1-y3)-(y4-y3)*(x1-x3)).num*O.sgnI ((x4-x3)*(y2-y3)-(y4-y3)*(x2-x3)).num)<0) else false)=decide (O.crs x1 y1 x2 y2 x3 y3 x4 y4):=by
 have b:=Zgz ((x4-x3)*(y1-y3)-(y4-y3)*(x1-x3)).num ((x4-x3)*(y2-y3)-(y4-y3)*(x2-x3)).num
 rw [w64 _ (by omega),ZcL]
 exact ZdD Iff.rfl
theorem ev81 (f1 f2 f3 f4 f5 f6 f7 f8 f9 f10 f11 f12 f13 f14 f15 f16:Bool) (x1 y1 x2 y2 x3 y3 x4 y4:Rat) (h:O.okV4 x1 y1 x2 y2 x3 y3 x4 y4):Ev M1 (.pure 81 [vecA f1 f2 f3 f4 x1 y1,vecA f5 f6 f7 f8 x2 y2,vecA f9 f10 f11 f12 x3 y3,vecA f13 f14 f15 f16 x4 y4]) (.bool (decide (O.crs x1 y1 x2 y2 x3 y3 x4 y4))) []:=by
 obtain ⟨h1,h2,h3,h4⟩:=h
 have b:=Zgz ((x2-x1)*(y3-y1)-(y2-y1)*(x3-x1)).num ((x2-x1)*(y4-y1)-(y2-y1)*(x4-x1)).num
 exact call81 (qCrs _ _ _ _ _ _ _ _ _ _ _ _ _ _ _ _ _ _ _ _ _ _ _ _ _ ⟨okW_V h1 h2,okW_V h3 h4,okW_V h1 h3,okD_V h1 h2 h1 h3,okW_V h1 h4,okD_V h1 h2 h1 h4,by omega,fun _=>okW_V h3 h1,fun _=>okD_V h3 h4 h3 h1,fun _=>okW_V h3 h2,fun _=>okD_V h3 h4 h3 h2,congrArg AV.bool (crs_bool _ _ _ _ _ _ _ _)⟩)
end Go.Av

namespace Go.Av
open Go.Proofs
set_option maxRecDepth 100000
def fi73:Fi:=⟨47,[.cell 8 110]⟩
def kp73:List (Nat × List Nat):=[(0,[4,5,6,7,8]),(1,[4,5,6,7,8,16]),(2,[8]),(3,[4,5,6,7,8,9]),(4,[8,9,34,35,36]),(5,[8,9,34,35,36,37]),(6,[8,9,11,34,35,36]),(7,[8,9,11,34,35,36,43]),(8,[8,9,34,35,36]),(9,[8,9,34,35,36]),(10,[8])]
def qSeg_at (f1 f2 f3 f4 f5 f6 f7 f8 f9 f10 f11 f12 f13 f14 f15 f16:Bool) (x1 y1 x2 y2 x3 y3 x4 y4:Rat) (Q:AV->Heap->Prop):Prop:=Wp M1 (.run fi73 (atC (cd Try.f73) []) [(0,.agg [.bool (O.Zaa x1.num),.vec f1 1 ((O.Zag x1.num).map (.int .u32)),.bool (O.Zaa (x1.den:Int)),.vec f2 1 ((O.Zag (x1.den:Int)).map (.int .u32)),.bool (O.Zaa y1.num),.vec f3 1 ((O.Zag y1.num).map (.int .u32)),.bool (O.Zaa (y1.den:Int)),.vec f4 1 ((O.Zag (y1.den:Int)).map (.int .u32))]),(1,.agg [.bool (O.Zaa x2.num),.vec f5 1 ((O.Zag x2.num).map (.int .u32)),.bool (O.Zaa (x2.den:Int)),.vec f6 1 ((O.Zag (x2.den:Int)).map (.int .u32)),.bool (O.Zaa y2.num),.vec f7 1 ((O.Zag y2.num).map (.int .u32)),.bool (O.Zaa (y2.den:Int)),.vec f8 1 ((O.Zag (y2.den:Int)).map (.int .u32))]),(2,.agg [.bool (O.Zaa x3.num),.vec f9 1 ((O.Zag x3.num).map (.int .u32)),.bool (O.Zaa (x3.den:Int)),.vec f10 1 ((O.Zag (x3.den:Int)).map (.int .u32)),.bool (O.Zaa y3.num),.vec f11 1 ((O.Zag y3.num).map (.int .u32)),.bool (O.Zaa (y3.den:Int)),.vec f12 1 ((O.Zag (y3.den:Int)).map (.int .u32))]),(3,.agg [.bool (O.Zaa x4.num),.vec f13 1 ((O.Zag x4.num).map (.int .u32)),.bool (O.Zaa (x4.den:Int)),.vec f14 1 ((O.Zag (x4.den:Int)).map (.int .u32)),.bool (O.Zaa y4.num),.vec f15 1 ((O.Zag y4.num).map (.int .u32)),.bool (O.Zaa (y4.den:Int)),.vec f16 1 ((O.Zag (y4.den:Int)).map (.int .u32))])] []) Q
def ZeS (q r1 r2 r3:Rat) (Q:AV->Heap->Prop):Prop:=Wp M1 (.run fi73 (atC (cd Try.f73) [1,1,1,0,1,0,0]) [(8,.ptr 0 0 0 0),(9,.ptr 1 0 0 0),(34,.vec true 4 [ratF r1,ratF r2,ratF r3]),(35,.int .i64 3),(36,.int .i64 0)] [⟨[.agg [.bool false,.vnil,.bool false,.vnil]],4,0,false,false⟩,⟨[ratF q],4,0,false,false⟩]) Q
def ZdM (q r1 r2 r3:Rat) (Q:AV->Heap->Prop):Prop:=Wp M1 (.run fi73 (atC (cd Try.f73) [1,1,1,0,1,0,0]) [(8,.ptr 0 0 0 0),(9,.ptr 1 0 0 0),(34,.vec true 4 [ratF r1,ratF r2,ratF r3]),(35,.int .i64 3),(36,.int .i64 1)] [⟨[.agg [.bool false,.vnil,.bool false,.vnil]],4,0,false,false⟩,⟨[ratF q],4,0,false,false⟩]) Q
def ZdL (q r1 r2 r3:Rat) (Q:AV->Heap->Prop):Prop:=Wp M1 (.run fi73 (atC (cd Try.f73) [1,1,1,0,1,0,0]) [(8,.ptr 0 0 0 0),(9,.ptr 1 0 0 0),(34,.vec true 4 [ratF r1,ratF r2,ratF r3]),(35,.int .i64 3),(36,.int .i64 2)] [⟨[.agg [.bool false,.vnil,.bool false,.vnil]],4,0,false,false⟩,⟨[ratF q],4,0,false,false⟩]) Q
def ZdK (q r1 r2 r3:Rat) (Q:AV->Heap->Prop):Prop:=Wp M1 (.run fi73 (atC (cd Try.f73) [1,1,1,0,1,0,0]) [(8,.ptr 0 0 0 0),(9,.ptr 1 0 0 0),(34,.vec true 4 [ratF r1,ratF r2,ratF r3]),(35,.int .i64 3),(36,.int .i64 3)] [⟨[.agg [.bool false,.vnil,.bool false,.vnil]],4,0,false,false⟩,⟨[ratF q],4,0,false,false⟩]) Q
theorem call73 {args:List AV} {d:AV} (h:wc M1 fi73 Try.f73 args d):Ev M1 (.pure 73 args) d []:=pcl _ _ (by kernel_rfl) h
noncomputable abbrev zNqN1 (x1:Rat) (f1:Bool) (f2:Bool) (y1:Rat) (f3:Bool) (f4:Bool):=ag [vb (O.Zaa x1.num),AV.vec f1 1 (us (O.Zag x1.num)),vb (O.Zaa (↑x1.den:Int)),AV.vec f2 1 (us (O.Zag (↑x1.den:Int))),vb (O.Zaa y1.num),AV.vec f3 1 (us (O.Zag y1.num)),vb (O.Zaa (↑y1.den:Int)),AV.vec f4 1 (us (O.Zag (↑y1.den:Int)))]
noncomputable abbrev zNqN2 (x2:Rat) (f5:Bool) (f6:Bool) (y2:Rat) (f7:Bool) (f8:Bool):=ag [vb (O.Zaa x2.num),AV.vec f5 1 (us (O.Zag x2.num)),vb (O.Zaa (↑x2.den:Int)),AV.vec f6 1 (us (O.Zag (↑x2.den:Int))),vb (O.Zaa y2.num),AV.vec f7 1 (us (O.Zag y2.num)),vb (O.Zaa (↑y2.den:Int)),AV.vec f8 1 (us (O.Zag (↑y2.den:Int)))]
noncomputable abbrev zNqN3 (x3:Rat) (f9:Bool) (f10:Bool) (y3:Rat) (f11:Bool) (f12:Bool):=ag [vb (O.Zaa x3.num),AV.vec f9 1 (us (O.Zag x3.num)),vb (O.Zaa (↑x3.den:Int)),AV.vec f10 1 (us (O.Zag (↑x3.den:Int))),vb (O.Zaa y3.num),AV.vec f11 1 (us (O.Zag y3.num)),vb (O.Zaa (↑y3.den:Int)),AV.vec f12 1 (us (O.Zag (↑y3.den:Int)))]
noncomputable abbrev zNqN4 (x4:Rat) (f13:Bool) (f14:Bool) (y4:Rat) (f15:Bool) (f16:Bool):=ag [vb (O.Zaa x4.num),AV.vec f13 1 (us (O.Zag x4.num)),vb (O.Zaa (↑x4.den:Int)),AV.vec f14 1 (us (O.Zag (↑x4.den:Int))),vb (O.Zaa y4.num),AV.vec f15 1 (us (O.Zag y4.num)),vb (O.Zaa (↑y4.den:Int)),AV.vec f16 1 (us (O.Zag (↑y4.den:Int)))]
theorem qSeg (f1 f2 f3 f4 f5 f6 f7 f8 f9 f10 f11 f12 f13 f14 f15 f16:Bool) (x1 y1 x2 y2 x3 y3 x4 y4:Rat)  (dq:AV) (H :
  (O.okV4 x1 y1 x2 y2 x3 y3 x4 y4) /\
  ((O.crs x1 y1 x2 y2 x3 y3 x4 y4)->(O.inI 0) /\
   Weak (ratF (O.qi 0)) dq) /\
  (¬(O.crs x1 y1 x2 y2 x3 y3 x4 y4)->(O.okV3 x1 y1 x2 y2 x3 y3) /\
   (O.okV3 x1 y1 x2 y2 x4 y4) /\
   (O.okV3 x3 y3 x4 y4 x1 y1) /\
   (O.okV3 x3 y3 x4 y4 x2 y2) /\
   ZeS (O.tsg x1 y1 x2 y2 x3 y3) (O.tsg x1 y1 x2 y2 x4 y4) (O.tsg x3 y3 x4 y4 x1 y1) (O.tsg x3 y3 x4 y4 x2 y2) (Zaf dq))) :
 qSeg_at f1 f2 f3 f4 f5 f6 f7 f8 f9 f10 f11 f12 f13 f14 f15 f16 x1 y1 x2 y2 x3 y3 x4 y4 (Zaf dq):=by
 unfold qSeg_at
 obtain ⟨k1,H⟩:=H
 refine Zac (G:=Zad kp73 [(1,4,.call (vb (decide (O.crs x1 y1 x2 y2 x3 y3 x4 y4))) none)] []) 5 [] ⟨(atC (cd Try.f73) [1,0,1]),[(4,AV.ptr 0 0 0 0),(5,AV.ptr 1 0 0 0),(6,AV.ptr 2 0 0 0),(7,AV.ptr 3 0 0 0),(8,AV.ptr 4 0 0 0),(16,vb (decide (O.crs x1 y1 x2 y2 x3 y3 x4 y4)))],[⟨[(zNqN1 x1 f1 f2 y1 f3 f4)],8,0,false,false⟩,⟨[(zNqN2 x2 f5 f6 y2 f7 f8)],8,0,false,false⟩,⟨[(zNqN3 x3 f9 f10 y3 f11 f12)],8,0,false,false⟩,⟨[(zNqN4 x4 f13 f14 y4 f15 f16)],8,0,false,false⟩,⟨[ag [vb false,AV.vnil,vb false,AV.vnil]],4,0,false,false⟩],_,[],_⟩ (by kernel_rfl) (bc rfl (bc rfl (bc rfl (bc rfl b0)))) q0 (ce (@ev81 f1 f2 f3 f4 f5 f6 f7 f8 f9 f10 f11 f12 f13 f14 f15 f16 x1 y1 x2 y2 x3 y3 x4 y4 k1) c0) ?_
 rcases xq H with ⟨d3,H⟩|⟨d3,H⟩
 ·obtain ⟨k4,H⟩:=H
  exact Zao (G:=Zad kp73 [(2,0,.call (ratF (O.qi 0)) none)] []) 1000 [true] (ratF (O.qi 0)) (by kernel_rfl) (bc (Zal (Zab.2 d3)) (bc rfl b0)) q0 (ce (@ev69 0 k4) c0) H
 ·obtain ⟨k5,k6,k7,k8,H⟩:=H
  exact Zac (G:=Zad kp73 [(3,3,.call (ratF (O.tsg x1 y1 x2 y2 x3 y3)) none),(4,3,.call (ratF (O.tsg x1 y1 x2 y2 x4 y4)) none),(4,7,.call (ratF (O.tsg x3 y3 x4 y4 x1 y1)) none),(4,11,.call (ratF (O.tsg x3 y3 x4 y4 x2 y2)) none)] []) 1000 [false] ⟨(atC (cd Try.f73) [1,1,1,0,1,0,0]),[(8,AV.ptr 4 0 0 0),(9,AV.ptr 5 0 0 0),(34,AV.vec true 4 [ratF (O.tsg x1 y1 x2 y2 x4 y4),ratF (O.tsg x3 y3 x4 y4 x1 y1),ratF (O.tsg x3 y3 x4 y4 x2 y2)]),(35,vi 3),(36,vi 0)],[⟨[(zNqN1 x1 f1 f2 y1 f3 f4)],8,0,false,false⟩,⟨[(zNqN2 x2 f5 f6 y2 f7 f8)],8,0,false,false⟩,⟨[(zNqN3 x3 f9 f10 y3 f11 f12)],8,0,false,false⟩,⟨[(zNqN4 x4 f13 f14 y4 f15 f16)],8,0,false,false⟩,⟨[ag [vb false,AV.vnil,vb false,AV.vnil]],4,0,false,false⟩,⟨[ratF (O.tsg x1 y1 x2 y2 x3 y3)],4,0,false,false⟩],_,[],_⟩ (by kernel_rfl) (bc (Zak (fun h=>d3 (Zab.1 h))) (bc rfl (bc rfl (bc rfl (bc rfl (bc rfl (bc rfl (bc rfl (bc rfl (bc rfl (bc rfl (bc rfl (bc rfl (bc rfl b0)))))))))))))) q0 (ce (@ev82 f1 f2 f3 f4 f5 f6 f7 f8 f9 f10 f11 f12 x1 y1 x2 y2 x3 y3 k5) (ce (@ev82 f1 f2 f3 f4 f5 f6 f7 f8 f13 f14 f15 f16 x1 y1 x2 y2 x4 y4 k6) (ce (@ev82 f9 f10 f11 f12 f13 f14 f15 f16 f1 f2 f3 f4 x3 y3 x4 y4 x1 y1 k7) (ce (@ev82 f9 f10 f11 f12 f13 f14 f15 f16 f5 f6 f7 f8 x3 y3 x4 y4 x2 y2 k8) c0)))) (Zas [4,5] (by kernel_rfl) H)
noncomputable abbrev zNqN5:=ag [vb false,AV.vnil,vb false,AV.vnil]
theorem qSeg0 (q r1 r2 r3:Rat)  (dq:AV) (H :
  (O.okR r1/\O.okR q) /\
  ((O.sgnI (r1.num*(↑q.den:Int)-q.num*(↑r1.den:Int))<0)->ZdM r1 r1 r2 r3 (Zaf dq)) /\
  (¬(O.sgnI (r1.num*(↑q.den:Int)-q.num*(↑r1.den:Int))<0)->ZdM q r1 r2 r3 (Zaf dq))) :
 ZeS q r1 r2 r3 (Zaf dq):=by
 unfold ZeS
 obtain ⟨k1,H⟩:=H
 refine Zac (G:=Zad kp73 [(7,2,.call (vi (O.sgnI (r1.num*(↑q.den:Int)-q.num*(↑r1.den:Int)))) none)] []) 11 [true] ⟨(atC (cd Try.f73) [1,1,1,0,1,0,0,1,1,0,0,1,1]),[(8,AV.ptr 0 0 0 0),(9,AV.ptr 1 0 0 0),(11,AV.ptr 2 0 0 0),(34,AV.vec true 4 [ratF r1,ratF r2,ratF r3]),(35,vi 3),(36,vi 0),(43,vb (decide (O.sgnI (r1.num*(↑q.den:Int)-q.num*(↑r1.den:Int))<0)))],[⟨[zNqN5],4,0,false,false⟩,⟨[ratF q],4,0,false,false⟩,⟨[ratF r1],4,0,false,false⟩],_,[],_⟩ (by kernel_rfl) (bc rfl (bc rfl (bc rfl (bc rfl (bc rfl (bc rfl b0)))))) q0 (ce (@ev72 false false false false r1 q k1) c0) ?_
 rcases xq H with ⟨d3,H⟩|⟨d3,H⟩
 ·exact Zac (G:=Zad kp73 [] []) 1000 [true] ⟨(atC (cd Try.f73) [1,1,1,0,1,0,0]),[(8,AV.ptr 0 0 0 0),(9,AV.ptr 1 0 0 0),(34,AV.vec true 4 [ratF r1,ratF r2,ratF r3]),(35,vi 3),(36,vi 1)],[⟨[zNqN5],4,0,false,false⟩,⟨[ratF r1],4,0,false,false⟩,⟨[ratF r1],4,0,false,false⟩],_,[],_⟩ (by kernel_rfl) (bc (Zal (Zab.2 d3)) (bc rfl (bc rfl b0))) q0 c0 (Zas [0,1] (by kernel_rfl) H)
 ·exact Zac (G:=Zad kp73 [] []) 1000 [false] ⟨(atC (cd Try.f73) [1,1,1,0,1,0,0]),[(8,AV.ptr 0 0 0 0),(9,AV.ptr 1 0 0 0),(34,AV.vec true 4 [ratF r1,ratF r2,ratF r3]),(35,vi 3),(36,vi 1)],[⟨[zNqN5],4,0,false,false⟩,⟨[ratF q],4,0,false,false⟩,⟨[ratF r1],4,0,false,false⟩],_,[],_⟩ (by kernel_rfl) (bc (Zak (fun h=>d3 (Zab.1 h))) b0) q0 c0 (Zas [0,1] (by kernel_rfl) H)
noncomputable abbrev zNqN6:=ag [vb false,AV.vnil,vb false,AV.vnil]
theorem qSeg1 (q r1 r2 r3:Rat)  (dq:AV) (H :
  (O.okR r2/\O.okR q) /\
  ((O.sgnI (r2.num*(↑q.den:Int)-q.num*(↑r2.den:Int))<0)->ZdL r2 r1 r2 r3 (Zaf dq)) /\
  (¬(O.sgnI (r2.num*(↑q.den:Int)-q.num*(↑r2.den:Int))<0)->ZdL q r1 r2 r3 (Zaf dq))) :
 ZdM q r1 r2 r3 (Zaf dq):=by
 unfold ZdM
 obtain ⟨k1,H⟩:=H
 refine Zac (G:=Zad kp73 [(7,2,.call (vi (O.sgnI (r2.num*(↑q.den:Int)-q.num*(↑r2.den:Int)))) none)] []) 11 [true] ⟨(atC (cd Try.f73) [1,1,1,0,1,0,0,1,1,0,0,1,1]),[(8,AV.ptr 0 0 0 0),(9,AV.ptr 1 0 0 0),(11,AV.ptr 2 0 0 0),(34,AV.vec true 4 [ratF r1,ratF r2,ratF r3]),(35,vi 3),(36,vi 1),(43,vb (decide (O.sgnI (r2.num*(↑q.den:Int)-q.num*(↑r2.den:Int))<0)))],[⟨[zNqN6],4,0,false,false⟩,⟨[ratF q],4,0,false,false⟩,⟨[ratF r2],4,0,false,false⟩],_,[],_⟩ (by kernel_rfl) (bc rfl (bc rfl (bc rfl (bc rfl (bc rfl (bc rfl b0)))))) q0 (ce (@ev72 false false false false r2 q k1) c0) ?_
 rcases xq H with ⟨d3,H⟩|⟨d3,H⟩
 ·exact Zac (G:=Zad kp73 [] []) 1000 [true] ⟨(atC (cd Try.f73) [1,1,1,0,1,0,0]),[(8,AV.ptr 0 0 0 0),(9,AV.ptr 1 0 0 0),(34,AV.vec true 4 [ratF r1,ratF r2,ratF r3]),(35,vi 3),(36,vi 2)],[⟨[zNqN6],4,0,false,false⟩,⟨[ratF r2],4,0,false,false⟩,⟨[ratF r2],4,0,false,false⟩],_,[],_⟩ (by kernel_rfl) (bc (Zal (Zab.2 d3)) (bc rfl (bc rfl b0))) q0 c0 (Zas [0,1] (by kernel_rfl) H)
 ·exact Zac (G:=Zad kp73 [] []) 1000 [false] ⟨(atC (cd Try.f73) [1,1,1,0,1,0,0]),[(8,AV.ptr 0 0 0 0),(9,AV.ptr 1 0 0 0),(34,AV.vec true 4 [ratF r1,ratF r2,ratF r3]),(35,vi 3),(36,vi 2)],[⟨[zNqN6],4,0,false,false⟩,⟨[ratF q],4,0,false,false⟩,⟨[ratF r2],4,0,false,false⟩],_,[],_⟩ (by kernel_rfl) (bc (Zak (fun h=>d3 (Zab.1 h))) b0) q0 c0 (Zas [0,1] (by kernel_rfl) H)
noncomputable abbrev zNqN7:=ag [vb false,AV.vnil,vb false,AV.vnil]
theorem qSeg2 (q r1 r2 r3:Rat)  (dq:AV) (H :
  (O.okR r3/\O.okR q) /\
  ((O.sgnI (r3.num*(↑q.den:Int)-q.num*(↑r3.den:Int))<0)->ZdK r3 r1 r2 r3 (Zaf dq)) /\
  (¬(O.sgnI (r3.num*(↑q.den:Int)-q.num*(↑r3.den:Int))<0)->ZdK q r1 r2 r3 (Zaf dq))) :
 ZdL q r1 r2 r3 (Zaf dq):=by
 unfold ZdL
 obtain ⟨k1,H⟩:=H
 refine Zac (G:=Zad kp73 [(7,2,.call (vi (O.sgnI (r3.num*(↑q.den:Int)-q.num*(↑r3.den:Int)))) none)] []) 11 [true] ⟨(atC (cd Try.f73) [1,1,1,0,1,0,0,1,1,0,0,1,1]),[(8,AV.ptr 0 0 0 0),(9,AV.ptr 1 0 0 0),(11,AV.ptr 2 0 0 0),(34,AV.vec true 4 [ratF r1,ratF r2,ratF r3]),(35,vi 3),(36,vi 2),(43,vb (decide (O.sgnI (r3.num*(↑q.den:Int)-q.num*(↑r3.den:Int))<0)))],[⟨[zNqN7],4,0,false,false⟩,⟨[ratF q],4,0,false,false⟩,⟨[ratF r3],4,0,false,false⟩],_,[],_⟩ (by kernel_rfl) (bc rfl (bc rfl (bc rfl (bc rfl (bc rfl (bc rfl b0)))))) q0 (ce (@ev72 false false false false r3 q k1) c0) ?_
 rcases xq H with ⟨d3,H⟩|⟨d3,H⟩
 ·exact Zac (G:=Zad kp73 [] []) 1000 [true] ⟨(atC (cd Try.f73) [1,1,1,0,1,0,0]),[(8,AV.ptr 0 0 0 0),(9,AV.ptr 1 0 0 0),(34,AV.vec true 4 [ratF r1,ratF r2,ratF r3]),(35,vi 3),(36,vi 3)],[⟨[zNqN7],4,0,false,false⟩,⟨[ratF r3],4,0,false,false⟩,⟨[ratF r3],4,0,false,false⟩],_,[],_⟩ (by kernel_rfl) (bc (Zal (Zab.2 d3)) (bc rfl (bc rfl b0))) q0 c0 (Zas [0,1] (by kernel_rfl) H)
 ·exact Zac (G:=Zad kp73 [] []) 1000 [false] ⟨(atC (cd Try.f73) [1,1,1,0,1,0,0]),[(8,AV.ptr 0 0 0 0),(9,AV.ptr 1 0 0 0),(34,AV.vec true 4 [ratF r1,ratF r2,ratF r3]),(35,vi 3),(36,vi 3)],[⟨[zNqN7],4,0,false,false⟩,⟨[ratF q],4,0,false,false⟩,⟨[ratF r3],4,0,false,false⟩],_,[],_⟩ (by kernel_rfl) (bc (Zak (fun h=>d3 (Zab.1 h))) b0) q0 c0 (Zas [0,1] (by kernel_rfl) H)
theorem qSeg3 (q r1 r2 r3:Rat)  (dq:AV) (H :
  Weak (ratF q) dq) :
 ZdK q r1 r2 r3 (Zaf dq):=by
 unfold ZdK
 exact Zao (G:=Zad kp73 [] []) 1000 [false] (ratF q) (by kernel_rfl) (bc rfl (bc rfl (bc rfl b0))) q0 c0 H
end Go.Av

namespace Go.Av
open Go.Proofs
namespace O
noncomputable def mn (r q:Rat):Rat:=if r<q then r else q
noncomputable def seg (x1 y1 x2 y2 x3 y3 x4 y4:Rat):Rat:=
 if crs x1 y1 x2 y2 x3 y3 x4 y4 then qi 0 else mn (tsg x3 y3 x4 y4 x2 y2) (mn (tsg x3 y3 x4 y4 x1 y1) (mn (tsg x1 y1 x2 y2 x4 y4) (tsg x1 y1 x2 y2 x3 y3)))
end O
theorem okT_mn {k:Nat} {r q:Rat} (h:O.okT k r) (h2:O.okT k q):O.okT k (O.mn r q):=by
 unfold O.mn
 split
 ·exact h
 ·exact h2
theorem mn_y {r q:Rat} (h:O.sgnI (r.num*(q.den:Int)-q.num*(r.den:Int))<0):O.mn r q=r:=if_pos (Zct.1 h)
theorem mn_n {r q:Rat} (h:¬O.sgnI (r.num*(q.den:Int)-q.num*(r.den:Int))<0):O.mn r q=q:=if_neg fun x=>h (Zct.2 x)
theorem seg_loop {q r1 r2 r3:Rat} (h:O.okT 400 q) (h1:O.okT 400 r1) (h2:O.okT 400 r2) (h3:O.okT 400 r3):ZeS q r1 r2 r3 (Zaf (ratF (O.mn r3 (O.mn r2 (O.mn r1 q))))):=by
 have R {r:Rat} (h:O.okT 400 r):O.okR r:=Zb4 h (by omega)
 have s3:∀ q,ZdK q r1 r2 r3 (Zaf (ratF q)):=fun q=>qSeg3 _ _ _ _ _ (.refl _)
 have s2:∀ q,O.okT 400 q->ZdL q r1 r2 r3 (Zaf (ratF (O.mn r3 q))):=fun q hq=>qSeg2 _ _ _ _ _ ⟨⟨R h3,R hq⟩,fun k=>by rw [mn_y k];exact s3 _,fun k=>by rw [mn_n k];exact s3 _⟩
 have s1:∀ q,O.okT 400 q->ZdM q r1 r2 r3 (Zaf (ratF (O.mn r3 (O.mn r2 q)))):=fun q hq=>qSeg1 _ _ _ _ _ ⟨⟨R h2,R hq⟩,fun k=>by rw [mn_y k];exact s2 _ h2,fun k=>by rw [mn_n k];exact s2 _ hq⟩
 exact qSeg0 _ _ _ _ _ ⟨⟨R h1,R h⟩,fun k=>by rw [mn_y k];exact s1 _ h1,fun k=>by rw [mn_n k];exact s1 _ h⟩
theorem okT_seg {x1 y1 x2 y2 x3 y3 x4 y4:Rat} (h:O.okV4 x1 y1 x2 y2 x3 y3 x4 y4):O.okT 400 (O.seg x1 y1 x2 y2 x3 y3 x4 y4):=by
 obtain ⟨h1,h2,h3,h4⟩:=h
 unfold O.seg
 split
 ·exact Zb6 (okT_int (by unfold O.inI;omega)) (by omega)
 ·exact okT_mn (Zc1 h3 h4 h2) (okT_mn (Zc1 h3 h4 h1) (okT_mn (Zc1 h1 h2 h4) (Zc1 h1 h2 h3)))
theorem ev73 (f1 f2 f3 f4 f5 f6 f7 f8 f9 f10 f11 f12 f13 f14 f15 f16:Bool) (x1 y1 x2 y2 x3 y3 x4 y4:Rat) (h:O.okV4 x1 y1 x2 y2 x3 y3 x4 y4):Ev M1 (.pure 73 [vecA f1 f2 f3 f4 x1 y1,vecA f5 f6 f7 f8 x2 y2,vecA f9 f10 f11 f12 x3 y3,vecA f13 f14 f15 f16 x4 y4]) (ratF (O.seg x1 y1 x2 y2 x3 y3 x4 y4)) []:=by
 have h0:=h
 obtain ⟨h1,h2,h3,h4⟩:=h
 refine call73 (qSeg _ _ _ _ _ _ _ _ _ _ _ _ _ _ _ _ _ _ _ _ _ _ _ _ _ ⟨h0,fun k=>⟨by unfold O.inI;omega,?_⟩,fun k=>⟨⟨h1,h2,h3⟩,⟨h1,h2,h4⟩,⟨h3,h4,h1⟩,⟨h3,h4,h2⟩,?_⟩⟩)
 ·unfold O.seg;rw [if_pos k];exact .refl _
 ·unfold O.seg;rw [if_neg k];exact seg_loop (Zc1 h1 h2 h3) (Zc1 h1 h2 h4) (Zc1 h3 h4 h1) (Zc1 h3 h4 h2)
section
variable {f:Bool} {cs:List Bx} {u0 v0 u1 v1 th gp sf:Int}
end
end Go.Av

namespace Go.Av
open Go.Proofs
set_option maxRecDepth 100000
def fi67:Fi:=⟨82,[.tmp 8]⟩
def kp67:List (Nat × List Nat):=[(0,[3,4,5,6]),(1,[3,4,5,6,16]),(2,[8]),(3,[3,4,5,6,24]),(4,[8]),(5,[4,5,6,9]),(6,[4,5,6,9]),(7,[4,9,10,11]),(8,[9,10,11,12]),(9,[9,10,11,12,61,62,63]),(10,[9,10,11,12,61,62,63,64]),(11,[9,10,11,12,13,14,61,62,63]),(12,[9,10,11,12,61,62,63,80]),(13,[8]),(14,[9,10,11,12,61,62,63]),(15,[8])]
def qNe_at (x0 y0 x1 y1 tp ax ay bx by_ r:Int) (Q:AV->Heap->Prop):Prop:=Wp M1 (.run fi67 (atC (cd Try.f67) []) [(0,.agg [.int .i64 x0,.int .i64 y0,.int .i64 x1,.int .i64 y1,.int .i64 tp]),(1,.agg [.int .i64 ax,.int .i64 ay]),(2,.agg [.int .i64 bx,.int .i64 by_]),(3,.int .i64 r)] []) Q
def qNe0_at (u0 v0 u1 v1 a1 a2 b1 b2 m:Rat) (Q:AV->Heap->Prop):Prop:=Wp M1 (.run fi67 (atC (cd Try.f67) [1,1,1,1,1,1,1,0,1,0,0]) [(9,.ptr 0 0 0 0),(10,.ptr 1 0 0 0),(11,.ptr 2 0 0 0),(12,.vec true 8 [.agg [.bool (O.Zaa u0.num),.vec false 1 ((O.Zag u0.num).map (.int .u32)),.bool (O.Zaa (u0.den:Int)),.vec false 1 ((O.Zag (u0.den:Int)).map (.int .u32)),.bool (O.Zaa v0.num),.vec false 1 ((O.Zag v0.num).map (.int .u32)),.bool (O.Zaa (v0.den:Int)),.vec false 1 ((O.Zag (v0.den:Int)).map (.int .u32))],.agg [.bool (O.Zaa u1.num),.vec false 1 ((O.Zag u1.num).map (.int .u32)),.bool (O.Zaa (u1.den:Int)),.vec false 1 ((O.Zag (u1.den:Int)).map (.int .u32)),.bool (O.Zaa v0.num),.vec false 1 ((O.Zag v0.num).map (.int .u32)),.bool (O.Zaa (v0.den:Int)),.vec false 1 ((O.Zag (v0.den:Int)).map (.int .u32))],.agg [.bool (O.Zaa u1.num),.vec false 1 ((O.Zag u1.num).map (.int .u32)),.bool (O.Zaa (u1.den:Int)),.vec false 1 ((O.Zag (u1.den:Int)).map (.int .u32)),.bool (O.Zaa v1.num),.vec false 1 ((O.Zag v1.num).map (.int .u32)),.bool (O.Zaa (v1.den:Int)),.vec false 1 ((O.Zag (v1.den:Int)).map (.int .u32))],.agg [.bool (O.Zaa u0.num),.vec false 1 ((O.Zag u0.num).map (.int .u32)),.bool (O.Zaa (u0.den:Int)),.vec false 1 ((O.Zag (u0.den:Int)).map (.int .u32)),.bool (O.Zaa v1.num),.vec false 1 ((O.Zag v1.num).map (.int .u32)),.bool (O.Zaa (v1.den:Int)),.vec false 1 ((O.Zag (v1.den:Int)).map (.int .u32))]]),(61,.vec true 8 [.agg [.bool (O.Zaa u0.num),.vec false 1 ((O.Zag u0.num).map (.int .u32)),.bool (O.Zaa (u0.den:Int)),.vec false 1 ((O.Zag (u0.den:Int)).map (.int .u32)),.bool (O.Zaa v0.num),.vec false 1 ((O.Zag v0.num).map (.int .u32)),.bool (O.Zaa (v0.den:Int)),.vec false 1 ((O.Zag (v0.den:Int)).map (.int .u32))],.agg [.bool (O.Zaa u1.num),.vec false 1 ((O.Zag u1.num).map (.int .u32)),.bool (O.Zaa (u1.den:Int)),.vec false 1 ((O.Zag (u1.den:Int)).map (.int .u32)),.bool (O.Zaa v0.num),.vec false 1 ((O.Zag v0.num).map (.int .u32)),.bool (O.Zaa (v0.den:Int)),.vec false 1 ((O.Zag (v0.den:Int)).map (.int .u32))],.agg [.bool (O.Zaa u1.num),.vec false 1 ((O.Zag u1.num).map (.int .u32)),.bool (O.Zaa (u1.den:Int)),.vec false 1 ((O.Zag (u1.den:Int)).map (.int .u32)),.bool (O.Zaa v1.num),.vec false 1 ((O.Zag v1.num).map (.int .u32)),.bool (O.Zaa (v1.den:Int)),.vec false 1 ((O.Zag (v1.den:Int)).map (.int .u32))],.agg [.bool (O.Zaa u0.num),.vec false 1 ((O.Zag u0.num).map (.int .u32)),.bool (O.Zaa (u0.den:Int)),.vec false 1 ((O.Zag (u0.den:Int)).map (.int .u32)),.bool (O.Zaa v1.num),.vec false 1 ((O.Zag v1.num).map (.int .u32)),.bool (O.Zaa (v1.den:Int)),.vec false 1 ((O.Zag (v1.den:Int)).map (.int .u32))]]),(62,.int .i64 4),(63,.int .i64 0)] [⟨[ratF m],4,0,false,false⟩,⟨[.agg [.bool (O.Zaa a1.num),.vec false 1 ((O.Zag a1.num).map (.int .u32)),.bool (O.Zaa (a1.den:Int)),.vec false 1 ((O.Zag (a1.den:Int)).map (.int .u32)),.bool (O.Zaa a2.num),.vec false 1 ((O.Zag a2.num).map (.int .u32)),.bool (O.Zaa (a2.den:Int)),.vec false 1 ((O.Zag (a2.den:Int)).map (.int .u32))]],8,0,false,false⟩,⟨[.agg [.bool (O.Zaa b1.num),.vec false 1 ((O.Zag b1.num).map (.int .u32)),.bool (O.Zaa (b1.den:Int)),.vec false 1 ((O.Zag (b1.den:Int)).map (.int .u32)),.bool (O.Zaa b2.num),.vec false 1 ((O.Zag b2.num).map (.int .u32)),.bool (O.Zaa (b2.den:Int)),.vec false 1 ((O.Zag (b2.den:Int)).map (.int .u32))]],8,0,false,false⟩]) Q
def qNe1_at (u0 v0 u1 v1 a1 a2 b1 b2 m:Rat) (Q:AV->Heap->Prop):Prop:=Wp M1 (.run fi67 (atC (cd Try.f67) [1,1,1,1,1,1,1,0,1,0,0]) [(9,.ptr 0 0 0 0),(10,.ptr 1 0 0 0),(11,.ptr 2 0 0 0),(12,.vec true 8 [.agg [.bool (O.Zaa u0.num),.vec false 1 ((O.Zag u0.num).map (.int .u32)),.bool (O.Zaa (u0.den:Int)),.vec false 1 ((O.Zag (u0.den:Int)).map (.int .u32)),.bool (O.Zaa v0.num),.vec false 1 ((O.Zag v0.num).map (.int .u32)),.bool (O.Zaa (v0.den:Int)),.vec false 1 ((O.Zag (v0.den:Int)).map (.int .u32))],.agg [.bool (O.Zaa u1.num),.vec false 1 ((O.Zag u1.num).map (.int .u32)),.bool (O.Zaa (u1.den:Int)),.vec false 1 ((O.Zag (u1.den:Int)).map (.int .u32)),.bool (O.Zaa v0.num),.vec false 1 ((O.Zag v0.num).map (.int .u32)),.bool (O.Zaa (v0.den:Int)),.vec false 1 ((O.Zag (v0.den:Int)).map (.int .u32))],.agg [.bool (O.Zaa u1.num),.vec false 1 ((O.Zag u1.num).map (.int .u32)),.bool (O.Zaa (u1.den:Int)),.vec false 1 ((O.Zag (u1.den:Int)).map (.int .u32)),.bool (O.Zaa v1.num),.vec false 1 ((O.Zag v1.num).map (.int .u32)),.bool (O.Zaa (v1.den:Int)),.vec false 1 ((O.Zag (v1.den:Int)).map (.int .u32))],.agg [.bool (O.Zaa u0.num),.vec false 1 ((O.Zag u0.num).map (.int .u32)),.bool (O.Zaa (u0.den:Int)),.vec false 1 ((O.Zag (u0.den:Int)).map (.int .u32)),.bool (O.Zaa v1.num),.vec false 1 ((O.Zag v1.num).map (.int .u32)),.bool (O.Zaa (v1.den:Int)),.vec false 1 ((O.Zag (v1.den:Int)).map (.int .u32))]]),(61,.vec true 8 [.agg [.bool (O.Zaa u0.num),.vec false 1 ((O.Zag u0.num).map (.int .u32)),.bool (O.Zaa (u0.den:Int)),.vec false 1 ((O.Zag (u0.den:Int)).map (.int .u32)),.bool (O.Zaa v0.num),.vec false 1 ((O.Zag v0.num).map (.int .u32)),.bool (O.Zaa (v0.den:Int)),.vec false 1 ((O.Zag (v0.den:Int)).map (.int .u32))],.agg [.bool (O.Zaa u1.num),.vec false 1 ((O.Zag u1.num).map (.int .u32)),.bool (O.Zaa (u1.den:Int)),.vec false 1 ((O.Zag (u1.den:Int)).map (.int .u32)),.bool (O.Zaa v0.num),.vec false 1 ((O.Zag v0.num).map (.int .u32)),.bool (O.Zaa (v0.den:Int)),.vec false 1 ((O.Zag (v0.den:Int)).map (.int .u32))],.agg [.bool (O.Zaa u1.num),.vec false 1 ((O.Zag u1.num).map (.int .u32)),.bool (O.Zaa (u1.den:Int)),.vec false 1 ((O.Zag (u1.den:Int)).map (.int .u32)),.bool (O.Zaa v1.num),.vec false 1 ((O.Zag v1.num).map (.int .u32)),.bool (O.Zaa (v1.den:Int)),.vec false 1 ((O.Zag (v1.den:Int)).map (.int .u32))],.agg [.bool (O.Zaa u0.num),.vec false 1 ((O.Zag u0.num).map (.int .u32)),.bool (O.Zaa (u0.den:Int)),.vec false 1 ((O.Zag (u0.den:Int)).map (.int .u32)),.bool (O.Zaa v1.num),.vec false 1 ((O.Zag v1.num).map (.int .u32)),.bool (O.Zaa (v1.den:Int)),.vec false 1 ((O.Zag (v1.den:Int)).map (.int .u32))]]),(62,.int .i64 4),(63,.int .i64 1)] [⟨[ratF m],4,0,false,false⟩,⟨[.agg [.bool (O.Zaa a1.num),.vec false 1 ((O.Zag a1.num).map (.int .u32)),.bool (O.Zaa (a1.den:Int)),.vec false 1 ((O.Zag (a1.den:Int)).map (.int .u32)),.bool (O.Zaa a2.num),.vec false 1 ((O.Zag a2.num).map (.int .u32)),.bool (O.Zaa (a2.den:Int)),.vec false 1 ((O.Zag (a2.den:Int)).map (.int .u32))]],8,0,false,false⟩,⟨[.agg [.bool (O.Zaa b1.num),.vec false 1 ((O.Zag b1.num).map (.int .u32)),.bool (O.Zaa (b1.den:Int)),.vec false 1 ((O.Zag (b1.den:Int)).map (.int .u32)),.bool (O.Zaa b2.num),.vec false 1 ((O.Zag b2.num).map (.int .u32)),.bool (O.Zaa (b2.den:Int)),.vec false 1 ((O.Zag (b2.den:Int)).map (.int .u32))]],8,0,false,false⟩]) Q
def qNe2_at (u0 v0 u1 v1 a1 a2 b1 b2 m:Rat) (Q:AV->Heap->Prop):Prop:=Wp M1 (.run fi67 (atC (cd Try.f67) [1,1,1,1,1,1,1,0,1,0,0]) [(9,.ptr 0 0 0 0),(10,.ptr 1 0 0 0),(11,.ptr 2 0 0 0),(12,.vec true 8 [.agg [.bool (O.Zaa u0.num),.vec false 1 ((O.Zag u0.num).map (.int .u32)),.bool (O.Zaa (u0.den:Int)),.vec false 1 ((O.Zag (u0.den:Int)).map (.int .u32)),.bool (O.Zaa v0.num),.vec false 1 ((O.Zag v0.num).map (.int .u32)),.bool (O.Zaa (v0.den:Int)),.vec false 1 ((O.Zag (v0.den:Int)).map (.int .u32))],.agg [.bool (O.Zaa u1.num),.vec false 1 ((O.Zag u1.num).map (.int .u32)),.bool (O.Zaa (u1.den:Int)),.vec false 1 ((O.Zag (u1.den:Int)).map (.int .u32)),.bool (O.Zaa v0.num),.vec false 1 ((O.Zag v0.num).map (.int .u32)),.bool (O.Zaa (v0.den:Int)),.vec false 1 ((O.Zag (v0.den:Int)).map (.int .u32))],.agg [.bool (O.Zaa u1.num),.vec false 1 ((O.Zag u1.num).map (.int .u32)),.bool (O.Zaa (u1.den:Int)),.vec false 1 ((O.Zag (u1.den:Int)).map (.int .u32)),.bool (O.Zaa v1.num),.vec false 1 ((O.Zag v1.num).map (.int .u32)),.bool (O.Zaa (v1.den:Int)),.vec false 1 ((O.Zag (v1.den:Int)).map (.int .u32))],.agg [.bool (O.Zaa u0.num),.vec false 1 ((O.Zag u0.num).map (.int .u32)),.bool (O.Zaa (u0.den:Int)),.vec false 1 ((O.Zag (u0.den:Int)).map (.int .u32)),.bool (O.Zaa v1.num),.vec false 1 ((O.Zag v1.num).map (.int .u32)),.bool (O.Zaa (v1.den:Int)),.vec false 1 ((O.Zag (v1.den:Int)).map (.int .u32))]]),(61,.vec true 8 [.agg [.bool (O.Zaa u0.num),.vec false 1 ((O.Zag u0.num).map (.int .u32)),.bool (O.Zaa (u0.den:Int)),.vec false 1 ((O.Zag (u0.den:Int)).map (.int .u32)),.bool (O.Zaa v0.num),.vec false 1 ((O.Zag v0.num).map (.int .u32)),.bool (O.Zaa (v0.den:Int)),.vec false 1 ((O.Zag (v0.den:Int)).map (.int .u32))],.agg [.bool (O.Zaa u1.num),.vec false 1 ((O.Zag u1.num).map (.int .u32)),.bool (O.Zaa (u1.den:Int)),.vec false 1 ((O.Zag (u1.den:Int)).map (.int .u32)),.bool (O.Zaa v0.num),.vec false 1 ((O.Zag v0.num).map (.int .u32)),.bool (O.Zaa (v0.den:Int)),.vec false 1 ((O.Zag (v0.den:Int)).map (.int .u32))],.agg [.bool (O.Zaa u1.num),.vec false 1 ((O.Zag u1.num).map (.int .u32)),.bool (O.Zaa (u1.den:Int)),.vec false 1 ((O.Zag (u1.den:Int)).map (.int .u32)),.bool (O.Zaa v1.num),.vec false 1 ((O.Zag v1.num).map (.int .u32)),.bool (O.Zaa (v1.den:Int)),.vec false 1 ((O.Zag (v1.den:Int)).map (.int .u32))],.agg [.bool (O.Zaa u0.num),.vec false 1 ((O.Zag u0.num).map (.int .u32)),.bool (O.Zaa (u0.den:Int)),.vec false 1 ((O.Zag (u0.den:Int)).map (.int .u32)),.bool (O.Zaa v1.num),.vec false 1 ((O.Zag v1.num).map (.int .u32)),.bool (O.Zaa (v1.den:Int)),.vec false 1 ((O.Zag (v1.den:Int)).map (.int .u32))]]),(62,.int .i64 4),(63,.int .i64 2)] [⟨[ratF m],4,0,false,false⟩,⟨[.agg [.bool (O.Zaa a1.num),.vec false 1 ((O.Zag a1.num).map (.int .u32)),.bool (O.Zaa (a1.den:Int)),.vec false 1 ((O.Zag (a1.den:Int)).map (.int .u32)),.bool (O.Zaa a2.num),.vec false 1 ((O.Zag a2.num).map (.int .u32)),.bool (O.Zaa (a2.den:Int)),.vec false 1 ((O.Zag (a2.den:Int)).map (.int .u32))]],8,0,false,false⟩,⟨[.agg [.bool (O.Zaa b1.num),.vec false 1 ((O.Zag b1.num).map (.int .u32)),.bool (O.Zaa (b1.den:Int)),.vec false 1 ((O.Zag (b1.den:Int)).map (.int .u32)),.bool (O.Zaa b2.num),.vec false 1 ((O.Zag b2.num).map (.int .u32)),.bool (O.Zaa (b2.den:Int)),.vec false 1 ((O.Zag (b2.den:Int)).map (.int .u32))]],8,0,false,false⟩]) Q
def qNe3_at (u0 v0 u1 v1 a1 a2 b1 b2 m:Rat) (Q:AV->Heap->Prop):Prop:=Wp M1 (.run fi67 (atC (cd Try.f67) [1,1,1,1,1,1,1,0,1,0,0]) [(9,.ptr 0 0 0 0),(10,.ptr 1 0 0 0),(11,.ptr 2 0 0 0),(12,.vec true 8 [.agg [.bool (O.Zaa u0.num),.vec false 1 ((O.Zag u0.num).map (.int .u32)),.bool (O.Zaa (u0.den:Int)),.vec false 1 ((O.Zag (u0.den:Int)).map (.int .u32)),.bool (O.Zaa v0.num),.vec false 1 ((O.Zag v0.num).map (.int .u32)),.bool (O.Zaa (v0.den:Int)),.vec false 1 ((O.Zag (v0.den:Int)).map (.int .u32))],.agg [.bool (O.Zaa u1.num),.vec false 1 ((O.Zag u1.num).map (.int .u32)),.bool (O.Zaa (u1.den:Int)),.vec false 1 ((O.Zag (u1.den:Int)).map (.int .u32)),.bool (O.Zaa v0.num),.vec false 1 ((O.Zag v0.num).map (.int .u32)),.bool (O.Zaa (v0.den:Int)),.vec false 1 ((O.Zag (v0.den:Int)).map (.int .u32))],.agg [.bool (O.Zaa u1.num),.vec false 1 ((O.Zag u1.num).map (.int .u32)),.bool (O.Zaa (u1.den:Int)),.vec false 1 ((O.Zag (u1.den:Int)).map (.int .u32)),.bool (O.Zaa v1.num),.vec false 1 ((O.Zag v1.num).map (.int .u32)),.bool (O.Zaa (v1.den:Int)),.vec false 1 ((O.Zag (v1.den:Int)).map (.int .u32))],.agg [.bool (O.Zaa u0.num),.vec false 1 ((O.Zag u0.num).map (.int .u32)),.bool (O.Zaa (u0.den:Int)),.vec false 1 ((O.Zag (u0.den:Int)).map (.int .u32)),.bool (O.Zaa v1.num),.vec false 1 ((O.Zag v1.num).map (.int .u32)),.bool (O.Zaa (v1.den:Int)),.vec false 1 ((O.Zag (v1.den:Int)).map (.int .u32))]]),(61,.vec true 8 [.agg [.bool (O.Zaa u0.num),.vec false 1 ((O.Zag u0.num).map (.int .u32)),.bool (O.Zaa (u0.den:Int)),.vec false 1 ((O.Zag (u0.den:Int)).map (.int .u32)),.bool (O.Zaa v0.num),.vec false 1 ((O.Zag v0.num).map (.int .u32)),.bool (O.Zaa (v0.den:Int)),.vec false 1 ((O.Zag (v0.den:Int)).map (.int .u32))],.agg [.bool (O.Zaa u1.num),.vec false 1 ((O.Zag u1.num).map (.int .u32)),.bool (O.Zaa (u1.den:Int)),.vec false 1 ((O.Zag (u1.den:Int)).map (.int .u32)),.bool (O.Zaa v0.num),.vec false 1 ((O.Zag v0.num).map (.int .u32)),.bool (O.Zaa (v0.den:Int)),.vec false 1 ((O.Zag (v0.den:Int)).map (.int .u32))],.agg [.bool (O.Zaa u1.num),.vec false 1 ((O.Zag u1.num).map (.int .u32)),.bool (O.Zaa (u1.den:Int)),.vec false 1 ((O.Zag (u1.den:Int)).map (.int .u32)),.bool (O.Zaa v1.num),.vec false 1 ((O.Zag v1.num).map (.int .u32)),.bool (O.Zaa (v1.den:Int)),.vec false 1 ((O.Zag (v1.den:Int)).map (.int .u32))],.agg [.bool (O.Zaa u0.num),.vec false 1 ((O.Zag u0.num).map (.int .u32)),.bool (O.Zaa (u0.den:Int)),.vec false 1 ((O.Zag (u0.den:Int)).map (.int .u32)),.bool (O.Zaa v1.num),.vec false 1 ((O.Zag v1.num).map (.int .u32)),.bool (O.Zaa (v1.den:Int)),.vec false 1 ((O.Zag (v1.den:Int)).map (.int .u32))]]),(62,.int .i64 4),(63,.int .i64 3)] [⟨[ratF m],4,0,false,false⟩,⟨[.agg [.bool (O.Zaa a1.num),.vec false 1 ((O.Zag a1.num).map (.int .u32)),.bool (O.Zaa (a1.den:Int)),.vec false 1 ((O.Zag (a1.den:Int)).map (.int .u32)),.bool (O.Zaa a2.num),.vec false 1 ((O.Zag a2.num).map (.int .u32)),.bool (O.Zaa (a2.den:Int)),.vec false 1 ((O.Zag (a2.den:Int)).map (.int .u32))]],8,0,false,false⟩,⟨[.agg [.bool (O.Zaa b1.num),.vec false 1 ((O.Zag b1.num).map (.int .u32)),.bool (O.Zaa (b1.den:Int)),.vec false 1 ((O.Zag (b1.den:Int)).map (.int .u32)),.bool (O.Zaa b2.num),.vec false 1 ((O.Zag b2.num).map (.int .u32)),.bool (O.Zaa (b2.den:Int)),.vec false 1 ((O.Zag (b2.den:Int)).map (.int .u32))]],8,0,false,false⟩]) Q
def qNe4_at (u0 v0 u1 v1 a1 a2 b1 b2 m:Rat) (Q:AV->Heap->Prop):Prop:=Wp M1 (.run fi67 (atC (cd Try.f67) [1,1,1,1,1,1,1,0,1,0,0]) [(9,.ptr 0 0 0 0),(10,.ptr 1 0 0 0),(11,.ptr 2 0 0 0),(12,.vec true 8 [.agg [.bool (O.Zaa u0.num),.vec false 1 ((O.Zag u0.num).map (.int .u32)),.bool (O.Zaa (u0.den:Int)),.vec false 1 ((O.Zag (u0.den:Int)).map (.int .u32)),.bool (O.Zaa v0.num),.vec false 1 ((O.Zag v0.num).map (.int .u32)),.bool (O.Zaa (v0.den:Int)),.vec false 1 ((O.Zag (v0.den:Int)).map (.int .u32))],.agg [.bool (O.Zaa u1.num),.vec false 1 ((O.Zag u1.num).map (.int .u32)),.bool (O.Zaa (u1.den:Int)),.vec false 1 ((O.Zag (u1.den:Int)).map (.int .u32)),.bool (O.Zaa v0.num),.vec false 1 ((O.Zag v0.num).map (.int .u32)),.bool (O.Zaa (v0.den:Int)),.vec false 1 ((O.Zag (v0.den:Int)).map (.int .u32))],.agg [.bool (O.Zaa u1.num),.vec false 1 ((O.Zag u1.num).map (.int .u32)),.bool (O.Zaa (u1.den:Int)),.vec false 1 ((O.Zag (u1.den:Int)).map (.int .u32)),.bool (O.Zaa v1.num),.vec false 1 ((O.Zag v1.num).map (.int .u32)),.bool (O.Zaa (v1.den:Int)),.vec false 1 ((O.Zag (v1.den:Int)).map (.int .u32))],.agg [.bool (O.Zaa u0.num),.vec false 1 ((O.Zag u0.num).map (.int .u32)),.bool (O.Zaa (u0.den:Int)),.vec false 1 ((O.Zag (u0.den:Int)).map (.int .u32)),.bool (O.Zaa v1.num),.vec false 1 ((O.Zag v1.num).map (.int .u32)),.bool (O.Zaa (v1.den:Int)),.vec false 1 ((O.Zag (v1.den:Int)).map (.int .u32))]]),(61,.vec true 8 [.agg [.bool (O.Zaa u0.num),.vec false 1 ((O.Zag u0.num).map (.int .u32)),.bool (O.Zaa (u0.den:Int)),.vec false 1 ((O.Zag (u0.den:Int)).map (.int .u32)),.bool (O.Zaa v0.num),.vec false 1 ((O.Zag v0.num).map (.int .u32)),.bool (O.Zaa (v0.den:Int)),.vec false 1 ((O.Zag (v0.den:Int)).map (.int .u32))],.agg [.bool (O.Zaa u1.num),.vec false 1 ((O.Zag u1.num).map (.int .u32)),.bool (O.Zaa (u1.den:Int)),.vec false 1 ((O.Zag (u1.den:Int)).map (.int .u32)),.bool (O.Zaa v0.num),.vec false 1 ((O.Zag v0.num).map (.int .u32)),.bool (O.Zaa (v0.den:Int)),.vec false 1 ((O.Zag (v0.den:Int)).map (.int .u32))],.agg [.bool (O.Zaa u1.num),.vec false 1 ((O.Zag u1.num).map (.int .u32)),.bool (O.Zaa (u1.den:Int)),.vec false 1 ((O.Zag (u1.den:Int)).map (.int .u32)),.bool (O.Zaa v1.num),.vec false 1 ((O.Zag v1.num).map (.int .u32)),.bool (O.Zaa (v1.den:Int)),.vec false 1 ((O.Zag (v1.den:Int)).map (.int .u32))],.agg [.bool (O.Zaa u0.num),.vec false 1 ((O.Zag u0.num).map (.int .u32)),.bool (O.Zaa (u0.den:Int)),.vec false 1 ((O.Zag (u0.den:Int)).map (.int .u32)),.bool (O.Zaa v1.num),.vec false 1 ((O.Zag v1.num).map (.int .u32)),.bool (O.Zaa (v1.den:Int)),.vec false 1 ((O.Zag (v1.den:Int)).map (.int .u32))]]),(62,.int .i64 4),(63,.int .i64 4)] [⟨[ratF m],4,0,false,false⟩,⟨[.agg [.bool (O.Zaa a1.num),.vec false 1 ((O.Zag a1.num).map (.int .u32)),.bool (O.Zaa (a1.den:Int)),.vec false 1 ((O.Zag (a1.den:Int)).map (.int .u32)),.bool (O.Zaa a2.num),.vec false 1 ((O.Zag a2.num).map (.int .u32)),.bool (O.Zaa (a2.den:Int)),.vec false 1 ((O.Zag (a2.den:Int)).map (.int .u32))]],8,0,false,false⟩,⟨[.agg [.bool (O.Zaa b1.num),.vec false 1 ((O.Zag b1.num).map (.int .u32)),.bool (O.Zaa (b1.den:Int)),.vec false 1 ((O.Zag (b1.den:Int)).map (.int .u32)),.bool (O.Zaa b2.num),.vec false 1 ((O.Zag b2.num).map (.int .u32)),.bool (O.Zaa (b2.den:Int)),.vec false 1 ((O.Zag (b2.den:Int)).map (.int .u32))]],8,0,false,false⟩]) Q
theorem call67 {args:List AV} {d:AV} (h:wc M1 fi67 Try.f67 args d):Ev M1 (.pure 67 args) d []:=pcl _ _ (by kernel_rfl) h
noncomputable abbrev zNqO1 (bx:Int) (by_:Int):=ag [vb (O.Zaa (O.qi bx).num),vf (us (O.Zag (O.qi bx).num)),vb (O.Zaa (↑(O.qi bx).den:Int)),vf (us (O.Zag (↑(O.qi bx).den:Int))),vb (O.Zaa (O.qi by_).num),vf (us (O.Zag (O.qi by_).num)),vb (O.Zaa (↑(O.qi by_).den:Int)),vf (us (O.Zag (↑(O.qi by_).den:Int)))]
noncomputable abbrev zNqO2 (ax:Int) (ay:Int):=ag [vb (O.Zaa (O.qi ax).num),vf (us (O.Zag (O.qi ax).num)),vb (O.Zaa (↑(O.qi ax).den:Int)),vf (us (O.Zag (↑(O.qi ax).den:Int))),vb (O.Zaa (O.qi ay).num),vf (us (O.Zag (O.qi ay).num)),vb (O.Zaa (↑(O.qi ay).den:Int)),vf (us (O.Zag (↑(O.qi ay).den:Int)))]
noncomputable abbrev zNqO3 (x0:Int) (y0:Int):=ag [vb (O.Zaa (O.qi x0).num),vf (us (O.Zag (O.qi x0).num)),vb (O.Zaa (↑(O.qi x0).den:Int)),vf (us (O.Zag (↑(O.qi x0).den:Int))),vb (O.Zaa (O.qi y0).num),vf (us (O.Zag (O.qi y0).num)),vb (O.Zaa (↑(O.qi y0).den:Int)),vf (us (O.Zag (↑(O.qi y0).den:Int)))]
noncomputable abbrev zNqO4 (x1:Int) (y0:Int):=ag [vb (O.Zaa (O.qi x1).num),vf (us (O.Zag (O.qi x1).num)),vb (O.Zaa (↑(O.qi x1).den:Int)),vf (us (O.Zag (↑(O.qi x1).den:Int))),vb (O.Zaa (O.qi y0).num),vf (us (O.Zag (O.qi y0).num)),vb (O.Zaa (↑(O.qi y0).den:Int)),vf (us (O.Zag (↑(O.qi y0).den:Int)))]
noncomputable abbrev zNqO5 (x1:Int) (y1:Int):=ag [vb (O.Zaa (O.qi x1).num),vf (us (O.Zag (O.qi x1).num)),vb (O.Zaa (↑(O.qi x1).den:Int)),vf (us (O.Zag (↑(O.qi x1).den:Int))),vb (O.Zaa (O.qi y1).num),vf (us (O.Zag (O.qi y1).num)),vb (O.Zaa (↑(O.qi y1).den:Int)),vf (us (O.Zag (↑(O.qi y1).den:Int)))]
noncomputable abbrev zNqO6 (x0:Int) (y1:Int):=ag [vb (O.Zaa (O.qi x0).num),vf (us (O.Zag (O.qi x0).num)),vb (O.Zaa (↑(O.qi x0).den:Int)),vf (us (O.Zag (↑(O.qi x0).den:Int))),vb (O.Zaa (O.qi y1).num),vf (us (O.Zag (O.qi y1).num)),vb (O.Zaa (↑(O.qi y1).den:Int)),vf (us (O.Zag (↑(O.qi y1).den:Int)))]
noncomputable abbrev zNqO7 (x0:Int) (y0:Int) (x1:Int) (y1:Int) (tp:Int):=ag [vi x0,vi y0,vi x1,vi y1,vi tp]
noncomputable abbrev zNqO8 (bx:Int) (by_:Int):=ag [vi bx,vi by_]
noncomputable abbrev zNqO9 (ax:Int) (ay:Int):=ag [vi ax,vi ay]
theorem qNe (x0 y0 x1 y1 tp ax ay bx by_ r:Int)  (dq:AV) (H :
  ((r<=0)->vb false=dq) /\
  (¬(r<=0)->(((O.hld x0 y0 x1 y1 ax ay)\/(O.hld x0 y0 x1 y1 bx by_))->vb true=dq) /\
   (¬((O.hld x0 y0 x1 y1 ax ay)\/(O.hld x0 y0 x1 y1 bx by_))->(O.inI r) /\
    (O.okR (O.qi r)/\O.okR (O.qi r)) /\
    (O.inI2 ax ay) /\
    (O.inI2 bx by_) /\
    (O.inI2 x0 y0) /\
    (O.inI2 x1 y0) /\
    (O.inI2 x1 y1) /\
    (O.inI2 x0 y1) /\
    qNe0_at (O.qi x0) (O.qi y0) (O.qi x1) (O.qi y1) (O.qi ax) (O.qi ay) (O.qi bx) (O.qi by_) (O.qi r*O.qi r) (Zaf dq)))) :
 qNe_at x0 y0 x1 y1 tp ax ay bx by_ r (Zaf dq):=by
 unfold qNe_at
 rcases xq H with ⟨d2,H⟩|⟨d2,H⟩
 ·exact Zah (G:=Zad kp67 [] []) 1000 [true] (vb false) (by kernel_rfl) (bc (Zal (Zab.2 d2)) b0) q0 c0 H
 ·refine Zac (G:=Zad kp67 [(3,2,.call (vb (decide (O.hld x0 y0 x1 y1 ax ay))) none),(3,6,.call (vb (decide (O.hld x0 y0 x1 y1 bx by_))) none)] []) 10 [false] ⟨(atC (cd Try.f67) [1,1,0,1]),[(3,vi r),(4,AV.ptr 0 0 0 0),(5,AV.ptr 1 0 0 0),(6,AV.ptr 2 0 0 0),(24,vb (bif decide (O.hld x0 y0 x1 y1 ax ay) then true else decide (O.hld x0 y0 x1 y1 bx by_)))],[⟨[(zNqO7 x0 y0 x1 y1 tp)],5,0,false,false⟩,⟨[(zNqO9 ax ay)],2,0,false,false⟩,⟨[(zNqO8 bx by_)],2,0,false,false⟩],[(decide (r<=0))==false,true,true,!(decide (O.hld x0 y0 x1 y1 ax ay)==false&&true)||true,!(decide (O.hld x0 y0 x1 y1 ax ay)==false&&true)||true],[],[⟨true,false,68,[(zNqO7 x0 y0 x1 y1 tp),(zNqO9 ax ay)],[],vb (decide (O.hld x0 y0 x1 y1 ax ay)),[]⟩,⟨decide (O.hld x0 y0 x1 y1 ax ay)==false&&true&&true,false,68,[(zNqO7 x0 y0 x1 y1 tp),(zNqO8 bx by_)],[],vb (decide (O.hld x0 y0 x1 y1 bx by_)),[]⟩]⟩ (by kernel_rfl) (bc (Zak (fun h=>d2 (Zab.1 h))) (bc rfl (bc rfl (bc (Bool.or_true _) (bc (Bool.or_true _) b0))))) q0 (cc (fun _=>(@ev68 x0 y0 x1 y1 tp ax ay)) (cc (fun hc=>((@ev68 x0 y0 x1 y1 tp bx by_):Ev M1 (Conf.pure 68 [(zNqO7 x0 y0 x1 y1 tp),(zNqO8 bx by_)]) (vb (decide (O.hld x0 y0 x1 y1 bx by_))) [])) c0)) ?_
  rcases xq H with ⟨d5,H⟩|⟨d5,H⟩
  ·exact Zah (G:=Zad kp67 [] []) 1000 [true] (vb true) (by kernel_rfl) (bc (Zal ((ZaF Zab Zab).2 d5)) b0) q0 c0 H
  ·obtain ⟨k6,k7,k8,k9,H⟩:=H
   refine Zac (G:=Zad kp67 [(5,1,.call (ratF (O.qi r)) none),(6,2,.call (ratF (O.qi r*O.qi r)) none),(7,4,.call ((zNqO2 ax ay)) none),(7,9,.call ((zNqO1 bx by_)) none)] []) 7 [false] ⟨(atC (cd Try.f67) [1,1,1,1,1,0]),[(4,AV.ptr 0 0 0 0),(5,AV.ptr 1 0 0 0),(6,AV.ptr 2 0 0 0),(9,AV.ptr 3 0 0 0)],[⟨[(zNqO7 x0 y0 x1 y1 tp)],5,0,false,false⟩,⟨[(zNqO9 ax ay)],2,0,false,false⟩,⟨[(zNqO8 bx by_)],2,0,false,false⟩,⟨[ratF (O.qi r*O.qi r)],4,0,false,false⟩],_,[],_⟩ (by kernel_rfl) (bc (Zak (fun h=>d5 ((ZaF Zab Zab).1 h))) (bc rfl (bc rfl (bc rfl (bc rfl b0))))) q0 (ce (@ev69 r k6) (ce (@ev70 false false false false (O.qi r) (O.qi r) k7) c0)) (ZcR (G:=Zad kp67 [(5,1,.call (ratF (O.qi r)) none),(6,2,.call (ratF (O.qi r*O.qi r)) none),(7,4,.call ((zNqO2 ax ay)) none),(7,9,.call ((zNqO1 bx by_)) none)] []) [0,1,2,3,5,4] 10 (e1:=[(4,AV.ptr 0 0 0 0),(9,AV.ptr 3 0 0 0),(10,AV.ptr 4 0 0 0),(11,AV.ptr 5 0 0 0)]) (L1:=[⟨[(zNqO7 x0 y0 x1 y1 tp)],5,0,false,false⟩,⟨[(zNqO9 ax ay)],2,0,false,false⟩,⟨[(zNqO8 bx by_)],2,0,false,false⟩,⟨[ratF (O.qi r*O.qi r)],4,0,false,false⟩,⟨[(zNqO2 ax ay)],8,0,false,false⟩,⟨[(zNqO1 bx by_)],8,0,false,false⟩]) (a:=[true,true,true,true,true,true]) (q:=[]) (cs:=[⟨true,false,71,[vi ax,vi ay],[],(zNqO2 ax ay),[]⟩,⟨true,false,71,[vi bx,vi by_],[],(zNqO1 bx by_),[]⟩]) (by kernel_rfl) (by kernel_rfl) (Zae rfl (Zae rfl (Zae rfl (Zae rfl (Zae rfl (Zae rfl Zaw)))))) ZaK (ZaN (fun _=>(@ev71 ax ay k8)) (ZaN (fun _=>(@ev71 bx by_ k9)) ZaL)) ?_)
   obtain ⟨k10,k11,k12,k13,H⟩:=H
   exact Zac (G:=Zad kp67 [(8,4,.call ((zNqO3 x0 y0)) none),(8,9,.call ((zNqO4 x1 y0)) none),(8,14,.call ((zNqO5 x1 y1)) none),(8,19,.call ((zNqO6 x0 y1)) none)] []) 1000 [] ⟨(atC (cd Try.f67) [1,1,1,1,1,1,1,0,1,0,0]),[(9,AV.ptr 3 0 0 0),(10,AV.ptr 4 0 0 0),(11,AV.ptr 5 0 0 0),(12,AV.vec true 8 [(zNqO3 x0 y0),(zNqO4 x1 y0),(zNqO5 x1 y1),(zNqO6 x0 y1)]),(61,AV.vec true 8 [(zNqO3 x0 y0),(zNqO4 x1 y0),(zNqO5 x1 y1),(zNqO6 x0 y1)]),(62,vi 4),(63,vi 0)],[⟨[(zNqO7 x0 y0 x1 y1 tp)],5,0,false,false⟩,⟨[(zNqO9 ax ay)],2,0,false,false⟩,⟨[(zNqO8 bx by_)],2,0,false,false⟩,⟨[ratF (O.qi r*O.qi r)],4,0,false,false⟩,⟨[(zNqO2 ax ay)],8,0,false,false⟩,⟨[(zNqO1 bx by_)],8,0,false,false⟩],_,[],_⟩ (by kernel_rfl) (bc rfl (bc rfl (bc rfl (bc rfl (bc rfl (bc rfl (bc rfl (bc rfl b0)))))))) q0 (ce (@ev71 x0 y0 k10) (ce (@ev71 x1 y0 k11) (ce (@ev71 x1 y1 k12) (ce (@ev71 x0 y1 k13) c0)))) (Zas [3,4,5] (by kernel_rfl) H)
noncomputable abbrev Zgp (u0:Rat) (v0:Rat):=ag [vb (O.Zaa u0.num),vf (us (O.Zag u0.num)),vb (O.Zaa (↑u0.den:Int)),vf (us (O.Zag (↑u0.den:Int))),vb (O.Zaa v0.num),vf (us (O.Zag v0.num)),vb (O.Zaa (↑v0.den:Int)),vf (us (O.Zag (↑v0.den:Int)))]
noncomputable abbrev zNqO11 (u1:Rat) (v0:Rat):=ag [vb (O.Zaa u1.num),vf (us (O.Zag u1.num)),vb (O.Zaa (↑u1.den:Int)),vf (us (O.Zag (↑u1.den:Int))),vb (O.Zaa v0.num),vf (us (O.Zag v0.num)),vb (O.Zaa (↑v0.den:Int)),vf (us (O.Zag (↑v0.den:Int)))]
noncomputable abbrev zNqO12 (u1:Rat) (v1:Rat):=ag [vb (O.Zaa u1.num),vf (us (O.Zag u1.num)),vb (O.Zaa (↑u1.den:Int)),vf (us (O.Zag (↑u1.den:Int))),vb (O.Zaa v1.num),vf (us (O.Zag v1.num)),vb (O.Zaa (↑v1.den:Int)),vf (us (O.Zag (↑v1.den:Int)))]
noncomputable abbrev zNqO13 (u0:Rat) (v1:Rat):=ag [vb (O.Zaa u0.num),vf (us (O.Zag u0.num)),vb (O.Zaa (↑u0.den:Int)),vf (us (O.Zag (↑u0.den:Int))),vb (O.Zaa v1.num),vf (us (O.Zag v1.num)),vb (O.Zaa (↑v1.den:Int)),vf (us (O.Zag (↑v1.den:Int)))]
noncomputable abbrev zNqO14 (a1:Rat) (a2:Rat):=ag [vb (O.Zaa a1.num),vf (us (O.Zag a1.num)),vb (O.Zaa (↑a1.den:Int)),vf (us (O.Zag (↑a1.den:Int))),vb (O.Zaa a2.num),vf (us (O.Zag a2.num)),vb (O.Zaa (↑a2.den:Int)),vf (us (O.Zag (↑a2.den:Int)))]
noncomputable abbrev zNqO15 (b1:Rat) (b2:Rat):=ag [vb (O.Zaa b1.num),vf (us (O.Zag b1.num)),vb (O.Zaa (↑b1.den:Int)),vf (us (O.Zag (↑b1.den:Int))),vb (O.Zaa b2.num),vf (us (O.Zag b2.num)),vb (O.Zaa (↑b2.den:Int)),vf (us (O.Zag (↑b2.den:Int)))]
theorem qNe0 (u0 v0 u1 v1 a1 a2 b1 b2 m:Rat)  (dq:AV) (H :
  (O.okV4 a1 a2 b1 b2 u0 v0 u1 v0) /\
  (O.okR (O.seg a1 a2 b1 b2 u0 v0 u1 v0)/\O.okR m) /\
  ((O.sgnI ((O.seg a1 a2 b1 b2 u0 v0 u1 v0).num*(↑m.den:Int)-m.num*(↑(O.seg a1 a2 b1 b2 u0 v0 u1 v0).den:Int))<0)->vb true=dq) /\
  (¬(O.sgnI ((O.seg a1 a2 b1 b2 u0 v0 u1 v0).num*(↑m.den:Int)-m.num*(↑(O.seg a1 a2 b1 b2 u0 v0 u1 v0).den:Int))<0)->qNe1_at u0 v0 u1 v1 a1 a2 b1 b2 m (Zaf dq))) :
 qNe0_at u0 v0 u1 v1 a1 a2 b1 b2 m (Zaf dq):=by
 unfold qNe0_at
 obtain ⟨k1,k2,H⟩:=H
 refine Zac (G:=Zad kp67 [(12,9,.call (ratF (O.seg a1 a2 b1 b2 u0 v0 u1 v0)) none),(12,11,.call (vi (O.sgnI ((O.seg a1 a2 b1 b2 u0 v0 u1 v0).num*(↑m.den:Int)-m.num*(↑(O.seg a1 a2 b1 b2 u0 v0 u1 v0).den:Int)))) none)] []) 11 [true] ⟨(atC (cd Try.f67) [1,1,1,1,1,1,1,0,1,0,0,1,1,0,0,1,1]),[(9,AV.ptr 0 0 0 0),(10,AV.ptr 1 0 0 0),(11,AV.ptr 2 0 0 0),(12,AV.vec true 8 [(Zgp u0 v0),(zNqO11 u1 v0),(zNqO12 u1 v1),(zNqO13 u0 v1)]),(61,AV.vec true 8 [(Zgp u0 v0),(zNqO11 u1 v0),(zNqO12 u1 v1),(zNqO13 u0 v1)]),(62,vi 4),(63,vi 0),(80,vb (decide (O.sgnI ((O.seg a1 a2 b1 b2 u0 v0 u1 v0).num*(↑m.den:Int)-m.num*(↑(O.seg a1 a2 b1 b2 u0 v0 u1 v0).den:Int))<0)))],[⟨[ratF m],4,0,false,false⟩,⟨[(zNqO14 a1 a2)],8,0,false,false⟩,⟨[(zNqO15 b1 b2)],8,0,false,false⟩,⟨[(Zgp u0 v0)],8,0,false,false⟩],_,[],_⟩ (by kernel_rfl) (bc rfl (bc rfl (bc rfl (bc rfl (bc rfl (bc rfl (bc rfl (bc rfl (bc rfl (bc rfl (bc rfl b0))))))))))) q0 (ce (@ev73 false false false false false false false false false false false false false false false false a1 a2 b1 b2 u0 v0 u1 v0 k1) (ce (@ev72 false false false false (O.seg a1 a2 b1 b2 u0 v0 u1 v0) m k2) c0)) ?_
 rcases xq H with ⟨d4,H⟩|⟨d4,H⟩
 ·exact Zah (G:=Zad kp67 [] []) 1000 [true] (vb true) (by kernel_rfl) (bc (Zal (Zab.2 d4)) b0) q0 c0 H
 ·exact Zac (G:=Zad kp67 [] []) 1000 [false] ⟨(atC (cd Try.f67) [1,1,1,1,1,1,1,0,1,0,0]),[(9,AV.ptr 0 0 0 0),(10,AV.ptr 1 0 0 0),(11,AV.ptr 2 0 0 0),(12,AV.vec true 8 [(Zgp u0 v0),(zNqO11 u1 v0),(zNqO12 u1 v1),(zNqO13 u0 v1)]),(61,AV.vec true 8 [(Zgp u0 v0),(zNqO11 u1 v0),(zNqO12 u1 v1),(zNqO13 u0 v1)]),(62,vi 4),(63,vi 1)],[⟨[ratF m],4,0,false,false⟩,⟨[(zNqO14 a1 a2)],8,0,false,false⟩,⟨[(zNqO15 b1 b2)],8,0,false,false⟩,⟨[(Zgp u0 v0)],8,0,false,false⟩],_,[],_⟩ (by kernel_rfl) (bc (Zak (fun h=>d4 (Zab.1 h))) b0) q0 c0 (Zas [0,1,2] (by kernel_rfl) H)
noncomputable abbrev Zgo (u1:Rat) (v0:Rat):=ag [vb (O.Zaa u1.num),vf (us (O.Zag u1.num)),vb (O.Zaa (↑u1.den:Int)),vf (us (O.Zag (↑u1.den:Int))),vb (O.Zaa v0.num),vf (us (O.Zag v0.num)),vb (O.Zaa (↑v0.den:Int)),vf (us (O.Zag (↑v0.den:Int)))]
noncomputable abbrev zNqO17 (u0:Rat) (v0:Rat):=ag [vb (O.Zaa u0.num),vf (us (O.Zag u0.num)),vb (O.Zaa (↑u0.den:Int)),vf (us (O.Zag (↑u0.den:Int))),vb (O.Zaa v0.num),vf (us (O.Zag v0.num)),vb (O.Zaa (↑v0.den:Int)),vf (us (O.Zag (↑v0.den:Int)))]
noncomputable abbrev zNqO18 (u1:Rat) (v1:Rat):=ag [vb (O.Zaa u1.num),vf (us (O.Zag u1.num)),vb (O.Zaa (↑u1.den:Int)),vf (us (O.Zag (↑u1.den:Int))),vb (O.Zaa v1.num),vf (us (O.Zag v1.num)),vb (O.Zaa (↑v1.den:Int)),vf (us (O.Zag (↑v1.den:Int)))]
noncomputable abbrev zNqO19 (u0:Rat) (v1:Rat):=ag [vb (O.Zaa u0.num),vf (us (O.Zag u0.num)),vb (O.Zaa (↑u0.den:Int)),vf (us (O.Zag (↑u0.den:Int))),vb (O.Zaa v1.num),vf (us (O.Zag v1.num)),vb (O.Zaa (↑v1.den:Int)),vf (us (O.Zag (↑v1.den:Int)))]
noncomputable abbrev zNqO20 (a1:Rat) (a2:Rat):=ag [vb (O.Zaa a1.num),vf (us (O.Zag a1.num)),vb (O.Zaa (↑a1.den:Int)),vf (us (O.Zag (↑a1.den:Int))),vb (O.Zaa a2.num),vf (us (O.Zag a2.num)),vb (O.Zaa (↑a2.den:Int)),vf (us (O.Zag (↑a2.den:Int)))]
noncomputable abbrev zNqO21 (b1:Rat) (b2:Rat):=ag [vb (O.Zaa b1.num),vf (us (O.Zag b1.num)),vb (O.Zaa (↑b1.den:Int)),vf (us (O.Zag (↑b1.den:Int))),vb (O.Zaa b2.num),vf (us (O.Zag b2.num)),vb (O.Zaa (↑b2.den:Int)),vf (us (O.Zag (↑b2.den:Int)))]
theorem qNe1 (u0 v0 u1 v1 a1 a2 b1 b2 m:Rat)  (dq:AV) (H :
  (O.okV4 a1 a2 b1 b2 u1 v0 u1 v1) /\
  (O.okR (O.seg a1 a2 b1 b2 u1 v0 u1 v1)/\O.okR m) /\
  ((O.sgnI ((O.seg a1 a2 b1 b2 u1 v0 u1 v1).num*(↑m.den:Int)-m.num*(↑(O.seg a1 a2 b1 b2 u1 v0 u1 v1).den:Int))<0)->vb true=dq) /\
  (¬(O.sgnI ((O.seg a1 a2 b1 b2 u1 v0 u1 v1).num*(↑m.den:Int)-m.num*(↑(O.seg a1 a2 b1 b2 u1 v0 u1 v1).den:Int))<0)->qNe2_at u0 v0 u1 v1 a1 a2 b1 b2 m (Zaf dq))) :
 qNe1_at u0 v0 u1 v1 a1 a2 b1 b2 m (Zaf dq):=by
 unfold qNe1_at
 obtain ⟨k1,k2,H⟩:=H
 refine Zac (G:=Zad kp67 [(12,9,.call (ratF (O.seg a1 a2 b1 b2 u1 v0 u1 v1)) none),(12,11,.call (vi (O.sgnI ((O.seg a1 a2 b1 b2 u1 v0 u1 v1).num*(↑m.den:Int)-m.num*(↑(O.seg a1 a2 b1 b2 u1 v0 u1 v1).den:Int)))) none)] []) 11 [true] ⟨(atC (cd Try.f67) [1,1,1,1,1,1,1,0,1,0,0,1,1,0,0,1,1]),[(9,AV.ptr 0 0 0 0),(10,AV.ptr 1 0 0 0),(11,AV.ptr 2 0 0 0),(12,AV.vec true 8 [(zNqO17 u0 v0),(Zgo u1 v0),(zNqO18 u1 v1),(zNqO19 u0 v1)]),(61,AV.vec true 8 [(zNqO17 u0 v0),(Zgo u1 v0),(zNqO18 u1 v1),(zNqO19 u0 v1)]),(62,vi 4),(63,vi 1),(80,vb (decide (O.sgnI ((O.seg a1 a2 b1 b2 u1 v0 u1 v1).num*(↑m.den:Int)-m.num*(↑(O.seg a1 a2 b1 b2 u1 v0 u1 v1).den:Int))<0)))],[⟨[ratF m],4,0,false,false⟩,⟨[(zNqO20 a1 a2)],8,0,false,false⟩,⟨[(zNqO21 b1 b2)],8,0,false,false⟩,⟨[(Zgo u1 v0)],8,0,false,false⟩],_,[],_⟩ (by kernel_rfl) (bc rfl (bc rfl (bc rfl (bc rfl (bc rfl (bc rfl (bc rfl (bc rfl (bc rfl (bc rfl (bc rfl b0))))))))))) q0 (ce (@ev73 false false false false false false false false false false false false false false false false a1 a2 b1 b2 u1 v0 u1 v1 k1) (ce (@ev72 false false false false (O.seg a1 a2 b1 b2 u1 v0 u1 v1) m k2) c0)) ?_
 rcases xq H with ⟨d4,H⟩|⟨d4,H⟩
 ·exact Zah (G:=Zad kp67 [] []) 1000 [true] (vb true) (by kernel_rfl) (bc (Zal (Zab.2 d4)) b0) q0 c0 H
 ·exact Zac (G:=Zad kp67 [] []) 1000 [false] ⟨(atC (cd Try.f67) [1,1,1,1,1,1,1,0,1,0,0]),[(9,AV.ptr 0 0 0 0),(10,AV.ptr 1 0 0 0),(11,AV.ptr 2 0 0 0),(12,AV.vec true 8 [(zNqO17 u0 v0),(Zgo u1 v0),(zNqO18 u1 v1),(zNqO19 u0 v1)]),(61,AV.vec true 8 [(zNqO17 u0 v0),(Zgo u1 v0),(zNqO18 u1 v1),(zNqO19 u0 v1)]),(62,vi 4),(63,vi 2)],[⟨[ratF m],4,0,false,false⟩,⟨[(zNqO20 a1 a2)],8,0,false,false⟩,⟨[(zNqO21 b1 b2)],8,0,false,false⟩,⟨[(Zgo u1 v0)],8,0,false,false⟩],_,[],_⟩ (by kernel_rfl) (bc (Zak (fun h=>d4 (Zab.1 h))) b0) q0 c0 (Zas [0,1,2] (by kernel_rfl) H)
noncomputable abbrev Zgn (u1:Rat) (v1:Rat):=ag [vb (O.Zaa u1.num),vf (us (O.Zag u1.num)),vb (O.Zaa (↑u1.den:Int)),vf (us (O.Zag (↑u1.den:Int))),vb (O.Zaa v1.num),vf (us (O.Zag v1.num)),vb (O.Zaa (↑v1.den:Int)),vf (us (O.Zag (↑v1.den:Int)))]
noncomputable abbrev zNqO23 (u0:Rat) (v0:Rat):=ag [vb (O.Zaa u0.num),vf (us (O.Zag u0.num)),vb (O.Zaa (↑u0.den:Int)),vf (us (O.Zag (↑u0.den:Int))),vb (O.Zaa v0.num),vf (us (O.Zag v0.num)),vb (O.Zaa (↑v0.den:Int)),vf (us (O.Zag (↑v0.den:Int)))]
noncomputable abbrev zNqO24 (u1:Rat) (v0:Rat):=ag [vb (O.Zaa u1.num),vf (us (O.Zag u1.num)),vb (O.Zaa (↑u1.den:Int)),vf (us (O.Zag (↑u1.den:Int))),vb (O.Zaa v0.num),vf (us (O.Zag v0.num)),vb (O.Zaa (↑v0.den:Int)),vf (us (O.Zag (↑v0.den:Int)))]
noncomputable abbrev zNqO25 (u0:Rat) (v1:Rat):=ag [vb (O.Zaa u0.num),vf (us (O.Zag u0.num)),vb (O.Zaa (↑u0.den:Int)),vf (us (O.Zag (↑u0.den:Int))),vb (O.Zaa v1.num),vf (us (O.Zag v1.num)),vb (O.Zaa (↑v1.den:Int)),vf (us (O.Zag (↑v1.den:Int)))]
noncomputable abbrev zNqO26 (a1:Rat) (a2:Rat):=ag [vb (O.Zaa a1.num),vf (us (O.Zag a1.num)),vb (O.Zaa (↑a1.den:Int)),vf (us (O.Zag (↑a1.den:Int))),vb (O.Zaa a2.num),vf (us (O.Zag a2.num)),vb (O.Zaa (↑a2.den:Int)),vf (us (O.Zag (↑a2.den:Int)))]
noncomputable abbrev zNqO27 (b1:Rat) (b2:Rat):=ag [vb (O.Zaa b1.num),vf (us (O.Zag b1.num)),vb (O.Zaa (↑b1.den:Int)),vf (us (O.Zag (↑b1.den:Int))),vb (O.Zaa b2.num),vf (us (O.Zag b2.num)),vb (O.Zaa (↑b2.den:Int)),vf (us (O.Zag (↑b2.den:Int)))]
theorem qNe2 (u0 v0 u1 v1 a1 a2 b1 b2 m:Rat)  (dq:AV) (H :
  (O.okV4 a1 a2 b1 b2 u1 v1 u0 v1) /\
  (O.okR (O.seg a1 a2 b1 b2 u1 v1 u0 v1)/\O.okR m) /\
  ((O.sgnI ((O.seg a1 a2 b1 b2 u1 v1 u0 v1).num*(↑m.den:Int)-m.num*(↑(O.seg a1 a2 b1 b2 u1 v1 u0 v1).den:Int))<0)->vb true=dq) /\
  (¬(O.sgnI ((O.seg a1 a2 b1 b2 u1 v1 u0 v1).num*(↑m.den:Int)-m.num*(↑(O.seg a1 a2 b1 b2 u1 v1 u0 v1).den:Int))<0)->qNe3_at u0 v0 u1 v1 a1 a2 b1 b2 m (Zaf dq))) :
 qNe2_at u0 v0 u1 v1 a1 a2 b1 b2 m (Zaf dq):=by
 unfold qNe2_at
 obtain ⟨k1,k2,H⟩:=H
 refine Zac (G:=Zad kp67 [(12,9,.call (ratF (O.seg a1 a2 b1 b2 u1 v1 u0 v1)) none),(12,11,.call (vi (O.sgnI ((O.seg a1 a2 b1 b2 u1 v1 u0 v1).num*(↑m.den:Int)-m.num*(↑(O.seg a1 a2 b1 b2 u1 v1 u0 v1).den:Int)))) none)] []) 11 [true] ⟨(atC (cd Try.f67) [1,1,1,1,1,1,1,0,1,0,0,1,1,0,0,1,1]),[(9,AV.ptr 0 0 0 0),(10,AV.ptr 1 0 0 0),(11,AV.ptr 2 0 0 0),(12,AV.vec true 8 [(zNqO23 u0 v0),(zNqO24 u1 v0),(Zgn u1 v1),(zNqO25 u0 v1)]),(61,AV.vec true 8 [(zNqO23 u0 v0),(zNqO24 u1 v0),(Zgn u1 v1),(zNqO25 u0 v1)]),(62,vi 4),(63,vi 2),(80,vb (decide (O.sgnI ((O.seg a1 a2 b1 b2 u1 v1 u0 v1).num*(↑m.den:Int)-m.num*(↑(O.seg a1 a2 b1 b2 u1 v1 u0 v1).den:Int))<0)))],[⟨[ratF m],4,0,false,false⟩,⟨[(zNqO26 a1 a2)],8,0,false,false⟩,⟨[(zNqO27 b1 b2)],8,0,false,false⟩,⟨[(Zgn u1 v1)],8,0,false,false⟩],_,[],_⟩ (by kernel_rfl) (bc rfl (bc rfl (bc rfl (bc rfl (bc rfl (bc rfl (bc rfl (bc rfl (bc rfl (bc rfl (bc rfl b0))))))))))) q0 (ce (@ev73 false false false false false false false false false false false false false false false false a1 a2 b1 b2 u1 v1 u0 v1 k1) (ce (@ev72 false false false false (O.seg a1 a2 b1 b2 u1 v1 u0 v1) m k2) c0)) ?_
 rcases xq H with ⟨d4,H⟩|⟨d4,H⟩
 ·exact Zah (G:=Zad kp67 [] []) 1000 [true] (vb true) (by kernel_rfl) (bc (Zal (Zab.2 d4)) b0) q0 c0 H
 ·exact Zac (G:=Zad kp67 [] []) 1000 [false] ⟨(atC (cd Try.f67) [1,1,1,1,1,1,1,0,1,0,0]),[(9,AV.ptr 0 0 0 0),(10,AV.ptr 1 0 0 0),(11,AV.ptr 2 0 0 0),(12,AV.vec true 8 [(zNqO23 u0 v0),(zNqO24 u1 v0),(Zgn u1 v1),(zNqO25 u0 v1)]),(61,AV.vec true 8 [(zNqO23 u0 v0),(zNqO24 u1 v0),(Zgn u1 v1),(zNqO25 u0 v1)]),(62,vi 4),(63,vi 3)],[⟨[ratF m],4,0,false,false⟩,⟨[(zNqO26 a1 a2)],8,0,false,false⟩,⟨[(zNqO27 b1 b2)],8,0,false,false⟩,⟨[(Zgn u1 v1)],8,0,false,false⟩],_,[],_⟩ (by kernel_rfl) (bc (Zak (fun h=>d4 (Zab.1 h))) b0) q0 c0 (Zas [0,1,2] (by kernel_rfl) H)
noncomputable abbrev Zgm (u0:Rat) (v1:Rat):=ag [vb (O.Zaa u0.num),vf (us (O.Zag u0.num)),vb (O.Zaa (↑u0.den:Int)),vf (us (O.Zag (↑u0.den:Int))),vb (O.Zaa v1.num),vf (us (O.Zag v1.num)),vb (O.Zaa (↑v1.den:Int)),vf (us (O.Zag (↑v1.den:Int)))]
noncomputable abbrev zNqO29 (u0:Rat) (v0:Rat):=ag [vb (O.Zaa u0.num),vf (us (O.Zag u0.num)),vb (O.Zaa (↑u0.den:Int)),vf (us (O.Zag (↑u0.den:Int))),vb (O.Zaa v0.num),vf (us (O.Zag v0.num)),vb (O.Zaa (↑v0.den:Int)),vf (us (O.Zag (↑v0.den:Int)))]
noncomputable abbrev zNqO30 (u1:Rat) (v0:Rat):=ag [vb (O.Zaa u1.num),vf (us (O.Zag u1.num)),vb (O.Zaa (↑u1.den:Int)),vf (us (O.Zag (↑u1.den:Int))),vb (O.Zaa v0.num),vf (us (O.Zag v0.num)),vb (O.Zaa (↑v0.den:Int)),vf (us (O.Zag (↑v0.den:Int)))]
noncomputable abbrev zNqO31 (u1:Rat) (v1:Rat):=ag [vb (O.Zaa u1.num),vf (us (O.Zag u1.num)),vb (O.Zaa (↑u1.den:Int)),vf (us (O.Zag (↑u1.den:Int))),vb (O.Zaa v1.num),vf (us (O.Zag v1.num)),vb (O.Zaa (↑v1.den:Int)),vf (us (O.Zag (↑v1.den:Int)))]
noncomputable abbrev zNqO32 (a1:Rat) (a2:Rat):=ag [vb (O.Zaa a1.num),vf (us (O.Zag a1.num)),vb (O.Zaa (↑a1.den:Int)),vf (us (O.Zag (↑a1.den:Int))),vb (O.Zaa a2.num),vf (us (O.Zag a2.num)),vb (O.Zaa (↑a2.den:Int)),vf (us (O.Zag (↑a2.den:Int)))]
noncomputable abbrev zNqO33 (b1:Rat) (b2:Rat):=ag [vb (O.Zaa b1.num),vf (us (O.Zag b1.num)),vb (O.Zaa (↑b1.den:Int)),vf (us (O.Zag (↑b1.den:Int))),vb (O.Zaa b2.num),vf (us (O.Zag b2.num)),vb (O.Zaa (↑b2.den:Int)),vf (us (O.Zag (↑b2.den:Int)))]
theorem qNe3 (u0 v0 u1 v1 a1 a2 b1 b2 m:Rat)  (dq:AV) (H :
  (O.okV4 a1 a2 b1 b2 u0 v1 u0 v0) /\
  (O.okR (O.seg a1 a2 b1 b2 u0 v1 u0 v0)/\O.okR m) /\
  ((O.sgnI ((O.seg a1 a2 b1 b2 u0 v1 u0 v0).num*(↑m.den:Int)-m.num*(↑(O.seg a1 a2 b1 b2 u0 v1 u0 v0).den:Int))<0)->vb true=dq) /\
  (¬(O.sgnI ((O.seg a1 a2 b1 b2 u0 v1 u0 v0).num*(↑m.den:Int)-m.num*(↑(O.seg a1 a2 b1 b2 u0 v1 u0 v0).den:Int))<0)->qNe4_at u0 v0 u1 v1 a1 a2 b1 b2 m (Zaf dq))) :
 qNe3_at u0 v0 u1 v1 a1 a2 b1 b2 m (Zaf dq):=by
 unfold qNe3_at
 obtain ⟨k1,k2,H⟩:=H
 refine Zac (G:=Zad kp67 [(12,9,.call (ratF (O.seg a1 a2 b1 b2 u0 v1 u0 v0)) none),(12,11,.call (vi (O.sgnI ((O.seg a1 a2 b1 b2 u0 v1 u0 v0).num*(↑m.den:Int)-m.num*(↑(O.seg a1 a2 b1 b2 u0 v1 u0 v0).den:Int)))) none)] []) 11 [true] ⟨(atC (cd Try.f67) [1,1,1,1,1,1,1,0,1,0,0,1,1,0,0,1,1]),[(9,AV.ptr 0 0 0 0),(10,AV.ptr 1 0 0 0),(11,AV.ptr 2 0 0 0),(12,AV.vec true 8 [(zNqO29 u0 v0),(zNqO30 u1 v0),(zNqO31 u1 v1),(Zgm u0 v1)]),(61,AV.vec true 8 [(zNqO29 u0 v0),(zNqO30 u1 v0),(zNqO31 u1 v1),(Zgm u0 v1)]),(62,vi 4),(63,vi 3),(80,vb (decide (O.sgnI ((O.seg a1 a2 b1 b2 u0 v1 u0 v0).num*(↑m.den:Int)-m.num*(↑(O.seg a1 a2 b1 b2 u0 v1 u0 v0).den:Int))<0)))],[⟨[ratF m],4,0,false,false⟩,⟨[(zNqO32 a1 a2)],8,0,false,false⟩,⟨[(zNqO33 b1 b2)],8,0,false,false⟩,⟨[(Zgm u0 v1)],8,0,false,false⟩],_,[],_⟩ (by kernel_rfl) (bc rfl (bc rfl (bc rfl (bc rfl (bc rfl (bc rfl (bc rfl (bc rfl (bc rfl (bc rfl (bc rfl b0))))))))))) q0 (ce (@ev73 false false false false false false false false false false false false false false false false a1 a2 b1 b2 u0 v1 u0 v0 k1) (ce (@ev72 false false false false (O.seg a1 a2 b1 b2 u0 v1 u0 v0) m k2) c0)) ?_
 rcases xq H with ⟨d4,H⟩|⟨d4,H⟩
 ·exact Zah (G:=Zad kp67 [] []) 1000 [true] (vb true) (by kernel_rfl) (bc (Zal (Zab.2 d4)) b0) q0 c0 H
 ·exact Zac (G:=Zad kp67 [] []) 1000 [false] ⟨(atC (cd Try.f67) [1,1,1,1,1,1,1,0,1,0,0]),[(9,AV.ptr 0 0 0 0),(10,AV.ptr 1 0 0 0),(11,AV.ptr 2 0 0 0),(12,AV.vec true 8 [(zNqO29 u0 v0),(zNqO30 u1 v0),(zNqO31 u1 v1),(Zgm u0 v1)]),(61,AV.vec true 8 [(zNqO29 u0 v0),(zNqO30 u1 v0),(zNqO31 u1 v1),(Zgm u0 v1)]),(62,vi 4),(63,vi 4)],[⟨[ratF m],4,0,false,false⟩,⟨[(zNqO32 a1 a2)],8,0,false,false⟩,⟨[(zNqO33 b1 b2)],8,0,false,false⟩,⟨[(Zgm u0 v1)],8,0,false,false⟩],_,[],_⟩ (by kernel_rfl) (bc (Zak (fun h=>d4 (Zab.1 h))) b0) q0 c0 (Zas [0,1,2] (by kernel_rfl) H)
theorem qNe4 (u0 v0 u1 v1 a1 a2 b1 b2 m:Rat)  (dq:AV) (H :
  vb false=dq) :
 qNe4_at u0 v0 u1 v1 a1 a2 b1 b2 m (Zaf dq):=by
 unfold qNe4_at
 exact Zah (G:=Zad kp67 [] []) 1000 [false] (vb false) (by kernel_rfl) (bc rfl b0) q0 c0 H
end Go.Av

namespace Go.Av
open Go.Proofs
namespace O
noncomputable def neS (p0 q0 p1 q1 a1 a2 b1 b2 m:Rat):Prop:=seg a1 a2 b1 b2 p0 q0 p1 q0<m\/seg a1 a2 b1 b2 p1 q0 p1 q1<m\/seg a1 a2 b1 b2 p1 q1 p0 q1<m\/seg a1 a2 b1 b2 p0 q1 p0 q0<m
noncomputable def nea (x0 y0 x1 y1 ax ay bx by_ r:Int):Prop:=¬(r<=0)/\(hld x0 y0 x1 y1 ax ay\/hld x0 y0 x1 y1 bx by_\/neS (qi x0) (qi y0) (qi x1) (qi y1) (qi ax) (qi ay) (qi bx) (qi by_) (qi r*qi r))
def okNe (x0 y0 x1 y1 ax ay bx by_ r:Int):Prop:=cc x0/\cc y0/\cc x1/\cc y1/\cc ax/\cc ay/\cc bx/\cc by_/\cc r
end O
noncomputable instance (p0 q0 p1 q1 a1 a2 b1 b2 m:Rat):Decidable (O.neS p0 q0 p1 q1 a1 a2 b1 b2 m):=by unfold O.neS;infer_instance
noncomputable instance (x0 y0 x1 y1 ax ay bx by_ r:Int):Decidable (O.nea x0 y0 x1 y1 ax ay bx by_ r):=by unfold O.nea;infer_instance
theorem cc_inI {n:Int} (h:O.cc n):O.inI n:=by unfold O.cc at h;unfold O.inI;omega
theorem okT_qi {n:Int} (h:O.cc n):O.okT 10 (O.qi n):=Zb6 (okT_int (cc_inI h)) (by omega)
theorem near_loop {p0 q0 p1 q1 a1 a2 b1 b2 m:Rat} (h1:O.okV p0 q0) (h2:O.okV p1 q1) (h3:O.okV a1 a2) (h4:O.okV b1 b2) (hm:O.okT 400 m):qNe0_at p0 q0 p1 q1 a1 a2 b1 b2 m (Zaf (.bool (decide (O.neS p0 q0 p1 q1 a1 a2 b1 b2 m)))):=by
 have R {r:Rat} (h:O.okT 400 r):O.okR r:=Zb4 h (by omega)
 have g1:O.okV p1 q0:=⟨h2.1,h1.2⟩
 have g2:O.okV p0 q1:=⟨h1.1,h2.2⟩
 have k0:O.okV4 a1 a2 b1 b2 p0 q0 p1 q0:=⟨h3,h4,h1,g1⟩
 have k1:O.okV4 a1 a2 b1 b2 p1 q0 p1 q1:=⟨h3,h4,g1,h2⟩
 have k2:O.okV4 a1 a2 b1 b2 p1 q1 p0 q1:=⟨h3,h4,h2,g2⟩
 have k3:O.okV4 a1 a2 b1 b2 p0 q1 p0 q0:=⟨h3,h4,g2,h1⟩
 have y:∀ h:O.neS p0 q0 p1 q1 a1 a2 b1 b2 m,AV.bool true = .bool (decide (O.neS p0 q0 p1 q1 a1 a2 b1 b2 m)):=fun h=>by rw [dec_t h]
 refine qNe0 _ _ _ _ _ _ _ _ _ _ ⟨k0,⟨R (okT_seg k0),R hm⟩,fun x=>y (.inl (Zct.1 x)),fun x0 => ?_⟩
 refine qNe1 _ _ _ _ _ _ _ _ _ _ ⟨k1,⟨R (okT_seg k1),R hm⟩,fun x=>y (.inr (.inl (Zct.1 x))),fun x1 => ?_⟩
 refine qNe2 _ _ _ _ _ _ _ _ _ _ ⟨k2,⟨R (okT_seg k2),R hm⟩,fun x=>y (.inr (.inr (.inl (Zct.1 x)))),fun x2 => ?_⟩
 refine qNe3 _ _ _ _ _ _ _ _ _ _ ⟨k3,⟨R (okT_seg k3),R hm⟩,fun x=>y (.inr (.inr (.inr (Zct.1 x)))),fun x3 => ?_⟩
 refine qNe4 _ _ _ _ _ _ _ _ _ _ ?_
 rw [decide_eq_false]
 rintro (h | h | h | h)
 ·exact x0 (Zct.2 h)
 ·exact x1 (Zct.2 h)
 ·exact x2 (Zct.2 h)
 ·exact x3 (Zct.2 h)
theorem ev67 (x0 y0 x1 y1 tp ax ay bx by_ r:Int) (h:O.okNe x0 y0 x1 y1 ax ay bx by_ r):Ev M1 (.pure 67 [.agg [.int .i64 x0,.int .i64 y0,.int .i64 x1,.int .i64 y1,.int .i64 tp],.agg [.int .i64 ax,.int .i64 ay],.agg [.int .i64 bx,.int .i64 by_],.int .i64 r]) (.bool (decide (O.nea x0 y0 x1 y1 ax ay bx by_ r))) []:=by
 obtain ⟨c1,c2,c3,c4,c5,c6,c7,c8,c9⟩:=h
 have V {u v:Int} (a:O.cc u) (b:O.cc v):O.okV (O.qi u) (O.qi v):=⟨okT_qi a,okT_qi b⟩
 have J {u v:Int} (a:O.cc u) (b:O.cc v):O.inI2 u v:=⟨cc_inI a,cc_inI b⟩
 have mm:O.okT 400 (O.qi r*O.qi r):=Zb6 (Zcj (okT_qi c9) (okT_qi c9)) (by omega)
 have R:O.okR (O.qi r):=Zb4 (okT_qi c9) (by omega)
 refine call67 (qNe _ _ _ _ _ _ _ _ _ _ _ ⟨fun k => ?_,fun k=>⟨fun j => ?_,fun j=>⟨cc_inI c9,⟨R,R⟩,J c5 c6,J c7 c8,J c1 c2,J c3 c2,J c3 c4,J c1 c4,?_⟩⟩⟩)
 ·rw [decide_eq_false fun x=>x.1 k]
 ·rw [decide_eq_true (show O.nea x0 y0 x1 y1 ax ay bx by_ r from ⟨k,j.elim .inl fun x => .inr (.inl x)⟩)]
 ·have e:decide (O.nea x0 y0 x1 y1 ax ay bx by_ r)=decide (O.neS (O.qi x0) (O.qi y0) (O.qi x1) (O.qi y1) (O.qi ax) (O.qi ay) (O.qi bx) (O.qi by_) (O.qi r*O.qi r)):=
   ZdD ⟨fun x=>x.2.elim (fun y=>absurd (.inl y) j) fun y=>y.elim (fun y=>absurd (.inr y) j) id,fun x=>⟨k,.inr (.inr x)⟩⟩
  rw [e]
  exact near_loop (V c1 c2) (V c3 c4) (V c5 c6) (V c7 c8) mm
end Go.Av

namespace Go.Av
open Go.Proofs
set_option maxRecDepth 100000
def fi30:Fi:=⟨4,[.cell 0 45]⟩
def kp30:List (Nat × List Nat):=[(0,[0]),(1,[0])]
def fi31:Fi:=⟨46,[.tmp 6]⟩
def kp31:List (Nat × List Nat):=[(0,[1,2,3]),(1,[1,2,3,7]),(2,[1,2,7,11,12,13]),(3,[1,2,7,11,12,13,14]),(4,[1,2,7,9,11,12,13]),(5,[1,2,7,9,11,12,13,21]),(6,[1,2,7,11,12,13]),(7,[1,2,7,11,12,13]),(8,[6])]
def fi54:Fi:=⟨41,[.tmp 8,.tmp 9]⟩
def kp54:List (Nat × List Nat):=[(0,[3,4,5,6]),(1,[3,4,5,6,10,11]),(2,[3,5,6,10,11,15,16,17]),(3,[3,5,6,10,11,15,16,17,18]),(4,[3,5,6,10,11,13,15,16,17]),(5,[3,5,6,10,11,13,15,16,17,35]),(6,[3,5,6,10,11,15,16,17]),(7,[3,5,6,10,11,15,16,17]),(8,[8,9])]
def qHi_at (f:Bool) (cs:List Bx) (u0 v0 u1 v1 th gp sf:Int) (ax ay bx by_ r:Int) (Q:AV->Heap->Prop):Prop:=Wp M1 (.run fi54 (atC (cd Try.f54) []) [(0,.agg [.int .i64 u0,.int .i64 v0,.int .i64 u1,.int .i64 v1,.int .i64 th,.int .i64 gp,.vec f 5 (cs.map Bx.a),.int .i64 sf]),(1,.agg [.int .i64 ax,.int .i64 ay]),(2,.agg [.int .i64 bx,.int .i64 by_]),(3,.int .i64 r)] []) Q
def Zel (f:Bool) (cs:List Bx) (ax ay bx by_ r t:Int) (fo:Bool) (n i:Int) (Q:AV->Heap->Prop):Prop:=Wp M1 (.run fi54 (atC (cd Try.f54) [1,1,0,1,0,0]) [(3,.int .i64 r),(5,.ptr 0 0 0 0),(6,.ptr 1 0 0 0),(10,.int .i64 t),(11,.bool fo),(15,.vec f 5 (cs.map Bx.a)),(16,.int .i64 n),(17,.int .i64 i)] [⟨[.agg [.int .i64 ax,.int .i64 ay]],2,0,false,false⟩,⟨[.agg [.int .i64 bx,.int .i64 by_]],2,0,false,false⟩]) Q
def qBl_at (f:Bool) (cs:List Bx) (u0 v0 u1 v1 th gp sf:Int) (z r:Int) (Q:AV->Heap->Prop):Prop:=Wp M1 (.run fi31 (atC (cd Try.f31) []) [(0,.agg [.int .i64 u0,.int .i64 v0,.int .i64 u1,.int .i64 v1,.int .i64 th,.int .i64 gp,.vec f 5 (cs.map Bx.a),.int .i64 sf]),(1,.int .i64 z),(2,.int .i64 r)] []) Q
def Zfu (f:Bool) (cs:List Bx) (z r n i:Int) (Q:AV->Heap->Prop):Prop:=Wp M1 (.run fi31 (atC (cd Try.f31) [1,1,0,1,0,0]) [(1,.int .i64 z),(2,.int .i64 r),(7,.vnil),(11,.vec f 5 (cs.map Bx.a)),(12,.int .i64 n),(13,.int .i64 i)] []) Q
def Zem (f:Bool) (cs gs:List Bx) (v:Nat) (z r n i:Int) (Q:AV->Heap->Prop):Prop:=Wp M1 (.run fi31 (atC (cd Try.f31) [1,1,0,1,0,0]) [(1,.int .i64 z),(2,.int .i64 r),(7,.row 0 v),(11,.vec f 5 (cs.map Bx.a)),(12,.int .i64 n),(13,.int .i64 i)] [⟨gs.map Bx.a,5,v,false,true⟩]) Q
def qBen_at  (Q:AV->Heap->Prop):Prop:=Wp M1 (.run fi30 (atC (cd Try.f30) []) [] []) Q
theorem call30 {args:List AV} {d:AV} (h:wc M1 fi30 Try.f30 args d):Ev M1 (.pure 30 args) d []:=pcl _ _ (by kernel_rfl) h
theorem call31 {args:List AV} {d:AV} (h:wc M1 fi31 Try.f31 args d):Ev M1 (.pure 31 args) d []:=pcl _ _ (by kernel_rfl) h
theorem call54 {args:List AV} {d:AV} (h:wc M1 fi54 Try.f54 args d):Ev M1 (.pure 54 args) d []:=pcl _ _ (by kernel_rfl) h
theorem qHi (f:Bool) (cs:List Bx) (u0 v0 u1 v1 th gp sf:Int) (ax ay bx by_ r:Int)  (dq:AV) (H :
  Zel f cs ax ay bx by_ r 0 false ((↑cs.length:Int)) 0 (Zaf dq)) :
 qHi_at f cs u0 v0 u1 v1 th gp sf ax ay bx by_ r (Zaf dq):=by
 unfold qHi_at
 have w1:(List.map Bx.a cs).length=cs.length:=List.length_map ..
 exact Zac (G:=Zad kp54 [] []) 1000 [] ⟨(atC (cd Try.f54) [1,1,0,1,0,0]),[(3,vi r),(5,AV.ptr 1 0 0 0),(6,AV.ptr 2 0 0 0),(10,vi 0),(11,vb false),(15,AV.vec f 5 (List.map Bx.a cs)),(16,vi (↑(List.map Bx.a cs).length:Int)),(17,vi 0)],[⟨[ag [vi u0,vi v0,vi u1,vi v1,vi th,vi gp,AV.vec f 5 (List.map Bx.a cs),vi sf]],8,0,false,false⟩,⟨[ag [vi ax,vi ay]],2,0,false,false⟩,⟨[ag [vi bx,vi by_]],2,0,false,false⟩],_,[],_⟩ (by kernel_rfl) (bc rfl b0) q0 c0 (by (try rw [w1]);all_goals exact Zas [1,2] (by kernel_rfl) H)
noncomputable abbrev zNqP1 (cs:List Bx) (i:Int):=ag [vi (cs.getD i.toNat default).x0,vi (cs.getD i.toNat default).y0,vi (cs.getD i.toNat default).x1,vi (cs.getD i.toNat default).y1,vi (cs.getD i.toNat default).top]
noncomputable abbrev zNqP2 (cs:List Bx) (i:Int) (ax:Int) (ay:Int) (bx:Int) (by_:Int) (r:Int):=O.nea (cs.getD i.toNat default).x0 (cs.getD i.toNat default).y0 (cs.getD i.toNat default).x1 (cs.getD i.toNat default).y1 ax ay bx by_ r
theorem qHiL (f:Bool) (cs:List Bx) (ax ay bx by_ r t:Int) (fo:Bool) (n i:Int)  (dq:AV) (H :
  ((i<n)->(0<=i) /\
   (i.toNat<cs.length) /\
   (O.okNe (cs.getD i.toNat default).x0 (cs.getD i.toNat default).y0 (cs.getD i.toNat default).x1 (cs.getD i.toNat default).y1 ax ay bx by_ r) /\
   (((O.nea (cs.getD i.toNat default).x0 (cs.getD i.toNat default).y0 (cs.getD i.toNat default).x1 (cs.getD i.toNat default).y1 ax ay bx by_ r)/\((¬(fo=true))\/((cs.getD i.toNat default).top>t)))->(-9223372036854775808<=i+1/\i+1<=9223372036854775807) /\
    Zel f cs ax ay bx by_ r ((cs.getD i.toNat default).top) true n (i+1) (Zaf dq)) /\
   (¬((O.nea (cs.getD i.toNat default).x0 (cs.getD i.toNat default).y0 (cs.getD i.toNat default).x1 (cs.getD i.toNat default).y1 ax ay bx by_ r)/\((¬(fo=true))\/((cs.getD i.toNat default).top>t)))->(-9223372036854775808<=i+1/\i+1<=9223372036854775807) /\
    Zel f cs ax ay bx by_ r t fo n (i+1) (Zaf dq))) /\
  (¬(i<n)->tu [vi t,vb fo]=dq)) :
 Zel f cs ax ay bx by_ r t fo n i (Zaf dq):=by
 unfold Zel
 rcases xq H with ⟨d2,H⟩|⟨d2,H⟩
 ·obtain ⟨k4,H⟩:=H
  have w5:(List.map Bx.a cs).length=cs.length:=List.length_map ..
  have i6:(decide (i.toNat<(List.map Bx.a cs).length))=true ↔ (i.toNat<cs.length):=(by (try rw [w5]);all_goals exact Zab)
  obtain ⟨k7,k8,H⟩:=H
  refine Zac (G:=Zad kp54 [(4,1,.elem ((zNqP1 cs i))),(5,4,.call (vb (decide (zNqP2 cs i ax ay bx by_ r))) none)] []) 11 [true] ⟨(atC (cd Try.f54) [1,1,0,1,0,0,1,1,0,0,1,1]),[(3,vi r),(5,AV.ptr 0 0 0 0),(6,AV.ptr 1 0 0 0),(10,vi t),(11,vb fo),(13,AV.ptr 2 0 0 0),(15,AV.vec f 5 (List.map Bx.a cs)),(16,vi n),(17,vi i),(35,vb (bif decide (zNqP2 cs i ax ay bx by_ r) then bif !fo then true else decide ((cs.getD i.toNat default).top>t) else false))],[⟨[ag [vi ax,vi ay]],2,0,false,false⟩,⟨[ag [vi bx,vi by_]],2,0,false,false⟩,⟨[(zNqP1 cs i)],5,0,false,false⟩],[(decide (i<n))==true,decide (0<=i),decide (i.toNat<(List.map Bx.a cs).length),true,true,true,true,!((!fo)==false&&(decide (zNqP2 cs i ax ay bx by_ r)==true&&true))||true],[((List.map Bx.a cs).get?Internal i.toNat=some ((zNqP1 cs i)))],_⟩ (by kernel_rfl) (bc (Zal (Zab.2 d2)) (bc (Zab.2 k4) (bc (i6.2 k7) (bc rfl (bc rfl (bc rfl (bc rfl (bc (Bool.or_true _) b0)))))))) (qc (Zai k7) q0) (ce (@ev67 ((cs.getD i.toNat default).x0) ((cs.getD i.toNat default).y0) ((cs.getD i.toNat default).x1) ((cs.getD i.toNat default).y1) ((cs.getD i.toNat default).top) ax ay bx by_ r k8) c0) ?_
  rcases xq H with ⟨d10,H⟩|⟨d10,H⟩
  ·obtain ⟨k11,H⟩:=H
   have w12:wi (i+1)=i+1:=wI64 k11
   exact Zac (G:=Zad kp54 [] []) 1000 [true] ⟨(atC (cd Try.f54) [1,1,0,1,0,0]),[(3,vi r),(5,AV.ptr 0 0 0 0),(6,AV.ptr 1 0 0 0),(10,vi (cs.getD i.toNat default).top),(11,vb true),(15,AV.vec f 5 (List.map Bx.a cs)),(16,vi n),(17,vi (wi (i+1)))],[⟨[ag [vi ax,vi ay]],2,0,false,false⟩,⟨[ag [vi bx,vi by_]],2,0,false,false⟩,⟨[(zNqP1 cs i)],5,0,false,false⟩],[(bif decide (zNqP2 cs i ax ay bx by_ r) then bif !fo then true else decide ((cs.getD i.toNat default).top>t) else false)==true,true],[],_⟩ (by kernel_rfl) (bc (Zal ((ZaZ Zab (ZaF (Za7 (ZaD _)) Zab)).2 d10)) (bc rfl b0)) q0 c0 (by (try rw [w12]);all_goals exact Zas [0,1] (by kernel_rfl) H)
  ·obtain ⟨k13,H⟩:=H
   have w14:wi (i+1)=i+1:=wI64 k13
   exact Zac (G:=Zad kp54 [] []) 1000 [false] ⟨(atC (cd Try.f54) [1,1,0,1,0,0]),[(3,vi r),(5,AV.ptr 0 0 0 0),(6,AV.ptr 1 0 0 0),(10,vi t),(11,vb fo),(15,AV.vec f 5 (List.map Bx.a cs)),(16,vi n),(17,vi (wi (i+1)))],[⟨[ag [vi ax,vi ay]],2,0,false,false⟩,⟨[ag [vi bx,vi by_]],2,0,false,false⟩,⟨[(zNqP1 cs i)],5,0,false,false⟩],[(bif decide (zNqP2 cs i ax ay bx by_ r) then bif !fo then true else decide ((cs.getD i.toNat default).top>t) else false)==false],[],_⟩ (by kernel_rfl) (bc (Zak (fun h=>d10 ((ZaZ Zab (ZaF (Za7 (ZaD _)) Zab)).1 h))) b0) q0 c0 (by (try rw [w14]);all_goals exact Zas [0,1] (by kernel_rfl) H)
 ·exact Zah (G:=Zad kp54 [] []) 1000 [false] (tu [vi t,vb fo]) (by kernel_rfl) (bc (Zak (fun h=>d2 (Zab.1 h))) b0) q0 c0 H
theorem qBl (f:Bool) (cs:List Bx) (u0 v0 u1 v1 th gp sf:Int) (z r:Int)  (dq:AV) (H :
  Zfu f cs z r ((↑cs.length:Int)) 0 (Zaf dq)) :
 qBl_at f cs u0 v0 u1 v1 th gp sf z r (Zaf dq):=by
 unfold qBl_at
 have w1:(List.map Bx.a cs).length=cs.length:=List.length_map ..
 exact Zac (G:=Zad kp31 [] []) 1000 [] ⟨(atC (cd Try.f31) [1,1,0,1,0,0]),[(1,vi z),(2,vi r),(7,AV.vnil),(11,AV.vec f 5 (List.map Bx.a cs)),(12,vi (↑(List.map Bx.a cs).length:Int)),(13,vi 0)],[⟨[ag [vi u0,vi v0,vi u1,vi v1,vi th,vi gp,AV.vec f 5 (List.map Bx.a cs),vi sf]],8,0,false,false⟩],_,[],_⟩ (by kernel_rfl) (bc rfl b0) q0 c0 (by (try rw [w1]);all_goals exact Zas [] (by kernel_rfl) H)
noncomputable abbrev zNqP3 (cs:List Bx) (i:Int):=ag [vi (cs.getD i.toNat default).x0,vi (cs.getD i.toNat default).y0,vi (cs.getD i.toNat default).x1,vi (cs.getD i.toNat default).y1,vi (cs.getD i.toNat default).top]
theorem qBl0 (f:Bool) (cs:List Bx) (z r n i:Int)  (dq:AV) (H :
  ((i<n)->(0<=i) /\
   (i.toNat<cs.length) /\
   (-9223372036854775808<=(cs.getD i.toNat default).top+1000/\(cs.getD i.toNat default).top+1000<=9223372036854775807) /\
   (((cs.getD i.toNat default).top+1000>z)->(-9223372036854775808<=(cs.getD i.toNat default).x0-r/\(cs.getD i.toNat default).x0-r<=9223372036854775807) /\
    (-9223372036854775808<=(cs.getD i.toNat default).y0-r/\(cs.getD i.toNat default).y0-r<=9223372036854775807) /\
    (-9223372036854775808<=(cs.getD i.toNat default).x1+r/\(cs.getD i.toNat default).x1+r<=9223372036854775807) /\
    (-9223372036854775808<=(cs.getD i.toNat default).y1+r/\(cs.getD i.toNat default).y1+r<=9223372036854775807) /\
    (-9223372036854775808<=i+1/\i+1<=9223372036854775807) /\
    Zem f cs ([{ x0:=(cs.getD i.toNat default).x0-r,y0:=(cs.getD i.toNat default).y0-r,x1:=(cs.getD i.toNat default).x1+r,y1:=(cs.getD i.toNat default).y1+r,top:=(cs.getD i.toNat default).top }]) 0 z r n (i+1) (Zaf dq)) /\
   (¬((cs.getD i.toNat default).top+1000>z)->(-9223372036854775808<=i+1/\i+1<=9223372036854775807) /\
    Zfu f cs z r n (i+1) (Zaf dq))) /\
  (¬(i<n)->Weak (AV.vnil) dq)) :
 Zfu f cs z r n i (Zaf dq):=by
 unfold Zfu
 rcases xq H with ⟨d2,H⟩|⟨d2,H⟩
 ·obtain ⟨k4,H⟩:=H
  have w5:(List.map Bx.a cs).length=cs.length:=List.length_map ..
  have i6:(decide (i.toNat<(List.map Bx.a cs).length))=true ↔ (i.toNat<cs.length):=(by (try rw [w5]);all_goals exact Zab)
  obtain ⟨k7,k8,H⟩:=H
  have w9:wi ((cs.getD i.toNat default).top+1000)=(cs.getD i.toNat default).top+1000:=wI64 k8
  have i10:(decide (wi ((cs.getD i.toNat default).top+1000)>z))=true ↔ ((cs.getD i.toNat default).top+1000>z):=(by (try rw [w9]);all_goals exact Zab)
  refine Zac (G:=Zad kp31 [(4,1,.elem ((zNqP3 cs i)))] []) 11 [true] ⟨(atC (cd Try.f31) [1,1,0,1,0,0,1,1,0,0,1,1]),[(1,vi z),(2,vi r),(7,AV.vnil),(9,AV.ptr 0 0 0 0),(11,AV.vec f 5 (List.map Bx.a cs)),(12,vi n),(13,vi i),(21,vb (decide (wi ((cs.getD i.toNat default).top+1000)>z)))],[⟨[(zNqP3 cs i)],5,0,false,false⟩],_,[((List.map Bx.a cs).get?Internal i.toNat=some ((zNqP3 cs i)))],_⟩ (by kernel_rfl) (bc (Zal (Zab.2 d2)) (bc (Zab.2 k4) (bc (i6.2 k7) (bc rfl (bc rfl b0))))) (qc (Zai k7) q0) c0 ?_
  rcases xq H with ⟨d11,H⟩|⟨d11,H⟩
  ·obtain ⟨k12,H⟩:=H
   have w13:wi ((cs.getD i.toNat default).x0-r)=(cs.getD i.toNat default).x0-r:=wI64 k12
   obtain ⟨k14,H⟩:=H
   have w15:wi ((cs.getD i.toNat default).y0-r)=(cs.getD i.toNat default).y0-r:=wI64 k14
   obtain ⟨k16,H⟩:=H
   have w17:wi ((cs.getD i.toNat default).x1+r)=(cs.getD i.toNat default).x1+r:=wI64 k16
   obtain ⟨k18,H⟩:=H
   have w19:wi ((cs.getD i.toNat default).y1+r)=(cs.getD i.toNat default).y1+r:=wI64 k18
   obtain ⟨k20,H⟩:=H
   have w21:wi (i+1)=i+1:=wI64 k20
   have w22:[ag [vi ((cs.getD i.toNat default).x0-r),vi ((cs.getD i.toNat default).y0-r),vi ((cs.getD i.toNat default).x1+r),vi ((cs.getD i.toNat default).y1+r),vi (cs.getD i.toNat default).top]]=List.map Bx.a [{ x0:=(cs.getD i.toNat default).x0-r,y0:=(cs.getD i.toNat default).y0-r,x1:=(cs.getD i.toNat default).x1+r,y1:=(cs.getD i.toNat default).y1+r,top:=(cs.getD i.toNat default).top }]:=rfl
   exact Zac (G:=Zad kp31 [] []) 1000 [true] ⟨(atC (cd Try.f31) [1,1,0,1,0,0]),[(1,vi z),(2,vi r),(7,AV.row 1 0),(11,AV.vec f 5 (List.map Bx.a cs)),(12,vi n),(13,vi (wi (i+1)))],[⟨[(zNqP3 cs i)],5,0,false,false⟩,⟨[ag [vi (wi ((cs.getD i.toNat default).x0-r)),vi (wi ((cs.getD i.toNat default).y0-r)),vi (wi ((cs.getD i.toNat default).x1+r)),vi (wi ((cs.getD i.toNat default).y1+r)),vi (cs.getD i.toNat default).top]],5,0,false,true⟩],_,[],_⟩ (by kernel_rfl) (bc (Zal (i10.2 d11)) (bc rfl (bc rfl (bc rfl (bc rfl (bc rfl (bc rfl b0))))))) q0 c0 (by (try rw [w13]);(try rw [w15]);(try rw [w17]);(try rw [w19]);(try rw [w21]);(try rw [w22]);all_goals exact Zas [1] (by kernel_rfl) H)
  ·obtain ⟨k23,H⟩:=H
   have w24:wi (i+1)=i+1:=wI64 k23
   exact Zac (G:=Zad kp31 [] []) 1000 [false] ⟨(atC (cd Try.f31) [1,1,0,1,0,0]),[(1,vi z),(2,vi r),(7,AV.vnil),(11,AV.vec f 5 (List.map Bx.a cs)),(12,vi n),(13,vi (wi (i+1)))],[⟨[(zNqP3 cs i)],5,0,false,false⟩],_,[],_⟩ (by kernel_rfl) (bc (Zak (fun h=>d11 (i10.1 h))) b0) q0 c0 (by (try rw [w24]);all_goals exact Zas [] (by kernel_rfl) H)
 ·exact Zao (G:=Zad kp31 [] []) 1000 [false] (AV.vnil) (by kernel_rfl) (bc (Zak (fun h=>d2 (Zab.1 h))) b0) q0 c0 H
noncomputable abbrev zNqP4 (cs:List Bx) (i:Int):=ag [vi (cs.getD i.toNat default).x0,vi (cs.getD i.toNat default).y0,vi (cs.getD i.toNat default).x1,vi (cs.getD i.toNat default).y1,vi (cs.getD i.toNat default).top]
theorem qBlL (f:Bool) (cs gs:List Bx) (v:Nat) (z r n i:Int)  (dq:AV) (H :
  ((i<n)->(0<=i) /\
   (i.toNat<cs.length) /\
   (-9223372036854775808<=(cs.getD i.toNat default).top+1000/\(cs.getD i.toNat default).top+1000<=9223372036854775807) /\
   (((cs.getD i.toNat default).top+1000>z)->(-9223372036854775808<=(cs.getD i.toNat default).x0-r/\(cs.getD i.toNat default).x0-r<=9223372036854775807) /\
    (-9223372036854775808<=(cs.getD i.toNat default).y0-r/\(cs.getD i.toNat default).y0-r<=9223372036854775807) /\
    (-9223372036854775808<=(cs.getD i.toNat default).x1+r/\(cs.getD i.toNat default).x1+r<=9223372036854775807) /\
    (-9223372036854775808<=(cs.getD i.toNat default).y1+r/\(cs.getD i.toNat default).y1+r<=9223372036854775807) /\
    ((gs.length+1)*40<=1099511627776) /\
    (-9223372036854775808<=i+1/\i+1<=9223372036854775807) /\
    Zem f cs (gs++[{ x0:=(cs.getD i.toNat default).x0-r,y0:=(cs.getD i.toNat default).y0-r,x1:=(cs.getD i.toNat default).x1+r,y1:=(cs.getD i.toNat default).y1+r,top:=(cs.getD i.toNat default).top }]) (v+1) z r n (i+1) (Zaf dq)) /\
   (¬((cs.getD i.toNat default).top+1000>z)->(-9223372036854775808<=i+1/\i+1<=9223372036854775807) /\
    Zem f cs gs v z r n (i+1) (Zaf dq))) /\
  (¬(i<n)->Weak (AV.vec false 5 (List.map Bx.a gs)) dq)) :
 Zem f cs gs v z r n i (Zaf dq):=by
 unfold Zem
 rcases xq H with ⟨d2,H⟩|⟨d2,H⟩
 ·obtain ⟨k4,H⟩:=H
  have w5:(List.map Bx.a cs).length=cs.length:=List.length_map ..
  have i6:(decide (i.toNat<(List.map Bx.a cs).length))=true ↔ (i.toNat<cs.length):=(by (try rw [w5]);all_goals exact Zab)
  obtain ⟨k7,k8,H⟩:=H
  have w9:wi ((cs.getD i.toNat default).top+1000)=(cs.getD i.toNat default).top+1000:=wI64 k8
  have i10:(decide (wi ((cs.getD i.toNat default).top+1000)>z))=true ↔ ((cs.getD i.toNat default).top+1000>z):=(by (try rw [w9]);all_goals exact Zab)
  refine Zac (G:=Zad kp31 [(4,1,.elem ((zNqP4 cs i)))] []) 11 [true] ⟨(atC (cd Try.f31) [1,1,0,1,0,0,1,1,0,0,1,1]),[(1,vi z),(2,vi r),(7,AV.row 0 v),(9,AV.ptr 1 0 0 0),(11,AV.vec f 5 (List.map Bx.a cs)),(12,vi n),(13,vi i),(21,vb (decide (wi ((cs.getD i.toNat default).top+1000)>z)))],[⟨List.map Bx.a gs,5,v,false,true⟩,⟨[(zNqP4 cs i)],5,0,false,false⟩],_,[((List.map Bx.a cs).get?Internal i.toNat=some ((zNqP4 cs i)))],_⟩ (by kernel_rfl) (bc (Zal (Zab.2 d2)) (bc (Zab.2 k4) (bc (i6.2 k7) (bc rfl (bc rfl b0))))) (qc (Zai k7) q0) c0 ?_
  rcases xq H with ⟨d11,H⟩|⟨d11,H⟩
  ·have w12:(List.map Bx.a gs).length=gs.length:=List.length_map ..
   obtain ⟨k13,H⟩:=H
   have w14:wi ((cs.getD i.toNat default).x0-r)=(cs.getD i.toNat default).x0-r:=wI64 k13
   obtain ⟨k15,H⟩:=H
   have w16:wi ((cs.getD i.toNat default).y0-r)=(cs.getD i.toNat default).y0-r:=wI64 k15
   obtain ⟨k17,H⟩:=H
   have w18:wi ((cs.getD i.toNat default).x1+r)=(cs.getD i.toNat default).x1+r:=wI64 k17
   obtain ⟨k19,H⟩:=H
   have w20:wi ((cs.getD i.toNat default).y1+r)=(cs.getD i.toNat default).y1+r:=wI64 k19
   have i21:(decide (((List.map Bx.a gs).length+1)*40<=1099511627776))=true ↔ ((gs.length+1)*40<=1099511627776):=(by (try rw [w12]);(try rw [w14]);(try rw [w16]);(try rw [w18]);(try rw [w20]);all_goals exact Zab)
   obtain ⟨k22,H⟩:=H
   have w23:List.map Bx.a gs++[ag [vi ((cs.getD i.toNat default).x0-r),vi ((cs.getD i.toNat default).y0-r),vi ((cs.getD i.toNat default).x1+r),vi ((cs.getD i.toNat default).y1+r),vi (cs.getD i.toNat default).top]]=List.map Bx.a (gs++[{ x0:=(cs.getD i.toNat default).x0-r,y0:=(cs.getD i.toNat default).y0-r,x1:=(cs.getD i.toNat default).x1+r,y1:=(cs.getD i.toNat default).y1+r,top:=(cs.getD i.toNat default).top }]):=(Zb7 rfl rfl)
   obtain ⟨k24,H⟩:=H
   have w25:wi (i+1)=i+1:=wI64 k24
   exact Zac (G:=Zad kp31 [] []) 1000 [true] ⟨(atC (cd Try.f31) [1,1,0,1,0,0]),[(1,vi z),(2,vi r),(7,AV.row 0 (v+1)),(11,AV.vec f 5 (List.map Bx.a cs)),(12,vi n),(13,vi (wi (i+1)))],[⟨List.map Bx.a gs++[ag [vi (wi ((cs.getD i.toNat default).x0-r)),vi (wi ((cs.getD i.toNat default).y0-r)),vi (wi ((cs.getD i.toNat default).x1+r)),vi (wi ((cs.getD i.toNat default).y1+r)),vi (cs.getD i.toNat default).top]],5,v+1,false,true⟩,⟨[(zNqP4 cs i)],5,0,false,false⟩],[(decide (wi ((cs.getD i.toNat default).top+1000)>z))==true,true,true,true,true,true,v==v,decide (((List.map Bx.a gs).length+1)*40<=1099511627776)],[],_⟩ (by kernel_rfl) (bc (Zal (i10.2 d11)) (bc rfl (bc rfl (bc rfl (bc rfl (bc rfl (bc (beq_self_eq_true _) (bc (i21.2 k22) b0)))))))) q0 c0 (by (try rw [w14]);(try rw [w16]);(try rw [w18]);(try rw [w20]);(try rw [w23]);(try rw [w25]);all_goals exact Zas [0] (by kernel_rfl) H)
  ·obtain ⟨k26,H⟩:=H
   have w27:wi (i+1)=i+1:=wI64 k26
   exact Zac (G:=Zad kp31 [] []) 1000 [false] ⟨(atC (cd Try.f31) [1,1,0,1,0,0]),[(1,vi z),(2,vi r),(7,AV.row 0 v),(11,AV.vec f 5 (List.map Bx.a cs)),(12,vi n),(13,vi (wi (i+1)))],[⟨List.map Bx.a gs,5,v,false,true⟩,⟨[(zNqP4 cs i)],5,0,false,false⟩],_,[],_⟩ (by kernel_rfl) (bc (Zak (fun h=>d11 (i10.1 h))) b0) q0 c0 (by (try rw [w27]);all_goals exact Zas [0] (by kernel_rfl) H)
 ·exact Zbn (G:=Zad kp31 [] []) 1000 [false] (k:=((atC (cd Try.f31) [1,1,1,1])).tail) (env':=[(6,AV.row 0 v)]) (L':=[⟨List.map Bx.a gs,5,v,false,true⟩]) (asm:=[(decide (i<n))==false]) (eqs:=[]) (calls:=[]) (AV.row 0 v) (by kernel_rfl) (by kernel_rfl) (Zae (Zak (fun h=>d2 (Zab.1 h))) Zaw) ZaK ZaL (ZcE (d:=(AV.vec false 5 (List.map Bx.a gs))) (bs:=[v==v]) (by kernel_rfl) (by kernel_rfl) (Zae (beq_self_eq_true _) Zaw) (by kernel_rfl) H)
theorem qBen   (dq:AV) (H :
  Weak (ag [vi 0,vi 0,vi 40000,vi 30000,vi 5000,vi 0,AV.vec true 5 [ag [vi 10000,vi 0,vi 20000,vi 5000,vi 8000]],vi 20000]) dq) :
 qBen_at  (Zaf dq):=by
 unfold qBen_at
 exact Zao (G:=Zad kp30 [] []) 1000 [] (ag [vi 0,vi 0,vi 40000,vi 30000,vi 5000,vi 0,AV.vec true 5 [ag [vi 10000,vi 0,vi 20000,vi 5000,vi 8000]],vi 20000]) (by kernel_rfl) (bc rfl b0) q0 c0 H
end Go.Av

namespace Go.Av
open Go.Proofs
namespace O
noncomputable def hiF (ax ay bx by_ r:Int):List Bx->Int->Bool->Int × Bool
 | [],t,fo=>(t,fo)
 | c::cs,t,fo=>if nea c.x0 c.y0 c.x1 c.y1 ax ay bx by_ r/\(¬fo=true\/c.top>t) then hiF ax ay bx by_ r cs c.top true else hiF ax ay bx by_ r cs t fo
def okHi (cs:List Bx) (ax ay bx by_ r:Int):Prop:=cs.length<=1000/\(∀ c ∈ cs,ccb c)/\cc ax/\cc ay/\cc bx/\cc by_/\cc r
def blk1 (r:Int) (c:Bx):Bx:=⟨c.x0-r,c.y0-r,c.x1+r,c.y1+r,c.top⟩
def blk (cs:List Bx) (z r:Int):List Bx:=(cs.filter fun c=>decide (c.top+1000>z)).map (blk1 r)
def okBlk (cs:List Bx) (r:Int):Prop:=cs.length<=1000/\(∀ c ∈ cs,ccb c/\cc c.top)/\cc r
def bcs:List Bx:=[⟨10000,0,20000,5000,8000⟩]
end O
theorem hi_loop {f:Bool} {cs:List Bx} {ax ay bx by_ r:Int} (h:O.okHi cs ax ay bx by_ r) (m:Nat):∀ (i:Nat) (t:Int) (fo:Bool),i+m=cs.length ->
  Zel f cs ax ay bx by_ r t fo cs.length i (Zaf (.tup [.int .i64 (O.hiF ax ay bx by_ r (cs.drop i) t fo).1,.bool (O.hiF ax ay bx by_ r (cs.drop i) t fo).2])):=by
 obtain ⟨h1,h2,h3,h4,h5,h6,h7⟩:=h
 induction m with
 | zero =>
  intro i t fo e
  refine qHiL _ _ _ _ _ _ _ _ _ _ _ _ ⟨fun x=>by omega,fun _ => ?_⟩
  rw [List.drop_eq_nil_of_le (by omega)];rfl
 | succ m ih =>
  intro i t fo e
  have hi:i<cs.length:=by omega
  refine qHiL _ _ _ _ _ _ _ _ _ _ _ _ ⟨fun x => ?_,fun x=>by omega⟩
  rw [Int.toNat_natCast,show (i:Int)+1=((i+1:Nat):Int) by omega,ZaO hi]
  obtain ⟨c1,c2,c3,c4⟩:=h2 _ (Zay hi)
  refine ⟨by omega,hi,⟨c1,c2,c3,c4,h3,h4,h5,h6,h7⟩,fun k=>⟨by omega,?_⟩,fun k=>⟨by omega,?_⟩⟩
  ·rw [O.hiF,if_pos k];exact ih (i+1) _ _ (by omega)
  ·rw [O.hiF,if_neg k];exact ih (i+1) _ _ (by omega)
theorem ev54 (f:Bool) (cs:List Bx) (u0 v0 u1 v1 th gp sf ax ay bx by_ r:Int) (h:O.okHi cs ax ay bx by_ r):Ev M1 (.pure 54 [.agg [.int .i64 u0,.int .i64 v0,.int .i64 u1,.int .i64 v1,.int .i64 th,.int .i64 gp,.vec f 5 (cs.map Bx.a),.int .i64 sf],.agg [.int .i64 ax,.int .i64 ay],.agg [.int .i64 bx,.int .i64 by_],.int .i64 r]) (.tup [.int .i64 (O.hiF ax ay bx by_ r cs 0 false).1,.bool (O.hiF ax ay bx by_ r cs 0 false).2]) []:=by
 have:=hi_loop (f:=f) h cs.length 0 0 false (by omega)
 exact call54 (qHi _ _ _ _ _ _ _ _ _ _ _ _ _ _ _ this)
theorem blk_add {cs:List Bx} {z r:Int} {i:Nat} (hi:i<cs.length) (k:(cs.getD i default).top+1000>z):O.blk (cs.drop i) z r=⟨(cs.getD i default).x0-r,(cs.getD i default).y0-r,(cs.getD i default).x1+r,(cs.getD i default).y1+r,(cs.getD i default).top⟩::O.blk (cs.drop (i+1)) z r:=by
 rw [ZaO hi];unfold O.blk;rw [List.filter_cons_of_pos (p:=fun c:Bx=>decide (c.top+1000>z)) (decide_eq_true k)];rfl
theorem blk_skip {cs:List Bx} {z r:Int} {i:Nat} (hi:i<cs.length) (k:¬(cs.getD i default).top+1000>z):O.blk (cs.drop i) z r=O.blk (cs.drop (i+1)) z r:=by
 rw [ZaO hi];unfold O.blk;rw [List.filter_cons_of_neg (by rw [decide_eq_true_iff];exact k)]
theorem blk_end {cs:List Bx} {z r:Int} {i:Nat} (hi:cs.length<=i):O.blk (cs.drop i) z r=[]:=by
 rw [List.drop_eq_nil_of_le hi];rfl
section
variable {f:Bool} {cs:List Bx} {z r:Int}
theorem bl_loop (h:O.okBlk cs r) (m:Nat):∀ (i:Nat) (gs:List Bx) (v:Nat),i+m=cs.length->gs.length<=i ->
  Zem f cs gs v z r cs.length i (Zaf (.vec false 5 ((gs++O.blk (cs.drop i) z r).map Bx.a))):=by
 obtain ⟨h1,h2,h3⟩:=h
 induction m with
 | zero =>
  intro i gs v e hg
  refine qBlL _ _ _ _ _ _ _ _ _ ⟨fun x=>by omega,fun _ => ?_⟩
  rw [blk_end (by omega),List.append_nil];exact .refl _
 | succ m ih =>
  intro i gs v e hg
  have hi:i<cs.length:=by omega
  obtain ⟨⟨c1,c2,c3,c4⟩,c5⟩:=h2 _ (Zay hi)
  unfold O.cc at c1 c2 c3 c4 c5 h3
  refine qBlL _ _ _ _ _ _ _ _ _ ⟨fun x => ?_,fun x=>by omega⟩
  rw [Int.toNat_natCast,show (i:Int)+1=((i+1:Nat):Int) by omega]
  refine ⟨by omega,hi,by omega,fun k=>⟨by omega,by omega,by omega,by omega,by omega,by omega,?_⟩,fun k=>⟨by omega,?_⟩⟩
  ·have:=ih (i+1) (gs++[⟨(cs.getD i default).x0-r,(cs.getD i default).y0-r,(cs.getD i default).x1+r,(cs.getD i default).y1+r,(cs.getD i default).top⟩]) (v+1) (by omega) (by rw [List.length_append];show gs.length+1<=_;omega)
   rw [List.append_assoc] at this
   rw [blk_add hi k];exact this
  ·rw [blk_skip hi k];exact ih (i+1) gs v (by omega) (by omega)
theorem bl_nil (h:O.okBlk cs r) (m:Nat):∀ i:Nat,i+m=cs.length ->
  Zfu f cs z r cs.length i (Zaf (.vec false 5 ((O.blk (cs.drop i) z r).map Bx.a))):=by
 have hh:=h
 obtain ⟨h1,h2,h3⟩:=h
 induction m with
 | zero =>
  intro i e
  refine qBl0 _ _ _ _ _ _ _ ⟨fun x=>by omega,fun _ => ?_⟩
  rw [blk_end (by omega)];exact .vnil 5
 | succ m ih =>
  intro i e
  have hi:i<cs.length:=by omega
  obtain ⟨⟨c1,c2,c3,c4⟩,c5⟩:=h2 _ (Zay hi)
  unfold O.cc at c1 c2 c3 c4 c5 h3
  refine qBl0 _ _ _ _ _ _ _ ⟨fun x => ?_,fun x=>by omega⟩
  rw [Int.toNat_natCast,show (i:Int)+1=((i+1:Nat):Int) by omega]
  refine ⟨by omega,hi,by omega,fun k=>⟨by omega,by omega,by omega,by omega,by omega,?_⟩,fun k=>⟨by omega,?_⟩⟩
  ·rw [blk_add hi k]
   exact bl_loop hh m (i+1) [_] 0 (by omega) (by show 1<=_;omega)
  ·rw [blk_skip hi k];exact ih (i+1) (by omega)
variable {u0 v0 u1 v1 th gp sf:Int}
end
theorem ev31 (f:Bool) (cs:List Bx) (u0 v0 u1 v1 th gp sf z r:Int) (h:O.okBlk cs r):Ev M1 (.pure 31 [.agg [.int .i64 u0,.int .i64 v0,.int .i64 u1,.int .i64 v1,.int .i64 th,.int .i64 gp,.vec f 5 (cs.map Bx.a),.int .i64 sf],.int .i64 z,.int .i64 r]) (.vec false 5 ((O.blk cs z r).map Bx.a)) []:=
 call31 (qBl _ _ _ _ _ _ _ _ _ _ _ _ (bl_nil h cs.length 0 (by omega)))
theorem ev30:Ev M1 (.pure 30 []) (.agg [.int .i64 0,.int .i64 0,.int .i64 40000,.int .i64 30000,.int .i64 5000,.int .i64 0,.vec true 5 (O.bcs.map Bx.a),.int .i64 20000]) []:=
 call30 (qBen _ (.refl _))
end Go.Av

namespace Go.Av
open Go.Proofs
set_option maxRecDepth 100000
def fi22:Fi:=⟨22,[.tmp 8]⟩
def kp22:List (Nat × List Nat):=[(0,[3,4,5,6]),(1,[9]),(2,[8])]
def qHgt_at (f:Bool) (cs:List Bx) (u0 v0 u1 v1 th gp sf:Int) (ax ay bx by_ r:Int) (Q:AV->Heap->Prop):Prop:=Wp M1 (.run fi22 (atC (cd Try.f22) []) [(0,.agg [.int .i64 u0,.int .i64 v0,.int .i64 u1,.int .i64 v1,.int .i64 th,.int .i64 gp,.vec f 5 (cs.map Bx.a),.int .i64 sf]),(1,.agg [.int .i64 ax,.int .i64 ay]),(2,.agg [.int .i64 bx,.int .i64 by_]),(3,.int .i64 r)] []) Q
theorem call22 {args:List AV} {d:AV} (h:wc M1 fi22 Try.f22 args d):Ev M1 (.pure 22 args) d []:=pcl _ _ (by kernel_rfl) h
theorem qHgt (f:Bool) (cs:List Bx) (u0 v0 u1 v1 th gp sf:Int) (ax ay bx by_ r:Int)  (dq:AV) (H :
  (O.okHi cs ax ay bx by_ r) /\
  (-9223372036854775808<=(1000+if (O.hiF ax ay bx by_ r cs 0 false).fst>0 then (O.hiF ax ay bx by_ r cs 0 false).fst else 0)/\(1000+if (O.hiF ax ay bx by_ r cs 0 false).fst>0 then (O.hiF ax ay bx by_ r cs 0 false).fst else 0)<=9223372036854775807) /\
  vi (1000+if (O.hiF ax ay bx by_ r cs 0 false).fst>0 then (O.hiF ax ay bx by_ r cs 0 false).fst else 0)=dq) :
 qHgt_at f cs u0 v0 u1 v1 th gp sf ax ay bx by_ r (Zaf dq):=by
 unfold qHgt_at
 obtain ⟨k1,k2,H⟩:=H
 have w3:wi (1000+if (O.hiF ax ay bx by_ r cs 0 false).fst>0 then (O.hiF ax ay bx by_ r cs 0 false).fst else 0)=1000+if (O.hiF ax ay bx by_ r cs 0 false).fst>0 then (O.hiF ax ay bx by_ r cs 0 false).fst else 0:=wI64 k2
 exact Zah (G:=Zad kp22 [(1,4,.call (tu [vi (O.hiF ax ay bx by_ r cs 0 false).fst,vb (O.hiF ax ay bx by_ r cs 0 false).2]) none)] []) 1000 [] (vi (wi (1000+if (O.hiF ax ay bx by_ r cs 0 false).fst>0 then (O.hiF ax ay bx by_ r cs 0 false).fst else 0))) (by kernel_rfl) (bc rfl (bc rfl (bc rfl b0))) q0 (ce (@ev54 f cs u0 v0 u1 v1 th gp sf ax ay bx by_ r k1) c0) (by (try rw [w3]);all_goals exact H)
end Go.Av

namespace Go.Av
open Go.Proofs
noncomputable def O.hgt (cs:List Bx) (ax ay bx by_ r:Int):Int:=1000+if (O.hiF ax ay bx by_ r cs 0 false).fst>0 then (O.hiF ax ay bx by_ r cs 0 false).fst else 0
def O.okHg (cs:List Bx) (ax ay bx by_ r:Int):Prop:=O.okHi cs ax ay bx by_ r /\ ∀ c ∈ cs,c.top<=1000000000
theorem hiF_le {ax ay bx by_ r:Int}:∀ (cs:List Bx) (t:Int) (fo:Bool),t<=1000000000->(∀ c ∈ cs,c.top<=1000000000)->(O.hiF ax ay bx by_ r cs t fo).1<=1000000000:=by
 intro cs
 induction cs with
 | nil=>intro t fo h _;exact h
 | cons c cs ih =>
  intro t fo h h2
  rw [O.hiF]
  split
  ·exact ih _ _ (h2 c (.head _)) fun d hd=>h2 d (.tail _ hd)
  ·exact ih _ _ h fun d hd=>h2 d (.tail _ hd)
theorem hgt_bd {cs:List Bx} {ax ay bx by_ r:Int} (h:O.okHg cs ax ay bx by_ r):1000<=O.hgt cs ax ay bx by_ r/\O.hgt cs ax ay bx by_ r<=1000001000:=by
 have:=hiF_le (ax:=ax) (ay:=ay) (bx:=bx) (by_:=by_) (r:=r) cs 0 false (by omega) h.2
 unfold O.hgt
 split <;> omega
theorem ev22 (f:Bool) (cs:List Bx) (u0 v0 u1 v1 th gp sf ax ay bx by_ r:Int) (h:O.okHg cs ax ay bx by_ r):Ev M1 (.pure 22 [.agg [.int .i64 u0,.int .i64 v0,.int .i64 u1,.int .i64 v1,.int .i64 th,.int .i64 gp,.vec f 5 (cs.map Bx.a),.int .i64 sf],.agg [.int .i64 ax,.int .i64 ay],.agg [.int .i64 bx,.int .i64 by_],.int .i64 r]) (.int .i64 (O.hgt cs ax ay bx by_ r)) []:=by
 have b:=hgt_bd h
 exact call22 (qHgt _ _ _ _ _ _ _ _ _ _ _ _ _ _ _ ⟨h.1,by show _<=O.hgt cs ax ay bx by_ r/\O.hgt cs ax ay bx by_ r<=_;omega,rfl⟩)
end Go.Av

namespace Go.Av
open Go.Proofs
set_option maxRecDepth 100000
def fi8:Fi:=⟨43,[.tmp 0]⟩
def kp8:List (Nat × List Nat):=[(0,[]),(1,[1]),(2,[1,2,3]),(3,[0])]
def qAw_at  (Q:AV->Heap->Prop):Prop:=Wp M1 (.run fi8 (atC (cd Try.f8) []) [] []) Q
theorem call8 {args:List AV} {d:AV} (h:wc M1 fi8 Try.f8 args d):Ev M1 (.pure 8 args) d []:=pcl _ _ (by kernel_rfl) h
noncomputable abbrev zNqR1:=ag [vi 30000,vi 1000]
noncomputable abbrev zNqR2:=ag [vi 0,vi 1000]
noncomputable abbrev zNqR3:=ag [vi 30000,vi 9000]
noncomputable abbrev zNqR4:=ag [vi 0,vi 9000]
noncomputable abbrev zNqR5:=ag [vi 10000,vi 0,vi 20000,vi 5000,vi 8000]
noncomputable abbrev zNqR6:=ag [vi 30000,vi 0]
noncomputable abbrev zNqR7:=ag [vi 0,vi 0]
theorem qAw   (dq:AV) (H :
  (O.okBlk O.bcs 0) /\
  ((O.blk O.bcs 5000 0).length<=100) /\
  (O.okHg O.bcs 0 0 30000 0 3000) /\
  ((O.hgt O.bcs 0 0 30000 0 3000=9000)->(O.okHg O.bcs 0 9000 30000 9000 3000)) /\
  ((((O.hgt O.bcs 0 0 30000 0 3000=9000)/\(O.hgt O.bcs 0 9000 30000 9000 3000=1000))/\(O.arE (O.blk O.bcs 5000 0) { x:=0,y:=1000 } { x:=30000,y:=1000 } = 0))->(O.okG (O.arP false (O.blk O.bcs 5000 0) { x:=0,y:=1000 } { x:=30000,y:=1000 }))) /\
  (((((O.hgt O.bcs 0 0 30000 0 3000=9000)/\(O.hgt O.bcs 0 9000 30000 9000 3000=1000))/\(O.arE (O.blk O.bcs 5000 0) { x:=0,y:=1000 } { x:=30000,y:=1000 } = 0))/\(O.ZaY (O.arP false (O.blk O.bcs 5000 0) { x:=0,y:=1000 } { x:=30000,y:=1000 })=30000))->(O.cc8 10000 0 20000 5000 0 1000 30000 1000)) /\
  vb (bif bif bif bif O.hgt O.bcs 0 0 30000 0 3000==9000 then O.hgt O.bcs 0 9000 30000 9000 3000==1000 else false then O.arE (O.blk O.bcs 5000 0) { x:=0,y:=1000 } { x:=30000,y:=1000 } == 0 else false then O.ZaY (O.arP false (O.blk O.bcs 5000 0) { x:=0,y:=1000 } { x:=30000,y:=1000 })==30000 else false then true else false)=dq) :
 qAw_at  (Zaf dq):=by
 unfold qAw_at
 obtain ⟨k1,k2,k3,k7,k9,k13,H⟩:=H
 exact Zah (G:=Zad kp8 [(1,0,.call (ag [vi 0,vi 0,vi 40000,vi 30000,vi 5000,vi 0,AV.vec true 5 (List.map Bx.a O.bcs),vi 20000]) none),(2,1,.call (AV.vec false 5 (List.map Bx.a (O.blk O.bcs 5000 0))) none),(2,2,.call zNqR2 none),(2,3,.call zNqR1 none),(2,4,.call (tu [AV.vec false 2 (List.map Gp.a (O.arP false (O.blk O.bcs 5000 0) { x:=0,y:=1000 } { x:=30000,y:=1000 })),vi (O.arE (O.blk O.bcs 5000 0) { x:=0,y:=1000 } { x:=30000,y:=1000 })]) none),(3,1,.call zNqR7 none),(3,2,.call zNqR6 none),(3,3,.call (vi (O.hgt O.bcs 0 0 30000 0 3000)) none),(3,7,.call zNqR4 none),(3,8,.call zNqR3 none),(3,9,.call (vi (O.hgt O.bcs 0 9000 30000 9000 3000)) none),(3,18,.call (vi (O.ZaY (O.arP false (O.blk O.bcs 5000 0) { x:=0,y:=1000 } { x:=30000,y:=1000 }))) none),(3,26,.call zNqR2 none),(3,27,.call zNqR1 none),(3,28,.call (vb true) none)] []) 1000 [] (asm:=[true,true,true,!((O.hgt O.bcs 0 0 30000 0 3000==9000)==true&&true)||true,!((bif bif bif O.hgt O.bcs 0 0 30000 0 3000==9000 then O.hgt O.bcs 0 9000 30000 9000 3000==1000 else false then O.arE (O.blk O.bcs 5000 0) { x:=0,y:=1000 } { x:=30000,y:=1000 } == 0 else false then O.ZaY (O.arP false (O.blk O.bcs 5000 0) { x:=0,y:=1000 } { x:=30000,y:=1000 })==30000 else false)==true&&true)||true,!((bif bif bif O.hgt O.bcs 0 0 30000 0 3000==9000 then O.hgt O.bcs 0 9000 30000 9000 3000==1000 else false then O.arE (O.blk O.bcs 5000 0) { x:=0,y:=1000 } { x:=30000,y:=1000 } == 0 else false then O.ZaY (O.arP false (O.blk O.bcs 5000 0) { x:=0,y:=1000 } { x:=30000,y:=1000 })==30000 else false)==true&&true)||true,!((bif bif bif O.hgt O.bcs 0 0 30000 0 3000==9000 then O.hgt O.bcs 0 9000 30000 9000 3000==1000 else false then O.arE (O.blk O.bcs 5000 0) { x:=0,y:=1000 } { x:=30000,y:=1000 } == 0 else false then O.ZaY (O.arP false (O.blk O.bcs 5000 0) { x:=0,y:=1000 } { x:=30000,y:=1000 })==30000 else false)==true&&true)||true]) (calls:=[⟨true,false,30,[],[],ag [vi 0,vi 0,vi 40000,vi 30000,vi 5000,vi 0,AV.vec true 5 (List.map Bx.a O.bcs),vi 20000],[]⟩,⟨true,false,31,[ag [vi 0,vi 0,vi 40000,vi 30000,vi 5000,vi 0,AV.vec true 5 (List.map Bx.a O.bcs),vi 20000],vi 5000,vi 0],[],AV.vec false 5 (List.map Bx.a (O.blk O.bcs 5000 0)),[]⟩,⟨true,false,23,[vi 0,vi 1000],[],zNqR2,[]⟩,⟨true,false,23,[vi 30000,vi 1000],[],zNqR1,[]⟩,⟨true,false,11,[AV.vec false 5 (List.map Bx.a (O.blk O.bcs 5000 0)),zNqR2,zNqR1],[],tu [AV.vec false 2 (List.map Gp.a (O.arP false (O.blk O.bcs 5000 0) { x:=0,y:=1000 } { x:=30000,y:=1000 })),vi (O.arE (O.blk O.bcs 5000 0) { x:=0,y:=1000 } { x:=30000,y:=1000 })],[]⟩,⟨true,false,23,[vi 0,vi 0],[],zNqR7,[]⟩,⟨true,false,23,[vi 30000,vi 0],[],zNqR6,[]⟩,⟨true,false,22,[ag [vi 0,vi 0,vi 40000,vi 30000,vi 5000,vi 0,AV.vec true 5 (List.map Bx.a O.bcs),vi 20000],zNqR7,zNqR6,vi 3000],[],vi (O.hgt O.bcs 0 0 30000 0 3000),[]⟩,⟨(O.hgt O.bcs 0 0 30000 0 3000==9000)==true&&true&&true,false,23,[vi 0,vi 9000],[],zNqR4,[]⟩,⟨(O.hgt O.bcs 0 0 30000 0 3000==9000)==true&&true&&true,false,23,[vi 30000,vi 9000],[],zNqR3,[]⟩,⟨(O.hgt O.bcs 0 0 30000 0 3000==9000)==true&&true&&true,false,22,[ag [vi 0,vi 0,vi 40000,vi 30000,vi 5000,vi 0,AV.vec true 5 (List.map Bx.a O.bcs),vi 20000],zNqR4,zNqR3,vi 3000],[],vi (O.hgt O.bcs 0 9000 30000 9000 3000),[]⟩,⟨(bif bif O.hgt O.bcs 0 0 30000 0 3000==9000 then O.hgt O.bcs 0 9000 30000 9000 3000==1000 else false then O.arE (O.blk O.bcs 5000 0) { x:=0,y:=1000 } { x:=30000,y:=1000 } == 0 else false)==true&&true&&true,false,18,[AV.vec false 2 (List.map Gp.a (O.arP false (O.blk O.bcs 5000 0) { x:=0,y:=1000 } { x:=30000,y:=1000 }))],[],vi (O.ZaY (O.arP false (O.blk O.bcs 5000 0) { x:=0,y:=1000 } { x:=30000,y:=1000 })),[]⟩,⟨(bif bif bif O.hgt O.bcs 0 0 30000 0 3000==9000 then O.hgt O.bcs 0 9000 30000 9000 3000==1000 else false then O.arE (O.blk O.bcs 5000 0) { x:=0,y:=1000 } { x:=30000,y:=1000 } == 0 else false then O.ZaY (O.arP false (O.blk O.bcs 5000 0) { x:=0,y:=1000 } { x:=30000,y:=1000 })==30000 else false)==true&&true&&true,false,23,[vi 0,vi 1000],[],zNqR2,[]⟩,⟨(bif bif bif O.hgt O.bcs 0 0 30000 0 3000==9000 then O.hgt O.bcs 0 9000 30000 9000 3000==1000 else false then O.arE (O.blk O.bcs 5000 0) { x:=0,y:=1000 } { x:=30000,y:=1000 } == 0 else false then O.ZaY (O.arP false (O.blk O.bcs 5000 0) { x:=0,y:=1000 } { x:=30000,y:=1000 })==30000 else false)==true&&true&&true,false,23,[vi 30000,vi 1000],[],zNqR1,[]⟩,⟨(bif bif bif O.hgt O.bcs 0 0 30000 0 3000==9000 then O.hgt O.bcs 0 9000 30000 9000 3000==1000 else false then O.arE (O.blk O.bcs 5000 0) { x:=0,y:=1000 } { x:=30000,y:=1000 } == 0 else false then O.ZaY (O.arP false (O.blk O.bcs 5000 0) { x:=0,y:=1000 } { x:=30000,y:=1000 })==30000 else false)==true&&true&&true,false,9,[zNqR5,zNqR2,zNqR1],[],vb true,[]⟩]) (vb (bif bif bif bif O.hgt O.bcs 0 0 30000 0 3000==9000 then O.hgt O.bcs 0 9000 30000 9000 3000==1000 else false then O.arE (O.blk O.bcs 5000 0) { x:=0,y:=1000 } { x:=30000,y:=1000 } == 0 else false then O.ZaY (O.arP false (O.blk O.bcs 5000 0) { x:=0,y:=1000 } { x:=30000,y:=1000 })==30000 else false then true else false)) (by kernel_rfl) (bc rfl (bc rfl (bc rfl (bc (Bool.or_true _) (bc (Bool.or_true _) (bc (Bool.or_true _) (bc (Bool.or_true _) b0))))))) q0 (cc (fun _=>(@ev30 )) (cc (fun _=>(@ev31 true (O.bcs) 0 0 40000 30000 5000 0 20000 5000 0 k1)) (cc (fun _=>(@ev23 0 1000)) (cc (fun _=>(@ev23 30000 1000)) (cc (fun _=>(@ev11 false (O.blk O.bcs 5000 0) 0 1000 30000 1000 k2)) (cc (fun _=>(@ev23 0 0)) (cc (fun _=>(@ev23 30000 0)) (cc (fun _=>(@ev22 true (O.bcs) 0 0 40000 30000 5000 0 20000 0 0 30000 0 3000 k3)) (cc (fun hc=>((@ev23 0 9000):Ev M1 (Conf.pure 23 [vi 0,vi 9000]) zNqR4 [])) (cc (fun hc=>((@ev23 30000 9000):Ev M1 (Conf.pure 23 [vi 30000,vi 9000]) zNqR3 [])) (cc (fun hc=>((@ev22 true (O.bcs) 0 0 40000 30000 5000 0 20000 0 9000 30000 9000 3000 (k7 ((i_at (i_at (i_bt i_eq))).1 hc))):Ev M1 (Conf.pure 22 [ag [vi 0,vi 0,vi 40000,vi 30000,vi 5000,vi 0,AV.vec true 5 (List.map Bx.a O.bcs),vi 20000],zNqR4,zNqR3,vi 3000]) (vi (O.hgt O.bcs 0 9000 30000 9000 3000)) [])) (cc (fun hc=>((@ev18 false (O.arP false (O.blk O.bcs 5000 0) { x:=0,y:=1000 } { x:=30000,y:=1000 }) (k9 ((i_at (i_at (i_bt (ZaZ (ZaZ i_eq i_eq) i_eq)))).1 hc))):Ev M1 (Conf.pure 18 [AV.vec false 2 (List.map Gp.a (O.arP false (O.blk O.bcs 5000 0) { x:=0,y:=1000 } { x:=30000,y:=1000 }))]) (vi (O.ZaY (O.arP false (O.blk O.bcs 5000 0) { x:=0,y:=1000 } { x:=30000,y:=1000 }))) [])) (cc (fun hc=>((@ev23 0 1000):Ev M1 (Conf.pure 23 [vi 0,vi 1000]) zNqR2 [])) (cc (fun hc=>((@ev23 30000 1000):Ev M1 (Conf.pure 23 [vi 30000,vi 1000]) zNqR1 [])) (cc (fun hc=>((@ev9 10000 0 20000 5000 8000 0 1000 30000 1000 (k13 ((i_at (i_at (i_bt (ZaZ (ZaZ (ZaZ i_eq i_eq) i_eq) i_eq)))).1 hc))):Ev M1 (Conf.pure 9 [zNqR5,zNqR2,zNqR1]) (vb true) [])) c0))))))))))))))) H
end Go.Av

namespace Go.Av
open Go.Proofs
theorem ent_self {c:Bx} {p:Gp}:O.Zgb c p p=true ↔ O.Zgf c.x0 c.y0 c.x1 c.y1 p.x p.y:=by
 unfold O.Zgb;rw [ent_ref];unfold O.refP;rw [if_pos ⟨rfl,rfl⟩]
theorem free_self {bs:List Bx} {p:Gp}:O.ZbT bs p p ↔ ∀ c ∈ bs,¬O.Zgf c.x0 c.y0 c.x1 c.y1 p.x p.y:=by
 unfold O.ZbT
 constructor
 ·intro h c hc k;exact absurd ((h c hc).symm.trans (ent_self.2 k)) (by decide)
 ·intro h c hc
  cases v:O.Zgb c p p with
  | false=>rfl
  | true=>exact absurd (ent_self.1 v) (h c hc)
theorem bxC_iff {bs:List Bx} {a b:Gp}:(∃ c ∈ bs,O.bxC a b c) ↔ ¬O.ZbT bs a a\/¬O.ZbT bs b b:=by
 rw [free_self,free_self]
 constructor
 ·rintro ⟨c,hc,k | k⟩
  ·exact .inl fun h=>h c hc k
  ·exact .inr fun h=>h c hc k
 ·rintro (h | h)
  ·apply Classical.byContradiction;intro n;exact h fun c hc k=>n ⟨c,hc,.inl k⟩
  ·apply Classical.byContradiction;intro n;exact h fun c hc k=>n ⟨c,hc,.inr k⟩
open Classical in
theorem ar_er (bs:List Bx) (a b:Gp):O.arE bs a b=if O.erI bs a b=0 then (if a=b then 0 else if O.lnk bs (O.Zdj bs a b) then 0 else 16) else O.erI bs a b:=by
 unfold O.arE O.erI
 by_cases h1:∃ c ∈ bs,O.bxI c
 ·rw [if_pos h1,if_pos h1,if_neg (by decide)]
 ·rw [if_neg h1,if_neg h1]
  by_cases h2:bs.length>8
  ·rw [if_pos h2,if_pos h2,if_neg (by decide)]
  ·rw [if_neg h2,if_neg h2]
   by_cases h3:O.fr4 a.x a.y b.x b.y
   ·rw [if_pos (.inl h3),if_pos h3,if_neg (by decide)]
   ·rw [if_neg h3]
    by_cases h4:∃ c ∈ bs,O.bxF c
    ·rw [if_pos (.inr h4),if_pos h4,if_neg (by decide)]
    ·rw [if_neg (not_or.2 ⟨h3,h4⟩),if_neg h4]
     by_cases h5:∃ c ∈ bs,O.bxC a b c
     ·rw [if_pos (bxC_iff.1 h5),if_pos h5,if_neg (by decide)]
     ·rw [if_neg fun x=>h5 (bxC_iff.2 x),if_neg h5,if_pos rfl]
structure O.Er0 (bs:List Bx) (a b:Gp):Prop where
 len:bs.length<=8
 ok:O.okB8 bs
 ca:O.ccp a
 cb:O.ccp b
 fa:O.ZbT bs a a
 fb:O.ZbT bs b b
theorem er0 {bs:List Bx} {a b:Gp} (e:O.erI bs a b=0):O.Er0 bs a b:=by
 unfold O.erI at e
 by_cases h1:∃ c ∈ bs,O.bxI c
 ·rw [if_pos h1] at e;exact absurd e (by decide)
 rw [if_neg h1] at e
 by_cases h2:bs.length>8
 ·rw [if_pos h2] at e;exact absurd e (by decide)
 rw [if_neg h2] at e
 by_cases h3:O.fr4 a.x a.y b.x b.y
 ·rw [if_pos h3] at e;exact absurd e (by decide)
 rw [if_neg h3] at e
 by_cases h4:∃ c ∈ bs,O.bxF c
 ·rw [if_pos h4] at e;exact absurd e (by decide)
 rw [if_neg h4] at e
 by_cases h5:∃ c ∈ bs,O.bxC a b c
 ·rw [if_pos h5] at e;exact absurd e (by decide)
 have f5:¬(¬O.ZbT bs a a\/¬O.ZbT bs b b):=fun x=>h5 (bxC_iff.2 x)
 unfold O.fr4 O.fr1 at h3
 refine ⟨by omega,⟨by omega,fun c hc => ?_⟩,?_,?_,Classical.not_not.1 fun x=>f5 (.inl x),Classical.not_not.1 fun x=>f5 (.inr x)⟩
 ·have:¬O.bxF c:=fun x=>h4 ⟨c,hc,x⟩
  unfold O.bxF O.fr4 O.fr1 at this
  unfold O.ccb O.cc;omega
 ·unfold O.ccp O.cc;omega
 ·unfold O.ccp O.cc;omega
structure O.ArOk (bs:List Bx) (a b:Gp) (P:List Gp):Prop where
 er:O.erI bs a b=0
 ne:P ≠ []
 head:P.getD 0 default=a
 last:P.getD (P.length-1) default=b
 mem:∀ p ∈ P,p ∈ O.Zb2 bs a b
 chn:O.chn (O.ZbT bs) P
 walk:O.Wk (O.nd (O.Zb2 bs a b)) (O.ZbT bs) a b (O.ZaY P)
 least:∀ d,O.Wk (O.nd (O.Zb2 bs a b)) (O.ZbT bs) a b d->O.ZaY P<=d
 len:P.length<=40
 one:a=b->P.length=1
open Classical in
theorem ar_ok {f:Bool} {bs:List Bx} {a b:Gp} (e:O.arE bs a b=0):O.ArOk bs a b (O.arP f bs a b):=by
 have e2:=ar_er bs a b
 by_cases h:O.erI bs a b=0
 ·rw [if_pos h,e] at e2
  have E:=er0 h
  by_cases k:a=b
  ·subst k
   have p:O.arP f bs a a=[a]:=by unfold O.arP;rw [if_pos e,if_pos rfl]
   rw [p]
   exact ⟨h,by simp,rfl,rfl,fun p hp=>by rw [List.mem_singleton.1 hp];exact .head _,trivial,.nil,fun d w=>wk_nn w,by show 1<=40;omega,fun _=>rfl⟩
  ·rw [if_neg k] at e2
   by_cases j:O.lnk bs (O.Zdj bs a b)
   ·have p:O.arP f bs a b=O.shP f false bs (O.Zdj bs a b):=by unfold O.arP;rw [if_pos e,if_neg k]
    have ok:O.okSh bs (O.Zdj bs a b):=⟨E.ok,nodP_ok E.ok E.ca E.cb,by rw [ZeY];omega,E.fa⟩
    have g:=(shP_spec (f:=f) (g:=false) ok j).2
    rw [p]
    have w0:=g.walk
    have l0:=g.least
    have la:=nodP_last bs a b
    rw [la] at w0 l0
    exact ⟨h,g.ne,g.head,by rw [g.last,la],fun p hp=>ZeZ.1 (g.mem p hp),g.chn,wk_nod.1 w0,fun d w=>l0 d (wk_nod.2 w),by have:=g.len;rw [ZeY] at this;have:=E.len;omega,fun x=>absurd x k⟩
   ·rw [if_neg j] at e2;exact absurd e2 (by decide)
 ·rw [if_neg h,e] at e2;exact absurd e2.symm h
theorem ar_okP {bs:List Bx} {a b:Gp} {P:List Gp} (h:O.ArOk bs a b P):O.okP8 P:=by
 have E:=er0 h.er
 exact ⟨by have:=h.len;omega,fun p hp=>(nod_ok E.ok E.ca E.cb).2 p (h.mem p hp)⟩
end Go.Av

namespace Go.Av
open Go.Proofs
theorem bcs_mem {c:Bx} (h:c ∈ O.bcs):c=⟨10000,0,20000,5000,8000⟩:=List.mem_singleton.1 h
theorem bcs_blk:O.blk O.bcs 5000 0=[⟨10000,0,20000,5000,8000⟩]:=rfl
theorem bcs_hg {ax ay bx by_ r:Int} (h:(O.cc ax/\O.cc ay)/\(O.cc bx/\O.cc by_)/\O.cc r):O.okHg O.bcs ax ay bx by_ r:=
 ⟨⟨by decide,fun c hc=>by rw [bcs_mem hc];unfold O.ccb O.cc;decide,h.1.1,h.1.2,h.2.1.1,h.2.1.2,h.2.2⟩,fun c hc=>by rw [bcs_mem hc];decide⟩
theorem bcs_ok:O.okBlk O.bcs 0:=⟨by decide,fun c hc=>by rw [bcs_mem hc];unfold O.ccb O.cc;decide,by unfold O.cc;decide⟩
theorem bcs_n1:O.nea 10000 0 20000 5000 0 0 30000 0 3000:=by
 unfold O.nea O.neS O.seg;simp only [qi_eq];decide +kernel
theorem bcs_n2:¬O.nea 10000 0 20000 5000 0 9000 30000 9000 3000:=by
 unfold O.nea O.neS O.seg;simp only [qi_eq];decide +kernel
theorem bcs_h1:O.hgt O.bcs 0 0 30000 0 3000=9000:=by
 have e:O.hiF 0 0 30000 0 3000 O.bcs 0 false=(8000,true):=by
  unfold O.bcs;rw [O.hiF,if_pos ⟨bcs_n1,.inl (by decide)⟩];rfl
 unfold O.hgt;rw [e];rfl
theorem bcs_h2:O.hgt O.bcs 0 9000 30000 9000 3000=1000:=by
 have e:O.hiF 0 9000 30000 9000 3000 O.bcs 0 false=(0,false):=by
  unfold O.bcs;rw [O.hiF,if_neg fun x=>bcs_n2 x.1];rfl
 unfold O.hgt;rw [e];rfl
theorem bcs_er:O.erI [⟨10000,0,20000,5000,8000⟩] ⟨0,1000⟩ ⟨30000,1000⟩=0:=by
 have N {p:Bx->Prop} (h:¬p ⟨10000,0,20000,5000,8000⟩):¬∃ c ∈ [(⟨10000,0,20000,5000,8000⟩:Bx)],p c:=fun ⟨c,hc,k⟩=>h (by rw [List.mem_singleton.1 hc] at k;exact k)
 unfold O.erI
 rw [if_neg (N (by unfold O.bxI;decide)),if_neg (by decide),if_neg (by unfold O.fr4 O.fr1;decide),if_neg (N (by unfold O.bxF O.fr4 O.fr1;decide)),if_neg (N (by unfold O.bxC O.Zgf;decide))]
theorem bcs_wk:O.Wk (O.nd (O.Zb2 [⟨10000,0,20000,5000,8000⟩] ⟨0,1000⟩ ⟨30000,1000⟩)) (O.ZbT [⟨10000,0,20000,5000,8000⟩]) ⟨0,1000⟩ ⟨30000,1000⟩ 30000:=by
 have F {p q:Gp} (h:O.Zgb ⟨10000,0,20000,5000,8000⟩ p q=false):O.ZbT [⟨10000,0,20000,5000,8000⟩] p q:=fun c hc=>by rw [List.mem_singleton.1 hc];exact h
 exact ((O.Wk.nil.snoc (q:=⟨10000,0⟩) (ZdZ.2 (by decide)) (F (by decide +kernel))).snoc (q:=⟨20000,0⟩) (ZdZ.2 (by decide)) (F (by decide +kernel))).snoc (q:=⟨30000,1000⟩) (ZdZ.2 (by decide)) (F (by decide +kernel))
theorem bcs_lnk:O.lnk [⟨10000,0,20000,5000,8000⟩] (O.Zdj [⟨10000,0,20000,5000,8000⟩] ⟨0,1000⟩ ⟨30000,1000⟩):=by
 refine lnk_nod.2 ⟨30000,?_⟩
 rw [nod_last];exact bcs_wk
theorem bcs_ar:O.arE [⟨10000,0,20000,5000,8000⟩] ⟨0,1000⟩ ⟨30000,1000⟩=0:=by
 rw [ar_er,if_pos bcs_er,if_neg (by decide),if_pos bcs_lnk]
theorem bcs_len (f:Bool):O.ZaY (O.arP f [⟨10000,0,20000,5000,8000⟩] ⟨0,1000⟩ ⟨30000,1000⟩)=30000:=by
 have h:=ar_ok (f:=f) bcs_ar
 have a:=h.least _ bcs_wk
 have b:=wk_gap h.walk
 have:O.gap ⟨0,1000⟩ ⟨30000,1000⟩=30000:=by decide
 omega
theorem okP_G {l:List Gp} (h:O.okP8 l):O.okG l:=by
 refine ⟨by have:=h.1;omega,fun p hp => ?_⟩
 have:=h.2 p hp
 unfold O.ccp O.cc at this
 unfold O.cbp O.cb;omega
theorem ev8:Ev M1 (.pure 8 []) (.bool true) []:=by
 have C {n:Int} (h:-20000000<=n/\n<=20000000):O.cc n:=h
 refine call8 (qAw _ ⟨bcs_ok,by decide,bcs_hg ⟨⟨C (by decide),C (by decide)⟩,⟨C (by decide),C (by decide)⟩,C (by decide)⟩,fun _=>bcs_hg ⟨⟨C (by decide),C (by decide)⟩,⟨C (by decide),C (by decide)⟩,C (by decide)⟩,fun _ => ?_,fun _=>by unfold O.cc8 O.cc;decide,?_⟩)
 ·rw [bcs_blk];exact okP_G (ar_okP (ar_ok bcs_ar))
 ·rw [bcs_h1,bcs_h2,bcs_blk,bcs_ar,bcs_len];rfl
end Go.Av

namespace Go.Av
open Go.Proofs
set_option maxRecDepth 100000
def fi5:Fi:=⟨107,[.tmp 6]⟩
def kp5:List (Nat × List Nat):=[(0,[0,2,4]),(1,[0,2,7,8]),(2,[0,2,7,8,39]),(3,[6]),(4,[0,2,7,8,9,10]),(5,[0,2,7,8,9,10,11]),(6,[0,2,7,8,9,10,11,12]),(7,[0,7,8,9,10,11,12,56,57,58]),(8,[0,7,8,9,10,11,12,56,57,58,59]),(9,[0,7,8,9,10,11,12,14,56,57,58]),(10,[0,7,8,9,10,11,12,56,57,58]),(11,[0,7,8,9,10,11,12,56,57,58]),(12,[0,7,8,9,10,12]),(13,[7,8,9,10,12,15]),(14,[7,8,9,10,12,15,82]),(15,[6]),(16,[7,8,12,15,16]),(17,[6])]
def qLsN_at (f:Bool) (ax ay bx by_:Int) (g:Bool) (ks:List Int) (Q:AV->Heap->Prop):Prop:=Wp M1 (.run fi5 (atC (cd Try.f5) []) [(0,.vec f 5 []),(1,.agg [.int .i64 ax,.int .i64 ay,.int .i64 bx,.int .i64 by_]),(2,.vec g 1 (ks.map (.int .u8)))] []) Q
def qLsC_at (f:Bool) (c:Bx) (bs:List Bx) (ax ay bx by_:Int) (g:Bool) (ks:List Int) (Q:AV->Heap->Prop):Prop:=Wp M1 (.run fi5 (atC (cd Try.f5) []) [(0,.vec f 5 ((c::bs).map Bx.a)),(1,.agg [.int .i64 ax,.int .i64 ay,.int .i64 bx,.int .i64 by_]),(2,.vec g 1 (ks.map (.int .u8)))] []) Q
def ZeT (f:Bool) (ax ay bx by_:Int) (ps:List Gp) (e:Int) (nd:List Gp) (g:Bool) (ks:List Int) (n i:Int) (Q:AV->Heap->Prop):Prop:=Wp M1 (.run fi5 (atC (cd Try.f5) [1,1,1,1,1,1,0,1,0,0]) [(0,.vec f 5 []),(7,.ptr 0 0 0 0),(8,.ptr 1 0 0 0),(9,.vec false 2 (ps.map Gp.a)),(10,.int .i64 e),(11,.vec false 2 (nd.map Gp.a)),(12,.vec true 2 [.agg [.int .i64 ax,.int .i64 ay]]),(56,.vec g 1 (ks.map (.int .u8))),(57,.int .i64 n),(58,.int .i64 i)] [⟨[.agg [.int .i64 ax,.int .i64 ay]],2,0,false,false⟩,⟨[.agg [.int .i64 bx,.int .i64 by_]],2,0,false,false⟩]) Q
def ZdO (f:Bool) (ax ay bx by_:Int) (ps:List Gp) (e:Int) (nd:List Gp) (g:Bool) (ks:List Int) (n i:Int) (gs:List Gp) (v:Nat) (Q:AV->Heap->Prop):Prop:=Wp M1 (.run fi5 (atC (cd Try.f5) [1,1,1,1,1,1,0,1,0,0]) [(0,.vec f 5 []),(7,.ptr 0 0 0 0),(8,.ptr 1 0 0 0),(9,.vec false 2 (ps.map Gp.a)),(10,.int .i64 e),(11,.vec false 2 (nd.map Gp.a)),(12,.row 2 v),(56,.vec g 1 (ks.map (.int .u8))),(57,.int .i64 n),(58,.int .i64 i)] [⟨[.agg [.int .i64 ax,.int .i64 ay]],2,0,false,false⟩,⟨[.agg [.int .i64 bx,.int .i64 by_]],2,0,false,false⟩,⟨gs.map Gp.a,2,v,false,true⟩]) Q
def ZeU (f:Bool) (c:Bx) (bs:List Bx) (ax ay bx by_:Int) (ps:List Gp) (e:Int) (nd:List Gp) (g:Bool) (ks:List Int) (n i:Int) (Q:AV->Heap->Prop):Prop:=Wp M1 (.run fi5 (atC (cd Try.f5) [1,1,1,1,1,1,0,1,0,0]) [(0,.vec f 5 ((c::bs).map Bx.a)),(7,.ptr 0 0 0 0),(8,.ptr 1 0 0 0),(9,.vec false 2 (ps.map Gp.a)),(10,.int .i64 e),(11,.vec false 2 (nd.map Gp.a)),(12,.vec true 2 [.agg [.int .i64 ax,.int .i64 ay]]),(56,.vec g 1 (ks.map (.int .u8))),(57,.int .i64 n),(58,.int .i64 i)] [⟨[.agg [.int .i64 ax,.int .i64 ay]],2,0,false,false⟩,⟨[.agg [.int .i64 bx,.int .i64 by_]],2,0,false,false⟩]) Q
def ZdP (f:Bool) (c:Bx) (bs:List Bx) (ax ay bx by_:Int) (ps:List Gp) (e:Int) (nd:List Gp) (g:Bool) (ks:List Int) (n i:Int) (gs:List Gp) (v:Nat) (Q:AV->Heap->Prop):Prop:=Wp M1 (.run fi5 (atC (cd Try.f5) [1,1,1,1,1,1,0,1,0,0]) [(0,.vec f 5 ((c::bs).map Bx.a)),(7,.ptr 0 0 0 0),(8,.ptr 1 0 0 0),(9,.vec false 2 (ps.map Gp.a)),(10,.int .i64 e),(11,.vec false 2 (nd.map Gp.a)),(12,.row 2 v),(56,.vec g 1 (ks.map (.int .u8))),(57,.int .i64 n),(58,.int .i64 i)] [⟨[.agg [.int .i64 ax,.int .i64 ay]],2,0,false,false⟩,⟨[.agg [.int .i64 bx,.int .i64 by_]],2,0,false,false⟩,⟨gs.map Gp.a,2,v,false,true⟩]) Q
theorem call5 {args:List AV} {d:AV} (h:wc M1 fi5 Try.f5 args d):Ev M1 (.pure 5 args) d []:=pcl _ _ (by kernel_rfl) h
noncomputable abbrev zNqS10 (ax:Int) (ay:Int) (bx:Int) (by_:Int):=ag [vi ax,vi ay,vi bx,vi by_]
noncomputable abbrev Zgl (ax:Int) (ay:Int):=ag [vi ax,vi ay]
noncomputable abbrev zNqS12 (bx:Int) (by_:Int):=ag [vi bx,vi by_]
theorem qLsN (f:Bool) (ax ay bx by_:Int) (g:Bool) (ks:List Int)  (dq:AV) (H :
  ∃ (n1:Int),
  ((¬((↑ks.length:Int)>6))->(Ev M1 (Conf.pure 12 [AV.vec f 5 [],ag [vi ax,vi ay],ag [vi bx,vi by_]]) (vi n1) [])) /\
  ((((↑ks.length:Int)>6)\/(¬n1=0))->vb true=dq) /\
  (¬(((↑ks.length:Int)>6)\/(¬n1=0)) -> ∃ (l2:List Gp) (n3:Int),
   (Ev M1 (Conf.pure 11 [AV.vec true 5 [],ag [vi ax,vi ay],ag [vi bx,vi by_]]) (tu [AV.vec false 2 (List.map Gp.a l2),vi n3]) []) /\
   ∃ (l3:List Gp),
   (Ev M1 (Conf.pure 17 [AV.vec f 5 [],ag [vi ax,vi ay],ag [vi bx,vi by_]]) (AV.vec false 2 (List.map Gp.a l3)) []) /\
   ZeT f ax ay bx by_ l2 n3 l3 g ks ((↑ks.length:Int)) 0 (Zaf dq))) :
 qLsN_at f ax ay bx by_ g ks (Zaf dq):=by
 unfold qLsN_at
 refine Zac (G:=Zad kp5 [] [(1,[4007,3006,4005,3004,2003,2002,2001,2000])]) 3 [] ⟨(atC (cd Try.f5) [1,0]),[(0,AV.vec f 5 []),(2,AV.vec g 1 (List.map (AV.int IntKind.u8) ks)),(4,AV.ptr 0 0 0 0)],[⟨[(zNqS10 ax ay bx by_)],4,0,false,false⟩],_,[],_⟩ (by kernel_rfl) b0 q0 c0 (ZcR (G:=Zad kp5 [] [(1,[4007,3006,4005,3004,2003,2002,2001,2000])]) [0,2,1] 4 (e1:=[(0,AV.vec f 5 []),(2,AV.vec g 1 (List.map (AV.int IntKind.u8) ks)),(7,AV.ptr 1 0 0 0),(8,AV.ptr 2 0 0 0)]) (L1:=[⟨[(zNqS10 ax ay bx by_)],4,0,false,false⟩,⟨[(Zgl ax ay)],2,0,false,false⟩,⟨[(zNqS12 bx by_)],2,0,false,false⟩]) (a:=[true,true,true,true,true,true,true,true]) (q:=[]) (cs:=[]) (by kernel_rfl) (by kernel_rfl) (Zae rfl (Zae rfl (Zae rfl (Zae rfl (Zae rfl (Zae rfl (Zae rfl (Zae rfl Zaw)))))))) ZaK ZaL ?_)
 obtain ⟨n1,H⟩:=H
 have w1:(List.map (AV.int IntKind.u8) ks).length=ks.length:=List.length_map ..
 have i2:(decide ((↑(List.map (AV.int IntKind.u8) ks).length:Int)>6)==false&&true&&true)=true ↔ (¬((↑ks.length:Int)>6)):=(by (try rw [w1]);all_goals exact (i_at (i_at (i_bf Zab))))
 obtain ⟨k3,H⟩:=H
 have i4:(bif decide ((↑(List.map (AV.int IntKind.u8) ks).length:Int)>6) then true else n1 != 0)=true ↔ (((↑ks.length:Int)>6)\/(¬n1=0)):=(by (try rw [w1]);all_goals exact (ZaF Zab i_ne))
 refine Zac (G:=Zad kp5 [(2,0,.call (vb true) none),(2,16,.call (vi n1) none)] []) 3 [] ⟨(atC (cd Try.f5) [1,1,0,1]),[(0,AV.vec f 5 []),(2,AV.vec g 1 (List.map (AV.int IntKind.u8) ks)),(7,AV.ptr 1 0 0 0),(8,AV.ptr 2 0 0 0),(39,vb (bif decide ((↑(List.map (AV.int IntKind.u8) ks).length:Int)>6) then true else n1 != 0))],[⟨[(zNqS10 ax ay bx by_)],4,0,false,false⟩,⟨[(Zgl ax ay)],2,0,false,false⟩,⟨[(zNqS12 bx by_)],2,0,false,false⟩],[!(decide ((↑(List.map (AV.int IntKind.u8) ks).length:Int)>6)==false&&true)||true,!(decide ((↑(List.map (AV.int IntKind.u8) ks).length:Int)>6)==false&&true)||true],[],[⟨true,false,8,[],[],vb true,[]⟩,⟨decide ((↑(List.map (AV.int IntKind.u8) ks).length:Int)>6)==false&&true&&true,false,12,[AV.vec f 5 [],(Zgl ax ay),(zNqS12 bx by_)],[],vi n1,[]⟩]⟩ (by kernel_rfl) (bc (Bool.or_true _) (bc (Bool.or_true _) b0)) q0 (cc (fun _=>(@ev8 )) (cc (fun hc=>((k3 (i2.1 hc)):Ev M1 (Conf.pure 12 [AV.vec f 5 [],(Zgl ax ay),(zNqS12 bx by_)]) (vi n1) [])) c0)) ?_
 rcases xq H with ⟨d5,H⟩|⟨d5,H⟩
 ·exact Zah (G:=Zad kp5 [(3,0,.call (vb true) none)] []) 1000 [true] (vb true) (by kernel_rfl) (bc (Zal (i4.2 d5)) b0) q0 (ce (@ev8 ) c0) H
 ·obtain ⟨l2,n3,k7,l3,k8,H⟩:=H
  exact Zac (G:=Zad kp5 [(4,5,.call (tu [AV.vec false 2 (List.map Gp.a l2),vi n3]) none),(5,3,.call (AV.vec false 2 (List.map Gp.a l3)) none)] [(4,[902005,4004,3003,5002,902000])]) 1000 [false] ⟨(atC (cd Try.f5) [1,1,1,1,1,1,0,1,0,0]),[(0,AV.vec f 5 []),(7,AV.ptr 1 0 0 0),(8,AV.ptr 2 0 0 0),(9,AV.vec false 2 (List.map Gp.a l2)),(10,vi n3),(11,AV.vec false 2 (List.map Gp.a l3)),(12,AV.vec true 2 [(Zgl ax ay)]),(56,AV.vec g 1 (List.map (AV.int IntKind.u8) ks)),(57,vi (↑(List.map (AV.int IntKind.u8) ks).length:Int)),(58,vi 0)],[⟨[(zNqS10 ax ay bx by_)],4,0,false,false⟩,⟨[(Zgl ax ay)],2,0,false,false⟩,⟨[(zNqS12 bx by_)],2,0,false,false⟩],_,[],_⟩ (by kernel_rfl) (bc (Zak (fun h=>d5 (i4.1 h))) (bc rfl (bc rfl (bc rfl (bc rfl (bc rfl b0)))))) q0 (ce k7 (ce k8 c0)) (by (try rw [w1]);all_goals exact Zas [1,2] (by kernel_rfl) H)
noncomputable abbrev Ze8 (c:Bx):=ag [vi c.x0,vi c.y0,vi c.x1,vi c.y1,vi c.top]
noncomputable abbrev zNqS14 (ax:Int) (ay:Int) (bx:Int) (by_:Int):=ag [vi ax,vi ay,vi bx,vi by_]
noncomputable abbrev Zgk (ax:Int) (ay:Int):=ag [vi ax,vi ay]
noncomputable abbrev zNqS16 (bx:Int) (by_:Int):=ag [vi bx,vi by_]
theorem qLsC (f:Bool) (c:Bx) (bs:List Bx) (ax ay bx by_:Int) (g:Bool) (ks:List Int)  (dq:AV) (H :
  ∃ (n1:Int),
  ((¬(((↑(bs.length+1):Int)>8)\/((↑ks.length:Int)>6)))->(Ev M1 (Conf.pure 12 [AV.vec f 5 (ag [vi c.x0,vi c.y0,vi c.x1,vi c.y1,vi c.top]::List.map Bx.a bs),ag [vi ax,vi ay],ag [vi bx,vi by_]]) (vi n1) [])) /\
  (((((↑(bs.length+1):Int)>8)\/((↑ks.length:Int)>6))\/(¬n1=0))->vb true=dq) /\
  (¬((((↑(bs.length+1):Int)>8)\/((↑ks.length:Int)>6))\/(¬n1=0)) -> ∃ (l2:List Gp) (n3:Int),
   (Ev M1 (Conf.pure 11 [AV.vec false 5 (ag [vi c.x0,vi c.y0,vi c.x1,vi c.y1,vi c.top]::List.map Bx.a bs),ag [vi ax,vi ay],ag [vi bx,vi by_]]) (tu [AV.vec false 2 (List.map Gp.a l2),vi n3]) []) /\
   ((0+(bs.length+1))*40<=1099511627776) /\
   ∃ (l3:List Gp),
   (Ev M1 (Conf.pure 17 [AV.vec f 5 (ag [vi c.x0,vi c.y0,vi c.x1,vi c.y1,vi c.top]::List.map Bx.a bs),ag [vi ax,vi ay],ag [vi bx,vi by_]]) (AV.vec false 2 (List.map Gp.a l3)) []) /\
   ZeU f c bs ax ay bx by_ l2 n3 l3 g ks ((↑ks.length:Int)) 0 (Zaf dq))) :
 qLsC_at f c bs ax ay bx by_ g ks (Zaf dq):=by
 unfold qLsC_at
 refine Zac (G:=Zad kp5 [] [(1,[4007,3006,4005,3004,2003,2002,2001,2000])]) 3 [] ⟨(atC (cd Try.f5) [1,0]),[(0,AV.vec f 5 ((Ze8 c)::List.map Bx.a bs)),(2,AV.vec g 1 (List.map (AV.int IntKind.u8) ks)),(4,AV.ptr 0 0 0 0)],[⟨[(zNqS14 ax ay bx by_)],4,0,false,false⟩],_,[],_⟩ (by kernel_rfl) b0 q0 c0 (ZcR (G:=Zad kp5 [] [(1,[4007,3006,4005,3004,2003,2002,2001,2000])]) [0,2,1] 4 (e1:=[(0,AV.vec f 5 ((Ze8 c)::List.map Bx.a bs)),(2,AV.vec g 1 (List.map (AV.int IntKind.u8) ks)),(7,AV.ptr 1 0 0 0),(8,AV.ptr 2 0 0 0)]) (L1:=[⟨[(zNqS14 ax ay bx by_)],4,0,false,false⟩,⟨[(Zgk ax ay)],2,0,false,false⟩,⟨[(zNqS16 bx by_)],2,0,false,false⟩]) (a:=[true,true,true,true,true,true,true,true]) (q:=[]) (cs:=[]) (by kernel_rfl) (by kernel_rfl) (Zae rfl (Zae rfl (Zae rfl (Zae rfl (Zae rfl (Zae rfl (Zae rfl (Zae rfl Zaw)))))))) ZaK ZaL ?_)
 obtain ⟨n1,H⟩:=H
 have w1:(List.map Bx.a bs).length=bs.length:=List.length_map ..
 have w2:(List.map (AV.int IntKind.u8) ks).length=ks.length:=List.length_map ..
 have i3:((bif decide ((↑((List.map Bx.a bs).length+1):Int)>8) then true else decide ((↑(List.map (AV.int IntKind.u8) ks).length:Int)>6))==false&&true&&true)=true ↔ (¬(((↑(bs.length+1):Int)>8)\/((↑ks.length:Int)>6))):=(by (try rw [w1]);(try rw [w2]);all_goals exact (i_at (i_at (i_bf (ZaF Zab Zab)))))
 obtain ⟨k4,H⟩:=H
 have i5:(bif bif decide ((↑((List.map Bx.a bs).length+1):Int)>8) then true else decide ((↑(List.map (AV.int IntKind.u8) ks).length:Int)>6) then true else n1 != 0)=true ↔ ((((↑(bs.length+1):Int)>8)\/((↑ks.length:Int)>6))\/(¬n1=0)):=(by (try rw [w1]);(try rw [w2]);all_goals exact (ZaF (ZaF Zab Zab) i_ne))
 refine Zac (G:=Zad kp5 [(2,0,.call (vb true) none),(2,16,.call (vi n1) none)] []) 3 [] ⟨(atC (cd Try.f5) [1,1,0,1]),[(0,AV.vec f 5 ((Ze8 c)::List.map Bx.a bs)),(2,AV.vec g 1 (List.map (AV.int IntKind.u8) ks)),(7,AV.ptr 1 0 0 0),(8,AV.ptr 2 0 0 0),(39,vb (bif bif decide ((↑((List.map Bx.a bs).length+1):Int)>8) then true else decide ((↑(List.map (AV.int IntKind.u8) ks).length:Int)>6) then true else n1 != 0))],[⟨[(zNqS14 ax ay bx by_)],4,0,false,false⟩,⟨[(Zgk ax ay)],2,0,false,false⟩,⟨[(zNqS16 bx by_)],2,0,false,false⟩],[!((bif decide ((↑((List.map Bx.a bs).length+1):Int)>8) then true else decide ((↑(List.map (AV.int IntKind.u8) ks).length:Int)>6))==false&&true)||true,!((bif decide ((↑((List.map Bx.a bs).length+1):Int)>8) then true else decide ((↑(List.map (AV.int IntKind.u8) ks).length:Int)>6))==false&&true)||true],[],[⟨true,false,8,[],[],vb true,[]⟩,⟨(bif decide ((↑((List.map Bx.a bs).length+1):Int)>8) then true else decide ((↑(List.map (AV.int IntKind.u8) ks).length:Int)>6))==false&&true&&true,false,12,[AV.vec f 5 ((Ze8 c)::List.map Bx.a bs),(Zgk ax ay),(zNqS16 bx by_)],[],vi n1,[]⟩]⟩ (by kernel_rfl) (bc (Bool.or_true _) (bc (Bool.or_true _) b0)) q0 (cc (fun _=>(@ev8 )) (cc (fun hc=>((k4 (i3.1 hc)):Ev M1 (Conf.pure 12 [AV.vec f 5 ((Ze8 c)::List.map Bx.a bs),(Zgk ax ay),(zNqS16 bx by_)]) (vi n1) [])) c0)) ?_
 rcases xq H with ⟨d6,H⟩|⟨d6,H⟩
 ·exact Zah (G:=Zad kp5 [(3,0,.call (vb true) none)] []) 1000 [true] (vb true) (by kernel_rfl) (bc (Zal (i5.2 d6)) b0) q0 (ce (@ev8 ) c0) H
 ·obtain ⟨l2,n3,k8,H⟩:=H
  have i9:(decide ((0+((List.map Bx.a bs).length+1))*40<=1099511627776))=true ↔ ((0+(bs.length+1))*40<=1099511627776):=(by (try rw [w1]);all_goals exact Zab)
  obtain ⟨k10,l3,k11,H⟩:=H
  exact Zac (G:=Zad kp5 [(4,5,.call (tu [AV.vec false 2 (List.map Gp.a l2),vi n3]) none),(5,3,.call (AV.vec false 2 (List.map Gp.a l3)) none)] [(4,[5,4004,3003,5002,902000])]) 1000 [false] ⟨(atC (cd Try.f5) [1,1,1,1,1,1,0,1,0,0]),[(0,AV.vec f 5 ((Ze8 c)::List.map Bx.a bs)),(7,AV.ptr 1 0 0 0),(8,AV.ptr 2 0 0 0),(9,AV.vec false 2 (List.map Gp.a l2)),(10,vi n3),(11,AV.vec false 2 (List.map Gp.a l3)),(12,AV.vec true 2 [(Zgk ax ay)]),(56,AV.vec g 1 (List.map (AV.int IntKind.u8) ks)),(57,vi (↑(List.map (AV.int IntKind.u8) ks).length:Int)),(58,vi 0)],[⟨[(zNqS14 ax ay bx by_)],4,0,false,false⟩,⟨[(Zgk ax ay)],2,0,false,false⟩,⟨[(zNqS16 bx by_)],2,0,false,false⟩,⟨(Ze8 c)::List.map Bx.a bs,5,0,true,true⟩],_,[],_⟩ (by kernel_rfl) (bc (Zak (fun h=>d6 (i5.1 h))) (bc (i9.2 k10) (bc rfl (bc rfl (bc rfl (bc rfl (bc rfl (bc rfl b0)))))))) q0 (ce k8 (ce k11 c0)) (by (try rw [w2]);all_goals exact Zas [1,2] (by kernel_rfl) H)
noncomputable abbrev Zgj (bx:Int) (by_:Int):=ag [vi bx,vi by_]
noncomputable abbrev zNqS18 (nd:List Gp) (ks:List Int) (i:Int):=ag [vi (nd.getD ((ks.getD i.toNat default).tmod (↑nd.length:Int)).toNat default).x,vi (nd.getD ((ks.getD i.toNat default).tmod (↑nd.length:Int)).toNat default).y]
theorem qLsNA (f:Bool) (ax ay bx by_:Int) (ps:List Gp) (e:Int) (nd:List Gp) (g:Bool) (ks:List Int) (n i:Int)  (dq:AV) (H :
  ((i<n)->(0<=i) /\
   (i.toNat<ks.length) /\
   (-9223372036854775808<=ks.getD i.toNat default/\ks.getD i.toNat default<=9223372036854775807) /\
   (¬(↑nd.length:Int)=0) /\
   (0<=(ks.getD i.toNat default).tmod (↑nd.length:Int)) /\
   (((ks.getD i.toNat default).tmod (↑nd.length:Int)).toNat<nd.length) /\
   (-9223372036854775808<=i+1/\i+1<=9223372036854775807) /\
   ZdO f ax ay bx by_ ps e nd g ks n (i+1) ([{ x:=ax,y:=ay },nd.getD ((ks.getD i.toNat default).tmod (↑nd.length:Int)).toNat default]) 0 (Zaf dq)) /\
  (¬(i<n) -> ∃ (b1:Bool),
   (Ev M1 (Conf.pure 15 [AV.vec f 5 [],AV.vec false 2 [ag [vi ax,vi ay],ag [vi bx,vi by_]]]) (vb b1) []) /\
   ((¬e=0)->(vb (bif e==16 then !b1 else false))=dq) /\
   (¬(¬e=0)->(O.okG ps) /\
    (O.cb4 ax ay bx by_) /\
    (vb (bif decide (O.ZaY ps>=O.gap { x:=ax,y:=ay } { x:=bx,y:=by_ }) then bif !b1 then true else decide (O.ZaY ps<=O.gap { x:=ax,y:=ay } { x:=bx,y:=by_ }) else false))=dq))) :
 ZeT f ax ay bx by_ ps e nd g ks n i (Zaf dq):=by
 unfold ZeT
 rcases xq H with ⟨d2,H⟩|⟨d2,H⟩
 ·obtain ⟨k4,H⟩:=H
  have w5:(List.map (AV.int IntKind.u8) ks).length=ks.length:=List.length_map ..
  have i6:(decide (i.toNat<(List.map (AV.int IntKind.u8) ks).length))=true ↔ (i.toNat<ks.length):=(by (try rw [w5]);all_goals exact Zab)
  obtain ⟨k7,k8,H⟩:=H
  have w9:wi (ks.getD i.toNat default)=ks.getD i.toNat default:=wI64 k8
  have w10:(List.map Gp.a nd).length=nd.length:=List.length_map ..
  have i11:(!(↑(List.map Gp.a nd).length:Int)==0)=true ↔ (¬(↑nd.length:Int)=0):=(by (try rw [w10]);all_goals exact Zgg)
  obtain ⟨k12,H⟩:=H
  have i13:(decide (0<=(wi (ks.getD i.toNat default)).tmod (↑(List.map Gp.a nd).length:Int)))=true ↔ (0<=(ks.getD i.toNat default).tmod (↑nd.length:Int)):=(by (try rw [w9]);(try rw [w10]);all_goals exact Zab)
  obtain ⟨k14,H⟩:=H
  have i15:(decide (((wi (ks.getD i.toNat default)).tmod (↑(List.map Gp.a nd).length:Int)).toNat<(List.map Gp.a nd).length))=true ↔ (((ks.getD i.toNat default).tmod (↑nd.length:Int)).toNat<nd.length):=(by (try rw [w9]);(try rw [w10]);all_goals exact Zab)
  obtain ⟨k16,k17,H⟩:=H
  have w18:wi (i+1)=i+1:=wI64 k17
  have w19:[ag [vi ax,vi ay],ag [vi (nd.getD ((ks.getD i.toNat default).tmod (↑nd.length:Int)).toNat default).x,vi (nd.getD ((ks.getD i.toNat default).tmod (↑nd.length:Int)).toNat default).y]]=List.map Gp.a [{ x:=ax,y:=ay },nd.getD ((ks.getD i.toNat default).tmod (↑nd.length:Int)).toNat default]:=rfl
  exact Zac (G:=Zad kp5 [(9,1,.elem (AV.int IntKind.u8 (ks.getD i.toNat default))),(10,8,.elem (zNqS18 nd ks i))] []) 1000 [true] ⟨(atC (cd Try.f5) [1,1,1,1,1,1,0,1,0,0]),[(0,AV.vec f 5 []),(7,AV.ptr 0 0 0 0),(8,AV.ptr 1 0 0 0),(9,AV.vec false 2 (List.map Gp.a ps)),(10,vi e),(11,AV.vec false 2 (List.map Gp.a nd)),(12,AV.row 2 0),(56,AV.vec g 1 (List.map (AV.int IntKind.u8) ks)),(57,vi n),(58,vi (wi (i+1)))],[⟨[ag [vi ax,vi ay]],2,0,false,false⟩,⟨[(Zgj bx by_)],2,0,false,false⟩,⟨[ag [vi ax,vi ay],ag [vi (nd.getD ((ks.getD i.toNat default).tmod (↑nd.length:Int)).toNat default).x,vi (nd.getD ((ks.getD i.toNat default).tmod (↑nd.length:Int)).toNat default).y]],2,0,false,true⟩],_,[((List.map (AV.int IntKind.u8) ks).get?Internal i.toNat=some (AV.int IntKind.u8 (ks.getD i.toNat default))),((List.map Gp.a nd).get?Internal ((wi (ks.getD i.toNat default)).tmod (↑(List.map Gp.a nd).length:Int)).toNat=some (zNqS18 nd ks i))],_⟩ (by kernel_rfl) (bc (Zal (Zab.2 d2)) (bc (Zab.2 k4) (bc (i6.2 k7) (bc (i11.2 k12) (bc (i13.2 k14) (bc (i15.2 k16) (bc rfl b0))))))) (qc (Zai k7) (qc (by (try rw [w9]);(try rw [w10]);all_goals exact (Zai k16)) q0)) c0 (by (try rw [w18]);(try rw [w19]);all_goals exact H)
 ·obtain ⟨b1,k20,H⟩:=H
  refine Zac (G:=Zad kp5 [(13,2,.call (vb b1) none)] []) 12 [false] ⟨(atC (cd Try.f5) [1,1,1,1,1,1,1,1,1,0,1]),[(7,AV.ptr 0 0 0 0),(8,AV.ptr 1 0 0 0),(9,AV.vec false 2 (List.map Gp.a ps)),(10,vi e),(12,AV.row 2 0),(15,vb b1),(82,vb (e != 0))],[⟨[ag [vi ax,vi ay]],2,0,false,false⟩,⟨[(Zgj bx by_)],2,0,false,false⟩,⟨[ag [vi ax,vi ay],(Zgj bx by_)],2,0,false,true⟩],_,[],_⟩ (by kernel_rfl) (bc (Zak (fun h=>d2 (Zab.1 h))) (bc rfl (bc rfl (bc rfl b0)))) q0 (ce k20 c0) ?_
  rcases xq H with ⟨d22,H⟩|⟨d22,H⟩
  ·exact Zah (G:=Zad kp5 [] []) 1000 [true] (vb (bif e==16 then !b1 else false)) (by kernel_rfl) (bc (Zal (i_ne.2 d22)) b0) q0 c0 H
  ·obtain ⟨k23,k24,H⟩:=H
   exact Zah (G:=Zad kp5 [(16,1,.call (vi (O.ZaY ps)) none),(17,4,.call (vi (O.gap { x:=ax,y:=ay } { x:=bx,y:=by_ })) none),(17,12,.call (vi (O.gap { x:=ax,y:=ay } { x:=bx,y:=by_ })) none)] []) 1000 [false] (asm:=[(e != 0)==false,true,true,!((!b1)==false&&(decide (O.ZaY ps>=O.gap { x:=ax,y:=ay } { x:=bx,y:=by_ })==true&&true))||true]) (calls:=[⟨true,false,18,[AV.vec false 2 (List.map Gp.a ps)],[],vi (O.ZaY ps),[]⟩,⟨true,false,16,[AV.vec true 2 [ag [vi ax,vi ay],(Zgj bx by_)]],[],vi (O.gap { x:=ax,y:=ay } { x:=bx,y:=by_ }),[]⟩,⟨(!b1)==false&&(decide (O.ZaY ps>=O.gap { x:=ax,y:=ay } { x:=bx,y:=by_ })==true&&true)&&true,false,16,[AV.vec false 2 [ag [vi ax,vi ay],(Zgj bx by_)]],[],vi (O.gap { x:=ax,y:=ay } { x:=bx,y:=by_ }),[]⟩]) (vb (bif decide (O.ZaY ps>=O.gap { x:=ax,y:=ay } { x:=bx,y:=by_ }) then bif !b1 then true else decide (O.ZaY ps<=O.gap { x:=ax,y:=ay } { x:=bx,y:=by_ }) else false)) (by kernel_rfl) (bc (Zak (fun h=>d22 (i_ne.1 h))) (bc rfl (bc rfl (bc (Bool.or_true _) b0)))) q0 (cc (fun _=>(@ev18 false ps k23)) (cc (fun _=>(@ZgR true ax ay bx by_ k24)) (cc (fun hc=>((@ZgR false ax ay bx by_ k24):Ev M1 (Conf.pure 16 [AV.vec false 2 [ag [vi ax,vi ay],(Zgj bx by_)]]) (vi (O.gap { x:=ax,y:=ay } { x:=bx,y:=by_ })) [])) c0))) H
noncomputable abbrev zNqS19 (nd:List Gp) (ks:List Int) (i:Int):=ag [vi (nd.getD ((ks.getD i.toNat default).tmod (↑nd.length:Int)).toNat default).x,vi (nd.getD ((ks.getD i.toNat default).tmod (↑nd.length:Int)).toNat default).y]
theorem qLsNB (f:Bool) (ax ay bx by_:Int) (ps:List Gp) (e:Int) (nd:List Gp) (g:Bool) (ks:List Int) (n i:Int) (gs:List Gp) (v:Nat)  (dq:AV) (H :
  ((i<n)->(0<=i) /\
   (i.toNat<ks.length) /\
   (-9223372036854775808<=ks.getD i.toNat default/\ks.getD i.toNat default<=9223372036854775807) /\
   (¬(↑nd.length:Int)=0) /\
   (0<=(ks.getD i.toNat default).tmod (↑nd.length:Int)) /\
   (((ks.getD i.toNat default).tmod (↑nd.length:Int)).toNat<nd.length) /\
   ((gs.length+1)*16<=1099511627776) /\
   (-9223372036854775808<=i+1/\i+1<=9223372036854775807) /\
   ZdO f ax ay bx by_ ps e nd g ks n (i+1) (gs++[nd.getD ((ks.getD i.toNat default).tmod (↑nd.length:Int)).toNat default]) (v+1) (Zaf dq)) /\
  (¬(i<n)->((gs.length+1)*16<=1099511627776) /\
   ∃ (b1:Bool),
   (Ev M1 (Conf.pure 15 [AV.vec f 5 [],AV.vec false 2 (List.map Gp.a (gs++[({ x:=bx,y:=by_ }:Gp)]))]) (vb b1) []) /\
   ((¬e=0)->(vb (bif e==16 then !b1 else false))=dq) /\
   (¬(¬e=0)->(O.okG ps) /\
    (O.cb4 ax ay bx by_) /\
    (((¬(¬(b1=true)))/\(O.ZaY ps>=O.gap { x:=ax,y:=ay } { x:=bx,y:=by_ }))->(O.okG (gs++[({ x:=bx,y:=by_ }:Gp)]))) /\
    (vb (bif decide (O.ZaY ps>=O.gap { x:=ax,y:=ay } { x:=bx,y:=by_ }) then bif !b1 then true else decide (O.ZaY ps<=O.ZaY (gs++[({ x:=bx,y:=by_ }:Gp)])) else false))=dq))) :
 ZdO f ax ay bx by_ ps e nd g ks n i gs v (Zaf dq):=by
 unfold ZdO
 rcases xq H with ⟨d2,H⟩|⟨d2,H⟩
 ·obtain ⟨k4,H⟩:=H
  have w5:(List.map (AV.int IntKind.u8) ks).length=ks.length:=List.length_map ..
  have i6:(decide (i.toNat<(List.map (AV.int IntKind.u8) ks).length))=true ↔ (i.toNat<ks.length):=(by (try rw [w5]);all_goals exact Zab)
  obtain ⟨k7,k8,H⟩:=H
  have w9:wi (ks.getD i.toNat default)=ks.getD i.toNat default:=wI64 k8
  have w10:(List.map Gp.a nd).length=nd.length:=List.length_map ..
  have i11:(!(↑(List.map Gp.a nd).length:Int)==0)=true ↔ (¬(↑nd.length:Int)=0):=(by (try rw [w10]);all_goals exact Zgg)
  obtain ⟨k12,H⟩:=H
  have i13:(decide (0<=(wi (ks.getD i.toNat default)).tmod (↑(List.map Gp.a nd).length:Int)))=true ↔ (0<=(ks.getD i.toNat default).tmod (↑nd.length:Int)):=(by (try rw [w9]);(try rw [w10]);all_goals exact Zab)
  obtain ⟨k14,H⟩:=H
  have i15:(decide (((wi (ks.getD i.toNat default)).tmod (↑(List.map Gp.a nd).length:Int)).toNat<(List.map Gp.a nd).length))=true ↔ (((ks.getD i.toNat default).tmod (↑nd.length:Int)).toNat<nd.length):=(by (try rw [w9]);(try rw [w10]);all_goals exact Zab)
  obtain ⟨k16,H⟩:=H
  have w17:(List.map Gp.a gs).length=gs.length:=List.length_map ..
  have i18:(decide (((List.map Gp.a gs).length+1)*16<=1099511627776))=true ↔ ((gs.length+1)*16<=1099511627776):=(by (try rw [w17]);all_goals exact Zab)
  obtain ⟨k19,H⟩:=H
  have w20:List.map Gp.a gs++[ag [vi (nd.getD ((ks.getD i.toNat default).tmod (↑nd.length:Int)).toNat default).x,vi (nd.getD ((ks.getD i.toNat default).tmod (↑nd.length:Int)).toNat default).y]]=List.map Gp.a (gs++[nd.getD ((ks.getD i.toNat default).tmod (↑nd.length:Int)).toNat default]):=(Zb7 rfl rfl)
  obtain ⟨k21,H⟩:=H
  have w22:wi (i+1)=i+1:=wI64 k21
  exact Zac (G:=Zad kp5 [(9,1,.elem (AV.int IntKind.u8 (ks.getD i.toNat default))),(10,8,.elem (zNqS19 nd ks i))] []) 1000 [true] ⟨(atC (cd Try.f5) [1,1,1,1,1,1,0,1,0,0]),[(0,AV.vec f 5 []),(7,AV.ptr 0 0 0 0),(8,AV.ptr 1 0 0 0),(9,AV.vec false 2 (List.map Gp.a ps)),(10,vi e),(11,AV.vec false 2 (List.map Gp.a nd)),(12,AV.row 2 (v+1)),(56,AV.vec g 1 (List.map (AV.int IntKind.u8) ks)),(57,vi n),(58,vi (wi (i+1)))],[⟨[ag [vi ax,vi ay]],2,0,false,false⟩,⟨[ag [vi bx,vi by_]],2,0,false,false⟩,⟨List.map Gp.a gs++[ag [vi (nd.getD ((ks.getD i.toNat default).tmod (↑nd.length:Int)).toNat default).x,vi (nd.getD ((ks.getD i.toNat default).tmod (↑nd.length:Int)).toNat default).y]],2,v+1,false,true⟩],[(decide (i<n))==true,decide (0<=i),decide (i.toNat<(List.map (AV.int IntKind.u8) ks).length),!(↑(List.map Gp.a nd).length:Int)==0,decide (0<=(wi (ks.getD i.toNat default)).tmod (↑(List.map Gp.a nd).length:Int)),decide (((wi (ks.getD i.toNat default)).tmod (↑(List.map Gp.a nd).length:Int)).toNat<(List.map Gp.a nd).length),v==v,decide (((List.map Gp.a gs).length+1)*16<=1099511627776)],[((List.map (AV.int IntKind.u8) ks).get?Internal i.toNat=some (AV.int IntKind.u8 (ks.getD i.toNat default))),((List.map Gp.a nd).get?Internal ((wi (ks.getD i.toNat default)).tmod (↑(List.map Gp.a nd).length:Int)).toNat=some (zNqS19 nd ks i))],_⟩ (by kernel_rfl) (bc (Zal (Zab.2 d2)) (bc (Zab.2 k4) (bc (i6.2 k7) (bc (i11.2 k12) (bc (i13.2 k14) (bc (i15.2 k16) (bc (beq_self_eq_true _) (bc (i18.2 k19) b0)))))))) (qc (Zai k7) (qc (by (try rw [w9]);(try rw [w10]);all_goals exact (Zai k16)) q0)) c0 (by (try rw [w20]);(try rw [w22]);all_goals exact H)
 ·have w23:(List.map Gp.a gs).length=gs.length:=List.length_map ..
  have i24:(decide (((List.map Gp.a gs).length+1)*16<=1099511627776))=true ↔ ((gs.length+1)*16<=1099511627776):=(by (try rw [w23]);all_goals exact Zab)
  obtain ⟨k25,H⟩:=H
  have w26:List.map Gp.a gs++[ag [vi bx,vi by_]]=List.map Gp.a (gs++[({ x:=bx,y:=by_ }:Gp)]):=(Zb7 rfl rfl)
  obtain ⟨b1,k27,H⟩:=H
  refine Zac (G:=Zad kp5 [(13,2,.call (vb b1) none)] []) 12 [false] ⟨(atC (cd Try.f5) [1,1,1,1,1,1,1,1,1,0,1]),[(7,AV.ptr 0 0 0 0),(8,AV.ptr 1 0 0 0),(9,AV.vec false 2 (List.map Gp.a ps)),(10,vi e),(12,AV.row 2 (v+1)),(15,vb b1),(82,vb (e != 0))],[⟨[ag [vi ax,vi ay]],2,0,false,false⟩,⟨[ag [vi bx,vi by_]],2,0,false,false⟩,⟨List.map Gp.a gs++[ag [vi bx,vi by_]],2,v+1,false,true⟩],[(decide (i<n))==false,true,v==v,decide (((List.map Gp.a gs).length+1)*16<=1099511627776),v+1==v+1],[],[pc 15 [AV.vec f 5 [],AV.vec false 2 (List.map Gp.a gs++[ag [vi bx,vi by_]])] (vb b1)]⟩ (by kernel_rfl) (bc (Zak (fun h=>d2 (Zab.1 h))) (bc rfl (bc (beq_self_eq_true _) (bc (i24.2 k25) (bc (beq_self_eq_true _) b0))))) q0 (ce (by (try rw [w26]);all_goals exact k27) c0) ?_
  rcases xq H with ⟨d29,H⟩|⟨d29,H⟩
  ·exact Zah (G:=Zad kp5 [] []) 1000 [true] (vb (bif e==16 then !b1 else false)) (by kernel_rfl) (bc (Zal (i_ne.2 d29)) b0) q0 c0 H
  ·obtain ⟨k30,k31,k33,H⟩:=H
   exact Zah (G:=Zad kp5 [(16,1,.call (vi (O.ZaY ps)) none),(17,4,.call (vi (O.gap { x:=ax,y:=ay } { x:=bx,y:=by_ })) none),(17,12,.call (vi (O.ZaY (gs++[({ x:=bx,y:=by_ }:Gp)]))) none)] []) 1000 [false] (asm:=[(e != 0)==false,true,true,!((!b1)==false&&(decide (O.ZaY ps>=O.gap { x:=ax,y:=ay } { x:=bx,y:=by_ })==true&&true))||v+1==v+1]) (calls:=[⟨true,false,18,[AV.vec false 2 (List.map Gp.a ps)],[],vi (O.ZaY ps),[]⟩,⟨true,false,16,[AV.vec true 2 [ag [vi ax,vi ay],ag [vi bx,vi by_]]],[],vi (O.gap { x:=ax,y:=ay } { x:=bx,y:=by_ }),[]⟩,⟨(!b1)==false&&(decide (O.ZaY ps>=O.gap { x:=ax,y:=ay } { x:=bx,y:=by_ })==true&&true)&&true,false,16,[AV.vec false 2 (List.map Gp.a gs++[ag [vi bx,vi by_]])],[],vi (O.ZaY (gs++[({ x:=bx,y:=by_ }:Gp)])),[]⟩]) (vb (bif decide (O.ZaY ps>=O.gap { x:=ax,y:=ay } { x:=bx,y:=by_ }) then bif !b1 then true else decide (O.ZaY ps<=O.ZaY (gs++[({ x:=bx,y:=by_ }:Gp)])) else false)) (by kernel_rfl) (bc (Zak (fun h=>d29 (i_ne.1 h))) (bc rfl (bc rfl (bc ((Za2 (ZcI (i_bf (Za7 (ZaD _))) (i_at (i_bt Zab))) i_eq).2 (fun _=>rfl)) b0)))) q0 (cc (fun _=>(@ev18 false ps k30)) (cc (fun _=>(@ZgR true ax ay bx by_ k31)) (cc (fun hc=>((by (try rw [w26]);all_goals exact (@ev16 false (gs++[({ x:=bx,y:=by_ }:Gp)]) (k33 ((i_at (ZcI (i_bf (Za7 (ZaD _))) (i_at (i_bt Zab)))).1 hc)))):Ev M1 (Conf.pure 16 [AV.vec false 2 (List.map Gp.a gs++[ag [vi bx,vi by_]])]) (vi (O.ZaY (gs++[({ x:=bx,y:=by_ }:Gp)]))) [])) c0))) H
noncomputable abbrev Zgi (bx:Int) (by_:Int):=ag [vi bx,vi by_]
noncomputable abbrev zNqS21 (nd:List Gp) (ks:List Int) (i:Int):=ag [vi (nd.getD ((ks.getD i.toNat default).tmod (↑nd.length:Int)).toNat default).x,vi (nd.getD ((ks.getD i.toNat default).tmod (↑nd.length:Int)).toNat default).y]
theorem qLsCA (f:Bool) (c:Bx) (bs:List Bx) (ax ay bx by_:Int) (ps:List Gp) (e:Int) (nd:List Gp) (g:Bool) (ks:List Int) (n i:Int)  (dq:AV) (H :
  ((i<n)->(0<=i) /\
   (i.toNat<ks.length) /\
   (-9223372036854775808<=ks.getD i.toNat default/\ks.getD i.toNat default<=9223372036854775807) /\
   (¬(↑nd.length:Int)=0) /\
   (0<=(ks.getD i.toNat default).tmod (↑nd.length:Int)) /\
   (((ks.getD i.toNat default).tmod (↑nd.length:Int)).toNat<nd.length) /\
   (-9223372036854775808<=i+1/\i+1<=9223372036854775807) /\
   ZdP f c bs ax ay bx by_ ps e nd g ks n (i+1) ([{ x:=ax,y:=ay },nd.getD ((ks.getD i.toNat default).tmod (↑nd.length:Int)).toNat default]) 0 (Zaf dq)) /\
  (¬(i<n) -> ∃ (b1:Bool),
   (Ev M1 (Conf.pure 15 [AV.vec f 5 (ag [vi c.x0,vi c.y0,vi c.x1,vi c.y1,vi c.top]::List.map Bx.a bs),AV.vec false 2 [ag [vi ax,vi ay],ag [vi bx,vi by_]]]) (vb b1) []) /\
   ((¬e=0)->(vb (bif e==16 then !b1 else false))=dq) /\
   (¬(¬e=0)->(O.okG ps) /\
    (O.cb4 ax ay bx by_) /\
    (vb (bif decide (O.ZaY ps>=O.gap { x:=ax,y:=ay } { x:=bx,y:=by_ }) then bif !b1 then true else decide (O.ZaY ps<=O.gap { x:=ax,y:=ay } { x:=bx,y:=by_ }) else false))=dq))) :
 ZeU f c bs ax ay bx by_ ps e nd g ks n i (Zaf dq):=by
 unfold ZeU
 rcases xq H with ⟨d2,H⟩|⟨d2,H⟩
 ·obtain ⟨k4,H⟩:=H
  have w5:(List.map (AV.int IntKind.u8) ks).length=ks.length:=List.length_map ..
  have i6:(decide (i.toNat<(List.map (AV.int IntKind.u8) ks).length))=true ↔ (i.toNat<ks.length):=(by (try rw [w5]);all_goals exact Zab)
  obtain ⟨k7,k8,H⟩:=H
  have w9:wi (ks.getD i.toNat default)=ks.getD i.toNat default:=wI64 k8
  have w10:(List.map Gp.a nd).length=nd.length:=List.length_map ..
  have i11:(!(↑(List.map Gp.a nd).length:Int)==0)=true ↔ (¬(↑nd.length:Int)=0):=(by (try rw [w10]);all_goals exact Zgg)
  obtain ⟨k12,H⟩:=H
  have i13:(decide (0<=(wi (ks.getD i.toNat default)).tmod (↑(List.map Gp.a nd).length:Int)))=true ↔ (0<=(ks.getD i.toNat default).tmod (↑nd.length:Int)):=(by (try rw [w9]);(try rw [w10]);all_goals exact Zab)
  obtain ⟨k14,H⟩:=H
  have i15:(decide (((wi (ks.getD i.toNat default)).tmod (↑(List.map Gp.a nd).length:Int)).toNat<(List.map Gp.a nd).length))=true ↔ (((ks.getD i.toNat default).tmod (↑nd.length:Int)).toNat<nd.length):=(by (try rw [w9]);(try rw [w10]);all_goals exact Zab)
  obtain ⟨k16,k17,H⟩:=H
  have w18:wi (i+1)=i+1:=wI64 k17
  have w19:[ag [vi ax,vi ay],ag [vi (nd.getD ((ks.getD i.toNat default).tmod (↑nd.length:Int)).toNat default).x,vi (nd.getD ((ks.getD i.toNat default).tmod (↑nd.length:Int)).toNat default).y]]=List.map Gp.a [{ x:=ax,y:=ay },nd.getD ((ks.getD i.toNat default).tmod (↑nd.length:Int)).toNat default]:=rfl
  exact Zac (G:=Zad kp5 [(9,1,.elem (AV.int IntKind.u8 (ks.getD i.toNat default))),(10,8,.elem (zNqS21 nd ks i))] []) 1000 [true] ⟨(atC (cd Try.f5) [1,1,1,1,1,1,0,1,0,0]),[(0,AV.vec f 5 (ag [vi c.x0,vi c.y0,vi c.x1,vi c.y1,vi c.top]::List.map Bx.a bs)),(7,AV.ptr 0 0 0 0),(8,AV.ptr 1 0 0 0),(9,AV.vec false 2 (List.map Gp.a ps)),(10,vi e),(11,AV.vec false 2 (List.map Gp.a nd)),(12,AV.row 2 0),(56,AV.vec g 1 (List.map (AV.int IntKind.u8) ks)),(57,vi n),(58,vi (wi (i+1)))],[⟨[ag [vi ax,vi ay]],2,0,false,false⟩,⟨[(Zgi bx by_)],2,0,false,false⟩,⟨[ag [vi ax,vi ay],ag [vi (nd.getD ((ks.getD i.toNat default).tmod (↑nd.length:Int)).toNat default).x,vi (nd.getD ((ks.getD i.toNat default).tmod (↑nd.length:Int)).toNat default).y]],2,0,false,true⟩],_,[((List.map (AV.int IntKind.u8) ks).get?Internal i.toNat=some (AV.int IntKind.u8 (ks.getD i.toNat default))),((List.map Gp.a nd).get?Internal ((wi (ks.getD i.toNat default)).tmod (↑(List.map Gp.a nd).length:Int)).toNat=some (zNqS21 nd ks i))],_⟩ (by kernel_rfl) (bc (Zal (Zab.2 d2)) (bc (Zab.2 k4) (bc (i6.2 k7) (bc (i11.2 k12) (bc (i13.2 k14) (bc (i15.2 k16) (bc rfl b0))))))) (qc (Zai k7) (qc (by (try rw [w9]);(try rw [w10]);all_goals exact (Zai k16)) q0)) c0 (by (try rw [w18]);(try rw [w19]);all_goals exact H)
 ·obtain ⟨b1,k20,H⟩:=H
  refine Zac (G:=Zad kp5 [(13,2,.call (vb b1) none)] []) 12 [false] ⟨(atC (cd Try.f5) [1,1,1,1,1,1,1,1,1,0,1]),[(7,AV.ptr 0 0 0 0),(8,AV.ptr 1 0 0 0),(9,AV.vec false 2 (List.map Gp.a ps)),(10,vi e),(12,AV.row 2 0),(15,vb b1),(82,vb (e != 0))],[⟨[ag [vi ax,vi ay]],2,0,false,false⟩,⟨[(Zgi bx by_)],2,0,false,false⟩,⟨[ag [vi ax,vi ay],(Zgi bx by_)],2,0,false,true⟩],_,[],_⟩ (by kernel_rfl) (bc (Zak (fun h=>d2 (Zab.1 h))) (bc rfl (bc rfl (bc rfl b0)))) q0 (ce k20 c0) ?_
  rcases xq H with ⟨d22,H⟩|⟨d22,H⟩
  ·exact Zah (G:=Zad kp5 [] []) 1000 [true] (vb (bif e==16 then !b1 else false)) (by kernel_rfl) (bc (Zal (i_ne.2 d22)) b0) q0 c0 H
  ·obtain ⟨k23,k24,H⟩:=H
   exact Zah (G:=Zad kp5 [(16,1,.call (vi (O.ZaY ps)) none),(17,4,.call (vi (O.gap { x:=ax,y:=ay } { x:=bx,y:=by_ })) none),(17,12,.call (vi (O.gap { x:=ax,y:=ay } { x:=bx,y:=by_ })) none)] []) 1000 [false] (asm:=[(e != 0)==false,true,true,!((!b1)==false&&(decide (O.ZaY ps>=O.gap { x:=ax,y:=ay } { x:=bx,y:=by_ })==true&&true))||true]) (calls:=[⟨true,false,18,[AV.vec false 2 (List.map Gp.a ps)],[],vi (O.ZaY ps),[]⟩,⟨true,false,16,[AV.vec true 2 [ag [vi ax,vi ay],(Zgi bx by_)]],[],vi (O.gap { x:=ax,y:=ay } { x:=bx,y:=by_ }),[]⟩,⟨(!b1)==false&&(decide (O.ZaY ps>=O.gap { x:=ax,y:=ay } { x:=bx,y:=by_ })==true&&true)&&true,false,16,[AV.vec false 2 [ag [vi ax,vi ay],(Zgi bx by_)]],[],vi (O.gap { x:=ax,y:=ay } { x:=bx,y:=by_ }),[]⟩]) (vb (bif decide (O.ZaY ps>=O.gap { x:=ax,y:=ay } { x:=bx,y:=by_ }) then bif !b1 then true else decide (O.ZaY ps<=O.gap { x:=ax,y:=ay } { x:=bx,y:=by_ }) else false)) (by kernel_rfl) (bc (Zak (fun h=>d22 (i_ne.1 h))) (bc rfl (bc rfl (bc (Bool.or_true _) b0)))) q0 (cc (fun _=>(@ev18 false ps k23)) (cc (fun _=>(@ZgR true ax ay bx by_ k24)) (cc (fun hc=>((@ZgR false ax ay bx by_ k24):Ev M1 (Conf.pure 16 [AV.vec false 2 [ag [vi ax,vi ay],(Zgi bx by_)]]) (vi (O.gap { x:=ax,y:=ay } { x:=bx,y:=by_ })) [])) c0))) H
noncomputable abbrev zNqS22 (nd:List Gp) (ks:List Int) (i:Int):=ag [vi (nd.getD ((ks.getD i.toNat default).tmod (↑nd.length:Int)).toNat default).x,vi (nd.getD ((ks.getD i.toNat default).tmod (↑nd.length:Int)).toNat default).y]
noncomputable abbrev zNqS23 (c:Bx):=ag [vi c.x0,vi c.y0,vi c.x1,vi c.y1,vi c.top]
theorem qLsCB (f:Bool) (c:Bx) (bs:List Bx) (ax ay bx by_:Int) (ps:List Gp) (e:Int) (nd:List Gp) (g:Bool) (ks:List Int) (n i:Int) (gs:List Gp) (v:Nat)  (dq:AV) (H :
  ((i<n)->(0<=i) /\
   (i.toNat<ks.length) /\
   (-9223372036854775808<=ks.getD i.toNat default/\ks.getD i.toNat default<=9223372036854775807) /\
   (¬(↑nd.length:Int)=0) /\
   (0<=(ks.getD i.toNat default).tmod (↑nd.length:Int)) /\
   (((ks.getD i.toNat default).tmod (↑nd.length:Int)).toNat<nd.length) /\
   ((gs.length+1)*16<=1099511627776) /\
   (-9223372036854775808<=i+1/\i+1<=9223372036854775807) /\
   ZdP f c bs ax ay bx by_ ps e nd g ks n (i+1) (gs++[nd.getD ((ks.getD i.toNat default).tmod (↑nd.length:Int)).toNat default]) (v+1) (Zaf dq)) /\
  (¬(i<n)->((gs.length+1)*16<=1099511627776) /\
   ∃ (b1:Bool),
   (Ev M1 (Conf.pure 15 [AV.vec f 5 (ag [vi c.x0,vi c.y0,vi c.x1,vi c.y1,vi c.top]::List.map Bx.a bs),AV.vec false 2 (List.map Gp.a (gs++[({ x:=bx,y:=by_ }:Gp)]))]) (vb b1) []) /\
   ((¬e=0)->(vb (bif e==16 then !b1 else false))=dq) /\
   (¬(¬e=0)->(O.okG ps) /\
    (O.cb4 ax ay bx by_) /\
    (((¬(¬(b1=true)))/\(O.ZaY ps>=O.gap { x:=ax,y:=ay } { x:=bx,y:=by_ }))->(O.okG (gs++[({ x:=bx,y:=by_ }:Gp)]))) /\
    (vb (bif decide (O.ZaY ps>=O.gap { x:=ax,y:=ay } { x:=bx,y:=by_ }) then bif !b1 then true else decide (O.ZaY ps<=O.ZaY (gs++[({ x:=bx,y:=by_ }:Gp)])) else false))=dq))) :
 ZdP f c bs ax ay bx by_ ps e nd g ks n i gs v (Zaf dq):=by
 unfold ZdP
 rcases xq H with ⟨d2,H⟩|⟨d2,H⟩
 ·obtain ⟨k4,H⟩:=H
  have w5:(List.map (AV.int IntKind.u8) ks).length=ks.length:=List.length_map ..
  have i6:(decide (i.toNat<(List.map (AV.int IntKind.u8) ks).length))=true ↔ (i.toNat<ks.length):=(by (try rw [w5]);all_goals exact Zab)
  obtain ⟨k7,k8,H⟩:=H
  have w9:wi (ks.getD i.toNat default)=ks.getD i.toNat default:=wI64 k8
  have w10:(List.map Gp.a nd).length=nd.length:=List.length_map ..
  have i11:(!(↑(List.map Gp.a nd).length:Int)==0)=true ↔ (¬(↑nd.length:Int)=0):=(by (try rw [w10]);all_goals exact Zgg)
  obtain ⟨k12,H⟩:=H
  have i13:(decide (0<=(wi (ks.getD i.toNat default)).tmod (↑(List.map Gp.a nd).length:Int)))=true ↔ (0<=(ks.getD i.toNat default).tmod (↑nd.length:Int)):=(by (try rw [w9]);(try rw [w10]);all_goals exact Zab)
  obtain ⟨k14,H⟩:=H
  have i15:(decide (((wi (ks.getD i.toNat default)).tmod (↑(List.map Gp.a nd).length:Int)).toNat<(List.map Gp.a nd).length))=true ↔ (((ks.getD i.toNat default).tmod (↑nd.length:Int)).toNat<nd.length):=(by (try rw [w9]);(try rw [w10]);all_goals exact Zab)
  obtain ⟨k16,H⟩:=H
  have w17:(List.map Gp.a gs).length=gs.length:=List.length_map ..
  have i18:(decide (((List.map Gp.a gs).length+1)*16<=1099511627776))=true ↔ ((gs.length+1)*16<=1099511627776):=(by (try rw [w17]);all_goals exact Zab)
  obtain ⟨k19,H⟩:=H
  have w20:List.map Gp.a gs++[ag [vi (nd.getD ((ks.getD i.toNat default).tmod (↑nd.length:Int)).toNat default).x,vi (nd.getD ((ks.getD i.toNat default).tmod (↑nd.length:Int)).toNat default).y]]=List.map Gp.a (gs++[nd.getD ((ks.getD i.toNat default).tmod (↑nd.length:Int)).toNat default]):=(Zb7 rfl rfl)
  obtain ⟨k21,H⟩:=H
  have w22:wi (i+1)=i+1:=wI64 k21
  exact Zac (G:=Zad kp5 [(9,1,.elem (AV.int IntKind.u8 (ks.getD i.toNat default))),(10,8,.elem (zNqS22 nd ks i))] []) 1000 [true] ⟨(atC (cd Try.f5) [1,1,1,1,1,1,0,1,0,0]),[(0,AV.vec f 5 ((zNqS23 c)::List.map Bx.a bs)),(7,AV.ptr 0 0 0 0),(8,AV.ptr 1 0 0 0),(9,AV.vec false 2 (List.map Gp.a ps)),(10,vi e),(11,AV.vec false 2 (List.map Gp.a nd)),(12,AV.row 2 (v+1)),(56,AV.vec g 1 (List.map (AV.int IntKind.u8) ks)),(57,vi n),(58,vi (wi (i+1)))],[⟨[ag [vi ax,vi ay]],2,0,false,false⟩,⟨[ag [vi bx,vi by_]],2,0,false,false⟩,⟨List.map Gp.a gs++[ag [vi (nd.getD ((ks.getD i.toNat default).tmod (↑nd.length:Int)).toNat default).x,vi (nd.getD ((ks.getD i.toNat default).tmod (↑nd.length:Int)).toNat default).y]],2,v+1,false,true⟩],[(decide (i<n))==true,decide (0<=i),decide (i.toNat<(List.map (AV.int IntKind.u8) ks).length),!(↑(List.map Gp.a nd).length:Int)==0,decide (0<=(wi (ks.getD i.toNat default)).tmod (↑(List.map Gp.a nd).length:Int)),decide (((wi (ks.getD i.toNat default)).tmod (↑(List.map Gp.a nd).length:Int)).toNat<(List.map Gp.a nd).length),v==v,decide (((List.map Gp.a gs).length+1)*16<=1099511627776)],[((List.map (AV.int IntKind.u8) ks).get?Internal i.toNat=some (AV.int IntKind.u8 (ks.getD i.toNat default))),((List.map Gp.a nd).get?Internal ((wi (ks.getD i.toNat default)).tmod (↑(List.map Gp.a nd).length:Int)).toNat=some (zNqS22 nd ks i))],_⟩ (by kernel_rfl) (bc (Zal (Zab.2 d2)) (bc (Zab.2 k4) (bc (i6.2 k7) (bc (i11.2 k12) (bc (i13.2 k14) (bc (i15.2 k16) (bc (beq_self_eq_true _) (bc (i18.2 k19) b0)))))))) (qc (Zai k7) (qc (by (try rw [w9]);(try rw [w10]);all_goals exact (Zai k16)) q0)) c0 (by (try rw [w20]);(try rw [w22]);all_goals exact H)
 ·have w23:(List.map Gp.a gs).length=gs.length:=List.length_map ..
  have i24:(decide (((List.map Gp.a gs).length+1)*16<=1099511627776))=true ↔ ((gs.length+1)*16<=1099511627776):=(by (try rw [w23]);all_goals exact Zab)
  obtain ⟨k25,H⟩:=H
  have w26:List.map Gp.a gs++[ag [vi bx,vi by_]]=List.map Gp.a (gs++[({ x:=bx,y:=by_ }:Gp)]):=(Zb7 rfl rfl)
  obtain ⟨b1,k27,H⟩:=H
  refine Zac (G:=Zad kp5 [(13,2,.call (vb b1) none)] []) 12 [false] ⟨(atC (cd Try.f5) [1,1,1,1,1,1,1,1,1,0,1]),[(7,AV.ptr 0 0 0 0),(8,AV.ptr 1 0 0 0),(9,AV.vec false 2 (List.map Gp.a ps)),(10,vi e),(12,AV.row 2 (v+1)),(15,vb b1),(82,vb (e != 0))],[⟨[ag [vi ax,vi ay]],2,0,false,false⟩,⟨[ag [vi bx,vi by_]],2,0,false,false⟩,⟨List.map Gp.a gs++[ag [vi bx,vi by_]],2,v+1,false,true⟩],[(decide (i<n))==false,true,v==v,decide (((List.map Gp.a gs).length+1)*16<=1099511627776),v+1==v+1],[],[pc 15 [AV.vec f 5 ((zNqS23 c)::List.map Bx.a bs),AV.vec false 2 (List.map Gp.a gs++[ag [vi bx,vi by_]])] (vb b1)]⟩ (by kernel_rfl) (bc (Zak (fun h=>d2 (Zab.1 h))) (bc rfl (bc (beq_self_eq_true _) (bc (i24.2 k25) (bc (beq_self_eq_true _) b0))))) q0 (ce (by (try rw [w26]);all_goals exact k27) c0) ?_
  rcases xq H with ⟨d29,H⟩|⟨d29,H⟩
  ·exact Zah (G:=Zad kp5 [] []) 1000 [true] (vb (bif e==16 then !b1 else false)) (by kernel_rfl) (bc (Zal (i_ne.2 d29)) b0) q0 c0 H
  ·obtain ⟨k30,k31,k33,H⟩:=H
   exact Zah (G:=Zad kp5 [(16,1,.call (vi (O.ZaY ps)) none),(17,4,.call (vi (O.gap { x:=ax,y:=ay } { x:=bx,y:=by_ })) none),(17,12,.call (vi (O.ZaY (gs++[({ x:=bx,y:=by_ }:Gp)]))) none)] []) 1000 [false] (asm:=[(e != 0)==false,true,true,!((!b1)==false&&(decide (O.ZaY ps>=O.gap { x:=ax,y:=ay } { x:=bx,y:=by_ })==true&&true))||v+1==v+1]) (calls:=[⟨true,false,18,[AV.vec false 2 (List.map Gp.a ps)],[],vi (O.ZaY ps),[]⟩,⟨true,false,16,[AV.vec true 2 [ag [vi ax,vi ay],ag [vi bx,vi by_]]],[],vi (O.gap { x:=ax,y:=ay } { x:=bx,y:=by_ }),[]⟩,⟨(!b1)==false&&(decide (O.ZaY ps>=O.gap { x:=ax,y:=ay } { x:=bx,y:=by_ })==true&&true)&&true,false,16,[AV.vec false 2 (List.map Gp.a gs++[ag [vi bx,vi by_]])],[],vi (O.ZaY (gs++[({ x:=bx,y:=by_ }:Gp)])),[]⟩]) (vb (bif decide (O.ZaY ps>=O.gap { x:=ax,y:=ay } { x:=bx,y:=by_ }) then bif !b1 then true else decide (O.ZaY ps<=O.ZaY (gs++[({ x:=bx,y:=by_ }:Gp)])) else false)) (by kernel_rfl) (bc (Zak (fun h=>d29 (i_ne.1 h))) (bc rfl (bc rfl (bc ((Za2 (ZcI (i_bf (Za7 (ZaD _))) (i_at (i_bt Zab))) i_eq).2 (fun _=>rfl)) b0)))) q0 (cc (fun _=>(@ev18 false ps k30)) (cc (fun _=>(@ZgR true ax ay bx by_ k31)) (cc (fun hc=>((by (try rw [w26]);all_goals exact (@ev16 false (gs++[({ x:=bx,y:=by_ }:Gp)]) (k33 ((i_at (ZcI (i_bf (Za7 (ZaD _))) (i_at (i_bt Zab)))).1 hc)))):Ev M1 (Conf.pure 16 [AV.vec false 2 (List.map Gp.a gs++[ag [vi bx,vi by_]])]) (vi (O.ZaY (gs++[({ x:=bx,y:=by_ }:Gp)]))) [])) c0))) H
end Go.Av

namespace Go.Av
open Go.Proofs
section
variable {f:Bool} {bs:List Bx} {a b:Gp}
open Classical in
theorem ar_two (h:O.erI bs a b=0) (e:¬O.arE bs a b=0):O.arE bs a b=16 /\ ∀ d,¬O.Wk (O.nd (O.Zb2 bs a b)) (O.ZbT bs) a b d:=by
 have e2:=ar_er bs a b
 rw [if_pos h] at e2
 by_cases k:a=b
 ·rw [if_pos k] at e2;exact absurd e2 e
 ·rw [if_neg k] at e2
  by_cases j:O.lnk bs (O.Zdj bs a b)
  ·rw [if_pos j] at e2;exact absurd e2 e
  ·rw [if_neg j] at e2
   refine ⟨e2,fun d w=>j (lnk_nod.2 ⟨d,?_⟩)⟩
   rw [nod_last];exact w
theorem wk_over {ms:List Gp} (hm:∀ p ∈ ms,p ∈ O.Zb2 bs a b) (hc:O.chn (O.ZbT bs) (a::(ms++[b]))):O.Wk (O.nd (O.Zb2 bs a b)) (O.ZbT bs) a b (O.ZaY (a::(ms++[b]))):=by
 have w:=wk_path (nd:=O.nd (O.Zb2 bs a b)) (ms++[b]) (O.Wk.nil (a:=a)) (fun q hq=>by
  rcases List.mem_append.1 hq with hq | hq
  ·exact ZdZ.2 (hm q hq)
  ·rw [List.mem_singleton.1 hq];exact ZdZ.2 (by unfold O.Zb2;simp)) hc
 have e:(a::(ms++[b])).getLast (by simp)=b:=by
  rw [List.getLast_cons (by simp),List.getLast_append];simp
 rw [e,Int.zero_add] at w
 exact w
theorem op_ok {l:List Gp} (E:O.Er0 bs a b) (h:l.length<=1000) (hl:∀ p ∈ l,p ∈ O.Zb2 bs a b):O.okOp bs l:=⟨E.ok,h,fun p hp=>(nod_ok E.ok E.ca E.cb).2 p (hl p hp)⟩
theorem nod_a:a ∈ O.Zb2 bs a b:=by unfold O.Zb2;simp
theorem nod_b:b ∈ O.Zb2 bs a b:=by unfold O.Zb2;simp
theorem ls_no {ms:List Gp} (h:O.erI bs a b=0) (hm:∀ p ∈ ms,p ∈ O.Zb2 bs a b) (e:¬O.arE bs a b=0):(bif O.arE bs a b==16 then !(O.opn bs (a::(ms++[b]))) else false)=true:=by
 have k:=ar_two h e
 have:O.opn bs (a::(ms++[b]))=false:=by
  unfold O.opn;exact dec_f fun hc=>k.2 _ (wk_over hm hc)
 rw [k.1,this];rfl
theorem ls_yes {ms:List Gp} (hm:∀ p ∈ ms,p ∈ O.Zb2 bs a b) (e:O.arE bs a b=0):(bif decide (O.ZaY (O.arP f bs a b)>=O.gap a b) then bif !(O.opn bs (a::(ms++[b]))) then true else decide (O.ZaY (O.arP f bs a b)<=O.ZaY (a::(ms++[b]))) else false)=true:=by
 have A:=ar_ok (f:=f) e
 rw [decide_eq_true (wk_gap A.walk)]
 cases k:O.opn bs (a::(ms++[b])) with
 | false=>rfl
 | true =>
  unfold O.opn at k
  rw [decide_eq_true (A.least _ (wk_over hm (dec_of k)))];rfl
end
section
variable {f g:Bool} {ax ay bx by_:Int} {ks:List Int}
theorem lsN_end (h:O.erI ([]:List Bx) ⟨ax,ay⟩ ⟨bx,by_⟩=0) {ms:List Gp} (hm:∀ p ∈ ms,p ∈ O.Zb2 ([]:List Bx) ⟨ax,ay⟩ ⟨bx,by_⟩) (hl:ms.length<=900) {gs:List Gp} (hg:gs=⟨ax,ay⟩::ms) :
  ∃ (b1:Bool),Ev M1 (Conf.pure 15 [.vec f 5 (([]:List Bx).map Bx.a),.vec false 2 ((gs++[(⟨bx,by_⟩:Gp)]).map Gp.a)]) (.bool b1) [] /\
   ((¬O.arE ([]:List Bx) ⟨ax,ay⟩ ⟨bx,by_⟩=0)->AV.bool (bif O.arE ([]:List Bx) ⟨ax,ay⟩ ⟨bx,by_⟩==16 then !b1 else false) = .bool true) /\
   ((¬¬O.arE ([]:List Bx) ⟨ax,ay⟩ ⟨bx,by_⟩=0)->O.okG (O.arP true ([]:List Bx) ⟨ax,ay⟩ ⟨bx,by_⟩)/\O.cb4 ax ay bx by_/\O.okG (gs++[(⟨bx,by_⟩:Gp)]) /\
    AV.bool (bif decide (O.ZaY (O.arP true ([]:List Bx) ⟨ax,ay⟩ ⟨bx,by_⟩)>=O.gap ⟨ax,ay⟩ ⟨bx,by_⟩) then bif !b1 then true else decide (O.ZaY (O.arP true ([]:List Bx) ⟨ax,ay⟩ ⟨bx,by_⟩)<=O.ZaY (gs++[(⟨bx,by_⟩:Gp)])) else false) = .bool true):=by
 subst hg
 have E:=er0 h
 have ok:O.okOp ([]:List Bx) (⟨ax,ay⟩::ms++[(⟨bx,by_⟩:Gp)]):=op_ok E (by simp;omega) fun p hp=>by
  rw [List.cons_append,List.mem_cons,List.mem_append,List.mem_singleton] at hp
  rcases hp with rfl | hp | rfl
  ·exact nod_a
  ·exact hm p hp
  ·exact nod_b
 refine ⟨_,ev15 f false ([]:List Bx) _ ok,fun e=>congrArg AV.bool (ls_no h hm e),fun e=>⟨okP_G (ar_okP (ar_ok (Classical.not_not.1 e))),(ccp_cb E.ca E.cb).1,okP_G ok.2,congrArg AV.bool (ls_yes hm (Classical.not_not.1 e))⟩⟩
theorem lsN_loop (h:O.erI ([]:List Bx) ⟨ax,ay⟩ ⟨bx,by_⟩=0) (hk:ks.length<=6) (hu:∀ k ∈ ks,0<=k/\k<=255) (m:Nat):∀ (i:Nat) (gs:List Gp) (v:Nat),i+m=ks.length->(∃ ms:List Gp,gs=⟨ax,ay⟩::ms/\ms.length<=i /\ ∀ p ∈ ms,p ∈ O.Zb2 ([]:List Bx) ⟨ax,ay⟩ ⟨bx,by_⟩) ->
  ZdO f ax ay bx by_ (O.arP true ([]:List Bx) ⟨ax,ay⟩ ⟨bx,by_⟩) (O.arE ([]:List Bx) ⟨ax,ay⟩ ⟨bx,by_⟩) (O.Zb2 ([]:List Bx) ⟨ax,ay⟩ ⟨bx,by_⟩) g ks ks.length i gs v (Zaf (.bool true)):=by
 induction m with
 | zero =>
  rintro i gs v e ⟨ms,rfl,hl,hm⟩
  refine qLsNB _ _ _ _ _ _ _ _ _ _ _ _ _ _ _ ⟨fun x=>by omega,fun _=>⟨by show (ms.length+1+1)*16<=_;omega,?_⟩⟩
  obtain ⟨b1,h1,h2,h3⟩:=lsN_end (f:=f) h hm (by omega) rfl
  exact ⟨b1,h1,h2,fun x=>⟨(h3 x).1,(h3 x).2.1,fun _=>(h3 x).2.2.1,(h3 x).2.2.2⟩⟩
 | succ m ih =>
  rintro i gs v e ⟨ms,rfl,hl,hm⟩
  have hi:i<ks.length:=by omega
  have u:=hu _ (Zay hi)
  have nl:=ZfB ([]:List Bx) ⟨ax,ay⟩ ⟨bx,by_⟩
  have t0:0<=(ks.getD i default).tmod ((O.Zb2 ([]:List Bx) ⟨ax,ay⟩ ⟨bx,by_⟩).length:Int):=Int.tmod_nonneg _ u.1
  have t1:(ks.getD i default).tmod ((O.Zb2 ([]:List Bx) ⟨ax,ay⟩ ⟨bx,by_⟩).length:Int)<(O.Zb2 ([]:List Bx) ⟨ax,ay⟩ ⟨bx,by_⟩).length:=Int.tmod_lt_of_pos _ (by omega)
  refine qLsNB _ _ _ _ _ _ _ _ _ _ _ _ _ _ _ ⟨fun x => ?_,fun x=>by omega⟩
  rw [Int.toNat_natCast,show (i:Int)+1=((i+1:Nat):Int) by omega]
  refine ⟨by omega,hi,by omega,by omega,t0,by omega,by show (ms.length+1+1)*16<=_;omega,by omega,ih (i+1) _ _ (by omega) ⟨ms++[_],rfl,by rw [List.length_append];show ms.length+1<=_;omega,fun p hp => ?_⟩⟩
  rcases List.mem_append.1 hp with hp | hp
  ·exact hm p hp
  ·rw [List.mem_singleton.1 hp];exact Zay (by omega)
theorem lsN_first (h:O.erI ([]:List Bx) ⟨ax,ay⟩ ⟨bx,by_⟩=0) (hk:ks.length<=6) (hu:∀ k ∈ ks,0<=k/\k<=255) :
  ZeT f ax ay bx by_ (O.arP true ([]:List Bx) ⟨ax,ay⟩ ⟨bx,by_⟩) (O.arE ([]:List Bx) ⟨ax,ay⟩ ⟨bx,by_⟩) (O.Zb2 ([]:List Bx) ⟨ax,ay⟩ ⟨bx,by_⟩) g ks ks.length 0 (Zaf (.bool true)):=by
 refine qLsNA _ _ _ _ _ _ _ _ _ _ _ _ _ ⟨fun x => ?_,fun _ => ?_⟩
 ·have hi:0<ks.length:=by omega
  have u:=hu _ (Zay hi)
  have nl:=ZfB ([]:List Bx) ⟨ax,ay⟩ ⟨bx,by_⟩
  have t0:0<=(ks.getD 0 default).tmod ((O.Zb2 ([]:List Bx) ⟨ax,ay⟩ ⟨bx,by_⟩).length:Int):=Int.tmod_nonneg _ u.1
  have t1:(ks.getD 0 default).tmod ((O.Zb2 ([]:List Bx) ⟨ax,ay⟩ ⟨bx,by_⟩).length:Int)<(O.Zb2 ([]:List Bx) ⟨ax,ay⟩ ⟨bx,by_⟩).length:=Int.tmod_lt_of_pos _ (by omega)
  refine ⟨by omega,hi,by show _<=ks.getD 0 default/\ks.getD 0 default<=_;omega,by omega,t0,by show (Int.tmod (ks.getD 0 default) _).toNat<_;omega,by omega,?_⟩
  exact lsN_loop h hk hu (ks.length-1) 1 _ 0 (by omega) ⟨[_],rfl,Nat.le_refl _,fun p hp=>by rw [List.mem_singleton.1 hp];exact Zay (by show (Int.tmod (ks.getD 0 default) _).toNat<_;omega)⟩
 ·obtain ⟨b1,h1,h2,h3⟩:=lsN_end (f:=f) (ms:=[]) h (by simp) (by simp) rfl
  have e0:O.ZaY ([(⟨ax,ay⟩:Gp)]++[(⟨bx,by_⟩:Gp)])=O.gap ⟨ax,ay⟩ ⟨bx,by_⟩:=Int.add_zero _
  refine ⟨b1,h1,h2,fun x=>⟨(h3 x).1,(h3 x).2.1,?_⟩⟩
  have:=(h3 x).2.2.2
  rw [e0] at this
  exact this
end
theorem lsN_ev (f:Bool) (ax ay bx by_:Int) (g:Bool) (ks:List Int) (hu:∀ k ∈ ks,0<=k/\k<=255):Ev M1 (.pure 5 [.vec f 5 (([]:List Bx).map Bx.a),.agg [.int .i64 ax,.int .i64 ay,.int .i64 bx,.int .i64 by_],.vec g 1 (ks.map (.int .u8))]) (.bool true) []:=by
 refine call5 (qLsN _ _ _ _ _ _ _ _ ⟨O.erI ([]:List Bx) ⟨ax,ay⟩ ⟨bx,by_⟩,fun k=>ev12 f ([]:List Bx) ax ay bx by_ (by show 0<=100;omega),fun _=>rfl,fun k=>⟨_,_,ev11 true ([]:List Bx) ax ay bx by_ (by show 0<=100;omega),_,ev17 f ([]:List Bx) ax ay bx by_ (by show 0<=100;omega),lsN_first (Classical.not_not.1 fun x=>k (.inr x)) (by omega) hu⟩⟩)
section
variable {f g:Bool} {c:Bx} {bs:List Bx} {ax ay bx by_:Int} {ks:List Int}
theorem lsC_end (h:O.erI (c::bs) ⟨ax,ay⟩ ⟨bx,by_⟩=0) {ms:List Gp} (hm:∀ p ∈ ms,p ∈ O.Zb2 (c::bs) ⟨ax,ay⟩ ⟨bx,by_⟩) (hl:ms.length<=900) {gs:List Gp} (hg:gs=⟨ax,ay⟩::ms) :
  ∃ (b1:Bool),Ev M1 (Conf.pure 15 [.vec f 5 ((c::bs).map Bx.a),.vec false 2 ((gs++[(⟨bx,by_⟩:Gp)]).map Gp.a)]) (.bool b1) [] /\
   ((¬O.arE (c::bs) ⟨ax,ay⟩ ⟨bx,by_⟩=0)->AV.bool (bif O.arE (c::bs) ⟨ax,ay⟩ ⟨bx,by_⟩==16 then !b1 else false) = .bool true) /\
   ((¬¬O.arE (c::bs) ⟨ax,ay⟩ ⟨bx,by_⟩=0)->O.okG (O.arP false (c::bs) ⟨ax,ay⟩ ⟨bx,by_⟩)/\O.cb4 ax ay bx by_/\O.okG (gs++[(⟨bx,by_⟩:Gp)]) /\
    AV.bool (bif decide (O.ZaY (O.arP false (c::bs) ⟨ax,ay⟩ ⟨bx,by_⟩)>=O.gap ⟨ax,ay⟩ ⟨bx,by_⟩) then bif !b1 then true else decide (O.ZaY (O.arP false (c::bs) ⟨ax,ay⟩ ⟨bx,by_⟩)<=O.ZaY (gs++[(⟨bx,by_⟩:Gp)])) else false) = .bool true):=by
 subst hg
 have E:=er0 h
 have ok:O.okOp (c::bs) (⟨ax,ay⟩::ms++[(⟨bx,by_⟩:Gp)]):=op_ok E (by simp;omega) fun p hp=>by
  rw [List.cons_append,List.mem_cons,List.mem_append,List.mem_singleton] at hp
  rcases hp with rfl | hp | rfl
  ·exact nod_a
  ·exact hm p hp
  ·exact nod_b
 refine ⟨_,ev15 f false (c::bs) _ ok,fun e=>congrArg AV.bool (ls_no h hm e),fun e=>⟨okP_G (ar_okP (ar_ok (Classical.not_not.1 e))),(ccp_cb E.ca E.cb).1,okP_G ok.2,congrArg AV.bool (ls_yes hm (Classical.not_not.1 e))⟩⟩
theorem lsC_loop (h:O.erI (c::bs) ⟨ax,ay⟩ ⟨bx,by_⟩=0) (hk:ks.length<=6) (hu:∀ k ∈ ks,0<=k/\k<=255) (m:Nat):∀ (i:Nat) (gs:List Gp) (v:Nat),i+m=ks.length->(∃ ms:List Gp,gs=⟨ax,ay⟩::ms/\ms.length<=i /\ ∀ p ∈ ms,p ∈ O.Zb2 (c::bs) ⟨ax,ay⟩ ⟨bx,by_⟩) ->
  ZdP f c bs ax ay bx by_ (O.arP false (c::bs) ⟨ax,ay⟩ ⟨bx,by_⟩) (O.arE (c::bs) ⟨ax,ay⟩ ⟨bx,by_⟩) (O.Zb2 (c::bs) ⟨ax,ay⟩ ⟨bx,by_⟩) g ks ks.length i gs v (Zaf (.bool true)):=by
 induction m with
 | zero =>
  rintro i gs v e ⟨ms,rfl,hl,hm⟩
  refine qLsCB _ _ _ _ _ _ _ _ _ _ _ _ _ _ _ _ _ ⟨fun x=>by omega,fun _=>⟨by show (ms.length+1+1)*16<=_;omega,?_⟩⟩
  obtain ⟨b1,h1,h2,h3⟩:=lsC_end (f:=f) h hm (by omega) rfl
  exact ⟨b1,h1,h2,fun x=>⟨(h3 x).1,(h3 x).2.1,fun _=>(h3 x).2.2.1,(h3 x).2.2.2⟩⟩
 | succ m ih =>
  rintro i gs v e ⟨ms,rfl,hl,hm⟩
  have hi:i<ks.length:=by omega
  have u:=hu _ (Zay hi)
  have nl:=ZfB (c::bs) ⟨ax,ay⟩ ⟨bx,by_⟩
  have t0:0<=(ks.getD i default).tmod ((O.Zb2 (c::bs) ⟨ax,ay⟩ ⟨bx,by_⟩).length:Int):=Int.tmod_nonneg _ u.1
  have t1:(ks.getD i default).tmod ((O.Zb2 (c::bs) ⟨ax,ay⟩ ⟨bx,by_⟩).length:Int)<(O.Zb2 (c::bs) ⟨ax,ay⟩ ⟨bx,by_⟩).length:=Int.tmod_lt_of_pos _ (by omega)
  refine qLsCB _ _ _ _ _ _ _ _ _ _ _ _ _ _ _ _ _ ⟨fun x => ?_,fun x=>by omega⟩
  rw [Int.toNat_natCast,show (i:Int)+1=((i+1:Nat):Int) by omega]
  refine ⟨by omega,hi,by omega,by omega,t0,by omega,by show (ms.length+1+1)*16<=_;omega,by omega,ih (i+1) _ _ (by omega) ⟨ms++[_],rfl,by rw [List.length_append];show ms.length+1<=_;omega,fun p hp => ?_⟩⟩
  rcases List.mem_append.1 hp with hp | hp
  ·exact hm p hp
  ·rw [List.mem_singleton.1 hp];exact Zay (by omega)
theorem lsC_first (h:O.erI (c::bs) ⟨ax,ay⟩ ⟨bx,by_⟩=0) (hk:ks.length<=6) (hu:∀ k ∈ ks,0<=k/\k<=255) :
  ZeU f c bs ax ay bx by_ (O.arP false (c::bs) ⟨ax,ay⟩ ⟨bx,by_⟩) (O.arE (c::bs) ⟨ax,ay⟩ ⟨bx,by_⟩) (O.Zb2 (c::bs) ⟨ax,ay⟩ ⟨bx,by_⟩) g ks ks.length 0 (Zaf (.bool true)):=by
 refine qLsCA _ _ _ _ _ _ _ _ _ _ _ _ _ _ _ ⟨fun x => ?_,fun _ => ?_⟩
 ·have hi:0<ks.length:=by omega
  have u:=hu _ (Zay hi)
  have nl:=ZfB (c::bs) ⟨ax,ay⟩ ⟨bx,by_⟩
  have t0:0<=(ks.getD 0 default).tmod ((O.Zb2 (c::bs) ⟨ax,ay⟩ ⟨bx,by_⟩).length:Int):=Int.tmod_nonneg _ u.1
  have t1:(ks.getD 0 default).tmod ((O.Zb2 (c::bs) ⟨ax,ay⟩ ⟨bx,by_⟩).length:Int)<(O.Zb2 (c::bs) ⟨ax,ay⟩ ⟨bx,by_⟩).length:=Int.tmod_lt_of_pos _ (by omega)
  refine ⟨by omega,hi,by show _<=ks.getD 0 default/\ks.getD 0 default<=_;omega,by omega,t0,by show (Int.tmod (ks.getD 0 default) _).toNat<_;omega,by omega,?_⟩
  exact lsC_loop h hk hu (ks.length-1) 1 _ 0 (by omega) ⟨[_],rfl,Nat.le_refl _,fun p hp=>by rw [List.mem_singleton.1 hp];exact Zay (by show (Int.tmod (ks.getD 0 default) _).toNat<_;omega)⟩
 ·obtain ⟨b1,h1,h2,h3⟩:=lsC_end (f:=f) (ms:=[]) h (by simp) (by simp) rfl
  have e0:O.ZaY ([(⟨ax,ay⟩:Gp)]++[(⟨bx,by_⟩:Gp)])=O.gap ⟨ax,ay⟩ ⟨bx,by_⟩:=Int.add_zero _
  refine ⟨b1,h1,h2,fun x=>⟨(h3 x).1,(h3 x).2.1,?_⟩⟩
  have:=(h3 x).2.2.2
  rw [e0] at this
  exact this
end
theorem lsC_ev (f:Bool) (c:Bx) (bs:List Bx) (ax ay bx by_:Int) (g:Bool) (ks:List Int) (hu:∀ k ∈ ks,0<=k/\k<=255):Ev M1 (.pure 5 [.vec f 5 ((c::bs).map Bx.a),.agg [.int .i64 ax,.int .i64 ay,.int .i64 bx,.int .i64 by_],.vec g 1 (ks.map (.int .u8))]) (.bool true) []:=by
 refine call5 (qLsC _ _ _ _ _ _ _ _ _ _ ⟨O.erI (c::bs) ⟨ax,ay⟩ ⟨bx,by_⟩,fun k=>ev12 f (c::bs) ax ay bx by_ (by show bs.length+1<=100;omega),fun _=>rfl,fun k=>⟨_,_,ev11 false (c::bs) ax ay bx by_ (by show bs.length+1<=100;omega),by omega,_,ev17 f (c::bs) ax ay bx by_ (by show bs.length+1<=100;omega),lsC_first (Classical.not_not.1 fun x=>k (.inr x)) (by omega) hu⟩⟩)
theorem ls_ev (f:Bool) (bs:List Bx) (ax ay bx by_:Int) (g:Bool) (ks:List Int) (hu:∀ k ∈ ks,0<=k/\k<=255):Ev M1 (.pure 5 [.vec f 5 (bs.map Bx.a),.agg [.int .i64 ax,.int .i64 ay,.int .i64 bx,.int .i64 by_],.vec g 1 (ks.map (.int .u8))]) (.bool true) []:=by
 cases bs with
 | nil=>exact lsN_ev f ax ay bx by_ g ks hu
 | cons c bs=>exact lsC_ev f c bs ax ay bx by_ g ks hu
end Go.Av
