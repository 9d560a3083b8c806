/- PART 3 of the texts of a claim, joined by a program: what each part shows stands at its head. -/
import Derived.Test.YtcekollfgmfdjaaPart094bf53f4c

namespace Go.Av
open Go.Proofs
set_option maxRecDepth 100000
def fi84:Fi:=⟨30,[.cell 4 108]⟩
def kp84:List (Nat × List Nat):=[(0,[0,1,4]),(1,[0,1,4,5]),(2,[0,1,4,5,17]),(3,[0,1,4,5]),(4,[4])]
def fi85:Fi:=⟨15,[.tmp 2]⟩
def kp85:List (Nat × List Nat):=[(0,[0]),(1,[2])]
def fi86:Fi:=⟨11,[.tmp 2]⟩
def kp86:List (Nat × List Nat):=[(0,[1]),(1,[1,3]),(2,[2]),(3,[6]),(4,[2]),(5,[2])]
def fi101:Fi:=⟨21,[.tmp 2]⟩
def kp101:List (Nat × List Nat):=[(0,[0]),(1,[0,14]),(2,[0]),(3,[2])]
def vTrim_at (fa:Bool) (a:List Int) (Q:AV->Heap->Prop):Prop:=Wp M1 (.run fi101 (atC (cd Try.f101) []) [(0,.vec fa 1 (a.map (.int .u32)))] []) Q
def ZcT (fa:Bool) (a:List Int) (Q:AV->Heap->Prop):Prop:=Wp M1 (.run fi101 (atC (cd Try.f101) [1,0,0,0]) [(0,.vec fa 1 (a.map (.int .u32)))] []) Q
def Zgt (s fa:Bool) (a:List Int) (Q:AV->Heap->Prop):Prop:=Wp M1 (.run fi84 (atC (cd Try.f84) []) [(0,.bool s),(1,.vec fa 1 (a.map (.int .u32)))] []) Q
def Zch (s fa:Bool) (a:List Int) (n:Int) (Q:AV->Heap->Prop):Prop:=Wp M1 (.run fi84 (atC (cd Try.f84) [1,1,0,0,0]) [(0,.bool s),(1,.vec fa 1 (a.map (.int .u32))),(4,.ptr 0 0 0 0),(5,.int .i64 n)] [⟨[.agg [.bool false,.vnil]],2,0,false,false⟩]) Q
def Zfd (s:Bool) (Q:AV->Heap->Prop):Prop:=Wp M1 (.run fi84 (atC (cd Try.f84) []) [(0,.bool s),(1,.vnil)] []) Q
def ZcU (s:Bool) (Q:AV->Heap->Prop):Prop:=Wp M1 (.run fi84 (atC (cd Try.f84) [1,1,0,0,0]) [(0,.bool s),(1,.vnil),(4,.ptr 0 0 0 0),(5,.int .i64 0)] [⟨[.agg [.bool false,.vnil]],2,0,false,false⟩]) Q
def vSplit_at (u:Int) (Q:AV->Heap->Prop):Prop:=Wp M1 (.run fi85 (atC (cd Try.f85) []) [(0,.int .u64 u)] []) Q
def vSign_at (fa:Bool) (v:Int) (Q:AV->Heap->Prop):Prop:=Wp M1 (.run fi86 (atC (cd Try.f86) []) [(0,bigA fa v)] []) Q
theorem call84 {args:List AV} {d:AV} (h:wc M1 fi84 Try.f84 args d):Ev M1 (.pure 84 args) d []:=pcl _ _ (by kernel_rfl) h
theorem call85 {args:List AV} {d:AV} (h:wc M1 fi85 Try.f85 args d):Ev M1 (.pure 85 args) d []:=pcl _ _ (by kernel_rfl) h
theorem call86 {args:List AV} {d:AV} (h:wc M1 fi86 Try.f86 args d):Ev M1 (.pure 86 args) d []:=pcl _ _ (by kernel_rfl) h
theorem call101 {args:List AV} {d:AV} (h:wc M1 fi101 Try.f101 args d):Ev M1 (.pure 101 args) d []:=pcl _ _ (by kernel_rfl) h
theorem vTrim (fa:Bool) (a:List Int)  (dq:AV) (H :
  ZcT fa a (Zaf dq)) :
 vTrim_at fa a (Zaf dq):=by
 unfold vTrim_at
 exact Zac (G:=Zad kp101 [] []) 1000 [] ⟨(atC (cd Try.f101) [1,0,0,0]),[(0,AV.vec fa 1 (us a))],[],_,[],_⟩ (by kernel_rfl) b0 q0 c0 H
theorem vTrimA (fa:Bool) (a:List Int)  (dq:AV) (H :
  (-9223372036854775808<=(↑a.length:Int)-1/\(↑a.length:Int)-1<=9223372036854775807) /\
  (((↑a.length:Int)>0)->(0<=(↑a.length:Int)-1)) /\
  (((↑a.length:Int)>0)->(((↑a.length:Int)-1).toNat<a.length)) /\
  ((((↑a.length:Int)>0)/\(a.getD ((↑a.length:Int)-1).toNat default=0))->(0<=(↑a.length:Int)-1) /\
   (0<=((↑a.length:Int)-1).toNat) /\
   (((↑a.length:Int)-1).toNat<=a.length) /\
   ZcT (fa&&false) (List.drop 0 (List.take ((↑a.length:Int)-1).toNat a)) (Zaf dq)) /\
  (¬(((↑a.length:Int)>0)/\(a.getD ((↑a.length:Int)-1).toNat default=0))->Weak (AV.vec fa 1 (us a)) dq)) :
 ZcT fa a (Zaf dq):=by
 unfold ZcT
 have w1:(us a).length=a.length:=List.length_map ..
 obtain ⟨k2,H⟩:=H
 have w3:wi ((↑a.length:Int)-1)=(↑a.length:Int)-1:=wI64 k2
 have i4:(!(decide ((↑(us a).length:Int)>0)==true&&true)||decide (0<=wi ((↑(us a).length:Int)-1)))=true ↔ (((↑a.length:Int)>0)->(0<=(↑a.length:Int)-1)):=(by (try rw [w1]);(try rw [w3]);all_goals exact (Za2 (i_at (i_bt Zab)) Zab))
 obtain ⟨k5,H⟩:=H
 have i6:(!(decide ((↑(us a).length:Int)>0)==true&&true)||decide ((wi ((↑(us a).length:Int)-1)).toNat<(us a).length))=true ↔ (((↑a.length:Int)>0)->(((↑a.length:Int)-1).toNat<a.length)):=(by (try rw [w1]);(try rw [w3]);all_goals exact (Za2 (i_at (i_bt Zab)) Zab))
 obtain ⟨k7,H⟩:=H
 have i9:(bif decide ((↑(us a).length:Int)>0) then a.getD ((↑a.length:Int)-1).toNat default==0 else false)=true ↔ (((↑a.length:Int)>0)/\(a.getD ((↑a.length:Int)-1).toNat default=0)):=(by (try rw [w1]);all_goals exact (ZaZ Zab i_eq))
 refine Zac (G:=Zad kp101 [(1,9,.elem (vu (a.getD ((↑a.length:Int)-1).toNat default)))] []) 3 [] ⟨(atC (cd Try.f101) [1,0,0,0,0,1]),[(0,AV.vec fa 1 (us a)),(14,vb (bif decide ((↑(us a).length:Int)>0) then a.getD ((↑a.length:Int)-1).toNat default==0 else false))],[],_,[((decide ((↑(us a).length:Int)>0)==true&&true)=true->(us a).get?Internal (wi ((↑(us a).length:Int)-1)).toNat=some (vu (a.getD ((↑a.length:Int)-1).toNat default)))],_⟩ (by kernel_rfl) (bc (i4.2 k5) (bc (i6.2 k7) b0)) (qc (by (try rw [w1]);(try rw [w3]);all_goals exact (fun h=>Zai (k7 ((i_at (i_bt Zab)).1 h)))) q0) c0 ?_
 rcases xq H with ⟨d10,H⟩|⟨d10,H⟩
 ·have i11:(decide (0<=wi ((↑(us a).length:Int)-1)))=true ↔ (0<=(↑a.length:Int)-1):=(by (try rw [w1]);(try rw [w3]);all_goals exact Zab)
  obtain ⟨k12,H⟩:=H
  have i13:(decide (0<=(wi ((↑(us a).length:Int)-1)).toNat))=true ↔ (0<=((↑a.length:Int)-1).toNat):=(by (try rw [w1]);(try rw [w3]);all_goals exact Zab)
  obtain ⟨k14,H⟩:=H
  have i15:(decide ((wi ((↑(us a).length:Int)-1)).toNat<=(us a).length))=true ↔ (((↑a.length:Int)-1).toNat<=a.length):=(by (try rw [w1]);(try rw [w3]);all_goals exact Zab)
  obtain ⟨k16,H⟩:=H
  have w17:List.take ((↑a.length:Int)-1).toNat (us a)=us (List.take ((↑a.length:Int)-1).toNat a):=(lm_take rfl)
  have w18:List.drop 0 (us (List.take ((↑a.length:Int)-1).toNat a))=us (List.drop 0 (List.take ((↑a.length:Int)-1).toNat a)):=(lm_drop rfl)
  exact Zac (G:=Zad kp101 [] []) 1000 [true] ⟨(atC (cd Try.f101) [1,0,0,0]),[(0,AV.vec (fa&&false) 1 (List.drop 0 (List.take (wi ((↑(us a).length:Int)-1)).toNat (us a))))],[],_,[],_⟩ (by kernel_rfl) (bc (Zal (i9.2 d10)) (bc (i11.2 k12) (bc (i13.2 k14) (bc (i15.2 k16) b0)))) q0 c0 (by (try rw [w1]);(try rw [w3]);(try rw [w17]);(try rw [w18]);all_goals exact H)
 ·exact Zao (G:=Zad kp101 [] []) 1000 [false] (AV.vec fa 1 (us a)) (by kernel_rfl) (bc (Zak (fun h=>d10 (i9.1 h))) b0) q0 c0 H
theorem vSigned (s fa:Bool) (a:List Int)  (dq:AV) (H :
  Zch s fa a ((↑a.length:Int)) (Zaf dq)) :
 Zgt s fa a (Zaf dq):=by
 unfold Zgt
 have w1:(us a).length=a.length:=List.length_map ..
 exact Zac (G:=Zad kp84 [] []) 1000 [] ⟨(atC (cd Try.f84) [1,1,0,0,0]),[(0,vb s),(1,AV.vec fa 1 (us a)),(4,AV.ptr 0 0 0 0),(5,vi (↑(us a).length:Int))],[⟨[ag [vb false,AV.vnil]],2,0,false,false⟩],_,[],_⟩ (by kernel_rfl) b0 q0 c0 (by (try rw [w1]);all_goals exact H)
theorem vSignedA (s fa:Bool) (a:List Int) (n:Int)  (dq:AV) (H :
  (-9223372036854775808<=n-1/\n-1<=9223372036854775807) /\
  ((n>0)->(0<=n-1)) /\
  ((n>0)->((n-1).toNat<a.length)) /\
  (((n>0)/\(a.getD (n-1).toNat default=0))->Zch s fa a (n-1) (Zaf dq)) /\
  (¬((n>0)/\(a.getD (n-1).toNat default=0))->(0<=n) /\
   (0<=n.toNat) /\
   (n.toNat<=a.length) /\
   (n=(↑n.toNat:Int)) /\
   Weak (ag [vb (bif s then decide (n>0) else false),AV.vec true 1 (us (List.drop 0 (List.take n.toNat a)))]) dq)) :
 Zch s fa a n (Zaf dq):=by
 unfold Zch
 obtain ⟨k1,H⟩:=H
 have w2:wi (n-1)=n-1:=wI64 k1
 have i3:(!(decide (n>0)==true&&true)||decide (0<=wi (n-1)))=true ↔ ((n>0)->(0<=n-1)):=(by (try rw [w2]);all_goals exact (Za2 (i_at (i_bt Zab)) Zab))
 obtain ⟨k4,H⟩:=H
 have w5:(us a).length=a.length:=List.length_map ..
 have i6:(!(decide (n>0)==true&&true)||decide ((wi (n-1)).toNat<(us a).length))=true ↔ ((n>0)->((n-1).toNat<a.length)):=(by (try rw [w2]);(try rw [w5]);all_goals exact (Za2 (i_at (i_bt Zab)) Zab))
 obtain ⟨k7,H⟩:=H
 refine Zac (G:=Zad kp84 [(2,7,.elem (vu (a.getD (n-1).toNat default)))] []) 3 [] ⟨(atC (cd Try.f84) [1,1,0,0,0,0,1]),[(0,vb s),(1,AV.vec fa 1 (us a)),(4,AV.ptr 0 0 0 0),(5,vi n),(17,vb (bif decide (n>0) then a.getD (n-1).toNat default==0 else false))],[⟨[ag [vb false,AV.vnil]],2,0,false,false⟩],_,[((decide (n>0)==true&&true)=true->(us a).get?Internal (wi (n-1)).toNat=some (vu (a.getD (n-1).toNat default)))],_⟩ (by kernel_rfl) (bc (i3.2 k4) (bc (i6.2 k7) b0)) (qc (by (try rw [w2]);all_goals exact (fun h=>Zai (k7 ((i_at (i_bt Zab)).1 h)))) q0) c0 ?_
 rcases xq H with ⟨d10,H⟩|⟨d10,H⟩
 ·exact Zac (G:=Zad kp84 [] []) 1000 [true] ⟨(atC (cd Try.f84) [1,1,0,0,0]),[(0,vb s),(1,AV.vec fa 1 (us a)),(4,AV.ptr 0 0 0 0),(5,vi (wi (n-1)))],[⟨[ag [vb false,AV.vnil]],2,0,false,false⟩],_,[],_⟩ (by kernel_rfl) (bc (Zal ((ZaZ Zab i_eq).2 d10)) b0) q0 c0 (by (try rw [w2]);all_goals exact H)
 ·obtain ⟨k12,k14,H⟩:=H
  have i15:(decide (n.toNat<=(us a).length))=true ↔ (n.toNat<=a.length):=(by (try rw [w5]);all_goals exact Zab)
  obtain ⟨k16,k18,H⟩:=H
  have w19:List.take n.toNat (us a)=us (List.take n.toNat a):=(lm_take rfl)
  have w20:List.drop 0 (us (List.take n.toNat a))=us (List.drop 0 (List.take n.toNat a)):=(lm_drop rfl)
  exact Zao (G:=Zad kp84 [] []) 1000 [false] (ag [vb (bif s then decide (n>0) else false),AV.vec true 1 (List.drop 0 (List.take n.toNat (us a)))]) (by kernel_rfl) (bc (Zak (fun h=>d10 ((ZaZ Zab i_eq).1 h))) (bc (Zab.2 k12) (bc (Zab.2 k14) (bc (i15.2 k16) (bc (i_eq.2 k18) (bc rfl (bc rfl b0))))))) q0 c0 (by (try rw [w19]);(try rw [w20]);all_goals exact H)
theorem vSigned0 (s:Bool)  (dq:AV) (H :
  ZcU s (Zaf dq)) :
 Zfd s (Zaf dq):=by
 unfold Zfd
 exact Zac (G:=Zad kp84 [] []) 1000 [] ⟨(atC (cd Try.f84) [1,1,0,0,0]),[(0,vb s),(1,AV.vnil),(4,AV.ptr 0 0 0 0),(5,vi 0)],[⟨[ag [vb false,AV.vnil]],2,0,false,false⟩],_,[],_⟩ (by kernel_rfl) b0 q0 c0 H
theorem vSigned0A (s:Bool)  (dq:AV) (H :
  Weak (ag [vb (bif s then false else false),AV.vnil]) dq) :
 ZcU s (Zaf dq):=by
 unfold ZcU
 exact Zao (G:=Zad kp84 [] []) 1000 [false] (ag [vb (bif s then false else false),AV.vnil]) (by kernel_rfl) (bc rfl (bc rfl (bc rfl (bc rfl (bc rfl (bc rfl (bc rfl (bc rfl b0)))))))) q0 c0 H
theorem vSplit (u:Int)  (dq:AV) (H :
  (0<=u.tmod 1000000000/\u.tmod 1000000000<=4294967295) /\
  (0<=u.tdiv 1000000000/\u.tdiv 1000000000<=18446744073709551615) /\
  (0<=(u.tdiv 1000000000).tmod 1000000000/\(u.tdiv 1000000000).tmod 1000000000<=4294967295) /\
  (0<=(u.tdiv 1000000000).tdiv 1000000000/\(u.tdiv 1000000000).tdiv 1000000000<=18446744073709551615) /\
  (0<=(u.tdiv 1000000000).tdiv 1000000000/\(u.tdiv 1000000000).tdiv 1000000000<=4294967295) /\
  Weak (AV.vec true 1 [vu (u.tmod 1000000000),vu ((u.tdiv 1000000000).tmod 1000000000),vu ((u.tdiv 1000000000).tdiv 1000000000)]) dq) :
 vSplit_at u (Zaf dq):=by
 unfold vSplit_at
 obtain ⟨k1,H⟩:=H
 have w2:wv (u.tmod 1000000000)=u.tmod 1000000000:=wU32 k1
 obtain ⟨k3,H⟩:=H
 have w4:wu (u.tdiv 1000000000)=u.tdiv 1000000000:=wU64 k3
 obtain ⟨k5,H⟩:=H
 have w6:wv ((u.tdiv 1000000000).tmod 1000000000)=(u.tdiv 1000000000).tmod 1000000000:=wU32 k5
 obtain ⟨k7,H⟩:=H
 have w8:wu ((u.tdiv 1000000000).tdiv 1000000000)=(u.tdiv 1000000000).tdiv 1000000000:=wU64 k7
 obtain ⟨k9,H⟩:=H
 have w10:wv ((u.tdiv 1000000000).tdiv 1000000000)=(u.tdiv 1000000000).tdiv 1000000000:=wU32 k9
 exact Zao (G:=Zad kp85 [] []) 1000 [] (AV.vec true 1 [vu (wv (u.tmod 1000000000)),vu (wv ((wu (u.tdiv 1000000000)).tmod 1000000000)),vu (wv (wu ((wu (u.tdiv 1000000000)).tdiv 1000000000)))]) (by kernel_rfl) (bc rfl (bc rfl (bc rfl (bc rfl (bc rfl b0))))) q0 c0 (by (try rw [w2]);(try rw [w4]);(try rw [w6]);(try rw [w8]);(try rw [w10]);all_goals exact H)
theorem vSign (fa:Bool) (v:Int)  (dq:AV) (H :
  ((O.Zaa v=true)->vi (-1)=dq) /\
  (¬(O.Zaa v=true)->(((↑(O.Zag v).length:Int)>0)->vi 1=dq) /\
   (¬((↑(O.Zag v).length:Int)>0)->vi 0=dq))) :
 vSign_at fa v (Zaf dq):=by
 unfold vSign_at
 rcases xq H with ⟨d2,H⟩|⟨d2,H⟩
 ·exact Zah (G:=Zad kp86 [] []) 1000 [true] (asm:=[true,(O.Zaa v)==true]) (vi (-1)) (by kernel_rfl) (bc rfl (bc (Zal ((ZaD _).2 d2)) b0)) q0 c0 H
 ·have w3:(us (O.Zag v)).length=(O.Zag v).length:=List.length_map ..
  have i4:(decide ((↑(us (O.Zag v)).length:Int)>0))=true ↔ ((↑(O.Zag v).length:Int)>0):=(by (try rw [w3]);all_goals exact Zab)
  rcases xq H with ⟨d5,H⟩|⟨d5,H⟩
  ·exact Zah (G:=Zad kp86 [] []) 1000 [false,true] (asm:=[true,(O.Zaa v)==false,true,(decide ((↑(us (O.Zag v)).length:Int)>0))==true]) (vi 1) (by kernel_rfl) (bc rfl (bc (Zak (fun h=>d2 ((ZaD _).1 h))) (bc rfl (bc (Zal (i4.2 d5)) b0)))) q0 c0 H
  ·exact Zah (G:=Zad kp86 [] []) 1000 [false,false] (asm:=[true,(O.Zaa v)==false,true,(decide ((↑(us (O.Zag v)).length:Int)>0))==false]) (vi 0) (by kernel_rfl) (bc rfl (bc (Zak (fun h=>d2 ((ZaD _).1 h))) (bc rfl (bc (Zak (fun h=>d5 (i4.1 h))) b0)))) q0 c0 H
end Go.Av

namespace Go.Av
open Go.Proofs
namespace O
def sg (s:Bool) (v:Nat):Int:=if s=true then -(v:Int) else v
def sgnI (v:Int):Int:=if v<0 then -1 else if v>0 then 1 else 0
def Za0 (k:Nat):Prop:=k<=1000000
def ok (v:Int):Prop:=cnt v.natAbs<=1000000
end O
theorem ZcA (f:Bool) (es:Nat) (xs:List AV):Weak (.vec f es xs) (.vec false es xs):=by
 cases f with
 | true=>exact .full es xs
 | false=>exact .refl _
theorem weak_big (b f:Bool) (xs:List AV):Weak (.agg [.bool b,.vec f 1 xs]) (.agg [.bool b,.vec false 1 xs]):=by
 refine .agg _ _ rfl fun i x y hx hy => ?_
 match i with
 | 0=>simp at hx hy;subst hx;subst hy;exact .refl _
 | 1=>simp at hx hy;subst hx;subst hy;exact ZcA _ _ _
 | i+2=>simp at hx
theorem Zbv (v:Int):(O.Zag v).length=O.cnt v.natAbs:=ZfE _
theorem Zan {v:Int}:O.Zaa v=true ↔ v<0:=decide_eq_true_iff
theorem sg_limI (s:Bool) (v:Nat):O.Zag (O.sg s v)=O.lim v:=by
 unfold O.Zag O.sg
 cases s <;> simp
theorem sg_neg (s:Bool) (v:Nat):O.Zaa (O.sg s v)=(bif s then decide (v ≠ 0) else false):=by
 unfold O.Zaa O.sg
 cases s with
 | true =>
  rw [if_pos rfl,cond_true,decide_eq_decide];omega
 | false =>
  rw [if_neg (by simp),cond_false];simp
theorem big_sg (f s:Bool) (v:Nat):bigA f (O.sg s v) = .agg [.bool (bif s then decide (v ≠ 0) else false),.vec f 1 ((O.lim v).map (.int .u32))]:=by
 show AV.agg [.bool (O.Zaa (O.sg s v)),.vec f 1 ((O.Zag (O.sg s v)).map (.int .u32))]=_
 rw [sg_limI,sg_neg]
theorem limN_top {k v:Nat} (h:O.fits (k+1) v):(O.Zat (k+1) v).getD k default=0 ↔ O.fits k v:=by
 rw [ZaI v (by omega),Zea]
 have:=Zcb h
 generalize v / 1000000000 ^ k=t at this
 omega
theorem loopTrim:∀ (k:Nat) (fa:Bool) (v:Nat),k<=1000000->O.fits k v->ZcT fa (O.Zat k v) (Zaf (usA false (O.lim v)))
 | 0,fa,v,hk,hf=>by
  have h0:=Zbq.1 hf
  subst h0
  rw [Zd1]
  have hl:=Zaq 0 0
  exact vTrimA _ _ _ ⟨by omega,fun h=>by omega,fun h=>by omega,fun h=>by omega,fun _=>ZcA _ _ _⟩
 | k+1,fa,v,hk,hf=>by
  have hl:=Zaq (k+1) v
  have e1:(((O.Zat (k+1) v).length:Int)-1).toNat=k:=by omega
  refine vTrimA _ _ _ ⟨by omega,fun _=>by omega,fun _=>by omega,fun h => ?_,fun h => ?_⟩
  ·rw [e1] at h ⊢
   have h2:=(limN_top hf).1 h.2
   refine ⟨by omega,by omega,by omega,?_⟩
   rw [List.drop_zero,limN_take]
   exact loopTrim k _ v (by omega) h2
  ·rw [e1] at h
   have h2:¬O.fits k v:=fun x=>h ⟨by omega,(limN_top hf).2 x⟩
   rw [lim_of hf (.inr (by simpa using h2))]
   exact ZcA _ _ _
theorem trimN (fa:Bool) (k v:Nat) (h:O.Za0 k/\O.fits k v):Ev M1 (.pure 101 [usA fa (O.Zat k v)]) (usA false (O.lim v)) []:=
 call101 (vTrim _ _ _ (loopTrim k fa v h.1 h.2))
theorem ZgJ (s fa:Bool) (k v:Nat) (hk:k<=1000000):∀ (n:Nat),n<=k->O.fits n v->Zch s fa (O.Zat k v) n (Zaf (bigA false (O.sg s v)))
 | 0,hn,hf=>by
  have h0:=Zbq.1 hf
  subst h0
  refine vSignedA _ _ _ _ _ ⟨by omega,fun h=>by omega,fun h=>by omega,fun h=>by omega,fun _=>⟨by omega,by omega,by omega,by omega,?_⟩⟩
  rw [big_sg,Zd1]
  have e:(bif s then decide ((0:Int)>0) else false)=(bif s then decide (0 ≠ 0) else false):=by cases s <;> simp
  rw [show ((0:Nat):Int)=0 from rfl,e]
  exact weak_big _ _ _
 | n+1,hn,hf=>by
  have hl:=Zaq k v
  have e1:(((n+1:Nat):Int)-1).toNat=n:=by omega
  have e2:((n+1:Nat):Int)-1=(n:Nat):=by omega
  have top:(O.Zat k v).getD n default=0 ↔ O.fits n v:=by
   rw [ZaI v (by omega),Zea]
   have:=Zcb hf
   generalize v / 1000000000 ^ n=t at this
   omega
  refine vSignedA _ _ _ _ _ ⟨by omega,fun _=>by omega,fun _=>by omega,fun h => ?_,fun h => ?_⟩
  ·rw [e1] at h
   rw [e2]
   exact ZgJ s fa k v hk n (by omega) (top.1 h.2)
  ·rw [e1] at h
   have h2:¬O.fits n v:=fun x=>h ⟨by omega,top.2 x⟩
   have hv:v ≠ 0:=by rintro rfl;exact h2 (ZaB.2 (by rw [ZbU];omega))
   refine ⟨by omega,by omega,by omega,by omega,?_⟩
   have hc:O.cnt v=n+1:=by
    have a:=ZaB.1 hf
    have b:¬O.cnt v<=n:=fun x=>h2 (ZaB.2 x)
    omega
   rw [big_sg,Int.toNat_natCast,List.drop_zero,<- hc,lim_limN (Zb1 hf hn),hc]
   have e:(bif s then decide (((n+1:Nat):Int)>0) else false)=(bif s then decide (v ≠ 0) else false):=by
    have:((n+1:Nat):Int)>0:=by omega
    cases s <;> simp [hv]
   rw [e]
   exact weak_big _ _ _
theorem signedN (s fa:Bool) (k v:Nat) (h:O.Za0 k/\O.fits k v):Ev M1 (.pure 84 [.bool s,usA fa (O.Zat k v)]) (bigA false (O.sg s v)) []:=by
 refine call84 (vSigned _ _ _ _ ?_)
 rw [Zaq]
 exact ZgJ s fa k v h.1 k (Nat.le_refl _) h.2
theorem ev84 (s fa:Bool) (k v:Nat) (h:O.Za0 k/\O.fits k v):Ev M1 (.pure 84 [.bool s,usA fa (O.Zat k v)]) (bigA false (O.sg s v)) []:=signedN s fa k v h
theorem ev84_a (s fa:Bool) (v:Int) (h:O.ok v):Ev M1 (.pure 84 [.bool s,usA fa (O.Zag v)]) (bigA false (O.sg s v.natAbs)) []:=signedN s fa _ _ ⟨h,Zap _⟩
theorem ev85 (u:Int) (h:0<=u/\u<=18446744073709551615):Ev M1 (.pure 85 [.int .u64 u]) (usA false (O.Zat 3 u.toNat)) []:=by
 have e1:u.tmod 1000000000=u % 1000000000:=Int.tmod_eq_emod_of_nonneg h.1
 have e2:u.tdiv 1000000000=u / 1000000000:=Int.tdiv_eq_ediv_of_nonneg h.1
 have e3:(u / 1000000000).tmod 1000000000=(u / 1000000000) % 1000000000:=Int.tmod_eq_emod_of_nonneg (by omega)
 have e4:(u / 1000000000).tdiv 1000000000=(u / 1000000000) / 1000000000:=Int.tdiv_eq_ediv_of_nonneg (by omega)
 refine call85 (vSplit u _ ?_)
 rw [e1,e2,e3,e4]
 refine ⟨by omega,by omega,by omega,by omega,by omega,?_⟩
 have e:[AV.int .u32 (u % 1000000000),AV.int .u32 (u / 1000000000 % 1000000000),AV.int .u32 (u / 1000000000 / 1000000000)]=(O.Zat 3 u.toNat).map (.int .u32):=by
  simp only [O.Zat,List.map_cons,List.map_nil]
  have a1:((u.toNat % 1000000000:Nat):Int)=u % 1000000000:=by omega
  have a2:((u.toNat / 1000000000 % 1000000000:Nat):Int)=u / 1000000000 % 1000000000:=by omega
  have a3:((u.toNat / 1000000000 / 1000000000 % 1000000000:Nat):Int)=u / 1000000000 / 1000000000:=by omega
  rw [a1,a2,a3]
 rw [e]
 exact ZcA _ _ _
theorem ev86 (fa:Bool) (v:Int):Ev M1 (.pure 86 [bigA fa v]) (.int .i64 (O.sgnI v)) []:=by
 have hl:=Zbv v
 refine call86 (vSign fa v _ ⟨fun h => ?_,fun h=>⟨fun k => ?_,fun k => ?_⟩⟩)
 ·rw [Zan] at h
  rw [O.sgnI,if_pos h]
 ·rw [Zan] at h
  have:v.natAbs ≠ 0:=fun e=>by rw [hl,e,ZbU] at k;omega
  rw [O.sgnI,if_neg h,if_pos (by omega)]
 ·rw [Zan] at h
  have:v.natAbs=0:=ZaX.1 (by omega)
  rw [O.sgnI,if_neg h,if_neg (by omega)]
end Go.Av

namespace Go.Av
open Go.Proofs
namespace O
def cb (n:Int):Prop:=-50000000<=n/\n<=50000000
def nb (n:Int):Prop:=-1000000000<=n/\n<=1000000000
def cb4 (a b c d:Int):Prop:=cb a/\cb b/\cb c/\cb d
def nb4 (a b c d:Int):Prop:=nb a/\nb b/\nb c/\nb d
def cb6 (a b c d x y:Int):Prop:=cb4 a b c d/\cb x/\cb y
def abs (n:Int):Int:=if n<0 then 0-n else n
def fr1 (n:Int):Prop:=n>10000000\/n < -10000000
end O
instance (n:Int):Decidable (O.fr1 n):=by unfold O.fr1;infer_instance
instance (a b c d x y:Int):Decidable (O.Zgf a b c d x y):=by unfold O.Zgf;infer_instance
theorem mul_bd {a b:Int} (ha:O.nb a) (hb:O.nb b):-1000000000000000000<=a*b/\a*b<=1000000000000000000:=by
 unfold O.nb at ha hb
 have h:=Int.natAbs_mul a b
 have:a.natAbs*b.natAbs<=1000000000*1000000000:=Nat.mul_le_mul (by omega) (by omega)
 omega
theorem ev35 (a b c d:Int) (h:O.nb4 a b c d):Ev M1 (.pure 35 [.agg [.int .i64 a,.int .i64 b],.agg [.int .i64 c,.int .i64 d]]) (.bool (O.less ⟨a,b⟩ ⟨c,d⟩)) []:=by
 have h1:=mul_bd h.1 h.2.2.2
 have h2:=mul_bd h.2.2.1 h.2.1
 exact call35 (qLess _ _ _ _ _ ⟨by omega,by omega,rfl⟩)
theorem ev47 (a b c d:Int) (h:O.cb4 a b c d):Ev M1 (.pure 47 [.agg [.int .i64 a,.int .i64 b],.agg [.int .i64 c,.int .i64 d]]) (.int .i64 (O.gap ⟨a,b⟩ ⟨c,d⟩)) []:=by
 unfold O.cb4 O.cb at h
 refine call47 (qGap _ _ _ _ _ ⟨by omega,by omega,by omega,by omega,congrArg (AV.int .i64) ?_⟩)
 show _=max (max (max (a-c) (c-a)) (b-d)) (d-b)
 split <;> split <;> (try split) <;> omega
theorem dec_or {p q:Prop} [Decidable p] [Decidable q] [Decidable (p\/q)]:(bif decide p then true else decide q)=decide (p\/q):=by
 by_cases h:p
 ·rw [decide_eq_true h,decide_eq_true (show p\/q from .inl h)];rfl
 ·by_cases k:q
  ·rw [decide_eq_false h,decide_eq_true k,decide_eq_true (show p\/q from .inr k)];rfl
  ·rw [decide_eq_false h,decide_eq_false k,decide_eq_false (show ¬(p\/q) from fun x=>x.elim h k)];rfl
theorem ZcL {p q:Prop} [Decidable p] [Decidable q] [Decidable (p/\q)]:(bif decide p then decide q else false)=decide (p/\q):=by
 by_cases h:p
 ·by_cases k:q
  ·rw [decide_eq_true h,decide_eq_true k,decide_eq_true (show p/\q from ⟨h,k⟩)];rfl
  ·rw [decide_eq_true h,decide_eq_false k,decide_eq_false (show ¬(p/\q) from fun x=>k x.2)];rfl
 ·rw [decide_eq_false h,decide_eq_false (show ¬(p/\q) from fun x=>h x.1)];rfl
theorem ZdD {p q:Prop} [Decidable p] [Decidable q] (h:p ↔ q):decide p=decide q:=by
 by_cases k:q
 ·rw [decide_eq_true k,decide_eq_true (h.2 k)]
 ·rw [decide_eq_false k,decide_eq_false fun x=>k (h.1 x)]
theorem ev45 (n:Int):Ev M1 (.pure 45 [.int .i64 n]) (.bool (decide (O.fr1 n))) []:=
 call45 (qFarR _ _ (congrArg AV.bool (by rw [dec_or];exact ZdD Iff.rfl)))
theorem ev46 (n:Int) (h:O.nb n):Ev M1 (.pure 46 [.int .i64 n]) (.int .i64 (O.abs n)) []:=by
 unfold O.nb at h
 refine call46 (qSize _ _ ⟨fun k=>⟨by omega,?_⟩,fun k => ?_⟩)
 ·unfold O.abs;rw [if_pos k]
 ·unfold O.abs;rw [if_neg k]
theorem ev36 (x0 y0 x1 y1 tp x y:Int):Ev M1 (.pure 36 [.agg [.int .i64 x0,.int .i64 y0,.int .i64 x1,.int .i64 y1,.int .i64 tp],.agg [.int .i64 x,.int .i64 y]]) (.bool (decide (O.Zgf x0 y0 x1 y1 x y))) []:=
 call36 (qIns _ _ _ _ _ _ _ _ (congrArg AV.bool (by rw [ZcL,ZcL,ZcL];exact ZdD (by unfold O.Zgf;omega))))
theorem sgnI_of {n v:Int} (h:(n>0/\v=1)\/(n<0/\v = -1)\/(n=0/\v=0)):v=O.sgnI n:=by
 unfold O.sgnI
 split
 ·omega
 ·split <;> omega
theorem ev37 (ax ay bx by_ x y:Int) (h:O.cb6 ax ay bx by_ x y):Ev M1 (.pure 37 [.agg [.int .i64 ax,.int .i64 ay],.agg [.int .i64 bx,.int .i64 by_],.int .i64 x,.int .i64 y]) (.int .i64 (O.sgnI (O.sdN ax ay bx by_ x y))) []:=by
 unfold O.cb6 O.cb4 O.cb at h
 have h1:=mul_bd (a:=bx-ax) (b:=y-ay) (by unfold O.nb;omega) (by unfold O.nb;omega)
 have h2:=mul_bd (a:=by_-ay) (b:=x-ax) (by unfold O.nb;omega) (by unfold O.nb;omega)
 refine call37 (qSide _ _ _ _ _ _ _ ⟨by omega,by omega,by omega,by omega,by omega,by omega,by omega,fun k => ?_,fun k=>⟨fun j => ?_,fun j => ?_⟩⟩) <;> refine congrArg (AV.int .i64) (sgnI_of ?_) <;> unfold O.sdN <;> omega
theorem ev23 (x y:Int):Ev M1 (.pure 23 [.int .i64 x,.int .i64 y]) (.agg [.int .i64 x,.int .i64 y]) []:=call23 (qAt _ _ _ rfl)
theorem far_loop {f:Bool} {l:List Int} (hn:l.length<=1000) (m:Nat):∀ i:Nat,i+m=l.length->ZdU f l l.length i (Zaf (.bool ((l.drop i).any fun n=>decide (O.fr1 n)))):=by
 induction m with
 | zero =>
  intro i e
  refine qFarA _ _ _ _ _ ⟨fun x=>by omega,fun _ => ?_⟩
  rw [List.drop_eq_nil_of_le (by omega)];rfl
 | succ m ih =>
  intro i e
  have hi:i<l.length:=by omega
  have nx:=ih (i+1) (by omega)
  refine qFarA _ _ _ _ _ ⟨fun x=>⟨by omega,by omega,fun k => ?_,fun k=>⟨by omega,?_⟩⟩,fun x=>by omega⟩
  ·rw [Int.toNat_natCast] at k
   rw [ZaO hi,List.any_cons,show decide (O.fr1 (l.getD i default))=true from decide_eq_true k];rfl
  ·rw [Int.toNat_natCast] at k
   rw [ZaO hi,List.any_cons,show decide (O.fr1 (l.getD i default))=false from decide_eq_false k,Bool.false_or]
   exact nx
theorem ev40 (f:Bool) (l:List Int) (h:l.length<=1000):Ev M1 (.pure 40 [.vec f 1 (l.map (.int .i64))]) (.bool (l.any fun n=>decide (O.fr1 n))) []:=by
 have:=far_loop (f:=f) h l.length 0 (by omega)
 exact call40 (qFar _ _ _ this)
theorem any_cons {p:Prop} [Decidable p] {l:List Int} {a:Int} (h:p ↔ O.fr1 a\/(l.any fun n=>decide (O.fr1 n))=true):decide p=(a::l).any fun n=>decide (O.fr1 n):=by
 rw [List.any_cons,Bool.eq_iff_iff,decide_eq_true_iff,h,Bool.or_eq_true,decide_eq_true_iff]
namespace O
def fr4 (a b c d:Int):Prop:=fr1 a\/fr1 b\/fr1 c\/fr1 d
def fr7 (a b c d e f g:Int):Prop:=fr4 a b c d\/fr1 e\/fr1 f\/fr1 g
def fr8 (a b c d e f g h:Int):Prop:=fr4 a b c d\/fr4 e f g h
end O
instance (a b c d:Int):Decidable (O.fr4 a b c d):=by unfold O.fr4;infer_instance
instance (a b c d e f g:Int):Decidable (O.fr7 a b c d e f g):=by unfold O.fr7;infer_instance
instance (a b c d e f g h:Int):Decidable (O.fr8 a b c d e f g h):=by unfold O.fr8;infer_instance
theorem ev40_d (v:Bool) (a b c d:Int):Ev M1 (.pure 40 [.vec v 1 [.int .i64 a,.int .i64 b,.int .i64 c,.int .i64 d]]) (.bool (decide (O.fr4 a b c d))) []:=by
 have h:=ev40 v [a,b,c,d] (by simp)
 rw [<- any_cons (p:=O.fr4 a b c d) (by simp [O.fr4])] at h
 exact h
end Go.Av

namespace Go.Av
open Go.Proofs
set_option maxRecDepth 100000
def fi16:Fi:=⟨41,[.tmp 2]⟩
def kp16:List (Nat × List Nat):=[(0,[0]),(1,[0,3]),(2,[0,3,4]),(3,[0,3,4,8]),(4,[0,3,4]),(5,[0,3,4]),(6,[2])]
def fi18:Fi:=⟨24,[.tmp 2]⟩
def kp18:List (Nat × List Nat):=[(0,[0]),(1,[0,3]),(2,[0,3,4]),(3,[0,3,4,8]),(4,[0,3,4]),(5,[0,3,4]),(6,[2])]
def fi33:Fi:=⟨10,[.cell 4 68]⟩
def kp33:List (Nat × List Nat):=[(0,[2,3,4]),(1,[2,3,4,7]),(2,[4]),(3,[4])]
def fi34:Fi:=⟨10,[.cell 4 68]⟩
def kp34:List (Nat × List Nat):=[(0,[2,3,4]),(1,[2,3,4,7]),(2,[4]),(3,[4])]
def qLater_at (a b c d:Int) (Q:AV->Heap->Prop):Prop:=Wp M1 (.run fi33 (atC (cd Try.f33) []) [(0,.agg [.int .i64 a,.int .i64 b]),(1,.agg [.int .i64 c,.int .i64 d])] []) Q
def qEarl_at (a b c d:Int) (Q:AV->Heap->Prop):Prop:=Wp M1 (.run fi34 (atC (cd Try.f34) []) [(0,.agg [.int .i64 a,.int .i64 b]),(1,.agg [.int .i64 c,.int .i64 d])] []) Q
def qLen_at (f:Bool) (l:List Gp) (Q:AV->Heap->Prop):Prop:=Wp M1 (.run fi18 (atC (cd Try.f18) []) [(0,.vec f 2 (l.map Gp.a))] []) Q
def ZdQ (f:Bool) (l:List Gp) (s i:Int) (Q:AV->Heap->Prop):Prop:=Wp M1 (.run fi18 (atC (cd Try.f18) [1,1,0,1,0,0]) [(0,.vec f 2 (l.map Gp.a)),(3,.int .i64 s),(4,.int .i64 i)] []) Q
def qLenR_at (f:Bool) (l:List Gp) (Q:AV->Heap->Prop):Prop:=Wp M1 (.run fi16 (atC (cd Try.f16) []) [(0,.vec f 2 (l.map Gp.a))] []) Q
def ZcZ (f:Bool) (l:List Gp) (s i:Int) (Q:AV->Heap->Prop):Prop:=Wp M1 (.run fi16 (atC (cd Try.f16) [1,1,0,1,0,0]) [(0,.vec f 2 (l.map Gp.a)),(3,.int .i64 s),(4,.int .i64 i)] []) Q
theorem call16 {args:List AV} {d:AV} (h:wc M1 fi16 Try.f16 args d):Ev M1 (.pure 16 args) d []:=pcl _ _ (by kernel_rfl) h
theorem call18 {args:List AV} {d:AV} (h:wc M1 fi18 Try.f18 args d):Ev M1 (.pure 18 args) d []:=pcl _ _ (by kernel_rfl) h
theorem call33 {args:List AV} {d:AV} (h:wc M1 fi33 Try.f33 args d):Ev M1 (.pure 33 args) d []:=pcl _ _ (by kernel_rfl) h
theorem call34 {args:List AV} {d:AV} (h:wc M1 fi34 Try.f34 args d):Ev M1 (.pure 34 args) d []:=pcl _ _ (by kernel_rfl) h
theorem qLater (a b c d:Int)  (dq:AV) (H :
  (O.nb4 a b c d) /\
  ((O.less { num:=a,den:=b } { num:=c,den:=d } = true)->ag [vi c,vi d]=dq) /\
  (¬(O.less { num:=a,den:=b } { num:=c,den:=d } = true)->ag [vi a,vi b]=dq)) :
 qLater_at a b c d (Zaf dq):=by
 unfold qLater_at
 obtain ⟨k1,H⟩:=H
 refine Zac (G:=Zad kp33 [(1,2,.call (vb (O.less { num:=a,den:=b } { num:=c,den:=d })) none)] []) 5 [] ⟨(atC (cd Try.f33) [1,0,1]),[(2,AV.ptr 0 0 0 0),(3,AV.ptr 1 0 0 0),(4,AV.ptr 2 0 0 0),(7,vb (O.less { num:=a,den:=b } { num:=c,den:=d }))],[⟨[ag [vi a,vi b]],2,0,false,false⟩,⟨[ag [vi c,vi d]],2,0,false,false⟩,⟨[ag [vi 0,vi 0]],2,0,false,false⟩],_,[],_⟩ (by kernel_rfl) (bc rfl (bc rfl b0)) q0 (ce (@ev35 a b c d k1) c0) ?_
 rcases xq H with ⟨d3,H⟩|⟨d3,H⟩
 ·exact Zah (G:=Zad kp33 [] []) 1000 [true] (asm:=[(O.less { num:=a,den:=b } { num:=c,den:=d })==true,true,true]) (ag [vi c,vi d]) (by kernel_rfl) (bc (Zal ((ZaD _).2 d3)) (bc rfl (bc rfl b0))) q0 c0 H
 ·exact Zah (G:=Zad kp33 [] []) 1000 [false] (asm:=[(O.less { num:=a,den:=b } { num:=c,den:=d })==false,true,true]) (ag [vi a,vi b]) (by kernel_rfl) (bc (Zak (fun h=>d3 ((ZaD _).1 h))) (bc rfl (bc rfl b0))) q0 c0 H
theorem qEarl (a b c d:Int)  (dq:AV) (H :
  (O.nb4 c d a b) /\
  ((O.less { num:=c,den:=d } { num:=a,den:=b } = true)->ag [vi c,vi d]=dq) /\
  (¬(O.less { num:=c,den:=d } { num:=a,den:=b } = true)->ag [vi a,vi b]=dq)) :
 qEarl_at a b c d (Zaf dq):=by
 unfold qEarl_at
 obtain ⟨k1,H⟩:=H
 refine Zac (G:=Zad kp34 [(1,2,.call (vb (O.less { num:=c,den:=d } { num:=a,den:=b })) none)] []) 5 [] ⟨(atC (cd Try.f34) [1,0,1]),[(2,AV.ptr 0 0 0 0),(3,AV.ptr 1 0 0 0),(4,AV.ptr 2 0 0 0),(7,vb (O.less { num:=c,den:=d } { num:=a,den:=b }))],[⟨[ag [vi a,vi b]],2,0,false,false⟩,⟨[ag [vi c,vi d]],2,0,false,false⟩,⟨[ag [vi 0,vi 0]],2,0,false,false⟩],_,[],_⟩ (by kernel_rfl) (bc rfl (bc rfl b0)) q0 (ce (@ev35 c d a b k1) c0) ?_
 rcases xq H with ⟨d3,H⟩|⟨d3,H⟩
 ·exact Zah (G:=Zad kp34 [] []) 1000 [true] (asm:=[(O.less { num:=c,den:=d } { num:=a,den:=b })==true,true,true]) (ag [vi c,vi d]) (by kernel_rfl) (bc (Zal ((ZaD _).2 d3)) (bc rfl (bc rfl b0))) q0 c0 H
 ·exact Zah (G:=Zad kp34 [] []) 1000 [false] (asm:=[(O.less { num:=c,den:=d } { num:=a,den:=b })==false,true,true]) (ag [vi a,vi b]) (by kernel_rfl) (bc (Zak (fun h=>d3 ((ZaD _).1 h))) (bc rfl (bc rfl b0))) q0 c0 H
theorem qLen (f:Bool) (l:List Gp)  (dq:AV) (H :
  ZdQ f l 0 1 (Zaf dq)) :
 qLen_at f l (Zaf dq):=by
 unfold qLen_at
 exact Zac (G:=Zad kp18 [] []) 1000 [] ⟨(atC (cd Try.f18) [1,1,0,1,0,0]),[(0,AV.vec f 2 (List.map Gp.a l)),(3,vi 0),(4,vi 1)],[],_,[],_⟩ (by kernel_rfl) b0 q0 c0 H
theorem qLenA (f:Bool) (l:List Gp) (s i:Int)  (dq:AV) (H :
  ((i<(↑l.length:Int))->(-9223372036854775808<=i-1/\i-1<=9223372036854775807) /\
   (O.cb4 (l.getD (i-1).toNat default).x (l.getD (i-1).toNat default).y (l.getD i.toNat default).x (l.getD i.toNat default).y) /\
   (0<=i-1) /\
   ((i-1).toNat<l.length) /\
   (0<=i) /\
   (i.toNat<l.length) /\
   (-9223372036854775808<=s+O.gap { x:=(l.getD (i-1).toNat default).x,y:=(l.getD (i-1).toNat default).y } { x:=(l.getD i.toNat default).x,y:=(l.getD i.toNat default).y } /\ s+O.gap { x:=(l.getD (i-1).toNat default).x,y:=(l.getD (i-1).toNat default).y } { x:=(l.getD i.toNat default).x,y:=(l.getD i.toNat default).y } <= 9223372036854775807) /\
   (-9223372036854775808<=i+1/\i+1<=9223372036854775807) /\
   ZdQ f l (s+O.gap { x:=(l.getD (i-1).toNat default).x,y:=(l.getD (i-1).toNat default).y } { x:=(l.getD i.toNat default).x,y:=(l.getD i.toNat default).y }) (i+1) (Zaf dq)) /\
  (¬(i<(↑l.length:Int))->vi s=dq)) :
 ZdQ f l s i (Zaf dq):=by
 unfold ZdQ
 have w1:(List.map Gp.a l).length=l.length:=List.length_map ..
 have i2:(decide (i<(↑(List.map Gp.a l).length:Int)))=true ↔ (i<(↑l.length:Int)):=(by (try rw [w1]);all_goals exact Zab)
 rcases xq H with ⟨d3,H⟩|⟨d3,H⟩
 ·obtain ⟨k4,H⟩:=H
  have w5:wi (i-1)=i-1:=wI64 k4
  obtain ⟨k6,H⟩:=H
  have i7:(decide (0<=wi (i-1)))=true ↔ (0<=i-1):=(by (try rw [w5]);all_goals exact Zab)
  obtain ⟨k8,H⟩:=H
  have i9:(decide ((wi (i-1)).toNat<(List.map Gp.a l).length))=true ↔ ((i-1).toNat<l.length):=(by (try rw [w1]);(try rw [w5]);all_goals exact Zab)
  obtain ⟨k10,k12,H⟩:=H
  have i13:(decide (i.toNat<(List.map Gp.a l).length))=true ↔ (i.toNat<l.length):=(by (try rw [w1]);all_goals exact Zab)
  obtain ⟨k14,k15,H⟩:=H
  have w16:wi (s+O.gap { x:=(l.getD (i-1).toNat default).x,y:=(l.getD (i-1).toNat default).y } { x:=(l.getD i.toNat default).x,y:=(l.getD i.toNat default).y })=s+O.gap { x:=(l.getD (i-1).toNat default).x,y:=(l.getD (i-1).toNat default).y } { x:=(l.getD i.toNat default).x,y:=(l.getD i.toNat default).y }:=wI64 k15
  obtain ⟨k17,H⟩:=H
  have w18:wi (i+1)=i+1:=wI64 k17
  exact Zac (G:=Zad kp18 [(5,5,.elem (ag [vi (l.getD (i-1).toNat default).x,vi (l.getD (i-1).toNat default).y])),(5,9,.elem (ag [vi (l.getD i.toNat default).x,vi (l.getD i.toNat default).y])),(5,10,.call (vi (O.gap { x:=(l.getD (i-1).toNat default).x,y:=(l.getD (i-1).toNat default).y } { x:=(l.getD i.toNat default).x,y:=(l.getD i.toNat default).y })) none)] []) 1000 [true] ⟨(atC (cd Try.f18) [1,1,0,1,0,0]),[(0,AV.vec f 2 (List.map Gp.a l)),(3,vi (wi (s+O.gap { x:=(l.getD (i-1).toNat default).x,y:=(l.getD (i-1).toNat default).y } { x:=(l.getD i.toNat default).x,y:=(l.getD i.toNat default).y }))),(4,vi (wi (i+1)))],[],_,[((List.map Gp.a l).get?Internal (wi (i-1)).toNat=some (ag [vi (l.getD (i-1).toNat default).x,vi (l.getD (i-1).toNat default).y])),((List.map Gp.a l).get?Internal i.toNat=some (ag [vi (l.getD i.toNat default).x,vi (l.getD i.toNat default).y]))],_⟩ (by kernel_rfl) (bc (Zal (i2.2 d3)) (bc (i7.2 k8) (bc (i9.2 k10) (bc (Zab.2 k12) (bc (i13.2 k14) b0))))) (qc (by (try rw [w5]);all_goals exact (Zai k10)) (qc (Zai k14) q0)) (ce (@ev47 ((l.getD (i-1).toNat default).x) ((l.getD (i-1).toNat default).y) ((l.getD i.toNat default).x) ((l.getD i.toNat default).y) k6) c0) (by (try rw [w16]);(try rw [w18]);all_goals exact H)
 ·exact Zah (G:=Zad kp18 [] []) 1000 [false] (vi s) (by kernel_rfl) (bc (Zak (fun h=>d3 (i2.1 h))) b0) q0 c0 H
theorem qLenR (f:Bool) (l:List Gp)  (dq:AV) (H :
  ZcZ f l 0 1 (Zaf dq)) :
 qLenR_at f l (Zaf dq):=by
 unfold qLenR_at
 exact Zac (G:=Zad kp16 [] []) 1000 [] ⟨(atC (cd Try.f16) [1,1,0,1,0,0]),[(0,AV.vec f 2 (List.map Gp.a l)),(3,vi 0),(4,vi 1)],[],_,[],_⟩ (by kernel_rfl) b0 q0 c0 H
noncomputable abbrev zNqB1 (l:List Gp) (i:Int):=ag [vi (l.getD (i-1).toNat default).x,vi (l.getD (i-1).toNat default).y]
noncomputable abbrev zNqB2 (l:List Gp) (i:Int):=ag [vi (l.getD i.toNat default).x,vi (l.getD i.toNat default).y]
theorem qLenRA (f:Bool) (l:List Gp) (s i:Int)  (dq:AV) (H :
  ((i<(↑l.length:Int))->(-9223372036854775808<=i-1/\i-1<=9223372036854775807) /\
   (-9223372036854775808<=(l.getD i.toNat default).x-(l.getD (i-1).toNat default).x/\(l.getD i.toNat default).x-(l.getD (i-1).toNat default).x<=9223372036854775807) /\
   (O.nb ((l.getD i.toNat default).x-(l.getD (i-1).toNat default).x)) /\
   (-9223372036854775808<=(l.getD i.toNat default).y-(l.getD (i-1).toNat default).y/\(l.getD i.toNat default).y-(l.getD (i-1).toNat default).y<=9223372036854775807) /\
   (O.nb ((l.getD i.toNat default).y-(l.getD (i-1).toNat default).y)) /\
   (0<=i) /\
   (i.toNat<l.length) /\
   (0<=i-1) /\
   ((i-1).toNat<l.length) /\
   (-9223372036854775808<=(s+if O.abs ((l.getD i.toNat default).y-(l.getD (i-1).toNat default).y)>O.abs ((l.getD i.toNat default).x-(l.getD (i-1).toNat default).x) then O.abs ((l.getD i.toNat default).y-(l.getD (i-1).toNat default).y) else O.abs ((l.getD i.toNat default).x-(l.getD (i-1).toNat default).x))/\(s+if O.abs ((l.getD i.toNat default).y-(l.getD (i-1).toNat default).y)>O.abs ((l.getD i.toNat default).x-(l.getD (i-1).toNat default).x) then O.abs ((l.getD i.toNat default).y-(l.getD (i-1).toNat default).y) else O.abs ((l.getD i.toNat default).x-(l.getD (i-1).toNat default).x))<=9223372036854775807) /\
   (-9223372036854775808<=i+1/\i+1<=9223372036854775807) /\
   ZcZ f l (s+if O.abs ((l.getD i.toNat default).y-(l.getD (i-1).toNat default).y)>O.abs ((l.getD i.toNat default).x-(l.getD (i-1).toNat default).x) then O.abs ((l.getD i.toNat default).y-(l.getD (i-1).toNat default).y) else O.abs ((l.getD i.toNat default).x-(l.getD (i-1).toNat default).x)) (i+1) (Zaf dq)) /\
  (¬(i<(↑l.length:Int))->vi s=dq)) :
 ZcZ f l s i (Zaf dq):=by
 unfold ZcZ
 have w1:(List.map Gp.a l).length=l.length:=List.length_map ..
 have i2:(decide (i<(↑(List.map Gp.a l).length:Int)))=true ↔ (i<(↑l.length:Int)):=(by (try rw [w1]);all_goals exact Zab)
 rcases xq H with ⟨d3,H⟩|⟨d3,H⟩
 ·obtain ⟨k4,H⟩:=H
  have w5:wi (i-1)=i-1:=wI64 k4
  obtain ⟨k6,H⟩:=H
  have w7:wi ((l.getD i.toNat default).x-(l.getD (i-1).toNat default).x)=(l.getD i.toNat default).x-(l.getD (i-1).toNat default).x:=wI64 k6
  obtain ⟨k8,k9,H⟩:=H
  have w10:wi ((l.getD i.toNat default).y-(l.getD (i-1).toNat default).y)=(l.getD i.toNat default).y-(l.getD (i-1).toNat default).y:=wI64 k9
  obtain ⟨k11,k13,H⟩:=H
  have i14:(decide (i.toNat<(List.map Gp.a l).length))=true ↔ (i.toNat<l.length):=(by (try rw [w1]);all_goals exact Zab)
  obtain ⟨k15,H⟩:=H
  have i16:(decide (0<=wi (i-1)))=true ↔ (0<=i-1):=(by (try rw [w5]);all_goals exact Zab)
  obtain ⟨k17,H⟩:=H
  have i18:(decide ((wi (i-1)).toNat<(List.map Gp.a l).length))=true ↔ ((i-1).toNat<l.length):=(by (try rw [w1]);(try rw [w5]);all_goals exact Zab)
  obtain ⟨k19,H⟩:=H
  have i21:(decide (i.toNat<(List.map Gp.a l).length))=true ↔ (i.toNat<l.length):=(by (try rw [w1]);all_goals exact Zab)
  have i22:(decide (0<=wi (i-1)))=true ↔ (0<=i-1):=(by (try rw [w5]);all_goals exact Zab)
  have i23:(decide ((wi (i-1)).toNat<(List.map Gp.a l).length))=true ↔ ((i-1).toNat<l.length):=(by (try rw [w1]);(try rw [w5]);all_goals exact Zab)
  obtain ⟨k24,H⟩:=H
  have w25:wi (s+if O.abs ((l.getD i.toNat default).y-(l.getD (i-1).toNat default).y)>O.abs ((l.getD i.toNat default).x-(l.getD (i-1).toNat default).x) then O.abs ((l.getD i.toNat default).y-(l.getD (i-1).toNat default).y) else O.abs ((l.getD i.toNat default).x-(l.getD (i-1).toNat default).x))=s+if O.abs ((l.getD i.toNat default).y-(l.getD (i-1).toNat default).y)>O.abs ((l.getD i.toNat default).x-(l.getD (i-1).toNat default).x) then O.abs ((l.getD i.toNat default).y-(l.getD (i-1).toNat default).y) else O.abs ((l.getD i.toNat default).x-(l.getD (i-1).toNat default).x):=wI64 k24
  obtain ⟨k26,H⟩:=H
  have w27:wi (i+1)=i+1:=wI64 k26
  exact Zac (G:=Zad kp16 [(5,5,.elem (zNqB2 l i)),(5,11,.elem (zNqB1 l i)),(5,13,.call (vi (O.abs ((l.getD i.toNat default).x-(l.getD (i-1).toNat default).x))) none),(5,18,.elem (zNqB2 l i)),(5,24,.elem (zNqB1 l i)),(5,26,.call (vi (O.abs ((l.getD i.toNat default).y-(l.getD (i-1).toNat default).y))) none)] []) 1000 [true] ⟨(atC (cd Try.f16) [1,1,0,1,0,0]),[(0,AV.vec f 2 (List.map Gp.a l)),(3,vi (wi (s+if O.abs ((l.getD i.toNat default).y-(l.getD (i-1).toNat default).y)>O.abs ((l.getD i.toNat default).x-(l.getD (i-1).toNat default).x) then O.abs ((l.getD i.toNat default).y-(l.getD (i-1).toNat default).y) else O.abs ((l.getD i.toNat default).x-(l.getD (i-1).toNat default).x)))),(4,vi (wi (i+1)))],[],_,[((List.map Gp.a l).get?Internal i.toNat=some (zNqB2 l i)),((List.map Gp.a l).get?Internal (wi (i-1)).toNat=some (zNqB1 l i)),((List.map Gp.a l).get?Internal i.toNat=some (zNqB2 l i)),((List.map Gp.a l).get?Internal (wi (i-1)).toNat=some (zNqB1 l i))],[pc 46 [vi (wi ((l.getD i.toNat default).x-(l.getD (i-1).toNat default).x))] (vi (O.abs ((l.getD i.toNat default).x-(l.getD (i-1).toNat default).x))),pc 46 [vi (wi ((l.getD i.toNat default).y-(l.getD (i-1).toNat default).y))] (vi (O.abs ((l.getD i.toNat default).y-(l.getD (i-1).toNat default).y)))]⟩ (by kernel_rfl) (bc (Zal (i2.2 d3)) (bc (Zab.2 k13) (bc (i14.2 k15) (bc (i16.2 k17) (bc (i18.2 k19) (bc (Zab.2 k13) (bc (i21.2 k15) (bc (i22.2 k17) (bc (i23.2 k19) b0))))))))) (qc (Zai k15) (qc (by (try rw [w5]);all_goals exact (Zai k19)) (qc (Zai k15) (qc (by (try rw [w5]);all_goals exact (Zai k19)) q0)))) (ce (by (try rw [w7]);all_goals exact (@ev46 ((l.getD i.toNat default).x-(l.getD (i-1).toNat default).x) k8)) (ce (by (try rw [w10]);all_goals exact (@ev46 ((l.getD i.toNat default).y-(l.getD (i-1).toNat default).y) k11)) c0)) (by (try rw [w25]);(try rw [w27]);all_goals exact H)
 ·exact Zah (G:=Zad kp16 [] []) 1000 [false] (vi s) (by kernel_rfl) (bc (Zak (fun h=>d3 (i2.1 h))) b0) q0 c0 H
end Go.Av

namespace Go.Av
open Go.Proofs
theorem ev33 (a b c d:Int) (h:O.nb4 a b c d):Ev M1 (.pure 33 [.agg [.int .i64 a,.int .i64 b],.agg [.int .i64 c,.int .i64 d]]) (.agg [.int .i64 (O.Zby ⟨a,b⟩ ⟨c,d⟩).num,.int .i64 (O.Zby ⟨a,b⟩ ⟨c,d⟩).den]) []:=by
 refine call33 (qLater _ _ _ _ _ ⟨h,fun k => ?_,fun k => ?_⟩)
 ·unfold O.Zby;rw [k];rfl
 ·unfold O.Zby;rw [show O.less ⟨a,b⟩ ⟨c,d⟩=false by simpa using k];rfl
theorem ev34 (a b c d:Int) (h:O.nb4 a b c d):Ev M1 (.pure 34 [.agg [.int .i64 a,.int .i64 b],.agg [.int .i64 c,.int .i64 d]]) (.agg [.int .i64 (O.ZaG ⟨a,b⟩ ⟨c,d⟩).num,.int .i64 (O.ZaG ⟨a,b⟩ ⟨c,d⟩).den]) []:=by
 refine call34 (qEarl _ _ _ _ _ ⟨⟨h.2.2.1,h.2.2.2,h.1,h.2.1⟩,fun k => ?_,fun k => ?_⟩)
 ·unfold O.ZaG;rw [k];rfl
 ·unfold O.ZaG;rw [show O.less ⟨c,d⟩ ⟨a,b⟩=false by simpa using k];rfl
namespace O
def cbp (p:Gp):Prop:=cb p.x/\cb p.y
def okG (l:List Gp):Prop:=l.length<=1000 /\ ∀ p ∈ l,cbp p
end O
theorem gap_bd {p q:Gp} (h:O.cbp p) (k:O.cbp q):O.gap p q<=100000000:=by
 unfold O.cbp O.cb at h k;unfold O.gap;omega
theorem plen_drop {l:List Gp} {k:Nat} (h:k+1<l.length):O.ZaY (l.drop k)=O.gap (l.getD k default) (l.getD (k+1) default)+O.ZaY (l.drop (k+1)):=by
 rw [ZaO (by omega:k<l.length),ZaO h];rfl
theorem ZeX {l:List Gp} {k:Nat} (h:¬k+1<l.length):O.ZaY (l.drop k)=0:=by
 by_cases e:k<l.length
 ·rw [ZaO e,List.drop_eq_nil_of_le (by omega)];rfl
 ·rw [List.drop_eq_nil_of_le (by omega)];rfl
theorem len_loop {f:Bool} {l:List Gp} (h:O.okG l) (m:Nat):∀ (k:Nat) (s:Int),l.length<=k+1+m->0<=s/\s<=k*100000000->ZdQ f l s ((k:Int)+1) (Zaf (.int .i64 (s+O.ZaY (l.drop k)))):=by
 have hn:=h.1
 induction m with
 | zero =>
  intro k s e hs
  refine qLenA _ _ _ _ _ ⟨fun x=>by omega,fun _ => ?_⟩
  rw [ZeX (by omega),Int.add_zero]
 | succ m ih =>
  intro k s e hs
  by_cases hk:k+1<l.length
  ·have hp:=h.2 _ (Zay (d:=l) (i:=k) (by omega))
   have hq:=h.2 _ (Zay (d:=l) (i:=k+1) hk)
   have g1:=gap_bd hp hq
   have g0:=Zc5 (l.getD k default) (l.getD (k+1) default)
   have nx:=ih (k+1) (s+O.gap (l.getD k default) (l.getD (k+1) default)) (by omega) (by omega)
   refine qLenA _ _ _ _ _ ⟨fun x => ?_,fun x=>by omega⟩
   rw [show (k:Int)+1-1=(k:Nat) by omega,show (k:Int)+1=((k+1:Nat):Int) by omega,Int.toNat_natCast,Int.toNat_natCast,plen_drop hk,<- Int.add_assoc]
   have b1:-9223372036854775808<=s+O.gap (l.getD k default) (l.getD (k+1) default)/\s+O.gap (l.getD k default) (l.getD (k+1) default)<=9223372036854775807:=by omega
   exact ⟨by omega,⟨hp.1,hp.2,hq.1,hq.2⟩,by omega,by omega,by omega,by omega,b1,by omega,nx⟩
  ·refine qLenA _ _ _ _ _ ⟨fun x=>by omega,fun _ => ?_⟩
   rw [ZeX hk,Int.add_zero]
theorem ev18 (f:Bool) (l:List Gp) (h:O.okG l):Ev M1 (.pure 18 [.vec f 2 (l.map Gp.a)]) (.int .i64 (O.ZaY l)) []:=by
 have:=len_loop (f:=f) h l.length 0 0 (by omega) (by omega)
 rw [List.drop_zero,Int.zero_add] at this
 exact call18 (qLen _ _ _ this)
theorem gap_abs (p q:Gp):(if O.abs (q.y-p.y)>O.abs (q.x-p.x) then O.abs (q.y-p.y) else O.abs (q.x-p.x))=O.gap p q:=by
 unfold O.abs O.gap
 split <;> split <;> (try split) <;> (try split) <;> omega
theorem rlen_loop {f:Bool} {l:List Gp} (h:O.okG l) (m:Nat):∀ (k:Nat) (s:Int),l.length<=k+1+m->0<=s/\s<=k*100000000->ZcZ f l s ((k:Int)+1) (Zaf (.int .i64 (s+O.ZaY (l.drop k)))):=by
 have hn:=h.1
 induction m with
 | zero =>
  intro k s e hs
  refine qLenRA _ _ _ _ _ ⟨fun x=>by omega,fun _ => ?_⟩
  rw [ZeX (by omega),Int.add_zero]
 | succ m ih =>
  intro k s e hs
  by_cases hk:k+1<l.length
  ·have hp:=h.2 _ (Zay (d:=l) (i:=k) (by omega))
   have hq:=h.2 _ (Zay (d:=l) (i:=k+1) hk)
   have g1:=gap_bd hp hq
   have g0:=Zc5 (l.getD k default) (l.getD (k+1) default)
   have nx:=ih (k+1) (s+O.gap (l.getD k default) (l.getD (k+1) default)) (by omega) (by omega)
   refine qLenRA _ _ _ _ _ ⟨fun x => ?_,fun x=>by omega⟩
   rw [show (k:Int)+1-1=(k:Nat) by omega,show (k:Int)+1=((k+1:Nat):Int) by omega,Int.toNat_natCast,Int.toNat_natCast,gap_abs,plen_drop hk,<- Int.add_assoc]
   have hp':=hp
   have hq':=hq
   unfold O.cbp O.cb at hp' hq'
   exact ⟨by omega,by omega,by unfold O.nb;omega,by omega,by unfold O.nb;omega,by omega,by omega,by omega,by omega,by omega,by omega,nx⟩
  ·refine qLenRA _ _ _ _ _ ⟨fun x=>by omega,fun _ => ?_⟩
   rw [ZeX hk,Int.add_zero]
theorem ev16 (f:Bool) (l:List Gp) (h:O.okG l):Ev M1 (.pure 16 [.vec f 2 (l.map Gp.a)]) (.int .i64 (O.ZaY l)) []:=by
 have:=rlen_loop (f:=f) h l.length 0 0 (by omega) (by omega)
 rw [List.drop_zero,Int.zero_add] at this
 exact call16 (qLenR _ _ _ this)
end Go.Av

namespace Go.Av
open Go.Proofs
set_option maxRecDepth 100000
def fi32:Fi:=⟨53,[.tmp 10]⟩
def kp32:List (Nat × List Nat):=[(0,[0,1,2,3,4,5]),(1,[0,1,2,3,4,5,14]),(2,[10]),(3,[0,1,2,3,4,5,11,12]),(4,[0,1,2,3,4,5,11,12,34]),(5,[4,5,11,12]),(6,[]),(7,[10])]
def qOpen_at (at_ w lo hi ln ld hn hd:Int) (Q:AV->Heap->Prop):Prop:=Wp M1 (.run fi32 (atC (cd Try.f32) []) [(0,.int .i64 at_),(1,.int .i64 w),(2,.int .i64 lo),(3,.int .i64 hi),(4,.ptr 0 0 0 0),(5,.ptr 1 0 0 0)] [⟨[.agg [.int .i64 ln,.int .i64 ld]],2,0,false,false⟩,⟨[.agg [.int .i64 hn,.int .i64 hd]],2,0,false,false⟩]) Q
theorem Zeq {args:List AV} {L:Heap} {v:AV} {K:Heap} (hk:ZfG L.length v K=true) (h:Wp M1 (.run fi32 [.code (cd Try.f32)] (ZbA 0 args) L) (Zf8 v K)):Ev M1 (.own 32 args L) v K:=
 own_keep Try.f32 fi32 (by kernel_rfl) (by kernel_rfl) (by kernel_rfl) (by kernel_rfl) hk h
theorem qOpen (at_ w lo hi ln ld hn hd:Int)  (dv:AV) (dK:Heap) (_:ZfG 2 dv dK=true) (H :
  ((w=0)->(Zf8 dv dK) (vb (bif decide (lo<at_) then decide (at_<hi) else false)) [{ elems:=[ag [vi ln,vi ld]],es:=2,ver:=0,frozen:=false,clean:=false },{ elems:=[ag [vi hn,vi hd]],es:=2,ver:=0,frozen:=false,clean:=false }]) /\
  (¬(w=0)->(-9223372036854775808<=lo-at_/\lo-at_<=9223372036854775807) /\
   (-9223372036854775808<=hi-at_/\hi-at_<=9223372036854775807) /\
   ((w<0)->(-9223372036854775808<=at_-hi/\at_-hi<=9223372036854775807) /\
    (-9223372036854775808<=0-w/\0-w<=9223372036854775807) /\
    (-9223372036854775808<=at_-lo/\at_-lo<=9223372036854775807) /\
    (O.nb4 ln ld (at_-hi) (0-w)) /\
    (O.nb4 hn hd (at_-lo) (0-w)) /\
    (Zf8 dv dK) (vb true) [{ elems:=[ag [vi (O.Zby { num:=ln,den:=ld } { num:=at_-hi,den:=0-w }).num,vi (O.Zby { num:=ln,den:=ld } { num:=at_-hi,den:=0-w }).den]],es:=2,ver:=0,frozen:=false,clean:=false },{ elems:=[ag [vi (O.ZaG { num:=hn,den:=hd } { num:=at_-lo,den:=0-w }).num,vi (O.ZaG { num:=hn,den:=hd } { num:=at_-lo,den:=0-w }).den]],es:=2,ver:=0,frozen:=false,clean:=false },{ elems:=[ag [vi (at_-hi),vi (0-w)]],es:=2,ver:=0,frozen:=false,clean:=false },{ elems:=[ag [vi (at_-lo),vi (0-w)]],es:=2,ver:=0,frozen:=false,clean:=false }]) /\
   (¬(w<0)->(O.nb4 ln ld (lo-at_) w) /\
    (O.nb4 hn hd (hi-at_) w) /\
    (Zf8 dv dK) (vb true) [{ elems:=[ag [vi (O.Zby { num:=ln,den:=ld } { num:=lo-at_,den:=w }).num,vi (O.Zby { num:=ln,den:=ld } { num:=lo-at_,den:=w }).den]],es:=2,ver:=0,frozen:=false,clean:=false },{ elems:=[ag [vi (O.ZaG { num:=hn,den:=hd } { num:=hi-at_,den:=w }).num,vi (O.ZaG { num:=hn,den:=hd } { num:=hi-at_,den:=w }).den]],es:=2,ver:=0,frozen:=false,clean:=false },{ elems:=[ag [vi (lo-at_),vi w]],es:=2,ver:=0,frozen:=false,clean:=false },{ elems:=[ag [vi (hi-at_),vi w]],es:=2,ver:=0,frozen:=false,clean:=false }]))) :
 qOpen_at at_ w lo hi ln ld hn hd (Zf8 dv dK):=by
 unfold qOpen_at
 rcases xq H with ⟨d2,H⟩|⟨d2,H⟩
 ·exact Zbn (G:=Zad kp32 [] []) 1000 [true] (k:=((atC (cd Try.f32) [1,0,1,0,1])).tail) (env':=[(10,vb (bif decide (lo<at_) then decide (at_<hi) else false))]) (L':=[⟨[ag [vi ln,vi ld]],2,0,false,false⟩,⟨[ag [vi hn,vi hd]],2,0,false,false⟩]) (asm:=[(w==0)==true]) (eqs:=[]) (calls:=[]) (vb (bif decide (lo<at_) then decide (at_<hi) else false)) (by kernel_rfl) (by kernel_rfl) (Zae (Zal (i_eq.2 d2)) Zaw) ZaK ZaL H
 ·obtain ⟨k3,H⟩:=H
  have w4:wi (lo-at_)=lo-at_:=wI64 k3
  obtain ⟨k5,H⟩:=H
  have w6:wi (hi-at_)=hi-at_:=wI64 k5
  rcases xq H with ⟨d8,H⟩|⟨d8,H⟩
  ·obtain ⟨k9,H⟩:=H
   have w10:wi (at_-hi)=at_-hi:=wI64 k9
   obtain ⟨k11,H⟩:=H
   have w12:wi (0-w)=0-w:=wI64 k11
   obtain ⟨k13,H⟩:=H
   have w14:wi (at_-lo)=at_-lo:=wI64 k13
   obtain ⟨k15,k16,H⟩:=H
   exact Zbn (G:=Zad kp32 [(6,2,.call (ag [vi (O.Zby { num:=ln,den:=ld } { num:=at_-hi,den:=0-w }).num,vi (O.Zby { num:=ln,den:=ld } { num:=at_-hi,den:=0-w }).den]) none),(6,5,.call (ag [vi (O.ZaG { num:=hn,den:=hd } { num:=at_-lo,den:=0-w }).num,vi (O.ZaG { num:=hn,den:=hd } { num:=at_-lo,den:=0-w }).den]) none)] []) 1000 [false,true] (k:=((atC (cd Try.f32) [1,1,1,1,1,1])).tail) (env':=[(10,vb true)]) (L':=[⟨[ag [vi (O.Zby { num:=ln,den:=ld } { num:=at_-hi,den:=0-w }).num,vi (O.Zby { num:=ln,den:=ld } { num:=at_-hi,den:=0-w }).den]],2,0,false,false⟩,⟨[ag [vi (O.ZaG { num:=hn,den:=hd } { num:=at_-lo,den:=0-w }).num,vi (O.ZaG { num:=hn,den:=hd } { num:=at_-lo,den:=0-w }).den]],2,0,false,false⟩,⟨[ag [vi (wi (at_-hi)),vi (wi (0-w))]],2,0,false,false⟩,⟨[ag [vi (wi (at_-lo)),vi (wi (0-w))]],2,0,false,false⟩]) (asm:=[(w==0)==false,true,true,(decide (w<0))==true,true,true,true,true,true,true,true,true]) (eqs:=[]) (calls:=[⟨true,false,33,[ag [vi ln,vi ld],ag [vi (wi (at_-hi)),vi (wi (0-w))]],[],ag [vi (O.Zby { num:=ln,den:=ld } { num:=at_-hi,den:=0-w }).num,vi (O.Zby { num:=ln,den:=ld } { num:=at_-hi,den:=0-w }).den],[]⟩,⟨true,false,34,[ag [vi hn,vi hd],ag [vi (wi (at_-lo)),vi (wi (0-w))]],[],ag [vi (O.ZaG { num:=hn,den:=hd } { num:=at_-lo,den:=0-w }).num,vi (O.ZaG { num:=hn,den:=hd } { num:=at_-lo,den:=0-w }).den],[]⟩]) (vb true) (by kernel_rfl) (by kernel_rfl) (Zae (Zak (fun h=>d2 (i_eq.1 h))) (Zae rfl (Zae rfl (Zae (Zal (Zab.2 d8)) (Zae rfl (Zae rfl (Zae rfl (Zae rfl (Zae rfl (Zae rfl (Zae rfl (Zae rfl Zaw)))))))))))) ZaK (ZaN (fun _=>(by (try rw [w10]);(try rw [w12]);all_goals exact (@ev33 ln ld (at_-hi) (0-w) k15))) (ZaN (fun _=>(by (try rw [w12]);(try rw [w14]);all_goals exact (@ev34 hn hd (at_-lo) (0-w) k16))) ZaL)) (by (try rw [w10]);(try rw [w12]);(try rw [w14]);all_goals exact H)
  ·obtain ⟨k17,k18,H⟩:=H
   exact Zbn (G:=Zad kp32 [(6,2,.call (ag [vi (O.Zby { num:=ln,den:=ld } { num:=lo-at_,den:=w }).num,vi (O.Zby { num:=ln,den:=ld } { num:=lo-at_,den:=w }).den]) none),(6,5,.call (ag [vi (O.ZaG { num:=hn,den:=hd } { num:=hi-at_,den:=w }).num,vi (O.ZaG { num:=hn,den:=hd } { num:=hi-at_,den:=w }).den]) none)] []) 1000 [false,false] (k:=((atC (cd Try.f32) [1,1,1,1,1,1])).tail) (env':=[(10,vb true)]) (L':=[⟨[ag [vi (O.Zby { num:=ln,den:=ld } { num:=lo-at_,den:=w }).num,vi (O.Zby { num:=ln,den:=ld } { num:=lo-at_,den:=w }).den]],2,0,false,false⟩,⟨[ag [vi (O.ZaG { num:=hn,den:=hd } { num:=hi-at_,den:=w }).num,vi (O.ZaG { num:=hn,den:=hd } { num:=hi-at_,den:=w }).den]],2,0,false,false⟩,⟨[ag [vi (wi (lo-at_)),vi w]],2,0,false,false⟩,⟨[ag [vi (wi (hi-at_)),vi w]],2,0,false,false⟩]) (asm:=[(w==0)==false,true,true,(decide (w<0))==false,true,true,true,true,true,true]) (eqs:=[]) (calls:=[⟨true,false,33,[ag [vi ln,vi ld],ag [vi (wi (lo-at_)),vi w]],[],ag [vi (O.Zby { num:=ln,den:=ld } { num:=lo-at_,den:=w }).num,vi (O.Zby { num:=ln,den:=ld } { num:=lo-at_,den:=w }).den],[]⟩,⟨true,false,34,[ag [vi hn,vi hd],ag [vi (wi (hi-at_)),vi w]],[],ag [vi (O.ZaG { num:=hn,den:=hd } { num:=hi-at_,den:=w }).num,vi (O.ZaG { num:=hn,den:=hd } { num:=hi-at_,den:=w }).den],[]⟩]) (vb true) (by kernel_rfl) (by kernel_rfl) (Zae (Zak (fun h=>d2 (i_eq.1 h))) (Zae rfl (Zae rfl (Zae (Zak (fun h=>d8 (Zab.1 h))) (Zae rfl (Zae rfl (Zae rfl (Zae rfl (Zae rfl (Zae rfl Zaw)))))))))) ZaK (ZaN (fun _=>(by (try rw [w4]);all_goals exact (@ev33 ln ld (lo-at_) w k17))) (ZaN (fun _=>(by (try rw [w6]);all_goals exact (@ev34 hn hd (hi-at_) w k18))) ZaL)) (by (try rw [w4]);(try rw [w6]);all_goals exact H)
end Go.Av

namespace Go.Av
open Go.Proofs
namespace O
def okQo (at_ w lo hi ln ld hn hd:Int):Prop:=cb6 at_ w lo hi 0 0/\nb4 ln ld hn hd
end O
theorem open_c (at_ w lo hi ln ld hn hd:Int) (h:O.okQo at_ w lo hi ln ld hn hd) :
  Ev M1 (.own 32 [.int .i64 at_,.int .i64 w,.int .i64 lo,.int .i64 hi,.ptr 0 0 0 0,.ptr 1 0 0 0] [⟨[.agg [.int .i64 ln,.int .i64 ld]],2,0,false,false⟩,⟨[.agg [.int .i64 hn,.int .i64 hd]],2,0,false,false⟩])
   (.bool (O.Zez at_ w lo hi)) [⟨[.agg [.int .i64 (O.Zau at_ w lo hi ⟨ln,ld⟩).num,.int .i64 (O.Zau at_ w lo hi ⟨ln,ld⟩).den]],2,0,false,false⟩,⟨[.agg [.int .i64 (O.Zav at_ w lo hi ⟨hn,hd⟩).num,.int .i64 (O.Zav at_ w lo hi ⟨hn,hd⟩).den]],2,0,false,false⟩]:=by
 obtain ⟨⟨⟨h1,h2,h3,h4⟩,_⟩,k1,k2,k3,k4⟩:=h
 unfold O.cb at h1 h2 h3 h4
 have N {n:Int} (h:-1000000000<=n/\n<=1000000000):O.nb n:=h
 by_cases k:w=0
 ·have e1:O.Zau at_ w lo hi ⟨ln,ld⟩=⟨ln,ld⟩:=if_pos k
  have e2:O.Zav at_ w lo hi ⟨hn,hd⟩=⟨hn,hd⟩:=if_pos k
  have e3:O.Zez at_ w lo hi=decide (lo<at_/\at_<hi):=if_pos k
  rw [e1,e2,e3]
  refine Zeq rfl (qOpen at_ w lo hi ln ld hn hd _ _ rfl ⟨fun _=>⟨by rw [ZcL],rfl⟩,fun j=>absurd k j⟩)
 ·have e3:O.Zez at_ w lo hi=true:=if_neg k
  by_cases j:w<0
  ·have e1:O.Zau at_ w lo hi ⟨ln,ld⟩=O.Zby ⟨ln,ld⟩ ⟨at_-hi,0-w⟩:=by
    unfold O.Zau O.Zga;rw [if_neg k,if_pos j,Int.zero_sub]
   have e2:O.Zav at_ w lo hi ⟨hn,hd⟩=O.ZaG ⟨hn,hd⟩ ⟨at_-lo,0-w⟩:=by
    unfold O.Zav O.Zcm;rw [if_neg k,if_pos j,Int.zero_sub]
   rw [e1,e2,e3]
   exact Zeq rfl (qOpen at_ w lo hi ln ld hn hd _ _ rfl ⟨fun i=>absurd i k,fun _=>⟨by omega,by omega,fun _=>⟨by omega,by omega,by omega,⟨k1,k2,N (by omega),N (by omega)⟩,⟨k3,k4,N (by omega),N (by omega)⟩,rfl,rfl⟩,fun i=>absurd j i⟩⟩)
  ·have e1:O.Zau at_ w lo hi ⟨ln,ld⟩=O.Zby ⟨ln,ld⟩ ⟨lo-at_,w⟩:=by
    unfold O.Zau O.Zga;rw [if_neg k,if_neg j]
   have e2:O.Zav at_ w lo hi ⟨hn,hd⟩=O.ZaG ⟨hn,hd⟩ ⟨hi-at_,w⟩:=by
    unfold O.Zav O.Zcm;rw [if_neg k,if_neg j]
   rw [e1,e2,e3]
   exact Zeq rfl (qOpen at_ w lo hi ln ld hn hd _ _ rfl ⟨fun i=>absurd i k,fun _=>⟨by omega,by omega,fun i=>absurd i j,fun _=>⟨⟨k1,k2,N (by omega),N (by omega)⟩,⟨k3,k4,N (by omega),N (by omega)⟩,rfl,rfl⟩⟩⟩)
theorem evo32_y (at_ w lo hi ln ld hn hd:Int) (h:O.okQo at_ w lo hi ln ld hn hd) (c:O.Zez at_ w lo hi=true) :
  Ev M1 (.own 32 [.int .i64 at_,.int .i64 w,.int .i64 lo,.int .i64 hi,.ptr 0 0 0 0,.ptr 1 0 0 0] [⟨[.agg [.int .i64 ln,.int .i64 ld]],2,0,false,false⟩,⟨[.agg [.int .i64 hn,.int .i64 hd]],2,0,false,false⟩])
   (.bool true) [⟨[.agg [.int .i64 (O.Zau at_ w lo hi ⟨ln,ld⟩).num,.int .i64 (O.Zau at_ w lo hi ⟨ln,ld⟩).den]],2,0,false,false⟩,⟨[.agg [.int .i64 (O.Zav at_ w lo hi ⟨hn,hd⟩).num,.int .i64 (O.Zav at_ w lo hi ⟨hn,hd⟩).den]],2,0,false,false⟩]:=by
 have h:=open_c at_ w lo hi ln ld hn hd h
 rw [c] at h;exact h
theorem evo32_n (at_ w lo hi ln ld hn hd:Int) (h:O.okQo at_ w lo hi ln ld hn hd) (c:¬O.Zez at_ w lo hi=true) :
  Ev M1 (.own 32 [.int .i64 at_,.int .i64 w,.int .i64 lo,.int .i64 hi,.ptr 0 0 0 0,.ptr 1 0 0 0] [⟨[.agg [.int .i64 ln,.int .i64 ld]],2,0,false,false⟩,⟨[.agg [.int .i64 hn,.int .i64 hd]],2,0,false,false⟩])
   (.bool false) [⟨[.agg [.int .i64 (O.Zau at_ w lo hi ⟨ln,ld⟩).num,.int .i64 (O.Zau at_ w lo hi ⟨ln,ld⟩).den]],2,0,false,false⟩,⟨[.agg [.int .i64 (O.Zav at_ w lo hi ⟨hn,hd⟩).num,.int .i64 (O.Zav at_ w lo hi ⟨hn,hd⟩).den]],2,0,false,false⟩]:=by
 have h:=open_c at_ w lo hi ln ld hn hd h
 rw [show O.Zez at_ w lo hi=false by simpa using c] at h;exact h
end Go.Av

namespace Go.Av
open Go.Proofs
set_option maxRecDepth 100000
def fi9:Fi:=⟨58,[.tmp 6]⟩
def kp9:List (Nat × List Nat):=[(0,[3,4,5]),(1,[3,4,5,21]),(2,[6]),(3,[3,4,5,7,8]),(4,[3,4,5,7,8,9]),(5,[7,8,54]),(6,[6]),(7,[6])]
def fi10:Fi:=⟨122,[.tmp 6]⟩
def kp10:List (Nat × List Nat):=[(0,[3,4,5]),(1,[3,4,5,13]),(2,[6]),(3,[3,4,5,68]),(4,[6]),(5,[7]),(6,[7,8,9]),(7,[7,8,9,10]),(8,[7,8,9,10,99]),(9,[7,8,9,10]),(10,[7,8,9,10]),(11,[6])]
def fi17:Fi:=⟨49,[.tmp 6]⟩
def kp17:List (Nat × List Nat):=[(0,[0,4,5]),(1,[0,5,7]),(2,[0,5,7,8]),(3,[0,5,7,8,15]),(4,[0,5,7,8]),(5,[0,5,7,8,9]),(6,[0,5,7,8]),(7,[6])]
def qEnt_at (x0 y0 x1 y1 tp ax ay bx by_:Int) (Q:AV->Heap->Prop):Prop:=Wp M1 (.run fi9 (atC (cd Try.f9) []) [(0,.agg [.int .i64 x0,.int .i64 y0,.int .i64 x1,.int .i64 y1,.int .i64 tp]),(1,.agg [.int .i64 ax,.int .i64 ay]),(2,.agg [.int .i64 bx,.int .i64 by_])] []) Q
def qEntR_at (x0 y0 x1 y1 tp ax ay bx by_:Int) (Q:AV->Heap->Prop):Prop:=Wp M1 (.run fi10 (atC (cd Try.f10) []) [(0,.agg [.int .i64 x0,.int .i64 y0,.int .i64 x1,.int .i64 y1,.int .i64 tp]),(1,.agg [.int .i64 ax,.int .i64 ay]),(2,.agg [.int .i64 bx,.int .i64 by_])] []) Q
def Zft (a b c d:Int) (l r:Bool) (Q:AV->Heap->Prop):Prop:=Wp M1 (.run fi10 (atC (cd Try.f10) [1,1,1,1,1,0,1,0,0]) [(7,.vec true 1 [.int .i64 a,.int .i64 b,.int .i64 c,.int .i64 d]),(8,.bool l),(9,.bool r),(10,.int .i64 0)] []) Q
def Zfs (a b c d:Int) (l r:Bool) (Q:AV->Heap->Prop):Prop:=Wp M1 (.run fi10 (atC (cd Try.f10) [1,1,1,1,1,0,1,0,0]) [(7,.vec true 1 [.int .i64 a,.int .i64 b,.int .i64 c,.int .i64 d]),(8,.bool l),(9,.bool r),(10,.int .i64 1)] []) Q
def Zfr (a b c d:Int) (l r:Bool) (Q:AV->Heap->Prop):Prop:=Wp M1 (.run fi10 (atC (cd Try.f10) [1,1,1,1,1,0,1,0,0]) [(7,.vec true 1 [.int .i64 a,.int .i64 b,.int .i64 c,.int .i64 d]),(8,.bool l),(9,.bool r),(10,.int .i64 2)] []) Q
def Zfq (a b c d:Int) (l r:Bool) (Q:AV->Heap->Prop):Prop:=Wp M1 (.run fi10 (atC (cd Try.f10) [1,1,1,1,1,0,1,0,0]) [(7,.vec true 1 [.int .i64 a,.int .i64 b,.int .i64 c,.int .i64 d]),(8,.bool l),(9,.bool r),(10,.int .i64 3)] []) Q
def Zfp (a b c d:Int) (l r:Bool) (Q:AV->Heap->Prop):Prop:=Wp M1 (.run fi10 (atC (cd Try.f10) [1,1,1,1,1,0,1,0,0]) [(7,.vec true 1 [.int .i64 a,.int .i64 b,.int .i64 c,.int .i64 d]),(8,.bool l),(9,.bool r),(10,.int .i64 4)] []) Q
def qNod_at (f:Bool) (bs:List Bx) (ax ay bx by_:Int) (Q:AV->Heap->Prop):Prop:=Wp M1 (.run fi17 (atC (cd Try.f17) []) [(0,.vec f 5 (bs.map Bx.a)),(1,.agg [.int .i64 ax,.int .i64 ay]),(2,.agg [.int .i64 bx,.int .i64 by_])] []) Q
def qNodI_at (f:Bool) (bs:List Bx) (ax ay bx by_:Int) (Q:AV->Heap->Prop):Prop:=Wp M1 (.run fi17 (atC (cd Try.f17) [1,1,0,1,0,0]) [(0,.vec f 5 (bs.map Bx.a)),(5,.ptr 0 0 0 0),(7,.vec true 2 [.agg [.int .i64 ax,.int .i64 ay]]),(8,.int .i64 0)] [⟨[.agg [.int .i64 bx,.int .i64 by_]],2,0,false,false⟩]) Q
def ZdN (f:Bool) (bs:List Bx) (gs:List Gp) (v:Nat) (bx by_ i:Int) (Q:AV->Heap->Prop):Prop:=Wp M1 (.run fi17 (atC (cd Try.f17) [1,1,0,1,0,0]) [(0,.vec f 5 (bs.map Bx.a)),(5,.ptr 0 0 0 0),(7,.row 1 v),(8,.int .i64 i)] [⟨[.agg [.int .i64 bx,.int .i64 by_]],2,0,false,false⟩,⟨gs.map Gp.a,2,v,false,true⟩]) Q
theorem call9 {args:List AV} {d:AV} (h:wc M1 fi9 Try.f9 args d):Ev M1 (.pure 9 args) d []:=pcl _ _ (by kernel_rfl) h
theorem call10 {args:List AV} {d:AV} (h:wc M1 fi10 Try.f10 args d):Ev M1 (.pure 10 args) d []:=pcl _ _ (by kernel_rfl) h
theorem call17 {args:List AV} {d:AV} (h:wc M1 fi17 Try.f17 args d):Ev M1 (.pure 17 args) d []:=pcl _ _ (by kernel_rfl) h
noncomputable abbrev zNqD1:=ag [vi 0,vi 1]
noncomputable abbrev zNqD2:=ag [vi 1,vi 1]
noncomputable abbrev zNqD3 (x0:Int) (x1:Int) (y0:Int) (y1:Int):=bif decide (x0>=x1) then true else decide (y0>=y1)
theorem qEnt (x0 y0 x1 y1 tp ax ay bx by_:Int)  (dq:AV) (H :
  (((x0>=x1)\/(y0>=y1))->vb false=dq) /\
  (¬((x0>=x1)\/(y0>=y1))->(-9223372036854775808<=bx-ax/\bx-ax<=9223372036854775807) /\
   ((O.Zez ax (bx-ax) x0 x1=true)->(O.okQo ax (bx-ax) x0 x1 0 1 1 1) /\
    (-9223372036854775808<=by_-ay/\by_-ay<=9223372036854775807) /\
    ((O.Zez ay (by_-ay) y0 y1=true)->(O.okQo ay (by_-ay) y0 y1 (O.Zau ax (bx-ax) x0 x1 { num:=0,den:=1 }).num (O.Zau ax (bx-ax) x0 x1 { num:=0,den:=1 }).den (O.Zav ax (bx-ax) x0 x1 { num:=1,den:=1 }).num (O.Zav ax (bx-ax) x0 x1 { num:=1,den:=1 }).den) /\
     (O.nb4 (O.Zau ay (by_-ay) y0 y1 { num:=(O.Zau ax (bx-ax) x0 x1 { num:=0,den:=1 }).num,den:=(O.Zau ax (bx-ax) x0 x1 { num:=0,den:=1 }).den }).num (O.Zau ay (by_-ay) y0 y1 { num:=(O.Zau ax (bx-ax) x0 x1 { num:=0,den:=1 }).num,den:=(O.Zau ax (bx-ax) x0 x1 { num:=0,den:=1 }).den }).den (O.Zav ay (by_-ay) y0 y1 { num:=(O.Zav ax (bx-ax) x0 x1 { num:=1,den:=1 }).num,den:=(O.Zav ax (bx-ax) x0 x1 { num:=1,den:=1 }).den }).num (O.Zav ay (by_-ay) y0 y1 { num:=(O.Zav ax (bx-ax) x0 x1 { num:=1,den:=1 }).num,den:=(O.Zav ax (bx-ax) x0 x1 { num:=1,den:=1 }).den }).den) /\
     vb (O.less { num:=(O.Zau ay (by_-ay) y0 y1 { num:=(O.Zau ax (bx-ax) x0 x1 { num:=0,den:=1 }).num,den:=(O.Zau ax (bx-ax) x0 x1 { num:=0,den:=1 }).den }).num,den:=(O.Zau ay (by_-ay) y0 y1 { num:=(O.Zau ax (bx-ax) x0 x1 { num:=0,den:=1 }).num,den:=(O.Zau ax (bx-ax) x0 x1 { num:=0,den:=1 }).den }).den } { num:=(O.Zav ay (by_-ay) y0 y1 { num:=(O.Zav ax (bx-ax) x0 x1 { num:=1,den:=1 }).num,den:=(O.Zav ax (bx-ax) x0 x1 { num:=1,den:=1 }).den }).num,den:=(O.Zav ay (by_-ay) y0 y1 { num:=(O.Zav ax (bx-ax) x0 x1 { num:=1,den:=1 }).num,den:=(O.Zav ax (bx-ax) x0 x1 { num:=1,den:=1 }).den }).den })=dq) /\
    (¬(O.Zez ay (by_-ay) y0 y1=true)->(O.okQo ay (by_-ay) y0 y1 (O.Zau ax (bx-ax) x0 x1 { num:=0,den:=1 }).num (O.Zau ax (bx-ax) x0 x1 { num:=0,den:=1 }).den (O.Zav ax (bx-ax) x0 x1 { num:=1,den:=1 }).num (O.Zav ax (bx-ax) x0 x1 { num:=1,den:=1 }).den) /\
     vb false=dq)) /\
   (¬(O.Zez ax (bx-ax) x0 x1=true)->(O.okQo ax (bx-ax) x0 x1 0 1 1 1) /\
    (-9223372036854775808<=by_-ay/\by_-ay<=9223372036854775807) /\
    ((O.Zez ay (by_-ay) y0 y1=true)->((false=true)->(O.okQo ay (by_-ay) y0 y1 (O.Zau ax (bx-ax) x0 x1 { num:=0,den:=1 }).num (O.Zau ax (bx-ax) x0 x1 { num:=0,den:=1 }).den (O.Zav ax (bx-ax) x0 x1 { num:=1,den:=1 }).num (O.Zav ax (bx-ax) x0 x1 { num:=1,den:=1 }).den)) /\
     vb false=dq) /\
    (¬(O.Zez ay (by_-ay) y0 y1=true)->((false=true)->(O.okQo ay (by_-ay) y0 y1 (O.Zau ax (bx-ax) x0 x1 { num:=0,den:=1 }).num (O.Zau ax (bx-ax) x0 x1 { num:=0,den:=1 }).den (O.Zav ax (bx-ax) x0 x1 { num:=1,den:=1 }).num (O.Zav ax (bx-ax) x0 x1 { num:=1,den:=1 }).den)) /\
     vb false=dq)))) :
 qEnt_at x0 y0 x1 y1 tp ax ay bx by_ (Zaf dq):=by
 unfold qEnt_at
 rcases xq H with ⟨d2,H⟩|⟨d2,H⟩
 ·exact Zah (G:=Zad kp9 [] []) 1000 [true] (asm:=[true,true,!(decide (x0>=x1)==false&&true)||true,!(decide (x0>=x1)==false&&true)||true,(zNqD3 x0 x1 y0 y1)==true]) (vb false) (by kernel_rfl) (bc rfl (bc rfl (bc (Bool.or_true _) (bc (Bool.or_true _) (bc (Zal ((ZaF Zab Zab).2 d2)) b0))))) q0 c0 H
 ·obtain ⟨k3,H⟩:=H
  have w4:wi (bx-ax)=bx-ax:=wI64 k3
  rcases xq H with ⟨d5,H⟩|⟨d5,H⟩
  ·obtain ⟨k6,k7,H⟩:=H
   have w8:wi (by_-ay)=by_-ay:=wI64 k7
   rcases xq H with ⟨d9,H⟩|⟨d9,H⟩
   ·obtain ⟨k10,k11,H⟩:=H
    exact Zah (G:=Zad kp9 [(5,12,.call (vb true) (some [⟨[ag [vi (O.Zau ax (bx-ax) x0 x1 { num:=0,den:=1 }).num,vi (O.Zau ax (bx-ax) x0 x1 { num:=0,den:=1 }).den]],2,0,false,false⟩,⟨[ag [vi (O.Zav ax (bx-ax) x0 x1 { num:=1,den:=1 }).num,vi (O.Zav ax (bx-ax) x0 x1 { num:=1,den:=1 }).den]],2,0,false,false⟩])),(5,27,.call (vb true) (some [⟨[ag [vi (O.Zau ay (by_-ay) y0 y1 { num:=(O.Zau ax (bx-ax) x0 x1 { num:=0,den:=1 }).num,den:=(O.Zau ax (bx-ax) x0 x1 { num:=0,den:=1 }).den }).num,vi (O.Zau ay (by_-ay) y0 y1 { num:=(O.Zau ax (bx-ax) x0 x1 { num:=0,den:=1 }).num,den:=(O.Zau ax (bx-ax) x0 x1 { num:=0,den:=1 }).den }).den]],2,0,false,false⟩,⟨[ag [vi (O.Zav ay (by_-ay) y0 y1 { num:=(O.Zav ax (bx-ax) x0 x1 { num:=1,den:=1 }).num,den:=(O.Zav ax (bx-ax) x0 x1 { num:=1,den:=1 }).den }).num,vi (O.Zav ay (by_-ay) y0 y1 { num:=(O.Zav ax (bx-ax) x0 x1 { num:=1,den:=1 }).num,den:=(O.Zav ax (bx-ax) x0 x1 { num:=1,den:=1 }).den }).den]],2,0,false,false⟩])),(7,2,.call (vb (O.less { num:=(O.Zau ay (by_-ay) y0 y1 { num:=(O.Zau ax (bx-ax) x0 x1 { num:=0,den:=1 }).num,den:=(O.Zau ax (bx-ax) x0 x1 { num:=0,den:=1 }).den }).num,den:=(O.Zau ay (by_-ay) y0 y1 { num:=(O.Zau ax (bx-ax) x0 x1 { num:=0,den:=1 }).num,den:=(O.Zau ax (bx-ax) x0 x1 { num:=0,den:=1 }).den }).den } { num:=(O.Zav ay (by_-ay) y0 y1 { num:=(O.Zav ax (bx-ax) x0 x1 { num:=1,den:=1 }).num,den:=(O.Zav ax (bx-ax) x0 x1 { num:=1,den:=1 }).den }).num,den:=(O.Zav ay (by_-ay) y0 y1 { num:=(O.Zav ax (bx-ax) x0 x1 { num:=1,den:=1 }).num,den:=(O.Zav ax (bx-ax) x0 x1 { num:=1,den:=1 }).den }).den })) none)] []) 1000 [false,false] (asm:=[true,true,!(decide (x0>=x1)==false&&true)||true,!(decide (x0>=x1)==false&&true)||true,(zNqD3 x0 x1 y0 y1)==false,true,true,true,true,true,true,true,true,true,true,true,true,false==false,true,true]) (calls:=[⟨true,true,32,[vi ax,vi (wi (bx-ax)),vi x0,vi x1,AV.ptr 0 0 0 0,AV.ptr 1 0 0 0],[⟨[zNqD1],2,0,false,false⟩,⟨[zNqD2],2,0,false,false⟩],vb true,[⟨[ag [vi (O.Zau ax (bx-ax) x0 x1 { num:=0,den:=1 }).num,vi (O.Zau ax (bx-ax) x0 x1 { num:=0,den:=1 }).den]],2,0,false,false⟩,⟨[ag [vi (O.Zav ax (bx-ax) x0 x1 { num:=1,den:=1 }).num,vi (O.Zav ax (bx-ax) x0 x1 { num:=1,den:=1 }).den]],2,0,false,false⟩]⟩,⟨true,true,32,[vi ay,vi (wi (by_-ay)),vi y0,vi y1,AV.ptr 0 0 0 0,AV.ptr 1 0 0 0],[⟨[ag [vi (O.Zau ax (bx-ax) x0 x1 { num:=0,den:=1 }).num,vi (O.Zau ax (bx-ax) x0 x1 { num:=0,den:=1 }).den]],2,0,false,false⟩,⟨[ag [vi (O.Zav ax (bx-ax) x0 x1 { num:=1,den:=1 }).num,vi (O.Zav ax (bx-ax) x0 x1 { num:=1,den:=1 }).den]],2,0,false,false⟩],vb true,[⟨[ag [vi (O.Zau ay (by_-ay) y0 y1 { num:=(O.Zau ax (bx-ax) x0 x1 { num:=0,den:=1 }).num,den:=(O.Zau ax (bx-ax) x0 x1 { num:=0,den:=1 }).den }).num,vi (O.Zau ay (by_-ay) y0 y1 { num:=(O.Zau ax (bx-ax) x0 x1 { num:=0,den:=1 }).num,den:=(O.Zau ax (bx-ax) x0 x1 { num:=0,den:=1 }).den }).den]],2,0,false,false⟩,⟨[ag [vi (O.Zav ay (by_-ay) y0 y1 { num:=(O.Zav ax (bx-ax) x0 x1 { num:=1,den:=1 }).num,den:=(O.Zav ax (bx-ax) x0 x1 { num:=1,den:=1 }).den }).num,vi (O.Zav ay (by_-ay) y0 y1 { num:=(O.Zav ax (bx-ax) x0 x1 { num:=1,den:=1 }).num,den:=(O.Zav ax (bx-ax) x0 x1 { num:=1,den:=1 }).den }).den]],2,0,false,false⟩]⟩,⟨true,false,35,[ag [vi (O.Zau ay (by_-ay) y0 y1 { num:=(O.Zau ax (bx-ax) x0 x1 { num:=0,den:=1 }).num,den:=(O.Zau ax (bx-ax) x0 x1 { num:=0,den:=1 }).den }).num,vi (O.Zau ay (by_-ay) y0 y1 { num:=(O.Zau ax (bx-ax) x0 x1 { num:=0,den:=1 }).num,den:=(O.Zau ax (bx-ax) x0 x1 { num:=0,den:=1 }).den }).den],ag [vi (O.Zav ay (by_-ay) y0 y1 { num:=(O.Zav ax (bx-ax) x0 x1 { num:=1,den:=1 }).num,den:=(O.Zav ax (bx-ax) x0 x1 { num:=1,den:=1 }).den }).num,vi (O.Zav ay (by_-ay) y0 y1 { num:=(O.Zav ax (bx-ax) x0 x1 { num:=1,den:=1 }).num,den:=(O.Zav ax (bx-ax) x0 x1 { num:=1,den:=1 }).den }).den]],[],vb (O.less { num:=(O.Zau ay (by_-ay) y0 y1 { num:=(O.Zau ax (bx-ax) x0 x1 { num:=0,den:=1 }).num,den:=(O.Zau ax (bx-ax) x0 x1 { num:=0,den:=1 }).den }).num,den:=(O.Zau ay (by_-ay) y0 y1 { num:=(O.Zau ax (bx-ax) x0 x1 { num:=0,den:=1 }).num,den:=(O.Zau ax (bx-ax) x0 x1 { num:=0,den:=1 }).den }).den } { num:=(O.Zav ay (by_-ay) y0 y1 { num:=(O.Zav ax (bx-ax) x0 x1 { num:=1,den:=1 }).num,den:=(O.Zav ax (bx-ax) x0 x1 { num:=1,den:=1 }).den }).num,den:=(O.Zav ay (by_-ay) y0 y1 { num:=(O.Zav ax (bx-ax) x0 x1 { num:=1,den:=1 }).num,den:=(O.Zav ax (bx-ax) x0 x1 { num:=1,den:=1 }).den }).den }),[]⟩]) (vb (O.less { num:=(O.Zau ay (by_-ay) y0 y1 { num:=(O.Zau ax (bx-ax) x0 x1 { num:=0,den:=1 }).num,den:=(O.Zau ax (bx-ax) x0 x1 { num:=0,den:=1 }).den }).num,den:=(O.Zau ay (by_-ay) y0 y1 { num:=(O.Zau ax (bx-ax) x0 x1 { num:=0,den:=1 }).num,den:=(O.Zau ax (bx-ax) x0 x1 { num:=0,den:=1 }).den }).den } { num:=(O.Zav ay (by_-ay) y0 y1 { num:=(O.Zav ax (bx-ax) x0 x1 { num:=1,den:=1 }).num,den:=(O.Zav ax (bx-ax) x0 x1 { num:=1,den:=1 }).den }).num,den:=(O.Zav ay (by_-ay) y0 y1 { num:=(O.Zav ax (bx-ax) x0 x1 { num:=1,den:=1 }).num,den:=(O.Zav ax (bx-ax) x0 x1 { num:=1,den:=1 }).den }).den })) (by kernel_rfl) (bc rfl (bc rfl (bc (Bool.or_true _) (bc (Bool.or_true _) (bc (Zak (fun h=>d2 ((ZaF Zab Zab).1 h))) (bc rfl (bc rfl (bc rfl (bc rfl (bc rfl (bc rfl (bc rfl (bc rfl (bc rfl (bc rfl (bc rfl (bc rfl (bc rfl (bc rfl (bc rfl b0)))))))))))))))))))) q0 (cc (fun _=>(by (try rw [w4]);all_goals exact (@evo32_y ax (bx-ax) x0 x1 0 1 1 1 k6 d5))) (cc (fun _=>(by (try rw [w8]);all_goals exact (@evo32_y ay (by_-ay) y0 y1 ((O.Zau ax (bx-ax) x0 x1 { num:=0,den:=1 }).num) ((O.Zau ax (bx-ax) x0 x1 { num:=0,den:=1 }).den) ((O.Zav ax (bx-ax) x0 x1 { num:=1,den:=1 }).num) ((O.Zav ax (bx-ax) x0 x1 { num:=1,den:=1 }).den) k10 d9))) (cc (fun _=>(@ev35 ((O.Zau ay (by_-ay) y0 y1 { num:=(O.Zau ax (bx-ax) x0 x1 { num:=0,den:=1 }).num,den:=(O.Zau ax (bx-ax) x0 x1 { num:=0,den:=1 }).den }).num) ((O.Zau ay (by_-ay) y0 y1 { num:=(O.Zau ax (bx-ax) x0 x1 { num:=0,den:=1 }).num,den:=(O.Zau ax (bx-ax) x0 x1 { num:=0,den:=1 }).den }).den) ((O.Zav ay (by_-ay) y0 y1 { num:=(O.Zav ax (bx-ax) x0 x1 { num:=1,den:=1 }).num,den:=(O.Zav ax (bx-ax) x0 x1 { num:=1,den:=1 }).den }).num) ((O.Zav ay (by_-ay) y0 y1 { num:=(O.Zav ax (bx-ax) x0 x1 { num:=1,den:=1 }).num,den:=(O.Zav ax (bx-ax) x0 x1 { num:=1,den:=1 }).den }).den) k11)) c0))) H
   ·obtain ⟨k12,H⟩:=H
    exact Zah (G:=Zad kp9 [(5,12,.call (vb true) (some [⟨[ag [vi (O.Zau ax (bx-ax) x0 x1 { num:=0,den:=1 }).num,vi (O.Zau ax (bx-ax) x0 x1 { num:=0,den:=1 }).den]],2,0,false,false⟩,⟨[ag [vi (O.Zav ax (bx-ax) x0 x1 { num:=1,den:=1 }).num,vi (O.Zav ax (bx-ax) x0 x1 { num:=1,den:=1 }).den]],2,0,false,false⟩])),(5,27,.call (vb false) (some [⟨[ag [vi (O.Zau ay (by_-ay) y0 y1 { num:=(O.Zau ax (bx-ax) x0 x1 { num:=0,den:=1 }).num,den:=(O.Zau ax (bx-ax) x0 x1 { num:=0,den:=1 }).den }).num,vi (O.Zau ay (by_-ay) y0 y1 { num:=(O.Zau ax (bx-ax) x0 x1 { num:=0,den:=1 }).num,den:=(O.Zau ax (bx-ax) x0 x1 { num:=0,den:=1 }).den }).den]],2,0,false,false⟩,⟨[ag [vi (O.Zav ay (by_-ay) y0 y1 { num:=(O.Zav ax (bx-ax) x0 x1 { num:=1,den:=1 }).num,den:=(O.Zav ax (bx-ax) x0 x1 { num:=1,den:=1 }).den }).num,vi (O.Zav ay (by_-ay) y0 y1 { num:=(O.Zav ax (bx-ax) x0 x1 { num:=1,den:=1 }).num,den:=(O.Zav ax (bx-ax) x0 x1 { num:=1,den:=1 }).den }).den]],2,0,false,false⟩]))] []) 1000 [false,true] (asm:=[true,true,!(decide (x0>=x1)==false&&true)||true,!(decide (x0>=x1)==false&&true)||true,(zNqD3 x0 x1 y0 y1)==false,true,true,true,true,true,true,true,true,true,true,true,true,true==true]) (calls:=[⟨true,true,32,[vi ax,vi (wi (bx-ax)),vi x0,vi x1,AV.ptr 0 0 0 0,AV.ptr 1 0 0 0],[⟨[zNqD1],2,0,false,false⟩,⟨[zNqD2],2,0,false,false⟩],vb true,[⟨[ag [vi (O.Zau ax (bx-ax) x0 x1 { num:=0,den:=1 }).num,vi (O.Zau ax (bx-ax) x0 x1 { num:=0,den:=1 }).den]],2,0,false,false⟩,⟨[ag [vi (O.Zav ax (bx-ax) x0 x1 { num:=1,den:=1 }).num,vi (O.Zav ax (bx-ax) x0 x1 { num:=1,den:=1 }).den]],2,0,false,false⟩]⟩,⟨true,true,32,[vi ay,vi (wi (by_-ay)),vi y0,vi y1,AV.ptr 0 0 0 0,AV.ptr 1 0 0 0],[⟨[ag [vi (O.Zau ax (bx-ax) x0 x1 { num:=0,den:=1 }).num,vi (O.Zau ax (bx-ax) x0 x1 { num:=0,den:=1 }).den]],2,0,false,false⟩,⟨[ag [vi (O.Zav ax (bx-ax) x0 x1 { num:=1,den:=1 }).num,vi (O.Zav ax (bx-ax) x0 x1 { num:=1,den:=1 }).den]],2,0,false,false⟩],vb false,[⟨[ag [vi (O.Zau ay (by_-ay) y0 y1 { num:=(O.Zau ax (bx-ax) x0 x1 { num:=0,den:=1 }).num,den:=(O.Zau ax (bx-ax) x0 x1 { num:=0,den:=1 }).den }).num,vi (O.Zau ay (by_-ay) y0 y1 { num:=(O.Zau ax (bx-ax) x0 x1 { num:=0,den:=1 }).num,den:=(O.Zau ax (bx-ax) x0 x1 { num:=0,den:=1 }).den }).den]],2,0,false,false⟩,⟨[ag [vi (O.Zav ay (by_-ay) y0 y1 { num:=(O.Zav ax (bx-ax) x0 x1 { num:=1,den:=1 }).num,den:=(O.Zav ax (bx-ax) x0 x1 { num:=1,den:=1 }).den }).num,vi (O.Zav ay (by_-ay) y0 y1 { num:=(O.Zav ax (bx-ax) x0 x1 { num:=1,den:=1 }).num,den:=(O.Zav ax (bx-ax) x0 x1 { num:=1,den:=1 }).den }).den]],2,0,false,false⟩]⟩]) (vb false) (by kernel_rfl) (bc rfl (bc rfl (bc (Bool.or_true _) (bc (Bool.or_true _) (bc (Zak (fun h=>d2 ((ZaF Zab Zab).1 h))) (bc rfl (bc rfl (bc rfl (bc rfl (bc rfl (bc rfl (bc rfl (bc rfl (bc rfl (bc rfl (bc rfl (bc rfl (bc rfl b0)))))))))))))))))) q0 (cc (fun _=>(by (try rw [w4]);all_goals exact (@evo32_y ax (bx-ax) x0 x1 0 1 1 1 k6 d5))) (cc (fun _=>(by (try rw [w8]);all_goals exact (@evo32_n ay (by_-ay) y0 y1 ((O.Zau ax (bx-ax) x0 x1 { num:=0,den:=1 }).num) ((O.Zau ax (bx-ax) x0 x1 { num:=0,den:=1 }).den) ((O.Zav ax (bx-ax) x0 x1 { num:=1,den:=1 }).num) ((O.Zav ax (bx-ax) x0 x1 { num:=1,den:=1 }).den) k12 d9))) c0)) H
  ·obtain ⟨k13,k14,H⟩:=H
   have w15:wi (by_-ay)=by_-ay:=wI64 k14
   rcases xq H with ⟨d16,H⟩|⟨d16,H⟩
   ·obtain ⟨k18,H⟩:=H
    exact Zah (G:=Zad kp9 [(5,12,.call (vb false) (some [⟨[ag [vi (O.Zau ax (bx-ax) x0 x1 { num:=0,den:=1 }).num,vi (O.Zau ax (bx-ax) x0 x1 { num:=0,den:=1 }).den]],2,0,false,false⟩,⟨[ag [vi (O.Zav ax (bx-ax) x0 x1 { num:=1,den:=1 }).num,vi (O.Zav ax (bx-ax) x0 x1 { num:=1,den:=1 }).den]],2,0,false,false⟩])),(5,27,.call (vb true) (some [⟨[ag [vi (O.Zau ay (by_-ay) y0 y1 { num:=(O.Zau ax (bx-ax) x0 x1 { num:=0,den:=1 }).num,den:=(O.Zau ax (bx-ax) x0 x1 { num:=0,den:=1 }).den }).num,vi (O.Zau ay (by_-ay) y0 y1 { num:=(O.Zau ax (bx-ax) x0 x1 { num:=0,den:=1 }).num,den:=(O.Zau ax (bx-ax) x0 x1 { num:=0,den:=1 }).den }).den]],2,0,false,false⟩,⟨[ag [vi (O.Zav ay (by_-ay) y0 y1 { num:=(O.Zav ax (bx-ax) x0 x1 { num:=1,den:=1 }).num,den:=(O.Zav ax (bx-ax) x0 x1 { num:=1,den:=1 }).den }).num,vi (O.Zav ay (by_-ay) y0 y1 { num:=(O.Zav ax (bx-ax) x0 x1 { num:=1,den:=1 }).num,den:=(O.Zav ax (bx-ax) x0 x1 { num:=1,den:=1 }).den }).den]],2,0,false,false⟩]))] []) 1000 [false,true] (asm:=[true,true,!(decide (x0>=x1)==false&&true)||true,!(decide (x0>=x1)==false&&true)||true,(zNqD3 x0 x1 y0 y1)==false,true,true,true,true,true,true,true,true,true,true,true,true,true==true]) (calls:=[⟨true,true,32,[vi ax,vi (wi (bx-ax)),vi x0,vi x1,AV.ptr 0 0 0 0,AV.ptr 1 0 0 0],[⟨[zNqD1],2,0,false,false⟩,⟨[zNqD2],2,0,false,false⟩],vb false,[⟨[ag [vi (O.Zau ax (bx-ax) x0 x1 { num:=0,den:=1 }).num,vi (O.Zau ax (bx-ax) x0 x1 { num:=0,den:=1 }).den]],2,0,false,false⟩,⟨[ag [vi (O.Zav ax (bx-ax) x0 x1 { num:=1,den:=1 }).num,vi (O.Zav ax (bx-ax) x0 x1 { num:=1,den:=1 }).den]],2,0,false,false⟩]⟩,⟨false,true,32,[vi ay,vi (wi (by_-ay)),vi y0,vi y1,AV.ptr 0 0 0 0,AV.ptr 1 0 0 0],[⟨[ag [vi (O.Zau ax (bx-ax) x0 x1 { num:=0,den:=1 }).num,vi (O.Zau ax (bx-ax) x0 x1 { num:=0,den:=1 }).den]],2,0,false,false⟩,⟨[ag [vi (O.Zav ax (bx-ax) x0 x1 { num:=1,den:=1 }).num,vi (O.Zav ax (bx-ax) x0 x1 { num:=1,den:=1 }).den]],2,0,false,false⟩],vb true,[⟨[ag [vi (O.Zau ay (by_-ay) y0 y1 { num:=(O.Zau ax (bx-ax) x0 x1 { num:=0,den:=1 }).num,den:=(O.Zau ax (bx-ax) x0 x1 { num:=0,den:=1 }).den }).num,vi (O.Zau ay (by_-ay) y0 y1 { num:=(O.Zau ax (bx-ax) x0 x1 { num:=0,den:=1 }).num,den:=(O.Zau ax (bx-ax) x0 x1 { num:=0,den:=1 }).den }).den]],2,0,false,false⟩,⟨[ag [vi (O.Zav ay (by_-ay) y0 y1 { num:=(O.Zav ax (bx-ax) x0 x1 { num:=1,den:=1 }).num,den:=(O.Zav ax (bx-ax) x0 x1 { num:=1,den:=1 }).den }).num,vi (O.Zav ay (by_-ay) y0 y1 { num:=(O.Zav ax (bx-ax) x0 x1 { num:=1,den:=1 }).num,den:=(O.Zav ax (bx-ax) x0 x1 { num:=1,den:=1 }).den }).den]],2,0,false,false⟩]⟩]) (vb false) (by kernel_rfl) (bc rfl (bc rfl (bc (Bool.or_true _) (bc (Bool.or_true _) (bc (Zak (fun h=>d2 ((ZaF Zab Zab).1 h))) (bc rfl (bc rfl (bc rfl (bc rfl (bc rfl (bc rfl (bc rfl (bc rfl (bc rfl (bc rfl (bc rfl (bc rfl (bc rfl b0)))))))))))))))))) q0 (cc (fun _=>(by (try rw [w4]);all_goals exact (@evo32_n ax (bx-ax) x0 x1 0 1 1 1 k13 d5))) (cc (fun hc=>((by (try rw [w15]);all_goals exact (@evo32_y ay (by_-ay) y0 y1 ((O.Zau ax (bx-ax) x0 x1 { num:=0,den:=1 }).num) ((O.Zau ax (bx-ax) x0 x1 { num:=0,den:=1 }).den) ((O.Zav ax (bx-ax) x0 x1 { num:=1,den:=1 }).num) ((O.Zav ax (bx-ax) x0 x1 { num:=1,den:=1 }).den) (k18 ((ZaD _).1 hc)) d16)):Ev M1 (Conf.own 32 [vi ay,vi (wi (by_-ay)),vi y0,vi y1,AV.ptr 0 0 0 0,AV.ptr 1 0 0 0] [⟨[ag [vi (O.Zau ax (bx-ax) x0 x1 { num:=0,den:=1 }).num,vi (O.Zau ax (bx-ax) x0 x1 { num:=0,den:=1 }).den]],2,0,false,false⟩,⟨[ag [vi (O.Zav ax (bx-ax) x0 x1 { num:=1,den:=1 }).num,vi (O.Zav ax (bx-ax) x0 x1 { num:=1,den:=1 }).den]],2,0,false,false⟩]) (vb true) [⟨[ag [vi (O.Zau ay (by_-ay) y0 y1 { num:=(O.Zau ax (bx-ax) x0 x1 { num:=0,den:=1 }).num,den:=(O.Zau ax (bx-ax) x0 x1 { num:=0,den:=1 }).den }).num,vi (O.Zau ay (by_-ay) y0 y1 { num:=(O.Zau ax (bx-ax) x0 x1 { num:=0,den:=1 }).num,den:=(O.Zau ax (bx-ax) x0 x1 { num:=0,den:=1 }).den }).den]],2,0,false,false⟩,⟨[ag [vi (O.Zav ay (by_-ay) y0 y1 { num:=(O.Zav ax (bx-ax) x0 x1 { num:=1,den:=1 }).num,den:=(O.Zav ax (bx-ax) x0 x1 { num:=1,den:=1 }).den }).num,vi (O.Zav ay (by_-ay) y0 y1 { num:=(O.Zav ax (bx-ax) x0 x1 { num:=1,den:=1 }).num,den:=(O.Zav ax (bx-ax) x0 x1 { num:=1,den:=1 }).den }).den]],2,0,false,false⟩])) c0)) H
   ·obtain ⟨k20,H⟩:=H
    exact Zah (G:=Zad kp9 [(5,12,.call (vb false) (some [⟨[ag [vi (O.Zau ax (bx-ax) x0 x1 { num:=0,den:=1 }).num,vi (O.Zau ax (bx-ax) x0 x1 { num:=0,den:=1 }).den]],2,0,false,false⟩,⟨[ag [vi (O.Zav ax (bx-ax) x0 x1 { num:=1,den:=1 }).num,vi (O.Zav ax (bx-ax) x0 x1 { num:=1,den:=1 }).den]],2,0,false,false⟩])),(5,27,.call (vb false) (some [⟨[ag [vi (O.Zau ay (by_-ay) y0 y1 { num:=(O.Zau ax (bx-ax) x0 x1 { num:=0,den:=1 }).num,den:=(O.Zau ax (bx-ax) x0 x1 { num:=0,den:=1 }).den }).num,vi (O.Zau ay (by_-ay) y0 y1 { num:=(O.Zau ax (bx-ax) x0 x1 { num:=0,den:=1 }).num,den:=(O.Zau ax (bx-ax) x0 x1 { num:=0,den:=1 }).den }).den]],2,0,false,false⟩,⟨[ag [vi (O.Zav ay (by_-ay) y0 y1 { num:=(O.Zav ax (bx-ax) x0 x1 { num:=1,den:=1 }).num,den:=(O.Zav ax (bx-ax) x0 x1 { num:=1,den:=1 }).den }).num,vi (O.Zav ay (by_-ay) y0 y1 { num:=(O.Zav ax (bx-ax) x0 x1 { num:=1,den:=1 }).num,den:=(O.Zav ax (bx-ax) x0 x1 { num:=1,den:=1 }).den }).den]],2,0,false,false⟩]))] []) 1000 [false,true] (asm:=[true,true,!(decide (x0>=x1)==false&&true)||true,!(decide (x0>=x1)==false&&true)||true,(zNqD3 x0 x1 y0 y1)==false,true,true,true,true,true,true,true,true,true,true,true,true,true==true]) (calls:=[⟨true,true,32,[vi ax,vi (wi (bx-ax)),vi x0,vi x1,AV.ptr 0 0 0 0,AV.ptr 1 0 0 0],[⟨[zNqD1],2,0,false,false⟩,⟨[zNqD2],2,0,false,false⟩],vb false,[⟨[ag [vi (O.Zau ax (bx-ax) x0 x1 { num:=0,den:=1 }).num,vi (O.Zau ax (bx-ax) x0 x1 { num:=0,den:=1 }).den]],2,0,false,false⟩,⟨[ag [vi (O.Zav ax (bx-ax) x0 x1 { num:=1,den:=1 }).num,vi (O.Zav ax (bx-ax) x0 x1 { num:=1,den:=1 }).den]],2,0,false,false⟩]⟩,⟨false,true,32,[vi ay,vi (wi (by_-ay)),vi y0,vi y1,AV.ptr 0 0 0 0,AV.ptr 1 0 0 0],[⟨[ag [vi (O.Zau ax (bx-ax) x0 x1 { num:=0,den:=1 }).num,vi (O.Zau ax (bx-ax) x0 x1 { num:=0,den:=1 }).den]],2,0,false,false⟩,⟨[ag [vi (O.Zav ax (bx-ax) x0 x1 { num:=1,den:=1 }).num,vi (O.Zav ax (bx-ax) x0 x1 { num:=1,den:=1 }).den]],2,0,false,false⟩],vb false,[⟨[ag [vi (O.Zau ay (by_-ay) y0 y1 { num:=(O.Zau ax (bx-ax) x0 x1 { num:=0,den:=1 }).num,den:=(O.Zau ax (bx-ax) x0 x1 { num:=0,den:=1 }).den }).num,vi (O.Zau ay (by_-ay) y0 y1 { num:=(O.Zau ax (bx-ax) x0 x1 { num:=0,den:=1 }).num,den:=(O.Zau ax (bx-ax) x0 x1 { num:=0,den:=1 }).den }).den]],2,0,false,false⟩,⟨[ag [vi (O.Zav ay (by_-ay) y0 y1 { num:=(O.Zav ax (bx-ax) x0 x1 { num:=1,den:=1 }).num,den:=(O.Zav ax (bx-ax) x0 x1 { num:=1,den:=1 }).den }).num,vi (O.Zav ay (by_-ay) y0 y1 { num:=(O.Zav ax (bx-ax) x0 x1 { num:=1,den:=1 }).num,den:=(O.Zav ax (bx-ax) x0 x1 { num:=1,den:=1 }).den }).den]],2,0,false,false⟩]⟩]) (vb false) (by kernel_rfl) (bc rfl (bc rfl (bc (Bool.or_true _) (bc (Bool.or_true _) (bc (Zak (fun h=>d2 ((ZaF Zab Zab).1 h))) (bc rfl (bc rfl (bc rfl (bc rfl (bc rfl (bc rfl (bc rfl (bc rfl (bc rfl (bc rfl (bc rfl (bc rfl (bc rfl b0)))))))))))))))))) q0 (cc (fun _=>(by (try rw [w4]);all_goals exact (@evo32_n ax (bx-ax) x0 x1 0 1 1 1 k13 d5))) (cc (fun hc=>((by (try rw [w15]);all_goals exact (@evo32_n ay (by_-ay) y0 y1 ((O.Zau ax (bx-ax) x0 x1 { num:=0,den:=1 }).num) ((O.Zau ax (bx-ax) x0 x1 { num:=0,den:=1 }).den) ((O.Zav ax (bx-ax) x0 x1 { num:=1,den:=1 }).num) ((O.Zav ax (bx-ax) x0 x1 { num:=1,den:=1 }).den) (k20 ((ZaD _).1 hc)) d16)):Ev M1 (Conf.own 32 [vi ay,vi (wi (by_-ay)),vi y0,vi y1,AV.ptr 0 0 0 0,AV.ptr 1 0 0 0] [⟨[ag [vi (O.Zau ax (bx-ax) x0 x1 { num:=0,den:=1 }).num,vi (O.Zau ax (bx-ax) x0 x1 { num:=0,den:=1 }).den]],2,0,false,false⟩,⟨[ag [vi (O.Zav ax (bx-ax) x0 x1 { num:=1,den:=1 }).num,vi (O.Zav ax (bx-ax) x0 x1 { num:=1,den:=1 }).den]],2,0,false,false⟩]) (vb false) [⟨[ag [vi (O.Zau ay (by_-ay) y0 y1 { num:=(O.Zau ax (bx-ax) x0 x1 { num:=0,den:=1 }).num,den:=(O.Zau ax (bx-ax) x0 x1 { num:=0,den:=1 }).den }).num,vi (O.Zau ay (by_-ay) y0 y1 { num:=(O.Zau ax (bx-ax) x0 x1 { num:=0,den:=1 }).num,den:=(O.Zau ax (bx-ax) x0 x1 { num:=0,den:=1 }).den }).den]],2,0,false,false⟩,⟨[ag [vi (O.Zav ay (by_-ay) y0 y1 { num:=(O.Zav ax (bx-ax) x0 x1 { num:=1,den:=1 }).num,den:=(O.Zav ax (bx-ax) x0 x1 { num:=1,den:=1 }).den }).num,vi (O.Zav ay (by_-ay) y0 y1 { num:=(O.Zav ax (bx-ax) x0 x1 { num:=1,den:=1 }).num,den:=(O.Zav ax (bx-ax) x0 x1 { num:=1,den:=1 }).den }).den]],2,0,false,false⟩])) c0)) H
noncomputable abbrev zNqD4 (bx:Int) (ax:Int) (x0:Int) (x1:Int) (by_:Int) (ay:Int) (y0:Int):=bif bif decide ((if bx>ax then bx else ax)<=x0) then true else decide ((if bx<ax then bx else ax)>=x1) then true else decide ((if by_>ay then by_ else ay)<=y0)
noncomputable abbrev zNqD5 (bx:Int) (ax:Int) (x0:Int) (x1:Int) (by_:Int) (ay:Int) (y0:Int) (y1:Int):=bif bif bif bif decide ((if bx>ax then bx else ax)<=x0) then true else decide ((if bx<ax then bx else ax)>=x1) then true else decide ((if by_>ay then by_ else ay)<=y0) then true else decide ((if by_<ay then by_ else ay)>=y1) then true else decide (x0>=x1)
noncomputable abbrev zNqD6 (bx:Int) (ax:Int) (x0:Int) (x1:Int) (by_:Int) (ay:Int) (y0:Int) (y1:Int):=bif bif bif decide ((if bx>ax then bx else ax)<=x0) then true else decide ((if bx<ax then bx else ax)>=x1) then true else decide ((if by_>ay then by_ else ay)<=y0) then true else decide ((if by_<ay then by_ else ay)>=y1)
noncomputable abbrev zNqD7 (bx:Int) (ax:Int) (x0:Int) (x1:Int):=bif decide ((if bx>ax then bx else ax)<=x0) then true else decide ((if bx<ax then bx else ax)>=x1)
noncomputable abbrev zNqD8 (bx:Int) (ax:Int) (x0:Int) (x1:Int) (by_:Int) (ay:Int) (y0:Int) (y1:Int):=bif bif bif bif bif decide ((if bx>ax then bx else ax)<=x0) then true else decide ((if bx<ax then bx else ax)>=x1) then true else decide ((if by_>ay then by_ else ay)<=y0) then true else decide ((if by_<ay then by_ else ay)>=y1) then true else decide (x0>=x1) then true else decide (y0>=y1)
theorem qEntR (x0 y0 x1 y1 tp ax ay bx by_:Int)  (dq:AV) (H :
  (((ax=bx)/\(ay=by_))->vb (decide (O.Zgf x0 y0 x1 y1 ax ay))=dq) /\
  (¬((ax=bx)/\(ay=by_))->((((((((if bx>ax then bx else ax)<=x0)\/((if bx<ax then bx else ax)>=x1))\/((if by_>ay then by_ else ay)<=y0))\/((if by_<ay then by_ else ay)>=y1))\/(x0>=x1))\/(y0>=y1))->vb false=dq) /\
   (¬(((((((if bx>ax then bx else ax)<=x0)\/((if bx<ax then bx else ax)>=x1))\/((if by_>ay then by_ else ay)<=y0))\/((if by_<ay then by_ else ay)>=y1))\/(x0>=x1))\/(y0>=y1))->(O.cb6 ax ay bx by_ x0 y0) /\
    (O.cb6 ax ay bx by_ x0 y1) /\
    (O.cb6 ax ay bx by_ x1 y0) /\
    (O.cb6 ax ay bx by_ x1 y1) /\
    Zft (O.sgnI (O.sdN ax ay bx by_ x0 y0)) (O.sgnI (O.sdN ax ay bx by_ x0 y1)) (O.sgnI (O.sdN ax ay bx by_ x1 y0)) (O.sgnI (O.sdN ax ay bx by_ x1 y1)) false false (Zaf dq)))) :
 qEntR_at x0 y0 x1 y1 tp ax ay bx by_ (Zaf dq):=by
 unfold qEntR_at
 rcases xq H with ⟨d2,H⟩|⟨d2,H⟩
 ·exact Zah (G:=Zad kp10 [(2,2,.call (vb (decide (O.Zgf x0 y0 x1 y1 ax ay))) none)] []) 1000 [true] (vb (decide (O.Zgf x0 y0 x1 y1 ax ay))) (by kernel_rfl) (bc rfl (bc rfl (bc (Zal ((ZcI i_eq (i_at i_eq)).2 d2)) (bc rfl (bc rfl b0))))) q0 (ce (@ev36 x0 y0 x1 y1 tp ax ay) c0) H
 ·rcases xq H with ⟨d4,H⟩|⟨d4,H⟩
  ·exact Zah (G:=Zad kp10 [] []) 1000 [false,true] (asm:=[true,true,(ax==bx&&(ay==by_&&true))==false,true,true,true,!(decide ((if bx>ax then bx else ax)<=x0)==false&&true)||true,!(decide ((if bx>ax then bx else ax)<=x0)==false&&true)||true,!(decide ((if bx>ax then bx else ax)<=x0)==false&&true)||true,!((zNqD7 bx ax x0 x1)==false&&true)||true,!((zNqD7 bx ax x0 x1)==false&&true)||true,!((zNqD7 bx ax x0 x1)==false&&true)||true,!((zNqD4 bx ax x0 x1 by_ ay y0)==false&&true)||true,!((zNqD4 bx ax x0 x1 by_ ay y0)==false&&true)||true,!((zNqD4 bx ax x0 x1 by_ ay y0)==false&&true)||true,!((zNqD6 bx ax x0 x1 by_ ay y0 y1)==false&&true)||true,!((zNqD6 bx ax x0 x1 by_ ay y0 y1)==false&&true)||true,!((zNqD5 bx ax x0 x1 by_ ay y0 y1)==false&&true)||true,!((zNqD5 bx ax x0 x1 by_ ay y0 y1)==false&&true)||true,(zNqD8 bx ax x0 x1 by_ ay y0 y1)==true]) (vb false) (by kernel_rfl) (bc rfl (bc rfl (bc (Zak (fun h=>d2 ((ZcI i_eq (i_at i_eq)).1 h))) (bc rfl (bc rfl (bc rfl (bc (Bool.or_true _) (bc (Bool.or_true _) (bc (Bool.or_true _) (bc (Bool.or_true _) (bc (Bool.or_true _) (bc (Bool.or_true _) (bc (Bool.or_true _) (bc (Bool.or_true _) (bc (Bool.or_true _) (bc (Bool.or_true _) (bc (Bool.or_true _) (bc (Bool.or_true _) (bc (Bool.or_true _) (bc (Zal ((ZaF (ZaF (ZaF (ZaF (ZaF Zab Zab) Zab) Zab) Zab) Zab).2 d4)) b0)))))))))))))))))))) q0 c0 H
  ·obtain ⟨k5,k6,k7,k8,H⟩:=H
   exact Zac (G:=Zad kp10 [(5,6,.call (vi (O.sgnI (O.sdN ax ay bx by_ x0 y0))) none),(5,13,.call (vi (O.sgnI (O.sdN ax ay bx by_ x0 y1))) none),(5,20,.call (vi (O.sgnI (O.sdN ax ay bx by_ x1 y0))) none),(5,27,.call (vi (O.sgnI (O.sdN ax ay bx by_ x1 y1))) none)] []) 1000 [false,false] ⟨(atC (cd Try.f10) [1,1,1,1,1,0,1,0,0]),[(7,AV.vec true 1 [vi (O.sgnI (O.sdN ax ay bx by_ x0 y0)),vi (O.sgnI (O.sdN ax ay bx by_ x0 y1)),vi (O.sgnI (O.sdN ax ay bx by_ x1 y0)),vi (O.sgnI (O.sdN ax ay bx by_ x1 y1))]),(8,vb false),(9,vb false),(10,vi 0)],[⟨[ag [vi x0,vi y0,vi x1,vi y1,vi tp]],5,0,false,false⟩,⟨[ag [vi ax,vi ay]],2,0,false,false⟩,⟨[ag [vi bx,vi by_]],2,0,false,false⟩],[true,true,(ax==bx&&(ay==by_&&true))==false,true,true,true,!(decide ((if bx>ax then bx else ax)<=x0)==false&&true)||true,!(decide ((if bx>ax then bx else ax)<=x0)==false&&true)||true,!(decide ((if bx>ax then bx else ax)<=x0)==false&&true)||true,!((zNqD7 bx ax x0 x1)==false&&true)||true,!((zNqD7 bx ax x0 x1)==false&&true)||true,!((zNqD7 bx ax x0 x1)==false&&true)||true,!((zNqD4 bx ax x0 x1 by_ ay y0)==false&&true)||true,!((zNqD4 bx ax x0 x1 by_ ay y0)==false&&true)||true,!((zNqD4 bx ax x0 x1 by_ ay y0)==false&&true)||true,!((zNqD6 bx ax x0 x1 by_ ay y0 y1)==false&&true)||true,!((zNqD6 bx ax x0 x1 by_ ay y0 y1)==false&&true)||true,!((zNqD5 bx ax x0 x1 by_ ay y0 y1)==false&&true)||true,!((zNqD5 bx ax x0 x1 by_ ay y0 y1)==false&&true)||true,(zNqD8 bx ax x0 x1 by_ ay y0 y1)==false,true,true,true,true,true,true,true,true,true,true,true,true,true,true,true,true],[],_⟩ (by kernel_rfl) (bc rfl (bc rfl (bc (Zak (fun h=>d2 ((ZcI i_eq (i_at i_eq)).1 h))) (bc rfl (bc rfl (bc rfl (bc (Bool.or_true _) (bc (Bool.or_true _) (bc (Bool.or_true _) (bc (Bool.or_true _) (bc (Bool.or_true _) (bc (Bool.or_true _) (bc (Bool.or_true _) (bc (Bool.or_true _) (bc (Bool.or_true _) (bc (Bool.or_true _) (bc (Bool.or_true _) (bc (Bool.or_true _) (bc (Bool.or_true _) (bc (Zak (fun h=>d4 ((ZaF (ZaF (ZaF (ZaF (ZaF Zab Zab) Zab) Zab) Zab) Zab).1 h))) (bc rfl (bc rfl (bc rfl (bc rfl (bc rfl (bc rfl (bc rfl (bc rfl (bc rfl (bc rfl (bc rfl (bc rfl (bc rfl (bc rfl (bc rfl (bc rfl b0)))))))))))))))))))))))))))))))))))) q0 (ce (@ev37 ax ay bx by_ x0 y0 k5) (ce (@ev37 ax ay bx by_ x0 y1 k6) (ce (@ev37 ax ay bx by_ x1 y0 k7) (ce (@ev37 ax ay bx by_ x1 y1 k8) c0)))) (Zas [] (by kernel_rfl) H)
theorem qEntR0 (a b c d:Int) (l r:Bool)  (dq:AV) (H :
  Zfs a b c d (bif l then true else decide (a>0)) (bif r then true else decide (a<0)) (Zaf dq)) :
 Zft a b c d l r (Zaf dq):=by
 unfold Zft
 exact Zac (G:=Zad kp10 [] []) 1000 [true] ⟨(atC (cd Try.f10) [1,1,1,1,1,0,1,0,0]),[(7,AV.vec true 1 [vi a,vi b,vi c,vi d]),(8,vb (bif l then true else decide (a>0))),(9,vb (bif r then true else decide (a<0))),(10,vi 1)],[],[true==true,!(l==false&&true)||true,!(l==false&&true)||true,!(r==false&&true)||true,!(r==false&&true)||true],[],_⟩ (by kernel_rfl) (bc rfl (bc (Bool.or_true _) (bc (Bool.or_true _) (bc (Bool.or_true _) (bc (Bool.or_true _) b0))))) q0 c0 H
theorem qEntR1 (a b c d:Int) (l r:Bool)  (dq:AV) (H :
  Zfr a b c d (bif l then true else decide (b>0)) (bif r then true else decide (b<0)) (Zaf dq)) :
 Zfs a b c d l r (Zaf dq):=by
 unfold Zfs
 exact Zac (G:=Zad kp10 [] []) 1000 [true] ⟨(atC (cd Try.f10) [1,1,1,1,1,0,1,0,0]),[(7,AV.vec true 1 [vi a,vi b,vi c,vi d]),(8,vb (bif l then true else decide (b>0))),(9,vb (bif r then true else decide (b<0))),(10,vi 2)],[],[true==true,!(l==false&&true)||true,!(l==false&&true)||true,!(r==false&&true)||true,!(r==false&&true)||true],[],_⟩ (by kernel_rfl) (bc rfl (bc (Bool.or_true _) (bc (Bool.or_true _) (bc (Bool.or_true _) (bc (Bool.or_true _) b0))))) q0 c0 H
theorem qEntR2 (a b c d:Int) (l r:Bool)  (dq:AV) (H :
  Zfq a b c d (bif l then true else decide (c>0)) (bif r then true else decide (c<0)) (Zaf dq)) :
 Zfr a b c d l r (Zaf dq):=by
 unfold Zfr
 exact Zac (G:=Zad kp10 [] []) 1000 [true] ⟨(atC (cd Try.f10) [1,1,1,1,1,0,1,0,0]),[(7,AV.vec true 1 [vi a,vi b,vi c,vi d]),(8,vb (bif l then true else decide (c>0))),(9,vb (bif r then true else decide (c<0))),(10,vi 3)],[],[true==true,!(l==false&&true)||true,!(l==false&&true)||true,!(r==false&&true)||true,!(r==false&&true)||true],[],_⟩ (by kernel_rfl) (bc rfl (bc (Bool.or_true _) (bc (Bool.or_true _) (bc (Bool.or_true _) (bc (Bool.or_true _) b0))))) q0 c0 H
theorem qEntR3 (a b c d:Int) (l r:Bool)  (dq:AV) (H :
  Zfp a b c d (bif l then true else decide (d>0)) (bif r then true else decide (d<0)) (Zaf dq)) :
 Zfq a b c d l r (Zaf dq):=by
 unfold Zfq
 exact Zac (G:=Zad kp10 [] []) 1000 [true] ⟨(atC (cd Try.f10) [1,1,1,1,1,0,1,0,0]),[(7,AV.vec true 1 [vi a,vi b,vi c,vi d]),(8,vb (bif l then true else decide (d>0))),(9,vb (bif r then true else decide (d<0))),(10,vi 4)],[],[true==true,!(l==false&&true)||true,!(l==false&&true)||true,!(r==false&&true)||true,!(r==false&&true)||true],[],_⟩ (by kernel_rfl) (bc rfl (bc (Bool.or_true _) (bc (Bool.or_true _) (bc (Bool.or_true _) (bc (Bool.or_true _) b0))))) q0 c0 H
theorem qEntR4 (a b c d:Int) (l r:Bool)  (dq:AV) (H :
  vb (bif l then r else false)=dq) :
 Zfp a b c d l r (Zaf dq):=by
 unfold Zfp
 exact Zah (G:=Zad kp10 [] []) 1000 [false] (vb (bif l then r else false)) (by kernel_rfl) (bc rfl b0) q0 c0 H
theorem qNod (f:Bool) (bs:List Bx) (ax ay bx by_:Int)  (dq:AV) (H :
  qNodI_at f bs ax ay bx by_ (Zaf dq)) :
 qNod_at f bs ax ay bx by_ (Zaf dq):=by
 unfold qNod_at
 exact Zac (G:=Zad kp17 [] []) 1000 [] ⟨(atC (cd Try.f17) [1,1,0,1,0,0]),[(0,AV.vec f 5 (List.map Bx.a bs)),(5,AV.ptr 1 0 0 0),(7,AV.vec true 2 [ag [vi ax,vi ay]]),(8,vi 0)],[⟨[ag [vi ax,vi ay]],2,0,false,false⟩,⟨[ag [vi bx,vi by_]],2,0,false,false⟩],_,[],_⟩ (by kernel_rfl) (bc rfl b0) q0 c0 (Zas [1] (by kernel_rfl) H)
noncomputable abbrev zNqD9 (bs:List Bx):=ag [vi (bs.getD 0 default).x0,vi (bs.getD 0 default).y0,vi (bs.getD 0 default).x1,vi (bs.getD 0 default).y1,vi (bs.getD 0 default).top]
noncomputable abbrev zNqD10 (bx:Int) (by_:Int):=ag [vi bx,vi by_]
theorem qNodI (f:Bool) (bs:List Bx) (ax ay bx by_:Int)  (dq:AV) (H :
  ((0<(↑bs.length:Int))->(0<bs.length) /\
   ZdN f bs ([{ x:=ax,y:=ay },{ x:=(bs.getD 0 default).x0,y:=(bs.getD 0 default).y0 },{ x:=(bs.getD 0 default).x0,y:=(bs.getD 0 default).y1 },{ x:=(bs.getD 0 default).x1,y:=(bs.getD 0 default).y0 },{ x:=(bs.getD 0 default).x1,y:=(bs.getD 0 default).y1 }]) 0 bx by_ 1 (Zaf dq)) /\
  (¬(0<(↑bs.length:Int))->Weak (AV.vec false 2 [ag [vi ax,vi ay],ag [vi bx,vi by_]]) dq)) :
 qNodI_at f bs ax ay bx by_ (Zaf dq):=by
 unfold qNodI_at
 have w1:(List.map Bx.a bs).length=bs.length:=List.length_map ..
 have i2:(decide (0<(↑(List.map Bx.a bs).length:Int)))=true ↔ (0<(↑bs.length:Int)):=(by (try rw [w1]);all_goals exact Zab)
 rcases xq H with ⟨d3,H⟩|⟨d3,H⟩
 ·have i4:(decide (0<(List.map Bx.a bs).length))=true ↔ (0<bs.length):=(by (try rw [w1]);all_goals exact Zab)
  obtain ⟨k5,H⟩:=H
  have w6:[ag [vi ax,vi ay],ag [vi (bs.getD 0 default).x0,vi (bs.getD 0 default).y0],ag [vi (bs.getD 0 default).x0,vi (bs.getD 0 default).y1],ag [vi (bs.getD 0 default).x1,vi (bs.getD 0 default).y0],ag [vi (bs.getD 0 default).x1,vi (bs.getD 0 default).y1]]=List.map Gp.a [{ x:=ax,y:=ay },{ x:=(bs.getD 0 default).x0,y:=(bs.getD 0 default).y0 },{ x:=(bs.getD 0 default).x0,y:=(bs.getD 0 default).y1 },{ x:=(bs.getD 0 default).x1,y:=(bs.getD 0 default).y0 },{ x:=(bs.getD 0 default).x1,y:=(bs.getD 0 default).y1 }]:=rfl
  exact Zac (G:=Zad kp17 [(5,3,.elem ((zNqD9 bs)))] []) 1000 [true] ⟨(atC (cd Try.f17) [1,1,0,1,0,0]),[(0,AV.vec f 5 (List.map Bx.a bs)),(5,AV.ptr 0 0 0 0),(7,AV.row 2 0),(8,vi 1)],[⟨[(zNqD10 bx by_)],2,0,false,false⟩,⟨[(zNqD9 bs)],5,0,false,false⟩,⟨[ag [vi ax,vi ay],ag [vi (bs.getD 0 default).x0,vi (bs.getD 0 default).y0],ag [vi (bs.getD 0 default).x0,vi (bs.getD 0 default).y1],ag [vi (bs.getD 0 default).x1,vi (bs.getD 0 default).y0],ag [vi (bs.getD 0 default).x1,vi (bs.getD 0 default).y1]],2,0,false,true⟩],_,[((List.map Bx.a bs).get?Internal 0=some ((zNqD9 bs)))],_⟩ (by kernel_rfl) (bc (Zal (i2.2 d3)) (bc rfl (bc (i4.2 k5) (bc rfl (bc rfl (bc rfl (bc rfl (bc rfl (bc rfl (bc rfl (bc rfl (bc rfl (bc rfl b0))))))))))))) (qc (Zai k5) q0) c0 (by (try rw [w6]);all_goals exact Zas [0,2] (by kernel_rfl) H)
 ·exact Zbn (G:=Zad kp17 [] []) 1000 [false] (k:=((atC (cd Try.f17) [1,1,1,1])).tail) (env':=[(6,AV.row 1 0)]) (L':=[⟨[(zNqD10 bx by_)],2,0,false,false⟩,⟨[ag [vi ax,vi ay],(zNqD10 bx by_)],2,0,false,true⟩]) (asm:=[(decide (0<(↑(List.map Bx.a bs).length:Int)))==false,true,true]) (eqs:=[]) (calls:=[]) (AV.row 1 0) (by kernel_rfl) (by kernel_rfl) (Zae (Zak (fun h=>d3 (i2.1 h))) (Zae rfl (Zae rfl Zaw))) ZaK ZaL (ZcE (d:=(AV.vec false 2 [ag [vi ax,vi ay],(zNqD10 bx by_)])) (bs:=[0==0]) (by kernel_rfl) (by kernel_rfl) (Zae (beq_self_eq_true _) Zaw) (by kernel_rfl) H)
noncomputable abbrev zNqD11 (bs:List Bx) (i:Int):=ag [vi (bs.getD i.toNat default).x0,vi (bs.getD i.toNat default).y0,vi (bs.getD i.toNat default).x1,vi (bs.getD i.toNat default).y1,vi (bs.getD i.toNat default).top]
theorem qNodL (f:Bool) (bs:List Bx) (gs:List Gp) (v:Nat) (bx by_ i:Int)  (dq:AV) (H :
  ((i<(↑bs.length:Int))->(0<=i) /\
   (i.toNat<bs.length) /\
   ((gs.length+4)*16<=1099511627776) /\
   (-9223372036854775808<=i+1/\i+1<=9223372036854775807) /\
   ZdN f bs (gs++[{ x:=(bs.getD i.toNat default).x0,y:=(bs.getD i.toNat default).y0 },{ x:=(bs.getD i.toNat default).x0,y:=(bs.getD i.toNat default).y1 },{ x:=(bs.getD i.toNat default).x1,y:=(bs.getD i.toNat default).y0 },{ x:=(bs.getD i.toNat default).x1,y:=(bs.getD i.toNat default).y1 }]) (v+1) bx by_ (i+1) (Zaf dq)) /\
  (¬(i<(↑bs.length:Int))->((gs.length+1)*16<=1099511627776) /\
   Weak (AV.vec false 2 (List.map Gp.a (gs++[{ x:=bx,y:=by_ }]))) dq)) :
 ZdN f bs gs v bx by_ i (Zaf dq):=by
 unfold ZdN
 have w1:(List.map Bx.a bs).length=bs.length:=List.length_map ..
 have i2:(decide (i<(↑(List.map Bx.a bs).length:Int)))=true ↔ (i<(↑bs.length:Int)):=(by (try rw [w1]);all_goals exact Zab)
 rcases xq H with ⟨d3,H⟩|⟨d3,H⟩
 ·obtain ⟨k5,H⟩:=H
  have i6:(decide (i.toNat<(List.map Bx.a bs).length))=true ↔ (i.toNat<bs.length):=(by (try rw [w1]);all_goals exact Zab)
  obtain ⟨k7,H⟩:=H
  have w8:(List.map Gp.a gs).length=gs.length:=List.length_map ..
  have i9:(decide (((List.map Gp.a gs).length+4)*16<=1099511627776))=true ↔ ((gs.length+4)*16<=1099511627776):=(by (try rw [w8]);all_goals exact Zab)
  obtain ⟨k10,H⟩:=H
  have w11:List.map Gp.a gs++[ag [vi (bs.getD i.toNat default).x0,vi (bs.getD i.toNat default).y0],ag [vi (bs.getD i.toNat default).x0,vi (bs.getD i.toNat default).y1],ag [vi (bs.getD i.toNat default).x1,vi (bs.getD i.toNat default).y0],ag [vi (bs.getD i.toNat default).x1,vi (bs.getD i.toNat default).y1]]=List.map Gp.a (gs++[{ x:=(bs.getD i.toNat default).x0,y:=(bs.getD i.toNat default).y0 },{ x:=(bs.getD i.toNat default).x0,y:=(bs.getD i.toNat default).y1 },{ x:=(bs.getD i.toNat default).x1,y:=(bs.getD i.toNat default).y0 },{ x:=(bs.getD i.toNat default).x1,y:=(bs.getD i.toNat default).y1 }]):=(Zb7 rfl rfl)
  obtain ⟨k12,H⟩:=H
  have w13:wi (i+1)=i+1:=wI64 k12
  exact Zac (G:=Zad kp17 [(5,3,.elem ((zNqD11 bs i)))] []) 1000 [true] ⟨(atC (cd Try.f17) [1,1,0,1,0,0]),[(0,AV.vec f 5 (List.map Bx.a bs)),(5,AV.ptr 0 0 0 0),(7,AV.row 1 (v+1)),(8,vi (wi (i+1)))],[⟨[ag [vi bx,vi by_]],2,0,false,false⟩,⟨List.map Gp.a gs++[ag [vi (bs.getD i.toNat default).x0,vi (bs.getD i.toNat default).y0],ag [vi (bs.getD i.toNat default).x0,vi (bs.getD i.toNat default).y1],ag [vi (bs.getD i.toNat default).x1,vi (bs.getD i.toNat default).y0],ag [vi (bs.getD i.toNat default).x1,vi (bs.getD i.toNat default).y1]],2,v+1,false,true⟩,⟨[(zNqD11 bs i)],5,0,false,false⟩],[(decide (i<(↑(List.map Bx.a bs).length:Int)))==true,decide (0<=i),decide (i.toNat<(List.map Bx.a bs).length),true,true,true,true,true,true,true,true,true,v==v,decide (((List.map Gp.a gs).length+4)*16<=1099511627776)],[((List.map Bx.a bs).get?Internal i.toNat=some ((zNqD11 bs i)))],_⟩ (by kernel_rfl) (bc (Zal (i2.2 d3)) (bc (Zab.2 k5) (bc (i6.2 k7) (bc rfl (bc rfl (bc rfl (bc rfl (bc rfl (bc rfl (bc rfl (bc rfl (bc rfl (bc (beq_self_eq_true _) (bc (i9.2 k10) b0)))))))))))))) (qc (Zai k7) q0) c0 (by (try rw [w11]);(try rw [w13]);all_goals exact Zas [0,1] (by kernel_rfl) H)
 ·have w14:(List.map Gp.a gs).length=gs.length:=List.length_map ..
  have i15:(decide (((List.map Gp.a gs).length+1)*16<=1099511627776))=true ↔ ((gs.length+1)*16<=1099511627776):=(by (try rw [w14]);all_goals exact Zab)
  obtain ⟨k16,H⟩:=H
  have w17:List.map Gp.a gs++[ag [vi bx,vi by_]]=List.map Gp.a (gs++[{ x:=bx,y:=by_ }]):=(Zb7 rfl rfl)
  exact Zbn (G:=Zad kp17 [] []) 1000 [false] (k:=((atC (cd Try.f17) [1,1,1,1])).tail) (env':=[(6,AV.row 1 (v+1))]) (L':=[⟨[ag [vi bx,vi by_]],2,0,false,false⟩,⟨List.map Gp.a gs++[ag [vi bx,vi by_]],2,v+1,false,true⟩]) (asm:=[(decide (i<(↑(List.map Bx.a bs).length:Int)))==false,true,v==v,decide (((List.map Gp.a gs).length+1)*16<=1099511627776)]) (eqs:=[]) (calls:=[]) (AV.row 1 (v+1)) (by kernel_rfl) (by kernel_rfl) (Zae (Zak (fun h=>d3 (i2.1 h))) (Zae rfl (Zae (beq_self_eq_true _) (Zae (i15.2 k16) Zaw)))) ZaK ZaL (ZcE (d:=(AV.vec false 2 (List.map Gp.a gs++[ag [vi bx,vi by_]]))) (bs:=[v+1==v+1]) (by kernel_rfl) (by kernel_rfl) (Zae (beq_self_eq_true _) Zaw) (by kernel_rfl) (by (try rw [w17]);all_goals exact H))
end Go.Av

namespace Go.Av
open Go.Proofs
namespace O
def cc (n:Int):Prop:=-20000000<=n/\n<=20000000
def cc8 (x0 y0 x1 y1 ax ay bx by_:Int):Prop:=(cc x0/\cc y0/\cc x1/\cc y1)/\cc ax/\cc ay/\cc bx/\cc by_
end O
theorem later_nb {s t:O.Shr} (h:O.nb4 s.num s.den t.num t.den):O.nb (O.Zby s t).num/\O.nb (O.Zby s t).den:=by
 unfold O.Zby
 cases O.less s t with
 | true=>exact h.2.2
 | false=>exact ⟨h.1,h.2.1⟩
theorem earlier_nb {s t:O.Shr} (h:O.nb4 s.num s.den t.num t.den):O.nb (O.ZaG s t).num/\O.nb (O.ZaG s t).den:=by
 unfold O.ZaG
 cases O.less t s with
 | true=>exact h.2.2
 | false=>exact ⟨h.1,h.2.1⟩
theorem sh_nb {a w l h:Int} (ha:O.cb a) (hw:O.cb w) (hl:O.cb l) (hh:O.cb h):(O.nb (O.Zga a w l h).num/\O.nb (O.Zga a w l h).den)/\O.nb (O.Zcm a w l h).num/\O.nb (O.Zcm a w l h).den:=by
 unfold O.cb at *
 unfold O.Zga O.Zcm O.nb
 split
 ·exact ⟨⟨by show _<=a-h/\a-h<=_;omega,by show _ <= -w /\ -w<=_;omega⟩,by show _<=a-l/\a-l<=_;omega,by show _ <= -w /\ -w<=_;omega⟩
 ·exact ⟨⟨by show _<=l-a/\l-a<=_;omega,by show _<=w/\w<=_;omega⟩,by show _<=h-a/\h-a<=_;omega,by show _<=w/\w<=_;omega⟩
theorem opn_nb {a w l h:Int} (ha:O.cb a) (hw:O.cb w) (hl:O.cb l) (hh:O.cb h) {s t:O.Shr} (hs:O.nb s.num/\O.nb s.den) (ht:O.nb t.num/\O.nb t.den):(O.nb (O.Zau a w l h s).num/\O.nb (O.Zau a w l h s).den)/\O.nb (O.Zav a w l h t).num/\O.nb (O.Zav a w l h t).den:=by
 have k:=sh_nb ha hw hl hh
 unfold O.Zau O.Zav
 split
 ·exact ⟨hs,ht⟩
 ·exact ⟨later_nb ⟨hs.1,hs.2,k.1.1,k.1.2⟩,earlier_nb ⟨ht.1,ht.2,k.2.1,k.2.2⟩⟩
theorem ev9 (x0 y0 x1 y1 tp ax ay bx by_:Int) (h:O.cc8 x0 y0 x1 y1 ax ay bx by_):Ev M1 (.pure 9 [.agg [.int .i64 x0,.int .i64 y0,.int .i64 x1,.int .i64 y1,.int .i64 tp],.agg [.int .i64 ax,.int .i64 ay],.agg [.int .i64 bx,.int .i64 by_]]) (.bool (O.entB x0 y0 x1 y1 ax ay bx by_)) []:=by
 unfold O.cc8 O.cc at h
 have C {n:Int} (k:-50000000<=n/\n<=50000000):O.cb n:=k
 have N {n:Int} (k:-1000000000<=n/\n<=1000000000):O.nb n:=k
 have n0:O.nb 0:=N (by omega)
 have n1:O.nb 1:=N (by omega)
 have ok1:O.okQo ax (bx-ax) x0 x1 0 1 1 1:=⟨⟨⟨C (by omega),C (by omega),C (by omega),C (by omega)⟩,C (by omega),C (by omega)⟩,n0,n1,n1,n1⟩
 have b1:=opn_nb (a:=ax) (w:=bx-ax) (l:=x0) (h:=x1) (C (by omega)) (C (by omega)) (C (by omega)) (C (by omega)) (s:=⟨0,1⟩) (t:=⟨1,1⟩) ⟨n0,n1⟩ ⟨n1,n1⟩
 have b2:=opn_nb (a:=ay) (w:=by_-ay) (l:=y0) (h:=y1) (C (by omega)) (C (by omega)) (C (by omega)) (C (by omega)) b1.1 b1.2
 have ok2:O.okQo ay (by_-ay) y0 y1 (O.Zau ax (bx-ax) x0 x1 ⟨0,1⟩).num (O.Zau ax (bx-ax) x0 x1 ⟨0,1⟩).den (O.Zav ax (bx-ax) x0 x1 ⟨1,1⟩).num (O.Zav ax (bx-ax) x0 x1 ⟨1,1⟩).den:=⟨⟨⟨C (by omega),C (by omega),C (by omega),C (by omega)⟩,C (by omega),C (by omega)⟩,b1.1.1,b1.1.2,b1.2.1,b1.2.2⟩
 by_cases hb:x0>=x1\/y0>=y1
 ·refine call9 (qEnt _ _ _ _ _ _ _ _ _ _ ⟨fun _ => ?_,fun k=>absurd hb k⟩)
  unfold O.entB;rw [if_pos hb]
 ·have e:O.entB x0 y0 x1 y1 ax ay bx by_=bif O.Zez ax (bx-ax) x0 x1 then (bif O.Zez ay (by_-ay) y0 y1 then O.less (O.Zau ay (by_-ay) y0 y1 (O.Zau ax (bx-ax) x0 x1 ⟨0,1⟩)) (O.Zav ay (by_-ay) y0 y1 (O.Zav ax (bx-ax) x0 x1 ⟨1,1⟩)) else false) else false:=if_neg hb
  rw [e]
  refine call9 (qEnt _ _ _ _ _ _ _ _ _ _ ⟨fun k=>absurd k hb,fun _=>⟨by omega,fun k=>⟨ok1,by omega,fun j=>⟨ok2,⟨b2.1.1,b2.1.2,b2.2.1,b2.2.2⟩,?_⟩,fun j=>⟨ok2,?_⟩⟩,fun k=>⟨ok1,by omega,fun j=>⟨fun x=>absurd x (by decide),?_⟩,fun j=>⟨fun x=>absurd x (by decide),?_⟩⟩⟩⟩)
  ·rw [k,j];rfl
  ·rw [k,show O.Zez ay (by_-ay) y0 y1=false by simpa using j];rfl
  ·rw [show O.Zez ax (bx-ax) x0 x1=false by simpa using k];rfl
  ·rw [show O.Zez ax (bx-ax) x0 x1=false by simpa using k];rfl
theorem sgn_p {n:Int}:O.sgnI n>0 ↔ n>0:=by
 unfold O.sgnI
 split
 ·omega
 ·split <;> omega
theorem sgn_n {n:Int}:O.sgnI n<0 ↔ n<0:=by
 unfold O.sgnI
 split
 ·omega
 ·split <;> omega
theorem ev10 (x0 y0 x1 y1 tp ax ay bx by_:Int) (h:O.cc8 x0 y0 x1 y1 ax ay bx by_):Ev M1 (.pure 10 [.agg [.int .i64 x0,.int .i64 y0,.int .i64 x1,.int .i64 y1,.int .i64 tp],.agg [.int .i64 ax,.int .i64 ay],.agg [.int .i64 bx,.int .i64 by_]]) (.bool (O.entB x0 y0 x1 y1 ax ay bx by_)) []:=by
 unfold O.cc8 O.cc at h
 have C {n:Int} (k:-50000000<=n/\n<=50000000):O.cb n:=k
 have e:=ent_ref x0 y0 x1 y1 ax ay bx by_
 refine call10 (qEntR _ _ _ _ _ _ _ _ _ _ ⟨fun k=>congrArg AV.bool ?_,fun k=>⟨fun j=>congrArg AV.bool ?_,fun j => ?_⟩⟩)
 ·rw [Bool.eq_iff_iff,e,decide_eq_true_iff]
  unfold O.refP;rw [if_pos k]
 ·unfold O.refP at e
  rw [if_neg k] at e
  cases v:O.entB x0 y0 x1 y1 ax ay bx by_ with
  | false=>rfl
  | true =>
   have m1:(if bx>ax then bx else ax)=max ax bx:=by split <;> omega
   have m2:(if bx<ax then bx else ax)=min ax bx:=by split <;> omega
   have m3:(if by_>ay then by_ else ay)=max ay by_:=by split <;> omega
   have m4:(if by_<ay then by_ else ay)=min ay by_:=by split <;> omega
   rw [m1,m2,m3,m4] at j
   exact absurd (by rcases j with ((((j | j) | j) | j) | j) | j <;> simp [j]) (e.1 v).1
 ·refine ⟨⟨⟨C (by omega),C (by omega),C (by omega),C (by omega)⟩,C (by omega),C (by omega)⟩,⟨⟨C (by omega),C (by omega),C (by omega),C (by omega)⟩,C (by omega),C (by omega)⟩,⟨⟨C (by omega),C (by omega),C (by omega),C (by omega)⟩,C (by omega),C (by omega)⟩,⟨⟨C (by omega),C (by omega),C (by omega),C (by omega)⟩,C (by omega),C (by omega)⟩,?_⟩
  refine qEntR0 _ _ _ _ _ _ _ (qEntR1 _ _ _ _ _ _ _ (qEntR2 _ _ _ _ _ _ _ (qEntR3 _ _ _ _ _ _ _ (qEntR4 _ _ _ _ _ _ _ (congrArg AV.bool ?_)))))
  rw [Bool.eq_iff_iff,e]
  unfold O.refP
  rw [if_neg k]
  have m1:(if bx>ax then bx else ax)=max ax bx:=by split <;> omega
  have m2:(if bx<ax then bx else ax)=min ax bx:=by split <;> omega
  have m3:(if by_>ay then by_ else ay)=max ay by_:=by split <;> omega
  have m4:(if by_<ay then by_ else ay)=min ay by_:=by split <;> omega
  rw [m1,m2,m3,m4] at j
  simp only [dec_or,ZcL,cond_false,sgn_p,sgn_n,decide_eq_true_iff]
  constructor
  ·rintro ⟨h1,h2⟩
   exact ⟨fun x=>j (by rcases x with x | x | x | x | x | x <;> simp [x]),by simp only [or_assoc] at h1;exact h1,by simp only [or_assoc] at h2;exact h2⟩
  ·rintro ⟨_,h1,h2⟩
   simp only [or_assoc];exact ⟨h1,h2⟩
namespace O
def crnR (c:Bx):List Gp:=[⟨c.x0,c.y0⟩,⟨c.x0,c.y1⟩,⟨c.x1,c.y0⟩,⟨c.x1,c.y1⟩]
def Zb2 (bs:List Bx) (a b:Gp):List Gp:=a::bs.flatMap crnR++[b]
end O
theorem nod_loop {f:Bool} {bs:List Bx} {bx by_:Int} (hn:bs.length<=100) (m:Nat):∀ (i:Nat) (gs:List Gp) (v:Nat),i+m=bs.length->gs.length<=1+4*i->ZdN f bs gs v bx by_ i (Zaf (.vec false 2 ((gs++(bs.drop i).flatMap O.crnR++[(⟨bx,by_⟩:Gp)]).map Gp.a))):=by
 induction m with
 | zero =>
  intro i gs v e hg
  refine qNodL _ _ _ _ _ _ _ _ ⟨fun x=>by omega,fun _=>⟨by omega,?_⟩⟩
  rw [List.drop_eq_nil_of_le (by omega),List.flatMap_nil,List.append_nil];exact .refl _
 | succ m ih =>
  intro i gs v e hg
  have hi:i<bs.length:=by omega
  refine qNodL _ _ _ _ _ _ _ _ ⟨fun x => ?_,fun x=>by omega⟩
  rw [Int.toNat_natCast,show (i:Int)+1=((i+1:Nat):Int) by omega]
  refine ⟨by omega,hi,by omega,by omega,?_⟩
  have nx:=ih (i+1) (gs++O.crnR (bs.getD i default)) (v+1) (by omega) (by rw [List.length_append];show gs.length+4<=_;omega)
  rw [ZaO hi,List.flatMap_cons,<- List.append_assoc gs]
  exact nx
theorem ev17 (f:Bool) (bs:List Bx) (ax ay bx by_:Int) (h:bs.length<=100):Ev M1 (.pure 17 [.vec f 5 (bs.map Bx.a),.agg [.int .i64 ax,.int .i64 ay],.agg [.int .i64 bx,.int .i64 by_]]) (.vec false 2 ((O.Zb2 bs ⟨ax,ay⟩ ⟨bx,by_⟩).map Gp.a)) []:=by
 refine call17 (qNod _ _ _ _ _ _ _ (qNodI _ _ _ _ _ _ _ ⟨fun x=>⟨by omega,?_⟩,fun x => ?_⟩))
 ·have nx:=nod_loop (f:=f) (bx:=bx) (by_:=by_) h (bs.length-1) 1 ((⟨ax,ay⟩:Gp)::O.crnR (bs.getD 0 default)) 0 (by omega) (by show 5<=_;omega)
  have e:bs=bs.getD 0 default::bs.drop 1:=by
   have:=ZaO (d:=bs) (i:=0) (by omega);rwa [List.drop_zero] at this
  have e2:O.Zb2 bs ⟨ax,ay⟩ ⟨bx,by_⟩=((⟨ax,ay⟩:Gp)::O.crnR (bs.getD 0 default))++(bs.drop 1).flatMap O.crnR++[(⟨bx,by_⟩:Gp)]:=by
   unfold O.Zb2
   rw [show bs.flatMap O.crnR=O.crnR (bs.getD 0 default)++(bs.drop 1).flatMap O.crnR by conv=>lhs;rw [e,List.flatMap_cons]]
   simp
  rw [e2];exact nx
 ·have:bs=[]:=List.eq_nil_of_length_eq_zero (by omega)
  subst this
  exact .refl _
end Go.Av

namespace Go.Av
open Go.Proofs
set_option maxRecDepth 100000
def fi12:Fi:=⟨117,[.tmp 6]⟩
def kp12:List (Nat × List Nat):=[(0,[0,4,5]),(1,[0,4,5,7]),(2,[0,4,5,7,13]),(3,[0,4,5,7]),(4,[0,4,5,7,39]),(5,[6]),(6,[0,4,5,42]),(7,[6]),(8,[0,4,5,60]),(9,[6]),(10,[0,4,5,8]),(11,[0,4,5,8,64]),(12,[0,4,5,8]),(13,[0,4,5,8,96]),(14,[6]),(15,[0,4,5,9]),(16,[0,4,5,9,100]),(17,[0,4,5,9]),(18,[0,4,5,9,116]),(19,[6]),(20,[6])]
def fi15:Fi:=⟨33,[.tmp 4]⟩
def kp15:List (Nat × List Nat):=[(0,[0,1]),(1,[0,1,5]),(2,[0,1,5,10]),(3,[0,1,5]),(4,[0,1,5,6]),(5,[0,1,5,6,16]),(6,[0,1,5,6]),(7,[0,1,5,6,32]),(8,[4]),(9,[4])]
def qOp_at (f g:Bool) (bs:List Bx) (l:List Gp) (Q:AV->Heap->Prop):Prop:=Wp M1 (.run fi15 (atC (cd Try.f15) []) [(0,.vec f 5 (bs.map Bx.a)),(1,.vec g 2 (l.map Gp.a))] []) Q
def Zek (f g:Bool) (bs:List Bx) (l:List Gp) (i:Int) (Q:AV->Heap->Prop):Prop:=Wp M1 (.run fi15 (atC (cd Try.f15) [1,0,1,0,0]) [(0,.vec f 5 (bs.map Bx.a)),(1,.vec g 2 (l.map Gp.a)),(5,.int .i64 i)] []) Q
def Zej (f g:Bool) (bs:List Bx) (l:List Gp) (i k:Int) (Q:AV->Heap->Prop):Prop:=Wp M1 (.run fi15 (atC (cd Try.f15) [1,0,1,0,0,1,0,0,1,0,0]) [(0,.vec f 5 (bs.map Bx.a)),(1,.vec g 2 (l.map Gp.a)),(5,.int .i64 i),(6,.int .i64 k)] []) Q
def qErr_at (f:Bool) (bs:List Bx) (ax ay bx by_:Int) (Q:AV->Heap->Prop):Prop:=Wp M1 (.run fi12 (atC (cd Try.f12) []) [(0,.vec f 5 (bs.map Bx.a)),(1,.agg [.int .i64 ax,.int .i64 ay]),(2,.agg [.int .i64 bx,.int .i64 by_])] []) Q
def ZdV (f:Bool) (bs:List Bx) (ax ay bx by_:Int) (i:Int) (Q:AV->Heap->Prop):Prop:=Wp M1 (.run fi12 (atC (cd Try.f12) [1,0,1,0,0]) [(0,.vec f 5 (bs.map Bx.a)),(4,.ptr 0 0 0 0),(5,.ptr 1 0 0 0),(7,.int .i64 i)] [⟨[.agg [.int .i64 ax,.int .i64 ay]],2,0,false,false⟩,⟨[.agg [.int .i64 bx,.int .i64 by_]],2,0,false,false⟩]) Q
def Zdg (f:Bool) (bs:List Bx) (ax ay bx by_:Int) (i:Int) (Q:AV->Heap->Prop):Prop:=Wp M1 (.run fi12 (atC (cd Try.f12) [1,1,1,1,0,1,0,0]) [(0,.vec f 5 (bs.map Bx.a)),(4,.ptr 0 0 0 0),(5,.ptr 1 0 0 0),(8,.int .i64 i)] [⟨[.agg [.int .i64 ax,.int .i64 ay]],2,0,false,false⟩,⟨[.agg [.int .i64 bx,.int .i64 by_]],2,0,false,false⟩]) Q
def Zdf (f:Bool) (bs:List Bx) (ax ay bx by_:Int) (i:Int) (Q:AV->Heap->Prop):Prop:=Wp M1 (.run fi12 (atC (cd Try.f12) [1,1,1,1,1,0,1,0,0]) [(0,.vec f 5 (bs.map Bx.a)),(4,.ptr 0 0 0 0),(5,.ptr 1 0 0 0),(9,.int .i64 i)] [⟨[.agg [.int .i64 ax,.int .i64 ay]],2,0,false,false⟩,⟨[.agg [.int .i64 bx,.int .i64 by_]],2,0,false,false⟩]) Q
theorem call12 {args:List AV} {d:AV} (h:wc M1 fi12 Try.f12 args d):Ev M1 (.pure 12 args) d []:=pcl _ _ (by kernel_rfl) h
theorem call15 {args:List AV} {d:AV} (h:wc M1 fi15 Try.f15 args d):Ev M1 (.pure 15 args) d []:=pcl _ _ (by kernel_rfl) h
theorem qOp (f g:Bool) (bs:List Bx) (l:List Gp)  (dq:AV) (H :
  Zek f g bs l 0 (Zaf dq)) :
 qOp_at f g bs l (Zaf dq):=by
 unfold qOp_at
 exact Zac (G:=Zad kp15 [] []) 1000 [] ⟨(atC (cd Try.f15) [1,0,1,0,0]),[(0,AV.vec f 5 (List.map Bx.a bs)),(1,AV.vec g 2 (List.map Gp.a l)),(5,vi 0)],[],_,[],_⟩ (by kernel_rfl) b0 q0 c0 H
theorem qOpA (f g:Bool) (bs:List Bx) (l:List Gp) (i:Int)  (dq:AV) (H :
  ((i<(↑bs.length:Int))->Zej f g bs l i 1 (Zaf dq)) /\
  (¬(i<(↑bs.length:Int))->vb true=dq)) :
 Zek f g bs l i (Zaf dq):=by
 unfold Zek
 have w1:(List.map Bx.a bs).length=bs.length:=List.length_map ..
 have i2:(decide (i<(↑(List.map Bx.a bs).length:Int)))=true ↔ (i<(↑bs.length:Int)):=(by (try rw [w1]);all_goals exact Zab)
 rcases xq H with ⟨d3,H⟩|⟨d3,H⟩
 ·exact Zac (G:=Zad kp15 [] []) 1000 [true] ⟨(atC (cd Try.f15) [1,0,1,0,0,1,0,0,1,0,0]),[(0,AV.vec f 5 (List.map Bx.a bs)),(1,AV.vec g 2 (List.map Gp.a l)),(5,vi i),(6,vi 1)],[],_,[],_⟩ (by kernel_rfl) (bc (Zal (i2.2 d3)) b0) q0 c0 H
 ·exact Zah (G:=Zad kp15 [] []) 1000 [false] (vb true) (by kernel_rfl) (bc (Zak (fun h=>d3 (i2.1 h))) b0) q0 c0 H
noncomputable abbrev zNqE1 (bs:List Bx) (i:Int) (l:List Gp) (k:Int):=O.entB (bs.getD i.toNat default).x0 (bs.getD i.toNat default).y0 (bs.getD i.toNat default).x1 (bs.getD i.toNat default).y1 (l.getD (k-1).toNat default).x (l.getD (k-1).toNat default).y (l.getD k.toNat default).x (l.getD k.toNat default).y
noncomputable abbrev zNqE2 (bs:List Bx) (i:Int):=ag [vi (bs.getD i.toNat default).x0,vi (bs.getD i.toNat default).y0,vi (bs.getD i.toNat default).x1,vi (bs.getD i.toNat default).y1,vi (bs.getD i.toNat default).top]
theorem qOpB (f g:Bool) (bs:List Bx) (l:List Gp) (i k:Int)  (dq:AV) (H :
  ((k<(↑l.length:Int))->(-9223372036854775808<=k-1/\k-1<=9223372036854775807) /\
   (O.cc8 (bs.getD i.toNat default).x0 (bs.getD i.toNat default).y0 (bs.getD i.toNat default).x1 (bs.getD i.toNat default).y1 (l.getD (k-1).toNat default).x (l.getD (k-1).toNat default).y (l.getD k.toNat default).x (l.getD k.toNat default).y) /\
   (0<=i) /\
   (i.toNat<bs.length) /\
   (0<=k-1) /\
   ((k-1).toNat<l.length) /\
   (0<=k) /\
   (k.toNat<l.length) /\
   ((O.entB (bs.getD i.toNat default).x0 (bs.getD i.toNat default).y0 (bs.getD i.toNat default).x1 (bs.getD i.toNat default).y1 (l.getD (k-1).toNat default).x (l.getD (k-1).toNat default).y (l.getD k.toNat default).x (l.getD k.toNat default).y=true)->vb false=dq) /\
   (¬(O.entB (bs.getD i.toNat default).x0 (bs.getD i.toNat default).y0 (bs.getD i.toNat default).x1 (bs.getD i.toNat default).y1 (l.getD (k-1).toNat default).x (l.getD (k-1).toNat default).y (l.getD k.toNat default).x (l.getD k.toNat default).y=true)->(-9223372036854775808<=k+1/\k+1<=9223372036854775807) /\
    Zej f g bs l i (k+1) (Zaf dq))) /\
  (¬(k<(↑l.length:Int))->(-9223372036854775808<=i+1/\i+1<=9223372036854775807) /\
   Zek f g bs l (i+1) (Zaf dq))) :
 Zej f g bs l i k (Zaf dq):=by
 unfold Zej
 have w1:(List.map Gp.a l).length=l.length:=List.length_map ..
 have i2:(decide (k<(↑(List.map Gp.a l).length:Int)))=true ↔ (k<(↑l.length:Int)):=(by (try rw [w1]);all_goals exact Zab)
 rcases xq H with ⟨d3,H⟩|⟨d3,H⟩
 ·obtain ⟨k4,H⟩:=H
  have w5:wi (k-1)=k-1:=wI64 k4
  obtain ⟨k6,k8,H⟩:=H
  have w9:(List.map Bx.a bs).length=bs.length:=List.length_map ..
  have i10:(decide (i.toNat<(List.map Bx.a bs).length))=true ↔ (i.toNat<bs.length):=(by (try rw [w9]);all_goals exact Zab)
  obtain ⟨k11,H⟩:=H
  have i12:(decide (0<=wi (k-1)))=true ↔ (0<=k-1):=(by (try rw [w5]);all_goals exact Zab)
  obtain ⟨k13,H⟩:=H
  have i14:(decide ((wi (k-1)).toNat<(List.map Gp.a l).length))=true ↔ ((k-1).toNat<l.length):=(by (try rw [w1]);(try rw [w5]);all_goals exact Zab)
  obtain ⟨k15,k17,H⟩:=H
  have i18:(decide (k.toNat<(List.map Gp.a l).length))=true ↔ (k.toNat<l.length):=(by (try rw [w1]);all_goals exact Zab)
  obtain ⟨k19,H⟩:=H
  refine Zac (G:=Zad kp15 [(7,3,.elem (zNqE2 bs i)),(7,8,.elem (ag [vi (l.getD (k-1).toNat default).x,vi (l.getD (k-1).toNat default).y])),(7,12,.elem (ag [vi (l.getD k.toNat default).x,vi (l.getD k.toNat default).y])),(7,13,.call (vb (zNqE1 bs i l k)) none)] []) 9 [true] ⟨(atC (cd Try.f15) [1,0,1,0,0,1,0,0,1,0,0,1,0,0,1]),[(0,AV.vec f 5 (List.map Bx.a bs)),(1,AV.vec g 2 (List.map Gp.a l)),(5,vi i),(6,vi k),(32,vb (zNqE1 bs i l k))],[],_,[((List.map Bx.a bs).get?Internal i.toNat=some (zNqE2 bs i)),((List.map Gp.a l).get?Internal (wi (k-1)).toNat=some (ag [vi (l.getD (k-1).toNat default).x,vi (l.getD (k-1).toNat default).y])),((List.map Gp.a l).get?Internal k.toNat=some (ag [vi (l.getD k.toNat default).x,vi (l.getD k.toNat default).y]))],_⟩ (by kernel_rfl) (bc (Zal (i2.2 d3)) (bc (Zab.2 k8) (bc (i10.2 k11) (bc (i12.2 k13) (bc (i14.2 k15) (bc (Zab.2 k17) (bc (i18.2 k19) b0))))))) (qc (Zai k11) (qc (by (try rw [w5]);all_goals exact (Zai k15)) (qc (Zai k19) q0))) (ce (@ev10 ((bs.getD i.toNat default).x0) ((bs.getD i.toNat default).y0) ((bs.getD i.toNat default).x1) ((bs.getD i.toNat default).y1) ((bs.getD i.toNat default).top) ((l.getD (k-1).toNat default).x) ((l.getD (k-1).toNat default).y) ((l.getD k.toNat default).x) ((l.getD k.toNat default).y) k6) c0) ?_
  rcases xq H with ⟨d21,H⟩|⟨d21,H⟩
  ·exact Zah (G:=Zad kp15 [] []) 1000 [true] (asm:=[(zNqE1 bs i l k)==true]) (vb false) (by kernel_rfl) (bc (Zal ((ZaD _).2 d21)) b0) q0 c0 H
  ·obtain ⟨k22,H⟩:=H
   have w23:wi (k+1)=k+1:=wI64 k22
   exact Zac (G:=Zad kp15 [] []) 1000 [false] ⟨(atC (cd Try.f15) [1,0,1,0,0,1,0,0,1,0,0]),[(0,AV.vec f 5 (List.map Bx.a bs)),(1,AV.vec g 2 (List.map Gp.a l)),(5,vi i),(6,vi (wi (k+1)))],[],[(zNqE1 bs i l k)==false],[],_⟩ (by kernel_rfl) (bc (Zak (fun h=>d21 ((ZaD _).1 h))) b0) q0 c0 (by (try rw [w23]);all_goals exact H)
 ·obtain ⟨k24,H⟩:=H
  have w25:wi (i+1)=i+1:=wI64 k24
  exact Zac (G:=Zad kp15 [] []) 1000 [false] ⟨(atC (cd Try.f15) [1,0,1,0,0]),[(0,AV.vec f 5 (List.map Bx.a bs)),(1,AV.vec g 2 (List.map Gp.a l)),(5,vi (wi (i+1)))],[],_,[],_⟩ (by kernel_rfl) (bc (Zak (fun h=>d3 (i2.1 h))) b0) q0 c0 (by (try rw [w25]);all_goals exact H)
theorem qErr (f:Bool) (bs:List Bx) (ax ay bx by_:Int)  (dq:AV) (H :
  ZdV f bs ax ay bx by_ 0 (Zaf dq)) :
 qErr_at f bs ax ay bx by_ (Zaf dq):=by
 unfold qErr_at
 exact Zac (G:=Zad kp12 [] []) 1000 [] ⟨(atC (cd Try.f12) [1,0,1,0,0]),[(0,AV.vec f 5 (List.map Bx.a bs)),(4,AV.ptr 0 0 0 0),(5,AV.ptr 1 0 0 0),(7,vi 0)],[⟨[ag [vi ax,vi ay]],2,0,false,false⟩,⟨[ag [vi bx,vi by_]],2,0,false,false⟩],_,[],_⟩ (by kernel_rfl) b0 q0 c0 H
noncomputable abbrev zNqE4 (bs:List Bx) (i:Int):=ag [vi (bs.getD i.toNat default).x0,vi (bs.getD i.toNat default).y0,vi (bs.getD i.toNat default).x1,vi (bs.getD i.toNat default).y1,vi (bs.getD i.toNat default).top]
noncomputable abbrev zNqE5 (ax:Int) (ay:Int):=ag [vi ax,vi ay]
noncomputable abbrev zNqE6 (bx:Int) (by_:Int):=ag [vi bx,vi by_]
theorem qErrA (f:Bool) (bs:List Bx) (ax ay bx by_:Int) (i:Int)  (dq:AV) (H :
  ((i<(↑bs.length:Int))->(0<=i) /\
   (i.toNat<bs.length) /\
   ((((bs.getD i.toNat default).x0>(bs.getD i.toNat default).x1)\/((bs.getD i.toNat default).y0>(bs.getD i.toNat default).y1))->vi 1=dq) /\
   (¬(((bs.getD i.toNat default).x0>(bs.getD i.toNat default).x1)\/((bs.getD i.toNat default).y0>(bs.getD i.toNat default).y1))->(-9223372036854775808<=i+1/\i+1<=9223372036854775807) /\
    ZdV f bs ax ay bx by_ (i+1) (Zaf dq))) /\
  (¬(i<(↑bs.length:Int))->(((↑bs.length:Int)>8)->vi 3=dq) /\
   (¬((↑bs.length:Int)>8)->(((((O.fr1 ax)\/(O.fr1 ay))\/(O.fr1 bx))\/(O.fr1 by_))->vi 11=dq) /\
    (¬((((O.fr1 ax)\/(O.fr1 ay))\/(O.fr1 bx))\/(O.fr1 by_))->Zdg f bs ax ay bx by_ 0 (Zaf dq))))) :
 ZdV f bs ax ay bx by_ i (Zaf dq):=by
 unfold ZdV
 have w1:(List.map Bx.a bs).length=bs.length:=List.length_map ..
 have i2:(decide (i<(↑(List.map Bx.a bs).length:Int)))=true ↔ (i<(↑bs.length:Int)):=(by (try rw [w1]);all_goals exact Zab)
 rcases xq H with ⟨d3,H⟩|⟨d3,H⟩
 ·obtain ⟨k5,H⟩:=H
  have i6:(decide (i.toNat<(List.map Bx.a bs).length))=true ↔ (i.toNat<bs.length):=(by (try rw [w1]);all_goals exact Zab)
  obtain ⟨k7,H⟩:=H
  have i9:(decide (i.toNat<(List.map Bx.a bs).length))=true ↔ (i.toNat<bs.length):=(by (try rw [w1]);all_goals exact Zab)
  have i11:(!(decide ((bs.getD i.toNat default).x0>(bs.getD i.toNat default).x1)==false&&true)||decide (i.toNat<(List.map Bx.a bs).length))=true ↔ ((¬((bs.getD i.toNat default).x0>(bs.getD i.toNat default).x1))->(i.toNat<bs.length)):=(by (try rw [w1]);all_goals exact (Za2 (i_at (i_bf Zab)) Zab))
  have i13:(!(decide ((bs.getD i.toNat default).x0>(bs.getD i.toNat default).x1)==false&&true)||decide (i.toNat<(List.map Bx.a bs).length))=true ↔ ((¬((bs.getD i.toNat default).x0>(bs.getD i.toNat default).x1))->(i.toNat<bs.length)):=(by (try rw [w1]);all_goals exact (Za2 (i_at (i_bf Zab)) Zab))
  refine Zac (G:=Zad kp12 [(4,4,.elem (zNqE4 bs i)),(4,9,.elem (zNqE4 bs i)),(4,16,.elem (zNqE4 bs i)),(4,21,.elem (zNqE4 bs i))] []) 9 [true] ⟨(atC (cd Try.f12) [1,0,1,0,0,1,0,0,1]),[(0,AV.vec f 5 (List.map Bx.a bs)),(4,AV.ptr 0 0 0 0),(5,AV.ptr 1 0 0 0),(7,vi i),(39,vb (bif decide ((bs.getD i.toNat default).x0>(bs.getD i.toNat default).x1) then true else decide ((bs.getD i.toNat default).y0>(bs.getD i.toNat default).y1)))],[⟨[(zNqE5 ax ay)],2,0,false,false⟩,⟨[(zNqE6 bx by_)],2,0,false,false⟩],[(decide (i<(↑(List.map Bx.a bs).length:Int)))==true,decide (0<=i),decide (i.toNat<(List.map Bx.a bs).length),decide (0<=i),decide (i.toNat<(List.map Bx.a bs).length),!(decide ((bs.getD i.toNat default).x0>(bs.getD i.toNat default).x1)==false&&true)||decide (0<=i),!(decide ((bs.getD i.toNat default).x0>(bs.getD i.toNat default).x1)==false&&true)||decide (i.toNat<(List.map Bx.a bs).length),!(decide ((bs.getD i.toNat default).x0>(bs.getD i.toNat default).x1)==false&&true)||decide (0<=i),!(decide ((bs.getD i.toNat default).x0>(bs.getD i.toNat default).x1)==false&&true)||decide (i.toNat<(List.map Bx.a bs).length)],[((List.map Bx.a bs).get?Internal i.toNat=some (zNqE4 bs i)),((List.map Bx.a bs).get?Internal i.toNat=some (zNqE4 bs i)),((decide ((bs.getD i.toNat default).x0>(bs.getD i.toNat default).x1)==false&&true)=true->(List.map Bx.a bs).get?Internal i.toNat=some (zNqE4 bs i)),((decide ((bs.getD i.toNat default).x0>(bs.getD i.toNat default).x1)==false&&true)=true->(List.map Bx.a bs).get?Internal i.toNat=some (zNqE4 bs i))],_⟩ (by kernel_rfl) (bc (Zal (i2.2 d3)) (bc (Zab.2 k5) (bc (i6.2 k7) (bc (Zab.2 k5) (bc (i9.2 k7) (bc ((Za2 (i_at (i_bf Zab)) Zab).2 (fun _=>k5)) (bc (i11.2 (fun _=>k7)) (bc ((Za2 (i_at (i_bf Zab)) Zab).2 (fun _=>k5)) (bc (i13.2 (fun _=>k7)) b0))))))))) (qc (Zai k7) (qc (Zai k7) (qc (fun h=>Zai k7) (qc (fun h=>Zai k7) q0)))) c0 ?_
  rcases xq H with ⟨d17,H⟩|⟨d17,H⟩
  ·exact Zah (G:=Zad kp12 [] []) 1000 [true] (vi 1) (by kernel_rfl) (bc (Zal ((ZaF Zab Zab).2 d17)) b0) q0 c0 H
  ·obtain ⟨k18,H⟩:=H
   have w19:wi (i+1)=i+1:=wI64 k18
   exact Zac (G:=Zad kp12 [] []) 1000 [false] ⟨(atC (cd Try.f12) [1,0,1,0,0]),[(0,AV.vec f 5 (List.map Bx.a bs)),(4,AV.ptr 0 0 0 0),(5,AV.ptr 1 0 0 0),(7,vi (wi (i+1)))],[⟨[(zNqE5 ax ay)],2,0,false,false⟩,⟨[(zNqE6 bx by_)],2,0,false,false⟩],_,[],_⟩ (by kernel_rfl) (bc (Zak (fun h=>d17 ((ZaF Zab Zab).1 h))) b0) q0 c0 (by (try rw [w19]);all_goals exact H)
 ·have i20:(decide ((↑(List.map Bx.a bs).length:Int)>8))=true ↔ ((↑bs.length:Int)>8):=(by (try rw [w1]);all_goals exact Zab)
  rcases xq H with ⟨d21,H⟩|⟨d21,H⟩
  ·exact Zah (G:=Zad kp12 [] []) 1000 [false,true] (vi 3) (by kernel_rfl) (bc (Zak (fun h=>d3 (i2.1 h))) (bc (Zal (i20.2 d21)) b0)) q0 c0 H
  ·refine Zac (G:=Zad kp12 [(8,2,.call (vb (decide (O.fr1 ax))) none),(8,6,.call (vb (decide (O.fr1 ay))) none),(8,11,.call (vb (decide (O.fr1 bx))) none),(8,16,.call (vb (decide (O.fr1 by_))) none)] []) 13 [false,false] ⟨(atC (cd Try.f12) [1,1,1,0,1]),[(0,AV.vec f 5 (List.map Bx.a bs)),(4,AV.ptr 0 0 0 0),(5,AV.ptr 1 0 0 0),(60,vb (bif bif bif decide (O.fr1 ax) then true else decide (O.fr1 ay) then true else decide (O.fr1 bx) then true else decide (O.fr1 by_)))],[⟨[(zNqE5 ax ay)],2,0,false,false⟩,⟨[(zNqE6 bx by_)],2,0,false,false⟩],[(decide (i<(↑(List.map Bx.a bs).length:Int)))==false,(decide ((↑(List.map Bx.a bs).length:Int)>8))==false,true,!(decide (O.fr1 ax)==false&&true)||true,!((bif decide (O.fr1 ax) then true else decide (O.fr1 ay))==false&&true)||true,!((bif bif decide (O.fr1 ax) then true else decide (O.fr1 ay) then true else decide (O.fr1 bx))==false&&true)||true],[],[⟨true,false,45,[vi ax],[],vb (decide (O.fr1 ax)),[]⟩,⟨decide (O.fr1 ax)==false&&true&&true,false,45,[vi ay],[],vb (decide (O.fr1 ay)),[]⟩,⟨(bif decide (O.fr1 ax) then true else decide (O.fr1 ay))==false&&true&&true,false,45,[vi bx],[],vb (decide (O.fr1 bx)),[]⟩,⟨(bif bif decide (O.fr1 ax) then true else decide (O.fr1 ay) then true else decide (O.fr1 bx))==false&&true&&true,false,45,[vi by_],[],vb (decide (O.fr1 by_)),[]⟩]⟩ (by kernel_rfl) (bc (Zak (fun h=>d3 (i2.1 h))) (bc (Zak (fun h=>d21 (i20.1 h))) (bc rfl (bc (Bool.or_true _) (bc (Bool.or_true _) (bc (Bool.or_true _) b0)))))) q0 (cc (fun _=>(@ev45 ax)) (cc (fun hc=>((@ev45 ay):Ev M1 (Conf.pure 45 [vi ay]) (vb (decide (O.fr1 ay))) [])) (cc (fun hc=>((@ev45 bx):Ev M1 (Conf.pure 45 [vi bx]) (vb (decide (O.fr1 bx))) [])) (cc (fun hc=>((@ev45 by_):Ev M1 (Conf.pure 45 [vi by_]) (vb (decide (O.fr1 by_))) [])) c0)))) ?_
   rcases xq H with ⟨d26,H⟩|⟨d26,H⟩
   ·exact Zah (G:=Zad kp12 [] []) 1000 [true] (vi 11) (by kernel_rfl) (bc (Zal ((ZaF (ZaF (ZaF Zab Zab) Zab) Zab).2 d26)) b0) q0 c0 H
   ·exact Zac (G:=Zad kp12 [] []) 1000 [false] ⟨(atC (cd Try.f12) [1,1,1,1,0,1,0,0]),[(0,AV.vec f 5 (List.map Bx.a bs)),(4,AV.ptr 0 0 0 0),(5,AV.ptr 1 0 0 0),(8,vi 0)],[⟨[(zNqE5 ax ay)],2,0,false,false⟩,⟨[(zNqE6 bx by_)],2,0,false,false⟩],_,[],_⟩ (by kernel_rfl) (bc (Zak (fun h=>d26 ((ZaF (ZaF (ZaF Zab Zab) Zab) Zab).1 h))) b0) q0 c0 H
noncomputable abbrev zNqE7 (bs:List Bx) (i:Int):=ag [vi (bs.getD i.toNat default).x0,vi (bs.getD i.toNat default).y0,vi (bs.getD i.toNat default).x1,vi (bs.getD i.toNat default).y1,vi (bs.getD i.toNat default).top]
noncomputable abbrev zNqE8 (bs:List Bx) (i:Int):=bif bif decide (O.fr1 (bs.getD i.toNat default).x0) then true else decide (O.fr1 (bs.getD i.toNat default).y0) then true else decide (O.fr1 (bs.getD i.toNat default).x1)
noncomputable abbrev zNqE9 (bs:List Bx) (i:Int):=bif decide (O.fr1 (bs.getD i.toNat default).x0) then true else decide (O.fr1 (bs.getD i.toNat default).y0)
theorem qErrB (f:Bool) (bs:List Bx) (ax ay bx by_:Int) (i:Int)  (dq:AV) (H :
  ((i<(↑bs.length:Int))->(0<=i) /\
   (i.toNat<bs.length) /\
   (((((O.fr1 (bs.getD i.toNat default).x0)\/(O.fr1 (bs.getD i.toNat default).y0))\/(O.fr1 (bs.getD i.toNat default).x1))\/(O.fr1 (bs.getD i.toNat default).y1))->vi 11=dq) /\
   (¬((((O.fr1 (bs.getD i.toNat default).x0)\/(O.fr1 (bs.getD i.toNat default).y0))\/(O.fr1 (bs.getD i.toNat default).x1))\/(O.fr1 (bs.getD i.toNat default).y1))->(-9223372036854775808<=i+1/\i+1<=9223372036854775807) /\
    Zdg f bs ax ay bx by_ (i+1) (Zaf dq))) /\
  (¬(i<(↑bs.length:Int))->Zdf f bs ax ay bx by_ 0 (Zaf dq))) :
 Zdg f bs ax ay bx by_ i (Zaf dq):=by
 unfold Zdg
 have w1:(List.map Bx.a bs).length=bs.length:=List.length_map ..
 have i2:(decide (i<(↑(List.map Bx.a bs).length:Int)))=true ↔ (i<(↑bs.length:Int)):=(by (try rw [w1]);all_goals exact Zab)
 rcases xq H with ⟨d3,H⟩|⟨d3,H⟩
 ·obtain ⟨k8,H⟩:=H
  have i9:(decide (i.toNat<(List.map Bx.a bs).length))=true ↔ (i.toNat<bs.length):=(by (try rw [w1]);all_goals exact Zab)
  obtain ⟨k10,H⟩:=H
  have i12:(!(decide (O.fr1 (bs.getD i.toNat default).x0)==false&&true)||decide (i.toNat<(List.map Bx.a bs).length))=true ↔ ((¬(O.fr1 (bs.getD i.toNat default).x0))->(i.toNat<bs.length)):=(by (try rw [w1]);all_goals exact (Za2 (i_at (i_bf Zab)) Zab))
  have i14:(!((zNqE9 bs i)==false&&true)||decide (i.toNat<(List.map Bx.a bs).length))=true ↔ ((¬((O.fr1 (bs.getD i.toNat default).x0)\/(O.fr1 (bs.getD i.toNat default).y0)))->(i.toNat<bs.length)):=(by (try rw [w1]);all_goals exact (Za2 (i_at (i_bf (ZaF Zab Zab))) Zab))
  have i16:(!((zNqE8 bs i)==false&&true)||decide (i.toNat<(List.map Bx.a bs).length))=true ↔ ((¬(((O.fr1 (bs.getD i.toNat default).x0)\/(O.fr1 (bs.getD i.toNat default).y0))\/(O.fr1 (bs.getD i.toNat default).x1)))->(i.toNat<bs.length)):=(by (try rw [w1]);all_goals exact (Za2 (i_at (i_bf (ZaF (ZaF Zab Zab) Zab))) Zab))
  refine Zac (G:=Zad kp12 [(13,4,.elem (zNqE7 bs i)),(13,5,.call (vb (decide (O.fr1 (bs.getD i.toNat default).x0))) none),(13,11,.elem (zNqE7 bs i)),(13,12,.call (vb (decide (O.fr1 (bs.getD i.toNat default).y0))) none),(13,19,.elem (zNqE7 bs i)),(13,20,.call (vb (decide (O.fr1 (bs.getD i.toNat default).x1))) none),(13,27,.elem (zNqE7 bs i)),(13,28,.call (vb (decide (O.fr1 (bs.getD i.toNat default).y1))) none)] []) 9 [true] ⟨(atC (cd Try.f12) [1,1,1,1,0,1,0,0,1,0,0,1]),[(0,AV.vec f 5 (List.map Bx.a bs)),(4,AV.ptr 0 0 0 0),(5,AV.ptr 1 0 0 0),(8,vi i),(96,vb (bif bif bif decide (O.fr1 (bs.getD i.toNat default).x0) then true else decide (O.fr1 (bs.getD i.toNat default).y0) then true else decide (O.fr1 (bs.getD i.toNat default).x1) then true else decide (O.fr1 (bs.getD i.toNat default).y1)))],[⟨[ag [vi ax,vi ay]],2,0,false,false⟩,⟨[ag [vi bx,vi by_]],2,0,false,false⟩],[(decide (i<(↑(List.map Bx.a bs).length:Int)))==true,decide (0<=i),decide (i.toNat<(List.map Bx.a bs).length),!(decide (O.fr1 (bs.getD i.toNat default).x0)==false&&true)||decide (0<=i),!(decide (O.fr1 (bs.getD i.toNat default).x0)==false&&true)||decide (i.toNat<(List.map Bx.a bs).length),!((zNqE9 bs i)==false&&true)||decide (0<=i),!((zNqE9 bs i)==false&&true)||decide (i.toNat<(List.map Bx.a bs).length),!((zNqE8 bs i)==false&&true)||decide (0<=i),!((zNqE8 bs i)==false&&true)||decide (i.toNat<(List.map Bx.a bs).length)],[((List.map Bx.a bs).get?Internal i.toNat=some (zNqE7 bs i)),((decide (O.fr1 (bs.getD i.toNat default).x0)==false&&true)=true->(List.map Bx.a bs).get?Internal i.toNat=some (zNqE7 bs i)),(((zNqE9 bs i)==false&&true)=true->(List.map Bx.a bs).get?Internal i.toNat=some (zNqE7 bs i)),(((zNqE8 bs i)==false&&true)=true->(List.map Bx.a bs).get?Internal i.toNat=some (zNqE7 bs i))],[⟨true,false,45,[vi (bs.getD i.toNat default).x0],[],vb (decide (O.fr1 (bs.getD i.toNat default).x0)),[]⟩,⟨decide (O.fr1 (bs.getD i.toNat default).x0)==false&&true&&true,false,45,[vi (bs.getD i.toNat default).y0],[],vb (decide (O.fr1 (bs.getD i.toNat default).y0)),[]⟩,⟨(zNqE9 bs i)==false&&true&&true,false,45,[vi (bs.getD i.toNat default).x1],[],vb (decide (O.fr1 (bs.getD i.toNat default).x1)),[]⟩,⟨(zNqE8 bs i)==false&&true&&true,false,45,[vi (bs.getD i.toNat default).y1],[],vb (decide (O.fr1 (bs.getD i.toNat default).y1)),[]⟩]⟩ (by kernel_rfl) (bc (Zal (i2.2 d3)) (bc (Zab.2 k8) (bc (i9.2 k10) (bc ((Za2 (i_at (i_bf Zab)) Zab).2 (fun _=>k8)) (bc (i12.2 (fun _=>k10)) (bc ((Za2 (i_at (i_bf (ZaF Zab Zab))) Zab).2 (fun _=>k8)) (bc (i14.2 (fun _=>k10)) (bc ((Za2 (i_at (i_bf (ZaF (ZaF Zab Zab) Zab))) Zab).2 (fun _=>k8)) (bc (i16.2 (fun _=>k10)) b0))))))))) (qc (Zai k10) (qc (fun h=>Zai k10) (qc (fun h=>Zai k10) (qc (fun h=>Zai k10) q0)))) (cc (fun _=>(@ev45 ((bs.getD i.toNat default).x0))) (cc (fun hc=>((@ev45 ((bs.getD i.toNat default).y0)):Ev M1 (Conf.pure 45 [vi (bs.getD i.toNat default).y0]) (vb (decide (O.fr1 (bs.getD i.toNat default).y0))) [])) (cc (fun hc=>((@ev45 ((bs.getD i.toNat default).x1)):Ev M1 (Conf.pure 45 [vi (bs.getD i.toNat default).x1]) (vb (decide (O.fr1 (bs.getD i.toNat default).x1))) [])) (cc (fun hc=>((@ev45 ((bs.getD i.toNat default).y1)):Ev M1 (Conf.pure 45 [vi (bs.getD i.toNat default).y1]) (vb (decide (O.fr1 (bs.getD i.toNat default).y1))) [])) c0)))) ?_
  rcases xq H with ⟨d21,H⟩|⟨d21,H⟩
  ·exact Zah (G:=Zad kp12 [] []) 1000 [true] (vi 11) (by kernel_rfl) (bc (Zal ((ZaF (ZaF (ZaF Zab Zab) Zab) Zab).2 d21)) b0) q0 c0 H
  ·obtain ⟨k22,H⟩:=H
   have w23:wi (i+1)=i+1:=wI64 k22
   exact Zac (G:=Zad kp12 [] []) 1000 [false] ⟨(atC (cd Try.f12) [1,1,1,1,0,1,0,0]),[(0,AV.vec f 5 (List.map Bx.a bs)),(4,AV.ptr 0 0 0 0),(5,AV.ptr 1 0 0 0),(8,vi (wi (i+1)))],[⟨[ag [vi ax,vi ay]],2,0,false,false⟩,⟨[ag [vi bx,vi by_]],2,0,false,false⟩],_,[],_⟩ (by kernel_rfl) (bc (Zak (fun h=>d21 ((ZaF (ZaF (ZaF Zab Zab) Zab) Zab).1 h))) b0) q0 c0 (by (try rw [w23]);all_goals exact H)
 ·exact Zac (G:=Zad kp12 [] []) 1000 [false] ⟨(atC (cd Try.f12) [1,1,1,1,1,0,1,0,0]),[(0,AV.vec f 5 (List.map Bx.a bs)),(4,AV.ptr 0 0 0 0),(5,AV.ptr 1 0 0 0),(9,vi 0)],[⟨[ag [vi ax,vi ay]],2,0,false,false⟩,⟨[ag [vi bx,vi by_]],2,0,false,false⟩],_,[],_⟩ (by kernel_rfl) (bc (Zak (fun h=>d3 (i2.1 h))) b0) q0 c0 H
noncomputable abbrev Zfb (bs:List Bx) (i:Int):=ag [vi (bs.getD i.toNat default).x0,vi (bs.getD i.toNat default).y0,vi (bs.getD i.toNat default).x1,vi (bs.getD i.toNat default).y1,vi (bs.getD i.toNat default).top]
noncomputable abbrev Zdr (bs:List Bx) (i:Int) (ax:Int) (ay:Int):=O.Zgf (bs.getD i.toNat default).x0 (bs.getD i.toNat default).y0 (bs.getD i.toNat default).x1 (bs.getD i.toNat default).y1 ax ay
noncomputable abbrev zNqE12 (bs:List Bx) (i:Int) (bx:Int) (by_:Int):=O.Zgf (bs.getD i.toNat default).x0 (bs.getD i.toNat default).y0 (bs.getD i.toNat default).x1 (bs.getD i.toNat default).y1 bx by_
noncomputable abbrev zNqE13 (bx:Int) (by_:Int):=ag [vi bx,vi by_]
theorem qErrC (f:Bool) (bs:List Bx) (ax ay bx by_:Int) (i:Int)  (dq:AV) (H :
  ((i<(↑bs.length:Int))->(0<=i) /\
   (i.toNat<bs.length) /\
   (((O.Zgf (bs.getD i.toNat default).x0 (bs.getD i.toNat default).y0 (bs.getD i.toNat default).x1 (bs.getD i.toNat default).y1 ax ay)\/(O.Zgf (bs.getD i.toNat default).x0 (bs.getD i.toNat default).y0 (bs.getD i.toNat default).x1 (bs.getD i.toNat default).y1 bx by_))->vi 15=dq) /\
   (¬((O.Zgf (bs.getD i.toNat default).x0 (bs.getD i.toNat default).y0 (bs.getD i.toNat default).x1 (bs.getD i.toNat default).y1 ax ay)\/(O.Zgf (bs.getD i.toNat default).x0 (bs.getD i.toNat default).y0 (bs.getD i.toNat default).x1 (bs.getD i.toNat default).y1 bx by_))->(-9223372036854775808<=i+1/\i+1<=9223372036854775807) /\
    Zdf f bs ax ay bx by_ (i+1) (Zaf dq))) /\
  (¬(i<(↑bs.length:Int))->vi 0=dq)) :
 Zdf f bs ax ay bx by_ i (Zaf dq):=by
 unfold Zdf
 have w1:(List.map Bx.a bs).length=bs.length:=List.length_map ..
 have i2:(decide (i<(↑(List.map Bx.a bs).length:Int)))=true ↔ (i<(↑bs.length:Int)):=(by (try rw [w1]);all_goals exact Zab)
 rcases xq H with ⟨d3,H⟩|⟨d3,H⟩
 ·obtain ⟨k6,H⟩:=H
  have i7:(decide (i.toNat<(List.map Bx.a bs).length))=true ↔ (i.toNat<bs.length):=(by (try rw [w1]);all_goals exact Zab)
  obtain ⟨k8,H⟩:=H
  have i10:(!(decide (Zdr bs i ax ay)==false&&true)||decide (i.toNat<(List.map Bx.a bs).length))=true ↔ ((¬(Zdr bs i ax ay))->(i.toNat<bs.length)):=(by (try rw [w1]);all_goals exact (Za2 (i_at (i_bf Zab)) Zab))
  refine Zac (G:=Zad kp12 [(18,3,.elem ((Zfb bs i))),(18,5,.call (vb (decide (Zdr bs i ax ay))) none),(18,10,.elem ((Zfb bs i))),(18,12,.call (vb (decide (zNqE12 bs i bx by_))) none)] []) 9 [true] ⟨(atC (cd Try.f12) [1,1,1,1,1,0,1,0,0,1,0,0,1]),[(0,AV.vec f 5 (List.map Bx.a bs)),(4,AV.ptr 0 0 0 0),(5,AV.ptr 1 0 0 0),(9,vi i),(116,vb (bif decide (Zdr bs i ax ay) then true else decide (zNqE12 bs i bx by_)))],[⟨[ag [vi ax,vi ay]],2,0,false,false⟩,⟨[(zNqE13 bx by_)],2,0,false,false⟩],[(decide (i<(↑(List.map Bx.a bs).length:Int)))==true,decide (0<=i),decide (i.toNat<(List.map Bx.a bs).length),true,!(decide (Zdr bs i ax ay)==false&&true)||decide (0<=i),!(decide (Zdr bs i ax ay)==false&&true)||decide (i.toNat<(List.map Bx.a bs).length),!(decide (Zdr bs i ax ay)==false&&true)||true],[((List.map Bx.a bs).get?Internal i.toNat=some ((Zfb bs i))),((decide (Zdr bs i ax ay)==false&&true)=true->(List.map Bx.a bs).get?Internal i.toNat=some ((Zfb bs i)))],[⟨true,false,36,[(Zfb bs i),ag [vi ax,vi ay]],[],vb (decide (Zdr bs i ax ay)),[]⟩,⟨decide (Zdr bs i ax ay)==false&&true&&true,false,36,[(Zfb bs i),(zNqE13 bx by_)],[],vb (decide (zNqE12 bs i bx by_)),[]⟩]⟩ (by kernel_rfl) (bc (Zal (i2.2 d3)) (bc (Zab.2 k6) (bc (i7.2 k8) (bc rfl (bc ((Za2 (i_at (i_bf Zab)) Zab).2 (fun _=>k6)) (bc (i10.2 (fun _=>k8)) (bc (Bool.or_true _) b0))))))) (qc (Zai k8) (qc (fun h=>Zai k8) q0)) (cc (fun _=>(@ev36 ((bs.getD i.toNat default).x0) ((bs.getD i.toNat default).y0) ((bs.getD i.toNat default).x1) ((bs.getD i.toNat default).y1) ((bs.getD i.toNat default).top) ax ay)) (cc (fun hc=>((@ev36 ((bs.getD i.toNat default).x0) ((bs.getD i.toNat default).y0) ((bs.getD i.toNat default).x1) ((bs.getD i.toNat default).y1) ((bs.getD i.toNat default).top) bx by_):Ev M1 (Conf.pure 36 [(Zfb bs i),(zNqE13 bx by_)]) (vb (decide (zNqE12 bs i bx by_))) [])) c0)) ?_
  rcases xq H with ⟨d13,H⟩|⟨d13,H⟩
  ·exact Zah (G:=Zad kp12 [] []) 1000 [true] (vi 15) (by kernel_rfl) (bc (Zal ((ZaF Zab Zab).2 d13)) b0) q0 c0 H
  ·obtain ⟨k14,H⟩:=H
   have w15:wi (i+1)=i+1:=wI64 k14
   exact Zac (G:=Zad kp12 [] []) 1000 [false] ⟨(atC (cd Try.f12) [1,1,1,1,1,0,1,0,0]),[(0,AV.vec f 5 (List.map Bx.a bs)),(4,AV.ptr 0 0 0 0),(5,AV.ptr 1 0 0 0),(9,vi (wi (i+1)))],[⟨[ag [vi ax,vi ay]],2,0,false,false⟩,⟨[(zNqE13 bx by_)],2,0,false,false⟩],_,[],_⟩ (by kernel_rfl) (bc (Zak (fun h=>d13 ((ZaF Zab Zab).1 h))) b0) q0 c0 (by (try rw [w15]);all_goals exact H)
 ·exact Zah (G:=Zad kp12 [] []) 1000 [false] (vi 0) (by kernel_rfl) (bc (Zak (fun h=>d3 (i2.1 h))) b0) q0 c0 H
end Go.Av

namespace Go.Av
open Go.Proofs
namespace O
def Zgb (c:Bx) (p q:Gp):Bool:=entB c.x0 c.y0 c.x1 c.y1 p.x p.y q.x q.y
def ZbT (bs:List Bx) (p q:Gp):Prop:=∀ c ∈ bs,Zgb c p q=false
open Classical in
noncomputable def opn (bs:List Bx) (l:List Gp):Bool:=decide (chn (ZbT bs) l)
def ccp (p:Gp):Prop:=cc p.x/\cc p.y
def ccb (c:Bx):Prop:=cc c.x0/\cc c.y0/\cc c.x1/\cc c.y1
def okB8 (bs:List Bx):Prop:=bs.length<=100 /\ ∀ c ∈ bs,ccb c
def okP8 (l:List Gp):Prop:=l.length<=1000 /\ ∀ p ∈ l,ccp p
def okOp (bs:List Bx) (l:List Gp):Prop:=okB8 bs/\okP8 l
def bxI (c:Bx):Prop:=c.x0>c.x1\/c.y0>c.y1
def bxF (c:Bx):Prop:=fr4 c.x0 c.y0 c.x1 c.y1
def bxC (a b:Gp) (c:Bx):Prop:=Zgf c.x0 c.y0 c.x1 c.y1 a.x a.y\/Zgf c.x0 c.y0 c.x1 c.y1 b.x b.y
open Classical in
noncomputable def erI (bs:List Bx) (a b:Gp):Int:=
 if ∃ c ∈ bs,bxI c then 1 else if bs.length>8 then 3 else if fr4 a.x a.y b.x b.y then 11 else if ∃ c ∈ bs,bxF c then 11 else if ∃ c ∈ bs,bxC a b c then 15 else 0
end O
theorem chn_iff {fr:Gp->Gp->Prop}:∀ l:List Gp,O.chn fr l ↔ ∀ k,k+1<l.length->fr (l.getD k default) (l.getD (k+1) default)
 | []=>⟨fun _ k h=>by simp at h,fun _=>trivial⟩
 | [_]=>⟨fun _ k h=>by simp at h,fun _=>trivial⟩
 | p::q::l=>by
  have ih:=chn_iff (fr:=fr) (q::l)
  unfold O.chn
  rw [ih]
  constructor
  ·rintro ⟨h1,h2⟩ k hk
   cases k with
   | zero=>exact h1
   | succ k=>exact h2 k (by simpa using hk)
  ·intro h
   exact ⟨h 0 (by simp),fun k hk=>h (k+1) (by simpa using hk)⟩
theorem dec_of {p:Prop} {inst:Decidable p} (h:(@decide p inst)=true):p:=of_decide_eq_true h
theorem dec_t {p:Prop} {inst:Decidable p} (h:p):(@decide p inst)=true:=decide_eq_true h
theorem dec_f {p:Prop} {inst:Decidable p} (h:¬p):(@decide p inst)=false:=decide_eq_false h
theorem op_inner {f g:Bool} {bs:List Bx} {l:List Gp} (h:O.okOp bs l) {i:Nat} (hi:i<bs.length) (nx:(∀ k,k+1<l.length->O.Zgb (bs.getD i default) (l.getD k default) (l.getD (k+1) default)=false)->Zek f g bs l ((i+1:Nat):Int) (Zaf (.bool (O.opn bs l)))) (m:Nat) :
  ∀ k:Nat,l.length<=k+1+m->(∀ j,j<k->j+1<l.length->O.Zgb (bs.getD i default) (l.getD j default) (l.getD (j+1) default)=false)->Zej f g bs l i ((k:Int)+1) (Zaf (.bool (O.opn bs l))):=by
 have hb:=h.1.1
 have hl:=h.2.1
 have stop:∀ k:Nat,¬k+1<l.length->(∀ j,j<k->j+1<l.length->O.Zgb (bs.getD i default) (l.getD j default) (l.getD (j+1) default)=false)->Zej f g bs l i ((k:Int)+1) (Zaf (.bool (O.opn bs l))):=fun k hk hj=>by
  refine qOpB _ _ _ _ _ _ _ ⟨fun x=>by omega,fun _=>⟨by omega,?_⟩⟩
  rw [show (i:Int)+1=((i+1:Nat):Int) by omega]
  exact nx fun j h2=>hj j (by omega) h2
 induction m with
 | zero=>exact fun k e hj=>stop k (by omega) hj
 | succ m ih =>
  intro k e hj
  by_cases hk:k+1<l.length
  ·have c:=h.1.2 _ (Zay (d:=bs) (i:=i) hi)
   have p:=h.2.2 _ (Zay (d:=l) (i:=k) (by omega))
   have q:=h.2.2 _ (Zay (d:=l) (i:=k+1) hk)
   refine qOpB _ _ _ _ _ _ _ ⟨fun x => ?_,fun x=>by omega⟩
   rw [show (k:Int)+1-1=(k:Nat) by omega,show (k:Int)+1=((k+1:Nat):Int) by omega,Int.toNat_natCast,Int.toNat_natCast,Int.toNat_natCast]
   refine ⟨by omega,⟨c,p.1,p.2,q.1,q.2⟩,by omega,hi,by omega,by omega,by omega,hk,fun bad => ?_,fun ok=>⟨by omega,?_⟩⟩
   ·unfold O.opn
    rw [dec_f fun ch => ?_]
    have:=(chn_iff l).1 ch k hk (bs.getD i default) (Zay hi)
    exact absurd (this.symm.trans bad) (by decide)
   ·rw [show ((k+1:Nat):Int)+1=((k+1:Nat):Int)+1 from rfl]
    refine ih (k+1) (by omega) fun j h1 h2 => ?_
    by_cases e2:j=k
    ·subst e2;exact Bool.eq_false_iff.2 ok
    ·exact hj j (by omega) h2
  ·exact stop k hk hj
theorem op_loop {f g:Bool} {bs:List Bx} {l:List Gp} (h:O.okOp bs l) (m:Nat):∀ i:Nat,i+m=bs.length->(∀ j,j<i -> ∀ k,k+1<l.length->O.Zgb (bs.getD j default) (l.getD k default) (l.getD (k+1) default)=false)->Zek f g bs l i (Zaf (.bool (O.opn bs l))):=by
 induction m with
 | zero =>
  intro i e hj
  refine qOpA _ _ _ _ _ _ ⟨fun x=>by omega,fun _ => ?_⟩
  have H:O.chn (O.ZbT bs) l:=(chn_iff l).2 fun k hk c hc=>by
   obtain ⟨j,hj2,rfl⟩:=List.mem_iff_getElem.1 hc
   have:=hj j (by omega) k hk
   rwa [List.getD_eq_getElem?_getD,List.getElem?_eq_getElem hj2,Option.getD_some] at this
  unfold O.opn
  rw [dec_t H]
 | succ m ih =>
  intro i e hj
  have hi:i<bs.length:=by omega
  refine qOpA _ _ _ _ _ _ ⟨fun _ => ?_,fun x=>by omega⟩
  have:=op_inner (f:=f) (g:=g) h hi (fun hk=>ih (i+1) (by omega) fun j h1 k h2=>by
   by_cases e2:j=i
   ·subst e2;exact hk k h2
   ·exact hj j (by omega) k h2) l.length 0 (by omega) (fun j h1=>by omega)
  exact this
theorem ev15 (f g:Bool) (bs:List Bx) (l:List Gp) (h:O.okOp bs l):Ev M1 (.pure 15 [.vec f 5 (bs.map Bx.a),.vec g 2 (l.map Gp.a)]) (.bool (O.opn bs l)) []:=
 call15 (qOp _ _ _ _ _ (op_loop h bs.length 0 (by omega) (fun j h1=>by omega)))
theorem ZfB (bs:List Bx) (a b:Gp):(O.Zb2 bs a b).length=4*bs.length+2:=by
 unfold O.Zb2
 rw [List.length_append,List.length_cons,List.length_flatMap]
 have:(bs.map fun c=>(O.crnR c).length).sum=4*bs.length:=by
  induction bs with
  | nil=>rfl
  | cons c bs ih=>rw [List.map_cons,List.sum_cons,ih,List.length_cons];show 4+_=_;omega
 rw [this];rfl
theorem ex_at {α:Type} [Inhabited α] {l:List α} {p:α->Prop} {i:Nat} (h:i<l.length) (hp:p (l.getD i default)):∃ c ∈ l,p c:=⟨_,Zay h,hp⟩
theorem ZgG {α:Type} [Inhabited α] {l:List α} {p:α->Prop} (h:∀ j,j<l.length->¬p (l.getD j default)):¬∃ c ∈ l,p c:=by
 rintro ⟨c,hc,hp⟩
 obtain ⟨j,hj2,rfl⟩:=List.mem_iff_getElem.1 hc
 have:=h j hj2
 rw [List.getD_eq_getElem?_getD,List.getElem?_eq_getElem hj2,Option.getD_some] at this
 exact this hp
theorem ZbK {p:Nat->Prop} {i:Nat} (h:∀ j,j<i->p j) (k:p i):∀ j,j<i+1->p j:=fun j hj=>by
 by_cases e:j=i
 ·subst e;exact k
 ·exact h j (by omega)
theorem er_C {f:Bool} {bs:List Bx} {ax ay bx by_:Int} (hb:bs.length<=100) {dq:AV} (yes:(∃ c ∈ bs,O.bxC ⟨ax,ay⟩ ⟨bx,by_⟩ c)->AV.int .i64 15=dq) (no:(¬∃ c ∈ bs,O.bxC ⟨ax,ay⟩ ⟨bx,by_⟩ c)->AV.int .i64 0=dq) (m:Nat):∀ i:Nat,i+m=bs.length->(∀ j,j<i->¬O.bxC ⟨ax,ay⟩ ⟨bx,by_⟩ (bs.getD j default))->Zdf f bs ax ay bx by_ i (Zaf dq):=by
 induction m with
 | zero=>exact fun i e hj=>qErrC _ _ _ _ _ _ _ _ ⟨fun x=>by omega,fun _=>no (ZgG fun j h=>hj j (by omega))⟩
 | succ m ih =>
  intro i e hj
  have hi:i<bs.length:=by omega
  refine qErrC _ _ _ _ _ _ _ _ ⟨fun x => ?_,fun x=>by omega⟩
  rw [Int.toNat_natCast,show (i:Int)+1=((i+1:Nat):Int) by omega]
  exact ⟨by omega,hi,fun k=>yes (ex_at hi k),fun k=>⟨by omega,ih (i+1) (by omega) (ZbK hj k)⟩⟩
theorem er_B {f:Bool} {bs:List Bx} {ax ay bx by_:Int} (hb:bs.length<=100) {dq:AV} (yes:(∃ c ∈ bs,O.bxF c)->AV.int .i64 11=dq) (no:(¬∃ c ∈ bs,O.bxF c)->Zdf f bs ax ay bx by_ 0 (Zaf dq)) (m:Nat):∀ i:Nat,i+m=bs.length->(∀ j,j<i->¬O.bxF (bs.getD j default))->Zdg f bs ax ay bx by_ i (Zaf dq):=by
 induction m with
 | zero=>exact fun i e hj=>qErrB _ _ _ _ _ _ _ _ ⟨fun x=>by omega,fun _=>no (ZgG fun j h=>hj j (by omega))⟩
 | succ m ih =>
  intro i e hj
  have hi:i<bs.length:=by omega
  refine qErrB _ _ _ _ _ _ _ _ ⟨fun x => ?_,fun x=>by omega⟩
  rw [Int.toNat_natCast,show (i:Int)+1=((i+1:Nat):Int) by omega]
  have F:((((O.fr1 (bs.getD i default).x0)\/(O.fr1 (bs.getD i default).y0))\/(O.fr1 (bs.getD i default).x1))\/(O.fr1 (bs.getD i default).y1)) ↔ O.bxF (bs.getD i default):=by unfold O.bxF O.fr4;simp only [or_assoc]
  rw [F]
  exact ⟨by omega,hi,fun k=>yes (ex_at hi k),fun k=>⟨by omega,ih (i+1) (by omega) (ZbK hj k)⟩⟩
theorem er_A {f:Bool} {bs:List Bx} {ax ay bx by_:Int} (hb:bs.length<=100) {dq:AV} (yes:(∃ c ∈ bs,O.bxI c)->AV.int .i64 1=dq) (no:(¬∃ c ∈ bs,O.bxI c)->(((bs.length:Int)>8)->AV.int .i64 3=dq)/\(¬((bs.length:Int)>8)->(O.fr4 ax ay bx by_->AV.int .i64 11=dq)/\(¬O.fr4 ax ay bx by_->Zdg f bs ax ay bx by_ 0 (Zaf dq)))) (m:Nat):∀ i:Nat,i+m=bs.length->(∀ j,j<i->¬O.bxI (bs.getD j default))->ZdV f bs ax ay bx by_ i (Zaf dq):=by
 have F:((((O.fr1 ax)\/(O.fr1 ay))\/(O.fr1 bx))\/(O.fr1 by_)) ↔ O.fr4 ax ay bx by_:=by unfold O.fr4;simp only [or_assoc]
 induction m with
 | zero =>
  intro i e hj
  have n:=no (ZgG fun j h=>hj j (by omega))
  refine qErrA _ _ _ _ _ _ _ _ ⟨fun x=>by omega,fun _ => ?_⟩
  rw [F];exact n
 | succ m ih =>
  intro i e hj
  have hi:i<bs.length:=by omega
  refine qErrA _ _ _ _ _ _ _ _ ⟨fun x => ?_,fun x=>by omega⟩
  rw [Int.toNat_natCast,show (i:Int)+1=((i+1:Nat):Int) by omega]
  exact ⟨by omega,hi,fun k=>yes (ex_at hi k),fun k=>⟨by omega,ih (i+1) (by omega) (ZbK hj k)⟩⟩
theorem ev12 (f:Bool) (bs:List Bx) (ax ay bx by_:Int) (h:bs.length<=100):Ev M1 (.pure 12 [.vec f 5 (bs.map Bx.a),.agg [.int .i64 ax,.int .i64 ay],.agg [.int .i64 bx,.int .i64 by_]]) (.int .i64 (O.erI bs ⟨ax,ay⟩ ⟨bx,by_⟩)) []:=by
 refine call12 (qErr _ _ _ _ _ _ _ (er_A h (fun k1 => ?_) (fun k1=>⟨fun k2 => ?_,fun k2=>⟨fun k3 => ?_,fun k3=>er_B h (fun k4 => ?_) (fun k4=>er_C h (fun k5 => ?_) (fun k5 => ?_) bs.length 0 (by omega) fun j h=>absurd h (Nat.not_lt_zero j)) bs.length 0 (by omega) fun j h=>absurd h (Nat.not_lt_zero j)⟩⟩) bs.length 0 (by omega) fun j h=>absurd h (Nat.not_lt_zero j)))
 ·unfold O.erI;rw [if_pos k1]
 ·unfold O.erI;rw [if_neg k1,if_pos (by omega)]
 ·unfold O.erI;rw [if_neg k1,if_neg (by omega),if_pos k3]
 ·unfold O.erI;rw [if_neg k1,if_neg (by omega),if_neg k3,if_pos k4]
 ·unfold O.erI;rw [if_neg k1,if_neg (by omega),if_neg k3,if_neg k4,if_pos k5]
 ·unfold O.erI;rw [if_neg k1,if_neg (by omega),if_neg k3,if_neg k4,if_neg k5]
end Go.Av

namespace Go.Av
open Go.Proofs
set_option maxRecDepth 100000
def fi38:Fi:=⟨9,[.tmp 4]⟩
def kp38:List (Nat × List Nat):=[(0,[0,1]),(1,[4])]
def fi39:Fi:=⟨15,[.tmp 2]⟩
def kp39:List (Nat × List Nat):=[(0,[1]),(1,[2])]
def fi41:Fi:=⟨13,[.tmp 2]⟩
def kp41:List (Nat × List Nat):=[(0,[1]),(1,[2])]
def fi43:Fi:=⟨9,[.tmp 4]⟩
def kp43:List (Nat × List Nat):=[(0,[1,2,3]),(1,[4])]
def qC1_at (x0 y0 x1 y1 tp:Int) (Q:AV->Heap->Prop):Prop:=Wp M1 (.run fi39 (atC (cd Try.f39) []) [(0,.agg [.int .i64 x0,.int .i64 y0,.int .i64 x1,.int .i64 y1,.int .i64 tp])] []) Q
def qC2_at (x0 y0 x1 y1 tp:Int) (Q:AV->Heap->Prop):Prop:=Wp M1 (.run fi41 (atC (cd Try.f41) []) [(0,.agg [.int .i64 x0,.int .i64 y0,.int .i64 x1,.int .i64 y1,.int .i64 tp])] []) Q
def qC31_at (x0 y0 x1 y1 tp:Int) (px py qx qy:Int) (Q:AV->Heap->Prop):Prop:=Wp M1 (.run fi43 (atC (cd Try.f43) []) [(0,.agg [.int .i64 x0,.int .i64 y0,.int .i64 x1,.int .i64 y1,.int .i64 tp]),(1,.eptr 2 [.agg [.int .i64 px,.int .i64 py]] 0 0),(2,.eptr 2 [.agg [.int .i64 qx,.int .i64 qy]] 0 0)] []) Q
def qCtA_at (f:Bool) (bs:List Bx) (Q:AV->Heap->Prop):Prop:=Wp M1 (.run fi38 (atC (cd Try.f38) []) [(0,.vec f 5 (bs.map Bx.a)),(1,.func (.func 39) [] [])] []) Q
def qCtB_at (f:Bool) (bs:List Bx) (Q:AV->Heap->Prop):Prop:=Wp M1 (.run fi38 (atC (cd Try.f38) []) [(0,.vec f 5 (bs.map Bx.a)),(1,.func (.func 41) [] [])] []) Q
def qCtC_at (f:Bool) (bs:List Bx) (px py qx qy:Int) (Q:AV->Heap->Prop):Prop:=Wp M1 (.run fi38 (atC (cd Try.f38) []) [(0,.vec f 5 (bs.map Bx.a)),(1,.func (.func 43) [] [.eptr 2 [.agg [.int .i64 px,.int .i64 py]] 0 0,.eptr 2 [.agg [.int .i64 qx,.int .i64 qy]] 0 0])] []) Q
theorem call38 {args:List AV} {d:AV} (h:wc M1 fi38 Try.f38 args d):Ev M1 (.pure 38 args) d []:=pcl _ _ (by kernel_rfl) h
theorem call39 {args:List AV} {d:AV} (h:wc M1 fi39 Try.f39 args d):Ev M1 (.pure 39 args) d []:=pcl _ _ (by kernel_rfl) h
theorem call41 {args:List AV} {d:AV} (h:wc M1 fi41 Try.f41 args d):Ev M1 (.pure 41 args) d []:=pcl _ _ (by kernel_rfl) h
theorem call43 {args:List AV} {d:AV} (h:wc M1 fi43 Try.f43 args d):Ev M1 (.pure 43 args) d []:=pcl _ _ (by kernel_rfl) h
theorem qC1 (x0 y0 x1 y1 tp:Int)  (dq:AV) (H :
  vb (bif decide (x0>x1) then true else decide (y0>y1))=dq) :
 qC1_at x0 y0 x1 y1 tp (Zaf dq):=by
 unfold qC1_at
 exact Zah (G:=Zad kp39 [] []) 1000 [] (asm:=[true,true,!(decide (x0>x1)==false&&true)||true,!(decide (x0>x1)==false&&true)||true]) (vb (bif decide (x0>x1) then true else decide (y0>y1))) (by kernel_rfl) (bc rfl (bc rfl (bc (Bool.or_true _) (bc (Bool.or_true _) b0)))) q0 c0 H
theorem qC2 (x0 y0 x1 y1 tp:Int)  (dq:AV) (H :
  vb (decide (O.fr4 x0 y0 x1 y1))=dq) :
 qC2_at x0 y0 x1 y1 tp (Zaf dq):=by
 unfold qC2_at
 exact Zah (G:=Zad kp41 [(1,9,.call (vb (decide (O.fr4 x0 y0 x1 y1))) none)] []) 1000 [] (vb (decide (O.fr4 x0 y0 x1 y1))) (by kernel_rfl) (bc rfl (bc rfl (bc rfl (bc rfl b0)))) q0 (ce (@ev40_d true x0 y0 x1 y1) c0) H
theorem qC31 (x0 y0 x1 y1 tp:Int) (px py qx qy:Int)  (dq:AV) (H :
  (O.cc8 x0 y0 x1 y1 px py qx qy) /\
  vb (O.entB x0 y0 x1 y1 px py qx qy)=dq) :
 qC31_at x0 y0 x1 y1 tp px py qx qy (Zaf dq):=by
 unfold qC31_at
 obtain ⟨k1,H⟩:=H
 exact Zah (G:=Zad kp43 [(1,3,.call (vb (O.entB x0 y0 x1 y1 px py qx qy)) none)] []) 1000 [] (vb (O.entB x0 y0 x1 y1 px py qx qy)) (by kernel_rfl) (bc rfl b0) q0 (ce (@ev9 x0 y0 x1 y1 tp px py qx qy k1) c0) H
theorem qCtA (f:Bool) (bs:List Bx)  (dq:AV) (H :
  ∃ (n1:Int),
  (Ev M1 (Conf.pure 59 [AV.vec f 5 (List.map Bx.a bs),AV.func (Fn.func 39) [] []]) (vi n1) []) /\
  vb (decide (n1>=0))=dq) :
 qCtA_at f bs (Zaf dq):=by
 unfold qCtA_at
 obtain ⟨n1,k1,H⟩:=H
 exact Zah (G:=Zad kp38 [(1,2,.call (vi n1) none)] []) 1000 [] (vb (decide (n1>=0))) (by kernel_rfl) b0 q0 (ce k1 c0) H
theorem qCtB (f:Bool) (bs:List Bx)  (dq:AV) (H :
  ∃ (n1:Int),
  (Ev M1 (Conf.pure 59 [AV.vec f 5 (List.map Bx.a bs),AV.func (Fn.func 41) [] []]) (vi n1) []) /\
  vb (decide (n1>=0))=dq) :
 qCtB_at f bs (Zaf dq):=by
 unfold qCtB_at
 obtain ⟨n1,k1,H⟩:=H
 exact Zah (G:=Zad kp38 [(1,2,.call (vi n1) none)] []) 1000 [] (vb (decide (n1>=0))) (by kernel_rfl) b0 q0 (ce k1 c0) H
theorem qCtC (f:Bool) (bs:List Bx) (px py qx qy:Int)  (dq:AV) (H :
  ∃ (n1:Int),
  (Ev M1 (Conf.pure 59 [AV.vec f 5 (List.map Bx.a bs),AV.func (Fn.func 43) [] [AV.eptr 2 [ag [vi px,vi py]] 0 0,AV.eptr 2 [ag [vi qx,vi qy]] 0 0]]) (vi n1) []) /\
  vb (decide (n1>=0))=dq) :
 qCtC_at f bs px py qx qy (Zaf dq):=by
 unfold qCtC_at
 obtain ⟨n1,k1,H⟩:=H
 exact Zah (G:=Zad kp38 [(1,2,.call (vi n1) none)] []) 1000 [] (vb (decide (n1>=0))) (by kernel_rfl) b0 q0 (ce k1 c0) H
end Go.Av

namespace Go.Av
open Go.Proofs
instance (c:Bx):Decidable (O.bxI c):=by unfold O.bxI;infer_instance
instance (c:Bx):Decidable (O.bxF c):=by unfold O.bxF;infer_instance
theorem ev39 (x0 y0 x1 y1 tp:Int):Ev M1 (.pure 39 [.agg [.int .i64 x0,.int .i64 y0,.int .i64 x1,.int .i64 y1,.int .i64 tp]]) (.bool (decide (O.bxI ⟨x0,y0,x1,y1,tp⟩))) []:=
 call39 (qC1 _ _ _ _ _ _ (congrArg AV.bool (by rw [dec_or];exact ZdD Iff.rfl)))
theorem ev41 (x0 y0 x1 y1 tp:Int):Ev M1 (.pure 41 [.agg [.int .i64 x0,.int .i64 y0,.int .i64 x1,.int .i64 y1,.int .i64 tp]]) (.bool (decide (O.bxF ⟨x0,y0,x1,y1,tp⟩))) []:=
 call41 (qC2 _ _ _ _ _ _ (congrArg AV.bool (ZdD Iff.rfl)))
theorem ev43 (x0 y0 x1 y1 tp px py qx qy:Int) (h:O.cc8 x0 y0 x1 y1 px py qx qy):Ev M1 (.pure 43 [.agg [.int .i64 x0,.int .i64 y0,.int .i64 x1,.int .i64 y1,.int .i64 tp],.eptr 2 [.agg [.int .i64 px,.int .i64 py]] 0 0,.eptr 2 [.agg [.int .i64 qx,.int .i64 qy]] 0 0]) (.bool (O.Zgb ⟨x0,y0,x1,y1,tp⟩ ⟨px,py⟩ ⟨qx,qy⟩)) []:=
 call43 (qC31 _ _ _ _ _ _ _ _ _ _ ⟨h,rfl⟩)
end Go.Av

namespace Go.Av
open Go.Proofs
set_option maxRecDepth 100000
def fi59:Fi:=⟨19,[.tmp 4]⟩
def kp59:List (Nat × List Nat):=[(0,[0,1]),(1,[0,1,7,8]),(2,[0,1,7,8,9]),(3,[0,1,5,7,8]),(4,[0,1,5,7,8,16]),(5,[4]),(6,[0,1,7,8]),(7,[4])]
def fi60:Fi:=⟨28,[]⟩
def kp60:List (Nat × List Nat):=[(0,[0,2,3]),(1,[0,2,3,9]),(2,[0,2,3]),(3,[0,2,3])]
def qIxA_at (f:Bool) (bs:List Bx) (Q:AV->Heap->Prop):Prop:=Wp M1 (.run fi59 (atC (cd Try.f59) []) [(0,.vec f 5 (bs.map Bx.a)),(1,.func (.func 39) [] [])] []) Q
def ZdT (f:Bool) (bs:List Bx) (n i:Int) (Q:AV->Heap->Prop):Prop:=Wp M1 (.run fi59 (atC (cd Try.f59) [1,0,1,0,0]) [(0,.vec f 5 (bs.map Bx.a)),(1,.func (.func 39) [] []),(7,.int .i64 n),(8,.int .i64 i)] []) Q
def qIxB_at (f:Bool) (bs:List Bx) (Q:AV->Heap->Prop):Prop:=Wp M1 (.run fi59 (atC (cd Try.f59) []) [(0,.vec f 5 (bs.map Bx.a)),(1,.func (.func 41) [] [])] []) Q
def ZdS (f:Bool) (bs:List Bx) (n i:Int) (Q:AV->Heap->Prop):Prop:=Wp M1 (.run fi59 (atC (cd Try.f59) [1,0,1,0,0]) [(0,.vec f 5 (bs.map Bx.a)),(1,.func (.func 41) [] []),(7,.int .i64 n),(8,.int .i64 i)] []) Q
def qIxC_at (f:Bool) (bs:List Bx) (px py qx qy:Int) (Q:AV->Heap->Prop):Prop:=Wp M1 (.run fi59 (atC (cd Try.f59) []) [(0,.vec f 5 (bs.map Bx.a)),(1,.func (.func 43) [] [.eptr 2 [.agg [.int .i64 px,.int .i64 py]] 0 0,.eptr 2 [.agg [.int .i64 qx,.int .i64 qy]] 0 0])] []) Q
def ZdR (f:Bool) (bs:List Bx) (px py qx qy:Int) (n i:Int) (Q:AV->Heap->Prop):Prop:=Wp M1 (.run fi59 (atC (cd Try.f59) [1,0,1,0,0]) [(0,.vec f 5 (bs.map Bx.a)),(1,.func (.func 43) [] [.eptr 2 [.agg [.int .i64 px,.int .i64 py]] 0 0,.eptr 2 [.agg [.int .i64 qx,.int .i64 qy]] 0 0]),(7,.int .i64 n),(8,.int .i64 i)] []) Q
def qRv_at (gs:List Gp) (v:Nat) (Q:AV->Heap->Prop):Prop:=Wp M1 (.run fi60 (atC (cd Try.f60) []) [(0,.row 0 v)] [⟨gs.map Gp.a,2,v,false,true⟩]) Q
def Zei (gs:List Gp) (v:Nat) (i j:Int) (Q:AV->Heap->Prop):Prop:=Wp M1 (.run fi60 (atC (cd Try.f60) [1,0,0]) [(0,.row 0 v),(2,.int .i64 i),(3,.int .i64 j)] [⟨gs.map Gp.a,2,v,false,true⟩]) Q
theorem call59 {args:List AV} {d:AV} (h:wc M1 fi59 Try.f59 args d):Ev M1 (.pure 59 args) d []:=pcl _ _ (by kernel_rfl) h
theorem keepcall60 {args:List AV} {L:Heap} {v:AV} {K:Heap} (hk:ZfG L.length v K=true) (h:Wp M1 (.run fi60 [.code (cd Try.f60)] (ZbA 0 args) L) (Zf8 v K)):Ev M1 (.own 60 args L) v K:=
 own_keep Try.f60 fi60 (by kernel_rfl) (by kernel_rfl) (by kernel_rfl) (by kernel_rfl) hk h
theorem qIxA (f:Bool) (bs:List Bx)  (dq:AV) (H :
  ZdT f bs ((↑bs.length:Int)) 0 (Zaf dq)) :
 qIxA_at f bs (Zaf dq):=by
 unfold qIxA_at
 have w1:(List.map Bx.a bs).length=bs.length:=List.length_map ..
 exact Zac (G:=Zad kp59 [] []) 1000 [] ⟨(atC (cd Try.f59) [1,0,1,0,0]),[(0,AV.vec f 5 (List.map Bx.a bs)),(1,AV.func (Fn.func 39) [] []),(7,vi (↑(List.map Bx.a bs).length:Int)),(8,vi 0)],[],_,[],_⟩ (by kernel_rfl) b0 q0 c0 (by (try rw [w1]);all_goals exact H)
noncomputable abbrev zNqG1 (bs:List Bx) (i:Int):=ag [vi (bs.getD i.toNat default).x0,vi (bs.getD i.toNat default).y0,vi (bs.getD i.toNat default).x1,vi (bs.getD i.toNat default).y1,vi (bs.getD i.toNat default).top]
theorem qIxLA (f:Bool) (bs:List Bx) (n i:Int)  (dq:AV) (H :
  ((i<n)->(0<=i) /\
   (i.toNat<bs.length) /\
   ((O.bxI { x0:=(bs.getD i.toNat default).x0,y0:=(bs.getD i.toNat default).y0,x1:=(bs.getD i.toNat default).x1,y1:=(bs.getD i.toNat default).y1,top:=(bs.getD i.toNat default).top })->vi i=dq) /\
   (¬(O.bxI { x0:=(bs.getD i.toNat default).x0,y0:=(bs.getD i.toNat default).y0,x1:=(bs.getD i.toNat default).x1,y1:=(bs.getD i.toNat default).y1,top:=(bs.getD i.toNat default).top })->(-9223372036854775808<=i+1/\i+1<=9223372036854775807) /\
    ZdT f bs n (i+1) (Zaf dq))) /\
  (¬(i<n)->vi (-1)=dq)) :
 ZdT f bs n i (Zaf dq):=by
 unfold ZdT
 rcases xq H with ⟨d2,H⟩|⟨d2,H⟩
 ·obtain ⟨k4,H⟩:=H
  have w5:(List.map Bx.a bs).length=bs.length:=List.length_map ..
  have i6:(decide (i.toNat<(List.map Bx.a bs).length))=true ↔ (i.toNat<bs.length):=(by (try rw [w5]);all_goals exact Zab)
  obtain ⟨k7,H⟩:=H
  refine Zac (G:=Zad kp59 [(4,4,.elem (zNqG1 bs i)),(4,5,.call (vb (decide (O.bxI { x0:=(bs.getD i.toNat default).x0,y0:=(bs.getD i.toNat default).y0,x1:=(bs.getD i.toNat default).x1,y1:=(bs.getD i.toNat default).y1,top:=(bs.getD i.toNat default).top }))) none)] []) 11 [true] ⟨(atC (cd Try.f59) [1,0,1,0,0,1,1,0,0,1,1]),[(0,AV.vec f 5 (List.map Bx.a bs)),(1,AV.func (Fn.func 39) [] []),(5,vi i),(7,vi n),(8,vi i),(16,vb (decide (O.bxI { x0:=(bs.getD i.toNat default).x0,y0:=(bs.getD i.toNat default).y0,x1:=(bs.getD i.toNat default).x1,y1:=(bs.getD i.toNat default).y1,top:=(bs.getD i.toNat default).top })))],[],_,[((List.map Bx.a bs).get?Internal i.toNat=some (zNqG1 bs i))],_⟩ (by kernel_rfl) (bc (Zal (Zab.2 d2)) (bc (Zab.2 k4) (bc (i6.2 k7) b0))) (qc (Zai k7) q0) (ce (@ev39 ((bs.getD i.toNat default).x0) ((bs.getD i.toNat default).y0) ((bs.getD i.toNat default).x1) ((bs.getD i.toNat default).y1) ((bs.getD i.toNat default).top)) c0) ?_
  rcases xq H with ⟨d9,H⟩|⟨d9,H⟩
  ·exact Zah (G:=Zad kp59 [] []) 1000 [true] (vi i) (by kernel_rfl) (bc (Zal (Zab.2 d9)) b0) q0 c0 H
  ·obtain ⟨k10,H⟩:=H
   have w11:wi (i+1)=i+1:=wI64 k10
   exact Zac (G:=Zad kp59 [] []) 1000 [false] ⟨(atC (cd Try.f59) [1,0,1,0,0]),[(0,AV.vec f 5 (List.map Bx.a bs)),(1,AV.func (Fn.func 39) [] []),(7,vi n),(8,vi (wi (i+1)))],[],_,[],_⟩ (by kernel_rfl) (bc (Zak (fun h=>d9 (Zab.1 h))) b0) q0 c0 (by (try rw [w11]);all_goals exact H)
 ·exact Zah (G:=Zad kp59 [] []) 1000 [false] (vi (-1)) (by kernel_rfl) (bc (Zak (fun h=>d2 (Zab.1 h))) b0) q0 c0 H
theorem qIxB (f:Bool) (bs:List Bx)  (dq:AV) (H :
  ZdS f bs ((↑bs.length:Int)) 0 (Zaf dq)) :
 qIxB_at f bs (Zaf dq):=by
 unfold qIxB_at
 have w1:(List.map Bx.a bs).length=bs.length:=List.length_map ..
 exact Zac (G:=Zad kp59 [] []) 1000 [] ⟨(atC (cd Try.f59) [1,0,1,0,0]),[(0,AV.vec f 5 (List.map Bx.a bs)),(1,AV.func (Fn.func 41) [] []),(7,vi (↑(List.map Bx.a bs).length:Int)),(8,vi 0)],[],_,[],_⟩ (by kernel_rfl) b0 q0 c0 (by (try rw [w1]);all_goals exact H)
noncomputable abbrev zNqG2 (bs:List Bx) (i:Int):=ag [vi (bs.getD i.toNat default).x0,vi (bs.getD i.toNat default).y0,vi (bs.getD i.toNat default).x1,vi (bs.getD i.toNat default).y1,vi (bs.getD i.toNat default).top]
theorem qIxLB (f:Bool) (bs:List Bx) (n i:Int)  (dq:AV) (H :
  ((i<n)->(0<=i) /\
   (i.toNat<bs.length) /\
   ((O.bxF { x0:=(bs.getD i.toNat default).x0,y0:=(bs.getD i.toNat default).y0,x1:=(bs.getD i.toNat default).x1,y1:=(bs.getD i.toNat default).y1,top:=(bs.getD i.toNat default).top })->vi i=dq) /\
   (¬(O.bxF { x0:=(bs.getD i.toNat default).x0,y0:=(bs.getD i.toNat default).y0,x1:=(bs.getD i.toNat default).x1,y1:=(bs.getD i.toNat default).y1,top:=(bs.getD i.toNat default).top })->(-9223372036854775808<=i+1/\i+1<=9223372036854775807) /\
    ZdS f bs n (i+1) (Zaf dq))) /\
  (¬(i<n)->vi (-1)=dq)) :
 ZdS f bs n i (Zaf dq):=by
 unfold ZdS
 rcases xq H with ⟨d2,H⟩|⟨d2,H⟩
 ·obtain ⟨k4,H⟩:=H
  have w5:(List.map Bx.a bs).length=bs.length:=List.length_map ..
  have i6:(decide (i.toNat<(List.map Bx.a bs).length))=true ↔ (i.toNat<bs.length):=(by (try rw [w5]);all_goals exact Zab)
  obtain ⟨k7,H⟩:=H
  refine Zac (G:=Zad kp59 [(4,4,.elem (zNqG2 bs i)),(4,5,.call (vb (decide (O.bxF { x0:=(bs.getD i.toNat default).x0,y0:=(bs.getD i.toNat default).y0,x1:=(bs.getD i.toNat default).x1,y1:=(bs.getD i.toNat default).y1,top:=(bs.getD i.toNat default).top }))) none)] []) 11 [true] ⟨(atC (cd Try.f59) [1,0,1,0,0,1,1,0,0,1,1]),[(0,AV.vec f 5 (List.map Bx.a bs)),(1,AV.func (Fn.func 41) [] []),(5,vi i),(7,vi n),(8,vi i),(16,vb (decide (O.bxF { x0:=(bs.getD i.toNat default).x0,y0:=(bs.getD i.toNat default).y0,x1:=(bs.getD i.toNat default).x1,y1:=(bs.getD i.toNat default).y1,top:=(bs.getD i.toNat default).top })))],[],_,[((List.map Bx.a bs).get?Internal i.toNat=some (zNqG2 bs i))],_⟩ (by kernel_rfl) (bc (Zal (Zab.2 d2)) (bc (Zab.2 k4) (bc (i6.2 k7) b0))) (qc (Zai k7) q0) (ce (@ev41 ((bs.getD i.toNat default).x0) ((bs.getD i.toNat default).y0) ((bs.getD i.toNat default).x1) ((bs.getD i.toNat default).y1) ((bs.getD i.toNat default).top)) c0) ?_
  rcases xq H with ⟨d9,H⟩|⟨d9,H⟩
  ·exact Zah (G:=Zad kp59 [] []) 1000 [true] (vi i) (by kernel_rfl) (bc (Zal (Zab.2 d9)) b0) q0 c0 H
  ·obtain ⟨k10,H⟩:=H
   have w11:wi (i+1)=i+1:=wI64 k10
   exact Zac (G:=Zad kp59 [] []) 1000 [false] ⟨(atC (cd Try.f59) [1,0,1,0,0]),[(0,AV.vec f 5 (List.map Bx.a bs)),(1,AV.func (Fn.func 41) [] []),(7,vi n),(8,vi (wi (i+1)))],[],_,[],_⟩ (by kernel_rfl) (bc (Zak (fun h=>d9 (Zab.1 h))) b0) q0 c0 (by (try rw [w11]);all_goals exact H)
 ·exact Zah (G:=Zad kp59 [] []) 1000 [false] (vi (-1)) (by kernel_rfl) (bc (Zak (fun h=>d2 (Zab.1 h))) b0) q0 c0 H
theorem qIxC (f:Bool) (bs:List Bx) (px py qx qy:Int)  (dq:AV) (H :
  ZdR f bs px py qx qy ((↑bs.length:Int)) 0 (Zaf dq)) :
 qIxC_at f bs px py qx qy (Zaf dq):=by
 unfold qIxC_at
 have w1:(List.map Bx.a bs).length=bs.length:=List.length_map ..
 exact Zac (G:=Zad kp59 [] []) 1000 [] ⟨(atC (cd Try.f59) [1,0,1,0,0]),[(0,AV.vec f 5 (List.map Bx.a bs)),(1,AV.func (Fn.func 43) [] [AV.eptr 2 [ag [vi px,vi py]] 0 0,AV.eptr 2 [ag [vi qx,vi qy]] 0 0]),(7,vi (↑(List.map Bx.a bs).length:Int)),(8,vi 0)],[],_,[],_⟩ (by kernel_rfl) b0 q0 c0 (by (try rw [w1]);all_goals exact H)
noncomputable abbrev zNqG3 (bs:List Bx) (i:Int):=ag [vi (bs.getD i.toNat default).x0,vi (bs.getD i.toNat default).y0,vi (bs.getD i.toNat default).x1,vi (bs.getD i.toNat default).y1,vi (bs.getD i.toNat default).top]
theorem qIxLC (f:Bool) (bs:List Bx) (px py qx qy:Int) (n i:Int)  (dq:AV) (H :
  ((i<n)->(O.cc8 (bs.getD i.toNat default).x0 (bs.getD i.toNat default).y0 (bs.getD i.toNat default).x1 (bs.getD i.toNat default).y1 px py qx qy) /\
   (0<=i) /\
   (i.toNat<bs.length) /\
   ((O.Zgb { x0:=(bs.getD i.toNat default).x0,y0:=(bs.getD i.toNat default).y0,x1:=(bs.getD i.toNat default).x1,y1:=(bs.getD i.toNat default).y1,top:=(bs.getD i.toNat default).top } { x:=px,y:=py } { x:=qx,y:=qy } = true)->vi i=dq) /\
   (¬(O.Zgb { x0:=(bs.getD i.toNat default).x0,y0:=(bs.getD i.toNat default).y0,x1:=(bs.getD i.toNat default).x1,y1:=(bs.getD i.toNat default).y1,top:=(bs.getD i.toNat default).top } { x:=px,y:=py } { x:=qx,y:=qy } = true)->(-9223372036854775808<=i+1/\i+1<=9223372036854775807) /\
    ZdR f bs px py qx qy n (i+1) (Zaf dq))) /\
  (¬(i<n)->vi (-1)=dq)) :
 ZdR f bs px py qx qy n i (Zaf dq):=by
 unfold ZdR
 rcases xq H with ⟨d2,H⟩|⟨d2,H⟩
 ·obtain ⟨k3,k5,H⟩:=H
  have w6:(List.map Bx.a bs).length=bs.length:=List.length_map ..
  have i7:(decide (i.toNat<(List.map Bx.a bs).length))=true ↔ (i.toNat<bs.length):=(by (try rw [w6]);all_goals exact Zab)
  obtain ⟨k8,H⟩:=H
  refine Zac (G:=Zad kp59 [(4,4,.elem (zNqG3 bs i)),(4,5,.call (vb (O.Zgb { x0:=(bs.getD i.toNat default).x0,y0:=(bs.getD i.toNat default).y0,x1:=(bs.getD i.toNat default).x1,y1:=(bs.getD i.toNat default).y1,top:=(bs.getD i.toNat default).top } { x:=px,y:=py } { x:=qx,y:=qy })) none)] []) 11 [true] ⟨(atC (cd Try.f59) [1,0,1,0,0,1,1,0,0,1,1]),[(0,AV.vec f 5 (List.map Bx.a bs)),(1,AV.func (Fn.func 43) [] [AV.eptr 2 [ag [vi px,vi py]] 0 0,AV.eptr 2 [ag [vi qx,vi qy]] 0 0]),(5,vi i),(7,vi n),(8,vi i),(16,vb (O.Zgb { x0:=(bs.getD i.toNat default).x0,y0:=(bs.getD i.toNat default).y0,x1:=(bs.getD i.toNat default).x1,y1:=(bs.getD i.toNat default).y1,top:=(bs.getD i.toNat default).top } { x:=px,y:=py } { x:=qx,y:=qy }))],[],_,[((List.map Bx.a bs).get?Internal i.toNat=some (zNqG3 bs i))],_⟩ (by kernel_rfl) (bc (Zal (Zab.2 d2)) (bc (Zab.2 k5) (bc (i7.2 k8) b0))) (qc (Zai k8) q0) (ce (@ev43 ((bs.getD i.toNat default).x0) ((bs.getD i.toNat default).y0) ((bs.getD i.toNat default).x1) ((bs.getD i.toNat default).y1) ((bs.getD i.toNat default).top) px py qx qy k3) c0) ?_
  rcases xq H with ⟨d10,H⟩|⟨d10,H⟩
  ·exact Zah (G:=Zad kp59 [] []) 1000 [true] (asm:=[(O.Zgb { x0:=(bs.getD i.toNat default).x0,y0:=(bs.getD i.toNat default).y0,x1:=(bs.getD i.toNat default).x1,y1:=(bs.getD i.toNat default).y1,top:=(bs.getD i.toNat default).top } { x:=px,y:=py } { x:=qx,y:=qy })==true]) (vi i) (by kernel_rfl) (bc (Zal ((ZaD _).2 d10)) b0) q0 c0 H
  ·obtain ⟨k11,H⟩:=H
   have w12:wi (i+1)=i+1:=wI64 k11
   exact Zac (G:=Zad kp59 [] []) 1000 [false] ⟨(atC (cd Try.f59) [1,0,1,0,0]),[(0,AV.vec f 5 (List.map Bx.a bs)),(1,AV.func (Fn.func 43) [] [AV.eptr 2 [ag [vi px,vi py]] 0 0,AV.eptr 2 [ag [vi qx,vi qy]] 0 0]),(7,vi n),(8,vi (wi (i+1)))],[],[(O.Zgb { x0:=(bs.getD i.toNat default).x0,y0:=(bs.getD i.toNat default).y0,x1:=(bs.getD i.toNat default).x1,y1:=(bs.getD i.toNat default).y1,top:=(bs.getD i.toNat default).top } { x:=px,y:=py } { x:=qx,y:=qy })==false],[],_⟩ (by kernel_rfl) (bc (Zak (fun h=>d10 ((ZaD _).1 h))) b0) q0 c0 (by (try rw [w12]);all_goals exact H)
 ·exact Zah (G:=Zad kp59 [] []) 1000 [false] (vi (-1)) (by kernel_rfl) (bc (Zak (fun h=>d2 (Zab.1 h))) b0) q0 c0 H
theorem qRv (gs:List Gp) (v:Nat)  (Q:AV->Heap->Prop) (H :
  (-9223372036854775808<=(↑gs.length:Int)-1/\(↑gs.length:Int)-1<=9223372036854775807) /\
  Zei gs v 0 ((↑gs.length:Int)-1) Q) :
 qRv_at gs v Q:=by
 unfold qRv_at
 have w1:(List.map Gp.a gs).length=gs.length:=List.length_map ..
 obtain ⟨k2,H⟩:=H
 have w3:wi ((↑gs.length:Int)-1)=(↑gs.length:Int)-1:=wI64 k2
 exact Zac (G:=Zad kp60 [] []) 1000 [] ⟨(atC (cd Try.f60) [1,0,0]),[(0,AV.row 0 v),(2,vi 0),(3,vi (wi ((↑(List.map Gp.a gs).length:Int)-1)))],[⟨List.map Gp.a gs,2,v,false,true⟩],[v==v],[],_⟩ (by kernel_rfl) (bc (beq_self_eq_true _) b0) q0 c0 (by (try rw [w1]);(try rw [w3]);all_goals exact H)
noncomputable abbrev zNqG4 (gs:List Gp) (i:Int) (j:Int):=ag [vi ((gs.set i.toNat (gs.getD j.toNat default)).getD j.toNat default).x,vi ((gs.set i.toNat (gs.getD j.toNat default)).getD j.toNat default).y]
theorem qRvA (gs:List Gp) (v:Nat) (i j:Int)  (Q:AV->Heap->Prop) (H :
  ((i<j)->(0<=j) /\
   (j.toNat<gs.length) /\
   (0<=i) /\
   (i.toNat<gs.length) /\
   (j.toNat<(gs.set i.toNat (gs.getD j.toNat default)).length) /\
   (-9223372036854775808<=i+1/\i+1<=9223372036854775807) /\
   (-9223372036854775808<=j-1/\j-1<=9223372036854775807) /\
   Zei ((gs.set i.toNat (gs.getD j.toNat default)).set j.toNat (gs.getD i.toNat default)) v (i+1) (j-1) Q) /\
  (¬(i<j)->Q (tu []) [{ elems:=List.map Gp.a gs,es:=2,ver:=v,frozen:=false,clean:=true }])) :
 Zei gs v i j Q:=by
 unfold Zei
 rcases xq H with ⟨d2,H⟩|⟨d2,H⟩
 ·have w3:(List.map Gp.a gs).set i.toNat (ag [vi (gs.getD j.toNat default).x,vi (gs.getD j.toNat default).y])=List.map Gp.a (gs.set i.toNat (gs.getD j.toNat default)):=(Zba rfl rfl)
  obtain ⟨k5,H⟩:=H
  have w6:(List.map Gp.a gs).length=gs.length:=List.length_map ..
  have i7:(decide (j.toNat<(List.map Gp.a gs).length))=true ↔ (j.toNat<gs.length):=(by (try rw [w6]);all_goals exact Zab)
  obtain ⟨k8,k10,H⟩:=H
  have i11:(decide (i.toNat<(List.map Gp.a gs).length))=true ↔ (i.toNat<gs.length):=(by (try rw [w6]);all_goals exact Zab)
  obtain ⟨k12,H⟩:=H
  have i14:(decide (i.toNat<(List.map Gp.a gs).length))=true ↔ (i.toNat<gs.length):=(by (try rw [w6]);all_goals exact Zab)
  have w16:(List.map Gp.a (gs.set i.toNat (gs.getD j.toNat default))).length=(gs.set i.toNat (gs.getD j.toNat default)).length:=List.length_map ..
  have i17:(decide (j.toNat<((List.map Gp.a gs).set i.toNat (ag [vi (gs.getD j.toNat default).x,vi (gs.getD j.toNat default).y])).length))=true ↔ (j.toNat<(gs.set i.toNat (gs.getD j.toNat default)).length):=(by (try rw [w3]);(try rw [w16]);all_goals exact Zab)
  obtain ⟨k18,H⟩:=H
  have w19:(List.map Gp.a (gs.set i.toNat (gs.getD j.toNat default))).set j.toNat (ag [vi (gs.getD i.toNat default).x,vi (gs.getD i.toNat default).y])=List.map Gp.a ((gs.set i.toNat (gs.getD j.toNat default)).set j.toNat (gs.getD i.toNat default)):=(Zba rfl rfl)
  obtain ⟨k20,H⟩:=H
  have w21:wi (i+1)=i+1:=wI64 k20
  obtain ⟨k22,H⟩:=H
  have w23:wi (j-1)=j-1:=wI64 k22
  exact Zac (G:=Zad kp60 [(3,7,.elem (ag [vi (gs.getD j.toNat default).x,vi (gs.getD j.toNat default).y])),(3,11,.elem (ag [vi (gs.getD i.toNat default).x,vi (gs.getD i.toNat default).y])),(3,13,.elem (ag [vi (gs.getD i.toNat default).x,vi (gs.getD i.toNat default).y])),(3,15,.elem (zNqG4 gs i j))] []) 1000 [true] ⟨(atC (cd Try.f60) [1,0,0]),[(0,AV.row 0 v),(2,vi (wi (i+1))),(3,vi (wi (j-1)))],[⟨((List.map Gp.a gs).set i.toNat (ag [vi (gs.getD j.toNat default).x,vi (gs.getD j.toNat default).y])).set j.toNat (ag [vi (gs.getD i.toNat default).x,vi (gs.getD i.toNat default).y]),2,v,false,true⟩],[(decide (i<j))==true,v==v,decide (0<=j),decide (j.toNat<(List.map Gp.a gs).length),v==v,v==v,decide (0<=i),decide (i.toNat<(List.map Gp.a gs).length),v==v,v==v,decide (0<=i),decide (i.toNat<(List.map Gp.a gs).length),v==v,v==v,decide (0<=j),decide (j.toNat<((List.map Gp.a gs).set i.toNat (ag [vi (gs.getD j.toNat default).x,vi (gs.getD j.toNat default).y])).length),v==v],[((List.map Gp.a gs).get?Internal j.toNat=some (ag [vi (gs.getD j.toNat default).x,vi (gs.getD j.toNat default).y])),((List.map Gp.a gs).get?Internal i.toNat=some (ag [vi (gs.getD i.toNat default).x,vi (gs.getD i.toNat default).y])),((List.map Gp.a gs).get?Internal i.toNat=some (ag [vi (gs.getD i.toNat default).x,vi (gs.getD i.toNat default).y])),(((List.map Gp.a gs).set i.toNat (ag [vi (gs.getD j.toNat default).x,vi (gs.getD j.toNat default).y])).get?Internal j.toNat=some (zNqG4 gs i j))],_⟩ (by kernel_rfl) (bc (Zal (Zab.2 d2)) (bc (beq_self_eq_true _) (bc (Zab.2 k5) (bc (i7.2 k8) (bc (beq_self_eq_true _) (bc (beq_self_eq_true _) (bc (Zab.2 k10) (bc (i11.2 k12) (bc (beq_self_eq_true _) (bc (beq_self_eq_true _) (bc (Zab.2 k10) (bc (i14.2 k12) (bc (beq_self_eq_true _) (bc (beq_self_eq_true _) (bc (Zab.2 k5) (bc (i17.2 k18) (bc (beq_self_eq_true _) b0))))))))))))))))) (qc (Zai k8) (qc (Zai k12) (qc (Zai k12) (qc (by (try rw [w3]);all_goals exact (Zai k18)) q0)))) c0 (by (try rw [w3]);(try rw [w19]);(try rw [w21]);(try rw [w23]);all_goals exact H)
 ·exact path_end (G:=Zad kp60 [] []) 1000 [false] (env':=[(0,AV.row 0 v),(2,vi i),(3,vi j),(9,vb (decide (i<j)))]) (L':=[⟨List.map Gp.a gs,2,v,false,true⟩]) (asm:=[(decide (i<j))==false]) (eqs:=[]) (calls:=[]) (tu []) (by kernel_rfl) (by kernel_rfl) (Zae (Zak (fun h=>d2 (Zab.1 h))) Zaw) ZaK ZaL H
end Go.Av

namespace Go.Av
open Go.Proofs
namespace O
open Classical in
noncomputable def any (p:Bx->Prop) (bs:List Bx):Bool:=decide (∃ c ∈ bs,p c)
open Classical in
noncomputable def frB (bs:List Bx) (p q:Gp):Bool:=decide (ZbT bs p q)
def okFr (bs:List Bx) (px py qx qy:Int):Prop:=okB8 bs/\(cc px/\cc py)/\cc qx/\cc qy
end O
theorem any_of {p:Bx->Prop} {bs:List Bx} {n:Int} (h:(0<=n /\ ∃ c ∈ bs,p c)\/(n = -1/\¬∃ c ∈ bs,p c)):decide (n>=0)=O.any p bs:=by
 unfold O.any
 rcases h with ⟨h,k⟩ | ⟨h,k⟩
 ·rw [decide_eq_true h,dec_t k]
 ·rw [decide_eq_false (by omega),dec_f k]
theorem ix_A {f:Bool} {bs:List Bx} (hb:bs.length<=100) (m:Nat):∀ i:Nat,i+m=bs.length->(∀ j,j<i->¬O.bxI (bs.getD j default)) -> ∃ n,((0<=n /\ ∃ c ∈ bs,O.bxI c)\/(n = -1/\¬∃ c ∈ bs,O.bxI c))/\ZdT f bs bs.length i (Zaf (.int .i64 n)):=by
 induction m with
 | zero=>exact fun i e hj=>⟨-1,.inr ⟨rfl,ZgG fun j h=>hj j (by omega)⟩,qIxLA _ _ _ _ _ ⟨fun x=>by omega,fun _=>rfl⟩⟩
 | succ m ih =>
  intro i e hj
  have hi:i<bs.length:=by omega
  by_cases k:O.bxI (bs.getD i default)
  ·refine ⟨i,.inl ⟨by omega,ex_at hi k⟩,qIxLA _ _ _ _ _ ⟨fun x => ?_,fun x=>by omega⟩⟩
   rw [Int.toNat_natCast]
   exact ⟨by omega,hi,fun _=>rfl,fun j=>absurd k j⟩
  ·obtain ⟨n,hn,w⟩:=ih (i+1) (by omega) (ZbK hj k)
   refine ⟨n,hn,qIxLA _ _ _ _ _ ⟨fun x => ?_,fun x=>by omega⟩⟩
   rw [Int.toNat_natCast,show (i:Int)+1=((i+1:Nat):Int) by omega]
   exact ⟨by omega,hi,fun j=>absurd j k,fun _=>⟨by omega,w⟩⟩
theorem ix_B {f:Bool} {bs:List Bx} (hb:bs.length<=100) (m:Nat):∀ i:Nat,i+m=bs.length->(∀ j,j<i->¬O.bxF (bs.getD j default)) -> ∃ n,((0<=n /\ ∃ c ∈ bs,O.bxF c)\/(n = -1/\¬∃ c ∈ bs,O.bxF c))/\ZdS f bs bs.length i (Zaf (.int .i64 n)):=by
 induction m with
 | zero=>exact fun i e hj=>⟨-1,.inr ⟨rfl,ZgG fun j h=>hj j (by omega)⟩,qIxLB _ _ _ _ _ ⟨fun x=>by omega,fun _=>rfl⟩⟩
 | succ m ih =>
  intro i e hj
  have hi:i<bs.length:=by omega
  by_cases k:O.bxF (bs.getD i default)
  ·refine ⟨i,.inl ⟨by omega,ex_at hi k⟩,qIxLB _ _ _ _ _ ⟨fun x => ?_,fun x=>by omega⟩⟩
   rw [Int.toNat_natCast]
   exact ⟨by omega,hi,fun _=>rfl,fun j=>absurd k j⟩
  ·obtain ⟨n,hn,w⟩:=ih (i+1) (by omega) (ZbK hj k)
   refine ⟨n,hn,qIxLB _ _ _ _ _ ⟨fun x => ?_,fun x=>by omega⟩⟩
   rw [Int.toNat_natCast,show (i:Int)+1=((i+1:Nat):Int) by omega]
   exact ⟨by omega,hi,fun j=>absurd j k,fun _=>⟨by omega,w⟩⟩
theorem ix_C {f:Bool} {bs:List Bx} {px py qx qy:Int} (h:O.okFr bs px py qx qy) (m:Nat):∀ i:Nat,i+m=bs.length->(∀ j,j<i->¬O.Zgb (bs.getD j default) ⟨px,py⟩ ⟨qx,qy⟩=true) -> ∃ n,((0<=n /\ ∃ c ∈ bs,O.Zgb c ⟨px,py⟩ ⟨qx,qy⟩=true)\/(n = -1/\¬∃ c ∈ bs,O.Zgb c ⟨px,py⟩ ⟨qx,qy⟩=true))/\ZdR f bs px py qx qy bs.length i (Zaf (.int .i64 n)):=by
 have hb:=h.1.1
 induction m with
 | zero=>exact fun i e hj=>⟨-1,.inr ⟨rfl,ZgG fun j h=>hj j (by omega)⟩,qIxLC _ _ _ _ _ _ _ _ _ ⟨fun x=>by omega,fun _=>rfl⟩⟩
 | succ m ih =>
  intro i e hj
  have hi:i<bs.length:=by omega
  have c:=h.1.2 _ (Zay hi)
  have ok:O.cc8 (bs.getD i default).x0 (bs.getD i default).y0 (bs.getD i default).x1 (bs.getD i default).y1 px py qx qy:=⟨c,h.2.1.1,h.2.1.2,h.2.2.1,h.2.2.2⟩
  by_cases k:O.Zgb (bs.getD i default) ⟨px,py⟩ ⟨qx,qy⟩=true
  ·refine ⟨i,.inl ⟨by omega,ex_at (p:=fun c=>O.Zgb c ⟨px,py⟩ ⟨qx,qy⟩=true) hi k⟩,qIxLC _ _ _ _ _ _ _ _ _ ⟨fun x => ?_,fun x=>by omega⟩⟩
   rw [Int.toNat_natCast]
   exact ⟨ok,by omega,hi,fun _=>rfl,fun j=>absurd k j⟩
  ·obtain ⟨n,hn,w⟩:=ih (i+1) (by omega) (ZbK hj k)
   refine ⟨n,hn,qIxLC _ _ _ _ _ _ _ _ _ ⟨fun x => ?_,fun x=>by omega⟩⟩
   rw [Int.toNat_natCast,show (i:Int)+1=((i+1:Nat):Int) by omega]
   exact ⟨ok,by omega,hi,fun j=>absurd j k,fun _=>⟨by omega,w⟩⟩
theorem ev38_a (f:Bool) (bs:List Bx) (h:bs.length<=100):Ev M1 (.pure 38 [.vec f 5 (bs.map Bx.a),.func (.func 39) [] []]) (.bool (O.any O.bxI bs)) []:=by
 obtain ⟨n,hn,w⟩:=ix_A (f:=f) h bs.length 0 (by omega) (fun j h=>absurd h (Nat.not_lt_zero j))
 exact call38 (qCtA _ _ _ ⟨n,call59 (qIxA _ _ _ w),congrArg AV.bool (any_of hn)⟩)
theorem ev38_b (f:Bool) (bs:List Bx) (h:bs.length<=100):Ev M1 (.pure 38 [.vec f 5 (bs.map Bx.a),.func (.func 41) [] []]) (.bool (O.any O.bxF bs)) []:=by
 obtain ⟨n,hn,w⟩:=ix_B (f:=f) h bs.length 0 (by omega) (fun j h=>absurd h (Nat.not_lt_zero j))
 exact call38 (qCtB _ _ _ ⟨n,call59 (qIxB _ _ _ w),congrArg AV.bool (any_of hn)⟩)
theorem ev38_c (f:Bool) (bs:List Bx) (px py qx qy:Int) (h:O.okFr bs px py qx qy):Ev M1 (.pure 38 [.vec f 5 (bs.map Bx.a),.func (.func 43) [] [.eptr 2 [.agg [.int .i64 px,.int .i64 py]] 0 0,.eptr 2 [.agg [.int .i64 qx,.int .i64 qy]] 0 0]]) (.bool (!O.frB bs ⟨px,py⟩ ⟨qx,qy⟩)) []:=by
 obtain ⟨n,hn,w⟩:=ix_C (f:=f) h bs.length 0 (by omega) (fun j h=>absurd h (Nat.not_lt_zero j))
 refine call38 (qCtC _ _ _ _ _ _ _ ⟨n,call59 (qIxC _ _ _ _ _ _ _ w),congrArg AV.bool ?_⟩)
 rw [any_of hn]
 unfold O.any O.frB
 by_cases k:O.ZbT bs ⟨px,py⟩ ⟨qx,qy⟩
 ·rw [dec_t k,dec_f];· rfl
  rintro ⟨c,hc,e⟩
  rw [k c hc] at e;exact absurd e (by decide)
 ·rw [dec_f k,dec_t];· rfl
  refine Classical.byContradiction fun no=>k fun c hc => ?_
  cases e:O.Zgb c ⟨px,py⟩ ⟨qx,qy⟩ with
  | false=>rfl
  | true=>exact absurd ⟨c,hc,e⟩ no
theorem rev_loop {gs:List Gp} {v:Nat} (hn:gs.length<=1000) (m:Nat):∀ (i:Nat) (ms:List Gp),gs.length<=2*i+m->2*i<=gs.length+1->ms.length=gs.length->(∀ k,k<gs.length->ms.getD k default=if k<i\/gs.length<=k+i then gs.getD (gs.length-1-k) default else gs.getD k default) ->
  Zei ms v i ((gs.length:Int)-1-i) (Zf8 (.tup []) [⟨gs.reverse.map Gp.a,2,v,false,true⟩]):=by
 have fin:∀ (i:Nat) (ms:List Gp),gs.length<=2*i+1->ms.length=gs.length->(∀ k,k<gs.length->ms.getD k default=if k<i\/gs.length<=k+i then gs.getD (gs.length-1-k) default else gs.getD k default) ->
  Zei ms v i ((gs.length:Int)-1-i) (Zf8 (.tup []) [⟨gs.reverse.map Gp.a,2,v,false,true⟩]):=fun i ms e hl hk=>by
  refine qRvA _ _ _ _ _ ⟨fun x=>by omega,fun _ => ?_⟩
  have:ms=gs.reverse:=by
   refine List.ext_getElem (by rw [hl,List.length_reverse]) fun k h1 h2 => ?_
   have:=hk k (by omega)
   rw [List.getD_eq_getElem?_getD,List.getElem?_eq_getElem h1,Option.getD_some] at this
   rw [this,List.getElem_reverse]
   split
   ·rw [List.getD_eq_getElem?_getD,List.getElem?_eq_getElem (by omega),Option.getD_some]
   ·have ek:gs.length-1-k=k:=by omega
    rw [List.getD_eq_getElem?_getD,List.getElem?_eq_getElem (by omega:k<gs.length),Option.getD_some]
    congr 1;omega
  rw [this]
  exact ⟨rfl,rfl⟩
 induction m with
 | zero=>exact fun i ms e _ hl hk=>fin i ms (by omega) hl hk
 | succ m ih =>
  intro i ms e e2 hl hk
  by_cases h:2*i+1<gs.length
  ·refine qRvA _ _ _ _ _ ⟨fun x => ?_,fun x=>by omega⟩
   rw [show ((gs.length:Int)-1-i).toNat=gs.length-1-i by omega,Int.toNat_natCast,List.length_set]
   refine ⟨by omega,by omega,by omega,by omega,by omega,by omega,by omega,?_⟩
   have:=ih (i+1) ((ms.set i (ms.getD (gs.length-1-i) default)).set (gs.length-1-i) (ms.getD i default)) (by omega) (by omega) (by rw [List.length_set,List.length_set,hl]) fun k hk2=>by
    rw [ZbS _ _ _ _ (by rw [List.length_set];omega),ZbS _ _ _ _ (by omega)]
    have h1:=hk i (by omega)
    have h2:=hk (gs.length-1-i) (by omega)
    have h3:=hk k hk2
    by_cases c1:k=gs.length-1-i
    ·rw [if_pos c1,h1,if_neg (by omega),if_pos (by omega),c1,show gs.length-1-(gs.length-1-i)=i by omega]
    ·rw [if_neg c1]
     by_cases c2:k=i
     ·rw [if_pos c2,h2,if_neg (by omega),if_pos (by omega),c2]
     ·rw [if_neg c2,h3]
      by_cases c3:k<i\/gs.length<=k+i
      ·rw [if_pos c3,if_pos (by omega)]
      ·rw [if_neg c3,if_neg (by omega)]
   rw [show (i:Int)+1=((i+1:Nat):Int) by omega,show (gs.length:Int)-1-i-1=(gs.length:Int)-1-((i+1:Nat):Int) by omega]
   exact this
  ·exact fin i ms (by omega) hl hk
theorem evo60 (gs:List Gp) (v:Nat) (h:gs.length<=1000):Ev M1 (.own 60 [.row 0 v] [⟨gs.map Gp.a,2,v,false,true⟩]) (.tup []) [⟨gs.reverse.map Gp.a,2,v,false,true⟩]:=by
 refine keepcall60 rfl (qRv _ _ _ ⟨by omega,?_⟩)
 have:=rev_loop (v:=v) h gs.length 0 gs (by omega) (by omega) rfl fun k hk=>by rw [if_neg (by omega)]
 rw [show (gs.length:Int)-1-((0:Nat):Int)=(gs.length:Int)-1 by omega] at this
 exact this
end Go.Av

namespace Go.Av
open Go.Proofs
set_option maxRecDepth 100000
def fi42:Fi:=⟨10,[.tmp 5]⟩
def kp42:List (Nat × List Nat):=[(0,[2,3,4]),(1,[5])]
def qC3_at (f:Bool) (bs:List Bx) (px py qx qy:Int) (Q:AV->Heap->Prop):Prop:=Wp M1 (.run fi42 (atC (cd Try.f42) []) [(0,.agg [.int .i64 px,.int .i64 py]),(1,.agg [.int .i64 qx,.int .i64 qy]),(2,.eptr 1 [.vec f 5 (bs.map Bx.a)] 0 0)] []) Q
theorem call42 {args:List AV} {d:AV} (h:wc M1 fi42 Try.f42 args d):Ev M1 (.pure 42 args) d []:=pcl _ _ (by kernel_rfl) h
theorem qC3 (f:Bool) (bs:List Bx) (px py qx qy:Int)  (dq:AV) (H :
  (O.okFr bs px py qx qy) /\
  (vb !!O.frB bs { x:=px,y:=py } { x:=qx,y:=qy })=dq) :
 qC3_at f bs px py qx qy (Zaf dq):=by
 unfold qC3_at
 obtain ⟨k1,H⟩:=H
 exact Zah (G:=Zad kp42 [(1,2,.call (vb !O.frB bs { x:=px,y:=py } { x:=qx,y:=qy }) none)] []) 1000 [] (vb !!O.frB bs { x:=px,y:=py } { x:=qx,y:=qy }) (by kernel_rfl) (bc rfl (bc rfl b0)) q0 (ce (@ev38_c f bs px py qx qy k1) c0) H
end Go.Av

namespace Go.Av
open Go.Proofs
theorem ev42 (f:Bool) (bs:List Bx) (px py qx qy:Int) (h:O.okFr bs px py qx qy):Ev M1 (.pure 42 [.agg [.int .i64 px,.int .i64 py],.agg [.int .i64 qx,.int .i64 qy],.eptr 1 [.vec f 5 (bs.map Bx.a)] 0 0]) (.bool (O.frB bs ⟨px,py⟩ ⟨qx,qy⟩)) []:=
 call42 (qC3 _ _ _ _ _ _ _ ⟨h,by rw [Bool.not_not]⟩)
end Go.Av

namespace Go.Av
open Go.Proofs
set_option maxRecDepth 100000
def fi44:Fi:=⟨177,[.tmp 4]⟩
def kp44:List (Nat × List Nat):=[(0,[0,1]),(1,[0,1,5]),(2,[0,1,5,6]),(3,[0,1,5,6,7]),(4,[0,1,5,6,7,25,26]),(5,[0,1,5,6,7,25,26,27]),(6,[0,1,5,6,7,8,25,26]),(7,[0,1,5,6,7,25,26]),(8,[0,1,5,6,7,25,26]),(9,[0,1,5,6,7]),(10,[0,1,5,6,7,9]),(11,[0,1,5,6,7,9,39,40]),(12,[0,1,5,6,7,9,39,40,41]),(13,[0,1,5,6,7,9,10,39,40]),(14,[0,1,5,6,7,9,10,39,40,69]),(15,[0,1,5,6,7,9,39,40]),(16,[0,1,5,6,7,9,39,40]),(17,[0,1,5,6,7,9,73]),(18,[4]),(19,[0,1,5,6,7,9,78]),(20,[0,1,5,6,7,9]),(21,[0,1,5,6,7,9,83,84]),(22,[0,1,5,6,7,9,83,84,85]),(23,[0,1,5,6,7,9,11,83,84]),(24,[0,1,5,6,7,9,11,12,83,84]),(25,[0,1,5,6,7,9,11,12,83,84,132]),(26,[0,1,5,6,7,9,83,84]),(27,[0,1,5,6,7,9,83,84]),(28,[0,6,13]),(29,[0,6,13,14]),(30,[0,6,13,14,146]),(31,[0,6,13,14]),(32,[0,6,13,14,166]),(33,[0,6,13,14]),(34,[13]),(35,[4])]
def ZgD (f g:Bool) (bs:List Bx) (l:List Gp) (Q:AV->Heap->Prop):Prop:=Wp M1 (.run fi44 (atC (cd Try.f44) []) [(0,.vec g 2 (l.map Gp.a)),(1,.func (.func 42) [] [.eptr 1 [.vec f 5 (bs.map Bx.a)] 0 0])] []) Q
def Zfo (f g:Bool) (bs:List Bx) (l:List Gp) (fa bf:List Int) (dn:List Bool) (n i:Int) (Q:AV->Heap->Prop):Prop:=Wp M1 (.run fi44 (atC (cd Try.f44) [1,1,1,1,0,1,0,0]) [(0,.vec g 2 (l.map Gp.a)),(1,.func (.func 42) [] [.eptr 1 [.vec f 5 (bs.map Bx.a)] 0 0]),(5,.row 0 0),(6,.row 1 0),(7,.row 2 0),(25,.int .i64 n),(26,.int .i64 i)] [⟨fa.map (.int .i64),1,0,false,true⟩,⟨bf.map (.int .i64),1,0,false,true⟩,⟨dn.map .bool,1,0,false,true⟩]) Q
def Zdy (f g:Bool) (bs:List Bx) (l:List Gp) (fa bf:List Int) (dn:List Bool) (Q:AV->Heap->Prop):Prop:=Wp M1 (.run fi44 (atC (cd Try.f44) [1,1,1,1,1,1,0,0,0]) [(0,.vec g 2 (l.map Gp.a)),(1,.func (.func 42) [] [.eptr 1 [.vec f 5 (bs.map Bx.a)] 0 0]),(5,.row 0 0),(6,.row 1 0),(7,.row 2 0)] [⟨fa.map (.int .i64),1,0,false,true⟩,⟨bf.map (.int .i64),1,0,false,true⟩,⟨dn.map .bool,1,0,false,true⟩]) Q
def Zeh (f g:Bool) (bs:List Bx) (l:List Gp) (fa bf:List Int) (dn:List Bool) (m n i:Int) (Q:AV->Heap->Prop):Prop:=Wp M1 (.run fi44 (atC (cd Try.f44) [1,1,1,1,1,1,0,0,0,0,1,0,1,0,0]) [(0,.vec g 2 (l.map Gp.a)),(1,.func (.func 42) [] [.eptr 1 [.vec f 5 (bs.map Bx.a)] 0 0]),(5,.row 0 0),(6,.row 1 0),(7,.row 2 0),(9,.int .i64 m),(39,.int .i64 n),(40,.int .i64 i)] [⟨fa.map (.int .i64),1,0,false,true⟩,⟨bf.map (.int .i64),1,0,false,true⟩,⟨dn.map .bool,1,0,false,true⟩]) Q
def Zdx (f g:Bool) (bs:List Bx) (l:List Gp) (fa bf:List Int) (dn:List Bool) (m n i:Int) (Q:AV->Heap->Prop):Prop:=Wp M1 (.run fi44 (atC (cd Try.f44) [1,1,1,1,1,1,0,0,0,0,1,1,1,1,1,1,0,0]) [(0,.vec g 2 (l.map Gp.a)),(1,.func (.func 42) [] [.eptr 1 [.vec f 5 (bs.map Bx.a)] 0 0]),(5,.row 0 0),(6,.row 1 0),(7,.row 2 0),(9,.int .i64 m),(83,.int .i64 n),(84,.int .i64 i)] [⟨fa.map (.int .i64),1,0,false,true⟩,⟨bf.map (.int .i64),1,0,false,true⟩,⟨dn.map .bool,1,0,false,true⟩]) Q
def qSh5_at (g:Bool) (l:List Gp) (bf:List Int) (i:Int) (Q:AV->Heap->Prop):Prop:=Wp M1 (.run fi44 (atC (cd Try.f44) [1,1,1,1,1,1,1,1,0,1,0,0]) [(0,.vec g 2 (l.map Gp.a)),(6,.row 0 0),(13,.vnil),(14,.int .i64 i)] [⟨bf.map (.int .i64),1,0,false,true⟩]) Q
def Zdw (g:Bool) (l gs:List Gp) (bf:List Int) (i:Int) (v:Nat) (Q:AV->Heap->Prop):Prop:=Wp M1 (.run fi44 (atC (cd Try.f44) [1,1,1,1,1,1,1,1,0,1,0,0]) [(0,.vec g 2 (l.map Gp.a)),(6,.row 0 0),(13,.row 1 v),(14,.int .i64 i)] [⟨bf.map (.int .i64),1,0,false,true⟩,⟨gs.map Gp.a,2,v,false,true⟩]) Q
theorem call44 {args:List AV} {d:AV} (h:wc M1 fi44 Try.f44 args d):Ev M1 (.pure 44 args) d []:=pcl _ _ (by kernel_rfl) h
theorem qSh (f g:Bool) (bs:List Bx) (l:List Gp)  (dq:AV) (H :
  (0<=(↑l.length:Int)) /\
  ((↑l.length:Int)*8<=1099511627776) /\
  ((↑l.length:Int)<=1099511627776) /\
  ((↑l.length:Int)*1<=1099511627776) /\
  Zfo f g bs l (List.replicate (↑l.length:Int).toNat (0:Int)) (List.replicate (↑l.length:Int).toNat (0:Int)) (List.replicate (↑l.length:Int).toNat false) ((↑(List.replicate (↑l.length:Int).toNat (0:Int)).length:Int)) 0 (Zaf dq)) :
 ZgD f g bs l (Zaf dq):=by
 unfold ZgD
 have w1:(List.map Gp.a l).length=l.length:=List.length_map ..
 have i2:(decide (0<=(↑(List.map Gp.a l).length:Int)))=true ↔ (0<=(↑l.length:Int)):=(by (try rw [w1]);all_goals exact Zab)
 obtain ⟨k3,H⟩:=H
 have i4:(decide ((↑(List.map Gp.a l).length:Int)<=(↑(List.map Gp.a l).length:Int)))=true ↔ ((↑l.length:Int)<=(↑l.length:Int)):=(by (try rw [w1]);all_goals exact Zab)
 have i5:(decide ((↑(List.map Gp.a l).length:Int)*8<=1099511627776))=true ↔ ((↑l.length:Int)*8<=1099511627776):=(by (try rw [w1]);all_goals exact Zab)
 obtain ⟨k6,H⟩:=H
 have i7:(decide ((↑(List.map Gp.a l).length:Int)<=1099511627776))=true ↔ ((↑l.length:Int)<=1099511627776):=(by (try rw [w1]);all_goals exact Zab)
 obtain ⟨k8,H⟩:=H
 have w9:List.replicate (↑l.length:Int).toNat (vi 0)=List.map vi (List.replicate (↑l.length:Int).toNat (0:Int)):=(ZgM rfl)
 have i10:(decide (0<=(↑(List.map Gp.a l).length:Int)))=true ↔ (0<=(↑l.length:Int)):=(by (try rw [w1]);all_goals exact Zab)
 have i11:(decide ((↑(List.map Gp.a l).length:Int)<=(↑(List.map Gp.a l).length:Int)))=true ↔ ((↑l.length:Int)<=(↑l.length:Int)):=(by (try rw [w1]);all_goals exact Zab)
 have i12:(decide ((↑(List.map Gp.a l).length:Int)*8<=1099511627776))=true ↔ ((↑l.length:Int)*8<=1099511627776):=(by (try rw [w1]);all_goals exact Zab)
 have i13:(decide ((↑(List.map Gp.a l).length:Int)<=1099511627776))=true ↔ ((↑l.length:Int)<=1099511627776):=(by (try rw [w1]);all_goals exact Zab)
 have i14:(decide (0<=(↑(List.map Gp.a l).length:Int)))=true ↔ (0<=(↑l.length:Int)):=(by (try rw [w1]);all_goals exact Zab)
 have i15:(decide ((↑(List.map Gp.a l).length:Int)<=(↑(List.map Gp.a l).length:Int)))=true ↔ ((↑l.length:Int)<=(↑l.length:Int)):=(by (try rw [w1]);all_goals exact Zab)
 have i16:(decide ((↑(List.map Gp.a l).length:Int)*1<=1099511627776))=true ↔ ((↑l.length:Int)*1<=1099511627776):=(by (try rw [w1]);all_goals exact Zab)
 obtain ⟨k17,H⟩:=H
 have i18:(decide ((↑(List.map Gp.a l).length:Int)<=1099511627776))=true ↔ ((↑l.length:Int)<=1099511627776):=(by (try rw [w1]);all_goals exact Zab)
 have w19:List.replicate (↑l.length:Int).toNat (vb false)=List.map vb (List.replicate (↑l.length:Int).toNat false):=(ZgM rfl)
 have w20:(List.map vi (List.replicate (↑l.length:Int).toNat (0:Int))).length=(List.replicate (↑l.length:Int).toNat (0:Int)).length:=List.length_map ..
 exact Zac (G:=Zad kp44 [] []) 1000 [] ⟨(atC (cd Try.f44) [1,1,1,1,0,1,0,0]),[(0,AV.vec g 2 (List.map Gp.a l)),(1,AV.func (Fn.func 42) [] [AV.eptr 1 [AV.vec f 5 (List.map Bx.a bs)] 0 0]),(5,AV.row 0 0),(6,AV.row 1 0),(7,AV.row 2 0),(25,vi (↑(List.replicate (↑(List.map Gp.a l).length:Int).toNat (vi 0)).length:Int)),(26,vi 0)],[⟨List.replicate (↑(List.map Gp.a l).length:Int).toNat (vi 0),1,0,false,true⟩,⟨List.replicate (↑(List.map Gp.a l).length:Int).toNat (vi 0),1,0,false,true⟩,⟨List.replicate (↑(List.map Gp.a l).length:Int).toNat (vb false),1,0,false,true⟩],[decide (0<=(↑(List.map Gp.a l).length:Int)),decide ((↑(List.map Gp.a l).length:Int)<=(↑(List.map Gp.a l).length:Int)),decide ((↑(List.map Gp.a l).length:Int)*8<=1099511627776),decide ((↑(List.map Gp.a l).length:Int)<=1099511627776),decide (0<=(↑(List.map Gp.a l).length:Int)),decide ((↑(List.map Gp.a l).length:Int)<=(↑(List.map Gp.a l).length:Int)),decide ((↑(List.map Gp.a l).length:Int)*8<=1099511627776),decide ((↑(List.map Gp.a l).length:Int)<=1099511627776),decide (0<=(↑(List.map Gp.a l).length:Int)),decide ((↑(List.map Gp.a l).length:Int)<=(↑(List.map Gp.a l).length:Int)),decide ((↑(List.map Gp.a l).length:Int)*1<=1099511627776),decide ((↑(List.map Gp.a l).length:Int)<=1099511627776),true],[],_⟩ (by kernel_rfl) (bc (i2.2 k3) (bc (i4.2 (by omega)) (bc (i5.2 k6) (bc (i7.2 k8) (bc (i10.2 k3) (bc (i11.2 (by omega)) (bc (i12.2 k6) (bc (i13.2 k8) (bc (i14.2 k3) (bc (i15.2 (by omega)) (bc (i16.2 k17) (bc (i18.2 k8) (bc rfl b0))))))))))))) q0 c0 (by (try rw [w1]);(try rw [w9]);(try rw [w19]);(try rw [w20]);all_goals exact H)
theorem qSh1 (f g:Bool) (bs:List Bx) (l:List Gp) (fa bf:List Int) (dn:List Bool) (n i:Int)  (dq:AV) (H :
  ((i<n)->(0<=i) /\
   (i.toNat<fa.length) /\
   (i.toNat<bf.length) /\
   (-9223372036854775808<=i+1/\i+1<=9223372036854775807) /\
   Zfo f g bs l (fa.set i.toNat (-1)) (bf.set i.toNat (-1)) dn n (i+1) (Zaf dq)) /\
  (¬(i<n)->(0<fa.length) /\
   Zdy f g bs l (fa.set 0 0) bf dn (Zaf dq))) :
 Zfo f g bs l fa bf dn n i (Zaf dq):=by
 unfold Zfo
 rcases xq H with ⟨d2,H⟩|⟨d2,H⟩
 ·obtain ⟨k4,H⟩:=H
  have w5:(List.map vi fa).length=fa.length:=List.length_map ..
  have i6:(decide (i.toNat<(List.map vi fa).length))=true ↔ (i.toNat<fa.length):=(by (try rw [w5]);all_goals exact Zab)
  obtain ⟨k7,H⟩:=H
  have w9:(List.map vi bf).length=bf.length:=List.length_map ..
  have i10:(decide (i.toNat<(List.map vi bf).length))=true ↔ (i.toNat<bf.length):=(by (try rw [w9]);all_goals exact Zab)
  obtain ⟨k11,H⟩:=H
  have w12:(List.map vi fa).set i.toNat (vi (-1))=List.map vi (fa.set i.toNat (-1)):=(Zba rfl rfl)
  have w13:(List.map vi bf).set i.toNat (vi (-1))=List.map vi (bf.set i.toNat (-1)):=(Zba rfl rfl)
  obtain ⟨k14,H⟩:=H
  have w15:wi (i+1)=i+1:=wI64 k14
  exact Zac (G:=Zad kp44 [(7,5,.elem (vi (fa.getD i.toNat default))),(7,7,.elem (vi (bf.getD i.toNat default)))] []) 1000 [true] ⟨(atC (cd Try.f44) [1,1,1,1,0,1,0,0]),[(0,AV.vec g 2 (List.map Gp.a l)),(1,AV.func (Fn.func 42) [] [AV.eptr 1 [AV.vec f 5 (List.map Bx.a bs)] 0 0]),(5,AV.row 0 0),(6,AV.row 1 0),(7,AV.row 2 0),(25,vi n),(26,vi (wi (i+1)))],[⟨(List.map vi fa).set i.toNat (vi (-1)),1,0,false,true⟩,⟨(List.map vi bf).set i.toNat (vi (-1)),1,0,false,true⟩,⟨List.map vb dn,1,0,false,true⟩],_,[((List.map vi fa).get?Internal i.toNat=some (vi (fa.getD i.toNat default))),((List.map vi bf).get?Internal i.toNat=some (vi (bf.getD i.toNat default)))],_⟩ (by kernel_rfl) (bc (Zal (Zab.2 d2)) (bc rfl (bc (Zab.2 k4) (bc (i6.2 k7) (bc rfl (bc rfl (bc (Zab.2 k4) (bc (i10.2 k11) (bc rfl b0))))))))) (qc (Zai k7) (qc (Zai k11) q0)) c0 (by (try rw [w12]);(try rw [w13]);(try rw [w15]);all_goals exact H)
 ·have w16:(List.map vi fa).length=fa.length:=List.length_map ..
  have i17:(decide (0<(List.map vi fa).length))=true ↔ (0<fa.length):=(by (try rw [w16]);all_goals exact Zab)
  obtain ⟨k18,H⟩:=H
  have w19:(List.map vi fa).set 0 (vi 0)=List.map vi (fa.set 0 0):=(Zba rfl rfl)
  exact Zac (G:=Zad kp44 [(9,2,.elem (vi (fa.getD 0 default)))] []) 1000 [false] ⟨(atC (cd Try.f44) [1,1,1,1,1,1,0,0,0]),[(0,AV.vec g 2 (List.map Gp.a l)),(1,AV.func (Fn.func 42) [] [AV.eptr 1 [AV.vec f 5 (List.map Bx.a bs)] 0 0]),(5,AV.row 0 0),(6,AV.row 1 0),(7,AV.row 2 0)],[⟨(List.map vi fa).set 0 (vi 0),1,0,false,true⟩,⟨List.map vi bf,1,0,false,true⟩,⟨List.map vb dn,1,0,false,true⟩],_,[((List.map vi fa).get?Internal 0=some (vi (fa.getD 0 default)))],_⟩ (by kernel_rfl) (bc (Zak (fun h=>d2 (Zab.1 h))) (bc rfl (bc rfl (bc (i17.2 k18) (bc rfl b0))))) (qc (Zai k18) q0) c0 (by (try rw [w19]);all_goals exact H)
theorem qSh2 (f g:Bool) (bs:List Bx) (l:List Gp) (fa bf:List Int) (dn:List Bool)  (dq:AV) (H :
  Zeh f g bs l fa bf dn (-1) ((↑l.length:Int)) 0 (Zaf dq)) :
 Zdy f g bs l fa bf dn (Zaf dq):=by
 unfold Zdy
 have w1:(List.map Gp.a l).length=l.length:=List.length_map ..
 exact Zac (G:=Zad kp44 [] []) 1000 [] ⟨(atC (cd Try.f44) [1,1,1,1,1,1,0,0,0,0,1,0,1,0,0]),[(0,AV.vec g 2 (List.map Gp.a l)),(1,AV.func (Fn.func 42) [] [AV.eptr 1 [AV.vec f 5 (List.map Bx.a bs)] 0 0]),(5,AV.row 0 0),(6,AV.row 1 0),(7,AV.row 2 0),(9,vi (-1)),(39,vi (↑(List.map Gp.a l).length:Int)),(40,vi 0)],[⟨List.map vi fa,1,0,false,true⟩,⟨List.map vi bf,1,0,false,true⟩,⟨List.map vb dn,1,0,false,true⟩],_,[],_⟩ (by kernel_rfl) b0 q0 c0 (by (try rw [w1]);all_goals exact H)
noncomputable abbrev ZeI (dn:List Bool) (i:Int) (fa:List Int):=bif !dn.getD i.toNat default then decide (fa.getD i.toNat default>=0) else false
noncomputable abbrev zNqI2 (dn:List Bool) (i:Int) (fa:List Int) (m:Int):=bif bif !dn.getD i.toNat default then decide (fa.getD i.toNat default>=0) else false then bif decide (m<0) then true else decide (fa.getD i.toNat default<fa.getD m.toNat default) else false
theorem qSh3 (f g:Bool) (bs:List Bx) (l:List Gp) (fa bf:List Int) (dn:List Bool) (m n i:Int)  (dq:AV) (H :
  ((i<n)->(0<=i) /\
   (i.toNat<dn.length) /\
   ((¬(dn.getD i.toNat default=true))->(i.toNat<fa.length)) /\
   (((¬(m<0))/\((¬(dn.getD i.toNat default=true))/\(fa.getD i.toNat default>=0)))->(i.toNat<fa.length)) /\
   (((¬(m<0))/\((¬(dn.getD i.toNat default=true))/\(fa.getD i.toNat default>=0)))->(0<=m)) /\
   (((¬(m<0))/\((¬(dn.getD i.toNat default=true))/\(fa.getD i.toNat default>=0)))->(m.toNat<fa.length)) /\
   ((((¬(dn.getD i.toNat default=true))/\(fa.getD i.toNat default>=0))/\((m<0)\/(fa.getD i.toNat default<fa.getD m.toNat default)))->(-9223372036854775808<=i+1/\i+1<=9223372036854775807) /\
    Zeh f g bs l fa bf dn i n (i+1) (Zaf dq)) /\
   (¬(((¬(dn.getD i.toNat default=true))/\(fa.getD i.toNat default>=0))/\((m<0)\/(fa.getD i.toNat default<fa.getD m.toNat default)))->(-9223372036854775808<=i+1/\i+1<=9223372036854775807) /\
    Zeh f g bs l fa bf dn m n (i+1) (Zaf dq))) /\
  (¬(i<n)->((m<0)->Weak (AV.vnil) dq) /\
   (¬(m<0)->(-9223372036854775808<=(↑l.length:Int)-1/\(↑l.length:Int)-1<=9223372036854775807) /\
    ((m=(↑l.length:Int)-1)->qSh5_at g l bf ((↑l.length:Int)-1) (Zaf dq)) /\
    (¬(m=(↑l.length:Int)-1)->(0<=m) /\
     (m.toNat<dn.length) /\
     Zdx f g bs l fa bf (dn.set m.toNat true) m ((↑l.length:Int)) 0 (Zaf dq))))) :
 Zeh f g bs l fa bf dn m n i (Zaf dq):=by
 unfold Zeh
 rcases xq H with ⟨d2,H⟩|⟨d2,H⟩
 ·obtain ⟨k4,H⟩:=H
  have w5:(List.map vb dn).length=dn.length:=List.length_map ..
  have i6:(decide (i.toNat<(List.map vb dn).length))=true ↔ (i.toNat<dn.length):=(by (try rw [w5]);all_goals exact Zab)
  obtain ⟨k7,H⟩:=H
  have w9:(List.map vi fa).length=fa.length:=List.length_map ..
  have i10:(!((!dn.getD i.toNat default)==true&&true)||decide (i.toNat<(List.map vi fa).length))=true ↔ ((¬(dn.getD i.toNat default=true))->(i.toNat<fa.length)):=(by (try rw [w9]);all_goals exact (Za2 (i_at (i_bt (Za7 (ZaD _)))) Zab))
  obtain ⟨k11,H⟩:=H
  have i13:(!(decide (m<0)==false&&((ZeI dn i fa)==true&&true))||decide (i.toNat<(List.map vi fa).length))=true ↔ (((¬(m<0))/\((¬(dn.getD i.toNat default=true))/\(fa.getD i.toNat default>=0)))->(i.toNat<fa.length)):=(by (try rw [w9]);all_goals exact (Za2 (ZcI (i_bf Zab) (i_at (i_bt (ZaZ (Za7 (ZaD _)) Zab)))) Zab))
  obtain ⟨k14,k16,H⟩:=H
  have i17:(!(decide (m<0)==false&&((ZeI dn i fa)==true&&true))||decide (m.toNat<(List.map vi fa).length))=true ↔ (((¬(m<0))/\((¬(dn.getD i.toNat default=true))/\(fa.getD i.toNat default>=0)))->(m.toNat<fa.length)):=(by (try rw [w9]);all_goals exact (Za2 (ZcI (i_bf Zab) (i_at (i_bt (ZaZ (Za7 (ZaD _)) Zab)))) Zab))
  obtain ⟨k18,H⟩:=H
  refine Zac (G:=Zad kp44 [(14,3,.elem (vb (dn.getD i.toNat default))),(14,9,.elem (vi (fa.getD i.toNat default))),(14,19,.elem (vi (fa.getD i.toNat default))),(14,23,.elem (vi (fa.getD m.toNat default)))] []) 11 [true] ⟨(atC (cd Try.f44) [1,1,1,1,1,1,0,0,0,0,1,0,1,0,0,1,1,0,0,1,1]),[(0,AV.vec g 2 (List.map Gp.a l)),(1,AV.func (Fn.func 42) [] [AV.eptr 1 [AV.vec f 5 (List.map Bx.a bs)] 0 0]),(5,AV.row 0 0),(6,AV.row 1 0),(7,AV.row 2 0),(9,vi m),(10,vi i),(39,vi n),(40,vi i),(69,vb (zNqI2 dn i fa m))],[⟨List.map vi fa,1,0,false,true⟩,⟨List.map vi bf,1,0,false,true⟩,⟨List.map vb dn,1,0,false,true⟩],[(decide (i<n))==true,true,decide (0<=i),decide (i.toNat<(List.map vb dn).length),true,!((!dn.getD i.toNat default)==true&&true)||true,!((!dn.getD i.toNat default)==true&&true)||decide (0<=i),!((!dn.getD i.toNat default)==true&&true)||decide (i.toNat<(List.map vi fa).length),!((!dn.getD i.toNat default)==true&&true)||true,!(decide (m<0)==false&&((ZeI dn i fa)==true&&true))||true,!(decide (m<0)==false&&((ZeI dn i fa)==true&&true))||decide (0<=i),!(decide (m<0)==false&&((ZeI dn i fa)==true&&true))||decide (i.toNat<(List.map vi fa).length),!(decide (m<0)==false&&((ZeI dn i fa)==true&&true))||true,!(decide (m<0)==false&&((ZeI dn i fa)==true&&true))||true,!(decide (m<0)==false&&((ZeI dn i fa)==true&&true))||decide (0<=m),!(decide (m<0)==false&&((ZeI dn i fa)==true&&true))||decide (m.toNat<(List.map vi fa).length),!(decide (m<0)==false&&((ZeI dn i fa)==true&&true))||true],[((List.map vb dn).get?Internal i.toNat=some (vb (dn.getD i.toNat default))),(((!dn.getD i.toNat default)==true&&true)=true->(List.map vi fa).get?Internal i.toNat=some (vi (fa.getD i.toNat default))),((decide (m<0)==false&&((ZeI dn i fa)==true&&true))=true->(List.map vi fa).get?Internal i.toNat=some (vi (fa.getD i.toNat default))),((decide (m<0)==false&&((ZeI dn i fa)==true&&true))=true->(List.map vi fa).get?Internal m.toNat=some (vi (fa.getD m.toNat default)))],_⟩ (by kernel_rfl) (bc (Zal (Zab.2 d2)) (bc rfl (bc (Zab.2 k4) (bc (i6.2 k7) (bc rfl (bc (Bool.or_true _) (bc ((Za2 (i_at (i_bt (Za7 (ZaD _)))) Zab).2 (fun _=>k4)) (bc (i10.2 k11) (bc (Bool.or_true _) (bc (Bool.or_true _) (bc ((Za2 (ZcI (i_bf Zab) (i_at (i_bt (ZaZ (Za7 (ZaD _)) Zab)))) Zab).2 (fun _=>k4)) (bc (i13.2 k14) (bc (Bool.or_true _) (bc (Bool.or_true _) (bc ((Za2 (ZcI (i_bf Zab) (i_at (i_bt (ZaZ (Za7 (ZaD _)) Zab)))) Zab).2 k16) (bc (i17.2 k18) (bc (Bool.or_true _) b0))))))))))))))))) (qc (Zai k7) (qc (fun h=>Zai (k11 ((i_at (i_bt (Za7 (ZaD _)))).1 h))) (qc (fun h=>Zai (k14 ((ZcI (i_bf Zab) (i_at (i_bt (ZaZ (Za7 (ZaD _)) Zab)))).1 h))) (qc (fun h=>Zai (k18 ((ZcI (i_bf Zab) (i_at (i_bt (ZaZ (Za7 (ZaD _)) Zab)))).1 h))) q0)))) c0 ?_
  rcases xq H with ⟨d23,H⟩|⟨d23,H⟩
  ·obtain ⟨k24,H⟩:=H
   have w25:wi (i+1)=i+1:=wI64 k24
   exact Zac (G:=Zad kp44 [] []) 1000 [true] ⟨(atC (cd Try.f44) [1,1,1,1,1,1,0,0,0,0,1,0,1,0,0]),[(0,AV.vec g 2 (List.map Gp.a l)),(1,AV.func (Fn.func 42) [] [AV.eptr 1 [AV.vec f 5 (List.map Bx.a bs)] 0 0]),(5,AV.row 0 0),(6,AV.row 1 0),(7,AV.row 2 0),(9,vi i),(39,vi n),(40,vi (wi (i+1)))],[⟨List.map vi fa,1,0,false,true⟩,⟨List.map vi bf,1,0,false,true⟩,⟨List.map vb dn,1,0,false,true⟩],[(zNqI2 dn i fa m)==true],[],_⟩ (by kernel_rfl) (bc (Zal ((ZaZ (ZaZ (Za7 (ZaD _)) Zab) (ZaF Zab Zab)).2 d23)) b0) q0 c0 (by (try rw [w25]);all_goals exact H)
  ·obtain ⟨k26,H⟩:=H
   have w27:wi (i+1)=i+1:=wI64 k26
   exact Zac (G:=Zad kp44 [] []) 1000 [false] ⟨(atC (cd Try.f44) [1,1,1,1,1,1,0,0,0,0,1,0,1,0,0]),[(0,AV.vec g 2 (List.map Gp.a l)),(1,AV.func (Fn.func 42) [] [AV.eptr 1 [AV.vec f 5 (List.map Bx.a bs)] 0 0]),(5,AV.row 0 0),(6,AV.row 1 0),(7,AV.row 2 0),(9,vi m),(39,vi n),(40,vi (wi (i+1)))],[⟨List.map vi fa,1,0,false,true⟩,⟨List.map vi bf,1,0,false,true⟩,⟨List.map vb dn,1,0,false,true⟩],[(zNqI2 dn i fa m)==false],[],_⟩ (by kernel_rfl) (bc (Zak (fun h=>d23 ((ZaZ (ZaZ (Za7 (ZaD _)) Zab) (ZaF Zab Zab)).1 h))) b0) q0 c0 (by (try rw [w27]);all_goals exact H)
 ·rcases xq H with ⟨d29,H⟩|⟨d29,H⟩
  ·exact Zao (G:=Zad kp44 [] []) 1000 [false,true] (AV.vnil) (by kernel_rfl) (bc (Zak (fun h=>d2 (Zab.1 h))) (bc (Zal (Zab.2 d29)) b0)) q0 c0 H
  ·have w30:(List.map Gp.a l).length=l.length:=List.length_map ..
   obtain ⟨k31,H⟩:=H
   have w32:wi ((↑l.length:Int)-1)=(↑l.length:Int)-1:=wI64 k31
   have i33:(m==wi ((↑(List.map Gp.a l).length:Int)-1))=true ↔ (m=(↑l.length:Int)-1):=(by (try rw [w30]);(try rw [w32]);all_goals exact i_eq)
   rcases xq H with ⟨d34,H⟩|⟨d34,H⟩
   ·exact Zac (G:=Zad kp44 [] []) 1000 [false,false,true] ⟨(atC (cd Try.f44) [1,1,1,1,1,1,1,1,0,1,0,0]),[(0,AV.vec g 2 (List.map Gp.a l)),(6,AV.row 1 0),(13,AV.vnil),(14,vi (wi ((↑(List.map Gp.a l).length:Int)-1)))],[⟨List.map vi fa,1,0,false,true⟩,⟨List.map vi bf,1,0,false,true⟩,⟨List.map vb dn,1,0,false,true⟩],_,[],_⟩ (by kernel_rfl) (bc (Zak (fun h=>d2 (Zab.1 h))) (bc (Zak (fun h=>d29 (Zab.1 h))) (bc (Zal (i33.2 d34)) b0))) q0 c0 (by (try rw [w30]);(try rw [w32]);all_goals exact Zas [1] (by kernel_rfl) H)
   ·obtain ⟨k36,H⟩:=H
    have w37:(List.map vb dn).length=dn.length:=List.length_map ..
    have i38:(decide (m.toNat<(List.map vb dn).length))=true ↔ (m.toNat<dn.length):=(by (try rw [w37]);all_goals exact Zab)
    obtain ⟨k39,H⟩:=H
    have w40:(List.map vb dn).set m.toNat (vb true)=List.map vb (dn.set m.toNat true):=(Zba rfl rfl)
    exact Zac (G:=Zad kp44 [(20,3,.elem (vb (dn.getD m.toNat default)))] []) 1000 [false,false,false] ⟨(atC (cd Try.f44) [1,1,1,1,1,1,0,0,0,0,1,1,1,1,1,1,0,0]),[(0,AV.vec g 2 (List.map Gp.a l)),(1,AV.func (Fn.func 42) [] [AV.eptr 1 [AV.vec f 5 (List.map Bx.a bs)] 0 0]),(5,AV.row 0 0),(6,AV.row 1 0),(7,AV.row 2 0),(9,vi m),(83,vi (↑(List.map Gp.a l).length:Int)),(84,vi 0)],[⟨List.map vi fa,1,0,false,true⟩,⟨List.map vi bf,1,0,false,true⟩,⟨(List.map vb dn).set m.toNat (vb true),1,0,false,true⟩],_,[((List.map vb dn).get?Internal m.toNat=some (vb (dn.getD m.toNat default)))],_⟩ (by kernel_rfl) (bc (Zak (fun h=>d2 (Zab.1 h))) (bc (Zak (fun h=>d29 (Zab.1 h))) (bc (Zak (fun h=>d34 (i33.1 h))) (bc rfl (bc (Zab.2 k36) (bc (i38.2 k39) (bc rfl b0))))))) (qc (Zai k39) q0) c0 (by (try rw [w30]);(try rw [w40]);all_goals exact H)
noncomputable abbrev zNqI3 (l:List Gp) (m:Int):=ag [vi (l.getD m.toNat default).x,vi (l.getD m.toNat default).y]
noncomputable abbrev zNqI4 (l:List Gp) (i:Int):=ag [vi (l.getD i.toNat default).x,vi (l.getD i.toNat default).y]
theorem qSh4 (f g:Bool) (bs:List Bx) (l:List Gp) (fa bf:List Int) (dn:List Bool) (m n i:Int)  (dq:AV) (H :
  ((i<n)->(O.cb4 (l.getD m.toNat default).x (l.getD m.toNat default).y (l.getD i.toNat default).x (l.getD i.toNat default).y) /\
   (0<=m) /\
   (m.toNat<fa.length) /\
   (m.toNat<l.length) /\
   (0<=i) /\
   (i.toNat<l.length) /\
   (-9223372036854775808<=fa.getD m.toNat default+O.gap { x:=(l.getD m.toNat default).x,y:=(l.getD m.toNat default).y } { x:=(l.getD i.toNat default).x,y:=(l.getD i.toNat default).y } /\ fa.getD m.toNat default+O.gap { x:=(l.getD m.toNat default).x,y:=(l.getD m.toNat default).y } { x:=(l.getD i.toNat default).x,y:=(l.getD i.toNat default).y } <= 9223372036854775807) /\
   (((¬(dn.getD i.toNat default=true))/\((fa.getD i.toNat default<0)\/(fa.getD m.toNat default+O.gap { x:=(l.getD m.toNat default).x,y:=(l.getD m.toNat default).y } { x:=(l.getD i.toNat default).x,y:=(l.getD i.toNat default).y } < fa.getD i.toNat default)))->(O.okFr bs (l.getD m.toNat default).x (l.getD m.toNat default).y (l.getD i.toNat default).x (l.getD i.toNat default).y)) /\
   (i.toNat<dn.length) /\
   ((¬(dn.getD i.toNat default=true))->(i.toNat<fa.length)) /\
   (((¬(fa.getD i.toNat default<0))/\(¬(dn.getD i.toNat default=true)))->(i.toNat<fa.length)) /\
   ((((¬(dn.getD i.toNat default=true))/\((fa.getD i.toNat default<0)\/(fa.getD m.toNat default+O.gap { x:=(l.getD m.toNat default).x,y:=(l.getD m.toNat default).y } { x:=(l.getD i.toNat default).x,y:=(l.getD i.toNat default).y } < fa.getD i.toNat default)))/\(O.frB bs { x:=(l.getD m.toNat default).x,y:=(l.getD m.toNat default).y } { x:=(l.getD i.toNat default).x,y:=(l.getD i.toNat default).y } = true))->(i.toNat<fa.length) /\
    (i.toNat<bf.length) /\
    (-9223372036854775808<=i+1/\i+1<=9223372036854775807) /\
    Zdx f g bs l (fa.set i.toNat (fa.getD m.toNat default+O.gap (l.getD m.toNat default) (l.getD i.toNat default))) (bf.set i.toNat m) dn m n (i+1) (Zaf dq)) /\
   (¬(((¬(dn.getD i.toNat default=true))/\((fa.getD i.toNat default<0)\/(fa.getD m.toNat default+O.gap { x:=(l.getD m.toNat default).x,y:=(l.getD m.toNat default).y } { x:=(l.getD i.toNat default).x,y:=(l.getD i.toNat default).y } < fa.getD i.toNat default)))/\(O.frB bs { x:=(l.getD m.toNat default).x,y:=(l.getD m.toNat default).y } { x:=(l.getD i.toNat default).x,y:=(l.getD i.toNat default).y } = true))->(-9223372036854775808<=i+1/\i+1<=9223372036854775807) /\
    Zdx f g bs l fa bf dn m n (i+1) (Zaf dq))) /\
  (¬(i<n)->Zdy f g bs l fa bf dn (Zaf dq))) :
 Zdx f g bs l fa bf dn m n i (Zaf dq):=by
 unfold Zdx
 rcases xq H with ⟨d2,H⟩|⟨d2,H⟩
 ·obtain ⟨k3,k5,H⟩:=H
  have w6:(List.map vi fa).length=fa.length:=List.length_map ..
  have i7:(decide (m.toNat<(List.map vi fa).length))=true ↔ (m.toNat<fa.length):=(by (try rw [w6]);all_goals exact Zab)
  obtain ⟨k8,H⟩:=H
  have w10:(List.map Gp.a l).length=l.length:=List.length_map ..
  have i11:(decide (m.toNat<(List.map Gp.a l).length))=true ↔ (m.toNat<l.length):=(by (try rw [w10]);all_goals exact Zab)
  obtain ⟨k12,k14,H⟩:=H
  have i15:(decide (i.toNat<(List.map Gp.a l).length))=true ↔ (i.toNat<l.length):=(by (try rw [w10]);all_goals exact Zab)
  obtain ⟨k16,k17,H⟩:=H
  have w18:wi (fa.getD m.toNat default+O.gap { x:=(l.getD m.toNat default).x,y:=(l.getD m.toNat default).y } { x:=(l.getD i.toNat default).x,y:=(l.getD i.toNat default).y })=fa.getD m.toNat default+O.gap { x:=(l.getD m.toNat default).x,y:=(l.getD m.toNat default).y } { x:=(l.getD i.toNat default).x,y:=(l.getD i.toNat default).y }:=wI64 k17
  have i19:((bif !dn.getD i.toNat default then bif decide (fa.getD i.toNat default<0) then true else decide (wi (fa.getD m.toNat default+O.gap { x:=(l.getD m.toNat default).x,y:=(l.getD m.toNat default).y } { x:=(l.getD i.toNat default).x,y:=(l.getD i.toNat default).y })<fa.getD i.toNat default) else false)==true&&true&&true)=true ↔ ((¬(dn.getD i.toNat default=true))/\((fa.getD i.toNat default<0)\/(fa.getD m.toNat default+O.gap { x:=(l.getD m.toNat default).x,y:=(l.getD m.toNat default).y } { x:=(l.getD i.toNat default).x,y:=(l.getD i.toNat default).y } < fa.getD i.toNat default))):=(by (try rw [w18]);all_goals exact (i_at (i_at (i_bt (ZaZ (Za7 (ZaD _)) (ZaF Zab Zab))))))
  obtain ⟨k20,H⟩:=H
  have w22:(List.map vb dn).length=dn.length:=List.length_map ..
  have i23:(decide (i.toNat<(List.map vb dn).length))=true ↔ (i.toNat<dn.length):=(by (try rw [w22]);all_goals exact Zab)
  obtain ⟨k24,H⟩:=H
  have i26:(!((!dn.getD i.toNat default)==true&&true)||decide (i.toNat<(List.map vi fa).length))=true ↔ ((¬(dn.getD i.toNat default=true))->(i.toNat<fa.length)):=(by (try rw [w6]);all_goals exact (Za2 (i_at (i_bt (Za7 (ZaD _)))) Zab))
  obtain ⟨k27,H⟩:=H
  have i29:(!(decide (fa.getD i.toNat default<0)==false&&((!dn.getD i.toNat default)==true&&true))||decide (i.toNat<(List.map vi fa).length))=true ↔ (((¬(fa.getD i.toNat default<0))/\(¬(dn.getD i.toNat default=true)))->(i.toNat<fa.length)):=(by (try rw [w6]);all_goals exact (Za2 (ZcI (i_bf Zab) (i_at (i_bt (Za7 (ZaD _))))) Zab))
  obtain ⟨k30,H⟩:=H
  have i31:(!((bif !dn.getD i.toNat default then bif decide (fa.getD i.toNat default<0) then true else decide (wi (fa.getD m.toNat default+O.gap { x:=(l.getD m.toNat default).x,y:=(l.getD m.toNat default).y } { x:=(l.getD i.toNat default).x,y:=(l.getD i.toNat default).y })<fa.getD i.toNat default) else false)==true&&true)||decide (0<=m))=true ↔ (((¬(dn.getD i.toNat default=true))/\((fa.getD i.toNat default<0)\/(fa.getD m.toNat default+O.gap { x:=(l.getD m.toNat default).x,y:=(l.getD m.toNat default).y } { x:=(l.getD i.toNat default).x,y:=(l.getD i.toNat default).y } < fa.getD i.toNat default)))->(0<=m)):=(by (try rw [w18]);all_goals exact (Za2 (i_at (i_bt (ZaZ (Za7 (ZaD _)) (ZaF Zab Zab)))) Zab))
  have i32:(!((bif !dn.getD i.toNat default then bif decide (fa.getD i.toNat default<0) then true else decide (wi (fa.getD m.toNat default+O.gap { x:=(l.getD m.toNat default).x,y:=(l.getD m.toNat default).y } { x:=(l.getD i.toNat default).x,y:=(l.getD i.toNat default).y })<fa.getD i.toNat default) else false)==true&&true)||decide (m.toNat<(List.map Gp.a l).length))=true ↔ (((¬(dn.getD i.toNat default=true))/\((fa.getD i.toNat default<0)\/(fa.getD m.toNat default+O.gap { x:=(l.getD m.toNat default).x,y:=(l.getD m.toNat default).y } { x:=(l.getD i.toNat default).x,y:=(l.getD i.toNat default).y } < fa.getD i.toNat default)))->(m.toNat<l.length)):=(by (try rw [w10]);(try rw [w18]);all_goals exact (Za2 (i_at (i_bt (ZaZ (Za7 (ZaD _)) (ZaF Zab Zab)))) Zab))
  have i33:(!((bif !dn.getD i.toNat default then bif decide (fa.getD i.toNat default<0) then true else decide (wi (fa.getD m.toNat default+O.gap { x:=(l.getD m.toNat default).x,y:=(l.getD m.toNat default).y } { x:=(l.getD i.toNat default).x,y:=(l.getD i.toNat default).y })<fa.getD i.toNat default) else false)==true&&true)||decide (0<=i))=true ↔ (((¬(dn.getD i.toNat default=true))/\((fa.getD i.toNat default<0)\/(fa.getD m.toNat default+O.gap { x:=(l.getD m.toNat default).x,y:=(l.getD m.toNat default).y } { x:=(l.getD i.toNat default).x,y:=(l.getD i.toNat default).y } < fa.getD i.toNat default)))->(0<=i)):=(by (try rw [w18]);all_goals exact (Za2 (i_at (i_bt (ZaZ (Za7 (ZaD _)) (ZaF Zab Zab)))) Zab))
  have i34:(!((bif !dn.getD i.toNat default then bif decide (fa.getD i.toNat default<0) then true else decide (wi (fa.getD m.toNat default+O.gap { x:=(l.getD m.toNat default).x,y:=(l.getD m.toNat default).y } { x:=(l.getD i.toNat default).x,y:=(l.getD i.toNat default).y })<fa.getD i.toNat default) else false)==true&&true)||decide (i.toNat<(List.map Gp.a l).length))=true ↔ (((¬(dn.getD i.toNat default=true))/\((fa.getD i.toNat default<0)\/(fa.getD m.toNat default+O.gap { x:=(l.getD m.toNat default).x,y:=(l.getD m.toNat default).y } { x:=(l.getD i.toNat default).x,y:=(l.getD i.toNat default).y } < fa.getD i.toNat default)))->(i.toNat<l.length)):=(by (try rw [w10]);(try rw [w18]);all_goals exact (Za2 (i_at (i_bt (ZaZ (Za7 (ZaD _)) (ZaF Zab Zab)))) Zab))
  have i39:(bif bif !dn.getD i.toNat default then bif decide (fa.getD i.toNat default<0) then true else decide (wi (fa.getD m.toNat default+O.gap { x:=(l.getD m.toNat default).x,y:=(l.getD m.toNat default).y } { x:=(l.getD i.toNat default).x,y:=(l.getD i.toNat default).y })<fa.getD i.toNat default) else false then O.frB bs { x:=(l.getD m.toNat default).x,y:=(l.getD m.toNat default).y } { x:=(l.getD i.toNat default).x,y:=(l.getD i.toNat default).y } else false)=true ↔ (((¬(dn.getD i.toNat default=true))/\((fa.getD i.toNat default<0)\/(fa.getD m.toNat default+O.gap { x:=(l.getD m.toNat default).x,y:=(l.getD m.toNat default).y } { x:=(l.getD i.toNat default).x,y:=(l.getD i.toNat default).y } < fa.getD i.toNat default)))/\(O.frB bs { x:=(l.getD m.toNat default).x,y:=(l.getD m.toNat default).y } { x:=(l.getD i.toNat default).x,y:=(l.getD i.toNat default).y } = true)):=(by (try rw [w18]);all_goals exact (ZaZ (ZaZ (Za7 (ZaD _)) (ZaF Zab Zab)) (ZaD _)))
  refine Zac (G:=Zad kp44 [(24,3,.elem (vi (fa.getD m.toNat default))),(24,7,.elem ((zNqI3 l m))),(24,11,.elem ((zNqI4 l i))),(24,12,.call (vi (O.gap { x:=(l.getD m.toNat default).x,y:=(l.getD m.toNat default).y } { x:=(l.getD i.toNat default).x,y:=(l.getD i.toNat default).y })) none),(25,3,.elem (vb (dn.getD i.toNat default))),(25,9,.elem (vi (fa.getD i.toNat default))),(25,16,.elem (vi (fa.getD i.toNat default))),(25,25,.elem ((zNqI3 l m))),(25,29,.elem ((zNqI4 l i))),(25,30,.call (vb (O.frB bs { x:=(l.getD m.toNat default).x,y:=(l.getD m.toNat default).y } { x:=(l.getD i.toNat default).x,y:=(l.getD i.toNat default).y })) none)] []) 13 [true] ⟨(atC (cd Try.f44) [1,1,1,1,1,1,0,0,0,0,1,1,1,1,1,1,0,0,1,1,0,0,1,1,1]),[(0,AV.vec g 2 (List.map Gp.a l)),(1,AV.func (Fn.func 42) [] [AV.eptr 1 [AV.vec f 5 (List.map Bx.a bs)] 0 0]),(5,AV.row 0 0),(6,AV.row 1 0),(7,AV.row 2 0),(9,vi m),(11,vi i),(12,vi (wi (fa.getD m.toNat default+O.gap { x:=(l.getD m.toNat default).x,y:=(l.getD m.toNat default).y } { x:=(l.getD i.toNat default).x,y:=(l.getD i.toNat default).y }))),(83,vi n),(84,vi i),(132,vb (bif bif !dn.getD i.toNat default then bif decide (fa.getD i.toNat default<0) then true else decide (wi (fa.getD m.toNat default+O.gap { x:=(l.getD m.toNat default).x,y:=(l.getD m.toNat default).y } { x:=(l.getD i.toNat default).x,y:=(l.getD i.toNat default).y })<fa.getD i.toNat default) else false then O.frB bs { x:=(l.getD m.toNat default).x,y:=(l.getD m.toNat default).y } { x:=(l.getD i.toNat default).x,y:=(l.getD i.toNat default).y } else false))],[⟨List.map vi fa,1,0,false,true⟩,⟨List.map vi bf,1,0,false,true⟩,⟨List.map vb dn,1,0,false,true⟩],[(decide (i<n))==true,true,decide (0<=m),decide (m.toNat<(List.map vi fa).length),true,decide (0<=m),decide (m.toNat<(List.map Gp.a l).length),decide (0<=i),decide (i.toNat<(List.map Gp.a l).length),true,decide (0<=i),decide (i.toNat<(List.map vb dn).length),true,!((!dn.getD i.toNat default)==true&&true)||true,!((!dn.getD i.toNat default)==true&&true)||decide (0<=i),!((!dn.getD i.toNat default)==true&&true)||decide (i.toNat<(List.map vi fa).length),!((!dn.getD i.toNat default)==true&&true)||true,!(decide (fa.getD i.toNat default<0)==false&&((!dn.getD i.toNat default)==true&&true))||true,!(decide (fa.getD i.toNat default<0)==false&&((!dn.getD i.toNat default)==true&&true))||decide (0<=i),!(decide (fa.getD i.toNat default<0)==false&&((!dn.getD i.toNat default)==true&&true))||decide (i.toNat<(List.map vi fa).length),!(decide (fa.getD i.toNat default<0)==false&&((!dn.getD i.toNat default)==true&&true))||true,!((bif !dn.getD i.toNat default then bif decide (fa.getD i.toNat default<0) then true else decide (wi (fa.getD m.toNat default+O.gap { x:=(l.getD m.toNat default).x,y:=(l.getD m.toNat default).y } { x:=(l.getD i.toNat default).x,y:=(l.getD i.toNat default).y })<fa.getD i.toNat default) else false)==true&&true)||decide (0<=m),!((bif !dn.getD i.toNat default then bif decide (fa.getD i.toNat default<0) then true else decide (wi (fa.getD m.toNat default+O.gap { x:=(l.getD m.toNat default).x,y:=(l.getD m.toNat default).y } { x:=(l.getD i.toNat default).x,y:=(l.getD i.toNat default).y })<fa.getD i.toNat default) else false)==true&&true)||decide (m.toNat<(List.map Gp.a l).length),!((bif !dn.getD i.toNat default then bif decide (fa.getD i.toNat default<0) then true else decide (wi (fa.getD m.toNat default+O.gap { x:=(l.getD m.toNat default).x,y:=(l.getD m.toNat default).y } { x:=(l.getD i.toNat default).x,y:=(l.getD i.toNat default).y })<fa.getD i.toNat default) else false)==true&&true)||decide (0<=i),!((bif !dn.getD i.toNat default then bif decide (fa.getD i.toNat default<0) then true else decide (wi (fa.getD m.toNat default+O.gap { x:=(l.getD m.toNat default).x,y:=(l.getD m.toNat default).y } { x:=(l.getD i.toNat default).x,y:=(l.getD i.toNat default).y })<fa.getD i.toNat default) else false)==true&&true)||decide (i.toNat<(List.map Gp.a l).length)],[((List.map vi fa).get?Internal m.toNat=some (vi (fa.getD m.toNat default))),((List.map Gp.a l).get?Internal m.toNat=some ((zNqI3 l m))),((List.map Gp.a l).get?Internal i.toNat=some ((zNqI4 l i))),((List.map vb dn).get?Internal i.toNat=some (vb (dn.getD i.toNat default))),(((!dn.getD i.toNat default)==true&&true)=true->(List.map vi fa).get?Internal i.toNat=some (vi (fa.getD i.toNat default))),((decide (fa.getD i.toNat default<0)==false&&((!dn.getD i.toNat default)==true&&true))=true->(List.map vi fa).get?Internal i.toNat=some (vi (fa.getD i.toNat default))),(((bif !dn.getD i.toNat default then bif decide (fa.getD i.toNat default<0) then true else decide (wi (fa.getD m.toNat default+O.gap { x:=(l.getD m.toNat default).x,y:=(l.getD m.toNat default).y } { x:=(l.getD i.toNat default).x,y:=(l.getD i.toNat default).y })<fa.getD i.toNat default) else false)==true&&true)=true->(List.map Gp.a l).get?Internal m.toNat=some ((zNqI3 l m))),(((bif !dn.getD i.toNat default then bif decide (fa.getD i.toNat default<0) then true else decide (wi (fa.getD m.toNat default+O.gap { x:=(l.getD m.toNat default).x,y:=(l.getD m.toNat default).y } { x:=(l.getD i.toNat default).x,y:=(l.getD i.toNat default).y })<fa.getD i.toNat default) else false)==true&&true)=true->(List.map Gp.a l).get?Internal i.toNat=some ((zNqI4 l i)))],[⟨true,false,47,[(zNqI3 l m),(zNqI4 l i)],[],vi (O.gap { x:=(l.getD m.toNat default).x,y:=(l.getD m.toNat default).y } { x:=(l.getD i.toNat default).x,y:=(l.getD i.toNat default).y }),[]⟩,⟨(bif !dn.getD i.toNat default then bif decide (fa.getD i.toNat default<0) then true else decide (wi (fa.getD m.toNat default+O.gap { x:=(l.getD m.toNat default).x,y:=(l.getD m.toNat default).y } { x:=(l.getD i.toNat default).x,y:=(l.getD i.toNat default).y })<fa.getD i.toNat default) else false)==true&&true&&true,false,42,[(zNqI3 l m),(zNqI4 l i),AV.eptr 1 [AV.vec f 5 (List.map Bx.a bs)] 0 0],[],vb (O.frB bs { x:=(l.getD m.toNat default).x,y:=(l.getD m.toNat default).y } { x:=(l.getD i.toNat default).x,y:=(l.getD i.toNat default).y }),[]⟩]⟩ (by kernel_rfl) (bc (Zal (Zab.2 d2)) (bc rfl (bc (Zab.2 k5) (bc (i7.2 k8) (bc rfl (bc (Zab.2 k5) (bc (i11.2 k12) (bc (Zab.2 k14) (bc (i15.2 k16) (bc rfl (bc (Zab.2 k14) (bc (i23.2 k24) (bc rfl (bc (Bool.or_true _) (bc ((Za2 (i_at (i_bt (Za7 (ZaD _)))) Zab).2 (fun _=>k14)) (bc (i26.2 k27) (bc (Bool.or_true _) (bc (Bool.or_true _) (bc ((Za2 (ZcI (i_bf Zab) (i_at (i_bt (Za7 (ZaD _))))) Zab).2 (fun _=>k14)) (bc (i29.2 k30) (bc (Bool.or_true _) (bc (i31.2 (fun _=>k5)) (bc (i32.2 (fun _=>k12)) (bc (i33.2 (fun _=>k14)) (bc (i34.2 (fun _=>k16)) b0))))))))))))))))))))))))) (qc (Zai k8) (qc (Zai k12) (qc (Zai k16) (qc (Zai k24) (qc (fun h=>Zai (k27 ((i_at (i_bt (Za7 (ZaD _)))).1 h))) (qc (fun h=>Zai (k30 ((ZcI (i_bf Zab) (i_at (i_bt (Za7 (ZaD _))))).1 h))) (qc (by (try rw [w18]);all_goals exact (fun h=>Zai k12)) (qc (by (try rw [w18]);all_goals exact (fun h=>Zai k16)) q0)))))))) (cc (fun _=>(@ev47 ((l.getD m.toNat default).x) ((l.getD m.toNat default).y) ((l.getD i.toNat default).x) ((l.getD i.toNat default).y) k3)) (cc (fun hc=>((@ev42 f bs ((l.getD m.toNat default).x) ((l.getD m.toNat default).y) ((l.getD i.toNat default).x) ((l.getD i.toNat default).y) (k20 (i19.1 hc))):Ev M1 (Conf.pure 42 [(zNqI3 l m),(zNqI4 l i),AV.eptr 1 [AV.vec f 5 (List.map Bx.a bs)] 0 0]) (vb (O.frB bs { x:=(l.getD m.toNat default).x,y:=(l.getD m.toNat default).y } { x:=(l.getD i.toNat default).x,y:=(l.getD i.toNat default).y })) [])) c0)) ?_
  rcases xq H with ⟨d40,H⟩|⟨d40,H⟩
  ·have i42:(decide (i.toNat<(List.map vi fa).length))=true ↔ (i.toNat<fa.length):=(by (try rw [w6]);all_goals exact Zab)
   obtain ⟨k43,H⟩:=H
   have w45:(List.map vi bf).length=bf.length:=List.length_map ..
   have i46:(decide (i.toNat<(List.map vi bf).length))=true ↔ (i.toNat<bf.length):=(by (try rw [w45]);all_goals exact Zab)
   obtain ⟨k47,H⟩:=H
   have w48:(List.map vi fa).set i.toNat (vi (fa.getD m.toNat default+O.gap { x:=(l.getD m.toNat default).x,y:=(l.getD m.toNat default).y } { x:=(l.getD i.toNat default).x,y:=(l.getD i.toNat default).y }))=List.map vi (fa.set i.toNat (fa.getD m.toNat default+O.gap (l.getD m.toNat default) (l.getD i.toNat default))):=(Zba rfl rfl)
   have w49:(List.map vi bf).set i.toNat (vi m)=List.map vi (bf.set i.toNat m):=(Zba rfl rfl)
   obtain ⟨k50,H⟩:=H
   have w51:wi (i+1)=i+1:=wI64 k50
   exact Zac (G:=Zad kp44 [(26,7,.elem (vi (fa.getD i.toNat default))),(26,9,.elem (vi (bf.getD i.toNat default)))] []) 1000 [true] ⟨(atC (cd Try.f44) [1,1,1,1,1,1,0,0,0,0,1,1,1,1,1,1,0,0]),[(0,AV.vec g 2 (List.map Gp.a l)),(1,AV.func (Fn.func 42) [] [AV.eptr 1 [AV.vec f 5 (List.map Bx.a bs)] 0 0]),(5,AV.row 0 0),(6,AV.row 1 0),(7,AV.row 2 0),(9,vi m),(83,vi n),(84,vi (wi (i+1)))],[⟨(List.map vi fa).set i.toNat (vi (wi (fa.getD m.toNat default+O.gap { x:=(l.getD m.toNat default).x,y:=(l.getD m.toNat default).y } { x:=(l.getD i.toNat default).x,y:=(l.getD i.toNat default).y }))),1,0,false,true⟩,⟨(List.map vi bf).set i.toNat (vi m),1,0,false,true⟩,⟨List.map vb dn,1,0,false,true⟩],_,[((List.map vi fa).get?Internal i.toNat=some (vi (fa.getD i.toNat default))),((List.map vi bf).get?Internal i.toNat=some (vi (bf.getD i.toNat default)))],_⟩ (by kernel_rfl) (bc (Zal (i39.2 d40)) (bc rfl (bc (Zab.2 k14) (bc (i42.2 k43) (bc rfl (bc rfl (bc (Zab.2 k14) (bc (i46.2 k47) (bc rfl b0))))))))) (qc (Zai k43) (qc (Zai k47) q0)) c0 (by (try rw [w18]);(try rw [w48]);(try rw [w49]);(try rw [w51]);all_goals exact H)
  ·obtain ⟨k52,H⟩:=H
   have w53:wi (i+1)=i+1:=wI64 k52
   exact Zac (G:=Zad kp44 [] []) 1000 [false] ⟨(atC (cd Try.f44) [1,1,1,1,1,1,0,0,0,0,1,1,1,1,1,1,0,0]),[(0,AV.vec g 2 (List.map Gp.a l)),(1,AV.func (Fn.func 42) [] [AV.eptr 1 [AV.vec f 5 (List.map Bx.a bs)] 0 0]),(5,AV.row 0 0),(6,AV.row 1 0),(7,AV.row 2 0),(9,vi m),(83,vi n),(84,vi (wi (i+1)))],[⟨List.map vi fa,1,0,false,true⟩,⟨List.map vi bf,1,0,false,true⟩,⟨List.map vb dn,1,0,false,true⟩],_,[],_⟩ (by kernel_rfl) (bc (Zak (fun h=>d40 (i39.1 h))) b0) q0 c0 (by (try rw [w53]);all_goals exact H)
 ·exact Zac (G:=Zad kp44 [] []) 1000 [false] ⟨(atC (cd Try.f44) [1,1,1,1,1,1,0,0,0]),[(0,AV.vec g 2 (List.map Gp.a l)),(1,AV.func (Fn.func 42) [] [AV.eptr 1 [AV.vec f 5 (List.map Bx.a bs)] 0 0]),(5,AV.row 0 0),(6,AV.row 1 0),(7,AV.row 2 0),(9,vi m),(83,vi n),(84,vi i),(85,vb (decide (i<n)))],[⟨List.map vi fa,1,0,false,true⟩,⟨List.map vi bf,1,0,false,true⟩,⟨List.map vb dn,1,0,false,true⟩],_,[],_⟩ (by kernel_rfl) (bc (Zak (fun h=>d2 (Zab.1 h))) b0) q0 c0 (Wp.less [0,1,5,6,7] H)
noncomputable abbrev zNqI5 (l:List Gp) (i:Int):=ag [vi (l.getD i.toNat default).x,vi (l.getD i.toNat default).y]
theorem qSh5 (g:Bool) (l:List Gp) (bf:List Int) (i:Int)  (dq:AV) (H :
  ((i>=0)->((false=true)->(i.toNat<l.length)) /\
   (0<=i) /\
   (i.toNat<l.length) /\
   (i.toNat<bf.length) /\
   Zdw g l ([l.getD i.toNat default]) bf (bf.getD i.toNat default) 0 (Zaf dq)) /\
  (¬(i>=0)->False)) :
 qSh5_at g l bf i (Zaf dq):=by
 unfold qSh5_at
 rcases xq H with ⟨d2,H⟩|⟨d2,H⟩
 ·obtain ⟨k4,k6,H⟩:=H
  have w7:(List.map Gp.a l).length=l.length:=List.length_map ..
  have i8:(decide (i.toNat<(List.map Gp.a l).length))=true ↔ (i.toNat<l.length):=(by (try rw [w7]);all_goals exact Zab)
  obtain ⟨k9,H⟩:=H
  have w11:(List.map vi bf).length=bf.length:=List.length_map ..
  have i12:(decide (i.toNat<(List.map vi bf).length))=true ↔ (i.toNat<bf.length):=(by (try rw [w11]);all_goals exact Zab)
  obtain ⟨k13,H⟩:=H
  have w14:[ag [vi (l.getD i.toNat default).x,vi (l.getD i.toNat default).y]]=List.map Gp.a [l.getD i.toNat default]:=rfl
  exact Zac (G:=Zad kp44 [(32,13,.elem (zNqI5 l i)),(33,4,.elem (zNqI5 l i)),(31,3,.elem (vi (bf.getD i.toNat default)))] []) 1000 [true,true] ⟨(atC (cd Try.f44) [1,1,1,1,1,1,1,1,0,1,0,0]),[(0,AV.vec g 2 (List.map Gp.a l)),(6,AV.row 0 0),(13,AV.row 1 0),(14,vi (bf.getD i.toNat default))],[⟨List.map vi bf,1,0,false,true⟩,⟨[ag [vi (l.getD i.toNat default).x,vi (l.getD i.toNat default).y]],2,0,false,true⟩],_,[(false=true->(List.map Gp.a l).get?Internal i.toNat=some (zNqI5 l i)),((List.map Gp.a l).get?Internal i.toNat=some (zNqI5 l i)),((List.map vi bf).get?Internal i.toNat=some (vi (bf.getD i.toNat default)))],_⟩ (by kernel_rfl) (bc (Zal (Zab.2 d2)) (bc rfl (bc rfl (bc rfl (bc (Zab.2 k6) (bc (i8.2 k9) (bc rfl (bc rfl (bc (Zab.2 k6) (bc (i12.2 k13) (bc rfl b0))))))))))) (qc (fun h=>Zai (k4 ((ZaD _).1 h))) (qc (Zai k9) (qc (Zai k13) q0))) c0 (by (try rw [w14]);all_goals exact H)
 ·exact False.elim H
noncomputable abbrev zNqI6 (l:List Gp) (i:Int):=ag [vi (l.getD i.toNat default).x,vi (l.getD i.toNat default).y]
noncomputable abbrev zNqI7 (gs:List Gp):=ag [vi (gs.getD ((↑gs.length:Int)-1).toNat default).x,vi (gs.getD ((↑gs.length:Int)-1).toNat default).y]
theorem qSh6 (g:Bool) (l gs:List Gp) (bf:List Int) (i:Int) (v:Nat)  (dq:AV) (H :
  ((i>=0)->(-9223372036854775808<=(↑gs.length:Int)-1/\(↑gs.length:Int)-1<=9223372036854775807) /\
   ((¬((↑gs.length:Int)=0))->(0<=(↑gs.length:Int)-1)) /\
   ((¬((↑gs.length:Int)=0))->(((↑gs.length:Int)-1).toNat<gs.length)) /\
   ((¬((↑gs.length:Int)=0))->(0<=i)) /\
   ((¬((↑gs.length:Int)=0))->(i.toNat<l.length)) /\
   ((((↑gs.length:Int)=0)\/(¬(((gs.getD ((↑gs.length:Int)-1).toNat default).x=(l.getD i.toNat default).x)/\((gs.getD ((↑gs.length:Int)-1).toNat default).y=(l.getD i.toNat default).y))))->(0<=i) /\
    (i.toNat<l.length) /\
    ((gs.length+1)*16<=1099511627776) /\
    (i.toNat<bf.length) /\
    Zdw g l (gs++[l.getD i.toNat default]) bf (bf.getD i.toNat default) (v+1) (Zaf dq)) /\
   (¬(((↑gs.length:Int)=0)\/(¬(((gs.getD ((↑gs.length:Int)-1).toNat default).x=(l.getD i.toNat default).x)/\((gs.getD ((↑gs.length:Int)-1).toNat default).y=(l.getD i.toNat default).y))))->(0<=i) /\
    (i.toNat<bf.length) /\
    Zdw g l gs bf (bf.getD i.toNat default) v (Zaf dq))) /\
  (¬(i>=0)->(gs.length<=1000) /\
   Weak (AV.vec false 2 (List.map Gp.a (gs.reverseAux []))) dq)) :
 Zdw g l gs bf i v (Zaf dq):=by
 unfold Zdw
 rcases xq H with ⟨d2,H⟩|⟨d2,H⟩
 ·have w3:(List.map Gp.a gs).length=gs.length:=List.length_map ..
  obtain ⟨k4,H⟩:=H
  have w5:wi ((↑gs.length:Int)-1)=(↑gs.length:Int)-1:=wI64 k4
  have i6:(!(((↑(List.map Gp.a gs).length:Int)==0)==false&&true)||v==v)=true ↔ ((¬((↑gs.length:Int)=0))->(v=v)):=(by (try rw [w3]);all_goals exact (Za2 (i_at (i_bf i_eq)) i_eq))
  have i7:(!(((↑(List.map Gp.a gs).length:Int)==0)==false&&true)||v==v)=true ↔ ((¬((↑gs.length:Int)=0))->(v=v)):=(by (try rw [w3]);all_goals exact (Za2 (i_at (i_bf i_eq)) i_eq))
  have i8:(!(((↑(List.map Gp.a gs).length:Int)==0)==false&&true)||decide (0<=wi ((↑(List.map Gp.a gs).length:Int)-1)))=true ↔ ((¬((↑gs.length:Int)=0))->(0<=(↑gs.length:Int)-1)):=(by (try rw [w3]);(try rw [w5]);all_goals exact (Za2 (i_at (i_bf i_eq)) Zab))
  obtain ⟨k9,H⟩:=H
  have i10:(!(((↑(List.map Gp.a gs).length:Int)==0)==false&&true)||decide ((wi ((↑(List.map Gp.a gs).length:Int)-1)).toNat<(List.map Gp.a gs).length))=true ↔ ((¬((↑gs.length:Int)=0))->(((↑gs.length:Int)-1).toNat<gs.length)):=(by (try rw [w3]);(try rw [w5]);all_goals exact (Za2 (i_at (i_bf i_eq)) Zab))
  obtain ⟨k11,H⟩:=H
  have i12:(!(((↑(List.map Gp.a gs).length:Int)==0)==false&&true)||v==v)=true ↔ ((¬((↑gs.length:Int)=0))->(v=v)):=(by (try rw [w3]);all_goals exact (Za2 (i_at (i_bf i_eq)) i_eq))
  have i13:(!(((↑(List.map Gp.a gs).length:Int)==0)==false&&true)||decide (0<=i))=true ↔ ((¬((↑gs.length:Int)=0))->(0<=i)):=(by (try rw [w3]);all_goals exact (Za2 (i_at (i_bf i_eq)) Zab))
  obtain ⟨k14,H⟩:=H
  have w15:(List.map Gp.a l).length=l.length:=List.length_map ..
  have i16:(!(((↑(List.map Gp.a gs).length:Int)==0)==false&&true)||decide (i.toNat<(List.map Gp.a l).length))=true ↔ ((¬((↑gs.length:Int)=0))->(i.toNat<l.length)):=(by (try rw [w3]);(try rw [w15]);all_goals exact (Za2 (i_at (i_bf i_eq)) Zab))
  obtain ⟨k17,H⟩:=H
  have i20:(bif (↑(List.map Gp.a gs).length:Int)==0 then true else !((gs.getD ((↑gs.length:Int)-1).toNat default).x==(l.getD i.toNat default).x&&((gs.getD ((↑gs.length:Int)-1).toNat default).y==(l.getD i.toNat default).y&&true)))=true ↔ (((↑gs.length:Int)=0)\/(¬(((gs.getD ((↑gs.length:Int)-1).toNat default).x=(l.getD i.toNat default).x)/\((gs.getD ((↑gs.length:Int)-1).toNat default).y=(l.getD i.toNat default).y)))):=(by (try rw [w3]);all_goals exact (ZaF i_eq (Za7 (ZcI i_eq (i_at i_eq)))))
  refine Zac (G:=Zad kp44 [(32,9,.elem (zNqI7 gs)),(32,13,.elem (zNqI6 l i))] []) 9 [true] ⟨(atC (cd Try.f44) [1,1,1,1,1,1,1,1,0,1,0,0,1,0,0,1]),[(0,AV.vec g 2 (List.map Gp.a l)),(6,AV.row 0 0),(13,AV.row 1 v),(14,vi i),(166,vb (bif (↑(List.map Gp.a gs).length:Int)==0 then true else !((gs.getD ((↑gs.length:Int)-1).toNat default).x==(l.getD i.toNat default).x&&((gs.getD ((↑gs.length:Int)-1).toNat default).y==(l.getD i.toNat default).y&&true))))],[⟨List.map vi bf,1,0,false,true⟩,⟨List.map Gp.a gs,2,v,false,true⟩],[(decide (i>=0))==true,v==v,!(((↑(List.map Gp.a gs).length:Int)==0)==false&&true)||v==v,!(((↑(List.map Gp.a gs).length:Int)==0)==false&&true)||v==v,!(((↑(List.map Gp.a gs).length:Int)==0)==false&&true)||decide (0<=wi ((↑(List.map Gp.a gs).length:Int)-1)),!(((↑(List.map Gp.a gs).length:Int)==0)==false&&true)||decide ((wi ((↑(List.map Gp.a gs).length:Int)-1)).toNat<(List.map Gp.a gs).length),!(((↑(List.map Gp.a gs).length:Int)==0)==false&&true)||v==v,!(((↑(List.map Gp.a gs).length:Int)==0)==false&&true)||decide (0<=i),!(((↑(List.map Gp.a gs).length:Int)==0)==false&&true)||decide (i.toNat<(List.map Gp.a l).length)],[((((↑(List.map Gp.a gs).length:Int)==0)==false&&true)=true->(List.map Gp.a gs).get?Internal (wi ((↑(List.map Gp.a gs).length:Int)-1)).toNat=some (zNqI7 gs)),((((↑(List.map Gp.a gs).length:Int)==0)==false&&true)=true->(List.map Gp.a l).get?Internal i.toNat=some (zNqI6 l i))],_⟩ (by kernel_rfl) (bc (Zal (Zab.2 d2)) (bc (beq_self_eq_true _) (bc (i6.2 (fun _=>rfl)) (bc (i7.2 (fun _=>rfl)) (bc (i8.2 k9) (bc (i10.2 k11) (bc (i12.2 (fun _=>rfl)) (bc (i13.2 k14) (bc (i16.2 k17) b0))))))))) (qc (by (try rw [w3]);(try rw [w5]);all_goals exact (fun h=>Zai (k11 ((i_at (i_bf i_eq)).1 h)))) (qc (by (try rw [w3]);all_goals exact (fun h=>Zai (k17 ((i_at (i_bf i_eq)).1 h)))) q0)) c0 ?_
  rcases xq H with ⟨d21,H⟩|⟨d21,H⟩
  ·obtain ⟨k23,H⟩:=H
   have i24:(decide (i.toNat<(List.map Gp.a l).length))=true ↔ (i.toNat<l.length):=(by (try rw [w15]);all_goals exact Zab)
   obtain ⟨k25,H⟩:=H
   have i26:(decide (((List.map Gp.a gs).length+1)*16<=1099511627776))=true ↔ ((gs.length+1)*16<=1099511627776):=(by (try rw [w3]);all_goals exact Zab)
   obtain ⟨k27,H⟩:=H
   have w28:List.map Gp.a gs++[ag [vi (l.getD i.toNat default).x,vi (l.getD i.toNat default).y]]=List.map Gp.a (gs++[l.getD i.toNat default]):=(Zb7 rfl rfl)
   have w30:(List.map vi bf).length=bf.length:=List.length_map ..
   have i31:(decide (i.toNat<(List.map vi bf).length))=true ↔ (i.toNat<bf.length):=(by (try rw [w30]);all_goals exact Zab)
   obtain ⟨k32,H⟩:=H
   exact Zac (G:=Zad kp44 [(33,4,.elem (zNqI6 l i)),(31,3,.elem (vi (bf.getD i.toNat default)))] []) 1000 [true] ⟨(atC (cd Try.f44) [1,1,1,1,1,1,1,1,0,1,0,0]),[(0,AV.vec g 2 (List.map Gp.a l)),(6,AV.row 0 0),(13,AV.row 1 (v+1)),(14,vi (bf.getD i.toNat default))],[⟨List.map vi bf,1,0,false,true⟩,⟨List.map Gp.a gs++[ag [vi (l.getD i.toNat default).x,vi (l.getD i.toNat default).y]],2,v+1,false,true⟩],[(bif (↑(List.map Gp.a gs).length:Int)==0 then true else !((gs.getD ((↑gs.length:Int)-1).toNat default).x==(l.getD i.toNat default).x&&((gs.getD ((↑gs.length:Int)-1).toNat default).y==(l.getD i.toNat default).y&&true)))==true,decide (0<=i),decide (i.toNat<(List.map Gp.a l).length),v==v,decide (((List.map Gp.a gs).length+1)*16<=1099511627776),true,decide (0<=i),decide (i.toNat<(List.map vi bf).length),true],[((List.map Gp.a l).get?Internal i.toNat=some (zNqI6 l i)),((List.map vi bf).get?Internal i.toNat=some (vi (bf.getD i.toNat default)))],_⟩ (by kernel_rfl) (bc (Zal (i20.2 d21)) (bc (Zab.2 k23) (bc (i24.2 k25) (bc (beq_self_eq_true _) (bc (i26.2 k27) (bc rfl (bc (Zab.2 k23) (bc (i31.2 k32) (bc rfl b0))))))))) (qc (Zai k25) (qc (Zai k32) q0)) c0 (by (try rw [w28]);all_goals exact H)
  ·obtain ⟨k34,H⟩:=H
   have w35:(List.map vi bf).length=bf.length:=List.length_map ..
   have i36:(decide (i.toNat<(List.map vi bf).length))=true ↔ (i.toNat<bf.length):=(by (try rw [w35]);all_goals exact Zab)
   obtain ⟨k37,H⟩:=H
   exact Zac (G:=Zad kp44 [(31,3,.elem (vi (bf.getD i.toNat default)))] []) 1000 [false] ⟨(atC (cd Try.f44) [1,1,1,1,1,1,1,1,0,1,0,0]),[(0,AV.vec g 2 (List.map Gp.a l)),(6,AV.row 0 0),(13,AV.row 1 v),(14,vi (bf.getD i.toNat default))],[⟨List.map vi bf,1,0,false,true⟩,⟨List.map Gp.a gs,2,v,false,true⟩],_,[((List.map vi bf).get?Internal i.toNat=some (vi (bf.getD i.toNat default)))],_⟩ (by kernel_rfl) (bc (Zak (fun h=>d21 (i20.1 h))) (bc rfl (bc (Zab.2 k34) (bc (i36.2 k37) (bc rfl b0))))) (qc (Zai k37) q0) c0 H
 ·obtain ⟨k38,H⟩:=H
  exact Zbn (G:=Zad kp44 [(34,1,.call (tu []) (some [⟨List.map Gp.a (gs.reverseAux []),2,v,false,true⟩]))] []) 1000 [false] (k:=((atC (cd Try.f44) [1,1,1,1,1,1,1,1,1,1,1])).tail) (env':=[(4,AV.row 1 v)]) (L':=[⟨List.map vi bf,1,0,false,true⟩,⟨List.map Gp.a (gs.reverseAux []),2,v,false,true⟩]) (asm:=[(decide (i>=0))==false]) (eqs:=[]) (calls:=[⟨true,true,60,[AV.row 0 v],[⟨List.map Gp.a gs,2,v,false,true⟩],tu [],[⟨List.map Gp.a (gs.reverseAux []),2,v,false,true⟩]⟩]) (AV.row 1 v) (by kernel_rfl) (by kernel_rfl) (Zae (Zak (fun h=>d2 (Zab.1 h))) Zaw) ZaK (ZaN (fun _=>(@evo60 gs v k38)) ZaL) (ZcE (d:=(AV.vec false 2 (List.map Gp.a (gs.reverseAux [])))) (bs:=[v==v]) (by kernel_rfl) (by kernel_rfl) (Zae (beq_self_eq_true _) Zaw) (by kernel_rfl) H)
end Go.Av

namespace Go.Av
open Go.Proofs
namespace O
abbrev nd (l:List Gp) (p:Gp):Prop:=∃ i,i<l.length/\l.getD i default=p
structure Good (bs:List Bx) (l:List Gp) (P:List Gp):Prop where
 ne:P ≠ []
 head:P.getD 0 default=l.getD 0 default
 last:P.getD (P.length-1) default=l.getD (l.length-1) default
 mem:∀ p ∈ P,p ∈ l
 chn:O.chn (ZbT bs) P
 walk:Wk (nd l) (ZbT bs) (l.getD 0 default) (l.getD (l.length-1) default) (ZaY P)
 least:∀ d,Wk (nd l) (ZbT bs) (l.getD 0 default) (l.getD (l.length-1) default) d->ZaY P<=d
 len:P.length<=l.length
def ShRes (bs:List Bx) (l:List Gp) (dq:AV):Prop:=
 (dq = .vnil /\ ∀ d,¬Wk (nd l) (ZbT bs) (l.getD 0 default) (l.getD (l.length-1) default) d) \/ ∃ P,dq = .vec false 2 (P.map Gp.a)/\Good bs l P
end O
theorem ZfO {bs:List Bx} {p q:Gp}:O.frB bs p q=true ↔ O.ZbT bs p q:=by
 unfold O.frB
 exact ⟨fun h=>dec_of h,fun h=>dec_t h⟩
section
variable {f g:Bool} {bs:List Bx} {l:List Gp}
theorem pick_run (hl:l.length<=1000) {fa bf:List Int} {dn:List Bool} (h1:fa.length=l.length) (h3:dn.length=l.length) (k:Nat):∀ (i:Nat) (m:Int),i+k=l.length->O.pickd fa dn i m -> ∃ m',O.pickd fa dn l.length m' /\ ∀ dq,
  (((m'<0)->Weak (AV.vnil) dq)/\(¬(m'<0)->(-9223372036854775808<=(l.length:Int)-1/\(l.length:Int)-1<=9223372036854775807)/\((m'=(l.length:Int)-1)->qSh5_at g l bf ((l.length:Int)-1) (Zaf dq))/\(¬(m'=(l.length:Int)-1)->(0<=m')/\(m'.toNat<dn.length)/\Zdx f g bs l fa bf (dn.set m'.toNat true) m' l.length 0 (Zaf dq)))) ->
  Zeh f g bs l fa bf dn m l.length i (Zaf dq):=by
 induction k with
 | zero =>
  intro i m e hp
  have:i=l.length:=by omega
  subst this
  exact ⟨m,hp,fun dq H=>qSh3 _ _ _ _ _ _ _ _ _ _ _ ⟨fun x=>by omega,fun _=>H⟩⟩
 | succ k ih =>
  intro i m e hp
  have hi:i<l.length:=by omega
  have hm:¬m<0->0<=m/\m.toNat<fa.length:=fun x=>by
   rcases hp with ⟨rfl,_⟩ | ⟨j,rfl,hj,_⟩ <;> omega
  have neg:∀ j,(¬dn.getD j default=true) ↔ dn.getD j default=false:=fun j=>by cases dn.getD j default <;> simp
  by_cases c:dn.getD i default=false/\0<=fa.getD i default/\(m<0\/fa.getD i default<fa.getD m.toNat default)
  ·obtain ⟨m',p',w⟩:=ih (i+1) (i:Int) (by omega) (pick_yes hp c.1 c.2.1 c.2.2)
   refine ⟨m',p',fun dq H=>qSh3 _ _ _ _ _ _ _ _ _ _ _ ⟨fun x => ?_,fun x=>by omega⟩⟩
   rw [Int.toNat_natCast,neg,show (i:Int)+1=((i+1:Nat):Int) by omega]
   exact ⟨by omega,by omega,fun _=>by omega,fun _=>by omega,fun y=>(hm y.1).1,fun y=>(hm y.1).2,fun _=>⟨by omega,w dq H⟩,fun y=>absurd ⟨⟨c.1,c.2.1⟩,c.2.2⟩ y⟩
  ·obtain ⟨m',p',w⟩:=ih (i+1) m (by omega) (pick_no hp c)
   refine ⟨m',p',fun dq H=>qSh3 _ _ _ _ _ _ _ _ _ _ _ ⟨fun x => ?_,fun x=>by omega⟩⟩
   rw [Int.toNat_natCast,neg,show (i:Int)+1=((i+1:Nat):Int) by omega]
   exact ⟨by omega,by omega,fun _=>by omega,fun _=>by omega,fun y=>(hm y.1).1,fun y=>(hm y.1).2,fun y=>absurd ⟨y.1.1,y.1.2,y.2⟩ c,fun _=>⟨by omega,w dq H⟩⟩
theorem ccp_cb {p q:Gp} (h:O.ccp p) (k:O.ccp q):O.cb4 p.x p.y q.x q.y/\O.gap p q<=40000000:=by
 unfold O.ccp O.cc at h k
 refine ⟨⟨?_,?_,?_,?_⟩,?_⟩
 ·unfold O.cb;omega
 ·unfold O.cb;omega
 ·unfold O.cb;omega
 ·unfold O.cb;omega
 ·unfold O.gap;omega
theorem relax_run (hb:O.okB8 bs) (hl:O.okP8 l) {fa bf:List Int} {dn:List Bool} (h1:fa.length=l.length) (h2:bf.length=l.length) (h3:dn.length=l.length) {m:Nat} (hm:m<l.length) (hd:dn.getD m default=true) (fm:0<=fa.getD m default/\fa.getD m default<=1000000000000) (k:Nat) :
  ∀ (i:Nat) (f' b':List Int),i+k=l.length->O.Rlx l (O.ZbT bs) m dn fa bf i f' b' -> ∃ f'' b'',O.Rlx l (O.ZbT bs) m dn fa bf l.length f'' b'' /\ ∀ dq,Zdy f g bs l f'' b'' dn (Zaf dq)->Zdx f g bs l f' b' dn m l.length i (Zaf dq):=by
 induction k with
 | zero =>
  intro i f' b' e hr
  have:i=l.length:=by omega
  subst this
  exact ⟨f',b',hr,fun dq H=>qSh4 _ _ _ _ _ _ _ _ _ _ _ ⟨fun x=>by omega,fun _=>H⟩⟩
 | succ k ih =>
  intro i f' b' e hr
  have hi:i<l.length:=by omega
  have l1:f'.length=l.length:=by rw [hr.lf,h1]
  have l2:b'.length=l.length:=by rw [hr.lb,h2]
  have pm:=hl.2 _ (Zay (d:=l) (i:=m) hm)
  have pi:=hl.2 _ (Zay (d:=l) (i:=i) hi)
  have cg:=ccp_cb pm pi
  have g0:=Zc5 (l.getD m default) (l.getD i default)
  have vm:f'.getD m default=fa.getD m default:=(hr.no m fun x=>by have:=x.2.1;rw [hd] at this;exact absurd this (by decide)).1
  have vi:f'.getD i default=fa.getD i default:=(hr.no i fun x=>absurd x.1 (Nat.lt_irrefl i)).1
  have bd:-9223372036854775808<=f'.getD m default+O.gap (l.getD m default) (l.getD i default)/\f'.getD m default+O.gap (l.getD m default) (l.getD i default)<=9223372036854775807:=by rw [vm];omega
  have fr:O.okFr bs (l.getD m default).x (l.getD m default).y (l.getD i default).x (l.getD i default).y:=⟨hb,pm,pi⟩
  have neg:(¬dn.getD i default=true) ↔ dn.getD i default=false:=by cases dn.getD i default <;> simp
  have um:(((¬(dn.getD i default=true))/\((f'.getD i default<0)\/(f'.getD m default+O.gap (l.getD m default) (l.getD i default)<f'.getD i default)))/\(O.frB bs (l.getD m default) (l.getD i default)=true)) ↔ O.upd l (O.ZbT bs) m dn fa i:=by
   unfold O.upd
   rw [neg,vm,vi,ZfO,and_assoc]
  have lN:=hl.1
  by_cases c:O.upd l (O.ZbT bs) m dn fa i
  ·obtain ⟨f'',b'',r,w⟩:=ih (i+1) _ _ (by omega) (rlx_yes hr (by omega) (by omega) c (v:=f'.getD m default+O.gap (l.getD m default) (l.getD i default)) (by rw [vm]))
   refine ⟨f'',b'',r,fun dq H=>qSh4 _ _ _ _ _ _ _ _ _ _ _ ⟨fun x => ?_,fun x=>by omega⟩⟩
   rw [Int.toNat_natCast,Int.toNat_natCast,show (i:Int)+1=((i+1:Nat):Int) by omega]
   exact ⟨cg.1,by omega,by omega,hm,by omega,hi,bd,fun _=>fr,by omega,fun _=>by omega,fun _=>by omega,fun _=>⟨by omega,by omega,by omega,w dq H⟩,fun y=>absurd (um.2 c) y⟩
  ·obtain ⟨f'',b'',r,w⟩:=ih (i+1) _ _ (by omega) (rlx_no hr c)
   refine ⟨f'',b'',r,fun dq H=>qSh4 _ _ _ _ _ _ _ _ _ _ _ ⟨fun x => ?_,fun x=>by omega⟩⟩
   rw [Int.toNat_natCast,Int.toNat_natCast,show (i:Int)+1=((i+1:Nat):Int) by omega]
   exact ⟨cg.1,by omega,by omega,hm,by omega,hi,bd,fun _=>fr,by omega,fun _=>by omega,fun _=>by omega,fun y=>absurd (um.1 y) c,fun _=>⟨by omega,w dq H⟩⟩
structure O.Tr (bs:List Bx) (l:List Gp) (fa:List Int) (gs:List Gp):Prop where
 len:0<gs.length
 first:gs.getD 0 default=l.getD (l.length-1) default
 mem:∀ p ∈ gs,p ∈ l
 chn:O.chn (O.ZbT bs) gs.reverse
theorem rev_head {gs:List Gp} (h:0<gs.length):gs.reverse=gs.getD (gs.length-1) default::gs.reverse.tail:=by
 have hr:0<gs.reverse.length:=by rw [List.length_reverse];exact h
 have e:gs.reverse.getD 0 default=gs.getD (gs.length-1) default:=by
  rw [List.getD_eq_getElem?_getD,List.getD_eq_getElem?_getD,List.getElem?_reverse h];rfl
 rw [<- e]
 have:=ZaO (d:=gs.reverse) (i:=0) hr
 rw [List.drop_zero] at this
 conv=>lhs;rw [this]
 rw [List.drop_one]
theorem last_getD (x:Gp) (t:List Gp) (h:x::t ≠ []):(x::t).getLast h=(x::t).getD ((x::t).length-1) default:=by
 rw [List.getLast_eq_getElem,List.getD_eq_getElem?_getD,List.getElem?_eq_getElem (by simp),Option.getD_some]
theorem trace_end {fa:List Int} {gs:List Gp} (_:l.length<=1000) (t:O.Tr bs l fa gs) (ha:gs.getD (gs.length-1) default=l.getD 0 default) (hp:O.ZaY gs.reverse=fa.getD (l.length-1) default) (least:∀ d,O.Wk (O.nd l) (O.ZbT bs) (l.getD 0 default) (l.getD (l.length-1) default) d->fa.getD (l.length-1) default<=d) (hk:gs.length<=l.length):O.Good bs l gs.reverse:=by
 have e:=rev_head t.len
 have len:=t.len
 have lr:gs.reverse.length=gs.length:=List.length_reverse
 have last:gs.reverse.getD (gs.reverse.length-1) default=l.getD (l.length-1) default:=by
  rw [<- t.first,lr,List.getD_eq_getElem?_getD,List.getD_eq_getElem?_getD,List.getElem?_reverse (by omega),show gs.length-1-(gs.length-1)=0 by omega]
 refine ⟨fun x=>by rw [x] at lr;simp at lr;omega,by rw [e];exact ha,last,fun p hp=>t.mem p (List.mem_reverse.1 hp),t.chn,?_,fun d w=>by rw [hp];exact least d w,by omega⟩
 have mm:∀ q ∈ gs.reverse,O.nd l q:=fun q hq=>by
  obtain ⟨j,hj,rfl⟩:=List.mem_iff_getElem.1 (t.mem q (List.mem_reverse.1 hq))
  exact ⟨j,hj,by rw [List.getD_eq_getElem?_getD,List.getElem?_eq_getElem hj,Option.getD_some]⟩
 have ch:=t.chn
 rw [e] at ch last mm
 rw [ha] at ch
 have w:=wk_path (nd:=O.nd l) (a:=l.getD 0 default) gs.reverse.tail .nil (fun q hq=>mm q (List.mem_cons_of_mem _ hq)) ch
 rw [Int.zero_add] at w
 have e2:gs.reverse=l.getD 0 default::gs.reverse.tail:=by rw [<- ha];exact e
 have e3:(l.getD 0 default::gs.reverse.tail).getLast (by simp)=l.getD (l.length-1) default:=by
  rw [last_getD,<- last,ha]
 rw [e3,<- e2] at w
 exact w
def O.Hd (g:Bool) (bs:List Bx) (l:List Gp) (fa bf:List Int) (c:Nat) (r:Nat->Nat) (k:Nat):Prop:=
 ∀ (j v:Nat) (gs:List Gp),j<l.length->r j<k->0<=fa.getD j default->gs.length+r j<=c->O.Tr bs l fa gs->O.ZbT bs (l.getD j default) (gs.getD (gs.length-1) default)->O.ZaY gs.reverse+O.gap (l.getD j default) (gs.getD (gs.length-1) default)+fa.getD j default=fa.getD (l.length-1) default ->
  ∃ P,O.Good bs l P/\Zdw g l gs bf (j:Int) v (Zaf (.vec false 2 (P.map Gp.a)))
theorem Zef (hl:l.length<=1000) {M:Int} {fa bf:List Int} {dn:List Bool} {c:Nat} (D:O.Dj l (O.ZbT bs) M fa bf dn c) (hc:c<l.length) {r:Nat->Nat} (hr:∀ i,i<l.length->0<=fa.getD i default -> ∀ p:Nat,bf.getD i default=(p:Int)->r p<r i)
  (least:∀ d,O.Wk (O.nd l) (O.ZbT bs) (l.getD 0 default) (l.getD (l.length-1) default) d->fa.getD (l.length-1) default<=d) {k:Nat} (H:O.Hd g bs l fa bf c r k) (j v:Nat) (gs:List Gp) (hj:j<l.length) (hk:r j<=k) (hf:0<=fa.getD j default) (hg:gs.length+r j<=c+1) (t:O.Tr bs l fa gs) (hz:gs.getD (gs.length-1) default=l.getD j default) (hp:O.ZaY gs.reverse+fa.getD j default=fa.getD (l.length-1) default) :
  ∃ P,O.Good bs l P/\Zdw g l gs bf (bf.getD j default) v (Zaf (.vec false 2 (P.map Gp.a))):=by
 rcases D.src j hj hf with ⟨e,s⟩ | ⟨p,pp,s1,s2,s3,s4⟩
 ·subst e
  have h0:=D.h0
  refine ⟨gs.reverse,trace_end hl t hz (by omega) least (by omega),?_⟩
  rw [s]
  exact qSh6 _ _ _ _ _ _ _ ⟨fun x=>by omega,fun _=>⟨by omega,.refl _⟩⟩
 ·have rp:=hr j hj hf p s1
  rw [s1]
  exact H p v gs pp (by omega) (D.dnn p pp s2) (by omega) t (by rw [hz];exact s3) (by rw [hz];omega)
theorem O.Tr.cons {fa:List Int} {gs:List Gp} (t:O.Tr bs l fa gs) {q:Gp} (hq:q ∈ l) (h:O.ZbT bs q (gs.getD (gs.length-1) default)):O.Tr bs l fa (gs++[q]):=by
 refine ⟨by simp,?_,fun p hp => ?_,?_⟩
 ·rw [<- t.first,List.getD_eq_getElem?_getD,List.getElem?_append_left t.len,List.getD_eq_getElem?_getD]
 ·rcases List.mem_append.1 hp with hp | hp
  ·exact t.mem p hp
  ·rw [List.mem_singleton.1 hp];exact hq
 ·rw [List.reverse_append,List.reverse_singleton,List.singleton_append]
  have e:=rev_head t.len
  have ch:=t.chn
  rw [e] at ch ⊢
  exact ⟨h,ch⟩
theorem trace_run (hl:l.length<=1000) {M:Int} {fa bf:List Int} {dn:List Bool} {c:Nat} (D:O.Dj l (O.ZbT bs) M fa bf dn c) (hc:c<l.length) {r:Nat->Nat} (hr:∀ i,i<l.length->0<=fa.getD i default -> ∀ p:Nat,bf.getD i default=(p:Int)->r p<r i)
  (least:∀ d,O.Wk (O.nd l) (O.ZbT bs) (l.getD 0 default) (l.getD (l.length-1) default) d->fa.getD (l.length-1) default<=d) (k:Nat):O.Hd g bs l fa bf c r k:=by
 have lb:=D.lb
 induction k with
 | zero=>exact fun j v gs hj h=>absurd h (Nat.not_lt_zero _)
 | succ k H =>
  intro j v gs hj hk hf hg t hz hp
  have lg:=t.len
  have cond:(((gs.length:Int)=0)\/(¬(((gs.getD ((gs.length:Int)-1).toNat default).x=(l.getD j default).x)/\((gs.getD ((gs.length:Int)-1).toNat default).y=(l.getD j default).y)))) ↔ ¬(gs.getD (gs.length-1) default=l.getD j default):=by
   rw [show ((gs.length:Int)-1).toNat=gs.length-1 by omega]
   have E (p q:Gp):p=q ↔ p.x=q.x/\p.y=q.y:=by cases p;cases q;simp
   rw [E (gs.getD (gs.length-1) default)]
   constructor
   ·rintro (h | h)
    ·omega
    ·exact h
   ·exact .inr
  by_cases e:gs.getD (gs.length-1) default=l.getD j default
  ·rw [e,Ze4] at hp
   obtain ⟨P,good,w⟩:=Zef (g:=g) hl D hc hr least H j v gs hj (by omega) hf (by omega) t e (by omega)
   refine ⟨P,good,qSh6 _ _ _ _ _ _ _ ⟨fun x => ?_,fun x=>by omega⟩⟩
   rw [Int.toNat_natCast,cond]
   exact ⟨by omega,fun _=>by omega,fun _=>by omega,fun _=>by omega,fun _=>hj,fun y=>absurd e y,fun _=>⟨by omega,by omega,w⟩⟩
  ·have t2:=t.cons (Zay hj) hz
   have l2:(gs++[l.getD j default]).length=gs.length+1:=by simp
   have z2:(gs++[l.getD j default]).getD ((gs++[l.getD j default]).length-1) default=l.getD j default:=by
    rw [l2,Nat.add_sub_cancel,List.getD_eq_getElem?_getD,List.getElem?_append_right (Nat.le_refl _),Nat.sub_self];rfl
   have p2:O.ZaY (gs++[l.getD j default]).reverse=O.gap (l.getD j default) (gs.getD (gs.length-1) default)+O.ZaY gs.reverse:=by
    rw [List.reverse_append,List.reverse_singleton,List.singleton_append]
    have e:=rev_head t.len
    rw [e];rfl
   obtain ⟨P,good,w⟩:=Zef (g:=g) hl D hc hr least H j (v+1) (gs++[l.getD j default]) hj (by omega) hf (by omega) t2 z2 (by omega)
   refine ⟨P,good,qSh6 _ _ _ _ _ _ _ ⟨fun x => ?_,fun x=>by omega⟩⟩
   rw [Int.toNat_natCast,cond]
   exact ⟨by omega,fun _=>by omega,fun _=>by omega,fun _=>by omega,fun _=>hj,fun _=>⟨by omega,hj,by omega,by omega,w⟩,fun y=>absurd e y⟩
theorem outer_run (hb:O.okB8 bs) (hl:O.okP8 l) (haa:O.ZbT bs (l.getD 0 default) (l.getD 0 default)) (k:Nat):∀ (fa bf:List Int) (dn:List Bool) (c:Nat),O.Dj l (O.ZbT bs) 40000000 fa bf dn c->dn.getD (l.length-1) default=false->dn.count false<=k -> ∃ dq,Zdy f g bs l fa bf dn (Zaf dq)/\O.ShRes bs l dq:=by
 induction k with
 | zero =>
  intro fa bf dn c D dl hk
  have:=D.pos
  have ld:=D.ld
  have m:false ∈ dn:=by rw [<- dl];exact Zay (by omega)
  have:=List.count_pos_iff.2 m
  omega
 | succ k ih =>
  intro fa bf dn c D dl hk
  have pos:=D.pos
  have ld:=D.ld
  have lN:=hl.1
  have cnt:=D.cnt
  have m:false ∈ dn:=by rw [<- dl];exact Zay (by omega)
  have cp:=List.count_pos_iff.2 m
  have last:l.length-1<l.length:=by omega
  obtain ⟨m',pk,w⟩:=pick_run (f:=f) (g:=g) (bs:=bs) hl.1 D.lf D.ld l.length 0 (-1) (by omega) pick_0 (bf:=bf)
  by_cases neg:m'<0
  ·have e:m' = -1:=by rcases pk with ⟨e,_⟩ | ⟨j,e,_⟩ <;> omega
   subst e
   exact ⟨.vnil,qSh2 _ _ _ _ _ _ _ _ (w _ ⟨fun _ => .refl _,fun x=>absurd neg x⟩),.inl ⟨rfl,dj_none D rfl haa pk last rfl dl⟩⟩
  ·obtain ⟨j,e,hj,dj,nj,lj⟩:∃ j:Nat,m'=(j:Int)/\j<l.length/\dn.getD j default=false/\0<=fa.getD j default /\ ∀ i,i<l.length->dn.getD i default=false->0<=fa.getD i default->fa.getD j default<=fa.getD i default:=by
    rcases pk with ⟨e,_⟩ | h
    ·omega
    ·exact h
   subst e
   by_cases fin:j=l.length-1
   ·subst fin
    have least:∀ d,O.Wk (O.nd l) (O.ZbT bs) (l.getD 0 default) (l.getD (l.length-1) default) d->fa.getD (l.length-1) default<=d:=fun d wk=>(dj_least D rfl haa pk rfl wk).2
    obtain ⟨r,r1,r2⟩:=D.rk
    have H:=trace_run (g:=g) hl.1 D (by omega) r2 least c
    have rl:=(r1 _ last).2 dl
    have t:O.Tr bs l fa [l.getD (l.length-1) default]:=⟨by simp,rfl,fun p hp=>by rw [List.mem_singleton.1 hp];exact Zay last,trivial⟩
    obtain ⟨P,good,wp⟩:=Zef (g:=g) hl.1 D (by omega) r2 least H (l.length-1) 0 [l.getD (l.length-1) default] last (by omega) nj (by simp;omega) t rfl (by show (0:Int)+_=_;omega)
    have lb:=D.lb
    refine ⟨_,qSh2 _ _ _ _ _ _ _ _ (w _ ⟨fun x=>by omega,fun _=>⟨by omega,fun _=>qSh5 _ _ _ _ _ ⟨fun _ => ?_,fun x=>by omega⟩,fun x=>by omega⟩⟩),.inr ⟨P,rfl,good⟩⟩
    rw [show ((l.length:Int)-1).toNat=l.length-1 by omega]
    exact ⟨fun x=>absurd x (by decide),by omega,last,by omega,wp⟩
   ·have bdj:=D.bd j hj
    have c1:(c:Int)*40000000<=40000000000:=by omega
    obtain ⟨f'',b'',rx,w2⟩:=relax_run (f:=f) (g:=g) hb hl D.lf D.lb (by rw [List.length_set];exact D.ld) hj (dn:=dn.set j true) (by rw [ZbS _ _ _ _ (by omega),if_pos rfl]) ⟨nj,by omega⟩ l.length 0 fa bf (by omega) rlx_0
    have D2:=dj_step D (fun i k hi hk=>(ccp_cb (hl.2 _ (Zay hi)) (hl.2 _ (Zay hk))).2) hj dj nj lj rx
    have cs:=count_set (dn:=dn) (j:=j) (by omega) dj
    obtain ⟨dq,w3,res⟩:=ih f'' b'' (dn.set j true) (c+1) D2 (by rw [ZbS _ _ _ _ (by omega),if_neg fun x=>fin x.symm];exact dl) (by omega)
    refine ⟨dq,qSh2 _ _ _ _ _ _ _ _ (w _ ⟨fun x=>by omega,fun _=>⟨by omega,fun x=>by omega,fun _=>⟨by omega,by omega,?_⟩⟩⟩),res⟩
    rw [Int.toNat_natCast]
    exact w2 dq w3
theorem init_run {n:Nat} {dn:List Bool} {dq:AV} (hN:n<=1000) (h0:0<n) (H:Zdy f g bs l ((List.replicate n (-1:Int)).set 0 0) (List.replicate n (-1:Int)) dn (Zaf dq)) (k:Nat):∀ i:Nat,i+k=n->Zfo f g bs l (List.replicate i (-1:Int)++List.replicate k 0) (List.replicate i (-1:Int)++List.replicate k 0) dn n i (Zaf dq):=by
 induction k with
 | zero =>
  intro i e
  have:i=n:=by omega
  subst this
  refine qSh1 _ _ _ _ _ _ _ _ _ _ ⟨fun x=>by omega,fun _=>⟨by simpa using h0,?_⟩⟩
  rw [List.replicate_zero,List.append_nil];exact H
 | succ k ih =>
  intro i e
  have se:∀ j:Int,(List.replicate i (-1:Int)++List.replicate (k+1) 0).set i (-1)=List.replicate (i+1) (-1)++List.replicate k 0:=fun _=>by
   rw [List.set_append_right _ _ (by simp),List.length_replicate,Nat.sub_self,List.replicate_succ (n:=k),List.set_cons_zero,List.replicate_succ' (n:=i),List.append_assoc,List.singleton_append]
  refine qSh1 _ _ _ _ _ _ _ _ _ _ ⟨fun x => ?_,fun x=>by omega⟩
  rw [Int.toNat_natCast,se 0,show (i:Int)+1=((i+1:Nat):Int) by omega]
  exact ⟨by omega,by simp,by simp,by omega,ih (i+1) (by omega)⟩
theorem shortest_ex (hb:O.okB8 bs) (hl:O.okP8 l) (h2:0<l.length) (haa:O.ZbT bs (l.getD 0 default) (l.getD 0 default)):∃ dq,ZgD f g bs l (Zaf dq)/\O.ShRes bs l dq:=by
 have lN:=hl.1
 obtain ⟨dq,w,res⟩:=outer_run (f:=f) (g:=g) hb hl haa l.length _ _ _ _ (dj_0 (at_:=l) (fr:=O.ZbT bs) (M:=40000000) rfl h2) (by rw [List.getD_eq_getElem?_getD,List.getElem?_replicate,if_pos (by omega)];rfl) (by simp)
 refine ⟨dq,qSh _ _ _ _ _ ⟨by omega,by omega,by omega,by omega,?_⟩,res⟩
 rw [Int.toNat_natCast,List.length_replicate]
 have:=init_run (f:=f) (g:=g) (bs:=bs) (l:=l) hl.1 h2 w l.length 0 (by omega)
 rw [List.replicate_zero,List.nil_append] at this
 exact this
end
end Go.Av

namespace Go.Av
open Go.Proofs
namespace O
def okSh (bs:List Bx) (l:List Gp):Prop:=okB8 bs/\okP8 l/\0<l.length/\ZbT bs (l.getD 0 default) (l.getD 0 default)
def lnk (bs:List Bx) (l:List Gp):Prop:=∃ d,Wk (nd l) (ZbT bs) (l.getD 0 default) (l.getD (l.length-1) default) d
noncomputable def shR (f g:Bool) (bs:List Bx) (l:List Gp):AV:=Classical.epsilon fun dq=>ZgD f g bs l (Zaf dq)/\ShRes bs l dq
noncomputable def shP (f g:Bool) (bs:List Bx) (l:List Gp):List Gp:=Classical.epsilon fun P=>shR f g bs l = .vec false 2 (P.map Gp.a)/\Good bs l P
noncomputable def shH (f g:Bool) (bs:List Bx) (l:List Gp):Gp:=(shP f g bs l).getD 0 default
noncomputable def shT (f g:Bool) (bs:List Bx) (l:List Gp):List Gp:=(shP f g bs l).drop 1
end O
theorem ZeM {f g:Bool} {bs:List Bx} {l:List Gp} (h:O.okSh bs l):ZgD f g bs l (Zaf (O.shR f g bs l))/\O.ShRes bs l (O.shR f g bs l):=
 Classical.epsilon_spec (p:=fun dq=>ZgD f g bs l (Zaf dq)/\O.ShRes bs l dq) (shortest_ex h.1 h.2.1 h.2.2.1 h.2.2.2)
theorem shP_spec {f g:Bool} {bs:List Bx} {l:List Gp} (h:O.okSh bs l) (k:O.lnk bs l):O.shR f g bs l = .vec false 2 ((O.shP f g bs l).map Gp.a)/\O.Good bs l (O.shP f g bs l):=by
 rcases (ZeM (f:=f) (g:=g) h).2 with ⟨_,n⟩ | ⟨P,e,good⟩
 ·obtain ⟨d,w⟩:=k;exact absurd w (n d)
 ·exact Classical.epsilon_spec (p:=fun P=>O.shR f g bs l = .vec false 2 (P.map Gp.a)/\O.Good bs l P) ⟨P,e,good⟩
theorem shP_cons {f g:Bool} {bs:List Bx} {l:List Gp} (h:O.okSh bs l) (k:O.lnk bs l):O.shP f g bs l=O.shH f g bs l::O.shT f g bs l:=by
 have ne:=(shP_spec (f:=f) (g:=g) h k).2.ne
 have:0<(O.shP f g bs l).length:=List.length_pos_iff.2 ne
 have e:=ZaO (d:=O.shP f g bs l) (i:=0) this
 rw [List.drop_zero] at e
 exact e
theorem ev44_y (f g:Bool) (bs:List Bx) (l:List Gp) (h:O.okSh bs l) (c:O.lnk bs l):Ev M1 (.pure 44 [.vec g 2 (l.map Gp.a),.func (.func 42) [] [.eptr 1 [.vec f 5 (bs.map Bx.a)] 0 0]]) (.vec false 2 (.agg [.int .i64 (O.shH f g bs l).x,.int .i64 (O.shH f g bs l).y]::(O.shT f g bs l).map Gp.a)) []:=by
 have w:Ev M1 (.pure 44 [.vec g 2 (l.map Gp.a),.func (.func 42) [] [.eptr 1 [.vec f 5 (bs.map Bx.a)] 0 0]]) (O.shR f g bs l) []:=call44 (ZeM (f:=f) (g:=g) h).1
 rw [(shP_spec h c).1,shP_cons h c,List.map_cons] at w
 exact w
theorem ev44_n (f g:Bool) (bs:List Bx) (l:List Gp) (h:O.okSh bs l) (c:¬O.lnk bs l):Ev M1 (.pure 44 [.vec g 2 (l.map Gp.a),.func (.func 42) [] [.eptr 1 [.vec f 5 (bs.map Bx.a)] 0 0]]) .vnil []:=by
 have w:Ev M1 (.pure 44 [.vec g 2 (l.map Gp.a),.func (.func 42) [] [.eptr 1 [.vec f 5 (bs.map Bx.a)] 0 0]]) (O.shR f g bs l) []:=call44 (ZeM (f:=f) (g:=g) h).1
 rcases (ZeM (f:=f) (g:=g) h).2 with ⟨e,_⟩ | ⟨P,_,good⟩
 ·rw [e] at w;exact w
 ·exact absurd ⟨_,good.walk⟩ c
theorem ev44_y2 (f g:Bool) (bs:List Bx) (ax ay bx by_:Int) (h:O.okSh bs [⟨ax,ay⟩,⟨bx,by_⟩]) (c:O.lnk bs [⟨ax,ay⟩,⟨bx,by_⟩]):Ev M1 (.pure 44 [.vec g 2 [.agg [.int .i64 ax,.int .i64 ay],.agg [.int .i64 bx,.int .i64 by_]],.func (.func 42) [] [.eptr 1 [.vec f 5 (bs.map Bx.a)] 0 0]]) (.vec false 2 (.agg [.int .i64 (O.shH f g bs [⟨ax,ay⟩,⟨bx,by_⟩]).x,.int .i64 (O.shH f g bs [⟨ax,ay⟩,⟨bx,by_⟩]).y]::(O.shT f g bs [⟨ax,ay⟩,⟨bx,by_⟩]).map Gp.a)) []:=
 ev44_y f g bs [⟨ax,ay⟩,⟨bx,by_⟩] h c
theorem ev44_n2 (f g:Bool) (bs:List Bx) (ax ay bx by_:Int) (h:O.okSh bs [⟨ax,ay⟩,⟨bx,by_⟩]) (c:¬O.lnk bs [⟨ax,ay⟩,⟨bx,by_⟩]):Ev M1 (.pure 44 [.vec g 2 [.agg [.int .i64 ax,.int .i64 ay],.agg [.int .i64 bx,.int .i64 by_]],.func (.func 42) [] [.eptr 1 [.vec f 5 (bs.map Bx.a)] 0 0]]) .vnil []:=
 ev44_n f g bs [⟨ax,ay⟩,⟨bx,by_⟩] h c
theorem ZgR (v:Bool) (a b c d:Int) (h:O.cb4 a b c d):Ev M1 (.pure 16 [.vec v 2 [.agg [.int .i64 a,.int .i64 b],.agg [.int .i64 c,.int .i64 d]]]) (.int .i64 (O.gap ⟨a,b⟩ ⟨c,d⟩)) []:=by
 have k:=ev16 v [⟨a,b⟩,⟨c,d⟩] ⟨by simp,fun p hp=>by
  simp only [List.mem_cons,List.not_mem_nil,or_false] at hp
  rcases hp with rfl | rfl
  ·exact ⟨h.1,h.2.1⟩
  ·exact ⟨h.2.2.1,h.2.2.2⟩⟩
 rw [show O.ZaY [⟨a,b⟩,⟨c,d⟩]=O.gap ⟨a,b⟩ ⟨c,d⟩ from Int.add_zero _] at k
 exact k
end Go.Av
