/- PART 3 of the texts of a claim, joined by a program: what each part shows stands at its head. -/
import Derived.Test.YtcekollfgmfdjaaPart19b3035f1c

namespace Go.Av
open Go.Proofs
set_option maxRecDepth 100000
def fi84:Fi:=⟨30,[.cell 4 108]⟩
def kp84:List (Nat × List Nat):=[(0,[0,1,4]),(1,[0,1,4,5]),(2,[0,1,4,5,17]),(3,[0,1,4,5]),(4,[4])]
def fi85:Fi:=⟨15,[.tmp 2]⟩
def kp85:List (Nat × List Nat):=[(0,[0]),(1,[2])]
def fi86:Fi:=⟨11,[.tmp 2]⟩
def kp86:List (Nat × List Nat):=[(0,[1]),(1,[1,3]),(2,[2]),(3,[6]),(4,[2]),(5,[2])]
def fi101:Fi:=⟨21,[.tmp 2]⟩
def kp101:List (Nat × List Nat):=[(0,[0]),(1,[0,14]),(2,[0]),(3,[2])]
def vTrim_at (fa:Bool) (a:List Int) (Q:AV->Heap->Prop):Prop:=Wp M1 (.run fi101 (atC (cd Try.f101) []) [(0,.vec fa 1 (a.map (.int .u32)))] []) Q
def Zc5 (fa:Bool) (a:List Int) (Q:AV->Heap->Prop):Prop:=Wp M1 (.run fi101 (atC (cd Try.f101) [1,0,0,0]) [(0,.vec fa 1 (a.map (.int .u32)))] []) Q
def ZgP (s fa:Bool) (a:List Int) (Q:AV->Heap->Prop):Prop:=Wp M1 (.run fi84 (atC (cd Try.f84) []) [(0,.bool s),(1,.vec fa 1 (a.map (.int .u32)))] []) Q
def Zcp (s fa:Bool) (a:List Int) (n:Int) (Q:AV->Heap->Prop):Prop:=Wp M1 (.run fi84 (atC (cd Try.f84) [1,1,0,0,0]) [(0,.bool s),(1,.vec fa 1 (a.map (.int .u32))),(4,.ptr 0 0 0 0),(5,.int .i64 n)] [⟨[.agg [.bool false,.vnil]],2,0,false,false⟩]) Q
def ZfA (s:Bool) (Q:AV->Heap->Prop):Prop:=Wp M1 (.run fi84 (atC (cd Try.f84) []) [(0,.bool s),(1,.vnil)] []) Q
def Zc6 (s:Bool) (Q:AV->Heap->Prop):Prop:=Wp M1 (.run fi84 (atC (cd Try.f84) [1,1,0,0,0]) [(0,.bool s),(1,.vnil),(4,.ptr 0 0 0 0),(5,.int .i64 0)] [⟨[.agg [.bool false,.vnil]],2,0,false,false⟩]) Q
def vSplit_at (u:Int) (Q:AV->Heap->Prop):Prop:=Wp M1 (.run fi85 (atC (cd Try.f85) []) [(0,.int .u64 u)] []) Q
def vSign_at (fa:Bool) (v:Int) (Q:AV->Heap->Prop):Prop:=Wp M1 (.run fi86 (atC (cd Try.f86) []) [(0,bigA fa v)] []) Q
theorem call84 {args:List AV} {d:AV} (h:wc M1 fi84 Try.f84 args d):Ev M1 (.pure 84 args) d []:=pcl _ _ (by kernel_rfl) h
theorem call85 {args:List AV} {d:AV} (h:wc M1 fi85 Try.f85 args d):Ev M1 (.pure 85 args) d []:=pcl _ _ (by kernel_rfl) h
theorem call86 {args:List AV} {d:AV} (h:wc M1 fi86 Try.f86 args d):Ev M1 (.pure 86 args) d []:=pcl _ _ (by kernel_rfl) h
theorem call101 {args:List AV} {d:AV} (h:wc M1 fi101 Try.f101 args d):Ev M1 (.pure 101 args) d []:=pcl _ _ (by kernel_rfl) h
theorem vTrim (fa:Bool) (a:List Int)  (dq:AV) (H :
  Zc5 fa a (Zaf dq)) :
 vTrim_at fa a (Zaf dq):=by
 unfold vTrim_at
 exact Zae (G:=Zad kp101 [] []) 1000 [] ⟨(atC (cd Try.f101) [1,0,0,0]),[(0,AV.vec fa 1 (us a))],[],_,[],_⟩ (by kernel_rfl) b0 q0 c0 H
theorem vTrimA (fa:Bool) (a:List Int)  (dq:AV) (H :
  (-9223372036854775808<=(↑a.length:Int)-1/\(↑a.length:Int)-1<=9223372036854775807) /\
  (((↑a.length:Int)>0)->(0<=(↑a.length:Int)-1)) /\
  (((↑a.length:Int)>0)->(((↑a.length:Int)-1).toNat<a.length)) /\
  ((((↑a.length:Int)>0)/\(a.getD ((↑a.length:Int)-1).toNat default=0))->(0<=(↑a.length:Int)-1) /\
   (0<=((↑a.length:Int)-1).toNat) /\
   (((↑a.length:Int)-1).toNat<=a.length) /\
   Zc5 (fa&&false) (List.drop 0 (List.take ((↑a.length:Int)-1).toNat a)) (Zaf dq)) /\
  (¬(((↑a.length:Int)>0)/\(a.getD ((↑a.length:Int)-1).toNat default=0))->Weak (AV.vec fa 1 (us a)) dq)) :
 Zc5 fa a (Zaf dq):=by
 unfold Zc5
 have w1:(us a).length=a.length:=List.length_map ..
 obtain ⟨k2,H⟩:=H
 have w3:wi ((↑a.length:Int)-1)=(↑a.length:Int)-1:=wI64 k2
 have i4:(!(decide ((↑(us a).length:Int)>0)==true&&true)||decide (0<=wi ((↑(us a).length:Int)-1)))=true ↔ (((↑a.length:Int)>0)->(0<=(↑a.length:Int)-1)):=(by (try rw [w1]);(try rw [w3]);all_goals exact (Zbb (i_at (i_bt Zab)) Zab))
 obtain ⟨k5,H⟩:=H
 have i6:(!(decide ((↑(us a).length:Int)>0)==true&&true)||decide ((wi ((↑(us a).length:Int)-1)).toNat<(us a).length))=true ↔ (((↑a.length:Int)>0)->(((↑a.length:Int)-1).toNat<a.length)):=(by (try rw [w1]);(try rw [w3]);all_goals exact (Zbb (i_at (i_bt Zab)) Zab))
 obtain ⟨k7,H⟩:=H
 have i9:(bif decide ((↑(us a).length:Int)>0) then a.getD ((↑a.length:Int)-1).toNat default==0 else false)=true ↔ (((↑a.length:Int)>0)/\(a.getD ((↑a.length:Int)-1).toNat default=0)):=(by (try rw [w1]);all_goals exact (ZaD Zab i_eq))
 refine Zae (G:=Zad kp101 [(1,9,.elem (vu (a.getD ((↑a.length:Int)-1).toNat default)))] []) 3 [] ⟨(atC (cd Try.f101) [1,0,0,0,0,1]),[(0,AV.vec fa 1 (us a)),(14,vb (bif decide ((↑(us a).length:Int)>0) then a.getD ((↑a.length:Int)-1).toNat default==0 else false))],[],_,[((decide ((↑(us a).length:Int)>0)==true&&true)=true->(us a).get?Internal (wi ((↑(us a).length:Int)-1)).toNat=some (vu (a.getD ((↑a.length:Int)-1).toNat default)))],_⟩ (by kernel_rfl) (bc (i4.2 k5) (bc (i6.2 k7) b0)) (qc (by (try rw [w1]);(try rw [w3]);all_goals exact (fun h=>Zal (k7 ((i_at (i_bt Zab)).1 h)))) q0) c0 ?_
 rcases xq H with ⟨d10,H⟩|⟨d10,H⟩
 ·have i11:(decide (0<=wi ((↑(us a).length:Int)-1)))=true ↔ (0<=(↑a.length:Int)-1):=(by (try rw [w1]);(try rw [w3]);all_goals exact Zab)
  obtain ⟨k12,H⟩:=H
  have i13:(decide (0<=(wi ((↑(us a).length:Int)-1)).toNat))=true ↔ (0<=((↑a.length:Int)-1).toNat):=(by (try rw [w1]);(try rw [w3]);all_goals exact Zab)
  obtain ⟨k14,H⟩:=H
  have i15:(decide ((wi ((↑(us a).length:Int)-1)).toNat<=(us a).length))=true ↔ (((↑a.length:Int)-1).toNat<=a.length):=(by (try rw [w1]);(try rw [w3]);all_goals exact Zab)
  obtain ⟨k16,H⟩:=H
  have w17:List.take ((↑a.length:Int)-1).toNat (us a)=us (List.take ((↑a.length:Int)-1).toNat a):=(lm_take rfl)
  have w18:List.drop 0 (us (List.take ((↑a.length:Int)-1).toNat a))=us (List.drop 0 (List.take ((↑a.length:Int)-1).toNat a)):=(lm_drop rfl)
  exact Zae (G:=Zad kp101 [] []) 1000 [true] ⟨(atC (cd Try.f101) [1,0,0,0]),[(0,AV.vec (fa&&false) 1 (List.drop 0 (List.take (wi ((↑(us a).length:Int)-1)).toNat (us a))))],[],_,[],_⟩ (by kernel_rfl) (bc (Zak (i9.2 d10)) (bc (i11.2 k12) (bc (i13.2 k14) (bc (i15.2 k16) b0)))) q0 c0 (by (try rw [w1]);(try rw [w3]);(try rw [w17]);(try rw [w18]);all_goals exact H)
 ·exact Zaq (G:=Zad kp101 [] []) 1000 [false] (AV.vec fa 1 (us a)) (by kernel_rfl) (bc (Zah (fun h=>d10 (i9.1 h))) b0) q0 c0 H
theorem vSigned (s fa:Bool) (a:List Int)  (dq:AV) (H :
  Zcp s fa a ((↑a.length:Int)) (Zaf dq)) :
 ZgP s fa a (Zaf dq):=by
 unfold ZgP
 have w1:(us a).length=a.length:=List.length_map ..
 exact Zae (G:=Zad kp84 [] []) 1000 [] ⟨(atC (cd Try.f84) [1,1,0,0,0]),[(0,vb s),(1,AV.vec fa 1 (us a)),(4,AV.ptr 0 0 0 0),(5,vi (↑(us a).length:Int))],[⟨[ag [vb false,AV.vnil]],2,0,false,false⟩],_,[],_⟩ (by kernel_rfl) b0 q0 c0 (by (try rw [w1]);all_goals exact H)
theorem vSignedA (s fa:Bool) (a:List Int) (n:Int)  (dq:AV) (H :
  (-9223372036854775808<=n-1/\n-1<=9223372036854775807) /\
  ((n>0)->(0<=n-1)) /\
  ((n>0)->((n-1).toNat<a.length)) /\
  (((n>0)/\(a.getD (n-1).toNat default=0))->Zcp s fa a (n-1) (Zaf dq)) /\
  (¬((n>0)/\(a.getD (n-1).toNat default=0))->(0<=n) /\
   (0<=n.toNat) /\
   (n.toNat<=a.length) /\
   (n=(↑n.toNat:Int)) /\
   Weak (ag [vb (bif s then decide (n>0) else false),AV.vec true 1 (us (List.drop 0 (List.take n.toNat a)))]) dq)) :
 Zcp s fa a n (Zaf dq):=by
 unfold Zcp
 obtain ⟨k1,H⟩:=H
 have w2:wi (n-1)=n-1:=wI64 k1
 have i3:(!(decide (n>0)==true&&true)||decide (0<=wi (n-1)))=true ↔ ((n>0)->(0<=n-1)):=(by (try rw [w2]);all_goals exact (Zbb (i_at (i_bt Zab)) Zab))
 obtain ⟨k4,H⟩:=H
 have w5:(us a).length=a.length:=List.length_map ..
 have i6:(!(decide (n>0)==true&&true)||decide ((wi (n-1)).toNat<(us a).length))=true ↔ ((n>0)->((n-1).toNat<a.length)):=(by (try rw [w2]);(try rw [w5]);all_goals exact (Zbb (i_at (i_bt Zab)) Zab))
 obtain ⟨k7,H⟩:=H
 refine Zae (G:=Zad kp84 [(2,7,.elem (vu (a.getD (n-1).toNat default)))] []) 3 [] ⟨(atC (cd Try.f84) [1,1,0,0,0,0,1]),[(0,vb s),(1,AV.vec fa 1 (us a)),(4,AV.ptr 0 0 0 0),(5,vi n),(17,vb (bif decide (n>0) then a.getD (n-1).toNat default==0 else false))],[⟨[ag [vb false,AV.vnil]],2,0,false,false⟩],_,[((decide (n>0)==true&&true)=true->(us a).get?Internal (wi (n-1)).toNat=some (vu (a.getD (n-1).toNat default)))],_⟩ (by kernel_rfl) (bc (i3.2 k4) (bc (i6.2 k7) b0)) (qc (by (try rw [w2]);all_goals exact (fun h=>Zal (k7 ((i_at (i_bt Zab)).1 h)))) q0) c0 ?_
 rcases xq H with ⟨d10,H⟩|⟨d10,H⟩
 ·exact Zae (G:=Zad kp84 [] []) 1000 [true] ⟨(atC (cd Try.f84) [1,1,0,0,0]),[(0,vb s),(1,AV.vec fa 1 (us a)),(4,AV.ptr 0 0 0 0),(5,vi (wi (n-1)))],[⟨[ag [vb false,AV.vnil]],2,0,false,false⟩],_,[],_⟩ (by kernel_rfl) (bc (Zak ((ZaD Zab i_eq).2 d10)) b0) q0 c0 (by (try rw [w2]);all_goals exact H)
 ·obtain ⟨k12,k14,H⟩:=H
  have i15:(decide (n.toNat<=(us a).length))=true ↔ (n.toNat<=a.length):=(by (try rw [w5]);all_goals exact Zab)
  obtain ⟨k16,k18,H⟩:=H
  have w19:List.take n.toNat (us a)=us (List.take n.toNat a):=(lm_take rfl)
  have w20:List.drop 0 (us (List.take n.toNat a))=us (List.drop 0 (List.take n.toNat a)):=(lm_drop rfl)
  exact Zaq (G:=Zad kp84 [] []) 1000 [false] (ag [vb (bif s then decide (n>0) else false),AV.vec true 1 (List.drop 0 (List.take n.toNat (us a)))]) (by kernel_rfl) (bc (Zah (fun h=>d10 ((ZaD Zab i_eq).1 h))) (bc (Zab.2 k12) (bc (Zab.2 k14) (bc (i15.2 k16) (bc (i_eq.2 k18) (bc rfl (bc rfl b0))))))) q0 c0 (by (try rw [w19]);(try rw [w20]);all_goals exact H)
theorem vSigned0 (s:Bool)  (dq:AV) (H :
  Zc6 s (Zaf dq)) :
 ZfA s (Zaf dq):=by
 unfold ZfA
 exact Zae (G:=Zad kp84 [] []) 1000 [] ⟨(atC (cd Try.f84) [1,1,0,0,0]),[(0,vb s),(1,AV.vnil),(4,AV.ptr 0 0 0 0),(5,vi 0)],[⟨[ag [vb false,AV.vnil]],2,0,false,false⟩],_,[],_⟩ (by kernel_rfl) b0 q0 c0 H
theorem vSigned0A (s:Bool)  (dq:AV) (H :
  Weak (ag [vb (bif s then false else false),AV.vnil]) dq) :
 Zc6 s (Zaf dq):=by
 unfold Zc6
 exact Zaq (G:=Zad kp84 [] []) 1000 [false] (ag [vb (bif s then false else false),AV.vnil]) (by kernel_rfl) (bc rfl (bc rfl (bc rfl (bc rfl (bc rfl (bc rfl (bc rfl (bc rfl b0)))))))) q0 c0 H
theorem vSplit (u:Int)  (dq:AV) (H :
  (0<=u.tmod 1000000000/\u.tmod 1000000000<=4294967295) /\
  (0<=u.tdiv 1000000000/\u.tdiv 1000000000<=18446744073709551615) /\
  (0<=(u.tdiv 1000000000).tmod 1000000000/\(u.tdiv 1000000000).tmod 1000000000<=4294967295) /\
  (0<=(u.tdiv 1000000000).tdiv 1000000000/\(u.tdiv 1000000000).tdiv 1000000000<=18446744073709551615) /\
  (0<=(u.tdiv 1000000000).tdiv 1000000000/\(u.tdiv 1000000000).tdiv 1000000000<=4294967295) /\
  Weak (AV.vec true 1 [vu (u.tmod 1000000000),vu ((u.tdiv 1000000000).tmod 1000000000),vu ((u.tdiv 1000000000).tdiv 1000000000)]) dq) :
 vSplit_at u (Zaf dq):=by
 unfold vSplit_at
 obtain ⟨k1,H⟩:=H
 have w2:wv (u.tmod 1000000000)=u.tmod 1000000000:=wU32 k1
 obtain ⟨k3,H⟩:=H
 have w4:wu (u.tdiv 1000000000)=u.tdiv 1000000000:=wU64 k3
 obtain ⟨k5,H⟩:=H
 have w6:wv ((u.tdiv 1000000000).tmod 1000000000)=(u.tdiv 1000000000).tmod 1000000000:=wU32 k5
 obtain ⟨k7,H⟩:=H
 have w8:wu ((u.tdiv 1000000000).tdiv 1000000000)=(u.tdiv 1000000000).tdiv 1000000000:=wU64 k7
 obtain ⟨k9,H⟩:=H
 have w10:wv ((u.tdiv 1000000000).tdiv 1000000000)=(u.tdiv 1000000000).tdiv 1000000000:=wU32 k9
 exact Zaq (G:=Zad kp85 [] []) 1000 [] (AV.vec true 1 [vu (wv (u.tmod 1000000000)),vu (wv ((wu (u.tdiv 1000000000)).tmod 1000000000)),vu (wv (wu ((wu (u.tdiv 1000000000)).tdiv 1000000000)))]) (by kernel_rfl) (bc rfl (bc rfl (bc rfl (bc rfl (bc rfl b0))))) q0 c0 (by (try rw [w2]);(try rw [w4]);(try rw [w6]);(try rw [w8]);(try rw [w10]);all_goals exact H)
theorem vSign (fa:Bool) (v:Int)  (dq:AV) (H :
  ((O.Zac v=true)->vi (-1)=dq) /\
  (¬(O.Zac v=true)->(((↑(O.Zag v).length:Int)>0)->vi 1=dq) /\
   (¬((↑(O.Zag v).length:Int)>0)->vi 0=dq))) :
 vSign_at fa v (Zaf dq):=by
 unfold vSign_at
 rcases xq H with ⟨d2,H⟩|⟨d2,H⟩
 ·exact Zai (G:=Zad kp86 [] []) 1000 [true] (asm:=[true,(O.Zac v)==true]) (vi (-1)) (by kernel_rfl) (bc rfl (bc (Zak ((ZaI _).2 d2)) b0)) q0 c0 H
 ·have w3:(us (O.Zag v)).length=(O.Zag v).length:=List.length_map ..
  have i4:(decide ((↑(us (O.Zag v)).length:Int)>0))=true ↔ ((↑(O.Zag v).length:Int)>0):=(by (try rw [w3]);all_goals exact Zab)
  rcases xq H with ⟨d5,H⟩|⟨d5,H⟩
  ·exact Zai (G:=Zad kp86 [] []) 1000 [false,true] (asm:=[true,(O.Zac v)==false,true,(decide ((↑(us (O.Zag v)).length:Int)>0))==true]) (vi 1) (by kernel_rfl) (bc rfl (bc (Zah (fun h=>d2 ((ZaI _).1 h))) (bc rfl (bc (Zak (i4.2 d5)) b0)))) q0 c0 H
  ·exact Zai (G:=Zad kp86 [] []) 1000 [false,false] (asm:=[true,(O.Zac v)==false,true,(decide ((↑(us (O.Zag v)).length:Int)>0))==false]) (vi 0) (by kernel_rfl) (bc rfl (bc (Zah (fun h=>d2 ((ZaI _).1 h))) (bc rfl (bc (Zah (fun h=>d5 (i4.1 h))) b0)))) q0 c0 H
end Go.Av

namespace Go.Av
open Go.Proofs
namespace O
def sg (s:Bool) (v:Nat):Int:=if s=true then -(v:Int) else v
def sgnI (v:Int):Int:=if v<0 then -1 else if v>0 then 1 else 0
def Za7 (k:Nat):Prop:=k<=1000000
def ok (v:Int):Prop:=cnt v.natAbs<=1000000
end O
theorem ZcN (f:Bool) (es:Nat) (xs:List AV):Weak (.vec f es xs) (.vec false es xs):=by
 cases f with
 | true=>exact .full es xs
 | false=>exact .refl _
theorem weak_big (b f:Bool) (xs:List AV):Weak (.agg [.bool b,.vec f 1 xs]) (.agg [.bool b,.vec false 1 xs]):=by
 refine .agg _ _ rfl fun i x y hx hy => ?_
 match i with
 | 0=>simp at hx hy;subst hx;subst hy;exact .refl _
 | 1=>simp at hx hy;subst hx;subst hy;exact ZcN _ _ _
 | i+2=>simp at hx
theorem ZbC (v:Int):(O.Zag v).length=O.cnt v.natAbs:=Zf1 _
theorem Zat {v:Int}:O.Zac v=true ↔ v<0:=decide_eq_true_iff
theorem sg_limI (s:Bool) (v:Nat):O.Zag (O.sg s v)=O.lim v:=by
 unfold O.Zag O.sg
 cases s <;> simp
theorem sg_neg (s:Bool) (v:Nat):O.Zac (O.sg s v)=(bif s then decide (v ≠ 0) else false):=by
 unfold O.Zac O.sg
 cases s with
 | true =>
  rw [if_pos rfl,cond_true,decide_eq_decide];omega
 | false =>
  rw [if_neg (by simp),cond_false];simp
theorem big_sg (f s:Bool) (v:Nat):bigA f (O.sg s v) = .agg [.bool (bif s then decide (v ≠ 0) else false),.vec f 1 ((O.lim v).map (.int .u32))]:=by
 show AV.agg [.bool (O.Zac (O.sg s v)),.vec f 1 ((O.Zag (O.sg s v)).map (.int .u32))]=_
 rw [sg_limI,sg_neg]
theorem limN_top {k v:Nat} (h:O.fits (k+1) v):(O.Zay (k+1) v).getD k default=0 ↔ O.fits k v:=by
 rw [ZaO v (by omega),Zet]
 have:=Zcj h
 generalize v / 1000000000 ^ k=t at this
 omega
theorem loopTrim:∀ (k:Nat) (fa:Bool) (v:Nat),k<=1000000->O.fits k v->Zc5 fa (O.Zay k v) (Zaf (usA false (O.lim v)))
 | 0,fa,v,hk,hf=>by
  have h0:=Zbx.1 hf
  subst h0
  rw [Zek]
  have hl:=Zav 0 0
  exact vTrimA _ _ _ ⟨by omega,fun h=>by omega,fun h=>by omega,fun h=>by omega,fun _=>ZcN _ _ _⟩
 | k+1,fa,v,hk,hf=>by
  have hl:=Zav (k+1) v
  have e1:(((O.Zay (k+1) v).length:Int)-1).toNat=k:=by omega
  refine vTrimA _ _ _ ⟨by omega,fun _=>by omega,fun _=>by omega,fun h => ?_,fun h => ?_⟩
  ·rw [e1] at h ⊢
   have h2:=(limN_top hf).1 h.2
   refine ⟨by omega,by omega,by omega,?_⟩
   rw [List.drop_zero,limN_take]
   exact loopTrim k _ v (by omega) h2
  ·rw [e1] at h
   have h2:¬O.fits k v:=fun x=>h ⟨by omega,(limN_top hf).2 x⟩
   rw [lim_of hf (.inr (by simpa using h2))]
   exact ZcN _ _ _
theorem trimN (fa:Bool) (k v:Nat) (h:O.Za7 k/\O.fits k v):Ev M1 (.pure 101 [usA fa (O.Zay k v)]) (usA false (O.lim v)) []:=
 call101 (vTrim _ _ _ (loopTrim k fa v h.1 h.2))
theorem Zg5 (s fa:Bool) (k v:Nat) (hk:k<=1000000):∀ (n:Nat),n<=k->O.fits n v->Zcp s fa (O.Zay k v) n (Zaf (bigA false (O.sg s v)))
 | 0,hn,hf=>by
  have h0:=Zbx.1 hf
  subst h0
  refine vSignedA _ _ _ _ _ ⟨by omega,fun h=>by omega,fun h=>by omega,fun h=>by omega,fun _=>⟨by omega,by omega,by omega,by omega,?_⟩⟩
  rw [big_sg,Zek]
  have e:(bif s then decide ((0:Int)>0) else false)=(bif s then decide (0 ≠ 0) else false):=by cases s <;> simp
  rw [show ((0:Nat):Int)=0 from rfl,e]
  exact weak_big _ _ _
 | n+1,hn,hf=>by
  have hl:=Zav k v
  have e1:(((n+1:Nat):Int)-1).toNat=n:=by omega
  have e2:((n+1:Nat):Int)-1=(n:Nat):=by omega
  have top:(O.Zay k v).getD n default=0 ↔ O.fits n v:=by
   rw [ZaO v (by omega),Zet]
   have:=Zcj hf
   generalize v / 1000000000 ^ n=t at this
   omega
  refine vSignedA _ _ _ _ _ ⟨by omega,fun _=>by omega,fun _=>by omega,fun h => ?_,fun h => ?_⟩
  ·rw [e1] at h
   rw [e2]
   exact Zg5 s fa k v hk n (by omega) (top.1 h.2)
  ·rw [e1] at h
   have h2:¬O.fits n v:=fun x=>h ⟨by omega,top.2 x⟩
   have hv:v ≠ 0:=by rintro rfl;exact h2 (ZaJ.2 (by rw [Zb1];omega))
   refine ⟨by omega,by omega,by omega,by omega,?_⟩
   have hc:O.cnt v=n+1:=by
    have a:=ZaJ.1 hf
    have b:¬O.cnt v<=n:=fun x=>h2 (ZaJ.2 x)
    omega
   rw [big_sg,Int.toNat_natCast,List.drop_zero,<- hc,lim_limN (Zb8 hf hn),hc]
   have e:(bif s then decide (((n+1:Nat):Int)>0) else false)=(bif s then decide (v ≠ 0) else false):=by
    have:((n+1:Nat):Int)>0:=by omega
    cases s <;> simp [hv]
   rw [e]
   exact weak_big _ _ _
theorem signedN (s fa:Bool) (k v:Nat) (h:O.Za7 k/\O.fits k v):Ev M1 (.pure 84 [.bool s,usA fa (O.Zay k v)]) (bigA false (O.sg s v)) []:=by
 refine call84 (vSigned _ _ _ _ ?_)
 rw [Zav]
 exact Zg5 s fa k v h.1 k (Nat.le_refl _) h.2
theorem ev84 (s fa:Bool) (k v:Nat) (h:O.Za7 k/\O.fits k v):Ev M1 (.pure 84 [.bool s,usA fa (O.Zay k v)]) (bigA false (O.sg s v)) []:=signedN s fa k v h
theorem ev84_a (s fa:Bool) (v:Int) (h:O.ok v):Ev M1 (.pure 84 [.bool s,usA fa (O.Zag v)]) (bigA false (O.sg s v.natAbs)) []:=signedN s fa _ _ ⟨h,Zau _⟩
theorem ev85 (u:Int) (h:0<=u/\u<=18446744073709551615):Ev M1 (.pure 85 [.int .u64 u]) (usA false (O.Zay 3 u.toNat)) []:=by
 have e1:u.tmod 1000000000=u % 1000000000:=Int.tmod_eq_emod_of_nonneg h.1
 have e2:u.tdiv 1000000000=u / 1000000000:=Int.tdiv_eq_ediv_of_nonneg h.1
 have e3:(u / 1000000000).tmod 1000000000=(u / 1000000000) % 1000000000:=Int.tmod_eq_emod_of_nonneg (by omega)
 have e4:(u / 1000000000).tdiv 1000000000=(u / 1000000000) / 1000000000:=Int.tdiv_eq_ediv_of_nonneg (by omega)
 refine call85 (vSplit u _ ?_)
 rw [e1,e2,e3,e4]
 refine ⟨by omega,by omega,by omega,by omega,by omega,?_⟩
 have e:[AV.int .u32 (u % 1000000000),AV.int .u32 (u / 1000000000 % 1000000000),AV.int .u32 (u / 1000000000 / 1000000000)]=(O.Zay 3 u.toNat).map (.int .u32):=by
  simp only [O.Zay,List.map_cons,List.map_nil]
  have a1:((u.toNat % 1000000000:Nat):Int)=u % 1000000000:=by omega
  have a2:((u.toNat / 1000000000 % 1000000000:Nat):Int)=u / 1000000000 % 1000000000:=by omega
  have a3:((u.toNat / 1000000000 / 1000000000 % 1000000000:Nat):Int)=u / 1000000000 / 1000000000:=by omega
  rw [a1,a2,a3]
 rw [e]
 exact ZcN _ _ _
theorem ev86 (fa:Bool) (v:Int):Ev M1 (.pure 86 [bigA fa v]) (.int .i64 (O.sgnI v)) []:=by
 have hl:=ZbC v
 refine call86 (vSign fa v _ ⟨fun h => ?_,fun h=>⟨fun k => ?_,fun k => ?_⟩⟩)
 ·rw [Zat] at h
  rw [O.sgnI,if_pos h]
 ·rw [Zat] at h
  have:v.natAbs ≠ 0:=fun e=>by rw [hl,e,Zb1] at k;omega
  rw [O.sgnI,if_neg h,if_pos (by omega)]
 ·rw [Zat] at h
  have:v.natAbs=0:=Za5.1 (by omega)
  rw [O.sgnI,if_neg h,if_neg (by omega)]
end Go.Av

namespace Go.Av
open Go.Proofs
namespace O
def cb (n:Int):Prop:=-50000000<=n/\n<=50000000
def nb (n:Int):Prop:=-1000000000<=n/\n<=1000000000
def cb4 (a b c d:Int):Prop:=cb a/\cb b/\cb c/\cb d
def nb4 (a b c d:Int):Prop:=nb a/\nb b/\nb c/\nb d
def cb6 (a b c d x y:Int):Prop:=cb4 a b c d/\cb x/\cb y
def fr1 (n:Int):Prop:=n>10000000\/n < -10000000
end O
instance (n:Int):Decidable (O.fr1 n):=by unfold O.fr1;infer_instance
instance (a b c d x y:Int):Decidable (O.insB a b c d x y):=by unfold O.insB;infer_instance
theorem mul_bd {a b:Int} (ha:O.nb a) (hb:O.nb b):-1000000000000000000<=a*b/\a*b<=1000000000000000000:=by
 unfold O.nb at ha hb
 have h:=Int.natAbs_mul a b
 have:a.natAbs*b.natAbs<=1000000000*1000000000:=Nat.mul_le_mul (by omega) (by omega)
 omega
theorem ev35 (a b c d:Int) (h:O.nb4 a b c d):Ev M1 (.pure 35 [.agg [.int .i64 a,.int .i64 b],.agg [.int .i64 c,.int .i64 d]]) (.bool (O.less ⟨a,b⟩ ⟨c,d⟩)) []:=by
 have h1:=mul_bd h.1 h.2.2.2
 have h2:=mul_bd h.2.2.1 h.2.1
 exact call35 (qLess _ _ _ _ _ ⟨by omega,by omega,rfl⟩)
theorem ev47 (a b c d:Int) (h:O.cb4 a b c d):Ev M1 (.pure 47 [.agg [.int .i64 a,.int .i64 b],.agg [.int .i64 c,.int .i64 d]]) (.int .i64 (O.gap ⟨a,b⟩ ⟨c,d⟩)) []:=by
 unfold O.cb4 O.cb at h
 refine call47 (qGap _ _ _ _ _ ⟨by omega,by omega,by omega,by omega,congrArg (AV.int .i64) ?_⟩)
 show _=max (max (max (a-c) (c-a)) (b-d)) (d-b)
 split <;> split <;> (try split) <;> omega
theorem ev50 (x y z:Int):Ev M1 (.pure 50 [.agg [.int .i64 x,.int .i64 y,.int .i64 z]]) (.agg [.int .i64 x,.int .i64 y]) []:=call50 (qFlat _ _ _ _ rfl)
theorem ev56 (x y z:Int):Ev M1 (.pure 56 [.agg [.int .i64 x,.int .i64 y,.int .i64 z]]) (.agg [.int .i64 x,.int .i64 y]) []:=call56 (qFlatR _ _ _ _ rfl)
theorem dec_or {p q:Prop} [Decidable p] [Decidable q] [Decidable (p\/q)]:(bif decide p then true else decide q)=decide (p\/q):=by
 by_cases h:p
 ·rw [decide_eq_true h,decide_eq_true (show p\/q from .inl h)];rfl
 ·by_cases k:q
  ·rw [decide_eq_false h,decide_eq_true k,decide_eq_true (show p\/q from .inr k)];rfl
  ·rw [decide_eq_false h,decide_eq_false k,decide_eq_false (show ¬(p\/q) from fun x=>x.elim h k)];rfl
theorem Za0 {p q:Prop} [Decidable p] [Decidable q] [Decidable (p/\q)]:(bif decide p then decide q else false)=decide (p/\q):=by
 by_cases h:p
 ·by_cases k:q
  ·rw [decide_eq_true h,decide_eq_true k,decide_eq_true (show p/\q from ⟨h,k⟩)];rfl
  ·rw [decide_eq_true h,decide_eq_false k,decide_eq_false (show ¬(p/\q) from fun x=>k x.2)];rfl
 ·rw [decide_eq_false h,decide_eq_false (show ¬(p/\q) from fun x=>h x.1)];rfl
theorem ZbU {p q:Prop} [Decidable p] [Decidable q] (h:p ↔ q):decide p=decide q:=by
 by_cases k:q
 ·rw [decide_eq_true k,decide_eq_true (h.2 k)]
 ·rw [decide_eq_false k,decide_eq_false fun x=>k (h.1 x)]
theorem ev45 (n:Int):Ev M1 (.pure 45 [.int .i64 n]) (.bool (decide (O.fr1 n))) []:=
 call45 (qFarR _ _ (congrArg AV.bool (by rw [dec_or];exact ZbU Iff.rfl)))
theorem ev36 (x0 y0 x1 y1 tp x y:Int):Ev M1 (.pure 36 [.agg [.int .i64 x0,.int .i64 y0,.int .i64 x1,.int .i64 y1,.int .i64 tp],.agg [.int .i64 x,.int .i64 y]]) (.bool (decide (O.insB x0 y0 x1 y1 x y))) []:=
 call36 (qIns _ _ _ _ _ _ _ _ (congrArg AV.bool (by rw [Za0,Za0,Za0];exact ZbU (by unfold O.insB;omega))))
theorem ev23 (x y:Int):Ev M1 (.pure 23 [.int .i64 x,.int .i64 y]) (.agg [.int .i64 x,.int .i64 y]) []:=call23 (qAt _ _ _ rfl)
theorem far_loop {f:Bool} {l:List Int} (hn:l.length<=1000) (m:Nat):∀ i:Nat,i+m=l.length->Zed f l l.length i (Zaf (.bool ((l.drop i).any fun n=>decide (O.fr1 n)))):=by
 induction m with
 | zero =>
  intro i e
  refine qFarA _ _ _ _ _ ⟨fun x=>by omega,fun _ => ?_⟩
  rw [List.drop_eq_nil_of_le (by omega)];rfl
 | succ m ih =>
  intro i e
  have hi:i<l.length:=by omega
  have nx:=ih (i+1) (by omega)
  refine qFarA _ _ _ _ _ ⟨fun x=>⟨by omega,by omega,fun k => ?_,fun k=>⟨by omega,?_⟩⟩,fun x=>by omega⟩
  ·rw [Int.toNat_natCast] at k
   rw [ZaH hi,List.any_cons,show decide (O.fr1 (l.getD i default))=true from decide_eq_true k];rfl
  ·rw [Int.toNat_natCast] at k
   rw [ZaH hi,List.any_cons,show decide (O.fr1 (l.getD i default))=false from decide_eq_false k,Bool.false_or]
   exact nx
theorem ev40 (f:Bool) (l:List Int) (h:l.length<=1000):Ev M1 (.pure 40 [.vec f 1 (l.map (.int .i64))]) (.bool (l.any fun n=>decide (O.fr1 n))) []:=by
 have:=far_loop (f:=f) h l.length 0 (by omega)
 exact call40 (qFar _ _ _ this)
theorem any_cons {p:Prop} [Decidable p] {l:List Int} {a:Int} (h:p ↔ O.fr1 a\/(l.any fun n=>decide (O.fr1 n))=true):decide p=(a::l).any fun n=>decide (O.fr1 n):=by
 rw [List.any_cons,Bool.eq_iff_iff,decide_eq_true_iff,h,Bool.or_eq_true,decide_eq_true_iff]
namespace O
def fr4 (a b c d:Int):Prop:=fr1 a\/fr1 b\/fr1 c\/fr1 d
def fr7 (a b c d e f g:Int):Prop:=fr4 a b c d\/fr1 e\/fr1 f\/fr1 g
def fr8 (a b c d e f g h:Int):Prop:=fr4 a b c d\/fr4 e f g h
end O
instance (a b c d:Int):Decidable (O.fr4 a b c d):=by unfold O.fr4;infer_instance
instance (a b c d e f g:Int):Decidable (O.fr7 a b c d e f g):=by unfold O.fr7;infer_instance
instance (a b c d e f g h:Int):Decidable (O.fr8 a b c d e f g h):=by unfold O.fr8;infer_instance
theorem ev40_d (v:Bool) (a b c d:Int):Ev M1 (.pure 40 [.vec v 1 [.int .i64 a,.int .i64 b,.int .i64 c,.int .i64 d]]) (.bool (decide (O.fr4 a b c d))) []:=by
 have h:=ev40 v [a,b,c,d] (by simp)
 rw [<- any_cons (p:=O.fr4 a b c d) (by simp [O.fr4])] at h
 exact h
theorem ev40_h (v:Bool) (a b c d e f g h:Int):Ev M1 (.pure 40 [.vec v 1 [.int .i64 a,.int .i64 b,.int .i64 c,.int .i64 d,.int .i64 e,.int .i64 f,.int .i64 g,.int .i64 h]]) (.bool (decide (O.fr8 a b c d e f g h))) []:=by
 have k:=ev40 v [a,b,c,d,e,f,g,h] (by simp)
 rw [<- any_cons (p:=O.fr8 a b c d e f g h) (by simp [O.fr8,O.fr4,or_assoc])] at k
 exact k
end Go.Av

namespace Go.Av
open Go.Proofs
set_option maxRecDepth 100000
def fi18:Fi:=⟨24,[.tmp 2]⟩
def kp18:List (Nat × List Nat):=[(0,[0]),(1,[0,3]),(2,[0,3,4]),(3,[0,3,4,8]),(4,[0,3,4]),(5,[0,3,4]),(6,[2])]
def fi33:Fi:=⟨10,[.cell 4 68]⟩
def kp33:List (Nat × List Nat):=[(0,[2,3,4]),(1,[2,3,4,7]),(2,[4]),(3,[4])]
def fi34:Fi:=⟨10,[.cell 4 68]⟩
def kp34:List (Nat × List Nat):=[(0,[2,3,4]),(1,[2,3,4,7]),(2,[4]),(3,[4])]
def fi55:Fi:=⟨16,[.tmp 2]⟩
def kp55:List (Nat × List Nat):=[(0,[1]),(1,[2])]
def qLater_at (a b c d:Int) (Q:AV->Heap->Prop):Prop:=Wp M1 (.run fi33 (atC (cd Try.f33) []) [(0,.agg [.int .i64 a,.int .i64 b]),(1,.agg [.int .i64 c,.int .i64 d])] []) Q
def qEarl_at (a b c d:Int) (Q:AV->Heap->Prop):Prop:=Wp M1 (.run fi34 (atC (cd Try.f34) []) [(0,.agg [.int .i64 a,.int .i64 b]),(1,.agg [.int .i64 c,.int .i64 d])] []) Q
def qLen_at (f:Bool) (l:List Gp) (Q:AV->Heap->Prop):Prop:=Wp M1 (.run fi18 (atC (cd Try.f18) []) [(0,.vec f 2 (l.map Gp.a))] []) Q
def Zd9 (f:Bool) (l:List Gp) (s i:Int) (Q:AV->Heap->Prop):Prop:=Wp M1 (.run fi18 (atC (cd Try.f18) [1,1,0,1,0,0]) [(0,.vec f 2 (l.map Gp.a)),(3,.int .i64 s),(4,.int .i64 i)] []) Q
def qOut_at (x y z:Int) (Q:AV->Heap->Prop):Prop:=Wp M1 (.run fi55 (atC (cd Try.f55) []) [(0,.agg [.int .i64 x,.int .i64 y,.int .i64 z])] []) Q
theorem call18 {args:List AV} {d:AV} (h:wc M1 fi18 Try.f18 args d):Ev M1 (.pure 18 args) d []:=pcl _ _ (by kernel_rfl) h
theorem call33 {args:List AV} {d:AV} (h:wc M1 fi33 Try.f33 args d):Ev M1 (.pure 33 args) d []:=pcl _ _ (by kernel_rfl) h
theorem call34 {args:List AV} {d:AV} (h:wc M1 fi34 Try.f34 args d):Ev M1 (.pure 34 args) d []:=pcl _ _ (by kernel_rfl) h
theorem call55 {args:List AV} {d:AV} (h:wc M1 fi55 Try.f55 args d):Ev M1 (.pure 55 args) d []:=pcl _ _ (by kernel_rfl) h
theorem qLater (a b c d:Int)  (dq:AV) (H :
  (O.nb4 a b c d) /\
  ((O.less { num:=a,den:=b } { num:=c,den:=d } = true)->ag [vi c,vi d]=dq) /\
  (¬(O.less { num:=a,den:=b } { num:=c,den:=d } = true)->ag [vi a,vi b]=dq)) :
 qLater_at a b c d (Zaf dq):=by
 unfold qLater_at
 obtain ⟨k1,H⟩:=H
 refine Zae (G:=Zad kp33 [(1,2,.call (vb (O.less { num:=a,den:=b } { num:=c,den:=d })) none)] []) 5 [] ⟨(atC (cd Try.f33) [1,0,1]),[(2,AV.ptr 0 0 0 0),(3,AV.ptr 1 0 0 0),(4,AV.ptr 2 0 0 0),(7,vb (O.less { num:=a,den:=b } { num:=c,den:=d }))],[⟨[ag [vi a,vi b]],2,0,false,false⟩,⟨[ag [vi c,vi d]],2,0,false,false⟩,⟨[ag [vi 0,vi 0]],2,0,false,false⟩],_,[],_⟩ (by kernel_rfl) (bc rfl (bc rfl b0)) q0 (ce (@ev35 a b c d k1) c0) ?_
 rcases xq H with ⟨d3,H⟩|⟨d3,H⟩
 ·exact Zai (G:=Zad kp33 [] []) 1000 [true] (asm:=[(O.less { num:=a,den:=b } { num:=c,den:=d })==true,true,true]) (ag [vi c,vi d]) (by kernel_rfl) (bc (Zak ((ZaI _).2 d3)) (bc rfl (bc rfl b0))) q0 c0 H
 ·exact Zai (G:=Zad kp33 [] []) 1000 [false] (asm:=[(O.less { num:=a,den:=b } { num:=c,den:=d })==false,true,true]) (ag [vi a,vi b]) (by kernel_rfl) (bc (Zah (fun h=>d3 ((ZaI _).1 h))) (bc rfl (bc rfl b0))) q0 c0 H
theorem qEarl (a b c d:Int)  (dq:AV) (H :
  (O.nb4 c d a b) /\
  ((O.less { num:=c,den:=d } { num:=a,den:=b } = true)->ag [vi c,vi d]=dq) /\
  (¬(O.less { num:=c,den:=d } { num:=a,den:=b } = true)->ag [vi a,vi b]=dq)) :
 qEarl_at a b c d (Zaf dq):=by
 unfold qEarl_at
 obtain ⟨k1,H⟩:=H
 refine Zae (G:=Zad kp34 [(1,2,.call (vb (O.less { num:=c,den:=d } { num:=a,den:=b })) none)] []) 5 [] ⟨(atC (cd Try.f34) [1,0,1]),[(2,AV.ptr 0 0 0 0),(3,AV.ptr 1 0 0 0),(4,AV.ptr 2 0 0 0),(7,vb (O.less { num:=c,den:=d } { num:=a,den:=b }))],[⟨[ag [vi a,vi b]],2,0,false,false⟩,⟨[ag [vi c,vi d]],2,0,false,false⟩,⟨[ag [vi 0,vi 0]],2,0,false,false⟩],_,[],_⟩ (by kernel_rfl) (bc rfl (bc rfl b0)) q0 (ce (@ev35 c d a b k1) c0) ?_
 rcases xq H with ⟨d3,H⟩|⟨d3,H⟩
 ·exact Zai (G:=Zad kp34 [] []) 1000 [true] (asm:=[(O.less { num:=c,den:=d } { num:=a,den:=b })==true,true,true]) (ag [vi c,vi d]) (by kernel_rfl) (bc (Zak ((ZaI _).2 d3)) (bc rfl (bc rfl b0))) q0 c0 H
 ·exact Zai (G:=Zad kp34 [] []) 1000 [false] (asm:=[(O.less { num:=c,den:=d } { num:=a,den:=b })==false,true,true]) (ag [vi a,vi b]) (by kernel_rfl) (bc (Zah (fun h=>d3 ((ZaI _).1 h))) (bc rfl (bc rfl b0))) q0 c0 H
theorem qLen (f:Bool) (l:List Gp)  (dq:AV) (H :
  Zd9 f l 0 1 (Zaf dq)) :
 qLen_at f l (Zaf dq):=by
 unfold qLen_at
 exact Zae (G:=Zad kp18 [] []) 1000 [] ⟨(atC (cd Try.f18) [1,1,0,1,0,0]),[(0,AV.vec f 2 (List.map Gp.a l)),(3,vi 0),(4,vi 1)],[],_,[],_⟩ (by kernel_rfl) b0 q0 c0 H
theorem qLenA (f:Bool) (l:List Gp) (s i:Int)  (dq:AV) (H :
  ((i<(↑l.length:Int))->(-9223372036854775808<=i-1/\i-1<=9223372036854775807) /\
   (O.cb4 (l.getD (i-1).toNat default).x (l.getD (i-1).toNat default).y (l.getD i.toNat default).x (l.getD i.toNat default).y) /\
   (0<=i-1) /\
   ((i-1).toNat<l.length) /\
   (0<=i) /\
   (i.toNat<l.length) /\
   (-9223372036854775808<=s+O.gap { x:=(l.getD (i-1).toNat default).x,y:=(l.getD (i-1).toNat default).y } { x:=(l.getD i.toNat default).x,y:=(l.getD i.toNat default).y } /\ s+O.gap { x:=(l.getD (i-1).toNat default).x,y:=(l.getD (i-1).toNat default).y } { x:=(l.getD i.toNat default).x,y:=(l.getD i.toNat default).y } <= 9223372036854775807) /\
   (-9223372036854775808<=i+1/\i+1<=9223372036854775807) /\
   Zd9 f l (s+O.gap { x:=(l.getD (i-1).toNat default).x,y:=(l.getD (i-1).toNat default).y } { x:=(l.getD i.toNat default).x,y:=(l.getD i.toNat default).y }) (i+1) (Zaf dq)) /\
  (¬(i<(↑l.length:Int))->vi s=dq)) :
 Zd9 f l s i (Zaf dq):=by
 unfold Zd9
 have w1:(List.map Gp.a l).length=l.length:=List.length_map ..
 have i2:(decide (i<(↑(List.map Gp.a l).length:Int)))=true ↔ (i<(↑l.length:Int)):=(by (try rw [w1]);all_goals exact Zab)
 rcases xq H with ⟨d3,H⟩|⟨d3,H⟩
 ·obtain ⟨k4,H⟩:=H
  have w5:wi (i-1)=i-1:=wI64 k4
  obtain ⟨k6,H⟩:=H
  have i7:(decide (0<=wi (i-1)))=true ↔ (0<=i-1):=(by (try rw [w5]);all_goals exact Zab)
  obtain ⟨k8,H⟩:=H
  have i9:(decide ((wi (i-1)).toNat<(List.map Gp.a l).length))=true ↔ ((i-1).toNat<l.length):=(by (try rw [w1]);(try rw [w5]);all_goals exact Zab)
  obtain ⟨k10,k12,H⟩:=H
  have i13:(decide (i.toNat<(List.map Gp.a l).length))=true ↔ (i.toNat<l.length):=(by (try rw [w1]);all_goals exact Zab)
  obtain ⟨k14,k15,H⟩:=H
  have w16:wi (s+O.gap { x:=(l.getD (i-1).toNat default).x,y:=(l.getD (i-1).toNat default).y } { x:=(l.getD i.toNat default).x,y:=(l.getD i.toNat default).y })=s+O.gap { x:=(l.getD (i-1).toNat default).x,y:=(l.getD (i-1).toNat default).y } { x:=(l.getD i.toNat default).x,y:=(l.getD i.toNat default).y }:=wI64 k15
  obtain ⟨k17,H⟩:=H
  have w18:wi (i+1)=i+1:=wI64 k17
  exact Zae (G:=Zad kp18 [(5,5,.elem (ag [vi (l.getD (i-1).toNat default).x,vi (l.getD (i-1).toNat default).y])),(5,9,.elem (ag [vi (l.getD i.toNat default).x,vi (l.getD i.toNat default).y])),(5,10,.call (vi (O.gap { x:=(l.getD (i-1).toNat default).x,y:=(l.getD (i-1).toNat default).y } { x:=(l.getD i.toNat default).x,y:=(l.getD i.toNat default).y })) none)] []) 1000 [true] ⟨(atC (cd Try.f18) [1,1,0,1,0,0]),[(0,AV.vec f 2 (List.map Gp.a l)),(3,vi (wi (s+O.gap { x:=(l.getD (i-1).toNat default).x,y:=(l.getD (i-1).toNat default).y } { x:=(l.getD i.toNat default).x,y:=(l.getD i.toNat default).y }))),(4,vi (wi (i+1)))],[],_,[((List.map Gp.a l).get?Internal (wi (i-1)).toNat=some (ag [vi (l.getD (i-1).toNat default).x,vi (l.getD (i-1).toNat default).y])),((List.map Gp.a l).get?Internal i.toNat=some (ag [vi (l.getD i.toNat default).x,vi (l.getD i.toNat default).y]))],_⟩ (by kernel_rfl) (bc (Zak (i2.2 d3)) (bc (i7.2 k8) (bc (i9.2 k10) (bc (Zab.2 k12) (bc (i13.2 k14) b0))))) (qc (by (try rw [w5]);all_goals exact (Zal k10)) (qc (Zal k14) q0)) (ce (@ev47 ((l.getD (i-1).toNat default).x) ((l.getD (i-1).toNat default).y) ((l.getD i.toNat default).x) ((l.getD i.toNat default).y) k6) c0) (by (try rw [w16]);(try rw [w18]);all_goals exact H)
 ·exact Zai (G:=Zad kp18 [] []) 1000 [false] (vi s) (by kernel_rfl) (bc (Zah (fun h=>d3 (i2.1 h))) b0) q0 c0 H
theorem qOut (x y z:Int)  (dq:AV) (H :
  vb (bif bif decide (O.fr1 x) then true else decide (O.fr1 y) then true else decide (O.fr1 z))=dq) :
 qOut_at x y z (Zaf dq):=by
 unfold qOut_at
 exact Zai (G:=Zad kp55 [(1,2,.call (vb (decide (O.fr1 x))) none),(1,6,.call (vb (decide (O.fr1 y))) none),(1,11,.call (vb (decide (O.fr1 z))) none)] []) 1000 [] (asm:=[true,!(decide (O.fr1 x)==false&&true)||true,!((bif decide (O.fr1 x) then true else decide (O.fr1 y))==false&&true)||true]) (calls:=[⟨true,false,45,[vi x],[],vb (decide (O.fr1 x)),[]⟩,⟨decide (O.fr1 x)==false&&true&&true,false,45,[vi y],[],vb (decide (O.fr1 y)),[]⟩,⟨(bif decide (O.fr1 x) then true else decide (O.fr1 y))==false&&true&&true,false,45,[vi z],[],vb (decide (O.fr1 z)),[]⟩]) (vb (bif bif decide (O.fr1 x) then true else decide (O.fr1 y) then true else decide (O.fr1 z))) (by kernel_rfl) (bc rfl (bc (Bool.or_true _) (bc (Bool.or_true _) b0))) q0 (cc (fun _=>(@ev45 x)) (cc (fun hc=>((@ev45 y):Ev M1 (Conf.pure 45 [vi y]) (vb (decide (O.fr1 y))) [])) (cc (fun hc=>((@ev45 z):Ev M1 (Conf.pure 45 [vi z]) (vb (decide (O.fr1 z))) [])) c0))) H
end Go.Av

namespace Go.Av
open Go.Proofs
theorem ev33 (a b c d:Int) (h:O.nb4 a b c d):Ev M1 (.pure 33 [.agg [.int .i64 a,.int .i64 b],.agg [.int .i64 c,.int .i64 d]]) (.agg [.int .i64 (O.ZbF ⟨a,b⟩ ⟨c,d⟩).num,.int .i64 (O.ZbF ⟨a,b⟩ ⟨c,d⟩).den]) []:=by
 refine call33 (qLater _ _ _ _ _ ⟨h,fun k => ?_,fun k => ?_⟩)
 ·unfold O.ZbF;rw [k];rfl
 ·unfold O.ZbF;rw [show O.less ⟨a,b⟩ ⟨c,d⟩=false by simpa using k];rfl
theorem ev34 (a b c d:Int) (h:O.nb4 a b c d):Ev M1 (.pure 34 [.agg [.int .i64 a,.int .i64 b],.agg [.int .i64 c,.int .i64 d]]) (.agg [.int .i64 (O.ZaM ⟨a,b⟩ ⟨c,d⟩).num,.int .i64 (O.ZaM ⟨a,b⟩ ⟨c,d⟩).den]) []:=by
 refine call34 (qEarl _ _ _ _ _ ⟨⟨h.2.2.1,h.2.2.2,h.1,h.2.1⟩,fun k => ?_,fun k => ?_⟩)
 ·unfold O.ZaM;rw [k];rfl
 ·unfold O.ZaM;rw [show O.less ⟨c,d⟩ ⟨a,b⟩=false by simpa using k];rfl
theorem ev55 (x y z:Int):Ev M1 (.pure 55 [.agg [.int .i64 x,.int .i64 y,.int .i64 z]]) (.bool (decide (O.fr1 x\/O.fr1 y\/O.fr1 z))) []:=
 call55 (qOut _ _ _ _ (congrArg AV.bool (by rw [dec_or,dec_or];exact ZbU or_assoc)))
namespace O
def cbp (p:Gp):Prop:=cb p.x/\cb p.y
def okG (l:List Gp):Prop:=l.length<=1000 /\ ∀ p ∈ l,cbp p
end O
theorem gap_bd {p q:Gp} (h:O.cbp p) (k:O.cbp q):O.gap p q<=100000000:=by
 unfold O.cbp O.cb at h k;unfold O.gap;omega
theorem plen_drop {l:List Gp} {k:Nat} (h:k+1<l.length):O.ZdF (l.drop k)=O.gap (l.getD k default) (l.getD (k+1) default)+O.ZdF (l.drop (k+1)):=by
 rw [ZaH (by omega:k<l.length),ZaH h];rfl
theorem plen_end {l:List Gp} {k:Nat} (h:¬k+1<l.length):O.ZdF (l.drop k)=0:=by
 by_cases e:k<l.length
 ·rw [ZaH e,List.drop_eq_nil_of_le (by omega)];rfl
 ·rw [List.drop_eq_nil_of_le (by omega)];rfl
theorem len_loop {f:Bool} {l:List Gp} (h:O.okG l) (m:Nat):∀ (k:Nat) (s:Int),l.length<=k+1+m->0<=s/\s<=k*100000000->Zd9 f l s ((k:Int)+1) (Zaf (.int .i64 (s+O.ZdF (l.drop k)))):=by
 have hn:=h.1
 induction m with
 | zero =>
  intro k s e hs
  refine qLenA _ _ _ _ _ ⟨fun x=>by omega,fun _ => ?_⟩
  rw [plen_end (by omega),Int.add_zero]
 | succ m ih =>
  intro k s e hs
  by_cases hk:k+1<l.length
  ·have hp:=h.2 _ (ZaZ (d:=l) (i:=k) (by omega))
   have hq:=h.2 _ (ZaZ (d:=l) (i:=k+1) hk)
   have g1:=gap_bd hp hq
   have g0:=ZdI (l.getD k default) (l.getD (k+1) default)
   have nx:=ih (k+1) (s+O.gap (l.getD k default) (l.getD (k+1) default)) (by omega) (by omega)
   refine qLenA _ _ _ _ _ ⟨fun x => ?_,fun x=>by omega⟩
   rw [show (k:Int)+1-1=(k:Nat) by omega,show (k:Int)+1=((k+1:Nat):Int) by omega,Int.toNat_natCast,Int.toNat_natCast,plen_drop hk,<- Int.add_assoc]
   have b1:-9223372036854775808<=s+O.gap (l.getD k default) (l.getD (k+1) default)/\s+O.gap (l.getD k default) (l.getD (k+1) default)<=9223372036854775807:=by omega
   exact ⟨by omega,⟨hp.1,hp.2,hq.1,hq.2⟩,by omega,by omega,by omega,by omega,b1,by omega,nx⟩
  ·refine qLenA _ _ _ _ _ ⟨fun x=>by omega,fun _ => ?_⟩
   rw [plen_end hk,Int.add_zero]
theorem ev18 (f:Bool) (l:List Gp) (h:O.okG l):Ev M1 (.pure 18 [.vec f 2 (l.map Gp.a)]) (.int .i64 (O.ZdF l)) []:=by
 have:=len_loop (f:=f) h l.length 0 0 (by omega) (by omega)
 rw [List.drop_zero,Int.zero_add] at this
 exact call18 (qLen _ _ _ this)
end Go.Av

namespace Go.Av
open Go.Proofs
set_option maxRecDepth 100000
def fi32:Fi:=⟨53,[.tmp 10]⟩
def kp32:List (Nat × List Nat):=[(0,[0,1,2,3,4,5]),(1,[0,1,2,3,4,5,14]),(2,[10]),(3,[0,1,2,3,4,5,11,12]),(4,[0,1,2,3,4,5,11,12,34]),(5,[4,5,11,12]),(6,[]),(7,[10])]
def qOpen_at (at_ w lo hi ln ld hn hd:Int) (Q:AV->Heap->Prop):Prop:=Wp M1 (.run fi32 (atC (cd Try.f32) []) [(0,.int .i64 at_),(1,.int .i64 w),(2,.int .i64 lo),(3,.int .i64 hi),(4,.ptr 0 0 0 0),(5,.ptr 1 0 0 0)] [⟨[.agg [.int .i64 ln,.int .i64 ld]],2,0,false,false⟩,⟨[.agg [.int .i64 hn,.int .i64 hd]],2,0,false,false⟩]) Q
theorem ZeO {args:List AV} {L:Heap} {v:AV} {K:Heap} (hk:ZbN L.length v K=true) (h:Wp M1 (.run fi32 [.code (cd Try.f32)] (ZaX 0 args) L) (Zbo v K)):Ev M1 (.own 32 args L) v K:=
 ZcA Try.f32 fi32 (by kernel_rfl) (by kernel_rfl) (by kernel_rfl) (by kernel_rfl) hk h
theorem qOpen (at_ w lo hi ln ld hn hd:Int)  (dv:AV) (dK:Heap) (_:ZbN 2 dv dK=true) (H :
  ((w=0)->(Zbo dv dK) (vb (bif decide (lo<at_) then decide (at_<hi) else false)) [{ elems:=[ag [vi ln,vi ld]],es:=2,ver:=0,frozen:=false,clean:=false },{ elems:=[ag [vi hn,vi hd]],es:=2,ver:=0,frozen:=false,clean:=false }]) /\
  (¬(w=0)->(-9223372036854775808<=lo-at_/\lo-at_<=9223372036854775807) /\
   (-9223372036854775808<=hi-at_/\hi-at_<=9223372036854775807) /\
   ((w<0)->(-9223372036854775808<=at_-hi/\at_-hi<=9223372036854775807) /\
    (-9223372036854775808<=0-w/\0-w<=9223372036854775807) /\
    (-9223372036854775808<=at_-lo/\at_-lo<=9223372036854775807) /\
    (O.nb4 ln ld (at_-hi) (0-w)) /\
    (O.nb4 hn hd (at_-lo) (0-w)) /\
    (Zbo dv dK) (vb true) [{ elems:=[ag [vi (O.ZbF { num:=ln,den:=ld } { num:=at_-hi,den:=0-w }).num,vi (O.ZbF { num:=ln,den:=ld } { num:=at_-hi,den:=0-w }).den]],es:=2,ver:=0,frozen:=false,clean:=false },{ elems:=[ag [vi (O.ZaM { num:=hn,den:=hd } { num:=at_-lo,den:=0-w }).num,vi (O.ZaM { num:=hn,den:=hd } { num:=at_-lo,den:=0-w }).den]],es:=2,ver:=0,frozen:=false,clean:=false },{ elems:=[ag [vi (at_-hi),vi (0-w)]],es:=2,ver:=0,frozen:=false,clean:=false },{ elems:=[ag [vi (at_-lo),vi (0-w)]],es:=2,ver:=0,frozen:=false,clean:=false }]) /\
   (¬(w<0)->(O.nb4 ln ld (lo-at_) w) /\
    (O.nb4 hn hd (hi-at_) w) /\
    (Zbo dv dK) (vb true) [{ elems:=[ag [vi (O.ZbF { num:=ln,den:=ld } { num:=lo-at_,den:=w }).num,vi (O.ZbF { num:=ln,den:=ld } { num:=lo-at_,den:=w }).den]],es:=2,ver:=0,frozen:=false,clean:=false },{ elems:=[ag [vi (O.ZaM { num:=hn,den:=hd } { num:=hi-at_,den:=w }).num,vi (O.ZaM { num:=hn,den:=hd } { num:=hi-at_,den:=w }).den]],es:=2,ver:=0,frozen:=false,clean:=false },{ elems:=[ag [vi (lo-at_),vi w]],es:=2,ver:=0,frozen:=false,clean:=false },{ elems:=[ag [vi (hi-at_),vi w]],es:=2,ver:=0,frozen:=false,clean:=false }]))) :
 qOpen_at at_ w lo hi ln ld hn hd (Zbo dv dK):=by
 unfold qOpen_at
 rcases xq H with ⟨d2,H⟩|⟨d2,H⟩
 ·exact Zax (G:=Zad kp32 [] []) 1000 [true] (k:=((atC (cd Try.f32) [1,0,1,0,1])).tail) (env':=[(10,vb (bif decide (lo<at_) then decide (at_<hi) else false))]) (L':=[⟨[ag [vi ln,vi ld]],2,0,false,false⟩,⟨[ag [vi hn,vi hd]],2,0,false,false⟩]) (asm:=[(w==0)==true]) (eqs:=[]) (calls:=[]) (vb (bif decide (lo<at_) then decide (at_<hi) else false)) (by kernel_rfl) (by kernel_rfl) (Zaa (Zak (i_eq.2 d2)) Zaj) Zan Zao H
 ·obtain ⟨k3,H⟩:=H
  have w4:wi (lo-at_)=lo-at_:=wI64 k3
  obtain ⟨k5,H⟩:=H
  have w6:wi (hi-at_)=hi-at_:=wI64 k5
  rcases xq H with ⟨d8,H⟩|⟨d8,H⟩
  ·obtain ⟨k9,H⟩:=H
   have w10:wi (at_-hi)=at_-hi:=wI64 k9
   obtain ⟨k11,H⟩:=H
   have w12:wi (0-w)=0-w:=wI64 k11
   obtain ⟨k13,H⟩:=H
   have w14:wi (at_-lo)=at_-lo:=wI64 k13
   obtain ⟨k15,k16,H⟩:=H
   exact Zax (G:=Zad kp32 [(6,2,.call (ag [vi (O.ZbF { num:=ln,den:=ld } { num:=at_-hi,den:=0-w }).num,vi (O.ZbF { num:=ln,den:=ld } { num:=at_-hi,den:=0-w }).den]) none),(6,5,.call (ag [vi (O.ZaM { num:=hn,den:=hd } { num:=at_-lo,den:=0-w }).num,vi (O.ZaM { num:=hn,den:=hd } { num:=at_-lo,den:=0-w }).den]) none)] []) 1000 [false,true] (k:=((atC (cd Try.f32) [1,1,1,1,1,1])).tail) (env':=[(10,vb true)]) (L':=[⟨[ag [vi (O.ZbF { num:=ln,den:=ld } { num:=at_-hi,den:=0-w }).num,vi (O.ZbF { num:=ln,den:=ld } { num:=at_-hi,den:=0-w }).den]],2,0,false,false⟩,⟨[ag [vi (O.ZaM { num:=hn,den:=hd } { num:=at_-lo,den:=0-w }).num,vi (O.ZaM { num:=hn,den:=hd } { num:=at_-lo,den:=0-w }).den]],2,0,false,false⟩,⟨[ag [vi (wi (at_-hi)),vi (wi (0-w))]],2,0,false,false⟩,⟨[ag [vi (wi (at_-lo)),vi (wi (0-w))]],2,0,false,false⟩]) (asm:=[(w==0)==false,true,true,(decide (w<0))==true,true,true,true,true,true,true,true,true]) (eqs:=[]) (calls:=[⟨true,false,33,[ag [vi ln,vi ld],ag [vi (wi (at_-hi)),vi (wi (0-w))]],[],ag [vi (O.ZbF { num:=ln,den:=ld } { num:=at_-hi,den:=0-w }).num,vi (O.ZbF { num:=ln,den:=ld } { num:=at_-hi,den:=0-w }).den],[]⟩,⟨true,false,34,[ag [vi hn,vi hd],ag [vi (wi (at_-lo)),vi (wi (0-w))]],[],ag [vi (O.ZaM { num:=hn,den:=hd } { num:=at_-lo,den:=0-w }).num,vi (O.ZaM { num:=hn,den:=hd } { num:=at_-lo,den:=0-w }).den],[]⟩]) (vb true) (by kernel_rfl) (by kernel_rfl) (Zaa (Zah (fun h=>d2 (i_eq.1 h))) (Zaa rfl (Zaa rfl (Zaa (Zak (Zab.2 d8)) (Zaa rfl (Zaa rfl (Zaa rfl (Zaa rfl (Zaa rfl (Zaa rfl (Zaa rfl (Zaa rfl Zaj)))))))))))) Zan (Zap (fun _=>(by (try rw [w10]);(try rw [w12]);all_goals exact (@ev33 ln ld (at_-hi) (0-w) k15))) (Zap (fun _=>(by (try rw [w12]);(try rw [w14]);all_goals exact (@ev34 hn hd (at_-lo) (0-w) k16))) Zao)) (by (try rw [w10]);(try rw [w12]);(try rw [w14]);all_goals exact H)
  ·obtain ⟨k17,k18,H⟩:=H
   exact Zax (G:=Zad kp32 [(6,2,.call (ag [vi (O.ZbF { num:=ln,den:=ld } { num:=lo-at_,den:=w }).num,vi (O.ZbF { num:=ln,den:=ld } { num:=lo-at_,den:=w }).den]) none),(6,5,.call (ag [vi (O.ZaM { num:=hn,den:=hd } { num:=hi-at_,den:=w }).num,vi (O.ZaM { num:=hn,den:=hd } { num:=hi-at_,den:=w }).den]) none)] []) 1000 [false,false] (k:=((atC (cd Try.f32) [1,1,1,1,1,1])).tail) (env':=[(10,vb true)]) (L':=[⟨[ag [vi (O.ZbF { num:=ln,den:=ld } { num:=lo-at_,den:=w }).num,vi (O.ZbF { num:=ln,den:=ld } { num:=lo-at_,den:=w }).den]],2,0,false,false⟩,⟨[ag [vi (O.ZaM { num:=hn,den:=hd } { num:=hi-at_,den:=w }).num,vi (O.ZaM { num:=hn,den:=hd } { num:=hi-at_,den:=w }).den]],2,0,false,false⟩,⟨[ag [vi (wi (lo-at_)),vi w]],2,0,false,false⟩,⟨[ag [vi (wi (hi-at_)),vi w]],2,0,false,false⟩]) (asm:=[(w==0)==false,true,true,(decide (w<0))==false,true,true,true,true,true,true]) (eqs:=[]) (calls:=[⟨true,false,33,[ag [vi ln,vi ld],ag [vi (wi (lo-at_)),vi w]],[],ag [vi (O.ZbF { num:=ln,den:=ld } { num:=lo-at_,den:=w }).num,vi (O.ZbF { num:=ln,den:=ld } { num:=lo-at_,den:=w }).den],[]⟩,⟨true,false,34,[ag [vi hn,vi hd],ag [vi (wi (hi-at_)),vi w]],[],ag [vi (O.ZaM { num:=hn,den:=hd } { num:=hi-at_,den:=w }).num,vi (O.ZaM { num:=hn,den:=hd } { num:=hi-at_,den:=w }).den],[]⟩]) (vb true) (by kernel_rfl) (by kernel_rfl) (Zaa (Zah (fun h=>d2 (i_eq.1 h))) (Zaa rfl (Zaa rfl (Zaa (Zah (fun h=>d8 (Zab.1 h))) (Zaa rfl (Zaa rfl (Zaa rfl (Zaa rfl (Zaa rfl (Zaa rfl Zaj)))))))))) Zan (Zap (fun _=>(by (try rw [w4]);all_goals exact (@ev33 ln ld (lo-at_) w k17))) (Zap (fun _=>(by (try rw [w6]);all_goals exact (@ev34 hn hd (hi-at_) w k18))) Zao)) (by (try rw [w4]);(try rw [w6]);all_goals exact H)
end Go.Av

namespace Go.Av
open Go.Proofs
namespace O
def okQo (at_ w lo hi ln ld hn hd:Int):Prop:=cb6 at_ w lo hi 0 0/\nb4 ln ld hn hd
end O
theorem open_c (at_ w lo hi ln ld hn hd:Int) (h:O.okQo at_ w lo hi ln ld hn hd) :
  Ev M1 (.own 32 [.int .i64 at_,.int .i64 w,.int .i64 lo,.int .i64 hi,.ptr 0 0 0 0,.ptr 1 0 0 0] [⟨[.agg [.int .i64 ln,.int .i64 ld]],2,0,false,false⟩,⟨[.agg [.int .i64 hn,.int .i64 hd]],2,0,false,false⟩])
   (.bool (O.ZeY at_ w lo hi)) [⟨[.agg [.int .i64 (O.ZaA at_ w lo hi ⟨ln,ld⟩).num,.int .i64 (O.ZaA at_ w lo hi ⟨ln,ld⟩).den]],2,0,false,false⟩,⟨[.agg [.int .i64 (O.ZaB at_ w lo hi ⟨hn,hd⟩).num,.int .i64 (O.ZaB at_ w lo hi ⟨hn,hd⟩).den]],2,0,false,false⟩]:=by
 obtain ⟨⟨⟨h1,h2,h3,h4⟩,_⟩,k1,k2,k3,k4⟩:=h
 unfold O.cb at h1 h2 h3 h4
 have N {n:Int} (h:-1000000000<=n/\n<=1000000000):O.nb n:=h
 by_cases k:w=0
 ·have e1:O.ZaA at_ w lo hi ⟨ln,ld⟩=⟨ln,ld⟩:=if_pos k
  have e2:O.ZaB at_ w lo hi ⟨hn,hd⟩=⟨hn,hd⟩:=if_pos k
  have e3:O.ZeY at_ w lo hi=decide (lo<at_/\at_<hi):=if_pos k
  rw [e1,e2,e3]
  refine ZeO rfl (qOpen at_ w lo hi ln ld hn hd _ _ rfl ⟨fun _=>⟨by rw [Za0],rfl⟩,fun j=>absurd k j⟩)
 ·have e3:O.ZeY at_ w lo hi=true:=if_neg k
  by_cases j:w<0
  ·have e1:O.ZaA at_ w lo hi ⟨ln,ld⟩=O.ZbF ⟨ln,ld⟩ ⟨at_-hi,0-w⟩:=by
    unfold O.ZaA O.Zgv;rw [if_neg k,if_pos j,Int.zero_sub]
   have e2:O.ZaB at_ w lo hi ⟨hn,hd⟩=O.ZaM ⟨hn,hd⟩ ⟨at_-lo,0-w⟩:=by
    unfold O.ZaB O.Zcw;rw [if_neg k,if_pos j,Int.zero_sub]
   rw [e1,e2,e3]
   exact ZeO rfl (qOpen at_ w lo hi ln ld hn hd _ _ rfl ⟨fun i=>absurd i k,fun _=>⟨by omega,by omega,fun _=>⟨by omega,by omega,by omega,⟨k1,k2,N (by omega),N (by omega)⟩,⟨k3,k4,N (by omega),N (by omega)⟩,rfl,rfl⟩,fun i=>absurd j i⟩⟩)
  ·have e1:O.ZaA at_ w lo hi ⟨ln,ld⟩=O.ZbF ⟨ln,ld⟩ ⟨lo-at_,w⟩:=by
    unfold O.ZaA O.Zgv;rw [if_neg k,if_neg j]
   have e2:O.ZaB at_ w lo hi ⟨hn,hd⟩=O.ZaM ⟨hn,hd⟩ ⟨hi-at_,w⟩:=by
    unfold O.ZaB O.Zcw;rw [if_neg k,if_neg j]
   rw [e1,e2,e3]
   exact ZeO rfl (qOpen at_ w lo hi ln ld hn hd _ _ rfl ⟨fun i=>absurd i k,fun _=>⟨by omega,by omega,fun i=>absurd i j,fun _=>⟨⟨k1,k2,N (by omega),N (by omega)⟩,⟨k3,k4,N (by omega),N (by omega)⟩,rfl,rfl⟩⟩⟩)
theorem evo32_y (at_ w lo hi ln ld hn hd:Int) (h:O.okQo at_ w lo hi ln ld hn hd) (c:O.ZeY at_ w lo hi=true) :
  Ev M1 (.own 32 [.int .i64 at_,.int .i64 w,.int .i64 lo,.int .i64 hi,.ptr 0 0 0 0,.ptr 1 0 0 0] [⟨[.agg [.int .i64 ln,.int .i64 ld]],2,0,false,false⟩,⟨[.agg [.int .i64 hn,.int .i64 hd]],2,0,false,false⟩])
   (.bool true) [⟨[.agg [.int .i64 (O.ZaA at_ w lo hi ⟨ln,ld⟩).num,.int .i64 (O.ZaA at_ w lo hi ⟨ln,ld⟩).den]],2,0,false,false⟩,⟨[.agg [.int .i64 (O.ZaB at_ w lo hi ⟨hn,hd⟩).num,.int .i64 (O.ZaB at_ w lo hi ⟨hn,hd⟩).den]],2,0,false,false⟩]:=by
 have h:=open_c at_ w lo hi ln ld hn hd h
 rw [c] at h;exact h
theorem evo32_n (at_ w lo hi ln ld hn hd:Int) (h:O.okQo at_ w lo hi ln ld hn hd) (c:¬O.ZeY at_ w lo hi=true) :
  Ev M1 (.own 32 [.int .i64 at_,.int .i64 w,.int .i64 lo,.int .i64 hi,.ptr 0 0 0 0,.ptr 1 0 0 0] [⟨[.agg [.int .i64 ln,.int .i64 ld]],2,0,false,false⟩,⟨[.agg [.int .i64 hn,.int .i64 hd]],2,0,false,false⟩])
   (.bool false) [⟨[.agg [.int .i64 (O.ZaA at_ w lo hi ⟨ln,ld⟩).num,.int .i64 (O.ZaA at_ w lo hi ⟨ln,ld⟩).den]],2,0,false,false⟩,⟨[.agg [.int .i64 (O.ZaB at_ w lo hi ⟨hn,hd⟩).num,.int .i64 (O.ZaB at_ w lo hi ⟨hn,hd⟩).den]],2,0,false,false⟩]:=by
 have h:=open_c at_ w lo hi ln ld hn hd h
 rw [show O.ZeY at_ w lo hi=false by simpa using c] at h;exact h
end Go.Av

namespace Go.Av
open Go.Proofs
set_option maxRecDepth 100000
def fi9:Fi:=⟨58,[.tmp 6]⟩
def kp9:List (Nat × List Nat):=[(0,[3,4,5]),(1,[3,4,5,21]),(2,[6]),(3,[3,4,5,7,8]),(4,[3,4,5,7,8,9]),(5,[7,8,54]),(6,[6]),(7,[6])]
def qEnt_at (x0 y0 x1 y1 tp ax ay bx by_:Int) (Q:AV->Heap->Prop):Prop:=Wp M1 (.run fi9 (atC (cd Try.f9) []) [(0,.agg [.int .i64 x0,.int .i64 y0,.int .i64 x1,.int .i64 y1,.int .i64 tp]),(1,.agg [.int .i64 ax,.int .i64 ay]),(2,.agg [.int .i64 bx,.int .i64 by_])] []) Q
theorem call9 {args:List AV} {d:AV} (h:wc M1 fi9 Try.f9 args d):Ev M1 (.pure 9 args) d []:=pcl _ _ (by kernel_rfl) h
noncomputable abbrev zNqD1:=ag [vi 0,vi 1]
noncomputable abbrev zNqD2:=ag [vi 1,vi 1]
noncomputable abbrev zNqD3 (x0:Int) (x1:Int) (y0:Int) (y1:Int):=bif decide (x0>=x1) then true else decide (y0>=y1)
theorem qEnt (x0 y0 x1 y1 tp ax ay bx by_:Int)  (dq:AV) (H :
  (((x0>=x1)\/(y0>=y1))->vb false=dq) /\
  (¬((x0>=x1)\/(y0>=y1))->(-9223372036854775808<=bx-ax/\bx-ax<=9223372036854775807) /\
   ((O.ZeY ax (bx-ax) x0 x1=true)->(O.okQo ax (bx-ax) x0 x1 0 1 1 1) /\
    (-9223372036854775808<=by_-ay/\by_-ay<=9223372036854775807) /\
    ((O.ZeY ay (by_-ay) y0 y1=true)->(O.okQo ay (by_-ay) y0 y1 (O.ZaA ax (bx-ax) x0 x1 { num:=0,den:=1 }).num (O.ZaA ax (bx-ax) x0 x1 { num:=0,den:=1 }).den (O.ZaB ax (bx-ax) x0 x1 { num:=1,den:=1 }).num (O.ZaB ax (bx-ax) x0 x1 { num:=1,den:=1 }).den) /\
     (O.nb4 (O.ZaA ay (by_-ay) y0 y1 { num:=(O.ZaA ax (bx-ax) x0 x1 { num:=0,den:=1 }).num,den:=(O.ZaA ax (bx-ax) x0 x1 { num:=0,den:=1 }).den }).num (O.ZaA ay (by_-ay) y0 y1 { num:=(O.ZaA ax (bx-ax) x0 x1 { num:=0,den:=1 }).num,den:=(O.ZaA ax (bx-ax) x0 x1 { num:=0,den:=1 }).den }).den (O.ZaB ay (by_-ay) y0 y1 { num:=(O.ZaB ax (bx-ax) x0 x1 { num:=1,den:=1 }).num,den:=(O.ZaB ax (bx-ax) x0 x1 { num:=1,den:=1 }).den }).num (O.ZaB ay (by_-ay) y0 y1 { num:=(O.ZaB ax (bx-ax) x0 x1 { num:=1,den:=1 }).num,den:=(O.ZaB ax (bx-ax) x0 x1 { num:=1,den:=1 }).den }).den) /\
     vb (O.less { num:=(O.ZaA ay (by_-ay) y0 y1 { num:=(O.ZaA ax (bx-ax) x0 x1 { num:=0,den:=1 }).num,den:=(O.ZaA ax (bx-ax) x0 x1 { num:=0,den:=1 }).den }).num,den:=(O.ZaA ay (by_-ay) y0 y1 { num:=(O.ZaA ax (bx-ax) x0 x1 { num:=0,den:=1 }).num,den:=(O.ZaA ax (bx-ax) x0 x1 { num:=0,den:=1 }).den }).den } { num:=(O.ZaB ay (by_-ay) y0 y1 { num:=(O.ZaB ax (bx-ax) x0 x1 { num:=1,den:=1 }).num,den:=(O.ZaB ax (bx-ax) x0 x1 { num:=1,den:=1 }).den }).num,den:=(O.ZaB ay (by_-ay) y0 y1 { num:=(O.ZaB ax (bx-ax) x0 x1 { num:=1,den:=1 }).num,den:=(O.ZaB ax (bx-ax) x0 x1 { num:=1,den:=1 }).den }).den })=dq) /\
    (¬(O.ZeY ay (by_-ay) y0 y1=true)->(O.okQo ay (by_-ay) y0 y1 (O.ZaA ax (bx-ax) x0 x1 { num:=0,den:=1 }).num (O.ZaA ax (bx-ax) x0 x1 { num:=0,den:=1 }).den (O.ZaB ax (bx-ax) x0 x1 { num:=1,den:=1 }).num (O.ZaB ax (bx-ax) x0 x1 { num:=1,den:=1 }).den) /\
     vb false=dq)) /\
   (¬(O.ZeY ax (bx-ax) x0 x1=true)->(O.okQo ax (bx-ax) x0 x1 0 1 1 1) /\
    (-9223372036854775808<=by_-ay/\by_-ay<=9223372036854775807) /\
    ((O.ZeY ay (by_-ay) y0 y1=true)->((false=true)->(O.okQo ay (by_-ay) y0 y1 (O.ZaA ax (bx-ax) x0 x1 { num:=0,den:=1 }).num (O.ZaA ax (bx-ax) x0 x1 { num:=0,den:=1 }).den (O.ZaB ax (bx-ax) x0 x1 { num:=1,den:=1 }).num (O.ZaB ax (bx-ax) x0 x1 { num:=1,den:=1 }).den)) /\
     vb false=dq) /\
    (¬(O.ZeY ay (by_-ay) y0 y1=true)->((false=true)->(O.okQo ay (by_-ay) y0 y1 (O.ZaA ax (bx-ax) x0 x1 { num:=0,den:=1 }).num (O.ZaA ax (bx-ax) x0 x1 { num:=0,den:=1 }).den (O.ZaB ax (bx-ax) x0 x1 { num:=1,den:=1 }).num (O.ZaB ax (bx-ax) x0 x1 { num:=1,den:=1 }).den)) /\
     vb false=dq)))) :
 qEnt_at x0 y0 x1 y1 tp ax ay bx by_ (Zaf dq):=by
 unfold qEnt_at
 rcases xq H with ⟨d2,H⟩|⟨d2,H⟩
 ·exact Zai (G:=Zad kp9 [] []) 1000 [true] (asm:=[true,true,!(decide (x0>=x1)==false&&true)||true,!(decide (x0>=x1)==false&&true)||true,(zNqD3 x0 x1 y0 y1)==true]) (vb false) (by kernel_rfl) (bc rfl (bc rfl (bc (Bool.or_true _) (bc (Bool.or_true _) (bc (Zak ((ZaC Zab Zab).2 d2)) b0))))) q0 c0 H
 ·obtain ⟨k3,H⟩:=H
  have w4:wi (bx-ax)=bx-ax:=wI64 k3
  rcases xq H with ⟨d5,H⟩|⟨d5,H⟩
  ·obtain ⟨k6,k7,H⟩:=H
   have w8:wi (by_-ay)=by_-ay:=wI64 k7
   rcases xq H with ⟨d9,H⟩|⟨d9,H⟩
   ·obtain ⟨k10,k11,H⟩:=H
    exact Zai (G:=Zad kp9 [(5,12,.call (vb true) (some [⟨[ag [vi (O.ZaA ax (bx-ax) x0 x1 { num:=0,den:=1 }).num,vi (O.ZaA ax (bx-ax) x0 x1 { num:=0,den:=1 }).den]],2,0,false,false⟩,⟨[ag [vi (O.ZaB ax (bx-ax) x0 x1 { num:=1,den:=1 }).num,vi (O.ZaB ax (bx-ax) x0 x1 { num:=1,den:=1 }).den]],2,0,false,false⟩])),(5,27,.call (vb true) (some [⟨[ag [vi (O.ZaA ay (by_-ay) y0 y1 { num:=(O.ZaA ax (bx-ax) x0 x1 { num:=0,den:=1 }).num,den:=(O.ZaA ax (bx-ax) x0 x1 { num:=0,den:=1 }).den }).num,vi (O.ZaA ay (by_-ay) y0 y1 { num:=(O.ZaA ax (bx-ax) x0 x1 { num:=0,den:=1 }).num,den:=(O.ZaA ax (bx-ax) x0 x1 { num:=0,den:=1 }).den }).den]],2,0,false,false⟩,⟨[ag [vi (O.ZaB ay (by_-ay) y0 y1 { num:=(O.ZaB ax (bx-ax) x0 x1 { num:=1,den:=1 }).num,den:=(O.ZaB ax (bx-ax) x0 x1 { num:=1,den:=1 }).den }).num,vi (O.ZaB ay (by_-ay) y0 y1 { num:=(O.ZaB ax (bx-ax) x0 x1 { num:=1,den:=1 }).num,den:=(O.ZaB ax (bx-ax) x0 x1 { num:=1,den:=1 }).den }).den]],2,0,false,false⟩])),(7,2,.call (vb (O.less { num:=(O.ZaA ay (by_-ay) y0 y1 { num:=(O.ZaA ax (bx-ax) x0 x1 { num:=0,den:=1 }).num,den:=(O.ZaA ax (bx-ax) x0 x1 { num:=0,den:=1 }).den }).num,den:=(O.ZaA ay (by_-ay) y0 y1 { num:=(O.ZaA ax (bx-ax) x0 x1 { num:=0,den:=1 }).num,den:=(O.ZaA ax (bx-ax) x0 x1 { num:=0,den:=1 }).den }).den } { num:=(O.ZaB ay (by_-ay) y0 y1 { num:=(O.ZaB ax (bx-ax) x0 x1 { num:=1,den:=1 }).num,den:=(O.ZaB ax (bx-ax) x0 x1 { num:=1,den:=1 }).den }).num,den:=(O.ZaB ay (by_-ay) y0 y1 { num:=(O.ZaB ax (bx-ax) x0 x1 { num:=1,den:=1 }).num,den:=(O.ZaB ax (bx-ax) x0 x1 { num:=1,den:=1 }).den }).den })) none)] []) 1000 [false,false] (asm:=[true,true,!(decide (x0>=x1)==false&&true)||true,!(decide (x0>=x1)==false&&true)||true,(zNqD3 x0 x1 y0 y1)==false,true,true,true,true,true,true,true,true,true,true,true,true,false==false,true,true]) (calls:=[⟨true,true,32,[vi ax,vi (wi (bx-ax)),vi x0,vi x1,AV.ptr 0 0 0 0,AV.ptr 1 0 0 0],[⟨[zNqD1],2,0,false,false⟩,⟨[zNqD2],2,0,false,false⟩],vb true,[⟨[ag [vi (O.ZaA ax (bx-ax) x0 x1 { num:=0,den:=1 }).num,vi (O.ZaA ax (bx-ax) x0 x1 { num:=0,den:=1 }).den]],2,0,false,false⟩,⟨[ag [vi (O.ZaB ax (bx-ax) x0 x1 { num:=1,den:=1 }).num,vi (O.ZaB ax (bx-ax) x0 x1 { num:=1,den:=1 }).den]],2,0,false,false⟩]⟩,⟨true,true,32,[vi ay,vi (wi (by_-ay)),vi y0,vi y1,AV.ptr 0 0 0 0,AV.ptr 1 0 0 0],[⟨[ag [vi (O.ZaA ax (bx-ax) x0 x1 { num:=0,den:=1 }).num,vi (O.ZaA ax (bx-ax) x0 x1 { num:=0,den:=1 }).den]],2,0,false,false⟩,⟨[ag [vi (O.ZaB ax (bx-ax) x0 x1 { num:=1,den:=1 }).num,vi (O.ZaB ax (bx-ax) x0 x1 { num:=1,den:=1 }).den]],2,0,false,false⟩],vb true,[⟨[ag [vi (O.ZaA ay (by_-ay) y0 y1 { num:=(O.ZaA ax (bx-ax) x0 x1 { num:=0,den:=1 }).num,den:=(O.ZaA ax (bx-ax) x0 x1 { num:=0,den:=1 }).den }).num,vi (O.ZaA ay (by_-ay) y0 y1 { num:=(O.ZaA ax (bx-ax) x0 x1 { num:=0,den:=1 }).num,den:=(O.ZaA ax (bx-ax) x0 x1 { num:=0,den:=1 }).den }).den]],2,0,false,false⟩,⟨[ag [vi (O.ZaB ay (by_-ay) y0 y1 { num:=(O.ZaB ax (bx-ax) x0 x1 { num:=1,den:=1 }).num,den:=(O.ZaB ax (bx-ax) x0 x1 { num:=1,den:=1 }).den }).num,vi (O.ZaB ay (by_-ay) y0 y1 { num:=(O.ZaB ax (bx-ax) x0 x1 { num:=1,den:=1 }).num,den:=(O.ZaB ax (bx-ax) x0 x1 { num:=1,den:=1 }).den }).den]],2,0,false,false⟩]⟩,⟨true,false,35,[ag [vi (O.ZaA ay (by_-ay) y0 y1 { num:=(O.ZaA ax (bx-ax) x0 x1 { num:=0,den:=1 }).num,den:=(O.ZaA ax (bx-ax) x0 x1 { num:=0,den:=1 }).den }).num,vi (O.ZaA ay (by_-ay) y0 y1 { num:=(O.ZaA ax (bx-ax) x0 x1 { num:=0,den:=1 }).num,den:=(O.ZaA ax (bx-ax) x0 x1 { num:=0,den:=1 }).den }).den],ag [vi (O.ZaB ay (by_-ay) y0 y1 { num:=(O.ZaB ax (bx-ax) x0 x1 { num:=1,den:=1 }).num,den:=(O.ZaB ax (bx-ax) x0 x1 { num:=1,den:=1 }).den }).num,vi (O.ZaB ay (by_-ay) y0 y1 { num:=(O.ZaB ax (bx-ax) x0 x1 { num:=1,den:=1 }).num,den:=(O.ZaB ax (bx-ax) x0 x1 { num:=1,den:=1 }).den }).den]],[],vb (O.less { num:=(O.ZaA ay (by_-ay) y0 y1 { num:=(O.ZaA ax (bx-ax) x0 x1 { num:=0,den:=1 }).num,den:=(O.ZaA ax (bx-ax) x0 x1 { num:=0,den:=1 }).den }).num,den:=(O.ZaA ay (by_-ay) y0 y1 { num:=(O.ZaA ax (bx-ax) x0 x1 { num:=0,den:=1 }).num,den:=(O.ZaA ax (bx-ax) x0 x1 { num:=0,den:=1 }).den }).den } { num:=(O.ZaB ay (by_-ay) y0 y1 { num:=(O.ZaB ax (bx-ax) x0 x1 { num:=1,den:=1 }).num,den:=(O.ZaB ax (bx-ax) x0 x1 { num:=1,den:=1 }).den }).num,den:=(O.ZaB ay (by_-ay) y0 y1 { num:=(O.ZaB ax (bx-ax) x0 x1 { num:=1,den:=1 }).num,den:=(O.ZaB ax (bx-ax) x0 x1 { num:=1,den:=1 }).den }).den }),[]⟩]) (vb (O.less { num:=(O.ZaA ay (by_-ay) y0 y1 { num:=(O.ZaA ax (bx-ax) x0 x1 { num:=0,den:=1 }).num,den:=(O.ZaA ax (bx-ax) x0 x1 { num:=0,den:=1 }).den }).num,den:=(O.ZaA ay (by_-ay) y0 y1 { num:=(O.ZaA ax (bx-ax) x0 x1 { num:=0,den:=1 }).num,den:=(O.ZaA ax (bx-ax) x0 x1 { num:=0,den:=1 }).den }).den } { num:=(O.ZaB ay (by_-ay) y0 y1 { num:=(O.ZaB ax (bx-ax) x0 x1 { num:=1,den:=1 }).num,den:=(O.ZaB ax (bx-ax) x0 x1 { num:=1,den:=1 }).den }).num,den:=(O.ZaB ay (by_-ay) y0 y1 { num:=(O.ZaB ax (bx-ax) x0 x1 { num:=1,den:=1 }).num,den:=(O.ZaB ax (bx-ax) x0 x1 { num:=1,den:=1 }).den }).den })) (by kernel_rfl) (bc rfl (bc rfl (bc (Bool.or_true _) (bc (Bool.or_true _) (bc (Zah (fun h=>d2 ((ZaC Zab Zab).1 h))) (bc rfl (bc rfl (bc rfl (bc rfl (bc rfl (bc rfl (bc rfl (bc rfl (bc rfl (bc rfl (bc rfl (bc rfl (bc rfl (bc rfl (bc rfl b0)))))))))))))))))))) q0 (cc (fun _=>(by (try rw [w4]);all_goals exact (@evo32_y ax (bx-ax) x0 x1 0 1 1 1 k6 d5))) (cc (fun _=>(by (try rw [w8]);all_goals exact (@evo32_y ay (by_-ay) y0 y1 ((O.ZaA ax (bx-ax) x0 x1 { num:=0,den:=1 }).num) ((O.ZaA ax (bx-ax) x0 x1 { num:=0,den:=1 }).den) ((O.ZaB ax (bx-ax) x0 x1 { num:=1,den:=1 }).num) ((O.ZaB ax (bx-ax) x0 x1 { num:=1,den:=1 }).den) k10 d9))) (cc (fun _=>(@ev35 ((O.ZaA ay (by_-ay) y0 y1 { num:=(O.ZaA ax (bx-ax) x0 x1 { num:=0,den:=1 }).num,den:=(O.ZaA ax (bx-ax) x0 x1 { num:=0,den:=1 }).den }).num) ((O.ZaA ay (by_-ay) y0 y1 { num:=(O.ZaA ax (bx-ax) x0 x1 { num:=0,den:=1 }).num,den:=(O.ZaA ax (bx-ax) x0 x1 { num:=0,den:=1 }).den }).den) ((O.ZaB ay (by_-ay) y0 y1 { num:=(O.ZaB ax (bx-ax) x0 x1 { num:=1,den:=1 }).num,den:=(O.ZaB ax (bx-ax) x0 x1 { num:=1,den:=1 }).den }).num) ((O.ZaB ay (by_-ay) y0 y1 { num:=(O.ZaB ax (bx-ax) x0 x1 { num:=1,den:=1 }).num,den:=(O.ZaB ax (bx-ax) x0 x1 { num:=1,den:=1 }).den }).den) k11)) c0))) H
   ·obtain ⟨k12,H⟩:=H
    exact Zai (G:=Zad kp9 [(5,12,.call (vb true) (some [⟨[ag [vi (O.ZaA ax (bx-ax) x0 x1 { num:=0,den:=1 }).num,vi (O.ZaA ax (bx-ax) x0 x1 { num:=0,den:=1 }).den]],2,0,false,false⟩,⟨[ag [vi (O.ZaB ax (bx-ax) x0 x1 { num:=1,den:=1 }).num,vi (O.ZaB ax (bx-ax) x0 x1 { num:=1,den:=1 }).den]],2,0,false,false⟩])),(5,27,.call (vb false) (some [⟨[ag [vi (O.ZaA ay (by_-ay) y0 y1 { num:=(O.ZaA ax (bx-ax) x0 x1 { num:=0,den:=1 }).num,den:=(O.ZaA ax (bx-ax) x0 x1 { num:=0,den:=1 }).den }).num,vi (O.ZaA ay (by_-ay) y0 y1 { num:=(O.ZaA ax (bx-ax) x0 x1 { num:=0,den:=1 }).num,den:=(O.ZaA ax (bx-ax) x0 x1 { num:=0,den:=1 }).den }).den]],2,0,false,false⟩,⟨[ag [vi (O.ZaB ay (by_-ay) y0 y1 { num:=(O.ZaB ax (bx-ax) x0 x1 { num:=1,den:=1 }).num,den:=(O.ZaB ax (bx-ax) x0 x1 { num:=1,den:=1 }).den }).num,vi (O.ZaB ay (by_-ay) y0 y1 { num:=(O.ZaB ax (bx-ax) x0 x1 { num:=1,den:=1 }).num,den:=(O.ZaB ax (bx-ax) x0 x1 { num:=1,den:=1 }).den }).den]],2,0,false,false⟩]))] []) 1000 [false,true] (asm:=[true,true,!(decide (x0>=x1)==false&&true)||true,!(decide (x0>=x1)==false&&true)||true,(zNqD3 x0 x1 y0 y1)==false,true,true,true,true,true,true,true,true,true,true,true,true,true==true]) (calls:=[⟨true,true,32,[vi ax,vi (wi (bx-ax)),vi x0,vi x1,AV.ptr 0 0 0 0,AV.ptr 1 0 0 0],[⟨[zNqD1],2,0,false,false⟩,⟨[zNqD2],2,0,false,false⟩],vb true,[⟨[ag [vi (O.ZaA ax (bx-ax) x0 x1 { num:=0,den:=1 }).num,vi (O.ZaA ax (bx-ax) x0 x1 { num:=0,den:=1 }).den]],2,0,false,false⟩,⟨[ag [vi (O.ZaB ax (bx-ax) x0 x1 { num:=1,den:=1 }).num,vi (O.ZaB ax (bx-ax) x0 x1 { num:=1,den:=1 }).den]],2,0,false,false⟩]⟩,⟨true,true,32,[vi ay,vi (wi (by_-ay)),vi y0,vi y1,AV.ptr 0 0 0 0,AV.ptr 1 0 0 0],[⟨[ag [vi (O.ZaA ax (bx-ax) x0 x1 { num:=0,den:=1 }).num,vi (O.ZaA ax (bx-ax) x0 x1 { num:=0,den:=1 }).den]],2,0,false,false⟩,⟨[ag [vi (O.ZaB ax (bx-ax) x0 x1 { num:=1,den:=1 }).num,vi (O.ZaB ax (bx-ax) x0 x1 { num:=1,den:=1 }).den]],2,0,false,false⟩],vb false,[⟨[ag [vi (O.ZaA ay (by_-ay) y0 y1 { num:=(O.ZaA ax (bx-ax) x0 x1 { num:=0,den:=1 }).num,den:=(O.ZaA ax (bx-ax) x0 x1 { num:=0,den:=1 }).den }).num,vi (O.ZaA ay (by_-ay) y0 y1 { num:=(O.ZaA ax (bx-ax) x0 x1 { num:=0,den:=1 }).num,den:=(O.ZaA ax (bx-ax) x0 x1 { num:=0,den:=1 }).den }).den]],2,0,false,false⟩,⟨[ag [vi (O.ZaB ay (by_-ay) y0 y1 { num:=(O.ZaB ax (bx-ax) x0 x1 { num:=1,den:=1 }).num,den:=(O.ZaB ax (bx-ax) x0 x1 { num:=1,den:=1 }).den }).num,vi (O.ZaB ay (by_-ay) y0 y1 { num:=(O.ZaB ax (bx-ax) x0 x1 { num:=1,den:=1 }).num,den:=(O.ZaB ax (bx-ax) x0 x1 { num:=1,den:=1 }).den }).den]],2,0,false,false⟩]⟩]) (vb false) (by kernel_rfl) (bc rfl (bc rfl (bc (Bool.or_true _) (bc (Bool.or_true _) (bc (Zah (fun h=>d2 ((ZaC Zab Zab).1 h))) (bc rfl (bc rfl (bc rfl (bc rfl (bc rfl (bc rfl (bc rfl (bc rfl (bc rfl (bc rfl (bc rfl (bc rfl (bc rfl b0)))))))))))))))))) q0 (cc (fun _=>(by (try rw [w4]);all_goals exact (@evo32_y ax (bx-ax) x0 x1 0 1 1 1 k6 d5))) (cc (fun _=>(by (try rw [w8]);all_goals exact (@evo32_n ay (by_-ay) y0 y1 ((O.ZaA ax (bx-ax) x0 x1 { num:=0,den:=1 }).num) ((O.ZaA ax (bx-ax) x0 x1 { num:=0,den:=1 }).den) ((O.ZaB ax (bx-ax) x0 x1 { num:=1,den:=1 }).num) ((O.ZaB ax (bx-ax) x0 x1 { num:=1,den:=1 }).den) k12 d9))) c0)) H
  ·obtain ⟨k13,k14,H⟩:=H
   have w15:wi (by_-ay)=by_-ay:=wI64 k14
   rcases xq H with ⟨d16,H⟩|⟨d16,H⟩
   ·obtain ⟨k18,H⟩:=H
    exact Zai (G:=Zad kp9 [(5,12,.call (vb false) (some [⟨[ag [vi (O.ZaA ax (bx-ax) x0 x1 { num:=0,den:=1 }).num,vi (O.ZaA ax (bx-ax) x0 x1 { num:=0,den:=1 }).den]],2,0,false,false⟩,⟨[ag [vi (O.ZaB ax (bx-ax) x0 x1 { num:=1,den:=1 }).num,vi (O.ZaB ax (bx-ax) x0 x1 { num:=1,den:=1 }).den]],2,0,false,false⟩])),(5,27,.call (vb true) (some [⟨[ag [vi (O.ZaA ay (by_-ay) y0 y1 { num:=(O.ZaA ax (bx-ax) x0 x1 { num:=0,den:=1 }).num,den:=(O.ZaA ax (bx-ax) x0 x1 { num:=0,den:=1 }).den }).num,vi (O.ZaA ay (by_-ay) y0 y1 { num:=(O.ZaA ax (bx-ax) x0 x1 { num:=0,den:=1 }).num,den:=(O.ZaA ax (bx-ax) x0 x1 { num:=0,den:=1 }).den }).den]],2,0,false,false⟩,⟨[ag [vi (O.ZaB ay (by_-ay) y0 y1 { num:=(O.ZaB ax (bx-ax) x0 x1 { num:=1,den:=1 }).num,den:=(O.ZaB ax (bx-ax) x0 x1 { num:=1,den:=1 }).den }).num,vi (O.ZaB ay (by_-ay) y0 y1 { num:=(O.ZaB ax (bx-ax) x0 x1 { num:=1,den:=1 }).num,den:=(O.ZaB ax (bx-ax) x0 x1 { num:=1,den:=1 }).den }).den]],2,0,false,false⟩]))] []) 1000 [false,true] (asm:=[true,true,!(decide (x0>=x1)==false&&true)||true,!(decide (x0>=x1)==false&&true)||true,(zNqD3 x0 x1 y0 y1)==false,true,true,true,true,true,true,true,true,true,true,true,true,true==true]) (calls:=[⟨true,true,32,[vi ax,vi (wi (bx-ax)),vi x0,vi x1,AV.ptr 0 0 0 0,AV.ptr 1 0 0 0],[⟨[zNqD1],2,0,false,false⟩,⟨[zNqD2],2,0,false,false⟩],vb false,[⟨[ag [vi (O.ZaA ax (bx-ax) x0 x1 { num:=0,den:=1 }).num,vi (O.ZaA ax (bx-ax) x0 x1 { num:=0,den:=1 }).den]],2,0,false,false⟩,⟨[ag [vi (O.ZaB ax (bx-ax) x0 x1 { num:=1,den:=1 }).num,vi (O.ZaB ax (bx-ax) x0 x1 { num:=1,den:=1 }).den]],2,0,false,false⟩]⟩,⟨false,true,32,[vi ay,vi (wi (by_-ay)),vi y0,vi y1,AV.ptr 0 0 0 0,AV.ptr 1 0 0 0],[⟨[ag [vi (O.ZaA ax (bx-ax) x0 x1 { num:=0,den:=1 }).num,vi (O.ZaA ax (bx-ax) x0 x1 { num:=0,den:=1 }).den]],2,0,false,false⟩,⟨[ag [vi (O.ZaB ax (bx-ax) x0 x1 { num:=1,den:=1 }).num,vi (O.ZaB ax (bx-ax) x0 x1 { num:=1,den:=1 }).den]],2,0,false,false⟩],vb true,[⟨[ag [vi (O.ZaA ay (by_-ay) y0 y1 { num:=(O.ZaA ax (bx-ax) x0 x1 { num:=0,den:=1 }).num,den:=(O.ZaA ax (bx-ax) x0 x1 { num:=0,den:=1 }).den }).num,vi (O.ZaA ay (by_-ay) y0 y1 { num:=(O.ZaA ax (bx-ax) x0 x1 { num:=0,den:=1 }).num,den:=(O.ZaA ax (bx-ax) x0 x1 { num:=0,den:=1 }).den }).den]],2,0,false,false⟩,⟨[ag [vi (O.ZaB ay (by_-ay) y0 y1 { num:=(O.ZaB ax (bx-ax) x0 x1 { num:=1,den:=1 }).num,den:=(O.ZaB ax (bx-ax) x0 x1 { num:=1,den:=1 }).den }).num,vi (O.ZaB ay (by_-ay) y0 y1 { num:=(O.ZaB ax (bx-ax) x0 x1 { num:=1,den:=1 }).num,den:=(O.ZaB ax (bx-ax) x0 x1 { num:=1,den:=1 }).den }).den]],2,0,false,false⟩]⟩]) (vb false) (by kernel_rfl) (bc rfl (bc rfl (bc (Bool.or_true _) (bc (Bool.or_true _) (bc (Zah (fun h=>d2 ((ZaC Zab Zab).1 h))) (bc rfl (bc rfl (bc rfl (bc rfl (bc rfl (bc rfl (bc rfl (bc rfl (bc rfl (bc rfl (bc rfl (bc rfl (bc rfl b0)))))))))))))))))) q0 (cc (fun _=>(by (try rw [w4]);all_goals exact (@evo32_n ax (bx-ax) x0 x1 0 1 1 1 k13 d5))) (cc (fun hc=>((by (try rw [w15]);all_goals exact (@evo32_y ay (by_-ay) y0 y1 ((O.ZaA ax (bx-ax) x0 x1 { num:=0,den:=1 }).num) ((O.ZaA ax (bx-ax) x0 x1 { num:=0,den:=1 }).den) ((O.ZaB ax (bx-ax) x0 x1 { num:=1,den:=1 }).num) ((O.ZaB ax (bx-ax) x0 x1 { num:=1,den:=1 }).den) (k18 ((ZaI _).1 hc)) d16)):Ev M1 (Conf.own 32 [vi ay,vi (wi (by_-ay)),vi y0,vi y1,AV.ptr 0 0 0 0,AV.ptr 1 0 0 0] [⟨[ag [vi (O.ZaA ax (bx-ax) x0 x1 { num:=0,den:=1 }).num,vi (O.ZaA ax (bx-ax) x0 x1 { num:=0,den:=1 }).den]],2,0,false,false⟩,⟨[ag [vi (O.ZaB ax (bx-ax) x0 x1 { num:=1,den:=1 }).num,vi (O.ZaB ax (bx-ax) x0 x1 { num:=1,den:=1 }).den]],2,0,false,false⟩]) (vb true) [⟨[ag [vi (O.ZaA ay (by_-ay) y0 y1 { num:=(O.ZaA ax (bx-ax) x0 x1 { num:=0,den:=1 }).num,den:=(O.ZaA ax (bx-ax) x0 x1 { num:=0,den:=1 }).den }).num,vi (O.ZaA ay (by_-ay) y0 y1 { num:=(O.ZaA ax (bx-ax) x0 x1 { num:=0,den:=1 }).num,den:=(O.ZaA ax (bx-ax) x0 x1 { num:=0,den:=1 }).den }).den]],2,0,false,false⟩,⟨[ag [vi (O.ZaB ay (by_-ay) y0 y1 { num:=(O.ZaB ax (bx-ax) x0 x1 { num:=1,den:=1 }).num,den:=(O.ZaB ax (bx-ax) x0 x1 { num:=1,den:=1 }).den }).num,vi (O.ZaB ay (by_-ay) y0 y1 { num:=(O.ZaB ax (bx-ax) x0 x1 { num:=1,den:=1 }).num,den:=(O.ZaB ax (bx-ax) x0 x1 { num:=1,den:=1 }).den }).den]],2,0,false,false⟩])) c0)) H
   ·obtain ⟨k20,H⟩:=H
    exact Zai (G:=Zad kp9 [(5,12,.call (vb false) (some [⟨[ag [vi (O.ZaA ax (bx-ax) x0 x1 { num:=0,den:=1 }).num,vi (O.ZaA ax (bx-ax) x0 x1 { num:=0,den:=1 }).den]],2,0,false,false⟩,⟨[ag [vi (O.ZaB ax (bx-ax) x0 x1 { num:=1,den:=1 }).num,vi (O.ZaB ax (bx-ax) x0 x1 { num:=1,den:=1 }).den]],2,0,false,false⟩])),(5,27,.call (vb false) (some [⟨[ag [vi (O.ZaA ay (by_-ay) y0 y1 { num:=(O.ZaA ax (bx-ax) x0 x1 { num:=0,den:=1 }).num,den:=(O.ZaA ax (bx-ax) x0 x1 { num:=0,den:=1 }).den }).num,vi (O.ZaA ay (by_-ay) y0 y1 { num:=(O.ZaA ax (bx-ax) x0 x1 { num:=0,den:=1 }).num,den:=(O.ZaA ax (bx-ax) x0 x1 { num:=0,den:=1 }).den }).den]],2,0,false,false⟩,⟨[ag [vi (O.ZaB ay (by_-ay) y0 y1 { num:=(O.ZaB ax (bx-ax) x0 x1 { num:=1,den:=1 }).num,den:=(O.ZaB ax (bx-ax) x0 x1 { num:=1,den:=1 }).den }).num,vi (O.ZaB ay (by_-ay) y0 y1 { num:=(O.ZaB ax (bx-ax) x0 x1 { num:=1,den:=1 }).num,den:=(O.ZaB ax (bx-ax) x0 x1 { num:=1,den:=1 }).den }).den]],2,0,false,false⟩]))] []) 1000 [false,true] (asm:=[true,true,!(decide (x0>=x1)==false&&true)||true,!(decide (x0>=x1)==false&&true)||true,(zNqD3 x0 x1 y0 y1)==false,true,true,true,true,true,true,true,true,true,true,true,true,true==true]) (calls:=[⟨true,true,32,[vi ax,vi (wi (bx-ax)),vi x0,vi x1,AV.ptr 0 0 0 0,AV.ptr 1 0 0 0],[⟨[zNqD1],2,0,false,false⟩,⟨[zNqD2],2,0,false,false⟩],vb false,[⟨[ag [vi (O.ZaA ax (bx-ax) x0 x1 { num:=0,den:=1 }).num,vi (O.ZaA ax (bx-ax) x0 x1 { num:=0,den:=1 }).den]],2,0,false,false⟩,⟨[ag [vi (O.ZaB ax (bx-ax) x0 x1 { num:=1,den:=1 }).num,vi (O.ZaB ax (bx-ax) x0 x1 { num:=1,den:=1 }).den]],2,0,false,false⟩]⟩,⟨false,true,32,[vi ay,vi (wi (by_-ay)),vi y0,vi y1,AV.ptr 0 0 0 0,AV.ptr 1 0 0 0],[⟨[ag [vi (O.ZaA ax (bx-ax) x0 x1 { num:=0,den:=1 }).num,vi (O.ZaA ax (bx-ax) x0 x1 { num:=0,den:=1 }).den]],2,0,false,false⟩,⟨[ag [vi (O.ZaB ax (bx-ax) x0 x1 { num:=1,den:=1 }).num,vi (O.ZaB ax (bx-ax) x0 x1 { num:=1,den:=1 }).den]],2,0,false,false⟩],vb false,[⟨[ag [vi (O.ZaA ay (by_-ay) y0 y1 { num:=(O.ZaA ax (bx-ax) x0 x1 { num:=0,den:=1 }).num,den:=(O.ZaA ax (bx-ax) x0 x1 { num:=0,den:=1 }).den }).num,vi (O.ZaA ay (by_-ay) y0 y1 { num:=(O.ZaA ax (bx-ax) x0 x1 { num:=0,den:=1 }).num,den:=(O.ZaA ax (bx-ax) x0 x1 { num:=0,den:=1 }).den }).den]],2,0,false,false⟩,⟨[ag [vi (O.ZaB ay (by_-ay) y0 y1 { num:=(O.ZaB ax (bx-ax) x0 x1 { num:=1,den:=1 }).num,den:=(O.ZaB ax (bx-ax) x0 x1 { num:=1,den:=1 }).den }).num,vi (O.ZaB ay (by_-ay) y0 y1 { num:=(O.ZaB ax (bx-ax) x0 x1 { num:=1,den:=1 }).num,den:=(O.ZaB ax (bx-ax) x0 x1 { num:=1,den:=1 }).den }).den]],2,0,false,false⟩]⟩]) (vb false) (by kernel_rfl) (bc rfl (bc rfl (bc (Bool.or_true _) (bc (Bool.or_true _) (bc (Zah (fun h=>d2 ((ZaC Zab Zab).1 h))) (bc rfl (bc rfl (bc rfl (bc rfl (bc rfl (bc rfl (bc rfl (bc rfl (bc rfl (bc rfl (bc rfl (bc rfl (bc rfl b0)))))))))))))))))) q0 (cc (fun _=>(by (try rw [w4]);all_goals exact (@evo32_n ax (bx-ax) x0 x1 0 1 1 1 k13 d5))) (cc (fun hc=>((by (try rw [w15]);all_goals exact (@evo32_n ay (by_-ay) y0 y1 ((O.ZaA ax (bx-ax) x0 x1 { num:=0,den:=1 }).num) ((O.ZaA ax (bx-ax) x0 x1 { num:=0,den:=1 }).den) ((O.ZaB ax (bx-ax) x0 x1 { num:=1,den:=1 }).num) ((O.ZaB ax (bx-ax) x0 x1 { num:=1,den:=1 }).den) (k20 ((ZaI _).1 hc)) d16)):Ev M1 (Conf.own 32 [vi ay,vi (wi (by_-ay)),vi y0,vi y1,AV.ptr 0 0 0 0,AV.ptr 1 0 0 0] [⟨[ag [vi (O.ZaA ax (bx-ax) x0 x1 { num:=0,den:=1 }).num,vi (O.ZaA ax (bx-ax) x0 x1 { num:=0,den:=1 }).den]],2,0,false,false⟩,⟨[ag [vi (O.ZaB ax (bx-ax) x0 x1 { num:=1,den:=1 }).num,vi (O.ZaB ax (bx-ax) x0 x1 { num:=1,den:=1 }).den]],2,0,false,false⟩]) (vb false) [⟨[ag [vi (O.ZaA ay (by_-ay) y0 y1 { num:=(O.ZaA ax (bx-ax) x0 x1 { num:=0,den:=1 }).num,den:=(O.ZaA ax (bx-ax) x0 x1 { num:=0,den:=1 }).den }).num,vi (O.ZaA ay (by_-ay) y0 y1 { num:=(O.ZaA ax (bx-ax) x0 x1 { num:=0,den:=1 }).num,den:=(O.ZaA ax (bx-ax) x0 x1 { num:=0,den:=1 }).den }).den]],2,0,false,false⟩,⟨[ag [vi (O.ZaB ay (by_-ay) y0 y1 { num:=(O.ZaB ax (bx-ax) x0 x1 { num:=1,den:=1 }).num,den:=(O.ZaB ax (bx-ax) x0 x1 { num:=1,den:=1 }).den }).num,vi (O.ZaB ay (by_-ay) y0 y1 { num:=(O.ZaB ax (bx-ax) x0 x1 { num:=1,den:=1 }).num,den:=(O.ZaB ax (bx-ax) x0 x1 { num:=1,den:=1 }).den }).den]],2,0,false,false⟩])) c0)) H
end Go.Av

namespace Go.Av
open Go.Proofs
namespace O
def cc (n:Int):Prop:=-20000000<=n/\n<=20000000
def cc8 (x0 y0 x1 y1 ax ay bx by_:Int):Prop:=(cc x0/\cc y0/\cc x1/\cc y1)/\cc ax/\cc ay/\cc bx/\cc by_
end O
theorem later_nb {s t:O.Shr} (h:O.nb4 s.num s.den t.num t.den):O.nb (O.ZbF s t).num/\O.nb (O.ZbF s t).den:=by
 unfold O.ZbF
 cases O.less s t with
 | true=>exact h.2.2
 | false=>exact ⟨h.1,h.2.1⟩
theorem earlier_nb {s t:O.Shr} (h:O.nb4 s.num s.den t.num t.den):O.nb (O.ZaM s t).num/\O.nb (O.ZaM s t).den:=by
 unfold O.ZaM
 cases O.less t s with
 | true=>exact h.2.2
 | false=>exact ⟨h.1,h.2.1⟩
theorem sh_nb {a w l h:Int} (ha:O.cb a) (hw:O.cb w) (hl:O.cb l) (hh:O.cb h):(O.nb (O.Zgv a w l h).num/\O.nb (O.Zgv a w l h).den)/\O.nb (O.Zcw a w l h).num/\O.nb (O.Zcw a w l h).den:=by
 unfold O.cb at *
 unfold O.Zgv O.Zcw O.nb
 split
 ·exact ⟨⟨by show _<=a-h/\a-h<=_;omega,by show _ <= -w /\ -w<=_;omega⟩,by show _<=a-l/\a-l<=_;omega,by show _ <= -w /\ -w<=_;omega⟩
 ·exact ⟨⟨by show _<=l-a/\l-a<=_;omega,by show _<=w/\w<=_;omega⟩,by show _<=h-a/\h-a<=_;omega,by show _<=w/\w<=_;omega⟩
theorem opn_nb {a w l h:Int} (ha:O.cb a) (hw:O.cb w) (hl:O.cb l) (hh:O.cb h) {s t:O.Shr} (hs:O.nb s.num/\O.nb s.den) (ht:O.nb t.num/\O.nb t.den):(O.nb (O.ZaA a w l h s).num/\O.nb (O.ZaA a w l h s).den)/\O.nb (O.ZaB a w l h t).num/\O.nb (O.ZaB a w l h t).den:=by
 have k:=sh_nb ha hw hl hh
 unfold O.ZaA O.ZaB
 split
 ·exact ⟨hs,ht⟩
 ·exact ⟨later_nb ⟨hs.1,hs.2,k.1.1,k.1.2⟩,earlier_nb ⟨ht.1,ht.2,k.2.1,k.2.2⟩⟩
theorem ev9 (x0 y0 x1 y1 tp ax ay bx by_:Int) (h:O.cc8 x0 y0 x1 y1 ax ay bx by_):Ev M1 (.pure 9 [.agg [.int .i64 x0,.int .i64 y0,.int .i64 x1,.int .i64 y1,.int .i64 tp],.agg [.int .i64 ax,.int .i64 ay],.agg [.int .i64 bx,.int .i64 by_]]) (.bool (O.entB x0 y0 x1 y1 ax ay bx by_)) []:=by
 unfold O.cc8 O.cc at h
 have C {n:Int} (k:-50000000<=n/\n<=50000000):O.cb n:=k
 have N {n:Int} (k:-1000000000<=n/\n<=1000000000):O.nb n:=k
 have n0:O.nb 0:=N (by omega)
 have n1:O.nb 1:=N (by omega)
 have ok1:O.okQo ax (bx-ax) x0 x1 0 1 1 1:=⟨⟨⟨C (by omega),C (by omega),C (by omega),C (by omega)⟩,C (by omega),C (by omega)⟩,n0,n1,n1,n1⟩
 have b1:=opn_nb (a:=ax) (w:=bx-ax) (l:=x0) (h:=x1) (C (by omega)) (C (by omega)) (C (by omega)) (C (by omega)) (s:=⟨0,1⟩) (t:=⟨1,1⟩) ⟨n0,n1⟩ ⟨n1,n1⟩
 have b2:=opn_nb (a:=ay) (w:=by_-ay) (l:=y0) (h:=y1) (C (by omega)) (C (by omega)) (C (by omega)) (C (by omega)) b1.1 b1.2
 have ok2:O.okQo ay (by_-ay) y0 y1 (O.ZaA ax (bx-ax) x0 x1 ⟨0,1⟩).num (O.ZaA ax (bx-ax) x0 x1 ⟨0,1⟩).den (O.ZaB ax (bx-ax) x0 x1 ⟨1,1⟩).num (O.ZaB ax (bx-ax) x0 x1 ⟨1,1⟩).den:=⟨⟨⟨C (by omega),C (by omega),C (by omega),C (by omega)⟩,C (by omega),C (by omega)⟩,b1.1.1,b1.1.2,b1.2.1,b1.2.2⟩
 by_cases hb:x0>=x1\/y0>=y1
 ·refine call9 (qEnt _ _ _ _ _ _ _ _ _ _ ⟨fun _ => ?_,fun k=>absurd hb k⟩)
  unfold O.entB;rw [if_pos hb]
 ·have e:O.entB x0 y0 x1 y1 ax ay bx by_=bif O.ZeY ax (bx-ax) x0 x1 then (bif O.ZeY ay (by_-ay) y0 y1 then O.less (O.ZaA ay (by_-ay) y0 y1 (O.ZaA ax (bx-ax) x0 x1 ⟨0,1⟩)) (O.ZaB ay (by_-ay) y0 y1 (O.ZaB ax (bx-ax) x0 x1 ⟨1,1⟩)) else false) else false:=if_neg hb
  rw [e]
  refine call9 (qEnt _ _ _ _ _ _ _ _ _ _ ⟨fun k=>absurd k hb,fun _=>⟨by omega,fun k=>⟨ok1,by omega,fun j=>⟨ok2,⟨b2.1.1,b2.1.2,b2.2.1,b2.2.2⟩,?_⟩,fun j=>⟨ok2,?_⟩⟩,fun k=>⟨ok1,by omega,fun j=>⟨fun x=>absurd x (by decide),?_⟩,fun j=>⟨fun x=>absurd x (by decide),?_⟩⟩⟩⟩)
  ·rw [k,j];rfl
  ·rw [k,show O.ZeY ay (by_-ay) y0 y1=false by simpa using j];rfl
  ·rw [show O.ZeY ax (bx-ax) x0 x1=false by simpa using k];rfl
  ·rw [show O.ZeY ax (bx-ax) x0 x1=false by simpa using k];rfl
namespace O
def crnR (c:Bx):List Gp:=[⟨c.x0,c.y0⟩,⟨c.x0,c.y1⟩,⟨c.x1,c.y0⟩,⟨c.x1,c.y1⟩]
def nodR (bs:List Bx) (a b:Gp):List Gp:=a::bs.flatMap crnR++[b]
end O
end Go.Av

namespace Go.Av
open Go.Proofs
set_option maxRecDepth 100000
def fi12:Fi:=⟨117,[.tmp 6]⟩
def kp12:List (Nat × List Nat):=[(0,[0,4,5]),(1,[0,4,5,7]),(2,[0,4,5,7,13]),(3,[0,4,5,7]),(4,[0,4,5,7,39]),(5,[6]),(6,[0,4,5,42]),(7,[6]),(8,[0,4,5,60]),(9,[6]),(10,[0,4,5,8]),(11,[0,4,5,8,64]),(12,[0,4,5,8]),(13,[0,4,5,8,96]),(14,[6]),(15,[0,4,5,9]),(16,[0,4,5,9,100]),(17,[0,4,5,9]),(18,[0,4,5,9,116]),(19,[6]),(20,[6])]
def qErr_at (f:Bool) (bs:List Bx) (ax ay bx by_:Int) (Q:AV->Heap->Prop):Prop:=Wp M1 (.run fi12 (atC (cd Try.f12) []) [(0,.vec f 5 (bs.map Bx.a)),(1,.agg [.int .i64 ax,.int .i64 ay]),(2,.agg [.int .i64 bx,.int .i64 by_])] []) Q
def Zee (f:Bool) (bs:List Bx) (ax ay bx by_:Int) (i:Int) (Q:AV->Heap->Prop):Prop:=Wp M1 (.run fi12 (atC (cd Try.f12) [1,0,1,0,0]) [(0,.vec f 5 (bs.map Bx.a)),(4,.ptr 0 0 0 0),(5,.ptr 1 0 0 0),(7,.int .i64 i)] [⟨[.agg [.int .i64 ax,.int .i64 ay]],2,0,false,false⟩,⟨[.agg [.int .i64 bx,.int .i64 by_]],2,0,false,false⟩]) Q
def Zdu (f:Bool) (bs:List Bx) (ax ay bx by_:Int) (i:Int) (Q:AV->Heap->Prop):Prop:=Wp M1 (.run fi12 (atC (cd Try.f12) [1,1,1,1,0,1,0,0]) [(0,.vec f 5 (bs.map Bx.a)),(4,.ptr 0 0 0 0),(5,.ptr 1 0 0 0),(8,.int .i64 i)] [⟨[.agg [.int .i64 ax,.int .i64 ay]],2,0,false,false⟩,⟨[.agg [.int .i64 bx,.int .i64 by_]],2,0,false,false⟩]) Q
def Zdt (f:Bool) (bs:List Bx) (ax ay bx by_:Int) (i:Int) (Q:AV->Heap->Prop):Prop:=Wp M1 (.run fi12 (atC (cd Try.f12) [1,1,1,1,1,0,1,0,0]) [(0,.vec f 5 (bs.map Bx.a)),(4,.ptr 0 0 0 0),(5,.ptr 1 0 0 0),(9,.int .i64 i)] [⟨[.agg [.int .i64 ax,.int .i64 ay]],2,0,false,false⟩,⟨[.agg [.int .i64 bx,.int .i64 by_]],2,0,false,false⟩]) Q
theorem call12 {args:List AV} {d:AV} (h:wc M1 fi12 Try.f12 args d):Ev M1 (.pure 12 args) d []:=pcl _ _ (by kernel_rfl) h
theorem qErr (f:Bool) (bs:List Bx) (ax ay bx by_:Int)  (dq:AV) (H :
  Zee f bs ax ay bx by_ 0 (Zaf dq)) :
 qErr_at f bs ax ay bx by_ (Zaf dq):=by
 unfold qErr_at
 exact Zae (G:=Zad kp12 [] []) 1000 [] ⟨(atC (cd Try.f12) [1,0,1,0,0]),[(0,AV.vec f 5 (List.map Bx.a bs)),(4,AV.ptr 0 0 0 0),(5,AV.ptr 1 0 0 0),(7,vi 0)],[⟨[ag [vi ax,vi ay]],2,0,false,false⟩,⟨[ag [vi bx,vi by_]],2,0,false,false⟩],_,[],_⟩ (by kernel_rfl) b0 q0 c0 H
noncomputable abbrev zNqE4 (bs:List Bx) (i:Int):=ag [vi (bs.getD i.toNat default).x0,vi (bs.getD i.toNat default).y0,vi (bs.getD i.toNat default).x1,vi (bs.getD i.toNat default).y1,vi (bs.getD i.toNat default).top]
noncomputable abbrev zNqE5 (ax:Int) (ay:Int):=ag [vi ax,vi ay]
noncomputable abbrev zNqE6 (bx:Int) (by_:Int):=ag [vi bx,vi by_]
theorem qErrA (f:Bool) (bs:List Bx) (ax ay bx by_:Int) (i:Int)  (dq:AV) (H :
  ((i<(↑bs.length:Int))->(0<=i) /\
   (i.toNat<bs.length) /\
   ((((bs.getD i.toNat default).x0>(bs.getD i.toNat default).x1)\/((bs.getD i.toNat default).y0>(bs.getD i.toNat default).y1))->vi 1=dq) /\
   (¬(((bs.getD i.toNat default).x0>(bs.getD i.toNat default).x1)\/((bs.getD i.toNat default).y0>(bs.getD i.toNat default).y1))->(-9223372036854775808<=i+1/\i+1<=9223372036854775807) /\
    Zee f bs ax ay bx by_ (i+1) (Zaf dq))) /\
  (¬(i<(↑bs.length:Int))->(((↑bs.length:Int)>8)->vi 3=dq) /\
   (¬((↑bs.length:Int)>8)->(((((O.fr1 ax)\/(O.fr1 ay))\/(O.fr1 bx))\/(O.fr1 by_))->vi 11=dq) /\
    (¬((((O.fr1 ax)\/(O.fr1 ay))\/(O.fr1 bx))\/(O.fr1 by_))->Zdu f bs ax ay bx by_ 0 (Zaf dq))))) :
 Zee f bs ax ay bx by_ i (Zaf dq):=by
 unfold Zee
 have w1:(List.map Bx.a bs).length=bs.length:=List.length_map ..
 have i2:(decide (i<(↑(List.map Bx.a bs).length:Int)))=true ↔ (i<(↑bs.length:Int)):=(by (try rw [w1]);all_goals exact Zab)
 rcases xq H with ⟨d3,H⟩|⟨d3,H⟩
 ·obtain ⟨k5,H⟩:=H
  have i6:(decide (i.toNat<(List.map Bx.a bs).length))=true ↔ (i.toNat<bs.length):=(by (try rw [w1]);all_goals exact Zab)
  obtain ⟨k7,H⟩:=H
  have i9:(decide (i.toNat<(List.map Bx.a bs).length))=true ↔ (i.toNat<bs.length):=(by (try rw [w1]);all_goals exact Zab)
  have i11:(!(decide ((bs.getD i.toNat default).x0>(bs.getD i.toNat default).x1)==false&&true)||decide (i.toNat<(List.map Bx.a bs).length))=true ↔ ((¬((bs.getD i.toNat default).x0>(bs.getD i.toNat default).x1))->(i.toNat<bs.length)):=(by (try rw [w1]);all_goals exact (Zbb (i_at (i_bf Zab)) Zab))
  have i13:(!(decide ((bs.getD i.toNat default).x0>(bs.getD i.toNat default).x1)==false&&true)||decide (i.toNat<(List.map Bx.a bs).length))=true ↔ ((¬((bs.getD i.toNat default).x0>(bs.getD i.toNat default).x1))->(i.toNat<bs.length)):=(by (try rw [w1]);all_goals exact (Zbb (i_at (i_bf Zab)) Zab))
  refine Zae (G:=Zad kp12 [(4,4,.elem (zNqE4 bs i)),(4,9,.elem (zNqE4 bs i)),(4,16,.elem (zNqE4 bs i)),(4,21,.elem (zNqE4 bs i))] []) 9 [true] ⟨(atC (cd Try.f12) [1,0,1,0,0,1,0,0,1]),[(0,AV.vec f 5 (List.map Bx.a bs)),(4,AV.ptr 0 0 0 0),(5,AV.ptr 1 0 0 0),(7,vi i),(39,vb (bif decide ((bs.getD i.toNat default).x0>(bs.getD i.toNat default).x1) then true else decide ((bs.getD i.toNat default).y0>(bs.getD i.toNat default).y1)))],[⟨[(zNqE5 ax ay)],2,0,false,false⟩,⟨[(zNqE6 bx by_)],2,0,false,false⟩],[(decide (i<(↑(List.map Bx.a bs).length:Int)))==true,decide (0<=i),decide (i.toNat<(List.map Bx.a bs).length),decide (0<=i),decide (i.toNat<(List.map Bx.a bs).length),!(decide ((bs.getD i.toNat default).x0>(bs.getD i.toNat default).x1)==false&&true)||decide (0<=i),!(decide ((bs.getD i.toNat default).x0>(bs.getD i.toNat default).x1)==false&&true)||decide (i.toNat<(List.map Bx.a bs).length),!(decide ((bs.getD i.toNat default).x0>(bs.getD i.toNat default).x1)==false&&true)||decide (0<=i),!(decide ((bs.getD i.toNat default).x0>(bs.getD i.toNat default).x1)==false&&true)||decide (i.toNat<(List.map Bx.a bs).length)],[((List.map Bx.a bs).get?Internal i.toNat=some (zNqE4 bs i)),((List.map Bx.a bs).get?Internal i.toNat=some (zNqE4 bs i)),((decide ((bs.getD i.toNat default).x0>(bs.getD i.toNat default).x1)==false&&true)=true->(List.map Bx.a bs).get?Internal i.toNat=some (zNqE4 bs i)),((decide ((bs.getD i.toNat default).x0>(bs.getD i.toNat default).x1)==false&&true)=true->(List.map Bx.a bs).get?Internal i.toNat=some (zNqE4 bs i))],_⟩ (by kernel_rfl) (bc (Zak (i2.2 d3)) (bc (Zab.2 k5) (bc (i6.2 k7) (bc (Zab.2 k5) (bc (i9.2 k7) (bc ((Zbb (i_at (i_bf Zab)) Zab).2 (fun _=>k5)) (bc (i11.2 (fun _=>k7)) (bc ((Zbb (i_at (i_bf Zab)) Zab).2 (fun _=>k5)) (bc (i13.2 (fun _=>k7)) b0))))))))) (qc (Zal k7) (qc (Zal k7) (qc (fun h=>Zal k7) (qc (fun h=>Zal k7) q0)))) c0 ?_
  rcases xq H with ⟨d17,H⟩|⟨d17,H⟩
  ·exact Zai (G:=Zad kp12 [] []) 1000 [true] (vi 1) (by kernel_rfl) (bc (Zak ((ZaC Zab Zab).2 d17)) b0) q0 c0 H
  ·obtain ⟨k18,H⟩:=H
   have w19:wi (i+1)=i+1:=wI64 k18
   exact Zae (G:=Zad kp12 [] []) 1000 [false] ⟨(atC (cd Try.f12) [1,0,1,0,0]),[(0,AV.vec f 5 (List.map Bx.a bs)),(4,AV.ptr 0 0 0 0),(5,AV.ptr 1 0 0 0),(7,vi (wi (i+1)))],[⟨[(zNqE5 ax ay)],2,0,false,false⟩,⟨[(zNqE6 bx by_)],2,0,false,false⟩],_,[],_⟩ (by kernel_rfl) (bc (Zah (fun h=>d17 ((ZaC Zab Zab).1 h))) b0) q0 c0 (by (try rw [w19]);all_goals exact H)
 ·have i20:(decide ((↑(List.map Bx.a bs).length:Int)>8))=true ↔ ((↑bs.length:Int)>8):=(by (try rw [w1]);all_goals exact Zab)
  rcases xq H with ⟨d21,H⟩|⟨d21,H⟩
  ·exact Zai (G:=Zad kp12 [] []) 1000 [false,true] (vi 3) (by kernel_rfl) (bc (Zah (fun h=>d3 (i2.1 h))) (bc (Zak (i20.2 d21)) b0)) q0 c0 H
  ·refine Zae (G:=Zad kp12 [(8,2,.call (vb (decide (O.fr1 ax))) none),(8,6,.call (vb (decide (O.fr1 ay))) none),(8,11,.call (vb (decide (O.fr1 bx))) none),(8,16,.call (vb (decide (O.fr1 by_))) none)] []) 13 [false,false] ⟨(atC (cd Try.f12) [1,1,1,0,1]),[(0,AV.vec f 5 (List.map Bx.a bs)),(4,AV.ptr 0 0 0 0),(5,AV.ptr 1 0 0 0),(60,vb (bif bif bif decide (O.fr1 ax) then true else decide (O.fr1 ay) then true else decide (O.fr1 bx) then true else decide (O.fr1 by_)))],[⟨[(zNqE5 ax ay)],2,0,false,false⟩,⟨[(zNqE6 bx by_)],2,0,false,false⟩],[(decide (i<(↑(List.map Bx.a bs).length:Int)))==false,(decide ((↑(List.map Bx.a bs).length:Int)>8))==false,true,!(decide (O.fr1 ax)==false&&true)||true,!((bif decide (O.fr1 ax) then true else decide (O.fr1 ay))==false&&true)||true,!((bif bif decide (O.fr1 ax) then true else decide (O.fr1 ay) then true else decide (O.fr1 bx))==false&&true)||true],[],[⟨true,false,45,[vi ax],[],vb (decide (O.fr1 ax)),[]⟩,⟨decide (O.fr1 ax)==false&&true&&true,false,45,[vi ay],[],vb (decide (O.fr1 ay)),[]⟩,⟨(bif decide (O.fr1 ax) then true else decide (O.fr1 ay))==false&&true&&true,false,45,[vi bx],[],vb (decide (O.fr1 bx)),[]⟩,⟨(bif bif decide (O.fr1 ax) then true else decide (O.fr1 ay) then true else decide (O.fr1 bx))==false&&true&&true,false,45,[vi by_],[],vb (decide (O.fr1 by_)),[]⟩]⟩ (by kernel_rfl) (bc (Zah (fun h=>d3 (i2.1 h))) (bc (Zah (fun h=>d21 (i20.1 h))) (bc rfl (bc (Bool.or_true _) (bc (Bool.or_true _) (bc (Bool.or_true _) b0)))))) q0 (cc (fun _=>(@ev45 ax)) (cc (fun hc=>((@ev45 ay):Ev M1 (Conf.pure 45 [vi ay]) (vb (decide (O.fr1 ay))) [])) (cc (fun hc=>((@ev45 bx):Ev M1 (Conf.pure 45 [vi bx]) (vb (decide (O.fr1 bx))) [])) (cc (fun hc=>((@ev45 by_):Ev M1 (Conf.pure 45 [vi by_]) (vb (decide (O.fr1 by_))) [])) c0)))) ?_
   rcases xq H with ⟨d26,H⟩|⟨d26,H⟩
   ·exact Zai (G:=Zad kp12 [] []) 1000 [true] (vi 11) (by kernel_rfl) (bc (Zak ((ZaC (ZaC (ZaC Zab Zab) Zab) Zab).2 d26)) b0) q0 c0 H
   ·exact Zae (G:=Zad kp12 [] []) 1000 [false] ⟨(atC (cd Try.f12) [1,1,1,1,0,1,0,0]),[(0,AV.vec f 5 (List.map Bx.a bs)),(4,AV.ptr 0 0 0 0),(5,AV.ptr 1 0 0 0),(8,vi 0)],[⟨[(zNqE5 ax ay)],2,0,false,false⟩,⟨[(zNqE6 bx by_)],2,0,false,false⟩],_,[],_⟩ (by kernel_rfl) (bc (Zah (fun h=>d26 ((ZaC (ZaC (ZaC Zab Zab) Zab) Zab).1 h))) b0) q0 c0 H
noncomputable abbrev zNqE7 (bs:List Bx) (i:Int):=ag [vi (bs.getD i.toNat default).x0,vi (bs.getD i.toNat default).y0,vi (bs.getD i.toNat default).x1,vi (bs.getD i.toNat default).y1,vi (bs.getD i.toNat default).top]
noncomputable abbrev zNqE8 (bs:List Bx) (i:Int):=bif bif decide (O.fr1 (bs.getD i.toNat default).x0) then true else decide (O.fr1 (bs.getD i.toNat default).y0) then true else decide (O.fr1 (bs.getD i.toNat default).x1)
noncomputable abbrev zNqE9 (bs:List Bx) (i:Int):=bif decide (O.fr1 (bs.getD i.toNat default).x0) then true else decide (O.fr1 (bs.getD i.toNat default).y0)
theorem qErrB (f:Bool) (bs:List Bx) (ax ay bx by_:Int) (i:Int)  (dq:AV) (H :
  ((i<(↑bs.length:Int))->(0<=i) /\
   (i.toNat<bs.length) /\
   (((((O.fr1 (bs.getD i.toNat default).x0)\/(O.fr1 (bs.getD i.toNat default).y0))\/(O.fr1 (bs.getD i.toNat default).x1))\/(O.fr1 (bs.getD i.toNat default).y1))->vi 11=dq) /\
   (¬((((O.fr1 (bs.getD i.toNat default).x0)\/(O.fr1 (bs.getD i.toNat default).y0))\/(O.fr1 (bs.getD i.toNat default).x1))\/(O.fr1 (bs.getD i.toNat default).y1))->(-9223372036854775808<=i+1/\i+1<=9223372036854775807) /\
    Zdu f bs ax ay bx by_ (i+1) (Zaf dq))) /\
  (¬(i<(↑bs.length:Int))->Zdt f bs ax ay bx by_ 0 (Zaf dq))) :
 Zdu f bs ax ay bx by_ i (Zaf dq):=by
 unfold Zdu
 have w1:(List.map Bx.a bs).length=bs.length:=List.length_map ..
 have i2:(decide (i<(↑(List.map Bx.a bs).length:Int)))=true ↔ (i<(↑bs.length:Int)):=(by (try rw [w1]);all_goals exact Zab)
 rcases xq H with ⟨d3,H⟩|⟨d3,H⟩
 ·obtain ⟨k8,H⟩:=H
  have i9:(decide (i.toNat<(List.map Bx.a bs).length))=true ↔ (i.toNat<bs.length):=(by (try rw [w1]);all_goals exact Zab)
  obtain ⟨k10,H⟩:=H
  have i12:(!(decide (O.fr1 (bs.getD i.toNat default).x0)==false&&true)||decide (i.toNat<(List.map Bx.a bs).length))=true ↔ ((¬(O.fr1 (bs.getD i.toNat default).x0))->(i.toNat<bs.length)):=(by (try rw [w1]);all_goals exact (Zbb (i_at (i_bf Zab)) Zab))
  have i14:(!((zNqE9 bs i)==false&&true)||decide (i.toNat<(List.map Bx.a bs).length))=true ↔ ((¬((O.fr1 (bs.getD i.toNat default).x0)\/(O.fr1 (bs.getD i.toNat default).y0)))->(i.toNat<bs.length)):=(by (try rw [w1]);all_goals exact (Zbb (i_at (i_bf (ZaC Zab Zab))) Zab))
  have i16:(!((zNqE8 bs i)==false&&true)||decide (i.toNat<(List.map Bx.a bs).length))=true ↔ ((¬(((O.fr1 (bs.getD i.toNat default).x0)\/(O.fr1 (bs.getD i.toNat default).y0))\/(O.fr1 (bs.getD i.toNat default).x1)))->(i.toNat<bs.length)):=(by (try rw [w1]);all_goals exact (Zbb (i_at (i_bf (ZaC (ZaC Zab Zab) Zab))) Zab))
  refine Zae (G:=Zad kp12 [(13,4,.elem (zNqE7 bs i)),(13,5,.call (vb (decide (O.fr1 (bs.getD i.toNat default).x0))) none),(13,11,.elem (zNqE7 bs i)),(13,12,.call (vb (decide (O.fr1 (bs.getD i.toNat default).y0))) none),(13,19,.elem (zNqE7 bs i)),(13,20,.call (vb (decide (O.fr1 (bs.getD i.toNat default).x1))) none),(13,27,.elem (zNqE7 bs i)),(13,28,.call (vb (decide (O.fr1 (bs.getD i.toNat default).y1))) none)] []) 9 [true] ⟨(atC (cd Try.f12) [1,1,1,1,0,1,0,0,1,0,0,1]),[(0,AV.vec f 5 (List.map Bx.a bs)),(4,AV.ptr 0 0 0 0),(5,AV.ptr 1 0 0 0),(8,vi i),(96,vb (bif bif bif decide (O.fr1 (bs.getD i.toNat default).x0) then true else decide (O.fr1 (bs.getD i.toNat default).y0) then true else decide (O.fr1 (bs.getD i.toNat default).x1) then true else decide (O.fr1 (bs.getD i.toNat default).y1)))],[⟨[ag [vi ax,vi ay]],2,0,false,false⟩,⟨[ag [vi bx,vi by_]],2,0,false,false⟩],[(decide (i<(↑(List.map Bx.a bs).length:Int)))==true,decide (0<=i),decide (i.toNat<(List.map Bx.a bs).length),!(decide (O.fr1 (bs.getD i.toNat default).x0)==false&&true)||decide (0<=i),!(decide (O.fr1 (bs.getD i.toNat default).x0)==false&&true)||decide (i.toNat<(List.map Bx.a bs).length),!((zNqE9 bs i)==false&&true)||decide (0<=i),!((zNqE9 bs i)==false&&true)||decide (i.toNat<(List.map Bx.a bs).length),!((zNqE8 bs i)==false&&true)||decide (0<=i),!((zNqE8 bs i)==false&&true)||decide (i.toNat<(List.map Bx.a bs).length)],[((List.map Bx.a bs).get?Internal i.toNat=some (zNqE7 bs i)),((decide (O.fr1 (bs.getD i.toNat default).x0)==false&&true)=true->(List.map Bx.a bs).get?Internal i.toNat=some (zNqE7 bs i)),(((zNqE9 bs i)==false&&true)=true->(List.map Bx.a bs).get?Internal i.toNat=some (zNqE7 bs i)),(((zNqE8 bs i)==false&&true)=true->(List.map Bx.a bs).get?Internal i.toNat=some (zNqE7 bs i))],[⟨true,false,45,[vi (bs.getD i.toNat default).x0],[],vb (decide (O.fr1 (bs.getD i.toNat default).x0)),[]⟩,⟨decide (O.fr1 (bs.getD i.toNat default).x0)==false&&true&&true,false,45,[vi (bs.getD i.toNat default).y0],[],vb (decide (O.fr1 (bs.getD i.toNat default).y0)),[]⟩,⟨(zNqE9 bs i)==false&&true&&true,false,45,[vi (bs.getD i.toNat default).x1],[],vb (decide (O.fr1 (bs.getD i.toNat default).x1)),[]⟩,⟨(zNqE8 bs i)==false&&true&&true,false,45,[vi (bs.getD i.toNat default).y1],[],vb (decide (O.fr1 (bs.getD i.toNat default).y1)),[]⟩]⟩ (by kernel_rfl) (bc (Zak (i2.2 d3)) (bc (Zab.2 k8) (bc (i9.2 k10) (bc ((Zbb (i_at (i_bf Zab)) Zab).2 (fun _=>k8)) (bc (i12.2 (fun _=>k10)) (bc ((Zbb (i_at (i_bf (ZaC Zab Zab))) Zab).2 (fun _=>k8)) (bc (i14.2 (fun _=>k10)) (bc ((Zbb (i_at (i_bf (ZaC (ZaC Zab Zab) Zab))) Zab).2 (fun _=>k8)) (bc (i16.2 (fun _=>k10)) b0))))))))) (qc (Zal k10) (qc (fun h=>Zal k10) (qc (fun h=>Zal k10) (qc (fun h=>Zal k10) q0)))) (cc (fun _=>(@ev45 ((bs.getD i.toNat default).x0))) (cc (fun hc=>((@ev45 ((bs.getD i.toNat default).y0)):Ev M1 (Conf.pure 45 [vi (bs.getD i.toNat default).y0]) (vb (decide (O.fr1 (bs.getD i.toNat default).y0))) [])) (cc (fun hc=>((@ev45 ((bs.getD i.toNat default).x1)):Ev M1 (Conf.pure 45 [vi (bs.getD i.toNat default).x1]) (vb (decide (O.fr1 (bs.getD i.toNat default).x1))) [])) (cc (fun hc=>((@ev45 ((bs.getD i.toNat default).y1)):Ev M1 (Conf.pure 45 [vi (bs.getD i.toNat default).y1]) (vb (decide (O.fr1 (bs.getD i.toNat default).y1))) [])) c0)))) ?_
  rcases xq H with ⟨d21,H⟩|⟨d21,H⟩
  ·exact Zai (G:=Zad kp12 [] []) 1000 [true] (vi 11) (by kernel_rfl) (bc (Zak ((ZaC (ZaC (ZaC Zab Zab) Zab) Zab).2 d21)) b0) q0 c0 H
  ·obtain ⟨k22,H⟩:=H
   have w23:wi (i+1)=i+1:=wI64 k22
   exact Zae (G:=Zad kp12 [] []) 1000 [false] ⟨(atC (cd Try.f12) [1,1,1,1,0,1,0,0]),[(0,AV.vec f 5 (List.map Bx.a bs)),(4,AV.ptr 0 0 0 0),(5,AV.ptr 1 0 0 0),(8,vi (wi (i+1)))],[⟨[ag [vi ax,vi ay]],2,0,false,false⟩,⟨[ag [vi bx,vi by_]],2,0,false,false⟩],_,[],_⟩ (by kernel_rfl) (bc (Zah (fun h=>d21 ((ZaC (ZaC (ZaC Zab Zab) Zab) Zab).1 h))) b0) q0 c0 (by (try rw [w23]);all_goals exact H)
 ·exact Zae (G:=Zad kp12 [] []) 1000 [false] ⟨(atC (cd Try.f12) [1,1,1,1,1,0,1,0,0]),[(0,AV.vec f 5 (List.map Bx.a bs)),(4,AV.ptr 0 0 0 0),(5,AV.ptr 1 0 0 0),(9,vi 0)],[⟨[ag [vi ax,vi ay]],2,0,false,false⟩,⟨[ag [vi bx,vi by_]],2,0,false,false⟩],_,[],_⟩ (by kernel_rfl) (bc (Zah (fun h=>d3 (i2.1 h))) b0) q0 c0 H
noncomputable abbrev Zfy (bs:List Bx) (i:Int):=ag [vi (bs.getD i.toNat default).x0,vi (bs.getD i.toNat default).y0,vi (bs.getD i.toNat default).x1,vi (bs.getD i.toNat default).y1,vi (bs.getD i.toNat default).top]
noncomputable abbrev ZdH (bs:List Bx) (i:Int) (ax:Int) (ay:Int):=O.insB (bs.getD i.toNat default).x0 (bs.getD i.toNat default).y0 (bs.getD i.toNat default).x1 (bs.getD i.toNat default).y1 ax ay
noncomputable abbrev zNqE12 (bs:List Bx) (i:Int) (bx:Int) (by_:Int):=O.insB (bs.getD i.toNat default).x0 (bs.getD i.toNat default).y0 (bs.getD i.toNat default).x1 (bs.getD i.toNat default).y1 bx by_
noncomputable abbrev zNqE13 (bx:Int) (by_:Int):=ag [vi bx,vi by_]
theorem qErrC (f:Bool) (bs:List Bx) (ax ay bx by_:Int) (i:Int)  (dq:AV) (H :
  ((i<(↑bs.length:Int))->(0<=i) /\
   (i.toNat<bs.length) /\
   (((O.insB (bs.getD i.toNat default).x0 (bs.getD i.toNat default).y0 (bs.getD i.toNat default).x1 (bs.getD i.toNat default).y1 ax ay)\/(O.insB (bs.getD i.toNat default).x0 (bs.getD i.toNat default).y0 (bs.getD i.toNat default).x1 (bs.getD i.toNat default).y1 bx by_))->vi 15=dq) /\
   (¬((O.insB (bs.getD i.toNat default).x0 (bs.getD i.toNat default).y0 (bs.getD i.toNat default).x1 (bs.getD i.toNat default).y1 ax ay)\/(O.insB (bs.getD i.toNat default).x0 (bs.getD i.toNat default).y0 (bs.getD i.toNat default).x1 (bs.getD i.toNat default).y1 bx by_))->(-9223372036854775808<=i+1/\i+1<=9223372036854775807) /\
    Zdt f bs ax ay bx by_ (i+1) (Zaf dq))) /\
  (¬(i<(↑bs.length:Int))->vi 0=dq)) :
 Zdt f bs ax ay bx by_ i (Zaf dq):=by
 unfold Zdt
 have w1:(List.map Bx.a bs).length=bs.length:=List.length_map ..
 have i2:(decide (i<(↑(List.map Bx.a bs).length:Int)))=true ↔ (i<(↑bs.length:Int)):=(by (try rw [w1]);all_goals exact Zab)
 rcases xq H with ⟨d3,H⟩|⟨d3,H⟩
 ·obtain ⟨k6,H⟩:=H
  have i7:(decide (i.toNat<(List.map Bx.a bs).length))=true ↔ (i.toNat<bs.length):=(by (try rw [w1]);all_goals exact Zab)
  obtain ⟨k8,H⟩:=H
  have i10:(!(decide (ZdH bs i ax ay)==false&&true)||decide (i.toNat<(List.map Bx.a bs).length))=true ↔ ((¬(ZdH bs i ax ay))->(i.toNat<bs.length)):=(by (try rw [w1]);all_goals exact (Zbb (i_at (i_bf Zab)) Zab))
  refine Zae (G:=Zad kp12 [(18,3,.elem ((Zfy bs i))),(18,5,.call (vb (decide (ZdH bs i ax ay))) none),(18,10,.elem ((Zfy bs i))),(18,12,.call (vb (decide (zNqE12 bs i bx by_))) none)] []) 9 [true] ⟨(atC (cd Try.f12) [1,1,1,1,1,0,1,0,0,1,0,0,1]),[(0,AV.vec f 5 (List.map Bx.a bs)),(4,AV.ptr 0 0 0 0),(5,AV.ptr 1 0 0 0),(9,vi i),(116,vb (bif decide (ZdH bs i ax ay) then true else decide (zNqE12 bs i bx by_)))],[⟨[ag [vi ax,vi ay]],2,0,false,false⟩,⟨[(zNqE13 bx by_)],2,0,false,false⟩],[(decide (i<(↑(List.map Bx.a bs).length:Int)))==true,decide (0<=i),decide (i.toNat<(List.map Bx.a bs).length),true,!(decide (ZdH bs i ax ay)==false&&true)||decide (0<=i),!(decide (ZdH bs i ax ay)==false&&true)||decide (i.toNat<(List.map Bx.a bs).length),!(decide (ZdH bs i ax ay)==false&&true)||true],[((List.map Bx.a bs).get?Internal i.toNat=some ((Zfy bs i))),((decide (ZdH bs i ax ay)==false&&true)=true->(List.map Bx.a bs).get?Internal i.toNat=some ((Zfy bs i)))],[⟨true,false,36,[(Zfy bs i),ag [vi ax,vi ay]],[],vb (decide (ZdH bs i ax ay)),[]⟩,⟨decide (ZdH bs i ax ay)==false&&true&&true,false,36,[(Zfy bs i),(zNqE13 bx by_)],[],vb (decide (zNqE12 bs i bx by_)),[]⟩]⟩ (by kernel_rfl) (bc (Zak (i2.2 d3)) (bc (Zab.2 k6) (bc (i7.2 k8) (bc rfl (bc ((Zbb (i_at (i_bf Zab)) Zab).2 (fun _=>k6)) (bc (i10.2 (fun _=>k8)) (bc (Bool.or_true _) b0))))))) (qc (Zal k8) (qc (fun h=>Zal k8) q0)) (cc (fun _=>(@ev36 ((bs.getD i.toNat default).x0) ((bs.getD i.toNat default).y0) ((bs.getD i.toNat default).x1) ((bs.getD i.toNat default).y1) ((bs.getD i.toNat default).top) ax ay)) (cc (fun hc=>((@ev36 ((bs.getD i.toNat default).x0) ((bs.getD i.toNat default).y0) ((bs.getD i.toNat default).x1) ((bs.getD i.toNat default).y1) ((bs.getD i.toNat default).top) bx by_):Ev M1 (Conf.pure 36 [(Zfy bs i),(zNqE13 bx by_)]) (vb (decide (zNqE12 bs i bx by_))) [])) c0)) ?_
  rcases xq H with ⟨d13,H⟩|⟨d13,H⟩
  ·exact Zai (G:=Zad kp12 [] []) 1000 [true] (vi 15) (by kernel_rfl) (bc (Zak ((ZaC Zab Zab).2 d13)) b0) q0 c0 H
  ·obtain ⟨k14,H⟩:=H
   have w15:wi (i+1)=i+1:=wI64 k14
   exact Zae (G:=Zad kp12 [] []) 1000 [false] ⟨(atC (cd Try.f12) [1,1,1,1,1,0,1,0,0]),[(0,AV.vec f 5 (List.map Bx.a bs)),(4,AV.ptr 0 0 0 0),(5,AV.ptr 1 0 0 0),(9,vi (wi (i+1)))],[⟨[ag [vi ax,vi ay]],2,0,false,false⟩,⟨[(zNqE13 bx by_)],2,0,false,false⟩],_,[],_⟩ (by kernel_rfl) (bc (Zah (fun h=>d13 ((ZaC Zab Zab).1 h))) b0) q0 c0 (by (try rw [w15]);all_goals exact H)
 ·exact Zai (G:=Zad kp12 [] []) 1000 [false] (vi 0) (by kernel_rfl) (bc (Zah (fun h=>d3 (i2.1 h))) b0) q0 c0 H
end Go.Av

namespace Go.Av
open Go.Proofs
namespace O
def entX (c:Bx) (p q:Gp):Bool:=entB c.x0 c.y0 c.x1 c.y1 p.x p.y q.x q.y
def Zci (bs:List Bx) (p q:Gp):Prop:=∀ c ∈ bs,entX c p q=false
def ccp (p:Gp):Prop:=cc p.x/\cc p.y
def ccb (c:Bx):Prop:=cc c.x0/\cc c.y0/\cc c.x1/\cc c.y1
def okB8 (bs:List Bx):Prop:=bs.length<=100 /\ ∀ c ∈ bs,ccb c
def okP8 (l:List Gp):Prop:=l.length<=1000 /\ ∀ p ∈ l,ccp p
def bxI (c:Bx):Prop:=c.x0>c.x1\/c.y0>c.y1
def bxF (c:Bx):Prop:=fr4 c.x0 c.y0 c.x1 c.y1
def bxC (a b:Gp) (c:Bx):Prop:=insB c.x0 c.y0 c.x1 c.y1 a.x a.y\/insB c.x0 c.y0 c.x1 c.y1 b.x b.y
open Classical in
noncomputable def erI (bs:List Bx) (a b:Gp):Int:=
 if ∃ c ∈ bs,bxI c then 1 else if bs.length>8 then 3 else if fr4 a.x a.y b.x b.y then 11 else if ∃ c ∈ bs,bxF c then 11 else if ∃ c ∈ bs,bxC a b c then 15 else 0
end O
theorem dec_of {p:Prop} {inst:Decidable p} (h:(@decide p inst)=true):p:=of_decide_eq_true h
theorem dec_t {p:Prop} {inst:Decidable p} (h:p):(@decide p inst)=true:=decide_eq_true h
theorem dec_f {p:Prop} {inst:Decidable p} (h:¬p):(@decide p inst)=false:=decide_eq_false h
theorem nod_len (bs:List Bx) (a b:Gp):(O.nodR bs a b).length=4*bs.length+2:=by
 unfold O.nodR
 rw [List.length_append,List.length_cons,List.length_flatMap]
 have:(bs.map fun c=>(O.crnR c).length).sum=4*bs.length:=by
  induction bs with
  | nil=>rfl
  | cons c bs ih=>rw [List.map_cons,List.sum_cons,ih,List.length_cons];show 4+_=_;omega
 rw [this];rfl
theorem ex_at {α:Type} [Inhabited α] {l:List α} {p:α->Prop} {i:Nat} (h:i<l.length) (hp:p (l.getD i default)):∃ c ∈ l,p c:=⟨_,ZaZ h,hp⟩
theorem Zg2 {α:Type} [Inhabited α] {l:List α} {p:α->Prop} (h:∀ j,j<l.length->¬p (l.getD j default)):¬∃ c ∈ l,p c:=by
 rintro ⟨c,hc,hp⟩
 obtain ⟨j,hj2,rfl⟩:=List.mem_iff_getElem.1 hc
 have:=h j hj2
 rw [List.getD_eq_getElem?_getD,List.getElem?_eq_getElem hj2,Option.getD_some] at this
 exact this hp
theorem Zbw {p:Nat->Prop} {i:Nat} (h:∀ j,j<i->p j) (k:p i):∀ j,j<i+1->p j:=fun j hj=>by
 by_cases e:j=i
 ·subst e;exact k
 ·exact h j (by omega)
theorem er_C {f:Bool} {bs:List Bx} {ax ay bx by_:Int} (hb:bs.length<=100) {dq:AV} (yes:(∃ c ∈ bs,O.bxC ⟨ax,ay⟩ ⟨bx,by_⟩ c)->AV.int .i64 15=dq) (no:(¬∃ c ∈ bs,O.bxC ⟨ax,ay⟩ ⟨bx,by_⟩ c)->AV.int .i64 0=dq) (m:Nat):∀ i:Nat,i+m=bs.length->(∀ j,j<i->¬O.bxC ⟨ax,ay⟩ ⟨bx,by_⟩ (bs.getD j default))->Zdt f bs ax ay bx by_ i (Zaf dq):=by
 induction m with
 | zero=>exact fun i e hj=>qErrC _ _ _ _ _ _ _ _ ⟨fun x=>by omega,fun _=>no (Zg2 fun j h=>hj j (by omega))⟩
 | succ m ih =>
  intro i e hj
  have hi:i<bs.length:=by omega
  refine qErrC _ _ _ _ _ _ _ _ ⟨fun x => ?_,fun x=>by omega⟩
  rw [Int.toNat_natCast,show (i:Int)+1=((i+1:Nat):Int) by omega]
  exact ⟨by omega,hi,fun k=>yes (ex_at hi k),fun k=>⟨by omega,ih (i+1) (by omega) (Zbw hj k)⟩⟩
theorem er_B {f:Bool} {bs:List Bx} {ax ay bx by_:Int} (hb:bs.length<=100) {dq:AV} (yes:(∃ c ∈ bs,O.bxF c)->AV.int .i64 11=dq) (no:(¬∃ c ∈ bs,O.bxF c)->Zdt f bs ax ay bx by_ 0 (Zaf dq)) (m:Nat):∀ i:Nat,i+m=bs.length->(∀ j,j<i->¬O.bxF (bs.getD j default))->Zdu f bs ax ay bx by_ i (Zaf dq):=by
 induction m with
 | zero=>exact fun i e hj=>qErrB _ _ _ _ _ _ _ _ ⟨fun x=>by omega,fun _=>no (Zg2 fun j h=>hj j (by omega))⟩
 | succ m ih =>
  intro i e hj
  have hi:i<bs.length:=by omega
  refine qErrB _ _ _ _ _ _ _ _ ⟨fun x => ?_,fun x=>by omega⟩
  rw [Int.toNat_natCast,show (i:Int)+1=((i+1:Nat):Int) by omega]
  have F:((((O.fr1 (bs.getD i default).x0)\/(O.fr1 (bs.getD i default).y0))\/(O.fr1 (bs.getD i default).x1))\/(O.fr1 (bs.getD i default).y1)) ↔ O.bxF (bs.getD i default):=by unfold O.bxF O.fr4;simp only [or_assoc]
  rw [F]
  exact ⟨by omega,hi,fun k=>yes (ex_at hi k),fun k=>⟨by omega,ih (i+1) (by omega) (Zbw hj k)⟩⟩
theorem er_A {f:Bool} {bs:List Bx} {ax ay bx by_:Int} (hb:bs.length<=100) {dq:AV} (yes:(∃ c ∈ bs,O.bxI c)->AV.int .i64 1=dq) (no:(¬∃ c ∈ bs,O.bxI c)->(((bs.length:Int)>8)->AV.int .i64 3=dq)/\(¬((bs.length:Int)>8)->(O.fr4 ax ay bx by_->AV.int .i64 11=dq)/\(¬O.fr4 ax ay bx by_->Zdu f bs ax ay bx by_ 0 (Zaf dq)))) (m:Nat):∀ i:Nat,i+m=bs.length->(∀ j,j<i->¬O.bxI (bs.getD j default))->Zee f bs ax ay bx by_ i (Zaf dq):=by
 have F:((((O.fr1 ax)\/(O.fr1 ay))\/(O.fr1 bx))\/(O.fr1 by_)) ↔ O.fr4 ax ay bx by_:=by unfold O.fr4;simp only [or_assoc]
 induction m with
 | zero =>
  intro i e hj
  have n:=no (Zg2 fun j h=>hj j (by omega))
  refine qErrA _ _ _ _ _ _ _ _ ⟨fun x=>by omega,fun _ => ?_⟩
  rw [F];exact n
 | succ m ih =>
  intro i e hj
  have hi:i<bs.length:=by omega
  refine qErrA _ _ _ _ _ _ _ _ ⟨fun x => ?_,fun x=>by omega⟩
  rw [Int.toNat_natCast,show (i:Int)+1=((i+1:Nat):Int) by omega]
  exact ⟨by omega,hi,fun k=>yes (ex_at hi k),fun k=>⟨by omega,ih (i+1) (by omega) (Zbw hj k)⟩⟩
theorem ev12 (f:Bool) (bs:List Bx) (ax ay bx by_:Int) (h:bs.length<=100):Ev M1 (.pure 12 [.vec f 5 (bs.map Bx.a),.agg [.int .i64 ax,.int .i64 ay],.agg [.int .i64 bx,.int .i64 by_]]) (.int .i64 (O.erI bs ⟨ax,ay⟩ ⟨bx,by_⟩)) []:=by
 refine call12 (qErr _ _ _ _ _ _ _ (er_A h (fun k1 => ?_) (fun k1=>⟨fun k2 => ?_,fun k2=>⟨fun k3 => ?_,fun k3=>er_B h (fun k4 => ?_) (fun k4=>er_C h (fun k5 => ?_) (fun k5 => ?_) bs.length 0 (by omega) fun j h=>absurd h (Nat.not_lt_zero j)) bs.length 0 (by omega) fun j h=>absurd h (Nat.not_lt_zero j)⟩⟩) bs.length 0 (by omega) fun j h=>absurd h (Nat.not_lt_zero j)))
 ·unfold O.erI;rw [if_pos k1]
 ·unfold O.erI;rw [if_neg k1,if_pos (by omega)]
 ·unfold O.erI;rw [if_neg k1,if_neg (by omega),if_pos k3]
 ·unfold O.erI;rw [if_neg k1,if_neg (by omega),if_neg k3,if_pos k4]
 ·unfold O.erI;rw [if_neg k1,if_neg (by omega),if_neg k3,if_neg k4,if_pos k5]
 ·unfold O.erI;rw [if_neg k1,if_neg (by omega),if_neg k3,if_neg k4,if_neg k5]
end Go.Av

namespace Go.Av
open Go.Proofs
set_option maxRecDepth 100000
def fi38:Fi:=⟨9,[.tmp 4]⟩
def kp38:List (Nat × List Nat):=[(0,[0,1]),(1,[4])]
def fi39:Fi:=⟨15,[.tmp 2]⟩
def kp39:List (Nat × List Nat):=[(0,[1]),(1,[2])]
def fi41:Fi:=⟨13,[.tmp 2]⟩
def kp41:List (Nat × List Nat):=[(0,[1]),(1,[2])]
def fi43:Fi:=⟨9,[.tmp 4]⟩
def kp43:List (Nat × List Nat):=[(0,[1,2,3]),(1,[4])]
def qC1_at (x0 y0 x1 y1 tp:Int) (Q:AV->Heap->Prop):Prop:=Wp M1 (.run fi39 (atC (cd Try.f39) []) [(0,.agg [.int .i64 x0,.int .i64 y0,.int .i64 x1,.int .i64 y1,.int .i64 tp])] []) Q
def qC2_at (x0 y0 x1 y1 tp:Int) (Q:AV->Heap->Prop):Prop:=Wp M1 (.run fi41 (atC (cd Try.f41) []) [(0,.agg [.int .i64 x0,.int .i64 y0,.int .i64 x1,.int .i64 y1,.int .i64 tp])] []) Q
def qC31_at (x0 y0 x1 y1 tp:Int) (px py qx qy:Int) (Q:AV->Heap->Prop):Prop:=Wp M1 (.run fi43 (atC (cd Try.f43) []) [(0,.agg [.int .i64 x0,.int .i64 y0,.int .i64 x1,.int .i64 y1,.int .i64 tp]),(1,.eptr 2 [.agg [.int .i64 px,.int .i64 py]] 0 0),(2,.eptr 2 [.agg [.int .i64 qx,.int .i64 qy]] 0 0)] []) Q
def qCtA_at (f:Bool) (bs:List Bx) (Q:AV->Heap->Prop):Prop:=Wp M1 (.run fi38 (atC (cd Try.f38) []) [(0,.vec f 5 (bs.map Bx.a)),(1,.func (.func 39) [] [])] []) Q
def qCtB_at (f:Bool) (bs:List Bx) (Q:AV->Heap->Prop):Prop:=Wp M1 (.run fi38 (atC (cd Try.f38) []) [(0,.vec f 5 (bs.map Bx.a)),(1,.func (.func 41) [] [])] []) Q
def qCtC_at (f:Bool) (bs:List Bx) (px py qx qy:Int) (Q:AV->Heap->Prop):Prop:=Wp M1 (.run fi38 (atC (cd Try.f38) []) [(0,.vec f 5 (bs.map Bx.a)),(1,.func (.func 43) [] [.eptr 2 [.agg [.int .i64 px,.int .i64 py]] 0 0,.eptr 2 [.agg [.int .i64 qx,.int .i64 qy]] 0 0])] []) Q
theorem call38 {args:List AV} {d:AV} (h:wc M1 fi38 Try.f38 args d):Ev M1 (.pure 38 args) d []:=pcl _ _ (by kernel_rfl) h
theorem call39 {args:List AV} {d:AV} (h:wc M1 fi39 Try.f39 args d):Ev M1 (.pure 39 args) d []:=pcl _ _ (by kernel_rfl) h
theorem call41 {args:List AV} {d:AV} (h:wc M1 fi41 Try.f41 args d):Ev M1 (.pure 41 args) d []:=pcl _ _ (by kernel_rfl) h
theorem call43 {args:List AV} {d:AV} (h:wc M1 fi43 Try.f43 args d):Ev M1 (.pure 43 args) d []:=pcl _ _ (by kernel_rfl) h
theorem qC1 (x0 y0 x1 y1 tp:Int)  (dq:AV) (H :
  vb (bif decide (x0>x1) then true else decide (y0>y1))=dq) :
 qC1_at x0 y0 x1 y1 tp (Zaf dq):=by
 unfold qC1_at
 exact Zai (G:=Zad kp39 [] []) 1000 [] (asm:=[true,true,!(decide (x0>x1)==false&&true)||true,!(decide (x0>x1)==false&&true)||true]) (vb (bif decide (x0>x1) then true else decide (y0>y1))) (by kernel_rfl) (bc rfl (bc rfl (bc (Bool.or_true _) (bc (Bool.or_true _) b0)))) q0 c0 H
theorem qC2 (x0 y0 x1 y1 tp:Int)  (dq:AV) (H :
  vb (decide (O.fr4 x0 y0 x1 y1))=dq) :
 qC2_at x0 y0 x1 y1 tp (Zaf dq):=by
 unfold qC2_at
 exact Zai (G:=Zad kp41 [(1,9,.call (vb (decide (O.fr4 x0 y0 x1 y1))) none)] []) 1000 [] (vb (decide (O.fr4 x0 y0 x1 y1))) (by kernel_rfl) (bc rfl (bc rfl (bc rfl (bc rfl b0)))) q0 (ce (@ev40_d true x0 y0 x1 y1) c0) H
theorem qC31 (x0 y0 x1 y1 tp:Int) (px py qx qy:Int)  (dq:AV) (H :
  (O.cc8 x0 y0 x1 y1 px py qx qy) /\
  vb (O.entB x0 y0 x1 y1 px py qx qy)=dq) :
 qC31_at x0 y0 x1 y1 tp px py qx qy (Zaf dq):=by
 unfold qC31_at
 obtain ⟨k1,H⟩:=H
 exact Zai (G:=Zad kp43 [(1,3,.call (vb (O.entB x0 y0 x1 y1 px py qx qy)) none)] []) 1000 [] (vb (O.entB x0 y0 x1 y1 px py qx qy)) (by kernel_rfl) (bc rfl b0) q0 (ce (@ev9 x0 y0 x1 y1 tp px py qx qy k1) c0) H
theorem qCtA (f:Bool) (bs:List Bx)  (dq:AV) (H :
  ∃ (n1:Int),
  (Ev M1 (Conf.pure 59 [AV.vec f 5 (List.map Bx.a bs),AV.func (Fn.func 39) [] []]) (vi n1) []) /\
  vb (decide (n1>=0))=dq) :
 qCtA_at f bs (Zaf dq):=by
 unfold qCtA_at
 obtain ⟨n1,k1,H⟩:=H
 exact Zai (G:=Zad kp38 [(1,2,.call (vi n1) none)] []) 1000 [] (vb (decide (n1>=0))) (by kernel_rfl) b0 q0 (ce k1 c0) H
theorem qCtB (f:Bool) (bs:List Bx)  (dq:AV) (H :
  ∃ (n1:Int),
  (Ev M1 (Conf.pure 59 [AV.vec f 5 (List.map Bx.a bs),AV.func (Fn.func 41) [] []]) (vi n1) []) /\
  vb (decide (n1>=0))=dq) :
 qCtB_at f bs (Zaf dq):=by
 unfold qCtB_at
 obtain ⟨n1,k1,H⟩:=H
 exact Zai (G:=Zad kp38 [(1,2,.call (vi n1) none)] []) 1000 [] (vb (decide (n1>=0))) (by kernel_rfl) b0 q0 (ce k1 c0) H
theorem qCtC (f:Bool) (bs:List Bx) (px py qx qy:Int)  (dq:AV) (H :
  ∃ (n1:Int),
  (Ev M1 (Conf.pure 59 [AV.vec f 5 (List.map Bx.a bs),AV.func (Fn.func 43) [] [AV.eptr 2 [ag [vi px,vi py]] 0 0,AV.eptr 2 [ag [vi qx,vi qy]] 0 0]]) (vi n1) []) /\
  vb (decide (n1>=0))=dq) :
 qCtC_at f bs px py qx qy (Zaf dq):=by
 unfold qCtC_at
 obtain ⟨n1,k1,H⟩:=H
 exact Zai (G:=Zad kp38 [(1,2,.call (vi n1) none)] []) 1000 [] (vb (decide (n1>=0))) (by kernel_rfl) b0 q0 (ce k1 c0) H
end Go.Av

namespace Go.Av
open Go.Proofs
instance (c:Bx):Decidable (O.bxI c):=by unfold O.bxI;infer_instance
instance (c:Bx):Decidable (O.bxF c):=by unfold O.bxF;infer_instance
theorem ev39 (x0 y0 x1 y1 tp:Int):Ev M1 (.pure 39 [.agg [.int .i64 x0,.int .i64 y0,.int .i64 x1,.int .i64 y1,.int .i64 tp]]) (.bool (decide (O.bxI ⟨x0,y0,x1,y1,tp⟩))) []:=
 call39 (qC1 _ _ _ _ _ _ (congrArg AV.bool (by rw [dec_or];exact ZbU Iff.rfl)))
theorem ev41 (x0 y0 x1 y1 tp:Int):Ev M1 (.pure 41 [.agg [.int .i64 x0,.int .i64 y0,.int .i64 x1,.int .i64 y1,.int .i64 tp]]) (.bool (decide (O.bxF ⟨x0,y0,x1,y1,tp⟩))) []:=
 call41 (qC2 _ _ _ _ _ _ (congrArg AV.bool (ZbU Iff.rfl)))
theorem ev43 (x0 y0 x1 y1 tp px py qx qy:Int) (h:O.cc8 x0 y0 x1 y1 px py qx qy):Ev M1 (.pure 43 [.agg [.int .i64 x0,.int .i64 y0,.int .i64 x1,.int .i64 y1,.int .i64 tp],.eptr 2 [.agg [.int .i64 px,.int .i64 py]] 0 0,.eptr 2 [.agg [.int .i64 qx,.int .i64 qy]] 0 0]) (.bool (O.entX ⟨x0,y0,x1,y1,tp⟩ ⟨px,py⟩ ⟨qx,qy⟩)) []:=
 call43 (qC31 _ _ _ _ _ _ _ _ _ _ ⟨h,rfl⟩)
end Go.Av

namespace Go.Av
open Go.Proofs
set_option maxRecDepth 100000
def fi59:Fi:=⟨19,[.tmp 4]⟩
def kp59:List (Nat × List Nat):=[(0,[0,1]),(1,[0,1,7,8]),(2,[0,1,7,8,9]),(3,[0,1,5,7,8]),(4,[0,1,5,7,8,16]),(5,[4]),(6,[0,1,7,8]),(7,[4])]
def fi60:Fi:=⟨28,[]⟩
def kp60:List (Nat × List Nat):=[(0,[0,2,3]),(1,[0,2,3,9]),(2,[0,2,3]),(3,[0,2,3])]
def qIxA_at (f:Bool) (bs:List Bx) (Q:AV->Heap->Prop):Prop:=Wp M1 (.run fi59 (atC (cd Try.f59) []) [(0,.vec f 5 (bs.map Bx.a)),(1,.func (.func 39) [] [])] []) Q
def Zec (f:Bool) (bs:List Bx) (n i:Int) (Q:AV->Heap->Prop):Prop:=Wp M1 (.run fi59 (atC (cd Try.f59) [1,0,1,0,0]) [(0,.vec f 5 (bs.map Bx.a)),(1,.func (.func 39) [] []),(7,.int .i64 n),(8,.int .i64 i)] []) Q
def qIxB_at (f:Bool) (bs:List Bx) (Q:AV->Heap->Prop):Prop:=Wp M1 (.run fi59 (atC (cd Try.f59) []) [(0,.vec f 5 (bs.map Bx.a)),(1,.func (.func 41) [] [])] []) Q
def Zeb (f:Bool) (bs:List Bx) (n i:Int) (Q:AV->Heap->Prop):Prop:=Wp M1 (.run fi59 (atC (cd Try.f59) [1,0,1,0,0]) [(0,.vec f 5 (bs.map Bx.a)),(1,.func (.func 41) [] []),(7,.int .i64 n),(8,.int .i64 i)] []) Q
def qIxC_at (f:Bool) (bs:List Bx) (px py qx qy:Int) (Q:AV->Heap->Prop):Prop:=Wp M1 (.run fi59 (atC (cd Try.f59) []) [(0,.vec f 5 (bs.map Bx.a)),(1,.func (.func 43) [] [.eptr 2 [.agg [.int .i64 px,.int .i64 py]] 0 0,.eptr 2 [.agg [.int .i64 qx,.int .i64 qy]] 0 0])] []) Q
def Zea (f:Bool) (bs:List Bx) (px py qx qy:Int) (n i:Int) (Q:AV->Heap->Prop):Prop:=Wp M1 (.run fi59 (atC (cd Try.f59) [1,0,1,0,0]) [(0,.vec f 5 (bs.map Bx.a)),(1,.func (.func 43) [] [.eptr 2 [.agg [.int .i64 px,.int .i64 py]] 0 0,.eptr 2 [.agg [.int .i64 qx,.int .i64 qy]] 0 0]),(7,.int .i64 n),(8,.int .i64 i)] []) Q
def qRv_at (gs:List Gp) (v:Nat) (Q:AV->Heap->Prop):Prop:=Wp M1 (.run fi60 (atC (cd Try.f60) []) [(0,.row 0 v)] [⟨gs.map Gp.a,2,v,false,true⟩]) Q
def ZeF (gs:List Gp) (v:Nat) (i j:Int) (Q:AV->Heap->Prop):Prop:=Wp M1 (.run fi60 (atC (cd Try.f60) [1,0,0]) [(0,.row 0 v),(2,.int .i64 i),(3,.int .i64 j)] [⟨gs.map Gp.a,2,v,false,true⟩]) Q
theorem call59 {args:List AV} {d:AV} (h:wc M1 fi59 Try.f59 args d):Ev M1 (.pure 59 args) d []:=pcl _ _ (by kernel_rfl) h
theorem keepcall60 {args:List AV} {L:Heap} {v:AV} {K:Heap} (hk:ZbN L.length v K=true) (h:Wp M1 (.run fi60 [.code (cd Try.f60)] (ZaX 0 args) L) (Zbo v K)):Ev M1 (.own 60 args L) v K:=
 ZcA Try.f60 fi60 (by kernel_rfl) (by kernel_rfl) (by kernel_rfl) (by kernel_rfl) hk h
theorem qIxA (f:Bool) (bs:List Bx)  (dq:AV) (H :
  Zec f bs ((↑bs.length:Int)) 0 (Zaf dq)) :
 qIxA_at f bs (Zaf dq):=by
 unfold qIxA_at
 have w1:(List.map Bx.a bs).length=bs.length:=List.length_map ..
 exact Zae (G:=Zad kp59 [] []) 1000 [] ⟨(atC (cd Try.f59) [1,0,1,0,0]),[(0,AV.vec f 5 (List.map Bx.a bs)),(1,AV.func (Fn.func 39) [] []),(7,vi (↑(List.map Bx.a bs).length:Int)),(8,vi 0)],[],_,[],_⟩ (by kernel_rfl) b0 q0 c0 (by (try rw [w1]);all_goals exact H)
noncomputable abbrev zNqG1 (bs:List Bx) (i:Int):=ag [vi (bs.getD i.toNat default).x0,vi (bs.getD i.toNat default).y0,vi (bs.getD i.toNat default).x1,vi (bs.getD i.toNat default).y1,vi (bs.getD i.toNat default).top]
theorem qIxLA (f:Bool) (bs:List Bx) (n i:Int)  (dq:AV) (H :
  ((i<n)->(0<=i) /\
   (i.toNat<bs.length) /\
   ((O.bxI { x0:=(bs.getD i.toNat default).x0,y0:=(bs.getD i.toNat default).y0,x1:=(bs.getD i.toNat default).x1,y1:=(bs.getD i.toNat default).y1,top:=(bs.getD i.toNat default).top })->vi i=dq) /\
   (¬(O.bxI { x0:=(bs.getD i.toNat default).x0,y0:=(bs.getD i.toNat default).y0,x1:=(bs.getD i.toNat default).x1,y1:=(bs.getD i.toNat default).y1,top:=(bs.getD i.toNat default).top })->(-9223372036854775808<=i+1/\i+1<=9223372036854775807) /\
    Zec f bs n (i+1) (Zaf dq))) /\
  (¬(i<n)->vi (-1)=dq)) :
 Zec f bs n i (Zaf dq):=by
 unfold Zec
 rcases xq H with ⟨d2,H⟩|⟨d2,H⟩
 ·obtain ⟨k4,H⟩:=H
  have w5:(List.map Bx.a bs).length=bs.length:=List.length_map ..
  have i6:(decide (i.toNat<(List.map Bx.a bs).length))=true ↔ (i.toNat<bs.length):=(by (try rw [w5]);all_goals exact Zab)
  obtain ⟨k7,H⟩:=H
  refine Zae (G:=Zad kp59 [(4,4,.elem (zNqG1 bs i)),(4,5,.call (vb (decide (O.bxI { x0:=(bs.getD i.toNat default).x0,y0:=(bs.getD i.toNat default).y0,x1:=(bs.getD i.toNat default).x1,y1:=(bs.getD i.toNat default).y1,top:=(bs.getD i.toNat default).top }))) none)] []) 11 [true] ⟨(atC (cd Try.f59) [1,0,1,0,0,1,1,0,0,1,1]),[(0,AV.vec f 5 (List.map Bx.a bs)),(1,AV.func (Fn.func 39) [] []),(5,vi i),(7,vi n),(8,vi i),(16,vb (decide (O.bxI { x0:=(bs.getD i.toNat default).x0,y0:=(bs.getD i.toNat default).y0,x1:=(bs.getD i.toNat default).x1,y1:=(bs.getD i.toNat default).y1,top:=(bs.getD i.toNat default).top })))],[],_,[((List.map Bx.a bs).get?Internal i.toNat=some (zNqG1 bs i))],_⟩ (by kernel_rfl) (bc (Zak (Zab.2 d2)) (bc (Zab.2 k4) (bc (i6.2 k7) b0))) (qc (Zal k7) q0) (ce (@ev39 ((bs.getD i.toNat default).x0) ((bs.getD i.toNat default).y0) ((bs.getD i.toNat default).x1) ((bs.getD i.toNat default).y1) ((bs.getD i.toNat default).top)) c0) ?_
  rcases xq H with ⟨d9,H⟩|⟨d9,H⟩
  ·exact Zai (G:=Zad kp59 [] []) 1000 [true] (vi i) (by kernel_rfl) (bc (Zak (Zab.2 d9)) b0) q0 c0 H
  ·obtain ⟨k10,H⟩:=H
   have w11:wi (i+1)=i+1:=wI64 k10
   exact Zae (G:=Zad kp59 [] []) 1000 [false] ⟨(atC (cd Try.f59) [1,0,1,0,0]),[(0,AV.vec f 5 (List.map Bx.a bs)),(1,AV.func (Fn.func 39) [] []),(7,vi n),(8,vi (wi (i+1)))],[],_,[],_⟩ (by kernel_rfl) (bc (Zah (fun h=>d9 (Zab.1 h))) b0) q0 c0 (by (try rw [w11]);all_goals exact H)
 ·exact Zai (G:=Zad kp59 [] []) 1000 [false] (vi (-1)) (by kernel_rfl) (bc (Zah (fun h=>d2 (Zab.1 h))) b0) q0 c0 H
theorem qIxB (f:Bool) (bs:List Bx)  (dq:AV) (H :
  Zeb f bs ((↑bs.length:Int)) 0 (Zaf dq)) :
 qIxB_at f bs (Zaf dq):=by
 unfold qIxB_at
 have w1:(List.map Bx.a bs).length=bs.length:=List.length_map ..
 exact Zae (G:=Zad kp59 [] []) 1000 [] ⟨(atC (cd Try.f59) [1,0,1,0,0]),[(0,AV.vec f 5 (List.map Bx.a bs)),(1,AV.func (Fn.func 41) [] []),(7,vi (↑(List.map Bx.a bs).length:Int)),(8,vi 0)],[],_,[],_⟩ (by kernel_rfl) b0 q0 c0 (by (try rw [w1]);all_goals exact H)
noncomputable abbrev zNqG2 (bs:List Bx) (i:Int):=ag [vi (bs.getD i.toNat default).x0,vi (bs.getD i.toNat default).y0,vi (bs.getD i.toNat default).x1,vi (bs.getD i.toNat default).y1,vi (bs.getD i.toNat default).top]
theorem qIxLB (f:Bool) (bs:List Bx) (n i:Int)  (dq:AV) (H :
  ((i<n)->(0<=i) /\
   (i.toNat<bs.length) /\
   ((O.bxF { x0:=(bs.getD i.toNat default).x0,y0:=(bs.getD i.toNat default).y0,x1:=(bs.getD i.toNat default).x1,y1:=(bs.getD i.toNat default).y1,top:=(bs.getD i.toNat default).top })->vi i=dq) /\
   (¬(O.bxF { x0:=(bs.getD i.toNat default).x0,y0:=(bs.getD i.toNat default).y0,x1:=(bs.getD i.toNat default).x1,y1:=(bs.getD i.toNat default).y1,top:=(bs.getD i.toNat default).top })->(-9223372036854775808<=i+1/\i+1<=9223372036854775807) /\
    Zeb f bs n (i+1) (Zaf dq))) /\
  (¬(i<n)->vi (-1)=dq)) :
 Zeb f bs n i (Zaf dq):=by
 unfold Zeb
 rcases xq H with ⟨d2,H⟩|⟨d2,H⟩
 ·obtain ⟨k4,H⟩:=H
  have w5:(List.map Bx.a bs).length=bs.length:=List.length_map ..
  have i6:(decide (i.toNat<(List.map Bx.a bs).length))=true ↔ (i.toNat<bs.length):=(by (try rw [w5]);all_goals exact Zab)
  obtain ⟨k7,H⟩:=H
  refine Zae (G:=Zad kp59 [(4,4,.elem (zNqG2 bs i)),(4,5,.call (vb (decide (O.bxF { x0:=(bs.getD i.toNat default).x0,y0:=(bs.getD i.toNat default).y0,x1:=(bs.getD i.toNat default).x1,y1:=(bs.getD i.toNat default).y1,top:=(bs.getD i.toNat default).top }))) none)] []) 11 [true] ⟨(atC (cd Try.f59) [1,0,1,0,0,1,1,0,0,1,1]),[(0,AV.vec f 5 (List.map Bx.a bs)),(1,AV.func (Fn.func 41) [] []),(5,vi i),(7,vi n),(8,vi i),(16,vb (decide (O.bxF { x0:=(bs.getD i.toNat default).x0,y0:=(bs.getD i.toNat default).y0,x1:=(bs.getD i.toNat default).x1,y1:=(bs.getD i.toNat default).y1,top:=(bs.getD i.toNat default).top })))],[],_,[((List.map Bx.a bs).get?Internal i.toNat=some (zNqG2 bs i))],_⟩ (by kernel_rfl) (bc (Zak (Zab.2 d2)) (bc (Zab.2 k4) (bc (i6.2 k7) b0))) (qc (Zal k7) q0) (ce (@ev41 ((bs.getD i.toNat default).x0) ((bs.getD i.toNat default).y0) ((bs.getD i.toNat default).x1) ((bs.getD i.toNat default).y1) ((bs.getD i.toNat default).top)) c0) ?_
  rcases xq H with ⟨d9,H⟩|⟨d9,H⟩
  ·exact Zai (G:=Zad kp59 [] []) 1000 [true] (vi i) (by kernel_rfl) (bc (Zak (Zab.2 d9)) b0) q0 c0 H
  ·obtain ⟨k10,H⟩:=H
   have w11:wi (i+1)=i+1:=wI64 k10
   exact Zae (G:=Zad kp59 [] []) 1000 [false] ⟨(atC (cd Try.f59) [1,0,1,0,0]),[(0,AV.vec f 5 (List.map Bx.a bs)),(1,AV.func (Fn.func 41) [] []),(7,vi n),(8,vi (wi (i+1)))],[],_,[],_⟩ (by kernel_rfl) (bc (Zah (fun h=>d9 (Zab.1 h))) b0) q0 c0 (by (try rw [w11]);all_goals exact H)
 ·exact Zai (G:=Zad kp59 [] []) 1000 [false] (vi (-1)) (by kernel_rfl) (bc (Zah (fun h=>d2 (Zab.1 h))) b0) q0 c0 H
theorem qIxC (f:Bool) (bs:List Bx) (px py qx qy:Int)  (dq:AV) (H :
  Zea f bs px py qx qy ((↑bs.length:Int)) 0 (Zaf dq)) :
 qIxC_at f bs px py qx qy (Zaf dq):=by
 unfold qIxC_at
 have w1:(List.map Bx.a bs).length=bs.length:=List.length_map ..
 exact Zae (G:=Zad kp59 [] []) 1000 [] ⟨(atC (cd Try.f59) [1,0,1,0,0]),[(0,AV.vec f 5 (List.map Bx.a bs)),(1,AV.func (Fn.func 43) [] [AV.eptr 2 [ag [vi px,vi py]] 0 0,AV.eptr 2 [ag [vi qx,vi qy]] 0 0]),(7,vi (↑(List.map Bx.a bs).length:Int)),(8,vi 0)],[],_,[],_⟩ (by kernel_rfl) b0 q0 c0 (by (try rw [w1]);all_goals exact H)
noncomputable abbrev zNqG3 (bs:List Bx) (i:Int):=ag [vi (bs.getD i.toNat default).x0,vi (bs.getD i.toNat default).y0,vi (bs.getD i.toNat default).x1,vi (bs.getD i.toNat default).y1,vi (bs.getD i.toNat default).top]
theorem qIxLC (f:Bool) (bs:List Bx) (px py qx qy:Int) (n i:Int)  (dq:AV) (H :
  ((i<n)->(O.cc8 (bs.getD i.toNat default).x0 (bs.getD i.toNat default).y0 (bs.getD i.toNat default).x1 (bs.getD i.toNat default).y1 px py qx qy) /\
   (0<=i) /\
   (i.toNat<bs.length) /\
   ((O.entX { x0:=(bs.getD i.toNat default).x0,y0:=(bs.getD i.toNat default).y0,x1:=(bs.getD i.toNat default).x1,y1:=(bs.getD i.toNat default).y1,top:=(bs.getD i.toNat default).top } { x:=px,y:=py } { x:=qx,y:=qy } = true)->vi i=dq) /\
   (¬(O.entX { x0:=(bs.getD i.toNat default).x0,y0:=(bs.getD i.toNat default).y0,x1:=(bs.getD i.toNat default).x1,y1:=(bs.getD i.toNat default).y1,top:=(bs.getD i.toNat default).top } { x:=px,y:=py } { x:=qx,y:=qy } = true)->(-9223372036854775808<=i+1/\i+1<=9223372036854775807) /\
    Zea f bs px py qx qy n (i+1) (Zaf dq))) /\
  (¬(i<n)->vi (-1)=dq)) :
 Zea f bs px py qx qy n i (Zaf dq):=by
 unfold Zea
 rcases xq H with ⟨d2,H⟩|⟨d2,H⟩
 ·obtain ⟨k3,k5,H⟩:=H
  have w6:(List.map Bx.a bs).length=bs.length:=List.length_map ..
  have i7:(decide (i.toNat<(List.map Bx.a bs).length))=true ↔ (i.toNat<bs.length):=(by (try rw [w6]);all_goals exact Zab)
  obtain ⟨k8,H⟩:=H
  refine Zae (G:=Zad kp59 [(4,4,.elem (zNqG3 bs i)),(4,5,.call (vb (O.entX { x0:=(bs.getD i.toNat default).x0,y0:=(bs.getD i.toNat default).y0,x1:=(bs.getD i.toNat default).x1,y1:=(bs.getD i.toNat default).y1,top:=(bs.getD i.toNat default).top } { x:=px,y:=py } { x:=qx,y:=qy })) none)] []) 11 [true] ⟨(atC (cd Try.f59) [1,0,1,0,0,1,1,0,0,1,1]),[(0,AV.vec f 5 (List.map Bx.a bs)),(1,AV.func (Fn.func 43) [] [AV.eptr 2 [ag [vi px,vi py]] 0 0,AV.eptr 2 [ag [vi qx,vi qy]] 0 0]),(5,vi i),(7,vi n),(8,vi i),(16,vb (O.entX { x0:=(bs.getD i.toNat default).x0,y0:=(bs.getD i.toNat default).y0,x1:=(bs.getD i.toNat default).x1,y1:=(bs.getD i.toNat default).y1,top:=(bs.getD i.toNat default).top } { x:=px,y:=py } { x:=qx,y:=qy }))],[],_,[((List.map Bx.a bs).get?Internal i.toNat=some (zNqG3 bs i))],_⟩ (by kernel_rfl) (bc (Zak (Zab.2 d2)) (bc (Zab.2 k5) (bc (i7.2 k8) b0))) (qc (Zal k8) q0) (ce (@ev43 ((bs.getD i.toNat default).x0) ((bs.getD i.toNat default).y0) ((bs.getD i.toNat default).x1) ((bs.getD i.toNat default).y1) ((bs.getD i.toNat default).top) px py qx qy k3) c0) ?_
  rcases xq H with ⟨d10,H⟩|⟨d10,H⟩
  ·exact Zai (G:=Zad kp59 [] []) 1000 [true] (asm:=[(O.entX { x0:=(bs.getD i.toNat default).x0,y0:=(bs.getD i.toNat default).y0,x1:=(bs.getD i.toNat default).x1,y1:=(bs.getD i.toNat default).y1,top:=(bs.getD i.toNat default).top } { x:=px,y:=py } { x:=qx,y:=qy })==true]) (vi i) (by kernel_rfl) (bc (Zak ((ZaI _).2 d10)) b0) q0 c0 H
  ·obtain ⟨k11,H⟩:=H
   have w12:wi (i+1)=i+1:=wI64 k11
   exact Zae (G:=Zad kp59 [] []) 1000 [false] ⟨(atC (cd Try.f59) [1,0,1,0,0]),[(0,AV.vec f 5 (List.map Bx.a bs)),(1,AV.func (Fn.func 43) [] [AV.eptr 2 [ag [vi px,vi py]] 0 0,AV.eptr 2 [ag [vi qx,vi qy]] 0 0]),(7,vi n),(8,vi (wi (i+1)))],[],[(O.entX { x0:=(bs.getD i.toNat default).x0,y0:=(bs.getD i.toNat default).y0,x1:=(bs.getD i.toNat default).x1,y1:=(bs.getD i.toNat default).y1,top:=(bs.getD i.toNat default).top } { x:=px,y:=py } { x:=qx,y:=qy })==false],[],_⟩ (by kernel_rfl) (bc (Zah (fun h=>d10 ((ZaI _).1 h))) b0) q0 c0 (by (try rw [w12]);all_goals exact H)
 ·exact Zai (G:=Zad kp59 [] []) 1000 [false] (vi (-1)) (by kernel_rfl) (bc (Zah (fun h=>d2 (Zab.1 h))) b0) q0 c0 H
theorem qRv (gs:List Gp) (v:Nat)  (Q:AV->Heap->Prop) (H :
  (-9223372036854775808<=(↑gs.length:Int)-1/\(↑gs.length:Int)-1<=9223372036854775807) /\
  ZeF gs v 0 ((↑gs.length:Int)-1) Q) :
 qRv_at gs v Q:=by
 unfold qRv_at
 have w1:(List.map Gp.a gs).length=gs.length:=List.length_map ..
 obtain ⟨k2,H⟩:=H
 have w3:wi ((↑gs.length:Int)-1)=(↑gs.length:Int)-1:=wI64 k2
 exact Zae (G:=Zad kp60 [] []) 1000 [] ⟨(atC (cd Try.f60) [1,0,0]),[(0,AV.row 0 v),(2,vi 0),(3,vi (wi ((↑(List.map Gp.a gs).length:Int)-1)))],[⟨List.map Gp.a gs,2,v,false,true⟩],[v==v],[],_⟩ (by kernel_rfl) (bc (beq_self_eq_true _) b0) q0 c0 (by (try rw [w1]);(try rw [w3]);all_goals exact H)
noncomputable abbrev zNqG4 (gs:List Gp) (i:Int) (j:Int):=ag [vi ((gs.set i.toNat (gs.getD j.toNat default)).getD j.toNat default).x,vi ((gs.set i.toNat (gs.getD j.toNat default)).getD j.toNat default).y]
theorem qRvA (gs:List Gp) (v:Nat) (i j:Int)  (Q:AV->Heap->Prop) (H :
  ((i<j)->(0<=j) /\
   (j.toNat<gs.length) /\
   (0<=i) /\
   (i.toNat<gs.length) /\
   (j.toNat<(gs.set i.toNat (gs.getD j.toNat default)).length) /\
   (-9223372036854775808<=i+1/\i+1<=9223372036854775807) /\
   (-9223372036854775808<=j-1/\j-1<=9223372036854775807) /\
   ZeF ((gs.set i.toNat (gs.getD j.toNat default)).set j.toNat (gs.getD i.toNat default)) v (i+1) (j-1) Q) /\
  (¬(i<j)->Q (tu []) [{ elems:=List.map Gp.a gs,es:=2,ver:=v,frozen:=false,clean:=true }])) :
 ZeF gs v i j Q:=by
 unfold ZeF
 rcases xq H with ⟨d2,H⟩|⟨d2,H⟩
 ·have w3:(List.map Gp.a gs).set i.toNat (ag [vi (gs.getD j.toNat default).x,vi (gs.getD j.toNat default).y])=List.map Gp.a (gs.set i.toNat (gs.getD j.toNat default)):=(Zbg rfl rfl)
  obtain ⟨k5,H⟩:=H
  have w6:(List.map Gp.a gs).length=gs.length:=List.length_map ..
  have i7:(decide (j.toNat<(List.map Gp.a gs).length))=true ↔ (j.toNat<gs.length):=(by (try rw [w6]);all_goals exact Zab)
  obtain ⟨k8,k10,H⟩:=H
  have i11:(decide (i.toNat<(List.map Gp.a gs).length))=true ↔ (i.toNat<gs.length):=(by (try rw [w6]);all_goals exact Zab)
  obtain ⟨k12,H⟩:=H
  have i14:(decide (i.toNat<(List.map Gp.a gs).length))=true ↔ (i.toNat<gs.length):=(by (try rw [w6]);all_goals exact Zab)
  have w16:(List.map Gp.a (gs.set i.toNat (gs.getD j.toNat default))).length=(gs.set i.toNat (gs.getD j.toNat default)).length:=List.length_map ..
  have i17:(decide (j.toNat<((List.map Gp.a gs).set i.toNat (ag [vi (gs.getD j.toNat default).x,vi (gs.getD j.toNat default).y])).length))=true ↔ (j.toNat<(gs.set i.toNat (gs.getD j.toNat default)).length):=(by (try rw [w3]);(try rw [w16]);all_goals exact Zab)
  obtain ⟨k18,H⟩:=H
  have w19:(List.map Gp.a (gs.set i.toNat (gs.getD j.toNat default))).set j.toNat (ag [vi (gs.getD i.toNat default).x,vi (gs.getD i.toNat default).y])=List.map Gp.a ((gs.set i.toNat (gs.getD j.toNat default)).set j.toNat (gs.getD i.toNat default)):=(Zbg rfl rfl)
  obtain ⟨k20,H⟩:=H
  have w21:wi (i+1)=i+1:=wI64 k20
  obtain ⟨k22,H⟩:=H
  have w23:wi (j-1)=j-1:=wI64 k22
  exact Zae (G:=Zad kp60 [(3,7,.elem (ag [vi (gs.getD j.toNat default).x,vi (gs.getD j.toNat default).y])),(3,11,.elem (ag [vi (gs.getD i.toNat default).x,vi (gs.getD i.toNat default).y])),(3,13,.elem (ag [vi (gs.getD i.toNat default).x,vi (gs.getD i.toNat default).y])),(3,15,.elem (zNqG4 gs i j))] []) 1000 [true] ⟨(atC (cd Try.f60) [1,0,0]),[(0,AV.row 0 v),(2,vi (wi (i+1))),(3,vi (wi (j-1)))],[⟨((List.map Gp.a gs).set i.toNat (ag [vi (gs.getD j.toNat default).x,vi (gs.getD j.toNat default).y])).set j.toNat (ag [vi (gs.getD i.toNat default).x,vi (gs.getD i.toNat default).y]),2,v,false,true⟩],[(decide (i<j))==true,v==v,decide (0<=j),decide (j.toNat<(List.map Gp.a gs).length),v==v,v==v,decide (0<=i),decide (i.toNat<(List.map Gp.a gs).length),v==v,v==v,decide (0<=i),decide (i.toNat<(List.map Gp.a gs).length),v==v,v==v,decide (0<=j),decide (j.toNat<((List.map Gp.a gs).set i.toNat (ag [vi (gs.getD j.toNat default).x,vi (gs.getD j.toNat default).y])).length),v==v],[((List.map Gp.a gs).get?Internal j.toNat=some (ag [vi (gs.getD j.toNat default).x,vi (gs.getD j.toNat default).y])),((List.map Gp.a gs).get?Internal i.toNat=some (ag [vi (gs.getD i.toNat default).x,vi (gs.getD i.toNat default).y])),((List.map Gp.a gs).get?Internal i.toNat=some (ag [vi (gs.getD i.toNat default).x,vi (gs.getD i.toNat default).y])),(((List.map Gp.a gs).set i.toNat (ag [vi (gs.getD j.toNat default).x,vi (gs.getD j.toNat default).y])).get?Internal j.toNat=some (zNqG4 gs i j))],_⟩ (by kernel_rfl) (bc (Zak (Zab.2 d2)) (bc (beq_self_eq_true _) (bc (Zab.2 k5) (bc (i7.2 k8) (bc (beq_self_eq_true _) (bc (beq_self_eq_true _) (bc (Zab.2 k10) (bc (i11.2 k12) (bc (beq_self_eq_true _) (bc (beq_self_eq_true _) (bc (Zab.2 k10) (bc (i14.2 k12) (bc (beq_self_eq_true _) (bc (beq_self_eq_true _) (bc (Zab.2 k5) (bc (i17.2 k18) (bc (beq_self_eq_true _) b0))))))))))))))))) (qc (Zal k8) (qc (Zal k12) (qc (Zal k12) (qc (by (try rw [w3]);all_goals exact (Zal k18)) q0)))) c0 (by (try rw [w3]);(try rw [w19]);(try rw [w21]);(try rw [w23]);all_goals exact H)
 ·exact ZaQ (G:=Zad kp60 [] []) 1000 [false] (env':=[(0,AV.row 0 v),(2,vi i),(3,vi j),(9,vb (decide (i<j)))]) (L':=[⟨List.map Gp.a gs,2,v,false,true⟩]) (asm:=[(decide (i<j))==false]) (eqs:=[]) (calls:=[]) (tu []) (by kernel_rfl) (by kernel_rfl) (Zaa (Zah (fun h=>d2 (Zab.1 h))) Zaj) Zan Zao H
end Go.Av

namespace Go.Av
open Go.Proofs
namespace O
open Classical in
noncomputable def any (p:Bx->Prop) (bs:List Bx):Bool:=decide (∃ c ∈ bs,p c)
open Classical in
noncomputable def frB (bs:List Bx) (p q:Gp):Bool:=decide (Zci bs p q)
def okFr (bs:List Bx) (px py qx qy:Int):Prop:=okB8 bs/\(cc px/\cc py)/\cc qx/\cc qy
end O
theorem any_of {p:Bx->Prop} {bs:List Bx} {n:Int} (h:(0<=n /\ ∃ c ∈ bs,p c)\/(n = -1/\¬∃ c ∈ bs,p c)):decide (n>=0)=O.any p bs:=by
 unfold O.any
 rcases h with ⟨h,k⟩ | ⟨h,k⟩
 ·rw [decide_eq_true h,dec_t k]
 ·rw [decide_eq_false (by omega),dec_f k]
theorem ix_A {f:Bool} {bs:List Bx} (hb:bs.length<=100) (m:Nat):∀ i:Nat,i+m=bs.length->(∀ j,j<i->¬O.bxI (bs.getD j default)) -> ∃ n,((0<=n /\ ∃ c ∈ bs,O.bxI c)\/(n = -1/\¬∃ c ∈ bs,O.bxI c))/\Zec f bs bs.length i (Zaf (.int .i64 n)):=by
 induction m with
 | zero=>exact fun i e hj=>⟨-1,.inr ⟨rfl,Zg2 fun j h=>hj j (by omega)⟩,qIxLA _ _ _ _ _ ⟨fun x=>by omega,fun _=>rfl⟩⟩
 | succ m ih =>
  intro i e hj
  have hi:i<bs.length:=by omega
  by_cases k:O.bxI (bs.getD i default)
  ·refine ⟨i,.inl ⟨by omega,ex_at hi k⟩,qIxLA _ _ _ _ _ ⟨fun x => ?_,fun x=>by omega⟩⟩
   rw [Int.toNat_natCast]
   exact ⟨by omega,hi,fun _=>rfl,fun j=>absurd k j⟩
  ·obtain ⟨n,hn,w⟩:=ih (i+1) (by omega) (Zbw hj k)
   refine ⟨n,hn,qIxLA _ _ _ _ _ ⟨fun x => ?_,fun x=>by omega⟩⟩
   rw [Int.toNat_natCast,show (i:Int)+1=((i+1:Nat):Int) by omega]
   exact ⟨by omega,hi,fun j=>absurd j k,fun _=>⟨by omega,w⟩⟩
theorem ix_B {f:Bool} {bs:List Bx} (hb:bs.length<=100) (m:Nat):∀ i:Nat,i+m=bs.length->(∀ j,j<i->¬O.bxF (bs.getD j default)) -> ∃ n,((0<=n /\ ∃ c ∈ bs,O.bxF c)\/(n = -1/\¬∃ c ∈ bs,O.bxF c))/\Zeb f bs bs.length i (Zaf (.int .i64 n)):=by
 induction m with
 | zero=>exact fun i e hj=>⟨-1,.inr ⟨rfl,Zg2 fun j h=>hj j (by omega)⟩,qIxLB _ _ _ _ _ ⟨fun x=>by omega,fun _=>rfl⟩⟩
 | succ m ih =>
  intro i e hj
  have hi:i<bs.length:=by omega
  by_cases k:O.bxF (bs.getD i default)
  ·refine ⟨i,.inl ⟨by omega,ex_at hi k⟩,qIxLB _ _ _ _ _ ⟨fun x => ?_,fun x=>by omega⟩⟩
   rw [Int.toNat_natCast]
   exact ⟨by omega,hi,fun _=>rfl,fun j=>absurd k j⟩
  ·obtain ⟨n,hn,w⟩:=ih (i+1) (by omega) (Zbw hj k)
   refine ⟨n,hn,qIxLB _ _ _ _ _ ⟨fun x => ?_,fun x=>by omega⟩⟩
   rw [Int.toNat_natCast,show (i:Int)+1=((i+1:Nat):Int) by omega]
   exact ⟨by omega,hi,fun j=>absurd j k,fun _=>⟨by omega,w⟩⟩
theorem ix_C {f:Bool} {bs:List Bx} {px py qx qy:Int} (h:O.okFr bs px py qx qy) (m:Nat):∀ i:Nat,i+m=bs.length->(∀ j,j<i->¬O.entX (bs.getD j default) ⟨px,py⟩ ⟨qx,qy⟩=true) -> ∃ n,((0<=n /\ ∃ c ∈ bs,O.entX c ⟨px,py⟩ ⟨qx,qy⟩=true)\/(n = -1/\¬∃ c ∈ bs,O.entX c ⟨px,py⟩ ⟨qx,qy⟩=true))/\Zea f bs px py qx qy bs.length i (Zaf (.int .i64 n)):=by
 have hb:=h.1.1
 induction m with
 | zero=>exact fun i e hj=>⟨-1,.inr ⟨rfl,Zg2 fun j h=>hj j (by omega)⟩,qIxLC _ _ _ _ _ _ _ _ _ ⟨fun x=>by omega,fun _=>rfl⟩⟩
 | succ m ih =>
  intro i e hj
  have hi:i<bs.length:=by omega
  have c:=h.1.2 _ (ZaZ hi)
  have ok:O.cc8 (bs.getD i default).x0 (bs.getD i default).y0 (bs.getD i default).x1 (bs.getD i default).y1 px py qx qy:=⟨c,h.2.1.1,h.2.1.2,h.2.2.1,h.2.2.2⟩
  by_cases k:O.entX (bs.getD i default) ⟨px,py⟩ ⟨qx,qy⟩=true
  ·refine ⟨i,.inl ⟨by omega,ex_at (p:=fun c=>O.entX c ⟨px,py⟩ ⟨qx,qy⟩=true) hi k⟩,qIxLC _ _ _ _ _ _ _ _ _ ⟨fun x => ?_,fun x=>by omega⟩⟩
   rw [Int.toNat_natCast]
   exact ⟨ok,by omega,hi,fun _=>rfl,fun j=>absurd k j⟩
  ·obtain ⟨n,hn,w⟩:=ih (i+1) (by omega) (Zbw hj k)
   refine ⟨n,hn,qIxLC _ _ _ _ _ _ _ _ _ ⟨fun x => ?_,fun x=>by omega⟩⟩
   rw [Int.toNat_natCast,show (i:Int)+1=((i+1:Nat):Int) by omega]
   exact ⟨ok,by omega,hi,fun j=>absurd j k,fun _=>⟨by omega,w⟩⟩
theorem ev38_a (f:Bool) (bs:List Bx) (h:bs.length<=100):Ev M1 (.pure 38 [.vec f 5 (bs.map Bx.a),.func (.func 39) [] []]) (.bool (O.any O.bxI bs)) []:=by
 obtain ⟨n,hn,w⟩:=ix_A (f:=f) h bs.length 0 (by omega) (fun j h=>absurd h (Nat.not_lt_zero j))
 exact call38 (qCtA _ _ _ ⟨n,call59 (qIxA _ _ _ w),congrArg AV.bool (any_of hn)⟩)
theorem ev38_b (f:Bool) (bs:List Bx) (h:bs.length<=100):Ev M1 (.pure 38 [.vec f 5 (bs.map Bx.a),.func (.func 41) [] []]) (.bool (O.any O.bxF bs)) []:=by
 obtain ⟨n,hn,w⟩:=ix_B (f:=f) h bs.length 0 (by omega) (fun j h=>absurd h (Nat.not_lt_zero j))
 exact call38 (qCtB _ _ _ ⟨n,call59 (qIxB _ _ _ w),congrArg AV.bool (any_of hn)⟩)
theorem ev38_c (f:Bool) (bs:List Bx) (px py qx qy:Int) (h:O.okFr bs px py qx qy):Ev M1 (.pure 38 [.vec f 5 (bs.map Bx.a),.func (.func 43) [] [.eptr 2 [.agg [.int .i64 px,.int .i64 py]] 0 0,.eptr 2 [.agg [.int .i64 qx,.int .i64 qy]] 0 0]]) (.bool (!O.frB bs ⟨px,py⟩ ⟨qx,qy⟩)) []:=by
 obtain ⟨n,hn,w⟩:=ix_C (f:=f) h bs.length 0 (by omega) (fun j h=>absurd h (Nat.not_lt_zero j))
 refine call38 (qCtC _ _ _ _ _ _ _ ⟨n,call59 (qIxC _ _ _ _ _ _ _ w),congrArg AV.bool ?_⟩)
 rw [any_of hn]
 unfold O.any O.frB
 by_cases k:O.Zci bs ⟨px,py⟩ ⟨qx,qy⟩
 ·rw [dec_t k,dec_f];· rfl
  rintro ⟨c,hc,e⟩
  rw [k c hc] at e;exact absurd e (by decide)
 ·rw [dec_f k,dec_t];· rfl
  refine Classical.byContradiction fun no=>k fun c hc => ?_
  cases e:O.entX c ⟨px,py⟩ ⟨qx,qy⟩ with
  | false=>rfl
  | true=>exact absurd ⟨c,hc,e⟩ no
theorem rev_loop {gs:List Gp} {v:Nat} (hn:gs.length<=1000) (m:Nat):∀ (i:Nat) (ms:List Gp),gs.length<=2*i+m->2*i<=gs.length+1->ms.length=gs.length->(∀ k,k<gs.length->ms.getD k default=if k<i\/gs.length<=k+i then gs.getD (gs.length-1-k) default else gs.getD k default) ->
  ZeF ms v i ((gs.length:Int)-1-i) (Zbo (.tup []) [⟨gs.reverse.map Gp.a,2,v,false,true⟩]):=by
 have fin:∀ (i:Nat) (ms:List Gp),gs.length<=2*i+1->ms.length=gs.length->(∀ k,k<gs.length->ms.getD k default=if k<i\/gs.length<=k+i then gs.getD (gs.length-1-k) default else gs.getD k default) ->
  ZeF ms v i ((gs.length:Int)-1-i) (Zbo (.tup []) [⟨gs.reverse.map Gp.a,2,v,false,true⟩]):=fun i ms e hl hk=>by
  refine qRvA _ _ _ _ _ ⟨fun x=>by omega,fun _ => ?_⟩
  have:ms=gs.reverse:=by
   refine List.ext_getElem (by rw [hl,List.length_reverse]) fun k h1 h2 => ?_
   have:=hk k (by omega)
   rw [List.getD_eq_getElem?_getD,List.getElem?_eq_getElem h1,Option.getD_some] at this
   rw [this,List.getElem_reverse]
   split
   ·rw [List.getD_eq_getElem?_getD,List.getElem?_eq_getElem (by omega),Option.getD_some]
   ·have ek:gs.length-1-k=k:=by omega
    rw [List.getD_eq_getElem?_getD,List.getElem?_eq_getElem (by omega:k<gs.length),Option.getD_some]
    congr 1;omega
  rw [this]
  exact ⟨rfl,rfl⟩
 induction m with
 | zero=>exact fun i ms e _ hl hk=>fin i ms (by omega) hl hk
 | succ m ih =>
  intro i ms e e2 hl hk
  by_cases h:2*i+1<gs.length
  ·refine qRvA _ _ _ _ _ ⟨fun x => ?_,fun x=>by omega⟩
   rw [show ((gs.length:Int)-1-i).toNat=gs.length-1-i by omega,Int.toNat_natCast,List.length_set]
   refine ⟨by omega,by omega,by omega,by omega,by omega,by omega,by omega,?_⟩
   have:=ih (i+1) ((ms.set i (ms.getD (gs.length-1-i) default)).set (gs.length-1-i) (ms.getD i default)) (by omega) (by omega) (by rw [List.length_set,List.length_set,hl]) fun k hk2=>by
    rw [Zb0 _ _ _ _ (by rw [List.length_set];omega),Zb0 _ _ _ _ (by omega)]
    have h1:=hk i (by omega)
    have h2:=hk (gs.length-1-i) (by omega)
    have h3:=hk k hk2
    by_cases c1:k=gs.length-1-i
    ·rw [if_pos c1,h1,if_neg (by omega),if_pos (by omega),c1,show gs.length-1-(gs.length-1-i)=i by omega]
    ·rw [if_neg c1]
     by_cases c2:k=i
     ·rw [if_pos c2,h2,if_neg (by omega),if_pos (by omega),c2]
     ·rw [if_neg c2,h3]
      by_cases c3:k<i\/gs.length<=k+i
      ·rw [if_pos c3,if_pos (by omega)]
      ·rw [if_neg c3,if_neg (by omega)]
   rw [show (i:Int)+1=((i+1:Nat):Int) by omega,show (gs.length:Int)-1-i-1=(gs.length:Int)-1-((i+1:Nat):Int) by omega]
   exact this
  ·exact fin i ms (by omega) hl hk
theorem evo60 (gs:List Gp) (v:Nat) (h:gs.length<=1000):Ev M1 (.own 60 [.row 0 v] [⟨gs.map Gp.a,2,v,false,true⟩]) (.tup []) [⟨gs.reverse.map Gp.a,2,v,false,true⟩]:=by
 refine keepcall60 rfl (qRv _ _ _ ⟨by omega,?_⟩)
 have:=rev_loop (v:=v) h gs.length 0 gs (by omega) (by omega) rfl fun k hk=>by rw [if_neg (by omega)]
 rw [show (gs.length:Int)-1-((0:Nat):Int)=(gs.length:Int)-1 by omega] at this
 exact this
end Go.Av

namespace Go.Av
open Go.Proofs
set_option maxRecDepth 100000
def fi42:Fi:=⟨10,[.tmp 5]⟩
def kp42:List (Nat × List Nat):=[(0,[2,3,4]),(1,[5])]
def qC3_at (f:Bool) (bs:List Bx) (px py qx qy:Int) (Q:AV->Heap->Prop):Prop:=Wp M1 (.run fi42 (atC (cd Try.f42) []) [(0,.agg [.int .i64 px,.int .i64 py]),(1,.agg [.int .i64 qx,.int .i64 qy]),(2,.eptr 1 [.vec f 5 (bs.map Bx.a)] 0 0)] []) Q
theorem call42 {args:List AV} {d:AV} (h:wc M1 fi42 Try.f42 args d):Ev M1 (.pure 42 args) d []:=pcl _ _ (by kernel_rfl) h
theorem qC3 (f:Bool) (bs:List Bx) (px py qx qy:Int)  (dq:AV) (H :
  (O.okFr bs px py qx qy) /\
  (vb !!O.frB bs { x:=px,y:=py } { x:=qx,y:=qy })=dq) :
 qC3_at f bs px py qx qy (Zaf dq):=by
 unfold qC3_at
 obtain ⟨k1,H⟩:=H
 exact Zai (G:=Zad kp42 [(1,2,.call (vb !O.frB bs { x:=px,y:=py } { x:=qx,y:=qy }) none)] []) 1000 [] (vb !!O.frB bs { x:=px,y:=py } { x:=qx,y:=qy }) (by kernel_rfl) (bc rfl (bc rfl b0)) q0 (ce (@ev38_c f bs px py qx qy k1) c0) H
end Go.Av

namespace Go.Av
open Go.Proofs
theorem ev42 (f:Bool) (bs:List Bx) (px py qx qy:Int) (h:O.okFr bs px py qx qy):Ev M1 (.pure 42 [.agg [.int .i64 px,.int .i64 py],.agg [.int .i64 qx,.int .i64 qy],.eptr 1 [.vec f 5 (bs.map Bx.a)] 0 0]) (.bool (O.frB bs ⟨px,py⟩ ⟨qx,qy⟩)) []:=
 call42 (qC3 _ _ _ _ _ _ _ ⟨h,by rw [Bool.not_not]⟩)
end Go.Av

namespace Go.Av
open Go.Proofs
set_option maxRecDepth 100000
def fi44:Fi:=⟨177,[.tmp 4]⟩
def kp44:List (Nat × List Nat):=[(0,[0,1]),(1,[0,1,5]),(2,[0,1,5,6]),(3,[0,1,5,6,7]),(4,[0,1,5,6,7,25,26]),(5,[0,1,5,6,7,25,26,27]),(6,[0,1,5,6,7,8,25,26]),(7,[0,1,5,6,7,25,26]),(8,[0,1,5,6,7,25,26]),(9,[0,1,5,6,7]),(10,[0,1,5,6,7,9]),(11,[0,1,5,6,7,9,39,40]),(12,[0,1,5,6,7,9,39,40,41]),(13,[0,1,5,6,7,9,10,39,40]),(14,[0,1,5,6,7,9,10,39,40,69]),(15,[0,1,5,6,7,9,39,40]),(16,[0,1,5,6,7,9,39,40]),(17,[0,1,5,6,7,9,73]),(18,[4]),(19,[0,1,5,6,7,9,78]),(20,[0,1,5,6,7,9]),(21,[0,1,5,6,7,9,83,84]),(22,[0,1,5,6,7,9,83,84,85]),(23,[0,1,5,6,7,9,11,83,84]),(24,[0,1,5,6,7,9,11,12,83,84]),(25,[0,1,5,6,7,9,11,12,83,84,132]),(26,[0,1,5,6,7,9,83,84]),(27,[0,1,5,6,7,9,83,84]),(28,[0,6,13]),(29,[0,6,13,14]),(30,[0,6,13,14,146]),(31,[0,6,13,14]),(32,[0,6,13,14,166]),(33,[0,6,13,14]),(34,[13]),(35,[4])]
def ZgZ (f g:Bool) (bs:List Bx) (l:List Gp) (Q:AV->Heap->Prop):Prop:=Wp M1 (.run fi44 (atC (cd Try.f44) []) [(0,.vec g 2 (l.map Gp.a)),(1,.func (.func 42) [] [.eptr 1 [.vec f 5 (bs.map Bx.a)] 0 0])] []) Q
def ZfN (f g:Bool) (bs:List Bx) (l:List Gp) (fa bf:List Int) (dn:List Bool) (n i:Int) (Q:AV->Heap->Prop):Prop:=Wp M1 (.run fi44 (atC (cd Try.f44) [1,1,1,1,0,1,0,0]) [(0,.vec g 2 (l.map Gp.a)),(1,.func (.func 42) [] [.eptr 1 [.vec f 5 (bs.map Bx.a)] 0 0]),(5,.row 0 0),(6,.row 1 0),(7,.row 2 0),(25,.int .i64 n),(26,.int .i64 i)] [⟨fa.map (.int .i64),1,0,false,true⟩,⟨bf.map (.int .i64),1,0,false,true⟩,⟨dn.map .bool,1,0,false,true⟩]) Q
def ZdP (f g:Bool) (bs:List Bx) (l:List Gp) (fa bf:List Int) (dn:List Bool) (Q:AV->Heap->Prop):Prop:=Wp M1 (.run fi44 (atC (cd Try.f44) [1,1,1,1,1,1,0,0,0]) [(0,.vec g 2 (l.map Gp.a)),(1,.func (.func 42) [] [.eptr 1 [.vec f 5 (bs.map Bx.a)] 0 0]),(5,.row 0 0),(6,.row 1 0),(7,.row 2 0)] [⟨fa.map (.int .i64),1,0,false,true⟩,⟨bf.map (.int .i64),1,0,false,true⟩,⟨dn.map .bool,1,0,false,true⟩]) Q
def ZeD (f g:Bool) (bs:List Bx) (l:List Gp) (fa bf:List Int) (dn:List Bool) (m n i:Int) (Q:AV->Heap->Prop):Prop:=Wp M1 (.run fi44 (atC (cd Try.f44) [1,1,1,1,1,1,0,0,0,0,1,0,1,0,0]) [(0,.vec g 2 (l.map Gp.a)),(1,.func (.func 42) [] [.eptr 1 [.vec f 5 (bs.map Bx.a)] 0 0]),(5,.row 0 0),(6,.row 1 0),(7,.row 2 0),(9,.int .i64 m),(39,.int .i64 n),(40,.int .i64 i)] [⟨fa.map (.int .i64),1,0,false,true⟩,⟨bf.map (.int .i64),1,0,false,true⟩,⟨dn.map .bool,1,0,false,true⟩]) Q
def ZdO (f g:Bool) (bs:List Bx) (l:List Gp) (fa bf:List Int) (dn:List Bool) (m n i:Int) (Q:AV->Heap->Prop):Prop:=Wp M1 (.run fi44 (atC (cd Try.f44) [1,1,1,1,1,1,0,0,0,0,1,1,1,1,1,1,0,0]) [(0,.vec g 2 (l.map Gp.a)),(1,.func (.func 42) [] [.eptr 1 [.vec f 5 (bs.map Bx.a)] 0 0]),(5,.row 0 0),(6,.row 1 0),(7,.row 2 0),(9,.int .i64 m),(83,.int .i64 n),(84,.int .i64 i)] [⟨fa.map (.int .i64),1,0,false,true⟩,⟨bf.map (.int .i64),1,0,false,true⟩,⟨dn.map .bool,1,0,false,true⟩]) Q
def qSh5_at (g:Bool) (l:List Gp) (bf:List Int) (i:Int) (Q:AV->Heap->Prop):Prop:=Wp M1 (.run fi44 (atC (cd Try.f44) [1,1,1,1,1,1,1,1,0,1,0,0]) [(0,.vec g 2 (l.map Gp.a)),(6,.row 0 0),(13,.vnil),(14,.int .i64 i)] [⟨bf.map (.int .i64),1,0,false,true⟩]) Q
def ZdN (g:Bool) (l gs:List Gp) (bf:List Int) (i:Int) (v:Nat) (Q:AV->Heap->Prop):Prop:=Wp M1 (.run fi44 (atC (cd Try.f44) [1,1,1,1,1,1,1,1,0,1,0,0]) [(0,.vec g 2 (l.map Gp.a)),(6,.row 0 0),(13,.row 1 v),(14,.int .i64 i)] [⟨bf.map (.int .i64),1,0,false,true⟩,⟨gs.map Gp.a,2,v,false,true⟩]) Q
theorem call44 {args:List AV} {d:AV} (h:wc M1 fi44 Try.f44 args d):Ev M1 (.pure 44 args) d []:=pcl _ _ (by kernel_rfl) h
theorem qSh (f g:Bool) (bs:List Bx) (l:List Gp)  (dq:AV) (H :
  (0<=(↑l.length:Int)) /\
  ((↑l.length:Int)*8<=1099511627776) /\
  ((↑l.length:Int)<=1099511627776) /\
  ((↑l.length:Int)*1<=1099511627776) /\
  ZfN f g bs l (List.replicate (↑l.length:Int).toNat (0:Int)) (List.replicate (↑l.length:Int).toNat (0:Int)) (List.replicate (↑l.length:Int).toNat false) ((↑(List.replicate (↑l.length:Int).toNat (0:Int)).length:Int)) 0 (Zaf dq)) :
 ZgZ f g bs l (Zaf dq):=by
 unfold ZgZ
 have w1:(List.map Gp.a l).length=l.length:=List.length_map ..
 have i2:(decide (0<=(↑(List.map Gp.a l).length:Int)))=true ↔ (0<=(↑l.length:Int)):=(by (try rw [w1]);all_goals exact Zab)
 obtain ⟨k3,H⟩:=H
 have i4:(decide ((↑(List.map Gp.a l).length:Int)<=(↑(List.map Gp.a l).length:Int)))=true ↔ ((↑l.length:Int)<=(↑l.length:Int)):=(by (try rw [w1]);all_goals exact Zab)
 have i5:(decide ((↑(List.map Gp.a l).length:Int)*8<=1099511627776))=true ↔ ((↑l.length:Int)*8<=1099511627776):=(by (try rw [w1]);all_goals exact Zab)
 obtain ⟨k6,H⟩:=H
 have i7:(decide ((↑(List.map Gp.a l).length:Int)<=1099511627776))=true ↔ ((↑l.length:Int)<=1099511627776):=(by (try rw [w1]);all_goals exact Zab)
 obtain ⟨k8,H⟩:=H
 have w9:List.replicate (↑l.length:Int).toNat (vi 0)=List.map vi (List.replicate (↑l.length:Int).toNat (0:Int)):=(Zg8 rfl)
 have i10:(decide (0<=(↑(List.map Gp.a l).length:Int)))=true ↔ (0<=(↑l.length:Int)):=(by (try rw [w1]);all_goals exact Zab)
 have i11:(decide ((↑(List.map Gp.a l).length:Int)<=(↑(List.map Gp.a l).length:Int)))=true ↔ ((↑l.length:Int)<=(↑l.length:Int)):=(by (try rw [w1]);all_goals exact Zab)
 have i12:(decide ((↑(List.map Gp.a l).length:Int)*8<=1099511627776))=true ↔ ((↑l.length:Int)*8<=1099511627776):=(by (try rw [w1]);all_goals exact Zab)
 have i13:(decide ((↑(List.map Gp.a l).length:Int)<=1099511627776))=true ↔ ((↑l.length:Int)<=1099511627776):=(by (try rw [w1]);all_goals exact Zab)
 have i14:(decide (0<=(↑(List.map Gp.a l).length:Int)))=true ↔ (0<=(↑l.length:Int)):=(by (try rw [w1]);all_goals exact Zab)
 have i15:(decide ((↑(List.map Gp.a l).length:Int)<=(↑(List.map Gp.a l).length:Int)))=true ↔ ((↑l.length:Int)<=(↑l.length:Int)):=(by (try rw [w1]);all_goals exact Zab)
 have i16:(decide ((↑(List.map Gp.a l).length:Int)*1<=1099511627776))=true ↔ ((↑l.length:Int)*1<=1099511627776):=(by (try rw [w1]);all_goals exact Zab)
 obtain ⟨k17,H⟩:=H
 have i18:(decide ((↑(List.map Gp.a l).length:Int)<=1099511627776))=true ↔ ((↑l.length:Int)<=1099511627776):=(by (try rw [w1]);all_goals exact Zab)
 have w19:List.replicate (↑l.length:Int).toNat (vb false)=List.map vb (List.replicate (↑l.length:Int).toNat false):=(Zg8 rfl)
 have w20:(List.map vi (List.replicate (↑l.length:Int).toNat (0:Int))).length=(List.replicate (↑l.length:Int).toNat (0:Int)).length:=List.length_map ..
 exact Zae (G:=Zad kp44 [] []) 1000 [] ⟨(atC (cd Try.f44) [1,1,1,1,0,1,0,0]),[(0,AV.vec g 2 (List.map Gp.a l)),(1,AV.func (Fn.func 42) [] [AV.eptr 1 [AV.vec f 5 (List.map Bx.a bs)] 0 0]),(5,AV.row 0 0),(6,AV.row 1 0),(7,AV.row 2 0),(25,vi (↑(List.replicate (↑(List.map Gp.a l).length:Int).toNat (vi 0)).length:Int)),(26,vi 0)],[⟨List.replicate (↑(List.map Gp.a l).length:Int).toNat (vi 0),1,0,false,true⟩,⟨List.replicate (↑(List.map Gp.a l).length:Int).toNat (vi 0),1,0,false,true⟩,⟨List.replicate (↑(List.map Gp.a l).length:Int).toNat (vb false),1,0,false,true⟩],[decide (0<=(↑(List.map Gp.a l).length:Int)),decide ((↑(List.map Gp.a l).length:Int)<=(↑(List.map Gp.a l).length:Int)),decide ((↑(List.map Gp.a l).length:Int)*8<=1099511627776),decide ((↑(List.map Gp.a l).length:Int)<=1099511627776),decide (0<=(↑(List.map Gp.a l).length:Int)),decide ((↑(List.map Gp.a l).length:Int)<=(↑(List.map Gp.a l).length:Int)),decide ((↑(List.map Gp.a l).length:Int)*8<=1099511627776),decide ((↑(List.map Gp.a l).length:Int)<=1099511627776),decide (0<=(↑(List.map Gp.a l).length:Int)),decide ((↑(List.map Gp.a l).length:Int)<=(↑(List.map Gp.a l).length:Int)),decide ((↑(List.map Gp.a l).length:Int)*1<=1099511627776),decide ((↑(List.map Gp.a l).length:Int)<=1099511627776),true],[],_⟩ (by kernel_rfl) (bc (i2.2 k3) (bc (i4.2 (by omega)) (bc (i5.2 k6) (bc (i7.2 k8) (bc (i10.2 k3) (bc (i11.2 (by omega)) (bc (i12.2 k6) (bc (i13.2 k8) (bc (i14.2 k3) (bc (i15.2 (by omega)) (bc (i16.2 k17) (bc (i18.2 k8) (bc rfl b0))))))))))))) q0 c0 (by (try rw [w1]);(try rw [w9]);(try rw [w19]);(try rw [w20]);all_goals exact H)
theorem qSh1 (f g:Bool) (bs:List Bx) (l:List Gp) (fa bf:List Int) (dn:List Bool) (n i:Int)  (dq:AV) (H :
  ((i<n)->(0<=i) /\
   (i.toNat<fa.length) /\
   (i.toNat<bf.length) /\
   (-9223372036854775808<=i+1/\i+1<=9223372036854775807) /\
   ZfN f g bs l (fa.set i.toNat (-1)) (bf.set i.toNat (-1)) dn n (i+1) (Zaf dq)) /\
  (¬(i<n)->(0<fa.length) /\
   ZdP f g bs l (fa.set 0 0) bf dn (Zaf dq))) :
 ZfN f g bs l fa bf dn n i (Zaf dq):=by
 unfold ZfN
 rcases xq H with ⟨d2,H⟩|⟨d2,H⟩
 ·obtain ⟨k4,H⟩:=H
  have w5:(List.map vi fa).length=fa.length:=List.length_map ..
  have i6:(decide (i.toNat<(List.map vi fa).length))=true ↔ (i.toNat<fa.length):=(by (try rw [w5]);all_goals exact Zab)
  obtain ⟨k7,H⟩:=H
  have w9:(List.map vi bf).length=bf.length:=List.length_map ..
  have i10:(decide (i.toNat<(List.map vi bf).length))=true ↔ (i.toNat<bf.length):=(by (try rw [w9]);all_goals exact Zab)
  obtain ⟨k11,H⟩:=H
  have w12:(List.map vi fa).set i.toNat (vi (-1))=List.map vi (fa.set i.toNat (-1)):=(Zbg rfl rfl)
  have w13:(List.map vi bf).set i.toNat (vi (-1))=List.map vi (bf.set i.toNat (-1)):=(Zbg rfl rfl)
  obtain ⟨k14,H⟩:=H
  have w15:wi (i+1)=i+1:=wI64 k14
  exact Zae (G:=Zad kp44 [(7,5,.elem (vi (fa.getD i.toNat default))),(7,7,.elem (vi (bf.getD i.toNat default)))] []) 1000 [true] ⟨(atC (cd Try.f44) [1,1,1,1,0,1,0,0]),[(0,AV.vec g 2 (List.map Gp.a l)),(1,AV.func (Fn.func 42) [] [AV.eptr 1 [AV.vec f 5 (List.map Bx.a bs)] 0 0]),(5,AV.row 0 0),(6,AV.row 1 0),(7,AV.row 2 0),(25,vi n),(26,vi (wi (i+1)))],[⟨(List.map vi fa).set i.toNat (vi (-1)),1,0,false,true⟩,⟨(List.map vi bf).set i.toNat (vi (-1)),1,0,false,true⟩,⟨List.map vb dn,1,0,false,true⟩],_,[((List.map vi fa).get?Internal i.toNat=some (vi (fa.getD i.toNat default))),((List.map vi bf).get?Internal i.toNat=some (vi (bf.getD i.toNat default)))],_⟩ (by kernel_rfl) (bc (Zak (Zab.2 d2)) (bc rfl (bc (Zab.2 k4) (bc (i6.2 k7) (bc rfl (bc rfl (bc (Zab.2 k4) (bc (i10.2 k11) (bc rfl b0))))))))) (qc (Zal k7) (qc (Zal k11) q0)) c0 (by (try rw [w12]);(try rw [w13]);(try rw [w15]);all_goals exact H)
 ·have w16:(List.map vi fa).length=fa.length:=List.length_map ..
  have i17:(decide (0<(List.map vi fa).length))=true ↔ (0<fa.length):=(by (try rw [w16]);all_goals exact Zab)
  obtain ⟨k18,H⟩:=H
  have w19:(List.map vi fa).set 0 (vi 0)=List.map vi (fa.set 0 0):=(Zbg rfl rfl)
  exact Zae (G:=Zad kp44 [(9,2,.elem (vi (fa.getD 0 default)))] []) 1000 [false] ⟨(atC (cd Try.f44) [1,1,1,1,1,1,0,0,0]),[(0,AV.vec g 2 (List.map Gp.a l)),(1,AV.func (Fn.func 42) [] [AV.eptr 1 [AV.vec f 5 (List.map Bx.a bs)] 0 0]),(5,AV.row 0 0),(6,AV.row 1 0),(7,AV.row 2 0)],[⟨(List.map vi fa).set 0 (vi 0),1,0,false,true⟩,⟨List.map vi bf,1,0,false,true⟩,⟨List.map vb dn,1,0,false,true⟩],_,[((List.map vi fa).get?Internal 0=some (vi (fa.getD 0 default)))],_⟩ (by kernel_rfl) (bc (Zah (fun h=>d2 (Zab.1 h))) (bc rfl (bc rfl (bc (i17.2 k18) (bc rfl b0))))) (qc (Zal k18) q0) c0 (by (try rw [w19]);all_goals exact H)
theorem qSh2 (f g:Bool) (bs:List Bx) (l:List Gp) (fa bf:List Int) (dn:List Bool)  (dq:AV) (H :
  ZeD f g bs l fa bf dn (-1) ((↑l.length:Int)) 0 (Zaf dq)) :
 ZdP f g bs l fa bf dn (Zaf dq):=by
 unfold ZdP
 have w1:(List.map Gp.a l).length=l.length:=List.length_map ..
 exact Zae (G:=Zad kp44 [] []) 1000 [] ⟨(atC (cd Try.f44) [1,1,1,1,1,1,0,0,0,0,1,0,1,0,0]),[(0,AV.vec g 2 (List.map Gp.a l)),(1,AV.func (Fn.func 42) [] [AV.eptr 1 [AV.vec f 5 (List.map Bx.a bs)] 0 0]),(5,AV.row 0 0),(6,AV.row 1 0),(7,AV.row 2 0),(9,vi (-1)),(39,vi (↑(List.map Gp.a l).length:Int)),(40,vi 0)],[⟨List.map vi fa,1,0,false,true⟩,⟨List.map vi bf,1,0,false,true⟩,⟨List.map vb dn,1,0,false,true⟩],_,[],_⟩ (by kernel_rfl) b0 q0 c0 (by (try rw [w1]);all_goals exact H)
noncomputable abbrev Ze7 (dn:List Bool) (i:Int) (fa:List Int):=bif !dn.getD i.toNat default then decide (fa.getD i.toNat default>=0) else false
noncomputable abbrev zNqI2 (dn:List Bool) (i:Int) (fa:List Int) (m:Int):=bif bif !dn.getD i.toNat default then decide (fa.getD i.toNat default>=0) else false then bif decide (m<0) then true else decide (fa.getD i.toNat default<fa.getD m.toNat default) else false
theorem qSh3 (f g:Bool) (bs:List Bx) (l:List Gp) (fa bf:List Int) (dn:List Bool) (m n i:Int)  (dq:AV) (H :
  ((i<n)->(0<=i) /\
   (i.toNat<dn.length) /\
   ((¬(dn.getD i.toNat default=true))->(i.toNat<fa.length)) /\
   (((¬(m<0))/\((¬(dn.getD i.toNat default=true))/\(fa.getD i.toNat default>=0)))->(i.toNat<fa.length)) /\
   (((¬(m<0))/\((¬(dn.getD i.toNat default=true))/\(fa.getD i.toNat default>=0)))->(0<=m)) /\
   (((¬(m<0))/\((¬(dn.getD i.toNat default=true))/\(fa.getD i.toNat default>=0)))->(m.toNat<fa.length)) /\
   ((((¬(dn.getD i.toNat default=true))/\(fa.getD i.toNat default>=0))/\((m<0)\/(fa.getD i.toNat default<fa.getD m.toNat default)))->(-9223372036854775808<=i+1/\i+1<=9223372036854775807) /\
    ZeD f g bs l fa bf dn i n (i+1) (Zaf dq)) /\
   (¬(((¬(dn.getD i.toNat default=true))/\(fa.getD i.toNat default>=0))/\((m<0)\/(fa.getD i.toNat default<fa.getD m.toNat default)))->(-9223372036854775808<=i+1/\i+1<=9223372036854775807) /\
    ZeD f g bs l fa bf dn m n (i+1) (Zaf dq))) /\
  (¬(i<n)->((m<0)->Weak (AV.vnil) dq) /\
   (¬(m<0)->(-9223372036854775808<=(↑l.length:Int)-1/\(↑l.length:Int)-1<=9223372036854775807) /\
    ((m=(↑l.length:Int)-1)->qSh5_at g l bf ((↑l.length:Int)-1) (Zaf dq)) /\
    (¬(m=(↑l.length:Int)-1)->(0<=m) /\
     (m.toNat<dn.length) /\
     ZdO f g bs l fa bf (dn.set m.toNat true) m ((↑l.length:Int)) 0 (Zaf dq))))) :
 ZeD f g bs l fa bf dn m n i (Zaf dq):=by
 unfold ZeD
 rcases xq H with ⟨d2,H⟩|⟨d2,H⟩
 ·obtain ⟨k4,H⟩:=H
  have w5:(List.map vb dn).length=dn.length:=List.length_map ..
  have i6:(decide (i.toNat<(List.map vb dn).length))=true ↔ (i.toNat<dn.length):=(by (try rw [w5]);all_goals exact Zab)
  obtain ⟨k7,H⟩:=H
  have w9:(List.map vi fa).length=fa.length:=List.length_map ..
  have i10:(!((!dn.getD i.toNat default)==true&&true)||decide (i.toNat<(List.map vi fa).length))=true ↔ ((¬(dn.getD i.toNat default=true))->(i.toNat<fa.length)):=(by (try rw [w9]);all_goals exact (Zbb (i_at (i_bt (ZaS (ZaI _)))) Zab))
  obtain ⟨k11,H⟩:=H
  have i13:(!(decide (m<0)==false&&((Ze7 dn i fa)==true&&true))||decide (i.toNat<(List.map vi fa).length))=true ↔ (((¬(m<0))/\((¬(dn.getD i.toNat default=true))/\(fa.getD i.toNat default>=0)))->(i.toNat<fa.length)):=(by (try rw [w9]);all_goals exact (Zbb (Za4 (i_bf Zab) (i_at (i_bt (ZaD (ZaS (ZaI _)) Zab)))) Zab))
  obtain ⟨k14,k16,H⟩:=H
  have i17:(!(decide (m<0)==false&&((Ze7 dn i fa)==true&&true))||decide (m.toNat<(List.map vi fa).length))=true ↔ (((¬(m<0))/\((¬(dn.getD i.toNat default=true))/\(fa.getD i.toNat default>=0)))->(m.toNat<fa.length)):=(by (try rw [w9]);all_goals exact (Zbb (Za4 (i_bf Zab) (i_at (i_bt (ZaD (ZaS (ZaI _)) Zab)))) Zab))
  obtain ⟨k18,H⟩:=H
  refine Zae (G:=Zad kp44 [(14,3,.elem (vb (dn.getD i.toNat default))),(14,9,.elem (vi (fa.getD i.toNat default))),(14,19,.elem (vi (fa.getD i.toNat default))),(14,23,.elem (vi (fa.getD m.toNat default)))] []) 11 [true] ⟨(atC (cd Try.f44) [1,1,1,1,1,1,0,0,0,0,1,0,1,0,0,1,1,0,0,1,1]),[(0,AV.vec g 2 (List.map Gp.a l)),(1,AV.func (Fn.func 42) [] [AV.eptr 1 [AV.vec f 5 (List.map Bx.a bs)] 0 0]),(5,AV.row 0 0),(6,AV.row 1 0),(7,AV.row 2 0),(9,vi m),(10,vi i),(39,vi n),(40,vi i),(69,vb (zNqI2 dn i fa m))],[⟨List.map vi fa,1,0,false,true⟩,⟨List.map vi bf,1,0,false,true⟩,⟨List.map vb dn,1,0,false,true⟩],[(decide (i<n))==true,true,decide (0<=i),decide (i.toNat<(List.map vb dn).length),true,!((!dn.getD i.toNat default)==true&&true)||true,!((!dn.getD i.toNat default)==true&&true)||decide (0<=i),!((!dn.getD i.toNat default)==true&&true)||decide (i.toNat<(List.map vi fa).length),!((!dn.getD i.toNat default)==true&&true)||true,!(decide (m<0)==false&&((Ze7 dn i fa)==true&&true))||true,!(decide (m<0)==false&&((Ze7 dn i fa)==true&&true))||decide (0<=i),!(decide (m<0)==false&&((Ze7 dn i fa)==true&&true))||decide (i.toNat<(List.map vi fa).length),!(decide (m<0)==false&&((Ze7 dn i fa)==true&&true))||true,!(decide (m<0)==false&&((Ze7 dn i fa)==true&&true))||true,!(decide (m<0)==false&&((Ze7 dn i fa)==true&&true))||decide (0<=m),!(decide (m<0)==false&&((Ze7 dn i fa)==true&&true))||decide (m.toNat<(List.map vi fa).length),!(decide (m<0)==false&&((Ze7 dn i fa)==true&&true))||true],[((List.map vb dn).get?Internal i.toNat=some (vb (dn.getD i.toNat default))),(((!dn.getD i.toNat default)==true&&true)=true->(List.map vi fa).get?Internal i.toNat=some (vi (fa.getD i.toNat default))),((decide (m<0)==false&&((Ze7 dn i fa)==true&&true))=true->(List.map vi fa).get?Internal i.toNat=some (vi (fa.getD i.toNat default))),((decide (m<0)==false&&((Ze7 dn i fa)==true&&true))=true->(List.map vi fa).get?Internal m.toNat=some (vi (fa.getD m.toNat default)))],_⟩ (by kernel_rfl) (bc (Zak (Zab.2 d2)) (bc rfl (bc (Zab.2 k4) (bc (i6.2 k7) (bc rfl (bc (Bool.or_true _) (bc ((Zbb (i_at (i_bt (ZaS (ZaI _)))) Zab).2 (fun _=>k4)) (bc (i10.2 k11) (bc (Bool.or_true _) (bc (Bool.or_true _) (bc ((Zbb (Za4 (i_bf Zab) (i_at (i_bt (ZaD (ZaS (ZaI _)) Zab)))) Zab).2 (fun _=>k4)) (bc (i13.2 k14) (bc (Bool.or_true _) (bc (Bool.or_true _) (bc ((Zbb (Za4 (i_bf Zab) (i_at (i_bt (ZaD (ZaS (ZaI _)) Zab)))) Zab).2 k16) (bc (i17.2 k18) (bc (Bool.or_true _) b0))))))))))))))))) (qc (Zal k7) (qc (fun h=>Zal (k11 ((i_at (i_bt (ZaS (ZaI _)))).1 h))) (qc (fun h=>Zal (k14 ((Za4 (i_bf Zab) (i_at (i_bt (ZaD (ZaS (ZaI _)) Zab)))).1 h))) (qc (fun h=>Zal (k18 ((Za4 (i_bf Zab) (i_at (i_bt (ZaD (ZaS (ZaI _)) Zab)))).1 h))) q0)))) c0 ?_
  rcases xq H with ⟨d23,H⟩|⟨d23,H⟩
  ·obtain ⟨k24,H⟩:=H
   have w25:wi (i+1)=i+1:=wI64 k24
   exact Zae (G:=Zad kp44 [] []) 1000 [true] ⟨(atC (cd Try.f44) [1,1,1,1,1,1,0,0,0,0,1,0,1,0,0]),[(0,AV.vec g 2 (List.map Gp.a l)),(1,AV.func (Fn.func 42) [] [AV.eptr 1 [AV.vec f 5 (List.map Bx.a bs)] 0 0]),(5,AV.row 0 0),(6,AV.row 1 0),(7,AV.row 2 0),(9,vi i),(39,vi n),(40,vi (wi (i+1)))],[⟨List.map vi fa,1,0,false,true⟩,⟨List.map vi bf,1,0,false,true⟩,⟨List.map vb dn,1,0,false,true⟩],[(zNqI2 dn i fa m)==true],[],_⟩ (by kernel_rfl) (bc (Zak ((ZaD (ZaD (ZaS (ZaI _)) Zab) (ZaC Zab Zab)).2 d23)) b0) q0 c0 (by (try rw [w25]);all_goals exact H)
  ·obtain ⟨k26,H⟩:=H
   have w27:wi (i+1)=i+1:=wI64 k26
   exact Zae (G:=Zad kp44 [] []) 1000 [false] ⟨(atC (cd Try.f44) [1,1,1,1,1,1,0,0,0,0,1,0,1,0,0]),[(0,AV.vec g 2 (List.map Gp.a l)),(1,AV.func (Fn.func 42) [] [AV.eptr 1 [AV.vec f 5 (List.map Bx.a bs)] 0 0]),(5,AV.row 0 0),(6,AV.row 1 0),(7,AV.row 2 0),(9,vi m),(39,vi n),(40,vi (wi (i+1)))],[⟨List.map vi fa,1,0,false,true⟩,⟨List.map vi bf,1,0,false,true⟩,⟨List.map vb dn,1,0,false,true⟩],[(zNqI2 dn i fa m)==false],[],_⟩ (by kernel_rfl) (bc (Zah (fun h=>d23 ((ZaD (ZaD (ZaS (ZaI _)) Zab) (ZaC Zab Zab)).1 h))) b0) q0 c0 (by (try rw [w27]);all_goals exact H)
 ·rcases xq H with ⟨d29,H⟩|⟨d29,H⟩
  ·exact Zaq (G:=Zad kp44 [] []) 1000 [false,true] (AV.vnil) (by kernel_rfl) (bc (Zah (fun h=>d2 (Zab.1 h))) (bc (Zak (Zab.2 d29)) b0)) q0 c0 H
  ·have w30:(List.map Gp.a l).length=l.length:=List.length_map ..
   obtain ⟨k31,H⟩:=H
   have w32:wi ((↑l.length:Int)-1)=(↑l.length:Int)-1:=wI64 k31
   have i33:(m==wi ((↑(List.map Gp.a l).length:Int)-1))=true ↔ (m=(↑l.length:Int)-1):=(by (try rw [w30]);(try rw [w32]);all_goals exact i_eq)
   rcases xq H with ⟨d34,H⟩|⟨d34,H⟩
   ·exact Zae (G:=Zad kp44 [] []) 1000 [false,false,true] ⟨(atC (cd Try.f44) [1,1,1,1,1,1,1,1,0,1,0,0]),[(0,AV.vec g 2 (List.map Gp.a l)),(6,AV.row 1 0),(13,AV.vnil),(14,vi (wi ((↑(List.map Gp.a l).length:Int)-1)))],[⟨List.map vi fa,1,0,false,true⟩,⟨List.map vi bf,1,0,false,true⟩,⟨List.map vb dn,1,0,false,true⟩],_,[],_⟩ (by kernel_rfl) (bc (Zah (fun h=>d2 (Zab.1 h))) (bc (Zah (fun h=>d29 (Zab.1 h))) (bc (Zak (i33.2 d34)) b0))) q0 c0 (by (try rw [w30]);(try rw [w32]);all_goals exact Zas [1] (by kernel_rfl) H)
   ·obtain ⟨k36,H⟩:=H
    have w37:(List.map vb dn).length=dn.length:=List.length_map ..
    have i38:(decide (m.toNat<(List.map vb dn).length))=true ↔ (m.toNat<dn.length):=(by (try rw [w37]);all_goals exact Zab)
    obtain ⟨k39,H⟩:=H
    have w40:(List.map vb dn).set m.toNat (vb true)=List.map vb (dn.set m.toNat true):=(Zbg rfl rfl)
    exact Zae (G:=Zad kp44 [(20,3,.elem (vb (dn.getD m.toNat default)))] []) 1000 [false,false,false] ⟨(atC (cd Try.f44) [1,1,1,1,1,1,0,0,0,0,1,1,1,1,1,1,0,0]),[(0,AV.vec g 2 (List.map Gp.a l)),(1,AV.func (Fn.func 42) [] [AV.eptr 1 [AV.vec f 5 (List.map Bx.a bs)] 0 0]),(5,AV.row 0 0),(6,AV.row 1 0),(7,AV.row 2 0),(9,vi m),(83,vi (↑(List.map Gp.a l).length:Int)),(84,vi 0)],[⟨List.map vi fa,1,0,false,true⟩,⟨List.map vi bf,1,0,false,true⟩,⟨(List.map vb dn).set m.toNat (vb true),1,0,false,true⟩],_,[((List.map vb dn).get?Internal m.toNat=some (vb (dn.getD m.toNat default)))],_⟩ (by kernel_rfl) (bc (Zah (fun h=>d2 (Zab.1 h))) (bc (Zah (fun h=>d29 (Zab.1 h))) (bc (Zah (fun h=>d34 (i33.1 h))) (bc rfl (bc (Zab.2 k36) (bc (i38.2 k39) (bc rfl b0))))))) (qc (Zal k39) q0) c0 (by (try rw [w30]);(try rw [w40]);all_goals exact H)
noncomputable abbrev zNqI3 (l:List Gp) (m:Int):=ag [vi (l.getD m.toNat default).x,vi (l.getD m.toNat default).y]
noncomputable abbrev zNqI4 (l:List Gp) (i:Int):=ag [vi (l.getD i.toNat default).x,vi (l.getD i.toNat default).y]
theorem qSh4 (f g:Bool) (bs:List Bx) (l:List Gp) (fa bf:List Int) (dn:List Bool) (m n i:Int)  (dq:AV) (H :
  ((i<n)->(O.cb4 (l.getD m.toNat default).x (l.getD m.toNat default).y (l.getD i.toNat default).x (l.getD i.toNat default).y) /\
   (0<=m) /\
   (m.toNat<fa.length) /\
   (m.toNat<l.length) /\
   (0<=i) /\
   (i.toNat<l.length) /\
   (-9223372036854775808<=fa.getD m.toNat default+O.gap { x:=(l.getD m.toNat default).x,y:=(l.getD m.toNat default).y } { x:=(l.getD i.toNat default).x,y:=(l.getD i.toNat default).y } /\ fa.getD m.toNat default+O.gap { x:=(l.getD m.toNat default).x,y:=(l.getD m.toNat default).y } { x:=(l.getD i.toNat default).x,y:=(l.getD i.toNat default).y } <= 9223372036854775807) /\
   (((¬(dn.getD i.toNat default=true))/\((fa.getD i.toNat default<0)\/(fa.getD m.toNat default+O.gap { x:=(l.getD m.toNat default).x,y:=(l.getD m.toNat default).y } { x:=(l.getD i.toNat default).x,y:=(l.getD i.toNat default).y } < fa.getD i.toNat default)))->(O.okFr bs (l.getD m.toNat default).x (l.getD m.toNat default).y (l.getD i.toNat default).x (l.getD i.toNat default).y)) /\
   (i.toNat<dn.length) /\
   ((¬(dn.getD i.toNat default=true))->(i.toNat<fa.length)) /\
   (((¬(fa.getD i.toNat default<0))/\(¬(dn.getD i.toNat default=true)))->(i.toNat<fa.length)) /\
   ((((¬(dn.getD i.toNat default=true))/\((fa.getD i.toNat default<0)\/(fa.getD m.toNat default+O.gap { x:=(l.getD m.toNat default).x,y:=(l.getD m.toNat default).y } { x:=(l.getD i.toNat default).x,y:=(l.getD i.toNat default).y } < fa.getD i.toNat default)))/\(O.frB bs { x:=(l.getD m.toNat default).x,y:=(l.getD m.toNat default).y } { x:=(l.getD i.toNat default).x,y:=(l.getD i.toNat default).y } = true))->(i.toNat<fa.length) /\
    (i.toNat<bf.length) /\
    (-9223372036854775808<=i+1/\i+1<=9223372036854775807) /\
    ZdO f g bs l (fa.set i.toNat (fa.getD m.toNat default+O.gap (l.getD m.toNat default) (l.getD i.toNat default))) (bf.set i.toNat m) dn m n (i+1) (Zaf dq)) /\
   (¬(((¬(dn.getD i.toNat default=true))/\((fa.getD i.toNat default<0)\/(fa.getD m.toNat default+O.gap { x:=(l.getD m.toNat default).x,y:=(l.getD m.toNat default).y } { x:=(l.getD i.toNat default).x,y:=(l.getD i.toNat default).y } < fa.getD i.toNat default)))/\(O.frB bs { x:=(l.getD m.toNat default).x,y:=(l.getD m.toNat default).y } { x:=(l.getD i.toNat default).x,y:=(l.getD i.toNat default).y } = true))->(-9223372036854775808<=i+1/\i+1<=9223372036854775807) /\
    ZdO f g bs l fa bf dn m n (i+1) (Zaf dq))) /\
  (¬(i<n)->ZdP f g bs l fa bf dn (Zaf dq))) :
 ZdO f g bs l fa bf dn m n i (Zaf dq):=by
 unfold ZdO
 rcases xq H with ⟨d2,H⟩|⟨d2,H⟩
 ·obtain ⟨k3,k5,H⟩:=H
  have w6:(List.map vi fa).length=fa.length:=List.length_map ..
  have i7:(decide (m.toNat<(List.map vi fa).length))=true ↔ (m.toNat<fa.length):=(by (try rw [w6]);all_goals exact Zab)
  obtain ⟨k8,H⟩:=H
  have w10:(List.map Gp.a l).length=l.length:=List.length_map ..
  have i11:(decide (m.toNat<(List.map Gp.a l).length))=true ↔ (m.toNat<l.length):=(by (try rw [w10]);all_goals exact Zab)
  obtain ⟨k12,k14,H⟩:=H
  have i15:(decide (i.toNat<(List.map Gp.a l).length))=true ↔ (i.toNat<l.length):=(by (try rw [w10]);all_goals exact Zab)
  obtain ⟨k16,k17,H⟩:=H
  have w18:wi (fa.getD m.toNat default+O.gap { x:=(l.getD m.toNat default).x,y:=(l.getD m.toNat default).y } { x:=(l.getD i.toNat default).x,y:=(l.getD i.toNat default).y })=fa.getD m.toNat default+O.gap { x:=(l.getD m.toNat default).x,y:=(l.getD m.toNat default).y } { x:=(l.getD i.toNat default).x,y:=(l.getD i.toNat default).y }:=wI64 k17
  have i19:((bif !dn.getD i.toNat default then bif decide (fa.getD i.toNat default<0) then true else decide (wi (fa.getD m.toNat default+O.gap { x:=(l.getD m.toNat default).x,y:=(l.getD m.toNat default).y } { x:=(l.getD i.toNat default).x,y:=(l.getD i.toNat default).y })<fa.getD i.toNat default) else false)==true&&true&&true)=true ↔ ((¬(dn.getD i.toNat default=true))/\((fa.getD i.toNat default<0)\/(fa.getD m.toNat default+O.gap { x:=(l.getD m.toNat default).x,y:=(l.getD m.toNat default).y } { x:=(l.getD i.toNat default).x,y:=(l.getD i.toNat default).y } < fa.getD i.toNat default))):=(by (try rw [w18]);all_goals exact (i_at (i_at (i_bt (ZaD (ZaS (ZaI _)) (ZaC Zab Zab))))))
  obtain ⟨k20,H⟩:=H
  have w22:(List.map vb dn).length=dn.length:=List.length_map ..
  have i23:(decide (i.toNat<(List.map vb dn).length))=true ↔ (i.toNat<dn.length):=(by (try rw [w22]);all_goals exact Zab)
  obtain ⟨k24,H⟩:=H
  have i26:(!((!dn.getD i.toNat default)==true&&true)||decide (i.toNat<(List.map vi fa).length))=true ↔ ((¬(dn.getD i.toNat default=true))->(i.toNat<fa.length)):=(by (try rw [w6]);all_goals exact (Zbb (i_at (i_bt (ZaS (ZaI _)))) Zab))
  obtain ⟨k27,H⟩:=H
  have i29:(!(decide (fa.getD i.toNat default<0)==false&&((!dn.getD i.toNat default)==true&&true))||decide (i.toNat<(List.map vi fa).length))=true ↔ (((¬(fa.getD i.toNat default<0))/\(¬(dn.getD i.toNat default=true)))->(i.toNat<fa.length)):=(by (try rw [w6]);all_goals exact (Zbb (Za4 (i_bf Zab) (i_at (i_bt (ZaS (ZaI _))))) Zab))
  obtain ⟨k30,H⟩:=H
  have i31:(!((bif !dn.getD i.toNat default then bif decide (fa.getD i.toNat default<0) then true else decide (wi (fa.getD m.toNat default+O.gap { x:=(l.getD m.toNat default).x,y:=(l.getD m.toNat default).y } { x:=(l.getD i.toNat default).x,y:=(l.getD i.toNat default).y })<fa.getD i.toNat default) else false)==true&&true)||decide (0<=m))=true ↔ (((¬(dn.getD i.toNat default=true))/\((fa.getD i.toNat default<0)\/(fa.getD m.toNat default+O.gap { x:=(l.getD m.toNat default).x,y:=(l.getD m.toNat default).y } { x:=(l.getD i.toNat default).x,y:=(l.getD i.toNat default).y } < fa.getD i.toNat default)))->(0<=m)):=(by (try rw [w18]);all_goals exact (Zbb (i_at (i_bt (ZaD (ZaS (ZaI _)) (ZaC Zab Zab)))) Zab))
  have i32:(!((bif !dn.getD i.toNat default then bif decide (fa.getD i.toNat default<0) then true else decide (wi (fa.getD m.toNat default+O.gap { x:=(l.getD m.toNat default).x,y:=(l.getD m.toNat default).y } { x:=(l.getD i.toNat default).x,y:=(l.getD i.toNat default).y })<fa.getD i.toNat default) else false)==true&&true)||decide (m.toNat<(List.map Gp.a l).length))=true ↔ (((¬(dn.getD i.toNat default=true))/\((fa.getD i.toNat default<0)\/(fa.getD m.toNat default+O.gap { x:=(l.getD m.toNat default).x,y:=(l.getD m.toNat default).y } { x:=(l.getD i.toNat default).x,y:=(l.getD i.toNat default).y } < fa.getD i.toNat default)))->(m.toNat<l.length)):=(by (try rw [w10]);(try rw [w18]);all_goals exact (Zbb (i_at (i_bt (ZaD (ZaS (ZaI _)) (ZaC Zab Zab)))) Zab))
  have i33:(!((bif !dn.getD i.toNat default then bif decide (fa.getD i.toNat default<0) then true else decide (wi (fa.getD m.toNat default+O.gap { x:=(l.getD m.toNat default).x,y:=(l.getD m.toNat default).y } { x:=(l.getD i.toNat default).x,y:=(l.getD i.toNat default).y })<fa.getD i.toNat default) else false)==true&&true)||decide (0<=i))=true ↔ (((¬(dn.getD i.toNat default=true))/\((fa.getD i.toNat default<0)\/(fa.getD m.toNat default+O.gap { x:=(l.getD m.toNat default).x,y:=(l.getD m.toNat default).y } { x:=(l.getD i.toNat default).x,y:=(l.getD i.toNat default).y } < fa.getD i.toNat default)))->(0<=i)):=(by (try rw [w18]);all_goals exact (Zbb (i_at (i_bt (ZaD (ZaS (ZaI _)) (ZaC Zab Zab)))) Zab))
  have i34:(!((bif !dn.getD i.toNat default then bif decide (fa.getD i.toNat default<0) then true else decide (wi (fa.getD m.toNat default+O.gap { x:=(l.getD m.toNat default).x,y:=(l.getD m.toNat default).y } { x:=(l.getD i.toNat default).x,y:=(l.getD i.toNat default).y })<fa.getD i.toNat default) else false)==true&&true)||decide (i.toNat<(List.map Gp.a l).length))=true ↔ (((¬(dn.getD i.toNat default=true))/\((fa.getD i.toNat default<0)\/(fa.getD m.toNat default+O.gap { x:=(l.getD m.toNat default).x,y:=(l.getD m.toNat default).y } { x:=(l.getD i.toNat default).x,y:=(l.getD i.toNat default).y } < fa.getD i.toNat default)))->(i.toNat<l.length)):=(by (try rw [w10]);(try rw [w18]);all_goals exact (Zbb (i_at (i_bt (ZaD (ZaS (ZaI _)) (ZaC Zab Zab)))) Zab))
  have i39:(bif bif !dn.getD i.toNat default then bif decide (fa.getD i.toNat default<0) then true else decide (wi (fa.getD m.toNat default+O.gap { x:=(l.getD m.toNat default).x,y:=(l.getD m.toNat default).y } { x:=(l.getD i.toNat default).x,y:=(l.getD i.toNat default).y })<fa.getD i.toNat default) else false then O.frB bs { x:=(l.getD m.toNat default).x,y:=(l.getD m.toNat default).y } { x:=(l.getD i.toNat default).x,y:=(l.getD i.toNat default).y } else false)=true ↔ (((¬(dn.getD i.toNat default=true))/\((fa.getD i.toNat default<0)\/(fa.getD m.toNat default+O.gap { x:=(l.getD m.toNat default).x,y:=(l.getD m.toNat default).y } { x:=(l.getD i.toNat default).x,y:=(l.getD i.toNat default).y } < fa.getD i.toNat default)))/\(O.frB bs { x:=(l.getD m.toNat default).x,y:=(l.getD m.toNat default).y } { x:=(l.getD i.toNat default).x,y:=(l.getD i.toNat default).y } = true)):=(by (try rw [w18]);all_goals exact (ZaD (ZaD (ZaS (ZaI _)) (ZaC Zab Zab)) (ZaI _)))
  refine Zae (G:=Zad kp44 [(24,3,.elem (vi (fa.getD m.toNat default))),(24,7,.elem ((zNqI3 l m))),(24,11,.elem ((zNqI4 l i))),(24,12,.call (vi (O.gap { x:=(l.getD m.toNat default).x,y:=(l.getD m.toNat default).y } { x:=(l.getD i.toNat default).x,y:=(l.getD i.toNat default).y })) none),(25,3,.elem (vb (dn.getD i.toNat default))),(25,9,.elem (vi (fa.getD i.toNat default))),(25,16,.elem (vi (fa.getD i.toNat default))),(25,25,.elem ((zNqI3 l m))),(25,29,.elem ((zNqI4 l i))),(25,30,.call (vb (O.frB bs { x:=(l.getD m.toNat default).x,y:=(l.getD m.toNat default).y } { x:=(l.getD i.toNat default).x,y:=(l.getD i.toNat default).y })) none)] []) 13 [true] ⟨(atC (cd Try.f44) [1,1,1,1,1,1,0,0,0,0,1,1,1,1,1,1,0,0,1,1,0,0,1,1,1]),[(0,AV.vec g 2 (List.map Gp.a l)),(1,AV.func (Fn.func 42) [] [AV.eptr 1 [AV.vec f 5 (List.map Bx.a bs)] 0 0]),(5,AV.row 0 0),(6,AV.row 1 0),(7,AV.row 2 0),(9,vi m),(11,vi i),(12,vi (wi (fa.getD m.toNat default+O.gap { x:=(l.getD m.toNat default).x,y:=(l.getD m.toNat default).y } { x:=(l.getD i.toNat default).x,y:=(l.getD i.toNat default).y }))),(83,vi n),(84,vi i),(132,vb (bif bif !dn.getD i.toNat default then bif decide (fa.getD i.toNat default<0) then true else decide (wi (fa.getD m.toNat default+O.gap { x:=(l.getD m.toNat default).x,y:=(l.getD m.toNat default).y } { x:=(l.getD i.toNat default).x,y:=(l.getD i.toNat default).y })<fa.getD i.toNat default) else false then O.frB bs { x:=(l.getD m.toNat default).x,y:=(l.getD m.toNat default).y } { x:=(l.getD i.toNat default).x,y:=(l.getD i.toNat default).y } else false))],[⟨List.map vi fa,1,0,false,true⟩,⟨List.map vi bf,1,0,false,true⟩,⟨List.map vb dn,1,0,false,true⟩],[(decide (i<n))==true,true,decide (0<=m),decide (m.toNat<(List.map vi fa).length),true,decide (0<=m),decide (m.toNat<(List.map Gp.a l).length),decide (0<=i),decide (i.toNat<(List.map Gp.a l).length),true,decide (0<=i),decide (i.toNat<(List.map vb dn).length),true,!((!dn.getD i.toNat default)==true&&true)||true,!((!dn.getD i.toNat default)==true&&true)||decide (0<=i),!((!dn.getD i.toNat default)==true&&true)||decide (i.toNat<(List.map vi fa).length),!((!dn.getD i.toNat default)==true&&true)||true,!(decide (fa.getD i.toNat default<0)==false&&((!dn.getD i.toNat default)==true&&true))||true,!(decide (fa.getD i.toNat default<0)==false&&((!dn.getD i.toNat default)==true&&true))||decide (0<=i),!(decide (fa.getD i.toNat default<0)==false&&((!dn.getD i.toNat default)==true&&true))||decide (i.toNat<(List.map vi fa).length),!(decide (fa.getD i.toNat default<0)==false&&((!dn.getD i.toNat default)==true&&true))||true,!((bif !dn.getD i.toNat default then bif decide (fa.getD i.toNat default<0) then true else decide (wi (fa.getD m.toNat default+O.gap { x:=(l.getD m.toNat default).x,y:=(l.getD m.toNat default).y } { x:=(l.getD i.toNat default).x,y:=(l.getD i.toNat default).y })<fa.getD i.toNat default) else false)==true&&true)||decide (0<=m),!((bif !dn.getD i.toNat default then bif decide (fa.getD i.toNat default<0) then true else decide (wi (fa.getD m.toNat default+O.gap { x:=(l.getD m.toNat default).x,y:=(l.getD m.toNat default).y } { x:=(l.getD i.toNat default).x,y:=(l.getD i.toNat default).y })<fa.getD i.toNat default) else false)==true&&true)||decide (m.toNat<(List.map Gp.a l).length),!((bif !dn.getD i.toNat default then bif decide (fa.getD i.toNat default<0) then true else decide (wi (fa.getD m.toNat default+O.gap { x:=(l.getD m.toNat default).x,y:=(l.getD m.toNat default).y } { x:=(l.getD i.toNat default).x,y:=(l.getD i.toNat default).y })<fa.getD i.toNat default) else false)==true&&true)||decide (0<=i),!((bif !dn.getD i.toNat default then bif decide (fa.getD i.toNat default<0) then true else decide (wi (fa.getD m.toNat default+O.gap { x:=(l.getD m.toNat default).x,y:=(l.getD m.toNat default).y } { x:=(l.getD i.toNat default).x,y:=(l.getD i.toNat default).y })<fa.getD i.toNat default) else false)==true&&true)||decide (i.toNat<(List.map Gp.a l).length)],[((List.map vi fa).get?Internal m.toNat=some (vi (fa.getD m.toNat default))),((List.map Gp.a l).get?Internal m.toNat=some ((zNqI3 l m))),((List.map Gp.a l).get?Internal i.toNat=some ((zNqI4 l i))),((List.map vb dn).get?Internal i.toNat=some (vb (dn.getD i.toNat default))),(((!dn.getD i.toNat default)==true&&true)=true->(List.map vi fa).get?Internal i.toNat=some (vi (fa.getD i.toNat default))),((decide (fa.getD i.toNat default<0)==false&&((!dn.getD i.toNat default)==true&&true))=true->(List.map vi fa).get?Internal i.toNat=some (vi (fa.getD i.toNat default))),(((bif !dn.getD i.toNat default then bif decide (fa.getD i.toNat default<0) then true else decide (wi (fa.getD m.toNat default+O.gap { x:=(l.getD m.toNat default).x,y:=(l.getD m.toNat default).y } { x:=(l.getD i.toNat default).x,y:=(l.getD i.toNat default).y })<fa.getD i.toNat default) else false)==true&&true)=true->(List.map Gp.a l).get?Internal m.toNat=some ((zNqI3 l m))),(((bif !dn.getD i.toNat default then bif decide (fa.getD i.toNat default<0) then true else decide (wi (fa.getD m.toNat default+O.gap { x:=(l.getD m.toNat default).x,y:=(l.getD m.toNat default).y } { x:=(l.getD i.toNat default).x,y:=(l.getD i.toNat default).y })<fa.getD i.toNat default) else false)==true&&true)=true->(List.map Gp.a l).get?Internal i.toNat=some ((zNqI4 l i)))],[⟨true,false,47,[(zNqI3 l m),(zNqI4 l i)],[],vi (O.gap { x:=(l.getD m.toNat default).x,y:=(l.getD m.toNat default).y } { x:=(l.getD i.toNat default).x,y:=(l.getD i.toNat default).y }),[]⟩,⟨(bif !dn.getD i.toNat default then bif decide (fa.getD i.toNat default<0) then true else decide (wi (fa.getD m.toNat default+O.gap { x:=(l.getD m.toNat default).x,y:=(l.getD m.toNat default).y } { x:=(l.getD i.toNat default).x,y:=(l.getD i.toNat default).y })<fa.getD i.toNat default) else false)==true&&true&&true,false,42,[(zNqI3 l m),(zNqI4 l i),AV.eptr 1 [AV.vec f 5 (List.map Bx.a bs)] 0 0],[],vb (O.frB bs { x:=(l.getD m.toNat default).x,y:=(l.getD m.toNat default).y } { x:=(l.getD i.toNat default).x,y:=(l.getD i.toNat default).y }),[]⟩]⟩ (by kernel_rfl) (bc (Zak (Zab.2 d2)) (bc rfl (bc (Zab.2 k5) (bc (i7.2 k8) (bc rfl (bc (Zab.2 k5) (bc (i11.2 k12) (bc (Zab.2 k14) (bc (i15.2 k16) (bc rfl (bc (Zab.2 k14) (bc (i23.2 k24) (bc rfl (bc (Bool.or_true _) (bc ((Zbb (i_at (i_bt (ZaS (ZaI _)))) Zab).2 (fun _=>k14)) (bc (i26.2 k27) (bc (Bool.or_true _) (bc (Bool.or_true _) (bc ((Zbb (Za4 (i_bf Zab) (i_at (i_bt (ZaS (ZaI _))))) Zab).2 (fun _=>k14)) (bc (i29.2 k30) (bc (Bool.or_true _) (bc (i31.2 (fun _=>k5)) (bc (i32.2 (fun _=>k12)) (bc (i33.2 (fun _=>k14)) (bc (i34.2 (fun _=>k16)) b0))))))))))))))))))))))))) (qc (Zal k8) (qc (Zal k12) (qc (Zal k16) (qc (Zal k24) (qc (fun h=>Zal (k27 ((i_at (i_bt (ZaS (ZaI _)))).1 h))) (qc (fun h=>Zal (k30 ((Za4 (i_bf Zab) (i_at (i_bt (ZaS (ZaI _))))).1 h))) (qc (by (try rw [w18]);all_goals exact (fun h=>Zal k12)) (qc (by (try rw [w18]);all_goals exact (fun h=>Zal k16)) q0)))))))) (cc (fun _=>(@ev47 ((l.getD m.toNat default).x) ((l.getD m.toNat default).y) ((l.getD i.toNat default).x) ((l.getD i.toNat default).y) k3)) (cc (fun hc=>((@ev42 f bs ((l.getD m.toNat default).x) ((l.getD m.toNat default).y) ((l.getD i.toNat default).x) ((l.getD i.toNat default).y) (k20 (i19.1 hc))):Ev M1 (Conf.pure 42 [(zNqI3 l m),(zNqI4 l i),AV.eptr 1 [AV.vec f 5 (List.map Bx.a bs)] 0 0]) (vb (O.frB bs { x:=(l.getD m.toNat default).x,y:=(l.getD m.toNat default).y } { x:=(l.getD i.toNat default).x,y:=(l.getD i.toNat default).y })) [])) c0)) ?_
  rcases xq H with ⟨d40,H⟩|⟨d40,H⟩
  ·have i42:(decide (i.toNat<(List.map vi fa).length))=true ↔ (i.toNat<fa.length):=(by (try rw [w6]);all_goals exact Zab)
   obtain ⟨k43,H⟩:=H
   have w45:(List.map vi bf).length=bf.length:=List.length_map ..
   have i46:(decide (i.toNat<(List.map vi bf).length))=true ↔ (i.toNat<bf.length):=(by (try rw [w45]);all_goals exact Zab)
   obtain ⟨k47,H⟩:=H
   have w48:(List.map vi fa).set i.toNat (vi (fa.getD m.toNat default+O.gap { x:=(l.getD m.toNat default).x,y:=(l.getD m.toNat default).y } { x:=(l.getD i.toNat default).x,y:=(l.getD i.toNat default).y }))=List.map vi (fa.set i.toNat (fa.getD m.toNat default+O.gap (l.getD m.toNat default) (l.getD i.toNat default))):=(Zbg rfl rfl)
   have w49:(List.map vi bf).set i.toNat (vi m)=List.map vi (bf.set i.toNat m):=(Zbg rfl rfl)
   obtain ⟨k50,H⟩:=H
   have w51:wi (i+1)=i+1:=wI64 k50
   exact Zae (G:=Zad kp44 [(26,7,.elem (vi (fa.getD i.toNat default))),(26,9,.elem (vi (bf.getD i.toNat default)))] []) 1000 [true] ⟨(atC (cd Try.f44) [1,1,1,1,1,1,0,0,0,0,1,1,1,1,1,1,0,0]),[(0,AV.vec g 2 (List.map Gp.a l)),(1,AV.func (Fn.func 42) [] [AV.eptr 1 [AV.vec f 5 (List.map Bx.a bs)] 0 0]),(5,AV.row 0 0),(6,AV.row 1 0),(7,AV.row 2 0),(9,vi m),(83,vi n),(84,vi (wi (i+1)))],[⟨(List.map vi fa).set i.toNat (vi (wi (fa.getD m.toNat default+O.gap { x:=(l.getD m.toNat default).x,y:=(l.getD m.toNat default).y } { x:=(l.getD i.toNat default).x,y:=(l.getD i.toNat default).y }))),1,0,false,true⟩,⟨(List.map vi bf).set i.toNat (vi m),1,0,false,true⟩,⟨List.map vb dn,1,0,false,true⟩],_,[((List.map vi fa).get?Internal i.toNat=some (vi (fa.getD i.toNat default))),((List.map vi bf).get?Internal i.toNat=some (vi (bf.getD i.toNat default)))],_⟩ (by kernel_rfl) (bc (Zak (i39.2 d40)) (bc rfl (bc (Zab.2 k14) (bc (i42.2 k43) (bc rfl (bc rfl (bc (Zab.2 k14) (bc (i46.2 k47) (bc rfl b0))))))))) (qc (Zal k43) (qc (Zal k47) q0)) c0 (by (try rw [w18]);(try rw [w48]);(try rw [w49]);(try rw [w51]);all_goals exact H)
  ·obtain ⟨k52,H⟩:=H
   have w53:wi (i+1)=i+1:=wI64 k52
   exact Zae (G:=Zad kp44 [] []) 1000 [false] ⟨(atC (cd Try.f44) [1,1,1,1,1,1,0,0,0,0,1,1,1,1,1,1,0,0]),[(0,AV.vec g 2 (List.map Gp.a l)),(1,AV.func (Fn.func 42) [] [AV.eptr 1 [AV.vec f 5 (List.map Bx.a bs)] 0 0]),(5,AV.row 0 0),(6,AV.row 1 0),(7,AV.row 2 0),(9,vi m),(83,vi n),(84,vi (wi (i+1)))],[⟨List.map vi fa,1,0,false,true⟩,⟨List.map vi bf,1,0,false,true⟩,⟨List.map vb dn,1,0,false,true⟩],_,[],_⟩ (by kernel_rfl) (bc (Zah (fun h=>d40 (i39.1 h))) b0) q0 c0 (by (try rw [w53]);all_goals exact H)
 ·exact Zae (G:=Zad kp44 [] []) 1000 [false] ⟨(atC (cd Try.f44) [1,1,1,1,1,1,0,0,0]),[(0,AV.vec g 2 (List.map Gp.a l)),(1,AV.func (Fn.func 42) [] [AV.eptr 1 [AV.vec f 5 (List.map Bx.a bs)] 0 0]),(5,AV.row 0 0),(6,AV.row 1 0),(7,AV.row 2 0),(9,vi m),(83,vi n),(84,vi i),(85,vb (decide (i<n)))],[⟨List.map vi fa,1,0,false,true⟩,⟨List.map vi bf,1,0,false,true⟩,⟨List.map vb dn,1,0,false,true⟩],_,[],_⟩ (by kernel_rfl) (bc (Zah (fun h=>d2 (Zab.1 h))) b0) q0 c0 (Wp.less [0,1,5,6,7] H)
noncomputable abbrev zNqI5 (l:List Gp) (i:Int):=ag [vi (l.getD i.toNat default).x,vi (l.getD i.toNat default).y]
theorem qSh5 (g:Bool) (l:List Gp) (bf:List Int) (i:Int)  (dq:AV) (H :
  ((i>=0)->((false=true)->(i.toNat<l.length)) /\
   (0<=i) /\
   (i.toNat<l.length) /\
   (i.toNat<bf.length) /\
   ZdN g l ([l.getD i.toNat default]) bf (bf.getD i.toNat default) 0 (Zaf dq)) /\
  (¬(i>=0)->False)) :
 qSh5_at g l bf i (Zaf dq):=by
 unfold qSh5_at
 rcases xq H with ⟨d2,H⟩|⟨d2,H⟩
 ·obtain ⟨k4,k6,H⟩:=H
  have w7:(List.map Gp.a l).length=l.length:=List.length_map ..
  have i8:(decide (i.toNat<(List.map Gp.a l).length))=true ↔ (i.toNat<l.length):=(by (try rw [w7]);all_goals exact Zab)
  obtain ⟨k9,H⟩:=H
  have w11:(List.map vi bf).length=bf.length:=List.length_map ..
  have i12:(decide (i.toNat<(List.map vi bf).length))=true ↔ (i.toNat<bf.length):=(by (try rw [w11]);all_goals exact Zab)
  obtain ⟨k13,H⟩:=H
  have w14:[ag [vi (l.getD i.toNat default).x,vi (l.getD i.toNat default).y]]=List.map Gp.a [l.getD i.toNat default]:=rfl
  exact Zae (G:=Zad kp44 [(32,13,.elem (zNqI5 l i)),(33,4,.elem (zNqI5 l i)),(31,3,.elem (vi (bf.getD i.toNat default)))] []) 1000 [true,true] ⟨(atC (cd Try.f44) [1,1,1,1,1,1,1,1,0,1,0,0]),[(0,AV.vec g 2 (List.map Gp.a l)),(6,AV.row 0 0),(13,AV.row 1 0),(14,vi (bf.getD i.toNat default))],[⟨List.map vi bf,1,0,false,true⟩,⟨[ag [vi (l.getD i.toNat default).x,vi (l.getD i.toNat default).y]],2,0,false,true⟩],_,[(false=true->(List.map Gp.a l).get?Internal i.toNat=some (zNqI5 l i)),((List.map Gp.a l).get?Internal i.toNat=some (zNqI5 l i)),((List.map vi bf).get?Internal i.toNat=some (vi (bf.getD i.toNat default)))],_⟩ (by kernel_rfl) (bc (Zak (Zab.2 d2)) (bc rfl (bc rfl (bc rfl (bc (Zab.2 k6) (bc (i8.2 k9) (bc rfl (bc rfl (bc (Zab.2 k6) (bc (i12.2 k13) (bc rfl b0))))))))))) (qc (fun h=>Zal (k4 ((ZaI _).1 h))) (qc (Zal k9) (qc (Zal k13) q0))) c0 (by (try rw [w14]);all_goals exact H)
 ·exact False.elim H
noncomputable abbrev zNqI6 (l:List Gp) (i:Int):=ag [vi (l.getD i.toNat default).x,vi (l.getD i.toNat default).y]
noncomputable abbrev zNqI7 (gs:List Gp):=ag [vi (gs.getD ((↑gs.length:Int)-1).toNat default).x,vi (gs.getD ((↑gs.length:Int)-1).toNat default).y]
theorem qSh6 (g:Bool) (l gs:List Gp) (bf:List Int) (i:Int) (v:Nat)  (dq:AV) (H :
  ((i>=0)->(-9223372036854775808<=(↑gs.length:Int)-1/\(↑gs.length:Int)-1<=9223372036854775807) /\
   ((¬((↑gs.length:Int)=0))->(0<=(↑gs.length:Int)-1)) /\
   ((¬((↑gs.length:Int)=0))->(((↑gs.length:Int)-1).toNat<gs.length)) /\
   ((¬((↑gs.length:Int)=0))->(0<=i)) /\
   ((¬((↑gs.length:Int)=0))->(i.toNat<l.length)) /\
   ((((↑gs.length:Int)=0)\/(¬(((gs.getD ((↑gs.length:Int)-1).toNat default).x=(l.getD i.toNat default).x)/\((gs.getD ((↑gs.length:Int)-1).toNat default).y=(l.getD i.toNat default).y))))->(0<=i) /\
    (i.toNat<l.length) /\
    ((gs.length+1)*16<=1099511627776) /\
    (i.toNat<bf.length) /\
    ZdN g l (gs++[l.getD i.toNat default]) bf (bf.getD i.toNat default) (v+1) (Zaf dq)) /\
   (¬(((↑gs.length:Int)=0)\/(¬(((gs.getD ((↑gs.length:Int)-1).toNat default).x=(l.getD i.toNat default).x)/\((gs.getD ((↑gs.length:Int)-1).toNat default).y=(l.getD i.toNat default).y))))->(0<=i) /\
    (i.toNat<bf.length) /\
    ZdN g l gs bf (bf.getD i.toNat default) v (Zaf dq))) /\
  (¬(i>=0)->(gs.length<=1000) /\
   Weak (AV.vec false 2 (List.map Gp.a (gs.reverseAux []))) dq)) :
 ZdN g l gs bf i v (Zaf dq):=by
 unfold ZdN
 rcases xq H with ⟨d2,H⟩|⟨d2,H⟩
 ·have w3:(List.map Gp.a gs).length=gs.length:=List.length_map ..
  obtain ⟨k4,H⟩:=H
  have w5:wi ((↑gs.length:Int)-1)=(↑gs.length:Int)-1:=wI64 k4
  have i6:(!(((↑(List.map Gp.a gs).length:Int)==0)==false&&true)||v==v)=true ↔ ((¬((↑gs.length:Int)=0))->(v=v)):=(by (try rw [w3]);all_goals exact (Zbb (i_at (i_bf i_eq)) i_eq))
  have i7:(!(((↑(List.map Gp.a gs).length:Int)==0)==false&&true)||v==v)=true ↔ ((¬((↑gs.length:Int)=0))->(v=v)):=(by (try rw [w3]);all_goals exact (Zbb (i_at (i_bf i_eq)) i_eq))
  have i8:(!(((↑(List.map Gp.a gs).length:Int)==0)==false&&true)||decide (0<=wi ((↑(List.map Gp.a gs).length:Int)-1)))=true ↔ ((¬((↑gs.length:Int)=0))->(0<=(↑gs.length:Int)-1)):=(by (try rw [w3]);(try rw [w5]);all_goals exact (Zbb (i_at (i_bf i_eq)) Zab))
  obtain ⟨k9,H⟩:=H
  have i10:(!(((↑(List.map Gp.a gs).length:Int)==0)==false&&true)||decide ((wi ((↑(List.map Gp.a gs).length:Int)-1)).toNat<(List.map Gp.a gs).length))=true ↔ ((¬((↑gs.length:Int)=0))->(((↑gs.length:Int)-1).toNat<gs.length)):=(by (try rw [w3]);(try rw [w5]);all_goals exact (Zbb (i_at (i_bf i_eq)) Zab))
  obtain ⟨k11,H⟩:=H
  have i12:(!(((↑(List.map Gp.a gs).length:Int)==0)==false&&true)||v==v)=true ↔ ((¬((↑gs.length:Int)=0))->(v=v)):=(by (try rw [w3]);all_goals exact (Zbb (i_at (i_bf i_eq)) i_eq))
  have i13:(!(((↑(List.map Gp.a gs).length:Int)==0)==false&&true)||decide (0<=i))=true ↔ ((¬((↑gs.length:Int)=0))->(0<=i)):=(by (try rw [w3]);all_goals exact (Zbb (i_at (i_bf i_eq)) Zab))
  obtain ⟨k14,H⟩:=H
  have w15:(List.map Gp.a l).length=l.length:=List.length_map ..
  have i16:(!(((↑(List.map Gp.a gs).length:Int)==0)==false&&true)||decide (i.toNat<(List.map Gp.a l).length))=true ↔ ((¬((↑gs.length:Int)=0))->(i.toNat<l.length)):=(by (try rw [w3]);(try rw [w15]);all_goals exact (Zbb (i_at (i_bf i_eq)) Zab))
  obtain ⟨k17,H⟩:=H
  have i20:(bif (↑(List.map Gp.a gs).length:Int)==0 then true else !((gs.getD ((↑gs.length:Int)-1).toNat default).x==(l.getD i.toNat default).x&&((gs.getD ((↑gs.length:Int)-1).toNat default).y==(l.getD i.toNat default).y&&true)))=true ↔ (((↑gs.length:Int)=0)\/(¬(((gs.getD ((↑gs.length:Int)-1).toNat default).x=(l.getD i.toNat default).x)/\((gs.getD ((↑gs.length:Int)-1).toNat default).y=(l.getD i.toNat default).y)))):=(by (try rw [w3]);all_goals exact (ZaC i_eq (ZaS (Za4 i_eq (i_at i_eq)))))
  refine Zae (G:=Zad kp44 [(32,9,.elem (zNqI7 gs)),(32,13,.elem (zNqI6 l i))] []) 9 [true] ⟨(atC (cd Try.f44) [1,1,1,1,1,1,1,1,0,1,0,0,1,0,0,1]),[(0,AV.vec g 2 (List.map Gp.a l)),(6,AV.row 0 0),(13,AV.row 1 v),(14,vi i),(166,vb (bif (↑(List.map Gp.a gs).length:Int)==0 then true else !((gs.getD ((↑gs.length:Int)-1).toNat default).x==(l.getD i.toNat default).x&&((gs.getD ((↑gs.length:Int)-1).toNat default).y==(l.getD i.toNat default).y&&true))))],[⟨List.map vi bf,1,0,false,true⟩,⟨List.map Gp.a gs,2,v,false,true⟩],[(decide (i>=0))==true,v==v,!(((↑(List.map Gp.a gs).length:Int)==0)==false&&true)||v==v,!(((↑(List.map Gp.a gs).length:Int)==0)==false&&true)||v==v,!(((↑(List.map Gp.a gs).length:Int)==0)==false&&true)||decide (0<=wi ((↑(List.map Gp.a gs).length:Int)-1)),!(((↑(List.map Gp.a gs).length:Int)==0)==false&&true)||decide ((wi ((↑(List.map Gp.a gs).length:Int)-1)).toNat<(List.map Gp.a gs).length),!(((↑(List.map Gp.a gs).length:Int)==0)==false&&true)||v==v,!(((↑(List.map Gp.a gs).length:Int)==0)==false&&true)||decide (0<=i),!(((↑(List.map Gp.a gs).length:Int)==0)==false&&true)||decide (i.toNat<(List.map Gp.a l).length)],[((((↑(List.map Gp.a gs).length:Int)==0)==false&&true)=true->(List.map Gp.a gs).get?Internal (wi ((↑(List.map Gp.a gs).length:Int)-1)).toNat=some (zNqI7 gs)),((((↑(List.map Gp.a gs).length:Int)==0)==false&&true)=true->(List.map Gp.a l).get?Internal i.toNat=some (zNqI6 l i))],_⟩ (by kernel_rfl) (bc (Zak (Zab.2 d2)) (bc (beq_self_eq_true _) (bc (i6.2 (fun _=>rfl)) (bc (i7.2 (fun _=>rfl)) (bc (i8.2 k9) (bc (i10.2 k11) (bc (i12.2 (fun _=>rfl)) (bc (i13.2 k14) (bc (i16.2 k17) b0))))))))) (qc (by (try rw [w3]);(try rw [w5]);all_goals exact (fun h=>Zal (k11 ((i_at (i_bf i_eq)).1 h)))) (qc (by (try rw [w3]);all_goals exact (fun h=>Zal (k17 ((i_at (i_bf i_eq)).1 h)))) q0)) c0 ?_
  rcases xq H with ⟨d21,H⟩|⟨d21,H⟩
  ·obtain ⟨k23,H⟩:=H
   have i24:(decide (i.toNat<(List.map Gp.a l).length))=true ↔ (i.toNat<l.length):=(by (try rw [w15]);all_goals exact Zab)
   obtain ⟨k25,H⟩:=H
   have i26:(decide (((List.map Gp.a gs).length+1)*16<=1099511627776))=true ↔ ((gs.length+1)*16<=1099511627776):=(by (try rw [w3]);all_goals exact Zab)
   obtain ⟨k27,H⟩:=H
   have w28:List.map Gp.a gs++[ag [vi (l.getD i.toNat default).x,vi (l.getD i.toNat default).y]]=List.map Gp.a (gs++[l.getD i.toNat default]):=(Zcs rfl rfl)
   have w30:(List.map vi bf).length=bf.length:=List.length_map ..
   have i31:(decide (i.toNat<(List.map vi bf).length))=true ↔ (i.toNat<bf.length):=(by (try rw [w30]);all_goals exact Zab)
   obtain ⟨k32,H⟩:=H
   exact Zae (G:=Zad kp44 [(33,4,.elem (zNqI6 l i)),(31,3,.elem (vi (bf.getD i.toNat default)))] []) 1000 [true] ⟨(atC (cd Try.f44) [1,1,1,1,1,1,1,1,0,1,0,0]),[(0,AV.vec g 2 (List.map Gp.a l)),(6,AV.row 0 0),(13,AV.row 1 (v+1)),(14,vi (bf.getD i.toNat default))],[⟨List.map vi bf,1,0,false,true⟩,⟨List.map Gp.a gs++[ag [vi (l.getD i.toNat default).x,vi (l.getD i.toNat default).y]],2,v+1,false,true⟩],[(bif (↑(List.map Gp.a gs).length:Int)==0 then true else !((gs.getD ((↑gs.length:Int)-1).toNat default).x==(l.getD i.toNat default).x&&((gs.getD ((↑gs.length:Int)-1).toNat default).y==(l.getD i.toNat default).y&&true)))==true,decide (0<=i),decide (i.toNat<(List.map Gp.a l).length),v==v,decide (((List.map Gp.a gs).length+1)*16<=1099511627776),true,decide (0<=i),decide (i.toNat<(List.map vi bf).length),true],[((List.map Gp.a l).get?Internal i.toNat=some (zNqI6 l i)),((List.map vi bf).get?Internal i.toNat=some (vi (bf.getD i.toNat default)))],_⟩ (by kernel_rfl) (bc (Zak (i20.2 d21)) (bc (Zab.2 k23) (bc (i24.2 k25) (bc (beq_self_eq_true _) (bc (i26.2 k27) (bc rfl (bc (Zab.2 k23) (bc (i31.2 k32) (bc rfl b0))))))))) (qc (Zal k25) (qc (Zal k32) q0)) c0 (by (try rw [w28]);all_goals exact H)
  ·obtain ⟨k34,H⟩:=H
   have w35:(List.map vi bf).length=bf.length:=List.length_map ..
   have i36:(decide (i.toNat<(List.map vi bf).length))=true ↔ (i.toNat<bf.length):=(by (try rw [w35]);all_goals exact Zab)
   obtain ⟨k37,H⟩:=H
   exact Zae (G:=Zad kp44 [(31,3,.elem (vi (bf.getD i.toNat default)))] []) 1000 [false] ⟨(atC (cd Try.f44) [1,1,1,1,1,1,1,1,0,1,0,0]),[(0,AV.vec g 2 (List.map Gp.a l)),(6,AV.row 0 0),(13,AV.row 1 v),(14,vi (bf.getD i.toNat default))],[⟨List.map vi bf,1,0,false,true⟩,⟨List.map Gp.a gs,2,v,false,true⟩],_,[((List.map vi bf).get?Internal i.toNat=some (vi (bf.getD i.toNat default)))],_⟩ (by kernel_rfl) (bc (Zah (fun h=>d21 (i20.1 h))) (bc rfl (bc (Zab.2 k34) (bc (i36.2 k37) (bc rfl b0))))) (qc (Zal k37) q0) c0 H
 ·obtain ⟨k38,H⟩:=H
  exact Zax (G:=Zad kp44 [(34,1,.call (tu []) (some [⟨List.map Gp.a (gs.reverseAux []),2,v,false,true⟩]))] []) 1000 [false] (k:=((atC (cd Try.f44) [1,1,1,1,1,1,1,1,1,1,1])).tail) (env':=[(4,AV.row 1 v)]) (L':=[⟨List.map vi bf,1,0,false,true⟩,⟨List.map Gp.a (gs.reverseAux []),2,v,false,true⟩]) (asm:=[(decide (i>=0))==false]) (eqs:=[]) (calls:=[⟨true,true,60,[AV.row 0 v],[⟨List.map Gp.a gs,2,v,false,true⟩],tu [],[⟨List.map Gp.a (gs.reverseAux []),2,v,false,true⟩]⟩]) (AV.row 1 v) (by kernel_rfl) (by kernel_rfl) (Zaa (Zah (fun h=>d2 (Zab.1 h))) Zaj) Zan (Zap (fun _=>(@evo60 gs v k38)) Zao) (Zcb (d:=(AV.vec false 2 (List.map Gp.a (gs.reverseAux [])))) (bs:=[v==v]) (by kernel_rfl) (by kernel_rfl) (Zaa (beq_self_eq_true _) Zaj) (by kernel_rfl) H)
end Go.Av

namespace Go.Av
open Go.Proofs
namespace O
abbrev nd (l:List Gp) (p:Gp):Prop:=∃ i,i<l.length/\l.getD i default=p
structure Good (bs:List Bx) (l:List Gp) (P:List Gp):Prop where
 ne:P ≠ []
 head:P.getD 0 default=l.getD 0 default
 last:P.getD (P.length-1) default=l.getD (l.length-1) default
 mem:∀ p ∈ P,p ∈ l
 chn:O.chn (Zci bs) P
 walk:Wk (nd l) (Zci bs) (l.getD 0 default) (l.getD (l.length-1) default) (ZdF P)
 least:∀ d,Wk (nd l) (Zci bs) (l.getD 0 default) (l.getD (l.length-1) default) d->ZdF P<=d
 len:P.length<=l.length
def ShRes (bs:List Bx) (l:List Gp) (dq:AV):Prop:=
 (dq = .vnil /\ ∀ d,¬Wk (nd l) (Zci bs) (l.getD 0 default) (l.getD (l.length-1) default) d) \/ ∃ P,dq = .vec false 2 (P.map Gp.a)/\Good bs l P
end O
theorem Zga {bs:List Bx} {p q:Gp}:O.frB bs p q=true ↔ O.Zci bs p q:=by
 unfold O.frB
 exact ⟨fun h=>dec_of h,fun h=>dec_t h⟩
section
variable {f g:Bool} {bs:List Bx} {l:List Gp}
theorem pick_run (hl:l.length<=1000) {fa bf:List Int} {dn:List Bool} (h1:fa.length=l.length) (h3:dn.length=l.length) (k:Nat):∀ (i:Nat) (m:Int),i+k=l.length->O.pickd fa dn i m -> ∃ m',O.pickd fa dn l.length m' /\ ∀ dq,
  (((m'<0)->Weak (AV.vnil) dq)/\(¬(m'<0)->(-9223372036854775808<=(l.length:Int)-1/\(l.length:Int)-1<=9223372036854775807)/\((m'=(l.length:Int)-1)->qSh5_at g l bf ((l.length:Int)-1) (Zaf dq))/\(¬(m'=(l.length:Int)-1)->(0<=m')/\(m'.toNat<dn.length)/\ZdO f g bs l fa bf (dn.set m'.toNat true) m' l.length 0 (Zaf dq)))) ->
  ZeD f g bs l fa bf dn m l.length i (Zaf dq):=by
 induction k with
 | zero =>
  intro i m e hp
  have:i=l.length:=by omega
  subst this
  exact ⟨m,hp,fun dq H=>qSh3 _ _ _ _ _ _ _ _ _ _ _ ⟨fun x=>by omega,fun _=>H⟩⟩
 | succ k ih =>
  intro i m e hp
  have hi:i<l.length:=by omega
  have hm:¬m<0->0<=m/\m.toNat<fa.length:=fun x=>by
   rcases hp with ⟨rfl,_⟩ | ⟨j,rfl,hj,_⟩ <;> omega
  have neg:∀ j,(¬dn.getD j default=true) ↔ dn.getD j default=false:=fun j=>by cases dn.getD j default <;> simp
  by_cases c:dn.getD i default=false/\0<=fa.getD i default/\(m<0\/fa.getD i default<fa.getD m.toNat default)
  ·obtain ⟨m',p',w⟩:=ih (i+1) (i:Int) (by omega) (pick_yes hp c.1 c.2.1 c.2.2)
   refine ⟨m',p',fun dq H=>qSh3 _ _ _ _ _ _ _ _ _ _ _ ⟨fun x => ?_,fun x=>by omega⟩⟩
   rw [Int.toNat_natCast,neg,show (i:Int)+1=((i+1:Nat):Int) by omega]
   exact ⟨by omega,by omega,fun _=>by omega,fun _=>by omega,fun y=>(hm y.1).1,fun y=>(hm y.1).2,fun _=>⟨by omega,w dq H⟩,fun y=>absurd ⟨⟨c.1,c.2.1⟩,c.2.2⟩ y⟩
  ·obtain ⟨m',p',w⟩:=ih (i+1) m (by omega) (pick_no hp c)
   refine ⟨m',p',fun dq H=>qSh3 _ _ _ _ _ _ _ _ _ _ _ ⟨fun x => ?_,fun x=>by omega⟩⟩
   rw [Int.toNat_natCast,neg,show (i:Int)+1=((i+1:Nat):Int) by omega]
   exact ⟨by omega,by omega,fun _=>by omega,fun _=>by omega,fun y=>(hm y.1).1,fun y=>(hm y.1).2,fun y=>absurd ⟨y.1.1,y.1.2,y.2⟩ c,fun _=>⟨by omega,w dq H⟩⟩
theorem ccp_cb {p q:Gp} (h:O.ccp p) (k:O.ccp q):O.cb4 p.x p.y q.x q.y/\O.gap p q<=40000000:=by
 unfold O.ccp O.cc at h k
 refine ⟨⟨?_,?_,?_,?_⟩,?_⟩
 ·unfold O.cb;omega
 ·unfold O.cb;omega
 ·unfold O.cb;omega
 ·unfold O.cb;omega
 ·unfold O.gap;omega
theorem relax_run (hb:O.okB8 bs) (hl:O.okP8 l) {fa bf:List Int} {dn:List Bool} (h1:fa.length=l.length) (h2:bf.length=l.length) (h3:dn.length=l.length) {m:Nat} (hm:m<l.length) (hd:dn.getD m default=true) (fm:0<=fa.getD m default/\fa.getD m default<=1000000000000) (k:Nat) :
  ∀ (i:Nat) (f' b':List Int),i+k=l.length->O.Rlx l (O.Zci bs) m dn fa bf i f' b' -> ∃ f'' b'',O.Rlx l (O.Zci bs) m dn fa bf l.length f'' b'' /\ ∀ dq,ZdP f g bs l f'' b'' dn (Zaf dq)->ZdO f g bs l f' b' dn m l.length i (Zaf dq):=by
 induction k with
 | zero =>
  intro i f' b' e hr
  have:i=l.length:=by omega
  subst this
  exact ⟨f',b',hr,fun dq H=>qSh4 _ _ _ _ _ _ _ _ _ _ _ ⟨fun x=>by omega,fun _=>H⟩⟩
 | succ k ih =>
  intro i f' b' e hr
  have hi:i<l.length:=by omega
  have l1:f'.length=l.length:=by rw [hr.lf,h1]
  have l2:b'.length=l.length:=by rw [hr.lb,h2]
  have pm:=hl.2 _ (ZaZ (d:=l) (i:=m) hm)
  have pi:=hl.2 _ (ZaZ (d:=l) (i:=i) hi)
  have cg:=ccp_cb pm pi
  have g0:=ZdI (l.getD m default) (l.getD i default)
  have vm:f'.getD m default=fa.getD m default:=(hr.no m fun x=>by have:=x.2.1;rw [hd] at this;exact absurd this (by decide)).1
  have vi:f'.getD i default=fa.getD i default:=(hr.no i fun x=>absurd x.1 (Nat.lt_irrefl i)).1
  have bd:-9223372036854775808<=f'.getD m default+O.gap (l.getD m default) (l.getD i default)/\f'.getD m default+O.gap (l.getD m default) (l.getD i default)<=9223372036854775807:=by rw [vm];omega
  have fr:O.okFr bs (l.getD m default).x (l.getD m default).y (l.getD i default).x (l.getD i default).y:=⟨hb,pm,pi⟩
  have neg:(¬dn.getD i default=true) ↔ dn.getD i default=false:=by cases dn.getD i default <;> simp
  have um:(((¬(dn.getD i default=true))/\((f'.getD i default<0)\/(f'.getD m default+O.gap (l.getD m default) (l.getD i default)<f'.getD i default)))/\(O.frB bs (l.getD m default) (l.getD i default)=true)) ↔ O.upd l (O.Zci bs) m dn fa i:=by
   unfold O.upd
   rw [neg,vm,vi,Zga,and_assoc]
  have lN:=hl.1
  by_cases c:O.upd l (O.Zci bs) m dn fa i
  ·obtain ⟨f'',b'',r,w⟩:=ih (i+1) _ _ (by omega) (rlx_yes hr (by omega) (by omega) c (v:=f'.getD m default+O.gap (l.getD m default) (l.getD i default)) (by rw [vm]))
   refine ⟨f'',b'',r,fun dq H=>qSh4 _ _ _ _ _ _ _ _ _ _ _ ⟨fun x => ?_,fun x=>by omega⟩⟩
   rw [Int.toNat_natCast,Int.toNat_natCast,show (i:Int)+1=((i+1:Nat):Int) by omega]
   exact ⟨cg.1,by omega,by omega,hm,by omega,hi,bd,fun _=>fr,by omega,fun _=>by omega,fun _=>by omega,fun _=>⟨by omega,by omega,by omega,w dq H⟩,fun y=>absurd (um.2 c) y⟩
  ·obtain ⟨f'',b'',r,w⟩:=ih (i+1) _ _ (by omega) (rlx_no hr c)
   refine ⟨f'',b'',r,fun dq H=>qSh4 _ _ _ _ _ _ _ _ _ _ _ ⟨fun x => ?_,fun x=>by omega⟩⟩
   rw [Int.toNat_natCast,Int.toNat_natCast,show (i:Int)+1=((i+1:Nat):Int) by omega]
   exact ⟨cg.1,by omega,by omega,hm,by omega,hi,bd,fun _=>fr,by omega,fun _=>by omega,fun _=>by omega,fun y=>absurd (um.1 y) c,fun _=>⟨by omega,w dq H⟩⟩
structure O.Tr (bs:List Bx) (l:List Gp) (fa:List Int) (gs:List Gp):Prop where
 len:0<gs.length
 first:gs.getD 0 default=l.getD (l.length-1) default
 mem:∀ p ∈ gs,p ∈ l
 chn:O.chn (O.Zci bs) gs.reverse
theorem rev_head {gs:List Gp} (h:0<gs.length):gs.reverse=gs.getD (gs.length-1) default::gs.reverse.tail:=by
 have hr:0<gs.reverse.length:=by rw [List.length_reverse];exact h
 have e:gs.reverse.getD 0 default=gs.getD (gs.length-1) default:=by
  rw [List.getD_eq_getElem?_getD,List.getD_eq_getElem?_getD,List.getElem?_reverse h];rfl
 rw [<- e]
 have:=ZaH (d:=gs.reverse) (i:=0) hr
 rw [List.drop_zero] at this
 conv=>lhs;rw [this]
 rw [List.drop_one]
theorem last_getD (x:Gp) (t:List Gp) (h:x::t ≠ []):(x::t).getLast h=(x::t).getD ((x::t).length-1) default:=by
 rw [List.getLast_eq_getElem,List.getD_eq_getElem?_getD,List.getElem?_eq_getElem (by simp),Option.getD_some]
theorem trace_end {fa:List Int} {gs:List Gp} (_:l.length<=1000) (t:O.Tr bs l fa gs) (ha:gs.getD (gs.length-1) default=l.getD 0 default) (hp:O.ZdF gs.reverse=fa.getD (l.length-1) default) (least:∀ d,O.Wk (O.nd l) (O.Zci bs) (l.getD 0 default) (l.getD (l.length-1) default) d->fa.getD (l.length-1) default<=d) (hk:gs.length<=l.length):O.Good bs l gs.reverse:=by
 have e:=rev_head t.len
 have len:=t.len
 have lr:gs.reverse.length=gs.length:=List.length_reverse
 have last:gs.reverse.getD (gs.reverse.length-1) default=l.getD (l.length-1) default:=by
  rw [<- t.first,lr,List.getD_eq_getElem?_getD,List.getD_eq_getElem?_getD,List.getElem?_reverse (by omega),show gs.length-1-(gs.length-1)=0 by omega]
 refine ⟨fun x=>by rw [x] at lr;simp at lr;omega,by rw [e];exact ha,last,fun p hp=>t.mem p (List.mem_reverse.1 hp),t.chn,?_,fun d w=>by rw [hp];exact least d w,by omega⟩
 have mm:∀ q ∈ gs.reverse,O.nd l q:=fun q hq=>by
  obtain ⟨j,hj,rfl⟩:=List.mem_iff_getElem.1 (t.mem q (List.mem_reverse.1 hq))
  exact ⟨j,hj,by rw [List.getD_eq_getElem?_getD,List.getElem?_eq_getElem hj,Option.getD_some]⟩
 have ch:=t.chn
 rw [e] at ch last mm
 rw [ha] at ch
 have w:=wk_path (nd:=O.nd l) (a:=l.getD 0 default) gs.reverse.tail .nil (fun q hq=>mm q (List.mem_cons_of_mem _ hq)) ch
 rw [Int.zero_add] at w
 have e2:gs.reverse=l.getD 0 default::gs.reverse.tail:=by rw [<- ha];exact e
 have e3:(l.getD 0 default::gs.reverse.tail).getLast (by simp)=l.getD (l.length-1) default:=by
  rw [last_getD,<- last,ha]
 rw [e3,<- e2] at w
 exact w
def O.Hd (g:Bool) (bs:List Bx) (l:List Gp) (fa bf:List Int) (c:Nat) (r:Nat->Nat) (k:Nat):Prop:=
 ∀ (j v:Nat) (gs:List Gp),j<l.length->r j<k->0<=fa.getD j default->gs.length+r j<=c->O.Tr bs l fa gs->O.Zci bs (l.getD j default) (gs.getD (gs.length-1) default)->O.ZdF gs.reverse+O.gap (l.getD j default) (gs.getD (gs.length-1) default)+fa.getD j default=fa.getD (l.length-1) default ->
  ∃ P,O.Good bs l P/\ZdN g l gs bf (j:Int) v (Zaf (.vec false 2 (P.map Gp.a)))
theorem ZeB (hl:l.length<=1000) {M:Int} {fa bf:List Int} {dn:List Bool} {c:Nat} (D:O.Dj l (O.Zci bs) M fa bf dn c) (hc:c<l.length) {r:Nat->Nat} (hr:∀ i,i<l.length->0<=fa.getD i default -> ∀ p:Nat,bf.getD i default=(p:Int)->r p<r i)
  (least:∀ d,O.Wk (O.nd l) (O.Zci bs) (l.getD 0 default) (l.getD (l.length-1) default) d->fa.getD (l.length-1) default<=d) {k:Nat} (H:O.Hd g bs l fa bf c r k) (j v:Nat) (gs:List Gp) (hj:j<l.length) (hk:r j<=k) (hf:0<=fa.getD j default) (hg:gs.length+r j<=c+1) (t:O.Tr bs l fa gs) (hz:gs.getD (gs.length-1) default=l.getD j default) (hp:O.ZdF gs.reverse+fa.getD j default=fa.getD (l.length-1) default) :
  ∃ P,O.Good bs l P/\ZdN g l gs bf (bf.getD j default) v (Zaf (.vec false 2 (P.map Gp.a))):=by
 rcases D.src j hj hf with ⟨e,s⟩ | ⟨p,pp,s1,s2,s3,s4⟩
 ·subst e
  have h0:=D.h0
  refine ⟨gs.reverse,trace_end hl t hz (by omega) least (by omega),?_⟩
  rw [s]
  exact qSh6 _ _ _ _ _ _ _ ⟨fun x=>by omega,fun _=>⟨by omega,.refl _⟩⟩
 ·have rp:=hr j hj hf p s1
  rw [s1]
  exact H p v gs pp (by omega) (D.dnn p pp s2) (by omega) t (by rw [hz];exact s3) (by rw [hz];omega)
theorem O.Tr.cons {fa:List Int} {gs:List Gp} (t:O.Tr bs l fa gs) {q:Gp} (hq:q ∈ l) (h:O.Zci bs q (gs.getD (gs.length-1) default)):O.Tr bs l fa (gs++[q]):=by
 refine ⟨by simp,?_,fun p hp => ?_,?_⟩
 ·rw [<- t.first,List.getD_eq_getElem?_getD,List.getElem?_append_left t.len,List.getD_eq_getElem?_getD]
 ·rcases List.mem_append.1 hp with hp | hp
  ·exact t.mem p hp
  ·rw [List.mem_singleton.1 hp];exact hq
 ·rw [List.reverse_append,List.reverse_singleton,List.singleton_append]
  have e:=rev_head t.len
  have ch:=t.chn
  rw [e] at ch ⊢
  exact ⟨h,ch⟩
theorem trace_run (hl:l.length<=1000) {M:Int} {fa bf:List Int} {dn:List Bool} {c:Nat} (D:O.Dj l (O.Zci bs) M fa bf dn c) (hc:c<l.length) {r:Nat->Nat} (hr:∀ i,i<l.length->0<=fa.getD i default -> ∀ p:Nat,bf.getD i default=(p:Int)->r p<r i)
  (least:∀ d,O.Wk (O.nd l) (O.Zci bs) (l.getD 0 default) (l.getD (l.length-1) default) d->fa.getD (l.length-1) default<=d) (k:Nat):O.Hd g bs l fa bf c r k:=by
 have lb:=D.lb
 induction k with
 | zero=>exact fun j v gs hj h=>absurd h (Nat.not_lt_zero _)
 | succ k H =>
  intro j v gs hj hk hf hg t hz hp
  have lg:=t.len
  have cond:(((gs.length:Int)=0)\/(¬(((gs.getD ((gs.length:Int)-1).toNat default).x=(l.getD j default).x)/\((gs.getD ((gs.length:Int)-1).toNat default).y=(l.getD j default).y)))) ↔ ¬(gs.getD (gs.length-1) default=l.getD j default):=by
   rw [show ((gs.length:Int)-1).toNat=gs.length-1 by omega]
   have E (p q:Gp):p=q ↔ p.x=q.x/\p.y=q.y:=by cases p;cases q;simp
   rw [E (gs.getD (gs.length-1) default)]
   constructor
   ·rintro (h | h)
    ·omega
    ·exact h
   ·exact .inr
  by_cases e:gs.getD (gs.length-1) default=l.getD j default
  ·rw [e,Zfq] at hp
   obtain ⟨P,good,w⟩:=ZeB (g:=g) hl D hc hr least H j v gs hj (by omega) hf (by omega) t e (by omega)
   refine ⟨P,good,qSh6 _ _ _ _ _ _ _ ⟨fun x => ?_,fun x=>by omega⟩⟩
   rw [Int.toNat_natCast,cond]
   exact ⟨by omega,fun _=>by omega,fun _=>by omega,fun _=>by omega,fun _=>hj,fun y=>absurd e y,fun _=>⟨by omega,by omega,w⟩⟩
  ·have t2:=t.cons (ZaZ hj) hz
   have l2:(gs++[l.getD j default]).length=gs.length+1:=by simp
   have z2:(gs++[l.getD j default]).getD ((gs++[l.getD j default]).length-1) default=l.getD j default:=by
    rw [l2,Nat.add_sub_cancel,List.getD_eq_getElem?_getD,List.getElem?_append_right (Nat.le_refl _),Nat.sub_self];rfl
   have p2:O.ZdF (gs++[l.getD j default]).reverse=O.gap (l.getD j default) (gs.getD (gs.length-1) default)+O.ZdF gs.reverse:=by
    rw [List.reverse_append,List.reverse_singleton,List.singleton_append]
    have e:=rev_head t.len
    rw [e];rfl
   obtain ⟨P,good,w⟩:=ZeB (g:=g) hl D hc hr least H j (v+1) (gs++[l.getD j default]) hj (by omega) hf (by omega) t2 z2 (by omega)
   refine ⟨P,good,qSh6 _ _ _ _ _ _ _ ⟨fun x => ?_,fun x=>by omega⟩⟩
   rw [Int.toNat_natCast,cond]
   exact ⟨by omega,fun _=>by omega,fun _=>by omega,fun _=>by omega,fun _=>hj,fun _=>⟨by omega,hj,by omega,by omega,w⟩,fun y=>absurd e y⟩
theorem outer_run (hb:O.okB8 bs) (hl:O.okP8 l) (haa:O.Zci bs (l.getD 0 default) (l.getD 0 default)) (k:Nat):∀ (fa bf:List Int) (dn:List Bool) (c:Nat),O.Dj l (O.Zci bs) 40000000 fa bf dn c->dn.getD (l.length-1) default=false->dn.count false<=k -> ∃ dq,ZdP f g bs l fa bf dn (Zaf dq)/\O.ShRes bs l dq:=by
 induction k with
 | zero =>
  intro fa bf dn c D dl hk
  have:=D.pos
  have ld:=D.ld
  have m:false ∈ dn:=by rw [<- dl];exact ZaZ (by omega)
  have:=List.count_pos_iff.2 m
  omega
 | succ k ih =>
  intro fa bf dn c D dl hk
  have pos:=D.pos
  have ld:=D.ld
  have lN:=hl.1
  have cnt:=D.cnt
  have m:false ∈ dn:=by rw [<- dl];exact ZaZ (by omega)
  have cp:=List.count_pos_iff.2 m
  have last:l.length-1<l.length:=by omega
  obtain ⟨m',pk,w⟩:=pick_run (f:=f) (g:=g) (bs:=bs) hl.1 D.lf D.ld l.length 0 (-1) (by omega) pick_0 (bf:=bf)
  by_cases neg:m'<0
  ·have e:m' = -1:=by rcases pk with ⟨e,_⟩ | ⟨j,e,_⟩ <;> omega
   subst e
   exact ⟨.vnil,qSh2 _ _ _ _ _ _ _ _ (w _ ⟨fun _ => .refl _,fun x=>absurd neg x⟩),.inl ⟨rfl,dj_none D rfl haa pk last rfl dl⟩⟩
  ·obtain ⟨j,e,hj,dj,nj,lj⟩:∃ j:Nat,m'=(j:Int)/\j<l.length/\dn.getD j default=false/\0<=fa.getD j default /\ ∀ i,i<l.length->dn.getD i default=false->0<=fa.getD i default->fa.getD j default<=fa.getD i default:=by
    rcases pk with ⟨e,_⟩ | h
    ·omega
    ·exact h
   subst e
   by_cases fin:j=l.length-1
   ·subst fin
    have least:∀ d,O.Wk (O.nd l) (O.Zci bs) (l.getD 0 default) (l.getD (l.length-1) default) d->fa.getD (l.length-1) default<=d:=fun d wk=>(dj_least D rfl haa pk rfl wk).2
    obtain ⟨r,r1,r2⟩:=D.rk
    have H:=trace_run (g:=g) hl.1 D (by omega) r2 least c
    have rl:=(r1 _ last).2 dl
    have t:O.Tr bs l fa [l.getD (l.length-1) default]:=⟨by simp,rfl,fun p hp=>by rw [List.mem_singleton.1 hp];exact ZaZ last,trivial⟩
    obtain ⟨P,good,wp⟩:=ZeB (g:=g) hl.1 D (by omega) r2 least H (l.length-1) 0 [l.getD (l.length-1) default] last (by omega) nj (by simp;omega) t rfl (by show (0:Int)+_=_;omega)
    have lb:=D.lb
    refine ⟨_,qSh2 _ _ _ _ _ _ _ _ (w _ ⟨fun x=>by omega,fun _=>⟨by omega,fun _=>qSh5 _ _ _ _ _ ⟨fun _ => ?_,fun x=>by omega⟩,fun x=>by omega⟩⟩),.inr ⟨P,rfl,good⟩⟩
    rw [show ((l.length:Int)-1).toNat=l.length-1 by omega]
    exact ⟨fun x=>absurd x (by decide),by omega,last,by omega,wp⟩
   ·have bdj:=D.bd j hj
    have c1:(c:Int)*40000000<=40000000000:=by omega
    obtain ⟨f'',b'',rx,w2⟩:=relax_run (f:=f) (g:=g) hb hl D.lf D.lb (by rw [List.length_set];exact D.ld) hj (dn:=dn.set j true) (by rw [Zb0 _ _ _ _ (by omega),if_pos rfl]) ⟨nj,by omega⟩ l.length 0 fa bf (by omega) rlx_0
    have D2:=dj_step D (fun i k hi hk=>(ccp_cb (hl.2 _ (ZaZ hi)) (hl.2 _ (ZaZ hk))).2) hj dj nj lj rx
    have cs:=count_set (dn:=dn) (j:=j) (by omega) dj
    obtain ⟨dq,w3,res⟩:=ih f'' b'' (dn.set j true) (c+1) D2 (by rw [Zb0 _ _ _ _ (by omega),if_neg fun x=>fin x.symm];exact dl) (by omega)
    refine ⟨dq,qSh2 _ _ _ _ _ _ _ _ (w _ ⟨fun x=>by omega,fun _=>⟨by omega,fun x=>by omega,fun _=>⟨by omega,by omega,?_⟩⟩⟩),res⟩
    rw [Int.toNat_natCast]
    exact w2 dq w3
theorem init_run {n:Nat} {dn:List Bool} {dq:AV} (hN:n<=1000) (h0:0<n) (H:ZdP f g bs l ((List.replicate n (-1:Int)).set 0 0) (List.replicate n (-1:Int)) dn (Zaf dq)) (k:Nat):∀ i:Nat,i+k=n->ZfN f g bs l (List.replicate i (-1:Int)++List.replicate k 0) (List.replicate i (-1:Int)++List.replicate k 0) dn n i (Zaf dq):=by
 induction k with
 | zero =>
  intro i e
  have:i=n:=by omega
  subst this
  refine qSh1 _ _ _ _ _ _ _ _ _ _ ⟨fun x=>by omega,fun _=>⟨by simpa using h0,?_⟩⟩
  rw [List.replicate_zero,List.append_nil];exact H
 | succ k ih =>
  intro i e
  have se:∀ j:Int,(List.replicate i (-1:Int)++List.replicate (k+1) 0).set i (-1)=List.replicate (i+1) (-1)++List.replicate k 0:=fun _=>by
   rw [List.set_append_right _ _ (by simp),List.length_replicate,Nat.sub_self,List.replicate_succ (n:=k),List.set_cons_zero,List.replicate_succ' (n:=i),List.append_assoc,List.singleton_append]
  refine qSh1 _ _ _ _ _ _ _ _ _ _ ⟨fun x => ?_,fun x=>by omega⟩
  rw [Int.toNat_natCast,se 0,show (i:Int)+1=((i+1:Nat):Int) by omega]
  exact ⟨by omega,by simp,by simp,by omega,ih (i+1) (by omega)⟩
theorem shortest_ex (hb:O.okB8 bs) (hl:O.okP8 l) (h2:0<l.length) (haa:O.Zci bs (l.getD 0 default) (l.getD 0 default)):∃ dq,ZgZ f g bs l (Zaf dq)/\O.ShRes bs l dq:=by
 have lN:=hl.1
 obtain ⟨dq,w,res⟩:=outer_run (f:=f) (g:=g) hb hl haa l.length _ _ _ _ (dj_0 (at_:=l) (fr:=O.Zci bs) (M:=40000000) rfl h2) (by rw [List.getD_eq_getElem?_getD,List.getElem?_replicate,if_pos (by omega)];rfl) (by simp)
 refine ⟨dq,qSh _ _ _ _ _ ⟨by omega,by omega,by omega,by omega,?_⟩,res⟩
 rw [Int.toNat_natCast,List.length_replicate]
 have:=init_run (f:=f) (g:=g) (bs:=bs) (l:=l) hl.1 h2 w l.length 0 (by omega)
 rw [List.replicate_zero,List.nil_append] at this
 exact this
end
end Go.Av

namespace Go.Av
open Go.Proofs
namespace O
def okSh (bs:List Bx) (l:List Gp):Prop:=okB8 bs/\okP8 l/\0<l.length/\Zci bs (l.getD 0 default) (l.getD 0 default)
def lnk (bs:List Bx) (l:List Gp):Prop:=∃ d,Wk (nd l) (Zci bs) (l.getD 0 default) (l.getD (l.length-1) default) d
noncomputable def shR (f g:Bool) (bs:List Bx) (l:List Gp):AV:=Classical.epsilon fun dq=>ZgZ f g bs l (Zaf dq)/\ShRes bs l dq
noncomputable def shP (f g:Bool) (bs:List Bx) (l:List Gp):List Gp:=Classical.epsilon fun P=>shR f g bs l = .vec false 2 (P.map Gp.a)/\Good bs l P
noncomputable def shH (f g:Bool) (bs:List Bx) (l:List Gp):Gp:=(shP f g bs l).getD 0 default
noncomputable def shT (f g:Bool) (bs:List Bx) (l:List Gp):List Gp:=(shP f g bs l).drop 1
end O
theorem Zfb {f g:Bool} {bs:List Bx} {l:List Gp} (h:O.okSh bs l):ZgZ f g bs l (Zaf (O.shR f g bs l))/\O.ShRes bs l (O.shR f g bs l):=
 Classical.epsilon_spec (p:=fun dq=>ZgZ f g bs l (Zaf dq)/\O.ShRes bs l dq) (shortest_ex h.1 h.2.1 h.2.2.1 h.2.2.2)
theorem shP_spec {f g:Bool} {bs:List Bx} {l:List Gp} (h:O.okSh bs l) (k:O.lnk bs l):O.shR f g bs l = .vec false 2 ((O.shP f g bs l).map Gp.a)/\O.Good bs l (O.shP f g bs l):=by
 rcases (Zfb (f:=f) (g:=g) h).2 with ⟨_,n⟩ | ⟨P,e,good⟩
 ·obtain ⟨d,w⟩:=k;exact absurd w (n d)
 ·exact Classical.epsilon_spec (p:=fun P=>O.shR f g bs l = .vec false 2 (P.map Gp.a)/\O.Good bs l P) ⟨P,e,good⟩
theorem shP_cons {f g:Bool} {bs:List Bx} {l:List Gp} (h:O.okSh bs l) (k:O.lnk bs l):O.shP f g bs l=O.shH f g bs l::O.shT f g bs l:=by
 have ne:=(shP_spec (f:=f) (g:=g) h k).2.ne
 have:0<(O.shP f g bs l).length:=List.length_pos_iff.2 ne
 have e:=ZaH (d:=O.shP f g bs l) (i:=0) this
 rw [List.drop_zero] at e
 exact e
theorem ev44_y (f g:Bool) (bs:List Bx) (l:List Gp) (h:O.okSh bs l) (c:O.lnk bs l):Ev M1 (.pure 44 [.vec g 2 (l.map Gp.a),.func (.func 42) [] [.eptr 1 [.vec f 5 (bs.map Bx.a)] 0 0]]) (.vec false 2 (.agg [.int .i64 (O.shH f g bs l).x,.int .i64 (O.shH f g bs l).y]::(O.shT f g bs l).map Gp.a)) []:=by
 have w:Ev M1 (.pure 44 [.vec g 2 (l.map Gp.a),.func (.func 42) [] [.eptr 1 [.vec f 5 (bs.map Bx.a)] 0 0]]) (O.shR f g bs l) []:=call44 (Zfb (f:=f) (g:=g) h).1
 rw [(shP_spec h c).1,shP_cons h c,List.map_cons] at w
 exact w
theorem ev44_n (f g:Bool) (bs:List Bx) (l:List Gp) (h:O.okSh bs l) (c:¬O.lnk bs l):Ev M1 (.pure 44 [.vec g 2 (l.map Gp.a),.func (.func 42) [] [.eptr 1 [.vec f 5 (bs.map Bx.a)] 0 0]]) .vnil []:=by
 have w:Ev M1 (.pure 44 [.vec g 2 (l.map Gp.a),.func (.func 42) [] [.eptr 1 [.vec f 5 (bs.map Bx.a)] 0 0]]) (O.shR f g bs l) []:=call44 (Zfb (f:=f) (g:=g) h).1
 rcases (Zfb (f:=f) (g:=g) h).2 with ⟨e,_⟩ | ⟨P,_,good⟩
 ·rw [e] at w;exact w
 ·exact absurd ⟨_,good.walk⟩ c
theorem ev44_y2 (f g:Bool) (bs:List Bx) (ax ay bx by_:Int) (h:O.okSh bs [⟨ax,ay⟩,⟨bx,by_⟩]) (c:O.lnk bs [⟨ax,ay⟩,⟨bx,by_⟩]):Ev M1 (.pure 44 [.vec g 2 [.agg [.int .i64 ax,.int .i64 ay],.agg [.int .i64 bx,.int .i64 by_]],.func (.func 42) [] [.eptr 1 [.vec f 5 (bs.map Bx.a)] 0 0]]) (.vec false 2 (.agg [.int .i64 (O.shH f g bs [⟨ax,ay⟩,⟨bx,by_⟩]).x,.int .i64 (O.shH f g bs [⟨ax,ay⟩,⟨bx,by_⟩]).y]::(O.shT f g bs [⟨ax,ay⟩,⟨bx,by_⟩]).map Gp.a)) []:=
 ev44_y f g bs [⟨ax,ay⟩,⟨bx,by_⟩] h c
theorem ev44_n2 (f g:Bool) (bs:List Bx) (ax ay bx by_:Int) (h:O.okSh bs [⟨ax,ay⟩,⟨bx,by_⟩]) (c:¬O.lnk bs [⟨ax,ay⟩,⟨bx,by_⟩]):Ev M1 (.pure 44 [.vec g 2 [.agg [.int .i64 ax,.int .i64 ay],.agg [.int .i64 bx,.int .i64 by_]],.func (.func 42) [] [.eptr 1 [.vec f 5 (bs.map Bx.a)] 0 0]]) .vnil []:=
 ev44_n f g bs [⟨ax,ay⟩,⟨bx,by_⟩] h c
end Go.Av

namespace Go.Av
open Go.Proofs
set_option maxRecDepth 100000
def fi11:Fi:=⟨92,[.tmp 6,.tmp 7]⟩
def kp11:List (Nat × List Nat):=[(0,[3,4,5]),(1,[3,4,5,14]),(2,[6,7]),(3,[3,4,5,17]),(4,[6,7]),(5,[3,4,5,31]),(6,[6,7]),(7,[3,4,5,8]),(8,[3,4,5,8,44]),(9,[6,7]),(10,[3,4,5,8,47]),(11,[6,7]),(12,[3,5,8,9]),(13,[5,8,9,52,53,54]),(14,[5,8,9,52,53,54,55]),(15,[5,8,9,11,52,53,54]),(16,[5,8,9,52,53,54]),(17,[5,8,9,52,53,54]),(18,[8,9]),(19,[12]),(20,[12,90]),(21,[6,7]),(22,[6,7])]
def qAr_at (f:Bool) (bs:List Bx) (ax ay bx by_:Int) (Q:AV->Heap->Prop):Prop:=Wp M1 (.run fi11 (atC (cd Try.f11) []) [(0,.vec f 5 (bs.map Bx.a)),(1,.agg [.int .i64 ax,.int .i64 ay]),(2,.agg [.int .i64 bx,.int .i64 by_])] []) Q
def qArI_at (f:Bool) (bs:List Bx) (ax ay bx by_:Int) (n i:Int) (Q:AV->Heap->Prop):Prop:=Wp M1 (.run fi11 (atC (cd Try.f11) [1,1,1,1,1,1,1,1,0,1,0,0]) [(5,.ptr 0 0 0 0),(8,.func (.func 42) [] [.ptr 1 0 0 0]),(9,.vec true 2 [.agg [.int .i64 ax,.int .i64 ay]]),(52,.vec f 5 (bs.map Bx.a)),(53,.int .i64 n),(54,.int .i64 i)] [⟨[.agg [.int .i64 bx,.int .i64 by_]],2,0,false,false⟩,⟨[.vec f 5 (bs.map Bx.a)],1,0,false,false⟩]) Q
def ZfS (f:Bool) (bs:List Bx) (gs:List Gp) (v:Nat) (bx by_ n i:Int) (Q:AV->Heap->Prop):Prop:=Wp M1 (.run fi11 (atC (cd Try.f11) [1,1,1,1,1,1,1,1,0,1,0,0]) [(5,.ptr 0 0 0 0),(8,.func (.func 42) [] [.ptr 1 0 0 0]),(9,.row 2 v),(52,.vec f 5 (bs.map Bx.a)),(53,.int .i64 n),(54,.int .i64 i)] [⟨[.agg [.int .i64 bx,.int .i64 by_]],2,0,false,false⟩,⟨[.vec f 5 (bs.map Bx.a)],1,0,false,false⟩,⟨gs.map Gp.a,2,v,false,true⟩]) Q
theorem call11 {args:List AV} {d:AV} (h:wc M1 fi11 Try.f11 args d):Ev M1 (.pure 11 args) d []:=pcl _ _ (by kernel_rfl) h
noncomputable abbrev zNqJ1 (ax:Int) (ay:Int):=ag [vi ax,vi ay]
noncomputable abbrev zNqJ2 (bx:Int) (by_:Int):=ag [vi bx,vi by_]
theorem qAr (f:Bool) (bs:List Bx) (ax ay bx by_:Int)  (dq:AV) (H :
  (bs.length<=100) /\
  ((O.any O.bxI bs=true)->Weak (tu [AV.vnil,vi 1]) dq) /\
  (¬(O.any O.bxI bs=true)->(((↑bs.length:Int)>8)->Weak (tu [AV.vnil,vi 3]) dq) /\
   (¬((↑bs.length:Int)>8)->(((O.fr4 ax ay bx by_)\/(O.any O.bxF bs=true))->Weak (tu [AV.vnil,vi 11]) dq) /\
    (¬((O.fr4 ax ay bx by_)\/(O.any O.bxF bs=true))->(O.okFr bs ax ay ax ay) /\
     ((¬(¬(O.frB bs { x:=ax,y:=ay } { x:=ax,y:=ay } = true)))->(O.okFr bs bx by_ bx by_)) /\
     (((¬(O.frB bs { x:=ax,y:=ay } { x:=ax,y:=ay } = true))\/(¬(O.frB bs { x:=bx,y:=by_ } { x:=bx,y:=by_ } = true)))->Weak (tu [AV.vnil,vi 15]) dq) /\
     (¬((¬(O.frB bs { x:=ax,y:=ay } { x:=ax,y:=ay } = true))\/(¬(O.frB bs { x:=bx,y:=by_ } { x:=bx,y:=by_ } = true)))->(((ax=bx)/\(ay=by_))->Weak (tu [AV.vec true 2 [ag [vi ax,vi ay]],vi 0]) dq) /\
      (¬((ax=bx)/\(ay=by_))->qArI_at f bs ax ay bx by_ ((↑bs.length:Int)) 0 (Zaf dq))))))) :
 qAr_at f bs ax ay bx by_ (Zaf dq):=by
 unfold qAr_at
 obtain ⟨k1,H⟩:=H
 refine Zae (G:=Zad kp11 [(1,1,.call (vb (O.any O.bxI bs)) none)] []) 5 [] ⟨(atC (cd Try.f11) [1,0,1]),[(3,AV.ptr 0 0 0 0),(4,AV.ptr 1 0 0 0),(5,AV.ptr 2 0 0 0),(14,vb (O.any O.bxI bs))],[⟨[AV.vec f 5 (List.map Bx.a bs)],1,0,false,false⟩,⟨[(zNqJ1 ax ay)],2,0,false,false⟩,⟨[(zNqJ2 bx by_)],2,0,false,false⟩],_,[],_⟩ (by kernel_rfl) (bc rfl b0) q0 (ce (@ev38_a f bs k1) c0) ?_
 rcases xq H with ⟨d3,H⟩|⟨d3,H⟩
 ·exact Zaq (G:=Zad kp11 [] []) 1000 [true] (asm:=[(O.any O.bxI bs)==true]) (tu [AV.vnil,vi 1]) (by kernel_rfl) (bc (Zak ((ZaI _).2 d3)) b0) q0 c0 H
 ·have w4:(List.map Bx.a bs).length=bs.length:=List.length_map ..
  have i5:(decide ((↑(List.map Bx.a bs).length:Int)>8))=true ↔ ((↑bs.length:Int)>8):=(by (try rw [w4]);all_goals exact Zab)
  rcases xq H with ⟨d6,H⟩|⟨d6,H⟩
  ·exact Zaq (G:=Zad kp11 [] []) 1000 [false,true] (asm:=[(O.any O.bxI bs)==false,true,(decide ((↑(List.map Bx.a bs).length:Int)>8))==true]) (tu [AV.vnil,vi 3]) (by kernel_rfl) (bc (Zah (fun h=>d3 ((ZaI _).1 h))) (bc rfl (bc (Zak (i5.2 d6)) b0))) q0 c0 H
  ·refine Zae (G:=Zad kp11 [(5,9,.call (vb (decide (O.fr4 ax ay bx by_))) none),(5,12,.call (vb (O.any O.bxF bs)) none)] []) 10 [false,false] ⟨(atC (cd Try.f11) [1,1,1,0,1]),[(3,AV.ptr 0 0 0 0),(4,AV.ptr 1 0 0 0),(5,AV.ptr 2 0 0 0),(31,vb (bif decide (O.fr4 ax ay bx by_) then true else O.any O.bxF bs))],[⟨[AV.vec f 5 (List.map Bx.a bs)],1,0,false,false⟩,⟨[(zNqJ1 ax ay)],2,0,false,false⟩,⟨[(zNqJ2 bx by_)],2,0,false,false⟩],[(O.any O.bxI bs)==false,true,(decide ((↑(List.map Bx.a bs).length:Int)>8))==false,true,true,true,true,!(decide (O.fr4 ax ay bx by_)==false&&true)||true],[],[⟨true,false,40,[AV.vec true 1 [vi ax,vi ay,vi bx,vi by_]],[],vb (decide (O.fr4 ax ay bx by_)),[]⟩,⟨decide (O.fr4 ax ay bx by_)==false&&true&&true,false,38,[AV.vec f 5 (List.map Bx.a bs),AV.func (Fn.func 41) [] []],[],vb (O.any O.bxF bs),[]⟩]⟩ (by kernel_rfl) (bc (Zah (fun h=>d3 ((ZaI _).1 h))) (bc rfl (bc (Zah (fun h=>d6 (i5.1 h))) (bc rfl (bc rfl (bc rfl (bc rfl (bc (Bool.or_true _) b0)))))))) q0 (cc (fun _=>(@ev40_d true ax ay bx by_)) (cc (fun hc=>((@ev38_b f bs k1):Ev M1 (Conf.pure 38 [AV.vec f 5 (List.map Bx.a bs),AV.func (Fn.func 41) [] []]) (vb (O.any O.bxF bs)) [])) c0)) ?_
   rcases xq H with ⟨d9,H⟩|⟨d9,H⟩
   ·exact Zaq (G:=Zad kp11 [] []) 1000 [true] (asm:=[(bif decide (O.fr4 ax ay bx by_) then true else O.any O.bxF bs)==true]) (tu [AV.vnil,vi 11]) (by kernel_rfl) (bc (Zak ((ZaC Zab (ZaI _)).2 d9)) b0) q0 c0 H
   ·obtain ⟨k10,k12,H⟩:=H
    refine Zae (G:=Zad kp11 [(8,3,.call (vb (O.frB bs { x:=ax,y:=ay } { x:=ax,y:=ay })) none),(8,9,.call (vb (O.frB bs { x:=bx,y:=by_ } { x:=bx,y:=by_ })) none)] []) 7 [false] ⟨(atC (cd Try.f11) [1,1,1,1,1,0,1]),[(3,AV.ptr 0 0 0 0),(4,AV.ptr 1 0 0 0),(5,AV.ptr 2 0 0 0),(8,AV.func (Fn.func 42) [] [AV.ptr 0 0 0 0]),(44,vb (bif !O.frB bs { x:=ax,y:=ay } { x:=ax,y:=ay } then true else !O.frB bs { x:=bx,y:=by_ } { x:=bx,y:=by_ }))],[⟨[AV.vec f 5 (List.map Bx.a bs)],1,0,false,false⟩,⟨[(zNqJ1 ax ay)],2,0,false,false⟩,⟨[(zNqJ2 bx by_)],2,0,false,false⟩],[(bif decide (O.fr4 ax ay bx by_) then true else O.any O.bxF bs)==false,true,true,true,!((!O.frB bs { x:=ax,y:=ay } { x:=ax,y:=ay })==false&&true)||true,!((!O.frB bs { x:=ax,y:=ay } { x:=ax,y:=ay })==false&&true)||true,!((!O.frB bs { x:=ax,y:=ay } { x:=ax,y:=ay })==false&&true)||true],[],[⟨true,false,42,[(zNqJ1 ax ay),(zNqJ1 ax ay),AV.eptr 1 [AV.vec f 5 (List.map Bx.a bs)] 0 0],[],vb (O.frB bs { x:=ax,y:=ay } { x:=ax,y:=ay }),[]⟩,⟨(!O.frB bs { x:=ax,y:=ay } { x:=ax,y:=ay })==false&&true&&true,false,42,[(zNqJ2 bx by_),(zNqJ2 bx by_),AV.eptr 1 [AV.vec f 5 (List.map Bx.a bs)] 0 0],[],vb (O.frB bs { x:=bx,y:=by_ } { x:=bx,y:=by_ }),[]⟩]⟩ (by kernel_rfl) (bc (Zah (fun h=>d9 ((ZaC Zab (ZaI _)).1 h))) (bc rfl (bc rfl (bc rfl (bc (Bool.or_true _) (bc (Bool.or_true _) (bc (Bool.or_true _) b0))))))) q0 (cc (fun _=>(@ev42 f bs ax ay ax ay k10)) (cc (fun hc=>((@ev42 f bs bx by_ bx by_ (k12 ((i_at (i_at (i_bf (ZaS (ZaI _))))).1 hc))):Ev M1 (Conf.pure 42 [(zNqJ2 bx by_),(zNqJ2 bx by_),AV.eptr 1 [AV.vec f 5 (List.map Bx.a bs)] 0 0]) (vb (O.frB bs { x:=bx,y:=by_ } { x:=bx,y:=by_ })) [])) c0)) ?_
    rcases xq H with ⟨d14,H⟩|⟨d14,H⟩
    ·exact Zaq (G:=Zad kp11 [] []) 1000 [true] (asm:=[(bif !O.frB bs { x:=ax,y:=ay } { x:=ax,y:=ay } then true else !O.frB bs { x:=bx,y:=by_ } { x:=bx,y:=by_ })==true]) (tu [AV.vnil,vi 15]) (by kernel_rfl) (bc (Zak ((ZaC (ZaS (ZaI _)) (ZaS (ZaI _))).2 d14)) b0) q0 c0 H
    ·rcases xq H with ⟨d16,H⟩|⟨d16,H⟩
     ·exact Zaq (G:=Zad kp11 [] []) 1000 [false,true] (asm:=[(bif !O.frB bs { x:=ax,y:=ay } { x:=ax,y:=ay } then true else !O.frB bs { x:=bx,y:=by_ } { x:=bx,y:=by_ })==false,true,true,(ax==bx&&(ay==by_&&true))==true,true]) (tu [AV.vec true 2 [(zNqJ1 ax ay)],vi 0]) (by kernel_rfl) (bc (Zah (fun h=>d14 ((ZaC (ZaS (ZaI _)) (ZaS (ZaI _))).1 h))) (bc rfl (bc rfl (bc (Zak ((Za4 i_eq (i_at i_eq)).2 d16)) (bc rfl b0))))) q0 c0 H
     ·exact Zae (G:=Zad kp11 [] []) 1000 [false,false] ⟨(atC (cd Try.f11) [1,1,1,1,1,1,1,1,0,1,0,0]),[(5,AV.ptr 2 0 0 0),(8,AV.func (Fn.func 42) [] [AV.ptr 0 0 0 0]),(9,AV.vec true 2 [(zNqJ1 ax ay)]),(52,AV.vec f 5 (List.map Bx.a bs)),(53,vi (↑(List.map Bx.a bs).length:Int)),(54,vi 0)],[⟨[AV.vec f 5 (List.map Bx.a bs)],1,0,false,false⟩,⟨[(zNqJ1 ax ay)],2,0,false,false⟩,⟨[(zNqJ2 bx by_)],2,0,false,false⟩],[(bif !O.frB bs { x:=ax,y:=ay } { x:=ax,y:=ay } then true else !O.frB bs { x:=bx,y:=by_ } { x:=bx,y:=by_ })==false,true,true,(ax==bx&&(ay==by_&&true))==false,true,true],[],_⟩ (by kernel_rfl) (bc (Zah (fun h=>d14 ((ZaC (ZaS (ZaI _)) (ZaS (ZaI _))).1 h))) (bc rfl (bc rfl (bc (Zah (fun h=>d16 ((Za4 i_eq (i_at i_eq)).1 h))) (bc rfl (bc rfl b0)))))) q0 c0 (by (try rw [w4]);all_goals exact Zas [2,0] (by kernel_rfl) H)
noncomputable abbrev zNqJ3 (bs:List Bx) (i:Int):=ag [vi (bs.getD i.toNat default).x0,vi (bs.getD i.toNat default).y0,vi (bs.getD i.toNat default).x1,vi (bs.getD i.toNat default).y1,vi (bs.getD i.toNat default).top]
theorem qArI (f:Bool) (bs:List Bx) (ax ay bx by_:Int) (n i:Int)  (dq:AV) (H :
  ((i<n)->(0<=i) /\
   (i.toNat<bs.length) /\
   (-9223372036854775808<=i+1/\i+1<=9223372036854775807) /\
   ZfS f bs ([{ x:=ax,y:=ay },{ x:=(bs.getD i.toNat default).x0,y:=(bs.getD i.toNat default).y0 },{ x:=(bs.getD i.toNat default).x1,y:=(bs.getD i.toNat default).y0 },{ x:=(bs.getD i.toNat default).x1,y:=(bs.getD i.toNat default).y1 },{ x:=(bs.getD i.toNat default).x0,y:=(bs.getD i.toNat default).y1 }]) 0 bx by_ n (i+1) (Zaf dq)) /\
  (¬(i<n)->((O.lnk bs [{ x:=ax,y:=ay },{ x:=bx,y:=by_ }])->(O.okSh bs [{ x:=ax,y:=ay },{ x:=bx,y:=by_ }]) /\
    Weak (tu [AV.vec false 2 (ag [vi (O.shH f false bs [{ x:=ax,y:=ay },{ x:=bx,y:=by_ }]).x,vi (O.shH f false bs [{ x:=ax,y:=ay },{ x:=bx,y:=by_ }]).y]::List.map Gp.a (O.shT f false bs [{ x:=ax,y:=ay },{ x:=bx,y:=by_ }])),vi 0]) dq) /\
   (¬(O.lnk bs [{ x:=ax,y:=ay },{ x:=bx,y:=by_ }])->(O.okSh bs [{ x:=ax,y:=ay },{ x:=bx,y:=by_ }]) /\
    Weak (tu [AV.vnil,vi 16]) dq))) :
 qArI_at f bs ax ay bx by_ n i (Zaf dq):=by
 unfold qArI_at
 rcases xq H with ⟨d2,H⟩|⟨d2,H⟩
 ·obtain ⟨k4,H⟩:=H
  have w5:(List.map Bx.a bs).length=bs.length:=List.length_map ..
  have i6:(decide (i.toNat<(List.map Bx.a bs).length))=true ↔ (i.toNat<bs.length):=(by (try rw [w5]);all_goals exact Zab)
  obtain ⟨k7,k8,H⟩:=H
  have w9:wi (i+1)=i+1:=wI64 k8
  have w10:[ag [vi ax,vi ay],ag [vi (bs.getD i.toNat default).x0,vi (bs.getD i.toNat default).y0],ag [vi (bs.getD i.toNat default).x1,vi (bs.getD i.toNat default).y0],ag [vi (bs.getD i.toNat default).x1,vi (bs.getD i.toNat default).y1],ag [vi (bs.getD i.toNat default).x0,vi (bs.getD i.toNat default).y1]]=List.map Gp.a [{ x:=ax,y:=ay },{ x:=(bs.getD i.toNat default).x0,y:=(bs.getD i.toNat default).y0 },{ x:=(bs.getD i.toNat default).x1,y:=(bs.getD i.toNat default).y0 },{ x:=(bs.getD i.toNat default).x1,y:=(bs.getD i.toNat default).y1 },{ x:=(bs.getD i.toNat default).x0,y:=(bs.getD i.toNat default).y1 }]:=rfl
  exact Zae (G:=Zad kp11 [(15,1,.elem ((zNqJ3 bs i)))] []) 1000 [true] ⟨(atC (cd Try.f11) [1,1,1,1,1,1,1,1,0,1,0,0]),[(5,AV.ptr 0 0 0 0),(8,AV.func (Fn.func 42) [] [AV.ptr 1 0 0 0]),(9,AV.row 3 0),(52,AV.vec f 5 (List.map Bx.a bs)),(53,vi n),(54,vi (wi (i+1)))],[⟨[ag [vi bx,vi by_]],2,0,false,false⟩,⟨[AV.vec f 5 (List.map Bx.a bs)],1,0,false,false⟩,⟨[(zNqJ3 bs i)],5,0,false,false⟩,⟨[ag [vi ax,vi ay],ag [vi (bs.getD i.toNat default).x0,vi (bs.getD i.toNat default).y0],ag [vi (bs.getD i.toNat default).x1,vi (bs.getD i.toNat default).y0],ag [vi (bs.getD i.toNat default).x1,vi (bs.getD i.toNat default).y1],ag [vi (bs.getD i.toNat default).x0,vi (bs.getD i.toNat default).y1]],2,0,false,true⟩],_,[((List.map Bx.a bs).get?Internal i.toNat=some ((zNqJ3 bs i)))],_⟩ (by kernel_rfl) (bc (Zak (Zab.2 d2)) (bc (Zab.2 k4) (bc (i6.2 k7) (bc rfl (bc rfl (bc rfl (bc rfl (bc rfl (bc rfl (bc rfl (bc rfl (bc rfl (bc rfl b0))))))))))))) (qc (Zal k7) q0) c0 (by (try rw [w9]);(try rw [w10]);all_goals exact Zas [0,1,3] (by kernel_rfl) H)
 ·rcases xq H with ⟨d11,H⟩|⟨d11,H⟩
  ·obtain ⟨k12,H⟩:=H
   exact Zaq (G:=Zad kp11 [(19,2,.call (AV.vec false 2 (ag [vi (O.shH f false bs [{ x:=ax,y:=ay },{ x:=bx,y:=by_ }]).x,vi (O.shH f false bs [{ x:=ax,y:=ay },{ x:=bx,y:=by_ }]).y]::List.map Gp.a (O.shT f false bs [{ x:=ax,y:=ay },{ x:=bx,y:=by_ }]))) none)] []) 1000 [false,false] (tu [AV.vec false 2 (ag [vi (O.shH f false bs [{ x:=ax,y:=ay },{ x:=bx,y:=by_ }]).x,vi (O.shH f false bs [{ x:=ax,y:=ay },{ x:=bx,y:=by_ }]).y]::List.map Gp.a (O.shT f false bs [{ x:=ax,y:=ay },{ x:=bx,y:=by_ }])),vi 0]) (by kernel_rfl) (bc (Zah (fun h=>d2 (Zab.1 h))) (bc rfl (bc rfl (bc rfl (bc rfl (bc rfl b0)))))) q0 (ce (@ev44_y2 f false bs ax ay bx by_ k12 d11) c0) (by with_reducible exact H)
  ·obtain ⟨k13,H⟩:=H
   exact Zaq (G:=Zad kp11 [(19,2,.call (AV.vnil) none)] []) 1000 [false,true] (tu [AV.vnil,vi 16]) (by kernel_rfl) (bc (Zah (fun h=>d2 (Zab.1 h))) (bc rfl (bc rfl (bc rfl (bc rfl (bc rfl b0)))))) q0 (ce (@ev44_n2 f false bs ax ay bx by_ k13 d11) c0) H
noncomputable abbrev zNqJ4 (bs:List Bx) (i:Int):=ag [vi (bs.getD i.toNat default).x0,vi (bs.getD i.toNat default).y0,vi (bs.getD i.toNat default).x1,vi (bs.getD i.toNat default).y1,vi (bs.getD i.toNat default).top]
theorem qArL (f:Bool) (bs:List Bx) (gs:List Gp) (v:Nat) (bx by_ n i:Int)  (dq:AV) (H :
  ((i<n)->(0<=i) /\
   (i.toNat<bs.length) /\
   ((gs.length+4)*16<=1099511627776) /\
   (-9223372036854775808<=i+1/\i+1<=9223372036854775807) /\
   ZfS f bs (gs++[{ x:=(bs.getD i.toNat default).x0,y:=(bs.getD i.toNat default).y0 },{ x:=(bs.getD i.toNat default).x1,y:=(bs.getD i.toNat default).y0 },{ x:=(bs.getD i.toNat default).x1,y:=(bs.getD i.toNat default).y1 },{ x:=(bs.getD i.toNat default).x0,y:=(bs.getD i.toNat default).y1 }]) (v+1) bx by_ n (i+1) (Zaf dq)) /\
  (¬(i<n)->((gs.length+1)*16<=1099511627776) /\
   ((O.lnk bs (gs++[{ x:=bx,y:=by_ }]))->(O.okSh bs (gs++[{ x:=bx,y:=by_ }])) /\
    Weak (tu [AV.vec false 2 (ag [vi (O.shH f false bs (gs++[{ x:=bx,y:=by_ }])).x,vi (O.shH f false bs (gs++[{ x:=bx,y:=by_ }])).y]::List.map Gp.a (O.shT f false bs (gs++[{ x:=bx,y:=by_ }]))),vi 0]) dq) /\
   (¬(O.lnk bs (gs++[{ x:=bx,y:=by_ }]))->(O.okSh bs (gs++[{ x:=bx,y:=by_ }])) /\
    Weak (tu [AV.vnil,vi 16]) dq))) :
 ZfS f bs gs v bx by_ n i (Zaf dq):=by
 unfold ZfS
 rcases xq H with ⟨d2,H⟩|⟨d2,H⟩
 ·obtain ⟨k4,H⟩:=H
  have w5:(List.map Bx.a bs).length=bs.length:=List.length_map ..
  have i6:(decide (i.toNat<(List.map Bx.a bs).length))=true ↔ (i.toNat<bs.length):=(by (try rw [w5]);all_goals exact Zab)
  obtain ⟨k7,H⟩:=H
  have w8:(List.map Gp.a gs).length=gs.length:=List.length_map ..
  have i9:(decide (((List.map Gp.a gs).length+4)*16<=1099511627776))=true ↔ ((gs.length+4)*16<=1099511627776):=(by (try rw [w8]);all_goals exact Zab)
  obtain ⟨k10,H⟩:=H
  have w11:List.map Gp.a gs++[ag [vi (bs.getD i.toNat default).x0,vi (bs.getD i.toNat default).y0],ag [vi (bs.getD i.toNat default).x1,vi (bs.getD i.toNat default).y0],ag [vi (bs.getD i.toNat default).x1,vi (bs.getD i.toNat default).y1],ag [vi (bs.getD i.toNat default).x0,vi (bs.getD i.toNat default).y1]]=List.map Gp.a (gs++[{ x:=(bs.getD i.toNat default).x0,y:=(bs.getD i.toNat default).y0 },{ x:=(bs.getD i.toNat default).x1,y:=(bs.getD i.toNat default).y0 },{ x:=(bs.getD i.toNat default).x1,y:=(bs.getD i.toNat default).y1 },{ x:=(bs.getD i.toNat default).x0,y:=(bs.getD i.toNat default).y1 }]):=(Zcs rfl rfl)
  obtain ⟨k12,H⟩:=H
  have w13:wi (i+1)=i+1:=wI64 k12
  exact Zae (G:=Zad kp11 [(15,1,.elem ((zNqJ4 bs i)))] []) 1000 [true] ⟨(atC (cd Try.f11) [1,1,1,1,1,1,1,1,0,1,0,0]),[(5,AV.ptr 0 0 0 0),(8,AV.func (Fn.func 42) [] [AV.ptr 1 0 0 0]),(9,AV.row 2 (v+1)),(52,AV.vec f 5 (List.map Bx.a bs)),(53,vi n),(54,vi (wi (i+1)))],[⟨[ag [vi bx,vi by_]],2,0,false,false⟩,⟨[AV.vec f 5 (List.map Bx.a bs)],1,0,false,false⟩,⟨List.map Gp.a gs++[ag [vi (bs.getD i.toNat default).x0,vi (bs.getD i.toNat default).y0],ag [vi (bs.getD i.toNat default).x1,vi (bs.getD i.toNat default).y0],ag [vi (bs.getD i.toNat default).x1,vi (bs.getD i.toNat default).y1],ag [vi (bs.getD i.toNat default).x0,vi (bs.getD i.toNat default).y1]],2,v+1,false,true⟩,⟨[(zNqJ4 bs i)],5,0,false,false⟩],[(decide (i<n))==true,decide (0<=i),decide (i.toNat<(List.map Bx.a bs).length),true,true,true,true,true,true,true,true,true,v==v,decide (((List.map Gp.a gs).length+4)*16<=1099511627776)],[((List.map Bx.a bs).get?Internal i.toNat=some ((zNqJ4 bs i)))],_⟩ (by kernel_rfl) (bc (Zak (Zab.2 d2)) (bc (Zab.2 k4) (bc (i6.2 k7) (bc rfl (bc rfl (bc rfl (bc rfl (bc rfl (bc rfl (bc rfl (bc rfl (bc rfl (bc (beq_self_eq_true _) (bc (i9.2 k10) b0)))))))))))))) (qc (Zal k7) q0) c0 (by (try rw [w11]);(try rw [w13]);all_goals exact Zas [0,1,2] (by kernel_rfl) H)
 ·have w14:(List.map Gp.a gs).length=gs.length:=List.length_map ..
  have i15:(decide (((List.map Gp.a gs).length+1)*16<=1099511627776))=true ↔ ((gs.length+1)*16<=1099511627776):=(by (try rw [w14]);all_goals exact Zab)
  obtain ⟨k16,H⟩:=H
  have w17:List.map Gp.a gs++[ag [vi bx,vi by_]]=List.map Gp.a (gs++[{ x:=bx,y:=by_ }]):=(Zcs rfl rfl)
  rcases xq H with ⟨d18,H⟩|⟨d18,H⟩
  ·obtain ⟨k19,H⟩:=H
   exact Zaq (G:=Zad kp11 [(19,2,.call (AV.vec false 2 (ag [vi (O.shH f false bs (gs++[{ x:=bx,y:=by_ }])).x,vi (O.shH f false bs (gs++[{ x:=bx,y:=by_ }])).y]::List.map Gp.a (O.shT f false bs (gs++[{ x:=bx,y:=by_ }])))) none)] []) 1000 [false,false] (asm:=[(decide (i<n))==false,true,v==v,decide (((List.map Gp.a gs).length+1)*16<=1099511627776),v+1==v+1,true,false==false]) (calls:=[pc 44 [AV.vec false 2 (List.map Gp.a gs++[ag [vi bx,vi by_]]),AV.func (Fn.func 42) [] [AV.eptr 1 [AV.vec f 5 (List.map Bx.a bs)] 0 0]] (AV.vec false 2 (ag [vi (O.shH f false bs (gs++[{ x:=bx,y:=by_ }])).x,vi (O.shH f false bs (gs++[{ x:=bx,y:=by_ }])).y]::List.map Gp.a (O.shT f false bs (gs++[{ x:=bx,y:=by_ }]))))]) (tu [AV.vec false 2 (ag [vi (O.shH f false bs (gs++[{ x:=bx,y:=by_ }])).x,vi (O.shH f false bs (gs++[{ x:=bx,y:=by_ }])).y]::List.map Gp.a (O.shT f false bs (gs++[{ x:=bx,y:=by_ }]))),vi 0]) (by kernel_rfl) (bc (Zah (fun h=>d2 (Zab.1 h))) (bc rfl (bc (beq_self_eq_true _) (bc (i15.2 k16) (bc (beq_self_eq_true _) (bc rfl (bc rfl b0))))))) q0 (ce (by (try rw [w17]);all_goals exact (@ev44_y f false bs (gs++[{ x:=bx,y:=by_ }]) k19 d18)) c0) (by with_reducible exact H)
  ·obtain ⟨k20,H⟩:=H
   exact Zaq (G:=Zad kp11 [(19,2,.call (AV.vnil) none)] []) 1000 [false,true] (asm:=[(decide (i<n))==false,true,v==v,decide (((List.map Gp.a gs).length+1)*16<=1099511627776),v+1==v+1,true,true==true]) (calls:=[pc 44 [AV.vec false 2 (List.map Gp.a gs++[ag [vi bx,vi by_]]),AV.func (Fn.func 42) [] [AV.eptr 1 [AV.vec f 5 (List.map Bx.a bs)] 0 0]] (AV.vnil)]) (tu [AV.vnil,vi 16]) (by kernel_rfl) (bc (Zah (fun h=>d2 (Zab.1 h))) (bc rfl (bc (beq_self_eq_true _) (bc (i15.2 k16) (bc (beq_self_eq_true _) (bc rfl (bc rfl b0))))))) q0 (ce (by (try rw [w17]);all_goals exact (@ev44_n f false bs (gs++[{ x:=bx,y:=by_ }]) k20 d18)) c0) H
end Go.Av

namespace Go.Av
open Go.Proofs
namespace O
def cnn (be:List Int):Nat:=be.countP fun v=>decide (0<=v)
structure Lab (bs:List Bx) (l:List Gp) (be:List Int):Prop where
 len:be.length=l.length
 h0:be.getD 0 default=0
 neg:∀ i,i<l.length->be.getD i default<0->be.getD i default = -1
 snd:∀ i,i<l.length->0<=be.getD i default->Wk (nd l) (Zci bs) (l.getD 0 default) (l.getD i default) (be.getD i default)
 bd:∀ i,i<l.length->be.getD i default<=(cnn be:Int)*40000000
end O
section
variable {f g:Bool} {bs:List Bx} {l:List Gp}
end
namespace O
end O
theorem nod_last (bs:List Bx) (a b:Gp):(O.nodR bs a b).getD ((O.nodR bs a b).length-1) default=b:=by
 have e:(O.nodR bs a b).length-1=(a::bs.flatMap O.crnR).length:=by unfold O.nodR;simp
 rw [e,List.getD_eq_getElem?_getD]
 unfold O.nodR
 rw [List.getElem?_append_right (Nat.le_refl _),Nat.sub_self];rfl
namespace O
end O
theorem nod_ok {bs:List Bx} {a b:Gp} (hb:O.okB8 bs) (ha:O.ccp a) (hq:O.ccp b):O.okP8 (O.nodR bs a b):=by
 refine ⟨by rw [nod_len];have:=hb.1;omega,fun p hp => ?_⟩
 unfold O.nodR at hp
 rcases List.mem_append.1 hp with hp | hp
 ·rcases List.mem_cons.1 hp with rfl | hp
  ·exact ha
  ·obtain ⟨c,hc,hp⟩:=List.mem_flatMap.1 hp
   have k:=hb.2 c hc
   unfold O.crnR at hp
   simp only [List.mem_cons,List.not_mem_nil,or_false] at hp
   rcases hp with rfl | rfl | rfl | rfl
   ·exact ⟨k.1,k.2.1⟩
   ·exact ⟨k.1,k.2.2.2⟩
   ·exact ⟨k.2.2.1,k.2.1⟩
   ·exact ⟨k.2.2.1,k.2.2.2⟩
 ·rw [List.mem_singleton.1 hp];exact hq
end Go.Av

namespace Go.Av
open Go.Proofs
namespace O
def crnP (c:Bx):List Gp:=[⟨c.x0,c.y0⟩,⟨c.x1,c.y0⟩,⟨c.x1,c.y1⟩,⟨c.x0,c.y1⟩]
def ZdG (bs:List Bx) (a b:Gp):List Gp:=a::bs.flatMap crnP++[b]
open Classical in
noncomputable def arE (bs:List Bx) (a b:Gp):Int:=
 if ∃ c ∈ bs,bxI c then 1 else if bs.length>8 then 3 else if fr4 a.x a.y b.x b.y \/ ∃ c ∈ bs,bxF c then 11 else if ¬Zci bs a a\/¬Zci bs b b then 15 else if a=b then 0 else if lnk bs (ZdG bs a b) then 0 else 16
noncomputable def arP (f:Bool) (bs:List Bx) (a b:Gp):List Gp:=if arE bs a b=0 then (if a=b then [a] else shP f false bs (ZdG bs a b)) else []
end O
theorem weak_no (k:Int):Weak (AV.tup [.vnil,.int .i64 k]) (.tup [.vec false 2 [],.int .i64 k]):=.tup _ _ rfl fun i x y hx hy=>by
 match i with
 | 0=>simp at hx hy;subst hx;subst hy;exact .vnil 2
 | 1=>simp at hx hy;subst hx;subst hy;exact .refl _
 | i+2=>simp at hx
theorem weak_one (xs:List AV) (k:Int):Weak (AV.tup [.vec true 2 xs,.int .i64 k]) (.tup [.vec false 2 xs,.int .i64 k]):=.tup _ _ rfl fun i x y hx hy=>by
 match i with
 | 0=>simp at hx hy;subst hx;subst hy;exact .full 2 _
 | 1=>simp at hx hy;subst hx;subst hy;exact .refl _
 | i+2=>simp at hx
theorem Zfk (bs:List Bx) (a b:Gp):(O.ZdG bs a b).length=4*bs.length+2:=by
 unfold O.ZdG
 rw [List.length_append,List.length_cons,List.length_flatMap]
 have:(bs.map fun c=>(O.crnP c).length).sum=4*bs.length:=by
  induction bs with
  | nil=>rfl
  | cons c bs ih=>rw [List.map_cons,List.sum_cons,ih,List.length_cons];show 4+_=_;omega
 rw [this];rfl
theorem nodP_last (bs:List Bx) (a b:Gp):(O.ZdG bs a b).getD ((O.ZdG bs a b).length-1) default=b:=by
 have e:(O.ZdG bs a b).length-1=(a::bs.flatMap O.crnP).length:=by unfold O.ZdG;simp
 rw [e,List.getD_eq_getElem?_getD]
 unfold O.ZdG
 rw [List.getElem?_append_right (Nat.le_refl _),Nat.sub_self];rfl
theorem Zfl {bs:List Bx} {a b p:Gp}:p ∈ O.ZdG bs a b ↔ p ∈ O.nodR bs a b:=by
 unfold O.ZdG O.nodR
 simp only [List.mem_append,List.mem_cons,List.mem_flatMap,O.crnP,O.crnR,List.not_mem_nil,or_false]
 constructor
 ·rintro ((h | ⟨c,hc,h⟩) | h)
  ·exact .inl (.inl h)
  ·exact .inl (.inr ⟨c,hc,by rcases h with h | h | h | h <;> simp [h]⟩)
  ·exact .inr h
 ·rintro ((h | ⟨c,hc,h⟩) | h)
  ·exact .inl (.inl h)
  ·exact .inl (.inr ⟨c,hc,by rcases h with h | h | h | h <;> simp [h]⟩)
  ·exact .inr h
theorem nodP_ok {bs:List Bx} {a b:Gp} (hb:O.okB8 bs) (ha:O.ccp a) (hq:O.ccp b):O.okP8 (O.ZdG bs a b):=
 ⟨by rw [Zfk];have:=hb.1;omega,fun p hp=>(nod_ok hb ha hq).2 p (Zfl.1 hp)⟩
theorem ZfY {l:List Gp} {p:Gp}:O.nd l p ↔ p ∈ l:=by
 constructor
 ·rintro ⟨i,hi,rfl⟩;exact ZaZ hi
 ·intro h
  obtain ⟨j,hj,rfl⟩:=List.mem_iff_getElem.1 h
  exact ⟨j,hj,by rw [List.getD_eq_getElem?_getD,List.getElem?_eq_getElem hj,Option.getD_some]⟩
theorem wk_mono {nd nd':Gp->Prop} {fr:Gp->Gp->Prop} (h:∀ p,nd p->nd' p) {a q:Gp} {d:Int} (w:O.Wk nd fr a q d):O.Wk nd' fr a q d:=by
 induction w with
 | nil=>exact .nil
 | snoc _ k e ih=>exact .snoc ih (h _ k) e
theorem wk_nod {bs:List Bx} {a b p q:Gp} {d:Int}:O.Wk (O.nd (O.ZdG bs a b)) (O.Zci bs) p q d ↔ O.Wk (O.nd (O.nodR bs a b)) (O.Zci bs) p q d:=
 ⟨wk_mono fun _ h=>ZfY.2 (Zfl.1 (ZfY.1 h)),wk_mono fun _ h=>ZfY.2 (Zfl.2 (ZfY.1 h))⟩
theorem lnk_nod {bs:List Bx} {a b:Gp}:O.lnk bs (O.ZdG bs a b) ↔ O.lnk bs (O.nodR bs a b):=by
 unfold O.lnk
 rw [nod_last,nodP_last]
 exact ⟨fun ⟨d,w⟩=>⟨d,wk_nod.1 w⟩,fun ⟨d,w⟩=>⟨d,wk_nod.2 w⟩⟩
theorem ZeV {p:Bx->Prop} {bs:List Bx}:O.any p bs=true ↔ ∃ c ∈ bs,p c:=by
 unfold O.any
 exact ⟨fun h=>dec_of h,fun h=>dec_t h⟩
noncomputable abbrev arR (f:Bool) (bs:List Bx) (a b:Gp):AV:=.tup [.vec false 2 ((O.arP f bs a b).map Gp.a),.int .i64 (O.arE bs a b)]
theorem ar_no {f:Bool} {bs:List Bx} {a b:Gp} {k:Int} (h:O.arE bs a b=k) (hk:k ≠ 0):Weak (AV.tup [.vnil,.int .i64 k]) (arR f bs a b):=by
 have e:O.arP f bs a b=[]:=by unfold O.arP;rw [h,if_neg hk]
 show Weak _ (AV.tup _)
 rw [e,h];exact weak_no k
section
variable {f:Bool} {bs:List Bx} {a b:Gp}
theorem ar_end (h:O.okSh bs (O.ZdG bs a b)) (ne:a ≠ b) (e:O.lnk bs (O.ZdG bs a b)->O.arE bs a b=0) (n:¬O.lnk bs (O.ZdG bs a b)->O.arE bs a b=16) {l:List Gp} (hl:l=O.ZdG bs a b) :
  ((O.lnk bs l)->(O.okSh bs l)/\Weak (AV.tup [AV.vec false 2 (AV.agg [.int .i64 (O.shH f false bs l).x,.int .i64 (O.shH f false bs l).y]::List.map Gp.a (O.shT f false bs l)),.int .i64 0]) (arR f bs a b)) /\
  (¬(O.lnk bs l)->(O.okSh bs l)/\Weak (AV.tup [AV.vnil,.int .i64 16]) (arR f bs a b)):=by
 subst hl
 refine ⟨fun k=>⟨h,?_⟩,fun k=>⟨h,ar_no (n k) (by decide)⟩⟩
 have e1:O.arP f bs a b=O.shP f false bs (O.ZdG bs a b):=by unfold O.arP;rw [if_pos (e k),if_neg ne]
 show Weak _ (AV.tup _)
 rw [e1,e k,shP_cons h k]
 exact .refl _
theorem ar_loop (h:O.okSh bs (O.ZdG bs a b)) (ne:a ≠ b) (e:O.lnk bs (O.ZdG bs a b)->O.arE bs a b=0) (n:¬O.lnk bs (O.ZdG bs a b)->O.arE bs a b=16) (m:Nat):∀ (i:Nat) (gs:List Gp) (v:Nat),i+m=bs.length->gs.length<=1+4*i->gs++(bs.drop i).flatMap O.crnP++[b]=O.ZdG bs a b->ZfS f bs gs v b.x b.y bs.length i (Zaf (arR f bs a b)):=by
 have hb:=h.1.1
 induction m with
 | zero =>
  intro i gs v e1 hg eq
  rw [List.drop_eq_nil_of_le (by omega),List.flatMap_nil,List.append_nil] at eq
  exact qArL _ _ _ _ _ _ _ _ _ ⟨fun x=>by omega,fun _=>⟨by omega,ar_end h ne e n eq⟩⟩
 | succ m ih =>
  intro i gs v e1 hg eq
  have hi:i<bs.length:=by omega
  have nx:=ih (i+1) (gs++O.crnP (bs.getD i default)) (v+1) (by omega) (by rw [List.length_append];show gs.length+4<=_;omega) (by rw [<- eq,ZaH hi,List.flatMap_cons];simp only [List.append_assoc])
  refine qArL _ _ _ _ _ _ _ _ _ ⟨fun x => ?_,fun x=>by omega⟩
  rw [Int.toNat_natCast,show (i:Int)+1=((i+1:Nat):Int) by omega]
  exact ⟨by omega,hi,by omega,by omega,nx⟩
end
open Classical in
theorem ev11 (f:Bool) (bs:List Bx) (ax ay bx by_:Int) (h:bs.length<=100):Ev M1 (.pure 11 [.vec f 5 (bs.map Bx.a),.agg [.int .i64 ax,.int .i64 ay],.agg [.int .i64 bx,.int .i64 by_]]) (.tup [.vec false 2 ((O.arP f bs ⟨ax,ay⟩ ⟨bx,by_⟩).map Gp.a),.int .i64 (O.arE bs ⟨ax,ay⟩ ⟨bx,by_⟩)]) []:=by
 refine call11 (qAr _ _ _ _ _ _ _ ⟨h,fun k1=>ar_no ?_ (by decide),fun k1=>⟨fun k2=>ar_no ?_ (by decide),fun k2=>⟨fun k3=>ar_no ?_ (by decide),fun k3 => ?_⟩⟩⟩)
 ·unfold O.arE;rw [if_pos (ZeV.1 k1)]
 ·unfold O.arE;rw [if_neg fun x=>k1 (ZeV.2 x),if_pos (by omega)]
 ·unfold O.arE;rw [if_neg fun x=>k1 (ZeV.2 x),if_neg (by omega),if_pos (k3.imp id ZeV.1)]
 ·have n1:¬∃ c ∈ bs,O.bxI c:=fun x=>k1 (ZeV.2 x)
  have n2:¬bs.length>8:=by omega
  have n3:¬(O.fr4 ax ay bx by_ \/ ∃ c ∈ bs,O.bxF c):=fun x=>k3 (x.imp id ZeV.2)
  have hb:O.okB8 bs:=⟨h,fun c hc=>by
   have:¬O.bxF c:=fun x=>n3 (.inr ⟨c,hc,x⟩)
   unfold O.bxF O.fr4 O.fr1 at this
   unfold O.ccb O.cc;omega⟩
  have n4:¬O.fr4 ax ay bx by_:=fun x=>n3 (.inl x)
  unfold O.fr4 O.fr1 at n4
  have ha:O.ccp ⟨ax,ay⟩:=by unfold O.ccp O.cc;show (_<=ax/\ax<=_)/\_<=ay/\ay<=_;omega
  have hq:O.ccp ⟨bx,by_⟩:=by unfold O.ccp O.cc;show (_<=bx/\bx<=_)/\_<=by_/\by_<=_;omega
  have E:O.arE bs ⟨ax,ay⟩ ⟨bx,by_⟩=if ¬O.Zci bs ⟨ax,ay⟩ ⟨ax,ay⟩\/¬O.Zci bs ⟨bx,by_⟩ ⟨bx,by_⟩ then 15 else if (⟨ax,ay⟩:Gp)=⟨bx,by_⟩ then 0 else if O.lnk bs (O.ZdG bs ⟨ax,ay⟩ ⟨bx,by_⟩) then 0 else 16:=by
   unfold O.arE;rw [if_neg n1,if_neg n2,if_neg n3]
  refine ⟨⟨hb,ha,ha⟩,fun _=>⟨hb,hq,hq⟩,fun k4=>ar_no ?_ (by decide),fun k4 => ?_⟩
  ·rw [E,if_pos (k4.imp (fun x y=>x (Zga.2 y)) fun x y=>x (Zga.2 y))]
  ·have f4:¬(¬O.Zci bs ⟨ax,ay⟩ ⟨ax,ay⟩\/¬O.Zci bs ⟨bx,by_⟩ ⟨bx,by_⟩):=fun x=>k4 (x.imp (fun x y=>x (Zga.1 y)) fun x y=>x (Zga.1 y))
   have fa:O.Zci bs ⟨ax,ay⟩ ⟨ax,ay⟩:=Classical.not_not.1 fun x=>f4 (.inl x)
   rw [if_neg f4] at E
   refine ⟨fun k5 => ?_,fun k5 => ?_⟩
   ·have e0:O.arE bs ⟨ax,ay⟩ ⟨bx,by_⟩=0:=by rw [E,if_pos (by rw [k5.1,k5.2])]
    have e1:O.arP f bs ⟨ax,ay⟩ ⟨bx,by_⟩=[⟨ax,ay⟩]:=by unfold O.arP;rw [if_pos e0,if_pos (by rw [k5.1,k5.2])]
    rw [e0,e1];exact weak_one _ _
   ·have ne:(⟨ax,ay⟩:Gp) ≠ ⟨bx,by_⟩:=fun x=>k5 (by injection x with x y;exact ⟨x,y⟩)
    rw [if_neg ne] at E
    have ok:O.okSh bs (O.ZdG bs ⟨ax,ay⟩ ⟨bx,by_⟩):=⟨hb,nodP_ok hb ha hq,by rw [Zfk];omega,fa⟩
    have ey:O.lnk bs (O.ZdG bs ⟨ax,ay⟩ ⟨bx,by_⟩)->O.arE bs ⟨ax,ay⟩ ⟨bx,by_⟩=0:=fun k=>by rw [E,if_pos k]
    have en:¬O.lnk bs (O.ZdG bs ⟨ax,ay⟩ ⟨bx,by_⟩)->O.arE bs ⟨ax,ay⟩ ⟨bx,by_⟩=16:=fun k=>by rw [E,if_neg k]
    refine qArI _ _ _ _ _ _ _ _ _ ⟨fun x=>⟨by omega,by omega,by omega,?_⟩,fun x=>ar_end ok ne ey en ?_⟩
    ·have nx:=ar_loop (f:=f) ok ne ey en (bs.length-1) 1 ((⟨ax,ay⟩:Gp)::O.crnP (bs.getD 0 default)) 0 (by omega) (by show 5<=_;omega) (by
      have e:bs=bs.getD 0 default::bs.drop 1:=by
       have:=ZaH (d:=bs) (i:=0) (by omega);rwa [List.drop_zero] at this
      have e2:bs.flatMap O.crnP=O.crnP (bs.getD 0 default)++(bs.drop 1).flatMap O.crnP:=by conv=>lhs;rw [e,List.flatMap_cons]
      unfold O.ZdG
      rw [e2];simp)
     exact nx
    ·have:bs=[]:=List.eq_nil_of_length_eq_zero (by omega)
     subst this;rfl
end Go.Av

namespace Go.Av
open Go.Proofs
set_option maxRecDepth 100000
def fi90:Fi:=⟨68,[.tmp 4]⟩
def kp90:List (Nat × List Nat):=[(0,[0,1]),(1,[0,1,5]),(2,[1,5,18,19,20]),(3,[1,5,18,19,20,21]),(4,[1,5,6,7,18,19,20]),(5,[1,5,6,7,8,18,19,20]),(6,[1,5,6,7,8,18,19,20,25,26,27]),(7,[1,5,6,7,8,18,19,20,25,26,27,28]),(8,[1,5,6,7,8,9,10,18,19,20,25,26,27]),(9,[1,5,6,7,9,11,18,19,20,25,26,27]),(10,[1,5,6,7,8,18,19,20,25,26,27]),(11,[1,5,6,7,8,18,19,20,25,26,27]),(12,[1,5,18,19,20]),(13,[1,5,18,19,20]),(14,[4])]
def Zfz (fa fb:Bool) (a b:List Int) (Q:AV->Heap->Prop):Prop:=Wp M1 (.run fi90 (atC (cd Try.f90) []) [(0,.vec fa 1 (a.map (.int .u32))),(1,.vec fb 1 (b.map (.int .u32)))] []) Q
def Zcm (fb fx:Bool) (b x o:List Int) (n i:Int) (Q:AV->Heap->Prop):Prop:=Wp M1 (.run fi90 (atC (cd Try.f90) [1,1,0,1,0,0]) [(1,.vec fb 1 (b.map (.int .u32))),(5,.row 0 0),(18,.vec fx 1 (x.map (.int .u32))),(19,.int .i64 n),(20,.int .i64 i)] [⟨o.map (.int .u32),1,0,false,true⟩]) Q
def Zcl (fb fx fy:Bool) (b x y o:List Int) (i0 x0 c n i m k:Int) (Q:AV->Heap->Prop):Prop:=Wp M1 (.run fi90 (atC (cd Try.f90) [1,1,0,1,0,0,1,1,0,0,1,1,0,1,0,0]) [(1,.vec fb 1 (b.map (.int .u32))),(5,.row 0 0),(6,.int .i64 i0),(7,.int .u32 x0),(8,.int .u64 c),(18,.vec fx 1 (x.map (.int .u32))),(19,.int .i64 n),(20,.int .i64 i),(25,.vec fy 1 (y.map (.int .u32))),(26,.int .i64 m),(27,.int .i64 k)] [⟨o.map (.int .u32),1,0,false,true⟩]) Q
theorem call90 {args:List AV} {d:AV} (h:wc M1 fi90 Try.f90 args d):Ev M1 (.pure 90 args) d []:=pcl _ _ (by kernel_rfl) h
theorem owncall90 {args:List AV} {L:Heap} {Q:AV->Heap->Prop} (h:Wp M1 (.run fi90 [.code (cd Try.f90)] (ZaX 0 args) L) Q):Wp M1 (.own 90 args L) Q:=
 Zdf Try.f90 fi90 (by kernel_rfl) (by kernel_rfl) (by kernel_rfl) (by kernel_rfl) h
theorem vTimes (fa fb:Bool) (a b:List Int)  (Q:AV->Heap->Prop) (H :
  (-9223372036854775808<=(↑a.length:Int)+(↑b.length:Int)/\(↑a.length:Int)+(↑b.length:Int)<=9223372036854775807) /\
  (0<=(↑a.length:Int)+(↑b.length:Int)) /\
  (((↑a.length:Int)+(↑b.length:Int))*4<=1099511627776) /\
  ((↑a.length:Int)+(↑b.length:Int)<=1099511627776) /\
  Zcm fb fa b a (List.replicate ((↑a.length:Int)+(↑b.length:Int)).toNat (0:Int)) ((↑a.length:Int)) 0 Q) :
 Zfz fa fb a b Q:=by
 unfold Zfz
 have w1:(us a).length=a.length:=List.length_map ..
 have w2:(us b).length=b.length:=List.length_map ..
 obtain ⟨k3,H⟩:=H
 have w4:wi ((↑a.length:Int)+(↑b.length:Int))=(↑a.length:Int)+(↑b.length:Int):=wI64 k3
 have i5:(decide (0<=wi ((↑(us a).length:Int)+(↑(us b).length:Int))))=true ↔ (0<=(↑a.length:Int)+(↑b.length:Int)):=(by (try rw [w1]);(try rw [w2]);(try rw [w4]);all_goals exact Zab)
 obtain ⟨k6,H⟩:=H
 have i7:(decide (wi ((↑(us a).length:Int)+(↑(us b).length:Int))<=wi ((↑(us a).length:Int)+(↑(us b).length:Int))))=true ↔ ((↑a.length:Int)+(↑b.length:Int)<=(↑a.length:Int)+(↑b.length:Int)):=(by (try rw [w1]);(try rw [w2]);(try rw [w4]);all_goals exact Zab)
 have i8:(decide (wi ((↑(us a).length:Int)+(↑(us b).length:Int))*4<=1099511627776))=true ↔ (((↑a.length:Int)+(↑b.length:Int))*4<=1099511627776):=(by (try rw [w1]);(try rw [w2]);(try rw [w4]);all_goals exact Zab)
 obtain ⟨k9,H⟩:=H
 have i10:(decide (wi ((↑(us a).length:Int)+(↑(us b).length:Int))<=1099511627776))=true ↔ ((↑a.length:Int)+(↑b.length:Int)<=1099511627776):=(by (try rw [w1]);(try rw [w2]);(try rw [w4]);all_goals exact Zab)
 obtain ⟨k11,H⟩:=H
 have w12:List.replicate ((↑a.length:Int)+(↑b.length:Int)).toNat (vu 0)=us (List.replicate ((↑a.length:Int)+(↑b.length:Int)).toNat (0:Int)):=(Zg8 rfl)
 exact Zae (G:=Zad kp90 [] []) 1000 [] ⟨(atC (cd Try.f90) [1,1,0,1,0,0]),[(1,AV.vec fb 1 (us b)),(5,AV.row 0 0),(18,AV.vec fa 1 (us a)),(19,vi (↑(us a).length:Int)),(20,vi 0)],[⟨List.replicate (wi ((↑(us a).length:Int)+(↑(us b).length:Int))).toNat (vu 0),1,0,false,true⟩],[decide (0<=wi ((↑(us a).length:Int)+(↑(us b).length:Int))),decide (wi ((↑(us a).length:Int)+(↑(us b).length:Int))<=wi ((↑(us a).length:Int)+(↑(us b).length:Int))),decide (wi ((↑(us a).length:Int)+(↑(us b).length:Int))*4<=1099511627776),decide (wi ((↑(us a).length:Int)+(↑(us b).length:Int))<=1099511627776)],[],_⟩ (by kernel_rfl) (bc (i5.2 k6) (bc (i7.2 (by omega)) (bc (i8.2 k9) (bc (i10.2 k11) b0)))) q0 c0 (by (try rw [w1]);(try rw [w2]);(try rw [w4]);(try rw [w12]);all_goals exact H)
theorem vTimesA (fb fx:Bool) (b x o:List Int) (n i:Int)  (Q:AV->Heap->Prop) (H :
  ((i<n)->(0<=i) /\
   (i.toNat<x.length) /\
   Zcl fb fx fb b x b o i (x.getD i.toNat default) 0 n i ((↑b.length:Int)) 0 Q) /\
  (¬(i<n)->Q (AV.row 0 0) [{ elems:=us o,es:=1,ver:=0,frozen:=false,clean:=true }])) :
 Zcm fb fx b x o n i Q:=by
 unfold Zcm
 rcases xq H with ⟨d2,H⟩|⟨d2,H⟩
 ·obtain ⟨k4,H⟩:=H
  have w5:(us x).length=x.length:=List.length_map ..
  have i6:(decide (i.toNat<(us x).length))=true ↔ (i.toNat<x.length):=(by (try rw [w5]);all_goals exact Zab)
  obtain ⟨k7,H⟩:=H
  have w8:(us b).length=b.length:=List.length_map ..
  exact Zae (G:=Zad kp90 [(4,2,.elem (vu (x.getD i.toNat default)))] []) 1000 [true] ⟨(atC (cd Try.f90) [1,1,0,1,0,0,1,1,0,0,1,1,0,1,0,0]),[(1,AV.vec fb 1 (us b)),(5,AV.row 0 0),(6,vi i),(7,vu (x.getD i.toNat default)),(8,vw 0),(18,AV.vec fx 1 (us x)),(19,vi n),(20,vi i),(25,AV.vec fb 1 (us b)),(26,vi (↑(us b).length:Int)),(27,vi 0)],[⟨us o,1,0,false,true⟩],_,[((us x).get?Internal i.toNat=some (vu (x.getD i.toNat default)))],_⟩ (by kernel_rfl) (bc (Zak (Zab.2 d2)) (bc (Zab.2 k4) (bc (i6.2 k7) b0))) (qc (Zal k7) q0) c0 (by (try rw [w8]);all_goals exact H)
 ·exact Zax (G:=Zad kp90 [] []) 1000 [false] (k:=((atC (cd Try.f90) [1,1,1,1])).tail) (env':=[(4,AV.row 0 0)]) (L':=[⟨us o,1,0,false,true⟩]) (asm:=[(decide (i<n))==false]) (eqs:=[]) (calls:=[]) (AV.row 0 0) (by kernel_rfl) (by kernel_rfl) (Zaa (Zah (fun h=>d2 (Zab.1 h))) Zaj) Zan Zao H
theorem vTimesB (fb fx fy:Bool) (b x y o:List Int) (i0 x0 c n i m k:Int)  (Q:AV->Heap->Prop) (H :
  ((k<m)->(0<=k) /\
   (k.toNat<y.length) /\
   (-9223372036854775808<=i0+k/\i0+k<=9223372036854775807) /\
   (0<=i0+k) /\
   ((i0+k).toNat<o.length) /\
   (0<=o.getD (i0+k).toNat default/\o.getD (i0+k).toNat default<=18446744073709551615) /\
   (0<=x0/\x0<=18446744073709551615) /\
   (0<=y.getD k.toNat default/\y.getD k.toNat default<=18446744073709551615) /\
   (0<=x0*y.getD k.toNat default/\x0*y.getD k.toNat default<=18446744073709551615) /\
   (0<=o.getD (i0+k).toNat default+x0*y.getD k.toNat default/\o.getD (i0+k).toNat default+x0*y.getD k.toNat default<=18446744073709551615) /\
   (0<=o.getD (i0+k).toNat default+x0*y.getD k.toNat default+c/\o.getD (i0+k).toNat default+x0*y.getD k.toNat default+c<=18446744073709551615) /\
   (0<=(o.getD (i0+k).toNat default+x0*y.getD k.toNat default+c).tdiv 1000000000/\(o.getD (i0+k).toNat default+x0*y.getD k.toNat default+c).tdiv 1000000000<=18446744073709551615) /\
   (0<=(o.getD (i0+k).toNat default+x0*y.getD k.toNat default+c).tmod 1000000000/\(o.getD (i0+k).toNat default+x0*y.getD k.toNat default+c).tmod 1000000000<=4294967295) /\
   (-9223372036854775808<=k+1/\k+1<=9223372036854775807) /\
   Zcl fb fx fy b x y (o.set (i0+k).toNat ((o.getD (i0+k).toNat default+x0*y.getD k.toNat default+c).tmod 1000000000)) i0 x0 ((o.getD (i0+k).toNat default+x0*y.getD k.toNat default+c).tdiv 1000000000) n i m (k+1) Q) /\
  (¬(k<m)->(-9223372036854775808<=i0+(↑b.length:Int)/\i0+(↑b.length:Int)<=9223372036854775807) /\
   (0<=i0+(↑b.length:Int)) /\
   ((i0+(↑b.length:Int)).toNat<o.length) /\
   (0<=c/\c<=4294967295) /\
   (-9223372036854775808<=i+1/\i+1<=9223372036854775807) /\
   Zcm fb fx b x (o.set (i0+(↑b.length:Int)).toNat c) n (i+1) Q)) :
 Zcl fb fx fy b x y o i0 x0 c n i m k Q:=by
 unfold Zcl
 rcases xq H with ⟨d2,H⟩|⟨d2,H⟩
 ·obtain ⟨k4,H⟩:=H
  have w5:(us y).length=y.length:=List.length_map ..
  have i6:(decide (k.toNat<(us y).length))=true ↔ (k.toNat<y.length):=(by (try rw [w5]);all_goals exact Zab)
  obtain ⟨k7,k8,H⟩:=H
  have w9:wi (i0+k)=i0+k:=wI64 k8
  have i10:(decide (0<=wi (i0+k)))=true ↔ (0<=i0+k):=(by (try rw [w9]);all_goals exact Zab)
  obtain ⟨k11,H⟩:=H
  have w12:(us o).length=o.length:=List.length_map ..
  have i13:(decide ((wi (i0+k)).toNat<(us o).length))=true ↔ ((i0+k).toNat<o.length):=(by (try rw [w9]);(try rw [w12]);all_goals exact Zab)
  obtain ⟨k14,k15,H⟩:=H
  have w16:wu (o.getD (i0+k).toNat default)=o.getD (i0+k).toNat default:=wU64 k15
  obtain ⟨k17,H⟩:=H
  have w18:wu x0=x0:=wU64 k17
  obtain ⟨k19,H⟩:=H
  have w20:wu (y.getD k.toNat default)=y.getD k.toNat default:=wU64 k19
  obtain ⟨k21,H⟩:=H
  have w22:wu (x0*y.getD k.toNat default)=x0*y.getD k.toNat default:=wU64 k21
  obtain ⟨k23,H⟩:=H
  have w24:wu (o.getD (i0+k).toNat default+x0*y.getD k.toNat default)=o.getD (i0+k).toNat default+x0*y.getD k.toNat default:=wU64 k23
  obtain ⟨k25,H⟩:=H
  have w26:wu (o.getD (i0+k).toNat default+x0*y.getD k.toNat default+c)=o.getD (i0+k).toNat default+x0*y.getD k.toNat default+c:=wU64 k25
  have i27:(decide (0<=wi (i0+k)))=true ↔ (0<=i0+k):=(by (try rw [w9]);all_goals exact Zab)
  have i28:(decide ((wi (i0+k)).toNat<(us o).length))=true ↔ ((i0+k).toNat<o.length):=(by (try rw [w9]);(try rw [w12]);all_goals exact Zab)
  obtain ⟨k29,H⟩:=H
  have w30:wu ((o.getD (i0+k).toNat default+x0*y.getD k.toNat default+c).tdiv 1000000000)=(o.getD (i0+k).toNat default+x0*y.getD k.toNat default+c).tdiv 1000000000:=wU64 k29
  obtain ⟨k31,H⟩:=H
  have w32:wv ((o.getD (i0+k).toNat default+x0*y.getD k.toNat default+c).tmod 1000000000)=(o.getD (i0+k).toNat default+x0*y.getD k.toNat default+c).tmod 1000000000:=wU32 k31
  have w33:(us o).set (i0+k).toNat (vu ((o.getD (i0+k).toNat default+x0*y.getD k.toNat default+c).tmod 1000000000))=us (o.set (i0+k).toNat ((o.getD (i0+k).toNat default+x0*y.getD k.toNat default+c).tmod 1000000000)):=(Zbg rfl rfl)
  obtain ⟨k34,H⟩:=H
  have w35:wi (k+1)=k+1:=wI64 k34
  exact Zae (G:=Zad kp90 [(8,2,.elem (vu (y.getD k.toNat default))),(9,5,.elem (vu (o.getD (i0+k).toNat default))),(10,10,.elem (vu (o.getD (i0+k).toNat default)))] []) 1000 [true] ⟨(atC (cd Try.f90) [1,1,0,1,0,0,1,1,0,0,1,1,0,1,0,0]),[(1,AV.vec fb 1 (us b)),(5,AV.row 0 0),(6,vi i0),(7,vu x0),(8,vw (wu ((wu (wu (wu (o.getD (i0+k).toNat default)+wu (wu x0*wu (y.getD k.toNat default)))+c)).tdiv 1000000000))),(18,AV.vec fx 1 (us x)),(19,vi n),(20,vi i),(25,AV.vec fy 1 (us y)),(26,vi m),(27,vi (wi (k+1)))],[⟨(us o).set (wi (i0+k)).toNat (vu (wv ((wu (wu (wu (o.getD (i0+k).toNat default)+wu (wu x0*wu (y.getD k.toNat default)))+c)).tmod 1000000000))),1,0,false,true⟩],_,[((us y).get?Internal k.toNat=some (vu (y.getD k.toNat default))),((us o).get?Internal (wi (i0+k)).toNat=some (vu (o.getD (i0+k).toNat default))),((us o).get?Internal (wi (i0+k)).toNat=some (vu (o.getD (i0+k).toNat default)))],_⟩ (by kernel_rfl) (bc (Zak (Zab.2 d2)) (bc (Zab.2 k4) (bc (i6.2 k7) (bc rfl (bc (i10.2 k11) (bc (i13.2 k14) (bc rfl (bc rfl (bc rfl (bc rfl (bc (i27.2 k11) (bc (i28.2 k14) (bc rfl b0))))))))))))) (qc (Zal k7) (qc (by (try rw [w9]);all_goals exact (Zal k14)) (qc (by (try rw [w9]);all_goals exact (Zal k14)) q0))) c0 (by (try rw [w9]);(try rw [w16]);(try rw [w18]);(try rw [w20]);(try rw [w22]);(try rw [w24]);(try rw [w26]);(try rw [w30]);(try rw [w32]);(try rw [w33]);(try rw [w35]);all_goals exact H)
 ·have w36:(us b).length=b.length:=List.length_map ..
  obtain ⟨k37,H⟩:=H
  have w38:wi (i0+(↑b.length:Int))=i0+(↑b.length:Int):=wI64 k37
  have i39:(decide (0<=wi (i0+(↑(us b).length:Int))))=true ↔ (0<=i0+(↑b.length:Int)):=(by (try rw [w36]);(try rw [w38]);all_goals exact Zab)
  obtain ⟨k40,H⟩:=H
  have w41:(us o).length=o.length:=List.length_map ..
  have i42:(decide ((wi (i0+(↑(us b).length:Int))).toNat<(us o).length))=true ↔ ((i0+(↑b.length:Int)).toNat<o.length):=(by (try rw [w36]);(try rw [w38]);(try rw [w41]);all_goals exact Zab)
  obtain ⟨k43,k44,H⟩:=H
  have w45:wv c=c:=wU32 k44
  have w46:(us o).set (i0+(↑b.length:Int)).toNat (vu c)=us (o.set (i0+(↑b.length:Int)).toNat c):=(Zbg rfl rfl)
  obtain ⟨k47,H⟩:=H
  have w48:wi (i+1)=i+1:=wI64 k47
  exact Zae (G:=Zad kp90 [(12,8,.elem (vu (o.getD (i0+(↑b.length:Int)).toNat default)))] []) 1000 [false] ⟨(atC (cd Try.f90) [1,1,0,1,0,0]),[(1,AV.vec fb 1 (us b)),(5,AV.row 0 0),(18,AV.vec fx 1 (us x)),(19,vi n),(20,vi (wi (i+1)))],[⟨(us o).set (wi (i0+(↑(us b).length:Int))).toNat (vu (wv c)),1,0,false,true⟩],_,[((us o).get?Internal (wi (i0+(↑(us b).length:Int))).toNat=some (vu (o.getD (i0+(↑b.length:Int)).toNat default)))],_⟩ (by kernel_rfl) (bc (Zah (fun h=>d2 (Zab.1 h))) (bc rfl (bc (i39.2 k40) (bc (i42.2 k43) (bc rfl b0))))) (qc (by (try rw [w36]);(try rw [w38]);all_goals exact (Zal k43)) q0) c0 (by (try rw [w36]);(try rw [w38]);(try rw [w45]);(try rw [w46]);(try rw [w48]);all_goals exact H)
end Go.Av
