/- PART 4 of the texts of a claim, joined by a program: what each part shows stands at its head. -/
import Derived.Test.YtcekollfgmfdjaaGreatPart619b7dfefc

namespace Go.Av
open Go.Proofs
set_option maxRecDepth 100000
def fi70:Fi:=⟨14,[.cell 2 85]⟩
def kp70:List (Nat × List Nat):=[(0,[0,2]),(1,[0,2,4]),(2,[2]),(3,[2])]
def fi82:Fi:=⟨15,[.cell 4 85]⟩
def kp82:List (Nat × List Nat):=[(0,[0,1,4]),(1,[0,1,4]),(2,[4])]
def fi83:Fi:=⟨68,[.tmp 4]⟩
def kp83:List (Nat × List Nat):=[(0,[0,1]),(1,[0,1,5]),(2,[0,1,5,6]),(3,[0,1,5,6,18]),(4,[0,1,5,6]),(5,[0,1,5,6,7]),(6,[0,1,5,6,7,8]),(7,[0,1,5,6,7,8,24]),(8,[0,1,5,6,7,8]),(9,[0,1,5,6,7,8]),(10,[0,1,5,6,7,8]),(11,[0,1,5,6,7,8]),(12,[0,1,5,6]),(13,[4])]
def fi139:Fi:=⟨45,[.tmp 4]⟩
def kp139:List (Nat × List Nat):=[(0,[0,1]),(1,[0,1,5]),(2,[0,1,5,6]),(3,[0,1,5,6,7]),(4,[0,1,5,6,7,15]),(5,[0,1,5,6,7]),(6,[0,1,5,7,8]),(7,[0,1,5,7,8,28]),(8,[0,1,5,7,8]),(9,[0,1,5,6,7,8]),(10,[0,1,5,6,7,8,36]),(11,[0,1,5,6,7,8]),(12,[0,1,5,6,7]),(13,[4])]
def fi140:Fi:=⟨55,[.tmp 4]⟩
def kp140:List (Nat × List Nat):=[(0,[0,1]),(1,[0,1,12]),(2,[0,1]),(3,[0,1,5]),(4,[0,1,5,6]),(5,[0,1,5,6,7]),(6,[0,1,5,6,7,22]),(7,[0,1,5,6,7]),(8,[0,1,5,6,7]),(9,[0,1,5,6,7,34]),(10,[0,1,5,6,7]),(11,[0,1,5,6,7]),(12,[0,1,5,6,7]),(13,[5]),(14,[4])]
def Zg4 (s fa:Bool) (k v:Nat) (Q:AV->Heap->Prop):Prop:=Wp M1 (.run fi82 (atC (cd Tryz.f82) []) [(0,.bool s),(1,.vec fa 1 ((N.Zar k v).map (.int .u32)))] []) Q
def Zeh (n:Int) (Q:AV->Heap->Prop):Prop:=Wp M1 (.run fi70 (atC (cd Tryz.f70) []) [(0,.int .i64 n)] []) Q
def rPlus_at (fa fb:Bool) (a b:List Int) (Q:AV->Heap->Prop):Prop:=Wp M1 (.run fi140 (atC (cd Tryz.f140) []) [(0,.vec fa 1 (a.map (.int .u32))),(1,.vec fb 1 (b.map (.int .u32)))] []) Q
def Zb9 (fa fb:Bool) (a b:List Int) (o:List Int) (c i:Int) (Q:AV->Heap->Prop):Prop:=Wp M1 (.run fi140 (atC (cd Tryz.f140) [1,1,1,1,0,1,0,0]) [(0,.vec fa 1 (a.map (.int .u32))),(1,.vec fb 1 (b.map (.int .u32))),(5,.row 0 0),(6,.int .u32 c),(7,.int .i64 i)] [⟨o.map (.int .u32),1,0,false,true⟩]) Q
def rMinus_at (fa fb:Bool) (a b:List Int) (Q:AV->Heap->Prop):Prop:=Wp M1 (.run fi139 (atC (cd Tryz.f139) []) [(0,.vec fa 1 (a.map (.int .u32))),(1,.vec fb 1 (b.map (.int .u32)))] []) Q
def Zbm (fa fb:Bool) (a b:List Int) (o:List Int) (c i:Int) (Q:AV->Heap->Prop):Prop:=Wp M1 (.run fi139 (atC (cd Tryz.f139) [1,1,1,0,1,0,0]) [(0,.vec fa 1 (a.map (.int .u32))),(1,.vec fb 1 (b.map (.int .u32))),(5,.row 0 0),(6,.int .u32 c),(7,.int .i64 i)] [⟨o.map (.int .u32),1,0,false,true⟩]) Q
def rTimes_at (fa fb:Bool) (a b:List Int) (Q:AV->Heap->Prop):Prop:=Wp M1 (.run fi83 (atC (cd Tryz.f83) []) [(0,.vec fa 1 (a.map (.int .u32))),(1,.vec fb 1 (b.map (.int .u32)))] []) Q
def Zcw (fa fb:Bool) (a b:List Int) (o:List Int) (i:Int) (Q:AV->Heap->Prop):Prop:=Wp M1 (.run fi83 (atC (cd Tryz.f83) [1,1,0,1,0,0]) [(0,.vec fa 1 (a.map (.int .u32))),(1,.vec fb 1 (b.map (.int .u32))),(5,.row 0 0),(6,.int .i64 i)] [⟨o.map (.int .u32),1,0,false,true⟩]) Q
def Zcv (fa fb:Bool) (a b:List Int) (o:List Int) (i c k:Int) (Q:AV->Heap->Prop):Prop:=Wp M1 (.run fi83 (atC (cd Tryz.f83) [1,1,0,1,0,0,1,0,0,1,0,1,0,0]) [(0,.vec fa 1 (a.map (.int .u32))),(1,.vec fb 1 (b.map (.int .u32))),(5,.row 0 0),(6,.int .i64 i),(7,.int .u64 c),(8,.int .i64 k)] [⟨o.map (.int .u32),1,0,false,true⟩]) Q
theorem call70 {args:List AV} {d:AV} (h:wc M1 fi70 Tryz.f70 args d):Ev M1 (.pure 70 args) d []:=pcl _ _ (by kernel_rfl) h
theorem call82 {args:List AV} {d:AV} (h:wc M1 fi82 Tryz.f82 args d):Ev M1 (.pure 82 args) d []:=pcl _ _ (by kernel_rfl) h
theorem call83 {args:List AV} {d:AV} (h:wc M1 fi83 Tryz.f83 args d):Ev M1 (.pure 83 args) d []:=pcl _ _ (by kernel_rfl) h
theorem call139 {args:List AV} {d:AV} (h:wc M1 fi139 Tryz.f139 args d):Ev M1 (.pure 139 args) d []:=pcl _ _ (by kernel_rfl) h
theorem call140 {args:List AV} {d:AV} (h:wc M1 fi140 Tryz.f140 args d):Ev M1 (.pure 140 args) d []:=pcl _ _ (by kernel_rfl) h
theorem rSigned (s fa:Bool) (k v:Nat)  (dq:AV) (H :
  (N.Zav k/\N.fits k v) /\
  Weak (ag [vb (bif s then decide ((↑(N.lim v).length:Int)>0) else false),vf (us (N.lim v))]) dq) :
 Zg4 s fa k v (Zaf dq):=by
 unfold Zg4
 obtain ⟨k1,H⟩:=H
 have w2:(us (N.lim v)).length=(N.lim v).length:=List.length_map ..
 exact Zai (G:=Zae kp82 [(1,1,.call (vf (us (N.lim v))) none)] []) 1000 [] (ag [vb (bif s then decide ((↑(us (N.lim v)).length:Int)>0) else false),vf (us (N.lim v))]) (by kernel_rfl) (bc rfl b0) q0 (ce (@ev103 fa k v k1) c0) (by (try rw [w2]);all_goals exact H)
theorem rFromInt64 (n:Int)  (dq:AV) (H :
  ((n<0)->(0<=IntKind.u64.wrap (0-IntKind.u64.wrap n)/\IntKind.u64.wrap (0-IntKind.u64.wrap n)<=18446744073709551615) /\
   ∃ (b1:Bool) (l1:List Int),
   (Ev M1 (Conf.pure 82 [vb true,vf (us (N.lim (IntKind.u64.wrap (0-IntKind.u64.wrap n)).toNat))]) (ag [vb b1,vf (us l1)]) []) /\
   Weak (ag [vb b1,vf (us l1)]) dq) /\
  (¬(n<0)->(0<=IntKind.u64.wrap n/\IntKind.u64.wrap n<=18446744073709551615) /\
   ∃ (b2:Bool) (l2:List Int),
   (Ev M1 (Conf.pure 82 [vb false,vf (us (N.lim (IntKind.u64.wrap n).toNat))]) (ag [vb b2,vf (us l2)]) []) /\
   Weak (ag [vb b2,vf (us l2)]) dq)) :
 Zeh n (Zaf dq):=by
 unfold Zeh
 rcases xq H with ⟨d2,H⟩|⟨d2,H⟩
 ·obtain ⟨k3,b1,l1,k4,H⟩:=H
  exact Zai (G:=Zae kp70 [(2,3,.call (vf (us (N.lim (wu (0-wu n)).toNat))) none),(2,4,.call (ag [vb b1,vf (us l1)]) none)] []) 1000 [true] (ag [vb b1,vf (us l1)]) (by kernel_rfl) (bc (Zan (Zab.2 d2)) (bc rfl b0)) q0 (ce (@ev87 (wu (0-wu n)) k3) (ce k4 c0)) H
 ·obtain ⟨k5,b2,l2,k6,H⟩:=H
  exact Zai (G:=Zae kp70 [(3,2,.call (vf (us (N.lim (wu n).toNat))) none),(3,3,.call (ag [vb b2,vf (us l2)]) none)] []) 1000 [false] (ag [vb b2,vf (us l2)]) (by kernel_rfl) (bc (Zam (fun h=>d2 (Zab.1 h))) (bc rfl b0)) q0 (ce (@ev87 (wu n) k5) (ce k6 c0)) H
theorem rPlus (fa fb:Bool) (a b:List Int)  (dq:AV) (H :
  (((↑a.length:Int)<(↑b.length:Int))->(-9223372036854775808<=(↑b.length:Int)+1/\(↑b.length:Int)+1<=9223372036854775807) /\
   (0<=(↑b.length:Int)+1) /\
   (((↑b.length:Int)+1)*4<=1099511627776) /\
   ((↑b.length:Int)+1<=1099511627776) /\
   Zb9 fb fa b a (List.replicate ((↑b.length:Int)+1).toNat (0:Int)) 0 0 (Zaf dq)) /\
  (¬((↑a.length:Int)<(↑b.length:Int))->(-9223372036854775808<=(↑a.length:Int)+1/\(↑a.length:Int)+1<=9223372036854775807) /\
   (0<=(↑a.length:Int)+1) /\
   (((↑a.length:Int)+1)*4<=1099511627776) /\
   ((↑a.length:Int)+1<=1099511627776) /\
   Zb9 fa fb a b (List.replicate ((↑a.length:Int)+1).toNat (0:Int)) 0 0 (Zaf dq))) :
 rPlus_at fa fb a b (Zaf dq):=by
 unfold rPlus_at
 have w1:(us a).length=a.length:=List.length_map ..
 have w2:(us b).length=b.length:=List.length_map ..
 have i3:(decide ((↑(us a).length:Int)<(↑(us b).length:Int)))=true ↔ ((↑a.length:Int)<(↑b.length:Int)):=(by (try rw [w1]);(try rw [w2]);all_goals exact Zab)
 rcases xq H with ⟨d4,H⟩|⟨d4,H⟩
 ·obtain ⟨k5,H⟩:=H
  have w6:wi ((↑b.length:Int)+1)=(↑b.length:Int)+1:=wI64 k5
  have i7:(decide (0<=wi ((↑(us b).length:Int)+1)))=true ↔ (0<=(↑b.length:Int)+1):=(by (try rw [w2]);(try rw [w6]);all_goals exact Zab)
  obtain ⟨k8,H⟩:=H
  have i9:(decide (wi ((↑(us b).length:Int)+1)<=wi ((↑(us b).length:Int)+1)))=true ↔ ((↑b.length:Int)+1<=(↑b.length:Int)+1):=(by (try rw [w2]);(try rw [w6]);all_goals exact Zab)
  have i10:(decide (wi ((↑(us b).length:Int)+1)*4<=1099511627776))=true ↔ (((↑b.length:Int)+1)*4<=1099511627776):=(by (try rw [w2]);(try rw [w6]);all_goals exact Zab)
  obtain ⟨k11,H⟩:=H
  have i12:(decide (wi ((↑(us b).length:Int)+1)<=1099511627776))=true ↔ ((↑b.length:Int)+1<=1099511627776):=(by (try rw [w2]);(try rw [w6]);all_goals exact Zab)
  obtain ⟨k13,H⟩:=H
  have w14:List.replicate ((↑b.length:Int)+1).toNat (vu 0)=us (List.replicate ((↑b.length:Int)+1).toNat (0:Int)):=(Zdy rfl)
  exact Zad (G:=Zae kp140 [] []) 1000 [true] ⟨(atC (cd Tryz.f140) [1,1,1,1,0,1,0,0]),[(0,AV.vec fb 1 (us b)),(1,AV.vec fa 1 (us a)),(5,AV.row 0 0),(6,vu 0),(7,vi 0)],[⟨List.replicate (wi ((↑(us b).length:Int)+1)).toNat (vu 0),1,0,false,true⟩],[(decide ((↑(us a).length:Int)<(↑(us b).length:Int)))==true,decide (0<=wi ((↑(us b).length:Int)+1)),decide (wi ((↑(us b).length:Int)+1)<=wi ((↑(us b).length:Int)+1)),decide (wi ((↑(us b).length:Int)+1)*4<=1099511627776),decide (wi ((↑(us b).length:Int)+1)<=1099511627776)],[],_⟩ (by kernel_rfl) (bc (Zan (i3.2 d4)) (bc (i7.2 k8) (bc (i9.2 (by omega)) (bc (i10.2 k11) (bc (i12.2 k13) b0))))) q0 c0 (by (try rw [w2]);(try rw [w6]);(try rw [w14]);all_goals exact H)
 ·obtain ⟨k15,H⟩:=H
  have w16:wi ((↑a.length:Int)+1)=(↑a.length:Int)+1:=wI64 k15
  have i17:(decide (0<=wi ((↑(us a).length:Int)+1)))=true ↔ (0<=(↑a.length:Int)+1):=(by (try rw [w1]);(try rw [w16]);all_goals exact Zab)
  obtain ⟨k18,H⟩:=H
  have i19:(decide (wi ((↑(us a).length:Int)+1)<=wi ((↑(us a).length:Int)+1)))=true ↔ ((↑a.length:Int)+1<=(↑a.length:Int)+1):=(by (try rw [w1]);(try rw [w16]);all_goals exact Zab)
  have i20:(decide (wi ((↑(us a).length:Int)+1)*4<=1099511627776))=true ↔ (((↑a.length:Int)+1)*4<=1099511627776):=(by (try rw [w1]);(try rw [w16]);all_goals exact Zab)
  obtain ⟨k21,H⟩:=H
  have i22:(decide (wi ((↑(us a).length:Int)+1)<=1099511627776))=true ↔ ((↑a.length:Int)+1<=1099511627776):=(by (try rw [w1]);(try rw [w16]);all_goals exact Zab)
  obtain ⟨k23,H⟩:=H
  have w24:List.replicate ((↑a.length:Int)+1).toNat (vu 0)=us (List.replicate ((↑a.length:Int)+1).toNat (0:Int)):=(Zdy rfl)
  exact Zad (G:=Zae kp140 [] []) 1000 [false] ⟨(atC (cd Tryz.f140) [1,1,1,1,0,1,0,0]),[(0,AV.vec fa 1 (us a)),(1,AV.vec fb 1 (us b)),(5,AV.row 0 0),(6,vu 0),(7,vi 0)],[⟨List.replicate (wi ((↑(us a).length:Int)+1)).toNat (vu 0),1,0,false,true⟩],[(decide ((↑(us a).length:Int)<(↑(us b).length:Int)))==false,decide (0<=wi ((↑(us a).length:Int)+1)),decide (wi ((↑(us a).length:Int)+1)<=wi ((↑(us a).length:Int)+1)),decide (wi ((↑(us a).length:Int)+1)*4<=1099511627776),decide (wi ((↑(us a).length:Int)+1)<=1099511627776)],[],_⟩ (by kernel_rfl) (bc (Zam (fun h=>d4 (i3.1 h))) (bc (i17.2 k18) (bc (i19.2 (by omega)) (bc (i20.2 k21) (bc (i22.2 k23) b0))))) q0 c0 (by (try rw [w1]);(try rw [w16]);(try rw [w24]);all_goals exact H)
noncomputable abbrev zNwB1 (o:List Int) (a:List Int) (c:Int):=vf (us (N.Zb8 (o.set (↑a.length:Int).toNat c)))
theorem rPlusA (fa fb:Bool) (a b:List Int) (o:List Int) (c i:Int)  (dq:AV) (H :
  ((i<(↑a.length:Int))->(0<=i) /\
   (i.toNat<a.length) /\
   (0<=c+a.getD i.toNat default/\c+a.getD i.toNat default<=4294967295) /\
   ((i<(↑b.length:Int))->(i.toNat<b.length) /\
    (0<=c+a.getD i.toNat default+b.getD i.toNat default/\c+a.getD i.toNat default+b.getD i.toNat default<=4294967295) /\
    (i.toNat<o.length) /\
    (0<=(c+a.getD i.toNat default+b.getD i.toNat default).tdiv 1000000000/\(c+a.getD i.toNat default+b.getD i.toNat default).tdiv 1000000000<=4294967295) /\
    (-9223372036854775808<=i+1/\i+1<=9223372036854775807) /\
    Zb9 fa fb a b (o.set i.toNat ((c+a.getD i.toNat default+b.getD i.toNat default).tmod 1000000000)) ((c+a.getD i.toNat default+b.getD i.toNat default).tdiv 1000000000) (i+1) (Zaf dq)) /\
   (¬(i<(↑b.length:Int))->(i.toNat<o.length) /\
    (0<=(c+a.getD i.toNat default).tdiv 1000000000/\(c+a.getD i.toNat default).tdiv 1000000000<=4294967295) /\
    (-9223372036854775808<=i+1/\i+1<=9223372036854775807) /\
    Zb9 fa fb a b (o.set i.toNat ((c+a.getD i.toNat default).tmod 1000000000)) ((c+a.getD i.toNat default).tdiv 1000000000) (i+1) (Zaf dq))) /\
  (¬(i<(↑a.length:Int))->(0<=(↑a.length:Int)) /\
   ((↑a.length:Int).toNat<o.length) /\
   (N.Zav (o.set (↑a.length:Int).toNat c).length) /\
   Weak (vf (us (N.Zb8 (o.set (↑a.length:Int).toNat c)))) dq)) :
 Zb9 fa fb a b o c i (Zaf dq):=by
 unfold Zb9
 have w1:(us a).length=a.length:=List.length_map ..
 have i2:(decide (i<(↑(us a).length:Int)))=true ↔ (i<(↑a.length:Int)):=(by (try rw [w1]);all_goals exact Zab)
 rcases xq H with ⟨d3,H⟩|⟨d3,H⟩
 ·obtain ⟨k5,H⟩:=H
  have i6:(decide (i.toNat<(us a).length))=true ↔ (i.toNat<a.length):=(by (try rw [w1]);all_goals exact Zab)
  obtain ⟨k7,k8,H⟩:=H
  have w9:wv (c+a.getD i.toNat default)=c+a.getD i.toNat default:=wU32 k8
  have w10:(us b).length=b.length:=List.length_map ..
  have i11:(decide (i<(↑(us b).length:Int)))=true ↔ (i<(↑b.length:Int)):=(by (try rw [w10]);all_goals exact Zab)
  refine Zad (G:=Zae kp140 [(8,4,.elem (vu (a.getD i.toNat default)))] []) 12 [true] ⟨(atC (cd Tryz.f140) [1,1,1,1,0,1,0,0,1,0,0,1,0,1]),[(0,AV.vec fa 1 (us a)),(1,AV.vec fb 1 (us b)),(5,AV.row 0 0),(6,vu (wv (c+a.getD i.toNat default))),(7,vi i),(34,vb (decide (i<(↑(us b).length:Int))))],[⟨us o,1,0,false,true⟩],_,[((us a).get?Internal i.toNat=some (vu (a.getD i.toNat default)))],_⟩ (by kernel_rfl) (bc (Zan (i2.2 d3)) (bc (Zab.2 k5) (bc (i6.2 k7) b0))) (qc (Zao k7) q0) c0 ?_
  rcases xq H with ⟨d12,H⟩|⟨d12,H⟩
  ·have i14:(decide (i.toNat<(us b).length))=true ↔ (i.toNat<b.length):=(by (try rw [w10]);all_goals exact Zab)
   obtain ⟨k15,k16,H⟩:=H
   have w17:wv (c+a.getD i.toNat default+b.getD i.toNat default)=c+a.getD i.toNat default+b.getD i.toNat default:=wU32 k16
   have w19:(us o).length=o.length:=List.length_map ..
   have i20:(decide (i.toNat<(us o).length))=true ↔ (i.toNat<o.length):=(by (try rw [w19]);all_goals exact Zab)
   obtain ⟨k21,H⟩:=H
   have w22:(us o).set i.toNat (vu ((c+a.getD i.toNat default+b.getD i.toNat default).tmod 1000000000))=us (o.set i.toNat ((c+a.getD i.toNat default+b.getD i.toNat default).tmod 1000000000)):=(Za6 rfl rfl)
   obtain ⟨k23,H⟩:=H
   have w24:wv ((c+a.getD i.toNat default+b.getD i.toNat default).tdiv 1000000000)=(c+a.getD i.toNat default+b.getD i.toNat default).tdiv 1000000000:=wU32 k23
   obtain ⟨k25,H⟩:=H
   have w26:wi (i+1)=i+1:=wI64 k25
   exact Zad (G:=Zae kp140 [(10,4,.elem (vu (b.getD i.toNat default))),(11,5,.elem (vu (o.getD i.toNat default)))] []) 1000 [true] ⟨(atC (cd Tryz.f140) [1,1,1,1,0,1,0,0]),[(0,AV.vec fa 1 (us a)),(1,AV.vec fb 1 (us b)),(5,AV.row 0 0),(6,vu (wv ((wv (wv (c+a.getD i.toNat default)+b.getD i.toNat default)).tdiv 1000000000))),(7,vi (wi (i+1)))],[⟨(us o).set i.toNat (vu ((wv (wv (c+a.getD i.toNat default)+b.getD i.toNat default)).tmod 1000000000)),1,0,false,true⟩],_,[((us b).get?Internal i.toNat=some (vu (b.getD i.toNat default))),((us o).get?Internal i.toNat=some (vu (o.getD i.toNat default)))],_⟩ (by kernel_rfl) (bc (Zan (i11.2 d12)) (bc (Zab.2 k5) (bc (i14.2 k15) (bc rfl (bc rfl (bc (Zab.2 k5) (bc (i20.2 k21) (bc rfl (bc rfl b0))))))))) (qc (Zao k15) (qc (Zao k21) q0)) c0 (by (try rw [w9]);(try rw [w17]);(try rw [w22]);(try rw [w24]);(try rw [w26]);all_goals exact H)
  ·have w28:(us o).length=o.length:=List.length_map ..
   have i29:(decide (i.toNat<(us o).length))=true ↔ (i.toNat<o.length):=(by (try rw [w28]);all_goals exact Zab)
   obtain ⟨k30,H⟩:=H
   have w31:(us o).set i.toNat (vu ((c+a.getD i.toNat default).tmod 1000000000))=us (o.set i.toNat ((c+a.getD i.toNat default).tmod 1000000000)):=(Za6 rfl rfl)
   obtain ⟨k32,H⟩:=H
   have w33:wv ((c+a.getD i.toNat default).tdiv 1000000000)=(c+a.getD i.toNat default).tdiv 1000000000:=wU32 k32
   obtain ⟨k34,H⟩:=H
   have w35:wi (i+1)=i+1:=wI64 k34
   exact Zad (G:=Zae kp140 [(11,5,.elem (vu (o.getD i.toNat default)))] []) 1000 [false] ⟨(atC (cd Tryz.f140) [1,1,1,1,0,1,0,0]),[(0,AV.vec fa 1 (us a)),(1,AV.vec fb 1 (us b)),(5,AV.row 0 0),(6,vu (wv ((wv (c+a.getD i.toNat default)).tdiv 1000000000))),(7,vi (wi (i+1)))],[⟨(us o).set i.toNat (vu ((wv (c+a.getD i.toNat default)).tmod 1000000000)),1,0,false,true⟩],_,[((us o).get?Internal i.toNat=some (vu (o.getD i.toNat default)))],_⟩ (by kernel_rfl) (bc (Zam (fun h=>d12 (i11.1 h))) (bc rfl (bc rfl (bc (Zab.2 k5) (bc (i29.2 k30) (bc rfl (bc rfl b0))))))) (qc (Zao k30) q0) c0 (by (try rw [w9]);(try rw [w31]);(try rw [w33]);(try rw [w35]);all_goals exact H)
 ·have i36:(decide (0<=(↑(us a).length:Int)))=true ↔ (0<=(↑a.length:Int)):=(by (try rw [w1]);all_goals exact Zab)
  obtain ⟨k37,H⟩:=H
  have w38:(us o).length=o.length:=List.length_map ..
  have i39:(decide ((↑(us a).length:Int).toNat<(us o).length))=true ↔ ((↑a.length:Int).toNat<o.length):=(by (try rw [w1]);(try rw [w38]);all_goals exact Zab)
  obtain ⟨k40,H⟩:=H
  have w41:(us o).set (↑a.length:Int).toNat (vu c)=us (o.set (↑a.length:Int).toNat c):=(Za6 rfl rfl)
  obtain ⟨k42,H⟩:=H
  exact Zai (G:=Zae kp140 [(13,5,.elem (vu (o.getD (↑a.length:Int).toNat default))),(14,1,.call (zNwB1 o a c) none)] []) 1000 [false] (eqs:=[((us o).get?Internal (↑(us a).length:Int).toNat=some (vu (o.getD (↑a.length:Int).toNat default)))]) (calls:=[pc 103 [vf ((us o).set (↑(us a).length:Int).toNat (vu c))] (zNwB1 o a c)]) (zNwB1 o a c) (by kernel_rfl) (bc (Zam (fun h=>d3 (i2.1 h))) (bc rfl (bc (i36.2 k37) (bc (i39.2 k40) (bc rfl (bc rfl b0)))))) (qc (by (try rw [w1]);all_goals exact (Zao k40)) q0) (ce (by (try rw [w1]);(try rw [w41]);all_goals exact (@Zd6 false (o.set (↑a.length:Int).toNat c) k42)) c0) H
theorem rMinus (fa fb:Bool) (a b:List Int)  (dq:AV) (H :
  (0<=(↑a.length:Int)) /\
  ((↑a.length:Int)*4<=1099511627776) /\
  ((↑a.length:Int)<=1099511627776) /\
  Zbm fa fb a b (List.replicate (↑a.length:Int).toNat (0:Int)) 0 0 (Zaf dq)) :
 rMinus_at fa fb a b (Zaf dq):=by
 unfold rMinus_at
 have w1:(us a).length=a.length:=List.length_map ..
 have i2:(decide (0<=(↑(us a).length:Int)))=true ↔ (0<=(↑a.length:Int)):=(by (try rw [w1]);all_goals exact Zab)
 obtain ⟨k3,H⟩:=H
 have i4:(decide ((↑(us a).length:Int)<=(↑(us a).length:Int)))=true ↔ ((↑a.length:Int)<=(↑a.length:Int)):=(by (try rw [w1]);all_goals exact Zab)
 have i5:(decide ((↑(us a).length:Int)*4<=1099511627776))=true ↔ ((↑a.length:Int)*4<=1099511627776):=(by (try rw [w1]);all_goals exact Zab)
 obtain ⟨k6,H⟩:=H
 have i7:(decide ((↑(us a).length:Int)<=1099511627776))=true ↔ ((↑a.length:Int)<=1099511627776):=(by (try rw [w1]);all_goals exact Zab)
 obtain ⟨k8,H⟩:=H
 have w9:List.replicate (↑a.length:Int).toNat (vu 0)=us (List.replicate (↑a.length:Int).toNat (0:Int)):=(Zdy rfl)
 exact Zad (G:=Zae kp139 [] []) 1000 [] ⟨(atC (cd Tryz.f139) [1,1,1,0,1,0,0]),[(0,AV.vec fa 1 (us a)),(1,AV.vec fb 1 (us b)),(5,AV.row 0 0),(6,vu 0),(7,vi 0)],[⟨List.replicate (↑(us a).length:Int).toNat (vu 0),1,0,false,true⟩],[decide (0<=(↑(us a).length:Int)),decide ((↑(us a).length:Int)<=(↑(us a).length:Int)),decide ((↑(us a).length:Int)*4<=1099511627776),decide ((↑(us a).length:Int)<=1099511627776)],[],_⟩ (by kernel_rfl) (bc (i2.2 k3) (bc (i4.2 (by omega)) (bc (i5.2 k6) (bc (i7.2 k8) b0)))) q0 c0 (by (try rw [w1]);(try rw [w9]);all_goals exact H)
theorem rMinusA (fa fb:Bool) (a b:List Int) (o:List Int) (c i:Int)  (dq:AV) (H :
  ((i<(↑a.length:Int))->(0<=i) /\
   (i.toNat<a.length) /\
   (0<=a.getD i.toNat default+1000000000/\a.getD i.toNat default+1000000000<=4294967295) /\
   (0<=a.getD i.toNat default+1000000000-c/\a.getD i.toNat default+1000000000-c<=4294967295) /\
   ((i<(↑b.length:Int))->(i.toNat<b.length) /\
    (0<=a.getD i.toNat default+1000000000-c-b.getD i.toNat default/\a.getD i.toNat default+1000000000-c-b.getD i.toNat default<=4294967295) /\
    ((a.getD i.toNat default+1000000000-c-b.getD i.toNat default>=1000000000)->(0<=a.getD i.toNat default+1000000000-c-b.getD i.toNat default-1000000000/\a.getD i.toNat default+1000000000-c-b.getD i.toNat default-1000000000<=4294967295) /\
     (i.toNat<o.length) /\
     (-9223372036854775808<=i+1/\i+1<=9223372036854775807) /\
     Zbm fa fb a b (o.set i.toNat (a.getD i.toNat default+1000000000-c-b.getD i.toNat default-1000000000)) 0 (i+1) (Zaf dq)) /\
    (¬(a.getD i.toNat default+1000000000-c-b.getD i.toNat default>=1000000000)->(i.toNat<o.length) /\
     (-9223372036854775808<=i+1/\i+1<=9223372036854775807) /\
     Zbm fa fb a b (o.set i.toNat (a.getD i.toNat default+1000000000-c-b.getD i.toNat default)) 1 (i+1) (Zaf dq))) /\
   (¬(i<(↑b.length:Int))->((a.getD i.toNat default+1000000000-c>=1000000000)->(0<=a.getD i.toNat default+1000000000-c-1000000000/\a.getD i.toNat default+1000000000-c-1000000000<=4294967295) /\
     (i.toNat<o.length) /\
     (-9223372036854775808<=i+1/\i+1<=9223372036854775807) /\
     Zbm fa fb a b (o.set i.toNat (a.getD i.toNat default+1000000000-c-1000000000)) 0 (i+1) (Zaf dq)) /\
    (¬(a.getD i.toNat default+1000000000-c>=1000000000)->(i.toNat<o.length) /\
     (-9223372036854775808<=i+1/\i+1<=9223372036854775807) /\
     Zbm fa fb a b (o.set i.toNat (a.getD i.toNat default+1000000000-c)) 1 (i+1) (Zaf dq)))) /\
  (¬(i<(↑a.length:Int))->(N.Zav o.length) /\
   Weak (vf (us (N.Zb8 o))) dq)) :
 Zbm fa fb a b o c i (Zaf dq):=by
 unfold Zbm
 have w1:(us a).length=a.length:=List.length_map ..
 have i2:(decide (i<(↑(us a).length:Int)))=true ↔ (i<(↑a.length:Int)):=(by (try rw [w1]);all_goals exact Zab)
 rcases xq H with ⟨d3,H⟩|⟨d3,H⟩
 ·obtain ⟨k5,H⟩:=H
  have i6:(decide (i.toNat<(us a).length))=true ↔ (i.toNat<a.length):=(by (try rw [w1]);all_goals exact Zab)
  obtain ⟨k7,k8,H⟩:=H
  have w9:wv (a.getD i.toNat default+1000000000)=a.getD i.toNat default+1000000000:=wU32 k8
  obtain ⟨k10,H⟩:=H
  have w11:wv (a.getD i.toNat default+1000000000-c)=a.getD i.toNat default+1000000000-c:=wU32 k10
  have w12:(us b).length=b.length:=List.length_map ..
  have i13:(decide (i<(↑(us b).length:Int)))=true ↔ (i<(↑b.length:Int)):=(by (try rw [w12]);all_goals exact Zab)
  refine Zad (G:=Zae kp139 [(6,3,.elem (vu (a.getD i.toNat default)))] []) 12 [true] ⟨(atC (cd Tryz.f139) [1,1,1,0,1,0,0,1,0,0,1,0,1]),[(0,AV.vec fa 1 (us a)),(1,AV.vec fb 1 (us b)),(5,AV.row 0 0),(7,vi i),(8,vu (wv (wv (a.getD i.toNat default+1000000000)-c))),(28,vb (decide (i<(↑(us b).length:Int))))],[⟨us o,1,0,false,true⟩],_,[((us a).get?Internal i.toNat=some (vu (a.getD i.toNat default)))],_⟩ (by kernel_rfl) (bc (Zan (i2.2 d3)) (bc (Zab.2 k5) (bc (i6.2 k7) b0))) (qc (Zao k7) q0) c0 ?_
  rcases xq H with ⟨d14,H⟩|⟨d14,H⟩
  ·have i16:(decide (i.toNat<(us b).length))=true ↔ (i.toNat<b.length):=(by (try rw [w12]);all_goals exact Zab)
   obtain ⟨k17,k18,H⟩:=H
   have w19:wv (a.getD i.toNat default+1000000000-c-b.getD i.toNat default)=a.getD i.toNat default+1000000000-c-b.getD i.toNat default:=wU32 k18
   have i20:(decide (wv (wv (wv (a.getD i.toNat default+1000000000)-c)-b.getD i.toNat default)>=1000000000))=true ↔ (a.getD i.toNat default+1000000000-c-b.getD i.toNat default>=1000000000):=(by (try rw [w9]);(try rw [w11]);(try rw [w19]);all_goals exact Zab)
   refine Zad (G:=Zae kp139 [(8,4,.elem (vu (b.getD i.toNat default)))] []) 7 [true] ⟨(atC (cd Tryz.f139) [1,1,1,0,1,0,0,1,0,0,1,1,1,0,1]),[(0,AV.vec fa 1 (us a)),(1,AV.vec fb 1 (us b)),(5,AV.row 0 0),(6,vu 1),(7,vi i),(8,vu (wv (wv (wv (a.getD i.toNat default+1000000000)-c)-b.getD i.toNat default))),(36,vb (decide (wv (wv (wv (a.getD i.toNat default+1000000000)-c)-b.getD i.toNat default)>=1000000000)))],[⟨us o,1,0,false,true⟩],_,[((us b).get?Internal i.toNat=some (vu (b.getD i.toNat default)))],_⟩ (by kernel_rfl) (bc (Zan (i13.2 d14)) (bc (Zab.2 k5) (bc (i16.2 k17) b0))) (qc (Zao k17) q0) c0 ?_
   rcases xq H with ⟨d21,H⟩|⟨d21,H⟩
   ·obtain ⟨k22,H⟩:=H
    have w23:wv (a.getD i.toNat default+1000000000-c-b.getD i.toNat default-1000000000)=a.getD i.toNat default+1000000000-c-b.getD i.toNat default-1000000000:=wU32 k22
    have w25:(us o).length=o.length:=List.length_map ..
    have i26:(decide (i.toNat<(us o).length))=true ↔ (i.toNat<o.length):=(by (try rw [w25]);all_goals exact Zab)
    obtain ⟨k27,H⟩:=H
    have w28:(us o).set i.toNat (vu (a.getD i.toNat default+1000000000-c-b.getD i.toNat default-1000000000))=us (o.set i.toNat (a.getD i.toNat default+1000000000-c-b.getD i.toNat default-1000000000)):=(Za6 rfl rfl)
    obtain ⟨k29,H⟩:=H
    have w30:wi (i+1)=i+1:=wI64 k29
    exact Zad (G:=Zae kp139 [(12,4,.elem (vu (o.getD i.toNat default)))] []) 1000 [true] ⟨(atC (cd Tryz.f139) [1,1,1,0,1,0,0]),[(0,AV.vec fa 1 (us a)),(1,AV.vec fb 1 (us b)),(5,AV.row 0 0),(6,vu 0),(7,vi (wi (i+1)))],[⟨(us o).set i.toNat (vu (wv (wv (wv (wv (a.getD i.toNat default+1000000000)-c)-b.getD i.toNat default)-1000000000))),1,0,false,true⟩],_,[((us o).get?Internal i.toNat=some (vu (o.getD i.toNat default)))],_⟩ (by kernel_rfl) (bc (Zan (i20.2 d21)) (bc rfl (bc (Zab.2 k5) (bc (i26.2 k27) (bc rfl b0))))) (qc (Zao k27) q0) c0 (by (try rw [w9]);(try rw [w11]);(try rw [w19]);(try rw [w23]);(try rw [w28]);(try rw [w30]);all_goals exact H)
   ·have w32:(us o).length=o.length:=List.length_map ..
    have i33:(decide (i.toNat<(us o).length))=true ↔ (i.toNat<o.length):=(by (try rw [w32]);all_goals exact Zab)
    obtain ⟨k34,H⟩:=H
    have w35:(us o).set i.toNat (vu (a.getD i.toNat default+1000000000-c-b.getD i.toNat default))=us (o.set i.toNat (a.getD i.toNat default+1000000000-c-b.getD i.toNat default)):=(Za6 rfl rfl)
    obtain ⟨k36,H⟩:=H
    have w37:wi (i+1)=i+1:=wI64 k36
    exact Zad (G:=Zae kp139 [(12,4,.elem (vu (o.getD i.toNat default)))] []) 1000 [false] ⟨(atC (cd Tryz.f139) [1,1,1,0,1,0,0]),[(0,AV.vec fa 1 (us a)),(1,AV.vec fb 1 (us b)),(5,AV.row 0 0),(6,vu 1),(7,vi (wi (i+1)))],[⟨(us o).set i.toNat (vu (wv (wv (wv (a.getD i.toNat default+1000000000)-c)-b.getD i.toNat default))),1,0,false,true⟩],_,[((us o).get?Internal i.toNat=some (vu (o.getD i.toNat default)))],_⟩ (by kernel_rfl) (bc (Zam (fun h=>d21 (i20.1 h))) (bc rfl (bc (Zab.2 k5) (bc (i33.2 k34) (bc rfl b0))))) (qc (Zao k34) q0) c0 (by (try rw [w9]);(try rw [w11]);(try rw [w19]);(try rw [w35]);(try rw [w37]);all_goals exact H)
  ·have i38:(decide (wv (wv (a.getD i.toNat default+1000000000)-c)>=1000000000))=true ↔ (a.getD i.toNat default+1000000000-c>=1000000000):=(by (try rw [w9]);(try rw [w11]);all_goals exact Zab)
   rcases xq H with ⟨d39,H⟩|⟨d39,H⟩
   ·obtain ⟨k40,H⟩:=H
    have w41:wv (a.getD i.toNat default+1000000000-c-1000000000)=a.getD i.toNat default+1000000000-c-1000000000:=wU32 k40
    have w43:(us o).length=o.length:=List.length_map ..
    have i44:(decide (i.toNat<(us o).length))=true ↔ (i.toNat<o.length):=(by (try rw [w43]);all_goals exact Zab)
    obtain ⟨k45,H⟩:=H
    have w46:(us o).set i.toNat (vu (a.getD i.toNat default+1000000000-c-1000000000))=us (o.set i.toNat (a.getD i.toNat default+1000000000-c-1000000000)):=(Za6 rfl rfl)
    obtain ⟨k47,H⟩:=H
    have w48:wi (i+1)=i+1:=wI64 k47
    exact Zad (G:=Zae kp139 [(12,4,.elem (vu (o.getD i.toNat default)))] []) 1000 [false,true] ⟨(atC (cd Tryz.f139) [1,1,1,0,1,0,0]),[(0,AV.vec fa 1 (us a)),(1,AV.vec fb 1 (us b)),(5,AV.row 0 0),(6,vu 0),(7,vi (wi (i+1)))],[⟨(us o).set i.toNat (vu (wv (wv (wv (a.getD i.toNat default+1000000000)-c)-1000000000))),1,0,false,true⟩],_,[((us o).get?Internal i.toNat=some (vu (o.getD i.toNat default)))],_⟩ (by kernel_rfl) (bc (Zam (fun h=>d14 (i13.1 h))) (bc (Zan (i38.2 d39)) (bc rfl (bc (Zab.2 k5) (bc (i44.2 k45) (bc rfl b0)))))) (qc (Zao k45) q0) c0 (by (try rw [w9]);(try rw [w11]);(try rw [w41]);(try rw [w46]);(try rw [w48]);all_goals exact H)
   ·have w50:(us o).length=o.length:=List.length_map ..
    have i51:(decide (i.toNat<(us o).length))=true ↔ (i.toNat<o.length):=(by (try rw [w50]);all_goals exact Zab)
    obtain ⟨k52,H⟩:=H
    have w53:(us o).set i.toNat (vu (a.getD i.toNat default+1000000000-c))=us (o.set i.toNat (a.getD i.toNat default+1000000000-c)):=(Za6 rfl rfl)
    obtain ⟨k54,H⟩:=H
    have w55:wi (i+1)=i+1:=wI64 k54
    exact Zad (G:=Zae kp139 [(12,4,.elem (vu (o.getD i.toNat default)))] []) 1000 [false,false] ⟨(atC (cd Tryz.f139) [1,1,1,0,1,0,0]),[(0,AV.vec fa 1 (us a)),(1,AV.vec fb 1 (us b)),(5,AV.row 0 0),(6,vu 1),(7,vi (wi (i+1)))],[⟨(us o).set i.toNat (vu (wv (wv (a.getD i.toNat default+1000000000)-c))),1,0,false,true⟩],_,[((us o).get?Internal i.toNat=some (vu (o.getD i.toNat default)))],_⟩ (by kernel_rfl) (bc (Zam (fun h=>d14 (i13.1 h))) (bc (Zam (fun h=>d39 (i38.1 h))) (bc rfl (bc (Zab.2 k5) (bc (i51.2 k52) (bc rfl b0)))))) (qc (Zao k52) q0) c0 (by (try rw [w9]);(try rw [w11]);(try rw [w53]);(try rw [w55]);all_goals exact H)
 ·obtain ⟨k56,H⟩:=H
  exact Zai (G:=Zae kp139 [(13,1,.call (vf (us (N.Zb8 o))) none)] []) 1000 [false] (vf (us (N.Zb8 o))) (by kernel_rfl) (bc (Zam (fun h=>d3 (i2.1 h))) (bc rfl b0)) q0 (ce (@Zd6 false o k56) c0) H
theorem rTimes (fa fb:Bool) (a b:List Int)  (dq:AV) (H :
  (-9223372036854775808<=(↑a.length:Int)+(↑b.length:Int)/\(↑a.length:Int)+(↑b.length:Int)<=9223372036854775807) /\
  (0<=(↑a.length:Int)+(↑b.length:Int)) /\
  (((↑a.length:Int)+(↑b.length:Int))*4<=1099511627776) /\
  ((↑a.length:Int)+(↑b.length:Int)<=1099511627776) /\
  Zcw fa fb a b (List.replicate ((↑a.length:Int)+(↑b.length:Int)).toNat (0:Int)) 0 (Zaf dq)) :
 rTimes_at fa fb a b (Zaf dq):=by
 unfold rTimes_at
 have w1:(us a).length=a.length:=List.length_map ..
 have w2:(us b).length=b.length:=List.length_map ..
 obtain ⟨k3,H⟩:=H
 have w4:wi ((↑a.length:Int)+(↑b.length:Int))=(↑a.length:Int)+(↑b.length:Int):=wI64 k3
 have i5:(decide (0<=wi ((↑(us a).length:Int)+(↑(us b).length:Int))))=true ↔ (0<=(↑a.length:Int)+(↑b.length:Int)):=(by (try rw [w1]);(try rw [w2]);(try rw [w4]);all_goals exact Zab)
 obtain ⟨k6,H⟩:=H
 have i7:(decide (wi ((↑(us a).length:Int)+(↑(us b).length:Int))<=wi ((↑(us a).length:Int)+(↑(us b).length:Int))))=true ↔ ((↑a.length:Int)+(↑b.length:Int)<=(↑a.length:Int)+(↑b.length:Int)):=(by (try rw [w1]);(try rw [w2]);(try rw [w4]);all_goals exact Zab)
 have i8:(decide (wi ((↑(us a).length:Int)+(↑(us b).length:Int))*4<=1099511627776))=true ↔ (((↑a.length:Int)+(↑b.length:Int))*4<=1099511627776):=(by (try rw [w1]);(try rw [w2]);(try rw [w4]);all_goals exact Zab)
 obtain ⟨k9,H⟩:=H
 have i10:(decide (wi ((↑(us a).length:Int)+(↑(us b).length:Int))<=1099511627776))=true ↔ ((↑a.length:Int)+(↑b.length:Int)<=1099511627776):=(by (try rw [w1]);(try rw [w2]);(try rw [w4]);all_goals exact Zab)
 obtain ⟨k11,H⟩:=H
 have w12:List.replicate ((↑a.length:Int)+(↑b.length:Int)).toNat (vu 0)=us (List.replicate ((↑a.length:Int)+(↑b.length:Int)).toNat (0:Int)):=(Zdy rfl)
 exact Zad (G:=Zae kp83 [] []) 1000 [] ⟨(atC (cd Tryz.f83) [1,1,0,1,0,0]),[(0,AV.vec fa 1 (us a)),(1,AV.vec fb 1 (us b)),(5,AV.row 0 0),(6,vi 0)],[⟨List.replicate (wi ((↑(us a).length:Int)+(↑(us b).length:Int))).toNat (vu 0),1,0,false,true⟩],[decide (0<=wi ((↑(us a).length:Int)+(↑(us b).length:Int))),decide (wi ((↑(us a).length:Int)+(↑(us b).length:Int))<=wi ((↑(us a).length:Int)+(↑(us b).length:Int))),decide (wi ((↑(us a).length:Int)+(↑(us b).length:Int))*4<=1099511627776),decide (wi ((↑(us a).length:Int)+(↑(us b).length:Int))<=1099511627776)],[],_⟩ (by kernel_rfl) (bc (i5.2 k6) (bc (i7.2 (by omega)) (bc (i8.2 k9) (bc (i10.2 k11) b0)))) q0 c0 (by (try rw [w1]);(try rw [w2]);(try rw [w4]);(try rw [w12]);all_goals exact H)
theorem rTimesA (fa fb:Bool) (a b:List Int) (o:List Int) (i:Int)  (dq:AV) (H :
  ((i<(↑a.length:Int))->Zcv fa fb a b o i 0 0 (Zaf dq)) /\
  (¬(i<(↑a.length:Int))->(N.Zav o.length) /\
   Weak (vf (us (N.Zb8 o))) dq)) :
 Zcw fa fb a b o i (Zaf dq):=by
 unfold Zcw
 have w1:(us a).length=a.length:=List.length_map ..
 have i2:(decide (i<(↑(us a).length:Int)))=true ↔ (i<(↑a.length:Int)):=(by (try rw [w1]);all_goals exact Zab)
 rcases xq H with ⟨d3,H⟩|⟨d3,H⟩
 ·exact Zad (G:=Zae kp83 [] []) 1000 [true] ⟨(atC (cd Tryz.f83) [1,1,0,1,0,0,1,0,0,1,0,1,0,0]),[(0,AV.vec fa 1 (us a)),(1,AV.vec fb 1 (us b)),(5,AV.row 0 0),(6,vi i),(7,vw 0),(8,vi 0)],[⟨us o,1,0,false,true⟩],_,[],_⟩ (by kernel_rfl) (bc (Zan (i2.2 d3)) b0) q0 c0 H
 ·obtain ⟨k4,H⟩:=H
  exact Zai (G:=Zae kp83 [(13,1,.call (vf (us (N.Zb8 o))) none)] []) 1000 [false] (vf (us (N.Zb8 o))) (by kernel_rfl) (bc (Zam (fun h=>d3 (i2.1 h))) (bc rfl b0)) q0 (ce (@Zd6 false o k4) c0) H
theorem rTimesB (fa fb:Bool) (a b:List Int) (o:List Int) (i c k:Int)  (dq:AV) (H :
  ((k<(↑b.length:Int))->(-9223372036854775808<=i+k/\i+k<=9223372036854775807) /\
   (0<=i+k) /\
   ((i+k).toNat<o.length) /\
   (0<=i) /\
   (i.toNat<a.length) /\
   (0<=k) /\
   (k.toNat<b.length) /\
   (0<=o.getD (i+k).toNat default/\o.getD (i+k).toNat default<=18446744073709551615) /\
   (0<=c+o.getD (i+k).toNat default/\c+o.getD (i+k).toNat default<=18446744073709551615) /\
   (0<=a.getD i.toNat default/\a.getD i.toNat default<=18446744073709551615) /\
   (0<=b.getD k.toNat default/\b.getD k.toNat default<=18446744073709551615) /\
   (0<=a.getD i.toNat default*b.getD k.toNat default/\a.getD i.toNat default*b.getD k.toNat default<=18446744073709551615) /\
   (0<=c+o.getD (i+k).toNat default+a.getD i.toNat default*b.getD k.toNat default/\c+o.getD (i+k).toNat default+a.getD i.toNat default*b.getD k.toNat default<=18446744073709551615) /\
   (0<=(c+o.getD (i+k).toNat default+a.getD i.toNat default*b.getD k.toNat default).tmod 1000000000/\(c+o.getD (i+k).toNat default+a.getD i.toNat default*b.getD k.toNat default).tmod 1000000000<=4294967295) /\
   (0<=(c+o.getD (i+k).toNat default+a.getD i.toNat default*b.getD k.toNat default).tdiv 1000000000/\(c+o.getD (i+k).toNat default+a.getD i.toNat default*b.getD k.toNat default).tdiv 1000000000<=18446744073709551615) /\
   (-9223372036854775808<=k+1/\k+1<=9223372036854775807) /\
   Zcv fa fb a b (o.set (i+k).toNat ((c+o.getD (i+k).toNat default+a.getD i.toNat default*b.getD k.toNat default).tmod 1000000000)) i ((c+o.getD (i+k).toNat default+a.getD i.toNat default*b.getD k.toNat default).tdiv 1000000000) (k+1) (Zaf dq)) /\
  (¬(k<(↑b.length:Int))->(-9223372036854775808<=i+(↑b.length:Int)/\i+(↑b.length:Int)<=9223372036854775807) /\
   (0<=i+(↑b.length:Int)) /\
   ((i+(↑b.length:Int)).toNat<o.length) /\
   (0<=c/\c<=4294967295) /\
   (-9223372036854775808<=i+1/\i+1<=9223372036854775807) /\
   Zcw fa fb a b (o.set (i+(↑b.length:Int)).toNat c) (i+1) (Zaf dq))) :
 Zcv fa fb a b o i c k (Zaf dq):=by
 unfold Zcv
 have w1:(us b).length=b.length:=List.length_map ..
 have i2:(decide (k<(↑(us b).length:Int)))=true ↔ (k<(↑b.length:Int)):=(by (try rw [w1]);all_goals exact Zab)
 rcases xq H with ⟨d3,H⟩|⟨d3,H⟩
 ·obtain ⟨k4,H⟩:=H
  have w5:wi (i+k)=i+k:=wI64 k4
  have i6:(decide (0<=wi (i+k)))=true ↔ (0<=i+k):=(by (try rw [w5]);all_goals exact Zab)
  obtain ⟨k7,H⟩:=H
  have w8:(us o).length=o.length:=List.length_map ..
  have i9:(decide ((wi (i+k)).toNat<(us o).length))=true ↔ ((i+k).toNat<o.length):=(by (try rw [w5]);(try rw [w8]);all_goals exact Zab)
  obtain ⟨k10,k12,H⟩:=H
  have w13:(us a).length=a.length:=List.length_map ..
  have i14:(decide (i.toNat<(us a).length))=true ↔ (i.toNat<a.length):=(by (try rw [w13]);all_goals exact Zab)
  obtain ⟨k15,k17,H⟩:=H
  have i18:(decide (k.toNat<(us b).length))=true ↔ (k.toNat<b.length):=(by (try rw [w1]);all_goals exact Zab)
  obtain ⟨k19,k20,H⟩:=H
  have w21:wu (o.getD (i+k).toNat default)=o.getD (i+k).toNat default:=wU64 k20
  obtain ⟨k22,H⟩:=H
  have w23:wu (c+o.getD (i+k).toNat default)=c+o.getD (i+k).toNat default:=wU64 k22
  obtain ⟨k24,H⟩:=H
  have w25:wu (a.getD i.toNat default)=a.getD i.toNat default:=wU64 k24
  obtain ⟨k26,H⟩:=H
  have w27:wu (b.getD k.toNat default)=b.getD k.toNat default:=wU64 k26
  obtain ⟨k28,H⟩:=H
  have w29:wu (a.getD i.toNat default*b.getD k.toNat default)=a.getD i.toNat default*b.getD k.toNat default:=wU64 k28
  obtain ⟨k30,H⟩:=H
  have w31:wu (c+o.getD (i+k).toNat default+a.getD i.toNat default*b.getD k.toNat default)=c+o.getD (i+k).toNat default+a.getD i.toNat default*b.getD k.toNat default:=wU64 k30
  have i32:(decide (0<=wi (i+k)))=true ↔ (0<=i+k):=(by (try rw [w5]);all_goals exact Zab)
  have i33:(decide ((wi (i+k)).toNat<(us o).length))=true ↔ ((i+k).toNat<o.length):=(by (try rw [w5]);(try rw [w8]);all_goals exact Zab)
  obtain ⟨k34,H⟩:=H
  have w35:wv ((c+o.getD (i+k).toNat default+a.getD i.toNat default*b.getD k.toNat default).tmod 1000000000)=(c+o.getD (i+k).toNat default+a.getD i.toNat default*b.getD k.toNat default).tmod 1000000000:=wU32 k34
  have w36:(us o).set (i+k).toNat (vu ((c+o.getD (i+k).toNat default+a.getD i.toNat default*b.getD k.toNat default).tmod 1000000000))=us (o.set (i+k).toNat ((c+o.getD (i+k).toNat default+a.getD i.toNat default*b.getD k.toNat default).tmod 1000000000)):=(Za6 rfl rfl)
  obtain ⟨k37,H⟩:=H
  have w38:wu ((c+o.getD (i+k).toNat default+a.getD i.toNat default*b.getD k.toNat default).tdiv 1000000000)=(c+o.getD (i+k).toNat default+a.getD i.toNat default*b.getD k.toNat default).tdiv 1000000000:=wU64 k37
  obtain ⟨k39,H⟩:=H
  have w40:wi (k+1)=k+1:=wI64 k39
  exact Zad (G:=Zae kp83 [(9,6,.elem (vu (o.getD (i+k).toNat default))),(9,12,.elem (vu (a.getD i.toNat default))),(9,17,.elem (vu (b.getD k.toNat default))),(10,8,.elem (vu (o.getD (i+k).toNat default)))] []) 1000 [true] ⟨(atC (cd Tryz.f83) [1,1,0,1,0,0,1,0,0,1,0,1,0,0]),[(0,AV.vec fa 1 (us a)),(1,AV.vec fb 1 (us b)),(5,AV.row 0 0),(6,vi i),(7,vw (wu ((wu (wu (c+wu (o.getD (i+k).toNat default))+wu (wu (a.getD i.toNat default)*wu (b.getD k.toNat default)))).tdiv 1000000000))),(8,vi (wi (k+1)))],[⟨(us o).set (wi (i+k)).toNat (vu (wv ((wu (wu (c+wu (o.getD (i+k).toNat default))+wu (wu (a.getD i.toNat default)*wu (b.getD k.toNat default)))).tmod 1000000000))),1,0,false,true⟩],_,[((us o).get?Internal (wi (i+k)).toNat=some (vu (o.getD (i+k).toNat default))),((us a).get?Internal i.toNat=some (vu (a.getD i.toNat default))),((us b).get?Internal k.toNat=some (vu (b.getD k.toNat default))),((us o).get?Internal (wi (i+k)).toNat=some (vu (o.getD (i+k).toNat default)))],_⟩ (by kernel_rfl) (bc (Zan (i2.2 d3)) (bc rfl (bc (i6.2 k7) (bc (i9.2 k10) (bc rfl (bc (Zab.2 k12) (bc (i14.2 k15) (bc (Zab.2 k17) (bc (i18.2 k19) (bc rfl (bc rfl (bc (i32.2 k7) (bc (i33.2 k10) (bc rfl (bc rfl b0))))))))))))))) (qc (by (try rw [w5]);all_goals exact (Zao k10)) (qc (Zao k15) (qc (Zao k19) (qc (by (try rw [w5]);all_goals exact (Zao k10)) q0)))) c0 (by (try rw [w5]);(try rw [w21]);(try rw [w23]);(try rw [w25]);(try rw [w27]);(try rw [w29]);(try rw [w31]);(try rw [w35]);(try rw [w36]);(try rw [w38]);(try rw [w40]);all_goals exact H)
 ·obtain ⟨k41,H⟩:=H
  have w42:wi (i+(↑b.length:Int))=i+(↑b.length:Int):=wI64 k41
  have i43:(decide (0<=wi (i+(↑(us b).length:Int))))=true ↔ (0<=i+(↑b.length:Int)):=(by (try rw [w1]);(try rw [w42]);all_goals exact Zab)
  obtain ⟨k44,H⟩:=H
  have w45:(us o).length=o.length:=List.length_map ..
  have i46:(decide ((wi (i+(↑(us b).length:Int))).toNat<(us o).length))=true ↔ ((i+(↑b.length:Int)).toNat<o.length):=(by (try rw [w1]);(try rw [w42]);(try rw [w45]);all_goals exact Zab)
  obtain ⟨k47,k48,H⟩:=H
  have w49:wv c=c:=wU32 k48
  have w50:(us o).set (i+(↑b.length:Int)).toNat (vu c)=us (o.set (i+(↑b.length:Int)).toNat c):=(Za6 rfl rfl)
  obtain ⟨k51,H⟩:=H
  have w52:wi (i+1)=i+1:=wI64 k51
  exact Zad (G:=Zae kp83 [(12,8,.elem (vu (o.getD (i+(↑b.length:Int)).toNat default)))] []) 1000 [false] ⟨(atC (cd Tryz.f83) [1,1,0,1,0,0]),[(0,AV.vec fa 1 (us a)),(1,AV.vec fb 1 (us b)),(5,AV.row 0 0),(6,vi (wi (i+1)))],[⟨(us o).set (wi (i+(↑(us b).length:Int))).toNat (vu (wv c)),1,0,false,true⟩],_,[((us o).get?Internal (wi (i+(↑(us b).length:Int))).toNat=some (vu (o.getD (i+(↑b.length:Int)).toNat default)))],_⟩ (by kernel_rfl) (bc (Zam (fun h=>d3 (i2.1 h))) (bc rfl (bc (i43.2 k44) (bc (i46.2 k47) (bc rfl b0))))) (qc (by (try rw [w1]);(try rw [w42]);all_goals exact (Zao k47)) q0) c0 (by (try rw [w1]);(try rw [w42]);(try rw [w49]);(try rw [w50]);(try rw [w52]);all_goals exact H)
end Go.Av

namespace Go.Av
open Go.Proofs
theorem big_lim (f s:Bool) (v:Nat):bigA f (N.sg s v) = .agg [.bool (bif s then decide (((N.lim v).length:Int)>0) else false),.vec f 1 ((N.lim v).map (.int .u32))]:=by
 rw [big_sg]
 have hc:=Zay (v:=v)
 have e:decide (v ≠ 0)=decide (((N.lim v).length:Int)>0):=by
  rw [decide_eq_decide,ZaF];omega
 rw [e]
theorem rsignedN (s fa:Bool) (k v:Nat) (h:N.Zav k/\N.fits k v):Ev M1 (.pure 82 [.bool s,usA fa (N.Zar k v)]) (bigA false (N.sg s v)) []:=by
 refine call82 (rSigned _ _ _ _ _ ⟨h,?_⟩)
 rw [big_lim];exact .refl _
theorem ev82_a (s fa:Bool) (v:Int) (h:N.ok v):Ev M1 (.pure 82 [.bool s,usA fa (N.Zac v)]) (bigA false (N.sg s v.natAbs)) []:=rsignedN s fa _ _ ⟨h,Zah _⟩
theorem ZdX (s fa:Bool) (v:Nat) (h:N.Zav (N.cnt v)):Ev M1 (.pure 82 [.bool s,usA fa (N.lim v)]) (bigA false (N.sg s v)) []:=rsignedN s fa _ _ ⟨h,Zah _⟩
theorem cnt_u64 {u:Nat} (h:u<=18446744073709551615):N.cnt u<=3:=Zaw.1 (fits3 h)
theorem ev70 (n:Int) (h:N.inI n):Ev M1 (.pure 70 [.int .i64 n]) (bigA false n) []:=by
 unfold N.inI at h
 refine call70 (rFromInt64 n _ ⟨fun k => ?_,fun k => ?_⟩)
 ·have e1:IntKind.u64.wrap (0-IntKind.u64.wrap n) = -n:=by
   rw [wrap_neg ⟨h.1,k⟩]
   have e1:(2:Int) ^ IntKind.u64.bits=18446744073709551616:=rfl
   have e3:IntKind.u64.signed=false:=rfl
   simp only [IntKind.wrap,e1,e3,Bool.false_and,Bool.false_eq_true,if_false]
   omega
  have e2:N.sg true (-n).toNat=n:=by unfold N.sg;rw [if_pos rfl];omega
  rw [e1]
  have:=ZdX true false (-n).toNat (by have:=cnt_u64 (u:=(-n).toNat) (by omega);unfold N.Zav;omega)
  rw [e2] at this
  exact ⟨by omega,_,_,this,.refl _⟩
 ·have e1:IntKind.u64.wrap n=n:=wU64 ⟨by omega,by omega⟩
  have e2:N.sg false n.toNat=n:=by rw [ZbZ];omega
  rw [e1]
  have:=ZdX false false n.toNat (by have:=cnt_u64 (u:=n.toNat) (by omega);unfold N.Zav;omega)
  rw [e2] at this
  exact ⟨by omega,_,_,this,.refl _⟩
theorem ZbR {k v:Nat} (h:N.fits k v):N.Zb8 (N.Zar k v)=N.lim v:=by
 unfold N.Zb8
 rw [Zaj];exact ZeL k v h
theorem set_last {o:List Int} {n:Nat} {c:Int} (h:o.length=n+1):o.set n c=o.take n++[c]:=by
 have:=ZaT (o:=o) (i:=n) (d:=c) (by omega)
 rwa [List.take_of_length_le (by simp;omega)] at this
theorem Zf4 {fa fb:Bool} {n m v w:Nat} {R:List Int} (hn:n<=900000) (hmn:m<=n) (hv:N.fits n v) (hw:N.fits m w):∀ (k i:Nat) (o:List Int) (c:Nat),i+k=n->c<=1->o.length=n+1 ->
  o.take i++N.Zar (k+1) (v / 1000000000 ^ i+w / 1000000000 ^ i+c)=R->Zb9 fa fb (N.Zar n v) (N.Zar m w) o c i (Zaf (usA false (N.Zb8 R)))
 | 0,i,o,c,hi,hc,hol,hq=>by
  have hi:i=n:=by omega
  subst hi
  rw [ZaC hv (by omega),ZaC hw (by omega)] at hq
  have e:N.Zar 1 (0+0+c)=[(c:Int)]:=by simp [N.Zar];omega
  rw [Nat.zero_add,e,<- set_last hol] at hq
  refine rPlusA _ _ _ _ _ _ _ _ ⟨fun h=>by rw [Zaj] at h;omega,fun _ => ?_⟩
  rw [Zaj,Int.toNat_natCast,hq]
  have hR:R.length=i+1:=by rw [<- hq];simpa using hol
  exact ⟨by omega,by omega,by unfold N.Zav;omega,.refl _⟩
 | k+1,i,o,c,hi,hc,hol,hq=>by
  have gx:=Zat v (show i<n by omega)
  rw [plus_step,ZaY,ZaY] at hq
  have nxt:∀ (d c':Int),d=(((v / 1000000000 ^ i % 1000000000+w / 1000000000 ^ i % 1000000000+c) % 1000000000:Nat):Int)->c'=(((v / 1000000000 ^ i % 1000000000+w / 1000000000 ^ i % 1000000000+c) / 1000000000:Nat):Int)->(v / 1000000000 ^ i % 1000000000+w / 1000000000 ^ i % 1000000000+c) / 1000000000<=1->Zb9 fa fb (N.Zar n v) (N.Zar m w) (o.set i d) c' ((i:Int)+1) (Zaf (usA false (N.Zb8 R))):=by
   intro d c' hd hc' hc1
   subst hc'
   refine Zf4 hn hmn hv hw k (i+1) (o.set i d) _ (by omega) hc1 (by simpa using hol) ?_
   rw [ZaT (by omega),<- hq,hd,List.append_assoc];rfl
  refine rPlusA _ _ _ _ _ _ _ _ ⟨fun _ => ?_,fun h=>by rw [Zaj] at h;omega⟩
  rw [Int.toNat_natCast,gx,Zaj,Zaj]
  by_cases him:i<m
  ·rw [Zat w him]
   generalize v / 1000000000 ^ i=V at nxt
   generalize w / 1000000000 ^ i=W at nxt
   have e3:(c:Int)+((V % 1000000000:Nat):Int)+((W % 1000000000:Nat):Int)=((V % 1000000000+W % 1000000000+c:Nat):Int):=by omega
   rw [e3,tdivB,tmodB]
   exact ⟨by omega,by omega,by omega,fun _=>⟨by omega,by omega,by omega,by omega,by omega,nxt _ _ rfl rfl (by omega)⟩,fun h=>by omega⟩
  ·have hW:=ZaC hw (show m<=i by omega)
   rw [hW] at nxt
   generalize v / 1000000000 ^ i=V at nxt
   have e3:(c:Int)+((V % 1000000000:Nat):Int)=((V % 1000000000+0 % 1000000000+c:Nat):Int):=by omega
   rw [e3,tdivB,tmodB]
   exact ⟨by omega,by omega,by omega,fun h=>by omega,fun _=>⟨by omega,by omega,by omega,nxt _ _ rfl rfl (by omega)⟩⟩
theorem rplusN (fa fb:Bool) (v w:Nat) (h1:N.cnt v<=900000) (h2:N.cnt w<=900000):Ev M1 (.pure 140 [usA fa (N.lim v),usA fb (N.lim w)]) (usA false (N.lim (v+w))) []:=by
 refine call140 (rPlus _ _ _ _ _ ?_)
 rw [ZaF,ZaF]
 refine ⟨fun k=>⟨by omega,by omega,by omega,by omega,?_⟩,fun k=>⟨by omega,by omega,by omega,by omega,?_⟩⟩
 ·have hf:N.fits (N.cnt w+1) (w+v):=ZeF (Zah w) (ZaN (Zah v) (by omega))
  have e:((N.cnt w:Int)+1).toNat=N.cnt w+1:=by omega
  have:=Zf4 (fa:=fb) (fb:=fa) (v:=w) (w:=v) (R:=N.Zar (N.cnt w+1) (w+v)) h2 (show N.cnt v<=N.cnt w by omega) (Zah _) (Zah _) (N.cnt w) 0 (List.replicate (N.cnt w+1) 0) 0 (by omega) (by omega) (by simp) (by simp)
  rw [ZbR hf,Nat.add_comm w v] at this
  rw [e];exact this
 ·have hf:N.fits (N.cnt v+1) (v+w):=ZeF (Zah v) (ZaN (Zah w) (by omega))
  have e:((N.cnt v:Int)+1).toNat=N.cnt v+1:=by omega
  have:=Zf4 (fa:=fa) (fb:=fb) (v:=v) (w:=w) (R:=N.Zar (N.cnt v+1) (v+w)) h1 (show N.cnt w<=N.cnt v by omega) (Zah _) (Zah _) (N.cnt v) 0 (List.replicate (N.cnt v+1) 0) 0 (by omega) (by omega) (by simp) (by simp)
  rw [ZbR hf] at this
  rw [e];exact this
theorem ev140 (fa fb:Bool) (v w:Int) (h:N.okB v/\N.okB w):Ev M1 (.pure 140 [usA fa (N.Zac v),usA fb (N.Zac w)]) (usA false (N.lim (v.natAbs+w.natAbs))) []:=
 rplusN fa fb _ _ (by have:=h.1;unfold N.okB at this;omega) (by have:=h.2;unfold N.okB at this;omega)
theorem ZeT {fa fb:Bool} {n m v w:Nat} {R:List Int} (hn:n<=1000000) (hv:N.fits n v) (hw:N.fits m w) (hm:m<=1000000):∀ (k i:Nat) (o:List Int) (c:Nat),i+k=n->c<=1->o.length=n->w / 1000000000 ^ i+c<=v / 1000000000 ^ i ->
  o.take i++N.Zar k (v / 1000000000 ^ i-w / 1000000000 ^ i-c)=R->Zbm fa fb (N.Zar n v) (N.Zar m w) o c i (Zaf (usA false (N.Zb8 R)))
 | 0,i,o,c,hi,hc,hol,hle,hq=>by
  rw [List.take_of_length_le (by omega),N.Zar,List.append_nil] at hq
  refine rMinusA _ _ _ _ _ _ _ _ ⟨fun h=>by rw [Zaj] at h;omega,fun _ => ?_⟩
  rw [hq]
  rw [hq] at hol
  exact ⟨by unfold N.Zav;omega,.refl _⟩
 | k+1,i,o,c,hi,hc,hol,hle,hq=>by
  have gx:=Zat v (show i<n by omega)
  obtain ⟨s1,s2⟩:=Zg9 k (v / 1000000000 ^ i) (w / 1000000000 ^ i) c hle hc
  rw [ZaY,ZaY] at s1 s2
  have nxt1:v / 1000000000 ^ i % 1000000000<w / 1000000000 ^ i % 1000000000+c -> ∀ d:Int,((v / 1000000000 ^ i % 1000000000+1000000000-(w / 1000000000 ^ i % 1000000000+c):Nat):Int)=d->Zbm fa fb (N.Zar n v) (N.Zar m w) (o.set i d) (1:Nat) ((i:Int)+1) (Zaf (usA false (N.Zb8 R))):=by
   intro hlt d hd
   obtain ⟨t1,t2⟩:=s1 hlt
   refine ZeT hn hv hw hm k (i+1) (o.set i d) 1 (by omega) (by omega) (by simpa using hol) t2 ?_
   rw [ZaT (by omega),<- hq,t1,hd,List.append_assoc];rfl
  have nxt0:¬v / 1000000000 ^ i % 1000000000<w / 1000000000 ^ i % 1000000000+c -> ∀ d:Int,((v / 1000000000 ^ i % 1000000000-(w / 1000000000 ^ i % 1000000000+c):Nat):Int)=d->Zbm fa fb (N.Zar n v) (N.Zar m w) (o.set i d) (0:Nat) ((i:Int)+1) (Zaf (usA false (N.Zb8 R))):=by
   intro hlt d hd
   obtain ⟨t1,t2⟩:=s2 hlt
   refine ZeT hn hv hw hm k (i+1) (o.set i d) 0 (by omega) (by omega) (by simpa using hol) t2 ?_
   rw [ZaT (by omega),<- hq,t1,hd,List.append_assoc];rfl
  refine rMinusA _ _ _ _ _ _ _ _ ⟨fun _ => ?_,fun h=>by rw [Zaj] at h;omega⟩
  rw [Int.toNat_natCast,gx,Zaj,Zaj]
  by_cases him:i<m
  ·rw [Zat w him]
   generalize v / 1000000000 ^ i=V at nxt0 nxt1
   generalize w / 1000000000 ^ i=W at nxt0 nxt1
   exact ⟨by omega,by omega,by omega,by omega,fun _=>⟨by omega,by omega,fun h=>⟨by omega,by omega,by omega,nxt0 (by omega) _ (by omega)⟩,fun h=>⟨by omega,by omega,nxt1 (by omega) _ (by omega)⟩⟩,fun h=>by omega⟩
  ·have hW:=ZaC hw (show m<=i by omega)
   rw [hW] at nxt0 nxt1
   generalize v / 1000000000 ^ i=V at nxt0 nxt1
   exact ⟨by omega,by omega,by omega,by omega,fun h=>by omega,fun _=>⟨fun h=>⟨by omega,by omega,by omega,nxt0 (by omega) _ (by omega)⟩,fun h=>⟨by omega,by omega,nxt1 (by omega) _ (by omega)⟩⟩⟩
theorem rminusN (fa fb:Bool) (v w:Nat) (h1:N.cnt v<=1000000) (h3:w<=v):Ev M1 (.pure 139 [usA fa (N.lim v),usA fb (N.lim w)]) (usA false (N.lim (v-w))) []:=by
 have h2:=ZaK h3
 refine call139 (rMinus _ _ _ _ _ ?_)
 rw [ZaF,Int.toNat_natCast]
 refine ⟨by omega,by omega,by omega,?_⟩
 have:=ZeT (fa:=fa) (fb:=fb) (v:=v) (w:=w) (R:=N.Zar (N.cnt v) (v-w)) h1 (Zah _) (Zah w) (by omega) (N.cnt v) 0 (List.replicate (N.cnt v) 0) 0 (by omega) (by omega) (by simp) (by simpa using h3) (by simp)
 rw [ZbR (ZcF (Zah v) (Nat.sub_le _ _))] at this
 exact this
theorem ev139 (fa fb:Bool) (v w:Int) (h:N.ok v/\w.natAbs<=v.natAbs):Ev M1 (.pure 139 [usA fa (N.Zac v),usA fb (N.Zac w)]) (usA false (N.lim (v.natAbs-w.natAbs))) []:=rminusN fa fb _ _ h.1 h.2
theorem ev139_a (fa fb:Bool) (v w:Nat) (h:N.Zav (N.cnt v)/\w<=v):Ev M1 (.pure 139 [usA fa (N.lim v),usA fb (N.lim w)]) (usA false (N.lim (v-w))) []:=rminusN fa fb _ _ h.1 h.2
theorem Zf2 {fa fb:Bool} {n v m w i K:Nat} {Q0:List Int} {Q:AV} (hm:m<=1000000) (hn:n<=1000000) (hi:i<n) (hK:K<=1000000) (hw:N.fits m w)
  (hq:∀ o:List Int,o=Q0++N.zs K->Zcw fa fb (N.Zar n v) (N.Zar m w) o ((i:Int)+1) (Zaf Q)) :
  ∀ (r j:Nat) (o:List Int) (U c:Nat),j+r=m->o.length=i+m+1+K->c<1000000000->N.fits r U->o.drop (i+j)=N.Zar r U++N.zs (K+1)->o.take (i+j)++N.Zar (r+1) (U+v / 1000000000 ^ i % 1000000000*(w / 1000000000 ^ j)+c)=Q0 ->
   Zcv fa fb (N.Zar n v) (N.Zar m w) o i c j (Zaf Q)
 | 0,j,o,U,c,hj,hol,hc,hU,ho,hQ=>by
  have hU0:=Za9.1 hU
  have hj':j=m:=by omega
  subst hj'
  rw [ZaC hw (Nat.le_refl _),hU0,Nat.mul_zero] at hQ
  have e:N.Zar 1 (0+0+c)=[(c:Int)]:=by simp [N.Zar];omega
  rw [Nat.zero_add,e] at hQ
  rw [hU0,N.Zar,List.nil_append] at ho
  refine rTimesB _ _ _ _ _ _ _ _ _ ⟨fun h=>by rw [Zaj] at h;omega,fun _ => ?_⟩
  rw [Zaj]
  have e1:((i:Int)+(j:Int)).toNat=i+j:=by omega
  rw [e1]
  refine ⟨by omega,by omega,by omega,by omega,by omega,hq _ ?_⟩
  have ho2:o.drop (i+j+1)=N.zs K:=by
   rw [show i+j+1=1+(i+j) by omega,Nat.add_comm 1,<- List.drop_drop,ho];rfl
  rw [<- hQ,<- ho2]
  rw [List.set_eq_take_append_cons_drop,if_pos (by omega),List.append_assoc];rfl
 | r+1,j,o,U,c,hj,hol,hc,hU,ho,hQ=>by
  have gx:=Zat v hi
  have gy:=Zat w (show j<m by omega)
  have hx:v / 1000000000 ^ i % 1000000000<1000000000:=Nat.mod_lt _ (by omega)
  have e1:((i:Int)+(j:Int)).toNat=i+j:=by omega
  have hod:=Zbu (d:=o) (i:=i+j) (by omega)
  rw [ho,Zax,List.cons_append] at hod
  obtain ⟨g1,g2⟩:=List.cons.inj hod
  have hu:U % 1000000000<1000000000:=Nat.mod_lt _ (by omega)
  have hy:w / 1000000000 ^ j % 1000000000<1000000000:=Nat.mod_lt _ (by omega)
  obtain ⟨w1,w2⟩:=ZgV hu hx hy hc
  rw [ZgW,ZaY] at hQ
  refine rTimesB _ _ _ _ _ _ _ _ _ ⟨fun _ => ?_,fun h=>by rw [Zaj] at h;omega⟩
  rw [Int.toNat_natCast,Int.toNat_natCast,e1,gy,gx,Zaj,Zaj,<- g1]
  have c1:((v / 1000000000 ^ i % 1000000000:Nat):Int)*((w / 1000000000 ^ j % 1000000000:Nat):Int)=((v / 1000000000 ^ i % 1000000000*(w / 1000000000 ^ j % 1000000000):Nat):Int):=(Int.natCast_mul _ _).symm
  rw [c1]
  have main:∀ d c':Int,d=(((U % 1000000000+v / 1000000000 ^ i % 1000000000*(w / 1000000000 ^ j % 1000000000)+c) % 1000000000:Nat):Int)->c'=(((U % 1000000000+v / 1000000000 ^ i % 1000000000*(w / 1000000000 ^ j % 1000000000)+c) / 1000000000:Nat):Int) ->
    Zcv fa fb (N.Zar n v) (N.Zar m w) (o.set (i+j) d) i c' ((j:Int)+1) (Zaf Q):=by
   intro d c' hd hc'
   subst hc'
   refine Zf2 hm hn hi hK hw hq r (j+1) _ (U / 1000000000) _ (by omega) (by simpa using hol) w2 (ZbM.1 hU) ?_ ?_
   ·rw [show i+(j+1)=i+j+1 by omega,List.drop_set_of_lt (by omega),<- g2]
   ·rw [show i+(j+1)=i+j+1 by omega,ZaT (by omega),<- hQ,hd,List.append_assoc];rfl
  have hx':((v / 1000000000 ^ i % 1000000000:Nat):Int)<=18446744073709551615:=by
   generalize v / 1000000000 ^ i % 1000000000=z at hx;omega
  have hy':((w / 1000000000 ^ j % 1000000000:Nat):Int)<=18446744073709551615:=by
   generalize w / 1000000000 ^ j % 1000000000=z at hy;omega
  generalize v / 1000000000 ^ i % 1000000000*(w / 1000000000 ^ j % 1000000000)=p at w1 w2 main
  have hu':((U % 1000000000:Nat):Int)<1000000000:=by omega
  generalize U % 1000000000=u at w1 w2 main hu'
  have c2:((c:Nat):Int)+((u:Nat):Int)+((p:Nat):Int)=((u+p+c:Nat):Int):=by omega
  rw [c2,tdivB,tmodB]
  exact ⟨by omega,by omega,by omega,by omega,by omega,by omega,by omega,by omega,by omega,⟨Int.natCast_nonneg _,hx'⟩,⟨Int.natCast_nonneg _,hy'⟩,by omega,by omega,by omega,by omega,by omega,main _ _ rfl rfl⟩
theorem Zf3 {fa fb:Bool} {n m v w:Nat} {R:List Int} (hn:n<=400000) (hm:m<=400000) (hv:N.fits n v) (hw:N.fits m w) :
  ∀ (k i:Nat) (o:List Int) (U:Nat),i+k=n->o.length=n+m->N.fits m U->o.drop i=N.Zar m U++N.zs k->o.take i++N.Zar (m+k) (U+v / 1000000000 ^ i*w)=R->Zcw fa fb (N.Zar n v) (N.Zar m w) o i (Zaf (usA false (N.Zb8 R)))
 | 0,i,o,U,hi,hol,hU,ho,hR=>by
  have hi':i=n:=by omega
  subst hi'
  rw [ZaC hv (Nat.le_refl _),Nat.zero_mul,Nat.add_zero,Nat.add_zero] at hR
  have e:N.Zar m U++N.zs 0=N.Zar m U:=by simp [N.zs]
  rw [e] at ho
  rw [<- ho,List.take_append_drop] at hR
  refine rTimesA _ _ _ _ _ _ _ ⟨fun h=>by rw [Zaj] at h;omega,fun _ => ?_⟩
  rw [hR]
  rw [hR] at hol
  exact ⟨by unfold N.Zav;omega,.refl _⟩
 | k+1,i,o,U,hi,hol,hU,ho,hR=>by
  have hx:v / 1000000000 ^ i % 1000000000<1000000000:=Nat.mod_lt _ (by omega)
  refine rTimesA _ _ _ _ _ _ _ ⟨fun _ => ?_,fun h=>by rw [Zaj] at h;omega⟩
  have hf:N.fits (m+1) (U+v / 1000000000 ^ i % 1000000000*w):=fits_mul rfl hU hw hx
  have step:U+v / 1000000000 ^ i*w=U+v / 1000000000 ^ i % 1000000000*w+1000000000*(v / 1000000000 ^ (i+1)*w):=by
   have hs:=ZaS v i
   generalize v / 1000000000 ^ (i+1)=V' at hs ⊢
   generalize v / 1000000000 ^ i % 1000000000=d at hs ⊢
   rw [hs];grind
  refine Zf2 (Q0:=o.take i++N.Zar (m+1) (U+v / 1000000000 ^ i % 1000000000*w)) (K:=k) (by omega) (by omega) (by omega) (by omega) hw (fun o' ho' => ?_) m 0 o U 0 (by omega) (by omega) (by omega) hU ho (by simp)
  have hlen:(o.take i).length=i:=by rw [List.length_take];omega
  refine Zf3 hn hm hv hw k (i+1) o' ((U+v / 1000000000 ^ i % 1000000000*w) / 1000000000) (by omega) ?_ (ZbM.1 hf) ?_ ?_
  ·rw [ho']
   simp only [List.length_append,hlen,Zaj,N.zs,List.length_replicate]
   omega
  ·rw [ho',Zax]
   have e1:i+1=(o.take i++[(((U+v / 1000000000 ^ i % 1000000000*w) % 1000000000:Nat):Int)]).length:=by simp [hlen]
   rw [e1]
   have e2:o.take i++((((U+v / 1000000000 ^ i % 1000000000*w) % 1000000000:Nat):Int)::N.Zar m ((U+v / 1000000000 ^ i % 1000000000*w) / 1000000000))++N.zs k
     = (o.take i++[(((U+v / 1000000000 ^ i % 1000000000*w) % 1000000000:Nat):Int)])++(N.Zar m ((U+v / 1000000000 ^ i % 1000000000*w) / 1000000000)++N.zs k):=by simp
   rw [e2,List.drop_left]
  ·rw [<- hR,ho',Zax,show m+(k+1)=(m+k)+1 by omega,Zax (m+k)]
   have e1:i+1=(o.take i++[(((U+v / 1000000000 ^ i % 1000000000*w) % 1000000000:Nat):Int)]).length:=by simp [hlen]
   have e2:o.take i++((((U+v / 1000000000 ^ i % 1000000000*w) % 1000000000:Nat):Int)::N.Zar m ((U+v / 1000000000 ^ i % 1000000000*w) / 1000000000))++N.zs k
     = (o.take i++[(((U+v / 1000000000 ^ i % 1000000000*w) % 1000000000:Nat):Int)])++(N.Zar m ((U+v / 1000000000 ^ i % 1000000000*w) / 1000000000)++N.zs k):=by simp
   rw [e2,e1,List.take_left,List.append_assoc]
   have e3:(U+v / 1000000000 ^ i*w) % 1000000000=(U+v / 1000000000 ^ i % 1000000000*w) % 1000000000:=by rw [step];omega
   have e4:(U+v / 1000000000 ^ i*w) / 1000000000=(U+v / 1000000000 ^ i % 1000000000*w) / 1000000000+v / 1000000000 ^ (i+1)*w:=by rw [step];omega
   rw [e3,e4,<- e1];rfl
theorem rtimesN (fa fb:Bool) (n v m w:Nat) (h:n<=400000/\m<=400000/\N.fits n v/\N.fits m w):Ev M1 (.pure 83 [usA fa (N.Zar n v),usA fb (N.Zar m w)]) (usA false (N.lim (v*w))) []:=by
 obtain ⟨h1,h2,h3,h4⟩:=h
 refine call83 (rTimes _ _ _ _ _ ?_)
 rw [Zaj,Zaj]
 have e:((n:Int)+(m:Int)).toNat=n+m:=by omega
 rw [e]
 refine ⟨by omega,by omega,by omega,by omega,?_⟩
 have:=Zf3 (fa:=fa) (fb:=fb) (R:=N.Zar (n+m) (v*w)) h1 h2 h3 h4 n 0 (List.replicate (n+m) 0) 0 (by omega) (by simp) (Zaw.2 (by rw [Zbx];omega)) (by
  rw [List.drop_zero,Zf7];unfold N.zs;rw [List.replicate_append_replicate,Nat.add_comm]) (by simp [Nat.add_comm])
 rw [ZbR (ZcE h3 h4)] at this
 exact this
theorem ev83 (fa fb:Bool) (v w:Int) (h:N.okB v/\N.okB w):Ev M1 (.pure 83 [usA fa (N.Zac v),usA fb (N.Zac w)]) (usA false (N.lim (v.natAbs*w.natAbs))) []:=rtimesN fa fb _ _ _ _ ⟨h.1,h.2,Zah _,Zah _⟩
theorem ev83_a (fa fb:Bool) (v w:Nat) (h:N.okB v/\N.okB w):Ev M1 (.pure 83 [usA fa (N.lim v),usA fb (N.lim w)]) (usA false (N.lim (v*w))) []:=rtimesN fa fb _ _ _ _ ⟨h.1,h.2,Zah _,Zah _⟩
end Go.Av

namespace Go.Av
open Go.Proofs
set_option maxRecDepth 100000
def fi64:Fi:=⟨24,[.tmp 4]⟩
def kp64:List (Nat × List Nat):=[(0,[2,3]),(1,[2,3,9]),(2,[11]),(3,[4]),(4,[4]),(5,[2,3,13]),(6,[4]),(7,[4])]
def fi65:Fi:=⟨16,[.cell 4 85]⟩
def kp65:List (Nat × List Nat):=[(0,[2,3,4]),(1,[4])]
def fi111:Fi:=⟨9,[.cell 2 85]⟩
def kp111:List (Nat × List Nat):=[(0,[1,2]),(1,[2])]
def fi126:Fi:=⟨9,[.cell 4 85]⟩
def kp126:List (Nat × List Nat):=[(0,[2,3,4]),(1,[4])]
def fi127:Fi:=⟨40,[.cell 4 85]⟩
def kp127:List (Nat × List Nat):=[(0,[2,3,4]),(1,[2,3,4,9]),(2,[4]),(3,[2,3,4,23]),(4,[4]),(5,[4])]
def fi138:Fi:=⟨10,[.tmp 4]⟩
def kp138:List (Nat × List Nat):=[(0,[0,1]),(1,[4])]
def rSub_at (fa fb:Bool) (a b:Int) (Q:AV->Heap->Prop):Prop:=Wp M1 (.run fi126 (atC (cd Tryz.f126) []) [(0,bigA fa a),(1,bigA fb b)] []) Q
def rAdd_at (fa fb:Bool) (a b:Int) (Q:AV->Heap->Prop):Prop:=Wp M1 (.run fi127 (atC (cd Tryz.f127) []) [(0,bigA fa a),(1,bigA fb b)] []) Q
def rMul_at (fa fb:Bool) (a b:Int) (Q:AV->Heap->Prop):Prop:=Wp M1 (.run fi65 (atC (cd Tryz.f65) []) [(0,bigA fa a),(1,bigA fb b)] []) Q
def rNeg_at (fa:Bool) (v:Int) (Q:AV->Heap->Prop):Prop:=Wp M1 (.run fi111 (atC (cd Tryz.f111) []) [(0,bigA fa v)] []) Q
def rCmp_at (fa fb:Bool) (a b:Int) (Q:AV->Heap->Prop):Prop:=Wp M1 (.run fi64 (atC (cd Tryz.f64) []) [(0,bigA fa a),(1,bigA fb b)] []) Q
def rBy_at (fa:Bool) (v:Nat) (x:Int) (Q:AV->Heap->Prop):Prop:=Wp M1 (.run fi138 (atC (cd Tryz.f138) []) [(0,.vec fa 1 ((N.lim v).map (.int .u32))),(1,.int .u32 x)] []) Q
theorem call64 {args:List AV} {d:AV} (h:wc M1 fi64 Tryz.f64 args d):Ev M1 (.pure 64 args) d []:=pcl _ _ (by kernel_rfl) h
theorem call65 {args:List AV} {d:AV} (h:wc M1 fi65 Tryz.f65 args d):Ev M1 (.pure 65 args) d []:=pcl _ _ (by kernel_rfl) h
theorem call111 {args:List AV} {d:AV} (h:wc M1 fi111 Tryz.f111 args d):Ev M1 (.pure 111 args) d []:=pcl _ _ (by kernel_rfl) h
theorem call126 {args:List AV} {d:AV} (h:wc M1 fi126 Tryz.f126 args d):Ev M1 (.pure 126 args) d []:=pcl _ _ (by kernel_rfl) h
theorem call127 {args:List AV} {d:AV} (h:wc M1 fi127 Tryz.f127 args d):Ev M1 (.pure 127 args) d []:=pcl _ _ (by kernel_rfl) h
theorem call138 {args:List AV} {d:AV} (h:wc M1 fi138 Tryz.f138 args d):Ev M1 (.pure 138 args) d []:=pcl _ _ (by kernel_rfl) h
theorem rSub (fa fb:Bool) (a b:Int)  (dq:AV) (H :
  ∃ (b1:Bool) (l1:List Int),
  (Ev M1 (Conf.pure 111 [bigA fb b]) (ag [vb b1,vf (us l1)]) []) /\
  ∃ (b2:Bool) (l2:List Int),
  (Ev M1 (Conf.pure 127 [bigA fa a,ag [vb b1,vf (us l1)]]) (ag [vb b2,vf (us l2)]) []) /\
  Weak (ag [vb b2,vf (us l2)]) dq) :
 rSub_at fa fb a b (Zaf dq):=by
 unfold rSub_at
 obtain ⟨b1,l1,k1,b2,l2,k2,H⟩:=H
 exact Zai (G:=Zae kp126 [(1,2,.call (ag [vb b1,vf (us l1)]) none),(1,3,.call (ag [vb b2,vf (us l2)]) none)] []) 1000 [] (ag [vb b2,vf (us l2)]) (by kernel_rfl) (bc rfl (bc rfl (bc rfl b0))) q0 (ce k1 (ce k2 c0)) H
theorem rAdd (fa fb:Bool) (a b:Int)  (dq:AV) (H :
  ((N.Zaa a=N.Zaa b)->(N.okB a/\N.okB b) /\
   (N.Zav (N.cnt (a.natAbs+b.natAbs))) /\
   Weak (bigA false (N.sg (N.Zaa a) (a.natAbs+b.natAbs))) dq) /\
  (¬(N.Zaa a=N.Zaa b)->(N.ok a/\N.ok b) /\
   ((N.sgnI ((↑a.natAbs:Int)-(↑b.natAbs:Int))>=0)->(N.ok a/\b.natAbs<=a.natAbs) /\
    (N.Zav (N.cnt (a.natAbs-b.natAbs))) /\
    Weak (bigA false (N.sg (N.Zaa a) (a.natAbs-b.natAbs))) dq) /\
   (¬(N.sgnI ((↑a.natAbs:Int)-(↑b.natAbs:Int))>=0)->(N.ok b/\a.natAbs<=b.natAbs) /\
    (N.Zav (N.cnt (b.natAbs-a.natAbs))) /\
    Weak (bigA false (N.sg (N.Zaa b) (b.natAbs-a.natAbs))) dq))) :
 rAdd_at fa fb a b (Zaf dq):=by
 unfold rAdd_at
 rcases xq H with ⟨d2,H⟩|⟨d2,H⟩
 ·obtain ⟨k3,k4,H⟩:=H
  exact Zai (G:=Zae kp127 [(2,6,.call (vf (us (N.lim (a.natAbs+b.natAbs)))) none),(2,7,.call (bigA false (N.sg (N.Zaa a) (a.natAbs+b.natAbs))) none)] []) 1000 [true] (bigA false (N.sg (N.Zaa a) (a.natAbs+b.natAbs))) (by kernel_rfl) (bc rfl (bc rfl (bc (Zan (i_eq.2 d2)) (bc rfl (bc rfl (bc rfl (bc rfl b0))))))) q0 (ce (@ev140 fa fb a b k3) (ce (@ZdX (N.Zaa a) false (a.natAbs+b.natAbs) k4) c0)) H
 ·obtain ⟨k5,H⟩:=H
  refine Zad (G:=Zae kp127 [(3,4,.call (vi (N.sgnI ((↑a.natAbs:Int)-(↑b.natAbs:Int)))) none)] []) 10 [false] ⟨(atC (cd Tryz.f127) [1,1,0,1]),[(2,AV.ptr 0 0 0 0),(3,AV.ptr 1 0 0 0),(4,AV.ptr 2 0 0 0),(23,vb (decide (N.sgnI ((↑a.natAbs:Int)-(↑b.natAbs:Int))>=0)))],[⟨[bigA fa a],2,0,false,false⟩,⟨[bigA fb b],2,0,false,false⟩,⟨[ag [vb false,AV.vnil]],2,0,false,false⟩],_,[],_⟩ (by kernel_rfl) (bc rfl (bc rfl (bc (Zam (fun h=>d2 (i_eq.1 h))) (bc rfl (bc rfl b0))))) q0 (ce (@ev81 fa fb a b k5) c0) ?_
  rcases xq H with ⟨d7,H⟩|⟨d7,H⟩
  ·obtain ⟨k8,k9,H⟩:=H
   exact Zai (G:=Zae kp127 [(4,6,.call (vf (us (N.lim (a.natAbs-b.natAbs)))) none),(4,7,.call (bigA false (N.sg (N.Zaa a) (a.natAbs-b.natAbs))) none)] []) 1000 [true] (bigA false (N.sg (N.Zaa a) (a.natAbs-b.natAbs))) (by kernel_rfl) (bc (Zan (Zab.2 d7)) (bc rfl (bc rfl (bc rfl (bc rfl b0))))) q0 (ce (@ev139 fa fb a b k8) (ce (@ZdX (N.Zaa a) false (a.natAbs-b.natAbs) k9) c0)) H
  ·obtain ⟨k10,k11,H⟩:=H
   exact Zai (G:=Zae kp127 [(5,6,.call (vf (us (N.lim (b.natAbs-a.natAbs)))) none),(5,7,.call (bigA false (N.sg (N.Zaa b) (b.natAbs-a.natAbs))) none)] []) 1000 [false] (bigA false (N.sg (N.Zaa b) (b.natAbs-a.natAbs))) (by kernel_rfl) (bc (Zam (fun h=>d7 (Zab.1 h))) (bc rfl (bc rfl (bc rfl (bc rfl b0))))) q0 (ce (@ev139 fb fa b a k10) (ce (@ZdX (N.Zaa b) false (b.natAbs-a.natAbs) k11) c0)) H
theorem rMul (fa fb:Bool) (a b:Int)  (dq:AV) (H :
  (N.okB a/\N.okB b) /\
  (N.Zav (N.cnt (a.natAbs*b.natAbs))) /\
  Weak (bigA false (N.sg (!N.Zaa a==N.Zaa b) (a.natAbs*b.natAbs))) dq) :
 rMul_at fa fb a b (Zaf dq):=by
 unfold rMul_at
 obtain ⟨k1,k2,H⟩:=H
 exact Zai (G:=Zae kp65 [(1,9,.call (vf (us (N.lim (a.natAbs*b.natAbs)))) none),(1,10,.call (bigA false (N.sg (!N.Zaa a==N.Zaa b) (a.natAbs*b.natAbs))) none)] []) 1000 [] (bigA false (N.sg (!N.Zaa a==N.Zaa b) (a.natAbs*b.natAbs))) (by kernel_rfl) (bc rfl (bc rfl (bc rfl (bc rfl (bc rfl b0))))) q0 (ce (@ev83 fa fb a b k1) (ce (@ZdX (!N.Zaa a==N.Zaa b) false (a.natAbs*b.natAbs) k2) c0)) H
theorem rNeg (fa:Bool) (v:Int)  (dq:AV) (H :
  (N.ok v) /\
  Weak (bigA false (N.sg (!N.Zaa v) v.natAbs)) dq) :
 rNeg_at fa v (Zaf dq):=by
 unfold rNeg_at
 obtain ⟨k1,H⟩:=H
 exact Zai (G:=Zae kp111 [(1,5,.call (bigA false (N.sg (!N.Zaa v) v.natAbs)) none)] []) 1000 [] (bigA false (N.sg (!N.Zaa v) v.natAbs)) (by kernel_rfl) (bc rfl (bc rfl (bc rfl b0))) q0 (ce (@ev82_a (!N.Zaa v) fa v k1) c0) H
theorem rCmp (fa fb:Bool) (a b:Int)  (dq:AV) (H :
  ((¬(N.Zaa a=N.Zaa b))->((N.Zaa a=true)->vi (-1)=dq) /\
   (¬(N.Zaa a=true)->vi 1=dq)) /\
  (¬(¬(N.Zaa a=N.Zaa b))->((N.Zaa a=true)->(N.ok b/\N.ok a) /\
    vi (N.sgnI ((↑b.natAbs:Int)-(↑a.natAbs:Int)))=dq) /\
   (¬(N.Zaa a=true)->(N.ok a/\N.ok b) /\
    vi (N.sgnI ((↑a.natAbs:Int)-(↑b.natAbs:Int)))=dq))) :
 rCmp_at fa fb a b (Zaf dq):=by
 unfold rCmp_at
 rcases xq H with ⟨d2,H⟩|⟨d2,H⟩
 ·rcases xq H with ⟨d4,H⟩|⟨d4,H⟩
  ·exact Zaq (G:=Zae kp64 [] []) 1000 [true,true] (asm:=[true,true,(!N.Zaa a==N.Zaa b)==true,0==0,(N.Zaa a)==true]) (vi (-1)) (by kernel_rfl) (bc rfl (bc rfl (bc (Zan ((ZcJ i_eq).2 d2)) (bc (beq_self_eq_true _) (bc (Zan ((Zbq _).2 d4)) b0))))) q0 c0 H
  ·exact Zaq (G:=Zae kp64 [] []) 1000 [true,false] (asm:=[true,true,(!N.Zaa a==N.Zaa b)==true,0==0,(N.Zaa a)==false]) (vi 1) (by kernel_rfl) (bc rfl (bc rfl (bc (Zan ((ZcJ i_eq).2 d2)) (bc (beq_self_eq_true _) (bc (Zam (fun h=>d4 ((Zbq _).1 h))) b0))))) q0 c0 H
 ·rcases xq H with ⟨d6,H⟩|⟨d6,H⟩
  ·obtain ⟨k7,H⟩:=H
   exact Zaq (G:=Zae kp64 [(6,4,.call (vi (N.sgnI ((↑b.natAbs:Int)-(↑a.natAbs:Int)))) none)] []) 1000 [false,true] (asm:=[true,true,(!N.Zaa a==N.Zaa b)==false,0==0,(N.Zaa a)==true,true,true]) (vi (N.sgnI ((↑b.natAbs:Int)-(↑a.natAbs:Int)))) (by kernel_rfl) (bc rfl (bc rfl (bc (Zam (fun h=>d2 ((ZcJ i_eq).1 h))) (bc (beq_self_eq_true _) (bc (Zan ((Zbq _).2 d6)) (bc rfl (bc rfl b0))))))) q0 (ce (@ev81 fb fa b a k7) c0) H
  ·obtain ⟨k8,H⟩:=H
   exact Zaq (G:=Zae kp64 [(7,4,.call (vi (N.sgnI ((↑a.natAbs:Int)-(↑b.natAbs:Int)))) none)] []) 1000 [false,false] (asm:=[true,true,(!N.Zaa a==N.Zaa b)==false,0==0,(N.Zaa a)==false,true,true]) (vi (N.sgnI ((↑a.natAbs:Int)-(↑b.natAbs:Int)))) (by kernel_rfl) (bc rfl (bc rfl (bc (Zam (fun h=>d2 ((ZcJ i_eq).1 h))) (bc (beq_self_eq_true _) (bc (Zam (fun h=>d6 ((Zbq _).1 h))) (bc rfl (bc rfl b0))))))) q0 (ce (@ev81 fa fb a b k8) c0) H
theorem rBy (fa:Bool) (v:Nat) (x:Int)  (dq:AV) (H :
  ∃ (l1:List Int),
  (Ev M1 (Conf.pure 103 [AV.vec true 1 [vu x]]) (vf (us l1)) []) /\
  ∃ (l2:List Int),
  (Ev M1 (Conf.pure 83 [AV.vec fa 1 (us (N.lim v)),vf (us l1)]) (vf (us l2)) []) /\
  Weak (vf (us l2)) dq) :
 rBy_at fa v x (Zaf dq):=by
 unfold rBy_at
 obtain ⟨l1,k1,l2,k2,H⟩:=H
 exact Zai (G:=Zae kp138 [(1,3,.call (vf (us l1)) none),(1,4,.call (vf (us l2)) none)] []) 1000 [] (vf (us l2)) (by kernel_rfl) b0 q0 (ce k1 (ce k2 c0)) H
end Go.Av

namespace Go.Av
open Go.Proofs
theorem ZcP {n v:Nat} (h:N.fits n v):N.cnt v<=n:=Zaw.1 h
theorem Zdm {n:Int}:N.sgnI n=0 ↔ n=0:=by
 unfold N.sgnI
 (repeat' split) <;> omega
theorem ev127 (fa fb:Bool) (a b:Int) (h:N.okB a/\N.okB b):Ev M1 (.pure 127 [bigA fa a,bigA fb b]) (bigA false (a+b)) []:=by
 obtain ⟨ha,hb⟩:=h
 have oa:=Zck ha
 have ob:=Zck hb
 have ha':=ha
 have hb':=hb
 unfold N.okB at ha' hb'
 refine call127 (rAdd _ _ _ _ _ ⟨fun h=>⟨⟨ha,hb⟩,?_,?_⟩,fun h=>⟨⟨oa,ob⟩,fun k=>⟨⟨oa,?_⟩,?_,?_⟩,fun k=>⟨⟨ob,?_⟩,?_,?_⟩⟩⟩)
 ·have:=ZcP (ZeF (ZaN (Zah a.natAbs) ha') (ZaN (Zah b.natAbs) hb'))
  unfold N.Zav;omega
 ·rw [sg_add h];exact .refl _
 ·have k:¬(N.sgnI ((a.natAbs:Int)-(b.natAbs:Int))<0):=by omega
  rw [ZbI] at k;omega
 ·have:=ZaK (Nat.sub_le a.natAbs b.natAbs)
  unfold N.Zav;omega
 ·have k:¬(N.sgnI ((a.natAbs:Int)-(b.natAbs:Int))<0):=by omega
  rw [ZbI] at k
  rw [sg_sub h (by omega)];exact .refl _
 ·have k:N.sgnI ((a.natAbs:Int)-(b.natAbs:Int))<0:=by omega
  rw [ZbI] at k;omega
 ·have:=ZaK (Nat.sub_le b.natAbs a.natAbs)
  unfold N.Zav;omega
 ·have k:N.sgnI ((a.natAbs:Int)-(b.natAbs:Int))<0:=by omega
  rw [ZbI] at k
  rw [sg_sub (fun x=>h x.symm) (by omega),Int.add_comm];exact .refl _
theorem ev65 (fa fb:Bool) (a b:Int) (h:N.okB a/\N.okB b):Ev M1 (.pure 65 [bigA fa a,bigA fb b]) (bigA false (a*b)) []:=by
 refine call65 (rMul _ _ _ _ _ ⟨h,?_,?_⟩)
 ·have:=ZcP (ZcE (ZaN (Zah a.natAbs) h.1) (ZaN (Zah b.natAbs) h.2))
  unfold N.Zav;omega
 ·rw [sg_mul];exact .refl _
theorem sg_not (v:Int):N.sg (!N.Zaa v) v.natAbs = -v:=by
 unfold N.sg
 by_cases k:v<0
 ·rw [Zal.2 k,if_neg (by simp)];omega
 ·rw [Zbg k,if_pos (by simp)];omega
theorem ev111 (fa:Bool) (v:Int) (h:N.ok v):Ev M1 (.pure 111 [bigA fa v]) (bigA false (-v)) []:=by
 refine call111 (rNeg _ _ _ ⟨h,?_⟩)
 rw [sg_not];exact .refl _
theorem ev126 (fa fb:Bool) (a b:Int) (h:N.okB a/\N.okB b):Ev M1 (.pure 126 [bigA fa a,bigA fb b]) (bigA false (a-b)) []:=by
 have hb:N.okB (-b):=by have:=h.2;unfold N.okB at *;rwa [Int.natAbs_neg]
 have en:=ev111 fb b (Zck h.2)
 have ea:=ev127 fa false a (-b) ⟨h.1,hb⟩
 exact call126 (rSub _ _ _ _ _ ⟨_,_,en,_,_,ea,.refl _⟩)
theorem ev126_a (fa:Bool) (a:Int) (h:N.okB a):Ev M1 (.pure 126 [bigA fa a,.agg [.bool false,.vec false 1 ((N.Zac 1).map (.int .u32))]]) (bigA false (a-1)) []:=
 ev126 fa false a 1 ⟨h,Zf0 (by decide)⟩
theorem ev64 (fa fb:Bool) (a b:Int) (h:N.okB a/\N.okB b):Ev M1 (.pure 64 [bigA fa a,bigA fb b]) (.int .i64 (N.sgnI (a-b))) []:=by
 have oa:=Zck h.1
 have ob:=Zck h.2
 refine call64 (rCmp _ _ _ _ _ ⟨fun k=>⟨fun ka => ?_,fun ka => ?_⟩,fun k=>⟨fun ka=>⟨⟨ob,oa⟩,?_⟩,fun ka=>⟨⟨oa,ob⟩,?_⟩⟩⟩)
 ·have kb:¬b<0:=fun x=>k (by rw [ka,Zal.2 x])
  rw [Zal] at ka
  congr 1;unfold N.sgnI;rw [if_pos (by omega)]
 ·have kb:b<0:=by
   by_cases kb:b<0
   ·exact kb
   ·exact absurd (by rw [Bool.eq_false_iff.2 ka,Zbg kb]) k
  have ka:¬a<0:=fun x=>ka (Zal.2 x)
  congr 1;unfold N.sgnI;rw [if_neg (by omega),if_pos (by omega)]
 ·have k:=Classical.not_not.1 k
  have kb:=Zal.1 (k ▸ ka)
  rw [Zal] at ka
  congr 2;omega
 ·have k:=Classical.not_not.1 k
  have kb:¬b<0:=fun x=>ka (by rw [k];exact Zal.2 x)
  have ka:¬a<0:=fun x=>ka (Zal.2 x)
  congr 2;omega
def N.dig (x:Int):Prop:=0<=x/\x<1000000000
theorem ZgE (fa:Bool) (v:Nat) (x:Int) (h:N.okB v/\N.dig x):Ev M1 (.pure 138 [usA fa (N.lim v),.int .u32 x]) (usA false (N.lim (v*x.toNat))) []:=by
 obtain ⟨h1,h2,h3⟩:=h
 have e:[AV.int .u32 x]=(N.Zar 1 x.toNat).map (.int .u32):=by
  simp only [N.Zar,List.map_cons,List.map_nil]
  have:((x.toNat % 1000000000:Nat):Int)=x:=by omega
  rw [this]
 have hx:N.fits 1 x.toNat:=by unfold N.fits;omega
 have t1:=rtrimN true 1 x.toNat ⟨by unfold N.Zav;omega,hx⟩
 have hc:=ZcP hx
 have t2:=ev83_a fa false v x.toNat ⟨h1,by unfold N.okB;rw [Int.natAbs_natCast];omega⟩
 have t1':Ev M1 (.pure 103 [.vec true 1 [.int .u32 x]]) (usA false (N.lim x.toNat)) []:=by rw [e];exact t1
 exact call138 (rBy _ _ _ _ ⟨_,t1',_,t2,.refl _⟩)
theorem lim_cons (x R:Nat) (hx:x<1000000000):N.Zb8 ((x:Int)::N.lim R)=N.lim (x+1000000000*R):=by
 have e:((x:Int)::N.lim R)=N.Zar (N.cnt R+1) (x+1000000000*R):=by
  rw [Zax]
  have e1:(x+1000000000*R) % 1000000000=x:=by omega
  have e2:(x+1000000000*R) / 1000000000=R:=by omega
  rw [e1,e2];rfl
 rw [e]
 refine ZbR (ZbM.2 ?_)
 have e2:(x+1000000000*R) / 1000000000=R:=by omega
 rw [e2];exact Zah R
end Go.Av

namespace Go.Av
open Go.Proofs
theorem ev103_c (fa:Bool) (x:Int) (R:Nat) (h:0<=x/\x<1000000000/\N.cnt R<=900000):Ev M1 (.pure 103 [.vec fa 1 (.int .u32 x::(N.lim R).map (.int .u32))]) (usA false (N.lim (x.toNat+1000000000*R))) []:=by
 obtain ⟨n,rfl⟩:=Int.eq_ofNat_of_zero_le h.1
 have:=Zd6 fa ((n:Int)::N.lim R) (by unfold N.Zav;simp only [List.length_cons,ZaF];omega)
 rw [lim_cons n R (by omega)] at this
 exact this
end Go.Av

namespace Go.Av
open Go.Proofs
set_option maxRecDepth 100000
def Zfd:Fi:=⟨173,[.tmp 4,.tmp 5]⟩
def Zcd:List (Nat × List Nat):=[(0,[0,1]),(1,[0,1,28]),(2,[6,7]),(3,[4,5]),(4,[0,1,8]),(5,[0,8,9]),(6,[0,8,9,10]),(7,[0,8,9,10,11]),(8,[0,8,9,10,11,12]),(9,[8,9,10,11,12,13]),(10,[8,9,10,11,12,13]),(11,[8,9,10,11,12,13,14]),(12,[8,9,10,11,12,13,14,76]),(13,[8,9,10,11,12,13,14]),(14,[8,9,10,11,12,13,14]),(15,[8,9,10,11,12,13,14,15]),(16,[8,9,10,11,12,13,14,15,91]),(17,[8,9,10,11,12,13,14,15]),(18,[8,9,10,11,12,13,14,15,103]),(19,[8,9,10,11,12,13,14,15]),(20,[8,9,10,11,12,13,14,16]),(21,[8,9,10,11,12,13,14,16,117]),(22,[8,9,10,11,12,13,14,16]),(23,[8,9,10,11,12,13,14,16,17]),(24,[8,9,10,11,12,13,14,16,17,125]),(25,[8,9,10,11,12,13,14,16,17]),(26,[8,9,10,11,12,13,14,16,17]),(27,[8,9,10,11,12,13,14,16]),(28,[8,9,10,11,12,13,14]),(29,[8,11,12,18]),(30,[8,11,12,18,19]),(31,[8,11,12,18,19,20]),(32,[8,11,12,18,19,20,146]),(33,[8,11,12,18,19,20]),(34,[8,11,12,18,19,20]),(35,[8,11,12,18,19,20]),(36,[8,11,12,18,19,20]),(37,[4,5])]
def rParts_at (fa fb:Bool) (A D:Nat) (Q:AV->Heap->Prop):Prop:=Wp M1 (.run Zfd (atC (cd Tryz.f124) []) [(0,.vec fa 1 ((N.lim A).map (.int .u32))),(1,.vec fb 1 ((N.lim D).map (.int .u32)))] []) Q
def ZcD (V U:Nat) (s t i:Int) (n:Nat) (o:List Int) (Q:AV->Heap->Prop):Prop:=Wp M1 (.run Zfd (atC (cd Tryz.f124) [1,1,1,1,1,1,1,1,1,0,1,0,0]) [(8,.int .u32 s),(9,.vec false 1 ((N.lim V).map (.int .u32))),(10,.int .u64 t),(11,.vnil),(12,.ref 0 0 0 n),(13,.vec false 1 ((N.lim U).map (.int .u32))),(14,.int .i64 i)] [⟨o.map (.int .u32),1,0,false,true⟩]) Q
def Zc4 (V U:Nat) (s t i:Int) (n:Nat) (o:List Int) (Q:AV->Heap->Prop):Prop:=Wp M1 (.run Zfd (atC (cd Tryz.f124) [1,1,1,1,1,1,1,1,1,0,1,0,0]) [(8,.int .u32 s),(9,.vec false 1 ((N.lim V).map (.int .u32))),(10,.int .u64 t),(11,.vec false 1 []),(12,.ref 0 0 0 n),(13,.vec false 1 ((N.lim U).map (.int .u32))),(14,.int .i64 i)] [⟨o.map (.int .u32),1,0,false,true⟩]) Q
def ZdJ (V U:Nat) (s t i:Int) (n:Nat) (o:List Int) (c:Int) (l:List Int) (Q:AV->Heap->Prop):Prop:=Wp M1 (.run Zfd (atC (cd Tryz.f124) [1,1,1,1,1,1,1,1,1,0,1,0,0]) [(8,.int .u32 s),(9,.vec false 1 ((N.lim V).map (.int .u32))),(10,.int .u64 t),(11,.vec false 1 ((c::l).map (.int .u32))),(12,.ref 0 0 0 n),(13,.vec false 1 ((N.lim U).map (.int .u32))),(14,.int .i64 i)] [⟨o.map (.int .u32),1,0,false,true⟩]) Q
def ZcV (V U:Nat) (s t i:Int) (n:Nat) (o:List Int) (R2:Nat) (Q:AV->Heap->Prop):Prop:=Wp M1 (.run Zfd (atC (cd Tryz.f124) [1,1,1,1,1,1,1,1,1,0,1,0,0,1,0,0,1,0]) [(8,.int .u32 s),(9,.vec false 1 ((N.lim V).map (.int .u32))),(10,.int .u64 t),(11,.vec false 1 ((N.lim R2).map (.int .u32))),(12,.ref 0 0 0 n),(13,.vec false 1 ((N.lim U).map (.int .u32))),(14,.int .i64 i)] [⟨o.map (.int .u32),1,0,false,true⟩]) Q
def ZbS (V U:Nat) (s t i:Int) (n:Nat) (o:List Int) (R:Nat) (Q:AV->Heap->Prop):Prop:=Wp M1 (.run Zfd (atC (cd Tryz.f124) [1,1,1,1,1,1,1,1,1,0,1,0,0]) [(8,.int .u32 s),(9,.vec false 1 ((N.lim V).map (.int .u32))),(10,.int .u64 t),(11,.vec false 1 ((N.lim R).map (.int .u32))),(12,.ref 0 0 0 n),(13,.vec false 1 ((N.lim U).map (.int .u32))),(14,.int .i64 i)] [⟨o.map (.int .u32),1,0,false,true⟩]) Q
def Za4 (V U:Nat) (s t i:Int) (n:Nat) (o:List Int) (R p:Nat) (g:Int) (Q:AV->Heap->Prop):Prop:=Wp M1 (.run Zfd (atC (cd Tryz.f124) [1,1,1,1,1,1,1,1,1,0,1,0,0,1,0,0,1,1,1,1,1,1,1,0,0,0]) [(8,.int .u32 s),(9,.vec false 1 ((N.lim V).map (.int .u32))),(10,.int .u64 t),(11,.vec false 1 ((N.lim R).map (.int .u32))),(12,.ref 0 0 0 n),(13,.vec false 1 ((N.lim U).map (.int .u32))),(14,.int .i64 i),(16,.int .u64 g),(17,.vec false 1 ((N.lim p).map (.int .u32)))] [⟨o.map (.int .u32),1,0,false,true⟩]) Q
def Zd2 (s:Int) (n:Nat) (o:List Int) (Q:AV->Heap->Prop):Prop:=Wp M1 (.run Zfd (atC (cd Tryz.f124) [1,1,1,1,1,1,1,1,1,1,1,1,0,1,0,0]) [(8,.int .u32 s),(11,.vnil),(12,.ref 0 0 0 n),(18,.int .u64 0),(19,.row 1 0),(20,.int .i64 (-1))] [⟨o.map (.int .u32),1,0,false,true⟩,⟨[],1,0,false,true⟩]) Q
def Zcx (R:Nat) (s c i:Int) (n:Nat) (o l:List Int) (Q:AV->Heap->Prop):Prop:=Wp M1 (.run Zfd (atC (cd Tryz.f124) [1,1,1,1,1,1,1,1,1,1,1,1,0,1,0,0]) [(8,.int .u32 s),(11,.vec false 1 ((N.lim R).map (.int .u32))),(12,.ref 0 0 0 n),(18,.int .u64 c),(19,.row 1 0),(20,.int .i64 i)] [⟨o.map (.int .u32),1,0,false,true⟩,⟨l.map (.int .u32),1,0,false,true⟩]) Q
theorem call124 {args:List AV} {d:AV} (h:wc M1 Zfd Tryz.f124 args d):Ev M1 (.pure 124 args) d []:=pcl _ _ (by kernel_rfl) h
noncomputable abbrev zNwD1 (D:Nat):=vu ((N.lim (D*(Int.tdiv 1000000000 ((N.lim D).getD ((↑(N.lim D).length:Int)-1).toNat default+1)).toNat)).getD ((↑(N.lim (D*(Int.tdiv 1000000000 ((N.lim D).getD ((↑(N.lim D).length:Int)-1).toNat default+1)).toNat)).length:Int)-1).toNat default)
noncomputable abbrev zNwD2 (D:Nat):=vf (us (N.lim (D*(Int.tdiv 1000000000 ((N.lim D).getD ((↑(N.lim D).length:Int)-1).toNat default+1)).toNat)))
noncomputable abbrev zNwD3 (A:Nat) (D:Nat):=vf (us (N.lim (A*(Int.tdiv 1000000000 ((N.lim D).getD ((↑(N.lim D).length:Int)-1).toNat default+1)).toNat)))
noncomputable abbrev zNwD4 (A:Nat) (D:Nat):=us (N.lim ((↑A:Int).tdiv (↑D:Int)).toNat)
noncomputable abbrev zNwD5 (A:Nat) (D:Nat):=us (N.lim ((↑A:Int).tmod (↑D:Int)).toNat)
theorem rParts (fa fb:Bool) (A D:Nat)  (dq:AV) (H :
  ((((↑(N.lim A).length:Int)<=2)/\((↑(N.lim D).length:Int)<=2))->(N.cnt A<=2) /\
   (N.cnt D<=2) /\
   (0<=(↑A:Int).tdiv (↑D:Int)/\(↑A:Int).tdiv (↑D:Int)<=18446744073709551615) /\
   (0<=(↑A:Int).tmod (↑D:Int)/\(↑A:Int).tmod (↑D:Int)<=18446744073709551615) /\
   (¬(↑D:Int)=0) /\
   Weak (tu [vf (us (N.lim ((↑A:Int).tdiv (↑D:Int)).toNat)),vf (us (N.lim ((↑A:Int).tmod (↑D:Int)).toNat))]) dq) /\
  (¬(((↑(N.lim A).length:Int)<=2)/\((↑(N.lim D).length:Int)<=2))->(-9223372036854775808<=(↑(N.lim D).length:Int)-1/\(↑(N.lim D).length:Int)-1<=9223372036854775807) /\
   (0<=(↑(N.lim D).length:Int)-1) /\
   (((↑(N.lim D).length:Int)-1).toNat<(N.lim D).length) /\
   (0<=(N.lim D).getD ((↑(N.lim D).length:Int)-1).toNat default/\(N.lim D).getD ((↑(N.lim D).length:Int)-1).toNat default<=18446744073709551615) /\
   (0<=(N.lim D).getD ((↑(N.lim D).length:Int)-1).toNat default+1/\(N.lim D).getD ((↑(N.lim D).length:Int)-1).toNat default+1<=18446744073709551615) /\
   (¬(N.lim D).getD ((↑(N.lim D).length:Int)-1).toNat default+1=0) /\
   (0<=Int.tdiv 1000000000 ((N.lim D).getD ((↑(N.lim D).length:Int)-1).toNat default+1)/\Int.tdiv 1000000000 ((N.lim D).getD ((↑(N.lim D).length:Int)-1).toNat default+1)<=18446744073709551615) /\
   (0<=Int.tdiv 1000000000 ((N.lim D).getD ((↑(N.lim D).length:Int)-1).toNat default+1)/\Int.tdiv 1000000000 ((N.lim D).getD ((↑(N.lim D).length:Int)-1).toNat default+1)<=4294967295) /\
   (N.okB (↑D:Int)/\N.dig (Int.tdiv 1000000000 ((N.lim D).getD ((↑(N.lim D).length:Int)-1).toNat default+1))) /\
   (-9223372036854775808<=(↑(N.lim (D*(Int.tdiv 1000000000 ((N.lim D).getD ((↑(N.lim D).length:Int)-1).toNat default+1)).toNat)).length:Int)-1/\(↑(N.lim (D*(Int.tdiv 1000000000 ((N.lim D).getD ((↑(N.lim D).length:Int)-1).toNat default+1)).toNat)).length:Int)-1<=9223372036854775807) /\
   (0<=(↑(N.lim (D*(Int.tdiv 1000000000 ((N.lim D).getD ((↑(N.lim D).length:Int)-1).toNat default+1)).toNat)).length:Int)-1) /\
   (((↑(N.lim (D*(Int.tdiv 1000000000 ((N.lim D).getD ((↑(N.lim D).length:Int)-1).toNat default+1)).toNat)).length:Int)-1).toNat<(N.lim (D*(Int.tdiv 1000000000 ((N.lim D).getD ((↑(N.lim D).length:Int)-1).toNat default+1)).toNat)).length) /\
   (0<=(N.lim (D*(Int.tdiv 1000000000 ((N.lim D).getD ((↑(N.lim D).length:Int)-1).toNat default+1)).toNat)).getD ((↑(N.lim (D*(Int.tdiv 1000000000 ((N.lim D).getD ((↑(N.lim D).length:Int)-1).toNat default+1)).toNat)).length:Int)-1).toNat default/\(N.lim (D*(Int.tdiv 1000000000 ((N.lim D).getD ((↑(N.lim D).length:Int)-1).toNat default+1)).toNat)).getD ((↑(N.lim (D*(Int.tdiv 1000000000 ((N.lim D).getD ((↑(N.lim D).length:Int)-1).toNat default+1)).toNat)).length:Int)-1).toNat default<=18446744073709551615) /\
   (-9223372036854775808<=(↑(N.lim A).length:Int)+1/\(↑(N.lim A).length:Int)+1<=9223372036854775807) /\
   (0<=(↑(N.lim A).length:Int)+1) /\
   (((↑(N.lim A).length:Int)+1)*4<=1099511627776) /\
   ((↑(N.lim A).length:Int)+1<=1099511627776) /\
   (N.okB (↑A:Int)/\N.dig (Int.tdiv 1000000000 ((N.lim D).getD ((↑(N.lim D).length:Int)-1).toNat default+1))) /\
   (0<=(↑(N.lim (A*(Int.tdiv 1000000000 ((N.lim D).getD ((↑(N.lim D).length:Int)-1).toNat default+1)).toNat)).length:Int)) /\
   (0<=(↑(N.lim (A*(Int.tdiv 1000000000 ((N.lim D).getD ((↑(N.lim D).length:Int)-1).toNat default+1)).toNat)).length:Int).toNat) /\
   ((↑(N.lim (A*(Int.tdiv 1000000000 ((N.lim D).getD ((↑(N.lim D).length:Int)-1).toNat default+1)).toNat)).length:Int).toNat<=(List.replicate ((↑(N.lim A).length:Int)+1).toNat (0:Int)).length) /\
   (-9223372036854775808<=(↑(N.lim (A*(Int.tdiv 1000000000 ((N.lim D).getD ((↑(N.lim D).length:Int)-1).toNat default+1)).toNat)).length:Int)-1/\(↑(N.lim (A*(Int.tdiv 1000000000 ((N.lim D).getD ((↑(N.lim D).length:Int)-1).toNat default+1)).toNat)).length:Int)-1<=9223372036854775807) /\
   ZcD (D*(Int.tdiv 1000000000 ((N.lim D).getD ((↑(N.lim D).length:Int)-1).toNat default+1)).toNat) (A*(Int.tdiv 1000000000 ((N.lim D).getD ((↑(N.lim D).length:Int)-1).toNat default+1)).toNat) (Int.tdiv 1000000000 ((N.lim D).getD ((↑(N.lim D).length:Int)-1).toNat default+1)) ((N.lim (D*(Int.tdiv 1000000000 ((N.lim D).getD ((↑(N.lim D).length:Int)-1).toNat default+1)).toNat)).getD ((↑(N.lim (D*(Int.tdiv 1000000000 ((N.lim D).getD ((↑(N.lim D).length:Int)-1).toNat default+1)).toNat)).length:Int)-1).toNat default) ((↑(N.lim (A*(Int.tdiv 1000000000 ((N.lim D).getD ((↑(N.lim D).length:Int)-1).toNat default+1)).toNat)).length:Int)-1) ((↑(N.lim (A*(Int.tdiv 1000000000 ((N.lim D).getD ((↑(N.lim D).length:Int)-1).toNat default+1)).toNat)).length:Int).toNat-0) (List.replicate ((↑(N.lim A).length:Int)+1).toNat (0:Int)) (Zaf dq))) :
 rParts_at fa fb A D (Zaf dq):=by
 unfold rParts_at
 have w1:(us (N.lim A)).length=(N.lim A).length:=List.length_map ..
 have w2:(us (N.lim D)).length=(N.lim D).length:=List.length_map ..
 have i3:(bif decide ((↑(us (N.lim A)).length:Int)<=2) then decide ((↑(us (N.lim D)).length:Int)<=2) else false)=true ↔ (((↑(N.lim A).length:Int)<=2)/\((↑(N.lim D).length:Int)<=2)):=(by (try rw [w1]);(try rw [w2]);all_goals exact (Zbt Zab Zab))
 rcases xq H with ⟨d4,H⟩|⟨d4,H⟩
 ·obtain ⟨k5,k6,k7,H⟩:=H
  have w8:wu ((↑A:Int).tdiv (↑D:Int))=(↑A:Int).tdiv (↑D:Int):=wU64 k7
  obtain ⟨k9,k11,H⟩:=H
  exact Zai (G:=Zae Zcd [(2,1,.call (vw (↑A:Int)) none),(2,3,.call (vw (↑D:Int)) none),(3,3,.call (vf (zNwD4 A D)) none),(3,7,.call (vf (zNwD5 A D)) none)] []) 1000 [true] (calls:=[pc 125 [AV.vec fa 1 (us (N.lim A))] (vw (↑A:Int)),pc 125 [AV.vec fb 1 (us (N.lim D))] (vw (↑D:Int)),pc 87 [vw (wu ((↑A:Int).tdiv (↑D:Int)))] (vf (zNwD4 A D)),pc 87 [vw ((↑A:Int).tmod (↑D:Int))] (vf (zNwD5 A D))]) (tu [vf (zNwD4 A D),vf (zNwD5 A D)]) (by kernel_rfl) (bc (Zan (i3.2 d4)) (bc (Zde.2 k11) (bc (Zde.2 k11) b0))) q0 (ce (@ev125 fa A k5) (ce (@ev125 fb D k6) (ce (by (try rw [w8]);all_goals exact (@ev87 ((↑A:Int).tdiv (↑D:Int)) k7)) (ce (@ev87 ((↑A:Int).tmod (↑D:Int)) k9) c0)))) H
 ·obtain ⟨k13,H⟩:=H
  have w14:wi ((↑(N.lim D).length:Int)-1)=(↑(N.lim D).length:Int)-1:=wI64 k13
  have i15:(decide (0<=wi ((↑(us (N.lim D)).length:Int)-1)))=true ↔ (0<=(↑(N.lim D).length:Int)-1):=(by (try rw [w2]);(try rw [w14]);all_goals exact Zab)
  obtain ⟨k16,H⟩:=H
  have i17:(decide ((wi ((↑(us (N.lim D)).length:Int)-1)).toNat<(us (N.lim D)).length))=true ↔ (((↑(N.lim D).length:Int)-1).toNat<(N.lim D).length):=(by (try rw [w2]);(try rw [w14]);all_goals exact Zab)
  obtain ⟨k18,k19,H⟩:=H
  have w20:wu ((N.lim D).getD ((↑(N.lim D).length:Int)-1).toNat default)=(N.lim D).getD ((↑(N.lim D).length:Int)-1).toNat default:=wU64 k19
  obtain ⟨k21,H⟩:=H
  have w22:wu ((N.lim D).getD ((↑(N.lim D).length:Int)-1).toNat default+1)=(N.lim D).getD ((↑(N.lim D).length:Int)-1).toNat default+1:=wU64 k21
  have i23:(!wu (wu ((N.lim D).getD ((↑(N.lim D).length:Int)-1).toNat default)+1)==0)=true ↔ (¬(N.lim D).getD ((↑(N.lim D).length:Int)-1).toNat default+1=0):=(by (try rw [w20]);(try rw [w22]);all_goals exact Zde)
  obtain ⟨k24,k25,H⟩:=H
  have w26:wu (Int.tdiv 1000000000 ((N.lim D).getD ((↑(N.lim D).length:Int)-1).toNat default+1))=Int.tdiv 1000000000 ((N.lim D).getD ((↑(N.lim D).length:Int)-1).toNat default+1):=wU64 k25
  obtain ⟨k27,H⟩:=H
  have w28:wv (Int.tdiv 1000000000 ((N.lim D).getD ((↑(N.lim D).length:Int)-1).toNat default+1))=Int.tdiv 1000000000 ((N.lim D).getD ((↑(N.lim D).length:Int)-1).toNat default+1):=wU32 k27
  obtain ⟨k29,H⟩:=H
  have w30:(us (N.lim (D*(Int.tdiv 1000000000 ((N.lim D).getD ((↑(N.lim D).length:Int)-1).toNat default+1)).toNat))).length=(N.lim (D*(Int.tdiv 1000000000 ((N.lim D).getD ((↑(N.lim D).length:Int)-1).toNat default+1)).toNat)).length:=List.length_map ..
  obtain ⟨k31,H⟩:=H
  have w32:wi ((↑(N.lim (D*(Int.tdiv 1000000000 ((N.lim D).getD ((↑(N.lim D).length:Int)-1).toNat default+1)).toNat)).length:Int)-1)=(↑(N.lim (D*(Int.tdiv 1000000000 ((N.lim D).getD ((↑(N.lim D).length:Int)-1).toNat default+1)).toNat)).length:Int)-1:=wI64 k31
  have i33:(decide (0<=wi ((↑(us (N.lim (D*(Int.tdiv 1000000000 ((N.lim D).getD ((↑(N.lim D).length:Int)-1).toNat default+1)).toNat))).length:Int)-1)))=true ↔ (0<=(↑(N.lim (D*(Int.tdiv 1000000000 ((N.lim D).getD ((↑(N.lim D).length:Int)-1).toNat default+1)).toNat)).length:Int)-1):=(by (try rw [w30]);(try rw [w32]);all_goals exact Zab)
  obtain ⟨k34,H⟩:=H
  have i35:(decide ((wi ((↑(us (N.lim (D*(Int.tdiv 1000000000 ((N.lim D).getD ((↑(N.lim D).length:Int)-1).toNat default+1)).toNat))).length:Int)-1)).toNat<(us (N.lim (D*(Int.tdiv 1000000000 ((N.lim D).getD ((↑(N.lim D).length:Int)-1).toNat default+1)).toNat))).length))=true ↔ (((↑(N.lim (D*(Int.tdiv 1000000000 ((N.lim D).getD ((↑(N.lim D).length:Int)-1).toNat default+1)).toNat)).length:Int)-1).toNat<(N.lim (D*(Int.tdiv 1000000000 ((N.lim D).getD ((↑(N.lim D).length:Int)-1).toNat default+1)).toNat)).length):=(by (try rw [w30]);(try rw [w32]);all_goals exact Zab)
  obtain ⟨k36,k37,H⟩:=H
  have w38:wu ((N.lim (D*(Int.tdiv 1000000000 ((N.lim D).getD ((↑(N.lim D).length:Int)-1).toNat default+1)).toNat)).getD ((↑(N.lim (D*(Int.tdiv 1000000000 ((N.lim D).getD ((↑(N.lim D).length:Int)-1).toNat default+1)).toNat)).length:Int)-1).toNat default)=(N.lim (D*(Int.tdiv 1000000000 ((N.lim D).getD ((↑(N.lim D).length:Int)-1).toNat default+1)).toNat)).getD ((↑(N.lim (D*(Int.tdiv 1000000000 ((N.lim D).getD ((↑(N.lim D).length:Int)-1).toNat default+1)).toNat)).length:Int)-1).toNat default:=wU64 k37
  obtain ⟨k39,H⟩:=H
  have w40:wi ((↑(N.lim A).length:Int)+1)=(↑(N.lim A).length:Int)+1:=wI64 k39
  have i41:(decide (0<=wi ((↑(us (N.lim A)).length:Int)+1)))=true ↔ (0<=(↑(N.lim A).length:Int)+1):=(by (try rw [w1]);(try rw [w40]);all_goals exact Zab)
  obtain ⟨k42,H⟩:=H
  have i43:(decide (wi ((↑(us (N.lim A)).length:Int)+1)<=wi ((↑(us (N.lim A)).length:Int)+1)))=true ↔ ((↑(N.lim A).length:Int)+1<=(↑(N.lim A).length:Int)+1):=(by (try rw [w1]);(try rw [w40]);all_goals exact Zab)
  have i44:(decide (wi ((↑(us (N.lim A)).length:Int)+1)*4<=1099511627776))=true ↔ (((↑(N.lim A).length:Int)+1)*4<=1099511627776):=(by (try rw [w1]);(try rw [w40]);all_goals exact Zab)
  obtain ⟨k45,H⟩:=H
  have i46:(decide (wi ((↑(us (N.lim A)).length:Int)+1)<=1099511627776))=true ↔ ((↑(N.lim A).length:Int)+1<=1099511627776):=(by (try rw [w1]);(try rw [w40]);all_goals exact Zab)
  obtain ⟨k47,H⟩:=H
  have w48:List.replicate ((↑(N.lim A).length:Int)+1).toNat (vu 0)=us (List.replicate ((↑(N.lim A).length:Int)+1).toNat (0:Int)):=(Zdy rfl)
  obtain ⟨k49,H⟩:=H
  have w50:(us (N.lim (A*(Int.tdiv 1000000000 ((N.lim D).getD ((↑(N.lim D).length:Int)-1).toNat default+1)).toNat))).length=(N.lim (A*(Int.tdiv 1000000000 ((N.lim D).getD ((↑(N.lim D).length:Int)-1).toNat default+1)).toNat)).length:=List.length_map ..
  have i51:(decide (0<=(↑(us (N.lim (A*(Int.tdiv 1000000000 ((N.lim D).getD ((↑(N.lim D).length:Int)-1).toNat default+1)).toNat))).length:Int)))=true ↔ (0<=(↑(N.lim (A*(Int.tdiv 1000000000 ((N.lim D).getD ((↑(N.lim D).length:Int)-1).toNat default+1)).toNat)).length:Int)):=(by (try rw [w50]);all_goals exact Zab)
  obtain ⟨k52,H⟩:=H
  have i53:(decide (0<=(↑(us (N.lim (A*(Int.tdiv 1000000000 ((N.lim D).getD ((↑(N.lim D).length:Int)-1).toNat default+1)).toNat))).length:Int).toNat))=true ↔ (0<=(↑(N.lim (A*(Int.tdiv 1000000000 ((N.lim D).getD ((↑(N.lim D).length:Int)-1).toNat default+1)).toNat)).length:Int).toNat):=(by (try rw [w50]);all_goals exact Zab)
  obtain ⟨k54,H⟩:=H
  have w55:(us (List.replicate ((↑(N.lim A).length:Int)+1).toNat (0:Int))).length=(List.replicate ((↑(N.lim A).length:Int)+1).toNat (0:Int)).length:=List.length_map ..
  have i56:(decide ((↑(us (N.lim (A*(Int.tdiv 1000000000 ((N.lim D).getD ((↑(N.lim D).length:Int)-1).toNat default+1)).toNat))).length:Int).toNat<=(List.replicate (wi ((↑(us (N.lim A)).length:Int)+1)).toNat (vu 0)).length))=true ↔ ((↑(N.lim (A*(Int.tdiv 1000000000 ((N.lim D).getD ((↑(N.lim D).length:Int)-1).toNat default+1)).toNat)).length:Int).toNat<=(List.replicate ((↑(N.lim A).length:Int)+1).toNat (0:Int)).length):=(by (try rw [w1]);(try rw [w40]);(try rw [w48]);(try rw [w50]);(try rw [w55]);all_goals exact Zab)
  obtain ⟨k57,k58,H⟩:=H
  have w59:wi ((↑(N.lim (A*(Int.tdiv 1000000000 ((N.lim D).getD ((↑(N.lim D).length:Int)-1).toNat default+1)).toNat)).length:Int)-1)=(↑(N.lim (A*(Int.tdiv 1000000000 ((N.lim D).getD ((↑(N.lim D).length:Int)-1).toNat default+1)).toNat)).length:Int)-1:=wI64 k58
  exact Zad (G:=Zae Zcd [(4,5,.elem (vu ((N.lim D).getD ((↑(N.lim D).length:Int)-1).toNat default))),(5,2,.call (zNwD2 D) none),(6,5,.elem (zNwD1 D)),(9,2,.call (zNwD3 A D) none)] []) 1000 [false] ⟨(atC (cd Tryz.f124) [1,1,1,1,1,1,1,1,1,0,1,0,0]),[(8,vu (wv (wu (Int.tdiv 1000000000 (wu (wu ((N.lim D).getD ((↑(N.lim D).length:Int)-1).toNat default)+1)))))),(9,vf (us (N.lim (D*(Int.tdiv 1000000000 ((N.lim D).getD ((↑(N.lim D).length:Int)-1).toNat default+1)).toNat)))),(10,vw (wu ((N.lim (D*(Int.tdiv 1000000000 ((N.lim D).getD ((↑(N.lim D).length:Int)-1).toNat default+1)).toNat)).getD ((↑(N.lim (D*(Int.tdiv 1000000000 ((N.lim D).getD ((↑(N.lim D).length:Int)-1).toNat default+1)).toNat)).length:Int)-1).toNat default))),(11,AV.vnil),(12,AV.ref 0 0 0 ((↑(us (N.lim (A*(Int.tdiv 1000000000 ((N.lim D).getD ((↑(N.lim D).length:Int)-1).toNat default+1)).toNat))).length:Int).toNat-0)),(13,vf (us (N.lim (A*(Int.tdiv 1000000000 ((N.lim D).getD ((↑(N.lim D).length:Int)-1).toNat default+1)).toNat)))),(14,vi (wi ((↑(us (N.lim (A*(Int.tdiv 1000000000 ((N.lim D).getD ((↑(N.lim D).length:Int)-1).toNat default+1)).toNat))).length:Int)-1)))],[⟨List.replicate (wi ((↑(us (N.lim A)).length:Int)+1)).toNat (vu 0),1,0,false,true⟩],[(bif decide ((↑(us (N.lim A)).length:Int)<=2) then decide ((↑(us (N.lim D)).length:Int)<=2) else false)==false,decide (0<=wi ((↑(us (N.lim D)).length:Int)-1)),decide ((wi ((↑(us (N.lim D)).length:Int)-1)).toNat<(us (N.lim D)).length),!wu (wu ((N.lim D).getD ((↑(N.lim D).length:Int)-1).toNat default)+1)==0,decide (0<=wi ((↑(us (N.lim (D*(Int.tdiv 1000000000 ((N.lim D).getD ((↑(N.lim D).length:Int)-1).toNat default+1)).toNat))).length:Int)-1)),decide ((wi ((↑(us (N.lim (D*(Int.tdiv 1000000000 ((N.lim D).getD ((↑(N.lim D).length:Int)-1).toNat default+1)).toNat))).length:Int)-1)).toNat<(us (N.lim (D*(Int.tdiv 1000000000 ((N.lim D).getD ((↑(N.lim D).length:Int)-1).toNat default+1)).toNat))).length),decide (0<=wi ((↑(us (N.lim A)).length:Int)+1)),decide (wi ((↑(us (N.lim A)).length:Int)+1)<=wi ((↑(us (N.lim A)).length:Int)+1)),decide (wi ((↑(us (N.lim A)).length:Int)+1)*4<=1099511627776),decide (wi ((↑(us (N.lim A)).length:Int)+1)<=1099511627776),true,decide (0<=(↑(us (N.lim (A*(Int.tdiv 1000000000 ((N.lim D).getD ((↑(N.lim D).length:Int)-1).toNat default+1)).toNat))).length:Int)),decide (0<=(↑(us (N.lim (A*(Int.tdiv 1000000000 ((N.lim D).getD ((↑(N.lim D).length:Int)-1).toNat default+1)).toNat))).length:Int).toNat),decide ((↑(us (N.lim (A*(Int.tdiv 1000000000 ((N.lim D).getD ((↑(N.lim D).length:Int)-1).toNat default+1)).toNat))).length:Int).toNat<=(List.replicate (wi ((↑(us (N.lim A)).length:Int)+1)).toNat (vu 0)).length)],[((us (N.lim D)).get?Internal (wi ((↑(us (N.lim D)).length:Int)-1)).toNat=some (vu ((N.lim D).getD ((↑(N.lim D).length:Int)-1).toNat default))),((us (N.lim (D*(Int.tdiv 1000000000 ((N.lim D).getD ((↑(N.lim D).length:Int)-1).toNat default+1)).toNat))).get?Internal (wi ((↑(us (N.lim (D*(Int.tdiv 1000000000 ((N.lim D).getD ((↑(N.lim D).length:Int)-1).toNat default+1)).toNat))).length:Int)-1)).toNat=some (zNwD1 D))],[pc 138 [AV.vec fb 1 (us (N.lim D)),vu (wv (wu (Int.tdiv 1000000000 (wu (wu ((N.lim D).getD ((↑(N.lim D).length:Int)-1).toNat default)+1)))))] (zNwD2 D),pc 138 [AV.vec fa 1 (us (N.lim A)),vu (wv (wu (Int.tdiv 1000000000 (wu (wu ((N.lim D).getD ((↑(N.lim D).length:Int)-1).toNat default)+1)))))] (zNwD3 A D)]⟩ (by kernel_rfl) (bc (Zam (fun h=>d4 (i3.1 h))) (bc (i15.2 k16) (bc (i17.2 k18) (bc (i23.2 k24) (bc (i33.2 k34) (bc (i35.2 k36) (bc (i41.2 k42) (bc (i43.2 (by omega)) (bc (i44.2 k45) (bc (i46.2 k47) (bc rfl (bc (i51.2 k52) (bc (i53.2 k54) (bc (i56.2 k57) b0)))))))))))))) (qc (by (try rw [w2]);(try rw [w14]);all_goals exact (Zao k18)) (qc (by (try rw [w30]);(try rw [w32]);all_goals exact (Zao k36)) q0)) (ce (by (try rw [w20]);(try rw [w22]);(try rw [w26]);(try rw [w28]);all_goals exact (@ZgE fb D (Int.tdiv 1000000000 ((N.lim D).getD ((↑(N.lim D).length:Int)-1).toNat default+1)) k29)) (ce (by (try rw [w20]);(try rw [w22]);(try rw [w26]);(try rw [w28]);all_goals exact (@ZgE fa A (Int.tdiv 1000000000 ((N.lim D).getD ((↑(N.lim D).length:Int)-1).toNat default+1)) k49)) c0)) (by (try rw [w1]);(try rw [w20]);(try rw [w22]);(try rw [w26]);(try rw [w28]);(try rw [w38]);(try rw [w40]);(try rw [w48]);(try rw [w50]);(try rw [w59]);all_goals exact H)
theorem rPartsA0 (V U:Nat) (s t i:Int) (n:Nat) (o:List Int) (R2:Nat) (dq:AV) (H :
  ((i>=0)->(Ev M1 (Conf.pure 103 [AV.vec true 1 [vu ((N.lim U).getD i.toNat default)]]) (vf (us (N.lim R2))) []) /\
   (0<=i) /\
   (i.toNat<(N.lim U).length) /\
   ZcV V U s t i n o R2 (Zaf dq)) /\
  (¬(i>=0)->Zd2 s n o (Zaf dq))) :
 ZcD V U s t i n o (Zaf dq):=by
 unfold ZcD
 rcases xq H with ⟨d2,H⟩|⟨d2,H⟩
 ·obtain ⟨k3,k5,H⟩:=H
  have w6:(us (N.lim U)).length=(N.lim U).length:=List.length_map ..
  have i7:(decide (i.toNat<(us (N.lim U)).length))=true ↔ (i.toNat<(N.lim U).length):=(by (try rw [w6]);all_goals exact Zab)
  obtain ⟨k8,H⟩:=H
  exact Zad (G:=Zae Zcd [(14,3,.elem (vu ((N.lim U).getD i.toNat default))),(14,7,.call (.vec false 1 ((N.lim R2).map (.int .u32))) none)] []) 10 [true] ⟨(atC (cd Tryz.f124) [1,1,1,1,1,1,1,1,1,0,1,0,0,1,0,0,1,0]),[(8,vu s),(9,vf (us (N.lim V))),(10,vw t),(11,vf (us (N.lim R2))),(12,AV.ref 0 0 0 n),(13,vf (us (N.lim U))),(14,vi i)],[⟨us o,1,0,false,true⟩],_,[((us (N.lim U)).get?Internal i.toNat=some (vu ((N.lim U).getD i.toNat default)))],_⟩ (by kernel_rfl) (bc (Zan (Zab.2 d2)) (bc (Zab.2 k5) (bc (i7.2 k8) b0))) (qc (Zao k8) q0) (ce k3 c0) H
 ·have w9:[]=us []:=rfl
  exact Zad (G:=Zae Zcd [] []) 1000 [false] ⟨(atC (cd Tryz.f124) [1,1,1,1,1,1,1,1,1,1,1,1,0,1,0,0]),[(8,vu s),(11,AV.vnil),(12,AV.ref 0 0 0 n),(18,vw 0),(19,AV.row 1 0),(20,vi (-1))],[⟨us o,1,0,false,true⟩,⟨[],1,0,false,true⟩],_,[],_⟩ (by kernel_rfl) (bc (Zam (fun h=>d2 (Zab.1 h))) (bc rfl (bc rfl (bc rfl (bc rfl b0))))) q0 c0 (by (try rw [w9]);all_goals exact H)
theorem rPartsAE (V U:Nat) (s t i:Int) (n:Nat) (o:List Int) (R2:Nat) (dq:AV) (H :
  ((i>=0)->(Ev M1 (Conf.pure 103 [AV.vec true 1 [vu ((N.lim U).getD i.toNat default)]]) (vf (us (N.lim R2))) []) /\
   (0<=i) /\
   (i.toNat<(N.lim U).length) /\
   ZcV V U s t i n o R2 (Zaf dq)) /\
  (¬(i>=0)->Wp M1 (.run Zfd (atC (cd Tryz.f124) [1,1,1,1,1,1,1,1,1,1,1,1,0,1,0,0]) [(8,vu s),(11,vf []),(12,AV.ref 0 0 0 n),(18,vw 0),(19,AV.row 1 0),(20,vi (-1))] [{ elems:=us o,es:=1,ver:=0,frozen:=false,clean:=true },{ elems:=[],es:=1,ver:=0,frozen:=false,clean:=true }]) (Zaf dq))) :
 Zc4 V U s t i n o (Zaf dq):=by
 unfold Zc4
 rcases xq H with ⟨d2,H⟩|⟨d2,H⟩
 ·obtain ⟨k3,k5,H⟩:=H
  have w6:(us (N.lim U)).length=(N.lim U).length:=List.length_map ..
  have i7:(decide (i.toNat<(us (N.lim U)).length))=true ↔ (i.toNat<(N.lim U).length):=(by (try rw [w6]);all_goals exact Zab)
  obtain ⟨k8,H⟩:=H
  exact Zad (G:=Zae Zcd [(14,3,.elem (vu ((N.lim U).getD i.toNat default))),(14,7,.call (.vec false 1 ((N.lim R2).map (.int .u32))) none)] []) 10 [true] ⟨(atC (cd Tryz.f124) [1,1,1,1,1,1,1,1,1,0,1,0,0,1,0,0,1,0]),[(8,vu s),(9,vf (us (N.lim V))),(10,vw t),(11,vf (us (N.lim R2))),(12,AV.ref 0 0 0 n),(13,vf (us (N.lim U))),(14,vi i)],[⟨us o,1,0,false,true⟩],_,[((us (N.lim U)).get?Internal i.toNat=some (vu ((N.lim U).getD i.toNat default)))],_⟩ (by kernel_rfl) (bc (Zan (Zab.2 d2)) (bc (Zab.2 k5) (bc (i7.2 k8) b0))) (qc (Zao k8) q0) (ce k3 c0) H
 ·have w9:[]=us []:=rfl
  exact Zad (G:=Zae Zcd [] []) 1000 [false] ⟨(atC (cd Tryz.f124) [1,1,1,1,1,1,1,1,1,1,1,1,0,1,0,0]),[(8,vu s),(11,vf []),(12,AV.ref 0 0 0 n),(18,vw 0),(19,AV.row 1 0),(20,vi (-1))],[⟨us o,1,0,false,true⟩,⟨[],1,0,false,true⟩],_,[],_⟩ (by kernel_rfl) (bc (Zam (fun h=>d2 (Zab.1 h))) (bc rfl (bc rfl (bc rfl (bc rfl b0))))) q0 c0 (by (try rw [w9]);all_goals exact H)
theorem rPartsA (V U:Nat) (s t i:Int) (n:Nat) (o:List Int) (c:Int) (l:List Int) (R2:Nat) (dq:AV) (H :
  ((i>=0)->(Ev M1 (Conf.pure 103 [vf (vu ((N.lim U).getD i.toNat default)::vu c::us l)]) (vf (us (N.lim R2))) []) /\
   (0<=i) /\
   (i.toNat<(N.lim U).length) /\
   ((1+(l.length+1))*4<=1099511627776) /\
   ZcV V U s t i n o R2 (Zaf dq)) /\
  (¬(i>=0)->(0<=(↑(l.length+1):Int)) /\
   ((↑(l.length+1):Int)*4<=1099511627776) /\
   ((↑(l.length+1):Int)<=1099511627776) /\
   (-9223372036854775808<=(↑(l.length+1):Int)-1/\(↑(l.length+1):Int)-1<=9223372036854775807) /\
   Wp M1 (.run Zfd (atC (cd Tryz.f124) [1,1,1,1,1,1,1,1,1,1,1,1,0,1,0,0]) [(8,vu s),(11,vf (vu c::us l)),(12,AV.ref 0 0 0 n),(18,vw 0),(19,AV.row 1 0),(20,vi ((↑(l.length+1):Int)-1))] [{ elems:=us o,es:=1,ver:=0,frozen:=false,clean:=true },{ elems:=vu 0::us (List.replicate l.length (0:Int)),es:=1,ver:=0,frozen:=false,clean:=true }]) (Zaf dq))) :
 ZdJ V U s t i n o c l (Zaf dq):=by
 unfold ZdJ
 rcases xq H with ⟨d2,H⟩|⟨d2,H⟩
 ·obtain ⟨k3,k5,H⟩:=H
  have w6:(us (N.lim U)).length=(N.lim U).length:=List.length_map ..
  have i7:(decide (i.toNat<(us (N.lim U)).length))=true ↔ (i.toNat<(N.lim U).length):=(by (try rw [w6]);all_goals exact Zab)
  obtain ⟨k8,H⟩:=H
  have w9:(us l).length=l.length:=List.length_map ..
  have i10:(decide ((1+((us l).length+1))*4<=1099511627776))=true ↔ ((1+(l.length+1))*4<=1099511627776):=(by (try rw [w9]);all_goals exact Zab)
  obtain ⟨k11,H⟩:=H
  exact Zad (G:=Zae Zcd [(14,3,.elem (vu ((N.lim U).getD i.toNat default))),(14,7,.call (.vec false 1 ((N.lim R2).map (.int .u32))) none)] []) 10 [true] ⟨(atC (cd Tryz.f124) [1,1,1,1,1,1,1,1,1,0,1,0,0,1,0,0,1,0]),[(8,vu s),(9,vf (us (N.lim V))),(10,vw t),(11,vf (us (N.lim R2))),(12,AV.ref 0 0 0 n),(13,vf (us (N.lim U))),(14,vi i)],[⟨us o,1,0,false,true⟩,⟨vu ((N.lim U).getD i.toNat default)::vu c::us l,1,0,true,true⟩],_,[((us (N.lim U)).get?Internal i.toNat=some (vu ((N.lim U).getD i.toNat default)))],_⟩ (by kernel_rfl) (bc (Zan (Zab.2 d2)) (bc (Zab.2 k5) (bc (i7.2 k8) (bc (i10.2 k11) (bc rfl b0))))) (qc (Zao k8) q0) (ce k3 c0) (Zas [0] (by kernel_rfl) H)
 ·have w12:(us l).length=l.length:=List.length_map ..
  have i13:(decide (0<=(↑((us l).length+1):Int)))=true ↔ (0<=(↑(l.length+1):Int)):=(by (try rw [w12]);all_goals exact Zab)
  obtain ⟨k14,H⟩:=H
  have i15:(decide ((↑((us l).length+1):Int)<=(↑((us l).length+1):Int)))=true ↔ ((↑(l.length+1):Int)<=(↑(l.length+1):Int)):=(by (try rw [w12]);all_goals exact Zab)
  have i16:(decide ((↑((us l).length+1):Int)*4<=1099511627776))=true ↔ ((↑(l.length+1):Int)*4<=1099511627776):=(by (try rw [w12]);all_goals exact Zab)
  obtain ⟨k17,H⟩:=H
  have i18:(decide ((↑((us l).length+1):Int)<=1099511627776))=true ↔ ((↑(l.length+1):Int)<=1099511627776):=(by (try rw [w12]);all_goals exact Zab)
  obtain ⟨k19,H⟩:=H
  have w20:List.replicate l.length (vu 0)=us (List.replicate l.length (0:Int)):=(Zdy rfl)
  obtain ⟨k21,H⟩:=H
  have w22:wi ((↑(l.length+1):Int)-1)=(↑(l.length+1):Int)-1:=wI64 k21
  exact Zad (G:=Zae Zcd [] []) 1000 [false] ⟨(atC (cd Tryz.f124) [1,1,1,1,1,1,1,1,1,1,1,1,0,1,0,0]),[(8,vu s),(11,vf (vu c::us l)),(12,AV.ref 0 0 0 n),(18,vw 0),(19,AV.row 1 0),(20,vi (wi ((↑((us l).length+1):Int)-1)))],[⟨us o,1,0,false,true⟩,⟨vu 0::List.replicate (us l).length (vu 0),1,0,false,true⟩],[(decide (i>=0))==false,decide (0<=(↑((us l).length+1):Int)),decide ((↑((us l).length+1):Int)<=(↑((us l).length+1):Int)),decide ((↑((us l).length+1):Int)*4<=1099511627776),decide ((↑((us l).length+1):Int)<=1099511627776)],[],_⟩ (by kernel_rfl) (bc (Zam (fun h=>d2 (Zab.1 h))) (bc (i13.2 k14) (bc (i15.2 (by omega)) (bc (i16.2 k17) (bc (i18.2 k19) b0))))) q0 c0 (by (try rw [w12]);(try rw [w20]);(try rw [w22]);all_goals exact H)
noncomputable abbrev zNwD6 (V:Nat):=us (N.lim (V*Int.toNat 999999999))
noncomputable abbrev zNwD7 (V:Nat) (R2:Nat) (t:Int):=us (N.lim (V*(((N.lim R2).getD (↑(N.lim V).length:Int).toNat default*1000000000+(N.lim R2).getD ((↑(N.lim V).length:Int)-1).toNat default).tdiv t).toNat))
noncomputable abbrev zNwD8 (V:Nat) (R2:Nat) (t:Int):=us (N.lim (V*(((N.lim R2).getD (↑(N.lim V).length:Int).toNat default*1000000000).tdiv t).toNat))
noncomputable abbrev zNwD9 (R2:Nat) (V:Nat):=vu ((N.lim R2).getD ((↑(N.lim V).length:Int)-1).toNat default)
noncomputable abbrev zNwD10 (V:Nat) (R2:Nat) (t:Int):=us (N.lim (V*((0+(N.lim R2).getD ((↑(N.lim V).length:Int)-1).toNat default).tdiv t).toNat))
noncomputable abbrev zNwD11 (R2:Nat) (V:Nat):=(↑(N.lim R2).length:Int)>=(↑(N.lim V).length:Int)
noncomputable abbrev zNwD12 (V:Nat) (t:Int):=us (N.lim (V*(Int.tdiv 0 t).toNat))
theorem rPartsB (V U:Nat) (s t i:Int) (n:Nat) (o:List Int) (R2:Nat)  (dq:AV) (H :
  (((↑(N.lim R2).length:Int)>(↑(N.lim V).length:Int))->(0<=(↑(N.lim V).length:Int)) /\
   ((↑(N.lim V).length:Int).toNat<(N.lim R2).length) /\
   (0<=(N.lim R2).getD (↑(N.lim V).length:Int).toNat default/\(N.lim R2).getD (↑(N.lim V).length:Int).toNat default<=18446744073709551615) /\
   (0<=(N.lim R2).getD (↑(N.lim V).length:Int).toNat default*1000000000/\(N.lim R2).getD (↑(N.lim V).length:Int).toNat default*1000000000<=18446744073709551615) /\
   (((↑(N.lim R2).length:Int)>=(↑(N.lim V).length:Int))->(-9223372036854775808<=(↑(N.lim V).length:Int)-1/\(↑(N.lim V).length:Int)-1<=9223372036854775807) /\
    (0<=(↑(N.lim V).length:Int)-1) /\
    (((↑(N.lim V).length:Int)-1).toNat<(N.lim R2).length) /\
    (0<=(N.lim R2).getD ((↑(N.lim V).length:Int)-1).toNat default/\(N.lim R2).getD ((↑(N.lim V).length:Int)-1).toNat default<=18446744073709551615) /\
    (0<=(N.lim R2).getD (↑(N.lim V).length:Int).toNat default*1000000000+(N.lim R2).getD ((↑(N.lim V).length:Int)-1).toNat default/\(N.lim R2).getD (↑(N.lim V).length:Int).toNat default*1000000000+(N.lim R2).getD ((↑(N.lim V).length:Int)-1).toNat default<=18446744073709551615) /\
    (¬t=0) /\
    (0<=((N.lim R2).getD (↑(N.lim V).length:Int).toNat default*1000000000+(N.lim R2).getD ((↑(N.lim V).length:Int)-1).toNat default).tdiv t/\((N.lim R2).getD (↑(N.lim V).length:Int).toNat default*1000000000+(N.lim R2).getD ((↑(N.lim V).length:Int)-1).toNat default).tdiv t<=18446744073709551615) /\
    ((((N.lim R2).getD (↑(N.lim V).length:Int).toNat default*1000000000+(N.lim R2).getD ((↑(N.lim V).length:Int)-1).toNat default).tdiv t>999999999)->(N.okB (↑V:Int)/\N.dig 999999999) /\
     Za4 V U s t i n o R2 (V*Int.toNat 999999999) 999999999 (Zaf dq)) /\
    (¬(((N.lim R2).getD (↑(N.lim V).length:Int).toNat default*1000000000+(N.lim R2).getD ((↑(N.lim V).length:Int)-1).toNat default).tdiv t>999999999)->(0<=((N.lim R2).getD (↑(N.lim V).length:Int).toNat default*1000000000+(N.lim R2).getD ((↑(N.lim V).length:Int)-1).toNat default).tdiv t/\((N.lim R2).getD (↑(N.lim V).length:Int).toNat default*1000000000+(N.lim R2).getD ((↑(N.lim V).length:Int)-1).toNat default).tdiv t<=4294967295) /\
     (N.okB (↑V:Int)/\N.dig (((N.lim R2).getD (↑(N.lim V).length:Int).toNat default*1000000000+(N.lim R2).getD ((↑(N.lim V).length:Int)-1).toNat default).tdiv t)) /\
     Za4 V U s t i n o R2 (V*(((N.lim R2).getD (↑(N.lim V).length:Int).toNat default*1000000000+(N.lim R2).getD ((↑(N.lim V).length:Int)-1).toNat default).tdiv t).toNat) (((N.lim R2).getD (↑(N.lim V).length:Int).toNat default*1000000000+(N.lim R2).getD ((↑(N.lim V).length:Int)-1).toNat default).tdiv t) (Zaf dq))) /\
   (¬((↑(N.lim R2).length:Int)>=(↑(N.lim V).length:Int))->(¬t=0) /\
    (0<=((N.lim R2).getD (↑(N.lim V).length:Int).toNat default*1000000000).tdiv t/\((N.lim R2).getD (↑(N.lim V).length:Int).toNat default*1000000000).tdiv t<=18446744073709551615) /\
    ((((N.lim R2).getD (↑(N.lim V).length:Int).toNat default*1000000000).tdiv t>999999999)->(N.okB (↑V:Int)/\N.dig 999999999) /\
     Za4 V U s t i n o R2 (V*Int.toNat 999999999) 999999999 (Zaf dq)) /\
    (¬(((N.lim R2).getD (↑(N.lim V).length:Int).toNat default*1000000000).tdiv t>999999999)->(0<=((N.lim R2).getD (↑(N.lim V).length:Int).toNat default*1000000000).tdiv t/\((N.lim R2).getD (↑(N.lim V).length:Int).toNat default*1000000000).tdiv t<=4294967295) /\
     (N.okB (↑V:Int)/\N.dig (((N.lim R2).getD (↑(N.lim V).length:Int).toNat default*1000000000).tdiv t)) /\
     Za4 V U s t i n o R2 (V*(((N.lim R2).getD (↑(N.lim V).length:Int).toNat default*1000000000).tdiv t).toNat) (((N.lim R2).getD (↑(N.lim V).length:Int).toNat default*1000000000).tdiv t) (Zaf dq)))) /\
  (¬((↑(N.lim R2).length:Int)>(↑(N.lim V).length:Int))->(((↑(N.lim R2).length:Int)>=(↑(N.lim V).length:Int))->(-9223372036854775808<=(↑(N.lim V).length:Int)-1/\(↑(N.lim V).length:Int)-1<=9223372036854775807) /\
    (0<=(↑(N.lim V).length:Int)-1) /\
    (((↑(N.lim V).length:Int)-1).toNat<(N.lim R2).length) /\
    (0<=(N.lim R2).getD ((↑(N.lim V).length:Int)-1).toNat default/\(N.lim R2).getD ((↑(N.lim V).length:Int)-1).toNat default<=18446744073709551615) /\
    (0<=0+(N.lim R2).getD ((↑(N.lim V).length:Int)-1).toNat default/\0+(N.lim R2).getD ((↑(N.lim V).length:Int)-1).toNat default<=18446744073709551615) /\
    (¬t=0) /\
    (0<=(0+(N.lim R2).getD ((↑(N.lim V).length:Int)-1).toNat default).tdiv t/\(0+(N.lim R2).getD ((↑(N.lim V).length:Int)-1).toNat default).tdiv t<=18446744073709551615) /\
    (((0+(N.lim R2).getD ((↑(N.lim V).length:Int)-1).toNat default).tdiv t>999999999)->(N.okB (↑V:Int)/\N.dig 999999999) /\
     Za4 V U s t i n o R2 (V*Int.toNat 999999999) 999999999 (Zaf dq)) /\
    (¬((0+(N.lim R2).getD ((↑(N.lim V).length:Int)-1).toNat default).tdiv t>999999999)->(0<=(0+(N.lim R2).getD ((↑(N.lim V).length:Int)-1).toNat default).tdiv t/\(0+(N.lim R2).getD ((↑(N.lim V).length:Int)-1).toNat default).tdiv t<=4294967295) /\
     (N.okB (↑V:Int)/\N.dig ((0+(N.lim R2).getD ((↑(N.lim V).length:Int)-1).toNat default).tdiv t)) /\
     Za4 V U s t i n o R2 (V*((0+(N.lim R2).getD ((↑(N.lim V).length:Int)-1).toNat default).tdiv t).toNat) ((0+(N.lim R2).getD ((↑(N.lim V).length:Int)-1).toNat default).tdiv t) (Zaf dq))) /\
   (¬((↑(N.lim R2).length:Int)>=(↑(N.lim V).length:Int))->(¬t=0) /\
    (0<=Int.tdiv 0 t/\Int.tdiv 0 t<=18446744073709551615) /\
    ((Int.tdiv 0 t>999999999)->(N.okB (↑V:Int)/\N.dig 999999999) /\
     Za4 V U s t i n o R2 (V*Int.toNat 999999999) 999999999 (Zaf dq)) /\
    (¬(Int.tdiv 0 t>999999999)->(0<=Int.tdiv 0 t/\Int.tdiv 0 t<=4294967295) /\
     (N.okB (↑V:Int)/\N.dig (Int.tdiv 0 t)) /\
     Za4 V U s t i n o R2 (V*(Int.tdiv 0 t).toNat) (Int.tdiv 0 t) (Zaf dq))))) :
 ZcV V U s t i n o R2 (Zaf dq):=by
 unfold ZcV
 have w1:(us (N.lim R2)).length=(N.lim R2).length:=List.length_map ..
 have w2:(us (N.lim V)).length=(N.lim V).length:=List.length_map ..
 have i3:(decide ((↑(us (N.lim R2)).length:Int)>(↑(us (N.lim V)).length:Int)))=true ↔ ((↑(N.lim R2).length:Int)>(↑(N.lim V).length:Int)):=(by (try rw [w1]);(try rw [w2]);all_goals exact Zab)
 rcases xq H with ⟨d4,H⟩|⟨d4,H⟩
 ·have i5:(decide (0<=(↑(us (N.lim V)).length:Int)))=true ↔ (0<=(↑(N.lim V).length:Int)):=(by (try rw [w2]);all_goals exact Zab)
  obtain ⟨k6,H⟩:=H
  have i7:(decide ((↑(us (N.lim V)).length:Int).toNat<(us (N.lim R2)).length))=true ↔ ((↑(N.lim V).length:Int).toNat<(N.lim R2).length):=(by (try rw [w1]);(try rw [w2]);all_goals exact Zab)
  obtain ⟨k8,k9,H⟩:=H
  have w10:wu ((N.lim R2).getD (↑(N.lim V).length:Int).toNat default)=(N.lim R2).getD (↑(N.lim V).length:Int).toNat default:=wU64 k9
  obtain ⟨k11,H⟩:=H
  have w12:wu ((N.lim R2).getD (↑(N.lim V).length:Int).toNat default*1000000000)=(N.lim R2).getD (↑(N.lim V).length:Int).toNat default*1000000000:=wU64 k11
  have i13:(decide ((↑(us (N.lim R2)).length:Int)>=(↑(us (N.lim V)).length:Int)))=true ↔ (zNwD11 R2 V):=(by (try rw [w1]);(try rw [w2]);all_goals exact Zab)
  refine Zad (G:=Zae Zcd [(17,4,.elem (vu ((N.lim R2).getD (↑(N.lim V).length:Int).toNat default)))] []) 9 [true] ⟨(atC (cd Tryz.f124) [1,1,1,1,1,1,1,1,1,0,1,0,0,1,0,0,1,1,1,0,1]),[(8,vu s),(9,vf (us (N.lim V))),(10,vw t),(11,vf (us (N.lim R2))),(12,AV.ref 0 0 0 n),(13,vf (us (N.lim U))),(14,vi i),(15,vw (wu (wu ((N.lim R2).getD (↑(N.lim V).length:Int).toNat default)*1000000000))),(103,vb (decide ((↑(us (N.lim R2)).length:Int)>=(↑(us (N.lim V)).length:Int))))],[⟨us o,1,0,false,true⟩],_,[((us (N.lim R2)).get?Internal (↑(us (N.lim V)).length:Int).toNat=some (vu ((N.lim R2).getD (↑(N.lim V).length:Int).toNat default)))],_⟩ (by kernel_rfl) (bc (Zan (i3.2 d4)) (bc (i5.2 k6) (bc (i7.2 k8) b0))) (qc (by (try rw [w2]);all_goals exact (Zao k8)) q0) c0 ?_
  rcases xq H with ⟨d14,H⟩|⟨d14,H⟩
  ·obtain ⟨k15,H⟩:=H
   have w16:wi ((↑(N.lim V).length:Int)-1)=(↑(N.lim V).length:Int)-1:=wI64 k15
   have i17:(decide (0<=wi ((↑(us (N.lim V)).length:Int)-1)))=true ↔ (0<=(↑(N.lim V).length:Int)-1):=(by (try rw [w2]);(try rw [w16]);all_goals exact Zab)
   obtain ⟨k18,H⟩:=H
   have i19:(decide ((wi ((↑(us (N.lim V)).length:Int)-1)).toNat<(us (N.lim R2)).length))=true ↔ (((↑(N.lim V).length:Int)-1).toNat<(N.lim R2).length):=(by (try rw [w1]);(try rw [w2]);(try rw [w16]);all_goals exact Zab)
   obtain ⟨k20,k21,H⟩:=H
   have w22:wu ((N.lim R2).getD ((↑(N.lim V).length:Int)-1).toNat default)=(N.lim R2).getD ((↑(N.lim V).length:Int)-1).toNat default:=wU64 k21
   obtain ⟨k23,H⟩:=H
   have w24:wu ((N.lim R2).getD (↑(N.lim V).length:Int).toNat default*1000000000+(N.lim R2).getD ((↑(N.lim V).length:Int)-1).toNat default)=(N.lim R2).getD (↑(N.lim V).length:Int).toNat default*1000000000+(N.lim R2).getD ((↑(N.lim V).length:Int)-1).toNat default:=wU64 k23
   obtain ⟨k26,k27,H⟩:=H
   have w28:wu (((N.lim R2).getD (↑(N.lim V).length:Int).toNat default*1000000000+(N.lim R2).getD ((↑(N.lim V).length:Int)-1).toNat default).tdiv t)=((N.lim R2).getD (↑(N.lim V).length:Int).toNat default*1000000000+(N.lim R2).getD ((↑(N.lim V).length:Int)-1).toNat default).tdiv t:=wU64 k27
   have i29:(decide (wu ((wu (wu (wu ((N.lim R2).getD (↑(N.lim V).length:Int).toNat default)*1000000000)+wu ((N.lim R2).getD ((↑(N.lim V).length:Int)-1).toNat default))).tdiv t)>999999999))=true ↔ (((N.lim R2).getD (↑(N.lim V).length:Int).toNat default*1000000000+(N.lim R2).getD ((↑(N.lim V).length:Int)-1).toNat default).tdiv t>999999999):=(by (try rw [w10]);(try rw [w12]);(try rw [w22]);(try rw [w24]);(try rw [w28]);all_goals exact Zab)
   refine Zad (G:=Zae Zcd [(19,6,.elem (zNwD9 R2 V))] []) 7 [true] ⟨(atC (cd Tryz.f124) [1,1,1,1,1,1,1,1,1,0,1,0,0,1,0,0,1,1,1,1,1,0,1]),[(8,vu s),(9,vf (us (N.lim V))),(10,vw t),(11,vf (us (N.lim R2))),(12,AV.ref 0 0 0 n),(13,vf (us (N.lim U))),(14,vi i),(16,vw (wu ((wu (wu (wu ((N.lim R2).getD (↑(N.lim V).length:Int).toNat default)*1000000000)+wu ((N.lim R2).getD ((↑(N.lim V).length:Int)-1).toNat default))).tdiv t))),(117,vb (decide (wu ((wu (wu (wu ((N.lim R2).getD (↑(N.lim V).length:Int).toNat default)*1000000000)+wu ((N.lim R2).getD ((↑(N.lim V).length:Int)-1).toNat default))).tdiv t)>999999999)))],[⟨us o,1,0,false,true⟩],_,[((us (N.lim R2)).get?Internal (wi ((↑(us (N.lim V)).length:Int)-1)).toNat=some (zNwD9 R2 V))],_⟩ (by kernel_rfl) (bc (Zan (i13.2 d14)) (bc (i17.2 k18) (bc (i19.2 k20) (bc (Zde.2 k26) b0)))) (qc (by (try rw [w2]);(try rw [w16]);all_goals exact (Zao k20)) q0) c0 ?_
   rcases xq H with ⟨d30,H⟩|⟨d30,H⟩
   ·obtain ⟨k31,H⟩:=H
    exact Zad (G:=Zae Zcd [(23,3,.call (vf (zNwD6 V)) none)] []) 1000 [true] ⟨(atC (cd Tryz.f124) [1,1,1,1,1,1,1,1,1,0,1,0,0,1,0,0,1,1,1,1,1,1,1,0,0,0]),[(8,vu s),(9,vf (us (N.lim V))),(10,vw t),(11,vf (us (N.lim R2))),(12,AV.ref 0 0 0 n),(13,vf (us (N.lim U))),(14,vi i),(16,vw 999999999),(17,vf (zNwD6 V))],[⟨us o,1,0,false,true⟩],_,[],_⟩ (by kernel_rfl) (bc (Zan (i29.2 d30)) b0) q0 (ce (@ZgE false V 999999999 k31) c0) H
   ·obtain ⟨k32,H⟩:=H
    have w33:wv (((N.lim R2).getD (↑(N.lim V).length:Int).toNat default*1000000000+(N.lim R2).getD ((↑(N.lim V).length:Int)-1).toNat default).tdiv t)=((N.lim R2).getD (↑(N.lim V).length:Int).toNat default*1000000000+(N.lim R2).getD ((↑(N.lim V).length:Int)-1).toNat default).tdiv t:=wU32 k32
    obtain ⟨k34,H⟩:=H
    exact Zad (G:=Zae Zcd [(23,3,.call (vf (zNwD7 V R2 t)) none)] []) 1000 [false] ⟨(atC (cd Tryz.f124) [1,1,1,1,1,1,1,1,1,0,1,0,0,1,0,0,1,1,1,1,1,1,1,0,0,0]),[(8,vu s),(9,vf (us (N.lim V))),(10,vw t),(11,vf (us (N.lim R2))),(12,AV.ref 0 0 0 n),(13,vf (us (N.lim U))),(14,vi i),(16,vw (wu ((wu (wu (wu ((N.lim R2).getD (↑(N.lim V).length:Int).toNat default)*1000000000)+wu ((N.lim R2).getD ((↑(N.lim V).length:Int)-1).toNat default))).tdiv t))),(17,vf (zNwD7 V R2 t))],[⟨us o,1,0,false,true⟩],_,[],[pc 138 [vf (us (N.lim V)),vu (wv (wu ((wu (wu (wu ((N.lim R2).getD (↑(N.lim V).length:Int).toNat default)*1000000000)+wu ((N.lim R2).getD ((↑(N.lim V).length:Int)-1).toNat default))).tdiv t)))] (vf (zNwD7 V R2 t))]⟩ (by kernel_rfl) (bc (Zam (fun h=>d30 (i29.1 h))) b0) q0 (ce (by (try rw [w10]);(try rw [w12]);(try rw [w22]);(try rw [w24]);(try rw [w28]);(try rw [w33]);all_goals exact (@ZgE false V (((N.lim R2).getD (↑(N.lim V).length:Int).toNat default*1000000000+(N.lim R2).getD ((↑(N.lim V).length:Int)-1).toNat default).tdiv t) k34)) c0) (by (try rw [w10]);(try rw [w12]);(try rw [w22]);(try rw [w24]);(try rw [w28]);all_goals exact H)
  ·obtain ⟨k36,k37,H⟩:=H
   have w38:wu (((N.lim R2).getD (↑(N.lim V).length:Int).toNat default*1000000000).tdiv t)=((N.lim R2).getD (↑(N.lim V).length:Int).toNat default*1000000000).tdiv t:=wU64 k37
   have i39:(decide (wu ((wu (wu ((N.lim R2).getD (↑(N.lim V).length:Int).toNat default)*1000000000)).tdiv t)>999999999))=true ↔ (((N.lim R2).getD (↑(N.lim V).length:Int).toNat default*1000000000).tdiv t>999999999):=(by (try rw [w10]);(try rw [w12]);(try rw [w38]);all_goals exact Zab)
   rcases xq H with ⟨d40,H⟩|⟨d40,H⟩
   ·obtain ⟨k41,H⟩:=H
    exact Zad (G:=Zae Zcd [(23,3,.call (vf (zNwD6 V)) none)] []) 1000 [false,true] ⟨(atC (cd Tryz.f124) [1,1,1,1,1,1,1,1,1,0,1,0,0,1,0,0,1,1,1,1,1,1,1,0,0,0]),[(8,vu s),(9,vf (us (N.lim V))),(10,vw t),(11,vf (us (N.lim R2))),(12,AV.ref 0 0 0 n),(13,vf (us (N.lim U))),(14,vi i),(16,vw 999999999),(17,vf (zNwD6 V))],[⟨us o,1,0,false,true⟩],_,[],_⟩ (by kernel_rfl) (bc (Zam (fun h=>d14 (i13.1 h))) (bc (Zde.2 k36) (bc (Zan (i39.2 d40)) b0))) q0 (ce (@ZgE false V 999999999 k41) c0) H
   ·obtain ⟨k42,H⟩:=H
    have w43:wv (((N.lim R2).getD (↑(N.lim V).length:Int).toNat default*1000000000).tdiv t)=((N.lim R2).getD (↑(N.lim V).length:Int).toNat default*1000000000).tdiv t:=wU32 k42
    obtain ⟨k44,H⟩:=H
    exact Zad (G:=Zae Zcd [(23,3,.call (vf (zNwD8 V R2 t)) none)] []) 1000 [false,false] ⟨(atC (cd Tryz.f124) [1,1,1,1,1,1,1,1,1,0,1,0,0,1,0,0,1,1,1,1,1,1,1,0,0,0]),[(8,vu s),(9,vf (us (N.lim V))),(10,vw t),(11,vf (us (N.lim R2))),(12,AV.ref 0 0 0 n),(13,vf (us (N.lim U))),(14,vi i),(16,vw (wu ((wu (wu ((N.lim R2).getD (↑(N.lim V).length:Int).toNat default)*1000000000)).tdiv t))),(17,vf (zNwD8 V R2 t))],[⟨us o,1,0,false,true⟩],_,[],[pc 138 [vf (us (N.lim V)),vu (wv (wu ((wu (wu ((N.lim R2).getD (↑(N.lim V).length:Int).toNat default)*1000000000)).tdiv t)))] (vf (zNwD8 V R2 t))]⟩ (by kernel_rfl) (bc (Zam (fun h=>d14 (i13.1 h))) (bc (Zde.2 k36) (bc (Zam (fun h=>d40 (i39.1 h))) b0))) q0 (ce (by (try rw [w10]);(try rw [w12]);(try rw [w38]);(try rw [w43]);all_goals exact (@ZgE false V (((N.lim R2).getD (↑(N.lim V).length:Int).toNat default*1000000000).tdiv t) k44)) c0) (by (try rw [w10]);(try rw [w12]);(try rw [w38]);all_goals exact H)
 ·have i45:(decide ((↑(us (N.lim R2)).length:Int)>=(↑(us (N.lim V)).length:Int)))=true ↔ (zNwD11 R2 V):=(by (try rw [w1]);(try rw [w2]);all_goals exact Zab)
  rcases xq H with ⟨d46,H⟩|⟨d46,H⟩
  ·obtain ⟨k47,H⟩:=H
   have w48:wi ((↑(N.lim V).length:Int)-1)=(↑(N.lim V).length:Int)-1:=wI64 k47
   have i49:(decide (0<=wi ((↑(us (N.lim V)).length:Int)-1)))=true ↔ (0<=(↑(N.lim V).length:Int)-1):=(by (try rw [w2]);(try rw [w48]);all_goals exact Zab)
   obtain ⟨k50,H⟩:=H
   have i51:(decide ((wi ((↑(us (N.lim V)).length:Int)-1)).toNat<(us (N.lim R2)).length))=true ↔ (((↑(N.lim V).length:Int)-1).toNat<(N.lim R2).length):=(by (try rw [w1]);(try rw [w2]);(try rw [w48]);all_goals exact Zab)
   obtain ⟨k52,k53,H⟩:=H
   have w54:wu ((N.lim R2).getD ((↑(N.lim V).length:Int)-1).toNat default)=(N.lim R2).getD ((↑(N.lim V).length:Int)-1).toNat default:=wU64 k53
   obtain ⟨k55,H⟩:=H
   have w56:wu (0+(N.lim R2).getD ((↑(N.lim V).length:Int)-1).toNat default)=0+(N.lim R2).getD ((↑(N.lim V).length:Int)-1).toNat default:=wU64 k55
   obtain ⟨k58,k59,H⟩:=H
   have w60:wu ((0+(N.lim R2).getD ((↑(N.lim V).length:Int)-1).toNat default).tdiv t)=(0+(N.lim R2).getD ((↑(N.lim V).length:Int)-1).toNat default).tdiv t:=wU64 k59
   have i61:(decide (wu ((wu (0+wu ((N.lim R2).getD ((↑(N.lim V).length:Int)-1).toNat default))).tdiv t)>999999999))=true ↔ ((0+(N.lim R2).getD ((↑(N.lim V).length:Int)-1).toNat default).tdiv t>999999999):=(by (try rw [w54]);(try rw [w56]);(try rw [w60]);all_goals exact Zab)
   refine Zad (G:=Zae Zcd [(19,6,.elem (zNwD9 R2 V))] []) 16 [false,true] ⟨(atC (cd Tryz.f124) [1,1,1,1,1,1,1,1,1,0,1,0,0,1,0,0,1,1,1,1,1,0,1]),[(8,vu s),(9,vf (us (N.lim V))),(10,vw t),(11,vf (us (N.lim R2))),(12,AV.ref 0 0 0 n),(13,vf (us (N.lim U))),(14,vi i),(16,vw (wu ((wu (0+wu ((N.lim R2).getD ((↑(N.lim V).length:Int)-1).toNat default))).tdiv t))),(117,vb (decide (wu ((wu (0+wu ((N.lim R2).getD ((↑(N.lim V).length:Int)-1).toNat default))).tdiv t)>999999999)))],[⟨us o,1,0,false,true⟩],_,[((us (N.lim R2)).get?Internal (wi ((↑(us (N.lim V)).length:Int)-1)).toNat=some (zNwD9 R2 V))],_⟩ (by kernel_rfl) (bc (Zam (fun h=>d4 (i3.1 h))) (bc (Zan (i45.2 d46)) (bc (i49.2 k50) (bc (i51.2 k52) (bc (Zde.2 k58) b0))))) (qc (by (try rw [w2]);(try rw [w48]);all_goals exact (Zao k52)) q0) c0 ?_
   rcases xq H with ⟨d62,H⟩|⟨d62,H⟩
   ·obtain ⟨k63,H⟩:=H
    exact Zad (G:=Zae Zcd [(23,3,.call (vf (zNwD6 V)) none)] []) 1000 [true] ⟨(atC (cd Tryz.f124) [1,1,1,1,1,1,1,1,1,0,1,0,0,1,0,0,1,1,1,1,1,1,1,0,0,0]),[(8,vu s),(9,vf (us (N.lim V))),(10,vw t),(11,vf (us (N.lim R2))),(12,AV.ref 0 0 0 n),(13,vf (us (N.lim U))),(14,vi i),(16,vw 999999999),(17,vf (zNwD6 V))],[⟨us o,1,0,false,true⟩],_,[],_⟩ (by kernel_rfl) (bc (Zan (i61.2 d62)) b0) q0 (ce (@ZgE false V 999999999 k63) c0) H
   ·obtain ⟨k64,H⟩:=H
    have w65:wv ((0+(N.lim R2).getD ((↑(N.lim V).length:Int)-1).toNat default).tdiv t)=(0+(N.lim R2).getD ((↑(N.lim V).length:Int)-1).toNat default).tdiv t:=wU32 k64
    obtain ⟨k66,H⟩:=H
    exact Zad (G:=Zae Zcd [(23,3,.call (vf (zNwD10 V R2 t)) none)] []) 1000 [false] ⟨(atC (cd Tryz.f124) [1,1,1,1,1,1,1,1,1,0,1,0,0,1,0,0,1,1,1,1,1,1,1,0,0,0]),[(8,vu s),(9,vf (us (N.lim V))),(10,vw t),(11,vf (us (N.lim R2))),(12,AV.ref 0 0 0 n),(13,vf (us (N.lim U))),(14,vi i),(16,vw (wu ((wu (0+wu ((N.lim R2).getD ((↑(N.lim V).length:Int)-1).toNat default))).tdiv t))),(17,vf (zNwD10 V R2 t))],[⟨us o,1,0,false,true⟩],_,[],[pc 138 [vf (us (N.lim V)),vu (wv (wu ((wu (0+wu ((N.lim R2).getD ((↑(N.lim V).length:Int)-1).toNat default))).tdiv t)))] (vf (zNwD10 V R2 t))]⟩ (by kernel_rfl) (bc (Zam (fun h=>d62 (i61.1 h))) b0) q0 (ce (by (try rw [w54]);(try rw [w56]);(try rw [w60]);(try rw [w65]);all_goals exact (@ZgE false V ((0+(N.lim R2).getD ((↑(N.lim V).length:Int)-1).toNat default).tdiv t) k66)) c0) (by (try rw [w54]);(try rw [w56]);(try rw [w60]);all_goals exact H)
  ·obtain ⟨k68,k69,H⟩:=H
   have w70:wu (Int.tdiv 0 t)=Int.tdiv 0 t:=wU64 k69
   have i71:(decide (wu (Int.tdiv 0 t)>999999999))=true ↔ (Int.tdiv 0 t>999999999):=(by (try rw [w70]);all_goals exact Zab)
   rcases xq H with ⟨d72,H⟩|⟨d72,H⟩
   ·obtain ⟨k73,H⟩:=H
    exact Zad (G:=Zae Zcd [(23,3,.call (vf (zNwD6 V)) none)] []) 1000 [false,false,true] ⟨(atC (cd Tryz.f124) [1,1,1,1,1,1,1,1,1,0,1,0,0,1,0,0,1,1,1,1,1,1,1,0,0,0]),[(8,vu s),(9,vf (us (N.lim V))),(10,vw t),(11,vf (us (N.lim R2))),(12,AV.ref 0 0 0 n),(13,vf (us (N.lim U))),(14,vi i),(16,vw 999999999),(17,vf (zNwD6 V))],[⟨us o,1,0,false,true⟩],_,[],_⟩ (by kernel_rfl) (bc (Zam (fun h=>d4 (i3.1 h))) (bc (Zam (fun h=>d46 (i45.1 h))) (bc (Zde.2 k68) (bc (Zan (i71.2 d72)) b0)))) q0 (ce (@ZgE false V 999999999 k73) c0) H
   ·obtain ⟨k74,H⟩:=H
    have w75:wv (Int.tdiv 0 t)=Int.tdiv 0 t:=wU32 k74
    obtain ⟨k76,H⟩:=H
    exact Zad (G:=Zae Zcd [(23,3,.call (vf (zNwD12 V t)) none)] []) 1000 [false,false,false] ⟨(atC (cd Tryz.f124) [1,1,1,1,1,1,1,1,1,0,1,0,0,1,0,0,1,1,1,1,1,1,1,0,0,0]),[(8,vu s),(9,vf (us (N.lim V))),(10,vw t),(11,vf (us (N.lim R2))),(12,AV.ref 0 0 0 n),(13,vf (us (N.lim U))),(14,vi i),(16,vw (wu (Int.tdiv 0 t))),(17,vf (zNwD12 V t))],[⟨us o,1,0,false,true⟩],_,[],[pc 138 [vf (us (N.lim V)),vu (wv (wu (Int.tdiv 0 t)))] (vf (zNwD12 V t))]⟩ (by kernel_rfl) (bc (Zam (fun h=>d4 (i3.1 h))) (bc (Zam (fun h=>d46 (i45.1 h))) (bc (Zde.2 k68) (bc (Zam (fun h=>d72 (i71.1 h))) b0)))) q0 (ce (by (try rw [w70]);(try rw [w75]);all_goals exact (@ZgE false V (Int.tdiv 0 t) k76)) c0) (by (try rw [w70]);all_goals exact H)
theorem rPartsH (V U:Nat) (s t i:Int) (n:Nat) (o:List Int) (R:Nat)  (dq:AV) (H :
  ((i>=0)->False) /\
  (¬(i>=0)->(0<=(↑(N.lim R).length:Int)) /\
   ((↑(N.lim R).length:Int)*4<=1099511627776) /\
   ((↑(N.lim R).length:Int)<=1099511627776) /\
   (-9223372036854775808<=(↑(N.lim R).length:Int)-1/\(↑(N.lim R).length:Int)-1<=9223372036854775807) /\
   Zcx R s 0 ((↑(N.lim R).length:Int)-1) n o (List.replicate (↑(N.lim R).length:Int).toNat (0:Int)) (Zaf dq))) :
 ZbS V U s t i n o R (Zaf dq):=by
 unfold ZbS
 rcases xq H with ⟨d2,H⟩|⟨d2,H⟩
 ·exact False.elim H
 ·have w3:(us (N.lim R)).length=(N.lim R).length:=List.length_map ..
  have i4:(decide (0<=(↑(us (N.lim R)).length:Int)))=true ↔ (0<=(↑(N.lim R).length:Int)):=(by (try rw [w3]);all_goals exact Zab)
  obtain ⟨k5,H⟩:=H
  have i6:(decide ((↑(us (N.lim R)).length:Int)<=(↑(us (N.lim R)).length:Int)))=true ↔ ((↑(N.lim R).length:Int)<=(↑(N.lim R).length:Int)):=(by (try rw [w3]);all_goals exact Zab)
  have i7:(decide ((↑(us (N.lim R)).length:Int)*4<=1099511627776))=true ↔ ((↑(N.lim R).length:Int)*4<=1099511627776):=(by (try rw [w3]);all_goals exact Zab)
  obtain ⟨k8,H⟩:=H
  have i9:(decide ((↑(us (N.lim R)).length:Int)<=1099511627776))=true ↔ ((↑(N.lim R).length:Int)<=1099511627776):=(by (try rw [w3]);all_goals exact Zab)
  obtain ⟨k10,H⟩:=H
  have w11:List.replicate (↑(N.lim R).length:Int).toNat (vu 0)=us (List.replicate (↑(N.lim R).length:Int).toNat (0:Int)):=(Zdy rfl)
  obtain ⟨k12,H⟩:=H
  have w13:wi ((↑(N.lim R).length:Int)-1)=(↑(N.lim R).length:Int)-1:=wI64 k12
  exact Zad (G:=Zae Zcd [] []) 1000 [false] ⟨(atC (cd Tryz.f124) [1,1,1,1,1,1,1,1,1,1,1,1,0,1,0,0]),[(8,vu s),(11,vf (us (N.lim R))),(12,AV.ref 0 0 0 n),(18,vw 0),(19,AV.row 1 0),(20,vi (wi ((↑(us (N.lim R)).length:Int)-1)))],[⟨us o,1,0,false,true⟩,⟨List.replicate (↑(us (N.lim R)).length:Int).toNat (vu 0),1,0,false,true⟩],[(decide (i>=0))==false,decide (0<=(↑(us (N.lim R)).length:Int)),decide ((↑(us (N.lim R)).length:Int)<=(↑(us (N.lim R)).length:Int)),decide ((↑(us (N.lim R)).length:Int)*4<=1099511627776),decide ((↑(us (N.lim R)).length:Int)<=1099511627776)],[],_⟩ (by kernel_rfl) (bc (Zam (fun h=>d2 (Zab.1 h))) (bc (i4.2 k5) (bc (i6.2 (by omega)) (bc (i7.2 k8) (bc (i9.2 k10) b0))))) q0 c0 (by (try rw [w3]);(try rw [w11]);(try rw [w13]);all_goals exact H)
theorem rPartsG (V U:Nat) (s t i:Int) (n:Nat) (o:List Int) (R p:Nat) (g:Int)  (dq:AV) (H :
  (N.Zav (N.cnt p)/\N.Zav (N.cnt R)) /\
  ((N.sgnI ((↑p:Int)-(↑R:Int))>0)->(0<=g-1/\g-1<=18446744073709551615) /\
   (N.Zav (N.cnt p)/\V<=p) /\
   Za4 V U s t i n o R (p-V) (g-1) (Zaf dq)) /\
  (¬(N.sgnI ((↑p:Int)-(↑R:Int))>0)->(N.Zav (N.cnt R)/\p<=R) /\
   (0<=i) /\
   (i.toNat<n) /\
   (0+i.toNat<o.length) /\
   (0<=g/\g<=4294967295) /\
   (-9223372036854775808<=i-1/\i-1<=9223372036854775807) /\
   ZbS V U s t (i-1) n (o.set (0+i.toNat) g) (R-p) (Zaf dq))) :
 Za4 V U s t i n o R p g (Zaf dq):=by
 unfold Za4
 obtain ⟨k1,H⟩:=H
 refine Zad (G:=Zae Zcd [(24,2,.call (vi (N.sgnI ((↑p:Int)-(↑R:Int)))) none)] []) 3 [] ⟨(atC (cd Tryz.f124) [1,1,1,1,1,1,1,1,1,0,1,0,0,1,0,0,1,1,1,1,1,1,1,0,0,0,0,1]),[(8,vu s),(9,vf (us (N.lim V))),(10,vw t),(11,vf (us (N.lim R))),(12,AV.ref 0 0 0 n),(13,vf (us (N.lim U))),(14,vi i),(16,vw g),(17,vf (us (N.lim p))),(125,vb (decide (N.sgnI ((↑p:Int)-(↑R:Int))>0)))],[⟨us o,1,0,false,true⟩],_,[],_⟩ (by kernel_rfl) b0 q0 (ce (@ev81_a false false p R k1) c0) ?_
 rcases xq H with ⟨d3,H⟩|⟨d3,H⟩
 ·obtain ⟨k4,H⟩:=H
  have w5:wu (g-1)=g-1:=wU64 k4
  obtain ⟨k6,H⟩:=H
  exact Zad (G:=Zae Zcd [(26,2,.call (vf (us (N.lim (p-V)))) none)] []) 1000 [true] ⟨(atC (cd Tryz.f124) [1,1,1,1,1,1,1,1,1,0,1,0,0,1,0,0,1,1,1,1,1,1,1,0,0,0]),[(8,vu s),(9,vf (us (N.lim V))),(10,vw t),(11,vf (us (N.lim R))),(12,AV.ref 0 0 0 n),(13,vf (us (N.lim U))),(14,vi i),(16,vw (wu (g-1))),(17,vf (us (N.lim (p-V))))],[⟨us o,1,0,false,true⟩],_,[],_⟩ (by kernel_rfl) (bc (Zan (Zab.2 d3)) b0) q0 (ce (@ev139_a false false p V k6) c0) (by (try rw [w5]);all_goals exact H)
 ·obtain ⟨k7,k9,k11,k12,k13,H⟩:=H
  have w14:wv g=g:=wU32 k13
  have w15:(us o).set (0+i.toNat) (vu g)=us (o.set (0+i.toNat) g):=(Za6 rfl rfl)
  obtain ⟨k16,H⟩:=H
  have w17:wi (i-1)=i-1:=wI64 k16
  exact Zad (G:=Zae Zcd [(27,2,.call (vf (us (N.lim (R-p)))) none),(28,5,.elem (vu (o.getD (0+i.toNat) default)))] []) 1000 [false] ⟨(atC (cd Tryz.f124) [1,1,1,1,1,1,1,1,1,0,1,0,0]),[(8,vu s),(9,vf (us (N.lim V))),(10,vw t),(11,vf (us (N.lim (R-p)))),(12,AV.ref 0 0 0 n),(13,vf (us (N.lim U))),(14,vi (wi (i-1)))],[⟨(us o).set (0+i.toNat) (vu (wv g)),1,0,false,true⟩],_,[((us o).get?Internal (0+i.toNat)=some (vu (o.getD (0+i.toNat) default)))],_⟩ (by kernel_rfl) (bc (Zam (fun h=>d3 (Zab.1 h))) (bc rfl (bc (Zab.2 k9) (bc (Zab.2 k11) (bc rfl b0))))) (qc (Zao k12) q0) (ce (@ev139_a false false R p k7) c0) (by (try rw [w14]);(try rw [w15]);(try rw [w17]);all_goals exact H)
noncomputable abbrev zNwD13 (n:Nat) (o:List Int):=us (N.Zb8 (List.take n (List.drop 0 o)))
theorem rPartsL0 (s:Int) (n:Nat) (o:List Int)  (dq:AV) (H :
  (N.Zav (List.take n (List.drop 0 o)).length) /\
  ∃ (l1:List Int),
  (Ev M1 (Conf.pure 103 [vf []]) (vf (us l1)) []) /\
  Weak (tu [vf (us (N.Zb8 (List.take n (List.drop 0 o)))),vf (us l1)]) dq) :
 Zd2 s n o (Zaf dq):=by
 unfold Zd2
 have w1:List.drop 0 (us o)=us (List.drop 0 o):=(ZeV rfl)
 have w2:List.take n (us (List.drop 0 o))=us (List.take n (List.drop 0 o)):=(ZeU rfl)
 obtain ⟨k3,l1,k4,H⟩:=H
 exact Zai (G:=Zae Zcd [(37,1,.call (vf (zNwD13 n o)) none),(37,3,.call (vf (us l1)) none)] []) 1000 [false] (calls:=[pc 103 [vf (List.take n (List.drop 0 (us o)))] (vf (zNwD13 n o)),pc 103 [vf []] (vf (us l1))]) (tu [vf (zNwD13 n o),vf (us l1)]) (by kernel_rfl) (bc rfl (bc rfl (bc rfl b0))) q0 (ce (by (try rw [w1]);(try rw [w2]);all_goals exact (@Zd6 false (List.take n (List.drop 0 o)) k3)) (ce k4 c0)) H
noncomputable abbrev zNwD14 (n:Nat) (o:List Int):=us (N.Zb8 (List.take n (List.drop 0 o)))
theorem rPartsL (R:Nat) (s c i:Int) (n:Nat) (o l:List Int)  (dq:AV) (H :
  ((i>=0)->(0<=i) /\
   (i.toNat<(N.lim R).length) /\
   (0<=c*1000000000/\c*1000000000<=18446744073709551615) /\
   (0<=(N.lim R).getD i.toNat default/\(N.lim R).getD i.toNat default<=18446744073709551615) /\
   (0<=c*1000000000+(N.lim R).getD i.toNat default/\c*1000000000+(N.lim R).getD i.toNat default<=18446744073709551615) /\
   (0<=s/\s<=18446744073709551615) /\
   (¬s=0) /\
   (i.toNat<l.length) /\
   (0<=(c*1000000000+(N.lim R).getD i.toNat default).tdiv s/\(c*1000000000+(N.lim R).getD i.toNat default).tdiv s<=18446744073709551615) /\
   (0<=(c*1000000000+(N.lim R).getD i.toNat default).tdiv s/\(c*1000000000+(N.lim R).getD i.toNat default).tdiv s<=4294967295) /\
   (-9223372036854775808<=i-1/\i-1<=9223372036854775807) /\
   Zcx R s ((c*1000000000+(N.lim R).getD i.toNat default).tmod s) (i-1) n o (l.set i.toNat ((c*1000000000+(N.lim R).getD i.toNat default).tdiv s)) (Zaf dq)) /\
  (¬(i>=0)->(N.Zav (List.take n (List.drop 0 o)).length) /\
   (N.Zav l.length) /\
   Weak (tu [vf (us (N.Zb8 (List.take n (List.drop 0 o)))),vf (us (N.Zb8 l))]) dq)) :
 Zcx R s c i n o l (Zaf dq):=by
 unfold Zcx
 rcases xq H with ⟨d2,H⟩|⟨d2,H⟩
 ·obtain ⟨k4,H⟩:=H
  have w5:(us (N.lim R)).length=(N.lim R).length:=List.length_map ..
  have i6:(decide (i.toNat<(us (N.lim R)).length))=true ↔ (i.toNat<(N.lim R).length):=(by (try rw [w5]);all_goals exact Zab)
  obtain ⟨k7,k8,H⟩:=H
  have w9:wu (c*1000000000)=c*1000000000:=wU64 k8
  obtain ⟨k10,H⟩:=H
  have w11:wu ((N.lim R).getD i.toNat default)=(N.lim R).getD i.toNat default:=wU64 k10
  obtain ⟨k12,H⟩:=H
  have w13:wu (c*1000000000+(N.lim R).getD i.toNat default)=c*1000000000+(N.lim R).getD i.toNat default:=wU64 k12
  obtain ⟨k14,H⟩:=H
  have w15:wu s=s:=wU64 k14
  have i16:(!wu s==0)=true ↔ (¬s=0):=(by (try rw [w15]);all_goals exact Zde)
  obtain ⟨k17,H⟩:=H
  have w19:(us l).length=l.length:=List.length_map ..
  have i20:(decide (i.toNat<(us l).length))=true ↔ (i.toNat<l.length):=(by (try rw [w19]);all_goals exact Zab)
  obtain ⟨k21,k22,H⟩:=H
  have w23:wu ((c*1000000000+(N.lim R).getD i.toNat default).tdiv s)=(c*1000000000+(N.lim R).getD i.toNat default).tdiv s:=wU64 k22
  obtain ⟨k24,H⟩:=H
  have w25:wv ((c*1000000000+(N.lim R).getD i.toNat default).tdiv s)=(c*1000000000+(N.lim R).getD i.toNat default).tdiv s:=wU32 k24
  have w26:(us l).set i.toNat (vu ((c*1000000000+(N.lim R).getD i.toNat default).tdiv s))=us (l.set i.toNat ((c*1000000000+(N.lim R).getD i.toNat default).tdiv s)):=(Za6 rfl rfl)
  have i27:(!wu s==0)=true ↔ (¬s=0):=(by (try rw [w15]);all_goals exact Zde)
  obtain ⟨k28,H⟩:=H
  have w29:wi (i-1)=i-1:=wI64 k28
  exact Zad (G:=Zae Zcd [(34,5,.elem (vu ((N.lim R).getD i.toNat default))),(35,8,.elem (vu (l.getD i.toNat default)))] []) 1000 [true] ⟨(atC (cd Tryz.f124) [1,1,1,1,1,1,1,1,1,1,1,1,0,1,0,0]),[(8,vu s),(11,vf (us (N.lim R))),(12,AV.ref 0 0 0 n),(18,vw ((wu (wu (c*1000000000)+wu ((N.lim R).getD i.toNat default))).tmod (wu s))),(19,AV.row 1 0),(20,vi (wi (i-1)))],[⟨us o,1,0,false,true⟩,⟨(us l).set i.toNat (vu (wv (wu ((wu (wu (c*1000000000)+wu ((N.lim R).getD i.toNat default))).tdiv (wu s))))),1,0,false,true⟩],_,[((us (N.lim R)).get?Internal i.toNat=some (vu ((N.lim R).getD i.toNat default))),((us l).get?Internal i.toNat=some (vu (l.getD i.toNat default)))],_⟩ (by kernel_rfl) (bc (Zan (Zab.2 d2)) (bc (Zab.2 k4) (bc (i6.2 k7) (bc (i16.2 k17) (bc rfl (bc (Zab.2 k4) (bc (i20.2 k21) (bc rfl (bc (i27.2 k17) b0))))))))) (qc (Zao k7) (qc (Zao k21) q0)) c0 (by (try rw [w9]);(try rw [w11]);(try rw [w13]);(try rw [w15]);(try rw [w23]);(try rw [w25]);(try rw [w26]);(try rw [w29]);all_goals exact H)
 ·have w30:List.drop 0 (us o)=us (List.drop 0 o):=(ZeV rfl)
  have w31:List.take n (us (List.drop 0 o))=us (List.take n (List.drop 0 o)):=(ZeU rfl)
  obtain ⟨k32,k33,H⟩:=H
  exact Zai (G:=Zae Zcd [(37,1,.call (vf (zNwD14 n o)) none),(37,3,.call (vf (us (N.Zb8 l))) none)] []) 1000 [false] (calls:=[pc 103 [vf (List.take n (List.drop 0 (us o)))] (vf (zNwD14 n o)),pc 103 [vf (us l)] (vf (us (N.Zb8 l)))]) (tu [vf (zNwD14 n o),vf (us (N.Zb8 l))]) (by kernel_rfl) (bc (Zam (fun h=>d2 (Zab.1 h))) (bc rfl (bc rfl b0))) q0 (ce (by (try rw [w30]);(try rw [w31]);all_goals exact (@Zd6 false (List.take n (List.drop 0 o)) k32)) (ce (@Zd6 false l k33) c0)) H
end Go.Av

namespace Go.Av
open Go.Proofs
theorem scl_facts1 {D:Nat} (h:1<=N.cnt D):0<N.scl D/\N.scl D<1000000000/\N.fits (N.cnt D) (D*N.scl D)/\1000000000 ^ (N.cnt D-1)<=D*N.scl D/\D / 1000000000 ^ (N.cnt D-1)<1000000000:=by
 have hf:=Zah D
 have ht:D / 1000000000 ^ (N.cnt D-1)<1000000000:=ZbC (by rw [show N.cnt D-1+1=N.cnt D by omega];exact hf)
 have hnf:¬N.fits (N.cnt D-1) D:=fun k=>by have:=Zaw.1 k;omega
 have hge:1000000000 ^ (N.cnt D-1)<=D:=by unfold N.fits at hnf;omega
 have ht1:0<D / 1000000000 ^ (N.cnt D-1):=Nat.div_pos hge (Nat.pow_pos (by omega))
 have hlt:D<1000000000 ^ (N.cnt D-1)*(D / 1000000000 ^ (N.cnt D-1)+1):=Nat.lt_mul_div_succ D (Nat.pow_pos (by omega))
 have hp:1000000000 ^ N.cnt D=1000000000 ^ (N.cnt D-1)*1000000000:=by rw [<- Nat.pow_succ];congr 1;omega
 have hs1:0<N.scl D:=Nat.div_pos (by omega) (by omega)
 have hs2:N.scl D*(D / 1000000000 ^ (N.cnt D-1)+1)<=1000000000:=Nat.div_mul_le_self _ _
 unfold N.fits
 rw [hp]
 generalize D / 1000000000 ^ (N.cnt D-1)=t at ht1 ht hlt hs2
 generalize 1000000000 ^ (N.cnt D-1)=P at hge hlt
 have hs3:N.scl D<1000000000:=by
  have:N.scl D*2<=N.scl D*(t+1):=Nat.mul_le_mul_left _ (by omega)
  omega
 generalize N.scl D=s at hs1 hs2 hs3
 refine ⟨hs1,hs3,?_,?_,ht⟩
 ·have h1:D*s<P*(t+1)*s:=Nat.mul_lt_mul_of_pos_right hlt hs1
  have h2:P*(t+1)*s=P*(s*(t+1)):=by grind
  have h3:P*(s*(t+1))<=P*1000000000:=Nat.mul_le_mul_left _ hs2
  omega
 ·have:D*1<=D*s:=Nat.mul_le_mul_left _ hs1
  omega
theorem ZfM {V:Nat} (hV:V ≠ 0):1<=N.cnt V/\1<=V / 1000000000 ^ (N.cnt V-1)/\V / 1000000000 ^ (N.cnt V-1)<1000000000:=by
 have hm:1<=N.cnt V:=by
  have:=Zay (v:=V)
  omega
 have hnf:¬N.fits (N.cnt V-1) V:=fun k=>by have:=Zaw.1 k;omega
 have hge:1000000000 ^ (N.cnt V-1)<=V:=by unfold N.fits at hnf;omega
 exact ⟨hm,Nat.div_pos hge (Nat.pow_pos (by omega)),ZbC (by rw [show N.cnt V-1+1=N.cnt V by omega];exact Zah V)⟩
theorem fits_row {V R:Nat} (h:R<V*1000000000):N.fits (N.cnt V+1) R:=by
 have h1:=Zah V
 unfold N.fits at h1 ⊢
 rw [Nat.pow_succ]
 exact Nat.lt_of_lt_of_le h (Nat.mul_le_mul_right _ (Nat.le_of_lt h1))
theorem partsTail {V R2 T:Nat} {t:Int} {G:Nat->Int->Prop} (hV:V ≠ 0) (hc:N.cnt V<=400000) (hT:T=V / 1000000000 ^ (N.cnt V-1)) (ht:t=(T:Int)) (hR:R2<V*1000000000)
  (hG:∀ g:Nat,R2 / V<=g->g<1000000000->G (V*g) (g:Int)) :
   (((↑(N.lim R2).length:Int)>(↑(N.lim V).length:Int))->(0<=(↑(N.lim V).length:Int)) /\
    ((↑(N.lim V).length:Int).toNat<(N.lim R2).length) /\
    (0<=(N.lim R2).getD (↑(N.lim V).length:Int).toNat default/\(N.lim R2).getD (↑(N.lim V).length:Int).toNat default<=18446744073709551615) /\
    (0<=(N.lim R2).getD (↑(N.lim V).length:Int).toNat default*1000000000/\(N.lim R2).getD (↑(N.lim V).length:Int).toNat default*1000000000<=18446744073709551615) /\
    (((↑(N.lim R2).length:Int)>=(↑(N.lim V).length:Int))->(-9223372036854775808<=(↑(N.lim V).length:Int)-1/\(↑(N.lim V).length:Int)-1<=9223372036854775807) /\
     (0<=(↑(N.lim V).length:Int)-1) /\
     (((↑(N.lim V).length:Int)-1).toNat<(N.lim R2).length) /\
     (0<=(N.lim R2).getD ((↑(N.lim V).length:Int)-1).toNat default/\(N.lim R2).getD ((↑(N.lim V).length:Int)-1).toNat default<=18446744073709551615) /\
     (0<=(N.lim R2).getD (↑(N.lim V).length:Int).toNat default*1000000000+(N.lim R2).getD ((↑(N.lim V).length:Int)-1).toNat default/\(N.lim R2).getD (↑(N.lim V).length:Int).toNat default*1000000000+(N.lim R2).getD ((↑(N.lim V).length:Int)-1).toNat default<=18446744073709551615) /\
     (¬t=0) /\
     (0<=((N.lim R2).getD (↑(N.lim V).length:Int).toNat default*1000000000+(N.lim R2).getD ((↑(N.lim V).length:Int)-1).toNat default).tdiv t/\((N.lim R2).getD (↑(N.lim V).length:Int).toNat default*1000000000+(N.lim R2).getD ((↑(N.lim V).length:Int)-1).toNat default).tdiv t<=18446744073709551615) /\
     ((((N.lim R2).getD (↑(N.lim V).length:Int).toNat default*1000000000+(N.lim R2).getD ((↑(N.lim V).length:Int)-1).toNat default).tdiv t>999999999)->(N.okB (↑V:Int)/\N.dig 999999999) /\
      G (V*Int.toNat 999999999) 999999999) /\
     (¬(((N.lim R2).getD (↑(N.lim V).length:Int).toNat default*1000000000+(N.lim R2).getD ((↑(N.lim V).length:Int)-1).toNat default).tdiv t>999999999)->(0<=((N.lim R2).getD (↑(N.lim V).length:Int).toNat default*1000000000+(N.lim R2).getD ((↑(N.lim V).length:Int)-1).toNat default).tdiv t/\((N.lim R2).getD (↑(N.lim V).length:Int).toNat default*1000000000+(N.lim R2).getD ((↑(N.lim V).length:Int)-1).toNat default).tdiv t<=4294967295) /\
      (N.okB (↑V:Int)/\N.dig (((N.lim R2).getD (↑(N.lim V).length:Int).toNat default*1000000000+(N.lim R2).getD ((↑(N.lim V).length:Int)-1).toNat default).tdiv t)) /\
      G (V*(((N.lim R2).getD (↑(N.lim V).length:Int).toNat default*1000000000+(N.lim R2).getD ((↑(N.lim V).length:Int)-1).toNat default).tdiv t).toNat) (((N.lim R2).getD (↑(N.lim V).length:Int).toNat default*1000000000+(N.lim R2).getD ((↑(N.lim V).length:Int)-1).toNat default).tdiv t))) /\
    (¬((↑(N.lim R2).length:Int)>=(↑(N.lim V).length:Int))->(¬t=0) /\
     (0<=((N.lim R2).getD (↑(N.lim V).length:Int).toNat default*1000000000).tdiv t/\((N.lim R2).getD (↑(N.lim V).length:Int).toNat default*1000000000).tdiv t<=18446744073709551615) /\
     ((((N.lim R2).getD (↑(N.lim V).length:Int).toNat default*1000000000).tdiv t>999999999)->(N.okB (↑V:Int)/\N.dig 999999999) /\
      G (V*Int.toNat 999999999) 999999999) /\
     (¬(((N.lim R2).getD (↑(N.lim V).length:Int).toNat default*1000000000).tdiv t>999999999)->(0<=((N.lim R2).getD (↑(N.lim V).length:Int).toNat default*1000000000).tdiv t/\((N.lim R2).getD (↑(N.lim V).length:Int).toNat default*1000000000).tdiv t<=4294967295) /\
      (N.okB (↑V:Int)/\N.dig (((N.lim R2).getD (↑(N.lim V).length:Int).toNat default*1000000000).tdiv t)) /\
      G (V*(((N.lim R2).getD (↑(N.lim V).length:Int).toNat default*1000000000).tdiv t).toNat) (((N.lim R2).getD (↑(N.lim V).length:Int).toNat default*1000000000).tdiv t)))) /\
   (¬((↑(N.lim R2).length:Int)>(↑(N.lim V).length:Int))->(((↑(N.lim R2).length:Int)>=(↑(N.lim V).length:Int))->(-9223372036854775808<=(↑(N.lim V).length:Int)-1/\(↑(N.lim V).length:Int)-1<=9223372036854775807) /\
     (0<=(↑(N.lim V).length:Int)-1) /\
     (((↑(N.lim V).length:Int)-1).toNat<(N.lim R2).length) /\
     (0<=(N.lim R2).getD ((↑(N.lim V).length:Int)-1).toNat default/\(N.lim R2).getD ((↑(N.lim V).length:Int)-1).toNat default<=18446744073709551615) /\
     (0<=0+(N.lim R2).getD ((↑(N.lim V).length:Int)-1).toNat default/\0+(N.lim R2).getD ((↑(N.lim V).length:Int)-1).toNat default<=18446744073709551615) /\
     (¬t=0) /\
     (0<=(0+(N.lim R2).getD ((↑(N.lim V).length:Int)-1).toNat default).tdiv t/\(0+(N.lim R2).getD ((↑(N.lim V).length:Int)-1).toNat default).tdiv t<=18446744073709551615) /\
     (((0+(N.lim R2).getD ((↑(N.lim V).length:Int)-1).toNat default).tdiv t>999999999)->(N.okB (↑V:Int)/\N.dig 999999999) /\
      G (V*Int.toNat 999999999) 999999999) /\
     (¬((0+(N.lim R2).getD ((↑(N.lim V).length:Int)-1).toNat default).tdiv t>999999999)->(0<=(0+(N.lim R2).getD ((↑(N.lim V).length:Int)-1).toNat default).tdiv t/\(0+(N.lim R2).getD ((↑(N.lim V).length:Int)-1).toNat default).tdiv t<=4294967295) /\
      (N.okB (↑V:Int)/\N.dig ((0+(N.lim R2).getD ((↑(N.lim V).length:Int)-1).toNat default).tdiv t)) /\
      G (V*((0+(N.lim R2).getD ((↑(N.lim V).length:Int)-1).toNat default).tdiv t).toNat) ((0+(N.lim R2).getD ((↑(N.lim V).length:Int)-1).toNat default).tdiv t))) /\
    (¬((↑(N.lim R2).length:Int)>=(↑(N.lim V).length:Int))->(¬t=0) /\
     (0<=Int.tdiv 0 t/\Int.tdiv 0 t<=18446744073709551615) /\
     ((Int.tdiv 0 t>999999999)->(N.okB (↑V:Int)/\N.dig 999999999) /\
      G (V*Int.toNat 999999999) 999999999) /\
     (¬(Int.tdiv 0 t>999999999)->(0<=Int.tdiv 0 t/\Int.tdiv 0 t<=4294967295) /\
      (N.okB (↑V:Int)/\N.dig (Int.tdiv 0 t)) /\
      G (V*(Int.tdiv 0 t).toNat) (Int.tdiv 0 t)))):=by
 obtain ⟨hm,hT1,hTlt⟩:=ZfM hV
 rw [<- hT] at hT1 hTlt
 have hqB:R2 / V<1000000000:=Nat.div_lt_of_lt_mul hR
 have hfR:N.fits (N.cnt V+1) R2:=fits_row hR
 have hcR:=Zaw.1 hfR
 have hq:R2 / V<=R2 / 1000000000 ^ (N.cnt V-1) / T:=by
  rw [Nat.le_div_iff_mul_le hT1,Nat.le_div_iff_mul_le (Nat.pow_pos (by omega))]
  have h1:T*1000000000 ^ (N.cnt V-1)<=V:=by rw [hT];exact Nat.div_mul_le_self _ _
  have h2:=Nat.mul_le_mul_left (R2 / V) h1
  have h3:=Nat.div_mul_le_self R2 V
  rw [Nat.mul_assoc];omega
 have hsp:=ZaS R2 (N.cnt V-1)
 rw [show N.cnt V-1+1=N.cnt V by omega] at hsp
 have hd1:R2 / 1000000000 ^ N.cnt V<1000000000:=ZbC hfR
 have hd0:R2 / 1000000000 ^ (N.cnt V-1) % 1000000000<1000000000:=Nat.mod_lt _ (by omega)
 have e0:((N.cnt V:Int)-1).toNat=N.cnt V-1:=by omega
 have okV:N.okB (V:Int):=by unfold N.okB;rw [Int.natAbs_natCast];exact hc
 subst ht
 have hHb:R2 / 1000000000 ^ (N.cnt V-1)<=18446744073709551615:=by
  generalize R2 / 1000000000 ^ N.cnt V=d1 at hsp hd1
  omega
 have key:∀ x:Int,x=((R2 / 1000000000 ^ (N.cnt V-1):Nat):Int)->(¬(T:Int)=0)/\(0<=x.tdiv T/\x.tdiv T<=18446744073709551615) /\
   ((x.tdiv T>999999999)->(N.okB (V:Int)/\N.dig 999999999)/\G (V*Int.toNat 999999999) 999999999) /\
   (¬(x.tdiv T>999999999)->(0<=x.tdiv T/\x.tdiv T<=4294967295)/\(N.okB (V:Int)/\N.dig (x.tdiv T))/\G (V*(x.tdiv T).toNat) (x.tdiv T)):=by
  intro x hx
  have e:x.tdiv T=((R2 / 1000000000 ^ (N.cnt V-1) / T:Nat):Int):=by rw [hx];exact (Int.ofNat_tdiv _ _).symm
  have hb:R2 / 1000000000 ^ (N.cnt V-1) / T<=18446744073709551615:=Nat.le_trans (Nat.div_le_self _ _) hHb
  rw [e,Int.toNat_natCast]
  generalize R2 / 1000000000 ^ (N.cnt V-1) / T=z at hq hb
  refine ⟨by omega,by omega,fun _=>⟨⟨okV,by unfold N.dig;omega⟩,hG 999999999 (by omega) (by omega)⟩,fun h=>⟨by omega,⟨okV,by unfold N.dig;omega⟩,hG z hq (by omega)⟩⟩
 simp only [ZaF,Int.toNat_natCast,e0]
 refine ⟨fun h => ?_,fun h=>⟨fun h2 => ?_,fun h2 => ?_⟩⟩
 ·have g1:(N.lim R2).getD (N.cnt V) default=((R2 / 1000000000 ^ N.cnt V % 1000000000:Nat):Int):=Zat R2 (show N.cnt V<N.cnt R2 by omega)
  have g0:(N.lim R2).getD (N.cnt V-1) default=((R2 / 1000000000 ^ (N.cnt V-1) % 1000000000:Nat):Int):=Zat R2 (show N.cnt V-1<N.cnt R2 by omega)
  rw [g1,g0,Nat.mod_eq_of_lt hd1]
  have hx:((R2 / 1000000000 ^ N.cnt V:Nat):Int)*1000000000+((R2 / 1000000000 ^ (N.cnt V-1) % 1000000000:Nat):Int)=((R2 / 1000000000 ^ (N.cnt V-1):Nat):Int):=by
   generalize R2 / 1000000000 ^ N.cnt V=d1 at hsp hd1
   generalize R2 / 1000000000 ^ (N.cnt V-1)=d0 at hsp hd0
   omega
  have kk:=key _ hx
  generalize R2 / 1000000000 ^ N.cnt V=d1 at hd1 kk
  generalize R2 / 1000000000 ^ (N.cnt V-1) % 1000000000=d0 at hd0 kk
  exact ⟨by omega,by omega,by omega,by omega,fun _=>⟨by omega,by omega,by omega,by omega,by omega,kk⟩,fun h3=>absurd h (by omega)⟩
 ·have g0:(N.lim R2).getD (N.cnt V-1) default=((R2 / 1000000000 ^ (N.cnt V-1) % 1000000000:Nat):Int):=Zat R2 (show N.cnt V-1<N.cnt R2 by omega)
  have hz:R2 / 1000000000 ^ N.cnt V=0:=ZaC (Zah R2) (by omega)
  rw [g0]
  have hx:0+((R2 / 1000000000 ^ (N.cnt V-1) % 1000000000:Nat):Int)=((R2 / 1000000000 ^ (N.cnt V-1):Nat):Int):=by
   rw [hz] at hsp
   generalize R2 / 1000000000 ^ (N.cnt V-1)=d0 at hsp hd0
   omega
  have kk:=key _ hx
  generalize R2 / 1000000000 ^ (N.cnt V-1) % 1000000000=d0 at hd0 kk
  exact ⟨by omega,by omega,by omega,by omega,by omega,kk⟩
 ·have hz:R2 / 1000000000 ^ (N.cnt V-1)=0:=ZaC (Zah R2) (by omega)
  exact key 0 (by rw [hz];rfl)
theorem rloopG {V U R2 n:Nat} {s t i:Int} {o:List Int} {dq:AV} (hV:V ≠ 0) (hc:N.cnt V<=400000) (hR:R2<V*1000000000) (hi:0<=i/\i.toNat<n/\i.toNat<o.length/\i<=9000000)
  (hn:ZbS V U s t (i-1) n (o.set i.toNat ((R2 / V:Nat):Int)) (R2 % V) (Zaf dq)) :
  ∀ (k g:Nat),g=R2 / V+k->g<1000000000->Za4 V U s t i n o R2 (V*g) (g:Int) (Zaf dq):=by
 have hqm:=Nat.div_add_mod R2 V
 have hml:=Nat.mod_lt R2 (Nat.pos_of_ne_zero hV)
 have hcR:N.cnt R2<=N.cnt V+1:=Zaw.1 (fits_row hR)
 generalize R2 / V=q at hn hqm ⊢
 generalize R2 % V=r at hn hqm hml
 have hcp:∀ g,g<1000000000->N.cnt (V*g)<=N.cnt V+1:=fun g hg=>Zaw.1 (ZcE (Zah V) (by unfold N.fits;omega))
 intro k
 induction k with
 | zero =>
  intro g hg hlt
  have hg:g=q:=by omega
  subst hg
  have e:R2-V*g=r:=by omega
  have hcp:=hcp _ hlt
  refine rPartsG _ _ _ _ _ _ _ _ _ _ _ ⟨⟨by unfold N.Zav;omega,by unfold N.Zav;omega⟩,fun h => ?_,fun h=>⟨⟨by unfold N.Zav;omega,by omega⟩,hi.1,hi.2.1,by omega,by omega,by omega,?_⟩⟩
  ·exfalso
   have:¬(((V*g:Nat):Int)-(R2:Int)>0):=by omega
   unfold N.sgnI at h
   (repeat' split at h) <;> omega
  ·rw [Nat.zero_add,e];exact hn
 | succ k ih =>
  intro g hg hlt
  have hgt:R2<V*g:=by
   have:V*(q+1)<=V*g:=Nat.mul_le_mul_left _ (by omega)
   rw [Nat.mul_succ] at this;omega
  have hcp:=hcp _ hlt
  have hVg:V<=V*g:=Nat.le_mul_of_pos_right _ (by omega)
  have e:V*g-V=V*(g-1):=by
   rw [Nat.mul_sub];simp
  refine rPartsG _ _ _ _ _ _ _ _ _ _ _ ⟨⟨by unfold N.Zav;omega,by unfold N.Zav;omega⟩,fun h=>⟨by omega,⟨by unfold N.Zav;omega,hVg⟩,?_⟩,fun h => ?_⟩
  ·rw [e,show (g:Int)-1=((g-1:Nat):Int) by omega]
   exact ih (g-1) (by omega) (by omega)
  ·exfalso
   unfold N.sgnI at h
   (repeat' split at h) <;> omega
end Go.Av

namespace Go.Av
open Go.Proofs
theorem loopLR {R s n Q:Nat} {o:List Int} (hs:0<s/\s<1000000000) (ho:o.take n=N.Zar n Q) (hQ:N.fits n Q) (hn:n<=1000000) (hR:N.cnt R<=1000000):∀ (i k:Nat) (l:List Int),i+k=N.cnt R->l.length=N.cnt R->l.drop i=N.Zar k (R / 1000000000 ^ i / s) ->
  Zcx R s ((R / 1000000000 ^ i % s:Nat):Int) ((i:Int)-1) n o l (Zaf (.tup [usA false (N.lim Q),usA false (N.lim (R / s))]))
 | 0,k,l,hi,hol,hl=>by
  have hk:k=N.cnt R:=by omega
  subst hk
  rw [List.drop_zero] at hl
  simp only [Nat.pow_zero,Nat.div_one] at hl ⊢
  refine rPartsL _ _ _ _ _ _ _ _ ⟨fun h=>by omega,fun _ => ?_⟩
  rw [List.drop_zero,ho,hl,Zaj,Zaj,ZbR hQ,ZbR (ZcF (Zah R) (Nat.div_le_self _ _))]
  exact ⟨hn,hR,.refl _⟩
 | i+1,k,l,hi,hol,hl=>by
  have gx:(N.lim R).getD i default=((R / 1000000000 ^ i % 1000000000:Nat):Int):=Zat R (show i<N.cnt R by omega)
  have e1:(((i+1:Nat):Int)-1)=(i:Nat):=by omega
  have hsp:=ZaS R i
  have hx:R / 1000000000 ^ i % 1000000000<1000000000:=Nat.mod_lt _ (by omega)
  obtain ⟨b1,b2,b3⟩:=ZcG (R / 1000000000 ^ (i+1)) (R / 1000000000 ^ i % 1000000000) s hx hs.1
  have hs':R / 1000000000 ^ i % 1000000000+1000000000*(R / 1000000000 ^ (i+1))=R / 1000000000 ^ i:=by omega
  rw [hs'] at b1 b2
  have hr:=Nat.mod_lt (R / 1000000000 ^ (i+1)) hs.1
  rw [e1]
  refine rPartsL _ _ _ _ _ _ _ _ ⟨fun _ => ?_,fun h=>by omega⟩
  rw [Int.toNat_natCast,gx,ZaF]
  have c1:((R / 1000000000 ^ (i+1) % s:Nat):Int)*1000000000+((R / 1000000000 ^ i % 1000000000:Nat):Int)=((R / 1000000000 ^ (i+1) % s*1000000000+R / 1000000000 ^ i % 1000000000:Nat):Int):=by omega
  obtain ⟨q0,hq0⟩:∃ q0,q0=(R / 1000000000 ^ (i+1) % s*1000000000+R / 1000000000 ^ i % 1000000000) / s:=⟨_,rfl⟩
  have c2:(((R / 1000000000 ^ (i+1) % s*1000000000+R / 1000000000 ^ i % 1000000000:Nat):Int)).tdiv s=(q0:Nat):=by rw [hq0];exact (Int.ofNat_tdiv _ _).symm
  have c3:(((R / 1000000000 ^ (i+1) % s*1000000000+R / 1000000000 ^ i % 1000000000:Nat):Int)).tmod s=((R / 1000000000 ^ i % s:Nat):Int):=by rw [b2];exact (Int.ofNat_tmod _ _).symm
  rw [<- hq0] at b1 b3
  rw [c1,c2,c3]
  have main:Zcx R s ((R / 1000000000 ^ i % s:Nat):Int) ((i:Int)-1) n o (l.set i (q0:Nat)) (Zaf (.tup [usA false (N.lim Q),usA false (N.lim (R / s))])):=by
   refine loopLR hs ho hQ hn hR i (k+1) _ (by omega) (by simpa using hol) ?_
   rw [Zcq (by omega),hl,Zax,b1]
   generalize R / 1000000000 ^ (i+1) / s=z
   have e2:(1000000000*z+q0) % 1000000000=q0:=by omega
   have e3:(1000000000*z+q0) / 1000000000=z:=by omega
   rw [e2,e3]
  have hx':((R / 1000000000 ^ i % 1000000000:Nat):Int)<1000000000:=by omega
  have hr':R / 1000000000 ^ (i+1) % s<1000000000:=by omega
  generalize R / 1000000000 ^ (i+1) % s=X at hr' main ⊢
  generalize R / 1000000000 ^ i % 1000000000=Y at hx' main ⊢
  exact ⟨by omega,by omega,by omega,by omega,by omega,by omega,by omega,by omega,by omega,by omega,by omega,main⟩
theorem stepH {V U s j n:Nat} {t:Int} {o:List Int} {dq:AV} (hV:V ≠ 0) (hc:N.cnt V<=400000) (hn:n=N.cnt U) (hU:n<=500000) (ht:t=((V / 1000000000 ^ (N.cnt V-1):Nat):Int)) (hj:j<n) (hol:n<=o.length)
  (ih:ZbS V U s t ((j:Int)-1) n (o.set j ((U / 1000000000 ^ j % 1000000000+1000000000*(U / 1000000000 ^ (j+1) % V)) / V:Nat)) (U / 1000000000 ^ j % V) (Zaf dq)) :
  (U / 1000000000 ^ (j+1) % V=0->Zc4 V U s t j n o (Zaf dq)/\ZcD V U s t j n o (Zaf dq)) /\
  (∀ c l,N.lim (U / 1000000000 ^ (j+1) % V)=c::l->ZdJ V U s t j n o c l (Zaf dq)):=by
 subst hn
 have gx:(N.lim U).getD j default=((U / 1000000000 ^ j % 1000000000:Nat):Int):=Zat U hj
 have hx:U / 1000000000 ^ j % 1000000000<1000000000:=Nat.mod_lt _ (by omega)
 have hsp:=ZaS U j
 have hs':U / 1000000000 ^ j % 1000000000+1000000000*(U / 1000000000 ^ (j+1))=U / 1000000000 ^ j:=by omega
 obtain ⟨b1,b2,b3⟩:=ZcG (U / 1000000000 ^ (j+1)) (U / 1000000000 ^ j % 1000000000) V hx (Nat.pos_of_ne_zero hV)
 rw [hs'] at b2
 have hr:=Nat.mod_lt (U / 1000000000 ^ (j+1)) (Nat.pos_of_ne_zero hV)
 rw [b2] at ih
 generalize U / 1000000000 ^ (j+1) % V=R at hr ih b3 ⊢
 generalize U / 1000000000 ^ j % 1000000000=x at hx gx ih b3
 have e2:R*1000000000+x=x+1000000000*R:=by omega
 rw [e2] at ih b3
 have hlu:=ZaF U
 have hR2:x+1000000000*R<V*1000000000:=by omega
 have tl:=partsTail (G:=fun p g=>Za4 V U s t j (N.cnt U) o (x+1000000000*R) p g (Zaf dq)) (R2:=x+1000000000*R) hV hc rfl ht hR2
  (fun g hg hlt=>rloopG (i:=(j:Int)) hV hc hR2 ⟨by omega,by omega,by omega,by omega⟩ (by rw [Int.toNat_natCast];exact ih) (g-(x+1000000000*R) / V) g (by omega) hlt)
 have one:R=0->Ev M1 (.pure 103 [.vec true 1 [.int .u32 ((N.lim U).getD (j:Int).toNat default)]]) (usA false (N.lim (x+1000000000*R))) []:=by
  intro h0
  have:=rtrimN true 1 x ⟨by unfold N.Zav;omega,by unfold N.fits;omega⟩
  rw [h0,Int.toNat_natCast,gx]
  rw [ZdP hx] at this
  exact this
 refine ⟨fun h0=>⟨?_,?_⟩,fun c l hcl => ?_⟩
 ·exact rPartsAE _ _ _ _ _ _ _ (x+1000000000*R) _ ⟨fun _=>⟨one h0,by omega,by omega,rPartsB _ _ _ _ _ _ _ _ _ tl⟩,fun h=>absurd h (by omega)⟩
 ·exact rPartsA0 _ _ _ _ _ _ _ (x+1000000000*R) _ ⟨fun _=>⟨one h0,by omega,by omega,rPartsB _ _ _ _ _ _ _ _ _ tl⟩,fun h=>absurd h (by omega)⟩
 ·have hcR:N.cnt R<=N.cnt V:=ZaK (Nat.le_of_lt hr)
  have ev:=ev103_c false (x:Int) R ⟨by omega,by omega,by omega⟩
  rw [Int.toNat_natCast,hcl,<- gx] at ev
  have hll:=ZaF R
  rw [hcl] at hll
  simp only [List.length_cons] at hll
  refine rPartsA _ _ _ _ _ _ _ _ _ (x+1000000000*R) _ ⟨fun _=>⟨?_,by omega,by omega,by omega,rPartsB _ _ _ _ _ _ _ _ _ tl⟩,fun h=>absurd h (by omega)⟩
  rw [Int.toNat_natCast];exact ev
theorem Zed {o:List Int} {j n:Nat} {d:Int} (hj:j<n) (hn:n<=o.length):((o.set j d).take n).drop j=d::(o.take n).drop (j+1):=by
 rw [List.take_set,Zcq (by simp;omega)]
theorem loopHR {V U s n:Nat} {t:Int} (hV:V ≠ 0) (hc:N.cnt V<=400000) (hn:n=N.cnt U) (hU:n<=500000) (ht:t=((V / 1000000000 ^ (N.cnt V-1):Nat):Int)) (hs:0<s/\s<1000000000):∀ (j:Nat) (o:List Int),j<=n->n<=o.length ->
  (o.take n).drop j=N.Zar (n-j) (U / 1000000000 ^ j / V)->ZbS V U s t ((j:Int)-1) n o (U / 1000000000 ^ j % V) (Zaf (.tup [usA false (N.lim (U / V)),usA false (N.lim (U % V / s))]))
 | 0,o,hj,hol,ho=>by
  simp only [Nat.pow_zero,Nat.div_one,List.drop_zero,Nat.sub_zero] at ho ⊢
  have hm:=Nat.mod_lt U (Nat.pos_of_ne_zero hV)
  have hcR:N.cnt (U % V)<=N.cnt V:=ZaK (Nat.le_of_lt hm)
  have hfQ:N.fits n (U / V):=by rw [hn];exact ZcF (Zah U) (Nat.div_le_self _ _)
  refine rPartsH _ _ _ _ _ _ _ _ _ ⟨fun h=>by omega,fun _ => ?_⟩
  rw [ZaF,Int.toNat_natCast]
  refine ⟨by omega,by omega,by omega,by omega,?_⟩
  have:=loopLR (R:=U % V) (s:=s) (o:=o) hs ho hfQ (by omega) (by omega) (N.cnt (U % V)) 0 (List.replicate (N.cnt (U % V)) 0) (by omega) (by simp) (by simp [N.Zar])
  rw [ZaC (Zah (U % V)) (Nat.le_refl _),Nat.zero_mod] at this
  exact this
 | j+1,o,hj,hol,ho=>by
  have hx:U / 1000000000 ^ j % 1000000000<1000000000:=Nat.mod_lt _ (by omega)
  have hsp:=ZaS U j
  have hs':U / 1000000000 ^ j % 1000000000+1000000000*(U / 1000000000 ^ (j+1))=U / 1000000000 ^ j:=by omega
  obtain ⟨b1,b2,b3⟩:=ZcG (U / 1000000000 ^ (j+1)) (U / 1000000000 ^ j % 1000000000) V hx (Nat.pos_of_ne_zero hV)
  rw [hs'] at b1
  have e2:U / 1000000000 ^ (j+1) % V*1000000000+U / 1000000000 ^ j % 1000000000=U / 1000000000 ^ j % 1000000000+1000000000*(U / 1000000000 ^ (j+1) % V):=by omega
  rw [e2] at b1 b3
  have ih:=loopHR hV hc hn hU ht hs j (o.set j ((U / 1000000000 ^ j % 1000000000+1000000000*(U / 1000000000 ^ (j+1) % V)) / V:Nat)) (by omega) (by simpa using hol) (by
   rw [Zed (by omega) hol,ho,show n-j=(n-(j+1))+1 by omega,Zax,b1]
   generalize U / 1000000000 ^ (j+1) / V=z
   generalize (U / 1000000000 ^ j % 1000000000+1000000000*(U / 1000000000 ^ (j+1) % V)) / V=q0 at b3
   have e2:(1000000000*z+q0) % 1000000000=q0:=by omega
   have e3:(1000000000*z+q0) / 1000000000=z:=by omega
   rw [e2,e3])
  obtain ⟨k1,k2⟩:=stepH (s:=s) hV hc hn hU ht (show j<n by omega) hol ih
  rw [show (((j+1:Nat):Int)-1)=(j:Nat) by omega]
  by_cases h0:U / 1000000000 ^ (j+1) % V=0
  ·have:=(k1 h0).1
   unfold Zc4 at this
   unfold ZbS
   rw [h0,Zcp];exact this
  ·have hne:N.lim (U / 1000000000 ^ (j+1) % V) ≠ []:=by
    intro e
    have:=ZaF (U / 1000000000 ^ (j+1) % V)
    rw [e] at this
    exact h0 (Zay.1 this.symm)
   obtain ⟨c,l,hcl⟩:=List.exists_cons_of_ne_nil hne
   have:=k2 c l hcl
   unfold ZdJ at this
   rw [<- hcl] at this
   exact this
end Go.Av

namespace Go.Av
open Go.Proofs
theorem partsN (fa fb:Bool) (A D:Nat) (hD:D ≠ 0) (hA:N.cnt A<=399000) (hd:N.cnt D<=399000):Ev M1 (.pure 124 [usA fa (N.lim A),usA fb (N.lim D)]) (.tup [usA false (N.lim (A / D)),usA false (N.lim (A % D))]) []:=by
 obtain ⟨m1,m2,m3⟩:=ZfM hD
 obtain ⟨s1,s2,s3,s4,s5⟩:=scl_facts1 m1
 refine call124 (rParts _ _ _ _ _ ⟨fun h => ?_,fun h => ?_⟩)
 ·rw [ZaF,ZaF] at h
  have f1:=ZaN (Zah A) (show N.cnt A<=2 by omega)
  have hA2:A<1000000000000000000:=by unfold N.fits at f1;simpa using f1
  have f2:=ZaN (Zah D) (show N.cnt D<=2 by omega)
  have hD2:D<1000000000000000000:=by unfold N.fits at f2;simpa using f2
  have c1:(A:Int).tdiv D=((A / D:Nat):Int):=(Int.ofNat_tdiv _ _).symm
  have c2:(A:Int).tmod D=((A % D:Nat):Int):=(Int.ofNat_tmod _ _).symm
  have d1:=Nat.div_le_self A D
  have d2:=Nat.mod_lt A (Nat.pos_of_ne_zero hD)
  rw [c1,c2,Int.toNat_natCast,Int.toNat_natCast]
  exact ⟨by omega,by omega,le8 (by omega),le8 (by omega),by omega,.refl _⟩
 ·have e0:((N.cnt D:Int)-1).toNat=N.cnt D-1:=by omega
  have gD:(N.lim D).getD (N.cnt D-1) default=((D / 1000000000 ^ (N.cnt D-1):Nat):Int):=by
   have:=Zat (n:=N.cnt D) D (show N.cnt D-1<N.cnt D by omega)
   rw [Nat.mod_eq_of_lt s5] at this
   exact this
  have hs:Int.tdiv 1000000000 ((N.lim D).getD (N.cnt D-1) default+1)=(N.scl D:Int):=by
   rw [gD]
   unfold N.scl
   generalize D / 1000000000 ^ (N.cnt D-1)=t
   have:((t:Int)+1)=((t+1:Nat):Int):=by omega
   rw [this]
   exact (Int.ofNat_tdiv 1000000000 (t+1)).symm
  have hV:D*N.scl D ≠ 0:=Nat.mul_ne_zero hD (by omega)
  obtain ⟨v1,v2,v3⟩:=ZfM hV
  have hcV:N.cnt (D*N.scl D)<=N.cnt D:=Zaw.1 s3
  have f1:N.fits 1 (N.scl D):=by unfold N.fits;omega
  have hcU:N.cnt (A*N.scl D)<=N.cnt A+1:=Zaw.1 (ZcE (Zah A) f1)
  have e1:((N.cnt (D*N.scl D):Int)-1).toNat=N.cnt (D*N.scl D)-1:=by omega
  have gV:(N.lim (D*N.scl D)).getD (N.cnt (D*N.scl D)-1) default=((D*N.scl D / 1000000000 ^ (N.cnt (D*N.scl D)-1):Nat):Int):=by
   have:=Zat (n:=N.cnt (D*N.scl D)) (D*N.scl D) (show N.cnt (D*N.scl D)-1<N.cnt (D*N.scl D) by omega)
   rw [Nat.mod_eq_of_lt v3] at this
   exact this
  have okD:N.okB (D:Int):=by unfold N.okB;rw [Int.natAbs_natCast];omega
  have okA:N.okB (A:Int):=by unfold N.okB;rw [Int.natAbs_natCast];omega
  have dg:N.dig (N.scl D:Int):=by unfold N.dig;omega
  obtain ⟨q1,q2⟩:=Zgn (A:=A) (D:=D) s1
  simp only [ZaF,e0,hs,Int.toNat_natCast,e1,gV,Nat.sub_zero]
  have go:ZcD (D*N.scl D) (A*N.scl D) (N.scl D:Int) ((D*N.scl D / 1000000000 ^ (N.cnt (D*N.scl D)-1):Nat):Int) ((N.cnt (A*N.scl D):Int)-1) (N.cnt (A*N.scl D)) (List.replicate ((N.cnt A:Int)+1).toNat 0) (Zaf (.tup [usA false (N.lim (A / D)),usA false (N.lim (A % D))])):=by
   have eL:((N.cnt A:Int)+1).toNat=N.cnt A+1:=by omega
   rw [eL]
   by_cases hz:N.cnt (A*N.scl D)=0
   ·have hU:=Zay.1 hz
    have hA0:A=0:=by
     rcases Nat.mul_eq_zero.1 hU with h | h
     ·exact h
     ·omega
    subst hA0
    rw [hz]
    have l0:N.lim 0=[]:=Zcp
    have tr:=rtrimN false 0 0 ⟨by unfold N.Zav;omega,Za9.2 rfl⟩
    rw [l0] at tr
    refine rPartsA0 _ _ _ _ _ _ _ 0 _ ⟨fun h=>by omega,fun _=>rPartsL0 _ _ _ _ ⟨by simp [N.Zav],[],tr,?_⟩⟩
    rw [Nat.zero_div,Nat.zero_mod,l0]
    exact .refl _
   ·obtain ⟨j,hj⟩:∃ j,N.cnt (A*N.scl D)=j+1:=⟨N.cnt (A*N.scl D)-1,by omega⟩
    have hn:j+1=N.cnt (A*N.scl D):=hj.symm
    have hc1:N.cnt (D*N.scl D)<=400000:=by omega
    have hU5:j+1<=500000:=by omega
    have hj0:j<=j+1:=by omega
    have hj1:j<j+1:=by omega
    have hol:j+1<=(List.replicate (N.cnt A+1) (0:Int)).length:=by simp;omega
    have hzero:A*N.scl D / 1000000000 ^ (j+1)=0:=ZaC (Zah _) (by omega)
    have hx:A*N.scl D / 1000000000 ^ j % 1000000000<1000000000:=Nat.mod_lt _ (by omega)
    obtain ⟨b1,b2,b3⟩:=ZcG (A*N.scl D / 1000000000 ^ (j+1)) (A*N.scl D / 1000000000 ^ j % 1000000000) (D*N.scl D) hx (Nat.pos_of_ne_zero hV)
    have hsp:=ZaS (A*N.scl D) j
    have hs':A*N.scl D / 1000000000 ^ j % 1000000000+1000000000*(A*N.scl D / 1000000000 ^ (j+1))=A*N.scl D / 1000000000 ^ j:=by omega
    have ih:=loopHR (V:=D*N.scl D) (U:=A*N.scl D) (s:=N.scl D) hV hc1 hn hU5 rfl ⟨s1,s2⟩ j ((List.replicate (N.cnt A+1) (0:Int)).set j ((A*N.scl D / 1000000000 ^ j % 1000000000+1000000000*(A*N.scl D / 1000000000 ^ (j+1) % (D*N.scl D))) / (D*N.scl D):Nat)) hj0 (by simpa using hol) (by
     rw [Zed hj1 hol,show j+1-j=0+1 by omega,Zax,List.drop_of_length_le (by simp;omega)]
     rw [hs'] at b1
     rw [hzero] at b1 b3 ⊢
     rw [Nat.zero_div,Nat.zero_mod] at b1
     rw [Nat.zero_mod] at b3 ⊢
     rw [b1]
     have e5:0*1000000000+A*N.scl D / 1000000000 ^ j % 1000000000=A*N.scl D / 1000000000 ^ j % 1000000000+1000000000*0:=by simp only [Nat.zero_mul,Nat.mul_zero,Nat.zero_add,Nat.add_zero]
     rw [e5] at b3 ⊢
     rw [Nat.mul_zero,Nat.zero_add,Nat.mod_eq_of_lt b3];rfl)
    obtain ⟨k1,_⟩:=stepH (s:=N.scl D) hV hc1 hn hU5 rfl hj1 hol ih
    have:=(k1 (by rw [hzero,Nat.zero_mod])).2
    rw [q1,q2] at this
    rw [hj,show (((j+1:Nat):Int)-1)=(j:Nat) by omega]
    exact this
  have hscl:(N.scl D:Int)<=4294967295:=by omega
  have hb1:D / 1000000000 ^ (N.cnt D-1)<1000000000:=s5
  rw [gD]
  generalize D / 1000000000 ^ (N.cnt D-1)=T at hb1 ⊢
  generalize D*N.scl D / 1000000000 ^ (N.cnt (D*N.scl D)-1)=T2 at v3 go ⊢
  exact ⟨by omega,by omega,by omega,by omega,by omega,by omega,by omega,by omega,⟨okD,dg⟩,by omega,by omega,by omega,by omega,by omega,by omega,by omega,by omega,⟨okA,dg⟩,by omega,by omega,by rw [List.length_replicate];omega,by omega,go⟩
theorem ev124 (fa fb:Bool) (A D:Nat) (h:N.cnt A<=399000/\N.cnt D<=399000/\D ≠ 0):Ev M1 (.pure 124 [usA fa (N.lim A),usA fb (N.lim D)]) (.tup [usA false (N.lim (A / D)),usA false (N.lim (A % D))]) []:=partsN fa fb A D h.2.2 h.1 h.2.1
theorem ev124_a (fa fb:Bool) (v w:Int) (h:N.cnt v.natAbs<=399000/\N.cnt w.natAbs<=399000/\w ≠ 0):Ev M1 (.pure 124 [usA fa (N.Zac v),usA fb (N.Zac w)]) (.tup [usA false (N.lim (v.natAbs / w.natAbs)),usA false (N.lim (v.natAbs % w.natAbs))]) []:=partsN fa fb _ _ (by have:=h.2.2;omega) h.1 h.2.1
end Go.Av

namespace Go.Av
open Go.Proofs
set_option maxRecDepth 100000
def fi112:Fi:=⟨54,[.cell 4 85]⟩
def kp112:List (Nat × List Nat):=[(0,[2,3,4]),(1,[4,5,6]),(2,[4,5,6,27]),(3,[4,6,8]),(4,[4,5,6]),(5,[4,5,6,38]),(6,[4]),(7,[4,9,10]),(8,[4,9,10,46]),(9,[4,9,10]),(10,[4])]
def fi113:Fi:=⟨54,[.cell 4 85,.cell 5 85,.tmp 6]⟩
def kp113:List (Nat × List Nat):=[(0,[2,3,4,5]),(1,[2,3,4,5,14]),(2,[4,5,6]),(3,[2,3,4,5,7,8]),(4,[2,3,4,5,8,9,10]),(5,[3,4,5,9,10,45]),(6,[4,5,9,10]),(7,[4,5,6])]
def Zg5 (fa fb:Bool) (a b:Int) (Q:AV->Heap->Prop):Prop:=Wp M1 (.run fi113 (atC (cd Tryz.f113) []) [(0,bigA fa a),(1,bigA fb b)] []) Q
def rGCD_at (fa fb:Bool) (a b:Int) (Q:AV->Heap->Prop):Prop:=Wp M1 (.run fi112 (atC (cd Tryz.f112) []) [(0,bigA fa a),(1,bigA fb b)] []) Q
def Zfk (fx fy:Bool) (x y:Nat) (Q:AV->Heap->Prop):Prop:=Wp M1 (.run fi112 (atC (cd Tryz.f112) [1,1,0,0,0]) [(4,.ptr 0 0 0 0),(5,.vec fx 1 ((N.lim x).map (.int .u32))),(6,.vec fy 1 ((N.lim y).map (.int .u32)))] [⟨[.agg [.bool false,.vnil]],2,0,false,false⟩]) Q
def ZdK (u v:Int) (Q:AV->Heap->Prop):Prop:=Wp M1 (.run fi112 (atC (cd Tryz.f112) [1,1,1,1,1,0,0,0]) [(4,.ptr 0 0 0 0),(9,.int .u64 u),(10,.int .u64 v)] [⟨[.agg [.bool false,.vnil]],2,0,false,false⟩]) Q
theorem call112 {args:List AV} {d:AV} (h:wc M1 fi112 Tryz.f112 args d):Ev M1 (.pure 112 args) d []:=pcl _ _ (by kernel_rfl) h
theorem call113 {args:List AV} {d:AV} (h:wc M1 fi113 Tryz.f113 args d):Ev M1 (.pure 113 args) d []:=pcl _ _ (by kernel_rfl) h
noncomputable abbrev zNwE1 (a:Int) (b:Int):=N.sg (!N.Zaa a==N.Zaa b) (a.natAbs / b.natAbs)
noncomputable abbrev zNwE2 (a:Int) (b:Int):=tu [vf (us (N.lim (a.natAbs / b.natAbs))),vf (us (N.lim (a.natAbs % b.natAbs)))]
theorem rDivMod (fa fb:Bool) (a b:Int)  (dq:AV) (H :
  (((↑(N.Zac b).length:Int)=0)->Weak (tu [ag [vb false,AV.vnil],ag [vb false,AV.vnil],vi 6]) dq) /\
  (¬((↑(N.Zac b).length:Int)=0)->(N.cnt a.natAbs<=399000/\N.cnt b.natAbs<=399000/\b ≠ 0) /\
   (N.Zav (N.cnt (a.natAbs / b.natAbs))) /\
   (N.Zav (N.cnt (a.natAbs % b.natAbs))) /\
   ((((↑(N.lim (a.natAbs % b.natAbs)).length:Int)>0)/\(¬(N.Zaa a=N.Zaa b)))->(N.inI 1) /\
    (N.okB (N.sg (!N.Zaa a==N.Zaa b) (a.natAbs / b.natAbs))) /\
    (N.okB (N.sg (N.Zaa a) (a.natAbs % b.natAbs))/\N.okB b) /\
    Weak (tu [bigA false (N.sg (!N.Zaa a==N.Zaa b) (a.natAbs / b.natAbs)-1),bigA false (N.sg (N.Zaa a) (a.natAbs % b.natAbs)+b),vi 0]) dq) /\
   (¬(((↑(N.lim (a.natAbs % b.natAbs)).length:Int)>0)/\(¬(N.Zaa a=N.Zaa b)))->Weak (tu [bigA false (N.sg (!N.Zaa a==N.Zaa b) (a.natAbs / b.natAbs)),bigA false (N.sg (N.Zaa a) (a.natAbs % b.natAbs)),vi 0]) dq))) :
 Zg5 fa fb a b (Zaf dq):=by
 unfold Zg5
 have w1:(us (N.Zac b)).length=(N.Zac b).length:=List.length_map ..
 have i2:((↑(us (N.Zac b)).length:Int)==0)=true ↔ ((↑(N.Zac b).length:Int)=0):=(by (try rw [w1]);all_goals exact i_eq)
 rcases xq H with ⟨d3,H⟩|⟨d3,H⟩
 ·exact Zai (G:=Zae kp113 [] []) 1000 [true] (tu [ag [vb false,AV.vnil],ag [vb false,AV.vnil],vi 6]) (by kernel_rfl) (bc rfl (bc (Zan (i2.2 d3)) (bc rfl (bc rfl b0)))) q0 c0 H
 ·obtain ⟨k4,k5,k6,H⟩:=H
  refine Zad (G:=Zae kp113 [(3,4,.call (zNwE2 a b) none),(4,6,.call (bigA false (zNwE1 a b)) none),(4,10,.call (bigA false (N.sg (N.Zaa a) (a.natAbs % b.natAbs))) none)] []) 10 [false] ⟨(atC (cd Tryz.f113) [1,1,1,0]),[(2,AV.ptr 0 0 0 0),(3,AV.ptr 1 0 0 0),(4,AV.ptr 2 0 0 0),(5,AV.ptr 3 0 0 0),(7,vf (us (N.lim (a.natAbs / b.natAbs)))),(8,vf (us (N.lim (a.natAbs % b.natAbs))))],[⟨[bigA fa a],2,0,false,false⟩,⟨[bigA fb b],2,0,false,false⟩,⟨[ag [vb false,AV.vnil]],2,0,false,false⟩,⟨[ag [vb false,AV.vnil]],2,0,false,false⟩],_,[],_⟩ (by kernel_rfl) (bc rfl (bc (Zam (fun h=>d3 (i2.1 h))) (bc rfl (bc rfl b0)))) q0 (ce (@ev124_a fa fb a b k4) c0) (ZcN (G:=Zae kp113 [(3,4,.call (zNwE2 a b) none),(4,6,.call (bigA false (zNwE1 a b)) none),(4,10,.call (bigA false (N.sg (N.Zaa a) (a.natAbs % b.natAbs))) none)] []) [0,1,2,3,5,4] 11 (e1:=[(2,AV.ptr 0 0 0 0),(3,AV.ptr 1 0 0 0),(4,AV.ptr 2 0 0 0),(5,AV.ptr 3 0 0 0),(8,vf (us (N.lim (a.natAbs % b.natAbs)))),(9,AV.ptr 4 0 0 0),(10,AV.ptr 5 0 0 0)]) (L1:=[⟨[bigA fa a],2,0,false,false⟩,⟨[bigA fb b],2,0,false,false⟩,⟨[ag [vb false,AV.vnil]],2,0,false,false⟩,⟨[ag [vb false,AV.vnil]],2,0,false,false⟩,⟨[bigA false (zNwE1 a b)],2,0,false,false⟩,⟨[bigA false (N.sg (N.Zaa a) (a.natAbs % b.natAbs))],2,0,false,false⟩]) (a:=[true,true,true,true,true]) (q:=[]) (cs:=[⟨true,false,82,[vb !N.Zaa a==N.Zaa b,vf (us (N.lim (a.natAbs / b.natAbs)))],[],bigA false (zNwE1 a b),[]⟩,⟨true,false,82,[vb (N.Zaa a),vf (us (N.lim (a.natAbs % b.natAbs)))],[],bigA false (N.sg (N.Zaa a) (a.natAbs % b.natAbs)),[]⟩]) (by kernel_rfl) (by kernel_rfl) (Zag rfl (Zag rfl (Zag rfl (Zag rfl (Zag rfl ZaB))))) ZaV (ZaJ (fun _=>(@ZdX (!N.Zaa a==N.Zaa b) false (a.natAbs / b.natAbs) k5)) (ZaJ (fun _=>(@ZdX (N.Zaa a) false (a.natAbs % b.natAbs) k6)) ZaW)) ?_)
  have w7:(us (N.lim (a.natAbs % b.natAbs))).length=(N.lim (a.natAbs % b.natAbs)).length:=List.length_map ..
  have i8:(bif decide ((↑(us (N.lim (a.natAbs % b.natAbs))).length:Int)>0) then !N.Zaa a==N.Zaa b else false)=true ↔ (((↑(N.lim (a.natAbs % b.natAbs)).length:Int)>0)/\(¬(N.Zaa a=N.Zaa b))):=(by (try rw [w7]);all_goals exact (Zbt Zab (ZcJ i_eq)))
  rcases xq H with ⟨d9,H⟩|⟨d9,H⟩
  ·obtain ⟨k10,k11,k12,H⟩:=H
   exact Zai (G:=Zae kp113 [(6,1,.call (ag [vb false,vf (us (N.Zac 1))]) none),(6,2,.call (bigA false (N.sg (!N.Zaa a==N.Zaa b) (a.natAbs / b.natAbs)-1)) none),(6,5,.call (bigA false (N.sg (N.Zaa a) (a.natAbs % b.natAbs)+b)) none)] [(7,[5003,4002,7001,6000])]) 1000 [true] (asm:=[!(decide ((↑(us (N.lim (a.natAbs % b.natAbs))).length:Int)>0)==true&&true)||true,!(decide ((↑(us (N.lim (a.natAbs % b.natAbs))).length:Int)>0)==true&&true)||true,(bif decide ((↑(us (N.lim (a.natAbs % b.natAbs))).length:Int)>0) then !N.Zaa a==N.Zaa b else false)==true,true,true,true,true,true,true,true,true,true]) (tu [bigA false (N.sg (!N.Zaa a==N.Zaa b) (a.natAbs / b.natAbs)-1),bigA false (N.sg (N.Zaa a) (a.natAbs % b.natAbs)+b),vi 0]) (by kernel_rfl) (bc (Bool.or_true _) (bc (Bool.or_true _) (bc (Zan (i8.2 d9)) (bc rfl (bc rfl (bc rfl (bc rfl (bc rfl (bc rfl (bc rfl (bc rfl (bc rfl b0)))))))))))) q0 (ce (@ev70 1 k10) (ce (@ev126_a false (zNwE1 a b) k11) (ce (@ev127 false fb (N.sg (N.Zaa a) (a.natAbs % b.natAbs)) b k12) c0))) H
  ·exact Zai (G:=Zae kp113 [] [(7,[5003,4002,7001,6000])]) 1000 [false] (asm:=[!(decide ((↑(us (N.lim (a.natAbs % b.natAbs))).length:Int)>0)==true&&true)||true,!(decide ((↑(us (N.lim (a.natAbs % b.natAbs))).length:Int)>0)==true&&true)||true,(bif decide ((↑(us (N.lim (a.natAbs % b.natAbs))).length:Int)>0) then !N.Zaa a==N.Zaa b else false)==false,true,true,true,true]) (tu [bigA false (zNwE1 a b),bigA false (N.sg (N.Zaa a) (a.natAbs % b.natAbs)),vi 0]) (by kernel_rfl) (bc (Bool.or_true _) (bc (Bool.or_true _) (bc (Zam (fun h=>d9 (i8.1 h))) (bc rfl (bc rfl (bc rfl (bc rfl b0))))))) q0 c0 H
theorem rGCD (fa fb:Bool) (a b:Int)  (dq:AV) (H :
  Wp M1 (.run fi112 (atC (cd Tryz.f112) [1,1,0,0,0]) [(4,AV.ptr 0 0 0 0),(5,AV.vec fa 1 (us (N.Zac a))),(6,AV.vec fb 1 (us (N.Zac b)))] [{ elems:=[ag [vb false,AV.vnil]],es:=2,ver:=0,frozen:=false,clean:=false }]) (Zaf dq)) :
 rGCD_at fa fb a b (Zaf dq):=by
 unfold rGCD_at
 exact Zad (G:=Zae kp112 [] []) 1000 [] ⟨(atC (cd Tryz.f112) [1,1,0,0,0]),[(4,AV.ptr 2 0 0 0),(5,AV.vec fa 1 (us (N.Zac a))),(6,AV.vec fb 1 (us (N.Zac b)))],[⟨[bigA fa a],2,0,false,false⟩,⟨[bigA fb b],2,0,false,false⟩,⟨[ag [vb false,AV.vnil]],2,0,false,false⟩],_,[],_⟩ (by kernel_rfl) (bc rfl (bc rfl b0)) q0 c0 (Zas [2] (by kernel_rfl) H)
theorem rGCDH (fx fy:Bool) (x y:Nat)  (dq:AV) (H :
  ((((↑(N.lim y).length:Int)>0)/\(((↑(N.lim x).length:Int)>2)\/((↑(N.lim y).length:Int)>2)))->(N.cnt x<=399000/\N.cnt y<=399000/\y ≠ 0) /\
   Zfk fy false y (x % y) (Zaf dq)) /\
  (¬(((↑(N.lim y).length:Int)>0)/\(((↑(N.lim x).length:Int)>2)\/((↑(N.lim y).length:Int)>2)))->(((↑(N.lim y).length:Int)=0)->(N.Zav (N.cnt x)) /\
    Weak (bigA false (N.sg false x)) dq) /\
   (¬((↑(N.lim y).length:Int)=0)->(N.cnt x<=2) /\
    (N.cnt y<=2) /\
    ZdK ((↑x:Int)) ((↑y:Int)) (Zaf dq)))) :
 Zfk fx fy x y (Zaf dq):=by
 unfold Zfk
 have w1:(us (N.lim y)).length=(N.lim y).length:=List.length_map ..
 have w2:(us (N.lim x)).length=(N.lim x).length:=List.length_map ..
 have i3:(bif decide ((↑(us (N.lim y)).length:Int)>0) then bif decide ((↑(us (N.lim x)).length:Int)>2) then true else decide ((↑(us (N.lim y)).length:Int)>2) else false)=true ↔ (((↑(N.lim y).length:Int)>0)/\(((↑(N.lim x).length:Int)>2)\/((↑(N.lim y).length:Int)>2))):=(by (try rw [w1]);(try rw [w2]);all_goals exact (Zbt Zab (Zdf Zab Zab)))
 rcases xq H with ⟨d4,H⟩|⟨d4,H⟩
 ·obtain ⟨k5,H⟩:=H
  exact Zad (G:=Zae kp112 [(3,2,.call (tu [vf (us (N.lim (x / y))),vf (us (N.lim (x % y)))]) none)] []) 1000 [true] ⟨(atC (cd Tryz.f112) [1,1,0,0,0]),[(4,AV.ptr 0 0 0 0),(5,AV.vec fy 1 (us (N.lim y))),(6,vf (us (N.lim (x % y))))],[⟨[ag [vb false,AV.vnil]],2,0,false,false⟩],_,[],_⟩ (by kernel_rfl) (bc (Zan (i3.2 d4)) b0) q0 (ce (@ev124 fx fy x y k5) c0) H
 ·have i6:((↑(us (N.lim y)).length:Int)==0)=true ↔ ((↑(N.lim y).length:Int)=0):=(by (try rw [w1]);all_goals exact i_eq)
  rcases xq H with ⟨d7,H⟩|⟨d7,H⟩
  ·obtain ⟨k8,H⟩:=H
   exact Zai (G:=Zae kp112 [(6,1,.call (bigA false (N.sg false x)) none)] []) 1000 [false,true] (bigA false (N.sg false x)) (by kernel_rfl) (bc (Zam (fun h=>d4 (i3.1 h))) (bc (Zan (i6.2 d7)) (bc rfl b0))) q0 (ce (@ZdX false fx x k8) c0) H
  ·obtain ⟨k9,k10,H⟩:=H
   exact Zad (G:=Zae kp112 [(7,1,.call (vw (↑x:Int)) none),(7,3,.call (vw (↑y:Int)) none)] []) 1000 [false,false] ⟨(atC (cd Tryz.f112) [1,1,1,1,1,0,0,0]),[(4,AV.ptr 0 0 0 0),(9,vw (↑x:Int)),(10,vw (↑y:Int))],[⟨[ag [vb false,AV.vnil]],2,0,false,false⟩],_,[],_⟩ (by kernel_rfl) (bc (Zam (fun h=>d4 (i3.1 h))) (bc (Zam (fun h=>d7 (i6.1 h))) b0)) q0 (ce (@ev125 fx x k9) (ce (@ev125 fy y k10) c0)) H
theorem rGCDW (u v:Int)  (dq:AV) (H :
  ((v>0)->(¬v=0) /\
   ZdK v (u.tmod v) (Zaf dq)) /\
  (¬(v>0)->(0<=u/\u<=18446744073709551615) /\
   (N.Zav (N.cnt u.toNat)) /\
   Weak (bigA false (N.sg false u.toNat)) dq)) :
 ZdK u v (Zaf dq):=by
 unfold ZdK
 rcases xq H with ⟨d2,H⟩|⟨d2,H⟩
 ·obtain ⟨k4,H⟩:=H
  exact Zad (G:=Zae kp112 [] []) 1000 [true] ⟨(atC (cd Tryz.f112) [1,1,1,1,1,0,0,0]),[(4,AV.ptr 0 0 0 0),(9,vw v),(10,vw (u.tmod v))],[⟨[ag [vb false,AV.vnil]],2,0,false,false⟩],_,[],_⟩ (by kernel_rfl) (bc (Zan (Zab.2 d2)) (bc (Zde.2 k4) b0)) q0 c0 H
 ·obtain ⟨k5,k6,H⟩:=H
  exact Zai (G:=Zae kp112 [(10,1,.call (vf (us (N.lim u.toNat))) none),(10,2,.call (bigA false (N.sg false u.toNat)) none)] []) 1000 [false] (bigA false (N.sg false u.toNat)) (by kernel_rfl) (bc (Zam (fun h=>d2 (Zab.1 h))) (bc rfl b0)) q0 (ce (@ev87 u k5) (ce (@ZdX false false (u.toNat) k6) c0)) H
end Go.Av

namespace Go.Av
open Go.Proofs
theorem ev113 (fa fb:Bool) (a b:Int) (h:N.cnt a.natAbs<=399000/\N.cnt b.natAbs<=399000/\b ≠ 0):Ev M1 (.pure 113 [bigA fa a,bigA fb b]) (.tup [bigA false (N.flo a b),bigA false (N.flr a b),.int .i64 0]) []:=by
 obtain ⟨ha,hb,h0⟩:=h
 have hl:=Zbp b
 have hd0:b.natAbs ≠ 0:=by omega
 have hm:=Nat.mod_lt a.natAbs (Nat.pos_of_ne_zero hd0)
 have heq:=sg_div (a:=a) h0
 have hc1:=ZaK (Nat.le_of_lt hm)
 have hc2:=ZaK (Nat.div_le_self a.natAbs b.natAbs)
 have okb:N.okB b:=by unfold N.okB;omega
 have okr:N.okB (N.sg (N.Zaa a) (a.natAbs % b.natAbs)):=by unfold N.okB;rw [ZcR];omega
 have okq:N.okB (N.sg (!(N.Zaa a==N.Zaa b)) (a.natAbs / b.natAbs)):=by unfold N.okB;rw [ZcR];omega
 have hra:(N.sg (N.Zaa a) (a.natAbs % b.natAbs)).natAbs=a.natAbs % b.natAbs:=ZcR _ _
 have hrl:=ZaF (a.natAbs % b.natAbs)
 have hrc:=Zay (v:=a.natAbs % b.natAbs)
 have hneg:(N.Zaa a=true->N.sg (N.Zaa a) (a.natAbs % b.natAbs)<=0)/\(¬N.Zaa a=true->0<=N.sg (N.Zaa a) (a.natAbs % b.natAbs)):=by
  unfold N.sg
  exact ⟨fun h=>by rw [if_pos h];omega,fun h=>by rw [if_neg h];omega⟩
 refine call113 (rDivMod _ _ _ _ _ ⟨fun h => ?_,fun _=>⟨⟨ha,hb,h0⟩,by unfold N.Zav;omega,by unfold N.Zav;omega,fun k=>⟨by unfold N.inI;omega,okq,⟨okr,okb⟩,?_⟩,fun k => ?_⟩⟩)
 ·have:=Zay (v:=b.natAbs)
  omega
 ·obtain ⟨k1,k2⟩:=k
  have hne:a.natAbs % b.natAbs ≠ 0:=by omega
  generalize N.sg (N.Zaa a) (a.natAbs % b.natAbs)=r at *
  generalize N.sg (!(N.Zaa a==N.Zaa b)) (a.natAbs / b.natAbs)=q at *
  have hs:(r<0/\0<b)\/(0<r/\b<0):=by
   by_cases ka:N.Zaa a=true
   ·have:=hneg.1 ka
    have kb:¬b<0:=fun x=>k2 (by rw [ka,Zal.2 x])
    exact .inl ⟨by omega,by omega⟩
   ·have:=hneg.2 ka
    by_cases kb:b<0
    ·exact .inr ⟨by omega,kb⟩
    ·exact absurd (by rw [Bool.eq_false_iff.2 ka,Zbg kb]) k2
  obtain ⟨e1,e2⟩:=ZdS (a:=a) (b:=b) (q:=q-1) (r:=r+b) (by grind) (by omega)
  rw [e1,e2]
  exact .refl _
 ·generalize hr:N.sg (N.Zaa a) (a.natAbs % b.natAbs)=r at *
  generalize N.sg (!(N.Zaa a==N.Zaa b)) (a.natAbs / b.natAbs)=q at *
  have hs:r=0\/(r<0/\b<0)\/(0<r/\0<b):=by
   by_cases hz:a.natAbs % b.natAbs=0
   ·left;omega
   ·right
    have k:N.Zaa a=N.Zaa b:=Classical.byContradiction fun k2=>k ⟨by omega,k2⟩
    by_cases ka:N.Zaa a=true
    ·have:=hneg.1 ka
     exact .inl ⟨by omega,Zal.1 (k ▸ ka)⟩
    ·have:=hneg.2 ka
     have:¬b<0:=fun x=>ka (by rw [k];exact Zal.2 x)
     exact .inr ⟨by omega,by omega⟩
  obtain ⟨e1,e2⟩:=ZdS (a:=a) (b:=b) (q:=q) (r:=r) heq (by omega)
  rw [e1,e2]
  exact .refl _
theorem gcd_step (x y:Nat):Nat.gcd y (x % y)=Nat.gcd x y:=by rw [Nat.gcd_comm x y,Nat.gcd_rec y x,Nat.gcd_comm]
theorem rgcdW (n:Nat):∀ u v:Nat,v<=n->u<=18446744073709551615->v<=18446744073709551615->ZdK u v (Zaf (bigA false (Nat.gcd u v:Nat))):=by
 have base:∀ u:Nat,u<=18446744073709551615->ZdK u (0:Nat) (Zaf (bigA false (Nat.gcd u 0:Nat))):=by
  intro u hu
  refine rGCDW _ _ _ ⟨fun h=>by omega,fun _=>⟨by omega,by have:=cnt_u64 (u:=u) hu;rw [Int.toNat_natCast];unfold N.Zav;omega,?_⟩⟩
  rw [Int.toNat_natCast,ZbZ,Nat.gcd_zero_right];exact .refl _
 induction n with
 | zero =>
  intro u v hv hu hv2
  have:v=0:=by omega
  subst this
  exact base u hu
 | succ n ih =>
  intro u v hv hu hv2
  by_cases h0:v=0
  ·subst h0;exact base u hu
  ·refine rGCDW _ _ _ ⟨fun h=>⟨by omega,?_⟩,fun h=>absurd h (by omega)⟩
   rw [<- Int.ofNat_tmod]
   have hlt:=Nat.mod_lt u (show 0<v by omega)
   have:=ih v (u % v) (by omega) hv2 (by omega)
   rwa [gcd_step] at this
theorem rgcdH (n:Nat):∀ (fx fy:Bool) (x y:Nat),y<=n->N.cnt x<=399000->N.cnt y<=399000->Zfk fx fy x y (Zaf (bigA false (Nat.gcd x y:Nat))):=by
 have small:∀ x:Nat,N.cnt x<=2->x<=18446744073709551615:=by
  intro x h
  have f:=ZaN (Zah x) h
  have:x<1000000000000000000:=by unfold N.fits at f;simpa using f
  omega
 induction n with
 | zero =>
  intro fx fy x y hy hx hcy
  have:y=0:=by omega
  subst this
  refine rGCDH _ _ _ _ _ ⟨fun h => ?_,fun _=>⟨fun _=>⟨by unfold N.Zav;omega,?_⟩,fun h => ?_⟩⟩
  ·have:=h.1
   rw [ZaF,Zbx] at this;omega
  ·rw [ZbZ,Nat.gcd_zero_right];exact .refl _
  ·rw [ZaF,Zbx] at h;omega
 | succ n ih =>
  intro fx fy x y hy hx hcy
  have hc:=Zay (v:=y)
  refine rGCDH _ _ _ _ _ ⟨fun h => ?_,fun h=>⟨fun k=>⟨by unfold N.Zav;omega,?_⟩,fun k => ?_⟩⟩
  ·rw [ZaF,ZaF] at h
   have h0:y ≠ 0:=fun e=>by have:=hc.2 e;omega
   have hlt:=Nat.mod_lt x (show 0<y by omega)
   have:=ih fy false y (x % y) (by omega) hcy (by have:=ZaK (Nat.le_of_lt hlt);omega)
   rw [gcd_step] at this
   exact ⟨⟨hx,hcy,h0⟩,this⟩
  ·rw [ZaF] at k
   have:y=0:=hc.1 (by omega)
   rw [this,ZbZ,Nat.gcd_zero_right];exact .refl _
  ·rw [ZaF,ZaF] at h
   rw [ZaF] at k
   exact ⟨by omega,by omega,rgcdW y x y (Nat.le_refl _) (small x (by omega)) (small y (by omega))⟩
theorem ev112 (fa fb:Bool) (a b:Int) (h:N.cnt a.natAbs<=399000/\N.cnt b.natAbs<=399000):Ev M1 (.pure 112 [bigA fa a,bigA fb b]) (bigA false (Int.gcd a b:Nat)) []:=
 call112 (rGCD _ _ _ _ _ (rgcdH b.natAbs fa fb a.natAbs b.natAbs (Nat.le_refl _) h.1 h.2))
end Go.Av

namespace Go.Av
open Go.Proofs
end Go.Av

namespace Go.Av
open Go.Proofs
set_option maxRecDepth 100000
end Go.Av

namespace Go.Av
open Go.Proofs
set_option maxRecDepth 100000
def fi88:Fi:=⟨2,[.cell 0 85]⟩
def kp88:List (Nat × List Nat):=[(0,[0]),(1,[0])]
def fi94:Fi:=⟨16,[.cell 4 85]⟩
def kp94:List (Nat × List Nat):=[(0,[2,3,4]),(1,[4,5]),(2,[4])]
def vUnit_at  (Q:AV->Heap->Prop):Prop:=Wp M1 (.run fi88 (atC (cd Tryz.f88) []) [] []) Q
def vExact_at (fa fb:Bool) (a b:Int) (Q:AV->Heap->Prop):Prop:=Wp M1 (.run fi94 (atC (cd Tryz.f94) []) [(0,bigA fa a),(1,bigA fb b)] []) Q
theorem call88 {args:List AV} {d:AV} (h:wc M1 fi88 Tryz.f88 args d):Ev M1 (.pure 88 args) d []:=pcl _ _ (by kernel_rfl) h
theorem call94 {args:List AV} {d:AV} (h:wc M1 fi94 Tryz.f94 args d):Ev M1 (.pure 94 args) d []:=pcl _ _ (by kernel_rfl) h
theorem vUnit   (dq:AV) (H :
  (N.inI 1) /\
  Weak (ag [vb false,vf (us (N.Zac 1))]) dq) :
 vUnit_at  (Zaf dq):=by
 unfold vUnit_at
 obtain ⟨k1,H⟩:=H
 exact Zai (G:=Zae kp88 [(1,0,.call (ag [vb false,vf (us (N.Zac 1))]) none)] []) 1000 [] (ag [vb false,vf (us (N.Zac 1))]) (by kernel_rfl) (bc rfl b0) q0 (ce (@ev73 1 k1) c0) H
theorem vExact (fa fb:Bool) (a b:Int)  (dq:AV) (H :
  (N.okB a/\N.okB b/\b ≠ 0) /\
  Weak (bigA false (N.flo a b)) dq) :
 vExact_at fa fb a b (Zaf dq):=by
 unfold vExact_at
 obtain ⟨k1,H⟩:=H
 exact Zai (G:=Zae kp94 [(1,2,.call (tu [bigA false (N.flo a b),bigA false (N.flr a b),vi 0]) none)] []) 1000 [] (bigA false (N.flo a b)) (by kernel_rfl) (bc rfl (bc rfl (bc rfl (bc rfl (bc rfl (bc rfl b0)))))) q0 (ce (@ev116 fa fb a b k1) c0) H
end Go.Av

namespace Go.Av
open Go.Proofs
theorem ev88:Ev M1 (.pure 88 []) (.agg [.bool false,.vec false 1 ((N.Zac 1).map (.int .u32))]) []:=
 call88 (vUnit _ ⟨by unfold N.inI;omega,.refl _⟩)
theorem ev94 (fa fb:Bool) (a b:Int) (h:N.okB a/\N.okB b/\b ≠ 0):Ev M1 (.pure 94 [bigA fa a,bigA fb b]) (bigA false (N.flo a b)) []:=
 call94 (vExact _ _ _ _ _ ⟨h,.refl _⟩)
theorem ev78_a (fa:Bool) (a:Int) (h:N.okB a):Ev M1 (.pure 78 [bigA fa a,.agg [.bool false,.vec false 1 ((N.Zac 1).map (.int .u32))]]) (.int .i64 (N.sgnI (a-1))) []:=
 ev78 fa false a 1 ⟨h,Zf0 (by decide)⟩
end Go.Av

namespace Go.Av
open Go.Proofs
set_option maxRecDepth 100000
def fi72:Fi:=⟨6,[.cell 2 87]⟩
def kp72:List (Nat × List Nat):=[(0,[1,2]),(1,[2])]
def fi74:Fi:=⟨29,[.cell 4 87]⟩
def kp74:List (Nat × List Nat):=[(0,[2,3,4]),(1,[2,3,4,8]),(2,[2,3,4]),(3,[2,3,4,5]),(4,[2,3,4,5,19]),(5,[2,3,4]),(6,[4])]
def fi77:Fi:=⟨6,[.tmp 2]⟩
def kp77:List (Nat × List Nat):=[(0,[1]),(1,[2])]
def fi143:Fi:=⟨9,[.cell 2 87]⟩
def kp143:List (Nat × List Nat):=[(0,[1,2]),(1,[2])]
def vWhole_at (fa:Bool) (a:Int) (Q:AV->Heap->Prop):Prop:=Wp M1 (.run fi72 (atC (cd Tryz.f72) []) [(0,bigA fa a)] []) Q
def ZgR (fa fb:Bool) (a b:Int) (Q:AV->Heap->Prop):Prop:=Wp M1 (.run fi74 (atC (cd Tryz.f74) []) [(0,bigA fa a),(1,bigA fb b)] []) Q
def vRSign_at (fa ga:Bool) (p q:Int) (Q:AV->Heap->Prop):Prop:=Wp M1 (.run fi77 (atC (cd Tryz.f77) []) [(0,.agg [.bool (N.Zaa p),.vec fa 1 ((N.Zac p).map (.int .u32)),.bool (N.Zaa q),.vec ga 1 ((N.Zac q).map (.int .u32))])] []) Q
def vRNeg_at (fa ga:Bool) (p q:Int) (Q:AV->Heap->Prop):Prop:=Wp M1 (.run fi143 (atC (cd Tryz.f143) []) [(0,.agg [.bool (N.Zaa p),.vec fa 1 ((N.Zac p).map (.int .u32)),.bool (N.Zaa q),.vec ga 1 ((N.Zac q).map (.int .u32))])] []) Q
theorem call72 {args:List AV} {d:AV} (h:wc M1 fi72 Tryz.f72 args d):Ev M1 (.pure 72 args) d []:=pcl _ _ (by kernel_rfl) h
theorem call74 {args:List AV} {d:AV} (h:wc M1 fi74 Tryz.f74 args d):Ev M1 (.pure 74 args) d []:=pcl _ _ (by kernel_rfl) h
theorem call77 {args:List AV} {d:AV} (h:wc M1 fi77 Tryz.f77 args d):Ev M1 (.pure 77 args) d []:=pcl _ _ (by kernel_rfl) h
theorem call143 {args:List AV} {d:AV} (h:wc M1 fi143 Tryz.f143 args d):Ev M1 (.pure 143 args) d []:=pcl _ _ (by kernel_rfl) h
theorem vWhole (fa:Bool) (a:Int)  (dq:AV) (H :
  Weak (ag [vb (N.Zaa a),AV.vec fa 1 (us (N.Zac a)),vb false,vf (us (N.Zac 1))]) dq) :
 vWhole_at fa a (Zaf dq):=by
 unfold vWhole_at
 exact Zai (G:=Zae kp72 [(1,1,.call (ag [vb false,vf (us (N.Zac 1))]) none)] []) 1000 [] (ag [vb (N.Zaa a),AV.vec fa 1 (us (N.Zac a)),vb false,vf (us (N.Zac 1))]) (by kernel_rfl) (bc rfl (bc rfl b0)) q0 (ce (@ev88 ) c0) H
noncomputable abbrev zNvJ1:=ag [vb false,AV.vnil,vb false,AV.vnil]
theorem vReduce (fa fb:Bool) (a b:Int)  (dq:AV) (H :
  ((N.sgnI b<0)->(N.okB a) /\
   (N.okB b) /\
   (N.okB (-a)/\N.okB (-b)) /\
   (N.okB (↑((-a).gcd (-b)):Int)) /\
   ((¬N.sgnI ((↑((-a).gcd (-b)):Int)-1)=0)->(N.okB (-a)/\N.okB (↑((-a).gcd (-b)):Int)/\(↑((-a).gcd (-b)):Int) ≠ 0) /\
    (N.okB (-b)/\N.okB (↑((-a).gcd (-b)):Int)/\(↑((-a).gcd (-b)):Int) ≠ 0) /\
    Weak (ag [vb (N.Zaa (N.flo (-a) (↑((-a).gcd (-b)):Int))),vf (us (N.Zac (N.flo (-a) (↑((-a).gcd (-b)):Int)))),vb (N.Zaa (N.flo (-b) (↑((-a).gcd (-b)):Int))),vf (us (N.Zac (N.flo (-b) (↑((-a).gcd (-b)):Int))))]) dq) /\
   (¬(¬N.sgnI ((↑((-a).gcd (-b)):Int)-1)=0)->Weak (ag [vb (N.Zaa (-a)),vf (us (N.Zac (-a))),vb (N.Zaa (-b)),vf (us (N.Zac (-b)))]) dq)) /\
  (¬(N.sgnI b<0)->(N.okB a/\N.okB b) /\
   (N.okB (↑(a.gcd b):Int)) /\
   ((¬N.sgnI ((↑(a.gcd b):Int)-1)=0)->(N.okB a/\N.okB (↑(a.gcd b):Int)/\(↑(a.gcd b):Int) ≠ 0) /\
    (N.okB b/\N.okB (↑(a.gcd b):Int)/\(↑(a.gcd b):Int) ≠ 0) /\
    Weak (ag [vb (N.Zaa (N.flo a (↑(a.gcd b):Int))),vf (us (N.Zac (N.flo a (↑(a.gcd b):Int)))),vb (N.Zaa (N.flo b (↑(a.gcd b):Int))),vf (us (N.Zac (N.flo b (↑(a.gcd b):Int))))]) dq) /\
   (¬(¬N.sgnI ((↑(a.gcd b):Int)-1)=0)->Weak (ag [vb (N.Zaa a),AV.vec fa 1 (us (N.Zac a)),vb (N.Zaa b),AV.vec fb 1 (us (N.Zac b))]) dq))) :
 ZgR fa fb a b (Zaf dq):=by
 unfold ZgR
 refine Zad (G:=Zae kp74 [(1,1,.call (vi (N.sgnI b)) none)] []) 5 [] ⟨(atC (cd Tryz.f74) [1,0,1]),[(2,AV.ptr 0 0 0 0),(3,AV.ptr 1 0 0 0),(4,AV.ptr 2 0 0 0),(8,vb (decide (N.sgnI b<0)))],[⟨[bigA fa a],2,0,false,false⟩,⟨[bigA fb b],2,0,false,false⟩,⟨[zNvJ1],4,0,false,false⟩],_,[],_⟩ (by kernel_rfl) (bc rfl b0) q0 (ce (@ev91 fb b) c0) ?_
 rcases xq H with ⟨d2,H⟩|⟨d2,H⟩
 ·obtain ⟨k3,k4,k5,k6,H⟩:=H
  refine Zad (G:=Zae kp74 [(2,1,.call (bigA false (-a)) none),(2,3,.call (bigA false (-b)) none),(3,2,.call (bigA false (↑((-a).gcd (-b)):Int)) none),(4,1,.call (ag [vb false,vf (us (N.Zac 1))]) none),(4,2,.call (vi (N.sgnI ((↑((-a).gcd (-b)):Int)-1))) none)] []) 7 [true] ⟨(atC (cd Tryz.f74) [1,1,0,1,1]),[(2,AV.ptr 0 0 0 0),(3,AV.ptr 1 0 0 0),(4,AV.ptr 2 0 0 0),(5,AV.ptr 3 0 0 0),(19,vb (N.sgnI ((↑((-a).gcd (-b)):Int)-1) != 0))],[⟨[bigA false (-a)],2,0,false,false⟩,⟨[bigA false (-b)],2,0,false,false⟩,⟨[zNvJ1],4,0,false,false⟩,⟨[bigA false (↑((-a).gcd (-b)):Int)],2,0,false,false⟩],_,[],_⟩ (by kernel_rfl) (bc (Zan (Zab.2 d2)) (bc rfl (bc rfl (bc rfl (bc rfl (bc rfl (bc rfl (bc rfl (bc rfl b0))))))))) q0 (ce (@ev92 fa a k3) (ce (@ev92 fb b k4) (ce (@ev93 false false (-a) (-b) k5) (ce (@ev88 ) (ce (@ev78_a false ((↑((-a).gcd (-b)):Int)) k6) c0))))) ?_
  rcases xq H with ⟨d8,H⟩|⟨d8,H⟩
  ·obtain ⟨k9,k10,H⟩:=H
   exact Zai (G:=Zae kp74 [(5,2,.call (bigA false (N.flo (-a) (↑((-a).gcd (-b)):Int))) none),(5,5,.call (bigA false (N.flo (-b) (↑((-a).gcd (-b)):Int))) none)] []) 1000 [true] (ag [vb (N.Zaa (N.flo (-a) (↑((-a).gcd (-b)):Int))),vf (us (N.Zac (N.flo (-a) (↑((-a).gcd (-b)):Int)))),vb (N.Zaa (N.flo (-b) (↑((-a).gcd (-b)):Int))),vf (us (N.Zac (N.flo (-b) (↑((-a).gcd (-b)):Int))))]) (by kernel_rfl) (bc (Zan (i_ne.2 d8)) (bc rfl (bc rfl (bc rfl (bc rfl (bc rfl (bc rfl (bc rfl (bc rfl (bc rfl b0)))))))))) q0 (ce (@ev94 false false (-a) ((↑((-a).gcd (-b)):Int)) k9) (ce (@ev94 false false (-b) ((↑((-a).gcd (-b)):Int)) k10) c0)) H
  ·exact Zai (G:=Zae kp74 [] []) 1000 [false] (ag [vb (N.Zaa (-a)),vf (us (N.Zac (-a))),vb (N.Zaa (-b)),vf (us (N.Zac (-b)))]) (by kernel_rfl) (bc (Zam (fun h=>d8 (i_ne.1 h))) (bc rfl (bc rfl (bc rfl b0)))) q0 c0 H
 ·obtain ⟨k11,k12,H⟩:=H
  refine Zad (G:=Zae kp74 [(3,2,.call (bigA false (↑(a.gcd b):Int)) none),(4,1,.call (ag [vb false,vf (us (N.Zac 1))]) none),(4,2,.call (vi (N.sgnI ((↑(a.gcd b):Int)-1))) none)] []) 7 [false] ⟨(atC (cd Tryz.f74) [1,1,0,1,1]),[(2,AV.ptr 0 0 0 0),(3,AV.ptr 1 0 0 0),(4,AV.ptr 2 0 0 0),(5,AV.ptr 3 0 0 0),(19,vb (N.sgnI ((↑(a.gcd b):Int)-1) != 0))],[⟨[bigA fa a],2,0,false,false⟩,⟨[bigA fb b],2,0,false,false⟩,⟨[zNvJ1],4,0,false,false⟩,⟨[bigA false (↑(a.gcd b):Int)],2,0,false,false⟩],_,[],_⟩ (by kernel_rfl) (bc (Zam (fun h=>d2 (Zab.1 h))) (bc rfl (bc rfl (bc rfl (bc rfl b0))))) q0 (ce (@ev93 fa fb a b k11) (ce (@ev88 ) (ce (@ev78_a false ((↑(a.gcd b):Int)) k12) c0))) ?_
  rcases xq H with ⟨d14,H⟩|⟨d14,H⟩
  ·obtain ⟨k15,k16,H⟩:=H
   exact Zai (G:=Zae kp74 [(5,2,.call (bigA false (N.flo a (↑(a.gcd b):Int))) none),(5,5,.call (bigA false (N.flo b (↑(a.gcd b):Int))) none)] []) 1000 [true] (ag [vb (N.Zaa (N.flo a (↑(a.gcd b):Int))),vf (us (N.Zac (N.flo a (↑(a.gcd b):Int)))),vb (N.Zaa (N.flo b (↑(a.gcd b):Int))),vf (us (N.Zac (N.flo b (↑(a.gcd b):Int))))]) (by kernel_rfl) (bc (Zan (i_ne.2 d14)) (bc rfl (bc rfl (bc rfl (bc rfl (bc rfl (bc rfl (bc rfl (bc rfl (bc rfl b0)))))))))) q0 (ce (@ev94 fa false a ((↑(a.gcd b):Int)) k15) (ce (@ev94 fb false b ((↑(a.gcd b):Int)) k16) c0)) H
  ·exact Zai (G:=Zae kp74 [] []) 1000 [false] (ag [vb (N.Zaa a),AV.vec fa 1 (us (N.Zac a)),vb (N.Zaa b),AV.vec fb 1 (us (N.Zac b))]) (by kernel_rfl) (bc (Zam (fun h=>d14 (i_ne.1 h))) (bc rfl (bc rfl (bc rfl b0)))) q0 c0 H
theorem vRSign (fa ga:Bool) (p q:Int)  (dq:AV) (H :
  vi (N.sgnI p)=dq) :
 vRSign_at fa ga p q (Zaf dq):=by
 unfold vRSign_at
 exact Zaq (G:=Zae kp77 [(1,2,.call (vi (N.sgnI p)) none)] []) 1000 [] (vi (N.sgnI p)) (by kernel_rfl) (bc rfl b0) q0 (ce (@ev91 fa p) c0) H
theorem vRNeg (fa ga:Bool) (p q:Int)  (dq:AV) (H :
  (N.okB p) /\
  Weak (ag [vb (N.Zaa (-p)),vf (us (N.Zac (-p))),vb (N.Zaa q),AV.vec ga 1 (us (N.Zac q))]) dq) :
 vRNeg_at fa ga p q (Zaf dq):=by
 unfold vRNeg_at
 obtain ⟨k1,H⟩:=H
 exact Zai (G:=Zae kp143 [(1,2,.call (bigA false (-p)) none)] []) 1000 [] (ag [vb (N.Zaa (-p)),vf (us (N.Zac (-p))),vb (N.Zaa q),AV.vec ga 1 (us (N.Zac q))]) (by kernel_rfl) (bc rfl (bc rfl (bc rfl b0))) q0 (ce (@ev92 fa p k1) c0) H
end Go.Av

namespace Go.Av
open Go.Proofs
abbrev ratA (f g:Bool) (r:Rat):AV:=.agg [.bool (N.Zaa r.num),.vec f 1 ((N.Zac r.num).map (.int .u32)),.bool (N.Zaa (r.den:Int)),.vec g 1 ((N.Zac (r.den:Int)).map (.int .u32))]
abbrev ratF (r:Rat):AV:=ratA false false r
theorem Zea (b d f g:Bool) (xs ys:List AV):Weak (.agg [.bool b,.vec f 1 xs,.bool d,.vec g 1 ys]) (.agg [.bool b,.vec false 1 xs,.bool d,.vec false 1 ys]):=by
 refine .agg _ _ rfl fun i x y hx hy => ?_
 match i with
 | 0=>simp at hx hy;subst hx;subst hy;exact .refl _
 | 1=>simp at hx hy;subst hx;subst hy;exact Zcn _ _ _
 | 2=>simp at hx hy;subst hx;subst hy;exact .refl _
 | 3=>simp at hx hy;subst hx;subst hy;exact Zcn _ _ _
 | i+4=>simp at hx
theorem rat_neg {a b:Int} (h:b<0):(Rat.divInt a b).num=(-a) / (((-a).gcd (-b):Nat):Int)/\((Rat.divInt a b).den:Int)=(-b) / (((-a).gcd (-b):Nat):Int):=by
 have e:(-a).gcd (-b)=b.gcd a:=by rw [Int.neg_gcd,Int.gcd_neg,Int.gcd_comm]
 rw [e,Rat.num_divInt,Rat.den_divInt,if_neg (by omega),Int.sign_eq_neg_one_of_neg h]
 refine ⟨by rw [Int.neg_mul,Int.one_mul],?_⟩
 have e2:((b.natAbs / b.gcd a:Nat):Int)=(b.natAbs:Int) / (b.gcd a:Int):=rfl
 rw [e2]
 congr 1;omega
theorem rat_pos {a b:Int} (h:0<b):(Rat.divInt a b).num=a / ((a.gcd b:Nat):Int)/\((Rat.divInt a b).den:Int)=b / ((a.gcd b:Nat):Int):=by
 have e:a.gcd b=b.gcd a:=Int.gcd_comm _ _
 rw [e,Rat.num_divInt,Rat.den_divInt,if_neg (by omega),Int.sign_eq_one_of_pos h]
 refine ⟨by rw [Int.one_mul],?_⟩
 have e2:((b.natAbs / b.gcd a:Nat):Int)=(b.natAbs:Int) / (b.gcd a:Int):=rfl
 rw [e2]
 congr 1;omega
theorem gcd_okB {a b:Int} (hb:b ≠ 0) (h:N.okB b):N.okB ((a.gcd b:Nat):Int)/\((a.gcd b:Nat):Int) ≠ 0:=by
 have h1:0<a.gcd b:=Int.gcd_pos_of_ne_zero_right _ hb
 have h2:a.gcd b<=b.natAbs:=Nat.le_of_dvd (by omega) (Int.gcd_dvd_natAbs_right a b)
 have:=ZaK h2
 refine ⟨?_,by omega⟩
 unfold N.okB at *
 rw [Int.natAbs_natCast];omega
theorem ZdA {a:Int} {g:Nat} (h:(g:Int) ≠ 0):N.flo a (g:Int)=a / (g:Int):=by
 unfold N.flo
 rw [if_pos (by omega)]
theorem ev74 (fa fb:Bool) (a b:Int) (h:N.okB a/\N.okB b/\b ≠ 0):Ev M1 (.pure 74 [bigA fa a,bigA fb b]) (ratF (Rat.divInt a b)) []:=by
 obtain ⟨ha,hb,h0⟩:=h
 have hna:N.okB (-a):=by unfold N.okB at *;rwa [Int.natAbs_neg]
 have hnb:N.okB (-b):=by unfold N.okB at *;rwa [Int.natAbs_neg]
 refine call74 (vReduce _ _ _ _ _ ⟨fun k => ?_,fun k => ?_⟩)
 ·rw [ZbI] at k
  obtain ⟨g1,g2⟩:=gcd_okB (a:=-a) (b:=-b) (by omega) hnb
  obtain ⟨r1,r2⟩:=rat_neg (a:=a) k
  refine ⟨ha,hb,⟨hna,hnb⟩,g1,fun _=>⟨⟨hna,g1,g2⟩,⟨hnb,g1,g2⟩,?_⟩,fun k2 => ?_⟩
  ·show Weak _ (AV.agg [.bool (N.Zaa (Rat.divInt a b).num),.vec false 1 ((N.Zac (Rat.divInt a b).num).map (.int .u32)),.bool (N.Zaa ((Rat.divInt a b).den:Int)),.vec false 1 ((N.Zac ((Rat.divInt a b).den:Int)).map (.int .u32))])
   rw [r1,r2,ZdA g2,ZdA g2];exact .refl _
  ·have k2:=Zdm.1 (Classical.not_not.1 k2)
   have e:(((-a).gcd (-b):Nat):Int)=1:=by omega
   show Weak _ (AV.agg [.bool (N.Zaa (Rat.divInt a b).num),.vec false 1 ((N.Zac (Rat.divInt a b).num).map (.int .u32)),.bool (N.Zaa ((Rat.divInt a b).den:Int)),.vec false 1 ((N.Zac ((Rat.divInt a b).den:Int)).map (.int .u32))])
   rw [r1,r2,e,Int.ediv_one,Int.ediv_one];exact Zea _ _ _ _ _ _
 ·rw [ZbI] at k
  obtain ⟨g1,g2⟩:=gcd_okB (a:=a) (b:=b) h0 hb
  obtain ⟨r1,r2⟩:=rat_pos (a:=a) (show 0<b by omega)
  refine ⟨⟨ha,hb⟩,g1,fun _=>⟨⟨ha,g1,g2⟩,⟨hb,g1,g2⟩,?_⟩,fun k2 => ?_⟩
  ·show Weak _ (AV.agg [.bool (N.Zaa (Rat.divInt a b).num),.vec false 1 ((N.Zac (Rat.divInt a b).num).map (.int .u32)),.bool (N.Zaa ((Rat.divInt a b).den:Int)),.vec false 1 ((N.Zac ((Rat.divInt a b).den:Int)).map (.int .u32))])
   rw [r1,r2,ZdA g2,ZdA g2];exact .refl _
  ·have k2:=Zdm.1 (Classical.not_not.1 k2)
   have e:((a.gcd b:Nat):Int)=1:=by omega
   show Weak _ (AV.agg [.bool (N.Zaa (Rat.divInt a b).num),.vec false 1 ((N.Zac (Rat.divInt a b).num).map (.int .u32)),.bool (N.Zaa ((Rat.divInt a b).den:Int)),.vec false 1 ((N.Zac ((Rat.divInt a b).den:Int)).map (.int .u32))])
   rw [r1,r2,e,Int.ediv_one,Int.ediv_one];exact Zea _ _ _ _ _ _
theorem ev77 (fa ga:Bool) (p q:Int):Ev M1 (.pure 77 [.agg [.bool (N.Zaa p),.vec fa 1 ((N.Zac p).map (.int .u32)),.bool (N.Zaa q),.vec ga 1 ((N.Zac q).map (.int .u32))]]) (.int .i64 (N.sgnI p)) []:=
 call77 (vRSign _ _ _ _ _ rfl)
end Go.Av

namespace Go.Av
open Go.Proofs
theorem ev143 (fa ga:Bool) (r:Rat) (h:N.okB r.num):Ev M1 (.pure 143 [ratA fa ga r]) (ratF (-r)) []:=by
 refine call143 (vRNeg _ _ _ _ _ ⟨h,?_⟩)
 show Weak _ (AV.agg [.bool (N.Zaa (-r).num),.vec false 1 ((N.Zac (-r).num).map (.int .u32)),.bool (N.Zaa ((-r).den:Int)),.vec false 1 ((N.Zac ((-r).den:Int)).map (.int .u32))])
 rw [Rat.neg_num,Rat.neg_den]
 exact Zea _ _ _ _ _ _
namespace N
end N
theorem ev72 (fa:Bool) (a:Int):Ev M1 (.pure 72 [bigA fa a]) (ratF (a:Rat)) []:=by
 refine call72 (vWhole _ _ _ ?_)
 show Weak _ (AV.agg [.bool (N.Zaa (a:Rat).num),.vec false 1 ((N.Zac (a:Rat).num).map (.int .u32)),.bool (N.Zaa ((a:Rat).den:Int)),.vec false 1 ((N.Zac ((a:Rat).den:Int)).map (.int .u32))])
 rw [Rat.num_intCast,Rat.den_intCast]
 exact Zea _ _ _ _ _ _
end Go.Av

namespace Go.Av
open Go.Proofs
set_option maxRecDepth 100000
def fi59:Fi:=⟨6,[.cell 2 87]⟩
def kp59:List (Nat × List Nat):=[(0,[0,2]),(1,[2])]
def fi60:Fi:=⟨16,[.cell 4 87]⟩
def kp60:List (Nat × List Nat):=[(0,[2,3,4]),(1,[4])]
def fi62:Fi:=⟨25,[.tmp 4]⟩
def kp62:List (Nat × List Nat):=[(0,[2,3]),(1,[2,3,5]),(2,[2,3,5,12]),(3,[4]),(4,[4])]
def fi120:Fi:=⟨21,[.cell 4 87,.tmp 5]⟩
def kp120:List (Nat × List Nat):=[(0,[2,3,4]),(1,[2,3,4,8]),(2,[4,5]),(3,[4,5])]
def fi134:Fi:=⟨36,[.cell 4 87]⟩
def kp134:List (Nat × List Nat):=[(0,[2,3,4]),(1,[2,3,4,10]),(2,[4]),(3,[4])]
def vRAdd_at (fa ga fb gb:Bool) (r s:Rat) (Q:AV->Heap->Prop):Prop:=Wp M1 (.run fi134 (atC (cd Tryz.f134) []) [(0,ratA fa ga r),(1,ratA fb gb s)] []) Q
def vRMul_at (fa ga fb gb:Bool) (r s:Rat) (Q:AV->Heap->Prop):Prop:=Wp M1 (.run fi60 (atC (cd Tryz.f60) []) [(0,ratA fa ga r),(1,ratA fb gb s)] []) Q
def vRDiv_at (fa ga fb gb:Bool) (r s:Rat) (Q:AV->Heap->Prop):Prop:=Wp M1 (.run fi120 (atC (cd Tryz.f120) []) [(0,ratA fa ga r),(1,ratA fb gb s)] []) Q
def vRCmp_at (fa ga fb gb:Bool) (r s:Rat) (Q:AV->Heap->Prop):Prop:=Wp M1 (.run fi62 (atC (cd Tryz.f62) []) [(0,ratA fa ga r),(1,ratA fb gb s)] []) Q
def vRFrom_at (n:Int) (Q:AV->Heap->Prop):Prop:=Wp M1 (.run fi59 (atC (cd Tryz.f59) []) [(0,.int .i64 n)] []) Q
theorem call59 {args:List AV} {d:AV} (h:wc M1 fi59 Tryz.f59 args d):Ev M1 (.pure 59 args) d []:=pcl _ _ (by kernel_rfl) h
theorem call60 {args:List AV} {d:AV} (h:wc M1 fi60 Tryz.f60 args d):Ev M1 (.pure 60 args) d []:=pcl _ _ (by kernel_rfl) h
theorem call62 {args:List AV} {d:AV} (h:wc M1 fi62 Tryz.f62 args d):Ev M1 (.pure 62 args) d []:=pcl _ _ (by kernel_rfl) h
theorem call120 {args:List AV} {d:AV} (h:wc M1 fi120 Tryz.f120 args d):Ev M1 (.pure 120 args) d []:=pcl _ _ (by kernel_rfl) h
theorem call134 {args:List AV} {d:AV} (h:wc M1 fi134 Tryz.f134 args d):Ev M1 (.pure 134 args) d []:=pcl _ _ (by kernel_rfl) h
theorem vRAdd (fa ga fb gb:Bool) (r s:Rat)  (dq:AV) (H :
  (N.okB (↑r.den:Int)/\N.okB (↑s.den:Int)) /\
  ((N.sgnI ((↑r.den:Int)-(↑s.den:Int))=0)->(N.okB r.num/\N.okB s.num) /\
   (N.okB (r.num+s.num)/\N.okB (↑r.den:Int)/\(↑r.den:Int) ≠ 0) /\
   Weak (ratF (Rat.divInt (r.num+s.num) (↑r.den:Int))) dq) /\
  (¬(N.sgnI ((↑r.den:Int)-(↑s.den:Int))=0)->(N.okB r.num/\N.okB (↑s.den:Int)) /\
   (N.okB s.num/\N.okB (↑r.den:Int)) /\
   (N.okB (r.num*(↑s.den:Int))/\N.okB (s.num*(↑r.den:Int))) /\
   (N.okB (r.num*(↑s.den:Int)+s.num*(↑r.den:Int))/\N.okB ((↑r.den:Int)*(↑s.den:Int))/\(↑r.den:Int)*(↑s.den:Int) ≠ 0) /\
   Weak (ratF (Rat.divInt (r.num*(↑s.den:Int)+s.num*(↑r.den:Int)) ((↑r.den:Int)*(↑s.den:Int)))) dq)) :
 vRAdd_at fa ga fb gb r s (Zaf dq):=by
 unfold vRAdd_at
 obtain ⟨k1,H⟩:=H
 refine Zad (G:=Zae kp134 [(1,4,.call (vi (N.sgnI ((↑r.den:Int)-(↑s.den:Int)))) none)] []) 5 [] ⟨(atC (cd Tryz.f134) [1,0,1]),[(2,AV.ptr 0 0 0 0),(3,AV.ptr 1 0 0 0),(4,AV.ptr 2 0 0 0),(10,vb (N.sgnI ((↑r.den:Int)-(↑s.den:Int))==0))],[⟨[ratA fa ga r],4,0,false,false⟩,⟨[ratA fb gb s],4,0,false,false⟩,⟨[ag [vb false,AV.vnil,vb false,AV.vnil]],4,0,false,false⟩],_,[],_⟩ (by kernel_rfl) (bc rfl (bc rfl b0)) q0 (ce (@ev78 ga gb ((↑r.den:Int)) ((↑s.den:Int)) k1) c0) ?_
 rcases xq H with ⟨d3,H⟩|⟨d3,H⟩
 ·obtain ⟨k4,k5,H⟩:=H
  exact Zai (G:=Zae kp134 [(2,4,.call (bigA false (r.num+s.num)) none),(2,7,.call (ratF (Rat.divInt (r.num+s.num) (↑r.den:Int))) none)] []) 1000 [true] (ratF (Rat.divInt (r.num+s.num) (↑r.den:Int))) (by kernel_rfl) (bc (Zan (i_eq.2 d3)) (bc rfl (bc rfl (bc rfl (bc rfl b0))))) q0 (ce (@ev132 fa fb (r.num) (s.num) k4) (ce (@ev74 false ga (r.num+s.num) ((↑r.den:Int)) k5) c0)) H
 ·obtain ⟨k6,k7,k8,k9,H⟩:=H
  exact Zai (G:=Zae kp134 [(3,4,.call (bigA false (r.num*(↑s.den:Int))) none),(3,9,.call (bigA false (s.num*(↑r.den:Int))) none),(3,10,.call (bigA false (r.num*(↑s.den:Int)+s.num*(↑r.den:Int))) none),(3,15,.call (bigA false ((↑r.den:Int)*(↑s.den:Int))) none),(3,16,.call (ratF (Rat.divInt (r.num*(↑s.den:Int)+s.num*(↑r.den:Int)) ((↑r.den:Int)*(↑s.den:Int)))) none)] []) 1000 [false] (ratF (Rat.divInt (r.num*(↑s.den:Int)+s.num*(↑r.den:Int)) ((↑r.den:Int)*(↑s.den:Int)))) (by kernel_rfl) (bc (Zam (fun h=>d3 (i_eq.1 h))) (bc rfl (bc rfl (bc rfl (bc rfl (bc rfl (bc rfl (bc rfl b0)))))))) q0 (ce (@ev75 fa gb (r.num) ((↑s.den:Int)) k6) (ce (@ev75 fb ga (s.num) ((↑r.den:Int)) k7) (ce (@ev132 false false (r.num*(↑s.den:Int)) (s.num*(↑r.den:Int)) k8) (ce (@ev75 ga gb ((↑r.den:Int)) ((↑s.den:Int)) k1) (ce (@ev74 false false (r.num*(↑s.den:Int)+s.num*(↑r.den:Int)) ((↑r.den:Int)*(↑s.den:Int)) k9) c0))))) H
theorem vRMul (fa ga fb gb:Bool) (r s:Rat)  (dq:AV) (H :
  (N.okB r.num/\N.okB s.num) /\
  (N.okB (↑r.den:Int)/\N.okB (↑s.den:Int)) /\
  (N.okB (r.num*s.num)/\N.okB ((↑r.den:Int)*(↑s.den:Int))/\(↑r.den:Int)*(↑s.den:Int) ≠ 0) /\
  Weak (ratF (Rat.divInt (r.num*s.num) ((↑r.den:Int)*(↑s.den:Int)))) dq) :
 vRMul_at fa ga fb gb r s (Zaf dq):=by
 unfold vRMul_at
 obtain ⟨k1,k2,k3,H⟩:=H
 exact Zai (G:=Zae kp60 [(1,4,.call (bigA false (r.num*s.num)) none),(1,9,.call (bigA false ((↑r.den:Int)*(↑s.den:Int))) none),(1,10,.call (ratF (Rat.divInt (r.num*s.num) ((↑r.den:Int)*(↑s.den:Int)))) none)] []) 1000 [] (ratF (Rat.divInt (r.num*s.num) ((↑r.den:Int)*(↑s.den:Int)))) (by kernel_rfl) (bc rfl (bc rfl (bc rfl (bc rfl (bc rfl b0))))) q0 (ce (@ev75 fa fb (r.num) (s.num) k1) (ce (@ev75 ga gb ((↑r.den:Int)) ((↑s.den:Int)) k2) (ce (@ev74 false false (r.num*s.num) ((↑r.den:Int)*(↑s.den:Int)) k3) c0))) H
theorem vRDiv (fa ga fb gb:Bool) (r s:Rat)  (dq:AV) (H :
  ((N.sgnI s.num=0)->Weak (tu [ag [vb false,AV.vnil,vb false,AV.vnil],vi 6]) dq) /\
  (¬(N.sgnI s.num=0)->(N.okB r.num/\N.okB (↑s.den:Int)) /\
   (N.okB (↑r.den:Int)/\N.okB s.num) /\
   (N.okB (r.num*(↑s.den:Int))/\N.okB ((↑r.den:Int)*s.num)/\(↑r.den:Int)*s.num ≠ 0) /\
   Weak (tu [ratF (Rat.divInt (r.num*(↑s.den:Int)) ((↑r.den:Int)*s.num)),vi 0]) dq)) :
 vRDiv_at fa ga fb gb r s (Zaf dq):=by
 unfold vRDiv_at
 refine Zad (G:=Zae kp120 [(1,1,.call (vi (N.sgnI s.num)) none)] []) 5 [] ⟨(atC (cd Tryz.f120) [1,0,1]),[(2,AV.ptr 0 0 0 0),(3,AV.ptr 1 0 0 0),(4,AV.ptr 2 0 0 0),(8,vb (N.sgnI s.num==0))],[⟨[ratA fa ga r],4,0,false,false⟩,⟨[ratA fb gb s],4,0,false,false⟩,⟨[ag [vb false,AV.vnil,vb false,AV.vnil]],4,0,false,false⟩],_,[],_⟩ (by kernel_rfl) (bc rfl b0) q0 (ce (@ev77 fb gb (s.num) ((↑s.den:Int))) c0) ?_
 rcases xq H with ⟨d2,H⟩|⟨d2,H⟩
 ·exact Zai (G:=Zae kp120 [] []) 1000 [true] (tu [ag [vb false,AV.vnil,vb false,AV.vnil],vi 6]) (by kernel_rfl) (bc (Zan (i_eq.2 d2)) (bc rfl b0)) q0 c0 H
 ·obtain ⟨k3,k4,k5,H⟩:=H
  exact Zai (G:=Zae kp120 [(3,4,.call (bigA false (r.num*(↑s.den:Int))) none),(3,9,.call (bigA false ((↑r.den:Int)*s.num)) none),(3,10,.call (ratF (Rat.divInt (r.num*(↑s.den:Int)) ((↑r.den:Int)*s.num))) none)] []) 1000 [false] (tu [ratF (Rat.divInt (r.num*(↑s.den:Int)) ((↑r.den:Int)*s.num)),vi 0]) (by kernel_rfl) (bc (Zam (fun h=>d2 (i_eq.1 h))) (bc rfl (bc rfl (bc rfl (bc rfl (bc rfl b0)))))) q0 (ce (@ev75 fa gb (r.num) ((↑s.den:Int)) k3) (ce (@ev75 ga fb ((↑r.den:Int)) (s.num) k4) (ce (@ev74 false false (r.num*(↑s.den:Int)) ((↑r.den:Int)*s.num) k5) c0))) H
theorem vRCmp (fa ga fb gb:Bool) (r s:Rat)  (dq:AV) (H :
  ∃ (n1:Int),
  (Ev M1 (Conf.pure 76 [vi (N.sgnI r.num),vi (N.sgnI s.num)]) (vi n1) []) /\
  ((¬n1=0)->vi n1=dq) /\
  (¬(¬n1=0)->(N.okB r.num/\N.okB (↑s.den:Int)) /\
   (N.okB s.num/\N.okB (↑r.den:Int)) /\
   (N.okB (r.num*(↑s.den:Int))/\N.okB (s.num*(↑r.den:Int))) /\
   vi (N.sgnI (r.num*(↑s.den:Int)-s.num*(↑r.den:Int)))=dq)) :
 vRCmp_at fa ga fb gb r s (Zaf dq):=by
 unfold vRCmp_at
 obtain ⟨n1,k1,H⟩:=H
 refine Zad (G:=Zae kp62 [(1,1,.call (vi (N.sgnI r.num)) none),(1,3,.call (vi (N.sgnI s.num)) none),(1,4,.call (vi n1) none)] []) 7 [] ⟨(atC (cd Tryz.f62) [1,0,1,1]),[(2,AV.ptr 0 0 0 0),(3,AV.ptr 1 0 0 0),(5,vi n1),(12,vb (n1 != 0))],[⟨[ratA fa ga r],4,0,false,false⟩,⟨[ratA fb gb s],4,0,false,false⟩],_,[],_⟩ (by kernel_rfl) (bc rfl (bc rfl b0)) q0 (ce (@ev77 fa ga (r.num) ((↑r.den:Int))) (ce (@ev77 fb gb (s.num) ((↑s.den:Int))) (ce k1 c0))) ?_
 rcases xq H with ⟨d3,H⟩|⟨d3,H⟩
 ·exact Zaq (G:=Zae kp62 [] []) 1000 [true] (vi n1) (by kernel_rfl) (bc (Zan (i_ne.2 d3)) b0) q0 c0 H
 ·obtain ⟨k4,k5,k6,H⟩:=H
  exact Zaq (G:=Zae kp62 [(4,4,.call (bigA false (r.num*(↑s.den:Int))) none),(4,9,.call (bigA false (s.num*(↑r.den:Int))) none),(4,10,.call (vi (N.sgnI (r.num*(↑s.den:Int)-s.num*(↑r.den:Int)))) none)] []) 1000 [false] (vi (N.sgnI (r.num*(↑s.den:Int)-s.num*(↑r.den:Int)))) (by kernel_rfl) (bc (Zam (fun h=>d3 (i_ne.1 h))) (bc rfl (bc rfl (bc rfl (bc rfl b0))))) q0 (ce (@ev75 fa gb (r.num) ((↑s.den:Int)) k4) (ce (@ev75 fb ga (s.num) ((↑r.den:Int)) k5) (ce (@ev78 false false (r.num*(↑s.den:Int)) (s.num*(↑r.den:Int)) k6) c0))) H
theorem vRFrom (n:Int)  (dq:AV) (H :
  (N.inI n) /\
  Weak (ratF (↑n:Rat)) dq) :
 vRFrom_at n (Zaf dq):=by
 unfold vRFrom_at
 obtain ⟨k1,H⟩:=H
 exact Zai (G:=Zae kp59 [(1,1,.call (bigA false n) none),(1,2,.call (ratF (↑n:Rat)) none)] []) 1000 [] (ratF (↑n:Rat)) (by kernel_rfl) (bc rfl b0) q0 (ce (@ev73 n k1) (ce (@ev72 false n) c0)) H
end Go.Av

namespace Go.Av
open Go.Proofs
def N.okR (r:Rat):Prop:=N.cnt r.num.natAbs<=90000/\N.cnt r.den<=90000
theorem Zdv {r:Rat} (h:N.okR r):N.okB r.num/\N.okB (r.den:Int):=by
 unfold N.okR at h
 unfold N.okB
 rw [Int.natAbs_natCast];omega
theorem ZaG {a b:Int} {n m:Nat} (ha:N.cnt a.natAbs<=n) (hb:N.cnt b.natAbs<=m):N.cnt (a*b).natAbs<=n+m:=by
 rw [Int.natAbs_mul]
 exact Zaw.1 (ZcE (Zaw.2 ha) (Zaw.2 hb))
theorem Zfy {a b:Int} {n:Nat} (ha:N.cnt a.natAbs<=n) (hb:N.cnt b.natAbs<=n):N.cnt (a+b).natAbs<=n+1:=by
 have h:=Zaw.1 (ZeF (Zaw.2 ha) (Zaw.2 hb))
 exact Nat.le_trans (ZaK (Int.natAbs_add_le a b)) h
theorem ZaM {r:Rat} {n:Nat} (h:N.cnt r.den<=n):N.cnt ((r.den:Int)).natAbs<=n:=by rwa [Int.natAbs_natCast]
theorem ZbN (r:Rat):(r.den:Int) ≠ 0:=by have:=r.den_pos;omega
theorem rat_add (r s:Rat):Rat.divInt (r.num*(s.den:Int)+s.num*(r.den:Int)) ((r.den:Int)*(s.den:Int))=r+s:=by
 rw [<- Rat.divInt_add_divInt _ _ (ZbN r) (ZbN s),Rat.num_divInt_den,Rat.num_divInt_den]
theorem rat_add_same {r s:Rat} (h:(r.den:Int)=(s.den:Int)):Rat.divInt (r.num+s.num) (r.den:Int)=r+s:=by
 rw [<- rat_add,<- h,<- Int.add_mul,Rat.divInt_mul_right (ZbN r)]
theorem rat_mul (r s:Rat):Rat.divInt (r.num*s.num) ((r.den:Int)*(s.den:Int))=r*s:=by
 rw [<- Rat.divInt_mul_divInt,Rat.num_divInt_den,Rat.num_divInt_den]
theorem rat_div (r s:Rat):Rat.divInt (r.num*(s.den:Int)) ((r.den:Int)*s.num)=r / s:=by
 rw [<- Rat.divInt_mul_divInt,Rat.num_divInt_den,<- Rat.inv_divInt,Rat.num_divInt_den,Rat.div_def]
theorem ev134 (fa ga fb gb:Bool) (r s:Rat) (h:N.okR r/\N.okR s):Ev M1 (.pure 134 [ratA fa ga r,ratA fb gb s]) (ratF (r+s)) []:=by
 obtain ⟨hr,hs⟩:=h
 obtain ⟨r1,r2⟩:=Zdv hr
 obtain ⟨s1,s2⟩:=Zdv hs
 obtain ⟨cr1,cr2⟩:=hr
 obtain ⟨cs1,cs2⟩:=hs
 have m1:=ZaG cr1 (ZaM cs2)
 have m2:=ZaG cs1 (ZaM cr2)
 have m3:=ZaG (ZaM cr2) (ZaM cs2)
 have a1:=Zfy m1 m2
 have a2:=Zfy cr1 cs1
 refine call134 (vRAdd _ _ _ _ _ _ _ ⟨⟨r2,s2⟩,fun k=>⟨⟨r1,s1⟩,⟨by unfold N.okB;omega,r2,ZbN r⟩,?_⟩,fun k=>⟨⟨r1,s2⟩,⟨s1,r2⟩,⟨by unfold N.okB;omega,by unfold N.okB;omega⟩,⟨by unfold N.okB;omega,by unfold N.okB;omega,Int.mul_ne_zero (ZbN r) (ZbN s)⟩,?_⟩⟩)
 ·have k:=Zdm.1 k
  rw [rat_add_same (by omega)];exact .refl _
 ·rw [rat_add];exact .refl _
theorem ev60 (fa ga fb gb:Bool) (r s:Rat) (h:N.okR r/\N.okR s):Ev M1 (.pure 60 [ratA fa ga r,ratA fb gb s]) (ratF (r*s)) []:=by
 obtain ⟨hr,hs⟩:=h
 obtain ⟨r1,r2⟩:=Zdv hr
 obtain ⟨s1,s2⟩:=Zdv hs
 obtain ⟨cr1,cr2⟩:=hr
 obtain ⟨cs1,cs2⟩:=hs
 have m1:=ZaG cr1 cs1
 have m3:=ZaG (ZaM cr2) (ZaM cs2)
 refine call60 (vRMul _ _ _ _ _ _ _ ⟨⟨r1,s1⟩,⟨r2,s2⟩,⟨by unfold N.okB;omega,by unfold N.okB;omega,Int.mul_ne_zero (ZbN r) (ZbN s)⟩,?_⟩)
 rw [rat_mul];exact .refl _
theorem hid_ex (r:Rat):∃ s:Rat,s=r:=⟨r,rfl⟩
noncomputable def N.hid (r:Rat):Rat:=Classical.choose (hid_ex r)
theorem hid_eq (r:Rat):N.hid r=r:=Classical.choose_spec (hid_ex r)
noncomputable def N.qi (n:Int):Rat:=N.hid n
theorem qi_eq (n:Int):N.qi n=(n:Rat):=hid_eq _
theorem ev59 (n:Int) (h:N.inI n):Ev M1 (.pure 59 [.int .i64 n]) (ratF (N.qi n)) []:=by
 rw [qi_eq]
 exact call59 (vRFrom _ _ ⟨h,.refl _⟩)
end Go.Av

namespace Go.Av
open Go.Proofs
namespace N
end N
end Go.Av

namespace Go.Av
open Go.Proofs
end Go.Av

namespace Go.Av
open Go.Proofs
set_option maxRecDepth 100000
def fi71:Fi:=⟨2,[.cell 0 85]⟩
def kp71:List (Nat × List Nat):=[(0,[0]),(1,[0])]
def fi86:Fi:=⟨39,[.cell 4 87]⟩
def kp86:List (Nat × List Nat):=[(0,[2,3,4]),(1,[2,3,4,14]),(2,[2,3,4]),(3,[2,3,4,5]),(4,[3,4,5,6]),(5,[4,6,9]),(6,[4])]
def fi104:Fi:=⟨6,[.tmp 2]⟩
def kp104:List (Nat × List Nat):=[(0,[1]),(1,[2])]
def fi144:Fi:=⟨9,[.cell 2 87]⟩
def kp144:List (Nat × List Nat):=[(0,[1,2]),(1,[2])]
def rUnit_at  (Q:AV->Heap->Prop):Prop:=Wp M1 (.run fi71 (atC (cd Tryz.f71) []) [] []) Q
def rOf_at (fa fb:Bool) (a b:Int) (Q:AV->Heap->Prop):Prop:=Wp M1 (.run fi86 (atC (cd Tryz.f86) []) [(0,bigA fa a),(1,bigA fb b)] []) Q
def rRSign_at (fa ga:Bool) (p q:Int) (Q:AV->Heap->Prop):Prop:=Wp M1 (.run fi104 (atC (cd Tryz.f104) []) [(0,.agg [.bool (N.Zaa p),.vec fa 1 ((N.Zac p).map (.int .u32)),.bool (N.Zaa q),.vec ga 1 ((N.Zac q).map (.int .u32))])] []) Q
def rRNeg_at (fa ga:Bool) (p q:Int) (Q:AV->Heap->Prop):Prop:=Wp M1 (.run fi144 (atC (cd Tryz.f144) []) [(0,.agg [.bool (N.Zaa p),.vec fa 1 ((N.Zac p).map (.int .u32)),.bool (N.Zaa q),.vec ga 1 ((N.Zac q).map (.int .u32))])] []) Q
theorem call71 {args:List AV} {d:AV} (h:wc M1 fi71 Tryz.f71 args d):Ev M1 (.pure 71 args) d []:=pcl _ _ (by kernel_rfl) h
theorem call86 {args:List AV} {d:AV} (h:wc M1 fi86 Tryz.f86 args d):Ev M1 (.pure 86 args) d []:=pcl _ _ (by kernel_rfl) h
theorem call104 {args:List AV} {d:AV} (h:wc M1 fi104 Tryz.f104 args d):Ev M1 (.pure 104 args) d []:=pcl _ _ (by kernel_rfl) h
theorem call144 {args:List AV} {d:AV} (h:wc M1 fi144 Tryz.f144 args d):Ev M1 (.pure 144 args) d []:=pcl _ _ (by kernel_rfl) h
theorem rUnit   (dq:AV) (H :
  (N.inI 1) /\
  Weak (ag [vb false,vf (us (N.Zac 1))]) dq) :
 rUnit_at  (Zaf dq):=by
 unfold rUnit_at
 obtain ⟨k1,H⟩:=H
 exact Zai (G:=Zae kp71 [(1,0,.call (ag [vb false,vf (us (N.Zac 1))]) none)] []) 1000 [] (ag [vb false,vf (us (N.Zac 1))]) (by kernel_rfl) (bc rfl b0) q0 (ce (@ev70 1 k1) c0) H
theorem rOf (fa fb:Bool) (a b:Int)  (dq:AV) (H :
  ((N.sgnI b<0)->(N.ok a) /\
   (N.ok b) /\
   (N.cnt (-a).natAbs<=399000/\N.cnt (-b).natAbs<=399000) /\
   (N.cnt (-a).natAbs<=399000/\N.cnt (↑((-a).gcd (-b)):Int).natAbs<=399000/\(↑((-a).gcd (-b)):Int) ≠ 0) /\
   (N.cnt (-b).natAbs<=399000/\N.cnt (↑((-a).gcd (-b)):Int).natAbs<=399000/\(↑((-a).gcd (-b)):Int) ≠ 0) /\
   Weak (ag [vb (N.Zaa (N.flo (-a) (↑((-a).gcd (-b)):Int))),vf (us (N.Zac (N.flo (-a) (↑((-a).gcd (-b)):Int)))),vb (N.Zaa (N.flo (-b) (↑((-a).gcd (-b)):Int))),vf (us (N.Zac (N.flo (-b) (↑((-a).gcd (-b)):Int))))]) dq) /\
  (¬(N.sgnI b<0)->(N.cnt a.natAbs<=399000/\N.cnt b.natAbs<=399000) /\
   (N.cnt a.natAbs<=399000/\N.cnt (↑(a.gcd b):Int).natAbs<=399000/\(↑(a.gcd b):Int) ≠ 0) /\
   (N.cnt b.natAbs<=399000/\N.cnt (↑(a.gcd b):Int).natAbs<=399000/\(↑(a.gcd b):Int) ≠ 0) /\
   Weak (ag [vb (N.Zaa (N.flo a (↑(a.gcd b):Int))),vf (us (N.Zac (N.flo a (↑(a.gcd b):Int)))),vb (N.Zaa (N.flo b (↑(a.gcd b):Int))),vf (us (N.Zac (N.flo b (↑(a.gcd b):Int))))]) dq)) :
 rOf_at fa fb a b (Zaf dq):=by
 unfold rOf_at
 refine Zad (G:=Zae kp86 [(1,1,.call (vi (N.sgnI b)) none)] []) 5 [] ⟨(atC (cd Tryz.f86) [1,0,1]),[(2,AV.ptr 0 0 0 0),(3,AV.ptr 1 0 0 0),(4,AV.ptr 2 0 0 0),(14,vb (decide (N.sgnI b<0)))],[⟨[bigA fa a],2,0,false,false⟩,⟨[bigA fb b],2,0,false,false⟩,⟨[ag [vb false,AV.vnil,vb false,AV.vnil]],4,0,false,false⟩],_,[],_⟩ (by kernel_rfl) (bc rfl b0) q0 (ce (@ev110 fb b) c0) ?_
 rcases xq H with ⟨d2,H⟩|⟨d2,H⟩
 ·obtain ⟨k3,k4,k5,k6,k7,H⟩:=H
  exact Zai (G:=Zae kp86 [(2,1,.call (bigA false (-a)) none),(2,3,.call (bigA false (-b)) none),(3,2,.call (bigA false (↑((-a).gcd (-b)):Int)) none),(4,2,.call (tu [bigA false (N.flo (-a) (↑((-a).gcd (-b)):Int)),bigA false (N.flr (-a) (↑((-a).gcd (-b)):Int)),vi 0]) none),(5,2,.call (tu [bigA false (N.flo (-b) (↑((-a).gcd (-b)):Int)),bigA false (N.flr (-b) (↑((-a).gcd (-b)):Int)),vi 0]) none)] []) 1000 [true] (ag [vb (N.Zaa (N.flo (-a) (↑((-a).gcd (-b)):Int))),vf (us (N.Zac (N.flo (-a) (↑((-a).gcd (-b)):Int)))),vb (N.Zaa (N.flo (-b) (↑((-a).gcd (-b)):Int))),vf (us (N.Zac (N.flo (-b) (↑((-a).gcd (-b)):Int))))]) (by kernel_rfl) (bc (Zan (Zab.2 d2)) (bc rfl (bc rfl (bc rfl (bc rfl (bc rfl (bc rfl (bc rfl (bc rfl (bc rfl (bc rfl (bc rfl (bc rfl (bc rfl (bc rfl (bc rfl (bc rfl (bc rfl (bc rfl b0))))))))))))))))))) q0 (ce (@ev111 fa a k3) (ce (@ev111 fb b k4) (ce (@ev112 false false (-a) (-b) k5) (ce (@ev113 false false (-a) ((↑((-a).gcd (-b)):Int)) k6) (ce (@ev113 false false (-b) ((↑((-a).gcd (-b)):Int)) k7) c0))))) H
 ·obtain ⟨k8,k9,k10,H⟩:=H
  exact Zai (G:=Zae kp86 [(3,2,.call (bigA false (↑(a.gcd b):Int)) none),(4,2,.call (tu [bigA false (N.flo a (↑(a.gcd b):Int)),bigA false (N.flr a (↑(a.gcd b):Int)),vi 0]) none),(5,2,.call (tu [bigA false (N.flo b (↑(a.gcd b):Int)),bigA false (N.flr b (↑(a.gcd b):Int)),vi 0]) none)] []) 1000 [false] (ag [vb (N.Zaa (N.flo a (↑(a.gcd b):Int))),vf (us (N.Zac (N.flo a (↑(a.gcd b):Int)))),vb (N.Zaa (N.flo b (↑(a.gcd b):Int))),vf (us (N.Zac (N.flo b (↑(a.gcd b):Int))))]) (by kernel_rfl) (bc (Zam (fun h=>d2 (Zab.1 h))) (bc rfl (bc rfl (bc rfl (bc rfl (bc rfl (bc rfl (bc rfl (bc rfl (bc rfl (bc rfl (bc rfl (bc rfl (bc rfl (bc rfl b0))))))))))))))) q0 (ce (@ev112 fa fb a b k8) (ce (@ev113 fa false a ((↑(a.gcd b):Int)) k9) (ce (@ev113 fb false b ((↑(a.gcd b):Int)) k10) c0))) H
theorem rRSign (fa ga:Bool) (p q:Int)  (dq:AV) (H :
  vi (N.sgnI p)=dq) :
 rRSign_at fa ga p q (Zaf dq):=by
 unfold rRSign_at
 exact Zaq (G:=Zae kp104 [(1,2,.call (vi (N.sgnI p)) none)] []) 1000 [] (vi (N.sgnI p)) (by kernel_rfl) (bc rfl b0) q0 (ce (@ev110 fa p) c0) H
theorem rRNeg (fa ga:Bool) (p q:Int)  (dq:AV) (H :
  (N.ok p) /\
  Weak (ag [vb (N.Zaa (-p)),vf (us (N.Zac (-p))),vb (N.Zaa q),AV.vec ga 1 (us (N.Zac q))]) dq) :
 rRNeg_at fa ga p q (Zaf dq):=by
 unfold rRNeg_at
 obtain ⟨k1,H⟩:=H
 exact Zai (G:=Zae kp144 [(1,2,.call (bigA false (-p)) none)] []) 1000 [] (ag [vb (N.Zaa (-p)),vf (us (N.Zac (-p))),vb (N.Zaa q),AV.vec ga 1 (us (N.Zac q))]) (by kernel_rfl) (bc rfl (bc rfl (bc rfl b0))) q0 (ce (@ev111 fa p k1) c0) H
end Go.Av

namespace Go.Av
open Go.Proofs
set_option maxRecDepth 100000
def fi96:Fi:=⟨6,[.tmp 2]⟩
def kp96:List (Nat × List Nat):=[(0,[0]),(1,[2])]
def vIsNaN_at (x:Int) (Q:AV->Heap->Prop):Prop:=Wp M1 (.run fi96 (atC (cd Tryz.f96) []) [(0,.int .i64 x)] []) Q
theorem call96 {args:List AV} {d:AV} (h:wc M1 fi96 Tryz.f96 args d):Ev M1 (.pure 96 args) d []:=pcl _ _ (by kernel_rfl) h
theorem vIsNaN (x:Int)  (dq:AV) (H :
  (vb (x != x))=dq) :
 vIsNaN_at x (Zaf dq):=by
 unfold vIsNaN_at
 exact Zaq (G:=Zae kp96 [] []) 1000 [] (vb (x != x)) (by kernel_rfl) b0 q0 c0 H
end Go.Av

namespace Go.Av
open Go.Proofs
theorem ev96 (x:Int):Ev M1 (.pure 96 [.int .i64 x]) (.bool false) []:=
 call96 (vIsNaN _ _ (by simp))
theorem ev120 (fa ga fb gb:Bool) (r s:Rat) (h:N.okR r/\N.okR s/\s.num ≠ 0):Ev M1 (.pure 120 [ratA fa ga r,ratA fb gb s]) (.tup [ratF (r / s),.int .i64 0]) []:=by
 obtain ⟨hr,hs,h0⟩:=h
 obtain ⟨r1,r2⟩:=Zdv hr
 obtain ⟨s1,s2⟩:=Zdv hs
 obtain ⟨cr1,cr2⟩:=hr
 obtain ⟨cs1,cs2⟩:=hs
 have m1:=ZaG cr1 (ZaM cs2)
 have m3:=ZaG (ZaM cr2) cs1
 refine call120 (vRDiv _ _ _ _ _ _ _ ⟨fun k=>absurd (Zdm.1 k) h0,fun _=>⟨⟨r1,s2⟩,⟨r2,s1⟩,⟨by unfold N.okB;omega,by unfold N.okB;omega,Int.mul_ne_zero (ZbN r) h0⟩,?_⟩⟩)
 rw [rat_div];exact .refl _
end Go.Av

namespace Go.Av
open Go.Proofs
set_option maxRecDepth 100000
def fi76:Fi:=⟨20,[.tmp 4]⟩
def kp76:List (Nat × List Nat):=[(0,[0,1]),(1,[0,1,5]),(2,[0,1,5,6]),(3,[0,1,6,11]),(4,[12]),(5,[4]),(6,[4]),(7,[0,1,13]),(8,[4]),(9,[0,1,16]),(10,[4]),(11,[19]),(12,[4]),(13,[4])]
def fi133:Fi:=⟨9,[.cell 4 87]⟩
def kp133:List (Nat × List Nat):=[(0,[2,3,4]),(1,[4])]
def ZgT (x y:Int) (Q:AV->Heap->Prop):Prop:=Wp M1 (.run fi76 (atC (cd Tryz.f76) []) [(0,.int .i64 x),(1,.int .i64 y)] []) Q
def vRSub_at (fa ga fb gb:Bool) (r s:Rat) (Q:AV->Heap->Prop):Prop:=Wp M1 (.run fi133 (atC (cd Tryz.f133) []) [(0,ratA fa ga r),(1,ratA fb gb s)] []) Q
theorem call76 {args:List AV} {d:AV} (h:wc M1 fi76 Tryz.f76 args d):Ev M1 (.pure 76 args) d []:=pcl _ _ (by kernel_rfl) h
theorem call133 {args:List AV} {d:AV} (h:wc M1 fi133 Tryz.f133 args d):Ev M1 (.pure 133 args) d []:=pcl _ _ (by kernel_rfl) h
theorem vCmpInt (x y:Int)  (dq:AV) (H :
  ((x<y)->vi (-1)=dq) /\
  (¬(x<y)->((x>y)->vi 1=dq) /\
   (¬(x>y)->vi 0=dq))) :
 ZgT x y (Zaf dq):=by
 unfold ZgT
 refine Zad (G:=Zae kp76 [(1,1,.call (vb false) none),(2,1,.call (vb false) none)] []) 19 [false,false] ⟨(atC (cd Tryz.f76) [1,1,1,1,1,0,1]),[(0,vi x),(1,vi y),(16,vb (decide (x<y)))],[],_,[],_⟩ (by kernel_rfl) (bc rfl (bc rfl b0)) q0 (ce (@ev96 x) (ce (@ev96 y) c0)) ?_
 rcases xq H with ⟨d2,H⟩|⟨d2,H⟩
 ·exact Zaq (G:=Zae kp76 [] []) 1000 [true] (vi (-1)) (by kernel_rfl) (bc (Zan (Zab.2 d2)) b0) q0 c0 H
 ·rcases xq H with ⟨d4,H⟩|⟨d4,H⟩
  ·exact Zaq (G:=Zae kp76 [] []) 1000 [false,true] (vi 1) (by kernel_rfl) (bc (Zam (fun h=>d2 (Zab.1 h))) (bc (Zan (Zab.2 d4)) b0)) q0 c0 H
  ·exact Zaq (G:=Zae kp76 [] []) 1000 [false,false] (vi 0) (by kernel_rfl) (bc (Zam (fun h=>d2 (Zab.1 h))) (bc (Zam (fun h=>d4 (Zab.1 h))) b0)) q0 c0 H
theorem vRSub (fa ga fb gb:Bool) (r s:Rat)  (dq:AV) (H :
  (N.okB s.num) /\
  (N.okR r/\N.okR (-s)) /\
  Weak (ratF (r + -s)) dq) :
 vRSub_at fa ga fb gb r s (Zaf dq):=by
 unfold vRSub_at
 obtain ⟨k1,k2,H⟩:=H
 exact Zai (G:=Zae kp133 [(1,2,.call (ratF (-s)) none),(1,3,.call (ratF (r + -s)) none)] []) 1000 [] (ratF (r + -s)) (by kernel_rfl) (bc rfl (bc rfl (bc rfl b0))) q0 (ce (@ev143 fb gb s k1) (ce (@ev134 fa ga false false r (-s) k2) c0)) H
end Go.Av

namespace Go.Av
open Go.Proofs
theorem ev76 (x y:Int):Ev M1 (.pure 76 [.int .i64 x,.int .i64 y]) (.int .i64 (N.sgnI (x-y))) []:=by
 refine call76 (vCmpInt _ _ _ ⟨fun h => ?_,fun h=>⟨fun k => ?_,fun k => ?_⟩⟩)
 ·unfold N.sgnI;rw [if_pos (by omega)]
 ·unfold N.sgnI;rw [if_neg (by omega),if_pos (by omega)]
 ·unfold N.sgnI;rw [if_neg (by omega),if_neg (by omega)]
theorem okR_neg {s:Rat} (h:N.okR s):N.okR (-s):=by
 unfold N.okR at *
 rw [Rat.neg_num,Rat.neg_den,Int.natAbs_neg];exact h
theorem ev133 (fa ga fb gb:Bool) (r s:Rat) (h:N.okR r/\N.okR s):Ev M1 (.pure 133 [ratA fa ga r,ratA fb gb s]) (ratF (r-s)) []:=by
 refine call133 (vRSub _ _ _ _ _ _ _ ⟨(Zdv h.2).1,⟨h.1,okR_neg h.2⟩,?_⟩)
 rw [<- Rat.sub_eq_add_neg];exact .refl _
theorem sgn_mul (a:Int) {d:Int} (h:0<d):(a<0->a*d<0)/\(a=0->a*d=0)/\(0<a->0<a*d):=
 ⟨fun k=>Int.mul_neg_of_neg_of_pos k h,fun k=>by rw [k,Int.zero_mul],fun k=>Int.mul_pos k h⟩
theorem ev62 (fa ga fb gb:Bool) (r s:Rat) (h:N.okR r/\N.okR s):Ev M1 (.pure 62 [ratA fa ga r,ratA fb gb s]) (.int .i64 (N.sgnI (r.num*(s.den:Int)-s.num*(r.den:Int)))) []:=by
 obtain ⟨hr,hs⟩:=h
 obtain ⟨r1,r2⟩:=Zdv hr
 obtain ⟨s1,s2⟩:=Zdv hs
 obtain ⟨cr1,cr2⟩:=hr
 obtain ⟨cs1,cs2⟩:=hs
 have m1:=ZaG cr1 (ZaM cs2)
 have m2:=ZaG cs1 (ZaM cr2)
 refine call62 (vRCmp _ _ _ _ _ _ _ ⟨_,ev76 _ _,fun k => ?_,fun _=>⟨⟨r1,s2⟩,⟨s1,r2⟩,⟨by unfold N.okB;omega,by unfold N.okB;omega⟩,rfl⟩⟩)
 obtain ⟨a1,a2,a3⟩:=sgn_mul r.num (d:=(s.den:Int)) (by have:=s.den_pos;omega)
 obtain ⟨b1,b2,b3⟩:=sgn_mul s.num (d:=(r.den:Int)) (by have:=r.den_pos;omega)
 congr 1
 generalize r.num*(s.den:Int)=A at a1 a2 a3 ⊢
 generalize s.num*(r.den:Int)=B at b1 b2 b3 ⊢
 unfold N.sgnI at k ⊢
 (repeat' split at k) <;> (repeat' split) <;> omega
end Go.Av

namespace Go.Av
open Go.Proofs
abbrev fracA (f g:Bool) (p q:Int):AV:=.agg [.bool (N.Zaa p),.vec f 1 ((N.Zac p).map (.int .u32)),.bool (N.Zaa q),.vec g 1 ((N.Zac q).map (.int .u32))]
end Go.Av

namespace Go.Av
open Go.Proofs
theorem gcd_cnt {a b:Int} (hb:b ≠ 0) (h:N.cnt b.natAbs<=399000):N.cnt ((a.gcd b:Nat):Int).natAbs<=399000/\((a.gcd b:Nat):Int) ≠ 0:=by
 have h1:0<a.gcd b:=Int.gcd_pos_of_ne_zero_right _ hb
 have h2:a.gcd b<=b.natAbs:=Nat.le_of_dvd (by omega) (Int.gcd_dvd_natAbs_right a b)
 have:=ZaK h2
 rw [Int.natAbs_natCast]
 omega
theorem ev71:Ev M1 (.pure 71 []) (.agg [.bool false,.vec false 1 ((N.Zac 1).map (.int .u32))]) []:=
 call71 (rUnit _ ⟨by unfold N.inI;omega,.refl _⟩)
theorem ev86 (fa fb:Bool) (a b:Int) (h:N.cnt a.natAbs<=399000/\N.cnt b.natAbs<=399000/\b ≠ 0):Ev M1 (.pure 86 [bigA fa a,bigA fb b]) (ratF (Rat.divInt a b)) []:=by
 obtain ⟨ha,hb,h0⟩:=h
 have hna:N.cnt (-a).natAbs<=399000:=by rwa [Int.natAbs_neg]
 have hnb:N.cnt (-b).natAbs<=399000:=by rwa [Int.natAbs_neg]
 refine call86 (rOf _ _ _ _ _ ⟨fun k => ?_,fun k => ?_⟩)
 ·rw [ZbI] at k
  obtain ⟨g1,g2⟩:=gcd_cnt (a:=-a) (b:=-b) (by omega) hnb
  obtain ⟨r1,r2⟩:=rat_neg (a:=a) k
  refine ⟨by unfold N.ok;omega,by unfold N.ok;omega,⟨hna,hnb⟩,⟨hna,g1,g2⟩,⟨hnb,g1,g2⟩,?_⟩
  show Weak _ (AV.agg [.bool (N.Zaa (Rat.divInt a b).num),.vec false 1 ((N.Zac (Rat.divInt a b).num).map (.int .u32)),.bool (N.Zaa ((Rat.divInt a b).den:Int)),.vec false 1 ((N.Zac ((Rat.divInt a b).den:Int)).map (.int .u32))])
  rw [r1,r2,ZdA g2,ZdA g2];exact .refl _
 ·rw [ZbI] at k
  obtain ⟨g1,g2⟩:=gcd_cnt (a:=a) (b:=b) h0 hb
  obtain ⟨r1,r2⟩:=rat_pos (a:=a) (show 0<b by omega)
  refine ⟨⟨ha,hb⟩,⟨ha,g1,g2⟩,⟨hb,g1,g2⟩,?_⟩
  show Weak _ (AV.agg [.bool (N.Zaa (Rat.divInt a b).num),.vec false 1 ((N.Zac (Rat.divInt a b).num).map (.int .u32)),.bool (N.Zaa ((Rat.divInt a b).den:Int)),.vec false 1 ((N.Zac ((Rat.divInt a b).den:Int)).map (.int .u32))])
  rw [r1,r2,ZdA g2,ZdA g2];exact .refl _
theorem ev104 (fa ga:Bool) (p q:Int):Ev M1 (.pure 104 [fracA fa ga p q]) (.int .i64 (N.sgnI p)) []:=
 call104 (rRSign _ _ _ _ _ rfl)
theorem ev144 (fa ga:Bool) (r:Rat) (h:N.ok r.num):Ev M1 (.pure 144 [ratA fa ga r]) (ratF (-r)) []:=by
 refine call144 (rRNeg _ _ _ _ _ ⟨h,?_⟩)
 show Weak _ (AV.agg [.bool (N.Zaa (-r).num),.vec false 1 ((N.Zac (-r).num).map (.int .u32)),.bool (N.Zaa ((-r).den:Int)),.vec false 1 ((N.Zac ((-r).den:Int)).map (.int .u32))])
 rw [Rat.neg_num,Rat.neg_den]
 exact Zea _ _ _ _ _ _
end Go.Av

namespace Go.Av
open Go.Proofs
set_option maxRecDepth 100000
def fi47:Fi:=⟨16,[.tmp 4]⟩
def kp47:List (Nat × List Nat):=[(0,[2,3]),(1,[4])]
def fi50:Fi:=⟨7,[.cell 2 87]⟩
def kp50:List (Nat × List Nat):=[(0,[0,2]),(1,[2])]
def fi69:Fi:=⟨16,[.cell 4 87]⟩
def kp69:List (Nat × List Nat):=[(0,[2,3,4]),(1,[4])]
def fi136:Fi:=⟨26,[.cell 4 87]⟩
def kp136:List (Nat × List Nat):=[(0,[2,3,4]),(1,[2,3,4,5]),(2,[2,3,4,5,6]),(3,[4])]
def fi137:Fi:=⟨13,[.cell 4 87,.tmp 5]⟩
def kp137:List (Nat × List Nat):=[(0,[2,3,4]),(1,[2,3,4,8]),(2,[4,5]),(3,[4,5])]
def rRFrom_at (n:Int) (Q:AV->Heap->Prop):Prop:=Wp M1 (.run fi50 (atC (cd Tryz.f50) []) [(0,.int .i64 n)] []) Q
def rRAdd_at (fa ga fb gb:Bool) (r s:Rat) (Q:AV->Heap->Prop):Prop:=Wp M1 (.run fi136 (atC (cd Tryz.f136) []) [(0,ratA fa ga r),(1,ratA fb gb s)] []) Q
def rRMul_at (fa ga fb gb:Bool) (r s:Rat) (Q:AV->Heap->Prop):Prop:=Wp M1 (.run fi69 (atC (cd Tryz.f69) []) [(0,ratA fa ga r),(1,ratA fb gb s)] []) Q
def rRCmp_at (fa ga fb gb:Bool) (r s:Rat) (Q:AV->Heap->Prop):Prop:=Wp M1 (.run fi47 (atC (cd Tryz.f47) []) [(0,ratA fa ga r),(1,ratA fb gb s)] []) Q
def rRMake_at (fa fb:Bool) (a b:Int) (Q:AV->Heap->Prop):Prop:=Wp M1 (.run fi137 (atC (cd Tryz.f137) []) [(0,bigA fa a),(1,bigA fb b)] []) Q
theorem call47 {args:List AV} {d:AV} (h:wc M1 fi47 Tryz.f47 args d):Ev M1 (.pure 47 args) d []:=pcl _ _ (by kernel_rfl) h
theorem call50 {args:List AV} {d:AV} (h:wc M1 fi50 Tryz.f50 args d):Ev M1 (.pure 50 args) d []:=pcl _ _ (by kernel_rfl) h
theorem call69 {args:List AV} {d:AV} (h:wc M1 fi69 Tryz.f69 args d):Ev M1 (.pure 69 args) d []:=pcl _ _ (by kernel_rfl) h
theorem call136 {args:List AV} {d:AV} (h:wc M1 fi136 Tryz.f136 args d):Ev M1 (.pure 136 args) d []:=pcl _ _ (by kernel_rfl) h
theorem call137 {args:List AV} {d:AV} (h:wc M1 fi137 Tryz.f137 args d):Ev M1 (.pure 137 args) d []:=pcl _ _ (by kernel_rfl) h
theorem rRFrom (n:Int)  (dq:AV) (H :
  (N.inI n) /\
  Weak (ag [vb (N.Zaa n),vf (us (N.Zac n)),vb false,vf (us (N.Zac 1))]) dq) :
 rRFrom_at n (Zaf dq):=by
 unfold rRFrom_at
 obtain ⟨k1,H⟩:=H
 exact Zai (G:=Zae kp50 [(1,1,.call (bigA false n) none),(1,2,.call (ag [vb false,vf (us (N.Zac 1))]) none)] []) 1000 [] (ag [vb (N.Zaa n),vf (us (N.Zac n)),vb false,vf (us (N.Zac 1))]) (by kernel_rfl) (bc rfl b0) q0 (ce (@ev70 n k1) (ce (@ev71 ) c0)) H
theorem rRAdd (fa ga fb gb:Bool) (r s:Rat)  (dq:AV) (H :
  (N.okB r.num/\N.okB (↑s.den:Int)) /\
  (N.okB s.num/\N.okB (↑r.den:Int)) /\
  (N.okB (r.num*(↑s.den:Int))/\N.okB (s.num*(↑r.den:Int))) /\
  (N.okB (↑r.den:Int)/\N.okB (↑s.den:Int)) /\
  (N.cnt (r.num*(↑s.den:Int)+s.num*(↑r.den:Int)).natAbs<=399000/\N.cnt ((↑r.den:Int)*(↑s.den:Int)).natAbs<=399000/\(↑r.den:Int)*(↑s.den:Int) ≠ 0) /\
  Weak (ratF (Rat.divInt (r.num*(↑s.den:Int)+s.num*(↑r.den:Int)) ((↑r.den:Int)*(↑s.den:Int)))) dq) :
 rRAdd_at fa ga fb gb r s (Zaf dq):=by
 unfold rRAdd_at
 obtain ⟨k1,k2,k3,k4,k5,H⟩:=H
 exact Zai (G:=Zae kp136 [(1,4,.call (bigA false (r.num*(↑s.den:Int))) none),(2,4,.call (bigA false (s.num*(↑r.den:Int))) none),(3,2,.call (bigA false (r.num*(↑s.den:Int)+s.num*(↑r.den:Int))) none),(3,7,.call (bigA false ((↑r.den:Int)*(↑s.den:Int))) none),(3,8,.call (ratF (Rat.divInt (r.num*(↑s.den:Int)+s.num*(↑r.den:Int)) ((↑r.den:Int)*(↑s.den:Int)))) none)] []) 1000 [] (ratF (Rat.divInt (r.num*(↑s.den:Int)+s.num*(↑r.den:Int)) ((↑r.den:Int)*(↑s.den:Int)))) (by kernel_rfl) (bc rfl (bc rfl (bc rfl (bc rfl (bc rfl (bc rfl (bc rfl (bc rfl (bc rfl (bc rfl (bc rfl b0))))))))))) q0 (ce (@ev65 fa gb (r.num) ((↑s.den:Int)) k1) (ce (@ev65 fb ga (s.num) ((↑r.den:Int)) k2) (ce (@ev127 false false (r.num*(↑s.den:Int)) (s.num*(↑r.den:Int)) k3) (ce (@ev65 ga gb ((↑r.den:Int)) ((↑s.den:Int)) k4) (ce (@ev86 false false (r.num*(↑s.den:Int)+s.num*(↑r.den:Int)) ((↑r.den:Int)*(↑s.den:Int)) k5) c0))))) H
theorem rRMul (fa ga fb gb:Bool) (r s:Rat)  (dq:AV) (H :
  (N.okB r.num/\N.okB s.num) /\
  (N.okB (↑r.den:Int)/\N.okB (↑s.den:Int)) /\
  (N.cnt (r.num*s.num).natAbs<=399000/\N.cnt ((↑r.den:Int)*(↑s.den:Int)).natAbs<=399000/\(↑r.den:Int)*(↑s.den:Int) ≠ 0) /\
  Weak (ratF (Rat.divInt (r.num*s.num) ((↑r.den:Int)*(↑s.den:Int)))) dq) :
 rRMul_at fa ga fb gb r s (Zaf dq):=by
 unfold rRMul_at
 obtain ⟨k1,k2,k3,H⟩:=H
 exact Zai (G:=Zae kp69 [(1,4,.call (bigA false (r.num*s.num)) none),(1,9,.call (bigA false ((↑r.den:Int)*(↑s.den:Int))) none),(1,10,.call (ratF (Rat.divInt (r.num*s.num) ((↑r.den:Int)*(↑s.den:Int)))) none)] []) 1000 [] (ratF (Rat.divInt (r.num*s.num) ((↑r.den:Int)*(↑s.den:Int)))) (by kernel_rfl) (bc rfl (bc rfl (bc rfl (bc rfl (bc rfl b0))))) q0 (ce (@ev65 fa fb (r.num) (s.num) k1) (ce (@ev65 ga gb ((↑r.den:Int)) ((↑s.den:Int)) k2) (ce (@ev86 false false (r.num*s.num) ((↑r.den:Int)*(↑s.den:Int)) k3) c0))) H
theorem rRCmp (fa ga fb gb:Bool) (r s:Rat)  (dq:AV) (H :
  (N.okB r.num/\N.okB (↑s.den:Int)) /\
  (N.okB s.num/\N.okB (↑r.den:Int)) /\
  (N.okB (r.num*(↑s.den:Int))/\N.okB (s.num*(↑r.den:Int))) /\
  vi (N.sgnI (r.num*(↑s.den:Int)-s.num*(↑r.den:Int)))=dq) :
 rRCmp_at fa ga fb gb r s (Zaf dq):=by
 unfold rRCmp_at
 obtain ⟨k1,k2,k3,H⟩:=H
 exact Zaq (G:=Zae kp47 [(1,4,.call (bigA false (r.num*(↑s.den:Int))) none),(1,9,.call (bigA false (s.num*(↑r.den:Int))) none),(1,10,.call (vi (N.sgnI (r.num*(↑s.den:Int)-s.num*(↑r.den:Int)))) none)] []) 1000 [] (vi (N.sgnI (r.num*(↑s.den:Int)-s.num*(↑r.den:Int)))) (by kernel_rfl) (bc rfl (bc rfl (bc rfl (bc rfl b0)))) q0 (ce (@ev65 fa gb (r.num) ((↑s.den:Int)) k1) (ce (@ev65 fb ga (s.num) ((↑r.den:Int)) k2) (ce (@ev64 false false (r.num*(↑s.den:Int)) (s.num*(↑r.den:Int)) k3) c0))) H
theorem rRMake (fa fb:Bool) (a b:Int)  (dq:AV) (H :
  ((N.sgnI b=0)->Weak (tu [ag [vb false,AV.vnil,vb false,AV.vnil],vi 6]) dq) /\
  (¬(N.sgnI b=0)->(N.cnt a.natAbs<=399000/\N.cnt b.natAbs<=399000/\b ≠ 0) /\
   Weak (tu [ratF (Rat.divInt a b),vi 0]) dq)) :
 rRMake_at fa fb a b (Zaf dq):=by
 unfold rRMake_at
 refine Zad (G:=Zae kp137 [(1,1,.call (vi (N.sgnI b)) none)] []) 5 [] ⟨(atC (cd Tryz.f137) [1,0,1]),[(2,AV.ptr 0 0 0 0),(3,AV.ptr 1 0 0 0),(4,AV.ptr 2 0 0 0),(8,vb (N.sgnI b==0))],[⟨[bigA fa a],2,0,false,false⟩,⟨[bigA fb b],2,0,false,false⟩,⟨[ag [vb false,AV.vnil,vb false,AV.vnil]],4,0,false,false⟩],_,[],_⟩ (by kernel_rfl) (bc rfl b0) q0 (ce (@ev110 fb b) c0) ?_
 rcases xq H with ⟨d2,H⟩|⟨d2,H⟩
 ·exact Zai (G:=Zae kp137 [] []) 1000 [true] (tu [ag [vb false,AV.vnil,vb false,AV.vnil],vi 6]) (by kernel_rfl) (bc (Zan (i_eq.2 d2)) (bc rfl b0)) q0 c0 H
 ·obtain ⟨k3,H⟩:=H
  exact Zai (G:=Zae kp137 [(3,2,.call (ratF (Rat.divInt a b)) none)] []) 1000 [false] (tu [ratF (Rat.divInt a b),vi 0]) (by kernel_rfl) (bc (Zam (fun h=>d2 (i_eq.1 h))) (bc rfl (bc rfl (bc rfl b0)))) q0 (ce (@ev86 fa fb a b k3) c0) H
end Go.Av

namespace Go.Av
open Go.Proofs
set_option maxRecDepth 100000
end Go.Av

namespace Go.Av
open Go.Proofs
def N.okA (a b:List Int):Prop:=(a.length<=90000 /\ ∀ x ∈ a,0<=x)/\(b.length<=90000 /\ ∀ x ∈ b,0<=x)
end Go.Av

namespace Go.Av
open Go.Proofs
theorem ev50 (n:Int) (h:N.inI n):Ev M1 (.pure 50 [.int .i64 n]) (ratF (N.qi n)) []:=by
 rw [qi_eq]
 refine call50 (rRFrom _ _ ⟨h,?_⟩)
 show Weak _ (AV.agg [.bool (N.Zaa (n:Rat).num),.vec false 1 ((N.Zac (n:Rat).num).map (.int .u32)),.bool (N.Zaa ((n:Rat).den:Int)),.vec false 1 ((N.Zac ((n:Rat).den:Int)).map (.int .u32))])
 rw [Rat.num_intCast,Rat.den_intCast]
 exact .refl _
theorem ev136 (fa ga fb gb:Bool) (r s:Rat) (h:N.okR r/\N.okR s):Ev M1 (.pure 136 [ratA fa ga r,ratA fb gb s]) (ratF (r+s)) []:=by
 obtain ⟨hr,hs⟩:=h
 obtain ⟨r1,r2⟩:=Zdv hr
 obtain ⟨s1,s2⟩:=Zdv hs
 obtain ⟨cr1,cr2⟩:=hr
 obtain ⟨cs1,cs2⟩:=hs
 have m1:=ZaG cr1 (ZaM cs2)
 have m2:=ZaG cs1 (ZaM cr2)
 have m3:=ZaG (ZaM cr2) (ZaM cs2)
 have a1:=Zfy m1 m2
 refine call136 (rRAdd _ _ _ _ _ _ _ ⟨⟨r1,s2⟩,⟨s1,r2⟩,⟨by unfold N.okB;omega,by unfold N.okB;omega⟩,⟨r2,s2⟩,⟨by omega,by omega,Int.mul_ne_zero (ZbN r) (ZbN s)⟩,?_⟩)
 rw [rat_add];exact .refl _
theorem ev69 (fa ga fb gb:Bool) (r s:Rat) (h:N.okR r/\N.okR s):Ev M1 (.pure 69 [ratA fa ga r,ratA fb gb s]) (ratF (r*s)) []:=by
 obtain ⟨hr,hs⟩:=h
 obtain ⟨r1,r2⟩:=Zdv hr
 obtain ⟨s1,s2⟩:=Zdv hs
 obtain ⟨cr1,cr2⟩:=hr
 obtain ⟨cs1,cs2⟩:=hs
 have m1:=ZaG cr1 cs1
 have m3:=ZaG (ZaM cr2) (ZaM cs2)
 refine call69 (rRMul _ _ _ _ _ _ _ ⟨⟨r1,s1⟩,⟨r2,s2⟩,⟨by omega,by omega,Int.mul_ne_zero (ZbN r) (ZbN s)⟩,?_⟩)
 rw [rat_mul];exact .refl _
theorem ev47 (fa ga fb gb:Bool) (r s:Rat) (h:N.okR r/\N.okR s):Ev M1 (.pure 47 [ratA fa ga r,ratA fb gb s]) (.int .i64 (N.sgnI (r.num*(s.den:Int)-s.num*(r.den:Int)))) []:=by
 obtain ⟨hr,hs⟩:=h
 obtain ⟨r1,r2⟩:=Zdv hr
 obtain ⟨s1,s2⟩:=Zdv hs
 obtain ⟨cr1,cr2⟩:=hr
 obtain ⟨cs1,cs2⟩:=hs
 have m1:=ZaG cr1 (ZaM cs2)
 have m2:=ZaG cs1 (ZaM cr2)
 exact call47 (rRCmp _ _ _ _ _ _ _ ⟨⟨r1,s2⟩,⟨s1,r2⟩,⟨by unfold N.okB;omega,by unfold N.okB;omega⟩,rfl⟩)
theorem ev137 (fa fb:Bool) (a b:Int) (h:N.cnt a.natAbs<=399000/\N.cnt b.natAbs<=399000/\b ≠ 0):Ev M1 (.pure 137 [bigA fa a,bigA fb b]) (.tup [ratF (Rat.divInt a b),.int .i64 0]) []:=
 call137 (rRMake _ _ _ _ _ ⟨fun k=>absurd (Zdm.1 k) h.2.2,fun _=>⟨h,.refl _⟩⟩)
theorem inI_cnt {n:Int} (h:N.inI n):N.cnt n.natAbs<=3:=by
 unfold N.inI at h
 exact cnt_u64 (by omega)
end Go.Av

namespace Go.Av
open Go.Proofs
set_option maxRecDepth 100000
def fi123:Fi:=⟨19,[.cell 4 87,.tmp 5]⟩
def kp123:List (Nat × List Nat):=[(0,[2,3,4]),(1,[4,5])]
def fi135:Fi:=⟨9,[.cell 4 87]⟩
def kp135:List (Nat × List Nat):=[(0,[2,3,4]),(1,[4])]
def rRSub_at (fa ga fb gb:Bool) (r s:Rat) (Q:AV->Heap->Prop):Prop:=Wp M1 (.run fi135 (atC (cd Tryz.f135) []) [(0,ratA fa ga r),(1,ratA fb gb s)] []) Q
def rRDiv_at (fa ga fb gb:Bool) (r s:Rat) (Q:AV->Heap->Prop):Prop:=Wp M1 (.run fi123 (atC (cd Tryz.f123) []) [(0,ratA fa ga r),(1,ratA fb gb s)] []) Q
theorem call123 {args:List AV} {d:AV} (h:wc M1 fi123 Tryz.f123 args d):Ev M1 (.pure 123 args) d []:=pcl _ _ (by kernel_rfl) h
theorem call135 {args:List AV} {d:AV} (h:wc M1 fi135 Tryz.f135 args d):Ev M1 (.pure 135 args) d []:=pcl _ _ (by kernel_rfl) h
theorem rRSub (fa ga fb gb:Bool) (r s:Rat)  (dq:AV) (H :
  (N.ok s.num) /\
  (N.okR r/\N.okR (-s)) /\
  Weak (ratF (r + -s)) dq) :
 rRSub_at fa ga fb gb r s (Zaf dq):=by
 unfold rRSub_at
 obtain ⟨k1,k2,H⟩:=H
 exact Zai (G:=Zae kp135 [(1,2,.call (ratF (-s)) none),(1,3,.call (ratF (r + -s)) none)] []) 1000 [] (ratF (r + -s)) (by kernel_rfl) (bc rfl (bc rfl (bc rfl b0))) q0 (ce (@ev144 fb gb s k1) (ce (@ev136 fa ga false false r (-s) k2) c0)) H
theorem rRDiv (fa ga fb gb:Bool) (r s:Rat)  (dq:AV) (H :
  (N.okB r.num/\N.okB (↑s.den:Int)) /\
  (N.okB (↑r.den:Int)/\N.okB s.num) /\
  (N.cnt (r.num*(↑s.den:Int)).natAbs<=399000/\N.cnt ((↑r.den:Int)*s.num).natAbs<=399000/\(↑r.den:Int)*s.num ≠ 0) /\
  Weak (tu [ratF (Rat.divInt (r.num*(↑s.den:Int)) ((↑r.den:Int)*s.num)),vi 0]) dq) :
 rRDiv_at fa ga fb gb r s (Zaf dq):=by
 unfold rRDiv_at
 obtain ⟨k1,k2,k3,H⟩:=H
 exact Zai (G:=Zae kp123 [(1,4,.call (bigA false (r.num*(↑s.den:Int))) none),(1,9,.call (bigA false ((↑r.den:Int)*s.num)) none),(1,10,.call (tu [ratF (Rat.divInt (r.num*(↑s.den:Int)) ((↑r.den:Int)*s.num)),vi 0]) none)] []) 1000 [] (tu [ratF (Rat.divInt (r.num*(↑s.den:Int)) ((↑r.den:Int)*s.num)),vi 0]) (by kernel_rfl) (bc rfl (bc rfl (bc rfl (bc rfl (bc rfl b0))))) q0 (ce (@ev65 fa gb (r.num) ((↑s.den:Int)) k1) (ce (@ev65 ga fb ((↑r.den:Int)) (s.num) k2) (ce (@ev137 false false (r.num*(↑s.den:Int)) ((↑r.den:Int)*s.num) k3) c0))) H
end Go.Av

namespace Go.Av
open Go.Proofs
theorem ev135 (fa ga fb gb:Bool) (r s:Rat) (h:N.okR r/\N.okR s):Ev M1 (.pure 135 [ratA fa ga r,ratA fb gb s]) (ratF (r-s)) []:=by
 refine call135 (rRSub _ _ _ _ _ _ _ ⟨?_,⟨h.1,okR_neg h.2⟩,?_⟩)
 ·have:=h.2.1;unfold N.ok;omega
 ·rw [<- Rat.sub_eq_add_neg];exact .refl _
theorem ev123 (fa ga fb gb:Bool) (r s:Rat) (h:N.okR r/\N.okR s/\s.num ≠ 0):Ev M1 (.pure 123 [ratA fa ga r,ratA fb gb s]) (.tup [ratF (r / s),.int .i64 0]) []:=by
 obtain ⟨hr,hs,h0⟩:=h
 obtain ⟨r1,r2⟩:=Zdv hr
 obtain ⟨s1,s2⟩:=Zdv hs
 obtain ⟨cr1,cr2⟩:=hr
 obtain ⟨cs1,cs2⟩:=hs
 have m1:=ZaG cr1 (ZaM cs2)
 have m3:=ZaG (ZaM cr2) cs1
 refine call123 (rRDiv _ _ _ _ _ _ _ ⟨⟨r1,s2⟩,⟨r2,s1⟩,⟨by omega,by omega,Int.mul_ne_zero (ZbN r) h0⟩,?_⟩)
 rw [rat_div];exact .refl _
end Go.Av

namespace Go.Av
open Go.Proofs
set_option maxRecDepth 100000
end Go.Av

namespace Go.Av
open Go.Proofs
def N.okT (k:Nat) (r:Rat):Prop:=N.cnt r.num.natAbs<=k/\N.cnt r.den<=k
theorem ZaX {k:Nat} {r:Rat} (h:N.okT k r) (hk:k<=90000):N.okR r:=⟨Nat.le_trans h.1 hk,Nat.le_trans h.2 hk⟩
theorem Zcc {k m:Nat} {r:Rat} (h:N.okT k r) (hk:k<=m):N.okT m r:=⟨Nat.le_trans h.1 hk,Nat.le_trans h.2 hk⟩
theorem Zgo {p q:Int} (hq:q ≠ 0):(Rat.divInt p q).num.natAbs<=p.natAbs/\(Rat.divInt p q).den<=q.natAbs:=by
 by_cases h:0<q
 ·obtain ⟨e1,e2⟩:=rat_pos (a:=p) h
  have e3:(Rat.divInt p q).den=((q / ((p.gcd q:Nat):Int))).natAbs:=by omega
  rw [e1,e3]
  refine ⟨?_,?_⟩
  ·rw [Int.natAbs_ediv_of_dvd (Int.gcd_dvd_left ..)];exact Nat.div_le_self _ _
  ·rw [Int.natAbs_ediv_of_dvd (Int.gcd_dvd_right ..)];exact Nat.div_le_self _ _
 ·obtain ⟨e1,e2⟩:=rat_neg (a:=p) (b:=q) (by omega)
  have e3:(Rat.divInt p q).den=((-q / (((-p).gcd (-q):Nat):Int))).natAbs:=by omega
  rw [e1,e3]
  refine ⟨?_,?_⟩
  ·rw [Int.natAbs_ediv_of_dvd (Int.gcd_dvd_left ..),Int.natAbs_neg];exact Nat.div_le_self _ _
  ·rw [Int.natAbs_ediv_of_dvd (Int.gcd_dvd_right ..),Int.natAbs_neg];exact Nat.div_le_self _ _
theorem Zbs {k m:Nat} {r s:Rat} (h:N.okT k r) (h2:N.okT m s):N.okT (k+m) (r*s):=by
 have e:=Zgo (p:=r.num*s.num) (q:=(r.den:Int)*(s.den:Int)) (Int.mul_ne_zero (ZbN r) (ZbN s))
 rw [rat_mul] at e
 refine ⟨Nat.le_trans (ZaK e.1) (ZaG h.1 h2.1),Nat.le_trans (ZaK e.2) (ZaG (ZaM h.2) (ZaM h2.2))⟩
theorem okT_add {k m:Nat} {r s:Rat} (h:N.okT k r) (h2:N.okT m s):N.okT (k+m+1) (r+s):=by
 have e:=Zgo (p:=r.num*(s.den:Int)+s.num*(r.den:Int)) (q:=(r.den:Int)*(s.den:Int)) (Int.mul_ne_zero (ZbN r) (ZbN s))
 rw [rat_add] at e
 have m1:=ZaG h.1 (ZaM h2.2)
 have m2:=ZaG h2.1 (ZaM h.2)
 have m3:=ZaG (ZaM h.2) (ZaM h2.2)
 have:=Zfy m1 (Nat.le_trans m2 (by omega))
 exact ⟨Nat.le_trans (ZaK e.1) this,Nat.le_trans (ZaK e.2) (Nat.le_trans m3 (by omega))⟩
theorem okT_neg {k:Nat} {r:Rat} (h:N.okT k r):N.okT k (-r):=by
 unfold N.okT
 rw [Rat.neg_num,Rat.neg_den,Int.natAbs_neg];exact h
theorem ZbU {k m:Nat} {r s:Rat} (h:N.okT k r) (h2:N.okT m s):N.okT (k+m+1) (r-s):=by
 rw [Rat.sub_eq_add_neg];exact okT_add h (okT_neg h2)
theorem okT_int {n:Int} (h:N.inI n):N.okT 3 (N.qi n):=by
 rw [qi_eq]
 unfold N.okT
 rw [Rat.num_intCast,Rat.den_intCast]
 exact ⟨inI_cnt h,by have:=cnt_small (n:=1) (by decide);omega⟩
def N.isCom (b c y z:Rat):Prop:=b=0\/y=0\/c=z
instance (b c y z:Rat):Decidable (N.isCom b c y z):=inferInstanceAs (Decidable (_\/_))
end Go.Av

namespace Go.Av
open Go.Proofs
set_option maxRecDepth 100000
def fi44:Fi:=⟨38,[.tmp 8]⟩
def kp44:List (Nat × List Nat):=[(0,[0,1,2,3]),(1,[0,1,2,3,9]),(2,[8])]
def fi45:Fi:=⟨12,[.tmp 4]⟩
def kp45:List (Nat × List Nat):=[(0,[0,1]),(1,[4])]
def fi58:Fi:=⟨31,[.tmp 4]⟩
def kp58:List (Nat × List Nat):=[(0,[2,3]),(1,[4])]
def fi61:Fi:=⟨10,[.cell 4 102]⟩
def kp61:List (Nat × List Nat):=[(0,[0,1,4]),(1,[4])]
def fi101:Fi:=⟨17,[.cell 4 87]⟩
def kp101:List (Nat × List Nat):=[(0,[2,3,4]),(1,[4,5,6]),(2,[4,5,14]),(3,[4]),(4,[4])]
def fi102:Fi:=⟨8,[.cell 4 87]⟩
def kp102:List (Nat × List Nat):=[(0,[2,3,4]),(1,[4])]
def fi118:Fi:=⟨8,[.cell 4 87]⟩
def kp118:List (Nat × List Nat):=[(0,[2,3,4]),(1,[4])]
def fi119:Fi:=⟨8,[.cell 4 87]⟩
def kp119:List (Nat × List Nat):=[(0,[2,3,4]),(1,[4])]
def qAdd_at (f1 f2 g1 g2:Bool) (r s:Rat) (Q:AV->Heap->Prop):Prop:=Wp M1 (.run fi119 (atC (cd Tryz.f119) []) [(0,ratA f1 f2 r),(1,ratA g1 g2 s)] []) Q
def qSub_at (f1 f2 g1 g2:Bool) (r s:Rat) (Q:AV->Heap->Prop):Prop:=Wp M1 (.run fi118 (atC (cd Tryz.f118) []) [(0,ratA f1 f2 r),(1,ratA g1 g2 s)] []) Q
def qMul_at (f1 f2 g1 g2:Bool) (r s:Rat) (Q:AV->Heap->Prop):Prop:=Wp M1 (.run fi102 (atC (cd Tryz.f102) []) [(0,ratA f1 f2 r),(1,ratA g1 g2 s)] []) Q
def qOver_at (f1 f2 g1 g2:Bool) (r s:Rat) (Q:AV->Heap->Prop):Prop:=Wp M1 (.run fi101 (atC (cd Tryz.f101) []) [(0,ratA f1 f2 r),(1,ratA g1 g2 s)] []) Q
def qVec_at (x y:Int) (Q:AV->Heap->Prop):Prop:=Wp M1 (.run fi61 (atC (cd Tryz.f61) []) [(0,.int .i64 x),(1,.int .i64 y)] []) Q
def qHolds_at (x0 y0 x1 y1 tp x y:Int) (Q:AV->Heap->Prop):Prop:=Wp M1 (.run fi58 (atC (cd Tryz.f58) []) [(0,.agg [.int .i64 x0,.int .i64 y0,.int .i64 x1,.int .i64 y1,.int .i64 tp]),(1,.agg [.int .i64 x,.int .i64 y])] []) Q
def qRectR_at (x0 y0 x1 y1:Int) (Q:AV->Heap->Prop):Prop:=Wp M1 (.run fi44 (atC (cd Tryz.f44) []) [(0,.int .i64 x0),(1,.int .i64 y0),(2,.int .i64 x1),(3,.int .i64 y1)] []) Q
def qLenth_at (n l:Int) (Q:AV->Heap->Prop):Prop:=Wp M1 (.run fi45 (atC (cd Tryz.f45) []) [(0,.int .i64 n),(1,.int .i64 l)] []) Q
theorem call44 {args:List AV} {d:AV} (h:wc M1 fi44 Tryz.f44 args d):Ev M1 (.pure 44 args) d []:=pcl _ _ (by kernel_rfl) h
theorem call45 {args:List AV} {d:AV} (h:wc M1 fi45 Tryz.f45 args d):Ev M1 (.pure 45 args) d []:=pcl _ _ (by kernel_rfl) h
theorem call58 {args:List AV} {d:AV} (h:wc M1 fi58 Tryz.f58 args d):Ev M1 (.pure 58 args) d []:=pcl _ _ (by kernel_rfl) h
theorem call61 {args:List AV} {d:AV} (h:wc M1 fi61 Tryz.f61 args d):Ev M1 (.pure 61 args) d []:=pcl _ _ (by kernel_rfl) h
theorem call101 {args:List AV} {d:AV} (h:wc M1 fi101 Tryz.f101 args d):Ev M1 (.pure 101 args) d []:=pcl _ _ (by kernel_rfl) h
theorem call102 {args:List AV} {d:AV} (h:wc M1 fi102 Tryz.f102 args d):Ev M1 (.pure 102 args) d []:=pcl _ _ (by kernel_rfl) h
theorem call118 {args:List AV} {d:AV} (h:wc M1 fi118 Tryz.f118 args d):Ev M1 (.pure 118 args) d []:=pcl _ _ (by kernel_rfl) h
theorem call119 {args:List AV} {d:AV} (h:wc M1 fi119 Tryz.f119 args d):Ev M1 (.pure 119 args) d []:=pcl _ _ (by kernel_rfl) h
theorem qAdd (f1 f2 g1 g2:Bool) (r s:Rat)  (dq:AV) (H :
  (N.okR r/\N.okR s) /\
  Weak (ratF (r+s)) dq) :
 qAdd_at f1 f2 g1 g2 r s (Zaf dq):=by
 unfold qAdd_at
 obtain ⟨k1,H⟩:=H
 exact Zai (G:=Zae kp119 [(1,2,.call (ratF (r+s)) none)] []) 1000 [] (ratF (r+s)) (by kernel_rfl) (bc rfl (bc rfl (bc rfl b0))) q0 (ce (@ev134 f1 f2 g1 g2 r s k1) c0) H
theorem qSub (f1 f2 g1 g2:Bool) (r s:Rat)  (dq:AV) (H :
  (N.okR r/\N.okR s) /\
  Weak (ratF (r-s)) dq) :
 qSub_at f1 f2 g1 g2 r s (Zaf dq):=by
 unfold qSub_at
 obtain ⟨k1,H⟩:=H
 exact Zai (G:=Zae kp118 [(1,2,.call (ratF (r-s)) none)] []) 1000 [] (ratF (r-s)) (by kernel_rfl) (bc rfl (bc rfl (bc rfl b0))) q0 (ce (@ev133 f1 f2 g1 g2 r s k1) c0) H
theorem qMul (f1 f2 g1 g2:Bool) (r s:Rat)  (dq:AV) (H :
  (N.okR r/\N.okR s) /\
  Weak (ratF (r*s)) dq) :
 qMul_at f1 f2 g1 g2 r s (Zaf dq):=by
 unfold qMul_at
 obtain ⟨k1,H⟩:=H
 exact Zai (G:=Zae kp102 [(1,2,.call (ratF (r*s)) none)] []) 1000 [] (ratF (r*s)) (by kernel_rfl) (bc rfl (bc rfl (bc rfl b0))) q0 (ce (@ev60 f1 f2 g1 g2 r s k1) c0) H
theorem qOver (f1 f2 g1 g2:Bool) (r s:Rat)  (dq:AV) (H :
  (N.okR r/\N.okR s/\s.num ≠ 0) /\
  Weak (ratF (r / s)) dq) :
 qOver_at f1 f2 g1 g2 r s (Zaf dq):=by
 unfold qOver_at
 obtain ⟨k1,H⟩:=H
 exact Zai (G:=Zae kp101 [(1,2,.call (tu [ratF (r / s),vi 0]) none)] []) 1000 [false] (ratF (r / s)) (by kernel_rfl) (bc rfl (bc rfl (bc rfl (bc rfl (bc rfl (bc rfl b0)))))) q0 (ce (@ev120 f1 f2 g1 g2 r s k1) c0) H
theorem qVec (x y:Int)  (dq:AV) (H :
  (N.inI x) /\
  (N.inI y) /\
  Weak (ag [vb (N.Zaa (N.qi x).num),vf (us (N.Zac (N.qi x).num)),vb (N.Zaa (↑(N.qi x).den:Int)),vf (us (N.Zac (↑(N.qi x).den:Int))),vb (N.Zaa (N.qi y).num),vf (us (N.Zac (N.qi y).num)),vb (N.Zaa (↑(N.qi y).den:Int)),vf (us (N.Zac (↑(N.qi y).den:Int)))]) dq) :
 qVec_at x y (Zaf dq):=by
 unfold qVec_at
 obtain ⟨k1,k2,H⟩:=H
 exact Zai (G:=Zae kp61 [(1,1,.call (ratF (N.qi x)) none),(1,3,.call (ratF (N.qi y)) none)] []) 1000 [] (ag [vb (N.Zaa (N.qi x).num),vf (us (N.Zac (N.qi x).num)),vb (N.Zaa (↑(N.qi x).den:Int)),vf (us (N.Zac (↑(N.qi x).den:Int))),vb (N.Zaa (N.qi y).num),vf (us (N.Zac (N.qi y).num)),vb (N.Zaa (↑(N.qi y).den:Int)),vf (us (N.Zac (↑(N.qi y).den:Int)))]) (by kernel_rfl) (bc rfl b0) q0 (ce (@ev59 x k1) (ce (@ev59 y k2) c0)) H
theorem qHolds (x0 y0 x1 y1 tp x y:Int)  (dq:AV) (H :
  vb (bif bif bif decide (x0<=x) then decide (x<=x1) else false then decide (y0<=y) else false then decide (y<=y1) else false)=dq) :
 qHolds_at x0 y0 x1 y1 tp x y (Zaf dq):=by
 unfold qHolds_at
 exact Zaq (G:=Zae kp58 [] []) 1000 [] (asm:=[true,true,!(decide (x0<=x)==true&&true)||true,!(decide (x0<=x)==true&&true)||true,!((bif decide (x0<=x) then decide (x<=x1) else false)==true&&true)||true,!((bif decide (x0<=x) then decide (x<=x1) else false)==true&&true)||true,!((bif bif decide (x0<=x) then decide (x<=x1) else false then decide (y0<=y) else false)==true&&true)||true,!((bif bif decide (x0<=x) then decide (x<=x1) else false then decide (y0<=y) else false)==true&&true)||true]) (vb (bif bif bif decide (x0<=x) then decide (x<=x1) else false then decide (y0<=y) else false then decide (y<=y1) else false)) (by kernel_rfl) (bc rfl (bc rfl (bc (Bool.or_true _) (bc (Bool.or_true _) (bc (Bool.or_true _) (bc (Bool.or_true _) (bc (Bool.or_true _) (bc (Bool.or_true _) b0)))))))) q0 c0 H
theorem qRectR (x0 y0 x1 y1:Int)  (dq:AV) (H :
  ∃ (b1:Bool),
  (Ev M1 (Conf.pure 45 [vi x0,vi (-10000000)]) (vb b1) []) /\
  ∃ (b2:Bool),
  ((b1=true)->(Ev M1 (Conf.pure 45 [vi y0,vi (-10000000)]) (vb b2) [])) /\
  ∃ (b3:Bool),
  (((b1=true)/\(b2=true))->(Ev M1 (Conf.pure 45 [vi x1,vi (-10000000)]) (vb b3) [])) /\
  ∃ (b4:Bool),
  ((((b1=true)/\(b2=true))/\(b3=true))->(Ev M1 (Conf.pure 45 [vi y1,vi (-10000000)]) (vb b4) [])) /\
  vb (bif bif bif bif bif b1 then b2 else false then b3 else false then b4 else false then decide (x0<x1) else false then decide (y0<y1) else false)=dq) :
 qRectR_at x0 y0 x1 y1 (Zaf dq):=by
 unfold qRectR_at
 obtain ⟨b1,k1,b2,k3,b3,k5,b4,k7,H⟩:=H
 exact Zaq (G:=Zae kp44 [(2,2,.call (vb b1) none),(2,6,.call (vb b2) none),(2,11,.call (vb b3) none),(2,16,.call (vb b4) none)] []) 1000 [] (calls:=[⟨true,false,45,[vi x0,vi (-10000000)],[],vb b1,[]⟩,⟨b1==true&&true&&true,false,45,[vi y0,vi (-10000000)],[],vb b2,[]⟩,⟨(bif b1 then b2 else false)==true&&true&&true,false,45,[vi x1,vi (-10000000)],[],vb b3,[]⟩,⟨(bif bif b1 then b2 else false then b3 else false)==true&&true&&true,false,45,[vi y1,vi (-10000000)],[],vb b4,[]⟩]) (vb (bif bif bif bif bif b1 then b2 else false then b3 else false then b4 else false then decide (x0<x1) else false then decide (y0<y1) else false)) (by kernel_rfl) b0 q0 (cc (fun _=>k1) (cc (fun hc=>((k3 ((i_at (i_at (i_bt (Zbq _)))).1 hc)):Ev M1 (Conf.pure 45 [vi y0,vi (-10000000)]) (vb b2) [])) (cc (fun hc=>((k5 ((i_at (i_at (i_bt (Zbt (Zbq _) (Zbq _))))).1 hc)):Ev M1 (Conf.pure 45 [vi x1,vi (-10000000)]) (vb b3) [])) (cc (fun hc=>((k7 ((i_at (i_at (i_bt (Zbt (Zbt (Zbq _) (Zbq _)) (Zbq _))))).1 hc)):Ev M1 (Conf.pure 45 [vi y1,vi (-10000000)]) (vb b4) [])) c0)))) H
theorem qLenth (n l:Int)  (dq:AV) (H :
  vb (bif decide (n>=l) then decide (n<=10000000) else false)=dq) :
 qLenth_at n l (Zaf dq):=by
 unfold qLenth_at
 exact Zaq (G:=Zae kp45 [] []) 1000 [] (vb (bif decide (n>=l) then decide (n<=10000000) else false)) (by kernel_rfl) b0 q0 c0 H
end Go.Av

namespace Go.Av
open Go.Proofs
theorem ev119 (f1 f2 g1 g2:Bool) (r s:Rat) (h:N.okR r/\N.okR s):Ev M1 (.pure 119 [ratA f1 f2 r,ratA g1 g2 s]) (ratF (r+s)) []:=call119 (qAdd _ _ _ _ _ _ _ ⟨h,.refl _⟩)
theorem ev118 (f1 f2 g1 g2:Bool) (r s:Rat) (h:N.okR r/\N.okR s):Ev M1 (.pure 118 [ratA f1 f2 r,ratA g1 g2 s]) (ratF (r-s)) []:=call118 (qSub _ _ _ _ _ _ _ ⟨h,.refl _⟩)
theorem ev102 (f1 f2 g1 g2:Bool) (r s:Rat) (h:N.okR r/\N.okR s):Ev M1 (.pure 102 [ratA f1 f2 r,ratA g1 g2 s]) (ratF (r*s)) []:=call102 (qMul _ _ _ _ _ _ _ ⟨h,.refl _⟩)
theorem ev101 (f1 f2 g1 g2:Bool) (r s:Rat) (h:N.okR r/\N.okR s/\s.num ≠ 0):Ev M1 (.pure 101 [ratA f1 f2 r,ratA g1 g2 s]) (ratF (r / s)) []:=call101 (qOver _ _ _ _ _ _ _ ⟨h,.refl _⟩)
abbrev vecA (f1 f2 f3 f4:Bool) (x y:Rat):AV:=.agg [.bool (N.Zaa x.num),.vec f1 1 ((N.Zac x.num).map (.int .u32)),.bool (N.Zaa (x.den:Int)),.vec f2 1 ((N.Zac (x.den:Int)).map (.int .u32)),.bool (N.Zaa y.num),.vec f3 1 ((N.Zac y.num).map (.int .u32)),.bool (N.Zaa (y.den:Int)),.vec f4 1 ((N.Zac (y.den:Int)).map (.int .u32))]
def N.Zga (x y:Int):Prop:=N.inI x/\N.inI y
theorem ev61 (x y:Int) (h:N.Zga x y):Ev M1 (.pure 61 [.int .i64 x,.int .i64 y]) (vecA false false false false (N.qi x) (N.qi y)) []:=call61 (qVec _ _ _ ⟨h.1,h.2,.refl _⟩)
namespace N
def hld (x0 y0 x1 y1 x y:Int):Prop:=x0<=x/\x<=x1/\y0<=y/\y<=y1
def rct (x0 y0 x1 y1:Int):Prop:=x0<x1/\y0<y1/\x0 >= -10000000/\y0 >= -10000000/\x1<=10000000/\y1<=10000000
def wth (n l:Int):Prop:=n>=l/\n<=10000000
end N
instance (x0 y0 x1 y1 x y:Int):Decidable (N.hld x0 y0 x1 y1 x y):=by unfold N.hld;infer_instance
instance (x0 y0 x1 y1:Int):Decidable (N.rct x0 y0 x1 y1):=by unfold N.rct;infer_instance
instance (n l:Int):Decidable (N.wth n l):=by unfold N.wth;infer_instance
theorem ev58 (x0 y0 x1 y1 tp x y:Int):Ev M1 (.pure 58 [.agg [.int .i64 x0,.int .i64 y0,.int .i64 x1,.int .i64 y1,.int .i64 tp],.agg [.int .i64 x,.int .i64 y]]) (.bool (decide (N.hld x0 y0 x1 y1 x y))) []:=
 call58 (qHolds _ _ _ _ _ _ _ _ (congrArg AV.bool (by rw [Zbh,Zbh,Zbh];exact Zc9 (by unfold N.hld;omega))))
theorem ev45 (n l:Int):Ev M1 (.pure 45 [.int .i64 n,.int .i64 l]) (.bool (decide (N.wth n l))) []:=
 call45 (qLenth _ _ _ (congrArg AV.bool (by rw [Zbh];exact Zc9 Iff.rfl)))
theorem ev44 (x0 y0 x1 y1:Int):Ev M1 (.pure 44 [.int .i64 x0,.int .i64 y0,.int .i64 x1,.int .i64 y1]) (.bool (decide (N.rct x0 y0 x1 y1))) []:=by
 refine call44 (qRectR _ _ _ _ _ ⟨_,ev45 x0 (-10000000),_,fun _=>ev45 y0 (-10000000),_,fun _=>ev45 x1 (-10000000),_,fun _=>ev45 y1 (-10000000),congrArg AV.bool ?_⟩)
 rw [Zbh,Zbh,Zbh,Zbh,Zbh]
 exact Zc9 (by unfold N.rct N.wth;omega)
end Go.Av

namespace Go.Av
open Go.Proofs
set_option maxRecDepth 100000
def fi98:Fi:=⟨16,[.cell 4 102]⟩
def kp98:List (Nat × List Nat):=[(0,[2,3,4]),(1,[4])]
def fi99:Fi:=⟨16,[.cell 4 87]⟩
def kp99:List (Nat × List Nat):=[(0,[2,3,4]),(1,[4])]
def fi100:Fi:=⟨16,[.cell 4 87]⟩
def kp100:List (Nat × List Nat):=[(0,[2,3,4]),(1,[4])]
def qWay_at (f1 f2 f3 f4 f5 f6 f7 f8:Bool) (x1 y1 x2 y2:Rat) (Q:AV->Heap->Prop):Prop:=Wp M1 (.run fi98 (atC (cd Tryz.f98) []) [(0,.agg [.bool (N.Zaa x1.num),.vec f1 1 ((N.Zac x1.num).map (.int .u32)),.bool (N.Zaa (x1.den:Int)),.vec f2 1 ((N.Zac (x1.den:Int)).map (.int .u32)),.bool (N.Zaa y1.num),.vec f3 1 ((N.Zac y1.num).map (.int .u32)),.bool (N.Zaa (y1.den:Int)),.vec f4 1 ((N.Zac (y1.den:Int)).map (.int .u32))]),(1,.agg [.bool (N.Zaa x2.num),.vec f5 1 ((N.Zac x2.num).map (.int .u32)),.bool (N.Zaa (x2.den:Int)),.vec f6 1 ((N.Zac (x2.den:Int)).map (.int .u32)),.bool (N.Zaa y2.num),.vec f7 1 ((N.Zac y2.num).map (.int .u32)),.bool (N.Zaa (y2.den:Int)),.vec f8 1 ((N.Zac (y2.den:Int)).map (.int .u32))])] []) Q
def qDot_at (f1 f2 f3 f4 f5 f6 f7 f8:Bool) (x1 y1 x2 y2:Rat) (Q:AV->Heap->Prop):Prop:=Wp M1 (.run fi100 (atC (cd Tryz.f100) []) [(0,.agg [.bool (N.Zaa x1.num),.vec f1 1 ((N.Zac x1.num).map (.int .u32)),.bool (N.Zaa (x1.den:Int)),.vec f2 1 ((N.Zac (x1.den:Int)).map (.int .u32)),.bool (N.Zaa y1.num),.vec f3 1 ((N.Zac y1.num).map (.int .u32)),.bool (N.Zaa (y1.den:Int)),.vec f4 1 ((N.Zac (y1.den:Int)).map (.int .u32))]),(1,.agg [.bool (N.Zaa x2.num),.vec f5 1 ((N.Zac x2.num).map (.int .u32)),.bool (N.Zaa (x2.den:Int)),.vec f6 1 ((N.Zac (x2.den:Int)).map (.int .u32)),.bool (N.Zaa y2.num),.vec f7 1 ((N.Zac y2.num).map (.int .u32)),.bool (N.Zaa (y2.den:Int)),.vec f8 1 ((N.Zac (y2.den:Int)).map (.int .u32))])] []) Q
def qCross_at (f1 f2 f3 f4 f5 f6 f7 f8:Bool) (x1 y1 x2 y2:Rat) (Q:AV->Heap->Prop):Prop:=Wp M1 (.run fi99 (atC (cd Tryz.f99) []) [(0,.agg [.bool (N.Zaa x1.num),.vec f1 1 ((N.Zac x1.num).map (.int .u32)),.bool (N.Zaa (x1.den:Int)),.vec f2 1 ((N.Zac (x1.den:Int)).map (.int .u32)),.bool (N.Zaa y1.num),.vec f3 1 ((N.Zac y1.num).map (.int .u32)),.bool (N.Zaa (y1.den:Int)),.vec f4 1 ((N.Zac (y1.den:Int)).map (.int .u32))]),(1,.agg [.bool (N.Zaa x2.num),.vec f5 1 ((N.Zac x2.num).map (.int .u32)),.bool (N.Zaa (x2.den:Int)),.vec f6 1 ((N.Zac (x2.den:Int)).map (.int .u32)),.bool (N.Zaa y2.num),.vec f7 1 ((N.Zac y2.num).map (.int .u32)),.bool (N.Zaa (y2.den:Int)),.vec f8 1 ((N.Zac (y2.den:Int)).map (.int .u32))])] []) Q
theorem call98 {args:List AV} {d:AV} (h:wc M1 fi98 Tryz.f98 args d):Ev M1 (.pure 98 args) d []:=pcl _ _ (by kernel_rfl) h
theorem call99 {args:List AV} {d:AV} (h:wc M1 fi99 Tryz.f99 args d):Ev M1 (.pure 99 args) d []:=pcl _ _ (by kernel_rfl) h
theorem call100 {args:List AV} {d:AV} (h:wc M1 fi100 Tryz.f100 args d):Ev M1 (.pure 100 args) d []:=pcl _ _ (by kernel_rfl) h
theorem qWay (f1 f2 f3 f4 f5 f6 f7 f8:Bool) (x1 y1 x2 y2:Rat)  (dq:AV) (H :
  (N.okR x2/\N.okR x1) /\
  (N.okR y2/\N.okR y1) /\
  Weak (ag [vb (N.Zaa (x2-x1).num),vf (us (N.Zac (x2-x1).num)),vb (N.Zaa (↑(x2-x1).den:Int)),vf (us (N.Zac (↑(x2-x1).den:Int))),vb (N.Zaa (y2-y1).num),vf (us (N.Zac (y2-y1).num)),vb (N.Zaa (↑(y2-y1).den:Int)),vf (us (N.Zac (↑(y2-y1).den:Int)))]) dq) :
 qWay_at f1 f2 f3 f4 f5 f6 f7 f8 x1 y1 x2 y2 (Zaf dq):=by
 unfold qWay_at
 obtain ⟨k1,k2,H⟩:=H
 exact Zai (G:=Zae kp98 [(1,4,.call (ratF (x2-x1)) none),(1,9,.call (ratF (y2-y1)) none)] []) 1000 [] (ag [vb (N.Zaa (x2-x1).num),vf (us (N.Zac (x2-x1).num)),vb (N.Zaa (↑(x2-x1).den:Int)),vf (us (N.Zac (↑(x2-x1).den:Int))),vb (N.Zaa (y2-y1).num),vf (us (N.Zac (y2-y1).num)),vb (N.Zaa (↑(y2-y1).den:Int)),vf (us (N.Zac (↑(y2-y1).den:Int)))]) (by kernel_rfl) (bc rfl (bc rfl (bc rfl (bc rfl (bc rfl b0))))) q0 (ce (@ev118 f5 f6 f1 f2 x2 x1 k1) (ce (@ev118 f7 f8 f3 f4 y2 y1 k2) c0)) H
theorem qDot (f1 f2 f3 f4 f5 f6 f7 f8:Bool) (x1 y1 x2 y2:Rat)  (dq:AV) (H :
  (N.okR x1/\N.okR x2) /\
  (N.okR y1/\N.okR y2) /\
  (N.okR (x1*x2)/\N.okR (y1*y2)) /\
  Weak (ratF (x1*x2+y1*y2)) dq) :
 qDot_at f1 f2 f3 f4 f5 f6 f7 f8 x1 y1 x2 y2 (Zaf dq):=by
 unfold qDot_at
 obtain ⟨k1,k2,k3,H⟩:=H
 exact Zai (G:=Zae kp100 [(1,4,.call (ratF (x1*x2)) none),(1,9,.call (ratF (y1*y2)) none),(1,10,.call (ratF (x1*x2+y1*y2)) none)] []) 1000 [] (ratF (x1*x2+y1*y2)) (by kernel_rfl) (bc rfl (bc rfl (bc rfl (bc rfl (bc rfl b0))))) q0 (ce (@ev102 f1 f2 f5 f6 x1 x2 k1) (ce (@ev102 f3 f4 f7 f8 y1 y2 k2) (ce (@ev119 false false false false (x1*x2) (y1*y2) k3) c0))) H
theorem qCross (f1 f2 f3 f4 f5 f6 f7 f8:Bool) (x1 y1 x2 y2:Rat)  (dq:AV) (H :
  (N.okR x1/\N.okR y2) /\
  (N.okR y1/\N.okR x2) /\
  (N.okR (x1*y2)/\N.okR (y1*x2)) /\
  Weak (ratF (x1*y2-y1*x2)) dq) :
 qCross_at f1 f2 f3 f4 f5 f6 f7 f8 x1 y1 x2 y2 (Zaf dq):=by
 unfold qCross_at
 obtain ⟨k1,k2,k3,H⟩:=H
 exact Zai (G:=Zae kp99 [(1,4,.call (ratF (x1*y2)) none),(1,9,.call (ratF (y1*x2)) none),(1,10,.call (ratF (x1*y2-y1*x2)) none)] []) 1000 [] (ratF (x1*y2-y1*x2)) (by kernel_rfl) (bc rfl (bc rfl (bc rfl (bc rfl (bc rfl b0))))) q0 (ce (@ev102 f1 f2 f7 f8 x1 y2 k1) (ce (@ev102 f3 f4 f5 f6 y1 x2 k2) (ce (@ev118 false false false false (x1*y2) (y1*x2) k3) c0))) H
end Go.Av

namespace Go.Av
open Go.Proofs
namespace N
def okW (x1 y1 x2 y2:Rat):Prop:=(okT 100 x1/\okT 100 y1)/\okT 100 x2/\okT 100 y2
def okD (x1 y1 x2 y2:Rat):Prop:=(okT 1000 x1/\okT 1000 y1)/\okT 1000 x2/\okT 1000 y2
end N
theorem ev98 (f1 f2 f3 f4 f5 f6 f7 f8:Bool) (x1 y1 x2 y2:Rat) (h:N.okW x1 y1 x2 y2):Ev M1 (.pure 98 [vecA f1 f2 f3 f4 x1 y1,vecA f5 f6 f7 f8 x2 y2]) (vecA false false false false (x2-x1) (y2-y1)) []:=by
 obtain ⟨⟨h1,h2⟩,h3,h4⟩:=h
 exact call98 (qWay _ _ _ _ _ _ _ _ _ _ _ _ _ ⟨⟨ZaX h3 (by omega),ZaX h1 (by omega)⟩,⟨ZaX h4 (by omega),ZaX h2 (by omega)⟩,.refl _⟩)
theorem ev100 (f1 f2 f3 f4 f5 f6 f7 f8:Bool) (x1 y1 x2 y2:Rat) (h:N.okD x1 y1 x2 y2):Ev M1 (.pure 100 [vecA f1 f2 f3 f4 x1 y1,vecA f5 f6 f7 f8 x2 y2]) (ratF (x1*x2+y1*y2)) []:=by
 obtain ⟨⟨h1,h2⟩,h3,h4⟩:=h
 exact call100 (qDot _ _ _ _ _ _ _ _ _ _ _ _ _ ⟨⟨ZaX h1 (by omega),ZaX h3 (by omega)⟩,⟨ZaX h2 (by omega),ZaX h4 (by omega)⟩,⟨ZaX (Zbs h1 h3) (by omega),ZaX (Zbs h2 h4) (by omega)⟩,.refl _⟩)
theorem ev99 (f1 f2 f3 f4 f5 f6 f7 f8:Bool) (x1 y1 x2 y2:Rat) (h:N.okD x1 y1 x2 y2):Ev M1 (.pure 99 [vecA f1 f2 f3 f4 x1 y1,vecA f5 f6 f7 f8 x2 y2]) (ratF (x1*y2-y1*x2)) []:=by
 obtain ⟨⟨h1,h2⟩,h3,h4⟩:=h
 exact call99 (qCross _ _ _ _ _ _ _ _ _ _ _ _ _ ⟨⟨ZaX h1 (by omega),ZaX h4 (by omega)⟩,⟨ZaX h2 (by omega),ZaX h3 (by omega)⟩,⟨ZaX (Zbs h1 h4) (by omega),ZaX (Zbs h2 h3) (by omega)⟩,.refl _⟩)
end Go.Av
