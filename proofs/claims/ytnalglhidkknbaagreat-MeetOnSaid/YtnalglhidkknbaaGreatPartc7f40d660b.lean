/- PART 3 of the texts of a claim, joined by a program: what each part shows stands at its head. -/
import Derived.Test.YtnalglhidkknbaaGreatPart75885d2292

namespace Go.Av
open Go.Proofs
set_option maxRecDepth 100000
def fi169:Fi:=⟨45,[.tmp 4]⟩
def Zhz:List (Nat × List Nat):=[(0,[0,1]),(1,[0,1]),(2,[0,1,14]),(3,[19]),(4,[4]),(5,[4]),(6,[0,1,5]),(7,[0,1,5,24]),(8,[0,1,5]),(9,[0,1,5,35]),(10,[4]),(11,[0,1,5,44]),(12,[4]),(13,[4])]
def fi170:Fi:=⟨53,[.tmp 4]⟩
def kp170:List (Nat × List Nat):=[(0,[0,1]),(1,[0,1,13]),(2,[0,1]),(3,[0,1,5]),(4,[0,1,5,6]),(5,[1,5,6,20,21,22]),(6,[1,5,6,20,21,22,23]),(7,[1,5,6,7,8,20,21,22]),(8,[1,5,7,8,20,21,22]),(9,[1,5,7,8,20,21,22,33]),(10,[1,5,8,20,21,22]),(11,[1,5,6,8,20,21,22]),(12,[1,5,6,8,20,21,22,41]),(13,[1,5,6,8,20,21,22]),(14,[1,5,6,20,21,22]),(15,[1,5,6,20,21,22]),(16,[4])]
def fi171:Fi:=⟨44,[.tmp 4]⟩
def kp171:List (Nat × List Nat):=[(0,[0,1]),(1,[0,1,5]),(2,[0,1,5,6]),(3,[1,5,6,13,14,15]),(4,[1,5,6,13,14,15,16]),(5,[1,5,6,7,8,13,14,15]),(6,[1,5,7,8,9,13,14,15]),(7,[1,5,7,8,9,13,14,15,24]),(8,[1,5,7,8,9,13,14,15]),(9,[1,5,6,7,8,9,13,14,15]),(10,[1,5,6,7,8,9,13,14,15,33]),(11,[1,5,6,7,8,9,13,14,15]),(12,[1,5,6,13,14,15]),(13,[1,5,6,13,14,15]),(14,[4])]
def fi180:Fi:=⟨44,[.tmp 4,.tmp 5]⟩
def kp180:List (Nat × List Nat):=[(0,[0,1]),(1,[0,1,6]),(2,[0,1,6,7]),(3,[0,1,6,7,8]),(4,[0,1,6,7,8,17]),(5,[0,1,6,7,8]),(6,[0,1,6,8,9]),(7,[0,1,6,7,8]),(8,[4,5])]
def Zgr (fa fb:Bool) (a b:List Int) (Q:AV->Heap->Prop):Prop:=Wp M1 (.run fi169 (atC (cd Tryz.f169) []) [(0,.vec fa 1 (a.map (.int .u32))),(1,.vec fb 1 (b.map (.int .u32)))] []) Q
def Zcj (fa fb:Bool) (a b:List Int) (i:Int) (Q:AV->Heap->Prop):Prop:=Wp M1 (.run fi169 (atC (cd Tryz.f169) [1,1,1,0,1,0,0]) [(0,.vec fa 1 (a.map (.int .u32))),(1,.vec fb 1 (b.map (.int .u32))),(5,.int .i64 i)] []) Q
def vPlus_at (fa fb:Bool) (a b:List Int) (Q:AV->Heap->Prop):Prop:=Wp M1 (.run fi170 (atC (cd Tryz.f170) []) [(0,.vec fa 1 (a.map (.int .u32))),(1,.vec fb 1 (b.map (.int .u32)))] []) Q
def Zci (fb fx:Bool) (b x o:List Int) (c n i:Int) (v:Nat) (Q:AV->Heap->Prop):Prop:=Wp M1 (.run fi170 (atC (cd Tryz.f170) [1,1,1,1,0,1,0,0]) [(1,.vec fb 1 (b.map (.int .u32))),(5,.row 0 v),(6,.int .u32 c),(20,.vec fx 1 (x.map (.int .u32))),(21,.int .i64 n),(22,.int .i64 i)] [⟨o.map (.int .u32),1,v,false,true⟩]) Q
def vMinus_at (fa fb:Bool) (a b:List Int) (Q:AV->Heap->Prop):Prop:=Wp M1 (.run fi171 (atC (cd Tryz.f171) []) [(0,.vec fa 1 (a.map (.int .u32))),(1,.vec fb 1 (b.map (.int .u32)))] []) Q
def ZbE (fb fx:Bool) (b x o:List Int) (c n i:Int) (Q:AV->Heap->Prop):Prop:=Wp M1 (.run fi171 (atC (cd Tryz.f171) [1,1,1,0,1,0,0]) [(1,.vec fb 1 (b.map (.int .u32))),(5,.row 0 0),(6,.int .u32 c),(13,.vec fx 1 (x.map (.int .u32))),(14,.int .i64 n),(15,.int .i64 i)] [⟨o.map (.int .u32),1,0,false,true⟩]) Q
def ZhQ (fa:Bool) (a:List Int) (d:Int) (Q:AV->Heap->Prop):Prop:=Wp M1 (.run fi180 (atC (cd Tryz.f180) []) [(0,.vec fa 1 (a.map (.int .u32))),(1,.int .u32 d)] []) Q
def Zb6 (fa:Bool) (a o:List Int) (d r i:Int) (Q:AV->Heap->Prop):Prop:=Wp M1 (.run fi180 (atC (cd Tryz.f180) [1,1,1,0,1,0,0]) [(0,.vec fa 1 (a.map (.int .u32))),(1,.int .u32 d),(6,.row 0 0),(7,.int .u64 r),(8,.int .i64 i)] [⟨o.map (.int .u32),1,0,false,true⟩]) Q
theorem call169 {args:List AV} {d:AV} (h:wc M1 fi169 Tryz.f169 args d):Ev M1 (.pure 169 args) d []:=pcl _ _ (by kernel_rfl) h
theorem call170 {args:List AV} {d:AV} (h:wc M1 fi170 Tryz.f170 args d):Ev M1 (.pure 170 args) d []:=pcl _ _ (by kernel_rfl) h
theorem call171 {args:List AV} {d:AV} (h:wc M1 fi171 Tryz.f171 args d):Ev M1 (.pure 171 args) d []:=pcl _ _ (by kernel_rfl) h
theorem call180 {args:List AV} {d:AV} (h:wc M1 fi180 Tryz.f180 args d):Ev M1 (.pure 180 args) d []:=pcl _ _ (by kernel_rfl) h
theorem vCompare (fa fb:Bool) (a b:List Int)  (dq:AV) (H :
  ∃ (l1:List Int),
  (Ev M1 (Conf.pure 179 [AV.vec fa 1 (us a)]) (vf (us l1)) []) /\
  ∃ (l2:List Int),
  (Ev M1 (Conf.pure 179 [AV.vec fb 1 (us b)]) (vf (us l2)) []) /\
  ((¬(↑l1.length:Int)=(↑l2.length:Int))->(((↑l1.length:Int)<(↑l2.length:Int))->vi (-1)=dq) /\
   (¬((↑l1.length:Int)<(↑l2.length:Int))->vi 1=dq)) /\
  (¬(¬(↑l1.length:Int)=(↑l2.length:Int))->(-9223372036854775808<=(↑l1.length:Int)-1/\(↑l1.length:Int)-1<=9223372036854775807) /\
   Zcj false false l1 l2 ((↑l1.length:Int)-1) (Zag dq))) :
 Zgr fa fb a b (Zag dq):=by
 unfold Zgr
 obtain ⟨l1,k1,l2,k2,H⟩:=H
 have w3:(us l1).length=l1.length:=List.length_map ..
 have w4:(us l2).length=l2.length:=List.length_map ..
 have i5:((↑(us l1).length:Int) != (↑(us l2).length:Int))=true ↔ (¬(↑l1.length:Int)=(↑l2.length:Int)):=(by (try rw [w3]);(try rw [w4]);all_goals exact i_ne)
 refine Zae (G:=Zad Zhz [(1,1,.call (vf (us l1)) none),(1,3,.call (vf (us l2)) none)] []) 7 [] ⟨(atC (cd Tryz.f169) [1,1,0,1]),[(0,vf (us l1)),(1,vf (us l2)),(14,vb ((↑(us l1).length:Int) != (↑(us l2).length:Int)))],[],_,[],_⟩ (by kernel_rfl) b0 q0 (ce k1 (ce k2 c0)) ?_
 rcases xq H with ⟨d6,H⟩|⟨d6,H⟩
 ·have i7:(decide ((↑(us l1).length:Int)<(↑(us l2).length:Int)))=true ↔ ((↑l1.length:Int)<(↑l2.length:Int)):=(by (try rw [w3]);(try rw [w4]);all_goals exact Zac)
  rcases xq H with ⟨d8,H⟩|⟨d8,H⟩
  ·exact Zao (G:=Zad Zhz [] []) 1000 [true,true] (vi (-1)) (by kernel_rfl) (bc (Zaq (i5.2 d6)) (bc (Zaq (i7.2 d8)) b0)) q0 c0 H
  ·exact Zao (G:=Zad Zhz [] []) 1000 [true,false] (vi 1) (by kernel_rfl) (bc (Zaq (i5.2 d6)) (bc (Zam (fun h=>d8 (i7.1 h))) b0)) q0 c0 H
 ·obtain ⟨k9,H⟩:=H
  have w10:wi ((↑l1.length:Int)-1)=(↑l1.length:Int)-1:=wI64 k9
  exact Zae (G:=Zad Zhz [] []) 1000 [false] ⟨(atC (cd Tryz.f169) [1,1,1,0,1,0,0]),[(0,vf (us l1)),(1,vf (us l2)),(5,vi (wi ((↑(us l1).length:Int)-1)))],[],_,[],_⟩ (by kernel_rfl) (bc (Zam (fun h=>d6 (i5.1 h))) b0) q0 c0 (by (try rw [w3]);(try rw [w10]);all_goals exact H)
theorem vCompareA (fa fb:Bool) (a b:List Int) (i:Int)  (dq:AV) (H :
  ((i>=0)->(0<=i) /\
   (i.toNat<a.length) /\
   (i.toNat<b.length) /\
   ((a.getD i.toNat default<b.getD i.toNat default)->vi (-1)=dq) /\
   (¬(a.getD i.toNat default<b.getD i.toNat default)->((a.getD i.toNat default>b.getD i.toNat default)->vi 1=dq) /\
    (¬(a.getD i.toNat default>b.getD i.toNat default)->(-9223372036854775808<=i-1/\i-1<=9223372036854775807) /\
     Zcj fa fb a b (i-1) (Zag dq)))) /\
  (¬(i>=0)->vi 0=dq)) :
 Zcj fa fb a b i (Zag dq):=by
 unfold Zcj
 rcases xq H with ⟨d2,H⟩|⟨d2,H⟩
 ·obtain ⟨k4,H⟩:=H
  have w5:(us a).length=a.length:=List.length_map ..
  have i6:(decide (i.toNat<(us a).length))=true ↔ (i.toNat<a.length):=(by (try rw [w5]);all_goals exact Zac)
  obtain ⟨k7,H⟩:=H
  have w9:(us b).length=b.length:=List.length_map ..
  have i10:(decide (i.toNat<(us b).length))=true ↔ (i.toNat<b.length):=(by (try rw [w9]);all_goals exact Zac)
  obtain ⟨k11,H⟩:=H
  refine Zae (G:=Zad Zhz [(9,3,.elem (vu (a.getD i.toNat default))),(9,7,.elem (vu (b.getD i.toNat default)))] []) 10 [true] ⟨(atC (cd Tryz.f169) [1,1,1,0,1,0,0,1,0,0,0,1]),[(0,AV.vec fa 1 (us a)),(1,AV.vec fb 1 (us b)),(5,vi i),(35,vb (decide (a.getD i.toNat default<b.getD i.toNat default)))],[],_,[((us a).get?Internal i.toNat=some (vu (a.getD i.toNat default))),((us b).get?Internal i.toNat=some (vu (b.getD i.toNat default)))],_⟩ (by kernel_rfl) (bc (Zaq (Zac.2 d2)) (bc (Zac.2 k4) (bc (i6.2 k7) (bc (Zac.2 k4) (bc (i10.2 k11) b0))))) (qc (Zat k7) (qc (Zat k11) q0)) c0 ?_
  rcases xq H with ⟨d13,H⟩|⟨d13,H⟩
  ·exact Zao (G:=Zad Zhz [] []) 1000 [true] (vi (-1)) (by kernel_rfl) (bc (Zaq (Zac.2 d13)) b0) q0 c0 H
  ·have i15:(decide (i.toNat<(us a).length))=true ↔ (i.toNat<a.length):=(by (try rw [w5]);all_goals exact Zac)
   have i17:(decide (i.toNat<(us b).length))=true ↔ (i.toNat<b.length):=(by (try rw [w9]);all_goals exact Zac)
   refine Zae (G:=Zad Zhz [(11,3,.elem (vu (a.getD i.toNat default))),(11,7,.elem (vu (b.getD i.toNat default)))] []) 4 [false] ⟨(atC (cd Tryz.f169) [1,1,1,0,1,0,0,1,0,0,1,1]),[(0,AV.vec fa 1 (us a)),(1,AV.vec fb 1 (us b)),(5,vi i),(44,vb (decide (a.getD i.toNat default>b.getD i.toNat default)))],[],_,[((us a).get?Internal i.toNat=some (vu (a.getD i.toNat default))),((us b).get?Internal i.toNat=some (vu (b.getD i.toNat default)))],_⟩ (by kernel_rfl) (bc (Zam (fun h=>d13 (Zac.1 h))) (bc (Zac.2 k4) (bc (i15.2 k7) (bc (Zac.2 k4) (bc (i17.2 k11) b0))))) (qc (Zat k7) (qc (Zat k11) q0)) c0 ?_
   rcases xq H with ⟨d19,H⟩|⟨d19,H⟩
   ·exact Zao (G:=Zad Zhz [] []) 1000 [true] (vi 1) (by kernel_rfl) (bc (Zaq (Zac.2 d19)) b0) q0 c0 H
   ·obtain ⟨k20,H⟩:=H
    have w21:wi (i-1)=i-1:=wI64 k20
    exact Zae (G:=Zad Zhz [] []) 1000 [false] ⟨(atC (cd Tryz.f169) [1,1,1,0,1,0,0]),[(0,AV.vec fa 1 (us a)),(1,AV.vec fb 1 (us b)),(5,vi (wi (i-1)))],[],_,[],_⟩ (by kernel_rfl) (bc (Zam (fun h=>d19 (Zac.1 h))) b0) q0 c0 (by (try rw [w21]);all_goals exact H)
 ·exact Zao (G:=Zad Zhz [] []) 1000 [false] (vi 0) (by kernel_rfl) (bc (Zam (fun h=>d2 (Zac.1 h))) b0) q0 c0 H
theorem vPlus (fa fb:Bool) (a b:List Int)  (dq:AV) (H :
  (((↑a.length:Int)<(↑b.length:Int))->(-9223372036854775808<=(↑b.length:Int)+1/\(↑b.length:Int)+1<=9223372036854775807) /\
   (0<=(↑b.length:Int)+1) /\
   (((↑b.length:Int)+1)*4<=1099511627776) /\
   ((↑b.length:Int)+1<=1099511627776) /\
   Wp M1 (.run fi170 (atC (cd Tryz.f170) [1,1,1,1,0,1,0,0]) [(1,AV.vec fa 1 (us a)),(5,AV.row 0 0),(6,vu 0),(20,AV.vec fb 1 (us b)),(21,vi (↑b.length:Int)),(22,vi 0)] [{ elems:=[],es:=1,ver:=0,frozen:=false,clean:=true }]) (Zag dq)) /\
  (¬((↑a.length:Int)<(↑b.length:Int))->(-9223372036854775808<=(↑a.length:Int)+1/\(↑a.length:Int)+1<=9223372036854775807) /\
   (0<=(↑a.length:Int)+1) /\
   (((↑a.length:Int)+1)*4<=1099511627776) /\
   ((↑a.length:Int)+1<=1099511627776) /\
   Wp M1 (.run fi170 (atC (cd Tryz.f170) [1,1,1,1,0,1,0,0]) [(1,AV.vec fb 1 (us b)),(5,AV.row 0 0),(6,vu 0),(20,AV.vec fa 1 (us a)),(21,vi (↑a.length:Int)),(22,vi 0)] [{ elems:=[],es:=1,ver:=0,frozen:=false,clean:=true }]) (Zag dq))) :
 vPlus_at fa fb a b (Zag dq):=by
 unfold vPlus_at
 have w1:(us a).length=a.length:=List.length_map ..
 have w2:(us b).length=b.length:=List.length_map ..
 have i3:(decide ((↑(us a).length:Int)<(↑(us b).length:Int)))=true ↔ ((↑a.length:Int)<(↑b.length:Int)):=(by (try rw [w1]);(try rw [w2]);all_goals exact Zac)
 rcases xq H with ⟨d4,H⟩|⟨d4,H⟩
 ·obtain ⟨k5,H⟩:=H
  have w6:wi ((↑b.length:Int)+1)=(↑b.length:Int)+1:=wI64 k5
  have i7:(decide (0<=wi ((↑(us b).length:Int)+1)))=true ↔ (0<=(↑b.length:Int)+1):=(by (try rw [w2]);(try rw [w6]);all_goals exact Zac)
  obtain ⟨k8,H⟩:=H
  have i9:(decide (wi ((↑(us b).length:Int)+1)*4<=1099511627776))=true ↔ (((↑b.length:Int)+1)*4<=1099511627776):=(by (try rw [w2]);(try rw [w6]);all_goals exact Zac)
  obtain ⟨k10,H⟩:=H
  have i11:(decide (wi ((↑(us b).length:Int)+1)<=1099511627776))=true ↔ ((↑b.length:Int)+1<=1099511627776):=(by (try rw [w2]);(try rw [w6]);all_goals exact Zac)
  obtain ⟨k12,H⟩:=H
  have w13:[]=us []:=rfl
  exact Zae (G:=Zad kp170 [] []) 1000 [true] ⟨(atC (cd Tryz.f170) [1,1,1,1,0,1,0,0]),[(1,AV.vec fa 1 (us a)),(5,AV.row 0 0),(6,vu 0),(20,AV.vec fb 1 (us b)),(21,vi (↑(us b).length:Int)),(22,vi 0)],[⟨[],1,0,false,true⟩],_,[],_⟩ (by kernel_rfl) (bc (Zaq (i3.2 d4)) (bc rfl (bc (i7.2 k8) (bc (i9.2 k10) (bc (i11.2 k12) b0))))) q0 c0 (by (try rw [w2]);(try rw [w13]);all_goals exact H)
 ·obtain ⟨k14,H⟩:=H
  have w15:wi ((↑a.length:Int)+1)=(↑a.length:Int)+1:=wI64 k14
  have i16:(decide (0<=wi ((↑(us a).length:Int)+1)))=true ↔ (0<=(↑a.length:Int)+1):=(by (try rw [w1]);(try rw [w15]);all_goals exact Zac)
  obtain ⟨k17,H⟩:=H
  have i18:(decide (wi ((↑(us a).length:Int)+1)*4<=1099511627776))=true ↔ (((↑a.length:Int)+1)*4<=1099511627776):=(by (try rw [w1]);(try rw [w15]);all_goals exact Zac)
  obtain ⟨k19,H⟩:=H
  have i20:(decide (wi ((↑(us a).length:Int)+1)<=1099511627776))=true ↔ ((↑a.length:Int)+1<=1099511627776):=(by (try rw [w1]);(try rw [w15]);all_goals exact Zac)
  obtain ⟨k21,H⟩:=H
  have w22:[]=us []:=rfl
  exact Zae (G:=Zad kp170 [] []) 1000 [false] ⟨(atC (cd Tryz.f170) [1,1,1,1,0,1,0,0]),[(1,AV.vec fb 1 (us b)),(5,AV.row 0 0),(6,vu 0),(20,AV.vec fa 1 (us a)),(21,vi (↑(us a).length:Int)),(22,vi 0)],[⟨[],1,0,false,true⟩],_,[],_⟩ (by kernel_rfl) (bc (Zam (fun h=>d4 (i3.1 h))) (bc rfl (bc (i16.2 k17) (bc (i18.2 k19) (bc (i20.2 k21) b0))))) q0 c0 (by (try rw [w1]);(try rw [w22]);all_goals exact H)
theorem vPlusA (fb fx:Bool) (b x o:List Int) (c n i:Int) (v:Nat)  (dq:AV) (H :
  ((i<n)->(0<=i) /\
   (i.toNat<x.length) /\
   (0<=x.getD i.toNat default+c/\x.getD i.toNat default+c<=4294967295) /\
   ((i<(↑b.length:Int))->(i.toNat<b.length) /\
    (0<=x.getD i.toNat default+c+b.getD i.toNat default/\x.getD i.toNat default+c+b.getD i.toNat default<=4294967295) /\
    ((x.getD i.toNat default+c+b.getD i.toNat default>=1000000000)->(0<=x.getD i.toNat default+c+b.getD i.toNat default-1000000000/\x.getD i.toNat default+c+b.getD i.toNat default-1000000000<=4294967295) /\
     ((o.length+1)*4<=1099511627776) /\
     (-9223372036854775808<=i+1/\i+1<=9223372036854775807) /\
     Zci fb fx b x (o++[x.getD i.toNat default+c+b.getD i.toNat default-1000000000]) 1 n (i+1) (v+1) (Zag dq)) /\
    (¬(x.getD i.toNat default+c+b.getD i.toNat default>=1000000000)->((o.length+1)*4<=1099511627776) /\
     (-9223372036854775808<=i+1/\i+1<=9223372036854775807) /\
     Zci fb fx b x (o++[x.getD i.toNat default+c+b.getD i.toNat default]) 0 n (i+1) (v+1) (Zag dq))) /\
   (¬(i<(↑b.length:Int))->((x.getD i.toNat default+c>=1000000000)->(0<=x.getD i.toNat default+c-1000000000/\x.getD i.toNat default+c-1000000000<=4294967295) /\
     ((o.length+1)*4<=1099511627776) /\
     (-9223372036854775808<=i+1/\i+1<=9223372036854775807) /\
     Zci fb fx b x (o++[x.getD i.toNat default+c-1000000000]) 1 n (i+1) (v+1) (Zag dq)) /\
    (¬(x.getD i.toNat default+c>=1000000000)->((o.length+1)*4<=1099511627776) /\
     (-9223372036854775808<=i+1/\i+1<=9223372036854775807) /\
     Zci fb fx b x (o++[x.getD i.toNat default+c]) 0 n (i+1) (v+1) (Zag dq)))) /\
  (¬(i<n)->((o.length+1)*4<=1099511627776) /\
   Weak (vf (us (o++[c]))) dq)) :
 Zci fb fx b x o c n i v (Zag dq):=by
 unfold Zci
 rcases xq H with ⟨d2,H⟩|⟨d2,H⟩
 ·obtain ⟨k4,H⟩:=H
  have w5:(us x).length=x.length:=List.length_map ..
  have i6:(decide (i.toNat<(us x).length))=true ↔ (i.toNat<x.length):=(by (try rw [w5]);all_goals exact Zac)
  obtain ⟨k7,k8,H⟩:=H
  have w9:wv (x.getD i.toNat default+c)=x.getD i.toNat default+c:=wU32 k8
  have w10:(us b).length=b.length:=List.length_map ..
  have i11:(decide (i<(↑(us b).length:Int)))=true ↔ (i<(↑b.length:Int)):=(by (try rw [w10]);all_goals exact Zac)
  refine Zae (G:=Zad kp170 [(7,2,.elem (vu (x.getD i.toNat default)))] []) 14 [true] ⟨(atC (cd Tryz.f170) [1,1,1,1,0,1,0,0,1,1,0,0,1,1,0,1]),[(1,AV.vec fb 1 (us b)),(5,AV.row 0 v),(7,vi i),(8,vu (wv (x.getD i.toNat default+c))),(20,AV.vec fx 1 (us x)),(21,vi n),(22,vi i),(33,vb (decide (i<(↑(us b).length:Int))))],[⟨us o,1,v,false,true⟩],_,[((us x).get?Internal i.toNat=some (vu (x.getD i.toNat default)))],_⟩ (by kernel_rfl) (bc (Zaq (Zac.2 d2)) (bc (Zac.2 k4) (bc (i6.2 k7) b0))) (qc (Zat k7) q0) c0 ?_
  rcases xq H with ⟨d12,H⟩|⟨d12,H⟩
  ·have i14:(decide (i.toNat<(us b).length))=true ↔ (i.toNat<b.length):=(by (try rw [w10]);all_goals exact Zac)
   obtain ⟨k15,k16,H⟩:=H
   have w17:wv (x.getD i.toNat default+c+b.getD i.toNat default)=x.getD i.toNat default+c+b.getD i.toNat default:=wU32 k16
   have i18:(decide (wv (wv (x.getD i.toNat default+c)+b.getD i.toNat default)>=1000000000))=true ↔ (x.getD i.toNat default+c+b.getD i.toNat default>=1000000000):=(by (try rw [w9]);(try rw [w17]);all_goals exact Zac)
   refine Zae (G:=Zad kp170 [(10,4,.elem (vu (b.getD i.toNat default)))] []) 7 [true] ⟨(atC (cd Tryz.f170) [1,1,1,1,0,1,0,0,1,1,0,0,1,1,1,1,0,1]),[(1,AV.vec fb 1 (us b)),(5,AV.row 0 v),(6,vu 0),(8,vu (wv (wv (x.getD i.toNat default+c)+b.getD i.toNat default))),(20,AV.vec fx 1 (us x)),(21,vi n),(22,vi i),(41,vb (decide (wv (wv (x.getD i.toNat default+c)+b.getD i.toNat default)>=1000000000)))],[⟨us o,1,v,false,true⟩],_,[((us b).get?Internal i.toNat=some (vu (b.getD i.toNat default)))],_⟩ (by kernel_rfl) (bc (Zaq (i11.2 d12)) (bc (Zac.2 k4) (bc (i14.2 k15) b0))) (qc (Zat k15) q0) c0 ?_
   rcases xq H with ⟨d19,H⟩|⟨d19,H⟩
   ·obtain ⟨k20,H⟩:=H
    have w21:wv (x.getD i.toNat default+c+b.getD i.toNat default-1000000000)=x.getD i.toNat default+c+b.getD i.toNat default-1000000000:=wU32 k20
    have w22:(us o).length=o.length:=List.length_map ..
    have i23:(decide (((us o).length+1)*4<=1099511627776))=true ↔ ((o.length+1)*4<=1099511627776):=(by (try rw [w9]);(try rw [w17]);(try rw [w21]);(try rw [w22]);all_goals exact Zac)
    obtain ⟨k24,H⟩:=H
    have w25:us o++[vu (x.getD i.toNat default+c+b.getD i.toNat default-1000000000)]=us (o++[x.getD i.toNat default+c+b.getD i.toNat default-1000000000]):=(Zfa rfl rfl)
    obtain ⟨k26,H⟩:=H
    have w27:wi (i+1)=i+1:=wI64 k26
    exact Zae (G:=Zad kp170 [] []) 1000 [true] ⟨(atC (cd Tryz.f170) [1,1,1,1,0,1,0,0]),[(1,AV.vec fb 1 (us b)),(5,AV.row 0 (v+1)),(6,vu 1),(20,AV.vec fx 1 (us x)),(21,vi n),(22,vi (wi (i+1)))],[⟨us o++[vu (wv (wv (wv (x.getD i.toNat default+c)+b.getD i.toNat default)-1000000000))],1,v+1,false,true⟩],[(decide (wv (wv (x.getD i.toNat default+c)+b.getD i.toNat default)>=1000000000))==true,v==v,decide (((us o).length+1)*4<=1099511627776)],[],_⟩ (by kernel_rfl) (bc (Zaq (i18.2 d19)) (bc (beq_self_eq_true _) (bc (i23.2 k24) b0))) q0 c0 (by (try rw [w9]);(try rw [w17]);(try rw [w21]);(try rw [w25]);(try rw [w27]);all_goals exact H)
   ·have w28:(us o).length=o.length:=List.length_map ..
    have i29:(decide (((us o).length+1)*4<=1099511627776))=true ↔ ((o.length+1)*4<=1099511627776):=(by (try rw [w9]);(try rw [w17]);(try rw [w28]);all_goals exact Zac)
    obtain ⟨k30,H⟩:=H
    have w31:us o++[vu (x.getD i.toNat default+c+b.getD i.toNat default)]=us (o++[x.getD i.toNat default+c+b.getD i.toNat default]):=(Zfa rfl rfl)
    obtain ⟨k32,H⟩:=H
    have w33:wi (i+1)=i+1:=wI64 k32
    exact Zae (G:=Zad kp170 [] []) 1000 [false] ⟨(atC (cd Tryz.f170) [1,1,1,1,0,1,0,0]),[(1,AV.vec fb 1 (us b)),(5,AV.row 0 (v+1)),(6,vu 0),(20,AV.vec fx 1 (us x)),(21,vi n),(22,vi (wi (i+1)))],[⟨us o++[vu (wv (wv (x.getD i.toNat default+c)+b.getD i.toNat default))],1,v+1,false,true⟩],[(decide (wv (wv (x.getD i.toNat default+c)+b.getD i.toNat default)>=1000000000))==false,v==v,decide (((us o).length+1)*4<=1099511627776)],[],_⟩ (by kernel_rfl) (bc (Zam (fun h=>d19 (i18.1 h))) (bc (beq_self_eq_true _) (bc (i29.2 k30) b0))) q0 c0 (by (try rw [w9]);(try rw [w17]);(try rw [w31]);(try rw [w33]);all_goals exact H)
  ·have i34:(decide (wv (x.getD i.toNat default+c)>=1000000000))=true ↔ (x.getD i.toNat default+c>=1000000000):=(by (try rw [w9]);all_goals exact Zac)
   rcases xq H with ⟨d35,H⟩|⟨d35,H⟩
   ·obtain ⟨k36,H⟩:=H
    have w37:wv (x.getD i.toNat default+c-1000000000)=x.getD i.toNat default+c-1000000000:=wU32 k36
    have w38:(us o).length=o.length:=List.length_map ..
    have i39:(decide (((us o).length+1)*4<=1099511627776))=true ↔ ((o.length+1)*4<=1099511627776):=(by (try rw [w9]);(try rw [w37]);(try rw [w38]);all_goals exact Zac)
    obtain ⟨k40,H⟩:=H
    have w41:us o++[vu (x.getD i.toNat default+c-1000000000)]=us (o++[x.getD i.toNat default+c-1000000000]):=(Zfa rfl rfl)
    obtain ⟨k42,H⟩:=H
    have w43:wi (i+1)=i+1:=wI64 k42
    exact Zae (G:=Zad kp170 [] []) 1000 [false,true] ⟨(atC (cd Tryz.f170) [1,1,1,1,0,1,0,0]),[(1,AV.vec fb 1 (us b)),(5,AV.row 0 (v+1)),(6,vu 1),(20,AV.vec fx 1 (us x)),(21,vi n),(22,vi (wi (i+1)))],[⟨us o++[vu (wv (wv (x.getD i.toNat default+c)-1000000000))],1,v+1,false,true⟩],[(decide (i<(↑(us b).length:Int)))==false,(decide (wv (x.getD i.toNat default+c)>=1000000000))==true,v==v,decide (((us o).length+1)*4<=1099511627776)],[],_⟩ (by kernel_rfl) (bc (Zam (fun h=>d12 (i11.1 h))) (bc (Zaq (i34.2 d35)) (bc (beq_self_eq_true _) (bc (i39.2 k40) b0)))) q0 c0 (by (try rw [w9]);(try rw [w37]);(try rw [w41]);(try rw [w43]);all_goals exact H)
   ·have w44:(us o).length=o.length:=List.length_map ..
    have i45:(decide (((us o).length+1)*4<=1099511627776))=true ↔ ((o.length+1)*4<=1099511627776):=(by (try rw [w9]);(try rw [w44]);all_goals exact Zac)
    obtain ⟨k46,H⟩:=H
    have w47:us o++[vu (x.getD i.toNat default+c)]=us (o++[x.getD i.toNat default+c]):=(Zfa rfl rfl)
    obtain ⟨k48,H⟩:=H
    have w49:wi (i+1)=i+1:=wI64 k48
    exact Zae (G:=Zad kp170 [] []) 1000 [false,false] ⟨(atC (cd Tryz.f170) [1,1,1,1,0,1,0,0]),[(1,AV.vec fb 1 (us b)),(5,AV.row 0 (v+1)),(6,vu 0),(20,AV.vec fx 1 (us x)),(21,vi n),(22,vi (wi (i+1)))],[⟨us o++[vu (wv (x.getD i.toNat default+c))],1,v+1,false,true⟩],[(decide (i<(↑(us b).length:Int)))==false,(decide (wv (x.getD i.toNat default+c)>=1000000000))==false,v==v,decide (((us o).length+1)*4<=1099511627776)],[],_⟩ (by kernel_rfl) (bc (Zam (fun h=>d12 (i11.1 h))) (bc (Zam (fun h=>d35 (i34.1 h))) (bc (beq_self_eq_true _) (bc (i45.2 k46) b0)))) q0 c0 (by (try rw [w9]);(try rw [w47]);(try rw [w49]);all_goals exact H)
 ·have w50:(us o).length=o.length:=List.length_map ..
  have i51:(decide (((us o).length+1)*4<=1099511627776))=true ↔ ((o.length+1)*4<=1099511627776):=(by (try rw [w50]);all_goals exact Zac)
  obtain ⟨k52,H⟩:=H
  have w53:us o++[vu c]=us (o++[c]):=(Zfa rfl rfl)
  exact ZcE (G:=Zad kp170 [] []) 1000 [false] (k:=((atC (cd Tryz.f170) [1,1,1,1,1,1])).tail) (env':=[(4,AV.row 0 (v+1))]) (L':=[⟨us o++[vu c],1,v+1,false,true⟩]) (asm:=[(decide (i<n))==false,v==v,decide (((us o).length+1)*4<=1099511627776)]) (eqs:=[]) (calls:=[]) (AV.row 0 (v+1)) (by kernel_rfl) (by kernel_rfl) (Zal (Zam (fun h=>d2 (Zac.1 h))) (Zal (beq_self_eq_true _) (Zal (i51.2 k52) ZaQ))) Zbf Zbg (ZeH (d:=(vf (us o++[vu c]))) (bs:=[v+1==v+1]) (by kernel_rfl) (by kernel_rfl) (Zal (beq_self_eq_true _) ZaQ) (by kernel_rfl) (by (try rw [w53]);all_goals exact H))
theorem vMinus (fa fb:Bool) (a b:List Int)  (dq:AV) (H :
  (0<=(↑a.length:Int)) /\
  ((↑a.length:Int)*4<=1099511627776) /\
  ((↑a.length:Int)<=1099511627776) /\
  ZbE fb fa b a (List.replicate (↑a.length:Int).toNat (0:Int)) 0 ((↑a.length:Int)) 0 (Zag dq)) :
 vMinus_at fa fb a b (Zag dq):=by
 unfold vMinus_at
 have w1:(us a).length=a.length:=List.length_map ..
 have i2:(decide (0<=(↑(us a).length:Int)))=true ↔ (0<=(↑a.length:Int)):=(by (try rw [w1]);all_goals exact Zac)
 obtain ⟨k3,H⟩:=H
 have i4:(decide ((↑(us a).length:Int)<=(↑(us a).length:Int)))=true ↔ ((↑a.length:Int)<=(↑a.length:Int)):=(by (try rw [w1]);all_goals exact Zac)
 have i5:(decide ((↑(us a).length:Int)*4<=1099511627776))=true ↔ ((↑a.length:Int)*4<=1099511627776):=(by (try rw [w1]);all_goals exact Zac)
 obtain ⟨k6,H⟩:=H
 have i7:(decide ((↑(us a).length:Int)<=1099511627776))=true ↔ ((↑a.length:Int)<=1099511627776):=(by (try rw [w1]);all_goals exact Zac)
 obtain ⟨k8,H⟩:=H
 have w9:List.replicate (↑a.length:Int).toNat (vu 0)=us (List.replicate (↑a.length:Int).toNat (0:Int)):=(Zdn rfl)
 exact Zae (G:=Zad kp171 [] []) 1000 [] ⟨(atC (cd Tryz.f171) [1,1,1,0,1,0,0]),[(1,AV.vec fb 1 (us b)),(5,AV.row 0 0),(6,vu 0),(13,AV.vec fa 1 (us a)),(14,vi (↑(us a).length:Int)),(15,vi 0)],[⟨List.replicate (↑(us a).length:Int).toNat (vu 0),1,0,false,true⟩],[decide (0<=(↑(us a).length:Int)),decide ((↑(us a).length:Int)<=(↑(us a).length:Int)),decide ((↑(us a).length:Int)*4<=1099511627776),decide ((↑(us a).length:Int)<=1099511627776)],[],_⟩ (by kernel_rfl) (bc (i2.2 k3) (bc (i4.2 (by omega)) (bc (i5.2 k6) (bc (i7.2 k8) b0)))) q0 c0 (by (try rw [w1]);(try rw [w9]);all_goals exact H)
theorem vMinusA (fb fx:Bool) (b x o:List Int) (c n i:Int)  (dq:AV) (H :
  ((i<n)->(0<=i) /\
   (i.toNat<x.length) /\
   ((i<(↑b.length:Int))->(i.toNat<b.length) /\
    (0<=c+b.getD i.toNat default/\c+b.getD i.toNat default<=4294967295) /\
    ((x.getD i.toNat default<c+b.getD i.toNat default)->(0<=x.getD i.toNat default+1000000000/\x.getD i.toNat default+1000000000<=4294967295) /\
     (i.toNat<o.length) /\
     (0<=x.getD i.toNat default+1000000000-(c+b.getD i.toNat default)/\x.getD i.toNat default+1000000000-(c+b.getD i.toNat default)<=4294967295) /\
     (-9223372036854775808<=i+1/\i+1<=9223372036854775807) /\
     ZbE fb fx b x (o.set i.toNat (x.getD i.toNat default+1000000000-(c+b.getD i.toNat default))) 1 n (i+1) (Zag dq)) /\
    (¬(x.getD i.toNat default<c+b.getD i.toNat default)->(i.toNat<o.length) /\
     (0<=x.getD i.toNat default-(c+b.getD i.toNat default)/\x.getD i.toNat default-(c+b.getD i.toNat default)<=4294967295) /\
     (-9223372036854775808<=i+1/\i+1<=9223372036854775807) /\
     ZbE fb fx b x (o.set i.toNat (x.getD i.toNat default-(c+b.getD i.toNat default))) 0 n (i+1) (Zag dq))) /\
   (¬(i<(↑b.length:Int))->((x.getD i.toNat default<c)->(0<=x.getD i.toNat default+1000000000/\x.getD i.toNat default+1000000000<=4294967295) /\
     (i.toNat<o.length) /\
     (0<=x.getD i.toNat default+1000000000-c/\x.getD i.toNat default+1000000000-c<=4294967295) /\
     (-9223372036854775808<=i+1/\i+1<=9223372036854775807) /\
     ZbE fb fx b x (o.set i.toNat (x.getD i.toNat default+1000000000-c)) 1 n (i+1) (Zag dq)) /\
    (¬(x.getD i.toNat default<c)->(i.toNat<o.length) /\
     (0<=x.getD i.toNat default-c/\x.getD i.toNat default-c<=4294967295) /\
     (-9223372036854775808<=i+1/\i+1<=9223372036854775807) /\
     ZbE fb fx b x (o.set i.toNat (x.getD i.toNat default-c)) 0 n (i+1) (Zag dq)))) /\
  (¬(i<n)->Weak (vf (us o)) dq)) :
 ZbE fb fx b x o c n i (Zag dq):=by
 unfold ZbE
 rcases xq H with ⟨d2,H⟩|⟨d2,H⟩
 ·obtain ⟨k4,H⟩:=H
  have w5:(us x).length=x.length:=List.length_map ..
  have i6:(decide (i.toNat<(us x).length))=true ↔ (i.toNat<x.length):=(by (try rw [w5]);all_goals exact Zac)
  obtain ⟨k7,H⟩:=H
  have w8:(us b).length=b.length:=List.length_map ..
  have i9:(decide (i<(↑(us b).length:Int)))=true ↔ (i<(↑b.length:Int)):=(by (try rw [w8]);all_goals exact Zac)
  refine Zae (G:=Zad kp171 [(5,2,.elem (vu (x.getD i.toNat default)))] []) 14 [true] ⟨(atC (cd Tryz.f171) [1,1,1,0,1,0,0,1,1,0,0,1,1,0,1]),[(1,AV.vec fb 1 (us b)),(5,AV.row 0 0),(7,vi i),(8,vu (x.getD i.toNat default)),(9,vu c),(13,AV.vec fx 1 (us x)),(14,vi n),(15,vi i),(24,vb (decide (i<(↑(us b).length:Int))))],[⟨us o,1,0,false,true⟩],_,[((us x).get?Internal i.toNat=some (vu (x.getD i.toNat default)))],_⟩ (by kernel_rfl) (bc (Zaq (Zac.2 d2)) (bc (Zac.2 k4) (bc (i6.2 k7) b0))) (qc (Zat k7) q0) c0 ?_
  rcases xq H with ⟨d10,H⟩|⟨d10,H⟩
  ·have i12:(decide (i.toNat<(us b).length))=true ↔ (i.toNat<b.length):=(by (try rw [w8]);all_goals exact Zac)
   obtain ⟨k13,k14,H⟩:=H
   have w15:wv (c+b.getD i.toNat default)=c+b.getD i.toNat default:=wU32 k14
   have i16:(decide (x.getD i.toNat default<wv (c+b.getD i.toNat default)))=true ↔ (x.getD i.toNat default<c+b.getD i.toNat default):=(by (try rw [w15]);all_goals exact Zac)
   refine Zae (G:=Zad kp171 [(8,4,.elem (vu (b.getD i.toNat default)))] []) 7 [true] ⟨(atC (cd Tryz.f171) [1,1,1,0,1,0,0,1,1,0,0,1,1,1,1,0,1]),[(1,AV.vec fb 1 (us b)),(5,AV.row 0 0),(6,vu 0),(7,vi i),(8,vu (x.getD i.toNat default)),(9,vu (wv (c+b.getD i.toNat default))),(13,AV.vec fx 1 (us x)),(14,vi n),(15,vi i),(33,vb (decide (x.getD i.toNat default<wv (c+b.getD i.toNat default))))],[⟨us o,1,0,false,true⟩],_,[((us b).get?Internal i.toNat=some (vu (b.getD i.toNat default)))],_⟩ (by kernel_rfl) (bc (Zaq (i9.2 d10)) (bc (Zac.2 k4) (bc (i12.2 k13) b0))) (qc (Zat k13) q0) c0 ?_
   rcases xq H with ⟨d17,H⟩|⟨d17,H⟩
   ·obtain ⟨k18,H⟩:=H
    have w19:wv (x.getD i.toNat default+1000000000)=x.getD i.toNat default+1000000000:=wU32 k18
    have w21:(us o).length=o.length:=List.length_map ..
    have i22:(decide (i.toNat<(us o).length))=true ↔ (i.toNat<o.length):=(by (try rw [w21]);all_goals exact Zac)
    obtain ⟨k23,k24,H⟩:=H
    have w25:wv (x.getD i.toNat default+1000000000-(c+b.getD i.toNat default))=x.getD i.toNat default+1000000000-(c+b.getD i.toNat default):=wU32 k24
    have w26:(us o).set i.toNat (vu (x.getD i.toNat default+1000000000-(c+b.getD i.toNat default)))=us (o.set i.toNat (x.getD i.toNat default+1000000000-(c+b.getD i.toNat default))):=(Zbh rfl rfl)
    obtain ⟨k27,H⟩:=H
    have w28:wi (i+1)=i+1:=wI64 k27
    exact Zae (G:=Zad kp171 [(12,6,.elem (vu (o.getD i.toNat default)))] []) 1000 [true] ⟨(atC (cd Tryz.f171) [1,1,1,0,1,0,0]),[(1,AV.vec fb 1 (us b)),(5,AV.row 0 0),(6,vu 1),(13,AV.vec fx 1 (us x)),(14,vi n),(15,vi (wi (i+1)))],[⟨(us o).set i.toNat (vu (wv (wv (x.getD i.toNat default+1000000000)-wv (c+b.getD i.toNat default)))),1,0,false,true⟩],_,[((us o).get?Internal i.toNat=some (vu (o.getD i.toNat default)))],_⟩ (by kernel_rfl) (bc (Zaq (i16.2 d17)) (bc rfl (bc (Zac.2 k4) (bc (i22.2 k23) (bc rfl b0))))) (qc (Zat k23) q0) c0 (by (try rw [w15]);(try rw [w19]);(try rw [w25]);(try rw [w26]);(try rw [w28]);all_goals exact H)
   ·have w30:(us o).length=o.length:=List.length_map ..
    have i31:(decide (i.toNat<(us o).length))=true ↔ (i.toNat<o.length):=(by (try rw [w30]);all_goals exact Zac)
    obtain ⟨k32,k33,H⟩:=H
    have w34:wv (x.getD i.toNat default-(c+b.getD i.toNat default))=x.getD i.toNat default-(c+b.getD i.toNat default):=wU32 k33
    have w35:(us o).set i.toNat (vu (x.getD i.toNat default-(c+b.getD i.toNat default)))=us (o.set i.toNat (x.getD i.toNat default-(c+b.getD i.toNat default))):=(Zbh rfl rfl)
    obtain ⟨k36,H⟩:=H
    have w37:wi (i+1)=i+1:=wI64 k36
    exact Zae (G:=Zad kp171 [(12,6,.elem (vu (o.getD i.toNat default)))] []) 1000 [false] ⟨(atC (cd Tryz.f171) [1,1,1,0,1,0,0]),[(1,AV.vec fb 1 (us b)),(5,AV.row 0 0),(6,vu 0),(13,AV.vec fx 1 (us x)),(14,vi n),(15,vi (wi (i+1)))],[⟨(us o).set i.toNat (vu (wv (x.getD i.toNat default-wv (c+b.getD i.toNat default)))),1,0,false,true⟩],_,[((us o).get?Internal i.toNat=some (vu (o.getD i.toNat default)))],_⟩ (by kernel_rfl) (bc (Zam (fun h=>d17 (i16.1 h))) (bc rfl (bc (Zac.2 k4) (bc (i31.2 k32) (bc rfl b0))))) (qc (Zat k32) q0) c0 (by (try rw [w15]);(try rw [w34]);(try rw [w35]);(try rw [w37]);all_goals exact H)
  ·rcases xq H with ⟨d39,H⟩|⟨d39,H⟩
   ·obtain ⟨k40,H⟩:=H
    have w41:wv (x.getD i.toNat default+1000000000)=x.getD i.toNat default+1000000000:=wU32 k40
    have w43:(us o).length=o.length:=List.length_map ..
    have i44:(decide (i.toNat<(us o).length))=true ↔ (i.toNat<o.length):=(by (try rw [w43]);all_goals exact Zac)
    obtain ⟨k45,k46,H⟩:=H
    have w47:wv (x.getD i.toNat default+1000000000-c)=x.getD i.toNat default+1000000000-c:=wU32 k46
    have w48:(us o).set i.toNat (vu (x.getD i.toNat default+1000000000-c))=us (o.set i.toNat (x.getD i.toNat default+1000000000-c)):=(Zbh rfl rfl)
    obtain ⟨k49,H⟩:=H
    have w50:wi (i+1)=i+1:=wI64 k49
    exact Zae (G:=Zad kp171 [(12,6,.elem (vu (o.getD i.toNat default)))] []) 1000 [false,true] ⟨(atC (cd Tryz.f171) [1,1,1,0,1,0,0]),[(1,AV.vec fb 1 (us b)),(5,AV.row 0 0),(6,vu 1),(13,AV.vec fx 1 (us x)),(14,vi n),(15,vi (wi (i+1)))],[⟨(us o).set i.toNat (vu (wv (wv (x.getD i.toNat default+1000000000)-c))),1,0,false,true⟩],_,[((us o).get?Internal i.toNat=some (vu (o.getD i.toNat default)))],_⟩ (by kernel_rfl) (bc (Zam (fun h=>d10 (i9.1 h))) (bc (Zaq (Zac.2 d39)) (bc rfl (bc (Zac.2 k4) (bc (i44.2 k45) (bc rfl b0)))))) (qc (Zat k45) q0) c0 (by (try rw [w41]);(try rw [w47]);(try rw [w48]);(try rw [w50]);all_goals exact H)
   ·have w52:(us o).length=o.length:=List.length_map ..
    have i53:(decide (i.toNat<(us o).length))=true ↔ (i.toNat<o.length):=(by (try rw [w52]);all_goals exact Zac)
    obtain ⟨k54,k55,H⟩:=H
    have w56:wv (x.getD i.toNat default-c)=x.getD i.toNat default-c:=wU32 k55
    have w57:(us o).set i.toNat (vu (x.getD i.toNat default-c))=us (o.set i.toNat (x.getD i.toNat default-c)):=(Zbh rfl rfl)
    obtain ⟨k58,H⟩:=H
    have w59:wi (i+1)=i+1:=wI64 k58
    exact Zae (G:=Zad kp171 [(12,6,.elem (vu (o.getD i.toNat default)))] []) 1000 [false,false] ⟨(atC (cd Tryz.f171) [1,1,1,0,1,0,0]),[(1,AV.vec fb 1 (us b)),(5,AV.row 0 0),(6,vu 0),(13,AV.vec fx 1 (us x)),(14,vi n),(15,vi (wi (i+1)))],[⟨(us o).set i.toNat (vu (wv (x.getD i.toNat default-c))),1,0,false,true⟩],_,[((us o).get?Internal i.toNat=some (vu (o.getD i.toNat default)))],_⟩ (by kernel_rfl) (bc (Zam (fun h=>d10 (i9.1 h))) (bc (Zam (fun h=>d39 (Zac.1 h))) (bc rfl (bc (Zac.2 k4) (bc (i53.2 k54) (bc rfl b0)))))) (qc (Zat k54) q0) c0 (by (try rw [w56]);(try rw [w57]);(try rw [w59]);all_goals exact H)
 ·exact ZcE (G:=Zad kp171 [] []) 1000 [false] (k:=((atC (cd Tryz.f171) [1,1,1,1,1])).tail) (env':=[(4,AV.row 0 0)]) (L':=[⟨us o,1,0,false,true⟩]) (asm:=[(decide (i<n))==false]) (eqs:=[]) (calls:=[]) (AV.row 0 0) (by kernel_rfl) (by kernel_rfl) (Zal (Zam (fun h=>d2 (Zac.1 h))) ZaQ) Zbf Zbg (ZeH (d:=(vf (us o))) (bs:=[0==0]) (by kernel_rfl) (by kernel_rfl) (Zal (beq_self_eq_true _) ZaQ) (by kernel_rfl) H)
theorem vByWord (fa:Bool) (a:List Int) (d:Int)  (dq:AV) (H :
  (0<=(↑a.length:Int)) /\
  ((↑a.length:Int)*4<=1099511627776) /\
  ((↑a.length:Int)<=1099511627776) /\
  (-9223372036854775808<=(↑a.length:Int)-1/\(↑a.length:Int)-1<=9223372036854775807) /\
  Zb6 fa a (List.replicate (↑a.length:Int).toNat (0:Int)) d 0 ((↑a.length:Int)-1) (Zag dq)) :
 ZhQ fa a d (Zag dq):=by
 unfold ZhQ
 have w1:(us a).length=a.length:=List.length_map ..
 have i2:(decide (0<=(↑(us a).length:Int)))=true ↔ (0<=(↑a.length:Int)):=(by (try rw [w1]);all_goals exact Zac)
 obtain ⟨k3,H⟩:=H
 have i4:(decide ((↑(us a).length:Int)<=(↑(us a).length:Int)))=true ↔ ((↑a.length:Int)<=(↑a.length:Int)):=(by (try rw [w1]);all_goals exact Zac)
 have i5:(decide ((↑(us a).length:Int)*4<=1099511627776))=true ↔ ((↑a.length:Int)*4<=1099511627776):=(by (try rw [w1]);all_goals exact Zac)
 obtain ⟨k6,H⟩:=H
 have i7:(decide ((↑(us a).length:Int)<=1099511627776))=true ↔ ((↑a.length:Int)<=1099511627776):=(by (try rw [w1]);all_goals exact Zac)
 obtain ⟨k8,H⟩:=H
 have w9:List.replicate (↑a.length:Int).toNat (vu 0)=us (List.replicate (↑a.length:Int).toNat (0:Int)):=(Zdn rfl)
 obtain ⟨k10,H⟩:=H
 have w11:wi ((↑a.length:Int)-1)=(↑a.length:Int)-1:=wI64 k10
 exact Zae (G:=Zad kp180 [] []) 1000 [] ⟨(atC (cd Tryz.f180) [1,1,1,0,1,0,0]),[(0,AV.vec fa 1 (us a)),(1,vu d),(6,AV.row 0 0),(7,vw 0),(8,vi (wi ((↑(us a).length:Int)-1)))],[⟨List.replicate (↑(us a).length:Int).toNat (vu 0),1,0,false,true⟩],[decide (0<=(↑(us a).length:Int)),decide ((↑(us a).length:Int)<=(↑(us a).length:Int)),decide ((↑(us a).length:Int)*4<=1099511627776),decide ((↑(us a).length:Int)<=1099511627776)],[],_⟩ (by kernel_rfl) (bc (i2.2 k3) (bc (i4.2 (by omega)) (bc (i5.2 k6) (bc (i7.2 k8) b0)))) q0 c0 (by (try rw [w1]);(try rw [w9]);(try rw [w11]);all_goals exact H)
theorem vByWordA (fa:Bool) (a o:List Int) (d r i:Int)  (dq:AV) (H :
  ((i>=0)->(0<=i) /\
   (i.toNat<a.length) /\
   (0<=r*1000000000/\r*1000000000<=18446744073709551615) /\
   (0<=a.getD i.toNat default/\a.getD i.toNat default<=18446744073709551615) /\
   (0<=r*1000000000+a.getD i.toNat default/\r*1000000000+a.getD i.toNat default<=18446744073709551615) /\
   (0<=d/\d<=18446744073709551615) /\
   (¬d=0) /\
   (i.toNat<o.length) /\
   (0<=(r*1000000000+a.getD i.toNat default).tdiv d/\(r*1000000000+a.getD i.toNat default).tdiv d<=18446744073709551615) /\
   (0<=(r*1000000000+a.getD i.toNat default).tdiv d/\(r*1000000000+a.getD i.toNat default).tdiv d<=4294967295) /\
   (-9223372036854775808<=i-1/\i-1<=9223372036854775807) /\
   Zb6 fa a (o.set i.toNat ((r*1000000000+a.getD i.toNat default).tdiv d)) d ((r*1000000000+a.getD i.toNat default).tmod d) (i-1) (Zag dq)) /\
  (¬(i>=0)->(0<=r/\r<=4294967295) /\
   Weak (tu [vf (us o),AV.vec true 1 [vu r]]) dq)) :
 Zb6 fa a o d r i (Zag dq):=by
 unfold Zb6
 rcases xq H with ⟨d2,H⟩|⟨d2,H⟩
 ·obtain ⟨k4,H⟩:=H
  have w5:(us a).length=a.length:=List.length_map ..
  have i6:(decide (i.toNat<(us a).length))=true ↔ (i.toNat<a.length):=(by (try rw [w5]);all_goals exact Zac)
  obtain ⟨k7,k8,H⟩:=H
  have w9:wu (r*1000000000)=r*1000000000:=wU64 k8
  obtain ⟨k10,H⟩:=H
  have w11:wu (a.getD i.toNat default)=a.getD i.toNat default:=wU64 k10
  obtain ⟨k12,H⟩:=H
  have w13:wu (r*1000000000+a.getD i.toNat default)=r*1000000000+a.getD i.toNat default:=wU64 k12
  obtain ⟨k14,H⟩:=H
  have w15:wu d=d:=wU64 k14
  have i16:(!wu d==0)=true ↔ (¬d=0):=(by (try rw [w15]);all_goals exact ZdH)
  obtain ⟨k17,H⟩:=H
  have i18:(!wu d==0)=true ↔ (¬d=0):=(by (try rw [w15]);all_goals exact ZdH)
  have w20:(us o).length=o.length:=List.length_map ..
  have i21:(decide (i.toNat<(us o).length))=true ↔ (i.toNat<o.length):=(by (try rw [w20]);all_goals exact Zac)
  obtain ⟨k22,k23,H⟩:=H
  have w24:wu ((r*1000000000+a.getD i.toNat default).tdiv d)=(r*1000000000+a.getD i.toNat default).tdiv d:=wU64 k23
  obtain ⟨k25,H⟩:=H
  have w26:wv ((r*1000000000+a.getD i.toNat default).tdiv d)=(r*1000000000+a.getD i.toNat default).tdiv d:=wU32 k25
  have w27:(us o).set i.toNat (vu ((r*1000000000+a.getD i.toNat default).tdiv d))=us (o.set i.toNat ((r*1000000000+a.getD i.toNat default).tdiv d)):=(Zbh rfl rfl)
  obtain ⟨k28,H⟩:=H
  have w29:wi (i-1)=i-1:=wI64 k28
  exact Zae (G:=Zad kp180 [(6,5,.elem (vu (a.getD i.toNat default))),(7,12,.elem (vu (o.getD i.toNat default)))] []) 1000 [true] ⟨(atC (cd Tryz.f180) [1,1,1,0,1,0,0]),[(0,AV.vec fa 1 (us a)),(1,vu d),(6,AV.row 0 0),(7,vw ((wu (wu (r*1000000000)+wu (a.getD i.toNat default))).tmod (wu d))),(8,vi (wi (i-1)))],[⟨(us o).set i.toNat (vu (wv (wu ((wu (wu (r*1000000000)+wu (a.getD i.toNat default))).tdiv (wu d))))),1,0,false,true⟩],_,[((us a).get?Internal i.toNat=some (vu (a.getD i.toNat default))),((us o).get?Internal i.toNat=some (vu (o.getD i.toNat default)))],_⟩ (by kernel_rfl) (bc (Zaq (Zac.2 d2)) (bc (Zac.2 k4) (bc (i6.2 k7) (bc (i16.2 k17) (bc (i18.2 k17) (bc rfl (bc (Zac.2 k4) (bc (i21.2 k22) (bc rfl b0))))))))) (qc (Zat k7) (qc (Zat k22) q0)) c0 (by (try rw [w9]);(try rw [w11]);(try rw [w13]);(try rw [w15]);(try rw [w24]);(try rw [w26]);(try rw [w27]);(try rw [w29]);all_goals exact H)
 ·obtain ⟨k30,H⟩:=H
  have w31:wv r=r:=wU32 k30
  exact ZcE (G:=Zad kp180 [] []) 1000 [false] (k:=((atC (cd Tryz.f180) [1,1,1,1,1])).tail) (env':=[(4,AV.row 0 0),(5,AV.vec true 1 [vu (wv r)])]) (L':=[⟨us o,1,0,false,true⟩]) (asm:=[(decide (i>=0))==false]) (eqs:=[]) (calls:=[]) (tu [AV.row 0 0,AV.vec true 1 [vu (wv r)]]) (by kernel_rfl) (by kernel_rfl) (Zal (Zam (fun h=>d2 (Zac.1 h))) ZaQ) Zbf Zbg (ZeH (d:=(tu [vf (us o),AV.vec true 1 [vu (wv r)]])) (bs:=[0==0]) (by kernel_rfl) (by kernel_rfl) (Zal (beq_self_eq_true _) ZaQ) (by kernel_rfl) (by (try rw [w31]);all_goals exact H))
end Go.Av

namespace Go.Av
open Go.Proofs
theorem Za9 (v i:Nat):v / 1000000000 ^ i / 1000000000=v / 1000000000 ^ (i+1):=by rw [Nat.div_div_eq_div_mul,Nat.pow_succ]
theorem ZaL {n v i:Nat} (h:J.fits n v) (hi:n<=i):v / 1000000000 ^ i=0:=Zcr.1 (ZaP h hi)
theorem ZgY {fa fb:Bool} {n v w:Nat} {dq:AV} (hn:n<=1000000) (hq:AV.int .i64 (J.sgnI ((v:Int)-w))=dq):∀ (k:Nat),k<=n->v / 1000000000 ^ k=w / 1000000000 ^ k->Zcj fa fb (J.Zay n v) (J.Zay n w) ((k:Int)-1) (Zag dq)
 | 0,hk,he=>by
  have e:v=w:=by simpa using he
  refine vCompareA _ _ _ _ _ _ ⟨fun h=>by omega,fun _ => ?_⟩
  rw [<- hq,e]
  congr 1
  unfold J.sgnI
  rw [if_neg (by omega),if_neg (by omega)]
 | k+1,hk,he=>by
  have e1:(((k+1:Nat):Int)-1)=(k:Nat):=by omega
  rw [e1]
  refine vCompareA _ _ _ _ _ _ ⟨fun _ => ?_,fun h=>by omega⟩
  rw [Int.toNat_natCast,ZaA v (show k<n by omega),ZaA w (show k<n by omega),Zan,Zan]
  have s1:=Za4 v k
  have s2:=Za4 w k
  rw [<- he] at s2
  refine ⟨by omega,by omega,by omega,fun h => ?_,fun h=>⟨fun h2 => ?_,fun h2=>⟨by omega,?_⟩⟩⟩
  ·have:=Zgg (v:=v) (w:=w) (i:=k) (by omega)
   rw [<- hq];congr 1
   unfold J.sgnI
   rw [if_pos (by omega)]
  ·have:=Zgg (v:=w) (w:=v) (i:=k) (by omega)
   rw [<- hq];congr 1
   unfold J.sgnI
   rw [if_neg (by omega),if_pos (by omega)]
  ·exact ZgY hn hq k (by omega) (by omega)
theorem compareN (fa fb:Bool) (n v m w:Nat) (h:J.ZaB n/\J.ZaB m/\J.fits n v/\J.fits m w):Ev M1 (.pure 169 [usA fa (J.Zay n v),usA fb (J.Zay m w)]) (.int .i64 (J.sgnI ((v:Int)-w))) []:=by
 obtain ⟨h1,h2,h3,h4⟩:=h
 have c1:=Zaz.1 h3
 have c2:=Zaz.1 h4
 have h1':n<=1000000:=h1
 have h2':m<=1000000:=h2
 refine call169 (vCompare _ _ _ _ _ ⟨J.lim v,trimN fa n v ⟨h1,h3⟩,J.lim w,trimN fb m w ⟨h2,h4⟩,?_⟩)
 rw [ZaN,ZaN]
 refine ⟨fun h=>⟨fun k => ?_,fun k => ?_⟩,fun h=>⟨by omega,?_⟩⟩
 ·have:=cmp_len (v:=v) (w:=w) (by omega)
  congr 1
  unfold J.sgnI
  rw [if_pos (by omega)]
 ·have:=cmp_len (v:=w) (w:=v) (by omega)
  congr 1
  unfold J.sgnI
  rw [if_neg (by omega),if_pos (by omega)]
 ·have e:J.cnt w=J.cnt v:=by omega
  have hw:J.lim w=J.Zay (J.cnt v) w:=by unfold J.lim;rw [e]
  rw [hw]
  refine ZgY (by omega) rfl (J.cnt v) (Nat.le_refl _) ?_
  rw [ZaL (Zai v) (Nat.le_refl _),ZaL (Zai w) (by omega)]
theorem ev169 (fa fb:Bool) (v w:Int) (h:J.ok v/\J.ok w):Ev M1 (.pure 169 [usA fa (J.Zab v),usA fb (J.Zab w)]) (.int .i64 (J.sgnI ((v.natAbs:Int)-w.natAbs))) []:=compareN fa fb _ _ _ _ ⟨h.1,h.2,Zai _,Zai _⟩
theorem loopPlus {fb fx:Bool} {n m v w:Nat} {dq:AV} (hn:n<=1000000) (hmn:m<=n) (hv:J.fits n v) (hw:J.fits m w):∀ (k i:Nat) (o:List Int) (c:Nat) (r:Nat),i+k=n->c<=1->o.length<=1000000+i ->
  usA false (o++J.Zay (k+1) (v / 1000000000 ^ i+w / 1000000000 ^ i+c))=dq->Zci fb fx (J.Zay m w) (J.Zay n v) o c n i r (Zag dq)
 | 0,i,o,c,r,hi,hc,hol,hq=>by
  rw [ZaL hv (by omega),ZaL hw (by omega)] at hq
  have e:J.Zay 1 (0+0+c)=[(c:Int)]:=by simp [J.Zay];omega
  rw [Nat.zero_add,e] at hq
  exact vPlusA _ _ _ _ _ _ _ _ _ _ ⟨fun h=>by omega,fun _=>⟨by omega,by rw [<- hq];exact .refl _⟩⟩
 | k+1,i,o,c,r,hi,hc,hol,hq=>by
  have gx:=ZaA v (show i<n by omega)
  rw [plus_step,Za9,Za9] at hq
  have nxt:∀ (d:Int) (c':Nat),((v / 1000000000 ^ i % 1000000000+w / 1000000000 ^ i % 1000000000+c) % 1000000000:Nat)=d->(v / 1000000000 ^ i % 1000000000+w / 1000000000 ^ i % 1000000000+c) / 1000000000=c'->c'<=1->Zci fb fx (J.Zay m w) (J.Zay n v) (o++[d]) c' n ((i:Int)+1) (r+1) (Zag dq):=by
   intro d c' hd hc' hc1
   refine loopPlus hn hmn hv hw k (i+1) (o++[d]) c' (r+1) (by omega) hc1 (by simp;omega) ?_
   rw [<- hq,hd,hc',List.append_assoc];rfl
  refine vPlusA _ _ _ _ _ _ _ _ _ _ ⟨fun _ => ?_,fun h=>by omega⟩
  rw [Int.toNat_natCast,gx,Zan,Zan]
  by_cases him:i<m
  ·rw [ZaA w him]
   generalize v / 1000000000 ^ i=V at nxt
   generalize w / 1000000000 ^ i=W at nxt
   refine ⟨by omega,by omega,by omega,fun _=>⟨by omega,by omega,fun h=>⟨by omega,by omega,by omega,nxt _ 1 (by omega) (by omega) (by omega)⟩,fun h=>⟨by omega,by omega,nxt _ 0 (by omega) (by omega) (by omega)⟩⟩,fun h=>by omega⟩
  ·have hW:=ZaL hw (show m<=i by omega)
   rw [hW] at nxt
   generalize v / 1000000000 ^ i=V at nxt
   refine ⟨by omega,by omega,by omega,fun h=>by omega,fun _=>⟨fun h=>⟨by omega,by omega,by omega,nxt _ 1 (by omega) (by omega) (by omega)⟩,fun h=>⟨by omega,by omega,nxt _ 0 (by omega) (by omega) (by omega)⟩⟩⟩
theorem ev170 (fa fb:Bool) (v w:Int) (h:J.ok v/\J.ok w):Ev M1 (.pure 170 [usA fa (J.Zab v),usA fb (J.Zab w)]) (usA false (J.Zay (max (J.cnt v.natAbs) (J.cnt w.natAbs)+1) (v.natAbs+w.natAbs))) []:=by
 have h1:J.cnt v.natAbs<=1000000:=h.1
 have h2:J.cnt w.natAbs<=1000000:=h.2
 refine call170 (vPlus _ _ _ _ _ ?_)
 rw [ZaX,ZaX]
 refine ⟨fun k=>⟨by omega,by omega,by omega,by omega,?_⟩,fun k=>⟨by omega,by omega,by omega,by omega,?_⟩⟩
 ·have:=loopPlus (fb:=fa) (fx:=fb) (v:=w.natAbs) (w:=v.natAbs) (dq:=usA false (J.Zay (max (J.cnt v.natAbs) (J.cnt w.natAbs)+1) (v.natAbs+w.natAbs))) h2 (show J.cnt v.natAbs<=J.cnt w.natAbs by omega) (Zai _) (Zai _) (J.cnt w.natAbs) 0 [] 0 0 (by omega) (by omega) (by simp) (by
   rw [Nat.max_eq_right (by omega)];simp [Nat.add_comm])
  exact this
 ·have:=loopPlus (fb:=fb) (fx:=fa) (v:=v.natAbs) (w:=w.natAbs) (dq:=usA false (J.Zay (max (J.cnt v.natAbs) (J.cnt w.natAbs)+1) (v.natAbs+w.natAbs))) h1 (show J.cnt w.natAbs<=J.cnt v.natAbs by omega) (Zai _) (Zai _) (J.cnt v.natAbs) 0 [] 0 0 (by omega) (by omega) (by simp) (by
   rw [Nat.max_eq_left (by omega)];simp)
  exact this
theorem Za5 {o:List Int} {i:Nat} {d:Int} (h:i<o.length):(o.set i d).take (i+1)=o.take i++[d]:=by
 rw [List.take_add_one,List.take_set_of_le (Nat.le_refl _),List.getElem?_set_self h];rfl
theorem ZgX {fb fx:Bool} {n m v w:Nat} {dq:AV} (hn:n<=1000000) (hv:J.fits n v) (hw:J.fits m w) (hm:m<=1000000):∀ (k i:Nat) (o:List Int) (c:Nat),i+k=n->c<=1->o.length=n->w / 1000000000 ^ i+c<=v / 1000000000 ^ i ->
  usA false (o.take i++J.Zay k (v / 1000000000 ^ i-w / 1000000000 ^ i-c))=dq->ZbE fb fx (J.Zay m w) (J.Zay n v) o c n i (Zag dq)
 | 0,i,o,c,hi,hc,hol,hle,hq=>by
  rw [List.take_of_length_le (by omega),J.Zay,List.append_nil] at hq
  exact vMinusA _ _ _ _ _ _ _ _ _ ⟨fun h=>by omega,fun _=>by rw [<- hq];exact .refl _⟩
 | k+1,i,o,c,hi,hc,hol,hle,hq=>by
  have gx:=ZaA v (show i<n by omega)
  obtain ⟨s1,s2⟩:=Zh8 k (v / 1000000000 ^ i) (w / 1000000000 ^ i) c hle hc
  rw [Za9,Za9] at s1 s2
  have nxt1:v / 1000000000 ^ i % 1000000000<w / 1000000000 ^ i % 1000000000+c -> ∀ d:Int,((v / 1000000000 ^ i % 1000000000+1000000000-(w / 1000000000 ^ i % 1000000000+c):Nat):Int)=d->ZbE fb fx (J.Zay m w) (J.Zay n v) (o.set i d) (1:Nat) n ((i:Int)+1) (Zag dq):=by
   intro hlt d hd
   obtain ⟨t1,t2⟩:=s1 hlt
   refine ZgX hn hv hw hm k (i+1) (o.set i d) 1 (by omega) (by omega) (by simpa using hol) t2 ?_
   rw [Za5 (by omega),<- hq,t1,hd,List.append_assoc];rfl
  have nxt0:¬v / 1000000000 ^ i % 1000000000<w / 1000000000 ^ i % 1000000000+c -> ∀ d:Int,((v / 1000000000 ^ i % 1000000000-(w / 1000000000 ^ i % 1000000000+c):Nat):Int)=d->ZbE fb fx (J.Zay m w) (J.Zay n v) (o.set i d) (0:Nat) n ((i:Int)+1) (Zag dq):=by
   intro hlt d hd
   obtain ⟨t1,t2⟩:=s2 hlt
   refine ZgX hn hv hw hm k (i+1) (o.set i d) 0 (by omega) (by omega) (by simpa using hol) t2 ?_
   rw [Za5 (by omega),<- hq,t1,hd,List.append_assoc];rfl
  refine vMinusA _ _ _ _ _ _ _ _ _ ⟨fun _ => ?_,fun h=>by omega⟩
  rw [Int.toNat_natCast,gx,Zan,Zan]
  by_cases him:i<m
  ·rw [ZaA w him]
   generalize v / 1000000000 ^ i=V at nxt0 nxt1
   generalize w / 1000000000 ^ i=W at nxt0 nxt1
   exact ⟨by omega,by omega,fun _=>⟨by omega,by omega,fun h=>⟨by omega,by omega,by omega,by omega,nxt1 (by omega) _ (by omega)⟩,fun h=>⟨by omega,by omega,by omega,nxt0 (by omega) _ (by omega)⟩⟩,fun h=>by omega⟩
  ·have hW:=ZaL hw (show m<=i by omega)
   rw [hW] at nxt0 nxt1
   generalize v / 1000000000 ^ i=V at nxt0 nxt1
   exact ⟨by omega,by omega,fun h=>by omega,fun _=>⟨fun h=>⟨by omega,by omega,by omega,by omega,nxt1 (by omega) _ (by omega)⟩,fun h=>⟨by omega,by omega,by omega,nxt0 (by omega) _ (by omega)⟩⟩⟩
theorem ev171 (fa fb:Bool) (v w:Int) (h:J.ok v/\J.ok w/\w.natAbs<=v.natAbs):Ev M1 (.pure 171 [usA fa (J.Zab v),usA fb (J.Zab w)]) (usA false (J.Zay (J.cnt v.natAbs) (v.natAbs-w.natAbs))) []:=by
 obtain ⟨h1,h2,h3⟩:=h
 have h1':J.cnt v.natAbs<=1000000:=h1
 refine call171 (vMinus _ _ _ _ _ ?_)
 rw [ZaX,Int.toNat_natCast]
 refine ⟨by omega,by omega,by omega,?_⟩
 have:=ZgX (fb:=fb) (fx:=fa) (v:=v.natAbs) (w:=w.natAbs) (dq:=usA false (J.Zay (J.cnt v.natAbs) (v.natAbs-w.natAbs))) h1' (Zai _) (Zai _) h2 (J.cnt v.natAbs) 0 (List.replicate (J.cnt v.natAbs) 0) 0 (by omega) (by omega) (by simp) (by simpa using h3) (by simp)
 exact this
theorem ZcF {o:List Int} {i:Nat} {d:Int} (h:i<o.length):(o.set i d).drop i=d::o.drop (i+1):=by
 rw [Zcs (by simpa using h),List.drop_set_of_lt (by omega)]
 congr 1
 rw [List.getD_eq_getElem?_getD,List.getElem?_set_self h];rfl
theorem Zic {fa:Bool} {n v d:Nat} {dq:AV} (hn:n<=1000000) (hd:0<d/\d<1000000000) (hq:AV.tup [usA false (J.Zay n (v / d)),usA false [((v % d:Nat):Int)]]=dq):∀ (i k:Nat) (o:List Int),i+k=n->o.length=n->o.drop i=J.Zay k (v / 1000000000 ^ i / d)->Zb6 fa (J.Zay n v) o d ((v / 1000000000 ^ i % d:Nat):Int) ((i:Int)-1) (Zag dq)
 | 0,k,o,hi,hol,ho=>by
  have hk:k=n:=by omega
  subst hk
  rw [List.drop_zero] at ho
  simp only [Nat.pow_zero,Nat.div_one] at ho ⊢
  have hm:=Nat.mod_lt v hd.1
  refine vByWordA _ _ _ _ _ _ _ ⟨fun h=>by omega,fun _=>⟨by omega,?_⟩⟩
  rw [ho,<- hq]
  refine .tup _ _ rfl fun i x y hx hy => ?_
  match i with
  | 0=>simp at hx hy;subst hx;subst hy;exact .refl _
  | 1=>simp at hx hy;subst hx;subst hy;exact Zbv _ _ _
  | i+2=>simp at hx
 | i+1,k,o,hi,hol,ho=>by
  have gx:=ZaA v (show i<n by omega)
  have e1:(((i+1:Nat):Int)-1)=(i:Nat):=by omega
  have hs:=Za4 v i
  have hx:v / 1000000000 ^ i % 1000000000<1000000000:=Nat.mod_lt _ (by omega)
  obtain ⟨b1,b2,b3⟩:=ZcW (v / 1000000000 ^ (i+1)) (v / 1000000000 ^ i % 1000000000) d hx hd.1
  have hs':v / 1000000000 ^ i % 1000000000+1000000000*(v / 1000000000 ^ (i+1))=v / 1000000000 ^ i:=by omega
  rw [hs'] at b1 b2
  have hr:=Nat.mod_lt (v / 1000000000 ^ (i+1)) hd.1
  rw [e1]
  refine vByWordA _ _ _ _ _ _ _ ⟨fun _ => ?_,fun h=>by omega⟩
  rw [Int.toNat_natCast,gx,Zan]
  have c1:((v / 1000000000 ^ (i+1) % d:Nat):Int)*1000000000+((v / 1000000000 ^ i % 1000000000:Nat):Int)=((v / 1000000000 ^ (i+1) % d*1000000000+v / 1000000000 ^ i % 1000000000:Nat):Int):=by omega
  obtain ⟨q0,hq0⟩:∃ q0,q0=(v / 1000000000 ^ (i+1) % d*1000000000+v / 1000000000 ^ i % 1000000000) / d:=⟨_,rfl⟩
  have c2:(((v / 1000000000 ^ (i+1) % d*1000000000+v / 1000000000 ^ i % 1000000000:Nat):Int)).tdiv d=(q0:Nat):=by rw [hq0];exact (Int.ofNat_tdiv _ _).symm
  have c3:(((v / 1000000000 ^ (i+1) % d*1000000000+v / 1000000000 ^ i % 1000000000:Nat):Int)).tmod d=((v / 1000000000 ^ i % d:Nat):Int):=by rw [b2];exact (Int.ofNat_tmod _ _).symm
  rw [<- hq0] at b1 b3
  rw [c1,c2,c3]
  have main:Zb6 fa (J.Zay n v) (o.set i (q0:Nat)) d ((v / 1000000000 ^ i % d:Nat):Int) ((i:Int)-1) (Zag dq):=by
   refine Zic hn hd hq i (k+1) _ (by omega) (by simpa using hol) ?_
   rw [ZcF (by omega),ho,ZaF,b1]
   generalize v / 1000000000 ^ (i+1) / d=z
   have e2:(1000000000*z+q0) % 1000000000=q0:=by omega
   have e3:(1000000000*z+q0) / 1000000000=z:=by omega
   rw [e2,e3]
  have hx':((v / 1000000000 ^ i % 1000000000:Nat):Int)<1000000000:=by omega
  have hr':((v / 1000000000 ^ (i+1) % d:Nat):Int)<d:=by exact_mod_cast hr
  refine ⟨by omega,by omega,?_,by omega,?_,by omega,by omega,by omega,by omega,by omega,by omega,main⟩
  ·generalize v / 1000000000 ^ (i+1) % d=R at hr'
   omega
  ·generalize v / 1000000000 ^ (i+1) % d=R at hr'
   omega
theorem byWordN (fa:Bool) (n v d:Nat) (h:J.ZaB n/\J.fits n v/\0<d/\d<1000000000):Ev M1 (.pure 180 [usA fa (J.Zay n v),.int .u32 d]) (.tup [usA false (J.Zay n (v / d)),usA false [((v % d:Nat):Int)]]) []:=by
 obtain ⟨h1,h2,h3,h4⟩:=h
 have h1':n<=1000000:=h1
 refine call180 (vByWord _ _ _ _ ?_)
 rw [Zan,Int.toNat_natCast]
 refine ⟨by omega,by omega,by omega,by omega,?_⟩
 have e0:=ZaL h2 (Nat.le_refl n)
 have:=Zic (fa:=fa) (v:=v) (dq:=.tup [usA false (J.Zay n (v / d)),usA false [((v % d:Nat):Int)]]) h1' ⟨h3,h4⟩ rfl n 0 (List.replicate n 0) (by omega) (by simp) (by simp [J.Zay])
 rw [e0,Nat.zero_mod] at this
 exact this
end Go.Av

namespace Go.Av
open Go.Proofs
namespace J
def zs (n:Nat):List Int:=List.replicate n 0
end J
theorem Zfe:∀ (n k v:Nat),J.fits n v->J.Zay (n+k) v=J.Zay n v++J.zs k
 | n,0,v,_=>by simp [J.zs]
 | n,k+1,v,h=>by
  rw [<- Nat.add_assoc,Zd5,Zfe n k v h,List.append_assoc]
  congr 1
  have e:v / 1000000000 ^ (n+k)=0:=ZaL h (by omega)
  rw [e]
  unfold J.zs
  rw [<- List.replicate_append_replicate (n:=k) (m:=1)];rfl
theorem Zh9 {fb fx fy:Bool} {b x:List Int} {m w xd n i K:Nat} {Q0:List Int} {Q:AV->Heap->Prop} (hm:m<=1000000) (hi:i<=1000000) (hK:K<=1000000) (hb:b.length=m) (hx:xd<1000000000) (hw:J.fits m w)
  (hq:∀ o:List Int,o=Q0++J.zs K->ZcJ fb fx b x o n ((i:Int)+1) Q) :
  ∀ (r j:Nat) (o:List Int) (U c:Nat),j+r=m->o.length=i+m+1+K->c<1000000000->J.fits r U->o.drop (i+j)=J.Zay r U++J.zs (K+1)->o.take (i+j)++J.Zay (r+1) (U+xd*(w / 1000000000 ^ j)+c)=Q0 ->
   ZcI fb fx fy b x (J.Zay m w) o i xd c n i m j Q
 | 0,j,o,U,c,hj,hol,hc,hU,ho,hQ=>by
  have hU0:=Zbl.1 hU
  have hj':j=m:=by omega
  subst hj'
  rw [ZaL hw (Nat.le_refl _),hU0,Nat.mul_zero] at hQ
  have e:J.Zay 1 (0+0+c)=[(c:Int)]:=by simp [J.Zay];omega
  rw [Nat.zero_add,e] at hQ
  rw [hU0,J.Zay,List.nil_append] at ho
  refine vTimesB _ _ _ _ _ _ _ _ _ _ _ _ _ _ _ ⟨fun h=>by omega,fun _ => ?_⟩
  rw [hb]
  have e1:((i:Int)+(j:Int)).toNat=i+j:=by omega
  rw [e1]
  refine ⟨by omega,by omega,by omega,by omega,by omega,hq _ ?_⟩
  have ho2:o.drop (i+j+1)=J.zs K:=by
   rw [show i+j+1=1+(i+j) by omega,Nat.add_comm 1,<- List.drop_drop,ho];rfl
  rw [<- hQ,<- ho2]
  rw [List.set_eq_take_append_cons_drop,if_pos (by omega),List.append_assoc];rfl
 | r+1,j,o,U,c,hj,hol,hc,hU,ho,hQ=>by
  have gy:=ZaA w (show j<m by omega)
  have e1:((i:Int)+(j:Int)).toNat=i+j:=by omega
  have hod:=Zcs (d:=o) (i:=i+j) (by omega)
  rw [ho,ZaF,List.cons_append] at hod
  obtain ⟨g1,g2⟩:=List.cons.inj hod
  have hu:U % 1000000000<1000000000:=Nat.mod_lt _ (by omega)
  have hy:w / 1000000000 ^ j % 1000000000<1000000000:=Nat.mod_lt _ (by omega)
  obtain ⟨w1,w2⟩:=ZhR hu hx hy hc
  rw [ZhS,Za9] at hQ
  refine vTimesB _ _ _ _ _ _ _ _ _ _ _ _ _ _ _ ⟨fun _ => ?_,fun h=>by omega⟩
  rw [Int.toNat_natCast,e1,gy,Zan,<- g1]
  have c1:((xd:Nat):Int)*((w / 1000000000 ^ j % 1000000000:Nat):Int)=((xd*(w / 1000000000 ^ j % 1000000000):Nat):Int):=(Int.natCast_mul _ _).symm
  rw [c1]
  have main:∀ d c':Int,d=(((U % 1000000000+xd*(w / 1000000000 ^ j % 1000000000)+c) % 1000000000:Nat):Int)->c'=(((U % 1000000000+xd*(w / 1000000000 ^ j % 1000000000)+c) / 1000000000:Nat):Int) ->
    ZcI fb fx fy b x (J.Zay m w) (o.set (i+j) d) i xd c' n i m ((j:Int)+1) Q:=by
   intro d c' hd hc'
   subst hc'
   refine Zh9 hm hi hK hb hx hw hq r (j+1) _ (U / 1000000000) _ (by omega) (by simpa using hol) w2 (Zb5.1 hU) ?_ ?_
   ·rw [show i+(j+1)=i+j+1 by omega,List.drop_set_of_lt (by omega),<- g2]
   ·rw [show i+(j+1)=i+j+1 by omega,Za5 (by omega),<- hQ,hd,List.append_assoc];rfl
  generalize xd*(w / 1000000000 ^ j % 1000000000)=p at w1 w2 main
  have hu':((U % 1000000000:Nat):Int)<1000000000:=by omega
  generalize U % 1000000000=u at w1 w2 main hu'
  have c2:((u:Nat):Int)+((p:Nat):Int)+((c:Nat):Int)=((u+p+c:Nat):Int):=by omega
  have c3:(((u+p+c:Nat):Int)).tdiv 1000000000=(((u+p+c) / 1000000000:Nat):Int):=by
   rw [Int.tdiv_eq_ediv_of_nonneg (by omega)];omega
  have c4:(((u+p+c:Nat):Int)).tmod 1000000000=(((u+p+c) % 1000000000:Nat):Int):=by
   rw [Int.tmod_eq_emod_of_nonneg (by omega)];omega
  rw [c2,c3,c4]
  exact ⟨by omega,by omega,by omega,by omega,by omega,by omega,by omega,by omega,by omega,by omega,by omega,by omega,by omega,by omega,main _ _ rfl rfl⟩
theorem Zia {fb fx:Bool} {n m v w:Nat} {R:List Int} {Q:AV->Heap->Prop} (hn:n<=1000000) (hm:m<=1000000) (hv:J.fits n v) (hw:J.fits m w) (hq:Q (.row 0 0) [⟨R.map (.int .u32),1,0,false,true⟩]) :
  ∀ (k i:Nat) (o:List Int) (U:Nat),i+k=n->o.length=n+m->J.fits m U->o.drop i=J.Zay m U++J.zs k->o.take i++J.Zay (m+k) (U+v / 1000000000 ^ i*w)=R->ZcJ fb fx (J.Zay m w) (J.Zay n v) o n i Q
 | 0,i,o,U,hi,hol,hU,ho,hR=>by
  have hi':i=n:=by omega
  subst hi'
  rw [ZaL hv (Nat.le_refl _),Nat.zero_mul,Nat.add_zero,Nat.add_zero] at hR
  have e:J.Zay m U++J.zs 0=J.Zay m U:=by simp [J.zs]
  rw [e] at ho
  rw [<- ho,List.take_append_drop] at hR
  exact vTimesA _ _ _ _ _ _ _ _ ⟨fun h=>by omega,fun _=>by rw [hR];exact hq⟩
 | k+1,i,o,U,hi,hol,hU,ho,hR=>by
  have gx:=ZaA v (show i<n by omega)
  have hx:v / 1000000000 ^ i % 1000000000<1000000000:=Nat.mod_lt _ (by omega)
  refine vTimesA _ _ _ _ _ _ _ _ ⟨fun _ => ?_,fun h=>by omega⟩
  rw [Int.toNat_natCast,gx,Zan,Zan]
  refine ⟨by omega,by omega,?_⟩
  have hf:J.fits (m+1) (U+v / 1000000000 ^ i % 1000000000*w):=fits_mul rfl hU hw hx
  have hP:1000000000 ^ m=1000000000 ^ m:=rfl
  have step:U+v / 1000000000 ^ i*w=U+v / 1000000000 ^ i % 1000000000*w+1000000000*(v / 1000000000 ^ (i+1)*w):=by
   have hs:=Za4 v i
   generalize v / 1000000000 ^ (i+1)=V' at hs ⊢
   generalize v / 1000000000 ^ i % 1000000000=d at hs ⊢
   rw [hs];grind
  refine Zh9 (Q0:=o.take i++J.Zay (m+1) (U+v / 1000000000 ^ i % 1000000000*w)) (K:=k) hm (by omega) (by omega) (Zan _ _) hx hw (fun o' ho' => ?_) m 0 o U 0 (by omega) (by omega) (by omega) hU ho (by simp)
  have hlen:(o.take i).length=i:=by rw [List.length_take];omega
  refine Zia hn hm hv hw hq k (i+1) o' ((U+v / 1000000000 ^ i % 1000000000*w) / 1000000000) (by omega) ?_ (Zb5.1 hf) ?_ ?_
  ·rw [ho']
   simp only [List.length_append,hlen,Zan,J.zs,List.length_replicate]
   omega
  ·rw [ho',ZaF]
   have e1:i+1=(o.take i++[(((U+v / 1000000000 ^ i % 1000000000*w) % 1000000000:Nat):Int)]).length:=by simp [hlen]
   rw [e1]
   have e2:o.take i++((((U+v / 1000000000 ^ i % 1000000000*w) % 1000000000:Nat):Int)::J.Zay m ((U+v / 1000000000 ^ i % 1000000000*w) / 1000000000))++J.zs k
     = (o.take i++[(((U+v / 1000000000 ^ i % 1000000000*w) % 1000000000:Nat):Int)])++(J.Zay m ((U+v / 1000000000 ^ i % 1000000000*w) / 1000000000)++J.zs k):=by simp
   rw [e2,List.drop_left]
  ·rw [<- hR,ho',ZaF,show m+(k+1)=(m+k)+1 by omega,ZaF (m+k)]
   have e1:i+1=(o.take i++[(((U+v / 1000000000 ^ i % 1000000000*w) % 1000000000:Nat):Int)]).length:=by simp [hlen]
   have e2:o.take i++((((U+v / 1000000000 ^ i % 1000000000*w) % 1000000000:Nat):Int)::J.Zay m ((U+v / 1000000000 ^ i % 1000000000*w) / 1000000000))++J.zs k
     = (o.take i++[(((U+v / 1000000000 ^ i % 1000000000*w) % 1000000000:Nat):Int)])++(J.Zay m ((U+v / 1000000000 ^ i % 1000000000*w) / 1000000000)++J.zs k):=by simp
   rw [e2,e1,List.take_left,List.append_assoc]
   have e3:(U+v / 1000000000 ^ i*w) % 1000000000=(U+v / 1000000000 ^ i % 1000000000*w) % 1000000000:=by rw [step];omega
   have e4:(U+v / 1000000000 ^ i*w) / 1000000000=(U+v / 1000000000 ^ i % 1000000000*w) / 1000000000+v / 1000000000 ^ (i+1)*w:=by rw [step];omega
   rw [e3,e4,<- e1];rfl
theorem timesQ {Q:AV->Heap->Prop} (fa fb:Bool) (n v m w:Nat) (h:J.ZaB n/\J.ZaB m/\J.fits n v/\J.fits m w) (hq:Q (.row 0 0) [⟨(J.Zay (n+m) (v*w)).map (.int .u32),1,0,false,true⟩]):Zgm fa fb (J.Zay n v) (J.Zay m w) Q:=by
 obtain ⟨h1,h2,h3,h4⟩:=h
 have h1':n<=1000000:=h1
 have h2':m<=1000000:=h2
 refine vTimes _ _ _ _ _ ?_
 rw [Zan,Zan]
 have e:((n:Int)+(m:Int)).toNat=n+m:=by omega
 rw [e]
 refine ⟨by omega,by omega,by omega,by omega,?_⟩
 have:=Zia (fb:=fb) (fx:=fa) (R:=J.Zay (n+m) (v*w)) (Q:=Q) h1' h2' h3 h4 hq n 0 (List.replicate (n+m) 0) 0 (by omega) (by simp) (Zaz.2 (by rw [Zbq];omega)) (by
  rw [List.drop_zero,Zg0];unfold J.zs;rw [List.replicate_append_replicate,Nat.add_comm]) (by simp [Nat.add_comm])
 exact this
theorem timesN (fa fb:Bool) (n v m w:Nat) (h:J.ZaB n/\J.ZaB m/\J.fits n v/\J.fits m w):Ev M1 (.pure 164 [usA fa (J.Zay n v),usA fb (J.Zay m w)]) (usA false (J.Zay (n+m) (v*w))) []:=
 call164 (timesQ fa fb n v m w h ⟨_,rfl,⟨rfl,trivial⟩,rfl,.refl _⟩)
theorem evf164 (fa fb:Bool) (v:Nat) (s:Int) (h:J.ZaB (J.cnt v)/\0<=s/\s<1000000000):Ev M1 (.own 164 [usA fa (J.lim v),.vec fb 1 [.int .u32 s]] []) (.row 0 0) [⟨(J.Zay (J.cnt v+1) (v*s.toNat)).map (.int .u32),1,0,false,true⟩]:=by
 have e:[AV.int .u32 s]=(J.Zay 1 s.toNat).map (.int .u32):=by
  simp only [J.Zay,List.map_cons,List.map_nil]
  have:((s.toNat % 1000000000:Nat):Int)=s:=by omega
  rw [this]
 rw [e]
 exact owncall164 (timesQ fa fb _ v 1 s.toNat ⟨h.1,by unfold J.ZaB;omega,Zai _,by unfold J.fits;omega⟩ ⟨rfl,rfl⟩)
theorem ev164 (fa fb:Bool) (v w:Int) (h:J.ok v/\J.ok w):Ev M1 (.pure 164 [usA fa (J.Zab v),usA fb (J.Zab w)]) (usA false (J.Zay (J.cnt v.natAbs+J.cnt w.natAbs) (v.natAbs*w.natAbs))) []:=timesN fa fb _ _ _ _ ⟨h.1,h.2,Zai _,Zai _⟩
theorem ZcV {n m v w:Nat} (hv:J.fits n v) (hw:J.fits m w):J.fits (n+m) (v*w):=by
 unfold J.fits at *
 rw [Nat.pow_add]
 exact Nat.mul_lt_mul'' hv hw
theorem Zc4 {n v w:Nat} (hv:J.fits n v) (hw:J.fits n w):J.fits (n+1) (v+w):=by
 unfold J.fits at *
 rw [Nat.pow_succ];omega
end Go.Av

namespace Go.Av
open Go.Proofs
set_option maxRecDepth 100000
def fi104:Fi:=⟨10,[.cell 2 24]⟩
def kp104:List (Nat × List Nat):=[(0,[1,2]),(1,[2])]
def fi113:Fi:=⟨15,[.cell 2 24]⟩
def kp113:List (Nat × List Nat):=[(0,[0,2]),(1,[0,2,3]),(2,[0,2,3,7]),(3,[0,2,3]),(4,[2])]
def fi135:Fi:=⟨16,[.cell 4 24]⟩
def kp135:List (Nat × List Nat):=[(0,[2,3,4]),(1,[4])]
def fi149:Fi:=⟨24,[.tmp 4]⟩
def kp149:List (Nat × List Nat):=[(0,[2,3]),(1,[2,3,9]),(2,[11]),(3,[4]),(4,[4]),(5,[2,3,13]),(6,[4]),(7,[4])]
def fi152:Fi:=⟨34,[.cell 4 24]⟩
def kp152:List (Nat × List Nat):=[(0,[2,3,4]),(1,[2,3,4,9]),(2,[4]),(3,[2,3,4,23]),(4,[2,3,4]),(5,[4])]
def fi175:Fi:=⟨30,[.tmp 2,.tmp 3]⟩
def kp175:List (Nat × List Nat):=[(0,[1]),(1,[1,6]),(2,[1,6,7]),(3,[2,3]),(4,[1,6,9]),(5,[2,3]),(6,[1,16]),(7,[2,3]),(8,[2,3])]
def fi183:Fi:=⟨18,[.cell 4 24]⟩
def kp183:List (Nat × List Nat):=[(0,[2,3,4]),(1,[2,3,4]),(2,[4])]
def vWord_at (fa s:Bool) (a:List Int) (Q:AV->Heap->Prop):Prop:=Wp M1 (.run fi175 (atC (cd Tryz.f175) []) [(0,.agg [.bool s,.vec fa 1 (a.map (.int .u32))])] []) Q
def ZeV (n:Int) (Q:AV->Heap->Prop):Prop:=Wp M1 (.run fi113 (atC (cd Tryz.f113) []) [(0,.int .i64 n)] []) Q
def vSub_at (fa fb:Bool) (a b:Int) (Q:AV->Heap->Prop):Prop:=Wp M1 (.run fi183 (atC (cd Tryz.f183) []) [(0,bigA fa a),(1,bigA fb b)] []) Q
def vAdd_at (fa fb:Bool) (a b:Int) (Q:AV->Heap->Prop):Prop:=Wp M1 (.run fi152 (atC (cd Tryz.f152) []) [(0,bigA fa a),(1,bigA fb b)] []) Q
def vMul_at (fa fb:Bool) (a b:Int) (Q:AV->Heap->Prop):Prop:=Wp M1 (.run fi135 (atC (cd Tryz.f135) []) [(0,bigA fa a),(1,bigA fb b)] []) Q
def vNeg0_at (fa:Bool) (Q:AV->Heap->Prop):Prop:=Wp M1 (.run fi104 (atC (cd Tryz.f104) []) [(0,.agg [.bool false,.vec fa 1 []])] []) Q
def vNeg_at (s fa:Bool) (x:Int) (a:List Int) (Q:AV->Heap->Prop):Prop:=Wp M1 (.run fi104 (atC (cd Tryz.f104) []) [(0,.agg [.bool s,.vec fa 1 ((x::a).map (.int .u32))])] []) Q
def vCmp_at (fa fb:Bool) (a b:Int) (Q:AV->Heap->Prop):Prop:=Wp M1 (.run fi149 (atC (cd Tryz.f149) []) [(0,bigA fa a),(1,bigA fb b)] []) Q
theorem call104 {args:List AV} {d:AV} (h:wc M1 fi104 Tryz.f104 args d):Ev M1 (.pure 104 args) d []:=pcl _ _ (by kernel_rfl) h
theorem call113 {args:List AV} {d:AV} (h:wc M1 fi113 Tryz.f113 args d):Ev M1 (.pure 113 args) d []:=pcl _ _ (by kernel_rfl) h
theorem call135 {args:List AV} {d:AV} (h:wc M1 fi135 Tryz.f135 args d):Ev M1 (.pure 135 args) d []:=pcl _ _ (by kernel_rfl) h
theorem call149 {args:List AV} {d:AV} (h:wc M1 fi149 Tryz.f149 args d):Ev M1 (.pure 149 args) d []:=pcl _ _ (by kernel_rfl) h
theorem call152 {args:List AV} {d:AV} (h:wc M1 fi152 Tryz.f152 args d):Ev M1 (.pure 152 args) d []:=pcl _ _ (by kernel_rfl) h
theorem call175 {args:List AV} {d:AV} (h:wc M1 fi175 Tryz.f175 args d):Ev M1 (.pure 175 args) d []:=pcl _ _ (by kernel_rfl) h
theorem call183 {args:List AV} {d:AV} (h:wc M1 fi183 Tryz.f183 args d):Ev M1 (.pure 183 args) d []:=pcl _ _ (by kernel_rfl) h
theorem vWord (fa s:Bool) (a:List Int)  (dq:AV) (H :
  (((↑a.length:Int)=0)->tu [vw 0,vb true]=dq) /\
  (¬((↑a.length:Int)=0)->(((↑a.length:Int)=1)->(0<a.length) /\
    (0<=a.getD 0 default/\a.getD 0 default<=18446744073709551615) /\
    tu [vw (a.getD 0 default),vb true]=dq) /\
   (¬((↑a.length:Int)=1)->(((↑a.length:Int)=2)->(1<a.length) /\
     (0<a.length) /\
     (0<=a.getD 1 default/\a.getD 1 default<=18446744073709551615) /\
     (0<=a.getD 1 default*1000000000/\a.getD 1 default*1000000000<=18446744073709551615) /\
     (0<=a.getD 0 default/\a.getD 0 default<=18446744073709551615) /\
     (0<=a.getD 1 default*1000000000+a.getD 0 default/\a.getD 1 default*1000000000+a.getD 0 default<=18446744073709551615) /\
     tu [vw (a.getD 1 default*1000000000+a.getD 0 default),vb true]=dq) /\
    (¬((↑a.length:Int)=2)->tu [vw 0,vb false]=dq)))) :
 vWord_at fa s a (Zag dq):=by
 unfold vWord_at
 have w1:(us a).length=a.length:=List.length_map ..
 have i2:((↑(us a).length:Int)==0)=true ↔ ((↑a.length:Int)=0):=(by (try rw [w1]);all_goals exact i_eq)
 rcases xq H with ⟨d3,H⟩|⟨d3,H⟩
 ·exact Zao (G:=Zad kp175 [] []) 1000 [true] (tu [vw 0,vb true]) (by kernel_rfl) (bc rfl (bc (Zaq (i2.2 d3)) b0)) q0 c0 H
 ·have i4:((↑(us a).length:Int)==1)=true ↔ ((↑a.length:Int)=1):=(by (try rw [w1]);all_goals exact i_eq)
  rcases xq H with ⟨d5,H⟩|⟨d5,H⟩
  ·have i6:(decide (0<(us a).length))=true ↔ (0<a.length):=(by (try rw [w1]);all_goals exact Zac)
   obtain ⟨k7,k8,H⟩:=H
   have w9:wu (a.getD 0 default)=a.getD 0 default:=wU64 k8
   exact Zao (G:=Zad kp175 [(5,3,.elem (vu (a.getD 0 default)))] []) 1000 [false,true] (eqs:=[((us a).get?Internal 0=some (vu (a.getD 0 default)))]) (tu [vw (wu (a.getD 0 default)),vb true]) (by kernel_rfl) (bc rfl (bc (Zam (fun h=>d3 (i2.1 h))) (bc (Zaq (i4.2 d5)) (bc rfl (bc rfl (bc (i6.2 k7) b0)))))) (qc (Zat k7) q0) c0 (by (try rw [w9]);all_goals exact H)
  ·have i10:((↑(us a).length:Int)==2)=true ↔ ((↑a.length:Int)=2):=(by (try rw [w1]);all_goals exact i_eq)
   rcases xq H with ⟨d11,H⟩|⟨d11,H⟩
   ·have i12:(decide (1<(us a).length))=true ↔ (1<a.length):=(by (try rw [w1]);all_goals exact Zac)
    obtain ⟨k13,H⟩:=H
    have i14:(decide (0<(us a).length))=true ↔ (0<a.length):=(by (try rw [w1]);all_goals exact Zac)
    obtain ⟨k15,k16,H⟩:=H
    have w17:wu (a.getD 1 default)=a.getD 1 default:=wU64 k16
    obtain ⟨k18,H⟩:=H
    have w19:wu (a.getD 1 default*1000000000)=a.getD 1 default*1000000000:=wU64 k18
    obtain ⟨k20,H⟩:=H
    have w21:wu (a.getD 0 default)=a.getD 0 default:=wU64 k20
    obtain ⟨k22,H⟩:=H
    have w23:wu (a.getD 1 default*1000000000+a.getD 0 default)=a.getD 1 default*1000000000+a.getD 0 default:=wU64 k22
    exact Zao (G:=Zad kp175 [(7,3,.elem (vu (a.getD 1 default))),(7,9,.elem (vu (a.getD 0 default)))] []) 1000 [false,false,true] (eqs:=[((us a).get?Internal 1=some (vu (a.getD 1 default))),((us a).get?Internal 0=some (vu (a.getD 0 default)))]) (tu [vw (wu (wu (wu (a.getD 1 default)*1000000000)+wu (a.getD 0 default))),vb true]) (by kernel_rfl) (bc rfl (bc (Zam (fun h=>d3 (i2.1 h))) (bc (Zam (fun h=>d5 (i4.1 h))) (bc (Zaq (i10.2 d11)) (bc rfl (bc rfl (bc (i12.2 k13) (bc rfl (bc rfl (bc (i14.2 k15) b0)))))))))) (qc (Zat k13) (qc (Zat k15) q0)) c0 (by (try rw [w17]);(try rw [w19]);(try rw [w21]);(try rw [w23]);all_goals exact H)
   ·exact Zao (G:=Zad kp175 [] []) 1000 [false,false,false] (tu [vw 0,vb false]) (by kernel_rfl) (bc rfl (bc (Zam (fun h=>d3 (i2.1 h))) (bc (Zam (fun h=>d5 (i4.1 h))) (bc (Zam (fun h=>d11 (i10.1 h))) b0)))) q0 c0 H
theorem vFromInt64 (n:Int)  (dq:AV) (H :
  ((n<0)->(0<=IntKind.u64.wrap (0-IntKind.u64.wrap n)/\IntKind.u64.wrap (0-IntKind.u64.wrap n)<=18446744073709551615) /\
   (J.ZaB 3/\J.fits 3 (IntKind.u64.wrap (0-IntKind.u64.wrap n)).toNat) /\
   Weak (bigA false (J.sg (decide (n<0)) (IntKind.u64.wrap (0-IntKind.u64.wrap n)).toNat)) dq) /\
  (¬(n<0)->(0<=IntKind.u64.wrap n/\IntKind.u64.wrap n<=18446744073709551615) /\
   (J.ZaB 3/\J.fits 3 (IntKind.u64.wrap n).toNat) /\
   Weak (bigA false (J.sg (decide (n<0)) (IntKind.u64.wrap n).toNat)) dq)) :
 ZeV n (Zag dq):=by
 unfold ZeV
 rcases xq H with ⟨d2,H⟩|⟨d2,H⟩
 ·obtain ⟨k3,k4,H⟩:=H
  exact Zah (G:=Zad kp113 [(4,3,.call (vf (us (J.Zay 3 (wu (0-wu n)).toNat))) none),(4,4,.call (bigA false (J.sg (decide (n<0)) (wu (0-wu n)).toNat)) none)] []) 1000 [true] (bigA false (J.sg (decide (n<0)) (wu (0-wu n)).toNat)) (by kernel_rfl) (bc (Zaq (Zac.2 d2)) (bc rfl b0)) q0 (ce (@ev151 (wu (0-wu n)) k3) (ce (@ZhE (decide (n<0)) false 3 ((wu (0-wu n)).toNat) k4) c0)) H
 ·obtain ⟨k5,k6,H⟩:=H
  exact Zah (G:=Zad kp113 [(4,3,.call (vf (us (J.Zay 3 (wu n).toNat))) none),(4,4,.call (bigA false (J.sg (decide (n<0)) (wu n).toNat)) none)] []) 1000 [false] (bigA false (J.sg (decide (n<0)) (wu n).toNat)) (by kernel_rfl) (bc (Zam (fun h=>d2 (Zac.1 h))) (bc rfl b0)) q0 (ce (@ev151 (wu n) k5) (ce (@ZhE (decide (n<0)) false 3 ((wu n).toNat) k6) c0)) H
theorem vSub (fa fb:Bool) (a b:Int)  (dq:AV) (H :
  ∃ (b1:Bool) (l1:List Int),
  (Ev M1 (Conf.pure 152 [bigA fa a,ag [vb (bif !J.Zaa b then decide ((↑(J.Zab b).length:Int)>0) else false),AV.vec fb 1 (us (J.Zab b))]]) (ag [vb b1,vf (us l1)]) []) /\
  Weak (ag [vb b1,vf (us l1)]) dq) :
 vSub_at fa fb a b (Zag dq):=by
 unfold vSub_at
 have w1:(us (J.Zab b)).length=(J.Zab b).length:=List.length_map ..
 obtain ⟨b1,l1,k2,H⟩:=H
 exact Zah (G:=Zad kp183 [(2,2,.call (ag [vb b1,vf (us l1)]) none)] []) 1000 [] (asm:=[true,!((!J.Zaa b)==true&&true)||true,true,true,true,true]) (calls:=[pc 152 [bigA fa a,ag [vb (bif !J.Zaa b then decide ((↑(us (J.Zab b)).length:Int)>0) else false),AV.vec fb 1 (us (J.Zab b))]] (ag [vb b1,vf (us l1)])]) (ag [vb b1,vf (us l1)]) (by kernel_rfl) (bc rfl (bc (Bool.or_true _) (bc rfl (bc rfl (bc rfl (bc rfl b0)))))) q0 (ce (by (try rw [w1]);all_goals exact k2) c0) H
theorem vAdd (fa fb:Bool) (a b:Int)  (dq:AV) (H :
  ((J.Zaa a=J.Zaa b)->(J.ok a/\J.ok b) /\
   (J.ZaB (max (J.cnt a.natAbs) (J.cnt b.natAbs)+1)/\J.fits (max (J.cnt a.natAbs) (J.cnt b.natAbs)+1) (a.natAbs+b.natAbs)) /\
   Weak (bigA false (J.sg (J.Zaa a) (a.natAbs+b.natAbs))) dq) /\
  (¬(J.Zaa a=J.Zaa b)->(J.ok a/\J.ok b) /\
   ((J.sgnI ((↑a.natAbs:Int)-(↑b.natAbs:Int))<0)->(J.ok b/\J.ok a/\a.natAbs<=b.natAbs) /\
    (J.ZaB (J.cnt b.natAbs)/\J.fits (J.cnt b.natAbs) (b.natAbs-a.natAbs)) /\
    Weak (bigA false (J.sg (J.Zaa b) (b.natAbs-a.natAbs))) dq) /\
   (¬(J.sgnI ((↑a.natAbs:Int)-(↑b.natAbs:Int))<0)->(J.ok a/\J.ok b/\b.natAbs<=a.natAbs) /\
    (J.ZaB (J.cnt a.natAbs)/\J.fits (J.cnt a.natAbs) (a.natAbs-b.natAbs)) /\
    Weak (bigA false (J.sg (J.Zaa a) (a.natAbs-b.natAbs))) dq))) :
 vAdd_at fa fb a b (Zag dq):=by
 unfold vAdd_at
 rcases xq H with ⟨d2,H⟩|⟨d2,H⟩
 ·obtain ⟨k3,k4,H⟩:=H
  exact Zah (G:=Zad kp152 [(2,6,.call (vf (us (J.Zay (max (J.cnt a.natAbs) (J.cnt b.natAbs)+1) (a.natAbs+b.natAbs)))) none),(2,7,.call (bigA false (J.sg (J.Zaa a) (a.natAbs+b.natAbs))) none)] []) 1000 [true] (bigA false (J.sg (J.Zaa a) (a.natAbs+b.natAbs))) (by kernel_rfl) (bc rfl (bc rfl (bc (Zaq (i_eq.2 d2)) (bc rfl (bc rfl (bc rfl (bc rfl b0))))))) q0 (ce (@ev170 fa fb a b k3) (ce (@ZhE (J.Zaa a) false (max (J.cnt a.natAbs) (J.cnt b.natAbs)+1) (a.natAbs+b.natAbs) k4) c0)) H
 ·obtain ⟨k5,H⟩:=H
  refine Zae (G:=Zad kp152 [(3,4,.call (vi (J.sgnI ((↑a.natAbs:Int)-(↑b.natAbs:Int)))) none)] []) 10 [false] ⟨(atC (cd Tryz.f152) [1,1,0,1]),[(2,AV.ptr 0 0 0 0),(3,AV.ptr 1 0 0 0),(4,AV.ptr 2 0 0 0),(23,vb (decide (J.sgnI ((↑a.natAbs:Int)-(↑b.natAbs:Int))<0)))],[⟨[bigA fa a],2,0,false,false⟩,⟨[bigA fb b],2,0,false,false⟩,⟨[ag [vb false,AV.vnil]],2,0,false,false⟩],_,[],_⟩ (by kernel_rfl) (bc rfl (bc rfl (bc (Zam (fun h=>d2 (i_eq.1 h))) (bc rfl (bc rfl b0))))) q0 (ce (@ev169 fa fb a b k5) c0) ?_
  rcases xq H with ⟨d7,H⟩|⟨d7,H⟩
  ·obtain ⟨k8,k9,H⟩:=H
   exact Zah (G:=Zad kp152 [(5,6,.call (vf (us (J.Zay (J.cnt b.natAbs) (b.natAbs-a.natAbs)))) none),(5,7,.call (bigA false (J.sg (J.Zaa b) (b.natAbs-a.natAbs))) none)] []) 1000 [true] (bigA false (J.sg (J.Zaa b) (b.natAbs-a.natAbs))) (by kernel_rfl) (bc (Zaq (Zac.2 d7)) (bc rfl (bc rfl (bc rfl (bc rfl (bc rfl (bc rfl (bc rfl (bc rfl b0))))))))) q0 (ce (@ev171 fb fa b a k8) (ce (@ZhE (J.Zaa b) false (J.cnt b.natAbs) (b.natAbs-a.natAbs) k9) c0)) H
  ·obtain ⟨k10,k11,H⟩:=H
   exact Zah (G:=Zad kp152 [(5,6,.call (vf (us (J.Zay (J.cnt a.natAbs) (a.natAbs-b.natAbs)))) none),(5,7,.call (bigA false (J.sg (J.Zaa a) (a.natAbs-b.natAbs))) none)] []) 1000 [false] (bigA false (J.sg (J.Zaa a) (a.natAbs-b.natAbs))) (by kernel_rfl) (bc (Zam (fun h=>d7 (Zac.1 h))) (bc rfl (bc rfl (bc rfl (bc rfl b0))))) q0 (ce (@ev171 fa fb a b k10) (ce (@ZhE (J.Zaa a) false (J.cnt a.natAbs) (a.natAbs-b.natAbs) k11) c0)) H
theorem vMul (fa fb:Bool) (a b:Int)  (dq:AV) (H :
  (J.ok a/\J.ok b) /\
  (J.ZaB (J.cnt a.natAbs+J.cnt b.natAbs)/\J.fits (J.cnt a.natAbs+J.cnt b.natAbs) (a.natAbs*b.natAbs)) /\
  Weak (bigA false (J.sg (!J.Zaa a==J.Zaa b) (a.natAbs*b.natAbs))) dq) :
 vMul_at fa fb a b (Zag dq):=by
 unfold vMul_at
 obtain ⟨k1,k2,H⟩:=H
 exact Zah (G:=Zad kp135 [(1,9,.call (vf (us (J.Zay (J.cnt a.natAbs+J.cnt b.natAbs) (a.natAbs*b.natAbs)))) none),(1,10,.call (bigA false (J.sg (!J.Zaa a==J.Zaa b) (a.natAbs*b.natAbs))) none)] []) 1000 [] (bigA false (J.sg (!J.Zaa a==J.Zaa b) (a.natAbs*b.natAbs))) (by kernel_rfl) (bc rfl (bc rfl (bc rfl (bc rfl (bc rfl b0))))) q0 (ce (@ev164 fa fb a b k1) (ce (@ZhE (!J.Zaa a==J.Zaa b) false (J.cnt a.natAbs+J.cnt b.natAbs) (a.natAbs*b.natAbs) k2) c0)) H
theorem vNeg0 (fa:Bool)  (dq:AV) (H :
  ∃ (b2:Bool) (l2:List Int),
  (Ev M1 (Conf.pure 140 [vb true,AV.vnil]) (ag [vb b2,vf (us l2)]) []) /\
  Weak (ag [vb b2,vf (us l2)]) dq) :
 vNeg0_at fa (Zag dq):=by
 unfold vNeg0_at
 obtain ⟨b2,l2,k2,H⟩:=H
 exact Zah (G:=Zad kp104 [(1,6,.call (ag [vb b2,vf (us l2)]) none)] [(1,[3007,902006,4005,2004,2001])]) 1000 [] (ag [vb b2,vf (us l2)]) (by kernel_rfl) (bc rfl (bc rfl (bc rfl b0))) q0 (ce k2 c0) H
theorem vNeg (s fa:Bool) (x:Int) (a:List Int)  (dq:AV) (H :
  ∃ (b2:Bool) (l2:List Int),
  (Ev M1 (Conf.pure 140 [vb !s,vf (vu x::us a)]) (ag [vb b2,vf (us l2)]) []) /\
  ((a.length+1)*4<=1099511627776) /\
  Weak (ag [vb b2,vf (us l2)]) dq) :
 vNeg_at s fa x a (Zag dq):=by
 unfold vNeg_at
 obtain ⟨b2,l2,k2,H⟩:=H
 have w3:(us a).length=a.length:=List.length_map ..
 have i4:(decide (((us a).length+1)*4<=1099511627776))=true ↔ ((a.length+1)*4<=1099511627776):=(by (try rw [w3]);all_goals exact Zac)
 obtain ⟨k5,H⟩:=H
 exact Zah (G:=Zad kp104 [(1,6,.call (ag [vb b2,vf (us l2)]) none)] [(1,[3007,6,4005,2004,2001])]) 1000 [] (ag [vb b2,vf (us l2)]) (by kernel_rfl) (bc rfl (bc rfl (bc (i4.2 k5) (bc rfl (bc rfl b0))))) q0 (ce k2 c0) H
theorem vCmp (fa fb:Bool) (a b:Int)  (dq:AV) (H :
  ((¬(J.Zaa a=J.Zaa b))->((J.Zaa a=true)->vi (-1)=dq) /\
   (¬(J.Zaa a=true)->vi 1=dq)) /\
  (¬(¬(J.Zaa a=J.Zaa b))->((J.Zaa a=true)->(J.ok b/\J.ok a) /\
    vi (J.sgnI ((↑b.natAbs:Int)-(↑a.natAbs:Int)))=dq) /\
   (¬(J.Zaa a=true)->(J.ok a/\J.ok b) /\
    vi (J.sgnI ((↑a.natAbs:Int)-(↑b.natAbs:Int)))=dq))) :
 vCmp_at fa fb a b (Zag dq):=by
 unfold vCmp_at
 rcases xq H with ⟨d2,H⟩|⟨d2,H⟩
 ·rcases xq H with ⟨d4,H⟩|⟨d4,H⟩
  ·exact Zao (G:=Zad kp149 [] []) 1000 [true,true] (asm:=[true,true,(!J.Zaa a==J.Zaa b)==true,0==0,(J.Zaa a)==true]) (vi (-1)) (by kernel_rfl) (bc rfl (bc rfl (bc (Zaq ((ZaH i_eq).2 d2)) (bc (beq_self_eq_true _) (bc (Zaq ((Zas _).2 d4)) b0))))) q0 c0 H
  ·exact Zao (G:=Zad kp149 [] []) 1000 [true,false] (asm:=[true,true,(!J.Zaa a==J.Zaa b)==true,0==0,(J.Zaa a)==false]) (vi 1) (by kernel_rfl) (bc rfl (bc rfl (bc (Zaq ((ZaH i_eq).2 d2)) (bc (beq_self_eq_true _) (bc (Zam (fun h=>d4 ((Zas _).1 h))) b0))))) q0 c0 H
 ·rcases xq H with ⟨d6,H⟩|⟨d6,H⟩
  ·obtain ⟨k7,H⟩:=H
   exact Zao (G:=Zad kp149 [(6,4,.call (vi (J.sgnI ((↑b.natAbs:Int)-(↑a.natAbs:Int)))) none)] []) 1000 [false,true] (asm:=[true,true,(!J.Zaa a==J.Zaa b)==false,0==0,(J.Zaa a)==true,true,true]) (vi (J.sgnI ((↑b.natAbs:Int)-(↑a.natAbs:Int)))) (by kernel_rfl) (bc rfl (bc rfl (bc (Zam (fun h=>d2 ((ZaH i_eq).1 h))) (bc (beq_self_eq_true _) (bc (Zaq ((Zas _).2 d6)) (bc rfl (bc rfl b0))))))) q0 (ce (@ev169 fb fa b a k7) c0) H
  ·obtain ⟨k8,H⟩:=H
   exact Zao (G:=Zad kp149 [(7,4,.call (vi (J.sgnI ((↑a.natAbs:Int)-(↑b.natAbs:Int)))) none)] []) 1000 [false,false] (asm:=[true,true,(!J.Zaa a==J.Zaa b)==false,0==0,(J.Zaa a)==false,true,true]) (vi (J.sgnI ((↑a.natAbs:Int)-(↑b.natAbs:Int)))) (by kernel_rfl) (bc rfl (bc rfl (bc (Zam (fun h=>d2 ((ZaH i_eq).1 h))) (bc (beq_self_eq_true _) (bc (Zam (fun h=>d6 ((Zas _).1 h))) (bc rfl (bc rfl b0))))))) q0 (ce (@ev169 fa fb a b k8) c0) H
end Go.Av

namespace Go.Av
open Go.Proofs
namespace J
def okB (v:Int):Prop:=cnt v.natAbs<=400000
end J
theorem Zcz {v:Int} (h:J.okB v):J.ok v:=by unfold J.okB at h;unfold J.ok;omega
theorem Zdb (b:Bool):Weak (.agg [.bool b,.vnil]) (.agg [.bool b,.vec false 1 []]):=by
 refine .agg _ _ rfl fun i x y hx hy => ?_
 match i with
 | 0=>simp at hx hy;subst hx;subst hy;exact .refl _
 | 1=>simp at hx hy;subst hx;subst hy;exact .vnil 1
 | i+2=>simp at hx
theorem limI_neg (v:Int):J.Zab (-v)=J.Zab v:=by unfold J.Zab;rw [Int.natAbs_neg]
theorem sg_add {a b:Int} (h:J.Zaa a=J.Zaa b):J.sg (J.Zaa a) (a.natAbs+b.natAbs)=a+b:=by
 unfold J.sg
 by_cases k:a<0
 ·have kb:b<0:=Zak.1 (by rw [<- h];exact Zak.2 k)
  rw [if_pos (Zak.2 k)];omega
 ·have kb:¬b<0:=fun x=>k (Zak.1 (by rw [h];exact Zak.2 x))
  rw [if_neg (fun x=>k (Zak.1 x))];omega
theorem sg_sub {a b:Int} (h:¬J.Zaa a=J.Zaa b) (hl:b.natAbs<=a.natAbs):J.sg (J.Zaa a) (a.natAbs-b.natAbs)=a+b:=by
 unfold J.sg
 by_cases k:a<0
 ·have kb:¬b<0:=fun x=>h (by rw [Zak.2 k,Zak.2 x])
  rw [if_pos (Zak.2 k)];omega
 ·have kb:b<0:=by
   by_cases kb:b<0
   ·exact kb
   ·exact absurd (by rw [Bool.eq_false_iff.2 (fun x=>k (Zak.1 x)),Bool.eq_false_iff.2 (fun x=>kb (Zak.1 x))]) h
  rw [if_neg (fun x=>k (Zak.1 x))];omega
theorem sg_mul (a b:Int):J.sg (!(J.Zaa a==J.Zaa b)) (a.natAbs*b.natAbs)=a*b:=by
 unfold J.sg
 have hm:((a.natAbs*b.natAbs:Nat):Int)=(a.natAbs:Int)*(b.natAbs:Int):=Int.natCast_mul _ _
 rw [hm]
 by_cases ka:a<0
 ·have ea:(a.natAbs:Int) = -a:=by omega
  rw [Zak.2 ka,ea]
  by_cases kb:b<0
  ·have eb:(b.natAbs:Int) = -b:=by omega
   rw [Zak.2 kb,eb,if_neg (by simp),Int.neg_mul_neg]
  ·have eb:(b.natAbs:Int)=b:=by omega
   rw [Bool.eq_false_iff.2 (fun x=>kb (Zak.1 x)),eb,if_pos (by simp),Int.neg_mul,Int.neg_neg]
 ·have ea:(a.natAbs:Int)=a:=by omega
  rw [Bool.eq_false_iff.2 (fun x=>ka (Zak.1 x)),ea]
  by_cases kb:b<0
  ·have eb:(b.natAbs:Int) = -b:=by omega
   rw [Zak.2 kb,eb,if_pos (by simp),Int.mul_neg,Int.neg_neg]
  ·have eb:(b.natAbs:Int)=b:=by omega
   rw [Bool.eq_false_iff.2 (fun x=>kb (Zak.1 x)),eb,if_neg (by simp)]
theorem Zbn {n:Int}:J.sgnI n<0 ↔ n<0:=by
 unfold J.sgnI
 (repeat' split) <;> omega
theorem ev152 (fa fb:Bool) (a b:Int) (h:J.okB a/\J.okB b):Ev M1 (.pure 152 [bigA fa a,bigA fb b]) (bigA false (a+b)) []:=by
 obtain ⟨ha,hb⟩:=h
 have oa:=Zcz ha
 have ob:=Zcz hb
 unfold J.okB at ha hb
 refine call152 (vAdd _ _ _ _ _ ⟨fun h=>⟨⟨oa,ob⟩,⟨?_,?_⟩,?_⟩,fun h=>⟨⟨oa,ob⟩,fun k=>⟨⟨ob,oa,?_⟩,⟨ob,Zbs (Zai _) (by omega)⟩,?_⟩,fun k=>⟨⟨oa,ob,?_⟩,⟨oa,Zbs (Zai _) (by omega)⟩,?_⟩⟩⟩)
 ·unfold J.ZaB;omega
 ·exact Zc4 (ZaP (Zai _) (by omega)) (ZaP (Zai _) (by omega))
 ·rw [sg_add h];exact .refl _
 ·rw [Zbn] at k;omega
 ·rw [Zbn] at k
  rw [sg_sub (fun x=>h x.symm) (by omega),Int.add_comm];exact .refl _
 ·rw [Zbn] at k;omega
 ·rw [Zbn] at k
  rw [sg_sub h (by omega)];exact .refl _
theorem ZhF (fa fb:Bool) (a b:Int) (h:J.okB a/\J.okB b):Ev M1 (.pure 135 [bigA fa a,bigA fb b]) (bigA false (a*b)) []:=by
 obtain ⟨ha,hb⟩:=h
 have oa:=Zcz ha
 have ob:=Zcz hb
 unfold J.okB at ha hb
 refine call135 (vMul _ _ _ _ _ ⟨⟨oa,ob⟩,⟨?_,ZcV (Zai _) (Zai _)⟩,?_⟩)
 ·unfold J.ZaB;omega
 ·rw [sg_mul];exact .refl _
theorem ev149 (fa fb:Bool) (a b:Int) (h:J.okB a/\J.okB b):Ev M1 (.pure 149 [bigA fa a,bigA fb b]) (.int .i64 (J.sgnI (a-b))) []:=by
 have oa:=Zcz h.1
 have ob:=Zcz h.2
 refine call149 (vCmp _ _ _ _ _ ⟨fun k=>⟨fun ka => ?_,fun ka => ?_⟩,fun k=>⟨fun ka=>⟨⟨ob,oa⟩,?_⟩,fun ka=>⟨⟨oa,ob⟩,?_⟩⟩⟩)
 ·have kb:¬b<0:=fun x=>k (by rw [ka,Zak.2 x])
  rw [Zak] at ka
  congr 1;unfold J.sgnI;rw [if_pos (by omega)]
 ·have kb:b<0:=by
   by_cases kb:b<0
   ·exact kb
   ·exact absurd (by rw [Bool.eq_false_iff.2 ka,Bool.eq_false_iff.2 (fun x=>kb (Zak.1 x))]) k
  have ka:¬a<0:=fun x=>ka (Zak.2 x)
  congr 1;unfold J.sgnI;rw [if_neg (by omega),if_pos (by omega)]
 ·have k:=Classical.not_not.1 k
  have kb:=Zak.1 (k ▸ ka)
  rw [Zak] at ka
  congr 2;omega
 ·have k:=Classical.not_not.1 k
  have kb:¬b<0:=fun x=>ka (by rw [k];exact Zak.2 x)
  have ka:¬a<0:=fun x=>ka (Zak.2 x)
  congr 2;omega
theorem ev104 (fa:Bool) (v:Int) (h:J.okB v):Ev M1 (.pure 104 [bigA fa v]) (bigA false (-v)) []:=by
 have ov:=Zcz h
 by_cases h0:v=0
 ·subst h0
  have e1:J.Zaa 0=false:=rfl
  have e2:J.Zab 0=[]:=ZbR
  have e3:bigA fa 0 = .agg [.bool false,.vec fa 1 []]:=by
   show AV.agg [.bool (J.Zaa 0),.vec fa 1 ((J.Zab 0).map (.int .u32))]=_
   rw [e1,e2];rfl
  have e4:bigA false (-0) = .agg [.bool false,.vec false 1 []]:=by
   show AV.agg [.bool (J.Zaa (-0)),.vec false 1 ((J.Zab (-0)).map (.int .u32))]=_
   rw [Int.neg_zero,e1,e2];rfl
  rw [e3,e4]
  refine call104 (vNeg0 fa _ ⟨false,[],?_,.refl _⟩)
  exact call140 (vSigned0 true _ (vSigned0A true _ (Zdb false)))
 ·have hne:J.Zab v ≠ []:=by
   intro e
   have:=ZaX v
   rw [e] at this
   exact h0 (Int.natAbs_eq_zero.1 (ZaE.1 this.symm))
  obtain ⟨x,l,hl⟩:=List.exists_cons_of_ne_nil hne
  have es:=ev140_a (!J.Zaa v) false v ov
  have e5:J.sg (!J.Zaa v) v.natAbs = -v:=by
   unfold J.sg
   by_cases k:v<0
   ·rw [Zak.2 k,if_neg (by simp)];omega
   ·rw [Bool.eq_false_iff.2 (fun x=>k (Zak.1 x)),if_pos (by simp)];omega
  rw [e5] at es
  have hle:=ZaX v
  rw [hl] at hle
  simp only [List.length_cons] at hle
  unfold J.ok at ov
  have e6:bigA fa v = .agg [.bool (J.Zaa v),.vec fa 1 ((x::l).map (.int .u32))]:=by
   show AV.agg [.bool (J.Zaa v),.vec fa 1 ((J.Zab v).map (.int .u32))]=_
   rw [hl]
  rw [hl] at es
  rw [e6]
  exact call104 (vNeg _ _ _ _ _ ⟨_,_,es,by omega,.refl _⟩)
theorem ev183 (fa fb:Bool) (a b:Int) (h:J.okB a/\J.okB b):Ev M1 (.pure 183 [bigA fa a,bigA fb b]) (bigA false (a-b)) []:=by
 have hb:J.okB (-b):=by have:=h.2;unfold J.okB at *;rwa [Int.natAbs_neg]
 have ea:=ev152 fa fb a (-b) ⟨h.1,hb⟩
 have e1:J.Zaa (-b)=(bif !J.Zaa b then decide (((J.Zab b).length:Int)>0) else false):=by
  have hl:=ZaX b
  unfold J.Zaa
  by_cases k:b<0
  ·simp [k];omega
  ·have:decide (b<0)=false:=by simp [k]
   rw [this,Bool.not_false,cond_true,decide_eq_decide,hl]
   have:=ZaE (v:=b.natAbs)
   omega
 have e2:bigA fb (-b) = .agg [.bool (bif !J.Zaa b then decide (((J.Zab b).length:Int)>0) else false),.vec fb 1 ((J.Zab b).map (.int .u32))]:=by
  show AV.agg [.bool (J.Zaa (-b)),.vec fb 1 ((J.Zab (-b)).map (.int .u32))]=_
  rw [e1,limI_neg]
 rw [e2] at ea
 exact call183 (vSub _ _ _ _ _ ⟨_,_,ea,.refl _⟩)
theorem wrap_neg {n:Int} (h:-9223372036854775808<=n/\n<0):IntKind.u64.wrap n=n+18446744073709551616:=by
 have e1:(2:Int) ^ IntKind.u64.bits=18446744073709551616:=rfl
 have e3:IntKind.u64.signed=false:=rfl
 simp only [IntKind.wrap,e1,e3,Bool.false_and,Bool.false_eq_true,if_false]
 omega
theorem fits3 {u:Nat} (h:u<=18446744073709551615):J.fits 3 u:=by
 unfold J.fits
 have:(1000000000:Nat) ^ 3=1000000000000000000000000000:=by decide
 omega
def J.inI (n:Int):Prop:=-9223372036854775808<=n/\n<=9223372036854775807
theorem ev113 (n:Int) (h:J.inI n):Ev M1 (.pure 113 [.int .i64 n]) (bigA false n) []:=by
 unfold J.inI at h
 refine call113 (vFromInt64 n _ ⟨fun k => ?_,fun k => ?_⟩)
 ·have e1:IntKind.u64.wrap (0-IntKind.u64.wrap n) = -n:=by
   rw [wrap_neg ⟨h.1,k⟩]
   have e1:(2:Int) ^ IntKind.u64.bits=18446744073709551616:=rfl
   have e3:IntKind.u64.signed=false:=rfl
   simp only [IntKind.wrap,e1,e3,Bool.false_and,Bool.false_eq_true,if_false]
   omega
  have e2:J.sg (decide (n<0)) (-n).toNat=n:=by unfold J.sg;rw [if_pos (by simpa using k)];omega
  rw [e1,e2]
  exact ⟨by omega,⟨by unfold J.ZaB;omega,fits3 (by omega)⟩,.refl _⟩
 ·have e1:IntKind.u64.wrap n=n:=wU64 ⟨by omega,by omega⟩
  have e2:J.sg (decide (n<0)) n.toNat=n:=by unfold J.sg;rw [if_neg (by simpa using k)];omega
  rw [e1,e2]
  exact ⟨by omega,⟨by unfold J.ZaB;omega,fits3 (by omega)⟩,.refl _⟩
end Go.Av

namespace Go.Av
open Go.Proofs
set_option maxRecDepth 100000
def fi181:Fi:=⟨62,[.tmp 6]⟩
def kp181:List (Nat × List Nat):=[(0,[0,1,2]),(1,[0,1,2,7,8]),(2,[0,1,2,7,8,14,15]),(3,[0,1,2,7,8,14,15,16]),(4,[0,1,2,7,8,9,14,15]),(5,[0,1,2,8,9,10,14,15]),(6,[0,1,2,8,9,10,14,15,22]),(7,[0,1,2,8,9,10,14,15]),(8,[0,1,2,7,8,9,10,14,15]),(9,[0,1,2,7,9,11,14,15]),(10,[0,1,2,7,8,9,11,14,15]),(11,[0,1,2,7,8,9,11,12,14,15]),(12,[0,1,2,7,8,9,11,12,14,15,45]),(13,[0,1,2,7,8,9,11,12,14,15]),(14,[0,1,2,7,8,14,15]),(15,[0,1,2,7,8,14,15]),(16,[6])]
def fi182:Fi:=⟨37,[]⟩
def kp182:List (Nat × List Nat):=[(0,[0,1,4]),(1,[0,1,4,8,9]),(2,[0,1,4,8,9,10]),(3,[0,1,4,5,8,9]),(4,[0,1,5,6,8,9]),(5,[0,1,5,6,8,9,21]),(6,[0,1,5,6,8,9]),(7,[0,1,4,5,6,8,9]),(8,[0,1,4,5,6,8,9,29]),(9,[0,1,4,5,6,8,9]),(10,[0,1,4,8,9]),(11,[0,1,4,8,9])]
def ZfL (u b:List Int) (fb:Bool) (v lo len:Nat) (g:Int) (Q:AV->Heap->Prop):Prop:=Wp M1 (.run fi181 (atC (cd Tryz.f181) []) [(0,.ref 0 v lo len),(1,.vec fb 1 (b.map (.int .u32))),(2,.int .u64 g)] [⟨u.map (.int .u32),1,v,false,true⟩]) Q
def Zba (u b:List Int) (fb:Bool) (v lo len:Nat) (g c w n i:Int) (Q:AV->Heap->Prop):Prop:=Wp M1 (.run fi181 (atC (cd Tryz.f181) [1,1,0,1,0,0]) [(0,.ref 0 v lo len),(1,.vec fb 1 (b.map (.int .u32))),(2,.int .u64 g),(7,.int .u64 c),(8,.int .u64 w),(14,.int .i64 n),(15,.int .i64 i)] [⟨u.map (.int .u32),1,v,false,true⟩]) Q
def Zgo (u b:List Int) (fb:Bool) (v lo len:Nat) (Q:AV->Heap->Prop):Prop:=Wp M1 (.run fi182 (atC (cd Tryz.f182) []) [(0,.ref 0 v lo len),(1,.vec fb 1 (b.map (.int .u32)))] [⟨u.map (.int .u32),1,v,false,true⟩]) Q
def Zbj (u b:List Int) (fb:Bool) (v lo len:Nat) (c n i:Int) (Q:AV->Heap->Prop):Prop:=Wp M1 (.run fi182 (atC (cd Tryz.f182) [1,1,0,0]) [(0,.ref 0 v lo len),(1,.vec fb 1 (b.map (.int .u32))),(4,.int .u32 c),(8,.int .i64 n),(9,.int .i64 i)] [⟨u.map (.int .u32),1,v,false,true⟩]) Q
theorem owncall181 {args:List AV} {L:Heap} {Q:AV->Heap->Prop} (h:Wp M1 (.run fi181 [.code (cd Tryz.f181)] (Zcy 0 args) L) Q):Wp M1 (.own 181 args L) Q:=
 own_wp Tryz.f181 fi181 (by kernel_rfl) (by kernel_rfl) (by kernel_rfl) (by kernel_rfl) h
theorem owncall182 {args:List AV} {L:Heap} {Q:AV->Heap->Prop} (h:Wp M1 (.run fi182 [.code (cd Tryz.f182)] (Zcy 0 args) L) Q):Wp M1 (.own 182 args L) Q:=
 own_wp Tryz.f182 fi182 (by kernel_rfl) (by kernel_rfl) (by kernel_rfl) (by kernel_rfl) h
theorem vSubtract (u b:List Int) (fb:Bool) (v lo len:Nat) (g:Int)  (Q:AV->Heap->Prop) (H :
  Zba u b fb v lo len g 0 0 ((↑len:Int)) 0 Q) :
 ZfL u b fb v lo len g Q:=by
 unfold ZfL
 exact Zae (G:=Zad kp181 [] []) 1000 [] ⟨(atC (cd Tryz.f181) [1,1,0,1,0,0]),[(0,AV.ref 0 v lo len),(1,AV.vec fb 1 (us b)),(2,vw g),(7,vw 0),(8,vw 0),(14,vi (↑len:Int)),(15,vi 0)],[⟨us u,1,v,false,true⟩],[v==v],[],_⟩ (by kernel_rfl) (bc (beq_self_eq_true _) b0) q0 c0 H
noncomputable abbrev ZfV (u:List Int) (lo:Nat) (i:Int):=vu (u.getD (lo+i.toNat) default)
theorem ZhL (u b:List Int) (fb:Bool) (v lo len:Nat) (g c w n i:Int)  (Q:AV->Heap->Prop) (H :
  ((i<n)->((i<(↑b.length:Int))->(0<=i) /\
    (i.toNat<b.length) /\
    (0<=b.getD i.toNat default/\b.getD i.toNat default<=18446744073709551615) /\
    (0<=b.getD i.toNat default*g/\b.getD i.toNat default*g<=18446744073709551615) /\
    (0<=c+b.getD i.toNat default*g/\c+b.getD i.toNat default*g<=18446744073709551615) /\
    (0<=(c+b.getD i.toNat default*g).tdiv 1000000000/\(c+b.getD i.toNat default*g).tdiv 1000000000<=18446744073709551615) /\
    (0<=(c+b.getD i.toNat default*g).tmod 1000000000+w/\(c+b.getD i.toNat default*g).tmod 1000000000+w<=18446744073709551615) /\
    (i.toNat<len) /\
    (lo+i.toNat<u.length) /\
    (0<=u.getD (lo+i.toNat) default/\u.getD (lo+i.toNat) default<=18446744073709551615) /\
    ((u.getD (lo+i.toNat) default<(c+b.getD i.toNat default*g).tmod 1000000000+w)->(0<=u.getD (lo+i.toNat) default+1000000000/\u.getD (lo+i.toNat) default+1000000000<=18446744073709551615) /\
     (0<=u.getD (lo+i.toNat) default+1000000000-((c+b.getD i.toNat default*g).tmod 1000000000+w)/\u.getD (lo+i.toNat) default+1000000000-((c+b.getD i.toNat default*g).tmod 1000000000+w)<=18446744073709551615) /\
     (0<=u.getD (lo+i.toNat) default+1000000000-((c+b.getD i.toNat default*g).tmod 1000000000+w)/\u.getD (lo+i.toNat) default+1000000000-((c+b.getD i.toNat default*g).tmod 1000000000+w)<=4294967295) /\
     (-9223372036854775808<=i+1/\i+1<=9223372036854775807) /\
     Zba (u.set (lo+i.toNat) (u.getD (lo+i.toNat) default+1000000000-((c+b.getD i.toNat default*g).tmod 1000000000+w))) b fb v lo len g ((c+b.getD i.toNat default*g).tdiv 1000000000) 1 n (i+1) Q) /\
    (¬(u.getD (lo+i.toNat) default<(c+b.getD i.toNat default*g).tmod 1000000000+w)->(0<=u.getD (lo+i.toNat) default-((c+b.getD i.toNat default*g).tmod 1000000000+w)/\u.getD (lo+i.toNat) default-((c+b.getD i.toNat default*g).tmod 1000000000+w)<=18446744073709551615) /\
     (0<=u.getD (lo+i.toNat) default-((c+b.getD i.toNat default*g).tmod 1000000000+w)/\u.getD (lo+i.toNat) default-((c+b.getD i.toNat default*g).tmod 1000000000+w)<=4294967295) /\
     (-9223372036854775808<=i+1/\i+1<=9223372036854775807) /\
     Zba (u.set (lo+i.toNat) (u.getD (lo+i.toNat) default-((c+b.getD i.toNat default*g).tmod 1000000000+w))) b fb v lo len g ((c+b.getD i.toNat default*g).tdiv 1000000000) 0 n (i+1) Q)) /\
   (¬(i<(↑b.length:Int))->(0<=c.tdiv 1000000000/\c.tdiv 1000000000<=18446744073709551615) /\
    (0<=c.tmod 1000000000+w/\c.tmod 1000000000+w<=18446744073709551615) /\
    (0<=i) /\
    (i.toNat<len) /\
    (lo+i.toNat<u.length) /\
    (0<=u.getD (lo+i.toNat) default/\u.getD (lo+i.toNat) default<=18446744073709551615) /\
    ((u.getD (lo+i.toNat) default<c.tmod 1000000000+w)->(0<=u.getD (lo+i.toNat) default+1000000000/\u.getD (lo+i.toNat) default+1000000000<=18446744073709551615) /\
     (0<=u.getD (lo+i.toNat) default+1000000000-(c.tmod 1000000000+w)/\u.getD (lo+i.toNat) default+1000000000-(c.tmod 1000000000+w)<=18446744073709551615) /\
     (0<=u.getD (lo+i.toNat) default+1000000000-(c.tmod 1000000000+w)/\u.getD (lo+i.toNat) default+1000000000-(c.tmod 1000000000+w)<=4294967295) /\
     (-9223372036854775808<=i+1/\i+1<=9223372036854775807) /\
     Zba (u.set (lo+i.toNat) (u.getD (lo+i.toNat) default+1000000000-(c.tmod 1000000000+w))) b fb v lo len g (c.tdiv 1000000000) 1 n (i+1) Q) /\
    (¬(u.getD (lo+i.toNat) default<c.tmod 1000000000+w)->(0<=u.getD (lo+i.toNat) default-(c.tmod 1000000000+w)/\u.getD (lo+i.toNat) default-(c.tmod 1000000000+w)<=18446744073709551615) /\
     (0<=u.getD (lo+i.toNat) default-(c.tmod 1000000000+w)/\u.getD (lo+i.toNat) default-(c.tmod 1000000000+w)<=4294967295) /\
     (-9223372036854775808<=i+1/\i+1<=9223372036854775807) /\
     Zba (u.set (lo+i.toNat) (u.getD (lo+i.toNat) default-(c.tmod 1000000000+w))) b fb v lo len g (c.tdiv 1000000000) 0 n (i+1) Q))) /\
  (¬(i<n)->Q (vb (bif decide (w>0) then true else decide (c>0))) [{ elems:=us u,es:=1,ver:=v,frozen:=false,clean:=true }])) :
 Zba u b fb v lo len g c w n i Q:=by
 unfold Zba
 rcases xq H with ⟨d2,H⟩|⟨d2,H⟩
 ·have w3:(us b).length=b.length:=List.length_map ..
  have i4:(decide (i<(↑(us b).length:Int)))=true ↔ (i<(↑b.length:Int)):=(by (try rw [w3]);all_goals exact Zac)
  rcases xq H with ⟨d5,H⟩|⟨d5,H⟩
  ·obtain ⟨k7,H⟩:=H
   have i8:(decide (i.toNat<(us b).length))=true ↔ (i.toNat<b.length):=(by (try rw [w3]);all_goals exact Zac)
   obtain ⟨k9,k10,H⟩:=H
   have w11:wu (b.getD i.toNat default)=b.getD i.toNat default:=wU64 k10
   obtain ⟨k12,H⟩:=H
   have w13:wu (b.getD i.toNat default*g)=b.getD i.toNat default*g:=wU64 k12
   obtain ⟨k14,H⟩:=H
   have w15:wu (c+b.getD i.toNat default*g)=c+b.getD i.toNat default*g:=wU64 k14
   obtain ⟨k16,H⟩:=H
   have w17:wu ((c+b.getD i.toNat default*g).tdiv 1000000000)=(c+b.getD i.toNat default*g).tdiv 1000000000:=wU64 k16
   obtain ⟨k18,H⟩:=H
   have w19:wu ((c+b.getD i.toNat default*g).tmod 1000000000+w)=(c+b.getD i.toNat default*g).tmod 1000000000+w:=wU64 k18
   obtain ⟨k22,k23,k24,H⟩:=H
   have w25:wu (u.getD (lo+i.toNat) default)=u.getD (lo+i.toNat) default:=wU64 k24
   have i26:(decide (wu (u.getD (lo+i.toNat) default)<wu ((wu (c+wu (wu (b.getD i.toNat default)*g))).tmod 1000000000+w)))=true ↔ (u.getD (lo+i.toNat) default<(c+b.getD i.toNat default*g).tmod 1000000000+w):=(by (try rw [w11]);(try rw [w13]);(try rw [w15]);(try rw [w19]);(try rw [w25]);all_goals exact Zac)
   refine Zae (G:=Zad kp181 [(7,4,.elem (vu (b.getD i.toNat default))),(11,3,.elem (ZfV u lo i))] []) 27 [true,true] ⟨(atC (cd Tryz.f181) [1,1,0,1,0,0,1,1,0,0,1,1,1,1,1,1,1,0,1]),[(0,AV.ref 0 v lo len),(1,AV.vec fb 1 (us b)),(2,vw g),(7,vw (wu ((wu (c+wu (wu (b.getD i.toNat default)*g))).tdiv 1000000000))),(8,vw 0),(9,vi i),(11,vw (wu ((wu (c+wu (wu (b.getD i.toNat default)*g))).tmod 1000000000+w))),(12,vw (wu (u.getD (lo+i.toNat) default))),(14,vi n),(15,vi i),(45,vb (decide (wu (u.getD (lo+i.toNat) default)<wu ((wu (c+wu (wu (b.getD i.toNat default)*g))).tmod 1000000000+w))))],[⟨us u,1,v,false,true⟩],[(decide (i<n))==true,(decide (i<(↑(us b).length:Int)))==true,decide (0<=i),decide (i.toNat<(us b).length),true,true,v==v,decide (0<=i),decide (i.toNat<len),v==v],[((us b).get?Internal i.toNat=some (vu (b.getD i.toNat default))),((us u).get?Internal (lo+i.toNat)=some (ZfV u lo i))],_⟩ (by kernel_rfl) (bc (Zaq (Zac.2 d2)) (bc (Zaq (i4.2 d5)) (bc (Zac.2 k7) (bc (i8.2 k9) (bc rfl (bc rfl (bc (beq_self_eq_true _) (bc (Zac.2 k7) (bc (Zac.2 k22) (bc (beq_self_eq_true _) b0)))))))))) (qc (Zat k9) (qc (Zat k23) q0)) c0 ?_
   rcases xq H with ⟨d27,H⟩|⟨d27,H⟩
   ·obtain ⟨k28,H⟩:=H
    have w29:wu (u.getD (lo+i.toNat) default+1000000000)=u.getD (lo+i.toNat) default+1000000000:=wU64 k28
    obtain ⟨k32,H⟩:=H
    have w33:wu (u.getD (lo+i.toNat) default+1000000000-((c+b.getD i.toNat default*g).tmod 1000000000+w))=u.getD (lo+i.toNat) default+1000000000-((c+b.getD i.toNat default*g).tmod 1000000000+w):=wU64 k32
    obtain ⟨k34,H⟩:=H
    have w35:wv (u.getD (lo+i.toNat) default+1000000000-((c+b.getD i.toNat default*g).tmod 1000000000+w))=u.getD (lo+i.toNat) default+1000000000-((c+b.getD i.toNat default*g).tmod 1000000000+w):=wU32 k34
    have w36:(us u).set (lo+i.toNat) (vu (u.getD (lo+i.toNat) default+1000000000-((c+b.getD i.toNat default*g).tmod 1000000000+w)))=us (u.set (lo+i.toNat) (u.getD (lo+i.toNat) default+1000000000-((c+b.getD i.toNat default*g).tmod 1000000000+w))):=(Zbh rfl rfl)
    obtain ⟨k37,H⟩:=H
    have w38:wi (i+1)=i+1:=wI64 k37
    exact Zae (G:=Zad kp181 [(14,7,.elem (ZfV u lo i))] []) 1000 [true] ⟨(atC (cd Tryz.f181) [1,1,0,1,0,0]),[(0,AV.ref 0 v lo len),(1,AV.vec fb 1 (us b)),(2,vw g),(7,vw (wu ((wu (c+wu (wu (b.getD i.toNat default)*g))).tdiv 1000000000))),(8,vw 1),(14,vi n),(15,vi (wi (i+1)))],[⟨(us u).set (lo+i.toNat) (vu (wv (wu (wu (wu (u.getD (lo+i.toNat) default)+1000000000)-wu ((wu (c+wu (wu (b.getD i.toNat default)*g))).tmod 1000000000+w))))),1,v,false,true⟩],[(decide (wu (u.getD (lo+i.toNat) default)<wu ((wu (c+wu (wu (b.getD i.toNat default)*g))).tmod 1000000000+w)))==true,v==v,decide (0<=i),decide (i.toNat<len),v==v],[((us u).get?Internal (lo+i.toNat)=some (ZfV u lo i))],_⟩ (by kernel_rfl) (bc (Zaq (i26.2 d27)) (bc (beq_self_eq_true _) (bc (Zac.2 k7) (bc (Zac.2 k22) (bc (beq_self_eq_true _) b0))))) (qc (Zat k23) q0) c0 (by (try rw [w11]);(try rw [w13]);(try rw [w15]);(try rw [w17]);(try rw [w19]);(try rw [w25]);(try rw [w29]);(try rw [w33]);(try rw [w35]);(try rw [w36]);(try rw [w38]);all_goals exact H)
   ·obtain ⟨k41,H⟩:=H
    have w42:wu (u.getD (lo+i.toNat) default-((c+b.getD i.toNat default*g).tmod 1000000000+w))=u.getD (lo+i.toNat) default-((c+b.getD i.toNat default*g).tmod 1000000000+w):=wU64 k41
    obtain ⟨k43,H⟩:=H
    have w44:wv (u.getD (lo+i.toNat) default-((c+b.getD i.toNat default*g).tmod 1000000000+w))=u.getD (lo+i.toNat) default-((c+b.getD i.toNat default*g).tmod 1000000000+w):=wU32 k43
    have w45:(us u).set (lo+i.toNat) (vu (u.getD (lo+i.toNat) default-((c+b.getD i.toNat default*g).tmod 1000000000+w)))=us (u.set (lo+i.toNat) (u.getD (lo+i.toNat) default-((c+b.getD i.toNat default*g).tmod 1000000000+w))):=(Zbh rfl rfl)
    obtain ⟨k46,H⟩:=H
    have w47:wi (i+1)=i+1:=wI64 k46
    exact Zae (G:=Zad kp181 [(14,7,.elem (ZfV u lo i))] []) 1000 [false] ⟨(atC (cd Tryz.f181) [1,1,0,1,0,0]),[(0,AV.ref 0 v lo len),(1,AV.vec fb 1 (us b)),(2,vw g),(7,vw (wu ((wu (c+wu (wu (b.getD i.toNat default)*g))).tdiv 1000000000))),(8,vw 0),(14,vi n),(15,vi (wi (i+1)))],[⟨(us u).set (lo+i.toNat) (vu (wv (wu (wu (u.getD (lo+i.toNat) default)-wu ((wu (c+wu (wu (b.getD i.toNat default)*g))).tmod 1000000000+w))))),1,v,false,true⟩],[(decide (wu (u.getD (lo+i.toNat) default)<wu ((wu (c+wu (wu (b.getD i.toNat default)*g))).tmod 1000000000+w)))==false,v==v,decide (0<=i),decide (i.toNat<len),v==v],[((us u).get?Internal (lo+i.toNat)=some (ZfV u lo i))],_⟩ (by kernel_rfl) (bc (Zam (fun h=>d27 (i26.1 h))) (bc (beq_self_eq_true _) (bc (Zac.2 k7) (bc (Zac.2 k22) (bc (beq_self_eq_true _) b0))))) (qc (Zat k23) q0) c0 (by (try rw [w11]);(try rw [w13]);(try rw [w15]);(try rw [w17]);(try rw [w19]);(try rw [w25]);(try rw [w42]);(try rw [w44]);(try rw [w45]);(try rw [w47]);all_goals exact H)
  ·obtain ⟨k48,H⟩:=H
   have w49:wu (c.tdiv 1000000000)=c.tdiv 1000000000:=wU64 k48
   obtain ⟨k50,H⟩:=H
   have w51:wu (c.tmod 1000000000+w)=c.tmod 1000000000+w:=wU64 k50
   obtain ⟨k53,k55,k56,k57,H⟩:=H
   have w58:wu (u.getD (lo+i.toNat) default)=u.getD (lo+i.toNat) default:=wU64 k57
   have i59:(decide (wu (u.getD (lo+i.toNat) default)<wu (c.tmod 1000000000+w)))=true ↔ (u.getD (lo+i.toNat) default<c.tmod 1000000000+w):=(by (try rw [w51]);(try rw [w58]);all_goals exact Zac)
   refine Zae (G:=Zad kp181 [(11,3,.elem (ZfV u lo i))] []) 27 [true,false] ⟨(atC (cd Tryz.f181) [1,1,0,1,0,0,1,1,0,0,1,1,1,1,1,1,1,0,1]),[(0,AV.ref 0 v lo len),(1,AV.vec fb 1 (us b)),(2,vw g),(7,vw (wu (c.tdiv 1000000000))),(8,vw 0),(9,vi i),(11,vw (wu (c.tmod 1000000000+w))),(12,vw (wu (u.getD (lo+i.toNat) default))),(14,vi n),(15,vi i),(45,vb (decide (wu (u.getD (lo+i.toNat) default)<wu (c.tmod 1000000000+w))))],[⟨us u,1,v,false,true⟩],[(decide (i<n))==true,(decide (i<(↑(us b).length:Int)))==false,true,true,v==v,decide (0<=i),decide (i.toNat<len),v==v],[((us u).get?Internal (lo+i.toNat)=some (ZfV u lo i))],_⟩ (by kernel_rfl) (bc (Zaq (Zac.2 d2)) (bc (Zam (fun h=>d5 (i4.1 h))) (bc rfl (bc rfl (bc (beq_self_eq_true _) (bc (Zac.2 k53) (bc (Zac.2 k55) (bc (beq_self_eq_true _) b0)))))))) (qc (Zat k56) q0) c0 ?_
   rcases xq H with ⟨d60,H⟩|⟨d60,H⟩
   ·obtain ⟨k61,H⟩:=H
    have w62:wu (u.getD (lo+i.toNat) default+1000000000)=u.getD (lo+i.toNat) default+1000000000:=wU64 k61
    obtain ⟨k65,H⟩:=H
    have w66:wu (u.getD (lo+i.toNat) default+1000000000-(c.tmod 1000000000+w))=u.getD (lo+i.toNat) default+1000000000-(c.tmod 1000000000+w):=wU64 k65
    obtain ⟨k67,H⟩:=H
    have w68:wv (u.getD (lo+i.toNat) default+1000000000-(c.tmod 1000000000+w))=u.getD (lo+i.toNat) default+1000000000-(c.tmod 1000000000+w):=wU32 k67
    have w69:(us u).set (lo+i.toNat) (vu (u.getD (lo+i.toNat) default+1000000000-(c.tmod 1000000000+w)))=us (u.set (lo+i.toNat) (u.getD (lo+i.toNat) default+1000000000-(c.tmod 1000000000+w))):=(Zbh rfl rfl)
    obtain ⟨k70,H⟩:=H
    have w71:wi (i+1)=i+1:=wI64 k70
    exact Zae (G:=Zad kp181 [(14,7,.elem (ZfV u lo i))] []) 1000 [true] ⟨(atC (cd Tryz.f181) [1,1,0,1,0,0]),[(0,AV.ref 0 v lo len),(1,AV.vec fb 1 (us b)),(2,vw g),(7,vw (wu (c.tdiv 1000000000))),(8,vw 1),(14,vi n),(15,vi (wi (i+1)))],[⟨(us u).set (lo+i.toNat) (vu (wv (wu (wu (wu (u.getD (lo+i.toNat) default)+1000000000)-wu (c.tmod 1000000000+w))))),1,v,false,true⟩],[(decide (wu (u.getD (lo+i.toNat) default)<wu (c.tmod 1000000000+w)))==true,v==v,decide (0<=i),decide (i.toNat<len),v==v],[((us u).get?Internal (lo+i.toNat)=some (ZfV u lo i))],_⟩ (by kernel_rfl) (bc (Zaq (i59.2 d60)) (bc (beq_self_eq_true _) (bc (Zac.2 k53) (bc (Zac.2 k55) (bc (beq_self_eq_true _) b0))))) (qc (Zat k56) q0) c0 (by (try rw [w49]);(try rw [w51]);(try rw [w58]);(try rw [w62]);(try rw [w66]);(try rw [w68]);(try rw [w69]);(try rw [w71]);all_goals exact H)
   ·obtain ⟨k74,H⟩:=H
    have w75:wu (u.getD (lo+i.toNat) default-(c.tmod 1000000000+w))=u.getD (lo+i.toNat) default-(c.tmod 1000000000+w):=wU64 k74
    obtain ⟨k76,H⟩:=H
    have w77:wv (u.getD (lo+i.toNat) default-(c.tmod 1000000000+w))=u.getD (lo+i.toNat) default-(c.tmod 1000000000+w):=wU32 k76
    have w78:(us u).set (lo+i.toNat) (vu (u.getD (lo+i.toNat) default-(c.tmod 1000000000+w)))=us (u.set (lo+i.toNat) (u.getD (lo+i.toNat) default-(c.tmod 1000000000+w))):=(Zbh rfl rfl)
    obtain ⟨k79,H⟩:=H
    have w80:wi (i+1)=i+1:=wI64 k79
    exact Zae (G:=Zad kp181 [(14,7,.elem (ZfV u lo i))] []) 1000 [false] ⟨(atC (cd Tryz.f181) [1,1,0,1,0,0]),[(0,AV.ref 0 v lo len),(1,AV.vec fb 1 (us b)),(2,vw g),(7,vw (wu (c.tdiv 1000000000))),(8,vw 0),(14,vi n),(15,vi (wi (i+1)))],[⟨(us u).set (lo+i.toNat) (vu (wv (wu (wu (u.getD (lo+i.toNat) default)-wu (c.tmod 1000000000+w))))),1,v,false,true⟩],[(decide (wu (u.getD (lo+i.toNat) default)<wu (c.tmod 1000000000+w)))==false,v==v,decide (0<=i),decide (i.toNat<len),v==v],[((us u).get?Internal (lo+i.toNat)=some (ZfV u lo i))],_⟩ (by kernel_rfl) (bc (Zam (fun h=>d60 (i59.1 h))) (bc (beq_self_eq_true _) (bc (Zac.2 k53) (bc (Zac.2 k55) (bc (beq_self_eq_true _) b0))))) (qc (Zat k56) q0) c0 (by (try rw [w49]);(try rw [w51]);(try rw [w58]);(try rw [w75]);(try rw [w77]);(try rw [w78]);(try rw [w80]);all_goals exact H)
 ·exact ZcE (G:=Zad kp181 [] []) 1000 [false] (k:=((atC (cd Tryz.f181) [1,1,1,1])).tail) (env':=[(6,vb (bif decide (w>0) then true else decide (c>0)))]) (L':=[⟨us u,1,v,false,true⟩]) (asm:=[(decide (i<n))==false]) (eqs:=[]) (calls:=[]) (vb (bif decide (w>0) then true else decide (c>0))) (by kernel_rfl) (by kernel_rfl) (Zal (Zam (fun h=>d2 (Zac.1 h))) ZaQ) Zbf Zbg H
theorem vRestore (u b:List Int) (fb:Bool) (v lo len:Nat)  (Q:AV->Heap->Prop) (H :
  Zbj u b fb v lo len 0 ((↑len:Int)) 0 Q) :
 Zgo u b fb v lo len Q:=by
 unfold Zgo
 exact Zae (G:=Zad kp182 [] []) 1000 [] ⟨(atC (cd Tryz.f182) [1,1,0,0]),[(0,AV.ref 0 v lo len),(1,AV.vec fb 1 (us b)),(4,vu 0),(8,vi (↑len:Int)),(9,vi 0)],[⟨us u,1,v,false,true⟩],[v==v],[],_⟩ (by kernel_rfl) (bc (beq_self_eq_true _) b0) q0 c0 H
noncomputable abbrev Zhu (u:List Int) (lo:Nat) (i:Int):=vu (u.getD (lo+i.toNat) default)
theorem vRestoreA (u b:List Int) (fb:Bool) (v lo len:Nat) (c n i:Int)  (Q:AV->Heap->Prop) (H :
  ((i<n)->(0<=i) /\
   (i.toNat<len) /\
   (lo+i.toNat<u.length) /\
   (0<=u.getD (lo+i.toNat) default+c/\u.getD (lo+i.toNat) default+c<=4294967295) /\
   ((i<(↑b.length:Int))->(i.toNat<b.length) /\
    (0<=u.getD (lo+i.toNat) default+c+b.getD i.toNat default/\u.getD (lo+i.toNat) default+c+b.getD i.toNat default<=4294967295) /\
    ((u.getD (lo+i.toNat) default+c+b.getD i.toNat default>=1000000000)->(0<=u.getD (lo+i.toNat) default+c+b.getD i.toNat default-1000000000/\u.getD (lo+i.toNat) default+c+b.getD i.toNat default-1000000000<=4294967295) /\
     (-9223372036854775808<=i+1/\i+1<=9223372036854775807) /\
     Zbj (u.set (lo+i.toNat) (u.getD (lo+i.toNat) default+c+b.getD i.toNat default-1000000000)) b fb v lo len 1 n (i+1) Q) /\
    (¬(u.getD (lo+i.toNat) default+c+b.getD i.toNat default>=1000000000)->(-9223372036854775808<=i+1/\i+1<=9223372036854775807) /\
     Zbj (u.set (lo+i.toNat) (u.getD (lo+i.toNat) default+c+b.getD i.toNat default)) b fb v lo len 0 n (i+1) Q)) /\
   (¬(i<(↑b.length:Int))->((u.getD (lo+i.toNat) default+c>=1000000000)->(0<=u.getD (lo+i.toNat) default+c-1000000000/\u.getD (lo+i.toNat) default+c-1000000000<=4294967295) /\
     (-9223372036854775808<=i+1/\i+1<=9223372036854775807) /\
     Zbj (u.set (lo+i.toNat) (u.getD (lo+i.toNat) default+c-1000000000)) b fb v lo len 1 n (i+1) Q) /\
    (¬(u.getD (lo+i.toNat) default+c>=1000000000)->(-9223372036854775808<=i+1/\i+1<=9223372036854775807) /\
     Zbj (u.set (lo+i.toNat) (u.getD (lo+i.toNat) default+c)) b fb v lo len 0 n (i+1) Q))) /\
  (¬(i<n)->Q (tu []) [{ elems:=us u,es:=1,ver:=v,frozen:=false,clean:=true }])) :
 Zbj u b fb v lo len c n i Q:=by
 unfold Zbj
 rcases xq H with ⟨d2,H⟩|⟨d2,H⟩
 ·obtain ⟨k4,k6,k7,k8,H⟩:=H
  have w9:wv (u.getD (lo+i.toNat) default+c)=u.getD (lo+i.toNat) default+c:=wU32 k8
  have w10:(us b).length=b.length:=List.length_map ..
  have i11:(decide (i<(↑(us b).length:Int)))=true ↔ (i<(↑b.length:Int)):=(by (try rw [w10]);all_goals exact Zac)
  refine Zae (G:=Zad kp182 [(4,3,.elem (Zhu u lo i))] []) 14 [true] ⟨(atC (cd Tryz.f182) [1,1,0,0,1,1,0,0,1,1,0,1]),[(0,AV.ref 0 v lo len),(1,AV.vec fb 1 (us b)),(5,vi i),(6,vu (wv (u.getD (lo+i.toNat) default+c))),(8,vi n),(9,vi i),(21,vb (decide (i<(↑(us b).length:Int))))],[⟨us u,1,v,false,true⟩],[(decide (i<n))==true,v==v,decide (0<=i),decide (i.toNat<len),v==v],[((us u).get?Internal (lo+i.toNat)=some (Zhu u lo i))],_⟩ (by kernel_rfl) (bc (Zaq (Zac.2 d2)) (bc (beq_self_eq_true _) (bc (Zac.2 k4) (bc (Zac.2 k6) (bc (beq_self_eq_true _) b0))))) (qc (Zat k7) q0) c0 ?_
  rcases xq H with ⟨d12,H⟩|⟨d12,H⟩
  ·have i14:(decide (i.toNat<(us b).length))=true ↔ (i.toNat<b.length):=(by (try rw [w10]);all_goals exact Zac)
   obtain ⟨k15,k16,H⟩:=H
   have w17:wv (u.getD (lo+i.toNat) default+c+b.getD i.toNat default)=u.getD (lo+i.toNat) default+c+b.getD i.toNat default:=wU32 k16
   have i18:(decide (wv (wv (u.getD (lo+i.toNat) default+c)+b.getD i.toNat default)>=1000000000))=true ↔ (u.getD (lo+i.toNat) default+c+b.getD i.toNat default>=1000000000):=(by (try rw [w9]);(try rw [w17]);all_goals exact Zac)
   refine Zae (G:=Zad kp182 [(6,4,.elem (vu (b.getD i.toNat default)))] []) 7 [true] ⟨(atC (cd Tryz.f182) [1,1,0,0,1,1,0,0,1,1,1,1,0,1]),[(0,AV.ref 0 v lo len),(1,AV.vec fb 1 (us b)),(4,vu 0),(5,vi i),(6,vu (wv (wv (u.getD (lo+i.toNat) default+c)+b.getD i.toNat default))),(8,vi n),(9,vi i),(29,vb (decide (wv (wv (u.getD (lo+i.toNat) default+c)+b.getD i.toNat default)>=1000000000)))],[⟨us u,1,v,false,true⟩],_,[((us b).get?Internal i.toNat=some (vu (b.getD i.toNat default)))],_⟩ (by kernel_rfl) (bc (Zaq (i11.2 d12)) (bc (Zac.2 k4) (bc (i14.2 k15) b0))) (qc (Zat k15) q0) c0 ?_
   rcases xq H with ⟨d19,H⟩|⟨d19,H⟩
   ·obtain ⟨k20,H⟩:=H
    have w21:wv (u.getD (lo+i.toNat) default+c+b.getD i.toNat default-1000000000)=u.getD (lo+i.toNat) default+c+b.getD i.toNat default-1000000000:=wU32 k20
    have w24:(us u).set (lo+i.toNat) (vu (u.getD (lo+i.toNat) default+c+b.getD i.toNat default-1000000000))=us (u.set (lo+i.toNat) (u.getD (lo+i.toNat) default+c+b.getD i.toNat default-1000000000)):=(Zbh rfl rfl)
    obtain ⟨k25,H⟩:=H
    have w26:wi (i+1)=i+1:=wI64 k25
    exact Zae (G:=Zad kp182 [(10,4,.elem (Zhu u lo i))] []) 1000 [true] ⟨(atC (cd Tryz.f182) [1,1,0,0]),[(0,AV.ref 0 v lo len),(1,AV.vec fb 1 (us b)),(4,vu 1),(8,vi n),(9,vi (wi (i+1)))],[⟨(us u).set (lo+i.toNat) (vu (wv (wv (wv (u.getD (lo+i.toNat) default+c)+b.getD i.toNat default)-1000000000))),1,v,false,true⟩],[(decide (wv (wv (u.getD (lo+i.toNat) default+c)+b.getD i.toNat default)>=1000000000))==true,v==v,decide (0<=i),decide (i.toNat<len),v==v],[((us u).get?Internal (lo+i.toNat)=some (Zhu u lo i))],_⟩ (by kernel_rfl) (bc (Zaq (i18.2 d19)) (bc (beq_self_eq_true _) (bc (Zac.2 k4) (bc (Zac.2 k6) (bc (beq_self_eq_true _) b0))))) (qc (Zat k7) q0) c0 (by (try rw [w9]);(try rw [w17]);(try rw [w21]);(try rw [w24]);(try rw [w26]);all_goals exact H)
   ·have w29:(us u).set (lo+i.toNat) (vu (u.getD (lo+i.toNat) default+c+b.getD i.toNat default))=us (u.set (lo+i.toNat) (u.getD (lo+i.toNat) default+c+b.getD i.toNat default)):=(Zbh rfl rfl)
    obtain ⟨k30,H⟩:=H
    have w31:wi (i+1)=i+1:=wI64 k30
    exact Zae (G:=Zad kp182 [(10,4,.elem (Zhu u lo i))] []) 1000 [false] ⟨(atC (cd Tryz.f182) [1,1,0,0]),[(0,AV.ref 0 v lo len),(1,AV.vec fb 1 (us b)),(4,vu 0),(8,vi n),(9,vi (wi (i+1)))],[⟨(us u).set (lo+i.toNat) (vu (wv (wv (u.getD (lo+i.toNat) default+c)+b.getD i.toNat default))),1,v,false,true⟩],[(decide (wv (wv (u.getD (lo+i.toNat) default+c)+b.getD i.toNat default)>=1000000000))==false,v==v,decide (0<=i),decide (i.toNat<len),v==v],[((us u).get?Internal (lo+i.toNat)=some (Zhu u lo i))],_⟩ (by kernel_rfl) (bc (Zam (fun h=>d19 (i18.1 h))) (bc (beq_self_eq_true _) (bc (Zac.2 k4) (bc (Zac.2 k6) (bc (beq_self_eq_true _) b0))))) (qc (Zat k7) q0) c0 (by (try rw [w9]);(try rw [w17]);(try rw [w29]);(try rw [w31]);all_goals exact H)
  ·have i32:(decide (wv (u.getD (lo+i.toNat) default+c)>=1000000000))=true ↔ (u.getD (lo+i.toNat) default+c>=1000000000):=(by (try rw [w9]);all_goals exact Zac)
   rcases xq H with ⟨d33,H⟩|⟨d33,H⟩
   ·obtain ⟨k34,H⟩:=H
    have w35:wv (u.getD (lo+i.toNat) default+c-1000000000)=u.getD (lo+i.toNat) default+c-1000000000:=wU32 k34
    have w38:(us u).set (lo+i.toNat) (vu (u.getD (lo+i.toNat) default+c-1000000000))=us (u.set (lo+i.toNat) (u.getD (lo+i.toNat) default+c-1000000000)):=(Zbh rfl rfl)
    obtain ⟨k39,H⟩:=H
    have w40:wi (i+1)=i+1:=wI64 k39
    exact Zae (G:=Zad kp182 [(10,4,.elem (Zhu u lo i))] []) 1000 [false,true] ⟨(atC (cd Tryz.f182) [1,1,0,0]),[(0,AV.ref 0 v lo len),(1,AV.vec fb 1 (us b)),(4,vu 1),(8,vi n),(9,vi (wi (i+1)))],[⟨(us u).set (lo+i.toNat) (vu (wv (wv (u.getD (lo+i.toNat) default+c)-1000000000))),1,v,false,true⟩],[(decide (i<(↑(us b).length:Int)))==false,(decide (wv (u.getD (lo+i.toNat) default+c)>=1000000000))==true,v==v,decide (0<=i),decide (i.toNat<len),v==v],[((us u).get?Internal (lo+i.toNat)=some (Zhu u lo i))],_⟩ (by kernel_rfl) (bc (Zam (fun h=>d12 (i11.1 h))) (bc (Zaq (i32.2 d33)) (bc (beq_self_eq_true _) (bc (Zac.2 k4) (bc (Zac.2 k6) (bc (beq_self_eq_true _) b0)))))) (qc (Zat k7) q0) c0 (by (try rw [w9]);(try rw [w35]);(try rw [w38]);(try rw [w40]);all_goals exact H)
   ·have w43:(us u).set (lo+i.toNat) (vu (u.getD (lo+i.toNat) default+c))=us (u.set (lo+i.toNat) (u.getD (lo+i.toNat) default+c)):=(Zbh rfl rfl)
    obtain ⟨k44,H⟩:=H
    have w45:wi (i+1)=i+1:=wI64 k44
    exact Zae (G:=Zad kp182 [(10,4,.elem (Zhu u lo i))] []) 1000 [false,false] ⟨(atC (cd Tryz.f182) [1,1,0,0]),[(0,AV.ref 0 v lo len),(1,AV.vec fb 1 (us b)),(4,vu 0),(8,vi n),(9,vi (wi (i+1)))],[⟨(us u).set (lo+i.toNat) (vu (wv (u.getD (lo+i.toNat) default+c))),1,v,false,true⟩],[(decide (i<(↑(us b).length:Int)))==false,(decide (wv (u.getD (lo+i.toNat) default+c)>=1000000000))==false,v==v,decide (0<=i),decide (i.toNat<len),v==v],[((us u).get?Internal (lo+i.toNat)=some (Zhu u lo i))],_⟩ (by kernel_rfl) (bc (Zam (fun h=>d12 (i11.1 h))) (bc (Zam (fun h=>d33 (i32.1 h))) (bc (beq_self_eq_true _) (bc (Zac.2 k4) (bc (Zac.2 k6) (bc (beq_self_eq_true _) b0)))))) (qc (Zat k7) q0) c0 (by (try rw [w9]);(try rw [w43]);(try rw [w45]);all_goals exact H)
 ·exact path_end (G:=Zad kp182 [] []) 1000 [false] (env':=[(0,AV.ref 0 v lo len),(1,AV.vec fb 1 (us b)),(4,vu c),(8,vi n),(9,vi i),(10,vb (decide (i<n)))]) (L':=[⟨us u,1,v,false,true⟩]) (asm:=[(decide (i<n))==false]) (eqs:=[]) (calls:=[]) (tu []) (by kernel_rfl) (by kernel_rfl) (Zal (Zam (fun h=>d2 (Zac.1 h))) ZaQ) Zbf Zbg H
end Go.Av

namespace Go.Av
open Go.Proofs
namespace J
def Zfp:Nat->Int->List Int
 | 0,_=>[]
 | n+1,z=>z % 1000000000::Zfp n (z / 1000000000)
def Zbi (u:List Int) (lo len:Nat) (z:Int):List Int:=u.take lo++(Zfp len z++u.drop (lo+len))
def win (u:List Int) (lo len:Nat):Nat:=valL ((u.drop lo).take len)
def okL (l:List Int):Prop:=∀ x ∈ l,0<=x/\x<1000000000
end J
abbrev urow (u:List Int) (v:Nat):Row:=⟨u.map (.int .u32),1,v,false,true⟩
theorem Zgb:∀ (n v:Nat),J.Zfp n v=J.Zay n v
 | 0,v=>rfl
 | n+1,v=>by
  rw [J.Zfp,ZaF,<- Zgb n]
  congr 1
theorem Zgc:∀ (n:Nat) (z:Int),(J.Zfp n z).length=n
 | 0,z=>rfl
 | n+1,z=>by simp [J.Zfp,Zgc n]
theorem limZ_ok:∀ (n:Nat) (z:Int),J.okL (J.Zfp n z)
 | 0,z=>by intro x hx;simp [J.Zfp] at hx
 | n+1,z=>by
  intro x hx
  rcases List.mem_cons.1 hx with rfl | hx
  ·omega
  ·exact limZ_ok n _ x hx
theorem ZfO {u l:List Int} {i:Nat} {x:Int} (hi:i<u.length) (h:u.drop i=x::l):u.getD i default=x/\u.drop (i+1)=l:=by
 rw [Zcs hi] at h
 exact List.cons.inj h
theorem loopSub {fb:Bool} {m V g v lo:Nat} {rest R:List Int} {neg:Prop} [Decidable neg] {Q:AV->Heap->Prop} (hm:m<=1000000) (hlo:lo<=10000000) (hg:g<1000000000) (hV:J.fits m V) (hQ:Q (.bool (decide neg)) [urow R v]) :
    ∀ (k i:Nat) (u:List Int) (W c w:Nat),i+k=m+1->u.length=lo+(m+1)+rest.length->u.drop (lo+i)=J.Zay k W++rest->J.fits k W->c<1000000000->w<=1 ->
      (((W:Int)-((V / 1000000000 ^ i*g:Nat):Int)-c-w<0) ↔ neg)->u.take (lo+i)++(J.Zfp k ((W:Int)-((V / 1000000000 ^ i*g:Nat):Int)-c-w)++rest)=R ->
      Zba u (J.Zay m V) fb v lo (m+1) g c w ((m+1:Nat):Int) i Q
  | 0,i,u,W,c,w,hi,hul,hud,hW,hc,hw,hneg,hR=>by
    have hW0:=Zbl.1 hW
    rw [ZaL hV (by omega),Nat.zero_mul,hW0] at hneg
    rw [J.Zfp,List.nil_append] at hR
    rw [J.Zay,List.nil_append] at hud
    have e:u=R:=by rw [<- hR,<- hud,List.take_append_drop]
    refine ZhL _ _ _ _ _ _ _ _ _ _ _ _ ⟨fun h=>by omega,fun _ => ?_⟩
    have eb:(bif decide ((w:Int)>0) then true else decide ((c:Int)>0))=decide neg:=by
      rw [<- decide_eq_decide.2 hneg]
      by_cases h1:(w:Int)>0
      · rw [decide_eq_true h1,cond_true];symm;rw [decide_eq_true_iff];omega
      · rw [decide_eq_false h1,cond_false,decide_eq_decide];omega
    rw [eb,e];exact hQ
  | k+1,i,u,W,c,w,hi,hul,hud,hW,hc,hw,hneg,hR=>by
    rw [ZaF,List.cons_append] at hud
    obtain ⟨gu,hud'⟩:=ZfO (by omega) hud
    have hp:=Ze8 g (V / 1000000000 ^ i)
    rw [Nat.mul_comm g (V / 1000000000 ^ i),Za9] at hp
    rw [Nat.mul_comm g (V / 1000000000 ^ (i+1)),Nat.mul_comm g (V / 1000000000 ^ i % 1000000000)] at hp
    have hd:V / 1000000000 ^ i % 1000000000<1000000000:=Nat.mod_lt _ (by omega)
    have hpb:V / 1000000000 ^ i % 1000000000*g<=999999999*999999999:=Nat.mul_le_mul (by omega) (by omega)
    have nxt:∀ (x:Int) (c' w':Nat),c' = (c + V / 1000000000 ^ i % 1000000000 * g) / 1000000000 ->
        ((((W % 1000000000:Nat):Int)<(((c+V / 1000000000 ^ i % 1000000000*g) % 1000000000+w:Nat):Int)/\w'=1/\x=((W % 1000000000:Nat):Int)+1000000000-(((c+V / 1000000000 ^ i % 1000000000*g) % 1000000000+w:Nat):Int)) \/
         (¬((W % 1000000000:Nat):Int)<(((c+V / 1000000000 ^ i % 1000000000*g) % 1000000000+w:Nat):Int)/\w'=0/\x=((W % 1000000000:Nat):Int)-(((c+V / 1000000000 ^ i % 1000000000*g) % 1000000000+w:Nat):Int))) ->
        Zba (u.set (lo+i) x) (J.Zay m V) fb v lo (m+1) g c' w' ((m+1:Nat):Int) ((i:Int)+1) Q:=by
      intro x c' w' hc' hx
      have key:((W:Int)-((V / 1000000000 ^ i*g:Nat):Int)-c-w) % 1000000000=x/\((W:Int)-((V / 1000000000 ^ i*g:Nat):Int)-c-w) / 1000000000=((W / 1000000000:Nat):Int)-((V / 1000000000 ^ (i+1)*g:Nat):Int)-c'-w':=by
        generalize V / 1000000000 ^ i*g=a at hp
        generalize V / 1000000000 ^ (i+1)*g=b at hp
        generalize V / 1000000000 ^ i % 1000000000*g=p at hp hpb hc' hx
        subst hc'
        rcases hx with ⟨h1,rfl,rfl⟩ | ⟨h1,rfl,rfl⟩ <;> omega
      refine loopSub hm hlo hg hV hQ k (i+1) _ (W / 1000000000) c' w' (by omega) (by simpa using hul) ?_ (Zb5.1 hW) ?_ ?_ ?_ ?_
      · rw [show lo+(i+1)=lo+i+1 by omega,List.drop_set_of_lt (by omega)];exact hud'
      · rw [hc']
        generalize V / 1000000000 ^ i % 1000000000*g=p at hpb
        omega
      · rcases hx with ⟨_,h,_⟩ | ⟨_,h,_⟩ <;> omega
      · rw [<- hneg,<- key.2];omega
      · rw [show lo+(i+1)=lo+i+1 by omega,Za5 (by omega),<- hR,J.Zfp,key.1,key.2,List.append_assoc];rfl
    refine ZhL _ _ _ _ _ _ _ _ _ _ _ _ ⟨fun _ => ?_,fun h=>by omega⟩
    rw [Int.toNat_natCast,gu,Zan]
    have hWm:W % 1000000000<1000000000:=Nat.mod_lt _ (by omega)
    by_cases him:i<m
    · rw [ZaA V him]
      have c1:((V / 1000000000 ^ i % 1000000000:Nat):Int)*(g:Int)=((V / 1000000000 ^ i % 1000000000*g:Nat):Int):=(Int.natCast_mul _ _).symm
      rw [c1]
      have hd':((V / 1000000000 ^ i % 1000000000:Nat):Int)<1000000000:=by omega
      have hd0:(0:Int)<=((V / 1000000000 ^ i % 1000000000:Nat):Int):=by omega
      generalize ((V / 1000000000 ^ i % 1000000000:Nat):Int)=dI at hd' hd0
      generalize V / 1000000000 ^ i % 1000000000*g=p at hpb nxt
      have c2:((c:Nat):Int)+((p:Nat):Int)=((c+p:Nat):Int):=by omega
      have c3:(((c+p:Nat):Int)).tdiv 1000000000=(((c+p) / 1000000000:Nat):Int):=by rw [Int.tdiv_eq_ediv_of_nonneg (by omega)];omega
      have c4:(((c+p:Nat):Int)).tmod 1000000000=(((c+p) % 1000000000:Nat):Int):=by rw [Int.tmod_eq_emod_of_nonneg (by omega)];omega
      rw [c2,c3,c4]
      have c5:(((c+p) % 1000000000:Nat):Int)+(w:Int)=(((c+p) % 1000000000+w:Nat):Int):=by omega
      rw [c5]
      have hy:(c+p) % 1000000000+w<=1000000000:=by omega
      refine ⟨fun _=>⟨by omega,by omega,by omega,by omega,by omega,by omega,by omega,by omega,by omega,by omega,fun h=>⟨by omega,by omega,by omega,by omega,nxt _ _ 1 rfl (.inl ⟨h,rfl,rfl⟩)⟩,fun h=>⟨by omega,by omega,by omega,nxt _ _ 0 rfl (.inr ⟨h,rfl,rfl⟩)⟩⟩,fun h=>by omega⟩
    · have hV0:=ZaL hV (show m<=i by omega)
      rw [hV0,Nat.zero_mod,Nat.zero_mul] at nxt
      simp only [Nat.add_zero] at nxt
      have c3:((c:Nat):Int).tdiv 1000000000=((c / 1000000000:Nat):Int):=by rw [Int.tdiv_eq_ediv_of_nonneg (by omega)];omega
      have c4:((c:Nat):Int).tmod 1000000000=((c % 1000000000:Nat):Int):=by rw [Int.tmod_eq_emod_of_nonneg (by omega)];omega
      rw [c3,c4]
      have c5:((c % 1000000000:Nat):Int)+(w:Int)=((c % 1000000000+w:Nat):Int):=by omega
      rw [c5]
      have hy:c % 1000000000+w<=1000000000:=by omega
      refine ⟨fun h=>by omega,fun _=>⟨by omega,by omega,by omega,by omega,by omega,by omega,fun h=>⟨by omega,by omega,by omega,by omega,nxt _ _ 1 rfl (.inl ⟨h,rfl,rfl⟩)⟩,fun h=>⟨by omega,by omega,by omega,nxt _ _ 0 rfl (.inr ⟨h,rfl,rfl⟩)⟩⟩⟩
theorem win_drop {u:List Int} {lo len:Nat} (hu:J.okL u) (hl:lo+len<=u.length):u.drop lo=J.Zay len (J.win u lo len)++u.drop (lo+len)/\J.fits len (J.win u lo len):=by
 have hok:∀ x ∈ (u.drop lo).take len,0<=x/\x<1000000000:=fun x hx=>hu x (List.mem_of_mem_drop (List.mem_of_mem_take hx))
 obtain ⟨h1,h2⟩:=Zfd _ hok
 have hlen:((u.drop lo).take len).length=len:=by rw [List.length_take,List.length_drop];omega
 rw [hlen] at h1 h2
 refine ⟨?_,h2⟩
 unfold J.win
 rw [<- h1]
 conv=>lhs;rw [<- List.take_append_drop len (u.drop lo),List.drop_drop]
theorem evo181 (u b:List Int) (fb:Bool) (v lo len:Nat) (g:Int) (h:J.okL u/\J.okL b/\lo+len<=u.length/\len=b.length+1/\u.length<=1000000/\0<=g/\g<1000000000) :
  Ev M1 (.own 181 [.ref 0 v lo len,usA fb b,.int .u64 g] [urow u v]) (.bool (decide ((J.win u lo len:Int)-g*(valL b:Nat)<0))) [urow (J.Zbi u lo len ((J.win u lo len:Int)-g*(valL b:Nat))) v]:=by
 obtain ⟨hu,hb,h1,h2,h3,h4,h5⟩:=h
 obtain ⟨b1,b2⟩:=Zfd b hb
 obtain ⟨w1,w2⟩:=win_drop hu h1
 subst h2
 obtain ⟨gn,rfl⟩:=Int.eq_ofNat_of_zero_le h4
 refine owncall181 (vSubtract _ _ _ _ _ _ _ _ ?_)
 generalize hV:valL b=V at b1 b2
 rw [b1]
 have e0:((V / 1000000000 ^ 0*gn:Nat):Int)=(gn:Int)*(V:Int):=by rw [Nat.pow_zero,Nat.div_one,Nat.mul_comm,Int.natCast_mul]
 have:=loopSub (fb:=fb) (m:=b.length) (V:=V) (g:=gn) (v:=v) (lo:=lo) (rest:=u.drop (lo+(b.length+1))) (R:=J.Zbi u lo (b.length+1) ((J.win u lo (b.length+1):Int)-(gn:Int)*(V:Int))) (neg:=(J.win u lo (b.length+1):Int)-(gn:Int)*(V:Int)<0)
  (Q:=isR (.bool (decide ((J.win u lo (b.length+1):Int)-(gn:Int)*(V:Int)<0))) [urow (J.Zbi u lo (b.length+1) ((J.win u lo (b.length+1):Int)-(gn:Int)*(V:Int))) v]) (by omega) (by omega) (by omega) b2 ⟨rfl,rfl⟩
  (b.length+1) 0 u (J.win u lo (b.length+1)) 0 0 (by omega) (by rw [List.length_drop];omega) w1 w2 (by omega) (by omega) (by rw [e0];simp) (by rw [e0];simp [J.Zbi])
 rw [Zan] at *
 exact this
end Go.Av

namespace Go.Av
open Go.Proofs
theorem limZ_add:∀ (n:Nat) (a b c:Int),J.Zfp n a=J.Zfp n b->J.Zfp n (a+c)=J.Zfp n (b+c)
 | 0,a,b,c,_=>rfl
 | n+1,a,b,c,h=>by
  rw [J.Zfp,J.Zfp] at h
  obtain ⟨h1,h2⟩:=List.cons.inj h
  rw [J.Zfp,J.Zfp]
  have e1:(a+c) % 1000000000=(b+c) % 1000000000:=by omega
  have e2:(a+c) / 1000000000=a / 1000000000+(a % 1000000000+c) / 1000000000:=by omega
  have e3:(b+c) / 1000000000=b / 1000000000+(a % 1000000000+c) / 1000000000:=by omega
  rw [e1,e2,e3,limZ_add n _ _ _ h2]
theorem loopRes {fb:Bool} {m V v lo:Nat} {rest R:List Int} {Q:AV->Heap->Prop} (hm:m<=1000000) (hlo:lo<=10000000) (hV:J.fits m V) (hQ:Q (.tup []) [urow R v]) :
  ∀ (k i:Nat) (u:List Int) (z:Int) (c:Nat),i+k=m+1->u.length=lo+(m+1)+rest.length->u.drop (lo+i)=J.Zfp k z++rest->c<=1 ->
   u.take (lo+i)++(J.Zfp k (z+((V / 1000000000 ^ i:Nat):Int)+c)++rest)=R->Zbj u (J.Zay m V) fb v lo (m+1) c ((m+1:Nat):Int) i Q
 | 0,i,u,z,c,hi,hul,hud,hc,hR=>by
  rw [J.Zfp,List.nil_append] at hR hud
  have e:u=R:=by rw [<- hR,<- hud,List.take_append_drop]
  exact vRestoreA _ _ _ _ _ _ _ _ _ _ ⟨fun h=>by omega,fun _=>by rw [e];exact hQ⟩
 | k+1,i,u,z,c,hi,hul,hud,hc,hR=>by
  rw [J.Zfp,List.cons_append] at hud
  obtain ⟨gu,hud'⟩:=ZfO (by omega) hud
  have hn:=Za9 V i
  have nxt:∀ (x:Int) (c':Nat),(z % 1000000000+c+((V / 1000000000 ^ i % 1000000000:Nat):Int)>=1000000000/\c'=1/\x=z % 1000000000+c+((V / 1000000000 ^ i % 1000000000:Nat):Int)-1000000000\/¬z % 1000000000+c+((V / 1000000000 ^ i % 1000000000:Nat):Int)>=1000000000/\c'=0/\x=z % 1000000000+c+((V / 1000000000 ^ i % 1000000000:Nat):Int)) ->
    Zbj (u.set (lo+i) x) (J.Zay m V) fb v lo (m+1) c' ((m+1:Nat):Int) ((i:Int)+1) Q:=by
   intro x c' hx
   have key:(z+((V / 1000000000 ^ i:Nat):Int)+c) % 1000000000=x/\(z+((V / 1000000000 ^ i:Nat):Int)+c) / 1000000000=z / 1000000000+((V / 1000000000 ^ (i+1):Nat):Int)+c':=by
    generalize V / 1000000000 ^ (i+1)=b at hn
    generalize V / 1000000000 ^ i=a at hn hx
    subst hn
    rcases hx with ⟨h1,rfl,rfl⟩ | ⟨h1,rfl,rfl⟩ <;> omega
   refine loopRes hm hlo hV hQ k (i+1) _ (z / 1000000000) c' (by omega) (by simpa using hul) ?_ (by omega) ?_
   ·rw [show lo+(i+1)=lo+i+1 by omega,List.drop_set_of_lt (by omega)];exact hud'
   ·rw [show lo+(i+1)=lo+i+1 by omega,Za5 (by omega),<- hR,J.Zfp,key.1,key.2,List.append_assoc];rfl
  refine vRestoreA _ _ _ _ _ _ _ _ _ _ ⟨fun _ => ?_,fun h=>by omega⟩
  rw [Int.toNat_natCast,gu,Zan]
  by_cases him:i<m
  ·rw [ZaA V him]
   have hd:((V / 1000000000 ^ i % 1000000000:Nat):Int)<1000000000:=by omega
   have hd0:(0:Int)<=((V / 1000000000 ^ i % 1000000000:Nat):Int):=by omega
   generalize ((V / 1000000000 ^ i % 1000000000:Nat):Int)=d at hd hd0 nxt
   exact ⟨by omega,by omega,by omega,by omega,fun _=>⟨by omega,by omega,fun h=>⟨by omega,by omega,nxt _ 1 (.inl ⟨h,rfl,rfl⟩)⟩,fun h=>⟨by omega,nxt _ 0 (.inr ⟨h,rfl,rfl⟩)⟩⟩,fun h=>by omega⟩
  ·have hV0:=ZaL hV (show m<=i by omega)
   rw [hV0,Nat.zero_mod] at nxt
   simp only [Int.ofNat_zero,Int.add_zero] at nxt
   exact ⟨by omega,by omega,by omega,by omega,fun h=>by omega,fun _=>⟨fun h=>⟨by omega,by omega,nxt _ 1 (.inl ⟨h,rfl,rfl⟩)⟩,fun h=>⟨by omega,nxt _ 0 (.inr ⟨h,rfl,rfl⟩)⟩⟩⟩
theorem evo182 (u b:List Int) (fb:Bool) (v lo len:Nat) (h:J.okL u/\J.okL b/\lo+len<=u.length/\len=b.length+1/\u.length<=1000000) :
  Ev M1 (.own 182 [.ref 0 v lo len,usA fb b] [urow u v]) (.tup []) [urow (J.Zbi u lo len ((J.win u lo len:Int)+(valL b:Nat))) v]:=by
 obtain ⟨hu,hb,h1,h2,h3⟩:=h
 obtain ⟨b1,b2⟩:=Zfd b hb
 obtain ⟨w1,w2⟩:=win_drop hu h1
 subst h2
 refine owncall182 (vRestore _ _ _ _ _ _ _ ?_)
 generalize hV:valL b=V at b1 b2
 rw [b1]
 have:=loopRes (fb:=fb) (m:=b.length) (V:=V) (v:=v) (lo:=lo) (rest:=u.drop (lo+(b.length+1))) (R:=J.Zbi u lo (b.length+1) ((J.win u lo (b.length+1):Int)+(V:Int)))
  (Q:=isR (.tup []) [urow (J.Zbi u lo (b.length+1) ((J.win u lo (b.length+1):Int)+(V:Int))) v]) (by omega) (by omega) b2 ⟨rfl,rfl⟩
  (b.length+1) 0 u (J.win u lo (b.length+1)) 0 (by omega) (by rw [List.length_drop];omega) (by rw [Zgb];exact w1) (by omega) (by simp [J.Zbi])
 rw [Zan] at *
 exact this
theorem ZeB (v:Nat):J.okL (J.lim v):=limN_ok _ _
theorem Zf3 {u:List Int} {lo len:Nat} {z:Int} (h:lo+len<=u.length):(J.Zbi u lo len z).length=u.length:=by
 unfold J.Zbi
 simp only [List.length_append,List.length_take,Zgc,List.length_drop]
 omega
theorem rowZ_ok {u:List Int} {lo len:Nat} {z:Int} (h:J.okL u):J.okL (J.Zbi u lo len z):=by
 intro x hx
 unfold J.Zbi at hx
 rcases List.mem_append.1 hx with hx | hx
 ·exact h x (List.mem_of_mem_take hx)
 ·rcases List.mem_append.1 hx with hx | hx
  ·exact limZ_ok _ _ x hx
  ·exact h x (List.mem_of_mem_drop hx)
theorem rowZ_again {u:List Int} {lo len:Nat} {z c:Int} (h:lo+len<=u.length) (hu:J.okL u):J.Zbi (J.Zbi u lo len z) lo len ((J.win (J.Zbi u lo len z) lo len:Int)+c)=J.Zbi u lo len (z+c):=by
 have hw:=win_drop (rowZ_ok (lo:=lo) (len:=len) (z:=z) hu) (by rw [Zf3 h];exact h)
 have e1:(J.Zbi u lo len z).take lo=u.take lo:=by
  unfold J.Zbi
  rw [List.take_append_of_le_length (by rw [List.length_take];omega),List.take_take]
  congr 1;omega
 have e2:(J.Zbi u lo len z).drop lo=J.Zfp len z++u.drop (lo+len):=by
  unfold J.Zbi
  rw [List.drop_append_of_le_length (by rw [List.length_take];omega),List.drop_of_length_le (by rw [List.length_take];omega),List.nil_append]
 have e3:(J.Zbi u lo len z).drop (lo+len)=u.drop (lo+len):=by
  rw [<- List.drop_drop,e2,List.drop_append_of_le_length (by rw [Zgc];omega),List.drop_of_length_le (by rw [Zgc];omega),List.nil_append]
 have e4:J.Zfp len (J.win (J.Zbi u lo len z) lo len:Int)=J.Zfp len z:=by
  have:=hw.1
  rw [e2,e3] at this
  rw [Zgb]
  exact (List.append_cancel_right this).symm
 show (J.Zbi u lo len z).take lo++(J.Zfp len ((J.win (J.Zbi u lo len z) lo len:Int)+c)++(J.Zbi u lo len z).drop (lo+len))=_
 rw [e1,e3,limZ_add len _ z c e4]
 rfl
end Go.Av

namespace Go.Av
open Go.Proofs
set_option maxRecDepth 100000
def fi176:Fi:=⟨179,[.tmp 4,.tmp 5]⟩
def ZdA:List (Nat × List Nat):=[(0,[0,1]),(1,[0,1]),(2,[0,1,23]),(3,[4,5]),(4,[0,1,34]),(5,[4,5]),(6,[0,1,6]),(7,[0,1,6,7]),(8,[1,6,7,8]),(9,[6,7,8,9]),(10,[6,7,8,9,10]),(11,[6,7,8,9,10,11]),(12,[6,7,8,9,10,11,70]),(13,[6,7,8,9,10,11]),(14,[6,7,8,9,10,11,12]),(15,[6,7,8,9,10,11,13,14]),(16,[6,7,8,9,10,11,13,14,129]),(17,[6,7,8,9,10,11,13,14]),(18,[6,7,8,9,10,11,13,14]),(19,[6,7,8,9,10,11,13,14,141]),(20,[6,7,8,9,10,11,13,151]),(21,[6,7,8,9,10,11,13]),(22,[6,7,8,9,10,11,13]),(23,[6,7,8,9,10,11]),(24,[10,15]),(25,[4,5])]
def Zgq (fa fb:Bool) (a b:List Int) (Q:AV->Heap->Prop):Prop:=Wp M1 (.run fi176 (atC (cd Tryz.f176) []) [(0,.vec fa 1 (a.map (.int .u32))),(1,.vec fb 1 (b.map (.int .u32)))] []) Q
def Zgp (fa fb:Bool) (a b:List Int) (Q:AV->Heap->Prop):Prop:=Wp M1 (.run fi176 (atC (cd Tryz.f176) []) [(0,.vec fa 1 (a.map (.int .u32))),(1,.vec fb 1 (b.map (.int .u32)))] []) Q
def Za0 (u b q:List Int) (fb:Bool) (v:Nat) (n s k:Int) (Q:AV->Heap->Prop):Prop:=Wp M1 (.run fi176 (atC (cd Tryz.f176) [1,1,1,1,1,1,1,1,1,0,1,0,0]) [(6,.int .i64 n),(7,.int .u32 s),(8,.row 0 v),(9,.vec fb 1 (b.map (.int .u32))),(10,.row 1 0),(11,.int .i64 k)] [⟨u.map (.int .u32),1,v,false,true⟩,⟨q.map (.int .u32),1,0,false,true⟩]) Q
def ZcS (u b q:List Int) (fb:Bool) (v:Nat) (n s k:Int) (g r:Int) (Q:AV->Heap->Prop):Prop:=Wp M1 (.run fi176 (atC (cd Tryz.f176) [1,1,1,1,1,1,1,1,1,0,1,0,0,1,0,0,1,1,0,0,0]) [(6,.int .i64 n),(7,.int .u32 s),(8,.row 0 v),(9,.vec fb 1 (b.map (.int .u32))),(10,.row 1 0),(11,.int .i64 k),(13,.int .u64 g),(14,.int .u64 r)] [⟨u.map (.int .u32),1,v,false,true⟩,⟨q.map (.int .u32),1,0,false,true⟩]) Q
theorem call176 {args:List AV} {d:AV} (h:wc M1 fi176 Tryz.f176 args d):Ev M1 (.pure 176 args) d []:=pcl _ _ (by kernel_rfl) h
theorem vDivide0 (fa fb:Bool) (a b:List Int)  (dq:AV) (H :
  (Ev M1 (Conf.pure 179 [AV.vec fa 1 (us a)]) (vf []) []) /\
  ∃ (l1:List Int),
  (Ev M1 (Conf.pure 179 [AV.vec fb 1 (us b)]) (vf (us l1)) []) /\
  (((↑l1.length:Int)=1) -> ∃ (l2:List Int) (l3:List Int),
   (Ev M1 (Conf.pure 180 [vf [],vu (l1.getD 0 default)]) (tu [vf (us l2),vf (us l3)]) []) /\
   (0<l1.length) /\
   Weak (tu [vf (us l2),vf (us l3)]) dq) /\
  (¬((↑l1.length:Int)=1)->(Ev M1 (Conf.pure 169 [vf [],vf (us l1)]) (vi (-1)) []) /\
   Weak (tu [AV.vnil,AV.vnil]) dq)) :
 Zgq fa fb a b (Zag dq):=by
 unfold Zgq
 obtain ⟨k1,l1,k2,H⟩:=H
 have w3:(us l1).length=l1.length:=List.length_map ..
 have i4:((↑(us l1).length:Int)==1)=true ↔ ((↑l1.length:Int)=1):=(by (try rw [w3]);all_goals exact i_eq)
 refine Zae (G:=Zad ZdA [(1,1,.call (.vec false 1 []) none),(1,3,.call (vf (us l1)) none)] []) 7 [] ⟨(atC (cd Tryz.f176) [1,1,0,1]),[(0,vf []),(1,vf (us l1)),(23,vb ((↑(us l1).length:Int)==1))],[],_,[],_⟩ (by kernel_rfl) b0 q0 (ce k1 (ce k2 c0)) ?_
 rcases xq H with ⟨d5,H⟩|⟨d5,H⟩
 ·obtain ⟨l2,l3,k6,H⟩:=H
  have i7:(decide (0<(us l1).length))=true ↔ (0<l1.length):=(by (try rw [w3]);all_goals exact Zac)
  obtain ⟨k8,H⟩:=H
  exact Zah (G:=Zad ZdA [(3,3,.elem (vu (l1.getD 0 default))),(3,4,.call (tu [vf (us l2),vf (us l3)]) none)] []) 1000 [true] (eqs:=[((us l1).get?Internal 0=some (vu (l1.getD 0 default)))]) (tu [vf (us l2),vf (us l3)]) (by kernel_rfl) (bc (Zaq (i4.2 d5)) (bc rfl (bc (i7.2 k8) b0))) (qc (Zat k8) q0) (ce k6 c0) H
 ·obtain ⟨k9,H⟩:=H
  exact Zah (G:=Zad ZdA [(4,2,.call (.int .i64 (-1)) none)] []) 1000 [false,true] (tu [AV.vnil,AV.vnil]) (by kernel_rfl) (bc (Zam (fun h=>d5 (i4.1 h))) (bc rfl b0)) q0 (ce k9 c0) H
noncomputable abbrev zNvF1 (x:Int) (l:List Int):=vu x::us l
theorem vDivideC (fa fb:Bool) (a b:List Int) (x:Int) (l ul:List Int) (dq:AV) (H :
  (Ev M1 (Conf.pure 179 [AV.vec fa 1 (us a)]) (vf (vu x::us l)) []) /\
  ∃ (l1:List Int),
  (Ev M1 (Conf.pure 179 [AV.vec fb 1 (us b)]) (vf (us l1)) []) /\
  (((↑l1.length:Int)=1) -> ∃ (l2:List Int) (l3:List Int),
   (Ev M1 (Conf.pure 180 [vf (vu x::us l),vu (l1.getD 0 default)]) (tu [vf (us l2),vf (us l3)]) []) /\
   (0<l1.length) /\
   Weak (tu [vf (us l2),vf (us l3)]) dq) /\
  (¬((↑l1.length:Int)=1) -> ∃ (n1:Int),
   (Ev M1 (Conf.pure 169 [vf (vu x::us l),vf (us l1)]) (vi n1) []) /\
   ((n1<0)->((l.length+1)*4<=1099511627776) /\
    Weak (tu [AV.vnil,vf (vu x::us l)]) dq) /\
   (¬(n1<0)->(-9223372036854775808<=(↑l1.length:Int)-1/\(↑l1.length:Int)-1<=9223372036854775807) /\
    (0<=(↑l1.length:Int)-1) /\
    (((↑l1.length:Int)-1).toNat<l1.length) /\
    (0<=l1.getD ((↑l1.length:Int)-1).toNat default/\l1.getD ((↑l1.length:Int)-1).toNat default<=18446744073709551615) /\
    (0<=l1.getD ((↑l1.length:Int)-1).toNat default+1/\l1.getD ((↑l1.length:Int)-1).toNat default+1<=18446744073709551615) /\
    (¬l1.getD ((↑l1.length:Int)-1).toNat default+1=0) /\
    (0<=Int.tdiv 1000000000 (l1.getD ((↑l1.length:Int)-1).toNat default+1)/\Int.tdiv 1000000000 (l1.getD ((↑l1.length:Int)-1).toNat default+1)<=18446744073709551615) /\
    (0<=Int.tdiv 1000000000 (l1.getD ((↑l1.length:Int)-1).toNat default+1)/\Int.tdiv 1000000000 (l1.getD ((↑l1.length:Int)-1).toNat default+1)<=4294967295) /\
    (Ev M1 (Conf.own 164 [vf (vu x::us l),AV.vec true 1 [vu (Int.tdiv 1000000000 (l1.getD ((↑l1.length:Int)-1).toNat default+1))]] []) (AV.row 0 0) [{ elems:=us ul,es:=1,ver:=0,frozen:=false,clean:=true }]) /\
    ((ul.length+1)*4<=1099511627776) /\
    ∃ (l4:List Int),
    (Ev M1 (Conf.pure 164 [vf (us l1),AV.vec true 1 [vu (Int.tdiv 1000000000 (l1.getD ((↑l1.length:Int)-1).toNat default+1))]]) (vf (us l4)) []) /\
    ∃ (l5:List Int),
    (Ev M1 (Conf.pure 179 [vf (us l4)]) (vf (us l5)) []) /\
    (-9223372036854775808<=(↑(ul++[0]).length:Int)-(↑l1.length:Int)/\(↑(ul++[0]).length:Int)-(↑l1.length:Int)<=9223372036854775807) /\
    (0<=(↑(ul++[0]).length:Int)-(↑l1.length:Int)) /\
    (((↑(ul++[0]).length:Int)-(↑l1.length:Int))*4<=1099511627776) /\
    ((↑(ul++[0]).length:Int)-(↑l1.length:Int)<=1099511627776) /\
    (-9223372036854775808<=(↑(ul++[0]).length:Int)-(↑l1.length:Int)-1/\(↑(ul++[0]).length:Int)-(↑l1.length:Int)-1<=9223372036854775807) /\
    Za0 (ul++[0]) l5 (List.replicate ((↑(ul++[0]).length:Int)-(↑l1.length:Int)).toNat (0:Int)) false 1 ((↑l1.length:Int)) (Int.tdiv 1000000000 (l1.getD ((↑l1.length:Int)-1).toNat default+1)) ((↑(ul++[0]).length:Int)-(↑l1.length:Int)-1) (Zag dq)))) :
 Zgp fa fb a b (Zag dq):=by
 unfold Zgp
 obtain ⟨k1,l1,k2,H⟩:=H
 have w3:(us l1).length=l1.length:=List.length_map ..
 have i4:((↑(us l1).length:Int)==1)=true ↔ ((↑l1.length:Int)=1):=(by (try rw [w3]);all_goals exact i_eq)
 refine Zae (G:=Zad ZdA [(1,1,.call (.vec false 1 ((x::l).map (.int .u32))) none),(1,3,.call (vf (us l1)) none)] []) 7 [] ⟨(atC (cd Tryz.f176) [1,1,0,1]),[(0,vf (zNvF1 x l)),(1,vf (us l1)),(23,vb ((↑(us l1).length:Int)==1))],[],_,[],_⟩ (by kernel_rfl) b0 q0 (ce k1 (ce k2 c0)) ?_
 rcases xq H with ⟨d5,H⟩|⟨d5,H⟩
 ·obtain ⟨l2,l3,k6,H⟩:=H
  have i7:(decide (0<(us l1).length))=true ↔ (0<l1.length):=(by (try rw [w3]);all_goals exact Zac)
  obtain ⟨k8,H⟩:=H
  exact Zah (G:=Zad ZdA [(3,3,.elem (vu (l1.getD 0 default))),(3,4,.call (tu [vf (us l2),vf (us l3)]) none)] []) 1000 [true] (eqs:=[((us l1).get?Internal 0=some (vu (l1.getD 0 default)))]) (tu [vf (us l2),vf (us l3)]) (by kernel_rfl) (bc (Zaq (i4.2 d5)) (bc rfl (bc (i7.2 k8) b0))) (qc (Zat k8) q0) (ce k6 c0) H
 ·obtain ⟨n1,k9,H⟩:=H
  refine Zae (G:=Zad ZdA [(4,2,.call (vi n1) none)] []) 5 [false] ⟨(atC (cd Tryz.f176) [1,1,1,0,1]),[(0,vf (zNvF1 x l)),(1,vf (us l1)),(34,vb (decide (n1<0)))],[],_,[],_⟩ (by kernel_rfl) (bc (Zam (fun h=>d5 (i4.1 h))) b0) q0 (ce k9 c0) ?_
  rcases xq H with ⟨d11,H⟩|⟨d11,H⟩
  ·have w12:(us l).length=l.length:=List.length_map ..
   have i13:(decide (((us l).length+1)*4<=1099511627776))=true ↔ ((l.length+1)*4<=1099511627776):=(by (try rw [w12]);all_goals exact Zac)
   obtain ⟨k14,H⟩:=H
   exact ZcE (G:=Zad ZdA [] []) 1000 [true] (k:=((atC (cd Tryz.f176) [1,1,1,0,1,0,1])).tail) (env':=[(4,AV.vnil),(5,AV.row 0 0)]) (L':=[⟨vu x::us l,1,0,false,true⟩]) (asm:=[(decide (n1<0))==true,decide (((us l).length+1)*4<=1099511627776)]) (eqs:=[]) (calls:=[]) (tu [AV.vnil,AV.row 0 0]) (by kernel_rfl) (by kernel_rfl) (Zal (Zaq (Zac.2 d11)) (Zal (i13.2 k14) ZaQ)) Zbf Zbg (ZeH (d:=(tu [AV.vnil,vf (zNvF1 x l)])) (bs:=[0==0]) (by kernel_rfl) (by kernel_rfl) (Zal (beq_self_eq_true _) ZaQ) (by kernel_rfl) H)
  ·obtain ⟨k15,H⟩:=H
   have w16:wi ((↑l1.length:Int)-1)=(↑l1.length:Int)-1:=wI64 k15
   have i17:(decide (0<=wi ((↑(us l1).length:Int)-1)))=true ↔ (0<=(↑l1.length:Int)-1):=(by (try rw [w3]);(try rw [w16]);all_goals exact Zac)
   obtain ⟨k18,H⟩:=H
   have i19:(decide ((wi ((↑(us l1).length:Int)-1)).toNat<(us l1).length))=true ↔ (((↑l1.length:Int)-1).toNat<l1.length):=(by (try rw [w3]);(try rw [w16]);all_goals exact Zac)
   obtain ⟨k20,k21,H⟩:=H
   have w22:wu (l1.getD ((↑l1.length:Int)-1).toNat default)=l1.getD ((↑l1.length:Int)-1).toNat default:=wU64 k21
   obtain ⟨k23,H⟩:=H
   have w24:wu (l1.getD ((↑l1.length:Int)-1).toNat default+1)=l1.getD ((↑l1.length:Int)-1).toNat default+1:=wU64 k23
   have i25:(!wu (wu (l1.getD ((↑l1.length:Int)-1).toNat default)+1)==0)=true ↔ (¬l1.getD ((↑l1.length:Int)-1).toNat default+1=0):=(by (try rw [w22]);(try rw [w24]);all_goals exact ZdH)
   obtain ⟨k26,k27,H⟩:=H
   have w28:wu (Int.tdiv 1000000000 (l1.getD ((↑l1.length:Int)-1).toNat default+1))=Int.tdiv 1000000000 (l1.getD ((↑l1.length:Int)-1).toNat default+1):=wU64 k27
   obtain ⟨k29,H⟩:=H
   have w30:wv (Int.tdiv 1000000000 (l1.getD ((↑l1.length:Int)-1).toNat default+1))=Int.tdiv 1000000000 (l1.getD ((↑l1.length:Int)-1).toNat default+1):=wU32 k29
   obtain ⟨k31,H⟩:=H
   have w32:(us ul).length=ul.length:=List.length_map ..
   have i33:(decide (((us ul).length+1)*4<=1099511627776))=true ↔ ((ul.length+1)*4<=1099511627776):=(by (try rw [w32]);all_goals exact Zac)
   obtain ⟨k34,H⟩:=H
   have w35:us ul++[vu 0]=us (ul++[0]):=(Zfa rfl rfl)
   obtain ⟨l4,k36,l5,k37,H⟩:=H
   have w38:(us (ul++[0])).length=(ul++[0]).length:=List.length_map ..
   obtain ⟨k39,H⟩:=H
   have w40:wi ((↑(ul++[0]).length:Int)-(↑l1.length:Int))=(↑(ul++[0]).length:Int)-(↑l1.length:Int):=wI64 k39
   have i41:(decide (0<=wi ((↑(us ul++[vu 0]).length:Int)-(↑(us l1).length:Int))))=true ↔ (0<=(↑(ul++[0]).length:Int)-(↑l1.length:Int)):=(by (try rw [w3]);(try rw [w35]);(try rw [w38]);(try rw [w40]);all_goals exact Zac)
   obtain ⟨k42,H⟩:=H
   have i43:(decide (wi ((↑(us ul++[vu 0]).length:Int)-(↑(us l1).length:Int))<=wi ((↑(us ul++[vu 0]).length:Int)-(↑(us l1).length:Int))))=true ↔ ((↑(ul++[0]).length:Int)-(↑l1.length:Int)<=(↑(ul++[0]).length:Int)-(↑l1.length:Int)):=(by (try rw [w3]);(try rw [w35]);(try rw [w38]);(try rw [w40]);all_goals exact Zac)
   have i44:(decide (wi ((↑(us ul++[vu 0]).length:Int)-(↑(us l1).length:Int))*4<=1099511627776))=true ↔ (((↑(ul++[0]).length:Int)-(↑l1.length:Int))*4<=1099511627776):=(by (try rw [w3]);(try rw [w35]);(try rw [w38]);(try rw [w40]);all_goals exact Zac)
   obtain ⟨k45,H⟩:=H
   have i46:(decide (wi ((↑(us ul++[vu 0]).length:Int)-(↑(us l1).length:Int))<=1099511627776))=true ↔ ((↑(ul++[0]).length:Int)-(↑l1.length:Int)<=1099511627776):=(by (try rw [w3]);(try rw [w35]);(try rw [w38]);(try rw [w40]);all_goals exact Zac)
   obtain ⟨k47,H⟩:=H
   have w48:List.replicate ((↑(ul++[0]).length:Int)-(↑l1.length:Int)).toNat (vu 0)=us (List.replicate ((↑(ul++[0]).length:Int)-(↑l1.length:Int)).toNat (0:Int)):=(Zdn rfl)
   obtain ⟨k49,H⟩:=H
   have w50:wi ((↑(ul++[0]).length:Int)-(↑l1.length:Int)-1)=(↑(ul++[0]).length:Int)-(↑l1.length:Int)-1:=wI64 k49
   exact Zae (G:=Zad ZdA [(7,4,.elem (vu (l1.getD ((↑l1.length:Int)-1).toNat default))),(8,3,(.call (.row 0 0) (some [⟨ul.map (.int .u32),1,0,false,true⟩]):Ans)),(9,3,.call (vf (us l4)) none),(9,4,.call (vf (us l5)) none)] []) 1000 [false] ⟨(atC (cd Tryz.f176) [1,1,1,1,1,1,1,1,1,0,1,0,0]),[(6,vi (↑(us l1).length:Int)),(7,vu (wv (wu (Int.tdiv 1000000000 (wu (wu (l1.getD ((↑l1.length:Int)-1).toNat default)+1)))))),(8,AV.row 0 1),(9,vf (us l5)),(10,AV.row 1 0),(11,vi (wi (wi ((↑(us ul++[vu 0]).length:Int)-(↑(us l1).length:Int))-1)))],[⟨us ul++[vu 0],1,1,false,true⟩,⟨List.replicate (wi ((↑(us ul++[vu 0]).length:Int)-(↑(us l1).length:Int))).toNat (vu 0),1,0,false,true⟩],[(decide (n1<0))==false,decide (0<=wi ((↑(us l1).length:Int)-1)),decide ((wi ((↑(us l1).length:Int)-1)).toNat<(us l1).length),!wu (wu (l1.getD ((↑l1.length:Int)-1).toNat default)+1)==0,scalarL (us ul),true,decide (((us ul).length+1)*4<=1099511627776),true,decide (0<=wi ((↑(us ul++[vu 0]).length:Int)-(↑(us l1).length:Int))),decide (wi ((↑(us ul++[vu 0]).length:Int)-(↑(us l1).length:Int))<=wi ((↑(us ul++[vu 0]).length:Int)-(↑(us l1).length:Int))),decide (wi ((↑(us ul++[vu 0]).length:Int)-(↑(us l1).length:Int))*4<=1099511627776),decide (wi ((↑(us ul++[vu 0]).length:Int)-(↑(us l1).length:Int))<=1099511627776),true],[((us l1).get?Internal (wi ((↑(us l1).length:Int)-1)).toNat=some (vu (l1.getD ((↑l1.length:Int)-1).toNat default)))],[⟨true,true,164,[vf (zNvF1 x l),AV.vec true 1 [vu (wv (wu (Int.tdiv 1000000000 (wu (wu (l1.getD ((↑l1.length:Int)-1).toNat default)+1)))))]],[],AV.row 0 0,[⟨us ul,1,0,false,true⟩]⟩,⟨true,false,164,[vf (us l1),AV.vec true 1 [vu (wv (wu (Int.tdiv 1000000000 (wu (wu (l1.getD ((↑l1.length:Int)-1).toNat default)+1)))))]],[],vf (us l4),[]⟩,⟨true,false,179,[vf (us l4)],[],vf (us l5),[]⟩]⟩ (by kernel_rfl) (bc (Zam (fun h=>d11 (Zac.1 h))) (bc (i17.2 k18) (bc (i19.2 k20) (bc (i25.2 k26) (bc (by first | exact sc_int _ | exact sc_bool _) (bc rfl (bc (i33.2 k34) (bc rfl (bc (i41.2 k42) (bc (i43.2 (by omega)) (bc (i44.2 k45) (bc (i46.2 k47) (bc rfl b0))))))))))))) (qc (by (try rw [w3]);(try rw [w16]);all_goals exact (Zat k20)) q0) (cc (fun _=>(by (try rw [w22]);(try rw [w24]);(try rw [w28]);(try rw [w30]);all_goals exact k31)) (cc (fun _=>(by (try rw [w22]);(try rw [w24]);(try rw [w28]);(try rw [w30]);all_goals exact k36)) (cc (fun _=>k37) c0))) (by (try rw [w3]);(try rw [w22]);(try rw [w24]);(try rw [w28]);(try rw [w30]);(try rw [w35]);(try rw [w38]);(try rw [w40]);(try rw [w48]);(try rw [w50]);all_goals exact H)
noncomputable abbrev zNvF2 (b:List Int) (n:Int):=vu (b.getD (n-1).toNat default)
theorem vDivideK (u b q:List Int) (fb:Bool) (v:Nat) (n s k:Int)  (dq:AV) (H :
  ((k>=0)->(-9223372036854775808<=k+n/\k+n<=9223372036854775807) /\
   (-9223372036854775808<=k+n-1/\k+n-1<=9223372036854775807) /\
   (0<=k+n) /\
   ((k+n).toNat<u.length) /\
   (0<=k+n-1) /\
   ((k+n-1).toNat<u.length) /\
   (0<=u.getD (k+n).toNat default/\u.getD (k+n).toNat default<=18446744073709551615) /\
   (0<=u.getD (k+n).toNat default*1000000000/\u.getD (k+n).toNat default*1000000000<=18446744073709551615) /\
   (0<=u.getD (k+n-1).toNat default/\u.getD (k+n-1).toNat default<=18446744073709551615) /\
   (0<=u.getD (k+n).toNat default*1000000000+u.getD (k+n-1).toNat default/\u.getD (k+n).toNat default*1000000000+u.getD (k+n-1).toNat default<=18446744073709551615) /\
   (-9223372036854775808<=n-1/\n-1<=9223372036854775807) /\
   (0<=n-1) /\
   ((n-1).toNat<b.length) /\
   (0<=b.getD (n-1).toNat default/\b.getD (n-1).toNat default<=18446744073709551615) /\
   (¬b.getD (n-1).toNat default=0) /\
   (0<=(u.getD (k+n).toNat default*1000000000+u.getD (k+n-1).toNat default).tdiv (b.getD (n-1).toNat default)/\(u.getD (k+n).toNat default*1000000000+u.getD (k+n-1).toNat default).tdiv (b.getD (n-1).toNat default)<=18446744073709551615) /\
   ZcS u b q fb v n s k ((u.getD (k+n).toNat default*1000000000+u.getD (k+n-1).toNat default).tdiv (b.getD (n-1).toNat default)) ((u.getD (k+n).toNat default*1000000000+u.getD (k+n-1).toNat default).tmod (b.getD (n-1).toNat default)) (Zag dq)) /\
  (¬(k>=0) -> ∃ (l1:List Int),
   (Ev M1 (Conf.pure 179 [vf (us (List.take (n.toNat-0) (List.drop 0 u)))]) (vf (us l1)) []) /\
   ∃ (l2:List Int) (l3:List Int),
   (Ev M1 (Conf.pure 180 [vf (us l1),vu s]) (tu [vf (us l2),vf (us l3)]) []) /\
   (0<=n) /\
   (0<=n.toNat) /\
   (n.toNat<=u.length) /\
   Weak (tu [vf (us q),vf (us l2)]) dq)) :
 Za0 u b q fb v n s k (Zag dq):=by
 unfold Za0
 rcases xq H with ⟨d2,H⟩|⟨d2,H⟩
 ·obtain ⟨k3,H⟩:=H
  have w4:wi (k+n)=k+n:=wI64 k3
  obtain ⟨k5,H⟩:=H
  have w6:wi (k+n-1)=k+n-1:=wI64 k5
  have i7:(decide (0<=wi (k+n)))=true ↔ (0<=k+n):=(by (try rw [w4]);all_goals exact Zac)
  obtain ⟨k8,H⟩:=H
  have w9:(us u).length=u.length:=List.length_map ..
  have i10:(decide ((wi (k+n)).toNat<(us u).length))=true ↔ ((k+n).toNat<u.length):=(by (try rw [w4]);(try rw [w9]);all_goals exact Zac)
  obtain ⟨k11,H⟩:=H
  have i12:(decide (0<=wi (wi (k+n)-1)))=true ↔ (0<=k+n-1):=(by (try rw [w4]);(try rw [w6]);all_goals exact Zac)
  obtain ⟨k13,H⟩:=H
  have i14:(decide ((wi (wi (k+n)-1)).toNat<(us u).length))=true ↔ ((k+n-1).toNat<u.length):=(by (try rw [w4]);(try rw [w6]);(try rw [w9]);all_goals exact Zac)
  obtain ⟨k15,k16,H⟩:=H
  have w17:wu (u.getD (k+n).toNat default)=u.getD (k+n).toNat default:=wU64 k16
  obtain ⟨k18,H⟩:=H
  have w19:wu (u.getD (k+n).toNat default*1000000000)=u.getD (k+n).toNat default*1000000000:=wU64 k18
  obtain ⟨k20,H⟩:=H
  have w21:wu (u.getD (k+n-1).toNat default)=u.getD (k+n-1).toNat default:=wU64 k20
  obtain ⟨k22,H⟩:=H
  have w23:wu (u.getD (k+n).toNat default*1000000000+u.getD (k+n-1).toNat default)=u.getD (k+n).toNat default*1000000000+u.getD (k+n-1).toNat default:=wU64 k22
  obtain ⟨k24,H⟩:=H
  have w25:wi (n-1)=n-1:=wI64 k24
  have i26:(decide (0<=wi (n-1)))=true ↔ (0<=n-1):=(by (try rw [w25]);all_goals exact Zac)
  obtain ⟨k27,H⟩:=H
  have w28:(us b).length=b.length:=List.length_map ..
  have i29:(decide ((wi (n-1)).toNat<(us b).length))=true ↔ ((n-1).toNat<b.length):=(by (try rw [w25]);(try rw [w28]);all_goals exact Zac)
  obtain ⟨k30,k31,H⟩:=H
  have w32:wu (b.getD (n-1).toNat default)=b.getD (n-1).toNat default:=wU64 k31
  have i33:(!wu (b.getD (n-1).toNat default)==0)=true ↔ (¬b.getD (n-1).toNat default=0):=(by (try rw [w32]);all_goals exact ZdH)
  obtain ⟨k34,H⟩:=H
  have i35:(decide (0<=wi (n-1)))=true ↔ (0<=n-1):=(by (try rw [w25]);all_goals exact Zac)
  have i36:(decide ((wi (n-1)).toNat<(us b).length))=true ↔ ((n-1).toNat<b.length):=(by (try rw [w25]);(try rw [w28]);all_goals exact Zac)
  have i37:(!wu (b.getD (n-1).toNat default)==0)=true ↔ (¬b.getD (n-1).toNat default=0):=(by (try rw [w32]);all_goals exact ZdH)
  obtain ⟨k38,H⟩:=H
  have w39:wu ((u.getD (k+n).toNat default*1000000000+u.getD (k+n-1).toNat default).tdiv (b.getD (n-1).toNat default))=(u.getD (k+n).toNat default*1000000000+u.getD (k+n-1).toNat default).tdiv (b.getD (n-1).toNat default):=wU64 k38
  exact Zae (G:=Zad ZdA [(14,5,.elem (vu (u.getD (k+n).toNat default))),(14,14,.elem (vu (u.getD (k+n-1).toNat default))),(15,5,.elem (zNvF2 b n)),(15,13,.elem (zNvF2 b n))] []) 1000 [true] ⟨(atC (cd Tryz.f176) [1,1,1,1,1,1,1,1,1,0,1,0,0,1,0,0,1,1,0,0,0]),[(6,vi n),(7,vu s),(8,AV.row 0 v),(9,AV.vec fb 1 (us b)),(10,AV.row 1 0),(11,vi k),(13,vw (wu ((wu (wu (wu (u.getD (k+n).toNat default)*1000000000)+wu (u.getD (k+n-1).toNat default))).tdiv (wu (b.getD (n-1).toNat default))))),(14,vw ((wu (wu (wu (u.getD (k+n).toNat default)*1000000000)+wu (u.getD (k+n-1).toNat default))).tmod (wu (b.getD (n-1).toNat default))))],[⟨us u,1,v,false,true⟩,⟨us q,1,0,false,true⟩],[(decide (k>=0))==true,v==v,decide (0<=wi (k+n)),decide ((wi (k+n)).toNat<(us u).length),v==v,v==v,decide (0<=wi (wi (k+n)-1)),decide ((wi (wi (k+n)-1)).toNat<(us u).length),v==v,decide (0<=wi (n-1)),decide ((wi (n-1)).toNat<(us b).length),!wu (b.getD (n-1).toNat default)==0,decide (0<=wi (n-1)),decide ((wi (n-1)).toNat<(us b).length),!wu (b.getD (n-1).toNat default)==0],[((us u).get?Internal (wi (k+n)).toNat=some (vu (u.getD (k+n).toNat default))),((us u).get?Internal (wi (wi (k+n)-1)).toNat=some (vu (u.getD (k+n-1).toNat default))),((us b).get?Internal (wi (n-1)).toNat=some (zNvF2 b n)),((us b).get?Internal (wi (n-1)).toNat=some (zNvF2 b n))],_⟩ (by kernel_rfl) (bc (Zaq (Zac.2 d2)) (bc (beq_self_eq_true _) (bc (i7.2 k8) (bc (i10.2 k11) (bc (beq_self_eq_true _) (bc (beq_self_eq_true _) (bc (i12.2 k13) (bc (i14.2 k15) (bc (beq_self_eq_true _) (bc (i26.2 k27) (bc (i29.2 k30) (bc (i33.2 k34) (bc (i35.2 k27) (bc (i36.2 k30) (bc (i37.2 k34) b0))))))))))))))) (qc (by (try rw [w4]);all_goals exact (Zat k11)) (qc (by (try rw [w4]);(try rw [w6]);all_goals exact (Zat k15)) (qc (by (try rw [w25]);all_goals exact (Zat k30)) (qc (by (try rw [w25]);all_goals exact (Zat k30)) q0)))) c0 (by (try rw [w17]);(try rw [w19]);(try rw [w21]);(try rw [w23]);(try rw [w32]);(try rw [w39]);all_goals exact H)
 ·have w40:List.drop 0 (us u)=us (List.drop 0 u):=(ZfB rfl)
  have w41:List.take (n.toNat-0) (us (List.drop 0 u))=us (List.take (n.toNat-0) (List.drop 0 u)):=(ZfA rfl)
  obtain ⟨l1,k42,l2,l3,k43,k45,k47,H⟩:=H
  have w48:(us u).length=u.length:=List.length_map ..
  have i49:(decide (n.toNat<=(us u).length))=true ↔ (n.toNat<=u.length):=(by (try rw [w48]);all_goals exact Zac)
  obtain ⟨k50,H⟩:=H
  exact ZcE (G:=Zad ZdA [(24,3,.call (vf (us l1)) none),(24,5,.call (tu [vf (us l2),vf (us l3)]) none)] []) 1000 [false] (k:=((atC (cd Tryz.f176) [1,1,1,1,1,1,1,1,1,1,1,1])).tail) (env':=[(4,AV.row 1 0),(5,vf (us l2))]) (L':=[⟨us u,1,v,true,true⟩,⟨us q,1,0,false,true⟩]) (asm:=[(decide (k>=0))==false,v==v,decide (0<=n),decide (0<=n.toNat),decide (n.toNat<=(us u).length),v==v]) (eqs:=[]) (calls:=[⟨true,false,179,[vf (List.take (n.toNat-0) (List.drop 0 (us u)))],[],vf (us l1),[]⟩,⟨true,false,180,[vf (us l1),vu s],[],tu [vf (us l2),vf (us l3)],[]⟩]) (tu [AV.row 1 0,vf (us l2)]) (by kernel_rfl) (by kernel_rfl) (Zal (Zam (fun h=>d2 (Zac.1 h))) (Zal (beq_self_eq_true _) (Zal (Zac.2 k45) (Zal (Zac.2 k47) (Zal (i49.2 k50) (Zal (beq_self_eq_true _) ZaQ)))))) Zbf (Za8 (fun _=>(by (try rw [w40]);(try rw [w41]);all_goals exact k42)) (Za8 (fun _=>k43) Zbg)) (ZeH (d:=(tu [vf (us q),vf (us l2)])) (bs:=[0==0]) (by kernel_rfl) (by kernel_rfl) (Zal (beq_self_eq_true _) ZaQ) (by kernel_rfl) H)
noncomputable abbrev zNvF3 (g:Int) (b:List Int) (n:Int) (r:Int) (u:List Int) (k:Int):=wu (g*wu (b.getD (n-2).toNat default))>wu (wu (r*1000000000)+wu (u.getD (k+n-2).toNat default))
theorem vDivideG (u b q:List Int) (fb:Bool) (v:Nat) (n s k:Int) (g r:Int)  (dq:AV) (H :
  (-9223372036854775808<=n-2/\n-2<=9223372036854775807) /\
  (-9223372036854775808<=k+n/\k+n<=9223372036854775807) /\
  (-9223372036854775808<=k+n-2/\k+n-2<=9223372036854775807) /\
  ((¬(g>=1000000000))->(0<=n-2)) /\
  ((¬(g>=1000000000))->((n-2).toNat<b.length)) /\
  ((¬(g>=1000000000))->(0<=k+n-2)) /\
  ((¬(g>=1000000000))->((k+n-2).toNat<u.length)) /\
  (((g>=1000000000)\/(IntKind.u64.wrap (g*IntKind.u64.wrap (b.getD (n-2).toNat default))>IntKind.u64.wrap (IntKind.u64.wrap (r*1000000000)+IntKind.u64.wrap (u.getD (k+n-2).toNat default))))->(0<=g-1/\g-1<=18446744073709551615) /\
   (-9223372036854775808<=n-1/\n-1<=9223372036854775807) /\
   (0<=n-1) /\
   ((n-1).toNat<b.length) /\
   (0<=b.getD (n-1).toNat default/\b.getD (n-1).toNat default<=18446744073709551615) /\
   (0<=r+b.getD (n-1).toNat default/\r+b.getD (n-1).toNat default<=18446744073709551615) /\
   ((r+b.getD (n-1).toNat default>=1000000000)->(-9223372036854775808<=k+n+1/\k+n+1<=9223372036854775807) /\
    (J.okL u/\J.okL b/\k.toNat+((k+n+1).toNat-k.toNat)<=u.length/\(k+n+1).toNat-k.toNat=b.length+1/\u.length<=1000000/\0<=g-1/\g-1<1000000000) /\
    (0<=k) /\
    (0<=k+n+1) /\
    (k.toNat<=(k+n+1).toNat) /\
    ((k+n+1).toNat<=u.length) /\
    (((↑(J.win u k.toNat ((k+n+1).toNat-k.toNat)):Int)-(g-1)*(↑(valL b):Int)<0)->(0<=g-1-1/\g-1-1<=18446744073709551615) /\
     (J.okL (J.Zbi u k.toNat ((k+n+1).toNat-k.toNat) ((↑(J.win u k.toNat ((k+n+1).toNat-k.toNat)):Int)-(g-1)*(↑(valL b):Int)))/\J.okL b/\k.toNat+((k+n+1).toNat-k.toNat)<=(J.Zbi u k.toNat ((k+n+1).toNat-k.toNat) ((↑(J.win u k.toNat ((k+n+1).toNat-k.toNat)):Int)-(g-1)*(↑(valL b):Int))).length/\(k+n+1).toNat-k.toNat=b.length+1/\(J.Zbi u k.toNat ((k+n+1).toNat-k.toNat) ((↑(J.win u k.toNat ((k+n+1).toNat-k.toNat)):Int)-(g-1)*(↑(valL b):Int))).length<=1000000) /\
     ((k+n+1).toNat<=(J.Zbi u k.toNat ((k+n+1).toNat-k.toNat) ((↑(J.win u k.toNat ((k+n+1).toNat-k.toNat)):Int)-(g-1)*(↑(valL b):Int))).length) /\
     (k.toNat<q.length) /\
     (0<=g-1-1/\g-1-1<=4294967295) /\
     (-9223372036854775808<=k-1/\k-1<=9223372036854775807) /\
     Za0 (J.Zbi (J.Zbi u k.toNat ((k+n+1).toNat-k.toNat) ((↑(J.win u k.toNat ((k+n+1).toNat-k.toNat)):Int)-(g-1)*(↑(valL b):Int))) k.toNat ((k+n+1).toNat-k.toNat) ((↑(J.win (J.Zbi u k.toNat ((k+n+1).toNat-k.toNat) ((↑(J.win u k.toNat ((k+n+1).toNat-k.toNat)):Int)-(g-1)*(↑(valL b):Int))) k.toNat ((k+n+1).toNat-k.toNat)):Int)+(↑(valL b):Int))) b (q.set k.toNat (g-1-1)) fb v n s (k-1) (Zag dq)) /\
    (¬((↑(J.win u k.toNat ((k+n+1).toNat-k.toNat)):Int)-(g-1)*(↑(valL b):Int)<0)->(k.toNat<q.length) /\
     (0<=g-1/\g-1<=4294967295) /\
     (-9223372036854775808<=k-1/\k-1<=9223372036854775807) /\
     Za0 (J.Zbi u k.toNat ((k+n+1).toNat-k.toNat) ((↑(J.win u k.toNat ((k+n+1).toNat-k.toNat)):Int)-(g-1)*(↑(valL b):Int))) b (q.set k.toNat (g-1)) fb v n s (k-1) (Zag dq))) /\
   (¬(r+b.getD (n-1).toNat default>=1000000000)->ZcS u b q fb v n s k (g-1) (r+b.getD (n-1).toNat default) (Zag dq))) /\
  (¬((g>=1000000000)\/(IntKind.u64.wrap (g*IntKind.u64.wrap (b.getD (n-2).toNat default))>IntKind.u64.wrap (IntKind.u64.wrap (r*1000000000)+IntKind.u64.wrap (u.getD (k+n-2).toNat default))))->(-9223372036854775808<=k+n+1/\k+n+1<=9223372036854775807) /\
   (J.okL u/\J.okL b/\k.toNat+((k+n+1).toNat-k.toNat)<=u.length/\(k+n+1).toNat-k.toNat=b.length+1/\u.length<=1000000/\0<=g/\g<1000000000) /\
   (0<=k) /\
   (0<=k+n+1) /\
   (k.toNat<=(k+n+1).toNat) /\
   ((k+n+1).toNat<=u.length) /\
   (((↑(J.win u k.toNat ((k+n+1).toNat-k.toNat)):Int)-g*(↑(valL b):Int)<0)->(0<=g-1/\g-1<=18446744073709551615) /\
    (J.okL (J.Zbi u k.toNat ((k+n+1).toNat-k.toNat) ((↑(J.win u k.toNat ((k+n+1).toNat-k.toNat)):Int)-g*(↑(valL b):Int)))/\J.okL b/\k.toNat+((k+n+1).toNat-k.toNat)<=(J.Zbi u k.toNat ((k+n+1).toNat-k.toNat) ((↑(J.win u k.toNat ((k+n+1).toNat-k.toNat)):Int)-g*(↑(valL b):Int))).length/\(k+n+1).toNat-k.toNat=b.length+1/\(J.Zbi u k.toNat ((k+n+1).toNat-k.toNat) ((↑(J.win u k.toNat ((k+n+1).toNat-k.toNat)):Int)-g*(↑(valL b):Int))).length<=1000000) /\
    ((k+n+1).toNat<=(J.Zbi u k.toNat ((k+n+1).toNat-k.toNat) ((↑(J.win u k.toNat ((k+n+1).toNat-k.toNat)):Int)-g*(↑(valL b):Int))).length) /\
    (k.toNat<q.length) /\
    (0<=g-1/\g-1<=4294967295) /\
    (-9223372036854775808<=k-1/\k-1<=9223372036854775807) /\
    Za0 (J.Zbi (J.Zbi u k.toNat ((k+n+1).toNat-k.toNat) ((↑(J.win u k.toNat ((k+n+1).toNat-k.toNat)):Int)-g*(↑(valL b):Int))) k.toNat ((k+n+1).toNat-k.toNat) ((↑(J.win (J.Zbi u k.toNat ((k+n+1).toNat-k.toNat) ((↑(J.win u k.toNat ((k+n+1).toNat-k.toNat)):Int)-g*(↑(valL b):Int))) k.toNat ((k+n+1).toNat-k.toNat)):Int)+(↑(valL b):Int))) b (q.set k.toNat (g-1)) fb v n s (k-1) (Zag dq)) /\
   (¬((↑(J.win u k.toNat ((k+n+1).toNat-k.toNat)):Int)-g*(↑(valL b):Int)<0)->(k.toNat<q.length) /\
    (0<=g/\g<=4294967295) /\
    (-9223372036854775808<=k-1/\k-1<=9223372036854775807) /\
    Za0 (J.Zbi u k.toNat ((k+n+1).toNat-k.toNat) ((↑(J.win u k.toNat ((k+n+1).toNat-k.toNat)):Int)-g*(↑(valL b):Int))) b (q.set k.toNat g) fb v n s (k-1) (Zag dq)))) :
 ZcS u b q fb v n s k g r (Zag dq):=by
 unfold ZcS
 obtain ⟨k1,H⟩:=H
 have w2:wi (n-2)=n-2:=wI64 k1
 obtain ⟨k3,H⟩:=H
 have w4:wi (k+n)=k+n:=wI64 k3
 obtain ⟨k5,H⟩:=H
 have w6:wi (k+n-2)=k+n-2:=wI64 k5
 have i7:(!(decide (g>=1000000000)==false&&true)||decide (0<=wi (n-2)))=true ↔ ((¬(g>=1000000000))->(0<=n-2)):=(by (try rw [w2]);all_goals exact (ZfY (i_at (i_bf Zac)) Zac))
 obtain ⟨k8,H⟩:=H
 have w9:(us b).length=b.length:=List.length_map ..
 have i10:(!(decide (g>=1000000000)==false&&true)||decide ((wi (n-2)).toNat<(us b).length))=true ↔ ((¬(g>=1000000000))->((n-2).toNat<b.length)):=(by (try rw [w2]);(try rw [w9]);all_goals exact (ZfY (i_at (i_bf Zac)) Zac))
 obtain ⟨k11,H⟩:=H
 have i13:(!(decide (g>=1000000000)==false&&true)||decide (0<=wi (wi (k+n)-2)))=true ↔ ((¬(g>=1000000000))->(0<=k+n-2)):=(by (try rw [w4]);(try rw [w6]);all_goals exact (ZfY (i_at (i_bf Zac)) Zac))
 obtain ⟨k14,H⟩:=H
 have w15:(us u).length=u.length:=List.length_map ..
 have i16:(!(decide (g>=1000000000)==false&&true)||decide ((wi (wi (k+n)-2)).toNat<(us u).length))=true ↔ ((¬(g>=1000000000))->((k+n-2).toNat<u.length)):=(by (try rw [w4]);(try rw [w6]);(try rw [w15]);all_goals exact (ZfY (i_at (i_bf Zac)) Zac))
 obtain ⟨k17,H⟩:=H
 refine Zae (G:=Zad ZdA [(16,8,.elem (vu (b.getD (n-2).toNat default))),(16,19,.elem (vu (u.getD (k+n-2).toNat default)))] []) 3 [] ⟨(atC (cd Tryz.f176) [1,1,1,1,1,1,1,1,1,0,1,0,0,1,0,0,1,1,0,0,0,0,1]),[(6,vi n),(7,vu s),(8,AV.row 0 v),(9,AV.vec fb 1 (us b)),(10,AV.row 1 0),(11,vi k),(13,vw g),(14,vw r),(129,vb (bif decide (g>=1000000000) then true else decide (zNvF3 g b n r u k)))],[⟨us u,1,v,false,true⟩,⟨us q,1,0,false,true⟩],[!(decide (g>=1000000000)==false&&true)||decide (0<=wi (n-2)),!(decide (g>=1000000000)==false&&true)||decide ((wi (n-2)).toNat<(us b).length),!(decide (g>=1000000000)==false&&true)||v==v,!(decide (g>=1000000000)==false&&true)||decide (0<=wi (wi (k+n)-2)),!(decide (g>=1000000000)==false&&true)||decide ((wi (wi (k+n)-2)).toNat<(us u).length),!(decide (g>=1000000000)==false&&true)||v==v],[((decide (g>=1000000000)==false&&true)=true->(us b).get?Internal (wi (n-2)).toNat=some (vu (b.getD (n-2).toNat default))),((decide (g>=1000000000)==false&&true)=true->(us u).get?Internal (wi (wi (k+n)-2)).toNat=some (vu (u.getD (k+n-2).toNat default)))],_⟩ (by kernel_rfl) (bc (i7.2 k8) (bc (i10.2 k11) (bc ((ZfY (i_at (i_bf Zac)) i_eq).2 (fun _=>rfl)) (bc (i13.2 k14) (bc (i16.2 k17) (bc ((ZfY (i_at (i_bf Zac)) i_eq).2 (fun _=>rfl)) b0)))))) (qc (by (try rw [w2]);all_goals exact (fun h=>Zat (k11 ((i_at (i_bf Zac)).1 h)))) (qc (by (try rw [w4]);(try rw [w6]);all_goals exact (fun h=>Zat (k17 ((i_at (i_bf Zac)).1 h)))) q0)) c0 ?_
 rcases xq H with ⟨d22,H⟩|⟨d22,H⟩
 ·obtain ⟨k23,H⟩:=H
  have w24:wu (g-1)=g-1:=wU64 k23
  obtain ⟨k25,H⟩:=H
  have w26:wi (n-1)=n-1:=wI64 k25
  have i27:(decide (0<=wi (n-1)))=true ↔ (0<=n-1):=(by (try rw [w26]);all_goals exact Zac)
  obtain ⟨k28,H⟩:=H
  have i29:(decide ((wi (n-1)).toNat<(us b).length))=true ↔ ((n-1).toNat<b.length):=(by (try rw [w9]);(try rw [w26]);all_goals exact Zac)
  obtain ⟨k30,k31,H⟩:=H
  have w32:wu (b.getD (n-1).toNat default)=b.getD (n-1).toNat default:=wU64 k31
  obtain ⟨k33,H⟩:=H
  have w34:wu (r+b.getD (n-1).toNat default)=r+b.getD (n-1).toNat default:=wU64 k33
  have i35:(decide (wu (r+wu (b.getD (n-1).toNat default))>=1000000000))=true ↔ (r+b.getD (n-1).toNat default>=1000000000):=(by (try rw [w32]);(try rw [w34]);all_goals exact Zac)
  refine Zae (G:=Zad ZdA [(18,5,.elem (vu (b.getD (n-1).toNat default)))] []) 9 [true] ⟨(atC (cd Tryz.f176) [1,1,1,1,1,1,1,1,1,0,1,0,0,1,0,0,1,1,0,0,0,1,0,1,1,1]),[(6,vi n),(7,vu s),(8,AV.row 0 v),(9,AV.vec fb 1 (us b)),(10,AV.row 1 0),(11,vi k),(13,vw (wu (g-1))),(14,vw (wu (r+wu (b.getD (n-1).toNat default)))),(141,vb (decide (wu (r+wu (b.getD (n-1).toNat default))>=1000000000)))],[⟨us u,1,v,false,true⟩,⟨us q,1,0,false,true⟩],_,[((us b).get?Internal (wi (n-1)).toNat=some (vu (b.getD (n-1).toNat default)))],_⟩ (by kernel_rfl) (bc (Zaq ((ZaM Zac Zac).2 d22)) (bc (i27.2 k28) (bc (i29.2 k30) b0))) (qc (by (try rw [w26]);all_goals exact (Zat k30)) q0) c0 ?_
  rcases xq H with ⟨d36,H⟩|⟨d36,H⟩
  ·obtain ⟨k37,H⟩:=H
   have w38:wi (k+n+1)=k+n+1:=wI64 k37
   obtain ⟨k39,k41,H⟩:=H
   have i42:(decide (0<=wi (wi (k+n)+1)))=true ↔ (0<=k+n+1):=(by (try rw [w4]);(try rw [w38]);all_goals exact Zac)
   obtain ⟨k43,H⟩:=H
   have i44:(decide (k.toNat<=(wi (wi (k+n)+1)).toNat))=true ↔ (k.toNat<=(k+n+1).toNat):=(by (try rw [w4]);(try rw [w38]);all_goals exact Zac)
   obtain ⟨k45,H⟩:=H
   have i46:(decide ((wi (wi (k+n)+1)).toNat<=(us u).length))=true ↔ ((k+n+1).toNat<=u.length):=(by (try rw [w4]);(try rw [w15]);(try rw [w38]);all_goals exact Zac)
   obtain ⟨k47,H⟩:=H
   refine Zae (G:=Zad ZdA [(20,9,.call (vb (decide ((↑(J.win u k.toNat ((k+n+1).toNat-k.toNat)):Int)-(g-1)*(↑(valL b):Int)<0))) (some [⟨us (J.Zbi u k.toNat ((k+n+1).toNat-k.toNat) ((↑(J.win u k.toNat ((k+n+1).toNat-k.toNat)):Int)-(g-1)*(↑(valL b):Int))),1,v,false,true⟩]))] []) 5 [true] ⟨(atC (cd Tryz.f176) [1,1,1,1,1,1,1,1,1,0,1,0,0,1,0,0,1,1,1,0,1]),[(6,vi n),(7,vu s),(8,AV.row 0 v),(9,AV.vec fb 1 (us b)),(10,AV.row 1 0),(11,vi k),(13,vw (wu (g-1))),(151,vb (decide ((↑(J.win u k.toNat ((k+n+1).toNat-k.toNat)):Int)-(g-1)*(↑(valL b):Int)<0)))],[⟨us (J.Zbi u k.toNat ((k+n+1).toNat-k.toNat) ((↑(J.win u k.toNat ((k+n+1).toNat-k.toNat)):Int)-(g-1)*(↑(valL b):Int))),1,v,false,true⟩,⟨us q,1,0,false,true⟩],[(decide (wu (r+wu (b.getD (n-1).toNat default))>=1000000000))==true,v==v,decide (0<=k),decide (0<=wi (wi (k+n)+1)),decide (k.toNat<=(wi (wi (k+n)+1)).toNat),decide ((wi (wi (k+n)+1)).toNat<=(us u).length)],[],[⟨true,true,181,[AV.ref 0 v k.toNat ((wi (wi (k+n)+1)).toNat-k.toNat),AV.vec fb 1 (us b),vw (wu (g-1))],[⟨us u,1,v,false,true⟩],vb (decide ((↑(J.win u k.toNat ((k+n+1).toNat-k.toNat)):Int)-(g-1)*(↑(valL b):Int)<0)),[⟨us (J.Zbi u k.toNat ((k+n+1).toNat-k.toNat) ((↑(J.win u k.toNat ((k+n+1).toNat-k.toNat)):Int)-(g-1)*(↑(valL b):Int))),1,v,false,true⟩]⟩]⟩ (by kernel_rfl) (bc (Zaq (i35.2 d36)) (bc (beq_self_eq_true _) (bc (Zac.2 k41) (bc (i42.2 k43) (bc (i44.2 k45) (bc (i46.2 k47) b0)))))) q0 (cc (fun _=>(by (try rw [w4]);(try rw [w24]);(try rw [w38]);all_goals exact (@evo181 u b fb v (k.toNat) ((k+n+1).toNat-k.toNat) (g-1) k39))) c0) ?_
   rcases xq H with ⟨d49,H⟩|⟨d49,H⟩
   ·obtain ⟨k50,H⟩:=H
    have w51:wu (g-1-1)=g-1-1:=wU64 k50
    obtain ⟨k52,H⟩:=H
    have i54:(decide (0<=wi (wi (k+n)+1)))=true ↔ (0<=k+n+1):=(by (try rw [w4]);(try rw [w38]);all_goals exact Zac)
    have i55:(decide (k.toNat<=(wi (wi (k+n)+1)).toNat))=true ↔ (k.toNat<=(k+n+1).toNat):=(by (try rw [w4]);(try rw [w38]);all_goals exact Zac)
    have w56:(us (J.Zbi u k.toNat ((k+n+1).toNat-k.toNat) ((↑(J.win u k.toNat ((k+n+1).toNat-k.toNat)):Int)-(g-1)*(↑(valL b):Int)))).length=(J.Zbi u k.toNat ((k+n+1).toNat-k.toNat) ((↑(J.win u k.toNat ((k+n+1).toNat-k.toNat)):Int)-(g-1)*(↑(valL b):Int))).length:=List.length_map ..
    have i57:(decide ((wi (wi (k+n)+1)).toNat<=(us (J.Zbi u k.toNat ((k+n+1).toNat-k.toNat) ((↑(J.win u k.toNat ((k+n+1).toNat-k.toNat)):Int)-(g-1)*(↑(valL b):Int)))).length))=true ↔ ((k+n+1).toNat<=(J.Zbi u k.toNat ((k+n+1).toNat-k.toNat) ((↑(J.win u k.toNat ((k+n+1).toNat-k.toNat)):Int)-(g-1)*(↑(valL b):Int))).length):=(by (try rw [w4]);(try rw [w38]);(try rw [w56]);all_goals exact Zac)
    obtain ⟨k58,H⟩:=H
    have w60:(us q).length=q.length:=List.length_map ..
    have i61:(decide (k.toNat<(us q).length))=true ↔ (k.toNat<q.length):=(by (try rw [w60]);all_goals exact Zac)
    obtain ⟨k62,k63,H⟩:=H
    have w64:wv (g-1-1)=g-1-1:=wU32 k63
    have w65:(us q).set k.toNat (vu (g-1-1))=us (q.set k.toNat (g-1-1)):=(Zbh rfl rfl)
    obtain ⟨k66,H⟩:=H
    have w67:wi (k-1)=k-1:=wI64 k66
    exact Zae (G:=Zad ZdA [(22,8,.call (tu []) (some [⟨us (J.Zbi (J.Zbi u k.toNat ((k+n+1).toNat-k.toNat) ((↑(J.win u k.toNat ((k+n+1).toNat-k.toNat)):Int)-(g-1)*(↑(valL b):Int))) k.toNat ((k+n+1).toNat-k.toNat) ((↑(J.win (J.Zbi u k.toNat ((k+n+1).toNat-k.toNat) ((↑(J.win u k.toNat ((k+n+1).toNat-k.toNat)):Int)-(g-1)*(↑(valL b):Int))) k.toNat ((k+n+1).toNat-k.toNat)):Int)+(↑(valL b):Int))),1,v,false,true⟩])),(23,5,.elem (vu (q.getD k.toNat default)))] []) 1000 [true] ⟨(atC (cd Tryz.f176) [1,1,1,1,1,1,1,1,1,0,1,0,0]),[(6,vi n),(7,vu s),(8,AV.row 0 v),(9,AV.vec fb 1 (us b)),(10,AV.row 1 0),(11,vi (wi (k-1)))],[⟨us (J.Zbi (J.Zbi u k.toNat ((k+n+1).toNat-k.toNat) ((↑(J.win u k.toNat ((k+n+1).toNat-k.toNat)):Int)-(g-1)*(↑(valL b):Int))) k.toNat ((k+n+1).toNat-k.toNat) ((↑(J.win (J.Zbi u k.toNat ((k+n+1).toNat-k.toNat) ((↑(J.win u k.toNat ((k+n+1).toNat-k.toNat)):Int)-(g-1)*(↑(valL b):Int))) k.toNat ((k+n+1).toNat-k.toNat)):Int)+(↑(valL b):Int))),1,v,false,true⟩,⟨(us q).set k.toNat (vu (wv (wu (wu (g-1)-1)))),1,0,false,true⟩],[(decide ((↑(J.win u k.toNat ((k+n+1).toNat-k.toNat)):Int)-(g-1)*(↑(valL b):Int)<0))==true,v==v,decide (0<=k),decide (0<=wi (wi (k+n)+1)),decide (k.toNat<=(wi (wi (k+n)+1)).toNat),decide ((wi (wi (k+n)+1)).toNat<=(us (J.Zbi u k.toNat ((k+n+1).toNat-k.toNat) ((↑(J.win u k.toNat ((k+n+1).toNat-k.toNat)):Int)-(g-1)*(↑(valL b):Int)))).length),true,decide (0<=k),decide (k.toNat<(us q).length),true],[((us q).get?Internal k.toNat=some (vu (q.getD k.toNat default)))],[⟨true,true,182,[AV.ref 0 v k.toNat ((wi (wi (k+n)+1)).toNat-k.toNat),AV.vec fb 1 (us b)],[⟨us (J.Zbi u k.toNat ((k+n+1).toNat-k.toNat) ((↑(J.win u k.toNat ((k+n+1).toNat-k.toNat)):Int)-(g-1)*(↑(valL b):Int))),1,v,false,true⟩],tu [],[⟨us (J.Zbi (J.Zbi u k.toNat ((k+n+1).toNat-k.toNat) ((↑(J.win u k.toNat ((k+n+1).toNat-k.toNat)):Int)-(g-1)*(↑(valL b):Int))) k.toNat ((k+n+1).toNat-k.toNat) ((↑(J.win (J.Zbi u k.toNat ((k+n+1).toNat-k.toNat) ((↑(J.win u k.toNat ((k+n+1).toNat-k.toNat)):Int)-(g-1)*(↑(valL b):Int))) k.toNat ((k+n+1).toNat-k.toNat)):Int)+(↑(valL b):Int))),1,v,false,true⟩]⟩]⟩ (by kernel_rfl) (bc (Zaq (Zac.2 d49)) (bc (beq_self_eq_true _) (bc (Zac.2 k41) (bc (i54.2 k43) (bc (i55.2 k45) (bc (i57.2 k58) (bc rfl (bc (Zac.2 k41) (bc (i61.2 k62) (bc rfl b0)))))))))) (qc (Zat k62) q0) (cc (fun _=>(by (try rw [w4]);(try rw [w38]);all_goals exact (@evo182 (J.Zbi u k.toNat ((k+n+1).toNat-k.toNat) ((↑(J.win u k.toNat ((k+n+1).toNat-k.toNat)):Int)-(g-1)*(↑(valL b):Int))) b fb v (k.toNat) ((k+n+1).toNat-k.toNat) k52))) c0) (by (try rw [w24]);(try rw [w51]);(try rw [w64]);(try rw [w65]);(try rw [w67]);all_goals exact H)
   ·have w69:(us q).length=q.length:=List.length_map ..
    have i70:(decide (k.toNat<(us q).length))=true ↔ (k.toNat<q.length):=(by (try rw [w69]);all_goals exact Zac)
    obtain ⟨k71,k72,H⟩:=H
    have w73:wv (g-1)=g-1:=wU32 k72
    have w74:(us q).set k.toNat (vu (g-1))=us (q.set k.toNat (g-1)):=(Zbh rfl rfl)
    obtain ⟨k75,H⟩:=H
    have w76:wi (k-1)=k-1:=wI64 k75
    exact Zae (G:=Zad ZdA [(23,5,.elem (vu (q.getD k.toNat default)))] []) 1000 [false] ⟨(atC (cd Tryz.f176) [1,1,1,1,1,1,1,1,1,0,1,0,0]),[(6,vi n),(7,vu s),(8,AV.row 0 v),(9,AV.vec fb 1 (us b)),(10,AV.row 1 0),(11,vi (wi (k-1)))],[⟨us (J.Zbi u k.toNat ((k+n+1).toNat-k.toNat) ((↑(J.win u k.toNat ((k+n+1).toNat-k.toNat)):Int)-(g-1)*(↑(valL b):Int))),1,v,false,true⟩,⟨(us q).set k.toNat (vu (wv (wu (g-1)))),1,0,false,true⟩],_,[((us q).get?Internal k.toNat=some (vu (q.getD k.toNat default)))],_⟩ (by kernel_rfl) (bc (Zam (fun h=>d49 (Zac.1 h))) (bc rfl (bc (Zac.2 k41) (bc (i70.2 k71) (bc rfl b0))))) (qc (Zat k71) q0) c0 (by (try rw [w24]);(try rw [w73]);(try rw [w74]);(try rw [w76]);all_goals exact H)
  ·exact Zae (G:=Zad ZdA [] []) 1000 [false] ⟨(atC (cd Tryz.f176) [1,1,1,1,1,1,1,1,1,0,1,0,0,1,0,0,1,1,0,0,0]),[(6,vi n),(7,vu s),(8,AV.row 0 v),(9,AV.vec fb 1 (us b)),(10,AV.row 1 0),(11,vi k),(13,vw (wu (g-1))),(14,vw (wu (r+wu (b.getD (n-1).toNat default)))),(141,vb (decide (wu (r+wu (b.getD (n-1).toNat default))>=1000000000)))],[⟨us u,1,v,false,true⟩,⟨us q,1,0,false,true⟩],_,[],_⟩ (by kernel_rfl) (bc (Zam (fun h=>d36 (i35.1 h))) b0) q0 c0 (by (try rw [w24]);(try rw [w32]);(try rw [w34]);all_goals exact Wp.less [6,7,8,9,10,11,13,14] H)
 ·obtain ⟨k77,H⟩:=H
  have w78:wi (k+n+1)=k+n+1:=wI64 k77
  obtain ⟨k79,k81,H⟩:=H
  have i82:(decide (0<=wi (wi (k+n)+1)))=true ↔ (0<=k+n+1):=(by (try rw [w4]);(try rw [w78]);all_goals exact Zac)
  obtain ⟨k83,H⟩:=H
  have i84:(decide (k.toNat<=(wi (wi (k+n)+1)).toNat))=true ↔ (k.toNat<=(k+n+1).toNat):=(by (try rw [w4]);(try rw [w78]);all_goals exact Zac)
  obtain ⟨k85,H⟩:=H
  have i86:(decide ((wi (wi (k+n)+1)).toNat<=(us u).length))=true ↔ ((k+n+1).toNat<=u.length):=(by (try rw [w4]);(try rw [w15]);(try rw [w78]);all_goals exact Zac)
  obtain ⟨k87,H⟩:=H
  refine Zae (G:=Zad ZdA [(20,9,.call (vb (decide ((↑(J.win u k.toNat ((k+n+1).toNat-k.toNat)):Int)-g*(↑(valL b):Int)<0))) (some [⟨us (J.Zbi u k.toNat ((k+n+1).toNat-k.toNat) ((↑(J.win u k.toNat ((k+n+1).toNat-k.toNat)):Int)-g*(↑(valL b):Int))),1,v,false,true⟩]))] []) 5 [false] ⟨(atC (cd Tryz.f176) [1,1,1,1,1,1,1,1,1,0,1,0,0,1,0,0,1,1,1,0,1]),[(6,vi n),(7,vu s),(8,AV.row 0 v),(9,AV.vec fb 1 (us b)),(10,AV.row 1 0),(11,vi k),(13,vw g),(151,vb (decide ((↑(J.win u k.toNat ((k+n+1).toNat-k.toNat)):Int)-g*(↑(valL b):Int)<0)))],[⟨us (J.Zbi u k.toNat ((k+n+1).toNat-k.toNat) ((↑(J.win u k.toNat ((k+n+1).toNat-k.toNat)):Int)-g*(↑(valL b):Int))),1,v,false,true⟩,⟨us q,1,0,false,true⟩],[(bif decide (g>=1000000000) then true else decide (zNvF3 g b n r u k))==false,v==v,decide (0<=k),decide (0<=wi (wi (k+n)+1)),decide (k.toNat<=(wi (wi (k+n)+1)).toNat),decide ((wi (wi (k+n)+1)).toNat<=(us u).length)],[],[⟨true,true,181,[AV.ref 0 v k.toNat ((wi (wi (k+n)+1)).toNat-k.toNat),AV.vec fb 1 (us b),vw g],[⟨us u,1,v,false,true⟩],vb (decide ((↑(J.win u k.toNat ((k+n+1).toNat-k.toNat)):Int)-g*(↑(valL b):Int)<0)),[⟨us (J.Zbi u k.toNat ((k+n+1).toNat-k.toNat) ((↑(J.win u k.toNat ((k+n+1).toNat-k.toNat)):Int)-g*(↑(valL b):Int))),1,v,false,true⟩]⟩]⟩ (by kernel_rfl) (bc (Zam (fun h=>d22 ((ZaM Zac Zac).1 h))) (bc (beq_self_eq_true _) (bc (Zac.2 k81) (bc (i82.2 k83) (bc (i84.2 k85) (bc (i86.2 k87) b0)))))) q0 (cc (fun _=>(by (try rw [w4]);(try rw [w78]);all_goals exact (@evo181 u b fb v (k.toNat) ((k+n+1).toNat-k.toNat) g k79))) c0) ?_
  rcases xq H with ⟨d89,H⟩|⟨d89,H⟩
  ·obtain ⟨k90,H⟩:=H
   have w91:wu (g-1)=g-1:=wU64 k90
   obtain ⟨k92,H⟩:=H
   have i94:(decide (0<=wi (wi (k+n)+1)))=true ↔ (0<=k+n+1):=(by (try rw [w4]);(try rw [w78]);all_goals exact Zac)
   have i95:(decide (k.toNat<=(wi (wi (k+n)+1)).toNat))=true ↔ (k.toNat<=(k+n+1).toNat):=(by (try rw [w4]);(try rw [w78]);all_goals exact Zac)
   have w96:(us (J.Zbi u k.toNat ((k+n+1).toNat-k.toNat) ((↑(J.win u k.toNat ((k+n+1).toNat-k.toNat)):Int)-g*(↑(valL b):Int)))).length=(J.Zbi u k.toNat ((k+n+1).toNat-k.toNat) ((↑(J.win u k.toNat ((k+n+1).toNat-k.toNat)):Int)-g*(↑(valL b):Int))).length:=List.length_map ..
   have i97:(decide ((wi (wi (k+n)+1)).toNat<=(us (J.Zbi u k.toNat ((k+n+1).toNat-k.toNat) ((↑(J.win u k.toNat ((k+n+1).toNat-k.toNat)):Int)-g*(↑(valL b):Int)))).length))=true ↔ ((k+n+1).toNat<=(J.Zbi u k.toNat ((k+n+1).toNat-k.toNat) ((↑(J.win u k.toNat ((k+n+1).toNat-k.toNat)):Int)-g*(↑(valL b):Int))).length):=(by (try rw [w4]);(try rw [w78]);(try rw [w96]);all_goals exact Zac)
   obtain ⟨k98,H⟩:=H
   have w100:(us q).length=q.length:=List.length_map ..
   have i101:(decide (k.toNat<(us q).length))=true ↔ (k.toNat<q.length):=(by (try rw [w100]);all_goals exact Zac)
   obtain ⟨k102,k103,H⟩:=H
   have w104:wv (g-1)=g-1:=wU32 k103
   have w105:(us q).set k.toNat (vu (g-1))=us (q.set k.toNat (g-1)):=(Zbh rfl rfl)
   obtain ⟨k106,H⟩:=H
   have w107:wi (k-1)=k-1:=wI64 k106
   exact Zae (G:=Zad ZdA [(22,8,.call (tu []) (some [⟨us (J.Zbi (J.Zbi u k.toNat ((k+n+1).toNat-k.toNat) ((↑(J.win u k.toNat ((k+n+1).toNat-k.toNat)):Int)-g*(↑(valL b):Int))) k.toNat ((k+n+1).toNat-k.toNat) ((↑(J.win (J.Zbi u k.toNat ((k+n+1).toNat-k.toNat) ((↑(J.win u k.toNat ((k+n+1).toNat-k.toNat)):Int)-g*(↑(valL b):Int))) k.toNat ((k+n+1).toNat-k.toNat)):Int)+(↑(valL b):Int))),1,v,false,true⟩])),(23,5,.elem (vu (q.getD k.toNat default)))] []) 1000 [true] ⟨(atC (cd Tryz.f176) [1,1,1,1,1,1,1,1,1,0,1,0,0]),[(6,vi n),(7,vu s),(8,AV.row 0 v),(9,AV.vec fb 1 (us b)),(10,AV.row 1 0),(11,vi (wi (k-1)))],[⟨us (J.Zbi (J.Zbi u k.toNat ((k+n+1).toNat-k.toNat) ((↑(J.win u k.toNat ((k+n+1).toNat-k.toNat)):Int)-g*(↑(valL b):Int))) k.toNat ((k+n+1).toNat-k.toNat) ((↑(J.win (J.Zbi u k.toNat ((k+n+1).toNat-k.toNat) ((↑(J.win u k.toNat ((k+n+1).toNat-k.toNat)):Int)-g*(↑(valL b):Int))) k.toNat ((k+n+1).toNat-k.toNat)):Int)+(↑(valL b):Int))),1,v,false,true⟩,⟨(us q).set k.toNat (vu (wv (wu (g-1)))),1,0,false,true⟩],[(decide ((↑(J.win u k.toNat ((k+n+1).toNat-k.toNat)):Int)-g*(↑(valL b):Int)<0))==true,v==v,decide (0<=k),decide (0<=wi (wi (k+n)+1)),decide (k.toNat<=(wi (wi (k+n)+1)).toNat),decide ((wi (wi (k+n)+1)).toNat<=(us (J.Zbi u k.toNat ((k+n+1).toNat-k.toNat) ((↑(J.win u k.toNat ((k+n+1).toNat-k.toNat)):Int)-g*(↑(valL b):Int)))).length),true,decide (0<=k),decide (k.toNat<(us q).length),true],[((us q).get?Internal k.toNat=some (vu (q.getD k.toNat default)))],[⟨true,true,182,[AV.ref 0 v k.toNat ((wi (wi (k+n)+1)).toNat-k.toNat),AV.vec fb 1 (us b)],[⟨us (J.Zbi u k.toNat ((k+n+1).toNat-k.toNat) ((↑(J.win u k.toNat ((k+n+1).toNat-k.toNat)):Int)-g*(↑(valL b):Int))),1,v,false,true⟩],tu [],[⟨us (J.Zbi (J.Zbi u k.toNat ((k+n+1).toNat-k.toNat) ((↑(J.win u k.toNat ((k+n+1).toNat-k.toNat)):Int)-g*(↑(valL b):Int))) k.toNat ((k+n+1).toNat-k.toNat) ((↑(J.win (J.Zbi u k.toNat ((k+n+1).toNat-k.toNat) ((↑(J.win u k.toNat ((k+n+1).toNat-k.toNat)):Int)-g*(↑(valL b):Int))) k.toNat ((k+n+1).toNat-k.toNat)):Int)+(↑(valL b):Int))),1,v,false,true⟩]⟩]⟩ (by kernel_rfl) (bc (Zaq (Zac.2 d89)) (bc (beq_self_eq_true _) (bc (Zac.2 k81) (bc (i94.2 k83) (bc (i95.2 k85) (bc (i97.2 k98) (bc rfl (bc (Zac.2 k81) (bc (i101.2 k102) (bc rfl b0)))))))))) (qc (Zat k102) q0) (cc (fun _=>(by (try rw [w4]);(try rw [w78]);all_goals exact (@evo182 (J.Zbi u k.toNat ((k+n+1).toNat-k.toNat) ((↑(J.win u k.toNat ((k+n+1).toNat-k.toNat)):Int)-g*(↑(valL b):Int))) b fb v (k.toNat) ((k+n+1).toNat-k.toNat) k92))) c0) (by (try rw [w91]);(try rw [w104]);(try rw [w105]);(try rw [w107]);all_goals exact H)
  ·have w109:(us q).length=q.length:=List.length_map ..
   have i110:(decide (k.toNat<(us q).length))=true ↔ (k.toNat<q.length):=(by (try rw [w109]);all_goals exact Zac)
   obtain ⟨k111,k112,H⟩:=H
   have w113:wv g=g:=wU32 k112
   have w114:(us q).set k.toNat (vu g)=us (q.set k.toNat g):=(Zbh rfl rfl)
   obtain ⟨k115,H⟩:=H
   have w116:wi (k-1)=k-1:=wI64 k115
   exact Zae (G:=Zad ZdA [(23,5,.elem (vu (q.getD k.toNat default)))] []) 1000 [false] ⟨(atC (cd Tryz.f176) [1,1,1,1,1,1,1,1,1,0,1,0,0]),[(6,vi n),(7,vu s),(8,AV.row 0 v),(9,AV.vec fb 1 (us b)),(10,AV.row 1 0),(11,vi (wi (k-1)))],[⟨us (J.Zbi u k.toNat ((k+n+1).toNat-k.toNat) ((↑(J.win u k.toNat ((k+n+1).toNat-k.toNat)):Int)-g*(↑(valL b):Int))),1,v,false,true⟩,⟨(us q).set k.toNat (vu (wv g)),1,0,false,true⟩],_,[((us q).get?Internal k.toNat=some (vu (q.getD k.toNat default)))],_⟩ (by kernel_rfl) (bc (Zam (fun h=>d89 (Zac.1 h))) (bc rfl (bc (Zac.2 k81) (bc (i110.2 k111) (bc rfl b0))))) (qc (Zat k111) q0) c0 (by (try rw [w113]);(try rw [w114]);(try rw [w116]);all_goals exact H)
end Go.Av

namespace Go.Av
open Go.Proofs
theorem Zen:∀ (a b x:Nat),J.Zay (a+b) x=J.Zay a x++J.Zay b (x / 1000000000 ^ a)
 | 0,b,x=>by simp [J.Zay]
 | a+1,b,x=>by
  rw [show a+1+b=(a+b)+1 by omega,ZaF,ZaF,Zen a b,List.cons_append,Nat.div_div_eq_div_mul,Nat.pow_succ,Nat.mul_comm (1000000000 ^ a)]
theorem limN_mod:∀ (a x:Nat),J.Zay a (x % 1000000000 ^ a)=J.Zay a x
 | 0,x=>rfl
 | a+1,x=>by
  rw [ZaF,ZaF]
  have e1:x % 1000000000 ^ (a+1) % 1000000000=x % 1000000000:=Nat.mod_mod_of_dvd _ ⟨1000000000 ^ a,by rw [Nat.pow_succ,Nat.mul_comm]⟩
  have e2:x % 1000000000 ^ (a+1) / 1000000000=x / 1000000000 % 1000000000 ^ a:=by rw [Nat.pow_succ,Nat.mul_comm,Nat.mod_mul_right_div_self]
  rw [e1,e2,limN_mod a]
theorem limN_low (a x y:Nat):J.Zay a (x % 1000000000 ^ a+1000000000 ^ a*y)=J.Zay a x:=by
 rw [<- limN_mod a (x % 1000000000 ^ a+1000000000 ^ a*y),Nat.add_mul_mod_self_left,Nat.mod_mod,limN_mod]
theorem limN_more' (n m v:Nat) (h:J.fits n v) (hm:n<=m):J.Zay m v=J.Zay n v++J.zs (m-n):=by
 obtain ⟨d,rfl⟩:=Nat.exists_eq_add_of_le hm
 rw [Zfe n d v h,Nat.add_sub_cancel_left]
theorem rowZ_lim {L U lo len:Nat} {Z:Nat} (hl:lo+len<=L) (hU:J.fits (lo+len) U) (hZ:J.fits len Z):J.Zbi (J.Zay L U) lo len (Z:Int)=J.Zay L (U % 1000000000 ^ lo+1000000000 ^ lo*Z):=by
 have e:L=lo+(len+(L-lo-len)):=by omega
 unfold J.Zbi
 rw [Zgb,Zff _ _ _ hl,ZaL hU (Nat.le_refl _),Zg0]
 conv=>rhs;rw [e]
 rw [Zen,limN_low]
 have e2:(U % 1000000000 ^ lo+1000000000 ^ lo*Z) / 1000000000 ^ lo=Z:=by
  rw [Nat.add_mul_div_left _ _ (Nat.pow_pos (by omega)),Nat.div_eq_of_lt (Nat.mod_lt _ (Nat.pow_pos (by omega))),Nat.zero_add]
 rw [e2,Zfe len _ Z hZ]
 have e3:(J.Zay L U).take lo=J.Zay lo U:=by
  conv=>lhs;rw [e,Zen]
  rw [List.take_append_of_le_length (by rw [Zan];omega),List.take_of_length_le (by rw [Zan];omega)]
 rw [e3,show L-(lo+len)=L-lo-len by omega];rfl
theorem win_lim {L U lo len:Nat} (hl:lo+len<=L) (hU:J.fits (lo+len) U):J.win (J.Zay L U) lo len=U / 1000000000 ^ lo:=by
 have hf:J.fits len (U / 1000000000 ^ lo):=by
  rw [Zcr,Nat.div_div_eq_div_mul,<- Nat.pow_add]
  exact ZaL hU (Nat.le_refl _)
 unfold J.win
 rw [Zff _ _ _ (by omega),limN_more' len (L-lo) _ hf (by omega),List.take_append_of_le_length (by rw [Zan];omega),List.take_of_length_le (by rw [Zan];omega),ZeR _ _ hf]
theorem limN_okL (n v:Nat):J.okL (J.Zay n v):=limN_ok n v
def AfterG (u b q:List Int) (fb:Bool) (v:Nat) (n s k g:Int) (dq:AV):Prop:=
 (-9223372036854775808<=k+n+1/\k+n+1<=9223372036854775807) /\
 (J.okL u/\J.okL b/\k.toNat+((k+n+1).toNat-k.toNat)<=u.length/\(k+n+1).toNat-k.toNat=b.length+1/\u.length<=1000000/\0<=g/\g<1000000000) /\
 (0<=k)/\(0<=k+n+1)/\(k.toNat<=(k+n+1).toNat)/\((k+n+1).toNat<=u.length) /\
 (((J.win u k.toNat ((k+n+1).toNat-k.toNat):Int)-g*(valL b:Nat)<0)->(0<=g-1/\g-1<=18446744073709551615) /\
  (J.okL (J.Zbi u k.toNat ((k+n+1).toNat-k.toNat) ((J.win u k.toNat ((k+n+1).toNat-k.toNat):Int)-g*(valL b:Nat)))/\J.okL b/\k.toNat+((k+n+1).toNat-k.toNat)<=(J.Zbi u k.toNat ((k+n+1).toNat-k.toNat) ((J.win u k.toNat ((k+n+1).toNat-k.toNat):Int)-g*(valL b:Nat))).length/\(k+n+1).toNat-k.toNat=b.length+1/\(J.Zbi u k.toNat ((k+n+1).toNat-k.toNat) ((J.win u k.toNat ((k+n+1).toNat-k.toNat):Int)-g*(valL b:Nat))).length<=1000000) /\
  ((k+n+1).toNat<=(J.Zbi u k.toNat ((k+n+1).toNat-k.toNat) ((J.win u k.toNat ((k+n+1).toNat-k.toNat):Int)-g*(valL b:Nat))).length) /\
  (k.toNat<q.length)/\(0<=g-1/\g-1<=4294967295)/\(-9223372036854775808<=k-1/\k-1<=9223372036854775807) /\
  Za0 (J.Zbi (J.Zbi u k.toNat ((k+n+1).toNat-k.toNat) ((J.win u k.toNat ((k+n+1).toNat-k.toNat):Int)-g*(valL b:Nat))) k.toNat ((k+n+1).toNat-k.toNat) ((J.win (J.Zbi u k.toNat ((k+n+1).toNat-k.toNat) ((J.win u k.toNat ((k+n+1).toNat-k.toNat):Int)-g*(valL b:Nat))) k.toNat ((k+n+1).toNat-k.toNat):Int)+(valL b:Nat))) b (q.set k.toNat (g-1)) fb v n s (k-1) (Zag dq)) /\
 (¬((J.win u k.toNat ((k+n+1).toNat-k.toNat):Int)-g*(valL b:Nat)<0)->(k.toNat<q.length)/\(0<=g/\g<=4294967295)/\(-9223372036854775808<=k-1/\k-1<=9223372036854775807) /\
  Za0 (J.Zbi u k.toNat ((k+n+1).toNat-k.toNat) ((J.win u k.toNat ((k+n+1).toNat-k.toNat):Int)-g*(valL b:Nat))) b (q.set k.toNat g) fb v n s (k-1) (Zag dq))
theorem afterG {q:List Int} {fb:Bool} {v n k L U V g:Nat} {s:Int} {dq:AV} (hL:L<=1000000) (hkn:k+n+1<=L) (hq:q.length<=1000000/\k<q.length) (hV0:0<V) (hV:J.fits n V) (hU:J.fits (k+(n+1)) U) (hg:g<1000000000) (h1:U / 1000000000 ^ k / V<=g) (h2:g<=U / 1000000000 ^ k / V+1)
  (cont:Za0 (J.Zay L (U % 1000000000 ^ k+1000000000 ^ k*(U / 1000000000 ^ k % V))) (J.Zay n V) (q.set k ((U / 1000000000 ^ k / V:Nat):Int)) fb v n s ((k:Int)-1) (Zag dq)) :
  AfterG (J.Zay L U) (J.Zay n V) q fb v n s k g dq:=by
 unfold AfterG
 have e1:((k:Int)+n+1).toNat-(k:Int).toNat=n+1:=by omega
 rw [e1,Int.toNat_natCast,win_lim (by omega) hU,ZeR n V hV]
 have hok:=limN_okL L U
 have hlen:=Zan L U
 have hdm:=Nat.div_add_mod (U / 1000000000 ^ k) V
 have hml:=Nat.mod_lt (U / 1000000000 ^ k) hV0
 have hfm:J.fits (n+1) (U / 1000000000 ^ k % V):=ZaP (Zbs hV (Nat.le_of_lt hml)) (by omega)
 have hrow:=rowZ_lim (L:=L) (U:=U) (lo:=k) (len:=n+1) (by omega) hU hfm
 have hgV:(g:Int)*(V:Int)=((g*V:Nat):Int):=(Int.natCast_mul _ _).symm
 rw [hgV]
 generalize hW:U / 1000000000 ^ k=W at hdm hml h1 h2 hrow cont
 have hq1:W / V*V+W % V=W:=by rw [Nat.mul_comm];exact hdm
 generalize W / V=q0 at hq1 h1 h2 cont
 generalize W % V=r0 at hq1 hml hrow cont
 refine ⟨by omega,⟨hok,limN_okL n V,by omega,by rw [Zan],by omega,by omega,by omega⟩,by omega,by omega,by omega,by omega,fun hneg => ?_,fun hneg => ?_⟩
 ·have hg1:g=q0+1:=by
   rcases Nat.lt_or_ge q0 g with k1 | k1
   ·omega
   ·have:g=q0:=by omega
    subst this
    omega
  have hgw:g*V=q0*V+V:=by rw [hg1,Nat.succ_mul]
  have ez:(W:Int)-((g*V:Nat):Int)+(V:Int)=(r0:Int):=by omega
  have eg:(g:Int)-1=(q0:Int):=by omega
  rw [rowZ_again (by omega) hok,ez,hrow,eg]
  refine ⟨by omega,⟨rowZ_ok hok,limN_okL n V,by rw [Zf3 (by omega)];omega,by rw [Zan],by rw [Zf3 (by omega)];omega⟩,by rw [Zf3 (by omega)];omega,by omega,by omega,by omega,cont⟩
 ·have hg1:g=q0:=by
   rcases Nat.lt_or_ge q0 g with k1 | k1
   ·exfalso
    have:g=q0+1:=by omega
    have hgw:g*V=q0*V+V:=by rw [this,Nat.succ_mul]
    omega
   ·omega
  subst hg1
  have ez:(W:Int)-((g*V:Nat):Int)=(r0:Int):=by omega
  rw [ez,hrow]
  exact ⟨by omega,by omega,by omega,cont⟩
theorem loopG {q:List Int} {fb:Bool} {v n k L U V:Nat} {s:Int} {dq:AV} (hn:2<=n) (hL:L<=1000000) (hkn:k+n+1<=L) (hq:q.length<=1000000/\k<q.length) (hV:J.fits n V) (hU:J.fits (k+(n+1)) U) (hE:Est (1000000000 ^ (n-2)) (U / 1000000000 ^ k) V)
  (cont:Za0 (J.Zay L (U % 1000000000 ^ k+1000000000 ^ k*(U / 1000000000 ^ k % V))) (J.Zay n V) (q.set k ((U / 1000000000 ^ k / V:Nat):Int)) fb v n s ((k:Int)-1) (Zag dq)) :
  ∀ (g r:Nat),g*(V / 1000000000 ^ (n-2) / 1000000000)+r=U / 1000000000 ^ k / 1000000000 ^ (n-2) / 1000000000->U / 1000000000 ^ k / V<=g->r<1000000000->g<18446744073709551615->ZcS (J.Zay L U) (J.Zay n V) q fb v n s k g r (Zag dq):=by
 have hV0:=hE.V0
 have more:=fun g r=>hE.more (g:=g) (r:=r)
 have less:=fun g r=>hE.less (g:=g) (r:=r)
 have small:=fun g r=>hE.small (g:=g) (r:=r)
 have b1:(J.Zay n V).getD (n-1) default=((V / 1000000000 ^ (n-2) / 1000000000:Nat):Int):=by
  rw [ZaA V (by omega),Za9,show n-2+1=n-1 by omega]
  have:=ZbT (n:=n-1) (v:=V) (by rw [show n-1+1=n by omega];exact hV)
  rw [Nat.mod_eq_of_lt this]
 have b2:(J.Zay n V).getD (n-2) default=((V / 1000000000 ^ (n-2) % 1000000000:Nat):Int):=ZaA V (by omega)
 have u2:(J.Zay L U).getD (k+n-2) default=((U / 1000000000 ^ k / 1000000000 ^ (n-2) % 1000000000:Nat):Int):=by
  rw [ZaA U (by omega),Nat.div_div_eq_div_mul,<- Nat.pow_add,show k+(n-2)=k+n-2 by omega]
 have hv1:V / 1000000000 ^ (n-2) / 1000000000<1000000000:=by
  rw [Za9,show n-2+1=n-1 by omega]
  exact ZbT (by rw [show n-1+1=n by omega];exact hV)
 have e1:((n:Int)-1).toNat=n-1:=by omega
 have e2:((n:Int)-2).toNat=n-2:=by omega
 have e3:((k:Int)+n-2).toNat=k+n-2:=by omega
 have after:∀ g:Nat,g<1000000000->U / 1000000000 ^ k / V<=g->g<=U / 1000000000 ^ k / V+1->AfterG (J.Zay L U) (J.Zay n V) q fb v n s k g dq:=fun g h0 h1 h2=>afterG hL hkn hq hV0 hV hU h0 h1 h2 cont
 clear cont hE hV0
 generalize V / 1000000000 ^ (n-2)=d at *
 generalize U / 1000000000 ^ k / 1000000000 ^ (n-2)=x at *
 generalize U / 1000000000 ^ k / V=q0 at *
 have htest:∀ g r:Nat,r<1000000000->(((((g:Nat):Int)>=1000000000)\/(IntKind.u64.wrap (((g:Nat):Int)*IntKind.u64.wrap ((J.Zay n V).getD ((n:Int)-2).toNat default))>IntKind.u64.wrap (IntKind.u64.wrap ((r:Int)*1000000000)+IntKind.u64.wrap ((J.Zay L U).getD ((k:Int)+n-2).toNat default)))) ↔
   (g>=1000000000\/g*(d % 1000000000)>r*1000000000+x % 1000000000)):=by
  intro g r hr
  rw [e2,e3,b2,u2]
  have hv2:d % 1000000000<1000000000:=Nat.mod_lt _ (by omega)
  have hu2:x % 1000000000<1000000000:=Nat.mod_lt _ (by omega)
  generalize d % 1000000000=v2 at hv2
  generalize x % 1000000000=x2 at hu2
  rw [wU64 (n:=(v2:Int)) (by omega),wU64 (n:=(x2:Int)) (by omega),wU64 (n:=(r:Int)*1000000000) (by omega),wU64 (n:=(r:Int)*1000000000+(x2:Int)) (by omega)]
  by_cases hbig:g>=1000000000
  ·exact ⟨fun _ => .inl hbig,fun _ => .inl (by omega)⟩
  ·have hm:((g:Nat):Int)*(v2:Int)=((g*v2:Nat):Int):=(Int.natCast_mul _ _).symm
   have hle:g*v2<=1000000000*1000000000:=Nat.mul_le_mul (by omega) (by omega)
   rw [hm,wU64 (by omega)]
   constructor
   ·rintro (h | h)
    ·exact absurd (by omega) hbig
    ·right;omega
   ·rintro (h | h)
    ·exact absurd h hbig
    ·right;omega
 intro g
 induction g with
 | zero =>
  intro r hgr hqg hr hgb
  have hno:¬(0>=1000000000\/0*(d % 1000000000)>r*1000000000+x % 1000000000):=fun h=>by have:=more 0 r hgr h;omega
  exact vDivideG _ _ _ _ _ _ _ _ _ _ _ ⟨by omega,by omega,by omega,fun _=>by omega,fun _=>by rw [Zan];omega,fun _=>by omega,fun _=>by rw [Zan];omega,fun h=>absurd ((htest 0 r hr).1 h) hno,fun _=>after 0 (by omega) hqg (less 0 r hgr (by omega))⟩
 | succ g ih =>
  intro r hgr hqg hr hgb
  refine vDivideG _ _ _ _ _ _ _ _ _ _ _ ⟨by omega,by omega,by omega,fun _=>by omega,fun _=>by rw [Zan];omega,fun _=>by omega,fun _=>by rw [Zan];omega,fun h => ?_,fun h => ?_⟩
  ·have ht:=(htest (g+1) r hr).1 h
   have hlt:=more (g+1) r hgr ht
   have hgr':g*(d / 1000000000)+(r+d / 1000000000)=x / 1000000000:=by rw [<- hgr,Nat.succ_mul];omega
   have eg:((g+1:Nat):Int)-1=(g:Int):=by omega
   rw [e1,b1,eg]
   have er:(r:Int)+((d / 1000000000:Nat):Int)=((r+d / 1000000000:Nat):Int):=by omega
   rw [er]
   refine ⟨by omega,by omega,by omega,by rw [Zan];omega,by omega,by omega,fun hbr => ?_,fun hbr => ?_⟩
   ·have hsm:=small g _ hgr' (by omega)
    refine after g hsm (by omega) (less g _ hgr' ?_)
    have:g*(d % 1000000000)<=1000000000*1000000000:=Nat.mul_le_mul (by omega) (by omega)
    omega
   ·exact ih _ hgr' (by omega) (by omega) (by omega)
  ·have ht:¬(g+1>=1000000000\/(g+1)*(d % 1000000000)>r*1000000000+x % 1000000000):=fun y=>h ((htest (g+1) r hr).2 y)
   exact after (g+1) (by omega) hqg (less (g+1) r hgr (by omega))
end Go.Av

namespace Go.Av
open Go.Proofs
theorem loopK {fb:Bool} {v n L V A kt s:Nat} {dq:AV} (hn:2<=n) (hL:L<=1000000) (hkt:kt+n=L) (hV:J.fits n V) (hV1:1000000000 ^ (n-1)<=V) (hs:0<s/\s<1000000000)
  (hq:AV.tup [usA false (J.Zay kt (A / V)),usA false (J.Zay (J.cnt (A % V)) (A % V / s))]=dq) :
  ∀ (K U Qh:Nat) (q:List Int),K+n<=L->A=Qh*V*1000000000 ^ K+U->U<V*1000000000 ^ K->q.length=kt->q.drop K=J.Zay (kt-K) Qh->K<=kt->Za0 (J.Zay L U) (J.Zay n V) q fb v n s ((K:Int)-1) (Zag dq)
 | 0,U,Qh,q,hK,hA,hU,hql,hqd,hKk=>by
  rw [Nat.pow_zero,Nat.mul_one] at hA hU
  have hd:A / V=Qh/\A % V=U:=by
   have hV0:0<V:=by omega
   rw [hA,Nat.mul_comm Qh V,Nat.mul_add_div hV0,Nat.mul_add_mod,Nat.div_eq_of_lt hU,Nat.mod_eq_of_lt hU]
   exact ⟨by omega,rfl⟩
  rw [hd.1,hd.2] at hq
  have hUf:J.fits n U:=Zbs hV (Nat.le_of_lt hU)
  have htk:List.take ((n:Int).toNat-0) (List.drop 0 (J.Zay L U))=J.Zay n U:=by
   rw [Int.toNat_natCast,Nat.sub_zero,List.drop_zero,<- hkt,Nat.add_comm,Zen,List.take_append_of_le_length (by rw [Zan];omega),List.take_of_length_le (by rw [Zan];omega)]
  refine vDivideK _ _ _ _ _ _ _ _ _ ⟨fun h=>by omega,fun _ => ?_⟩
  rw [htk,Zan]
  have hc:=Zaz.1 hUf
  refine ⟨_,trimN false n U ⟨by unfold J.ZaB;omega,hUf⟩,_,_,byWordN false (J.cnt U) U s ⟨by unfold J.ZaB;omega,Zai _,hs.1,hs.2⟩,by omega,by omega,by omega,?_⟩
  have e:q=J.Zay kt Qh:=by simpa using hqd
  rw [e,<- hq];exact .refl _
 | K+1,U,Qh,q,hK,hA,hU,hql,hqd,hKk=>by
  have hPK:0<1000000000 ^ K:=Nat.pow_pos (by omega)
  have hV0:0<V:=Nat.lt_of_lt_of_le (Nat.pow_pos (by omega)) hV1
  have hW:U / 1000000000 ^ K<V*1000000000:=by
   apply Nat.div_lt_of_lt_mul
   rw [Nat.pow_succ] at hU
   have:1000000000 ^ K*(V*1000000000)=V*(1000000000 ^ K*1000000000):=by grind
   omega
  have hUf:J.fits (K+(n+1)) U:=by
   unfold J.fits at hV ⊢
   have h1:V*1000000000 ^ (K+1)<=1000000000 ^ n*1000000000 ^ (K+1):=Nat.mul_le_mul_right _ (Nat.le_of_lt hV)
   rw [<- Nat.pow_add] at h1
   rw [show K+(n+1)=n+(K+1) by omega]
   omega
  have hE:Est (1000000000 ^ (n-2)) (U / 1000000000 ^ K) V:=by
   refine ⟨Nat.pow_pos (by omega),?_,hW⟩
   rw [Nat.le_div_iff_mul_le (Nat.pow_pos (by omega)),Nat.mul_comm,<- Nat.pow_succ,show (n-2).succ=n-1 by omega]
   exact hV1
  have ek:(((K+1:Nat):Int)-1)=(K:Nat):=by omega
  rw [ek]
  have hdm:=Nat.div_add_mod (U / 1000000000 ^ K) V
  have hml:=Nat.mod_lt (U / 1000000000 ^ K) hV0
  have hdmU:=Nat.div_add_mod U (1000000000 ^ K)
  have hmlU:=Nat.mod_lt U hPK
  have hql0:=hE.q_lt
  have cont:Za0 (J.Zay L (U % 1000000000 ^ K+1000000000 ^ K*(U / 1000000000 ^ K % V))) (J.Zay n V) (q.set K ((U / 1000000000 ^ K / V:Nat):Int)) fb v n s ((K:Int)-1) (Zag dq):=by
   refine loopK hn hL hkt hV hV1 hs hq K _ (Qh*1000000000+U / 1000000000 ^ K / V) _ (by omega) ?_ ?_ (by simpa using hql) ?_ (by omega)
   ·rw [hA,Nat.pow_succ]
    generalize U / 1000000000 ^ K=W at hdm hdmU
    generalize W / V=q0 at hdm
    generalize W % V=r0 at hdm
    generalize U % 1000000000 ^ K=l0 at hdmU
    generalize 1000000000 ^ K=p at hdmU
    rw [<- hdmU,<- hdm];grind
   ·generalize U / 1000000000 ^ K % V=r0 at hml
    have h1:1000000000 ^ K*(r0+1)<=1000000000 ^ K*V:=Nat.mul_le_mul_left _ (by omega)
    rw [Nat.mul_succ] at h1
    rw [Nat.mul_comm V]
    omega
   ·rw [ZcF (by omega),hqd,show kt-K=(kt-(K+1))+1 by omega,ZaF]
    generalize U / 1000000000 ^ K / V=q0 at hql0
    have e2:(Qh*1000000000+q0) % 1000000000=q0:=by omega
    have e3:(Qh*1000000000+q0) / 1000000000=Qh:=by omega
    rw [e2,e3]
  have hG:=fun g r=>loopG (fb:=fb) (v:=v) (q:=q) (s:=(s:Int)) (dq:=dq) hn hL (show K+n+1<=L by omega) (show q.length<=1000000/\K<q.length by omega) hV hUf hE cont g r
  have hx:U / 1000000000 ^ (K+n-1)=U / 1000000000 ^ K / 1000000000 ^ (n-2) / 1000000000:=by
   rw [Nat.div_div_eq_div_mul,Nat.div_div_eq_div_mul,<- Nat.pow_succ,<- Nat.pow_add]
   congr 2;omega
  have u1:(J.Zay L U).getD (K+n) default=((U / 1000000000 ^ (K+n-1) / 1000000000:Nat):Int):=by
   rw [ZaA U (by omega),Za9,show K+n-1+1=K+n by omega]
   have:=ZbT (n:=K+n) (v:=U) (by rw [show K+n+1=K+(n+1) by omega];exact hUf)
   rw [Nat.mod_eq_of_lt this]
  have u2:(J.Zay L U).getD (K+n-1) default=((U / 1000000000 ^ (K+n-1) % 1000000000:Nat):Int):=ZaA U (by omega)
  have b1:(J.Zay n V).getD (n-1) default=((V / 1000000000 ^ (n-2) / 1000000000:Nat):Int):=by
   rw [ZaA V (by omega),Za9,show n-2+1=n-1 by omega]
   have:=ZbT (n:=n-1) (v:=V) (by rw [show n-1+1=n by omega];exact hV)
   rw [Nat.mod_eq_of_lt this]
  have hv1:V / 1000000000 ^ (n-2) / 1000000000<1000000000:=by
   rw [Za9,show n-2+1=n-1 by omega]
   exact ZbT (by rw [show n-1+1=n by omega];exact hV)
  have hv0:=hE.v1
  have hst:=hE.start
  have hx1:U / 1000000000 ^ (K+n-1) / 1000000000<1000000000:=by
   rw [Za9,show K+n-1+1=K+n by omega]
   exact ZbT (by rw [show K+n+1=K+(n+1) by omega];exact hUf)
  have e1:((K:Int)+n).toNat=K+n:=by omega
  have e2:((K:Int)+n-1).toNat=K+n-1:=by omega
  have e3:((n:Int)-1).toNat=n-1:=by omega
  refine vDivideK _ _ _ _ _ _ _ _ _ ⟨fun _ => ?_,fun h=>by omega⟩
  rw [e1,e2,e3,u1,u2,b1,Zan,Zan]
  rw [<- hx] at hG hst
  clear hqd cont hdm hdmU hmlU hml hE hUf hW hU hA
  generalize U / 1000000000 ^ (K+n-1)=X at hG hst hx1
  generalize V / 1000000000 ^ (n-2) / 1000000000=d at hG hst hv1 hv0
  have ex:((X / 1000000000:Nat):Int)*1000000000+((X % 1000000000:Nat):Int)=(X:Int):=by omega
  rw [ex]
  have c2:((X:Int)).tdiv (d:Int)=((X / d:Nat):Int):=(Int.ofNat_tdiv _ _).symm
  have c3:((X:Int)).tmod (d:Int)=((X % d:Nat):Int):=(Int.ofNat_tmod _ _).symm
  rw [c2,c3]
  have hXd:X / d<=X:=Nat.div_le_self _ _
  have hmd:=Nat.mod_lt X hv0
  have hdd:X / d*d+X % d=X:=by rw [Nat.mul_comm];exact Nat.div_add_mod X d
  have fin:=hG (X / d) (X % d) hdd hst (by omega) (by omega)
  generalize X / d=g at hXd fin
  generalize X % d=r at hmd fin
  exact ⟨by omega,by omega,by omega,by omega,by omega,by omega,by omega,by omega,by omega,by omega,by omega,by omega,by omega,by omega,by omega,by omega,fin⟩
namespace J
def dqn (A D:Nat):Nat:=if cnt D=1 then cnt A else if A<D then 0 else cnt A+2-cnt D
def scl (D:Nat):Nat:=1000000000 / (D / 1000000000 ^ (cnt D-1)+1)
def drn (A D:Nat):Nat:=if cnt D=1 then 1 else if A<D then cnt A else cnt (A*scl D % (D*scl D))
end J
theorem scl_facts {D:Nat} (h:2<=J.cnt D):0<J.scl D/\J.scl D<1000000000/\J.fits (J.cnt D) (D*J.scl D)/\1000000000 ^ (J.cnt D-1)<=D*J.scl D/\D / 1000000000 ^ (J.cnt D-1)<1000000000:=by
 have hf:=Zai D
 have ht:D / 1000000000 ^ (J.cnt D-1)<1000000000:=ZbT (by rw [show J.cnt D-1+1=J.cnt D by omega];exact hf)
 have hnf:¬J.fits (J.cnt D-1) D:=fun k=>by have:=Zaz.1 k;omega
 have hge:1000000000 ^ (J.cnt D-1)<=D:=by unfold J.fits at hnf;omega
 have ht1:0<D / 1000000000 ^ (J.cnt D-1):=Nat.div_pos hge (Nat.pow_pos (by omega))
 have hlt:D<1000000000 ^ (J.cnt D-1)*(D / 1000000000 ^ (J.cnt D-1)+1):=Nat.lt_mul_div_succ D (Nat.pow_pos (by omega))
 have hp:1000000000 ^ J.cnt D=1000000000 ^ (J.cnt D-1)*1000000000:=by rw [<- Nat.pow_succ];congr 1;omega
 have hs1:0<J.scl D:=Nat.div_pos (by omega) (by omega)
 have hs2:J.scl D*(D / 1000000000 ^ (J.cnt D-1)+1)<=1000000000:=Nat.div_mul_le_self _ _
 unfold J.fits
 rw [hp]
 generalize D / 1000000000 ^ (J.cnt D-1)=t at ht1 ht hlt hs2
 generalize 1000000000 ^ (J.cnt D-1)=P at hge hlt
 have hs3:J.scl D<1000000000:=by
  have:J.scl D*2<=J.scl D*(t+1):=Nat.mul_le_mul_left _ (by omega)
  omega
 generalize J.scl D=s at hs1 hs2 hs3
 refine ⟨hs1,hs3,?_,?_,ht⟩
 ·have h1:D*s<P*(t+1)*s:=Nat.mul_lt_mul_of_pos_right hlt hs1
  have h2:P*(t+1)*s=P*(s*(t+1)):=by grind
  have h3:P*(s*(t+1))<=P*1000000000:=Nat.mul_le_mul_left _ hs2
  omega
 ·have:D*1<=D*s:=Nat.mul_le_mul_left _ hs1
  omega
theorem Zhf {A D s:Nat} (hs:0<s):A*s / (D*s)=A / D/\A*s % (D*s) / s=A % D:=by
 refine ⟨Nat.mul_div_mul_right _ _ hs,?_⟩
 rw [Nat.mul_mod_mul_right,Nat.mul_div_cancel _ hs]
end Go.Av

namespace Go.Av
open Go.Proofs
theorem ZbH {a a' b b':AV} (h:Weak a a') (k:Weak b b'):Weak (.tup [a,b]) (.tup [a',b']):=by
 refine .tup _ _ rfl fun i x y hx hy => ?_
 match i with
 | 0=>simp at hx hy;subst hx;subst hy;exact h
 | 1=>simp at hx hy;subst hx;subst hy;exact k
 | i+2=>simp at hx
theorem Zeo {x:Nat} (h:x<1000000000):J.Zay 1 x=[(x:Int)]:=by
 simp only [J.Zay]
 rw [Nat.mod_eq_of_lt h]
theorem divideN (fa fb:Bool) (n A m D:Nat) (hn:J.ZaB n/\J.ZaB m) (hA:J.fits n A) (hD:J.fits m D) (hc:J.cnt A<=400000/\J.cnt D<=400000) (h0:D ≠ 0) :
  Ev M1 (.pure 176 [usA fa (J.Zay n A),usA fb (J.Zay m D)]) (.tup [usA false (J.Zay (J.dqn A D) (A / D)),usA false (J.Zay (J.drn A D) (A % D))]) []:=by
 have tA:=trimN fa n A ⟨hn.1,hA⟩
 have tD:=trimN fb m D ⟨hn.2,hD⟩
 have hD1:1<=J.cnt D:=by have:=ZaE (v:=D);omega
 have hlD:=ZaN D
 have hlA:=ZaN A
 have one:J.cnt D=1->D<1000000000/\(J.lim D).getD 0 default=(D:Int):=by
  intro h
  have hf:=Zai D
  rw [h] at hf
  have hlt:D<1000000000:=by unfold J.fits at hf;simpa using hf
  refine ⟨hlt,?_⟩
  unfold J.lim
  rw [h,Zeo hlt];rfl
 have res1:J.cnt D=1->AV.tup [usA false (J.Zay (J.dqn A D) (A / D)),usA false (J.Zay (J.drn A D) (A % D))] = .tup [usA false (J.Zay (J.cnt A) (A / D)),usA false [((A % D:Nat):Int)]]:=by
  intro h
  have:=Nat.mod_lt A (Nat.pos_of_ne_zero h0)
  rw [J.dqn,J.drn,if_pos h,if_pos h,Zeo (by have:=(one h).1;omega)]
 by_cases hA0:A=0
 ·subst hA0
  rw [ZbR] at tA
  refine call176 (vDivide0 _ _ _ _ _ ⟨tA,_,tD,fun h => ?_,fun h => ?_⟩)
  ·rw [hlD] at h
   obtain ⟨o1,o2⟩:=one (by omega)
   have hb:=byWordN false 0 0 D ⟨by unfold J.ZaB;omega,Zbl.2 rfl,by omega,o1⟩
   rw [res1 (by omega),Zbq,o2,hlD]
   exact ⟨_,_,hb,by omega,.refl _⟩
  ·rw [hlD] at h
   have hcmp:=compareN false false 0 0 (J.cnt D) D ⟨by unfold J.ZaB;omega,by unfold J.ZaB;omega,Zbl.2 rfl,Zai _⟩
   have e:J.sgnI (((0:Nat):Int)-(D:Int)) = -1:=by unfold J.sgnI;rw [if_pos (by omega)]
   rw [e] at hcmp
   refine ⟨hcmp,?_⟩
   have e1:J.dqn 0 D=0:=by unfold J.dqn;rw [if_neg (by omega),if_pos (by omega)]
   have e2:J.drn 0 D=0:=by unfold J.drn;rw [if_neg (by omega),if_pos (by omega),Zbq]
   rw [e1,e2]
   exact ZbH (.vnil 1) (.vnil 1)
 ·have hne:J.lim A ≠ []:=by
   intro e
   rw [e] at hlA
   exact hA0 (ZaE.1 hlA.symm)
  obtain ⟨x,l,hxl⟩:=List.exists_cons_of_ne_nil hne
  rw [hxl] at tA hlA
  simp only [List.length_cons] at hlA
  by_cases h1:J.cnt D=1
  ·obtain ⟨o1,o2⟩:=one h1
   have hb:=byWordN false (J.cnt A) A D ⟨by unfold J.ZaB;omega,Zai _,by omega,o1⟩
   refine call176 (vDivideC _ _ _ _ x l [] _ ⟨tA,_,tD,fun h => ?_,fun h=>by rw [hlD] at h;omega⟩)
   rw [res1 h1,o2,hlD]
   have e:(AV.int .u32 x::l.map (.int .u32))=(J.Zay (J.cnt A) A).map (.int .u32):=by
    have:J.Zay (J.cnt A) A=x::l:=hxl
    rw [this];rfl
   rw [e]
   exact ⟨_,_,hb,by omega,.refl _⟩
  ·have hn2:2<=J.cnt D:=by omega
   obtain ⟨s1,s2,s3,s4,s5⟩:=scl_facts hn2
   have hcmp:=compareN false false (J.cnt A) A (J.cnt D) D ⟨by unfold J.ZaB;omega,by unfold J.ZaB;omega,Zai _,Zai _⟩
   have eA:J.Zay (J.cnt A) A=x::l:=hxl
   rw [eA] at hcmp
   by_cases hlt:A<D
   ·refine call176 (vDivideC _ _ _ _ x l [] _ ⟨tA,_,tD,fun h=>by rw [hlD] at h;omega,fun _=>⟨_,hcmp,fun _=>⟨by omega,?_⟩,fun h => ?_⟩⟩)
    ·have e1:J.dqn A D=0:=by unfold J.dqn;rw [if_neg h1,if_pos hlt]
     have e2:J.drn A D=J.cnt A:=by unfold J.drn;rw [if_neg h1,if_pos hlt]
     rw [e1,e2,Nat.mod_eq_of_lt hlt,eA]
     exact ZbH (.vnil 1) (.refl _)
    ·rw [Zbn] at h;omega
   ·have fits1:J.fits 1 (J.scl D):=by unfold J.fits;simpa using s2
    have hfAs:J.fits (J.cnt A+1) (A*J.scl D):=ZcV (Zai A) fits1
    have hcA:J.cnt D<=J.cnt A:=ZaJ (by omega)
    have hs:Int.tdiv 1000000000 ((J.lim D).getD (((J.lim D).length:Int)-1).toNat default+1)=(J.scl D:Int):=by
     have e1:(((J.lim D).length:Int)-1).toNat=J.cnt D-1:=by rw [hlD];omega
     have e2:(J.lim D).getD (J.cnt D-1) default=((D / 1000000000 ^ (J.cnt D-1):Nat):Int):=by
      have:=ZaA (n:=J.cnt D) D (show J.cnt D-1<J.cnt D by omega)
      rw [Nat.mod_eq_of_lt s5] at this
      exact this
     rw [e1,e2]
     unfold J.scl
     generalize D / 1000000000 ^ (J.cnt D-1)=t
     have:((t:Int)+1)=((t+1:Nat):Int):=by omega
     rw [this]
     exact (Int.ofNat_tdiv 1000000000 (t+1)).symm
    have htop:0<=(J.lim D).getD (((J.lim D).length:Int)-1).toNat default/\(J.lim D).getD (((J.lim D).length:Int)-1).toNat default<1000000000:=by
     refine ZeB D _ (Zfj ?_)
     rw [hlD];omega
    have hu:J.Zay (J.cnt A+1) (A*J.scl D)++[0]=J.Zay (J.cnt A+2) (A*J.scl D):=by
     rw [Zfe (J.cnt A+1) 1 _ hfAs];rfl
    have hul:=Zan (J.cnt A+2) (A*J.scl D)
    have hvV:J.lim (D*J.scl D)=J.Zay (J.cnt D) (D*J.scl D):=by
     refine (lim_of s3 (.inr ?_)).symm
     unfold J.fits;omega
    have t1:=evf164 false true A (J.scl D:Int) ⟨by unfold J.ZaB;omega,by omega,by omega⟩
    have eone:[AV.int .u32 (J.scl D:Int)]=(J.Zay 1 (J.scl D)).map (.int .u32):=by rw [Zeo s2];rfl
    have t2:=timesN false true (J.cnt D) D 1 (J.scl D) ⟨by unfold J.ZaB;omega,by unfold J.ZaB;omega,Zai _,fits1⟩
    rw [Zeo s2] at t2
    have t3:=trimN false (J.cnt D+1) (D*J.scl D) ⟨by unfold J.ZaB;omega,ZaP s3 (by omega)⟩
    rw [Int.toNat_natCast,hxl] at t1
    refine call176 (vDivideC _ _ _ _ x l (J.Zay (J.cnt A+1) (A*J.scl D)) _ ⟨tA,_,tD,fun h=>by rw [hlD] at h;omega,fun _=>⟨_,hcmp,fun h=>by rw [Zbn] at h;omega,fun _ => ?_⟩⟩)
    rw [hs,hu,hul]
    refine ⟨by omega,by omega,by omega,by omega,by omega,by omega,by omega,by omega,t1,by rw [Zan];omega,_,t2,_,t3,by omega,by omega,by omega,by omega,by omega,?_⟩
    rw [hvV,hlD]
    have ekt:((J.cnt A+2:Nat):Int)-(J.cnt D:Int)=((J.cnt A+2-J.cnt D:Nat):Int):=by omega
    rw [ekt,Int.toNat_natCast]
    obtain ⟨d1,d2⟩:=Zhf (A:=A) (D:=D) s1
    refine loopK (A:=A*J.scl D) (kt:=J.cnt A+2-J.cnt D) hn2 (by omega) (by omega) s3 s4 ⟨s1,s2⟩ ?_ (J.cnt A+2-J.cnt D) (A*J.scl D) 0 _ (by omega) (by rw [Nat.zero_mul,Nat.zero_mul,Nat.zero_add]) ?_ (by simp) (by simp [J.Zay]) (Nat.le_refl _)
    ·have e1:J.dqn A D=J.cnt A+2-J.cnt D:=by unfold J.dqn;rw [if_neg h1,if_neg hlt]
     have e2:J.drn A D=J.cnt (A*J.scl D % (D*J.scl D)):=by unfold J.drn;rw [if_neg h1,if_neg hlt]
     rw [d1,d2,e1,e2]
    ·unfold J.fits at hfAs
     have hp:1000000000 ^ (J.cnt D-1)*1000000000 ^ (J.cnt A+2-J.cnt D)=1000000000 ^ (J.cnt A+1):=by rw [<- Nat.pow_add];congr 1;omega
     have:=Nat.mul_le_mul_right (1000000000 ^ (J.cnt A+2-J.cnt D)) s4
     omega
theorem dqn_fits {A D:Nat} (h0:D ≠ 0) (hc:J.cnt A<=400000/\J.cnt D<=400000):J.fits (J.dqn A D) (A / D)/\J.ZaB (J.dqn A D)/\J.fits (J.drn A D) (A % D)/\J.ZaB (J.drn A D):=by
 have hD1:1<=J.cnt D:=by have:=ZaE (v:=D);omega
 have hm:=Nat.mod_lt A (Nat.pos_of_ne_zero h0)
 unfold J.dqn J.drn J.ZaB
 by_cases h1:J.cnt D=1
 ·rw [if_pos h1,if_pos h1]
  have hf:=Zai D
  rw [h1] at hf
  exact ⟨Zbs (Zai A) (Nat.div_le_self _ _),by omega,Zbs hf (by omega),by omega⟩
 ·rw [if_neg h1,if_neg h1]
  by_cases hlt:A<D
  ·rw [if_pos hlt,if_pos hlt,Nat.div_eq_of_lt hlt,Nat.mod_eq_of_lt hlt]
   exact ⟨Zbl.2 rfl,by omega,Zai A,by omega⟩
  ·rw [if_neg hlt,if_neg hlt]
   obtain ⟨s1,s2,s3,s4,s5⟩:=scl_facts (D:=D) (by omega)
   obtain ⟨d1,d2⟩:=Zhf (A:=A) (D:=D) s1
   have hcA:J.cnt D<=J.cnt A:=ZaJ (by omega)
   refine ⟨?_,by omega,?_,?_⟩
   ·have hnf:¬J.fits (J.cnt D-1) D:=fun k=>by have:=Zaz.1 k;omega
    have hA:=Zai A
    unfold J.fits at hnf hA ⊢
    have hp:1000000000 ^ (J.cnt D-1)*1000000000 ^ (J.cnt A+2-J.cnt D)=1000000000 ^ J.cnt A*1000000000:=by rw [<- Nat.pow_add,<- Nat.pow_succ];congr 1;omega
    have h2:=Nat.mul_le_mul_right (1000000000 ^ (J.cnt A+2-J.cnt D)) (Nat.le_of_not_lt hnf)
    apply Nat.div_lt_of_lt_mul
    omega
   ·rw [<- d2]
    exact Zbs (Zai _) (Nat.div_le_self _ _)
   ·have:J.cnt (A*J.scl D % (D*J.scl D))<=J.cnt (D*J.scl D):=ZaJ (Nat.le_of_lt (Nat.mod_lt _ (Nat.mul_pos (by omega) s1)))
    have:=Zaz.1 s3
    omega
theorem ev176 (fa fb:Bool) (v w:Int) (h:J.okB v/\J.okB w/\w ≠ 0):Ev M1 (.pure 176 [usA fa (J.Zab v),usA fb (J.Zab w)]) (.tup [usA false (J.Zay (J.dqn v.natAbs w.natAbs) (v.natAbs / w.natAbs)),usA false (J.Zay (J.drn v.natAbs w.natAbs) (v.natAbs % w.natAbs))]) []:=
 divideN fa fb _ _ _ _ ⟨Zcz h.1,Zcz h.2.1⟩ (Zai _) (Zai _) ⟨h.1,h.2.1⟩ (by have:=h.2.2;omega)
end Go.Av

namespace Go.Av
open Go.Proofs
theorem Zd9 {n:Nat} (h:n<1000000000):J.cnt n<=1:=Zaz.1 (by unfold J.fits;simpa using h)
theorem Ze7 {v:Int} (h:v.natAbs<1000000000):J.okB v:=by
 have:=Zd9 h
 unfold J.okB;omega
theorem ev183_a (fa:Bool) (a:Int) (h:J.okB a):Ev M1 (.pure 183 [bigA fa a,.agg [.bool false,.vec false 1 ((J.Zab 1).map (.int .u32))]]) (bigA false (a-1)) []:=
 ev183 fa false a 1 ⟨h,Ze7 (by decide)⟩
namespace J
def wrd (v:Int):Int:=if cnt v.natAbs<=2 then (v.natAbs:Int) else 0
def isW (v:Int):Bool:=decide (cnt v.natAbs<=2)
end J
theorem ev175 (fa:Bool) (v:Int):Ev M1 (.pure 175 [bigA fa v]) (.tup [.int .u64 (J.wrd v),.bool (J.isW v)]) []:=by
 have hl:=ZaX v
 have hf:=Zai v.natAbs
 unfold J.wrd J.isW
 generalize hn:v.natAbs=n at *
 have e:J.Zab v=J.Zay (J.cnt n) n:=by unfold J.Zab J.lim;rw [hn]
 refine call175 (vWord fa _ _ _ ⟨fun h => ?_,fun h0=>⟨fun h => ?_,fun h1=>⟨fun h => ?_,fun h2 => ?_⟩⟩⟩)
 ·have h:J.cnt n=0:=by omega
  rw [h,if_pos (by omega),ZaE.1 h];rfl
 ·have h:J.cnt n=1:=by omega
  rw [h] at hf e
  have hlt:n<1000000000:=by unfold J.fits at hf;simpa using hf
  rw [e,Zeo hlt,h,if_pos (by omega)]
  simp only [List.getD_cons_zero]
  exact ⟨by simp,by omega,rfl⟩
 ·have h:J.cnt n=2:=by omega
  rw [h] at hf e
  have hlt:n<1000000000000000000:=by unfold J.fits at hf;simpa using hf
  have e2:J.Zay 2 n=[((n % 1000000000:Nat):Int),((n / 1000000000 % 1000000000:Nat):Int)]:=rfl
  rw [e,e2,h,if_pos (by omega)]
  simp only [List.getD_cons_zero,List.getD_cons_succ]
  refine ⟨by simp,by simp,by omega,by omega,by omega,by omega,?_⟩
  have e3:((n / 1000000000 % 1000000000:Nat):Int)*1000000000+((n % 1000000000:Nat):Int)=(n:Int):=by omega
  rw [e3];rfl
 ·rw [if_neg (by omega),show decide (J.cnt n<=2)=false by simp;omega]
end Go.Av

namespace Go.Av
open Go.Proofs
set_option maxRecDepth 100000
def fi162:Fi:=⟨61,[.cell 4 24]⟩
def ZhA:List (Nat × List Nat):=[(0,[2,3,4]),(1,[4,5,6]),(2,[4,5,6,22]),(3,[4,5,6,7,8]),(4,[4,5,6,7,8,9,10]),(5,[4,5,6,7,9,36]),(6,[4,7,9,38]),(7,[4,7,9]),(8,[4]),(9,[4,5,6,12]),(10,[4,5,6]),(11,[4])]
def fi177:Fi:=⟨55,[.cell 4 24,.cell 5 24,.tmp 6]⟩
def kp177:List (Nat × List Nat):=[(0,[2,3,4,5]),(1,[2,3,4,5,14]),(2,[4,5,6]),(3,[2,3,4,5,7,8]),(4,[3,4,5,9,10]),(5,[3,4,5,9,10,46]),(6,[4,5,9,10]),(7,[4,5,6])]
def ZhO (fa fb:Bool) (a b:Int) (Q:AV->Heap->Prop):Prop:=Wp M1 (.run fi177 (atC (cd Tryz.f177) []) [(0,bigA fa a),(1,bigA fb b)] []) Q
def vGCD_at (fa fb:Bool) (a b:Int) (Q:AV->Heap->Prop):Prop:=Wp M1 (.run fi162 (atC (cd Tryz.f162) []) [(0,bigA fa a),(1,bigA fb b)] []) Q
def Zdt (x y:Int) (Q:AV->Heap->Prop):Prop:=Wp M1 (.run fi162 (atC (cd Tryz.f162) [1,1,0,0,0]) [(4,.ptr 0 0 0 0),(5,.ptr 1 0 0 0),(6,.ptr 2 0 0 0)] [⟨[.agg [.bool false,.vnil]],2,0,false,false⟩,⟨[.agg [.bool (J.Zaa x),.vec false 1 ((J.Zab x).map (.int .u32))]],2,0,false,false⟩,⟨[.agg [.bool (J.Zaa y),.vec false 1 ((J.Zab y).map (.int .u32))]],2,0,false,false⟩]) Q
def Zf0 (s:Bool) (c:Int) (l:List Int) (Q:AV->Heap->Prop):Prop:=Wp M1 (.run fi162 (atC (cd Tryz.f162) [1,1,0,0,0]) [(4,.ptr 0 0 0 0),(5,.ptr 1 0 0 0),(6,.ptr 2 0 0 0)] [⟨[.agg [.bool false,.vnil]],2,0,false,false⟩,⟨[.agg [.bool s,.vec false 1 ((c::l).map (.int .u32))]],2,0,false,false⟩,⟨[.agg [.bool false,.vec false 1 []]],2,0,false,false⟩]) Q
def vGCDZ_at (s:Bool) (Q:AV->Heap->Prop):Prop:=Wp M1 (.run fi162 (atC (cd Tryz.f162) [1,1,0,0,0]) [(4,.ptr 0 0 0 0),(5,.ptr 1 0 0 0),(6,.ptr 2 0 0 0)] [⟨[.agg [.bool false,.vnil]],2,0,false,false⟩,⟨[.agg [.bool s,.vec false 1 []]],2,0,false,false⟩,⟨[.agg [.bool false,.vec false 1 []]],2,0,false,false⟩]) Q
def ZeU (u v:Int) (Q:AV->Heap->Prop):Prop:=Wp M1 (.run fi162 (atC (cd Tryz.f162) [1,1,0,0,0,1,0,1,1,0,1,0,0,0,0]) [(4,.ptr 0 0 0 0),(7,.int .u64 u),(9,.int .u64 v)] [⟨[.agg [.bool false,.vnil]],2,0,false,false⟩]) Q
theorem call162 {args:List AV} {d:AV} (h:wc M1 fi162 Tryz.f162 args d):Ev M1 (.pure 162 args) d []:=pcl _ _ (by kernel_rfl) h
theorem call177 {args:List AV} {d:AV} (h:wc M1 fi177 Tryz.f177 args d):Ev M1 (.pure 177 args) d []:=pcl _ _ (by kernel_rfl) h
noncomputable abbrev zNvG1 (a:Int) (b:Int):=us (J.Zay (J.dqn a.natAbs b.natAbs) (a.natAbs / b.natAbs))
noncomputable abbrev zNvG2 (a:Int) (b:Int):=us (J.Zay (J.drn a.natAbs b.natAbs) (a.natAbs % b.natAbs))
noncomputable abbrev zNvG3 (a:Int) (b:Int):=J.sg (!J.Zaa a==J.Zaa b) (a.natAbs / b.natAbs)
theorem vDivMod (fa fb:Bool) (a b:Int)  (dq:AV) (H :
  (((↑(J.Zab b).length:Int)=0)->Weak (tu [ag [vb false,AV.vnil],ag [vb false,AV.vnil],vi 6]) dq) /\
  (¬((↑(J.Zab b).length:Int)=0)->(J.okB a/\J.okB b/\b ≠ 0) /\
   (J.ZaB (J.dqn a.natAbs b.natAbs)/\J.fits (J.dqn a.natAbs b.natAbs) (a.natAbs / b.natAbs)) /\
   (J.ZaB (J.drn a.natAbs b.natAbs)/\J.fits (J.drn a.natAbs b.natAbs) (a.natAbs % b.natAbs)) /\
   ((((↑(J.Zab (J.sg (J.Zaa a) (a.natAbs % b.natAbs))).length:Int)>0)/\(¬(J.Zaa (J.sg (J.Zaa a) (a.natAbs % b.natAbs))=J.Zaa b)))->(J.inI 1) /\
    (J.okB (J.sg (!J.Zaa a==J.Zaa b) (a.natAbs / b.natAbs))) /\
    (J.okB (J.sg (J.Zaa a) (a.natAbs % b.natAbs))/\J.okB b) /\
    Weak (tu [bigA false (J.sg (!J.Zaa a==J.Zaa b) (a.natAbs / b.natAbs)-1),bigA false (J.sg (J.Zaa a) (a.natAbs % b.natAbs)+b),vi 0]) dq) /\
   (¬(((↑(J.Zab (J.sg (J.Zaa a) (a.natAbs % b.natAbs))).length:Int)>0)/\(¬(J.Zaa (J.sg (J.Zaa a) (a.natAbs % b.natAbs))=J.Zaa b)))->Weak (tu [bigA false (J.sg (!J.Zaa a==J.Zaa b) (a.natAbs / b.natAbs)),bigA false (J.sg (J.Zaa a) (a.natAbs % b.natAbs)),vi 0]) dq))) :
 ZhO fa fb a b (Zag dq):=by
 unfold ZhO
 have w1:(us (J.Zab b)).length=(J.Zab b).length:=List.length_map ..
 have i2:((↑(us (J.Zab b)).length:Int)==0)=true ↔ ((↑(J.Zab b).length:Int)=0):=(by (try rw [w1]);all_goals exact i_eq)
 rcases xq H with ⟨d3,H⟩|⟨d3,H⟩
 ·exact Zah (G:=Zad kp177 [] []) 1000 [true] (tu [ag [vb false,AV.vnil],ag [vb false,AV.vnil],vi 6]) (by kernel_rfl) (bc rfl (bc (Zaq (i2.2 d3)) (bc rfl (bc rfl b0)))) q0 c0 H
 ·obtain ⟨k4,k5,k6,H⟩:=H
  refine Zae (G:=Zad kp177 [(3,4,.call (tu [vf (zNvG1 a b),vf (zNvG2 a b)]) none),(4,6,.call (bigA false (zNvG3 a b)) none),(4,10,.call (bigA false (J.sg (J.Zaa a) (a.natAbs % b.natAbs))) none)] []) 10 [false] ⟨(atC (cd Tryz.f177) [1,1,1,0]),[(2,AV.ptr 0 0 0 0),(3,AV.ptr 1 0 0 0),(4,AV.ptr 2 0 0 0),(5,AV.ptr 3 0 0 0),(7,vf (zNvG1 a b)),(8,vf (zNvG2 a b))],[⟨[bigA fa a],2,0,false,false⟩,⟨[bigA fb b],2,0,false,false⟩,⟨[ag [vb false,AV.vnil]],2,0,false,false⟩,⟨[ag [vb false,AV.vnil]],2,0,false,false⟩],_,[],_⟩ (by kernel_rfl) (bc rfl (bc (Zam (fun h=>d3 (i2.1 h))) (bc rfl (bc rfl b0)))) q0 (ce (@ev176 fa fb a b k4) c0) (ZdN (G:=Zad kp177 [(3,4,.call (tu [vf (zNvG1 a b),vf (zNvG2 a b)]) none),(4,6,.call (bigA false (zNvG3 a b)) none),(4,10,.call (bigA false (J.sg (J.Zaa a) (a.natAbs % b.natAbs))) none)] []) [0,1,2,3,5,4] 11 (e1:=[(3,AV.ptr 1 0 0 0),(4,AV.ptr 2 0 0 0),(5,AV.ptr 3 0 0 0),(9,AV.ptr 4 0 0 0),(10,AV.ptr 5 0 0 0)]) (L1:=[⟨[bigA fa a],2,0,false,false⟩,⟨[bigA fb b],2,0,false,false⟩,⟨[ag [vb false,AV.vnil]],2,0,false,false⟩,⟨[ag [vb false,AV.vnil]],2,0,false,false⟩,⟨[bigA false (zNvG3 a b)],2,0,false,false⟩,⟨[bigA false (J.sg (J.Zaa a) (a.natAbs % b.natAbs))],2,0,false,false⟩]) (a:=[true,true,true,true,true]) (q:=[]) (cs:=[⟨true,false,140,[vb !J.Zaa a==J.Zaa b,vf (zNvG1 a b)],[],bigA false (zNvG3 a b),[]⟩,⟨true,false,140,[vb (J.Zaa a),vf (zNvG2 a b)],[],bigA false (J.sg (J.Zaa a) (a.natAbs % b.natAbs)),[]⟩]) (by kernel_rfl) (by kernel_rfl) (Zal rfl (Zal rfl (Zal rfl (Zal rfl (Zal rfl ZaQ))))) Zbf (Za8 (fun _=>(@ZhE (!J.Zaa a==J.Zaa b) false (J.dqn a.natAbs b.natAbs) (a.natAbs / b.natAbs) k5)) (Za8 (fun _=>(@ZhE (J.Zaa a) false (J.drn a.natAbs b.natAbs) (a.natAbs % b.natAbs) k6)) Zbg)) ?_)
  have w7:(us (J.Zab (J.sg (J.Zaa a) (a.natAbs % b.natAbs)))).length=(J.Zab (J.sg (J.Zaa a) (a.natAbs % b.natAbs))).length:=List.length_map ..
  have i8:(bif decide ((↑(us (J.Zab (J.sg (J.Zaa a) (a.natAbs % b.natAbs)))).length:Int)>0) then !J.Zaa (J.sg (J.Zaa a) (a.natAbs % b.natAbs))==J.Zaa b else false)=true ↔ (((↑(J.Zab (J.sg (J.Zaa a) (a.natAbs % b.natAbs))).length:Int)>0)/\(¬(J.Zaa (J.sg (J.Zaa a) (a.natAbs % b.natAbs))=J.Zaa b))):=(by (try rw [w7]);all_goals exact (ZaG Zac (ZaH i_eq)))
  rcases xq H with ⟨d9,H⟩|⟨d9,H⟩
  ·obtain ⟨k10,k11,k12,H⟩:=H
   exact Zah (G:=Zad kp177 [(6,1,.call (ag [vb false,vf (us (J.Zab 1))]) none),(6,2,.call (bigA false (J.sg (!J.Zaa a==J.Zaa b) (a.natAbs / b.natAbs)-1)) none),(6,5,.call (bigA false (J.sg (J.Zaa a) (a.natAbs % b.natAbs)+b)) none)] [(7,[5003,4002,7001,6000])]) 1000 [true] (asm:=[true,!(decide ((↑(us (J.Zab (J.sg (J.Zaa a) (a.natAbs % b.natAbs)))).length:Int)>0)==true&&true)||true,!(decide ((↑(us (J.Zab (J.sg (J.Zaa a) (a.natAbs % b.natAbs)))).length:Int)>0)==true&&true)||true,(bif decide ((↑(us (J.Zab (J.sg (J.Zaa a) (a.natAbs % b.natAbs)))).length:Int)>0) then !J.Zaa (J.sg (J.Zaa a) (a.natAbs % b.natAbs))==J.Zaa b else false)==true,true,true,true,true,true,true,true,true,true]) (tu [bigA false (J.sg (!J.Zaa a==J.Zaa b) (a.natAbs / b.natAbs)-1),bigA false (J.sg (J.Zaa a) (a.natAbs % b.natAbs)+b),vi 0]) (by kernel_rfl) (bc rfl (bc (Bool.or_true _) (bc (Bool.or_true _) (bc (Zaq (i8.2 d9)) (bc rfl (bc rfl (bc rfl (bc rfl (bc rfl (bc rfl (bc rfl (bc rfl (bc rfl b0))))))))))))) q0 (ce (@ev113 1 k10) (ce (@ev183_a false (zNvG3 a b) k11) (ce (@ev152 false fb (J.sg (J.Zaa a) (a.natAbs % b.natAbs)) b k12) c0))) H
  ·exact Zah (G:=Zad kp177 [] [(7,[5003,4002,7001,6000])]) 1000 [false] (asm:=[true,!(decide ((↑(us (J.Zab (J.sg (J.Zaa a) (a.natAbs % b.natAbs)))).length:Int)>0)==true&&true)||true,!(decide ((↑(us (J.Zab (J.sg (J.Zaa a) (a.natAbs % b.natAbs)))).length:Int)>0)==true&&true)||true,(bif decide ((↑(us (J.Zab (J.sg (J.Zaa a) (a.natAbs % b.natAbs)))).length:Int)>0) then !J.Zaa (J.sg (J.Zaa a) (a.natAbs % b.natAbs))==J.Zaa b else false)==false,true,true,true,true]) (tu [bigA false (zNvG3 a b),bigA false (J.sg (J.Zaa a) (a.natAbs % b.natAbs)),vi 0]) (by kernel_rfl) (bc rfl (bc (Bool.or_true _) (bc (Bool.or_true _) (bc (Zam (fun h=>d9 (i8.1 h))) (bc rfl (bc rfl (bc rfl (bc rfl b0)))))))) q0 c0 H
theorem vGCD (fa fb:Bool) (a b:Int)  (dq:AV) (H :
  (J.ok a) /\
  (J.ok b) /\
  Zdt (J.sg false a.natAbs) (J.sg false b.natAbs) (Zag dq)) :
 vGCD_at fa fb a b (Zag dq):=by
 unfold vGCD_at
 obtain ⟨k1,k2,H⟩:=H
 refine Zae (G:=Zad ZhA [(1,2,.call (bigA false (J.sg false a.natAbs)) none),(1,5,.call (bigA false (J.sg false b.natAbs)) none)] []) 3 [] ⟨(atC (cd Tryz.f162) [1,0]),[(2,AV.ptr 0 0 0 0),(3,AV.ptr 1 0 0 0),(4,AV.ptr 2 0 0 0)],[⟨[bigA fa a],2,0,false,false⟩,⟨[bigA fb b],2,0,false,false⟩,⟨[ag [vb false,AV.vnil]],2,0,false,false⟩],_,[],_⟩ (by kernel_rfl) b0 q0 c0 (ZdN (G:=Zad ZhA [(1,2,.call (bigA false (J.sg false a.natAbs)) none),(1,5,.call (bigA false (J.sg false b.natAbs)) none)] []) [0,1,2,4,3] 6 (e1:=[(4,AV.ptr 2 0 0 0),(5,AV.ptr 3 0 0 0),(6,AV.ptr 4 0 0 0)]) (L1:=[⟨[bigA fa a],2,0,false,false⟩,⟨[bigA fb b],2,0,false,false⟩,⟨[ag [vb false,AV.vnil]],2,0,false,false⟩,⟨[bigA false (J.sg false a.natAbs)],2,0,false,false⟩,⟨[bigA false (J.sg false b.natAbs)],2,0,false,false⟩]) (a:=[true,true,true,true]) (q:=[]) (cs:=[⟨true,false,140,[vb false,AV.vec fa 1 (us (J.Zab a))],[],bigA false (J.sg false a.natAbs),[]⟩,⟨true,false,140,[vb false,AV.vec fb 1 (us (J.Zab b))],[],bigA false (J.sg false b.natAbs),[]⟩]) (by kernel_rfl) (by kernel_rfl) (Zal rfl (Zal rfl (Zal rfl (Zal rfl ZaQ)))) Zbf (Za8 (fun _=>(@ev140_a false fa a k1)) (Za8 (fun _=>(@ev140_a false fb b k2)) Zbg)) ?_)
 exact Zae (G:=Zad ZhA [] []) 1000 [] ⟨(atC (cd Tryz.f162) [1,1,0,0,0]),[(4,AV.ptr 2 0 0 0),(5,AV.ptr 3 0 0 0),(6,AV.ptr 4 0 0 0)],[⟨[bigA fa a],2,0,false,false⟩,⟨[bigA fb b],2,0,false,false⟩,⟨[ag [vb false,AV.vnil]],2,0,false,false⟩,⟨[bigA false (J.sg false a.natAbs)],2,0,false,false⟩,⟨[bigA false (J.sg false b.natAbs)],2,0,false,false⟩],_,[],_⟩ (by kernel_rfl) b0 q0 c0 (ZbB [2,3,4] (by kernel_rfl) H)
theorem vGCDH (x y:Int)  (dq:AV) (H :
  (((↑(J.Zab y).length:Int)>0)->(((J.isW x=true)/\(J.isW y=true))->ZeU (J.wrd x) (J.wrd y) (Zag dq)) /\
   (¬((J.isW x=true)/\(J.isW y=true))->(J.okB x/\J.okB y/\y ≠ 0) /\
    (J.ZaB (J.drn x.natAbs y.natAbs)/\J.fits (J.drn x.natAbs y.natAbs) (x.natAbs % y.natAbs)) /\
    Zdt y (J.sg false (x.natAbs % y.natAbs)) (Zag dq))) /\
  (¬((↑(J.Zab y).length:Int)>0)->False)) :
 Zdt x y (Zag dq):=by
 unfold Zdt
 have w1:(us (J.Zab y)).length=(J.Zab y).length:=List.length_map ..
 have i2:(decide ((↑(us (J.Zab y)).length:Int)>0))=true ↔ ((↑(J.Zab y).length:Int)>0):=(by (try rw [w1]);all_goals exact Zac)
 rcases xq H with ⟨d3,H⟩|⟨d3,H⟩
 ·refine Zae (G:=Zad ZhA [(3,1,.call (tu [vw (J.wrd x),vb (J.isW x)]) none),(4,1,.call (tu [vw (J.wrd y),vb (J.isW y)]) none)] []) 13 [true] ⟨(atC (cd Tryz.f162) [1,1,0,0,0,1,0,1,1,0,1]),[(4,AV.ptr 0 0 0 0),(5,AV.ptr 1 0 0 0),(6,AV.ptr 2 0 0 0),(7,vw (J.wrd x)),(9,vw (J.wrd y)),(36,vb (bif J.isW x then J.isW y else false))],[⟨[ag [vb false,AV.vnil]],2,0,false,false⟩,⟨[bigA false x],2,0,false,false⟩,⟨[bigA false y],2,0,false,false⟩],_,[],_⟩ (by kernel_rfl) (bc rfl (bc (Zaq (i2.2 d3)) (bc rfl (bc rfl b0)))) q0 (ce (@ev175 false x) (ce (@ev175 false y) c0)) ?_
  rcases xq H with ⟨d5,H⟩|⟨d5,H⟩
  ·exact Zae (G:=Zad ZhA [] []) 1000 [true] ⟨(atC (cd Tryz.f162) [1,1,0,0,0,1,0,1,1,0,1,0,0,0,0]),[(4,AV.ptr 0 0 0 0),(5,AV.ptr 1 0 0 0),(6,AV.ptr 2 0 0 0),(7,vw (J.wrd x)),(9,vw (J.wrd y)),(36,vb (bif J.isW x then J.isW y else false))],[⟨[ag [vb false,AV.vnil]],2,0,false,false⟩,⟨[bigA false x],2,0,false,false⟩,⟨[bigA false y],2,0,false,false⟩],[(bif J.isW x then J.isW y else false)==true],[],_⟩ (by kernel_rfl) (bc (Zaq ((ZaG (Zas _) (Zas _)).2 d5)) b0) q0 c0 (Wp.less [4,7,9] (ZbB [0] (by kernel_rfl) H))
  ·obtain ⟨k6,k7,H⟩:=H
   exact Zae (G:=Zad ZhA [(9,4,.call (tu [vf (us (J.Zay (J.dqn x.natAbs y.natAbs) (x.natAbs / y.natAbs))),vf (us (J.Zay (J.drn x.natAbs y.natAbs) (x.natAbs % y.natAbs)))]) none),(10,2,.call (bigA false (J.sg false (x.natAbs % y.natAbs))) none)] []) 1000 [false] ⟨(atC (cd Tryz.f162) [1,1,0,0,0]),[(4,AV.ptr 0 0 0 0),(5,AV.ptr 1 0 0 0),(6,AV.ptr 2 0 0 0)],[⟨[ag [vb false,AV.vnil]],2,0,false,false⟩,⟨[bigA false y],2,0,false,false⟩,⟨[bigA false (J.sg false (x.natAbs % y.natAbs))],2,0,false,false⟩],[(bif J.isW x then J.isW y else false)==false,true,true,true,true,true],[],_⟩ (by kernel_rfl) (bc (Zam (fun h=>d5 ((ZaG (Zas _) (Zas _)).1 h))) (bc rfl (bc rfl (bc rfl (bc rfl (bc rfl b0)))))) q0 (ce (@ev176 false false x y k6) (ce (@ZhE false false (J.drn x.natAbs y.natAbs) (x.natAbs % y.natAbs) k7) c0)) H
 ·exact False.elim H
theorem vGCDE (s:Bool) (c:Int) (l:List Int)  (dq:AV) (H :
  ∃ (b1:Bool) (l1:List Int),
  (Ev M1 (Conf.pure 140 [vb false,vf (vu c::us l)]) (ag [vb b1,vf (us l1)]) []) /\
  ((l.length+1)*4<=1099511627776) /\
  Weak (ag [vb b1,vf (us l1)]) dq) :
 Zf0 s c l (Zag dq):=by
 unfold Zf0
 obtain ⟨b1,l1,k1,H⟩:=H
 have w2:(us l).length=l.length:=List.length_map ..
 have i3:(decide (((us l).length+1)*4<=1099511627776))=true ↔ ((l.length+1)*4<=1099511627776):=(by (try rw [w2]);all_goals exact Zac)
 obtain ⟨k4,H⟩:=H
 exact Zah (G:=Zad ZhA [(11,3,.call (ag [vb b1,vf (us l1)]) none)] []) 1000 [false] (ag [vb b1,vf (us l1)]) (by kernel_rfl) (bc rfl (bc rfl (bc rfl (bc (i3.2 k4) (bc rfl (bc rfl b0)))))) q0 (ce k1 c0) H
theorem vGCDZ (s:Bool)  (dq:AV) (H :
  ∃ (b1:Bool) (l1:List Int),
  (Ev M1 (Conf.pure 140 [vb false,AV.vnil]) (ag [vb b1,vf (us l1)]) []) /\
  Weak (ag [vb b1,vf (us l1)]) dq) :
 vGCDZ_at s (Zag dq):=by
 unfold vGCDZ_at
 obtain ⟨b1,l1,k1,H⟩:=H
 exact Zah (G:=Zad ZhA [(11,3,.call (ag [vb b1,vf (us l1)]) none)] []) 1000 [false] (ag [vb b1,vf (us l1)]) (by kernel_rfl) (bc rfl (bc rfl (bc rfl (bc rfl b0)))) q0 (ce k1 c0) H
theorem vGCDW (u v:Int)  (dq:AV) (H :
  ((v>0)->(¬v=0) /\
   ZeU v (u.tmod v) (Zag dq)) /\
  (¬(v>0)->(0<=u/\u<=18446744073709551615) /\
   (J.ZaB 3/\J.fits 3 u.toNat) /\
   Weak (bigA false (J.sg false u.toNat)) dq)) :
 ZeU u v (Zag dq):=by
 unfold ZeU
 rcases xq H with ⟨d2,H⟩|⟨d2,H⟩
 ·obtain ⟨k4,H⟩:=H
  exact Zae (G:=Zad ZhA [] []) 1000 [true] ⟨(atC (cd Tryz.f162) [1,1,0,0,0,1,0,1,1,0,1,0,0,0,0]),[(4,AV.ptr 0 0 0 0),(7,vw v),(9,vw (u.tmod v))],[⟨[ag [vb false,AV.vnil]],2,0,false,false⟩],_,[],_⟩ (by kernel_rfl) (bc (Zaq (Zac.2 d2)) (bc (ZdH.2 k4) b0)) q0 c0 H
 ·obtain ⟨k5,k6,H⟩:=H
  exact Zah (G:=Zad ZhA [(8,1,.call (vf (us (J.Zay 3 u.toNat))) none),(8,2,.call (bigA false (J.sg false u.toNat)) none)] []) 1000 [false] (bigA false (J.sg false u.toNat)) (by kernel_rfl) (bc (Zam (fun h=>d2 (Zac.1 h))) (bc rfl b0)) q0 (ce (@ev151 u k5) (ce (@ZhE false false 3 (u.toNat) k6) c0)) H
end Go.Av

namespace Go.Av
open Go.Proofs
theorem Zb2 (v:Nat):J.sg false v=(v:Int):=by simp [J.sg]
theorem Zde (s:Bool) (v:Nat):(J.sg s v).natAbs=v:=by
 unfold J.sg
 split <;> omega
theorem isNeg_nat (v:Nat):J.Zaa (v:Int)=false:=Bool.eq_false_iff.2 (fun x=>by have:=Zak.1 x;omega)
theorem ZaY {v:Int} (h:¬v<0):J.Zaa v=false:=Bool.eq_false_iff.2 (fun x=>h (Zak.1 x))
theorem sg_div {a b:Int} (_hb:b ≠ 0):a=b*J.sg (!(J.Zaa a==J.Zaa b)) (a.natAbs / b.natAbs)+J.sg (J.Zaa a) (a.natAbs % b.natAbs):=by
 have h:=Nat.div_add_mod a.natAbs b.natAbs
 generalize a.natAbs / b.natAbs=q at *
 generalize a.natAbs % b.natAbs=r at *
 have hz:(b.natAbs:Int)*(q:Int)+(r:Int)=(a.natAbs:Int):=by exact_mod_cast h
 by_cases ka:a<0 <;> by_cases kb:b<0
 ·rw [Zak.2 ka,Zak.2 kb]
  have e1:(a.natAbs:Int) = -a:=by omega
  have e2:(b.natAbs:Int) = -b:=by omega
  rw [e1,e2] at hz
  simp [J.sg];grind
 ·rw [Zak.2 ka,ZaY kb]
  have e1:(a.natAbs:Int) = -a:=by omega
  have e2:(b.natAbs:Int)=b:=by omega
  rw [e1,e2] at hz
  simp [J.sg];grind
 ·rw [ZaY ka,Zak.2 kb]
  have e1:(a.natAbs:Int)=a:=by omega
  have e2:(b.natAbs:Int) = -b:=by omega
  rw [e1,e2] at hz
  simp [J.sg];grind
 ·rw [ZaY ka,ZaY kb]
  have e1:(a.natAbs:Int)=a:=by omega
  have e2:(b.natAbs:Int)=b:=by omega
  rw [e1,e2] at hz
  simp [J.sg];grind
theorem ev177 (fa fb:Bool) (a b:Int) (h:J.okB a/\J.okB b/\b ≠ 0):Ev M1 (.pure 177 [bigA fa a,bigA fb b]) (.tup [bigA false (J.flo a b),bigA false (J.flr a b),.int .i64 0]) []:=by
 obtain ⟨ha,hb,h0⟩:=h
 have hl:=ZaX b
 have hd0:b.natAbs ≠ 0:=by omega
 obtain ⟨d1,d2,d3,d4⟩:=dqn_fits hd0 ⟨ha,hb⟩
 have hm:=Nat.mod_lt a.natAbs (Nat.pos_of_ne_zero hd0)
 have heq:=sg_div (a:=a) h0
 have okr:J.okB (J.sg (J.Zaa a) (a.natAbs % b.natAbs)):=by
  unfold J.okB
  rw [Zde]
  have:=ZaJ (Nat.le_of_lt hm)
  unfold J.okB at hb;omega
 have okq:J.okB (J.sg (!(J.Zaa a==J.Zaa b)) (a.natAbs / b.natAbs)):=by
  unfold J.okB
  rw [Zde]
  have:=ZaJ (Nat.div_le_self a.natAbs b.natAbs)
  unfold J.okB at ha;omega
 have hra:(J.sg (J.Zaa a) (a.natAbs % b.natAbs)).natAbs=a.natAbs % b.natAbs:=Zde _ _
 have hlr:=ZaX (J.sg (J.Zaa a) (a.natAbs % b.natAbs))
 refine call177 (vDivMod _ _ _ _ _ ⟨fun h => ?_,fun _=>⟨⟨ha,hb,h0⟩,⟨d2,d1⟩,⟨d4,d3⟩,fun k=>⟨by unfold J.inI;omega,okq,⟨okr,hb⟩,?_⟩,fun k => ?_⟩⟩)
 ·have:=ZaE (v:=b.natAbs)
  omega
 ·obtain ⟨k1,k2⟩:=k
  have hne:J.sg (J.Zaa a) (a.natAbs % b.natAbs) ≠ 0:=by
   intro e
   rw [e] at hlr
   have:J.cnt (Int.natAbs 0)=0:=Zbq
   rw [e] at k1
   omega
  generalize J.sg (J.Zaa a) (a.natAbs % b.natAbs)=r at *
  generalize J.sg (!(J.Zaa a==J.Zaa b)) (a.natAbs / b.natAbs)=q at *
  have hs:(r<0/\0<b)\/(0<r/\b<0):=by
   by_cases kr:r<0
   ·by_cases kb:b<0
    ·exact absurd (by rw [Zak.2 kr,Zak.2 kb]) k2
    ·exact .inl ⟨kr,by omega⟩
   ·by_cases kb:b<0
    ·exact .inr ⟨by omega,kb⟩
    ·exact absurd (by rw [ZaY kr,ZaY kb]) k2
  obtain ⟨e1,e2⟩:=Zes (a:=a) (b:=b) (q:=q-1) (r:=r+b) (by grind) (by omega)
  rw [e1,e2]
  exact .refl _
 ·generalize hr:J.sg (J.Zaa a) (a.natAbs % b.natAbs)=r at *
  generalize J.sg (!(J.Zaa a==J.Zaa b)) (a.natAbs / b.natAbs)=q at *
  have hs:r=0\/(r<0/\b<0)\/(0<r/\0<b):=by
   by_cases hz:r=0
   ·exact .inl hz
   ·right
    have hc:J.cnt r.natAbs ≠ 0:=fun e=>hz (by have:=ZaE.1 e;omega)
    have k:J.Zaa r=J.Zaa b:=Classical.byContradiction fun k2=>k ⟨by omega,k2⟩
    by_cases kr:r<0
    ·exact .inl ⟨kr,Zak.1 (k ▸ Zak.2 kr)⟩
    ·have:¬b<0:=fun x=>kr (Zak.1 (by rw [k];exact Zak.2 x))
     exact .inr ⟨by omega,by omega⟩
  obtain ⟨e1,e2⟩:=Zes (a:=a) (b:=b) (q:=q) (r:=r) heq (by omega)
  rw [e1,e2]
  exact .refl _
theorem gcdW (n:Nat):∀ u v:Nat,v<=n->u<=18446744073709551615->v<=18446744073709551615->ZeU u v (Zag (bigA false (Nat.gcd u v:Nat))):=by
 induction n with
 | zero =>
  intro u v hv hu hv2
  have:v=0:=by omega
  subst this
  refine vGCDW _ _ _ ⟨fun h=>by omega,fun _=>⟨by omega,⟨by unfold J.ZaB;omega,fits3 (by omega)⟩,?_⟩⟩
  rw [Int.toNat_natCast,Zb2,Nat.gcd_zero_right];exact .refl _
 | succ n ih =>
  intro u v hv hu hv2
  refine vGCDW _ _ _ ⟨fun h=>⟨by omega,?_⟩,fun h=>⟨by omega,⟨by unfold J.ZaB;omega,fits3 (by omega)⟩,?_⟩⟩
  ·rw [<- Int.ofNat_tmod]
   have hlt:=Nat.mod_lt u (show 0<v by omega)
   have:=ih v (u % v) (by omega) hv2 (by omega)
   rwa [show Nat.gcd v (u % v)=Nat.gcd u v by rw [Nat.gcd_comm u v,Nat.gcd_rec v u,Nat.gcd_comm]] at this
  ·have:v=0:=by omega
   subst this
   rw [Int.toNat_natCast,Zb2,Nat.gcd_zero_right];exact .refl _
theorem gcdH (n:Nat):∀ x y:Nat,y<=n->J.cnt x<=400000->J.cnt y<=400000->Zdt x y (Zag (bigA false (Nat.gcd x y:Nat))):=by
 have base:∀ x:Nat,J.cnt x<=400000->Zdt x (0:Nat) (Zag (bigA false (Nat.gcd x 0:Nat))):=by
  intro x hx
  rw [Nat.gcd_zero_right]
  have e1:J.Zab ((0:Nat):Int)=[]:=ZbR
  have e2:J.Zaa ((0:Nat):Int)=false:=rfl
  unfold Zdt
  rw [e1,e2]
  by_cases h0:x=0
  ·subst h0
   rw [e1,e2]
   refine vGCDZ false _ ⟨false,[],?_,by show Weak _ (AV.agg [.bool (J.Zaa ((0:Nat):Int)),.vec false 1 ((J.Zab ((0:Nat):Int)).map (.int .u32))]);rw [e1,e2];exact .refl _⟩
   exact call140 (vSigned0 false _ (vSigned0A false _ (Zdb false)))
  ·have hll:=ZaX (x:Int)
   have hne:J.Zab (x:Int) ≠ []:=by
    intro e
    rw [e] at hll
    exact h0 (ZaE.1 hll.symm)
   obtain ⟨c,l,hl⟩:=List.exists_cons_of_ne_nil hne
   have es:=ev140_a false false (x:Int) (by unfold J.ok;rw [Int.natAbs_natCast];omega)
   rw [Int.natAbs_natCast,Zb2] at es
   have es2:Ev M1 (.pure 140 [.bool false,.vec false 1 ((J.Zab (x:Int)).map (.int .u32))]) (.agg [.bool (J.Zaa (x:Int)),.vec false 1 ((J.Zab (x:Int)).map (.int .u32))]) []:=es
   rw [hl] at es2 hll
   rw [Int.natAbs_natCast] at hll
   simp only [List.length_cons] at hll
   have key:∀ d,bigA false (x:Int)=d->Zf0 (J.Zaa (x:Int)) c l (Zag d):=by
    intro d hd
    refine vGCDE _ c l _ ⟨J.Zaa (x:Int),c::l,es2,by omega,?_⟩
    rw [<- hd]
    show Weak _ (AV.agg [.bool (J.Zaa (x:Int)),.vec false 1 ((J.Zab (x:Int)).map (.int .u32))])
    rw [hl];exact .refl _
   have k:=key _ rfl
   unfold Zf0 at k
   rw [<- hl] at k
   exact k
 induction n with
 | zero =>
  intro x y hy hx hcy
  have:y=0:=by omega
  subst this
  exact base x hx
 | succ n ih =>
  intro x y hy hx hcy
  by_cases h0:y=0
  ·subst h0;exact base x hx
  ·have hyl:=ZaX (y:Int)
   have hc:=ZaE (v:=y)
   rw [Int.natAbs_natCast] at hyl
   refine vGCDH _ _ _ ⟨fun _=>⟨fun h => ?_,fun h=>⟨⟨by unfold J.okB;rw [Int.natAbs_natCast];exact hx,by unfold J.okB;rw [Int.natAbs_natCast];exact hcy,by omega⟩,?_,?_⟩⟩,fun h => ?_⟩
   ·obtain ⟨k1,k2⟩:=h
    unfold J.isW at k1 k2
    rw [Int.natAbs_natCast,decide_eq_true_eq] at k1 k2
    have w1:J.wrd (x:Int)=(x:Int):=by unfold J.wrd;rw [Int.natAbs_natCast,if_pos k1]
    have w2:J.wrd (y:Int)=(y:Int):=by unfold J.wrd;rw [Int.natAbs_natCast,if_pos k2]
    rw [w1,w2]
    have f:=ZaP (Zai x) k1
    have:x<1000000000000000000:=by unfold J.fits at f;simpa using f
    have f':=ZaP (Zai y) k2
    have:y<1000000000000000000:=by unfold J.fits at f';simpa using f'
    exact gcdW y x y (Nat.le_refl _) (by omega) (by omega)
   ·rw [Int.natAbs_natCast,Int.natAbs_natCast]
    obtain ⟨d1,d2,d3,d4⟩:=dqn_fits h0 ⟨hx,hcy⟩
    exact ⟨d4,d3⟩
   ·rw [Int.natAbs_natCast,Int.natAbs_natCast,Zb2]
    have hlt:=Nat.mod_lt x (show 0<y by omega)
    have hm:=ZaJ (Nat.le_of_lt hlt)
    have:=ih y (x % y) (by omega) hcy (by omega)
    rwa [show Nat.gcd y (x % y)=Nat.gcd x y by rw [Nat.gcd_comm x y,Nat.gcd_rec y x,Nat.gcd_comm]] at this
   ·omega
theorem ev162 (fa fb:Bool) (a b:Int) (h:J.okB a/\J.okB b):Ev M1 (.pure 162 [bigA fa a,bigA fb b]) (bigA false (Int.gcd a b:Nat)) []:=by
 refine call162 (vGCD _ _ _ _ _ ⟨Zcz h.1,Zcz h.2,?_⟩)
 rw [Zb2,Zb2]
 exact gcdH b.natAbs a.natAbs b.natAbs (Nat.le_refl _) h.1 h.2
end Go.Av

namespace Go.Av
open Go.Proofs
theorem ev177_b (fa:Bool) (a:Int) (h:J.okB a):Ev M1 (.pure 177 [bigA fa a,.agg [.bool false,.vec false 1 ((J.Zab 2).map (.int .u32))]]) (.tup [bigA false (J.flo a 2),bigA false (J.flr a 2),.int .i64 0]) []:=
 ev177 fa false a 2 ⟨h,Ze7 (by decide),by decide⟩
theorem limN_unit (k:Nat):J.Zay (k+1) (1000000000 ^ k)=List.replicate k 0++[1]:=by
 induction k with
 | zero=>rfl
 | succ k ih =>
  rw [ZaF,Nat.pow_succ,Nat.mul_mod_left,Nat.mul_div_cancel _ (by omega),ih,List.replicate_succ];rfl
theorem ev140_c (s:Bool) (k:Nat) (h:J.ZaB (k+1)):Ev M1 (.pure 140 [.bool s,.vec false 1 ((List.replicate k (0:Int)++[1]).map (.int .u32))]) (bigA false (J.sg s (1000000000 ^ k))) []:=by
 rw [<- limN_unit]
 refine signedN s false (k+1) _ ⟨h,?_⟩
 unfold J.fits
 exact Nat.pow_lt_pow_right (by omega) (by omega)
end Go.Av

namespace Go.Av
open Go.Proofs
set_option maxRecDepth 100000
def fi178:Fi:=⟨54,[.cell 2 24,.tmp 3]⟩
def kp178:List (Nat × List Nat):=[(0,[1,2]),(1,[1,2,14]),(2,[2,3]),(3,[1,2,19]),(4,[2,3]),(5,[1,2,4]),(6,[1,2,5]),(7,[1,2,5,6]),(8,[1,2,5,6,7]),(9,[1,2,5,6,10]),(10,[1,2,5,6,10,51]),(11,[2,3]),(12,[1,2,5,6])]
def vSqrt_at (fa:Bool) (a:Int) (Q:AV->Heap->Prop):Prop:=Wp M1 (.run fi178 (atC (cd Tryz.f178) []) [(0,bigA fa a)] []) Q
def ZdQ (fa:Bool) (a x:Int) (Q:AV->Heap->Prop):Prop:=Wp M1 (.run fi178 (atC (cd Tryz.f178) [1,1,1,1,1,1,0,0]) [(1,.ptr 0 0 0 0),(2,.ptr 1 0 0 0),(5,.ptr 2 0 0 0),(6,.ptr 3 0 0 0)] [⟨[bigA fa a],2,0,false,false⟩,⟨[.agg [.bool false,.vnil]],2,0,false,false⟩,⟨[bigA false x],2,0,false,false⟩,⟨[.agg [.bool false,.vec false 1 ((J.Zab 2).map (.int .u32))]],2,0,false,false⟩]) Q
theorem call178 {args:List AV} {d:AV} (h:wc M1 fi178 Tryz.f178 args d):Ev M1 (.pure 178 args) d []:=pcl _ _ (by kernel_rfl) h
noncomputable abbrev zNvH1:=ag [vb false,vf (us (J.Zab 2))]
noncomputable abbrev zNvH2 (a:Int):=J.sg false (1000000000 ^ (((↑(J.Zab a).length:Int)+1).tdiv 2).toNat)
theorem vSqrt (fa:Bool) (a:Int)  (dq:AV) (H :
  ((J.Zaa a=true)->Weak (tu [ag [vb false,AV.vnil],vi 7]) dq) /\
  (¬(J.Zaa a=true)->(((↑(J.Zab a).length:Int)=0)->Weak (tu [ag [vb false,AV.vnil],vi 0]) dq) /\
   (¬((↑(J.Zab a).length:Int)=0)->(-9223372036854775808<=(↑(J.Zab a).length:Int)+1/\(↑(J.Zab a).length:Int)+1<=9223372036854775807) /\
    (-9223372036854775808<=((↑(J.Zab a).length:Int)+1).tdiv 2/\((↑(J.Zab a).length:Int)+1).tdiv 2<=9223372036854775807) /\
    (J.ZaB ((((↑(J.Zab a).length:Int)+1).tdiv 2).toNat+1)) /\
    (0<=((↑(J.Zab a).length:Int)+1).tdiv 2) /\
    (((↑(J.Zab a).length:Int)+1).tdiv 2*4<=1099511627776) /\
    (((↑(J.Zab a).length:Int)+1).tdiv 2<=1099511627776) /\
    (((List.replicate (((↑(J.Zab a).length:Int)+1).tdiv 2).toNat (0:Int)).length+1)*4<=1099511627776) /\
    (J.inI 2) /\
    ZdQ fa a (J.sg false (1000000000 ^ (((↑(J.Zab a).length:Int)+1).tdiv 2).toNat)) (Zag dq)))) :
 vSqrt_at fa a (Zag dq):=by
 unfold vSqrt_at
 rcases xq H with ⟨d2,H⟩|⟨d2,H⟩
 ·exact Zah (G:=Zad kp178 [] []) 1000 [true] (asm:=[0==0,(J.Zaa a)==true,true]) (tu [ag [vb false,AV.vnil],vi 7]) (by kernel_rfl) (bc (beq_self_eq_true _) (bc (Zaq ((Zas _).2 d2)) (bc rfl b0))) q0 c0 H
 ·have w3:(us (J.Zab a)).length=(J.Zab a).length:=List.length_map ..
  have i4:((↑(us (J.Zab a)).length:Int)==0)=true ↔ ((↑(J.Zab a).length:Int)=0):=(by (try rw [w3]);all_goals exact i_eq)
  rcases xq H with ⟨d5,H⟩|⟨d5,H⟩
  ·exact Zah (G:=Zad kp178 [] []) 1000 [false,true] (asm:=[0==0,(J.Zaa a)==false,true,((↑(us (J.Zab a)).length:Int)==0)==true,true]) (tu [ag [vb false,AV.vnil],vi 0]) (by kernel_rfl) (bc (beq_self_eq_true _) (bc (Zam (fun h=>d2 ((Zas _).1 h))) (bc rfl (bc (Zaq (i4.2 d5)) (bc rfl b0))))) q0 c0 H
  ·obtain ⟨k6,H⟩:=H
   have w7:wi ((↑(J.Zab a).length:Int)+1)=(↑(J.Zab a).length:Int)+1:=wI64 k6
   obtain ⟨k8,H⟩:=H
   have w9:wi (((↑(J.Zab a).length:Int)+1).tdiv 2)=((↑(J.Zab a).length:Int)+1).tdiv 2:=wI64 k8
   have w10:List.replicate (((↑(J.Zab a).length:Int)+1).tdiv 2).toNat (vu 0)=us (List.replicate (((↑(J.Zab a).length:Int)+1).tdiv 2).toNat (0:Int)):=(Zdn rfl)
   have w11:us (List.replicate (((↑(J.Zab a).length:Int)+1).tdiv 2).toNat (0:Int))++[vu 1]=us (List.replicate (((↑(J.Zab a).length:Int)+1).tdiv 2).toNat (0:Int)++[1]):=(Zfa rfl rfl)
   obtain ⟨k12,H⟩:=H
   have i13:(decide (0<=wi ((wi ((↑(us (J.Zab a)).length:Int)+1)).tdiv 2)))=true ↔ (0<=((↑(J.Zab a).length:Int)+1).tdiv 2):=(by (try rw [w3]);(try rw [w7]);(try rw [w9]);all_goals exact Zac)
   obtain ⟨k14,H⟩:=H
   have i15:(decide (wi ((wi ((↑(us (J.Zab a)).length:Int)+1)).tdiv 2)<=wi ((wi ((↑(us (J.Zab a)).length:Int)+1)).tdiv 2)))=true ↔ (((↑(J.Zab a).length:Int)+1).tdiv 2<=((↑(J.Zab a).length:Int)+1).tdiv 2):=(by (try rw [w3]);(try rw [w7]);(try rw [w9]);all_goals exact Zac)
   have i16:(decide (wi ((wi ((↑(us (J.Zab a)).length:Int)+1)).tdiv 2)*4<=1099511627776))=true ↔ (((↑(J.Zab a).length:Int)+1).tdiv 2*4<=1099511627776):=(by (try rw [w3]);(try rw [w7]);(try rw [w9]);all_goals exact Zac)
   obtain ⟨k17,H⟩:=H
   have i18:(decide (wi ((wi ((↑(us (J.Zab a)).length:Int)+1)).tdiv 2)<=1099511627776))=true ↔ (((↑(J.Zab a).length:Int)+1).tdiv 2<=1099511627776):=(by (try rw [w3]);(try rw [w7]);(try rw [w9]);all_goals exact Zac)
   obtain ⟨k19,H⟩:=H
   have w20:(us (List.replicate (((↑(J.Zab a).length:Int)+1).tdiv 2).toNat (0:Int))).length=(List.replicate (((↑(J.Zab a).length:Int)+1).tdiv 2).toNat (0:Int)).length:=List.length_map ..
   have i21:(decide (((List.replicate (wi ((wi ((↑(us (J.Zab a)).length:Int)+1)).tdiv 2)).toNat (vu 0)).length+1)*4<=1099511627776))=true ↔ (((List.replicate (((↑(J.Zab a).length:Int)+1).tdiv 2).toNat (0:Int)).length+1)*4<=1099511627776):=(by (try rw [w3]);(try rw [w7]);(try rw [w9]);(try rw [w10]);(try rw [w20]);all_goals exact Zac)
   obtain ⟨k22,k23,H⟩:=H
   exact Zae (G:=Zad kp178 [(6,4,.call (bigA false (zNvH2 a)) none),(7,0,.call zNvH1 none)] []) 1000 [false,false] ⟨(atC (cd Tryz.f178) [1,1,1,1,1,1,0,0]),[(1,AV.ptr 0 0 0 0),(2,AV.ptr 1 0 0 0),(5,AV.ptr 3 0 0 0),(6,AV.ptr 4 0 0 0)],[⟨[bigA fa a],2,0,false,false⟩,⟨[ag [vb false,AV.vnil]],2,0,false,false⟩,⟨List.replicate (wi ((wi ((↑(us (J.Zab a)).length:Int)+1)).tdiv 2)).toNat (vu 0)++[vu 1],1,1,true,true⟩,⟨[bigA false (zNvH2 a)],2,0,false,false⟩,⟨[zNvH1],2,0,false,false⟩],[0==0,(J.Zaa a)==false,true,((↑(us (J.Zab a)).length:Int)==0)==false,true,true,decide (0<=wi ((wi ((↑(us (J.Zab a)).length:Int)+1)).tdiv 2)),decide (wi ((wi ((↑(us (J.Zab a)).length:Int)+1)).tdiv 2)<=wi ((wi ((↑(us (J.Zab a)).length:Int)+1)).tdiv 2)),decide (wi ((wi ((↑(us (J.Zab a)).length:Int)+1)).tdiv 2)*4<=1099511627776),decide (wi ((wi ((↑(us (J.Zab a)).length:Int)+1)).tdiv 2)<=1099511627776),true,decide (((List.replicate (wi ((wi ((↑(us (J.Zab a)).length:Int)+1)).tdiv 2)).toNat (vu 0)).length+1)*4<=1099511627776),true,true,true],[],[pc 140 [vb false,vf (List.replicate (wi ((wi ((↑(us (J.Zab a)).length:Int)+1)).tdiv 2)).toNat (vu 0)++[vu 1])] (bigA false (zNvH2 a)),pc 113 [vi 2] zNvH1]⟩ (by kernel_rfl) (bc (beq_self_eq_true _) (bc (Zam (fun h=>d2 ((Zas _).1 h))) (bc rfl (bc (Zam (fun h=>d5 (i4.1 h))) (bc rfl (bc rfl (bc (i13.2 k14) (bc (i15.2 (by omega)) (bc (i16.2 k17) (bc (i18.2 k19) (bc rfl (bc (i21.2 k22) (bc rfl (bc rfl (bc rfl b0))))))))))))))) q0 (ce (by (try rw [w3]);(try rw [w7]);(try rw [w9]);(try rw [w10]);(try rw [w11]);all_goals exact (@ev140_c false ((((↑(J.Zab a).length:Int)+1).tdiv 2).toNat) k12)) (ce (@ev113 2 k23) c0)) (by (try rw [w3]);(try rw [w7]);(try rw [w9]);(try rw [w10]);(try rw [w11]);all_goals exact ZbB [0,1,3,4] (by kernel_rfl) H)
noncomputable abbrev zNvH3:=ag [vb false,vf (us (J.Zab 2))]
theorem vSqrtH (fa:Bool) (a x:Int)  (dq:AV) (H :
  (J.okB a/\J.okB x/\x ≠ 0) /\
  (J.okB x/\J.okB (J.flo a x)) /\
  (J.okB (x+J.flo a x)) /\
  (J.okB (J.flo (x+J.flo a x) 2)/\J.okB x) /\
  ((J.sgnI (J.flo (x+J.flo a x) 2-x)>=0)->Weak (tu [bigA false x,vi 0]) dq) /\
  (¬(J.sgnI (J.flo (x+J.flo a x) 2-x)>=0)->ZdQ fa a (J.flo (x+J.flo a x) 2) (Zag dq))) :
 ZdQ fa a x (Zag dq):=by
 unfold ZdQ
 obtain ⟨k1,k2,k3,H⟩:=H
 refine Zae (G:=Zad kp178 [(8,2,.call (tu [bigA false (J.flo a x),bigA false (J.flr a x),vi 0]) none),(9,2,.call (bigA false (x+J.flo a x)) none),(9,4,.call (tu [bigA false (J.flo (x+J.flo a x) 2),bigA false (J.flr (x+J.flo a x) 2),vi 0]) none)] []) 4 [] ⟨(atC (cd Tryz.f178) [1,1,1,1,1,1,0,0,0,1,0]),[(1,AV.ptr 0 0 0 0),(2,AV.ptr 1 0 0 0),(5,AV.ptr 2 0 0 0),(6,AV.ptr 3 0 0 0),(7,AV.ptr 4 0 0 0)],[⟨[bigA fa a],2,0,false,false⟩,⟨[ag [vb false,AV.vnil]],2,0,false,false⟩,⟨[bigA false x],2,0,false,false⟩,⟨[zNvH3],2,0,false,false⟩,⟨[bigA false (J.flo a x)],2,0,false,false⟩,⟨[bigA false (J.flr a x)],2,0,false,false⟩],_,[],_⟩ (by kernel_rfl) (bc rfl (bc rfl (bc rfl (bc rfl b0)))) q0 (ce (@ev177 fa false a x k1) c0) (ZdN (G:=Zad kp178 [(8,2,.call (tu [bigA false (J.flo a x),bigA false (J.flr a x),vi 0]) none),(9,2,.call (bigA false (x+J.flo a x)) none),(9,4,.call (tu [bigA false (J.flo (x+J.flo a x) 2),bigA false (J.flr (x+J.flo a x) 2),vi 0]) none)] []) [0,1,2,3,4,5,7,6] 9 (e1:=[(1,AV.ptr 0 0 0 0),(2,AV.ptr 1 0 0 0),(5,AV.ptr 2 0 0 0),(6,AV.ptr 3 0 0 0),(10,AV.ptr 6 0 0 0)]) (L1:=[⟨[bigA fa a],2,0,false,false⟩,⟨[ag [vb false,AV.vnil]],2,0,false,false⟩,⟨[bigA false x],2,0,false,false⟩,⟨[zNvH3],2,0,false,false⟩,⟨[bigA false (J.flo a x)],2,0,false,false⟩,⟨[bigA false (J.flr a x)],2,0,false,false⟩,⟨[bigA false (J.flo (x+J.flo a x) 2)],2,0,false,false⟩,⟨[bigA false (J.flr (x+J.flo a x) 2)],2,0,false,false⟩]) (a:=[true,true,true,true,true]) (q:=[]) (cs:=[⟨true,false,152,[bigA false x,bigA false (J.flo a x)],[],bigA false (x+J.flo a x),[]⟩,⟨true,false,177,[bigA false (x+J.flo a x),zNvH3],[],tu [bigA false (J.flo (x+J.flo a x) 2),bigA false (J.flr (x+J.flo a x) 2),vi 0],[]⟩]) (by kernel_rfl) (by kernel_rfl) (Zal rfl (Zal rfl (Zal rfl (Zal rfl (Zal rfl ZaQ))))) Zbf (Za8 (fun _=>(@ev152 false false x (J.flo a x) k2)) (Za8 (fun _=>(@ev177_b false (x+J.flo a x) k3)) Zbg)) ?_)
 obtain ⟨k4,H⟩:=H
 refine Zae (G:=Zad kp178 [(10,2,.call (vi (J.sgnI (J.flo (x+J.flo a x) 2-x))) none)] []) 3 [] ⟨(atC (cd Tryz.f178) [1,1,1,1,1,1,0,0,0,1,1,0,1]),[(1,AV.ptr 0 0 0 0),(2,AV.ptr 1 0 0 0),(5,AV.ptr 2 0 0 0),(6,AV.ptr 3 0 0 0),(10,AV.ptr 6 0 0 0),(51,vb (decide (J.sgnI (J.flo (x+J.flo a x) 2-x)>=0)))],[⟨[bigA fa a],2,0,false,false⟩,⟨[ag [vb false,AV.vnil]],2,0,false,false⟩,⟨[bigA false x],2,0,false,false⟩,⟨[zNvH3],2,0,false,false⟩,⟨[bigA false (J.flo a x)],2,0,false,false⟩,⟨[bigA false (J.flr a x)],2,0,false,false⟩,⟨[bigA false (J.flo (x+J.flo a x) 2)],2,0,false,false⟩,⟨[bigA false (J.flr (x+J.flo a x) 2)],2,0,false,false⟩],_,[],_⟩ (by kernel_rfl) (bc rfl (bc rfl b0)) q0 (ce (@ev149 false false (J.flo (x+J.flo a x) 2) x k4) c0) ?_
 rcases xq H with ⟨d6,H⟩|⟨d6,H⟩
 ·exact Zah (G:=Zad kp178 [] []) 1000 [true] (tu [bigA false x,vi 0]) (by kernel_rfl) (bc (Zaq (Zac.2 d6)) (bc rfl (bc rfl b0))) q0 c0 H
 ·exact Zae (G:=Zad kp178 [] []) 1000 [false] ⟨(atC (cd Tryz.f178) [1,1,1,1,1,1,0,0]),[(1,AV.ptr 0 0 0 0),(2,AV.ptr 1 0 0 0),(5,AV.ptr 2 0 0 0),(6,AV.ptr 3 0 0 0)],[⟨[bigA fa a],2,0,false,false⟩,⟨[ag [vb false,AV.vnil]],2,0,false,false⟩,⟨[bigA false (J.flo (x+J.flo a x) 2)],2,0,false,false⟩,⟨[zNvH3],2,0,false,false⟩,⟨[bigA false (J.flo a x)],2,0,false,false⟩,⟨[bigA false (J.flr a x)],2,0,false,false⟩,⟨[bigA false (J.flo (x+J.flo a x) 2)],2,0,false,false⟩,⟨[bigA false (J.flr (x+J.flo a x) 2)],2,0,false,false⟩],_,[],_⟩ (by kernel_rfl) (bc (Zam (fun h=>d6 (Zac.1 h))) (bc rfl (bc rfl b0))) q0 c0 (ZbB [0,1,2,3] (by kernel_rfl) H)
end Go.Av

namespace Go.Av
open Go.Proofs
namespace J
def okS (v:Int):Prop:=cnt v.natAbs<=300000
noncomputable def sq (v:Int):Int:=if v<0 then 0 else (ZhB v.natAbs:Int)
def sqe (v:Int):Int:=if v<0 then 7 else 0
def val (s:Bool) (a:List Int):Bool:=a.all (fun x=>decide (x<1000000000))&&bif decide (0<a.length) then a.getD (a.length-1) default != 0 else !s
end J
theorem flo_nat {a x:Nat} (h:0<x):J.flo (a:Int) (x:Int)=((a / x:Nat):Int):=by
 unfold J.flo
 rw [if_pos (by omega)];rfl
theorem flo_two (v:Nat):J.flo (v:Int) 2=((v / 2:Nat):Int):=flo_nat (x:=2) (by omega)
theorem ZbM {n v:Nat} (h:J.fits n v) (hn:n<=400000):J.okB (v:Int):=by
 have:=Zaz.1 h
 unfold J.okB;rw [Int.natAbs_natCast];omega
theorem fits_pow {k n:Nat} (h:k<n):J.fits n (1000000000 ^ k):=Nat.pow_lt_pow_right (by omega) h
theorem sqrtH (fa:Bool) (a:Nat) (ha:J.cnt a<=300000) (h0:a ≠ 0) (n:Nat):∀ x:Nat,x<=n->0<x->a<(x+1)*(x+1)->J.fits 300001 x ->
  ZdQ fa a x (Zag (.tup [bigA false (J.ZhB a:Nat),.int .i64 0])):=by
 induction n with
 | zero=>intro x h1 h2;omega
 | succ n ih =>
  intro x h1 h2 h3 h4
  have hfa:J.fits 300001 a:=ZaP (Zai a) (by omega)
  have hfq:J.fits 300001 (a / x):=Zbs hfa (Nat.div_le_self _ _)
  have hfs:J.fits 300002 (x+a / x):=Zc4 h4 hfq
  have hfy:J.fits 300002 ((x+a / x) / 2):=Zbs hfs (Nat.div_le_self _ _)
  have e2:(x:Int)+((a / x:Nat):Int)=((x+a / x:Nat):Int):=by omega
  refine vSqrtH fa _ _ _ ?_
  rw [flo_nat h2,e2,flo_two]
  refine ⟨⟨ZbM hfa (by omega),ZbM h4 (by omega),by omega⟩,⟨ZbM h4 (by omega),ZbM hfq (by omega)⟩,ZbM hfs (by omega),⟨ZbM hfy (by omega),ZbM h4 (by omega)⟩,fun k => ?_,fun k => ?_⟩
  ·have k:¬(J.sgnI (((x+a / x) / 2:Nat)-(x:Int))<0):=by omega
   rw [Zbn] at k
   rw [ZeK h2 h3 (by omega)]
   exact .refl _
  ·have k:J.sgnI (((x+a / x) / 2:Nat)-(x:Int))<0:=by omega
   rw [Zbn] at k
   have hn:=Zd0 (a:=a) h2
   refine ih _ (by omega) ?_ hn (Zbs h4 (by omega))
   apply Nat.pos_of_ne_zero
   intro e
   rw [e] at hn
   omega
theorem ev178 (fa:Bool) (v:Int) (h:J.okS v):Ev M1 (.pure 178 [bigA fa v]) (.tup [bigA false (J.sq v),.int .i64 (J.sqe v)]) []:=by
 have hl:=ZaX v
 have e1:J.Zab (0:Int)=[]:=ZbR
 have e2:J.Zaa (0:Int)=false:=rfl
 have w0:∀ e:Int,Weak (.tup [.agg [.bool false,.vnil],.int .i64 e]) (.tup [bigA false 0,.int .i64 e]):=by
  intro e
  show Weak _ (.tup [.agg [.bool (J.Zaa 0),.vec false 1 ((J.Zab 0).map (.int .u32))],.int .i64 e])
  rw [e1,e2]
  exact ZbH (Zdb false) (.refl _)
 unfold J.okS at h
 by_cases hneg:v<0
 ·unfold J.sq J.sqe
  rw [if_pos hneg,if_pos hneg]
  exact call178 (vSqrt _ _ _ ⟨fun _=>w0 7,fun k=>absurd (Zak.2 hneg) k⟩)
 ·unfold J.sq J.sqe
  rw [if_neg hneg,if_neg hneg]
  refine call178 (vSqrt _ _ _ ⟨fun k=>absurd (Zak.1 k) hneg,fun _=>⟨fun k => ?_,fun k => ?_⟩⟩)
  ·have hz:v.natAbs=0:=ZaE.1 (by omega)
   have:J.ZhB v.natAbs=0:=by rw [hz];exact Zgf ⟨by omega,by omega⟩
   rw [this];exact w0 0
  ·have hz:J.cnt v.natAbs ≠ 0:=by omega
   have hz':v.natAbs ≠ 0:=fun e=>hz (by rw [e];exact Zbq)
   have ek:(((J.Zab v).length:Int)+1).tdiv 2=(((J.cnt v.natAbs+1) / 2:Nat):Int):=by
    rw [hl]
    have:((J.cnt v.natAbs:Nat):Int)+1=((J.cnt v.natAbs+1:Nat):Int):=by omega
    rw [this]
    exact (Int.ofNat_tdiv (J.cnt v.natAbs+1) 2).symm
   rw [ek,Int.toNat_natCast,Zb2,List.length_replicate]
   generalize hk:(J.cnt v.natAbs+1) / 2=k
   refine ⟨by omega,by omega,by unfold J.ZaB;omega,by omega,by omega,by omega,by omega,by unfold J.inI;omega,?_⟩
   have hv:((v.natAbs:Nat):Int)=v:=by omega
   have:=sqrtH fa v.natAbs h hz' (1000000000 ^ k) (1000000000 ^ k) (Nat.le_refl _) (Nat.pow_pos (by omega)) ?_ ?_
   ·rwa [hv] at this
   ·have h1:=Zai v.natAbs
    unfold J.fits at h1
    have h2:1000000000 ^ J.cnt v.natAbs<=1000000000 ^ (k+k):=Nat.pow_le_pow_right (by omega) (by omega)
    rw [Nat.pow_add] at h2
    have h3:=Nat.mul_le_mul (Nat.le_succ (1000000000 ^ k)) (Nat.le_succ (1000000000 ^ k))
    exact Nat.lt_of_lt_of_le h1 (Nat.le_trans h2 h3)
   ·exact fits_pow (by omega)
theorem top_ne {v:Nat} (h:J.cnt v ≠ 0):(J.lim v).getD ((J.lim v).length-1) default ≠ 0:=by
 rw [ZaN]
 have hf:=Zai v
 have hg:(J.lim v).getD (J.cnt v-1) default=((v / 1000000000 ^ (J.cnt v-1) % 1000000000:Nat):Int):=ZaA (n:=J.cnt v) v (show J.cnt v-1<J.cnt v by omega)
 rw [hg]
 intro e
 have hp:1000000000 ^ (J.cnt v)=1000000000 ^ (J.cnt v-1)*1000000000:=by rw [<- Nat.pow_succ];congr 1;omega
 unfold J.fits at hf
 rw [hp] at hf
 have hlt:v / 1000000000 ^ (J.cnt v-1)<1000000000:=Nat.div_lt_of_lt_mul hf
 have hz:v / 1000000000 ^ (J.cnt v-1)=0:=by
  rw [Nat.mod_eq_of_lt hlt] at e;omega
 have:v<1000000000 ^ (J.cnt v-1):=(Nat.div_eq_zero_iff_lt (Nat.pow_pos (by omega))).1 hz
 have:=Zaz.1 (show J.fits (J.cnt v-1) v from this)
 omega
theorem val_true (v:Int):J.val (J.Zaa v) (J.Zab v)=true:=by
 unfold J.val
 have hl:=ZaX v
 have h1:(J.Zab v).all (fun x=>decide (x<1000000000))=true:=by
  rw [List.all_eq_true]
  intro x hx
  have:=ZeB _ x hx
  simp;omega
 rw [h1,Bool.true_and]
 by_cases h0:J.cnt v.natAbs=0
 ·have hz:=ZaE.1 h0
  rw [show decide (0<(J.Zab v).length)=false from decide_eq_false (by omega),ZaY (by omega)];rfl
 ·rw [show decide (0<(J.Zab v).length)=true from decide_eq_true (by omega)]
  have:=top_ne h0
  unfold J.Zab
  simpa using this
end Go.Av

namespace Go.Av
open Go.Proofs
set_option maxRecDepth 100000
def fi71:Fi:=⟨9,[.tmp 2]⟩
def kp71:List (Nat × List Nat):=[(0,[1]),(1,[1,6]),(2,[2]),(3,[8]),(4,[2]),(5,[2])]
def fi115:Fi:=⟨21,[.tmp 2]⟩
def kp115:List (Nat × List Nat):=[(0,[0]),(1,[0,14]),(2,[0]),(3,[2])]
def fi116:Fi:=⟨41,[.tmp 4]⟩
def kp116:List (Nat × List Nat):=[(0,[0,1]),(1,[0,1,10]),(2,[15]),(3,[4]),(4,[4]),(5,[0,1,5]),(6,[0,1,5,20]),(7,[0,1,5]),(8,[0,1,5,31]),(9,[4]),(10,[0,1,5,40]),(11,[4]),(12,[4])]
def fi119:Fi:=⟨21,[.tmp 2]⟩
def kp119:List (Nat × List Nat):=[(0,[0]),(1,[0,3]),(2,[0,3,4]),(3,[0,3,4,9]),(4,[0,3,4]),(5,[0,3,4]),(6,[2])]
def fi120:Fi:=⟨15,[.tmp 2]⟩
def kp120:List (Nat × List Nat):=[(0,[0]),(1,[0,3]),(2,[0,3,5]),(3,[0,3]),(4,[0,3]),(5,[2])]
def rTrim_at (fa:Bool) (a:List Int) (Q:AV->Heap->Prop):Prop:=Wp M1 (.run fi115 (atC (cd Tryz.f115) []) [(0,.vec fa 1 (a.map (.int .u32)))] []) Q
def ZdW (fa:Bool) (a:List Int) (Q:AV->Heap->Prop):Prop:=Wp M1 (.run fi115 (atC (cd Tryz.f115) [1,0,0,0]) [(0,.vec fa 1 (a.map (.int .u32)))] []) Q
def rLimbs_at (u:Int) (Q:AV->Heap->Prop):Prop:=Wp M1 (.run fi120 (atC (cd Tryz.f120) []) [(0,.int .u64 u)] []) Q
def Zfw (u:Int) (Q:AV->Heap->Prop):Prop:=Wp M1 (.run fi120 (atC (cd Tryz.f120) [1,1,0,0,0]) [(0,.int .u64 u),(3,.vnil)] []) Q
def Zdl (u:Int) (o:List Int) (v:Nat) (Q:AV->Heap->Prop):Prop:=Wp M1 (.run fi120 (atC (cd Tryz.f120) [1,1,0,0,0]) [(0,.int .u64 u),(3,.row 0 v)] [⟨o.map (.int .u32),1,v,false,true⟩]) Q
def rShort_at (fa:Bool) (a:List Int) (Q:AV->Heap->Prop):Prop:=Wp M1 (.run fi119 (atC (cd Tryz.f119) []) [(0,.vec fa 1 (a.map (.int .u32)))] []) Q
def Zdi (fa:Bool) (a:List Int) (n i:Int) (Q:AV->Heap->Prop):Prop:=Wp M1 (.run fi119 (atC (cd Tryz.f119) [1,1,0,1,0,0]) [(0,.vec fa 1 (a.map (.int .u32))),(3,.int .u64 n),(4,.int .i64 i)] []) Q
def ZgF (fa fb:Bool) (a b:List Int) (Q:AV->Heap->Prop):Prop:=Wp M1 (.run fi116 (atC (cd Tryz.f116) []) [(0,.vec fa 1 (a.map (.int .u32))),(1,.vec fb 1 (b.map (.int .u32)))] []) Q
def Zcm (fa fb:Bool) (a b:List Int) (i:Int) (Q:AV->Heap->Prop):Prop:=Wp M1 (.run fi116 (atC (cd Tryz.f116) [1,1,0,1,0,0]) [(0,.vec fa 1 (a.map (.int .u32))),(1,.vec fb 1 (b.map (.int .u32))),(5,.int .i64 i)] []) Q
def rSign_at (fa:Bool) (v:Int) (Q:AV->Heap->Prop):Prop:=Wp M1 (.run fi71 (atC (cd Tryz.f71) []) [(0,bigA fa v)] []) Q
theorem call71 {args:List AV} {d:AV} (h:wc M1 fi71 Tryz.f71 args d):Ev M1 (.pure 71 args) d []:=pcl _ _ (by kernel_rfl) h
theorem call115 {args:List AV} {d:AV} (h:wc M1 fi115 Tryz.f115 args d):Ev M1 (.pure 115 args) d []:=pcl _ _ (by kernel_rfl) h
theorem call116 {args:List AV} {d:AV} (h:wc M1 fi116 Tryz.f116 args d):Ev M1 (.pure 116 args) d []:=pcl _ _ (by kernel_rfl) h
theorem call119 {args:List AV} {d:AV} (h:wc M1 fi119 Tryz.f119 args d):Ev M1 (.pure 119 args) d []:=pcl _ _ (by kernel_rfl) h
theorem call120 {args:List AV} {d:AV} (h:wc M1 fi120 Tryz.f120 args d):Ev M1 (.pure 120 args) d []:=pcl _ _ (by kernel_rfl) h
theorem rTrim (fa:Bool) (a:List Int)  (dq:AV) (H :
  ZdW fa a (Zag dq)) :
 rTrim_at fa a (Zag dq):=by
 unfold rTrim_at
 exact Zae (G:=Zad kp115 [] []) 1000 [] ⟨(atC (cd Tryz.f115) [1,0,0,0]),[(0,AV.vec fa 1 (us a))],[],_,[],_⟩ (by kernel_rfl) b0 q0 c0 H
theorem rTrimA (fa:Bool) (a:List Int)  (dq:AV) (H :
  (-9223372036854775808<=(↑a.length:Int)-1/\(↑a.length:Int)-1<=9223372036854775807) /\
  (((↑a.length:Int)>0)->(0<=(↑a.length:Int)-1)) /\
  (((↑a.length:Int)>0)->(((↑a.length:Int)-1).toNat<a.length)) /\
  ((((↑a.length:Int)>0)/\(a.getD ((↑a.length:Int)-1).toNat default=0))->(0<=(↑a.length:Int)-1) /\
   (0<=((↑a.length:Int)-1).toNat) /\
   (((↑a.length:Int)-1).toNat<=a.length) /\
   ZdW (fa&&false) (List.drop 0 (List.take ((↑a.length:Int)-1).toNat a)) (Zag dq)) /\
  (¬(((↑a.length:Int)>0)/\(a.getD ((↑a.length:Int)-1).toNat default=0))->Weak (AV.vec fa 1 (us a)) dq)) :
 ZdW fa a (Zag dq):=by
 unfold ZdW
 have w1:(us a).length=a.length:=List.length_map ..
 obtain ⟨k2,H⟩:=H
 have w3:wi ((↑a.length:Int)-1)=(↑a.length:Int)-1:=wI64 k2
 have i4:(!(decide ((↑(us a).length:Int)>0)==true&&true)||decide (0<=wi ((↑(us a).length:Int)-1)))=true ↔ (((↑a.length:Int)>0)->(0<=(↑a.length:Int)-1)):=(by (try rw [w1]);(try rw [w3]);all_goals exact (ZfY (i_at (i_bt Zac)) Zac))
 obtain ⟨k5,H⟩:=H
 have i6:(!(decide ((↑(us a).length:Int)>0)==true&&true)||decide ((wi ((↑(us a).length:Int)-1)).toNat<(us a).length))=true ↔ (((↑a.length:Int)>0)->(((↑a.length:Int)-1).toNat<a.length)):=(by (try rw [w1]);(try rw [w3]);all_goals exact (ZfY (i_at (i_bt Zac)) Zac))
 obtain ⟨k7,H⟩:=H
 have i9:(bif decide ((↑(us a).length:Int)>0) then a.getD ((↑a.length:Int)-1).toNat default==0 else false)=true ↔ (((↑a.length:Int)>0)/\(a.getD ((↑a.length:Int)-1).toNat default=0)):=(by (try rw [w1]);all_goals exact (ZaG Zac i_eq))
 refine Zae (G:=Zad kp115 [(1,9,.elem (vu (a.getD ((↑a.length:Int)-1).toNat default)))] []) 3 [] ⟨(atC (cd Tryz.f115) [1,0,0,0,0,1]),[(0,AV.vec fa 1 (us a)),(14,vb (bif decide ((↑(us a).length:Int)>0) then a.getD ((↑a.length:Int)-1).toNat default==0 else false))],[],_,[((decide ((↑(us a).length:Int)>0)==true&&true)=true->(us a).get?Internal (wi ((↑(us a).length:Int)-1)).toNat=some (vu (a.getD ((↑a.length:Int)-1).toNat default)))],_⟩ (by kernel_rfl) (bc (i4.2 k5) (bc (i6.2 k7) b0)) (qc (by (try rw [w1]);(try rw [w3]);all_goals exact (fun h=>Zat (k7 ((i_at (i_bt Zac)).1 h)))) q0) c0 ?_
 rcases xq H with ⟨d10,H⟩|⟨d10,H⟩
 ·have i11:(decide (0<=wi ((↑(us a).length:Int)-1)))=true ↔ (0<=(↑a.length:Int)-1):=(by (try rw [w1]);(try rw [w3]);all_goals exact Zac)
  obtain ⟨k12,H⟩:=H
  have i13:(decide (0<=(wi ((↑(us a).length:Int)-1)).toNat))=true ↔ (0<=((↑a.length:Int)-1).toNat):=(by (try rw [w1]);(try rw [w3]);all_goals exact Zac)
  obtain ⟨k14,H⟩:=H
  have i15:(decide ((wi ((↑(us a).length:Int)-1)).toNat<=(us a).length))=true ↔ (((↑a.length:Int)-1).toNat<=a.length):=(by (try rw [w1]);(try rw [w3]);all_goals exact Zac)
  obtain ⟨k16,H⟩:=H
  have w17:List.take ((↑a.length:Int)-1).toNat (us a)=us (List.take ((↑a.length:Int)-1).toNat a):=(ZfA rfl)
  have w18:List.drop 0 (us (List.take ((↑a.length:Int)-1).toNat a))=us (List.drop 0 (List.take ((↑a.length:Int)-1).toNat a)):=(ZfB rfl)
  exact Zae (G:=Zad kp115 [] []) 1000 [true] ⟨(atC (cd Tryz.f115) [1,0,0,0]),[(0,AV.vec (fa&&false) 1 (List.drop 0 (List.take (wi ((↑(us a).length:Int)-1)).toNat (us a))))],[],_,[],_⟩ (by kernel_rfl) (bc (Zaq (i9.2 d10)) (bc (i11.2 k12) (bc (i13.2 k14) (bc (i15.2 k16) b0)))) q0 c0 (by (try rw [w1]);(try rw [w3]);(try rw [w17]);(try rw [w18]);all_goals exact H)
 ·exact Zah (G:=Zad kp115 [] []) 1000 [false] (AV.vec fa 1 (us a)) (by kernel_rfl) (bc (Zam (fun h=>d10 (i9.1 h))) b0) q0 c0 H
theorem rLimbs (u:Int)  (dq:AV) (H :
  Zfw u (Zag dq)) :
 rLimbs_at u (Zag dq):=by
 unfold rLimbs_at
 exact Zae (G:=Zad kp120 [] []) 1000 [] ⟨(atC (cd Tryz.f120) [1,1,0,0,0]),[(0,vw u),(3,AV.vnil)],[],_,[],_⟩ (by kernel_rfl) b0 q0 c0 H
theorem rLimbs0 (u:Int)  (dq:AV) (H :
  ((u>0)->(0<=u.tmod 1000000000/\u.tmod 1000000000<=4294967295) /\
   (0<=u.tdiv 1000000000/\u.tdiv 1000000000<=18446744073709551615) /\
   Zdl (u.tdiv 1000000000) ([u.tmod 1000000000]) 0 (Zag dq)) /\
  (¬(u>0)->Weak (AV.vnil) dq)) :
 Zfw u (Zag dq):=by
 unfold Zfw
 rcases xq H with ⟨d2,H⟩|⟨d2,H⟩
 ·obtain ⟨k3,H⟩:=H
  have w4:wv (u.tmod 1000000000)=u.tmod 1000000000:=wU32 k3
  obtain ⟨k5,H⟩:=H
  have w6:wu (u.tdiv 1000000000)=u.tdiv 1000000000:=wU64 k5
  have w7:[vu (u.tmod 1000000000)]=us [u.tmod 1000000000]:=rfl
  exact Zae (G:=Zad kp120 [] []) 1000 [true] ⟨(atC (cd Tryz.f120) [1,1,0,0,0]),[(0,vw (wu (u.tdiv 1000000000))),(3,AV.row 0 0)],[⟨[vu (wv (u.tmod 1000000000))],1,0,false,true⟩],_,[],_⟩ (by kernel_rfl) (bc (Zaq (Zac.2 d2)) (bc rfl (bc rfl (bc rfl b0)))) q0 c0 (by (try rw [w4]);(try rw [w6]);(try rw [w7]);all_goals exact H)
 ·exact Zah (G:=Zad kp120 [] []) 1000 [false] (AV.vnil) (by kernel_rfl) (bc (Zam (fun h=>d2 (Zac.1 h))) b0) q0 c0 H
theorem rLimbsA (u:Int) (o:List Int) (v:Nat)  (dq:AV) (H :
  ((u>0)->(0<=u.tmod 1000000000/\u.tmod 1000000000<=4294967295) /\
   ((o.length+1)*4<=1099511627776) /\
   (0<=u.tdiv 1000000000/\u.tdiv 1000000000<=18446744073709551615) /\
   Zdl (u.tdiv 1000000000) (o++[u.tmod 1000000000]) (v+1) (Zag dq)) /\
  (¬(u>0)->Weak (vf (us o)) dq)) :
 Zdl u o v (Zag dq):=by
 unfold Zdl
 rcases xq H with ⟨d2,H⟩|⟨d2,H⟩
 ·have w3:(us o).length=o.length:=List.length_map ..
  obtain ⟨k4,H⟩:=H
  have w5:wv (u.tmod 1000000000)=u.tmod 1000000000:=wU32 k4
  have i6:(decide (((us o).length+1)*4<=1099511627776))=true ↔ ((o.length+1)*4<=1099511627776):=(by (try rw [w3]);(try rw [w5]);all_goals exact Zac)
  obtain ⟨k7,H⟩:=H
  have w8:us o++[vu (u.tmod 1000000000)]=us (o++[u.tmod 1000000000]):=(Zfa rfl rfl)
  obtain ⟨k9,H⟩:=H
  have w10:wu (u.tdiv 1000000000)=u.tdiv 1000000000:=wU64 k9
  exact Zae (G:=Zad kp120 [] []) 1000 [true] ⟨(atC (cd Tryz.f120) [1,1,0,0,0]),[(0,vw (wu (u.tdiv 1000000000))),(3,AV.row 0 (v+1))],[⟨us o++[vu (wv (u.tmod 1000000000))],1,v+1,false,true⟩],[(decide (u>0))==true,true,v==v,decide (((us o).length+1)*4<=1099511627776),true],[],_⟩ (by kernel_rfl) (bc (Zaq (Zac.2 d2)) (bc rfl (bc (beq_self_eq_true _) (bc (i6.2 k7) (bc rfl b0))))) q0 c0 (by (try rw [w5]);(try rw [w8]);(try rw [w10]);all_goals exact H)
 ·exact ZcE (G:=Zad kp120 [] []) 1000 [false] (k:=((atC (cd Tryz.f120) [1,1,1,1])).tail) (env':=[(2,AV.row 0 v)]) (L':=[⟨us o,1,v,false,true⟩]) (asm:=[(decide (u>0))==false]) (eqs:=[]) (calls:=[]) (AV.row 0 v) (by kernel_rfl) (by kernel_rfl) (Zal (Zam (fun h=>d2 (Zac.1 h))) ZaQ) Zbf Zbg (ZeH (d:=(vf (us o))) (bs:=[v==v]) (by kernel_rfl) (by kernel_rfl) (Zal (beq_self_eq_true _) ZaQ) (by kernel_rfl) H)
theorem rShort (fa:Bool) (a:List Int)  (dq:AV) (H :
  (-9223372036854775808<=(↑a.length:Int)-1/\(↑a.length:Int)-1<=9223372036854775807) /\
  Zdi fa a 0 ((↑a.length:Int)-1) (Zag dq)) :
 rShort_at fa a (Zag dq):=by
 unfold rShort_at
 have w1:(us a).length=a.length:=List.length_map ..
 obtain ⟨k2,H⟩:=H
 have w3:wi ((↑a.length:Int)-1)=(↑a.length:Int)-1:=wI64 k2
 exact Zae (G:=Zad kp119 [] []) 1000 [] ⟨(atC (cd Tryz.f119) [1,1,0,1,0,0]),[(0,AV.vec fa 1 (us a)),(3,vw 0),(4,vi (wi ((↑(us a).length:Int)-1)))],[],_,[],_⟩ (by kernel_rfl) b0 q0 c0 (by (try rw [w1]);(try rw [w3]);all_goals exact H)
theorem rShortA (fa:Bool) (a:List Int) (n i:Int)  (dq:AV) (H :
  ((i>=0)->(0<=i) /\
   (i.toNat<a.length) /\
   (0<=n*1000000000/\n*1000000000<=18446744073709551615) /\
   (0<=a.getD i.toNat default/\a.getD i.toNat default<=18446744073709551615) /\
   (0<=n*1000000000+a.getD i.toNat default/\n*1000000000+a.getD i.toNat default<=18446744073709551615) /\
   (-9223372036854775808<=i-1/\i-1<=9223372036854775807) /\
   Zdi fa a (n*1000000000+a.getD i.toNat default) (i-1) (Zag dq)) /\
  (¬(i>=0)->vw n=dq)) :
 Zdi fa a n i (Zag dq):=by
 unfold Zdi
 rcases xq H with ⟨d2,H⟩|⟨d2,H⟩
 ·obtain ⟨k4,H⟩:=H
  have w5:(us a).length=a.length:=List.length_map ..
  have i6:(decide (i.toNat<(us a).length))=true ↔ (i.toNat<a.length):=(by (try rw [w5]);all_goals exact Zac)
  obtain ⟨k7,k8,H⟩:=H
  have w9:wu (n*1000000000)=n*1000000000:=wU64 k8
  obtain ⟨k10,H⟩:=H
  have w11:wu (a.getD i.toNat default)=a.getD i.toNat default:=wU64 k10
  obtain ⟨k12,H⟩:=H
  have w13:wu (n*1000000000+a.getD i.toNat default)=n*1000000000+a.getD i.toNat default:=wU64 k12
  obtain ⟨k14,H⟩:=H
  have w15:wi (i-1)=i-1:=wI64 k14
  exact Zae (G:=Zad kp119 [(5,5,.elem (vu (a.getD i.toNat default)))] []) 1000 [true] ⟨(atC (cd Tryz.f119) [1,1,0,1,0,0]),[(0,AV.vec fa 1 (us a)),(3,vw (wu (wu (n*1000000000)+wu (a.getD i.toNat default)))),(4,vi (wi (i-1)))],[],_,[((us a).get?Internal i.toNat=some (vu (a.getD i.toNat default)))],_⟩ (by kernel_rfl) (bc (Zaq (Zac.2 d2)) (bc (Zac.2 k4) (bc (i6.2 k7) b0))) (qc (Zat k7) q0) c0 (by (try rw [w9]);(try rw [w11]);(try rw [w13]);(try rw [w15]);all_goals exact H)
 ·exact Zao (G:=Zad kp119 [] []) 1000 [false] (vw n) (by kernel_rfl) (bc (Zam (fun h=>d2 (Zac.1 h))) b0) q0 c0 H
theorem rCompare (fa fb:Bool) (a b:List Int)  (dq:AV) (H :
  ((¬(↑a.length:Int)=(↑b.length:Int))->(((↑a.length:Int)<(↑b.length:Int))->vi (-1)=dq) /\
   (¬((↑a.length:Int)<(↑b.length:Int))->vi 1=dq)) /\
  (¬(¬(↑a.length:Int)=(↑b.length:Int))->(-9223372036854775808<=(↑a.length:Int)-1/\(↑a.length:Int)-1<=9223372036854775807) /\
   Zcm fa fb a b ((↑a.length:Int)-1) (Zag dq))) :
 ZgF fa fb a b (Zag dq):=by
 unfold ZgF
 have w1:(us a).length=a.length:=List.length_map ..
 have w2:(us b).length=b.length:=List.length_map ..
 have i3:((↑(us a).length:Int) != (↑(us b).length:Int))=true ↔ (¬(↑a.length:Int)=(↑b.length:Int)):=(by (try rw [w1]);(try rw [w2]);all_goals exact i_ne)
 rcases xq H with ⟨d4,H⟩|⟨d4,H⟩
 ·have i5:(decide ((↑(us a).length:Int)<(↑(us b).length:Int)))=true ↔ ((↑a.length:Int)<(↑b.length:Int)):=(by (try rw [w1]);(try rw [w2]);all_goals exact Zac)
  rcases xq H with ⟨d6,H⟩|⟨d6,H⟩
  ·exact Zao (G:=Zad kp116 [] []) 1000 [true,true] (vi (-1)) (by kernel_rfl) (bc (Zaq (i3.2 d4)) (bc (Zaq (i5.2 d6)) b0)) q0 c0 H
  ·exact Zao (G:=Zad kp116 [] []) 1000 [true,false] (vi 1) (by kernel_rfl) (bc (Zaq (i3.2 d4)) (bc (Zam (fun h=>d6 (i5.1 h))) b0)) q0 c0 H
 ·obtain ⟨k7,H⟩:=H
  have w8:wi ((↑a.length:Int)-1)=(↑a.length:Int)-1:=wI64 k7
  exact Zae (G:=Zad kp116 [] []) 1000 [false] ⟨(atC (cd Tryz.f116) [1,1,0,1,0,0]),[(0,AV.vec fa 1 (us a)),(1,AV.vec fb 1 (us b)),(5,vi (wi ((↑(us a).length:Int)-1)))],[],_,[],_⟩ (by kernel_rfl) (bc (Zam (fun h=>d4 (i3.1 h))) b0) q0 c0 (by (try rw [w1]);(try rw [w8]);all_goals exact H)
theorem rCompareA (fa fb:Bool) (a b:List Int) (i:Int)  (dq:AV) (H :
  ((i>=0)->(0<=i) /\
   (i.toNat<a.length) /\
   (i.toNat<b.length) /\
   ((a.getD i.toNat default<b.getD i.toNat default)->vi (-1)=dq) /\
   (¬(a.getD i.toNat default<b.getD i.toNat default)->((a.getD i.toNat default>b.getD i.toNat default)->vi 1=dq) /\
    (¬(a.getD i.toNat default>b.getD i.toNat default)->(-9223372036854775808<=i-1/\i-1<=9223372036854775807) /\
     Zcm fa fb a b (i-1) (Zag dq)))) /\
  (¬(i>=0)->vi 0=dq)) :
 Zcm fa fb a b i (Zag dq):=by
 unfold Zcm
 rcases xq H with ⟨d2,H⟩|⟨d2,H⟩
 ·obtain ⟨k4,H⟩:=H
  have w5:(us a).length=a.length:=List.length_map ..
  have i6:(decide (i.toNat<(us a).length))=true ↔ (i.toNat<a.length):=(by (try rw [w5]);all_goals exact Zac)
  obtain ⟨k7,H⟩:=H
  have w9:(us b).length=b.length:=List.length_map ..
  have i10:(decide (i.toNat<(us b).length))=true ↔ (i.toNat<b.length):=(by (try rw [w9]);all_goals exact Zac)
  obtain ⟨k11,H⟩:=H
  refine Zae (G:=Zad kp116 [(8,3,.elem (vu (a.getD i.toNat default))),(8,7,.elem (vu (b.getD i.toNat default)))] []) 10 [true] ⟨(atC (cd Tryz.f116) [1,1,0,1,0,0,1,0,0,0,1]),[(0,AV.vec fa 1 (us a)),(1,AV.vec fb 1 (us b)),(5,vi i),(31,vb (decide (a.getD i.toNat default<b.getD i.toNat default)))],[],_,[((us a).get?Internal i.toNat=some (vu (a.getD i.toNat default))),((us b).get?Internal i.toNat=some (vu (b.getD i.toNat default)))],_⟩ (by kernel_rfl) (bc (Zaq (Zac.2 d2)) (bc (Zac.2 k4) (bc (i6.2 k7) (bc (Zac.2 k4) (bc (i10.2 k11) b0))))) (qc (Zat k7) (qc (Zat k11) q0)) c0 ?_
  rcases xq H with ⟨d13,H⟩|⟨d13,H⟩
  ·exact Zao (G:=Zad kp116 [] []) 1000 [true] (vi (-1)) (by kernel_rfl) (bc (Zaq (Zac.2 d13)) b0) q0 c0 H
  ·have i15:(decide (i.toNat<(us a).length))=true ↔ (i.toNat<a.length):=(by (try rw [w5]);all_goals exact Zac)
   have i17:(decide (i.toNat<(us b).length))=true ↔ (i.toNat<b.length):=(by (try rw [w9]);all_goals exact Zac)
   refine Zae (G:=Zad kp116 [(10,3,.elem (vu (a.getD i.toNat default))),(10,7,.elem (vu (b.getD i.toNat default)))] []) 4 [false] ⟨(atC (cd Tryz.f116) [1,1,0,1,0,0,1,0,0,1,1]),[(0,AV.vec fa 1 (us a)),(1,AV.vec fb 1 (us b)),(5,vi i),(40,vb (decide (a.getD i.toNat default>b.getD i.toNat default)))],[],_,[((us a).get?Internal i.toNat=some (vu (a.getD i.toNat default))),((us b).get?Internal i.toNat=some (vu (b.getD i.toNat default)))],_⟩ (by kernel_rfl) (bc (Zam (fun h=>d13 (Zac.1 h))) (bc (Zac.2 k4) (bc (i15.2 k7) (bc (Zac.2 k4) (bc (i17.2 k11) b0))))) (qc (Zat k7) (qc (Zat k11) q0)) c0 ?_
   rcases xq H with ⟨d19,H⟩|⟨d19,H⟩
   ·exact Zao (G:=Zad kp116 [] []) 1000 [true] (vi 1) (by kernel_rfl) (bc (Zaq (Zac.2 d19)) b0) q0 c0 H
   ·obtain ⟨k20,H⟩:=H
    have w21:wi (i-1)=i-1:=wI64 k20
    exact Zae (G:=Zad kp116 [] []) 1000 [false] ⟨(atC (cd Tryz.f116) [1,1,0,1,0,0]),[(0,AV.vec fa 1 (us a)),(1,AV.vec fb 1 (us b)),(5,vi (wi (i-1)))],[],_,[],_⟩ (by kernel_rfl) (bc (Zam (fun h=>d19 (Zac.1 h))) b0) q0 c0 (by (try rw [w21]);all_goals exact H)
 ·exact Zao (G:=Zad kp116 [] []) 1000 [false] (vi 0) (by kernel_rfl) (bc (Zam (fun h=>d2 (Zac.1 h))) b0) q0 c0 H
theorem rSign (fa:Bool) (v:Int)  (dq:AV) (H :
  (((↑(J.Zab v).length:Int)=0)->vi 0=dq) /\
  (¬((↑(J.Zab v).length:Int)=0)->((J.Zaa v=true)->vi (-1)=dq) /\
   (¬(J.Zaa v=true)->vi 1=dq))) :
 rSign_at fa v (Zag dq):=by
 unfold rSign_at
 have w1:(us (J.Zab v)).length=(J.Zab v).length:=List.length_map ..
 have i2:((↑(us (J.Zab v)).length:Int)==0)=true ↔ ((↑(J.Zab v).length:Int)=0):=(by (try rw [w1]);all_goals exact i_eq)
 rcases xq H with ⟨d3,H⟩|⟨d3,H⟩
 ·exact Zao (G:=Zad kp71 [] []) 1000 [true] (vi 0) (by kernel_rfl) (bc rfl (bc (Zaq (i2.2 d3)) b0)) q0 c0 H
 ·rcases xq H with ⟨d5,H⟩|⟨d5,H⟩
  ·exact Zao (G:=Zad kp71 [] []) 1000 [false,true] (asm:=[true,((↑(us (J.Zab v)).length:Int)==0)==false,0==0,(J.Zaa v)==true]) (vi (-1)) (by kernel_rfl) (bc rfl (bc (Zam (fun h=>d3 (i2.1 h))) (bc (beq_self_eq_true _) (bc (Zaq ((Zas _).2 d5)) b0)))) q0 c0 H
  ·exact Zao (G:=Zad kp71 [] []) 1000 [false,false] (asm:=[true,((↑(us (J.Zab v)).length:Int)==0)==false,0==0,(J.Zaa v)==false]) (vi 1) (by kernel_rfl) (bc rfl (bc (Zam (fun h=>d3 (i2.1 h))) (bc (beq_self_eq_true _) (bc (Zam (fun h=>d5 ((Zas _).1 h))) b0)))) q0 c0 H
end Go.Av
