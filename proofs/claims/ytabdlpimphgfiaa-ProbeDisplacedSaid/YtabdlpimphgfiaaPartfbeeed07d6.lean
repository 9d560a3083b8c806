/- PART 4 of the texts of a claim, joined by a program: what each part shows stands at its head. -/
import Derived.Test.YtabdlpimphgfiaaPart33b46cf57b

namespace Go.Av
open Go.Proofs
set_option maxRecDepth 100000
def fi107:Fi:=⟨179,[.tmp 4,.tmp 5]⟩
def Zdf:List (Nat × List Nat):=[(0,[0,1]),(1,[0,1]),(2,[0,1,23]),(3,[4,5]),(4,[0,1,34]),(5,[4,5]),(6,[0,1,6]),(7,[0,1,6,7]),(8,[1,6,7,8]),(9,[6,7,8,9]),(10,[6,7,8,9,10]),(11,[6,7,8,9,10,11]),(12,[6,7,8,9,10,11,70]),(13,[6,7,8,9,10,11]),(14,[6,7,8,9,10,11,12]),(15,[6,7,8,9,10,11,13,14]),(16,[6,7,8,9,10,11,13,14,129]),(17,[6,7,8,9,10,11,13,14]),(18,[6,7,8,9,10,11,13,14]),(19,[6,7,8,9,10,11,13,14,141]),(20,[6,7,8,9,10,11,13,151]),(21,[6,7,8,9,10,11,13]),(22,[6,7,8,9,10,11,13]),(23,[6,7,8,9,10,11]),(24,[10,15]),(25,[4,5])]
def ZfZ (fa fb:Bool) (a b:List Int) (Q:AV->Heap->Prop):Prop:=Wp M1 (.run fi107 (atC (cd Try.f107) []) [(0,.vec fa 1 (a.map (.int .u32))),(1,.vec fb 1 (b.map (.int .u32)))] []) Q
def ZfY (fa fb:Bool) (a b:List Int) (Q:AV->Heap->Prop):Prop:=Wp M1 (.run fi107 (atC (cd Try.f107) []) [(0,.vec fa 1 (a.map (.int .u32))),(1,.vec fb 1 (b.map (.int .u32)))] []) Q
def ZaS (u b q:List Int) (fb:Bool) (v:Nat) (n s k:Int) (Q:AV->Heap->Prop):Prop:=Wp M1 (.run fi107 (atC (cd Try.f107) [1,1,1,1,1,1,1,1,1,0,1,0,0]) [(6,.int .i64 n),(7,.int .u32 s),(8,.row 0 v),(9,.vec fb 1 (b.map (.int .u32))),(10,.row 1 0),(11,.int .i64 k)] [⟨u.map (.int .u32),1,v,false,true⟩,⟨q.map (.int .u32),1,0,false,true⟩]) Q
def ZcA (u b q:List Int) (fb:Bool) (v:Nat) (n s k:Int) (g r:Int) (Q:AV->Heap->Prop):Prop:=Wp M1 (.run fi107 (atC (cd Try.f107) [1,1,1,1,1,1,1,1,1,0,1,0,0,1,0,0,1,1,0,0,0]) [(6,.int .i64 n),(7,.int .u32 s),(8,.row 0 v),(9,.vec fb 1 (b.map (.int .u32))),(10,.row 1 0),(11,.int .i64 k),(13,.int .u64 g),(14,.int .u64 r)] [⟨u.map (.int .u32),1,v,false,true⟩,⟨q.map (.int .u32),1,0,false,true⟩]) Q
theorem call107 {args:List AV} {d:AV} (h:wc M1 fi107 Try.f107 args d):Ev M1 (.pure 107 args) d []:=pcl _ _ (by kernel_rfl) h
theorem vDivide0 (fa fb:Bool) (a b:List Int)  (dq:AV) (H :
  (Ev M1 (Conf.pure 110 [AV.vec fa 1 (us a)]) (vf []) []) /\
  ∃ (l1:List Int),
  (Ev M1 (Conf.pure 110 [AV.vec fb 1 (us b)]) (vf (us l1)) []) /\
  (((↑l1.length:Int)=1) -> ∃ (l2:List Int) (l3:List Int),
   (Ev M1 (Conf.pure 118 [vf [],vu (l1.getD 0 default)]) (tu [vf (us l2),vf (us l3)]) []) /\
   (0<l1.length) /\
   Weak (tu [vf (us l2),vf (us l3)]) dq) /\
  (¬((↑l1.length:Int)=1)->(Ev M1 (Conf.pure 85 [vf [],vf (us l1)]) (vi (-1)) []) /\
   Weak (tu [AV.vnil,AV.vnil]) dq)) :
 ZfZ fa fb a b (Zad dq):=by
 unfold ZfZ
 obtain ⟨k1,l1,k2,H⟩:=H
 have w3:(us l1).length=l1.length:=List.length_map ..
 have i4:((↑(us l1).length:Int)==1)=true ↔ ((↑l1.length:Int)=1):=(by (try rw [w3]);all_goals exact i_eq)
 refine Zac (G:=Zab Zdf [(1,1,.call (.vec false 1 []) none),(1,3,.call (vf (us l1)) none)] []) 7 [] ⟨(atC (cd Try.f107) [1,1,0,1]),[(0,vf []),(1,vf (us l1)),(23,vb ((↑(us l1).length:Int)==1))],[],_,[],_⟩ (by kernel_rfl) b0 q0 (ce k1 (ce k2 c0)) ?_
 rcases xq H with ⟨d5,H⟩|⟨d5,H⟩
 ·obtain ⟨l2,l3,k6,H⟩:=H
  have i7:(decide (0<(us l1).length))=true ↔ (0<l1.length):=(by (try rw [w3]);all_goals exact Zaa)
  obtain ⟨k8,H⟩:=H
  exact Zai (G:=Zab Zdf [(3,3,.elem (vu (l1.getD 0 default))),(3,4,.call (tu [vf (us l2),vf (us l3)]) none)] []) 1000 [true] (eqs:=[((us l1).get?Internal 0=some (vu (l1.getD 0 default)))]) (tu [vf (us l2),vf (us l3)]) (by kernel_rfl) (bc (Zak (i4.2 d5)) (bc rfl (bc (i7.2 k8) b0))) (qc (Zap k8) q0) (ce k6 c0) H
 ·obtain ⟨k9,H⟩:=H
  exact Zai (G:=Zab Zdf [(4,2,.call (.int .i64 (-1)) none)] []) 1000 [false,true] (tu [AV.vnil,AV.vnil]) (by kernel_rfl) (bc (Zah (fun h=>d5 (i4.1 h))) (bc rfl b0)) q0 (ce k9 c0) H
noncomputable abbrev zNvF1 (x:Int) (l:List Int):=vu x::us l
theorem vDivideC (fa fb:Bool) (a b:List Int) (x:Int) (l ul:List Int) (dq:AV) (H :
  (Ev M1 (Conf.pure 110 [AV.vec fa 1 (us a)]) (vf (vu x::us l)) []) /\
  ∃ (l1:List Int),
  (Ev M1 (Conf.pure 110 [AV.vec fb 1 (us b)]) (vf (us l1)) []) /\
  (((↑l1.length:Int)=1) -> ∃ (l2:List Int) (l3:List Int),
   (Ev M1 (Conf.pure 118 [vf (vu x::us l),vu (l1.getD 0 default)]) (tu [vf (us l2),vf (us l3)]) []) /\
   (0<l1.length) /\
   Weak (tu [vf (us l2),vf (us l3)]) dq) /\
  (¬((↑l1.length:Int)=1) -> ∃ (n1:Int),
   (Ev M1 (Conf.pure 85 [vf (vu x::us l),vf (us l1)]) (vi n1) []) /\
   ((n1<0)->((l.length+1)*4<=1099511627776) /\
    Weak (tu [AV.vnil,vf (vu x::us l)]) dq) /\
   (¬(n1<0)->(-9223372036854775808<=(↑l1.length:Int)-1/\(↑l1.length:Int)-1<=9223372036854775807) /\
    (0<=(↑l1.length:Int)-1) /\
    (((↑l1.length:Int)-1).toNat<l1.length) /\
    (0<=l1.getD ((↑l1.length:Int)-1).toNat default/\l1.getD ((↑l1.length:Int)-1).toNat default<=18446744073709551615) /\
    (0<=l1.getD ((↑l1.length:Int)-1).toNat default+1/\l1.getD ((↑l1.length:Int)-1).toNat default+1<=18446744073709551615) /\
    (¬l1.getD ((↑l1.length:Int)-1).toNat default+1=0) /\
    (0<=Int.tdiv 1000000000 (l1.getD ((↑l1.length:Int)-1).toNat default+1)/\Int.tdiv 1000000000 (l1.getD ((↑l1.length:Int)-1).toNat default+1)<=18446744073709551615) /\
    (0<=Int.tdiv 1000000000 (l1.getD ((↑l1.length:Int)-1).toNat default+1)/\Int.tdiv 1000000000 (l1.getD ((↑l1.length:Int)-1).toNat default+1)<=4294967295) /\
    (Ev M1 (Conf.own 105 [vf (vu x::us l),AV.vec true 1 [vu (Int.tdiv 1000000000 (l1.getD ((↑l1.length:Int)-1).toNat default+1))]] []) (AV.row 0 0) [{ elems:=us ul,es:=1,ver:=0,frozen:=false,clean:=true }]) /\
    ((ul.length+1)*4<=1099511627776) /\
    ∃ (l4:List Int),
    (Ev M1 (Conf.pure 105 [vf (us l1),AV.vec true 1 [vu (Int.tdiv 1000000000 (l1.getD ((↑l1.length:Int)-1).toNat default+1))]]) (vf (us l4)) []) /\
    ∃ (l5:List Int),
    (Ev M1 (Conf.pure 110 [vf (us l4)]) (vf (us l5)) []) /\
    (-9223372036854775808<=(↑(ul++[0]).length:Int)-(↑l1.length:Int)/\(↑(ul++[0]).length:Int)-(↑l1.length:Int)<=9223372036854775807) /\
    (0<=(↑(ul++[0]).length:Int)-(↑l1.length:Int)) /\
    (((↑(ul++[0]).length:Int)-(↑l1.length:Int))*4<=1099511627776) /\
    ((↑(ul++[0]).length:Int)-(↑l1.length:Int)<=1099511627776) /\
    (-9223372036854775808<=(↑(ul++[0]).length:Int)-(↑l1.length:Int)-1/\(↑(ul++[0]).length:Int)-(↑l1.length:Int)-1<=9223372036854775807) /\
    ZaS (ul++[0]) l5 (List.replicate ((↑(ul++[0]).length:Int)-(↑l1.length:Int)).toNat (0:Int)) false 1 ((↑l1.length:Int)) (Int.tdiv 1000000000 (l1.getD ((↑l1.length:Int)-1).toNat default+1)) ((↑(ul++[0]).length:Int)-(↑l1.length:Int)-1) (Zad dq)))) :
 ZfY fa fb a b (Zad dq):=by
 unfold ZfY
 obtain ⟨k1,l1,k2,H⟩:=H
 have w3:(us l1).length=l1.length:=List.length_map ..
 have i4:((↑(us l1).length:Int)==1)=true ↔ ((↑l1.length:Int)=1):=(by (try rw [w3]);all_goals exact i_eq)
 refine Zac (G:=Zab Zdf [(1,1,.call (.vec false 1 ((x::l).map (.int .u32))) none),(1,3,.call (vf (us l1)) none)] []) 7 [] ⟨(atC (cd Try.f107) [1,1,0,1]),[(0,vf (zNvF1 x l)),(1,vf (us l1)),(23,vb ((↑(us l1).length:Int)==1))],[],_,[],_⟩ (by kernel_rfl) b0 q0 (ce k1 (ce k2 c0)) ?_
 rcases xq H with ⟨d5,H⟩|⟨d5,H⟩
 ·obtain ⟨l2,l3,k6,H⟩:=H
  have i7:(decide (0<(us l1).length))=true ↔ (0<l1.length):=(by (try rw [w3]);all_goals exact Zaa)
  obtain ⟨k8,H⟩:=H
  exact Zai (G:=Zab Zdf [(3,3,.elem (vu (l1.getD 0 default))),(3,4,.call (tu [vf (us l2),vf (us l3)]) none)] []) 1000 [true] (eqs:=[((us l1).get?Internal 0=some (vu (l1.getD 0 default)))]) (tu [vf (us l2),vf (us l3)]) (by kernel_rfl) (bc (Zak (i4.2 d5)) (bc rfl (bc (i7.2 k8) b0))) (qc (Zap k8) q0) (ce k6 c0) H
 ·obtain ⟨n1,k9,H⟩:=H
  refine Zac (G:=Zab Zdf [(4,2,.call (vi n1) none)] []) 5 [false] ⟨(atC (cd Try.f107) [1,1,1,0,1]),[(0,vf (zNvF1 x l)),(1,vf (us l1)),(34,vb (decide (n1<0)))],[],_,[],_⟩ (by kernel_rfl) (bc (Zah (fun h=>d5 (i4.1 h))) b0) q0 (ce k9 c0) ?_
  rcases xq H with ⟨d11,H⟩|⟨d11,H⟩
  ·have w12:(us l).length=l.length:=List.length_map ..
   have i13:(decide (((us l).length+1)*4<=1099511627776))=true ↔ ((l.length+1)*4<=1099511627776):=(by (try rw [w12]);all_goals exact Zaa)
   obtain ⟨k14,H⟩:=H
   exact Zbu (G:=Zab Zdf [] []) 1000 [true] (k:=((atC (cd Try.f107) [1,1,1,0,1,0,1])).tail) (env':=[(4,AV.vnil),(5,AV.row 0 0)]) (L':=[⟨vu x::us l,1,0,false,true⟩]) (asm:=[(decide (n1<0))==true,decide (((us l).length+1)*4<=1099511627776)]) (eqs:=[]) (calls:=[]) (tu [AV.vnil,AV.row 0 0]) (by kernel_rfl) (by kernel_rfl) (Zam (Zak (Zaa.2 d11)) (Zam (i13.2 k14) ZaF)) Za7 Za9 (ZdE (d:=(tu [AV.vnil,vf (zNvF1 x l)])) (bs:=[0==0]) (by kernel_rfl) (by kernel_rfl) (Zam (beq_self_eq_true _) ZaF) (by kernel_rfl) H)
  ·obtain ⟨k15,H⟩:=H
   have w16:wi ((↑l1.length:Int)-1)=(↑l1.length:Int)-1:=wI64 k15
   have i17:(decide (0<=wi ((↑(us l1).length:Int)-1)))=true ↔ (0<=(↑l1.length:Int)-1):=(by (try rw [w3]);(try rw [w16]);all_goals exact Zaa)
   obtain ⟨k18,H⟩:=H
   have i19:(decide ((wi ((↑(us l1).length:Int)-1)).toNat<(us l1).length))=true ↔ (((↑l1.length:Int)-1).toNat<l1.length):=(by (try rw [w3]);(try rw [w16]);all_goals exact Zaa)
   obtain ⟨k20,k21,H⟩:=H
   have w22:wu (l1.getD ((↑l1.length:Int)-1).toNat default)=l1.getD ((↑l1.length:Int)-1).toNat default:=wU64 k21
   obtain ⟨k23,H⟩:=H
   have w24:wu (l1.getD ((↑l1.length:Int)-1).toNat default+1)=l1.getD ((↑l1.length:Int)-1).toNat default+1:=wU64 k23
   have i25:(!wu (wu (l1.getD ((↑l1.length:Int)-1).toNat default)+1)==0)=true ↔ (¬l1.getD ((↑l1.length:Int)-1).toNat default+1=0):=(by (try rw [w22]);(try rw [w24]);all_goals exact Zds)
   obtain ⟨k26,k27,H⟩:=H
   have w28:wu (Int.tdiv 1000000000 (l1.getD ((↑l1.length:Int)-1).toNat default+1))=Int.tdiv 1000000000 (l1.getD ((↑l1.length:Int)-1).toNat default+1):=wU64 k27
   obtain ⟨k29,H⟩:=H
   have w30:wv (Int.tdiv 1000000000 (l1.getD ((↑l1.length:Int)-1).toNat default+1))=Int.tdiv 1000000000 (l1.getD ((↑l1.length:Int)-1).toNat default+1):=wU32 k29
   obtain ⟨k31,H⟩:=H
   have w32:(us ul).length=ul.length:=List.length_map ..
   have i33:(decide (((us ul).length+1)*4<=1099511627776))=true ↔ ((ul.length+1)*4<=1099511627776):=(by (try rw [w32]);all_goals exact Zaa)
   obtain ⟨k34,H⟩:=H
   have w35:us ul++[vu 0]=us (ul++[0]):=(Zfm rfl rfl)
   obtain ⟨l4,k36,l5,k37,H⟩:=H
   have w38:(us (ul++[0])).length=(ul++[0]).length:=List.length_map ..
   obtain ⟨k39,H⟩:=H
   have w40:wi ((↑(ul++[0]).length:Int)-(↑l1.length:Int))=(↑(ul++[0]).length:Int)-(↑l1.length:Int):=wI64 k39
   have i41:(decide (0<=wi ((↑(us ul++[vu 0]).length:Int)-(↑(us l1).length:Int))))=true ↔ (0<=(↑(ul++[0]).length:Int)-(↑l1.length:Int)):=(by (try rw [w3]);(try rw [w35]);(try rw [w38]);(try rw [w40]);all_goals exact Zaa)
   obtain ⟨k42,H⟩:=H
   have i43:(decide (wi ((↑(us ul++[vu 0]).length:Int)-(↑(us l1).length:Int))<=wi ((↑(us ul++[vu 0]).length:Int)-(↑(us l1).length:Int))))=true ↔ ((↑(ul++[0]).length:Int)-(↑l1.length:Int)<=(↑(ul++[0]).length:Int)-(↑l1.length:Int)):=(by (try rw [w3]);(try rw [w35]);(try rw [w38]);(try rw [w40]);all_goals exact Zaa)
   have i44:(decide (wi ((↑(us ul++[vu 0]).length:Int)-(↑(us l1).length:Int))*4<=1099511627776))=true ↔ (((↑(ul++[0]).length:Int)-(↑l1.length:Int))*4<=1099511627776):=(by (try rw [w3]);(try rw [w35]);(try rw [w38]);(try rw [w40]);all_goals exact Zaa)
   obtain ⟨k45,H⟩:=H
   have i46:(decide (wi ((↑(us ul++[vu 0]).length:Int)-(↑(us l1).length:Int))<=1099511627776))=true ↔ ((↑(ul++[0]).length:Int)-(↑l1.length:Int)<=1099511627776):=(by (try rw [w3]);(try rw [w35]);(try rw [w38]);(try rw [w40]);all_goals exact Zaa)
   obtain ⟨k47,H⟩:=H
   have w48:List.replicate ((↑(ul++[0]).length:Int)-(↑l1.length:Int)).toNat (vu 0)=us (List.replicate ((↑(ul++[0]).length:Int)-(↑l1.length:Int)).toNat (0:Int)):=(ZdJ rfl)
   obtain ⟨k49,H⟩:=H
   have w50:wi ((↑(ul++[0]).length:Int)-(↑l1.length:Int)-1)=(↑(ul++[0]).length:Int)-(↑l1.length:Int)-1:=wI64 k49
   exact Zac (G:=Zab Zdf [(7,4,.elem (vu (l1.getD ((↑l1.length:Int)-1).toNat default))),(8,3,(.call (.row 0 0) (some [⟨ul.map (.int .u32),1,0,false,true⟩]):Ans)),(9,3,.call (vf (us l4)) none),(9,4,.call (vf (us l5)) none)] []) 1000 [false] ⟨(atC (cd Try.f107) [1,1,1,1,1,1,1,1,1,0,1,0,0]),[(6,vi (↑(us l1).length:Int)),(7,vu (wv (wu (Int.tdiv 1000000000 (wu (wu (l1.getD ((↑l1.length:Int)-1).toNat default)+1)))))),(8,AV.row 0 1),(9,vf (us l5)),(10,AV.row 1 0),(11,vi (wi (wi ((↑(us ul++[vu 0]).length:Int)-(↑(us l1).length:Int))-1)))],[⟨us ul++[vu 0],1,1,false,true⟩,⟨List.replicate (wi ((↑(us ul++[vu 0]).length:Int)-(↑(us l1).length:Int))).toNat (vu 0),1,0,false,true⟩],[(decide (n1<0))==false,decide (0<=wi ((↑(us l1).length:Int)-1)),decide ((wi ((↑(us l1).length:Int)-1)).toNat<(us l1).length),!wu (wu (l1.getD ((↑l1.length:Int)-1).toNat default)+1)==0,scalarL (us ul),true,decide (((us ul).length+1)*4<=1099511627776),true,decide (0<=wi ((↑(us ul++[vu 0]).length:Int)-(↑(us l1).length:Int))),decide (wi ((↑(us ul++[vu 0]).length:Int)-(↑(us l1).length:Int))<=wi ((↑(us ul++[vu 0]).length:Int)-(↑(us l1).length:Int))),decide (wi ((↑(us ul++[vu 0]).length:Int)-(↑(us l1).length:Int))*4<=1099511627776),decide (wi ((↑(us ul++[vu 0]).length:Int)-(↑(us l1).length:Int))<=1099511627776),true],[((us l1).get?Internal (wi ((↑(us l1).length:Int)-1)).toNat=some (vu (l1.getD ((↑l1.length:Int)-1).toNat default)))],[⟨true,true,105,[vf (zNvF1 x l),AV.vec true 1 [vu (wv (wu (Int.tdiv 1000000000 (wu (wu (l1.getD ((↑l1.length:Int)-1).toNat default)+1)))))]],[],AV.row 0 0,[⟨us ul,1,0,false,true⟩]⟩,⟨true,false,105,[vf (us l1),AV.vec true 1 [vu (wv (wu (Int.tdiv 1000000000 (wu (wu (l1.getD ((↑l1.length:Int)-1).toNat default)+1)))))]],[],vf (us l4),[]⟩,⟨true,false,110,[vf (us l4)],[],vf (us l5),[]⟩]⟩ (by kernel_rfl) (bc (Zah (fun h=>d11 (Zaa.1 h))) (bc (i17.2 k18) (bc (i19.2 k20) (bc (i25.2 k26) (bc (by first | exact sc_int _ | exact sc_bool _) (bc rfl (bc (i33.2 k34) (bc rfl (bc (i41.2 k42) (bc (i43.2 (by omega)) (bc (i44.2 k45) (bc (i46.2 k47) (bc rfl b0))))))))))))) (qc (by (try rw [w3]);(try rw [w16]);all_goals exact (Zap k20)) q0) (cc (fun _=>(by (try rw [w22]);(try rw [w24]);(try rw [w28]);(try rw [w30]);all_goals exact k31)) (cc (fun _=>(by (try rw [w22]);(try rw [w24]);(try rw [w28]);(try rw [w30]);all_goals exact k36)) (cc (fun _=>k37) c0))) (by (try rw [w3]);(try rw [w22]);(try rw [w24]);(try rw [w28]);(try rw [w30]);(try rw [w35]);(try rw [w38]);(try rw [w40]);(try rw [w48]);(try rw [w50]);all_goals exact H)
noncomputable abbrev zNvF2 (b:List Int) (n:Int):=vu (b.getD (n-1).toNat default)
theorem vDivideK (u b q:List Int) (fb:Bool) (v:Nat) (n s k:Int)  (dq:AV) (H :
  ((k>=0)->(-9223372036854775808<=k+n/\k+n<=9223372036854775807) /\
   (-9223372036854775808<=k+n-1/\k+n-1<=9223372036854775807) /\
   (0<=k+n) /\
   ((k+n).toNat<u.length) /\
   (0<=k+n-1) /\
   ((k+n-1).toNat<u.length) /\
   (0<=u.getD (k+n).toNat default/\u.getD (k+n).toNat default<=18446744073709551615) /\
   (0<=u.getD (k+n).toNat default*1000000000/\u.getD (k+n).toNat default*1000000000<=18446744073709551615) /\
   (0<=u.getD (k+n-1).toNat default/\u.getD (k+n-1).toNat default<=18446744073709551615) /\
   (0<=u.getD (k+n).toNat default*1000000000+u.getD (k+n-1).toNat default/\u.getD (k+n).toNat default*1000000000+u.getD (k+n-1).toNat default<=18446744073709551615) /\
   (-9223372036854775808<=n-1/\n-1<=9223372036854775807) /\
   (0<=n-1) /\
   ((n-1).toNat<b.length) /\
   (0<=b.getD (n-1).toNat default/\b.getD (n-1).toNat default<=18446744073709551615) /\
   (¬b.getD (n-1).toNat default=0) /\
   (0<=(u.getD (k+n).toNat default*1000000000+u.getD (k+n-1).toNat default).tdiv (b.getD (n-1).toNat default)/\(u.getD (k+n).toNat default*1000000000+u.getD (k+n-1).toNat default).tdiv (b.getD (n-1).toNat default)<=18446744073709551615) /\
   ZcA u b q fb v n s k ((u.getD (k+n).toNat default*1000000000+u.getD (k+n-1).toNat default).tdiv (b.getD (n-1).toNat default)) ((u.getD (k+n).toNat default*1000000000+u.getD (k+n-1).toNat default).tmod (b.getD (n-1).toNat default)) (Zad dq)) /\
  (¬(k>=0) -> ∃ (l1:List Int),
   (Ev M1 (Conf.pure 110 [vf (us (List.take (n.toNat-0) (List.drop 0 u)))]) (vf (us l1)) []) /\
   ∃ (l2:List Int) (l3:List Int),
   (Ev M1 (Conf.pure 118 [vf (us l1),vu s]) (tu [vf (us l2),vf (us l3)]) []) /\
   (0<=n) /\
   (0<=n.toNat) /\
   (n.toNat<=u.length) /\
   Weak (tu [vf (us q),vf (us l2)]) dq)) :
 ZaS u b q fb v n s k (Zad dq):=by
 unfold ZaS
 rcases xq H with ⟨d2,H⟩|⟨d2,H⟩
 ·obtain ⟨k3,H⟩:=H
  have w4:wi (k+n)=k+n:=wI64 k3
  obtain ⟨k5,H⟩:=H
  have w6:wi (k+n-1)=k+n-1:=wI64 k5
  have i7:(decide (0<=wi (k+n)))=true ↔ (0<=k+n):=(by (try rw [w4]);all_goals exact Zaa)
  obtain ⟨k8,H⟩:=H
  have w9:(us u).length=u.length:=List.length_map ..
  have i10:(decide ((wi (k+n)).toNat<(us u).length))=true ↔ ((k+n).toNat<u.length):=(by (try rw [w4]);(try rw [w9]);all_goals exact Zaa)
  obtain ⟨k11,H⟩:=H
  have i12:(decide (0<=wi (wi (k+n)-1)))=true ↔ (0<=k+n-1):=(by (try rw [w4]);(try rw [w6]);all_goals exact Zaa)
  obtain ⟨k13,H⟩:=H
  have i14:(decide ((wi (wi (k+n)-1)).toNat<(us u).length))=true ↔ ((k+n-1).toNat<u.length):=(by (try rw [w4]);(try rw [w6]);(try rw [w9]);all_goals exact Zaa)
  obtain ⟨k15,k16,H⟩:=H
  have w17:wu (u.getD (k+n).toNat default)=u.getD (k+n).toNat default:=wU64 k16
  obtain ⟨k18,H⟩:=H
  have w19:wu (u.getD (k+n).toNat default*1000000000)=u.getD (k+n).toNat default*1000000000:=wU64 k18
  obtain ⟨k20,H⟩:=H
  have w21:wu (u.getD (k+n-1).toNat default)=u.getD (k+n-1).toNat default:=wU64 k20
  obtain ⟨k22,H⟩:=H
  have w23:wu (u.getD (k+n).toNat default*1000000000+u.getD (k+n-1).toNat default)=u.getD (k+n).toNat default*1000000000+u.getD (k+n-1).toNat default:=wU64 k22
  obtain ⟨k24,H⟩:=H
  have w25:wi (n-1)=n-1:=wI64 k24
  have i26:(decide (0<=wi (n-1)))=true ↔ (0<=n-1):=(by (try rw [w25]);all_goals exact Zaa)
  obtain ⟨k27,H⟩:=H
  have w28:(us b).length=b.length:=List.length_map ..
  have i29:(decide ((wi (n-1)).toNat<(us b).length))=true ↔ ((n-1).toNat<b.length):=(by (try rw [w25]);(try rw [w28]);all_goals exact Zaa)
  obtain ⟨k30,k31,H⟩:=H
  have w32:wu (b.getD (n-1).toNat default)=b.getD (n-1).toNat default:=wU64 k31
  have i33:(!wu (b.getD (n-1).toNat default)==0)=true ↔ (¬b.getD (n-1).toNat default=0):=(by (try rw [w32]);all_goals exact Zds)
  obtain ⟨k34,H⟩:=H
  have i35:(decide (0<=wi (n-1)))=true ↔ (0<=n-1):=(by (try rw [w25]);all_goals exact Zaa)
  have i36:(decide ((wi (n-1)).toNat<(us b).length))=true ↔ ((n-1).toNat<b.length):=(by (try rw [w25]);(try rw [w28]);all_goals exact Zaa)
  have i37:(!wu (b.getD (n-1).toNat default)==0)=true ↔ (¬b.getD (n-1).toNat default=0):=(by (try rw [w32]);all_goals exact Zds)
  obtain ⟨k38,H⟩:=H
  have w39:wu ((u.getD (k+n).toNat default*1000000000+u.getD (k+n-1).toNat default).tdiv (b.getD (n-1).toNat default))=(u.getD (k+n).toNat default*1000000000+u.getD (k+n-1).toNat default).tdiv (b.getD (n-1).toNat default):=wU64 k38
  exact Zac (G:=Zab Zdf [(14,5,.elem (vu (u.getD (k+n).toNat default))),(14,14,.elem (vu (u.getD (k+n-1).toNat default))),(15,5,.elem (zNvF2 b n)),(15,13,.elem (zNvF2 b n))] []) 1000 [true] ⟨(atC (cd Try.f107) [1,1,1,1,1,1,1,1,1,0,1,0,0,1,0,0,1,1,0,0,0]),[(6,vi n),(7,vu s),(8,AV.row 0 v),(9,AV.vec fb 1 (us b)),(10,AV.row 1 0),(11,vi k),(13,vw (wu ((wu (wu (wu (u.getD (k+n).toNat default)*1000000000)+wu (u.getD (k+n-1).toNat default))).tdiv (wu (b.getD (n-1).toNat default))))),(14,vw ((wu (wu (wu (u.getD (k+n).toNat default)*1000000000)+wu (u.getD (k+n-1).toNat default))).tmod (wu (b.getD (n-1).toNat default))))],[⟨us u,1,v,false,true⟩,⟨us q,1,0,false,true⟩],[(decide (k>=0))==true,v==v,decide (0<=wi (k+n)),decide ((wi (k+n)).toNat<(us u).length),v==v,v==v,decide (0<=wi (wi (k+n)-1)),decide ((wi (wi (k+n)-1)).toNat<(us u).length),v==v,decide (0<=wi (n-1)),decide ((wi (n-1)).toNat<(us b).length),!wu (b.getD (n-1).toNat default)==0,decide (0<=wi (n-1)),decide ((wi (n-1)).toNat<(us b).length),!wu (b.getD (n-1).toNat default)==0],[((us u).get?Internal (wi (k+n)).toNat=some (vu (u.getD (k+n).toNat default))),((us u).get?Internal (wi (wi (k+n)-1)).toNat=some (vu (u.getD (k+n-1).toNat default))),((us b).get?Internal (wi (n-1)).toNat=some (zNvF2 b n)),((us b).get?Internal (wi (n-1)).toNat=some (zNvF2 b n))],_⟩ (by kernel_rfl) (bc (Zak (Zaa.2 d2)) (bc (beq_self_eq_true _) (bc (i7.2 k8) (bc (i10.2 k11) (bc (beq_self_eq_true _) (bc (beq_self_eq_true _) (bc (i12.2 k13) (bc (i14.2 k15) (bc (beq_self_eq_true _) (bc (i26.2 k27) (bc (i29.2 k30) (bc (i33.2 k34) (bc (i35.2 k27) (bc (i36.2 k30) (bc (i37.2 k34) b0))))))))))))))) (qc (by (try rw [w4]);all_goals exact (Zap k11)) (qc (by (try rw [w4]);(try rw [w6]);all_goals exact (Zap k15)) (qc (by (try rw [w25]);all_goals exact (Zap k30)) (qc (by (try rw [w25]);all_goals exact (Zap k30)) q0)))) c0 (by (try rw [w17]);(try rw [w19]);(try rw [w21]);(try rw [w23]);(try rw [w32]);(try rw [w39]);all_goals exact H)
 ·have w40:List.drop 0 (us u)=us (List.drop 0 u):=(Ze7 rfl)
  have w41:List.take (n.toNat-0) (us (List.drop 0 u))=us (List.take (n.toNat-0) (List.drop 0 u)):=(Ze6 rfl)
  obtain ⟨l1,k42,l2,l3,k43,k45,k47,H⟩:=H
  have w48:(us u).length=u.length:=List.length_map ..
  have i49:(decide (n.toNat<=(us u).length))=true ↔ (n.toNat<=u.length):=(by (try rw [w48]);all_goals exact Zaa)
  obtain ⟨k50,H⟩:=H
  exact Zbu (G:=Zab Zdf [(24,3,.call (vf (us l1)) none),(24,5,.call (tu [vf (us l2),vf (us l3)]) none)] []) 1000 [false] (k:=((atC (cd Try.f107) [1,1,1,1,1,1,1,1,1,1,1,1])).tail) (env':=[(4,AV.row 1 0),(5,vf (us l2))]) (L':=[⟨us u,1,v,true,true⟩,⟨us q,1,0,false,true⟩]) (asm:=[(decide (k>=0))==false,v==v,decide (0<=n),decide (0<=n.toNat),decide (n.toNat<=(us u).length),v==v]) (eqs:=[]) (calls:=[⟨true,false,110,[vf (List.take (n.toNat-0) (List.drop 0 (us u)))],[],vf (us l1),[]⟩,⟨true,false,118,[vf (us l1),vu s],[],tu [vf (us l2),vf (us l3)],[]⟩]) (tu [AV.row 1 0,vf (us l2)]) (by kernel_rfl) (by kernel_rfl) (Zam (Zah (fun h=>d2 (Zaa.1 h))) (Zam (beq_self_eq_true _) (Zam (Zaa.2 k45) (Zam (Zaa.2 k47) (Zam (i49.2 k50) (Zam (beq_self_eq_true _) ZaF)))))) Za7 (Zcf (fun _=>(by (try rw [w40]);(try rw [w41]);all_goals exact k42)) (Zcf (fun _=>k43) Za9)) (ZdE (d:=(tu [vf (us q),vf (us l2)])) (bs:=[0==0]) (by kernel_rfl) (by kernel_rfl) (Zam (beq_self_eq_true _) ZaF) (by kernel_rfl) H)
noncomputable abbrev zNvF3 (g:Int) (b:List Int) (n:Int) (r:Int) (u:List Int) (k:Int):=wu (g*wu (b.getD (n-2).toNat default))>wu (wu (r*1000000000)+wu (u.getD (k+n-2).toNat default))
theorem vDivideG (u b q:List Int) (fb:Bool) (v:Nat) (n s k:Int) (g r:Int)  (dq:AV) (H :
  (-9223372036854775808<=n-2/\n-2<=9223372036854775807) /\
  (-9223372036854775808<=k+n/\k+n<=9223372036854775807) /\
  (-9223372036854775808<=k+n-2/\k+n-2<=9223372036854775807) /\
  ((¬(g>=1000000000))->(0<=n-2)) /\
  ((¬(g>=1000000000))->((n-2).toNat<b.length)) /\
  ((¬(g>=1000000000))->(0<=k+n-2)) /\
  ((¬(g>=1000000000))->((k+n-2).toNat<u.length)) /\
  (((g>=1000000000)\/(IntKind.u64.wrap (g*IntKind.u64.wrap (b.getD (n-2).toNat default))>IntKind.u64.wrap (IntKind.u64.wrap (r*1000000000)+IntKind.u64.wrap (u.getD (k+n-2).toNat default))))->(0<=g-1/\g-1<=18446744073709551615) /\
   (-9223372036854775808<=n-1/\n-1<=9223372036854775807) /\
   (0<=n-1) /\
   ((n-1).toNat<b.length) /\
   (0<=b.getD (n-1).toNat default/\b.getD (n-1).toNat default<=18446744073709551615) /\
   (0<=r+b.getD (n-1).toNat default/\r+b.getD (n-1).toNat default<=18446744073709551615) /\
   ((r+b.getD (n-1).toNat default>=1000000000)->(-9223372036854775808<=k+n+1/\k+n+1<=9223372036854775807) /\
    (Sp.okL u/\Sp.okL b/\k.toNat+((k+n+1).toNat-k.toNat)<=u.length/\(k+n+1).toNat-k.toNat=b.length+1/\u.length<=1000000/\0<=g-1/\g-1<1000000000) /\
    (0<=k) /\
    (0<=k+n+1) /\
    (k.toNat<=(k+n+1).toNat) /\
    ((k+n+1).toNat<=u.length) /\
    (((↑(Sp.win u k.toNat ((k+n+1).toNat-k.toNat)):Int)-(g-1)*(↑(valL b):Int)<0)->(0<=g-1-1/\g-1-1<=18446744073709551615) /\
     (Sp.okL (Sp.Za4 u k.toNat ((k+n+1).toNat-k.toNat) ((↑(Sp.win u k.toNat ((k+n+1).toNat-k.toNat)):Int)-(g-1)*(↑(valL b):Int)))/\Sp.okL b/\k.toNat+((k+n+1).toNat-k.toNat)<=(Sp.Za4 u k.toNat ((k+n+1).toNat-k.toNat) ((↑(Sp.win u k.toNat ((k+n+1).toNat-k.toNat)):Int)-(g-1)*(↑(valL b):Int))).length/\(k+n+1).toNat-k.toNat=b.length+1/\(Sp.Za4 u k.toNat ((k+n+1).toNat-k.toNat) ((↑(Sp.win u k.toNat ((k+n+1).toNat-k.toNat)):Int)-(g-1)*(↑(valL b):Int))).length<=1000000) /\
     ((k+n+1).toNat<=(Sp.Za4 u k.toNat ((k+n+1).toNat-k.toNat) ((↑(Sp.win u k.toNat ((k+n+1).toNat-k.toNat)):Int)-(g-1)*(↑(valL b):Int))).length) /\
     (k.toNat<q.length) /\
     (0<=g-1-1/\g-1-1<=4294967295) /\
     (-9223372036854775808<=k-1/\k-1<=9223372036854775807) /\
     ZaS (Sp.Za4 (Sp.Za4 u k.toNat ((k+n+1).toNat-k.toNat) ((↑(Sp.win u k.toNat ((k+n+1).toNat-k.toNat)):Int)-(g-1)*(↑(valL b):Int))) k.toNat ((k+n+1).toNat-k.toNat) ((↑(Sp.win (Sp.Za4 u k.toNat ((k+n+1).toNat-k.toNat) ((↑(Sp.win u k.toNat ((k+n+1).toNat-k.toNat)):Int)-(g-1)*(↑(valL b):Int))) k.toNat ((k+n+1).toNat-k.toNat)):Int)+(↑(valL b):Int))) b (q.set k.toNat (g-1-1)) fb v n s (k-1) (Zad dq)) /\
    (¬((↑(Sp.win u k.toNat ((k+n+1).toNat-k.toNat)):Int)-(g-1)*(↑(valL b):Int)<0)->(k.toNat<q.length) /\
     (0<=g-1/\g-1<=4294967295) /\
     (-9223372036854775808<=k-1/\k-1<=9223372036854775807) /\
     ZaS (Sp.Za4 u k.toNat ((k+n+1).toNat-k.toNat) ((↑(Sp.win u k.toNat ((k+n+1).toNat-k.toNat)):Int)-(g-1)*(↑(valL b):Int))) b (q.set k.toNat (g-1)) fb v n s (k-1) (Zad dq))) /\
   (¬(r+b.getD (n-1).toNat default>=1000000000)->ZcA u b q fb v n s k (g-1) (r+b.getD (n-1).toNat default) (Zad dq))) /\
  (¬((g>=1000000000)\/(IntKind.u64.wrap (g*IntKind.u64.wrap (b.getD (n-2).toNat default))>IntKind.u64.wrap (IntKind.u64.wrap (r*1000000000)+IntKind.u64.wrap (u.getD (k+n-2).toNat default))))->(-9223372036854775808<=k+n+1/\k+n+1<=9223372036854775807) /\
   (Sp.okL u/\Sp.okL b/\k.toNat+((k+n+1).toNat-k.toNat)<=u.length/\(k+n+1).toNat-k.toNat=b.length+1/\u.length<=1000000/\0<=g/\g<1000000000) /\
   (0<=k) /\
   (0<=k+n+1) /\
   (k.toNat<=(k+n+1).toNat) /\
   ((k+n+1).toNat<=u.length) /\
   (((↑(Sp.win u k.toNat ((k+n+1).toNat-k.toNat)):Int)-g*(↑(valL b):Int)<0)->(0<=g-1/\g-1<=18446744073709551615) /\
    (Sp.okL (Sp.Za4 u k.toNat ((k+n+1).toNat-k.toNat) ((↑(Sp.win u k.toNat ((k+n+1).toNat-k.toNat)):Int)-g*(↑(valL b):Int)))/\Sp.okL b/\k.toNat+((k+n+1).toNat-k.toNat)<=(Sp.Za4 u k.toNat ((k+n+1).toNat-k.toNat) ((↑(Sp.win u k.toNat ((k+n+1).toNat-k.toNat)):Int)-g*(↑(valL b):Int))).length/\(k+n+1).toNat-k.toNat=b.length+1/\(Sp.Za4 u k.toNat ((k+n+1).toNat-k.toNat) ((↑(Sp.win u k.toNat ((k+n+1).toNat-k.toNat)):Int)-g*(↑(valL b):Int))).length<=1000000) /\
    ((k+n+1).toNat<=(Sp.Za4 u k.toNat ((k+n+1).toNat-k.toNat) ((↑(Sp.win u k.toNat ((k+n+1).toNat-k.toNat)):Int)-g*(↑(valL b):Int))).length) /\
    (k.toNat<q.length) /\
    (0<=g-1/\g-1<=4294967295) /\
    (-9223372036854775808<=k-1/\k-1<=9223372036854775807) /\
    ZaS (Sp.Za4 (Sp.Za4 u k.toNat ((k+n+1).toNat-k.toNat) ((↑(Sp.win u k.toNat ((k+n+1).toNat-k.toNat)):Int)-g*(↑(valL b):Int))) k.toNat ((k+n+1).toNat-k.toNat) ((↑(Sp.win (Sp.Za4 u k.toNat ((k+n+1).toNat-k.toNat) ((↑(Sp.win u k.toNat ((k+n+1).toNat-k.toNat)):Int)-g*(↑(valL b):Int))) k.toNat ((k+n+1).toNat-k.toNat)):Int)+(↑(valL b):Int))) b (q.set k.toNat (g-1)) fb v n s (k-1) (Zad dq)) /\
   (¬((↑(Sp.win u k.toNat ((k+n+1).toNat-k.toNat)):Int)-g*(↑(valL b):Int)<0)->(k.toNat<q.length) /\
    (0<=g/\g<=4294967295) /\
    (-9223372036854775808<=k-1/\k-1<=9223372036854775807) /\
    ZaS (Sp.Za4 u k.toNat ((k+n+1).toNat-k.toNat) ((↑(Sp.win u k.toNat ((k+n+1).toNat-k.toNat)):Int)-g*(↑(valL b):Int))) b (q.set k.toNat g) fb v n s (k-1) (Zad dq)))) :
 ZcA u b q fb v n s k g r (Zad dq):=by
 unfold ZcA
 obtain ⟨k1,H⟩:=H
 have w2:wi (n-2)=n-2:=wI64 k1
 obtain ⟨k3,H⟩:=H
 have w4:wi (k+n)=k+n:=wI64 k3
 obtain ⟨k5,H⟩:=H
 have w6:wi (k+n-2)=k+n-2:=wI64 k5
 have i7:(!(decide (g>=1000000000)==false&&true)||decide (0<=wi (n-2)))=true ↔ ((¬(g>=1000000000))->(0<=n-2)):=(by (try rw [w2]);all_goals exact (Zdt (i_at (i_bf Zaa)) Zaa))
 obtain ⟨k8,H⟩:=H
 have w9:(us b).length=b.length:=List.length_map ..
 have i10:(!(decide (g>=1000000000)==false&&true)||decide ((wi (n-2)).toNat<(us b).length))=true ↔ ((¬(g>=1000000000))->((n-2).toNat<b.length)):=(by (try rw [w2]);(try rw [w9]);all_goals exact (Zdt (i_at (i_bf Zaa)) Zaa))
 obtain ⟨k11,H⟩:=H
 have i13:(!(decide (g>=1000000000)==false&&true)||decide (0<=wi (wi (k+n)-2)))=true ↔ ((¬(g>=1000000000))->(0<=k+n-2)):=(by (try rw [w4]);(try rw [w6]);all_goals exact (Zdt (i_at (i_bf Zaa)) Zaa))
 obtain ⟨k14,H⟩:=H
 have w15:(us u).length=u.length:=List.length_map ..
 have i16:(!(decide (g>=1000000000)==false&&true)||decide ((wi (wi (k+n)-2)).toNat<(us u).length))=true ↔ ((¬(g>=1000000000))->((k+n-2).toNat<u.length)):=(by (try rw [w4]);(try rw [w6]);(try rw [w15]);all_goals exact (Zdt (i_at (i_bf Zaa)) Zaa))
 obtain ⟨k17,H⟩:=H
 refine Zac (G:=Zab Zdf [(16,8,.elem (vu (b.getD (n-2).toNat default))),(16,19,.elem (vu (u.getD (k+n-2).toNat default)))] []) 3 [] ⟨(atC (cd Try.f107) [1,1,1,1,1,1,1,1,1,0,1,0,0,1,0,0,1,1,0,0,0,0,1]),[(6,vi n),(7,vu s),(8,AV.row 0 v),(9,AV.vec fb 1 (us b)),(10,AV.row 1 0),(11,vi k),(13,vw g),(14,vw r),(129,vb (bif decide (g>=1000000000) then true else decide (zNvF3 g b n r u k)))],[⟨us u,1,v,false,true⟩,⟨us q,1,0,false,true⟩],[!(decide (g>=1000000000)==false&&true)||decide (0<=wi (n-2)),!(decide (g>=1000000000)==false&&true)||decide ((wi (n-2)).toNat<(us b).length),!(decide (g>=1000000000)==false&&true)||v==v,!(decide (g>=1000000000)==false&&true)||decide (0<=wi (wi (k+n)-2)),!(decide (g>=1000000000)==false&&true)||decide ((wi (wi (k+n)-2)).toNat<(us u).length),!(decide (g>=1000000000)==false&&true)||v==v],[((decide (g>=1000000000)==false&&true)=true->(us b).get?Internal (wi (n-2)).toNat=some (vu (b.getD (n-2).toNat default))),((decide (g>=1000000000)==false&&true)=true->(us u).get?Internal (wi (wi (k+n)-2)).toNat=some (vu (u.getD (k+n-2).toNat default)))],_⟩ (by kernel_rfl) (bc (i7.2 k8) (bc (i10.2 k11) (bc ((Zdt (i_at (i_bf Zaa)) i_eq).2 (fun _=>rfl)) (bc (i13.2 k14) (bc (i16.2 k17) (bc ((Zdt (i_at (i_bf Zaa)) i_eq).2 (fun _=>rfl)) b0)))))) (qc (by (try rw [w2]);all_goals exact (fun h=>Zap (k11 ((i_at (i_bf Zaa)).1 h)))) (qc (by (try rw [w4]);(try rw [w6]);all_goals exact (fun h=>Zap (k17 ((i_at (i_bf Zaa)).1 h)))) q0)) c0 ?_
 rcases xq H with ⟨d22,H⟩|⟨d22,H⟩
 ·obtain ⟨k23,H⟩:=H
  have w24:wu (g-1)=g-1:=wU64 k23
  obtain ⟨k25,H⟩:=H
  have w26:wi (n-1)=n-1:=wI64 k25
  have i27:(decide (0<=wi (n-1)))=true ↔ (0<=n-1):=(by (try rw [w26]);all_goals exact Zaa)
  obtain ⟨k28,H⟩:=H
  have i29:(decide ((wi (n-1)).toNat<(us b).length))=true ↔ ((n-1).toNat<b.length):=(by (try rw [w9]);(try rw [w26]);all_goals exact Zaa)
  obtain ⟨k30,k31,H⟩:=H
  have w32:wu (b.getD (n-1).toNat default)=b.getD (n-1).toNat default:=wU64 k31
  obtain ⟨k33,H⟩:=H
  have w34:wu (r+b.getD (n-1).toNat default)=r+b.getD (n-1).toNat default:=wU64 k33
  have i35:(decide (wu (r+wu (b.getD (n-1).toNat default))>=1000000000))=true ↔ (r+b.getD (n-1).toNat default>=1000000000):=(by (try rw [w32]);(try rw [w34]);all_goals exact Zaa)
  refine Zac (G:=Zab Zdf [(18,5,.elem (vu (b.getD (n-1).toNat default)))] []) 9 [true] ⟨(atC (cd Try.f107) [1,1,1,1,1,1,1,1,1,0,1,0,0,1,0,0,1,1,0,0,0,1,0,1,1,1]),[(6,vi n),(7,vu s),(8,AV.row 0 v),(9,AV.vec fb 1 (us b)),(10,AV.row 1 0),(11,vi k),(13,vw (wu (g-1))),(14,vw (wu (r+wu (b.getD (n-1).toNat default)))),(141,vb (decide (wu (r+wu (b.getD (n-1).toNat default))>=1000000000)))],[⟨us u,1,v,false,true⟩,⟨us q,1,0,false,true⟩],_,[((us b).get?Internal (wi (n-1)).toNat=some (vu (b.getD (n-1).toNat default)))],_⟩ (by kernel_rfl) (bc (Zak ((Zar Zaa Zaa).2 d22)) (bc (i27.2 k28) (bc (i29.2 k30) b0))) (qc (by (try rw [w26]);all_goals exact (Zap k30)) q0) c0 ?_
  rcases xq H with ⟨d36,H⟩|⟨d36,H⟩
  ·obtain ⟨k37,H⟩:=H
   have w38:wi (k+n+1)=k+n+1:=wI64 k37
   obtain ⟨k39,k41,H⟩:=H
   have i42:(decide (0<=wi (wi (k+n)+1)))=true ↔ (0<=k+n+1):=(by (try rw [w4]);(try rw [w38]);all_goals exact Zaa)
   obtain ⟨k43,H⟩:=H
   have i44:(decide (k.toNat<=(wi (wi (k+n)+1)).toNat))=true ↔ (k.toNat<=(k+n+1).toNat):=(by (try rw [w4]);(try rw [w38]);all_goals exact Zaa)
   obtain ⟨k45,H⟩:=H
   have i46:(decide ((wi (wi (k+n)+1)).toNat<=(us u).length))=true ↔ ((k+n+1).toNat<=u.length):=(by (try rw [w4]);(try rw [w15]);(try rw [w38]);all_goals exact Zaa)
   obtain ⟨k47,H⟩:=H
   refine Zac (G:=Zab Zdf [(20,9,.call (vb (decide ((↑(Sp.win u k.toNat ((k+n+1).toNat-k.toNat)):Int)-(g-1)*(↑(valL b):Int)<0))) (some [⟨us (Sp.Za4 u k.toNat ((k+n+1).toNat-k.toNat) ((↑(Sp.win u k.toNat ((k+n+1).toNat-k.toNat)):Int)-(g-1)*(↑(valL b):Int))),1,v,false,true⟩]))] []) 5 [true] ⟨(atC (cd Try.f107) [1,1,1,1,1,1,1,1,1,0,1,0,0,1,0,0,1,1,1,0,1]),[(6,vi n),(7,vu s),(8,AV.row 0 v),(9,AV.vec fb 1 (us b)),(10,AV.row 1 0),(11,vi k),(13,vw (wu (g-1))),(151,vb (decide ((↑(Sp.win u k.toNat ((k+n+1).toNat-k.toNat)):Int)-(g-1)*(↑(valL b):Int)<0)))],[⟨us (Sp.Za4 u k.toNat ((k+n+1).toNat-k.toNat) ((↑(Sp.win u k.toNat ((k+n+1).toNat-k.toNat)):Int)-(g-1)*(↑(valL b):Int))),1,v,false,true⟩,⟨us q,1,0,false,true⟩],[(decide (wu (r+wu (b.getD (n-1).toNat default))>=1000000000))==true,v==v,decide (0<=k),decide (0<=wi (wi (k+n)+1)),decide (k.toNat<=(wi (wi (k+n)+1)).toNat),decide ((wi (wi (k+n)+1)).toNat<=(us u).length)],[],[⟨true,true,119,[AV.ref 0 v k.toNat ((wi (wi (k+n)+1)).toNat-k.toNat),AV.vec fb 1 (us b),vw (wu (g-1))],[⟨us u,1,v,false,true⟩],vb (decide ((↑(Sp.win u k.toNat ((k+n+1).toNat-k.toNat)):Int)-(g-1)*(↑(valL b):Int)<0)),[⟨us (Sp.Za4 u k.toNat ((k+n+1).toNat-k.toNat) ((↑(Sp.win u k.toNat ((k+n+1).toNat-k.toNat)):Int)-(g-1)*(↑(valL b):Int))),1,v,false,true⟩]⟩]⟩ (by kernel_rfl) (bc (Zak (i35.2 d36)) (bc (beq_self_eq_true _) (bc (Zaa.2 k41) (bc (i42.2 k43) (bc (i44.2 k45) (bc (i46.2 k47) b0)))))) q0 (cc (fun _=>(by (try rw [w4]);(try rw [w24]);(try rw [w38]);all_goals exact (@evo119 u b fb v (k.toNat) ((k+n+1).toNat-k.toNat) (g-1) k39))) c0) ?_
   rcases xq H with ⟨d49,H⟩|⟨d49,H⟩
   ·obtain ⟨k50,H⟩:=H
    have w51:wu (g-1-1)=g-1-1:=wU64 k50
    obtain ⟨k52,H⟩:=H
    have i54:(decide (0<=wi (wi (k+n)+1)))=true ↔ (0<=k+n+1):=(by (try rw [w4]);(try rw [w38]);all_goals exact Zaa)
    have i55:(decide (k.toNat<=(wi (wi (k+n)+1)).toNat))=true ↔ (k.toNat<=(k+n+1).toNat):=(by (try rw [w4]);(try rw [w38]);all_goals exact Zaa)
    have w56:(us (Sp.Za4 u k.toNat ((k+n+1).toNat-k.toNat) ((↑(Sp.win u k.toNat ((k+n+1).toNat-k.toNat)):Int)-(g-1)*(↑(valL b):Int)))).length=(Sp.Za4 u k.toNat ((k+n+1).toNat-k.toNat) ((↑(Sp.win u k.toNat ((k+n+1).toNat-k.toNat)):Int)-(g-1)*(↑(valL b):Int))).length:=List.length_map ..
    have i57:(decide ((wi (wi (k+n)+1)).toNat<=(us (Sp.Za4 u k.toNat ((k+n+1).toNat-k.toNat) ((↑(Sp.win u k.toNat ((k+n+1).toNat-k.toNat)):Int)-(g-1)*(↑(valL b):Int)))).length))=true ↔ ((k+n+1).toNat<=(Sp.Za4 u k.toNat ((k+n+1).toNat-k.toNat) ((↑(Sp.win u k.toNat ((k+n+1).toNat-k.toNat)):Int)-(g-1)*(↑(valL b):Int))).length):=(by (try rw [w4]);(try rw [w38]);(try rw [w56]);all_goals exact Zaa)
    obtain ⟨k58,H⟩:=H
    have w60:(us q).length=q.length:=List.length_map ..
    have i61:(decide (k.toNat<(us q).length))=true ↔ (k.toNat<q.length):=(by (try rw [w60]);all_goals exact Zaa)
    obtain ⟨k62,k63,H⟩:=H
    have w64:wv (g-1-1)=g-1-1:=wU32 k63
    have w65:(us q).set k.toNat (vu (g-1-1))=us (q.set k.toNat (g-1-1)):=(Za3 rfl rfl)
    obtain ⟨k66,H⟩:=H
    have w67:wi (k-1)=k-1:=wI64 k66
    exact Zac (G:=Zab Zdf [(22,8,.call (tu []) (some [⟨us (Sp.Za4 (Sp.Za4 u k.toNat ((k+n+1).toNat-k.toNat) ((↑(Sp.win u k.toNat ((k+n+1).toNat-k.toNat)):Int)-(g-1)*(↑(valL b):Int))) k.toNat ((k+n+1).toNat-k.toNat) ((↑(Sp.win (Sp.Za4 u k.toNat ((k+n+1).toNat-k.toNat) ((↑(Sp.win u k.toNat ((k+n+1).toNat-k.toNat)):Int)-(g-1)*(↑(valL b):Int))) k.toNat ((k+n+1).toNat-k.toNat)):Int)+(↑(valL b):Int))),1,v,false,true⟩])),(23,5,.elem (vu (q.getD k.toNat default)))] []) 1000 [true] ⟨(atC (cd Try.f107) [1,1,1,1,1,1,1,1,1,0,1,0,0]),[(6,vi n),(7,vu s),(8,AV.row 0 v),(9,AV.vec fb 1 (us b)),(10,AV.row 1 0),(11,vi (wi (k-1)))],[⟨us (Sp.Za4 (Sp.Za4 u k.toNat ((k+n+1).toNat-k.toNat) ((↑(Sp.win u k.toNat ((k+n+1).toNat-k.toNat)):Int)-(g-1)*(↑(valL b):Int))) k.toNat ((k+n+1).toNat-k.toNat) ((↑(Sp.win (Sp.Za4 u k.toNat ((k+n+1).toNat-k.toNat) ((↑(Sp.win u k.toNat ((k+n+1).toNat-k.toNat)):Int)-(g-1)*(↑(valL b):Int))) k.toNat ((k+n+1).toNat-k.toNat)):Int)+(↑(valL b):Int))),1,v,false,true⟩,⟨(us q).set k.toNat (vu (wv (wu (wu (g-1)-1)))),1,0,false,true⟩],[(decide ((↑(Sp.win u k.toNat ((k+n+1).toNat-k.toNat)):Int)-(g-1)*(↑(valL b):Int)<0))==true,v==v,decide (0<=k),decide (0<=wi (wi (k+n)+1)),decide (k.toNat<=(wi (wi (k+n)+1)).toNat),decide ((wi (wi (k+n)+1)).toNat<=(us (Sp.Za4 u k.toNat ((k+n+1).toNat-k.toNat) ((↑(Sp.win u k.toNat ((k+n+1).toNat-k.toNat)):Int)-(g-1)*(↑(valL b):Int)))).length),true,decide (0<=k),decide (k.toNat<(us q).length),true],[((us q).get?Internal k.toNat=some (vu (q.getD k.toNat default)))],[⟨true,true,120,[AV.ref 0 v k.toNat ((wi (wi (k+n)+1)).toNat-k.toNat),AV.vec fb 1 (us b)],[⟨us (Sp.Za4 u k.toNat ((k+n+1).toNat-k.toNat) ((↑(Sp.win u k.toNat ((k+n+1).toNat-k.toNat)):Int)-(g-1)*(↑(valL b):Int))),1,v,false,true⟩],tu [],[⟨us (Sp.Za4 (Sp.Za4 u k.toNat ((k+n+1).toNat-k.toNat) ((↑(Sp.win u k.toNat ((k+n+1).toNat-k.toNat)):Int)-(g-1)*(↑(valL b):Int))) k.toNat ((k+n+1).toNat-k.toNat) ((↑(Sp.win (Sp.Za4 u k.toNat ((k+n+1).toNat-k.toNat) ((↑(Sp.win u k.toNat ((k+n+1).toNat-k.toNat)):Int)-(g-1)*(↑(valL b):Int))) k.toNat ((k+n+1).toNat-k.toNat)):Int)+(↑(valL b):Int))),1,v,false,true⟩]⟩]⟩ (by kernel_rfl) (bc (Zak (Zaa.2 d49)) (bc (beq_self_eq_true _) (bc (Zaa.2 k41) (bc (i54.2 k43) (bc (i55.2 k45) (bc (i57.2 k58) (bc rfl (bc (Zaa.2 k41) (bc (i61.2 k62) (bc rfl b0)))))))))) (qc (Zap k62) q0) (cc (fun _=>(by (try rw [w4]);(try rw [w38]);all_goals exact (@evo120 (Sp.Za4 u k.toNat ((k+n+1).toNat-k.toNat) ((↑(Sp.win u k.toNat ((k+n+1).toNat-k.toNat)):Int)-(g-1)*(↑(valL b):Int))) b fb v (k.toNat) ((k+n+1).toNat-k.toNat) k52))) c0) (by (try rw [w24]);(try rw [w51]);(try rw [w64]);(try rw [w65]);(try rw [w67]);all_goals exact H)
   ·have w69:(us q).length=q.length:=List.length_map ..
    have i70:(decide (k.toNat<(us q).length))=true ↔ (k.toNat<q.length):=(by (try rw [w69]);all_goals exact Zaa)
    obtain ⟨k71,k72,H⟩:=H
    have w73:wv (g-1)=g-1:=wU32 k72
    have w74:(us q).set k.toNat (vu (g-1))=us (q.set k.toNat (g-1)):=(Za3 rfl rfl)
    obtain ⟨k75,H⟩:=H
    have w76:wi (k-1)=k-1:=wI64 k75
    exact Zac (G:=Zab Zdf [(23,5,.elem (vu (q.getD k.toNat default)))] []) 1000 [false] ⟨(atC (cd Try.f107) [1,1,1,1,1,1,1,1,1,0,1,0,0]),[(6,vi n),(7,vu s),(8,AV.row 0 v),(9,AV.vec fb 1 (us b)),(10,AV.row 1 0),(11,vi (wi (k-1)))],[⟨us (Sp.Za4 u k.toNat ((k+n+1).toNat-k.toNat) ((↑(Sp.win u k.toNat ((k+n+1).toNat-k.toNat)):Int)-(g-1)*(↑(valL b):Int))),1,v,false,true⟩,⟨(us q).set k.toNat (vu (wv (wu (g-1)))),1,0,false,true⟩],_,[((us q).get?Internal k.toNat=some (vu (q.getD k.toNat default)))],_⟩ (by kernel_rfl) (bc (Zah (fun h=>d49 (Zaa.1 h))) (bc rfl (bc (Zaa.2 k41) (bc (i70.2 k71) (bc rfl b0))))) (qc (Zap k71) q0) c0 (by (try rw [w24]);(try rw [w73]);(try rw [w74]);(try rw [w76]);all_goals exact H)
  ·exact Zac (G:=Zab Zdf [] []) 1000 [false] ⟨(atC (cd Try.f107) [1,1,1,1,1,1,1,1,1,0,1,0,0,1,0,0,1,1,0,0,0]),[(6,vi n),(7,vu s),(8,AV.row 0 v),(9,AV.vec fb 1 (us b)),(10,AV.row 1 0),(11,vi k),(13,vw (wu (g-1))),(14,vw (wu (r+wu (b.getD (n-1).toNat default)))),(141,vb (decide (wu (r+wu (b.getD (n-1).toNat default))>=1000000000)))],[⟨us u,1,v,false,true⟩,⟨us q,1,0,false,true⟩],_,[],_⟩ (by kernel_rfl) (bc (Zah (fun h=>d36 (i35.1 h))) b0) q0 c0 (by (try rw [w24]);(try rw [w32]);(try rw [w34]);all_goals exact Wp.less [6,7,8,9,10,11,13,14] H)
 ·obtain ⟨k77,H⟩:=H
  have w78:wi (k+n+1)=k+n+1:=wI64 k77
  obtain ⟨k79,k81,H⟩:=H
  have i82:(decide (0<=wi (wi (k+n)+1)))=true ↔ (0<=k+n+1):=(by (try rw [w4]);(try rw [w78]);all_goals exact Zaa)
  obtain ⟨k83,H⟩:=H
  have i84:(decide (k.toNat<=(wi (wi (k+n)+1)).toNat))=true ↔ (k.toNat<=(k+n+1).toNat):=(by (try rw [w4]);(try rw [w78]);all_goals exact Zaa)
  obtain ⟨k85,H⟩:=H
  have i86:(decide ((wi (wi (k+n)+1)).toNat<=(us u).length))=true ↔ ((k+n+1).toNat<=u.length):=(by (try rw [w4]);(try rw [w15]);(try rw [w78]);all_goals exact Zaa)
  obtain ⟨k87,H⟩:=H
  refine Zac (G:=Zab Zdf [(20,9,.call (vb (decide ((↑(Sp.win u k.toNat ((k+n+1).toNat-k.toNat)):Int)-g*(↑(valL b):Int)<0))) (some [⟨us (Sp.Za4 u k.toNat ((k+n+1).toNat-k.toNat) ((↑(Sp.win u k.toNat ((k+n+1).toNat-k.toNat)):Int)-g*(↑(valL b):Int))),1,v,false,true⟩]))] []) 5 [false] ⟨(atC (cd Try.f107) [1,1,1,1,1,1,1,1,1,0,1,0,0,1,0,0,1,1,1,0,1]),[(6,vi n),(7,vu s),(8,AV.row 0 v),(9,AV.vec fb 1 (us b)),(10,AV.row 1 0),(11,vi k),(13,vw g),(151,vb (decide ((↑(Sp.win u k.toNat ((k+n+1).toNat-k.toNat)):Int)-g*(↑(valL b):Int)<0)))],[⟨us (Sp.Za4 u k.toNat ((k+n+1).toNat-k.toNat) ((↑(Sp.win u k.toNat ((k+n+1).toNat-k.toNat)):Int)-g*(↑(valL b):Int))),1,v,false,true⟩,⟨us q,1,0,false,true⟩],[(bif decide (g>=1000000000) then true else decide (zNvF3 g b n r u k))==false,v==v,decide (0<=k),decide (0<=wi (wi (k+n)+1)),decide (k.toNat<=(wi (wi (k+n)+1)).toNat),decide ((wi (wi (k+n)+1)).toNat<=(us u).length)],[],[⟨true,true,119,[AV.ref 0 v k.toNat ((wi (wi (k+n)+1)).toNat-k.toNat),AV.vec fb 1 (us b),vw g],[⟨us u,1,v,false,true⟩],vb (decide ((↑(Sp.win u k.toNat ((k+n+1).toNat-k.toNat)):Int)-g*(↑(valL b):Int)<0)),[⟨us (Sp.Za4 u k.toNat ((k+n+1).toNat-k.toNat) ((↑(Sp.win u k.toNat ((k+n+1).toNat-k.toNat)):Int)-g*(↑(valL b):Int))),1,v,false,true⟩]⟩]⟩ (by kernel_rfl) (bc (Zah (fun h=>d22 ((Zar Zaa Zaa).1 h))) (bc (beq_self_eq_true _) (bc (Zaa.2 k81) (bc (i82.2 k83) (bc (i84.2 k85) (bc (i86.2 k87) b0)))))) q0 (cc (fun _=>(by (try rw [w4]);(try rw [w78]);all_goals exact (@evo119 u b fb v (k.toNat) ((k+n+1).toNat-k.toNat) g k79))) c0) ?_
  rcases xq H with ⟨d89,H⟩|⟨d89,H⟩
  ·obtain ⟨k90,H⟩:=H
   have w91:wu (g-1)=g-1:=wU64 k90
   obtain ⟨k92,H⟩:=H
   have i94:(decide (0<=wi (wi (k+n)+1)))=true ↔ (0<=k+n+1):=(by (try rw [w4]);(try rw [w78]);all_goals exact Zaa)
   have i95:(decide (k.toNat<=(wi (wi (k+n)+1)).toNat))=true ↔ (k.toNat<=(k+n+1).toNat):=(by (try rw [w4]);(try rw [w78]);all_goals exact Zaa)
   have w96:(us (Sp.Za4 u k.toNat ((k+n+1).toNat-k.toNat) ((↑(Sp.win u k.toNat ((k+n+1).toNat-k.toNat)):Int)-g*(↑(valL b):Int)))).length=(Sp.Za4 u k.toNat ((k+n+1).toNat-k.toNat) ((↑(Sp.win u k.toNat ((k+n+1).toNat-k.toNat)):Int)-g*(↑(valL b):Int))).length:=List.length_map ..
   have i97:(decide ((wi (wi (k+n)+1)).toNat<=(us (Sp.Za4 u k.toNat ((k+n+1).toNat-k.toNat) ((↑(Sp.win u k.toNat ((k+n+1).toNat-k.toNat)):Int)-g*(↑(valL b):Int)))).length))=true ↔ ((k+n+1).toNat<=(Sp.Za4 u k.toNat ((k+n+1).toNat-k.toNat) ((↑(Sp.win u k.toNat ((k+n+1).toNat-k.toNat)):Int)-g*(↑(valL b):Int))).length):=(by (try rw [w4]);(try rw [w78]);(try rw [w96]);all_goals exact Zaa)
   obtain ⟨k98,H⟩:=H
   have w100:(us q).length=q.length:=List.length_map ..
   have i101:(decide (k.toNat<(us q).length))=true ↔ (k.toNat<q.length):=(by (try rw [w100]);all_goals exact Zaa)
   obtain ⟨k102,k103,H⟩:=H
   have w104:wv (g-1)=g-1:=wU32 k103
   have w105:(us q).set k.toNat (vu (g-1))=us (q.set k.toNat (g-1)):=(Za3 rfl rfl)
   obtain ⟨k106,H⟩:=H
   have w107:wi (k-1)=k-1:=wI64 k106
   exact Zac (G:=Zab Zdf [(22,8,.call (tu []) (some [⟨us (Sp.Za4 (Sp.Za4 u k.toNat ((k+n+1).toNat-k.toNat) ((↑(Sp.win u k.toNat ((k+n+1).toNat-k.toNat)):Int)-g*(↑(valL b):Int))) k.toNat ((k+n+1).toNat-k.toNat) ((↑(Sp.win (Sp.Za4 u k.toNat ((k+n+1).toNat-k.toNat) ((↑(Sp.win u k.toNat ((k+n+1).toNat-k.toNat)):Int)-g*(↑(valL b):Int))) k.toNat ((k+n+1).toNat-k.toNat)):Int)+(↑(valL b):Int))),1,v,false,true⟩])),(23,5,.elem (vu (q.getD k.toNat default)))] []) 1000 [true] ⟨(atC (cd Try.f107) [1,1,1,1,1,1,1,1,1,0,1,0,0]),[(6,vi n),(7,vu s),(8,AV.row 0 v),(9,AV.vec fb 1 (us b)),(10,AV.row 1 0),(11,vi (wi (k-1)))],[⟨us (Sp.Za4 (Sp.Za4 u k.toNat ((k+n+1).toNat-k.toNat) ((↑(Sp.win u k.toNat ((k+n+1).toNat-k.toNat)):Int)-g*(↑(valL b):Int))) k.toNat ((k+n+1).toNat-k.toNat) ((↑(Sp.win (Sp.Za4 u k.toNat ((k+n+1).toNat-k.toNat) ((↑(Sp.win u k.toNat ((k+n+1).toNat-k.toNat)):Int)-g*(↑(valL b):Int))) k.toNat ((k+n+1).toNat-k.toNat)):Int)+(↑(valL b):Int))),1,v,false,true⟩,⟨(us q).set k.toNat (vu (wv (wu (g-1)))),1,0,false,true⟩],[(decide ((↑(Sp.win u k.toNat ((k+n+1).toNat-k.toNat)):Int)-g*(↑(valL b):Int)<0))==true,v==v,decide (0<=k),decide (0<=wi (wi (k+n)+1)),decide (k.toNat<=(wi (wi (k+n)+1)).toNat),decide ((wi (wi (k+n)+1)).toNat<=(us (Sp.Za4 u k.toNat ((k+n+1).toNat-k.toNat) ((↑(Sp.win u k.toNat ((k+n+1).toNat-k.toNat)):Int)-g*(↑(valL b):Int)))).length),true,decide (0<=k),decide (k.toNat<(us q).length),true],[((us q).get?Internal k.toNat=some (vu (q.getD k.toNat default)))],[⟨true,true,120,[AV.ref 0 v k.toNat ((wi (wi (k+n)+1)).toNat-k.toNat),AV.vec fb 1 (us b)],[⟨us (Sp.Za4 u k.toNat ((k+n+1).toNat-k.toNat) ((↑(Sp.win u k.toNat ((k+n+1).toNat-k.toNat)):Int)-g*(↑(valL b):Int))),1,v,false,true⟩],tu [],[⟨us (Sp.Za4 (Sp.Za4 u k.toNat ((k+n+1).toNat-k.toNat) ((↑(Sp.win u k.toNat ((k+n+1).toNat-k.toNat)):Int)-g*(↑(valL b):Int))) k.toNat ((k+n+1).toNat-k.toNat) ((↑(Sp.win (Sp.Za4 u k.toNat ((k+n+1).toNat-k.toNat) ((↑(Sp.win u k.toNat ((k+n+1).toNat-k.toNat)):Int)-g*(↑(valL b):Int))) k.toNat ((k+n+1).toNat-k.toNat)):Int)+(↑(valL b):Int))),1,v,false,true⟩]⟩]⟩ (by kernel_rfl) (bc (Zak (Zaa.2 d89)) (bc (beq_self_eq_true _) (bc (Zaa.2 k81) (bc (i94.2 k83) (bc (i95.2 k85) (bc (i97.2 k98) (bc rfl (bc (Zaa.2 k81) (bc (i101.2 k102) (bc rfl b0)))))))))) (qc (Zap k102) q0) (cc (fun _=>(by (try rw [w4]);(try rw [w78]);all_goals exact (@evo120 (Sp.Za4 u k.toNat ((k+n+1).toNat-k.toNat) ((↑(Sp.win u k.toNat ((k+n+1).toNat-k.toNat)):Int)-g*(↑(valL b):Int))) b fb v (k.toNat) ((k+n+1).toNat-k.toNat) k92))) c0) (by (try rw [w91]);(try rw [w104]);(try rw [w105]);(try rw [w107]);all_goals exact H)
  ·have w109:(us q).length=q.length:=List.length_map ..
   have i110:(decide (k.toNat<(us q).length))=true ↔ (k.toNat<q.length):=(by (try rw [w109]);all_goals exact Zaa)
   obtain ⟨k111,k112,H⟩:=H
   have w113:wv g=g:=wU32 k112
   have w114:(us q).set k.toNat (vu g)=us (q.set k.toNat g):=(Za3 rfl rfl)
   obtain ⟨k115,H⟩:=H
   have w116:wi (k-1)=k-1:=wI64 k115
   exact Zac (G:=Zab Zdf [(23,5,.elem (vu (q.getD k.toNat default)))] []) 1000 [false] ⟨(atC (cd Try.f107) [1,1,1,1,1,1,1,1,1,0,1,0,0]),[(6,vi n),(7,vu s),(8,AV.row 0 v),(9,AV.vec fb 1 (us b)),(10,AV.row 1 0),(11,vi (wi (k-1)))],[⟨us (Sp.Za4 u k.toNat ((k+n+1).toNat-k.toNat) ((↑(Sp.win u k.toNat ((k+n+1).toNat-k.toNat)):Int)-g*(↑(valL b):Int))),1,v,false,true⟩,⟨(us q).set k.toNat (vu (wv g)),1,0,false,true⟩],_,[((us q).get?Internal k.toNat=some (vu (q.getD k.toNat default)))],_⟩ (by kernel_rfl) (bc (Zah (fun h=>d89 (Zaa.1 h))) (bc rfl (bc (Zaa.2 k81) (bc (i110.2 k111) (bc rfl b0))))) (qc (Zap k111) q0) c0 (by (try rw [w113]);(try rw [w114]);(try rw [w116]);all_goals exact H)
end Go.Av

namespace Go.Av
open Go.Proofs
theorem Zd1:∀ (a b x:Nat),Sp.Zaq (a+b) x=Sp.Zaq a x++Sp.Zaq b (x / 1000000000 ^ a)
 | 0,b,x=>by simp [Sp.Zaq]
 | a+1,b,x=>by
  rw [show a+1+b=(a+b)+1 by omega,Zaz,Zaz,Zd1 a b,List.cons_append,Nat.div_div_eq_div_mul,Nat.pow_succ,Nat.mul_comm (1000000000 ^ a)]
theorem limN_mod:∀ (a x:Nat),Sp.Zaq a (x % 1000000000 ^ a)=Sp.Zaq a x
 | 0,x=>rfl
 | a+1,x=>by
  rw [Zaz,Zaz]
  have e1:x % 1000000000 ^ (a+1) % 1000000000=x % 1000000000:=Nat.mod_mod_of_dvd _ ⟨1000000000 ^ a,by rw [Nat.pow_succ,Nat.mul_comm]⟩
  have e2:x % 1000000000 ^ (a+1) / 1000000000=x / 1000000000 % 1000000000 ^ a:=by rw [Nat.pow_succ,Nat.mul_comm,Nat.mod_mul_right_div_self]
  rw [e1,e2,limN_mod a]
theorem limN_low (a x y:Nat):Sp.Zaq a (x % 1000000000 ^ a+1000000000 ^ a*y)=Sp.Zaq a x:=by
 rw [<- limN_mod a (x % 1000000000 ^ a+1000000000 ^ a*y),Nat.add_mul_mod_self_left,Nat.mod_mod,limN_mod]
theorem limN_more' (n m v:Nat) (h:Sp.fits n v) (hm:n<=m):Sp.Zaq m v=Sp.Zaq n v++Sp.zs (m-n):=by
 obtain ⟨d,rfl⟩:=Nat.exists_eq_add_of_le hm
 rw [ZeG n d v h,Nat.add_sub_cancel_left]
theorem rowZ_lim {L U lo len:Nat} {Z:Nat} (hl:lo+len<=L) (hU:Sp.fits (lo+len) U) (hZ:Sp.fits len Z):Sp.Za4 (Sp.Zaq L U) lo len (Z:Int)=Sp.Zaq L (U % 1000000000 ^ lo+1000000000 ^ lo*Z):=by
 have e:L=lo+(len+(L-lo-len)):=by omega
 unfold Sp.Za4
 rw [ZfJ,ZeH _ _ _ hl,ZaE hU (Nat.le_refl _),ZgA]
 conv=>rhs;rw [e]
 rw [Zd1,limN_low]
 have e2:(U % 1000000000 ^ lo+1000000000 ^ lo*Z) / 1000000000 ^ lo=Z:=by
  rw [Nat.add_mul_div_left _ _ (Nat.pow_pos (by omega)),Nat.div_eq_of_lt (Nat.mod_lt _ (Nat.pow_pos (by omega))),Nat.zero_add]
 rw [e2,ZeG len _ Z hZ]
 have e3:(Sp.Zaq L U).take lo=Sp.Zaq lo U:=by
  conv=>lhs;rw [e,Zd1]
  rw [List.take_append_of_le_length (by rw [Zal];omega),List.take_of_length_le (by rw [Zal];omega)]
 rw [e3,show L-(lo+len)=L-lo-len by omega];rfl
theorem win_lim {L U lo len:Nat} (hl:lo+len<=L) (hU:Sp.fits (lo+len) U):Sp.win (Sp.Zaq L U) lo len=U / 1000000000 ^ lo:=by
 have hf:Sp.fits len (U / 1000000000 ^ lo):=by
  rw [Zc4,Nat.div_div_eq_div_mul,<- Nat.pow_add]
  exact ZaE hU (Nat.le_refl _)
 unfold Sp.win
 rw [ZeH _ _ _ (by omega),limN_more' len (L-lo) _ hf (by omega),List.take_append_of_le_length (by rw [Zal];omega),List.take_of_length_le (by rw [Zal];omega),val_limN _ _ hf]
theorem limN_okL (n v:Nat):Sp.okL (Sp.Zaq n v):=limN_ok n v
def AfterG (u b q:List Int) (fb:Bool) (v:Nat) (n s k g:Int) (dq:AV):Prop:=
 (-9223372036854775808<=k+n+1/\k+n+1<=9223372036854775807) /\
 (Sp.okL u/\Sp.okL b/\k.toNat+((k+n+1).toNat-k.toNat)<=u.length/\(k+n+1).toNat-k.toNat=b.length+1/\u.length<=1000000/\0<=g/\g<1000000000) /\
 (0<=k)/\(0<=k+n+1)/\(k.toNat<=(k+n+1).toNat)/\((k+n+1).toNat<=u.length) /\
 (((Sp.win u k.toNat ((k+n+1).toNat-k.toNat):Int)-g*(valL b:Nat)<0)->(0<=g-1/\g-1<=18446744073709551615) /\
  (Sp.okL (Sp.Za4 u k.toNat ((k+n+1).toNat-k.toNat) ((Sp.win u k.toNat ((k+n+1).toNat-k.toNat):Int)-g*(valL b:Nat)))/\Sp.okL b/\k.toNat+((k+n+1).toNat-k.toNat)<=(Sp.Za4 u k.toNat ((k+n+1).toNat-k.toNat) ((Sp.win u k.toNat ((k+n+1).toNat-k.toNat):Int)-g*(valL b:Nat))).length/\(k+n+1).toNat-k.toNat=b.length+1/\(Sp.Za4 u k.toNat ((k+n+1).toNat-k.toNat) ((Sp.win u k.toNat ((k+n+1).toNat-k.toNat):Int)-g*(valL b:Nat))).length<=1000000) /\
  ((k+n+1).toNat<=(Sp.Za4 u k.toNat ((k+n+1).toNat-k.toNat) ((Sp.win u k.toNat ((k+n+1).toNat-k.toNat):Int)-g*(valL b:Nat))).length) /\
  (k.toNat<q.length)/\(0<=g-1/\g-1<=4294967295)/\(-9223372036854775808<=k-1/\k-1<=9223372036854775807) /\
  ZaS (Sp.Za4 (Sp.Za4 u k.toNat ((k+n+1).toNat-k.toNat) ((Sp.win u k.toNat ((k+n+1).toNat-k.toNat):Int)-g*(valL b:Nat))) k.toNat ((k+n+1).toNat-k.toNat) ((Sp.win (Sp.Za4 u k.toNat ((k+n+1).toNat-k.toNat) ((Sp.win u k.toNat ((k+n+1).toNat-k.toNat):Int)-g*(valL b:Nat))) k.toNat ((k+n+1).toNat-k.toNat):Int)+(valL b:Nat))) b (q.set k.toNat (g-1)) fb v n s (k-1) (Zad dq)) /\
 (¬((Sp.win u k.toNat ((k+n+1).toNat-k.toNat):Int)-g*(valL b:Nat)<0)->(k.toNat<q.length)/\(0<=g/\g<=4294967295)/\(-9223372036854775808<=k-1/\k-1<=9223372036854775807) /\
  ZaS (Sp.Za4 u k.toNat ((k+n+1).toNat-k.toNat) ((Sp.win u k.toNat ((k+n+1).toNat-k.toNat):Int)-g*(valL b:Nat))) b (q.set k.toNat g) fb v n s (k-1) (Zad dq))
theorem afterG {q:List Int} {fb:Bool} {v n k L U V g:Nat} {s:Int} {dq:AV} (hL:L<=1000000) (hkn:k+n+1<=L) (hq:q.length<=1000000/\k<q.length) (hV0:0<V) (hV:Sp.fits n V) (hU:Sp.fits (k+(n+1)) U) (hg:g<1000000000) (h1:U / 1000000000 ^ k / V<=g) (h2:g<=U / 1000000000 ^ k / V+1)
  (cont:ZaS (Sp.Zaq L (U % 1000000000 ^ k+1000000000 ^ k*(U / 1000000000 ^ k % V))) (Sp.Zaq n V) (q.set k ((U / 1000000000 ^ k / V:Nat):Int)) fb v n s ((k:Int)-1) (Zad dq)) :
  AfterG (Sp.Zaq L U) (Sp.Zaq n V) q fb v n s k g dq:=by
 unfold AfterG
 have e1:((k:Int)+n+1).toNat-(k:Int).toNat=n+1:=by omega
 rw [e1,Int.toNat_natCast,win_lim (by omega) hU,val_limN n V hV]
 have hok:=limN_okL L U
 have hlen:=Zal L U
 have hdm:=Nat.div_add_mod (U / 1000000000 ^ k) V
 have hml:=Nat.mod_lt (U / 1000000000 ^ k) hV0
 have hfm:Sp.fits (n+1) (U / 1000000000 ^ k % V):=ZaW (ZcG hV (Nat.le_of_lt hml)) (by omega)
 have hrow:=rowZ_lim (L:=L) (U:=U) (lo:=k) (len:=n+1) (by omega) hU hfm
 have hgV:(g:Int)*(V:Int)=((g*V:Nat):Int):=(Int.natCast_mul _ _).symm
 rw [hgV]
 generalize hW:U / 1000000000 ^ k=W at hdm hml h1 h2 hrow cont
 have hq1:W / V*V+W % V=W:=by rw [Nat.mul_comm];exact hdm
 generalize W / V=q0 at hq1 h1 h2 cont
 generalize W % V=r0 at hq1 hml hrow cont
 refine ⟨by omega,⟨hok,limN_okL n V,by omega,by rw [Zal],by omega,by omega,by omega⟩,by omega,by omega,by omega,by omega,fun hneg => ?_,fun hneg => ?_⟩
 ·have hg1:g=q0+1:=by
   rcases Nat.lt_or_ge q0 g with k1 | k1
   ·omega
   ·have:g=q0:=by omega
    subst this
    omega
  have hgw:g*V=q0*V+V:=by rw [hg1,Nat.succ_mul]
  have ez:(W:Int)-((g*V:Nat):Int)+(V:Int)=(r0:Int):=by omega
  have eg:(g:Int)-1=(q0:Int):=by omega
  rw [rowZ_again (by omega) hok,ez,hrow,eg]
  refine ⟨by omega,⟨rowZ_ok hok,limN_okL n V,by rw [ZfC (by omega)];omega,by rw [Zal],by rw [ZfC (by omega)];omega⟩,by rw [ZfC (by omega)];omega,by omega,by omega,by omega,cont⟩
 ·have hg1:g=q0:=by
   rcases Nat.lt_or_ge q0 g with k1 | k1
   ·exfalso
    have:g=q0+1:=by omega
    have hgw:g*V=q0*V+V:=by rw [this,Nat.succ_mul]
    omega
   ·omega
  subst hg1
  have ez:(W:Int)-((g*V:Nat):Int)=(r0:Int):=by omega
  rw [ez,hrow]
  exact ⟨by omega,by omega,by omega,cont⟩
theorem loopG {q:List Int} {fb:Bool} {v n k L U V:Nat} {s:Int} {dq:AV} (hn:2<=n) (hL:L<=1000000) (hkn:k+n+1<=L) (hq:q.length<=1000000/\k<q.length) (hV:Sp.fits n V) (hU:Sp.fits (k+(n+1)) U) (hE:Est (1000000000 ^ (n-2)) (U / 1000000000 ^ k) V)
  (cont:ZaS (Sp.Zaq L (U % 1000000000 ^ k+1000000000 ^ k*(U / 1000000000 ^ k % V))) (Sp.Zaq n V) (q.set k ((U / 1000000000 ^ k / V:Nat):Int)) fb v n s ((k:Int)-1) (Zad dq)) :
  ∀ (g r:Nat),g*(V / 1000000000 ^ (n-2) / 1000000000)+r=U / 1000000000 ^ k / 1000000000 ^ (n-2) / 1000000000->U / 1000000000 ^ k / V<=g->r<1000000000->g<18446744073709551615->ZcA (Sp.Zaq L U) (Sp.Zaq n V) q fb v n s k g r (Zad dq):=by
 have hV0:=hE.V0
 have more:=fun g r=>hE.more (g:=g) (r:=r)
 have less:=fun g r=>hE.less (g:=g) (r:=r)
 have small:=fun g r=>hE.small (g:=g) (r:=r)
 have b1:(Sp.Zaq n V).getD (n-1) default=((V / 1000000000 ^ (n-2) / 1000000000:Nat):Int):=by
  rw [Zaw V (by omega),ZaU,show n-2+1=n-1 by omega]
  have:=ZbB (n:=n-1) (v:=V) (by rw [show n-1+1=n by omega];exact hV)
  rw [Nat.mod_eq_of_lt this]
 have b2:(Sp.Zaq n V).getD (n-2) default=((V / 1000000000 ^ (n-2) % 1000000000:Nat):Int):=Zaw V (by omega)
 have u2:(Sp.Zaq L U).getD (k+n-2) default=((U / 1000000000 ^ k / 1000000000 ^ (n-2) % 1000000000:Nat):Int):=by
  rw [Zaw U (by omega),Nat.div_div_eq_div_mul,<- Nat.pow_add,show k+(n-2)=k+n-2 by omega]
 have hv1:V / 1000000000 ^ (n-2) / 1000000000<1000000000:=by
  rw [ZaU,show n-2+1=n-1 by omega]
  exact ZbB (by rw [show n-1+1=n by omega];exact hV)
 have e1:((n:Int)-1).toNat=n-1:=by omega
 have e2:((n:Int)-2).toNat=n-2:=by omega
 have e3:((k:Int)+n-2).toNat=k+n-2:=by omega
 have after:∀ g:Nat,g<1000000000->U / 1000000000 ^ k / V<=g->g<=U / 1000000000 ^ k / V+1->AfterG (Sp.Zaq L U) (Sp.Zaq n V) q fb v n s k g dq:=fun g h0 h1 h2=>afterG hL hkn hq hV0 hV hU h0 h1 h2 cont
 clear cont hE hV0
 generalize V / 1000000000 ^ (n-2)=d at *
 generalize U / 1000000000 ^ k / 1000000000 ^ (n-2)=x at *
 generalize U / 1000000000 ^ k / V=q0 at *
 have htest:∀ g r:Nat,r<1000000000->(((((g:Nat):Int)>=1000000000)\/(IntKind.u64.wrap (((g:Nat):Int)*IntKind.u64.wrap ((Sp.Zaq n V).getD ((n:Int)-2).toNat default))>IntKind.u64.wrap (IntKind.u64.wrap ((r:Int)*1000000000)+IntKind.u64.wrap ((Sp.Zaq L U).getD ((k:Int)+n-2).toNat default)))) ↔
   (g>=1000000000\/g*(d % 1000000000)>r*1000000000+x % 1000000000)):=by
  intro g r hr
  rw [e2,e3,b2,u2]
  have hv2:d % 1000000000<1000000000:=Nat.mod_lt _ (by omega)
  have hu2:x % 1000000000<1000000000:=Nat.mod_lt _ (by omega)
  generalize d % 1000000000=v2 at hv2
  generalize x % 1000000000=x2 at hu2
  rw [wU64 (n:=(v2:Int)) (by omega),wU64 (n:=(x2:Int)) (by omega),wU64 (n:=(r:Int)*1000000000) (by omega),wU64 (n:=(r:Int)*1000000000+(x2:Int)) (by omega)]
  by_cases hbig:g>=1000000000
  ·exact ⟨fun _ => .inl hbig,fun _ => .inl (by omega)⟩
  ·have hm:((g:Nat):Int)*(v2:Int)=((g*v2:Nat):Int):=(Int.natCast_mul _ _).symm
   have hle:g*v2<=1000000000*1000000000:=Nat.mul_le_mul (by omega) (by omega)
   rw [hm,wU64 (by omega)]
   constructor
   ·rintro (h | h)
    ·exact absurd (by omega) hbig
    ·right;omega
   ·rintro (h | h)
    ·exact absurd h hbig
    ·right;omega
 intro g
 induction g with
 | zero =>
  intro r hgr hqg hr hgb
  have hno:¬(0>=1000000000\/0*(d % 1000000000)>r*1000000000+x % 1000000000):=fun h=>by have:=more 0 r hgr h;omega
  exact vDivideG _ _ _ _ _ _ _ _ _ _ _ ⟨by omega,by omega,by omega,fun _=>by omega,fun _=>by rw [Zal];omega,fun _=>by omega,fun _=>by rw [Zal];omega,fun h=>absurd ((htest 0 r hr).1 h) hno,fun _=>after 0 (by omega) hqg (less 0 r hgr (by omega))⟩
 | succ g ih =>
  intro r hgr hqg hr hgb
  refine vDivideG _ _ _ _ _ _ _ _ _ _ _ ⟨by omega,by omega,by omega,fun _=>by omega,fun _=>by rw [Zal];omega,fun _=>by omega,fun _=>by rw [Zal];omega,fun h => ?_,fun h => ?_⟩
  ·have ht:=(htest (g+1) r hr).1 h
   have hlt:=more (g+1) r hgr ht
   have hgr':g*(d / 1000000000)+(r+d / 1000000000)=x / 1000000000:=by rw [<- hgr,Nat.succ_mul];omega
   have eg:((g+1:Nat):Int)-1=(g:Int):=by omega
   rw [e1,b1,eg]
   have er:(r:Int)+((d / 1000000000:Nat):Int)=((r+d / 1000000000:Nat):Int):=by omega
   rw [er]
   refine ⟨by omega,by omega,by omega,by rw [Zal];omega,by omega,by omega,fun hbr => ?_,fun hbr => ?_⟩
   ·have hsm:=small g _ hgr' (by omega)
    refine after g hsm (by omega) (less g _ hgr' ?_)
    have:g*(d % 1000000000)<=1000000000*1000000000:=Nat.mul_le_mul (by omega) (by omega)
    omega
   ·exact ih _ hgr' (by omega) (by omega) (by omega)
  ·have ht:¬(g+1>=1000000000\/(g+1)*(d % 1000000000)>r*1000000000+x % 1000000000):=fun y=>h ((htest (g+1) r hr).2 y)
   exact after (g+1) (by omega) hqg (less (g+1) r hgr (by omega))
end Go.Av

namespace Go.Av
open Go.Proofs
theorem loopK {fb:Bool} {v n L V A kt s:Nat} {dq:AV} (hn:2<=n) (hL:L<=1000000) (hkt:kt+n=L) (hV:Sp.fits n V) (hV1:1000000000 ^ (n-1)<=V) (hs:0<s/\s<1000000000)
  (hq:AV.tup [usA false (Sp.Zaq kt (A / V)),usA false (Sp.Zaq (Sp.cnt (A % V)) (A % V / s))]=dq) :
  ∀ (K U Qh:Nat) (q:List Int),K+n<=L->A=Qh*V*1000000000 ^ K+U->U<V*1000000000 ^ K->q.length=kt->q.drop K=Sp.Zaq (kt-K) Qh->K<=kt->ZaS (Sp.Zaq L U) (Sp.Zaq n V) q fb v n s ((K:Int)-1) (Zad dq)
 | 0,U,Qh,q,hK,hA,hU,hql,hqd,hKk=>by
  rw [Nat.pow_zero,Nat.mul_one] at hA hU
  have hd:A / V=Qh/\A % V=U:=by
   have hV0:0<V:=by omega
   rw [hA,Nat.mul_comm Qh V,Nat.mul_add_div hV0,Nat.mul_add_mod,Nat.div_eq_of_lt hU,Nat.mod_eq_of_lt hU]
   exact ⟨by omega,rfl⟩
  rw [hd.1,hd.2] at hq
  have hUf:Sp.fits n U:=ZcG hV (Nat.le_of_lt hU)
  have htk:List.take ((n:Int).toNat-0) (List.drop 0 (Sp.Zaq L U))=Sp.Zaq n U:=by
   rw [Int.toNat_natCast,Nat.sub_zero,List.drop_zero,<- hkt,Nat.add_comm,Zd1,List.take_append_of_le_length (by rw [Zal];omega),List.take_of_length_le (by rw [Zal];omega)]
  refine vDivideK _ _ _ _ _ _ _ _ _ ⟨fun h=>by omega,fun _ => ?_⟩
  rw [htk,Zal]
  have hc:=Zav.1 hUf
  refine ⟨_,trimN false n U ⟨by unfold Sp.Zay;omega,hUf⟩,_,_,byWordN false (Sp.cnt U) U s ⟨by unfold Sp.Zay;omega,Zag _,hs.1,hs.2⟩,by omega,by omega,by omega,?_⟩
  have e:q=Sp.Zaq kt Qh:=by simpa using hqd
  rw [e,<- hq];exact .refl _
 | K+1,U,Qh,q,hK,hA,hU,hql,hqd,hKk=>by
  have hPK:0<1000000000 ^ K:=Nat.pow_pos (by omega)
  have hV0:0<V:=Nat.lt_of_lt_of_le (Nat.pow_pos (by omega)) hV1
  have hW:U / 1000000000 ^ K<V*1000000000:=by
   apply Nat.div_lt_of_lt_mul
   rw [Nat.pow_succ] at hU
   have:1000000000 ^ K*(V*1000000000)=V*(1000000000 ^ K*1000000000):=by grind
   omega
  have hUf:Sp.fits (K+(n+1)) U:=by
   unfold Sp.fits at hV ⊢
   have h1:V*1000000000 ^ (K+1)<=1000000000 ^ n*1000000000 ^ (K+1):=Nat.mul_le_mul_right _ (Nat.le_of_lt hV)
   rw [<- Nat.pow_add] at h1
   rw [show K+(n+1)=n+(K+1) by omega]
   omega
  have hE:Est (1000000000 ^ (n-2)) (U / 1000000000 ^ K) V:=by
   refine ⟨Nat.pow_pos (by omega),?_,hW⟩
   rw [Nat.le_div_iff_mul_le (Nat.pow_pos (by omega)),Nat.mul_comm,<- Nat.pow_succ,show (n-2).succ=n-1 by omega]
   exact hV1
  have ek:(((K+1:Nat):Int)-1)=(K:Nat):=by omega
  rw [ek]
  have hdm:=Nat.div_add_mod (U / 1000000000 ^ K) V
  have hml:=Nat.mod_lt (U / 1000000000 ^ K) hV0
  have hdmU:=Nat.div_add_mod U (1000000000 ^ K)
  have hmlU:=Nat.mod_lt U hPK
  have hql0:=hE.q_lt
  have cont:ZaS (Sp.Zaq L (U % 1000000000 ^ K+1000000000 ^ K*(U / 1000000000 ^ K % V))) (Sp.Zaq n V) (q.set K ((U / 1000000000 ^ K / V:Nat):Int)) fb v n s ((K:Int)-1) (Zad dq):=by
   refine loopK hn hL hkt hV hV1 hs hq K _ (Qh*1000000000+U / 1000000000 ^ K / V) _ (by omega) ?_ ?_ (by simpa using hql) ?_ (by omega)
   ·rw [hA,Nat.pow_succ]
    generalize U / 1000000000 ^ K=W at hdm hdmU
    generalize W / V=q0 at hdm
    generalize W % V=r0 at hdm
    generalize U % 1000000000 ^ K=l0 at hdmU
    generalize 1000000000 ^ K=p at hdmU
    rw [<- hdmU,<- hdm];grind
   ·generalize U / 1000000000 ^ K % V=r0 at hml
    have h1:1000000000 ^ K*(r0+1)<=1000000000 ^ K*V:=Nat.mul_le_mul_left _ (by omega)
    rw [Nat.mul_succ] at h1
    rw [Nat.mul_comm V]
    omega
   ·rw [Zcp (by omega),hqd,show kt-K=(kt-(K+1))+1 by omega,Zaz]
    generalize U / 1000000000 ^ K / V=q0 at hql0
    have e2:(Qh*1000000000+q0) % 1000000000=q0:=by omega
    have e3:(Qh*1000000000+q0) / 1000000000=Qh:=by omega
    rw [e2,e3]
  have hG:=fun g r=>loopG (fb:=fb) (v:=v) (q:=q) (s:=(s:Int)) (dq:=dq) hn hL (show K+n+1<=L by omega) (show q.length<=1000000/\K<q.length by omega) hV hUf hE cont g r
  have hx:U / 1000000000 ^ (K+n-1)=U / 1000000000 ^ K / 1000000000 ^ (n-2) / 1000000000:=by
   rw [Nat.div_div_eq_div_mul,Nat.div_div_eq_div_mul,<- Nat.pow_succ,<- Nat.pow_add]
   congr 2;omega
  have u1:(Sp.Zaq L U).getD (K+n) default=((U / 1000000000 ^ (K+n-1) / 1000000000:Nat):Int):=by
   rw [Zaw U (by omega),ZaU,show K+n-1+1=K+n by omega]
   have:=ZbB (n:=K+n) (v:=U) (by rw [show K+n+1=K+(n+1) by omega];exact hUf)
   rw [Nat.mod_eq_of_lt this]
  have u2:(Sp.Zaq L U).getD (K+n-1) default=((U / 1000000000 ^ (K+n-1) % 1000000000:Nat):Int):=Zaw U (by omega)
  have b1:(Sp.Zaq n V).getD (n-1) default=((V / 1000000000 ^ (n-2) / 1000000000:Nat):Int):=by
   rw [Zaw V (by omega),ZaU,show n-2+1=n-1 by omega]
   have:=ZbB (n:=n-1) (v:=V) (by rw [show n-1+1=n by omega];exact hV)
   rw [Nat.mod_eq_of_lt this]
  have hv1:V / 1000000000 ^ (n-2) / 1000000000<1000000000:=by
   rw [ZaU,show n-2+1=n-1 by omega]
   exact ZbB (by rw [show n-1+1=n by omega];exact hV)
  have hv0:=hE.v1
  have hst:=hE.start
  have hx1:U / 1000000000 ^ (K+n-1) / 1000000000<1000000000:=by
   rw [ZaU,show K+n-1+1=K+n by omega]
   exact ZbB (by rw [show K+n+1=K+(n+1) by omega];exact hUf)
  have e1:((K:Int)+n).toNat=K+n:=by omega
  have e2:((K:Int)+n-1).toNat=K+n-1:=by omega
  have e3:((n:Int)-1).toNat=n-1:=by omega
  refine vDivideK _ _ _ _ _ _ _ _ _ ⟨fun _ => ?_,fun h=>by omega⟩
  rw [e1,e2,e3,u1,u2,b1,Zal,Zal]
  rw [<- hx] at hG hst
  clear hqd cont hdm hdmU hmlU hml hE hUf hW hU hA
  generalize U / 1000000000 ^ (K+n-1)=X at hG hst hx1
  generalize V / 1000000000 ^ (n-2) / 1000000000=d at hG hst hv1 hv0
  have ex:((X / 1000000000:Nat):Int)*1000000000+((X % 1000000000:Nat):Int)=(X:Int):=by omega
  rw [ex]
  have c2:((X:Int)).tdiv (d:Int)=((X / d:Nat):Int):=(Int.ofNat_tdiv _ _).symm
  have c3:((X:Int)).tmod (d:Int)=((X % d:Nat):Int):=(Int.ofNat_tmod _ _).symm
  rw [c2,c3]
  have hXd:X / d<=X:=Nat.div_le_self _ _
  have hmd:=Nat.mod_lt X hv0
  have hdd:X / d*d+X % d=X:=by rw [Nat.mul_comm];exact Nat.div_add_mod X d
  have fin:=hG (X / d) (X % d) hdd hst (by omega) (by omega)
  generalize X / d=g at hXd fin
  generalize X % d=r at hmd fin
  exact ⟨by omega,by omega,by omega,by omega,by omega,by omega,by omega,by omega,by omega,by omega,by omega,by omega,by omega,by omega,by omega,by omega,fin⟩
namespace Sp
def dqn (A D:Nat):Nat:=if cnt D=1 then cnt A else if A<D then 0 else cnt A+2-cnt D
def scl (D:Nat):Nat:=1000000000 / (D / 1000000000 ^ (cnt D-1)+1)
def drn (A D:Nat):Nat:=if cnt D=1 then 1 else if A<D then cnt A else cnt (A*scl D % (D*scl D))
end Sp
theorem scl_facts {D:Nat} (h:2<=Sp.cnt D):0<Sp.scl D/\Sp.scl D<1000000000/\Sp.fits (Sp.cnt D) (D*Sp.scl D)/\1000000000 ^ (Sp.cnt D-1)<=D*Sp.scl D/\D / 1000000000 ^ (Sp.cnt D-1)<1000000000:=by
 have hf:=Zag D
 have ht:D / 1000000000 ^ (Sp.cnt D-1)<1000000000:=ZbB (by rw [show Sp.cnt D-1+1=Sp.cnt D by omega];exact hf)
 have hnf:¬Sp.fits (Sp.cnt D-1) D:=fun k=>by have:=Zav.1 k;omega
 have hge:1000000000 ^ (Sp.cnt D-1)<=D:=by unfold Sp.fits at hnf;omega
 have ht1:0<D / 1000000000 ^ (Sp.cnt D-1):=Nat.div_pos hge (Nat.pow_pos (by omega))
 have hlt:D<1000000000 ^ (Sp.cnt D-1)*(D / 1000000000 ^ (Sp.cnt D-1)+1):=Nat.lt_mul_div_succ D (Nat.pow_pos (by omega))
 have hp:1000000000 ^ Sp.cnt D=1000000000 ^ (Sp.cnt D-1)*1000000000:=by rw [<- Nat.pow_succ];congr 1;omega
 have hs1:0<Sp.scl D:=Nat.div_pos (by omega) (by omega)
 have hs2:Sp.scl D*(D / 1000000000 ^ (Sp.cnt D-1)+1)<=1000000000:=Nat.div_mul_le_self _ _
 unfold Sp.fits
 rw [hp]
 generalize D / 1000000000 ^ (Sp.cnt D-1)=t at ht1 ht hlt hs2
 generalize 1000000000 ^ (Sp.cnt D-1)=P at hge hlt
 have hs3:Sp.scl D<1000000000:=by
  have:Sp.scl D*2<=Sp.scl D*(t+1):=Nat.mul_le_mul_left _ (by omega)
  omega
 generalize Sp.scl D=s at hs1 hs2 hs3
 refine ⟨hs1,hs3,?_,?_,ht⟩
 ·have h1:D*s<P*(t+1)*s:=Nat.mul_lt_mul_of_pos_right hlt hs1
  have h2:P*(t+1)*s=P*(s*(t+1)):=by grind
  have h3:P*(s*(t+1))<=P*1000000000:=Nat.mul_le_mul_left _ hs2
  omega
 ·have:D*1<=D*s:=Nat.mul_le_mul_left _ hs1
  omega
theorem ZgO {A D s:Nat} (hs:0<s):A*s / (D*s)=A / D/\A*s % (D*s) / s=A % D:=by
 refine ⟨Nat.mul_div_mul_right _ _ hs,?_⟩
 rw [Nat.mul_mod_mul_right,Nat.mul_div_cancel _ hs]
end Go.Av

namespace Go.Av
open Go.Proofs
theorem weak_two {a a' b b':AV} (h:Weak a a') (k:Weak b b'):Weak (.tup [a,b]) (.tup [a',b']):=by
 refine .tup _ _ rfl fun i x y hx hy => ?_
 match i with
 | 0=>simp at hx hy;subst hx;subst hy;exact h
 | 1=>simp at hx hy;subst hx;subst hy;exact k
 | i+2=>simp at hx
theorem Zd2 {x:Nat} (h:x<1000000000):Sp.Zaq 1 x=[(x:Int)]:=by
 simp only [Sp.Zaq]
 rw [Nat.mod_eq_of_lt h]
theorem divideN (fa fb:Bool) (n A m D:Nat) (hn:Sp.Zay n/\Sp.Zay m) (hA:Sp.fits n A) (hD:Sp.fits m D) (hc:Sp.cnt A<=400000/\Sp.cnt D<=400000) (h0:D ≠ 0) :
  Ev M1 (.pure 107 [usA fa (Sp.Zaq n A),usA fb (Sp.Zaq m D)]) (.tup [usA false (Sp.Zaq (Sp.dqn A D) (A / D)),usA false (Sp.Zaq (Sp.drn A D) (A % D))]) []:=by
 have tA:=trimN fa n A ⟨hn.1,hA⟩
 have tD:=trimN fb m D ⟨hn.2,hD⟩
 have hD1:1<=Sp.cnt D:=by have:=ZaC (v:=D);omega
 have hlD:=ZaG D
 have hlA:=ZaG A
 have one:Sp.cnt D=1->D<1000000000/\(Sp.lim D).getD 0 default=(D:Int):=by
  intro h
  have hf:=Zag D
  rw [h] at hf
  have hlt:D<1000000000:=by unfold Sp.fits at hf;simpa using hf
  refine ⟨hlt,?_⟩
  unfold Sp.lim
  rw [h,Zd2 hlt];rfl
 have res1:Sp.cnt D=1->AV.tup [usA false (Sp.Zaq (Sp.dqn A D) (A / D)),usA false (Sp.Zaq (Sp.drn A D) (A % D))] = .tup [usA false (Sp.Zaq (Sp.cnt A) (A / D)),usA false [((A % D:Nat):Int)]]:=by
  intro h
  have:=Nat.mod_lt A (Nat.pos_of_ne_zero h0)
  rw [Sp.dqn,Sp.drn,if_pos h,if_pos h,Zd2 (by have:=(one h).1;omega)]
 by_cases hA0:A=0
 ·subst hA0
  rw [Zco] at tA
  refine call107 (vDivide0 _ _ _ _ _ ⟨tA,_,tD,fun h => ?_,fun h => ?_⟩)
  ·rw [hlD] at h
   obtain ⟨o1,o2⟩:=one (by omega)
   have hb:=byWordN false 0 0 D ⟨by unfold Sp.Zay;omega,Za6.2 rfl,by omega,o1⟩
   rw [res1 (by omega),Zbw,o2,hlD]
   exact ⟨_,_,hb,by omega,.refl _⟩
  ·rw [hlD] at h
   have hcmp:=compareN false false 0 0 (Sp.cnt D) D ⟨by unfold Sp.Zay;omega,by unfold Sp.Zay;omega,Za6.2 rfl,Zag _⟩
   have e:Sp.sgnI (((0:Nat):Int)-(D:Int)) = -1:=by unfold Sp.sgnI;rw [if_pos (by omega)]
   rw [e] at hcmp
   refine ⟨hcmp,?_⟩
   have e1:Sp.dqn 0 D=0:=by unfold Sp.dqn;rw [if_neg (by omega),if_pos (by omega)]
   have e2:Sp.drn 0 D=0:=by unfold Sp.drn;rw [if_neg (by omega),if_pos (by omega),Zbw]
   rw [e1,e2]
   exact weak_two (.vnil 1) (.vnil 1)
 ·have hne:Sp.lim A ≠ []:=by
   intro e
   rw [e] at hlA
   exact hA0 (ZaC.1 hlA.symm)
  obtain ⟨x,l,hxl⟩:=List.exists_cons_of_ne_nil hne
  rw [hxl] at tA hlA
  simp only [List.length_cons] at hlA
  by_cases h1:Sp.cnt D=1
  ·obtain ⟨o1,o2⟩:=one h1
   have hb:=byWordN false (Sp.cnt A) A D ⟨by unfold Sp.Zay;omega,Zag _,by omega,o1⟩
   refine call107 (vDivideC _ _ _ _ x l [] _ ⟨tA,_,tD,fun h => ?_,fun h=>by rw [hlD] at h;omega⟩)
   rw [res1 h1,o2,hlD]
   have e:(AV.int .u32 x::l.map (.int .u32))=(Sp.Zaq (Sp.cnt A) A).map (.int .u32):=by
    have:Sp.Zaq (Sp.cnt A) A=x::l:=hxl
    rw [this];rfl
   rw [e]
   exact ⟨_,_,hb,by omega,.refl _⟩
  ·have hn2:2<=Sp.cnt D:=by omega
   obtain ⟨s1,s2,s3,s4,s5⟩:=scl_facts hn2
   have hcmp:=compareN false false (Sp.cnt A) A (Sp.cnt D) D ⟨by unfold Sp.Zay;omega,by unfold Sp.Zay;omega,Zag _,Zag _⟩
   have eA:Sp.Zaq (Sp.cnt A) A=x::l:=hxl
   rw [eA] at hcmp
   by_cases hlt:A<D
   ·refine call107 (vDivideC _ _ _ _ x l [] _ ⟨tA,_,tD,fun h=>by rw [hlD] at h;omega,fun _=>⟨_,hcmp,fun _=>⟨by omega,?_⟩,fun h => ?_⟩⟩)
    ·have e1:Sp.dqn A D=0:=by unfold Sp.dqn;rw [if_neg h1,if_pos hlt]
     have e2:Sp.drn A D=Sp.cnt A:=by unfold Sp.drn;rw [if_neg h1,if_pos hlt]
     rw [e1,e2,Nat.mod_eq_of_lt hlt,eA]
     exact weak_two (.vnil 1) (.refl _)
    ·rw [ZbD] at h;omega
   ·have fits1:Sp.fits 1 (Sp.scl D):=by unfold Sp.fits;simpa using s2
    have hfAs:Sp.fits (Sp.cnt A+1) (A*Sp.scl D):=Zc5 (Zag A) fits1
    have hcA:Sp.cnt D<=Sp.cnt A:=ZaQ (by omega)
    have hs:Int.tdiv 1000000000 ((Sp.lim D).getD (((Sp.lim D).length:Int)-1).toNat default+1)=(Sp.scl D:Int):=by
     have e1:(((Sp.lim D).length:Int)-1).toNat=Sp.cnt D-1:=by rw [hlD];omega
     have e2:(Sp.lim D).getD (Sp.cnt D-1) default=((D / 1000000000 ^ (Sp.cnt D-1):Nat):Int):=by
      have:=Zaw (n:=Sp.cnt D) D (show Sp.cnt D-1<Sp.cnt D by omega)
      rw [Nat.mod_eq_of_lt s5] at this
      exact this
     rw [e1,e2]
     unfold Sp.scl
     generalize D / 1000000000 ^ (Sp.cnt D-1)=t
     have:((t:Int)+1)=((t+1:Nat):Int):=by omega
     rw [this]
     exact (Int.ofNat_tdiv 1000000000 (t+1)).symm
    have htop:0<=(Sp.lim D).getD (((Sp.lim D).length:Int)-1).toNat default/\(Sp.lim D).getD (((Sp.lim D).length:Int)-1).toNat default<1000000000:=by
     refine lim_ok D _ (getD_mem ?_)
     rw [hlD];omega
    have hu:Sp.Zaq (Sp.cnt A+1) (A*Sp.scl D)++[0]=Sp.Zaq (Sp.cnt A+2) (A*Sp.scl D):=by
     rw [ZeG (Sp.cnt A+1) 1 _ hfAs];rfl
    have hul:=Zal (Sp.cnt A+2) (A*Sp.scl D)
    have hvV:Sp.lim (D*Sp.scl D)=Sp.Zaq (Sp.cnt D) (D*Sp.scl D):=by
     refine (lim_of s3 (.inr ?_)).symm
     unfold Sp.fits;omega
    have t1:=evf105 false true A (Sp.scl D:Int) ⟨by unfold Sp.Zay;omega,by omega,by omega⟩
    have eone:[AV.int .u32 (Sp.scl D:Int)]=(Sp.Zaq 1 (Sp.scl D)).map (.int .u32):=by rw [Zd2 s2];rfl
    have t2:=timesN false true (Sp.cnt D) D 1 (Sp.scl D) ⟨by unfold Sp.Zay;omega,by unfold Sp.Zay;omega,Zag _,fits1⟩
    rw [Zd2 s2] at t2
    have t3:=trimN false (Sp.cnt D+1) (D*Sp.scl D) ⟨by unfold Sp.Zay;omega,ZaW s3 (by omega)⟩
    rw [Int.toNat_natCast,hxl] at t1
    refine call107 (vDivideC _ _ _ _ x l (Sp.Zaq (Sp.cnt A+1) (A*Sp.scl D)) _ ⟨tA,_,tD,fun h=>by rw [hlD] at h;omega,fun _=>⟨_,hcmp,fun h=>by rw [ZbD] at h;omega,fun _ => ?_⟩⟩)
    rw [hs,hu,hul]
    refine ⟨by omega,by omega,by omega,by omega,by omega,by omega,by omega,by omega,t1,by rw [Zal];omega,_,t2,_,t3,by omega,by omega,by omega,by omega,by omega,?_⟩
    rw [hvV,hlD]
    have ekt:((Sp.cnt A+2:Nat):Int)-(Sp.cnt D:Int)=((Sp.cnt A+2-Sp.cnt D:Nat):Int):=by omega
    rw [ekt,Int.toNat_natCast]
    obtain ⟨d1,d2⟩:=ZgO (A:=A) (D:=D) s1
    refine loopK (A:=A*Sp.scl D) (kt:=Sp.cnt A+2-Sp.cnt D) hn2 (by omega) (by omega) s3 s4 ⟨s1,s2⟩ ?_ (Sp.cnt A+2-Sp.cnt D) (A*Sp.scl D) 0 _ (by omega) (by rw [Nat.zero_mul,Nat.zero_mul,Nat.zero_add]) ?_ (by simp) (by simp [Sp.Zaq]) (Nat.le_refl _)
    ·have e1:Sp.dqn A D=Sp.cnt A+2-Sp.cnt D:=by unfold Sp.dqn;rw [if_neg h1,if_neg hlt]
     have e2:Sp.drn A D=Sp.cnt (A*Sp.scl D % (D*Sp.scl D)):=by unfold Sp.drn;rw [if_neg h1,if_neg hlt]
     rw [d1,d2,e1,e2]
    ·unfold Sp.fits at hfAs
     have hp:1000000000 ^ (Sp.cnt D-1)*1000000000 ^ (Sp.cnt A+2-Sp.cnt D)=1000000000 ^ (Sp.cnt A+1):=by rw [<- Nat.pow_add];congr 1;omega
     have:=Nat.mul_le_mul_right (1000000000 ^ (Sp.cnt A+2-Sp.cnt D)) s4
     omega
theorem dqn_fits {A D:Nat} (h0:D ≠ 0) (hc:Sp.cnt A<=400000/\Sp.cnt D<=400000):Sp.fits (Sp.dqn A D) (A / D)/\Sp.Zay (Sp.dqn A D)/\Sp.fits (Sp.drn A D) (A % D)/\Sp.Zay (Sp.drn A D):=by
 have hD1:1<=Sp.cnt D:=by have:=ZaC (v:=D);omega
 have hm:=Nat.mod_lt A (Nat.pos_of_ne_zero h0)
 unfold Sp.dqn Sp.drn Sp.Zay
 by_cases h1:Sp.cnt D=1
 ·rw [if_pos h1,if_pos h1]
  have hf:=Zag D
  rw [h1] at hf
  exact ⟨ZcG (Zag A) (Nat.div_le_self _ _),by omega,ZcG hf (by omega),by omega⟩
 ·rw [if_neg h1,if_neg h1]
  by_cases hlt:A<D
  ·rw [if_pos hlt,if_pos hlt,Nat.div_eq_of_lt hlt,Nat.mod_eq_of_lt hlt]
   exact ⟨Za6.2 rfl,by omega,Zag A,by omega⟩
  ·rw [if_neg hlt,if_neg hlt]
   obtain ⟨s1,s2,s3,s4,s5⟩:=scl_facts (D:=D) (by omega)
   obtain ⟨d1,d2⟩:=ZgO (A:=A) (D:=D) s1
   have hcA:Sp.cnt D<=Sp.cnt A:=ZaQ (by omega)
   refine ⟨?_,by omega,?_,?_⟩
   ·have hnf:¬Sp.fits (Sp.cnt D-1) D:=fun k=>by have:=Zav.1 k;omega
    have hA:=Zag A
    unfold Sp.fits at hnf hA ⊢
    have hp:1000000000 ^ (Sp.cnt D-1)*1000000000 ^ (Sp.cnt A+2-Sp.cnt D)=1000000000 ^ Sp.cnt A*1000000000:=by rw [<- Nat.pow_add,<- Nat.pow_succ];congr 1;omega
    have h2:=Nat.mul_le_mul_right (1000000000 ^ (Sp.cnt A+2-Sp.cnt D)) (Nat.le_of_not_lt hnf)
    apply Nat.div_lt_of_lt_mul
    omega
   ·rw [<- d2]
    exact ZcG (Zag _) (Nat.div_le_self _ _)
   ·have:Sp.cnt (A*Sp.scl D % (D*Sp.scl D))<=Sp.cnt (D*Sp.scl D):=ZaQ (Nat.le_of_lt (Nat.mod_lt _ (Nat.mul_pos (by omega) s1)))
    have:=Zav.1 s3
    omega
theorem ev107 (fa fb:Bool) (v w:Int) (h:Sp.okB v/\Sp.okB w/\w ≠ 0):Ev M1 (.pure 107 [usA fa (Sp.Zau v),usA fb (Sp.Zau w)]) (.tup [usA false (Sp.Zaq (Sp.dqn v.natAbs w.natAbs) (v.natAbs / w.natAbs)),usA false (Sp.Zaq (Sp.drn v.natAbs w.natAbs) (v.natAbs % w.natAbs))]) []:=
 divideN fa fb _ _ _ _ ⟨ZcM h.1,ZcM h.2.1⟩ (Zag _) (Zag _) ⟨h.1,h.2.1⟩ (by have:=h.2.2;omega)
end Go.Av

namespace Go.Av
open Go.Proofs
theorem cnt_small {n:Nat} (h:n<1000000000):Sp.cnt n<=1:=Zav.1 (by unfold Sp.fits;simpa using h)
theorem Zgm {v:Int} (h:v.natAbs<1000000000):Sp.okB v:=by
 have:=cnt_small h
 unfold Sp.okB;omega
theorem ev45_a (fa:Bool) (a:Int) (h:Sp.okB a):Ev M1 (.pure 45 [bigA fa a,.agg [.bool false,.vec false 1 ((Sp.Zau 1).map (.int .u32))]]) (bigA false (a-1)) []:=
 ev45 fa false a 1 ⟨h,Zgm (by decide)⟩
namespace Sp
def wrd (v:Int):Int:=if cnt v.natAbs<=2 then (v.natAbs:Int) else 0
def isW (v:Int):Bool:=decide (cnt v.natAbs<=2)
end Sp
theorem ev117 (fa:Bool) (v:Int):Ev M1 (.pure 117 [bigA fa v]) (.tup [.int .u64 (Sp.wrd v),.bool (Sp.isW v)]) []:=by
 have hl:=Zbp v
 have hf:=Zag v.natAbs
 unfold Sp.wrd Sp.isW
 generalize hn:v.natAbs=n at *
 have e:Sp.Zau v=Sp.Zaq (Sp.cnt n) n:=by unfold Sp.Zau Sp.lim;rw [hn]
 refine call117 (vWord fa _ _ _ ⟨fun h => ?_,fun h0=>⟨fun h => ?_,fun h1=>⟨fun h => ?_,fun h2 => ?_⟩⟩⟩)
 ·have h:Sp.cnt n=0:=by omega
  rw [h,if_pos (by omega),ZaC.1 h];rfl
 ·have h:Sp.cnt n=1:=by omega
  rw [h] at hf e
  have hlt:n<1000000000:=by unfold Sp.fits at hf;simpa using hf
  rw [e,Zd2 hlt,h,if_pos (by omega)]
  simp only [List.getD_cons_zero]
  exact ⟨by simp,by omega,rfl⟩
 ·have h:Sp.cnt n=2:=by omega
  rw [h] at hf e
  have hlt:n<1000000000000000000:=by unfold Sp.fits at hf;simpa using hf
  have e2:Sp.Zaq 2 n=[((n % 1000000000:Nat):Int),((n / 1000000000 % 1000000000:Nat):Int)]:=rfl
  rw [e,e2,h,if_pos (by omega)]
  simp only [List.getD_cons_zero,List.getD_cons_succ]
  refine ⟨by simp,by simp,by omega,by omega,by omega,by omega,?_⟩
  have e3:((n / 1000000000 % 1000000000:Nat):Int)*1000000000+((n % 1000000000:Nat):Int)=(n:Int):=by omega
  rw [e3];rfl
 ·rw [if_neg (by omega),show decide (Sp.cnt n<=2)=false by simp;omega]
end Go.Av

namespace Go.Av
open Go.Proofs
set_option maxRecDepth 100000
def fi82:Fi:=⟨55,[.cell 4 28,.cell 5 28,.tmp 6]⟩
def kp82:List (Nat × List Nat):=[(0,[2,3,4,5]),(1,[2,3,4,5,14]),(2,[4,5,6]),(3,[2,3,4,5,7,8]),(4,[3,4,5,9,10]),(5,[3,4,5,9,10,46]),(6,[4,5,9,10]),(7,[4,5,6])]
def fi103:Fi:=⟨61,[.cell 4 28]⟩
def Zg3:List (Nat × List Nat):=[(0,[2,3,4]),(1,[4,5,6]),(2,[4,5,6,22]),(3,[4,5,6,7,8]),(4,[4,5,6,7,8,9,10]),(5,[4,5,6,7,9,36]),(6,[4,7,9,38]),(7,[4,7,9]),(8,[4]),(9,[4,5,6,12]),(10,[4,5,6]),(11,[4])]
def Zhb (fa fb:Bool) (a b:Int) (Q:AV->Heap->Prop):Prop:=Wp M1 (.run fi82 (atC (cd Try.f82) []) [(0,bigA fa a),(1,bigA fb b)] []) Q
def vGCD_at (fa fb:Bool) (a b:Int) (Q:AV->Heap->Prop):Prop:=Wp M1 (.run fi103 (atC (cd Try.f103) []) [(0,bigA fa a),(1,bigA fb b)] []) Q
def Zc7 (x y:Int) (Q:AV->Heap->Prop):Prop:=Wp M1 (.run fi103 (atC (cd Try.f103) [1,1,0,0,0]) [(4,.ptr 0 0 0 0),(5,.ptr 1 0 0 0),(6,.ptr 2 0 0 0)] [⟨[.agg [.bool false,.vnil]],2,0,false,false⟩,⟨[.agg [.bool (Sp.Zaf x),.vec false 1 ((Sp.Zau x).map (.int .u32))]],2,0,false,false⟩,⟨[.agg [.bool (Sp.Zaf y),.vec false 1 ((Sp.Zau y).map (.int .u32))]],2,0,false,false⟩]) Q
def Zfz (s:Bool) (c:Int) (l:List Int) (Q:AV->Heap->Prop):Prop:=Wp M1 (.run fi103 (atC (cd Try.f103) [1,1,0,0,0]) [(4,.ptr 0 0 0 0),(5,.ptr 1 0 0 0),(6,.ptr 2 0 0 0)] [⟨[.agg [.bool false,.vnil]],2,0,false,false⟩,⟨[.agg [.bool s,.vec false 1 ((c::l).map (.int .u32))]],2,0,false,false⟩,⟨[.agg [.bool false,.vec false 1 []]],2,0,false,false⟩]) Q
def vGCDZ_at (s:Bool) (Q:AV->Heap->Prop):Prop:=Wp M1 (.run fi103 (atC (cd Try.f103) [1,1,0,0,0]) [(4,.ptr 0 0 0 0),(5,.ptr 1 0 0 0),(6,.ptr 2 0 0 0)] [⟨[.agg [.bool false,.vnil]],2,0,false,false⟩,⟨[.agg [.bool s,.vec false 1 []]],2,0,false,false⟩,⟨[.agg [.bool false,.vec false 1 []]],2,0,false,false⟩]) Q
def Zeq (u v:Int) (Q:AV->Heap->Prop):Prop:=Wp M1 (.run fi103 (atC (cd Try.f103) [1,1,0,0,0,1,0,1,1,0,1,0,0,0,0]) [(4,.ptr 0 0 0 0),(7,.int .u64 u),(9,.int .u64 v)] [⟨[.agg [.bool false,.vnil]],2,0,false,false⟩]) Q
theorem call82 {args:List AV} {d:AV} (h:wc M1 fi82 Try.f82 args d):Ev M1 (.pure 82 args) d []:=pcl _ _ (by kernel_rfl) h
theorem call103 {args:List AV} {d:AV} (h:wc M1 fi103 Try.f103 args d):Ev M1 (.pure 103 args) d []:=pcl _ _ (by kernel_rfl) h
noncomputable abbrev zNvG1 (a:Int) (b:Int):=us (Sp.Zaq (Sp.dqn a.natAbs b.natAbs) (a.natAbs / b.natAbs))
noncomputable abbrev zNvG2 (a:Int) (b:Int):=us (Sp.Zaq (Sp.drn a.natAbs b.natAbs) (a.natAbs % b.natAbs))
noncomputable abbrev zNvG3 (a:Int) (b:Int):=Sp.sg (!Sp.Zaf a==Sp.Zaf b) (a.natAbs / b.natAbs)
theorem vDivMod (fa fb:Bool) (a b:Int)  (dq:AV) (H :
  (((↑(Sp.Zau b).length:Int)=0)->Weak (tu [ag [vb false,AV.vnil],ag [vb false,AV.vnil],vi 6]) dq) /\
  (¬((↑(Sp.Zau b).length:Int)=0)->(Sp.okB a/\Sp.okB b/\b ≠ 0) /\
   (Sp.Zay (Sp.dqn a.natAbs b.natAbs)/\Sp.fits (Sp.dqn a.natAbs b.natAbs) (a.natAbs / b.natAbs)) /\
   (Sp.Zay (Sp.drn a.natAbs b.natAbs)/\Sp.fits (Sp.drn a.natAbs b.natAbs) (a.natAbs % b.natAbs)) /\
   ((((↑(Sp.Zau (Sp.sg (Sp.Zaf a) (a.natAbs % b.natAbs))).length:Int)>0)/\(¬(Sp.Zaf (Sp.sg (Sp.Zaf a) (a.natAbs % b.natAbs))=Sp.Zaf b)))->(Sp.inI 1) /\
    (Sp.okB (Sp.sg (!Sp.Zaf a==Sp.Zaf b) (a.natAbs / b.natAbs))) /\
    (Sp.okB (Sp.sg (Sp.Zaf a) (a.natAbs % b.natAbs))/\Sp.okB b) /\
    Weak (tu [bigA false (Sp.sg (!Sp.Zaf a==Sp.Zaf b) (a.natAbs / b.natAbs)-1),bigA false (Sp.sg (Sp.Zaf a) (a.natAbs % b.natAbs)+b),vi 0]) dq) /\
   (¬(((↑(Sp.Zau (Sp.sg (Sp.Zaf a) (a.natAbs % b.natAbs))).length:Int)>0)/\(¬(Sp.Zaf (Sp.sg (Sp.Zaf a) (a.natAbs % b.natAbs))=Sp.Zaf b)))->Weak (tu [bigA false (Sp.sg (!Sp.Zaf a==Sp.Zaf b) (a.natAbs / b.natAbs)),bigA false (Sp.sg (Sp.Zaf a) (a.natAbs % b.natAbs)),vi 0]) dq))) :
 Zhb fa fb a b (Zad dq):=by
 unfold Zhb
 have w1:(us (Sp.Zau b)).length=(Sp.Zau b).length:=List.length_map ..
 have i2:((↑(us (Sp.Zau b)).length:Int)==0)=true ↔ ((↑(Sp.Zau b).length:Int)=0):=(by (try rw [w1]);all_goals exact i_eq)
 rcases xq H with ⟨d3,H⟩|⟨d3,H⟩
 ·exact Zai (G:=Zab kp82 [] []) 1000 [true] (tu [ag [vb false,AV.vnil],ag [vb false,AV.vnil],vi 6]) (by kernel_rfl) (bc rfl (bc (Zak (i2.2 d3)) (bc rfl (bc rfl b0)))) q0 c0 H
 ·obtain ⟨k4,k5,k6,H⟩:=H
  refine Zac (G:=Zab kp82 [(3,4,.call (tu [vf (zNvG1 a b),vf (zNvG2 a b)]) none),(4,6,.call (bigA false (zNvG3 a b)) none),(4,10,.call (bigA false (Sp.sg (Sp.Zaf a) (a.natAbs % b.natAbs))) none)] []) 10 [false] ⟨(atC (cd Try.f82) [1,1,1,0]),[(2,AV.ptr 0 0 0 0),(3,AV.ptr 1 0 0 0),(4,AV.ptr 2 0 0 0),(5,AV.ptr 3 0 0 0),(7,vf (zNvG1 a b)),(8,vf (zNvG2 a b))],[⟨[bigA fa a],2,0,false,false⟩,⟨[bigA fb b],2,0,false,false⟩,⟨[ag [vb false,AV.vnil]],2,0,false,false⟩,⟨[ag [vb false,AV.vnil]],2,0,false,false⟩],_,[],_⟩ (by kernel_rfl) (bc rfl (bc (Zah (fun h=>d3 (i2.1 h))) (bc rfl (bc rfl b0)))) q0 (ce (@ev107 fa fb a b k4) c0) (wp_both (G:=Zab kp82 [(3,4,.call (tu [vf (zNvG1 a b),vf (zNvG2 a b)]) none),(4,6,.call (bigA false (zNvG3 a b)) none),(4,10,.call (bigA false (Sp.sg (Sp.Zaf a) (a.natAbs % b.natAbs))) none)] []) [0,1,2,3,5,4] 11 (e1:=[(3,AV.ptr 1 0 0 0),(4,AV.ptr 2 0 0 0),(5,AV.ptr 3 0 0 0),(9,AV.ptr 4 0 0 0),(10,AV.ptr 5 0 0 0)]) (L1:=[⟨[bigA fa a],2,0,false,false⟩,⟨[bigA fb b],2,0,false,false⟩,⟨[ag [vb false,AV.vnil]],2,0,false,false⟩,⟨[ag [vb false,AV.vnil]],2,0,false,false⟩,⟨[bigA false (zNvG3 a b)],2,0,false,false⟩,⟨[bigA false (Sp.sg (Sp.Zaf a) (a.natAbs % b.natAbs))],2,0,false,false⟩]) (a:=[true,true,true,true,true]) (q:=[]) (cs:=[⟨true,false,81,[vb !Sp.Zaf a==Sp.Zaf b,vf (zNvG1 a b)],[],bigA false (zNvG3 a b),[]⟩,⟨true,false,81,[vb (Sp.Zaf a),vf (zNvG2 a b)],[],bigA false (Sp.sg (Sp.Zaf a) (a.natAbs % b.natAbs)),[]⟩]) (by kernel_rfl) (by kernel_rfl) (Zam rfl (Zam rfl (Zam rfl (Zam rfl (Zam rfl ZaF))))) Za7 (Zcf (fun _=>(@ev81 (!Sp.Zaf a==Sp.Zaf b) false (Sp.dqn a.natAbs b.natAbs) (a.natAbs / b.natAbs) k5)) (Zcf (fun _=>(@ev81 (Sp.Zaf a) false (Sp.drn a.natAbs b.natAbs) (a.natAbs % b.natAbs) k6)) Za9)) ?_)
  have w7:(us (Sp.Zau (Sp.sg (Sp.Zaf a) (a.natAbs % b.natAbs)))).length=(Sp.Zau (Sp.sg (Sp.Zaf a) (a.natAbs % b.natAbs))).length:=List.length_map ..
  have i8:(bif decide ((↑(us (Sp.Zau (Sp.sg (Sp.Zaf a) (a.natAbs % b.natAbs)))).length:Int)>0) then !Sp.Zaf (Sp.sg (Sp.Zaf a) (a.natAbs % b.natAbs))==Sp.Zaf b else false)=true ↔ (((↑(Sp.Zau (Sp.sg (Sp.Zaf a) (a.natAbs % b.natAbs))).length:Int)>0)/\(¬(Sp.Zaf (Sp.sg (Sp.Zaf a) (a.natAbs % b.natAbs))=Sp.Zaf b))):=(by (try rw [w7]);all_goals exact (Zck Zaa (Zas i_eq)))
  rcases xq H with ⟨d9,H⟩|⟨d9,H⟩
  ·obtain ⟨k10,k11,k12,H⟩:=H
   exact Zai (G:=Zab kp82 [(6,1,.call (ag [vb false,vf (us (Sp.Zau 1))]) none),(6,2,.call (bigA false (Sp.sg (!Sp.Zaf a==Sp.Zaf b) (a.natAbs / b.natAbs)-1)) none),(6,5,.call (bigA false (Sp.sg (Sp.Zaf a) (a.natAbs % b.natAbs)+b)) none)] [(7,[5003,4002,7001,6000])]) 1000 [true] (asm:=[true,!(decide ((↑(us (Sp.Zau (Sp.sg (Sp.Zaf a) (a.natAbs % b.natAbs)))).length:Int)>0)==true&&true)||true,!(decide ((↑(us (Sp.Zau (Sp.sg (Sp.Zaf a) (a.natAbs % b.natAbs)))).length:Int)>0)==true&&true)||true,(bif decide ((↑(us (Sp.Zau (Sp.sg (Sp.Zaf a) (a.natAbs % b.natAbs)))).length:Int)>0) then !Sp.Zaf (Sp.sg (Sp.Zaf a) (a.natAbs % b.natAbs))==Sp.Zaf b else false)==true,true,true,true,true,true,true,true,true,true]) (tu [bigA false (Sp.sg (!Sp.Zaf a==Sp.Zaf b) (a.natAbs / b.natAbs)-1),bigA false (Sp.sg (Sp.Zaf a) (a.natAbs % b.natAbs)+b),vi 0]) (by kernel_rfl) (bc rfl (bc (Bool.or_true _) (bc (Bool.or_true _) (bc (Zak (i8.2 d9)) (bc rfl (bc rfl (bc rfl (bc rfl (bc rfl (bc rfl (bc rfl (bc rfl (bc rfl b0))))))))))))) q0 (ce (@ev46 1 k10) (ce (@ev45_a false (zNvG3 a b) k11) (ce (@ev83 false fb (Sp.sg (Sp.Zaf a) (a.natAbs % b.natAbs)) b k12) c0))) H
  ·exact Zai (G:=Zab kp82 [] [(7,[5003,4002,7001,6000])]) 1000 [false] (asm:=[true,!(decide ((↑(us (Sp.Zau (Sp.sg (Sp.Zaf a) (a.natAbs % b.natAbs)))).length:Int)>0)==true&&true)||true,!(decide ((↑(us (Sp.Zau (Sp.sg (Sp.Zaf a) (a.natAbs % b.natAbs)))).length:Int)>0)==true&&true)||true,(bif decide ((↑(us (Sp.Zau (Sp.sg (Sp.Zaf a) (a.natAbs % b.natAbs)))).length:Int)>0) then !Sp.Zaf (Sp.sg (Sp.Zaf a) (a.natAbs % b.natAbs))==Sp.Zaf b else false)==false,true,true,true,true]) (tu [bigA false (zNvG3 a b),bigA false (Sp.sg (Sp.Zaf a) (a.natAbs % b.natAbs)),vi 0]) (by kernel_rfl) (bc rfl (bc (Bool.or_true _) (bc (Bool.or_true _) (bc (Zah (fun h=>d9 (i8.1 h))) (bc rfl (bc rfl (bc rfl (bc rfl b0)))))))) q0 c0 H
theorem vGCD (fa fb:Bool) (a b:Int)  (dq:AV) (H :
  (Sp.ok a) /\
  (Sp.ok b) /\
  Zc7 (Sp.sg false a.natAbs) (Sp.sg false b.natAbs) (Zad dq)) :
 vGCD_at fa fb a b (Zad dq):=by
 unfold vGCD_at
 obtain ⟨k1,k2,H⟩:=H
 refine Zac (G:=Zab Zg3 [(1,2,.call (bigA false (Sp.sg false a.natAbs)) none),(1,5,.call (bigA false (Sp.sg false b.natAbs)) none)] []) 3 [] ⟨(atC (cd Try.f103) [1,0]),[(2,AV.ptr 0 0 0 0),(3,AV.ptr 1 0 0 0),(4,AV.ptr 2 0 0 0)],[⟨[bigA fa a],2,0,false,false⟩,⟨[bigA fb b],2,0,false,false⟩,⟨[ag [vb false,AV.vnil]],2,0,false,false⟩],_,[],_⟩ (by kernel_rfl) b0 q0 c0 (wp_both (G:=Zab Zg3 [(1,2,.call (bigA false (Sp.sg false a.natAbs)) none),(1,5,.call (bigA false (Sp.sg false b.natAbs)) none)] []) [0,1,2,4,3] 6 (e1:=[(4,AV.ptr 2 0 0 0),(5,AV.ptr 3 0 0 0),(6,AV.ptr 4 0 0 0)]) (L1:=[⟨[bigA fa a],2,0,false,false⟩,⟨[bigA fb b],2,0,false,false⟩,⟨[ag [vb false,AV.vnil]],2,0,false,false⟩,⟨[bigA false (Sp.sg false a.natAbs)],2,0,false,false⟩,⟨[bigA false (Sp.sg false b.natAbs)],2,0,false,false⟩]) (a:=[true,true,true,true]) (q:=[]) (cs:=[⟨true,false,81,[vb false,AV.vec fa 1 (us (Sp.Zau a))],[],bigA false (Sp.sg false a.natAbs),[]⟩,⟨true,false,81,[vb false,AV.vec fb 1 (us (Sp.Zau b))],[],bigA false (Sp.sg false b.natAbs),[]⟩]) (by kernel_rfl) (by kernel_rfl) (Zam rfl (Zam rfl (Zam rfl (Zam rfl ZaF)))) Za7 (Zcf (fun _=>(@ev81_a false fa a k1)) (Zcf (fun _=>(@ev81_a false fb b k2)) Za9)) ?_)
 exact Zac (G:=Zab Zg3 [] []) 1000 [] ⟨(atC (cd Try.f103) [1,1,0,0,0]),[(4,AV.ptr 2 0 0 0),(5,AV.ptr 3 0 0 0),(6,AV.ptr 4 0 0 0)],[⟨[bigA fa a],2,0,false,false⟩,⟨[bigA fb b],2,0,false,false⟩,⟨[ag [vb false,AV.vnil]],2,0,false,false⟩,⟨[bigA false (Sp.sg false a.natAbs)],2,0,false,false⟩,⟨[bigA false (Sp.sg false b.natAbs)],2,0,false,false⟩],_,[],_⟩ (by kernel_rfl) b0 q0 c0 (ZaV [2,3,4] (by kernel_rfl) H)
theorem vGCDH (x y:Int)  (dq:AV) (H :
  (((↑(Sp.Zau y).length:Int)>0)->(((Sp.isW x=true)/\(Sp.isW y=true))->Zeq (Sp.wrd x) (Sp.wrd y) (Zad dq)) /\
   (¬((Sp.isW x=true)/\(Sp.isW y=true))->(Sp.okB x/\Sp.okB y/\y ≠ 0) /\
    (Sp.Zay (Sp.drn x.natAbs y.natAbs)/\Sp.fits (Sp.drn x.natAbs y.natAbs) (x.natAbs % y.natAbs)) /\
    Zc7 y (Sp.sg false (x.natAbs % y.natAbs)) (Zad dq))) /\
  (¬((↑(Sp.Zau y).length:Int)>0)->False)) :
 Zc7 x y (Zad dq):=by
 unfold Zc7
 have w1:(us (Sp.Zau y)).length=(Sp.Zau y).length:=List.length_map ..
 have i2:(decide ((↑(us (Sp.Zau y)).length:Int)>0))=true ↔ ((↑(Sp.Zau y).length:Int)>0):=(by (try rw [w1]);all_goals exact Zaa)
 rcases xq H with ⟨d3,H⟩|⟨d3,H⟩
 ·refine Zac (G:=Zab Zg3 [(3,1,.call (tu [vw (Sp.wrd x),vb (Sp.isW x)]) none),(4,1,.call (tu [vw (Sp.wrd y),vb (Sp.isW y)]) none)] []) 13 [true] ⟨(atC (cd Try.f103) [1,1,0,0,0,1,0,1,1,0,1]),[(4,AV.ptr 0 0 0 0),(5,AV.ptr 1 0 0 0),(6,AV.ptr 2 0 0 0),(7,vw (Sp.wrd x)),(9,vw (Sp.wrd y)),(36,vb (bif Sp.isW x then Sp.isW y else false))],[⟨[ag [vb false,AV.vnil]],2,0,false,false⟩,⟨[bigA false x],2,0,false,false⟩,⟨[bigA false y],2,0,false,false⟩],_,[],_⟩ (by kernel_rfl) (bc rfl (bc (Zak (i2.2 d3)) (bc rfl (bc rfl b0)))) q0 (ce (@ev117 false x) (ce (@ev117 false y) c0)) ?_
  rcases xq H with ⟨d5,H⟩|⟨d5,H⟩
  ·exact Zac (G:=Zab Zg3 [] []) 1000 [true] ⟨(atC (cd Try.f103) [1,1,0,0,0,1,0,1,1,0,1,0,0,0,0]),[(4,AV.ptr 0 0 0 0),(5,AV.ptr 1 0 0 0),(6,AV.ptr 2 0 0 0),(7,vw (Sp.wrd x)),(9,vw (Sp.wrd y)),(36,vb (bif Sp.isW x then Sp.isW y else false))],[⟨[ag [vb false,AV.vnil]],2,0,false,false⟩,⟨[bigA false x],2,0,false,false⟩,⟨[bigA false y],2,0,false,false⟩],[(bif Sp.isW x then Sp.isW y else false)==true],[],_⟩ (by kernel_rfl) (bc (Zak ((Zck (ZbE _) (ZbE _)).2 d5)) b0) q0 c0 (Wp.less [4,7,9] (ZaV [0] (by kernel_rfl) H))
  ·obtain ⟨k6,k7,H⟩:=H
   exact Zac (G:=Zab Zg3 [(9,4,.call (tu [vf (us (Sp.Zaq (Sp.dqn x.natAbs y.natAbs) (x.natAbs / y.natAbs))),vf (us (Sp.Zaq (Sp.drn x.natAbs y.natAbs) (x.natAbs % y.natAbs)))]) none),(10,2,.call (bigA false (Sp.sg false (x.natAbs % y.natAbs))) none)] []) 1000 [false] ⟨(atC (cd Try.f103) [1,1,0,0,0]),[(4,AV.ptr 0 0 0 0),(5,AV.ptr 1 0 0 0),(6,AV.ptr 2 0 0 0)],[⟨[ag [vb false,AV.vnil]],2,0,false,false⟩,⟨[bigA false y],2,0,false,false⟩,⟨[bigA false (Sp.sg false (x.natAbs % y.natAbs))],2,0,false,false⟩],[(bif Sp.isW x then Sp.isW y else false)==false,true,true,true,true,true],[],_⟩ (by kernel_rfl) (bc (Zah (fun h=>d5 ((Zck (ZbE _) (ZbE _)).1 h))) (bc rfl (bc rfl (bc rfl (bc rfl (bc rfl b0)))))) q0 (ce (@ev107 false false x y k6) (ce (@ev81 false false (Sp.drn x.natAbs y.natAbs) (x.natAbs % y.natAbs) k7) c0)) H
 ·exact False.elim H
theorem vGCDE (s:Bool) (c:Int) (l:List Int)  (dq:AV) (H :
  ∃ (b1:Bool) (l1:List Int),
  (Ev M1 (Conf.pure 81 [vb false,vf (vu c::us l)]) (ag [vb b1,vf (us l1)]) []) /\
  ((l.length+1)*4<=1099511627776) /\
  Weak (ag [vb b1,vf (us l1)]) dq) :
 Zfz s c l (Zad dq):=by
 unfold Zfz
 obtain ⟨b1,l1,k1,H⟩:=H
 have w2:(us l).length=l.length:=List.length_map ..
 have i3:(decide (((us l).length+1)*4<=1099511627776))=true ↔ ((l.length+1)*4<=1099511627776):=(by (try rw [w2]);all_goals exact Zaa)
 obtain ⟨k4,H⟩:=H
 exact Zai (G:=Zab Zg3 [(11,3,.call (ag [vb b1,vf (us l1)]) none)] []) 1000 [false] (ag [vb b1,vf (us l1)]) (by kernel_rfl) (bc rfl (bc rfl (bc rfl (bc (i3.2 k4) (bc rfl (bc rfl b0)))))) q0 (ce k1 c0) H
theorem vGCDZ (s:Bool)  (dq:AV) (H :
  ∃ (b1:Bool) (l1:List Int),
  (Ev M1 (Conf.pure 81 [vb false,AV.vnil]) (ag [vb b1,vf (us l1)]) []) /\
  Weak (ag [vb b1,vf (us l1)]) dq) :
 vGCDZ_at s (Zad dq):=by
 unfold vGCDZ_at
 obtain ⟨b1,l1,k1,H⟩:=H
 exact Zai (G:=Zab Zg3 [(11,3,.call (ag [vb b1,vf (us l1)]) none)] []) 1000 [false] (ag [vb b1,vf (us l1)]) (by kernel_rfl) (bc rfl (bc rfl (bc rfl (bc rfl b0)))) q0 (ce k1 c0) H
theorem vGCDW (u v:Int)  (dq:AV) (H :
  ((v>0)->(¬v=0) /\
   Zeq v (u.tmod v) (Zad dq)) /\
  (¬(v>0)->(0<=u/\u<=18446744073709551615) /\
   (Sp.Zay 3/\Sp.fits 3 u.toNat) /\
   Weak (bigA false (Sp.sg false u.toNat)) dq)) :
 Zeq u v (Zad dq):=by
 unfold Zeq
 rcases xq H with ⟨d2,H⟩|⟨d2,H⟩
 ·obtain ⟨k4,H⟩:=H
  exact Zac (G:=Zab Zg3 [] []) 1000 [true] ⟨(atC (cd Try.f103) [1,1,0,0,0,1,0,1,1,0,1,0,0,0,0]),[(4,AV.ptr 0 0 0 0),(7,vw v),(9,vw (u.tmod v))],[⟨[ag [vb false,AV.vnil]],2,0,false,false⟩],_,[],_⟩ (by kernel_rfl) (bc (Zak (Zaa.2 d2)) (bc (Zds.2 k4) b0)) q0 c0 H
 ·obtain ⟨k5,k6,H⟩:=H
  exact Zai (G:=Zab Zg3 [(8,1,.call (vf (us (Sp.Zaq 3 u.toNat))) none),(8,2,.call (bigA false (Sp.sg false u.toNat)) none)] []) 1000 [false] (bigA false (Sp.sg false u.toNat)) (by kernel_rfl) (bc (Zah (fun h=>d2 (Zaa.1 h))) (bc rfl b0)) q0 (ce (@ev84 u k5) (ce (@ev81 false false 3 (u.toNat) k6) c0)) H
end Go.Av

namespace Go.Av
open Go.Proofs
theorem Zb1 (v:Nat):Sp.sg false v=(v:Int):=by simp [Sp.sg]
theorem ZcU (s:Bool) (v:Nat):(Sp.sg s v).natAbs=v:=by
 unfold Sp.sg
 split <;> omega
theorem Zbq {v:Int} (h:¬v<0):Sp.Zaf v=false:=Bool.eq_false_iff.2 (fun x=>h (Zan.1 x))
theorem sg_div {a b:Int} (_hb:b ≠ 0):a=b*Sp.sg (!(Sp.Zaf a==Sp.Zaf b)) (a.natAbs / b.natAbs)+Sp.sg (Sp.Zaf a) (a.natAbs % b.natAbs):=by
 have h:=Nat.div_add_mod a.natAbs b.natAbs
 generalize a.natAbs / b.natAbs=q at *
 generalize a.natAbs % b.natAbs=r at *
 have hz:(b.natAbs:Int)*(q:Int)+(r:Int)=(a.natAbs:Int):=by exact_mod_cast h
 by_cases ka:a<0 <;> by_cases kb:b<0
 ·rw [Zan.2 ka,Zan.2 kb]
  have e1:(a.natAbs:Int) = -a:=by omega
  have e2:(b.natAbs:Int) = -b:=by omega
  rw [e1,e2] at hz
  simp [Sp.sg];grind
 ·rw [Zan.2 ka,Zbq kb]
  have e1:(a.natAbs:Int) = -a:=by omega
  have e2:(b.natAbs:Int)=b:=by omega
  rw [e1,e2] at hz
  simp [Sp.sg];grind
 ·rw [Zbq ka,Zan.2 kb]
  have e1:(a.natAbs:Int)=a:=by omega
  have e2:(b.natAbs:Int) = -b:=by omega
  rw [e1,e2] at hz
  simp [Sp.sg];grind
 ·rw [Zbq ka,Zbq kb]
  have e1:(a.natAbs:Int)=a:=by omega
  have e2:(b.natAbs:Int)=b:=by omega
  rw [e1,e2] at hz
  simp [Sp.sg];grind
theorem ev82 (fa fb:Bool) (a b:Int) (h:Sp.okB a/\Sp.okB b/\b ≠ 0):Ev M1 (.pure 82 [bigA fa a,bigA fb b]) (.tup [bigA false (Sp.flo a b),bigA false (Sp.flr a b),.int .i64 0]) []:=by
 obtain ⟨ha,hb,h0⟩:=h
 have hl:=Zbp b
 have hd0:b.natAbs ≠ 0:=by omega
 obtain ⟨d1,d2,d3,d4⟩:=dqn_fits hd0 ⟨ha,hb⟩
 have hm:=Nat.mod_lt a.natAbs (Nat.pos_of_ne_zero hd0)
 have heq:=sg_div (a:=a) h0
 have okr:Sp.okB (Sp.sg (Sp.Zaf a) (a.natAbs % b.natAbs)):=by
  unfold Sp.okB
  rw [ZcU]
  have:=ZaQ (Nat.le_of_lt hm)
  unfold Sp.okB at hb;omega
 have okq:Sp.okB (Sp.sg (!(Sp.Zaf a==Sp.Zaf b)) (a.natAbs / b.natAbs)):=by
  unfold Sp.okB
  rw [ZcU]
  have:=ZaQ (Nat.div_le_self a.natAbs b.natAbs)
  unfold Sp.okB at ha;omega
 have hra:(Sp.sg (Sp.Zaf a) (a.natAbs % b.natAbs)).natAbs=a.natAbs % b.natAbs:=ZcU _ _
 have hlr:=Zbp (Sp.sg (Sp.Zaf a) (a.natAbs % b.natAbs))
 refine call82 (vDivMod _ _ _ _ _ ⟨fun h => ?_,fun _=>⟨⟨ha,hb,h0⟩,⟨d2,d1⟩,⟨d4,d3⟩,fun k=>⟨by unfold Sp.inI;omega,okq,⟨okr,hb⟩,?_⟩,fun k => ?_⟩⟩)
 ·have:=ZaC (v:=b.natAbs)
  omega
 ·obtain ⟨k1,k2⟩:=k
  have hne:Sp.sg (Sp.Zaf a) (a.natAbs % b.natAbs) ≠ 0:=by
   intro e
   rw [e] at hlr
   have:Sp.cnt (Int.natAbs 0)=0:=Zbw
   rw [e] at k1
   omega
  generalize Sp.sg (Sp.Zaf a) (a.natAbs % b.natAbs)=r at *
  generalize Sp.sg (!(Sp.Zaf a==Sp.Zaf b)) (a.natAbs / b.natAbs)=q at *
  have hs:(r<0/\0<b)\/(0<r/\b<0):=by
   by_cases kr:r<0
   ·by_cases kb:b<0
    ·exact absurd (by rw [Zan.2 kr,Zan.2 kb]) k2
    ·exact .inl ⟨kr,by omega⟩
   ·by_cases kb:b<0
    ·exact .inr ⟨by omega,kb⟩
    ·exact absurd (by rw [Zbq kr,Zbq kb]) k2
  obtain ⟨e1,e2⟩:=Zd4 (a:=a) (b:=b) (q:=q-1) (r:=r+b) (by grind) (by omega)
  rw [e1,e2]
  exact .refl _
 ·generalize hr:Sp.sg (Sp.Zaf a) (a.natAbs % b.natAbs)=r at *
  generalize Sp.sg (!(Sp.Zaf a==Sp.Zaf b)) (a.natAbs / b.natAbs)=q at *
  have hs:r=0\/(r<0/\b<0)\/(0<r/\0<b):=by
   by_cases hz:r=0
   ·exact .inl hz
   ·right
    have hc:Sp.cnt r.natAbs ≠ 0:=fun e=>hz (by have:=ZaC.1 e;omega)
    have k:Sp.Zaf r=Sp.Zaf b:=Classical.byContradiction fun k2=>k ⟨by omega,k2⟩
    by_cases kr:r<0
    ·exact .inl ⟨kr,Zan.1 (k ▸ Zan.2 kr)⟩
    ·have:¬b<0:=fun x=>kr (Zan.1 (by rw [k];exact Zan.2 x))
     exact .inr ⟨by omega,by omega⟩
  obtain ⟨e1,e2⟩:=Zd4 (a:=a) (b:=b) (q:=q) (r:=r) heq (by omega)
  rw [e1,e2]
  exact .refl _
theorem gcdW (n:Nat):∀ u v:Nat,v<=n->u<=18446744073709551615->v<=18446744073709551615->Zeq u v (Zad (bigA false (Nat.gcd u v:Nat))):=by
 induction n with
 | zero =>
  intro u v hv hu hv2
  have:v=0:=by omega
  subst this
  refine vGCDW _ _ _ ⟨fun h=>by omega,fun _=>⟨by omega,⟨by unfold Sp.Zay;omega,fits3 (by omega)⟩,?_⟩⟩
  rw [Int.toNat_natCast,Zb1,Nat.gcd_zero_right];exact .refl _
 | succ n ih =>
  intro u v hv hu hv2
  refine vGCDW _ _ _ ⟨fun h=>⟨by omega,?_⟩,fun h=>⟨by omega,⟨by unfold Sp.Zay;omega,fits3 (by omega)⟩,?_⟩⟩
  ·rw [<- Int.ofNat_tmod]
   have hlt:=Nat.mod_lt u (show 0<v by omega)
   have:=ih v (u % v) (by omega) hv2 (by omega)
   rwa [show Nat.gcd v (u % v)=Nat.gcd u v by rw [Nat.gcd_comm u v,Nat.gcd_rec v u,Nat.gcd_comm]] at this
  ·have:v=0:=by omega
   subst this
   rw [Int.toNat_natCast,Zb1,Nat.gcd_zero_right];exact .refl _
theorem gcdH (n:Nat):∀ x y:Nat,y<=n->Sp.cnt x<=400000->Sp.cnt y<=400000->Zc7 x y (Zad (bigA false (Nat.gcd x y:Nat))):=by
 have base:∀ x:Nat,Sp.cnt x<=400000->Zc7 x (0:Nat) (Zad (bigA false (Nat.gcd x 0:Nat))):=by
  intro x hx
  rw [Nat.gcd_zero_right]
  have e1:Sp.Zau ((0:Nat):Int)=[]:=Zco
  have e2:Sp.Zaf ((0:Nat):Int)=false:=rfl
  unfold Zc7
  rw [e1,e2]
  by_cases h0:x=0
  ·subst h0
   rw [e1,e2]
   refine vGCDZ false _ ⟨false,[],?_,by show Weak _ (AV.agg [.bool (Sp.Zaf ((0:Nat):Int)),.vec false 1 ((Sp.Zau ((0:Nat):Int)).map (.int .u32))]);rw [e1,e2];exact .refl _⟩
   exact call81 (vSigned0 false _ (vSigned0A false _ (weak_bnil false)))
  ·have hll:=Zbp (x:Int)
   have hne:Sp.Zau (x:Int) ≠ []:=by
    intro e
    rw [e] at hll
    exact h0 (ZaC.1 hll.symm)
   obtain ⟨c,l,hl⟩:=List.exists_cons_of_ne_nil hne
   have es:=ev81_a false false (x:Int) (by unfold Sp.ok;rw [Int.natAbs_natCast];omega)
   rw [Int.natAbs_natCast,Zb1] at es
   have es2:Ev M1 (.pure 81 [.bool false,.vec false 1 ((Sp.Zau (x:Int)).map (.int .u32))]) (.agg [.bool (Sp.Zaf (x:Int)),.vec false 1 ((Sp.Zau (x:Int)).map (.int .u32))]) []:=es
   rw [hl] at es2 hll
   rw [Int.natAbs_natCast] at hll
   simp only [List.length_cons] at hll
   have key:∀ d,bigA false (x:Int)=d->Zfz (Sp.Zaf (x:Int)) c l (Zad d):=by
    intro d hd
    refine vGCDE _ c l _ ⟨Sp.Zaf (x:Int),c::l,es2,by omega,?_⟩
    rw [<- hd]
    show Weak _ (AV.agg [.bool (Sp.Zaf (x:Int)),.vec false 1 ((Sp.Zau (x:Int)).map (.int .u32))])
    rw [hl];exact .refl _
   have k:=key _ rfl
   unfold Zfz at k
   rw [<- hl] at k
   exact k
 induction n with
 | zero =>
  intro x y hy hx hcy
  have:y=0:=by omega
  subst this
  exact base x hx
 | succ n ih =>
  intro x y hy hx hcy
  by_cases h0:y=0
  ·subst h0;exact base x hx
  ·have hyl:=Zbp (y:Int)
   have hc:=ZaC (v:=y)
   rw [Int.natAbs_natCast] at hyl
   refine vGCDH _ _ _ ⟨fun _=>⟨fun h => ?_,fun h=>⟨⟨by unfold Sp.okB;rw [Int.natAbs_natCast];exact hx,by unfold Sp.okB;rw [Int.natAbs_natCast];exact hcy,by omega⟩,?_,?_⟩⟩,fun h => ?_⟩
   ·obtain ⟨k1,k2⟩:=h
    unfold Sp.isW at k1 k2
    rw [Int.natAbs_natCast,decide_eq_true_eq] at k1 k2
    have w1:Sp.wrd (x:Int)=(x:Int):=by unfold Sp.wrd;rw [Int.natAbs_natCast,if_pos k1]
    have w2:Sp.wrd (y:Int)=(y:Int):=by unfold Sp.wrd;rw [Int.natAbs_natCast,if_pos k2]
    rw [w1,w2]
    have f:=ZaW (Zag x) k1
    have:x<1000000000000000000:=by unfold Sp.fits at f;simpa using f
    have f':=ZaW (Zag y) k2
    have:y<1000000000000000000:=by unfold Sp.fits at f';simpa using f'
    exact gcdW y x y (Nat.le_refl _) (by omega) (by omega)
   ·rw [Int.natAbs_natCast,Int.natAbs_natCast]
    obtain ⟨d1,d2,d3,d4⟩:=dqn_fits h0 ⟨hx,hcy⟩
    exact ⟨d4,d3⟩
   ·rw [Int.natAbs_natCast,Int.natAbs_natCast,Zb1]
    have hlt:=Nat.mod_lt x (show 0<y by omega)
    have hm:=ZaQ (Nat.le_of_lt hlt)
    have:=ih y (x % y) (by omega) hcy (by omega)
    rwa [show Nat.gcd y (x % y)=Nat.gcd x y by rw [Nat.gcd_comm x y,Nat.gcd_rec y x,Nat.gcd_comm]] at this
   ·omega
theorem ev103 (fa fb:Bool) (a b:Int) (h:Sp.okB a/\Sp.okB b):Ev M1 (.pure 103 [bigA fa a,bigA fb b]) (bigA false (Int.gcd a b:Nat)) []:=by
 refine call103 (vGCD _ _ _ _ _ ⟨ZcM h.1,ZcM h.2,?_⟩)
 rw [Zb1,Zb1]
 exact gcdH b.natAbs a.natAbs b.natAbs (Nat.le_refl _) h.1 h.2
end Go.Av

namespace Go.Av
open Go.Proofs
end Go.Av

namespace Go.Av
open Go.Proofs
set_option maxRecDepth 100000
end Go.Av

namespace Go.Av
open Go.Proofs
namespace Sp
def val (s:Bool) (a:List Int):Bool:=a.all (fun x=>decide (x<1000000000))&&bif decide (0<a.length) then a.getD (a.length-1) default != 0 else !s
end Sp
end Go.Av

namespace Go.Av
open Go.Proofs
set_option maxRecDepth 100000
def fi65:Fi:=⟨9,[.tmp 2]⟩
def kp65:List (Nat × List Nat):=[(0,[1]),(1,[1,6]),(2,[2]),(3,[8]),(4,[2]),(5,[2])]
def fi86:Fi:=⟨21,[.tmp 2]⟩
def kp86:List (Nat × List Nat):=[(0,[0]),(1,[0,3]),(2,[0,3,4]),(3,[0,3,4,9]),(4,[0,3,4]),(5,[0,3,4]),(6,[2])]
def fi90:Fi:=⟨15,[.tmp 2]⟩
def kp90:List (Nat × List Nat):=[(0,[0]),(1,[0,3]),(2,[0,3,5]),(3,[0,3]),(4,[0,3]),(5,[2])]
def fi91:Fi:=⟨41,[.tmp 4]⟩
def kp91:List (Nat × List Nat):=[(0,[0,1]),(1,[0,1,10]),(2,[15]),(3,[4]),(4,[4]),(5,[0,1,5]),(6,[0,1,5,20]),(7,[0,1,5]),(8,[0,1,5,31]),(9,[4]),(10,[0,1,5,40]),(11,[4]),(12,[4])]
def fi99:Fi:=⟨21,[.tmp 2]⟩
def kp99:List (Nat × List Nat):=[(0,[0]),(1,[0,14]),(2,[0]),(3,[2])]
def rTrim_at (fa:Bool) (a:List Int) (Q:AV->Heap->Prop):Prop:=Wp M1 (.run fi99 (atC (cd Try.f99) []) [(0,.vec fa 1 (a.map (.int .u32)))] []) Q
def ZdD (fa:Bool) (a:List Int) (Q:AV->Heap->Prop):Prop:=Wp M1 (.run fi99 (atC (cd Try.f99) [1,0,0,0]) [(0,.vec fa 1 (a.map (.int .u32)))] []) Q
def rLimbs_at (u:Int) (Q:AV->Heap->Prop):Prop:=Wp M1 (.run fi90 (atC (cd Try.f90) []) [(0,.int .u64 u)] []) Q
def ZeW (u:Int) (Q:AV->Heap->Prop):Prop:=Wp M1 (.run fi90 (atC (cd Try.f90) [1,1,0,0,0]) [(0,.int .u64 u),(3,.vnil)] []) Q
def Zc0 (u:Int) (o:List Int) (v:Nat) (Q:AV->Heap->Prop):Prop:=Wp M1 (.run fi90 (atC (cd Try.f90) [1,1,0,0,0]) [(0,.int .u64 u),(3,.row 0 v)] [⟨o.map (.int .u32),1,v,false,true⟩]) Q
def rShort_at (fa:Bool) (a:List Int) (Q:AV->Heap->Prop):Prop:=Wp M1 (.run fi86 (atC (cd Try.f86) []) [(0,.vec fa 1 (a.map (.int .u32)))] []) Q
def ZcY (fa:Bool) (a:List Int) (n i:Int) (Q:AV->Heap->Prop):Prop:=Wp M1 (.run fi86 (atC (cd Try.f86) [1,1,0,1,0,0]) [(0,.vec fa 1 (a.map (.int .u32))),(3,.int .u64 n),(4,.int .i64 i)] []) Q
def Zgf (fa fb:Bool) (a b:List Int) (Q:AV->Heap->Prop):Prop:=Wp M1 (.run fi91 (atC (cd Try.f91) []) [(0,.vec fa 1 (a.map (.int .u32))),(1,.vec fb 1 (b.map (.int .u32)))] []) Q
def Zb9 (fa fb:Bool) (a b:List Int) (i:Int) (Q:AV->Heap->Prop):Prop:=Wp M1 (.run fi91 (atC (cd Try.f91) [1,1,0,1,0,0]) [(0,.vec fa 1 (a.map (.int .u32))),(1,.vec fb 1 (b.map (.int .u32))),(5,.int .i64 i)] []) Q
def rSign_at (fa:Bool) (v:Int) (Q:AV->Heap->Prop):Prop:=Wp M1 (.run fi65 (atC (cd Try.f65) []) [(0,bigA fa v)] []) Q
theorem call65 {args:List AV} {d:AV} (h:wc M1 fi65 Try.f65 args d):Ev M1 (.pure 65 args) d []:=pcl _ _ (by kernel_rfl) h
theorem call86 {args:List AV} {d:AV} (h:wc M1 fi86 Try.f86 args d):Ev M1 (.pure 86 args) d []:=pcl _ _ (by kernel_rfl) h
theorem call90 {args:List AV} {d:AV} (h:wc M1 fi90 Try.f90 args d):Ev M1 (.pure 90 args) d []:=pcl _ _ (by kernel_rfl) h
theorem call91 {args:List AV} {d:AV} (h:wc M1 fi91 Try.f91 args d):Ev M1 (.pure 91 args) d []:=pcl _ _ (by kernel_rfl) h
theorem call99 {args:List AV} {d:AV} (h:wc M1 fi99 Try.f99 args d):Ev M1 (.pure 99 args) d []:=pcl _ _ (by kernel_rfl) h
theorem rTrim (fa:Bool) (a:List Int)  (dq:AV) (H :
  ZdD fa a (Zad dq)) :
 rTrim_at fa a (Zad dq):=by
 unfold rTrim_at
 exact Zac (G:=Zab kp99 [] []) 1000 [] ⟨(atC (cd Try.f99) [1,0,0,0]),[(0,AV.vec fa 1 (us a))],[],_,[],_⟩ (by kernel_rfl) b0 q0 c0 H
theorem rTrimA (fa:Bool) (a:List Int)  (dq:AV) (H :
  (-9223372036854775808<=(↑a.length:Int)-1/\(↑a.length:Int)-1<=9223372036854775807) /\
  (((↑a.length:Int)>0)->(0<=(↑a.length:Int)-1)) /\
  (((↑a.length:Int)>0)->(((↑a.length:Int)-1).toNat<a.length)) /\
  ((((↑a.length:Int)>0)/\(a.getD ((↑a.length:Int)-1).toNat default=0))->(0<=(↑a.length:Int)-1) /\
   (0<=((↑a.length:Int)-1).toNat) /\
   (((↑a.length:Int)-1).toNat<=a.length) /\
   ZdD (fa&&false) (List.drop 0 (List.take ((↑a.length:Int)-1).toNat a)) (Zad dq)) /\
  (¬(((↑a.length:Int)>0)/\(a.getD ((↑a.length:Int)-1).toNat default=0))->Weak (AV.vec fa 1 (us a)) dq)) :
 ZdD fa a (Zad dq):=by
 unfold ZdD
 have w1:(us a).length=a.length:=List.length_map ..
 obtain ⟨k2,H⟩:=H
 have w3:wi ((↑a.length:Int)-1)=(↑a.length:Int)-1:=wI64 k2
 have i4:(!(decide ((↑(us a).length:Int)>0)==true&&true)||decide (0<=wi ((↑(us a).length:Int)-1)))=true ↔ (((↑a.length:Int)>0)->(0<=(↑a.length:Int)-1)):=(by (try rw [w1]);(try rw [w3]);all_goals exact (Zdt (i_at (i_bt Zaa)) Zaa))
 obtain ⟨k5,H⟩:=H
 have i6:(!(decide ((↑(us a).length:Int)>0)==true&&true)||decide ((wi ((↑(us a).length:Int)-1)).toNat<(us a).length))=true ↔ (((↑a.length:Int)>0)->(((↑a.length:Int)-1).toNat<a.length)):=(by (try rw [w1]);(try rw [w3]);all_goals exact (Zdt (i_at (i_bt Zaa)) Zaa))
 obtain ⟨k7,H⟩:=H
 have i9:(bif decide ((↑(us a).length:Int)>0) then a.getD ((↑a.length:Int)-1).toNat default==0 else false)=true ↔ (((↑a.length:Int)>0)/\(a.getD ((↑a.length:Int)-1).toNat default=0)):=(by (try rw [w1]);all_goals exact (Zck Zaa i_eq))
 refine Zac (G:=Zab kp99 [(1,9,.elem (vu (a.getD ((↑a.length:Int)-1).toNat default)))] []) 3 [] ⟨(atC (cd Try.f99) [1,0,0,0,0,1]),[(0,AV.vec fa 1 (us a)),(14,vb (bif decide ((↑(us a).length:Int)>0) then a.getD ((↑a.length:Int)-1).toNat default==0 else false))],[],_,[((decide ((↑(us a).length:Int)>0)==true&&true)=true->(us a).get?Internal (wi ((↑(us a).length:Int)-1)).toNat=some (vu (a.getD ((↑a.length:Int)-1).toNat default)))],_⟩ (by kernel_rfl) (bc (i4.2 k5) (bc (i6.2 k7) b0)) (qc (by (try rw [w1]);(try rw [w3]);all_goals exact (fun h=>Zap (k7 ((i_at (i_bt Zaa)).1 h)))) q0) c0 ?_
 rcases xq H with ⟨d10,H⟩|⟨d10,H⟩
 ·have i11:(decide (0<=wi ((↑(us a).length:Int)-1)))=true ↔ (0<=(↑a.length:Int)-1):=(by (try rw [w1]);(try rw [w3]);all_goals exact Zaa)
  obtain ⟨k12,H⟩:=H
  have i13:(decide (0<=(wi ((↑(us a).length:Int)-1)).toNat))=true ↔ (0<=((↑a.length:Int)-1).toNat):=(by (try rw [w1]);(try rw [w3]);all_goals exact Zaa)
  obtain ⟨k14,H⟩:=H
  have i15:(decide ((wi ((↑(us a).length:Int)-1)).toNat<=(us a).length))=true ↔ (((↑a.length:Int)-1).toNat<=a.length):=(by (try rw [w1]);(try rw [w3]);all_goals exact Zaa)
  obtain ⟨k16,H⟩:=H
  have w17:List.take ((↑a.length:Int)-1).toNat (us a)=us (List.take ((↑a.length:Int)-1).toNat a):=(Ze6 rfl)
  have w18:List.drop 0 (us (List.take ((↑a.length:Int)-1).toNat a))=us (List.drop 0 (List.take ((↑a.length:Int)-1).toNat a)):=(Ze7 rfl)
  exact Zac (G:=Zab kp99 [] []) 1000 [true] ⟨(atC (cd Try.f99) [1,0,0,0]),[(0,AV.vec (fa&&false) 1 (List.drop 0 (List.take (wi ((↑(us a).length:Int)-1)).toNat (us a))))],[],_,[],_⟩ (by kernel_rfl) (bc (Zak (i9.2 d10)) (bc (i11.2 k12) (bc (i13.2 k14) (bc (i15.2 k16) b0)))) q0 c0 (by (try rw [w1]);(try rw [w3]);(try rw [w17]);(try rw [w18]);all_goals exact H)
 ·exact Zai (G:=Zab kp99 [] []) 1000 [false] (AV.vec fa 1 (us a)) (by kernel_rfl) (bc (Zah (fun h=>d10 (i9.1 h))) b0) q0 c0 H
theorem rLimbs (u:Int)  (dq:AV) (H :
  ZeW u (Zad dq)) :
 rLimbs_at u (Zad dq):=by
 unfold rLimbs_at
 exact Zac (G:=Zab kp90 [] []) 1000 [] ⟨(atC (cd Try.f90) [1,1,0,0,0]),[(0,vw u),(3,AV.vnil)],[],_,[],_⟩ (by kernel_rfl) b0 q0 c0 H
theorem rLimbs0 (u:Int)  (dq:AV) (H :
  ((u>0)->(0<=u.tmod 1000000000/\u.tmod 1000000000<=4294967295) /\
   (0<=u.tdiv 1000000000/\u.tdiv 1000000000<=18446744073709551615) /\
   Zc0 (u.tdiv 1000000000) ([u.tmod 1000000000]) 0 (Zad dq)) /\
  (¬(u>0)->Weak (AV.vnil) dq)) :
 ZeW u (Zad dq):=by
 unfold ZeW
 rcases xq H with ⟨d2,H⟩|⟨d2,H⟩
 ·obtain ⟨k3,H⟩:=H
  have w4:wv (u.tmod 1000000000)=u.tmod 1000000000:=wU32 k3
  obtain ⟨k5,H⟩:=H
  have w6:wu (u.tdiv 1000000000)=u.tdiv 1000000000:=wU64 k5
  have w7:[vu (u.tmod 1000000000)]=us [u.tmod 1000000000]:=rfl
  exact Zac (G:=Zab kp90 [] []) 1000 [true] ⟨(atC (cd Try.f90) [1,1,0,0,0]),[(0,vw (wu (u.tdiv 1000000000))),(3,AV.row 0 0)],[⟨[vu (wv (u.tmod 1000000000))],1,0,false,true⟩],_,[],_⟩ (by kernel_rfl) (bc (Zak (Zaa.2 d2)) (bc rfl (bc rfl (bc rfl b0)))) q0 c0 (by (try rw [w4]);(try rw [w6]);(try rw [w7]);all_goals exact H)
 ·exact Zai (G:=Zab kp90 [] []) 1000 [false] (AV.vnil) (by kernel_rfl) (bc (Zah (fun h=>d2 (Zaa.1 h))) b0) q0 c0 H
theorem rLimbsA (u:Int) (o:List Int) (v:Nat)  (dq:AV) (H :
  ((u>0)->(0<=u.tmod 1000000000/\u.tmod 1000000000<=4294967295) /\
   ((o.length+1)*4<=1099511627776) /\
   (0<=u.tdiv 1000000000/\u.tdiv 1000000000<=18446744073709551615) /\
   Zc0 (u.tdiv 1000000000) (o++[u.tmod 1000000000]) (v+1) (Zad dq)) /\
  (¬(u>0)->Weak (vf (us o)) dq)) :
 Zc0 u o v (Zad dq):=by
 unfold Zc0
 rcases xq H with ⟨d2,H⟩|⟨d2,H⟩
 ·have w3:(us o).length=o.length:=List.length_map ..
  obtain ⟨k4,H⟩:=H
  have w5:wv (u.tmod 1000000000)=u.tmod 1000000000:=wU32 k4
  have i6:(decide (((us o).length+1)*4<=1099511627776))=true ↔ ((o.length+1)*4<=1099511627776):=(by (try rw [w3]);(try rw [w5]);all_goals exact Zaa)
  obtain ⟨k7,H⟩:=H
  have w8:us o++[vu (u.tmod 1000000000)]=us (o++[u.tmod 1000000000]):=(Zfm rfl rfl)
  obtain ⟨k9,H⟩:=H
  have w10:wu (u.tdiv 1000000000)=u.tdiv 1000000000:=wU64 k9
  exact Zac (G:=Zab kp90 [] []) 1000 [true] ⟨(atC (cd Try.f90) [1,1,0,0,0]),[(0,vw (wu (u.tdiv 1000000000))),(3,AV.row 0 (v+1))],[⟨us o++[vu (wv (u.tmod 1000000000))],1,v+1,false,true⟩],[(decide (u>0))==true,true,v==v,decide (((us o).length+1)*4<=1099511627776),true],[],_⟩ (by kernel_rfl) (bc (Zak (Zaa.2 d2)) (bc rfl (bc (beq_self_eq_true _) (bc (i6.2 k7) (bc rfl b0))))) q0 c0 (by (try rw [w5]);(try rw [w8]);(try rw [w10]);all_goals exact H)
 ·exact Zbu (G:=Zab kp90 [] []) 1000 [false] (k:=((atC (cd Try.f90) [1,1,1,1])).tail) (env':=[(2,AV.row 0 v)]) (L':=[⟨us o,1,v,false,true⟩]) (asm:=[(decide (u>0))==false]) (eqs:=[]) (calls:=[]) (AV.row 0 v) (by kernel_rfl) (by kernel_rfl) (Zam (Zah (fun h=>d2 (Zaa.1 h))) ZaF) Za7 Za9 (ZdE (d:=(vf (us o))) (bs:=[v==v]) (by kernel_rfl) (by kernel_rfl) (Zam (beq_self_eq_true _) ZaF) (by kernel_rfl) H)
theorem rShort (fa:Bool) (a:List Int)  (dq:AV) (H :
  (-9223372036854775808<=(↑a.length:Int)-1/\(↑a.length:Int)-1<=9223372036854775807) /\
  ZcY fa a 0 ((↑a.length:Int)-1) (Zad dq)) :
 rShort_at fa a (Zad dq):=by
 unfold rShort_at
 have w1:(us a).length=a.length:=List.length_map ..
 obtain ⟨k2,H⟩:=H
 have w3:wi ((↑a.length:Int)-1)=(↑a.length:Int)-1:=wI64 k2
 exact Zac (G:=Zab kp86 [] []) 1000 [] ⟨(atC (cd Try.f86) [1,1,0,1,0,0]),[(0,AV.vec fa 1 (us a)),(3,vw 0),(4,vi (wi ((↑(us a).length:Int)-1)))],[],_,[],_⟩ (by kernel_rfl) b0 q0 c0 (by (try rw [w1]);(try rw [w3]);all_goals exact H)
theorem rShortA (fa:Bool) (a:List Int) (n i:Int)  (dq:AV) (H :
  ((i>=0)->(0<=i) /\
   (i.toNat<a.length) /\
   (0<=n*1000000000/\n*1000000000<=18446744073709551615) /\
   (0<=a.getD i.toNat default/\a.getD i.toNat default<=18446744073709551615) /\
   (0<=n*1000000000+a.getD i.toNat default/\n*1000000000+a.getD i.toNat default<=18446744073709551615) /\
   (-9223372036854775808<=i-1/\i-1<=9223372036854775807) /\
   ZcY fa a (n*1000000000+a.getD i.toNat default) (i-1) (Zad dq)) /\
  (¬(i>=0)->vw n=dq)) :
 ZcY fa a n i (Zad dq):=by
 unfold ZcY
 rcases xq H with ⟨d2,H⟩|⟨d2,H⟩
 ·obtain ⟨k4,H⟩:=H
  have w5:(us a).length=a.length:=List.length_map ..
  have i6:(decide (i.toNat<(us a).length))=true ↔ (i.toNat<a.length):=(by (try rw [w5]);all_goals exact Zaa)
  obtain ⟨k7,k8,H⟩:=H
  have w9:wu (n*1000000000)=n*1000000000:=wU64 k8
  obtain ⟨k10,H⟩:=H
  have w11:wu (a.getD i.toNat default)=a.getD i.toNat default:=wU64 k10
  obtain ⟨k12,H⟩:=H
  have w13:wu (n*1000000000+a.getD i.toNat default)=n*1000000000+a.getD i.toNat default:=wU64 k12
  obtain ⟨k14,H⟩:=H
  have w15:wi (i-1)=i-1:=wI64 k14
  exact Zac (G:=Zab kp86 [(5,5,.elem (vu (a.getD i.toNat default)))] []) 1000 [true] ⟨(atC (cd Try.f86) [1,1,0,1,0,0]),[(0,AV.vec fa 1 (us a)),(3,vw (wu (wu (n*1000000000)+wu (a.getD i.toNat default)))),(4,vi (wi (i-1)))],[],_,[((us a).get?Internal i.toNat=some (vu (a.getD i.toNat default)))],_⟩ (by kernel_rfl) (bc (Zak (Zaa.2 d2)) (bc (Zaa.2 k4) (bc (i6.2 k7) b0))) (qc (Zap k7) q0) c0 (by (try rw [w9]);(try rw [w11]);(try rw [w13]);(try rw [w15]);all_goals exact H)
 ·exact Zae (G:=Zab kp86 [] []) 1000 [false] (vw n) (by kernel_rfl) (bc (Zah (fun h=>d2 (Zaa.1 h))) b0) q0 c0 H
theorem rCompare (fa fb:Bool) (a b:List Int)  (dq:AV) (H :
  ((¬(↑a.length:Int)=(↑b.length:Int))->(((↑a.length:Int)<(↑b.length:Int))->vi (-1)=dq) /\
   (¬((↑a.length:Int)<(↑b.length:Int))->vi 1=dq)) /\
  (¬(¬(↑a.length:Int)=(↑b.length:Int))->(-9223372036854775808<=(↑a.length:Int)-1/\(↑a.length:Int)-1<=9223372036854775807) /\
   Zb9 fa fb a b ((↑a.length:Int)-1) (Zad dq))) :
 Zgf fa fb a b (Zad dq):=by
 unfold Zgf
 have w1:(us a).length=a.length:=List.length_map ..
 have w2:(us b).length=b.length:=List.length_map ..
 have i3:((↑(us a).length:Int) != (↑(us b).length:Int))=true ↔ (¬(↑a.length:Int)=(↑b.length:Int)):=(by (try rw [w1]);(try rw [w2]);all_goals exact i_ne)
 rcases xq H with ⟨d4,H⟩|⟨d4,H⟩
 ·have i5:(decide ((↑(us a).length:Int)<(↑(us b).length:Int)))=true ↔ ((↑a.length:Int)<(↑b.length:Int)):=(by (try rw [w1]);(try rw [w2]);all_goals exact Zaa)
  rcases xq H with ⟨d6,H⟩|⟨d6,H⟩
  ·exact Zae (G:=Zab kp91 [] []) 1000 [true,true] (vi (-1)) (by kernel_rfl) (bc (Zak (i3.2 d4)) (bc (Zak (i5.2 d6)) b0)) q0 c0 H
  ·exact Zae (G:=Zab kp91 [] []) 1000 [true,false] (vi 1) (by kernel_rfl) (bc (Zak (i3.2 d4)) (bc (Zah (fun h=>d6 (i5.1 h))) b0)) q0 c0 H
 ·obtain ⟨k7,H⟩:=H
  have w8:wi ((↑a.length:Int)-1)=(↑a.length:Int)-1:=wI64 k7
  exact Zac (G:=Zab kp91 [] []) 1000 [false] ⟨(atC (cd Try.f91) [1,1,0,1,0,0]),[(0,AV.vec fa 1 (us a)),(1,AV.vec fb 1 (us b)),(5,vi (wi ((↑(us a).length:Int)-1)))],[],_,[],_⟩ (by kernel_rfl) (bc (Zah (fun h=>d4 (i3.1 h))) b0) q0 c0 (by (try rw [w1]);(try rw [w8]);all_goals exact H)
theorem rCompareA (fa fb:Bool) (a b:List Int) (i:Int)  (dq:AV) (H :
  ((i>=0)->(0<=i) /\
   (i.toNat<a.length) /\
   (i.toNat<b.length) /\
   ((a.getD i.toNat default<b.getD i.toNat default)->vi (-1)=dq) /\
   (¬(a.getD i.toNat default<b.getD i.toNat default)->((a.getD i.toNat default>b.getD i.toNat default)->vi 1=dq) /\
    (¬(a.getD i.toNat default>b.getD i.toNat default)->(-9223372036854775808<=i-1/\i-1<=9223372036854775807) /\
     Zb9 fa fb a b (i-1) (Zad dq)))) /\
  (¬(i>=0)->vi 0=dq)) :
 Zb9 fa fb a b i (Zad dq):=by
 unfold Zb9
 rcases xq H with ⟨d2,H⟩|⟨d2,H⟩
 ·obtain ⟨k4,H⟩:=H
  have w5:(us a).length=a.length:=List.length_map ..
  have i6:(decide (i.toNat<(us a).length))=true ↔ (i.toNat<a.length):=(by (try rw [w5]);all_goals exact Zaa)
  obtain ⟨k7,H⟩:=H
  have w9:(us b).length=b.length:=List.length_map ..
  have i10:(decide (i.toNat<(us b).length))=true ↔ (i.toNat<b.length):=(by (try rw [w9]);all_goals exact Zaa)
  obtain ⟨k11,H⟩:=H
  refine Zac (G:=Zab kp91 [(8,3,.elem (vu (a.getD i.toNat default))),(8,7,.elem (vu (b.getD i.toNat default)))] []) 10 [true] ⟨(atC (cd Try.f91) [1,1,0,1,0,0,1,0,0,0,1]),[(0,AV.vec fa 1 (us a)),(1,AV.vec fb 1 (us b)),(5,vi i),(31,vb (decide (a.getD i.toNat default<b.getD i.toNat default)))],[],_,[((us a).get?Internal i.toNat=some (vu (a.getD i.toNat default))),((us b).get?Internal i.toNat=some (vu (b.getD i.toNat default)))],_⟩ (by kernel_rfl) (bc (Zak (Zaa.2 d2)) (bc (Zaa.2 k4) (bc (i6.2 k7) (bc (Zaa.2 k4) (bc (i10.2 k11) b0))))) (qc (Zap k7) (qc (Zap k11) q0)) c0 ?_
  rcases xq H with ⟨d13,H⟩|⟨d13,H⟩
  ·exact Zae (G:=Zab kp91 [] []) 1000 [true] (vi (-1)) (by kernel_rfl) (bc (Zak (Zaa.2 d13)) b0) q0 c0 H
  ·have i15:(decide (i.toNat<(us a).length))=true ↔ (i.toNat<a.length):=(by (try rw [w5]);all_goals exact Zaa)
   have i17:(decide (i.toNat<(us b).length))=true ↔ (i.toNat<b.length):=(by (try rw [w9]);all_goals exact Zaa)
   refine Zac (G:=Zab kp91 [(10,3,.elem (vu (a.getD i.toNat default))),(10,7,.elem (vu (b.getD i.toNat default)))] []) 4 [false] ⟨(atC (cd Try.f91) [1,1,0,1,0,0,1,0,0,1,1]),[(0,AV.vec fa 1 (us a)),(1,AV.vec fb 1 (us b)),(5,vi i),(40,vb (decide (a.getD i.toNat default>b.getD i.toNat default)))],[],_,[((us a).get?Internal i.toNat=some (vu (a.getD i.toNat default))),((us b).get?Internal i.toNat=some (vu (b.getD i.toNat default)))],_⟩ (by kernel_rfl) (bc (Zah (fun h=>d13 (Zaa.1 h))) (bc (Zaa.2 k4) (bc (i15.2 k7) (bc (Zaa.2 k4) (bc (i17.2 k11) b0))))) (qc (Zap k7) (qc (Zap k11) q0)) c0 ?_
   rcases xq H with ⟨d19,H⟩|⟨d19,H⟩
   ·exact Zae (G:=Zab kp91 [] []) 1000 [true] (vi 1) (by kernel_rfl) (bc (Zak (Zaa.2 d19)) b0) q0 c0 H
   ·obtain ⟨k20,H⟩:=H
    have w21:wi (i-1)=i-1:=wI64 k20
    exact Zac (G:=Zab kp91 [] []) 1000 [false] ⟨(atC (cd Try.f91) [1,1,0,1,0,0]),[(0,AV.vec fa 1 (us a)),(1,AV.vec fb 1 (us b)),(5,vi (wi (i-1)))],[],_,[],_⟩ (by kernel_rfl) (bc (Zah (fun h=>d19 (Zaa.1 h))) b0) q0 c0 (by (try rw [w21]);all_goals exact H)
 ·exact Zae (G:=Zab kp91 [] []) 1000 [false] (vi 0) (by kernel_rfl) (bc (Zah (fun h=>d2 (Zaa.1 h))) b0) q0 c0 H
theorem rSign (fa:Bool) (v:Int)  (dq:AV) (H :
  (((↑(Sp.Zau v).length:Int)=0)->vi 0=dq) /\
  (¬((↑(Sp.Zau v).length:Int)=0)->((Sp.Zaf v=true)->vi (-1)=dq) /\
   (¬(Sp.Zaf v=true)->vi 1=dq))) :
 rSign_at fa v (Zad dq):=by
 unfold rSign_at
 have w1:(us (Sp.Zau v)).length=(Sp.Zau v).length:=List.length_map ..
 have i2:((↑(us (Sp.Zau v)).length:Int)==0)=true ↔ ((↑(Sp.Zau v).length:Int)=0):=(by (try rw [w1]);all_goals exact i_eq)
 rcases xq H with ⟨d3,H⟩|⟨d3,H⟩
 ·exact Zae (G:=Zab kp65 [] []) 1000 [true] (vi 0) (by kernel_rfl) (bc rfl (bc (Zak (i2.2 d3)) b0)) q0 c0 H
 ·rcases xq H with ⟨d5,H⟩|⟨d5,H⟩
  ·exact Zae (G:=Zab kp65 [] []) 1000 [false,true] (asm:=[true,((↑(us (Sp.Zau v)).length:Int)==0)==false,0==0,(Sp.Zaf v)==true]) (vi (-1)) (by kernel_rfl) (bc rfl (bc (Zah (fun h=>d3 (i2.1 h))) (bc (beq_self_eq_true _) (bc (Zak ((ZbE _).2 d5)) b0)))) q0 c0 H
  ·exact Zae (G:=Zab kp65 [] []) 1000 [false,false] (asm:=[true,((↑(us (Sp.Zau v)).length:Int)==0)==false,0==0,(Sp.Zaf v)==false]) (vi 1) (by kernel_rfl) (bc rfl (bc (Zah (fun h=>d3 (i2.1 h))) (bc (beq_self_eq_true _) (bc (Zah (fun h=>d5 ((ZbE _).1 h))) b0)))) q0 c0 H
end Go.Av

namespace Go.Av
open Go.Proofs
namespace Sp
def trimF:Nat->List Int->List Int
 | 0,a=>a
 | n+1,a=>if a.getD n default=0 then trimF n (a.take n) else a
def Zb6 (a:List Int):List Int:=trimF a.length a
end Sp
theorem Zgu:∀ (n:Nat) (fa:Bool) (a:List Int),a.length=n->n<=1000000->ZdD fa a (Zad (usA false (Sp.trimF n a)))
 | 0,fa,a,hl,hk=>rTrimA _ _ _ ⟨by omega,fun h=>by omega,fun h=>by omega,fun h=>by omega,fun _=>Zcm _ _ _⟩
 | n+1,fa,a,hl,hk=>by
  have e1:((a.length:Int)-1).toNat=n:=by omega
  refine rTrimA _ _ _ ⟨by omega,fun _=>by omega,fun _=>by omega,fun h => ?_,fun h => ?_⟩
  ·rw [e1] at h ⊢
   refine ⟨by omega,by omega,by omega,?_⟩
   rw [List.drop_zero]
   have:=Zgu n (fa&&false) (a.take n) (by simp;omega) (by omega)
   rw [Sp.trimF,if_pos h.2];exact this
  ·rw [e1] at h
   rw [Sp.trimF,if_neg (fun x=>h ⟨by omega,x⟩)]
   exact Zcm _ _ _
theorem ZeS:∀ (k v:Nat),Sp.fits k v->Sp.trimF k (Sp.Zaq k v)=Sp.lim v
 | 0,v,hf=>by
  have h0:=Za6.1 hf
  subst h0
  rw [Zco];rfl
 | k+1,v,hf=>by
  rw [Sp.trimF]
  by_cases h:Sp.fits k v
  ·rw [if_pos ((ZfM hf).2 h),limN_take]
   exact ZeS k v h
  ·rw [if_neg (fun x=>h ((ZfM hf).1 x)),lim_of hf (.inr (by simpa using h))]
theorem rtrimN (fa:Bool) (k v:Nat) (h:Sp.Zay k/\Sp.fits k v):Ev M1 (.pure 99 [usA fa (Sp.Zaq k v)]) (usA false (Sp.lim v)) []:=by
 have:=Zgu k fa (Sp.Zaq k v) (Zal k v) h.1
 rw [ZeS k v h.2] at this
 exact call99 (rTrim _ _ _ this)
theorem ev99 (fa:Bool) (k v:Nat) (h:Sp.Zay k/\Sp.fits k v):Ev M1 (.pure 99 [usA fa (Sp.Zaq k v)]) (usA false (Sp.lim v)) []:=rtrimN fa k v h
theorem ZgK (fa:Bool) (a:List Int) (h:Sp.Zay a.length):Ev M1 (.pure 99 [usA fa a]) (usA false (Sp.Zb6 a)) []:=
 call99 (rTrim _ _ _ (Zgu a.length fa a rfl h))
theorem tdivB (x:Nat):(x:Int).tdiv 1000000000=((x / 1000000000:Nat):Int):=by
 rw [Int.tdiv_eq_ediv_of_nonneg (by omega)];omega
theorem tmodB (x:Nat):(x:Int).tmod 1000000000=((x % 1000000000:Nat):Int):=by
 rw [Int.tmod_eq_emod_of_nonneg (by omega)];omega
theorem le4 {x:Nat} (h:x<1000000000):0<=(x:Int)/\(x:Int)<=4294967295:=by omega
theorem le8 {x:Nat} (h:x<=18446744073709551615):0<=(x:Int)/\(x:Int)<=18446744073709551615:=by omega
theorem limN_step (n u:Nat):Sp.Zaq n u++[((u / 1000000000 ^ n % 1000000000:Nat):Int)]=Sp.Zaq (n+1) u:=(ZdK n u).symm
theorem loopLimbs {u0:Nat}:∀ (m n v:Nat),m+n=100->u0 / 1000000000 ^ n<1000000000 ^ m->n<=100->(u0 / 1000000000 ^ n ≠ 0\/n=Sp.cnt u0)->u0<=18446744073709551615 ->
  Zc0 (u0 / 1000000000 ^ n:Nat) (Sp.Zaq n u0) v (Zad (usA false (Sp.lim u0)))
 | 0,n,v,hmn,hlt,hn,hne,hu=>by
  have h0:u0 / 1000000000 ^ n=0:=by simpa using hlt
  rcases hne with h | h
  ·exact absurd h0 h
  ·subst h
   exact rLimbsA _ _ _ _ ⟨fun h=>by omega,fun _ => .refl _⟩
 | m+1,n,v,hmn,hlt,hn,hne,hu=>by
  by_cases h0:u0 / 1000000000 ^ n=0
  ·rcases hne with h | h
   ·exact absurd h0 h
   ·subst h
    exact rLimbsA _ _ _ _ ⟨fun h=>by omega,fun _ => .refl _⟩
  ·have hb:u0 / 1000000000 ^ n<=18446744073709551615:=Nat.le_trans (Nat.div_le_self _ _) hu
   have c3:((u0 / 1000000000 ^ n:Nat):Int).tdiv 1000000000=((u0 / 1000000000 ^ (n+1):Nat):Int):=by
    rw [tdivB,ZaU]
   have c4:((u0 / 1000000000 ^ n:Nat):Int).tmod 1000000000=((u0 / 1000000000 ^ n % 1000000000:Nat):Int):=tmodB _
   have hpos:((u0 / 1000000000 ^ n:Nat):Int)>0:=by exact_mod_cast Nat.pos_of_ne_zero h0
   have hb2:u0 / 1000000000 ^ (n+1)<=18446744073709551615:=Nat.le_trans (Nat.div_le_self _ _) hu
   have hm:u0 / 1000000000 ^ n % 1000000000<1000000000:=Nat.mod_lt _ (by omega)
   refine rLimbsA _ _ _ _ ⟨fun _ => ?_,fun h=>absurd hpos h⟩
   have hl:=Zal n u0
   rw [c3,c4,limN_step]
   have hd:=ZaU u0 n
   refine ⟨le4 hm,by omega,le8 hb2,loopLimbs m (n+1) (v+1) (by omega) ?_ (by omega) ?_ hu⟩
   ·rw [<- hd]
    rw [Nat.pow_succ] at hlt
    exact Nat.div_lt_of_lt_mul (by rwa [Nat.mul_comm])
   ·by_cases hz:u0 / 1000000000 ^ (n+1)=0
    ·right
     have f1:Sp.fits (n+1) u0:=Zc4.2 hz
     have f2:¬Sp.fits n u0:=fun f=>h0 (Zc4.1 f)
     have:=Zav.1 f1
     have:¬Sp.cnt u0<=n:=fun x=>f2 (Zav.2 x)
     omega
    ·exact .inl hz
theorem ev90 (u:Int) (h:0<=u/\u<=18446744073709551615):Ev M1 (.pure 90 [.int .u64 u]) (usA false (Sp.lim u.toNat)) []:=by
 obtain ⟨n,rfl⟩:=Int.eq_ofNat_of_zero_le h.1
 rw [Int.toNat_natCast]
 refine call90 (rLimbs _ _ (rLimbs0 _ _ ⟨fun h0 => ?_,fun h0 => ?_⟩))
 ·have hlt:n / 1000000000<1000000000 ^ 99:=by omega
  have hr:=loopLimbs (u0:=n) 99 1 0 (by omega) (by simpa using hlt) (by omega) (by
   by_cases hz:n / 1000000000=0
   ·right
    have f1:Sp.fits 1 n:=by unfold Sp.fits;omega
    have:=Zav.1 f1
    have:Sp.cnt n ≠ 0:=fun e=>by have:=ZaC.1 e;omega
    omega
   ·left;simpa using hz) (by omega)
  have c3:(n:Int).tdiv 1000000000=((n / 1000000000:Nat):Int):=by
   rw [Int.tdiv_eq_ediv_of_nonneg (by omega)];omega
  have c4:(n:Int).tmod 1000000000=((n % 1000000000:Nat):Int):=by
   rw [Int.tmod_eq_emod_of_nonneg (by omega)];omega
  have e:Sp.Zaq 1 n=[((n % 1000000000:Nat):Int)]:=rfl
  rw [e,Nat.pow_one] at hr
  rw [c3,c4]
  exact ⟨by omega,by omega,hr⟩
 ·have:n=0:=by omega
  subst this
  rw [Zco];exact .vnil 1
theorem ev86 (fa:Bool) (v:Nat) (h:Sp.cnt v<=2):Ev M1 (.pure 86 [usA fa (Sp.lim v)]) (.int .u64 (v:Nat)) []:=by
 have f:=ZaW (Zag v) h
 have hv:v<1000000000000000000:=by unfold Sp.fits at f;simpa using f
 have loop:∀ k,k<=Sp.cnt v->ZcY fa (Sp.lim v) ((v / 1000000000 ^ k:Nat):Int) ((k:Int)-1) (Zad (.int .u64 (v:Nat))):=by
  intro k
  induction k with
  | zero=>intro _;exact rShortA _ _ _ _ _ ⟨fun h=>by omega,fun _=>by simp⟩
  | succ k ih =>
   intro hk
   have e1:(((k+1:Nat):Int)-1)=(k:Nat):=by omega
   have g:(Sp.lim v).getD k default=((v / 1000000000 ^ k % 1000000000:Nat):Int):=Zaw v (show k<Sp.cnt v by omega)
   have hs:=ZaN v k
   have hb:v / 1000000000 ^ k<=v:=Nat.div_le_self _ _
   refine rShortA _ _ _ _ _ ⟨fun _ => ?_,fun h=>by omega⟩
   rw [e1,Int.toNat_natCast,g,ZaG]
   have e2:((v / 1000000000 ^ (k+1):Nat):Int)*1000000000+((v / 1000000000 ^ k % 1000000000:Nat):Int)=((v / 1000000000 ^ k:Nat):Int):=by omega
   rw [e2]
   exact ⟨by omega,by omega,by omega,by omega,by omega,by omega,ih (by omega)⟩
 refine call86 (rShort _ _ _ ?_)
 rw [ZaG]
 have:=loop (Sp.cnt v) (Nat.le_refl _)
 rw [ZaE (Zag v) (Nat.le_refl _)] at this
 exact ⟨by omega,this⟩
theorem Zfl {fa fb:Bool} {n v w:Nat} {dq:AV} (hn:n<=1000000) (hq:AV.int .i64 (Sp.sgnI ((v:Int)-w))=dq):∀ (k:Nat),k<=n->v / 1000000000 ^ k=w / 1000000000 ^ k->Zb9 fa fb (Sp.Zaq n v) (Sp.Zaq n w) ((k:Int)-1) (Zad dq)
 | 0,hk,he=>by
  have e:v=w:=by simpa using he
  refine rCompareA _ _ _ _ _ _ ⟨fun h=>by omega,fun _ => ?_⟩
  rw [<- hq,e]
  congr 1
  unfold Sp.sgnI
  rw [if_neg (by omega),if_neg (by omega)]
 | k+1,hk,he=>by
  have e1:(((k+1:Nat):Int)-1)=(k:Nat):=by omega
  rw [e1]
  refine rCompareA _ _ _ _ _ _ ⟨fun _ => ?_,fun h=>by omega⟩
  rw [Int.toNat_natCast,Zaw v (show k<n by omega),Zaw w (show k<n by omega),Zal,Zal]
  have s1:=ZaN v k
  have s2:=ZaN w k
  rw [<- he] at s2
  refine ⟨by omega,by omega,by omega,fun h => ?_,fun h=>⟨fun h2 => ?_,fun h2=>⟨by omega,?_⟩⟩⟩
  ·have:=ZfO (v:=v) (w:=w) (i:=k) (by omega)
   rw [<- hq];congr 1
   unfold Sp.sgnI
   rw [if_pos (by omega)]
  ·have:=ZfO (v:=w) (w:=v) (i:=k) (by omega)
   rw [<- hq];congr 1
   unfold Sp.sgnI
   rw [if_neg (by omega),if_pos (by omega)]
  ·exact Zfl hn hq k (by omega) (by omega)
theorem rcompareN (fa fb:Bool) (v w:Nat) (h:Sp.Zay (Sp.cnt v)/\Sp.Zay (Sp.cnt w)):Ev M1 (.pure 91 [usA fa (Sp.lim v),usA fb (Sp.lim w)]) (.int .i64 (Sp.sgnI ((v:Int)-w))) []:=by
 obtain ⟨h1,h2⟩:=h
 have h1':Sp.cnt v<=1000000:=h1
 have h2':Sp.cnt w<=1000000:=h2
 refine call91 (rCompare _ _ _ _ _ ?_)
 rw [ZaG,ZaG]
 refine ⟨fun h=>⟨fun k => ?_,fun k => ?_⟩,fun h=>⟨by omega,?_⟩⟩
 ·have:=cmp_len (v:=v) (w:=w) (by omega)
  congr 1
  unfold Sp.sgnI
  rw [if_pos (by omega)]
 ·have:=cmp_len (v:=w) (w:=v) (by omega)
  congr 1
  unfold Sp.sgnI
  rw [if_neg (by omega),if_pos (by omega)]
 ·have e:Sp.cnt w=Sp.cnt v:=by omega
  have hw:Sp.lim w=Sp.Zaq (Sp.cnt v) w:=by unfold Sp.lim;rw [e]
  rw [hw]
  refine Zfl (by omega) rfl (Sp.cnt v) (Nat.le_refl _) ?_
  rw [ZaE (Zag v) (Nat.le_refl _),ZaE (Zag w) (by omega)]
theorem ev91 (fa fb:Bool) (v w:Int) (h:Sp.ok v/\Sp.ok w):Ev M1 (.pure 91 [usA fa (Sp.Zau v),usA fb (Sp.Zau w)]) (.int .i64 (Sp.sgnI ((v.natAbs:Int)-w.natAbs))) []:=rcompareN fa fb _ _ h
theorem ev91_a (fa fb:Bool) (v w:Nat) (h:Sp.Zay (Sp.cnt v)/\Sp.Zay (Sp.cnt w)):Ev M1 (.pure 91 [usA fa (Sp.lim v),usA fb (Sp.lim w)]) (.int .i64 (Sp.sgnI ((v:Int)-w))) []:=rcompareN fa fb _ _ h
theorem ev65 (fa:Bool) (v:Int):Ev M1 (.pure 65 [bigA fa v]) (.int .i64 (Sp.sgnI v)) []:=by
 have hl:=Zbp v
 have hc:=ZaC (v:=v.natAbs)
 refine call65 (rSign fa v _ ⟨fun h => ?_,fun h=>⟨fun k => ?_,fun k => ?_⟩⟩)
 ·rw [Sp.sgnI,if_neg (by omega),if_neg (by omega)]
 ·rw [Zan] at k
  rw [Sp.sgnI,if_pos k]
 ·rw [Zan] at k
  rw [Sp.sgnI,if_neg k,if_pos (by omega)]
end Go.Av

namespace Go.Av
open Go.Proofs
set_option maxRecDepth 100000
def fi60:Fi:=⟨14,[.cell 2 28]⟩
def kp60:List (Nat × List Nat):=[(0,[0,2]),(1,[0,2,4]),(2,[2]),(3,[2])]
def fi87:Fi:=⟨15,[.cell 4 28]⟩
def kp87:List (Nat × List Nat):=[(0,[0,1,4]),(1,[0,1,4]),(2,[4])]
def fi92:Fi:=⟨68,[.tmp 4]⟩
def kp92:List (Nat × List Nat):=[(0,[0,1]),(1,[0,1,5]),(2,[0,1,5,6]),(3,[0,1,5,6,18]),(4,[0,1,5,6]),(5,[0,1,5,6,7]),(6,[0,1,5,6,7,8]),(7,[0,1,5,6,7,8,24]),(8,[0,1,5,6,7,8]),(9,[0,1,5,6,7,8]),(10,[0,1,5,6,7,8]),(11,[0,1,5,6,7,8]),(12,[0,1,5,6]),(13,[4])]
def fi112:Fi:=⟨55,[.tmp 4]⟩
def kp112:List (Nat × List Nat):=[(0,[0,1]),(1,[0,1,12]),(2,[0,1]),(3,[0,1,5]),(4,[0,1,5,6]),(5,[0,1,5,6,7]),(6,[0,1,5,6,7,22]),(7,[0,1,5,6,7]),(8,[0,1,5,6,7]),(9,[0,1,5,6,7,34]),(10,[0,1,5,6,7]),(11,[0,1,5,6,7]),(12,[0,1,5,6,7]),(13,[5]),(14,[4])]
def fi113:Fi:=⟨45,[.tmp 4]⟩
def kp113:List (Nat × List Nat):=[(0,[0,1]),(1,[0,1,5]),(2,[0,1,5,6]),(3,[0,1,5,6,7]),(4,[0,1,5,6,7,15]),(5,[0,1,5,6,7]),(6,[0,1,5,7,8]),(7,[0,1,5,7,8,28]),(8,[0,1,5,7,8]),(9,[0,1,5,6,7,8]),(10,[0,1,5,6,7,8,36]),(11,[0,1,5,6,7,8]),(12,[0,1,5,6,7]),(13,[4])]
def Zhl (s fa:Bool) (k v:Nat) (Q:AV->Heap->Prop):Prop:=Wp M1 (.run fi87 (atC (cd Try.f87) []) [(0,.bool s),(1,.vec fa 1 ((Sp.Zaq k v).map (.int .u32)))] []) Q
def Zey (n:Int) (Q:AV->Heap->Prop):Prop:=Wp M1 (.run fi60 (atC (cd Try.f60) []) [(0,.int .i64 n)] []) Q
def rPlus_at (fa fb:Bool) (a b:List Int) (Q:AV->Heap->Prop):Prop:=Wp M1 (.run fi112 (atC (cd Try.f112) []) [(0,.vec fa 1 (a.map (.int .u32))),(1,.vec fb 1 (b.map (.int .u32)))] []) Q
def Zb8 (fa fb:Bool) (a b:List Int) (o:List Int) (c i:Int) (Q:AV->Heap->Prop):Prop:=Wp M1 (.run fi112 (atC (cd Try.f112) [1,1,1,1,0,1,0,0]) [(0,.vec fa 1 (a.map (.int .u32))),(1,.vec fb 1 (b.map (.int .u32))),(5,.row 0 0),(6,.int .u32 c),(7,.int .i64 i)] [⟨o.map (.int .u32),1,0,false,true⟩]) Q
def rMinus_at (fa fb:Bool) (a b:List Int) (Q:AV->Heap->Prop):Prop:=Wp M1 (.run fi113 (atC (cd Try.f113) []) [(0,.vec fa 1 (a.map (.int .u32))),(1,.vec fb 1 (b.map (.int .u32)))] []) Q
def Zbm (fa fb:Bool) (a b:List Int) (o:List Int) (c i:Int) (Q:AV->Heap->Prop):Prop:=Wp M1 (.run fi113 (atC (cd Try.f113) [1,1,1,0,1,0,0]) [(0,.vec fa 1 (a.map (.int .u32))),(1,.vec fb 1 (b.map (.int .u32))),(5,.row 0 0),(6,.int .u32 c),(7,.int .i64 i)] [⟨o.map (.int .u32),1,0,false,true⟩]) Q
def rTimes_at (fa fb:Bool) (a b:List Int) (Q:AV->Heap->Prop):Prop:=Wp M1 (.run fi92 (atC (cd Try.f92) []) [(0,.vec fa 1 (a.map (.int .u32))),(1,.vec fb 1 (b.map (.int .u32)))] []) Q
def Zcu (fa fb:Bool) (a b:List Int) (o:List Int) (i:Int) (Q:AV->Heap->Prop):Prop:=Wp M1 (.run fi92 (atC (cd Try.f92) [1,1,0,1,0,0]) [(0,.vec fa 1 (a.map (.int .u32))),(1,.vec fb 1 (b.map (.int .u32))),(5,.row 0 0),(6,.int .i64 i)] [⟨o.map (.int .u32),1,0,false,true⟩]) Q
def Zct (fa fb:Bool) (a b:List Int) (o:List Int) (i c k:Int) (Q:AV->Heap->Prop):Prop:=Wp M1 (.run fi92 (atC (cd Try.f92) [1,1,0,1,0,0,1,0,0,1,0,1,0,0]) [(0,.vec fa 1 (a.map (.int .u32))),(1,.vec fb 1 (b.map (.int .u32))),(5,.row 0 0),(6,.int .i64 i),(7,.int .u64 c),(8,.int .i64 k)] [⟨o.map (.int .u32),1,0,false,true⟩]) Q
theorem call60 {args:List AV} {d:AV} (h:wc M1 fi60 Try.f60 args d):Ev M1 (.pure 60 args) d []:=pcl _ _ (by kernel_rfl) h
theorem call87 {args:List AV} {d:AV} (h:wc M1 fi87 Try.f87 args d):Ev M1 (.pure 87 args) d []:=pcl _ _ (by kernel_rfl) h
theorem call92 {args:List AV} {d:AV} (h:wc M1 fi92 Try.f92 args d):Ev M1 (.pure 92 args) d []:=pcl _ _ (by kernel_rfl) h
theorem call112 {args:List AV} {d:AV} (h:wc M1 fi112 Try.f112 args d):Ev M1 (.pure 112 args) d []:=pcl _ _ (by kernel_rfl) h
theorem call113 {args:List AV} {d:AV} (h:wc M1 fi113 Try.f113 args d):Ev M1 (.pure 113 args) d []:=pcl _ _ (by kernel_rfl) h
theorem rSigned (s fa:Bool) (k v:Nat)  (dq:AV) (H :
  (Sp.Zay k/\Sp.fits k v) /\
  Weak (ag [vb (bif s then decide ((↑(Sp.lim v).length:Int)>0) else false),vf (us (Sp.lim v))]) dq) :
 Zhl s fa k v (Zad dq):=by
 unfold Zhl
 obtain ⟨k1,H⟩:=H
 have w2:(us (Sp.lim v)).length=(Sp.lim v).length:=List.length_map ..
 exact Zai (G:=Zab kp87 [(1,1,.call (vf (us (Sp.lim v))) none)] []) 1000 [] (ag [vb (bif s then decide ((↑(us (Sp.lim v)).length:Int)>0) else false),vf (us (Sp.lim v))]) (by kernel_rfl) (bc rfl b0) q0 (ce (@ev99 fa k v k1) c0) (by (try rw [w2]);all_goals exact H)
theorem rFromInt64 (n:Int)  (dq:AV) (H :
  ((n<0)->(0<=IntKind.u64.wrap (0-IntKind.u64.wrap n)/\IntKind.u64.wrap (0-IntKind.u64.wrap n)<=18446744073709551615) /\
   ∃ (b1:Bool) (l1:List Int),
   (Ev M1 (Conf.pure 87 [vb true,vf (us (Sp.lim (IntKind.u64.wrap (0-IntKind.u64.wrap n)).toNat))]) (ag [vb b1,vf (us l1)]) []) /\
   Weak (ag [vb b1,vf (us l1)]) dq) /\
  (¬(n<0)->(0<=IntKind.u64.wrap n/\IntKind.u64.wrap n<=18446744073709551615) /\
   ∃ (b2:Bool) (l2:List Int),
   (Ev M1 (Conf.pure 87 [vb false,vf (us (Sp.lim (IntKind.u64.wrap n).toNat))]) (ag [vb b2,vf (us l2)]) []) /\
   Weak (ag [vb b2,vf (us l2)]) dq)) :
 Zey n (Zad dq):=by
 unfold Zey
 rcases xq H with ⟨d2,H⟩|⟨d2,H⟩
 ·obtain ⟨k3,b1,l1,k4,H⟩:=H
  exact Zai (G:=Zab kp60 [(2,3,.call (vf (us (Sp.lim (wu (0-wu n)).toNat))) none),(2,4,.call (ag [vb b1,vf (us l1)]) none)] []) 1000 [true] (ag [vb b1,vf (us l1)]) (by kernel_rfl) (bc (Zak (Zaa.2 d2)) (bc rfl b0)) q0 (ce (@ev90 (wu (0-wu n)) k3) (ce k4 c0)) H
 ·obtain ⟨k5,b2,l2,k6,H⟩:=H
  exact Zai (G:=Zab kp60 [(3,2,.call (vf (us (Sp.lim (wu n).toNat))) none),(3,3,.call (ag [vb b2,vf (us l2)]) none)] []) 1000 [false] (ag [vb b2,vf (us l2)]) (by kernel_rfl) (bc (Zah (fun h=>d2 (Zaa.1 h))) (bc rfl b0)) q0 (ce (@ev90 (wu n) k5) (ce k6 c0)) H
theorem rPlus (fa fb:Bool) (a b:List Int)  (dq:AV) (H :
  (((↑a.length:Int)<(↑b.length:Int))->(-9223372036854775808<=(↑b.length:Int)+1/\(↑b.length:Int)+1<=9223372036854775807) /\
   (0<=(↑b.length:Int)+1) /\
   (((↑b.length:Int)+1)*4<=1099511627776) /\
   ((↑b.length:Int)+1<=1099511627776) /\
   Zb8 fb fa b a (List.replicate ((↑b.length:Int)+1).toNat (0:Int)) 0 0 (Zad dq)) /\
  (¬((↑a.length:Int)<(↑b.length:Int))->(-9223372036854775808<=(↑a.length:Int)+1/\(↑a.length:Int)+1<=9223372036854775807) /\
   (0<=(↑a.length:Int)+1) /\
   (((↑a.length:Int)+1)*4<=1099511627776) /\
   ((↑a.length:Int)+1<=1099511627776) /\
   Zb8 fa fb a b (List.replicate ((↑a.length:Int)+1).toNat (0:Int)) 0 0 (Zad dq))) :
 rPlus_at fa fb a b (Zad dq):=by
 unfold rPlus_at
 have w1:(us a).length=a.length:=List.length_map ..
 have w2:(us b).length=b.length:=List.length_map ..
 have i3:(decide ((↑(us a).length:Int)<(↑(us b).length:Int)))=true ↔ ((↑a.length:Int)<(↑b.length:Int)):=(by (try rw [w1]);(try rw [w2]);all_goals exact Zaa)
 rcases xq H with ⟨d4,H⟩|⟨d4,H⟩
 ·obtain ⟨k5,H⟩:=H
  have w6:wi ((↑b.length:Int)+1)=(↑b.length:Int)+1:=wI64 k5
  have i7:(decide (0<=wi ((↑(us b).length:Int)+1)))=true ↔ (0<=(↑b.length:Int)+1):=(by (try rw [w2]);(try rw [w6]);all_goals exact Zaa)
  obtain ⟨k8,H⟩:=H
  have i9:(decide (wi ((↑(us b).length:Int)+1)<=wi ((↑(us b).length:Int)+1)))=true ↔ ((↑b.length:Int)+1<=(↑b.length:Int)+1):=(by (try rw [w2]);(try rw [w6]);all_goals exact Zaa)
  have i10:(decide (wi ((↑(us b).length:Int)+1)*4<=1099511627776))=true ↔ (((↑b.length:Int)+1)*4<=1099511627776):=(by (try rw [w2]);(try rw [w6]);all_goals exact Zaa)
  obtain ⟨k11,H⟩:=H
  have i12:(decide (wi ((↑(us b).length:Int)+1)<=1099511627776))=true ↔ ((↑b.length:Int)+1<=1099511627776):=(by (try rw [w2]);(try rw [w6]);all_goals exact Zaa)
  obtain ⟨k13,H⟩:=H
  have w14:List.replicate ((↑b.length:Int)+1).toNat (vu 0)=us (List.replicate ((↑b.length:Int)+1).toNat (0:Int)):=(ZdJ rfl)
  exact Zac (G:=Zab kp112 [] []) 1000 [true] ⟨(atC (cd Try.f112) [1,1,1,1,0,1,0,0]),[(0,AV.vec fb 1 (us b)),(1,AV.vec fa 1 (us a)),(5,AV.row 0 0),(6,vu 0),(7,vi 0)],[⟨List.replicate (wi ((↑(us b).length:Int)+1)).toNat (vu 0),1,0,false,true⟩],[(decide ((↑(us a).length:Int)<(↑(us b).length:Int)))==true,decide (0<=wi ((↑(us b).length:Int)+1)),decide (wi ((↑(us b).length:Int)+1)<=wi ((↑(us b).length:Int)+1)),decide (wi ((↑(us b).length:Int)+1)*4<=1099511627776),decide (wi ((↑(us b).length:Int)+1)<=1099511627776)],[],_⟩ (by kernel_rfl) (bc (Zak (i3.2 d4)) (bc (i7.2 k8) (bc (i9.2 (by omega)) (bc (i10.2 k11) (bc (i12.2 k13) b0))))) q0 c0 (by (try rw [w2]);(try rw [w6]);(try rw [w14]);all_goals exact H)
 ·obtain ⟨k15,H⟩:=H
  have w16:wi ((↑a.length:Int)+1)=(↑a.length:Int)+1:=wI64 k15
  have i17:(decide (0<=wi ((↑(us a).length:Int)+1)))=true ↔ (0<=(↑a.length:Int)+1):=(by (try rw [w1]);(try rw [w16]);all_goals exact Zaa)
  obtain ⟨k18,H⟩:=H
  have i19:(decide (wi ((↑(us a).length:Int)+1)<=wi ((↑(us a).length:Int)+1)))=true ↔ ((↑a.length:Int)+1<=(↑a.length:Int)+1):=(by (try rw [w1]);(try rw [w16]);all_goals exact Zaa)
  have i20:(decide (wi ((↑(us a).length:Int)+1)*4<=1099511627776))=true ↔ (((↑a.length:Int)+1)*4<=1099511627776):=(by (try rw [w1]);(try rw [w16]);all_goals exact Zaa)
  obtain ⟨k21,H⟩:=H
  have i22:(decide (wi ((↑(us a).length:Int)+1)<=1099511627776))=true ↔ ((↑a.length:Int)+1<=1099511627776):=(by (try rw [w1]);(try rw [w16]);all_goals exact Zaa)
  obtain ⟨k23,H⟩:=H
  have w24:List.replicate ((↑a.length:Int)+1).toNat (vu 0)=us (List.replicate ((↑a.length:Int)+1).toNat (0:Int)):=(ZdJ rfl)
  exact Zac (G:=Zab kp112 [] []) 1000 [false] ⟨(atC (cd Try.f112) [1,1,1,1,0,1,0,0]),[(0,AV.vec fa 1 (us a)),(1,AV.vec fb 1 (us b)),(5,AV.row 0 0),(6,vu 0),(7,vi 0)],[⟨List.replicate (wi ((↑(us a).length:Int)+1)).toNat (vu 0),1,0,false,true⟩],[(decide ((↑(us a).length:Int)<(↑(us b).length:Int)))==false,decide (0<=wi ((↑(us a).length:Int)+1)),decide (wi ((↑(us a).length:Int)+1)<=wi ((↑(us a).length:Int)+1)),decide (wi ((↑(us a).length:Int)+1)*4<=1099511627776),decide (wi ((↑(us a).length:Int)+1)<=1099511627776)],[],_⟩ (by kernel_rfl) (bc (Zah (fun h=>d4 (i3.1 h))) (bc (i17.2 k18) (bc (i19.2 (by omega)) (bc (i20.2 k21) (bc (i22.2 k23) b0))))) q0 c0 (by (try rw [w1]);(try rw [w16]);(try rw [w24]);all_goals exact H)
noncomputable abbrev zNwB1 (o:List Int) (a:List Int) (c:Int):=vf (us (Sp.Zb6 (o.set (↑a.length:Int).toNat c)))
theorem rPlusA (fa fb:Bool) (a b:List Int) (o:List Int) (c i:Int)  (dq:AV) (H :
  ((i<(↑a.length:Int))->(0<=i) /\
   (i.toNat<a.length) /\
   (0<=c+a.getD i.toNat default/\c+a.getD i.toNat default<=4294967295) /\
   ((i<(↑b.length:Int))->(i.toNat<b.length) /\
    (0<=c+a.getD i.toNat default+b.getD i.toNat default/\c+a.getD i.toNat default+b.getD i.toNat default<=4294967295) /\
    (i.toNat<o.length) /\
    (0<=(c+a.getD i.toNat default+b.getD i.toNat default).tdiv 1000000000/\(c+a.getD i.toNat default+b.getD i.toNat default).tdiv 1000000000<=4294967295) /\
    (-9223372036854775808<=i+1/\i+1<=9223372036854775807) /\
    Zb8 fa fb a b (o.set i.toNat ((c+a.getD i.toNat default+b.getD i.toNat default).tmod 1000000000)) ((c+a.getD i.toNat default+b.getD i.toNat default).tdiv 1000000000) (i+1) (Zad dq)) /\
   (¬(i<(↑b.length:Int))->(i.toNat<o.length) /\
    (0<=(c+a.getD i.toNat default).tdiv 1000000000/\(c+a.getD i.toNat default).tdiv 1000000000<=4294967295) /\
    (-9223372036854775808<=i+1/\i+1<=9223372036854775807) /\
    Zb8 fa fb a b (o.set i.toNat ((c+a.getD i.toNat default).tmod 1000000000)) ((c+a.getD i.toNat default).tdiv 1000000000) (i+1) (Zad dq))) /\
  (¬(i<(↑a.length:Int))->(0<=(↑a.length:Int)) /\
   ((↑a.length:Int).toNat<o.length) /\
   (Sp.Zay (o.set (↑a.length:Int).toNat c).length) /\
   Weak (vf (us (Sp.Zb6 (o.set (↑a.length:Int).toNat c)))) dq)) :
 Zb8 fa fb a b o c i (Zad dq):=by
 unfold Zb8
 have w1:(us a).length=a.length:=List.length_map ..
 have i2:(decide (i<(↑(us a).length:Int)))=true ↔ (i<(↑a.length:Int)):=(by (try rw [w1]);all_goals exact Zaa)
 rcases xq H with ⟨d3,H⟩|⟨d3,H⟩
 ·obtain ⟨k5,H⟩:=H
  have i6:(decide (i.toNat<(us a).length))=true ↔ (i.toNat<a.length):=(by (try rw [w1]);all_goals exact Zaa)
  obtain ⟨k7,k8,H⟩:=H
  have w9:wv (c+a.getD i.toNat default)=c+a.getD i.toNat default:=wU32 k8
  have w10:(us b).length=b.length:=List.length_map ..
  have i11:(decide (i<(↑(us b).length:Int)))=true ↔ (i<(↑b.length:Int)):=(by (try rw [w10]);all_goals exact Zaa)
  refine Zac (G:=Zab kp112 [(8,4,.elem (vu (a.getD i.toNat default)))] []) 12 [true] ⟨(atC (cd Try.f112) [1,1,1,1,0,1,0,0,1,0,0,1,0,1]),[(0,AV.vec fa 1 (us a)),(1,AV.vec fb 1 (us b)),(5,AV.row 0 0),(6,vu (wv (c+a.getD i.toNat default))),(7,vi i),(34,vb (decide (i<(↑(us b).length:Int))))],[⟨us o,1,0,false,true⟩],_,[((us a).get?Internal i.toNat=some (vu (a.getD i.toNat default)))],_⟩ (by kernel_rfl) (bc (Zak (i2.2 d3)) (bc (Zaa.2 k5) (bc (i6.2 k7) b0))) (qc (Zap k7) q0) c0 ?_
  rcases xq H with ⟨d12,H⟩|⟨d12,H⟩
  ·have i14:(decide (i.toNat<(us b).length))=true ↔ (i.toNat<b.length):=(by (try rw [w10]);all_goals exact Zaa)
   obtain ⟨k15,k16,H⟩:=H
   have w17:wv (c+a.getD i.toNat default+b.getD i.toNat default)=c+a.getD i.toNat default+b.getD i.toNat default:=wU32 k16
   have w19:(us o).length=o.length:=List.length_map ..
   have i20:(decide (i.toNat<(us o).length))=true ↔ (i.toNat<o.length):=(by (try rw [w19]);all_goals exact Zaa)
   obtain ⟨k21,H⟩:=H
   have w22:(us o).set i.toNat (vu ((c+a.getD i.toNat default+b.getD i.toNat default).tmod 1000000000))=us (o.set i.toNat ((c+a.getD i.toNat default+b.getD i.toNat default).tmod 1000000000)):=(Za3 rfl rfl)
   obtain ⟨k23,H⟩:=H
   have w24:wv ((c+a.getD i.toNat default+b.getD i.toNat default).tdiv 1000000000)=(c+a.getD i.toNat default+b.getD i.toNat default).tdiv 1000000000:=wU32 k23
   obtain ⟨k25,H⟩:=H
   have w26:wi (i+1)=i+1:=wI64 k25
   exact Zac (G:=Zab kp112 [(10,4,.elem (vu (b.getD i.toNat default))),(11,5,.elem (vu (o.getD i.toNat default)))] []) 1000 [true] ⟨(atC (cd Try.f112) [1,1,1,1,0,1,0,0]),[(0,AV.vec fa 1 (us a)),(1,AV.vec fb 1 (us b)),(5,AV.row 0 0),(6,vu (wv ((wv (wv (c+a.getD i.toNat default)+b.getD i.toNat default)).tdiv 1000000000))),(7,vi (wi (i+1)))],[⟨(us o).set i.toNat (vu ((wv (wv (c+a.getD i.toNat default)+b.getD i.toNat default)).tmod 1000000000)),1,0,false,true⟩],_,[((us b).get?Internal i.toNat=some (vu (b.getD i.toNat default))),((us o).get?Internal i.toNat=some (vu (o.getD i.toNat default)))],_⟩ (by kernel_rfl) (bc (Zak (i11.2 d12)) (bc (Zaa.2 k5) (bc (i14.2 k15) (bc rfl (bc rfl (bc (Zaa.2 k5) (bc (i20.2 k21) (bc rfl (bc rfl b0))))))))) (qc (Zap k15) (qc (Zap k21) q0)) c0 (by (try rw [w9]);(try rw [w17]);(try rw [w22]);(try rw [w24]);(try rw [w26]);all_goals exact H)
  ·have w28:(us o).length=o.length:=List.length_map ..
   have i29:(decide (i.toNat<(us o).length))=true ↔ (i.toNat<o.length):=(by (try rw [w28]);all_goals exact Zaa)
   obtain ⟨k30,H⟩:=H
   have w31:(us o).set i.toNat (vu ((c+a.getD i.toNat default).tmod 1000000000))=us (o.set i.toNat ((c+a.getD i.toNat default).tmod 1000000000)):=(Za3 rfl rfl)
   obtain ⟨k32,H⟩:=H
   have w33:wv ((c+a.getD i.toNat default).tdiv 1000000000)=(c+a.getD i.toNat default).tdiv 1000000000:=wU32 k32
   obtain ⟨k34,H⟩:=H
   have w35:wi (i+1)=i+1:=wI64 k34
   exact Zac (G:=Zab kp112 [(11,5,.elem (vu (o.getD i.toNat default)))] []) 1000 [false] ⟨(atC (cd Try.f112) [1,1,1,1,0,1,0,0]),[(0,AV.vec fa 1 (us a)),(1,AV.vec fb 1 (us b)),(5,AV.row 0 0),(6,vu (wv ((wv (c+a.getD i.toNat default)).tdiv 1000000000))),(7,vi (wi (i+1)))],[⟨(us o).set i.toNat (vu ((wv (c+a.getD i.toNat default)).tmod 1000000000)),1,0,false,true⟩],_,[((us o).get?Internal i.toNat=some (vu (o.getD i.toNat default)))],_⟩ (by kernel_rfl) (bc (Zah (fun h=>d12 (i11.1 h))) (bc rfl (bc rfl (bc (Zaa.2 k5) (bc (i29.2 k30) (bc rfl (bc rfl b0))))))) (qc (Zap k30) q0) c0 (by (try rw [w9]);(try rw [w31]);(try rw [w33]);(try rw [w35]);all_goals exact H)
 ·have i36:(decide (0<=(↑(us a).length:Int)))=true ↔ (0<=(↑a.length:Int)):=(by (try rw [w1]);all_goals exact Zaa)
  obtain ⟨k37,H⟩:=H
  have w38:(us o).length=o.length:=List.length_map ..
  have i39:(decide ((↑(us a).length:Int).toNat<(us o).length))=true ↔ ((↑a.length:Int).toNat<o.length):=(by (try rw [w1]);(try rw [w38]);all_goals exact Zaa)
  obtain ⟨k40,H⟩:=H
  have w41:(us o).set (↑a.length:Int).toNat (vu c)=us (o.set (↑a.length:Int).toNat c):=(Za3 rfl rfl)
  obtain ⟨k42,H⟩:=H
  exact Zai (G:=Zab kp112 [(13,5,.elem (vu (o.getD (↑a.length:Int).toNat default))),(14,1,.call (zNwB1 o a c) none)] []) 1000 [false] (eqs:=[((us o).get?Internal (↑(us a).length:Int).toNat=some (vu (o.getD (↑a.length:Int).toNat default)))]) (calls:=[pc 99 [vf ((us o).set (↑(us a).length:Int).toNat (vu c))] (zNwB1 o a c)]) (zNwB1 o a c) (by kernel_rfl) (bc (Zah (fun h=>d3 (i2.1 h))) (bc rfl (bc (i36.2 k37) (bc (i39.2 k40) (bc rfl (bc rfl b0)))))) (qc (by (try rw [w1]);all_goals exact (Zap k40)) q0) (ce (by (try rw [w1]);(try rw [w41]);all_goals exact (@ZgK false (o.set (↑a.length:Int).toNat c) k42)) c0) H
theorem rMinus (fa fb:Bool) (a b:List Int)  (dq:AV) (H :
  (0<=(↑a.length:Int)) /\
  ((↑a.length:Int)*4<=1099511627776) /\
  ((↑a.length:Int)<=1099511627776) /\
  Zbm fa fb a b (List.replicate (↑a.length:Int).toNat (0:Int)) 0 0 (Zad dq)) :
 rMinus_at fa fb a b (Zad dq):=by
 unfold rMinus_at
 have w1:(us a).length=a.length:=List.length_map ..
 have i2:(decide (0<=(↑(us a).length:Int)))=true ↔ (0<=(↑a.length:Int)):=(by (try rw [w1]);all_goals exact Zaa)
 obtain ⟨k3,H⟩:=H
 have i4:(decide ((↑(us a).length:Int)<=(↑(us a).length:Int)))=true ↔ ((↑a.length:Int)<=(↑a.length:Int)):=(by (try rw [w1]);all_goals exact Zaa)
 have i5:(decide ((↑(us a).length:Int)*4<=1099511627776))=true ↔ ((↑a.length:Int)*4<=1099511627776):=(by (try rw [w1]);all_goals exact Zaa)
 obtain ⟨k6,H⟩:=H
 have i7:(decide ((↑(us a).length:Int)<=1099511627776))=true ↔ ((↑a.length:Int)<=1099511627776):=(by (try rw [w1]);all_goals exact Zaa)
 obtain ⟨k8,H⟩:=H
 have w9:List.replicate (↑a.length:Int).toNat (vu 0)=us (List.replicate (↑a.length:Int).toNat (0:Int)):=(ZdJ rfl)
 exact Zac (G:=Zab kp113 [] []) 1000 [] ⟨(atC (cd Try.f113) [1,1,1,0,1,0,0]),[(0,AV.vec fa 1 (us a)),(1,AV.vec fb 1 (us b)),(5,AV.row 0 0),(6,vu 0),(7,vi 0)],[⟨List.replicate (↑(us a).length:Int).toNat (vu 0),1,0,false,true⟩],[decide (0<=(↑(us a).length:Int)),decide ((↑(us a).length:Int)<=(↑(us a).length:Int)),decide ((↑(us a).length:Int)*4<=1099511627776),decide ((↑(us a).length:Int)<=1099511627776)],[],_⟩ (by kernel_rfl) (bc (i2.2 k3) (bc (i4.2 (by omega)) (bc (i5.2 k6) (bc (i7.2 k8) b0)))) q0 c0 (by (try rw [w1]);(try rw [w9]);all_goals exact H)
theorem rMinusA (fa fb:Bool) (a b:List Int) (o:List Int) (c i:Int)  (dq:AV) (H :
  ((i<(↑a.length:Int))->(0<=i) /\
   (i.toNat<a.length) /\
   (0<=a.getD i.toNat default+1000000000/\a.getD i.toNat default+1000000000<=4294967295) /\
   (0<=a.getD i.toNat default+1000000000-c/\a.getD i.toNat default+1000000000-c<=4294967295) /\
   ((i<(↑b.length:Int))->(i.toNat<b.length) /\
    (0<=a.getD i.toNat default+1000000000-c-b.getD i.toNat default/\a.getD i.toNat default+1000000000-c-b.getD i.toNat default<=4294967295) /\
    ((a.getD i.toNat default+1000000000-c-b.getD i.toNat default>=1000000000)->(0<=a.getD i.toNat default+1000000000-c-b.getD i.toNat default-1000000000/\a.getD i.toNat default+1000000000-c-b.getD i.toNat default-1000000000<=4294967295) /\
     (i.toNat<o.length) /\
     (-9223372036854775808<=i+1/\i+1<=9223372036854775807) /\
     Zbm fa fb a b (o.set i.toNat (a.getD i.toNat default+1000000000-c-b.getD i.toNat default-1000000000)) 0 (i+1) (Zad dq)) /\
    (¬(a.getD i.toNat default+1000000000-c-b.getD i.toNat default>=1000000000)->(i.toNat<o.length) /\
     (-9223372036854775808<=i+1/\i+1<=9223372036854775807) /\
     Zbm fa fb a b (o.set i.toNat (a.getD i.toNat default+1000000000-c-b.getD i.toNat default)) 1 (i+1) (Zad dq))) /\
   (¬(i<(↑b.length:Int))->((a.getD i.toNat default+1000000000-c>=1000000000)->(0<=a.getD i.toNat default+1000000000-c-1000000000/\a.getD i.toNat default+1000000000-c-1000000000<=4294967295) /\
     (i.toNat<o.length) /\
     (-9223372036854775808<=i+1/\i+1<=9223372036854775807) /\
     Zbm fa fb a b (o.set i.toNat (a.getD i.toNat default+1000000000-c-1000000000)) 0 (i+1) (Zad dq)) /\
    (¬(a.getD i.toNat default+1000000000-c>=1000000000)->(i.toNat<o.length) /\
     (-9223372036854775808<=i+1/\i+1<=9223372036854775807) /\
     Zbm fa fb a b (o.set i.toNat (a.getD i.toNat default+1000000000-c)) 1 (i+1) (Zad dq)))) /\
  (¬(i<(↑a.length:Int))->(Sp.Zay o.length) /\
   Weak (vf (us (Sp.Zb6 o))) dq)) :
 Zbm fa fb a b o c i (Zad dq):=by
 unfold Zbm
 have w1:(us a).length=a.length:=List.length_map ..
 have i2:(decide (i<(↑(us a).length:Int)))=true ↔ (i<(↑a.length:Int)):=(by (try rw [w1]);all_goals exact Zaa)
 rcases xq H with ⟨d3,H⟩|⟨d3,H⟩
 ·obtain ⟨k5,H⟩:=H
  have i6:(decide (i.toNat<(us a).length))=true ↔ (i.toNat<a.length):=(by (try rw [w1]);all_goals exact Zaa)
  obtain ⟨k7,k8,H⟩:=H
  have w9:wv (a.getD i.toNat default+1000000000)=a.getD i.toNat default+1000000000:=wU32 k8
  obtain ⟨k10,H⟩:=H
  have w11:wv (a.getD i.toNat default+1000000000-c)=a.getD i.toNat default+1000000000-c:=wU32 k10
  have w12:(us b).length=b.length:=List.length_map ..
  have i13:(decide (i<(↑(us b).length:Int)))=true ↔ (i<(↑b.length:Int)):=(by (try rw [w12]);all_goals exact Zaa)
  refine Zac (G:=Zab kp113 [(6,3,.elem (vu (a.getD i.toNat default)))] []) 12 [true] ⟨(atC (cd Try.f113) [1,1,1,0,1,0,0,1,0,0,1,0,1]),[(0,AV.vec fa 1 (us a)),(1,AV.vec fb 1 (us b)),(5,AV.row 0 0),(7,vi i),(8,vu (wv (wv (a.getD i.toNat default+1000000000)-c))),(28,vb (decide (i<(↑(us b).length:Int))))],[⟨us o,1,0,false,true⟩],_,[((us a).get?Internal i.toNat=some (vu (a.getD i.toNat default)))],_⟩ (by kernel_rfl) (bc (Zak (i2.2 d3)) (bc (Zaa.2 k5) (bc (i6.2 k7) b0))) (qc (Zap k7) q0) c0 ?_
  rcases xq H with ⟨d14,H⟩|⟨d14,H⟩
  ·have i16:(decide (i.toNat<(us b).length))=true ↔ (i.toNat<b.length):=(by (try rw [w12]);all_goals exact Zaa)
   obtain ⟨k17,k18,H⟩:=H
   have w19:wv (a.getD i.toNat default+1000000000-c-b.getD i.toNat default)=a.getD i.toNat default+1000000000-c-b.getD i.toNat default:=wU32 k18
   have i20:(decide (wv (wv (wv (a.getD i.toNat default+1000000000)-c)-b.getD i.toNat default)>=1000000000))=true ↔ (a.getD i.toNat default+1000000000-c-b.getD i.toNat default>=1000000000):=(by (try rw [w9]);(try rw [w11]);(try rw [w19]);all_goals exact Zaa)
   refine Zac (G:=Zab kp113 [(8,4,.elem (vu (b.getD i.toNat default)))] []) 7 [true] ⟨(atC (cd Try.f113) [1,1,1,0,1,0,0,1,0,0,1,1,1,0,1]),[(0,AV.vec fa 1 (us a)),(1,AV.vec fb 1 (us b)),(5,AV.row 0 0),(6,vu 1),(7,vi i),(8,vu (wv (wv (wv (a.getD i.toNat default+1000000000)-c)-b.getD i.toNat default))),(36,vb (decide (wv (wv (wv (a.getD i.toNat default+1000000000)-c)-b.getD i.toNat default)>=1000000000)))],[⟨us o,1,0,false,true⟩],_,[((us b).get?Internal i.toNat=some (vu (b.getD i.toNat default)))],_⟩ (by kernel_rfl) (bc (Zak (i13.2 d14)) (bc (Zaa.2 k5) (bc (i16.2 k17) b0))) (qc (Zap k17) q0) c0 ?_
   rcases xq H with ⟨d21,H⟩|⟨d21,H⟩
   ·obtain ⟨k22,H⟩:=H
    have w23:wv (a.getD i.toNat default+1000000000-c-b.getD i.toNat default-1000000000)=a.getD i.toNat default+1000000000-c-b.getD i.toNat default-1000000000:=wU32 k22
    have w25:(us o).length=o.length:=List.length_map ..
    have i26:(decide (i.toNat<(us o).length))=true ↔ (i.toNat<o.length):=(by (try rw [w25]);all_goals exact Zaa)
    obtain ⟨k27,H⟩:=H
    have w28:(us o).set i.toNat (vu (a.getD i.toNat default+1000000000-c-b.getD i.toNat default-1000000000))=us (o.set i.toNat (a.getD i.toNat default+1000000000-c-b.getD i.toNat default-1000000000)):=(Za3 rfl rfl)
    obtain ⟨k29,H⟩:=H
    have w30:wi (i+1)=i+1:=wI64 k29
    exact Zac (G:=Zab kp113 [(12,4,.elem (vu (o.getD i.toNat default)))] []) 1000 [true] ⟨(atC (cd Try.f113) [1,1,1,0,1,0,0]),[(0,AV.vec fa 1 (us a)),(1,AV.vec fb 1 (us b)),(5,AV.row 0 0),(6,vu 0),(7,vi (wi (i+1)))],[⟨(us o).set i.toNat (vu (wv (wv (wv (wv (a.getD i.toNat default+1000000000)-c)-b.getD i.toNat default)-1000000000))),1,0,false,true⟩],_,[((us o).get?Internal i.toNat=some (vu (o.getD i.toNat default)))],_⟩ (by kernel_rfl) (bc (Zak (i20.2 d21)) (bc rfl (bc (Zaa.2 k5) (bc (i26.2 k27) (bc rfl b0))))) (qc (Zap k27) q0) c0 (by (try rw [w9]);(try rw [w11]);(try rw [w19]);(try rw [w23]);(try rw [w28]);(try rw [w30]);all_goals exact H)
   ·have w32:(us o).length=o.length:=List.length_map ..
    have i33:(decide (i.toNat<(us o).length))=true ↔ (i.toNat<o.length):=(by (try rw [w32]);all_goals exact Zaa)
    obtain ⟨k34,H⟩:=H
    have w35:(us o).set i.toNat (vu (a.getD i.toNat default+1000000000-c-b.getD i.toNat default))=us (o.set i.toNat (a.getD i.toNat default+1000000000-c-b.getD i.toNat default)):=(Za3 rfl rfl)
    obtain ⟨k36,H⟩:=H
    have w37:wi (i+1)=i+1:=wI64 k36
    exact Zac (G:=Zab kp113 [(12,4,.elem (vu (o.getD i.toNat default)))] []) 1000 [false] ⟨(atC (cd Try.f113) [1,1,1,0,1,0,0]),[(0,AV.vec fa 1 (us a)),(1,AV.vec fb 1 (us b)),(5,AV.row 0 0),(6,vu 1),(7,vi (wi (i+1)))],[⟨(us o).set i.toNat (vu (wv (wv (wv (a.getD i.toNat default+1000000000)-c)-b.getD i.toNat default))),1,0,false,true⟩],_,[((us o).get?Internal i.toNat=some (vu (o.getD i.toNat default)))],_⟩ (by kernel_rfl) (bc (Zah (fun h=>d21 (i20.1 h))) (bc rfl (bc (Zaa.2 k5) (bc (i33.2 k34) (bc rfl b0))))) (qc (Zap k34) q0) c0 (by (try rw [w9]);(try rw [w11]);(try rw [w19]);(try rw [w35]);(try rw [w37]);all_goals exact H)
  ·have i38:(decide (wv (wv (a.getD i.toNat default+1000000000)-c)>=1000000000))=true ↔ (a.getD i.toNat default+1000000000-c>=1000000000):=(by (try rw [w9]);(try rw [w11]);all_goals exact Zaa)
   rcases xq H with ⟨d39,H⟩|⟨d39,H⟩
   ·obtain ⟨k40,H⟩:=H
    have w41:wv (a.getD i.toNat default+1000000000-c-1000000000)=a.getD i.toNat default+1000000000-c-1000000000:=wU32 k40
    have w43:(us o).length=o.length:=List.length_map ..
    have i44:(decide (i.toNat<(us o).length))=true ↔ (i.toNat<o.length):=(by (try rw [w43]);all_goals exact Zaa)
    obtain ⟨k45,H⟩:=H
    have w46:(us o).set i.toNat (vu (a.getD i.toNat default+1000000000-c-1000000000))=us (o.set i.toNat (a.getD i.toNat default+1000000000-c-1000000000)):=(Za3 rfl rfl)
    obtain ⟨k47,H⟩:=H
    have w48:wi (i+1)=i+1:=wI64 k47
    exact Zac (G:=Zab kp113 [(12,4,.elem (vu (o.getD i.toNat default)))] []) 1000 [false,true] ⟨(atC (cd Try.f113) [1,1,1,0,1,0,0]),[(0,AV.vec fa 1 (us a)),(1,AV.vec fb 1 (us b)),(5,AV.row 0 0),(6,vu 0),(7,vi (wi (i+1)))],[⟨(us o).set i.toNat (vu (wv (wv (wv (a.getD i.toNat default+1000000000)-c)-1000000000))),1,0,false,true⟩],_,[((us o).get?Internal i.toNat=some (vu (o.getD i.toNat default)))],_⟩ (by kernel_rfl) (bc (Zah (fun h=>d14 (i13.1 h))) (bc (Zak (i38.2 d39)) (bc rfl (bc (Zaa.2 k5) (bc (i44.2 k45) (bc rfl b0)))))) (qc (Zap k45) q0) c0 (by (try rw [w9]);(try rw [w11]);(try rw [w41]);(try rw [w46]);(try rw [w48]);all_goals exact H)
   ·have w50:(us o).length=o.length:=List.length_map ..
    have i51:(decide (i.toNat<(us o).length))=true ↔ (i.toNat<o.length):=(by (try rw [w50]);all_goals exact Zaa)
    obtain ⟨k52,H⟩:=H
    have w53:(us o).set i.toNat (vu (a.getD i.toNat default+1000000000-c))=us (o.set i.toNat (a.getD i.toNat default+1000000000-c)):=(Za3 rfl rfl)
    obtain ⟨k54,H⟩:=H
    have w55:wi (i+1)=i+1:=wI64 k54
    exact Zac (G:=Zab kp113 [(12,4,.elem (vu (o.getD i.toNat default)))] []) 1000 [false,false] ⟨(atC (cd Try.f113) [1,1,1,0,1,0,0]),[(0,AV.vec fa 1 (us a)),(1,AV.vec fb 1 (us b)),(5,AV.row 0 0),(6,vu 1),(7,vi (wi (i+1)))],[⟨(us o).set i.toNat (vu (wv (wv (a.getD i.toNat default+1000000000)-c))),1,0,false,true⟩],_,[((us o).get?Internal i.toNat=some (vu (o.getD i.toNat default)))],_⟩ (by kernel_rfl) (bc (Zah (fun h=>d14 (i13.1 h))) (bc (Zah (fun h=>d39 (i38.1 h))) (bc rfl (bc (Zaa.2 k5) (bc (i51.2 k52) (bc rfl b0)))))) (qc (Zap k52) q0) c0 (by (try rw [w9]);(try rw [w11]);(try rw [w53]);(try rw [w55]);all_goals exact H)
 ·obtain ⟨k56,H⟩:=H
  exact Zai (G:=Zab kp113 [(13,1,.call (vf (us (Sp.Zb6 o))) none)] []) 1000 [false] (vf (us (Sp.Zb6 o))) (by kernel_rfl) (bc (Zah (fun h=>d3 (i2.1 h))) (bc rfl b0)) q0 (ce (@ZgK false o k56) c0) H
theorem rTimes (fa fb:Bool) (a b:List Int)  (dq:AV) (H :
  (-9223372036854775808<=(↑a.length:Int)+(↑b.length:Int)/\(↑a.length:Int)+(↑b.length:Int)<=9223372036854775807) /\
  (0<=(↑a.length:Int)+(↑b.length:Int)) /\
  (((↑a.length:Int)+(↑b.length:Int))*4<=1099511627776) /\
  ((↑a.length:Int)+(↑b.length:Int)<=1099511627776) /\
  Zcu fa fb a b (List.replicate ((↑a.length:Int)+(↑b.length:Int)).toNat (0:Int)) 0 (Zad dq)) :
 rTimes_at fa fb a b (Zad dq):=by
 unfold rTimes_at
 have w1:(us a).length=a.length:=List.length_map ..
 have w2:(us b).length=b.length:=List.length_map ..
 obtain ⟨k3,H⟩:=H
 have w4:wi ((↑a.length:Int)+(↑b.length:Int))=(↑a.length:Int)+(↑b.length:Int):=wI64 k3
 have i5:(decide (0<=wi ((↑(us a).length:Int)+(↑(us b).length:Int))))=true ↔ (0<=(↑a.length:Int)+(↑b.length:Int)):=(by (try rw [w1]);(try rw [w2]);(try rw [w4]);all_goals exact Zaa)
 obtain ⟨k6,H⟩:=H
 have i7:(decide (wi ((↑(us a).length:Int)+(↑(us b).length:Int))<=wi ((↑(us a).length:Int)+(↑(us b).length:Int))))=true ↔ ((↑a.length:Int)+(↑b.length:Int)<=(↑a.length:Int)+(↑b.length:Int)):=(by (try rw [w1]);(try rw [w2]);(try rw [w4]);all_goals exact Zaa)
 have i8:(decide (wi ((↑(us a).length:Int)+(↑(us b).length:Int))*4<=1099511627776))=true ↔ (((↑a.length:Int)+(↑b.length:Int))*4<=1099511627776):=(by (try rw [w1]);(try rw [w2]);(try rw [w4]);all_goals exact Zaa)
 obtain ⟨k9,H⟩:=H
 have i10:(decide (wi ((↑(us a).length:Int)+(↑(us b).length:Int))<=1099511627776))=true ↔ ((↑a.length:Int)+(↑b.length:Int)<=1099511627776):=(by (try rw [w1]);(try rw [w2]);(try rw [w4]);all_goals exact Zaa)
 obtain ⟨k11,H⟩:=H
 have w12:List.replicate ((↑a.length:Int)+(↑b.length:Int)).toNat (vu 0)=us (List.replicate ((↑a.length:Int)+(↑b.length:Int)).toNat (0:Int)):=(ZdJ rfl)
 exact Zac (G:=Zab kp92 [] []) 1000 [] ⟨(atC (cd Try.f92) [1,1,0,1,0,0]),[(0,AV.vec fa 1 (us a)),(1,AV.vec fb 1 (us b)),(5,AV.row 0 0),(6,vi 0)],[⟨List.replicate (wi ((↑(us a).length:Int)+(↑(us b).length:Int))).toNat (vu 0),1,0,false,true⟩],[decide (0<=wi ((↑(us a).length:Int)+(↑(us b).length:Int))),decide (wi ((↑(us a).length:Int)+(↑(us b).length:Int))<=wi ((↑(us a).length:Int)+(↑(us b).length:Int))),decide (wi ((↑(us a).length:Int)+(↑(us b).length:Int))*4<=1099511627776),decide (wi ((↑(us a).length:Int)+(↑(us b).length:Int))<=1099511627776)],[],_⟩ (by kernel_rfl) (bc (i5.2 k6) (bc (i7.2 (by omega)) (bc (i8.2 k9) (bc (i10.2 k11) b0)))) q0 c0 (by (try rw [w1]);(try rw [w2]);(try rw [w4]);(try rw [w12]);all_goals exact H)
theorem rTimesA (fa fb:Bool) (a b:List Int) (o:List Int) (i:Int)  (dq:AV) (H :
  ((i<(↑a.length:Int))->Zct fa fb a b o i 0 0 (Zad dq)) /\
  (¬(i<(↑a.length:Int))->(Sp.Zay o.length) /\
   Weak (vf (us (Sp.Zb6 o))) dq)) :
 Zcu fa fb a b o i (Zad dq):=by
 unfold Zcu
 have w1:(us a).length=a.length:=List.length_map ..
 have i2:(decide (i<(↑(us a).length:Int)))=true ↔ (i<(↑a.length:Int)):=(by (try rw [w1]);all_goals exact Zaa)
 rcases xq H with ⟨d3,H⟩|⟨d3,H⟩
 ·exact Zac (G:=Zab kp92 [] []) 1000 [true] ⟨(atC (cd Try.f92) [1,1,0,1,0,0,1,0,0,1,0,1,0,0]),[(0,AV.vec fa 1 (us a)),(1,AV.vec fb 1 (us b)),(5,AV.row 0 0),(6,vi i),(7,vw 0),(8,vi 0)],[⟨us o,1,0,false,true⟩],_,[],_⟩ (by kernel_rfl) (bc (Zak (i2.2 d3)) b0) q0 c0 H
 ·obtain ⟨k4,H⟩:=H
  exact Zai (G:=Zab kp92 [(13,1,.call (vf (us (Sp.Zb6 o))) none)] []) 1000 [false] (vf (us (Sp.Zb6 o))) (by kernel_rfl) (bc (Zah (fun h=>d3 (i2.1 h))) (bc rfl b0)) q0 (ce (@ZgK false o k4) c0) H
theorem rTimesB (fa fb:Bool) (a b:List Int) (o:List Int) (i c k:Int)  (dq:AV) (H :
  ((k<(↑b.length:Int))->(-9223372036854775808<=i+k/\i+k<=9223372036854775807) /\
   (0<=i+k) /\
   ((i+k).toNat<o.length) /\
   (0<=i) /\
   (i.toNat<a.length) /\
   (0<=k) /\
   (k.toNat<b.length) /\
   (0<=o.getD (i+k).toNat default/\o.getD (i+k).toNat default<=18446744073709551615) /\
   (0<=c+o.getD (i+k).toNat default/\c+o.getD (i+k).toNat default<=18446744073709551615) /\
   (0<=a.getD i.toNat default/\a.getD i.toNat default<=18446744073709551615) /\
   (0<=b.getD k.toNat default/\b.getD k.toNat default<=18446744073709551615) /\
   (0<=a.getD i.toNat default*b.getD k.toNat default/\a.getD i.toNat default*b.getD k.toNat default<=18446744073709551615) /\
   (0<=c+o.getD (i+k).toNat default+a.getD i.toNat default*b.getD k.toNat default/\c+o.getD (i+k).toNat default+a.getD i.toNat default*b.getD k.toNat default<=18446744073709551615) /\
   (0<=(c+o.getD (i+k).toNat default+a.getD i.toNat default*b.getD k.toNat default).tmod 1000000000/\(c+o.getD (i+k).toNat default+a.getD i.toNat default*b.getD k.toNat default).tmod 1000000000<=4294967295) /\
   (0<=(c+o.getD (i+k).toNat default+a.getD i.toNat default*b.getD k.toNat default).tdiv 1000000000/\(c+o.getD (i+k).toNat default+a.getD i.toNat default*b.getD k.toNat default).tdiv 1000000000<=18446744073709551615) /\
   (-9223372036854775808<=k+1/\k+1<=9223372036854775807) /\
   Zct fa fb a b (o.set (i+k).toNat ((c+o.getD (i+k).toNat default+a.getD i.toNat default*b.getD k.toNat default).tmod 1000000000)) i ((c+o.getD (i+k).toNat default+a.getD i.toNat default*b.getD k.toNat default).tdiv 1000000000) (k+1) (Zad dq)) /\
  (¬(k<(↑b.length:Int))->(-9223372036854775808<=i+(↑b.length:Int)/\i+(↑b.length:Int)<=9223372036854775807) /\
   (0<=i+(↑b.length:Int)) /\
   ((i+(↑b.length:Int)).toNat<o.length) /\
   (0<=c/\c<=4294967295) /\
   (-9223372036854775808<=i+1/\i+1<=9223372036854775807) /\
   Zcu fa fb a b (o.set (i+(↑b.length:Int)).toNat c) (i+1) (Zad dq))) :
 Zct fa fb a b o i c k (Zad dq):=by
 unfold Zct
 have w1:(us b).length=b.length:=List.length_map ..
 have i2:(decide (k<(↑(us b).length:Int)))=true ↔ (k<(↑b.length:Int)):=(by (try rw [w1]);all_goals exact Zaa)
 rcases xq H with ⟨d3,H⟩|⟨d3,H⟩
 ·obtain ⟨k4,H⟩:=H
  have w5:wi (i+k)=i+k:=wI64 k4
  have i6:(decide (0<=wi (i+k)))=true ↔ (0<=i+k):=(by (try rw [w5]);all_goals exact Zaa)
  obtain ⟨k7,H⟩:=H
  have w8:(us o).length=o.length:=List.length_map ..
  have i9:(decide ((wi (i+k)).toNat<(us o).length))=true ↔ ((i+k).toNat<o.length):=(by (try rw [w5]);(try rw [w8]);all_goals exact Zaa)
  obtain ⟨k10,k12,H⟩:=H
  have w13:(us a).length=a.length:=List.length_map ..
  have i14:(decide (i.toNat<(us a).length))=true ↔ (i.toNat<a.length):=(by (try rw [w13]);all_goals exact Zaa)
  obtain ⟨k15,k17,H⟩:=H
  have i18:(decide (k.toNat<(us b).length))=true ↔ (k.toNat<b.length):=(by (try rw [w1]);all_goals exact Zaa)
  obtain ⟨k19,k20,H⟩:=H
  have w21:wu (o.getD (i+k).toNat default)=o.getD (i+k).toNat default:=wU64 k20
  obtain ⟨k22,H⟩:=H
  have w23:wu (c+o.getD (i+k).toNat default)=c+o.getD (i+k).toNat default:=wU64 k22
  obtain ⟨k24,H⟩:=H
  have w25:wu (a.getD i.toNat default)=a.getD i.toNat default:=wU64 k24
  obtain ⟨k26,H⟩:=H
  have w27:wu (b.getD k.toNat default)=b.getD k.toNat default:=wU64 k26
  obtain ⟨k28,H⟩:=H
  have w29:wu (a.getD i.toNat default*b.getD k.toNat default)=a.getD i.toNat default*b.getD k.toNat default:=wU64 k28
  obtain ⟨k30,H⟩:=H
  have w31:wu (c+o.getD (i+k).toNat default+a.getD i.toNat default*b.getD k.toNat default)=c+o.getD (i+k).toNat default+a.getD i.toNat default*b.getD k.toNat default:=wU64 k30
  have i32:(decide (0<=wi (i+k)))=true ↔ (0<=i+k):=(by (try rw [w5]);all_goals exact Zaa)
  have i33:(decide ((wi (i+k)).toNat<(us o).length))=true ↔ ((i+k).toNat<o.length):=(by (try rw [w5]);(try rw [w8]);all_goals exact Zaa)
  obtain ⟨k34,H⟩:=H
  have w35:wv ((c+o.getD (i+k).toNat default+a.getD i.toNat default*b.getD k.toNat default).tmod 1000000000)=(c+o.getD (i+k).toNat default+a.getD i.toNat default*b.getD k.toNat default).tmod 1000000000:=wU32 k34
  have w36:(us o).set (i+k).toNat (vu ((c+o.getD (i+k).toNat default+a.getD i.toNat default*b.getD k.toNat default).tmod 1000000000))=us (o.set (i+k).toNat ((c+o.getD (i+k).toNat default+a.getD i.toNat default*b.getD k.toNat default).tmod 1000000000)):=(Za3 rfl rfl)
  obtain ⟨k37,H⟩:=H
  have w38:wu ((c+o.getD (i+k).toNat default+a.getD i.toNat default*b.getD k.toNat default).tdiv 1000000000)=(c+o.getD (i+k).toNat default+a.getD i.toNat default*b.getD k.toNat default).tdiv 1000000000:=wU64 k37
  obtain ⟨k39,H⟩:=H
  have w40:wi (k+1)=k+1:=wI64 k39
  exact Zac (G:=Zab kp92 [(9,6,.elem (vu (o.getD (i+k).toNat default))),(9,12,.elem (vu (a.getD i.toNat default))),(9,17,.elem (vu (b.getD k.toNat default))),(10,8,.elem (vu (o.getD (i+k).toNat default)))] []) 1000 [true] ⟨(atC (cd Try.f92) [1,1,0,1,0,0,1,0,0,1,0,1,0,0]),[(0,AV.vec fa 1 (us a)),(1,AV.vec fb 1 (us b)),(5,AV.row 0 0),(6,vi i),(7,vw (wu ((wu (wu (c+wu (o.getD (i+k).toNat default))+wu (wu (a.getD i.toNat default)*wu (b.getD k.toNat default)))).tdiv 1000000000))),(8,vi (wi (k+1)))],[⟨(us o).set (wi (i+k)).toNat (vu (wv ((wu (wu (c+wu (o.getD (i+k).toNat default))+wu (wu (a.getD i.toNat default)*wu (b.getD k.toNat default)))).tmod 1000000000))),1,0,false,true⟩],_,[((us o).get?Internal (wi (i+k)).toNat=some (vu (o.getD (i+k).toNat default))),((us a).get?Internal i.toNat=some (vu (a.getD i.toNat default))),((us b).get?Internal k.toNat=some (vu (b.getD k.toNat default))),((us o).get?Internal (wi (i+k)).toNat=some (vu (o.getD (i+k).toNat default)))],_⟩ (by kernel_rfl) (bc (Zak (i2.2 d3)) (bc rfl (bc (i6.2 k7) (bc (i9.2 k10) (bc rfl (bc (Zaa.2 k12) (bc (i14.2 k15) (bc (Zaa.2 k17) (bc (i18.2 k19) (bc rfl (bc rfl (bc (i32.2 k7) (bc (i33.2 k10) (bc rfl (bc rfl b0))))))))))))))) (qc (by (try rw [w5]);all_goals exact (Zap k10)) (qc (Zap k15) (qc (Zap k19) (qc (by (try rw [w5]);all_goals exact (Zap k10)) q0)))) c0 (by (try rw [w5]);(try rw [w21]);(try rw [w23]);(try rw [w25]);(try rw [w27]);(try rw [w29]);(try rw [w31]);(try rw [w35]);(try rw [w36]);(try rw [w38]);(try rw [w40]);all_goals exact H)
 ·obtain ⟨k41,H⟩:=H
  have w42:wi (i+(↑b.length:Int))=i+(↑b.length:Int):=wI64 k41
  have i43:(decide (0<=wi (i+(↑(us b).length:Int))))=true ↔ (0<=i+(↑b.length:Int)):=(by (try rw [w1]);(try rw [w42]);all_goals exact Zaa)
  obtain ⟨k44,H⟩:=H
  have w45:(us o).length=o.length:=List.length_map ..
  have i46:(decide ((wi (i+(↑(us b).length:Int))).toNat<(us o).length))=true ↔ ((i+(↑b.length:Int)).toNat<o.length):=(by (try rw [w1]);(try rw [w42]);(try rw [w45]);all_goals exact Zaa)
  obtain ⟨k47,k48,H⟩:=H
  have w49:wv c=c:=wU32 k48
  have w50:(us o).set (i+(↑b.length:Int)).toNat (vu c)=us (o.set (i+(↑b.length:Int)).toNat c):=(Za3 rfl rfl)
  obtain ⟨k51,H⟩:=H
  have w52:wi (i+1)=i+1:=wI64 k51
  exact Zac (G:=Zab kp92 [(12,8,.elem (vu (o.getD (i+(↑b.length:Int)).toNat default)))] []) 1000 [false] ⟨(atC (cd Try.f92) [1,1,0,1,0,0]),[(0,AV.vec fa 1 (us a)),(1,AV.vec fb 1 (us b)),(5,AV.row 0 0),(6,vi (wi (i+1)))],[⟨(us o).set (wi (i+(↑(us b).length:Int))).toNat (vu (wv c)),1,0,false,true⟩],_,[((us o).get?Internal (wi (i+(↑(us b).length:Int))).toNat=some (vu (o.getD (i+(↑b.length:Int)).toNat default)))],_⟩ (by kernel_rfl) (bc (Zah (fun h=>d3 (i2.1 h))) (bc rfl (bc (i43.2 k44) (bc (i46.2 k47) (bc rfl b0))))) (qc (by (try rw [w1]);(try rw [w42]);all_goals exact (Zap k47)) q0) c0 (by (try rw [w1]);(try rw [w42]);(try rw [w49]);(try rw [w50]);(try rw [w52]);all_goals exact H)
end Go.Av

namespace Go.Av
open Go.Proofs
theorem big_lim (f s:Bool) (v:Nat):bigA f (Sp.sg s v) = .agg [.bool (bif s then decide (((Sp.lim v).length:Int)>0) else false),.vec f 1 ((Sp.lim v).map (.int .u32))]:=by
 rw [big_sg]
 have hc:=ZaC (v:=v)
 have e:decide (v ≠ 0)=decide (((Sp.lim v).length:Int)>0):=by
  rw [decide_eq_decide,ZaG];omega
 rw [e]
theorem rsignedN (s fa:Bool) (k v:Nat) (h:Sp.Zay k/\Sp.fits k v):Ev M1 (.pure 87 [.bool s,usA fa (Sp.Zaq k v)]) (bigA false (Sp.sg s v)) []:=by
 refine call87 (rSigned _ _ _ _ _ ⟨h,?_⟩)
 rw [big_lim];exact .refl _
theorem ev87_a (s fa:Bool) (v:Int) (h:Sp.ok v):Ev M1 (.pure 87 [.bool s,usA fa (Sp.Zau v)]) (bigA false (Sp.sg s v.natAbs)) []:=rsignedN s fa _ _ ⟨h,Zag _⟩
theorem ZeN (s fa:Bool) (v:Nat) (h:Sp.Zay (Sp.cnt v)):Ev M1 (.pure 87 [.bool s,usA fa (Sp.lim v)]) (bigA false (Sp.sg s v)) []:=rsignedN s fa _ _ ⟨h,Zag _⟩
theorem cnt_u64 {u:Nat} (h:u<=18446744073709551615):Sp.cnt u<=3:=Zav.1 (fits3 h)
theorem ev60 (n:Int) (h:Sp.inI n):Ev M1 (.pure 60 [.int .i64 n]) (bigA false n) []:=by
 unfold Sp.inI at h
 refine call60 (rFromInt64 n _ ⟨fun k => ?_,fun k => ?_⟩)
 ·have e1:IntKind.u64.wrap (0-IntKind.u64.wrap n) = -n:=by
   rw [wrap_neg ⟨h.1,k⟩]
   have e1:(2:Int) ^ IntKind.u64.bits=18446744073709551616:=rfl
   have e3:IntKind.u64.signed=false:=rfl
   simp only [IntKind.wrap,e1,e3,Bool.false_and,Bool.false_eq_true,if_false]
   omega
  have e2:Sp.sg true (-n).toNat=n:=by unfold Sp.sg;rw [if_pos rfl];omega
  rw [e1]
  have:=ZeN true false (-n).toNat (by have:=cnt_u64 (u:=(-n).toNat) (by omega);unfold Sp.Zay;omega)
  rw [e2] at this
  exact ⟨by omega,_,_,this,.refl _⟩
 ·have e1:IntKind.u64.wrap n=n:=wU64 ⟨by omega,by omega⟩
  have e2:Sp.sg false n.toNat=n:=by rw [Zb1];omega
  rw [e1]
  have:=ZeN false false n.toNat (by have:=cnt_u64 (u:=n.toNat) (by omega);unfold Sp.Zay;omega)
  rw [e2] at this
  exact ⟨by omega,_,_,this,.refl _⟩
theorem ZbS {k v:Nat} (h:Sp.fits k v):Sp.Zb6 (Sp.Zaq k v)=Sp.lim v:=by
 unfold Sp.Zb6
 rw [Zal];exact ZeS k v h
theorem set_last {o:List Int} {n:Nat} {c:Int} (h:o.length=n+1):o.set n c=o.take n++[c]:=by
 have:=ZaT (o:=o) (i:=n) (d:=c) (by omega)
 rwa [List.take_of_length_le (by simp;omega)] at this
theorem Zgx {fa fb:Bool} {n m v w:Nat} {R:List Int} (hn:n<=900000) (hmn:m<=n) (hv:Sp.fits n v) (hw:Sp.fits m w):∀ (k i:Nat) (o:List Int) (c:Nat),i+k=n->c<=1->o.length=n+1 ->
  o.take i++Sp.Zaq (k+1) (v / 1000000000 ^ i+w / 1000000000 ^ i+c)=R->Zb8 fa fb (Sp.Zaq n v) (Sp.Zaq m w) o c i (Zad (usA false (Sp.Zb6 R)))
 | 0,i,o,c,hi,hc,hol,hq=>by
  have hi:i=n:=by omega
  subst hi
  rw [ZaE hv (by omega),ZaE hw (by omega)] at hq
  have e:Sp.Zaq 1 (0+0+c)=[(c:Int)]:=by simp [Sp.Zaq];omega
  rw [Nat.zero_add,e,<- set_last hol] at hq
  refine rPlusA _ _ _ _ _ _ _ _ ⟨fun h=>by rw [Zal] at h;omega,fun _ => ?_⟩
  rw [Zal,Int.toNat_natCast,hq]
  have hR:R.length=i+1:=by rw [<- hq];simpa using hol
  exact ⟨by omega,by omega,by unfold Sp.Zay;omega,.refl _⟩
 | k+1,i,o,c,hi,hc,hol,hq=>by
  have gx:=Zaw v (show i<n by omega)
  rw [plus_step,ZaU,ZaU] at hq
  have nxt:∀ (d c':Int),d=(((v / 1000000000 ^ i % 1000000000+w / 1000000000 ^ i % 1000000000+c) % 1000000000:Nat):Int)->c'=(((v / 1000000000 ^ i % 1000000000+w / 1000000000 ^ i % 1000000000+c) / 1000000000:Nat):Int)->(v / 1000000000 ^ i % 1000000000+w / 1000000000 ^ i % 1000000000+c) / 1000000000<=1->Zb8 fa fb (Sp.Zaq n v) (Sp.Zaq m w) (o.set i d) c' ((i:Int)+1) (Zad (usA false (Sp.Zb6 R))):=by
   intro d c' hd hc' hc1
   subst hc'
   refine Zgx hn hmn hv hw k (i+1) (o.set i d) _ (by omega) hc1 (by simpa using hol) ?_
   rw [ZaT (by omega),<- hq,hd,List.append_assoc];rfl
  refine rPlusA _ _ _ _ _ _ _ _ ⟨fun _ => ?_,fun h=>by rw [Zal] at h;omega⟩
  rw [Int.toNat_natCast,gx,Zal,Zal]
  by_cases him:i<m
  ·rw [Zaw w him]
   generalize v / 1000000000 ^ i=V at nxt
   generalize w / 1000000000 ^ i=W at nxt
   have e3:(c:Int)+((V % 1000000000:Nat):Int)+((W % 1000000000:Nat):Int)=((V % 1000000000+W % 1000000000+c:Nat):Int):=by omega
   rw [e3,tdivB,tmodB]
   exact ⟨by omega,by omega,by omega,fun _=>⟨by omega,by omega,by omega,by omega,by omega,nxt _ _ rfl rfl (by omega)⟩,fun h=>by omega⟩
  ·have hW:=ZaE hw (show m<=i by omega)
   rw [hW] at nxt
   generalize v / 1000000000 ^ i=V at nxt
   have e3:(c:Int)+((V % 1000000000:Nat):Int)=((V % 1000000000+0 % 1000000000+c:Nat):Int):=by omega
   rw [e3,tdivB,tmodB]
   exact ⟨by omega,by omega,by omega,fun h=>by omega,fun _=>⟨by omega,by omega,by omega,nxt _ _ rfl rfl (by omega)⟩⟩
theorem rplusN (fa fb:Bool) (v w:Nat) (h1:Sp.cnt v<=900000) (h2:Sp.cnt w<=900000):Ev M1 (.pure 112 [usA fa (Sp.lim v),usA fb (Sp.lim w)]) (usA false (Sp.lim (v+w))) []:=by
 refine call112 (rPlus _ _ _ _ _ ?_)
 rw [ZaG,ZaG]
 refine ⟨fun k=>⟨by omega,by omega,by omega,by omega,?_⟩,fun k=>⟨by omega,by omega,by omega,by omega,?_⟩⟩
 ·have hf:Sp.fits (Sp.cnt w+1) (w+v):=ZeL (Zag w) (ZaW (Zag v) (by omega))
  have e:((Sp.cnt w:Int)+1).toNat=Sp.cnt w+1:=by omega
  have:=Zgx (fa:=fb) (fb:=fa) (v:=w) (w:=v) (R:=Sp.Zaq (Sp.cnt w+1) (w+v)) h2 (show Sp.cnt v<=Sp.cnt w by omega) (Zag _) (Zag _) (Sp.cnt w) 0 (List.replicate (Sp.cnt w+1) 0) 0 (by omega) (by omega) (by simp) (by simp)
  rw [ZbS hf,Nat.add_comm w v] at this
  rw [e];exact this
 ·have hf:Sp.fits (Sp.cnt v+1) (v+w):=ZeL (Zag v) (ZaW (Zag w) (by omega))
  have e:((Sp.cnt v:Int)+1).toNat=Sp.cnt v+1:=by omega
  have:=Zgx (fa:=fa) (fb:=fb) (v:=v) (w:=w) (R:=Sp.Zaq (Sp.cnt v+1) (v+w)) h1 (show Sp.cnt w<=Sp.cnt v by omega) (Zag _) (Zag _) (Sp.cnt v) 0 (List.replicate (Sp.cnt v+1) 0) 0 (by omega) (by omega) (by simp) (by simp)
  rw [ZbS hf] at this
  rw [e];exact this
theorem ev112 (fa fb:Bool) (v w:Int) (h:Sp.okB v/\Sp.okB w):Ev M1 (.pure 112 [usA fa (Sp.Zau v),usA fb (Sp.Zau w)]) (usA false (Sp.lim (v.natAbs+w.natAbs))) []:=
 rplusN fa fb _ _ (by have:=h.1;unfold Sp.okB at this;omega) (by have:=h.2;unfold Sp.okB at this;omega)
theorem Ze5 {fa fb:Bool} {n m v w:Nat} {R:List Int} (hn:n<=1000000) (hv:Sp.fits n v) (hw:Sp.fits m w) (hm:m<=1000000):∀ (k i:Nat) (o:List Int) (c:Nat),i+k=n->c<=1->o.length=n->w / 1000000000 ^ i+c<=v / 1000000000 ^ i ->
  o.take i++Sp.Zaq k (v / 1000000000 ^ i-w / 1000000000 ^ i-c)=R->Zbm fa fb (Sp.Zaq n v) (Sp.Zaq m w) o c i (Zad (usA false (Sp.Zb6 R)))
 | 0,i,o,c,hi,hc,hol,hle,hq=>by
  rw [List.take_of_length_le (by omega),Sp.Zaq,List.append_nil] at hq
  refine rMinusA _ _ _ _ _ _ _ _ ⟨fun h=>by rw [Zal] at h;omega,fun _ => ?_⟩
  rw [hq]
  rw [hq] at hol
  exact ⟨by unfold Sp.Zay;omega,.refl _⟩
 | k+1,i,o,c,hi,hc,hol,hle,hq=>by
  have gx:=Zaw v (show i<n by omega)
  obtain ⟨s1,s2⟩:=Zhv k (v / 1000000000 ^ i) (w / 1000000000 ^ i) c hle hc
  rw [ZaU,ZaU] at s1 s2
  have nxt1:v / 1000000000 ^ i % 1000000000<w / 1000000000 ^ i % 1000000000+c -> ∀ d:Int,((v / 1000000000 ^ i % 1000000000+1000000000-(w / 1000000000 ^ i % 1000000000+c):Nat):Int)=d->Zbm fa fb (Sp.Zaq n v) (Sp.Zaq m w) (o.set i d) (1:Nat) ((i:Int)+1) (Zad (usA false (Sp.Zb6 R))):=by
   intro hlt d hd
   obtain ⟨t1,t2⟩:=s1 hlt
   refine Ze5 hn hv hw hm k (i+1) (o.set i d) 1 (by omega) (by omega) (by simpa using hol) t2 ?_
   rw [ZaT (by omega),<- hq,t1,hd,List.append_assoc];rfl
  have nxt0:¬v / 1000000000 ^ i % 1000000000<w / 1000000000 ^ i % 1000000000+c -> ∀ d:Int,((v / 1000000000 ^ i % 1000000000-(w / 1000000000 ^ i % 1000000000+c):Nat):Int)=d->Zbm fa fb (Sp.Zaq n v) (Sp.Zaq m w) (o.set i d) (0:Nat) ((i:Int)+1) (Zad (usA false (Sp.Zb6 R))):=by
   intro hlt d hd
   obtain ⟨t1,t2⟩:=s2 hlt
   refine Ze5 hn hv hw hm k (i+1) (o.set i d) 0 (by omega) (by omega) (by simpa using hol) t2 ?_
   rw [ZaT (by omega),<- hq,t1,hd,List.append_assoc];rfl
  refine rMinusA _ _ _ _ _ _ _ _ ⟨fun _ => ?_,fun h=>by rw [Zal] at h;omega⟩
  rw [Int.toNat_natCast,gx,Zal,Zal]
  by_cases him:i<m
  ·rw [Zaw w him]
   generalize v / 1000000000 ^ i=V at nxt0 nxt1
   generalize w / 1000000000 ^ i=W at nxt0 nxt1
   exact ⟨by omega,by omega,by omega,by omega,fun _=>⟨by omega,by omega,fun h=>⟨by omega,by omega,by omega,nxt0 (by omega) _ (by omega)⟩,fun h=>⟨by omega,by omega,nxt1 (by omega) _ (by omega)⟩⟩,fun h=>by omega⟩
  ·have hW:=ZaE hw (show m<=i by omega)
   rw [hW] at nxt0 nxt1
   generalize v / 1000000000 ^ i=V at nxt0 nxt1
   exact ⟨by omega,by omega,by omega,by omega,fun h=>by omega,fun _=>⟨fun h=>⟨by omega,by omega,by omega,nxt0 (by omega) _ (by omega)⟩,fun h=>⟨by omega,by omega,nxt1 (by omega) _ (by omega)⟩⟩⟩
theorem rminusN (fa fb:Bool) (v w:Nat) (h1:Sp.cnt v<=1000000) (h3:w<=v):Ev M1 (.pure 113 [usA fa (Sp.lim v),usA fb (Sp.lim w)]) (usA false (Sp.lim (v-w))) []:=by
 have h2:=ZaQ h3
 refine call113 (rMinus _ _ _ _ _ ?_)
 rw [ZaG,Int.toNat_natCast]
 refine ⟨by omega,by omega,by omega,?_⟩
 have:=Ze5 (fa:=fa) (fb:=fb) (v:=v) (w:=w) (R:=Sp.Zaq (Sp.cnt v) (v-w)) h1 (Zag _) (Zag w) (by omega) (Sp.cnt v) 0 (List.replicate (Sp.cnt v) 0) 0 (by omega) (by omega) (by simp) (by simpa using h3) (by simp)
 rw [ZbS (ZcG (Zag v) (Nat.sub_le _ _))] at this
 exact this
theorem ev113 (fa fb:Bool) (v w:Int) (h:Sp.ok v/\w.natAbs<=v.natAbs):Ev M1 (.pure 113 [usA fa (Sp.Zau v),usA fb (Sp.Zau w)]) (usA false (Sp.lim (v.natAbs-w.natAbs))) []:=rminusN fa fb _ _ h.1 h.2
theorem ev113_a (fa fb:Bool) (v w:Nat) (h:Sp.Zay (Sp.cnt v)/\w<=v):Ev M1 (.pure 113 [usA fa (Sp.lim v),usA fb (Sp.lim w)]) (usA false (Sp.lim (v-w))) []:=rminusN fa fb _ _ h.1 h.2
theorem Zgv {fa fb:Bool} {n v m w i K:Nat} {Q0:List Int} {Q:AV} (hm:m<=1000000) (hn:n<=1000000) (hi:i<n) (hK:K<=1000000) (hw:Sp.fits m w)
  (hq:∀ o:List Int,o=Q0++Sp.zs K->Zcu fa fb (Sp.Zaq n v) (Sp.Zaq m w) o ((i:Int)+1) (Zad Q)) :
  ∀ (r j:Nat) (o:List Int) (U c:Nat),j+r=m->o.length=i+m+1+K->c<1000000000->Sp.fits r U->o.drop (i+j)=Sp.Zaq r U++Sp.zs (K+1)->o.take (i+j)++Sp.Zaq (r+1) (U+v / 1000000000 ^ i % 1000000000*(w / 1000000000 ^ j)+c)=Q0 ->
   Zct fa fb (Sp.Zaq n v) (Sp.Zaq m w) o i c j (Zad Q)
 | 0,j,o,U,c,hj,hol,hc,hU,ho,hQ=>by
  have hU0:=Za6.1 hU
  have hj':j=m:=by omega
  subst hj'
  rw [ZaE hw (Nat.le_refl _),hU0,Nat.mul_zero] at hQ
  have e:Sp.Zaq 1 (0+0+c)=[(c:Int)]:=by simp [Sp.Zaq];omega
  rw [Nat.zero_add,e] at hQ
  rw [hU0,Sp.Zaq,List.nil_append] at ho
  refine rTimesB _ _ _ _ _ _ _ _ _ ⟨fun h=>by rw [Zal] at h;omega,fun _ => ?_⟩
  rw [Zal]
  have e1:((i:Int)+(j:Int)).toNat=i+j:=by omega
  rw [e1]
  refine ⟨by omega,by omega,by omega,by omega,by omega,hq _ ?_⟩
  have ho2:o.drop (i+j+1)=Sp.zs K:=by
   rw [show i+j+1=1+(i+j) by omega,Nat.add_comm 1,<- List.drop_drop,ho];rfl
  rw [<- hQ,<- ho2]
  rw [List.set_eq_take_append_cons_drop,if_pos (by omega),List.append_assoc];rfl
 | r+1,j,o,U,c,hj,hol,hc,hU,ho,hQ=>by
  have gx:=Zaw v hi
  have gy:=Zaw w (show j<m by omega)
  have hx:v / 1000000000 ^ i % 1000000000<1000000000:=Nat.mod_lt _ (by omega)
  have e1:((i:Int)+(j:Int)).toNat=i+j:=by omega
  have hod:=ZbA (d:=o) (i:=i+j) (by omega)
  rw [ho,Zaz,List.cons_append] at hod
  obtain ⟨g1,g2⟩:=List.cons.inj hod
  have hu:U % 1000000000<1000000000:=Nat.mod_lt _ (by omega)
  have hy:w / 1000000000 ^ j % 1000000000<1000000000:=Nat.mod_lt _ (by omega)
  obtain ⟨w1,w2⟩:=Zhe hu hx hy hc
  rw [Zhf,ZaU] at hQ
  refine rTimesB _ _ _ _ _ _ _ _ _ ⟨fun _ => ?_,fun h=>by rw [Zal] at h;omega⟩
  rw [Int.toNat_natCast,Int.toNat_natCast,e1,gy,gx,Zal,Zal,<- g1]
  have c1:((v / 1000000000 ^ i % 1000000000:Nat):Int)*((w / 1000000000 ^ j % 1000000000:Nat):Int)=((v / 1000000000 ^ i % 1000000000*(w / 1000000000 ^ j % 1000000000):Nat):Int):=(Int.natCast_mul _ _).symm
  rw [c1]
  have main:∀ d c':Int,d=(((U % 1000000000+v / 1000000000 ^ i % 1000000000*(w / 1000000000 ^ j % 1000000000)+c) % 1000000000:Nat):Int)->c'=(((U % 1000000000+v / 1000000000 ^ i % 1000000000*(w / 1000000000 ^ j % 1000000000)+c) / 1000000000:Nat):Int) ->
    Zct fa fb (Sp.Zaq n v) (Sp.Zaq m w) (o.set (i+j) d) i c' ((j:Int)+1) (Zad Q):=by
   intro d c' hd hc'
   subst hc'
   refine Zgv hm hn hi hK hw hq r (j+1) _ (U / 1000000000) _ (by omega) (by simpa using hol) w2 (ZbN.1 hU) ?_ ?_
   ·rw [show i+(j+1)=i+j+1 by omega,List.drop_set_of_lt (by omega),<- g2]
   ·rw [show i+(j+1)=i+j+1 by omega,ZaT (by omega),<- hQ,hd,List.append_assoc];rfl
  have hx':((v / 1000000000 ^ i % 1000000000:Nat):Int)<=18446744073709551615:=by
   generalize v / 1000000000 ^ i % 1000000000=z at hx;omega
  have hy':((w / 1000000000 ^ j % 1000000000:Nat):Int)<=18446744073709551615:=by
   generalize w / 1000000000 ^ j % 1000000000=z at hy;omega
  generalize v / 1000000000 ^ i % 1000000000*(w / 1000000000 ^ j % 1000000000)=p at w1 w2 main
  have hu':((U % 1000000000:Nat):Int)<1000000000:=by omega
  generalize U % 1000000000=u at w1 w2 main hu'
  have c2:((c:Nat):Int)+((u:Nat):Int)+((p:Nat):Int)=((u+p+c:Nat):Int):=by omega
  rw [c2,tdivB,tmodB]
  exact ⟨by omega,by omega,by omega,by omega,by omega,by omega,by omega,by omega,by omega,⟨Int.natCast_nonneg _,hx'⟩,⟨Int.natCast_nonneg _,hy'⟩,by omega,by omega,by omega,by omega,by omega,main _ _ rfl rfl⟩
theorem Zgw {fa fb:Bool} {n m v w:Nat} {R:List Int} (hn:n<=400000) (hm:m<=400000) (hv:Sp.fits n v) (hw:Sp.fits m w) :
  ∀ (k i:Nat) (o:List Int) (U:Nat),i+k=n->o.length=n+m->Sp.fits m U->o.drop i=Sp.Zaq m U++Sp.zs k->o.take i++Sp.Zaq (m+k) (U+v / 1000000000 ^ i*w)=R->Zcu fa fb (Sp.Zaq n v) (Sp.Zaq m w) o i (Zad (usA false (Sp.Zb6 R)))
 | 0,i,o,U,hi,hol,hU,ho,hR=>by
  have hi':i=n:=by omega
  subst hi'
  rw [ZaE hv (Nat.le_refl _),Nat.zero_mul,Nat.add_zero,Nat.add_zero] at hR
  have e:Sp.Zaq m U++Sp.zs 0=Sp.Zaq m U:=by simp [Sp.zs]
  rw [e] at ho
  rw [<- ho,List.take_append_drop] at hR
  refine rTimesA _ _ _ _ _ _ _ ⟨fun h=>by rw [Zal] at h;omega,fun _ => ?_⟩
  rw [hR]
  rw [hR] at hol
  exact ⟨by unfold Sp.Zay;omega,.refl _⟩
 | k+1,i,o,U,hi,hol,hU,ho,hR=>by
  have hx:v / 1000000000 ^ i % 1000000000<1000000000:=Nat.mod_lt _ (by omega)
  refine rTimesA _ _ _ _ _ _ _ ⟨fun _ => ?_,fun h=>by rw [Zal] at h;omega⟩
  have hf:Sp.fits (m+1) (U+v / 1000000000 ^ i % 1000000000*w):=fits_mul rfl hU hw hx
  have step:U+v / 1000000000 ^ i*w=U+v / 1000000000 ^ i % 1000000000*w+1000000000*(v / 1000000000 ^ (i+1)*w):=by
   have hs:=ZaN v i
   generalize v / 1000000000 ^ (i+1)=V' at hs ⊢
   generalize v / 1000000000 ^ i % 1000000000=d at hs ⊢
   rw [hs];grind
  refine Zgv (Q0:=o.take i++Sp.Zaq (m+1) (U+v / 1000000000 ^ i % 1000000000*w)) (K:=k) (by omega) (by omega) (by omega) (by omega) hw (fun o' ho' => ?_) m 0 o U 0 (by omega) (by omega) (by omega) hU ho (by simp)
  have hlen:(o.take i).length=i:=by rw [List.length_take];omega
  refine Zgw hn hm hv hw k (i+1) o' ((U+v / 1000000000 ^ i % 1000000000*w) / 1000000000) (by omega) ?_ (ZbN.1 hf) ?_ ?_
  ·rw [ho']
   simp only [List.length_append,hlen,Zal,Sp.zs,List.length_replicate]
   omega
  ·rw [ho',Zaz]
   have e1:i+1=(o.take i++[(((U+v / 1000000000 ^ i % 1000000000*w) % 1000000000:Nat):Int)]).length:=by simp [hlen]
   rw [e1]
   have e2:o.take i++((((U+v / 1000000000 ^ i % 1000000000*w) % 1000000000:Nat):Int)::Sp.Zaq m ((U+v / 1000000000 ^ i % 1000000000*w) / 1000000000))++Sp.zs k
     = (o.take i++[(((U+v / 1000000000 ^ i % 1000000000*w) % 1000000000:Nat):Int)])++(Sp.Zaq m ((U+v / 1000000000 ^ i % 1000000000*w) / 1000000000)++Sp.zs k):=by simp
   rw [e2,List.drop_left]
  ·rw [<- hR,ho',Zaz,show m+(k+1)=(m+k)+1 by omega,Zaz (m+k)]
   have e1:i+1=(o.take i++[(((U+v / 1000000000 ^ i % 1000000000*w) % 1000000000:Nat):Int)]).length:=by simp [hlen]
   have e2:o.take i++((((U+v / 1000000000 ^ i % 1000000000*w) % 1000000000:Nat):Int)::Sp.Zaq m ((U+v / 1000000000 ^ i % 1000000000*w) / 1000000000))++Sp.zs k
     = (o.take i++[(((U+v / 1000000000 ^ i % 1000000000*w) % 1000000000:Nat):Int)])++(Sp.Zaq m ((U+v / 1000000000 ^ i % 1000000000*w) / 1000000000)++Sp.zs k):=by simp
   rw [e2,e1,List.take_left,List.append_assoc]
   have e3:(U+v / 1000000000 ^ i*w) % 1000000000=(U+v / 1000000000 ^ i % 1000000000*w) % 1000000000:=by rw [step];omega
   have e4:(U+v / 1000000000 ^ i*w) / 1000000000=(U+v / 1000000000 ^ i % 1000000000*w) / 1000000000+v / 1000000000 ^ (i+1)*w:=by rw [step];omega
   rw [e3,e4,<- e1];rfl
theorem rtimesN (fa fb:Bool) (n v m w:Nat) (h:n<=400000/\m<=400000/\Sp.fits n v/\Sp.fits m w):Ev M1 (.pure 92 [usA fa (Sp.Zaq n v),usA fb (Sp.Zaq m w)]) (usA false (Sp.lim (v*w))) []:=by
 obtain ⟨h1,h2,h3,h4⟩:=h
 refine call92 (rTimes _ _ _ _ _ ?_)
 rw [Zal,Zal]
 have e:((n:Int)+(m:Int)).toNat=n+m:=by omega
 rw [e]
 refine ⟨by omega,by omega,by omega,by omega,?_⟩
 have:=Zgw (fa:=fa) (fb:=fb) (R:=Sp.Zaq (n+m) (v*w)) h1 h2 h3 h4 n 0 (List.replicate (n+m) 0) 0 (by omega) (by simp) (Zav.2 (by rw [Zbw];omega)) (by
  rw [List.drop_zero,ZgA];unfold Sp.zs;rw [List.replicate_append_replicate,Nat.add_comm]) (by simp [Nat.add_comm])
 rw [ZbS (Zc5 h3 h4)] at this
 exact this
theorem ev92_a (fa fb:Bool) (v w:Nat) (h:Sp.okB v/\Sp.okB w):Ev M1 (.pure 92 [usA fa (Sp.lim v),usA fb (Sp.lim w)]) (usA false (Sp.lim (v*w))) []:=rtimesN fa fb _ _ _ _ ⟨h.1,h.2,Zag _,Zag _⟩
end Go.Av

namespace Go.Av
open Go.Proofs
set_option maxRecDepth 100000
def fi54:Fi:=⟨9,[.cell 2 28]⟩
def kp54:List (Nat × List Nat):=[(0,[1,2]),(1,[2])]
def fi89:Fi:=⟨40,[.cell 4 28]⟩
def kp89:List (Nat × List Nat):=[(0,[2,3,4]),(1,[2,3,4,9]),(2,[4]),(3,[2,3,4,23]),(4,[4]),(5,[4])]
def fi111:Fi:=⟨9,[.cell 4 28]⟩
def kp111:List (Nat × List Nat):=[(0,[2,3,4]),(1,[4])]
def fi116:Fi:=⟨10,[.tmp 4]⟩
def kp116:List (Nat × List Nat):=[(0,[0,1]),(1,[4])]
def rSub_at (fa fb:Bool) (a b:Int) (Q:AV->Heap->Prop):Prop:=Wp M1 (.run fi111 (atC (cd Try.f111) []) [(0,bigA fa a),(1,bigA fb b)] []) Q
def rAdd_at (fa fb:Bool) (a b:Int) (Q:AV->Heap->Prop):Prop:=Wp M1 (.run fi89 (atC (cd Try.f89) []) [(0,bigA fa a),(1,bigA fb b)] []) Q
def rNeg_at (fa:Bool) (v:Int) (Q:AV->Heap->Prop):Prop:=Wp M1 (.run fi54 (atC (cd Try.f54) []) [(0,bigA fa v)] []) Q
def rBy_at (fa:Bool) (v:Nat) (x:Int) (Q:AV->Heap->Prop):Prop:=Wp M1 (.run fi116 (atC (cd Try.f116) []) [(0,.vec fa 1 ((Sp.lim v).map (.int .u32))),(1,.int .u32 x)] []) Q
theorem call54 {args:List AV} {d:AV} (h:wc M1 fi54 Try.f54 args d):Ev M1 (.pure 54 args) d []:=pcl _ _ (by kernel_rfl) h
theorem call89 {args:List AV} {d:AV} (h:wc M1 fi89 Try.f89 args d):Ev M1 (.pure 89 args) d []:=pcl _ _ (by kernel_rfl) h
theorem call111 {args:List AV} {d:AV} (h:wc M1 fi111 Try.f111 args d):Ev M1 (.pure 111 args) d []:=pcl _ _ (by kernel_rfl) h
theorem call116 {args:List AV} {d:AV} (h:wc M1 fi116 Try.f116 args d):Ev M1 (.pure 116 args) d []:=pcl _ _ (by kernel_rfl) h
theorem rSub (fa fb:Bool) (a b:Int)  (dq:AV) (H :
  ∃ (b1:Bool) (l1:List Int),
  (Ev M1 (Conf.pure 54 [bigA fb b]) (ag [vb b1,vf (us l1)]) []) /\
  ∃ (b2:Bool) (l2:List Int),
  (Ev M1 (Conf.pure 89 [bigA fa a,ag [vb b1,vf (us l1)]]) (ag [vb b2,vf (us l2)]) []) /\
  Weak (ag [vb b2,vf (us l2)]) dq) :
 rSub_at fa fb a b (Zad dq):=by
 unfold rSub_at
 obtain ⟨b1,l1,k1,b2,l2,k2,H⟩:=H
 exact Zai (G:=Zab kp111 [(1,2,.call (ag [vb b1,vf (us l1)]) none),(1,3,.call (ag [vb b2,vf (us l2)]) none)] []) 1000 [] (ag [vb b2,vf (us l2)]) (by kernel_rfl) (bc rfl (bc rfl (bc rfl b0))) q0 (ce k1 (ce k2 c0)) H
theorem rAdd (fa fb:Bool) (a b:Int)  (dq:AV) (H :
  ((Sp.Zaf a=Sp.Zaf b)->(Sp.okB a/\Sp.okB b) /\
   (Sp.Zay (Sp.cnt (a.natAbs+b.natAbs))) /\
   Weak (bigA false (Sp.sg (Sp.Zaf a) (a.natAbs+b.natAbs))) dq) /\
  (¬(Sp.Zaf a=Sp.Zaf b)->(Sp.ok a/\Sp.ok b) /\
   ((Sp.sgnI ((↑a.natAbs:Int)-(↑b.natAbs:Int))>=0)->(Sp.ok a/\b.natAbs<=a.natAbs) /\
    (Sp.Zay (Sp.cnt (a.natAbs-b.natAbs))) /\
    Weak (bigA false (Sp.sg (Sp.Zaf a) (a.natAbs-b.natAbs))) dq) /\
   (¬(Sp.sgnI ((↑a.natAbs:Int)-(↑b.natAbs:Int))>=0)->(Sp.ok b/\a.natAbs<=b.natAbs) /\
    (Sp.Zay (Sp.cnt (b.natAbs-a.natAbs))) /\
    Weak (bigA false (Sp.sg (Sp.Zaf b) (b.natAbs-a.natAbs))) dq))) :
 rAdd_at fa fb a b (Zad dq):=by
 unfold rAdd_at
 rcases xq H with ⟨d2,H⟩|⟨d2,H⟩
 ·obtain ⟨k3,k4,H⟩:=H
  exact Zai (G:=Zab kp89 [(2,6,.call (vf (us (Sp.lim (a.natAbs+b.natAbs)))) none),(2,7,.call (bigA false (Sp.sg (Sp.Zaf a) (a.natAbs+b.natAbs))) none)] []) 1000 [true] (bigA false (Sp.sg (Sp.Zaf a) (a.natAbs+b.natAbs))) (by kernel_rfl) (bc rfl (bc rfl (bc (Zak (i_eq.2 d2)) (bc rfl (bc rfl (bc rfl (bc rfl b0))))))) q0 (ce (@ev112 fa fb a b k3) (ce (@ZeN (Sp.Zaf a) false (a.natAbs+b.natAbs) k4) c0)) H
 ·obtain ⟨k5,H⟩:=H
  refine Zac (G:=Zab kp89 [(3,4,.call (vi (Sp.sgnI ((↑a.natAbs:Int)-(↑b.natAbs:Int)))) none)] []) 10 [false] ⟨(atC (cd Try.f89) [1,1,0,1]),[(2,AV.ptr 0 0 0 0),(3,AV.ptr 1 0 0 0),(4,AV.ptr 2 0 0 0),(23,vb (decide (Sp.sgnI ((↑a.natAbs:Int)-(↑b.natAbs:Int))>=0)))],[⟨[bigA fa a],2,0,false,false⟩,⟨[bigA fb b],2,0,false,false⟩,⟨[ag [vb false,AV.vnil]],2,0,false,false⟩],_,[],_⟩ (by kernel_rfl) (bc rfl (bc rfl (bc (Zah (fun h=>d2 (i_eq.1 h))) (bc rfl (bc rfl b0))))) q0 (ce (@ev91 fa fb a b k5) c0) ?_
  rcases xq H with ⟨d7,H⟩|⟨d7,H⟩
  ·obtain ⟨k8,k9,H⟩:=H
   exact Zai (G:=Zab kp89 [(4,6,.call (vf (us (Sp.lim (a.natAbs-b.natAbs)))) none),(4,7,.call (bigA false (Sp.sg (Sp.Zaf a) (a.natAbs-b.natAbs))) none)] []) 1000 [true] (bigA false (Sp.sg (Sp.Zaf a) (a.natAbs-b.natAbs))) (by kernel_rfl) (bc (Zak (Zaa.2 d7)) (bc rfl (bc rfl (bc rfl (bc rfl b0))))) q0 (ce (@ev113 fa fb a b k8) (ce (@ZeN (Sp.Zaf a) false (a.natAbs-b.natAbs) k9) c0)) H
  ·obtain ⟨k10,k11,H⟩:=H
   exact Zai (G:=Zab kp89 [(5,6,.call (vf (us (Sp.lim (b.natAbs-a.natAbs)))) none),(5,7,.call (bigA false (Sp.sg (Sp.Zaf b) (b.natAbs-a.natAbs))) none)] []) 1000 [false] (bigA false (Sp.sg (Sp.Zaf b) (b.natAbs-a.natAbs))) (by kernel_rfl) (bc (Zah (fun h=>d7 (Zaa.1 h))) (bc rfl (bc rfl (bc rfl (bc rfl b0))))) q0 (ce (@ev113 fb fa b a k10) (ce (@ZeN (Sp.Zaf b) false (b.natAbs-a.natAbs) k11) c0)) H
theorem rNeg (fa:Bool) (v:Int)  (dq:AV) (H :
  (Sp.ok v) /\
  Weak (bigA false (Sp.sg (!Sp.Zaf v) v.natAbs)) dq) :
 rNeg_at fa v (Zad dq):=by
 unfold rNeg_at
 obtain ⟨k1,H⟩:=H
 exact Zai (G:=Zab kp54 [(1,5,.call (bigA false (Sp.sg (!Sp.Zaf v) v.natAbs)) none)] []) 1000 [] (bigA false (Sp.sg (!Sp.Zaf v) v.natAbs)) (by kernel_rfl) (bc rfl (bc rfl (bc rfl b0))) q0 (ce (@ev87_a (!Sp.Zaf v) fa v k1) c0) H
theorem rBy (fa:Bool) (v:Nat) (x:Int)  (dq:AV) (H :
  ∃ (l1:List Int),
  (Ev M1 (Conf.pure 99 [AV.vec true 1 [vu x]]) (vf (us l1)) []) /\
  ∃ (l2:List Int),
  (Ev M1 (Conf.pure 92 [AV.vec fa 1 (us (Sp.lim v)),vf (us l1)]) (vf (us l2)) []) /\
  Weak (vf (us l2)) dq) :
 rBy_at fa v x (Zad dq):=by
 unfold rBy_at
 obtain ⟨l1,k1,l2,k2,H⟩:=H
 exact Zai (G:=Zab kp116 [(1,3,.call (vf (us l1)) none),(1,4,.call (vf (us l2)) none)] []) 1000 [] (vf (us l2)) (by kernel_rfl) b0 q0 (ce k1 (ce k2 c0)) H
end Go.Av

namespace Go.Av
open Go.Proofs
theorem Zec {n v:Nat} (h:Sp.fits n v):Sp.cnt v<=n:=Zav.1 h
theorem Zf8 {n:Int}:Sp.sgnI n=0 ↔ n=0:=by
 unfold Sp.sgnI
 (repeat' split) <;> omega
theorem ev89 (fa fb:Bool) (a b:Int) (h:Sp.okB a/\Sp.okB b):Ev M1 (.pure 89 [bigA fa a,bigA fb b]) (bigA false (a+b)) []:=by
 obtain ⟨ha,hb⟩:=h
 have oa:=ZcM ha
 have ob:=ZcM hb
 have ha':=ha
 have hb':=hb
 unfold Sp.okB at ha' hb'
 refine call89 (rAdd _ _ _ _ _ ⟨fun h=>⟨⟨ha,hb⟩,?_,?_⟩,fun h=>⟨⟨oa,ob⟩,fun k=>⟨⟨oa,?_⟩,?_,?_⟩,fun k=>⟨⟨ob,?_⟩,?_,?_⟩⟩⟩)
 ·have:=Zec (ZeL (ZaW (Zag a.natAbs) ha') (ZaW (Zag b.natAbs) hb'))
  unfold Sp.Zay;omega
 ·rw [sg_add h];exact .refl _
 ·have k:¬(Sp.sgnI ((a.natAbs:Int)-(b.natAbs:Int))<0):=by omega
  rw [ZbD] at k;omega
 ·have:=ZaQ (Nat.sub_le a.natAbs b.natAbs)
  unfold Sp.Zay;omega
 ·have k:¬(Sp.sgnI ((a.natAbs:Int)-(b.natAbs:Int))<0):=by omega
  rw [ZbD] at k
  rw [sg_sub h (by omega)];exact .refl _
 ·have k:Sp.sgnI ((a.natAbs:Int)-(b.natAbs:Int))<0:=by omega
  rw [ZbD] at k;omega
 ·have:=ZaQ (Nat.sub_le b.natAbs a.natAbs)
  unfold Sp.Zay;omega
 ·have k:Sp.sgnI ((a.natAbs:Int)-(b.natAbs:Int))<0:=by omega
  rw [ZbD] at k
  rw [sg_sub (fun x=>h x.symm) (by omega),Int.add_comm];exact .refl _
theorem sg_not (v:Int):Sp.sg (!Sp.Zaf v) v.natAbs = -v:=by
 unfold Sp.sg
 by_cases k:v<0
 ·rw [Zan.2 k,if_neg (by simp)];omega
 ·rw [Zbq k,if_pos (by simp)];omega
theorem ev54 (fa:Bool) (v:Int) (h:Sp.ok v):Ev M1 (.pure 54 [bigA fa v]) (bigA false (-v)) []:=by
 refine call54 (rNeg _ _ _ ⟨h,?_⟩)
 rw [sg_not];exact .refl _
theorem ev111 (fa fb:Bool) (a b:Int) (h:Sp.okB a/\Sp.okB b):Ev M1 (.pure 111 [bigA fa a,bigA fb b]) (bigA false (a-b)) []:=by
 have hb:Sp.okB (-b):=by have:=h.2;unfold Sp.okB at *;rwa [Int.natAbs_neg]
 have en:=ev54 fb b (ZcM h.2)
 have ea:=ev89 fa false a (-b) ⟨h.1,hb⟩
 exact call111 (rSub _ _ _ _ _ ⟨_,_,en,_,_,ea,.refl _⟩)
theorem ev111_a (fa:Bool) (a:Int) (h:Sp.okB a):Ev M1 (.pure 111 [bigA fa a,.agg [.bool false,.vec false 1 ((Sp.Zau 1).map (.int .u32))]]) (bigA false (a-1)) []:=
 ev111 fa false a 1 ⟨h,Zgm (by decide)⟩
def Sp.dig (x:Int):Prop:=0<=x/\x<1000000000
theorem Zg4 (fa:Bool) (v:Nat) (x:Int) (h:Sp.okB v/\Sp.dig x):Ev M1 (.pure 116 [usA fa (Sp.lim v),.int .u32 x]) (usA false (Sp.lim (v*x.toNat))) []:=by
 obtain ⟨h1,h2,h3⟩:=h
 have e:[AV.int .u32 x]=(Sp.Zaq 1 x.toNat).map (.int .u32):=by
  simp only [Sp.Zaq,List.map_cons,List.map_nil]
  have:((x.toNat % 1000000000:Nat):Int)=x:=by omega
  rw [this]
 have hx:Sp.fits 1 x.toNat:=by unfold Sp.fits;omega
 have t1:=rtrimN true 1 x.toNat ⟨by unfold Sp.Zay;omega,hx⟩
 have hc:=Zec hx
 have t2:=ev92_a fa false v x.toNat ⟨h1,by unfold Sp.okB;rw [Int.natAbs_natCast];omega⟩
 have t1':Ev M1 (.pure 99 [.vec true 1 [.int .u32 x]]) (usA false (Sp.lim x.toNat)) []:=by rw [e];exact t1
 exact call116 (rBy _ _ _ _ ⟨_,t1',_,t2,.refl _⟩)
theorem lim_cons (x R:Nat) (hx:x<1000000000):Sp.Zb6 ((x:Int)::Sp.lim R)=Sp.lim (x+1000000000*R):=by
 have e:((x:Int)::Sp.lim R)=Sp.Zaq (Sp.cnt R+1) (x+1000000000*R):=by
  rw [Zaz]
  have e1:(x+1000000000*R) % 1000000000=x:=by omega
  have e2:(x+1000000000*R) / 1000000000=R:=by omega
  rw [e1,e2];rfl
 rw [e]
 refine ZbS (ZbN.2 ?_)
 have e2:(x+1000000000*R) / 1000000000=R:=by omega
 rw [e2];exact Zag R
end Go.Av

namespace Go.Av
open Go.Proofs
theorem ev99_c (fa:Bool) (x:Int) (R:Nat) (h:0<=x/\x<1000000000/\Sp.cnt R<=900000):Ev M1 (.pure 99 [.vec fa 1 (.int .u32 x::(Sp.lim R).map (.int .u32))]) (usA false (Sp.lim (x.toNat+1000000000*R))) []:=by
 obtain ⟨n,rfl⟩:=Int.eq_ofNat_of_zero_le h.1
 have:=ZgK fa ((n:Int)::Sp.lim R) (by unfold Sp.Zay;simp only [List.length_cons,ZaG];omega)
 rw [lim_cons n R (by omega)] at this
 exact this
end Go.Av

namespace Go.Av
open Go.Proofs
set_option maxRecDepth 100000
def Zfx:Fi:=⟨173,[.tmp 4,.tmp 5]⟩
def Zce:List (Nat × List Nat):=[(0,[0,1]),(1,[0,1,28]),(2,[6,7]),(3,[4,5]),(4,[0,1,8]),(5,[0,8,9]),(6,[0,8,9,10]),(7,[0,8,9,10,11]),(8,[0,8,9,10,11,12]),(9,[8,9,10,11,12,13]),(10,[8,9,10,11,12,13]),(11,[8,9,10,11,12,13,14]),(12,[8,9,10,11,12,13,14,76]),(13,[8,9,10,11,12,13,14]),(14,[8,9,10,11,12,13,14]),(15,[8,9,10,11,12,13,14,15]),(16,[8,9,10,11,12,13,14,15,91]),(17,[8,9,10,11,12,13,14,15]),(18,[8,9,10,11,12,13,14,15,103]),(19,[8,9,10,11,12,13,14,15]),(20,[8,9,10,11,12,13,14,16]),(21,[8,9,10,11,12,13,14,16,117]),(22,[8,9,10,11,12,13,14,16]),(23,[8,9,10,11,12,13,14,16,17]),(24,[8,9,10,11,12,13,14,16,17,125]),(25,[8,9,10,11,12,13,14,16,17]),(26,[8,9,10,11,12,13,14,16,17]),(27,[8,9,10,11,12,13,14,16]),(28,[8,9,10,11,12,13,14]),(29,[8,11,12,18]),(30,[8,11,12,18,19]),(31,[8,11,12,18,19,20]),(32,[8,11,12,18,19,20,146]),(33,[8,11,12,18,19,20]),(34,[8,11,12,18,19,20]),(35,[8,11,12,18,19,20]),(36,[8,11,12,18,19,20]),(37,[4,5])]
def rParts_at (fa fb:Bool) (A D:Nat) (Q:AV->Heap->Prop):Prop:=Wp M1 (.run Zfx (atC (cd Try.f100) []) [(0,.vec fa 1 ((Sp.lim A).map (.int .u32))),(1,.vec fb 1 ((Sp.lim D).map (.int .u32)))] []) Q
def ZcE (V U:Nat) (s t i:Int) (n:Nat) (o:List Int) (Q:AV->Heap->Prop):Prop:=Wp M1 (.run Zfx (atC (cd Try.f100) [1,1,1,1,1,1,1,1,1,0,1,0,0]) [(8,.int .u32 s),(9,.vec false 1 ((Sp.lim V).map (.int .u32))),(10,.int .u64 t),(11,.vnil),(12,.ref 0 0 0 n),(13,.vec false 1 ((Sp.lim U).map (.int .u32))),(14,.int .i64 i)] [⟨o.map (.int .u32),1,0,false,true⟩]) Q
def Zdb (V U:Nat) (s t i:Int) (n:Nat) (o:List Int) (Q:AV->Heap->Prop):Prop:=Wp M1 (.run Zfx (atC (cd Try.f100) [1,1,1,1,1,1,1,1,1,0,1,0,0]) [(8,.int .u32 s),(9,.vec false 1 ((Sp.lim V).map (.int .u32))),(10,.int .u64 t),(11,.vec false 1 []),(12,.ref 0 0 0 n),(13,.vec false 1 ((Sp.lim U).map (.int .u32))),(14,.int .i64 i)] [⟨o.map (.int .u32),1,0,false,true⟩]) Q
def ZdV (V U:Nat) (s t i:Int) (n:Nat) (o:List Int) (c:Int) (l:List Int) (Q:AV->Heap->Prop):Prop:=Wp M1 (.run Zfx (atC (cd Try.f100) [1,1,1,1,1,1,1,1,1,0,1,0,0]) [(8,.int .u32 s),(9,.vec false 1 ((Sp.lim V).map (.int .u32))),(10,.int .u64 t),(11,.vec false 1 ((c::l).map (.int .u32))),(12,.ref 0 0 0 n),(13,.vec false 1 ((Sp.lim U).map (.int .u32))),(14,.int .i64 i)] [⟨o.map (.int .u32),1,0,false,true⟩]) Q
def ZcZ (V U:Nat) (s t i:Int) (n:Nat) (o:List Int) (R2:Nat) (Q:AV->Heap->Prop):Prop:=Wp M1 (.run Zfx (atC (cd Try.f100) [1,1,1,1,1,1,1,1,1,0,1,0,0,1,0,0,1,0]) [(8,.int .u32 s),(9,.vec false 1 ((Sp.lim V).map (.int .u32))),(10,.int .u64 t),(11,.vec false 1 ((Sp.lim R2).map (.int .u32))),(12,.ref 0 0 0 n),(13,.vec false 1 ((Sp.lim U).map (.int .u32))),(14,.int .i64 i)] [⟨o.map (.int .u32),1,0,false,true⟩]) Q
def ZbU (V U:Nat) (s t i:Int) (n:Nat) (o:List Int) (R:Nat) (Q:AV->Heap->Prop):Prop:=Wp M1 (.run Zfx (atC (cd Try.f100) [1,1,1,1,1,1,1,1,1,0,1,0,0]) [(8,.int .u32 s),(9,.vec false 1 ((Sp.lim V).map (.int .u32))),(10,.int .u64 t),(11,.vec false 1 ((Sp.lim R).map (.int .u32))),(12,.ref 0 0 0 n),(13,.vec false 1 ((Sp.lim U).map (.int .u32))),(14,.int .i64 i)] [⟨o.map (.int .u32),1,0,false,true⟩]) Q
def Za1 (V U:Nat) (s t i:Int) (n:Nat) (o:List Int) (R p:Nat) (g:Int) (Q:AV->Heap->Prop):Prop:=Wp M1 (.run Zfx (atC (cd Try.f100) [1,1,1,1,1,1,1,1,1,0,1,0,0,1,0,0,1,1,1,1,1,1,1,0,0,0]) [(8,.int .u32 s),(9,.vec false 1 ((Sp.lim V).map (.int .u32))),(10,.int .u64 t),(11,.vec false 1 ((Sp.lim R).map (.int .u32))),(12,.ref 0 0 0 n),(13,.vec false 1 ((Sp.lim U).map (.int .u32))),(14,.int .i64 i),(16,.int .u64 g),(17,.vec false 1 ((Sp.lim p).map (.int .u32)))] [⟨o.map (.int .u32),1,0,false,true⟩]) Q
def Zeg (s:Int) (n:Nat) (o:List Int) (Q:AV->Heap->Prop):Prop:=Wp M1 (.run Zfx (atC (cd Try.f100) [1,1,1,1,1,1,1,1,1,1,1,1,0,1,0,0]) [(8,.int .u32 s),(11,.vnil),(12,.ref 0 0 0 n),(18,.int .u64 0),(19,.row 1 0),(20,.int .i64 (-1))] [⟨o.map (.int .u32),1,0,false,true⟩,⟨[],1,0,false,true⟩]) Q
def Zcv (R:Nat) (s c i:Int) (n:Nat) (o l:List Int) (Q:AV->Heap->Prop):Prop:=Wp M1 (.run Zfx (atC (cd Try.f100) [1,1,1,1,1,1,1,1,1,1,1,1,0,1,0,0]) [(8,.int .u32 s),(11,.vec false 1 ((Sp.lim R).map (.int .u32))),(12,.ref 0 0 0 n),(18,.int .u64 c),(19,.row 1 0),(20,.int .i64 i)] [⟨o.map (.int .u32),1,0,false,true⟩,⟨l.map (.int .u32),1,0,false,true⟩]) Q
theorem call100 {args:List AV} {d:AV} (h:wc M1 Zfx Try.f100 args d):Ev M1 (.pure 100 args) d []:=pcl _ _ (by kernel_rfl) h
noncomputable abbrev zNwD1 (D:Nat):=vu ((Sp.lim (D*(Int.tdiv 1000000000 ((Sp.lim D).getD ((↑(Sp.lim D).length:Int)-1).toNat default+1)).toNat)).getD ((↑(Sp.lim (D*(Int.tdiv 1000000000 ((Sp.lim D).getD ((↑(Sp.lim D).length:Int)-1).toNat default+1)).toNat)).length:Int)-1).toNat default)
noncomputable abbrev zNwD2 (D:Nat):=vf (us (Sp.lim (D*(Int.tdiv 1000000000 ((Sp.lim D).getD ((↑(Sp.lim D).length:Int)-1).toNat default+1)).toNat)))
noncomputable abbrev zNwD3 (A:Nat) (D:Nat):=vf (us (Sp.lim (A*(Int.tdiv 1000000000 ((Sp.lim D).getD ((↑(Sp.lim D).length:Int)-1).toNat default+1)).toNat)))
noncomputable abbrev zNwD4 (A:Nat) (D:Nat):=us (Sp.lim ((↑A:Int).tdiv (↑D:Int)).toNat)
noncomputable abbrev zNwD5 (A:Nat) (D:Nat):=us (Sp.lim ((↑A:Int).tmod (↑D:Int)).toNat)
theorem rParts (fa fb:Bool) (A D:Nat)  (dq:AV) (H :
  ((((↑(Sp.lim A).length:Int)<=2)/\((↑(Sp.lim D).length:Int)<=2))->(Sp.cnt A<=2) /\
   (Sp.cnt D<=2) /\
   (0<=(↑A:Int).tdiv (↑D:Int)/\(↑A:Int).tdiv (↑D:Int)<=18446744073709551615) /\
   (0<=(↑A:Int).tmod (↑D:Int)/\(↑A:Int).tmod (↑D:Int)<=18446744073709551615) /\
   (¬(↑D:Int)=0) /\
   Weak (tu [vf (us (Sp.lim ((↑A:Int).tdiv (↑D:Int)).toNat)),vf (us (Sp.lim ((↑A:Int).tmod (↑D:Int)).toNat))]) dq) /\
  (¬(((↑(Sp.lim A).length:Int)<=2)/\((↑(Sp.lim D).length:Int)<=2))->(-9223372036854775808<=(↑(Sp.lim D).length:Int)-1/\(↑(Sp.lim D).length:Int)-1<=9223372036854775807) /\
   (0<=(↑(Sp.lim D).length:Int)-1) /\
   (((↑(Sp.lim D).length:Int)-1).toNat<(Sp.lim D).length) /\
   (0<=(Sp.lim D).getD ((↑(Sp.lim D).length:Int)-1).toNat default/\(Sp.lim D).getD ((↑(Sp.lim D).length:Int)-1).toNat default<=18446744073709551615) /\
   (0<=(Sp.lim D).getD ((↑(Sp.lim D).length:Int)-1).toNat default+1/\(Sp.lim D).getD ((↑(Sp.lim D).length:Int)-1).toNat default+1<=18446744073709551615) /\
   (¬(Sp.lim D).getD ((↑(Sp.lim D).length:Int)-1).toNat default+1=0) /\
   (0<=Int.tdiv 1000000000 ((Sp.lim D).getD ((↑(Sp.lim D).length:Int)-1).toNat default+1)/\Int.tdiv 1000000000 ((Sp.lim D).getD ((↑(Sp.lim D).length:Int)-1).toNat default+1)<=18446744073709551615) /\
   (0<=Int.tdiv 1000000000 ((Sp.lim D).getD ((↑(Sp.lim D).length:Int)-1).toNat default+1)/\Int.tdiv 1000000000 ((Sp.lim D).getD ((↑(Sp.lim D).length:Int)-1).toNat default+1)<=4294967295) /\
   (Sp.okB (↑D:Int)/\Sp.dig (Int.tdiv 1000000000 ((Sp.lim D).getD ((↑(Sp.lim D).length:Int)-1).toNat default+1))) /\
   (-9223372036854775808<=(↑(Sp.lim (D*(Int.tdiv 1000000000 ((Sp.lim D).getD ((↑(Sp.lim D).length:Int)-1).toNat default+1)).toNat)).length:Int)-1/\(↑(Sp.lim (D*(Int.tdiv 1000000000 ((Sp.lim D).getD ((↑(Sp.lim D).length:Int)-1).toNat default+1)).toNat)).length:Int)-1<=9223372036854775807) /\
   (0<=(↑(Sp.lim (D*(Int.tdiv 1000000000 ((Sp.lim D).getD ((↑(Sp.lim D).length:Int)-1).toNat default+1)).toNat)).length:Int)-1) /\
   (((↑(Sp.lim (D*(Int.tdiv 1000000000 ((Sp.lim D).getD ((↑(Sp.lim D).length:Int)-1).toNat default+1)).toNat)).length:Int)-1).toNat<(Sp.lim (D*(Int.tdiv 1000000000 ((Sp.lim D).getD ((↑(Sp.lim D).length:Int)-1).toNat default+1)).toNat)).length) /\
   (0<=(Sp.lim (D*(Int.tdiv 1000000000 ((Sp.lim D).getD ((↑(Sp.lim D).length:Int)-1).toNat default+1)).toNat)).getD ((↑(Sp.lim (D*(Int.tdiv 1000000000 ((Sp.lim D).getD ((↑(Sp.lim D).length:Int)-1).toNat default+1)).toNat)).length:Int)-1).toNat default/\(Sp.lim (D*(Int.tdiv 1000000000 ((Sp.lim D).getD ((↑(Sp.lim D).length:Int)-1).toNat default+1)).toNat)).getD ((↑(Sp.lim (D*(Int.tdiv 1000000000 ((Sp.lim D).getD ((↑(Sp.lim D).length:Int)-1).toNat default+1)).toNat)).length:Int)-1).toNat default<=18446744073709551615) /\
   (-9223372036854775808<=(↑(Sp.lim A).length:Int)+1/\(↑(Sp.lim A).length:Int)+1<=9223372036854775807) /\
   (0<=(↑(Sp.lim A).length:Int)+1) /\
   (((↑(Sp.lim A).length:Int)+1)*4<=1099511627776) /\
   ((↑(Sp.lim A).length:Int)+1<=1099511627776) /\
   (Sp.okB (↑A:Int)/\Sp.dig (Int.tdiv 1000000000 ((Sp.lim D).getD ((↑(Sp.lim D).length:Int)-1).toNat default+1))) /\
   (0<=(↑(Sp.lim (A*(Int.tdiv 1000000000 ((Sp.lim D).getD ((↑(Sp.lim D).length:Int)-1).toNat default+1)).toNat)).length:Int)) /\
   (0<=(↑(Sp.lim (A*(Int.tdiv 1000000000 ((Sp.lim D).getD ((↑(Sp.lim D).length:Int)-1).toNat default+1)).toNat)).length:Int).toNat) /\
   ((↑(Sp.lim (A*(Int.tdiv 1000000000 ((Sp.lim D).getD ((↑(Sp.lim D).length:Int)-1).toNat default+1)).toNat)).length:Int).toNat<=(List.replicate ((↑(Sp.lim A).length:Int)+1).toNat (0:Int)).length) /\
   (-9223372036854775808<=(↑(Sp.lim (A*(Int.tdiv 1000000000 ((Sp.lim D).getD ((↑(Sp.lim D).length:Int)-1).toNat default+1)).toNat)).length:Int)-1/\(↑(Sp.lim (A*(Int.tdiv 1000000000 ((Sp.lim D).getD ((↑(Sp.lim D).length:Int)-1).toNat default+1)).toNat)).length:Int)-1<=9223372036854775807) /\
   ZcE (D*(Int.tdiv 1000000000 ((Sp.lim D).getD ((↑(Sp.lim D).length:Int)-1).toNat default+1)).toNat) (A*(Int.tdiv 1000000000 ((Sp.lim D).getD ((↑(Sp.lim D).length:Int)-1).toNat default+1)).toNat) (Int.tdiv 1000000000 ((Sp.lim D).getD ((↑(Sp.lim D).length:Int)-1).toNat default+1)) ((Sp.lim (D*(Int.tdiv 1000000000 ((Sp.lim D).getD ((↑(Sp.lim D).length:Int)-1).toNat default+1)).toNat)).getD ((↑(Sp.lim (D*(Int.tdiv 1000000000 ((Sp.lim D).getD ((↑(Sp.lim D).length:Int)-1).toNat default+1)).toNat)).length:Int)-1).toNat default) ((↑(Sp.lim (A*(Int.tdiv 1000000000 ((Sp.lim D).getD ((↑(Sp.lim D).length:Int)-1).toNat default+1)).toNat)).length:Int)-1) ((↑(Sp.lim (A*(Int.tdiv 1000000000 ((Sp.lim D).getD ((↑(Sp.lim D).length:Int)-1).toNat default+1)).toNat)).length:Int).toNat-0) (List.replicate ((↑(Sp.lim A).length:Int)+1).toNat (0:Int)) (Zad dq))) :
 rParts_at fa fb A D (Zad dq):=by
 unfold rParts_at
 have w1:(us (Sp.lim A)).length=(Sp.lim A).length:=List.length_map ..
 have w2:(us (Sp.lim D)).length=(Sp.lim D).length:=List.length_map ..
 have i3:(bif decide ((↑(us (Sp.lim A)).length:Int)<=2) then decide ((↑(us (Sp.lim D)).length:Int)<=2) else false)=true ↔ (((↑(Sp.lim A).length:Int)<=2)/\((↑(Sp.lim D).length:Int)<=2)):=(by (try rw [w1]);(try rw [w2]);all_goals exact (Zck Zaa Zaa))
 rcases xq H with ⟨d4,H⟩|⟨d4,H⟩
 ·obtain ⟨k5,k6,k7,H⟩:=H
  have w8:wu ((↑A:Int).tdiv (↑D:Int))=(↑A:Int).tdiv (↑D:Int):=wU64 k7
  obtain ⟨k9,k11,H⟩:=H
  exact Zai (G:=Zab Zce [(2,1,.call (vw (↑A:Int)) none),(2,3,.call (vw (↑D:Int)) none),(3,3,.call (vf (zNwD4 A D)) none),(3,7,.call (vf (zNwD5 A D)) none)] []) 1000 [true] (calls:=[pc 86 [AV.vec fa 1 (us (Sp.lim A))] (vw (↑A:Int)),pc 86 [AV.vec fb 1 (us (Sp.lim D))] (vw (↑D:Int)),pc 90 [vw (wu ((↑A:Int).tdiv (↑D:Int)))] (vf (zNwD4 A D)),pc 90 [vw ((↑A:Int).tmod (↑D:Int))] (vf (zNwD5 A D))]) (tu [vf (zNwD4 A D),vf (zNwD5 A D)]) (by kernel_rfl) (bc (Zak (i3.2 d4)) (bc (Zds.2 k11) (bc (Zds.2 k11) b0))) q0 (ce (@ev86 fa A k5) (ce (@ev86 fb D k6) (ce (by (try rw [w8]);all_goals exact (@ev90 ((↑A:Int).tdiv (↑D:Int)) k7)) (ce (@ev90 ((↑A:Int).tmod (↑D:Int)) k9) c0)))) H
 ·obtain ⟨k13,H⟩:=H
  have w14:wi ((↑(Sp.lim D).length:Int)-1)=(↑(Sp.lim D).length:Int)-1:=wI64 k13
  have i15:(decide (0<=wi ((↑(us (Sp.lim D)).length:Int)-1)))=true ↔ (0<=(↑(Sp.lim D).length:Int)-1):=(by (try rw [w2]);(try rw [w14]);all_goals exact Zaa)
  obtain ⟨k16,H⟩:=H
  have i17:(decide ((wi ((↑(us (Sp.lim D)).length:Int)-1)).toNat<(us (Sp.lim D)).length))=true ↔ (((↑(Sp.lim D).length:Int)-1).toNat<(Sp.lim D).length):=(by (try rw [w2]);(try rw [w14]);all_goals exact Zaa)
  obtain ⟨k18,k19,H⟩:=H
  have w20:wu ((Sp.lim D).getD ((↑(Sp.lim D).length:Int)-1).toNat default)=(Sp.lim D).getD ((↑(Sp.lim D).length:Int)-1).toNat default:=wU64 k19
  obtain ⟨k21,H⟩:=H
  have w22:wu ((Sp.lim D).getD ((↑(Sp.lim D).length:Int)-1).toNat default+1)=(Sp.lim D).getD ((↑(Sp.lim D).length:Int)-1).toNat default+1:=wU64 k21
  have i23:(!wu (wu ((Sp.lim D).getD ((↑(Sp.lim D).length:Int)-1).toNat default)+1)==0)=true ↔ (¬(Sp.lim D).getD ((↑(Sp.lim D).length:Int)-1).toNat default+1=0):=(by (try rw [w20]);(try rw [w22]);all_goals exact Zds)
  obtain ⟨k24,k25,H⟩:=H
  have w26:wu (Int.tdiv 1000000000 ((Sp.lim D).getD ((↑(Sp.lim D).length:Int)-1).toNat default+1))=Int.tdiv 1000000000 ((Sp.lim D).getD ((↑(Sp.lim D).length:Int)-1).toNat default+1):=wU64 k25
  obtain ⟨k27,H⟩:=H
  have w28:wv (Int.tdiv 1000000000 ((Sp.lim D).getD ((↑(Sp.lim D).length:Int)-1).toNat default+1))=Int.tdiv 1000000000 ((Sp.lim D).getD ((↑(Sp.lim D).length:Int)-1).toNat default+1):=wU32 k27
  obtain ⟨k29,H⟩:=H
  have w30:(us (Sp.lim (D*(Int.tdiv 1000000000 ((Sp.lim D).getD ((↑(Sp.lim D).length:Int)-1).toNat default+1)).toNat))).length=(Sp.lim (D*(Int.tdiv 1000000000 ((Sp.lim D).getD ((↑(Sp.lim D).length:Int)-1).toNat default+1)).toNat)).length:=List.length_map ..
  obtain ⟨k31,H⟩:=H
  have w32:wi ((↑(Sp.lim (D*(Int.tdiv 1000000000 ((Sp.lim D).getD ((↑(Sp.lim D).length:Int)-1).toNat default+1)).toNat)).length:Int)-1)=(↑(Sp.lim (D*(Int.tdiv 1000000000 ((Sp.lim D).getD ((↑(Sp.lim D).length:Int)-1).toNat default+1)).toNat)).length:Int)-1:=wI64 k31
  have i33:(decide (0<=wi ((↑(us (Sp.lim (D*(Int.tdiv 1000000000 ((Sp.lim D).getD ((↑(Sp.lim D).length:Int)-1).toNat default+1)).toNat))).length:Int)-1)))=true ↔ (0<=(↑(Sp.lim (D*(Int.tdiv 1000000000 ((Sp.lim D).getD ((↑(Sp.lim D).length:Int)-1).toNat default+1)).toNat)).length:Int)-1):=(by (try rw [w30]);(try rw [w32]);all_goals exact Zaa)
  obtain ⟨k34,H⟩:=H
  have i35:(decide ((wi ((↑(us (Sp.lim (D*(Int.tdiv 1000000000 ((Sp.lim D).getD ((↑(Sp.lim D).length:Int)-1).toNat default+1)).toNat))).length:Int)-1)).toNat<(us (Sp.lim (D*(Int.tdiv 1000000000 ((Sp.lim D).getD ((↑(Sp.lim D).length:Int)-1).toNat default+1)).toNat))).length))=true ↔ (((↑(Sp.lim (D*(Int.tdiv 1000000000 ((Sp.lim D).getD ((↑(Sp.lim D).length:Int)-1).toNat default+1)).toNat)).length:Int)-1).toNat<(Sp.lim (D*(Int.tdiv 1000000000 ((Sp.lim D).getD ((↑(Sp.lim D).length:Int)-1).toNat default+1)).toNat)).length):=(by (try rw [w30]);(try rw [w32]);all_goals exact Zaa)
  obtain ⟨k36,k37,H⟩:=H
  have w38:wu ((Sp.lim (D*(Int.tdiv 1000000000 ((Sp.lim D).getD ((↑(Sp.lim D).length:Int)-1).toNat default+1)).toNat)).getD ((↑(Sp.lim (D*(Int.tdiv 1000000000 ((Sp.lim D).getD ((↑(Sp.lim D).length:Int)-1).toNat default+1)).toNat)).length:Int)-1).toNat default)=(Sp.lim (D*(Int.tdiv 1000000000 ((Sp.lim D).getD ((↑(Sp.lim D).length:Int)-1).toNat default+1)).toNat)).getD ((↑(Sp.lim (D*(Int.tdiv 1000000000 ((Sp.lim D).getD ((↑(Sp.lim D).length:Int)-1).toNat default+1)).toNat)).length:Int)-1).toNat default:=wU64 k37
  obtain ⟨k39,H⟩:=H
  have w40:wi ((↑(Sp.lim A).length:Int)+1)=(↑(Sp.lim A).length:Int)+1:=wI64 k39
  have i41:(decide (0<=wi ((↑(us (Sp.lim A)).length:Int)+1)))=true ↔ (0<=(↑(Sp.lim A).length:Int)+1):=(by (try rw [w1]);(try rw [w40]);all_goals exact Zaa)
  obtain ⟨k42,H⟩:=H
  have i43:(decide (wi ((↑(us (Sp.lim A)).length:Int)+1)<=wi ((↑(us (Sp.lim A)).length:Int)+1)))=true ↔ ((↑(Sp.lim A).length:Int)+1<=(↑(Sp.lim A).length:Int)+1):=(by (try rw [w1]);(try rw [w40]);all_goals exact Zaa)
  have i44:(decide (wi ((↑(us (Sp.lim A)).length:Int)+1)*4<=1099511627776))=true ↔ (((↑(Sp.lim A).length:Int)+1)*4<=1099511627776):=(by (try rw [w1]);(try rw [w40]);all_goals exact Zaa)
  obtain ⟨k45,H⟩:=H
  have i46:(decide (wi ((↑(us (Sp.lim A)).length:Int)+1)<=1099511627776))=true ↔ ((↑(Sp.lim A).length:Int)+1<=1099511627776):=(by (try rw [w1]);(try rw [w40]);all_goals exact Zaa)
  obtain ⟨k47,H⟩:=H
  have w48:List.replicate ((↑(Sp.lim A).length:Int)+1).toNat (vu 0)=us (List.replicate ((↑(Sp.lim A).length:Int)+1).toNat (0:Int)):=(ZdJ rfl)
  obtain ⟨k49,H⟩:=H
  have w50:(us (Sp.lim (A*(Int.tdiv 1000000000 ((Sp.lim D).getD ((↑(Sp.lim D).length:Int)-1).toNat default+1)).toNat))).length=(Sp.lim (A*(Int.tdiv 1000000000 ((Sp.lim D).getD ((↑(Sp.lim D).length:Int)-1).toNat default+1)).toNat)).length:=List.length_map ..
  have i51:(decide (0<=(↑(us (Sp.lim (A*(Int.tdiv 1000000000 ((Sp.lim D).getD ((↑(Sp.lim D).length:Int)-1).toNat default+1)).toNat))).length:Int)))=true ↔ (0<=(↑(Sp.lim (A*(Int.tdiv 1000000000 ((Sp.lim D).getD ((↑(Sp.lim D).length:Int)-1).toNat default+1)).toNat)).length:Int)):=(by (try rw [w50]);all_goals exact Zaa)
  obtain ⟨k52,H⟩:=H
  have i53:(decide (0<=(↑(us (Sp.lim (A*(Int.tdiv 1000000000 ((Sp.lim D).getD ((↑(Sp.lim D).length:Int)-1).toNat default+1)).toNat))).length:Int).toNat))=true ↔ (0<=(↑(Sp.lim (A*(Int.tdiv 1000000000 ((Sp.lim D).getD ((↑(Sp.lim D).length:Int)-1).toNat default+1)).toNat)).length:Int).toNat):=(by (try rw [w50]);all_goals exact Zaa)
  obtain ⟨k54,H⟩:=H
  have w55:(us (List.replicate ((↑(Sp.lim A).length:Int)+1).toNat (0:Int))).length=(List.replicate ((↑(Sp.lim A).length:Int)+1).toNat (0:Int)).length:=List.length_map ..
  have i56:(decide ((↑(us (Sp.lim (A*(Int.tdiv 1000000000 ((Sp.lim D).getD ((↑(Sp.lim D).length:Int)-1).toNat default+1)).toNat))).length:Int).toNat<=(List.replicate (wi ((↑(us (Sp.lim A)).length:Int)+1)).toNat (vu 0)).length))=true ↔ ((↑(Sp.lim (A*(Int.tdiv 1000000000 ((Sp.lim D).getD ((↑(Sp.lim D).length:Int)-1).toNat default+1)).toNat)).length:Int).toNat<=(List.replicate ((↑(Sp.lim A).length:Int)+1).toNat (0:Int)).length):=(by (try rw [w1]);(try rw [w40]);(try rw [w48]);(try rw [w50]);(try rw [w55]);all_goals exact Zaa)
  obtain ⟨k57,k58,H⟩:=H
  have w59:wi ((↑(Sp.lim (A*(Int.tdiv 1000000000 ((Sp.lim D).getD ((↑(Sp.lim D).length:Int)-1).toNat default+1)).toNat)).length:Int)-1)=(↑(Sp.lim (A*(Int.tdiv 1000000000 ((Sp.lim D).getD ((↑(Sp.lim D).length:Int)-1).toNat default+1)).toNat)).length:Int)-1:=wI64 k58
  exact Zac (G:=Zab Zce [(4,5,.elem (vu ((Sp.lim D).getD ((↑(Sp.lim D).length:Int)-1).toNat default))),(5,2,.call (zNwD2 D) none),(6,5,.elem (zNwD1 D)),(9,2,.call (zNwD3 A D) none)] []) 1000 [false] ⟨(atC (cd Try.f100) [1,1,1,1,1,1,1,1,1,0,1,0,0]),[(8,vu (wv (wu (Int.tdiv 1000000000 (wu (wu ((Sp.lim D).getD ((↑(Sp.lim D).length:Int)-1).toNat default)+1)))))),(9,vf (us (Sp.lim (D*(Int.tdiv 1000000000 ((Sp.lim D).getD ((↑(Sp.lim D).length:Int)-1).toNat default+1)).toNat)))),(10,vw (wu ((Sp.lim (D*(Int.tdiv 1000000000 ((Sp.lim D).getD ((↑(Sp.lim D).length:Int)-1).toNat default+1)).toNat)).getD ((↑(Sp.lim (D*(Int.tdiv 1000000000 ((Sp.lim D).getD ((↑(Sp.lim D).length:Int)-1).toNat default+1)).toNat)).length:Int)-1).toNat default))),(11,AV.vnil),(12,AV.ref 0 0 0 ((↑(us (Sp.lim (A*(Int.tdiv 1000000000 ((Sp.lim D).getD ((↑(Sp.lim D).length:Int)-1).toNat default+1)).toNat))).length:Int).toNat-0)),(13,vf (us (Sp.lim (A*(Int.tdiv 1000000000 ((Sp.lim D).getD ((↑(Sp.lim D).length:Int)-1).toNat default+1)).toNat)))),(14,vi (wi ((↑(us (Sp.lim (A*(Int.tdiv 1000000000 ((Sp.lim D).getD ((↑(Sp.lim D).length:Int)-1).toNat default+1)).toNat))).length:Int)-1)))],[⟨List.replicate (wi ((↑(us (Sp.lim A)).length:Int)+1)).toNat (vu 0),1,0,false,true⟩],[(bif decide ((↑(us (Sp.lim A)).length:Int)<=2) then decide ((↑(us (Sp.lim D)).length:Int)<=2) else false)==false,decide (0<=wi ((↑(us (Sp.lim D)).length:Int)-1)),decide ((wi ((↑(us (Sp.lim D)).length:Int)-1)).toNat<(us (Sp.lim D)).length),!wu (wu ((Sp.lim D).getD ((↑(Sp.lim D).length:Int)-1).toNat default)+1)==0,decide (0<=wi ((↑(us (Sp.lim (D*(Int.tdiv 1000000000 ((Sp.lim D).getD ((↑(Sp.lim D).length:Int)-1).toNat default+1)).toNat))).length:Int)-1)),decide ((wi ((↑(us (Sp.lim (D*(Int.tdiv 1000000000 ((Sp.lim D).getD ((↑(Sp.lim D).length:Int)-1).toNat default+1)).toNat))).length:Int)-1)).toNat<(us (Sp.lim (D*(Int.tdiv 1000000000 ((Sp.lim D).getD ((↑(Sp.lim D).length:Int)-1).toNat default+1)).toNat))).length),decide (0<=wi ((↑(us (Sp.lim A)).length:Int)+1)),decide (wi ((↑(us (Sp.lim A)).length:Int)+1)<=wi ((↑(us (Sp.lim A)).length:Int)+1)),decide (wi ((↑(us (Sp.lim A)).length:Int)+1)*4<=1099511627776),decide (wi ((↑(us (Sp.lim A)).length:Int)+1)<=1099511627776),true,decide (0<=(↑(us (Sp.lim (A*(Int.tdiv 1000000000 ((Sp.lim D).getD ((↑(Sp.lim D).length:Int)-1).toNat default+1)).toNat))).length:Int)),decide (0<=(↑(us (Sp.lim (A*(Int.tdiv 1000000000 ((Sp.lim D).getD ((↑(Sp.lim D).length:Int)-1).toNat default+1)).toNat))).length:Int).toNat),decide ((↑(us (Sp.lim (A*(Int.tdiv 1000000000 ((Sp.lim D).getD ((↑(Sp.lim D).length:Int)-1).toNat default+1)).toNat))).length:Int).toNat<=(List.replicate (wi ((↑(us (Sp.lim A)).length:Int)+1)).toNat (vu 0)).length)],[((us (Sp.lim D)).get?Internal (wi ((↑(us (Sp.lim D)).length:Int)-1)).toNat=some (vu ((Sp.lim D).getD ((↑(Sp.lim D).length:Int)-1).toNat default))),((us (Sp.lim (D*(Int.tdiv 1000000000 ((Sp.lim D).getD ((↑(Sp.lim D).length:Int)-1).toNat default+1)).toNat))).get?Internal (wi ((↑(us (Sp.lim (D*(Int.tdiv 1000000000 ((Sp.lim D).getD ((↑(Sp.lim D).length:Int)-1).toNat default+1)).toNat))).length:Int)-1)).toNat=some (zNwD1 D))],[pc 116 [AV.vec fb 1 (us (Sp.lim D)),vu (wv (wu (Int.tdiv 1000000000 (wu (wu ((Sp.lim D).getD ((↑(Sp.lim D).length:Int)-1).toNat default)+1)))))] (zNwD2 D),pc 116 [AV.vec fa 1 (us (Sp.lim A)),vu (wv (wu (Int.tdiv 1000000000 (wu (wu ((Sp.lim D).getD ((↑(Sp.lim D).length:Int)-1).toNat default)+1)))))] (zNwD3 A D)]⟩ (by kernel_rfl) (bc (Zah (fun h=>d4 (i3.1 h))) (bc (i15.2 k16) (bc (i17.2 k18) (bc (i23.2 k24) (bc (i33.2 k34) (bc (i35.2 k36) (bc (i41.2 k42) (bc (i43.2 (by omega)) (bc (i44.2 k45) (bc (i46.2 k47) (bc rfl (bc (i51.2 k52) (bc (i53.2 k54) (bc (i56.2 k57) b0)))))))))))))) (qc (by (try rw [w2]);(try rw [w14]);all_goals exact (Zap k18)) (qc (by (try rw [w30]);(try rw [w32]);all_goals exact (Zap k36)) q0)) (ce (by (try rw [w20]);(try rw [w22]);(try rw [w26]);(try rw [w28]);all_goals exact (@Zg4 fb D (Int.tdiv 1000000000 ((Sp.lim D).getD ((↑(Sp.lim D).length:Int)-1).toNat default+1)) k29)) (ce (by (try rw [w20]);(try rw [w22]);(try rw [w26]);(try rw [w28]);all_goals exact (@Zg4 fa A (Int.tdiv 1000000000 ((Sp.lim D).getD ((↑(Sp.lim D).length:Int)-1).toNat default+1)) k49)) c0)) (by (try rw [w1]);(try rw [w20]);(try rw [w22]);(try rw [w26]);(try rw [w28]);(try rw [w38]);(try rw [w40]);(try rw [w48]);(try rw [w50]);(try rw [w59]);all_goals exact H)
theorem rPartsA0 (V U:Nat) (s t i:Int) (n:Nat) (o:List Int) (R2:Nat) (dq:AV) (H :
  ((i>=0)->(Ev M1 (Conf.pure 99 [AV.vec true 1 [vu ((Sp.lim U).getD i.toNat default)]]) (vf (us (Sp.lim R2))) []) /\
   (0<=i) /\
   (i.toNat<(Sp.lim U).length) /\
   ZcZ V U s t i n o R2 (Zad dq)) /\
  (¬(i>=0)->Zeg s n o (Zad dq))) :
 ZcE V U s t i n o (Zad dq):=by
 unfold ZcE
 rcases xq H with ⟨d2,H⟩|⟨d2,H⟩
 ·obtain ⟨k3,k5,H⟩:=H
  have w6:(us (Sp.lim U)).length=(Sp.lim U).length:=List.length_map ..
  have i7:(decide (i.toNat<(us (Sp.lim U)).length))=true ↔ (i.toNat<(Sp.lim U).length):=(by (try rw [w6]);all_goals exact Zaa)
  obtain ⟨k8,H⟩:=H
  exact Zac (G:=Zab Zce [(14,3,.elem (vu ((Sp.lim U).getD i.toNat default))),(14,7,.call (.vec false 1 ((Sp.lim R2).map (.int .u32))) none)] []) 10 [true] ⟨(atC (cd Try.f100) [1,1,1,1,1,1,1,1,1,0,1,0,0,1,0,0,1,0]),[(8,vu s),(9,vf (us (Sp.lim V))),(10,vw t),(11,vf (us (Sp.lim R2))),(12,AV.ref 0 0 0 n),(13,vf (us (Sp.lim U))),(14,vi i)],[⟨us o,1,0,false,true⟩],_,[((us (Sp.lim U)).get?Internal i.toNat=some (vu ((Sp.lim U).getD i.toNat default)))],_⟩ (by kernel_rfl) (bc (Zak (Zaa.2 d2)) (bc (Zaa.2 k5) (bc (i7.2 k8) b0))) (qc (Zap k8) q0) (ce k3 c0) H
 ·have w9:[]=us []:=rfl
  exact Zac (G:=Zab Zce [] []) 1000 [false] ⟨(atC (cd Try.f100) [1,1,1,1,1,1,1,1,1,1,1,1,0,1,0,0]),[(8,vu s),(11,AV.vnil),(12,AV.ref 0 0 0 n),(18,vw 0),(19,AV.row 1 0),(20,vi (-1))],[⟨us o,1,0,false,true⟩,⟨[],1,0,false,true⟩],_,[],_⟩ (by kernel_rfl) (bc (Zah (fun h=>d2 (Zaa.1 h))) (bc rfl (bc rfl (bc rfl (bc rfl b0))))) q0 c0 (by (try rw [w9]);all_goals exact H)
theorem rPartsAE (V U:Nat) (s t i:Int) (n:Nat) (o:List Int) (R2:Nat) (dq:AV) (H :
  ((i>=0)->(Ev M1 (Conf.pure 99 [AV.vec true 1 [vu ((Sp.lim U).getD i.toNat default)]]) (vf (us (Sp.lim R2))) []) /\
   (0<=i) /\
   (i.toNat<(Sp.lim U).length) /\
   ZcZ V U s t i n o R2 (Zad dq)) /\
  (¬(i>=0)->Wp M1 (.run Zfx (atC (cd Try.f100) [1,1,1,1,1,1,1,1,1,1,1,1,0,1,0,0]) [(8,vu s),(11,vf []),(12,AV.ref 0 0 0 n),(18,vw 0),(19,AV.row 1 0),(20,vi (-1))] [{ elems:=us o,es:=1,ver:=0,frozen:=false,clean:=true },{ elems:=[],es:=1,ver:=0,frozen:=false,clean:=true }]) (Zad dq))) :
 Zdb V U s t i n o (Zad dq):=by
 unfold Zdb
 rcases xq H with ⟨d2,H⟩|⟨d2,H⟩
 ·obtain ⟨k3,k5,H⟩:=H
  have w6:(us (Sp.lim U)).length=(Sp.lim U).length:=List.length_map ..
  have i7:(decide (i.toNat<(us (Sp.lim U)).length))=true ↔ (i.toNat<(Sp.lim U).length):=(by (try rw [w6]);all_goals exact Zaa)
  obtain ⟨k8,H⟩:=H
  exact Zac (G:=Zab Zce [(14,3,.elem (vu ((Sp.lim U).getD i.toNat default))),(14,7,.call (.vec false 1 ((Sp.lim R2).map (.int .u32))) none)] []) 10 [true] ⟨(atC (cd Try.f100) [1,1,1,1,1,1,1,1,1,0,1,0,0,1,0,0,1,0]),[(8,vu s),(9,vf (us (Sp.lim V))),(10,vw t),(11,vf (us (Sp.lim R2))),(12,AV.ref 0 0 0 n),(13,vf (us (Sp.lim U))),(14,vi i)],[⟨us o,1,0,false,true⟩],_,[((us (Sp.lim U)).get?Internal i.toNat=some (vu ((Sp.lim U).getD i.toNat default)))],_⟩ (by kernel_rfl) (bc (Zak (Zaa.2 d2)) (bc (Zaa.2 k5) (bc (i7.2 k8) b0))) (qc (Zap k8) q0) (ce k3 c0) H
 ·have w9:[]=us []:=rfl
  exact Zac (G:=Zab Zce [] []) 1000 [false] ⟨(atC (cd Try.f100) [1,1,1,1,1,1,1,1,1,1,1,1,0,1,0,0]),[(8,vu s),(11,vf []),(12,AV.ref 0 0 0 n),(18,vw 0),(19,AV.row 1 0),(20,vi (-1))],[⟨us o,1,0,false,true⟩,⟨[],1,0,false,true⟩],_,[],_⟩ (by kernel_rfl) (bc (Zah (fun h=>d2 (Zaa.1 h))) (bc rfl (bc rfl (bc rfl (bc rfl b0))))) q0 c0 (by (try rw [w9]);all_goals exact H)
theorem rPartsA (V U:Nat) (s t i:Int) (n:Nat) (o:List Int) (c:Int) (l:List Int) (R2:Nat) (dq:AV) (H :
  ((i>=0)->(Ev M1 (Conf.pure 99 [vf (vu ((Sp.lim U).getD i.toNat default)::vu c::us l)]) (vf (us (Sp.lim R2))) []) /\
   (0<=i) /\
   (i.toNat<(Sp.lim U).length) /\
   ((1+(l.length+1))*4<=1099511627776) /\
   ZcZ V U s t i n o R2 (Zad dq)) /\
  (¬(i>=0)->(0<=(↑(l.length+1):Int)) /\
   ((↑(l.length+1):Int)*4<=1099511627776) /\
   ((↑(l.length+1):Int)<=1099511627776) /\
   (-9223372036854775808<=(↑(l.length+1):Int)-1/\(↑(l.length+1):Int)-1<=9223372036854775807) /\
   Wp M1 (.run Zfx (atC (cd Try.f100) [1,1,1,1,1,1,1,1,1,1,1,1,0,1,0,0]) [(8,vu s),(11,vf (vu c::us l)),(12,AV.ref 0 0 0 n),(18,vw 0),(19,AV.row 1 0),(20,vi ((↑(l.length+1):Int)-1))] [{ elems:=us o,es:=1,ver:=0,frozen:=false,clean:=true },{ elems:=vu 0::us (List.replicate l.length (0:Int)),es:=1,ver:=0,frozen:=false,clean:=true }]) (Zad dq))) :
 ZdV V U s t i n o c l (Zad dq):=by
 unfold ZdV
 rcases xq H with ⟨d2,H⟩|⟨d2,H⟩
 ·obtain ⟨k3,k5,H⟩:=H
  have w6:(us (Sp.lim U)).length=(Sp.lim U).length:=List.length_map ..
  have i7:(decide (i.toNat<(us (Sp.lim U)).length))=true ↔ (i.toNat<(Sp.lim U).length):=(by (try rw [w6]);all_goals exact Zaa)
  obtain ⟨k8,H⟩:=H
  have w9:(us l).length=l.length:=List.length_map ..
  have i10:(decide ((1+((us l).length+1))*4<=1099511627776))=true ↔ ((1+(l.length+1))*4<=1099511627776):=(by (try rw [w9]);all_goals exact Zaa)
  obtain ⟨k11,H⟩:=H
  exact Zac (G:=Zab Zce [(14,3,.elem (vu ((Sp.lim U).getD i.toNat default))),(14,7,.call (.vec false 1 ((Sp.lim R2).map (.int .u32))) none)] []) 10 [true] ⟨(atC (cd Try.f100) [1,1,1,1,1,1,1,1,1,0,1,0,0,1,0,0,1,0]),[(8,vu s),(9,vf (us (Sp.lim V))),(10,vw t),(11,vf (us (Sp.lim R2))),(12,AV.ref 0 0 0 n),(13,vf (us (Sp.lim U))),(14,vi i)],[⟨us o,1,0,false,true⟩,⟨vu ((Sp.lim U).getD i.toNat default)::vu c::us l,1,0,true,true⟩],_,[((us (Sp.lim U)).get?Internal i.toNat=some (vu ((Sp.lim U).getD i.toNat default)))],_⟩ (by kernel_rfl) (bc (Zak (Zaa.2 d2)) (bc (Zaa.2 k5) (bc (i7.2 k8) (bc (i10.2 k11) (bc rfl b0))))) (qc (Zap k8) q0) (ce k3 c0) (ZaV [0] (by kernel_rfl) H)
 ·have w12:(us l).length=l.length:=List.length_map ..
  have i13:(decide (0<=(↑((us l).length+1):Int)))=true ↔ (0<=(↑(l.length+1):Int)):=(by (try rw [w12]);all_goals exact Zaa)
  obtain ⟨k14,H⟩:=H
  have i15:(decide ((↑((us l).length+1):Int)<=(↑((us l).length+1):Int)))=true ↔ ((↑(l.length+1):Int)<=(↑(l.length+1):Int)):=(by (try rw [w12]);all_goals exact Zaa)
  have i16:(decide ((↑((us l).length+1):Int)*4<=1099511627776))=true ↔ ((↑(l.length+1):Int)*4<=1099511627776):=(by (try rw [w12]);all_goals exact Zaa)
  obtain ⟨k17,H⟩:=H
  have i18:(decide ((↑((us l).length+1):Int)<=1099511627776))=true ↔ ((↑(l.length+1):Int)<=1099511627776):=(by (try rw [w12]);all_goals exact Zaa)
  obtain ⟨k19,H⟩:=H
  have w20:List.replicate l.length (vu 0)=us (List.replicate l.length (0:Int)):=(ZdJ rfl)
  obtain ⟨k21,H⟩:=H
  have w22:wi ((↑(l.length+1):Int)-1)=(↑(l.length+1):Int)-1:=wI64 k21
  exact Zac (G:=Zab Zce [] []) 1000 [false] ⟨(atC (cd Try.f100) [1,1,1,1,1,1,1,1,1,1,1,1,0,1,0,0]),[(8,vu s),(11,vf (vu c::us l)),(12,AV.ref 0 0 0 n),(18,vw 0),(19,AV.row 1 0),(20,vi (wi ((↑((us l).length+1):Int)-1)))],[⟨us o,1,0,false,true⟩,⟨vu 0::List.replicate (us l).length (vu 0),1,0,false,true⟩],[(decide (i>=0))==false,decide (0<=(↑((us l).length+1):Int)),decide ((↑((us l).length+1):Int)<=(↑((us l).length+1):Int)),decide ((↑((us l).length+1):Int)*4<=1099511627776),decide ((↑((us l).length+1):Int)<=1099511627776)],[],_⟩ (by kernel_rfl) (bc (Zah (fun h=>d2 (Zaa.1 h))) (bc (i13.2 k14) (bc (i15.2 (by omega)) (bc (i16.2 k17) (bc (i18.2 k19) b0))))) q0 c0 (by (try rw [w12]);(try rw [w20]);(try rw [w22]);all_goals exact H)
noncomputable abbrev zNwD6 (V:Nat):=us (Sp.lim (V*Int.toNat 999999999))
noncomputable abbrev zNwD7 (V:Nat) (R2:Nat) (t:Int):=us (Sp.lim (V*(((Sp.lim R2).getD (↑(Sp.lim V).length:Int).toNat default*1000000000+(Sp.lim R2).getD ((↑(Sp.lim V).length:Int)-1).toNat default).tdiv t).toNat))
noncomputable abbrev zNwD8 (V:Nat) (R2:Nat) (t:Int):=us (Sp.lim (V*(((Sp.lim R2).getD (↑(Sp.lim V).length:Int).toNat default*1000000000).tdiv t).toNat))
noncomputable abbrev zNwD9 (R2:Nat) (V:Nat):=vu ((Sp.lim R2).getD ((↑(Sp.lim V).length:Int)-1).toNat default)
noncomputable abbrev zNwD10 (V:Nat) (R2:Nat) (t:Int):=us (Sp.lim (V*((0+(Sp.lim R2).getD ((↑(Sp.lim V).length:Int)-1).toNat default).tdiv t).toNat))
noncomputable abbrev zNwD11 (R2:Nat) (V:Nat):=(↑(Sp.lim R2).length:Int)>=(↑(Sp.lim V).length:Int)
noncomputable abbrev zNwD12 (V:Nat) (t:Int):=us (Sp.lim (V*(Int.tdiv 0 t).toNat))
theorem rPartsB (V U:Nat) (s t i:Int) (n:Nat) (o:List Int) (R2:Nat)  (dq:AV) (H :
  (((↑(Sp.lim R2).length:Int)>(↑(Sp.lim V).length:Int))->(0<=(↑(Sp.lim V).length:Int)) /\
   ((↑(Sp.lim V).length:Int).toNat<(Sp.lim R2).length) /\
   (0<=(Sp.lim R2).getD (↑(Sp.lim V).length:Int).toNat default/\(Sp.lim R2).getD (↑(Sp.lim V).length:Int).toNat default<=18446744073709551615) /\
   (0<=(Sp.lim R2).getD (↑(Sp.lim V).length:Int).toNat default*1000000000/\(Sp.lim R2).getD (↑(Sp.lim V).length:Int).toNat default*1000000000<=18446744073709551615) /\
   (((↑(Sp.lim R2).length:Int)>=(↑(Sp.lim V).length:Int))->(-9223372036854775808<=(↑(Sp.lim V).length:Int)-1/\(↑(Sp.lim V).length:Int)-1<=9223372036854775807) /\
    (0<=(↑(Sp.lim V).length:Int)-1) /\
    (((↑(Sp.lim V).length:Int)-1).toNat<(Sp.lim R2).length) /\
    (0<=(Sp.lim R2).getD ((↑(Sp.lim V).length:Int)-1).toNat default/\(Sp.lim R2).getD ((↑(Sp.lim V).length:Int)-1).toNat default<=18446744073709551615) /\
    (0<=(Sp.lim R2).getD (↑(Sp.lim V).length:Int).toNat default*1000000000+(Sp.lim R2).getD ((↑(Sp.lim V).length:Int)-1).toNat default/\(Sp.lim R2).getD (↑(Sp.lim V).length:Int).toNat default*1000000000+(Sp.lim R2).getD ((↑(Sp.lim V).length:Int)-1).toNat default<=18446744073709551615) /\
    (¬t=0) /\
    (0<=((Sp.lim R2).getD (↑(Sp.lim V).length:Int).toNat default*1000000000+(Sp.lim R2).getD ((↑(Sp.lim V).length:Int)-1).toNat default).tdiv t/\((Sp.lim R2).getD (↑(Sp.lim V).length:Int).toNat default*1000000000+(Sp.lim R2).getD ((↑(Sp.lim V).length:Int)-1).toNat default).tdiv t<=18446744073709551615) /\
    ((((Sp.lim R2).getD (↑(Sp.lim V).length:Int).toNat default*1000000000+(Sp.lim R2).getD ((↑(Sp.lim V).length:Int)-1).toNat default).tdiv t>999999999)->(Sp.okB (↑V:Int)/\Sp.dig 999999999) /\
     Za1 V U s t i n o R2 (V*Int.toNat 999999999) 999999999 (Zad dq)) /\
    (¬(((Sp.lim R2).getD (↑(Sp.lim V).length:Int).toNat default*1000000000+(Sp.lim R2).getD ((↑(Sp.lim V).length:Int)-1).toNat default).tdiv t>999999999)->(0<=((Sp.lim R2).getD (↑(Sp.lim V).length:Int).toNat default*1000000000+(Sp.lim R2).getD ((↑(Sp.lim V).length:Int)-1).toNat default).tdiv t/\((Sp.lim R2).getD (↑(Sp.lim V).length:Int).toNat default*1000000000+(Sp.lim R2).getD ((↑(Sp.lim V).length:Int)-1).toNat default).tdiv t<=4294967295) /\
     (Sp.okB (↑V:Int)/\Sp.dig (((Sp.lim R2).getD (↑(Sp.lim V).length:Int).toNat default*1000000000+(Sp.lim R2).getD ((↑(Sp.lim V).length:Int)-1).toNat default).tdiv t)) /\
     Za1 V U s t i n o R2 (V*(((Sp.lim R2).getD (↑(Sp.lim V).length:Int).toNat default*1000000000+(Sp.lim R2).getD ((↑(Sp.lim V).length:Int)-1).toNat default).tdiv t).toNat) (((Sp.lim R2).getD (↑(Sp.lim V).length:Int).toNat default*1000000000+(Sp.lim R2).getD ((↑(Sp.lim V).length:Int)-1).toNat default).tdiv t) (Zad dq))) /\
   (¬((↑(Sp.lim R2).length:Int)>=(↑(Sp.lim V).length:Int))->(¬t=0) /\
    (0<=((Sp.lim R2).getD (↑(Sp.lim V).length:Int).toNat default*1000000000).tdiv t/\((Sp.lim R2).getD (↑(Sp.lim V).length:Int).toNat default*1000000000).tdiv t<=18446744073709551615) /\
    ((((Sp.lim R2).getD (↑(Sp.lim V).length:Int).toNat default*1000000000).tdiv t>999999999)->(Sp.okB (↑V:Int)/\Sp.dig 999999999) /\
     Za1 V U s t i n o R2 (V*Int.toNat 999999999) 999999999 (Zad dq)) /\
    (¬(((Sp.lim R2).getD (↑(Sp.lim V).length:Int).toNat default*1000000000).tdiv t>999999999)->(0<=((Sp.lim R2).getD (↑(Sp.lim V).length:Int).toNat default*1000000000).tdiv t/\((Sp.lim R2).getD (↑(Sp.lim V).length:Int).toNat default*1000000000).tdiv t<=4294967295) /\
     (Sp.okB (↑V:Int)/\Sp.dig (((Sp.lim R2).getD (↑(Sp.lim V).length:Int).toNat default*1000000000).tdiv t)) /\
     Za1 V U s t i n o R2 (V*(((Sp.lim R2).getD (↑(Sp.lim V).length:Int).toNat default*1000000000).tdiv t).toNat) (((Sp.lim R2).getD (↑(Sp.lim V).length:Int).toNat default*1000000000).tdiv t) (Zad dq)))) /\
  (¬((↑(Sp.lim R2).length:Int)>(↑(Sp.lim V).length:Int))->(((↑(Sp.lim R2).length:Int)>=(↑(Sp.lim V).length:Int))->(-9223372036854775808<=(↑(Sp.lim V).length:Int)-1/\(↑(Sp.lim V).length:Int)-1<=9223372036854775807) /\
    (0<=(↑(Sp.lim V).length:Int)-1) /\
    (((↑(Sp.lim V).length:Int)-1).toNat<(Sp.lim R2).length) /\
    (0<=(Sp.lim R2).getD ((↑(Sp.lim V).length:Int)-1).toNat default/\(Sp.lim R2).getD ((↑(Sp.lim V).length:Int)-1).toNat default<=18446744073709551615) /\
    (0<=0+(Sp.lim R2).getD ((↑(Sp.lim V).length:Int)-1).toNat default/\0+(Sp.lim R2).getD ((↑(Sp.lim V).length:Int)-1).toNat default<=18446744073709551615) /\
    (¬t=0) /\
    (0<=(0+(Sp.lim R2).getD ((↑(Sp.lim V).length:Int)-1).toNat default).tdiv t/\(0+(Sp.lim R2).getD ((↑(Sp.lim V).length:Int)-1).toNat default).tdiv t<=18446744073709551615) /\
    (((0+(Sp.lim R2).getD ((↑(Sp.lim V).length:Int)-1).toNat default).tdiv t>999999999)->(Sp.okB (↑V:Int)/\Sp.dig 999999999) /\
     Za1 V U s t i n o R2 (V*Int.toNat 999999999) 999999999 (Zad dq)) /\
    (¬((0+(Sp.lim R2).getD ((↑(Sp.lim V).length:Int)-1).toNat default).tdiv t>999999999)->(0<=(0+(Sp.lim R2).getD ((↑(Sp.lim V).length:Int)-1).toNat default).tdiv t/\(0+(Sp.lim R2).getD ((↑(Sp.lim V).length:Int)-1).toNat default).tdiv t<=4294967295) /\
     (Sp.okB (↑V:Int)/\Sp.dig ((0+(Sp.lim R2).getD ((↑(Sp.lim V).length:Int)-1).toNat default).tdiv t)) /\
     Za1 V U s t i n o R2 (V*((0+(Sp.lim R2).getD ((↑(Sp.lim V).length:Int)-1).toNat default).tdiv t).toNat) ((0+(Sp.lim R2).getD ((↑(Sp.lim V).length:Int)-1).toNat default).tdiv t) (Zad dq))) /\
   (¬((↑(Sp.lim R2).length:Int)>=(↑(Sp.lim V).length:Int))->(¬t=0) /\
    (0<=Int.tdiv 0 t/\Int.tdiv 0 t<=18446744073709551615) /\
    ((Int.tdiv 0 t>999999999)->(Sp.okB (↑V:Int)/\Sp.dig 999999999) /\
     Za1 V U s t i n o R2 (V*Int.toNat 999999999) 999999999 (Zad dq)) /\
    (¬(Int.tdiv 0 t>999999999)->(0<=Int.tdiv 0 t/\Int.tdiv 0 t<=4294967295) /\
     (Sp.okB (↑V:Int)/\Sp.dig (Int.tdiv 0 t)) /\
     Za1 V U s t i n o R2 (V*(Int.tdiv 0 t).toNat) (Int.tdiv 0 t) (Zad dq))))) :
 ZcZ V U s t i n o R2 (Zad dq):=by
 unfold ZcZ
 have w1:(us (Sp.lim R2)).length=(Sp.lim R2).length:=List.length_map ..
 have w2:(us (Sp.lim V)).length=(Sp.lim V).length:=List.length_map ..
 have i3:(decide ((↑(us (Sp.lim R2)).length:Int)>(↑(us (Sp.lim V)).length:Int)))=true ↔ ((↑(Sp.lim R2).length:Int)>(↑(Sp.lim V).length:Int)):=(by (try rw [w1]);(try rw [w2]);all_goals exact Zaa)
 rcases xq H with ⟨d4,H⟩|⟨d4,H⟩
 ·have i5:(decide (0<=(↑(us (Sp.lim V)).length:Int)))=true ↔ (0<=(↑(Sp.lim V).length:Int)):=(by (try rw [w2]);all_goals exact Zaa)
  obtain ⟨k6,H⟩:=H
  have i7:(decide ((↑(us (Sp.lim V)).length:Int).toNat<(us (Sp.lim R2)).length))=true ↔ ((↑(Sp.lim V).length:Int).toNat<(Sp.lim R2).length):=(by (try rw [w1]);(try rw [w2]);all_goals exact Zaa)
  obtain ⟨k8,k9,H⟩:=H
  have w10:wu ((Sp.lim R2).getD (↑(Sp.lim V).length:Int).toNat default)=(Sp.lim R2).getD (↑(Sp.lim V).length:Int).toNat default:=wU64 k9
  obtain ⟨k11,H⟩:=H
  have w12:wu ((Sp.lim R2).getD (↑(Sp.lim V).length:Int).toNat default*1000000000)=(Sp.lim R2).getD (↑(Sp.lim V).length:Int).toNat default*1000000000:=wU64 k11
  have i13:(decide ((↑(us (Sp.lim R2)).length:Int)>=(↑(us (Sp.lim V)).length:Int)))=true ↔ (zNwD11 R2 V):=(by (try rw [w1]);(try rw [w2]);all_goals exact Zaa)
  refine Zac (G:=Zab Zce [(17,4,.elem (vu ((Sp.lim R2).getD (↑(Sp.lim V).length:Int).toNat default)))] []) 9 [true] ⟨(atC (cd Try.f100) [1,1,1,1,1,1,1,1,1,0,1,0,0,1,0,0,1,1,1,0,1]),[(8,vu s),(9,vf (us (Sp.lim V))),(10,vw t),(11,vf (us (Sp.lim R2))),(12,AV.ref 0 0 0 n),(13,vf (us (Sp.lim U))),(14,vi i),(15,vw (wu (wu ((Sp.lim R2).getD (↑(Sp.lim V).length:Int).toNat default)*1000000000))),(103,vb (decide ((↑(us (Sp.lim R2)).length:Int)>=(↑(us (Sp.lim V)).length:Int))))],[⟨us o,1,0,false,true⟩],_,[((us (Sp.lim R2)).get?Internal (↑(us (Sp.lim V)).length:Int).toNat=some (vu ((Sp.lim R2).getD (↑(Sp.lim V).length:Int).toNat default)))],_⟩ (by kernel_rfl) (bc (Zak (i3.2 d4)) (bc (i5.2 k6) (bc (i7.2 k8) b0))) (qc (by (try rw [w2]);all_goals exact (Zap k8)) q0) c0 ?_
  rcases xq H with ⟨d14,H⟩|⟨d14,H⟩
  ·obtain ⟨k15,H⟩:=H
   have w16:wi ((↑(Sp.lim V).length:Int)-1)=(↑(Sp.lim V).length:Int)-1:=wI64 k15
   have i17:(decide (0<=wi ((↑(us (Sp.lim V)).length:Int)-1)))=true ↔ (0<=(↑(Sp.lim V).length:Int)-1):=(by (try rw [w2]);(try rw [w16]);all_goals exact Zaa)
   obtain ⟨k18,H⟩:=H
   have i19:(decide ((wi ((↑(us (Sp.lim V)).length:Int)-1)).toNat<(us (Sp.lim R2)).length))=true ↔ (((↑(Sp.lim V).length:Int)-1).toNat<(Sp.lim R2).length):=(by (try rw [w1]);(try rw [w2]);(try rw [w16]);all_goals exact Zaa)
   obtain ⟨k20,k21,H⟩:=H
   have w22:wu ((Sp.lim R2).getD ((↑(Sp.lim V).length:Int)-1).toNat default)=(Sp.lim R2).getD ((↑(Sp.lim V).length:Int)-1).toNat default:=wU64 k21
   obtain ⟨k23,H⟩:=H
   have w24:wu ((Sp.lim R2).getD (↑(Sp.lim V).length:Int).toNat default*1000000000+(Sp.lim R2).getD ((↑(Sp.lim V).length:Int)-1).toNat default)=(Sp.lim R2).getD (↑(Sp.lim V).length:Int).toNat default*1000000000+(Sp.lim R2).getD ((↑(Sp.lim V).length:Int)-1).toNat default:=wU64 k23
   obtain ⟨k26,k27,H⟩:=H
   have w28:wu (((Sp.lim R2).getD (↑(Sp.lim V).length:Int).toNat default*1000000000+(Sp.lim R2).getD ((↑(Sp.lim V).length:Int)-1).toNat default).tdiv t)=((Sp.lim R2).getD (↑(Sp.lim V).length:Int).toNat default*1000000000+(Sp.lim R2).getD ((↑(Sp.lim V).length:Int)-1).toNat default).tdiv t:=wU64 k27
   have i29:(decide (wu ((wu (wu (wu ((Sp.lim R2).getD (↑(Sp.lim V).length:Int).toNat default)*1000000000)+wu ((Sp.lim R2).getD ((↑(Sp.lim V).length:Int)-1).toNat default))).tdiv t)>999999999))=true ↔ (((Sp.lim R2).getD (↑(Sp.lim V).length:Int).toNat default*1000000000+(Sp.lim R2).getD ((↑(Sp.lim V).length:Int)-1).toNat default).tdiv t>999999999):=(by (try rw [w10]);(try rw [w12]);(try rw [w22]);(try rw [w24]);(try rw [w28]);all_goals exact Zaa)
   refine Zac (G:=Zab Zce [(19,6,.elem (zNwD9 R2 V))] []) 7 [true] ⟨(atC (cd Try.f100) [1,1,1,1,1,1,1,1,1,0,1,0,0,1,0,0,1,1,1,1,1,0,1]),[(8,vu s),(9,vf (us (Sp.lim V))),(10,vw t),(11,vf (us (Sp.lim R2))),(12,AV.ref 0 0 0 n),(13,vf (us (Sp.lim U))),(14,vi i),(16,vw (wu ((wu (wu (wu ((Sp.lim R2).getD (↑(Sp.lim V).length:Int).toNat default)*1000000000)+wu ((Sp.lim R2).getD ((↑(Sp.lim V).length:Int)-1).toNat default))).tdiv t))),(117,vb (decide (wu ((wu (wu (wu ((Sp.lim R2).getD (↑(Sp.lim V).length:Int).toNat default)*1000000000)+wu ((Sp.lim R2).getD ((↑(Sp.lim V).length:Int)-1).toNat default))).tdiv t)>999999999)))],[⟨us o,1,0,false,true⟩],_,[((us (Sp.lim R2)).get?Internal (wi ((↑(us (Sp.lim V)).length:Int)-1)).toNat=some (zNwD9 R2 V))],_⟩ (by kernel_rfl) (bc (Zak (i13.2 d14)) (bc (i17.2 k18) (bc (i19.2 k20) (bc (Zds.2 k26) b0)))) (qc (by (try rw [w2]);(try rw [w16]);all_goals exact (Zap k20)) q0) c0 ?_
   rcases xq H with ⟨d30,H⟩|⟨d30,H⟩
   ·obtain ⟨k31,H⟩:=H
    exact Zac (G:=Zab Zce [(23,3,.call (vf (zNwD6 V)) none)] []) 1000 [true] ⟨(atC (cd Try.f100) [1,1,1,1,1,1,1,1,1,0,1,0,0,1,0,0,1,1,1,1,1,1,1,0,0,0]),[(8,vu s),(9,vf (us (Sp.lim V))),(10,vw t),(11,vf (us (Sp.lim R2))),(12,AV.ref 0 0 0 n),(13,vf (us (Sp.lim U))),(14,vi i),(16,vw 999999999),(17,vf (zNwD6 V))],[⟨us o,1,0,false,true⟩],_,[],_⟩ (by kernel_rfl) (bc (Zak (i29.2 d30)) b0) q0 (ce (@Zg4 false V 999999999 k31) c0) H
   ·obtain ⟨k32,H⟩:=H
    have w33:wv (((Sp.lim R2).getD (↑(Sp.lim V).length:Int).toNat default*1000000000+(Sp.lim R2).getD ((↑(Sp.lim V).length:Int)-1).toNat default).tdiv t)=((Sp.lim R2).getD (↑(Sp.lim V).length:Int).toNat default*1000000000+(Sp.lim R2).getD ((↑(Sp.lim V).length:Int)-1).toNat default).tdiv t:=wU32 k32
    obtain ⟨k34,H⟩:=H
    exact Zac (G:=Zab Zce [(23,3,.call (vf (zNwD7 V R2 t)) none)] []) 1000 [false] ⟨(atC (cd Try.f100) [1,1,1,1,1,1,1,1,1,0,1,0,0,1,0,0,1,1,1,1,1,1,1,0,0,0]),[(8,vu s),(9,vf (us (Sp.lim V))),(10,vw t),(11,vf (us (Sp.lim R2))),(12,AV.ref 0 0 0 n),(13,vf (us (Sp.lim U))),(14,vi i),(16,vw (wu ((wu (wu (wu ((Sp.lim R2).getD (↑(Sp.lim V).length:Int).toNat default)*1000000000)+wu ((Sp.lim R2).getD ((↑(Sp.lim V).length:Int)-1).toNat default))).tdiv t))),(17,vf (zNwD7 V R2 t))],[⟨us o,1,0,false,true⟩],_,[],[pc 116 [vf (us (Sp.lim V)),vu (wv (wu ((wu (wu (wu ((Sp.lim R2).getD (↑(Sp.lim V).length:Int).toNat default)*1000000000)+wu ((Sp.lim R2).getD ((↑(Sp.lim V).length:Int)-1).toNat default))).tdiv t)))] (vf (zNwD7 V R2 t))]⟩ (by kernel_rfl) (bc (Zah (fun h=>d30 (i29.1 h))) b0) q0 (ce (by (try rw [w10]);(try rw [w12]);(try rw [w22]);(try rw [w24]);(try rw [w28]);(try rw [w33]);all_goals exact (@Zg4 false V (((Sp.lim R2).getD (↑(Sp.lim V).length:Int).toNat default*1000000000+(Sp.lim R2).getD ((↑(Sp.lim V).length:Int)-1).toNat default).tdiv t) k34)) c0) (by (try rw [w10]);(try rw [w12]);(try rw [w22]);(try rw [w24]);(try rw [w28]);all_goals exact H)
  ·obtain ⟨k36,k37,H⟩:=H
   have w38:wu (((Sp.lim R2).getD (↑(Sp.lim V).length:Int).toNat default*1000000000).tdiv t)=((Sp.lim R2).getD (↑(Sp.lim V).length:Int).toNat default*1000000000).tdiv t:=wU64 k37
   have i39:(decide (wu ((wu (wu ((Sp.lim R2).getD (↑(Sp.lim V).length:Int).toNat default)*1000000000)).tdiv t)>999999999))=true ↔ (((Sp.lim R2).getD (↑(Sp.lim V).length:Int).toNat default*1000000000).tdiv t>999999999):=(by (try rw [w10]);(try rw [w12]);(try rw [w38]);all_goals exact Zaa)
   rcases xq H with ⟨d40,H⟩|⟨d40,H⟩
   ·obtain ⟨k41,H⟩:=H
    exact Zac (G:=Zab Zce [(23,3,.call (vf (zNwD6 V)) none)] []) 1000 [false,true] ⟨(atC (cd Try.f100) [1,1,1,1,1,1,1,1,1,0,1,0,0,1,0,0,1,1,1,1,1,1,1,0,0,0]),[(8,vu s),(9,vf (us (Sp.lim V))),(10,vw t),(11,vf (us (Sp.lim R2))),(12,AV.ref 0 0 0 n),(13,vf (us (Sp.lim U))),(14,vi i),(16,vw 999999999),(17,vf (zNwD6 V))],[⟨us o,1,0,false,true⟩],_,[],_⟩ (by kernel_rfl) (bc (Zah (fun h=>d14 (i13.1 h))) (bc (Zds.2 k36) (bc (Zak (i39.2 d40)) b0))) q0 (ce (@Zg4 false V 999999999 k41) c0) H
   ·obtain ⟨k42,H⟩:=H
    have w43:wv (((Sp.lim R2).getD (↑(Sp.lim V).length:Int).toNat default*1000000000).tdiv t)=((Sp.lim R2).getD (↑(Sp.lim V).length:Int).toNat default*1000000000).tdiv t:=wU32 k42
    obtain ⟨k44,H⟩:=H
    exact Zac (G:=Zab Zce [(23,3,.call (vf (zNwD8 V R2 t)) none)] []) 1000 [false,false] ⟨(atC (cd Try.f100) [1,1,1,1,1,1,1,1,1,0,1,0,0,1,0,0,1,1,1,1,1,1,1,0,0,0]),[(8,vu s),(9,vf (us (Sp.lim V))),(10,vw t),(11,vf (us (Sp.lim R2))),(12,AV.ref 0 0 0 n),(13,vf (us (Sp.lim U))),(14,vi i),(16,vw (wu ((wu (wu ((Sp.lim R2).getD (↑(Sp.lim V).length:Int).toNat default)*1000000000)).tdiv t))),(17,vf (zNwD8 V R2 t))],[⟨us o,1,0,false,true⟩],_,[],[pc 116 [vf (us (Sp.lim V)),vu (wv (wu ((wu (wu ((Sp.lim R2).getD (↑(Sp.lim V).length:Int).toNat default)*1000000000)).tdiv t)))] (vf (zNwD8 V R2 t))]⟩ (by kernel_rfl) (bc (Zah (fun h=>d14 (i13.1 h))) (bc (Zds.2 k36) (bc (Zah (fun h=>d40 (i39.1 h))) b0))) q0 (ce (by (try rw [w10]);(try rw [w12]);(try rw [w38]);(try rw [w43]);all_goals exact (@Zg4 false V (((Sp.lim R2).getD (↑(Sp.lim V).length:Int).toNat default*1000000000).tdiv t) k44)) c0) (by (try rw [w10]);(try rw [w12]);(try rw [w38]);all_goals exact H)
 ·have i45:(decide ((↑(us (Sp.lim R2)).length:Int)>=(↑(us (Sp.lim V)).length:Int)))=true ↔ (zNwD11 R2 V):=(by (try rw [w1]);(try rw [w2]);all_goals exact Zaa)
  rcases xq H with ⟨d46,H⟩|⟨d46,H⟩
  ·obtain ⟨k47,H⟩:=H
   have w48:wi ((↑(Sp.lim V).length:Int)-1)=(↑(Sp.lim V).length:Int)-1:=wI64 k47
   have i49:(decide (0<=wi ((↑(us (Sp.lim V)).length:Int)-1)))=true ↔ (0<=(↑(Sp.lim V).length:Int)-1):=(by (try rw [w2]);(try rw [w48]);all_goals exact Zaa)
   obtain ⟨k50,H⟩:=H
   have i51:(decide ((wi ((↑(us (Sp.lim V)).length:Int)-1)).toNat<(us (Sp.lim R2)).length))=true ↔ (((↑(Sp.lim V).length:Int)-1).toNat<(Sp.lim R2).length):=(by (try rw [w1]);(try rw [w2]);(try rw [w48]);all_goals exact Zaa)
   obtain ⟨k52,k53,H⟩:=H
   have w54:wu ((Sp.lim R2).getD ((↑(Sp.lim V).length:Int)-1).toNat default)=(Sp.lim R2).getD ((↑(Sp.lim V).length:Int)-1).toNat default:=wU64 k53
   obtain ⟨k55,H⟩:=H
   have w56:wu (0+(Sp.lim R2).getD ((↑(Sp.lim V).length:Int)-1).toNat default)=0+(Sp.lim R2).getD ((↑(Sp.lim V).length:Int)-1).toNat default:=wU64 k55
   obtain ⟨k58,k59,H⟩:=H
   have w60:wu ((0+(Sp.lim R2).getD ((↑(Sp.lim V).length:Int)-1).toNat default).tdiv t)=(0+(Sp.lim R2).getD ((↑(Sp.lim V).length:Int)-1).toNat default).tdiv t:=wU64 k59
   have i61:(decide (wu ((wu (0+wu ((Sp.lim R2).getD ((↑(Sp.lim V).length:Int)-1).toNat default))).tdiv t)>999999999))=true ↔ ((0+(Sp.lim R2).getD ((↑(Sp.lim V).length:Int)-1).toNat default).tdiv t>999999999):=(by (try rw [w54]);(try rw [w56]);(try rw [w60]);all_goals exact Zaa)
   refine Zac (G:=Zab Zce [(19,6,.elem (zNwD9 R2 V))] []) 16 [false,true] ⟨(atC (cd Try.f100) [1,1,1,1,1,1,1,1,1,0,1,0,0,1,0,0,1,1,1,1,1,0,1]),[(8,vu s),(9,vf (us (Sp.lim V))),(10,vw t),(11,vf (us (Sp.lim R2))),(12,AV.ref 0 0 0 n),(13,vf (us (Sp.lim U))),(14,vi i),(16,vw (wu ((wu (0+wu ((Sp.lim R2).getD ((↑(Sp.lim V).length:Int)-1).toNat default))).tdiv t))),(117,vb (decide (wu ((wu (0+wu ((Sp.lim R2).getD ((↑(Sp.lim V).length:Int)-1).toNat default))).tdiv t)>999999999)))],[⟨us o,1,0,false,true⟩],_,[((us (Sp.lim R2)).get?Internal (wi ((↑(us (Sp.lim V)).length:Int)-1)).toNat=some (zNwD9 R2 V))],_⟩ (by kernel_rfl) (bc (Zah (fun h=>d4 (i3.1 h))) (bc (Zak (i45.2 d46)) (bc (i49.2 k50) (bc (i51.2 k52) (bc (Zds.2 k58) b0))))) (qc (by (try rw [w2]);(try rw [w48]);all_goals exact (Zap k52)) q0) c0 ?_
   rcases xq H with ⟨d62,H⟩|⟨d62,H⟩
   ·obtain ⟨k63,H⟩:=H
    exact Zac (G:=Zab Zce [(23,3,.call (vf (zNwD6 V)) none)] []) 1000 [true] ⟨(atC (cd Try.f100) [1,1,1,1,1,1,1,1,1,0,1,0,0,1,0,0,1,1,1,1,1,1,1,0,0,0]),[(8,vu s),(9,vf (us (Sp.lim V))),(10,vw t),(11,vf (us (Sp.lim R2))),(12,AV.ref 0 0 0 n),(13,vf (us (Sp.lim U))),(14,vi i),(16,vw 999999999),(17,vf (zNwD6 V))],[⟨us o,1,0,false,true⟩],_,[],_⟩ (by kernel_rfl) (bc (Zak (i61.2 d62)) b0) q0 (ce (@Zg4 false V 999999999 k63) c0) H
   ·obtain ⟨k64,H⟩:=H
    have w65:wv ((0+(Sp.lim R2).getD ((↑(Sp.lim V).length:Int)-1).toNat default).tdiv t)=(0+(Sp.lim R2).getD ((↑(Sp.lim V).length:Int)-1).toNat default).tdiv t:=wU32 k64
    obtain ⟨k66,H⟩:=H
    exact Zac (G:=Zab Zce [(23,3,.call (vf (zNwD10 V R2 t)) none)] []) 1000 [false] ⟨(atC (cd Try.f100) [1,1,1,1,1,1,1,1,1,0,1,0,0,1,0,0,1,1,1,1,1,1,1,0,0,0]),[(8,vu s),(9,vf (us (Sp.lim V))),(10,vw t),(11,vf (us (Sp.lim R2))),(12,AV.ref 0 0 0 n),(13,vf (us (Sp.lim U))),(14,vi i),(16,vw (wu ((wu (0+wu ((Sp.lim R2).getD ((↑(Sp.lim V).length:Int)-1).toNat default))).tdiv t))),(17,vf (zNwD10 V R2 t))],[⟨us o,1,0,false,true⟩],_,[],[pc 116 [vf (us (Sp.lim V)),vu (wv (wu ((wu (0+wu ((Sp.lim R2).getD ((↑(Sp.lim V).length:Int)-1).toNat default))).tdiv t)))] (vf (zNwD10 V R2 t))]⟩ (by kernel_rfl) (bc (Zah (fun h=>d62 (i61.1 h))) b0) q0 (ce (by (try rw [w54]);(try rw [w56]);(try rw [w60]);(try rw [w65]);all_goals exact (@Zg4 false V ((0+(Sp.lim R2).getD ((↑(Sp.lim V).length:Int)-1).toNat default).tdiv t) k66)) c0) (by (try rw [w54]);(try rw [w56]);(try rw [w60]);all_goals exact H)
  ·obtain ⟨k68,k69,H⟩:=H
   have w70:wu (Int.tdiv 0 t)=Int.tdiv 0 t:=wU64 k69
   have i71:(decide (wu (Int.tdiv 0 t)>999999999))=true ↔ (Int.tdiv 0 t>999999999):=(by (try rw [w70]);all_goals exact Zaa)
   rcases xq H with ⟨d72,H⟩|⟨d72,H⟩
   ·obtain ⟨k73,H⟩:=H
    exact Zac (G:=Zab Zce [(23,3,.call (vf (zNwD6 V)) none)] []) 1000 [false,false,true] ⟨(atC (cd Try.f100) [1,1,1,1,1,1,1,1,1,0,1,0,0,1,0,0,1,1,1,1,1,1,1,0,0,0]),[(8,vu s),(9,vf (us (Sp.lim V))),(10,vw t),(11,vf (us (Sp.lim R2))),(12,AV.ref 0 0 0 n),(13,vf (us (Sp.lim U))),(14,vi i),(16,vw 999999999),(17,vf (zNwD6 V))],[⟨us o,1,0,false,true⟩],_,[],_⟩ (by kernel_rfl) (bc (Zah (fun h=>d4 (i3.1 h))) (bc (Zah (fun h=>d46 (i45.1 h))) (bc (Zds.2 k68) (bc (Zak (i71.2 d72)) b0)))) q0 (ce (@Zg4 false V 999999999 k73) c0) H
   ·obtain ⟨k74,H⟩:=H
    have w75:wv (Int.tdiv 0 t)=Int.tdiv 0 t:=wU32 k74
    obtain ⟨k76,H⟩:=H
    exact Zac (G:=Zab Zce [(23,3,.call (vf (zNwD12 V t)) none)] []) 1000 [false,false,false] ⟨(atC (cd Try.f100) [1,1,1,1,1,1,1,1,1,0,1,0,0,1,0,0,1,1,1,1,1,1,1,0,0,0]),[(8,vu s),(9,vf (us (Sp.lim V))),(10,vw t),(11,vf (us (Sp.lim R2))),(12,AV.ref 0 0 0 n),(13,vf (us (Sp.lim U))),(14,vi i),(16,vw (wu (Int.tdiv 0 t))),(17,vf (zNwD12 V t))],[⟨us o,1,0,false,true⟩],_,[],[pc 116 [vf (us (Sp.lim V)),vu (wv (wu (Int.tdiv 0 t)))] (vf (zNwD12 V t))]⟩ (by kernel_rfl) (bc (Zah (fun h=>d4 (i3.1 h))) (bc (Zah (fun h=>d46 (i45.1 h))) (bc (Zds.2 k68) (bc (Zah (fun h=>d72 (i71.1 h))) b0)))) q0 (ce (by (try rw [w70]);(try rw [w75]);all_goals exact (@Zg4 false V (Int.tdiv 0 t) k76)) c0) (by (try rw [w70]);all_goals exact H)
theorem rPartsH (V U:Nat) (s t i:Int) (n:Nat) (o:List Int) (R:Nat)  (dq:AV) (H :
  ((i>=0)->False) /\
  (¬(i>=0)->(0<=(↑(Sp.lim R).length:Int)) /\
   ((↑(Sp.lim R).length:Int)*4<=1099511627776) /\
   ((↑(Sp.lim R).length:Int)<=1099511627776) /\
   (-9223372036854775808<=(↑(Sp.lim R).length:Int)-1/\(↑(Sp.lim R).length:Int)-1<=9223372036854775807) /\
   Zcv R s 0 ((↑(Sp.lim R).length:Int)-1) n o (List.replicate (↑(Sp.lim R).length:Int).toNat (0:Int)) (Zad dq))) :
 ZbU V U s t i n o R (Zad dq):=by
 unfold ZbU
 rcases xq H with ⟨d2,H⟩|⟨d2,H⟩
 ·exact False.elim H
 ·have w3:(us (Sp.lim R)).length=(Sp.lim R).length:=List.length_map ..
  have i4:(decide (0<=(↑(us (Sp.lim R)).length:Int)))=true ↔ (0<=(↑(Sp.lim R).length:Int)):=(by (try rw [w3]);all_goals exact Zaa)
  obtain ⟨k5,H⟩:=H
  have i6:(decide ((↑(us (Sp.lim R)).length:Int)<=(↑(us (Sp.lim R)).length:Int)))=true ↔ ((↑(Sp.lim R).length:Int)<=(↑(Sp.lim R).length:Int)):=(by (try rw [w3]);all_goals exact Zaa)
  have i7:(decide ((↑(us (Sp.lim R)).length:Int)*4<=1099511627776))=true ↔ ((↑(Sp.lim R).length:Int)*4<=1099511627776):=(by (try rw [w3]);all_goals exact Zaa)
  obtain ⟨k8,H⟩:=H
  have i9:(decide ((↑(us (Sp.lim R)).length:Int)<=1099511627776))=true ↔ ((↑(Sp.lim R).length:Int)<=1099511627776):=(by (try rw [w3]);all_goals exact Zaa)
  obtain ⟨k10,H⟩:=H
  have w11:List.replicate (↑(Sp.lim R).length:Int).toNat (vu 0)=us (List.replicate (↑(Sp.lim R).length:Int).toNat (0:Int)):=(ZdJ rfl)
  obtain ⟨k12,H⟩:=H
  have w13:wi ((↑(Sp.lim R).length:Int)-1)=(↑(Sp.lim R).length:Int)-1:=wI64 k12
  exact Zac (G:=Zab Zce [] []) 1000 [false] ⟨(atC (cd Try.f100) [1,1,1,1,1,1,1,1,1,1,1,1,0,1,0,0]),[(8,vu s),(11,vf (us (Sp.lim R))),(12,AV.ref 0 0 0 n),(18,vw 0),(19,AV.row 1 0),(20,vi (wi ((↑(us (Sp.lim R)).length:Int)-1)))],[⟨us o,1,0,false,true⟩,⟨List.replicate (↑(us (Sp.lim R)).length:Int).toNat (vu 0),1,0,false,true⟩],[(decide (i>=0))==false,decide (0<=(↑(us (Sp.lim R)).length:Int)),decide ((↑(us (Sp.lim R)).length:Int)<=(↑(us (Sp.lim R)).length:Int)),decide ((↑(us (Sp.lim R)).length:Int)*4<=1099511627776),decide ((↑(us (Sp.lim R)).length:Int)<=1099511627776)],[],_⟩ (by kernel_rfl) (bc (Zah (fun h=>d2 (Zaa.1 h))) (bc (i4.2 k5) (bc (i6.2 (by omega)) (bc (i7.2 k8) (bc (i9.2 k10) b0))))) q0 c0 (by (try rw [w3]);(try rw [w11]);(try rw [w13]);all_goals exact H)
theorem rPartsG (V U:Nat) (s t i:Int) (n:Nat) (o:List Int) (R p:Nat) (g:Int)  (dq:AV) (H :
  (Sp.Zay (Sp.cnt p)/\Sp.Zay (Sp.cnt R)) /\
  ((Sp.sgnI ((↑p:Int)-(↑R:Int))>0)->(0<=g-1/\g-1<=18446744073709551615) /\
   (Sp.Zay (Sp.cnt p)/\V<=p) /\
   Za1 V U s t i n o R (p-V) (g-1) (Zad dq)) /\
  (¬(Sp.sgnI ((↑p:Int)-(↑R:Int))>0)->(Sp.Zay (Sp.cnt R)/\p<=R) /\
   (0<=i) /\
   (i.toNat<n) /\
   (0+i.toNat<o.length) /\
   (0<=g/\g<=4294967295) /\
   (-9223372036854775808<=i-1/\i-1<=9223372036854775807) /\
   ZbU V U s t (i-1) n (o.set (0+i.toNat) g) (R-p) (Zad dq))) :
 Za1 V U s t i n o R p g (Zad dq):=by
 unfold Za1
 obtain ⟨k1,H⟩:=H
 refine Zac (G:=Zab Zce [(24,2,.call (vi (Sp.sgnI ((↑p:Int)-(↑R:Int)))) none)] []) 3 [] ⟨(atC (cd Try.f100) [1,1,1,1,1,1,1,1,1,0,1,0,0,1,0,0,1,1,1,1,1,1,1,0,0,0,0,1]),[(8,vu s),(9,vf (us (Sp.lim V))),(10,vw t),(11,vf (us (Sp.lim R))),(12,AV.ref 0 0 0 n),(13,vf (us (Sp.lim U))),(14,vi i),(16,vw g),(17,vf (us (Sp.lim p))),(125,vb (decide (Sp.sgnI ((↑p:Int)-(↑R:Int))>0)))],[⟨us o,1,0,false,true⟩],_,[],_⟩ (by kernel_rfl) b0 q0 (ce (@ev91_a false false p R k1) c0) ?_
 rcases xq H with ⟨d3,H⟩|⟨d3,H⟩
 ·obtain ⟨k4,H⟩:=H
  have w5:wu (g-1)=g-1:=wU64 k4
  obtain ⟨k6,H⟩:=H
  exact Zac (G:=Zab Zce [(26,2,.call (vf (us (Sp.lim (p-V)))) none)] []) 1000 [true] ⟨(atC (cd Try.f100) [1,1,1,1,1,1,1,1,1,0,1,0,0,1,0,0,1,1,1,1,1,1,1,0,0,0]),[(8,vu s),(9,vf (us (Sp.lim V))),(10,vw t),(11,vf (us (Sp.lim R))),(12,AV.ref 0 0 0 n),(13,vf (us (Sp.lim U))),(14,vi i),(16,vw (wu (g-1))),(17,vf (us (Sp.lim (p-V))))],[⟨us o,1,0,false,true⟩],_,[],_⟩ (by kernel_rfl) (bc (Zak (Zaa.2 d3)) b0) q0 (ce (@ev113_a false false p V k6) c0) (by (try rw [w5]);all_goals exact H)
 ·obtain ⟨k7,k9,k11,k12,k13,H⟩:=H
  have w14:wv g=g:=wU32 k13
  have w15:(us o).set (0+i.toNat) (vu g)=us (o.set (0+i.toNat) g):=(Za3 rfl rfl)
  obtain ⟨k16,H⟩:=H
  have w17:wi (i-1)=i-1:=wI64 k16
  exact Zac (G:=Zab Zce [(27,2,.call (vf (us (Sp.lim (R-p)))) none),(28,5,.elem (vu (o.getD (0+i.toNat) default)))] []) 1000 [false] ⟨(atC (cd Try.f100) [1,1,1,1,1,1,1,1,1,0,1,0,0]),[(8,vu s),(9,vf (us (Sp.lim V))),(10,vw t),(11,vf (us (Sp.lim (R-p)))),(12,AV.ref 0 0 0 n),(13,vf (us (Sp.lim U))),(14,vi (wi (i-1)))],[⟨(us o).set (0+i.toNat) (vu (wv g)),1,0,false,true⟩],_,[((us o).get?Internal (0+i.toNat)=some (vu (o.getD (0+i.toNat) default)))],_⟩ (by kernel_rfl) (bc (Zah (fun h=>d3 (Zaa.1 h))) (bc rfl (bc (Zaa.2 k9) (bc (Zaa.2 k11) (bc rfl b0))))) (qc (Zap k12) q0) (ce (@ev113_a false false R p k7) c0) (by (try rw [w14]);(try rw [w15]);(try rw [w17]);all_goals exact H)
noncomputable abbrev zNwD13 (n:Nat) (o:List Int):=us (Sp.Zb6 (List.take n (List.drop 0 o)))
theorem rPartsL0 (s:Int) (n:Nat) (o:List Int)  (dq:AV) (H :
  (Sp.Zay (List.take n (List.drop 0 o)).length) /\
  ∃ (l1:List Int),
  (Ev M1 (Conf.pure 99 [vf []]) (vf (us l1)) []) /\
  Weak (tu [vf (us (Sp.Zb6 (List.take n (List.drop 0 o)))),vf (us l1)]) dq) :
 Zeg s n o (Zad dq):=by
 unfold Zeg
 have w1:List.drop 0 (us o)=us (List.drop 0 o):=(Ze7 rfl)
 have w2:List.take n (us (List.drop 0 o))=us (List.take n (List.drop 0 o)):=(Ze6 rfl)
 obtain ⟨k3,l1,k4,H⟩:=H
 exact Zai (G:=Zab Zce [(37,1,.call (vf (zNwD13 n o)) none),(37,3,.call (vf (us l1)) none)] []) 1000 [false] (calls:=[pc 99 [vf (List.take n (List.drop 0 (us o)))] (vf (zNwD13 n o)),pc 99 [vf []] (vf (us l1))]) (tu [vf (zNwD13 n o),vf (us l1)]) (by kernel_rfl) (bc rfl (bc rfl (bc rfl b0))) q0 (ce (by (try rw [w1]);(try rw [w2]);all_goals exact (@ZgK false (List.take n (List.drop 0 o)) k3)) (ce k4 c0)) H
noncomputable abbrev zNwD14 (n:Nat) (o:List Int):=us (Sp.Zb6 (List.take n (List.drop 0 o)))
theorem rPartsL (R:Nat) (s c i:Int) (n:Nat) (o l:List Int)  (dq:AV) (H :
  ((i>=0)->(0<=i) /\
   (i.toNat<(Sp.lim R).length) /\
   (0<=c*1000000000/\c*1000000000<=18446744073709551615) /\
   (0<=(Sp.lim R).getD i.toNat default/\(Sp.lim R).getD i.toNat default<=18446744073709551615) /\
   (0<=c*1000000000+(Sp.lim R).getD i.toNat default/\c*1000000000+(Sp.lim R).getD i.toNat default<=18446744073709551615) /\
   (0<=s/\s<=18446744073709551615) /\
   (¬s=0) /\
   (i.toNat<l.length) /\
   (0<=(c*1000000000+(Sp.lim R).getD i.toNat default).tdiv s/\(c*1000000000+(Sp.lim R).getD i.toNat default).tdiv s<=18446744073709551615) /\
   (0<=(c*1000000000+(Sp.lim R).getD i.toNat default).tdiv s/\(c*1000000000+(Sp.lim R).getD i.toNat default).tdiv s<=4294967295) /\
   (-9223372036854775808<=i-1/\i-1<=9223372036854775807) /\
   Zcv R s ((c*1000000000+(Sp.lim R).getD i.toNat default).tmod s) (i-1) n o (l.set i.toNat ((c*1000000000+(Sp.lim R).getD i.toNat default).tdiv s)) (Zad dq)) /\
  (¬(i>=0)->(Sp.Zay (List.take n (List.drop 0 o)).length) /\
   (Sp.Zay l.length) /\
   Weak (tu [vf (us (Sp.Zb6 (List.take n (List.drop 0 o)))),vf (us (Sp.Zb6 l))]) dq)) :
 Zcv R s c i n o l (Zad dq):=by
 unfold Zcv
 rcases xq H with ⟨d2,H⟩|⟨d2,H⟩
 ·obtain ⟨k4,H⟩:=H
  have w5:(us (Sp.lim R)).length=(Sp.lim R).length:=List.length_map ..
  have i6:(decide (i.toNat<(us (Sp.lim R)).length))=true ↔ (i.toNat<(Sp.lim R).length):=(by (try rw [w5]);all_goals exact Zaa)
  obtain ⟨k7,k8,H⟩:=H
  have w9:wu (c*1000000000)=c*1000000000:=wU64 k8
  obtain ⟨k10,H⟩:=H
  have w11:wu ((Sp.lim R).getD i.toNat default)=(Sp.lim R).getD i.toNat default:=wU64 k10
  obtain ⟨k12,H⟩:=H
  have w13:wu (c*1000000000+(Sp.lim R).getD i.toNat default)=c*1000000000+(Sp.lim R).getD i.toNat default:=wU64 k12
  obtain ⟨k14,H⟩:=H
  have w15:wu s=s:=wU64 k14
  have i16:(!wu s==0)=true ↔ (¬s=0):=(by (try rw [w15]);all_goals exact Zds)
  obtain ⟨k17,H⟩:=H
  have w19:(us l).length=l.length:=List.length_map ..
  have i20:(decide (i.toNat<(us l).length))=true ↔ (i.toNat<l.length):=(by (try rw [w19]);all_goals exact Zaa)
  obtain ⟨k21,k22,H⟩:=H
  have w23:wu ((c*1000000000+(Sp.lim R).getD i.toNat default).tdiv s)=(c*1000000000+(Sp.lim R).getD i.toNat default).tdiv s:=wU64 k22
  obtain ⟨k24,H⟩:=H
  have w25:wv ((c*1000000000+(Sp.lim R).getD i.toNat default).tdiv s)=(c*1000000000+(Sp.lim R).getD i.toNat default).tdiv s:=wU32 k24
  have w26:(us l).set i.toNat (vu ((c*1000000000+(Sp.lim R).getD i.toNat default).tdiv s))=us (l.set i.toNat ((c*1000000000+(Sp.lim R).getD i.toNat default).tdiv s)):=(Za3 rfl rfl)
  have i27:(!wu s==0)=true ↔ (¬s=0):=(by (try rw [w15]);all_goals exact Zds)
  obtain ⟨k28,H⟩:=H
  have w29:wi (i-1)=i-1:=wI64 k28
  exact Zac (G:=Zab Zce [(34,5,.elem (vu ((Sp.lim R).getD i.toNat default))),(35,8,.elem (vu (l.getD i.toNat default)))] []) 1000 [true] ⟨(atC (cd Try.f100) [1,1,1,1,1,1,1,1,1,1,1,1,0,1,0,0]),[(8,vu s),(11,vf (us (Sp.lim R))),(12,AV.ref 0 0 0 n),(18,vw ((wu (wu (c*1000000000)+wu ((Sp.lim R).getD i.toNat default))).tmod (wu s))),(19,AV.row 1 0),(20,vi (wi (i-1)))],[⟨us o,1,0,false,true⟩,⟨(us l).set i.toNat (vu (wv (wu ((wu (wu (c*1000000000)+wu ((Sp.lim R).getD i.toNat default))).tdiv (wu s))))),1,0,false,true⟩],_,[((us (Sp.lim R)).get?Internal i.toNat=some (vu ((Sp.lim R).getD i.toNat default))),((us l).get?Internal i.toNat=some (vu (l.getD i.toNat default)))],_⟩ (by kernel_rfl) (bc (Zak (Zaa.2 d2)) (bc (Zaa.2 k4) (bc (i6.2 k7) (bc (i16.2 k17) (bc rfl (bc (Zaa.2 k4) (bc (i20.2 k21) (bc rfl (bc (i27.2 k17) b0))))))))) (qc (Zap k7) (qc (Zap k21) q0)) c0 (by (try rw [w9]);(try rw [w11]);(try rw [w13]);(try rw [w15]);(try rw [w23]);(try rw [w25]);(try rw [w26]);(try rw [w29]);all_goals exact H)
 ·have w30:List.drop 0 (us o)=us (List.drop 0 o):=(Ze7 rfl)
  have w31:List.take n (us (List.drop 0 o))=us (List.take n (List.drop 0 o)):=(Ze6 rfl)
  obtain ⟨k32,k33,H⟩:=H
  exact Zai (G:=Zab Zce [(37,1,.call (vf (zNwD14 n o)) none),(37,3,.call (vf (us (Sp.Zb6 l))) none)] []) 1000 [false] (calls:=[pc 99 [vf (List.take n (List.drop 0 (us o)))] (vf (zNwD14 n o)),pc 99 [vf (us l)] (vf (us (Sp.Zb6 l)))]) (tu [vf (zNwD14 n o),vf (us (Sp.Zb6 l))]) (by kernel_rfl) (bc (Zah (fun h=>d2 (Zaa.1 h))) (bc rfl (bc rfl b0))) q0 (ce (by (try rw [w30]);(try rw [w31]);all_goals exact (@ZgK false (List.take n (List.drop 0 o)) k32)) (ce (@ZgK false l k33) c0)) H
end Go.Av
