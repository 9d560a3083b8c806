/- PART 3 of the texts of a claim, joined by a program: what each part shows stands at its head. -/
import Derived.Test.YtmkjjnbbbabnhaaGreatPart1f67565e98

namespace Go.Av
open Go.Proofs
set_option maxRecDepth 100000
def fi128:Fi:=⟨179,[.tmp 4,.tmp 5]⟩
def kp128:List (Nat × List Nat):=[(0,[0,1]),(1,[0,1]),(2,[0,1,23]),(3,[4,5]),(4,[0,1,34]),(5,[4,5]),(6,[0,1,6]),(7,[0,1,6,7]),(8,[1,6,7,8]),(9,[6,7,8,9]),(10,[6,7,8,9,10]),(11,[6,7,8,9,10,11]),(12,[6,7,8,9,10,11,70]),(13,[6,7,8,9,10,11]),(14,[6,7,8,9,10,11,12]),(15,[6,7,8,9,10,11,13,14]),(16,[6,7,8,9,10,11,13,14,129]),(17,[6,7,8,9,10,11,13,14]),(18,[6,7,8,9,10,11,13,14]),(19,[6,7,8,9,10,11,13,14,141]),(20,[6,7,8,9,10,11,13,151]),(21,[6,7,8,9,10,11,13]),(22,[6,7,8,9,10,11,13]),(23,[6,7,8,9,10,11]),(24,[10,15]),(25,[4,5])]
def vDivide0_at (fa fb:Bool) (a b:List Int) (Q:AV -> Heap -> Prop):Prop:=Wp M1 (.run fi128 (atC (cd Tryz.f128) []) [(0,.vec fa 1 (a.map (.int .u32))),(1,.vec fb 1 (b.map (.int .u32)))] []) Q
def vDivideC_at (fa fb:Bool) (a b:List Int) (Q:AV -> Heap -> Prop):Prop:=Wp M1 (.run fi128 (atC (cd Tryz.f128) []) [(0,.vec fa 1 (a.map (.int .u32))),(1,.vec fb 1 (b.map (.int .u32)))] []) Q
def vDivideK_at (u b q:List Int) (fb:Bool) (v:Nat) (n s k:Int) (Q:AV -> Heap -> Prop):Prop:=Wp M1 (.run fi128 (atC (cd Tryz.f128) [1,1,1,1,1,1,1,1,1,0,1,0,0]) [(6,.int .i64 n),(7,.int .u32 s),(8,.row 0 v),(9,.vec fb 1 (b.map (.int .u32))),(10,.row 1 0),(11,.int .i64 k)] [⟨u.map (.int .u32),1,v,false,true⟩,⟨q.map (.int .u32),1,0,false,true⟩]) Q
def vDivideG_at (u b q:List Int) (fb:Bool) (v:Nat) (n s k:Int) (g r:Int) (Q:AV -> Heap -> Prop):Prop:=Wp M1 (.run fi128 (atC (cd Tryz.f128) [1,1,1,1,1,1,1,1,1,0,1,0,0,1,0,0,1,1,0,0,0]) [(6,.int .i64 n),(7,.int .u32 s),(8,.row 0 v),(9,.vec fb 1 (b.map (.int .u32))),(10,.row 1 0),(11,.int .i64 k),(13,.int .u64 g),(14,.int .u64 r)] [⟨u.map (.int .u32),1,v,false,true⟩,⟨q.map (.int .u32),1,0,false,true⟩]) Q
theorem call128 {args:List AV} {d:AV} (h:wc M1 fi128 Tryz.f128 args d):Ev M1 (.pure 128 args) d []:=pcl _ _ (by kernel_rfl) h
theorem vDivide0 (fa fb:Bool) (a b:List Int)  (dq:AV) (H :
  (Ev M1 (Conf.pure 130 [AV.vec fa 1 (us a)]) (vf []) []) /\
  ∃ (l1:List (Int)),
  (Ev M1 (Conf.pure 130 [AV.vec fb 1 (us b)]) (vf (us l1)) []) /\
  (((↑l1.length:Int) = 1) -> ∃ (l2:List (Int)) (l3:List (Int)),
   (Ev M1 (Conf.pure 133 [vf [],vu (l1.getD 0 default)]) (tu [vf (us l2),vf (us l3)]) []) /\
   (0 < l1.length) /\
   Weak (tu [vf (us l2),vf (us l3)]) dq) /\
  (¬((↑l1.length:Int) = 1) -> (Ev M1 (Conf.pure 111 [vf [],vf (us l1)]) (vi (-1)) []) /\
   Weak (tu [AV.vnil,AV.vnil]) dq)) :
 vDivide0_at fa fb a b (PureQ dq):=by
 unfold vDivide0_at
 obtain ⟨k1,H⟩:=H
 obtain ⟨l1,H⟩:=H
 obtain ⟨k2,H⟩:=H
 have w3:(us l1).length = l1.length:=List.length_map ..
 have i4:((↑(us l1).length:Int) == 1) = true ↔ ((↑l1.length:Int) = 1):=(by (try rw [w3]);all_goals exact i_eq)
 refine path_wp (G:=given kp128 [(1,1,.call (.vec false 1 []) none),(1,3,.call (vf (us l1)) none)] []) 7 [] ⟨(atC (cd Tryz.f128) [1,1,0,1]),[(0,vf []),(1,vf (us l1)),(23,vb ((↑(us l1).length:Int) == 1))],[],_,[],_⟩ (by kernel_rfl) b0 q0 (ce k1 (ce k2 c0)) ?_
 rcases xm ((↑l1.length:Int) = 1) with d5 | d5
 ·have H:=H.1 d5
  obtain ⟨l2,l3,H⟩:=H
  obtain ⟨k6,H⟩:=H
  have i7:(decide (0 < (us l1).length)) = true ↔ (0 < l1.length):=(by (try rw [w3]);all_goals exact i_dec)
  obtain ⟨k8,H⟩:=H
  exact path_rq (G:=given kp128 [(3,3,.elem (vu (l1.getD 0 default))),(3,4,.call (tu [vf (us l2),vf (us l3)]) none)] []) 1000 [true] (eqs:=[((us l1).get?Internal 0 = some (vu (l1.getD 0 default)))]) (tu [vf (us l2),vf (us l3)]) (by kernel_rfl) (bc (beq_t (i4.2 d5)) (bc rfl (bc (i7.2 k8) b0))) (qc (el_map k8) q0) (ce k6 c0) H
 ·have H:=H.2 d5
  obtain ⟨k9,H⟩:=H
  exact path_rq (G:=given kp128 [(4,2,.call (.int .i64 (-1)) none)] []) 1000 [false,true] (tu [AV.vnil,AV.vnil]) (by kernel_rfl) (bc (beq_f (fun h => d5 (i4.1 h))) (bc rfl b0)) q0 (ce k9 c0) H
noncomputable abbrev zNvF1 (x:Int) (l:List Int):=vu x :: us l
theorem vDivideC (fa fb:Bool) (a b:List Int) (x:Int) (l ul:List Int) (dq:AV) (H :
  (Ev M1 (Conf.pure 130 [AV.vec fa 1 (us a)]) (vf (vu x :: us l)) []) /\
  ∃ (l1:List (Int)),
  (Ev M1 (Conf.pure 130 [AV.vec fb 1 (us b)]) (vf (us l1)) []) /\
  (((↑l1.length:Int) = 1) -> ∃ (l2:List (Int)) (l3:List (Int)),
   (Ev M1 (Conf.pure 133 [vf (vu x :: us l),vu (l1.getD 0 default)]) (tu [vf (us l2),vf (us l3)]) []) /\
   (0 < l1.length) /\
   Weak (tu [vf (us l2),vf (us l3)]) dq) /\
  (¬((↑l1.length:Int) = 1) -> ∃ (n1:Int),
   (Ev M1 (Conf.pure 111 [vf (vu x :: us l),vf (us l1)]) (vi n1) []) /\
   ((n1 < 0) -> ((l.length + 1) * 4 <= 1099511627776) /\
    Weak (tu [AV.vnil,vf (vu x :: us l)]) dq) /\
   (¬(n1 < 0) -> (-9223372036854775808 <= (↑l1.length:Int) - 1 /\ (↑l1.length:Int) - 1 <= 9223372036854775807) /\
    (0 <= (↑l1.length:Int) - 1) /\
    (((↑l1.length:Int) - 1).toNat < l1.length) /\
    (0 <= l1.getD ((↑l1.length:Int) - 1).toNat default /\ l1.getD ((↑l1.length:Int) - 1).toNat default <= 18446744073709551615) /\
    (0 <= l1.getD ((↑l1.length:Int) - 1).toNat default + 1 /\ l1.getD ((↑l1.length:Int) - 1).toNat default + 1 <= 18446744073709551615) /\
    (¬l1.getD ((↑l1.length:Int) - 1).toNat default + 1 = 0) /\
    (0 <= Int.tdiv 1000000000 (l1.getD ((↑l1.length:Int) - 1).toNat default + 1) /\ Int.tdiv 1000000000 (l1.getD ((↑l1.length:Int) - 1).toNat default + 1) <= 18446744073709551615) /\
    (0 <= Int.tdiv 1000000000 (l1.getD ((↑l1.length:Int) - 1).toNat default + 1) /\ Int.tdiv 1000000000 (l1.getD ((↑l1.length:Int) - 1).toNat default + 1) <= 4294967295) /\
    (Ev M1 (Conf.own 112 [vf (vu x :: us l),AV.vec true 1 [vu (Int.tdiv 1000000000 (l1.getD ((↑l1.length:Int) - 1).toNat default + 1))]] []) (AV.row 0 0) [{ elems:=us ul,es:=1,ver:=0,frozen:=false,clean:=true }]) /\
    ((ul.length + 1) * 4 <= 1099511627776) /\
    ∃ (l4:List (Int)),
    (Ev M1 (Conf.pure 112 [vf (us l1),AV.vec true 1 [vu (Int.tdiv 1000000000 (l1.getD ((↑l1.length:Int) - 1).toNat default + 1))]]) (vf (us l4)) []) /\
    ∃ (l5:List (Int)),
    (Ev M1 (Conf.pure 130 [vf (us l4)]) (vf (us l5)) []) /\
    (-9223372036854775808 <= (↑(ul ++ [0]).length:Int) - (↑l1.length:Int) /\ (↑(ul ++ [0]).length:Int) - (↑l1.length:Int) <= 9223372036854775807) /\
    (0 <= (↑(ul ++ [0]).length:Int) - (↑l1.length:Int)) /\
    (((↑(ul ++ [0]).length:Int) - (↑l1.length:Int)) * 4 <= 1099511627776) /\
    ((↑(ul ++ [0]).length:Int) - (↑l1.length:Int) <= 1099511627776) /\
    (-9223372036854775808 <= (↑(ul ++ [0]).length:Int) - (↑l1.length:Int) - 1 /\ (↑(ul ++ [0]).length:Int) - (↑l1.length:Int) - 1 <= 9223372036854775807) /\
    vDivideK_at (ul ++ [0]) (l5) (List.replicate ((↑(ul ++ [0]).length:Int) - (↑l1.length:Int)).toNat (0:Int)) (false) (1) ((↑l1.length:Int)) (Int.tdiv 1000000000 (l1.getD ((↑l1.length:Int) - 1).toNat default + 1)) ((↑(ul ++ [0]).length:Int) - (↑l1.length:Int) - 1) (PureQ dq)))) :
 vDivideC_at fa fb a b (PureQ dq):=by
 unfold vDivideC_at
 obtain ⟨k1,H⟩:=H
 obtain ⟨l1,H⟩:=H
 obtain ⟨k2,H⟩:=H
 have w3:(us l1).length = l1.length:=List.length_map ..
 have i4:((↑(us l1).length:Int) == 1) = true ↔ ((↑l1.length:Int) = 1):=(by (try rw [w3]);all_goals exact i_eq)
 refine path_wp (G:=given kp128 [(1,1,.call (.vec false 1 ((x :: l).map (.int .u32))) none),(1,3,.call (vf (us l1)) none)] []) 7 [] ⟨(atC (cd Tryz.f128) [1,1,0,1]),[(0,vf (zNvF1 x l)),(1,vf (us l1)),(23,vb ((↑(us l1).length:Int) == 1))],[],_,[],_⟩ (by kernel_rfl) b0 q0 (ce k1 (ce k2 c0)) ?_
 rcases xm ((↑l1.length:Int) = 1) with d5 | d5
 ·have H:=H.1 d5
  obtain ⟨l2,l3,H⟩:=H
  obtain ⟨k6,H⟩:=H
  have i7:(decide (0 < (us l1).length)) = true ↔ (0 < l1.length):=(by (try rw [w3]);all_goals exact i_dec)
  obtain ⟨k8,H⟩:=H
  exact path_rq (G:=given kp128 [(3,3,.elem (vu (l1.getD 0 default))),(3,4,.call (tu [vf (us l2),vf (us l3)]) none)] []) 1000 [true] (eqs:=[((us l1).get?Internal 0 = some (vu (l1.getD 0 default)))]) (tu [vf (us l2),vf (us l3)]) (by kernel_rfl) (bc (beq_t (i4.2 d5)) (bc rfl (bc (i7.2 k8) b0))) (qc (el_map k8) q0) (ce k6 c0) H
 ·have H:=H.2 d5
  obtain ⟨n1,H⟩:=H
  obtain ⟨k9,H⟩:=H
  refine path_wp (G:=given kp128 [(4,2,.call (vi n1) none)] []) 5 [false] ⟨(atC (cd Tryz.f128) [1,1,1,0,1]),[(0,vf (zNvF1 x l)),(1,vf (us l1)),(34,vb (decide (n1 < 0)))],[],_,[],_⟩ (by kernel_rfl) (bc (beq_f (fun h => d5 (i4.1 h))) b0) q0 (ce k9 c0) ?_
  rcases xm (n1 < 0) with d11 | d11
  ·have H:=H.1 d11
   have w12:(us l).length = l.length:=List.length_map ..
   have i13:(decide (((us l).length + 1) * 4 <= 1099511627776)) = true ↔ ((l.length + 1) * 4 <= 1099511627776):=(by (try rw [w12]);all_goals exact i_dec)
   obtain ⟨k14,H⟩:=H
   exact path_ret (G:=given kp128 [] []) 1000 [true] (k:=((atC (cd Tryz.f128) [1,1,1,0,1,0,1])).tail) (env':=[(4,AV.vnil),(5,AV.row 0 0)]) (L':=[⟨vu x :: us l,1,0,false,true⟩]) (asm:=[(decide (n1 < 0)) == true,decide (((us l).length + 1) * 4 <= 1099511627776)]) (eqs:=[]) (calls:=[]) (tu [AV.vnil,AV.row 0 0]) (by kernel_rfl) (by kernel_rfl) (allB_cons (beq_t (i_dec.2 d11)) (allB_cons (i13.2 k14) allB_nil)) allP_nil allC_nil (pq_weak (d:=(tu [AV.vnil,vf (zNvF1 x l)])) (bs:=[0 == 0]) (by kernel_rfl) (by kernel_rfl) (allB_cons (beq_self_eq_true _) allB_nil) (by kernel_rfl) H)
  ·have H:=H.2 d11
   obtain ⟨k15,H⟩:=H
   have w16:wi ((↑l1.length:Int) - 1) = (↑l1.length:Int) - 1:=wI64 k15
   have i17:(decide (0 <= wi ((↑(us l1).length:Int) - 1))) = true ↔ (0 <= (↑l1.length:Int) - 1):=(by (try rw [w3]);(try rw [w16]);all_goals exact i_dec)
   obtain ⟨k18,H⟩:=H
   have i19:(decide ((wi ((↑(us l1).length:Int) - 1)).toNat < (us l1).length)) = true ↔ (((↑l1.length:Int) - 1).toNat < l1.length):=(by (try rw [w3]);(try rw [w16]);all_goals exact i_dec)
   obtain ⟨k20,H⟩:=H
   obtain ⟨k21,H⟩:=H
   have w22:wu (l1.getD ((↑l1.length:Int) - 1).toNat default) = l1.getD ((↑l1.length:Int) - 1).toNat default:=wU64 k21
   obtain ⟨k23,H⟩:=H
   have w24:wu (l1.getD ((↑l1.length:Int) - 1).toNat default + 1) = l1.getD ((↑l1.length:Int) - 1).toNat default + 1:=wU64 k23
   have i25:(!wu (wu (l1.getD ((↑l1.length:Int) - 1).toNat default) + 1) == 0) = true ↔ (¬l1.getD ((↑l1.length:Int) - 1).toNat default + 1 = 0):=(by (try rw [w22]);(try rw [w24]);all_goals exact i_neq)
   obtain ⟨k26,H⟩:=H
   obtain ⟨k27,H⟩:=H
   have w28:wu (Int.tdiv 1000000000 (l1.getD ((↑l1.length:Int) - 1).toNat default + 1)) = Int.tdiv 1000000000 (l1.getD ((↑l1.length:Int) - 1).toNat default + 1):=wU64 k27
   obtain ⟨k29,H⟩:=H
   have w30:wv (Int.tdiv 1000000000 (l1.getD ((↑l1.length:Int) - 1).toNat default + 1)) = Int.tdiv 1000000000 (l1.getD ((↑l1.length:Int) - 1).toNat default + 1):=wU32 k29
   obtain ⟨k31,H⟩:=H
   have w32:(us ul).length = ul.length:=List.length_map ..
   have i33:(decide (((us ul).length + 1) * 4 <= 1099511627776)) = true ↔ ((ul.length + 1) * 4 <= 1099511627776):=(by (try rw [w32]);all_goals exact i_dec)
   obtain ⟨k34,H⟩:=H
   have w35:us ul ++ [vu 0] = us (ul ++ [0]):=(lm_app rfl rfl)
   obtain ⟨l4,H⟩:=H
   obtain ⟨k36,H⟩:=H
   obtain ⟨l5,H⟩:=H
   obtain ⟨k37,H⟩:=H
   have w38:(us (ul ++ [0])).length = (ul ++ [0]).length:=List.length_map ..
   obtain ⟨k39,H⟩:=H
   have w40:wi ((↑(ul ++ [0]).length:Int) - (↑l1.length:Int)) = (↑(ul ++ [0]).length:Int) - (↑l1.length:Int):=wI64 k39
   have i41:(decide (0 <= wi ((↑(us ul ++ [vu 0]).length:Int) - (↑(us l1).length:Int)))) = true ↔ (0 <= (↑(ul ++ [0]).length:Int) - (↑l1.length:Int)):=(by (try rw [w3]);(try rw [w35]);(try rw [w38]);(try rw [w40]);all_goals exact i_dec)
   obtain ⟨k42,H⟩:=H
   have i43:(decide (wi ((↑(us ul ++ [vu 0]).length:Int) - (↑(us l1).length:Int)) <= wi ((↑(us ul ++ [vu 0]).length:Int) - (↑(us l1).length:Int)))) = true ↔ ((↑(ul ++ [0]).length:Int) - (↑l1.length:Int) <= (↑(ul ++ [0]).length:Int) - (↑l1.length:Int)):=(by (try rw [w3]);(try rw [w35]);(try rw [w38]);(try rw [w40]);all_goals exact i_dec)
   have i44:(decide (wi ((↑(us ul ++ [vu 0]).length:Int) - (↑(us l1).length:Int)) * 4 <= 1099511627776)) = true ↔ (((↑(ul ++ [0]).length:Int) - (↑l1.length:Int)) * 4 <= 1099511627776):=(by (try rw [w3]);(try rw [w35]);(try rw [w38]);(try rw [w40]);all_goals exact i_dec)
   obtain ⟨k45,H⟩:=H
   have i46:(decide (wi ((↑(us ul ++ [vu 0]).length:Int) - (↑(us l1).length:Int)) <= 1099511627776)) = true ↔ ((↑(ul ++ [0]).length:Int) - (↑l1.length:Int) <= 1099511627776):=(by (try rw [w3]);(try rw [w35]);(try rw [w38]);(try rw [w40]);all_goals exact i_dec)
   obtain ⟨k47,H⟩:=H
   have w48:List.replicate ((↑(ul ++ [0]).length:Int) - (↑l1.length:Int)).toNat (vu 0) = us (List.replicate ((↑(ul ++ [0]).length:Int) - (↑l1.length:Int)).toNat (0:Int)):=(lm_rep rfl)
   obtain ⟨k49,H⟩:=H
   have w50:wi ((↑(ul ++ [0]).length:Int) - (↑l1.length:Int) - 1) = (↑(ul ++ [0]).length:Int) - (↑l1.length:Int) - 1:=wI64 k49
   exact path_wp (G:=given kp128 [(7,4,.elem (vu (l1.getD ((↑l1.length:Int) - 1).toNat default))),(8,3,(.call (.row 0 0) (some [⟨ul.map (.int .u32),1,0,false,true⟩]):Ans)),(9,3,.call (vf (us l4)) none),(9,4,.call (vf (us l5)) none)] []) 1000 [false] ⟨(atC (cd Tryz.f128) [1,1,1,1,1,1,1,1,1,0,1,0,0]),[(6,vi (↑(us l1).length:Int)),(7,vu (wv (wu (Int.tdiv 1000000000 (wu (wu (l1.getD ((↑l1.length:Int) - 1).toNat default) + 1)))))),(8,AV.row 0 1),(9,vf (us l5)),(10,AV.row 1 0),(11,vi (wi (wi ((↑(us ul ++ [vu 0]).length:Int) - (↑(us l1).length:Int)) - 1)))],[⟨us ul ++ [vu 0],1,1,false,true⟩,⟨List.replicate (wi ((↑(us ul ++ [vu 0]).length:Int) - (↑(us l1).length:Int))).toNat (vu 0),1,0,false,true⟩],[(decide (n1 < 0)) == false,decide (0 <= wi ((↑(us l1).length:Int) - 1)),decide ((wi ((↑(us l1).length:Int) - 1)).toNat < (us l1).length),!wu (wu (l1.getD ((↑l1.length:Int) - 1).toNat default) + 1) == 0,scalarL (us ul),true,decide (((us ul).length + 1) * 4 <= 1099511627776),true,decide (0 <= wi ((↑(us ul ++ [vu 0]).length:Int) - (↑(us l1).length:Int))),decide (wi ((↑(us ul ++ [vu 0]).length:Int) - (↑(us l1).length:Int)) <= wi ((↑(us ul ++ [vu 0]).length:Int) - (↑(us l1).length:Int))),decide (wi ((↑(us ul ++ [vu 0]).length:Int) - (↑(us l1).length:Int)) * 4 <= 1099511627776),decide (wi ((↑(us ul ++ [vu 0]).length:Int) - (↑(us l1).length:Int)) <= 1099511627776),true],[((us l1).get?Internal (wi ((↑(us l1).length:Int) - 1)).toNat = some (vu (l1.getD ((↑l1.length:Int) - 1).toNat default)))],[⟨true,true,112,[vf (zNvF1 x l),AV.vec true 1 [vu (wv (wu (Int.tdiv 1000000000 (wu (wu (l1.getD ((↑l1.length:Int) - 1).toNat default) + 1)))))]],[],AV.row 0 0,[⟨us ul,1,0,false,true⟩]⟩,⟨true,false,112,[vf (us l1),AV.vec true 1 [vu (wv (wu (Int.tdiv 1000000000 (wu (wu (l1.getD ((↑l1.length:Int) - 1).toNat default) + 1)))))]],[],vf (us l4),[]⟩,⟨true,false,130,[vf (us l4)],[],vf (us l5),[]⟩]⟩ (by kernel_rfl) (bc (beq_f (fun h => d11 (i_dec.1 h))) (bc (i17.2 k18) (bc (i19.2 k20) (bc (i25.2 k26) (bc (by first | exact sc_int _ | exact sc_bool _) (bc rfl (bc (i33.2 k34) (bc rfl (bc (i41.2 k42) (bc (i43.2 (by omega)) (bc (i44.2 k45) (bc (i46.2 k47) (bc rfl b0))))))))))))) (qc (by (try rw [w3]);(try rw [w16]);all_goals exact (el_map k20)) q0) (cc (fun _ => (by (try rw [w22]);(try rw [w24]);(try rw [w28]);(try rw [w30]);all_goals exact k31)) (cc (fun _ => (by (try rw [w22]);(try rw [w24]);(try rw [w28]);(try rw [w30]);all_goals exact k36)) (cc (fun _ => k37) c0))) (by (try rw [w3]);(try rw [w22]);(try rw [w24]);(try rw [w28]);(try rw [w30]);(try rw [w35]);(try rw [w38]);(try rw [w40]);(try rw [w48]);(try rw [w50]);all_goals exact H)
noncomputable abbrev zNvF2 (b:List Int) (n:Int):=vu (b.getD (n - 1).toNat default)
theorem vDivideK (u b q:List Int) (fb:Bool) (v:Nat) (n s k:Int)  (dq:AV) (H :
  ((k >= 0) -> (-9223372036854775808 <= k + n /\ k + n <= 9223372036854775807) /\
   (-9223372036854775808 <= k + n - 1 /\ k + n - 1 <= 9223372036854775807) /\
   (0 <= k + n) /\
   ((k + n).toNat < u.length) /\
   (0 <= k + n - 1) /\
   ((k + n - 1).toNat < u.length) /\
   (0 <= u.getD (k + n).toNat default /\ u.getD (k + n).toNat default <= 18446744073709551615) /\
   (0 <= u.getD (k + n).toNat default * 1000000000 /\ u.getD (k + n).toNat default * 1000000000 <= 18446744073709551615) /\
   (0 <= u.getD (k + n - 1).toNat default /\ u.getD (k + n - 1).toNat default <= 18446744073709551615) /\
   (0 <= u.getD (k + n).toNat default * 1000000000 + u.getD (k + n - 1).toNat default /\ u.getD (k + n).toNat default * 1000000000 + u.getD (k + n - 1).toNat default <= 18446744073709551615) /\
   (-9223372036854775808 <= n - 1 /\ n - 1 <= 9223372036854775807) /\
   (0 <= n - 1) /\
   ((n - 1).toNat < b.length) /\
   (0 <= b.getD (n - 1).toNat default /\ b.getD (n - 1).toNat default <= 18446744073709551615) /\
   (¬b.getD (n - 1).toNat default = 0) /\
   (0 <= (u.getD (k + n).toNat default * 1000000000 + u.getD (k + n - 1).toNat default).tdiv (b.getD (n - 1).toNat default) /\ (u.getD (k + n).toNat default * 1000000000 + u.getD (k + n - 1).toNat default).tdiv (b.getD (n - 1).toNat default) <= 18446744073709551615) /\
   vDivideG_at (u) (b) (q) (fb) (v) (n) (s) (k) ((u.getD (k + n).toNat default * 1000000000 + u.getD (k + n - 1).toNat default).tdiv (b.getD (n - 1).toNat default)) ((u.getD (k + n).toNat default * 1000000000 + u.getD (k + n - 1).toNat default).tmod (b.getD (n - 1).toNat default)) (PureQ dq)) /\
  (¬(k >= 0) -> ∃ (l1:List (Int)),
   (Ev M1 (Conf.pure 130 [vf (us (List.take (n.toNat - 0) (List.drop 0 u)))]) (vf (us l1)) []) /\
   ∃ (l2:List (Int)) (l3:List (Int)),
   (Ev M1 (Conf.pure 133 [vf (us l1),vu s]) (tu [vf (us l2),vf (us l3)]) []) /\
   (0 <= n) /\
   (0 <= n.toNat) /\
   (n.toNat <= u.length) /\
   Weak (tu [vf (us q),vf (us l2)]) dq)) :
 vDivideK_at u b q fb v n s k (PureQ dq):=by
 unfold vDivideK_at
 rcases xm (k >= 0) with d2 | d2
 ·have H:=H.1 d2
  obtain ⟨k3,H⟩:=H
  have w4:wi (k + n) = k + n:=wI64 k3
  obtain ⟨k5,H⟩:=H
  have w6:wi (k + n - 1) = k + n - 1:=wI64 k5
  have i7:(decide (0 <= wi (k + n))) = true ↔ (0 <= k + n):=(by (try rw [w4]);all_goals exact i_dec)
  obtain ⟨k8,H⟩:=H
  have w9:(us u).length = u.length:=List.length_map ..
  have i10:(decide ((wi (k + n)).toNat < (us u).length)) = true ↔ ((k + n).toNat < u.length):=(by (try rw [w4]);(try rw [w9]);all_goals exact i_dec)
  obtain ⟨k11,H⟩:=H
  have i12:(decide (0 <= wi (wi (k + n) - 1))) = true ↔ (0 <= k + n - 1):=(by (try rw [w4]);(try rw [w6]);all_goals exact i_dec)
  obtain ⟨k13,H⟩:=H
  have i14:(decide ((wi (wi (k + n) - 1)).toNat < (us u).length)) = true ↔ ((k + n - 1).toNat < u.length):=(by (try rw [w4]);(try rw [w6]);(try rw [w9]);all_goals exact i_dec)
  obtain ⟨k15,H⟩:=H
  obtain ⟨k16,H⟩:=H
  have w17:wu (u.getD (k + n).toNat default) = u.getD (k + n).toNat default:=wU64 k16
  obtain ⟨k18,H⟩:=H
  have w19:wu (u.getD (k + n).toNat default * 1000000000) = u.getD (k + n).toNat default * 1000000000:=wU64 k18
  obtain ⟨k20,H⟩:=H
  have w21:wu (u.getD (k + n - 1).toNat default) = u.getD (k + n - 1).toNat default:=wU64 k20
  obtain ⟨k22,H⟩:=H
  have w23:wu (u.getD (k + n).toNat default * 1000000000 + u.getD (k + n - 1).toNat default) = u.getD (k + n).toNat default * 1000000000 + u.getD (k + n - 1).toNat default:=wU64 k22
  obtain ⟨k24,H⟩:=H
  have w25:wi (n - 1) = n - 1:=wI64 k24
  have i26:(decide (0 <= wi (n - 1))) = true ↔ (0 <= n - 1):=(by (try rw [w25]);all_goals exact i_dec)
  obtain ⟨k27,H⟩:=H
  have w28:(us b).length = b.length:=List.length_map ..
  have i29:(decide ((wi (n - 1)).toNat < (us b).length)) = true ↔ ((n - 1).toNat < b.length):=(by (try rw [w25]);(try rw [w28]);all_goals exact i_dec)
  obtain ⟨k30,H⟩:=H
  obtain ⟨k31,H⟩:=H
  have w32:wu (b.getD (n - 1).toNat default) = b.getD (n - 1).toNat default:=wU64 k31
  have i33:(!wu (b.getD (n - 1).toNat default) == 0) = true ↔ (¬b.getD (n - 1).toNat default = 0):=(by (try rw [w32]);all_goals exact i_neq)
  obtain ⟨k34,H⟩:=H
  have i35:(decide (0 <= wi (n - 1))) = true ↔ (0 <= n - 1):=(by (try rw [w25]);all_goals exact i_dec)
  have i36:(decide ((wi (n - 1)).toNat < (us b).length)) = true ↔ ((n - 1).toNat < b.length):=(by (try rw [w25]);(try rw [w28]);all_goals exact i_dec)
  have i37:(!wu (b.getD (n - 1).toNat default) == 0) = true ↔ (¬b.getD (n - 1).toNat default = 0):=(by (try rw [w32]);all_goals exact i_neq)
  obtain ⟨k38,H⟩:=H
  have w39:wu ((u.getD (k + n).toNat default * 1000000000 + u.getD (k + n - 1).toNat default).tdiv (b.getD (n - 1).toNat default)) = (u.getD (k + n).toNat default * 1000000000 + u.getD (k + n - 1).toNat default).tdiv (b.getD (n - 1).toNat default):=wU64 k38
  exact path_wp (G:=given kp128 [(14,5,.elem (vu (u.getD (k + n).toNat default))),(14,14,.elem (vu (u.getD (k + n - 1).toNat default))),(15,5,.elem (zNvF2 b n)),(15,13,.elem (zNvF2 b n))] []) 1000 [true] ⟨(atC (cd Tryz.f128) [1,1,1,1,1,1,1,1,1,0,1,0,0,1,0,0,1,1,0,0,0]),[(6,vi n),(7,vu s),(8,AV.row 0 v),(9,AV.vec fb 1 (us b)),(10,AV.row 1 0),(11,vi k),(13,vw (wu ((wu (wu (wu (u.getD (k + n).toNat default) * 1000000000) + wu (u.getD (k + n - 1).toNat default))).tdiv (wu (b.getD (n - 1).toNat default))))),(14,vw ((wu (wu (wu (u.getD (k + n).toNat default) * 1000000000) + wu (u.getD (k + n - 1).toNat default))).tmod (wu (b.getD (n - 1).toNat default))))],[⟨us u,1,v,false,true⟩,⟨us q,1,0,false,true⟩],[(decide (k >= 0)) == true,v == v,decide (0 <= wi (k + n)),decide ((wi (k + n)).toNat < (us u).length),v == v,v == v,decide (0 <= wi (wi (k + n) - 1)),decide ((wi (wi (k + n) - 1)).toNat < (us u).length),v == v,decide (0 <= wi (n - 1)),decide ((wi (n - 1)).toNat < (us b).length),!wu (b.getD (n - 1).toNat default) == 0,decide (0 <= wi (n - 1)),decide ((wi (n - 1)).toNat < (us b).length),!wu (b.getD (n - 1).toNat default) == 0],[((us u).get?Internal (wi (k + n)).toNat = some (vu (u.getD (k + n).toNat default))),((us u).get?Internal (wi (wi (k + n) - 1)).toNat = some (vu (u.getD (k + n - 1).toNat default))),((us b).get?Internal (wi (n - 1)).toNat = some (zNvF2 b n)),((us b).get?Internal (wi (n - 1)).toNat = some (zNvF2 b n))],_⟩ (by kernel_rfl) (bc (beq_t (i_dec.2 d2)) (bc (beq_self_eq_true _) (bc (i7.2 k8) (bc (i10.2 k11) (bc (beq_self_eq_true _) (bc (beq_self_eq_true _) (bc (i12.2 k13) (bc (i14.2 k15) (bc (beq_self_eq_true _) (bc (i26.2 k27) (bc (i29.2 k30) (bc (i33.2 k34) (bc (i35.2 k27) (bc (i36.2 k30) (bc (i37.2 k34) b0))))))))))))))) (qc (by (try rw [w4]);all_goals exact (el_map k11)) (qc (by (try rw [w4]);(try rw [w6]);all_goals exact (el_map k15)) (qc (by (try rw [w25]);all_goals exact (el_map k30)) (qc (by (try rw [w25]);all_goals exact (el_map k30)) q0)))) c0 (by (try rw [w17]);(try rw [w19]);(try rw [w21]);(try rw [w23]);(try rw [w32]);(try rw [w39]);all_goals exact H)
 ·have H:=H.2 d2
  have w40:List.drop 0 (us u) = us (List.drop 0 u):=(lm_drop rfl)
  have w41:List.take (n.toNat - 0) (us (List.drop 0 u)) = us (List.take (n.toNat - 0) (List.drop 0 u)):=(lm_take rfl)
  obtain ⟨l1,H⟩:=H
  obtain ⟨k42,H⟩:=H
  obtain ⟨l2,l3,H⟩:=H
  obtain ⟨k43,H⟩:=H
  obtain ⟨k45,H⟩:=H
  obtain ⟨k47,H⟩:=H
  have w48:(us u).length = u.length:=List.length_map ..
  have i49:(decide (n.toNat <= (us u).length)) = true ↔ (n.toNat <= u.length):=(by (try rw [w48]);all_goals exact i_dec)
  obtain ⟨k50,H⟩:=H
  exact path_ret (G:=given kp128 [(24,3,.call (vf (us l1)) none),(24,5,.call (tu [vf (us l2),vf (us l3)]) none)] []) 1000 [false] (k:=((atC (cd Tryz.f128) [1,1,1,1,1,1,1,1,1,1,1,1])).tail) (env':=[(4,AV.row 1 0),(5,vf (us l2))]) (L':=[⟨us u,1,v,true,true⟩,⟨us q,1,0,false,true⟩]) (asm:=[(decide (k >= 0)) == false,v == v,decide (0 <= n),decide (0 <= n.toNat),decide (n.toNat <= (us u).length),v == v]) (eqs:=[]) (calls:=[⟨true,false,130,[vf (List.take (n.toNat - 0) (List.drop 0 (us u)))],[],vf (us l1),[]⟩,⟨true,false,133,[vf (us l1),vu s],[],tu [vf (us l2),vf (us l3)],[]⟩]) (tu [AV.row 1 0,vf (us l2)]) (by kernel_rfl) (by kernel_rfl) (allB_cons (beq_f (fun h => d2 (i_dec.1 h))) (allB_cons (beq_self_eq_true _) (allB_cons (i_dec.2 k45) (allB_cons (i_dec.2 k47) (allB_cons (i49.2 k50) (allB_cons (beq_self_eq_true _) allB_nil)))))) allP_nil (allC_cons (fun _ => (by (try rw [w40]);(try rw [w41]);all_goals exact k42)) (allC_cons (fun _ => k43) allC_nil)) (pq_weak (d:=(tu [vf (us q),vf (us l2)])) (bs:=[0 == 0]) (by kernel_rfl) (by kernel_rfl) (allB_cons (beq_self_eq_true _) allB_nil) (by kernel_rfl) H)
noncomputable abbrev zNvF3 (g:Int) (b:List Int) (n:Int) (r:Int) (u:List Int) (k:Int):=wu (g * wu (b.getD (n - 2).toNat default)) > wu (wu (r * 1000000000) + wu (u.getD (k + n - 2).toNat default))
theorem vDivideG (u b q:List Int) (fb:Bool) (v:Nat) (n s k:Int) (g r:Int)  (dq:AV) (H :
  (-9223372036854775808 <= n - 2 /\ n - 2 <= 9223372036854775807) /\
  (-9223372036854775808 <= k + n /\ k + n <= 9223372036854775807) /\
  (-9223372036854775808 <= k + n - 2 /\ k + n - 2 <= 9223372036854775807) /\
  ((¬(g >= 1000000000)) -> (0 <= n - 2)) /\
  ((¬(g >= 1000000000)) -> ((n - 2).toNat < b.length)) /\
  ((¬(g >= 1000000000)) -> (0 <= k + n - 2)) /\
  ((¬(g >= 1000000000)) -> ((k + n - 2).toNat < u.length)) /\
  (((g >= 1000000000) \/ (IntKind.u64.wrap (g * IntKind.u64.wrap (b.getD (n - 2).toNat default)) > IntKind.u64.wrap (IntKind.u64.wrap (r * 1000000000) + IntKind.u64.wrap (u.getD (k + n - 2).toNat default)))) -> (0 <= g - 1 /\ g - 1 <= 18446744073709551615) /\
   (-9223372036854775808 <= n - 1 /\ n - 1 <= 9223372036854775807) /\
   (0 <= n - 1) /\
   ((n - 1).toNat < b.length) /\
   (0 <= b.getD (n - 1).toNat default /\ b.getD (n - 1).toNat default <= 18446744073709551615) /\
   (0 <= r + b.getD (n - 1).toNat default /\ r + b.getD (n - 1).toNat default <= 18446744073709551615) /\
   ((r + b.getD (n - 1).toNat default >= 1000000000) -> (-9223372036854775808 <= k + n + 1 /\ k + n + 1 <= 9223372036854775807) /\
    (Sp.okL u /\ Sp.okL b /\ k.toNat + ((k + n + 1).toNat - k.toNat) <= u.length /\ (k + n + 1).toNat - k.toNat = b.length + 1 /\ u.length <= 1000000 /\ 0 <= g - 1 /\ g - 1 < 1000000000) /\
    (0 <= k) /\
    (0 <= k + n + 1) /\
    (k.toNat <= (k + n + 1).toNat) /\
    ((k + n + 1).toNat <= u.length) /\
    (((↑(Sp.win u k.toNat ((k + n + 1).toNat - k.toNat)):Int) - (g - 1) * (↑(valL b):Int) < 0) -> (0 <= g - 1 - 1 /\ g - 1 - 1 <= 18446744073709551615) /\
     (Sp.okL (Sp.rowZ u k.toNat ((k + n + 1).toNat - k.toNat) ((↑(Sp.win u k.toNat ((k + n + 1).toNat - k.toNat)):Int) - (g - 1) * (↑(valL b):Int))) /\ Sp.okL b /\ k.toNat + ((k + n + 1).toNat - k.toNat) <= (Sp.rowZ u k.toNat ((k + n + 1).toNat - k.toNat) ((↑(Sp.win u k.toNat ((k + n + 1).toNat - k.toNat)):Int) - (g - 1) * (↑(valL b):Int))).length /\ (k + n + 1).toNat - k.toNat = b.length + 1 /\ (Sp.rowZ u k.toNat ((k + n + 1).toNat - k.toNat) ((↑(Sp.win u k.toNat ((k + n + 1).toNat - k.toNat)):Int) - (g - 1) * (↑(valL b):Int))).length <= 1000000) /\
     ((k + n + 1).toNat <= (Sp.rowZ u k.toNat ((k + n + 1).toNat - k.toNat) ((↑(Sp.win u k.toNat ((k + n + 1).toNat - k.toNat)):Int) - (g - 1) * (↑(valL b):Int))).length) /\
     (k.toNat < q.length) /\
     (0 <= g - 1 - 1 /\ g - 1 - 1 <= 4294967295) /\
     (-9223372036854775808 <= k - 1 /\ k - 1 <= 9223372036854775807) /\
     vDivideK_at (Sp.rowZ (Sp.rowZ u k.toNat ((k + n + 1).toNat - k.toNat) ((↑(Sp.win u k.toNat ((k + n + 1).toNat - k.toNat)):Int) - (g - 1) * (↑(valL b):Int))) k.toNat ((k + n + 1).toNat - k.toNat) ((↑(Sp.win (Sp.rowZ u k.toNat ((k + n + 1).toNat - k.toNat) ((↑(Sp.win u k.toNat ((k + n + 1).toNat - k.toNat)):Int) - (g - 1) * (↑(valL b):Int))) k.toNat ((k + n + 1).toNat - k.toNat)):Int) + (↑(valL b):Int))) (b) (q.set k.toNat (g - 1 - 1)) (fb) (v) (n) (s) (k - 1) (PureQ dq)) /\
    (¬((↑(Sp.win u k.toNat ((k + n + 1).toNat - k.toNat)):Int) - (g - 1) * (↑(valL b):Int) < 0) -> (k.toNat < q.length) /\
     (0 <= g - 1 /\ g - 1 <= 4294967295) /\
     (-9223372036854775808 <= k - 1 /\ k - 1 <= 9223372036854775807) /\
     vDivideK_at (Sp.rowZ u k.toNat ((k + n + 1).toNat - k.toNat) ((↑(Sp.win u k.toNat ((k + n + 1).toNat - k.toNat)):Int) - (g - 1) * (↑(valL b):Int))) (b) (q.set k.toNat (g - 1)) (fb) (v) (n) (s) (k - 1) (PureQ dq))) /\
   (¬(r + b.getD (n - 1).toNat default >= 1000000000) -> vDivideG_at (u) (b) (q) (fb) (v) (n) (s) (k) (g - 1) (r + b.getD (n - 1).toNat default) (PureQ dq))) /\
  (¬((g >= 1000000000) \/ (IntKind.u64.wrap (g * IntKind.u64.wrap (b.getD (n - 2).toNat default)) > IntKind.u64.wrap (IntKind.u64.wrap (r * 1000000000) + IntKind.u64.wrap (u.getD (k + n - 2).toNat default)))) -> (-9223372036854775808 <= k + n + 1 /\ k + n + 1 <= 9223372036854775807) /\
   (Sp.okL u /\ Sp.okL b /\ k.toNat + ((k + n + 1).toNat - k.toNat) <= u.length /\ (k + n + 1).toNat - k.toNat = b.length + 1 /\ u.length <= 1000000 /\ 0 <= g /\ g < 1000000000) /\
   (0 <= k) /\
   (0 <= k + n + 1) /\
   (k.toNat <= (k + n + 1).toNat) /\
   ((k + n + 1).toNat <= u.length) /\
   (((↑(Sp.win u k.toNat ((k + n + 1).toNat - k.toNat)):Int) - g * (↑(valL b):Int) < 0) -> (0 <= g - 1 /\ g - 1 <= 18446744073709551615) /\
    (Sp.okL (Sp.rowZ u k.toNat ((k + n + 1).toNat - k.toNat) ((↑(Sp.win u k.toNat ((k + n + 1).toNat - k.toNat)):Int) - g * (↑(valL b):Int))) /\ Sp.okL b /\ k.toNat + ((k + n + 1).toNat - k.toNat) <= (Sp.rowZ u k.toNat ((k + n + 1).toNat - k.toNat) ((↑(Sp.win u k.toNat ((k + n + 1).toNat - k.toNat)):Int) - g * (↑(valL b):Int))).length /\ (k + n + 1).toNat - k.toNat = b.length + 1 /\ (Sp.rowZ u k.toNat ((k + n + 1).toNat - k.toNat) ((↑(Sp.win u k.toNat ((k + n + 1).toNat - k.toNat)):Int) - g * (↑(valL b):Int))).length <= 1000000) /\
    ((k + n + 1).toNat <= (Sp.rowZ u k.toNat ((k + n + 1).toNat - k.toNat) ((↑(Sp.win u k.toNat ((k + n + 1).toNat - k.toNat)):Int) - g * (↑(valL b):Int))).length) /\
    (k.toNat < q.length) /\
    (0 <= g - 1 /\ g - 1 <= 4294967295) /\
    (-9223372036854775808 <= k - 1 /\ k - 1 <= 9223372036854775807) /\
    vDivideK_at (Sp.rowZ (Sp.rowZ u k.toNat ((k + n + 1).toNat - k.toNat) ((↑(Sp.win u k.toNat ((k + n + 1).toNat - k.toNat)):Int) - g * (↑(valL b):Int))) k.toNat ((k + n + 1).toNat - k.toNat) ((↑(Sp.win (Sp.rowZ u k.toNat ((k + n + 1).toNat - k.toNat) ((↑(Sp.win u k.toNat ((k + n + 1).toNat - k.toNat)):Int) - g * (↑(valL b):Int))) k.toNat ((k + n + 1).toNat - k.toNat)):Int) + (↑(valL b):Int))) (b) (q.set k.toNat (g - 1)) (fb) (v) (n) (s) (k - 1) (PureQ dq)) /\
   (¬((↑(Sp.win u k.toNat ((k + n + 1).toNat - k.toNat)):Int) - g * (↑(valL b):Int) < 0) -> (k.toNat < q.length) /\
    (0 <= g /\ g <= 4294967295) /\
    (-9223372036854775808 <= k - 1 /\ k - 1 <= 9223372036854775807) /\
    vDivideK_at (Sp.rowZ u k.toNat ((k + n + 1).toNat - k.toNat) ((↑(Sp.win u k.toNat ((k + n + 1).toNat - k.toNat)):Int) - g * (↑(valL b):Int))) (b) (q.set k.toNat g) (fb) (v) (n) (s) (k - 1) (PureQ dq)))) :
 vDivideG_at u b q fb v n s k g r (PureQ dq):=by
 unfold vDivideG_at
 obtain ⟨k1,H⟩:=H
 have w2:wi (n - 2) = n - 2:=wI64 k1
 obtain ⟨k3,H⟩:=H
 have w4:wi (k + n) = k + n:=wI64 k3
 obtain ⟨k5,H⟩:=H
 have w6:wi (k + n - 2) = k + n - 2:=wI64 k5
 have i7:(!(decide (g >= 1000000000) == false && true) || decide (0 <= wi (n - 2))) = true ↔ ((¬(g >= 1000000000)) -> (0 <= n - 2)):=(by (try rw [w2]);all_goals exact (i_imp (i_at (i_bf i_dec)) i_dec))
 obtain ⟨k8,H⟩:=H
 have w9:(us b).length = b.length:=List.length_map ..
 have i10:(!(decide (g >= 1000000000) == false && true) || decide ((wi (n - 2)).toNat < (us b).length)) = true ↔ ((¬(g >= 1000000000)) -> ((n - 2).toNat < b.length)):=(by (try rw [w2]);(try rw [w9]);all_goals exact (i_imp (i_at (i_bf i_dec)) i_dec))
 obtain ⟨k11,H⟩:=H
 have i13:(!(decide (g >= 1000000000) == false && true) || decide (0 <= wi (wi (k + n) - 2))) = true ↔ ((¬(g >= 1000000000)) -> (0 <= k + n - 2)):=(by (try rw [w4]);(try rw [w6]);all_goals exact (i_imp (i_at (i_bf i_dec)) i_dec))
 obtain ⟨k14,H⟩:=H
 have w15:(us u).length = u.length:=List.length_map ..
 have i16:(!(decide (g >= 1000000000) == false && true) || decide ((wi (wi (k + n) - 2)).toNat < (us u).length)) = true ↔ ((¬(g >= 1000000000)) -> ((k + n - 2).toNat < u.length)):=(by (try rw [w4]);(try rw [w6]);(try rw [w15]);all_goals exact (i_imp (i_at (i_bf i_dec)) i_dec))
 obtain ⟨k17,H⟩:=H
 refine path_wp (G:=given kp128 [(16,8,.elem (vu (b.getD (n - 2).toNat default))),(16,19,.elem (vu (u.getD (k + n - 2).toNat default)))] []) 3 [] ⟨(atC (cd Tryz.f128) [1,1,1,1,1,1,1,1,1,0,1,0,0,1,0,0,1,1,0,0,0,0,1]),[(6,vi n),(7,vu s),(8,AV.row 0 v),(9,AV.vec fb 1 (us b)),(10,AV.row 1 0),(11,vi k),(13,vw g),(14,vw r),(129,vb (bif decide (g >= 1000000000) then true else decide (zNvF3 g b n r u k)))],[⟨us u,1,v,false,true⟩,⟨us q,1,0,false,true⟩],[!(decide (g >= 1000000000) == false && true) || decide (0 <= wi (n - 2)),!(decide (g >= 1000000000) == false && true) || decide ((wi (n - 2)).toNat < (us b).length),!(decide (g >= 1000000000) == false && true) || v == v,!(decide (g >= 1000000000) == false && true) || decide (0 <= wi (wi (k + n) - 2)),!(decide (g >= 1000000000) == false && true) || decide ((wi (wi (k + n) - 2)).toNat < (us u).length),!(decide (g >= 1000000000) == false && true) || v == v],[((decide (g >= 1000000000) == false && true) = true -> (us b).get?Internal (wi (n - 2)).toNat = some (vu (b.getD (n - 2).toNat default))),((decide (g >= 1000000000) == false && true) = true -> (us u).get?Internal (wi (wi (k + n) - 2)).toNat = some (vu (u.getD (k + n - 2).toNat default)))],_⟩ (by kernel_rfl) (bc (i7.2 k8) (bc (i10.2 k11) (bc ((i_imp (i_at (i_bf i_dec)) i_eq).2 (fun _ => rfl)) (bc (i13.2 k14) (bc (i16.2 k17) (bc ((i_imp (i_at (i_bf i_dec)) i_eq).2 (fun _ => rfl)) b0)))))) (qc (by (try rw [w2]);all_goals exact (fun h => el_map (k11 ((i_at (i_bf i_dec)).1 h)))) (qc (by (try rw [w4]);(try rw [w6]);all_goals exact (fun h => el_map (k17 ((i_at (i_bf i_dec)).1 h)))) q0)) c0 ?_
 rcases xm ((g >= 1000000000) \/ (zNvF3 g b n r u k)) with d22 | d22
 ·have H:=H.1 d22
  obtain ⟨k23,H⟩:=H
  have w24:wu (g - 1) = g - 1:=wU64 k23
  obtain ⟨k25,H⟩:=H
  have w26:wi (n - 1) = n - 1:=wI64 k25
  have i27:(decide (0 <= wi (n - 1))) = true ↔ (0 <= n - 1):=(by (try rw [w26]);all_goals exact i_dec)
  obtain ⟨k28,H⟩:=H
  have i29:(decide ((wi (n - 1)).toNat < (us b).length)) = true ↔ ((n - 1).toNat < b.length):=(by (try rw [w9]);(try rw [w26]);all_goals exact i_dec)
  obtain ⟨k30,H⟩:=H
  obtain ⟨k31,H⟩:=H
  have w32:wu (b.getD (n - 1).toNat default) = b.getD (n - 1).toNat default:=wU64 k31
  obtain ⟨k33,H⟩:=H
  have w34:wu (r + b.getD (n - 1).toNat default) = r + b.getD (n - 1).toNat default:=wU64 k33
  have i35:(decide (wu (r + wu (b.getD (n - 1).toNat default)) >= 1000000000)) = true ↔ (r + b.getD (n - 1).toNat default >= 1000000000):=(by (try rw [w32]);(try rw [w34]);all_goals exact i_dec)
  refine path_wp (G:=given kp128 [(18,5,.elem (vu (b.getD (n - 1).toNat default)))] []) 9 [true] ⟨(atC (cd Tryz.f128) [1,1,1,1,1,1,1,1,1,0,1,0,0,1,0,0,1,1,0,0,0,1,0,1,1,1]),[(6,vi n),(7,vu s),(8,AV.row 0 v),(9,AV.vec fb 1 (us b)),(10,AV.row 1 0),(11,vi k),(13,vw (wu (g - 1))),(14,vw (wu (r + wu (b.getD (n - 1).toNat default)))),(141,vb (decide (wu (r + wu (b.getD (n - 1).toNat default)) >= 1000000000)))],[⟨us u,1,v,false,true⟩,⟨us q,1,0,false,true⟩],_,[((us b).get?Internal (wi (n - 1)).toNat = some (vu (b.getD (n - 1).toNat default)))],_⟩ (by kernel_rfl) (bc (beq_t ((i_bor i_dec i_dec).2 d22)) (bc (i27.2 k28) (bc (i29.2 k30) b0))) (qc (by (try rw [w26]);all_goals exact (el_map k30)) q0) c0 ?_
  rcases xm (r + b.getD (n - 1).toNat default >= 1000000000) with d36 | d36
  ·have H:=H.1 d36
   obtain ⟨k37,H⟩:=H
   have w38:wi (k + n + 1) = k + n + 1:=wI64 k37
   obtain ⟨k39,H⟩:=H
   obtain ⟨k41,H⟩:=H
   have i42:(decide (0 <= wi (wi (k + n) + 1))) = true ↔ (0 <= k + n + 1):=(by (try rw [w4]);(try rw [w38]);all_goals exact i_dec)
   obtain ⟨k43,H⟩:=H
   have i44:(decide (k.toNat <= (wi (wi (k + n) + 1)).toNat)) = true ↔ (k.toNat <= (k + n + 1).toNat):=(by (try rw [w4]);(try rw [w38]);all_goals exact i_dec)
   obtain ⟨k45,H⟩:=H
   have i46:(decide ((wi (wi (k + n) + 1)).toNat <= (us u).length)) = true ↔ ((k + n + 1).toNat <= u.length):=(by (try rw [w4]);(try rw [w15]);(try rw [w38]);all_goals exact i_dec)
   obtain ⟨k47,H⟩:=H
   refine path_wp (G:=given kp128 [(20,9,.call (vb (decide ((↑(Sp.win u k.toNat ((k + n + 1).toNat - k.toNat)):Int) - (g - 1) * (↑(valL b):Int) < 0))) (some [⟨us (Sp.rowZ u k.toNat ((k + n + 1).toNat - k.toNat) ((↑(Sp.win u k.toNat ((k + n + 1).toNat - k.toNat)):Int) - (g - 1) * (↑(valL b):Int))),1,v,false,true⟩]))] []) 5 [true] ⟨(atC (cd Tryz.f128) [1,1,1,1,1,1,1,1,1,0,1,0,0,1,0,0,1,1,1,0,1]),[(6,vi n),(7,vu s),(8,AV.row 0 v),(9,AV.vec fb 1 (us b)),(10,AV.row 1 0),(11,vi k),(13,vw (wu (g - 1))),(151,vb (decide ((↑(Sp.win u k.toNat ((k + n + 1).toNat - k.toNat)):Int) - (g - 1) * (↑(valL b):Int) < 0)))],[⟨us (Sp.rowZ u k.toNat ((k + n + 1).toNat - k.toNat) ((↑(Sp.win u k.toNat ((k + n + 1).toNat - k.toNat)):Int) - (g - 1) * (↑(valL b):Int))),1,v,false,true⟩,⟨us q,1,0,false,true⟩],[(decide (wu (r + wu (b.getD (n - 1).toNat default)) >= 1000000000)) == true,v == v,decide (0 <= k),decide (0 <= wi (wi (k + n) + 1)),decide (k.toNat <= (wi (wi (k + n) + 1)).toNat),decide ((wi (wi (k + n) + 1)).toNat <= (us u).length)],[],[⟨true,true,134,[AV.ref 0 v k.toNat ((wi (wi (k + n) + 1)).toNat - k.toNat),AV.vec fb 1 (us b),vw (wu (g - 1))],[⟨us u,1,v,false,true⟩],vb (decide ((↑(Sp.win u k.toNat ((k + n + 1).toNat - k.toNat)):Int) - (g - 1) * (↑(valL b):Int) < 0)),[⟨us (Sp.rowZ u k.toNat ((k + n + 1).toNat - k.toNat) ((↑(Sp.win u k.toNat ((k + n + 1).toNat - k.toNat)):Int) - (g - 1) * (↑(valL b):Int))),1,v,false,true⟩]⟩]⟩ (by kernel_rfl) (bc (beq_t (i35.2 d36)) (bc (beq_self_eq_true _) (bc (i_dec.2 k41) (bc (i42.2 k43) (bc (i44.2 k45) (bc (i46.2 k47) b0)))))) q0 (cc (fun _ => (by (try rw [w4]);(try rw [w24]);(try rw [w38]);all_goals exact (@evo134 (u) (b) (fb) (v) (k.toNat) ((k + n + 1).toNat - k.toNat) (g - 1) k39))) c0) ?_
   rcases xm ((↑(Sp.win u k.toNat ((k + n + 1).toNat - k.toNat)):Int) - (g - 1) * (↑(valL b):Int) < 0) with d49 | d49
   ·have H:=H.1 d49
    obtain ⟨k50,H⟩:=H
    have w51:wu (g - 1 - 1) = g - 1 - 1:=wU64 k50
    obtain ⟨k52,H⟩:=H
    have i54:(decide (0 <= wi (wi (k + n) + 1))) = true ↔ (0 <= k + n + 1):=(by (try rw [w4]);(try rw [w38]);all_goals exact i_dec)
    have i55:(decide (k.toNat <= (wi (wi (k + n) + 1)).toNat)) = true ↔ (k.toNat <= (k + n + 1).toNat):=(by (try rw [w4]);(try rw [w38]);all_goals exact i_dec)
    have w56:(us (Sp.rowZ u k.toNat ((k + n + 1).toNat - k.toNat) ((↑(Sp.win u k.toNat ((k + n + 1).toNat - k.toNat)):Int) - (g - 1) * (↑(valL b):Int)))).length = (Sp.rowZ u k.toNat ((k + n + 1).toNat - k.toNat) ((↑(Sp.win u k.toNat ((k + n + 1).toNat - k.toNat)):Int) - (g - 1) * (↑(valL b):Int))).length:=List.length_map ..
    have i57:(decide ((wi (wi (k + n) + 1)).toNat <= (us (Sp.rowZ u k.toNat ((k + n + 1).toNat - k.toNat) ((↑(Sp.win u k.toNat ((k + n + 1).toNat - k.toNat)):Int) - (g - 1) * (↑(valL b):Int)))).length)) = true ↔ ((k + n + 1).toNat <= (Sp.rowZ u k.toNat ((k + n + 1).toNat - k.toNat) ((↑(Sp.win u k.toNat ((k + n + 1).toNat - k.toNat)):Int) - (g - 1) * (↑(valL b):Int))).length):=(by (try rw [w4]);(try rw [w38]);(try rw [w56]);all_goals exact i_dec)
    obtain ⟨k58,H⟩:=H
    have w60:(us q).length = q.length:=List.length_map ..
    have i61:(decide (k.toNat < (us q).length)) = true ↔ (k.toNat < q.length):=(by (try rw [w60]);all_goals exact i_dec)
    obtain ⟨k62,H⟩:=H
    obtain ⟨k63,H⟩:=H
    have w64:wv (g - 1 - 1) = g - 1 - 1:=wU32 k63
    have w65:(us q).set k.toNat (vu (g - 1 - 1)) = us (q.set k.toNat (g - 1 - 1)):=(lm_set rfl rfl)
    obtain ⟨k66,H⟩:=H
    have w67:wi (k - 1) = k - 1:=wI64 k66
    exact path_wp (G:=given kp128 [(22,8,.call (tu []) (some [⟨us (Sp.rowZ (Sp.rowZ u k.toNat ((k + n + 1).toNat - k.toNat) ((↑(Sp.win u k.toNat ((k + n + 1).toNat - k.toNat)):Int) - (g - 1) * (↑(valL b):Int))) k.toNat ((k + n + 1).toNat - k.toNat) ((↑(Sp.win (Sp.rowZ u k.toNat ((k + n + 1).toNat - k.toNat) ((↑(Sp.win u k.toNat ((k + n + 1).toNat - k.toNat)):Int) - (g - 1) * (↑(valL b):Int))) k.toNat ((k + n + 1).toNat - k.toNat)):Int) + (↑(valL b):Int))),1,v,false,true⟩])),(23,5,.elem (vu (q.getD k.toNat default)))] []) 1000 [true] ⟨(atC (cd Tryz.f128) [1,1,1,1,1,1,1,1,1,0,1,0,0]),[(6,vi n),(7,vu s),(8,AV.row 0 v),(9,AV.vec fb 1 (us b)),(10,AV.row 1 0),(11,vi (wi (k - 1)))],[⟨us (Sp.rowZ (Sp.rowZ u k.toNat ((k + n + 1).toNat - k.toNat) ((↑(Sp.win u k.toNat ((k + n + 1).toNat - k.toNat)):Int) - (g - 1) * (↑(valL b):Int))) k.toNat ((k + n + 1).toNat - k.toNat) ((↑(Sp.win (Sp.rowZ u k.toNat ((k + n + 1).toNat - k.toNat) ((↑(Sp.win u k.toNat ((k + n + 1).toNat - k.toNat)):Int) - (g - 1) * (↑(valL b):Int))) k.toNat ((k + n + 1).toNat - k.toNat)):Int) + (↑(valL b):Int))),1,v,false,true⟩,⟨(us q).set k.toNat (vu (wv (wu (wu (g - 1) - 1)))),1,0,false,true⟩],[(decide ((↑(Sp.win u k.toNat ((k + n + 1).toNat - k.toNat)):Int) - (g - 1) * (↑(valL b):Int) < 0)) == true,v == v,decide (0 <= k),decide (0 <= wi (wi (k + n) + 1)),decide (k.toNat <= (wi (wi (k + n) + 1)).toNat),decide ((wi (wi (k + n) + 1)).toNat <= (us (Sp.rowZ u k.toNat ((k + n + 1).toNat - k.toNat) ((↑(Sp.win u k.toNat ((k + n + 1).toNat - k.toNat)):Int) - (g - 1) * (↑(valL b):Int)))).length),true,decide (0 <= k),decide (k.toNat < (us q).length),true],[((us q).get?Internal k.toNat = some (vu (q.getD k.toNat default)))],[⟨true,true,135,[AV.ref 0 v k.toNat ((wi (wi (k + n) + 1)).toNat - k.toNat),AV.vec fb 1 (us b)],[⟨us (Sp.rowZ u k.toNat ((k + n + 1).toNat - k.toNat) ((↑(Sp.win u k.toNat ((k + n + 1).toNat - k.toNat)):Int) - (g - 1) * (↑(valL b):Int))),1,v,false,true⟩],tu [],[⟨us (Sp.rowZ (Sp.rowZ u k.toNat ((k + n + 1).toNat - k.toNat) ((↑(Sp.win u k.toNat ((k + n + 1).toNat - k.toNat)):Int) - (g - 1) * (↑(valL b):Int))) k.toNat ((k + n + 1).toNat - k.toNat) ((↑(Sp.win (Sp.rowZ u k.toNat ((k + n + 1).toNat - k.toNat) ((↑(Sp.win u k.toNat ((k + n + 1).toNat - k.toNat)):Int) - (g - 1) * (↑(valL b):Int))) k.toNat ((k + n + 1).toNat - k.toNat)):Int) + (↑(valL b):Int))),1,v,false,true⟩]⟩]⟩ (by kernel_rfl) (bc (beq_t (i_dec.2 d49)) (bc (beq_self_eq_true _) (bc (i_dec.2 k41) (bc (i54.2 k43) (bc (i55.2 k45) (bc (i57.2 k58) (bc rfl (bc (i_dec.2 k41) (bc (i61.2 k62) (bc rfl b0)))))))))) (qc (el_map k62) q0) (cc (fun _ => (by (try rw [w4]);(try rw [w38]);all_goals exact (@evo135 (Sp.rowZ u k.toNat ((k + n + 1).toNat - k.toNat) ((↑(Sp.win u k.toNat ((k + n + 1).toNat - k.toNat)):Int) - (g - 1) * (↑(valL b):Int))) (b) (fb) (v) (k.toNat) ((k + n + 1).toNat - k.toNat) k52))) c0) (by (try rw [w24]);(try rw [w51]);(try rw [w64]);(try rw [w65]);(try rw [w67]);all_goals exact H)
   ·have H:=H.2 d49
    have w69:(us q).length = q.length:=List.length_map ..
    have i70:(decide (k.toNat < (us q).length)) = true ↔ (k.toNat < q.length):=(by (try rw [w69]);all_goals exact i_dec)
    obtain ⟨k71,H⟩:=H
    obtain ⟨k72,H⟩:=H
    have w73:wv (g - 1) = g - 1:=wU32 k72
    have w74:(us q).set k.toNat (vu (g - 1)) = us (q.set k.toNat (g - 1)):=(lm_set rfl rfl)
    obtain ⟨k75,H⟩:=H
    have w76:wi (k - 1) = k - 1:=wI64 k75
    exact path_wp (G:=given kp128 [(23,5,.elem (vu (q.getD k.toNat default)))] []) 1000 [false] ⟨(atC (cd Tryz.f128) [1,1,1,1,1,1,1,1,1,0,1,0,0]),[(6,vi n),(7,vu s),(8,AV.row 0 v),(9,AV.vec fb 1 (us b)),(10,AV.row 1 0),(11,vi (wi (k - 1)))],[⟨us (Sp.rowZ u k.toNat ((k + n + 1).toNat - k.toNat) ((↑(Sp.win u k.toNat ((k + n + 1).toNat - k.toNat)):Int) - (g - 1) * (↑(valL b):Int))),1,v,false,true⟩,⟨(us q).set k.toNat (vu (wv (wu (g - 1)))),1,0,false,true⟩],_,[((us q).get?Internal k.toNat = some (vu (q.getD k.toNat default)))],_⟩ (by kernel_rfl) (bc (beq_f (fun h => d49 (i_dec.1 h))) (bc rfl (bc (i_dec.2 k41) (bc (i70.2 k71) (bc rfl b0))))) (qc (el_map k71) q0) c0 (by (try rw [w24]);(try rw [w73]);(try rw [w74]);(try rw [w76]);all_goals exact H)
  ·have H:=H.2 d36
   exact path_wp (G:=given kp128 [] []) 1000 [false] ⟨(atC (cd Tryz.f128) [1,1,1,1,1,1,1,1,1,0,1,0,0,1,0,0,1,1,0,0,0]),[(6,vi n),(7,vu s),(8,AV.row 0 v),(9,AV.vec fb 1 (us b)),(10,AV.row 1 0),(11,vi k),(13,vw (wu (g - 1))),(14,vw (wu (r + wu (b.getD (n - 1).toNat default)))),(141,vb (decide (wu (r + wu (b.getD (n - 1).toNat default)) >= 1000000000)))],[⟨us u,1,v,false,true⟩,⟨us q,1,0,false,true⟩],_,[],_⟩ (by kernel_rfl) (bc (beq_f (fun h => d36 (i35.1 h))) b0) q0 c0 (by (try rw [w24]);(try rw [w32]);(try rw [w34]);all_goals exact Wp.less [6,7,8,9,10,11,13,14] (H))
 ·have H:=H.2 d22
  obtain ⟨k77,H⟩:=H
  have w78:wi (k + n + 1) = k + n + 1:=wI64 k77
  obtain ⟨k79,H⟩:=H
  obtain ⟨k81,H⟩:=H
  have i82:(decide (0 <= wi (wi (k + n) + 1))) = true ↔ (0 <= k + n + 1):=(by (try rw [w4]);(try rw [w78]);all_goals exact i_dec)
  obtain ⟨k83,H⟩:=H
  have i84:(decide (k.toNat <= (wi (wi (k + n) + 1)).toNat)) = true ↔ (k.toNat <= (k + n + 1).toNat):=(by (try rw [w4]);(try rw [w78]);all_goals exact i_dec)
  obtain ⟨k85,H⟩:=H
  have i86:(decide ((wi (wi (k + n) + 1)).toNat <= (us u).length)) = true ↔ ((k + n + 1).toNat <= u.length):=(by (try rw [w4]);(try rw [w15]);(try rw [w78]);all_goals exact i_dec)
  obtain ⟨k87,H⟩:=H
  refine path_wp (G:=given kp128 [(20,9,.call (vb (decide ((↑(Sp.win u k.toNat ((k + n + 1).toNat - k.toNat)):Int) - g * (↑(valL b):Int) < 0))) (some [⟨us (Sp.rowZ u k.toNat ((k + n + 1).toNat - k.toNat) ((↑(Sp.win u k.toNat ((k + n + 1).toNat - k.toNat)):Int) - g * (↑(valL b):Int))),1,v,false,true⟩]))] []) 5 [false] ⟨(atC (cd Tryz.f128) [1,1,1,1,1,1,1,1,1,0,1,0,0,1,0,0,1,1,1,0,1]),[(6,vi n),(7,vu s),(8,AV.row 0 v),(9,AV.vec fb 1 (us b)),(10,AV.row 1 0),(11,vi k),(13,vw g),(151,vb (decide ((↑(Sp.win u k.toNat ((k + n + 1).toNat - k.toNat)):Int) - g * (↑(valL b):Int) < 0)))],[⟨us (Sp.rowZ u k.toNat ((k + n + 1).toNat - k.toNat) ((↑(Sp.win u k.toNat ((k + n + 1).toNat - k.toNat)):Int) - g * (↑(valL b):Int))),1,v,false,true⟩,⟨us q,1,0,false,true⟩],[(bif decide (g >= 1000000000) then true else decide (zNvF3 g b n r u k)) == false,v == v,decide (0 <= k),decide (0 <= wi (wi (k + n) + 1)),decide (k.toNat <= (wi (wi (k + n) + 1)).toNat),decide ((wi (wi (k + n) + 1)).toNat <= (us u).length)],[],[⟨true,true,134,[AV.ref 0 v k.toNat ((wi (wi (k + n) + 1)).toNat - k.toNat),AV.vec fb 1 (us b),vw g],[⟨us u,1,v,false,true⟩],vb (decide ((↑(Sp.win u k.toNat ((k + n + 1).toNat - k.toNat)):Int) - g * (↑(valL b):Int) < 0)),[⟨us (Sp.rowZ u k.toNat ((k + n + 1).toNat - k.toNat) ((↑(Sp.win u k.toNat ((k + n + 1).toNat - k.toNat)):Int) - g * (↑(valL b):Int))),1,v,false,true⟩]⟩]⟩ (by kernel_rfl) (bc (beq_f (fun h => d22 ((i_bor i_dec i_dec).1 h))) (bc (beq_self_eq_true _) (bc (i_dec.2 k81) (bc (i82.2 k83) (bc (i84.2 k85) (bc (i86.2 k87) b0)))))) q0 (cc (fun _ => (by (try rw [w4]);(try rw [w78]);all_goals exact (@evo134 (u) (b) (fb) (v) (k.toNat) ((k + n + 1).toNat - k.toNat) (g) k79))) c0) ?_
  rcases xm ((↑(Sp.win u k.toNat ((k + n + 1).toNat - k.toNat)):Int) - g * (↑(valL b):Int) < 0) with d89 | d89
  ·have H:=H.1 d89
   obtain ⟨k90,H⟩:=H
   have w91:wu (g - 1) = g - 1:=wU64 k90
   obtain ⟨k92,H⟩:=H
   have i94:(decide (0 <= wi (wi (k + n) + 1))) = true ↔ (0 <= k + n + 1):=(by (try rw [w4]);(try rw [w78]);all_goals exact i_dec)
   have i95:(decide (k.toNat <= (wi (wi (k + n) + 1)).toNat)) = true ↔ (k.toNat <= (k + n + 1).toNat):=(by (try rw [w4]);(try rw [w78]);all_goals exact i_dec)
   have w96:(us (Sp.rowZ u k.toNat ((k + n + 1).toNat - k.toNat) ((↑(Sp.win u k.toNat ((k + n + 1).toNat - k.toNat)):Int) - g * (↑(valL b):Int)))).length = (Sp.rowZ u k.toNat ((k + n + 1).toNat - k.toNat) ((↑(Sp.win u k.toNat ((k + n + 1).toNat - k.toNat)):Int) - g * (↑(valL b):Int))).length:=List.length_map ..
   have i97:(decide ((wi (wi (k + n) + 1)).toNat <= (us (Sp.rowZ u k.toNat ((k + n + 1).toNat - k.toNat) ((↑(Sp.win u k.toNat ((k + n + 1).toNat - k.toNat)):Int) - g * (↑(valL b):Int)))).length)) = true ↔ ((k + n + 1).toNat <= (Sp.rowZ u k.toNat ((k + n + 1).toNat - k.toNat) ((↑(Sp.win u k.toNat ((k + n + 1).toNat - k.toNat)):Int) - g * (↑(valL b):Int))).length):=(by (try rw [w4]);(try rw [w78]);(try rw [w96]);all_goals exact i_dec)
   obtain ⟨k98,H⟩:=H
   have w100:(us q).length = q.length:=List.length_map ..
   have i101:(decide (k.toNat < (us q).length)) = true ↔ (k.toNat < q.length):=(by (try rw [w100]);all_goals exact i_dec)
   obtain ⟨k102,H⟩:=H
   obtain ⟨k103,H⟩:=H
   have w104:wv (g - 1) = g - 1:=wU32 k103
   have w105:(us q).set k.toNat (vu (g - 1)) = us (q.set k.toNat (g - 1)):=(lm_set rfl rfl)
   obtain ⟨k106,H⟩:=H
   have w107:wi (k - 1) = k - 1:=wI64 k106
   exact path_wp (G:=given kp128 [(22,8,.call (tu []) (some [⟨us (Sp.rowZ (Sp.rowZ u k.toNat ((k + n + 1).toNat - k.toNat) ((↑(Sp.win u k.toNat ((k + n + 1).toNat - k.toNat)):Int) - g * (↑(valL b):Int))) k.toNat ((k + n + 1).toNat - k.toNat) ((↑(Sp.win (Sp.rowZ u k.toNat ((k + n + 1).toNat - k.toNat) ((↑(Sp.win u k.toNat ((k + n + 1).toNat - k.toNat)):Int) - g * (↑(valL b):Int))) k.toNat ((k + n + 1).toNat - k.toNat)):Int) + (↑(valL b):Int))),1,v,false,true⟩])),(23,5,.elem (vu (q.getD k.toNat default)))] []) 1000 [true] ⟨(atC (cd Tryz.f128) [1,1,1,1,1,1,1,1,1,0,1,0,0]),[(6,vi n),(7,vu s),(8,AV.row 0 v),(9,AV.vec fb 1 (us b)),(10,AV.row 1 0),(11,vi (wi (k - 1)))],[⟨us (Sp.rowZ (Sp.rowZ u k.toNat ((k + n + 1).toNat - k.toNat) ((↑(Sp.win u k.toNat ((k + n + 1).toNat - k.toNat)):Int) - g * (↑(valL b):Int))) k.toNat ((k + n + 1).toNat - k.toNat) ((↑(Sp.win (Sp.rowZ u k.toNat ((k + n + 1).toNat - k.toNat) ((↑(Sp.win u k.toNat ((k + n + 1).toNat - k.toNat)):Int) - g * (↑(valL b):Int))) k.toNat ((k + n + 1).toNat - k.toNat)):Int) + (↑(valL b):Int))),1,v,false,true⟩,⟨(us q).set k.toNat (vu (wv (wu (g - 1)))),1,0,false,true⟩],[(decide ((↑(Sp.win u k.toNat ((k + n + 1).toNat - k.toNat)):Int) - g * (↑(valL b):Int) < 0)) == true,v == v,decide (0 <= k),decide (0 <= wi (wi (k + n) + 1)),decide (k.toNat <= (wi (wi (k + n) + 1)).toNat),decide ((wi (wi (k + n) + 1)).toNat <= (us (Sp.rowZ u k.toNat ((k + n + 1).toNat - k.toNat) ((↑(Sp.win u k.toNat ((k + n + 1).toNat - k.toNat)):Int) - g * (↑(valL b):Int)))).length),true,decide (0 <= k),decide (k.toNat < (us q).length),true],[((us q).get?Internal k.toNat = some (vu (q.getD k.toNat default)))],[⟨true,true,135,[AV.ref 0 v k.toNat ((wi (wi (k + n) + 1)).toNat - k.toNat),AV.vec fb 1 (us b)],[⟨us (Sp.rowZ u k.toNat ((k + n + 1).toNat - k.toNat) ((↑(Sp.win u k.toNat ((k + n + 1).toNat - k.toNat)):Int) - g * (↑(valL b):Int))),1,v,false,true⟩],tu [],[⟨us (Sp.rowZ (Sp.rowZ u k.toNat ((k + n + 1).toNat - k.toNat) ((↑(Sp.win u k.toNat ((k + n + 1).toNat - k.toNat)):Int) - g * (↑(valL b):Int))) k.toNat ((k + n + 1).toNat - k.toNat) ((↑(Sp.win (Sp.rowZ u k.toNat ((k + n + 1).toNat - k.toNat) ((↑(Sp.win u k.toNat ((k + n + 1).toNat - k.toNat)):Int) - g * (↑(valL b):Int))) k.toNat ((k + n + 1).toNat - k.toNat)):Int) + (↑(valL b):Int))),1,v,false,true⟩]⟩]⟩ (by kernel_rfl) (bc (beq_t (i_dec.2 d89)) (bc (beq_self_eq_true _) (bc (i_dec.2 k81) (bc (i94.2 k83) (bc (i95.2 k85) (bc (i97.2 k98) (bc rfl (bc (i_dec.2 k81) (bc (i101.2 k102) (bc rfl b0)))))))))) (qc (el_map k102) q0) (cc (fun _ => (by (try rw [w4]);(try rw [w78]);all_goals exact (@evo135 (Sp.rowZ u k.toNat ((k + n + 1).toNat - k.toNat) ((↑(Sp.win u k.toNat ((k + n + 1).toNat - k.toNat)):Int) - g * (↑(valL b):Int))) (b) (fb) (v) (k.toNat) ((k + n + 1).toNat - k.toNat) k92))) c0) (by (try rw [w91]);(try rw [w104]);(try rw [w105]);(try rw [w107]);all_goals exact H)
  ·have H:=H.2 d89
   have w109:(us q).length = q.length:=List.length_map ..
   have i110:(decide (k.toNat < (us q).length)) = true ↔ (k.toNat < q.length):=(by (try rw [w109]);all_goals exact i_dec)
   obtain ⟨k111,H⟩:=H
   obtain ⟨k112,H⟩:=H
   have w113:wv g = g:=wU32 k112
   have w114:(us q).set k.toNat (vu g) = us (q.set k.toNat g):=(lm_set rfl rfl)
   obtain ⟨k115,H⟩:=H
   have w116:wi (k - 1) = k - 1:=wI64 k115
   exact path_wp (G:=given kp128 [(23,5,.elem (vu (q.getD k.toNat default)))] []) 1000 [false] ⟨(atC (cd Tryz.f128) [1,1,1,1,1,1,1,1,1,0,1,0,0]),[(6,vi n),(7,vu s),(8,AV.row 0 v),(9,AV.vec fb 1 (us b)),(10,AV.row 1 0),(11,vi (wi (k - 1)))],[⟨us (Sp.rowZ u k.toNat ((k + n + 1).toNat - k.toNat) ((↑(Sp.win u k.toNat ((k + n + 1).toNat - k.toNat)):Int) - g * (↑(valL b):Int))),1,v,false,true⟩,⟨(us q).set k.toNat (vu (wv g)),1,0,false,true⟩],_,[((us q).get?Internal k.toNat = some (vu (q.getD k.toNat default)))],_⟩ (by kernel_rfl) (bc (beq_f (fun h => d89 (i_dec.1 h))) (bc rfl (bc (i_dec.2 k81) (bc (i110.2 k111) (bc rfl b0))))) (qc (el_map k111) q0) c0 (by (try rw [w113]);(try rw [w114]);(try rw [w116]);all_goals exact H)
end Go.Av

namespace Go.Av
open Go.Proofs
theorem limN_split:∀ (a b x:Nat),Sp.limN (a + b) x = Sp.limN a x ++ Sp.limN b (x / 1000000000 ^ a)
 | 0,b,x => by simp [Sp.limN]
 | a + 1,b,x => by
  rw [show a + 1 + b = (a + b) + 1 by omega,limN_succ,limN_succ,limN_split a b,List.cons_append,Nat.div_div_eq_div_mul,Nat.pow_succ,Nat.mul_comm (1000000000 ^ a)]
theorem limN_mod:∀ (a x:Nat),Sp.limN a (x % 1000000000 ^ a) = Sp.limN a x
 | 0,x => rfl
 | a + 1,x => by
  rw [limN_succ,limN_succ]
  have e1:x % 1000000000 ^ (a + 1) % 1000000000 = x % 1000000000:=Nat.mod_mod_of_dvd _ ⟨1000000000 ^ a,by rw [Nat.pow_succ,Nat.mul_comm]⟩
  have e2:x % 1000000000 ^ (a + 1) / 1000000000 = x / 1000000000 % 1000000000 ^ a:=by rw [Nat.pow_succ,Nat.mul_comm,Nat.mod_mul_right_div_self]
  rw [e1,e2,limN_mod a]
theorem limN_low (a x y:Nat):Sp.limN a (x % 1000000000 ^ a + 1000000000 ^ a * y) = Sp.limN a x:=by
 rw [<- limN_mod a (x % 1000000000 ^ a + 1000000000 ^ a * y),Nat.add_mul_mod_self_left,Nat.mod_mod,limN_mod]
theorem limN_more' (n m v:Nat) (h:Sp.fits n v) (hm:n <= m):Sp.limN m v = Sp.limN n v ++ Sp.zs (m - n):=by
 obtain ⟨d,rfl⟩:=Nat.exists_eq_add_of_le hm
 rw [limN_more n d v h,Nat.add_sub_cancel_left]
theorem rowZ_lim {L U lo len:Nat} {Z:Nat} (hl:lo + len <= L) (hU:Sp.fits (lo + len) U) (hZ:Sp.fits len Z):Sp.rowZ (Sp.limN L U) lo len (Z:Int) = Sp.limN L (U % 1000000000 ^ lo + 1000000000 ^ lo * Z):=by
 have e:L = lo + (len + (L - lo - len)):=by omega
 unfold Sp.rowZ
 rw [limZ_nat,limN_drop _ _ _ hl,fits_div hU (Nat.le_refl _),limN_zero]
 conv => rhs;rw [e]
 rw [limN_split,limN_low]
 have e2:(U % 1000000000 ^ lo + 1000000000 ^ lo * Z) / 1000000000 ^ lo = Z:=by
  rw [Nat.add_mul_div_left _ _ (Nat.pow_pos (by omega)),Nat.div_eq_of_lt (Nat.mod_lt _ (Nat.pow_pos (by omega))),Nat.zero_add]
 rw [e2,limN_more len _ Z hZ]
 have e3:(Sp.limN L U).take lo = Sp.limN lo U:=by
  conv => lhs;rw [e,limN_split]
  rw [List.take_append_of_le_length (by rw [limN_len];omega),List.take_of_length_le (by rw [limN_len];omega)]
 rw [e3,show L - (lo + len) = L - lo - len by omega];rfl
theorem win_lim {L U lo len:Nat} (hl:lo + len <= L) (hU:Sp.fits (lo + len) U):Sp.win (Sp.limN L U) lo len = U / 1000000000 ^ lo:=by
 have hf:Sp.fits len (U / 1000000000 ^ lo):=by
  rw [fits_top0,Nat.div_div_eq_div_mul,<- Nat.pow_add]
  exact fits_div hU (Nat.le_refl _)
 unfold Sp.win
 rw [limN_drop _ _ _ (by omega),limN_more' len (L - lo) _ hf (by omega),List.take_append_of_le_length (by rw [limN_len];omega),List.take_of_length_le (by rw [limN_len];omega),val_limN _ _ hf]
theorem limN_okL (n v:Nat):Sp.okL (Sp.limN n v):=limN_ok n v
def AfterG (u b q:List Int) (fb:Bool) (v:Nat) (n s k g:Int) (dq:AV):Prop:=
 (-9223372036854775808 <= k + n + 1 /\ k + n + 1 <= 9223372036854775807) /\
 (Sp.okL u /\ Sp.okL b /\ k.toNat + ((k + n + 1).toNat - k.toNat) <= u.length /\ (k + n + 1).toNat - k.toNat = b.length + 1 /\ u.length <= 1000000 /\ 0 <= g /\ g < 1000000000) /\
 (0 <= k) /\ (0 <= k + n + 1) /\ (k.toNat <= (k + n + 1).toNat) /\ ((k + n + 1).toNat <= u.length) /\
 (((Sp.win u k.toNat ((k + n + 1).toNat - k.toNat):Int) - g * (valL b:Nat) < 0) -> (0 <= g - 1 /\ g - 1 <= 18446744073709551615) /\
  (Sp.okL (Sp.rowZ u k.toNat ((k + n + 1).toNat - k.toNat) ((Sp.win u k.toNat ((k + n + 1).toNat - k.toNat):Int) - g * (valL b:Nat))) /\ Sp.okL b /\ k.toNat + ((k + n + 1).toNat - k.toNat) <= (Sp.rowZ u k.toNat ((k + n + 1).toNat - k.toNat) ((Sp.win u k.toNat ((k + n + 1).toNat - k.toNat):Int) - g * (valL b:Nat))).length /\ (k + n + 1).toNat - k.toNat = b.length + 1 /\ (Sp.rowZ u k.toNat ((k + n + 1).toNat - k.toNat) ((Sp.win u k.toNat ((k + n + 1).toNat - k.toNat):Int) - g * (valL b:Nat))).length <= 1000000) /\
  ((k + n + 1).toNat <= (Sp.rowZ u k.toNat ((k + n + 1).toNat - k.toNat) ((Sp.win u k.toNat ((k + n + 1).toNat - k.toNat):Int) - g * (valL b:Nat))).length) /\
  (k.toNat < q.length) /\ (0 <= g - 1 /\ g - 1 <= 4294967295) /\ (-9223372036854775808 <= k - 1 /\ k - 1 <= 9223372036854775807) /\
  vDivideK_at (Sp.rowZ (Sp.rowZ u k.toNat ((k + n + 1).toNat - k.toNat) ((Sp.win u k.toNat ((k + n + 1).toNat - k.toNat):Int) - g * (valL b:Nat))) k.toNat ((k + n + 1).toNat - k.toNat) ((Sp.win (Sp.rowZ u k.toNat ((k + n + 1).toNat - k.toNat) ((Sp.win u k.toNat ((k + n + 1).toNat - k.toNat):Int) - g * (valL b:Nat))) k.toNat ((k + n + 1).toNat - k.toNat):Int) + (valL b:Nat))) b (q.set k.toNat (g - 1)) fb v n s (k - 1) (PureQ dq)) /\
 (¬((Sp.win u k.toNat ((k + n + 1).toNat - k.toNat):Int) - g * (valL b:Nat) < 0) -> (k.toNat < q.length) /\ (0 <= g /\ g <= 4294967295) /\ (-9223372036854775808 <= k - 1 /\ k - 1 <= 9223372036854775807) /\
  vDivideK_at (Sp.rowZ u k.toNat ((k + n + 1).toNat - k.toNat) ((Sp.win u k.toNat ((k + n + 1).toNat - k.toNat):Int) - g * (valL b:Nat))) b (q.set k.toNat g) fb v n s (k - 1) (PureQ dq))
theorem afterG {q:List Int} {fb:Bool} {v n k L U V g:Nat} {s:Int} {dq:AV} (hL:L <= 1000000) (hkn:k + n + 1 <= L) (hq:q.length <= 1000000 /\ k < q.length) (hV0:0 < V) (hV:Sp.fits n V) (hU:Sp.fits (k + (n + 1)) U) (hg:g < 1000000000) (h1:U / 1000000000 ^ k / V <= g) (h2:g <= U / 1000000000 ^ k / V + 1)
  (cont:vDivideK_at (Sp.limN L (U % 1000000000 ^ k + 1000000000 ^ k * (U / 1000000000 ^ k % V))) (Sp.limN n V) (q.set k ((U / 1000000000 ^ k / V:Nat):Int)) fb v n s ((k:Int) - 1) (PureQ dq)) :
  AfterG (Sp.limN L U) (Sp.limN n V) q fb v n s k g dq:=by
 unfold AfterG
 have e1:((k:Int) + n + 1).toNat - (k:Int).toNat = n + 1:=by omega
 rw [e1,Int.toNat_natCast,win_lim (by omega) hU,val_limN n V hV]
 have hok:=limN_okL L U
 have hlen:=limN_len L U
 have hdm:=Nat.div_add_mod (U / 1000000000 ^ k) V
 have hml:=Nat.mod_lt (U / 1000000000 ^ k) hV0
 have hfm:Sp.fits (n + 1) (U / 1000000000 ^ k % V):=fits_mono (fits_le hV (Nat.le_of_lt hml)) (by omega)
 have hrow:=rowZ_lim (L:=L) (U:=U) (lo:=k) (len:=n + 1) (by omega) hU hfm
 have hgV:(g:Int) * (V:Int) = ((g * V:Nat):Int):=(Int.natCast_mul _ _).symm
 rw [hgV]
 generalize hW:U / 1000000000 ^ k = W at hdm hml h1 h2 hrow cont
 have hq1:W / V * V + W % V = W:=by rw [Nat.mul_comm];exact hdm
 generalize W / V = q0 at hq1 h1 h2 cont
 generalize W % V = r0 at hq1 hml hrow cont
 refine ⟨by omega,⟨hok,limN_okL n V,by omega,by rw [limN_len],by omega,by omega,by omega⟩,by omega,by omega,by omega,by omega,fun hneg => ?_,fun hneg => ?_⟩
 ·have hg1:g = q0 + 1:=by
   rcases Nat.lt_or_ge q0 g with k1 | k1
   ·omega
   ·have:g = q0:=by omega
    subst this
    omega
  have hgw:g * V = q0 * V + V:=by rw [hg1,Nat.succ_mul]
  have ez:(W:Int) - ((g * V:Nat):Int) + (V:Int) = (r0:Int):=by omega
  have eg:(g:Int) - 1 = (q0:Int):=by omega
  rw [rowZ_again (by omega) hok,ez,hrow,eg]
  refine ⟨by omega,⟨rowZ_ok hok,limN_okL n V,by rw [rowZ_len (by omega)];omega,by rw [limN_len],by rw [rowZ_len (by omega)];omega⟩,by rw [rowZ_len (by omega)];omega,by omega,by omega,by omega,cont⟩
 ·have hg1:g = q0:=by
   rcases Nat.lt_or_ge q0 g with k1 | k1
   ·exfalso
    have:g = q0 + 1:=by omega
    have hgw:g * V = q0 * V + V:=by rw [this,Nat.succ_mul]
    omega
   ·omega
  subst hg1
  have ez:(W:Int) - ((g * V:Nat):Int) = (r0:Int):=by omega
  rw [ez,hrow]
  exact ⟨by omega,by omega,by omega,cont⟩
theorem loopG {q:List Int} {fb:Bool} {v n k L U V:Nat} {s:Int} {dq:AV} (hn:2 <= n) (hL:L <= 1000000) (hkn:k + n + 1 <= L) (hq:q.length <= 1000000 /\ k < q.length) (hV:Sp.fits n V) (hU:Sp.fits (k + (n + 1)) U) (hE:Est (1000000000 ^ (n - 2)) (U / 1000000000 ^ k) V)
  (cont:vDivideK_at (Sp.limN L (U % 1000000000 ^ k + 1000000000 ^ k * (U / 1000000000 ^ k % V))) (Sp.limN n V) (q.set k ((U / 1000000000 ^ k / V:Nat):Int)) fb v n s ((k:Int) - 1) (PureQ dq)) :
  ∀ (g r:Nat),g * (V / 1000000000 ^ (n - 2) / 1000000000) + r = U / 1000000000 ^ k / 1000000000 ^ (n - 2) / 1000000000 -> U / 1000000000 ^ k / V <= g -> r < 1000000000 -> g < 18446744073709551615 -> vDivideG_at (Sp.limN L U) (Sp.limN n V) q fb v n s k g r (PureQ dq):=by
 have hV0:=hE.V0
 have more:=fun g r => hE.more (g:=g) (r:=r)
 have less:=fun g r => hE.less (g:=g) (r:=r)
 have small:=fun g r => hE.small (g:=g) (r:=r)
 have b1:(Sp.limN n V).getD (n - 1) default = ((V / 1000000000 ^ (n - 2) / 1000000000:Nat):Int):=by
  rw [limN_getD V (by omega),div_next,show n - 2 + 1 = n - 1 by omega]
  have:=fits_top (n:=n - 1) (v:=V) (by rw [show n - 1 + 1 = n by omega];exact hV)
  rw [Nat.mod_eq_of_lt this]
 have b2:(Sp.limN n V).getD (n - 2) default = ((V / 1000000000 ^ (n - 2) % 1000000000:Nat):Int):=limN_getD V (by omega)
 have u2:(Sp.limN L U).getD (k + n - 2) default = ((U / 1000000000 ^ k / 1000000000 ^ (n - 2) % 1000000000:Nat):Int):=by
  rw [limN_getD U (by omega),Nat.div_div_eq_div_mul,<- Nat.pow_add,show k + (n - 2) = k + n - 2 by omega]
 have hv1:V / 1000000000 ^ (n - 2) / 1000000000 < 1000000000:=by
  rw [div_next,show n - 2 + 1 = n - 1 by omega]
  exact fits_top (by rw [show n - 1 + 1 = n by omega];exact hV)
 have e1:((n:Int) - 1).toNat = n - 1:=by omega
 have e2:((n:Int) - 2).toNat = n - 2:=by omega
 have e3:((k:Int) + n - 2).toNat = k + n - 2:=by omega
 have after:∀ g:Nat,g < 1000000000 -> U / 1000000000 ^ k / V <= g -> g <= U / 1000000000 ^ k / V + 1 -> AfterG (Sp.limN L U) (Sp.limN n V) q fb v n s k g dq:=fun g h0 h1 h2 => afterG hL hkn hq hV0 hV hU h0 h1 h2 cont
 clear cont hE hV0
 generalize V / 1000000000 ^ (n - 2) = d at *
 generalize U / 1000000000 ^ k / 1000000000 ^ (n - 2) = x at *
 generalize U / 1000000000 ^ k / V = q0 at *
 have htest:∀ g r:Nat,r < 1000000000 -> (((((g:Nat):Int) >= 1000000000) \/ (IntKind.u64.wrap (((g:Nat):Int) * IntKind.u64.wrap ((Sp.limN n V).getD ((n:Int) - 2).toNat default)) > IntKind.u64.wrap (IntKind.u64.wrap ((r:Int) * 1000000000) + IntKind.u64.wrap ((Sp.limN L U).getD ((k:Int) + n - 2).toNat default)))) ↔
   (g >= 1000000000 \/ g * (d % 1000000000) > r * 1000000000 + x % 1000000000)):=by
  intro g r hr
  rw [e2,e3,b2,u2]
  have hv2:d % 1000000000 < 1000000000:=Nat.mod_lt _ (by omega)
  have hu2:x % 1000000000 < 1000000000:=Nat.mod_lt _ (by omega)
  generalize d % 1000000000 = v2 at hv2
  generalize x % 1000000000 = x2 at hu2
  rw [wU64 (n:=(v2:Int)) (by omega),wU64 (n:=(x2:Int)) (by omega),wU64 (n:=(r:Int) * 1000000000) (by omega),wU64 (n:=(r:Int) * 1000000000 + (x2:Int)) (by omega)]
  by_cases hbig:g >= 1000000000
  ·exact ⟨fun _ => .inl hbig,fun _ => .inl (by omega)⟩
  ·have hm:((g:Nat):Int) * (v2:Int) = ((g * v2:Nat):Int):=(Int.natCast_mul _ _).symm
   have hle:g * v2 <= 1000000000 * 1000000000:=Nat.mul_le_mul (by omega) (by omega)
   rw [hm,wU64 (by omega)]
   constructor
   ·rintro (h | h)
    ·exact absurd (by omega) hbig
    ·right;omega
   ·rintro (h | h)
    ·exact absurd h hbig
    ·right;omega
 intro g
 induction g with
 | zero =>
  intro r hgr hqg hr hgb
  have hno:¬(0 >= 1000000000 \/ 0 * (d % 1000000000) > r * 1000000000 + x % 1000000000):=fun h => by have:=more 0 r hgr h;omega
  exact vDivideG _ _ _ _ _ _ _ _ _ _ _ ⟨by omega,by omega,by omega,fun _ => by omega,fun _ => by rw [limN_len];omega,fun _ => by omega,fun _ => by rw [limN_len];omega,fun h => absurd ((htest 0 r hr).1 h) hno,fun _ => after 0 (by omega) hqg (less 0 r hgr (by omega))⟩
 | succ g ih =>
  intro r hgr hqg hr hgb
  refine vDivideG _ _ _ _ _ _ _ _ _ _ _ ⟨by omega,by omega,by omega,fun _ => by omega,fun _ => by rw [limN_len];omega,fun _ => by omega,fun _ => by rw [limN_len];omega,fun h => ?_,fun h => ?_⟩
  ·have ht:=(htest (g + 1) r hr).1 h
   have hlt:=more (g + 1) r hgr ht
   have hgr':g * (d / 1000000000) + (r + d / 1000000000) = x / 1000000000:=by rw [<- hgr,Nat.succ_mul];omega
   have eg:((g + 1:Nat):Int) - 1 = (g:Int):=by omega
   rw [e1,b1,eg]
   have er:(r:Int) + ((d / 1000000000:Nat):Int) = ((r + d / 1000000000:Nat):Int):=by omega
   rw [er]
   refine ⟨by omega,by omega,by omega,by rw [limN_len];omega,by omega,by omega,fun hbr => ?_,fun hbr => ?_⟩
   ·have hsm:=small g _ hgr' (by omega)
    refine after g hsm (by omega) (less g _ hgr' ?_)
    have:g * (d % 1000000000) <= 1000000000 * 1000000000:=Nat.mul_le_mul (by omega) (by omega)
    omega
   ·exact ih _ hgr' (by omega) (by omega) (by omega)
  ·have ht:¬(g + 1 >= 1000000000 \/ (g + 1) * (d % 1000000000) > r * 1000000000 + x % 1000000000):=fun y => h ((htest (g + 1) r hr).2 y)
   exact after (g + 1) (by omega) hqg (less (g + 1) r hgr (by omega))
end Go.Av

namespace Go.Av
open Go.Proofs
theorem loopK {fb:Bool} {v n L V A kt s:Nat} {dq:AV} (hn:2 <= n) (hL:L <= 1000000) (hkt:kt + n = L) (hV:Sp.fits n V) (hV1:1000000000 ^ (n - 1) <= V) (hs:0 < s /\ s < 1000000000)
  (hq:AV.tup [usA false (Sp.limN kt (A / V)),usA false (Sp.limN (Sp.cnt (A % V)) (A % V / s))] = dq) :
  ∀ (K U Qh:Nat) (q:List Int),K + n <= L -> A = Qh * V * 1000000000 ^ K + U -> U < V * 1000000000 ^ K -> q.length = kt -> q.drop K = Sp.limN (kt - K) Qh -> K <= kt -> vDivideK_at (Sp.limN L U) (Sp.limN n V) q fb v n s ((K:Int) - 1) (PureQ dq)
 | 0,U,Qh,q,hK,hA,hU,hql,hqd,hKk => by
  rw [Nat.pow_zero,Nat.mul_one] at hA hU
  have hd:A / V = Qh /\ A % V = U:=by
   have hV0:0 < V:=by omega
   rw [hA,Nat.mul_comm Qh V,Nat.mul_add_div hV0,Nat.mul_add_mod,Nat.div_eq_of_lt hU,Nat.mod_eq_of_lt hU]
   exact ⟨by omega,rfl⟩
  rw [hd.1,hd.2] at hq
  have hUf:Sp.fits n U:=fits_le hV (Nat.le_of_lt hU)
  have htk:List.take ((n:Int).toNat - 0) (List.drop 0 (Sp.limN L U)) = Sp.limN n U:=by
   rw [Int.toNat_natCast,Nat.sub_zero,List.drop_zero,<- hkt,Nat.add_comm,limN_split,List.take_append_of_le_length (by rw [limN_len];omega),List.take_of_length_le (by rw [limN_len];omega)]
  refine vDivideK _ _ _ _ _ _ _ _ _ ⟨fun h => by omega,fun _ => ?_⟩
  rw [htk,limN_len]
  have hc:=fits_cnt.1 hUf
  refine ⟨_,trimN false n U ⟨by unfold Sp.short;omega,hUf⟩,_,_,byWordN false (Sp.cnt U) U s ⟨by unfold Sp.short;omega,fits_self _,hs.1,hs.2⟩,by omega,by omega,by omega,?_⟩
  have e:q = Sp.limN kt Qh:=by simpa using hqd
  rw [e,<- hq];exact .refl _
 | K + 1,U,Qh,q,hK,hA,hU,hql,hqd,hKk => by
  have hPK:0 < 1000000000 ^ K:=Nat.pow_pos (by omega)
  have hV0:0 < V:=Nat.lt_of_lt_of_le (Nat.pow_pos (by omega)) hV1
  have hW:U / 1000000000 ^ K < V * 1000000000:=by
   apply Nat.div_lt_of_lt_mul
   rw [Nat.pow_succ] at hU
   have:1000000000 ^ K * (V * 1000000000) = V * (1000000000 ^ K * 1000000000):=by grind
   omega
  have hUf:Sp.fits (K + (n + 1)) U:=by
   unfold Sp.fits at hV ⊢
   have h1:V * 1000000000 ^ (K + 1) <= 1000000000 ^ n * 1000000000 ^ (K + 1):=Nat.mul_le_mul_right _ (Nat.le_of_lt hV)
   rw [<- Nat.pow_add] at h1
   rw [show K + (n + 1) = n + (K + 1) by omega]
   omega
  have hE:Est (1000000000 ^ (n - 2)) (U / 1000000000 ^ K) V:=by
   refine ⟨Nat.pow_pos (by omega),?_,hW⟩
   rw [Nat.le_div_iff_mul_le (Nat.pow_pos (by omega)),Nat.mul_comm,<- Nat.pow_succ,show (n - 2).succ = n - 1 by omega]
   exact hV1
  have ek:(((K + 1:Nat):Int) - 1) = (K:Nat):=by omega
  rw [ek]
  have hdm:=Nat.div_add_mod (U / 1000000000 ^ K) V
  have hml:=Nat.mod_lt (U / 1000000000 ^ K) hV0
  have hdmU:=Nat.div_add_mod U (1000000000 ^ K)
  have hmlU:=Nat.mod_lt U hPK
  have hql0:=hE.q_lt
  have cont:vDivideK_at (Sp.limN L (U % 1000000000 ^ K + 1000000000 ^ K * (U / 1000000000 ^ K % V))) (Sp.limN n V) (q.set K ((U / 1000000000 ^ K / V:Nat):Int)) fb v n s ((K:Int) - 1) (PureQ dq):=by
   refine loopK hn hL hkt hV hV1 hs hq K _ (Qh * 1000000000 + U / 1000000000 ^ K / V) _ (by omega) ?_ ?_ (by simpa using hql) ?_ (by omega)
   ·rw [hA,Nat.pow_succ]
    generalize U / 1000000000 ^ K = W at hdm hdmU
    generalize W / V = q0 at hdm
    generalize W % V = r0 at hdm
    generalize U % 1000000000 ^ K = l0 at hdmU
    generalize 1000000000 ^ K = p at hdmU
    rw [<- hdmU,<- hdm];grind
   ·generalize U / 1000000000 ^ K % V = r0 at hml
    have h1:1000000000 ^ K * (r0 + 1) <= 1000000000 ^ K * V:=Nat.mul_le_mul_left _ (by omega)
    rw [Nat.mul_succ] at h1
    rw [Nat.mul_comm V]
    omega
   ·rw [drop_set_self (by omega),hqd,show kt - K = (kt - (K + 1)) + 1 by omega,limN_succ]
    generalize U / 1000000000 ^ K / V = q0 at hql0
    have e2:(Qh * 1000000000 + q0) % 1000000000 = q0:=by omega
    have e3:(Qh * 1000000000 + q0) / 1000000000 = Qh:=by omega
    rw [e2,e3]
  have hG:=fun g r => loopG (fb:=fb) (v:=v) (q:=q) (s:=(s:Int)) (dq:=dq) hn hL (show K + n + 1 <= L by omega) (show q.length <= 1000000 /\ K < q.length by omega) hV hUf hE cont g r
  have hx:U / 1000000000 ^ (K + n - 1) = U / 1000000000 ^ K / 1000000000 ^ (n - 2) / 1000000000:=by
   rw [Nat.div_div_eq_div_mul,Nat.div_div_eq_div_mul,<- Nat.pow_succ,<- Nat.pow_add]
   congr 2;omega
  have u1:(Sp.limN L U).getD (K + n) default = ((U / 1000000000 ^ (K + n - 1) / 1000000000:Nat):Int):=by
   rw [limN_getD U (by omega),div_next,show K + n - 1 + 1 = K + n by omega]
   have:=fits_top (n:=K + n) (v:=U) (by rw [show K + n + 1 = K + (n + 1) by omega];exact hUf)
   rw [Nat.mod_eq_of_lt this]
  have u2:(Sp.limN L U).getD (K + n - 1) default = ((U / 1000000000 ^ (K + n - 1) % 1000000000:Nat):Int):=limN_getD U (by omega)
  have b1:(Sp.limN n V).getD (n - 1) default = ((V / 1000000000 ^ (n - 2) / 1000000000:Nat):Int):=by
   rw [limN_getD V (by omega),div_next,show n - 2 + 1 = n - 1 by omega]
   have:=fits_top (n:=n - 1) (v:=V) (by rw [show n - 1 + 1 = n by omega];exact hV)
   rw [Nat.mod_eq_of_lt this]
  have hv1:V / 1000000000 ^ (n - 2) / 1000000000 < 1000000000:=by
   rw [div_next,show n - 2 + 1 = n - 1 by omega]
   exact fits_top (by rw [show n - 1 + 1 = n by omega];exact hV)
  have hv0:=hE.v1
  have hst:=hE.start
  have hx1:U / 1000000000 ^ (K + n - 1) / 1000000000 < 1000000000:=by
   rw [div_next,show K + n - 1 + 1 = K + n by omega]
   exact fits_top (by rw [show K + n + 1 = K + (n + 1) by omega];exact hUf)
  have e1:((K:Int) + n).toNat = K + n:=by omega
  have e2:((K:Int) + n - 1).toNat = K + n - 1:=by omega
  have e3:((n:Int) - 1).toNat = n - 1:=by omega
  refine vDivideK _ _ _ _ _ _ _ _ _ ⟨fun _ => ?_,fun h => by omega⟩
  rw [e1,e2,e3,u1,u2,b1,limN_len,limN_len]
  rw [<- hx] at hG hst
  clear hqd cont hdm hdmU hmlU hml hE hUf hW hU hA
  generalize U / 1000000000 ^ (K + n - 1) = X at hG hst hx1
  generalize V / 1000000000 ^ (n - 2) / 1000000000 = d at hG hst hv1 hv0
  have ex:((X / 1000000000:Nat):Int) * 1000000000 + ((X % 1000000000:Nat):Int) = (X:Int):=by omega
  rw [ex]
  have c2:((X:Int)).tdiv (d:Int) = ((X / d:Nat):Int):=(Int.ofNat_tdiv _ _).symm
  have c3:((X:Int)).tmod (d:Int) = ((X % d:Nat):Int):=(Int.ofNat_tmod _ _).symm
  rw [c2,c3]
  have hXd:X / d <= X:=Nat.div_le_self _ _
  have hmd:=Nat.mod_lt X hv0
  have hdd:X / d * d + X % d = X:=by rw [Nat.mul_comm];exact Nat.div_add_mod X d
  have fin:=hG (X / d) (X % d) hdd hst (by omega) (by omega)
  generalize X / d = g at hXd fin
  generalize X % d = r at hmd fin
  exact ⟨by omega,by omega,by omega,by omega,by omega,by omega,by omega,by omega,by omega,by omega,by omega,by omega,by omega,by omega,by omega,by omega,fin⟩
namespace Sp
def dqn (A D:Nat):Nat:=if cnt D = 1 then cnt A else if A < D then 0 else cnt A + 2 - cnt D
def scl (D:Nat):Nat:=1000000000 / (D / 1000000000 ^ (cnt D - 1) + 1)
def drn (A D:Nat):Nat:=if cnt D = 1 then 1 else if A < D then cnt A else cnt (A * scl D % (D * scl D))
end Sp
theorem scl_facts {D:Nat} (h:2 <= Sp.cnt D):0 < Sp.scl D /\ Sp.scl D < 1000000000 /\ Sp.fits (Sp.cnt D) (D * Sp.scl D) /\ 1000000000 ^ (Sp.cnt D - 1) <= D * Sp.scl D /\ D / 1000000000 ^ (Sp.cnt D - 1) < 1000000000:=by
 have hf:=fits_self D
 have ht:D / 1000000000 ^ (Sp.cnt D - 1) < 1000000000:=fits_top (by rw [show Sp.cnt D - 1 + 1 = Sp.cnt D by omega];exact hf)
 have hnf:¬Sp.fits (Sp.cnt D - 1) D:=fun k => by have:=fits_cnt.1 k;omega
 have hge:1000000000 ^ (Sp.cnt D - 1) <= D:=by unfold Sp.fits at hnf;omega
 have ht1:0 < D / 1000000000 ^ (Sp.cnt D - 1):=Nat.div_pos hge (Nat.pow_pos (by omega))
 have hlt:D < 1000000000 ^ (Sp.cnt D - 1) * (D / 1000000000 ^ (Sp.cnt D - 1) + 1):=Nat.lt_mul_div_succ D (Nat.pow_pos (by omega))
 have hp:1000000000 ^ Sp.cnt D = 1000000000 ^ (Sp.cnt D - 1) * 1000000000:=by rw [<- Nat.pow_succ];congr 1;omega
 have hs1:0 < Sp.scl D:=Nat.div_pos (by omega) (by omega)
 have hs2:Sp.scl D * (D / 1000000000 ^ (Sp.cnt D - 1) + 1) <= 1000000000:=Nat.div_mul_le_self _ _
 unfold Sp.fits
 rw [hp]
 generalize D / 1000000000 ^ (Sp.cnt D - 1) = t at ht1 ht hlt hs2
 generalize 1000000000 ^ (Sp.cnt D - 1) = P at hge hlt
 have hs3:Sp.scl D < 1000000000:=by
  have:Sp.scl D * 2 <= Sp.scl D * (t + 1):=Nat.mul_le_mul_left _ (by omega)
  omega
 generalize Sp.scl D = s at hs1 hs2 hs3
 refine ⟨hs1,hs3,?_,?_,ht⟩
 ·have h1:D * s < P * (t + 1) * s:=Nat.mul_lt_mul_of_pos_right hlt hs1
  have h2:P * (t + 1) * s = P * (s * (t + 1)):=by grind
  have h3:P * (s * (t + 1)) <= P * 1000000000:=Nat.mul_le_mul_left _ hs2
  omega
 ·have:D * 1 <= D * s:=Nat.mul_le_mul_left _ hs1
  omega
theorem div_scale {A D s:Nat} (hs:0 < s):A * s / (D * s) = A / D /\ A * s % (D * s) / s = A % D:=by
 refine ⟨Nat.mul_div_mul_right _ _ hs,?_⟩
 rw [Nat.mul_mod_mul_right,Nat.mul_div_cancel _ hs]
end Go.Av

namespace Go.Av
open Go.Proofs
theorem weak_two {a a' b b':AV} (h:Weak a a') (k:Weak b b'):Weak (.tup [a,b]) (.tup [a',b']):=by
 refine .tup _ _ rfl fun i x y hx hy => ?_
 match i with
 | 0 => simp at hx hy;subst hx;subst hy;exact h
 | 1 => simp at hx hy;subst hx;subst hy;exact k
 | i + 2 => simp at hx
theorem limN_one {x:Nat} (h:x < 1000000000):Sp.limN 1 x = [(x:Int)]:=by
 simp only [Sp.limN]
 rw [Nat.mod_eq_of_lt h]
theorem divideN (fa fb:Bool) (n A m D:Nat) (hn:Sp.short n /\ Sp.short m) (hA:Sp.fits n A) (hD:Sp.fits m D) (hc:Sp.cnt A <= 400000 /\ Sp.cnt D <= 400000) (h0:D ≠ 0) :
  Ev M1 (.pure 128 [usA fa (Sp.limN n A),usA fb (Sp.limN m D)]) (.tup [usA false (Sp.limN (Sp.dqn A D) (A / D)),usA false (Sp.limN (Sp.drn A D) (A % D))]) []:=by
 have tA:=trimN fa n A ⟨hn.1,hA⟩
 have tD:=trimN fb m D ⟨hn.2,hD⟩
 have hD1:1 <= Sp.cnt D:=by have:=cnt_eq_zero (v:=D);omega
 have hlD:=lim_len D
 have hlA:=lim_len A
 have one:Sp.cnt D = 1 -> D < 1000000000 /\ (Sp.lim D).getD 0 default = (D:Int):=by
  intro h
  have hf:=fits_self D
  rw [h] at hf
  have hlt:D < 1000000000:=by unfold Sp.fits at hf;simpa using hf
  refine ⟨hlt,?_⟩
  unfold Sp.lim
  rw [h,limN_one hlt];rfl
 have res1:Sp.cnt D = 1 -> AV.tup [usA false (Sp.limN (Sp.dqn A D) (A / D)),usA false (Sp.limN (Sp.drn A D) (A % D))] = .tup [usA false (Sp.limN (Sp.cnt A) (A / D)),usA false [((A % D:Nat):Int)]]:=by
  intro h
  have:=Nat.mod_lt A (Nat.pos_of_ne_zero h0)
  rw [Sp.dqn,Sp.drn,if_pos h,if_pos h,limN_one (by have:=(one h).1;omega)]
 by_cases hA0:A = 0
 ·subst hA0
  rw [lim_zero] at tA
  refine call128 (vDivide0 _ _ _ _ _ ⟨tA,_,tD,fun h => ?_,fun h => ?_⟩)
  ·rw [hlD] at h
   obtain ⟨o1,o2⟩:=one (by omega)
   have hb:=byWordN false 0 0 D ⟨by unfold Sp.short;omega,fits_zero.2 rfl,by omega,o1⟩
   rw [res1 (by omega),cnt_zero,o2,hlD]
   exact ⟨_,_,hb,by omega,.refl _⟩
  ·rw [hlD] at h
   have hcmp:=compareN false false 0 0 (Sp.cnt D) D ⟨by unfold Sp.short;omega,by unfold Sp.short;omega,fits_zero.2 rfl,fits_self _⟩
   have e:Sp.sgnI (((0:Nat):Int) - (D:Int)) = -1:=by unfold Sp.sgnI;rw [if_pos (by omega)]
   rw [e] at hcmp
   refine ⟨hcmp,?_⟩
   have e1:Sp.dqn 0 D = 0:=by unfold Sp.dqn;rw [if_neg (by omega),if_pos (by omega)]
   have e2:Sp.drn 0 D = 0:=by unfold Sp.drn;rw [if_neg (by omega),if_pos (by omega),cnt_zero]
   rw [e1,e2]
   exact weak_two (.vnil 1) (.vnil 1)
 ·have hne:Sp.lim A ≠ []:=by
   intro e
   rw [e] at hlA
   exact hA0 (cnt_eq_zero.1 hlA.symm)
  obtain ⟨x,l,hxl⟩:=List.exists_cons_of_ne_nil hne
  rw [hxl] at tA hlA
  simp only [List.length_cons] at hlA
  by_cases h1:Sp.cnt D = 1
  ·obtain ⟨o1,o2⟩:=one h1
   have hb:=byWordN false (Sp.cnt A) A D ⟨by unfold Sp.short;omega,fits_self _,by omega,o1⟩
   refine call128 (vDivideC _ _ _ _ x l [] _ ⟨tA,_,tD,fun h => ?_,fun h => by rw [hlD] at h;omega⟩)
   rw [res1 h1,o2,hlD]
   have e:(AV.int .u32 x :: l.map (.int .u32)) = (Sp.limN (Sp.cnt A) A).map (.int .u32):=by
    have:Sp.limN (Sp.cnt A) A = x :: l:=hxl
    rw [this];rfl
   rw [e]
   exact ⟨_,_,hb,by omega,.refl _⟩
  ·have hn2:2 <= Sp.cnt D:=by omega
   obtain ⟨s1,s2,s3,s4,s5⟩:=scl_facts hn2
   have hcmp:=compareN false false (Sp.cnt A) A (Sp.cnt D) D ⟨by unfold Sp.short;omega,by unfold Sp.short;omega,fits_self _,fits_self _⟩
   have eA:Sp.limN (Sp.cnt A) A = x :: l:=hxl
   rw [eA] at hcmp
   by_cases hlt:A < D
   ·refine call128 (vDivideC _ _ _ _ x l [] _ ⟨tA,_,tD,fun h => by rw [hlD] at h;omega,fun _ => ⟨_,hcmp,fun _ => ⟨by omega,?_⟩,fun h => ?_⟩⟩)
    ·have e1:Sp.dqn A D = 0:=by unfold Sp.dqn;rw [if_neg h1,if_pos hlt]
     have e2:Sp.drn A D = Sp.cnt A:=by unfold Sp.drn;rw [if_neg h1,if_pos hlt]
     rw [e1,e2,Nat.mod_eq_of_lt hlt,eA]
     exact weak_two (.vnil 1) (.refl _)
    ·rw [sgnI_lt] at h;omega
   ·have fits1:Sp.fits 1 (Sp.scl D):=by unfold Sp.fits;simpa using s2
    have hfAs:Sp.fits (Sp.cnt A + 1) (A * Sp.scl D):=fits_prod (fits_self A) fits1
    have hcA:Sp.cnt D <= Sp.cnt A:=cnt_mono (by omega)
    have hs:Int.tdiv 1000000000 ((Sp.lim D).getD (((Sp.lim D).length:Int) - 1).toNat default + 1) = (Sp.scl D:Int):=by
     have e1:(((Sp.lim D).length:Int) - 1).toNat = Sp.cnt D - 1:=by rw [hlD];omega
     have e2:(Sp.lim D).getD (Sp.cnt D - 1) default = ((D / 1000000000 ^ (Sp.cnt D - 1):Nat):Int):=by
      have:=limN_getD (n:=Sp.cnt D) D (show Sp.cnt D - 1 < Sp.cnt D by omega)
      rw [Nat.mod_eq_of_lt s5] at this
      exact this
     rw [e1,e2]
     unfold Sp.scl
     generalize D / 1000000000 ^ (Sp.cnt D - 1) = t
     have:((t:Int) + 1) = ((t + 1:Nat):Int):=by omega
     rw [this]
     exact (Int.ofNat_tdiv 1000000000 (t + 1)).symm
    have htop:0 <= (Sp.lim D).getD (((Sp.lim D).length:Int) - 1).toNat default /\ (Sp.lim D).getD (((Sp.lim D).length:Int) - 1).toNat default < 1000000000:=by
     refine lim_ok D _ (getD_mem ?_)
     rw [hlD];omega
    have hu:Sp.limN (Sp.cnt A + 1) (A * Sp.scl D) ++ [0] = Sp.limN (Sp.cnt A + 2) (A * Sp.scl D):=by
     rw [limN_more (Sp.cnt A + 1) 1 _ hfAs];rfl
    have hul:=limN_len (Sp.cnt A + 2) (A * Sp.scl D)
    have hvV:Sp.lim (D * Sp.scl D) = Sp.limN (Sp.cnt D) (D * Sp.scl D):=by
     refine (lim_of s3 (.inr ?_)).symm
     unfold Sp.fits;omega
    have t1:=evf112 false true A (Sp.scl D:Int) ⟨by unfold Sp.short;omega,by omega,by omega⟩
    have eone:[AV.int .u32 (Sp.scl D:Int)] = (Sp.limN 1 (Sp.scl D)).map (.int .u32):=by rw [limN_one s2];rfl
    have t2:=timesN false true (Sp.cnt D) D 1 (Sp.scl D) ⟨by unfold Sp.short;omega,by unfold Sp.short;omega,fits_self _,fits1⟩
    rw [limN_one s2] at t2
    have t3:=trimN false (Sp.cnt D + 1) (D * Sp.scl D) ⟨by unfold Sp.short;omega,fits_mono s3 (by omega)⟩
    rw [Int.toNat_natCast,hxl] at t1
    refine call128 (vDivideC _ _ _ _ x l (Sp.limN (Sp.cnt A + 1) (A * Sp.scl D)) _ ⟨tA,_,tD,fun h => by rw [hlD] at h;omega,fun _ => ⟨_,hcmp,fun h => by rw [sgnI_lt] at h;omega,fun _ => ?_⟩⟩)
    rw [hs,hu,hul]
    refine ⟨by omega,by omega,by omega,by omega,by omega,by omega,by omega,by omega,t1,by rw [limN_len];omega,_,t2,_,t3,by omega,by omega,by omega,by omega,by omega,?_⟩
    rw [hvV,hlD]
    have ekt:((Sp.cnt A + 2:Nat):Int) - (Sp.cnt D:Int) = ((Sp.cnt A + 2 - Sp.cnt D:Nat):Int):=by omega
    rw [ekt,Int.toNat_natCast]
    obtain ⟨d1,d2⟩:=div_scale (A:=A) (D:=D) s1
    refine loopK (A:=A * Sp.scl D) (kt:=Sp.cnt A + 2 - Sp.cnt D) hn2 (by omega) (by omega) s3 s4 ⟨s1,s2⟩ ?_ (Sp.cnt A + 2 - Sp.cnt D) (A * Sp.scl D) 0 _ (by omega) (by rw [Nat.zero_mul,Nat.zero_mul,Nat.zero_add]) ?_ (by simp) (by simp [Sp.limN]) (Nat.le_refl _)
    ·have e1:Sp.dqn A D = Sp.cnt A + 2 - Sp.cnt D:=by unfold Sp.dqn;rw [if_neg h1,if_neg hlt]
     have e2:Sp.drn A D = Sp.cnt (A * Sp.scl D % (D * Sp.scl D)):=by unfold Sp.drn;rw [if_neg h1,if_neg hlt]
     rw [d1,d2,e1,e2]
    ·unfold Sp.fits at hfAs
     have hp:1000000000 ^ (Sp.cnt D - 1) * 1000000000 ^ (Sp.cnt A + 2 - Sp.cnt D) = 1000000000 ^ (Sp.cnt A + 1):=by rw [<- Nat.pow_add];congr 1;omega
     have:=Nat.mul_le_mul_right (1000000000 ^ (Sp.cnt A + 2 - Sp.cnt D)) s4
     omega
theorem dqn_fits {A D:Nat} (h0:D ≠ 0) (hc:Sp.cnt A <= 400000 /\ Sp.cnt D <= 400000):Sp.fits (Sp.dqn A D) (A / D) /\ Sp.short (Sp.dqn A D) /\ Sp.fits (Sp.drn A D) (A % D) /\ Sp.short (Sp.drn A D):=by
 have hD1:1 <= Sp.cnt D:=by have:=cnt_eq_zero (v:=D);omega
 have hm:=Nat.mod_lt A (Nat.pos_of_ne_zero h0)
 unfold Sp.dqn Sp.drn Sp.short
 by_cases h1:Sp.cnt D = 1
 ·rw [if_pos h1,if_pos h1]
  have hf:=fits_self D
  rw [h1] at hf
  exact ⟨fits_le (fits_self A) (Nat.div_le_self _ _),by omega,fits_le hf (by omega),by omega⟩
 ·rw [if_neg h1,if_neg h1]
  by_cases hlt:A < D
  ·rw [if_pos hlt,if_pos hlt,Nat.div_eq_of_lt hlt,Nat.mod_eq_of_lt hlt]
   exact ⟨fits_zero.2 rfl,by omega,fits_self A,by omega⟩
  ·rw [if_neg hlt,if_neg hlt]
   obtain ⟨s1,s2,s3,s4,s5⟩:=scl_facts (D:=D) (by omega)
   obtain ⟨d1,d2⟩:=div_scale (A:=A) (D:=D) s1
   have hcA:Sp.cnt D <= Sp.cnt A:=cnt_mono (by omega)
   refine ⟨?_,by omega,?_,?_⟩
   ·have hnf:¬Sp.fits (Sp.cnt D - 1) D:=fun k => by have:=fits_cnt.1 k;omega
    have hA:=fits_self A
    unfold Sp.fits at hnf hA ⊢
    have hp:1000000000 ^ (Sp.cnt D - 1) * 1000000000 ^ (Sp.cnt A + 2 - Sp.cnt D) = 1000000000 ^ Sp.cnt A * 1000000000:=by rw [<- Nat.pow_add,<- Nat.pow_succ];congr 1;omega
    have h2:=Nat.mul_le_mul_right (1000000000 ^ (Sp.cnt A + 2 - Sp.cnt D)) (Nat.le_of_not_lt hnf)
    apply Nat.div_lt_of_lt_mul
    omega
   ·rw [<- d2]
    exact fits_le (fits_self _) (Nat.div_le_self _ _)
   ·have:Sp.cnt (A * Sp.scl D % (D * Sp.scl D)) <= Sp.cnt (D * Sp.scl D):=cnt_mono (Nat.le_of_lt (Nat.mod_lt _ (Nat.mul_pos (by omega) s1)))
    have:=fits_cnt.1 s3
    omega
theorem ev128 (fa fb:Bool) (v w:Int) (h:Sp.okB v /\ Sp.okB w /\ w ≠ 0):Ev M1 (.pure 128 [usA fa (Sp.limI v),usA fb (Sp.limI w)]) (.tup [usA false (Sp.limN (Sp.dqn v.natAbs w.natAbs) (v.natAbs / w.natAbs)),usA false (Sp.limN (Sp.drn v.natAbs w.natAbs) (v.natAbs % w.natAbs))]) []:=
 divideN fa fb _ _ _ _ ⟨okB_ok h.1,okB_ok h.2.1⟩ (fits_self _) (fits_self _) ⟨h.1,h.2.1⟩ (by have:=h.2.2;omega)
end Go.Av

namespace Go.Av
open Go.Proofs
theorem cnt_small {n:Nat} (h:n < 1000000000):Sp.cnt n <= 1:=fits_cnt.1 (by unfold Sp.fits;simpa using h)
theorem okB_small {v:Int} (h:v.natAbs < 1000000000):Sp.okB v:=by
 have:=cnt_small h
 unfold Sp.okB;omega
theorem ev136_a (fa:Bool) (a:Int) (h:Sp.okB a):Ev M1 (.pure 136 [bigA fa a,.agg [.bool false,.vec false 1 ((Sp.limI 1).map (.int .u32))]]) (bigA false (a - 1)) []:=
 ev136 fa false a 1 ⟨h,okB_small (by decide)⟩
namespace Sp
def wrd (v:Int):Int:=if cnt v.natAbs <= 2 then (v.natAbs:Int) else 0
def isW (v:Int):Bool:=decide (cnt v.natAbs <= 2)
end Sp
theorem ev127 (fa:Bool) (v:Int):Ev M1 (.pure 127 [bigA fa v]) (.tup [.int .u64 (Sp.wrd v),.bool (Sp.isW v)]) []:=by
 have hl:=limI_len v
 have hf:=fits_self v.natAbs
 unfold Sp.wrd Sp.isW
 generalize hn:v.natAbs = n at *
 have e:Sp.limI v = Sp.limN (Sp.cnt n) n:=by unfold Sp.limI Sp.lim;rw [hn]
 refine call127 (vWord fa _ _ _ ⟨fun h => ?_,fun h0 => ⟨fun h => ?_,fun h1 => ⟨fun h => ?_,fun h2 => ?_⟩⟩⟩)
 ·have h:Sp.cnt n = 0:=by omega
  rw [h,if_pos (by omega),cnt_eq_zero.1 h];rfl
 ·have h:Sp.cnt n = 1:=by omega
  rw [h] at hf e
  have hlt:n < 1000000000:=by unfold Sp.fits at hf;simpa using hf
  rw [e,limN_one hlt,h,if_pos (by omega)]
  simp only [List.getD_cons_zero]
  exact ⟨by simp,by omega,rfl⟩
 ·have h:Sp.cnt n = 2:=by omega
  rw [h] at hf e
  have hlt:n < 1000000000000000000:=by unfold Sp.fits at hf;simpa using hf
  have e2:Sp.limN 2 n = [((n % 1000000000:Nat):Int),((n / 1000000000 % 1000000000:Nat):Int)]:=rfl
  rw [e,e2,h,if_pos (by omega)]
  simp only [List.getD_cons_zero,List.getD_cons_succ]
  refine ⟨by simp,by simp,by omega,by omega,by omega,by omega,?_⟩
  have e3:((n / 1000000000 % 1000000000:Nat):Int) * 1000000000 + ((n % 1000000000:Nat):Int) = (n:Int):=by omega
  rw [e3];rfl
 ·rw [if_neg (by omega),show decide (Sp.cnt n <= 2) = false by simp;omega]
end Go.Av

namespace Go.Av
open Go.Proofs
set_option maxRecDepth 100000
def fi105:Fi:=⟨61,[.cell 4 34]⟩
def kp105:List (Nat × List Nat):=[(0,[2,3,4]),(1,[4,5,6]),(2,[4,5,6,22]),(3,[4,5,6,7,8]),(4,[4,5,6,7,8,9,10]),(5,[4,5,6,7,9,36]),(6,[4,7,9,38]),(7,[4,7,9]),(8,[4]),(9,[4,5,6,12]),(10,[4,5,6]),(11,[4])]
def fi129:Fi:=⟨55,[.cell 4 34,.cell 5 34,.tmp 6]⟩
def kp129:List (Nat × List Nat):=[(0,[2,3,4,5]),(1,[2,3,4,5,14]),(2,[4,5,6]),(3,[2,3,4,5,7,8]),(4,[3,4,5,9,10]),(5,[3,4,5,9,10,46]),(6,[4,5,9,10]),(7,[4,5,6])]
def vDivMod_at (fa fb:Bool) (a b:Int) (Q:AV -> Heap -> Prop):Prop:=Wp M1 (.run fi129 (atC (cd Tryz.f129) []) [(0,bigA fa a),(1,bigA fb b)] []) Q
def vGCD_at (fa fb:Bool) (a b:Int) (Q:AV -> Heap -> Prop):Prop:=Wp M1 (.run fi105 (atC (cd Tryz.f105) []) [(0,bigA fa a),(1,bigA fb b)] []) Q
def vGCDH_at (x y:Int) (Q:AV -> Heap -> Prop):Prop:=Wp M1 (.run fi105 (atC (cd Tryz.f105) [1,1,0,0,0]) [(4,.ptr 0 0 0 0),(5,.ptr 1 0 0 0),(6,.ptr 2 0 0 0)] [⟨[.agg [.bool false,.vnil]],2,0,false,false⟩,⟨[.agg [.bool (Sp.isNeg x),.vec false 1 ((Sp.limI x).map (.int .u32))]],2,0,false,false⟩,⟨[.agg [.bool (Sp.isNeg y),.vec false 1 ((Sp.limI y).map (.int .u32))]],2,0,false,false⟩]) Q
def vGCDE_at (s:Bool) (c:Int) (l:List Int) (Q:AV -> Heap -> Prop):Prop:=Wp M1 (.run fi105 (atC (cd Tryz.f105) [1,1,0,0,0]) [(4,.ptr 0 0 0 0),(5,.ptr 1 0 0 0),(6,.ptr 2 0 0 0)] [⟨[.agg [.bool false,.vnil]],2,0,false,false⟩,⟨[.agg [.bool s,.vec false 1 ((c :: l).map (.int .u32))]],2,0,false,false⟩,⟨[.agg [.bool false,.vec false 1 []]],2,0,false,false⟩]) Q
def vGCDZ_at (s:Bool) (Q:AV -> Heap -> Prop):Prop:=Wp M1 (.run fi105 (atC (cd Tryz.f105) [1,1,0,0,0]) [(4,.ptr 0 0 0 0),(5,.ptr 1 0 0 0),(6,.ptr 2 0 0 0)] [⟨[.agg [.bool false,.vnil]],2,0,false,false⟩,⟨[.agg [.bool s,.vec false 1 []]],2,0,false,false⟩,⟨[.agg [.bool false,.vec false 1 []]],2,0,false,false⟩]) Q
def vGCDW_at (u v:Int) (Q:AV -> Heap -> Prop):Prop:=Wp M1 (.run fi105 (atC (cd Tryz.f105) [1,1,0,0,0,1,0,1,1,0,1,0,0,0,0]) [(4,.ptr 0 0 0 0),(7,.int .u64 u),(9,.int .u64 v)] [⟨[.agg [.bool false,.vnil]],2,0,false,false⟩]) Q
theorem call105 {args:List AV} {d:AV} (h:wc M1 fi105 Tryz.f105 args d):Ev M1 (.pure 105 args) d []:=pcl _ _ (by kernel_rfl) h
theorem call129 {args:List AV} {d:AV} (h:wc M1 fi129 Tryz.f129 args d):Ev M1 (.pure 129 args) d []:=pcl _ _ (by kernel_rfl) h
noncomputable abbrev zNvG1 (a:Int) (b:Int):=us (Sp.limN (Sp.dqn a.natAbs b.natAbs) (a.natAbs / b.natAbs))
noncomputable abbrev zNvG2 (a:Int) (b:Int):=us (Sp.limN (Sp.drn a.natAbs b.natAbs) (a.natAbs % b.natAbs))
noncomputable abbrev zNvG3 (a:Int) (b:Int):=Sp.sg (!Sp.isNeg a == Sp.isNeg b) (a.natAbs / b.natAbs)
theorem vDivMod (fa fb:Bool) (a b:Int)  (dq:AV) (H :
  (((↑(Sp.limI b).length:Int) = 0) -> Weak (tu [ag [vb false,AV.vnil],ag [vb false,AV.vnil],vi 6]) dq) /\
  (¬((↑(Sp.limI b).length:Int) = 0) -> (Sp.okB a /\ Sp.okB b /\ b ≠ 0) /\
   (Sp.short (Sp.dqn a.natAbs b.natAbs) /\ Sp.fits (Sp.dqn a.natAbs b.natAbs) (a.natAbs / b.natAbs)) /\
   (Sp.short (Sp.drn a.natAbs b.natAbs) /\ Sp.fits (Sp.drn a.natAbs b.natAbs) (a.natAbs % b.natAbs)) /\
   ((((↑(Sp.limI (Sp.sg (Sp.isNeg a) (a.natAbs % b.natAbs))).length:Int) > 0) /\ (¬(Sp.isNeg (Sp.sg (Sp.isNeg a) (a.natAbs % b.natAbs)) = Sp.isNeg b))) -> (Sp.inI 1) /\
    (Sp.okB (Sp.sg (!Sp.isNeg a == Sp.isNeg b) (a.natAbs / b.natAbs))) /\
    (Sp.okB (Sp.sg (Sp.isNeg a) (a.natAbs % b.natAbs)) /\ Sp.okB b) /\
    Weak (tu [bigA false (Sp.sg (!Sp.isNeg a == Sp.isNeg b) (a.natAbs / b.natAbs) - 1),bigA false (Sp.sg (Sp.isNeg a) (a.natAbs % b.natAbs) + b),vi 0]) dq) /\
   (¬(((↑(Sp.limI (Sp.sg (Sp.isNeg a) (a.natAbs % b.natAbs))).length:Int) > 0) /\ (¬(Sp.isNeg (Sp.sg (Sp.isNeg a) (a.natAbs % b.natAbs)) = Sp.isNeg b))) -> Weak (tu [bigA false (Sp.sg (!Sp.isNeg a == Sp.isNeg b) (a.natAbs / b.natAbs)),bigA false (Sp.sg (Sp.isNeg a) (a.natAbs % b.natAbs)),vi 0]) dq))) :
 vDivMod_at fa fb a b (PureQ dq):=by
 unfold vDivMod_at
 have w1:(us (Sp.limI b)).length = (Sp.limI b).length:=List.length_map ..
 have i2:((↑(us (Sp.limI b)).length:Int) == 0) = true ↔ ((↑(Sp.limI b).length:Int) = 0):=(by (try rw [w1]);all_goals exact i_eq)
 rcases xm ((↑(Sp.limI b).length:Int) = 0) with d3 | d3
 ·have H:=H.1 d3
  exact path_rq (G:=given kp129 [] []) 1000 [true] (tu [ag [vb false,AV.vnil],ag [vb false,AV.vnil],vi 6]) (by kernel_rfl) (bc rfl (bc (beq_t (i2.2 d3)) (bc rfl (bc rfl b0)))) q0 c0 H
 ·have H:=H.2 d3
  obtain ⟨k4,H⟩:=H
  obtain ⟨k5,H⟩:=H
  obtain ⟨k6,H⟩:=H
  refine path_wp (G:=given kp129 [(3,4,.call (tu [vf (zNvG1 a b),vf (zNvG2 a b)]) none),(4,6,.call (bigA false (zNvG3 a b)) none),(4,10,.call (bigA false (Sp.sg (Sp.isNeg a) (a.natAbs % b.natAbs))) none)] []) 10 [false] ⟨(atC (cd Tryz.f129) [1,1,1,0]),[(2,AV.ptr 0 0 0 0),(3,AV.ptr 1 0 0 0),(4,AV.ptr 2 0 0 0),(5,AV.ptr 3 0 0 0),(7,vf (zNvG1 a b)),(8,vf (zNvG2 a b))],[⟨[bigA fa a],2,0,false,false⟩,⟨[bigA fb b],2,0,false,false⟩,⟨[ag [vb false,AV.vnil]],2,0,false,false⟩,⟨[ag [vb false,AV.vnil]],2,0,false,false⟩],_,[],_⟩ (by kernel_rfl) (bc rfl (bc (beq_f (fun h => d3 (i2.1 h))) (bc rfl (bc rfl b0)))) q0 (ce (@ev128 (fa) (fb) (a) (b) k4) c0) (wp_both (G:=given kp129 [(3,4,.call (tu [vf (zNvG1 a b),vf (zNvG2 a b)]) none),(4,6,.call (bigA false (zNvG3 a b)) none),(4,10,.call (bigA false (Sp.sg (Sp.isNeg a) (a.natAbs % b.natAbs))) none)] []) [0,1,2,3,5,4] 11 (e1:=[(3,AV.ptr 1 0 0 0),(4,AV.ptr 2 0 0 0),(5,AV.ptr 3 0 0 0),(9,AV.ptr 4 0 0 0),(10,AV.ptr 5 0 0 0)]) (L1:=[⟨[bigA fa a],2,0,false,false⟩,⟨[bigA fb b],2,0,false,false⟩,⟨[ag [vb false,AV.vnil]],2,0,false,false⟩,⟨[ag [vb false,AV.vnil]],2,0,false,false⟩,⟨[bigA false (zNvG3 a b)],2,0,false,false⟩,⟨[bigA false (Sp.sg (Sp.isNeg a) (a.natAbs % b.natAbs))],2,0,false,false⟩]) (a:=[true,true,true,true,true]) (q:=[]) (cs:=[⟨true,false,108,[vb !Sp.isNeg a == Sp.isNeg b,vf (zNvG1 a b)],[],bigA false (zNvG3 a b),[]⟩,⟨true,false,108,[vb (Sp.isNeg a),vf (zNvG2 a b)],[],bigA false (Sp.sg (Sp.isNeg a) (a.natAbs % b.natAbs)),[]⟩]) (by kernel_rfl) (by kernel_rfl) (allB_cons rfl (allB_cons rfl (allB_cons rfl (allB_cons rfl (allB_cons rfl allB_nil))))) allP_nil (allC_cons (fun _ => (@ev108 (!Sp.isNeg a == Sp.isNeg b) (false) (Sp.dqn a.natAbs b.natAbs) (a.natAbs / b.natAbs) k5)) (allC_cons (fun _ => (@ev108 (Sp.isNeg a) (false) (Sp.drn a.natAbs b.natAbs) (a.natAbs % b.natAbs) k6)) allC_nil)) ?_)
  have w7:(us (Sp.limI (Sp.sg (Sp.isNeg a) (a.natAbs % b.natAbs)))).length = (Sp.limI (Sp.sg (Sp.isNeg a) (a.natAbs % b.natAbs))).length:=List.length_map ..
  have i8:(bif decide ((↑(us (Sp.limI (Sp.sg (Sp.isNeg a) (a.natAbs % b.natAbs)))).length:Int) > 0) then !Sp.isNeg (Sp.sg (Sp.isNeg a) (a.natAbs % b.natAbs)) == Sp.isNeg b else false) = true ↔ (((↑(Sp.limI (Sp.sg (Sp.isNeg a) (a.natAbs % b.natAbs))).length:Int) > 0) /\ (¬(Sp.isNeg (Sp.sg (Sp.isNeg a) (a.natAbs % b.natAbs)) = Sp.isNeg b))):=(by (try rw [w7]);all_goals exact (i_band i_dec (i_not i_eq)))
  rcases xm (((↑(Sp.limI (Sp.sg (Sp.isNeg a) (a.natAbs % b.natAbs))).length:Int) > 0) /\ (¬(Sp.isNeg (Sp.sg (Sp.isNeg a) (a.natAbs % b.natAbs)) = Sp.isNeg b))) with d9 | d9
  ·have H:=H.1 d9
   obtain ⟨k10,H⟩:=H
   obtain ⟨k11,H⟩:=H
   obtain ⟨k12,H⟩:=H
   exact path_rq (G:=given kp129 [(6,1,.call (ag [vb false,vf (us (Sp.limI 1))]) none),(6,2,.call (bigA false (Sp.sg (!Sp.isNeg a == Sp.isNeg b) (a.natAbs / b.natAbs) - 1)) none),(6,5,.call (bigA false (Sp.sg (Sp.isNeg a) (a.natAbs % b.natAbs) + b)) none)] [(7,[5003,4002,7001,6000])]) 1000 [true] (asm:=[true,!(decide ((↑(us (Sp.limI (Sp.sg (Sp.isNeg a) (a.natAbs % b.natAbs)))).length:Int) > 0) == true && true) || true,!(decide ((↑(us (Sp.limI (Sp.sg (Sp.isNeg a) (a.natAbs % b.natAbs)))).length:Int) > 0) == true && true) || true,(bif decide ((↑(us (Sp.limI (Sp.sg (Sp.isNeg a) (a.natAbs % b.natAbs)))).length:Int) > 0) then !Sp.isNeg (Sp.sg (Sp.isNeg a) (a.natAbs % b.natAbs)) == Sp.isNeg b else false) == true,true,true,true,true,true,true,true,true,true]) (tu [bigA false (Sp.sg (!Sp.isNeg a == Sp.isNeg b) (a.natAbs / b.natAbs) - 1),bigA false (Sp.sg (Sp.isNeg a) (a.natAbs % b.natAbs) + b),vi 0]) (by kernel_rfl) (bc rfl (bc (Bool.or_true _) (bc (Bool.or_true _) (bc (beq_t (i8.2 d9)) (bc rfl (bc rfl (bc rfl (bc rfl (bc rfl (bc rfl (bc rfl (bc rfl (bc rfl b0))))))))))))) q0 (ce (@ev72 (1) k10) (ce (@ev136_a (false) (zNvG3 a b) k11) (ce (@ev78 (false) (fb) (Sp.sg (Sp.isNeg a) (a.natAbs % b.natAbs)) (b) k12) c0))) H
  ·have H:=H.2 d9
   exact path_rq (G:=given kp129 [] [(7,[5003,4002,7001,6000])]) 1000 [false] (asm:=[true,!(decide ((↑(us (Sp.limI (Sp.sg (Sp.isNeg a) (a.natAbs % b.natAbs)))).length:Int) > 0) == true && true) || true,!(decide ((↑(us (Sp.limI (Sp.sg (Sp.isNeg a) (a.natAbs % b.natAbs)))).length:Int) > 0) == true && true) || true,(bif decide ((↑(us (Sp.limI (Sp.sg (Sp.isNeg a) (a.natAbs % b.natAbs)))).length:Int) > 0) then !Sp.isNeg (Sp.sg (Sp.isNeg a) (a.natAbs % b.natAbs)) == Sp.isNeg b else false) == false,true,true,true,true]) (tu [bigA false (zNvG3 a b),bigA false (Sp.sg (Sp.isNeg a) (a.natAbs % b.natAbs)),vi 0]) (by kernel_rfl) (bc rfl (bc (Bool.or_true _) (bc (Bool.or_true _) (bc (beq_f (fun h => d9 (i8.1 h))) (bc rfl (bc rfl (bc rfl (bc rfl b0)))))))) q0 c0 H
theorem vGCD (fa fb:Bool) (a b:Int)  (dq:AV) (H :
  (Sp.ok a) /\
  (Sp.ok b) /\
  vGCDH_at (Sp.sg false a.natAbs) (Sp.sg false b.natAbs) (PureQ dq)) :
 vGCD_at fa fb a b (PureQ dq):=by
 unfold vGCD_at
 obtain ⟨k1,H⟩:=H
 obtain ⟨k2,H⟩:=H
 refine path_wp (G:=given kp105 [(1,2,.call (bigA false (Sp.sg false a.natAbs)) none),(1,5,.call (bigA false (Sp.sg false b.natAbs)) none)] []) 3 [] ⟨(atC (cd Tryz.f105) [1,0]),[(2,AV.ptr 0 0 0 0),(3,AV.ptr 1 0 0 0),(4,AV.ptr 2 0 0 0)],[⟨[bigA fa a],2,0,false,false⟩,⟨[bigA fb b],2,0,false,false⟩,⟨[ag [vb false,AV.vnil]],2,0,false,false⟩],_,[],_⟩ (by kernel_rfl) b0 q0 c0 (wp_both (G:=given kp105 [(1,2,.call (bigA false (Sp.sg false a.natAbs)) none),(1,5,.call (bigA false (Sp.sg false b.natAbs)) none)] []) [0,1,2,4,3] 6 (e1:=[(4,AV.ptr 2 0 0 0),(5,AV.ptr 3 0 0 0),(6,AV.ptr 4 0 0 0)]) (L1:=[⟨[bigA fa a],2,0,false,false⟩,⟨[bigA fb b],2,0,false,false⟩,⟨[ag [vb false,AV.vnil]],2,0,false,false⟩,⟨[bigA false (Sp.sg false a.natAbs)],2,0,false,false⟩,⟨[bigA false (Sp.sg false b.natAbs)],2,0,false,false⟩]) (a:=[true,true,true,true]) (q:=[]) (cs:=[⟨true,false,108,[vb false,AV.vec fa 1 (us (Sp.limI a))],[],bigA false (Sp.sg false a.natAbs),[]⟩,⟨true,false,108,[vb false,AV.vec fb 1 (us (Sp.limI b))],[],bigA false (Sp.sg false b.natAbs),[]⟩]) (by kernel_rfl) (by kernel_rfl) (allB_cons rfl (allB_cons rfl (allB_cons rfl (allB_cons rfl allB_nil)))) allP_nil (allC_cons (fun _ => (@ev108_a (false) (fa) (a) k1)) (allC_cons (fun _ => (@ev108_a (false) (fb) (b) k2)) allC_nil)) ?_)
 exact path_wp (G:=given kp105 [] []) 1000 [] ⟨(atC (cd Tryz.f105) [1,1,0,0,0]),[(4,AV.ptr 2 0 0 0),(5,AV.ptr 3 0 0 0),(6,AV.ptr 4 0 0 0)],[⟨[bigA fa a],2,0,false,false⟩,⟨[bigA fb b],2,0,false,false⟩,⟨[ag [vb false,AV.vnil]],2,0,false,false⟩,⟨[bigA false (Sp.sg false a.natAbs)],2,0,false,false⟩,⟨[bigA false (Sp.sg false b.natAbs)],2,0,false,false⟩],_,[],_⟩ (by kernel_rfl) b0 q0 c0 (wp_narrow [2,3,4] (by kernel_rfl) H)
theorem vGCDH (x y:Int)  (dq:AV) (H :
  (((↑(Sp.limI y).length:Int) > 0) -> (((Sp.isW x = true) /\ (Sp.isW y = true)) -> vGCDW_at (Sp.wrd x) (Sp.wrd y) (PureQ dq)) /\
   (¬((Sp.isW x = true) /\ (Sp.isW y = true)) -> (Sp.okB x /\ Sp.okB y /\ y ≠ 0) /\
    (Sp.short (Sp.drn x.natAbs y.natAbs) /\ Sp.fits (Sp.drn x.natAbs y.natAbs) (x.natAbs % y.natAbs)) /\
    vGCDH_at (y) (Sp.sg false (x.natAbs % y.natAbs)) (PureQ dq))) /\
  (¬((↑(Sp.limI y).length:Int) > 0) -> False)) :
 vGCDH_at x y (PureQ dq):=by
 unfold vGCDH_at
 have w1:(us (Sp.limI y)).length = (Sp.limI y).length:=List.length_map ..
 have i2:(decide ((↑(us (Sp.limI y)).length:Int) > 0)) = true ↔ ((↑(Sp.limI y).length:Int) > 0):=(by (try rw [w1]);all_goals exact i_dec)
 rcases xm ((↑(Sp.limI y).length:Int) > 0) with d3 | d3
 ·have H:=H.1 d3
  refine path_wp (G:=given kp105 [(3,1,.call (tu [vw (Sp.wrd x),vb (Sp.isW x)]) none),(4,1,.call (tu [vw (Sp.wrd y),vb (Sp.isW y)]) none)] []) 13 [true] ⟨(atC (cd Tryz.f105) [1,1,0,0,0,1,0,1,1,0,1]),[(4,AV.ptr 0 0 0 0),(5,AV.ptr 1 0 0 0),(6,AV.ptr 2 0 0 0),(7,vw (Sp.wrd x)),(9,vw (Sp.wrd y)),(36,vb (bif Sp.isW x then Sp.isW y else false))],[⟨[ag [vb false,AV.vnil]],2,0,false,false⟩,⟨[bigA false x],2,0,false,false⟩,⟨[bigA false y],2,0,false,false⟩],_,[],_⟩ (by kernel_rfl) (bc rfl (bc (beq_t (i2.2 d3)) (bc rfl (bc rfl b0)))) q0 (ce (@ev127 (false) (x)) (ce (@ev127 (false) (y)) c0)) ?_
  rcases xm ((Sp.isW x = true) /\ (Sp.isW y = true)) with d5 | d5
  ·have H:=H.1 d5
   exact path_wp (G:=given kp105 [] []) 1000 [true] ⟨(atC (cd Tryz.f105) [1,1,0,0,0,1,0,1,1,0,1,0,0,0,0]),[(4,AV.ptr 0 0 0 0),(5,AV.ptr 1 0 0 0),(6,AV.ptr 2 0 0 0),(7,vw (Sp.wrd x)),(9,vw (Sp.wrd y)),(36,vb (bif Sp.isW x then Sp.isW y else false))],[⟨[ag [vb false,AV.vnil]],2,0,false,false⟩,⟨[bigA false x],2,0,false,false⟩,⟨[bigA false y],2,0,false,false⟩],[(bif Sp.isW x then Sp.isW y else false) == true],[],_⟩ (by kernel_rfl) (bc (beq_t ((i_band (i_var _) (i_var _)).2 d5)) b0) q0 c0 (Wp.less [4,7,9] (wp_narrow [0] (by kernel_rfl) H))
  ·have H:=H.2 d5
   obtain ⟨k6,H⟩:=H
   obtain ⟨k7,H⟩:=H
   exact path_wp (G:=given kp105 [(9,4,.call (tu [vf (us (Sp.limN (Sp.dqn x.natAbs y.natAbs) (x.natAbs / y.natAbs))),vf (us (Sp.limN (Sp.drn x.natAbs y.natAbs) (x.natAbs % y.natAbs)))]) none),(10,2,.call (bigA false (Sp.sg false (x.natAbs % y.natAbs))) none)] []) 1000 [false] ⟨(atC (cd Tryz.f105) [1,1,0,0,0]),[(4,AV.ptr 0 0 0 0),(5,AV.ptr 1 0 0 0),(6,AV.ptr 2 0 0 0)],[⟨[ag [vb false,AV.vnil]],2,0,false,false⟩,⟨[bigA false y],2,0,false,false⟩,⟨[bigA false (Sp.sg false (x.natAbs % y.natAbs))],2,0,false,false⟩],[(bif Sp.isW x then Sp.isW y else false) == false,true,true,true,true,true],[],_⟩ (by kernel_rfl) (bc (beq_f (fun h => d5 ((i_band (i_var _) (i_var _)).1 h))) (bc rfl (bc rfl (bc rfl (bc rfl (bc rfl b0)))))) q0 (ce (@ev128 (false) (false) (x) (y) k6) (ce (@ev108 (false) (false) (Sp.drn x.natAbs y.natAbs) (x.natAbs % y.natAbs) k7) c0)) (H)
 ·have H:=H.2 d3
  exact False.elim H
theorem vGCDE (s:Bool) (c:Int) (l:List Int)  (dq:AV) (H :
  ∃ (b1:Bool) (l1:List (Int)),
  (Ev M1 (Conf.pure 108 [vb false,vf (vu c :: us l)]) (ag [vb b1,vf (us l1)]) []) /\
  ((l.length + 1) * 4 <= 1099511627776) /\
  Weak (ag [vb b1,vf (us l1)]) dq) :
 vGCDE_at s c l (PureQ dq):=by
 unfold vGCDE_at
 obtain ⟨b1,l1,H⟩:=H
 obtain ⟨k1,H⟩:=H
 have w2:(us l).length = l.length:=List.length_map ..
 have i3:(decide (((us l).length + 1) * 4 <= 1099511627776)) = true ↔ ((l.length + 1) * 4 <= 1099511627776):=(by (try rw [w2]);all_goals exact i_dec)
 obtain ⟨k4,H⟩:=H
 exact path_rq (G:=given kp105 [(11,3,.call (ag [vb b1,vf (us l1)]) none)] []) 1000 [false] (ag [vb b1,vf (us l1)]) (by kernel_rfl) (bc rfl (bc rfl (bc rfl (bc (i3.2 k4) (bc rfl (bc rfl b0)))))) q0 (ce k1 c0) H
theorem vGCDZ (s:Bool)  (dq:AV) (H :
  ∃ (b1:Bool) (l1:List (Int)),
  (Ev M1 (Conf.pure 108 [vb false,AV.vnil]) (ag [vb b1,vf (us l1)]) []) /\
  Weak (ag [vb b1,vf (us l1)]) dq) :
 vGCDZ_at s (PureQ dq):=by
 unfold vGCDZ_at
 obtain ⟨b1,l1,H⟩:=H
 obtain ⟨k1,H⟩:=H
 exact path_rq (G:=given kp105 [(11,3,.call (ag [vb b1,vf (us l1)]) none)] []) 1000 [false] (ag [vb b1,vf (us l1)]) (by kernel_rfl) (bc rfl (bc rfl (bc rfl (bc rfl b0)))) q0 (ce k1 c0) H
theorem vGCDW (u v:Int)  (dq:AV) (H :
  ((v > 0) -> (¬v = 0) /\
   vGCDW_at (v) (u.tmod v) (PureQ dq)) /\
  (¬(v > 0) -> (0 <= u /\ u <= 18446744073709551615) /\
   (Sp.short 3 /\ Sp.fits 3 u.toNat) /\
   Weak (bigA false (Sp.sg false u.toNat)) dq)) :
 vGCDW_at u v (PureQ dq):=by
 unfold vGCDW_at
 rcases xm (v > 0) with d2 | d2
 ·have H:=H.1 d2
  obtain ⟨k4,H⟩:=H
  exact path_wp (G:=given kp105 [] []) 1000 [true] ⟨(atC (cd Tryz.f105) [1,1,0,0,0,1,0,1,1,0,1,0,0,0,0]),[(4,AV.ptr 0 0 0 0),(7,vw v),(9,vw (u.tmod v))],[⟨[ag [vb false,AV.vnil]],2,0,false,false⟩],_,[],_⟩ (by kernel_rfl) (bc (beq_t (i_dec.2 d2)) (bc (i_neq.2 k4) b0)) q0 c0 (H)
 ·have H:=H.2 d2
  obtain ⟨k5,H⟩:=H
  obtain ⟨k6,H⟩:=H
  exact path_rq (G:=given kp105 [(8,1,.call (vf (us (Sp.limN 3 u.toNat))) none),(8,2,.call (bigA false (Sp.sg false u.toNat)) none)] []) 1000 [false] (bigA false (Sp.sg false u.toNat)) (by kernel_rfl) (bc (beq_f (fun h => d2 (i_dec.1 h))) (bc rfl b0)) q0 (ce (@ev109 (u) k5) (ce (@ev108 (false) (false) (3) (u.toNat) k6) c0)) H
end Go.Av

namespace Go.Av
open Go.Proofs
theorem sg_false (v:Nat):Sp.sg false v = (v:Int):=by simp [Sp.sg]
theorem sg_natAbs (s:Bool) (v:Nat):(Sp.sg s v).natAbs = v:=by
 unfold Sp.sg
 split <;> omega
theorem isNeg_false {v:Int} (h:¬v < 0):Sp.isNeg v = false:=Bool.eq_false_iff.2 (fun x => h (isNeg_iff.1 x))
theorem sg_div {a b:Int} (_hb:b ≠ 0):a = b * Sp.sg (!(Sp.isNeg a == Sp.isNeg b)) (a.natAbs / b.natAbs) + Sp.sg (Sp.isNeg a) (a.natAbs % b.natAbs):=by
 have h:=Nat.div_add_mod a.natAbs b.natAbs
 generalize a.natAbs / b.natAbs = q at *
 generalize a.natAbs % b.natAbs = r at *
 have hz:(b.natAbs:Int) * (q:Int) + (r:Int) = (a.natAbs:Int):=by exact_mod_cast h
 by_cases ka:a < 0 <;> by_cases kb:b < 0
 ·rw [isNeg_iff.2 ka,isNeg_iff.2 kb]
  have e1:(a.natAbs:Int) = -a:=by omega
  have e2:(b.natAbs:Int) = -b:=by omega
  rw [e1,e2] at hz
  simp [Sp.sg];grind
 ·rw [isNeg_iff.2 ka,isNeg_false kb]
  have e1:(a.natAbs:Int) = -a:=by omega
  have e2:(b.natAbs:Int) = b:=by omega
  rw [e1,e2] at hz
  simp [Sp.sg];grind
 ·rw [isNeg_false ka,isNeg_iff.2 kb]
  have e1:(a.natAbs:Int) = a:=by omega
  have e2:(b.natAbs:Int) = -b:=by omega
  rw [e1,e2] at hz
  simp [Sp.sg];grind
 ·rw [isNeg_false ka,isNeg_false kb]
  have e1:(a.natAbs:Int) = a:=by omega
  have e2:(b.natAbs:Int) = b:=by omega
  rw [e1,e2] at hz
  simp [Sp.sg];grind
theorem ev129 (fa fb:Bool) (a b:Int) (h:Sp.okB a /\ Sp.okB b /\ b ≠ 0):Ev M1 (.pure 129 [bigA fa a,bigA fb b]) (.tup [bigA false (Sp.flo a b),bigA false (Sp.flr a b),.int .i64 0]) []:=by
 obtain ⟨ha,hb,h0⟩:=h
 have hl:=limI_len b
 have hd0:b.natAbs ≠ 0:=by omega
 obtain ⟨d1,d2,d3,d4⟩:=dqn_fits hd0 ⟨ha,hb⟩
 have hm:=Nat.mod_lt a.natAbs (Nat.pos_of_ne_zero hd0)
 have heq:=sg_div (a:=a) h0
 have okr:Sp.okB (Sp.sg (Sp.isNeg a) (a.natAbs % b.natAbs)):=by
  unfold Sp.okB
  rw [sg_natAbs]
  have:=cnt_mono (Nat.le_of_lt hm)
  unfold Sp.okB at hb;omega
 have okq:Sp.okB (Sp.sg (!(Sp.isNeg a == Sp.isNeg b)) (a.natAbs / b.natAbs)):=by
  unfold Sp.okB
  rw [sg_natAbs]
  have:=cnt_mono (Nat.div_le_self a.natAbs b.natAbs)
  unfold Sp.okB at ha;omega
 have hra:(Sp.sg (Sp.isNeg a) (a.natAbs % b.natAbs)).natAbs = a.natAbs % b.natAbs:=sg_natAbs _ _
 have hlr:=limI_len (Sp.sg (Sp.isNeg a) (a.natAbs % b.natAbs))
 refine call129 (vDivMod _ _ _ _ _ ⟨fun h => ?_,fun _ => ⟨⟨ha,hb,h0⟩,⟨d2,d1⟩,⟨d4,d3⟩,fun k => ⟨by unfold Sp.inI;omega,okq,⟨okr,hb⟩,?_⟩,fun k => ?_⟩⟩)
 ·have:=cnt_eq_zero (v:=b.natAbs)
  omega
 ·obtain ⟨k1,k2⟩:=k
  have hne:Sp.sg (Sp.isNeg a) (a.natAbs % b.natAbs) ≠ 0:=by
   intro e
   rw [e] at hlr
   have:Sp.cnt (Int.natAbs 0) = 0:=cnt_zero
   rw [e] at k1
   omega
  generalize Sp.sg (Sp.isNeg a) (a.natAbs % b.natAbs) = r at *
  generalize Sp.sg (!(Sp.isNeg a == Sp.isNeg b)) (a.natAbs / b.natAbs) = q at *
  have hs:(r < 0 /\ 0 < b) \/ (0 < r /\ b < 0):=by
   by_cases kr:r < 0
   ·by_cases kb:b < 0
    ·exact absurd (by rw [isNeg_iff.2 kr,isNeg_iff.2 kb]) k2
    ·exact .inl ⟨kr,by omega⟩
   ·by_cases kb:b < 0
    ·exact .inr ⟨by omega,kb⟩
    ·exact absurd (by rw [isNeg_false kr,isNeg_false kb]) k2
  obtain ⟨e1,e2⟩:=flo_unique (a:=a) (b:=b) (q:=q - 1) (r:=r + b) (by grind) (by omega)
  rw [e1,e2]
  exact .refl _
 ·generalize hr:Sp.sg (Sp.isNeg a) (a.natAbs % b.natAbs) = r at *
  generalize Sp.sg (!(Sp.isNeg a == Sp.isNeg b)) (a.natAbs / b.natAbs) = q at *
  have hs:r = 0 \/ (r < 0 /\ b < 0) \/ (0 < r /\ 0 < b):=by
   by_cases hz:r = 0
   ·exact .inl hz
   ·right
    have hc:Sp.cnt r.natAbs ≠ 0:=fun e => hz (by have:=cnt_eq_zero.1 e;omega)
    have k:Sp.isNeg r = Sp.isNeg b:=Classical.byContradiction fun k2 => k ⟨by omega,k2⟩
    by_cases kr:r < 0
    ·exact .inl ⟨kr,isNeg_iff.1 (k ▸ isNeg_iff.2 kr)⟩
    ·have:¬b < 0:=fun x => kr (isNeg_iff.1 (by rw [k];exact isNeg_iff.2 x))
     exact .inr ⟨by omega,by omega⟩
  obtain ⟨e1,e2⟩:=flo_unique (a:=a) (b:=b) (q:=q) (r:=r) heq (by omega)
  rw [e1,e2]
  exact .refl _
theorem gcdW (n:Nat):∀ u v:Nat,v <= n -> u <= 18446744073709551615 -> v <= 18446744073709551615 -> vGCDW_at u v (PureQ (bigA false (Nat.gcd u v:Nat))):=by
 induction n with
 | zero =>
  intro u v hv hu hv2
  have:v = 0:=by omega
  subst this
  refine vGCDW _ _ _ ⟨fun h => by omega,fun _ => ⟨by omega,⟨by unfold Sp.short;omega,fits3 (by omega)⟩,?_⟩⟩
  rw [Int.toNat_natCast,sg_false,Nat.gcd_zero_right];exact .refl _
 | succ n ih =>
  intro u v hv hu hv2
  refine vGCDW _ _ _ ⟨fun h => ⟨by omega,?_⟩,fun h => ⟨by omega,⟨by unfold Sp.short;omega,fits3 (by omega)⟩,?_⟩⟩
  ·rw [<- Int.ofNat_tmod]
   have hlt:=Nat.mod_lt u (show 0 < v by omega)
   have:=ih v (u % v) (by omega) hv2 (by omega)
   rwa [show Nat.gcd v (u % v) = Nat.gcd u v by rw [Nat.gcd_comm u v,Nat.gcd_rec v u,Nat.gcd_comm]] at this
  ·have:v = 0:=by omega
   subst this
   rw [Int.toNat_natCast,sg_false,Nat.gcd_zero_right];exact .refl _
theorem gcdH (n:Nat):∀ x y:Nat,y <= n -> Sp.cnt x <= 400000 -> Sp.cnt y <= 400000 -> vGCDH_at x y (PureQ (bigA false (Nat.gcd x y:Nat))):=by
 have base:∀ x:Nat,Sp.cnt x <= 400000 -> vGCDH_at x (0:Nat) (PureQ (bigA false (Nat.gcd x 0:Nat))):=by
  intro x hx
  rw [Nat.gcd_zero_right]
  have e1:Sp.limI ((0:Nat):Int) = []:=lim_zero
  have e2:Sp.isNeg ((0:Nat):Int) = false:=rfl
  unfold vGCDH_at
  rw [e1,e2]
  by_cases h0:x = 0
  ·subst h0
   rw [e1,e2]
   refine vGCDZ false _ ⟨false,[],?_,by show Weak _ (AV.agg [.bool (Sp.isNeg ((0:Nat):Int)),.vec false 1 ((Sp.limI ((0:Nat):Int)).map (.int .u32))]);rw [e1,e2];exact .refl _⟩
   exact call108 (vSigned0 false _ (vSigned0A false _ (weak_bnil false)))
  ·have hll:=limI_len (x:Int)
   have hne:Sp.limI (x:Int) ≠ []:=by
    intro e
    rw [e] at hll
    exact h0 (cnt_eq_zero.1 hll.symm)
   obtain ⟨c,l,hl⟩:=List.exists_cons_of_ne_nil hne
   have es:=ev108_a false false (x:Int) (by unfold Sp.ok;rw [Int.natAbs_natCast];omega)
   rw [Int.natAbs_natCast,sg_false] at es
   have es2:Ev M1 (.pure 108 [.bool false,.vec false 1 ((Sp.limI (x:Int)).map (.int .u32))]) (.agg [.bool (Sp.isNeg (x:Int)),.vec false 1 ((Sp.limI (x:Int)).map (.int .u32))]) []:=es
   rw [hl] at es2 hll
   rw [Int.natAbs_natCast] at hll
   simp only [List.length_cons] at hll
   have key:∀ d,bigA false (x:Int) = d -> vGCDE_at (Sp.isNeg (x:Int)) c l (PureQ d):=by
    intro d hd
    refine vGCDE _ c l _ ⟨Sp.isNeg (x:Int),c :: l,es2,by omega,?_⟩
    rw [<- hd]
    show Weak _ (AV.agg [.bool (Sp.isNeg (x:Int)),.vec false 1 ((Sp.limI (x:Int)).map (.int .u32))])
    rw [hl];exact .refl _
   have k:=key _ rfl
   unfold vGCDE_at at k
   rw [<- hl] at k
   exact k
 induction n with
 | zero =>
  intro x y hy hx hcy
  have:y = 0:=by omega
  subst this
  exact base x hx
 | succ n ih =>
  intro x y hy hx hcy
  by_cases h0:y = 0
  ·subst h0;exact base x hx
  ·have hyl:=limI_len (y:Int)
   have hc:=cnt_eq_zero (v:=y)
   rw [Int.natAbs_natCast] at hyl
   refine vGCDH _ _ _ ⟨fun _ => ⟨fun h => ?_,fun h => ⟨⟨by unfold Sp.okB;rw [Int.natAbs_natCast];exact hx,by unfold Sp.okB;rw [Int.natAbs_natCast];exact hcy,by omega⟩,?_,?_⟩⟩,fun h => ?_⟩
   ·obtain ⟨k1,k2⟩:=h
    unfold Sp.isW at k1 k2
    rw [Int.natAbs_natCast,decide_eq_true_eq] at k1 k2
    have w1:Sp.wrd (x:Int) = (x:Int):=by unfold Sp.wrd;rw [Int.natAbs_natCast,if_pos k1]
    have w2:Sp.wrd (y:Int) = (y:Int):=by unfold Sp.wrd;rw [Int.natAbs_natCast,if_pos k2]
    rw [w1,w2]
    have f:=fits_mono (fits_self x) k1
    have:x < 1000000000000000000:=by unfold Sp.fits at f;simpa using f
    have f':=fits_mono (fits_self y) k2
    have:y < 1000000000000000000:=by unfold Sp.fits at f';simpa using f'
    exact gcdW y x y (Nat.le_refl _) (by omega) (by omega)
   ·rw [Int.natAbs_natCast,Int.natAbs_natCast]
    obtain ⟨d1,d2,d3,d4⟩:=dqn_fits h0 ⟨hx,hcy⟩
    exact ⟨d4,d3⟩
   ·rw [Int.natAbs_natCast,Int.natAbs_natCast,sg_false]
    have hlt:=Nat.mod_lt x (show 0 < y by omega)
    have hm:=cnt_mono (Nat.le_of_lt hlt)
    have:=ih y (x % y) (by omega) hcy (by omega)
    rwa [show Nat.gcd y (x % y) = Nat.gcd x y by rw [Nat.gcd_comm x y,Nat.gcd_rec y x,Nat.gcd_comm]] at this
   ·omega
theorem ev105 (fa fb:Bool) (a b:Int) (h:Sp.okB a /\ Sp.okB b):Ev M1 (.pure 105 [bigA fa a,bigA fb b]) (bigA false (Int.gcd a b:Nat)) []:=by
 refine call105 (vGCD _ _ _ _ _ ⟨okB_ok h.1,okB_ok h.2,?_⟩)
 rw [sg_false,sg_false]
 exact gcdH b.natAbs a.natAbs b.natAbs (Nat.le_refl _) h.1 h.2
end Go.Av

namespace Go.Av
open Go.Proofs
theorem ev129_b (fa:Bool) (a:Int) (h:Sp.okB a):Ev M1 (.pure 129 [bigA fa a,.agg [.bool false,.vec false 1 ((Sp.limI 2).map (.int .u32))]]) (.tup [bigA false (Sp.flo a 2),bigA false (Sp.flr a 2),.int .i64 0]) []:=
 ev129 fa false a 2 ⟨h,okB_small (by decide),by decide⟩
theorem limN_unit (k:Nat):Sp.limN (k + 1) (1000000000 ^ k) = List.replicate k 0 ++ [1]:=by
 induction k with
 | zero => rfl
 | succ k ih =>
  rw [limN_succ,Nat.pow_succ,Nat.mul_mod_left,Nat.mul_div_cancel _ (by omega),ih,List.replicate_succ];rfl
theorem ev108_c (s:Bool) (k:Nat) (h:Sp.short (k + 1)):Ev M1 (.pure 108 [.bool s,.vec false 1 ((List.replicate k (0:Int) ++ [1]).map (.int .u32))]) (bigA false (Sp.sg s (1000000000 ^ k))) []:=by
 rw [<- limN_unit]
 refine signedN s false (k + 1) _ ⟨h,?_⟩
 unfold Sp.fits
 exact Nat.pow_lt_pow_right (by omega) (by omega)
end Go.Av

namespace Go.Av
open Go.Proofs
set_option maxRecDepth 100000
def fi117:Fi:=⟨54,[.cell 2 34,.tmp 3]⟩
def kp117:List (Nat × List Nat):=[(0,[1,2]),(1,[1,2,14]),(2,[2,3]),(3,[1,2,19]),(4,[2,3]),(5,[1,2,4]),(6,[1,2,5]),(7,[1,2,5,6]),(8,[1,2,5,6,7]),(9,[1,2,5,6,10]),(10,[1,2,5,6,10,51]),(11,[2,3]),(12,[1,2,5,6])]
def vSqrt_at (fa:Bool) (a:Int) (Q:AV -> Heap -> Prop):Prop:=Wp M1 (.run fi117 (atC (cd Tryz.f117) []) [(0,bigA fa a)] []) Q
def vSqrtH_at (fa:Bool) (a x:Int) (Q:AV -> Heap -> Prop):Prop:=Wp M1 (.run fi117 (atC (cd Tryz.f117) [1,1,1,1,1,1,0,0]) [(1,.ptr 0 0 0 0),(2,.ptr 1 0 0 0),(5,.ptr 2 0 0 0),(6,.ptr 3 0 0 0)] [⟨[bigA fa a],2,0,false,false⟩,⟨[.agg [.bool false,.vnil]],2,0,false,false⟩,⟨[bigA false x],2,0,false,false⟩,⟨[.agg [.bool false,.vec false 1 ((Sp.limI 2).map (.int .u32))]],2,0,false,false⟩]) Q
theorem call117 {args:List AV} {d:AV} (h:wc M1 fi117 Tryz.f117 args d):Ev M1 (.pure 117 args) d []:=pcl _ _ (by kernel_rfl) h
noncomputable abbrev zNvH1:=ag [vb false,vf (us (Sp.limI 2))]
noncomputable abbrev zNvH2 (a:Int):=Sp.sg false (1000000000 ^ (((↑(Sp.limI a).length:Int) + 1).tdiv 2).toNat)
theorem vSqrt (fa:Bool) (a:Int)  (dq:AV) (H :
  ((Sp.isNeg a = true) -> Weak (tu [ag [vb false,AV.vnil],vi 7]) dq) /\
  (¬(Sp.isNeg a = true) -> (((↑(Sp.limI a).length:Int) = 0) -> Weak (tu [ag [vb false,AV.vnil],vi 0]) dq) /\
   (¬((↑(Sp.limI a).length:Int) = 0) -> (-9223372036854775808 <= (↑(Sp.limI a).length:Int) + 1 /\ (↑(Sp.limI a).length:Int) + 1 <= 9223372036854775807) /\
    (-9223372036854775808 <= ((↑(Sp.limI a).length:Int) + 1).tdiv 2 /\ ((↑(Sp.limI a).length:Int) + 1).tdiv 2 <= 9223372036854775807) /\
    (Sp.short ((((↑(Sp.limI a).length:Int) + 1).tdiv 2).toNat + 1)) /\
    (0 <= ((↑(Sp.limI a).length:Int) + 1).tdiv 2) /\
    (((↑(Sp.limI a).length:Int) + 1).tdiv 2 * 4 <= 1099511627776) /\
    (((↑(Sp.limI a).length:Int) + 1).tdiv 2 <= 1099511627776) /\
    (((List.replicate (((↑(Sp.limI a).length:Int) + 1).tdiv 2).toNat (0:Int)).length + 1) * 4 <= 1099511627776) /\
    (Sp.inI 2) /\
    vSqrtH_at (fa) (a) (Sp.sg false (1000000000 ^ (((↑(Sp.limI a).length:Int) + 1).tdiv 2).toNat)) (PureQ dq)))) :
 vSqrt_at fa a (PureQ dq):=by
 unfold vSqrt_at
 rcases xm (Sp.isNeg a = true) with d2 | d2
 ·have H:=H.1 d2
  exact path_rq (G:=given kp117 [] []) 1000 [true] (asm:=[0 == 0,(Sp.isNeg a) == true,true]) (tu [ag [vb false,AV.vnil],vi 7]) (by kernel_rfl) (bc (beq_self_eq_true _) (bc (beq_t ((i_var _).2 d2)) (bc rfl b0))) q0 c0 H
 ·have H:=H.2 d2
  have w3:(us (Sp.limI a)).length = (Sp.limI a).length:=List.length_map ..
  have i4:((↑(us (Sp.limI a)).length:Int) == 0) = true ↔ ((↑(Sp.limI a).length:Int) = 0):=(by (try rw [w3]);all_goals exact i_eq)
  rcases xm ((↑(Sp.limI a).length:Int) = 0) with d5 | d5
  ·have H:=H.1 d5
   exact path_rq (G:=given kp117 [] []) 1000 [false,true] (asm:=[0 == 0,(Sp.isNeg a) == false,true,((↑(us (Sp.limI a)).length:Int) == 0) == true,true]) (tu [ag [vb false,AV.vnil],vi 0]) (by kernel_rfl) (bc (beq_self_eq_true _) (bc (beq_f (fun h => d2 ((i_var _).1 h))) (bc rfl (bc (beq_t (i4.2 d5)) (bc rfl b0))))) q0 c0 H
  ·have H:=H.2 d5
   obtain ⟨k6,H⟩:=H
   have w7:wi ((↑(Sp.limI a).length:Int) + 1) = (↑(Sp.limI a).length:Int) + 1:=wI64 k6
   obtain ⟨k8,H⟩:=H
   have w9:wi (((↑(Sp.limI a).length:Int) + 1).tdiv 2) = ((↑(Sp.limI a).length:Int) + 1).tdiv 2:=wI64 k8
   have w10:List.replicate (((↑(Sp.limI a).length:Int) + 1).tdiv 2).toNat (vu 0) = us (List.replicate (((↑(Sp.limI a).length:Int) + 1).tdiv 2).toNat (0:Int)):=(lm_rep rfl)
   have w11:us (List.replicate (((↑(Sp.limI a).length:Int) + 1).tdiv 2).toNat (0:Int)) ++ [vu 1] = us (List.replicate (((↑(Sp.limI a).length:Int) + 1).tdiv 2).toNat (0:Int) ++ [1]):=(lm_app rfl rfl)
   obtain ⟨k12,H⟩:=H
   have i13:(decide (0 <= wi ((wi ((↑(us (Sp.limI a)).length:Int) + 1)).tdiv 2))) = true ↔ (0 <= ((↑(Sp.limI a).length:Int) + 1).tdiv 2):=(by (try rw [w3]);(try rw [w7]);(try rw [w9]);all_goals exact i_dec)
   obtain ⟨k14,H⟩:=H
   have i15:(decide (wi ((wi ((↑(us (Sp.limI a)).length:Int) + 1)).tdiv 2) <= wi ((wi ((↑(us (Sp.limI a)).length:Int) + 1)).tdiv 2))) = true ↔ (((↑(Sp.limI a).length:Int) + 1).tdiv 2 <= ((↑(Sp.limI a).length:Int) + 1).tdiv 2):=(by (try rw [w3]);(try rw [w7]);(try rw [w9]);all_goals exact i_dec)
   have i16:(decide (wi ((wi ((↑(us (Sp.limI a)).length:Int) + 1)).tdiv 2) * 4 <= 1099511627776)) = true ↔ (((↑(Sp.limI a).length:Int) + 1).tdiv 2 * 4 <= 1099511627776):=(by (try rw [w3]);(try rw [w7]);(try rw [w9]);all_goals exact i_dec)
   obtain ⟨k17,H⟩:=H
   have i18:(decide (wi ((wi ((↑(us (Sp.limI a)).length:Int) + 1)).tdiv 2) <= 1099511627776)) = true ↔ (((↑(Sp.limI a).length:Int) + 1).tdiv 2 <= 1099511627776):=(by (try rw [w3]);(try rw [w7]);(try rw [w9]);all_goals exact i_dec)
   obtain ⟨k19,H⟩:=H
   have w20:(us (List.replicate (((↑(Sp.limI a).length:Int) + 1).tdiv 2).toNat (0:Int))).length = (List.replicate (((↑(Sp.limI a).length:Int) + 1).tdiv 2).toNat (0:Int)).length:=List.length_map ..
   have i21:(decide (((List.replicate (wi ((wi ((↑(us (Sp.limI a)).length:Int) + 1)).tdiv 2)).toNat (vu 0)).length + 1) * 4 <= 1099511627776)) = true ↔ (((List.replicate (((↑(Sp.limI a).length:Int) + 1).tdiv 2).toNat (0:Int)).length + 1) * 4 <= 1099511627776):=(by (try rw [w3]);(try rw [w7]);(try rw [w9]);(try rw [w10]);(try rw [w20]);all_goals exact i_dec)
   obtain ⟨k22,H⟩:=H
   obtain ⟨k23,H⟩:=H
   exact path_wp (G:=given kp117 [(6,4,.call (bigA false (zNvH2 a)) none),(7,0,.call (zNvH1) none)] []) 1000 [false,false] ⟨(atC (cd Tryz.f117) [1,1,1,1,1,1,0,0]),[(1,AV.ptr 0 0 0 0),(2,AV.ptr 1 0 0 0),(5,AV.ptr 3 0 0 0),(6,AV.ptr 4 0 0 0)],[⟨[bigA fa a],2,0,false,false⟩,⟨[ag [vb false,AV.vnil]],2,0,false,false⟩,⟨List.replicate (wi ((wi ((↑(us (Sp.limI a)).length:Int) + 1)).tdiv 2)).toNat (vu 0) ++ [vu 1],1,1,true,true⟩,⟨[bigA false (zNvH2 a)],2,0,false,false⟩,⟨[zNvH1],2,0,false,false⟩],[0 == 0,(Sp.isNeg a) == false,true,((↑(us (Sp.limI a)).length:Int) == 0) == false,true,true,decide (0 <= wi ((wi ((↑(us (Sp.limI a)).length:Int) + 1)).tdiv 2)),decide (wi ((wi ((↑(us (Sp.limI a)).length:Int) + 1)).tdiv 2) <= wi ((wi ((↑(us (Sp.limI a)).length:Int) + 1)).tdiv 2)),decide (wi ((wi ((↑(us (Sp.limI a)).length:Int) + 1)).tdiv 2) * 4 <= 1099511627776),decide (wi ((wi ((↑(us (Sp.limI a)).length:Int) + 1)).tdiv 2) <= 1099511627776),true,decide (((List.replicate (wi ((wi ((↑(us (Sp.limI a)).length:Int) + 1)).tdiv 2)).toNat (vu 0)).length + 1) * 4 <= 1099511627776),true,true,true],[],[pc 108 [vb false,vf (List.replicate (wi ((wi ((↑(us (Sp.limI a)).length:Int) + 1)).tdiv 2)).toNat (vu 0) ++ [vu 1])] (bigA false (zNvH2 a)),pc 72 [vi 2] (zNvH1)]⟩ (by kernel_rfl) (bc (beq_self_eq_true _) (bc (beq_f (fun h => d2 ((i_var _).1 h))) (bc rfl (bc (beq_f (fun h => d5 (i4.1 h))) (bc rfl (bc rfl (bc (i13.2 k14) (bc (i15.2 (by omega)) (bc (i16.2 k17) (bc (i18.2 k19) (bc rfl (bc (i21.2 k22) (bc rfl (bc rfl (bc rfl b0))))))))))))))) q0 (ce (by (try rw [w3]);(try rw [w7]);(try rw [w9]);(try rw [w10]);(try rw [w11]);all_goals exact (@ev108_c (false) ((((↑(Sp.limI a).length:Int) + 1).tdiv 2).toNat) k12)) (ce (@ev72 (2) k23) c0)) (by (try rw [w3]);(try rw [w7]);(try rw [w9]);(try rw [w10]);(try rw [w11]);all_goals exact wp_narrow [0,1,3,4] (by kernel_rfl) H)
noncomputable abbrev zNvH3:=ag [vb false,vf (us (Sp.limI 2))]
theorem vSqrtH (fa:Bool) (a x:Int)  (dq:AV) (H :
  (Sp.okB a /\ Sp.okB x /\ x ≠ 0) /\
  (Sp.okB x /\ Sp.okB (Sp.flo a x)) /\
  (Sp.okB (x + Sp.flo a x)) /\
  (Sp.okB (Sp.flo (x + Sp.flo a x) 2) /\ Sp.okB x) /\
  ((Sp.sgnI (Sp.flo (x + Sp.flo a x) 2 - x) >= 0) -> Weak (tu [bigA false x,vi 0]) dq) /\
  (¬(Sp.sgnI (Sp.flo (x + Sp.flo a x) 2 - x) >= 0) -> vSqrtH_at (fa) (a) (Sp.flo (x + Sp.flo a x) 2) (PureQ dq))) :
 vSqrtH_at fa a x (PureQ dq):=by
 unfold vSqrtH_at
 obtain ⟨k1,H⟩:=H
 obtain ⟨k2,H⟩:=H
 obtain ⟨k3,H⟩:=H
 refine path_wp (G:=given kp117 [(8,2,.call (tu [bigA false (Sp.flo a x),bigA false (Sp.flr a x),vi 0]) none),(9,2,.call (bigA false (x + Sp.flo a x)) none),(9,4,.call (tu [bigA false (Sp.flo (x + Sp.flo a x) 2),bigA false (Sp.flr (x + Sp.flo a x) 2),vi 0]) none)] []) 4 [] ⟨(atC (cd Tryz.f117) [1,1,1,1,1,1,0,0,0,1,0]),[(1,AV.ptr 0 0 0 0),(2,AV.ptr 1 0 0 0),(5,AV.ptr 2 0 0 0),(6,AV.ptr 3 0 0 0),(7,AV.ptr 4 0 0 0)],[⟨[bigA fa a],2,0,false,false⟩,⟨[ag [vb false,AV.vnil]],2,0,false,false⟩,⟨[bigA false x],2,0,false,false⟩,⟨[zNvH3],2,0,false,false⟩,⟨[bigA false (Sp.flo a x)],2,0,false,false⟩,⟨[bigA false (Sp.flr a x)],2,0,false,false⟩],_,[],_⟩ (by kernel_rfl) (bc rfl (bc rfl (bc rfl (bc rfl b0)))) q0 (ce (@ev129 (fa) (false) (a) (x) k1) c0) (wp_both (G:=given kp117 [(8,2,.call (tu [bigA false (Sp.flo a x),bigA false (Sp.flr a x),vi 0]) none),(9,2,.call (bigA false (x + Sp.flo a x)) none),(9,4,.call (tu [bigA false (Sp.flo (x + Sp.flo a x) 2),bigA false (Sp.flr (x + Sp.flo a x) 2),vi 0]) none)] []) [0,1,2,3,4,5,7,6] 9 (e1:=[(1,AV.ptr 0 0 0 0),(2,AV.ptr 1 0 0 0),(5,AV.ptr 2 0 0 0),(6,AV.ptr 3 0 0 0),(10,AV.ptr 6 0 0 0)]) (L1:=[⟨[bigA fa a],2,0,false,false⟩,⟨[ag [vb false,AV.vnil]],2,0,false,false⟩,⟨[bigA false x],2,0,false,false⟩,⟨[zNvH3],2,0,false,false⟩,⟨[bigA false (Sp.flo a x)],2,0,false,false⟩,⟨[bigA false (Sp.flr a x)],2,0,false,false⟩,⟨[bigA false (Sp.flo (x + Sp.flo a x) 2)],2,0,false,false⟩,⟨[bigA false (Sp.flr (x + Sp.flo a x) 2)],2,0,false,false⟩]) (a:=[true,true,true,true,true]) (q:=[]) (cs:=[⟨true,false,78,[bigA false x,bigA false (Sp.flo a x)],[],bigA false (x + Sp.flo a x),[]⟩,⟨true,false,129,[bigA false (x + Sp.flo a x),zNvH3],[],tu [bigA false (Sp.flo (x + Sp.flo a x) 2),bigA false (Sp.flr (x + Sp.flo a x) 2),vi 0],[]⟩]) (by kernel_rfl) (by kernel_rfl) (allB_cons rfl (allB_cons rfl (allB_cons rfl (allB_cons rfl (allB_cons rfl allB_nil))))) allP_nil (allC_cons (fun _ => (@ev78 (false) (false) (x) (Sp.flo a x) k2)) (allC_cons (fun _ => (@ev129_b (false) (x + Sp.flo a x) k3)) allC_nil)) ?_)
 obtain ⟨k4,H⟩:=H
 refine path_wp (G:=given kp117 [(10,2,.call (vi (Sp.sgnI (Sp.flo (x + Sp.flo a x) 2 - x))) none)] []) 3 [] ⟨(atC (cd Tryz.f117) [1,1,1,1,1,1,0,0,0,1,1,0,1]),[(1,AV.ptr 0 0 0 0),(2,AV.ptr 1 0 0 0),(5,AV.ptr 2 0 0 0),(6,AV.ptr 3 0 0 0),(10,AV.ptr 6 0 0 0),(51,vb (decide (Sp.sgnI (Sp.flo (x + Sp.flo a x) 2 - x) >= 0)))],[⟨[bigA fa a],2,0,false,false⟩,⟨[ag [vb false,AV.vnil]],2,0,false,false⟩,⟨[bigA false x],2,0,false,false⟩,⟨[zNvH3],2,0,false,false⟩,⟨[bigA false (Sp.flo a x)],2,0,false,false⟩,⟨[bigA false (Sp.flr a x)],2,0,false,false⟩,⟨[bigA false (Sp.flo (x + Sp.flo a x) 2)],2,0,false,false⟩,⟨[bigA false (Sp.flr (x + Sp.flo a x) 2)],2,0,false,false⟩],_,[],_⟩ (by kernel_rfl) (bc rfl (bc rfl b0)) q0 (ce (@ev76 (false) (false) (Sp.flo (x + Sp.flo a x) 2) (x) k4) c0) ?_
 rcases xm (Sp.sgnI (Sp.flo (x + Sp.flo a x) 2 - x) >= 0) with d6 | d6
 ·have H:=H.1 d6
  exact path_rq (G:=given kp117 [] []) 1000 [true] (tu [bigA false x,vi 0]) (by kernel_rfl) (bc (beq_t (i_dec.2 d6)) (bc rfl (bc rfl b0))) q0 c0 H
 ·have H:=H.2 d6
  exact path_wp (G:=given kp117 [] []) 1000 [false] ⟨(atC (cd Tryz.f117) [1,1,1,1,1,1,0,0]),[(1,AV.ptr 0 0 0 0),(2,AV.ptr 1 0 0 0),(5,AV.ptr 2 0 0 0),(6,AV.ptr 3 0 0 0)],[⟨[bigA fa a],2,0,false,false⟩,⟨[ag [vb false,AV.vnil]],2,0,false,false⟩,⟨[bigA false (Sp.flo (x + Sp.flo a x) 2)],2,0,false,false⟩,⟨[zNvH3],2,0,false,false⟩,⟨[bigA false (Sp.flo a x)],2,0,false,false⟩,⟨[bigA false (Sp.flr a x)],2,0,false,false⟩,⟨[bigA false (Sp.flo (x + Sp.flo a x) 2)],2,0,false,false⟩,⟨[bigA false (Sp.flr (x + Sp.flo a x) 2)],2,0,false,false⟩],_,[],_⟩ (by kernel_rfl) (bc (beq_f (fun h => d6 (i_dec.1 h))) (bc rfl (bc rfl b0))) q0 c0 (wp_narrow [0,1,2,3] (by kernel_rfl) H)
end Go.Av

namespace Go.Av
open Go.Proofs
namespace Sp
def okS (v:Int):Prop:=cnt v.natAbs <= 300000
noncomputable def sq (v:Int):Int:=if v < 0 then 0 else (isqrt v.natAbs:Int)
def sqe (v:Int):Int:=if v < 0 then 7 else 0
end Sp
theorem flo_nat {a x:Nat} (h:0 < x):Sp.flo (a:Int) (x:Int) = ((a / x:Nat):Int):=by
 unfold Sp.flo
 rw [if_pos (by omega)];rfl
theorem flo_two (v:Nat):Sp.flo (v:Int) 2 = ((v / 2:Nat):Int):=flo_nat (x:=2) (by omega)
theorem okB_fits {n v:Nat} (h:Sp.fits n v) (hn:n <= 400000):Sp.okB (v:Int):=by
 have:=fits_cnt.1 h
 unfold Sp.okB;rw [Int.natAbs_natCast];omega
theorem fits_pow {k n:Nat} (h:k < n):Sp.fits n (1000000000 ^ k):=Nat.pow_lt_pow_right (by omega) h
theorem sqrtH (fa:Bool) (a:Nat) (ha:Sp.cnt a <= 300000) (h0:a ≠ 0) (n:Nat):∀ x:Nat,x <= n -> 0 < x -> a < (x + 1) * (x + 1) -> Sp.fits 300001 x ->
  vSqrtH_at fa a x (PureQ (.tup [bigA false (Sp.isqrt a:Nat),.int .i64 0])):=by
 induction n with
 | zero => intro x h1 h2;omega
 | succ n ih =>
  intro x h1 h2 h3 h4
  have hfa:Sp.fits 300001 a:=fits_mono (fits_self a) (by omega)
  have hfq:Sp.fits 300001 (a / x):=fits_le hfa (Nat.div_le_self _ _)
  have hfs:Sp.fits 300002 (x + a / x):=fits_sum h4 hfq
  have hfy:Sp.fits 300002 ((x + a / x) / 2):=fits_le hfs (Nat.div_le_self _ _)
  have e2:(x:Int) + ((a / x:Nat):Int) = ((x + a / x:Nat):Int):=by omega
  refine vSqrtH fa _ _ _ ?_
  rw [flo_nat h2,e2,flo_two]
  refine ⟨⟨okB_fits hfa (by omega),okB_fits h4 (by omega),by omega⟩,⟨okB_fits h4 (by omega),okB_fits hfq (by omega)⟩,okB_fits hfs (by omega),⟨okB_fits hfy (by omega),okB_fits h4 (by omega)⟩,fun k => ?_,fun k => ?_⟩
  ·have k:¬(Sp.sgnI (((x + a / x) / 2:Nat) - (x:Int)) < 0):=by omega
   rw [sgnI_lt] at k
   rw [newton_done h2 h3 (by omega)]
   exact .refl _
  ·have k:Sp.sgnI (((x + a / x) / 2:Nat) - (x:Int)) < 0:=by omega
   rw [sgnI_lt] at k
   have hn:=newton_above (a:=a) h2
   refine ih _ (by omega) ?_ hn (fits_le h4 (by omega))
   apply Nat.pos_of_ne_zero
   intro e
   rw [e] at hn
   omega
theorem ev117 (fa:Bool) (v:Int) (h:Sp.okS v):Ev M1 (.pure 117 [bigA fa v]) (.tup [bigA false (Sp.sq v),.int .i64 (Sp.sqe v)]) []:=by
 have hl:=limI_len v
 have e1:Sp.limI (0:Int) = []:=lim_zero
 have e2:Sp.isNeg (0:Int) = false:=rfl
 have w0:∀ e:Int,Weak (.tup [.agg [.bool false,.vnil],.int .i64 e]) (.tup [bigA false 0,.int .i64 e]):=by
  intro e
  show Weak _ (.tup [.agg [.bool (Sp.isNeg 0),.vec false 1 ((Sp.limI 0).map (.int .u32))],.int .i64 e])
  rw [e1,e2]
  exact weak_two (weak_bnil false) (.refl _)
 unfold Sp.okS at h
 by_cases hneg:v < 0
 ·unfold Sp.sq Sp.sqe
  rw [if_pos hneg,if_pos hneg]
  exact call117 (vSqrt _ _ _ ⟨fun _ => w0 7,fun k => absurd (isNeg_iff.2 hneg) k⟩)
 ·unfold Sp.sq Sp.sqe
  rw [if_neg hneg,if_neg hneg]
  refine call117 (vSqrt _ _ _ ⟨fun k => absurd (isNeg_iff.1 k) hneg,fun _ => ⟨fun k => ?_,fun k => ?_⟩⟩)
  ·have hz:v.natAbs = 0:=cnt_eq_zero.1 (by omega)
   have:Sp.isqrt v.natAbs = 0:=by rw [hz];exact isqrt_eq ⟨by omega,by omega⟩
   rw [this];exact w0 0
  ·have hz:Sp.cnt v.natAbs ≠ 0:=by omega
   have hz':v.natAbs ≠ 0:=fun e => hz (by rw [e];exact cnt_zero)
   have ek:(((Sp.limI v).length:Int) + 1).tdiv 2 = (((Sp.cnt v.natAbs + 1) / 2:Nat):Int):=by
    rw [hl]
    have:((Sp.cnt v.natAbs:Nat):Int) + 1 = ((Sp.cnt v.natAbs + 1:Nat):Int):=by omega
    rw [this]
    exact (Int.ofNat_tdiv (Sp.cnt v.natAbs + 1) 2).symm
   rw [ek,Int.toNat_natCast,sg_false,List.length_replicate]
   generalize hk:(Sp.cnt v.natAbs + 1) / 2 = k
   refine ⟨by omega,by omega,by unfold Sp.short;omega,by omega,by omega,by omega,by omega,by unfold Sp.inI;omega,?_⟩
   have hv:((v.natAbs:Nat):Int) = v:=by omega
   have:=sqrtH fa v.natAbs h hz' (1000000000 ^ k) (1000000000 ^ k) (Nat.le_refl _) (Nat.pow_pos (by omega)) ?_ ?_
   ·rwa [hv] at this
   ·have h1:=fits_self v.natAbs
    unfold Sp.fits at h1
    have h2:1000000000 ^ Sp.cnt v.natAbs <= 1000000000 ^ (k + k):=Nat.pow_le_pow_right (by omega) (by omega)
    rw [Nat.pow_add] at h2
    have h3:=Nat.mul_le_mul (Nat.le_succ (1000000000 ^ k)) (Nat.le_succ (1000000000 ^ k))
    exact Nat.lt_of_lt_of_le h1 (Nat.le_trans h2 h3)
   ·exact fits_pow (by omega)
end Go.Av

namespace Go.Av
open Go.Proofs
namespace Sp
noncomputable def af (k s:Int):Int:=Sp.sq (s * s + k)
end Sp
theorem sq_low {Y:Int} (h:0 <= Y):Sp.sq Y * Sp.sq Y <= Y /\ Y < (Sp.sq Y + 1) * (Sp.sq Y + 1) /\ 0 <= Sp.sq Y:=by
 obtain ⟨h1,h2⟩:=isqrt_spec Y.natAbs
 unfold Sp.sq
 rw [if_neg (by omega)]
 have e:((Y.natAbs:Nat):Int) = Y:=by omega
 generalize Sp.isqrt Y.natAbs = w at *
 refine ⟨?_,?_,by omega⟩
 ·have:((w * w:Nat):Int) <= ((Y.natAbs:Nat):Int):=by omega
  rw [e,Int.natCast_mul] at this;exact this
 ·have:((Y.natAbs:Nat):Int) < (((w + 1) * (w + 1):Nat):Int):=by omega
  rw [e,Int.natCast_mul] at this;exact this
theorem sq_le_sq {a b:Int} (h:0 <= a) (h2:a <= b):a * a <= b * b:=Int.mul_le_mul h2 h2 h (by omega)
theorem sq_ge {a Y:Int} (ha:0 <= a) (hY:0 <= Y):a <= Sp.sq Y ↔ a * a <= Y:=by
 obtain ⟨h1,h2,h3⟩:=sq_low hY
 constructor
 ·intro h
  have:=sq_le_sq ha h
  omega
 ·intro h
  apply Classical.byContradiction
  intro n
  have:=sq_le_sq (a:=Sp.sq Y + 1) (b:=a) (by omega) (by omega)
  omega
theorem sq_mono {a b:Int} (ha:0 <= a) (h:a <= b):Sp.sq a <= Sp.sq b:=by
 obtain ⟨h1,h2,h3⟩:=sq_low ha
 exact (sq_ge h3 (by omega)).2 (by omega)
theorem sq_unique {r Y:Int} (h0:0 <= r) (h1:r * r <= Y) (h2:Y < (r + 1) * (r + 1)):r = Sp.sq Y:=by
 have hY:0 <= Y:=by have:=Int.mul_nonneg h0 h0;omega
 have a:=(sq_ge h0 hY).2 h1
 apply Classical.byContradiction
 intro n
 have b:=(sq_ge (a:=r + 1) (by omega) hY).1 (by omega)
 omega
theorem nn_sq (a:Int):0 <= a * a:=by
 rcases Int.le_total 0 a with h | h
 ·exact Int.mul_nonneg h h
 ·have:=Int.mul_nonneg (a:=-a) (b:=-a) (by omega) (by omega)
  rwa [Int.neg_mul_neg] at this
theorem af_nn {k s:Int} (h:0 <= k):0 <= Sp.af k s:=(sq_low (by have:=nn_sq s;omega)).2.2
theorem af_mono {k a b:Int} (hk:0 <= k) (ha:0 <= a) (h:a <= b):Sp.af k a <= Sp.af k b:=
 sq_mono (by have:=nn_sq a;omega) (by have:=sq_le_sq ha h;omega)
theorem af_ge {k s:Int} (hk:0 <= k) (h:0 <= s):s <= Sp.af k s:=(sq_ge h (by have:=nn_sq s;omega)).2 (by omega)
def Sp.Feas (n:Nat) (K c t:Nat -> Int):Prop:=(∀ i,i <= n -> 0 <= t i /\ t i <= c i) /\ ∀ i,i < n -> t i <= Sp.af (K i) (t (i + 1)) /\ t (i + 1) <= Sp.af (K i) (t i)
def Sp.Top (n:Nat) (K c g:Nat -> Int):Prop:=Sp.Feas n K c g /\ ∀ t,Sp.Feas n K c t -> ∀ i,i <= n -> t i <= g i
theorem prog_top {n:Nat} {K c f g:Nat -> Int} (hc:∀ i,i <= n -> 0 <= c i) (hK:∀ i,i < n -> 0 <= K i) (c0:c 0 = 0) (cn:c n = 0) (f0:f 0 = 0)
  (hf:∀ i,1 <= i -> i < n -> f i = min (c i) (Sp.af (K (i - 1)) (f (i - 1)))) (g0:g 0 = 0) (gn:g n = 0)
  (hg:∀ i,1 <= i -> i < n -> g i = min (f i) (Sp.af (K i) (g (i + 1)))):Sp.Top n K c g:=by
 have fp:∀ i,i < n -> 0 <= f i /\ f i <= c i:=by
  intro i
  induction i with
  | zero => intro h;rw [f0,c0];omega
  | succ i ih =>
   intro h
   have a:=ih (by omega)
   have b:=hf (i + 1) (by omega) h
   have c':=hc (i + 1) (by omega)
   have d:=@af_nn (K i) (f i) (hK i (by omega))
   rw [Nat.add_sub_cancel] at b
   omega
 have gp:∀ d i,i + d = n -> 0 <= g i:=by
  intro d
  induction d with
  | zero => intro i h;rw [show i = n by omega,gn];omega
  | succ d ih =>
   intro i h
   by_cases hi:i = 0
   ·rw [hi,g0];omega
   have a:=ih (i + 1) (by omega)
   have b:=hg i (by omega) (by omega)
   have c':=fp i (by omega)
   have d':=@af_nn (K i) (g (i + 1)) (hK i (by omega))
   omega
 have gp':∀ i,i <= n -> 0 <= g i:=fun i h => gp (n - i) i (by omega)
 have gf:∀ i,i < n -> g i <= f i:=by
  intro i h
  by_cases hi:i = 0
  ·rw [hi,g0,f0];omega
  have b:=hg i (by omega) h
  omega
 have up:∀ i,i < n -> g (i + 1) <= Sp.af (K i) (g i):=by
  intro i h
  have k0:=hK i h
  by_cases hn:i + 1 = n
  ·rw [hn,gn];exact af_nn k0
  have a1:=gf (i + 1) (by omega)
  have a2:=hf (i + 1) (by omega) (by omega)
  rw [Nat.add_sub_cancel] at a2
  by_cases hi:i = 0
  ·subst hi
   rw [g0];rw [f0] at a2;omega
  have b:=hg i (by omega) h
  by_cases hb:f i <= Sp.af (K i) (g (i + 1))
  ·rw [show g i = f i by omega];omega
  ·have e:g i = Sp.af (K i) (g (i + 1)):=by omega
   have x:=af_ge k0 (gp' (i + 1) (by omega))
   have y:=af_ge k0 (gp' i (by omega))
   omega
 have dn:∀ i,i < n -> g i <= Sp.af (K i) (g (i + 1)):=by
  intro i h
  by_cases hi:i = 0
  ·rw [hi,g0];exact af_nn (hK 0 (by omega))
  have b:=hg i (by omega) h
  omega
 refine ⟨⟨fun i h => ⟨gp' i h,?_⟩,fun i h => ⟨dn i h,up i h⟩⟩,?_⟩
 ·by_cases hn:i = n
  ·rw [hn,gn,cn];omega
  have a:=gf i (by omega)
  have b:=fp i (by omega)
  omega
 ·intro t ht
  have tf:∀ i,i < n -> t i <= f i:=by
   intro i
   induction i with
   | zero => intro h;have:=ht.1 0 (by omega);rw [f0];omega
   | succ i ih =>
    intro h
    have a:=ih (by omega)
    have b:=hf (i + 1) (by omega) h
    rw [Nat.add_sub_cancel] at b
    have c':=(ht.2 i (by omega)).2
    have d:=af_mono (hK i (by omega)) (ht.1 i (by omega)).1 a
    have e:=(ht.1 (i + 1) (by omega)).2
    omega
  have tg:∀ d i,i + d = n -> t i <= g i:=by
   intro d
   induction d with
   | zero => intro i h;have:=ht.1 i (by omega);rw [show i = n by omega] at *;rw [gn];omega
   | succ d ih =>
    intro i h
    by_cases hi:i = 0
    ·have:=ht.1 0 (by omega);rw [hi,g0];omega
    have a:=ih (i + 1) (by omega)
    have b:=hg i (by omega) (by omega)
    have c':=(ht.2 i (by omega)).1
    have d':=af_mono (hK i (by omega)) (ht.1 (i + 1) (by omega)).1 a
    have e:=tf i (by omega)
    omega
  exact fun i h => tg (n - i) i (by omega)
end Go.Av

namespace Go.Av
open Go.Proofs
namespace Sp
def isV (n:Int):Prop:=0 <= n /\ n <= 1000000
def isLen (n:Int):Prop:=0 <= n /\ n <= 100000000
def isAcc (n:Int):Prop:=1 <= n /\ n <= 100000000
def okPt (p:Pt):Prop:=isLen p.len /\ (1 <= p.spd /\ p.spd <= 1000000) /\ isV p.cor
def okPts (l:List Pt) (a:Int):Prop:=isAcc a /\ ∀ p ∈ l,okPt p
def cap (l:List Pt) (i:Nat):Int:=if i = 0 \/ l.length <= i then 0 else min (min (l.getD (i - 1) default).spd (l.getD (i - 1) default).cor) (l.getD i default).spd
def kA (l:List Pt) (a:Int) (i:Nat):Int:=2 * a * (l.getD i default).len
noncomputable def spF (l:List Pt) (a:Int):Nat -> Int
 | 0 => 0
 | i + 1 => min (cap l (i + 1)) (af (kA l a i) (spF l a i))
noncomputable def spG (l:List Pt) (a:Int):Nat -> Int
 | 0 => 0
 | d + 1 => if l.length = d + 1 then 0 else min (spF l a (l.length - (d + 1))) (af (kA l a (l.length - (d + 1))) (spG l a d))
noncomputable def spAt (l:List Pt) (a:Int) (i:Nat):Int:=spG l a (l.length - i)
noncomputable def spds (l:List Pt) (a:Int):List Int:=(List.range (l.length + 1)).map (spAt l a)
end Sp
theorem rm_of (o:List Int):o = (List.range o.length).map fun j => o.getD j default:=by
 refine List.ext_getElem (by simp) fun j h1 h2 => ?_
 simp [List.getD_eq_getElem?_getD,h1]
theorem rm_congr {m:Nat} {F G:Nat -> Int} (h:∀ i,i < m -> F i = G i):(List.range m).map F = (List.range m).map G:=
 List.map_congr_left fun i hi => h i (List.mem_range.1 hi)
section
variable {l:List Pt} {a:Int} (h:Sp.okPts l a)
include h
theorem pt_at {i:Nat} (hi:i < l.length):Sp.okPt (l.getD i default):=h.2 _ (getD_mem hi)
theorem kA_nn:∀ i,i < l.length -> 0 <= Sp.kA l a i /\ Sp.kA l a i <= 20000000000000000:=by
 intro i hi
 obtain ⟨⟨a1,a2⟩,_,_⟩:=pt_at h hi
 have h1:=h.1.1
 have h2:=h.1.2
 unfold Sp.kA
 have e1:0 <= 2 * a * (l.getD i default).len:=Int.mul_nonneg (by omega) a1
 have e2:2 * a * (l.getD i default).len <= 200000000 * 100000000:=Int.mul_le_mul (by omega) a2 a1 (by omega)
 omega
theorem cap_nn (i:Nat):0 <= Sp.cap l i /\ Sp.cap l i <= 1000000:=by
 unfold Sp.cap
 split
 ·omega
 ·obtain ⟨_,a2,a3⟩:=pt_at h (i:=i - 1) (by omega)
  obtain ⟨_,b2,_⟩:=pt_at h (i:=i) (by omega)
  unfold Sp.isV at a3
  omega
theorem spd_top:Sp.Top l.length (Sp.kA l a) (Sp.cap l) (Sp.spAt l a):=by
 have g0:Sp.spAt l a 0 = 0:=by
  unfold Sp.spAt
  rw [Nat.sub_zero]
  rcases e:l.length with _ | d
  ·rfl
  ·rw [Sp.spG,if_pos e]
 refine prog_top (f:=Sp.spF l a) (fun i _ => (cap_nn h i).1) (fun i hi => (kA_nn h i hi).1) (if_pos (.inl rfl)) (if_pos (.inr (Nat.le_refl _))) rfl ?_ g0 ?_ ?_
 ·intro i h1 h2
  obtain ⟨j,rfl⟩:∃ j,i = j + 1:=⟨i - 1,by omega⟩
  rw [Nat.add_sub_cancel];rfl
 ·unfold Sp.spAt
  rw [Nat.sub_self];rfl
 ·intro i h1 h2
  obtain ⟨d,hd⟩:∃ d,l.length - i = d + 1:=⟨l.length - i - 1,by omega⟩
  unfold Sp.spAt
  rw [hd,Sp.spG,if_neg (by omega),show l.length - (d + 1) = i by omega,show l.length - (i + 1) = d by omega]
theorem spAt_le {i:Nat} (hi:i <= l.length):0 <= Sp.spAt l a i /\ Sp.spAt l a i <= 1000000:=by
 have e:=(spd_top h).1.1 i hi
 have f:=cap_nn h i
 omega
end
theorem getD_set' {o:List Int} {i j:Nat} {x:Int} (hi:i < o.length):(o.set i x).getD j default = if i = j then x else o.getD j default:=by
 by_cases e:i = j
 ·subst e;simp [List.getD_eq_getElem?_getD,hi]
 ·simp [List.getD_eq_getElem?_getD,e,List.getElem?_set_ne]
namespace Sp
end Sp
end Go.Av

namespace Go.Av
open Go.Proofs
instance (n:Int):Decidable (Sp.isV n):=by unfold Sp.isV;infer_instance
instance (n:Int):Decidable (Sp.isLen n):=by unfold Sp.isLen;infer_instance
instance (n:Int):Decidable (Sp.isAcc n):=by unfold Sp.isAcc;infer_instance
namespace Sp
def inM (n:Int):Prop:=-10000000 <= n /\ n <= 10000000
def inP (x y z:Int):Prop:=inM x /\ inM y /\ inM z
def inQ (n:Int):Prop:=-20000000 <= n /\ n <= 20000000
def sqr (x y z:Int):Int:=x * x + y * y + z * z
def okNs (n:Int):Prop:=0 <= n /\ n <= 2000000000000000000
end Sp
instance (n:Int):Decidable (Sp.inM n):=by unfold Sp.inM;infer_instance
instance (x y z:Int):Decidable (Sp.inP x y z):=by unfold Sp.inP;infer_instance
theorem bif_dec {p q:Prop} [Decidable p] [Decidable q]:(bif decide p then decide q else false) = decide (p /\ q):=by
 by_cases h:p
 ·by_cases k:q
  ·rw [decide_eq_true h,decide_eq_true k,decide_eq_true ⟨h,k⟩];rfl
  ·rw [decide_eq_true h,decide_eq_false k,decide_eq_false (show ¬(p /\ q) from fun x => k x.2)];rfl
 ·rw [decide_eq_false h,decide_eq_false (show ¬(p /\ q) from fun x => h x.1)];rfl
theorem dec_iff {p q:Prop} [Decidable p] [Decidable q] (h:p ↔ q):decide p = decide q:=by
 by_cases k:q
 ·rw [decide_eq_true k,decide_eq_true (h.2 k)]
 ·rw [decide_eq_false k,decide_eq_false fun x => k (h.1 x)]
theorem ev25 (n u v:Int):Ev M1 (.pure 25 [.int .i64 n,.int .i64 u,.int .i64 v]) (.bool (decide (u <= n /\ n <= v))) []:=
 call25 (kWithin _ _ _ _ (by rw [bif_dec]))
theorem ev40 (n:Int):Ev M1 (.pure 40 [.int .i64 n]) (.bool (decide (Sp.isAcc n))) []:=
 call40 (kAccel _ _ (by rw [bif_dec];rfl))
theorem ev50 (n:Int):Ev M1 (.pure 50 [.int .i64 n]) (.bool (decide (Sp.isLen n))) []:=
 call50 (kLong _ _ (by rw [bif_dec];rfl))
theorem ev10 (n:Int):Ev M1 (.pure 10 [.int .i64 n]) (.bool (decide (Sp.isV n))) []:=
 call10 (kSpeed _ _ (by rw [bif_dec];rfl))
theorem sq_bound {x:Int} (h:Sp.inQ x):0 <= x * x /\ x * x <= 400000000000000:=by
 refine ⟨nn_sq x,?_⟩
 unfold Sp.inQ at h
 have:=Int.mul_nonneg (a:=20000000 - x) (b:=20000000 + x) (by omega) (by omega)
 have e:(20000000 - x) * (20000000 + x) = 400000000000000 - x * x:=by grind
 omega
theorem sqr_bound {x y z:Int} (hx:Sp.inQ x) (hy:Sp.inQ y) (hz:Sp.inQ z):0 <= Sp.sqr x y z /\ Sp.sqr x y z <= 1200000000000000:=by
 have:=sq_bound hx
 have:=sq_bound hy
 have:=sq_bound hz
 unfold Sp.sqr;omega
theorem ev27 (x y z:Int) (h:Sp.inQ x /\ Sp.inQ y /\ Sp.inQ z):Ev M1 (.pure 27 [.agg [.int .i64 x,.int .i64 y,.int .i64 z]]) (.int .i64 (Sp.sqr x y z)) []:=by
 have:=sq_bound h.1
 have:=sq_bound h.2.1
 have:=sq_bound h.2.2
 exact call27 (kSquare _ _ _ _ ⟨by omega,by omega,by omega,by omega,by omega,rfl⟩)
theorem ev32 (x y z:Int) (h:Sp.inQ x /\ Sp.inQ y /\ Sp.inQ z):Ev M1 (.pure 32 [.agg [.int .i64 x,.int .i64 y,.int .i64 z]]) (.int .i64 (Sp.sqr x y z)) []:=by
 have:=sq_bound h.1
 have:=sq_bound h.2.1
 have:=sq_bound h.2.2
 exact call32 (kSquareR _ _ _ _ ⟨by omega,by omega,by omega,by omega,by omega,rfl⟩)
theorem ev31 (x y z:Int):Ev M1 (.pure 31 [.agg [.int .i64 x,.int .i64 y,.int .i64 z]]) (.bool (decide (Sp.inP x y z))) []:=by
 refine call31 (kInside _ _ _ _ ?_)
 rw [bif_dec,bif_dec,bif_dec,bif_dec,bif_dec]
 congr 1
 refine dec_iff ?_
 unfold Sp.inP Sp.inM;omega
theorem root_loop {n:Int} {dq:AV} (hn:Sp.okNs n) (hq:AV.int .i64 (Sp.sq n) = dq):∀ (k:Nat) (u v:Int),v - u < 2 ^ k -> 0 <= u -> u <= Sp.sq n -> Sp.sq n <= v -> v <= 3000000000 -> kRootA_at n u v (PureQ dq)
 | 0,u,v,h,_,a,b,_ => by
  have:u = Sp.sq n:=by omega
  exact kRootA _ _ _ _ ⟨fun x => by omega,fun _ => by rw [this];exact hq⟩
 | k + 1,u,v,h,h0,a,b,c => by
  rw [Int.pow_succ] at h
  have e:(u + v + 1).tdiv 2 = (u + v + 1) / 2:=Int.tdiv_eq_ediv_of_nonneg (by omega)
  refine kRootA _ _ _ _ ⟨fun x => ?_,fun x => by rw [show u = Sp.sq n by omega];exact hq⟩
  rw [e]
  obtain ⟨m,hm⟩:∃ m,m = (u + v + 1) / 2:=⟨_,rfl⟩
  have g:=sq_ge (a:=m) (Y:=n) (by omega) hn.1
  have m0:=nn_sq m
  have m1:=sq_le_sq (a:=m) (b:=3000000000) (by omega) (by omega)
  rw [<- hm]
  refine ⟨by omega,by omega,by omega,by omega,fun y => ?_,fun y => ⟨by omega,?_⟩⟩
  ·exact root_loop hn hq k m v (by omega) (by omega) (g.2 y) b c
  ·exact root_loop hn hq k u (m - 1) (by omega) h0 a (by have:=mt g.1 y;omega) (by omega)
theorem ev88 (n:Int) (h:Sp.okNs n):Ev M1 (.pure 88 [.int .i64 n]) (.int .i64 (Sp.sq n)) []:=by
 obtain ⟨a,b,c⟩:=sq_low h.1
 refine call88 (kRoot _ _ (root_loop h rfl 32 0 3000000000 (by decide) (by omega) c ?_ (by omega)))
 apply Classical.byContradiction
 intro x
 have:=(sq_ge (a:=3000000001) (by omega) h.1).1 (by omega)
 have:=h.2
 omega
end Go.Av

namespace Go.Av
open Go.Proofs
set_option maxRecDepth 100000
def fi26:Fi:=⟨21,[.tmp 2]⟩
def kp26:List (Nat × List Nat):=[(0,[1]),(1,[11,12,13]),(2,[11,12,13,14]),(3,[4,11,12,13]),(4,[11,12,13,19]),(5,[2]),(6,[11,12,13]),(7,[2])]
def fi53:Fi:=⟨43,[.tmp 4,.tmp 5]⟩
def kp53:List (Nat × List Nat):=[(0,[2,3]),(1,[2,3,15]),(2,[4,5]),(3,[6]),(4,[6,7]),(5,[7,39]),(6,[7]),(7,[4,5])]
def fi55:Fi:=⟨36,[.tmp 4]⟩
def kp55:List (Nat × List Nat):=[(0,[0,1]),(1,[0,1,9]),(2,[4]),(3,[0,12]),(4,[4]),(5,[13,14,15]),(6,[13,14,15,16]),(7,[6,13,14,15]),(8,[13,14,15,34]),(9,[4]),(10,[13,14,15]),(11,[4])]
def fi118:Fi:=⟨39,[.tmp 2,.tmp 3]⟩
def kp118:List (Nat × List Nat):=[(0,[1]),(1,[1,15]),(2,[2,3]),(3,[1,4]),(4,[1,4,5]),(5,[1,4,5,21]),(6,[1,4,5]),(7,[1,4,5]),(8,[4,34]),(9,[4]),(10,[2,3])]
def kInt64_at (fa:Bool) (a:Int) (Q:AV -> Heap -> Prop):Prop:=Wp M1 (.run fi118 (atC (cd Tryz.f118) []) [(0,bigA fa a)] []) Q
def kInt64H_at (fa:Bool) (a u i:Int) (Q:AV -> Heap -> Prop):Prop:=Wp M1 (.run fi118 (atC (cd Tryz.f118) [1,1,1,0,1,0,0]) [(1,.ptr 0 0 0 0),(4,.int .u64 u),(5,.int .i64 i)] [⟨[bigA fa a],2,0,false,false⟩]) Q
def kLengthR_at (ax ay az bx by_ bz:Int) (Q:AV -> Heap -> Prop):Prop:=Wp M1 (.run fi53 (atC (cd Tryz.f53) []) [(0,.agg [.int .i64 ax,.int .i64 ay,.int .i64 az]),(1,.agg [.int .i64 bx,.int .i64 by_,.int .i64 bz])] []) Q
def kValid_at (fl:Bool) (l:List Pt) (a:Int) (Q:AV -> Heap -> Prop):Prop:=Wp M1 (.run fi55 (atC (cd Tryz.f55) []) [(0,.vec fl 3 (l.map Pt.a)),(1,.int .i64 a)] []) Q
def kValidH_at (fl:Bool) (l:List Pt) (n i:Int) (Q:AV -> Heap -> Prop):Prop:=Wp M1 (.run fi55 (atC (cd Tryz.f55) [1,1,1,0,1,0,0]) [(13,.vec fl 3 (l.map Pt.a)),(14,.int .i64 n),(15,.int .i64 i)] []) Q
def kFar_at (x y z:Int) (Q:AV -> Heap -> Prop):Prop:=Wp M1 (.run fi26 (atC (cd Tryz.f26) []) [(0,.agg [.int .i64 x,.int .i64 y,.int .i64 z])] []) Q
def kFarH_at (x y z i:Int) (Q:AV -> Heap -> Prop):Prop:=Wp M1 (.run fi26 (atC (cd Tryz.f26) [1,0,1,0,0]) [(11,.vec true 1 [.int .i64 x,.int .i64 y,.int .i64 z]),(12,.int .i64 3),(13,.int .i64 i)] []) Q
theorem call26 {args:List AV} {d:AV} (h:wc M1 fi26 Tryz.f26 args d):Ev M1 (.pure 26 args) d []:=pcl _ _ (by kernel_rfl) h
theorem call53 {args:List AV} {d:AV} (h:wc M1 fi53 Tryz.f53 args d):Ev M1 (.pure 53 args) d []:=pcl _ _ (by kernel_rfl) h
theorem call55 {args:List AV} {d:AV} (h:wc M1 fi55 Tryz.f55 args d):Ev M1 (.pure 55 args) d []:=pcl _ _ (by kernel_rfl) h
theorem call118 {args:List AV} {d:AV} (h:wc M1 fi118 Tryz.f118 args d):Ev M1 (.pure 118 args) d []:=pcl _ _ (by kernel_rfl) h
noncomputable abbrev zNzB1:=ag [vb false,vf (us (Sp.limI 9223372036854775807))]
noncomputable abbrev zNzB2:=ag [vb true,vf (us (Sp.limI (-9223372036854775808)))]
theorem kInt64 (fa:Bool) (a:Int)  (dq:AV) (H :
  (Sp.inI (-9223372036854775808)) /\
  ∃ (n1:Int),
  (Ev M1 (Conf.pure 76 [bigA fa a,ag [vb true,vf (us (Sp.limI (-9223372036854775808)))]]) (vi n1) []) /\
  ((¬(n1 < 0)) -> (Sp.inI 9223372036854775807)) /\
  ∃ (n2:Int),
  ((¬(n1 < 0)) -> (Ev M1 (Conf.pure 76 [bigA fa a,ag [vb false,vf (us (Sp.limI 9223372036854775807))]]) (vi n2) [])) /\
  (((n1 < 0) \/ (n2 > 0)) -> tu [vi 0,vb false] = dq) /\
  (¬((n1 < 0) \/ (n2 > 0)) -> (-9223372036854775808 <= (↑(Sp.limI a).length:Int) - 1 /\ (↑(Sp.limI a).length:Int) - 1 <= 9223372036854775807) /\
   kInt64H_at (fa) (a) (0) ((↑(Sp.limI a).length:Int) - 1) (PureQ dq))) :
 kInt64_at fa a (PureQ dq):=by
 unfold kInt64_at
 obtain ⟨k1,H⟩:=H
 obtain ⟨n1,H⟩:=H
 obtain ⟨k2,H⟩:=H
 obtain ⟨k4,H⟩:=H
 obtain ⟨n2,H⟩:=H
 obtain ⟨k6,H⟩:=H
 refine path_wp (G:=given kp118 [(1,1,.call (zNzB2) none),(1,2,.call (vi n1) none),(1,6,.call (zNzB1) none),(1,7,.call (vi n2) none)] []) 5 [] ⟨(atC (cd Tryz.f118) [1,0,1]),[(1,AV.ptr 0 0 0 0),(15,vb (bif decide (n1 < 0) then true else decide (n2 > 0)))],[⟨[bigA fa a],2,0,false,false⟩],[true,!(decide (n1 < 0) == false && true) || true],[],[⟨true,false,72,[vi (-9223372036854775808)],[],zNzB2,[]⟩,⟨true,false,76,[bigA fa a,zNzB2],[],vi n1,[]⟩,⟨decide (n1 < 0) == false && true && true,false,72,[vi 9223372036854775807],[],zNzB1,[]⟩,⟨decide (n1 < 0) == false && true && true,false,76,[bigA fa a,zNzB1],[],vi n2,[]⟩]⟩ (by kernel_rfl) (bc rfl (bc (Bool.or_true _) b0)) q0 (cc (fun _ => (@ev72 (-9223372036854775808) k1)) (cc (fun _ => k2) (cc (fun hc => ((@ev72 (9223372036854775807) (k4 ((i_at (i_at (i_bf i_dec))).1 hc))):Ev M1 (Conf.pure 72 [vi 9223372036854775807]) (zNzB1) [])) (cc (fun hc => ((k6 ((i_at (i_at (i_bf i_dec))).1 hc)):Ev M1 (Conf.pure 76 [bigA fa a,zNzB1]) (vi n2) [])) c0)))) ?_
 rcases xm ((n1 < 0) \/ (n2 > 0)) with d8 | d8
 ·have H:=H.1 d8
  exact path_re (G:=given kp118 [] []) 1000 [true] (tu [vi 0,vb false]) (by kernel_rfl) (bc (beq_t ((i_bor i_dec i_dec).2 d8)) b0) q0 c0 H
 ·have H:=H.2 d8
  have w9:(us (Sp.limI a)).length = (Sp.limI a).length:=List.length_map ..
  obtain ⟨k10,H⟩:=H
  have w11:wi ((↑(Sp.limI a).length:Int) - 1) = (↑(Sp.limI a).length:Int) - 1:=wI64 k10
  exact path_wp (G:=given kp118 [] []) 1000 [false] ⟨(atC (cd Tryz.f118) [1,1,1,0,1,0,0]),[(1,AV.ptr 0 0 0 0),(4,vw 0),(5,vi (wi ((↑(us (Sp.limI a)).length:Int) - 1)))],[⟨[bigA fa a],2,0,false,false⟩],_,[],_⟩ (by kernel_rfl) (bc (beq_f (fun h => d8 ((i_bor i_dec i_dec).1 h))) (bc rfl b0)) q0 c0 (by (try rw [w9]);(try rw [w11]);all_goals exact H)
theorem kInt64H (fa:Bool) (a u i:Int)  (dq:AV) (H :
  ((i >= 0) -> (0 <= i) /\
   (i.toNat < (Sp.limI a).length) /\
   (0 <= u * 1000000000 /\ u * 1000000000 <= 18446744073709551615) /\
   (0 <= (Sp.limI a).getD i.toNat default /\ (Sp.limI a).getD i.toNat default <= 18446744073709551615) /\
   (0 <= u * 1000000000 + (Sp.limI a).getD i.toNat default /\ u * 1000000000 + (Sp.limI a).getD i.toNat default <= 18446744073709551615) /\
   (-9223372036854775808 <= i - 1 /\ i - 1 <= 9223372036854775807) /\
   kInt64H_at (fa) (a) (u * 1000000000 + (Sp.limI a).getD i.toNat default) (i - 1) (PureQ dq)) /\
  (¬(i >= 0) -> ((Sp.isNeg a = true) -> (0 <= 0 - u /\ 0 - u <= 18446744073709551615) /\
    (-9223372036854775808 <= 0 - u /\ 0 - u <= 9223372036854775807) /\
    tu [vi (0 - u),vb true] = dq) /\
   (¬(Sp.isNeg a = true) -> (-9223372036854775808 <= u /\ u <= 9223372036854775807) /\
    tu [vi u,vb true] = dq))) :
 kInt64H_at fa a u i (PureQ dq):=by
 unfold kInt64H_at
 rcases xm (i >= 0) with d2 | d2
 ·have H:=H.1 d2
  obtain ⟨k4,H⟩:=H
  have w5:(us (Sp.limI a)).length = (Sp.limI a).length:=List.length_map ..
  have i6:(decide (i.toNat < (us (Sp.limI a)).length)) = true ↔ (i.toNat < (Sp.limI a).length):=(by (try rw [w5]);all_goals exact i_dec)
  obtain ⟨k7,H⟩:=H
  obtain ⟨k8,H⟩:=H
  have w9:wu (u * 1000000000) = u * 1000000000:=wU64 k8
  obtain ⟨k10,H⟩:=H
  have w11:wu ((Sp.limI a).getD i.toNat default) = (Sp.limI a).getD i.toNat default:=wU64 k10
  obtain ⟨k12,H⟩:=H
  have w13:wu (u * 1000000000 + (Sp.limI a).getD i.toNat default) = u * 1000000000 + (Sp.limI a).getD i.toNat default:=wU64 k12
  obtain ⟨k14,H⟩:=H
  have w15:wi (i - 1) = i - 1:=wI64 k14
  exact path_wp (G:=given kp118 [(7,6,.elem (vu ((Sp.limI a).getD i.toNat default)))] []) 1000 [true] ⟨(atC (cd Tryz.f118) [1,1,1,0,1,0,0]),[(1,AV.ptr 0 0 0 0),(4,vw (wu (wu (u * 1000000000) + wu ((Sp.limI a).getD i.toNat default)))),(5,vi (wi (i - 1)))],[⟨[bigA fa a],2,0,false,false⟩],_,[((us (Sp.limI a)).get?Internal i.toNat = some (vu ((Sp.limI a).getD i.toNat default)))],_⟩ (by kernel_rfl) (bc (beq_t (i_dec.2 d2)) (bc rfl (bc (i_dec.2 k4) (bc (i6.2 k7) b0)))) (qc (el_map k7) q0) c0 (by (try rw [w9]);(try rw [w11]);(try rw [w13]);(try rw [w15]);all_goals exact H)
 ·have H:=H.2 d2
  rcases xm (Sp.isNeg a = true) with d17 | d17
  ·have H:=H.1 d17
   obtain ⟨k18,H⟩:=H
   have w19:wu (0 - u) = 0 - u:=wU64 k18
   obtain ⟨k20,H⟩:=H
   have w21:wi (0 - u) = 0 - u:=wI64 k20
   exact path_re (G:=given kp118 [] []) 1000 [false,true] (asm:=[(decide (i >= 0)) == false,0 == 0,(Sp.isNeg a) == true]) (tu [vi (wi (wu (0 - u))),vb true]) (by kernel_rfl) (bc (beq_f (fun h => d2 (i_dec.1 h))) (bc (beq_self_eq_true _) (bc (beq_t ((i_var _).2 d17)) b0))) q0 c0 (by (try rw [w19]);(try rw [w21]);all_goals exact H)
  ·have H:=H.2 d17
   obtain ⟨k22,H⟩:=H
   have w23:wi u = u:=wI64 k22
   exact path_re (G:=given kp118 [] []) 1000 [false,false] (asm:=[(decide (i >= 0)) == false,0 == 0,(Sp.isNeg a) == false]) (tu [vi (wi u),vb true]) (by kernel_rfl) (bc (beq_f (fun h => d2 (i_dec.1 h))) (bc (beq_self_eq_true _) (bc (beq_f (fun h => d17 ((i_var _).1 h))) b0))) q0 c0 (by (try rw [w23]);all_goals exact H)
noncomputable abbrev zNzB3 (bx:Int) (by_:Int) (bz:Int):=ag [vi bx,vi by_,vi bz]
theorem kLengthR (ax ay az bx by_ bz:Int)  (dq:AV) (H :
  (((¬(Sp.inP ax ay az)) \/ (¬(Sp.inP bx by_ bz))) -> tu [vi 0,vi 11] = dq) /\
  (¬((¬(Sp.inP ax ay az)) \/ (¬(Sp.inP bx by_ bz))) -> (-9223372036854775808 <= bx - ax /\ bx - ax <= 9223372036854775807) /\
   (-9223372036854775808 <= by_ - ay /\ by_ - ay <= 9223372036854775807) /\
   (-9223372036854775808 <= bz - az /\ bz - az <= 9223372036854775807) /\
   (Sp.inQ (bx - ax) /\ Sp.inQ (by_ - ay) /\ Sp.inQ (bz - az)) /\
   (Sp.okNs (Sp.sqr (bx - ax) (by_ - ay) (bz - az))) /\
   (-9223372036854775808 <= Sp.sq (Sp.sqr (bx - ax) (by_ - ay) (bz - az)) * Sp.sq (Sp.sqr (bx - ax) (by_ - ay) (bz - az)) /\ Sp.sq (Sp.sqr (bx - ax) (by_ - ay) (bz - az)) * Sp.sq (Sp.sqr (bx - ax) (by_ - ay) (bz - az)) <= 9223372036854775807) /\
   ((Sp.sq (Sp.sqr (bx - ax) (by_ - ay) (bz - az)) * Sp.sq (Sp.sqr (bx - ax) (by_ - ay) (bz - az)) < Sp.sqr (bx - ax) (by_ - ay) (bz - az)) -> (-9223372036854775808 <= Sp.sq (Sp.sqr (bx - ax) (by_ - ay) (bz - az)) + 1 /\ Sp.sq (Sp.sqr (bx - ax) (by_ - ay) (bz - az)) + 1 <= 9223372036854775807) /\
    tu [vi (Sp.sq (Sp.sqr (bx - ax) (by_ - ay) (bz - az)) + 1),vi 0] = dq) /\
   (¬(Sp.sq (Sp.sqr (bx - ax) (by_ - ay) (bz - az)) * Sp.sq (Sp.sqr (bx - ax) (by_ - ay) (bz - az)) < Sp.sqr (bx - ax) (by_ - ay) (bz - az)) -> tu [vi (Sp.sq (Sp.sqr (bx - ax) (by_ - ay) (bz - az))),vi 0] = dq))) :
 kLengthR_at ax ay az bx by_ bz (PureQ dq):=by
 unfold kLengthR_at
 refine path_wp (G:=given kp53 [(1,1,.call (vb (decide (Sp.inP ax ay az))) none),(1,5,.call (vb (decide (Sp.inP bx by_ bz))) none)] []) 5 [] ⟨(atC (cd Tryz.f53) [1,0,1]),[(2,AV.ptr 0 0 0 0),(3,AV.ptr 1 0 0 0),(15,vb (bif !decide (Sp.inP ax ay az) then true else !decide (Sp.inP bx by_ bz)))],[⟨[ag [vi ax,vi ay,vi az]],3,0,false,false⟩,⟨[(zNzB3 bx by_ bz)],3,0,false,false⟩],[true,!((!decide (Sp.inP ax ay az)) == false && true) || true],[],[⟨true,false,31,[ag [vi ax,vi ay,vi az]],[],vb (decide (Sp.inP ax ay az)),[]⟩,⟨(!decide (Sp.inP ax ay az)) == false && true && true,false,31,[(zNzB3 bx by_ bz)],[],vb (decide (Sp.inP bx by_ bz)),[]⟩]⟩ (by kernel_rfl) (bc rfl (bc (Bool.or_true _) b0)) q0 (cc (fun _ => (@ev31 (ax) (ay) (az))) (cc (fun hc => ((@ev31 (bx) (by_) (bz)):Ev M1 (Conf.pure 31 [(zNzB3 bx by_ bz)]) (vb (decide (Sp.inP bx by_ bz))) [])) c0)) ?_
 rcases xm ((¬(Sp.inP ax ay az)) \/ (¬(Sp.inP bx by_ bz))) with d3 | d3
 ·have H:=H.1 d3
  exact path_re (G:=given kp53 [] []) 1000 [true] (tu [vi 0,vi 11]) (by kernel_rfl) (bc (beq_t ((i_bor (i_not i_dec) (i_not i_dec)).2 d3)) b0) q0 c0 H
 ·have H:=H.2 d3
  obtain ⟨k4,H⟩:=H
  have w5:wi (bx - ax) = bx - ax:=wI64 k4
  obtain ⟨k6,H⟩:=H
  have w7:wi (by_ - ay) = by_ - ay:=wI64 k6
  obtain ⟨k8,H⟩:=H
  have w9:wi (bz - az) = bz - az:=wI64 k8
  obtain ⟨k10,H⟩:=H
  obtain ⟨k11,H⟩:=H
  obtain ⟨k12,H⟩:=H
  have w13:wi (Sp.sq (Sp.sqr (bx - ax) (by_ - ay) (bz - az)) * Sp.sq (Sp.sqr (bx - ax) (by_ - ay) (bz - az))) = Sp.sq (Sp.sqr (bx - ax) (by_ - ay) (bz - az)) * Sp.sq (Sp.sqr (bx - ax) (by_ - ay) (bz - az)):=wI64 k12
  have i14:(decide (wi (Sp.sq (Sp.sqr (bx - ax) (by_ - ay) (bz - az)) * Sp.sq (Sp.sqr (bx - ax) (by_ - ay) (bz - az))) < Sp.sqr (bx - ax) (by_ - ay) (bz - az))) = true ↔ (Sp.sq (Sp.sqr (bx - ax) (by_ - ay) (bz - az)) * Sp.sq (Sp.sqr (bx - ax) (by_ - ay) (bz - az)) < Sp.sqr (bx - ax) (by_ - ay) (bz - az)):=(by (try rw [w13]);all_goals exact i_dec)
  refine path_wp (G:=given kp53 [(3,16,.call (vi (Sp.sqr (bx - ax) (by_ - ay) (bz - az))) none),(4,1,.call (vi (Sp.sq (Sp.sqr (bx - ax) (by_ - ay) (bz - az)))) none)] []) 9 [false] ⟨(atC (cd Tryz.f53) [1,1,1,1,0,1]),[(7,vi (Sp.sq (Sp.sqr (bx - ax) (by_ - ay) (bz - az)))),(39,vb (decide (wi (Sp.sq (Sp.sqr (bx - ax) (by_ - ay) (bz - az)) * Sp.sq (Sp.sqr (bx - ax) (by_ - ay) (bz - az))) < Sp.sqr (bx - ax) (by_ - ay) (bz - az))))],[⟨[ag [vi ax,vi ay,vi az]],3,0,false,false⟩,⟨[(zNzB3 bx by_ bz)],3,0,false,false⟩],_,[],[pc 32 [ag [vi (wi (bx - ax)),vi (wi (by_ - ay)),vi (wi (bz - az))]] (vi (Sp.sqr (bx - ax) (by_ - ay) (bz - az))),pc 88 [vi (Sp.sqr (bx - ax) (by_ - ay) (bz - az))] (vi (Sp.sq (Sp.sqr (bx - ax) (by_ - ay) (bz - az))))]⟩ (by kernel_rfl) (bc (beq_f (fun h => d3 ((i_bor (i_not i_dec) (i_not i_dec)).1 h))) (bc rfl (bc rfl (bc rfl (bc rfl (bc rfl (bc rfl b0))))))) q0 (ce (by (try rw [w5]);(try rw [w7]);(try rw [w9]);all_goals exact (@ev32 (bx - ax) (by_ - ay) (bz - az) k10)) (ce (@ev88 (Sp.sqr (bx - ax) (by_ - ay) (bz - az)) k11) c0)) ?_
  rcases xm (Sp.sq (Sp.sqr (bx - ax) (by_ - ay) (bz - az)) * Sp.sq (Sp.sqr (bx - ax) (by_ - ay) (bz - az)) < Sp.sqr (bx - ax) (by_ - ay) (bz - az)) with d15 | d15
  ·have H:=H.1 d15
   obtain ⟨k16,H⟩:=H
   have w17:wi (Sp.sq (Sp.sqr (bx - ax) (by_ - ay) (bz - az)) + 1) = Sp.sq (Sp.sqr (bx - ax) (by_ - ay) (bz - az)) + 1:=wI64 k16
   exact path_re (G:=given kp53 [] []) 1000 [true] (tu [vi (wi (Sp.sq (Sp.sqr (bx - ax) (by_ - ay) (bz - az)) + 1)),vi 0]) (by kernel_rfl) (bc (beq_t (i14.2 d15)) b0) q0 c0 (by (try rw [w17]);all_goals exact H)
  ·have H:=H.2 d15
   exact path_re (G:=given kp53 [] []) 1000 [false] (tu [vi (Sp.sq (Sp.sqr (bx - ax) (by_ - ay) (bz - az))),vi 0]) (by kernel_rfl) (bc (beq_f (fun h => d15 (i14.1 h))) b0) q0 c0 H
theorem kValid (fl:Bool) (l:List Pt) (a:Int)  (dq:AV) (H :
  (((↑l.length:Int) > 2000) -> vi 3 = dq) /\
  (¬((↑l.length:Int) > 2000) -> ((¬(1 <= a /\ a <= 100000000)) -> vi 1 = dq) /\
   (¬(¬(1 <= a /\ a <= 100000000)) -> kValidH_at (fl) (l) ((↑l.length:Int)) (0) (PureQ dq)))) :
 kValid_at fl l a (PureQ dq):=by
 unfold kValid_at
 have w1:(List.map Pt.a l).length = l.length:=List.length_map ..
 have i2:(decide ((↑(List.map Pt.a l).length:Int) > 2000)) = true ↔ ((↑l.length:Int) > 2000):=(by (try rw [w1]);all_goals exact i_dec)
 rcases xm ((↑l.length:Int) > 2000) with d3 | d3
 ·have H:=H.1 d3
  exact path_re (G:=given kp55 [] []) 1000 [true] (vi 3) (by kernel_rfl) (bc (beq_t (i2.2 d3)) b0) q0 c0 H
 ·have H:=H.2 d3
  refine path_wp (G:=given kp55 [(3,1,.call (vb (decide (1 <= a /\ a <= 100000000))) none)] []) 10 [false] ⟨(atC (cd Tryz.f55) [1,1,0,1]),[(0,AV.vec fl 3 (List.map Pt.a l)),(12,vb !decide (1 <= a /\ a <= 100000000))],[],_,[],_⟩ (by kernel_rfl) (bc (beq_f (fun h => d3 (i2.1 h))) b0) q0 (ce (@ev25 (a) (1) (100000000)) c0) ?_
  rcases xm (¬(1 <= a /\ a <= 100000000)) with d5 | d5
  ·have H:=H.1 d5
   exact path_re (G:=given kp55 [] []) 1000 [true] (vi 1) (by kernel_rfl) (bc (beq_t ((i_not i_dec).2 d5)) b0) q0 c0 H
  ·have H:=H.2 d5
   exact path_wp (G:=given kp55 [] []) 1000 [false] ⟨(atC (cd Tryz.f55) [1,1,1,0,1,0,0]),[(13,AV.vec fl 3 (List.map Pt.a l)),(14,vi (↑(List.map Pt.a l).length:Int)),(15,vi 0)],[],_,[],_⟩ (by kernel_rfl) (bc (beq_f (fun h => d5 ((i_not i_dec).1 h))) b0) q0 c0 (by (try rw [w1]);all_goals exact H)
noncomputable abbrev zNzB4 (l:List Pt) (i:Int):=ag [vi (l.getD i.toNat default).len,vi (l.getD i.toNat default).spd,vi (l.getD i.toNat default).cor]
noncomputable abbrev zNzB5 (l:List Pt) (i:Int):=bif !decide (0 <= (l.getD i.toNat default).len /\ (l.getD i.toNat default).len <= 100000000) then true else !decide (1 <= (l.getD i.toNat default).spd /\ (l.getD i.toNat default).spd <= 1000000)
theorem kValidH (fl:Bool) (l:List Pt) (n i:Int)  (dq:AV) (H :
  ((i < n) -> (0 <= i) /\
   (i.toNat < l.length) /\
   ((((¬(0 <= (l.getD i.toNat default).len /\ (l.getD i.toNat default).len <= 100000000)) \/ (¬(1 <= (l.getD i.toNat default).spd /\ (l.getD i.toNat default).spd <= 1000000))) \/ (¬(0 <= (l.getD i.toNat default).cor /\ (l.getD i.toNat default).cor <= 1000000))) -> vi 1 = dq) /\
   (¬(((¬(0 <= (l.getD i.toNat default).len /\ (l.getD i.toNat default).len <= 100000000)) \/ (¬(1 <= (l.getD i.toNat default).spd /\ (l.getD i.toNat default).spd <= 1000000))) \/ (¬(0 <= (l.getD i.toNat default).cor /\ (l.getD i.toNat default).cor <= 1000000))) -> (-9223372036854775808 <= i + 1 /\ i + 1 <= 9223372036854775807) /\
    kValidH_at (fl) (l) (n) (i + 1) (PureQ dq))) /\
  (¬(i < n) -> vi 0 = dq)) :
 kValidH_at fl l n i (PureQ dq):=by
 unfold kValidH_at
 rcases xm (i < n) with d2 | d2
 ·have H:=H.1 d2
  obtain ⟨k4,H⟩:=H
  have w5:(List.map Pt.a l).length = l.length:=List.length_map ..
  have i6:(decide (i.toNat < (List.map Pt.a l).length)) = true ↔ (i.toNat < l.length):=(by (try rw [w5]);all_goals exact i_dec)
  obtain ⟨k7,H⟩:=H
  refine path_wp (G:=given kp55 [(7,1,.elem ((zNzB4 l i))),(8,2,.call (vb (decide (0 <= (l.getD i.toNat default).len /\ (l.getD i.toNat default).len <= 100000000))) none),(8,7,.call (vb (decide (1 <= (l.getD i.toNat default).spd /\ (l.getD i.toNat default).spd <= 1000000))) none),(8,13,.call (vb (decide (0 <= (l.getD i.toNat default).cor /\ (l.getD i.toNat default).cor <= 1000000))) none)] []) 11 [true] ⟨(atC (cd Tryz.f55) [1,1,1,0,1,0,0,1,1,0,0,1,1]),[(13,AV.vec fl 3 (List.map Pt.a l)),(14,vi n),(15,vi i),(34,vb (bif bif !decide (0 <= (l.getD i.toNat default).len /\ (l.getD i.toNat default).len <= 100000000) then true else !decide (1 <= (l.getD i.toNat default).spd /\ (l.getD i.toNat default).spd <= 1000000) then true else !decide (0 <= (l.getD i.toNat default).cor /\ (l.getD i.toNat default).cor <= 1000000)))],[⟨[(zNzB4 l i)],3,0,false,false⟩],[(decide (i < n)) == true,decide (0 <= i),decide (i.toNat < (List.map Pt.a l).length),true,true,!((!decide (0 <= (l.getD i.toNat default).len /\ (l.getD i.toNat default).len <= 100000000)) == false && true) || true,!((zNzB5 l i) == false && true) || true],[((List.map Pt.a l).get?Internal i.toNat = some ((zNzB4 l i)))],[⟨true,false,25,[vi (l.getD i.toNat default).len,vi 0,vi 100000000],[],vb (decide (0 <= (l.getD i.toNat default).len /\ (l.getD i.toNat default).len <= 100000000)),[]⟩,⟨(!decide (0 <= (l.getD i.toNat default).len /\ (l.getD i.toNat default).len <= 100000000)) == false && true && true,false,25,[vi (l.getD i.toNat default).spd,vi 1,vi 1000000],[],vb (decide (1 <= (l.getD i.toNat default).spd /\ (l.getD i.toNat default).spd <= 1000000)),[]⟩,⟨(zNzB5 l i) == false && true && true,false,25,[vi (l.getD i.toNat default).cor,vi 0,vi 1000000],[],vb (decide (0 <= (l.getD i.toNat default).cor /\ (l.getD i.toNat default).cor <= 1000000)),[]⟩]⟩ (by kernel_rfl) (bc (beq_t (i_dec.2 d2)) (bc (i_dec.2 k4) (bc (i6.2 k7) (bc rfl (bc rfl (bc (Bool.or_true _) (bc (Bool.or_true _) b0))))))) (qc (el_map k7) q0) (cc (fun _ => (@ev25 ((l.getD i.toNat default).len) (0) (100000000))) (cc (fun hc => ((@ev25 ((l.getD i.toNat default).spd) (1) (1000000)):Ev M1 (Conf.pure 25 [vi (l.getD i.toNat default).spd,vi 1,vi 1000000]) (vb (decide (1 <= (l.getD i.toNat default).spd /\ (l.getD i.toNat default).spd <= 1000000))) [])) (cc (fun hc => ((@ev25 ((l.getD i.toNat default).cor) (0) (1000000)):Ev M1 (Conf.pure 25 [vi (l.getD i.toNat default).cor,vi 0,vi 1000000]) (vb (decide (0 <= (l.getD i.toNat default).cor /\ (l.getD i.toNat default).cor <= 1000000))) [])) c0))) ?_
  rcases xm (((¬(0 <= (l.getD i.toNat default).len /\ (l.getD i.toNat default).len <= 100000000)) \/ (¬(1 <= (l.getD i.toNat default).spd /\ (l.getD i.toNat default).spd <= 1000000))) \/ (¬(0 <= (l.getD i.toNat default).cor /\ (l.getD i.toNat default).cor <= 1000000))) with d11 | d11
  ·have H:=H.1 d11
   exact path_re (G:=given kp55 [] []) 1000 [true] (vi 1) (by kernel_rfl) (bc (beq_t ((i_bor (i_bor (i_not i_dec) (i_not i_dec)) (i_not i_dec)).2 d11)) b0) q0 c0 H
  ·have H:=H.2 d11
   obtain ⟨k12,H⟩:=H
   have w13:wi (i + 1) = i + 1:=wI64 k12
   exact path_wp (G:=given kp55 [] []) 1000 [false] ⟨(atC (cd Tryz.f55) [1,1,1,0,1,0,0]),[(13,AV.vec fl 3 (List.map Pt.a l)),(14,vi n),(15,vi (wi (i + 1)))],[⟨[(zNzB4 l i)],3,0,false,false⟩],_,[],_⟩ (by kernel_rfl) (bc (beq_f (fun h => d11 ((i_bor (i_bor (i_not i_dec) (i_not i_dec)) (i_not i_dec)).1 h))) b0) q0 c0 (by (try rw [w13]);all_goals exact wp_narrow [] (by kernel_rfl) H)
 ·have H:=H.2 d2
  exact path_re (G:=given kp55 [] []) 1000 [false] (vi 0) (by kernel_rfl) (bc (beq_f (fun h => d2 (i_dec.1 h))) b0) q0 c0 H
theorem kFar (x y z:Int)  (dq:AV) (H :
  kFarH_at (x) (y) (z) (0) (PureQ dq)) :
 kFar_at x y z (PureQ dq):=by
 unfold kFar_at
 exact path_wp (G:=given kp26 [] []) 1000 [] ⟨(atC (cd Tryz.f26) [1,0,1,0,0]),[(11,AV.vec true 1 [vi x,vi y,vi z]),(12,vi 3),(13,vi 0)],[⟨[ag [vi x,vi y,vi z]],3,0,false,false⟩],_,[],_⟩ (by kernel_rfl) (bc rfl (bc rfl (bc rfl b0))) q0 c0 (wp_narrow [] (by kernel_rfl) H)
theorem kFarH (x y z i:Int)  (dq:AV) (H :
  ((i < 3) -> (0 <= i) /\
   (i.toNat < 3) /\
   (i.toNat < [x,y,z].length) /\
   ((¬(-10000000 <= [x,y,z].getD i.toNat default /\ [x,y,z].getD i.toNat default <= 10000000)) -> vb true = dq) /\
   (¬(¬(-10000000 <= [x,y,z].getD i.toNat default /\ [x,y,z].getD i.toNat default <= 10000000)) -> (-9223372036854775808 <= i + 1 /\ i + 1 <= 9223372036854775807) /\
    kFarH_at (x) (y) (z) (i + 1) (PureQ dq))) /\
  (¬(i < 3) -> vb false = dq)) :
 kFarH_at x y z i (PureQ dq):=by
 unfold kFarH_at
 rcases xm (i < 3) with d2 | d2
 ·have H:=H.1 d2
  have w3:[vi x,vi y,vi z] = List.map (vi) [x,y,z]:=rfl
  obtain ⟨k5,H⟩:=H
  have w6:(List.map (vi) [x,y,z]).length = [x,y,z].length:=List.length_map ..
  have i7:(decide (i.toNat < 3)) = true ↔ (i.toNat < 3):=(by (try rw [w3]);(try rw [w6]);all_goals exact i_dec)
  obtain ⟨k8,H⟩:=H
  obtain ⟨k9,H⟩:=H
  refine path_wp (G:=given kp26 [(3,1,.elem (vi ([x,y,z].getD i.toNat default))),(4,1,.call (vb (decide (-10000000 <= [x,y,z].getD i.toNat default /\ [x,y,z].getD i.toNat default <= 10000000))) none)] []) 11 [true] ⟨(atC (cd Tryz.f26) [1,0,1,0,0,1,1,0,0,1,1]),[(11,AV.vec true 1 [vi x,vi y,vi z]),(12,vi 3),(13,vi i),(19,vb !decide (-10000000 <= [x,y,z].getD i.toNat default /\ [x,y,z].getD i.toNat default <= 10000000))],[],_,[([vi x,vi y,vi z].get?Internal i.toNat = some (vi ([x,y,z].getD i.toNat default)))],_⟩ (by kernel_rfl) (bc (beq_t (i_dec.2 d2)) (bc (i_dec.2 k5) (bc (i7.2 k8) b0))) (qc (by (try rw [w3]);all_goals exact (el_map k9)) q0) (ce (@ev25 ([x,y,z].getD i.toNat default) (-10000000) (10000000)) c0) ?_
  rcases xm (¬(-10000000 <= [x,y,z].getD i.toNat default /\ [x,y,z].getD i.toNat default <= 10000000)) with d11 | d11
  ·have H:=H.1 d11
   exact path_re (G:=given kp26 [] []) 1000 [true] (vb true) (by kernel_rfl) (bc (beq_t ((i_not i_dec).2 d11)) b0) q0 c0 H
  ·have H:=H.2 d11
   obtain ⟨k12,H⟩:=H
   have w13:wi (i + 1) = i + 1:=wI64 k12
   exact path_wp (G:=given kp26 [] []) 1000 [false] ⟨(atC (cd Tryz.f26) [1,0,1,0,0]),[(11,AV.vec true 1 [vi x,vi y,vi z]),(12,vi 3),(13,vi (wi (i + 1)))],[],_,[],_⟩ (by kernel_rfl) (bc (beq_f (fun h => d11 ((i_not i_dec).1 h))) b0) q0 c0 (by (try rw [w3]);(try rw [w13]);all_goals exact H)
 ·have H:=H.2 d2
  exact path_re (G:=given kp26 [] []) 1000 [false] (vb false) (by kernel_rfl) (bc (beq_f (fun h => d2 (i_dec.1 h))) b0) q0 c0 H
end Go.Av

namespace Go.Av
open Go.Proofs
instance (p:Pt):Decidable (Sp.okPt p):=by unfold Sp.okPt;infer_instance
instance (l:List Pt) (a:Int):Decidable (Sp.okPts l a):=by unfold Sp.okPts;infer_instance
namespace Sp
def inN (a:Int):Prop:=0 <= a /\ a <= 9223372036854775807
def validE (l:List Pt) (a:Int):Int:=if (l.length:Int) > 2000 then 3 else if okPts l a then 0 else 1
noncomputable def upR (n:Int):Int:=if sq n * sq n < n then sq n + 1 else sq n
noncomputable def dist (ax ay az bx by_ bz:Int):Int:=if inP ax ay az /\ inP bx by_ bz then upR (sqr (bx - ax) (by_ - ay) (bz - az)) else 0
def distE (ax ay az bx by_ bz:Int):Int:=if inP ax ay az /\ inP bx by_ bz then 0 else 11
def okFrom (l:List Pt) (i:Nat):Prop:=∀ p ∈ l.drop i,okPt p
end Sp
instance (l:List Pt) (i:Nat):Decidable (Sp.okFrom l i):=by unfold Sp.okFrom;infer_instance
theorem ite_iff {p q:Prop} [Decidable p] [Decidable q] {a b:Int} (h:p ↔ q):(if p then a else b) = if q then a else b:=by
 by_cases k:q
 ·rw [if_pos k,if_pos (h.2 k)]
 ·rw [if_neg k,if_neg fun x => k (h.1 x)]
theorem okFrom_iff {l:List Pt} {i:Nat} (h:i < l.length):Sp.okFrom l i ↔ Sp.okPt (l.getD i default) /\ Sp.okFrom l (i + 1):=by
 unfold Sp.okFrom
 rw [drop_getD h]
 exact List.forall_mem_cons
theorem okFrom_end {l:List Pt} {i:Nat} (h:l.length <= i):Sp.okFrom l i:=by
 unfold Sp.okFrom
 rw [List.drop_eq_nil_of_le h]
 exact fun p hp => nomatch hp
theorem okPts_from {l:List Pt} {a:Int}:Sp.okPts l a ↔ Sp.isAcc a /\ Sp.okFrom l 0:=Iff.rfl
theorem small_cnt {a:Int} (h:Sp.inN a):Sp.cnt a.natAbs <= 3:=by
 refine fits_cnt.1 ?_
 unfold Sp.fits
 unfold Sp.inN at h
 have:(1000000000:Nat) ^ 3 = 1000000000000000000000000000:=rfl
 omega
theorem int64_loop {fa:Bool} {a:Int} {dq:AV} (h:Sp.inN a) (hq:AV.tup [.int .i64 a,.bool true] = dq):∀ (k:Nat),k <= Sp.cnt a.natAbs -> kInt64H_at fa a ((a.natAbs / 1000000000 ^ k:Nat):Int) ((k:Int) - 1) (PureQ dq)
 | 0,_ => by
  have e:((a.natAbs / 1000000000 ^ 0:Nat):Int) = a:=by
   unfold Sp.inN at h
   rw [Nat.pow_zero,Nat.div_one];omega
  have hn:¬Sp.isNeg a = true:=fun x => by rw [isNeg_iff] at x;unfold Sp.inN at h;omega
  refine kInt64H _ _ _ _ _ ⟨fun x => by omega,fun _ => ⟨fun x => absurd x hn,fun _ => ?_⟩⟩
  rw [e]
  unfold Sp.inN at h
  exact ⟨by omega,hq⟩
 | k + 1,hk => by
  have c3:=small_cnt h
  have e1:(((k + 1:Nat):Int) - 1).toNat = k:=by omega
  have e2:((k + 1:Nat):Int) - 1 - 1 = (k:Int) - 1:=by omega
  have ea:a.natAbs <= 9223372036854775807:=by unfold Sp.inN at h;omega
  have d0:a.natAbs / 1000000000 ^ k <= a.natAbs:=Nat.div_le_self _ _
  have d1:a.natAbs / 1000000000 ^ (k + 1) = a.natAbs / 1000000000 ^ k / 1000000000:=by rw [Nat.pow_succ,Nat.div_div_eq_div_mul]
  have g:=int64_loop (fa:=fa) h hq k (by omega)
  refine kInt64H _ _ _ _ _ ⟨fun x => ?_,fun x => by omega⟩
  rw [e1,e2,show Sp.limI a = Sp.limN (Sp.cnt a.natAbs) a.natAbs from rfl,limN_getD _ (by omega),limN_len,d1]
  generalize a.natAbs / 1000000000 ^ k = w at *
  have ew:((w / 1000000000:Nat):Int) * 1000000000 + ((w % 1000000000:Nat):Int) = (w:Int):=by omega
  rw [ew]
  exact ⟨by omega,by omega,by omega,by omega,by omega,by omega,g⟩
theorem ev118 (fa:Bool) (a:Int) (h:Sp.inN a):Ev M1 (.pure 118 [bigA fa a]) (.tup [.int .i64 a,.bool true]) []:=by
 have c3:=small_cnt h
 have ob:Sp.okB a:=by unfold Sp.okB;omega
 have o1:Sp.okB (-9223372036854775808):=(by unfold Sp.okB;have:=@small_cnt 9223372036854775807 (by unfold Sp.inN;omega);have e:Sp.cnt (Int.natAbs (-9223372036854775808)) <= 3:=fits_cnt.1 (by unfold Sp.fits;decide);omega)
 have o2:Sp.okB 9223372036854775807:=(by unfold Sp.okB;have:=@small_cnt 9223372036854775807 (by unfold Sp.inN;omega);omega)
 have hl:(Sp.limI a).length = Sp.cnt a.natAbs:=limI_len a
 have hn:=h
 unfold Sp.inN at hn
 have g:=int64_loop (fa:=fa) h rfl (Sp.cnt a.natAbs) (Nat.le_refl _)
 rw [fits_div (fits_self a.natAbs) (Nat.le_refl _)] at g
 have s1:¬Sp.sgnI (a - -9223372036854775808) < 0:=by
  unfold Sp.sgnI
  (repeat' split) <;> omega
 have s2:¬Sp.sgnI (a - 9223372036854775807) > 0:=by
  unfold Sp.sgnI
  (repeat' split) <;> omega
 refine call118 (kInt64 _ _ _ ⟨by unfold Sp.inI;omega,_,ev76 fa false a (-9223372036854775808) ⟨ob,o1⟩,fun _ => by unfold Sp.inI;omega,_,fun _ => ev76 fa false a 9223372036854775807 ⟨ob,o2⟩,fun x => absurd x (fun y => y.elim s1 s2),fun _ => ?_⟩)
 rw [hl]
 exact ⟨by omega,g⟩
theorem dist_ok {ax ay az bx by_ bz:Int} (h:Sp.inP ax ay az /\ Sp.inP bx by_ bz):(Sp.inQ (bx - ax) /\ Sp.inQ (by_ - ay) /\ Sp.inQ (bz - az)) /\ Sp.okNs (Sp.sqr (bx - ax) (by_ - ay) (bz - az)):=by
 unfold Sp.inP Sp.inM at h
 have q:Sp.inQ (bx - ax) /\ Sp.inQ (by_ - ay) /\ Sp.inQ (bz - az):=by unfold Sp.inQ;omega
 have:=sqr_bound q.1 q.2.1 q.2.2
 exact ⟨q,by unfold Sp.okNs;omega⟩
theorem sq_small {n:Int} (h:Sp.okNs n):0 <= Sp.sq n /\ Sp.sq n <= 2000000000 /\ Sp.sq n * Sp.sq n <= n /\ n < (Sp.sq n + 1) * (Sp.sq n + 1):=by
 obtain ⟨a,b,c⟩:=sq_low h.1
 refine ⟨c,?_,a,b⟩
 apply Classical.byContradiction
 intro x
 have:=(sq_ge (a:=2000000001) (by omega) h.1).1 (by omega)
 have:=h.2
 omega
theorem upR_le {n:Int} (h:Sp.okNs n) (k:n <= 1200000000000000):0 <= Sp.upR n /\ Sp.upR n <= 100000000:=by
 obtain ⟨a,b,c,d⟩:=sq_small h
 have:Sp.sq n < 40000000:=by
  apply Classical.byContradiction
  intro x
  have:=(sq_ge (a:=40000000) (by omega) h.1).1 (by omega)
  omega
 unfold Sp.upR
 split <;> omega
theorem ev53 (ax ay az bx by_ bz:Int):Ev M1 (.pure 53 [.agg [.int .i64 ax,.int .i64 ay,.int .i64 az],.agg [.int .i64 bx,.int .i64 by_,.int .i64 bz]]) (.tup [.int .i64 (Sp.dist ax ay az bx by_ bz),.int .i64 (Sp.distE ax ay az bx by_ bz)]) []:=by
 refine call53 (kLengthR _ _ _ _ _ _ _ ⟨fun x => ?_,fun x => ?_⟩)
 ·have n:¬(Sp.inP ax ay az /\ Sp.inP bx by_ bz):=fun y => x.elim (fun z => z y.1) fun z => z y.2
  unfold Sp.dist Sp.distE
  rw [if_neg n,if_neg n]
 ·have y:Sp.inP ax ay az /\ Sp.inP bx by_ bz:=⟨Classical.not_not.1 fun z => x (.inl z),Classical.not_not.1 fun z => x (.inr z)⟩
  obtain ⟨q,n⟩:=dist_ok y
  obtain ⟨s1,s2,s3,s4⟩:=sq_small n
  unfold Sp.dist Sp.distE Sp.upR
  rw [if_pos y,if_pos y]
  have n':=n
  unfold Sp.okNs at n'
  have q':=q
  unfold Sp.inQ at q'
  have m0:=nn_sq (Sp.sq (Sp.sqr (bx - ax) (by_ - ay) (bz - az)))
  refine ⟨by omega,by omega,by omega,q,n,by omega,fun z => ⟨by omega,by rw [if_pos z]⟩,fun z => by rw [if_neg z]⟩
theorem af_ok {n u v:Int} (h:Sp.isV n /\ Sp.isLen u /\ Sp.isAcc v):(0 <= n * n /\ n * n <= 1000000000000) /\ (0 <= 2 * v * u /\ 2 * v * u <= 20000000000000000) /\ Sp.okNs (n * n + 2 * v * u):=by
 unfold Sp.isV Sp.isLen Sp.isAcc at h
 have a:=nn_sq n
 have b:n * n <= 1000000 * 1000000:=sq_le_sq (by omega) (by omega)
 have c:0 <= 2 * v * u:=Int.mul_nonneg (by omega) (by omega)
 have d:2 * v * u <= 200000000 * 100000000:=Int.mul_le_mul (by omega) (by omega) (by omega) (by omega)
 unfold Sp.okNs
 omega
theorem valid_loop {fl:Bool} {l:List Pt} {dq:AV} (hl:(l.length:Int) <= 2000):∀ (k i:Nat),i + k = l.length -> AV.int .i64 (if Sp.okFrom l i then 0 else 1) = dq -> kValidH_at fl l l.length i (PureQ dq)
 | 0,i,h,hq => by
  have e:=okFrom_end (l:=l) (i:=i) (by omega)
  refine kValidH _ _ _ _ _ ⟨fun x => by omega,fun _ => ?_⟩
  rw [if_pos e] at hq;exact hq
 | k + 1,i,h,hq => by
  have e:=okFrom_iff (l:=l) (i:=i) (by omega)
  refine kValidH _ _ _ _ _ ⟨fun x => ?_,fun x => by omega⟩
  rw [Int.toNat_natCast]
  refine ⟨by omega,by omega,fun y => ?_,fun y => ⟨by omega,?_⟩⟩
  ·rw [if_neg] at hq
   ·exact hq
   ·rw [e]
    intro z
    have z:=z.1
    unfold Sp.okPt Sp.isLen Sp.isV at z
    omega
  ·rw [show (i:Int) + 1 = ((i + 1:Nat):Int) by omega]
   refine valid_loop hl k (i + 1) (by omega) ?_
   rw [<- hq]
   congr 1
   have z:Sp.okPt (l.getD i default):=by unfold Sp.okPt Sp.isLen Sp.isV;omega
   refine ite_iff ?_
   rw [e]
   exact ⟨fun w => ⟨z,w⟩,fun v => v.2⟩
theorem ev55 (fl:Bool) (l:List Pt) (a:Int):Ev M1 (.pure 55 [.vec fl 3 (l.map Pt.a),.int .i64 a]) (.int .i64 (Sp.validE l a)) []:=by
 refine call55 (kValid _ _ _ _ ⟨fun x => by unfold Sp.validE;rw [if_pos x],fun x => ?_⟩)
 unfold Sp.validE
 rw [if_neg x]
 refine ⟨fun y => by rw [if_neg fun z => y z.1],fun y => valid_loop (by omega) l.length 0 (by omega) ?_⟩
 congr 1
 by_cases k:Sp.okPts l a
 ·rw [if_pos k,if_pos]
  exact (okPts_from.1 k).2
 ·rw [if_neg k,if_neg]
  intro z
  exact k (okPts_from.2 ⟨Classical.not_not.1 y,z⟩)
theorem ev26 (x y z:Int):Ev M1 (.pure 26 [.agg [.int .i64 x,.int .i64 y,.int .i64 z]]) (.bool (decide (¬Sp.inP x y z))) []:=by
 refine call26 (kFar _ _ _ _ ?_)
 refine kFarH _ _ _ _ _ ⟨fun _ => ⟨by omega,by decide,by show 0 < 3;omega,fun a => ?_,fun a => ⟨by omega,?_⟩⟩,fun k => absurd k (by decide)⟩
 ·rw [decide_eq_true];exact fun k => a k.1
 refine kFarH _ _ _ _ _ ⟨fun _ => ⟨by omega,by decide,by show 1 < 3;omega,fun b => ?_,fun b => ⟨by omega,?_⟩⟩,fun k => absurd k (by decide)⟩
 ·rw [decide_eq_true];exact fun k => b k.2.1
 refine kFarH _ _ _ _ _ ⟨fun _ => ⟨by omega,by decide,by show 2 < 3;omega,fun c => ?_,fun c => ⟨by omega,?_⟩⟩,fun k => absurd k (by decide)⟩
 ·rw [decide_eq_true];exact fun k => c k.2.2
 refine kFarH _ _ _ _ _ ⟨fun k => absurd k (by decide),fun _ => ?_⟩
 rw [decide_eq_false]
 exact fun k => k ⟨Classical.not_not.1 a,Classical.not_not.1 b,Classical.not_not.1 c⟩
end Go.Av

namespace Go.Av
open Go.Proofs
set_option maxRecDepth 100000
def fi23:Fi:=⟨26,[.tmp 4]⟩
def kp23:List (Nat × List Nat):=[(0,[0,1]),(1,[0,1,10]),(2,[4]),(3,[0,1,12,13]),(4,[0,1,12,13,14]),(5,[0,1,5,12,13]),(6,[0,1,12,13,24]),(7,[4]),(8,[0,1,12,13]),(9,[4])]
def fi87:Fi:=⟨21,[.tmp 2]⟩
def kp87:List (Nat × List Nat):=[(0,[0]),(1,[3,4]),(2,[3,14]),(3,[2]),(4,[5]),(5,[2])]
def kSqrt_at (n:Int) (Q:AV -> Heap -> Prop):Prop:=Wp M1 (.run fi87 (atC (cd Tryz.f87) []) [(0,.int .i64 n)] []) Q
def kEq_at (f g:Bool) (s t:List Int) (Q:AV -> Heap -> Prop):Prop:=Wp M1 (.run fi23 (atC (cd Tryz.f23) []) [(0,.vec f 1 (s.map (.int .i64))),(1,.vec g 1 (t.map (.int .i64)))] []) Q
def kEqH_at (f g:Bool) (s t:List Int) (n i:Int) (Q:AV -> Heap -> Prop):Prop:=Wp M1 (.run fi23 (atC (cd Tryz.f23) [1,1,0,1,0,0]) [(0,.vec f 1 (s.map (.int .i64))),(1,.vec g 1 (t.map (.int .i64))),(12,.int .i64 n),(13,.int .i64 i)] []) Q
theorem call23 {args:List AV} {d:AV} (h:wc M1 fi23 Tryz.f23 args d):Ev M1 (.pure 23 args) d []:=pcl _ _ (by kernel_rfl) h
theorem call87 {args:List AV} {d:AV} (h:wc M1 fi87 Tryz.f87 args d):Ev M1 (.pure 87 args) d []:=pcl _ _ (by kernel_rfl) h
theorem kSqrt (n:Int)  (dq:AV) (H :
  (Sp.inI n) /\
  (Sp.okS n) /\
  ((¬Sp.sqe n = 0) -> vi 0 = dq) /\
  (¬(¬Sp.sqe n = 0) -> (Sp.inN (Sp.sq n)) /\
   vi (Sp.sq n) = dq)) :
 kSqrt_at n (PureQ dq):=by
 unfold kSqrt_at
 obtain ⟨k1,H⟩:=H
 obtain ⟨k2,H⟩:=H
 refine path_wp (G:=given kp87 [(1,1,.call (bigA false n) none),(1,2,.call (tu [bigA false (Sp.sq n),vi (Sp.sqe n)]) none)] []) 7 [] ⟨(atC (cd Tryz.f87) [1,1,0,1]),[(3,AV.ptr 0 0 0 0),(14,vb (Sp.sqe n != 0))],[⟨[bigA false (Sp.sq n)],2,0,false,false⟩],_,[],_⟩ (by kernel_rfl) (bc rfl b0) q0 (ce (@ev72 (n) k1) (ce (@ev117 (false) (n) k2) c0)) ?_
 rcases xm (¬Sp.sqe n = 0) with d4 | d4
 ·have H:=H.1 d4
  exact path_re (G:=given kp87 [] []) 1000 [true] (vi 0) (by kernel_rfl) (bc (beq_t (i_ne.2 d4)) b0) q0 c0 H
 ·have H:=H.2 d4
  obtain ⟨k5,H⟩:=H
  exact path_re (G:=given kp87 [(4,1,.call (tu [vi (Sp.sq n),vb true]) none)] []) 1000 [false] (vi (Sp.sq n)) (by kernel_rfl) (bc (beq_f (fun h => d4 (i_ne.1 h))) (bc rfl b0)) q0 (ce (@ev118 (false) (Sp.sq n) k5) c0) H
theorem kEq (f g:Bool) (s t:List Int)  (dq:AV) (H :
  ((¬(↑s.length:Int) = (↑t.length:Int)) -> vb false = dq) /\
  (¬(¬(↑s.length:Int) = (↑t.length:Int)) -> kEqH_at (f) (g) (s) (t) ((↑s.length:Int)) (0) (PureQ dq))) :
 kEq_at f g s t (PureQ dq):=by
 unfold kEq_at
 have w1:(List.map (vi) s).length = s.length:=List.length_map ..
 have w2:(List.map (vi) t).length = t.length:=List.length_map ..
 have i3:((↑(List.map (vi) s).length:Int) != (↑(List.map (vi) t).length:Int)) = true ↔ (¬(↑s.length:Int) = (↑t.length:Int)):=(by (try rw [w1]);(try rw [w2]);all_goals exact i_ne)
 rcases xm (¬(↑s.length:Int) = (↑t.length:Int)) with d4 | d4
 ·have H:=H.1 d4
  exact path_re (G:=given kp23 [] []) 1000 [true] (vb false) (by kernel_rfl) (bc (beq_t (i3.2 d4)) b0) q0 c0 H
 ·have H:=H.2 d4
  exact path_wp (G:=given kp23 [] []) 1000 [false] ⟨(atC (cd Tryz.f23) [1,1,0,1,0,0]),[(0,AV.vec f 1 (List.map (vi) s)),(1,AV.vec g 1 (List.map (vi) t)),(12,vi (↑(List.map (vi) s).length:Int)),(13,vi 0)],[],_,[],_⟩ (by kernel_rfl) (bc (beq_f (fun h => d4 (i3.1 h))) b0) q0 c0 (by (try rw [w1]);all_goals exact H)
theorem kEqH (f g:Bool) (s t:List Int) (n i:Int)  (dq:AV) (H :
  ((i < n) -> (0 <= i) /\
   (i.toNat < s.length) /\
   (i.toNat < t.length) /\
   ((¬s.getD i.toNat default = t.getD i.toNat default) -> vb false = dq) /\
   (¬(¬s.getD i.toNat default = t.getD i.toNat default) -> (-9223372036854775808 <= i + 1 /\ i + 1 <= 9223372036854775807) /\
    kEqH_at (f) (g) (s) (t) (n) (i + 1) (PureQ dq))) /\
  (¬(i < n) -> vb true = dq)) :
 kEqH_at f g s t n i (PureQ dq):=by
 unfold kEqH_at
 rcases xm (i < n) with d2 | d2
 ·have H:=H.1 d2
  obtain ⟨k4,H⟩:=H
  have w5:(List.map (vi) s).length = s.length:=List.length_map ..
  have i6:(decide (i.toNat < (List.map (vi) s).length)) = true ↔ (i.toNat < s.length):=(by (try rw [w5]);all_goals exact i_dec)
  obtain ⟨k7,H⟩:=H
  have w9:(List.map (vi) t).length = t.length:=List.length_map ..
  have i10:(decide (i.toNat < (List.map (vi) t).length)) = true ↔ (i.toNat < t.length):=(by (try rw [w9]);all_goals exact i_dec)
  obtain ⟨k11,H⟩:=H
  refine path_wp (G:=given kp23 [(6,3,.elem (vi (s.getD i.toNat default))),(6,7,.elem (vi (t.getD i.toNat default)))] []) 11 [true] ⟨(atC (cd Tryz.f23) [1,1,0,1,0,0,1,1,0,0,1,1]),[(0,AV.vec f 1 (List.map (vi) s)),(1,AV.vec g 1 (List.map (vi) t)),(12,vi n),(13,vi i),(24,vb (s.getD i.toNat default != t.getD i.toNat default))],[],_,[((List.map (vi) s).get?Internal i.toNat = some (vi (s.getD i.toNat default))),((List.map (vi) t).get?Internal i.toNat = some (vi (t.getD i.toNat default)))],_⟩ (by kernel_rfl) (bc (beq_t (i_dec.2 d2)) (bc (i_dec.2 k4) (bc (i6.2 k7) (bc (i_dec.2 k4) (bc (i10.2 k11) b0))))) (qc (el_map k7) (qc (el_map k11) q0)) c0 ?_
  rcases xm (¬s.getD i.toNat default = t.getD i.toNat default) with d13 | d13
  ·have H:=H.1 d13
   exact path_re (G:=given kp23 [] []) 1000 [true] (vb false) (by kernel_rfl) (bc (beq_t (i_ne.2 d13)) b0) q0 c0 H
  ·have H:=H.2 d13
   obtain ⟨k14,H⟩:=H
   have w15:wi (i + 1) = i + 1:=wI64 k14
   exact path_wp (G:=given kp23 [] []) 1000 [false] ⟨(atC (cd Tryz.f23) [1,1,0,1,0,0]),[(0,AV.vec f 1 (List.map (vi) s)),(1,AV.vec g 1 (List.map (vi) t)),(12,vi n),(13,vi (wi (i + 1)))],[],_,[],_⟩ (by kernel_rfl) (bc (beq_f (fun h => d13 (i_ne.1 h))) b0) q0 c0 (by (try rw [w15]);all_goals exact H)
 ·have H:=H.2 d2
  exact path_re (G:=given kp23 [] []) 1000 [false] (vb true) (by kernel_rfl) (bc (beq_f (fun h => d2 (i_dec.1 h))) b0) q0 c0 H
end Go.Av

namespace Go.Av
open Go.Proofs
namespace Sp
def bs (p:Int -> Bool):Nat -> Int -> Int -> Int
 | 0,i,_ => i
 | k + 1,i,j => bif decide (i < j) then (bif p ((i + j) / 2) then bs p k i ((i + j) / 2) else bs p k ((i + j) / 2 + 1) j) else i
def isS (p:Int -> Bool) (h r:Int):Prop:=0 <= r /\ r <= h /\ (r = 0 \/ p (r - 1) = false) /\ (r = h \/ p r = true)
end Sp
theorem bs_done {p:Int -> Bool} {k:Nat} {i j:Int} (h:¬i < j):Sp.bs p k i j = i:=by
 cases k with
 | zero => rfl
 | succ k => unfold Sp.bs;rw [decide_eq_false h,cond_false]
theorem bs_spec {p:Int -> Bool} {h:Int}:∀ (k:Nat) {i j:Int},j - i < 2 ^ k -> 0 <= i -> i <= j -> j <= h -> (i = 0 \/ p (i - 1) = false) -> (j = h \/ p j = true) -> Sp.isS p h (Sp.bs p k i j)
 | 0,i,j,a,b,c,d,e,f => by
  have:i = j:=by omega
  subst this
  exact ⟨b,d,e,f⟩
 | k + 1,i,j,a,b,c,d,e,f => by
  by_cases n:i < j
  ·unfold Sp.bs
   rw [decide_eq_true n,cond_true]
   rw [Int.pow_succ] at a
   cases m:p ((i + j) / 2) with
   | true =>
    rw [cond_true]
    exact bs_spec k (by omega) b (by omega) (by omega) e (.inr m)
   | false =>
    rw [cond_false]
    exact bs_spec k (by omega) (by omega) (by omega) d (.inr (by rw [Int.add_sub_cancel];exact m)) f
  ·rw [bs_done n]
   have:i = j:=by omega
   subst this
   exact ⟨b,d,e,f⟩
theorem bs_all {p:Int -> Bool} {h:Int} (h0:0 <= h) (hk:h < 2 ^ 40):Sp.isS p h (Sp.bs p 40 0 h):=
 bs_spec 40 (by omega) (by omega) h0 (by omega) (.inl rfl) (.inl rfl)
theorem bs_step {p:Int -> Bool} {k:Nat} {i j:Int} (h:i < j):Sp.bs p (k + 1) i j = bif p ((i + j) / 2) then Sp.bs p k i ((i + j) / 2) else Sp.bs p k ((i + j) / 2 + 1) j:=by
 rw [Sp.bs,decide_eq_true h,cond_true]
end Go.Av

namespace Go.Av
open Go.Proofs
theorem ev87 (n:Int) (h:Sp.okNs n):Ev M1 (.pure 87 [.int .i64 n]) (.int .i64 (Sp.sq n)) []:=by
 obtain ⟨a,b,c,d⟩:=sq_small h
 unfold Sp.okNs at h
 have e:Sp.sqe n = 0:=by unfold Sp.sqe;rw [if_neg (by omega)]
 have k:=@small_cnt n (by unfold Sp.inN;omega)
 exact call87 (kSqrt _ _ ⟨by unfold Sp.inI;omega,by unfold Sp.okS;omega,fun x => absurd e x,fun _ => ⟨by unfold Sp.inN;omega,rfl⟩⟩)
namespace Sp
def fastE (n u v:Int):Int:=if isV n /\ isLen u /\ isAcc v then 0 else 1
noncomputable def fastV (n u v:Int):Int:=if isV n /\ isLen u /\ isAcc v then af (2 * v * u) n else 0
end Sp
namespace Sp
def chk (l:List Pt) (a:Int) (s:List Int) (i:Nat):Prop:=
 (0 <= s.getD i default /\ s.getD i default <= (l.getD i default).spd) /\ (0 <= s.getD (i + 1) default /\ s.getD (i + 1) default <= (l.getD i default).spd /\ s.getD (i + 1) default <= (l.getD i default).cor) /\
 s.getD i default * s.getD i default - s.getD (i + 1) default * s.getD (i + 1) default <= kA l a i /\ s.getD (i + 1) default * s.getD (i + 1) default - s.getD i default * s.getD i default <= kA l a i
def chkFrom (l:List Pt) (a:Int) (s:List Int) (i:Nat):Prop:=∀ j,j < l.length -> i <= j -> chk l a s j
def ends (l:List Pt) (s:List Int):Prop:=s.length = l.length + 1 /\ s.getD 0 default = 0 /\ s.getD l.length default = 0
def feas (l:List Pt) (a:Int) (s:List Int):Prop:=validE l a = 0 /\ ends l s /\ chkFrom l a s 0
end Sp
instance (l:List Pt) (a:Int) (s:List Int) (i:Nat):Decidable (Sp.chk l a s i):=by unfold Sp.chk;infer_instance
instance (l:List Pt) (a:Int) (s:List Int) (i:Nat):Decidable (Sp.chkFrom l a s i):=by unfold Sp.chkFrom;infer_instance
instance (l:List Pt) (s:List Int):Decidable (Sp.ends l s):=by unfold Sp.ends;infer_instance
instance (l:List Pt) (a:Int) (s:List Int):Decidable (Sp.feas l a s):=by unfold Sp.feas;infer_instance
theorem validE_ok {l:List Pt} {a:Int} (h:Sp.validE l a = 0):(l.length:Int) <= 2000 /\ Sp.okPts l a:=by
 unfold Sp.validE at h
 split at h
 ·omega
 ·split at h
  ·exact ⟨by omega,by assumption⟩
  ·omega
theorem min_if (x b:Int):(if x < b then x else b) = min b x:=by split <;> omega
namespace Sp
noncomputable def spdV (l:List Pt) (a:Int):List Int:=if validE l a = 0 then spds l a else []
end Sp
theorem weak_nil2 {e:Int}:Weak (AV.tup [AV.vnil,AV.int .i64 e]) (AV.tup [AV.vec false 1 [],AV.int .i64 e]):=by
 refine .tup _ _ rfl fun i x y hx hy => ?_
 match i with
 | 0 => simp at hx hy;subst hx;subst hy;exact .vnil 1
 | 1 => simp at hx hy;subst hx;subst hy;exact .refl _
 | i + 2 => simp at hx
theorem eq_loop {f g:Bool} {s t:List Int} {dq:AV} (h:s.length = t.length) (hs:(s.length:Int) <= 1000000000):∀ (k i:Nat),i + k = s.length -> AV.bool (decide (s.drop i = t.drop i)) = dq -> kEqH_at f g s t s.length i (PureQ dq)
 | 0,i,e,hq => by
  refine kEqH _ _ _ _ _ _ _ ⟨fun x => by omega,fun _ => ?_⟩
  rw [List.drop_eq_nil_of_le (by omega),List.drop_eq_nil_of_le (by omega)] at hq
  exact hq
 | k + 1,i,e,hq => by
  rw [drop_getD (d:=s) (i:=i) (by omega),drop_getD (d:=t) (i:=i) (by omega)] at hq
  refine kEqH _ _ _ _ _ _ _ ⟨fun x => ?_,fun x => by omega⟩
  rw [Int.toNat_natCast]
  refine ⟨by omega,by omega,by omega,fun y => ?_,fun y => ⟨by omega,?_⟩⟩
  ·rw [decide_eq_false (fun z => y (List.cons.inj z).1)] at hq;exact hq
  ·rw [show (i:Int) + 1 = ((i + 1:Nat):Int) by omega]
   refine eq_loop h hs k (i + 1) (by omega) ?_
   rw [<- hq]
   congr 1
   refine dec_iff ⟨fun z => ?_,fun z => (List.cons.inj z).2⟩
   rw [Classical.not_not.1 y,z]
theorem ev23 (f g:Bool) (s t:List Int) (h:(s.length:Int) <= 1000000000):Ev M1 (.pure 23 [.vec f 1 (s.map (.int .i64)),.vec g 1 (t.map (.int .i64))]) (.bool (decide (s = t))) []:=by
 refine call23 (kEq _ _ _ _ _ ⟨fun x => ?_,fun x => ?_⟩)
 ·rw [decide_eq_false]
  intro e
  exact x (by rw [e])
 ·exact eq_loop (by omega) h s.length 0 (by omega) rfl
end Go.Av

namespace Go.Av
open Go.Proofs
set_option maxRecDepth 100000
def fi43:Fi:=⟨9,[.tmp 2]⟩
def kp43:List (Nat × List Nat):=[(0,[1]),(1,[1,6]),(2,[2]),(3,[8]),(4,[2]),(5,[2])]
def fi80:Fi:=⟨21,[.tmp 2]⟩
def kp80:List (Nat × List Nat):=[(0,[0]),(1,[0,14]),(2,[0]),(3,[2])]
def fi81:Fi:=⟨41,[.tmp 4]⟩
def kp81:List (Nat × List Nat):=[(0,[0,1]),(1,[0,1,10]),(2,[15]),(3,[4]),(4,[4]),(5,[0,1,5]),(6,[0,1,5,20]),(7,[0,1,5]),(8,[0,1,5,31]),(9,[4]),(10,[0,1,5,40]),(11,[4]),(12,[4])]
def fi84:Fi:=⟨21,[.tmp 2]⟩
def kp84:List (Nat × List Nat):=[(0,[0]),(1,[0,3]),(2,[0,3,4]),(3,[0,3,4,9]),(4,[0,3,4]),(5,[0,3,4]),(6,[2])]
def fi85:Fi:=⟨15,[.tmp 2]⟩
def kp85:List (Nat × List Nat):=[(0,[0]),(1,[0,3]),(2,[0,3,5]),(3,[0,3]),(4,[0,3]),(5,[2])]
def rTrim_at (fa:Bool) (a:List Int) (Q:AV -> Heap -> Prop):Prop:=Wp M1 (.run fi80 (atC (cd Tryz.f80) []) [(0,.vec fa 1 (a.map (.int .u32)))] []) Q
def rTrimA_at (fa:Bool) (a:List Int) (Q:AV -> Heap -> Prop):Prop:=Wp M1 (.run fi80 (atC (cd Tryz.f80) [1,0,0,0]) [(0,.vec fa 1 (a.map (.int .u32)))] []) Q
def rLimbs_at (u:Int) (Q:AV -> Heap -> Prop):Prop:=Wp M1 (.run fi85 (atC (cd Tryz.f85) []) [(0,.int .u64 u)] []) Q
def rLimbs0_at (u:Int) (Q:AV -> Heap -> Prop):Prop:=Wp M1 (.run fi85 (atC (cd Tryz.f85) [1,1,0,0,0]) [(0,.int .u64 u),(3,.vnil)] []) Q
def rLimbsA_at (u:Int) (o:List Int) (v:Nat) (Q:AV -> Heap -> Prop):Prop:=Wp M1 (.run fi85 (atC (cd Tryz.f85) [1,1,0,0,0]) [(0,.int .u64 u),(3,.row 0 v)] [⟨o.map (.int .u32),1,v,false,true⟩]) Q
def rShort_at (fa:Bool) (a:List Int) (Q:AV -> Heap -> Prop):Prop:=Wp M1 (.run fi84 (atC (cd Tryz.f84) []) [(0,.vec fa 1 (a.map (.int .u32)))] []) Q
def rShortA_at (fa:Bool) (a:List Int) (n i:Int) (Q:AV -> Heap -> Prop):Prop:=Wp M1 (.run fi84 (atC (cd Tryz.f84) [1,1,0,1,0,0]) [(0,.vec fa 1 (a.map (.int .u32))),(3,.int .u64 n),(4,.int .i64 i)] []) Q
def rCompare_at (fa fb:Bool) (a b:List Int) (Q:AV -> Heap -> Prop):Prop:=Wp M1 (.run fi81 (atC (cd Tryz.f81) []) [(0,.vec fa 1 (a.map (.int .u32))),(1,.vec fb 1 (b.map (.int .u32)))] []) Q
def rCompareA_at (fa fb:Bool) (a b:List Int) (i:Int) (Q:AV -> Heap -> Prop):Prop:=Wp M1 (.run fi81 (atC (cd Tryz.f81) [1,1,0,1,0,0]) [(0,.vec fa 1 (a.map (.int .u32))),(1,.vec fb 1 (b.map (.int .u32))),(5,.int .i64 i)] []) Q
def rSign_at (fa:Bool) (v:Int) (Q:AV -> Heap -> Prop):Prop:=Wp M1 (.run fi43 (atC (cd Tryz.f43) []) [(0,bigA fa v)] []) Q
theorem call43 {args:List AV} {d:AV} (h:wc M1 fi43 Tryz.f43 args d):Ev M1 (.pure 43 args) d []:=pcl _ _ (by kernel_rfl) h
theorem call80 {args:List AV} {d:AV} (h:wc M1 fi80 Tryz.f80 args d):Ev M1 (.pure 80 args) d []:=pcl _ _ (by kernel_rfl) h
theorem call81 {args:List AV} {d:AV} (h:wc M1 fi81 Tryz.f81 args d):Ev M1 (.pure 81 args) d []:=pcl _ _ (by kernel_rfl) h
theorem call84 {args:List AV} {d:AV} (h:wc M1 fi84 Tryz.f84 args d):Ev M1 (.pure 84 args) d []:=pcl _ _ (by kernel_rfl) h
theorem call85 {args:List AV} {d:AV} (h:wc M1 fi85 Tryz.f85 args d):Ev M1 (.pure 85 args) d []:=pcl _ _ (by kernel_rfl) h
theorem rTrim (fa:Bool) (a:List Int)  (dq:AV) (H :
  rTrimA_at (fa) (a) (PureQ dq)) :
 rTrim_at fa a (PureQ dq):=by
 unfold rTrim_at
 exact path_wp (G:=given kp80 [] []) 1000 [] ⟨(atC (cd Tryz.f80) [1,0,0,0]),[(0,AV.vec fa 1 (us a))],[],_,[],_⟩ (by kernel_rfl) b0 q0 c0 (H)
theorem rTrimA (fa:Bool) (a:List Int)  (dq:AV) (H :
  (-9223372036854775808 <= (↑a.length:Int) - 1 /\ (↑a.length:Int) - 1 <= 9223372036854775807) /\
  (((↑a.length:Int) > 0) -> (0 <= (↑a.length:Int) - 1)) /\
  (((↑a.length:Int) > 0) -> (((↑a.length:Int) - 1).toNat < a.length)) /\
  ((((↑a.length:Int) > 0) /\ (a.getD ((↑a.length:Int) - 1).toNat default = 0)) -> (0 <= (↑a.length:Int) - 1) /\
   (0 <= ((↑a.length:Int) - 1).toNat) /\
   (((↑a.length:Int) - 1).toNat <= a.length) /\
   rTrimA_at (fa && false) (List.drop 0 (List.take ((↑a.length:Int) - 1).toNat a)) (PureQ dq)) /\
  (¬(((↑a.length:Int) > 0) /\ (a.getD ((↑a.length:Int) - 1).toNat default = 0)) -> Weak (AV.vec fa 1 (us a)) dq)) :
 rTrimA_at fa a (PureQ dq):=by
 unfold rTrimA_at
 have w1:(us a).length = a.length:=List.length_map ..
 obtain ⟨k2,H⟩:=H
 have w3:wi ((↑a.length:Int) - 1) = (↑a.length:Int) - 1:=wI64 k2
 have i4:(!(decide ((↑(us a).length:Int) > 0) == true && true) || decide (0 <= wi ((↑(us a).length:Int) - 1))) = true ↔ (((↑a.length:Int) > 0) -> (0 <= (↑a.length:Int) - 1)):=(by (try rw [w1]);(try rw [w3]);all_goals exact (i_imp (i_at (i_bt i_dec)) i_dec))
 obtain ⟨k5,H⟩:=H
 have i6:(!(decide ((↑(us a).length:Int) > 0) == true && true) || decide ((wi ((↑(us a).length:Int) - 1)).toNat < (us a).length)) = true ↔ (((↑a.length:Int) > 0) -> (((↑a.length:Int) - 1).toNat < a.length)):=(by (try rw [w1]);(try rw [w3]);all_goals exact (i_imp (i_at (i_bt i_dec)) i_dec))
 obtain ⟨k7,H⟩:=H
 have i9:(bif decide ((↑(us a).length:Int) > 0) then a.getD ((↑a.length:Int) - 1).toNat default == 0 else false) = true ↔ (((↑a.length:Int) > 0) /\ (a.getD ((↑a.length:Int) - 1).toNat default = 0)):=(by (try rw [w1]);all_goals exact (i_band i_dec i_eq))
 refine path_wp (G:=given kp80 [(1,9,.elem (vu (a.getD ((↑a.length:Int) - 1).toNat default)))] []) 3 [] ⟨(atC (cd Tryz.f80) [1,0,0,0,0,1]),[(0,AV.vec fa 1 (us a)),(14,vb (bif decide ((↑(us a).length:Int) > 0) then a.getD ((↑a.length:Int) - 1).toNat default == 0 else false))],[],_,[((decide ((↑(us a).length:Int) > 0) == true && true) = true -> (us a).get?Internal (wi ((↑(us a).length:Int) - 1)).toNat = some (vu (a.getD ((↑a.length:Int) - 1).toNat default)))],_⟩ (by kernel_rfl) (bc (i4.2 k5) (bc (i6.2 k7) b0)) (qc (by (try rw [w1]);(try rw [w3]);all_goals exact (fun h => el_map (k7 ((i_at (i_bt i_dec)).1 h)))) q0) c0 ?_
 rcases xm (((↑a.length:Int) > 0) /\ (a.getD ((↑a.length:Int) - 1).toNat default = 0)) with d10 | d10
 ·have H:=H.1 d10
  have i11:(decide (0 <= wi ((↑(us a).length:Int) - 1))) = true ↔ (0 <= (↑a.length:Int) - 1):=(by (try rw [w1]);(try rw [w3]);all_goals exact i_dec)
  obtain ⟨k12,H⟩:=H
  have i13:(decide (0 <= (wi ((↑(us a).length:Int) - 1)).toNat)) = true ↔ (0 <= ((↑a.length:Int) - 1).toNat):=(by (try rw [w1]);(try rw [w3]);all_goals exact i_dec)
  obtain ⟨k14,H⟩:=H
  have i15:(decide ((wi ((↑(us a).length:Int) - 1)).toNat <= (us a).length)) = true ↔ (((↑a.length:Int) - 1).toNat <= a.length):=(by (try rw [w1]);(try rw [w3]);all_goals exact i_dec)
  obtain ⟨k16,H⟩:=H
  have w17:List.take ((↑a.length:Int) - 1).toNat (us a) = us (List.take ((↑a.length:Int) - 1).toNat a):=(lm_take rfl)
  have w18:List.drop 0 (us (List.take ((↑a.length:Int) - 1).toNat a)) = us (List.drop 0 (List.take ((↑a.length:Int) - 1).toNat a)):=(lm_drop rfl)
  exact path_wp (G:=given kp80 [] []) 1000 [true] ⟨(atC (cd Tryz.f80) [1,0,0,0]),[(0,AV.vec (fa && false) 1 (List.drop 0 (List.take (wi ((↑(us a).length:Int) - 1)).toNat (us a))))],[],_,[],_⟩ (by kernel_rfl) (bc (beq_t (i9.2 d10)) (bc (i11.2 k12) (bc (i13.2 k14) (bc (i15.2 k16) b0)))) q0 c0 (by (try rw [w1]);(try rw [w3]);(try rw [w17]);(try rw [w18]);all_goals exact H)
 ·have H:=H.2 d10
  exact path_rq (G:=given kp80 [] []) 1000 [false] (AV.vec fa 1 (us a)) (by kernel_rfl) (bc (beq_f (fun h => d10 (i9.1 h))) b0) q0 c0 H
theorem rLimbs (u:Int)  (dq:AV) (H :
  rLimbs0_at (u) (PureQ dq)) :
 rLimbs_at u (PureQ dq):=by
 unfold rLimbs_at
 exact path_wp (G:=given kp85 [] []) 1000 [] ⟨(atC (cd Tryz.f85) [1,1,0,0,0]),[(0,vw u),(3,AV.vnil)],[],_,[],_⟩ (by kernel_rfl) b0 q0 c0 (H)
theorem rLimbs0 (u:Int)  (dq:AV) (H :
  ((u > 0) -> (0 <= u.tmod 1000000000 /\ u.tmod 1000000000 <= 4294967295) /\
   (0 <= u.tdiv 1000000000 /\ u.tdiv 1000000000 <= 18446744073709551615) /\
   rLimbsA_at (u.tdiv 1000000000) ([u.tmod 1000000000]) (0) (PureQ dq)) /\
  (¬(u > 0) -> Weak (AV.vnil) dq)) :
 rLimbs0_at u (PureQ dq):=by
 unfold rLimbs0_at
 rcases xm (u > 0) with d2 | d2
 ·have H:=H.1 d2
  obtain ⟨k3,H⟩:=H
  have w4:wv (u.tmod 1000000000) = u.tmod 1000000000:=wU32 k3
  obtain ⟨k5,H⟩:=H
  have w6:wu (u.tdiv 1000000000) = u.tdiv 1000000000:=wU64 k5
  have w7:[vu (u.tmod 1000000000)] = us [u.tmod 1000000000]:=rfl
  exact path_wp (G:=given kp85 [] []) 1000 [true] ⟨(atC (cd Tryz.f85) [1,1,0,0,0]),[(0,vw (wu (u.tdiv 1000000000))),(3,AV.row 0 0)],[⟨[vu (wv (u.tmod 1000000000))],1,0,false,true⟩],_,[],_⟩ (by kernel_rfl) (bc (beq_t (i_dec.2 d2)) (bc rfl (bc rfl (bc rfl b0)))) q0 c0 (by (try rw [w4]);(try rw [w6]);(try rw [w7]);all_goals exact H)
 ·have H:=H.2 d2
  exact path_rq (G:=given kp85 [] []) 1000 [false] (AV.vnil) (by kernel_rfl) (bc (beq_f (fun h => d2 (i_dec.1 h))) b0) q0 c0 H
theorem rLimbsA (u:Int) (o:List Int) (v:Nat)  (dq:AV) (H :
  ((u > 0) -> (0 <= u.tmod 1000000000 /\ u.tmod 1000000000 <= 4294967295) /\
   ((o.length + 1) * 4 <= 1099511627776) /\
   (0 <= u.tdiv 1000000000 /\ u.tdiv 1000000000 <= 18446744073709551615) /\
   rLimbsA_at (u.tdiv 1000000000) (o ++ [u.tmod 1000000000]) (v + 1) (PureQ dq)) /\
  (¬(u > 0) -> Weak (vf (us o)) dq)) :
 rLimbsA_at u o v (PureQ dq):=by
 unfold rLimbsA_at
 rcases xm (u > 0) with d2 | d2
 ·have H:=H.1 d2
  have w3:(us o).length = o.length:=List.length_map ..
  obtain ⟨k4,H⟩:=H
  have w5:wv (u.tmod 1000000000) = u.tmod 1000000000:=wU32 k4
  have i6:(decide (((us o).length + 1) * 4 <= 1099511627776)) = true ↔ ((o.length + 1) * 4 <= 1099511627776):=(by (try rw [w3]);(try rw [w5]);all_goals exact i_dec)
  obtain ⟨k7,H⟩:=H
  have w8:us o ++ [vu (u.tmod 1000000000)] = us (o ++ [u.tmod 1000000000]):=(lm_app rfl rfl)
  obtain ⟨k9,H⟩:=H
  have w10:wu (u.tdiv 1000000000) = u.tdiv 1000000000:=wU64 k9
  exact path_wp (G:=given kp85 [] []) 1000 [true] ⟨(atC (cd Tryz.f85) [1,1,0,0,0]),[(0,vw (wu (u.tdiv 1000000000))),(3,AV.row 0 (v + 1))],[⟨us o ++ [vu (wv (u.tmod 1000000000))],1,v + 1,false,true⟩],[(decide (u > 0)) == true,true,v == v,decide (((us o).length + 1) * 4 <= 1099511627776),true],[],_⟩ (by kernel_rfl) (bc (beq_t (i_dec.2 d2)) (bc rfl (bc (beq_self_eq_true _) (bc (i6.2 k7) (bc rfl b0))))) q0 c0 (by (try rw [w5]);(try rw [w8]);(try rw [w10]);all_goals exact H)
 ·have H:=H.2 d2
  exact path_ret (G:=given kp85 [] []) 1000 [false] (k:=((atC (cd Tryz.f85) [1,1,1,1])).tail) (env':=[(2,AV.row 0 v)]) (L':=[⟨us o,1,v,false,true⟩]) (asm:=[(decide (u > 0)) == false]) (eqs:=[]) (calls:=[]) (AV.row 0 v) (by kernel_rfl) (by kernel_rfl) (allB_cons (beq_f (fun h => d2 (i_dec.1 h))) allB_nil) allP_nil allC_nil (pq_weak (d:=(vf (us o))) (bs:=[v == v]) (by kernel_rfl) (by kernel_rfl) (allB_cons (beq_self_eq_true _) allB_nil) (by kernel_rfl) H)
theorem rShort (fa:Bool) (a:List Int)  (dq:AV) (H :
  (-9223372036854775808 <= (↑a.length:Int) - 1 /\ (↑a.length:Int) - 1 <= 9223372036854775807) /\
  rShortA_at (fa) (a) (0) ((↑a.length:Int) - 1) (PureQ dq)) :
 rShort_at fa a (PureQ dq):=by
 unfold rShort_at
 have w1:(us a).length = a.length:=List.length_map ..
 obtain ⟨k2,H⟩:=H
 have w3:wi ((↑a.length:Int) - 1) = (↑a.length:Int) - 1:=wI64 k2
 exact path_wp (G:=given kp84 [] []) 1000 [] ⟨(atC (cd Tryz.f84) [1,1,0,1,0,0]),[(0,AV.vec fa 1 (us a)),(3,vw 0),(4,vi (wi ((↑(us a).length:Int) - 1)))],[],_,[],_⟩ (by kernel_rfl) b0 q0 c0 (by (try rw [w1]);(try rw [w3]);all_goals exact H)
theorem rShortA (fa:Bool) (a:List Int) (n i:Int)  (dq:AV) (H :
  ((i >= 0) -> (0 <= i) /\
   (i.toNat < a.length) /\
   (0 <= n * 1000000000 /\ n * 1000000000 <= 18446744073709551615) /\
   (0 <= a.getD i.toNat default /\ a.getD i.toNat default <= 18446744073709551615) /\
   (0 <= n * 1000000000 + a.getD i.toNat default /\ n * 1000000000 + a.getD i.toNat default <= 18446744073709551615) /\
   (-9223372036854775808 <= i - 1 /\ i - 1 <= 9223372036854775807) /\
   rShortA_at (fa) (a) (n * 1000000000 + a.getD i.toNat default) (i - 1) (PureQ dq)) /\
  (¬(i >= 0) -> vw n = dq)) :
 rShortA_at fa a n i (PureQ dq):=by
 unfold rShortA_at
 rcases xm (i >= 0) with d2 | d2
 ·have H:=H.1 d2
  obtain ⟨k4,H⟩:=H
  have w5:(us a).length = a.length:=List.length_map ..
  have i6:(decide (i.toNat < (us a).length)) = true ↔ (i.toNat < a.length):=(by (try rw [w5]);all_goals exact i_dec)
  obtain ⟨k7,H⟩:=H
  obtain ⟨k8,H⟩:=H
  have w9:wu (n * 1000000000) = n * 1000000000:=wU64 k8
  obtain ⟨k10,H⟩:=H
  have w11:wu (a.getD i.toNat default) = a.getD i.toNat default:=wU64 k10
  obtain ⟨k12,H⟩:=H
  have w13:wu (n * 1000000000 + a.getD i.toNat default) = n * 1000000000 + a.getD i.toNat default:=wU64 k12
  obtain ⟨k14,H⟩:=H
  have w15:wi (i - 1) = i - 1:=wI64 k14
  exact path_wp (G:=given kp84 [(5,5,.elem (vu (a.getD i.toNat default)))] []) 1000 [true] ⟨(atC (cd Tryz.f84) [1,1,0,1,0,0]),[(0,AV.vec fa 1 (us a)),(3,vw (wu (wu (n * 1000000000) + wu (a.getD i.toNat default)))),(4,vi (wi (i - 1)))],[],_,[((us a).get?Internal i.toNat = some (vu (a.getD i.toNat default)))],_⟩ (by kernel_rfl) (bc (beq_t (i_dec.2 d2)) (bc (i_dec.2 k4) (bc (i6.2 k7) b0))) (qc (el_map k7) q0) c0 (by (try rw [w9]);(try rw [w11]);(try rw [w13]);(try rw [w15]);all_goals exact H)
 ·have H:=H.2 d2
  exact path_re (G:=given kp84 [] []) 1000 [false] (vw n) (by kernel_rfl) (bc (beq_f (fun h => d2 (i_dec.1 h))) b0) q0 c0 H
theorem rCompare (fa fb:Bool) (a b:List Int)  (dq:AV) (H :
  ((¬(↑a.length:Int) = (↑b.length:Int)) -> (((↑a.length:Int) < (↑b.length:Int)) -> vi (-1) = dq) /\
   (¬((↑a.length:Int) < (↑b.length:Int)) -> vi 1 = dq)) /\
  (¬(¬(↑a.length:Int) = (↑b.length:Int)) -> (-9223372036854775808 <= (↑a.length:Int) - 1 /\ (↑a.length:Int) - 1 <= 9223372036854775807) /\
   rCompareA_at (fa) (fb) (a) (b) ((↑a.length:Int) - 1) (PureQ dq))) :
 rCompare_at fa fb a b (PureQ dq):=by
 unfold rCompare_at
 have w1:(us a).length = a.length:=List.length_map ..
 have w2:(us b).length = b.length:=List.length_map ..
 have i3:((↑(us a).length:Int) != (↑(us b).length:Int)) = true ↔ (¬(↑a.length:Int) = (↑b.length:Int)):=(by (try rw [w1]);(try rw [w2]);all_goals exact i_ne)
 rcases xm (¬(↑a.length:Int) = (↑b.length:Int)) with d4 | d4
 ·have H:=H.1 d4
  have i5:(decide ((↑(us a).length:Int) < (↑(us b).length:Int))) = true ↔ ((↑a.length:Int) < (↑b.length:Int)):=(by (try rw [w1]);(try rw [w2]);all_goals exact i_dec)
  rcases xm ((↑a.length:Int) < (↑b.length:Int)) with d6 | d6
  ·have H:=H.1 d6
   exact path_re (G:=given kp81 [] []) 1000 [true,true] (vi (-1)) (by kernel_rfl) (bc (beq_t (i3.2 d4)) (bc (beq_t (i5.2 d6)) b0)) q0 c0 H
  ·have H:=H.2 d6
   exact path_re (G:=given kp81 [] []) 1000 [true,false] (vi 1) (by kernel_rfl) (bc (beq_t (i3.2 d4)) (bc (beq_f (fun h => d6 (i5.1 h))) b0)) q0 c0 H
 ·have H:=H.2 d4
  obtain ⟨k7,H⟩:=H
  have w8:wi ((↑a.length:Int) - 1) = (↑a.length:Int) - 1:=wI64 k7
  exact path_wp (G:=given kp81 [] []) 1000 [false] ⟨(atC (cd Tryz.f81) [1,1,0,1,0,0]),[(0,AV.vec fa 1 (us a)),(1,AV.vec fb 1 (us b)),(5,vi (wi ((↑(us a).length:Int) - 1)))],[],_,[],_⟩ (by kernel_rfl) (bc (beq_f (fun h => d4 (i3.1 h))) b0) q0 c0 (by (try rw [w1]);(try rw [w8]);all_goals exact H)
theorem rCompareA (fa fb:Bool) (a b:List Int) (i:Int)  (dq:AV) (H :
  ((i >= 0) -> (0 <= i) /\
   (i.toNat < a.length) /\
   (i.toNat < b.length) /\
   ((a.getD i.toNat default < b.getD i.toNat default) -> vi (-1) = dq) /\
   (¬(a.getD i.toNat default < b.getD i.toNat default) -> ((a.getD i.toNat default > b.getD i.toNat default) -> vi 1 = dq) /\
    (¬(a.getD i.toNat default > b.getD i.toNat default) -> (-9223372036854775808 <= i - 1 /\ i - 1 <= 9223372036854775807) /\
     rCompareA_at (fa) (fb) (a) (b) (i - 1) (PureQ dq)))) /\
  (¬(i >= 0) -> vi 0 = dq)) :
 rCompareA_at fa fb a b i (PureQ dq):=by
 unfold rCompareA_at
 rcases xm (i >= 0) with d2 | d2
 ·have H:=H.1 d2
  obtain ⟨k4,H⟩:=H
  have w5:(us a).length = a.length:=List.length_map ..
  have i6:(decide (i.toNat < (us a).length)) = true ↔ (i.toNat < a.length):=(by (try rw [w5]);all_goals exact i_dec)
  obtain ⟨k7,H⟩:=H
  have w9:(us b).length = b.length:=List.length_map ..
  have i10:(decide (i.toNat < (us b).length)) = true ↔ (i.toNat < b.length):=(by (try rw [w9]);all_goals exact i_dec)
  obtain ⟨k11,H⟩:=H
  refine path_wp (G:=given kp81 [(8,3,.elem (vu (a.getD i.toNat default))),(8,7,.elem (vu (b.getD i.toNat default)))] []) 10 [true] ⟨(atC (cd Tryz.f81) [1,1,0,1,0,0,1,0,0,0,1]),[(0,AV.vec fa 1 (us a)),(1,AV.vec fb 1 (us b)),(5,vi i),(31,vb (decide (a.getD i.toNat default < b.getD i.toNat default)))],[],_,[((us a).get?Internal i.toNat = some (vu (a.getD i.toNat default))),((us b).get?Internal i.toNat = some (vu (b.getD i.toNat default)))],_⟩ (by kernel_rfl) (bc (beq_t (i_dec.2 d2)) (bc (i_dec.2 k4) (bc (i6.2 k7) (bc (i_dec.2 k4) (bc (i10.2 k11) b0))))) (qc (el_map k7) (qc (el_map k11) q0)) c0 ?_
  rcases xm (a.getD i.toNat default < b.getD i.toNat default) with d13 | d13
  ·have H:=H.1 d13
   exact path_re (G:=given kp81 [] []) 1000 [true] (vi (-1)) (by kernel_rfl) (bc (beq_t (i_dec.2 d13)) b0) q0 c0 H
  ·have H:=H.2 d13
   have i15:(decide (i.toNat < (us a).length)) = true ↔ (i.toNat < a.length):=(by (try rw [w5]);all_goals exact i_dec)
   have i17:(decide (i.toNat < (us b).length)) = true ↔ (i.toNat < b.length):=(by (try rw [w9]);all_goals exact i_dec)
   refine path_wp (G:=given kp81 [(10,3,.elem (vu (a.getD i.toNat default))),(10,7,.elem (vu (b.getD i.toNat default)))] []) 4 [false] ⟨(atC (cd Tryz.f81) [1,1,0,1,0,0,1,0,0,1,1]),[(0,AV.vec fa 1 (us a)),(1,AV.vec fb 1 (us b)),(5,vi i),(40,vb (decide (a.getD i.toNat default > b.getD i.toNat default)))],[],_,[((us a).get?Internal i.toNat = some (vu (a.getD i.toNat default))),((us b).get?Internal i.toNat = some (vu (b.getD i.toNat default)))],_⟩ (by kernel_rfl) (bc (beq_f (fun h => d13 (i_dec.1 h))) (bc (i_dec.2 k4) (bc (i15.2 k7) (bc (i_dec.2 k4) (bc (i17.2 k11) b0))))) (qc (el_map k7) (qc (el_map k11) q0)) c0 ?_
   rcases xm (a.getD i.toNat default > b.getD i.toNat default) with d19 | d19
   ·have H:=H.1 d19
    exact path_re (G:=given kp81 [] []) 1000 [true] (vi 1) (by kernel_rfl) (bc (beq_t (i_dec.2 d19)) b0) q0 c0 H
   ·have H:=H.2 d19
    obtain ⟨k20,H⟩:=H
    have w21:wi (i - 1) = i - 1:=wI64 k20
    exact path_wp (G:=given kp81 [] []) 1000 [false] ⟨(atC (cd Tryz.f81) [1,1,0,1,0,0]),[(0,AV.vec fa 1 (us a)),(1,AV.vec fb 1 (us b)),(5,vi (wi (i - 1)))],[],_,[],_⟩ (by kernel_rfl) (bc (beq_f (fun h => d19 (i_dec.1 h))) b0) q0 c0 (by (try rw [w21]);all_goals exact H)
 ·have H:=H.2 d2
  exact path_re (G:=given kp81 [] []) 1000 [false] (vi 0) (by kernel_rfl) (bc (beq_f (fun h => d2 (i_dec.1 h))) b0) q0 c0 H
theorem rSign (fa:Bool) (v:Int)  (dq:AV) (H :
  (((↑(Sp.limI v).length:Int) = 0) -> vi 0 = dq) /\
  (¬((↑(Sp.limI v).length:Int) = 0) -> ((Sp.isNeg v = true) -> vi (-1) = dq) /\
   (¬(Sp.isNeg v = true) -> vi 1 = dq))) :
 rSign_at fa v (PureQ dq):=by
 unfold rSign_at
 have w1:(us (Sp.limI v)).length = (Sp.limI v).length:=List.length_map ..
 have i2:((↑(us (Sp.limI v)).length:Int) == 0) = true ↔ ((↑(Sp.limI v).length:Int) = 0):=(by (try rw [w1]);all_goals exact i_eq)
 rcases xm ((↑(Sp.limI v).length:Int) = 0) with d3 | d3
 ·have H:=H.1 d3
  exact path_re (G:=given kp43 [] []) 1000 [true] (vi 0) (by kernel_rfl) (bc rfl (bc (beq_t (i2.2 d3)) b0)) q0 c0 H
 ·have H:=H.2 d3
  rcases xm (Sp.isNeg v = true) with d5 | d5
  ·have H:=H.1 d5
   exact path_re (G:=given kp43 [] []) 1000 [false,true] (asm:=[true,((↑(us (Sp.limI v)).length:Int) == 0) == false,0 == 0,(Sp.isNeg v) == true]) (vi (-1)) (by kernel_rfl) (bc rfl (bc (beq_f (fun h => d3 (i2.1 h))) (bc (beq_self_eq_true _) (bc (beq_t ((i_var _).2 d5)) b0)))) q0 c0 H
  ·have H:=H.2 d5
   exact path_re (G:=given kp43 [] []) 1000 [false,false] (asm:=[true,((↑(us (Sp.limI v)).length:Int) == 0) == false,0 == 0,(Sp.isNeg v) == false]) (vi 1) (by kernel_rfl) (bc rfl (bc (beq_f (fun h => d3 (i2.1 h))) (bc (beq_self_eq_true _) (bc (beq_f (fun h => d5 ((i_var _).1 h))) b0)))) q0 c0 H
end Go.Av

namespace Go.Av
open Go.Proofs
namespace Sp
def trimF:Nat -> List Int -> List Int
 | 0,a => a
 | n + 1,a => if a.getD n default = 0 then trimF n (a.take n) else a
def trimL (a:List Int):List Int:=trimF a.length a
end Sp
theorem loopTrimR:∀ (n:Nat) (fa:Bool) (a:List Int),a.length = n -> n <= 1000000 -> rTrimA_at fa a (PureQ (usA false (Sp.trimF n a)))
 | 0,fa,a,hl,hk => rTrimA _ _ _ ⟨by omega,fun h => by omega,fun h => by omega,fun h => by omega,fun _ => weak_vec _ _ _⟩
 | n + 1,fa,a,hl,hk => by
  have e1:((a.length:Int) - 1).toNat = n:=by omega
  refine rTrimA _ _ _ ⟨by omega,fun _ => by omega,fun _ => by omega,fun h => ?_,fun h => ?_⟩
  ·rw [e1] at h ⊢
   refine ⟨by omega,by omega,by omega,?_⟩
   rw [List.drop_zero]
   have:=loopTrimR n (fa && false) (a.take n) (by simp;omega) (by omega)
   rw [Sp.trimF,if_pos h.2];exact this
  ·rw [e1] at h
   rw [Sp.trimF,if_neg (fun x => h ⟨by omega,x⟩)]
   exact weak_vec _ _ _
theorem trimF_limN:∀ (k v:Nat),Sp.fits k v -> Sp.trimF k (Sp.limN k v) = Sp.lim v
 | 0,v,hf => by
  have h0:=fits_zero.1 hf
  subst h0
  rw [lim_zero];rfl
 | k + 1,v,hf => by
  rw [Sp.trimF]
  by_cases h:Sp.fits k v
  ·rw [if_pos ((limN_top hf).2 h),limN_take]
   exact trimF_limN k v h
  ·rw [if_neg (fun x => h ((limN_top hf).1 x)),lim_of hf (.inr (by simpa using h))]
theorem rtrimN (fa:Bool) (k v:Nat) (h:Sp.short k /\ Sp.fits k v):Ev M1 (.pure 80 [usA fa (Sp.limN k v)]) (usA false (Sp.lim v)) []:=by
 have:=loopTrimR k fa (Sp.limN k v) (limN_len k v) h.1
 rw [trimF_limN k v h.2] at this
 exact call80 (rTrim _ _ _ this)
theorem ev80 (fa:Bool) (k v:Nat) (h:Sp.short k /\ Sp.fits k v):Ev M1 (.pure 80 [usA fa (Sp.limN k v)]) (usA false (Sp.lim v)) []:=rtrimN fa k v h
theorem ev80_d (fa:Bool) (a:List Int) (h:Sp.short a.length):Ev M1 (.pure 80 [usA fa a]) (usA false (Sp.trimL a)) []:=
 call80 (rTrim _ _ _ (loopTrimR a.length fa a rfl h))
theorem tdivB (x:Nat):(x:Int).tdiv 1000000000 = ((x / 1000000000:Nat):Int):=by
 rw [Int.tdiv_eq_ediv_of_nonneg (by omega)];omega
theorem tmodB (x:Nat):(x:Int).tmod 1000000000 = ((x % 1000000000:Nat):Int):=by
 rw [Int.tmod_eq_emod_of_nonneg (by omega)];omega
theorem le4 {x:Nat} (h:x < 1000000000):0 <= (x:Int) /\ (x:Int) <= 4294967295:=by omega
theorem le8 {x:Nat} (h:x <= 18446744073709551615):0 <= (x:Int) /\ (x:Int) <= 18446744073709551615:=by omega
theorem limN_step (n u:Nat):Sp.limN n u ++ [((u / 1000000000 ^ n % 1000000000:Nat):Int)] = Sp.limN (n + 1) u:=(limN_snoc n u).symm
theorem loopLimbs {u0:Nat}:∀ (m n v:Nat),m + n = 100 -> u0 / 1000000000 ^ n < 1000000000 ^ m -> n <= 100 -> (u0 / 1000000000 ^ n ≠ 0 \/ n = Sp.cnt u0) -> u0 <= 18446744073709551615 ->
  rLimbsA_at (u0 / 1000000000 ^ n:Nat) (Sp.limN n u0) v (PureQ (usA false (Sp.lim u0)))
 | 0,n,v,hmn,hlt,hn,hne,hu => by
  have h0:u0 / 1000000000 ^ n = 0:=by simpa using hlt
  rcases hne with h | h
  ·exact absurd h0 h
  ·subst h
   exact rLimbsA _ _ _ _ ⟨fun h => by omega,fun _ => .refl _⟩
 | m + 1,n,v,hmn,hlt,hn,hne,hu => by
  by_cases h0:u0 / 1000000000 ^ n = 0
  ·rcases hne with h | h
   ·exact absurd h0 h
   ·subst h
    exact rLimbsA _ _ _ _ ⟨fun h => by omega,fun _ => .refl _⟩
  ·have hb:u0 / 1000000000 ^ n <= 18446744073709551615:=Nat.le_trans (Nat.div_le_self _ _) hu
   have c3:((u0 / 1000000000 ^ n:Nat):Int).tdiv 1000000000 = ((u0 / 1000000000 ^ (n + 1):Nat):Int):=by
    rw [tdivB,div_next]
   have c4:((u0 / 1000000000 ^ n:Nat):Int).tmod 1000000000 = ((u0 / 1000000000 ^ n % 1000000000:Nat):Int):=tmodB _
   have hpos:((u0 / 1000000000 ^ n:Nat):Int) > 0:=by exact_mod_cast Nat.pos_of_ne_zero h0
   have hb2:u0 / 1000000000 ^ (n + 1) <= 18446744073709551615:=Nat.le_trans (Nat.div_le_self _ _) hu
   have hm:u0 / 1000000000 ^ n % 1000000000 < 1000000000:=Nat.mod_lt _ (by omega)
   refine rLimbsA _ _ _ _ ⟨fun _ => ?_,fun h => absurd hpos h⟩
   have hl:=limN_len n u0
   rw [c3,c4,limN_step]
   have hd:=div_next u0 n
   refine ⟨le4 hm,by omega,le8 hb2,loopLimbs m (n + 1) (v + 1) (by omega) ?_ (by omega) ?_ hu⟩
   ·rw [<- hd]
    rw [Nat.pow_succ] at hlt
    exact Nat.div_lt_of_lt_mul (by rwa [Nat.mul_comm])
   ·by_cases hz:u0 / 1000000000 ^ (n + 1) = 0
    ·right
     have f1:Sp.fits (n + 1) u0:=fits_top0.2 hz
     have f2:¬Sp.fits n u0:=fun f => h0 (fits_top0.1 f)
     have:=fits_cnt.1 f1
     have:¬Sp.cnt u0 <= n:=fun x => f2 (fits_cnt.2 x)
     omega
    ·exact .inl hz
theorem ev85 (u:Int) (h:0 <= u /\ u <= 18446744073709551615):Ev M1 (.pure 85 [.int .u64 u]) (usA false (Sp.lim u.toNat)) []:=by
 obtain ⟨n,rfl⟩:=Int.eq_ofNat_of_zero_le h.1
 rw [Int.toNat_natCast]
 refine call85 (rLimbs _ _ (rLimbs0 _ _ ⟨fun h0 => ?_,fun h0 => ?_⟩))
 ·have hlt:n / 1000000000 < 1000000000 ^ 99:=by omega
  have hr:=loopLimbs (u0:=n) 99 1 0 (by omega) (by simpa using hlt) (by omega) (by
   by_cases hz:n / 1000000000 = 0
   ·right
    have f1:Sp.fits 1 n:=by unfold Sp.fits;omega
    have:=fits_cnt.1 f1
    have:Sp.cnt n ≠ 0:=fun e => by have:=cnt_eq_zero.1 e;omega
    omega
   ·left;simpa using hz) (by omega)
  have c3:(n:Int).tdiv 1000000000 = ((n / 1000000000:Nat):Int):=by
   rw [Int.tdiv_eq_ediv_of_nonneg (by omega)];omega
  have c4:(n:Int).tmod 1000000000 = ((n % 1000000000:Nat):Int):=by
   rw [Int.tmod_eq_emod_of_nonneg (by omega)];omega
  have e:Sp.limN 1 n = [((n % 1000000000:Nat):Int)]:=rfl
  rw [e,Nat.pow_one] at hr
  rw [c3,c4]
  exact ⟨by omega,by omega,hr⟩
 ·have:n = 0:=by omega
  subst this
  rw [lim_zero];exact .vnil 1
theorem ev84 (fa:Bool) (v:Nat) (h:Sp.cnt v <= 2):Ev M1 (.pure 84 [usA fa (Sp.lim v)]) (.int .u64 (v:Nat)) []:=by
 have f:=fits_mono (fits_self v) h
 have hv:v < 1000000000000000000:=by unfold Sp.fits at f;simpa using f
 have loop:∀ k,k <= Sp.cnt v -> rShortA_at fa (Sp.lim v) ((v / 1000000000 ^ k:Nat):Int) ((k:Int) - 1) (PureQ (.int .u64 (v:Nat))):=by
  intro k
  induction k with
  | zero => intro _;exact rShortA _ _ _ _ _ ⟨fun h => by omega,fun _ => by simp⟩
  | succ k ih =>
   intro hk
   have e1:(((k + 1:Nat):Int) - 1) = (k:Nat):=by omega
   have g:(Sp.lim v).getD k default = ((v / 1000000000 ^ k % 1000000000:Nat):Int):=limN_getD v (show k < Sp.cnt v by omega)
   have hs:=digit_split v k
   have hb:v / 1000000000 ^ k <= v:=Nat.div_le_self _ _
   refine rShortA _ _ _ _ _ ⟨fun _ => ?_,fun h => by omega⟩
   rw [e1,Int.toNat_natCast,g,lim_len]
   have e2:((v / 1000000000 ^ (k + 1):Nat):Int) * 1000000000 + ((v / 1000000000 ^ k % 1000000000:Nat):Int) = ((v / 1000000000 ^ k:Nat):Int):=by omega
   rw [e2]
   exact ⟨by omega,by omega,by omega,by omega,by omega,by omega,ih (by omega)⟩
 refine call84 (rShort _ _ _ ?_)
 rw [lim_len]
 have:=loop (Sp.cnt v) (Nat.le_refl _)
 rw [fits_div (fits_self v) (Nat.le_refl _)] at this
 exact ⟨by omega,this⟩
theorem loopCompareR {fa fb:Bool} {n v w:Nat} {dq:AV} (hn:n <= 1000000) (hq:AV.int .i64 (Sp.sgnI ((v:Int) - w)) = dq):∀ (k:Nat),k <= n -> v / 1000000000 ^ k = w / 1000000000 ^ k -> rCompareA_at fa fb (Sp.limN n v) (Sp.limN n w) ((k:Int) - 1) (PureQ dq)
 | 0,hk,he => by
  have e:v = w:=by simpa using he
  refine rCompareA _ _ _ _ _ _ ⟨fun h => by omega,fun _ => ?_⟩
  rw [<- hq,e]
  congr 1
  unfold Sp.sgnI
  rw [if_neg (by omega),if_neg (by omega)]
 | k + 1,hk,he => by
  have e1:(((k + 1:Nat):Int) - 1) = (k:Nat):=by omega
  rw [e1]
  refine rCompareA _ _ _ _ _ _ ⟨fun _ => ?_,fun h => by omega⟩
  rw [Int.toNat_natCast,limN_getD v (show k < n by omega),limN_getD w (show k < n by omega),limN_len,limN_len]
  have s1:=digit_split v k
  have s2:=digit_split w k
  rw [<- he] at s2
  refine ⟨by omega,by omega,by omega,fun h => ?_,fun h => ⟨fun h2 => ?_,fun h2 => ⟨by omega,?_⟩⟩⟩
  ·have:=digit_lt (v:=v) (w:=w) (i:=k) (by omega)
   rw [<- hq];congr 1
   unfold Sp.sgnI
   rw [if_pos (by omega)]
  ·have:=digit_lt (v:=w) (w:=v) (i:=k) (by omega)
   rw [<- hq];congr 1
   unfold Sp.sgnI
   rw [if_neg (by omega),if_pos (by omega)]
  ·exact loopCompareR hn hq k (by omega) (by omega)
theorem rcompareN (fa fb:Bool) (v w:Nat) (h:Sp.short (Sp.cnt v) /\ Sp.short (Sp.cnt w)):Ev M1 (.pure 81 [usA fa (Sp.lim v),usA fb (Sp.lim w)]) (.int .i64 (Sp.sgnI ((v:Int) - w))) []:=by
 obtain ⟨h1,h2⟩:=h
 have h1':Sp.cnt v <= 1000000:=h1
 have h2':Sp.cnt w <= 1000000:=h2
 refine call81 (rCompare _ _ _ _ _ ?_)
 rw [lim_len,lim_len]
 refine ⟨fun h => ⟨fun k => ?_,fun k => ?_⟩,fun h => ⟨by omega,?_⟩⟩
 ·have:=cmp_len (v:=v) (w:=w) (by omega)
  congr 1
  unfold Sp.sgnI
  rw [if_pos (by omega)]
 ·have:=cmp_len (v:=w) (w:=v) (by omega)
  congr 1
  unfold Sp.sgnI
  rw [if_neg (by omega),if_pos (by omega)]
 ·have e:Sp.cnt w = Sp.cnt v:=by omega
  have hw:Sp.lim w = Sp.limN (Sp.cnt v) w:=by unfold Sp.lim;rw [e]
  rw [hw]
  refine loopCompareR (by omega) rfl (Sp.cnt v) (Nat.le_refl _) ?_
  rw [fits_div (fits_self v) (Nat.le_refl _),fits_div (fits_self w) (by omega)]
theorem ev81 (fa fb:Bool) (v w:Int) (h:Sp.ok v /\ Sp.ok w):Ev M1 (.pure 81 [usA fa (Sp.limI v),usA fb (Sp.limI w)]) (.int .i64 (Sp.sgnI ((v.natAbs:Int) - w.natAbs))) []:=rcompareN fa fb _ _ h
theorem ev81_a (fa fb:Bool) (v w:Nat) (h:Sp.short (Sp.cnt v) /\ Sp.short (Sp.cnt w)):Ev M1 (.pure 81 [usA fa (Sp.lim v),usA fb (Sp.lim w)]) (.int .i64 (Sp.sgnI ((v:Int) - w))) []:=rcompareN fa fb _ _ h
theorem ev43 (fa:Bool) (v:Int):Ev M1 (.pure 43 [bigA fa v]) (.int .i64 (Sp.sgnI v)) []:=by
 have hl:=limI_len v
 have hc:=cnt_eq_zero (v:=v.natAbs)
 refine call43 (rSign fa v _ ⟨fun h => ?_,fun h => ⟨fun k => ?_,fun k => ?_⟩⟩)
 ·rw [Sp.sgnI,if_neg (by omega),if_neg (by omega)]
 ·rw [isNeg_iff] at k
  rw [Sp.sgnI,if_pos k]
 ·rw [isNeg_iff] at k
  rw [Sp.sgnI,if_neg k,if_pos (by omega)]
end Go.Av

namespace Go.Av
open Go.Proofs
set_option maxRecDepth 100000
def fi57:Fi:=⟨14,[.cell 2 34]⟩
def kp57:List (Nat × List Nat):=[(0,[0,2]),(1,[0,2,4]),(2,[2]),(3,[2])]
def fi83:Fi:=⟨15,[.cell 4 34]⟩
def kp83:List (Nat × List Nat):=[(0,[0,1,4]),(1,[0,1,4]),(2,[4])]
def fi86:Fi:=⟨68,[.tmp 4]⟩
def kp86:List (Nat × List Nat):=[(0,[0,1]),(1,[0,1,5]),(2,[0,1,5,6]),(3,[0,1,5,6,18]),(4,[0,1,5,6]),(5,[0,1,5,6,7]),(6,[0,1,5,6,7,8]),(7,[0,1,5,6,7,8,24]),(8,[0,1,5,6,7,8]),(9,[0,1,5,6,7,8]),(10,[0,1,5,6,7,8]),(11,[0,1,5,6,7,8]),(12,[0,1,5,6]),(13,[4])]
def fi116:Fi:=⟨45,[.tmp 4]⟩
def kp116:List (Nat × List Nat):=[(0,[0,1]),(1,[0,1,5]),(2,[0,1,5,6]),(3,[0,1,5,6,7]),(4,[0,1,5,6,7,15]),(5,[0,1,5,6,7]),(6,[0,1,5,7,8]),(7,[0,1,5,7,8,28]),(8,[0,1,5,7,8]),(9,[0,1,5,6,7,8]),(10,[0,1,5,6,7,8,36]),(11,[0,1,5,6,7,8]),(12,[0,1,5,6,7]),(13,[4])]
def fi122:Fi:=⟨55,[.tmp 4]⟩
def kp122:List (Nat × List Nat):=[(0,[0,1]),(1,[0,1,12]),(2,[0,1]),(3,[0,1,5]),(4,[0,1,5,6]),(5,[0,1,5,6,7]),(6,[0,1,5,6,7,22]),(7,[0,1,5,6,7]),(8,[0,1,5,6,7]),(9,[0,1,5,6,7,34]),(10,[0,1,5,6,7]),(11,[0,1,5,6,7]),(12,[0,1,5,6,7]),(13,[5]),(14,[4])]
def rSigned_at (s fa:Bool) (k v:Nat) (Q:AV -> Heap -> Prop):Prop:=Wp M1 (.run fi83 (atC (cd Tryz.f83) []) [(0,.bool s),(1,.vec fa 1 ((Sp.limN k v).map (.int .u32)))] []) Q
def rFromInt64_at (n:Int) (Q:AV -> Heap -> Prop):Prop:=Wp M1 (.run fi57 (atC (cd Tryz.f57) []) [(0,.int .i64 n)] []) Q
def rPlus_at (fa fb:Bool) (a b:List Int) (Q:AV -> Heap -> Prop):Prop:=Wp M1 (.run fi122 (atC (cd Tryz.f122) []) [(0,.vec fa 1 (a.map (.int .u32))),(1,.vec fb 1 (b.map (.int .u32)))] []) Q
def rPlusA_at (fa fb:Bool) (a b:List Int) (o:List Int) (c i:Int) (Q:AV -> Heap -> Prop):Prop:=Wp M1 (.run fi122 (atC (cd Tryz.f122) [1,1,1,1,0,1,0,0]) [(0,.vec fa 1 (a.map (.int .u32))),(1,.vec fb 1 (b.map (.int .u32))),(5,.row 0 0),(6,.int .u32 c),(7,.int .i64 i)] [⟨o.map (.int .u32),1,0,false,true⟩]) Q
def rMinus_at (fa fb:Bool) (a b:List Int) (Q:AV -> Heap -> Prop):Prop:=Wp M1 (.run fi116 (atC (cd Tryz.f116) []) [(0,.vec fa 1 (a.map (.int .u32))),(1,.vec fb 1 (b.map (.int .u32)))] []) Q
def rMinusA_at (fa fb:Bool) (a b:List Int) (o:List Int) (c i:Int) (Q:AV -> Heap -> Prop):Prop:=Wp M1 (.run fi116 (atC (cd Tryz.f116) [1,1,1,0,1,0,0]) [(0,.vec fa 1 (a.map (.int .u32))),(1,.vec fb 1 (b.map (.int .u32))),(5,.row 0 0),(6,.int .u32 c),(7,.int .i64 i)] [⟨o.map (.int .u32),1,0,false,true⟩]) Q
def rTimes_at (fa fb:Bool) (a b:List Int) (Q:AV -> Heap -> Prop):Prop:=Wp M1 (.run fi86 (atC (cd Tryz.f86) []) [(0,.vec fa 1 (a.map (.int .u32))),(1,.vec fb 1 (b.map (.int .u32)))] []) Q
def rTimesA_at (fa fb:Bool) (a b:List Int) (o:List Int) (i:Int) (Q:AV -> Heap -> Prop):Prop:=Wp M1 (.run fi86 (atC (cd Tryz.f86) [1,1,0,1,0,0]) [(0,.vec fa 1 (a.map (.int .u32))),(1,.vec fb 1 (b.map (.int .u32))),(5,.row 0 0),(6,.int .i64 i)] [⟨o.map (.int .u32),1,0,false,true⟩]) Q
def rTimesB_at (fa fb:Bool) (a b:List Int) (o:List Int) (i c k:Int) (Q:AV -> Heap -> Prop):Prop:=Wp M1 (.run fi86 (atC (cd Tryz.f86) [1,1,0,1,0,0,1,0,0,1,0,1,0,0]) [(0,.vec fa 1 (a.map (.int .u32))),(1,.vec fb 1 (b.map (.int .u32))),(5,.row 0 0),(6,.int .i64 i),(7,.int .u64 c),(8,.int .i64 k)] [⟨o.map (.int .u32),1,0,false,true⟩]) Q
theorem call57 {args:List AV} {d:AV} (h:wc M1 fi57 Tryz.f57 args d):Ev M1 (.pure 57 args) d []:=pcl _ _ (by kernel_rfl) h
theorem call83 {args:List AV} {d:AV} (h:wc M1 fi83 Tryz.f83 args d):Ev M1 (.pure 83 args) d []:=pcl _ _ (by kernel_rfl) h
theorem call86 {args:List AV} {d:AV} (h:wc M1 fi86 Tryz.f86 args d):Ev M1 (.pure 86 args) d []:=pcl _ _ (by kernel_rfl) h
theorem call116 {args:List AV} {d:AV} (h:wc M1 fi116 Tryz.f116 args d):Ev M1 (.pure 116 args) d []:=pcl _ _ (by kernel_rfl) h
theorem call122 {args:List AV} {d:AV} (h:wc M1 fi122 Tryz.f122 args d):Ev M1 (.pure 122 args) d []:=pcl _ _ (by kernel_rfl) h
theorem rSigned (s fa:Bool) (k v:Nat)  (dq:AV) (H :
  (Sp.short k /\ Sp.fits k v) /\
  Weak (ag [vb (bif s then decide ((↑(Sp.lim v).length:Int) > 0) else false),vf (us (Sp.lim v))]) dq) :
 rSigned_at s fa k v (PureQ dq):=by
 unfold rSigned_at
 obtain ⟨k1,H⟩:=H
 have w2:(us (Sp.lim v)).length = (Sp.lim v).length:=List.length_map ..
 exact path_rq (G:=given kp83 [(1,1,.call (vf (us (Sp.lim v))) none)] []) 1000 [] (ag [vb (bif s then decide ((↑(us (Sp.lim v)).length:Int) > 0) else false),vf (us (Sp.lim v))]) (by kernel_rfl) (bc rfl b0) q0 (ce (@ev80 (fa) (k) (v) k1) c0) (by (try rw [w2]);all_goals exact H)
theorem rFromInt64 (n:Int)  (dq:AV) (H :
  ((n < 0) -> (0 <= IntKind.u64.wrap (0 - IntKind.u64.wrap n) /\ IntKind.u64.wrap (0 - IntKind.u64.wrap n) <= 18446744073709551615) /\
   ∃ (b1:Bool) (l1:List (Int)),
   (Ev M1 (Conf.pure 83 [vb true,vf (us (Sp.lim (IntKind.u64.wrap (0 - IntKind.u64.wrap n)).toNat))]) (ag [vb b1,vf (us l1)]) []) /\
   Weak (ag [vb b1,vf (us l1)]) dq) /\
  (¬(n < 0) -> (0 <= IntKind.u64.wrap n /\ IntKind.u64.wrap n <= 18446744073709551615) /\
   ∃ (b2:Bool) (l2:List (Int)),
   (Ev M1 (Conf.pure 83 [vb false,vf (us (Sp.lim (IntKind.u64.wrap n).toNat))]) (ag [vb b2,vf (us l2)]) []) /\
   Weak (ag [vb b2,vf (us l2)]) dq)) :
 rFromInt64_at n (PureQ dq):=by
 unfold rFromInt64_at
 rcases xm (n < 0) with d2 | d2
 ·have H:=H.1 d2
  obtain ⟨k3,H⟩:=H
  obtain ⟨b1,l1,H⟩:=H
  obtain ⟨k4,H⟩:=H
  exact path_rq (G:=given kp57 [(2,3,.call (vf (us (Sp.lim (wu (0 - wu n)).toNat))) none),(2,4,.call (ag [vb b1,vf (us l1)]) none)] []) 1000 [true] (ag [vb b1,vf (us l1)]) (by kernel_rfl) (bc (beq_t (i_dec.2 d2)) (bc rfl b0)) q0 (ce (@ev85 (wu (0 - wu n)) k3) (ce k4 c0)) H
 ·have H:=H.2 d2
  obtain ⟨k5,H⟩:=H
  obtain ⟨b2,l2,H⟩:=H
  obtain ⟨k6,H⟩:=H
  exact path_rq (G:=given kp57 [(3,2,.call (vf (us (Sp.lim (wu n).toNat))) none),(3,3,.call (ag [vb b2,vf (us l2)]) none)] []) 1000 [false] (ag [vb b2,vf (us l2)]) (by kernel_rfl) (bc (beq_f (fun h => d2 (i_dec.1 h))) (bc rfl b0)) q0 (ce (@ev85 (wu n) k5) (ce k6 c0)) H
theorem rPlus (fa fb:Bool) (a b:List Int)  (dq:AV) (H :
  (((↑a.length:Int) < (↑b.length:Int)) -> (-9223372036854775808 <= (↑b.length:Int) + 1 /\ (↑b.length:Int) + 1 <= 9223372036854775807) /\
   (0 <= (↑b.length:Int) + 1) /\
   (((↑b.length:Int) + 1) * 4 <= 1099511627776) /\
   ((↑b.length:Int) + 1 <= 1099511627776) /\
   rPlusA_at (fb) (fa) (b) (a) (List.replicate ((↑b.length:Int) + 1).toNat (0:Int)) (0) (0) (PureQ dq)) /\
  (¬((↑a.length:Int) < (↑b.length:Int)) -> (-9223372036854775808 <= (↑a.length:Int) + 1 /\ (↑a.length:Int) + 1 <= 9223372036854775807) /\
   (0 <= (↑a.length:Int) + 1) /\
   (((↑a.length:Int) + 1) * 4 <= 1099511627776) /\
   ((↑a.length:Int) + 1 <= 1099511627776) /\
   rPlusA_at (fa) (fb) (a) (b) (List.replicate ((↑a.length:Int) + 1).toNat (0:Int)) (0) (0) (PureQ dq))) :
 rPlus_at fa fb a b (PureQ dq):=by
 unfold rPlus_at
 have w1:(us a).length = a.length:=List.length_map ..
 have w2:(us b).length = b.length:=List.length_map ..
 have i3:(decide ((↑(us a).length:Int) < (↑(us b).length:Int))) = true ↔ ((↑a.length:Int) < (↑b.length:Int)):=(by (try rw [w1]);(try rw [w2]);all_goals exact i_dec)
 rcases xm ((↑a.length:Int) < (↑b.length:Int)) with d4 | d4
 ·have H:=H.1 d4
  obtain ⟨k5,H⟩:=H
  have w6:wi ((↑b.length:Int) + 1) = (↑b.length:Int) + 1:=wI64 k5
  have i7:(decide (0 <= wi ((↑(us b).length:Int) + 1))) = true ↔ (0 <= (↑b.length:Int) + 1):=(by (try rw [w2]);(try rw [w6]);all_goals exact i_dec)
  obtain ⟨k8,H⟩:=H
  have i9:(decide (wi ((↑(us b).length:Int) + 1) <= wi ((↑(us b).length:Int) + 1))) = true ↔ ((↑b.length:Int) + 1 <= (↑b.length:Int) + 1):=(by (try rw [w2]);(try rw [w6]);all_goals exact i_dec)
  have i10:(decide (wi ((↑(us b).length:Int) + 1) * 4 <= 1099511627776)) = true ↔ (((↑b.length:Int) + 1) * 4 <= 1099511627776):=(by (try rw [w2]);(try rw [w6]);all_goals exact i_dec)
  obtain ⟨k11,H⟩:=H
  have i12:(decide (wi ((↑(us b).length:Int) + 1) <= 1099511627776)) = true ↔ ((↑b.length:Int) + 1 <= 1099511627776):=(by (try rw [w2]);(try rw [w6]);all_goals exact i_dec)
  obtain ⟨k13,H⟩:=H
  have w14:List.replicate ((↑b.length:Int) + 1).toNat (vu 0) = us (List.replicate ((↑b.length:Int) + 1).toNat (0:Int)):=(lm_rep rfl)
  exact path_wp (G:=given kp122 [] []) 1000 [true] ⟨(atC (cd Tryz.f122) [1,1,1,1,0,1,0,0]),[(0,AV.vec fb 1 (us b)),(1,AV.vec fa 1 (us a)),(5,AV.row 0 0),(6,vu 0),(7,vi 0)],[⟨List.replicate (wi ((↑(us b).length:Int) + 1)).toNat (vu 0),1,0,false,true⟩],[(decide ((↑(us a).length:Int) < (↑(us b).length:Int))) == true,decide (0 <= wi ((↑(us b).length:Int) + 1)),decide (wi ((↑(us b).length:Int) + 1) <= wi ((↑(us b).length:Int) + 1)),decide (wi ((↑(us b).length:Int) + 1) * 4 <= 1099511627776),decide (wi ((↑(us b).length:Int) + 1) <= 1099511627776)],[],_⟩ (by kernel_rfl) (bc (beq_t (i3.2 d4)) (bc (i7.2 k8) (bc (i9.2 (by omega)) (bc (i10.2 k11) (bc (i12.2 k13) b0))))) q0 c0 (by (try rw [w2]);(try rw [w6]);(try rw [w14]);all_goals exact H)
 ·have H:=H.2 d4
  obtain ⟨k15,H⟩:=H
  have w16:wi ((↑a.length:Int) + 1) = (↑a.length:Int) + 1:=wI64 k15
  have i17:(decide (0 <= wi ((↑(us a).length:Int) + 1))) = true ↔ (0 <= (↑a.length:Int) + 1):=(by (try rw [w1]);(try rw [w16]);all_goals exact i_dec)
  obtain ⟨k18,H⟩:=H
  have i19:(decide (wi ((↑(us a).length:Int) + 1) <= wi ((↑(us a).length:Int) + 1))) = true ↔ ((↑a.length:Int) + 1 <= (↑a.length:Int) + 1):=(by (try rw [w1]);(try rw [w16]);all_goals exact i_dec)
  have i20:(decide (wi ((↑(us a).length:Int) + 1) * 4 <= 1099511627776)) = true ↔ (((↑a.length:Int) + 1) * 4 <= 1099511627776):=(by (try rw [w1]);(try rw [w16]);all_goals exact i_dec)
  obtain ⟨k21,H⟩:=H
  have i22:(decide (wi ((↑(us a).length:Int) + 1) <= 1099511627776)) = true ↔ ((↑a.length:Int) + 1 <= 1099511627776):=(by (try rw [w1]);(try rw [w16]);all_goals exact i_dec)
  obtain ⟨k23,H⟩:=H
  have w24:List.replicate ((↑a.length:Int) + 1).toNat (vu 0) = us (List.replicate ((↑a.length:Int) + 1).toNat (0:Int)):=(lm_rep rfl)
  exact path_wp (G:=given kp122 [] []) 1000 [false] ⟨(atC (cd Tryz.f122) [1,1,1,1,0,1,0,0]),[(0,AV.vec fa 1 (us a)),(1,AV.vec fb 1 (us b)),(5,AV.row 0 0),(6,vu 0),(7,vi 0)],[⟨List.replicate (wi ((↑(us a).length:Int) + 1)).toNat (vu 0),1,0,false,true⟩],[(decide ((↑(us a).length:Int) < (↑(us b).length:Int))) == false,decide (0 <= wi ((↑(us a).length:Int) + 1)),decide (wi ((↑(us a).length:Int) + 1) <= wi ((↑(us a).length:Int) + 1)),decide (wi ((↑(us a).length:Int) + 1) * 4 <= 1099511627776),decide (wi ((↑(us a).length:Int) + 1) <= 1099511627776)],[],_⟩ (by kernel_rfl) (bc (beq_f (fun h => d4 (i3.1 h))) (bc (i17.2 k18) (bc (i19.2 (by omega)) (bc (i20.2 k21) (bc (i22.2 k23) b0))))) q0 c0 (by (try rw [w1]);(try rw [w16]);(try rw [w24]);all_goals exact H)
noncomputable abbrev zNwB1 (o:List Int) (a:List Int) (c:Int):=vf (us (Sp.trimL (o.set (↑a.length:Int).toNat c)))
theorem rPlusA (fa fb:Bool) (a b:List Int) (o:List Int) (c i:Int)  (dq:AV) (H :
  ((i < (↑a.length:Int)) -> (0 <= i) /\
   (i.toNat < a.length) /\
   (0 <= c + a.getD i.toNat default /\ c + a.getD i.toNat default <= 4294967295) /\
   ((i < (↑b.length:Int)) -> (i.toNat < b.length) /\
    (0 <= c + a.getD i.toNat default + b.getD i.toNat default /\ c + a.getD i.toNat default + b.getD i.toNat default <= 4294967295) /\
    (i.toNat < o.length) /\
    (0 <= (c + a.getD i.toNat default + b.getD i.toNat default).tdiv 1000000000 /\ (c + a.getD i.toNat default + b.getD i.toNat default).tdiv 1000000000 <= 4294967295) /\
    (-9223372036854775808 <= i + 1 /\ i + 1 <= 9223372036854775807) /\
    rPlusA_at (fa) (fb) (a) (b) (o.set i.toNat ((c + a.getD i.toNat default + b.getD i.toNat default).tmod 1000000000)) ((c + a.getD i.toNat default + b.getD i.toNat default).tdiv 1000000000) (i + 1) (PureQ dq)) /\
   (¬(i < (↑b.length:Int)) -> (i.toNat < o.length) /\
    (0 <= (c + a.getD i.toNat default).tdiv 1000000000 /\ (c + a.getD i.toNat default).tdiv 1000000000 <= 4294967295) /\
    (-9223372036854775808 <= i + 1 /\ i + 1 <= 9223372036854775807) /\
    rPlusA_at (fa) (fb) (a) (b) (o.set i.toNat ((c + a.getD i.toNat default).tmod 1000000000)) ((c + a.getD i.toNat default).tdiv 1000000000) (i + 1) (PureQ dq))) /\
  (¬(i < (↑a.length:Int)) -> (0 <= (↑a.length:Int)) /\
   ((↑a.length:Int).toNat < o.length) /\
   (Sp.short (o.set (↑a.length:Int).toNat c).length) /\
   Weak (vf (us (Sp.trimL (o.set (↑a.length:Int).toNat c)))) dq)) :
 rPlusA_at fa fb a b o c i (PureQ dq):=by
 unfold rPlusA_at
 have w1:(us a).length = a.length:=List.length_map ..
 have i2:(decide (i < (↑(us a).length:Int))) = true ↔ (i < (↑a.length:Int)):=(by (try rw [w1]);all_goals exact i_dec)
 rcases xm (i < (↑a.length:Int)) with d3 | d3
 ·have H:=H.1 d3
  obtain ⟨k5,H⟩:=H
  have i6:(decide (i.toNat < (us a).length)) = true ↔ (i.toNat < a.length):=(by (try rw [w1]);all_goals exact i_dec)
  obtain ⟨k7,H⟩:=H
  obtain ⟨k8,H⟩:=H
  have w9:wv (c + a.getD i.toNat default) = c + a.getD i.toNat default:=wU32 k8
  have w10:(us b).length = b.length:=List.length_map ..
  have i11:(decide (i < (↑(us b).length:Int))) = true ↔ (i < (↑b.length:Int)):=(by (try rw [w10]);all_goals exact i_dec)
  refine path_wp (G:=given kp122 [(8,4,.elem (vu (a.getD i.toNat default)))] []) 12 [true] ⟨(atC (cd Tryz.f122) [1,1,1,1,0,1,0,0,1,0,0,1,0,1]),[(0,AV.vec fa 1 (us a)),(1,AV.vec fb 1 (us b)),(5,AV.row 0 0),(6,vu (wv (c + a.getD i.toNat default))),(7,vi i),(34,vb (decide (i < (↑(us b).length:Int))))],[⟨us o,1,0,false,true⟩],_,[((us a).get?Internal i.toNat = some (vu (a.getD i.toNat default)))],_⟩ (by kernel_rfl) (bc (beq_t (i2.2 d3)) (bc (i_dec.2 k5) (bc (i6.2 k7) b0))) (qc (el_map k7) q0) c0 ?_
  rcases xm (i < (↑b.length:Int)) with d12 | d12
  ·have H:=H.1 d12
   have i14:(decide (i.toNat < (us b).length)) = true ↔ (i.toNat < b.length):=(by (try rw [w10]);all_goals exact i_dec)
   obtain ⟨k15,H⟩:=H
   obtain ⟨k16,H⟩:=H
   have w17:wv (c + a.getD i.toNat default + b.getD i.toNat default) = c + a.getD i.toNat default + b.getD i.toNat default:=wU32 k16
   have w19:(us o).length = o.length:=List.length_map ..
   have i20:(decide (i.toNat < (us o).length)) = true ↔ (i.toNat < o.length):=(by (try rw [w19]);all_goals exact i_dec)
   obtain ⟨k21,H⟩:=H
   have w22:(us o).set i.toNat (vu ((c + a.getD i.toNat default + b.getD i.toNat default).tmod 1000000000)) = us (o.set i.toNat ((c + a.getD i.toNat default + b.getD i.toNat default).tmod 1000000000)):=(lm_set rfl rfl)
   obtain ⟨k23,H⟩:=H
   have w24:wv ((c + a.getD i.toNat default + b.getD i.toNat default).tdiv 1000000000) = (c + a.getD i.toNat default + b.getD i.toNat default).tdiv 1000000000:=wU32 k23
   obtain ⟨k25,H⟩:=H
   have w26:wi (i + 1) = i + 1:=wI64 k25
   exact path_wp (G:=given kp122 [(10,4,.elem (vu (b.getD i.toNat default))),(11,5,.elem (vu (o.getD i.toNat default)))] []) 1000 [true] ⟨(atC (cd Tryz.f122) [1,1,1,1,0,1,0,0]),[(0,AV.vec fa 1 (us a)),(1,AV.vec fb 1 (us b)),(5,AV.row 0 0),(6,vu (wv ((wv (wv (c + a.getD i.toNat default) + b.getD i.toNat default)).tdiv 1000000000))),(7,vi (wi (i + 1)))],[⟨(us o).set i.toNat (vu ((wv (wv (c + a.getD i.toNat default) + b.getD i.toNat default)).tmod 1000000000)),1,0,false,true⟩],_,[((us b).get?Internal i.toNat = some (vu (b.getD i.toNat default))),((us o).get?Internal i.toNat = some (vu (o.getD i.toNat default)))],_⟩ (by kernel_rfl) (bc (beq_t (i11.2 d12)) (bc (i_dec.2 k5) (bc (i14.2 k15) (bc rfl (bc rfl (bc (i_dec.2 k5) (bc (i20.2 k21) (bc rfl (bc rfl b0))))))))) (qc (el_map k15) (qc (el_map k21) q0)) c0 (by (try rw [w9]);(try rw [w17]);(try rw [w22]);(try rw [w24]);(try rw [w26]);all_goals exact H)
  ·have H:=H.2 d12
   have w28:(us o).length = o.length:=List.length_map ..
   have i29:(decide (i.toNat < (us o).length)) = true ↔ (i.toNat < o.length):=(by (try rw [w28]);all_goals exact i_dec)
   obtain ⟨k30,H⟩:=H
   have w31:(us o).set i.toNat (vu ((c + a.getD i.toNat default).tmod 1000000000)) = us (o.set i.toNat ((c + a.getD i.toNat default).tmod 1000000000)):=(lm_set rfl rfl)
   obtain ⟨k32,H⟩:=H
   have w33:wv ((c + a.getD i.toNat default).tdiv 1000000000) = (c + a.getD i.toNat default).tdiv 1000000000:=wU32 k32
   obtain ⟨k34,H⟩:=H
   have w35:wi (i + 1) = i + 1:=wI64 k34
   exact path_wp (G:=given kp122 [(11,5,.elem (vu (o.getD i.toNat default)))] []) 1000 [false] ⟨(atC (cd Tryz.f122) [1,1,1,1,0,1,0,0]),[(0,AV.vec fa 1 (us a)),(1,AV.vec fb 1 (us b)),(5,AV.row 0 0),(6,vu (wv ((wv (c + a.getD i.toNat default)).tdiv 1000000000))),(7,vi (wi (i + 1)))],[⟨(us o).set i.toNat (vu ((wv (c + a.getD i.toNat default)).tmod 1000000000)),1,0,false,true⟩],_,[((us o).get?Internal i.toNat = some (vu (o.getD i.toNat default)))],_⟩ (by kernel_rfl) (bc (beq_f (fun h => d12 (i11.1 h))) (bc rfl (bc rfl (bc (i_dec.2 k5) (bc (i29.2 k30) (bc rfl (bc rfl b0))))))) (qc (el_map k30) q0) c0 (by (try rw [w9]);(try rw [w31]);(try rw [w33]);(try rw [w35]);all_goals exact H)
 ·have H:=H.2 d3
  have i36:(decide (0 <= (↑(us a).length:Int))) = true ↔ (0 <= (↑a.length:Int)):=(by (try rw [w1]);all_goals exact i_dec)
  obtain ⟨k37,H⟩:=H
  have w38:(us o).length = o.length:=List.length_map ..
  have i39:(decide ((↑(us a).length:Int).toNat < (us o).length)) = true ↔ ((↑a.length:Int).toNat < o.length):=(by (try rw [w1]);(try rw [w38]);all_goals exact i_dec)
  obtain ⟨k40,H⟩:=H
  have w41:(us o).set (↑a.length:Int).toNat (vu c) = us (o.set (↑a.length:Int).toNat c):=(lm_set rfl rfl)
  obtain ⟨k42,H⟩:=H
  exact path_rq (G:=given kp122 [(13,5,.elem (vu (o.getD (↑a.length:Int).toNat default))),(14,1,.call (zNwB1 o a c) none)] []) 1000 [false] (eqs:=[((us o).get?Internal (↑(us a).length:Int).toNat = some (vu (o.getD (↑a.length:Int).toNat default)))]) (calls:=[pc 80 [vf ((us o).set (↑(us a).length:Int).toNat (vu c))] (zNwB1 o a c)]) (zNwB1 o a c) (by kernel_rfl) (bc (beq_f (fun h => d3 (i2.1 h))) (bc rfl (bc (i36.2 k37) (bc (i39.2 k40) (bc rfl (bc rfl b0)))))) (qc (by (try rw [w1]);all_goals exact (el_map k40)) q0) (ce (by (try rw [w1]);(try rw [w41]);all_goals exact (@ev80_d (false) (o.set (↑a.length:Int).toNat c) k42)) c0) H
theorem rMinus (fa fb:Bool) (a b:List Int)  (dq:AV) (H :
  (0 <= (↑a.length:Int)) /\
  ((↑a.length:Int) * 4 <= 1099511627776) /\
  ((↑a.length:Int) <= 1099511627776) /\
  rMinusA_at (fa) (fb) (a) (b) (List.replicate (↑a.length:Int).toNat (0:Int)) (0) (0) (PureQ dq)) :
 rMinus_at fa fb a b (PureQ dq):=by
 unfold rMinus_at
 have w1:(us a).length = a.length:=List.length_map ..
 have i2:(decide (0 <= (↑(us a).length:Int))) = true ↔ (0 <= (↑a.length:Int)):=(by (try rw [w1]);all_goals exact i_dec)
 obtain ⟨k3,H⟩:=H
 have i4:(decide ((↑(us a).length:Int) <= (↑(us a).length:Int))) = true ↔ ((↑a.length:Int) <= (↑a.length:Int)):=(by (try rw [w1]);all_goals exact i_dec)
 have i5:(decide ((↑(us a).length:Int) * 4 <= 1099511627776)) = true ↔ ((↑a.length:Int) * 4 <= 1099511627776):=(by (try rw [w1]);all_goals exact i_dec)
 obtain ⟨k6,H⟩:=H
 have i7:(decide ((↑(us a).length:Int) <= 1099511627776)) = true ↔ ((↑a.length:Int) <= 1099511627776):=(by (try rw [w1]);all_goals exact i_dec)
 obtain ⟨k8,H⟩:=H
 have w9:List.replicate (↑a.length:Int).toNat (vu 0) = us (List.replicate (↑a.length:Int).toNat (0:Int)):=(lm_rep rfl)
 exact path_wp (G:=given kp116 [] []) 1000 [] ⟨(atC (cd Tryz.f116) [1,1,1,0,1,0,0]),[(0,AV.vec fa 1 (us a)),(1,AV.vec fb 1 (us b)),(5,AV.row 0 0),(6,vu 0),(7,vi 0)],[⟨List.replicate (↑(us a).length:Int).toNat (vu 0),1,0,false,true⟩],[decide (0 <= (↑(us a).length:Int)),decide ((↑(us a).length:Int) <= (↑(us a).length:Int)),decide ((↑(us a).length:Int) * 4 <= 1099511627776),decide ((↑(us a).length:Int) <= 1099511627776)],[],_⟩ (by kernel_rfl) (bc (i2.2 k3) (bc (i4.2 (by omega)) (bc (i5.2 k6) (bc (i7.2 k8) b0)))) q0 c0 (by (try rw [w1]);(try rw [w9]);all_goals exact H)
theorem rMinusA (fa fb:Bool) (a b:List Int) (o:List Int) (c i:Int)  (dq:AV) (H :
  ((i < (↑a.length:Int)) -> (0 <= i) /\
   (i.toNat < a.length) /\
   (0 <= a.getD i.toNat default + 1000000000 /\ a.getD i.toNat default + 1000000000 <= 4294967295) /\
   (0 <= a.getD i.toNat default + 1000000000 - c /\ a.getD i.toNat default + 1000000000 - c <= 4294967295) /\
   ((i < (↑b.length:Int)) -> (i.toNat < b.length) /\
    (0 <= a.getD i.toNat default + 1000000000 - c - b.getD i.toNat default /\ a.getD i.toNat default + 1000000000 - c - b.getD i.toNat default <= 4294967295) /\
    ((a.getD i.toNat default + 1000000000 - c - b.getD i.toNat default >= 1000000000) -> (0 <= a.getD i.toNat default + 1000000000 - c - b.getD i.toNat default - 1000000000 /\ a.getD i.toNat default + 1000000000 - c - b.getD i.toNat default - 1000000000 <= 4294967295) /\
     (i.toNat < o.length) /\
     (-9223372036854775808 <= i + 1 /\ i + 1 <= 9223372036854775807) /\
     rMinusA_at (fa) (fb) (a) (b) (o.set i.toNat (a.getD i.toNat default + 1000000000 - c - b.getD i.toNat default - 1000000000)) (0) (i + 1) (PureQ dq)) /\
    (¬(a.getD i.toNat default + 1000000000 - c - b.getD i.toNat default >= 1000000000) -> (i.toNat < o.length) /\
     (-9223372036854775808 <= i + 1 /\ i + 1 <= 9223372036854775807) /\
     rMinusA_at (fa) (fb) (a) (b) (o.set i.toNat (a.getD i.toNat default + 1000000000 - c - b.getD i.toNat default)) (1) (i + 1) (PureQ dq))) /\
   (¬(i < (↑b.length:Int)) -> ((a.getD i.toNat default + 1000000000 - c >= 1000000000) -> (0 <= a.getD i.toNat default + 1000000000 - c - 1000000000 /\ a.getD i.toNat default + 1000000000 - c - 1000000000 <= 4294967295) /\
     (i.toNat < o.length) /\
     (-9223372036854775808 <= i + 1 /\ i + 1 <= 9223372036854775807) /\
     rMinusA_at (fa) (fb) (a) (b) (o.set i.toNat (a.getD i.toNat default + 1000000000 - c - 1000000000)) (0) (i + 1) (PureQ dq)) /\
    (¬(a.getD i.toNat default + 1000000000 - c >= 1000000000) -> (i.toNat < o.length) /\
     (-9223372036854775808 <= i + 1 /\ i + 1 <= 9223372036854775807) /\
     rMinusA_at (fa) (fb) (a) (b) (o.set i.toNat (a.getD i.toNat default + 1000000000 - c)) (1) (i + 1) (PureQ dq)))) /\
  (¬(i < (↑a.length:Int)) -> (Sp.short o.length) /\
   Weak (vf (us (Sp.trimL o))) dq)) :
 rMinusA_at fa fb a b o c i (PureQ dq):=by
 unfold rMinusA_at
 have w1:(us a).length = a.length:=List.length_map ..
 have i2:(decide (i < (↑(us a).length:Int))) = true ↔ (i < (↑a.length:Int)):=(by (try rw [w1]);all_goals exact i_dec)
 rcases xm (i < (↑a.length:Int)) with d3 | d3
 ·have H:=H.1 d3
  obtain ⟨k5,H⟩:=H
  have i6:(decide (i.toNat < (us a).length)) = true ↔ (i.toNat < a.length):=(by (try rw [w1]);all_goals exact i_dec)
  obtain ⟨k7,H⟩:=H
  obtain ⟨k8,H⟩:=H
  have w9:wv (a.getD i.toNat default + 1000000000) = a.getD i.toNat default + 1000000000:=wU32 k8
  obtain ⟨k10,H⟩:=H
  have w11:wv (a.getD i.toNat default + 1000000000 - c) = a.getD i.toNat default + 1000000000 - c:=wU32 k10
  have w12:(us b).length = b.length:=List.length_map ..
  have i13:(decide (i < (↑(us b).length:Int))) = true ↔ (i < (↑b.length:Int)):=(by (try rw [w12]);all_goals exact i_dec)
  refine path_wp (G:=given kp116 [(6,3,.elem (vu (a.getD i.toNat default)))] []) 12 [true] ⟨(atC (cd Tryz.f116) [1,1,1,0,1,0,0,1,0,0,1,0,1]),[(0,AV.vec fa 1 (us a)),(1,AV.vec fb 1 (us b)),(5,AV.row 0 0),(7,vi i),(8,vu (wv (wv (a.getD i.toNat default + 1000000000) - c))),(28,vb (decide (i < (↑(us b).length:Int))))],[⟨us o,1,0,false,true⟩],_,[((us a).get?Internal i.toNat = some (vu (a.getD i.toNat default)))],_⟩ (by kernel_rfl) (bc (beq_t (i2.2 d3)) (bc (i_dec.2 k5) (bc (i6.2 k7) b0))) (qc (el_map k7) q0) c0 ?_
  rcases xm (i < (↑b.length:Int)) with d14 | d14
  ·have H:=H.1 d14
   have i16:(decide (i.toNat < (us b).length)) = true ↔ (i.toNat < b.length):=(by (try rw [w12]);all_goals exact i_dec)
   obtain ⟨k17,H⟩:=H
   obtain ⟨k18,H⟩:=H
   have w19:wv (a.getD i.toNat default + 1000000000 - c - b.getD i.toNat default) = a.getD i.toNat default + 1000000000 - c - b.getD i.toNat default:=wU32 k18
   have i20:(decide (wv (wv (wv (a.getD i.toNat default + 1000000000) - c) - b.getD i.toNat default) >= 1000000000)) = true ↔ (a.getD i.toNat default + 1000000000 - c - b.getD i.toNat default >= 1000000000):=(by (try rw [w9]);(try rw [w11]);(try rw [w19]);all_goals exact i_dec)
   refine path_wp (G:=given kp116 [(8,4,.elem (vu (b.getD i.toNat default)))] []) 7 [true] ⟨(atC (cd Tryz.f116) [1,1,1,0,1,0,0,1,0,0,1,1,1,0,1]),[(0,AV.vec fa 1 (us a)),(1,AV.vec fb 1 (us b)),(5,AV.row 0 0),(6,vu 1),(7,vi i),(8,vu (wv (wv (wv (a.getD i.toNat default + 1000000000) - c) - b.getD i.toNat default))),(36,vb (decide (wv (wv (wv (a.getD i.toNat default + 1000000000) - c) - b.getD i.toNat default) >= 1000000000)))],[⟨us o,1,0,false,true⟩],_,[((us b).get?Internal i.toNat = some (vu (b.getD i.toNat default)))],_⟩ (by kernel_rfl) (bc (beq_t (i13.2 d14)) (bc (i_dec.2 k5) (bc (i16.2 k17) b0))) (qc (el_map k17) q0) c0 ?_
   rcases xm (a.getD i.toNat default + 1000000000 - c - b.getD i.toNat default >= 1000000000) with d21 | d21
   ·have H:=H.1 d21
    obtain ⟨k22,H⟩:=H
    have w23:wv (a.getD i.toNat default + 1000000000 - c - b.getD i.toNat default - 1000000000) = a.getD i.toNat default + 1000000000 - c - b.getD i.toNat default - 1000000000:=wU32 k22
    have w25:(us o).length = o.length:=List.length_map ..
    have i26:(decide (i.toNat < (us o).length)) = true ↔ (i.toNat < o.length):=(by (try rw [w25]);all_goals exact i_dec)
    obtain ⟨k27,H⟩:=H
    have w28:(us o).set i.toNat (vu (a.getD i.toNat default + 1000000000 - c - b.getD i.toNat default - 1000000000)) = us (o.set i.toNat (a.getD i.toNat default + 1000000000 - c - b.getD i.toNat default - 1000000000)):=(lm_set rfl rfl)
    obtain ⟨k29,H⟩:=H
    have w30:wi (i + 1) = i + 1:=wI64 k29
    exact path_wp (G:=given kp116 [(12,4,.elem (vu (o.getD i.toNat default)))] []) 1000 [true] ⟨(atC (cd Tryz.f116) [1,1,1,0,1,0,0]),[(0,AV.vec fa 1 (us a)),(1,AV.vec fb 1 (us b)),(5,AV.row 0 0),(6,vu 0),(7,vi (wi (i + 1)))],[⟨(us o).set i.toNat (vu (wv (wv (wv (wv (a.getD i.toNat default + 1000000000) - c) - b.getD i.toNat default) - 1000000000))),1,0,false,true⟩],_,[((us o).get?Internal i.toNat = some (vu (o.getD i.toNat default)))],_⟩ (by kernel_rfl) (bc (beq_t (i20.2 d21)) (bc rfl (bc (i_dec.2 k5) (bc (i26.2 k27) (bc rfl b0))))) (qc (el_map k27) q0) c0 (by (try rw [w9]);(try rw [w11]);(try rw [w19]);(try rw [w23]);(try rw [w28]);(try rw [w30]);all_goals exact H)
   ·have H:=H.2 d21
    have w32:(us o).length = o.length:=List.length_map ..
    have i33:(decide (i.toNat < (us o).length)) = true ↔ (i.toNat < o.length):=(by (try rw [w32]);all_goals exact i_dec)
    obtain ⟨k34,H⟩:=H
    have w35:(us o).set i.toNat (vu (a.getD i.toNat default + 1000000000 - c - b.getD i.toNat default)) = us (o.set i.toNat (a.getD i.toNat default + 1000000000 - c - b.getD i.toNat default)):=(lm_set rfl rfl)
    obtain ⟨k36,H⟩:=H
    have w37:wi (i + 1) = i + 1:=wI64 k36
    exact path_wp (G:=given kp116 [(12,4,.elem (vu (o.getD i.toNat default)))] []) 1000 [false] ⟨(atC (cd Tryz.f116) [1,1,1,0,1,0,0]),[(0,AV.vec fa 1 (us a)),(1,AV.vec fb 1 (us b)),(5,AV.row 0 0),(6,vu 1),(7,vi (wi (i + 1)))],[⟨(us o).set i.toNat (vu (wv (wv (wv (a.getD i.toNat default + 1000000000) - c) - b.getD i.toNat default))),1,0,false,true⟩],_,[((us o).get?Internal i.toNat = some (vu (o.getD i.toNat default)))],_⟩ (by kernel_rfl) (bc (beq_f (fun h => d21 (i20.1 h))) (bc rfl (bc (i_dec.2 k5) (bc (i33.2 k34) (bc rfl b0))))) (qc (el_map k34) q0) c0 (by (try rw [w9]);(try rw [w11]);(try rw [w19]);(try rw [w35]);(try rw [w37]);all_goals exact H)
  ·have H:=H.2 d14
   have i38:(decide (wv (wv (a.getD i.toNat default + 1000000000) - c) >= 1000000000)) = true ↔ (a.getD i.toNat default + 1000000000 - c >= 1000000000):=(by (try rw [w9]);(try rw [w11]);all_goals exact i_dec)
   rcases xm (a.getD i.toNat default + 1000000000 - c >= 1000000000) with d39 | d39
   ·have H:=H.1 d39
    obtain ⟨k40,H⟩:=H
    have w41:wv (a.getD i.toNat default + 1000000000 - c - 1000000000) = a.getD i.toNat default + 1000000000 - c - 1000000000:=wU32 k40
    have w43:(us o).length = o.length:=List.length_map ..
    have i44:(decide (i.toNat < (us o).length)) = true ↔ (i.toNat < o.length):=(by (try rw [w43]);all_goals exact i_dec)
    obtain ⟨k45,H⟩:=H
    have w46:(us o).set i.toNat (vu (a.getD i.toNat default + 1000000000 - c - 1000000000)) = us (o.set i.toNat (a.getD i.toNat default + 1000000000 - c - 1000000000)):=(lm_set rfl rfl)
    obtain ⟨k47,H⟩:=H
    have w48:wi (i + 1) = i + 1:=wI64 k47
    exact path_wp (G:=given kp116 [(12,4,.elem (vu (o.getD i.toNat default)))] []) 1000 [false,true] ⟨(atC (cd Tryz.f116) [1,1,1,0,1,0,0]),[(0,AV.vec fa 1 (us a)),(1,AV.vec fb 1 (us b)),(5,AV.row 0 0),(6,vu 0),(7,vi (wi (i + 1)))],[⟨(us o).set i.toNat (vu (wv (wv (wv (a.getD i.toNat default + 1000000000) - c) - 1000000000))),1,0,false,true⟩],_,[((us o).get?Internal i.toNat = some (vu (o.getD i.toNat default)))],_⟩ (by kernel_rfl) (bc (beq_f (fun h => d14 (i13.1 h))) (bc (beq_t (i38.2 d39)) (bc rfl (bc (i_dec.2 k5) (bc (i44.2 k45) (bc rfl b0)))))) (qc (el_map k45) q0) c0 (by (try rw [w9]);(try rw [w11]);(try rw [w41]);(try rw [w46]);(try rw [w48]);all_goals exact H)
   ·have H:=H.2 d39
    have w50:(us o).length = o.length:=List.length_map ..
    have i51:(decide (i.toNat < (us o).length)) = true ↔ (i.toNat < o.length):=(by (try rw [w50]);all_goals exact i_dec)
    obtain ⟨k52,H⟩:=H
    have w53:(us o).set i.toNat (vu (a.getD i.toNat default + 1000000000 - c)) = us (o.set i.toNat (a.getD i.toNat default + 1000000000 - c)):=(lm_set rfl rfl)
    obtain ⟨k54,H⟩:=H
    have w55:wi (i + 1) = i + 1:=wI64 k54
    exact path_wp (G:=given kp116 [(12,4,.elem (vu (o.getD i.toNat default)))] []) 1000 [false,false] ⟨(atC (cd Tryz.f116) [1,1,1,0,1,0,0]),[(0,AV.vec fa 1 (us a)),(1,AV.vec fb 1 (us b)),(5,AV.row 0 0),(6,vu 1),(7,vi (wi (i + 1)))],[⟨(us o).set i.toNat (vu (wv (wv (a.getD i.toNat default + 1000000000) - c))),1,0,false,true⟩],_,[((us o).get?Internal i.toNat = some (vu (o.getD i.toNat default)))],_⟩ (by kernel_rfl) (bc (beq_f (fun h => d14 (i13.1 h))) (bc (beq_f (fun h => d39 (i38.1 h))) (bc rfl (bc (i_dec.2 k5) (bc (i51.2 k52) (bc rfl b0)))))) (qc (el_map k52) q0) c0 (by (try rw [w9]);(try rw [w11]);(try rw [w53]);(try rw [w55]);all_goals exact H)
 ·have H:=H.2 d3
  obtain ⟨k56,H⟩:=H
  exact path_rq (G:=given kp116 [(13,1,.call (vf (us (Sp.trimL o))) none)] []) 1000 [false] (vf (us (Sp.trimL o))) (by kernel_rfl) (bc (beq_f (fun h => d3 (i2.1 h))) (bc rfl b0)) q0 (ce (@ev80_d (false) (o) k56) c0) H
theorem rTimes (fa fb:Bool) (a b:List Int)  (dq:AV) (H :
  (-9223372036854775808 <= (↑a.length:Int) + (↑b.length:Int) /\ (↑a.length:Int) + (↑b.length:Int) <= 9223372036854775807) /\
  (0 <= (↑a.length:Int) + (↑b.length:Int)) /\
  (((↑a.length:Int) + (↑b.length:Int)) * 4 <= 1099511627776) /\
  ((↑a.length:Int) + (↑b.length:Int) <= 1099511627776) /\
  rTimesA_at (fa) (fb) (a) (b) (List.replicate ((↑a.length:Int) + (↑b.length:Int)).toNat (0:Int)) (0) (PureQ dq)) :
 rTimes_at fa fb a b (PureQ dq):=by
 unfold rTimes_at
 have w1:(us a).length = a.length:=List.length_map ..
 have w2:(us b).length = b.length:=List.length_map ..
 obtain ⟨k3,H⟩:=H
 have w4:wi ((↑a.length:Int) + (↑b.length:Int)) = (↑a.length:Int) + (↑b.length:Int):=wI64 k3
 have i5:(decide (0 <= wi ((↑(us a).length:Int) + (↑(us b).length:Int)))) = true ↔ (0 <= (↑a.length:Int) + (↑b.length:Int)):=(by (try rw [w1]);(try rw [w2]);(try rw [w4]);all_goals exact i_dec)
 obtain ⟨k6,H⟩:=H
 have i7:(decide (wi ((↑(us a).length:Int) + (↑(us b).length:Int)) <= wi ((↑(us a).length:Int) + (↑(us b).length:Int)))) = true ↔ ((↑a.length:Int) + (↑b.length:Int) <= (↑a.length:Int) + (↑b.length:Int)):=(by (try rw [w1]);(try rw [w2]);(try rw [w4]);all_goals exact i_dec)
 have i8:(decide (wi ((↑(us a).length:Int) + (↑(us b).length:Int)) * 4 <= 1099511627776)) = true ↔ (((↑a.length:Int) + (↑b.length:Int)) * 4 <= 1099511627776):=(by (try rw [w1]);(try rw [w2]);(try rw [w4]);all_goals exact i_dec)
 obtain ⟨k9,H⟩:=H
 have i10:(decide (wi ((↑(us a).length:Int) + (↑(us b).length:Int)) <= 1099511627776)) = true ↔ ((↑a.length:Int) + (↑b.length:Int) <= 1099511627776):=(by (try rw [w1]);(try rw [w2]);(try rw [w4]);all_goals exact i_dec)
 obtain ⟨k11,H⟩:=H
 have w12:List.replicate ((↑a.length:Int) + (↑b.length:Int)).toNat (vu 0) = us (List.replicate ((↑a.length:Int) + (↑b.length:Int)).toNat (0:Int)):=(lm_rep rfl)
 exact path_wp (G:=given kp86 [] []) 1000 [] ⟨(atC (cd Tryz.f86) [1,1,0,1,0,0]),[(0,AV.vec fa 1 (us a)),(1,AV.vec fb 1 (us b)),(5,AV.row 0 0),(6,vi 0)],[⟨List.replicate (wi ((↑(us a).length:Int) + (↑(us b).length:Int))).toNat (vu 0),1,0,false,true⟩],[decide (0 <= wi ((↑(us a).length:Int) + (↑(us b).length:Int))),decide (wi ((↑(us a).length:Int) + (↑(us b).length:Int)) <= wi ((↑(us a).length:Int) + (↑(us b).length:Int))),decide (wi ((↑(us a).length:Int) + (↑(us b).length:Int)) * 4 <= 1099511627776),decide (wi ((↑(us a).length:Int) + (↑(us b).length:Int)) <= 1099511627776)],[],_⟩ (by kernel_rfl) (bc (i5.2 k6) (bc (i7.2 (by omega)) (bc (i8.2 k9) (bc (i10.2 k11) b0)))) q0 c0 (by (try rw [w1]);(try rw [w2]);(try rw [w4]);(try rw [w12]);all_goals exact H)
theorem rTimesA (fa fb:Bool) (a b:List Int) (o:List Int) (i:Int)  (dq:AV) (H :
  ((i < (↑a.length:Int)) -> rTimesB_at (fa) (fb) (a) (b) (o) (i) (0) (0) (PureQ dq)) /\
  (¬(i < (↑a.length:Int)) -> (Sp.short o.length) /\
   Weak (vf (us (Sp.trimL o))) dq)) :
 rTimesA_at fa fb a b o i (PureQ dq):=by
 unfold rTimesA_at
 have w1:(us a).length = a.length:=List.length_map ..
 have i2:(decide (i < (↑(us a).length:Int))) = true ↔ (i < (↑a.length:Int)):=(by (try rw [w1]);all_goals exact i_dec)
 rcases xm (i < (↑a.length:Int)) with d3 | d3
 ·have H:=H.1 d3
  exact path_wp (G:=given kp86 [] []) 1000 [true] ⟨(atC (cd Tryz.f86) [1,1,0,1,0,0,1,0,0,1,0,1,0,0]),[(0,AV.vec fa 1 (us a)),(1,AV.vec fb 1 (us b)),(5,AV.row 0 0),(6,vi i),(7,vw 0),(8,vi 0)],[⟨us o,1,0,false,true⟩],_,[],_⟩ (by kernel_rfl) (bc (beq_t (i2.2 d3)) b0) q0 c0 (H)
 ·have H:=H.2 d3
  obtain ⟨k4,H⟩:=H
  exact path_rq (G:=given kp86 [(13,1,.call (vf (us (Sp.trimL o))) none)] []) 1000 [false] (vf (us (Sp.trimL o))) (by kernel_rfl) (bc (beq_f (fun h => d3 (i2.1 h))) (bc rfl b0)) q0 (ce (@ev80_d (false) (o) k4) c0) H
theorem rTimesB (fa fb:Bool) (a b:List Int) (o:List Int) (i c k:Int)  (dq:AV) (H :
  ((k < (↑b.length:Int)) -> (-9223372036854775808 <= i + k /\ i + k <= 9223372036854775807) /\
   (0 <= i + k) /\
   ((i + k).toNat < o.length) /\
   (0 <= i) /\
   (i.toNat < a.length) /\
   (0 <= k) /\
   (k.toNat < b.length) /\
   (0 <= o.getD (i + k).toNat default /\ o.getD (i + k).toNat default <= 18446744073709551615) /\
   (0 <= c + o.getD (i + k).toNat default /\ c + o.getD (i + k).toNat default <= 18446744073709551615) /\
   (0 <= a.getD i.toNat default /\ a.getD i.toNat default <= 18446744073709551615) /\
   (0 <= b.getD k.toNat default /\ b.getD k.toNat default <= 18446744073709551615) /\
   (0 <= a.getD i.toNat default * b.getD k.toNat default /\ a.getD i.toNat default * b.getD k.toNat default <= 18446744073709551615) /\
   (0 <= c + o.getD (i + k).toNat default + a.getD i.toNat default * b.getD k.toNat default /\ c + o.getD (i + k).toNat default + a.getD i.toNat default * b.getD k.toNat default <= 18446744073709551615) /\
   (0 <= (c + o.getD (i + k).toNat default + a.getD i.toNat default * b.getD k.toNat default).tmod 1000000000 /\ (c + o.getD (i + k).toNat default + a.getD i.toNat default * b.getD k.toNat default).tmod 1000000000 <= 4294967295) /\
   (0 <= (c + o.getD (i + k).toNat default + a.getD i.toNat default * b.getD k.toNat default).tdiv 1000000000 /\ (c + o.getD (i + k).toNat default + a.getD i.toNat default * b.getD k.toNat default).tdiv 1000000000 <= 18446744073709551615) /\
   (-9223372036854775808 <= k + 1 /\ k + 1 <= 9223372036854775807) /\
   rTimesB_at (fa) (fb) (a) (b) (o.set (i + k).toNat ((c + o.getD (i + k).toNat default + a.getD i.toNat default * b.getD k.toNat default).tmod 1000000000)) (i) ((c + o.getD (i + k).toNat default + a.getD i.toNat default * b.getD k.toNat default).tdiv 1000000000) (k + 1) (PureQ dq)) /\
  (¬(k < (↑b.length:Int)) -> (-9223372036854775808 <= i + (↑b.length:Int) /\ i + (↑b.length:Int) <= 9223372036854775807) /\
   (0 <= i + (↑b.length:Int)) /\
   ((i + (↑b.length:Int)).toNat < o.length) /\
   (0 <= c /\ c <= 4294967295) /\
   (-9223372036854775808 <= i + 1 /\ i + 1 <= 9223372036854775807) /\
   rTimesA_at (fa) (fb) (a) (b) (o.set (i + (↑b.length:Int)).toNat c) (i + 1) (PureQ dq))) :
 rTimesB_at fa fb a b o i c k (PureQ dq):=by
 unfold rTimesB_at
 have w1:(us b).length = b.length:=List.length_map ..
 have i2:(decide (k < (↑(us b).length:Int))) = true ↔ (k < (↑b.length:Int)):=(by (try rw [w1]);all_goals exact i_dec)
 rcases xm (k < (↑b.length:Int)) with d3 | d3
 ·have H:=H.1 d3
  obtain ⟨k4,H⟩:=H
  have w5:wi (i + k) = i + k:=wI64 k4
  have i6:(decide (0 <= wi (i + k))) = true ↔ (0 <= i + k):=(by (try rw [w5]);all_goals exact i_dec)
  obtain ⟨k7,H⟩:=H
  have w8:(us o).length = o.length:=List.length_map ..
  have i9:(decide ((wi (i + k)).toNat < (us o).length)) = true ↔ ((i + k).toNat < o.length):=(by (try rw [w5]);(try rw [w8]);all_goals exact i_dec)
  obtain ⟨k10,H⟩:=H
  obtain ⟨k12,H⟩:=H
  have w13:(us a).length = a.length:=List.length_map ..
  have i14:(decide (i.toNat < (us a).length)) = true ↔ (i.toNat < a.length):=(by (try rw [w13]);all_goals exact i_dec)
  obtain ⟨k15,H⟩:=H
  obtain ⟨k17,H⟩:=H
  have i18:(decide (k.toNat < (us b).length)) = true ↔ (k.toNat < b.length):=(by (try rw [w1]);all_goals exact i_dec)
  obtain ⟨k19,H⟩:=H
  obtain ⟨k20,H⟩:=H
  have w21:wu (o.getD (i + k).toNat default) = o.getD (i + k).toNat default:=wU64 k20
  obtain ⟨k22,H⟩:=H
  have w23:wu (c + o.getD (i + k).toNat default) = c + o.getD (i + k).toNat default:=wU64 k22
  obtain ⟨k24,H⟩:=H
  have w25:wu (a.getD i.toNat default) = a.getD i.toNat default:=wU64 k24
  obtain ⟨k26,H⟩:=H
  have w27:wu (b.getD k.toNat default) = b.getD k.toNat default:=wU64 k26
  obtain ⟨k28,H⟩:=H
  have w29:wu (a.getD i.toNat default * b.getD k.toNat default) = a.getD i.toNat default * b.getD k.toNat default:=wU64 k28
  obtain ⟨k30,H⟩:=H
  have w31:wu (c + o.getD (i + k).toNat default + a.getD i.toNat default * b.getD k.toNat default) = c + o.getD (i + k).toNat default + a.getD i.toNat default * b.getD k.toNat default:=wU64 k30
  have i32:(decide (0 <= wi (i + k))) = true ↔ (0 <= i + k):=(by (try rw [w5]);all_goals exact i_dec)
  have i33:(decide ((wi (i + k)).toNat < (us o).length)) = true ↔ ((i + k).toNat < o.length):=(by (try rw [w5]);(try rw [w8]);all_goals exact i_dec)
  obtain ⟨k34,H⟩:=H
  have w35:wv ((c + o.getD (i + k).toNat default + a.getD i.toNat default * b.getD k.toNat default).tmod 1000000000) = (c + o.getD (i + k).toNat default + a.getD i.toNat default * b.getD k.toNat default).tmod 1000000000:=wU32 k34
  have w36:(us o).set (i + k).toNat (vu ((c + o.getD (i + k).toNat default + a.getD i.toNat default * b.getD k.toNat default).tmod 1000000000)) = us (o.set (i + k).toNat ((c + o.getD (i + k).toNat default + a.getD i.toNat default * b.getD k.toNat default).tmod 1000000000)):=(lm_set rfl rfl)
  obtain ⟨k37,H⟩:=H
  have w38:wu ((c + o.getD (i + k).toNat default + a.getD i.toNat default * b.getD k.toNat default).tdiv 1000000000) = (c + o.getD (i + k).toNat default + a.getD i.toNat default * b.getD k.toNat default).tdiv 1000000000:=wU64 k37
  obtain ⟨k39,H⟩:=H
  have w40:wi (k + 1) = k + 1:=wI64 k39
  exact path_wp (G:=given kp86 [(9,6,.elem (vu (o.getD (i + k).toNat default))),(9,12,.elem (vu (a.getD i.toNat default))),(9,17,.elem (vu (b.getD k.toNat default))),(10,8,.elem (vu (o.getD (i + k).toNat default)))] []) 1000 [true] ⟨(atC (cd Tryz.f86) [1,1,0,1,0,0,1,0,0,1,0,1,0,0]),[(0,AV.vec fa 1 (us a)),(1,AV.vec fb 1 (us b)),(5,AV.row 0 0),(6,vi i),(7,vw (wu ((wu (wu (c + wu (o.getD (i + k).toNat default)) + wu (wu (a.getD i.toNat default) * wu (b.getD k.toNat default)))).tdiv 1000000000))),(8,vi (wi (k + 1)))],[⟨(us o).set (wi (i + k)).toNat (vu (wv ((wu (wu (c + wu (o.getD (i + k).toNat default)) + wu (wu (a.getD i.toNat default) * wu (b.getD k.toNat default)))).tmod 1000000000))),1,0,false,true⟩],_,[((us o).get?Internal (wi (i + k)).toNat = some (vu (o.getD (i + k).toNat default))),((us a).get?Internal i.toNat = some (vu (a.getD i.toNat default))),((us b).get?Internal k.toNat = some (vu (b.getD k.toNat default))),((us o).get?Internal (wi (i + k)).toNat = some (vu (o.getD (i + k).toNat default)))],_⟩ (by kernel_rfl) (bc (beq_t (i2.2 d3)) (bc rfl (bc (i6.2 k7) (bc (i9.2 k10) (bc rfl (bc (i_dec.2 k12) (bc (i14.2 k15) (bc (i_dec.2 k17) (bc (i18.2 k19) (bc rfl (bc rfl (bc (i32.2 k7) (bc (i33.2 k10) (bc rfl (bc rfl b0))))))))))))))) (qc (by (try rw [w5]);all_goals exact (el_map k10)) (qc (el_map k15) (qc (el_map k19) (qc (by (try rw [w5]);all_goals exact (el_map k10)) q0)))) c0 (by (try rw [w5]);(try rw [w21]);(try rw [w23]);(try rw [w25]);(try rw [w27]);(try rw [w29]);(try rw [w31]);(try rw [w35]);(try rw [w36]);(try rw [w38]);(try rw [w40]);all_goals exact H)
 ·have H:=H.2 d3
  obtain ⟨k41,H⟩:=H
  have w42:wi (i + (↑b.length:Int)) = i + (↑b.length:Int):=wI64 k41
  have i43:(decide (0 <= wi (i + (↑(us b).length:Int)))) = true ↔ (0 <= i + (↑b.length:Int)):=(by (try rw [w1]);(try rw [w42]);all_goals exact i_dec)
  obtain ⟨k44,H⟩:=H
  have w45:(us o).length = o.length:=List.length_map ..
  have i46:(decide ((wi (i + (↑(us b).length:Int))).toNat < (us o).length)) = true ↔ ((i + (↑b.length:Int)).toNat < o.length):=(by (try rw [w1]);(try rw [w42]);(try rw [w45]);all_goals exact i_dec)
  obtain ⟨k47,H⟩:=H
  obtain ⟨k48,H⟩:=H
  have w49:wv c = c:=wU32 k48
  have w50:(us o).set (i + (↑b.length:Int)).toNat (vu c) = us (o.set (i + (↑b.length:Int)).toNat c):=(lm_set rfl rfl)
  obtain ⟨k51,H⟩:=H
  have w52:wi (i + 1) = i + 1:=wI64 k51
  exact path_wp (G:=given kp86 [(12,8,.elem (vu (o.getD (i + (↑b.length:Int)).toNat default)))] []) 1000 [false] ⟨(atC (cd Tryz.f86) [1,1,0,1,0,0]),[(0,AV.vec fa 1 (us a)),(1,AV.vec fb 1 (us b)),(5,AV.row 0 0),(6,vi (wi (i + 1)))],[⟨(us o).set (wi (i + (↑(us b).length:Int))).toNat (vu (wv c)),1,0,false,true⟩],_,[((us o).get?Internal (wi (i + (↑(us b).length:Int))).toNat = some (vu (o.getD (i + (↑b.length:Int)).toNat default)))],_⟩ (by kernel_rfl) (bc (beq_f (fun h => d3 (i2.1 h))) (bc rfl (bc (i43.2 k44) (bc (i46.2 k47) (bc rfl b0))))) (qc (by (try rw [w1]);(try rw [w42]);all_goals exact (el_map k47)) q0) c0 (by (try rw [w1]);(try rw [w42]);(try rw [w49]);(try rw [w50]);(try rw [w52]);all_goals exact H)
end Go.Av
