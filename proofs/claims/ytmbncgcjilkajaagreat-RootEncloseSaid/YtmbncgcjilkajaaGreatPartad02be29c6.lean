/- PART 5 of the texts of a claim, joined by a program: what each part shows stands at its head. -/
import Derived.Test.YtmbncgcjilkajaaGreatPart6da10fa4a4

namespace Go.Av
open Go.Proofs
set_option maxRecDepth 100000
def fi61:Fi:=⟨52,[.cell 2 24,.tmp 3]⟩
def kp61:List (Nat × List Nat):=[(0,[1,2]),(1,[1,2,13]),(2,[2,3]),(3,[1,2,18]),(4,[2,3]),(5,[1,2,4]),(6,[1,2,4,5]),(7,[1,2,4,5,6]),(8,[1,2,4,5,9]),(9,[1,2,4,5,9,49]),(10,[2,3]),(11,[1,2,4,5])]
def rSqrt_at (fa:Bool) (a:Int) (Q:AV -> Heap -> Prop):Prop:=Wp M1 (.run fi61 (atC (cd Tryz.f61) []) [(0,bigA fa a)] []) Q
def rSqrtF_at (fa:Bool) (a:Int) (k:Nat) (Q:AV -> Heap -> Prop):Prop:=Wp M1 (.run fi61 (atC (cd Tryz.f61) [1,1,1,1,1,0,0]) [(1,.ptr 0 0 0 0),(2,.ptr 1 0 0 0),(4,.ptr 2 0 0 0),(5,.ptr 3 0 0 0)] [⟨[bigA fa a],2,0,false,false⟩,⟨[.agg [.bool false,.vnil]],2,0,false,false⟩,⟨[.agg [.bool false,.row 4 1]],2,0,false,false⟩,⟨[.agg [.bool false,.vec false 1 ((Sp.limI 2).map (.int .u32))]],2,0,false,false⟩,⟨(List.replicate k (0:Int) ++ [1]).map (.int .u32),1,1,false,true⟩]) Q
def rSqrtH_at (fa:Bool) (a x:Int) (Q:AV -> Heap -> Prop):Prop:=Wp M1 (.run fi61 (atC (cd Tryz.f61) [1,1,1,1,1,0,0]) [(1,.ptr 0 0 0 0),(2,.ptr 1 0 0 0),(4,.ptr 2 0 0 0),(5,.ptr 3 0 0 0)] [⟨[bigA fa a],2,0,false,false⟩,⟨[.agg [.bool false,.vnil]],2,0,false,false⟩,⟨[bigA false x],2,0,false,false⟩,⟨[.agg [.bool false,.vec false 1 ((Sp.limI 2).map (.int .u32))]],2,0,false,false⟩]) Q
theorem call61 {args:List AV} {d:AV} (h:wc M1 fi61 Tryz.f61 args d):Ev M1 (.pure 61 args) d []:=pcl _ _ (by kernel_rfl) h
theorem rSqrt (fa:Bool) (a:Int)  (dq:AV) (H :
  ((Sp.isNeg a = true) -> Weak (tu [ag [vb false,AV.vnil],vi 7]) dq) /\
  (¬(Sp.isNeg a = true) -> (((↑(Sp.limI a).length:Int) = 0) -> Weak (tu [ag [vb false,AV.vnil],vi 0]) dq) /\
   (¬((↑(Sp.limI a).length:Int) = 0) -> (-9223372036854775808 <= (↑(Sp.limI a).length:Int) + 1 /\ (↑(Sp.limI a).length:Int) + 1 <= 9223372036854775807) /\
    (-9223372036854775808 <= ((↑(Sp.limI a).length:Int) + 1).tdiv 2 /\ ((↑(Sp.limI a).length:Int) + 1).tdiv 2 <= 9223372036854775807) /\
    (0 <= ((↑(Sp.limI a).length:Int) + 1).tdiv 2) /\
    (((↑(Sp.limI a).length:Int) + 1).tdiv 2 * 4 <= 1099511627776) /\
    (((↑(Sp.limI a).length:Int) + 1).tdiv 2 <= 1099511627776) /\
    (((List.replicate (((↑(Sp.limI a).length:Int) + 1).tdiv 2).toNat (0:Int)).length + 1) * 4 <= 1099511627776) /\
    (Sp.inI 2) /\
    rSqrtF_at (fa) (a) ((((↑(Sp.limI a).length:Int) + 1).tdiv 2).toNat) (PureQ dq)))) :
 rSqrt_at fa a (PureQ dq):=by
 unfold rSqrt_at
 rcases xm (Sp.isNeg a = true) with d2 | d2
 ·have H:=H.1 d2
  exact path_rq (G:=given kp61 [] []) 1000 [true] (asm:=[0 == 0,(Sp.isNeg a) == true,true]) (tu [ag [vb false,AV.vnil],vi 7]) (by kernel_rfl) (bc (beq_self_eq_true _) (bc (beq_t ((i_var _).2 d2)) (bc rfl b0))) q0 c0 H
 ·have H:=H.2 d2
  have w3:(us (Sp.limI a)).length = (Sp.limI a).length:=List.length_map ..
  have i4:((↑(us (Sp.limI a)).length:Int) == 0) = true ↔ ((↑(Sp.limI a).length:Int) = 0):=(by (try rw [w3]);all_goals exact i_eq)
  rcases xm ((↑(Sp.limI a).length:Int) = 0) with d5 | d5
  ·have H:=H.1 d5
   exact path_rq (G:=given kp61 [] []) 1000 [false,true] (asm:=[0 == 0,(Sp.isNeg a) == false,true,((↑(us (Sp.limI a)).length:Int) == 0) == true,true]) (tu [ag [vb false,AV.vnil],vi 0]) (by kernel_rfl) (bc (beq_self_eq_true _) (bc (beq_f (fun h => d2 ((i_var _).1 h))) (bc rfl (bc (beq_t (i4.2 d5)) (bc rfl b0))))) q0 c0 H
  ·have H:=H.2 d5
   obtain ⟨k6,H⟩:=H
   have w7:wi ((↑(Sp.limI a).length:Int) + 1) = (↑(Sp.limI a).length:Int) + 1:=wI64 k6
   obtain ⟨k8,H⟩:=H
   have w9:wi (((↑(Sp.limI a).length:Int) + 1).tdiv 2) = ((↑(Sp.limI a).length:Int) + 1).tdiv 2:=wI64 k8
   have i10:(decide (0 <= wi ((wi ((↑(us (Sp.limI a)).length:Int) + 1)).tdiv 2))) = true ↔ (0 <= ((↑(Sp.limI a).length:Int) + 1).tdiv 2):=(by (try rw [w3]);(try rw [w7]);(try rw [w9]);all_goals exact i_dec)
   obtain ⟨k11,H⟩:=H
   have i12:(decide (wi ((wi ((↑(us (Sp.limI a)).length:Int) + 1)).tdiv 2) <= wi ((wi ((↑(us (Sp.limI a)).length:Int) + 1)).tdiv 2))) = true ↔ (((↑(Sp.limI a).length:Int) + 1).tdiv 2 <= ((↑(Sp.limI a).length:Int) + 1).tdiv 2):=(by (try rw [w3]);(try rw [w7]);(try rw [w9]);all_goals exact i_dec)
   have i13:(decide (wi ((wi ((↑(us (Sp.limI a)).length:Int) + 1)).tdiv 2) * 4 <= 1099511627776)) = true ↔ (((↑(Sp.limI a).length:Int) + 1).tdiv 2 * 4 <= 1099511627776):=(by (try rw [w3]);(try rw [w7]);(try rw [w9]);all_goals exact i_dec)
   obtain ⟨k14,H⟩:=H
   have i15:(decide (wi ((wi ((↑(us (Sp.limI a)).length:Int) + 1)).tdiv 2) <= 1099511627776)) = true ↔ (((↑(Sp.limI a).length:Int) + 1).tdiv 2 <= 1099511627776):=(by (try rw [w3]);(try rw [w7]);(try rw [w9]);all_goals exact i_dec)
   obtain ⟨k16,H⟩:=H
   have w17:List.replicate (((↑(Sp.limI a).length:Int) + 1).tdiv 2).toNat (vu 0) = us (List.replicate (((↑(Sp.limI a).length:Int) + 1).tdiv 2).toNat (0:Int)):=(lm_rep rfl)
   have w18:(us (List.replicate (((↑(Sp.limI a).length:Int) + 1).tdiv 2).toNat (0:Int))).length = (List.replicate (((↑(Sp.limI a).length:Int) + 1).tdiv 2).toNat (0:Int)).length:=List.length_map ..
   have i19:(decide (((List.replicate (wi ((wi ((↑(us (Sp.limI a)).length:Int) + 1)).tdiv 2)).toNat (vu 0)).length + 1) * 4 <= 1099511627776)) = true ↔ (((List.replicate (((↑(Sp.limI a).length:Int) + 1).tdiv 2).toNat (0:Int)).length + 1) * 4 <= 1099511627776):=(by (try rw [w3]);(try rw [w7]);(try rw [w9]);(try rw [w17]);(try rw [w18]);all_goals exact i_dec)
   obtain ⟨k20,H⟩:=H
   have w21:us (List.replicate (((↑(Sp.limI a).length:Int) + 1).tdiv 2).toNat (0:Int)) ++ [vu 1] = us (List.replicate (((↑(Sp.limI a).length:Int) + 1).tdiv 2).toNat (0:Int) ++ [1]):=(lm_app rfl rfl)
   obtain ⟨k22,H⟩:=H
   exact path_wp (G:=given kp61 [(6,0,.call (ag [vb false,vf (us (Sp.limI 2))]) none)] []) 1000 [false,false] ⟨(atC (cd Tryz.f61) [1,1,1,1,1,0,0]),[(1,AV.ptr 0 0 0 0),(2,AV.ptr 1 0 0 0),(4,AV.ptr 3 0 0 0),(5,AV.ptr 4 0 0 0)],[⟨[bigA fa a],2,0,false,false⟩,⟨[ag [vb false,AV.vnil]],2,0,false,false⟩,⟨List.replicate (wi ((wi ((↑(us (Sp.limI a)).length:Int) + 1)).tdiv 2)).toNat (vu 0) ++ [vu 1],1,1,false,true⟩,⟨[ag [vb false,AV.row 2 1]],2,0,false,false⟩,⟨[ag [vb false,vf (us (Sp.limI 2))]],2,0,false,false⟩],[0 == 0,(Sp.isNeg a) == false,true,((↑(us (Sp.limI a)).length:Int) == 0) == false,true,true,decide (0 <= wi ((wi ((↑(us (Sp.limI a)).length:Int) + 1)).tdiv 2)),decide (wi ((wi ((↑(us (Sp.limI a)).length:Int) + 1)).tdiv 2) <= wi ((wi ((↑(us (Sp.limI a)).length:Int) + 1)).tdiv 2)),decide (wi ((wi ((↑(us (Sp.limI a)).length:Int) + 1)).tdiv 2) * 4 <= 1099511627776),decide (wi ((wi ((↑(us (Sp.limI a)).length:Int) + 1)).tdiv 2) <= 1099511627776),true,decide (((List.replicate (wi ((wi ((↑(us (Sp.limI a)).length:Int) + 1)).tdiv 2)).toNat (vu 0)).length + 1) * 4 <= 1099511627776),true,true],[],_⟩ (by kernel_rfl) (bc (beq_self_eq_true _) (bc (beq_f (fun h => d2 ((i_var _).1 h))) (bc rfl (bc (beq_f (fun h => d5 (i4.1 h))) (bc rfl (bc rfl (bc (i10.2 k11) (bc (i12.2 (by omega)) (bc (i13.2 k14) (bc (i15.2 k16) (bc rfl (bc (i19.2 k20) (bc rfl (bc rfl b0)))))))))))))) q0 (ce (@ev15 (2) k22) c0) (by (try rw [w3]);(try rw [w7]);(try rw [w9]);(try rw [w17]);(try rw [w21]);all_goals exact wp_narrow [0,1,3,4,2] (by kernel_rfl) H)
noncomputable abbrev zNwF1 (k:Nat) (a:Int):=(↑(Sp.bk k):Int) + Sp.flo a (↑(Sp.bk k):Int)
noncomputable abbrev zNwF2:=ag [vb false,vf (us (Sp.limI 2))]
noncomputable abbrev zNwF3 (k:Nat):=ag [vb false,vf (us (List.replicate k (0:Int) ++ [1]))]
theorem rSqrtF (fa:Bool) (a:Int) (k:Nat)  (dq:AV) (H :
  (Sp.cnt a.natAbs <= 399000 /\ Sp.okK k) /\
  (Sp.okK k /\ Sp.okB (Sp.flo a (↑(Sp.bk k):Int))) /\
  (Sp.cnt ((↑(Sp.bk k):Int) + Sp.flo a (↑(Sp.bk k):Int)).natAbs <= 399000) /\
  (Sp.okB (Sp.flo ((↑(Sp.bk k):Int) + Sp.flo a (↑(Sp.bk k):Int)) 2) /\ Sp.okK k) /\
  ((Sp.sgnI (Sp.flo ((↑(Sp.bk k):Int) + Sp.flo a (↑(Sp.bk k):Int)) 2 - (↑(Sp.bk k):Int)) >= 0) -> Weak (tu [ag [vb false,vf (us (List.replicate k (0:Int) ++ [1]))],vi 0]) dq) /\
  (¬(Sp.sgnI (Sp.flo ((↑(Sp.bk k):Int) + Sp.flo a (↑(Sp.bk k):Int)) 2 - (↑(Sp.bk k):Int)) >= 0) -> rSqrtH_at (fa) (a) (Sp.flo ((↑(Sp.bk k):Int) + Sp.flo a (↑(Sp.bk k):Int)) 2) (PureQ dq))) :
 rSqrtF_at fa a k (PureQ dq):=by
 unfold rSqrtF_at
 obtain ⟨k1,H⟩:=H
 obtain ⟨k2,H⟩:=H
 obtain ⟨k3,H⟩:=H
 refine path_wp (G:=given kp61 [(7,2,.call (tu [bigA false (Sp.flo a (↑(Sp.bk k):Int)),bigA false (Sp.flr a (↑(Sp.bk k):Int)),vi 0]) none),(8,2,.call (bigA false (zNwF1 k a)) none),(8,4,.call (tu [bigA false (Sp.flo (zNwF1 k a) 2),bigA false (Sp.flr (zNwF1 k a) 2),vi 0]) none)] []) 4 [] ⟨(atC (cd Tryz.f61) [1,1,1,1,1,0,0,0,1,0]),[(1,AV.ptr 0 0 0 0),(2,AV.ptr 1 0 0 0),(4,AV.ptr 2 0 0 0),(5,AV.ptr 3 0 0 0),(6,AV.ptr 5 0 0 0)],[⟨[bigA fa a],2,0,false,false⟩,⟨[ag [vb false,AV.vnil]],2,0,false,false⟩,⟨[ag [vb false,AV.row 4 1]],2,0,false,false⟩,⟨[zNwF2],2,0,false,false⟩,⟨us (List.replicate k (0:Int) ++ [1]),1,1,true,true⟩,⟨[bigA false (Sp.flo a (↑(Sp.bk k):Int))],2,0,false,false⟩,⟨[bigA false (Sp.flr a (↑(Sp.bk k):Int))],2,0,false,false⟩],_,[],_⟩ (by kernel_rfl) (bc rfl (bc rfl (bc rfl (bc rfl (bc rfl b0))))) q0 (ce (@ev64_c (fa) (a) (k) k1) c0) (wp_both (G:=given kp61 [(7,2,.call (tu [bigA false (Sp.flo a (↑(Sp.bk k):Int)),bigA false (Sp.flr a (↑(Sp.bk k):Int)),vi 0]) none),(8,2,.call (bigA false (zNwF1 k a)) none),(8,4,.call (tu [bigA false (Sp.flo (zNwF1 k a) 2),bigA false (Sp.flr (zNwF1 k a) 2),vi 0]) none)] []) [0,1,2,3,4,5,6,8,7] 9 (e1:=[(1,AV.ptr 0 0 0 0),(2,AV.ptr 1 0 0 0),(4,AV.ptr 2 0 0 0),(5,AV.ptr 3 0 0 0),(9,AV.ptr 7 0 0 0)]) (L1:=[⟨[bigA fa a],2,0,false,false⟩,⟨[ag [vb false,AV.vnil]],2,0,false,false⟩,⟨[ag [vb false,AV.row 4 1]],2,0,false,false⟩,⟨[zNwF2],2,0,false,false⟩,⟨us (List.replicate k (0:Int) ++ [1]),1,1,true,true⟩,⟨[bigA false (Sp.flo a (↑(Sp.bk k):Int))],2,0,false,false⟩,⟨[bigA false (Sp.flr a (↑(Sp.bk k):Int))],2,0,false,false⟩,⟨[bigA false (Sp.flo (zNwF1 k a) 2)],2,0,false,false⟩,⟨[bigA false (Sp.flr (zNwF1 k a) 2)],2,0,false,false⟩]) (a:=[true,true,true,true,true,true]) (q:=[]) (cs:=[⟨true,false,63,[(zNwF3 k),bigA false (Sp.flo a (↑(Sp.bk k):Int))],[],bigA false (zNwF1 k a),[]⟩,⟨true,false,64,[bigA false (zNwF1 k a),zNwF2],[],tu [bigA false (Sp.flo (zNwF1 k a) 2),bigA false (Sp.flr (zNwF1 k a) 2),vi 0],[]⟩]) (by kernel_rfl) (by kernel_rfl) (allB_cons rfl (allB_cons rfl (allB_cons rfl (allB_cons rfl (allB_cons rfl (allB_cons rfl allB_nil)))))) allP_nil (allC_cons (fun _ => (@ev63_a (false) (Sp.flo a (↑(Sp.bk k):Int)) (k) k2)) (allC_cons (fun _ => (@ev64_b (false) (zNwF1 k a) k3)) allC_nil)) ?_)
 obtain ⟨k4,H⟩:=H
 refine path_wp (G:=given kp61 [(9,2,.call (vi (Sp.sgnI (Sp.flo (zNwF1 k a) 2 - (↑(Sp.bk k):Int)))) none)] []) 3 [] ⟨(atC (cd Tryz.f61) [1,1,1,1,1,0,0,0,1,1,0,1]),[(1,AV.ptr 0 0 0 0),(2,AV.ptr 1 0 0 0),(4,AV.ptr 2 0 0 0),(5,AV.ptr 3 0 0 0),(9,AV.ptr 7 0 0 0),(49,vb (decide (Sp.sgnI (Sp.flo (zNwF1 k a) 2 - (↑(Sp.bk k):Int)) >= 0)))],[⟨[bigA fa a],2,0,false,false⟩,⟨[ag [vb false,AV.vnil]],2,0,false,false⟩,⟨[ag [vb false,AV.row 4 1]],2,0,false,false⟩,⟨[zNwF2],2,0,false,false⟩,⟨us (List.replicate k (0:Int) ++ [1]),1,1,true,true⟩,⟨[bigA false (Sp.flo a (↑(Sp.bk k):Int))],2,0,false,false⟩,⟨[bigA false (Sp.flr a (↑(Sp.bk k):Int))],2,0,false,false⟩,⟨[bigA false (Sp.flo (zNwF1 k a) 2)],2,0,false,false⟩,⟨[bigA false (Sp.flr (zNwF1 k a) 2)],2,0,false,false⟩],_,[],_⟩ (by kernel_rfl) (bc rfl (bc rfl (bc rfl b0))) q0 (ce (@ev81_a (false) (Sp.flo (zNwF1 k a) 2) (k) k4) c0) ?_
 rcases xm (Sp.sgnI (Sp.flo (zNwF1 k a) 2 - (↑(Sp.bk k):Int)) >= 0) with d6 | d6
 ·have H:=H.1 d6
  exact path_ret (G:=given kp61 [] []) 1000 [true] (k:=((atC (cd Tryz.f61) [1,1,1,1,1,0,0,0,1,1,0,1,0,1])).tail) (env':=[(2,AV.ptr 1 0 0 0),(3,vi 0)]) (L':=[⟨[bigA fa a],2,0,false,false⟩,⟨[ag [vb false,AV.row 4 1]],2,0,false,false⟩,⟨[ag [vb false,AV.row 4 1]],2,0,false,false⟩,⟨[zNwF2],2,0,false,false⟩,⟨us (List.replicate k (0:Int) ++ [1]),1,1,true,true⟩,⟨[bigA false (Sp.flo a (↑(Sp.bk k):Int))],2,0,false,false⟩,⟨[bigA false (Sp.flr a (↑(Sp.bk k):Int))],2,0,false,false⟩,⟨[bigA false (Sp.flo (zNwF1 k a) 2)],2,0,false,false⟩,⟨[bigA false (Sp.flr (zNwF1 k a) 2)],2,0,false,false⟩]) (asm:=[(decide (Sp.sgnI (Sp.flo (zNwF1 k a) 2 - (↑(Sp.bk k):Int)) >= 0)) == true,true,true]) (eqs:=[]) (calls:=[]) (tu [ag [vb false,AV.row 4 1],vi 0]) (by kernel_rfl) (by kernel_rfl) (allB_cons (beq_t (i_dec.2 d6)) (allB_cons rfl (allB_cons rfl allB_nil))) allP_nil allC_nil (pq_weak (d:=(tu [(zNwF3 k),vi 0])) (bs:=[1 == 1]) (by kernel_rfl) (by kernel_rfl) (allB_cons (beq_self_eq_true _) allB_nil) (by kernel_rfl) H)
 ·have H:=H.2 d6
  exact path_wp (G:=given kp61 [] []) 1000 [false] ⟨(atC (cd Tryz.f61) [1,1,1,1,1,0,0]),[(1,AV.ptr 0 0 0 0),(2,AV.ptr 1 0 0 0),(4,AV.ptr 2 0 0 0),(5,AV.ptr 3 0 0 0)],[⟨[bigA fa a],2,0,false,false⟩,⟨[ag [vb false,AV.vnil]],2,0,false,false⟩,⟨[bigA false (Sp.flo (zNwF1 k a) 2)],2,0,false,false⟩,⟨[zNwF2],2,0,false,false⟩,⟨us (List.replicate k (0:Int) ++ [1]),1,1,true,true⟩,⟨[bigA false (Sp.flo a (↑(Sp.bk k):Int))],2,0,false,false⟩,⟨[bigA false (Sp.flr a (↑(Sp.bk k):Int))],2,0,false,false⟩,⟨[bigA false (Sp.flo (zNwF1 k a) 2)],2,0,false,false⟩,⟨[bigA false (Sp.flr (zNwF1 k a) 2)],2,0,false,false⟩],_,[],_⟩ (by kernel_rfl) (bc (beq_f (fun h => d6 (i_dec.1 h))) (bc rfl (bc rfl b0))) q0 c0 (wp_narrow [0,1,2,3] (by kernel_rfl) H)
noncomputable abbrev zNwF4:=ag [vb false,vf (us (Sp.limI 2))]
theorem rSqrtH (fa:Bool) (a x:Int)  (dq:AV) (H :
  (Sp.cnt a.natAbs <= 399000 /\ Sp.cnt x.natAbs <= 399000 /\ x ≠ 0) /\
  (Sp.okB x /\ Sp.okB (Sp.flo a x)) /\
  (Sp.cnt (x + Sp.flo a x).natAbs <= 399000) /\
  (Sp.okB (Sp.flo (x + Sp.flo a x) 2) /\ Sp.okB x) /\
  ((Sp.sgnI (Sp.flo (x + Sp.flo a x) 2 - x) >= 0) -> Weak (tu [bigA false x,vi 0]) dq) /\
  (¬(Sp.sgnI (Sp.flo (x + Sp.flo a x) 2 - x) >= 0) -> rSqrtH_at (fa) (a) (Sp.flo (x + Sp.flo a x) 2) (PureQ dq))) :
 rSqrtH_at fa a x (PureQ dq):=by
 unfold rSqrtH_at
 obtain ⟨k1,H⟩:=H
 obtain ⟨k2,H⟩:=H
 obtain ⟨k3,H⟩:=H
 refine path_wp (G:=given kp61 [(7,2,.call (tu [bigA false (Sp.flo a x),bigA false (Sp.flr a x),vi 0]) none),(8,2,.call (bigA false (x + Sp.flo a x)) none),(8,4,.call (tu [bigA false (Sp.flo (x + Sp.flo a x) 2),bigA false (Sp.flr (x + Sp.flo a x) 2),vi 0]) none)] []) 4 [] ⟨(atC (cd Tryz.f61) [1,1,1,1,1,0,0,0,1,0]),[(1,AV.ptr 0 0 0 0),(2,AV.ptr 1 0 0 0),(4,AV.ptr 2 0 0 0),(5,AV.ptr 3 0 0 0),(6,AV.ptr 4 0 0 0)],[⟨[bigA fa a],2,0,false,false⟩,⟨[ag [vb false,AV.vnil]],2,0,false,false⟩,⟨[bigA false x],2,0,false,false⟩,⟨[zNwF4],2,0,false,false⟩,⟨[bigA false (Sp.flo a x)],2,0,false,false⟩,⟨[bigA false (Sp.flr a x)],2,0,false,false⟩],_,[],_⟩ (by kernel_rfl) (bc rfl (bc rfl (bc rfl (bc rfl b0)))) q0 (ce (@ev64 (fa) (false) (a) (x) k1) c0) (wp_both (G:=given kp61 [(7,2,.call (tu [bigA false (Sp.flo a x),bigA false (Sp.flr a x),vi 0]) none),(8,2,.call (bigA false (x + Sp.flo a x)) none),(8,4,.call (tu [bigA false (Sp.flo (x + Sp.flo a x) 2),bigA false (Sp.flr (x + Sp.flo a x) 2),vi 0]) none)] []) [0,1,2,3,4,5,7,6] 9 (e1:=[(1,AV.ptr 0 0 0 0),(2,AV.ptr 1 0 0 0),(4,AV.ptr 2 0 0 0),(5,AV.ptr 3 0 0 0),(9,AV.ptr 6 0 0 0)]) (L1:=[⟨[bigA fa a],2,0,false,false⟩,⟨[ag [vb false,AV.vnil]],2,0,false,false⟩,⟨[bigA false x],2,0,false,false⟩,⟨[zNwF4],2,0,false,false⟩,⟨[bigA false (Sp.flo a x)],2,0,false,false⟩,⟨[bigA false (Sp.flr a x)],2,0,false,false⟩,⟨[bigA false (Sp.flo (x + Sp.flo a x) 2)],2,0,false,false⟩,⟨[bigA false (Sp.flr (x + Sp.flo a x) 2)],2,0,false,false⟩]) (a:=[true,true,true,true,true]) (q:=[]) (cs:=[⟨true,false,63,[bigA false x,bigA false (Sp.flo a x)],[],bigA false (x + Sp.flo a x),[]⟩,⟨true,false,64,[bigA false (x + Sp.flo a x),zNwF4],[],tu [bigA false (Sp.flo (x + Sp.flo a x) 2),bigA false (Sp.flr (x + Sp.flo a x) 2),vi 0],[]⟩]) (by kernel_rfl) (by kernel_rfl) (allB_cons rfl (allB_cons rfl (allB_cons rfl (allB_cons rfl (allB_cons rfl allB_nil))))) allP_nil (allC_cons (fun _ => (@ev63 (false) (false) (x) (Sp.flo a x) k2)) (allC_cons (fun _ => (@ev64_b (false) (x + Sp.flo a x) k3)) allC_nil)) ?_)
 obtain ⟨k4,H⟩:=H
 refine path_wp (G:=given kp61 [(9,2,.call (vi (Sp.sgnI (Sp.flo (x + Sp.flo a x) 2 - x))) none)] []) 3 [] ⟨(atC (cd Tryz.f61) [1,1,1,1,1,0,0,0,1,1,0,1]),[(1,AV.ptr 0 0 0 0),(2,AV.ptr 1 0 0 0),(4,AV.ptr 2 0 0 0),(5,AV.ptr 3 0 0 0),(9,AV.ptr 6 0 0 0),(49,vb (decide (Sp.sgnI (Sp.flo (x + Sp.flo a x) 2 - x) >= 0)))],[⟨[bigA fa a],2,0,false,false⟩,⟨[ag [vb false,AV.vnil]],2,0,false,false⟩,⟨[bigA false x],2,0,false,false⟩,⟨[zNwF4],2,0,false,false⟩,⟨[bigA false (Sp.flo a x)],2,0,false,false⟩,⟨[bigA false (Sp.flr a x)],2,0,false,false⟩,⟨[bigA false (Sp.flo (x + Sp.flo a x) 2)],2,0,false,false⟩,⟨[bigA false (Sp.flr (x + Sp.flo a x) 2)],2,0,false,false⟩],_,[],_⟩ (by kernel_rfl) (bc rfl (bc rfl b0)) q0 (ce (@ev81 (false) (false) (Sp.flo (x + Sp.flo a x) 2) (x) k4) c0) ?_
 rcases xm (Sp.sgnI (Sp.flo (x + Sp.flo a x) 2 - x) >= 0) with d6 | d6
 ·have H:=H.1 d6
  exact path_rq (G:=given kp61 [] []) 1000 [true] (tu [bigA false x,vi 0]) (by kernel_rfl) (bc (beq_t (i_dec.2 d6)) (bc rfl (bc rfl b0))) q0 c0 H
 ·have H:=H.2 d6
  exact path_wp (G:=given kp61 [] []) 1000 [false] ⟨(atC (cd Tryz.f61) [1,1,1,1,1,0,0]),[(1,AV.ptr 0 0 0 0),(2,AV.ptr 1 0 0 0),(4,AV.ptr 2 0 0 0),(5,AV.ptr 3 0 0 0)],[⟨[bigA fa a],2,0,false,false⟩,⟨[ag [vb false,AV.vnil]],2,0,false,false⟩,⟨[bigA false (Sp.flo (x + Sp.flo a x) 2)],2,0,false,false⟩,⟨[zNwF4],2,0,false,false⟩,⟨[bigA false (Sp.flo a x)],2,0,false,false⟩,⟨[bigA false (Sp.flr a x)],2,0,false,false⟩,⟨[bigA false (Sp.flo (x + Sp.flo a x) 2)],2,0,false,false⟩,⟨[bigA false (Sp.flr (x + Sp.flo a x) 2)],2,0,false,false⟩],_,[],_⟩ (by kernel_rfl) (bc (beq_f (fun h => d6 (i_dec.1 h))) (bc rfl (bc rfl b0))) q0 c0 (wp_narrow [0,1,2,3] (by kernel_rfl) H)
end Go.Av

namespace Go.Av
open Go.Proofs
set_option maxRecDepth 100000
def fi120:Fi:=⟨2,[.cell 0 24]⟩
def kp120:List (Nat × List Nat):=[(0,[0]),(1,[0])]
def fi121:Fi:=⟨16,[.cell 4 24]⟩
def kp121:List (Nat × List Nat):=[(0,[2,3,4]),(1,[4,5]),(2,[4])]
def vUnit_at  (Q:AV -> Heap -> Prop):Prop:=Wp M1 (.run fi120 (atC (cd Tryz.f120) []) [] []) Q
def vExact_at (fa fb:Bool) (a b:Int) (Q:AV -> Heap -> Prop):Prop:=Wp M1 (.run fi121 (atC (cd Tryz.f121) []) [(0,bigA fa a),(1,bigA fb b)] []) Q
theorem call120 {args:List AV} {d:AV} (h:wc M1 fi120 Tryz.f120 args d):Ev M1 (.pure 120 args) d []:=pcl _ _ (by kernel_rfl) h
theorem call121 {args:List AV} {d:AV} (h:wc M1 fi121 Tryz.f121 args d):Ev M1 (.pure 121 args) d []:=pcl _ _ (by kernel_rfl) h
theorem vUnit   (dq:AV) (H :
  (Sp.inI 1) /\
  Weak (ag [vb false,vf (us (Sp.limI 1))]) dq) :
 vUnit_at  (PureQ dq):=by
 unfold vUnit_at
 obtain ⟨k1,H⟩:=H
 exact path_rq (G:=given kp120 [(1,0,.call (ag [vb false,vf (us (Sp.limI 1))]) none)] []) 1000 [] (ag [vb false,vf (us (Sp.limI 1))]) (by kernel_rfl) (bc rfl b0) q0 (ce (@ev55 (1) k1) c0) H
theorem vExact (fa fb:Bool) (a b:Int)  (dq:AV) (H :
  (Sp.okB a /\ Sp.okB b /\ b ≠ 0) /\
  Weak (bigA false (Sp.flo a b)) dq) :
 vExact_at fa fb a b (PureQ dq):=by
 unfold vExact_at
 obtain ⟨k1,H⟩:=H
 exact path_rq (G:=given kp121 [(1,2,.call (tu [bigA false (Sp.flo a b),bigA false (Sp.flr a b),vi 0]) none)] []) 1000 [] (bigA false (Sp.flo a b)) (by kernel_rfl) (bc rfl (bc rfl (bc rfl (bc rfl (bc rfl (bc rfl b0)))))) q0 (ce (@ev56 (fa) (fb) (a) (b) k1) c0) H
end Go.Av

namespace Go.Av
open Go.Proofs
theorem ev120:Ev M1 (.pure 120 []) (.agg [.bool false,.vec false 1 ((Sp.limI 1).map (.int .u32))]) []:=
 call120 (vUnit _ ⟨by unfold Sp.inI;omega,.refl _⟩)
theorem ev121 (fa fb:Bool) (a b:Int) (h:Sp.okB a /\ Sp.okB b /\ b ≠ 0):Ev M1 (.pure 121 [bigA fa a,bigA fb b]) (bigA false (Sp.flo a b)) []:=
 call121 (vExact _ _ _ _ _ ⟨h,.refl _⟩)
theorem ev98_a (fa:Bool) (a:Int) (h:Sp.okB a):Ev M1 (.pure 98 [bigA fa a,.agg [.bool false,.vec false 1 ((Sp.limI 1).map (.int .u32))]]) (.int .i64 (Sp.sgnI (a - 1))) []:=
 ev98 fa false a 1 ⟨h,okB_small (by decide)⟩
end Go.Av

namespace Go.Av
open Go.Proofs
set_option maxRecDepth 100000
def fi48:Fi:=⟨6,[.tmp 2]⟩
def kp48:List (Nat × List Nat):=[(0,[1]),(1,[2])]
def fi49:Fi:=⟨16,[.cell 2 24]⟩
def kp49:List (Nat × List Nat):=[(0,[1,2]),(1,[2,3]),(2,[2])]
def fi75:Fi:=⟨9,[.cell 2 26]⟩
def kp75:List (Nat × List Nat):=[(0,[1,2]),(1,[2])]
def fi95:Fi:=⟨29,[.cell 4 26]⟩
def kp95:List (Nat × List Nat):=[(0,[2,3,4]),(1,[2,3,4,8]),(2,[2,3,4]),(3,[2,3,4,5]),(4,[2,3,4,5,19]),(5,[2,3,4]),(6,[4])]
def fi115:Fi:=⟨6,[.cell 2 26]⟩
def kp115:List (Nat × List Nat):=[(0,[1,2]),(1,[2])]
def fi117:Fi:=⟨22,[.cell 2 24,.tmp 3]⟩
def kp117:List (Nat × List Nat):=[(0,[1,2]),(1,[1,2,4,5]),(2,[2,3])]
def vWhole_at (fa:Bool) (a:Int) (Q:AV -> Heap -> Prop):Prop:=Wp M1 (.run fi115 (atC (cd Tryz.f115) []) [(0,bigA fa a)] []) Q
def vReduce_at (fa fb:Bool) (a b:Int) (Q:AV -> Heap -> Prop):Prop:=Wp M1 (.run fi95 (atC (cd Tryz.f95) []) [(0,bigA fa a),(1,bigA fb b)] []) Q
def vRSign_at (fa ga:Bool) (p q:Int) (Q:AV -> Heap -> Prop):Prop:=Wp M1 (.run fi48 (atC (cd Tryz.f48) []) [(0,.agg [.bool (Sp.isNeg p),.vec fa 1 ((Sp.limI p).map (.int .u32)),.bool (Sp.isNeg q),.vec ga 1 ((Sp.limI q).map (.int .u32))])] []) Q
def vRNeg_at (fa ga:Bool) (p q:Int) (Q:AV -> Heap -> Prop):Prop:=Wp M1 (.run fi75 (atC (cd Tryz.f75) []) [(0,.agg [.bool (Sp.isNeg p),.vec fa 1 ((Sp.limI p).map (.int .u32)),.bool (Sp.isNeg q),.vec ga 1 ((Sp.limI q).map (.int .u32))])] []) Q
def vRFloor_at (fa ga:Bool) (p q:Int) (Q:AV -> Heap -> Prop):Prop:=Wp M1 (.run fi49 (atC (cd Tryz.f49) []) [(0,.agg [.bool (Sp.isNeg p),.vec fa 1 ((Sp.limI p).map (.int .u32)),.bool (Sp.isNeg q),.vec ga 1 ((Sp.limI q).map (.int .u32))])] []) Q
def vSide_at (fa:Bool) (a:Int) (Q:AV -> Heap -> Prop):Prop:=Wp M1 (.run fi117 (atC (cd Tryz.f117) []) [(0,bigA fa a)] []) Q
theorem call48 {args:List AV} {d:AV} (h:wc M1 fi48 Tryz.f48 args d):Ev M1 (.pure 48 args) d []:=pcl _ _ (by kernel_rfl) h
theorem call49 {args:List AV} {d:AV} (h:wc M1 fi49 Tryz.f49 args d):Ev M1 (.pure 49 args) d []:=pcl _ _ (by kernel_rfl) h
theorem call75 {args:List AV} {d:AV} (h:wc M1 fi75 Tryz.f75 args d):Ev M1 (.pure 75 args) d []:=pcl _ _ (by kernel_rfl) h
theorem call95 {args:List AV} {d:AV} (h:wc M1 fi95 Tryz.f95 args d):Ev M1 (.pure 95 args) d []:=pcl _ _ (by kernel_rfl) h
theorem call115 {args:List AV} {d:AV} (h:wc M1 fi115 Tryz.f115 args d):Ev M1 (.pure 115 args) d []:=pcl _ _ (by kernel_rfl) h
theorem call117 {args:List AV} {d:AV} (h:wc M1 fi117 Tryz.f117 args d):Ev M1 (.pure 117 args) d []:=pcl _ _ (by kernel_rfl) h
theorem vWhole (fa:Bool) (a:Int)  (dq:AV) (H :
  Weak (ag [vb (Sp.isNeg a),AV.vec fa 1 (us (Sp.limI a)),vb false,vf (us (Sp.limI 1))]) dq) :
 vWhole_at fa a (PureQ dq):=by
 unfold vWhole_at
 exact path_rq (G:=given kp115 [(1,1,.call (ag [vb false,vf (us (Sp.limI 1))]) none)] []) 1000 [] (ag [vb (Sp.isNeg a),AV.vec fa 1 (us (Sp.limI a)),vb false,vf (us (Sp.limI 1))]) (by kernel_rfl) (bc rfl (bc rfl b0)) q0 (ce (@ev120 ) c0) H
noncomputable abbrev zNvJ1:=ag [vb false,AV.vnil,vb false,AV.vnil]
theorem vReduce (fa fb:Bool) (a b:Int)  (dq:AV) (H :
  ((Sp.sgnI b < 0) -> (Sp.okB a) /\
   (Sp.okB b) /\
   (Sp.okB (-a) /\ Sp.okB (-b)) /\
   (Sp.okB (↑((-a).gcd (-b)):Int)) /\
   ((¬Sp.sgnI ((↑((-a).gcd (-b)):Int) - 1) = 0) -> (Sp.okB (-a) /\ Sp.okB (↑((-a).gcd (-b)):Int) /\ (↑((-a).gcd (-b)):Int) ≠ 0) /\
    (Sp.okB (-b) /\ Sp.okB (↑((-a).gcd (-b)):Int) /\ (↑((-a).gcd (-b)):Int) ≠ 0) /\
    Weak (ag [vb (Sp.isNeg (Sp.flo (-a) (↑((-a).gcd (-b)):Int))),vf (us (Sp.limI (Sp.flo (-a) (↑((-a).gcd (-b)):Int)))),vb (Sp.isNeg (Sp.flo (-b) (↑((-a).gcd (-b)):Int))),vf (us (Sp.limI (Sp.flo (-b) (↑((-a).gcd (-b)):Int))))]) dq) /\
   (¬(¬Sp.sgnI ((↑((-a).gcd (-b)):Int) - 1) = 0) -> Weak (ag [vb (Sp.isNeg (-a)),vf (us (Sp.limI (-a))),vb (Sp.isNeg (-b)),vf (us (Sp.limI (-b)))]) dq)) /\
  (¬(Sp.sgnI b < 0) -> (Sp.okB a /\ Sp.okB b) /\
   (Sp.okB (↑(a.gcd b):Int)) /\
   ((¬Sp.sgnI ((↑(a.gcd b):Int) - 1) = 0) -> (Sp.okB a /\ Sp.okB (↑(a.gcd b):Int) /\ (↑(a.gcd b):Int) ≠ 0) /\
    (Sp.okB b /\ Sp.okB (↑(a.gcd b):Int) /\ (↑(a.gcd b):Int) ≠ 0) /\
    Weak (ag [vb (Sp.isNeg (Sp.flo a (↑(a.gcd b):Int))),vf (us (Sp.limI (Sp.flo a (↑(a.gcd b):Int)))),vb (Sp.isNeg (Sp.flo b (↑(a.gcd b):Int))),vf (us (Sp.limI (Sp.flo b (↑(a.gcd b):Int))))]) dq) /\
   (¬(¬Sp.sgnI ((↑(a.gcd b):Int) - 1) = 0) -> Weak (ag [vb (Sp.isNeg a),AV.vec fa 1 (us (Sp.limI a)),vb (Sp.isNeg b),AV.vec fb 1 (us (Sp.limI b))]) dq))) :
 vReduce_at fa fb a b (PureQ dq):=by
 unfold vReduce_at
 refine path_wp (G:=given kp95 [(1,1,.call (vi (Sp.sgnI b)) none)] []) 5 [] ⟨(atC (cd Tryz.f95) [1,0,1]),[(2,AV.ptr 0 0 0 0),(3,AV.ptr 1 0 0 0),(4,AV.ptr 2 0 0 0),(8,vb (decide (Sp.sgnI b < 0)))],[⟨[bigA fa a],2,0,false,false⟩,⟨[bigA fb b],2,0,false,false⟩,⟨[zNvJ1],4,0,false,false⟩],_,[],_⟩ (by kernel_rfl) (bc rfl b0) q0 (ce (@ev94 (fb) (b)) c0) ?_
 rcases xm (Sp.sgnI b < 0) with d2 | d2
 ·have H:=H.1 d2
  obtain ⟨k3,H⟩:=H
  obtain ⟨k4,H⟩:=H
  obtain ⟨k5,H⟩:=H
  obtain ⟨k6,H⟩:=H
  refine path_wp (G:=given kp95 [(2,1,.call (bigA false (-a)) none),(2,3,.call (bigA false (-b)) none),(3,2,.call (bigA false (↑((-a).gcd (-b)):Int)) none),(4,1,.call (ag [vb false,vf (us (Sp.limI 1))]) none),(4,2,.call (vi (Sp.sgnI ((↑((-a).gcd (-b)):Int) - 1))) none)] []) 7 [true] ⟨(atC (cd Tryz.f95) [1,1,0,1,1]),[(2,AV.ptr 0 0 0 0),(3,AV.ptr 1 0 0 0),(4,AV.ptr 2 0 0 0),(5,AV.ptr 3 0 0 0),(19,vb (Sp.sgnI ((↑((-a).gcd (-b)):Int) - 1) != 0))],[⟨[bigA false (-a)],2,0,false,false⟩,⟨[bigA false (-b)],2,0,false,false⟩,⟨[zNvJ1],4,0,false,false⟩,⟨[bigA false (↑((-a).gcd (-b)):Int)],2,0,false,false⟩],_,[],_⟩ (by kernel_rfl) (bc (beq_t (i_dec.2 d2)) (bc rfl (bc rfl (bc rfl (bc rfl (bc rfl (bc rfl (bc rfl (bc rfl b0))))))))) q0 (ce (@ev53 (fa) (a) k3) (ce (@ev53 (fb) (b) k4) (ce (@ev119 (false) (false) (-a) (-b) k5) (ce (@ev120 ) (ce (@ev98_a (false) ((↑((-a).gcd (-b)):Int)) k6) c0))))) ?_
  rcases xm (¬Sp.sgnI ((↑((-a).gcd (-b)):Int) - 1) = 0) with d8 | d8
  ·have H:=H.1 d8
   obtain ⟨k9,H⟩:=H
   obtain ⟨k10,H⟩:=H
   exact path_rq (G:=given kp95 [(5,2,.call (bigA false (Sp.flo (-a) (↑((-a).gcd (-b)):Int))) none),(5,5,.call (bigA false (Sp.flo (-b) (↑((-a).gcd (-b)):Int))) none)] []) 1000 [true] (ag [vb (Sp.isNeg (Sp.flo (-a) (↑((-a).gcd (-b)):Int))),vf (us (Sp.limI (Sp.flo (-a) (↑((-a).gcd (-b)):Int)))),vb (Sp.isNeg (Sp.flo (-b) (↑((-a).gcd (-b)):Int))),vf (us (Sp.limI (Sp.flo (-b) (↑((-a).gcd (-b)):Int))))]) (by kernel_rfl) (bc (beq_t (i_ne.2 d8)) (bc rfl (bc rfl (bc rfl (bc rfl (bc rfl (bc rfl (bc rfl (bc rfl (bc rfl b0)))))))))) q0 (ce (@ev121 (false) (false) (-a) ((↑((-a).gcd (-b)):Int)) k9) (ce (@ev121 (false) (false) (-b) ((↑((-a).gcd (-b)):Int)) k10) c0)) H
  ·have H:=H.2 d8
   exact path_rq (G:=given kp95 [] []) 1000 [false] (ag [vb (Sp.isNeg (-a)),vf (us (Sp.limI (-a))),vb (Sp.isNeg (-b)),vf (us (Sp.limI (-b)))]) (by kernel_rfl) (bc (beq_f (fun h => d8 (i_ne.1 h))) (bc rfl (bc rfl (bc rfl b0)))) q0 c0 H
 ·have H:=H.2 d2
  obtain ⟨k11,H⟩:=H
  obtain ⟨k12,H⟩:=H
  refine path_wp (G:=given kp95 [(3,2,.call (bigA false (↑(a.gcd b):Int)) none),(4,1,.call (ag [vb false,vf (us (Sp.limI 1))]) none),(4,2,.call (vi (Sp.sgnI ((↑(a.gcd b):Int) - 1))) none)] []) 7 [false] ⟨(atC (cd Tryz.f95) [1,1,0,1,1]),[(2,AV.ptr 0 0 0 0),(3,AV.ptr 1 0 0 0),(4,AV.ptr 2 0 0 0),(5,AV.ptr 3 0 0 0),(19,vb (Sp.sgnI ((↑(a.gcd b):Int) - 1) != 0))],[⟨[bigA fa a],2,0,false,false⟩,⟨[bigA fb b],2,0,false,false⟩,⟨[zNvJ1],4,0,false,false⟩,⟨[bigA false (↑(a.gcd b):Int)],2,0,false,false⟩],_,[],_⟩ (by kernel_rfl) (bc (beq_f (fun h => d2 (i_dec.1 h))) (bc rfl (bc rfl (bc rfl (bc rfl b0))))) q0 (ce (@ev119 (fa) (fb) (a) (b) k11) (ce (@ev120 ) (ce (@ev98_a (false) ((↑(a.gcd b):Int)) k12) c0))) ?_
  rcases xm (¬Sp.sgnI ((↑(a.gcd b):Int) - 1) = 0) with d14 | d14
  ·have H:=H.1 d14
   obtain ⟨k15,H⟩:=H
   obtain ⟨k16,H⟩:=H
   exact path_rq (G:=given kp95 [(5,2,.call (bigA false (Sp.flo a (↑(a.gcd b):Int))) none),(5,5,.call (bigA false (Sp.flo b (↑(a.gcd b):Int))) none)] []) 1000 [true] (ag [vb (Sp.isNeg (Sp.flo a (↑(a.gcd b):Int))),vf (us (Sp.limI (Sp.flo a (↑(a.gcd b):Int)))),vb (Sp.isNeg (Sp.flo b (↑(a.gcd b):Int))),vf (us (Sp.limI (Sp.flo b (↑(a.gcd b):Int))))]) (by kernel_rfl) (bc (beq_t (i_ne.2 d14)) (bc rfl (bc rfl (bc rfl (bc rfl (bc rfl (bc rfl (bc rfl (bc rfl (bc rfl b0)))))))))) q0 (ce (@ev121 (fa) (false) (a) ((↑(a.gcd b):Int)) k15) (ce (@ev121 (fb) (false) (b) ((↑(a.gcd b):Int)) k16) c0)) H
  ·have H:=H.2 d14
   exact path_rq (G:=given kp95 [] []) 1000 [false] (ag [vb (Sp.isNeg a),AV.vec fa 1 (us (Sp.limI a)),vb (Sp.isNeg b),AV.vec fb 1 (us (Sp.limI b))]) (by kernel_rfl) (bc (beq_f (fun h => d14 (i_ne.1 h))) (bc rfl (bc rfl (bc rfl b0)))) q0 c0 H
theorem vRSign (fa ga:Bool) (p q:Int)  (dq:AV) (H :
  vi (Sp.sgnI p) = dq) :
 vRSign_at fa ga p q (PureQ dq):=by
 unfold vRSign_at
 exact path_re (G:=given kp48 [(1,2,.call (vi (Sp.sgnI p)) none)] []) 1000 [] (vi (Sp.sgnI p)) (by kernel_rfl) (bc rfl b0) q0 (ce (@ev94 (fa) (p)) c0) H
theorem vRNeg (fa ga:Bool) (p q:Int)  (dq:AV) (H :
  (Sp.okB p) /\
  Weak (ag [vb (Sp.isNeg (-p)),vf (us (Sp.limI (-p))),vb (Sp.isNeg q),AV.vec ga 1 (us (Sp.limI q))]) dq) :
 vRNeg_at fa ga p q (PureQ dq):=by
 unfold vRNeg_at
 obtain ⟨k1,H⟩:=H
 exact path_rq (G:=given kp75 [(1,2,.call (bigA false (-p)) none)] []) 1000 [] (ag [vb (Sp.isNeg (-p)),vf (us (Sp.limI (-p))),vb (Sp.isNeg q),AV.vec ga 1 (us (Sp.limI q))]) (by kernel_rfl) (bc rfl (bc rfl (bc rfl b0))) q0 (ce (@ev53 (fa) (p) k1) c0) H
theorem vRFloor (fa ga:Bool) (p q:Int)  (dq:AV) (H :
  (Sp.okB p /\ Sp.okB q /\ q ≠ 0) /\
  Weak (bigA false (Sp.flo p q)) dq) :
 vRFloor_at fa ga p q (PureQ dq):=by
 unfold vRFloor_at
 obtain ⟨k1,H⟩:=H
 exact path_rq (G:=given kp49 [(1,4,.call (tu [bigA false (Sp.flo p q),bigA false (Sp.flr p q),vi 0]) none)] []) 1000 [] (bigA false (Sp.flo p q)) (by kernel_rfl) (bc rfl (bc rfl (bc rfl (bc rfl (bc rfl (bc rfl b0)))))) q0 (ce (@ev56 (fa) (ga) (p) (q) k1) c0) H
theorem vSide (fa:Bool) (a:Int)  (dq:AV) (H :
  (Sp.okS a) /\
  ((Sp.sqe a = 0) -> (Sp.okB (Sp.sq a) /\ Sp.okB (Sp.sq a))) /\
  ((Sp.sqe a = 0) -> (Sp.okB (Sp.sq a * Sp.sq a) /\ Sp.okB a)) /\
  Weak (tu [bigA false (Sp.sq a),vb (bif Sp.sqe a == 0 then Sp.sgnI (Sp.sq a * Sp.sq a - a) == 0 else false)]) dq) :
 vSide_at fa a (PureQ dq):=by
 unfold vSide_at
 obtain ⟨k1,H⟩:=H
 obtain ⟨k3,H⟩:=H
 obtain ⟨k5,H⟩:=H
 exact path_rq (G:=given kp117 [(1,1,.call (tu [bigA false (Sp.sq a),vi (Sp.sqe a)]) none),(2,6,.call (bigA false (Sp.sq a * Sp.sq a)) none),(2,8,.call (vi (Sp.sgnI (Sp.sq a * Sp.sq a - a))) none)] []) 1000 [] (asm:=[true,true,true,!((Sp.sqe a == 0) == true && true) || true,!((Sp.sqe a == 0) == true && true) || true,!((Sp.sqe a == 0) == true && true) || true,true]) (calls:=[⟨true,false,52,[bigA fa a],[],tu [bigA false (Sp.sq a),vi (Sp.sqe a)],[]⟩,⟨(Sp.sqe a == 0) == true && true && true,false,51,[bigA false (Sp.sq a),bigA false (Sp.sq a)],[],bigA false (Sp.sq a * Sp.sq a),[]⟩,⟨(Sp.sqe a == 0) == true && true && true,false,98,[bigA false (Sp.sq a * Sp.sq a),bigA fa a],[],vi (Sp.sgnI (Sp.sq a * Sp.sq a - a)),[]⟩]) (tu [bigA false (Sp.sq a),vb (bif Sp.sqe a == 0 then Sp.sgnI (Sp.sq a * Sp.sq a - a) == 0 else false)]) (by kernel_rfl) (bc rfl (bc rfl (bc rfl (bc (Bool.or_true _) (bc (Bool.or_true _) (bc (Bool.or_true _) (bc rfl b0))))))) q0 (cc (fun _ => (@ev52 (fa) (a) k1)) (cc (fun hc => ((@ev51 (false) (false) (Sp.sq a) (Sp.sq a) (k3 ((i_at (i_at (i_bt i_eq))).1 hc))):Ev M1 (Conf.pure 51 [bigA false (Sp.sq a),bigA false (Sp.sq a)]) (bigA false (Sp.sq a * Sp.sq a)) [])) (cc (fun hc => ((@ev98 (false) (fa) (Sp.sq a * Sp.sq a) (a) (k5 ((i_at (i_at (i_bt i_eq))).1 hc))):Ev M1 (Conf.pure 98 [bigA false (Sp.sq a * Sp.sq a),bigA fa a]) (vi (Sp.sgnI (Sp.sq a * Sp.sq a - a))) [])) c0))) H
end Go.Av

namespace Go.Av
open Go.Proofs
abbrev ratA (f g:Bool) (r:Rat):AV:=.agg [.bool (Sp.isNeg r.num),.vec f 1 ((Sp.limI r.num).map (.int .u32)),.bool (Sp.isNeg (r.den:Int)),.vec g 1 ((Sp.limI (r.den:Int)).map (.int .u32))]
theorem weak_rat (b d f g:Bool) (xs ys:List AV):Weak (.agg [.bool b,.vec f 1 xs,.bool d,.vec g 1 ys]) (.agg [.bool b,.vec false 1 xs,.bool d,.vec false 1 ys]):=by
 refine .agg _ _ rfl fun i x y hx hy => ?_
 match i with
 | 0 => simp at hx hy;subst hx;subst hy;exact .refl _
 | 1 => simp at hx hy;subst hx;subst hy;exact weak_vec _ _ _
 | 2 => simp at hx hy;subst hx;subst hy;exact .refl _
 | 3 => simp at hx hy;subst hx;subst hy;exact weak_vec _ _ _
 | i + 4 => simp at hx
theorem rat_neg {a b:Int} (h:b < 0):(Rat.divInt a b).num = (-a) / (((-a).gcd (-b):Nat):Int) /\ ((Rat.divInt a b).den:Int) = (-b) / (((-a).gcd (-b):Nat):Int):=by
 have e:(-a).gcd (-b) = b.gcd a:=by rw [Int.neg_gcd,Int.gcd_neg,Int.gcd_comm]
 rw [e,Rat.num_divInt,Rat.den_divInt,if_neg (by omega),Int.sign_eq_neg_one_of_neg h]
 refine ⟨by rw [Int.neg_mul,Int.one_mul],?_⟩
 have e2:((b.natAbs / b.gcd a:Nat):Int) = (b.natAbs:Int) / (b.gcd a:Int):=rfl
 rw [e2]
 congr 1;omega
theorem rat_pos {a b:Int} (h:0 < b):(Rat.divInt a b).num = a / ((a.gcd b:Nat):Int) /\ ((Rat.divInt a b).den:Int) = b / ((a.gcd b:Nat):Int):=by
 have e:a.gcd b = b.gcd a:=Int.gcd_comm _ _
 rw [e,Rat.num_divInt,Rat.den_divInt,if_neg (by omega),Int.sign_eq_one_of_pos h]
 refine ⟨by rw [Int.one_mul],?_⟩
 have e2:((b.natAbs / b.gcd a:Nat):Int) = (b.natAbs:Int) / (b.gcd a:Int):=rfl
 rw [e2]
 congr 1;omega
theorem gcd_okB {a b:Int} (hb:b ≠ 0) (h:Sp.okB b):Sp.okB ((a.gcd b:Nat):Int) /\ ((a.gcd b:Nat):Int) ≠ 0:=by
 have h1:0 < a.gcd b:=Int.gcd_pos_of_ne_zero_right _ hb
 have h2:a.gcd b <= b.natAbs:=Nat.le_of_dvd (by omega) (Int.gcd_dvd_natAbs_right a b)
 have:=cnt_mono h2
 refine ⟨?_,by omega⟩
 unfold Sp.okB at *
 rw [Int.natAbs_natCast];omega
theorem flo_pos {a:Int} {g:Nat} (h:(g:Int) ≠ 0):Sp.flo a (g:Int) = a / (g:Int):=by
 unfold Sp.flo
 rw [if_pos (by omega)]
theorem ev95 (fa fb:Bool) (a b:Int) (h:Sp.okB a /\ Sp.okB b /\ b ≠ 0):Ev M1 (.pure 95 [bigA fa a,bigA fb b]) (ratA false false (Rat.divInt a b)) []:=by
 obtain ⟨ha,hb,h0⟩:=h
 have hna:Sp.okB (-a):=by unfold Sp.okB at *;rwa [Int.natAbs_neg]
 have hnb:Sp.okB (-b):=by unfold Sp.okB at *;rwa [Int.natAbs_neg]
 refine call95 (vReduce _ _ _ _ _ ⟨fun k => ?_,fun k => ?_⟩)
 ·rw [sgnI_lt] at k
  obtain ⟨g1,g2⟩:=gcd_okB (a:=-a) (b:=-b) (by omega) hnb
  obtain ⟨r1,r2⟩:=rat_neg (a:=a) k
  refine ⟨ha,hb,⟨hna,hnb⟩,g1,fun _ => ⟨⟨hna,g1,g2⟩,⟨hnb,g1,g2⟩,?_⟩,fun k2 => ?_⟩
  ·show Weak _ (AV.agg [.bool (Sp.isNeg (Rat.divInt a b).num),.vec false 1 ((Sp.limI (Rat.divInt a b).num).map (.int .u32)),.bool (Sp.isNeg ((Rat.divInt a b).den:Int)),.vec false 1 ((Sp.limI ((Rat.divInt a b).den:Int)).map (.int .u32))])
   rw [r1,r2,flo_pos g2,flo_pos g2];exact .refl _
  ·have k2:=sgnI_zero.1 (Classical.not_not.1 k2)
   have e:(((-a).gcd (-b):Nat):Int) = 1:=by omega
   show Weak _ (AV.agg [.bool (Sp.isNeg (Rat.divInt a b).num),.vec false 1 ((Sp.limI (Rat.divInt a b).num).map (.int .u32)),.bool (Sp.isNeg ((Rat.divInt a b).den:Int)),.vec false 1 ((Sp.limI ((Rat.divInt a b).den:Int)).map (.int .u32))])
   rw [r1,r2,e,Int.ediv_one,Int.ediv_one];exact weak_rat _ _ _ _ _ _
 ·rw [sgnI_lt] at k
  obtain ⟨g1,g2⟩:=gcd_okB (a:=a) (b:=b) h0 hb
  obtain ⟨r1,r2⟩:=rat_pos (a:=a) (show 0 < b by omega)
  refine ⟨⟨ha,hb⟩,g1,fun _ => ⟨⟨ha,g1,g2⟩,⟨hb,g1,g2⟩,?_⟩,fun k2 => ?_⟩
  ·show Weak _ (AV.agg [.bool (Sp.isNeg (Rat.divInt a b).num),.vec false 1 ((Sp.limI (Rat.divInt a b).num).map (.int .u32)),.bool (Sp.isNeg ((Rat.divInt a b).den:Int)),.vec false 1 ((Sp.limI ((Rat.divInt a b).den:Int)).map (.int .u32))])
   rw [r1,r2,flo_pos g2,flo_pos g2];exact .refl _
  ·have k2:=sgnI_zero.1 (Classical.not_not.1 k2)
   have e:((a.gcd b:Nat):Int) = 1:=by omega
   show Weak _ (AV.agg [.bool (Sp.isNeg (Rat.divInt a b).num),.vec false 1 ((Sp.limI (Rat.divInt a b).num).map (.int .u32)),.bool (Sp.isNeg ((Rat.divInt a b).den:Int)),.vec false 1 ((Sp.limI ((Rat.divInt a b).den:Int)).map (.int .u32))])
   rw [r1,r2,e,Int.ediv_one,Int.ediv_one];exact weak_rat _ _ _ _ _ _
theorem ev48 (fa ga:Bool) (p q:Int):Ev M1 (.pure 48 [.agg [.bool (Sp.isNeg p),.vec fa 1 ((Sp.limI p).map (.int .u32)),.bool (Sp.isNeg q),.vec ga 1 ((Sp.limI q).map (.int .u32))]]) (.int .i64 (Sp.sgnI p)) []:=
 call48 (vRSign _ _ _ _ _ rfl)
end Go.Av

namespace Go.Av
open Go.Proofs
theorem ev75 (fa ga:Bool) (r:Rat) (h:Sp.okB r.num):Ev M1 (.pure 75 [ratA fa ga r]) (ratA false false (-r)) []:=by
 refine call75 (vRNeg _ _ _ _ _ ⟨h,?_⟩)
 show Weak _ (AV.agg [.bool (Sp.isNeg (-r).num),.vec false 1 ((Sp.limI (-r).num).map (.int .u32)),.bool (Sp.isNeg ((-r).den:Int)),.vec false 1 ((Sp.limI ((-r).den:Int)).map (.int .u32))])
 rw [Rat.neg_num,Rat.neg_den]
 exact weak_rat _ _ _ _ _ _
theorem ev49 (fa ga:Bool) (r:Rat) (h:Sp.okB r.num /\ Sp.okB r.den):Ev M1 (.pure 49 [ratA fa ga r]) (bigA false (Sp.flo r.num r.den)) []:=
 call49 (vRFloor _ _ _ _ _ ⟨⟨h.1,h.2,by have:=r.den_pos;omega⟩,.refl _⟩)
namespace Sp
noncomputable def isSq (a:Int):Bool:=bif sqe a == 0 then sgnI (sq a * sq a - a) == 0 else false
end Sp
theorem sq_le {a:Int} (h:0 <= a):(Sp.sq a).natAbs * (Sp.sq a).natAbs <= a.natAbs /\ (Sp.sq a).natAbs <= a.natAbs:=by
 have:=isqrt_spec a.natAbs
 unfold Sp.sq
 rw [if_neg (by omega),Int.natAbs_natCast]
 refine ⟨this.1,?_⟩
 have h1:=this.1
 by_cases hz:Sp.isqrt a.natAbs = 0
 ·omega
 ·have:=Nat.le_mul_of_pos_left (Sp.isqrt a.natAbs) (Nat.pos_of_ne_zero hz)
  omega
theorem ev117 (fa:Bool) (a:Int) (h:Sp.okS a):Ev M1 (.pure 117 [bigA fa a]) (.tup [bigA false (Sp.sq a),.bool (Sp.isSq a)]) []:=by
 have ha:Sp.okB a:=by unfold Sp.okS at h;unfold Sp.okB;omega
 have hk:Sp.sqe a = 0 -> 0 <= a:=by
  intro k
  unfold Sp.sqe at k
  split at k <;> omega
 refine call117 (vSide _ _ _ ⟨h,fun k => ?_,fun k => ⟨?_,ha⟩,.refl _⟩)
 ·have:=cnt_mono (sq_le (hk k)).2
  unfold Sp.okS at h
  unfold Sp.okB
  omega
 ·have:=cnt_mono (sq_le (hk k)).1
  unfold Sp.okS at h
  unfold Sp.okB
  rw [Int.natAbs_mul];omega
theorem ev115 (fa:Bool) (a:Int):Ev M1 (.pure 115 [bigA fa a]) (ratA false false (a:Rat)) []:=by
 refine call115 (vWhole _ _ _ ?_)
 show Weak _ (AV.agg [.bool (Sp.isNeg (a:Rat).num),.vec false 1 ((Sp.limI (a:Rat).num).map (.int .u32)),.bool (Sp.isNeg ((a:Rat).den:Int)),.vec false 1 ((Sp.limI ((a:Rat).den:Int)).map (.int .u32))])
 rw [Rat.num_intCast,Rat.den_intCast]
 exact weak_rat _ _ _ _ _ _
end Go.Av

namespace Go.Av
open Go.Proofs
set_option maxRecDepth 100000
def fi50:Fi:=⟨16,[.cell 4 26]⟩
def kp50:List (Nat × List Nat):=[(0,[2,3,4]),(1,[4])]
def fi84:Fi:=⟨36,[.cell 4 26]⟩
def kp84:List (Nat × List Nat):=[(0,[2,3,4]),(1,[2,3,4,10]),(2,[4]),(3,[4])]
def fi86:Fi:=⟨21,[.cell 4 26,.tmp 5]⟩
def kp86:List (Nat × List Nat):=[(0,[2,3,4]),(1,[2,3,4,8]),(2,[4,5]),(3,[4,5])]
def fi87:Fi:=⟨6,[.cell 2 26]⟩
def kp87:List (Nat × List Nat):=[(0,[0,2]),(1,[2])]
def fi90:Fi:=⟨26,[.cell 2 26,.tmp 3]⟩
def kp90:List (Nat × List Nat):=[(0,[1,2]),(1,[1,2,4,5]),(2,[1,2,4,14]),(3,[2,4,6,7]),(4,[2,4,6,21]),(5,[2,3]),(6,[2,3])]
def vRAdd_at (fa ga fb gb:Bool) (r s:Rat) (Q:AV -> Heap -> Prop):Prop:=Wp M1 (.run fi84 (atC (cd Tryz.f84) []) [(0,ratA fa ga r),(1,ratA fb gb s)] []) Q
def vRMul_at (fa ga fb gb:Bool) (r s:Rat) (Q:AV -> Heap -> Prop):Prop:=Wp M1 (.run fi50 (atC (cd Tryz.f50) []) [(0,ratA fa ga r),(1,ratA fb gb s)] []) Q
def vRDiv_at (fa ga fb gb:Bool) (r s:Rat) (Q:AV -> Heap -> Prop):Prop:=Wp M1 (.run fi86 (atC (cd Tryz.f86) []) [(0,ratA fa ga r),(1,ratA fb gb s)] []) Q
def vRFrom_at (n:Int) (Q:AV -> Heap -> Prop):Prop:=Wp M1 (.run fi87 (atC (cd Tryz.f87) []) [(0,.int .i64 n)] []) Q
def vRSqrt_at (fa ga:Bool) (r:Rat) (Q:AV -> Heap -> Prop):Prop:=Wp M1 (.run fi90 (atC (cd Tryz.f90) []) [(0,ratA fa ga r)] []) Q
theorem call50 {args:List AV} {d:AV} (h:wc M1 fi50 Tryz.f50 args d):Ev M1 (.pure 50 args) d []:=pcl _ _ (by kernel_rfl) h
theorem call84 {args:List AV} {d:AV} (h:wc M1 fi84 Tryz.f84 args d):Ev M1 (.pure 84 args) d []:=pcl _ _ (by kernel_rfl) h
theorem call86 {args:List AV} {d:AV} (h:wc M1 fi86 Tryz.f86 args d):Ev M1 (.pure 86 args) d []:=pcl _ _ (by kernel_rfl) h
theorem call87 {args:List AV} {d:AV} (h:wc M1 fi87 Tryz.f87 args d):Ev M1 (.pure 87 args) d []:=pcl _ _ (by kernel_rfl) h
theorem call90 {args:List AV} {d:AV} (h:wc M1 fi90 Tryz.f90 args d):Ev M1 (.pure 90 args) d []:=pcl _ _ (by kernel_rfl) h
theorem vRAdd (fa ga fb gb:Bool) (r s:Rat)  (dq:AV) (H :
  (Sp.okB (↑r.den:Int) /\ Sp.okB (↑s.den:Int)) /\
  ((Sp.sgnI ((↑r.den:Int) - (↑s.den:Int)) = 0) -> (Sp.okB r.num /\ Sp.okB s.num) /\
   (Sp.okB (r.num + s.num) /\ Sp.okB (↑r.den:Int) /\ (↑r.den:Int) ≠ 0) /\
   Weak (ratA false false (Rat.divInt (r.num + s.num) (↑r.den:Int))) dq) /\
  (¬(Sp.sgnI ((↑r.den:Int) - (↑s.den:Int)) = 0) -> (Sp.okB r.num /\ Sp.okB (↑s.den:Int)) /\
   (Sp.okB s.num /\ Sp.okB (↑r.den:Int)) /\
   (Sp.okB (r.num * (↑s.den:Int)) /\ Sp.okB (s.num * (↑r.den:Int))) /\
   (Sp.okB (r.num * (↑s.den:Int) + s.num * (↑r.den:Int)) /\ Sp.okB ((↑r.den:Int) * (↑s.den:Int)) /\ (↑r.den:Int) * (↑s.den:Int) ≠ 0) /\
   Weak (ratA false false (Rat.divInt (r.num * (↑s.den:Int) + s.num * (↑r.den:Int)) ((↑r.den:Int) * (↑s.den:Int)))) dq)) :
 vRAdd_at fa ga fb gb r s (PureQ dq):=by
 unfold vRAdd_at
 obtain ⟨k1,H⟩:=H
 refine path_wp (G:=given kp84 [(1,4,.call (vi (Sp.sgnI ((↑r.den:Int) - (↑s.den:Int)))) none)] []) 5 [] ⟨(atC (cd Tryz.f84) [1,0,1]),[(2,AV.ptr 0 0 0 0),(3,AV.ptr 1 0 0 0),(4,AV.ptr 2 0 0 0),(10,vb (Sp.sgnI ((↑r.den:Int) - (↑s.den:Int)) == 0))],[⟨[ratA fa ga r],4,0,false,false⟩,⟨[ratA fb gb s],4,0,false,false⟩,⟨[ag [vb false,AV.vnil,vb false,AV.vnil]],4,0,false,false⟩],_,[],_⟩ (by kernel_rfl) (bc rfl (bc rfl b0)) q0 (ce (@ev98 (ga) (gb) ((↑r.den:Int)) ((↑s.den:Int)) k1) c0) ?_
 rcases xm (Sp.sgnI ((↑r.den:Int) - (↑s.den:Int)) = 0) with d3 | d3
 ·have H:=H.1 d3
  obtain ⟨k4,H⟩:=H
  obtain ⟨k5,H⟩:=H
  exact path_rq (G:=given kp84 [(2,4,.call (bigA false (r.num + s.num)) none),(2,7,.call (ratA false false (Rat.divInt (r.num + s.num) (↑r.den:Int))) none)] []) 1000 [true] (ratA false false (Rat.divInt (r.num + s.num) (↑r.den:Int))) (by kernel_rfl) (bc (beq_t (i_eq.2 d3)) (bc rfl (bc rfl (bc rfl (bc rfl b0))))) q0 (ce (@ev54 (fa) (fb) (r.num) (s.num) k4) (ce (@ev95 (false) (ga) (r.num + s.num) ((↑r.den:Int)) k5) c0)) H
 ·have H:=H.2 d3
  obtain ⟨k6,H⟩:=H
  obtain ⟨k7,H⟩:=H
  obtain ⟨k8,H⟩:=H
  obtain ⟨k9,H⟩:=H
  exact path_rq (G:=given kp84 [(3,4,.call (bigA false (r.num * (↑s.den:Int))) none),(3,9,.call (bigA false (s.num * (↑r.den:Int))) none),(3,10,.call (bigA false (r.num * (↑s.den:Int) + s.num * (↑r.den:Int))) none),(3,15,.call (bigA false ((↑r.den:Int) * (↑s.den:Int))) none),(3,16,.call (ratA false false (Rat.divInt (r.num * (↑s.den:Int) + s.num * (↑r.den:Int)) ((↑r.den:Int) * (↑s.den:Int)))) none)] []) 1000 [false] (ratA false false (Rat.divInt (r.num * (↑s.den:Int) + s.num * (↑r.den:Int)) ((↑r.den:Int) * (↑s.den:Int)))) (by kernel_rfl) (bc (beq_f (fun h => d3 (i_eq.1 h))) (bc rfl (bc rfl (bc rfl (bc rfl (bc rfl (bc rfl (bc rfl b0)))))))) q0 (ce (@ev51 (fa) (gb) (r.num) ((↑s.den:Int)) k6) (ce (@ev51 (fb) (ga) (s.num) ((↑r.den:Int)) k7) (ce (@ev54 (false) (false) (r.num * (↑s.den:Int)) (s.num * (↑r.den:Int)) k8) (ce (@ev51 (ga) (gb) ((↑r.den:Int)) ((↑s.den:Int)) k1) (ce (@ev95 (false) (false) (r.num * (↑s.den:Int) + s.num * (↑r.den:Int)) ((↑r.den:Int) * (↑s.den:Int)) k9) c0))))) H
theorem vRMul (fa ga fb gb:Bool) (r s:Rat)  (dq:AV) (H :
  (Sp.okB r.num /\ Sp.okB s.num) /\
  (Sp.okB (↑r.den:Int) /\ Sp.okB (↑s.den:Int)) /\
  (Sp.okB (r.num * s.num) /\ Sp.okB ((↑r.den:Int) * (↑s.den:Int)) /\ (↑r.den:Int) * (↑s.den:Int) ≠ 0) /\
  Weak (ratA false false (Rat.divInt (r.num * s.num) ((↑r.den:Int) * (↑s.den:Int)))) dq) :
 vRMul_at fa ga fb gb r s (PureQ dq):=by
 unfold vRMul_at
 obtain ⟨k1,H⟩:=H
 obtain ⟨k2,H⟩:=H
 obtain ⟨k3,H⟩:=H
 exact path_rq (G:=given kp50 [(1,4,.call (bigA false (r.num * s.num)) none),(1,9,.call (bigA false ((↑r.den:Int) * (↑s.den:Int))) none),(1,10,.call (ratA false false (Rat.divInt (r.num * s.num) ((↑r.den:Int) * (↑s.den:Int)))) none)] []) 1000 [] (ratA false false (Rat.divInt (r.num * s.num) ((↑r.den:Int) * (↑s.den:Int)))) (by kernel_rfl) (bc rfl (bc rfl (bc rfl (bc rfl (bc rfl b0))))) q0 (ce (@ev51 (fa) (fb) (r.num) (s.num) k1) (ce (@ev51 (ga) (gb) ((↑r.den:Int)) ((↑s.den:Int)) k2) (ce (@ev95 (false) (false) (r.num * s.num) ((↑r.den:Int) * (↑s.den:Int)) k3) c0))) H
theorem vRDiv (fa ga fb gb:Bool) (r s:Rat)  (dq:AV) (H :
  ((Sp.sgnI s.num = 0) -> Weak (tu [ag [vb false,AV.vnil,vb false,AV.vnil],vi 6]) dq) /\
  (¬(Sp.sgnI s.num = 0) -> (Sp.okB r.num /\ Sp.okB (↑s.den:Int)) /\
   (Sp.okB (↑r.den:Int) /\ Sp.okB s.num) /\
   (Sp.okB (r.num * (↑s.den:Int)) /\ Sp.okB ((↑r.den:Int) * s.num) /\ (↑r.den:Int) * s.num ≠ 0) /\
   Weak (tu [ratA false false (Rat.divInt (r.num * (↑s.den:Int)) ((↑r.den:Int) * s.num)),vi 0]) dq)) :
 vRDiv_at fa ga fb gb r s (PureQ dq):=by
 unfold vRDiv_at
 refine path_wp (G:=given kp86 [(1,1,.call (vi (Sp.sgnI s.num)) none)] []) 5 [] ⟨(atC (cd Tryz.f86) [1,0,1]),[(2,AV.ptr 0 0 0 0),(3,AV.ptr 1 0 0 0),(4,AV.ptr 2 0 0 0),(8,vb (Sp.sgnI s.num == 0))],[⟨[ratA fa ga r],4,0,false,false⟩,⟨[ratA fb gb s],4,0,false,false⟩,⟨[ag [vb false,AV.vnil,vb false,AV.vnil]],4,0,false,false⟩],_,[],_⟩ (by kernel_rfl) (bc rfl b0) q0 (ce (@ev48 (fb) (gb) (s.num) ((↑s.den:Int))) c0) ?_
 rcases xm (Sp.sgnI s.num = 0) with d2 | d2
 ·have H:=H.1 d2
  exact path_rq (G:=given kp86 [] []) 1000 [true] (tu [ag [vb false,AV.vnil,vb false,AV.vnil],vi 6]) (by kernel_rfl) (bc (beq_t (i_eq.2 d2)) (bc rfl b0)) q0 c0 H
 ·have H:=H.2 d2
  obtain ⟨k3,H⟩:=H
  obtain ⟨k4,H⟩:=H
  obtain ⟨k5,H⟩:=H
  exact path_rq (G:=given kp86 [(3,4,.call (bigA false (r.num * (↑s.den:Int))) none),(3,9,.call (bigA false ((↑r.den:Int) * s.num)) none),(3,10,.call (ratA false false (Rat.divInt (r.num * (↑s.den:Int)) ((↑r.den:Int) * s.num))) none)] []) 1000 [false] (tu [ratA false false (Rat.divInt (r.num * (↑s.den:Int)) ((↑r.den:Int) * s.num)),vi 0]) (by kernel_rfl) (bc (beq_f (fun h => d2 (i_eq.1 h))) (bc rfl (bc rfl (bc rfl (bc rfl (bc rfl b0)))))) q0 (ce (@ev51 (fa) (gb) (r.num) ((↑s.den:Int)) k3) (ce (@ev51 (ga) (fb) ((↑r.den:Int)) (s.num) k4) (ce (@ev95 (false) (false) (r.num * (↑s.den:Int)) ((↑r.den:Int) * s.num) k5) c0))) H
theorem vRFrom (n:Int)  (dq:AV) (H :
  (Sp.inI n) /\
  Weak (ratA false false (↑n:Rat)) dq) :
 vRFrom_at n (PureQ dq):=by
 unfold vRFrom_at
 obtain ⟨k1,H⟩:=H
 exact path_rq (G:=given kp87 [(1,1,.call (bigA false n) none),(1,2,.call (ratA false false (↑n:Rat)) none)] []) 1000 [] (ratA false false (↑n:Rat)) (by kernel_rfl) (bc rfl b0) q0 (ce (@ev55 (n) k1) (ce (@ev115 (false) (n)) c0)) H
noncomputable abbrev zNvK1:=ag [vb false,AV.vnil,vb false,AV.vnil]
theorem vRSqrt (fa ga:Bool) (r:Rat)  (dq:AV) (H :
  (Sp.okS r.num) /\
  ((Sp.isSq r.num = true) -> (Sp.okS (↑r.den:Int)) /\
   ((Sp.isSq (↑r.den:Int) = true) -> Weak (tu [ag [vb (Sp.isNeg (Sp.sq r.num)),vf (us (Sp.limI (Sp.sq r.num))),vb (Sp.isNeg (Sp.sq (↑r.den:Int))),vf (us (Sp.limI (Sp.sq (↑r.den:Int))))],vb true]) dq) /\
   (¬(Sp.isSq (↑r.den:Int) = true) -> Weak (tu [ag [vb false,AV.vnil,vb false,AV.vnil],vb false]) dq)) /\
  (¬(Sp.isSq r.num = true) -> Weak (tu [ag [vb false,AV.vnil,vb false,AV.vnil],vb false]) dq)) :
 vRSqrt_at fa ga r (PureQ dq):=by
 unfold vRSqrt_at
 obtain ⟨k1,H⟩:=H
 refine path_wp (G:=given kp90 [(1,2,.call (tu [bigA false (Sp.sq r.num),vb (Sp.isSq r.num)]) none)] []) 7 [] ⟨(atC (cd Tryz.f90) [1,0,1,1]),[(1,AV.ptr 0 0 0 0),(2,AV.ptr 1 0 0 0),(4,AV.ptr 2 0 0 0),(14,vb (Sp.isSq r.num))],[⟨[ratA fa ga r],4,0,false,false⟩,⟨[zNvK1],4,0,false,false⟩,⟨[bigA false (Sp.sq r.num)],2,0,false,false⟩],_,[],_⟩ (by kernel_rfl) (bc rfl (bc rfl b0)) q0 (ce (@ev117 (fa) (r.num) k1) c0) ?_
 rcases xm (Sp.isSq r.num = true) with d3 | d3
 ·have H:=H.1 d3
  obtain ⟨k4,H⟩:=H
  refine path_wp (G:=given kp90 [(3,2,.call (tu [bigA false (Sp.sq (↑r.den:Int)),vb (Sp.isSq (↑r.den:Int))]) none)] []) 5 [true] ⟨(atC (cd Tryz.f90) [1,0,1,1,0,1,1]),[(2,AV.ptr 1 0 0 0),(4,AV.ptr 2 0 0 0),(6,AV.ptr 3 0 0 0),(21,vb (Sp.isSq (↑r.den:Int)))],[⟨[ratA fa ga r],4,0,false,false⟩,⟨[zNvK1],4,0,false,false⟩,⟨[bigA false (Sp.sq r.num)],2,0,false,false⟩,⟨[bigA false (Sp.sq (↑r.den:Int))],2,0,false,false⟩],[(Sp.isSq r.num) == true,true,true],[],_⟩ (by kernel_rfl) (bc (beq_t ((i_var _).2 d3)) (bc rfl (bc rfl b0))) q0 (ce (@ev117 (ga) ((↑r.den:Int)) k4) c0) ?_
  rcases xm (Sp.isSq (↑r.den:Int) = true) with d6 | d6
  ·have H:=H.1 d6
   exact path_rq (G:=given kp90 [] []) 1000 [true] (asm:=[(Sp.isSq (↑r.den:Int)) == true,true,true,true]) (tu [ag [vb (Sp.isNeg (Sp.sq r.num)),vf (us (Sp.limI (Sp.sq r.num))),vb (Sp.isNeg (Sp.sq (↑r.den:Int))),vf (us (Sp.limI (Sp.sq (↑r.den:Int))))],vb true]) (by kernel_rfl) (bc (beq_t ((i_var _).2 d6)) (bc rfl (bc rfl (bc rfl b0)))) q0 c0 H
  ·have H:=H.2 d6
   exact path_rq (G:=given kp90 [] []) 1000 [false] (asm:=[(Sp.isSq (↑r.den:Int)) == false,true]) (tu [zNvK1,vb false]) (by kernel_rfl) (bc (beq_f (fun h => d6 ((i_var _).1 h))) (bc rfl b0)) q0 c0 H
 ·have H:=H.2 d3
  exact path_rq (G:=given kp90 [] []) 1000 [false] (asm:=[(Sp.isSq r.num) == false,true]) (tu [zNvK1,vb false]) (by kernel_rfl) (bc (beq_f (fun h => d3 ((i_var _).1 h))) (bc rfl b0)) q0 c0 H
end Go.Av

namespace Go.Av
open Go.Proofs
def Sp.okR (r:Rat):Prop:=Sp.cnt r.num.natAbs <= 90000 /\ Sp.cnt r.den <= 90000
theorem okR_B {r:Rat} (h:Sp.okR r):Sp.okB r.num /\ Sp.okB (r.den:Int):=by
 unfold Sp.okR at h
 unfold Sp.okB
 rw [Int.natAbs_natCast];omega
theorem cnt_mulI {a b:Int} {n m:Nat} (ha:Sp.cnt a.natAbs <= n) (hb:Sp.cnt b.natAbs <= m):Sp.cnt (a * b).natAbs <= n + m:=by
 rw [Int.natAbs_mul]
 exact fits_cnt.1 (fits_prod (fits_cnt.2 ha) (fits_cnt.2 hb))
theorem cnt_addI {a b:Int} {n:Nat} (ha:Sp.cnt a.natAbs <= n) (hb:Sp.cnt b.natAbs <= n):Sp.cnt (a + b).natAbs <= n + 1:=by
 have h:=fits_cnt.1 (fits_sum (fits_cnt.2 ha) (fits_cnt.2 hb))
 exact Nat.le_trans (cnt_mono (Int.natAbs_add_le a b)) h
theorem cnt_den {r:Rat} {n:Nat} (h:Sp.cnt r.den <= n):Sp.cnt ((r.den:Int)).natAbs <= n:=by rwa [Int.natAbs_natCast]
theorem den_ne (r:Rat):(r.den:Int) ≠ 0:=by have:=r.den_pos;omega
theorem rat_add (r s:Rat):Rat.divInt (r.num * (s.den:Int) + s.num * (r.den:Int)) ((r.den:Int) * (s.den:Int)) = r + s:=by
 rw [<- Rat.divInt_add_divInt _ _ (den_ne r) (den_ne s),Rat.num_divInt_den,Rat.num_divInt_den]
theorem rat_add_same {r s:Rat} (h:(r.den:Int) = (s.den:Int)):Rat.divInt (r.num + s.num) (r.den:Int) = r + s:=by
 rw [<- rat_add,<- h,<- Int.add_mul,Rat.divInt_mul_right (den_ne r)]
theorem rat_mul (r s:Rat):Rat.divInt (r.num * s.num) ((r.den:Int) * (s.den:Int)) = r * s:=by
 rw [<- Rat.divInt_mul_divInt,Rat.num_divInt_den,Rat.num_divInt_den]
theorem rat_div (r s:Rat):Rat.divInt (r.num * (s.den:Int)) ((r.den:Int) * s.num) = r / s:=by
 rw [<- Rat.divInt_mul_divInt,Rat.num_divInt_den,<- Rat.inv_divInt,Rat.num_divInt_den,Rat.div_def]
theorem ev84 (fa ga fb gb:Bool) (r s:Rat) (h:Sp.okR r /\ Sp.okR s):Ev M1 (.pure 84 [ratA fa ga r,ratA fb gb s]) (ratA false false (r + s)) []:=by
 obtain ⟨hr,hs⟩:=h
 obtain ⟨r1,r2⟩:=okR_B hr
 obtain ⟨s1,s2⟩:=okR_B hs
 obtain ⟨cr1,cr2⟩:=hr
 obtain ⟨cs1,cs2⟩:=hs
 have m1:=cnt_mulI cr1 (cnt_den cs2)
 have m2:=cnt_mulI cs1 (cnt_den cr2)
 have m3:=cnt_mulI (cnt_den cr2) (cnt_den cs2)
 have a1:=cnt_addI m1 m2
 have a2:=cnt_addI cr1 cs1
 refine call84 (vRAdd _ _ _ _ _ _ _ ⟨⟨r2,s2⟩,fun k => ⟨⟨r1,s1⟩,⟨by unfold Sp.okB;omega,r2,den_ne r⟩,?_⟩,fun k => ⟨⟨r1,s2⟩,⟨s1,r2⟩,⟨by unfold Sp.okB;omega,by unfold Sp.okB;omega⟩,⟨by unfold Sp.okB;omega,by unfold Sp.okB;omega,Int.mul_ne_zero (den_ne r) (den_ne s)⟩,?_⟩⟩)
 ·have k:=sgnI_zero.1 k
  rw [rat_add_same (by omega)];exact .refl _
 ·rw [rat_add];exact .refl _
theorem ev50 (fa ga fb gb:Bool) (r s:Rat) (h:Sp.okR r /\ Sp.okR s):Ev M1 (.pure 50 [ratA fa ga r,ratA fb gb s]) (ratA false false (r * s)) []:=by
 obtain ⟨hr,hs⟩:=h
 obtain ⟨r1,r2⟩:=okR_B hr
 obtain ⟨s1,s2⟩:=okR_B hs
 obtain ⟨cr1,cr2⟩:=hr
 obtain ⟨cs1,cs2⟩:=hs
 have m1:=cnt_mulI cr1 cs1
 have m3:=cnt_mulI (cnt_den cr2) (cnt_den cs2)
 refine call50 (vRMul _ _ _ _ _ _ _ ⟨⟨r1,s1⟩,⟨r2,s2⟩,⟨by unfold Sp.okB;omega,by unfold Sp.okB;omega,Int.mul_ne_zero (den_ne r) (den_ne s)⟩,?_⟩)
 rw [rat_mul];exact .refl _
theorem hid_ex (r:Rat):∃ s:Rat,s = r:=⟨r,rfl⟩
noncomputable def Sp.hid (r:Rat):Rat:=Classical.choose (hid_ex r)
theorem hid_eq (r:Rat):Sp.hid r = r:=Classical.choose_spec (hid_ex r)
noncomputable def Sp.qi (n:Int):Rat:=Sp.hid n
theorem qi_eq (n:Int):Sp.qi n = (n:Rat):=hid_eq _
theorem ev87 (n:Int) (h:Sp.inI n):Ev M1 (.pure 87 [.int .i64 n]) (ratA false false (Sp.qi n)) []:=by
 rw [qi_eq]
 exact call87 (vRFrom _ _ ⟨h,.refl _⟩)
end Go.Av

namespace Go.Av
open Go.Proofs
theorem isSq_iff (a:Int):Sp.isSq a = true ↔ 0 <= a /\ Sp.sq a * Sp.sq a = a:=by
 unfold Sp.isSq Sp.sqe
 by_cases h:a < 0
 ·rw [if_pos h];simp;omega
 ·rw [if_neg h]
  have:=@sgnI_zero (Sp.sq a * Sp.sq a - a)
  simp only [beq_self_eq_true,cond_true,beq_iff_eq,this]
  omega
theorem sq_nonneg (a:Int):0 <= Sp.sq a:=by
 unfold Sp.sq;split <;> omega
theorem sq_nat (n:Nat):Sp.sq ((n * n:Nat):Int) = n:=by
 unfold Sp.sq
 rw [if_neg (by omega),Int.natAbs_natCast,isqrt_eq ⟨Nat.le_refl _,Nat.mul_lt_mul'' (Nat.lt_succ_self n) (Nat.lt_succ_self n)⟩]
theorem isSq_nat (n:Nat):Sp.isSq ((n * n:Nat):Int) = true:=by
 rw [isSq_iff,sq_nat];omega
namespace Sp
def rsq (r:Rat):Prop:=isSq r.num = true /\ isSq (r.den:Int) = true
noncomputable def rt (r:Rat):Rat:=Rat.divInt (sq r.num) (sq (r.den:Int))
end Sp
theorem dvd_one {g:Nat} (h:g ∣ 1):g = 1:=Nat.dvd_one.1 h
theorem gcd_sq {r:Rat} (h:Sp.rsq r):Int.gcd (Sp.sq r.num) (Sp.sq (r.den:Int)) = 1:=by
 obtain ⟨h1,h2⟩:=h
 obtain ⟨_,h1⟩:=(isSq_iff _).1 h1
 obtain ⟨_,h2⟩:=(isSq_iff _).1 h2
 have c:Nat.gcd r.num.natAbs r.den = 1:=r.reduced
 generalize Sp.sq r.num = x at *
 generalize Sp.sq (r.den:Int) = y at *
 have e1:x.natAbs ∣ r.num.natAbs:=by rw [<- h1,Int.natAbs_mul];exact Nat.dvd_mul_right _ _
 have e2:y.natAbs ∣ r.den:=by
  have:r.den = (r.den:Int).natAbs:=rfl
  rw [this,<- h2,Int.natAbs_mul];exact Nat.dvd_mul_right _ _
 apply Nat.dvd_one.1
 rw [<- c]
 exact Nat.dvd_gcd (Nat.dvd_trans (Nat.gcd_dvd_left _ _) e1) (Nat.dvd_trans (Nat.gcd_dvd_right _ _) e2)
theorem sq_den_pos {r:Rat} (h:Sp.rsq r):0 < Sp.sq (r.den:Int):=by
 obtain ⟨_,h2⟩:=(isSq_iff _).1 h.2
 have:=sq_nonneg (r.den:Int)
 have hd:=r.den_pos
 by_cases e:Sp.sq (r.den:Int) = 0
 ·rw [e] at h2;omega
 ·omega
theorem rt_num {r:Rat} (h:Sp.rsq r):(Sp.rt r).num = Sp.sq r.num /\ ((Sp.rt r).den:Int) = Sp.sq (r.den:Int):=by
 obtain ⟨e1,e2⟩:=rat_pos (a:=Sp.sq r.num) (sq_den_pos h)
 unfold Sp.rt
 rw [e1,e2,gcd_sq h];simp
theorem mul_self (s:Rat):(s * s).num = s.num * s.num /\ ((s * s).den:Int) = (s.den:Int) * (s.den:Int):=by
 have hd:=s.den_pos
 have c:Nat.gcd s.num.natAbs s.den = 1:=s.reduced
 have g:Int.gcd (s.num * s.num) ((s.den:Int) * (s.den:Int)) = 1:=by
  rw [Int.gcd,Int.natAbs_mul,Int.natAbs_mul,Int.natAbs_natCast]
  exact Nat.Coprime.mul_left (Nat.Coprime.mul_right c c) (Nat.Coprime.mul_right c c)
 obtain ⟨e1,e2⟩:=rat_pos (a:=s.num * s.num) (b:=(s.den:Int) * (s.den:Int)) (Int.mul_pos (by omega) (by omega))
 rw [rat_mul,g] at e1 e2
 rw [e1,e2];simp
theorem rsq_of {r s:Rat} (h:s * s = r):Sp.rsq r:=by
 obtain ⟨e1,e2⟩:=mul_self s
 rw [h] at e1 e2
 unfold Sp.rsq
 rw [e1,e2]
 refine ⟨?_,isSq_nat s.den⟩
 rw [<- Int.natAbs_mul_self]
 exact isSq_nat _
end Go.Av

namespace Go.Av
open Go.Proofs
theorem rsqrtH (fa:Bool) (a:Nat) (ha:Sp.cnt a <= 300000) (h0:a ≠ 0) (n:Nat):∀ x:Nat,x <= n -> 0 < x -> a < (x + 1) * (x + 1) -> Sp.fits 300001 x ->
  rSqrtH_at fa a x (PureQ (.tup [bigA false (Sp.isqrt a:Nat),.int .i64 0])):=by
 induction n with
 | zero => intro x h1 h2;omega
 | succ n ih =>
  intro x h1 h2 h3 h4
  have hfa:Sp.fits 300001 a:=fits_mono (fits_self a) (by omega)
  have hfq:Sp.fits 300001 (a / x):=fits_le hfa (Nat.div_le_self _ _)
  have hfs:Sp.fits 300002 (x + a / x):=fits_sum h4 hfq
  have hfy:Sp.fits 300002 ((x + a / x) / 2):=fits_le hfs (Nat.div_le_self _ _)
  have e2:(x:Int) + ((a / x:Nat):Int) = ((x + a / x:Nat):Int):=by omega
  refine rSqrtH fa _ _ _ ?_
  rw [flo_nat h2,e2,flo_two]
  have c1:=fits_cnt.1 hfa
  have c2:=fits_cnt.1 h4
  have c3:=fits_cnt.1 hfs
  refine ⟨⟨by rw [Int.natAbs_natCast];omega,by rw [Int.natAbs_natCast];omega,by omega⟩,⟨okB_fits h4 (by omega),okB_fits hfq (by omega)⟩,by rw [Int.natAbs_natCast];omega,⟨okB_fits hfy (by omega),okB_fits h4 (by omega)⟩,fun k => ?_,fun k => ?_⟩
  ·have k:¬(Sp.sgnI (((x + a / x) / 2:Nat) - (x:Int)) < 0):=by omega
   rw [sgnI_lt] at k
   rw [newton_done h2 h3 (by omega)]
   exact .refl _
  ·have k:Sp.sgnI (((x + a / x) / 2:Nat) - (x:Int)) < 0:=by omega
   rw [sgnI_lt] at k
   have hn:=newton_above (a:=a) h2
   refine ih _ (by omega) ?_ hn (fits_le h4 (by omega))
   apply Nat.pos_of_ne_zero
   intro e
   rw [e] at hn
   omega
theorem ev61 (fa:Bool) (v:Int) (h:Sp.okS v):Ev M1 (.pure 61 [bigA fa v]) (.tup [bigA false (Sp.sq v),.int .i64 (Sp.sqe v)]) []:=by
 have hl:=limI_len v
 have e1:Sp.limI (0:Int) = []:=lim_zero
 have e2:Sp.isNeg (0:Int) = false:=rfl
 have w0:∀ e:Int,Weak (.tup [.agg [.bool false,.vnil],.int .i64 e]) (.tup [bigA false 0,.int .i64 e]):=by
  intro e
  show Weak _ (.tup [.agg [.bool (Sp.isNeg 0),.vec false 1 ((Sp.limI 0).map (.int .u32))],.int .i64 e])
  rw [e1,e2]
  exact weak_two (weak_bnil false) (.refl _)
 unfold Sp.okS at h
 by_cases hneg:v < 0
 ·unfold Sp.sq Sp.sqe
  rw [if_pos hneg,if_pos hneg]
  exact call61 (rSqrt _ _ _ ⟨fun _ => w0 7,fun k => absurd (isNeg_iff.2 hneg) k⟩)
 ·unfold Sp.sq Sp.sqe
  rw [if_neg hneg,if_neg hneg]
  refine call61 (rSqrt _ _ _ ⟨fun k => absurd (isNeg_iff.1 k) hneg,fun _ => ⟨fun k => ?_,fun k => ?_⟩⟩)
  ·have hz:v.natAbs = 0:=cnt_eq_zero.1 (by omega)
   have:Sp.isqrt v.natAbs = 0:=by rw [hz];exact isqrt_eq ⟨by omega,by omega⟩
   rw [this];exact w0 0
  ·have hz:Sp.cnt v.natAbs ≠ 0:=by omega
   have hz':v.natAbs ≠ 0:=fun e => hz (by rw [e];exact cnt_zero)
   have ek:(((Sp.limI v).length:Int) + 1).tdiv 2 = (((Sp.cnt v.natAbs + 1) / 2:Nat):Int):=by
    rw [hl]
    have:((Sp.cnt v.natAbs:Nat):Int) + 1 = ((Sp.cnt v.natAbs + 1:Nat):Int):=by omega
    rw [this]
    exact (Int.ofNat_tdiv (Sp.cnt v.natAbs + 1) 2).symm
   rw [ek,Int.toNat_natCast,List.length_replicate]
   generalize hk:(Sp.cnt v.natAbs + 1) / 2 = k
   have hv:((v.natAbs:Nat):Int) = v:=by omega
   have big:v.natAbs < (1000000000 ^ k + 1) * (1000000000 ^ k + 1):=by
    have h1:=fits_self v.natAbs
    unfold Sp.fits at h1
    have h2:1000000000 ^ Sp.cnt v.natAbs <= 1000000000 ^ (k + k):=Nat.pow_le_pow_right (by omega) (by omega)
    rw [Nat.pow_add] at h2
    have h3:=Nat.mul_le_mul (Nat.le_succ (1000000000 ^ k)) (Nat.le_succ (1000000000 ^ k))
    exact Nat.lt_of_lt_of_le h1 (Nat.le_trans h2 h3)
   have hp:0 < 1000000000 ^ k:=Nat.pow_pos (by omega)
   have hf:Sp.fits 300001 (1000000000 ^ k):=fits_pow (by omega)
   refine ⟨by omega,by omega,by omega,by omega,by omega,by omega,by unfold Sp.inI;omega,?_⟩
   rw [<- hv,Int.natAbs_natCast]
   generalize v.natAbs = a at *
   have hkk:Sp.okK k:=by unfold Sp.okK;omega
   have hfa:Sp.fits 300001 a:=fits_mono (fits_self a) (by omega)
   have hfq:Sp.fits 300001 (a / 1000000000 ^ k):=fits_le hfa (Nat.div_le_self _ _)
   have hfs:Sp.fits 300002 (1000000000 ^ k + a / 1000000000 ^ k):=fits_sum hf hfq
   have hfy:Sp.fits 300002 ((1000000000 ^ k + a / 1000000000 ^ k) / 2):=fits_le hfs (Nat.div_le_self _ _)
   refine rSqrtF fa _ _ _ ?_
   have hu:=unit_bk k
   rw [show (ag [vb false,vf (us (List.replicate k (0:Int) ++ [1]))]) = bigA false (Sp.bk k:Int) from hu]
   rw [show Sp.bk k = 1000000000 ^ k from rfl]
   generalize 1000000000 ^ k = x at *
   have e2:(x:Int) + ((a / x:Nat):Int) = ((x + a / x:Nat):Int):=by omega
   rw [flo_nat hp,e2,flo_two]
   have c1:=fits_cnt.1 hfa
   have c3:=fits_cnt.1 hfs
   refine ⟨⟨by rw [Int.natAbs_natCast];omega,hkk⟩,⟨hkk,okB_fits hfq (by omega)⟩,by rw [Int.natAbs_natCast];omega,⟨okB_fits hfy (by omega),hkk⟩,fun k => ?_,fun k => ?_⟩
   ·have k:¬(Sp.sgnI (((x + a / x) / 2:Nat) - (x:Int)) < 0):=by omega
    rw [sgnI_lt] at k
    rw [newton_done hp big (by omega)]
    exact .refl _
   ·have k:Sp.sgnI (((x + a / x) / 2:Nat) - (x:Int)) < 0:=by omega
    rw [sgnI_lt] at k
    have hn:=newton_above (a:=a) hp
    refine rsqrtH fa a h hz' _ _ (Nat.le_refl _) ?_ hn (fits_le hf (by omega))
    apply Nat.pos_of_ne_zero
    intro e
    rw [e] at hn
    omega
end Go.Av

namespace Go.Av
open Go.Proofs
set_option maxRecDepth 100000
def fi27:Fi:=⟨6,[.tmp 2]⟩
def kp27:List (Nat × List Nat):=[(0,[1]),(1,[2])]
def fi66:Fi:=⟨39,[.cell 4 26]⟩
def kp66:List (Nat × List Nat):=[(0,[2,3,4]),(1,[2,3,4,14]),(2,[2,3,4]),(3,[2,3,4,5]),(4,[3,4,5,6]),(5,[4,6,9]),(6,[4])]
def fi70:Fi:=⟨9,[.cell 2 26]⟩
def kp70:List (Nat × List Nat):=[(0,[1,2]),(1,[2])]
def fi71:Fi:=⟨2,[.cell 0 24]⟩
def kp71:List (Nat × List Nat):=[(0,[0]),(1,[0])]
def fi74:Fi:=⟨17,[.tmp 4]⟩
def kp74:List (Nat × List Nat):=[(0,[2,3]),(1,[4])]
def fi128:Fi:=⟨21,[.cell 2 24,.tmp 3]⟩
def kp128:List (Nat × List Nat):=[(0,[1,2]),(1,[1,2,4,5]),(2,[2,3])]
def rUnit_at  (Q:AV -> Heap -> Prop):Prop:=Wp M1 (.run fi71 (atC (cd Tryz.f71) []) [] []) Q
def rOf_at (fa fb:Bool) (a b:Int) (Q:AV -> Heap -> Prop):Prop:=Wp M1 (.run fi66 (atC (cd Tryz.f66) []) [(0,bigA fa a),(1,bigA fb b)] []) Q
def rRSign_at (fa ga:Bool) (p q:Int) (Q:AV -> Heap -> Prop):Prop:=Wp M1 (.run fi27 (atC (cd Tryz.f27) []) [(0,.agg [.bool (Sp.isNeg p),.vec fa 1 ((Sp.limI p).map (.int .u32)),.bool (Sp.isNeg q),.vec ga 1 ((Sp.limI q).map (.int .u32))])] []) Q
def rRNeg_at (fa ga:Bool) (p q:Int) (Q:AV -> Heap -> Prop):Prop:=Wp M1 (.run fi70 (atC (cd Tryz.f70) []) [(0,.agg [.bool (Sp.isNeg p),.vec fa 1 ((Sp.limI p).map (.int .u32)),.bool (Sp.isNeg q),.vec ga 1 ((Sp.limI q).map (.int .u32))])] []) Q
def rRSame_at (fa ga fb gb:Bool) (p q p2 q2:Int) (Q:AV -> Heap -> Prop):Prop:=Wp M1 (.run fi74 (atC (cd Tryz.f74) []) [(0,.agg [.bool (Sp.isNeg p),.vec fa 1 ((Sp.limI p).map (.int .u32)),.bool (Sp.isNeg q),.vec ga 1 ((Sp.limI q).map (.int .u32))]),(1,.agg [.bool (Sp.isNeg p2),.vec fb 1 ((Sp.limI p2).map (.int .u32)),.bool (Sp.isNeg q2),.vec gb 1 ((Sp.limI q2).map (.int .u32))])] []) Q
def rPerf_at (fa:Bool) (a:Int) (Q:AV -> Heap -> Prop):Prop:=Wp M1 (.run fi128 (atC (cd Tryz.f128) []) [(0,bigA fa a)] []) Q
theorem call27 {args:List AV} {d:AV} (h:wc M1 fi27 Tryz.f27 args d):Ev M1 (.pure 27 args) d []:=pcl _ _ (by kernel_rfl) h
theorem call66 {args:List AV} {d:AV} (h:wc M1 fi66 Tryz.f66 args d):Ev M1 (.pure 66 args) d []:=pcl _ _ (by kernel_rfl) h
theorem call70 {args:List AV} {d:AV} (h:wc M1 fi70 Tryz.f70 args d):Ev M1 (.pure 70 args) d []:=pcl _ _ (by kernel_rfl) h
theorem call71 {args:List AV} {d:AV} (h:wc M1 fi71 Tryz.f71 args d):Ev M1 (.pure 71 args) d []:=pcl _ _ (by kernel_rfl) h
theorem call74 {args:List AV} {d:AV} (h:wc M1 fi74 Tryz.f74 args d):Ev M1 (.pure 74 args) d []:=pcl _ _ (by kernel_rfl) h
theorem call128 {args:List AV} {d:AV} (h:wc M1 fi128 Tryz.f128 args d):Ev M1 (.pure 128 args) d []:=pcl _ _ (by kernel_rfl) h
theorem rUnit   (dq:AV) (H :
  (Sp.inI 1) /\
  Weak (ag [vb false,vf (us (Sp.limI 1))]) dq) :
 rUnit_at  (PureQ dq):=by
 unfold rUnit_at
 obtain ⟨k1,H⟩:=H
 exact path_rq (G:=given kp71 [(1,0,.call (ag [vb false,vf (us (Sp.limI 1))]) none)] []) 1000 [] (ag [vb false,vf (us (Sp.limI 1))]) (by kernel_rfl) (bc rfl b0) q0 (ce (@ev15 (1) k1) c0) H
theorem rOf (fa fb:Bool) (a b:Int)  (dq:AV) (H :
  ((Sp.sgnI b < 0) -> (Sp.ok a) /\
   (Sp.ok b) /\
   (Sp.cnt (-a).natAbs <= 399000 /\ Sp.cnt (-b).natAbs <= 399000) /\
   (Sp.cnt (-a).natAbs <= 399000 /\ Sp.cnt (↑((-a).gcd (-b)):Int).natAbs <= 399000 /\ (↑((-a).gcd (-b)):Int) ≠ 0) /\
   (Sp.cnt (-b).natAbs <= 399000 /\ Sp.cnt (↑((-a).gcd (-b)):Int).natAbs <= 399000 /\ (↑((-a).gcd (-b)):Int) ≠ 0) /\
   Weak (ag [vb (Sp.isNeg (Sp.flo (-a) (↑((-a).gcd (-b)):Int))),vf (us (Sp.limI (Sp.flo (-a) (↑((-a).gcd (-b)):Int)))),vb (Sp.isNeg (Sp.flo (-b) (↑((-a).gcd (-b)):Int))),vf (us (Sp.limI (Sp.flo (-b) (↑((-a).gcd (-b)):Int))))]) dq) /\
  (¬(Sp.sgnI b < 0) -> (Sp.cnt a.natAbs <= 399000 /\ Sp.cnt b.natAbs <= 399000) /\
   (Sp.cnt a.natAbs <= 399000 /\ Sp.cnt (↑(a.gcd b):Int).natAbs <= 399000 /\ (↑(a.gcd b):Int) ≠ 0) /\
   (Sp.cnt b.natAbs <= 399000 /\ Sp.cnt (↑(a.gcd b):Int).natAbs <= 399000 /\ (↑(a.gcd b):Int) ≠ 0) /\
   Weak (ag [vb (Sp.isNeg (Sp.flo a (↑(a.gcd b):Int))),vf (us (Sp.limI (Sp.flo a (↑(a.gcd b):Int)))),vb (Sp.isNeg (Sp.flo b (↑(a.gcd b):Int))),vf (us (Sp.limI (Sp.flo b (↑(a.gcd b):Int))))]) dq)) :
 rOf_at fa fb a b (PureQ dq):=by
 unfold rOf_at
 refine path_wp (G:=given kp66 [(1,1,.call (vi (Sp.sgnI b)) none)] []) 5 [] ⟨(atC (cd Tryz.f66) [1,0,1]),[(2,AV.ptr 0 0 0 0),(3,AV.ptr 1 0 0 0),(4,AV.ptr 2 0 0 0),(14,vb (decide (Sp.sgnI b < 0)))],[⟨[bigA fa a],2,0,false,false⟩,⟨[bigA fb b],2,0,false,false⟩,⟨[ag [vb false,AV.vnil,vb false,AV.vnil]],4,0,false,false⟩],_,[],_⟩ (by kernel_rfl) (bc rfl b0) q0 (ce (@ev65 (fb) (b)) c0) ?_
 rcases xm (Sp.sgnI b < 0) with d2 | d2
 ·have H:=H.1 d2
  obtain ⟨k3,H⟩:=H
  obtain ⟨k4,H⟩:=H
  obtain ⟨k5,H⟩:=H
  obtain ⟨k6,H⟩:=H
  obtain ⟨k7,H⟩:=H
  exact path_rq (G:=given kp66 [(2,1,.call (bigA false (-a)) none),(2,3,.call (bigA false (-b)) none),(3,2,.call (bigA false (↑((-a).gcd (-b)):Int)) none),(4,2,.call (tu [bigA false (Sp.flo (-a) (↑((-a).gcd (-b)):Int)),bigA false (Sp.flr (-a) (↑((-a).gcd (-b)):Int)),vi 0]) none),(5,2,.call (tu [bigA false (Sp.flo (-b) (↑((-a).gcd (-b)):Int)),bigA false (Sp.flr (-b) (↑((-a).gcd (-b)):Int)),vi 0]) none)] []) 1000 [true] (ag [vb (Sp.isNeg (Sp.flo (-a) (↑((-a).gcd (-b)):Int))),vf (us (Sp.limI (Sp.flo (-a) (↑((-a).gcd (-b)):Int)))),vb (Sp.isNeg (Sp.flo (-b) (↑((-a).gcd (-b)):Int))),vf (us (Sp.limI (Sp.flo (-b) (↑((-a).gcd (-b)):Int))))]) (by kernel_rfl) (bc (beq_t (i_dec.2 d2)) (bc rfl (bc rfl (bc rfl (bc rfl (bc rfl (bc rfl (bc rfl (bc rfl (bc rfl (bc rfl (bc rfl (bc rfl (bc rfl (bc rfl (bc rfl (bc rfl (bc rfl (bc rfl b0))))))))))))))))))) q0 (ce (@ev62 (fa) (a) k3) (ce (@ev62 (fb) (b) k4) (ce (@ev80 (false) (false) (-a) (-b) k5) (ce (@ev64 (false) (false) (-a) ((↑((-a).gcd (-b)):Int)) k6) (ce (@ev64 (false) (false) (-b) ((↑((-a).gcd (-b)):Int)) k7) c0))))) H
 ·have H:=H.2 d2
  obtain ⟨k8,H⟩:=H
  obtain ⟨k9,H⟩:=H
  obtain ⟨k10,H⟩:=H
  exact path_rq (G:=given kp66 [(3,2,.call (bigA false (↑(a.gcd b):Int)) none),(4,2,.call (tu [bigA false (Sp.flo a (↑(a.gcd b):Int)),bigA false (Sp.flr a (↑(a.gcd b):Int)),vi 0]) none),(5,2,.call (tu [bigA false (Sp.flo b (↑(a.gcd b):Int)),bigA false (Sp.flr b (↑(a.gcd b):Int)),vi 0]) none)] []) 1000 [false] (ag [vb (Sp.isNeg (Sp.flo a (↑(a.gcd b):Int))),vf (us (Sp.limI (Sp.flo a (↑(a.gcd b):Int)))),vb (Sp.isNeg (Sp.flo b (↑(a.gcd b):Int))),vf (us (Sp.limI (Sp.flo b (↑(a.gcd b):Int))))]) (by kernel_rfl) (bc (beq_f (fun h => d2 (i_dec.1 h))) (bc rfl (bc rfl (bc rfl (bc rfl (bc rfl (bc rfl (bc rfl (bc rfl (bc rfl (bc rfl (bc rfl (bc rfl (bc rfl (bc rfl b0))))))))))))))) q0 (ce (@ev80 (fa) (fb) (a) (b) k8) (ce (@ev64 (fa) (false) (a) ((↑(a.gcd b):Int)) k9) (ce (@ev64 (fb) (false) (b) ((↑(a.gcd b):Int)) k10) c0))) H
theorem rRSign (fa ga:Bool) (p q:Int)  (dq:AV) (H :
  vi (Sp.sgnI p) = dq) :
 rRSign_at fa ga p q (PureQ dq):=by
 unfold rRSign_at
 exact path_re (G:=given kp27 [(1,2,.call (vi (Sp.sgnI p)) none)] []) 1000 [] (vi (Sp.sgnI p)) (by kernel_rfl) (bc rfl b0) q0 (ce (@ev65 (fa) (p)) c0) H
theorem rRNeg (fa ga:Bool) (p q:Int)  (dq:AV) (H :
  (Sp.ok p) /\
  Weak (ag [vb (Sp.isNeg (-p)),vf (us (Sp.limI (-p))),vb (Sp.isNeg q),AV.vec ga 1 (us (Sp.limI q))]) dq) :
 rRNeg_at fa ga p q (PureQ dq):=by
 unfold rRNeg_at
 obtain ⟨k1,H⟩:=H
 exact path_rq (G:=given kp70 [(1,2,.call (bigA false (-p)) none)] []) 1000 [] (ag [vb (Sp.isNeg (-p)),vf (us (Sp.limI (-p))),vb (Sp.isNeg q),AV.vec ga 1 (us (Sp.limI q))]) (by kernel_rfl) (bc rfl (bc rfl (bc rfl b0))) q0 (ce (@ev62 (fa) (p) k1) c0) H
theorem rRSame (fa ga fb gb:Bool) (p q p2 q2:Int)  (dq:AV) (H :
  (Sp.ok p /\ Sp.ok p2) /\
  ((p = p2) -> (Sp.ok q /\ Sp.ok q2)) /\
  vb (bif decide (p = p2) then decide (q = q2) else false) = dq) :
 rRSame_at fa ga fb gb p q p2 q2 (PureQ dq):=by
 unfold rRSame_at
 obtain ⟨k1,H⟩:=H
 obtain ⟨k3,H⟩:=H
 exact path_re (G:=given kp74 [(1,4,.call (vb (decide (p = p2))) none),(1,10,.call (vb (decide (q = q2))) none)] []) 1000 [] (asm:=[true,true,!(decide (p = p2) == true && true) || true,!(decide (p = p2) == true && true) || true]) (calls:=[⟨true,false,12,[bigA fa p,bigA fb p2],[],vb (decide (p = p2)),[]⟩,⟨decide (p = p2) == true && true && true,false,12,[bigA ga q,bigA gb q2],[],vb (decide (q = q2)),[]⟩]) (vb (bif decide (p = p2) then decide (q = q2) else false)) (by kernel_rfl) (bc rfl (bc rfl (bc (Bool.or_true _) (bc (Bool.or_true _) b0)))) q0 (cc (fun _ => (@ev12 (fa) (fb) (p) (p2) k1)) (cc (fun hc => ((@ev12 (ga) (gb) (q) (q2) (k3 ((i_at (i_at (i_bt i_dec))).1 hc))):Ev M1 (Conf.pure 12 [bigA ga q,bigA gb q2]) (vb (decide (q = q2))) [])) c0)) H
theorem rPerf (fa:Bool) (a:Int)  (dq:AV) (H :
  (Sp.okS a) /\
  ((Sp.sqe a = 0) -> (Sp.okB (Sp.sq a) /\ Sp.okB (Sp.sq a))) /\
  ((Sp.sqe a = 0) -> (Sp.ok (Sp.sq a * Sp.sq a) /\ Sp.ok a)) /\
  Weak (tu [bigA false (Sp.sq a),vb (bif Sp.sqe a == 0 then decide (Sp.sq a * Sp.sq a = a) else false)]) dq) :
 rPerf_at fa a (PureQ dq):=by
 unfold rPerf_at
 obtain ⟨k1,H⟩:=H
 obtain ⟨k3,H⟩:=H
 obtain ⟨k5,H⟩:=H
 exact path_rq (G:=given kp128 [(1,1,.call (tu [bigA false (Sp.sq a),vi (Sp.sqe a)]) none),(2,6,.call (bigA false (Sp.sq a * Sp.sq a)) none),(2,8,.call (vb (decide (Sp.sq a * Sp.sq a = a))) none)] []) 1000 [] (asm:=[true,true,true,!((Sp.sqe a == 0) == true && true) || true,!((Sp.sqe a == 0) == true && true) || true,!((Sp.sqe a == 0) == true && true) || true,true]) (calls:=[⟨true,false,61,[bigA fa a],[],tu [bigA false (Sp.sq a),vi (Sp.sqe a)],[]⟩,⟨(Sp.sqe a == 0) == true && true && true,false,60,[bigA false (Sp.sq a),bigA false (Sp.sq a)],[],bigA false (Sp.sq a * Sp.sq a),[]⟩,⟨(Sp.sqe a == 0) == true && true && true,false,12,[bigA false (Sp.sq a * Sp.sq a),bigA fa a],[],vb (decide (Sp.sq a * Sp.sq a = a)),[]⟩]) (tu [bigA false (Sp.sq a),vb (bif Sp.sqe a == 0 then decide (Sp.sq a * Sp.sq a = a) else false)]) (by kernel_rfl) (bc rfl (bc rfl (bc rfl (bc (Bool.or_true _) (bc (Bool.or_true _) (bc (Bool.or_true _) (bc rfl b0))))))) q0 (cc (fun _ => (@ev61 (fa) (a) k1)) (cc (fun hc => ((@ev60 (false) (false) (Sp.sq a) (Sp.sq a) (k3 ((i_at (i_at (i_bt i_eq))).1 hc))):Ev M1 (Conf.pure 60 [bigA false (Sp.sq a),bigA false (Sp.sq a)]) (bigA false (Sp.sq a * Sp.sq a)) [])) (cc (fun hc => ((@ev12 (false) (fa) (Sp.sq a * Sp.sq a) (a) (k5 ((i_at (i_at (i_bt i_eq))).1 hc))):Ev M1 (Conf.pure 12 [bigA false (Sp.sq a * Sp.sq a),bigA fa a]) (vb (decide (Sp.sq a * Sp.sq a = a))) [])) c0))) H
end Go.Av

namespace Go.Av
open Go.Proofs
set_option maxRecDepth 100000
end Go.Av

namespace Go.Av
open Go.Proofs
theorem ev86 (fa ga fb gb:Bool) (r s:Rat) (h:Sp.okR r /\ Sp.okR s /\ s.num ≠ 0):Ev M1 (.pure 86 [ratA fa ga r,ratA fb gb s]) (.tup [ratA false false (r / s),.int .i64 0]) []:=by
 obtain ⟨hr,hs,h0⟩:=h
 obtain ⟨r1,r2⟩:=okR_B hr
 obtain ⟨s1,s2⟩:=okR_B hs
 obtain ⟨cr1,cr2⟩:=hr
 obtain ⟨cs1,cs2⟩:=hs
 have m1:=cnt_mulI cr1 (cnt_den cs2)
 have m3:=cnt_mulI (cnt_den cr2) cs1
 refine call86 (vRDiv _ _ _ _ _ _ _ ⟨fun k => absurd (sgnI_zero.1 k) h0,fun _ => ⟨⟨r1,s2⟩,⟨r2,s1⟩,⟨by unfold Sp.okB;omega,by unfold Sp.okB;omega,Int.mul_ne_zero (den_ne r) h0⟩,?_⟩⟩)
 rw [rat_div];exact .refl _
end Go.Av

namespace Go.Av
open Go.Proofs
set_option maxRecDepth 100000
def fi111:Fi:=⟨9,[.cell 4 26]⟩
def kp111:List (Nat × List Nat):=[(0,[2,3,4]),(1,[4])]
def vRSub_at (fa ga fb gb:Bool) (r s:Rat) (Q:AV -> Heap -> Prop):Prop:=Wp M1 (.run fi111 (atC (cd Tryz.f111) []) [(0,ratA fa ga r),(1,ratA fb gb s)] []) Q
theorem call111 {args:List AV} {d:AV} (h:wc M1 fi111 Tryz.f111 args d):Ev M1 (.pure 111 args) d []:=pcl _ _ (by kernel_rfl) h
theorem vRSub (fa ga fb gb:Bool) (r s:Rat)  (dq:AV) (H :
  (Sp.okB s.num) /\
  (Sp.okR r /\ Sp.okR (-s)) /\
  Weak (ratA false false (r + -s)) dq) :
 vRSub_at fa ga fb gb r s (PureQ dq):=by
 unfold vRSub_at
 obtain ⟨k1,H⟩:=H
 obtain ⟨k2,H⟩:=H
 exact path_rq (G:=given kp111 [(1,2,.call (ratA false false (-s)) none),(1,3,.call (ratA false false (r + -s)) none)] []) 1000 [] (ratA false false (r + -s)) (by kernel_rfl) (bc rfl (bc rfl (bc rfl b0))) q0 (ce (@ev75 (fb) (gb) (s) k1) (ce (@ev84 (fa) (ga) (false) (false) (r) (-s) k2) c0)) H
end Go.Av

namespace Go.Av
open Go.Proofs
theorem okR_neg {s:Rat} (h:Sp.okR s):Sp.okR (-s):=by
 unfold Sp.okR at *
 rw [Rat.neg_num,Rat.neg_den,Int.natAbs_neg];exact h
theorem ev111 (fa ga fb gb:Bool) (r s:Rat) (h:Sp.okR r /\ Sp.okR s):Ev M1 (.pure 111 [ratA fa ga r,ratA fb gb s]) (ratA false false (r - s)) []:=by
 refine call111 (vRSub _ _ _ _ _ _ _ ⟨(okR_B h.2).1,⟨h.1,okR_neg h.2⟩,?_⟩)
 rw [<- Rat.sub_eq_add_neg];exact .refl _
end Go.Av

namespace Go.Av
open Go.Proofs
abbrev fracA (f g:Bool) (p q:Int):AV:=.agg [.bool (Sp.isNeg p),.vec f 1 ((Sp.limI p).map (.int .u32)),.bool (Sp.isNeg q),.vec g 1 ((Sp.limI q).map (.int .u32))]
abbrev noR:AV:=.agg [.bool false,.vec false 1 [],.bool false,.vec false 1 []]
theorem weak_nr:Weak (.agg [.bool false,.vnil,.bool false,.vnil]) noR:=by
 have w:Weak .vnil (.vec false 1 []):=by
  have:=weak_bnil false
  cases this with
  | agg xs ys hl h => exact h 1 _ _ rfl rfl
 refine .agg _ _ rfl fun i x y hx hy => ?_
 match i with
 | 0 => simp at hx hy;subst hx;subst hy;exact .refl _
 | 1 => simp at hx hy;subst hx;subst hy;exact w
 | 2 => simp at hx hy;subst hx;subst hy;exact .refl _
 | 3 => simp at hx hy;subst hx;subst hy;exact w
 | i + 4 => simp at hx
theorem okR_S {r:Rat} (h:Sp.okR r):Sp.okS r.num /\ Sp.okS (r.den:Int):=by
 unfold Sp.okR at h
 unfold Sp.okS
 rw [Int.natAbs_natCast];omega
theorem ev90_y (fa ga:Bool) (r:Rat) (h:Sp.okR r) (k:Sp.rsq r):Ev M1 (.pure 90 [ratA fa ga r]) (.tup [ratA false false (Sp.rt r),.bool true]) []:=by
 obtain ⟨h1,h2⟩:=okR_S h
 obtain ⟨e1,e2⟩:=rt_num k
 refine call90 (vRSqrt _ _ _ _ ⟨h1,fun _ => ⟨h2,fun _ => ?_,fun x => absurd k.2 x⟩,fun x => absurd k.1 x⟩)
 show Weak _ (AV.tup [AV.agg [.bool (Sp.isNeg (Sp.rt r).num),.vec false 1 ((Sp.limI (Sp.rt r).num).map (.int .u32)),.bool (Sp.isNeg ((Sp.rt r).den:Int)),.vec false 1 ((Sp.limI ((Sp.rt r).den:Int)).map (.int .u32))],.bool true])
 rw [e1,e2];exact .refl _
theorem ev90_n (fa ga:Bool) (r:Rat) (h:Sp.okR r) (k:¬(Sp.rsq r)):Ev M1 (.pure 90 [ratA fa ga r]) (.tup [noR,.bool false]) []:=by
 obtain ⟨h1,h2⟩:=okR_S h
 exact call90 (vRSqrt _ _ _ _ ⟨h1,fun x => ⟨h2,fun y => absurd ⟨x,y⟩ k,fun _ => weak_two weak_nr (.refl _)⟩,fun _ => weak_two weak_nr (.refl _)⟩)
theorem val_big {s:Bool} {a:List Int} (hx:∀ x ∈ a,0 <= x) (h:Sp.val s a = true):∃ v:Int,Sp.isNeg v = s /\ Sp.limI v = a:=by
 unfold Sp.val at h
 rw [Bool.and_eq_true,List.all_eq_true] at h
 obtain ⟨h1,h2⟩:=h
 have ha:∀ x ∈ a,0 <= x /\ x < 1000000000:=fun x hm => ⟨hx x hm,by simpa using h1 x hm⟩
 obtain ⟨e,f⟩:=limN_val a ha
 by_cases hl:0 < a.length
 ·rw [show decide (0 < a.length) = true from decide_eq_true hl,cond_true] at h2
  have hn:¬Sp.fits (a.length - 1) (valL a):=by
   intro hf
   have hz:=fits_top0.1 hf
   have hg:=limN_getD (n:=a.length) (valL a) (show a.length - 1 < a.length by omega)
   rw [<- e,hz] at hg
   rw [hg] at h2
   simp at h2
  have el:=lim_of f (.inr hn)
  rw [<- e] at el
  refine ⟨Sp.sg s (valL a),?_,by rw [sg_limI];exact el.symm⟩
  rw [sg_neg]
  have:valL a ≠ 0:=by
   intro hz
   apply hn
   rw [hz]
   exact fits_top0.2 (Nat.zero_div _)
  cases s <;> simp [this]
 ·have:a = []:=List.eq_nil_of_length_eq_zero (by omega)
  subst this
  have hs:s = false:=by simpa using h2
  subst hs
  exact ⟨0,rfl,lim_zero⟩
theorem big_inj {v w:Int} (h:Sp.limI v = Sp.limI w) (hs:Sp.isNeg v = Sp.isNeg w):v = w:=by
 have e:v.natAbs = w.natAbs:=by
  have a:=val_limN _ _ (fits_self v.natAbs)
  have b:=val_limN _ _ (fits_self w.natAbs)
  rw [<- a,<- b]
  exact congrArg valL h
 have a:=@isNeg_iff v
 have b:=@isNeg_iff w
 rw [hs] at a
 have c:=a.symm.trans b
 omega
def Sp.valR (s:Bool) (a:List Int) (t:Bool) (b:List Int):Prop:=∃ r:Rat,Sp.isNeg r.num = s /\ Sp.limI r.num = a /\ Sp.isNeg (r.den:Int) = t /\ Sp.limI (r.den:Int) = b
theorem valR_pq (p q:Int):Sp.valR (Sp.isNeg p) (Sp.limI p) (Sp.isNeg q) (Sp.limI q) ↔ 0 < q /\ Int.gcd p q = 1:=by
 constructor
 ·rintro ⟨r,h1,h2,h3,h4⟩
  have e1:=big_inj h2 h1
  have e2:=big_inj h4 h3
  subst e1;subst e2
  have:=r.den_pos
  exact ⟨by omega,r.reduced⟩
 ·rintro ⟨h1,h2⟩
  obtain ⟨e1,e2⟩:=rat_pos (a:=p) h1
  rw [h2] at e1 e2
  refine ⟨Rat.divInt p q,?_⟩
  rw [e1,e2];simp
theorem valR_val {s t:Bool} {a b:List Int} (h:Sp.valR s a t b):Sp.val s a = true /\ Sp.val t b = true:=by
 obtain ⟨r,rfl,rfl,rfl,rfl⟩:=h
 exact ⟨val_true _,val_true _⟩
theorem valR_rat (r:Rat):Sp.valR (Sp.isNeg r.num) (Sp.limI r.num) (Sp.isNeg (r.den:Int)) (Sp.limI (r.den:Int)):=⟨r,rfl,rfl,rfl,rfl⟩
end Go.Av

namespace Go.Av
open Go.Proofs
theorem gcd_cnt {a b:Int} (hb:b ≠ 0) (h:Sp.cnt b.natAbs <= 399000):Sp.cnt ((a.gcd b:Nat):Int).natAbs <= 399000 /\ ((a.gcd b:Nat):Int) ≠ 0:=by
 have h1:0 < a.gcd b:=Int.gcd_pos_of_ne_zero_right _ hb
 have h2:a.gcd b <= b.natAbs:=Nat.le_of_dvd (by omega) (Int.gcd_dvd_natAbs_right a b)
 have:=cnt_mono h2
 rw [Int.natAbs_natCast]
 omega
theorem ev71:Ev M1 (.pure 71 []) (.agg [.bool false,.vec false 1 ((Sp.limI 1).map (.int .u32))]) []:=
 call71 (rUnit _ ⟨by unfold Sp.inI;omega,.refl _⟩)
theorem ev66 (fa fb:Bool) (a b:Int) (h:Sp.cnt a.natAbs <= 399000 /\ Sp.cnt b.natAbs <= 399000 /\ b ≠ 0):Ev M1 (.pure 66 [bigA fa a,bigA fb b]) (ratA false false (Rat.divInt a b)) []:=by
 obtain ⟨ha,hb,h0⟩:=h
 have hna:Sp.cnt (-a).natAbs <= 399000:=by rwa [Int.natAbs_neg]
 have hnb:Sp.cnt (-b).natAbs <= 399000:=by rwa [Int.natAbs_neg]
 refine call66 (rOf _ _ _ _ _ ⟨fun k => ?_,fun k => ?_⟩)
 ·rw [sgnI_lt] at k
  obtain ⟨g1,g2⟩:=gcd_cnt (a:=-a) (b:=-b) (by omega) hnb
  obtain ⟨r1,r2⟩:=rat_neg (a:=a) k
  refine ⟨by unfold Sp.ok;omega,by unfold Sp.ok;omega,⟨hna,hnb⟩,⟨hna,g1,g2⟩,⟨hnb,g1,g2⟩,?_⟩
  show Weak _ (AV.agg [.bool (Sp.isNeg (Rat.divInt a b).num),.vec false 1 ((Sp.limI (Rat.divInt a b).num).map (.int .u32)),.bool (Sp.isNeg ((Rat.divInt a b).den:Int)),.vec false 1 ((Sp.limI ((Rat.divInt a b).den:Int)).map (.int .u32))])
  rw [r1,r2,flo_pos g2,flo_pos g2];exact .refl _
 ·rw [sgnI_lt] at k
  obtain ⟨g1,g2⟩:=gcd_cnt (a:=a) (b:=b) h0 hb
  obtain ⟨r1,r2⟩:=rat_pos (a:=a) (show 0 < b by omega)
  refine ⟨⟨ha,hb⟩,⟨ha,g1,g2⟩,⟨hb,g1,g2⟩,?_⟩
  show Weak _ (AV.agg [.bool (Sp.isNeg (Rat.divInt a b).num),.vec false 1 ((Sp.limI (Rat.divInt a b).num).map (.int .u32)),.bool (Sp.isNeg ((Rat.divInt a b).den:Int)),.vec false 1 ((Sp.limI ((Rat.divInt a b).den:Int)).map (.int .u32))])
  rw [r1,r2,flo_pos g2,flo_pos g2];exact .refl _
theorem ev27 (fa ga:Bool) (p q:Int):Ev M1 (.pure 27 [fracA fa ga p q]) (.int .i64 (Sp.sgnI p)) []:=
 call27 (rRSign _ _ _ _ _ rfl)
theorem ev70 (fa ga:Bool) (r:Rat) (h:Sp.ok r.num):Ev M1 (.pure 70 [ratA fa ga r]) (ratA false false (-r)) []:=by
 refine call70 (rRNeg _ _ _ _ _ ⟨h,?_⟩)
 show Weak _ (AV.agg [.bool (Sp.isNeg (-r).num),.vec false 1 ((Sp.limI (-r).num).map (.int .u32)),.bool (Sp.isNeg ((-r).den:Int)),.vec false 1 ((Sp.limI ((-r).den:Int)).map (.int .u32))])
 rw [Rat.neg_num,Rat.neg_den]
 exact weak_rat _ _ _ _ _ _
theorem ev74 (fa ga fb gb:Bool) (r s:Rat) (h:Sp.okR r /\ Sp.okR s):Ev M1 (.pure 74 [ratA fa ga r,ratA fb gb s]) (.bool (decide (r = s))) []:=by
 obtain ⟨⟨h1,h2⟩,⟨h3,h4⟩⟩:=h
 refine call74 (rRSame _ _ _ _ _ _ _ _ _ ⟨by unfold Sp.ok;omega,fun _ => by unfold Sp.ok;rw [Int.natAbs_natCast,Int.natAbs_natCast];omega,?_⟩)
 congr 1
 by_cases e:r = s
 ·subst e;simp
 ·rw [decide_eq_false e]
  by_cases e1:r.num = s.num
  ·have:¬(r.den:Int) = (s.den:Int):=fun e2 => e (Rat.ext e1 (by omega))
   rw [decide_eq_false this];simp
  ·rw [decide_eq_false e1];rfl
theorem isSqD (a:Int):(bif Sp.sqe a == 0 then decide (Sp.sq a * Sp.sq a = a) else false) = Sp.isSq a:=by
 unfold Sp.isSq
 congr 1
 have h:=@sgnI_zero (Sp.sq a * Sp.sq a - a)
 by_cases e:Sp.sq a * Sp.sq a = a
 ·rw [decide_eq_true e,h.2 (by omega)];rfl
 ·rw [decide_eq_false e]
  exact (beq_eq_false_iff_ne.2 fun x => e (by have:=h.1 x;omega)).symm
theorem ev128 (fa:Bool) (a:Int) (h:Sp.okS a):Ev M1 (.pure 128 [bigA fa a]) (.tup [bigA false (Sp.sq a),.bool (Sp.isSq a)]) []:=by
 have hk:Sp.sqe a = 0 -> 0 <= a:=by
  intro k
  unfold Sp.sqe at k
  split at k <;> omega
 have h':=h
 unfold Sp.okS at h'
 refine call128 (rPerf _ _ _ ⟨h,fun k => ?_,fun k => ⟨?_,?_⟩,?_⟩)
 ·have:=cnt_mono (sq_le (hk k)).2
  unfold Sp.okB
  omega
 ·have:=cnt_mono (sq_le (hk k)).1
  unfold Sp.ok
  rw [Int.natAbs_mul];omega
 ·unfold Sp.ok;omega
 ·rw [isSqD];exact .refl _
end Go.Av

namespace Go.Av
open Go.Proofs
set_option maxRecDepth 100000
def fi17:Fi:=⟨26,[.cell 4 26]⟩
def kp17:List (Nat × List Nat):=[(0,[2,3,4]),(1,[2,3,4,5]),(2,[2,3,4,5,6]),(3,[4])]
def fi18:Fi:=⟨7,[.cell 2 26]⟩
def kp18:List (Nat × List Nat):=[(0,[0,2]),(1,[2])]
def fi29:Fi:=⟨26,[.tmp 2]⟩
def kp29:List (Nat × List Nat):=[(0,[1]),(1,[1,18]),(2,[2]),(3,[2])]
def fi31:Fi:=⟨16,[.tmp 4]⟩
def kp31:List (Nat × List Nat):=[(0,[2,3]),(1,[4])]
def fi32:Fi:=⟨16,[.cell 4 26]⟩
def kp32:List (Nat × List Nat):=[(0,[2,3,4]),(1,[4])]
def fi43:Fi:=⟨12,[.cell 4 26]⟩
def kp43:List (Nat × List Nat):=[(0,[0,1,4]),(1,[0,1,4,6]),(2,[0,1,4]),(3,[4])]
def fi118:Fi:=⟨30,[.cell 2 26,.tmp 3]⟩
def kp118:List (Nat × List Nat):=[(0,[1,2]),(1,[1,2,4,5]),(2,[2,4,5,6,7]),(3,[2,4,6,25]),(4,[2,3]),(5,[2,3])]
def rRFrom_at (n:Int) (Q:AV -> Heap -> Prop):Prop:=Wp M1 (.run fi18 (atC (cd Tryz.f18) []) [(0,.int .i64 n)] []) Q
def rRAdd_at (fa ga fb gb:Bool) (r s:Rat) (Q:AV -> Heap -> Prop):Prop:=Wp M1 (.run fi17 (atC (cd Tryz.f17) []) [(0,ratA fa ga r),(1,ratA fb gb s)] []) Q
def rRMul_at (fa ga fb gb:Bool) (r s:Rat) (Q:AV -> Heap -> Prop):Prop:=Wp M1 (.run fi32 (atC (cd Tryz.f32) []) [(0,ratA fa ga r),(1,ratA fb gb s)] []) Q
def rRCmp_at (fa ga fb gb:Bool) (r s:Rat) (Q:AV -> Heap -> Prop):Prop:=Wp M1 (.run fi31 (atC (cd Tryz.f31) []) [(0,ratA fa ga r),(1,ratA fb gb s)] []) Q
def rRFrac_at (n d:Int) (Q:AV -> Heap -> Prop):Prop:=Wp M1 (.run fi43 (atC (cd Tryz.f43) []) [(0,.int .i64 n),(1,.int .i64 d)] []) Q
def rRValid_at (fa ga:Bool) (p q:Int) (Q:AV -> Heap -> Prop):Prop:=Wp M1 (.run fi29 (atC (cd Tryz.f29) []) [(0,.agg [.bool (Sp.isNeg p),.vec fa 1 ((Sp.limI p).map (.int .u32)),.bool (Sp.isNeg q),.vec ga 1 ((Sp.limI q).map (.int .u32))])] []) Q
def rRValidA_at (s fa t ga:Bool) (a b:List Int) (Q:AV -> Heap -> Prop):Prop:=Wp M1 (.run fi29 (atC (cd Tryz.f29) []) [(0,.agg [.bool s,.vec fa 1 (a.map (.int .u32)),.bool t,.vec ga 1 (b.map (.int .u32))])] []) Q
def rRSqrt_at (fa ga:Bool) (r:Rat) (Q:AV -> Heap -> Prop):Prop:=Wp M1 (.run fi118 (atC (cd Tryz.f118) []) [(0,ratA fa ga r)] []) Q
theorem call17 {args:List AV} {d:AV} (h:wc M1 fi17 Tryz.f17 args d):Ev M1 (.pure 17 args) d []:=pcl _ _ (by kernel_rfl) h
theorem call18 {args:List AV} {d:AV} (h:wc M1 fi18 Tryz.f18 args d):Ev M1 (.pure 18 args) d []:=pcl _ _ (by kernel_rfl) h
theorem call29 {args:List AV} {d:AV} (h:wc M1 fi29 Tryz.f29 args d):Ev M1 (.pure 29 args) d []:=pcl _ _ (by kernel_rfl) h
theorem call31 {args:List AV} {d:AV} (h:wc M1 fi31 Tryz.f31 args d):Ev M1 (.pure 31 args) d []:=pcl _ _ (by kernel_rfl) h
theorem call32 {args:List AV} {d:AV} (h:wc M1 fi32 Tryz.f32 args d):Ev M1 (.pure 32 args) d []:=pcl _ _ (by kernel_rfl) h
theorem call43 {args:List AV} {d:AV} (h:wc M1 fi43 Tryz.f43 args d):Ev M1 (.pure 43 args) d []:=pcl _ _ (by kernel_rfl) h
theorem call118 {args:List AV} {d:AV} (h:wc M1 fi118 Tryz.f118 args d):Ev M1 (.pure 118 args) d []:=pcl _ _ (by kernel_rfl) h
theorem rRFrom (n:Int)  (dq:AV) (H :
  (Sp.inI n) /\
  Weak (ag [vb (Sp.isNeg n),vf (us (Sp.limI n)),vb false,vf (us (Sp.limI 1))]) dq) :
 rRFrom_at n (PureQ dq):=by
 unfold rRFrom_at
 obtain ⟨k1,H⟩:=H
 exact path_rq (G:=given kp18 [(1,1,.call (bigA false n) none),(1,2,.call (ag [vb false,vf (us (Sp.limI 1))]) none)] []) 1000 [] (ag [vb (Sp.isNeg n),vf (us (Sp.limI n)),vb false,vf (us (Sp.limI 1))]) (by kernel_rfl) (bc rfl b0) q0 (ce (@ev15 (n) k1) (ce (@ev71 ) c0)) H
theorem rRAdd (fa ga fb gb:Bool) (r s:Rat)  (dq:AV) (H :
  (Sp.okB r.num /\ Sp.okB (↑s.den:Int)) /\
  (Sp.okB s.num /\ Sp.okB (↑r.den:Int)) /\
  (Sp.okB (r.num * (↑s.den:Int)) /\ Sp.okB (s.num * (↑r.den:Int))) /\
  (Sp.okB (↑r.den:Int) /\ Sp.okB (↑s.den:Int)) /\
  (Sp.cnt (r.num * (↑s.den:Int) + s.num * (↑r.den:Int)).natAbs <= 399000 /\ Sp.cnt ((↑r.den:Int) * (↑s.den:Int)).natAbs <= 399000 /\ (↑r.den:Int) * (↑s.den:Int) ≠ 0) /\
  Weak (ratA false false (Rat.divInt (r.num * (↑s.den:Int) + s.num * (↑r.den:Int)) ((↑r.den:Int) * (↑s.den:Int)))) dq) :
 rRAdd_at fa ga fb gb r s (PureQ dq):=by
 unfold rRAdd_at
 obtain ⟨k1,H⟩:=H
 obtain ⟨k2,H⟩:=H
 obtain ⟨k3,H⟩:=H
 obtain ⟨k4,H⟩:=H
 obtain ⟨k5,H⟩:=H
 exact path_rq (G:=given kp17 [(1,4,.call (bigA false (r.num * (↑s.den:Int))) none),(2,4,.call (bigA false (s.num * (↑r.den:Int))) none),(3,2,.call (bigA false (r.num * (↑s.den:Int) + s.num * (↑r.den:Int))) none),(3,7,.call (bigA false ((↑r.den:Int) * (↑s.den:Int))) none),(3,8,.call (ratA false false (Rat.divInt (r.num * (↑s.den:Int) + s.num * (↑r.den:Int)) ((↑r.den:Int) * (↑s.den:Int)))) none)] []) 1000 [] (ratA false false (Rat.divInt (r.num * (↑s.den:Int) + s.num * (↑r.den:Int)) ((↑r.den:Int) * (↑s.den:Int)))) (by kernel_rfl) (bc rfl (bc rfl (bc rfl (bc rfl (bc rfl (bc rfl (bc rfl (bc rfl (bc rfl (bc rfl (bc rfl b0))))))))))) q0 (ce (@ev60 (fa) (gb) (r.num) ((↑s.den:Int)) k1) (ce (@ev60 (fb) (ga) (s.num) ((↑r.den:Int)) k2) (ce (@ev63 (false) (false) (r.num * (↑s.den:Int)) (s.num * (↑r.den:Int)) k3) (ce (@ev60 (ga) (gb) ((↑r.den:Int)) ((↑s.den:Int)) k4) (ce (@ev66 (false) (false) (r.num * (↑s.den:Int) + s.num * (↑r.den:Int)) ((↑r.den:Int) * (↑s.den:Int)) k5) c0))))) H
theorem rRMul (fa ga fb gb:Bool) (r s:Rat)  (dq:AV) (H :
  (Sp.okB r.num /\ Sp.okB s.num) /\
  (Sp.okB (↑r.den:Int) /\ Sp.okB (↑s.den:Int)) /\
  (Sp.cnt (r.num * s.num).natAbs <= 399000 /\ Sp.cnt ((↑r.den:Int) * (↑s.den:Int)).natAbs <= 399000 /\ (↑r.den:Int) * (↑s.den:Int) ≠ 0) /\
  Weak (ratA false false (Rat.divInt (r.num * s.num) ((↑r.den:Int) * (↑s.den:Int)))) dq) :
 rRMul_at fa ga fb gb r s (PureQ dq):=by
 unfold rRMul_at
 obtain ⟨k1,H⟩:=H
 obtain ⟨k2,H⟩:=H
 obtain ⟨k3,H⟩:=H
 exact path_rq (G:=given kp32 [(1,4,.call (bigA false (r.num * s.num)) none),(1,9,.call (bigA false ((↑r.den:Int) * (↑s.den:Int))) none),(1,10,.call (ratA false false (Rat.divInt (r.num * s.num) ((↑r.den:Int) * (↑s.den:Int)))) none)] []) 1000 [] (ratA false false (Rat.divInt (r.num * s.num) ((↑r.den:Int) * (↑s.den:Int)))) (by kernel_rfl) (bc rfl (bc rfl (bc rfl (bc rfl (bc rfl b0))))) q0 (ce (@ev60 (fa) (fb) (r.num) (s.num) k1) (ce (@ev60 (ga) (gb) ((↑r.den:Int)) ((↑s.den:Int)) k2) (ce (@ev66 (false) (false) (r.num * s.num) ((↑r.den:Int) * (↑s.den:Int)) k3) c0))) H
theorem rRCmp (fa ga fb gb:Bool) (r s:Rat)  (dq:AV) (H :
  (Sp.okB r.num /\ Sp.okB (↑s.den:Int)) /\
  (Sp.okB s.num /\ Sp.okB (↑r.den:Int)) /\
  (Sp.okB (r.num * (↑s.den:Int)) /\ Sp.okB (s.num * (↑r.den:Int))) /\
  vi (Sp.sgnI (r.num * (↑s.den:Int) - s.num * (↑r.den:Int))) = dq) :
 rRCmp_at fa ga fb gb r s (PureQ dq):=by
 unfold rRCmp_at
 obtain ⟨k1,H⟩:=H
 obtain ⟨k2,H⟩:=H
 obtain ⟨k3,H⟩:=H
 exact path_re (G:=given kp31 [(1,4,.call (bigA false (r.num * (↑s.den:Int))) none),(1,9,.call (bigA false (s.num * (↑r.den:Int))) none),(1,10,.call (vi (Sp.sgnI (r.num * (↑s.den:Int) - s.num * (↑r.den:Int)))) none)] []) 1000 [] (vi (Sp.sgnI (r.num * (↑s.den:Int) - s.num * (↑r.den:Int)))) (by kernel_rfl) (bc rfl (bc rfl (bc rfl (bc rfl b0)))) q0 (ce (@ev60 (fa) (gb) (r.num) ((↑s.den:Int)) k1) (ce (@ev60 (fb) (ga) (s.num) ((↑r.den:Int)) k2) (ce (@ev81 (false) (false) (r.num * (↑s.den:Int)) (s.num * (↑r.den:Int)) k3) c0))) H
theorem rRFrac (n d:Int)  (dq:AV) (H :
  ((d = 0) -> (Sp.inI 0) /\
   (Sp.inI 1) /\
   ∃ (b1:Bool) (l1:List (Int)) (b2:Bool) (l2:List (Int)),
   (Ev M1 (Conf.pure 66 [ag [vb false,vf (us (Sp.limI 0))],ag [vb false,vf (us (Sp.limI 1))]]) (ag [vb b1,vf (us l1),vb b2,vf (us l2)]) []) /\
   Weak (ag [vb b1,vf (us l1),vb b2,vf (us l2)]) dq) /\
  (¬(d = 0) -> (Sp.inI n) /\
   (Sp.inI d) /\
   (Sp.cnt n.natAbs <= 399000 /\ Sp.cnt d.natAbs <= 399000 /\ d ≠ 0) /\
   Weak (ratA false false (Rat.divInt n d)) dq)) :
 rRFrac_at n d (PureQ dq):=by
 unfold rRFrac_at
 rcases xm (d = 0) with d2 | d2
 ·have H:=H.1 d2
  obtain ⟨k3,H⟩:=H
  obtain ⟨k4,H⟩:=H
  obtain ⟨b1,l1,b2,l2,H⟩:=H
  obtain ⟨k5,H⟩:=H
  exact path_rq (G:=given kp43 [(3,1,.call (ag [vb false,vf (us (Sp.limI 0))]) none),(3,3,.call (ag [vb false,vf (us (Sp.limI 1))]) none),(3,4,.call (ag [vb b1,vf (us l1),vb b2,vf (us l2)]) none)] []) 1000 [true] (ag [vb b1,vf (us l1),vb b2,vf (us l2)]) (by kernel_rfl) (bc (beq_t (i_eq.2 d2)) (bc rfl b0)) q0 (ce (@ev15 (0) k3) (ce (@ev15 (1) k4) (ce k5 c0))) H
 ·have H:=H.2 d2
  obtain ⟨k6,H⟩:=H
  obtain ⟨k7,H⟩:=H
  obtain ⟨k8,H⟩:=H
  exact path_rq (G:=given kp43 [(3,1,.call (bigA false n) none),(3,3,.call (bigA false d) none),(3,4,.call (ratA false false (Rat.divInt n d)) none)] []) 1000 [false] (ratA false false (Rat.divInt n d)) (by kernel_rfl) (bc (beq_f (fun h => d2 (i_eq.1 h))) (bc rfl b0)) q0 (ce (@ev15 (n) k6) (ce (@ev15 (d) k7) (ce (@ev66 (false) (false) (n) (d) k8) c0))) H
theorem rRValid (fa ga:Bool) (p q:Int)  (dq:AV) (H :
  (Sp.ok p) /\
  (Sp.ok q) /\
  ((¬Sp.sgnI q = 1) -> vb false = dq) /\
  (¬(¬Sp.sgnI q = 1) -> (Sp.cnt p.natAbs <= 399000 /\ Sp.cnt q.natAbs <= 399000) /\
   ∃ (b1:Bool),
   (Ev M1 (Conf.pure 12 [bigA false (↑(p.gcd q):Int),ag [vb false,vf (us (Sp.limI 1))]]) (vb b1) []) /\
   vb b1 = dq)) :
 rRValid_at fa ga p q (PureQ dq):=by
 unfold rRValid_at
 obtain ⟨k1,H⟩:=H
 obtain ⟨k2,H⟩:=H
 refine path_wp (G:=given kp29 [(1,2,.call (vb true) none),(1,7,.call (vb true) none),(1,13,.call (vi (Sp.sgnI q)) none)] []) 5 [] ⟨(atC (cd Tryz.f29) [1,0,1]),[(1,AV.ptr 0 0 0 0),(18,vb (Sp.sgnI q != 1))],[⟨[ag [vb (Sp.isNeg p),AV.vec fa 1 (us (Sp.limI p)),vb (Sp.isNeg q),AV.vec ga 1 (us (Sp.limI q))]],4,0,false,false⟩],_,[],_⟩ (by kernel_rfl) (bc rfl (bc rfl (bc rfl b0))) q0 (ce (@ev79 (fa) (p) k1) (ce (@ev79 (ga) (q) k2) (ce (@ev65 (ga) (q)) c0))) ?_
 rcases xm (¬Sp.sgnI q = 1) with d4 | d4
 ·have H:=H.1 d4
  exact path_re (G:=given kp29 [] []) 1000 [true] (vb false) (by kernel_rfl) (bc (beq_t (i_ne.2 d4)) b0) q0 c0 H
 ·have H:=H.2 d4
  obtain ⟨k5,H⟩:=H
  obtain ⟨b1,H⟩:=H
  obtain ⟨k6,H⟩:=H
  exact path_re (G:=given kp29 [(3,4,.call (bigA false (↑(p.gcd q):Int)) none),(3,5,.call (ag [vb false,vf (us (Sp.limI 1))]) none),(3,6,.call (vb b1) none)] []) 1000 [false] (vb b1) (by kernel_rfl) (bc (beq_f (fun h => d4 (i_ne.1 h))) (bc rfl (bc rfl b0))) q0 (ce (@ev80 (fa) (ga) (p) (q) k5) (ce (@ev71 ) (ce k6 c0))) H
noncomputable abbrev zNwH1 (t:Bool) (ga:Bool) (b:List Int):=ag [vb t,AV.vec ga 1 (us b)]
theorem rRValidA (s fa t ga:Bool) (a b:List Int)  (dq:AV) (H :
  (Sp.short a.length) /\
  ((¬(¬(Sp.val s a = true))) -> (Sp.short b.length)) /\
  ∃ (n1:Int),
  ((¬((¬(Sp.val s a = true)) \/ (¬(Sp.val t b = true)))) -> (Ev M1 (Conf.pure 65 [ag [vb t,AV.vec ga 1 (us b)]]) (vi n1) [])) /\
  ((((¬(Sp.val s a = true)) \/ (¬(Sp.val t b = true))) \/ (¬n1 = 1)) -> vb false = dq) /\
  (¬(((¬(Sp.val s a = true)) \/ (¬(Sp.val t b = true))) \/ (¬n1 = 1)) -> ∃ (b1:Bool) (l1:List (Int)),
   (Ev M1 (Conf.pure 80 [ag [vb s,AV.vec fa 1 (us a)],ag [vb t,AV.vec ga 1 (us b)]]) (ag [vb b1,vf (us l1)]) []) /\
   ∃ (b2:Bool),
   (Ev M1 (Conf.pure 12 [ag [vb b1,vf (us l1)],ag [vb false,vf (us (Sp.limI 1))]]) (vb b2) []) /\
   vb b2 = dq)) :
 rRValidA_at s fa t ga a b (PureQ dq):=by
 unfold rRValidA_at
 obtain ⟨k1,H⟩:=H
 obtain ⟨k3,H⟩:=H
 obtain ⟨n1,H⟩:=H
 obtain ⟨k5,H⟩:=H
 refine path_wp (G:=given kp29 [(1,2,.call (vb (Sp.val s a)) none),(1,7,.call (vb (Sp.val t b)) none),(1,13,.call (vi n1) none)] []) 5 [] ⟨(atC (cd Tryz.f29) [1,0,1]),[(1,AV.ptr 0 0 0 0),(18,vb (bif bif !Sp.val s a then true else !Sp.val t b then true else n1 != 1))],[⟨[ag [vb s,AV.vec fa 1 (us a),vb t,AV.vec ga 1 (us b)]],4,0,false,false⟩],[true,!((!Sp.val s a) == false && true) || true,!((bif !Sp.val s a then true else !Sp.val t b) == false && true) || true],[],[⟨true,false,79,[ag [vb s,AV.vec fa 1 (us a)]],[],vb (Sp.val s a),[]⟩,⟨(!Sp.val s a) == false && true && true,false,79,[(zNwH1 t ga b)],[],vb (Sp.val t b),[]⟩,⟨(bif !Sp.val s a then true else !Sp.val t b) == false && true && true,false,65,[(zNwH1 t ga b)],[],vi n1,[]⟩]⟩ (by kernel_rfl) (bc rfl (bc (Bool.or_true _) (bc (Bool.or_true _) b0))) q0 (cc (fun _ => (@ev79_a (s) (fa) (a) k1)) (cc (fun hc => ((@ev79_a (t) (ga) (b) (k3 ((i_at (i_at (i_bf (i_not (i_var _))))).1 hc))):Ev M1 (Conf.pure 79 [(zNwH1 t ga b)]) (vb (Sp.val t b)) [])) (cc (fun hc => ((k5 ((i_at (i_at (i_bf (i_bor (i_not (i_var _)) (i_not (i_var _)))))).1 hc)):Ev M1 (Conf.pure 65 [(zNwH1 t ga b)]) (vi n1) [])) c0))) ?_
 rcases xm (((¬(Sp.val s a = true)) \/ (¬(Sp.val t b = true))) \/ (¬n1 = 1)) with d7 | d7
 ·have H:=H.1 d7
  exact path_re (G:=given kp29 [] []) 1000 [true] (asm:=[(bif bif !Sp.val s a then true else !Sp.val t b then true else n1 != 1) == true]) (vb false) (by kernel_rfl) (bc (beq_t ((i_bor (i_bor (i_not (i_var _)) (i_not (i_var _))) i_ne).2 d7)) b0) q0 c0 H
 ·have H:=H.2 d7
  obtain ⟨b1,l1,H⟩:=H
  obtain ⟨k8,H⟩:=H
  obtain ⟨b2,H⟩:=H
  obtain ⟨k9,H⟩:=H
  exact path_re (G:=given kp29 [(3,4,.call (ag [vb b1,vf (us l1)]) none),(3,5,.call (ag [vb false,vf (us (Sp.limI 1))]) none),(3,6,.call (vb b2) none)] []) 1000 [false] (asm:=[(bif bif !Sp.val s a then true else !Sp.val t b then true else n1 != 1) == false,true,true]) (vb b2) (by kernel_rfl) (bc (beq_f (fun h => d7 ((i_bor (i_bor (i_not (i_var _)) (i_not (i_var _))) i_ne).1 h))) (bc rfl (bc rfl b0))) q0 (ce k8 (ce (@ev71 ) (ce k9 c0))) H
noncomputable abbrev zNwH2 (r:Rat):=bif !Sp.isSq r.num then true else !Sp.isSq (↑r.den:Int)
theorem rRSqrt (fa ga:Bool) (r:Rat)  (dq:AV) (H :
  (Sp.okS r.num) /\
  (Sp.okS (↑r.den:Int)) /\
  (((¬(Sp.isSq r.num = true)) \/ (¬(Sp.isSq (↑r.den:Int) = true))) -> Weak (tu [ag [vb false,AV.vnil,vb false,AV.vnil],vb false]) dq) /\
  (¬((¬(Sp.isSq r.num = true)) \/ (¬(Sp.isSq (↑r.den:Int) = true))) -> Weak (tu [ag [vb (Sp.isNeg (Sp.sq r.num)),vf (us (Sp.limI (Sp.sq r.num))),vb (Sp.isNeg (Sp.sq (↑r.den:Int))),vf (us (Sp.limI (Sp.sq (↑r.den:Int))))],vb true]) dq)) :
 rRSqrt_at fa ga r (PureQ dq):=by
 unfold rRSqrt_at
 obtain ⟨k1,H⟩:=H
 obtain ⟨k2,H⟩:=H
 refine path_wp (G:=given kp118 [(1,2,.call (tu [bigA false (Sp.sq r.num),vb (Sp.isSq r.num)]) none),(2,2,.call (tu [bigA false (Sp.sq (↑r.den:Int)),vb (Sp.isSq (↑r.den:Int))]) none)] []) 9 [] ⟨(atC (cd Tryz.f118) [1,1,1,0,1]),[(2,AV.ptr 1 0 0 0),(4,AV.ptr 2 0 0 0),(6,AV.ptr 3 0 0 0),(25,vb (zNwH2 r))],[⟨[ratA fa ga r],4,0,false,false⟩,⟨[ag [vb false,AV.vnil,vb false,AV.vnil]],4,0,false,false⟩,⟨[bigA false (Sp.sq r.num)],2,0,false,false⟩,⟨[bigA false (Sp.sq (↑r.den:Int))],2,0,false,false⟩],_,[],_⟩ (by kernel_rfl) (bc rfl (bc rfl (bc rfl (bc rfl b0)))) q0 (ce (@ev128 (fa) (r.num) k1) (ce (@ev128 (ga) ((↑r.den:Int)) k2) c0)) ?_
 rcases xm ((¬(Sp.isSq r.num = true)) \/ (¬(Sp.isSq (↑r.den:Int) = true))) with d4 | d4
 ·have H:=H.1 d4
  exact path_rq (G:=given kp118 [] []) 1000 [true] (asm:=[(zNwH2 r) == true,true]) (tu [ag [vb false,AV.vnil,vb false,AV.vnil],vb false]) (by kernel_rfl) (bc (beq_t ((i_bor (i_not (i_var _)) (i_not (i_var _))).2 d4)) (bc rfl b0)) q0 c0 H
 ·have H:=H.2 d4
  exact path_rq (G:=given kp118 [] []) 1000 [false] (asm:=[(zNwH2 r) == false,true,true,true]) (tu [ag [vb (Sp.isNeg (Sp.sq r.num)),vf (us (Sp.limI (Sp.sq r.num))),vb (Sp.isNeg (Sp.sq (↑r.den:Int))),vf (us (Sp.limI (Sp.sq (↑r.den:Int))))],vb true]) (by kernel_rfl) (bc (beq_f (fun h => d4 ((i_bor (i_not (i_var _)) (i_not (i_var _))).1 h))) (bc rfl (bc rfl (bc rfl b0)))) q0 c0 H
end Go.Av

namespace Go.Av
open Go.Proofs
set_option maxRecDepth 100000
def fi78:Fi:=⟨13,[.cell 4 26,.tmp 5]⟩
def kp78:List (Nat × List Nat):=[(0,[2,3,4]),(1,[2,3,4,8]),(2,[4,5]),(3,[4,5])]
def vRMake_at (fa fb:Bool) (a b:Int) (Q:AV -> Heap -> Prop):Prop:=Wp M1 (.run fi78 (atC (cd Tryz.f78) []) [(0,bigA fa a),(1,bigA fb b)] []) Q
theorem call78 {args:List AV} {d:AV} (h:wc M1 fi78 Tryz.f78 args d):Ev M1 (.pure 78 args) d []:=pcl _ _ (by kernel_rfl) h
theorem vRMake (fa fb:Bool) (a b:Int)  (dq:AV) (H :
  ((Sp.sgnI b = 0) -> Weak (tu [ag [vb false,AV.vnil,vb false,AV.vnil],vi 6]) dq) /\
  (¬(Sp.sgnI b = 0) -> (Sp.okB a /\ Sp.okB b /\ b ≠ 0) /\
   Weak (tu [ratA false false (Rat.divInt a b),vi 0]) dq)) :
 vRMake_at fa fb a b (PureQ dq):=by
 unfold vRMake_at
 refine path_wp (G:=given kp78 [(1,1,.call (vi (Sp.sgnI b)) none)] []) 5 [] ⟨(atC (cd Tryz.f78) [1,0,1]),[(2,AV.ptr 0 0 0 0),(3,AV.ptr 1 0 0 0),(4,AV.ptr 2 0 0 0),(8,vb (Sp.sgnI b == 0))],[⟨[bigA fa a],2,0,false,false⟩,⟨[bigA fb b],2,0,false,false⟩,⟨[ag [vb false,AV.vnil,vb false,AV.vnil]],4,0,false,false⟩],_,[],_⟩ (by kernel_rfl) (bc rfl b0) q0 (ce (@ev94 (fb) (b)) c0) ?_
 rcases xm (Sp.sgnI b = 0) with d2 | d2
 ·have H:=H.1 d2
  exact path_rq (G:=given kp78 [] []) 1000 [true] (tu [ag [vb false,AV.vnil,vb false,AV.vnil],vi 6]) (by kernel_rfl) (bc (beq_t (i_eq.2 d2)) (bc rfl b0)) q0 c0 H
 ·have H:=H.2 d2
  obtain ⟨k3,H⟩:=H
  exact path_rq (G:=given kp78 [(3,2,.call (ratA false false (Rat.divInt a b)) none)] []) 1000 [false] (tu [ratA false false (Rat.divInt a b),vi 0]) (by kernel_rfl) (bc (beq_f (fun h => d2 (i_eq.1 h))) (bc rfl (bc rfl (bc rfl b0)))) q0 (ce (@ev95 (fa) (fb) (a) (b) k3) c0) H
end Go.Av

namespace Go.Av
open Go.Proofs
def Sp.okA (a b:List Int):Prop:=(a.length <= 90000 /\ ∀ x ∈ a,0 <= x) /\ (b.length <= 90000 /\ ∀ x ∈ b,0 <= x)
noncomputable def Sp.valB (s:Bool) (a:List Int) (t:Bool) (b:List Int):Bool:=@decide (Sp.valR s a t b) (Classical.propDecidable _)
theorem valB_true {s t:Bool} {a b:List Int}:Sp.valB s a t b = true ↔ Sp.valR s a t b:=@decide_eq_true_iff _ (Classical.propDecidable _)
theorem valB_false {s t:Bool} {a b:List Int} (h:¬Sp.valR s a t b):Sp.valB s a t b = false:=@decide_eq_false _ (Classical.propDecidable _) h
theorem valB_eq {s t c:Bool} {a b:List Int} (h:c = true ↔ Sp.valR s a t b):Sp.valB s a t b = c:=by
 cases c with
 | true => exact valB_true.2 (h.1 rfl)
 | false => exact valB_false fun k => absurd (h.2 k) (by simp)
theorem okA_big {p q:Int} (h:Sp.okA (Sp.limI p) (Sp.limI q)):Sp.cnt p.natAbs <= 90000 /\ Sp.cnt q.natAbs <= 90000:=by
 obtain ⟨⟨h1,_⟩,⟨h2,_⟩⟩:=h
 rw [limI_len] at h1 h2
 exact ⟨h1,h2⟩
theorem cnt_gcd {p q:Int} (h:q ≠ 0):Sp.cnt ((p.gcd q:Nat):Int).natAbs <= Sp.cnt q.natAbs:=
 cnt_mono (Nat.le_of_dvd (by omega) (Int.gcd_dvd_natAbs_right p q))
theorem ev78 (fa fb:Bool) (a b:Int) (h:Sp.okB a /\ Sp.okB b /\ b ≠ 0):Ev M1 (.pure 78 [bigA fa a,bigA fb b]) (.tup [ratA false false (Rat.divInt a b),.int .i64 0]) []:=
 call78 (vRMake _ _ _ _ _ ⟨fun k => absurd (sgnI_zero.1 k) h.2.2,fun _ => ⟨h,.refl _⟩⟩)
end Go.Av

namespace Go.Av
open Go.Proofs
theorem ev18 (n:Int) (h:Sp.inI n):Ev M1 (.pure 18 [.int .i64 n]) (ratA false false (Sp.qi n)) []:=by
 rw [qi_eq]
 refine call18 (rRFrom _ _ ⟨h,?_⟩)
 show Weak _ (AV.agg [.bool (Sp.isNeg (n:Rat).num),.vec false 1 ((Sp.limI (n:Rat).num).map (.int .u32)),.bool (Sp.isNeg ((n:Rat).den:Int)),.vec false 1 ((Sp.limI ((n:Rat).den:Int)).map (.int .u32))])
 rw [Rat.num_intCast,Rat.den_intCast]
 exact .refl _
theorem ev17 (fa ga fb gb:Bool) (r s:Rat) (h:Sp.okR r /\ Sp.okR s):Ev M1 (.pure 17 [ratA fa ga r,ratA fb gb s]) (ratA false false (r + s)) []:=by
 obtain ⟨hr,hs⟩:=h
 obtain ⟨r1,r2⟩:=okR_B hr
 obtain ⟨s1,s2⟩:=okR_B hs
 obtain ⟨cr1,cr2⟩:=hr
 obtain ⟨cs1,cs2⟩:=hs
 have m1:=cnt_mulI cr1 (cnt_den cs2)
 have m2:=cnt_mulI cs1 (cnt_den cr2)
 have m3:=cnt_mulI (cnt_den cr2) (cnt_den cs2)
 have a1:=cnt_addI m1 m2
 refine call17 (rRAdd _ _ _ _ _ _ _ ⟨⟨r1,s2⟩,⟨s1,r2⟩,⟨by unfold Sp.okB;omega,by unfold Sp.okB;omega⟩,⟨r2,s2⟩,⟨by omega,by omega,Int.mul_ne_zero (den_ne r) (den_ne s)⟩,?_⟩)
 rw [rat_add];exact .refl _
theorem ev32 (fa ga fb gb:Bool) (r s:Rat) (h:Sp.okR r /\ Sp.okR s):Ev M1 (.pure 32 [ratA fa ga r,ratA fb gb s]) (ratA false false (r * s)) []:=by
 obtain ⟨hr,hs⟩:=h
 obtain ⟨r1,r2⟩:=okR_B hr
 obtain ⟨s1,s2⟩:=okR_B hs
 obtain ⟨cr1,cr2⟩:=hr
 obtain ⟨cs1,cs2⟩:=hs
 have m1:=cnt_mulI cr1 cs1
 have m3:=cnt_mulI (cnt_den cr2) (cnt_den cs2)
 refine call32 (rRMul _ _ _ _ _ _ _ ⟨⟨r1,s1⟩,⟨r2,s2⟩,⟨by omega,by omega,Int.mul_ne_zero (den_ne r) (den_ne s)⟩,?_⟩)
 rw [rat_mul];exact .refl _
theorem ev31 (fa ga fb gb:Bool) (r s:Rat) (h:Sp.okR r /\ Sp.okR s):Ev M1 (.pure 31 [ratA fa ga r,ratA fb gb s]) (.int .i64 (Sp.sgnI (r.num * (s.den:Int) - s.num * (r.den:Int)))) []:=by
 obtain ⟨hr,hs⟩:=h
 obtain ⟨r1,r2⟩:=okR_B hr
 obtain ⟨s1,s2⟩:=okR_B hs
 obtain ⟨cr1,cr2⟩:=hr
 obtain ⟨cs1,cs2⟩:=hs
 have m1:=cnt_mulI cr1 (cnt_den cs2)
 have m2:=cnt_mulI cs1 (cnt_den cr2)
 exact call31 (rRCmp _ _ _ _ _ _ _ ⟨⟨r1,s2⟩,⟨s1,r2⟩,⟨by unfold Sp.okB;omega,by unfold Sp.okB;omega⟩,rfl⟩)
def Sp.okF (n d:Int):Prop:=Sp.inI n /\ Sp.inI d /\ d ≠ 0
noncomputable def Sp.qf (n d:Int):Rat:=Sp.hid (Rat.divInt n d)
theorem qf_eq (n d:Int):Sp.qf n d = Rat.divInt n d:=hid_eq _
theorem inI_cnt {n:Int} (h:Sp.inI n):Sp.cnt n.natAbs <= 3:=by
 unfold Sp.inI at h
 exact cnt_u64 (by omega)
theorem ev43 (n d:Int) (h:Sp.okF n d):Ev M1 (.pure 43 [.int .i64 n,.int .i64 d]) (ratA false false (Sp.qf n d)) []:=by
 obtain ⟨h1,h2,h3⟩:=h
 have c1:=inI_cnt h1
 have c2:=inI_cnt h2
 rw [qf_eq]
 exact call43 (rRFrac _ _ _ ⟨fun k => absurd k h3,fun _ => ⟨h1,h2,⟨by omega,by omega,h3⟩,.refl _⟩⟩)
theorem ev29 (s fa t ga:Bool) (a b:List Int) (h:Sp.okA a b):Ev M1 (.pure 29 [.agg [.bool s,.vec fa 1 (a.map (.int .u32)),.bool t,.vec ga 1 (b.map (.int .u32))]]) (.bool (Sp.valB s a t b)) []:=by
 have hs:Sp.short a.length /\ Sp.short b.length:=by
  obtain ⟨⟨h1,_⟩,⟨h2,_⟩⟩:=h
  unfold Sp.short;omega
 by_cases hv:Sp.val s a = true /\ Sp.val t b = true
 ·obtain ⟨p,rfl,rfl⟩:=val_big h.1.2 hv.1
  obtain ⟨q,rfl,rfl⟩:=val_big h.2.2 hv.2
  obtain ⟨o1,o2⟩:=okA_big h
  refine call29 (rRValid _ _ _ _ _ ⟨by unfold Sp.ok;omega,by unfold Sp.ok;omega,fun k => ?_,fun k => ⟨by omega,decide (((p.gcd q:Nat):Int) = 1),ev12 _ _ _ 1 ⟨?_,by unfold Sp.ok;have:=cnt_small (n:=(1:Int).natAbs) (by decide);omega⟩,?_⟩⟩)
  ·rw [valB_false]
   rw [valR_pq]
   unfold Sp.sgnI at k
   (repeat' split at k) <;> omega
  ·have hq:0 < q:=by
    unfold Sp.sgnI at k
    (repeat' split at k) <;> omega
   have:=cnt_gcd (p:=p) (q:=q) (by omega)
   unfold Sp.ok;omega
  ·congr 1
   refine (valB_eq ?_).symm
   have hq:0 < q:=by
    unfold Sp.sgnI at k
    (repeat' split at k) <;> omega
   rw [valR_pq,decide_eq_true_iff]
   omega
 ·have hn:¬(Sp.valR s a t b):=fun k => hv (valR_val k)
  have hv':¬Sp.val s a = true \/ ¬Sp.val t b = true:=by
   by_cases k:Sp.val s a = true
   ·exact .inr fun k2 => hv ⟨k,k2⟩
   ·exact .inl k
  refine call29 (rRValidA _ _ _ _ _ _ _ ⟨hs.1,fun _ => hs.2,0,fun k => absurd hv' k,fun _ => ?_,fun k => absurd (.inl hv') k⟩)
  rw [valB_false hn]
theorem ev118_y (fa ga:Bool) (r:Rat) (h:Sp.okR r) (k:Sp.rsq r):Ev M1 (.pure 118 [ratA fa ga r]) (.tup [ratA false false (Sp.rt r),.bool true]) []:=by
 obtain ⟨h1,h2⟩:=okR_S h
 obtain ⟨e1,e2⟩:=rt_num k
 refine call118 (rRSqrt _ _ _ _ ⟨h1,h2,fun x => ?_,fun _ => ?_⟩)
 ·rcases x with x | x
  ·exact absurd k.1 x
  ·exact absurd k.2 x
 ·show Weak _ (AV.tup [AV.agg [.bool (Sp.isNeg (Sp.rt r).num),.vec false 1 ((Sp.limI (Sp.rt r).num).map (.int .u32)),.bool (Sp.isNeg ((Sp.rt r).den:Int)),.vec false 1 ((Sp.limI ((Sp.rt r).den:Int)).map (.int .u32))],.bool true])
  rw [e1,e2];exact .refl _
theorem ev118_n (fa ga:Bool) (r:Rat) (h:Sp.okR r) (k:¬(Sp.rsq r)):Ev M1 (.pure 118 [ratA fa ga r]) (.tup [noR,.bool false]) []:=by
 obtain ⟨h1,h2⟩:=okR_S h
 refine call118 (rRSqrt _ _ _ _ ⟨h1,h2,fun _ => weak_two weak_nr (.refl _),fun x => ?_⟩)
 have x1:Sp.isSq r.num = true:=Classical.byContradiction fun y => x (.inl y)
 have x2:Sp.isSq (r.den:Int) = true:=Classical.byContradiction fun y => x (.inr y)
 exact absurd ⟨x1,x2⟩ k
end Go.Av

namespace Go.Av
open Go.Proofs
set_option maxRecDepth 100000
def fi19:Fi:=⟨23,[.tmp 4]⟩
def kp19:List (Nat × List Nat):=[(0,[1,2]),(1,[4])]
def fi30:Fi:=⟨9,[.cell 4 26]⟩
def kp30:List (Nat × List Nat):=[(0,[2,3,4]),(1,[4])]
def rRSmall_at (s fa t ga:Bool) (a b:List Int) (n:Int) (Q:AV -> Heap -> Prop):Prop:=Wp M1 (.run fi19 (atC (cd Tryz.f19) []) [(0,.agg [.bool s,.vec fa 1 (a.map (.int .u32)),.bool t,.vec ga 1 (b.map (.int .u32))]),(1,.int .i64 n)] []) Q
def rRSub_at (fa ga fb gb:Bool) (r s:Rat) (Q:AV -> Heap -> Prop):Prop:=Wp M1 (.run fi30 (atC (cd Tryz.f30) []) [(0,ratA fa ga r),(1,ratA fb gb s)] []) Q
theorem call19 {args:List AV} {d:AV} (h:wc M1 fi19 Tryz.f19 args d):Ev M1 (.pure 19 args) d []:=pcl _ _ (by kernel_rfl) h
theorem call30 {args:List AV} {d:AV} (h:wc M1 fi30 Tryz.f30 args d):Ev M1 (.pure 30 args) d []:=pcl _ _ (by kernel_rfl) h
theorem rRSmall (s fa t ga:Bool) (a b:List Int) (n:Int)  (dq:AV) (H :
  ((((↑a.length:Int) <= n) /\ ((↑b.length:Int) <= n)) -> (Sp.okA a b)) /\
  vb (bif bif decide ((↑a.length:Int) <= n) then decide ((↑b.length:Int) <= n) else false then Sp.valB s a t b else false) = dq) :
 rRSmall_at s fa t ga a b n (PureQ dq):=by
 unfold rRSmall_at
 have w1:(us a).length = a.length:=List.length_map ..
 have w2:(us b).length = b.length:=List.length_map ..
 have i3:((bif decide ((↑(us a).length:Int) <= n) then decide ((↑(us b).length:Int) <= n) else false) == true && true && true) = true ↔ (((↑a.length:Int) <= n) /\ ((↑b.length:Int) <= n)):=(by (try rw [w1]);(try rw [w2]);all_goals exact (i_at (i_at (i_bt (i_band i_dec i_dec)))))
 obtain ⟨k4,H⟩:=H
 exact path_re (G:=given kp19 [(1,16,.call (vb (Sp.valB s a t b)) none)] []) 1000 [] (asm:=[true,!(decide ((↑(us a).length:Int) <= n) == true && true) || true,!((bif decide ((↑(us a).length:Int) <= n) then decide ((↑(us b).length:Int) <= n) else false) == true && true) || true]) (calls:=[⟨(bif decide ((↑(us a).length:Int) <= n) then decide ((↑(us b).length:Int) <= n) else false) == true && true && true,false,29,[ag [vb s,AV.vec fa 1 (us a),vb t,AV.vec ga 1 (us b)]],[],vb (Sp.valB s a t b),[]⟩]) (vb (bif bif decide ((↑(us a).length:Int) <= n) then decide ((↑(us b).length:Int) <= n) else false then Sp.valB s a t b else false)) (by kernel_rfl) (bc rfl (bc (Bool.or_true _) (bc (Bool.or_true _) b0))) q0 (cc (fun hc => ((@ev29 (s) (fa) (t) (ga) (a) (b) (k4 (i3.1 hc))):Ev M1 (Conf.pure 29 [ag [vb s,AV.vec fa 1 (us a),vb t,AV.vec ga 1 (us b)]]) (vb (Sp.valB s a t b)) [])) c0) (by (try rw [w1]);(try rw [w2]);all_goals exact H)
theorem rRSub (fa ga fb gb:Bool) (r s:Rat)  (dq:AV) (H :
  (Sp.ok s.num) /\
  (Sp.okR r /\ Sp.okR (-s)) /\
  Weak (ratA false false (r + -s)) dq) :
 rRSub_at fa ga fb gb r s (PureQ dq):=by
 unfold rRSub_at
 obtain ⟨k1,H⟩:=H
 obtain ⟨k2,H⟩:=H
 exact path_rq (G:=given kp30 [(1,2,.call (ratA false false (-s)) none),(1,3,.call (ratA false false (r + -s)) none)] []) 1000 [] (ratA false false (r + -s)) (by kernel_rfl) (bc rfl (bc rfl (bc rfl b0))) q0 (ce (@ev70 (fb) (gb) (s) k1) (ce (@ev17 (fa) (ga) (false) (false) (r) (-s) k2) c0)) H
end Go.Av

namespace Go.Av
open Go.Proofs
def Sp.okU (n:Int) (a b:List Int):Prop:=n <= 90000 /\ (∀ x ∈ a,0 <= x) /\ (∀ x ∈ b,0 <= x)
noncomputable def Sp.smallB (n:Int) (s:Bool) (a:List Int) (t:Bool) (b:List Int):Bool:=bif bif decide ((a.length:Int) <= n) then decide ((b.length:Int) <= n) else false then Sp.valB s a t b else false
theorem ev19 (s fa t ga:Bool) (a b:List Int) (n:Int) (h:Sp.okU n a b):Ev M1 (.pure 19 [.agg [.bool s,.vec fa 1 (a.map (.int .u32)),.bool t,.vec ga 1 (b.map (.int .u32))],.int .i64 n]) (.bool (Sp.smallB n s a t b)) []:=by
 obtain ⟨h1,h2,h3⟩:=h
 exact call19 (rRSmall _ _ _ _ _ _ _ _ ⟨fun k => ⟨⟨by omega,h2⟩,⟨by omega,h3⟩⟩,rfl⟩)
theorem smallB_iff {n:Int} {s t:Bool} {a b:List Int}:Sp.smallB n s a t b = true ↔ (a.length:Int) <= n /\ (b.length:Int) <= n /\ Sp.valR s a t b:=by
 unfold Sp.smallB
 by_cases h1:(a.length:Int) <= n
 ·rw [decide_eq_true h1,cond_true]
  by_cases h2:(b.length:Int) <= n
  ·rw [decide_eq_true h2,cond_true,valB_true]
   exact ⟨fun h => ⟨h1,h2,h⟩,fun h => h.2.2⟩
  ·rw [decide_eq_false h2,cond_false]
   exact ⟨fun h => absurd h (by simp),fun h => absurd h.2.1 h2⟩
 ·rw [decide_eq_false h1,cond_false,cond_false]
  exact ⟨fun h => absurd h (by simp),fun h => absurd h.1 h1⟩
theorem ev30 (fa ga fb gb:Bool) (r s:Rat) (h:Sp.okR r /\ Sp.okR s):Ev M1 (.pure 30 [ratA fa ga r,ratA fb gb s]) (ratA false false (r - s)) []:=by
 refine call30 (rRSub _ _ _ _ _ _ _ ⟨?_,⟨h.1,okR_neg h.2⟩,?_⟩)
 ·have:=h.2.1;unfold Sp.ok;omega
 ·rw [<- Rat.sub_eq_add_neg];exact .refl _
end Go.Av

namespace Go.Av
open Go.Proofs
set_option maxRecDepth 100000
def fi22:Fi:=⟨24,[.tmp 4]⟩
def kp22:List (Nat × List Nat):=[(0,[2,3]),(1,[4])]
def fi59:Fi:=⟨6,[.cell 2 26]⟩
def kp59:List (Nat × List Nat):=[(0,[1,2]),(1,[2])]
def fi72:Fi:=⟨17,[.cell 2 26]⟩
def kp72:List (Nat × List Nat):=[(0,[1,2]),(1,[2])]
def fi82:Fi:=⟨2,[.cell 0 26]⟩
def kp82:List (Nat × List Nat):=[(0,[0]),(1,[0])]
def fi112:Fi:=⟨2,[.cell 0 26]⟩
def kp112:List (Nat × List Nat):=[(0,[0]),(1,[0])]
def fi116:Fi:=⟨2,[.cell 0 26]⟩
def kp116:List (Nat × List Nat):=[(0,[0]),(1,[0])]
def oZero_at  (Q:AV -> Heap -> Prop):Prop:=Wp M1 (.run fi112 (atC (cd Tryz.f112) []) [] []) Q
def pZero_at  (Q:AV -> Heap -> Prop):Prop:=Wp M1 (.run fi116 (atC (cd Tryz.f116) []) [] []) Q
def pOne_at  (Q:AV -> Heap -> Prop):Prop:=Wp M1 (.run fi82 (atC (cd Tryz.f82) []) [] []) Q
def oNorm_at (f1 f2 f3 f4 f5 f6:Bool) (a b c:Rat) (Q:AV -> Heap -> Prop):Prop:=Wp M1 (.run fi72 (atC (cd Tryz.f72) []) [(0,.agg [.bool (Sp.isNeg a.num),.vec f1 1 ((Sp.limI a.num).map (.int .u32)),.bool (Sp.isNeg (a.den:Int)),.vec f2 1 ((Sp.limI (a.den:Int)).map (.int .u32)),.bool (Sp.isNeg b.num),.vec f3 1 ((Sp.limI b.num).map (.int .u32)),.bool (Sp.isNeg (b.den:Int)),.vec f4 1 ((Sp.limI (b.den:Int)).map (.int .u32)),.bool (Sp.isNeg c.num),.vec f5 1 ((Sp.limI c.num).map (.int .u32)),.bool (Sp.isNeg (c.den:Int)),.vec f6 1 ((Sp.limI (c.den:Int)).map (.int .u32))])] []) Q
def pSquare_at (f1 f2:Bool) (a:Rat) (Q:AV -> Heap -> Prop):Prop:=Wp M1 (.run fi59 (atC (cd Tryz.f59) []) [(0,ratA f1 f2 a)] []) Q
def pSame_at (f1 f2 f3 f4 f5 f6 g1 g2 g3 g4 g5 g6:Bool) (a b c x y z:Rat) (Q:AV -> Heap -> Prop):Prop:=Wp M1 (.run fi22 (atC (cd Tryz.f22) []) [(0,.agg [.bool (Sp.isNeg a.num),.vec f1 1 ((Sp.limI a.num).map (.int .u32)),.bool (Sp.isNeg (a.den:Int)),.vec f2 1 ((Sp.limI (a.den:Int)).map (.int .u32)),.bool (Sp.isNeg b.num),.vec f3 1 ((Sp.limI b.num).map (.int .u32)),.bool (Sp.isNeg (b.den:Int)),.vec f4 1 ((Sp.limI (b.den:Int)).map (.int .u32)),.bool (Sp.isNeg c.num),.vec f5 1 ((Sp.limI c.num).map (.int .u32)),.bool (Sp.isNeg (c.den:Int)),.vec f6 1 ((Sp.limI (c.den:Int)).map (.int .u32))]),(1,.agg [.bool (Sp.isNeg x.num),.vec g1 1 ((Sp.limI x.num).map (.int .u32)),.bool (Sp.isNeg (x.den:Int)),.vec g2 1 ((Sp.limI (x.den:Int)).map (.int .u32)),.bool (Sp.isNeg y.num),.vec g3 1 ((Sp.limI y.num).map (.int .u32)),.bool (Sp.isNeg (y.den:Int)),.vec g4 1 ((Sp.limI (y.den:Int)).map (.int .u32)),.bool (Sp.isNeg z.num),.vec g5 1 ((Sp.limI z.num).map (.int .u32)),.bool (Sp.isNeg (z.den:Int)),.vec g6 1 ((Sp.limI (z.den:Int)).map (.int .u32))])] []) Q
theorem call22 {args:List AV} {d:AV} (h:wc M1 fi22 Tryz.f22 args d):Ev M1 (.pure 22 args) d []:=pcl _ _ (by kernel_rfl) h
theorem call59 {args:List AV} {d:AV} (h:wc M1 fi59 Tryz.f59 args d):Ev M1 (.pure 59 args) d []:=pcl _ _ (by kernel_rfl) h
theorem call72 {args:List AV} {d:AV} (h:wc M1 fi72 Tryz.f72 args d):Ev M1 (.pure 72 args) d []:=pcl _ _ (by kernel_rfl) h
theorem call82 {args:List AV} {d:AV} (h:wc M1 fi82 Tryz.f82 args d):Ev M1 (.pure 82 args) d []:=pcl _ _ (by kernel_rfl) h
theorem call112 {args:List AV} {d:AV} (h:wc M1 fi112 Tryz.f112 args d):Ev M1 (.pure 112 args) d []:=pcl _ _ (by kernel_rfl) h
theorem call116 {args:List AV} {d:AV} (h:wc M1 fi116 Tryz.f116 args d):Ev M1 (.pure 116 args) d []:=pcl _ _ (by kernel_rfl) h
theorem oZero   (dq:AV) (H :
  (Sp.inI 0) /\
  Weak (ratA false false (Sp.qi 0)) dq) :
 oZero_at  (PureQ dq):=by
 unfold oZero_at
 obtain ⟨k1,H⟩:=H
 exact path_rq (G:=given kp112 [(1,0,.call (ratA false false (Sp.qi 0)) none)] []) 1000 [] (ratA false false (Sp.qi 0)) (by kernel_rfl) (bc rfl b0) q0 (ce (@ev87 (0) k1) c0) H
theorem pZero   (dq:AV) (H :
  (Sp.inI 0) /\
  Weak (ratA false false (Sp.qi 0)) dq) :
 pZero_at  (PureQ dq):=by
 unfold pZero_at
 obtain ⟨k1,H⟩:=H
 exact path_rq (G:=given kp116 [(1,0,.call (ratA false false (Sp.qi 0)) none)] []) 1000 [] (ratA false false (Sp.qi 0)) (by kernel_rfl) (bc rfl b0) q0 (ce (@ev18 (0) k1) c0) H
theorem pOne   (dq:AV) (H :
  (Sp.inI 1) /\
  Weak (ratA false false (Sp.qi 1)) dq) :
 pOne_at  (PureQ dq):=by
 unfold pOne_at
 obtain ⟨k1,H⟩:=H
 exact path_rq (G:=given kp82 [(1,0,.call (ratA false false (Sp.qi 1)) none)] []) 1000 [] (ratA false false (Sp.qi 1)) (by kernel_rfl) (bc rfl b0) q0 (ce (@ev18 (1) k1) c0) H
theorem oNorm (f1 f2 f3 f4 f5 f6:Bool) (a b c:Rat)  (dq:AV) (H :
  (Sp.okR a /\ Sp.okR a) /\
  (Sp.okR b /\ Sp.okR b) /\
  (Sp.okR (b * b) /\ Sp.okR c) /\
  (Sp.okR (a * a) /\ Sp.okR (b * b * c)) /\
  Weak (ratA false false (a * a - b * b * c)) dq) :
 oNorm_at f1 f2 f3 f4 f5 f6 a b c (PureQ dq):=by
 unfold oNorm_at
 obtain ⟨k1,H⟩:=H
 obtain ⟨k2,H⟩:=H
 obtain ⟨k3,H⟩:=H
 obtain ⟨k4,H⟩:=H
 exact path_rq (G:=given kp72 [(1,4,.call (ratA false false (a * a)) none),(1,9,.call (ratA false false (b * b)) none),(1,12,.call (ratA false false (b * b * c)) none),(1,13,.call (ratA false false (a * a - b * b * c)) none)] []) 1000 [] (ratA false false (a * a - b * b * c)) (by kernel_rfl) (bc rfl (bc rfl (bc rfl (bc rfl (bc rfl (bc rfl b0)))))) q0 (ce (@ev50 (f1) (f2) (f1) (f2) (a) (a) k1) (ce (@ev50 (f3) (f4) (f3) (f4) (b) (b) k2) (ce (@ev50 (false) (false) (f5) (f6) (b * b) (c) k3) (ce (@ev111 (false) (false) (false) (false) (a * a) (b * b * c) k4) c0)))) H
theorem pSquare (f1 f2:Bool) (a:Rat)  (dq:AV) (H :
  (Sp.okR a /\ Sp.okR a) /\
  Weak (ratA false false (a * a)) dq) :
 pSquare_at f1 f2 a (PureQ dq):=by
 unfold pSquare_at
 obtain ⟨k1,H⟩:=H
 exact path_rq (G:=given kp59 [(1,2,.call (ratA false false (a * a)) none)] []) 1000 [] (ratA false false (a * a)) (by kernel_rfl) (bc rfl (bc rfl (bc rfl b0))) q0 (ce (@ev32 (f1) (f2) (f1) (f2) (a) (a) k1) c0) H
theorem pSame (f1 f2 f3 f4 f5 f6 g1 g2 g3 g4 g5 g6:Bool) (a b c x y z:Rat)  (dq:AV) (H :
  (Sp.okR a /\ Sp.okR x) /\
  ((a = x) -> (Sp.okR b /\ Sp.okR y)) /\
  (((a = x) /\ (b = y)) -> (Sp.okR c /\ Sp.okR z)) /\
  vb (bif bif decide (a = x) then decide (b = y) else false then decide (c = z) else false) = dq) :
 pSame_at f1 f2 f3 f4 f5 f6 g1 g2 g3 g4 g5 g6 a b c x y z (PureQ dq):=by
 unfold pSame_at
 obtain ⟨k1,H⟩:=H
 obtain ⟨k3,H⟩:=H
 obtain ⟨k5,H⟩:=H
 exact path_re (G:=given kp22 [(1,4,.call (vb (decide (a = x))) none),(1,10,.call (vb (decide (b = y))) none),(1,17,.call (vb (decide (c = z))) none)] []) 1000 [] (asm:=[true,true,!(decide (a = x) == true && true) || true,!(decide (a = x) == true && true) || true,!((bif decide (a = x) then decide (b = y) else false) == true && true) || true,!((bif decide (a = x) then decide (b = y) else false) == true && true) || true]) (calls:=[⟨true,false,74,[ratA f1 f2 a,ratA g1 g2 x],[],vb (decide (a = x)),[]⟩,⟨decide (a = x) == true && true && true,false,74,[ratA f3 f4 b,ratA g3 g4 y],[],vb (decide (b = y)),[]⟩,⟨(bif decide (a = x) then decide (b = y) else false) == true && true && true,false,74,[ratA f5 f6 c,ratA g5 g6 z],[],vb (decide (c = z)),[]⟩]) (vb (bif bif decide (a = x) then decide (b = y) else false then decide (c = z) else false)) (by kernel_rfl) (bc rfl (bc rfl (bc (Bool.or_true _) (bc (Bool.or_true _) (bc (Bool.or_true _) (bc (Bool.or_true _) b0)))))) q0 (cc (fun _ => (@ev74 (f1) (f2) (g1) (g2) (a) (x) k1)) (cc (fun hc => ((@ev74 (f3) (f4) (g3) (g4) (b) (y) (k3 ((i_at (i_at (i_bt i_dec))).1 hc))):Ev M1 (Conf.pure 74 [ratA f3 f4 b,ratA g3 g4 y]) (vb (decide (b = y))) [])) (cc (fun hc => ((@ev74 (f5) (f6) (g5) (g6) (c) (z) (k5 ((i_at (i_at (i_bt (i_band i_dec i_dec)))).1 hc))):Ev M1 (Conf.pure 74 [ratA f5 f6 c,ratA g5 g6 z]) (vb (decide (c = z))) [])) c0))) H
end Go.Av

namespace Go.Av
open Go.Proofs
abbrev rootA (f1 f2 f3 f4 f5 f6:Bool) (a b c:Rat):AV:=.agg [.bool (Sp.isNeg a.num),.vec f1 1 ((Sp.limI a.num).map (.int .u32)),.bool (Sp.isNeg (a.den:Int)),.vec f2 1 ((Sp.limI (a.den:Int)).map (.int .u32)),.bool (Sp.isNeg b.num),.vec f3 1 ((Sp.limI b.num).map (.int .u32)),.bool (Sp.isNeg (b.den:Int)),.vec f4 1 ((Sp.limI (b.den:Int)).map (.int .u32)),.bool (Sp.isNeg c.num),.vec f5 1 ((Sp.limI c.num).map (.int .u32)),.bool (Sp.isNeg (c.den:Int)),.vec f6 1 ((Sp.limI (c.den:Int)).map (.int .u32))]
abbrev rootF (a b c:Rat):AV:=rootA false false false false false false a b c
theorem weak_root {f1 f2 f3 f4 f5 f6:Bool} (a b c:Rat):Weak (rootA f1 f2 f3 f4 f5 f6 a b c) (rootF a b c):=by
 refine .agg _ _ rfl fun i x y hx hy => ?_
 match i with
 | 0 => simp at hx hy;subst hx;subst hy;exact .refl _
 | 1 => simp at hx hy;subst hx;subst hy;exact weak_vec _ _ _
 | 2 => simp at hx hy;subst hx;subst hy;exact .refl _
 | 3 => simp at hx hy;subst hx;subst hy;exact weak_vec _ _ _
 | 4 => simp at hx hy;subst hx;subst hy;exact .refl _
 | 5 => simp at hx hy;subst hx;subst hy;exact weak_vec _ _ _
 | 6 => simp at hx hy;subst hx;subst hy;exact .refl _
 | 7 => simp at hx hy;subst hx;subst hy;exact weak_vec _ _ _
 | 8 => simp at hx hy;subst hx;subst hy;exact .refl _
 | 9 => simp at hx hy;subst hx;subst hy;exact weak_vec _ _ _
 | 10 => simp at hx hy;subst hx;subst hy;exact .refl _
 | 11 => simp at hx hy;subst hx;subst hy;exact weak_vec _ _ _
 | i + 12 => simp at hx
theorem sgn_num {r:Rat}:Sp.sgnI r.num = 0 ↔ r = 0:=by rw [sgnI_zero,Rat.num_eq_zero]
def Sp.okT (k:Nat) (r:Rat):Prop:=Sp.cnt r.num.natAbs <= k /\ Sp.cnt r.den <= k
theorem okT_R {k:Nat} {r:Rat} (h:Sp.okT k r) (hk:k <= 90000):Sp.okR r:=⟨Nat.le_trans h.1 hk,Nat.le_trans h.2 hk⟩
theorem okT_le {k m:Nat} {r:Rat} (h:Sp.okT k r) (hk:k <= m):Sp.okT m r:=⟨Nat.le_trans h.1 hk,Nat.le_trans h.2 hk⟩
theorem divInt_le {p q:Int} (hq:q ≠ 0):(Rat.divInt p q).num.natAbs <= p.natAbs /\ (Rat.divInt p q).den <= q.natAbs:=by
 by_cases h:0 < q
 ·obtain ⟨e1,e2⟩:=rat_pos (a:=p) h
  have e3:(Rat.divInt p q).den = ((q / ((p.gcd q:Nat):Int))).natAbs:=by omega
  rw [e1,e3]
  refine ⟨?_,?_⟩
  ·rw [Int.natAbs_ediv_of_dvd (Int.gcd_dvd_left ..)];exact Nat.div_le_self _ _
  ·rw [Int.natAbs_ediv_of_dvd (Int.gcd_dvd_right ..)];exact Nat.div_le_self _ _
 ·obtain ⟨e1,e2⟩:=rat_neg (a:=p) (b:=q) (by omega)
  have e3:(Rat.divInt p q).den = ((-q / (((-p).gcd (-q):Nat):Int))).natAbs:=by omega
  rw [e1,e3]
  refine ⟨?_,?_⟩
  ·rw [Int.natAbs_ediv_of_dvd (Int.gcd_dvd_left ..),Int.natAbs_neg];exact Nat.div_le_self _ _
  ·rw [Int.natAbs_ediv_of_dvd (Int.gcd_dvd_right ..),Int.natAbs_neg];exact Nat.div_le_self _ _
theorem okT_mul {k m:Nat} {r s:Rat} (h:Sp.okT k r) (h2:Sp.okT m s):Sp.okT (k + m) (r * s):=by
 have e:=divInt_le (p:=r.num * s.num) (q:=(r.den:Int) * (s.den:Int)) (Int.mul_ne_zero (den_ne r) (den_ne s))
 rw [rat_mul] at e
 refine ⟨Nat.le_trans (cnt_mono e.1) (cnt_mulI h.1 h2.1),Nat.le_trans (cnt_mono e.2) (cnt_mulI (cnt_den h.2) (cnt_den h2.2))⟩
theorem okT_add {k m:Nat} {r s:Rat} (h:Sp.okT k r) (h2:Sp.okT m s):Sp.okT (k + m + 1) (r + s):=by
 have e:=divInt_le (p:=r.num * (s.den:Int) + s.num * (r.den:Int)) (q:=(r.den:Int) * (s.den:Int)) (Int.mul_ne_zero (den_ne r) (den_ne s))
 rw [rat_add] at e
 have m1:=cnt_mulI h.1 (cnt_den h2.2)
 have m2:=cnt_mulI h2.1 (cnt_den h.2)
 have m3:=cnt_mulI (cnt_den h.2) (cnt_den h2.2)
 have:=cnt_addI m1 (Nat.le_trans m2 (by omega))
 exact ⟨Nat.le_trans (cnt_mono e.1) this,Nat.le_trans (cnt_mono e.2) (Nat.le_trans m3 (by omega))⟩
theorem okT_neg {k:Nat} {r:Rat} (h:Sp.okT k r):Sp.okT k (-r):=by
 unfold Sp.okT
 rw [Rat.neg_num,Rat.neg_den,Int.natAbs_neg];exact h
theorem okT_sub {k m:Nat} {r s:Rat} (h:Sp.okT k r) (h2:Sp.okT m s):Sp.okT (k + m + 1) (r - s):=by
 rw [Rat.sub_eq_add_neg];exact okT_add h (okT_neg h2)
theorem okT_rt {k:Nat} {r:Rat} (h:Sp.rsq r) (hr:Sp.okT k r):Sp.okT k (Sp.rt r):=by
 obtain ⟨e1,e2⟩:=rt_num h
 obtain ⟨a1,a2⟩:=hr
 have h1:=(sq_le ((isSq_iff _).1 h.1).1).2
 have h2:=(sq_le ((isSq_iff _).1 h.2).1).2
 unfold Sp.okT
 rw [e1]
 have:(Sp.rt r).den = (Sp.sq (r.den:Int)).natAbs:=by omega
 rw [this]
 exact ⟨Nat.le_trans (cnt_mono h1) a1,Nat.le_trans (cnt_mono h2) a2⟩
theorem okT_int {n:Int} (h:Sp.inI n):Sp.okT 3 (Sp.qi n):=by
 rw [qi_eq]
 unfold Sp.okT
 rw [Rat.num_intCast,Rat.den_intCast]
 exact ⟨inI_cnt h,by have:=cnt_small (n:=1) (by decide);omega⟩
theorem okT_zero:Sp.okT 1 (0:Rat):=by
 have h0:Sp.cnt ((0:Rat).num.natAbs) = 0:=cnt_zero
 have h1:=cnt_small (n:=1) (by decide)
 have h2:(0:Rat).den = 1:=rfl
 unfold Sp.okT
 rw [h0,h2]
 omega
theorem ev112:Ev M1 (.pure 112 []) (ratA false false (Sp.qi 0)) []:=
 call112 (oZero _ ⟨by unfold Sp.inI;omega,.refl _⟩)
theorem ev116:Ev M1 (.pure 116 []) (ratA false false (Sp.qi 0)) []:=
 call116 (pZero _ ⟨by unfold Sp.inI;omega,.refl _⟩)
theorem ev82:Ev M1 (.pure 82 []) (ratA false false (Sp.qi 1)) []:=
 call82 (pOne _ ⟨by unfold Sp.inI;omega,.refl _⟩)
def Sp.okO (a b c:Rat):Prop:=Sp.okT 9000 a /\ Sp.okT 9000 b /\ Sp.okT 9000 c
def Sp.okP (a b:Rat):Prop:=Sp.okT 9000 a /\ Sp.okT 9000 b
theorem ev72 (f1 f2 f3 f4 f5 f6:Bool) (a b c:Rat) (h:Sp.okO a b c):Ev M1 (.pure 72 [rootA f1 f2 f3 f4 f5 f6 a b c]) (ratA false false (a * a - b * b * c)) []:=by
 obtain ⟨ha,hb,hc⟩:=h
 have aa:=okT_mul ha ha
 have bb:=okT_mul hb hb
 have bbc:=okT_mul bb hc
 exact call72 (oNorm _ _ _ _ _ _ _ _ _ _ ⟨⟨okT_R ha (by omega),okT_R ha (by omega)⟩,⟨okT_R hb (by omega),okT_R hb (by omega)⟩,⟨okT_R bb (by omega),okT_R hc (by omega)⟩,⟨okT_R aa (by omega),okT_R bbc (by omega)⟩,.refl _⟩)
def Sp.isCom (b c y z:Rat):Prop:=b = 0 \/ y = 0 \/ c = z
instance (b c y z:Rat):Decidable (Sp.isCom b c y z):=inferInstanceAs (Decidable (_ \/ _))
theorem cross {c z:Rat}:Sp.sgnI (c.num * (z.den:Int) - z.num * (c.den:Int)) = 0 ↔ c = z:=by
 rw [sgnI_zero]
 constructor
 ·intro h
  have h1:c.num * (z.den:Int) = z.num * (c.den:Int):=by omega
  have e:=(Rat.divInt_eq_divInt_iff (den_ne c) (den_ne z)).2 h1
  rwa [Rat.num_divInt_den,Rat.num_divInt_den] at e
 ·intro h;subst h;omega
theorem ev59 (f1 f2:Bool) (a:Rat) (h:Sp.okR a):Ev M1 (.pure 59 [ratA f1 f2 a]) (ratA false false (a * a)) []:=
 call59 (pSquare _ _ _ _ ⟨⟨h,h⟩,.refl _⟩)
theorem ev22 (f1 f2 f3 f4 f5 f6 g1 g2 g3 g4 g5 g6:Bool) (a b c x y z:Rat) (h:Sp.okO a b c /\ Sp.okO x y z):Ev M1 (.pure 22 [rootA f1 f2 f3 f4 f5 f6 a b c,rootA g1 g2 g3 g4 g5 g6 x y z]) (.bool (decide (a = x /\ b = y /\ c = z))) []:=by
 obtain ⟨⟨h1,h2,h3⟩,h4,h5,h6⟩:=h
 refine call22 (pSame _ _ _ _ _ _ _ _ _ _ _ _ _ _ _ _ _ _ _ ⟨⟨okT_R h1 (by omega),okT_R h4 (by omega)⟩,fun _ => ⟨okT_R h2 (by omega),okT_R h5 (by omega)⟩,fun _ => ⟨okT_R h3 (by omega),okT_R h6 (by omega)⟩,?_⟩)
 congr 1
 by_cases e1:a = x <;> by_cases e2:b = y <;> by_cases e3:c = z <;> simp [e1,e2,e3]
end Go.Av

namespace Go.Av
open Go.Proofs
set_option maxRecDepth 100000
def fi20:Fi:=⟨29,[.tmp 2]⟩
def kp20:List (Nat × List Nat):=[(0,[1]),(1,[1,3,4]),(2,[1,3,4,11]),(3,[2]),(4,[1,3,4,20]),(5,[2]),(6,[2])]
def fi69:Fi:=⟨14,[.cell 4 28]⟩
def kp69:List (Nat × List Nat):=[(0,[2,3,4]),(1,[4])]
def fi73:Fi:=⟨13,[.cell 2 26]⟩
def kp73:List (Nat × List Nat):=[(0,[1,2]),(1,[2])]
def fi76:Fi:=⟨15,[.cell 6 28]⟩
def kp76:List (Nat × List Nat):=[(0,[3,4,5,6]),(1,[3,4,5,6,9]),(2,[3,4,5,6]),(3,[6])]
def fi89:Fi:=⟨7,[.cell 2 28]⟩
def kp89:List (Nat × List Nat):=[(0,[1,2]),(1,[2])]
def fi91:Fi:=⟨7,[.cell 2 28]⟩
def kp91:List (Nat × List Nat):=[(0,[1,2]),(1,[2])]
def oFrom_at (f1 f2:Bool) (a:Rat) (Q:AV -> Heap -> Prop):Prop:=Wp M1 (.run fi91 (atC (cd Tryz.f91) []) [(0,ratA f1 f2 a)] []) Q
def pFrom_at (f1 f2:Bool) (a:Rat) (Q:AV -> Heap -> Prop):Prop:=Wp M1 (.run fi89 (atC (cd Tryz.f89) []) [(0,ratA f1 f2 a)] []) Q
def oRed_at (f1 f2 f3 f4 f5 f6:Bool) (a b c:Rat) (Q:AV -> Heap -> Prop):Prop:=Wp M1 (.run fi76 (atC (cd Tryz.f76) []) [(0,ratA f1 f2 a),(1,ratA f3 f4 b),(2,ratA f5 f6 c)] []) Q
def oSign_at (f1 f2 f3 f4 f5 f6:Bool) (a b c:Rat) (Q:AV -> Heap -> Prop):Prop:=Wp M1 (.run fi20 (atC (cd Tryz.f20) []) [(0,rootA f1 f2 f3 f4 f5 f6 a b c)] []) Q
def pNorm_at (f1 f2 f3 f4 f5 f6:Bool) (a b c:Rat) (Q:AV -> Heap -> Prop):Prop:=Wp M1 (.run fi73 (atC (cd Tryz.f73) []) [(0,rootA f1 f2 f3 f4 f5 f6 a b c)] []) Q
def pAddRat_at (f1 f2 f3 f4 f5 f6:Bool) (k l:Bool) (a b c r:Rat) (Q:AV -> Heap -> Prop):Prop:=Wp M1 (.run fi69 (atC (cd Tryz.f69) []) [(0,rootA f1 f2 f3 f4 f5 f6 a b c),(1,ratA k l r)] []) Q
theorem call20 {args:List AV} {d:AV} (h:wc M1 fi20 Tryz.f20 args d):Ev M1 (.pure 20 args) d []:=pcl _ _ (by kernel_rfl) h
theorem call69 {args:List AV} {d:AV} (h:wc M1 fi69 Tryz.f69 args d):Ev M1 (.pure 69 args) d []:=pcl _ _ (by kernel_rfl) h
theorem call73 {args:List AV} {d:AV} (h:wc M1 fi73 Tryz.f73 args d):Ev M1 (.pure 73 args) d []:=pcl _ _ (by kernel_rfl) h
theorem call76 {args:List AV} {d:AV} (h:wc M1 fi76 Tryz.f76 args d):Ev M1 (.pure 76 args) d []:=pcl _ _ (by kernel_rfl) h
theorem call89 {args:List AV} {d:AV} (h:wc M1 fi89 Tryz.f89 args d):Ev M1 (.pure 89 args) d []:=pcl _ _ (by kernel_rfl) h
theorem call91 {args:List AV} {d:AV} (h:wc M1 fi91 Tryz.f91 args d):Ev M1 (.pure 91 args) d []:=pcl _ _ (by kernel_rfl) h
theorem oFrom (f1 f2:Bool) (a:Rat)  (dq:AV) (H :
  Weak (rootA f1 f2 false false false false a (Sp.qi 0) (Sp.qi 0)) dq) :
 oFrom_at f1 f2 a (PureQ dq):=by
 unfold oFrom_at
 exact path_rq (G:=given kp91 [(1,1,.call (ratA false false (Sp.qi 0)) none),(1,2,.call (ratA false false (Sp.qi 0)) none)] []) 1000 [] (rootA f1 f2 false false false false a (Sp.qi 0) (Sp.qi 0)) (by kernel_rfl) (bc rfl (bc rfl b0)) q0 (ce (@ev112 ) (ce (@ev112 ) c0)) H
theorem pFrom (f1 f2:Bool) (a:Rat)  (dq:AV) (H :
  Weak (rootA f1 f2 false false false false a (Sp.qi 0) (Sp.qi 0)) dq) :
 pFrom_at f1 f2 a (PureQ dq):=by
 unfold pFrom_at
 exact path_rq (G:=given kp89 [(1,1,.call (ratA false false (Sp.qi 0)) none),(1,2,.call (ratA false false (Sp.qi 0)) none)] []) 1000 [] (rootA f1 f2 false false false false a (Sp.qi 0) (Sp.qi 0)) (by kernel_rfl) (bc rfl (bc rfl b0)) q0 (ce (@ev116 ) (ce (@ev116 ) c0)) H
theorem oRed (f1 f2 f3 f4 f5 f6:Bool) (a b c:Rat)  (dq:AV) (H :
  ((Sp.sgnI b.num = 0) -> Weak (rootA f1 f2 f3 f4 false false a b (Sp.qi 0)) dq) /\
  (¬(Sp.sgnI b.num = 0) -> Weak (rootA f1 f2 f3 f4 f5 f6 a b c) dq)) :
 oRed_at f1 f2 f3 f4 f5 f6 a b c (PureQ dq):=by
 unfold oRed_at
 refine path_wp (G:=given kp76 [(1,1,.call (vi (Sp.sgnI b.num)) none)] []) 5 [] ⟨(atC (cd Tryz.f76) [1,0,1]),[(3,AV.ptr 0 0 0 0),(4,AV.ptr 1 0 0 0),(5,AV.ptr 2 0 0 0),(6,AV.ptr 3 0 0 0),(9,vb (Sp.sgnI b.num == 0))],[⟨[ratA f1 f2 a],4,0,false,false⟩,⟨[ratA f3 f4 b],4,0,false,false⟩,⟨[ratA f5 f6 c],4,0,false,false⟩,⟨[ag [vb false,AV.vnil,vb false,AV.vnil,vb false,AV.vnil,vb false,AV.vnil,vb false,AV.vnil,vb false,AV.vnil]],12,0,false,false⟩],_,[],_⟩ (by kernel_rfl) (bc rfl b0) q0 (ce (@ev48 (f3) (f4) (b.num) ((↑b.den:Int))) c0) ?_
 rcases xm (Sp.sgnI b.num = 0) with d2 | d2
 ·have H:=H.1 d2
  exact path_rq (G:=given kp76 [(2,0,.call (ratA false false (Sp.qi 0)) none)] []) 1000 [true] (asm:=[(Sp.sgnI b.num == 0) == true,0 == 0,true,true,true,true]) (rootA f1 f2 f3 f4 false false a b (Sp.qi 0)) (by kernel_rfl) (bc (beq_t (i_eq.2 d2)) (bc (beq_self_eq_true _) (bc rfl (bc rfl (bc rfl (bc rfl b0)))))) q0 (ce (@ev112 ) c0) H
 ·have H:=H.2 d2
  exact path_rq (G:=given kp76 [] []) 1000 [false] (rootA f1 f2 f3 f4 f5 f6 a b c) (by kernel_rfl) (bc (beq_f (fun h => d2 (i_eq.1 h))) (bc rfl (bc rfl (bc rfl (bc rfl b0))))) q0 c0 H
theorem oSign (f1 f2 f3 f4 f5 f6:Bool) (a b c:Rat)  (dq:AV) (H :
  (((Sp.sgnI b.num = 0) \/ (Sp.sgnI a.num = Sp.sgnI b.num)) -> vi (Sp.sgnI a.num) = dq) /\
  (¬((Sp.sgnI b.num = 0) \/ (Sp.sgnI a.num = Sp.sgnI b.num)) -> ((Sp.sgnI a.num = 0) -> vi (Sp.sgnI b.num) = dq) /\
   (¬(Sp.sgnI a.num = 0) -> (Sp.okO a b c) /\
    (-9223372036854775808 <= Sp.sgnI a.num * Sp.sgnI (a * a - b * b * c).num /\ Sp.sgnI a.num * Sp.sgnI (a * a - b * b * c).num <= 9223372036854775807) /\
    vi (Sp.sgnI a.num * Sp.sgnI (a * a - b * b * c).num) = dq))) :
 oSign_at f1 f2 f3 f4 f5 f6 a b c (PureQ dq):=by
 unfold oSign_at
 refine path_wp (G:=given kp20 [(1,2,.call (vi (Sp.sgnI a.num)) none),(1,5,.call (vi (Sp.sgnI b.num)) none)] []) 8 [] ⟨(atC (cd Tryz.f20) [1,1,0,0,1]),[(1,AV.ptr 0 0 0 0),(3,vi (Sp.sgnI a.num)),(4,vi (Sp.sgnI b.num)),(11,vb (bif Sp.sgnI b.num == 0 then true else Sp.sgnI a.num == Sp.sgnI b.num))],[⟨[rootA f1 f2 f3 f4 f5 f6 a b c],12,0,false,false⟩],_,[],_⟩ (by kernel_rfl) (bc rfl (bc rfl b0)) q0 (ce (@ev48 (f1) (f2) (a.num) ((↑a.den:Int))) (ce (@ev48 (f3) (f4) (b.num) ((↑b.den:Int))) c0)) ?_
 rcases xm ((Sp.sgnI b.num = 0) \/ (Sp.sgnI a.num = Sp.sgnI b.num)) with d2 | d2
 ·have H:=H.1 d2
  exact path_re (G:=given kp20 [] []) 1000 [true] (vi (Sp.sgnI a.num)) (by kernel_rfl) (bc (beq_t ((i_bor i_eq i_eq).2 d2)) b0) q0 c0 H
 ·have H:=H.2 d2
  rcases xm (Sp.sgnI a.num = 0) with d4 | d4
  ·have H:=H.1 d4
   exact path_re (G:=given kp20 [] []) 1000 [false,true] (vi (Sp.sgnI b.num)) (by kernel_rfl) (bc (beq_f (fun h => d2 ((i_bor i_eq i_eq).1 h))) (bc (beq_t (i_eq.2 d4)) b0)) q0 c0 H
  ·have H:=H.2 d4
   obtain ⟨k5,H⟩:=H
   obtain ⟨k6,H⟩:=H
   have w7:wi (Sp.sgnI a.num * Sp.sgnI (a * a - b * b * c).num) = Sp.sgnI a.num * Sp.sgnI (a * a - b * b * c).num:=wI64 k6
   exact path_re (G:=given kp20 [(6,2,.call (ratA false false (a * a - b * b * c)) none),(6,3,.call (vi (Sp.sgnI (a * a - b * b * c).num)) none)] []) 1000 [false,false] (vi (wi (Sp.sgnI a.num * Sp.sgnI (a * a - b * b * c).num))) (by kernel_rfl) (bc (beq_f (fun h => d2 ((i_bor i_eq i_eq).1 h))) (bc (beq_f (fun h => d4 (i_eq.1 h))) (bc rfl b0))) q0 (ce (@ev72 (f1) (f2) (f3) (f4) (f5) (f6) (a) (b) (c) k5) (ce (@ev48 (false) (false) ((a * a - b * b * c).num) ((↑(a * a - b * b * c).den:Int))) c0)) (by (try rw [w7]);all_goals exact H)
theorem pNorm (f1 f2 f3 f4 f5 f6:Bool) (a b c:Rat)  (dq:AV) (H :
  (Sp.okR a) /\
  (Sp.okR b) /\
  (Sp.okR (b * b) /\ Sp.okR c) /\
  (Sp.okR (a * a) /\ Sp.okR (b * b * c)) /\
  Weak (ratA false false (a * a - b * b * c)) dq) :
 pNorm_at f1 f2 f3 f4 f5 f6 a b c (PureQ dq):=by
 unfold pNorm_at
 obtain ⟨k1,H⟩:=H
 obtain ⟨k2,H⟩:=H
 obtain ⟨k3,H⟩:=H
 obtain ⟨k4,H⟩:=H
 exact path_rq (G:=given kp73 [(1,2,.call (ratA false false (a * a)) none),(1,5,.call (ratA false false (b * b)) none),(1,8,.call (ratA false false (b * b * c)) none),(1,9,.call (ratA false false (a * a - b * b * c)) none)] []) 1000 [] (ratA false false (a * a - b * b * c)) (by kernel_rfl) (bc rfl (bc rfl (bc rfl (bc rfl b0)))) q0 (ce (@ev59 (f1) (f2) (a) k1) (ce (@ev59 (f3) (f4) (b) k2) (ce (@ev32 (false) (false) (f5) (f6) (b * b) (c) k3) (ce (@ev30 (false) (false) (false) (false) (a * a) (b * b * c) k4) c0)))) H
theorem pAddRat (f1 f2 f3 f4 f5 f6:Bool) (k l:Bool) (a b c r:Rat)  (dq:AV) (H :
  (Sp.okR a /\ Sp.okR r) /\
  Weak (rootA false false f3 f4 f5 f6 (a + r) b c) dq) :
 pAddRat_at f1 f2 f3 f4 f5 f6 k l a b c r (PureQ dq):=by
 unfold pAddRat_at
 obtain ⟨k1,H⟩:=H
 exact path_rq (G:=given kp69 [(1,3,.call (ratA false false (a + r)) none)] []) 1000 [] (rootA false false f3 f4 f5 f6 (a + r) b c) (by kernel_rfl) (bc rfl (bc rfl (bc rfl (bc rfl (bc rfl b0))))) q0 (ce (@ev17 (f1) (f2) (k) (l) (a) (r) k1) c0) H
end Go.Av

namespace Go.Av
open Go.Proofs
theorem ev91 (f1 f2:Bool) (a:Rat):Ev M1 (.pure 91 [ratA f1 f2 a]) (rootF a (Sp.qi 0) (Sp.qi 0)) []:=
 call91 (oFrom _ _ _ _ (weak_root a (Sp.qi 0) (Sp.qi 0)))
theorem ev89 (f1 f2:Bool) (a:Rat):Ev M1 (.pure 89 [ratA f1 f2 a]) (rootF a (Sp.qi 0) (Sp.qi 0)) []:=
 call89 (pFrom _ _ _ _ (weak_root a (Sp.qi 0) (Sp.qi 0)))
noncomputable def Sp.rad (b c:Rat):Rat:=if b = 0 then Sp.qi 0 else c
theorem ev76 (f1 f2 f3 f4 f5 f6:Bool) (a b c:Rat):Ev M1 (.pure 76 [ratA f1 f2 a,ratA f3 f4 b,ratA f5 f6 c]) (rootF a b (Sp.rad b c)) []:=by
 refine call76 (oRed _ _ _ _ _ _ _ _ _ _ ⟨fun k => ?_,fun k => ?_⟩)
 ·rw [show Sp.rad b c = Sp.qi 0 from if_pos (sgn_num.1 k)];exact weak_root a b (Sp.qi 0)
 ·rw [show Sp.rad b c = c from if_neg fun e => k (sgn_num.2 e)];exact weak_root a b c
def Sp.sgR (r:Rat):Int:=Sp.sgnI r.num
noncomputable def Sp.sgO (a b c:Rat):Int:=if Sp.sgR b = 0 \/ Sp.sgR a = Sp.sgR b then Sp.sgR a else if Sp.sgR a = 0 then Sp.sgR b else Sp.sgR a * Sp.sgR (a * a - b * b * c)
theorem sgnI_le (n:Int):-1 <= Sp.sgnI n /\ Sp.sgnI n <= 1:=by
 unfold Sp.sgnI
 (repeat' split) <;> omega
theorem sgn_bound {x y:Int} (hx:-1 <= x /\ x <= 1) (hy:-1 <= y /\ y <= 1):-1 <= x * y /\ x * y <= 1:=by
 obtain ⟨x1,x2⟩:=hx
 rcases (by omega:x = -1 \/ x = 0 \/ x = 1) with e | e | e <;> subst e <;> omega
theorem ev20 (f1 f2 f3 f4 f5 f6:Bool) (a b c:Rat) (h:Sp.okO a b c):Ev M1 (.pure 20 [rootA f1 f2 f3 f4 f5 f6 a b c]) (.int .i64 (Sp.sgO a b c)) []:=by
 refine call20 (oSign _ _ _ _ _ _ _ _ _ _ ⟨fun k => ?_,fun k => ⟨fun k2 => ?_,fun k2 => ⟨h,?_,?_⟩⟩⟩)
 ·unfold Sp.sgO Sp.sgR;rw [if_pos k]
 ·unfold Sp.sgO Sp.sgR;rw [if_neg k,if_pos k2]
 ·have:=sgn_bound (sgnI_le a.num) (sgnI_le (a * a - b * b * c).num)
  omega
 ·unfold Sp.sgO Sp.sgR;rw [if_neg k,if_neg k2]
theorem ev73 (f1 f2 f3 f4 f5 f6:Bool) (a b c:Rat) (h:Sp.okO a b c):Ev M1 (.pure 73 [rootA f1 f2 f3 f4 f5 f6 a b c]) (ratA false false (a * a - b * b * c)) []:=by
 obtain ⟨ha,hb,hc⟩:=h
 have aa:=okT_mul ha ha
 have bb:=okT_mul hb hb
 have bbc:=okT_mul bb hc
 exact call73 (pNorm _ _ _ _ _ _ _ _ _ _ ⟨okT_R ha (by omega),okT_R hb (by omega),⟨okT_R bb (by omega),okT_R hc (by omega)⟩,⟨okT_R aa (by omega),okT_R bbc (by omega)⟩,.refl _⟩)
theorem ev69 (f1 f2 f3 f4 f5 f6 k l:Bool) (a b c r:Rat) (h:Sp.okR a /\ Sp.okR r):Ev M1 (.pure 69 [rootA f1 f2 f3 f4 f5 f6 a b c,ratA k l r]) (rootF (a + r) b c) []:=
 call69 (pAddRat _ _ _ _ _ _ _ _ _ _ _ _ _ ⟨h,weak_root _ _ _⟩)
end Go.Av

namespace Go.Av
open Go.Proofs
set_option maxRecDepth 100000
def fi11:Fi:=⟨69,[.cell 2 24]⟩
def kp11:List (Nat × List Nat):=[(0,[1,2]),(1,[1,2,15]),(2,[2]),(3,[1,2,3]),(4,[1,2,3,4,5]),(5,[1,2,4,5,6]),(6,[1,2,4,5,7]),(7,[1,2,4,5,7,48]),(8,[1,2,4,5,7]),(9,[2,9]),(10,[2])]
def fi25:Fi:=⟨16,[.cell 4 28]⟩
def kp25:List (Nat × List Nat):=[(0,[2,3,4]),(1,[4])]
def fi41:Fi:=⟨6,[.cell 2 28]⟩
def kp41:List (Nat × List Nat):=[(0,[0,2]),(1,[2])]
def fi42:Fi:=⟨30,[.cell 6 28,.tmp 7]⟩
def kp42:List (Nat × List Nat):=[(0,[3,4,5,6]),(1,[3,4,5,6,12]),(2,[6,7]),(3,[3,4,5,6,8,9]),(4,[3,4,5,6,8,19]),(5,[6,7]),(6,[6,7])]
def fi77:Fi:=⟨21,[.cell 6 28]⟩
def kp77:List (Nat × List Nat):=[(0,[3,4,5,6]),(1,[3,4,5,6,14]),(2,[6]),(3,[6])]
def pRed_at (f1 f2 f3 f4 f5 f6:Bool) (a b c:Rat) (Q:AV -> Heap -> Prop):Prop:=Wp M1 (.run fi77 (atC (cd Tryz.f77) []) [(0,ratA f1 f2 a),(1,ratA f3 f4 b),(2,ratA f5 f6 c)] []) Q
def pInt_at (n:Int) (Q:AV -> Heap -> Prop):Prop:=Wp M1 (.run fi41 (atC (cd Tryz.f41) []) [(0,.int .i64 n)] []) Q
def oMake_at (f1 f2 f3 f4 f5 f6:Bool) (a b c:Rat) (Q:AV -> Heap -> Prop):Prop:=Wp M1 (.run fi42 (atC (cd Tryz.f42) []) [(0,ratA f1 f2 a),(1,ratA f3 f4 b),(2,ratA f5 f6 c)] []) Q
def oScale_at (f1 f2 f3 f4 f5 f6:Bool) (k l:Bool) (a b c r:Rat) (Q:AV -> Heap -> Prop):Prop:=Wp M1 (.run fi25 (atC (cd Tryz.f25) []) [(0,rootA f1 f2 f3 f4 f5 f6 a b c),(1,ratA k l r)] []) Q
def oFloor_at (f1 f2 f3 f4 f5 f6:Bool) (a b c:Rat) (Q:AV -> Heap -> Prop):Prop:=Wp M1 (.run fi11 (atC (cd Tryz.f11) []) [(0,rootA f1 f2 f3 f4 f5 f6 a b c)] []) Q
theorem call11 {args:List AV} {d:AV} (h:wc M1 fi11 Tryz.f11 args d):Ev M1 (.pure 11 args) d []:=pcl _ _ (by kernel_rfl) h
theorem call25 {args:List AV} {d:AV} (h:wc M1 fi25 Tryz.f25 args d):Ev M1 (.pure 25 args) d []:=pcl _ _ (by kernel_rfl) h
theorem call41 {args:List AV} {d:AV} (h:wc M1 fi41 Tryz.f41 args d):Ev M1 (.pure 41 args) d []:=pcl _ _ (by kernel_rfl) h
theorem call42 {args:List AV} {d:AV} (h:wc M1 fi42 Tryz.f42 args d):Ev M1 (.pure 42 args) d []:=pcl _ _ (by kernel_rfl) h
theorem call77 {args:List AV} {d:AV} (h:wc M1 fi77 Tryz.f77 args d):Ev M1 (.pure 77 args) d []:=pcl _ _ (by kernel_rfl) h
theorem pRed (f1 f2 f3 f4 f5 f6:Bool) (a b c:Rat)  (dq:AV) (H :
  (((Sp.sgnI b.num = 0) \/ (Sp.sgnI c.num = 0)) -> Weak (rootF a (Sp.qi 0) (Sp.qi 0)) dq) /\
  (¬((Sp.sgnI b.num = 0) \/ (Sp.sgnI c.num = 0)) -> Weak (rootA f1 f2 f3 f4 f5 f6 a b c) dq)) :
 pRed_at f1 f2 f3 f4 f5 f6 a b c (PureQ dq):=by
 unfold pRed_at
 refine path_wp (G:=given kp77 [(1,1,.call (vi (Sp.sgnI b.num)) none),(1,5,.call (vi (Sp.sgnI c.num)) none)] []) 5 [] ⟨(atC (cd Tryz.f77) [1,0,1]),[(3,AV.ptr 0 0 0 0),(4,AV.ptr 1 0 0 0),(5,AV.ptr 2 0 0 0),(6,AV.ptr 3 0 0 0),(14,vb (bif Sp.sgnI b.num == 0 then true else Sp.sgnI c.num == 0))],[⟨[ratA f1 f2 a],4,0,false,false⟩,⟨[ratA f3 f4 b],4,0,false,false⟩,⟨[ratA f5 f6 c],4,0,false,false⟩,⟨[ag [vb false,AV.vnil,vb false,AV.vnil,vb false,AV.vnil,vb false,AV.vnil,vb false,AV.vnil,vb false,AV.vnil]],12,0,false,false⟩],[true,!((Sp.sgnI b.num == 0) == false && true) || true],[],[⟨true,false,27,[ratA f3 f4 b],[],vi (Sp.sgnI b.num),[]⟩,⟨(Sp.sgnI b.num == 0) == false && true && true,false,27,[ratA f5 f6 c],[],vi (Sp.sgnI c.num),[]⟩]⟩ (by kernel_rfl) (bc rfl (bc (Bool.or_true _) b0)) q0 (cc (fun _ => (@ev27 (f3) (f4) (b.num) ((↑b.den:Int)))) (cc (fun hc => ((@ev27 (f5) (f6) (c.num) ((↑c.den:Int))):Ev M1 (Conf.pure 27 [ratA f5 f6 c]) (vi (Sp.sgnI c.num)) [])) c0)) ?_
 rcases xm ((Sp.sgnI b.num = 0) \/ (Sp.sgnI c.num = 0)) with d3 | d3
 ·have H:=H.1 d3
  exact path_rq (G:=given kp77 [(2,1,.call (rootF a (Sp.qi 0) (Sp.qi 0)) none)] []) 1000 [true] (rootF a (Sp.qi 0) (Sp.qi 0)) (by kernel_rfl) (bc (beq_t ((i_bor i_eq i_eq).2 d3)) (bc rfl (bc rfl b0))) q0 (ce (@ev89 (f1) (f2) (a)) c0) H
 ·have H:=H.2 d3
  exact path_rq (G:=given kp77 [] []) 1000 [false] (rootA f1 f2 f3 f4 f5 f6 a b c) (by kernel_rfl) (bc (beq_f (fun h => d3 ((i_bor i_eq i_eq).1 h))) (bc rfl (bc rfl (bc rfl (bc rfl b0))))) q0 c0 H
theorem pInt (n:Int)  (dq:AV) (H :
  (Sp.inI n) /\
  Weak (rootF (Sp.qi n) (Sp.qi 0) (Sp.qi 0)) dq) :
 pInt_at n (PureQ dq):=by
 unfold pInt_at
 obtain ⟨k1,H⟩:=H
 exact path_rq (G:=given kp41 [(1,1,.call (ratA false false (Sp.qi n)) none),(1,2,.call (rootF (Sp.qi n) (Sp.qi 0) (Sp.qi 0)) none)] []) 1000 [] (rootF (Sp.qi n) (Sp.qi 0) (Sp.qi 0)) (by kernel_rfl) (bc rfl b0) q0 (ce (@ev18 (n) k1) (ce (@ev89 (false) (false) (Sp.qi n)) c0)) H
noncomputable abbrev zNxC1:=ag [vb false,AV.vnil,vb false,AV.vnil,vb false,AV.vnil,vb false,AV.vnil,vb false,AV.vnil,vb false,AV.vnil]
theorem oMake (f1 f2 f3 f4 f5 f6:Bool) (a b c:Rat)  (dq:AV) (H :
  ((Sp.sgnI c.num < 0) -> Weak (tu [ag [vb false,AV.vnil,vb false,AV.vnil,vb false,AV.vnil,vb false,AV.vnil,vb false,AV.vnil,vb false,AV.vnil],vi 7]) dq) /\
  (¬(Sp.sgnI c.num < 0) -> ((Sp.rsq c) -> (Sp.okR c) /\
    (Sp.okR b /\ Sp.okR (Sp.rt c)) /\
    (Sp.okR a /\ Sp.okR (b * Sp.rt c)) /\
    Weak (tu [rootF (a + b * Sp.rt c) (Sp.qi 0) (Sp.qi 0),vi 0]) dq) /\
   (¬(Sp.rsq c) -> (Sp.okR c) /\
    Weak (tu [rootF a b (Sp.rad b c),vi 0]) dq))) :
 oMake_at f1 f2 f3 f4 f5 f6 a b c (PureQ dq):=by
 unfold oMake_at
 refine path_wp (G:=given kp42 [(1,1,.call (vi (Sp.sgnI c.num)) none)] []) 5 [] ⟨(atC (cd Tryz.f42) [1,0,1]),[(3,AV.ptr 0 0 0 0),(4,AV.ptr 1 0 0 0),(5,AV.ptr 2 0 0 0),(6,AV.ptr 3 0 0 0),(12,vb (decide (Sp.sgnI c.num < 0)))],[⟨[ratA f1 f2 a],4,0,false,false⟩,⟨[ratA f3 f4 b],4,0,false,false⟩,⟨[ratA f5 f6 c],4,0,false,false⟩,⟨[zNxC1],12,0,false,false⟩],_,[],_⟩ (by kernel_rfl) (bc rfl b0) q0 (ce (@ev48 (f5) (f6) (c.num) ((↑c.den:Int))) c0) ?_
 rcases xm (Sp.sgnI c.num < 0) with d2 | d2
 ·have H:=H.1 d2
  exact path_rq (G:=given kp42 [] []) 1000 [true] (tu [zNxC1,vi 7]) (by kernel_rfl) (bc (beq_t (i_dec.2 d2)) (bc rfl b0)) q0 c0 H
 ·have H:=H.2 d2
  rcases xm (Sp.rsq c) with d3 | d3
  ·have H:=H.1 d3
   obtain ⟨k4,H⟩:=H
   obtain ⟨k5,H⟩:=H
   obtain ⟨k6,H⟩:=H
   exact path_rq (G:=given kp42 [(3,1,.call (tu [ratA false false (Sp.rt c),vb true]) none),(5,3,.call (ratA false false (b * Sp.rt c)) none),(5,4,.call (ratA false false (a + b * Sp.rt c)) none),(5,5,.call (rootF (a + b * Sp.rt c) (Sp.qi 0) (Sp.qi 0)) none)] []) 1000 [false,true] (tu [rootF (a + b * Sp.rt c) (Sp.qi 0) (Sp.qi 0),vi 0]) (by kernel_rfl) (bc (beq_f (fun h => d2 (i_dec.1 h))) (bc rfl (bc rfl (bc rfl (bc rfl (bc rfl (bc rfl (bc rfl b0)))))))) q0 (ce (@ev90_y (f5) (f6) (c) k4 d3) (ce (@ev50 (f3) (f4) (false) (false) (b) (Sp.rt c) k5) (ce (@ev84 (f1) (f2) (false) (false) (a) (b * Sp.rt c) k6) (ce (@ev91 (false) (false) (a + b * Sp.rt c)) c0)))) H
  ·have H:=H.2 d3
   obtain ⟨k7,H⟩:=H
   exact path_rq (G:=given kp42 [(3,1,.call (tu [ag [vb false,vf [],vb false,vf []],vb false]) none),(6,3,.call (rootF a b (Sp.rad b c)) none)] []) 1000 [false,false] (tu [rootF a b (Sp.rad b c),vi 0]) (by kernel_rfl) (bc (beq_f (fun h => d2 (i_dec.1 h))) (bc rfl (bc rfl (bc rfl (bc rfl (bc rfl (bc rfl (bc rfl b0)))))))) q0 (ce (@ev90_n (f5) (f6) (c) k7 d3) (ce (@ev76 (f1) (f2) (f3) (f4) (f5) (f6) (a) (b) (c)) c0)) H
theorem oScale (f1 f2 f3 f4 f5 f6:Bool) (k l:Bool) (a b c r:Rat)  (dq:AV) (H :
  (Sp.okR a /\ Sp.okR r) /\
  (Sp.okR b /\ Sp.okR r) /\
  Weak (rootF (a * r) (b * r) (Sp.rad (b * r) c)) dq) :
 oScale_at f1 f2 f3 f4 f5 f6 k l a b c r (PureQ dq):=by
 unfold oScale_at
 obtain ⟨k1,H⟩:=H
 obtain ⟨k2,H⟩:=H
 exact path_rq (G:=given kp25 [(1,3,.call (ratA false false (a * r)) none),(1,7,.call (ratA false false (b * r)) none),(1,10,.call (rootF (a * r) (b * r) (Sp.rad (b * r) c)) none)] []) 1000 [] (rootF (a * r) (b * r) (Sp.rad (b * r) c)) (by kernel_rfl) (bc rfl (bc rfl (bc rfl (bc rfl (bc rfl (bc rfl b0)))))) q0 (ce (@ev50 (f1) (f2) (k) (l) (a) (r) k1) (ce (@ev50 (f3) (f4) (k) (l) (b) (r) k2) (ce (@ev76 (false) (false) (false) (false) (f5) (f6) (a * r) (b * r) (c)) c0))) H
noncomputable abbrev zNxC4 (a:Rat) (b:Rat) (c:Rat):=(↑a.den:Int) * (↑a.den:Int) * ((b * b * c).num * (↑(b * b * c).den:Int))
noncomputable abbrev zNxC5 (a:Rat) (b:Rat) (c:Rat):=Sp.flo (a.num * (↑(b * b * c).den:Int) + Sp.sq (zNxC4 a b c)) ((↑a.den:Int) * (↑(b * b * c).den:Int))
noncomputable abbrev zNxC6 (a:Rat) (b:Rat) (c:Rat):=Sp.flr (a.num * (↑(b * b * c).den:Int) + Sp.sq (zNxC4 a b c)) ((↑a.den:Int) * (↑(b * b * c).den:Int))
noncomputable abbrev zNxC7 (b4:Bool) (l4:List (Int)) (b5:Bool) (l5:List (Int)) (n1:Int):=tu [ag [vb b4,vf (us l4)],ag [vb b5,vf (us l5)],vi n1]
noncomputable abbrev zNxC8 (b2:Bool) (l2:List (Int)):=ag [vb b2,vf (us l2)]
noncomputable abbrev zNxC9 (b3:Bool) (l3:List (Int)):=ag [vb b3,vf (us l3)]
theorem oFloor (f1 f2 f3 f4 f5 f6:Bool) (a b c:Rat)  (dq:AV) (H :
  ((Sp.sgnI b.num = 0) -> (Sp.okB a.num /\ Sp.okB (↑a.den:Int)) /\
   Weak (bigA false (Sp.flo a.num (↑a.den:Int))) dq) /\
  (¬(Sp.sgnI b.num = 0) -> (Sp.okR b /\ Sp.okR b) /\
   (Sp.okR (b * b) /\ Sp.okR c) /\
   (Sp.okB (↑a.den:Int) /\ Sp.okB (↑a.den:Int)) /\
   (Sp.okB (b * b * c).num /\ Sp.okB (↑(b * b * c).den:Int)) /\
   (Sp.okB ((↑a.den:Int) * (↑a.den:Int)) /\ Sp.okB ((b * b * c).num * (↑(b * b * c).den:Int))) /\
   (Sp.okS ((↑a.den:Int) * (↑a.den:Int) * ((b * b * c).num * (↑(b * b * c).den:Int)))) /\
   ((Sp.sgnI b.num < 0) -> (Sp.inI 1) /\
    ∃ (b1:Bool) (l1:List (Int)),
    (Ev M1 (Conf.pure 54 [bigA false (Sp.sq ((↑a.den:Int) * (↑a.den:Int) * ((b * b * c).num * (↑(b * b * c).den:Int)))),ag [vb false,vf (us (Sp.limI 1))]]) (ag [vb b1,vf (us l1)]) []) /\
    ∃ (b2:Bool) (l2:List (Int)),
    (Ev M1 (Conf.pure 53 [ag [vb b1,vf (us l1)]]) (ag [vb b2,vf (us l2)]) []) /\
    (Sp.okB a.num /\ Sp.okB (↑(b * b * c).den:Int)) /\
    ∃ (b3:Bool) (l3:List (Int)),
    (Ev M1 (Conf.pure 54 [bigA false (a.num * (↑(b * b * c).den:Int)),ag [vb b2,vf (us l2)]]) (ag [vb b3,vf (us l3)]) []) /\
    (Sp.okB (↑a.den:Int) /\ Sp.okB (↑(b * b * c).den:Int)) /\
    ∃ (b4:Bool) (l4:List (Int)) (b5:Bool) (l5:List (Int)) (n1:Int),
    (Ev M1 (Conf.pure 56 [ag [vb b3,vf (us l3)],bigA false ((↑a.den:Int) * (↑(b * b * c).den:Int))]) (tu [ag [vb b4,vf (us l4)],ag [vb b5,vf (us l5)],vi n1]) []) /\
    Weak (ag [vb b4,vf (us l4)]) dq) /\
   (¬(Sp.sgnI b.num < 0) -> (Sp.okB a.num /\ Sp.okB (↑(b * b * c).den:Int)) /\
    (Sp.okB (a.num * (↑(b * b * c).den:Int)) /\ Sp.okB (Sp.sq ((↑a.den:Int) * (↑a.den:Int) * ((b * b * c).num * (↑(b * b * c).den:Int))))) /\
    (Sp.okB (↑a.den:Int) /\ Sp.okB (↑(b * b * c).den:Int)) /\
    (Sp.okB (a.num * (↑(b * b * c).den:Int) + Sp.sq ((↑a.den:Int) * (↑a.den:Int) * ((b * b * c).num * (↑(b * b * c).den:Int)))) /\ Sp.okB ((↑a.den:Int) * (↑(b * b * c).den:Int)) /\ (↑a.den:Int) * (↑(b * b * c).den:Int) ≠ 0) /\
    Weak (bigA false (Sp.flo (a.num * (↑(b * b * c).den:Int) + Sp.sq ((↑a.den:Int) * (↑a.den:Int) * ((b * b * c).num * (↑(b * b * c).den:Int)))) ((↑a.den:Int) * (↑(b * b * c).den:Int)))) dq))) :
 oFloor_at f1 f2 f3 f4 f5 f6 a b c (PureQ dq):=by
 unfold oFloor_at
 refine path_wp (G:=given kp11 [(1,2,.call (vi (Sp.sgnI b.num)) none)] []) 5 [] ⟨(atC (cd Tryz.f11) [1,0,1]),[(1,AV.ptr 0 0 0 0),(2,AV.ptr 1 0 0 0),(15,vb (Sp.sgnI b.num == 0))],[⟨[rootA f1 f2 f3 f4 f5 f6 a b c],12,0,false,false⟩,⟨[ag [vb false,AV.vnil]],2,0,false,false⟩],_,[],_⟩ (by kernel_rfl) (bc rfl b0) q0 (ce (@ev48 (f3) (f4) (b.num) ((↑b.den:Int))) c0) ?_
 rcases xm (Sp.sgnI b.num = 0) with d2 | d2
 ·have H:=H.1 d2
  obtain ⟨k3,H⟩:=H
  exact path_rq (G:=given kp11 [(2,2,.call (bigA false (Sp.flo a.num (↑a.den:Int))) none)] []) 1000 [true] (bigA false (Sp.flo a.num (↑a.den:Int))) (by kernel_rfl) (bc (beq_t (i_eq.2 d2)) (bc rfl (bc rfl b0))) q0 (ce (@ev49 (f1) (f2) (a) k3) c0) H
 ·have H:=H.2 d2
  obtain ⟨k4,H⟩:=H
  obtain ⟨k5,H⟩:=H
  refine path_wp (G:=given kp11 [(3,4,.call (ratA false false (b * b)) none),(3,7,.call (ratA false false (b * b * c)) none)] [(4,[6008,5007,6006,5005,4004,2002])]) 5 [false] ⟨(atC (cd Tryz.f11) [1,1,1,0]),[(1,AV.ptr 0 0 0 0),(2,AV.ptr 1 0 0 0),(3,AV.ptr 2 0 0 0)],[⟨[rootA f1 f2 f3 f4 f5 f6 a b c],12,0,false,false⟩,⟨[ag [vb false,AV.vnil]],2,0,false,false⟩,⟨[ratA false false (b * b * c)],4,0,false,false⟩],_,[],_⟩ (by kernel_rfl) (bc (beq_f (fun h => d2 (i_eq.1 h))) (bc rfl (bc rfl (bc rfl (bc rfl b0))))) q0 (ce (@ev50 (f3) (f4) (f3) (f4) (b) (b) k4) (ce (@ev50 (false) (false) (f5) (f6) (b * b) (c) k5) c0)) (wp_both (G:=given kp11 [(3,4,.call (ratA false false (b * b)) none),(3,7,.call (ratA false false (b * b * c)) none)] [(4,[6008,5007,6006,5005,4004,2002])]) [0,1,2,4,3] 5 (e1:=[(1,AV.ptr 0 0 0 0),(2,AV.ptr 1 0 0 0),(3,AV.ptr 2 0 0 0),(4,AV.ptr 3 0 0 0),(5,AV.ptr 4 0 0 0)]) (L1:=[⟨[rootA f1 f2 f3 f4 f5 f6 a b c],12,0,false,false⟩,⟨[ag [vb false,AV.vnil]],2,0,false,false⟩,⟨[ratA false false (b * b * c)],4,0,false,false⟩,⟨[bigA f2 (↑a.den:Int)],2,0,false,false⟩,⟨[bigA false (↑(b * b * c).den:Int)],2,0,false,false⟩]) (a:=[true,true,true,true]) (q:=[]) (cs:=[]) (by kernel_rfl) (by kernel_rfl) (allB_cons rfl (allB_cons rfl (allB_cons rfl (allB_cons rfl allB_nil)))) allP_nil allC_nil ?_)
  obtain ⟨k6,H⟩:=H
  obtain ⟨k7,H⟩:=H
  obtain ⟨k8,H⟩:=H
  obtain ⟨k9,H⟩:=H
  refine path_wp (G:=given kp11 [(5,2,.call (bigA false ((↑a.den:Int) * (↑a.den:Int))) none),(5,6,.call (bigA false ((b * b * c).num * (↑(b * b * c).den:Int))) none),(5,7,.call (bigA false (zNxC4 a b c)) none),(6,1,.call (tu [bigA false (Sp.sq (zNxC4 a b c)),vi (Sp.sqe (zNxC4 a b c))]) none),(7,2,.call (vi (Sp.sgnI b.num)) none)] []) 7 [] ⟨(atC (cd Tryz.f11) [1,1,1,1,1,1,0,1]),[(1,AV.ptr 0 0 0 0),(2,AV.ptr 1 0 0 0),(4,AV.ptr 3 0 0 0),(5,AV.ptr 4 0 0 0),(7,AV.ptr 6 0 0 0),(48,vb (decide (Sp.sgnI b.num < 0)))],[⟨[rootA f1 f2 f3 f4 f5 f6 a b c],12,0,false,false⟩,⟨[ag [vb false,AV.vnil]],2,0,false,false⟩,⟨[ratA false false (b * b * c)],4,0,false,false⟩,⟨[bigA f2 (↑a.den:Int)],2,0,false,false⟩,⟨[bigA false (↑(b * b * c).den:Int)],2,0,false,false⟩,⟨[bigA false (zNxC4 a b c)],2,0,false,false⟩,⟨[bigA false (Sp.sq (zNxC4 a b c))],2,0,false,false⟩],_,[],_⟩ (by kernel_rfl) (bc rfl (bc rfl (bc rfl (bc rfl (bc rfl (bc rfl (bc rfl (bc rfl b0)))))))) q0 (ce (@ev51 (f2) (f2) ((↑a.den:Int)) ((↑a.den:Int)) k6) (ce (@ev51 (false) (false) ((b * b * c).num) ((↑(b * b * c).den:Int)) k7) (ce (@ev51 (false) (false) ((↑a.den:Int) * (↑a.den:Int)) ((b * b * c).num * (↑(b * b * c).den:Int)) k8) (ce (@ev52 (false) (zNxC4 a b c) k9) (ce (@ev48 (f3) (f4) (b.num) ((↑b.den:Int))) c0))))) ?_
  rcases xm (Sp.sgnI b.num < 0) with d11 | d11
  ·have H:=H.1 d11
   obtain ⟨k12,H⟩:=H
   obtain ⟨b1,l1,H⟩:=H
   obtain ⟨k13,H⟩:=H
   obtain ⟨b2,l2,H⟩:=H
   obtain ⟨k14,H⟩:=H
   obtain ⟨k15,H⟩:=H
   obtain ⟨b3,l3,H⟩:=H
   obtain ⟨k16,H⟩:=H
   obtain ⟨k17,H⟩:=H
   obtain ⟨b4,l4,b5,l5,n1,H⟩:=H
   obtain ⟨k18,H⟩:=H
   refine path_wp (G:=given kp11 [(8,1,.call (ag [vb false,vf (us (Sp.limI 1))]) none),(8,2,.call (ag [vb b1,vf (us l1)]) none),(8,3,.call ((zNxC8 b2 l2)) none),(9,4,.call (bigA false (a.num * (↑(b * b * c).den:Int))) none),(9,6,.call ((zNxC9 b3 l3)) none),(9,9,.call (bigA false ((↑a.den:Int) * (↑(b * b * c).den:Int))) none),(9,10,.call ((zNxC7 b4 l4 b5 l5 n1)) none)] []) 3 [true] ⟨(atC (cd Tryz.f11) [1,1,1,1,1,1,1,0]),[(1,AV.ptr 0 0 0 0),(2,AV.ptr 1 0 0 0),(4,AV.ptr 3 0 0 0),(5,AV.ptr 4 0 0 0),(7,AV.ptr 6 0 0 0)],[⟨[rootA f1 f2 f3 f4 f5 f6 a b c],12,0,false,false⟩,⟨[ag [vb false,AV.vnil]],2,0,false,false⟩,⟨[ratA false false (b * b * c)],4,0,false,false⟩,⟨[bigA f2 (↑a.den:Int)],2,0,false,false⟩,⟨[bigA false (↑(b * b * c).den:Int)],2,0,false,false⟩,⟨[bigA false (zNxC4 a b c)],2,0,false,false⟩,⟨[(zNxC8 b2 l2)],2,0,false,false⟩],_,[],_⟩ (by kernel_rfl) (bc (beq_t (i_dec.2 d11)) (bc rfl (bc rfl b0))) q0 (ce (@ev55 (1) k12) (ce k13 (ce k14 c0))) (wp_both (G:=given kp11 [(8,1,.call (ag [vb false,vf (us (Sp.limI 1))]) none),(8,2,.call (ag [vb b1,vf (us l1)]) none),(8,3,.call ((zNxC8 b2 l2)) none),(9,4,.call (bigA false (a.num * (↑(b * b * c).den:Int))) none),(9,6,.call ((zNxC9 b3 l3)) none),(9,9,.call (bigA false ((↑a.den:Int) * (↑(b * b * c).den:Int))) none),(9,10,.call ((zNxC7 b4 l4 b5 l5 n1)) none)] []) [0,1,2,3,4,5,6,8,7] 15 (e1:=[(2,AV.ptr 1 0 0 0),(9,AV.ptr 7 0 0 0)]) (L1:=[⟨[rootA f1 f2 f3 f4 f5 f6 a b c],12,0,false,false⟩,⟨[ag [vb false,AV.vnil]],2,0,false,false⟩,⟨[ratA false false (b * b * c)],4,0,false,false⟩,⟨[bigA f2 (↑a.den:Int)],2,0,false,false⟩,⟨[bigA false (↑(b * b * c).den:Int)],2,0,false,false⟩,⟨[bigA false (zNxC4 a b c)],2,0,false,false⟩,⟨[(zNxC8 b2 l2)],2,0,false,false⟩,⟨[ag [vb b4,vf (us l4)]],2,0,false,false⟩,⟨[ag [vb b5,vf (us l5)]],2,0,false,false⟩]) (a:=[true,true,true,true,true,true,true]) (q:=[]) (cs:=[⟨true,false,51,[bigA f1 a.num,bigA false (↑(b * b * c).den:Int)],[],bigA false (a.num * (↑(b * b * c).den:Int)),[]⟩,⟨true,false,54,[bigA false (a.num * (↑(b * b * c).den:Int)),(zNxC8 b2 l2)],[],(zNxC9 b3 l3),[]⟩,⟨true,false,51,[bigA f2 (↑a.den:Int),bigA false (↑(b * b * c).den:Int)],[],bigA false ((↑a.den:Int) * (↑(b * b * c).den:Int)),[]⟩,⟨true,false,56,[(zNxC9 b3 l3),bigA false ((↑a.den:Int) * (↑(b * b * c).den:Int))],[],(zNxC7 b4 l4 b5 l5 n1),[]⟩]) (by kernel_rfl) (by kernel_rfl) (allB_cons rfl (allB_cons rfl (allB_cons rfl (allB_cons rfl (allB_cons rfl (allB_cons rfl (allB_cons rfl allB_nil))))))) allP_nil (allC_cons (fun _ => (@ev51 (f1) (false) (a.num) ((↑(b * b * c).den:Int)) k15)) (allC_cons (fun _ => k16) (allC_cons (fun _ => (@ev51 (f2) (false) ((↑a.den:Int)) ((↑(b * b * c).den:Int)) k17)) (allC_cons (fun _ => k18) allC_nil)))) ?_)
   exact path_rq (G:=given kp11 [] []) 1000 [] (ag [vb b4,vf (us l4)]) (by kernel_rfl) (bc rfl (bc rfl b0)) q0 c0 H
  ·have H:=H.2 d11
   obtain ⟨k19,H⟩:=H
   obtain ⟨k20,H⟩:=H
   obtain ⟨k21,H⟩:=H
   obtain ⟨k22,H⟩:=H
   refine path_wp (G:=given kp11 [(9,4,.call (bigA false (a.num * (↑(b * b * c).den:Int))) none),(9,6,.call (bigA false (a.num * (↑(b * b * c).den:Int) + Sp.sq (zNxC4 a b c))) none),(9,9,.call (bigA false ((↑a.den:Int) * (↑(b * b * c).den:Int))) none),(9,10,.call (tu [bigA false (zNxC5 a b c),bigA false (zNxC6 a b c),vi 0]) none)] []) 3 [false] ⟨(atC (cd Tryz.f11) [1,1,1,1,1,1,1,0]),[(1,AV.ptr 0 0 0 0),(2,AV.ptr 1 0 0 0),(4,AV.ptr 3 0 0 0),(5,AV.ptr 4 0 0 0),(7,AV.ptr 6 0 0 0),(48,vb (decide (Sp.sgnI b.num < 0)))],[⟨[rootA f1 f2 f3 f4 f5 f6 a b c],12,0,false,false⟩,⟨[ag [vb false,AV.vnil]],2,0,false,false⟩,⟨[ratA false false (b * b * c)],4,0,false,false⟩,⟨[bigA f2 (↑a.den:Int)],2,0,false,false⟩,⟨[bigA false (↑(b * b * c).den:Int)],2,0,false,false⟩,⟨[bigA false (zNxC4 a b c)],2,0,false,false⟩,⟨[bigA false (Sp.sq (zNxC4 a b c))],2,0,false,false⟩],_,[],_⟩ (by kernel_rfl) (bc (beq_f (fun h => d11 (i_dec.1 h))) b0) q0 c0 (wp_both (G:=given kp11 [(9,4,.call (bigA false (a.num * (↑(b * b * c).den:Int))) none),(9,6,.call (bigA false (a.num * (↑(b * b * c).den:Int) + Sp.sq (zNxC4 a b c))) none),(9,9,.call (bigA false ((↑a.den:Int) * (↑(b * b * c).den:Int))) none),(9,10,.call (tu [bigA false (zNxC5 a b c),bigA false (zNxC6 a b c),vi 0]) none)] []) [0,1,2,3,4,5,6,8,7] 15 (e1:=[(2,AV.ptr 1 0 0 0),(9,AV.ptr 7 0 0 0)]) (L1:=[⟨[rootA f1 f2 f3 f4 f5 f6 a b c],12,0,false,false⟩,⟨[ag [vb false,AV.vnil]],2,0,false,false⟩,⟨[ratA false false (b * b * c)],4,0,false,false⟩,⟨[bigA f2 (↑a.den:Int)],2,0,false,false⟩,⟨[bigA false (↑(b * b * c).den:Int)],2,0,false,false⟩,⟨[bigA false (zNxC4 a b c)],2,0,false,false⟩,⟨[bigA false (Sp.sq (zNxC4 a b c))],2,0,false,false⟩,⟨[bigA false (zNxC5 a b c)],2,0,false,false⟩,⟨[bigA false (zNxC6 a b c)],2,0,false,false⟩]) (a:=[true,true,true,true,true,true,true]) (q:=[]) (cs:=[⟨true,false,51,[bigA f1 a.num,bigA false (↑(b * b * c).den:Int)],[],bigA false (a.num * (↑(b * b * c).den:Int)),[]⟩,⟨true,false,54,[bigA false (a.num * (↑(b * b * c).den:Int)),bigA false (Sp.sq (zNxC4 a b c))],[],bigA false (a.num * (↑(b * b * c).den:Int) + Sp.sq (zNxC4 a b c)),[]⟩,⟨true,false,51,[bigA f2 (↑a.den:Int),bigA false (↑(b * b * c).den:Int)],[],bigA false ((↑a.den:Int) * (↑(b * b * c).den:Int)),[]⟩,⟨true,false,56,[bigA false (a.num * (↑(b * b * c).den:Int) + Sp.sq (zNxC4 a b c)),bigA false ((↑a.den:Int) * (↑(b * b * c).den:Int))],[],tu [bigA false (zNxC5 a b c),bigA false (zNxC6 a b c),vi 0],[]⟩]) (by kernel_rfl) (by kernel_rfl) (allB_cons rfl (allB_cons rfl (allB_cons rfl (allB_cons rfl (allB_cons rfl (allB_cons rfl (allB_cons rfl allB_nil))))))) allP_nil (allC_cons (fun _ => (@ev51 (f1) (false) (a.num) ((↑(b * b * c).den:Int)) k19)) (allC_cons (fun _ => (@ev54 (false) (false) (a.num * (↑(b * b * c).den:Int)) (Sp.sq (zNxC4 a b c)) k20)) (allC_cons (fun _ => (@ev51 (f2) (false) ((↑a.den:Int)) ((↑(b * b * c).den:Int)) k21)) (allC_cons (fun _ => (@ev56 (false) (false) (a.num * (↑(b * b * c).den:Int) + Sp.sq (zNxC4 a b c)) ((↑a.den:Int) * (↑(b * b * c).den:Int)) k22)) allC_nil)))) ?_)
   exact path_rq (G:=given kp11 [] []) 1000 [] (bigA false (zNxC5 a b c)) (by kernel_rfl) (bc rfl (bc rfl b0)) q0 c0 H
end Go.Av

namespace Go.Av
open Go.Proofs
abbrev noO:AV:=.agg [.bool false,.vec false 1 [],.bool false,.vec false 1 [],.bool false,.vec false 1 [],.bool false,.vec false 1 [],.bool false,.vec false 1 [],.bool false,.vec false 1 []]
theorem weak_vnil1:Weak .vnil (.vec false 1 []):=by
 have:=weak_bnil false
 cases this with
 | agg xs ys hl h => exact h 1 _ _ rfl rfl
theorem weak_no:Weak (.agg [.bool false,.vnil,.bool false,.vnil,.bool false,.vnil,.bool false,.vnil,.bool false,.vnil,.bool false,.vnil]) noO:=by
 refine .agg _ _ rfl fun i x y hx hy => ?_
 match i with
 | 0 => simp at hx hy;subst hx;subst hy;exact .refl _
 | 1 => simp at hx hy;subst hx;subst hy;exact weak_vnil1
 | 2 => simp at hx hy;subst hx;subst hy;exact .refl _
 | 3 => simp at hx hy;subst hx;subst hy;exact weak_vnil1
 | 4 => simp at hx hy;subst hx;subst hy;exact .refl _
 | 5 => simp at hx hy;subst hx;subst hy;exact weak_vnil1
 | 6 => simp at hx hy;subst hx;subst hy;exact .refl _
 | 7 => simp at hx hy;subst hx;subst hy;exact weak_vnil1
 | 8 => simp at hx hy;subst hx;subst hy;exact .refl _
 | 9 => simp at hx hy;subst hx;subst hy;exact weak_vnil1
 | 10 => simp at hx hy;subst hx;subst hy;exact .refl _
 | 11 => simp at hx hy;subst hx;subst hy;exact weak_vnil1
 | i + 12 => simp at hx
namespace Sp
def isNN (c:Rat):Prop:=0 <= c.num
open Classical in
noncomputable def mkA (a b c:Rat):Rat:=if rsq c then a + b * rt c else a
open Classical in
noncomputable def mkB (b c:Rat):Rat:=if rsq c then qi 0 else b
open Classical in
noncomputable def mkC (b c:Rat):Rat:=if rsq c then qi 0 else rad b c
open Classical in
noncomputable def vroot (b c:Rat):Bool:=if b = 0 then decide (c = 0) else decide (0 < c.num /\ ¬rsq c)
end Sp
theorem vroot_t {b c:Rat} (hb:¬b = 0) (h:0 < c.num /\ ¬Sp.rsq c):Sp.vroot b c = true:=by
 unfold Sp.vroot;rw [if_neg hb];simp only [decide_eq_true_eq];exact h
theorem vroot_f {b c:Rat} (hb:¬b = 0) (h:¬(0 < c.num /\ ¬Sp.rsq c)):Sp.vroot b c = false:=by
 unfold Sp.vroot;rw [if_neg hb];simp only [decide_eq_false_iff_not];exact h
theorem nn_sgn {c:Rat}:Sp.sgnI c.num < 0 ↔ ¬Sp.isNN c:=by
 rw [sgnI_lt];unfold Sp.isNN;omega
theorem ev42_y (f1 f2 f3 f4 f5 f6:Bool) (a b c:Rat) (h:Sp.okO a b c) (k:Sp.isNN c):Ev M1 (.pure 42 [ratA f1 f2 a,ratA f3 f4 b,ratA f5 f6 c]) (.tup [rootF (Sp.mkA a b c) (Sp.mkB b c) (Sp.mkC b c),.int .i64 0]) []:=by
 obtain ⟨ha,hb,hc⟩:=h
 refine call42 (oMake _ _ _ _ _ _ _ _ _ _ ⟨fun x => absurd k (nn_sgn.1 x),fun _ => ⟨fun s => ?_,fun s => ?_⟩⟩)
 ·have hr:=okT_rt s hc
  have hm:=okT_mul hb hr
  refine ⟨okT_R hc (by omega),⟨okT_R hb (by omega),okT_R hr (by omega)⟩,⟨okT_R ha (by omega),okT_R hm (by omega)⟩,?_⟩
  rw [show Sp.mkA a b c = a + b * Sp.rt c from if_pos s,show Sp.mkB b c = Sp.qi 0 from if_pos s,show Sp.mkC b c = Sp.qi 0 from if_pos s]
  exact .refl _
 ·refine ⟨okT_R hc (by omega),?_⟩
  rw [show Sp.mkA a b c = a from if_neg s,show Sp.mkB b c = b from if_neg s,show Sp.mkC b c = Sp.rad b c from if_neg s]
  exact .refl _
theorem ev42_n (f1 f2 f3 f4 f5 f6:Bool) (a b c:Rat) (h:Sp.okO a b c) (k:¬(Sp.isNN c)):Ev M1 (.pure 42 [ratA f1 f2 a,ratA f3 f4 b,ratA f5 f6 c]) (.tup [noO,.int .i64 7]) []:=
 call42 (oMake _ _ _ _ _ _ _ _ _ _ ⟨fun _ => weak_two weak_no (.refl _),fun x => absurd (nn_sgn.2 k) x⟩)
theorem valB_rat (r:Rat):Sp.valB (Sp.isNeg r.num) (Sp.limI r.num) (Sp.isNeg (r.den:Int)) (Sp.limI (r.den:Int)) = true:=valB_true.2 (valR_rat r)
theorem okA_rat {r:Rat} {k:Nat} (h:Sp.okT k r) (hk:k <= 90000):Sp.okA (Sp.limI r.num) (Sp.limI (r.den:Int)):=by
 obtain ⟨h1,h2⟩:=h
 refine ⟨⟨?_,fun x hx => (lim_ok _ x hx).1⟩,⟨?_,fun x hx => (lim_ok _ x hx).1⟩⟩
 ·rw [limI_len];omega
 ·rw [limI_len,Int.natAbs_natCast];omega
theorem ev25 (f1 f2 f3 f4 f5 f6 l1 l2:Bool) (a b c r:Rat) (h:Sp.okP a b /\ Sp.okR r):Ev M1 (.pure 25 [rootA f1 f2 f3 f4 f5 f6 a b c,ratA l1 l2 r]) (rootF (a * r) (b * r) (Sp.rad (b * r) c)) []:=by
 obtain ⟨⟨h1,h2⟩,h3⟩:=h
 exact call25 (oScale _ _ _ _ _ _ _ _ _ _ _ _ _ ⟨⟨okT_R h1 (by omega),h3⟩,⟨okT_R h2 (by omega),h3⟩,.refl _⟩)
noncomputable def Sp.flW (a b c:Rat):Int:=Sp.sq ((a.den:Int) * (a.den:Int) * ((b * b * c).num * ((b * b * c).den:Int)))
noncomputable def Sp.fl (a b c:Rat):Int:=if b = 0 then Sp.flo a.num (a.den:Int) else Sp.flo (a.num * ((b * b * c).den:Int) + (if b.num < 0 then -(Sp.flW a b c + 1) else Sp.flW a b c)) ((a.den:Int) * ((b * b * c).den:Int))
theorem cnt_sqI {v:Int} {n:Nat} (h:Sp.cnt v.natAbs <= n):Sp.cnt (Sp.sq v).natAbs <= n:=by
 by_cases k:0 <= v
 ·exact Nat.le_trans (cnt_mono (sq_le k).2) h
 ·unfold Sp.sq
  rw [if_pos (by omega)]
  exact Nat.le_trans (Nat.le_of_eq cnt_zero) (Nat.zero_le _)
theorem cnt_one:Sp.cnt (1:Int).natAbs <= 1:=by
 have:=cnt_small (n:=(1:Int).natAbs) (by decide);omega
theorem ev11 (f1 f2 f3 f4 f5 f6:Bool) (a b c:Rat) (h:Sp.okO a b c):Ev M1 (.pure 11 [rootA f1 f2 f3 f4 f5 f6 a b c]) (bigA false (Sp.fl a b c)) []:=by
 obtain ⟨ha,hb,hc⟩:=h
 have bb:=okT_mul hb hb
 have bbc:=okT_mul bb hc
 obtain ⟨a1,a2⟩:=ha
 obtain ⟨s1,s2⟩:=bbc
 have a2':=cnt_den a2
 have s2':=cnt_den s2
 have m1:=cnt_mulI a2' a2'
 have m2:=cnt_mulI s1 s2'
 have m3:=cnt_mulI m1 m2
 have w:=cnt_sqI m3
 have m4:=cnt_mulI a1 s2'
 have m5:=cnt_mulI a2' s2'
 have hden:(a.den:Int) * ((b * b * c).den:Int) ≠ 0:=Int.mul_ne_zero (den_ne a) (den_ne _)
 refine call11 (oFloor _ _ _ _ _ _ _ _ _ _ ⟨fun k => ⟨⟨by unfold Sp.okB;omega,by unfold Sp.okB;omega⟩,?_⟩,fun k => ?_⟩)
 ·unfold Sp.fl;rw [if_pos (sgn_num.1 k)];exact .refl _
 ·refine ⟨⟨okT_R hb (by omega),okT_R hb (by omega)⟩,⟨okT_R bb (by omega),okT_R hc (by omega)⟩,⟨by unfold Sp.okB;omega,by unfold Sp.okB;omega⟩,⟨by unfold Sp.okB;omega,by unfold Sp.okB;omega⟩,⟨by unfold Sp.okB;omega,by unfold Sp.okB;omega⟩,by unfold Sp.okS;omega,fun k2 => ?_,fun k2 => ?_⟩
  ·rw [sgnI_lt] at k2
   have e:Sp.fl a b c = Sp.flo (a.num * ((b * b * c).den:Int) + -(Sp.flW a b c + 1)) ((a.den:Int) * ((b * b * c).den:Int)):=by
    unfold Sp.fl;rw [if_neg fun e => k (sgn_num.2 e),if_pos k2]
   have w1:=cnt_addI w (Nat.le_trans cnt_one (by omega))
   have w2:Sp.cnt (-(Sp.sq ((a.den:Int) * (a.den:Int) * ((b * b * c).num * ((b * b * c).den:Int))) + 1)).natAbs <= 9000 + 9000 + (9000 + 9000 + 9000 + (9000 + 9000 + 9000)) + 1:=by rw [Int.natAbs_neg];exact w1
   have w3:=cnt_addI (Nat.le_trans m4 (by omega)) w2
   rw [e]
   unfold Sp.flW
   refine ⟨by unfold Sp.inI;omega,_,_,ev54 _ _ _ 1 ⟨by unfold Sp.okB;omega,by unfold Sp.okB;have:=cnt_one;omega⟩,_,_,ev53 _ _ ?_,⟨by unfold Sp.okB;omega,by unfold Sp.okB;omega⟩,_,_,ev54 _ _ _ _ ⟨by unfold Sp.okB;omega,?_⟩,⟨by unfold Sp.okB;omega,by unfold Sp.okB;omega⟩,_,_,_,_,_,ev56 _ _ _ _ ⟨?_,by unfold Sp.okB;omega,hden⟩,.refl _⟩
   ·unfold Sp.okB;omega
   ·unfold Sp.okB;omega
   ·unfold Sp.okB;omega
  ·rw [sgnI_lt] at k2
   have e:Sp.fl a b c = Sp.flo (a.num * ((b * b * c).den:Int) + Sp.flW a b c) ((a.den:Int) * ((b * b * c).den:Int)):=by
    unfold Sp.fl;rw [if_neg fun e => k (sgn_num.2 e),if_neg k2]
   have w3:=cnt_addI (Nat.le_trans m4 (by omega)) w
   rw [e]
   unfold Sp.flW
   exact ⟨⟨by unfold Sp.okB;omega,by unfold Sp.okB;omega⟩,⟨by unfold Sp.okB;omega,by unfold Sp.okB;omega⟩,⟨by unfold Sp.okB;omega,by unfold Sp.okB;omega⟩,⟨by unfold Sp.okB;omega,by unfold Sp.okB;omega,hden⟩,.refl _⟩
end Go.Av

namespace Go.Av
open Go.Proofs
noncomputable def Sp.prB (b c:Rat):Rat:=if b = 0 \/ c = 0 then Sp.qi 0 else b
noncomputable def Sp.prC (b c:Rat):Rat:=if b = 0 \/ c = 0 then Sp.qi 0 else c
theorem qi_zero:Sp.qi 0 = 0:=by rw [qi_eq];rfl
theorem ev77 (f1 f2 f3 f4 f5 f6:Bool) (a b c:Rat):Ev M1 (.pure 77 [ratA f1 f2 a,ratA f3 f4 b,ratA f5 f6 c]) (rootF a (Sp.prB b c) (Sp.prC b c)) []:=by
 refine call77 (pRed _ _ _ _ _ _ _ _ _ _ ⟨fun k => ?_,fun k => ?_⟩)
 ·have k:b = 0 \/ c = 0:=k.imp sgn_num.1 sgn_num.1
  rw [show Sp.prB b c = Sp.qi 0 from if_pos k,show Sp.prC b c = Sp.qi 0 from if_pos k];exact weak_root a (Sp.qi 0) (Sp.qi 0)
 ·have k:¬(b = 0 \/ c = 0):=fun e => k (e.imp sgn_num.2 sgn_num.2)
  rw [show Sp.prB b c = b from if_neg k,show Sp.prC b c = c from if_neg k];exact weak_root a b c
theorem ev41 (n:Int) (h:Sp.inI n):Ev M1 (.pure 41 [.int .i64 n]) (rootF (Sp.qi n) (Sp.qi 0) (Sp.qi 0)) []:=
 call41 (pInt _ _ ⟨h,.refl _⟩)
end Go.Av

namespace Go.Av
open Go.Proofs
set_option maxRecDepth 100000
def fi39:Fi:=⟨31,[.cell 2 28,.tmp 3]⟩
def kp39:List (Nat × List Nat):=[(0,[1,2]),(1,[1,2,8]),(2,[2,3]),(3,[1,2,4,5]),(4,[1,2,4,5,18]),(5,[2,3]),(6,[2,3])]
def fi46:Fi:=⟨9,[.tmp 4]⟩
def kp46:List (Nat × List Nat):=[(0,[1,2]),(1,[4])]
def fi92:Fi:=⟨30,[.cell 6 28,.tmp 7]⟩
def kp92:List (Nat × List Nat):=[(0,[3,4,5,6]),(1,[3,4,5,6,12]),(2,[6,7]),(3,[3,4,5,6,8,9]),(4,[3,4,5,6,8,19]),(5,[6,7]),(6,[6,7])]
def fi93:Fi:=⟨55,[.tmp 2]⟩
def kp93:List (Nat × List Nat):=[(0,[1]),(1,[1,20]),(2,[2]),(3,[1,30]),(4,[2]),(5,[1,4]),(6,[2])]
def oInv_at (f1 f2 f3 f4 f5 f6:Bool) (a b c:Rat) (Q:AV -> Heap -> Prop):Prop:=Wp M1 (.run fi39 (atC (cd Tryz.f39) []) [(0,rootA f1 f2 f3 f4 f5 f6 a b c)] []) Q
def pMake_at (f1 f2 f3 f4 f5 f6:Bool) (a b c:Rat) (Q:AV -> Heap -> Prop):Prop:=Wp M1 (.run fi92 (atC (cd Tryz.f92) []) [(0,ratA f1 f2 a),(1,ratA f3 f4 b),(2,ratA f5 f6 c)] []) Q
def pValid_at (f1 f2 f3 f4 f5 f6:Bool) (a b c:Rat) (Q:AV -> Heap -> Prop):Prop:=Wp M1 (.run fi93 (atC (cd Tryz.f93) []) [(0,rootA f1 f2 f3 f4 f5 f6 a b c)] []) Q
def lInt_at (fa:Bool) (a n:Int) (Q:AV -> Heap -> Prop):Prop:=Wp M1 (.run fi46 (atC (cd Tryz.f46) []) [(0,bigA fa a),(1,.int .i64 n)] []) Q
theorem call39 {args:List AV} {d:AV} (h:wc M1 fi39 Tryz.f39 args d):Ev M1 (.pure 39 args) d []:=pcl _ _ (by kernel_rfl) h
theorem call46 {args:List AV} {d:AV} (h:wc M1 fi46 Tryz.f46 args d):Ev M1 (.pure 46 args) d []:=pcl _ _ (by kernel_rfl) h
theorem call92 {args:List AV} {d:AV} (h:wc M1 fi92 Tryz.f92 args d):Ev M1 (.pure 92 args) d []:=pcl _ _ (by kernel_rfl) h
theorem call93 {args:List AV} {d:AV} (h:wc M1 fi93 Tryz.f93 args d):Ev M1 (.pure 93 args) d []:=pcl _ _ (by kernel_rfl) h
noncomputable abbrev zNxD1:=ag [vb false,AV.vnil,vb false,AV.vnil,vb false,AV.vnil,vb false,AV.vnil,vb false,AV.vnil,vb false,AV.vnil]
theorem oInv (f1 f2 f3 f4 f5 f6:Bool) (a b c:Rat)  (dq:AV) (H :
  (Sp.okO a b c) /\
  ((Sp.sgO a b c = 0) -> Weak (tu [ag [vb false,AV.vnil,vb false,AV.vnil,vb false,AV.vnil,vb false,AV.vnil,vb false,AV.vnil,vb false,AV.vnil],vi 6]) dq) /\
  (¬(Sp.sgO a b c = 0) -> (Sp.inI 1) /\
   (Sp.okR (Sp.qi 1) /\ Sp.okR (a * a - b * b * c) /\ (a * a - b * b * c).num ≠ 0) /\
   (Sp.okB b.num) /\
   (Sp.okP a (-b) /\ Sp.okR (Sp.qi 1 / (a * a - b * b * c))) /\
   Weak (tu [rootF (a * (Sp.qi 1 / (a * a - b * b * c))) (-b * (Sp.qi 1 / (a * a - b * b * c))) (Sp.rad (-b * (Sp.qi 1 / (a * a - b * b * c))) c),vi 0]) dq)) :
 oInv_at f1 f2 f3 f4 f5 f6 a b c (PureQ dq):=by
 unfold oInv_at
 obtain ⟨k1,H⟩:=H
 refine path_wp (G:=given kp39 [(1,1,.call (vi (Sp.sgO a b c)) none)] []) 5 [] ⟨(atC (cd Tryz.f39) [1,0,1]),[(1,AV.ptr 0 0 0 0),(2,AV.ptr 1 0 0 0),(8,vb (Sp.sgO a b c == 0))],[⟨[rootA f1 f2 f3 f4 f5 f6 a b c],12,0,false,false⟩,⟨[zNxD1],12,0,false,false⟩],_,[],_⟩ (by kernel_rfl) (bc rfl b0) q0 (ce (@ev20 (f1) (f2) (f3) (f4) (f5) (f6) (a) (b) (c) k1) c0) ?_
 rcases xm (Sp.sgO a b c = 0) with d3 | d3
 ·have H:=H.1 d3
  exact path_rq (G:=given kp39 [] []) 1000 [true] (tu [zNxD1,vi 6]) (by kernel_rfl) (bc (beq_t (i_eq.2 d3)) (bc rfl b0)) q0 c0 H
 ·have H:=H.2 d3
  obtain ⟨k4,H⟩:=H
  obtain ⟨k5,H⟩:=H
  obtain ⟨k6,H⟩:=H
  obtain ⟨k7,H⟩:=H
  exact path_rq (G:=given kp39 [(3,0,.call (ratA false false (Sp.qi 1)) none),(3,2,.call (ratA false false (a * a - b * b * c)) none),(3,3,.call (tu [ratA false false (Sp.qi 1 / (a * a - b * b * c)),vi 0]) none),(6,4,.call (ratA false false (-b)) none),(6,9,.call (rootF (a * (Sp.qi 1 / (a * a - b * b * c))) (-b * (Sp.qi 1 / (a * a - b * b * c))) (Sp.rad (-b * (Sp.qi 1 / (a * a - b * b * c))) c)) none)] []) 1000 [false,false] (tu [rootF (a * (Sp.qi 1 / (a * a - b * b * c))) (-b * (Sp.qi 1 / (a * a - b * b * c))) (Sp.rad (-b * (Sp.qi 1 / (a * a - b * b * c))) c),vi 0]) (by kernel_rfl) (bc (beq_f (fun h => d3 (i_eq.1 h))) (bc rfl (bc rfl (bc rfl (bc rfl (bc rfl (bc rfl (bc rfl (bc rfl b0))))))))) q0 (ce (@ev87 (1) k4) (ce (@ev72 (f1) (f2) (f3) (f4) (f5) (f6) (a) (b) (c) k1) (ce (@ev86 (false) (false) (false) (false) (Sp.qi 1) (a * a - b * b * c) k5) (ce (@ev75 (f3) (f4) (b) k6) (ce (@ev25 (f1) (f2) (false) (false) (f5) (f6) (false) (false) (a) (-b) (c) (Sp.qi 1 / (a * a - b * b * c)) k7) c0))))) H
noncomputable abbrev zNxD2:=ag [vb false,AV.vnil,vb false,AV.vnil,vb false,AV.vnil,vb false,AV.vnil,vb false,AV.vnil,vb false,AV.vnil]
theorem pMake (f1 f2 f3 f4 f5 f6:Bool) (a b c:Rat)  (dq:AV) (H :
  ((Sp.sgnI c.num < 0) -> Weak (tu [ag [vb false,AV.vnil,vb false,AV.vnil,vb false,AV.vnil,vb false,AV.vnil,vb false,AV.vnil,vb false,AV.vnil],vi 7]) dq) /\
  (¬(Sp.sgnI c.num < 0) -> ((Sp.rsq c) -> (Sp.okR c) /\
    (Sp.okR b /\ Sp.okR (Sp.rt c)) /\
    (Sp.okR a /\ Sp.okR (b * Sp.rt c)) /\
    Weak (tu [rootF (a + b * Sp.rt c) (Sp.qi 0) (Sp.qi 0),vi 0]) dq) /\
   (¬(Sp.rsq c) -> (Sp.okR c) /\
    Weak (tu [rootF a (Sp.prB b c) (Sp.prC b c),vi 0]) dq))) :
 pMake_at f1 f2 f3 f4 f5 f6 a b c (PureQ dq):=by
 unfold pMake_at
 refine path_wp (G:=given kp92 [(1,1,.call (vi (Sp.sgnI c.num)) none)] []) 5 [] ⟨(atC (cd Tryz.f92) [1,0,1]),[(3,AV.ptr 0 0 0 0),(4,AV.ptr 1 0 0 0),(5,AV.ptr 2 0 0 0),(6,AV.ptr 3 0 0 0),(12,vb (decide (Sp.sgnI c.num < 0)))],[⟨[ratA f1 f2 a],4,0,false,false⟩,⟨[ratA f3 f4 b],4,0,false,false⟩,⟨[ratA f5 f6 c],4,0,false,false⟩,⟨[zNxD2],12,0,false,false⟩],_,[],_⟩ (by kernel_rfl) (bc rfl b0) q0 (ce (@ev27 (f5) (f6) (c.num) ((↑c.den:Int))) c0) ?_
 rcases xm (Sp.sgnI c.num < 0) with d2 | d2
 ·have H:=H.1 d2
  exact path_rq (G:=given kp92 [] []) 1000 [true] (tu [zNxD2,vi 7]) (by kernel_rfl) (bc (beq_t (i_dec.2 d2)) (bc rfl b0)) q0 c0 H
 ·have H:=H.2 d2
  rcases xm (Sp.rsq c) with d3 | d3
  ·have H:=H.1 d3
   obtain ⟨k4,H⟩:=H
   obtain ⟨k5,H⟩:=H
   obtain ⟨k6,H⟩:=H
   exact path_rq (G:=given kp92 [(3,1,.call (tu [ratA false false (Sp.rt c),vb true]) none),(5,3,.call (ratA false false (b * Sp.rt c)) none),(5,4,.call (ratA false false (a + b * Sp.rt c)) none),(5,5,.call (rootF (a + b * Sp.rt c) (Sp.qi 0) (Sp.qi 0)) none)] []) 1000 [false,true] (tu [rootF (a + b * Sp.rt c) (Sp.qi 0) (Sp.qi 0),vi 0]) (by kernel_rfl) (bc (beq_f (fun h => d2 (i_dec.1 h))) (bc rfl (bc rfl (bc rfl (bc rfl (bc rfl (bc rfl (bc rfl b0)))))))) q0 (ce (@ev118_y (f5) (f6) (c) k4 d3) (ce (@ev32 (f3) (f4) (false) (false) (b) (Sp.rt c) k5) (ce (@ev17 (f1) (f2) (false) (false) (a) (b * Sp.rt c) k6) (ce (@ev89 (false) (false) (a + b * Sp.rt c)) c0)))) H
  ·have H:=H.2 d3
   obtain ⟨k7,H⟩:=H
   exact path_rq (G:=given kp92 [(3,1,.call (tu [ag [vb false,vf [],vb false,vf []],vb false]) none),(6,3,.call (rootF a (Sp.prB b c) (Sp.prC b c)) none)] []) 1000 [false,false] (tu [rootF a (Sp.prB b c) (Sp.prC b c),vi 0]) (by kernel_rfl) (bc (beq_f (fun h => d2 (i_dec.1 h))) (bc rfl (bc rfl (bc rfl (bc rfl (bc rfl (bc rfl (bc rfl b0)))))))) q0 (ce (@ev118_n (f5) (f6) (c) k7 d3) (ce (@ev77 (f1) (f2) (f3) (f4) (f5) (f6) (a) (b) (c)) c0)) H
noncomputable abbrev zNxD3 (a:Rat) (b:Rat) (c:Rat):=bif bif !Sp.valB (Sp.isNeg a.num) (Sp.limI a.num) (Sp.isNeg (↑a.den:Int)) (Sp.limI (↑a.den:Int)) then true else !Sp.valB (Sp.isNeg b.num) (Sp.limI b.num) (Sp.isNeg (↑b.den:Int)) (Sp.limI (↑b.den:Int)) then true else !Sp.valB (Sp.isNeg c.num) (Sp.limI c.num) (Sp.isNeg (↑c.den:Int)) (Sp.limI (↑c.den:Int))
noncomputable abbrev zNxD4 (a:Rat) (b:Rat):=bif !Sp.valB (Sp.isNeg a.num) (Sp.limI a.num) (Sp.isNeg (↑a.den:Int)) (Sp.limI (↑a.den:Int)) then true else !Sp.valB (Sp.isNeg b.num) (Sp.limI b.num) (Sp.isNeg (↑b.den:Int)) (Sp.limI (↑b.den:Int))
noncomputable abbrev zNxD5 (b:Rat):=Sp.valB (Sp.isNeg b.num) (Sp.limI b.num) (Sp.isNeg (↑b.den:Int)) (Sp.limI (↑b.den:Int))
noncomputable abbrev zNxD6 (c:Rat):=Sp.valB (Sp.isNeg c.num) (Sp.limI c.num) (Sp.isNeg (↑c.den:Int)) (Sp.limI (↑c.den:Int))
theorem pValid (f1 f2 f3 f4 f5 f6:Bool) (a b c:Rat)  (dq:AV) (H :
  (Sp.okA (Sp.limI a.num) (Sp.limI (↑a.den:Int))) /\
  ((¬(¬(Sp.valB (Sp.isNeg a.num) (Sp.limI a.num) (Sp.isNeg (↑a.den:Int)) (Sp.limI (↑a.den:Int)) = true))) -> (Sp.okA (Sp.limI b.num) (Sp.limI (↑b.den:Int)))) /\
  ((¬((¬(Sp.valB (Sp.isNeg a.num) (Sp.limI a.num) (Sp.isNeg (↑a.den:Int)) (Sp.limI (↑a.den:Int)) = true)) \/ (¬(Sp.valB (Sp.isNeg b.num) (Sp.limI b.num) (Sp.isNeg (↑b.den:Int)) (Sp.limI (↑b.den:Int)) = true)))) -> (Sp.okA (Sp.limI c.num) (Sp.limI (↑c.den:Int)))) /\
  ((((¬(Sp.valB (Sp.isNeg a.num) (Sp.limI a.num) (Sp.isNeg (↑a.den:Int)) (Sp.limI (↑a.den:Int)) = true)) \/ (¬(Sp.valB (Sp.isNeg b.num) (Sp.limI b.num) (Sp.isNeg (↑b.den:Int)) (Sp.limI (↑b.den:Int)) = true))) \/ (¬(Sp.valB (Sp.isNeg c.num) (Sp.limI c.num) (Sp.isNeg (↑c.den:Int)) (Sp.limI (↑c.den:Int)) = true))) -> vb false = dq) /\
  (¬(((¬(Sp.valB (Sp.isNeg a.num) (Sp.limI a.num) (Sp.isNeg (↑a.den:Int)) (Sp.limI (↑a.den:Int)) = true)) \/ (¬(Sp.valB (Sp.isNeg b.num) (Sp.limI b.num) (Sp.isNeg (↑b.den:Int)) (Sp.limI (↑b.den:Int)) = true))) \/ (¬(Sp.valB (Sp.isNeg c.num) (Sp.limI c.num) (Sp.isNeg (↑c.den:Int)) (Sp.limI (↑c.den:Int)) = true))) -> (((Sp.sgnI b.num = 0) \/ (Sp.sgnI c.num = 0)) -> vb (bif Sp.sgnI b.num == 0 then Sp.sgnI c.num == 0 else false) = dq) /\
   (¬((Sp.sgnI b.num = 0) \/ (Sp.sgnI c.num = 0)) -> ((Sp.rsq c) -> (Sp.okR c) /\
     vb (bif decide (Sp.sgnI c.num > 0) then false else false) = dq) /\
    (¬(Sp.rsq c) -> (Sp.okR c) /\
     vb (bif decide (Sp.sgnI c.num > 0) then true else false) = dq)))) :
 pValid_at f1 f2 f3 f4 f5 f6 a b c (PureQ dq):=by
 unfold pValid_at
 obtain ⟨k1,H⟩:=H
 obtain ⟨k3,H⟩:=H
 obtain ⟨k5,H⟩:=H
 refine path_wp (G:=given kp93 [(1,2,.call (vb (Sp.valB (Sp.isNeg a.num) (Sp.limI a.num) (Sp.isNeg (↑a.den:Int)) (Sp.limI (↑a.den:Int)))) none),(1,7,.call (vb (zNxD5 b)) none),(1,13,.call (vb (zNxD6 c)) none)] []) 5 [] ⟨(atC (cd Tryz.f93) [1,0,1]),[(1,AV.ptr 0 0 0 0),(20,vb (zNxD3 a b c))],[⟨[rootA f1 f2 f3 f4 f5 f6 a b c],12,0,false,false⟩],[true,!((!Sp.valB (Sp.isNeg a.num) (Sp.limI a.num) (Sp.isNeg (↑a.den:Int)) (Sp.limI (↑a.den:Int))) == false && true) || true,!((zNxD4 a b) == false && true) || true],[],[⟨true,false,29,[ratA f1 f2 a],[],vb (Sp.valB (Sp.isNeg a.num) (Sp.limI a.num) (Sp.isNeg (↑a.den:Int)) (Sp.limI (↑a.den:Int))),[]⟩,⟨(!Sp.valB (Sp.isNeg a.num) (Sp.limI a.num) (Sp.isNeg (↑a.den:Int)) (Sp.limI (↑a.den:Int))) == false && true && true,false,29,[ratA f3 f4 b],[],vb (zNxD5 b),[]⟩,⟨(zNxD4 a b) == false && true && true,false,29,[ratA f5 f6 c],[],vb (zNxD6 c),[]⟩]⟩ (by kernel_rfl) (bc rfl (bc (Bool.or_true _) (bc (Bool.or_true _) b0))) q0 (cc (fun _ => (@ev29 (Sp.isNeg a.num) (f1) (Sp.isNeg (↑a.den:Int)) (f2) (Sp.limI a.num) (Sp.limI (↑a.den:Int)) k1)) (cc (fun hc => ((@ev29 (Sp.isNeg b.num) (f3) (Sp.isNeg (↑b.den:Int)) (f4) (Sp.limI b.num) (Sp.limI (↑b.den:Int)) (k3 ((i_at (i_at (i_bf (i_not (i_var _))))).1 hc))):Ev M1 (Conf.pure 29 [ratA f3 f4 b]) (vb (zNxD5 b)) [])) (cc (fun hc => ((@ev29 (Sp.isNeg c.num) (f5) (Sp.isNeg (↑c.den:Int)) (f6) (Sp.limI c.num) (Sp.limI (↑c.den:Int)) (k5 ((i_at (i_at (i_bf (i_bor (i_not (i_var _)) (i_not (i_var _)))))).1 hc))):Ev M1 (Conf.pure 29 [ratA f5 f6 c]) (vb (zNxD6 c)) [])) c0))) ?_
 rcases xm (((¬(Sp.valB (Sp.isNeg a.num) (Sp.limI a.num) (Sp.isNeg (↑a.den:Int)) (Sp.limI (↑a.den:Int)) = true)) \/ (¬(Sp.valB (Sp.isNeg b.num) (Sp.limI b.num) (Sp.isNeg (↑b.den:Int)) (Sp.limI (↑b.den:Int)) = true))) \/ (¬(Sp.valB (Sp.isNeg c.num) (Sp.limI c.num) (Sp.isNeg (↑c.den:Int)) (Sp.limI (↑c.den:Int)) = true))) with d7 | d7
 ·have H:=H.1 d7
  exact path_re (G:=given kp93 [] []) 1000 [true] (asm:=[(zNxD3 a b c) == true]) (vb false) (by kernel_rfl) (bc (beq_t ((i_bor (i_bor (i_not (i_var _)) (i_not (i_var _))) (i_not (i_var _))).2 d7)) b0) q0 c0 H
 ·have H:=H.2 d7
  refine path_wp (G:=given kp93 [(3,2,.call (vi (Sp.sgnI b.num)) none),(3,7,.call (vi (Sp.sgnI c.num)) none)] []) 5 [false] ⟨(atC (cd Tryz.f93) [1,1,0,1]),[(1,AV.ptr 0 0 0 0),(30,vb (bif Sp.sgnI b.num == 0 then true else Sp.sgnI c.num == 0))],[⟨[rootA f1 f2 f3 f4 f5 f6 a b c],12,0,false,false⟩],[(zNxD3 a b c) == false,true,!((Sp.sgnI b.num == 0) == false && true) || true],[],[⟨true,false,27,[ratA f3 f4 b],[],vi (Sp.sgnI b.num),[]⟩,⟨(Sp.sgnI b.num == 0) == false && true && true,false,27,[ratA f5 f6 c],[],vi (Sp.sgnI c.num),[]⟩]⟩ (by kernel_rfl) (bc (beq_f (fun h => d7 ((i_bor (i_bor (i_not (i_var _)) (i_not (i_var _))) (i_not (i_var _))).1 h))) (bc rfl (bc (Bool.or_true _) b0))) q0 (cc (fun _ => (@ev27 (f3) (f4) (b.num) ((↑b.den:Int)))) (cc (fun hc => ((@ev27 (f5) (f6) (c.num) ((↑c.den:Int))):Ev M1 (Conf.pure 27 [ratA f5 f6 c]) (vi (Sp.sgnI c.num)) [])) c0)) ?_
  rcases xm ((Sp.sgnI b.num = 0) \/ (Sp.sgnI c.num = 0)) with d10 | d10
  ·have H:=H.1 d10
   exact path_re (G:=given kp93 [(4,2,.call (vi (Sp.sgnI b.num)) none),(4,7,.call (vi (Sp.sgnI c.num)) none)] []) 1000 [true] (asm:=[(bif Sp.sgnI b.num == 0 then true else Sp.sgnI c.num == 0) == true,true,!((Sp.sgnI b.num == 0) == true && true) || true]) (calls:=[⟨true,false,27,[ratA f3 f4 b],[],vi (Sp.sgnI b.num),[]⟩,⟨(Sp.sgnI b.num == 0) == true && true && true,false,27,[ratA f5 f6 c],[],vi (Sp.sgnI c.num),[]⟩]) (vb (bif Sp.sgnI b.num == 0 then Sp.sgnI c.num == 0 else false)) (by kernel_rfl) (bc (beq_t ((i_bor i_eq i_eq).2 d10)) (bc rfl (bc (Bool.or_true _) b0))) q0 (cc (fun _ => (@ev27 (f3) (f4) (b.num) ((↑b.den:Int)))) (cc (fun hc => ((@ev27 (f5) (f6) (c.num) ((↑c.den:Int))):Ev M1 (Conf.pure 27 [ratA f5 f6 c]) (vi (Sp.sgnI c.num)) [])) c0)) H
  ·have H:=H.2 d10
   rcases xm (Sp.rsq c) with d12 | d12
   ·have H:=H.1 d12
    obtain ⟨k13,H⟩:=H
    exact path_re (G:=given kp93 [(5,2,.call (tu [ratA false false (Sp.rt c),vb true]) none),(6,2,.call (vi (Sp.sgnI c.num)) none)] []) 1000 [false] (vb (bif decide (Sp.sgnI c.num > 0) then false else false)) (by kernel_rfl) (bc (beq_f (fun h => d10 ((i_bor i_eq i_eq).1 h))) (bc rfl (bc rfl (bc rfl b0)))) q0 (ce (@ev118_y (f5) (f6) (c) k13 d12) (ce (@ev27 (f5) (f6) (c.num) ((↑c.den:Int))) c0)) H
   ·have H:=H.2 d12
    obtain ⟨k14,H⟩:=H
    exact path_re (G:=given kp93 [(5,2,.call (tu [ag [vb false,vf [],vb false,vf []],vb false]) none),(6,2,.call (vi (Sp.sgnI c.num)) none)] []) 1000 [false] (vb (bif decide (Sp.sgnI c.num > 0) then true else false)) (by kernel_rfl) (bc (beq_f (fun h => d10 ((i_bor i_eq i_eq).1 h))) (bc rfl (bc rfl (bc rfl b0)))) q0 (ce (@ev118_n (f5) (f6) (c) k14 d12) (ce (@ev27 (f5) (f6) (c.num) ((↑c.den:Int))) c0)) H
theorem lInt (fa:Bool) (a n:Int)  (dq:AV) (H :
  (Sp.inI n) /\
  (Sp.ok a /\ Sp.ok n) /\
  vb (decide (a = n)) = dq) :
 lInt_at fa a n (PureQ dq):=by
 unfold lInt_at
 obtain ⟨k1,H⟩:=H
 obtain ⟨k2,H⟩:=H
 exact path_re (G:=given kp46 [(1,2,.call (bigA false n) none),(1,3,.call (vb (decide (a = n))) none)] []) 1000 [] (vb (decide (a = n))) (by kernel_rfl) (bc rfl b0) q0 (ce (@ev15 (n) k1) (ce (@ev12 (fa) (false) (a) (n) k2) c0)) H
end Go.Av

namespace Go.Av
open Go.Proofs
theorem okT_div {k m:Nat} {r s:Rat} (h:Sp.okT k r) (h2:Sp.okT m s) (h0:s.num ≠ 0):Sp.okT (k + m) (r / s):=by
 have e:=divInt_le (p:=r.num * (s.den:Int)) (q:=(r.den:Int) * s.num) (Int.mul_ne_zero (den_ne r) h0)
 rw [rat_div] at e
 exact ⟨Nat.le_trans (cnt_mono e.1) (cnt_mulI h.1 (cnt_den h2.2)),Nat.le_trans (cnt_mono e.2) (cnt_mulI (cnt_den h.2) h2.1)⟩
def Sp.nrm (a b c:Rat):Prop:=a * a - b * b * c ≠ 0
noncomputable def Sp.ivn (a b c:Rat):Rat:=Sp.qi 1 / (a * a - b * b * c)
theorem okT_norm {a b c:Rat} {k:Nat} (ha:Sp.okT k a) (hb:Sp.okT k b) (hc:Sp.okT k c):Sp.okT (5 * k + 1) (a * a - b * b * c):=
 okT_le (okT_sub (okT_mul ha ha) (okT_mul (okT_mul hb hb) hc)) (by omega)
theorem okT_ivn {a b c:Rat} {k:Nat} (ha:Sp.okT k a) (hb:Sp.okT k b) (hc:Sp.okT k c) (h:Sp.nrm a b c):Sp.okT (5 * k + 4) (Sp.ivn a b c):=
 okT_le (okT_div (okT_int (n:=1) (by unfold Sp.inI;omega)) (okT_norm ha hb hc) fun e => h (Rat.num_eq_zero.1 e)) (by omega)
theorem ev39_y (f1 f2 f3 f4 f5 f6:Bool) (a b c:Rat) (h:Sp.okO a b c) (k:Sp.sgO a b c = 0):Ev M1 (.pure 39 [rootA f1 f2 f3 f4 f5 f6 a b c]) (.tup [noO,.int .i64 6]) []:=
 call39 (oInv _ _ _ _ _ _ _ _ _ _ ⟨h,fun _ => weak_two weak_no (.refl _),fun x => absurd k x⟩)
theorem ev39_n (f1 f2 f3 f4 f5 f6:Bool) (a b c:Rat) (h:Sp.okO a b c /\ Sp.nrm a b c) (k:¬(Sp.sgO a b c = 0)):Ev M1 (.pure 39 [rootA f1 f2 f3 f4 f5 f6 a b c]) (.tup [rootF (a * Sp.ivn a b c) (-b * Sp.ivn a b c) (Sp.rad (-b * Sp.ivn a b c) c),.int .i64 0]) []:=by
 obtain ⟨h,hn⟩:=h
 have hh:=h
 obtain ⟨ha,hb,hc⟩:=h
 have t1:=okT_norm ha hb hc
 have t2:=okT_ivn ha hb hc hn
 refine call39 (oInv _ _ _ _ _ _ _ _ _ _ ⟨hh,fun x => absurd x k,fun _ => ⟨by unfold Sp.inI;omega,⟨okT_R (okT_int (by unfold Sp.inI;omega)) (by omega),okT_R t1 (by omega),fun e => hn (Rat.num_eq_zero.1 e)⟩,?_,⟨⟨ha,okT_neg hb⟩,okT_R t2 (by omega)⟩,.refl _⟩⟩)
 have:=hb.1
 unfold Sp.okB;omega
theorem rsq_zero:Sp.rsq 0:=rsq_of (s:=0) (Rat.mul_zero 0)
theorem ev92_y (f1 f2 f3 f4 f5 f6:Bool) (a b c:Rat) (h:Sp.okO a b c) (k:Sp.isNN c):Ev M1 (.pure 92 [ratA f1 f2 a,ratA f3 f4 b,ratA f5 f6 c]) (.tup [rootF (Sp.mkA a b c) (Sp.mkB b c) (Sp.mkC b c),.int .i64 0]) []:=by
 obtain ⟨ha,hb,hc⟩:=h
 refine call92 (pMake _ _ _ _ _ _ _ _ _ _ ⟨fun x => absurd k (nn_sgn.1 x),fun _ => ⟨fun s => ?_,fun s => ?_⟩⟩)
 ·have hr:=okT_rt s hc
  have hm:=okT_mul hb hr
  refine ⟨okT_R hc (by omega),⟨okT_R hb (by omega),okT_R hr (by omega)⟩,⟨okT_R ha (by omega),okT_R hm (by omega)⟩,?_⟩
  rw [show Sp.mkA a b c = a + b * Sp.rt c from if_pos s,show Sp.mkB b c = Sp.qi 0 from if_pos s,show Sp.mkC b c = Sp.qi 0 from if_pos s]
  exact .refl _
 ·refine ⟨okT_R hc (by omega),?_⟩
  have hc0:c ≠ 0:=fun e => s (by rw [e];exact rsq_zero)
  have e1:Sp.prB b c = b:=by
   unfold Sp.prB
   by_cases hb0:b = 0
   ·rw [if_pos (.inl hb0),hb0,qi_zero]
   ·rw [if_neg fun x => x.elim hb0 hc0]
  have e2:Sp.prC b c = Sp.rad b c:=by
   unfold Sp.prC Sp.rad
   by_cases hb0:b = 0
   ·rw [if_pos (.inl hb0),if_pos hb0]
   ·rw [if_neg fun x => x.elim hb0 hc0,if_neg hb0]
  rw [e1,e2,show Sp.mkA a b c = a from if_neg s,show Sp.mkB b c = b from if_neg s,show Sp.mkC b c = Sp.rad b c from if_neg s]
  exact .refl _
theorem ev92_n (f1 f2 f3 f4 f5 f6:Bool) (a b c:Rat) (h:Sp.okO a b c) (k:¬(Sp.isNN c)):Ev M1 (.pure 92 [ratA f1 f2 a,ratA f3 f4 b,ratA f5 f6 c]) (.tup [noO,.int .i64 7]) []:=
 call92 (pMake _ _ _ _ _ _ _ _ _ _ ⟨fun _ => weak_two weak_no (.refl _),fun x => absurd (nn_sgn.2 k) x⟩)
theorem ev93 (f1 f2 f3 f4 f5 f6:Bool) (a b c:Rat) (h:Sp.okO a b c):Ev M1 (.pure 93 [rootA f1 f2 f3 f4 f5 f6 a b c]) (.bool (Sp.vroot b c)) []:=by
 obtain ⟨ha,hb,hc⟩:=h
 have t1:=valB_rat a
 have t2:=valB_rat b
 have t3:=valB_rat c
 refine call93 (pValid _ _ _ _ _ _ _ _ _ _ ⟨okA_rat ha (by omega),fun _ => okA_rat hb (by omega),fun _ => okA_rat hc (by omega),fun k => ?_,fun _ => ⟨fun k => ?_,fun k => ⟨fun s => ⟨okT_R hc (by omega),?_⟩,fun s => ⟨okT_R hc (by omega),?_⟩⟩⟩⟩)
 ·rcases k with (k | k) | k
  ·exact absurd t1 k
  ·exact absurd t2 k
  ·exact absurd t3 k
 ·congr 1
  have hs:=@sgn_num c
  by_cases hb0:b = 0
  ·rw [show (Sp.sgnI b.num == 0) = true from beq_iff_eq.2 (sgn_num.2 hb0),cond_true]
   unfold Sp.vroot
   rw [if_pos hb0]
   by_cases e:c = 0
   ·rw [decide_eq_true e];exact beq_iff_eq.2 (hs.2 e)
   ·rw [decide_eq_false e];exact beq_eq_false_iff_ne.2 fun x => e (hs.1 x)
  ·rw [show (Sp.sgnI b.num == 0) = false from beq_eq_false_iff_ne.2 fun x => hb0 (sgn_num.1 x),cond_false]
   have hc0:=hs.1 (k.resolve_left fun x => hb0 (sgn_num.1 x))
   exact (vroot_f hb0 fun x => x.2 (by rw [hc0];exact rsq_zero)).symm
 ·rw [vroot_f (fun e => k (.inl (sgn_num.2 e))) fun x => x.2 s]
  cases decide (Sp.sgnI c.num > 0) <;> rfl
 ·by_cases e:0 < c.num
  ·have:Sp.sgnI c.num > 0:=by unfold Sp.sgnI;rw [if_neg (by omega),if_pos e];decide
   rw [decide_eq_true this,vroot_t (fun e => k (.inl (sgn_num.2 e))) ⟨e,s⟩];rfl
  ·have:¬Sp.sgnI c.num > 0:=by unfold Sp.sgnI;(repeat' split) <;> omega
   rw [decide_eq_false this,vroot_f (fun e => k (.inl (sgn_num.2 e))) fun x => e x.1];rfl
theorem ok_inI {n:Int} (h:Sp.inI n):Sp.ok n:=by
 have:=inI_cnt h
 unfold Sp.ok;omega
theorem ev46 (fa:Bool) (a n:Int) (h:Sp.ok a /\ Sp.inI n):Ev M1 (.pure 46 [bigA fa a,.int .i64 n]) (.bool (decide (a = n))) []:=
 call46 (lInt _ _ _ _ ⟨h.2,⟨h.1,ok_inI h.2⟩,rfl⟩)
end Go.Av

namespace Go.Av
open Go.Proofs
set_option maxRecDepth 100000
def fi44:Fi:=⟨23,[.cell 6 28,.tmp 7]⟩
def kp44:List (Nat × List Nat):=[(0,[0,1,2,6]),(1,[6,8,9]),(2,[6,7])]
def fi45:Fi:=⟨38,[.cell 2 28]⟩
def kp45:List (Nat × List Nat):=[(0,[1,2]),(1,[1,2,3]),(2,[1,2,3,4]),(3,[2,5]),(4,[2])]
def pOf_at (a b c d e f:Int) (Q:AV -> Heap -> Prop):Prop:=Wp M1 (.run fi45 (atC (cd Tryz.f45) []) [(0,.agg [.int .i16 a,.int .i16 b,.int .u16 c,.int .u8 d,.int .u8 e,.int .u8 f])] []) Q
def lMake_at (a b c:Int) (Q:AV -> Heap -> Prop):Prop:=Wp M1 (.run fi44 (atC (cd Tryz.f44) []) [(0,.int .i64 a),(1,.int .i64 b),(2,.int .i64 c)] []) Q
theorem call44 {args:List AV} {d:AV} (h:wc M1 fi44 Tryz.f44 args d):Ev M1 (.pure 44 args) d []:=pcl _ _ (by kernel_rfl) h
theorem call45 {args:List AV} {d:AV} (h:wc M1 fi45 Tryz.f45 args d):Ev M1 (.pure 45 args) d []:=pcl _ _ (by kernel_rfl) h
noncomputable abbrev zNxE1:=ag [vb false,vf [],vb false,vf [],vb false,vf [],vb false,vf [],vb false,vf [],vb false,vf []]
theorem pOf (a b c d e f:Int)  (dq:AV) (H :
  (-9223372036854775808 <= a /\ a <= 9223372036854775807) /\
  (-9223372036854775808 <= d /\ d <= 9223372036854775807) /\
  (-9223372036854775808 <= d + 1 /\ d + 1 <= 9223372036854775807) /\
  (Sp.okF a (d + 1)) /\
  (-9223372036854775808 <= b /\ b <= 9223372036854775807) /\
  (-9223372036854775808 <= e /\ e <= 9223372036854775807) /\
  (-9223372036854775808 <= e + 1 /\ e + 1 <= 9223372036854775807) /\
  (Sp.okF b (e + 1)) /\
  (-9223372036854775808 <= c /\ c <= 9223372036854775807) /\
  (-9223372036854775808 <= f /\ f <= 9223372036854775807) /\
  (-9223372036854775808 <= f + 1 /\ f + 1 <= 9223372036854775807) /\
  (Sp.okF c (f + 1)) /\
  ((Sp.isNN (Sp.qf c (f + 1))) -> (Sp.okO (Sp.qf a (d + 1)) (Sp.qf b (e + 1)) (Sp.qf c (f + 1))) /\
   Weak (rootF (Sp.mkA (Sp.qf a (d + 1)) (Sp.qf b (e + 1)) (Sp.qf c (f + 1))) (Sp.mkB (Sp.qf b (e + 1)) (Sp.qf c (f + 1))) (Sp.mkC (Sp.qf b (e + 1)) (Sp.qf c (f + 1)))) dq) /\
  (¬(Sp.isNN (Sp.qf c (f + 1))) -> (Sp.okO (Sp.qf a (d + 1)) (Sp.qf b (e + 1)) (Sp.qf c (f + 1))) /\
   Weak (ag [vb false,vf [],vb false,vf [],vb false,vf [],vb false,vf [],vb false,vf [],vb false,vf []]) dq)) :
 pOf_at a b c d e f (PureQ dq):=by
 unfold pOf_at
 obtain ⟨k1,H⟩:=H
 have w2:wi a = a:=wI64 k1
 obtain ⟨k3,H⟩:=H
 have w4:wi d = d:=wI64 k3
 obtain ⟨k5,H⟩:=H
 have w6:wi (d + 1) = d + 1:=wI64 k5
 obtain ⟨k7,H⟩:=H
 obtain ⟨k8,H⟩:=H
 have w9:wi b = b:=wI64 k8
 obtain ⟨k10,H⟩:=H
 have w11:wi e = e:=wI64 k10
 obtain ⟨k12,H⟩:=H
 have w13:wi (e + 1) = e + 1:=wI64 k12
 obtain ⟨k14,H⟩:=H
 obtain ⟨k15,H⟩:=H
 have w16:wi c = c:=wI64 k15
 obtain ⟨k17,H⟩:=H
 have w18:wi f = f:=wI64 k17
 obtain ⟨k19,H⟩:=H
 have w20:wi (f + 1) = f + 1:=wI64 k19
 obtain ⟨k21,H⟩:=H
 rcases xm (Sp.isNN (Sp.qf c (f + 1))) with d22 | d22
 ·have H:=H.1 d22
  obtain ⟨k23,H⟩:=H
  exact path_rq (G:=given kp45 [(1,7,.call (ratA false false (Sp.qf a (d + 1))) none),(2,7,.call (ratA false false (Sp.qf b (e + 1))) none),(3,9,.call (ratA false false (Sp.qf c (f + 1))) none),(3,10,.call (tu [rootF (Sp.mkA (Sp.qf a (d + 1)) (Sp.qf b (e + 1)) (Sp.qf c (f + 1))) (Sp.mkB (Sp.qf b (e + 1)) (Sp.qf c (f + 1))) (Sp.mkC (Sp.qf b (e + 1)) (Sp.qf c (f + 1))),vi 0]) none)] []) 1000 [] (calls:=[pc 43 [vi (wi a),vi (wi (wi d + 1))] (ratA false false (Sp.qf a (d + 1))),pc 43 [vi (wi b),vi (wi (wi e + 1))] (ratA false false (Sp.qf b (e + 1))),pc 43 [vi (wi c),vi (wi (wi f + 1))] (ratA false false (Sp.qf c (f + 1))),pc 92 [ratA false false (Sp.qf a (d + 1)),ratA false false (Sp.qf b (e + 1)),ratA false false (Sp.qf c (f + 1))] (tu [rootF (Sp.mkA (Sp.qf a (d + 1)) (Sp.qf b (e + 1)) (Sp.qf c (f + 1))) (Sp.mkB (Sp.qf b (e + 1)) (Sp.qf c (f + 1))) (Sp.mkC (Sp.qf b (e + 1)) (Sp.qf c (f + 1))),vi 0])]) (rootF (Sp.mkA (Sp.qf a (d + 1)) (Sp.qf b (e + 1)) (Sp.qf c (f + 1))) (Sp.mkB (Sp.qf b (e + 1)) (Sp.qf c (f + 1))) (Sp.mkC (Sp.qf b (e + 1)) (Sp.qf c (f + 1)))) (by kernel_rfl) (bc rfl (bc rfl (bc rfl (bc rfl (bc rfl (bc rfl (bc rfl (bc rfl (bc rfl (bc rfl (bc rfl (bc rfl (bc rfl b0))))))))))))) q0 (ce (by (try rw [w2]);(try rw [w4]);(try rw [w6]);all_goals exact (@ev43 (a) (d + 1) k7)) (ce (by (try rw [w9]);(try rw [w11]);(try rw [w13]);all_goals exact (@ev43 (b) (e + 1) k14)) (ce (by (try rw [w16]);(try rw [w18]);(try rw [w20]);all_goals exact (@ev43 (c) (f + 1) k21)) (ce (@ev92_y (false) (false) (false) (false) (false) (false) (Sp.qf a (d + 1)) (Sp.qf b (e + 1)) (Sp.qf c (f + 1)) k23 d22) c0)))) H
 ·have H:=H.2 d22
  obtain ⟨k24,H⟩:=H
  exact path_rq (G:=given kp45 [(1,7,.call (ratA false false (Sp.qf a (d + 1))) none),(2,7,.call (ratA false false (Sp.qf b (e + 1))) none),(3,9,.call (ratA false false (Sp.qf c (f + 1))) none),(3,10,.call (tu [zNxE1,vi 7]) none)] []) 1000 [] (calls:=[pc 43 [vi (wi a),vi (wi (wi d + 1))] (ratA false false (Sp.qf a (d + 1))),pc 43 [vi (wi b),vi (wi (wi e + 1))] (ratA false false (Sp.qf b (e + 1))),pc 43 [vi (wi c),vi (wi (wi f + 1))] (ratA false false (Sp.qf c (f + 1))),pc 92 [ratA false false (Sp.qf a (d + 1)),ratA false false (Sp.qf b (e + 1)),ratA false false (Sp.qf c (f + 1))] (tu [zNxE1,vi 7])]) (zNxE1) (by kernel_rfl) (bc rfl (bc rfl (bc rfl (bc rfl (bc rfl (bc rfl (bc rfl (bc rfl (bc rfl (bc rfl (bc rfl (bc rfl (bc rfl b0))))))))))))) q0 (ce (by (try rw [w2]);(try rw [w4]);(try rw [w6]);all_goals exact (@ev43 (a) (d + 1) k7)) (ce (by (try rw [w9]);(try rw [w11]);(try rw [w13]);all_goals exact (@ev43 (b) (e + 1) k14)) (ce (by (try rw [w16]);(try rw [w18]);(try rw [w20]);all_goals exact (@ev43 (c) (f + 1) k21)) (ce (@ev92_n (false) (false) (false) (false) (false) (false) (Sp.qf a (d + 1)) (Sp.qf b (e + 1)) (Sp.qf c (f + 1)) k24 d22) c0)))) H
noncomputable abbrev zNxE2:=ag [vb false,vf [],vb false,vf [],vb false,vf [],vb false,vf [],vb false,vf [],vb false,vf []]
theorem lMake (a b c:Int)  (dq:AV) (H :
  (Sp.inI a) /\
  (Sp.inI b) /\
  (Sp.inI c) /\
  ((Sp.isNN (Sp.qi c)) -> (Sp.okO (Sp.qi a) (Sp.qi b) (Sp.qi c)) /\
   Weak (tu [rootF (Sp.mkA (Sp.qi a) (Sp.qi b) (Sp.qi c)) (Sp.mkB (Sp.qi b) (Sp.qi c)) (Sp.mkC (Sp.qi b) (Sp.qi c)),vb true]) dq) /\
  (¬(Sp.isNN (Sp.qi c)) -> (Sp.okO (Sp.qi a) (Sp.qi b) (Sp.qi c)) /\
   Weak (tu [ag [vb false,vf [],vb false,vf [],vb false,vf [],vb false,vf [],vb false,vf [],vb false,vf []],vb false]) dq)) :
 lMake_at a b c (PureQ dq):=by
 unfold lMake_at
 obtain ⟨k1,H⟩:=H
 obtain ⟨k2,H⟩:=H
 obtain ⟨k3,H⟩:=H
 rcases xm (Sp.isNN (Sp.qi c)) with d4 | d4
 ·have H:=H.1 d4
  obtain ⟨k5,H⟩:=H
  exact path_rq (G:=given kp44 [(1,1,.call (ratA false false (Sp.qi a)) none),(1,3,.call (ratA false false (Sp.qi b)) none),(1,5,.call (ratA false false (Sp.qi c)) none),(1,6,.call (tu [rootF (Sp.mkA (Sp.qi a) (Sp.qi b) (Sp.qi c)) (Sp.mkB (Sp.qi b) (Sp.qi c)) (Sp.mkC (Sp.qi b) (Sp.qi c)),vi 0]) none)] []) 1000 [] (tu [rootF (Sp.mkA (Sp.qi a) (Sp.qi b) (Sp.qi c)) (Sp.mkB (Sp.qi b) (Sp.qi c)) (Sp.mkC (Sp.qi b) (Sp.qi c)),vb true]) (by kernel_rfl) (bc rfl (bc rfl (bc rfl b0))) q0 (ce (@ev18 (a) k1) (ce (@ev18 (b) k2) (ce (@ev18 (c) k3) (ce (@ev42_y (false) (false) (false) (false) (false) (false) (Sp.qi a) (Sp.qi b) (Sp.qi c) k5 d4) c0)))) H
 ·have H:=H.2 d4
  obtain ⟨k6,H⟩:=H
  exact path_rq (G:=given kp44 [(1,1,.call (ratA false false (Sp.qi a)) none),(1,3,.call (ratA false false (Sp.qi b)) none),(1,5,.call (ratA false false (Sp.qi c)) none),(1,6,.call (tu [zNxE2,vi 7]) none)] []) 1000 [] (tu [zNxE2,vb false]) (by kernel_rfl) (bc rfl (bc rfl (bc rfl b0))) q0 (ce (@ev18 (a) k1) (ce (@ev18 (b) k2) (ce (@ev18 (c) k3) (ce (@ev42_n (false) (false) (false) (false) (false) (false) (Sp.qi a) (Sp.qi b) (Sp.qi c) k6 d4) c0)))) H
end Go.Av

namespace Go.Av
open Go.Proofs
theorem cnt_le {n m:Nat} {k:Nat} (h:n <= m) (hm:Sp.cnt m <= k):Sp.cnt n <= k:=Nat.le_trans (cnt_mono h) hm
theorem okT_qf {n d:Int} (h:Sp.okF n d):Sp.okT 3 (Sp.qf n d):=by
 obtain ⟨h1,h2,h3⟩:=h
 obtain ⟨e1,e2⟩:=divInt_le (p:=n) h3
 rw [qf_eq]
 exact ⟨cnt_le e1 (inI_cnt h1),cnt_le e2 (inI_cnt h2)⟩
def Sp.okSd (a b c d e f:Int):Prop:=(-32768 <= a /\ a <= 32767) /\ (-32768 <= b /\ b <= 32767) /\ (0 <= c /\ c <= 65535) /\ (0 <= d /\ d <= 255) /\ (0 <= e /\ e <= 255) /\ (0 <= f /\ f <= 255)
theorem nn_qf {n d:Int} (h:0 <= n) (hd:0 < d):Sp.isNN (Sp.qf n d):=by
 rw [qf_eq]
 obtain ⟨e1,_⟩:=rat_pos (a:=n) hd
 unfold Sp.isNN
 rw [e1]
 exact Int.ediv_nonneg h (by omega)
theorem okT_O {a b c:Rat} {k:Nat} (h1:Sp.okT k a) (h2:Sp.okT k b) (h3:Sp.okT k c) (hk:k <= 9000):Sp.okO a b c:=⟨okT_le h1 hk,okT_le h2 hk,okT_le h3 hk⟩
theorem ev45 (a b c d e f:Int) (h:Sp.okSd a b c d e f):Ev M1 (.pure 45 [.agg [.int .i16 a,.int .i16 b,.int .u16 c,.int .u8 d,.int .u8 e,.int .u8 f]]) (rootF (Sp.mkA (Sp.qf a (d + 1)) (Sp.qf b (e + 1)) (Sp.qf c (f + 1))) (Sp.mkB (Sp.qf b (e + 1)) (Sp.qf c (f + 1))) (Sp.mkC (Sp.qf b (e + 1)) (Sp.qf c (f + 1)))) []:=by
 obtain ⟨ha,hb,hc,hd,he,hf⟩:=h
 have f1:Sp.okF a (d + 1):=by unfold Sp.okF Sp.inI;omega
 have f2:Sp.okF b (e + 1):=by unfold Sp.okF Sp.inI;omega
 have f3:Sp.okF c (f + 1):=by unfold Sp.okF Sp.inI;omega
 have nn:=nn_qf (n:=c) (d:=f + 1) hc.1 (by omega)
 exact call45 (pOf _ _ _ _ _ _ _ ⟨by omega,by omega,by omega,f1,by omega,by omega,by omega,f2,by omega,by omega,by omega,f3,fun _ => ⟨okT_O (okT_qf f1) (okT_qf f2) (okT_qf f3) (by omega),.refl _⟩,fun x => absurd nn x⟩)
def Sp.okM (a b c:Int):Prop:=Sp.inI a /\ Sp.inI b /\ Sp.inI c /\ 0 <= c
theorem nn_qi {n:Int} (h:0 <= n):Sp.isNN (Sp.qi n):=by
 rw [qi_eq]
 unfold Sp.isNN
 rw [Rat.num_intCast];exact h
theorem ev44 (a b c:Int) (h:Sp.okM a b c):Ev M1 (.pure 44 [.int .i64 a,.int .i64 b,.int .i64 c]) (.tup [rootF (Sp.mkA (Sp.qi a) (Sp.qi b) (Sp.qi c)) (Sp.mkB (Sp.qi b) (Sp.qi c)) (Sp.mkC (Sp.qi b) (Sp.qi c)),.bool true]) []:=by
 obtain ⟨h1,h2,h3,h4⟩:=h
 exact call44 (lMake _ _ _ _ ⟨h1,h2,h3,fun _ => ⟨okT_O (okT_int h1) (okT_int h2) (okT_int h3) (by omega),.refl _⟩,fun x => absurd (nn_qi h4) x⟩)
end Go.Av

namespace Go.Av
open Go.Proofs
set_option maxRecDepth 100000
def fi9:Fi:=⟨102,[.tmp 0]⟩
def kp9:List (Nat × List Nat):=[(0,[]),(1,[1,2]),(2,[1,2,3,4]),(3,[1,2,3,4,5,6]),(4,[1,2,3,4,5,6,7,8]),(5,[5,7,60]),(6,[0]),(7,[5,7,9,10]),(8,[5,7,9,10,11]),(9,[5,7,9,10,11,13]),(10,[0])]
def lAwake_at  (Q:AV -> Heap -> Prop):Prop:=Wp M1 (.run fi9 (atC (cd Tryz.f9) []) [] []) Q
theorem call9 {args:List AV} {d:AV} (h:wc M1 fi9 Tryz.f9 args d):Ev M1 (.pure 9 args) d []:=pcl _ _ (by kernel_rfl) h
noncomputable abbrev zNxF1:=Sp.mkA (Sp.qi 1) (Sp.qi 1) (Sp.qi 2) * Sp.ivn (Sp.mkA (Sp.qi 1) (Sp.qi 1) (Sp.qi 2)) (Sp.mkB (Sp.qi 1) (Sp.qi 2)) (Sp.mkC (Sp.qi 1) (Sp.qi 2)) = Sp.mkA (Sp.qf (-1) (0 + 1)) (Sp.qf 1 (0 + 1)) (Sp.qf 2 (0 + 1)) /\ -Sp.mkB (Sp.qi 1) (Sp.qi 2) * Sp.ivn (Sp.mkA (Sp.qi 1) (Sp.qi 1) (Sp.qi 2)) (Sp.mkB (Sp.qi 1) (Sp.qi 2)) (Sp.mkC (Sp.qi 1) (Sp.qi 2)) = Sp.mkB (Sp.qf 1 (0 + 1)) (Sp.qf 2 (0 + 1)) /\ Sp.rad (-Sp.mkB (Sp.qi 1) (Sp.qi 2) * Sp.ivn (Sp.mkA (Sp.qi 1) (Sp.qi 1) (Sp.qi 2)) (Sp.mkB (Sp.qi 1) (Sp.qi 2)) (Sp.mkC (Sp.qi 1) (Sp.qi 2))) (Sp.mkC (Sp.qi 1) (Sp.qi 2)) = Sp.mkC (Sp.qf 1 (0 + 1)) (Sp.qf 2 (0 + 1))
noncomputable abbrev zNxF2:=Sp.mkA (Sp.qi 0) (Sp.qi 1) (Sp.qi 8) = Sp.mkA (Sp.qf 0 (0 + 1)) (Sp.qf 1 (0 + 1)) (Sp.qf 8 (0 + 1)) /\ Sp.mkB (Sp.qi 1) (Sp.qi 8) = Sp.mkB (Sp.qf 1 (0 + 1)) (Sp.qf 8 (0 + 1)) /\ Sp.mkC (Sp.qi 1) (Sp.qi 8) = Sp.mkC (Sp.qf 1 (0 + 1)) (Sp.qf 8 (0 + 1))
noncomputable abbrev zNxF3:=ag [vb false,vf [],vb false,vf [],vb false,vf [],vb false,vf [],vb false,vf [],vb false,vf []]
noncomputable abbrev zNxF4:=Sp.fl (Sp.mkA (Sp.qi 1) (Sp.qi 1) (Sp.qi 2)) (Sp.mkB (Sp.qi 1) (Sp.qi 2)) (Sp.mkC (Sp.qi 1) (Sp.qi 2)) = 2
noncomputable abbrev zNxF5:=Sp.fl (Sp.mkA (Sp.qi 1) (Sp.qi (-1)) (Sp.qi 2)) (Sp.mkB (Sp.qi (-1)) (Sp.qi 2)) (Sp.mkC (Sp.qi (-1)) (Sp.qi 2))
noncomputable abbrev zNxF6:=Sp.fl (Sp.mkA (Sp.qi 1) (Sp.qi (-1)) (Sp.qi 2)) (Sp.mkB (Sp.qi (-1)) (Sp.qi 2)) (Sp.mkC (Sp.qi (-1)) (Sp.qi 2)) = -1
noncomputable abbrev zNxF7:=Sp.fl (Sp.mkA (Sp.qi 1) (Sp.qi 1) (Sp.qi 2)) (Sp.mkB (Sp.qi 1) (Sp.qi 2)) (Sp.mkC (Sp.qi 1) (Sp.qi 2))
noncomputable abbrev zNxF8:=Sp.mkA (Sp.qi 1) (Sp.qi 2) (Sp.qf 9 4) = Sp.qi 4 /\ Sp.mkB (Sp.qi 2) (Sp.qf 9 4) = Sp.qi 0 /\ Sp.mkC (Sp.qi 2) (Sp.qf 9 4) = Sp.qi 0
noncomputable abbrev zNxF9:=Sp.mkA (Sp.qf 0 (0 + 1)) (Sp.qf 1 (0 + 1)) (Sp.qf 8 (0 + 1))
noncomputable abbrev zNxF10:=Sp.sgO (Sp.mkA (Sp.qi 3) (Sp.qi (-2)) (Sp.qi 2)) (Sp.mkB (Sp.qi (-2)) (Sp.qi 2)) (Sp.mkC (Sp.qi (-2)) (Sp.qi 2))
noncomputable abbrev zNxF11:=Sp.sgO (Sp.mkA (Sp.qi 4) (Sp.qi (-3)) (Sp.qi 2)) (Sp.mkB (Sp.qi (-3)) (Sp.qi 2)) (Sp.mkC (Sp.qi (-3)) (Sp.qi 2))
noncomputable abbrev zNxF12:=Sp.mkA (Sp.qf (-1) (0 + 1)) (Sp.qf 1 (0 + 1)) (Sp.qf 2 (0 + 1))
noncomputable abbrev zNxF13:=Sp.rad (-Sp.mkB (Sp.qi 1) (Sp.qi 2) * Sp.ivn (Sp.mkA (Sp.qi 1) (Sp.qi 1) (Sp.qi 2)) (Sp.mkB (Sp.qi 1) (Sp.qi 2)) (Sp.mkC (Sp.qi 1) (Sp.qi 2))) (Sp.mkC (Sp.qi 1) (Sp.qi 2))
noncomputable abbrev zNxF14:=Sp.mkA (Sp.qi 1) (Sp.qi 1) (Sp.qi 2) * Sp.ivn (Sp.mkA (Sp.qi 1) (Sp.qi 1) (Sp.qi 2)) (Sp.mkB (Sp.qi 1) (Sp.qi 2)) (Sp.mkC (Sp.qi 1) (Sp.qi 2))
noncomputable abbrev zNxF15:=ag [AV.int IntKind.i16 (-1),AV.int IntKind.i16 1,AV.int IntKind.u16 2,AV.int IntKind.u8 0,AV.int IntKind.u8 0,AV.int IntKind.u8 0]
noncomputable abbrev zNxF16:=ag [AV.int IntKind.i16 0,AV.int IntKind.i16 1,AV.int IntKind.u16 8,AV.int IntKind.u8 0,AV.int IntKind.u8 0,AV.int IntKind.u8 0]
noncomputable abbrev zNxF17:=bif bif bif decide zNxF1 then decide zNxF4 else false then decide zNxF6 else false then Sp.sgO (Sp.mkA (Sp.qi 3) (Sp.qi (-2)) (Sp.qi 2)) (Sp.mkB (Sp.qi (-2)) (Sp.qi 2)) (Sp.mkC (Sp.qi (-2)) (Sp.qi 2)) == 1 else false
theorem lAwake   (dq:AV) (H :
  (Sp.inI 1) /\
  (Sp.inI 2) /\
  (Sp.okF 9 4) /\
  ((Sp.isNN (Sp.qf 9 4)) -> (Sp.okO (Sp.qi 1) (Sp.qi 2) (Sp.qf 9 4)) /\
   (Sp.okM 0 1 8) /\
   (Sp.okM 1 1 2) /\
   (Sp.okM 1 (-1) 2) /\
   ((¬(false = true)) -> (Sp.inI 4)) /\
   (Sp.okO (Sp.mkA (Sp.qi 1) (Sp.qi 2) (Sp.qf 9 4)) (Sp.mkB (Sp.qi 2) (Sp.qf 9 4)) (Sp.mkC (Sp.qi 2) (Sp.qf 9 4)) /\ Sp.okO (Sp.qi 4) (Sp.qi 0) (Sp.qi 0)) /\
   ((¬(¬(Sp.mkA (Sp.qi 1) (Sp.qi 2) (Sp.qf 9 4) = Sp.qi 4 /\ Sp.mkB (Sp.qi 2) (Sp.qf 9 4) = Sp.qi 0 /\ Sp.mkC (Sp.qi 2) (Sp.qf 9 4) = Sp.qi 0))) -> (Sp.okSd 0 1 8 0 0 0)) /\
   ((¬(¬(Sp.mkA (Sp.qi 1) (Sp.qi 2) (Sp.qf 9 4) = Sp.qi 4 /\ Sp.mkB (Sp.qi 2) (Sp.qf 9 4) = Sp.qi 0 /\ Sp.mkC (Sp.qi 2) (Sp.qf 9 4) = Sp.qi 0))) -> (Sp.okO (Sp.mkA (Sp.qi 0) (Sp.qi 1) (Sp.qi 8)) (Sp.mkB (Sp.qi 1) (Sp.qi 8)) (Sp.mkC (Sp.qi 1) (Sp.qi 8)) /\ Sp.okO (Sp.mkA (Sp.qf 0 (0 + 1)) (Sp.qf 1 (0 + 1)) (Sp.qf 8 (0 + 1))) (Sp.mkB (Sp.qf 1 (0 + 1)) (Sp.qf 8 (0 + 1))) (Sp.mkC (Sp.qf 1 (0 + 1)) (Sp.qf 8 (0 + 1))))) /\
   (((¬(Sp.mkA (Sp.qi 1) (Sp.qi 2) (Sp.qf 9 4) = Sp.qi 4 /\ Sp.mkB (Sp.qi 2) (Sp.qf 9 4) = Sp.qi 0 /\ Sp.mkC (Sp.qi 2) (Sp.qf 9 4) = Sp.qi 0)) \/ (¬(Sp.mkA (Sp.qi 0) (Sp.qi 1) (Sp.qi 8) = Sp.mkA (Sp.qf 0 (0 + 1)) (Sp.qf 1 (0 + 1)) (Sp.qf 8 (0 + 1)) /\ Sp.mkB (Sp.qi 1) (Sp.qi 8) = Sp.mkB (Sp.qf 1 (0 + 1)) (Sp.qf 8 (0 + 1)) /\ Sp.mkC (Sp.qi 1) (Sp.qi 8) = Sp.mkC (Sp.qf 1 (0 + 1)) (Sp.qf 8 (0 + 1))))) -> vb false = dq) /\
   (¬((¬(Sp.mkA (Sp.qi 1) (Sp.qi 2) (Sp.qf 9 4) = Sp.qi 4 /\ Sp.mkB (Sp.qi 2) (Sp.qf 9 4) = Sp.qi 0 /\ Sp.mkC (Sp.qi 2) (Sp.qf 9 4) = Sp.qi 0)) \/ (¬(Sp.mkA (Sp.qi 0) (Sp.qi 1) (Sp.qi 8) = Sp.mkA (Sp.qf 0 (0 + 1)) (Sp.qf 1 (0 + 1)) (Sp.qf 8 (0 + 1)) /\ Sp.mkB (Sp.qi 1) (Sp.qi 8) = Sp.mkB (Sp.qf 1 (0 + 1)) (Sp.qf 8 (0 + 1)) /\ Sp.mkC (Sp.qi 1) (Sp.qi 8) = Sp.mkC (Sp.qf 1 (0 + 1)) (Sp.qf 8 (0 + 1))))) -> ((Sp.sgO (Sp.mkA (Sp.qi 1) (Sp.qi 1) (Sp.qi 2)) (Sp.mkB (Sp.qi 1) (Sp.qi 2)) (Sp.mkC (Sp.qi 1) (Sp.qi 2)) = 0) -> (Sp.okO (Sp.mkA (Sp.qi 1) (Sp.qi 1) (Sp.qi 2)) (Sp.mkB (Sp.qi 1) (Sp.qi 2)) (Sp.mkC (Sp.qi 1) (Sp.qi 2))) /\
     (Sp.okM 3 (-2) 2) /\
     (Sp.okM 4 (-3) 2) /\
     ((false = true) -> (Sp.okSd (-1) 1 2 0 0 0)) /\
     ∃ (b1:Bool),
     ((false = true) -> (Ev M1 (Conf.pure 22 [ag [vb false,vf [],vb false,vf [],vb false,vf [],vb false,vf [],vb false,vf [],vb false,vf []],rootF (Sp.mkA (Sp.qf (-1) (0 + 1)) (Sp.qf 1 (0 + 1)) (Sp.qf 2 (0 + 1))) (Sp.mkB (Sp.qf 1 (0 + 1)) (Sp.qf 2 (0 + 1))) (Sp.mkC (Sp.qf 1 (0 + 1)) (Sp.qf 2 (0 + 1)))]) (vb b1) [])) /\
     ((false = true) -> (Sp.ok (Sp.fl (Sp.mkA (Sp.qi 1) (Sp.qi 1) (Sp.qi 2)) (Sp.mkB (Sp.qi 1) (Sp.qi 2)) (Sp.mkC (Sp.qi 1) (Sp.qi 2))) /\ Sp.inI 2)) /\
     ((false = true) -> (Sp.okO (Sp.mkA (Sp.qi 1) (Sp.qi (-1)) (Sp.qi 2)) (Sp.mkB (Sp.qi (-1)) (Sp.qi 2)) (Sp.mkC (Sp.qi (-1)) (Sp.qi 2)))) /\
     ((false = true) -> (Sp.ok (Sp.fl (Sp.mkA (Sp.qi 1) (Sp.qi (-1)) (Sp.qi 2)) (Sp.mkB (Sp.qi (-1)) (Sp.qi 2)) (Sp.mkC (Sp.qi (-1)) (Sp.qi 2))) /\ Sp.inI (-1))) /\
     ((false = true) -> (Sp.okO (Sp.mkA (Sp.qi 3) (Sp.qi (-2)) (Sp.qi 2)) (Sp.mkB (Sp.qi (-2)) (Sp.qi 2)) (Sp.mkC (Sp.qi (-2)) (Sp.qi 2)))) /\
     ((false = true) -> (Sp.okO (Sp.mkA (Sp.qi 4) (Sp.qi (-3)) (Sp.qi 2)) (Sp.mkB (Sp.qi (-3)) (Sp.qi 2)) (Sp.mkC (Sp.qi (-3)) (Sp.qi 2)))) /\
     vb false = dq) /\
    (¬(Sp.sgO (Sp.mkA (Sp.qi 1) (Sp.qi 1) (Sp.qi 2)) (Sp.mkB (Sp.qi 1) (Sp.qi 2)) (Sp.mkC (Sp.qi 1) (Sp.qi 2)) = 0) -> (Sp.okO (Sp.mkA (Sp.qi 1) (Sp.qi 1) (Sp.qi 2)) (Sp.mkB (Sp.qi 1) (Sp.qi 2)) (Sp.mkC (Sp.qi 1) (Sp.qi 2)) /\ Sp.nrm (Sp.mkA (Sp.qi 1) (Sp.qi 1) (Sp.qi 2)) (Sp.mkB (Sp.qi 1) (Sp.qi 2)) (Sp.mkC (Sp.qi 1) (Sp.qi 2))) /\
     (Sp.okM 3 (-2) 2) /\
     (Sp.okM 4 (-3) 2) /\
     ((true = true) -> (Sp.okSd (-1) 1 2 0 0 0)) /\
     (Sp.okO (Sp.mkA (Sp.qi 1) (Sp.qi 1) (Sp.qi 2) * Sp.ivn (Sp.mkA (Sp.qi 1) (Sp.qi 1) (Sp.qi 2)) (Sp.mkB (Sp.qi 1) (Sp.qi 2)) (Sp.mkC (Sp.qi 1) (Sp.qi 2))) (-Sp.mkB (Sp.qi 1) (Sp.qi 2) * Sp.ivn (Sp.mkA (Sp.qi 1) (Sp.qi 1) (Sp.qi 2)) (Sp.mkB (Sp.qi 1) (Sp.qi 2)) (Sp.mkC (Sp.qi 1) (Sp.qi 2))) (Sp.rad (-Sp.mkB (Sp.qi 1) (Sp.qi 2) * Sp.ivn (Sp.mkA (Sp.qi 1) (Sp.qi 1) (Sp.qi 2)) (Sp.mkB (Sp.qi 1) (Sp.qi 2)) (Sp.mkC (Sp.qi 1) (Sp.qi 2))) (Sp.mkC (Sp.qi 1) (Sp.qi 2))) /\ Sp.okO (Sp.mkA (Sp.qf (-1) (0 + 1)) (Sp.qf 1 (0 + 1)) (Sp.qf 2 (0 + 1))) (Sp.mkB (Sp.qf 1 (0 + 1)) (Sp.qf 2 (0 + 1))) (Sp.mkC (Sp.qf 1 (0 + 1)) (Sp.qf 2 (0 + 1)))) /\
     ((Sp.mkA (Sp.qi 1) (Sp.qi 1) (Sp.qi 2) * Sp.ivn (Sp.mkA (Sp.qi 1) (Sp.qi 1) (Sp.qi 2)) (Sp.mkB (Sp.qi 1) (Sp.qi 2)) (Sp.mkC (Sp.qi 1) (Sp.qi 2)) = Sp.mkA (Sp.qf (-1) (0 + 1)) (Sp.qf 1 (0 + 1)) (Sp.qf 2 (0 + 1)) /\ -Sp.mkB (Sp.qi 1) (Sp.qi 2) * Sp.ivn (Sp.mkA (Sp.qi 1) (Sp.qi 1) (Sp.qi 2)) (Sp.mkB (Sp.qi 1) (Sp.qi 2)) (Sp.mkC (Sp.qi 1) (Sp.qi 2)) = Sp.mkB (Sp.qf 1 (0 + 1)) (Sp.qf 2 (0 + 1)) /\ Sp.rad (-Sp.mkB (Sp.qi 1) (Sp.qi 2) * Sp.ivn (Sp.mkA (Sp.qi 1) (Sp.qi 1) (Sp.qi 2)) (Sp.mkB (Sp.qi 1) (Sp.qi 2)) (Sp.mkC (Sp.qi 1) (Sp.qi 2))) (Sp.mkC (Sp.qi 1) (Sp.qi 2)) = Sp.mkC (Sp.qf 1 (0 + 1)) (Sp.qf 2 (0 + 1))) -> (Sp.okO (Sp.mkA (Sp.qi 1) (Sp.qi 1) (Sp.qi 2)) (Sp.mkB (Sp.qi 1) (Sp.qi 2)) (Sp.mkC (Sp.qi 1) (Sp.qi 2)))) /\
     ((Sp.mkA (Sp.qi 1) (Sp.qi 1) (Sp.qi 2) * Sp.ivn (Sp.mkA (Sp.qi 1) (Sp.qi 1) (Sp.qi 2)) (Sp.mkB (Sp.qi 1) (Sp.qi 2)) (Sp.mkC (Sp.qi 1) (Sp.qi 2)) = Sp.mkA (Sp.qf (-1) (0 + 1)) (Sp.qf 1 (0 + 1)) (Sp.qf 2 (0 + 1)) /\ -Sp.mkB (Sp.qi 1) (Sp.qi 2) * Sp.ivn (Sp.mkA (Sp.qi 1) (Sp.qi 1) (Sp.qi 2)) (Sp.mkB (Sp.qi 1) (Sp.qi 2)) (Sp.mkC (Sp.qi 1) (Sp.qi 2)) = Sp.mkB (Sp.qf 1 (0 + 1)) (Sp.qf 2 (0 + 1)) /\ Sp.rad (-Sp.mkB (Sp.qi 1) (Sp.qi 2) * Sp.ivn (Sp.mkA (Sp.qi 1) (Sp.qi 1) (Sp.qi 2)) (Sp.mkB (Sp.qi 1) (Sp.qi 2)) (Sp.mkC (Sp.qi 1) (Sp.qi 2))) (Sp.mkC (Sp.qi 1) (Sp.qi 2)) = Sp.mkC (Sp.qf 1 (0 + 1)) (Sp.qf 2 (0 + 1))) -> (Sp.ok (Sp.fl (Sp.mkA (Sp.qi 1) (Sp.qi 1) (Sp.qi 2)) (Sp.mkB (Sp.qi 1) (Sp.qi 2)) (Sp.mkC (Sp.qi 1) (Sp.qi 2))) /\ Sp.inI 2)) /\
     (((Sp.mkA (Sp.qi 1) (Sp.qi 1) (Sp.qi 2) * Sp.ivn (Sp.mkA (Sp.qi 1) (Sp.qi 1) (Sp.qi 2)) (Sp.mkB (Sp.qi 1) (Sp.qi 2)) (Sp.mkC (Sp.qi 1) (Sp.qi 2)) = Sp.mkA (Sp.qf (-1) (0 + 1)) (Sp.qf 1 (0 + 1)) (Sp.qf 2 (0 + 1)) /\ -Sp.mkB (Sp.qi 1) (Sp.qi 2) * Sp.ivn (Sp.mkA (Sp.qi 1) (Sp.qi 1) (Sp.qi 2)) (Sp.mkB (Sp.qi 1) (Sp.qi 2)) (Sp.mkC (Sp.qi 1) (Sp.qi 2)) = Sp.mkB (Sp.qf 1 (0 + 1)) (Sp.qf 2 (0 + 1)) /\ Sp.rad (-Sp.mkB (Sp.qi 1) (Sp.qi 2) * Sp.ivn (Sp.mkA (Sp.qi 1) (Sp.qi 1) (Sp.qi 2)) (Sp.mkB (Sp.qi 1) (Sp.qi 2)) (Sp.mkC (Sp.qi 1) (Sp.qi 2))) (Sp.mkC (Sp.qi 1) (Sp.qi 2)) = Sp.mkC (Sp.qf 1 (0 + 1)) (Sp.qf 2 (0 + 1))) /\ (Sp.fl (Sp.mkA (Sp.qi 1) (Sp.qi 1) (Sp.qi 2)) (Sp.mkB (Sp.qi 1) (Sp.qi 2)) (Sp.mkC (Sp.qi 1) (Sp.qi 2)) = 2)) -> (Sp.okO (Sp.mkA (Sp.qi 1) (Sp.qi (-1)) (Sp.qi 2)) (Sp.mkB (Sp.qi (-1)) (Sp.qi 2)) (Sp.mkC (Sp.qi (-1)) (Sp.qi 2)))) /\
     (((Sp.mkA (Sp.qi 1) (Sp.qi 1) (Sp.qi 2) * Sp.ivn (Sp.mkA (Sp.qi 1) (Sp.qi 1) (Sp.qi 2)) (Sp.mkB (Sp.qi 1) (Sp.qi 2)) (Sp.mkC (Sp.qi 1) (Sp.qi 2)) = Sp.mkA (Sp.qf (-1) (0 + 1)) (Sp.qf 1 (0 + 1)) (Sp.qf 2 (0 + 1)) /\ -Sp.mkB (Sp.qi 1) (Sp.qi 2) * Sp.ivn (Sp.mkA (Sp.qi 1) (Sp.qi 1) (Sp.qi 2)) (Sp.mkB (Sp.qi 1) (Sp.qi 2)) (Sp.mkC (Sp.qi 1) (Sp.qi 2)) = Sp.mkB (Sp.qf 1 (0 + 1)) (Sp.qf 2 (0 + 1)) /\ Sp.rad (-Sp.mkB (Sp.qi 1) (Sp.qi 2) * Sp.ivn (Sp.mkA (Sp.qi 1) (Sp.qi 1) (Sp.qi 2)) (Sp.mkB (Sp.qi 1) (Sp.qi 2)) (Sp.mkC (Sp.qi 1) (Sp.qi 2))) (Sp.mkC (Sp.qi 1) (Sp.qi 2)) = Sp.mkC (Sp.qf 1 (0 + 1)) (Sp.qf 2 (0 + 1))) /\ (Sp.fl (Sp.mkA (Sp.qi 1) (Sp.qi 1) (Sp.qi 2)) (Sp.mkB (Sp.qi 1) (Sp.qi 2)) (Sp.mkC (Sp.qi 1) (Sp.qi 2)) = 2)) -> (Sp.ok (Sp.fl (Sp.mkA (Sp.qi 1) (Sp.qi (-1)) (Sp.qi 2)) (Sp.mkB (Sp.qi (-1)) (Sp.qi 2)) (Sp.mkC (Sp.qi (-1)) (Sp.qi 2))) /\ Sp.inI (-1))) /\
     ((((Sp.mkA (Sp.qi 1) (Sp.qi 1) (Sp.qi 2) * Sp.ivn (Sp.mkA (Sp.qi 1) (Sp.qi 1) (Sp.qi 2)) (Sp.mkB (Sp.qi 1) (Sp.qi 2)) (Sp.mkC (Sp.qi 1) (Sp.qi 2)) = Sp.mkA (Sp.qf (-1) (0 + 1)) (Sp.qf 1 (0 + 1)) (Sp.qf 2 (0 + 1)) /\ -Sp.mkB (Sp.qi 1) (Sp.qi 2) * Sp.ivn (Sp.mkA (Sp.qi 1) (Sp.qi 1) (Sp.qi 2)) (Sp.mkB (Sp.qi 1) (Sp.qi 2)) (Sp.mkC (Sp.qi 1) (Sp.qi 2)) = Sp.mkB (Sp.qf 1 (0 + 1)) (Sp.qf 2 (0 + 1)) /\ Sp.rad (-Sp.mkB (Sp.qi 1) (Sp.qi 2) * Sp.ivn (Sp.mkA (Sp.qi 1) (Sp.qi 1) (Sp.qi 2)) (Sp.mkB (Sp.qi 1) (Sp.qi 2)) (Sp.mkC (Sp.qi 1) (Sp.qi 2))) (Sp.mkC (Sp.qi 1) (Sp.qi 2)) = Sp.mkC (Sp.qf 1 (0 + 1)) (Sp.qf 2 (0 + 1))) /\ (Sp.fl (Sp.mkA (Sp.qi 1) (Sp.qi 1) (Sp.qi 2)) (Sp.mkB (Sp.qi 1) (Sp.qi 2)) (Sp.mkC (Sp.qi 1) (Sp.qi 2)) = 2)) /\ (Sp.fl (Sp.mkA (Sp.qi 1) (Sp.qi (-1)) (Sp.qi 2)) (Sp.mkB (Sp.qi (-1)) (Sp.qi 2)) (Sp.mkC (Sp.qi (-1)) (Sp.qi 2)) = -1)) -> (Sp.okO (Sp.mkA (Sp.qi 3) (Sp.qi (-2)) (Sp.qi 2)) (Sp.mkB (Sp.qi (-2)) (Sp.qi 2)) (Sp.mkC (Sp.qi (-2)) (Sp.qi 2)))) /\
     (((((Sp.mkA (Sp.qi 1) (Sp.qi 1) (Sp.qi 2) * Sp.ivn (Sp.mkA (Sp.qi 1) (Sp.qi 1) (Sp.qi 2)) (Sp.mkB (Sp.qi 1) (Sp.qi 2)) (Sp.mkC (Sp.qi 1) (Sp.qi 2)) = Sp.mkA (Sp.qf (-1) (0 + 1)) (Sp.qf 1 (0 + 1)) (Sp.qf 2 (0 + 1)) /\ -Sp.mkB (Sp.qi 1) (Sp.qi 2) * Sp.ivn (Sp.mkA (Sp.qi 1) (Sp.qi 1) (Sp.qi 2)) (Sp.mkB (Sp.qi 1) (Sp.qi 2)) (Sp.mkC (Sp.qi 1) (Sp.qi 2)) = Sp.mkB (Sp.qf 1 (0 + 1)) (Sp.qf 2 (0 + 1)) /\ Sp.rad (-Sp.mkB (Sp.qi 1) (Sp.qi 2) * Sp.ivn (Sp.mkA (Sp.qi 1) (Sp.qi 1) (Sp.qi 2)) (Sp.mkB (Sp.qi 1) (Sp.qi 2)) (Sp.mkC (Sp.qi 1) (Sp.qi 2))) (Sp.mkC (Sp.qi 1) (Sp.qi 2)) = Sp.mkC (Sp.qf 1 (0 + 1)) (Sp.qf 2 (0 + 1))) /\ (Sp.fl (Sp.mkA (Sp.qi 1) (Sp.qi 1) (Sp.qi 2)) (Sp.mkB (Sp.qi 1) (Sp.qi 2)) (Sp.mkC (Sp.qi 1) (Sp.qi 2)) = 2)) /\ (Sp.fl (Sp.mkA (Sp.qi 1) (Sp.qi (-1)) (Sp.qi 2)) (Sp.mkB (Sp.qi (-1)) (Sp.qi 2)) (Sp.mkC (Sp.qi (-1)) (Sp.qi 2)) = -1)) /\ (Sp.sgO (Sp.mkA (Sp.qi 3) (Sp.qi (-2)) (Sp.qi 2)) (Sp.mkB (Sp.qi (-2)) (Sp.qi 2)) (Sp.mkC (Sp.qi (-2)) (Sp.qi 2)) = 1)) -> (Sp.okO (Sp.mkA (Sp.qi 4) (Sp.qi (-3)) (Sp.qi 2)) (Sp.mkB (Sp.qi (-3)) (Sp.qi 2)) (Sp.mkC (Sp.qi (-3)) (Sp.qi 2)))) /\
     vb (bif bif bif bif decide (Sp.mkA (Sp.qi 1) (Sp.qi 1) (Sp.qi 2) * Sp.ivn (Sp.mkA (Sp.qi 1) (Sp.qi 1) (Sp.qi 2)) (Sp.mkB (Sp.qi 1) (Sp.qi 2)) (Sp.mkC (Sp.qi 1) (Sp.qi 2)) = Sp.mkA (Sp.qf (-1) (0 + 1)) (Sp.qf 1 (0 + 1)) (Sp.qf 2 (0 + 1)) /\ -Sp.mkB (Sp.qi 1) (Sp.qi 2) * Sp.ivn (Sp.mkA (Sp.qi 1) (Sp.qi 1) (Sp.qi 2)) (Sp.mkB (Sp.qi 1) (Sp.qi 2)) (Sp.mkC (Sp.qi 1) (Sp.qi 2)) = Sp.mkB (Sp.qf 1 (0 + 1)) (Sp.qf 2 (0 + 1)) /\ Sp.rad (-Sp.mkB (Sp.qi 1) (Sp.qi 2) * Sp.ivn (Sp.mkA (Sp.qi 1) (Sp.qi 1) (Sp.qi 2)) (Sp.mkB (Sp.qi 1) (Sp.qi 2)) (Sp.mkC (Sp.qi 1) (Sp.qi 2))) (Sp.mkC (Sp.qi 1) (Sp.qi 2)) = Sp.mkC (Sp.qf 1 (0 + 1)) (Sp.qf 2 (0 + 1))) then decide (Sp.fl (Sp.mkA (Sp.qi 1) (Sp.qi 1) (Sp.qi 2)) (Sp.mkB (Sp.qi 1) (Sp.qi 2)) (Sp.mkC (Sp.qi 1) (Sp.qi 2)) = 2) else false then decide (Sp.fl (Sp.mkA (Sp.qi 1) (Sp.qi (-1)) (Sp.qi 2)) (Sp.mkB (Sp.qi (-1)) (Sp.qi 2)) (Sp.mkC (Sp.qi (-1)) (Sp.qi 2)) = -1) else false then Sp.sgO (Sp.mkA (Sp.qi 3) (Sp.qi (-2)) (Sp.qi 2)) (Sp.mkB (Sp.qi (-2)) (Sp.qi 2)) (Sp.mkC (Sp.qi (-2)) (Sp.qi 2)) == 1 else false then Sp.sgO (Sp.mkA (Sp.qi 4) (Sp.qi (-3)) (Sp.qi 2)) (Sp.mkB (Sp.qi (-3)) (Sp.qi 2)) (Sp.mkC (Sp.qi (-3)) (Sp.qi 2)) == -1 else false) = dq))) /\
  (¬(Sp.isNN (Sp.qf 9 4)) -> (Sp.okO (Sp.qi 1) (Sp.qi 2) (Sp.qf 9 4)) /\
   (Sp.okM 0 1 8) /\
   (Sp.okM 1 1 2) /\
   (Sp.okM 1 (-1) 2) /\
   ((¬(true = true)) -> (Sp.inI 4)) /\
   ∃ (b2:Bool),
   ((false = true) -> (Ev M1 (Conf.pure 22 [ag [vb false,vf [],vb false,vf [],vb false,vf [],vb false,vf [],vb false,vf [],vb false,vf []],rootF (Sp.qi 4) (Sp.qi 0) (Sp.qi 0)]) (vb b2) [])) /\
   ((false = true) -> (Sp.okSd 0 1 8 0 0 0)) /\
   ((false = true) -> (Sp.okO (Sp.mkA (Sp.qi 0) (Sp.qi 1) (Sp.qi 8)) (Sp.mkB (Sp.qi 1) (Sp.qi 8)) (Sp.mkC (Sp.qi 1) (Sp.qi 8)) /\ Sp.okO (Sp.mkA (Sp.qf 0 (0 + 1)) (Sp.qf 1 (0 + 1)) (Sp.qf 8 (0 + 1))) (Sp.mkB (Sp.qf 1 (0 + 1)) (Sp.qf 8 (0 + 1))) (Sp.mkC (Sp.qf 1 (0 + 1)) (Sp.qf 8 (0 + 1))))) /\
   vb false = dq)) :
 lAwake_at  (PureQ dq):=by
 unfold lAwake_at
 obtain ⟨k1,H⟩:=H
 obtain ⟨k2,H⟩:=H
 obtain ⟨k3,H⟩:=H
 rcases xm (Sp.isNN (Sp.qf 9 4)) with d4 | d4
 ·have H:=H.1 d4
  obtain ⟨k5,H⟩:=H
  obtain ⟨k6,H⟩:=H
  obtain ⟨k7,H⟩:=H
  obtain ⟨k8,H⟩:=H
  obtain ⟨k10,H⟩:=H
  obtain ⟨k11,H⟩:=H
  obtain ⟨k13,H⟩:=H
  obtain ⟨k15,H⟩:=H
  refine path_wp (G:=given kp9 [(1,0,.call (ratA false false (Sp.qi 1)) none),(1,1,.call (ratA false false (Sp.qi 2)) none),(1,2,.call (ratA false false (Sp.qf 9 4)) none),(1,3,.call (tu [rootF (Sp.mkA (Sp.qi 1) (Sp.qi 2) (Sp.qf 9 4)) (Sp.mkB (Sp.qi 2) (Sp.qf 9 4)) (Sp.mkC (Sp.qi 2) (Sp.qf 9 4)),vi 0]) none),(2,0,.call (tu [rootF (Sp.mkA (Sp.qi 0) (Sp.qi 1) (Sp.qi 8)) (Sp.mkB (Sp.qi 1) (Sp.qi 8)) (Sp.mkC (Sp.qi 1) (Sp.qi 8)),vb true]) none),(3,0,.call (tu [rootF (Sp.mkA (Sp.qi 1) (Sp.qi 1) (Sp.qi 2)) (Sp.mkB (Sp.qi 1) (Sp.qi 2)) (Sp.mkC (Sp.qi 1) (Sp.qi 2)),vb true]) none),(4,0,.call (tu [rootF (Sp.mkA (Sp.qi 1) (Sp.qi (-1)) (Sp.qi 2)) (Sp.mkB (Sp.qi (-1)) (Sp.qi 2)) (Sp.mkC (Sp.qi (-1)) (Sp.qi 2)),vb true]) none),(5,16,.call (rootF (Sp.qi 4) (Sp.qi 0) (Sp.qi 0)) none),(5,17,.call (vb (decide zNxF8)) none),(5,23,.call (rootF zNxF9 (Sp.mkB (Sp.qf 1 (0 + 1)) (Sp.qf 8 (0 + 1))) (Sp.mkC (Sp.qf 1 (0 + 1)) (Sp.qf 8 (0 + 1)))) none),(5,24,.call (vb (decide zNxF2)) none)] []) 13 [] ⟨(atC (cd Tryz.f9) [1,1,1,1,1,0,1]),[(5,AV.ptr 2 0 0 0),(7,AV.ptr 3 0 0 0),(60,vb (bif !decide zNxF8 then true else !decide zNxF2))],[⟨[rootF (Sp.mkA (Sp.qi 1) (Sp.qi 2) (Sp.qf 9 4)) (Sp.mkB (Sp.qi 2) (Sp.qf 9 4)) (Sp.mkC (Sp.qi 2) (Sp.qf 9 4))],12,0,false,false⟩,⟨[rootF (Sp.mkA (Sp.qi 0) (Sp.qi 1) (Sp.qi 8)) (Sp.mkB (Sp.qi 1) (Sp.qi 8)) (Sp.mkC (Sp.qi 1) (Sp.qi 8))],12,0,false,false⟩,⟨[rootF (Sp.mkA (Sp.qi 1) (Sp.qi 1) (Sp.qi 2)) (Sp.mkB (Sp.qi 1) (Sp.qi 2)) (Sp.mkC (Sp.qi 1) (Sp.qi 2))],12,0,false,false⟩,⟨[rootF (Sp.mkA (Sp.qi 1) (Sp.qi (-1)) (Sp.qi 2)) (Sp.mkB (Sp.qi (-1)) (Sp.qi 2)) (Sp.mkC (Sp.qi (-1)) (Sp.qi 2))],12,0,false,false⟩],[true,true,true,true,true,!((!decide zNxF8) == false && true) || true],[],[⟨true,false,18,[vi 1],[],ratA false false (Sp.qi 1),[]⟩,⟨true,false,18,[vi 2],[],ratA false false (Sp.qi 2),[]⟩,⟨true,false,43,[vi 9,vi 4],[],ratA false false (Sp.qf 9 4),[]⟩,⟨true,false,42,[ratA false false (Sp.qi 1),ratA false false (Sp.qi 2),ratA false false (Sp.qf 9 4)],[],tu [rootF (Sp.mkA (Sp.qi 1) (Sp.qi 2) (Sp.qf 9 4)) (Sp.mkB (Sp.qi 2) (Sp.qf 9 4)) (Sp.mkC (Sp.qi 2) (Sp.qf 9 4)),vi 0],[]⟩,⟨true,false,44,[vi 0,vi 1,vi 8],[],tu [rootF (Sp.mkA (Sp.qi 0) (Sp.qi 1) (Sp.qi 8)) (Sp.mkB (Sp.qi 1) (Sp.qi 8)) (Sp.mkC (Sp.qi 1) (Sp.qi 8)),vb true],[]⟩,⟨true,false,44,[vi 1,vi 1,vi 2],[],tu [rootF (Sp.mkA (Sp.qi 1) (Sp.qi 1) (Sp.qi 2)) (Sp.mkB (Sp.qi 1) (Sp.qi 2)) (Sp.mkC (Sp.qi 1) (Sp.qi 2)),vb true],[]⟩,⟨true,false,44,[vi 1,vi (-1),vi 2],[],tu [rootF (Sp.mkA (Sp.qi 1) (Sp.qi (-1)) (Sp.qi 2)) (Sp.mkB (Sp.qi (-1)) (Sp.qi 2)) (Sp.mkC (Sp.qi (-1)) (Sp.qi 2)),vb true],[]⟩,⟨false == false && true && true,false,41,[vi 4],[],rootF (Sp.qi 4) (Sp.qi 0) (Sp.qi 0),[]⟩,⟨true,false,22,[rootF (Sp.mkA (Sp.qi 1) (Sp.qi 2) (Sp.qf 9 4)) (Sp.mkB (Sp.qi 2) (Sp.qf 9 4)) (Sp.mkC (Sp.qi 2) (Sp.qf 9 4)),rootF (Sp.qi 4) (Sp.qi 0) (Sp.qi 0)],[],vb (decide zNxF8),[]⟩,⟨(!decide zNxF8) == false && true && true,false,45,[zNxF16],[],rootF zNxF9 (Sp.mkB (Sp.qf 1 (0 + 1)) (Sp.qf 8 (0 + 1))) (Sp.mkC (Sp.qf 1 (0 + 1)) (Sp.qf 8 (0 + 1))),[]⟩,⟨(!decide zNxF8) == false && true && true,false,22,[rootF (Sp.mkA (Sp.qi 0) (Sp.qi 1) (Sp.qi 8)) (Sp.mkB (Sp.qi 1) (Sp.qi 8)) (Sp.mkC (Sp.qi 1) (Sp.qi 8)),rootF zNxF9 (Sp.mkB (Sp.qf 1 (0 + 1)) (Sp.qf 8 (0 + 1))) (Sp.mkC (Sp.qf 1 (0 + 1)) (Sp.qf 8 (0 + 1)))],[],vb (decide zNxF2),[]⟩]⟩ (by kernel_rfl) (bc rfl (bc rfl (bc rfl (bc rfl (bc rfl (bc (Bool.or_true _) b0)))))) q0 (cc (fun _ => (@ev18 (1) k1)) (cc (fun _ => (@ev18 (2) k2)) (cc (fun _ => (@ev43 (9) (4) k3)) (cc (fun _ => (@ev42_y (false) (false) (false) (false) (false) (false) (Sp.qi 1) (Sp.qi 2) (Sp.qf 9 4) k5 d4)) (cc (fun _ => (@ev44 (0) (1) (8) k6)) (cc (fun _ => (@ev44 (1) (1) (2) k7)) (cc (fun _ => (@ev44 (1) (-1) (2) k8)) (cc (fun hc => ((@ev41 (4) (k10 ((i_at (i_at (i_bf (i_var _)))).1 hc))):Ev M1 (Conf.pure 41 [vi 4]) (rootF (Sp.qi 4) (Sp.qi 0) (Sp.qi 0)) [])) (cc (fun _ => (@ev22 (false) (false) (false) (false) (false) (false) (false) (false) (false) (false) (false) (false) (Sp.mkA (Sp.qi 1) (Sp.qi 2) (Sp.qf 9 4)) (Sp.mkB (Sp.qi 2) (Sp.qf 9 4)) (Sp.mkC (Sp.qi 2) (Sp.qf 9 4)) (Sp.qi 4) (Sp.qi 0) (Sp.qi 0) k11)) (cc (fun hc => ((@ev45 (0) (1) (8) (0) (0) (0) (k13 ((i_at (i_at (i_bf (i_not i_dec)))).1 hc))):Ev M1 (Conf.pure 45 [zNxF16]) (rootF zNxF9 (Sp.mkB (Sp.qf 1 (0 + 1)) (Sp.qf 8 (0 + 1))) (Sp.mkC (Sp.qf 1 (0 + 1)) (Sp.qf 8 (0 + 1)))) [])) (cc (fun hc => ((@ev22 (false) (false) (false) (false) (false) (false) (false) (false) (false) (false) (false) (false) (Sp.mkA (Sp.qi 0) (Sp.qi 1) (Sp.qi 8)) (Sp.mkB (Sp.qi 1) (Sp.qi 8)) (Sp.mkC (Sp.qi 1) (Sp.qi 8)) zNxF9 (Sp.mkB (Sp.qf 1 (0 + 1)) (Sp.qf 8 (0 + 1))) (Sp.mkC (Sp.qf 1 (0 + 1)) (Sp.qf 8 (0 + 1))) (k15 ((i_at (i_at (i_bf (i_not i_dec)))).1 hc))):Ev M1 (Conf.pure 22 [rootF (Sp.mkA (Sp.qi 0) (Sp.qi 1) (Sp.qi 8)) (Sp.mkB (Sp.qi 1) (Sp.qi 8)) (Sp.mkC (Sp.qi 1) (Sp.qi 8)),rootF zNxF9 (Sp.mkB (Sp.qf 1 (0 + 1)) (Sp.qf 8 (0 + 1))) (Sp.mkC (Sp.qf 1 (0 + 1)) (Sp.qf 8 (0 + 1)))]) (vb (decide zNxF2)) [])) c0))))))))))) ?_
  rcases xm ((¬zNxF8) \/ (¬zNxF2)) with d17 | d17
  ·have H:=H.1 d17
   exact path_re (G:=given kp9 [] []) 1000 [true] (vb false) (by kernel_rfl) (bc (beq_t ((i_bor (i_not i_dec) (i_not i_dec)).2 d17)) b0) q0 c0 H
  ·have H:=H.2 d17
   rcases xm (Sp.sgO (Sp.mkA (Sp.qi 1) (Sp.qi 1) (Sp.qi 2)) (Sp.mkB (Sp.qi 1) (Sp.qi 2)) (Sp.mkC (Sp.qi 1) (Sp.qi 2)) = 0) with d18 | d18
   ·have H:=H.1 d18
    obtain ⟨k19,H⟩:=H
    obtain ⟨k20,H⟩:=H
    obtain ⟨k21,H⟩:=H
    obtain ⟨k23,H⟩:=H
    obtain ⟨b1,H⟩:=H
    obtain ⟨k25,H⟩:=H
    obtain ⟨k28,H⟩:=H
    obtain ⟨k30,H⟩:=H
    obtain ⟨k32,H⟩:=H
    obtain ⟨k34,H⟩:=H
    obtain ⟨k36,H⟩:=H
    exact path_re (G:=given kp9 [(7,1,.call (tu [zNxF3,vi 6]) none),(8,0,.call (tu [rootF (Sp.mkA (Sp.qi 3) (Sp.qi (-2)) (Sp.qi 2)) (Sp.mkB (Sp.qi (-2)) (Sp.qi 2)) (Sp.mkC (Sp.qi (-2)) (Sp.qi 2)),vb true]) none),(9,0,.call (tu [rootF (Sp.mkA (Sp.qi 4) (Sp.qi (-3)) (Sp.qi 2)) (Sp.mkB (Sp.qi (-3)) (Sp.qi 2)) (Sp.mkC (Sp.qi (-3)) (Sp.qi 2)),vb true]) none),(10,5,.call (rootF zNxF12 (Sp.mkB (Sp.qf 1 (0 + 1)) (Sp.qf 2 (0 + 1))) (Sp.mkC (Sp.qf 1 (0 + 1)) (Sp.qf 2 (0 + 1)))) none),(10,6,.call (vb b1) none),(10,10,.call (bigA false zNxF7) none),(10,11,.call (vb (decide zNxF4)) none),(10,15,.call (bigA false zNxF5) none),(10,16,.call (vb (decide zNxF6)) none),(10,20,.call (vi zNxF10) none),(10,25,.call (vi zNxF11) none)] []) 1000 [false] (calls:=[⟨true,false,39,[rootF (Sp.mkA (Sp.qi 1) (Sp.qi 1) (Sp.qi 2)) (Sp.mkB (Sp.qi 1) (Sp.qi 2)) (Sp.mkC (Sp.qi 1) (Sp.qi 2))],[],tu [zNxF3,vi 6],[]⟩,⟨true,false,44,[vi 3,vi (-2),vi 2],[],tu [rootF (Sp.mkA (Sp.qi 3) (Sp.qi (-2)) (Sp.qi 2)) (Sp.mkB (Sp.qi (-2)) (Sp.qi 2)) (Sp.mkC (Sp.qi (-2)) (Sp.qi 2)),vb true],[]⟩,⟨true,false,44,[vi 4,vi (-3),vi 2],[],tu [rootF (Sp.mkA (Sp.qi 4) (Sp.qi (-3)) (Sp.qi 2)) (Sp.mkB (Sp.qi (-3)) (Sp.qi 2)) (Sp.mkC (Sp.qi (-3)) (Sp.qi 2)),vb true],[]⟩,⟨false == true && true && true,false,45,[zNxF15],[],rootF zNxF12 (Sp.mkB (Sp.qf 1 (0 + 1)) (Sp.qf 2 (0 + 1))) (Sp.mkC (Sp.qf 1 (0 + 1)) (Sp.qf 2 (0 + 1))),[]⟩,⟨false,false,22,[zNxF3,rootF zNxF12 (Sp.mkB (Sp.qf 1 (0 + 1)) (Sp.qf 2 (0 + 1))) (Sp.mkC (Sp.qf 1 (0 + 1)) (Sp.qf 2 (0 + 1)))],[],vb b1,[]⟩,⟨false,false,11,[rootF (Sp.mkA (Sp.qi 1) (Sp.qi 1) (Sp.qi 2)) (Sp.mkB (Sp.qi 1) (Sp.qi 2)) (Sp.mkC (Sp.qi 1) (Sp.qi 2))],[],bigA false zNxF7,[]⟩,⟨false,false,46,[bigA false zNxF7,vi 2],[],vb (decide zNxF4),[]⟩,⟨false,false,11,[rootF (Sp.mkA (Sp.qi 1) (Sp.qi (-1)) (Sp.qi 2)) (Sp.mkB (Sp.qi (-1)) (Sp.qi 2)) (Sp.mkC (Sp.qi (-1)) (Sp.qi 2))],[],bigA false zNxF5,[]⟩,⟨false,false,46,[bigA false zNxF5,vi (-1)],[],vb (decide zNxF6),[]⟩,⟨false,false,20,[rootF (Sp.mkA (Sp.qi 3) (Sp.qi (-2)) (Sp.qi 2)) (Sp.mkB (Sp.qi (-2)) (Sp.qi 2)) (Sp.mkC (Sp.qi (-2)) (Sp.qi 2))],[],vi zNxF10,[]⟩,⟨false,false,20,[rootF (Sp.mkA (Sp.qi 4) (Sp.qi (-3)) (Sp.qi 2)) (Sp.mkB (Sp.qi (-3)) (Sp.qi 2)) (Sp.mkC (Sp.qi (-3)) (Sp.qi 2))],[],vi zNxF11,[]⟩]) (vb false) (by kernel_rfl) (bc (beq_f (fun h => d17 ((i_bor (i_not i_dec) (i_not i_dec)).1 h))) (bc rfl (bc rfl (bc rfl (bc rfl (bc rfl (bc rfl (bc rfl (bc rfl (bc rfl b0)))))))))) q0 (cc (fun _ => (@ev39_y (false) (false) (false) (false) (false) (false) (Sp.mkA (Sp.qi 1) (Sp.qi 1) (Sp.qi 2)) (Sp.mkB (Sp.qi 1) (Sp.qi 2)) (Sp.mkC (Sp.qi 1) (Sp.qi 2)) k19 d18)) (cc (fun _ => (@ev44 (3) (-2) (2) k20)) (cc (fun _ => (@ev44 (4) (-3) (2) k21)) (cc (fun hc => ((@ev45 (-1) (1) (2) (0) (0) (0) (k23 ((i_at (i_at (i_bt (i_var _)))).1 hc))):Ev M1 (Conf.pure 45 [zNxF15]) (rootF zNxF12 (Sp.mkB (Sp.qf 1 (0 + 1)) (Sp.qf 2 (0 + 1))) (Sp.mkC (Sp.qf 1 (0 + 1)) (Sp.qf 2 (0 + 1)))) [])) (cc (fun hc => ((k25 ((i_var _).1 hc)):Ev M1 (Conf.pure 22 [zNxF3,rootF zNxF12 (Sp.mkB (Sp.qf 1 (0 + 1)) (Sp.qf 2 (0 + 1))) (Sp.mkC (Sp.qf 1 (0 + 1)) (Sp.qf 2 (0 + 1)))]) (vb b1) [])) (cc (fun hc => ((@ev11 (false) (false) (false) (false) (false) (false) (Sp.mkA (Sp.qi 1) (Sp.qi 1) (Sp.qi 2)) (Sp.mkB (Sp.qi 1) (Sp.qi 2)) (Sp.mkC (Sp.qi 1) (Sp.qi 2)) k19):Ev M1 (Conf.pure 11 [rootF (Sp.mkA (Sp.qi 1) (Sp.qi 1) (Sp.qi 2)) (Sp.mkB (Sp.qi 1) (Sp.qi 2)) (Sp.mkC (Sp.qi 1) (Sp.qi 2))]) (bigA false zNxF7) [])) (cc (fun hc => ((@ev46 (false) zNxF7 (2) (k28 ((i_var _).1 hc))):Ev M1 (Conf.pure 46 [bigA false zNxF7,vi 2]) (vb (decide zNxF4)) [])) (cc (fun hc => ((@ev11 (false) (false) (false) (false) (false) (false) (Sp.mkA (Sp.qi 1) (Sp.qi (-1)) (Sp.qi 2)) (Sp.mkB (Sp.qi (-1)) (Sp.qi 2)) (Sp.mkC (Sp.qi (-1)) (Sp.qi 2)) (k30 ((i_var _).1 hc))):Ev M1 (Conf.pure 11 [rootF (Sp.mkA (Sp.qi 1) (Sp.qi (-1)) (Sp.qi 2)) (Sp.mkB (Sp.qi (-1)) (Sp.qi 2)) (Sp.mkC (Sp.qi (-1)) (Sp.qi 2))]) (bigA false zNxF5) [])) (cc (fun hc => ((@ev46 (false) zNxF5 (-1) (k32 ((i_var _).1 hc))):Ev M1 (Conf.pure 46 [bigA false zNxF5,vi (-1)]) (vb (decide zNxF6)) [])) (cc (fun hc => ((@ev20 (false) (false) (false) (false) (false) (false) (Sp.mkA (Sp.qi 3) (Sp.qi (-2)) (Sp.qi 2)) (Sp.mkB (Sp.qi (-2)) (Sp.qi 2)) (Sp.mkC (Sp.qi (-2)) (Sp.qi 2)) (k34 ((i_var _).1 hc))):Ev M1 (Conf.pure 20 [rootF (Sp.mkA (Sp.qi 3) (Sp.qi (-2)) (Sp.qi 2)) (Sp.mkB (Sp.qi (-2)) (Sp.qi 2)) (Sp.mkC (Sp.qi (-2)) (Sp.qi 2))]) (vi zNxF10) [])) (cc (fun hc => ((@ev20 (false) (false) (false) (false) (false) (false) (Sp.mkA (Sp.qi 4) (Sp.qi (-3)) (Sp.qi 2)) (Sp.mkB (Sp.qi (-3)) (Sp.qi 2)) (Sp.mkC (Sp.qi (-3)) (Sp.qi 2)) (k36 ((i_var _).1 hc))):Ev M1 (Conf.pure 20 [rootF (Sp.mkA (Sp.qi 4) (Sp.qi (-3)) (Sp.qi 2)) (Sp.mkB (Sp.qi (-3)) (Sp.qi 2)) (Sp.mkC (Sp.qi (-3)) (Sp.qi 2))]) (vi zNxF11) [])) c0))))))))))) H
   ·have H:=H.2 d18
    obtain ⟨k37,H⟩:=H
    obtain ⟨k38,H⟩:=H
    obtain ⟨k39,H⟩:=H
    obtain ⟨k41,H⟩:=H
    obtain ⟨k42,H⟩:=H
    obtain ⟨k44,H⟩:=H
    obtain ⟨k46,H⟩:=H
    obtain ⟨k48,H⟩:=H
    obtain ⟨k50,H⟩:=H
    obtain ⟨k52,H⟩:=H
    obtain ⟨k54,H⟩:=H
    exact path_re (G:=given kp9 [(7,1,.call (tu [rootF zNxF14 (-Sp.mkB (Sp.qi 1) (Sp.qi 2) * Sp.ivn (Sp.mkA (Sp.qi 1) (Sp.qi 1) (Sp.qi 2)) (Sp.mkB (Sp.qi 1) (Sp.qi 2)) (Sp.mkC (Sp.qi 1) (Sp.qi 2))) zNxF13,vi 0]) none),(8,0,.call (tu [rootF (Sp.mkA (Sp.qi 3) (Sp.qi (-2)) (Sp.qi 2)) (Sp.mkB (Sp.qi (-2)) (Sp.qi 2)) (Sp.mkC (Sp.qi (-2)) (Sp.qi 2)),vb true]) none),(9,0,.call (tu [rootF (Sp.mkA (Sp.qi 4) (Sp.qi (-3)) (Sp.qi 2)) (Sp.mkB (Sp.qi (-3)) (Sp.qi 2)) (Sp.mkC (Sp.qi (-3)) (Sp.qi 2)),vb true]) none),(10,5,.call (rootF zNxF12 (Sp.mkB (Sp.qf 1 (0 + 1)) (Sp.qf 2 (0 + 1))) (Sp.mkC (Sp.qf 1 (0 + 1)) (Sp.qf 2 (0 + 1)))) none),(10,6,.call (vb (decide zNxF1)) none),(10,10,.call (bigA false zNxF7) none),(10,11,.call (vb (decide zNxF4)) none),(10,15,.call (bigA false zNxF5) none),(10,16,.call (vb (decide zNxF6)) none),(10,20,.call (vi zNxF10) none),(10,25,.call (vi zNxF11) none)] []) 1000 [false] (asm:=[(bif !decide zNxF8 then true else !decide zNxF2) == false,true,true,true,true,true,!(decide zNxF1 == true && true) || true,!((bif decide zNxF1 then decide zNxF4 else false) == true && true) || true,!((bif bif decide zNxF1 then decide zNxF4 else false then decide zNxF6 else false) == true && true) || true,!(zNxF17 == true && true) || true]) (calls:=[⟨true,false,39,[rootF (Sp.mkA (Sp.qi 1) (Sp.qi 1) (Sp.qi 2)) (Sp.mkB (Sp.qi 1) (Sp.qi 2)) (Sp.mkC (Sp.qi 1) (Sp.qi 2))],[],tu [rootF zNxF14 (-Sp.mkB (Sp.qi 1) (Sp.qi 2) * Sp.ivn (Sp.mkA (Sp.qi 1) (Sp.qi 1) (Sp.qi 2)) (Sp.mkB (Sp.qi 1) (Sp.qi 2)) (Sp.mkC (Sp.qi 1) (Sp.qi 2))) zNxF13,vi 0],[]⟩,⟨true,false,44,[vi 3,vi (-2),vi 2],[],tu [rootF (Sp.mkA (Sp.qi 3) (Sp.qi (-2)) (Sp.qi 2)) (Sp.mkB (Sp.qi (-2)) (Sp.qi 2)) (Sp.mkC (Sp.qi (-2)) (Sp.qi 2)),vb true],[]⟩,⟨true,false,44,[vi 4,vi (-3),vi 2],[],tu [rootF (Sp.mkA (Sp.qi 4) (Sp.qi (-3)) (Sp.qi 2)) (Sp.mkB (Sp.qi (-3)) (Sp.qi 2)) (Sp.mkC (Sp.qi (-3)) (Sp.qi 2)),vb true],[]⟩,⟨true == true && true && true,false,45,[zNxF15],[],rootF zNxF12 (Sp.mkB (Sp.qf 1 (0 + 1)) (Sp.qf 2 (0 + 1))) (Sp.mkC (Sp.qf 1 (0 + 1)) (Sp.qf 2 (0 + 1))),[]⟩,⟨true,false,22,[rootF zNxF14 (-Sp.mkB (Sp.qi 1) (Sp.qi 2) * Sp.ivn (Sp.mkA (Sp.qi 1) (Sp.qi 1) (Sp.qi 2)) (Sp.mkB (Sp.qi 1) (Sp.qi 2)) (Sp.mkC (Sp.qi 1) (Sp.qi 2))) zNxF13,rootF zNxF12 (Sp.mkB (Sp.qf 1 (0 + 1)) (Sp.qf 2 (0 + 1))) (Sp.mkC (Sp.qf 1 (0 + 1)) (Sp.qf 2 (0 + 1)))],[],vb (decide zNxF1),[]⟩,⟨decide zNxF1 == true && true && true,false,11,[rootF (Sp.mkA (Sp.qi 1) (Sp.qi 1) (Sp.qi 2)) (Sp.mkB (Sp.qi 1) (Sp.qi 2)) (Sp.mkC (Sp.qi 1) (Sp.qi 2))],[],bigA false zNxF7,[]⟩,⟨decide zNxF1 == true && true && true,false,46,[bigA false zNxF7,vi 2],[],vb (decide zNxF4),[]⟩,⟨(bif decide zNxF1 then decide zNxF4 else false) == true && true && true,false,11,[rootF (Sp.mkA (Sp.qi 1) (Sp.qi (-1)) (Sp.qi 2)) (Sp.mkB (Sp.qi (-1)) (Sp.qi 2)) (Sp.mkC (Sp.qi (-1)) (Sp.qi 2))],[],bigA false zNxF5,[]⟩,⟨(bif decide zNxF1 then decide zNxF4 else false) == true && true && true,false,46,[bigA false zNxF5,vi (-1)],[],vb (decide zNxF6),[]⟩,⟨(bif bif decide zNxF1 then decide zNxF4 else false then decide zNxF6 else false) == true && true && true,false,20,[rootF (Sp.mkA (Sp.qi 3) (Sp.qi (-2)) (Sp.qi 2)) (Sp.mkB (Sp.qi (-2)) (Sp.qi 2)) (Sp.mkC (Sp.qi (-2)) (Sp.qi 2))],[],vi zNxF10,[]⟩,⟨zNxF17 == true && true && true,false,20,[rootF (Sp.mkA (Sp.qi 4) (Sp.qi (-3)) (Sp.qi 2)) (Sp.mkB (Sp.qi (-3)) (Sp.qi 2)) (Sp.mkC (Sp.qi (-3)) (Sp.qi 2))],[],vi zNxF11,[]⟩]) (vb (bif bif bif bif decide zNxF1 then decide zNxF4 else false then decide zNxF6 else false then Sp.sgO (Sp.mkA (Sp.qi 3) (Sp.qi (-2)) (Sp.qi 2)) (Sp.mkB (Sp.qi (-2)) (Sp.qi 2)) (Sp.mkC (Sp.qi (-2)) (Sp.qi 2)) == 1 else false then Sp.sgO (Sp.mkA (Sp.qi 4) (Sp.qi (-3)) (Sp.qi 2)) (Sp.mkB (Sp.qi (-3)) (Sp.qi 2)) (Sp.mkC (Sp.qi (-3)) (Sp.qi 2)) == -1 else false)) (by kernel_rfl) (bc (beq_f (fun h => d17 ((i_bor (i_not i_dec) (i_not i_dec)).1 h))) (bc rfl (bc rfl (bc rfl (bc rfl (bc rfl (bc (Bool.or_true _) (bc (Bool.or_true _) (bc (Bool.or_true _) (bc (Bool.or_true _) b0)))))))))) q0 (cc (fun _ => (@ev39_n (false) (false) (false) (false) (false) (false) (Sp.mkA (Sp.qi 1) (Sp.qi 1) (Sp.qi 2)) (Sp.mkB (Sp.qi 1) (Sp.qi 2)) (Sp.mkC (Sp.qi 1) (Sp.qi 2)) k37 d18)) (cc (fun _ => (@ev44 (3) (-2) (2) k38)) (cc (fun _ => (@ev44 (4) (-3) (2) k39)) (cc (fun hc => ((@ev45 (-1) (1) (2) (0) (0) (0) (k41 ((i_at (i_at (i_bt (i_var _)))).1 hc))):Ev M1 (Conf.pure 45 [zNxF15]) (rootF zNxF12 (Sp.mkB (Sp.qf 1 (0 + 1)) (Sp.qf 2 (0 + 1))) (Sp.mkC (Sp.qf 1 (0 + 1)) (Sp.qf 2 (0 + 1)))) [])) (cc (fun _ => (@ev22 (false) (false) (false) (false) (false) (false) (false) (false) (false) (false) (false) (false) zNxF14 (-Sp.mkB (Sp.qi 1) (Sp.qi 2) * Sp.ivn (Sp.mkA (Sp.qi 1) (Sp.qi 1) (Sp.qi 2)) (Sp.mkB (Sp.qi 1) (Sp.qi 2)) (Sp.mkC (Sp.qi 1) (Sp.qi 2))) zNxF13 zNxF12 (Sp.mkB (Sp.qf 1 (0 + 1)) (Sp.qf 2 (0 + 1))) (Sp.mkC (Sp.qf 1 (0 + 1)) (Sp.qf 2 (0 + 1))) k42)) (cc (fun hc => ((@ev11 (false) (false) (false) (false) (false) (false) (Sp.mkA (Sp.qi 1) (Sp.qi 1) (Sp.qi 2)) (Sp.mkB (Sp.qi 1) (Sp.qi 2)) (Sp.mkC (Sp.qi 1) (Sp.qi 2)) (k44 ((i_at (i_at (i_bt i_dec))).1 hc))):Ev M1 (Conf.pure 11 [rootF (Sp.mkA (Sp.qi 1) (Sp.qi 1) (Sp.qi 2)) (Sp.mkB (Sp.qi 1) (Sp.qi 2)) (Sp.mkC (Sp.qi 1) (Sp.qi 2))]) (bigA false zNxF7) [])) (cc (fun hc => ((@ev46 (false) zNxF7 (2) (k46 ((i_at (i_at (i_bt i_dec))).1 hc))):Ev M1 (Conf.pure 46 [bigA false zNxF7,vi 2]) (vb (decide zNxF4)) [])) (cc (fun hc => ((@ev11 (false) (false) (false) (false) (false) (false) (Sp.mkA (Sp.qi 1) (Sp.qi (-1)) (Sp.qi 2)) (Sp.mkB (Sp.qi (-1)) (Sp.qi 2)) (Sp.mkC (Sp.qi (-1)) (Sp.qi 2)) (k48 ((i_at (i_at (i_bt (i_band i_dec i_dec)))).1 hc))):Ev M1 (Conf.pure 11 [rootF (Sp.mkA (Sp.qi 1) (Sp.qi (-1)) (Sp.qi 2)) (Sp.mkB (Sp.qi (-1)) (Sp.qi 2)) (Sp.mkC (Sp.qi (-1)) (Sp.qi 2))]) (bigA false zNxF5) [])) (cc (fun hc => ((@ev46 (false) zNxF5 (-1) (k50 ((i_at (i_at (i_bt (i_band i_dec i_dec)))).1 hc))):Ev M1 (Conf.pure 46 [bigA false zNxF5,vi (-1)]) (vb (decide zNxF6)) [])) (cc (fun hc => ((@ev20 (false) (false) (false) (false) (false) (false) (Sp.mkA (Sp.qi 3) (Sp.qi (-2)) (Sp.qi 2)) (Sp.mkB (Sp.qi (-2)) (Sp.qi 2)) (Sp.mkC (Sp.qi (-2)) (Sp.qi 2)) (k52 ((i_at (i_at (i_bt (i_band (i_band i_dec i_dec) i_dec)))).1 hc))):Ev M1 (Conf.pure 20 [rootF (Sp.mkA (Sp.qi 3) (Sp.qi (-2)) (Sp.qi 2)) (Sp.mkB (Sp.qi (-2)) (Sp.qi 2)) (Sp.mkC (Sp.qi (-2)) (Sp.qi 2))]) (vi zNxF10) [])) (cc (fun hc => ((@ev20 (false) (false) (false) (false) (false) (false) (Sp.mkA (Sp.qi 4) (Sp.qi (-3)) (Sp.qi 2)) (Sp.mkB (Sp.qi (-3)) (Sp.qi 2)) (Sp.mkC (Sp.qi (-3)) (Sp.qi 2)) (k54 ((i_at (i_at (i_bt (i_band (i_band (i_band i_dec i_dec) i_dec) i_eq)))).1 hc))):Ev M1 (Conf.pure 20 [rootF (Sp.mkA (Sp.qi 4) (Sp.qi (-3)) (Sp.qi 2)) (Sp.mkB (Sp.qi (-3)) (Sp.qi 2)) (Sp.mkC (Sp.qi (-3)) (Sp.qi 2))]) (vi zNxF11) [])) c0))))))))))) H
 ·have H:=H.2 d4
  obtain ⟨k55,H⟩:=H
  obtain ⟨k56,H⟩:=H
  obtain ⟨k57,H⟩:=H
  obtain ⟨k58,H⟩:=H
  obtain ⟨k60,H⟩:=H
  obtain ⟨b2,H⟩:=H
  obtain ⟨k62,H⟩:=H
  obtain ⟨k64,H⟩:=H
  obtain ⟨k66,H⟩:=H
  exact path_re (G:=given kp9 [(1,0,.call (ratA false false (Sp.qi 1)) none),(1,1,.call (ratA false false (Sp.qi 2)) none),(1,2,.call (ratA false false (Sp.qf 9 4)) none),(1,3,.call (tu [zNxF3,vi 7]) none),(2,0,.call (tu [rootF (Sp.mkA (Sp.qi 0) (Sp.qi 1) (Sp.qi 8)) (Sp.mkB (Sp.qi 1) (Sp.qi 8)) (Sp.mkC (Sp.qi 1) (Sp.qi 8)),vb true]) none),(3,0,.call (tu [rootF (Sp.mkA (Sp.qi 1) (Sp.qi 1) (Sp.qi 2)) (Sp.mkB (Sp.qi 1) (Sp.qi 2)) (Sp.mkC (Sp.qi 1) (Sp.qi 2)),vb true]) none),(4,0,.call (tu [rootF (Sp.mkA (Sp.qi 1) (Sp.qi (-1)) (Sp.qi 2)) (Sp.mkB (Sp.qi (-1)) (Sp.qi 2)) (Sp.mkC (Sp.qi (-1)) (Sp.qi 2)),vb true]) none),(5,16,.call (rootF (Sp.qi 4) (Sp.qi 0) (Sp.qi 0)) none),(5,17,.call (vb b2) none),(5,23,.call (rootF zNxF9 (Sp.mkB (Sp.qf 1 (0 + 1)) (Sp.qf 8 (0 + 1))) (Sp.mkC (Sp.qf 1 (0 + 1)) (Sp.qf 8 (0 + 1)))) none),(5,24,.call (vb (decide zNxF2)) none)] []) 1000 [true] (calls:=[⟨true,false,18,[vi 1],[],ratA false false (Sp.qi 1),[]⟩,⟨true,false,18,[vi 2],[],ratA false false (Sp.qi 2),[]⟩,⟨true,false,43,[vi 9,vi 4],[],ratA false false (Sp.qf 9 4),[]⟩,⟨true,false,42,[ratA false false (Sp.qi 1),ratA false false (Sp.qi 2),ratA false false (Sp.qf 9 4)],[],tu [zNxF3,vi 7],[]⟩,⟨true,false,44,[vi 0,vi 1,vi 8],[],tu [rootF (Sp.mkA (Sp.qi 0) (Sp.qi 1) (Sp.qi 8)) (Sp.mkB (Sp.qi 1) (Sp.qi 8)) (Sp.mkC (Sp.qi 1) (Sp.qi 8)),vb true],[]⟩,⟨true,false,44,[vi 1,vi 1,vi 2],[],tu [rootF (Sp.mkA (Sp.qi 1) (Sp.qi 1) (Sp.qi 2)) (Sp.mkB (Sp.qi 1) (Sp.qi 2)) (Sp.mkC (Sp.qi 1) (Sp.qi 2)),vb true],[]⟩,⟨true,false,44,[vi 1,vi (-1),vi 2],[],tu [rootF (Sp.mkA (Sp.qi 1) (Sp.qi (-1)) (Sp.qi 2)) (Sp.mkB (Sp.qi (-1)) (Sp.qi 2)) (Sp.mkC (Sp.qi (-1)) (Sp.qi 2)),vb true],[]⟩,⟨true == false && true && true,false,41,[vi 4],[],rootF (Sp.qi 4) (Sp.qi 0) (Sp.qi 0),[]⟩,⟨false,false,22,[zNxF3,rootF (Sp.qi 4) (Sp.qi 0) (Sp.qi 0)],[],vb b2,[]⟩,⟨false,false,45,[zNxF16],[],rootF zNxF9 (Sp.mkB (Sp.qf 1 (0 + 1)) (Sp.qf 8 (0 + 1))) (Sp.mkC (Sp.qf 1 (0 + 1)) (Sp.qf 8 (0 + 1))),[]⟩,⟨false,false,22,[rootF (Sp.mkA (Sp.qi 0) (Sp.qi 1) (Sp.qi 8)) (Sp.mkB (Sp.qi 1) (Sp.qi 8)) (Sp.mkC (Sp.qi 1) (Sp.qi 8)),rootF zNxF9 (Sp.mkB (Sp.qf 1 (0 + 1)) (Sp.qf 8 (0 + 1))) (Sp.mkC (Sp.qf 1 (0 + 1)) (Sp.qf 8 (0 + 1)))],[],vb (decide zNxF2),[]⟩]) (vb false) (by kernel_rfl) (bc rfl (bc rfl (bc rfl (bc rfl (bc rfl (bc rfl (bc rfl b0))))))) q0 (cc (fun _ => (@ev18 (1) k1)) (cc (fun _ => (@ev18 (2) k2)) (cc (fun _ => (@ev43 (9) (4) k3)) (cc (fun _ => (@ev42_n (false) (false) (false) (false) (false) (false) (Sp.qi 1) (Sp.qi 2) (Sp.qf 9 4) k55 d4)) (cc (fun _ => (@ev44 (0) (1) (8) k56)) (cc (fun _ => (@ev44 (1) (1) (2) k57)) (cc (fun _ => (@ev44 (1) (-1) (2) k58)) (cc (fun hc => ((@ev41 (4) (k60 ((i_at (i_at (i_bf (i_var _)))).1 hc))):Ev M1 (Conf.pure 41 [vi 4]) (rootF (Sp.qi 4) (Sp.qi 0) (Sp.qi 0)) [])) (cc (fun hc => ((k62 ((i_var _).1 hc)):Ev M1 (Conf.pure 22 [zNxF3,rootF (Sp.qi 4) (Sp.qi 0) (Sp.qi 0)]) (vb b2) [])) (cc (fun hc => ((@ev45 (0) (1) (8) (0) (0) (0) (k64 ((i_var _).1 hc))):Ev M1 (Conf.pure 45 [zNxF16]) (rootF zNxF9 (Sp.mkB (Sp.qf 1 (0 + 1)) (Sp.qf 8 (0 + 1))) (Sp.mkC (Sp.qf 1 (0 + 1)) (Sp.qf 8 (0 + 1)))) [])) (cc (fun hc => ((@ev22 (false) (false) (false) (false) (false) (false) (false) (false) (false) (false) (false) (false) (Sp.mkA (Sp.qi 0) (Sp.qi 1) (Sp.qi 8)) (Sp.mkB (Sp.qi 1) (Sp.qi 8)) (Sp.mkC (Sp.qi 1) (Sp.qi 8)) zNxF9 (Sp.mkB (Sp.qf 1 (0 + 1)) (Sp.qf 8 (0 + 1))) (Sp.mkC (Sp.qf 1 (0 + 1)) (Sp.qf 8 (0 + 1))) (k66 ((i_var _).1 hc))):Ev M1 (Conf.pure 22 [rootF (Sp.mkA (Sp.qi 0) (Sp.qi 1) (Sp.qi 8)) (Sp.mkB (Sp.qi 1) (Sp.qi 8)) (Sp.mkC (Sp.qi 1) (Sp.qi 8)),rootF zNxF9 (Sp.mkB (Sp.qf 1 (0 + 1)) (Sp.qf 8 (0 + 1))) (Sp.mkC (Sp.qf 1 (0 + 1)) (Sp.qf 8 (0 + 1)))]) (vb (decide zNxF2)) [])) c0))))))))))) H
end Go.Av

namespace Go.Av
open Go.Proofs
theorem sq_of {a r:Nat} (h1:r * r <= a) (h2:a < (r + 1) * (r + 1)):Sp.sq (a:Int) = r:=by
 unfold Sp.sq
 rw [if_neg (by omega),Int.natAbs_natCast,isqrt_eq ⟨h1,h2⟩]
theorem nsq_int {n r:Nat} (h1:r * r < n) (h2:n < (r + 1) * (r + 1)):¬Sp.rsq (Sp.qi (n:Int)):=by
 intro h
 have:=((isSq_iff _).1 h.1).2
 rw [qi_eq,Rat.num_intCast,sq_of (Nat.le_of_lt h1) h2] at this
 have e:((r * r:Nat):Int) = (n:Int):=by rw [Int.natCast_mul];exact this
 omega
theorem mk_ns {c:Rat} (h:¬Sp.rsq c) (a b:Rat):Sp.mkA a b c = a /\ Sp.mkB b c = b /\ Sp.mkC b c = Sp.rad b c:=⟨if_neg h,if_neg h,if_neg h⟩
theorem qf_one (n:Int):Sp.qf n (0 + 1) = Sp.qi n:=by
 rw [qf_eq,qi_eq]
 have e:((0:Int) + 1) = 1:=rfl
 rw [e]
 obtain ⟨e1,e2⟩:=rat_pos (a:=n) (b:=1) (by omega)
 apply Rat.ext
 ·rw [e1,Int.gcd_one];simp
 ·rw [Int.gcd_one] at e2
  have:((n:Rat).den:Int) = 1:=by rw [Rat.den_intCast];rfl
  simp at e2
  omega
theorem qi_mul (a b:Int):Sp.qi a * Sp.qi b = Sp.qi (a * b):=by rw [qi_eq,qi_eq,qi_eq,Rat.intCast_mul]
theorem qi_sub (a b:Int):Sp.qi a - Sp.qi b = Sp.qi (a - b):=by rw [qi_eq,qi_eq,qi_eq,Rat.intCast_sub]
theorem qi_add (a b:Int):Sp.qi a + Sp.qi b = Sp.qi (a + b):=by rw [qi_eq,qi_eq,qi_eq,Rat.intCast_add]
theorem qi_neg (a:Int):-Sp.qi a = Sp.qi (-a):=by rw [qi_eq,qi_eq,Rat.intCast_neg]
theorem qi_num (a:Int):(Sp.qi a).num = a /\ ((Sp.qi a).den:Int) = 1:=by rw [qi_eq,Rat.num_intCast,Rat.den_intCast];exact ⟨rfl,rfl⟩
theorem qi_ne {a:Int} (h:a ≠ 0):Sp.qi a ≠ 0:=fun e => h (by have:=(qi_num a).1;rw [e] at this;exact this.symm)
theorem rad_ne {b:Int} (h:b ≠ 0) (c:Rat):Sp.rad (Sp.qi b) c = c:=if_neg (qi_ne h)
theorem sgR_int (a:Int):Sp.sgR (Sp.qi a) = Sp.sgnI a:=by unfold Sp.sgR;rw [(qi_num a).1]
theorem sgO_int (a b c:Int):Sp.sgO (Sp.qi a) (Sp.qi b) (Sp.qi c) = if Sp.sgnI b = 0 \/ Sp.sgnI a = Sp.sgnI b then Sp.sgnI a else if Sp.sgnI a = 0 then Sp.sgnI b else Sp.sgnI a * Sp.sgnI (a * a - b * b * c):=by
 unfold Sp.sgO
 rw [qi_mul,qi_mul,qi_mul,qi_sub,sgR_int,sgR_int,sgR_int]
theorem fl_int {a b c:Int} (hb:b ≠ 0):Sp.fl (Sp.qi a) (Sp.qi b) (Sp.qi c) = Sp.flo (a * 1 + (if b < 0 then -(Sp.sq (1 * 1 * (b * b * c * 1)) + 1) else Sp.sq (1 * 1 * (b * b * c * 1)))) (1 * 1):=by
 unfold Sp.fl Sp.flW
 rw [if_neg (qi_ne hb),qi_mul,qi_mul]
 simp only [qi_num]
theorem nn94:Sp.isNN (Sp.qf 9 4):=nn_qf (by omega) (by omega)
theorem rsq94:Sp.rsq (Sp.qf 9 4):=rsq_of (s:=Rat.divInt 3 2) (by rw [qf_eq,Rat.divInt_mul_divInt];rfl)
theorem rt94:Sp.rt (Sp.qf 9 4) = Rat.divInt 3 2:=by
 have e:(Sp.qf 9 4).num = 9 /\ ((Sp.qf 9 4).den:Int) = 4:=by rw [qf_eq];decide
 unfold Sp.rt
 rw [e.1,e.2]
 have h9:Sp.sq 9 = 3:=sq_of (a:=9) (r:=3) (by decide) (by decide)
 have h4:Sp.sq 4 = 2:=sq_of (a:=4) (r:=2) (by decide) (by decide)
 rw [h9,h4]
theorem mk94:Sp.mkA (Sp.qi 1) (Sp.qi 2) (Sp.qf 9 4) = Sp.qi 4 /\ Sp.mkB (Sp.qi 2) (Sp.qf 9 4) = Sp.qi 0 /\ Sp.mkC (Sp.qi 2) (Sp.qf 9 4) = Sp.qi 0:=by
 refine ⟨?_,if_pos rsq94,if_pos rsq94⟩
 unfold Sp.mkA
 have d:(Rat.divInt 3 2).num = 3 /\ ((Rat.divInt 3 2).den:Int) = 2:=by decide
 have d2:(Rat.divInt (2 * 3) (1 * 2)).num = 3 /\ ((Rat.divInt (2 * 3) (1 * 2)).den:Int) = 1:=by decide
 rw [if_pos rsq94,rt94,<- rat_mul,d.1,d.2,(qi_num 2).1,(qi_num 2).2,<- rat_add,d2.1,d2.2,(qi_num 1).1,(qi_num 1).2,qi_eq]
 decide
theorem okO_int {a b c:Int} (ha:Sp.inI a) (hb:Sp.inI b) (hc:Sp.inI c):Sp.okO (Sp.qi a) (Sp.qi b) (Sp.qi c):=okT_O (okT_int ha) (okT_int hb) (okT_int hc) (by omega)
theorem ivn_int:Sp.ivn (Sp.qi 1) (Sp.qi 1) (Sp.qi 2) = Sp.qi (-1):=by
 unfold Sp.ivn
 rw [qi_mul,qi_mul,qi_sub,<- rat_div,(qi_num 1).1,(qi_num 1).2,(qi_num _).1,(qi_num _).2,qi_eq]
 decide
theorem okO_of94:Sp.okO (Sp.qi 1) (Sp.qi 2) (Sp.qf 9 4):=okT_O (okT_int (by unfold Sp.inI;omega)) (okT_int (by unfold Sp.inI;omega)) (okT_qf (by unfold Sp.okF Sp.inI;omega)) (by omega)
end Go.Av

namespace Go.Av
open Go.Proofs
theorem inI_small {n:Int} (h:-100 <= n /\ n <= 100):Sp.inI n:=by unfold Sp.inI;omega
theorem ev9:Ev M1 (.pure 9 []) (.bool true) []:=by
 have n2:¬Sp.rsq (Sp.qi 2):=nsq_int (n:=2) (r:=1) (by decide) (by decide)
 have n8:¬Sp.rsq (Sp.qi 8):=nsq_int (n:=8) (r:=2) (by decide) (by decide)
 have s2:Sp.sq 2 = 1:=sq_of (a:=2) (r:=1) (by decide) (by decide)
 have a2:∀ a b,Sp.mkA a b (Sp.qi 2) = a:=fun a b => (mk_ns n2 a b).1
 have b2:∀ b,Sp.mkB b (Sp.qi 2) = b:=fun b => (mk_ns n2 b b).2.1
 have c2:∀ b,Sp.mkC b (Sp.qi 2) = Sp.rad b (Sp.qi 2):=fun b => (mk_ns n2 b b).2.2
 have a8:∀ a b,Sp.mkA a b (Sp.qi 8) = a:=fun a b => (mk_ns n8 a b).1
 have b8:∀ b,Sp.mkB b (Sp.qi 8) = b:=fun b => (mk_ns n8 b b).2.1
 have c8:∀ b,Sp.mkC b (Sp.qi 8) = Sp.rad b (Sp.qi 8):=fun b => (mk_ns n8 b b).2.2
 have r1:∀ c,Sp.rad (Sp.qi 1) c = c:=rad_ne (by decide)
 have r2:∀ c,Sp.rad (Sp.qi (-1)) c = c:=rad_ne (by decide)
 have r3:∀ c,Sp.rad (Sp.qi (-2)) c = c:=rad_ne (by decide)
 have r4:∀ c,Sp.rad (Sp.qi (-3)) c = c:=rad_ne (by decide)
 have m1:Sp.qi 1 * Sp.qi (-1) = Sp.qi (-1):=qi_mul 1 (-1)
 have m2:-Sp.qi 1 * Sp.qi (-1) = Sp.qi 1:=by rw [qi_neg,qi_mul];rfl
 have g1:Sp.sgO (Sp.qi 1) (Sp.qi 1) (Sp.qi 2) = 1:=by rw [sgO_int];decide
 have g2:Sp.sgO (Sp.qi 3) (Sp.qi (-2)) (Sp.qi 2) = 1:=by rw [sgO_int];decide
 have g3:Sp.sgO (Sp.qi 4) (Sp.qi (-3)) (Sp.qi 2) = -1:=by rw [sgO_int];decide
 have f1:Sp.fl (Sp.qi 1) (Sp.qi 1) (Sp.qi 2) = 2:=by
  rw [fl_int (by decide),show (1:Int) * 1 * (1 * 1 * 2 * 1) = 2 from rfl,s2];decide
 have f2:Sp.fl (Sp.qi 1) (Sp.qi (-1)) (Sp.qi 2) = -1:=by
  rw [fl_int (by decide),show (1:Int) * 1 * (-1 * -1 * 2 * 1) = 2 from rfl,s2];decide
 have nm:Sp.nrm (Sp.qi 1) (Sp.qi 1) (Sp.qi 2):=by
  unfold Sp.nrm
  rw [qi_mul,qi_mul,qi_sub]
  exact qi_ne (by decide)
 refine call9 (lAwake _ ?_)
 simp only [mk94.1,mk94.2.1,mk94.2.2,qf_one,a2,b2,c2,a8,b8,c8,r1,r2,r3,r4,ivn_int,m1,m2,g1,g2,g3,f1,f2]
 have i (n:Int) (h:-100 <= n /\ n <= 100:=by decide):Sp.inI n:=inI_small h
 have o (a b c:Int) (h:(-100 <= a /\ a <= 100) /\ (-100 <= b /\ b <= 100) /\ (-100 <= c /\ c <= 100):=by decide):Sp.okO (Sp.qi a) (Sp.qi b) (Sp.qi c):=okO_int (inI_small h.1) (inI_small h.2.1) (inI_small h.2.2)
 have m (a b c:Int) (h:(-100 <= a /\ a <= 100) /\ (-100 <= b /\ b <= 100) /\ (0 <= c /\ c <= 100):=by decide):Sp.okM a b c:=⟨inI_small h.1,inI_small h.2.1,inI_small (by omega),h.2.2.1⟩
 have ok (a:Int) (h:-100 <= a /\ a <= 100:=by decide):Sp.ok a:=ok_inI (inI_small h)
 have d (a b c:Int) (h:(-100 <= a /\ a <= 100) /\ (-100 <= b /\ b <= 100) /\ (0 <= c /\ c <= 100):=by decide):Sp.okSd a b c 0 0 0:=by unfold Sp.okSd;omega
 have okf:Sp.okF 9 4:=⟨inI_small (by decide),inI_small (by decide),by decide⟩
 refine ⟨i 1,i 2,okf,fun _ => ⟨okO_of94,m 0 1 8,m 1 1 2,m 1 (-1) 2,fun _ => i 4,⟨o 4 0 0,o 4 0 0⟩,fun _ => d 0 1 8,fun _ => ⟨o 0 1 8,o 0 1 8⟩,fun k => ?_,fun _ => ⟨fun k => ?_,fun _ => ⟨⟨o 1 1 2,nm⟩,m 3 (-2) 2,m 4 (-3) 2,fun _ => d (-1) 1 2,⟨o (-1) 1 2,o (-1) 1 2⟩,fun _ => o 1 1 2,fun _ => ⟨ok 2,i 2⟩,fun _ => o 1 (-1) 2,fun _ => ⟨ok (-1),i (-1)⟩,fun _ => o 3 (-2) 2,fun _ => o 4 (-3) 2,?_⟩⟩⟩,fun k => absurd nn94 k⟩
 ·exfalso
  rcases k with k | k
  ·exact k (by simp)
  ·exact k (by simp)
 ·exact absurd k (by decide)
 ·simp
end Go.Av

namespace Go.Av
open Go.Proofs
set_option maxRecDepth 100000
def fi21:Fi:=⟨28,[.tmp 2]⟩
def kp21:List (Nat × List Nat):=[(0,[1]),(1,[1,3,4]),(2,[1,3,4,17]),(3,[2]),(4,[1,3,4,20]),(5,[2]),(6,[3,4,25]),(7,[2]),(8,[2])]
def fi47:Fi:=⟨25,[.tmp 4]⟩
def kp47:List (Nat × List Nat):=[(0,[1,2]),(1,[4])]
def pSign_at (f1 f2 f3 f4 f5 f6:Bool) (a b c:Rat) (Q:AV -> Heap -> Prop):Prop:=Wp M1 (.run fi21 (atC (cd Tryz.f21) []) [(0,rootA f1 f2 f3 f4 f5 f6 a b c)] []) Q
def pSmall_at (f1 f2 f3 f4 f5 f6:Bool) (a b c:Rat) (n:Int) (Q:AV -> Heap -> Prop):Prop:=Wp M1 (.run fi47 (atC (cd Tryz.f47) []) [(0,rootA f1 f2 f3 f4 f5 f6 a b c),(1,.int .i64 n)] []) Q
def pSmallR_at (s1 s2 s3 t1 t2 t3 f1 f2 f3 g1 g2 g3:Bool) (x1 x2 x3 y1 y2 y3:List Int) (n:Int) (Q:AV -> Heap -> Prop):Prop:=Wp M1 (.run fi47 (atC (cd Tryz.f47) []) [(0,.agg [.bool s1,.vec f1 1 (x1.map (.int .u32)),.bool t1,.vec g1 1 (y1.map (.int .u32)),.bool s2,.vec f2 1 (x2.map (.int .u32)),.bool t2,.vec g2 1 (y2.map (.int .u32)),.bool s3,.vec f3 1 (x3.map (.int .u32)),.bool t3,.vec g3 1 (y3.map (.int .u32))]),(1,.int .i64 n)] []) Q
theorem call21 {args:List AV} {d:AV} (h:wc M1 fi21 Tryz.f21 args d):Ev M1 (.pure 21 args) d []:=pcl _ _ (by kernel_rfl) h
theorem call47 {args:List AV} {d:AV} (h:wc M1 fi47 Tryz.f47 args d):Ev M1 (.pure 47 args) d []:=pcl _ _ (by kernel_rfl) h
theorem pSign (f1 f2 f3 f4 f5 f6:Bool) (a b c:Rat)  (dq:AV) (H :
  (((Sp.sgnI a.num = Sp.sgnI b.num) \/ (Sp.sgnI b.num = 0)) -> vi (Sp.sgnI a.num) = dq) /\
  (¬((Sp.sgnI a.num = Sp.sgnI b.num) \/ (Sp.sgnI b.num = 0)) -> ((Sp.sgnI a.num = 0) -> vi (Sp.sgnI b.num) = dq) /\
   (¬(Sp.sgnI a.num = 0) -> (Sp.okO a b c) /\
    ((Sp.sgnI (a * a - b * b * c).num > 0) -> vi (Sp.sgnI a.num) = dq) /\
    (¬(Sp.sgnI (a * a - b * b * c).num > 0) -> vi (Sp.sgnI b.num) = dq)))) :
 pSign_at f1 f2 f3 f4 f5 f6 a b c (PureQ dq):=by
 unfold pSign_at
 refine path_wp (G:=given kp21 [(1,2,.call (vi (Sp.sgnI a.num)) none),(1,5,.call (vi (Sp.sgnI b.num)) none)] []) 7 [] ⟨(atC (cd Tryz.f21) [1,1,0,1]),[(1,AV.ptr 0 0 0 0),(3,vi (Sp.sgnI a.num)),(4,vi (Sp.sgnI b.num)),(17,vb (bif Sp.sgnI a.num == Sp.sgnI b.num then true else Sp.sgnI b.num == 0))],[⟨[rootA f1 f2 f3 f4 f5 f6 a b c],12,0,false,false⟩],_,[],_⟩ (by kernel_rfl) (bc rfl (bc rfl b0)) q0 (ce (@ev27 (f1) (f2) (a.num) ((↑a.den:Int))) (ce (@ev27 (f3) (f4) (b.num) ((↑b.den:Int))) c0)) ?_
 rcases xm ((Sp.sgnI a.num = Sp.sgnI b.num) \/ (Sp.sgnI b.num = 0)) with d2 | d2
 ·have H:=H.1 d2
  exact path_re (G:=given kp21 [] []) 1000 [true] (vi (Sp.sgnI a.num)) (by kernel_rfl) (bc (beq_t ((i_bor i_eq i_eq).2 d2)) b0) q0 c0 H
 ·have H:=H.2 d2
  rcases xm (Sp.sgnI a.num = 0) with d4 | d4
  ·have H:=H.1 d4
   exact path_re (G:=given kp21 [] []) 1000 [false,true] (vi (Sp.sgnI b.num)) (by kernel_rfl) (bc (beq_f (fun h => d2 ((i_bor i_eq i_eq).1 h))) (bc (beq_t (i_eq.2 d4)) b0)) q0 c0 H
  ·have H:=H.2 d4
   obtain ⟨k5,H⟩:=H
   refine path_wp (G:=given kp21 [(6,1,.call (ratA false false (a * a - b * b * c)) none),(6,2,.call (vi (Sp.sgnI (a * a - b * b * c).num)) none)] []) 10 [false,false] ⟨(atC (cd Tryz.f21) [1,1,1,1,0,1]),[(3,vi (Sp.sgnI a.num)),(4,vi (Sp.sgnI b.num)),(25,vb (decide (Sp.sgnI (a * a - b * b * c).num > 0)))],[⟨[rootA f1 f2 f3 f4 f5 f6 a b c],12,0,false,false⟩],_,[],_⟩ (by kernel_rfl) (bc (beq_f (fun h => d2 ((i_bor i_eq i_eq).1 h))) (bc (beq_f (fun h => d4 (i_eq.1 h))) (bc rfl b0))) q0 (ce (@ev73 (f1) (f2) (f3) (f4) (f5) (f6) (a) (b) (c) k5) (ce (@ev27 (false) (false) ((a * a - b * b * c).num) ((↑(a * a - b * b * c).den:Int))) c0)) ?_
   rcases xm (Sp.sgnI (a * a - b * b * c).num > 0) with d7 | d7
   ·have H:=H.1 d7
    exact path_re (G:=given kp21 [] []) 1000 [true] (vi (Sp.sgnI a.num)) (by kernel_rfl) (bc (beq_t (i_dec.2 d7)) b0) q0 c0 H
   ·have H:=H.2 d7
    exact path_re (G:=given kp21 [] []) 1000 [false] (vi (Sp.sgnI b.num)) (by kernel_rfl) (bc (beq_f (fun h => d7 (i_dec.1 h))) b0) q0 c0 H
noncomputable abbrev zNyA3 (n:Int) (a:Rat) (b:Rat) (c:Rat):=bif bif Sp.smallB n (Sp.isNeg a.num) (Sp.limI a.num) (Sp.isNeg (↑a.den:Int)) (Sp.limI (↑a.den:Int)) then Sp.smallB n (Sp.isNeg b.num) (Sp.limI b.num) (Sp.isNeg (↑b.den:Int)) (Sp.limI (↑b.den:Int)) else false then Sp.smallB n (Sp.isNeg c.num) (Sp.limI c.num) (Sp.isNeg (↑c.den:Int)) (Sp.limI (↑c.den:Int)) else false
noncomputable abbrev zNyA4 (n:Int) (a:Rat) (b:Rat):=bif Sp.smallB n (Sp.isNeg a.num) (Sp.limI a.num) (Sp.isNeg (↑a.den:Int)) (Sp.limI (↑a.den:Int)) then Sp.smallB n (Sp.isNeg b.num) (Sp.limI b.num) (Sp.isNeg (↑b.den:Int)) (Sp.limI (↑b.den:Int)) else false
noncomputable abbrev zNyA5 (n:Int) (b:Rat):=Sp.smallB n (Sp.isNeg b.num) (Sp.limI b.num) (Sp.isNeg (↑b.den:Int)) (Sp.limI (↑b.den:Int))
noncomputable abbrev zNyA6 (n:Int) (c:Rat):=Sp.smallB n (Sp.isNeg c.num) (Sp.limI c.num) (Sp.isNeg (↑c.den:Int)) (Sp.limI (↑c.den:Int))
theorem pSmall (f1 f2 f3 f4 f5 f6:Bool) (a b c:Rat) (n:Int)  (dq:AV) (H :
  (Sp.okU n (Sp.limI a.num) (Sp.limI (↑a.den:Int))) /\
  ((Sp.smallB n (Sp.isNeg a.num) (Sp.limI a.num) (Sp.isNeg (↑a.den:Int)) (Sp.limI (↑a.den:Int)) = true) -> (Sp.okU n (Sp.limI b.num) (Sp.limI (↑b.den:Int)))) /\
  (((Sp.smallB n (Sp.isNeg a.num) (Sp.limI a.num) (Sp.isNeg (↑a.den:Int)) (Sp.limI (↑a.den:Int)) = true) /\ (Sp.smallB n (Sp.isNeg b.num) (Sp.limI b.num) (Sp.isNeg (↑b.den:Int)) (Sp.limI (↑b.den:Int)) = true)) -> (Sp.okU n (Sp.limI c.num) (Sp.limI (↑c.den:Int)))) /\
  ((((Sp.smallB n (Sp.isNeg a.num) (Sp.limI a.num) (Sp.isNeg (↑a.den:Int)) (Sp.limI (↑a.den:Int)) = true) /\ (Sp.smallB n (Sp.isNeg b.num) (Sp.limI b.num) (Sp.isNeg (↑b.den:Int)) (Sp.limI (↑b.den:Int)) = true)) /\ (Sp.smallB n (Sp.isNeg c.num) (Sp.limI c.num) (Sp.isNeg (↑c.den:Int)) (Sp.limI (↑c.den:Int)) = true)) -> (Sp.okO a b c)) /\
  vb (bif bif bif Sp.smallB n (Sp.isNeg a.num) (Sp.limI a.num) (Sp.isNeg (↑a.den:Int)) (Sp.limI (↑a.den:Int)) then Sp.smallB n (Sp.isNeg b.num) (Sp.limI b.num) (Sp.isNeg (↑b.den:Int)) (Sp.limI (↑b.den:Int)) else false then Sp.smallB n (Sp.isNeg c.num) (Sp.limI c.num) (Sp.isNeg (↑c.den:Int)) (Sp.limI (↑c.den:Int)) else false then Sp.vroot b c else false) = dq) :
 pSmall_at f1 f2 f3 f4 f5 f6 a b c n (PureQ dq):=by
 unfold pSmall_at
 obtain ⟨k1,H⟩:=H
 obtain ⟨k3,H⟩:=H
 obtain ⟨k5,H⟩:=H
 obtain ⟨k7,H⟩:=H
 exact path_re (G:=given kp47 [(1,3,.call (vb (Sp.smallB n (Sp.isNeg a.num) (Sp.limI a.num) (Sp.isNeg (↑a.den:Int)) (Sp.limI (↑a.den:Int)))) none),(1,8,.call (vb (zNyA5 n b)) none),(1,14,.call (vb (zNyA6 n c)) none),(1,18,.call (vb (Sp.vroot b c)) none)] []) 1000 [] (asm:=[true,!(Sp.smallB n (Sp.isNeg a.num) (Sp.limI a.num) (Sp.isNeg (↑a.den:Int)) (Sp.limI (↑a.den:Int)) == true && true) || true,!((zNyA4 n a b) == true && true) || true,!((zNyA3 n a b c) == true && true) || true]) (calls:=[⟨true,false,19,[ratA f1 f2 a,vi n],[],vb (Sp.smallB n (Sp.isNeg a.num) (Sp.limI a.num) (Sp.isNeg (↑a.den:Int)) (Sp.limI (↑a.den:Int))),[]⟩,⟨Sp.smallB n (Sp.isNeg a.num) (Sp.limI a.num) (Sp.isNeg (↑a.den:Int)) (Sp.limI (↑a.den:Int)) == true && true && true,false,19,[ratA f3 f4 b,vi n],[],vb (zNyA5 n b),[]⟩,⟨(zNyA4 n a b) == true && true && true,false,19,[ratA f5 f6 c,vi n],[],vb (zNyA6 n c),[]⟩,⟨(zNyA3 n a b c) == true && true && true,false,93,[rootA f1 f2 f3 f4 f5 f6 a b c],[],vb (Sp.vroot b c),[]⟩]) (vb (bif bif bif Sp.smallB n (Sp.isNeg a.num) (Sp.limI a.num) (Sp.isNeg (↑a.den:Int)) (Sp.limI (↑a.den:Int)) then Sp.smallB n (Sp.isNeg b.num) (Sp.limI b.num) (Sp.isNeg (↑b.den:Int)) (Sp.limI (↑b.den:Int)) else false then Sp.smallB n (Sp.isNeg c.num) (Sp.limI c.num) (Sp.isNeg (↑c.den:Int)) (Sp.limI (↑c.den:Int)) else false then Sp.vroot b c else false)) (by kernel_rfl) (bc rfl (bc (Bool.or_true _) (bc (Bool.or_true _) (bc (Bool.or_true _) b0)))) q0 (cc (fun _ => (@ev19 (Sp.isNeg a.num) (f1) (Sp.isNeg (↑a.den:Int)) (f2) (Sp.limI a.num) (Sp.limI (↑a.den:Int)) (n) k1)) (cc (fun hc => ((@ev19 (Sp.isNeg b.num) (f3) (Sp.isNeg (↑b.den:Int)) (f4) (Sp.limI b.num) (Sp.limI (↑b.den:Int)) (n) (k3 ((i_at (i_at (i_bt (i_var _)))).1 hc))):Ev M1 (Conf.pure 19 [ratA f3 f4 b,vi n]) (vb (zNyA5 n b)) [])) (cc (fun hc => ((@ev19 (Sp.isNeg c.num) (f5) (Sp.isNeg (↑c.den:Int)) (f6) (Sp.limI c.num) (Sp.limI (↑c.den:Int)) (n) (k5 ((i_at (i_at (i_bt (i_band (i_var _) (i_var _))))).1 hc))):Ev M1 (Conf.pure 19 [ratA f5 f6 c,vi n]) (vb (zNyA6 n c)) [])) (cc (fun hc => ((@ev93 (f1) (f2) (f3) (f4) (f5) (f6) (a) (b) (c) (k7 ((i_at (i_at (i_bt (i_band (i_band (i_var _) (i_var _)) (i_var _))))).1 hc))):Ev M1 (Conf.pure 93 [rootA f1 f2 f3 f4 f5 f6 a b c]) (vb (Sp.vroot b c)) [])) c0)))) H
theorem pSmallR (s1 s2 s3 t1 t2 t3 f1 f2 f3 g1 g2 g3:Bool) (x1 x2 x3 y1 y2 y3:List Int) (n:Int)  (dq:AV) (H :
  (Sp.okU n x1 y1) /\
  ((Sp.smallB n s1 x1 t1 y1 = true) -> (Sp.okU n x2 y2)) /\
  (((Sp.smallB n s1 x1 t1 y1 = true) /\ (Sp.smallB n s2 x2 t2 y2 = true)) -> (Sp.okU n x3 y3)) /\
  ∃ (b1:Bool),
  ((((Sp.smallB n s1 x1 t1 y1 = true) /\ (Sp.smallB n s2 x2 t2 y2 = true)) /\ (Sp.smallB n s3 x3 t3 y3 = true)) -> (Ev M1 (Conf.pure 93 [ag [vb s1,AV.vec f1 1 (us x1),vb t1,AV.vec g1 1 (us y1),vb s2,AV.vec f2 1 (us x2),vb t2,AV.vec g2 1 (us y2),vb s3,AV.vec f3 1 (us x3),vb t3,AV.vec g3 1 (us y3)]]) (vb b1) [])) /\
  vb (bif bif bif Sp.smallB n s1 x1 t1 y1 then Sp.smallB n s2 x2 t2 y2 else false then Sp.smallB n s3 x3 t3 y3 else false then b1 else false) = dq) :
 pSmallR_at s1 s2 s3 t1 t2 t3 f1 f2 f3 g1 g2 g3 x1 x2 x3 y1 y2 y3 n (PureQ dq):=by
 unfold pSmallR_at
 obtain ⟨k1,H⟩:=H
 obtain ⟨k3,H⟩:=H
 obtain ⟨k5,H⟩:=H
 obtain ⟨b1,H⟩:=H
 obtain ⟨k7,H⟩:=H
 exact path_re (G:=given kp47 [(1,3,.call (vb (Sp.smallB n s1 x1 t1 y1)) none),(1,8,.call (vb (Sp.smallB n s2 x2 t2 y2)) none),(1,14,.call (vb (Sp.smallB n s3 x3 t3 y3)) none),(1,18,.call (vb b1) none)] []) 1000 [] (asm:=[true,!(Sp.smallB n s1 x1 t1 y1 == true && true) || true,!((bif Sp.smallB n s1 x1 t1 y1 then Sp.smallB n s2 x2 t2 y2 else false) == true && true) || true,!((bif bif Sp.smallB n s1 x1 t1 y1 then Sp.smallB n s2 x2 t2 y2 else false then Sp.smallB n s3 x3 t3 y3 else false) == true && true) || true]) (calls:=[⟨true,false,19,[ag [vb s1,AV.vec f1 1 (us x1),vb t1,AV.vec g1 1 (us y1)],vi n],[],vb (Sp.smallB n s1 x1 t1 y1),[]⟩,⟨Sp.smallB n s1 x1 t1 y1 == true && true && true,false,19,[ag [vb s2,AV.vec f2 1 (us x2),vb t2,AV.vec g2 1 (us y2)],vi n],[],vb (Sp.smallB n s2 x2 t2 y2),[]⟩,⟨(bif Sp.smallB n s1 x1 t1 y1 then Sp.smallB n s2 x2 t2 y2 else false) == true && true && true,false,19,[ag [vb s3,AV.vec f3 1 (us x3),vb t3,AV.vec g3 1 (us y3)],vi n],[],vb (Sp.smallB n s3 x3 t3 y3),[]⟩,⟨(bif bif Sp.smallB n s1 x1 t1 y1 then Sp.smallB n s2 x2 t2 y2 else false then Sp.smallB n s3 x3 t3 y3 else false) == true && true && true,false,93,[ag [vb s1,AV.vec f1 1 (us x1),vb t1,AV.vec g1 1 (us y1),vb s2,AV.vec f2 1 (us x2),vb t2,AV.vec g2 1 (us y2),vb s3,AV.vec f3 1 (us x3),vb t3,AV.vec g3 1 (us y3)]],[],vb b1,[]⟩]) (vb (bif bif bif Sp.smallB n s1 x1 t1 y1 then Sp.smallB n s2 x2 t2 y2 else false then Sp.smallB n s3 x3 t3 y3 else false then b1 else false)) (by kernel_rfl) (bc rfl (bc (Bool.or_true _) (bc (Bool.or_true _) (bc (Bool.or_true _) b0)))) q0 (cc (fun _ => (@ev19 (s1) (f1) (t1) (g1) (x1) (y1) (n) k1)) (cc (fun hc => ((@ev19 (s2) (f2) (t2) (g2) (x2) (y2) (n) (k3 ((i_at (i_at (i_bt (i_var _)))).1 hc))):Ev M1 (Conf.pure 19 [ag [vb s2,AV.vec f2 1 (us x2),vb t2,AV.vec g2 1 (us y2)],vi n]) (vb (Sp.smallB n s2 x2 t2 y2)) [])) (cc (fun hc => ((@ev19 (s3) (f3) (t3) (g3) (x3) (y3) (n) (k5 ((i_at (i_at (i_bt (i_band (i_var _) (i_var _))))).1 hc))):Ev M1 (Conf.pure 19 [ag [vb s3,AV.vec f3 1 (us x3),vb t3,AV.vec g3 1 (us y3)],vi n]) (vb (Sp.smallB n s3 x3 t3 y3)) [])) (cc (fun hc => ((k7 ((i_at (i_at (i_bt (i_band (i_band (i_var _) (i_var _)) (i_var _))))).1 hc)):Ev M1 (Conf.pure 93 [ag [vb s1,AV.vec f1 1 (us x1),vb t1,AV.vec g1 1 (us y1),vb s2,AV.vec f2 1 (us x2),vb t2,AV.vec g2 1 (us y2),vb s3,AV.vec f3 1 (us x3),vb t3,AV.vec g3 1 (us y3)]]) (vb b1) [])) c0)))) H
end Go.Av

namespace Go.Av
open Go.Proofs
theorem okT_q0:Sp.okT 1 (Sp.qi 0):=by rw [qi_zero];exact okT_zero
theorem okT_rad {k:Nat} {b c:Rat} (hc:Sp.okT k c):Sp.okT (k + 1) (Sp.rad b c):=by
 unfold Sp.rad
 split
 ·exact okT_le okT_q0 (by omega)
 ·exact okT_le hc (by omega)
end Go.Av

namespace Go.Av
open Go.Proofs
noncomputable def Sp.sgP (a b c:Rat):Int:=if Sp.sgR a = Sp.sgR b \/ Sp.sgR b = 0 then Sp.sgR a else if Sp.sgR a = 0 then Sp.sgR b else if Sp.sgR (a * a - b * b * c) > 0 then Sp.sgR a else Sp.sgR b
theorem ev21 (f1 f2 f3 f4 f5 f6:Bool) (a b c:Rat) (h:Sp.okO a b c):Ev M1 (.pure 21 [rootA f1 f2 f3 f4 f5 f6 a b c]) (.int .i64 (Sp.sgP a b c)) []:=by
 refine call21 (pSign _ _ _ _ _ _ _ _ _ _ ⟨fun k => ?_,fun k => ⟨fun k2 => ?_,fun k2 => ⟨h,fun k3 => ?_,fun k3 => ?_⟩⟩⟩)
 ·unfold Sp.sgP Sp.sgR;rw [if_pos k]
 ·unfold Sp.sgP Sp.sgR;rw [if_neg k,if_pos k2]
 ·unfold Sp.sgP Sp.sgR;rw [if_neg k,if_neg k2,if_pos k3]
 ·unfold Sp.sgP Sp.sgR;rw [if_neg k,if_neg k2,if_neg k3]
def Sp.smO (n:Int) (s1:Bool) (x1:List Int) (t1:Bool) (y1:List Int) (s2:Bool) (x2:List Int) (t2:Bool) (y2:List Int) (s3:Bool) (x3:List Int) (t3:Bool) (y3:List Int):Prop:=
 Sp.smallB n s1 x1 t1 y1 = true /\ Sp.smallB n s2 x2 t2 y2 = true /\ Sp.smallB n s3 x3 t3 y3 = true /\ ∀ b c:Rat,Sp.isNeg b.num = s2 -> Sp.limI b.num = x2 -> Sp.isNeg (b.den:Int) = t2 -> Sp.limI (b.den:Int) = y2 -> Sp.isNeg c.num = s3 -> Sp.limI c.num = x3 -> Sp.isNeg (c.den:Int) = t3 -> Sp.limI (c.den:Int) = y3 -> Sp.vroot b c = true
open Classical in
noncomputable def Sp.smOB (n:Int) (s1:Bool) (x1:List Int) (t1:Bool) (y1:List Int) (s2:Bool) (x2:List Int) (t2:Bool) (y2:List Int) (s3:Bool) (x3:List Int) (t3:Bool) (y3:List Int):Bool:=decide (Sp.smO n s1 x1 t1 y1 s2 x2 t2 y2 s3 x3 t3 y3)
theorem rat_inj {r s:Rat} (h1:Sp.isNeg r.num = Sp.isNeg s.num) (h2:Sp.limI r.num = Sp.limI s.num) (h3:Sp.isNeg (r.den:Int) = Sp.isNeg (s.den:Int)) (h4:Sp.limI (r.den:Int) = Sp.limI (s.den:Int)):r = s:=by
 have e1:=big_inj h2 h1
 have e2:=big_inj h4 h3
 exact Rat.ext e1 (by omega)
theorem small_ratN {n:Int} {s t:Bool} {x y:List Int} (h:Sp.smallB n s x t y = true):∃ r:Rat,Sp.okT n.toNat r /\ s = Sp.isNeg r.num /\ x = Sp.limI r.num /\ t = Sp.isNeg (r.den:Int) /\ y = Sp.limI (r.den:Int):=by
 obtain ⟨h1,h2,r,rfl,rfl,rfl,rfl⟩:=smallB_iff.1 h
 rw [limI_len] at h1 h2
 rw [Int.natAbs_natCast] at h2
 exact ⟨r,⟨by omega,by omega⟩,rfl,rfl,rfl,rfl⟩
def Sp.okN (n:Int):Prop:=0 <= n /\ n <= 9000
def Sp.okU3 (n:Int) (x1 y1 x2 y2 x3 y3:List Int):Prop:=Sp.okN n /\ ((∀ v ∈ x1,0 <= v) /\ ∀ v ∈ y1,0 <= v) /\ ((∀ v ∈ x2,0 <= v) /\ ∀ v ∈ y2,0 <= v) /\ ((∀ v ∈ x3,0 <= v) /\ ∀ v ∈ y3,0 <= v)
theorem ev47 (s1 s2 s3 t1 t2 t3 f1 f2 f3 g1 g2 g3:Bool) (x1 x2 x3 y1 y2 y3:List Int) (n:Int) (h:Sp.okU3 n x1 y1 x2 y2 x3 y3):Ev M1 (.pure 47 [.agg [.bool s1,.vec f1 1 (x1.map (.int .u32)),.bool t1,.vec g1 1 (y1.map (.int .u32)),.bool s2,.vec f2 1 (x2.map (.int .u32)),.bool t2,.vec g2 1 (y2.map (.int .u32)),.bool s3,.vec f3 1 (x3.map (.int .u32)),.bool t3,.vec g3 1 (y3.map (.int .u32))],.int .i64 n]) (.bool (Sp.smOB n s1 x1 t1 y1 s2 x2 t2 y2 s3 x3 t3 y3)) []:=by
 obtain ⟨⟨hn0,hn⟩,p1,p2,p3⟩:=h
 have u1:Sp.okU n x1 y1:=⟨by omega,p1⟩
 have u2:Sp.okU n x2 y2:=⟨by omega,p2⟩
 have u3:Sp.okU n x3 y3:=⟨by omega,p3⟩
 by_cases k:Sp.smallB n s1 x1 t1 y1 = true /\ Sp.smallB n s2 x2 t2 y2 = true /\ Sp.smallB n s3 x3 t3 y3 = true
 ·obtain ⟨k1,k2,k3⟩:=k
  obtain ⟨a,ha,rfl,rfl,rfl,rfl⟩:=small_ratN k1
  obtain ⟨b,hb,rfl,rfl,rfl,rfl⟩:=small_ratN k2
  obtain ⟨c,hc,rfl,rfl,rfl,rfl⟩:=small_ratN k3
  refine call47 (pSmall _ _ _ _ _ _ _ _ _ _ _ ⟨u1,fun _ => u2,fun _ => u3,fun _ => okT_O ha hb hc (by omega),?_⟩)
  rw [k1,k2,k3]
  simp only [cond_true]
  congr 1
  have:Sp.smOB n (Sp.isNeg a.num) (Sp.limI a.num) (Sp.isNeg (a.den:Int)) (Sp.limI (a.den:Int)) (Sp.isNeg b.num) (Sp.limI b.num) (Sp.isNeg (b.den:Int)) (Sp.limI (b.den:Int)) (Sp.isNeg c.num) (Sp.limI c.num) (Sp.isNeg (c.den:Int)) (Sp.limI (c.den:Int)) = true ↔ Sp.vroot b c = true:=by
   unfold Sp.smOB
   simp only [decide_eq_true_eq]
   constructor
   ·intro h;exact h.2.2.2 b c rfl rfl rfl rfl rfl rfl rfl rfl
   ·intro h
    refine ⟨k1,k2,k3,fun b' c' e1 e2 e3 e4 e5 e6 e7 e8 => ?_⟩
    rw [rat_inj e1 e2 e3 e4,rat_inj e5 e6 e7 e8];exact h
  exact Bool.eq_iff_iff.2 this.symm
 ·have hf:Sp.smOB n s1 x1 t1 y1 s2 x2 t2 y2 s3 x3 t3 y3 = false:=by
   unfold Sp.smOB
   simp only [decide_eq_false_iff_not]
   exact fun h => k ⟨h.1,h.2.1,h.2.2.1⟩
  rw [hf]
  refine call47 (pSmallR _ _ _ _ _ _ _ _ _ _ _ _ _ _ _ _ _ _ _ _ ⟨u1,fun _ => u2,fun _ => u3,false,fun h => absurd ⟨h.1.1,h.1.2,h.2⟩ k,?_⟩)
  cases Sp.smallB n s1 x1 t1 y1 <;> cases Sp.smallB n s2 x2 t2 y2 <;> cases Sp.smallB n s3 x3 t3 y3 <;> rfl
theorem smOB_rat {n:Int} {s1 s2 s3 t1 t2 t3:Bool} {x1 x2 x3 y1 y2 y3:List Int} (h:Sp.smOB n s1 x1 t1 y1 s2 x2 t2 y2 s3 x3 t3 y3 = true):∃ a b c:Rat,(Sp.okT n.toNat a /\ Sp.okT n.toNat b /\ Sp.okT n.toNat c) /\ Sp.vroot b c = true /\ (s1 = Sp.isNeg a.num /\ x1 = Sp.limI a.num /\ t1 = Sp.isNeg (a.den:Int) /\ y1 = Sp.limI (a.den:Int)) /\ (s2 = Sp.isNeg b.num /\ x2 = Sp.limI b.num /\ t2 = Sp.isNeg (b.den:Int) /\ y2 = Sp.limI (b.den:Int)) /\ s3 = Sp.isNeg c.num /\ x3 = Sp.limI c.num /\ t3 = Sp.isNeg (c.den:Int) /\ y3 = Sp.limI (c.den:Int):=by
 unfold Sp.smOB at h
 simp only [decide_eq_true_eq] at h
 obtain ⟨k1,k2,k3,k⟩:=h
 obtain ⟨a,ha,rfl,rfl,rfl,rfl⟩:=small_ratN k1
 obtain ⟨b,hb,rfl,rfl,rfl,rfl⟩:=small_ratN k2
 obtain ⟨c,hc,rfl,rfl,rfl,rfl⟩:=small_ratN k3
 exact ⟨a,b,c,⟨ha,hb,hc⟩,k b c rfl rfl rfl rfl rfl rfl rfl rfl,⟨rfl,rfl,rfl,rfl⟩,⟨rfl,rfl,rfl,rfl⟩,rfl,rfl,rfl,rfl⟩
end Go.Av

namespace Go.Av
open Go.Proofs
set_option maxRecDepth 100000
def fi10:Fi:=⟨15,[.tmp 2]⟩
def kp10:List (Nat × List Nat):=[(0,[0]),(1,[5,6,7]),(2,[5,6,7,8]),(3,[4,5,6,7]),(4,[5,6,7,13]),(5,[2]),(6,[5,6,7]),(7,[2])]
def lSm1_at (h:Bool) (s1 t1 f1 g1 s2 t2 f2 g2 s3 t3 f3 g3:Bool) (x1 y1 x2 y2 x3 y3:List Int) (Q:AV -> Heap -> Prop):Prop:=Wp M1 (.run fi10 (atC (cd Tryz.f10) []) [(0,.vec h 12 [.agg [.bool s1,.vec f1 1 (x1.map (.int .u32)),.bool t1,.vec g1 1 (y1.map (.int .u32)),.bool s2,.vec f2 1 (x2.map (.int .u32)),.bool t2,.vec g2 1 (y2.map (.int .u32)),.bool s3,.vec f3 1 (x3.map (.int .u32)),.bool t3,.vec g3 1 (y3.map (.int .u32))]])] []) Q
def lSm1a_at (h:Bool) (s1 t1 f1 g1 s2 t2 f2 g2 s3 t3 f3 g3:Bool) (x1 y1 x2 y2 x3 y3:List Int) (Q:AV -> Heap -> Prop):Prop:=Wp M1 (.run fi10 (atC (cd Tryz.f10) [1,0,1,0,0]) [(5,.vec h 12 [.agg [.bool s1,.vec f1 1 (x1.map (.int .u32)),.bool t1,.vec g1 1 (y1.map (.int .u32)),.bool s2,.vec f2 1 (x2.map (.int .u32)),.bool t2,.vec g2 1 (y2.map (.int .u32)),.bool s3,.vec f3 1 (x3.map (.int .u32)),.bool t3,.vec g3 1 (y3.map (.int .u32))]]),(6,.int .i64 1),(7,.int .i64 0)] []) Q
def lSm1b_at (h:Bool) (s1 t1 f1 g1 s2 t2 f2 g2 s3 t3 f3 g3:Bool) (x1 y1 x2 y2 x3 y3:List Int) (Q:AV -> Heap -> Prop):Prop:=Wp M1 (.run fi10 (atC (cd Tryz.f10) [1,0,1,0,0]) [(5,.vec h 12 [.agg [.bool s1,.vec f1 1 (x1.map (.int .u32)),.bool t1,.vec g1 1 (y1.map (.int .u32)),.bool s2,.vec f2 1 (x2.map (.int .u32)),.bool t2,.vec g2 1 (y2.map (.int .u32)),.bool s3,.vec f3 1 (x3.map (.int .u32)),.bool t3,.vec g3 1 (y3.map (.int .u32))]]),(6,.int .i64 1),(7,.int .i64 1)] []) Q
theorem call10 {args:List AV} {d:AV} (h:wc M1 fi10 Tryz.f10 args d):Ev M1 (.pure 10 args) d []:=pcl _ _ (by kernel_rfl) h
theorem lSm1 (h:Bool) (s1 t1 f1 g1 s2 t2 f2 g2 s3 t3 f3 g3:Bool) (x1 y1 x2 y2 x3 y3:List Int)  (dq:AV) (H :
  lSm1a_at (h) (s1) (t1) (f1) (g1) (s2) (t2) (f2) (g2) (s3) (t3) (f3) (g3) (x1) (y1) (x2) (y2) (x3) (y3) (PureQ dq)) :
 lSm1_at h s1 t1 f1 g1 s2 t2 f2 g2 s3 t3 f3 g3 x1 y1 x2 y2 x3 y3 (PureQ dq):=by
 unfold lSm1_at
 exact path_wp (G:=given kp10 [] []) 1000 [] ⟨(atC (cd Tryz.f10) [1,0,1,0,0]),[(5,AV.vec h 12 [ag [vb s1,AV.vec f1 1 (us x1),vb t1,AV.vec g1 1 (us y1),vb s2,AV.vec f2 1 (us x2),vb t2,AV.vec g2 1 (us y2),vb s3,AV.vec f3 1 (us x3),vb t3,AV.vec g3 1 (us y3)]]),(6,vi 1),(7,vi 0)],[],_,[],_⟩ (by kernel_rfl) b0 q0 c0 (H)
noncomputable abbrev zNyB1 (s1:Bool) (f1:Bool) (x1:List Int) (t1:Bool) (g1:Bool) (y1:List Int) (s2:Bool) (f2:Bool) (x2:List Int) (t2:Bool) (g2:Bool) (y2:List Int) (s3:Bool) (f3:Bool) (x3:List Int) (t3:Bool) (g3:Bool) (y3:List Int):=ag [vb s1,AV.vec f1 1 (us x1),vb t1,AV.vec g1 1 (us y1),vb s2,AV.vec f2 1 (us x2),vb t2,AV.vec g2 1 (us y2),vb s3,AV.vec f3 1 (us x3),vb t3,AV.vec g3 1 (us y3)]
theorem lSm1a (h:Bool) (s1 t1 f1 g1 s2 t2 f2 g2 s3 t3 f3 g3:Bool) (x1 y1 x2 y2 x3 y3:List Int)  (dq:AV) (H :
  (Sp.okU3 4 x1 y1 x2 y2 x3 y3) /\
  ((¬(Sp.smOB 4 s1 x1 t1 y1 s2 x2 t2 y2 s3 x3 t3 y3 = true)) -> vb false = dq) /\
  (¬(¬(Sp.smOB 4 s1 x1 t1 y1 s2 x2 t2 y2 s3 x3 t3 y3 = true)) -> lSm1b_at (h) (s1) (t1) (f1) (g1) (s2) (t2) (f2) (g2) (s3) (t3) (f3) (g3) (x1) (y1) (x2) (y2) (x3) (y3) (PureQ dq))) :
 lSm1a_at h s1 t1 f1 g1 s2 t2 f2 g2 s3 t3 f3 g3 x1 y1 x2 y2 x3 y3 (PureQ dq):=by
 unfold lSm1a_at
 obtain ⟨k1,H⟩:=H
 refine path_wp (G:=given kp10 [(4,1,.call (vb (Sp.smOB 4 s1 x1 t1 y1 s2 x2 t2 y2 s3 x3 t3 y3)) none)] []) 11 [true] ⟨(atC (cd Tryz.f10) [1,0,1,0,0,1,1,0,0,1,1]),[(5,AV.vec h 12 [(zNyB1 s1 f1 x1 t1 g1 y1 s2 f2 x2 t2 g2 y2 s3 f3 x3 t3 g3 y3)]),(6,vi 1),(7,vi 0),(13,vb !Sp.smOB 4 s1 x1 t1 y1 s2 x2 t2 y2 s3 x3 t3 y3)],[⟨[(zNyB1 s1 f1 x1 t1 g1 y1 s2 f2 x2 t2 g2 y2 s3 f3 x3 t3 g3 y3)],12,0,false,false⟩],_,[],_⟩ (by kernel_rfl) (bc rfl (bc rfl (bc rfl (bc rfl (bc rfl b0))))) q0 (ce (@ev47 (s1) (s2) (s3) (t1) (t2) (t3) (f1) (f2) (f3) (g1) (g2) (g3) (x1) (x2) (x3) (y1) (y2) (y3) (4) k1) c0) ?_
 rcases xm (¬(Sp.smOB 4 s1 x1 t1 y1 s2 x2 t2 y2 s3 x3 t3 y3 = true)) with d3 | d3
 ·have H:=H.1 d3
  exact path_re (G:=given kp10 [] []) 1000 [true] (asm:=[(!Sp.smOB 4 s1 x1 t1 y1 s2 x2 t2 y2 s3 x3 t3 y3) == true]) (vb false) (by kernel_rfl) (bc (beq_t ((i_not (i_var _)).2 d3)) b0) q0 c0 H
 ·have H:=H.2 d3
  exact path_wp (G:=given kp10 [] []) 1000 [false] ⟨(atC (cd Tryz.f10) [1,0,1,0,0]),[(5,AV.vec h 12 [(zNyB1 s1 f1 x1 t1 g1 y1 s2 f2 x2 t2 g2 y2 s3 f3 x3 t3 g3 y3)]),(6,vi 1),(7,vi 1)],[⟨[(zNyB1 s1 f1 x1 t1 g1 y1 s2 f2 x2 t2 g2 y2 s3 f3 x3 t3 g3 y3)],12,0,false,false⟩],[(!Sp.smOB 4 s1 x1 t1 y1 s2 x2 t2 y2 s3 x3 t3 y3) == false],[],_⟩ (by kernel_rfl) (bc (beq_f (fun h => d3 ((i_not (i_var _)).1 h))) b0) q0 c0 (wp_narrow [] (by kernel_rfl) H)
theorem lSm1b (h:Bool) (s1 t1 f1 g1 s2 t2 f2 g2 s3 t3 f3 g3:Bool) (x1 y1 x2 y2 x3 y3:List Int)  (dq:AV) (H :
  vb true = dq) :
 lSm1b_at h s1 t1 f1 g1 s2 t2 f2 g2 s3 t3 f3 g3 x1 y1 x2 y2 x3 y3 (PureQ dq):=by
 unfold lSm1b_at
 exact path_re (G:=given kp10 [] []) 1000 [false] (vb true) (by kernel_rfl) (bc rfl b0) q0 c0 H
end Go.Av

namespace Go.Av
open Go.Proofs
theorem ev10_r (h:Bool) (s1 t1 f1 g1 s2 t2 f2 g2 s3 t3 f3 g3:Bool) (x1 y1 x2 y2 x3 y3:List Int) (k:Sp.okU3 4 x1 y1 x2 y2 x3 y3):Ev M1 (.pure 10 [.vec h 12 [.agg [.bool s1,.vec f1 1 (x1.map (.int .u32)),.bool t1,.vec g1 1 (y1.map (.int .u32)),.bool s2,.vec f2 1 (x2.map (.int .u32)),.bool t2,.vec g2 1 (y2.map (.int .u32)),.bool s3,.vec f3 1 (x3.map (.int .u32)),.bool t3,.vec g3 1 (y3.map (.int .u32))]]]) (.bool (Sp.smOB 4 s1 x1 t1 y1 s2 x2 t2 y2 s3 x3 t3 y3)) []:=by
 refine call10 (lSm1 _ _ _ _ _ _ _ _ _ _ _ _ _ _ _ _ _ _ _ _ (lSm1a _ _ _ _ _ _ _ _ _ _ _ _ _ _ _ _ _ _ _ _ ⟨k,fun c => ?_,fun c => lSm1b _ _ _ _ _ _ _ _ _ _ _ _ _ _ _ _ _ _ _ _ ?_⟩))
 ·rw [Bool.eq_false_iff.2 c]
 ·rw [Classical.not_not.1 c]
theorem okU3_rat (a b c:Rat):Sp.okU3 4 (Sp.limI a.num) (Sp.limI (a.den:Int)) (Sp.limI b.num) (Sp.limI (b.den:Int)) (Sp.limI c.num) (Sp.limI (c.den:Int)):=
 ⟨by unfold Sp.okN;omega,⟨fun v hv => (lim_ok _ v hv).1,fun v hv => (lim_ok _ v hv).1⟩,⟨fun v hv => (lim_ok _ v hv).1,fun v hv => (lim_ok _ v hv).1⟩,fun v hv => (lim_ok _ v hv).1,fun v hv => (lim_ok _ v hv).1⟩
noncomputable def Sp.smR (a b c:Rat):Bool:=Sp.smOB 4 (Sp.isNeg a.num) (Sp.limI a.num) (Sp.isNeg (a.den:Int)) (Sp.limI (a.den:Int)) (Sp.isNeg b.num) (Sp.limI b.num) (Sp.isNeg (b.den:Int)) (Sp.limI (b.den:Int)) (Sp.isNeg c.num) (Sp.limI c.num) (Sp.isNeg (c.den:Int)) (Sp.limI (c.den:Int))
theorem ev10 (h:Bool) (f1 f2 f3 f4 f5 f6:Bool) (a b c:Rat):Ev M1 (.pure 10 [.vec h 12 [rootA f1 f2 f3 f4 f5 f6 a b c]]) (.bool (Sp.smR a b c)) []:=
 ev10_r _ _ _ _ _ _ _ _ _ _ _ _ _ _ _ _ _ _ _ (okU3_rat a b c)
theorem divInt_one (a:Int):Rat.divInt a 1 = Sp.qi a:=by
 have:=qf_one a
 rw [qf_eq] at this
 exact this
end Go.Av

namespace Go.Av
open Go.Proofs
set_option maxRecDepth 100000
def fi16:Fi:=⟨10,[.tmp 4]⟩
def kp16:List (Nat × List Nat):=[(0,[2,3]),(1,[4])]
def pCmpRat_at (f1 f2 f3 f4 f5 f6:Bool) (k l:Bool) (a b c r:Rat) (Q:AV -> Heap -> Prop):Prop:=Wp M1 (.run fi16 (atC (cd Tryz.f16) []) [(0,rootA f1 f2 f3 f4 f5 f6 a b c),(1,ratA k l r)] []) Q
theorem call16 {args:List AV} {d:AV} (h:wc M1 fi16 Tryz.f16 args d):Ev M1 (.pure 16 args) d []:=pcl _ _ (by kernel_rfl) h
theorem pCmpRat (f1 f2 f3 f4 f5 f6:Bool) (k l:Bool) (a b c r:Rat)  (dq:AV) (H :
  (Sp.ok r.num) /\
  (Sp.okR a /\ Sp.okR (-r)) /\
  (Sp.okO (a + -r) b c) /\
  vi (Sp.sgP (a + -r) b c) = dq) :
 pCmpRat_at f1 f2 f3 f4 f5 f6 k l a b c r (PureQ dq):=by
 unfold pCmpRat_at
 obtain ⟨k1,H⟩:=H
 obtain ⟨k2,H⟩:=H
 obtain ⟨k3,H⟩:=H
 exact path_re (G:=given kp16 [(1,2,.call (ratA false false (-r)) none),(1,3,.call (rootF (a + -r) b c) none),(1,4,.call (vi (Sp.sgP (a + -r) b c)) none)] []) 1000 [] (vi (Sp.sgP (a + -r) b c)) (by kernel_rfl) (bc rfl (bc rfl b0)) q0 (ce (@ev70 (k) (l) (r) k1) (ce (@ev69 (f1) (f2) (f3) (f4) (f5) (f6) (false) (false) (a) (b) (c) (-r) k2) (ce (@ev21 (false) (false) (false) (false) (false) (false) (a + -r) (b) (c) k3) c0))) H
end Go.Av
