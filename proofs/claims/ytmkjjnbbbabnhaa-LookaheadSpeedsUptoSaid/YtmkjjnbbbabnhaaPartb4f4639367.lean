/- PART 4 of the texts of a claim, joined by a program: what each part shows stands at its head. -/
import Derived.Test.YtmkjjnbbbabnhaaPartba7f100b3e

namespace Go.Av
open Go.Proofs
set_option maxRecDepth 100000
def fi50:Fi:=⟨54,[.cell 2 52,.tmp 3]⟩
def kp50:List (Nat × List Nat):=[(0,[1,2]),(1,[1,2,14]),(2,[2,3]),(3,[1,2,19]),(4,[2,3]),(5,[1,2,4]),(6,[1,2,5]),(7,[1,2,5,6]),(8,[1,2,5,6,7]),(9,[1,2,5,6,10]),(10,[1,2,5,6,10,51]),(11,[2,3]),(12,[1,2,5,6])]
def vSqrt_at (fa:Bool) (a:Int) (Q:AV -> Heap -> Prop):Prop:=Wp M1 (.run fi50 (atC (cd Try.f50) []) [(0,bigA fa a)] []) Q
def vSqrtH_at (fa:Bool) (a x:Int) (Q:AV -> Heap -> Prop):Prop:=Wp M1 (.run fi50 (atC (cd Try.f50) [1,1,1,1,1,1,0,0]) [(1,.ptr 0 0 0 0),(2,.ptr 1 0 0 0),(5,.ptr 2 0 0 0),(6,.ptr 3 0 0 0)] [⟨[bigA fa a],2,0,false,false⟩,⟨[.agg [.bool false,.vnil]],2,0,false,false⟩,⟨[bigA false x],2,0,false,false⟩,⟨[.agg [.bool false,.vec false 1 ((Sp.limI 2).map (.int .u32))]],2,0,false,false⟩]) Q
theorem call50 {args:List AV} {d:AV} (h:wc M1 fi50 Try.f50 args d):Ev M1 (.pure 50 args) d []:=pcl _ _ (by kernel_rfl) h
noncomputable abbrev zNvH1:=ag [vb false,vf (us (Sp.limI 2))]
noncomputable abbrev zNvH2 (a:Int):=Sp.sg false (1000000000 ^ (((↑(Sp.limI a).length:Int) + 1).tdiv 2).toNat)
theorem vSqrt (fa:Bool) (a:Int)  (dq:AV) (H :
  ((Sp.isNeg a = true) -> Weak (tu [ag [vb false,AV.vnil],vi 7]) dq) /\
  (¬(Sp.isNeg a = true) -> (((↑(Sp.limI a).length:Int) = 0) -> Weak (tu [ag [vb false,AV.vnil],vi 0]) dq) /\
   (¬((↑(Sp.limI a).length:Int) = 0) -> (-9223372036854775808 <= (↑(Sp.limI a).length:Int) + 1 /\ (↑(Sp.limI a).length:Int) + 1 <= 9223372036854775807) /\
    (-9223372036854775808 <= ((↑(Sp.limI a).length:Int) + 1).tdiv 2 /\ ((↑(Sp.limI a).length:Int) + 1).tdiv 2 <= 9223372036854775807) /\
    (Sp.short ((((↑(Sp.limI a).length:Int) + 1).tdiv 2).toNat + 1)) /\
    (0 <= ((↑(Sp.limI a).length:Int) + 1).tdiv 2) /\
    (((↑(Sp.limI a).length:Int) + 1).tdiv 2 * 4 <= 1099511627776) /\
    (((↑(Sp.limI a).length:Int) + 1).tdiv 2 <= 1099511627776) /\
    (((List.replicate (((↑(Sp.limI a).length:Int) + 1).tdiv 2).toNat (0:Int)).length + 1) * 4 <= 1099511627776) /\
    (Sp.inI 2) /\
    vSqrtH_at (fa) (a) (Sp.sg false (1000000000 ^ (((↑(Sp.limI a).length:Int) + 1).tdiv 2).toNat)) (PureQ dq)))) :
 vSqrt_at fa a (PureQ dq):=by
 unfold vSqrt_at
 rcases xm (Sp.isNeg a = true) with d2 | d2
 ·have H:=H.1 d2
  exact path_rq (G:=given kp50 [] []) 1000 [true] (asm:=[0 == 0,(Sp.isNeg a) == true,true]) (tu [ag [vb false,AV.vnil],vi 7]) (by kernel_rfl) (bc (beq_self_eq_true _) (bc (beq_t ((i_var _).2 d2)) (bc rfl b0))) q0 c0 H
 ·have H:=H.2 d2
  have w3:(us (Sp.limI a)).length = (Sp.limI a).length:=List.length_map ..
  have i4:((↑(us (Sp.limI a)).length:Int) == 0) = true ↔ ((↑(Sp.limI a).length:Int) = 0):=(by (try rw [w3]);all_goals exact i_eq)
  rcases xm ((↑(Sp.limI a).length:Int) = 0) with d5 | d5
  ·have H:=H.1 d5
   exact path_rq (G:=given kp50 [] []) 1000 [false,true] (asm:=[0 == 0,(Sp.isNeg a) == false,true,((↑(us (Sp.limI a)).length:Int) == 0) == true,true]) (tu [ag [vb false,AV.vnil],vi 0]) (by kernel_rfl) (bc (beq_self_eq_true _) (bc (beq_f (fun h => d2 ((i_var _).1 h))) (bc rfl (bc (beq_t (i4.2 d5)) (bc rfl b0))))) q0 c0 H
  ·have H:=H.2 d5
   obtain ⟨k6,H⟩:=H
   have w7:wi ((↑(Sp.limI a).length:Int) + 1) = (↑(Sp.limI a).length:Int) + 1:=wI64 k6
   obtain ⟨k8,H⟩:=H
   have w9:wi (((↑(Sp.limI a).length:Int) + 1).tdiv 2) = ((↑(Sp.limI a).length:Int) + 1).tdiv 2:=wI64 k8
   have w10:List.replicate (((↑(Sp.limI a).length:Int) + 1).tdiv 2).toNat (vu 0) = us (List.replicate (((↑(Sp.limI a).length:Int) + 1).tdiv 2).toNat (0:Int)):=(lm_rep rfl)
   have w11:us (List.replicate (((↑(Sp.limI a).length:Int) + 1).tdiv 2).toNat (0:Int)) ++ [vu 1] = us (List.replicate (((↑(Sp.limI a).length:Int) + 1).tdiv 2).toNat (0:Int) ++ [1]):=(lm_app rfl rfl)
   obtain ⟨k12,H⟩:=H
   have i13:(decide (0 <= wi ((wi ((↑(us (Sp.limI a)).length:Int) + 1)).tdiv 2))) = true ↔ (0 <= ((↑(Sp.limI a).length:Int) + 1).tdiv 2):=(by (try rw [w3]);(try rw [w7]);(try rw [w9]);all_goals exact i_dec)
   obtain ⟨k14,H⟩:=H
   have i15:(decide (wi ((wi ((↑(us (Sp.limI a)).length:Int) + 1)).tdiv 2) <= wi ((wi ((↑(us (Sp.limI a)).length:Int) + 1)).tdiv 2))) = true ↔ (((↑(Sp.limI a).length:Int) + 1).tdiv 2 <= ((↑(Sp.limI a).length:Int) + 1).tdiv 2):=(by (try rw [w3]);(try rw [w7]);(try rw [w9]);all_goals exact i_dec)
   have i16:(decide (wi ((wi ((↑(us (Sp.limI a)).length:Int) + 1)).tdiv 2) * 4 <= 1099511627776)) = true ↔ (((↑(Sp.limI a).length:Int) + 1).tdiv 2 * 4 <= 1099511627776):=(by (try rw [w3]);(try rw [w7]);(try rw [w9]);all_goals exact i_dec)
   obtain ⟨k17,H⟩:=H
   have i18:(decide (wi ((wi ((↑(us (Sp.limI a)).length:Int) + 1)).tdiv 2) <= 1099511627776)) = true ↔ (((↑(Sp.limI a).length:Int) + 1).tdiv 2 <= 1099511627776):=(by (try rw [w3]);(try rw [w7]);(try rw [w9]);all_goals exact i_dec)
   obtain ⟨k19,H⟩:=H
   have w20:(us (List.replicate (((↑(Sp.limI a).length:Int) + 1).tdiv 2).toNat (0:Int))).length = (List.replicate (((↑(Sp.limI a).length:Int) + 1).tdiv 2).toNat (0:Int)).length:=List.length_map ..
   have i21:(decide (((List.replicate (wi ((wi ((↑(us (Sp.limI a)).length:Int) + 1)).tdiv 2)).toNat (vu 0)).length + 1) * 4 <= 1099511627776)) = true ↔ (((List.replicate (((↑(Sp.limI a).length:Int) + 1).tdiv 2).toNat (0:Int)).length + 1) * 4 <= 1099511627776):=(by (try rw [w3]);(try rw [w7]);(try rw [w9]);(try rw [w10]);(try rw [w20]);all_goals exact i_dec)
   obtain ⟨k22,H⟩:=H
   obtain ⟨k23,H⟩:=H
   exact path_wp (G:=given kp50 [(6,4,.call (bigA false (zNvH2 a)) none),(7,0,.call (zNvH1) none)] []) 1000 [false,false] ⟨(atC (cd Try.f50) [1,1,1,1,1,1,0,0]),[(1,AV.ptr 0 0 0 0),(2,AV.ptr 1 0 0 0),(5,AV.ptr 3 0 0 0),(6,AV.ptr 4 0 0 0)],[⟨[bigA fa a],2,0,false,false⟩,⟨[ag [vb false,AV.vnil]],2,0,false,false⟩,⟨List.replicate (wi ((wi ((↑(us (Sp.limI a)).length:Int) + 1)).tdiv 2)).toNat (vu 0) ++ [vu 1],1,1,true,true⟩,⟨[bigA false (zNvH2 a)],2,0,false,false⟩,⟨[zNvH1],2,0,false,false⟩],[0 == 0,(Sp.isNeg a) == false,true,((↑(us (Sp.limI a)).length:Int) == 0) == false,true,true,decide (0 <= wi ((wi ((↑(us (Sp.limI a)).length:Int) + 1)).tdiv 2)),decide (wi ((wi ((↑(us (Sp.limI a)).length:Int) + 1)).tdiv 2) <= wi ((wi ((↑(us (Sp.limI a)).length:Int) + 1)).tdiv 2)),decide (wi ((wi ((↑(us (Sp.limI a)).length:Int) + 1)).tdiv 2) * 4 <= 1099511627776),decide (wi ((wi ((↑(us (Sp.limI a)).length:Int) + 1)).tdiv 2) <= 1099511627776),true,decide (((List.replicate (wi ((wi ((↑(us (Sp.limI a)).length:Int) + 1)).tdiv 2)).toNat (vu 0)).length + 1) * 4 <= 1099511627776),true,true,true],[],[pc 71 [vb false,vf (List.replicate (wi ((wi ((↑(us (Sp.limI a)).length:Int) + 1)).tdiv 2)).toNat (vu 0) ++ [vu 1])] (bigA false (zNvH2 a)),pc 51 [vi 2] (zNvH1)]⟩ (by kernel_rfl) (bc (beq_self_eq_true _) (bc (beq_f (fun h => d2 ((i_var _).1 h))) (bc rfl (bc (beq_f (fun h => d5 (i4.1 h))) (bc rfl (bc rfl (bc (i13.2 k14) (bc (i15.2 (by omega)) (bc (i16.2 k17) (bc (i18.2 k19) (bc rfl (bc (i21.2 k22) (bc rfl (bc rfl (bc rfl b0))))))))))))))) q0 (ce (by (try rw [w3]);(try rw [w7]);(try rw [w9]);(try rw [w10]);(try rw [w11]);all_goals exact (@ev71_c (false) ((((↑(Sp.limI a).length:Int) + 1).tdiv 2).toNat) k12)) (ce (@ev51 (2) k23) c0)) (by (try rw [w3]);(try rw [w7]);(try rw [w9]);(try rw [w10]);(try rw [w11]);all_goals exact wp_narrow [0,1,3,4] (by kernel_rfl) H)
noncomputable abbrev zNvH3:=ag [vb false,vf (us (Sp.limI 2))]
theorem vSqrtH (fa:Bool) (a x:Int)  (dq:AV) (H :
  (Sp.okB a /\ Sp.okB x /\ x ≠ 0) /\
  (Sp.okB x /\ Sp.okB (Sp.flo a x)) /\
  (Sp.okB (x + Sp.flo a x)) /\
  (Sp.okB (Sp.flo (x + Sp.flo a x) 2) /\ Sp.okB x) /\
  ((Sp.sgnI (Sp.flo (x + Sp.flo a x) 2 - x) >= 0) -> Weak (tu [bigA false x,vi 0]) dq) /\
  (¬(Sp.sgnI (Sp.flo (x + Sp.flo a x) 2 - x) >= 0) -> vSqrtH_at (fa) (a) (Sp.flo (x + Sp.flo a x) 2) (PureQ dq))) :
 vSqrtH_at fa a x (PureQ dq):=by
 unfold vSqrtH_at
 obtain ⟨k1,H⟩:=H
 obtain ⟨k2,H⟩:=H
 obtain ⟨k3,H⟩:=H
 refine path_wp (G:=given kp50 [(8,2,.call (tu [bigA false (Sp.flo a x),bigA false (Sp.flr a x),vi 0]) none),(9,2,.call (bigA false (x + Sp.flo a x)) none),(9,4,.call (tu [bigA false (Sp.flo (x + Sp.flo a x) 2),bigA false (Sp.flr (x + Sp.flo a x) 2),vi 0]) none)] []) 4 [] ⟨(atC (cd Try.f50) [1,1,1,1,1,1,0,0,0,1,0]),[(1,AV.ptr 0 0 0 0),(2,AV.ptr 1 0 0 0),(5,AV.ptr 2 0 0 0),(6,AV.ptr 3 0 0 0),(7,AV.ptr 4 0 0 0)],[⟨[bigA fa a],2,0,false,false⟩,⟨[ag [vb false,AV.vnil]],2,0,false,false⟩,⟨[bigA false x],2,0,false,false⟩,⟨[zNvH3],2,0,false,false⟩,⟨[bigA false (Sp.flo a x)],2,0,false,false⟩,⟨[bigA false (Sp.flr a x)],2,0,false,false⟩],_,[],_⟩ (by kernel_rfl) (bc rfl (bc rfl (bc rfl (bc rfl b0)))) q0 (ce (@ev72 (fa) (false) (a) (x) k1) c0) (wp_both (G:=given kp50 [(8,2,.call (tu [bigA false (Sp.flo a x),bigA false (Sp.flr a x),vi 0]) none),(9,2,.call (bigA false (x + Sp.flo a x)) none),(9,4,.call (tu [bigA false (Sp.flo (x + Sp.flo a x) 2),bigA false (Sp.flr (x + Sp.flo a x) 2),vi 0]) none)] []) [0,1,2,3,4,5,7,6] 9 (e1:=[(1,AV.ptr 0 0 0 0),(2,AV.ptr 1 0 0 0),(5,AV.ptr 2 0 0 0),(6,AV.ptr 3 0 0 0),(10,AV.ptr 6 0 0 0)]) (L1:=[⟨[bigA fa a],2,0,false,false⟩,⟨[ag [vb false,AV.vnil]],2,0,false,false⟩,⟨[bigA false x],2,0,false,false⟩,⟨[zNvH3],2,0,false,false⟩,⟨[bigA false (Sp.flo a x)],2,0,false,false⟩,⟨[bigA false (Sp.flr a x)],2,0,false,false⟩,⟨[bigA false (Sp.flo (x + Sp.flo a x) 2)],2,0,false,false⟩,⟨[bigA false (Sp.flr (x + Sp.flo a x) 2)],2,0,false,false⟩]) (a:=[true,true,true,true,true]) (q:=[]) (cs:=[⟨true,false,66,[bigA false x,bigA false (Sp.flo a x)],[],bigA false (x + Sp.flo a x),[]⟩,⟨true,false,72,[bigA false (x + Sp.flo a x),zNvH3],[],tu [bigA false (Sp.flo (x + Sp.flo a x) 2),bigA false (Sp.flr (x + Sp.flo a x) 2),vi 0],[]⟩]) (by kernel_rfl) (by kernel_rfl) (allB_cons rfl (allB_cons rfl (allB_cons rfl (allB_cons rfl (allB_cons rfl allB_nil))))) allP_nil (allC_cons (fun _ => (@ev66 (false) (false) (x) (Sp.flo a x) k2)) (allC_cons (fun _ => (@ev72_b (false) (x + Sp.flo a x) k3)) allC_nil)) ?_)
 obtain ⟨k4,H⟩:=H
 refine path_wp (G:=given kp50 [(10,2,.call (vi (Sp.sgnI (Sp.flo (x + Sp.flo a x) 2 - x))) none)] []) 3 [] ⟨(atC (cd Try.f50) [1,1,1,1,1,1,0,0,0,1,1,0,1]),[(1,AV.ptr 0 0 0 0),(2,AV.ptr 1 0 0 0),(5,AV.ptr 2 0 0 0),(6,AV.ptr 3 0 0 0),(10,AV.ptr 6 0 0 0),(51,vb (decide (Sp.sgnI (Sp.flo (x + Sp.flo a x) 2 - x) >= 0)))],[⟨[bigA fa a],2,0,false,false⟩,⟨[ag [vb false,AV.vnil]],2,0,false,false⟩,⟨[bigA false x],2,0,false,false⟩,⟨[zNvH3],2,0,false,false⟩,⟨[bigA false (Sp.flo a x)],2,0,false,false⟩,⟨[bigA false (Sp.flr a x)],2,0,false,false⟩,⟨[bigA false (Sp.flo (x + Sp.flo a x) 2)],2,0,false,false⟩,⟨[bigA false (Sp.flr (x + Sp.flo a x) 2)],2,0,false,false⟩],_,[],_⟩ (by kernel_rfl) (bc rfl (bc rfl b0)) q0 (ce (@ev64 (false) (false) (Sp.flo (x + Sp.flo a x) 2) (x) k4) c0) ?_
 rcases xm (Sp.sgnI (Sp.flo (x + Sp.flo a x) 2 - x) >= 0) with d6 | d6
 ·have H:=H.1 d6
  exact path_rq (G:=given kp50 [] []) 1000 [true] (tu [bigA false x,vi 0]) (by kernel_rfl) (bc (beq_t (i_dec.2 d6)) (bc rfl (bc rfl b0))) q0 c0 H
 ·have H:=H.2 d6
  exact path_wp (G:=given kp50 [] []) 1000 [false] ⟨(atC (cd Try.f50) [1,1,1,1,1,1,0,0]),[(1,AV.ptr 0 0 0 0),(2,AV.ptr 1 0 0 0),(5,AV.ptr 2 0 0 0),(6,AV.ptr 3 0 0 0)],[⟨[bigA fa a],2,0,false,false⟩,⟨[ag [vb false,AV.vnil]],2,0,false,false⟩,⟨[bigA false (Sp.flo (x + Sp.flo a x) 2)],2,0,false,false⟩,⟨[zNvH3],2,0,false,false⟩,⟨[bigA false (Sp.flo a x)],2,0,false,false⟩,⟨[bigA false (Sp.flr a x)],2,0,false,false⟩,⟨[bigA false (Sp.flo (x + Sp.flo a x) 2)],2,0,false,false⟩,⟨[bigA false (Sp.flr (x + Sp.flo a x) 2)],2,0,false,false⟩],_,[],_⟩ (by kernel_rfl) (bc (beq_f (fun h => d6 (i_dec.1 h))) (bc rfl (bc rfl b0))) q0 c0 (wp_narrow [0,1,2,3] (by kernel_rfl) H)
end Go.Av

namespace Go.Av
open Go.Proofs
namespace Sp
def okS (v:Int):Prop:=cnt v.natAbs <= 300000
noncomputable def sq (v:Int):Int:=if v < 0 then 0 else (isqrt v.natAbs:Int)
def sqe (v:Int):Int:=if v < 0 then 7 else 0
end Sp
theorem flo_nat {a x:Nat} (h:0 < x):Sp.flo (a:Int) (x:Int) = ((a / x:Nat):Int):=by
 unfold Sp.flo
 rw [if_pos (by omega)];rfl
theorem flo_two (v:Nat):Sp.flo (v:Int) 2 = ((v / 2:Nat):Int):=flo_nat (x:=2) (by omega)
theorem okB_fits {n v:Nat} (h:Sp.fits n v) (hn:n <= 400000):Sp.okB (v:Int):=by
 have:=fits_cnt.1 h
 unfold Sp.okB;rw [Int.natAbs_natCast];omega
theorem fits_pow {k n:Nat} (h:k < n):Sp.fits n (1000000000 ^ k):=Nat.pow_lt_pow_right (by omega) h
theorem sqrtH (fa:Bool) (a:Nat) (ha:Sp.cnt a <= 300000) (h0:a ≠ 0) (n:Nat):∀ x:Nat,x <= n -> 0 < x -> a < (x + 1) * (x + 1) -> Sp.fits 300001 x ->
  vSqrtH_at fa a x (PureQ (.tup [bigA false (Sp.isqrt a:Nat),.int .i64 0])):=by
 induction n with
 | zero => intro x h1 h2;omega
 | succ n ih =>
  intro x h1 h2 h3 h4
  have hfa:Sp.fits 300001 a:=fits_mono (fits_self a) (by omega)
  have hfq:Sp.fits 300001 (a / x):=fits_le hfa (Nat.div_le_self _ _)
  have hfs:Sp.fits 300002 (x + a / x):=fits_sum h4 hfq
  have hfy:Sp.fits 300002 ((x + a / x) / 2):=fits_le hfs (Nat.div_le_self _ _)
  have e2:(x:Int) + ((a / x:Nat):Int) = ((x + a / x:Nat):Int):=by omega
  refine vSqrtH fa _ _ _ ?_
  rw [flo_nat h2,e2,flo_two]
  refine ⟨⟨okB_fits hfa (by omega),okB_fits h4 (by omega),by omega⟩,⟨okB_fits h4 (by omega),okB_fits hfq (by omega)⟩,okB_fits hfs (by omega),⟨okB_fits hfy (by omega),okB_fits h4 (by omega)⟩,fun k => ?_,fun k => ?_⟩
  ·have k:¬(Sp.sgnI (((x + a / x) / 2:Nat) - (x:Int)) < 0):=by omega
   rw [sgnI_lt] at k
   rw [newton_done h2 h3 (by omega)]
   exact .refl _
  ·have k:Sp.sgnI (((x + a / x) / 2:Nat) - (x:Int)) < 0:=by omega
   rw [sgnI_lt] at k
   have hn:=newton_above (a:=a) h2
   refine ih _ (by omega) ?_ hn (fits_le h4 (by omega))
   apply Nat.pos_of_ne_zero
   intro e
   rw [e] at hn
   omega
theorem ev50 (fa:Bool) (v:Int) (h:Sp.okS v):Ev M1 (.pure 50 [bigA fa v]) (.tup [bigA false (Sp.sq v),.int .i64 (Sp.sqe v)]) []:=by
 have hl:=limI_len v
 have e1:Sp.limI (0:Int) = []:=lim_zero
 have e2:Sp.isNeg (0:Int) = false:=rfl
 have w0:∀ e:Int,Weak (.tup [.agg [.bool false,.vnil],.int .i64 e]) (.tup [bigA false 0,.int .i64 e]):=by
  intro e
  show Weak _ (.tup [.agg [.bool (Sp.isNeg 0),.vec false 1 ((Sp.limI 0).map (.int .u32))],.int .i64 e])
  rw [e1,e2]
  exact weak_two (weak_bnil false) (.refl _)
 unfold Sp.okS at h
 by_cases hneg:v < 0
 ·unfold Sp.sq Sp.sqe
  rw [if_pos hneg,if_pos hneg]
  exact call50 (vSqrt _ _ _ ⟨fun _ => w0 7,fun k => absurd (isNeg_iff.2 hneg) k⟩)
 ·unfold Sp.sq Sp.sqe
  rw [if_neg hneg,if_neg hneg]
  refine call50 (vSqrt _ _ _ ⟨fun k => absurd (isNeg_iff.1 k) hneg,fun _ => ⟨fun k => ?_,fun k => ?_⟩⟩)
  ·have hz:v.natAbs = 0:=cnt_eq_zero.1 (by omega)
   have:Sp.isqrt v.natAbs = 0:=by rw [hz];exact isqrt_eq ⟨by omega,by omega⟩
   rw [this];exact w0 0
  ·have hz:Sp.cnt v.natAbs ≠ 0:=by omega
   have hz':v.natAbs ≠ 0:=fun e => hz (by rw [e];exact cnt_zero)
   have ek:(((Sp.limI v).length:Int) + 1).tdiv 2 = (((Sp.cnt v.natAbs + 1) / 2:Nat):Int):=by
    rw [hl]
    have:((Sp.cnt v.natAbs:Nat):Int) + 1 = ((Sp.cnt v.natAbs + 1:Nat):Int):=by omega
    rw [this]
    exact (Int.ofNat_tdiv (Sp.cnt v.natAbs + 1) 2).symm
   rw [ek,Int.toNat_natCast,sg_false,List.length_replicate]
   generalize hk:(Sp.cnt v.natAbs + 1) / 2 = k
   refine ⟨by omega,by omega,by unfold Sp.short;omega,by omega,by omega,by omega,by omega,by unfold Sp.inI;omega,?_⟩
   have hv:((v.natAbs:Nat):Int) = v:=by omega
   have:=sqrtH fa v.natAbs h hz' (1000000000 ^ k) (1000000000 ^ k) (Nat.le_refl _) (Nat.pow_pos (by omega)) ?_ ?_
   ·rwa [hv] at this
   ·have h1:=fits_self v.natAbs
    unfold Sp.fits at h1
    have h2:1000000000 ^ Sp.cnt v.natAbs <= 1000000000 ^ (k + k):=Nat.pow_le_pow_right (by omega) (by omega)
    rw [Nat.pow_add] at h2
    have h3:=Nat.mul_le_mul (Nat.le_succ (1000000000 ^ k)) (Nat.le_succ (1000000000 ^ k))
    exact Nat.lt_of_lt_of_le h1 (Nat.le_trans h2 h3)
   ·exact fits_pow (by omega)
end Go.Av

namespace Go.Av
open Go.Proofs
namespace Sp
noncomputable def af (k s:Int):Int:=Sp.sq (s * s + k)
end Sp
theorem sq_low {Y:Int} (h:0 <= Y):Sp.sq Y * Sp.sq Y <= Y /\ Y < (Sp.sq Y + 1) * (Sp.sq Y + 1) /\ 0 <= Sp.sq Y:=by
 obtain ⟨h1,h2⟩:=isqrt_spec Y.natAbs
 unfold Sp.sq
 rw [if_neg (by omega)]
 have e:((Y.natAbs:Nat):Int) = Y:=by omega
 generalize Sp.isqrt Y.natAbs = w at *
 refine ⟨?_,?_,by omega⟩
 ·have:((w * w:Nat):Int) <= ((Y.natAbs:Nat):Int):=by omega
  rw [e,Int.natCast_mul] at this;exact this
 ·have:((Y.natAbs:Nat):Int) < (((w + 1) * (w + 1):Nat):Int):=by omega
  rw [e,Int.natCast_mul] at this;exact this
theorem sq_le_sq {a b:Int} (h:0 <= a) (h2:a <= b):a * a <= b * b:=Int.mul_le_mul h2 h2 h (by omega)
theorem sq_ge {a Y:Int} (ha:0 <= a) (hY:0 <= Y):a <= Sp.sq Y ↔ a * a <= Y:=by
 obtain ⟨h1,h2,h3⟩:=sq_low hY
 constructor
 ·intro h
  have:=sq_le_sq ha h
  omega
 ·intro h
  apply Classical.byContradiction
  intro n
  have:=sq_le_sq (a:=Sp.sq Y + 1) (b:=a) (by omega) (by omega)
  omega
theorem sq_mono {a b:Int} (ha:0 <= a) (h:a <= b):Sp.sq a <= Sp.sq b:=by
 obtain ⟨h1,h2,h3⟩:=sq_low ha
 exact (sq_ge h3 (by omega)).2 (by omega)
theorem sq_unique {r Y:Int} (h0:0 <= r) (h1:r * r <= Y) (h2:Y < (r + 1) * (r + 1)):r = Sp.sq Y:=by
 have hY:0 <= Y:=by have:=Int.mul_nonneg h0 h0;omega
 have a:=(sq_ge h0 hY).2 h1
 apply Classical.byContradiction
 intro n
 have b:=(sq_ge (a:=r + 1) (by omega) hY).1 (by omega)
 omega
theorem nn_sq (a:Int):0 <= a * a:=by
 rcases Int.le_total 0 a with h | h
 ·exact Int.mul_nonneg h h
 ·have:=Int.mul_nonneg (a:=-a) (b:=-a) (by omega) (by omega)
  rwa [Int.neg_mul_neg] at this
theorem af_nn {k s:Int} (h:0 <= k):0 <= Sp.af k s:=(sq_low (by have:=nn_sq s;omega)).2.2
theorem af_mono {k a b:Int} (hk:0 <= k) (ha:0 <= a) (h:a <= b):Sp.af k a <= Sp.af k b:=
 sq_mono (by have:=nn_sq a;omega) (by have:=sq_le_sq ha h;omega)
theorem af_ge {k s:Int} (hk:0 <= k) (h:0 <= s):s <= Sp.af k s:=(sq_ge h (by have:=nn_sq s;omega)).2 (by omega)
def Sp.Feas (n:Nat) (K c t:Nat -> Int):Prop:=(∀ i,i <= n -> 0 <= t i /\ t i <= c i) /\ ∀ i,i < n -> t i <= Sp.af (K i) (t (i + 1)) /\ t (i + 1) <= Sp.af (K i) (t i)
def Sp.Top (n:Nat) (K c g:Nat -> Int):Prop:=Sp.Feas n K c g /\ ∀ t,Sp.Feas n K c t -> ∀ i,i <= n -> t i <= g i
theorem top_unique {n:Nat} {K c g h:Nat -> Int} (a:Sp.Top n K c g) (b:Sp.Top n K c h):∀ i,i <= n -> g i = h i:=by
 intro i hi
 have x:=b.2 g a.1 i hi
 have y:=a.2 h b.1 i hi
 omega
theorem prog_top {n:Nat} {K c f g:Nat -> Int} (hc:∀ i,i <= n -> 0 <= c i) (hK:∀ i,i < n -> 0 <= K i) (c0:c 0 = 0) (cn:c n = 0) (f0:f 0 = 0)
  (hf:∀ i,1 <= i -> i < n -> f i = min (c i) (Sp.af (K (i - 1)) (f (i - 1)))) (g0:g 0 = 0) (gn:g n = 0)
  (hg:∀ i,1 <= i -> i < n -> g i = min (f i) (Sp.af (K i) (g (i + 1)))):Sp.Top n K c g:=by
 have fp:∀ i,i < n -> 0 <= f i /\ f i <= c i:=by
  intro i
  induction i with
  | zero => intro h;rw [f0,c0];omega
  | succ i ih =>
   intro h
   have a:=ih (by omega)
   have b:=hf (i + 1) (by omega) h
   have c':=hc (i + 1) (by omega)
   have d:=@af_nn (K i) (f i) (hK i (by omega))
   rw [Nat.add_sub_cancel] at b
   omega
 have gp:∀ d i,i + d = n -> 0 <= g i:=by
  intro d
  induction d with
  | zero => intro i h;rw [show i = n by omega,gn];omega
  | succ d ih =>
   intro i h
   by_cases hi:i = 0
   ·rw [hi,g0];omega
   have a:=ih (i + 1) (by omega)
   have b:=hg i (by omega) (by omega)
   have c':=fp i (by omega)
   have d':=@af_nn (K i) (g (i + 1)) (hK i (by omega))
   omega
 have gp':∀ i,i <= n -> 0 <= g i:=fun i h => gp (n - i) i (by omega)
 have gf:∀ i,i < n -> g i <= f i:=by
  intro i h
  by_cases hi:i = 0
  ·rw [hi,g0,f0];omega
  have b:=hg i (by omega) h
  omega
 have up:∀ i,i < n -> g (i + 1) <= Sp.af (K i) (g i):=by
  intro i h
  have k0:=hK i h
  by_cases hn:i + 1 = n
  ·rw [hn,gn];exact af_nn k0
  have a1:=gf (i + 1) (by omega)
  have a2:=hf (i + 1) (by omega) (by omega)
  rw [Nat.add_sub_cancel] at a2
  by_cases hi:i = 0
  ·subst hi
   rw [g0];rw [f0] at a2;omega
  have b:=hg i (by omega) h
  by_cases hb:f i <= Sp.af (K i) (g (i + 1))
  ·rw [show g i = f i by omega];omega
  ·have e:g i = Sp.af (K i) (g (i + 1)):=by omega
   have x:=af_ge k0 (gp' (i + 1) (by omega))
   have y:=af_ge k0 (gp' i (by omega))
   omega
 have dn:∀ i,i < n -> g i <= Sp.af (K i) (g (i + 1)):=by
  intro i h
  by_cases hi:i = 0
  ·rw [hi,g0];exact af_nn (hK 0 (by omega))
  have b:=hg i (by omega) h
  omega
 refine ⟨⟨fun i h => ⟨gp' i h,?_⟩,fun i h => ⟨dn i h,up i h⟩⟩,?_⟩
 ·by_cases hn:i = n
  ·rw [hn,gn,cn];omega
  have a:=gf i (by omega)
  have b:=fp i (by omega)
  omega
 ·intro t ht
  have tf:∀ i,i < n -> t i <= f i:=by
   intro i
   induction i with
   | zero => intro h;have:=ht.1 0 (by omega);rw [f0];omega
   | succ i ih =>
    intro h
    have a:=ih (by omega)
    have b:=hf (i + 1) (by omega) h
    rw [Nat.add_sub_cancel] at b
    have c':=(ht.2 i (by omega)).2
    have d:=af_mono (hK i (by omega)) (ht.1 i (by omega)).1 a
    have e:=(ht.1 (i + 1) (by omega)).2
    omega
  have tg:∀ d i,i + d = n -> t i <= g i:=by
   intro d
   induction d with
   | zero => intro i h;have:=ht.1 i (by omega);rw [show i = n by omega] at *;rw [gn];omega
   | succ d ih =>
    intro i h
    by_cases hi:i = 0
    ·have:=ht.1 0 (by omega);rw [hi,g0];omega
    have a:=ih (i + 1) (by omega)
    have b:=hg i (by omega) (by omega)
    have c':=(ht.2 i (by omega)).1
    have d':=af_mono (hK i (by omega)) (ht.1 (i + 1) (by omega)).1 a
    have e:=tf i (by omega)
    omega
  exact fun i h => tg (n - i) i (by omega)
theorem low_one {n:Nat} {K c t:Nat -> Int} (hK:∀ i,i < n -> 0 <= K i) (ht:Sp.Feas n K c t) {i:Nat} (h:i < n) {a b:Int} (ha:t i <= a) (hb:t (i + 1) <= b) :
  t (i + 1) <= min b (Sp.af (K i) a) /\ t i <= min a (Sp.af (K i) (min b (Sp.af (K i) a))):=by
 obtain ⟨h1,h2⟩:=ht.2 i h
 have e:=af_mono (hK i h) (ht.1 i (by omega)).1 ha
 have f:t (i + 1) <= min b (Sp.af (K i) a):=by omega
 have g:=af_mono (hK i h) (ht.1 (i + 1) (by omega)).1 f
 omega
end Go.Av

namespace Go.Av
open Go.Proofs
namespace Sp
def isV (n:Int):Prop:=0 <= n /\ n <= 1000000
def isLen (n:Int):Prop:=0 <= n /\ n <= 100000000
def isAcc (n:Int):Prop:=1 <= n /\ n <= 100000000
def okPt (p:Pt):Prop:=isLen p.len /\ (1 <= p.spd /\ p.spd <= 1000000) /\ isV p.cor
def okPts (l:List Pt) (a:Int):Prop:=isAcc a /\ ∀ p ∈ l,okPt p
def cap (l:List Pt) (i:Nat):Int:=if i = 0 \/ l.length <= i then 0 else min (min (l.getD (i - 1) default).spd (l.getD (i - 1) default).cor) (l.getD i default).spd
def kA (l:List Pt) (a:Int) (i:Nat):Int:=2 * a * (l.getD i default).len
noncomputable def spF (l:List Pt) (a:Int):Nat -> Int
 | 0 => 0
 | i + 1 => min (cap l (i + 1)) (af (kA l a i) (spF l a i))
noncomputable def spG (l:List Pt) (a:Int):Nat -> Int
 | 0 => 0
 | d + 1 => if l.length = d + 1 then 0 else min (spF l a (l.length - (d + 1))) (af (kA l a (l.length - (d + 1))) (spG l a d))
noncomputable def spAt (l:List Pt) (a:Int) (i:Nat):Int:=spG l a (l.length - i)
noncomputable def spds (l:List Pt) (a:Int):List Int:=(List.range (l.length + 1)).map (spAt l a)
end Sp
theorem rm_len {m:Nat} {F:Nat -> Int}:((List.range m).map F).length = m:=by simp
theorem rm_of (o:List Int):o = (List.range o.length).map fun j => o.getD j default:=by
 refine List.ext_getElem (by simp) fun j h1 h2 => ?_
 simp [List.getD_eq_getElem?_getD,h1]
theorem rm_congr {m:Nat} {F G:Nat -> Int} (h:∀ i,i < m -> F i = G i):(List.range m).map F = (List.range m).map G:=
 List.map_congr_left fun i hi => h i (List.mem_range.1 hi)
section
variable {l:List Pt} {a:Int} (h:Sp.okPts l a)
include h
theorem pt_at {i:Nat} (hi:i < l.length):Sp.okPt (l.getD i default):=h.2 _ (getD_mem hi)
theorem kA_nn:∀ i,i < l.length -> 0 <= Sp.kA l a i /\ Sp.kA l a i <= 20000000000000000:=by
 intro i hi
 obtain ⟨⟨a1,a2⟩,_,_⟩:=pt_at h hi
 have h1:=h.1.1
 have h2:=h.1.2
 unfold Sp.kA
 have e1:0 <= 2 * a * (l.getD i default).len:=Int.mul_nonneg (by omega) a1
 have e2:2 * a * (l.getD i default).len <= 200000000 * 100000000:=Int.mul_le_mul (by omega) a2 a1 (by omega)
 omega
theorem cap_nn (i:Nat):0 <= Sp.cap l i /\ Sp.cap l i <= 1000000:=by
 unfold Sp.cap
 split
 ·omega
 ·obtain ⟨_,a2,a3⟩:=pt_at h (i:=i - 1) (by omega)
  obtain ⟨_,b2,_⟩:=pt_at h (i:=i) (by omega)
  unfold Sp.isV at a3
  omega
theorem spd_top:Sp.Top l.length (Sp.kA l a) (Sp.cap l) (Sp.spAt l a):=by
 have g0:Sp.spAt l a 0 = 0:=by
  unfold Sp.spAt
  rw [Nat.sub_zero]
  rcases e:l.length with _ | d
  ·rfl
  ·rw [Sp.spG,if_pos e]
 refine prog_top (f:=Sp.spF l a) (fun i _ => (cap_nn h i).1) (fun i hi => (kA_nn h i hi).1) (if_pos (.inl rfl)) (if_pos (.inr (Nat.le_refl _))) rfl ?_ g0 ?_ ?_
 ·intro i h1 h2
  obtain ⟨j,rfl⟩:∃ j,i = j + 1:=⟨i - 1,by omega⟩
  rw [Nat.add_sub_cancel];rfl
 ·unfold Sp.spAt
  rw [Nat.sub_self];rfl
 ·intro i h1 h2
  obtain ⟨d,hd⟩:∃ d,l.length - i = d + 1:=⟨l.length - i - 1,by omega⟩
  unfold Sp.spAt
  rw [hd,Sp.spG,if_neg (by omega),show l.length - (d + 1) = i by omega,show l.length - (i + 1) = d by omega]
theorem spAt_le {i:Nat} (hi:i <= l.length):0 <= Sp.spAt l a i /\ Sp.spAt l a i <= 1000000:=by
 have e:=(spd_top h).1.1 i hi
 have f:=cap_nn h i
 omega
end
def Sp.tot:List Int -> Int
 | [] => 0
 | x :: o => x + Sp.tot o
theorem tot_set {o:List Int} {i:Nat} {v:Int} (h:i < o.length):Sp.tot (o.set i v) + o.getD i default = Sp.tot o + v:=by
 induction o generalizing i with
 | nil => simp at h
 | cons x o ih =>
  cases i with
  | zero => simp only [List.set_cons_zero,Sp.tot,List.getD_cons_zero];omega
  | succ i =>
   simp only [List.length_cons] at h
   have:=ih (i:=i) (by omega)
   simp only [List.set_cons_succ,Sp.tot,List.getD_cons_succ];omega
theorem tot_nn {o:List Int} (h:∀ i,i < o.length -> 0 <= o.getD i default):0 <= Sp.tot o:=by
 induction o with
 | nil => exact Int.le_refl _
 | cons x o ih =>
  have h0:=h 0 (by simp)
  have:=ih fun i hi => by
   have:=h (i + 1) (by simp;omega)
   simpa using this
  simp only [List.getD_cons_zero] at h0
  simp only [Sp.tot];omega
theorem getD_set' {o:List Int} {i j:Nat} {x:Int} (hi:i < o.length):(o.set i x).getD j default = if i = j then x else o.getD j default:=by
 by_cases e:i = j
 ·subst e;simp [List.getD_eq_getElem?_getD,hi]
 ·simp [List.getD_eq_getElem?_getD,e,List.getElem?_set_ne]
namespace Sp
def Lim (n:Nat) (K c:Nat -> Int) (o:List Int):Prop:=o.length = n + 1 /\ (∀ i,i <= n -> 0 <= o.getD i default /\ o.getD i default <= c i) /\ ∀ t,Feas n K c t -> ∀ i,i <= n -> t i <= o.getD i default
noncomputable def lowB (k a b:Int):Int:=min b (af k a)
noncomputable def lowA (k a b:Int):Int:=min a (af k (lowB k a b))
noncomputable def lowL (k:Int) (o:List Int) (i:Nat):List Int:=(o.set (i + 1) (lowB k (o.getD i default) (o.getD (i + 1) default))).set i (lowA k (o.getD i default) (o.getD (i + 1) default))
end Sp
theorem lim_step {n:Nat} {K c:Nat -> Int} {o:List Int} (hK:∀ i,i < n -> 0 <= K i) (h:Sp.Lim n K c o) {i:Nat} (hi:i < n) :
  Sp.Lim n K c (Sp.lowL (K i) o i) /\ Sp.tot (Sp.lowL (K i) o i) <= Sp.tot o /\
  ((Sp.lowA (K i) (o.getD i default) (o.getD (i + 1) default) ≠ o.getD i default \/ Sp.lowB (K i) (o.getD i default) (o.getD (i + 1) default) ≠ o.getD (i + 1) default) -> Sp.tot (Sp.lowL (K i) o i) < Sp.tot o) /\
  (Sp.lowA (K i) (o.getD i default) (o.getD (i + 1) default) = o.getD i default -> Sp.lowB (K i) (o.getD i default) (o.getD (i + 1) default) = o.getD (i + 1) default -> Sp.lowL (K i) o i = o /\ o.getD i default <= Sp.af (K i) (o.getD (i + 1) default) /\ o.getD (i + 1) default <= Sp.af (K i) (o.getD i default)):=by
 obtain ⟨hl,hb,ht⟩:=h
 have k0:=hK i hi
 have b1:=hb i (by omega)
 have b2:=hb (i + 1) (by omega)
 have q1:=@af_nn (K i) (o.getD i default) k0
 have q2:=@af_nn (K i) (Sp.lowB (K i) (o.getD i default) (o.getD (i + 1) default)) k0
 have s1:=tot_set (o:=o) (i:=i + 1) (v:=Sp.lowB (K i) (o.getD i default) (o.getD (i + 1) default)) (by omega)
 have s2:=tot_set (o:=o.set (i + 1) (Sp.lowB (K i) (o.getD i default) (o.getD (i + 1) default))) (i:=i) (v:=Sp.lowA (K i) (o.getD i default) (o.getD (i + 1) default)) (by simp;omega)
 rw [getD_set' (by omega),if_neg (by omega)] at s2
 have eA:Sp.lowA (K i) (o.getD i default) (o.getD (i + 1) default) = min (o.getD i default) (Sp.af (K i) (Sp.lowB (K i) (o.getD i default) (o.getD (i + 1) default))):=rfl
 have eB:Sp.lowB (K i) (o.getD i default) (o.getD (i + 1) default) = min (o.getD (i + 1) default) (Sp.af (K i) (o.getD i default)):=rfl
 have low:∀ t,Sp.Feas n K c t -> t (i + 1) <= Sp.lowB (K i) (o.getD i default) (o.getD (i + 1) default) /\ t i <= Sp.lowA (K i) (o.getD i default) (o.getD (i + 1) default):=fun t hf => low_one hK hf hi (ht t hf i (by omega)) (ht t hf (i + 1) (by omega))
 unfold Sp.lowL
 generalize Sp.lowB (K i) (o.getD i default) (o.getD (i + 1) default) = B at *
 generalize Sp.lowA (K i) (o.getD i default) (o.getD (i + 1) default) = A at *
 have g:∀ j,((o.set (i + 1) B).set i A).getD j default = if i = j then A else if i + 1 = j then B else o.getD j default:=fun j => by
  rw [getD_set' (by simp;omega),getD_set' (by omega)]
 refine ⟨⟨by simp [hl],fun j hj => ?_,fun t hf j hj => ?_⟩,by omega,fun hne => by omega,fun e1 e2 => ⟨?_,?_,?_⟩⟩
 ·have bj:=hb j hj
  rw [g]
  split
  ·subst_vars;omega
  ·split
   ·subst_vars;omega
   ·exact bj
 ·have lw:=low t hf
  rw [g]
  split
  ·subst_vars;exact lw.2
  ·split
   ·subst_vars;exact lw.1
   ·exact ht t hf j hj
 ·rw [e1,e2]
  rw [show o.set (i + 1) (o.getD (i + 1) default) = o from List.ext_getElem (by simp) fun j h1 h2 => by
   by_cases e:i + 1 = j
   ·subst e;simp [List.getD_eq_getElem?_getD,h2]
   ·rw [List.getElem_set_ne e]]
  exact List.ext_getElem (by simp) fun j h1 h2 => by
   by_cases e:i = j
   ·subst e;simp [List.getD_eq_getElem?_getD,h2]
   ·rw [List.getElem_set_ne e]
 ·rw [e2] at eA;omega
 ·omega
theorem lim_end {l:List Pt} {a:Int} {o:List Int} (h:Sp.okPts l a) (ho:Sp.Lim l.length (Sp.kA l a) (Sp.cap l) o)
  (hf:∀ i,i < l.length -> o.getD i default <= Sp.af (Sp.kA l a i) (o.getD (i + 1) default) /\ o.getD (i + 1) default <= Sp.af (Sp.kA l a i) (o.getD i default)):o = Sp.spds l a:=by
 have t:Sp.Top l.length (Sp.kA l a) (Sp.cap l) (fun i => o.getD i default):=⟨⟨ho.2.1,hf⟩,ho.2.2⟩
 rw [rm_of o,ho.1]
 exact rm_congr fun i hi => top_unique t (spd_top h) i (by omega)
end Go.Av

namespace Go.Av
open Go.Proofs
instance (n:Int):Decidable (Sp.isV n):=by unfold Sp.isV;infer_instance
instance (n:Int):Decidable (Sp.isLen n):=by unfold Sp.isLen;infer_instance
instance (n:Int):Decidable (Sp.isAcc n):=by unfold Sp.isAcc;infer_instance
namespace Sp
def inM (n:Int):Prop:=-10000000 <= n /\ n <= 10000000
def inP (x y z:Int):Prop:=inM x /\ inM y /\ inM z
def inQ (n:Int):Prop:=-20000000 <= n /\ n <= 20000000
def sqr (x y z:Int):Int:=x * x + y * y + z * z
def okNs (n:Int):Prop:=0 <= n /\ n <= 2000000000000000000
end Sp
instance (n:Int):Decidable (Sp.inM n):=by unfold Sp.inM;infer_instance
instance (x y z:Int):Decidable (Sp.inP x y z):=by unfold Sp.inP;infer_instance
theorem bif_dec {p q:Prop} [Decidable p] [Decidable q]:(bif decide p then decide q else false) = decide (p /\ q):=by
 by_cases h:p
 ·by_cases k:q
  ·rw [decide_eq_true h,decide_eq_true k,decide_eq_true ⟨h,k⟩];rfl
  ·rw [decide_eq_true h,decide_eq_false k,decide_eq_false (show ¬(p /\ q) from fun x => k x.2)];rfl
 ·rw [decide_eq_false h,decide_eq_false (show ¬(p /\ q) from fun x => h x.1)];rfl
theorem dec_iff {p q:Prop} [Decidable p] [Decidable q] (h:p ↔ q):decide p = decide q:=by
 by_cases k:q
 ·rw [decide_eq_true k,decide_eq_true (h.2 k)]
 ·rw [decide_eq_false k,decide_eq_false fun x => k (h.1 x)]
theorem ev27 (n u v:Int):Ev M1 (.pure 27 [.int .i64 n,.int .i64 u,.int .i64 v]) (.bool (decide (u <= n /\ n <= v))) []:=
 call27 (kWithin _ _ _ _ (by rw [bif_dec]))
theorem ev28 (n:Int):Ev M1 (.pure 28 [.int .i64 n]) (.bool (decide (Sp.isAcc n))) []:=
 call28 (kAccel _ _ (by rw [bif_dec];rfl))
theorem ev29 (n:Int):Ev M1 (.pure 29 [.int .i64 n]) (.bool (decide (Sp.isLen n))) []:=
 call29 (kLong _ _ (by rw [bif_dec];rfl))
theorem ev30 (n:Int):Ev M1 (.pure 30 [.int .i64 n]) (.bool (decide (Sp.isV n))) []:=
 call30 (kSpeed _ _ (by rw [bif_dec];rfl))
theorem sq_bound {x:Int} (h:Sp.inQ x):0 <= x * x /\ x * x <= 400000000000000:=by
 refine ⟨nn_sq x,?_⟩
 unfold Sp.inQ at h
 have:=Int.mul_nonneg (a:=20000000 - x) (b:=20000000 + x) (by omega) (by omega)
 have e:(20000000 - x) * (20000000 + x) = 400000000000000 - x * x:=by grind
 omega
theorem sqr_bound {x y z:Int} (hx:Sp.inQ x) (hy:Sp.inQ y) (hz:Sp.inQ z):0 <= Sp.sqr x y z /\ Sp.sqr x y z <= 1200000000000000:=by
 have:=sq_bound hx
 have:=sq_bound hy
 have:=sq_bound hz
 unfold Sp.sqr;omega
theorem ev32 (x y z:Int) (h:Sp.inQ x /\ Sp.inQ y /\ Sp.inQ z):Ev M1 (.pure 32 [.agg [.int .i64 x,.int .i64 y,.int .i64 z]]) (.int .i64 (Sp.sqr x y z)) []:=by
 have:=sq_bound h.1
 have:=sq_bound h.2.1
 have:=sq_bound h.2.2
 exact call32 (kSquare _ _ _ _ ⟨by omega,by omega,by omega,by omega,by omega,rfl⟩)
theorem root_loop {n:Int} {dq:AV} (hn:Sp.okNs n) (hq:AV.int .i64 (Sp.sq n) = dq):∀ (k:Nat) (u v:Int),v - u < 2 ^ k -> 0 <= u -> u <= Sp.sq n -> Sp.sq n <= v -> v <= 3000000000 -> kRootA_at n u v (PureQ dq)
 | 0,u,v,h,_,a,b,_ => by
  have:u = Sp.sq n:=by omega
  exact kRootA _ _ _ _ ⟨fun x => by omega,fun _ => by rw [this];exact hq⟩
 | k + 1,u,v,h,h0,a,b,c => by
  rw [Int.pow_succ] at h
  have e:(u + v + 1).tdiv 2 = (u + v + 1) / 2:=Int.tdiv_eq_ediv_of_nonneg (by omega)
  refine kRootA _ _ _ _ ⟨fun x => ?_,fun x => by rw [show u = Sp.sq n by omega];exact hq⟩
  rw [e]
  obtain ⟨m,hm⟩:∃ m,m = (u + v + 1) / 2:=⟨_,rfl⟩
  have g:=sq_ge (a:=m) (Y:=n) (by omega) hn.1
  have m0:=nn_sq m
  have m1:=sq_le_sq (a:=m) (b:=3000000000) (by omega) (by omega)
  rw [<- hm]
  refine ⟨by omega,by omega,by omega,by omega,fun y => ?_,fun y => ⟨by omega,?_⟩⟩
  ·exact root_loop hn hq k m v (by omega) (by omega) (g.2 y) b c
  ·exact root_loop hn hq k u (m - 1) (by omega) h0 a (by have:=mt g.1 y;omega) (by omega)
theorem ev36 (n:Int) (h:Sp.okNs n):Ev M1 (.pure 36 [.int .i64 n]) (.int .i64 (Sp.sq n)) []:=by
 obtain ⟨a,b,c⟩:=sq_low h.1
 refine call36 (kRoot _ _ (root_loop h rfl 32 0 3000000000 (by decide) (by omega) c ?_ (by omega)))
 apply Classical.byContradiction
 intro x
 have:=(sq_ge (a:=3000000001) (by omega) h.1).1 (by omega)
 have:=h.2
 omega
end Go.Av

namespace Go.Av
open Go.Proofs
set_option maxRecDepth 100000
def fi11:Fi:=⟨36,[.tmp 4]⟩
def kp11:List (Nat × List Nat):=[(0,[0,1]),(1,[0,1,9]),(2,[4]),(3,[0,12]),(4,[4]),(5,[13,14,15]),(6,[13,14,15,16]),(7,[6,13,14,15]),(8,[13,14,15,34]),(9,[4]),(10,[13,14,15]),(11,[4])]
def fi12:Fi:=⟨53,[.tmp 4]⟩
def kp12:List (Nat × List Nat):=[(0,[0,1]),(1,[0,1,9]),(2,[4]),(3,[0,5]),(4,[0,5,6]),(5,[0,5,6,15]),(6,[0,5,6]),(7,[0,5,6]),(8,[52]),(9,[4]),(10,[4])]
def fi26:Fi:=⟨16,[.tmp 6]⟩
def kp26:List (Nat × List Nat):=[(0,[0,1,2]),(1,[6])]
def fi31:Fi:=⟨21,[.tmp 2]⟩
def kp31:List (Nat × List Nat):=[(0,[1]),(1,[11,12,13]),(2,[11,12,13,14]),(3,[4,11,12,13]),(4,[11,12,13,19]),(5,[2]),(6,[11,12,13]),(7,[2])]
def fi52:Fi:=⟨39,[.tmp 2,.tmp 3]⟩
def kp52:List (Nat × List Nat):=[(0,[1]),(1,[1,15]),(2,[2,3]),(3,[1,4]),(4,[1,4,5]),(5,[1,4,5,21]),(6,[1,4,5]),(7,[1,4,5]),(8,[4,34]),(9,[4]),(10,[2,3])]
def kInt64_at (fa:Bool) (a:Int) (Q:AV -> Heap -> Prop):Prop:=Wp M1 (.run fi52 (atC (cd Try.f52) []) [(0,bigA fa a)] []) Q
def kInt64H_at (fa:Bool) (a u i:Int) (Q:AV -> Heap -> Prop):Prop:=Wp M1 (.run fi52 (atC (cd Try.f52) [1,1,1,0,1,0,0]) [(1,.ptr 0 0 0 0),(4,.int .u64 u),(5,.int .i64 i)] [⟨[bigA fa a],2,0,false,false⟩]) Q
def kAfter_at (n u v:Int) (Q:AV -> Heap -> Prop):Prop:=Wp M1 (.run fi26 (atC (cd Try.f26) []) [(0,.int .i64 n),(1,.int .i64 u),(2,.int .i64 v)] []) Q
def kValidR_at (fl:Bool) (l:List Pt) (a:Int) (Q:AV -> Heap -> Prop):Prop:=Wp M1 (.run fi12 (atC (cd Try.f12) []) [(0,.vec fl 3 (l.map Pt.a)),(1,.int .i64 a)] []) Q
def kValidRH_at (fl:Bool) (l:List Pt) (b:Bool) (i:Int) (Q:AV -> Heap -> Prop):Prop:=Wp M1 (.run fi12 (atC (cd Try.f12) [1,1,1,0,1,0,0]) [(0,.vec fl 3 (l.map Pt.a)),(5,.bool b),(6,.int .i64 i)] []) Q
def kValid_at (fl:Bool) (l:List Pt) (a:Int) (Q:AV -> Heap -> Prop):Prop:=Wp M1 (.run fi11 (atC (cd Try.f11) []) [(0,.vec fl 3 (l.map Pt.a)),(1,.int .i64 a)] []) Q
def kValidH_at (fl:Bool) (l:List Pt) (n i:Int) (Q:AV -> Heap -> Prop):Prop:=Wp M1 (.run fi11 (atC (cd Try.f11) [1,1,1,0,1,0,0]) [(13,.vec fl 3 (l.map Pt.a)),(14,.int .i64 n),(15,.int .i64 i)] []) Q
def kFar_at (x y z:Int) (Q:AV -> Heap -> Prop):Prop:=Wp M1 (.run fi31 (atC (cd Try.f31) []) [(0,.agg [.int .i64 x,.int .i64 y,.int .i64 z])] []) Q
def kFarH_at (x y z i:Int) (Q:AV -> Heap -> Prop):Prop:=Wp M1 (.run fi31 (atC (cd Try.f31) [1,0,1,0,0]) [(11,.vec true 1 [.int .i64 x,.int .i64 y,.int .i64 z]),(12,.int .i64 3),(13,.int .i64 i)] []) Q
theorem call11 {args:List AV} {d:AV} (h:wc M1 fi11 Try.f11 args d):Ev M1 (.pure 11 args) d []:=pcl _ _ (by kernel_rfl) h
theorem call12 {args:List AV} {d:AV} (h:wc M1 fi12 Try.f12 args d):Ev M1 (.pure 12 args) d []:=pcl _ _ (by kernel_rfl) h
theorem call26 {args:List AV} {d:AV} (h:wc M1 fi26 Try.f26 args d):Ev M1 (.pure 26 args) d []:=pcl _ _ (by kernel_rfl) h
theorem call31 {args:List AV} {d:AV} (h:wc M1 fi31 Try.f31 args d):Ev M1 (.pure 31 args) d []:=pcl _ _ (by kernel_rfl) h
theorem call52 {args:List AV} {d:AV} (h:wc M1 fi52 Try.f52 args d):Ev M1 (.pure 52 args) d []:=pcl _ _ (by kernel_rfl) h
noncomputable abbrev zNzB1:=ag [vb false,vf (us (Sp.limI 9223372036854775807))]
noncomputable abbrev zNzB2:=ag [vb true,vf (us (Sp.limI (-9223372036854775808)))]
theorem kInt64 (fa:Bool) (a:Int)  (dq:AV) (H :
  (Sp.inI (-9223372036854775808)) /\
  ∃ (n1:Int),
  (Ev M1 (Conf.pure 64 [bigA fa a,ag [vb true,vf (us (Sp.limI (-9223372036854775808)))]]) (vi n1) []) /\
  ((¬(n1 < 0)) -> (Sp.inI 9223372036854775807)) /\
  ∃ (n2:Int),
  ((¬(n1 < 0)) -> (Ev M1 (Conf.pure 64 [bigA fa a,ag [vb false,vf (us (Sp.limI 9223372036854775807))]]) (vi n2) [])) /\
  (((n1 < 0) \/ (n2 > 0)) -> tu [vi 0,vb false] = dq) /\
  (¬((n1 < 0) \/ (n2 > 0)) -> (-9223372036854775808 <= (↑(Sp.limI a).length:Int) - 1 /\ (↑(Sp.limI a).length:Int) - 1 <= 9223372036854775807) /\
   kInt64H_at (fa) (a) (0) ((↑(Sp.limI a).length:Int) - 1) (PureQ dq))) :
 kInt64_at fa a (PureQ dq):=by
 unfold kInt64_at
 obtain ⟨k1,H⟩:=H
 obtain ⟨n1,H⟩:=H
 obtain ⟨k2,H⟩:=H
 obtain ⟨k4,H⟩:=H
 obtain ⟨n2,H⟩:=H
 obtain ⟨k6,H⟩:=H
 refine path_wp (G:=given kp52 [(1,1,.call (zNzB2) none),(1,2,.call (vi n1) none),(1,6,.call (zNzB1) none),(1,7,.call (vi n2) none)] []) 5 [] ⟨(atC (cd Try.f52) [1,0,1]),[(1,AV.ptr 0 0 0 0),(15,vb (bif decide (n1 < 0) then true else decide (n2 > 0)))],[⟨[bigA fa a],2,0,false,false⟩],[true,!(decide (n1 < 0) == false && true) || true],[],[⟨true,false,51,[vi (-9223372036854775808)],[],zNzB2,[]⟩,⟨true,false,64,[bigA fa a,zNzB2],[],vi n1,[]⟩,⟨decide (n1 < 0) == false && true && true,false,51,[vi 9223372036854775807],[],zNzB1,[]⟩,⟨decide (n1 < 0) == false && true && true,false,64,[bigA fa a,zNzB1],[],vi n2,[]⟩]⟩ (by kernel_rfl) (bc rfl (bc (Bool.or_true _) b0)) q0 (cc (fun _ => (@ev51 (-9223372036854775808) k1)) (cc (fun _ => k2) (cc (fun hc => ((@ev51 (9223372036854775807) (k4 ((i_at (i_at (i_bf i_dec))).1 hc))):Ev M1 (Conf.pure 51 [vi 9223372036854775807]) (zNzB1) [])) (cc (fun hc => ((k6 ((i_at (i_at (i_bf i_dec))).1 hc)):Ev M1 (Conf.pure 64 [bigA fa a,zNzB1]) (vi n2) [])) c0)))) ?_
 rcases xm ((n1 < 0) \/ (n2 > 0)) with d8 | d8
 ·have H:=H.1 d8
  exact path_re (G:=given kp52 [] []) 1000 [true] (tu [vi 0,vb false]) (by kernel_rfl) (bc (beq_t ((i_bor i_dec i_dec).2 d8)) b0) q0 c0 H
 ·have H:=H.2 d8
  have w9:(us (Sp.limI a)).length = (Sp.limI a).length:=List.length_map ..
  obtain ⟨k10,H⟩:=H
  have w11:wi ((↑(Sp.limI a).length:Int) - 1) = (↑(Sp.limI a).length:Int) - 1:=wI64 k10
  exact path_wp (G:=given kp52 [] []) 1000 [false] ⟨(atC (cd Try.f52) [1,1,1,0,1,0,0]),[(1,AV.ptr 0 0 0 0),(4,vw 0),(5,vi (wi ((↑(us (Sp.limI a)).length:Int) - 1)))],[⟨[bigA fa a],2,0,false,false⟩],_,[],_⟩ (by kernel_rfl) (bc (beq_f (fun h => d8 ((i_bor i_dec i_dec).1 h))) (bc rfl b0)) q0 c0 (by (try rw [w9]);(try rw [w11]);all_goals exact H)
theorem kInt64H (fa:Bool) (a u i:Int)  (dq:AV) (H :
  ((i >= 0) -> (0 <= i) /\
   (i.toNat < (Sp.limI a).length) /\
   (0 <= u * 1000000000 /\ u * 1000000000 <= 18446744073709551615) /\
   (0 <= (Sp.limI a).getD i.toNat default /\ (Sp.limI a).getD i.toNat default <= 18446744073709551615) /\
   (0 <= u * 1000000000 + (Sp.limI a).getD i.toNat default /\ u * 1000000000 + (Sp.limI a).getD i.toNat default <= 18446744073709551615) /\
   (-9223372036854775808 <= i - 1 /\ i - 1 <= 9223372036854775807) /\
   kInt64H_at (fa) (a) (u * 1000000000 + (Sp.limI a).getD i.toNat default) (i - 1) (PureQ dq)) /\
  (¬(i >= 0) -> ((Sp.isNeg a = true) -> (0 <= 0 - u /\ 0 - u <= 18446744073709551615) /\
    (-9223372036854775808 <= 0 - u /\ 0 - u <= 9223372036854775807) /\
    tu [vi (0 - u),vb true] = dq) /\
   (¬(Sp.isNeg a = true) -> (-9223372036854775808 <= u /\ u <= 9223372036854775807) /\
    tu [vi u,vb true] = dq))) :
 kInt64H_at fa a u i (PureQ dq):=by
 unfold kInt64H_at
 rcases xm (i >= 0) with d2 | d2
 ·have H:=H.1 d2
  obtain ⟨k4,H⟩:=H
  have w5:(us (Sp.limI a)).length = (Sp.limI a).length:=List.length_map ..
  have i6:(decide (i.toNat < (us (Sp.limI a)).length)) = true ↔ (i.toNat < (Sp.limI a).length):=(by (try rw [w5]);all_goals exact i_dec)
  obtain ⟨k7,H⟩:=H
  obtain ⟨k8,H⟩:=H
  have w9:wu (u * 1000000000) = u * 1000000000:=wU64 k8
  obtain ⟨k10,H⟩:=H
  have w11:wu ((Sp.limI a).getD i.toNat default) = (Sp.limI a).getD i.toNat default:=wU64 k10
  obtain ⟨k12,H⟩:=H
  have w13:wu (u * 1000000000 + (Sp.limI a).getD i.toNat default) = u * 1000000000 + (Sp.limI a).getD i.toNat default:=wU64 k12
  obtain ⟨k14,H⟩:=H
  have w15:wi (i - 1) = i - 1:=wI64 k14
  exact path_wp (G:=given kp52 [(7,6,.elem (vu ((Sp.limI a).getD i.toNat default)))] []) 1000 [true] ⟨(atC (cd Try.f52) [1,1,1,0,1,0,0]),[(1,AV.ptr 0 0 0 0),(4,vw (wu (wu (u * 1000000000) + wu ((Sp.limI a).getD i.toNat default)))),(5,vi (wi (i - 1)))],[⟨[bigA fa a],2,0,false,false⟩],_,[((us (Sp.limI a)).get?Internal i.toNat = some (vu ((Sp.limI a).getD i.toNat default)))],_⟩ (by kernel_rfl) (bc (beq_t (i_dec.2 d2)) (bc rfl (bc (i_dec.2 k4) (bc (i6.2 k7) b0)))) (qc (el_map k7) q0) c0 (by (try rw [w9]);(try rw [w11]);(try rw [w13]);(try rw [w15]);all_goals exact H)
 ·have H:=H.2 d2
  rcases xm (Sp.isNeg a = true) with d17 | d17
  ·have H:=H.1 d17
   obtain ⟨k18,H⟩:=H
   have w19:wu (0 - u) = 0 - u:=wU64 k18
   obtain ⟨k20,H⟩:=H
   have w21:wi (0 - u) = 0 - u:=wI64 k20
   exact path_re (G:=given kp52 [] []) 1000 [false,true] (asm:=[(decide (i >= 0)) == false,0 == 0,(Sp.isNeg a) == true]) (tu [vi (wi (wu (0 - u))),vb true]) (by kernel_rfl) (bc (beq_f (fun h => d2 (i_dec.1 h))) (bc (beq_self_eq_true _) (bc (beq_t ((i_var _).2 d17)) b0))) q0 c0 (by (try rw [w19]);(try rw [w21]);all_goals exact H)
  ·have H:=H.2 d17
   obtain ⟨k22,H⟩:=H
   have w23:wi u = u:=wI64 k22
   exact path_re (G:=given kp52 [] []) 1000 [false,false] (asm:=[(decide (i >= 0)) == false,0 == 0,(Sp.isNeg a) == false]) (tu [vi (wi u),vb true]) (by kernel_rfl) (bc (beq_f (fun h => d2 (i_dec.1 h))) (bc (beq_self_eq_true _) (bc (beq_f (fun h => d17 ((i_var _).1 h))) b0))) q0 c0 (by (try rw [w23]);all_goals exact H)
theorem kAfter (n u v:Int)  (dq:AV) (H :
  (-9223372036854775808 <= n * n /\ n * n <= 9223372036854775807) /\
  (-9223372036854775808 <= 2 * v /\ 2 * v <= 9223372036854775807) /\
  (-9223372036854775808 <= 2 * v * u /\ 2 * v * u <= 9223372036854775807) /\
  (-9223372036854775808 <= n * n + 2 * v * u /\ n * n + 2 * v * u <= 9223372036854775807) /\
  (Sp.okNs (n * n + 2 * v * u)) /\
  vi (Sp.sq (n * n + 2 * v * u)) = dq) :
 kAfter_at n u v (PureQ dq):=by
 unfold kAfter_at
 obtain ⟨k1,H⟩:=H
 have w2:wi (n * n) = n * n:=wI64 k1
 obtain ⟨k3,H⟩:=H
 have w4:wi (2 * v) = 2 * v:=wI64 k3
 obtain ⟨k5,H⟩:=H
 have w6:wi (2 * v * u) = 2 * v * u:=wI64 k5
 obtain ⟨k7,H⟩:=H
 have w8:wi (n * n + 2 * v * u) = n * n + 2 * v * u:=wI64 k7
 obtain ⟨k9,H⟩:=H
 exact path_re (G:=given kp26 [(1,8,.call (vi (Sp.sq (n * n + 2 * v * u))) none)] []) 1000 [] (calls:=[pc 36 [vi (wi (wi (n * n) + wi (wi (2 * v) * u)))] (vi (Sp.sq (n * n + 2 * v * u)))]) (vi (Sp.sq (n * n + 2 * v * u))) (by kernel_rfl) b0 q0 (ce (by (try rw [w2]);(try rw [w4]);(try rw [w6]);(try rw [w8]);all_goals exact (@ev36 (n * n + 2 * v * u) k9)) c0) H
theorem kValidR (fl:Bool) (l:List Pt) (a:Int)  (dq:AV) (H :
  (((↑l.length:Int) > 2000) -> vi 3 = dq) /\
  (¬((↑l.length:Int) > 2000) -> kValidRH_at (fl) (l) (decide (Sp.isAcc a)) (0) (PureQ dq))) :
 kValidR_at fl l a (PureQ dq):=by
 unfold kValidR_at
 have w1:(List.map Pt.a l).length = l.length:=List.length_map ..
 have i2:(decide ((↑(List.map Pt.a l).length:Int) > 2000)) = true ↔ ((↑l.length:Int) > 2000):=(by (try rw [w1]);all_goals exact i_dec)
 rcases xm ((↑l.length:Int) > 2000) with d3 | d3
 ·have H:=H.1 d3
  exact path_re (G:=given kp12 [] []) 1000 [true] (vi 3) (by kernel_rfl) (bc (beq_t (i2.2 d3)) b0) q0 c0 H
 ·have H:=H.2 d3
  exact path_wp (G:=given kp12 [(3,1,.call (vb (decide (Sp.isAcc a))) none)] []) 1000 [false] ⟨(atC (cd Try.f12) [1,1,1,0,1,0,0]),[(0,AV.vec fl 3 (List.map Pt.a l)),(5,vb (decide (Sp.isAcc a))),(6,vi 0)],[],_,[],_⟩ (by kernel_rfl) (bc (beq_f (fun h => d3 (i2.1 h))) b0) q0 (ce (@ev28 (a)) c0) (H)
noncomputable abbrev zNzB4 (l:List Pt) (i:Int):=ag [vi (l.getD i.toNat default).len,vi (l.getD i.toNat default).spd,vi (l.getD i.toNat default).cor]
noncomputable abbrev zNzB5 (b:Bool) (l:List Pt) (i:Int):=bif bif bif b then decide (Sp.isLen (l.getD i.toNat default).len) else false then decide (Sp.isV (l.getD i.toNat default).spd) else false then decide ((l.getD i.toNat default).spd >= 1) else false
noncomputable abbrev zNzB6 (b:Bool) (l:List Pt) (i:Int):=bif bif b then decide (Sp.isLen (l.getD i.toNat default).len) else false then decide (Sp.isV (l.getD i.toNat default).spd) else false
noncomputable abbrev zNzB7 (b:Bool) (l:List Pt) (i:Int):=bif b then decide (Sp.isLen (l.getD i.toNat default).len) else false
theorem kValidRH (fl:Bool) (l:List Pt) (b:Bool) (i:Int)  (dq:AV) (H :
  ((i < (↑l.length:Int)) -> ((b = true) -> (0 <= i)) /\
   ((b = true) -> (i.toNat < l.length)) /\
   (((b = true) /\ (Sp.isLen (l.getD i.toNat default).len)) -> (0 <= i)) /\
   (((b = true) /\ (Sp.isLen (l.getD i.toNat default).len)) -> (i.toNat < l.length)) /\
   ((((b = true) /\ (Sp.isLen (l.getD i.toNat default).len)) /\ (Sp.isV (l.getD i.toNat default).spd)) -> (0 <= i)) /\
   ((((b = true) /\ (Sp.isLen (l.getD i.toNat default).len)) /\ (Sp.isV (l.getD i.toNat default).spd)) -> (i.toNat < l.length)) /\
   (((((b = true) /\ (Sp.isLen (l.getD i.toNat default).len)) /\ (Sp.isV (l.getD i.toNat default).spd)) /\ ((l.getD i.toNat default).spd >= 1)) -> (0 <= i)) /\
   (((((b = true) /\ (Sp.isLen (l.getD i.toNat default).len)) /\ (Sp.isV (l.getD i.toNat default).spd)) /\ ((l.getD i.toNat default).spd >= 1)) -> (i.toNat < l.length)) /\
   (-9223372036854775808 <= i + 1 /\ i + 1 <= 9223372036854775807) /\
   kValidRH_at (fl) (l) (bif bif bif bif b then decide (Sp.isLen (l.getD i.toNat default).len) else false then decide (Sp.isV (l.getD i.toNat default).spd) else false then decide ((l.getD i.toNat default).spd >= 1) else false then decide (Sp.isV (l.getD i.toNat default).cor) else false) (i + 1) (PureQ dq)) /\
  (¬(i < (↑l.length:Int)) -> ((¬(b = true)) -> vi 1 = dq) /\
   (¬(¬(b = true)) -> vi 0 = dq))) :
 kValidRH_at fl l b i (PureQ dq):=by
 unfold kValidRH_at
 have w1:(List.map Pt.a l).length = l.length:=List.length_map ..
 have i2:(decide (i < (↑(List.map Pt.a l).length:Int))) = true ↔ (i < (↑l.length:Int)):=(by (try rw [w1]);all_goals exact i_dec)
 rcases xm (i < (↑l.length:Int)) with d3 | d3
 ·have H:=H.1 d3
  obtain ⟨k8,H⟩:=H
  have i9:(!(b == true && true) || decide (i.toNat < (List.map Pt.a l).length)) = true ↔ ((b = true) -> (i.toNat < l.length)):=(by (try rw [w1]);all_goals exact (i_imp (i_at (i_bt (i_var _))) i_dec))
  obtain ⟨k10,H⟩:=H
  obtain ⟨k12,H⟩:=H
  have i13:(!((zNzB7 b l i) == true && true) || decide (i.toNat < (List.map Pt.a l).length)) = true ↔ (((b = true) /\ (Sp.isLen (l.getD i.toNat default).len)) -> (i.toNat < l.length)):=(by (try rw [w1]);all_goals exact (i_imp (i_at (i_bt (i_band (i_var _) i_dec))) i_dec))
  obtain ⟨k14,H⟩:=H
  obtain ⟨k16,H⟩:=H
  have i17:(!((zNzB6 b l i) == true && true) || decide (i.toNat < (List.map Pt.a l).length)) = true ↔ ((((b = true) /\ (Sp.isLen (l.getD i.toNat default).len)) /\ (Sp.isV (l.getD i.toNat default).spd)) -> (i.toNat < l.length)):=(by (try rw [w1]);all_goals exact (i_imp (i_at (i_bt (i_band (i_band (i_var _) i_dec) i_dec))) i_dec))
  obtain ⟨k18,H⟩:=H
  obtain ⟨k20,H⟩:=H
  have i21:(!((zNzB5 b l i) == true && true) || decide (i.toNat < (List.map Pt.a l).length)) = true ↔ (((((b = true) /\ (Sp.isLen (l.getD i.toNat default).len)) /\ (Sp.isV (l.getD i.toNat default).spd)) /\ ((l.getD i.toNat default).spd >= 1)) -> (i.toNat < l.length)):=(by (try rw [w1]);all_goals exact (i_imp (i_at (i_bt (i_band (i_band (i_band (i_var _) i_dec) i_dec) i_dec))) i_dec))
  obtain ⟨k22,H⟩:=H
  obtain ⟨k27,H⟩:=H
  have w28:wi (i + 1) = i + 1:=wI64 k27
  exact path_wp (G:=given kp12 [(7,6,.elem (zNzB4 l i)),(7,7,.call (vb (decide (Sp.isLen (l.getD i.toNat default).len))) none),(7,14,.elem (zNzB4 l i)),(7,15,.call (vb (decide (Sp.isV (l.getD i.toNat default).spd))) none),(7,22,.elem (zNzB4 l i)),(7,30,.elem (zNzB4 l i)),(7,31,.call (vb (decide (Sp.isV (l.getD i.toNat default).cor))) none)] []) 1000 [true] ⟨(atC (cd Try.f12) [1,1,1,0,1,0,0]),[(0,AV.vec fl 3 (List.map Pt.a l)),(5,vb (bif bif bif bif b then decide (Sp.isLen (l.getD i.toNat default).len) else false then decide (Sp.isV (l.getD i.toNat default).spd) else false then decide ((l.getD i.toNat default).spd >= 1) else false then decide (Sp.isV (l.getD i.toNat default).cor) else false)),(6,vi (wi (i + 1)))],[],[(decide (i < (↑(List.map Pt.a l).length:Int))) == true,!(b == true && true) || decide (0 <= i),!(b == true && true) || decide (i.toNat < (List.map Pt.a l).length),!((zNzB7 b l i) == true && true) || decide (0 <= i),!((zNzB7 b l i) == true && true) || decide (i.toNat < (List.map Pt.a l).length),!((zNzB6 b l i) == true && true) || decide (0 <= i),!((zNzB6 b l i) == true && true) || decide (i.toNat < (List.map Pt.a l).length),!((zNzB5 b l i) == true && true) || decide (0 <= i),!((zNzB5 b l i) == true && true) || decide (i.toNat < (List.map Pt.a l).length)],[((b == true && true) = true -> (List.map Pt.a l).get?Internal i.toNat = some (zNzB4 l i)),(((zNzB7 b l i) == true && true) = true -> (List.map Pt.a l).get?Internal i.toNat = some (zNzB4 l i)),(((zNzB6 b l i) == true && true) = true -> (List.map Pt.a l).get?Internal i.toNat = some (zNzB4 l i)),(((zNzB5 b l i) == true && true) = true -> (List.map Pt.a l).get?Internal i.toNat = some (zNzB4 l i))],[⟨b == true && true && true,false,29,[vi (l.getD i.toNat default).len],[],vb (decide (Sp.isLen (l.getD i.toNat default).len)),[]⟩,⟨(zNzB7 b l i) == true && true && true,false,30,[vi (l.getD i.toNat default).spd],[],vb (decide (Sp.isV (l.getD i.toNat default).spd)),[]⟩,⟨(zNzB5 b l i) == true && true && true,false,30,[vi (l.getD i.toNat default).cor],[],vb (decide (Sp.isV (l.getD i.toNat default).cor)),[]⟩]⟩ (by kernel_rfl) (bc (beq_t (i2.2 d3)) (bc ((i_imp (i_at (i_bt (i_var _))) i_dec).2 k8) (bc (i9.2 k10) (bc ((i_imp (i_at (i_bt (i_band (i_var _) i_dec))) i_dec).2 k12) (bc (i13.2 k14) (bc ((i_imp (i_at (i_bt (i_band (i_band (i_var _) i_dec) i_dec))) i_dec).2 k16) (bc (i17.2 k18) (bc ((i_imp (i_at (i_bt (i_band (i_band (i_band (i_var _) i_dec) i_dec) i_dec))) i_dec).2 k20) (bc (i21.2 k22) b0))))))))) (qc (fun h => el_map (k10 ((i_at (i_bt (i_var _))).1 h))) (qc (fun h => el_map (k14 ((i_at (i_bt (i_band (i_var _) i_dec))).1 h))) (qc (fun h => el_map (k18 ((i_at (i_bt (i_band (i_band (i_var _) i_dec) i_dec))).1 h))) (qc (fun h => el_map (k22 ((i_at (i_bt (i_band (i_band (i_band (i_var _) i_dec) i_dec) i_dec))).1 h))) q0)))) (cc (fun hc => ((@ev29 ((l.getD i.toNat default).len)):Ev M1 (Conf.pure 29 [vi (l.getD i.toNat default).len]) (vb (decide (Sp.isLen (l.getD i.toNat default).len))) [])) (cc (fun hc => ((@ev30 ((l.getD i.toNat default).spd)):Ev M1 (Conf.pure 30 [vi (l.getD i.toNat default).spd]) (vb (decide (Sp.isV (l.getD i.toNat default).spd))) [])) (cc (fun hc => ((@ev30 ((l.getD i.toNat default).cor)):Ev M1 (Conf.pure 30 [vi (l.getD i.toNat default).cor]) (vb (decide (Sp.isV (l.getD i.toNat default).cor))) [])) c0))) (by (try rw [w28]);all_goals exact H)
 ·have H:=H.2 d3
  rcases xm (¬(b = true)) with d30 | d30
  ·have H:=H.1 d30
   exact path_re (G:=given kp12 [] []) 1000 [false,true] (asm:=[(decide (i < (↑(List.map Pt.a l).length:Int))) == false,(!b) == true]) (vi 1) (by kernel_rfl) (bc (beq_f (fun h => d3 (i2.1 h))) (bc (beq_t ((i_not (i_var _)).2 d30)) b0)) q0 c0 H
  ·have H:=H.2 d30
   exact path_re (G:=given kp12 [] []) 1000 [false,false] (asm:=[(decide (i < (↑(List.map Pt.a l).length:Int))) == false,(!b) == false]) (vi 0) (by kernel_rfl) (bc (beq_f (fun h => d3 (i2.1 h))) (bc (beq_f (fun h => d30 ((i_not (i_var _)).1 h))) b0)) q0 c0 H
theorem kValid (fl:Bool) (l:List Pt) (a:Int)  (dq:AV) (H :
  (((↑l.length:Int) > 2000) -> vi 3 = dq) /\
  (¬((↑l.length:Int) > 2000) -> ((¬(1 <= a /\ a <= 100000000)) -> vi 1 = dq) /\
   (¬(¬(1 <= a /\ a <= 100000000)) -> kValidH_at (fl) (l) ((↑l.length:Int)) (0) (PureQ dq)))) :
 kValid_at fl l a (PureQ dq):=by
 unfold kValid_at
 have w1:(List.map Pt.a l).length = l.length:=List.length_map ..
 have i2:(decide ((↑(List.map Pt.a l).length:Int) > 2000)) = true ↔ ((↑l.length:Int) > 2000):=(by (try rw [w1]);all_goals exact i_dec)
 rcases xm ((↑l.length:Int) > 2000) with d3 | d3
 ·have H:=H.1 d3
  exact path_re (G:=given kp11 [] []) 1000 [true] (vi 3) (by kernel_rfl) (bc (beq_t (i2.2 d3)) b0) q0 c0 H
 ·have H:=H.2 d3
  refine path_wp (G:=given kp11 [(3,1,.call (vb (decide (1 <= a /\ a <= 100000000))) none)] []) 10 [false] ⟨(atC (cd Try.f11) [1,1,0,1]),[(0,AV.vec fl 3 (List.map Pt.a l)),(12,vb !decide (1 <= a /\ a <= 100000000))],[],_,[],_⟩ (by kernel_rfl) (bc (beq_f (fun h => d3 (i2.1 h))) b0) q0 (ce (@ev27 (a) (1) (100000000)) c0) ?_
  rcases xm (¬(1 <= a /\ a <= 100000000)) with d5 | d5
  ·have H:=H.1 d5
   exact path_re (G:=given kp11 [] []) 1000 [true] (vi 1) (by kernel_rfl) (bc (beq_t ((i_not i_dec).2 d5)) b0) q0 c0 H
  ·have H:=H.2 d5
   exact path_wp (G:=given kp11 [] []) 1000 [false] ⟨(atC (cd Try.f11) [1,1,1,0,1,0,0]),[(13,AV.vec fl 3 (List.map Pt.a l)),(14,vi (↑(List.map Pt.a l).length:Int)),(15,vi 0)],[],_,[],_⟩ (by kernel_rfl) (bc (beq_f (fun h => d5 ((i_not i_dec).1 h))) b0) q0 c0 (by (try rw [w1]);all_goals exact H)
noncomputable abbrev zNzB8 (l:List Pt) (i:Int):=ag [vi (l.getD i.toNat default).len,vi (l.getD i.toNat default).spd,vi (l.getD i.toNat default).cor]
noncomputable abbrev zNzB9 (l:List Pt) (i:Int):=bif !decide (0 <= (l.getD i.toNat default).len /\ (l.getD i.toNat default).len <= 100000000) then true else !decide (1 <= (l.getD i.toNat default).spd /\ (l.getD i.toNat default).spd <= 1000000)
theorem kValidH (fl:Bool) (l:List Pt) (n i:Int)  (dq:AV) (H :
  ((i < n) -> (0 <= i) /\
   (i.toNat < l.length) /\
   ((((¬(0 <= (l.getD i.toNat default).len /\ (l.getD i.toNat default).len <= 100000000)) \/ (¬(1 <= (l.getD i.toNat default).spd /\ (l.getD i.toNat default).spd <= 1000000))) \/ (¬(0 <= (l.getD i.toNat default).cor /\ (l.getD i.toNat default).cor <= 1000000))) -> vi 1 = dq) /\
   (¬(((¬(0 <= (l.getD i.toNat default).len /\ (l.getD i.toNat default).len <= 100000000)) \/ (¬(1 <= (l.getD i.toNat default).spd /\ (l.getD i.toNat default).spd <= 1000000))) \/ (¬(0 <= (l.getD i.toNat default).cor /\ (l.getD i.toNat default).cor <= 1000000))) -> (-9223372036854775808 <= i + 1 /\ i + 1 <= 9223372036854775807) /\
    kValidH_at (fl) (l) (n) (i + 1) (PureQ dq))) /\
  (¬(i < n) -> vi 0 = dq)) :
 kValidH_at fl l n i (PureQ dq):=by
 unfold kValidH_at
 rcases xm (i < n) with d2 | d2
 ·have H:=H.1 d2
  obtain ⟨k4,H⟩:=H
  have w5:(List.map Pt.a l).length = l.length:=List.length_map ..
  have i6:(decide (i.toNat < (List.map Pt.a l).length)) = true ↔ (i.toNat < l.length):=(by (try rw [w5]);all_goals exact i_dec)
  obtain ⟨k7,H⟩:=H
  refine path_wp (G:=given kp11 [(7,1,.elem ((zNzB8 l i))),(8,2,.call (vb (decide (0 <= (l.getD i.toNat default).len /\ (l.getD i.toNat default).len <= 100000000))) none),(8,7,.call (vb (decide (1 <= (l.getD i.toNat default).spd /\ (l.getD i.toNat default).spd <= 1000000))) none),(8,13,.call (vb (decide (0 <= (l.getD i.toNat default).cor /\ (l.getD i.toNat default).cor <= 1000000))) none)] []) 11 [true] ⟨(atC (cd Try.f11) [1,1,1,0,1,0,0,1,1,0,0,1,1]),[(13,AV.vec fl 3 (List.map Pt.a l)),(14,vi n),(15,vi i),(34,vb (bif bif !decide (0 <= (l.getD i.toNat default).len /\ (l.getD i.toNat default).len <= 100000000) then true else !decide (1 <= (l.getD i.toNat default).spd /\ (l.getD i.toNat default).spd <= 1000000) then true else !decide (0 <= (l.getD i.toNat default).cor /\ (l.getD i.toNat default).cor <= 1000000)))],[⟨[(zNzB8 l i)],3,0,false,false⟩],[(decide (i < n)) == true,decide (0 <= i),decide (i.toNat < (List.map Pt.a l).length),true,true,!((!decide (0 <= (l.getD i.toNat default).len /\ (l.getD i.toNat default).len <= 100000000)) == false && true) || true,!((zNzB9 l i) == false && true) || true],[((List.map Pt.a l).get?Internal i.toNat = some ((zNzB8 l i)))],[⟨true,false,27,[vi (l.getD i.toNat default).len,vi 0,vi 100000000],[],vb (decide (0 <= (l.getD i.toNat default).len /\ (l.getD i.toNat default).len <= 100000000)),[]⟩,⟨(!decide (0 <= (l.getD i.toNat default).len /\ (l.getD i.toNat default).len <= 100000000)) == false && true && true,false,27,[vi (l.getD i.toNat default).spd,vi 1,vi 1000000],[],vb (decide (1 <= (l.getD i.toNat default).spd /\ (l.getD i.toNat default).spd <= 1000000)),[]⟩,⟨(zNzB9 l i) == false && true && true,false,27,[vi (l.getD i.toNat default).cor,vi 0,vi 1000000],[],vb (decide (0 <= (l.getD i.toNat default).cor /\ (l.getD i.toNat default).cor <= 1000000)),[]⟩]⟩ (by kernel_rfl) (bc (beq_t (i_dec.2 d2)) (bc (i_dec.2 k4) (bc (i6.2 k7) (bc rfl (bc rfl (bc (Bool.or_true _) (bc (Bool.or_true _) b0))))))) (qc (el_map k7) q0) (cc (fun _ => (@ev27 ((l.getD i.toNat default).len) (0) (100000000))) (cc (fun hc => ((@ev27 ((l.getD i.toNat default).spd) (1) (1000000)):Ev M1 (Conf.pure 27 [vi (l.getD i.toNat default).spd,vi 1,vi 1000000]) (vb (decide (1 <= (l.getD i.toNat default).spd /\ (l.getD i.toNat default).spd <= 1000000))) [])) (cc (fun hc => ((@ev27 ((l.getD i.toNat default).cor) (0) (1000000)):Ev M1 (Conf.pure 27 [vi (l.getD i.toNat default).cor,vi 0,vi 1000000]) (vb (decide (0 <= (l.getD i.toNat default).cor /\ (l.getD i.toNat default).cor <= 1000000))) [])) c0))) ?_
  rcases xm (((¬(0 <= (l.getD i.toNat default).len /\ (l.getD i.toNat default).len <= 100000000)) \/ (¬(1 <= (l.getD i.toNat default).spd /\ (l.getD i.toNat default).spd <= 1000000))) \/ (¬(0 <= (l.getD i.toNat default).cor /\ (l.getD i.toNat default).cor <= 1000000))) with d11 | d11
  ·have H:=H.1 d11
   exact path_re (G:=given kp11 [] []) 1000 [true] (vi 1) (by kernel_rfl) (bc (beq_t ((i_bor (i_bor (i_not i_dec) (i_not i_dec)) (i_not i_dec)).2 d11)) b0) q0 c0 H
  ·have H:=H.2 d11
   obtain ⟨k12,H⟩:=H
   have w13:wi (i + 1) = i + 1:=wI64 k12
   exact path_wp (G:=given kp11 [] []) 1000 [false] ⟨(atC (cd Try.f11) [1,1,1,0,1,0,0]),[(13,AV.vec fl 3 (List.map Pt.a l)),(14,vi n),(15,vi (wi (i + 1)))],[⟨[(zNzB8 l i)],3,0,false,false⟩],_,[],_⟩ (by kernel_rfl) (bc (beq_f (fun h => d11 ((i_bor (i_bor (i_not i_dec) (i_not i_dec)) (i_not i_dec)).1 h))) b0) q0 c0 (by (try rw [w13]);all_goals exact wp_narrow [] (by kernel_rfl) H)
 ·have H:=H.2 d2
  exact path_re (G:=given kp11 [] []) 1000 [false] (vi 0) (by kernel_rfl) (bc (beq_f (fun h => d2 (i_dec.1 h))) b0) q0 c0 H
theorem kFar (x y z:Int)  (dq:AV) (H :
  kFarH_at (x) (y) (z) (0) (PureQ dq)) :
 kFar_at x y z (PureQ dq):=by
 unfold kFar_at
 exact path_wp (G:=given kp31 [] []) 1000 [] ⟨(atC (cd Try.f31) [1,0,1,0,0]),[(11,AV.vec true 1 [vi x,vi y,vi z]),(12,vi 3),(13,vi 0)],[⟨[ag [vi x,vi y,vi z]],3,0,false,false⟩],_,[],_⟩ (by kernel_rfl) (bc rfl (bc rfl (bc rfl b0))) q0 c0 (wp_narrow [] (by kernel_rfl) H)
theorem kFarH (x y z i:Int)  (dq:AV) (H :
  ((i < 3) -> (0 <= i) /\
   (i.toNat < 3) /\
   (i.toNat < [x,y,z].length) /\
   ((¬(-10000000 <= [x,y,z].getD i.toNat default /\ [x,y,z].getD i.toNat default <= 10000000)) -> vb true = dq) /\
   (¬(¬(-10000000 <= [x,y,z].getD i.toNat default /\ [x,y,z].getD i.toNat default <= 10000000)) -> (-9223372036854775808 <= i + 1 /\ i + 1 <= 9223372036854775807) /\
    kFarH_at (x) (y) (z) (i + 1) (PureQ dq))) /\
  (¬(i < 3) -> vb false = dq)) :
 kFarH_at x y z i (PureQ dq):=by
 unfold kFarH_at
 rcases xm (i < 3) with d2 | d2
 ·have H:=H.1 d2
  have w3:[vi x,vi y,vi z] = List.map (vi) [x,y,z]:=rfl
  obtain ⟨k5,H⟩:=H
  have w6:(List.map (vi) [x,y,z]).length = [x,y,z].length:=List.length_map ..
  have i7:(decide (i.toNat < 3)) = true ↔ (i.toNat < 3):=(by (try rw [w3]);(try rw [w6]);all_goals exact i_dec)
  obtain ⟨k8,H⟩:=H
  obtain ⟨k9,H⟩:=H
  refine path_wp (G:=given kp31 [(3,1,.elem (vi ([x,y,z].getD i.toNat default))),(4,1,.call (vb (decide (-10000000 <= [x,y,z].getD i.toNat default /\ [x,y,z].getD i.toNat default <= 10000000))) none)] []) 11 [true] ⟨(atC (cd Try.f31) [1,0,1,0,0,1,1,0,0,1,1]),[(11,AV.vec true 1 [vi x,vi y,vi z]),(12,vi 3),(13,vi i),(19,vb !decide (-10000000 <= [x,y,z].getD i.toNat default /\ [x,y,z].getD i.toNat default <= 10000000))],[],_,[([vi x,vi y,vi z].get?Internal i.toNat = some (vi ([x,y,z].getD i.toNat default)))],_⟩ (by kernel_rfl) (bc (beq_t (i_dec.2 d2)) (bc (i_dec.2 k5) (bc (i7.2 k8) b0))) (qc (by (try rw [w3]);all_goals exact (el_map k9)) q0) (ce (@ev27 ([x,y,z].getD i.toNat default) (-10000000) (10000000)) c0) ?_
  rcases xm (¬(-10000000 <= [x,y,z].getD i.toNat default /\ [x,y,z].getD i.toNat default <= 10000000)) with d11 | d11
  ·have H:=H.1 d11
   exact path_re (G:=given kp31 [] []) 1000 [true] (vb true) (by kernel_rfl) (bc (beq_t ((i_not i_dec).2 d11)) b0) q0 c0 H
  ·have H:=H.2 d11
   obtain ⟨k12,H⟩:=H
   have w13:wi (i + 1) = i + 1:=wI64 k12
   exact path_wp (G:=given kp31 [] []) 1000 [false] ⟨(atC (cd Try.f31) [1,0,1,0,0]),[(11,AV.vec true 1 [vi x,vi y,vi z]),(12,vi 3),(13,vi (wi (i + 1)))],[],_,[],_⟩ (by kernel_rfl) (bc (beq_f (fun h => d11 ((i_not i_dec).1 h))) b0) q0 c0 (by (try rw [w3]);(try rw [w13]);all_goals exact H)
 ·have H:=H.2 d2
  exact path_re (G:=given kp31 [] []) 1000 [false] (vb false) (by kernel_rfl) (bc (beq_f (fun h => d2 (i_dec.1 h))) b0) q0 c0 H
end Go.Av

namespace Go.Av
open Go.Proofs
instance (p:Pt):Decidable (Sp.okPt p):=by unfold Sp.okPt;infer_instance
instance (l:List Pt) (a:Int):Decidable (Sp.okPts l a):=by unfold Sp.okPts;infer_instance
namespace Sp
def inN (a:Int):Prop:=0 <= a /\ a <= 9223372036854775807
def validE (l:List Pt) (a:Int):Int:=if (l.length:Int) > 2000 then 3 else if okPts l a then 0 else 1
def okFrom (l:List Pt) (i:Nat):Prop:=∀ p ∈ l.drop i,okPt p
end Sp
instance (l:List Pt) (i:Nat):Decidable (Sp.okFrom l i):=by unfold Sp.okFrom;infer_instance
theorem ite_iff {p q:Prop} [Decidable p] [Decidable q] {a b:Int} (h:p ↔ q):(if p then a else b) = if q then a else b:=by
 by_cases k:q
 ·rw [if_pos k,if_pos (h.2 k)]
 ·rw [if_neg k,if_neg fun x => k (h.1 x)]
theorem okFrom_iff {l:List Pt} {i:Nat} (h:i < l.length):Sp.okFrom l i ↔ Sp.okPt (l.getD i default) /\ Sp.okFrom l (i + 1):=by
 unfold Sp.okFrom
 rw [drop_getD h]
 exact List.forall_mem_cons
theorem okFrom_end {l:List Pt} {i:Nat} (h:l.length <= i):Sp.okFrom l i:=by
 unfold Sp.okFrom
 rw [List.drop_eq_nil_of_le h]
 exact fun p hp => nomatch hp
theorem okPts_from {l:List Pt} {a:Int}:Sp.okPts l a ↔ Sp.isAcc a /\ Sp.okFrom l 0:=Iff.rfl
theorem small_cnt {a:Int} (h:Sp.inN a):Sp.cnt a.natAbs <= 3:=by
 refine fits_cnt.1 ?_
 unfold Sp.fits
 unfold Sp.inN at h
 have:(1000000000:Nat) ^ 3 = 1000000000000000000000000000:=rfl
 omega
theorem int64_loop {fa:Bool} {a:Int} {dq:AV} (h:Sp.inN a) (hq:AV.tup [.int .i64 a,.bool true] = dq):∀ (k:Nat),k <= Sp.cnt a.natAbs -> kInt64H_at fa a ((a.natAbs / 1000000000 ^ k:Nat):Int) ((k:Int) - 1) (PureQ dq)
 | 0,_ => by
  have e:((a.natAbs / 1000000000 ^ 0:Nat):Int) = a:=by
   unfold Sp.inN at h
   rw [Nat.pow_zero,Nat.div_one];omega
  have hn:¬Sp.isNeg a = true:=fun x => by rw [isNeg_iff] at x;unfold Sp.inN at h;omega
  refine kInt64H _ _ _ _ _ ⟨fun x => by omega,fun _ => ⟨fun x => absurd x hn,fun _ => ?_⟩⟩
  rw [e]
  unfold Sp.inN at h
  exact ⟨by omega,hq⟩
 | k + 1,hk => by
  have c3:=small_cnt h
  have e1:(((k + 1:Nat):Int) - 1).toNat = k:=by omega
  have e2:((k + 1:Nat):Int) - 1 - 1 = (k:Int) - 1:=by omega
  have ea:a.natAbs <= 9223372036854775807:=by unfold Sp.inN at h;omega
  have d0:a.natAbs / 1000000000 ^ k <= a.natAbs:=Nat.div_le_self _ _
  have d1:a.natAbs / 1000000000 ^ (k + 1) = a.natAbs / 1000000000 ^ k / 1000000000:=by rw [Nat.pow_succ,Nat.div_div_eq_div_mul]
  have g:=int64_loop (fa:=fa) h hq k (by omega)
  refine kInt64H _ _ _ _ _ ⟨fun x => ?_,fun x => by omega⟩
  rw [e1,e2,show Sp.limI a = Sp.limN (Sp.cnt a.natAbs) a.natAbs from rfl,limN_getD _ (by omega),limN_len,d1]
  generalize a.natAbs / 1000000000 ^ k = w at *
  have ew:((w / 1000000000:Nat):Int) * 1000000000 + ((w % 1000000000:Nat):Int) = (w:Int):=by omega
  rw [ew]
  exact ⟨by omega,by omega,by omega,by omega,by omega,by omega,g⟩
theorem ev52 (fa:Bool) (a:Int) (h:Sp.inN a):Ev M1 (.pure 52 [bigA fa a]) (.tup [.int .i64 a,.bool true]) []:=by
 have c3:=small_cnt h
 have ob:Sp.okB a:=by unfold Sp.okB;omega
 have o1:Sp.okB (-9223372036854775808):=(by unfold Sp.okB;have:=@small_cnt 9223372036854775807 (by unfold Sp.inN;omega);have e:Sp.cnt (Int.natAbs (-9223372036854775808)) <= 3:=fits_cnt.1 (by unfold Sp.fits;decide);omega)
 have o2:Sp.okB 9223372036854775807:=(by unfold Sp.okB;have:=@small_cnt 9223372036854775807 (by unfold Sp.inN;omega);omega)
 have hl:(Sp.limI a).length = Sp.cnt a.natAbs:=limI_len a
 have hn:=h
 unfold Sp.inN at hn
 have g:=int64_loop (fa:=fa) h rfl (Sp.cnt a.natAbs) (Nat.le_refl _)
 rw [fits_div (fits_self a.natAbs) (Nat.le_refl _)] at g
 have s1:¬Sp.sgnI (a - -9223372036854775808) < 0:=by
  unfold Sp.sgnI
  (repeat' split) <;> omega
 have s2:¬Sp.sgnI (a - 9223372036854775807) > 0:=by
  unfold Sp.sgnI
  (repeat' split) <;> omega
 refine call52 (kInt64 _ _ _ ⟨by unfold Sp.inI;omega,_,ev64 fa false a (-9223372036854775808) ⟨ob,o1⟩,fun _ => by unfold Sp.inI;omega,_,fun _ => ev64 fa false a 9223372036854775807 ⟨ob,o2⟩,fun x => absurd x (fun y => y.elim s1 s2),fun _ => ?_⟩)
 rw [hl]
 exact ⟨by omega,g⟩
theorem sq_small {n:Int} (h:Sp.okNs n):0 <= Sp.sq n /\ Sp.sq n <= 2000000000 /\ Sp.sq n * Sp.sq n <= n /\ n < (Sp.sq n + 1) * (Sp.sq n + 1):=by
 obtain ⟨a,b,c⟩:=sq_low h.1
 refine ⟨c,?_,a,b⟩
 apply Classical.byContradiction
 intro x
 have:=(sq_ge (a:=2000000001) (by omega) h.1).1 (by omega)
 have:=h.2
 omega
theorem af_ok {n u v:Int} (h:Sp.isV n /\ Sp.isLen u /\ Sp.isAcc v):(0 <= n * n /\ n * n <= 1000000000000) /\ (0 <= 2 * v * u /\ 2 * v * u <= 20000000000000000) /\ Sp.okNs (n * n + 2 * v * u):=by
 unfold Sp.isV Sp.isLen Sp.isAcc at h
 have a:=nn_sq n
 have b:n * n <= 1000000 * 1000000:=sq_le_sq (by omega) (by omega)
 have c:0 <= 2 * v * u:=Int.mul_nonneg (by omega) (by omega)
 have d:2 * v * u <= 200000000 * 100000000:=Int.mul_le_mul (by omega) (by omega) (by omega) (by omega)
 unfold Sp.okNs
 omega
theorem ev26 (n u v:Int) (h:Sp.isV n /\ Sp.isLen u /\ Sp.isAcc v):Ev M1 (.pure 26 [.int .i64 n,.int .i64 u,.int .i64 v]) (.int .i64 (Sp.af (2 * v * u) n)) []:=by
 obtain ⟨a,b,c⟩:=af_ok h
 have c':=c
 unfold Sp.okNs at c'
 have d:=h.2.2
 unfold Sp.isAcc at d
 exact call26 (kAfter _ _ _ _ ⟨by omega,by omega,by omega,by omega,c,rfl⟩)
theorem validR_loop {fl:Bool} {l:List Pt} {dq:AV} (hl:(l.length:Int) <= 2000):∀ (k i:Nat) (b:Bool),i + k = l.length -> AV.int .i64 (if b = true /\ Sp.okFrom l i then 0 else 1) = dq -> kValidRH_at fl l b i (PureQ dq)
 | 0,i,b,h,hq => by
  have e:=okFrom_end (l:=l) (i:=i) (by omega)
  refine kValidRH _ _ _ _ _ ⟨fun x => by omega,fun _ => ⟨fun x => ?_,fun x => ?_⟩⟩
  ·rw [if_neg fun y => x y.1] at hq;exact hq
  ·rw [if_pos ⟨Classical.not_not.1 x,e⟩] at hq;exact hq
 | k + 1,i,b,h,hq => by
  have e:=okFrom_iff (l:=l) (i:=i) (by omega)
  refine kValidRH _ _ _ _ _ ⟨fun x => ?_,fun x => by omega⟩
  rw [Int.toNat_natCast]
  refine ⟨fun _ => by omega,fun _ => by omega,fun _ => by omega,fun _ => by omega,fun _ => by omega,fun _ => by omega,fun _ => by omega,fun _ => by omega,by omega,?_⟩
  rw [show (i:Int) + 1 = ((i + 1:Nat):Int) by omega]
  refine validR_loop hl k (i + 1) _ (by omega) ?_
  rw [<- hq]
  congr 1
  rw [bif_and,bif_and,bif_and,bif_and]
  simp only [Bool.and_eq_true,decide_eq_true_eq]
  have q:Sp.okPt (l.getD i default) ↔ ((Sp.isLen (l.getD i default).len /\ Sp.isV (l.getD i default).spd) /\ (l.getD i default).spd >= 1) /\ Sp.isV (l.getD i default).cor:=
   ⟨fun z => ⟨⟨⟨z.1,by have:=z.2.1;unfold Sp.isV;omega⟩,by have:=z.2.1;omega⟩,z.2.2⟩,fun z => ⟨z.1.1.1,by have:=z.1.1.2;have:=z.1.2;unfold Sp.isV at *;omega,z.2⟩⟩
  refine ite_iff ?_
  rw [e,q,and_assoc,and_assoc,and_assoc,and_assoc]
  simp only [and_assoc]
theorem ev12 (fl:Bool) (l:List Pt) (a:Int):Ev M1 (.pure 12 [.vec fl 3 (l.map Pt.a),.int .i64 a]) (.int .i64 (Sp.validE l a)) []:=by
 refine call12 (kValidR _ _ _ _ ⟨fun x => by unfold Sp.validE;rw [if_pos x],fun x => ?_⟩)
 refine validR_loop (by omega) l.length 0 _ (by omega) ?_
 unfold Sp.validE
 rw [if_neg x]
 congr 1
 by_cases k:Sp.okPts l a
 ·rw [if_pos k,if_pos]
  exact ⟨decide_eq_true (okPts_from.1 k).1,(okPts_from.1 k).2⟩
 ·rw [if_neg k,if_neg]
  exact fun y => k (okPts_from.2 ⟨of_decide_eq_true y.1,y.2⟩)
theorem valid_loop {fl:Bool} {l:List Pt} {dq:AV} (hl:(l.length:Int) <= 2000):∀ (k i:Nat),i + k = l.length -> AV.int .i64 (if Sp.okFrom l i then 0 else 1) = dq -> kValidH_at fl l l.length i (PureQ dq)
 | 0,i,h,hq => by
  have e:=okFrom_end (l:=l) (i:=i) (by omega)
  refine kValidH _ _ _ _ _ ⟨fun x => by omega,fun _ => ?_⟩
  rw [if_pos e] at hq;exact hq
 | k + 1,i,h,hq => by
  have e:=okFrom_iff (l:=l) (i:=i) (by omega)
  refine kValidH _ _ _ _ _ ⟨fun x => ?_,fun x => by omega⟩
  rw [Int.toNat_natCast]
  refine ⟨by omega,by omega,fun y => ?_,fun y => ⟨by omega,?_⟩⟩
  ·rw [if_neg] at hq
   ·exact hq
   ·rw [e]
    intro z
    have z:=z.1
    unfold Sp.okPt Sp.isLen Sp.isV at z
    omega
  ·rw [show (i:Int) + 1 = ((i + 1:Nat):Int) by omega]
   refine valid_loop hl k (i + 1) (by omega) ?_
   rw [<- hq]
   congr 1
   have z:Sp.okPt (l.getD i default):=by unfold Sp.okPt Sp.isLen Sp.isV;omega
   refine ite_iff ?_
   rw [e]
   exact ⟨fun w => ⟨z,w⟩,fun v => v.2⟩
theorem ev11 (fl:Bool) (l:List Pt) (a:Int):Ev M1 (.pure 11 [.vec fl 3 (l.map Pt.a),.int .i64 a]) (.int .i64 (Sp.validE l a)) []:=by
 refine call11 (kValid _ _ _ _ ⟨fun x => by unfold Sp.validE;rw [if_pos x],fun x => ?_⟩)
 unfold Sp.validE
 rw [if_neg x]
 refine ⟨fun y => by rw [if_neg fun z => y z.1],fun y => valid_loop (by omega) l.length 0 (by omega) ?_⟩
 congr 1
 by_cases k:Sp.okPts l a
 ·rw [if_pos k,if_pos]
  exact (okPts_from.1 k).2
 ·rw [if_neg k,if_neg]
  intro z
  exact k (okPts_from.2 ⟨Classical.not_not.1 y,z⟩)
theorem ev31 (x y z:Int):Ev M1 (.pure 31 [.agg [.int .i64 x,.int .i64 y,.int .i64 z]]) (.bool (decide (¬Sp.inP x y z))) []:=by
 refine call31 (kFar _ _ _ _ ?_)
 refine kFarH _ _ _ _ _ ⟨fun _ => ⟨by omega,by decide,by show 0 < 3;omega,fun a => ?_,fun a => ⟨by omega,?_⟩⟩,fun k => absurd k (by decide)⟩
 ·rw [decide_eq_true];exact fun k => a k.1
 refine kFarH _ _ _ _ _ ⟨fun _ => ⟨by omega,by decide,by show 1 < 3;omega,fun b => ?_,fun b => ⟨by omega,?_⟩⟩,fun k => absurd k (by decide)⟩
 ·rw [decide_eq_true];exact fun k => b k.2.1
 refine kFarH _ _ _ _ _ ⟨fun _ => ⟨by omega,by decide,by show 2 < 3;omega,fun c => ?_,fun c => ⟨by omega,?_⟩⟩,fun k => absurd k (by decide)⟩
 ·rw [decide_eq_true];exact fun k => c k.2.2
 refine kFarH _ _ _ _ _ ⟨fun k => absurd k (by decide),fun _ => ?_⟩
 rw [decide_eq_false]
 exact fun k => k ⟨Classical.not_not.1 a,Classical.not_not.1 b,Classical.not_not.1 c⟩
end Go.Av

namespace Go.Av
open Go.Proofs
set_option maxRecDepth 100000
def fi9:Fi:=⟨18,[.tmp 2]⟩
def kp9:List (Nat × List Nat):=[(0,[0]),(1,[0,3]),(2,[3,6,7,8]),(3,[3,6,7,8,9]),(4,[3,5,6,7,8]),(5,[3,6,7,8]),(6,[3,6,7,8]),(7,[2])]
def fi10:Fi:=⟨116,[.tmp 4,.tmp 5]⟩
def kp10:List (Nat × List Nat):=[(0,[0,1]),(1,[0,1,6]),(2,[0,1,6,17]),(3,[4,5]),(4,[0,1,7]),(5,[0,1,7,8]),(6,[0,1,7,8,26]),(7,[0,1,7,8]),(8,[0,1,7,8]),(9,[0,1,7,9]),(10,[0,1,7,50]),(11,[0,1,7,9]),(12,[0,1,7,9,10]),(13,[0,1,7,9,10,54]),(14,[0,1,7,9,10]),(15,[0,1,7,9,10,11,12]),(16,[0,1,7,9,10,11,12]),(17,[0,1,7,9,10,11,12]),(18,[0,1,7,9,10]),(19,[4,5])]
def fi13:Fi:=⟨26,[.tmp 4]⟩
def kp13:List (Nat × List Nat):=[(0,[0,1]),(1,[0,1,10]),(2,[4]),(3,[0,1,12,13]),(4,[0,1,12,13,14]),(5,[0,1,5,12,13]),(6,[0,1,12,13,24]),(7,[4]),(8,[0,1,12,13]),(9,[4])]
def fi33:Fi:=⟨21,[.tmp 2]⟩
def kp33:List (Nat × List Nat):=[(0,[0]),(1,[3,4]),(2,[3,14]),(3,[2]),(4,[5]),(5,[2])]
def kSqrt_at (n:Int) (Q:AV -> Heap -> Prop):Prop:=Wp M1 (.run fi33 (atC (cd Try.f33) []) [(0,.int .i64 n)] []) Q
def kSpR_at (fl:Bool) (l:List Pt) (a:Int) (Q:AV -> Heap -> Prop):Prop:=Wp M1 (.run fi10 (atC (cd Try.f10) []) [(0,.vec fl 3 (l.map Pt.a)),(1,.int .i64 a)] []) Q
def kSpRA_at (fl:Bool) (l:List Pt) (a i:Int) (o:List Int) (Q:AV -> Heap -> Prop):Prop:=Wp M1 (.run fi10 (atC (cd Try.f10) [1,1,1,0,1,0,0]) [(0,.vec fl 3 (l.map Pt.a)),(1,.int .i64 a),(7,.row 0 0),(8,.int .i64 i)] [⟨o.map (.int .i64),1,0,false,true⟩]) Q
def kSpRB_at (fl:Bool) (l:List Pt) (a:Int) (o:List Int) (b:Bool) (Q:AV -> Heap -> Prop):Prop:=Wp M1 (.run fi10 (atC (cd Try.f10) [1,1,1,1,0,1,0,0]) [(0,.vec fl 3 (l.map Pt.a)),(1,.int .i64 a),(7,.row 0 0),(9,.bool b)] [⟨o.map (.int .i64),1,0,false,true⟩]) Q
def kSpRC_at (fl:Bool) (l:List Pt) (a:Int) (o:List Int) (b:Bool) (i:Int) (Q:AV -> Heap -> Prop):Prop:=Wp M1 (.run fi10 (atC (cd Try.f10) [1,1,1,1,0,1,0,0,1,0,1,1,0,0]) [(0,.vec fl 3 (l.map Pt.a)),(1,.int .i64 a),(7,.row 0 0),(9,.bool b),(10,.int .i64 i)] [⟨o.map (.int .i64),1,0,false,true⟩]) Q
def kOf_at (fl:Bool) (l:List Pt) (Q:AV -> Heap -> Prop):Prop:=Wp M1 (.run fi9 (atC (cd Try.f9) []) [(0,.vec fl 3 (l.map Pt.a))] []) Q
def kOfN_at (fl:Bool) (l:List Pt) (n i:Int) (Q:AV -> Heap -> Prop):Prop:=Wp M1 (.run fi9 (atC (cd Try.f9) [1,1,0,1,0,0]) [(3,.vnil),(6,.vec fl 3 (l.map Pt.a)),(7,.int .i64 n),(8,.int .i64 i)] []) Q
def kOfH_at (fl:Bool) (l o:List Pt) (f:Bool) (v:Nat) (n i:Int) (Q:AV -> Heap -> Prop):Prop:=Wp M1 (.run fi9 (atC (cd Try.f9) [1,1,0,1,0,0]) [(3,.row 0 v),(6,.vec fl 3 (l.map Pt.a)),(7,.int .i64 n),(8,.int .i64 i)] [⟨o.map Pt.a,3,v,f,true⟩]) Q
def kEq_at (f g:Bool) (s t:List Int) (Q:AV -> Heap -> Prop):Prop:=Wp M1 (.run fi13 (atC (cd Try.f13) []) [(0,.vec f 1 (s.map (.int .i64))),(1,.vec g 1 (t.map (.int .i64)))] []) Q
def kEqH_at (f g:Bool) (s t:List Int) (n i:Int) (Q:AV -> Heap -> Prop):Prop:=Wp M1 (.run fi13 (atC (cd Try.f13) [1,1,0,1,0,0]) [(0,.vec f 1 (s.map (.int .i64))),(1,.vec g 1 (t.map (.int .i64))),(12,.int .i64 n),(13,.int .i64 i)] []) Q
theorem call9 {args:List AV} {d:AV} (h:wc M1 fi9 Try.f9 args d):Ev M1 (.pure 9 args) d []:=pcl _ _ (by kernel_rfl) h
theorem call10 {args:List AV} {d:AV} (h:wc M1 fi10 Try.f10 args d):Ev M1 (.pure 10 args) d []:=pcl _ _ (by kernel_rfl) h
theorem call13 {args:List AV} {d:AV} (h:wc M1 fi13 Try.f13 args d):Ev M1 (.pure 13 args) d []:=pcl _ _ (by kernel_rfl) h
theorem call33 {args:List AV} {d:AV} (h:wc M1 fi33 Try.f33 args d):Ev M1 (.pure 33 args) d []:=pcl _ _ (by kernel_rfl) h
theorem kSqrt (n:Int)  (dq:AV) (H :
  (Sp.inI n) /\
  (Sp.okS n) /\
  ((¬Sp.sqe n = 0) -> vi 0 = dq) /\
  (¬(¬Sp.sqe n = 0) -> (Sp.inN (Sp.sq n)) /\
   vi (Sp.sq n) = dq)) :
 kSqrt_at n (PureQ dq):=by
 unfold kSqrt_at
 obtain ⟨k1,H⟩:=H
 obtain ⟨k2,H⟩:=H
 refine path_wp (G:=given kp33 [(1,1,.call (bigA false n) none),(1,2,.call (tu [bigA false (Sp.sq n),vi (Sp.sqe n)]) none)] []) 7 [] ⟨(atC (cd Try.f33) [1,1,0,1]),[(3,AV.ptr 0 0 0 0),(14,vb (Sp.sqe n != 0))],[⟨[bigA false (Sp.sq n)],2,0,false,false⟩],_,[],_⟩ (by kernel_rfl) (bc rfl b0) q0 (ce (@ev51 (n) k1) (ce (@ev50 (false) (n) k2) c0)) ?_
 rcases xm (¬Sp.sqe n = 0) with d4 | d4
 ·have H:=H.1 d4
  exact path_re (G:=given kp33 [] []) 1000 [true] (vi 0) (by kernel_rfl) (bc (beq_t (i_ne.2 d4)) b0) q0 c0 H
 ·have H:=H.2 d4
  obtain ⟨k5,H⟩:=H
  exact path_re (G:=given kp33 [(4,1,.call (tu [vi (Sp.sq n),vb true]) none)] []) 1000 [false] (vi (Sp.sq n)) (by kernel_rfl) (bc (beq_f (fun h => d4 (i_ne.1 h))) (bc rfl b0)) q0 (ce (@ev52 (false) (Sp.sq n) k5) c0) H
theorem kSpR (fl:Bool) (l:List Pt) (a:Int)  (dq:AV) (H :
  ((¬Sp.validE l a = 0) -> Weak (tu [AV.vnil,vi (Sp.validE l a)]) dq) /\
  (¬(¬Sp.validE l a = 0) -> (-9223372036854775808 <= (↑l.length:Int) + 1 /\ (↑l.length:Int) + 1 <= 9223372036854775807) /\
   (0 <= (↑l.length:Int) + 1) /\
   (((↑l.length:Int) + 1) * 8 <= 1099511627776) /\
   ((↑l.length:Int) + 1 <= 1099511627776) /\
   kSpRA_at (fl) (l) (a) (1) (List.replicate ((↑l.length:Int) + 1).toNat (0:Int)) (PureQ dq))) :
 kSpR_at fl l a (PureQ dq):=by
 unfold kSpR_at
 refine path_wp (G:=given kp10 [(1,2,.call (vi (Sp.validE l a)) none)] []) 7 [] ⟨(atC (cd Try.f10) [1,0,1,1]),[(0,AV.vec fl 3 (List.map Pt.a l)),(1,vi a),(6,vi (Sp.validE l a)),(17,vb (Sp.validE l a != 0))],[],_,[],_⟩ (by kernel_rfl) b0 q0 (ce (@ev12 (fl) (l) (a)) c0) ?_
 rcases xm (¬Sp.validE l a = 0) with d2 | d2
 ·have H:=H.1 d2
  exact path_rq (G:=given kp10 [] []) 1000 [true] (tu [AV.vnil,vi (Sp.validE l a)]) (by kernel_rfl) (bc (beq_t (i_ne.2 d2)) b0) q0 c0 H
 ·have H:=H.2 d2
  have w3:(List.map Pt.a l).length = l.length:=List.length_map ..
  obtain ⟨k4,H⟩:=H
  have w5:wi ((↑l.length:Int) + 1) = (↑l.length:Int) + 1:=wI64 k4
  have i6:(decide (0 <= wi ((↑(List.map Pt.a l).length:Int) + 1))) = true ↔ (0 <= (↑l.length:Int) + 1):=(by (try rw [w3]);(try rw [w5]);all_goals exact i_dec)
  obtain ⟨k7,H⟩:=H
  have i8:(decide (wi ((↑(List.map Pt.a l).length:Int) + 1) <= wi ((↑(List.map Pt.a l).length:Int) + 1))) = true ↔ ((↑l.length:Int) + 1 <= (↑l.length:Int) + 1):=(by (try rw [w3]);(try rw [w5]);all_goals exact i_dec)
  have i9:(decide (wi ((↑(List.map Pt.a l).length:Int) + 1) * 8 <= 1099511627776)) = true ↔ (((↑l.length:Int) + 1) * 8 <= 1099511627776):=(by (try rw [w3]);(try rw [w5]);all_goals exact i_dec)
  obtain ⟨k10,H⟩:=H
  have i11:(decide (wi ((↑(List.map Pt.a l).length:Int) + 1) <= 1099511627776)) = true ↔ ((↑l.length:Int) + 1 <= 1099511627776):=(by (try rw [w3]);(try rw [w5]);all_goals exact i_dec)
  obtain ⟨k12,H⟩:=H
  have w13:List.replicate ((↑l.length:Int) + 1).toNat (vi 0) = List.map (vi) (List.replicate ((↑l.length:Int) + 1).toNat (0:Int)):=(lm_rep rfl)
  exact path_wp (G:=given kp10 [] []) 1000 [false] ⟨(atC (cd Try.f10) [1,1,1,0,1,0,0]),[(0,AV.vec fl 3 (List.map Pt.a l)),(1,vi a),(7,AV.row 0 0),(8,vi 1)],[⟨List.replicate (wi ((↑(List.map Pt.a l).length:Int) + 1)).toNat (vi 0),1,0,false,true⟩],[(Sp.validE l a != 0) == false,decide (0 <= wi ((↑(List.map Pt.a l).length:Int) + 1)),decide (wi ((↑(List.map Pt.a l).length:Int) + 1) <= wi ((↑(List.map Pt.a l).length:Int) + 1)),decide (wi ((↑(List.map Pt.a l).length:Int) + 1) * 8 <= 1099511627776),decide (wi ((↑(List.map Pt.a l).length:Int) + 1) <= 1099511627776)],[],_⟩ (by kernel_rfl) (bc (beq_f (fun h => d2 (i_ne.1 h))) (bc (i6.2 k7) (bc (i8.2 (by omega)) (bc (i9.2 k10) (bc (i11.2 k12) b0))))) q0 c0 (by (try rw [w3]);(try rw [w5]);(try rw [w13]);all_goals exact H)
noncomputable abbrev zNzC1 (l:List Pt) (i:Int):=ag [vi (l.getD (i - 1).toNat default).len,vi (l.getD (i - 1).toNat default).spd,vi (l.getD (i - 1).toNat default).cor]
noncomputable abbrev zNzC2 (l:List Pt) (i:Int):=ag [vi (l.getD i.toNat default).len,vi (l.getD i.toNat default).spd,vi (l.getD i.toNat default).cor]
theorem kSpRA (fl:Bool) (l:List Pt) (a i:Int) (o:List Int)  (dq:AV) (H :
  ((i < (↑l.length:Int)) -> (-9223372036854775808 <= i - 1 /\ i - 1 <= 9223372036854775807) /\
   (0 <= i - 1) /\
   ((i - 1).toNat < l.length) /\
   (0 <= i) /\
   (i.toNat < l.length) /\
   (i.toNat < o.length) /\
   (-9223372036854775808 <= i + 1 /\ i + 1 <= 9223372036854775807) /\
   kSpRA_at (fl) (l) (a) (i + 1) (o.set i.toNat (if (l.getD i.toNat default).spd < if (l.getD (i - 1).toNat default).spd < (l.getD (i - 1).toNat default).cor then (l.getD (i - 1).toNat default).spd else (l.getD (i - 1).toNat default).cor then (l.getD i.toNat default).spd else if (l.getD (i - 1).toNat default).spd < (l.getD (i - 1).toNat default).cor then (l.getD (i - 1).toNat default).spd else (l.getD (i - 1).toNat default).cor)) (PureQ dq)) /\
  (¬(i < (↑l.length:Int)) -> kSpRB_at (fl) (l) (a) (o) (true) (PureQ dq))) :
 kSpRA_at fl l a i o (PureQ dq):=by
 unfold kSpRA_at
 have w1:(List.map Pt.a l).length = l.length:=List.length_map ..
 have i2:(decide (i < (↑(List.map Pt.a l).length:Int))) = true ↔ (i < (↑l.length:Int)):=(by (try rw [w1]);all_goals exact i_dec)
 rcases xm (i < (↑l.length:Int)) with d3 | d3
 ·have H:=H.1 d3
  obtain ⟨k4,H⟩:=H
  have w5:wi (i - 1) = i - 1:=wI64 k4
  have i6:(decide (0 <= wi (i - 1))) = true ↔ (0 <= i - 1):=(by (try rw [w5]);all_goals exact i_dec)
  obtain ⟨k7,H⟩:=H
  have i8:(decide ((wi (i - 1)).toNat < (List.map Pt.a l).length)) = true ↔ ((i - 1).toNat < l.length):=(by (try rw [w1]);(try rw [w5]);all_goals exact i_dec)
  obtain ⟨k9,H⟩:=H
  have i10:(decide (0 <= wi (i - 1))) = true ↔ (0 <= i - 1):=(by (try rw [w5]);all_goals exact i_dec)
  have i11:(decide ((wi (i - 1)).toNat < (List.map Pt.a l).length)) = true ↔ ((i - 1).toNat < l.length):=(by (try rw [w1]);(try rw [w5]);all_goals exact i_dec)
  obtain ⟨k13,H⟩:=H
  have i14:(decide (i.toNat < (List.map Pt.a l).length)) = true ↔ (i.toNat < l.length):=(by (try rw [w1]);all_goals exact i_dec)
  obtain ⟨k15,H⟩:=H
  have w17:(List.map (vi) o).length = o.length:=List.length_map ..
  have i18:(decide (i.toNat < (List.map (vi) o).length)) = true ↔ (i.toNat < o.length):=(by (try rw [w17]);all_goals exact i_dec)
  obtain ⟨k19,H⟩:=H
  have w20:(List.map (vi) o).set i.toNat (vi (if (l.getD i.toNat default).spd < if (l.getD (i - 1).toNat default).spd < (l.getD (i - 1).toNat default).cor then (l.getD (i - 1).toNat default).spd else (l.getD (i - 1).toNat default).cor then (l.getD i.toNat default).spd else if (l.getD (i - 1).toNat default).spd < (l.getD (i - 1).toNat default).cor then (l.getD (i - 1).toNat default).spd else (l.getD (i - 1).toNat default).cor)) = List.map (vi) (o.set i.toNat (if (l.getD i.toNat default).spd < if (l.getD (i - 1).toNat default).spd < (l.getD (i - 1).toNat default).cor then (l.getD (i - 1).toNat default).spd else (l.getD (i - 1).toNat default).cor then (l.getD i.toNat default).spd else if (l.getD (i - 1).toNat default).spd < (l.getD (i - 1).toNat default).cor then (l.getD (i - 1).toNat default).spd else (l.getD (i - 1).toNat default).cor)):=(lm_set rfl rfl)
  obtain ⟨k21,H⟩:=H
  have w22:wi (i + 1) = i + 1:=wI64 k21
  exact path_wp (G:=given kp10 [(8,7,.elem (zNzC1 l i)),(8,13,.elem (zNzC1 l i)),(8,18,.elem (zNzC2 l i)),(8,21,.elem (vi (o.getD i.toNat default)))] []) 1000 [true] ⟨(atC (cd Try.f10) [1,1,1,0,1,0,0]),[(0,AV.vec fl 3 (List.map Pt.a l)),(1,vi a),(7,AV.row 0 0),(8,vi (wi (i + 1)))],[⟨(List.map (vi) o).set i.toNat (vi (if (l.getD i.toNat default).spd < if (l.getD (i - 1).toNat default).spd < (l.getD (i - 1).toNat default).cor then (l.getD (i - 1).toNat default).spd else (l.getD (i - 1).toNat default).cor then (l.getD i.toNat default).spd else if (l.getD (i - 1).toNat default).spd < (l.getD (i - 1).toNat default).cor then (l.getD (i - 1).toNat default).spd else (l.getD (i - 1).toNat default).cor)),1,0,false,true⟩],_,[((List.map Pt.a l).get?Internal (wi (i - 1)).toNat = some (zNzC1 l i)),((List.map Pt.a l).get?Internal (wi (i - 1)).toNat = some (zNzC1 l i)),((List.map Pt.a l).get?Internal i.toNat = some (zNzC2 l i)),((List.map (vi) o).get?Internal i.toNat = some (vi (o.getD i.toNat default)))],_⟩ (by kernel_rfl) (bc (beq_t (i2.2 d3)) (bc (i6.2 k7) (bc (i8.2 k9) (bc (i10.2 k7) (bc (i11.2 k9) (bc (i_dec.2 k13) (bc (i14.2 k15) (bc rfl (bc (i_dec.2 k13) (bc (i18.2 k19) (bc rfl b0))))))))))) (qc (by (try rw [w5]);all_goals exact (el_map k9)) (qc (by (try rw [w5]);all_goals exact (el_map k9)) (qc (el_map k15) (qc (el_map k19) q0)))) c0 (by (try rw [w20]);(try rw [w22]);all_goals exact H)
 ·have H:=H.2 d3
  exact path_wp (G:=given kp10 [] []) 1000 [false] ⟨(atC (cd Try.f10) [1,1,1,1,0,1,0,0]),[(0,AV.vec fl 3 (List.map Pt.a l)),(1,vi a),(7,AV.row 0 0),(9,vb true)],[⟨List.map (vi) o,1,0,false,true⟩],_,[],_⟩ (by kernel_rfl) (bc (beq_f (fun h => d3 (i2.1 h))) b0) q0 c0 (H)
theorem kSpRB (fl:Bool) (l:List Pt) (a:Int) (o:List Int) (b:Bool)  (dq:AV) (H :
  ((b = true) -> kSpRC_at (fl) (l) (a) (o) (false) (0) (PureQ dq)) /\
  (¬(b = true) -> Weak (tu [vf (List.map (vi) o),vi 0]) dq)) :
 kSpRB_at fl l a o b (PureQ dq):=by
 unfold kSpRB_at
 rcases xm (b = true) with d2 | d2
 ·have H:=H.1 d2
  exact path_wp (G:=given kp10 [] []) 1000 [true] ⟨(atC (cd Try.f10) [1,1,1,1,0,1,0,0,1,0,1,1,0,0]),[(0,AV.vec fl 3 (List.map Pt.a l)),(1,vi a),(7,AV.row 0 0),(9,vb false),(10,vi 0)],[⟨List.map (vi) o,1,0,false,true⟩],[(b) == true],[],_⟩ (by kernel_rfl) (bc (beq_t ((i_var _).2 d2)) b0) q0 c0 (H)
 ·have H:=H.2 d2
  exact path_ret (G:=given kp10 [] []) 1000 [false] (k:=((atC (cd Try.f10) [1,1,1,1,1,1])).tail) (env':=[(4,AV.row 0 0),(5,vi 0)]) (L':=[⟨List.map (vi) o,1,0,false,true⟩]) (asm:=[(b) == false]) (eqs:=[]) (calls:=[]) (tu [AV.row 0 0,vi 0]) (by kernel_rfl) (by kernel_rfl) (allB_cons (beq_f (fun h => d2 ((i_var _).1 h))) allB_nil) allP_nil allC_nil (pq_weak (d:=(tu [vf (List.map (vi) o),vi 0])) (bs:=[0 == 0]) (by kernel_rfl) (by kernel_rfl) (allB_cons (beq_self_eq_true _) allB_nil) (by kernel_rfl) H)
noncomputable abbrev zNzC3 (b:Bool) (o:List Int) (i:Int) (a:Int) (l:List Pt):=bif b then true else ((o.set (i + 1).toNat (if Sp.af (2 * a * (l.getD i.toNat default).len) (o.getD i.toNat default) < o.getD (i + 1).toNat default then Sp.af (2 * a * (l.getD i.toNat default).len) (o.getD i.toNat default) else o.getD (i + 1).toNat default)).set i.toNat (if Sp.af (2 * a * (l.getD i.toNat default).len) ((o.set (i + 1).toNat (if Sp.af (2 * a * (l.getD i.toNat default).len) (o.getD i.toNat default) < o.getD (i + 1).toNat default then Sp.af (2 * a * (l.getD i.toNat default).len) (o.getD i.toNat default) else o.getD (i + 1).toNat default)).getD (i + 1).toNat default) < o.getD i.toNat default then Sp.af (2 * a * (l.getD i.toNat default).len) ((o.set (i + 1).toNat (if Sp.af (2 * a * (l.getD i.toNat default).len) (o.getD i.toNat default) < o.getD (i + 1).toNat default then Sp.af (2 * a * (l.getD i.toNat default).len) (o.getD i.toNat default) else o.getD (i + 1).toNat default)).getD (i + 1).toNat default) else o.getD i.toNat default)).getD i.toNat default != o.getD i.toNat default
noncomputable abbrev zNzC4 (o:List Int) (i:Int) (a:Int) (l:List Pt):=vi (((o.set (i + 1).toNat (if Sp.af (2 * a * (l.getD i.toNat default).len) (o.getD i.toNat default) < o.getD (i + 1).toNat default then Sp.af (2 * a * (l.getD i.toNat default).len) (o.getD i.toNat default) else o.getD (i + 1).toNat default)).set i.toNat (if Sp.af (2 * a * (l.getD i.toNat default).len) ((o.set (i + 1).toNat (if Sp.af (2 * a * (l.getD i.toNat default).len) (o.getD i.toNat default) < o.getD (i + 1).toNat default then Sp.af (2 * a * (l.getD i.toNat default).len) (o.getD i.toNat default) else o.getD (i + 1).toNat default)).getD (i + 1).toNat default) < o.getD i.toNat default then Sp.af (2 * a * (l.getD i.toNat default).len) ((o.set (i + 1).toNat (if Sp.af (2 * a * (l.getD i.toNat default).len) (o.getD i.toNat default) < o.getD (i + 1).toNat default then Sp.af (2 * a * (l.getD i.toNat default).len) (o.getD i.toNat default) else o.getD (i + 1).toNat default)).getD (i + 1).toNat default) else o.getD i.toNat default)).getD (i + 1).toNat default)
noncomputable abbrev zNzC5 (o:List Int) (i:Int) (a:Int) (l:List Pt):=vi (((o.set (i + 1).toNat (if Sp.af (2 * a * (l.getD i.toNat default).len) (o.getD i.toNat default) < o.getD (i + 1).toNat default then Sp.af (2 * a * (l.getD i.toNat default).len) (o.getD i.toNat default) else o.getD (i + 1).toNat default)).set i.toNat (if Sp.af (2 * a * (l.getD i.toNat default).len) ((o.set (i + 1).toNat (if Sp.af (2 * a * (l.getD i.toNat default).len) (o.getD i.toNat default) < o.getD (i + 1).toNat default then Sp.af (2 * a * (l.getD i.toNat default).len) (o.getD i.toNat default) else o.getD (i + 1).toNat default)).getD (i + 1).toNat default) < o.getD i.toNat default then Sp.af (2 * a * (l.getD i.toNat default).len) ((o.set (i + 1).toNat (if Sp.af (2 * a * (l.getD i.toNat default).len) (o.getD i.toNat default) < o.getD (i + 1).toNat default then Sp.af (2 * a * (l.getD i.toNat default).len) (o.getD i.toNat default) else o.getD (i + 1).toNat default)).getD (i + 1).toNat default) else o.getD i.toNat default)).getD i.toNat default)
noncomputable abbrev zNzC6 (l:List Pt) (i:Int):=ag [vi (l.getD i.toNat default).len,vi (l.getD i.toNat default).spd,vi (l.getD i.toNat default).cor]
noncomputable abbrev zNzC7 (o:List Int) (i:Int) (a:Int) (l:List Pt):=vi ((o.set (i + 1).toNat (if Sp.af (2 * a * (l.getD i.toNat default).len) (o.getD i.toNat default) < o.getD (i + 1).toNat default then Sp.af (2 * a * (l.getD i.toNat default).len) (o.getD i.toNat default) else o.getD (i + 1).toNat default)).getD (i + 1).toNat default)
noncomputable abbrev zNzC8 (o:List Int) (i:Int) (a:Int) (l:List Pt):=vi ((o.set (i + 1).toNat (if Sp.af (2 * a * (l.getD i.toNat default).len) (o.getD i.toNat default) < o.getD (i + 1).toNat default then Sp.af (2 * a * (l.getD i.toNat default).len) (o.getD i.toNat default) else o.getD (i + 1).toNat default)).getD i.toNat default)
noncomputable abbrev zNzC9 (o:List Int) (i:Int):=vi (o.getD (i + 1).toNat default)
theorem kSpRC (fl:Bool) (l:List Pt) (a:Int) (o:List Int) (b:Bool) (i:Int)  (dq:AV) (H :
  ((i < (↑l.length:Int)) -> (-9223372036854775808 <= i + 1 /\ i + 1 <= 9223372036854775807) /\
   (0 <= i) /\
   (i.toNat < o.length) /\
   (0 <= i + 1) /\
   ((i + 1).toNat < o.length) /\
   (Sp.isV (o.getD i.toNat default) /\ Sp.isLen (l.getD i.toNat default).len /\ Sp.isAcc a) /\
   (i.toNat < l.length) /\
   (Sp.isV ((o.set (i + 1).toNat (if Sp.af (2 * a * (l.getD i.toNat default).len) (o.getD i.toNat default) < o.getD (i + 1).toNat default then Sp.af (2 * a * (l.getD i.toNat default).len) (o.getD i.toNat default) else o.getD (i + 1).toNat default)).getD (i + 1).toNat default) /\ Sp.isLen (l.getD i.toNat default).len /\ Sp.isAcc a) /\
   ((i + 1).toNat < (o.set (i + 1).toNat (if Sp.af (2 * a * (l.getD i.toNat default).len) (o.getD i.toNat default) < o.getD (i + 1).toNat default then Sp.af (2 * a * (l.getD i.toNat default).len) (o.getD i.toNat default) else o.getD (i + 1).toNat default)).length) /\
   (i.toNat < (o.set (i + 1).toNat (if Sp.af (2 * a * (l.getD i.toNat default).len) (o.getD i.toNat default) < o.getD (i + 1).toNat default then Sp.af (2 * a * (l.getD i.toNat default).len) (o.getD i.toNat default) else o.getD (i + 1).toNat default)).length) /\
   ((¬(b = true)) -> (i.toNat < ((o.set (i + 1).toNat (if Sp.af (2 * a * (l.getD i.toNat default).len) (o.getD i.toNat default) < o.getD (i + 1).toNat default then Sp.af (2 * a * (l.getD i.toNat default).len) (o.getD i.toNat default) else o.getD (i + 1).toNat default)).set i.toNat (if Sp.af (2 * a * (l.getD i.toNat default).len) ((o.set (i + 1).toNat (if Sp.af (2 * a * (l.getD i.toNat default).len) (o.getD i.toNat default) < o.getD (i + 1).toNat default then Sp.af (2 * a * (l.getD i.toNat default).len) (o.getD i.toNat default) else o.getD (i + 1).toNat default)).getD (i + 1).toNat default) < o.getD i.toNat default then Sp.af (2 * a * (l.getD i.toNat default).len) ((o.set (i + 1).toNat (if Sp.af (2 * a * (l.getD i.toNat default).len) (o.getD i.toNat default) < o.getD (i + 1).toNat default then Sp.af (2 * a * (l.getD i.toNat default).len) (o.getD i.toNat default) else o.getD (i + 1).toNat default)).getD (i + 1).toNat default) else o.getD i.toNat default)).length)) /\
   ((¬((b = true) \/ (¬((o.set (i + 1).toNat (if Sp.af (2 * a * (l.getD i.toNat default).len) (o.getD i.toNat default) < o.getD (i + 1).toNat default then Sp.af (2 * a * (l.getD i.toNat default).len) (o.getD i.toNat default) else o.getD (i + 1).toNat default)).set i.toNat (if Sp.af (2 * a * (l.getD i.toNat default).len) ((o.set (i + 1).toNat (if Sp.af (2 * a * (l.getD i.toNat default).len) (o.getD i.toNat default) < o.getD (i + 1).toNat default then Sp.af (2 * a * (l.getD i.toNat default).len) (o.getD i.toNat default) else o.getD (i + 1).toNat default)).getD (i + 1).toNat default) < o.getD i.toNat default then Sp.af (2 * a * (l.getD i.toNat default).len) ((o.set (i + 1).toNat (if Sp.af (2 * a * (l.getD i.toNat default).len) (o.getD i.toNat default) < o.getD (i + 1).toNat default then Sp.af (2 * a * (l.getD i.toNat default).len) (o.getD i.toNat default) else o.getD (i + 1).toNat default)).getD (i + 1).toNat default) else o.getD i.toNat default)).getD i.toNat default = o.getD i.toNat default))) -> ((i + 1).toNat < ((o.set (i + 1).toNat (if Sp.af (2 * a * (l.getD i.toNat default).len) (o.getD i.toNat default) < o.getD (i + 1).toNat default then Sp.af (2 * a * (l.getD i.toNat default).len) (o.getD i.toNat default) else o.getD (i + 1).toNat default)).set i.toNat (if Sp.af (2 * a * (l.getD i.toNat default).len) ((o.set (i + 1).toNat (if Sp.af (2 * a * (l.getD i.toNat default).len) (o.getD i.toNat default) < o.getD (i + 1).toNat default then Sp.af (2 * a * (l.getD i.toNat default).len) (o.getD i.toNat default) else o.getD (i + 1).toNat default)).getD (i + 1).toNat default) < o.getD i.toNat default then Sp.af (2 * a * (l.getD i.toNat default).len) ((o.set (i + 1).toNat (if Sp.af (2 * a * (l.getD i.toNat default).len) (o.getD i.toNat default) < o.getD (i + 1).toNat default then Sp.af (2 * a * (l.getD i.toNat default).len) (o.getD i.toNat default) else o.getD (i + 1).toNat default)).getD (i + 1).toNat default) else o.getD i.toNat default)).length)) /\
   kSpRC_at (fl) (l) (a) ((o.set (i + 1).toNat (if Sp.af (2 * a * (l.getD i.toNat default).len) (o.getD i.toNat default) < o.getD (i + 1).toNat default then Sp.af (2 * a * (l.getD i.toNat default).len) (o.getD i.toNat default) else o.getD (i + 1).toNat default)).set i.toNat (if Sp.af (2 * a * (l.getD i.toNat default).len) ((o.set (i + 1).toNat (if Sp.af (2 * a * (l.getD i.toNat default).len) (o.getD i.toNat default) < o.getD (i + 1).toNat default then Sp.af (2 * a * (l.getD i.toNat default).len) (o.getD i.toNat default) else o.getD (i + 1).toNat default)).getD (i + 1).toNat default) < o.getD i.toNat default then Sp.af (2 * a * (l.getD i.toNat default).len) ((o.set (i + 1).toNat (if Sp.af (2 * a * (l.getD i.toNat default).len) (o.getD i.toNat default) < o.getD (i + 1).toNat default then Sp.af (2 * a * (l.getD i.toNat default).len) (o.getD i.toNat default) else o.getD (i + 1).toNat default)).getD (i + 1).toNat default) else o.getD i.toNat default)) (bif bif b then true else ((o.set (i + 1).toNat (if Sp.af (2 * a * (l.getD i.toNat default).len) (o.getD i.toNat default) < o.getD (i + 1).toNat default then Sp.af (2 * a * (l.getD i.toNat default).len) (o.getD i.toNat default) else o.getD (i + 1).toNat default)).set i.toNat (if Sp.af (2 * a * (l.getD i.toNat default).len) ((o.set (i + 1).toNat (if Sp.af (2 * a * (l.getD i.toNat default).len) (o.getD i.toNat default) < o.getD (i + 1).toNat default then Sp.af (2 * a * (l.getD i.toNat default).len) (o.getD i.toNat default) else o.getD (i + 1).toNat default)).getD (i + 1).toNat default) < o.getD i.toNat default then Sp.af (2 * a * (l.getD i.toNat default).len) ((o.set (i + 1).toNat (if Sp.af (2 * a * (l.getD i.toNat default).len) (o.getD i.toNat default) < o.getD (i + 1).toNat default then Sp.af (2 * a * (l.getD i.toNat default).len) (o.getD i.toNat default) else o.getD (i + 1).toNat default)).getD (i + 1).toNat default) else o.getD i.toNat default)).getD i.toNat default != o.getD i.toNat default then true else ((o.set (i + 1).toNat (if Sp.af (2 * a * (l.getD i.toNat default).len) (o.getD i.toNat default) < o.getD (i + 1).toNat default then Sp.af (2 * a * (l.getD i.toNat default).len) (o.getD i.toNat default) else o.getD (i + 1).toNat default)).set i.toNat (if Sp.af (2 * a * (l.getD i.toNat default).len) ((o.set (i + 1).toNat (if Sp.af (2 * a * (l.getD i.toNat default).len) (o.getD i.toNat default) < o.getD (i + 1).toNat default then Sp.af (2 * a * (l.getD i.toNat default).len) (o.getD i.toNat default) else o.getD (i + 1).toNat default)).getD (i + 1).toNat default) < o.getD i.toNat default then Sp.af (2 * a * (l.getD i.toNat default).len) ((o.set (i + 1).toNat (if Sp.af (2 * a * (l.getD i.toNat default).len) (o.getD i.toNat default) < o.getD (i + 1).toNat default then Sp.af (2 * a * (l.getD i.toNat default).len) (o.getD i.toNat default) else o.getD (i + 1).toNat default)).getD (i + 1).toNat default) else o.getD i.toNat default)).getD (i + 1).toNat default != o.getD (i + 1).toNat default) (i + 1) (PureQ dq)) /\
  (¬(i < (↑l.length:Int)) -> kSpRB_at (fl) (l) (a) (o) (b) (PureQ dq))) :
 kSpRC_at fl l a o b i (PureQ dq):=by
 unfold kSpRC_at
 have w1:(List.map Pt.a l).length = l.length:=List.length_map ..
 have i2:(decide (i < (↑(List.map Pt.a l).length:Int))) = true ↔ (i < (↑l.length:Int)):=(by (try rw [w1]);all_goals exact i_dec)
 rcases xm (i < (↑l.length:Int)) with d3 | d3
 ·have H:=H.1 d3
  obtain ⟨k4,H⟩:=H
  have w5:wi (i + 1) = i + 1:=wI64 k4
  obtain ⟨k7,H⟩:=H
  have w8:(List.map (vi) o).length = o.length:=List.length_map ..
  have i9:(decide (i.toNat < (List.map (vi) o).length)) = true ↔ (i.toNat < o.length):=(by (try rw [w8]);all_goals exact i_dec)
  obtain ⟨k10,H⟩:=H
  have i11:(decide (0 <= wi (i + 1))) = true ↔ (0 <= i + 1):=(by (try rw [w5]);all_goals exact i_dec)
  obtain ⟨k12,H⟩:=H
  have i13:(decide ((wi (i + 1)).toNat < (List.map (vi) o).length)) = true ↔ ((i + 1).toNat < o.length):=(by (try rw [w5]);(try rw [w8]);all_goals exact i_dec)
  obtain ⟨k14,H⟩:=H
  obtain ⟨k15,H⟩:=H
  have i17:(decide (i.toNat < (List.map Pt.a l).length)) = true ↔ (i.toNat < l.length):=(by (try rw [w1]);all_goals exact i_dec)
  obtain ⟨k18,H⟩:=H
  have i19:(decide (0 <= wi (i + 1))) = true ↔ (0 <= i + 1):=(by (try rw [w5]);all_goals exact i_dec)
  have i20:(decide ((wi (i + 1)).toNat < (List.map (vi) o).length)) = true ↔ ((i + 1).toNat < o.length):=(by (try rw [w5]);(try rw [w8]);all_goals exact i_dec)
  have w21:(List.map (vi) o).set (i + 1).toNat (vi (if Sp.af (2 * a * (l.getD i.toNat default).len) (o.getD i.toNat default) < o.getD (i + 1).toNat default then Sp.af (2 * a * (l.getD i.toNat default).len) (o.getD i.toNat default) else o.getD (i + 1).toNat default)) = List.map (vi) (o.set (i + 1).toNat (if Sp.af (2 * a * (l.getD i.toNat default).len) (o.getD i.toNat default) < o.getD (i + 1).toNat default then Sp.af (2 * a * (l.getD i.toNat default).len) (o.getD i.toNat default) else o.getD (i + 1).toNat default)):=(lm_set rfl rfl)
  obtain ⟨k22,H⟩:=H
  have i23:(decide (0 <= wi (i + 1))) = true ↔ (0 <= i + 1):=(by (try rw [w5]);all_goals exact i_dec)
  have w24:(List.map (vi) (o.set (i + 1).toNat (if Sp.af (2 * a * (l.getD i.toNat default).len) (o.getD i.toNat default) < o.getD (i + 1).toNat default then Sp.af (2 * a * (l.getD i.toNat default).len) (o.getD i.toNat default) else o.getD (i + 1).toNat default))).length = (o.set (i + 1).toNat (if Sp.af (2 * a * (l.getD i.toNat default).len) (o.getD i.toNat default) < o.getD (i + 1).toNat default then Sp.af (2 * a * (l.getD i.toNat default).len) (o.getD i.toNat default) else o.getD (i + 1).toNat default)).length:=List.length_map ..
  have i25:(decide ((wi (i + 1)).toNat < ((List.map (vi) o).set (wi (i + 1)).toNat (vi (if Sp.af (2 * a * (l.getD i.toNat default).len) (o.getD i.toNat default) < o.getD (i + 1).toNat default then Sp.af (2 * a * (l.getD i.toNat default).len) (o.getD i.toNat default) else o.getD (i + 1).toNat default))).length)) = true ↔ ((i + 1).toNat < (o.set (i + 1).toNat (if Sp.af (2 * a * (l.getD i.toNat default).len) (o.getD i.toNat default) < o.getD (i + 1).toNat default then Sp.af (2 * a * (l.getD i.toNat default).len) (o.getD i.toNat default) else o.getD (i + 1).toNat default)).length):=(by (try rw [w5]);(try rw [w21]);(try rw [w24]);all_goals exact i_dec)
  obtain ⟨k26,H⟩:=H
  have i28:(decide (i.toNat < (List.map Pt.a l).length)) = true ↔ (i.toNat < l.length):=(by (try rw [w1]);all_goals exact i_dec)
  have i30:(decide (i.toNat < ((List.map (vi) o).set (wi (i + 1)).toNat (vi (if Sp.af (2 * a * (l.getD i.toNat default).len) (o.getD i.toNat default) < o.getD (i + 1).toNat default then Sp.af (2 * a * (l.getD i.toNat default).len) (o.getD i.toNat default) else o.getD (i + 1).toNat default))).length)) = true ↔ (i.toNat < (o.set (i + 1).toNat (if Sp.af (2 * a * (l.getD i.toNat default).len) (o.getD i.toNat default) < o.getD (i + 1).toNat default then Sp.af (2 * a * (l.getD i.toNat default).len) (o.getD i.toNat default) else o.getD (i + 1).toNat default)).length):=(by (try rw [w5]);(try rw [w21]);(try rw [w24]);all_goals exact i_dec)
  obtain ⟨k31,H⟩:=H
  have w32:(List.map (vi) (o.set (i + 1).toNat (if Sp.af (2 * a * (l.getD i.toNat default).len) (o.getD i.toNat default) < o.getD (i + 1).toNat default then Sp.af (2 * a * (l.getD i.toNat default).len) (o.getD i.toNat default) else o.getD (i + 1).toNat default))).set i.toNat (vi (if Sp.af (2 * a * (l.getD i.toNat default).len) ((o.set (i + 1).toNat (if Sp.af (2 * a * (l.getD i.toNat default).len) (o.getD i.toNat default) < o.getD (i + 1).toNat default then Sp.af (2 * a * (l.getD i.toNat default).len) (o.getD i.toNat default) else o.getD (i + 1).toNat default)).getD (i + 1).toNat default) < o.getD i.toNat default then Sp.af (2 * a * (l.getD i.toNat default).len) ((o.set (i + 1).toNat (if Sp.af (2 * a * (l.getD i.toNat default).len) (o.getD i.toNat default) < o.getD (i + 1).toNat default then Sp.af (2 * a * (l.getD i.toNat default).len) (o.getD i.toNat default) else o.getD (i + 1).toNat default)).getD (i + 1).toNat default) else o.getD i.toNat default)) = List.map (vi) ((o.set (i + 1).toNat (if Sp.af (2 * a * (l.getD i.toNat default).len) (o.getD i.toNat default) < o.getD (i + 1).toNat default then Sp.af (2 * a * (l.getD i.toNat default).len) (o.getD i.toNat default) else o.getD (i + 1).toNat default)).set i.toNat (if Sp.af (2 * a * (l.getD i.toNat default).len) ((o.set (i + 1).toNat (if Sp.af (2 * a * (l.getD i.toNat default).len) (o.getD i.toNat default) < o.getD (i + 1).toNat default then Sp.af (2 * a * (l.getD i.toNat default).len) (o.getD i.toNat default) else o.getD (i + 1).toNat default)).getD (i + 1).toNat default) < o.getD i.toNat default then Sp.af (2 * a * (l.getD i.toNat default).len) ((o.set (i + 1).toNat (if Sp.af (2 * a * (l.getD i.toNat default).len) (o.getD i.toNat default) < o.getD (i + 1).toNat default then Sp.af (2 * a * (l.getD i.toNat default).len) (o.getD i.toNat default) else o.getD (i + 1).toNat default)).getD (i + 1).toNat default) else o.getD i.toNat default)):=(lm_set rfl rfl)
  have w34:(List.map (vi) ((o.set (i + 1).toNat (if Sp.af (2 * a * (l.getD i.toNat default).len) (o.getD i.toNat default) < o.getD (i + 1).toNat default then Sp.af (2 * a * (l.getD i.toNat default).len) (o.getD i.toNat default) else o.getD (i + 1).toNat default)).set i.toNat (if Sp.af (2 * a * (l.getD i.toNat default).len) ((o.set (i + 1).toNat (if Sp.af (2 * a * (l.getD i.toNat default).len) (o.getD i.toNat default) < o.getD (i + 1).toNat default then Sp.af (2 * a * (l.getD i.toNat default).len) (o.getD i.toNat default) else o.getD (i + 1).toNat default)).getD (i + 1).toNat default) < o.getD i.toNat default then Sp.af (2 * a * (l.getD i.toNat default).len) ((o.set (i + 1).toNat (if Sp.af (2 * a * (l.getD i.toNat default).len) (o.getD i.toNat default) < o.getD (i + 1).toNat default then Sp.af (2 * a * (l.getD i.toNat default).len) (o.getD i.toNat default) else o.getD (i + 1).toNat default)).getD (i + 1).toNat default) else o.getD i.toNat default))).length = ((o.set (i + 1).toNat (if Sp.af (2 * a * (l.getD i.toNat default).len) (o.getD i.toNat default) < o.getD (i + 1).toNat default then Sp.af (2 * a * (l.getD i.toNat default).len) (o.getD i.toNat default) else o.getD (i + 1).toNat default)).set i.toNat (if Sp.af (2 * a * (l.getD i.toNat default).len) ((o.set (i + 1).toNat (if Sp.af (2 * a * (l.getD i.toNat default).len) (o.getD i.toNat default) < o.getD (i + 1).toNat default then Sp.af (2 * a * (l.getD i.toNat default).len) (o.getD i.toNat default) else o.getD (i + 1).toNat default)).getD (i + 1).toNat default) < o.getD i.toNat default then Sp.af (2 * a * (l.getD i.toNat default).len) ((o.set (i + 1).toNat (if Sp.af (2 * a * (l.getD i.toNat default).len) (o.getD i.toNat default) < o.getD (i + 1).toNat default then Sp.af (2 * a * (l.getD i.toNat default).len) (o.getD i.toNat default) else o.getD (i + 1).toNat default)).getD (i + 1).toNat default) else o.getD i.toNat default)).length:=List.length_map ..
  have i35:(!(b == false && true) || decide (i.toNat < (((List.map (vi) o).set (wi (i + 1)).toNat (vi (if Sp.af (2 * a * (l.getD i.toNat default).len) (o.getD i.toNat default) < o.getD (i + 1).toNat default then Sp.af (2 * a * (l.getD i.toNat default).len) (o.getD i.toNat default) else o.getD (i + 1).toNat default))).set i.toNat (vi (if Sp.af (2 * a * (l.getD i.toNat default).len) ((o.set (i + 1).toNat (if Sp.af (2 * a * (l.getD i.toNat default).len) (o.getD i.toNat default) < o.getD (i + 1).toNat default then Sp.af (2 * a * (l.getD i.toNat default).len) (o.getD i.toNat default) else o.getD (i + 1).toNat default)).getD (i + 1).toNat default) < o.getD i.toNat default then Sp.af (2 * a * (l.getD i.toNat default).len) ((o.set (i + 1).toNat (if Sp.af (2 * a * (l.getD i.toNat default).len) (o.getD i.toNat default) < o.getD (i + 1).toNat default then Sp.af (2 * a * (l.getD i.toNat default).len) (o.getD i.toNat default) else o.getD (i + 1).toNat default)).getD (i + 1).toNat default) else o.getD i.toNat default))).length)) = true ↔ ((¬(b = true)) -> (i.toNat < ((o.set (i + 1).toNat (if Sp.af (2 * a * (l.getD i.toNat default).len) (o.getD i.toNat default) < o.getD (i + 1).toNat default then Sp.af (2 * a * (l.getD i.toNat default).len) (o.getD i.toNat default) else o.getD (i + 1).toNat default)).set i.toNat (if Sp.af (2 * a * (l.getD i.toNat default).len) ((o.set (i + 1).toNat (if Sp.af (2 * a * (l.getD i.toNat default).len) (o.getD i.toNat default) < o.getD (i + 1).toNat default then Sp.af (2 * a * (l.getD i.toNat default).len) (o.getD i.toNat default) else o.getD (i + 1).toNat default)).getD (i + 1).toNat default) < o.getD i.toNat default then Sp.af (2 * a * (l.getD i.toNat default).len) ((o.set (i + 1).toNat (if Sp.af (2 * a * (l.getD i.toNat default).len) (o.getD i.toNat default) < o.getD (i + 1).toNat default then Sp.af (2 * a * (l.getD i.toNat default).len) (o.getD i.toNat default) else o.getD (i + 1).toNat default)).getD (i + 1).toNat default) else o.getD i.toNat default)).length)):=(by (try rw [w5]);(try rw [w21]);(try rw [w32]);(try rw [w34]);all_goals exact (i_imp (i_at (i_bf (i_var _))) i_dec))
  obtain ⟨k36,H⟩:=H
  have i37:(!((zNzC3 b o i a l) == false && true) || decide (0 <= wi (i + 1))) = true ↔ ((¬((b = true) \/ (¬((o.set (i + 1).toNat (if Sp.af (2 * a * (l.getD i.toNat default).len) (o.getD i.toNat default) < o.getD (i + 1).toNat default then Sp.af (2 * a * (l.getD i.toNat default).len) (o.getD i.toNat default) else o.getD (i + 1).toNat default)).set i.toNat (if Sp.af (2 * a * (l.getD i.toNat default).len) ((o.set (i + 1).toNat (if Sp.af (2 * a * (l.getD i.toNat default).len) (o.getD i.toNat default) < o.getD (i + 1).toNat default then Sp.af (2 * a * (l.getD i.toNat default).len) (o.getD i.toNat default) else o.getD (i + 1).toNat default)).getD (i + 1).toNat default) < o.getD i.toNat default then Sp.af (2 * a * (l.getD i.toNat default).len) ((o.set (i + 1).toNat (if Sp.af (2 * a * (l.getD i.toNat default).len) (o.getD i.toNat default) < o.getD (i + 1).toNat default then Sp.af (2 * a * (l.getD i.toNat default).len) (o.getD i.toNat default) else o.getD (i + 1).toNat default)).getD (i + 1).toNat default) else o.getD i.toNat default)).getD i.toNat default = o.getD i.toNat default))) -> (0 <= i + 1)):=(by (try rw [w5]);all_goals exact (i_imp (i_at (i_bf (i_bor (i_var _) i_ne))) i_dec))
  have i38:(!((zNzC3 b o i a l) == false && true) || decide ((wi (i + 1)).toNat < (((List.map (vi) o).set (wi (i + 1)).toNat (vi (if Sp.af (2 * a * (l.getD i.toNat default).len) (o.getD i.toNat default) < o.getD (i + 1).toNat default then Sp.af (2 * a * (l.getD i.toNat default).len) (o.getD i.toNat default) else o.getD (i + 1).toNat default))).set i.toNat (vi (if Sp.af (2 * a * (l.getD i.toNat default).len) ((o.set (i + 1).toNat (if Sp.af (2 * a * (l.getD i.toNat default).len) (o.getD i.toNat default) < o.getD (i + 1).toNat default then Sp.af (2 * a * (l.getD i.toNat default).len) (o.getD i.toNat default) else o.getD (i + 1).toNat default)).getD (i + 1).toNat default) < o.getD i.toNat default then Sp.af (2 * a * (l.getD i.toNat default).len) ((o.set (i + 1).toNat (if Sp.af (2 * a * (l.getD i.toNat default).len) (o.getD i.toNat default) < o.getD (i + 1).toNat default then Sp.af (2 * a * (l.getD i.toNat default).len) (o.getD i.toNat default) else o.getD (i + 1).toNat default)).getD (i + 1).toNat default) else o.getD i.toNat default))).length)) = true ↔ ((¬((b = true) \/ (¬((o.set (i + 1).toNat (if Sp.af (2 * a * (l.getD i.toNat default).len) (o.getD i.toNat default) < o.getD (i + 1).toNat default then Sp.af (2 * a * (l.getD i.toNat default).len) (o.getD i.toNat default) else o.getD (i + 1).toNat default)).set i.toNat (if Sp.af (2 * a * (l.getD i.toNat default).len) ((o.set (i + 1).toNat (if Sp.af (2 * a * (l.getD i.toNat default).len) (o.getD i.toNat default) < o.getD (i + 1).toNat default then Sp.af (2 * a * (l.getD i.toNat default).len) (o.getD i.toNat default) else o.getD (i + 1).toNat default)).getD (i + 1).toNat default) < o.getD i.toNat default then Sp.af (2 * a * (l.getD i.toNat default).len) ((o.set (i + 1).toNat (if Sp.af (2 * a * (l.getD i.toNat default).len) (o.getD i.toNat default) < o.getD (i + 1).toNat default then Sp.af (2 * a * (l.getD i.toNat default).len) (o.getD i.toNat default) else o.getD (i + 1).toNat default)).getD (i + 1).toNat default) else o.getD i.toNat default)).getD i.toNat default = o.getD i.toNat default))) -> ((i + 1).toNat < ((o.set (i + 1).toNat (if Sp.af (2 * a * (l.getD i.toNat default).len) (o.getD i.toNat default) < o.getD (i + 1).toNat default then Sp.af (2 * a * (l.getD i.toNat default).len) (o.getD i.toNat default) else o.getD (i + 1).toNat default)).set i.toNat (if Sp.af (2 * a * (l.getD i.toNat default).len) ((o.set (i + 1).toNat (if Sp.af (2 * a * (l.getD i.toNat default).len) (o.getD i.toNat default) < o.getD (i + 1).toNat default then Sp.af (2 * a * (l.getD i.toNat default).len) (o.getD i.toNat default) else o.getD (i + 1).toNat default)).getD (i + 1).toNat default) < o.getD i.toNat default then Sp.af (2 * a * (l.getD i.toNat default).len) ((o.set (i + 1).toNat (if Sp.af (2 * a * (l.getD i.toNat default).len) (o.getD i.toNat default) < o.getD (i + 1).toNat default then Sp.af (2 * a * (l.getD i.toNat default).len) (o.getD i.toNat default) else o.getD (i + 1).toNat default)).getD (i + 1).toNat default) else o.getD i.toNat default)).length)):=(by (try rw [w5]);(try rw [w21]);(try rw [w32]);(try rw [w34]);all_goals exact (i_imp (i_at (i_bf (i_bor (i_var _) i_ne))) i_dec))
  obtain ⟨k39,H⟩:=H
  exact path_wp (G:=given kp10 [(15,3,.elem (vi (o.getD i.toNat default))),(15,8,.elem (zNzC9 o i)),(16,9,.elem (zNzC6 l i)),(16,11,.call (vi (Sp.af (2 * a * (l.getD i.toNat default).len) (o.getD i.toNat default))) none),(16,14,.elem (zNzC9 o i)),(17,7,.elem (zNzC7 o i a l)),(17,12,.elem (zNzC6 l i)),(17,14,.call (vi (Sp.af (2 * a * (l.getD i.toNat default).len) ((o.set (i + 1).toNat (if Sp.af (2 * a * (l.getD i.toNat default).len) (o.getD i.toNat default) < o.getD (i + 1).toNat default then Sp.af (2 * a * (l.getD i.toNat default).len) (o.getD i.toNat default) else o.getD (i + 1).toNat default)).getD (i + 1).toNat default))) none),(17,17,.elem (zNzC8 o i a l)),(18,5,.elem (zNzC5 o i a l)),(18,14,.elem (zNzC4 o i a l))] []) 1000 [true] ⟨(atC (cd Try.f10) [1,1,1,1,0,1,0,0,1,0,1,1,0,0]),[(0,AV.vec fl 3 (List.map Pt.a l)),(1,vi a),(7,AV.row 0 0),(9,vb (bif bif b then true else ((o.set (i + 1).toNat (if Sp.af (2 * a * (l.getD i.toNat default).len) (o.getD i.toNat default) < o.getD (i + 1).toNat default then Sp.af (2 * a * (l.getD i.toNat default).len) (o.getD i.toNat default) else o.getD (i + 1).toNat default)).set i.toNat (if Sp.af (2 * a * (l.getD i.toNat default).len) ((o.set (i + 1).toNat (if Sp.af (2 * a * (l.getD i.toNat default).len) (o.getD i.toNat default) < o.getD (i + 1).toNat default then Sp.af (2 * a * (l.getD i.toNat default).len) (o.getD i.toNat default) else o.getD (i + 1).toNat default)).getD (i + 1).toNat default) < o.getD i.toNat default then Sp.af (2 * a * (l.getD i.toNat default).len) ((o.set (i + 1).toNat (if Sp.af (2 * a * (l.getD i.toNat default).len) (o.getD i.toNat default) < o.getD (i + 1).toNat default then Sp.af (2 * a * (l.getD i.toNat default).len) (o.getD i.toNat default) else o.getD (i + 1).toNat default)).getD (i + 1).toNat default) else o.getD i.toNat default)).getD i.toNat default != o.getD i.toNat default then true else ((o.set (i + 1).toNat (if Sp.af (2 * a * (l.getD i.toNat default).len) (o.getD i.toNat default) < o.getD (i + 1).toNat default then Sp.af (2 * a * (l.getD i.toNat default).len) (o.getD i.toNat default) else o.getD (i + 1).toNat default)).set i.toNat (if Sp.af (2 * a * (l.getD i.toNat default).len) ((o.set (i + 1).toNat (if Sp.af (2 * a * (l.getD i.toNat default).len) (o.getD i.toNat default) < o.getD (i + 1).toNat default then Sp.af (2 * a * (l.getD i.toNat default).len) (o.getD i.toNat default) else o.getD (i + 1).toNat default)).getD (i + 1).toNat default) < o.getD i.toNat default then Sp.af (2 * a * (l.getD i.toNat default).len) ((o.set (i + 1).toNat (if Sp.af (2 * a * (l.getD i.toNat default).len) (o.getD i.toNat default) < o.getD (i + 1).toNat default then Sp.af (2 * a * (l.getD i.toNat default).len) (o.getD i.toNat default) else o.getD (i + 1).toNat default)).getD (i + 1).toNat default) else o.getD i.toNat default)).getD (i + 1).toNat default != o.getD (i + 1).toNat default)),(10,vi (wi (i + 1)))],[⟨((List.map (vi) o).set (wi (i + 1)).toNat (vi (if Sp.af (2 * a * (l.getD i.toNat default).len) (o.getD i.toNat default) < o.getD (i + 1).toNat default then Sp.af (2 * a * (l.getD i.toNat default).len) (o.getD i.toNat default) else o.getD (i + 1).toNat default))).set i.toNat (vi (if Sp.af (2 * a * (l.getD i.toNat default).len) ((o.set (i + 1).toNat (if Sp.af (2 * a * (l.getD i.toNat default).len) (o.getD i.toNat default) < o.getD (i + 1).toNat default then Sp.af (2 * a * (l.getD i.toNat default).len) (o.getD i.toNat default) else o.getD (i + 1).toNat default)).getD (i + 1).toNat default) < o.getD i.toNat default then Sp.af (2 * a * (l.getD i.toNat default).len) ((o.set (i + 1).toNat (if Sp.af (2 * a * (l.getD i.toNat default).len) (o.getD i.toNat default) < o.getD (i + 1).toNat default then Sp.af (2 * a * (l.getD i.toNat default).len) (o.getD i.toNat default) else o.getD (i + 1).toNat default)).getD (i + 1).toNat default) else o.getD i.toNat default)),1,0,false,true⟩],[(decide (i < (↑(List.map Pt.a l).length:Int))) == true,true,decide (0 <= i),decide (i.toNat < (List.map (vi) o).length),true,true,decide (0 <= wi (i + 1)),decide ((wi (i + 1)).toNat < (List.map (vi) o).length),true,decide (0 <= i),decide (i.toNat < (List.map Pt.a l).length),true,decide (0 <= wi (i + 1)),decide ((wi (i + 1)).toNat < (List.map (vi) o).length),true,true,decide (0 <= wi (i + 1)),decide ((wi (i + 1)).toNat < ((List.map (vi) o).set (wi (i + 1)).toNat (vi (if Sp.af (2 * a * (l.getD i.toNat default).len) (o.getD i.toNat default) < o.getD (i + 1).toNat default then Sp.af (2 * a * (l.getD i.toNat default).len) (o.getD i.toNat default) else o.getD (i + 1).toNat default))).length),true,decide (0 <= i),decide (i.toNat < (List.map Pt.a l).length),true,decide (0 <= i),decide (i.toNat < ((List.map (vi) o).set (wi (i + 1)).toNat (vi (if Sp.af (2 * a * (l.getD i.toNat default).len) (o.getD i.toNat default) < o.getD (i + 1).toNat default then Sp.af (2 * a * (l.getD i.toNat default).len) (o.getD i.toNat default) else o.getD (i + 1).toNat default))).length),true,!(b == false && true) || true,!(b == false && true) || decide (0 <= i),!(b == false && true) || decide (i.toNat < (((List.map (vi) o).set (wi (i + 1)).toNat (vi (if Sp.af (2 * a * (l.getD i.toNat default).len) (o.getD i.toNat default) < o.getD (i + 1).toNat default then Sp.af (2 * a * (l.getD i.toNat default).len) (o.getD i.toNat default) else o.getD (i + 1).toNat default))).set i.toNat (vi (if Sp.af (2 * a * (l.getD i.toNat default).len) ((o.set (i + 1).toNat (if Sp.af (2 * a * (l.getD i.toNat default).len) (o.getD i.toNat default) < o.getD (i + 1).toNat default then Sp.af (2 * a * (l.getD i.toNat default).len) (o.getD i.toNat default) else o.getD (i + 1).toNat default)).getD (i + 1).toNat default) < o.getD i.toNat default then Sp.af (2 * a * (l.getD i.toNat default).len) ((o.set (i + 1).toNat (if Sp.af (2 * a * (l.getD i.toNat default).len) (o.getD i.toNat default) < o.getD (i + 1).toNat default then Sp.af (2 * a * (l.getD i.toNat default).len) (o.getD i.toNat default) else o.getD (i + 1).toNat default)).getD (i + 1).toNat default) else o.getD i.toNat default))).length),!(b == false && true) || true,!((zNzC3 b o i a l) == false && true) || true,!((zNzC3 b o i a l) == false && true) || decide (0 <= wi (i + 1)),!((zNzC3 b o i a l) == false && true) || decide ((wi (i + 1)).toNat < (((List.map (vi) o).set (wi (i + 1)).toNat (vi (if Sp.af (2 * a * (l.getD i.toNat default).len) (o.getD i.toNat default) < o.getD (i + 1).toNat default then Sp.af (2 * a * (l.getD i.toNat default).len) (o.getD i.toNat default) else o.getD (i + 1).toNat default))).set i.toNat (vi (if Sp.af (2 * a * (l.getD i.toNat default).len) ((o.set (i + 1).toNat (if Sp.af (2 * a * (l.getD i.toNat default).len) (o.getD i.toNat default) < o.getD (i + 1).toNat default then Sp.af (2 * a * (l.getD i.toNat default).len) (o.getD i.toNat default) else o.getD (i + 1).toNat default)).getD (i + 1).toNat default) < o.getD i.toNat default then Sp.af (2 * a * (l.getD i.toNat default).len) ((o.set (i + 1).toNat (if Sp.af (2 * a * (l.getD i.toNat default).len) (o.getD i.toNat default) < o.getD (i + 1).toNat default then Sp.af (2 * a * (l.getD i.toNat default).len) (o.getD i.toNat default) else o.getD (i + 1).toNat default)).getD (i + 1).toNat default) else o.getD i.toNat default))).length),!((zNzC3 b o i a l) == false && true) || true],[((List.map (vi) o).get?Internal i.toNat = some (vi (o.getD i.toNat default))),((List.map (vi) o).get?Internal (wi (i + 1)).toNat = some (zNzC9 o i)),((List.map Pt.a l).get?Internal i.toNat = some (zNzC6 l i)),((List.map (vi) o).get?Internal (wi (i + 1)).toNat = some (zNzC9 o i)),(((List.map (vi) o).set (wi (i + 1)).toNat (vi (if Sp.af (2 * a * (l.getD i.toNat default).len) (o.getD i.toNat default) < o.getD (i + 1).toNat default then Sp.af (2 * a * (l.getD i.toNat default).len) (o.getD i.toNat default) else o.getD (i + 1).toNat default))).get?Internal (wi (i + 1)).toNat = some (zNzC7 o i a l)),((List.map Pt.a l).get?Internal i.toNat = some (zNzC6 l i)),(((List.map (vi) o).set (wi (i + 1)).toNat (vi (if Sp.af (2 * a * (l.getD i.toNat default).len) (o.getD i.toNat default) < o.getD (i + 1).toNat default then Sp.af (2 * a * (l.getD i.toNat default).len) (o.getD i.toNat default) else o.getD (i + 1).toNat default))).get?Internal i.toNat = some (zNzC8 o i a l)),((b == false && true) = true -> (((List.map (vi) o).set (wi (i + 1)).toNat (vi (if Sp.af (2 * a * (l.getD i.toNat default).len) (o.getD i.toNat default) < o.getD (i + 1).toNat default then Sp.af (2 * a * (l.getD i.toNat default).len) (o.getD i.toNat default) else o.getD (i + 1).toNat default))).set i.toNat (vi (if Sp.af (2 * a * (l.getD i.toNat default).len) ((o.set (i + 1).toNat (if Sp.af (2 * a * (l.getD i.toNat default).len) (o.getD i.toNat default) < o.getD (i + 1).toNat default then Sp.af (2 * a * (l.getD i.toNat default).len) (o.getD i.toNat default) else o.getD (i + 1).toNat default)).getD (i + 1).toNat default) < o.getD i.toNat default then Sp.af (2 * a * (l.getD i.toNat default).len) ((o.set (i + 1).toNat (if Sp.af (2 * a * (l.getD i.toNat default).len) (o.getD i.toNat default) < o.getD (i + 1).toNat default then Sp.af (2 * a * (l.getD i.toNat default).len) (o.getD i.toNat default) else o.getD (i + 1).toNat default)).getD (i + 1).toNat default) else o.getD i.toNat default))).get?Internal i.toNat = some (zNzC5 o i a l)),(((zNzC3 b o i a l) == false && true) = true -> (((List.map (vi) o).set (wi (i + 1)).toNat (vi (if Sp.af (2 * a * (l.getD i.toNat default).len) (o.getD i.toNat default) < o.getD (i + 1).toNat default then Sp.af (2 * a * (l.getD i.toNat default).len) (o.getD i.toNat default) else o.getD (i + 1).toNat default))).set i.toNat (vi (if Sp.af (2 * a * (l.getD i.toNat default).len) ((o.set (i + 1).toNat (if Sp.af (2 * a * (l.getD i.toNat default).len) (o.getD i.toNat default) < o.getD (i + 1).toNat default then Sp.af (2 * a * (l.getD i.toNat default).len) (o.getD i.toNat default) else o.getD (i + 1).toNat default)).getD (i + 1).toNat default) < o.getD i.toNat default then Sp.af (2 * a * (l.getD i.toNat default).len) ((o.set (i + 1).toNat (if Sp.af (2 * a * (l.getD i.toNat default).len) (o.getD i.toNat default) < o.getD (i + 1).toNat default then Sp.af (2 * a * (l.getD i.toNat default).len) (o.getD i.toNat default) else o.getD (i + 1).toNat default)).getD (i + 1).toNat default) else o.getD i.toNat default))).get?Internal (wi (i + 1)).toNat = some (zNzC4 o i a l))],_⟩ (by kernel_rfl) (bc (beq_t (i2.2 d3)) (bc rfl (bc (i_dec.2 k7) (bc (i9.2 k10) (bc rfl (bc rfl (bc (i11.2 k12) (bc (i13.2 k14) (bc rfl (bc (i_dec.2 k7) (bc (i17.2 k18) (bc rfl (bc (i19.2 k12) (bc (i20.2 k14) (bc rfl (bc rfl (bc (i23.2 k12) (bc (i25.2 k26) (bc rfl (bc (i_dec.2 k7) (bc (i28.2 k18) (bc rfl (bc (i_dec.2 k7) (bc (i30.2 k31) (bc rfl (bc (Bool.or_true _) (bc ((i_imp (i_at (i_bf (i_var _))) i_dec).2 (fun _ => k7)) (bc (i35.2 k36) (bc (Bool.or_true _) (bc (Bool.or_true _) (bc (i37.2 (fun _ => k12)) (bc (i38.2 k39) (bc (Bool.or_true _) b0))))))))))))))))))))))))))))))))) (qc (el_map k10) (qc (by (try rw [w5]);all_goals exact (el_map k14)) (qc (el_map k18) (qc (by (try rw [w5]);all_goals exact (el_map k14)) (qc (by (try rw [w5]);(try rw [w21]);all_goals exact (el_map k26)) (qc (el_map k18) (qc (by (try rw [w5]);(try rw [w21]);all_goals exact (el_map k31)) (qc (by (try rw [w5]);(try rw [w21]);(try rw [w32]);all_goals exact (fun h => el_map (k36 ((i_at (i_bf (i_var _))).1 h)))) (qc (by (try rw [w5]);(try rw [w21]);(try rw [w32]);all_goals exact (fun h => el_map (k39 ((i_at (i_bf (i_bor (i_var _) i_ne))).1 h)))) q0))))))))) (ce (@ev26 (o.getD i.toNat default) ((l.getD i.toNat default).len) (a) k15) (ce (@ev26 ((o.set (i + 1).toNat (if Sp.af (2 * a * (l.getD i.toNat default).len) (o.getD i.toNat default) < o.getD (i + 1).toNat default then Sp.af (2 * a * (l.getD i.toNat default).len) (o.getD i.toNat default) else o.getD (i + 1).toNat default)).getD (i + 1).toNat default) ((l.getD i.toNat default).len) (a) k22) c0)) (by (try rw [w5]);(try rw [w21]);(try rw [w32]);all_goals exact H)
 ·have H:=H.2 d3
  exact path_wp (G:=given kp10 [] []) 1000 [false] ⟨(atC (cd Try.f10) [1,1,1,1,0,1,0,0]),[(0,AV.vec fl 3 (List.map Pt.a l)),(1,vi a),(7,AV.row 0 0),(9,vb b),(10,vi i),(54,vb (decide (i < (↑(List.map Pt.a l).length:Int))))],[⟨List.map (vi) o,1,0,false,true⟩],_,[],_⟩ (by kernel_rfl) (bc (beq_f (fun h => d3 (i2.1 h))) b0) q0 c0 (by (try rw [w1]);all_goals exact Wp.less [0,1,7,9] (H))
theorem kOf (fl:Bool) (l:List Pt)  (dq:AV) (H :
  kOfN_at (fl) (l) ((↑l.length:Int)) (0) (PureQ dq)) :
 kOf_at fl l (PureQ dq):=by
 unfold kOf_at
 have w1:(List.map Pt.a l).length = l.length:=List.length_map ..
 exact path_wp (G:=given kp9 [] []) 1000 [] ⟨(atC (cd Try.f9) [1,1,0,1,0,0]),[(3,AV.vnil),(6,AV.vec fl 3 (List.map Pt.a l)),(7,vi (↑(List.map Pt.a l).length:Int)),(8,vi 0)],[],_,[],_⟩ (by kernel_rfl) b0 q0 c0 (by (try rw [w1]);all_goals exact H)
noncomputable abbrev zNzC18 (l:List Pt) (i:Int):=ag [vi (l.getD i.toNat default).len,vi (l.getD i.toNat default).spd,vi (l.getD i.toNat default).cor]
theorem kOfN (fl:Bool) (l:List Pt) (n i:Int)  (dq:AV) (H :
  ((i < n) -> (0 <= i) /\
   (i.toNat < l.length) /\
   (-9223372036854775808 <= i + 1 /\ i + 1 <= 9223372036854775807) /\
   kOfH_at (fl) (l) ([l.getD i.toNat default]) (false) (0) (n) (i + 1) (PureQ dq)) /\
  (¬(i < n) -> Weak (AV.vnil) dq)) :
 kOfN_at fl l n i (PureQ dq):=by
 unfold kOfN_at
 rcases xm (i < n) with d2 | d2
 ·have H:=H.1 d2
  obtain ⟨k4,H⟩:=H
  have w5:(List.map Pt.a l).length = l.length:=List.length_map ..
  have i6:(decide (i.toNat < (List.map Pt.a l).length)) = true ↔ (i.toNat < l.length):=(by (try rw [w5]);all_goals exact i_dec)
  obtain ⟨k7,H⟩:=H
  obtain ⟨k8,H⟩:=H
  have w9:wi (i + 1) = i + 1:=wI64 k8
  have w10:[ag [vi (l.getD i.toNat default).len,vi (l.getD i.toNat default).spd,vi (l.getD i.toNat default).cor]] = List.map Pt.a [l.getD i.toNat default]:=rfl
  exact path_wp (G:=given kp9 [(4,1,.elem (zNzC18 l i))] []) 1000 [true] ⟨(atC (cd Try.f9) [1,1,0,1,0,0]),[(3,AV.row 1 0),(6,AV.vec fl 3 (List.map Pt.a l)),(7,vi n),(8,vi (wi (i + 1)))],[⟨[ag [vi (l.getD i.toNat default).len,vi (l.getD i.toNat default).spd,vi (l.getD i.toNat default).cor]],3,0,false,false⟩,⟨[ag [vi (l.getD i.toNat default).len,vi (l.getD i.toNat default).spd,vi (l.getD i.toNat default).cor]],3,0,false,true⟩],_,[((List.map Pt.a l).get?Internal i.toNat = some (zNzC18 l i))],_⟩ (by kernel_rfl) (bc (beq_t (i_dec.2 d2)) (bc (i_dec.2 k4) (bc (i6.2 k7) (bc rfl (bc rfl (bc rfl b0)))))) (qc (el_map k7) q0) c0 (by (try rw [w9]);(try rw [w10]);all_goals exact wp_narrow [1] (by kernel_rfl) H)
 ·have H:=H.2 d2
  exact path_rq (G:=given kp9 [] []) 1000 [false] (AV.vnil) (by kernel_rfl) (bc (beq_f (fun h => d2 (i_dec.1 h))) b0) q0 c0 H
noncomputable abbrev zNzC19 (l:List Pt) (i:Int):=ag [vi (l.getD i.toNat default).len,vi (l.getD i.toNat default).spd,vi (l.getD i.toNat default).cor]
theorem kOfH (fl:Bool) (l o:List Pt) (f:Bool) (v:Nat) (n i:Int)  (dq:AV) (H :
  ((i < n) -> (0 <= i) /\
   (i.toNat < l.length) /\
   ((o.length + 1) * 24 <= 1099511627776) /\
   (-9223372036854775808 <= i + 1 /\ i + 1 <= 9223372036854775807) /\
   kOfH_at (fl) (l) (o ++ [l.getD i.toNat default]) (f) (v + 1) (n) (i + 1) (PureQ dq)) /\
  (¬(i < n) -> Weak (AV.vec false 3 (List.map Pt.a o)) dq)) :
 kOfH_at fl l o f v n i (PureQ dq):=by
 unfold kOfH_at
 rcases xm (i < n) with d2 | d2
 ·have H:=H.1 d2
  obtain ⟨k4,H⟩:=H
  have w5:(List.map Pt.a l).length = l.length:=List.length_map ..
  have i6:(decide (i.toNat < (List.map Pt.a l).length)) = true ↔ (i.toNat < l.length):=(by (try rw [w5]);all_goals exact i_dec)
  obtain ⟨k7,H⟩:=H
  have w8:(List.map Pt.a o).length = o.length:=List.length_map ..
  have i9:(decide (((List.map Pt.a o).length + 1) * 24 <= 1099511627776)) = true ↔ ((o.length + 1) * 24 <= 1099511627776):=(by (try rw [w8]);all_goals exact i_dec)
  obtain ⟨k10,H⟩:=H
  have w11:List.map Pt.a o ++ [ag [vi (l.getD i.toNat default).len,vi (l.getD i.toNat default).spd,vi (l.getD i.toNat default).cor]] = List.map Pt.a (o ++ [l.getD i.toNat default]):=(lm_app rfl rfl)
  obtain ⟨k12,H⟩:=H
  have w13:wi (i + 1) = i + 1:=wI64 k12
  exact path_wp (G:=given kp9 [(4,1,.elem (zNzC19 l i))] []) 1000 [true] ⟨(atC (cd Try.f9) [1,1,0,1,0,0]),[(3,AV.row 0 (v + 1)),(6,AV.vec fl 3 (List.map Pt.a l)),(7,vi n),(8,vi (wi (i + 1)))],[⟨List.map Pt.a o ++ [ag [vi (l.getD i.toNat default).len,vi (l.getD i.toNat default).spd,vi (l.getD i.toNat default).cor]],3,v + 1,f,true⟩,⟨[ag [vi (l.getD i.toNat default).len,vi (l.getD i.toNat default).spd,vi (l.getD i.toNat default).cor]],3,0,false,false⟩],[(decide (i < n)) == true,decide (0 <= i),decide (i.toNat < (List.map Pt.a l).length),true,true,v == v,decide (((List.map Pt.a o).length + 1) * 24 <= 1099511627776)],[((List.map Pt.a l).get?Internal i.toNat = some (zNzC19 l i))],_⟩ (by kernel_rfl) (bc (beq_t (i_dec.2 d2)) (bc (i_dec.2 k4) (bc (i6.2 k7) (bc rfl (bc rfl (bc (beq_self_eq_true _) (bc (i9.2 k10) b0))))))) (qc (el_map k7) q0) c0 (by (try rw [w11]);(try rw [w13]);all_goals exact wp_narrow [0] (by kernel_rfl) H)
 ·have H:=H.2 d2
  exact path_ret (G:=given kp9 [] []) 1000 [false] (k:=((atC (cd Try.f9) [1,1,1,1])).tail) (env':=[(2,AV.row 0 v)]) (L':=[⟨List.map Pt.a o,3,v,f,true⟩]) (asm:=[(decide (i < n)) == false]) (eqs:=[]) (calls:=[]) (AV.row 0 v) (by kernel_rfl) (by kernel_rfl) (allB_cons (beq_f (fun h => d2 (i_dec.1 h))) allB_nil) allP_nil allC_nil (pq_weak (d:=(AV.vec false 3 (List.map Pt.a o))) (bs:=[v == v]) (by kernel_rfl) (by kernel_rfl) (allB_cons (beq_self_eq_true _) allB_nil) (by kernel_rfl) H)
theorem kEq (f g:Bool) (s t:List Int)  (dq:AV) (H :
  ((¬(↑s.length:Int) = (↑t.length:Int)) -> vb false = dq) /\
  (¬(¬(↑s.length:Int) = (↑t.length:Int)) -> kEqH_at (f) (g) (s) (t) ((↑s.length:Int)) (0) (PureQ dq))) :
 kEq_at f g s t (PureQ dq):=by
 unfold kEq_at
 have w1:(List.map (vi) s).length = s.length:=List.length_map ..
 have w2:(List.map (vi) t).length = t.length:=List.length_map ..
 have i3:((↑(List.map (vi) s).length:Int) != (↑(List.map (vi) t).length:Int)) = true ↔ (¬(↑s.length:Int) = (↑t.length:Int)):=(by (try rw [w1]);(try rw [w2]);all_goals exact i_ne)
 rcases xm (¬(↑s.length:Int) = (↑t.length:Int)) with d4 | d4
 ·have H:=H.1 d4
  exact path_re (G:=given kp13 [] []) 1000 [true] (vb false) (by kernel_rfl) (bc (beq_t (i3.2 d4)) b0) q0 c0 H
 ·have H:=H.2 d4
  exact path_wp (G:=given kp13 [] []) 1000 [false] ⟨(atC (cd Try.f13) [1,1,0,1,0,0]),[(0,AV.vec f 1 (List.map (vi) s)),(1,AV.vec g 1 (List.map (vi) t)),(12,vi (↑(List.map (vi) s).length:Int)),(13,vi 0)],[],_,[],_⟩ (by kernel_rfl) (bc (beq_f (fun h => d4 (i3.1 h))) b0) q0 c0 (by (try rw [w1]);all_goals exact H)
theorem kEqH (f g:Bool) (s t:List Int) (n i:Int)  (dq:AV) (H :
  ((i < n) -> (0 <= i) /\
   (i.toNat < s.length) /\
   (i.toNat < t.length) /\
   ((¬s.getD i.toNat default = t.getD i.toNat default) -> vb false = dq) /\
   (¬(¬s.getD i.toNat default = t.getD i.toNat default) -> (-9223372036854775808 <= i + 1 /\ i + 1 <= 9223372036854775807) /\
    kEqH_at (f) (g) (s) (t) (n) (i + 1) (PureQ dq))) /\
  (¬(i < n) -> vb true = dq)) :
 kEqH_at f g s t n i (PureQ dq):=by
 unfold kEqH_at
 rcases xm (i < n) with d2 | d2
 ·have H:=H.1 d2
  obtain ⟨k4,H⟩:=H
  have w5:(List.map (vi) s).length = s.length:=List.length_map ..
  have i6:(decide (i.toNat < (List.map (vi) s).length)) = true ↔ (i.toNat < s.length):=(by (try rw [w5]);all_goals exact i_dec)
  obtain ⟨k7,H⟩:=H
  have w9:(List.map (vi) t).length = t.length:=List.length_map ..
  have i10:(decide (i.toNat < (List.map (vi) t).length)) = true ↔ (i.toNat < t.length):=(by (try rw [w9]);all_goals exact i_dec)
  obtain ⟨k11,H⟩:=H
  refine path_wp (G:=given kp13 [(6,3,.elem (vi (s.getD i.toNat default))),(6,7,.elem (vi (t.getD i.toNat default)))] []) 11 [true] ⟨(atC (cd Try.f13) [1,1,0,1,0,0,1,1,0,0,1,1]),[(0,AV.vec f 1 (List.map (vi) s)),(1,AV.vec g 1 (List.map (vi) t)),(12,vi n),(13,vi i),(24,vb (s.getD i.toNat default != t.getD i.toNat default))],[],_,[((List.map (vi) s).get?Internal i.toNat = some (vi (s.getD i.toNat default))),((List.map (vi) t).get?Internal i.toNat = some (vi (t.getD i.toNat default)))],_⟩ (by kernel_rfl) (bc (beq_t (i_dec.2 d2)) (bc (i_dec.2 k4) (bc (i6.2 k7) (bc (i_dec.2 k4) (bc (i10.2 k11) b0))))) (qc (el_map k7) (qc (el_map k11) q0)) c0 ?_
  rcases xm (¬s.getD i.toNat default = t.getD i.toNat default) with d13 | d13
  ·have H:=H.1 d13
   exact path_re (G:=given kp13 [] []) 1000 [true] (vb false) (by kernel_rfl) (bc (beq_t (i_ne.2 d13)) b0) q0 c0 H
  ·have H:=H.2 d13
   obtain ⟨k14,H⟩:=H
   have w15:wi (i + 1) = i + 1:=wI64 k14
   exact path_wp (G:=given kp13 [] []) 1000 [false] ⟨(atC (cd Try.f13) [1,1,0,1,0,0]),[(0,AV.vec f 1 (List.map (vi) s)),(1,AV.vec g 1 (List.map (vi) t)),(12,vi n),(13,vi (wi (i + 1)))],[],_,[],_⟩ (by kernel_rfl) (bc (beq_f (fun h => d13 (i_ne.1 h))) b0) q0 c0 (by (try rw [w15]);all_goals exact H)
 ·have H:=H.2 d2
  exact path_re (G:=given kp13 [] []) 1000 [false] (vb true) (by kernel_rfl) (bc (beq_f (fun h => d2 (i_dec.1 h))) b0) q0 c0 H
end Go.Av

namespace Go.Av
open Go.Proofs
namespace Sp
def bs (p:Int -> Bool):Nat -> Int -> Int -> Int
 | 0,i,_ => i
 | k + 1,i,j => bif decide (i < j) then (bif p ((i + j) / 2) then bs p k i ((i + j) / 2) else bs p k ((i + j) / 2 + 1) j) else i
def isS (p:Int -> Bool) (h r:Int):Prop:=0 <= r /\ r <= h /\ (r = 0 \/ p (r - 1) = false) /\ (r = h \/ p r = true)
end Sp
theorem bs_done {p:Int -> Bool} {k:Nat} {i j:Int} (h:¬i < j):Sp.bs p k i j = i:=by
 cases k with
 | zero => rfl
 | succ k => unfold Sp.bs;rw [decide_eq_false h,cond_false]
theorem bs_spec {p:Int -> Bool} {h:Int}:∀ (k:Nat) {i j:Int},j - i < 2 ^ k -> 0 <= i -> i <= j -> j <= h -> (i = 0 \/ p (i - 1) = false) -> (j = h \/ p j = true) -> Sp.isS p h (Sp.bs p k i j)
 | 0,i,j,a,b,c,d,e,f => by
  have:i = j:=by omega
  subst this
  exact ⟨b,d,e,f⟩
 | k + 1,i,j,a,b,c,d,e,f => by
  by_cases n:i < j
  ·unfold Sp.bs
   rw [decide_eq_true n,cond_true]
   rw [Int.pow_succ] at a
   cases m:p ((i + j) / 2) with
   | true =>
    rw [cond_true]
    exact bs_spec k (by omega) b (by omega) (by omega) e (.inr m)
   | false =>
    rw [cond_false]
    exact bs_spec k (by omega) (by omega) (by omega) d (.inr (by rw [Int.add_sub_cancel];exact m)) f
  ·rw [bs_done n]
   have:i = j:=by omega
   subst this
   exact ⟨b,d,e,f⟩
theorem bs_all {p:Int -> Bool} {h:Int} (h0:0 <= h) (hk:h < 2 ^ 40):Sp.isS p h (Sp.bs p 40 0 h):=
 bs_spec 40 (by omega) (by omega) h0 (by omega) (.inl rfl) (.inl rfl)
theorem bs_step {p:Int -> Bool} {k:Nat} {i j:Int} (h:i < j):Sp.bs p (k + 1) i j = bif p ((i + j) / 2) then Sp.bs p k i ((i + j) / 2) else Sp.bs p k ((i + j) / 2 + 1) j:=by
 rw [Sp.bs,decide_eq_true h,cond_true]
end Go.Av

namespace Go.Av
open Go.Proofs
theorem ev33 (n:Int) (h:Sp.okNs n):Ev M1 (.pure 33 [.int .i64 n]) (.int .i64 (Sp.sq n)) []:=by
 obtain ⟨a,b,c,d⟩:=sq_small h
 unfold Sp.okNs at h
 have e:Sp.sqe n = 0:=by unfold Sp.sqe;rw [if_neg (by omega)]
 have k:=@small_cnt n (by unfold Sp.inN;omega)
 exact call33 (kSqrt _ _ ⟨by unfold Sp.inI;omega,by unfold Sp.okS;omega,fun x => absurd e x,fun _ => ⟨by unfold Sp.inN;omega,rfl⟩⟩)
namespace Sp
def fastE (n u v:Int):Int:=if isV n /\ isLen u /\ isAcc v then 0 else 1
noncomputable def fastV (n u v:Int):Int:=if isV n /\ isLen u /\ isAcc v then af (2 * v * u) n else 0
end Sp
namespace Sp
def chk (l:List Pt) (a:Int) (s:List Int) (i:Nat):Prop:=
 (0 <= s.getD i default /\ s.getD i default <= (l.getD i default).spd) /\ (0 <= s.getD (i + 1) default /\ s.getD (i + 1) default <= (l.getD i default).spd /\ s.getD (i + 1) default <= (l.getD i default).cor) /\
 s.getD i default * s.getD i default - s.getD (i + 1) default * s.getD (i + 1) default <= kA l a i /\ s.getD (i + 1) default * s.getD (i + 1) default - s.getD i default * s.getD i default <= kA l a i
def chkFrom (l:List Pt) (a:Int) (s:List Int) (i:Nat):Prop:=∀ j,j < l.length -> i <= j -> chk l a s j
def ends (l:List Pt) (s:List Int):Prop:=s.length = l.length + 1 /\ s.getD 0 default = 0 /\ s.getD l.length default = 0
def feas (l:List Pt) (a:Int) (s:List Int):Prop:=validE l a = 0 /\ ends l s /\ chkFrom l a s 0
end Sp
instance (l:List Pt) (a:Int) (s:List Int) (i:Nat):Decidable (Sp.chk l a s i):=by unfold Sp.chk;infer_instance
instance (l:List Pt) (a:Int) (s:List Int) (i:Nat):Decidable (Sp.chkFrom l a s i):=by unfold Sp.chkFrom;infer_instance
instance (l:List Pt) (s:List Int):Decidable (Sp.ends l s):=by unfold Sp.ends;infer_instance
instance (l:List Pt) (a:Int) (s:List Int):Decidable (Sp.feas l a s):=by unfold Sp.feas;infer_instance
theorem validE_ok {l:List Pt} {a:Int} (h:Sp.validE l a = 0):(l.length:Int) <= 2000 /\ Sp.okPts l a:=by
 unfold Sp.validE at h
 split at h
 ·omega
 ·split at h
  ·exact ⟨by omega,by assumption⟩
  ·omega
theorem chg_false {b:Bool} {A a B c:Int} (h:(bif bif b then true else A != a then true else B != c) = false):b = false /\ A = a /\ B = c:=by
 cases b with
 | true => simp at h
 | false =>
  by_cases k:A = a
  ·by_cases m:B = c
   ·exact ⟨rfl,k,m⟩
   ·rw [cond_false,bne_iff_ne.2 m] at h
    cases e:(A != a) <;> rw [e] at h <;> simp at h
  ·rw [cond_false,bne_iff_ne.2 k] at h
   simp at h
theorem chg_true {b:Bool} {A a B c:Int} (h:(bif bif b then true else A != a then true else B != c) = true):b = true \/ A ≠ a \/ B ≠ c:=by
 cases b with
 | true => exact .inl rfl
 | false =>
  by_cases k:A = a
  ·by_cases m:B = c
   ·subst k;subst m;simp at h
   ·exact .inr (.inr m)
  ·exact .inr (.inl k)
theorem min_if (x b:Int):(if x < b then x else b) = min b x:=by split <;> omega
theorem lowL_getD {k:Int} {o:List Int} {i:Nat} (h:i + 1 < o.length):(Sp.lowL k o i).getD i default = Sp.lowA k (o.getD i default) (o.getD (i + 1) default) /\ (Sp.lowL k o i).getD (i + 1) default = Sp.lowB k (o.getD i default) (o.getD (i + 1) default):=by
 unfold Sp.lowL
 refine ⟨?_,?_⟩
 ·rw [getD_set' (by simp;omega),if_pos rfl]
 ·rw [getD_set' (by simp;omega),if_neg (by omega),getD_set' h,if_pos rfl]
theorem spRC_loop {fl:Bool} {l:List Pt} {a:Int} {dq:AV} (hl:(l.length:Int) <= 2000) (h:Sp.okPts l a) (o0:List Int) (next:∀ o,Sp.Lim l.length (Sp.kA l a) (Sp.cap l) o -> Sp.tot o < Sp.tot o0 -> kSpRB_at fl l a o true (PureQ dq))
  (hq:Weak (AV.tup [AV.vec false 1 (List.map (AV.int .i64) (Sp.spds l a)),AV.int .i64 0]) dq):∀ (k i:Nat) (o:List Int) (b:Bool),i + k = l.length -> Sp.Lim l.length (Sp.kA l a) (Sp.cap l) o ->
  (b = true -> Sp.tot o < Sp.tot o0) -> (b = false -> Sp.tot o = Sp.tot o0 /\ ∀ j,j < i -> o.getD j default <= Sp.af (Sp.kA l a j) (o.getD (j + 1) default) /\ o.getD (j + 1) default <= Sp.af (Sp.kA l a j) (o.getD j default)) -> kSpRC_at fl l a o b i (PureQ dq)
 | 0,i,o,b,e,ho,h1,h2 => by
  refine kSpRC _ _ _ _ _ _ _ ⟨fun x => by omega,fun _ => ?_⟩
  cases b with
  | true => exact next o ho (h1 rfl)
  | false =>
   refine kSpRB _ _ _ _ _ _ ⟨fun x => by simp at x,fun _ => ?_⟩
   rw [lim_end h ho fun j hj => (h2 rfl).2 j (by omega)]
   exact hq
 | k + 1,i,o,b,e,ho,h1,h2 => by
  have hi:i < l.length:=by omega
  have hol:=ho.1
  have p:=pt_at h hi
  have bi:=ho.2.1 i (by omega)
  have bj:=ho.2.1 (i + 1) (by omega)
  have ci:=cap_nn h i
  have cj:=cap_nn h (i + 1)
  obtain ⟨s1,s2,s3,s4⟩:=lim_step (fun i hi => (kA_nn h i hi).1) ho hi
  have g:=lowL_getD (k:=Sp.kA l a i) (o:=o) (i:=i) (by omega)
  have ll:=s1.1
  have b2:=s1.2.1 (i + 1) (by omega)
  have nx:=spRC_loop hl h o0 next hq k (i + 1) (Sp.lowL (Sp.kA l a i) o i)
  refine kSpRC _ _ _ _ _ _ _ ⟨fun x => ?_,fun x => by omega⟩
  rw [Int.toNat_natCast,show ((i:Int) + 1).toNat = i + 1 by omega,show (i:Int) + 1 = ((i + 1:Nat):Int) by omega]
  simp only [min_if]
  rw [show min (o.getD (i + 1) default) (Sp.af (2 * a * (l.getD i default).len) (o.getD i default)) = Sp.lowB (Sp.kA l a i) (o.getD i default) (o.getD (i + 1) default) from rfl]
  rw [show (o.set (i + 1) (Sp.lowB (Sp.kA l a i) (o.getD i default) (o.getD (i + 1) default))).getD (i + 1) default = Sp.lowB (Sp.kA l a i) (o.getD i default) (o.getD (i + 1) default) by rw [getD_set' (by omega),if_pos rfl]]
  rw [show min (o.getD i default) (Sp.af (2 * a * (l.getD i default).len) (Sp.lowB (Sp.kA l a i) (o.getD i default) (o.getD (i + 1) default))) = Sp.lowA (Sp.kA l a i) (o.getD i default) (o.getD (i + 1) default) from rfl]
  rw [show (o.set (i + 1) (Sp.lowB (Sp.kA l a i) (o.getD i default) (o.getD (i + 1) default))).set i (Sp.lowA (Sp.kA l a i) (o.getD i default) (o.getD (i + 1) default)) = Sp.lowL (Sp.kA l a i) o i from rfl]
  rw [g.1,g.2] at *
  have hw:Sp.isV (Sp.lowB (Sp.kA l a i) (o.getD i default) (o.getD (i + 1) default)):=by unfold Sp.isV;omega
  have hv:Sp.isV (o.getD i default):=by unfold Sp.isV;omega
  generalize Sp.lowA (Sp.kA l a i) (o.getD i default) (o.getD (i + 1) default) = A at *
  generalize Sp.lowB (Sp.kA l a i) (o.getD i default) (o.getD (i + 1) default) = B at *
  refine ⟨by omega,by omega,by omega,by omega,by omega,⟨hv,p.1,h.1⟩,by omega,⟨hw,p.1,h.1⟩,by simp;omega,by simp;omega,fun _ => by omega,fun _ => by omega,?_⟩
  refine nx _ (by omega) s1 (fun y => ?_) (fun y => ?_)
  ·rcases chg_true y with y | y
   ·have:=h1 y;omega
   ·have:=s3 y
    cases b with
    | true => have:=h1 rfl;omega
    | false => have:=(h2 rfl).1;omega
  ·obtain ⟨y,a1,a2⟩:=chg_false y
   obtain ⟨t1,t2,t3⟩:=s4 a1 a2
   obtain ⟨u1,u2⟩:=h2 y
   rw [t1]
   refine ⟨u1,fun j hj => ?_⟩
   by_cases c:j = i
   ·subst c;exact ⟨t2,t3⟩
   ·exact u2 j (by omega)
theorem spRB_loop {fl:Bool} {l:List Pt} {a:Int} {dq:AV} (hl:(l.length:Int) <= 2000) (h:Sp.okPts l a) (hq:Weak (AV.tup [AV.vec false 1 (List.map (AV.int .i64) (Sp.spds l a)),AV.int .i64 0]) dq) :
  ∀ (k:Nat) (o:List Int),Sp.tot o <= k -> Sp.Lim l.length (Sp.kA l a) (Sp.cap l) o -> kSpRB_at fl l a o true (PureQ dq)
 | 0,o,ht,ho => by
  refine kSpRB _ _ _ _ _ _ ⟨fun _ => ?_,fun x => absurd rfl x⟩
  refine spRC_loop hl h o (fun o1 h1 h2 => ?_) hq l.length 0 o false (by omega) ho (fun x => by simp at x) (fun _ => ⟨rfl,fun j hj => by omega⟩)
  have:=tot_nn (o:=o1) fun i hi => (h1.2.1 i (by have:=h1.1;omega)).1
  omega
 | k + 1,o,ht,ho => by
  refine kSpRB _ _ _ _ _ _ ⟨fun _ => ?_,fun x => absurd rfl x⟩
  exact spRC_loop hl h o (fun o1 h1 h2 => spRB_loop hl h hq k o1 (by omega) h1) hq l.length 0 o false (by omega) ho (fun x => by simp at x) (fun _ => ⟨rfl,fun j hj => by omega⟩)
theorem cap_val {l:List Pt} {i:Nat} (h0:0 < i) (hi:i < l.length):(if (l.getD i default).spd < (if (l.getD (i - 1) default).spd < (l.getD (i - 1) default).cor then (l.getD (i - 1) default).spd else (l.getD (i - 1) default).cor) then (l.getD i default).spd else if (l.getD (i - 1) default).spd < (l.getD (i - 1) default).cor then (l.getD (i - 1) default).spd else (l.getD (i - 1) default).cor) = Sp.cap l i:=by
 simp only [min_if]
 unfold Sp.cap
 rw [if_neg (by omega)]
 omega
theorem spRA_loop {fl:Bool} {l:List Pt} {a:Int} {dq:AV} (hl:(l.length:Int) <= 2000) (h:Sp.okPts l a) (hq:Weak (AV.tup [AV.vec false 1 (List.map (AV.int .i64) (Sp.spds l a)),AV.int .i64 0]) dq) :
  ∀ (k i:Nat) (o:List Int),l.length <= i + k -> 0 < i -> o.length = l.length + 1 -> (∀ j,j <= l.length -> o.getD j default = if j < i then Sp.cap l j else 0) -> kSpRA_at fl l a i o (PureQ dq)
 | 0,i,o,hk,h0,ho,hv => by
  refine kSpRA _ _ _ _ _ _ ⟨fun x => by omega,fun _ => ?_⟩
  have hv':∀ j,j <= l.length -> o.getD j default = Sp.cap l j:=fun j hj => by
   rw [hv j hj]
   split
   ·rfl
   ·unfold Sp.cap;rw [if_pos (by omega)]
  refine spRB_loop hl h hq (Sp.tot o).toNat o (by omega) ⟨ho,fun j hj => ?_,fun t ht j hj => ?_⟩
  ·rw [hv' j hj];exact ⟨(cap_nn h j).1,Int.le_refl _⟩
  ·rw [hv' j hj];exact (ht.1 j hj).2
 | k + 1,i,o,hk,h0,ho,hv => by
  by_cases x:i < l.length
  ·refine kSpRA _ _ _ _ _ _ ⟨fun _ => ?_,fun y => by omega⟩
   rw [Int.toNat_natCast,show ((i:Int) - 1).toNat = i - 1 by omega,cap_val h0 x,show (i:Int) + 1 = ((i + 1:Nat):Int) by omega]
   refine ⟨by omega,by omega,by omega,by omega,by omega,by omega,by omega,?_⟩
   refine spRA_loop hl h hq k (i + 1) _ (by omega) (by omega) (by simp [ho]) fun j hj => ?_
   rw [getD_set' (by omega)]
   by_cases e:i = j
   ·subst e;rw [if_pos rfl,if_pos (by omega)]
   ·rw [if_neg e,hv j hj]
    split <;> split <;> first | rfl | omega
  ·exact spRA_loop hl h hq 0 i o (by omega) h0 ho hv
namespace Sp
noncomputable def spdV (l:List Pt) (a:Int):List Int:=if validE l a = 0 then spds l a else []
end Sp
theorem weak_nil2 {e:Int}:Weak (AV.tup [AV.vnil,AV.int .i64 e]) (AV.tup [AV.vec false 1 [],AV.int .i64 e]):=by
 refine .tup _ _ rfl fun i x y hx hy => ?_
 match i with
 | 0 => simp at hx hy;subst hx;subst hy;exact .vnil 1
 | 1 => simp at hx hy;subst hx;subst hy;exact .refl _
 | i + 2 => simp at hx
theorem ev10 (fl:Bool) (l:List Pt) (a:Int):Ev M1 (.pure 10 [.vec fl 3 (l.map Pt.a),.int .i64 a]) (.tup [.vec false 1 ((Sp.spdV l a).map (.int .i64)),.int .i64 (Sp.validE l a)]) []:=by
 refine call10 (kSpR _ _ _ _ ⟨fun x => ?_,fun x => ?_⟩)
 ·rw [show Sp.spdV l a = [] from if_neg x];exact weak_nil2
 ·have x:=Classical.not_not.1 x
  obtain ⟨hl,h⟩:=validE_ok x
  rw [show Sp.spdV l a = Sp.spds l a from if_pos x,x]
  refine ⟨by omega,by omega,by omega,by omega,?_⟩
  rw [show ((l.length:Int) + 1).toNat = l.length + 1 by omega]
  refine spRA_loop hl h (.refl _) l.length 1 _ (by omega) (by omega) (by simp) fun j hj => ?_
  have e:(List.replicate (l.length + 1) (0:Int)).getD j default = 0:=by simp [List.getD_eq_getElem?_getD,List.getElem?_replicate,show j < l.length + 1 by omega]
  rw [e]
  split
  ·unfold Sp.cap;rw [if_pos (by omega)]
  ·rfl
theorem take_step {l:List Pt} {i:Nat} (h:i < l.length):l.take i ++ [l.getD i default] = l.take (i + 1):=by
 rw [List.take_add_one,List.getD_eq_getElem?_getD,List.getElem?_eq_getElem h];rfl
theorem of_loop {fl f:Bool} {l:List Pt} (hl:(l.length:Int) <= 1000000000):∀ (k i v:Nat),i + k = l.length -> kOfH_at fl l (l.take i) f v l.length i (PureQ (.vec false 3 (l.map Pt.a)))
 | 0,i,v,e => by
  refine kOfH _ _ _ _ _ _ _ _ ⟨fun x => by omega,fun _ => ?_⟩
  rw [show i = l.length by omega,List.take_length]
  exact .refl _
 | k + 1,i,v,e => by
  refine kOfH _ _ _ _ _ _ _ _ ⟨fun x => ?_,fun x => by omega⟩
  rw [Int.toNat_natCast]
  refine ⟨by omega,by omega,by rw [List.length_take];omega,by omega,?_⟩
  rw [show (i:Int) + 1 = ((i + 1:Nat):Int) by omega]
  show kOfH_at fl l (l.take i ++ [l.getD i default]) f (v + 1) l.length _ _
  rw [take_step (by omega)]
  exact of_loop hl k (i + 1) (v + 1) (by omega)
theorem ev9 (fl:Bool) (l:List Pt) (h:(l.length:Int) <= 1000000000):Ev M1 (.pure 9 [.vec fl 3 (l.map Pt.a)]) (.vec false 3 (l.map Pt.a)) []:=by
 refine call9 (kOf _ _ _ ?_)
 refine kOfN _ _ _ _ _ ⟨fun x => ⟨by omega,by omega,by omega,?_⟩,fun x => ?_⟩
 ·show kOfH_at fl l [l.getD 0 default] false 0 l.length _ _
  have e:=take_step (l:=l) (i:=0) (by omega)
  rw [show [l.getD 0 default] = l.take 1 by simpa using e]
  exact of_loop h (l.length - 1) 1 0 (by omega)
 ·have:l = []:=List.eq_nil_of_length_eq_zero (by omega)
  subst this
  exact .vnil 3
theorem eq_loop {f g:Bool} {s t:List Int} {dq:AV} (h:s.length = t.length) (hs:(s.length:Int) <= 1000000000):∀ (k i:Nat),i + k = s.length -> AV.bool (decide (s.drop i = t.drop i)) = dq -> kEqH_at f g s t s.length i (PureQ dq)
 | 0,i,e,hq => by
  refine kEqH _ _ _ _ _ _ _ ⟨fun x => by omega,fun _ => ?_⟩
  rw [List.drop_eq_nil_of_le (by omega),List.drop_eq_nil_of_le (by omega)] at hq
  exact hq
 | k + 1,i,e,hq => by
  rw [drop_getD (d:=s) (i:=i) (by omega),drop_getD (d:=t) (i:=i) (by omega)] at hq
  refine kEqH _ _ _ _ _ _ _ ⟨fun x => ?_,fun x => by omega⟩
  rw [Int.toNat_natCast]
  refine ⟨by omega,by omega,by omega,fun y => ?_,fun y => ⟨by omega,?_⟩⟩
  ·rw [decide_eq_false (fun z => y (List.cons.inj z).1)] at hq;exact hq
  ·rw [show (i:Int) + 1 = ((i + 1:Nat):Int) by omega]
   refine eq_loop h hs k (i + 1) (by omega) ?_
   rw [<- hq]
   congr 1
   refine dec_iff ⟨fun z => ?_,fun z => (List.cons.inj z).2⟩
   rw [Classical.not_not.1 y,z]
theorem ev13 (f g:Bool) (s t:List Int) (h:(s.length:Int) <= 1000000000):Ev M1 (.pure 13 [.vec f 1 (s.map (.int .i64)),.vec g 1 (t.map (.int .i64))]) (.bool (decide (s = t))) []:=by
 refine call13 (kEq _ _ _ _ _ ⟨fun x => ?_,fun x => ?_⟩)
 ·rw [decide_eq_false]
  intro e
  exact x (by rw [e])
 ·exact eq_loop (by omega) h s.length 0 (by omega) rfl
end Go.Av

namespace Go.Av
open Go.Proofs
set_option maxRecDepth 100000
def fi67:Fi:=⟨41,[.tmp 4]⟩
def kp67:List (Nat × List Nat):=[(0,[0,1]),(1,[0,1,10]),(2,[15]),(3,[4]),(4,[4]),(5,[0,1,5]),(6,[0,1,5,20]),(7,[0,1,5]),(8,[0,1,5,31]),(9,[4]),(10,[0,1,5,40]),(11,[4]),(12,[4])]
def fi70:Fi:=⟨15,[.tmp 2]⟩
def kp70:List (Nat × List Nat):=[(0,[0]),(1,[0,3]),(2,[0,3,5]),(3,[0,3]),(4,[0,3]),(5,[2])]
def fi89:Fi:=⟨21,[.tmp 2]⟩
def kp89:List (Nat × List Nat):=[(0,[0]),(1,[0,14]),(2,[0]),(3,[2])]
def rTrim_at (fa:Bool) (a:List Int) (Q:AV -> Heap -> Prop):Prop:=Wp M1 (.run fi89 (atC (cd Try.f89) []) [(0,.vec fa 1 (a.map (.int .u32)))] []) Q
def rTrimA_at (fa:Bool) (a:List Int) (Q:AV -> Heap -> Prop):Prop:=Wp M1 (.run fi89 (atC (cd Try.f89) [1,0,0,0]) [(0,.vec fa 1 (a.map (.int .u32)))] []) Q
def rLimbs_at (u:Int) (Q:AV -> Heap -> Prop):Prop:=Wp M1 (.run fi70 (atC (cd Try.f70) []) [(0,.int .u64 u)] []) Q
def rLimbs0_at (u:Int) (Q:AV -> Heap -> Prop):Prop:=Wp M1 (.run fi70 (atC (cd Try.f70) [1,1,0,0,0]) [(0,.int .u64 u),(3,.vnil)] []) Q
def rLimbsA_at (u:Int) (o:List Int) (v:Nat) (Q:AV -> Heap -> Prop):Prop:=Wp M1 (.run fi70 (atC (cd Try.f70) [1,1,0,0,0]) [(0,.int .u64 u),(3,.row 0 v)] [⟨o.map (.int .u32),1,v,false,true⟩]) Q
def rCompare_at (fa fb:Bool) (a b:List Int) (Q:AV -> Heap -> Prop):Prop:=Wp M1 (.run fi67 (atC (cd Try.f67) []) [(0,.vec fa 1 (a.map (.int .u32))),(1,.vec fb 1 (b.map (.int .u32)))] []) Q
def rCompareA_at (fa fb:Bool) (a b:List Int) (i:Int) (Q:AV -> Heap -> Prop):Prop:=Wp M1 (.run fi67 (atC (cd Try.f67) [1,1,0,1,0,0]) [(0,.vec fa 1 (a.map (.int .u32))),(1,.vec fb 1 (b.map (.int .u32))),(5,.int .i64 i)] []) Q
theorem call67 {args:List AV} {d:AV} (h:wc M1 fi67 Try.f67 args d):Ev M1 (.pure 67 args) d []:=pcl _ _ (by kernel_rfl) h
theorem call70 {args:List AV} {d:AV} (h:wc M1 fi70 Try.f70 args d):Ev M1 (.pure 70 args) d []:=pcl _ _ (by kernel_rfl) h
theorem call89 {args:List AV} {d:AV} (h:wc M1 fi89 Try.f89 args d):Ev M1 (.pure 89 args) d []:=pcl _ _ (by kernel_rfl) h
theorem rTrim (fa:Bool) (a:List Int)  (dq:AV) (H :
  rTrimA_at (fa) (a) (PureQ dq)) :
 rTrim_at fa a (PureQ dq):=by
 unfold rTrim_at
 exact path_wp (G:=given kp89 [] []) 1000 [] ⟨(atC (cd Try.f89) [1,0,0,0]),[(0,AV.vec fa 1 (us a))],[],_,[],_⟩ (by kernel_rfl) b0 q0 c0 (H)
theorem rTrimA (fa:Bool) (a:List Int)  (dq:AV) (H :
  (-9223372036854775808 <= (↑a.length:Int) - 1 /\ (↑a.length:Int) - 1 <= 9223372036854775807) /\
  (((↑a.length:Int) > 0) -> (0 <= (↑a.length:Int) - 1)) /\
  (((↑a.length:Int) > 0) -> (((↑a.length:Int) - 1).toNat < a.length)) /\
  ((((↑a.length:Int) > 0) /\ (a.getD ((↑a.length:Int) - 1).toNat default = 0)) -> (0 <= (↑a.length:Int) - 1) /\
   (0 <= ((↑a.length:Int) - 1).toNat) /\
   (((↑a.length:Int) - 1).toNat <= a.length) /\
   rTrimA_at (fa && false) (List.drop 0 (List.take ((↑a.length:Int) - 1).toNat a)) (PureQ dq)) /\
  (¬(((↑a.length:Int) > 0) /\ (a.getD ((↑a.length:Int) - 1).toNat default = 0)) -> Weak (AV.vec fa 1 (us a)) dq)) :
 rTrimA_at fa a (PureQ dq):=by
 unfold rTrimA_at
 have w1:(us a).length = a.length:=List.length_map ..
 obtain ⟨k2,H⟩:=H
 have w3:wi ((↑a.length:Int) - 1) = (↑a.length:Int) - 1:=wI64 k2
 have i4:(!(decide ((↑(us a).length:Int) > 0) == true && true) || decide (0 <= wi ((↑(us a).length:Int) - 1))) = true ↔ (((↑a.length:Int) > 0) -> (0 <= (↑a.length:Int) - 1)):=(by (try rw [w1]);(try rw [w3]);all_goals exact (i_imp (i_at (i_bt i_dec)) i_dec))
 obtain ⟨k5,H⟩:=H
 have i6:(!(decide ((↑(us a).length:Int) > 0) == true && true) || decide ((wi ((↑(us a).length:Int) - 1)).toNat < (us a).length)) = true ↔ (((↑a.length:Int) > 0) -> (((↑a.length:Int) - 1).toNat < a.length)):=(by (try rw [w1]);(try rw [w3]);all_goals exact (i_imp (i_at (i_bt i_dec)) i_dec))
 obtain ⟨k7,H⟩:=H
 have i9:(bif decide ((↑(us a).length:Int) > 0) then a.getD ((↑a.length:Int) - 1).toNat default == 0 else false) = true ↔ (((↑a.length:Int) > 0) /\ (a.getD ((↑a.length:Int) - 1).toNat default = 0)):=(by (try rw [w1]);all_goals exact (i_band i_dec i_eq))
 refine path_wp (G:=given kp89 [(1,9,.elem (vu (a.getD ((↑a.length:Int) - 1).toNat default)))] []) 3 [] ⟨(atC (cd Try.f89) [1,0,0,0,0,1]),[(0,AV.vec fa 1 (us a)),(14,vb (bif decide ((↑(us a).length:Int) > 0) then a.getD ((↑a.length:Int) - 1).toNat default == 0 else false))],[],_,[((decide ((↑(us a).length:Int) > 0) == true && true) = true -> (us a).get?Internal (wi ((↑(us a).length:Int) - 1)).toNat = some (vu (a.getD ((↑a.length:Int) - 1).toNat default)))],_⟩ (by kernel_rfl) (bc (i4.2 k5) (bc (i6.2 k7) b0)) (qc (by (try rw [w1]);(try rw [w3]);all_goals exact (fun h => el_map (k7 ((i_at (i_bt i_dec)).1 h)))) q0) c0 ?_
 rcases xm (((↑a.length:Int) > 0) /\ (a.getD ((↑a.length:Int) - 1).toNat default = 0)) with d10 | d10
 ·have H:=H.1 d10
  have i11:(decide (0 <= wi ((↑(us a).length:Int) - 1))) = true ↔ (0 <= (↑a.length:Int) - 1):=(by (try rw [w1]);(try rw [w3]);all_goals exact i_dec)
  obtain ⟨k12,H⟩:=H
  have i13:(decide (0 <= (wi ((↑(us a).length:Int) - 1)).toNat)) = true ↔ (0 <= ((↑a.length:Int) - 1).toNat):=(by (try rw [w1]);(try rw [w3]);all_goals exact i_dec)
  obtain ⟨k14,H⟩:=H
  have i15:(decide ((wi ((↑(us a).length:Int) - 1)).toNat <= (us a).length)) = true ↔ (((↑a.length:Int) - 1).toNat <= a.length):=(by (try rw [w1]);(try rw [w3]);all_goals exact i_dec)
  obtain ⟨k16,H⟩:=H
  have w17:List.take ((↑a.length:Int) - 1).toNat (us a) = us (List.take ((↑a.length:Int) - 1).toNat a):=(lm_take rfl)
  have w18:List.drop 0 (us (List.take ((↑a.length:Int) - 1).toNat a)) = us (List.drop 0 (List.take ((↑a.length:Int) - 1).toNat a)):=(lm_drop rfl)
  exact path_wp (G:=given kp89 [] []) 1000 [true] ⟨(atC (cd Try.f89) [1,0,0,0]),[(0,AV.vec (fa && false) 1 (List.drop 0 (List.take (wi ((↑(us a).length:Int) - 1)).toNat (us a))))],[],_,[],_⟩ (by kernel_rfl) (bc (beq_t (i9.2 d10)) (bc (i11.2 k12) (bc (i13.2 k14) (bc (i15.2 k16) b0)))) q0 c0 (by (try rw [w1]);(try rw [w3]);(try rw [w17]);(try rw [w18]);all_goals exact H)
 ·have H:=H.2 d10
  exact path_rq (G:=given kp89 [] []) 1000 [false] (AV.vec fa 1 (us a)) (by kernel_rfl) (bc (beq_f (fun h => d10 (i9.1 h))) b0) q0 c0 H
theorem rLimbs (u:Int)  (dq:AV) (H :
  rLimbs0_at (u) (PureQ dq)) :
 rLimbs_at u (PureQ dq):=by
 unfold rLimbs_at
 exact path_wp (G:=given kp70 [] []) 1000 [] ⟨(atC (cd Try.f70) [1,1,0,0,0]),[(0,vw u),(3,AV.vnil)],[],_,[],_⟩ (by kernel_rfl) b0 q0 c0 (H)
theorem rLimbs0 (u:Int)  (dq:AV) (H :
  ((u > 0) -> (0 <= u.tmod 1000000000 /\ u.tmod 1000000000 <= 4294967295) /\
   (0 <= u.tdiv 1000000000 /\ u.tdiv 1000000000 <= 18446744073709551615) /\
   rLimbsA_at (u.tdiv 1000000000) ([u.tmod 1000000000]) (0) (PureQ dq)) /\
  (¬(u > 0) -> Weak (AV.vnil) dq)) :
 rLimbs0_at u (PureQ dq):=by
 unfold rLimbs0_at
 rcases xm (u > 0) with d2 | d2
 ·have H:=H.1 d2
  obtain ⟨k3,H⟩:=H
  have w4:wv (u.tmod 1000000000) = u.tmod 1000000000:=wU32 k3
  obtain ⟨k5,H⟩:=H
  have w6:wu (u.tdiv 1000000000) = u.tdiv 1000000000:=wU64 k5
  have w7:[vu (u.tmod 1000000000)] = us [u.tmod 1000000000]:=rfl
  exact path_wp (G:=given kp70 [] []) 1000 [true] ⟨(atC (cd Try.f70) [1,1,0,0,0]),[(0,vw (wu (u.tdiv 1000000000))),(3,AV.row 0 0)],[⟨[vu (wv (u.tmod 1000000000))],1,0,false,true⟩],_,[],_⟩ (by kernel_rfl) (bc (beq_t (i_dec.2 d2)) (bc rfl (bc rfl (bc rfl b0)))) q0 c0 (by (try rw [w4]);(try rw [w6]);(try rw [w7]);all_goals exact H)
 ·have H:=H.2 d2
  exact path_rq (G:=given kp70 [] []) 1000 [false] (AV.vnil) (by kernel_rfl) (bc (beq_f (fun h => d2 (i_dec.1 h))) b0) q0 c0 H
theorem rLimbsA (u:Int) (o:List Int) (v:Nat)  (dq:AV) (H :
  ((u > 0) -> (0 <= u.tmod 1000000000 /\ u.tmod 1000000000 <= 4294967295) /\
   ((o.length + 1) * 4 <= 1099511627776) /\
   (0 <= u.tdiv 1000000000 /\ u.tdiv 1000000000 <= 18446744073709551615) /\
   rLimbsA_at (u.tdiv 1000000000) (o ++ [u.tmod 1000000000]) (v + 1) (PureQ dq)) /\
  (¬(u > 0) -> Weak (vf (us o)) dq)) :
 rLimbsA_at u o v (PureQ dq):=by
 unfold rLimbsA_at
 rcases xm (u > 0) with d2 | d2
 ·have H:=H.1 d2
  have w3:(us o).length = o.length:=List.length_map ..
  obtain ⟨k4,H⟩:=H
  have w5:wv (u.tmod 1000000000) = u.tmod 1000000000:=wU32 k4
  have i6:(decide (((us o).length + 1) * 4 <= 1099511627776)) = true ↔ ((o.length + 1) * 4 <= 1099511627776):=(by (try rw [w3]);(try rw [w5]);all_goals exact i_dec)
  obtain ⟨k7,H⟩:=H
  have w8:us o ++ [vu (u.tmod 1000000000)] = us (o ++ [u.tmod 1000000000]):=(lm_app rfl rfl)
  obtain ⟨k9,H⟩:=H
  have w10:wu (u.tdiv 1000000000) = u.tdiv 1000000000:=wU64 k9
  exact path_wp (G:=given kp70 [] []) 1000 [true] ⟨(atC (cd Try.f70) [1,1,0,0,0]),[(0,vw (wu (u.tdiv 1000000000))),(3,AV.row 0 (v + 1))],[⟨us o ++ [vu (wv (u.tmod 1000000000))],1,v + 1,false,true⟩],[(decide (u > 0)) == true,true,v == v,decide (((us o).length + 1) * 4 <= 1099511627776),true],[],_⟩ (by kernel_rfl) (bc (beq_t (i_dec.2 d2)) (bc rfl (bc (beq_self_eq_true _) (bc (i6.2 k7) (bc rfl b0))))) q0 c0 (by (try rw [w5]);(try rw [w8]);(try rw [w10]);all_goals exact H)
 ·have H:=H.2 d2
  exact path_ret (G:=given kp70 [] []) 1000 [false] (k:=((atC (cd Try.f70) [1,1,1,1])).tail) (env':=[(2,AV.row 0 v)]) (L':=[⟨us o,1,v,false,true⟩]) (asm:=[(decide (u > 0)) == false]) (eqs:=[]) (calls:=[]) (AV.row 0 v) (by kernel_rfl) (by kernel_rfl) (allB_cons (beq_f (fun h => d2 (i_dec.1 h))) allB_nil) allP_nil allC_nil (pq_weak (d:=(vf (us o))) (bs:=[v == v]) (by kernel_rfl) (by kernel_rfl) (allB_cons (beq_self_eq_true _) allB_nil) (by kernel_rfl) H)
theorem rCompare (fa fb:Bool) (a b:List Int)  (dq:AV) (H :
  ((¬(↑a.length:Int) = (↑b.length:Int)) -> (((↑a.length:Int) < (↑b.length:Int)) -> vi (-1) = dq) /\
   (¬((↑a.length:Int) < (↑b.length:Int)) -> vi 1 = dq)) /\
  (¬(¬(↑a.length:Int) = (↑b.length:Int)) -> (-9223372036854775808 <= (↑a.length:Int) - 1 /\ (↑a.length:Int) - 1 <= 9223372036854775807) /\
   rCompareA_at (fa) (fb) (a) (b) ((↑a.length:Int) - 1) (PureQ dq))) :
 rCompare_at fa fb a b (PureQ dq):=by
 unfold rCompare_at
 have w1:(us a).length = a.length:=List.length_map ..
 have w2:(us b).length = b.length:=List.length_map ..
 have i3:((↑(us a).length:Int) != (↑(us b).length:Int)) = true ↔ (¬(↑a.length:Int) = (↑b.length:Int)):=(by (try rw [w1]);(try rw [w2]);all_goals exact i_ne)
 rcases xm (¬(↑a.length:Int) = (↑b.length:Int)) with d4 | d4
 ·have H:=H.1 d4
  have i5:(decide ((↑(us a).length:Int) < (↑(us b).length:Int))) = true ↔ ((↑a.length:Int) < (↑b.length:Int)):=(by (try rw [w1]);(try rw [w2]);all_goals exact i_dec)
  rcases xm ((↑a.length:Int) < (↑b.length:Int)) with d6 | d6
  ·have H:=H.1 d6
   exact path_re (G:=given kp67 [] []) 1000 [true,true] (vi (-1)) (by kernel_rfl) (bc (beq_t (i3.2 d4)) (bc (beq_t (i5.2 d6)) b0)) q0 c0 H
  ·have H:=H.2 d6
   exact path_re (G:=given kp67 [] []) 1000 [true,false] (vi 1) (by kernel_rfl) (bc (beq_t (i3.2 d4)) (bc (beq_f (fun h => d6 (i5.1 h))) b0)) q0 c0 H
 ·have H:=H.2 d4
  obtain ⟨k7,H⟩:=H
  have w8:wi ((↑a.length:Int) - 1) = (↑a.length:Int) - 1:=wI64 k7
  exact path_wp (G:=given kp67 [] []) 1000 [false] ⟨(atC (cd Try.f67) [1,1,0,1,0,0]),[(0,AV.vec fa 1 (us a)),(1,AV.vec fb 1 (us b)),(5,vi (wi ((↑(us a).length:Int) - 1)))],[],_,[],_⟩ (by kernel_rfl) (bc (beq_f (fun h => d4 (i3.1 h))) b0) q0 c0 (by (try rw [w1]);(try rw [w8]);all_goals exact H)
theorem rCompareA (fa fb:Bool) (a b:List Int) (i:Int)  (dq:AV) (H :
  ((i >= 0) -> (0 <= i) /\
   (i.toNat < a.length) /\
   (i.toNat < b.length) /\
   ((a.getD i.toNat default < b.getD i.toNat default) -> vi (-1) = dq) /\
   (¬(a.getD i.toNat default < b.getD i.toNat default) -> ((a.getD i.toNat default > b.getD i.toNat default) -> vi 1 = dq) /\
    (¬(a.getD i.toNat default > b.getD i.toNat default) -> (-9223372036854775808 <= i - 1 /\ i - 1 <= 9223372036854775807) /\
     rCompareA_at (fa) (fb) (a) (b) (i - 1) (PureQ dq)))) /\
  (¬(i >= 0) -> vi 0 = dq)) :
 rCompareA_at fa fb a b i (PureQ dq):=by
 unfold rCompareA_at
 rcases xm (i >= 0) with d2 | d2
 ·have H:=H.1 d2
  obtain ⟨k4,H⟩:=H
  have w5:(us a).length = a.length:=List.length_map ..
  have i6:(decide (i.toNat < (us a).length)) = true ↔ (i.toNat < a.length):=(by (try rw [w5]);all_goals exact i_dec)
  obtain ⟨k7,H⟩:=H
  have w9:(us b).length = b.length:=List.length_map ..
  have i10:(decide (i.toNat < (us b).length)) = true ↔ (i.toNat < b.length):=(by (try rw [w9]);all_goals exact i_dec)
  obtain ⟨k11,H⟩:=H
  refine path_wp (G:=given kp67 [(8,3,.elem (vu (a.getD i.toNat default))),(8,7,.elem (vu (b.getD i.toNat default)))] []) 10 [true] ⟨(atC (cd Try.f67) [1,1,0,1,0,0,1,0,0,0,1]),[(0,AV.vec fa 1 (us a)),(1,AV.vec fb 1 (us b)),(5,vi i),(31,vb (decide (a.getD i.toNat default < b.getD i.toNat default)))],[],_,[((us a).get?Internal i.toNat = some (vu (a.getD i.toNat default))),((us b).get?Internal i.toNat = some (vu (b.getD i.toNat default)))],_⟩ (by kernel_rfl) (bc (beq_t (i_dec.2 d2)) (bc (i_dec.2 k4) (bc (i6.2 k7) (bc (i_dec.2 k4) (bc (i10.2 k11) b0))))) (qc (el_map k7) (qc (el_map k11) q0)) c0 ?_
  rcases xm (a.getD i.toNat default < b.getD i.toNat default) with d13 | d13
  ·have H:=H.1 d13
   exact path_re (G:=given kp67 [] []) 1000 [true] (vi (-1)) (by kernel_rfl) (bc (beq_t (i_dec.2 d13)) b0) q0 c0 H
  ·have H:=H.2 d13
   have i15:(decide (i.toNat < (us a).length)) = true ↔ (i.toNat < a.length):=(by (try rw [w5]);all_goals exact i_dec)
   have i17:(decide (i.toNat < (us b).length)) = true ↔ (i.toNat < b.length):=(by (try rw [w9]);all_goals exact i_dec)
   refine path_wp (G:=given kp67 [(10,3,.elem (vu (a.getD i.toNat default))),(10,7,.elem (vu (b.getD i.toNat default)))] []) 4 [false] ⟨(atC (cd Try.f67) [1,1,0,1,0,0,1,0,0,1,1]),[(0,AV.vec fa 1 (us a)),(1,AV.vec fb 1 (us b)),(5,vi i),(40,vb (decide (a.getD i.toNat default > b.getD i.toNat default)))],[],_,[((us a).get?Internal i.toNat = some (vu (a.getD i.toNat default))),((us b).get?Internal i.toNat = some (vu (b.getD i.toNat default)))],_⟩ (by kernel_rfl) (bc (beq_f (fun h => d13 (i_dec.1 h))) (bc (i_dec.2 k4) (bc (i15.2 k7) (bc (i_dec.2 k4) (bc (i17.2 k11) b0))))) (qc (el_map k7) (qc (el_map k11) q0)) c0 ?_
   rcases xm (a.getD i.toNat default > b.getD i.toNat default) with d19 | d19
   ·have H:=H.1 d19
    exact path_re (G:=given kp67 [] []) 1000 [true] (vi 1) (by kernel_rfl) (bc (beq_t (i_dec.2 d19)) b0) q0 c0 H
   ·have H:=H.2 d19
    obtain ⟨k20,H⟩:=H
    have w21:wi (i - 1) = i - 1:=wI64 k20
    exact path_wp (G:=given kp67 [] []) 1000 [false] ⟨(atC (cd Try.f67) [1,1,0,1,0,0]),[(0,AV.vec fa 1 (us a)),(1,AV.vec fb 1 (us b)),(5,vi (wi (i - 1)))],[],_,[],_⟩ (by kernel_rfl) (bc (beq_f (fun h => d19 (i_dec.1 h))) b0) q0 c0 (by (try rw [w21]);all_goals exact H)
 ·have H:=H.2 d2
  exact path_re (G:=given kp67 [] []) 1000 [false] (vi 0) (by kernel_rfl) (bc (beq_f (fun h => d2 (i_dec.1 h))) b0) q0 c0 H
end Go.Av

namespace Go.Av
open Go.Proofs
namespace Sp
def trimF:Nat -> List Int -> List Int
 | 0,a => a
 | n + 1,a => if a.getD n default = 0 then trimF n (a.take n) else a
end Sp
theorem loopTrimR:∀ (n:Nat) (fa:Bool) (a:List Int),a.length = n -> n <= 1000000 -> rTrimA_at fa a (PureQ (usA false (Sp.trimF n a)))
 | 0,fa,a,hl,hk => rTrimA _ _ _ ⟨by omega,fun h => by omega,fun h => by omega,fun h => by omega,fun _ => weak_vec _ _ _⟩
 | n + 1,fa,a,hl,hk => by
  have e1:((a.length:Int) - 1).toNat = n:=by omega
  refine rTrimA _ _ _ ⟨by omega,fun _ => by omega,fun _ => by omega,fun h => ?_,fun h => ?_⟩
  ·rw [e1] at h ⊢
   refine ⟨by omega,by omega,by omega,?_⟩
   rw [List.drop_zero]
   have:=loopTrimR n (fa && false) (a.take n) (by simp;omega) (by omega)
   rw [Sp.trimF,if_pos h.2];exact this
  ·rw [e1] at h
   rw [Sp.trimF,if_neg (fun x => h ⟨by omega,x⟩)]
   exact weak_vec _ _ _
theorem trimF_limN:∀ (k v:Nat),Sp.fits k v -> Sp.trimF k (Sp.limN k v) = Sp.lim v
 | 0,v,hf => by
  have h0:=fits_zero.1 hf
  subst h0
  rw [lim_zero];rfl
 | k + 1,v,hf => by
  rw [Sp.trimF]
  by_cases h:Sp.fits k v
  ·rw [if_pos ((limN_top hf).2 h),limN_take]
   exact trimF_limN k v h
  ·rw [if_neg (fun x => h ((limN_top hf).1 x)),lim_of hf (.inr (by simpa using h))]
theorem rtrimN (fa:Bool) (k v:Nat) (h:Sp.short k /\ Sp.fits k v):Ev M1 (.pure 89 [usA fa (Sp.limN k v)]) (usA false (Sp.lim v)) []:=by
 have:=loopTrimR k fa (Sp.limN k v) (limN_len k v) h.1
 rw [trimF_limN k v h.2] at this
 exact call89 (rTrim _ _ _ this)
theorem ev89 (fa:Bool) (k v:Nat) (h:Sp.short k /\ Sp.fits k v):Ev M1 (.pure 89 [usA fa (Sp.limN k v)]) (usA false (Sp.lim v)) []:=rtrimN fa k v h
theorem tdivB (x:Nat):(x:Int).tdiv 1000000000 = ((x / 1000000000:Nat):Int):=by
 rw [Int.tdiv_eq_ediv_of_nonneg (by omega)];omega
theorem tmodB (x:Nat):(x:Int).tmod 1000000000 = ((x % 1000000000:Nat):Int):=by
 rw [Int.tmod_eq_emod_of_nonneg (by omega)];omega
theorem le4 {x:Nat} (h:x < 1000000000):0 <= (x:Int) /\ (x:Int) <= 4294967295:=by omega
theorem le8 {x:Nat} (h:x <= 18446744073709551615):0 <= (x:Int) /\ (x:Int) <= 18446744073709551615:=by omega
theorem limN_step (n u:Nat):Sp.limN n u ++ [((u / 1000000000 ^ n % 1000000000:Nat):Int)] = Sp.limN (n + 1) u:=(limN_snoc n u).symm
theorem loopLimbs {u0:Nat}:∀ (m n v:Nat),m + n = 100 -> u0 / 1000000000 ^ n < 1000000000 ^ m -> n <= 100 -> (u0 / 1000000000 ^ n ≠ 0 \/ n = Sp.cnt u0) -> u0 <= 18446744073709551615 ->
  rLimbsA_at (u0 / 1000000000 ^ n:Nat) (Sp.limN n u0) v (PureQ (usA false (Sp.lim u0)))
 | 0,n,v,hmn,hlt,hn,hne,hu => by
  have h0:u0 / 1000000000 ^ n = 0:=by simpa using hlt
  rcases hne with h | h
  ·exact absurd h0 h
  ·subst h
   exact rLimbsA _ _ _ _ ⟨fun h => by omega,fun _ => .refl _⟩
 | m + 1,n,v,hmn,hlt,hn,hne,hu => by
  by_cases h0:u0 / 1000000000 ^ n = 0
  ·rcases hne with h | h
   ·exact absurd h0 h
   ·subst h
    exact rLimbsA _ _ _ _ ⟨fun h => by omega,fun _ => .refl _⟩
  ·have hb:u0 / 1000000000 ^ n <= 18446744073709551615:=Nat.le_trans (Nat.div_le_self _ _) hu
   have c3:((u0 / 1000000000 ^ n:Nat):Int).tdiv 1000000000 = ((u0 / 1000000000 ^ (n + 1):Nat):Int):=by
    rw [tdivB,div_next]
   have c4:((u0 / 1000000000 ^ n:Nat):Int).tmod 1000000000 = ((u0 / 1000000000 ^ n % 1000000000:Nat):Int):=tmodB _
   have hpos:((u0 / 1000000000 ^ n:Nat):Int) > 0:=by exact_mod_cast Nat.pos_of_ne_zero h0
   have hb2:u0 / 1000000000 ^ (n + 1) <= 18446744073709551615:=Nat.le_trans (Nat.div_le_self _ _) hu
   have hm:u0 / 1000000000 ^ n % 1000000000 < 1000000000:=Nat.mod_lt _ (by omega)
   refine rLimbsA _ _ _ _ ⟨fun _ => ?_,fun h => absurd hpos h⟩
   have hl:=limN_len n u0
   rw [c3,c4,limN_step]
   have hd:=div_next u0 n
   refine ⟨le4 hm,by omega,le8 hb2,loopLimbs m (n + 1) (v + 1) (by omega) ?_ (by omega) ?_ hu⟩
   ·rw [<- hd]
    rw [Nat.pow_succ] at hlt
    exact Nat.div_lt_of_lt_mul (by rwa [Nat.mul_comm])
   ·by_cases hz:u0 / 1000000000 ^ (n + 1) = 0
    ·right
     have f1:Sp.fits (n + 1) u0:=fits_top0.2 hz
     have f2:¬Sp.fits n u0:=fun f => h0 (fits_top0.1 f)
     have:=fits_cnt.1 f1
     have:¬Sp.cnt u0 <= n:=fun x => f2 (fits_cnt.2 x)
     omega
    ·exact .inl hz
theorem ev70 (u:Int) (h:0 <= u /\ u <= 18446744073709551615):Ev M1 (.pure 70 [.int .u64 u]) (usA false (Sp.lim u.toNat)) []:=by
 obtain ⟨n,rfl⟩:=Int.eq_ofNat_of_zero_le h.1
 rw [Int.toNat_natCast]
 refine call70 (rLimbs _ _ (rLimbs0 _ _ ⟨fun h0 => ?_,fun h0 => ?_⟩))
 ·have hlt:n / 1000000000 < 1000000000 ^ 99:=by omega
  have hr:=loopLimbs (u0:=n) 99 1 0 (by omega) (by simpa using hlt) (by omega) (by
   by_cases hz:n / 1000000000 = 0
   ·right
    have f1:Sp.fits 1 n:=by unfold Sp.fits;omega
    have:=fits_cnt.1 f1
    have:Sp.cnt n ≠ 0:=fun e => by have:=cnt_eq_zero.1 e;omega
    omega
   ·left;simpa using hz) (by omega)
  have c3:(n:Int).tdiv 1000000000 = ((n / 1000000000:Nat):Int):=by
   rw [Int.tdiv_eq_ediv_of_nonneg (by omega)];omega
  have c4:(n:Int).tmod 1000000000 = ((n % 1000000000:Nat):Int):=by
   rw [Int.tmod_eq_emod_of_nonneg (by omega)];omega
  have e:Sp.limN 1 n = [((n % 1000000000:Nat):Int)]:=rfl
  rw [e,Nat.pow_one] at hr
  rw [c3,c4]
  exact ⟨by omega,by omega,hr⟩
 ·have:n = 0:=by omega
  subst this
  rw [lim_zero];exact .vnil 1
theorem loopCompareR {fa fb:Bool} {n v w:Nat} {dq:AV} (hn:n <= 1000000) (hq:AV.int .i64 (Sp.sgnI ((v:Int) - w)) = dq):∀ (k:Nat),k <= n -> v / 1000000000 ^ k = w / 1000000000 ^ k -> rCompareA_at fa fb (Sp.limN n v) (Sp.limN n w) ((k:Int) - 1) (PureQ dq)
 | 0,hk,he => by
  have e:v = w:=by simpa using he
  refine rCompareA _ _ _ _ _ _ ⟨fun h => by omega,fun _ => ?_⟩
  rw [<- hq,e]
  congr 1
  unfold Sp.sgnI
  rw [if_neg (by omega),if_neg (by omega)]
 | k + 1,hk,he => by
  have e1:(((k + 1:Nat):Int) - 1) = (k:Nat):=by omega
  rw [e1]
  refine rCompareA _ _ _ _ _ _ ⟨fun _ => ?_,fun h => by omega⟩
  rw [Int.toNat_natCast,limN_getD v (show k < n by omega),limN_getD w (show k < n by omega),limN_len,limN_len]
  have s1:=digit_split v k
  have s2:=digit_split w k
  rw [<- he] at s2
  refine ⟨by omega,by omega,by omega,fun h => ?_,fun h => ⟨fun h2 => ?_,fun h2 => ⟨by omega,?_⟩⟩⟩
  ·have:=digit_lt (v:=v) (w:=w) (i:=k) (by omega)
   rw [<- hq];congr 1
   unfold Sp.sgnI
   rw [if_pos (by omega)]
  ·have:=digit_lt (v:=w) (w:=v) (i:=k) (by omega)
   rw [<- hq];congr 1
   unfold Sp.sgnI
   rw [if_neg (by omega),if_pos (by omega)]
  ·exact loopCompareR hn hq k (by omega) (by omega)
theorem rcompareN (fa fb:Bool) (v w:Nat) (h:Sp.short (Sp.cnt v) /\ Sp.short (Sp.cnt w)):Ev M1 (.pure 67 [usA fa (Sp.lim v),usA fb (Sp.lim w)]) (.int .i64 (Sp.sgnI ((v:Int) - w))) []:=by
 obtain ⟨h1,h2⟩:=h
 have h1':Sp.cnt v <= 1000000:=h1
 have h2':Sp.cnt w <= 1000000:=h2
 refine call67 (rCompare _ _ _ _ _ ?_)
 rw [lim_len,lim_len]
 refine ⟨fun h => ⟨fun k => ?_,fun k => ?_⟩,fun h => ⟨by omega,?_⟩⟩
 ·have:=cmp_len (v:=v) (w:=w) (by omega)
  congr 1
  unfold Sp.sgnI
  rw [if_pos (by omega)]
 ·have:=cmp_len (v:=w) (w:=v) (by omega)
  congr 1
  unfold Sp.sgnI
  rw [if_neg (by omega),if_pos (by omega)]
 ·have e:Sp.cnt w = Sp.cnt v:=by omega
  have hw:Sp.lim w = Sp.limN (Sp.cnt v) w:=by unfold Sp.lim;rw [e]
  rw [hw]
  refine loopCompareR (by omega) rfl (Sp.cnt v) (Nat.le_refl _) ?_
  rw [fits_div (fits_self v) (Nat.le_refl _),fits_div (fits_self w) (by omega)]
theorem ev67 (fa fb:Bool) (v w:Int) (h:Sp.ok v /\ Sp.ok w):Ev M1 (.pure 67 [usA fa (Sp.limI v),usA fb (Sp.limI w)]) (.int .i64 (Sp.sgnI ((v.natAbs:Int) - w.natAbs))) []:=rcompareN fa fb _ _ h
end Go.Av

namespace Go.Av
open Go.Proofs
set_option maxRecDepth 100000
def fi49:Fi:=⟨14,[.cell 2 52]⟩
def kp49:List (Nat × List Nat):=[(0,[0,2]),(1,[0,2,4]),(2,[2]),(3,[2])]
def fi69:Fi:=⟨15,[.cell 4 52]⟩
def kp69:List (Nat × List Nat):=[(0,[0,1,4]),(1,[0,1,4]),(2,[4])]
def rSigned_at (s fa:Bool) (k v:Nat) (Q:AV -> Heap -> Prop):Prop:=Wp M1 (.run fi69 (atC (cd Try.f69) []) [(0,.bool s),(1,.vec fa 1 ((Sp.limN k v).map (.int .u32)))] []) Q
def rFromInt64_at (n:Int) (Q:AV -> Heap -> Prop):Prop:=Wp M1 (.run fi49 (atC (cd Try.f49) []) [(0,.int .i64 n)] []) Q
theorem call49 {args:List AV} {d:AV} (h:wc M1 fi49 Try.f49 args d):Ev M1 (.pure 49 args) d []:=pcl _ _ (by kernel_rfl) h
theorem call69 {args:List AV} {d:AV} (h:wc M1 fi69 Try.f69 args d):Ev M1 (.pure 69 args) d []:=pcl _ _ (by kernel_rfl) h
theorem rSigned (s fa:Bool) (k v:Nat)  (dq:AV) (H :
  (Sp.short k /\ Sp.fits k v) /\
  Weak (ag [vb (bif s then decide ((↑(Sp.lim v).length:Int) > 0) else false),vf (us (Sp.lim v))]) dq) :
 rSigned_at s fa k v (PureQ dq):=by
 unfold rSigned_at
 obtain ⟨k1,H⟩:=H
 have w2:(us (Sp.lim v)).length = (Sp.lim v).length:=List.length_map ..
 exact path_rq (G:=given kp69 [(1,1,.call (vf (us (Sp.lim v))) none)] []) 1000 [] (ag [vb (bif s then decide ((↑(us (Sp.lim v)).length:Int) > 0) else false),vf (us (Sp.lim v))]) (by kernel_rfl) (bc rfl b0) q0 (ce (@ev89 (fa) (k) (v) k1) c0) (by (try rw [w2]);all_goals exact H)
theorem rFromInt64 (n:Int)  (dq:AV) (H :
  ((n < 0) -> (0 <= IntKind.u64.wrap (0 - IntKind.u64.wrap n) /\ IntKind.u64.wrap (0 - IntKind.u64.wrap n) <= 18446744073709551615) /\
   ∃ (b1:Bool) (l1:List (Int)),
   (Ev M1 (Conf.pure 69 [vb true,vf (us (Sp.lim (IntKind.u64.wrap (0 - IntKind.u64.wrap n)).toNat))]) (ag [vb b1,vf (us l1)]) []) /\
   Weak (ag [vb b1,vf (us l1)]) dq) /\
  (¬(n < 0) -> (0 <= IntKind.u64.wrap n /\ IntKind.u64.wrap n <= 18446744073709551615) /\
   ∃ (b2:Bool) (l2:List (Int)),
   (Ev M1 (Conf.pure 69 [vb false,vf (us (Sp.lim (IntKind.u64.wrap n).toNat))]) (ag [vb b2,vf (us l2)]) []) /\
   Weak (ag [vb b2,vf (us l2)]) dq)) :
 rFromInt64_at n (PureQ dq):=by
 unfold rFromInt64_at
 rcases xm (n < 0) with d2 | d2
 ·have H:=H.1 d2
  obtain ⟨k3,H⟩:=H
  obtain ⟨b1,l1,H⟩:=H
  obtain ⟨k4,H⟩:=H
  exact path_rq (G:=given kp49 [(2,3,.call (vf (us (Sp.lim (wu (0 - wu n)).toNat))) none),(2,4,.call (ag [vb b1,vf (us l1)]) none)] []) 1000 [true] (ag [vb b1,vf (us l1)]) (by kernel_rfl) (bc (beq_t (i_dec.2 d2)) (bc rfl b0)) q0 (ce (@ev70 (wu (0 - wu n)) k3) (ce k4 c0)) H
 ·have H:=H.2 d2
  obtain ⟨k5,H⟩:=H
  obtain ⟨b2,l2,H⟩:=H
  obtain ⟨k6,H⟩:=H
  exact path_rq (G:=given kp49 [(3,2,.call (vf (us (Sp.lim (wu n).toNat))) none),(3,3,.call (ag [vb b2,vf (us l2)]) none)] []) 1000 [false] (ag [vb b2,vf (us l2)]) (by kernel_rfl) (bc (beq_f (fun h => d2 (i_dec.1 h))) (bc rfl b0)) q0 (ce (@ev70 (wu n) k5) (ce k6 c0)) H
end Go.Av

namespace Go.Av
open Go.Proofs
theorem big_lim (f s:Bool) (v:Nat):bigA f (Sp.sg s v) = .agg [.bool (bif s then decide (((Sp.lim v).length:Int) > 0) else false),.vec f 1 ((Sp.lim v).map (.int .u32))]:=by
 rw [big_sg]
 have hc:=cnt_eq_zero (v:=v)
 have e:decide (v ≠ 0) = decide (((Sp.lim v).length:Int) > 0):=by
  rw [decide_eq_decide,lim_len];omega
 rw [e]
theorem rsignedN (s fa:Bool) (k v:Nat) (h:Sp.short k /\ Sp.fits k v):Ev M1 (.pure 69 [.bool s,usA fa (Sp.limN k v)]) (bigA false (Sp.sg s v)) []:=by
 refine call69 (rSigned _ _ _ _ _ ⟨h,?_⟩)
 rw [big_lim];exact .refl _
theorem ev69_b (s fa:Bool) (v:Nat) (h:Sp.short (Sp.cnt v)):Ev M1 (.pure 69 [.bool s,usA fa (Sp.lim v)]) (bigA false (Sp.sg s v)) []:=rsignedN s fa _ _ ⟨h,fits_self _⟩
theorem cnt_u64 {u:Nat} (h:u <= 18446744073709551615):Sp.cnt u <= 3:=fits_cnt.1 (fits3 h)
theorem ev49 (n:Int) (h:Sp.inI n):Ev M1 (.pure 49 [.int .i64 n]) (bigA false n) []:=by
 unfold Sp.inI at h
 refine call49 (rFromInt64 n _ ⟨fun k => ?_,fun k => ?_⟩)
 ·have e1:IntKind.u64.wrap (0 - IntKind.u64.wrap n) = -n:=by
   rw [wrap_neg ⟨h.1,k⟩]
   have e1:(2:Int) ^ IntKind.u64.bits = 18446744073709551616:=rfl
   have e3:IntKind.u64.signed = false:=rfl
   simp only [IntKind.wrap,e1,e3,Bool.false_and,Bool.false_eq_true,if_false]
   omega
  have e2:Sp.sg true (-n).toNat = n:=by unfold Sp.sg;rw [if_pos rfl];omega
  rw [e1]
  have:=ev69_b true false (-n).toNat (by have:=cnt_u64 (u:=(-n).toNat) (by omega);unfold Sp.short;omega)
  rw [e2] at this
  exact ⟨by omega,_,_,this,.refl _⟩
 ·have e1:IntKind.u64.wrap n = n:=wU64 ⟨by omega,by omega⟩
  have e2:Sp.sg false n.toNat = n:=by rw [sg_false];omega
  rw [e1]
  have:=ev69_b false false n.toNat (by have:=cnt_u64 (u:=n.toNat) (by omega);unfold Sp.short;omega)
  rw [e2] at this
  exact ⟨by omega,_,_,this,.refl _⟩
end Go.Av

namespace Go.Av
open Go.Proofs
set_option maxRecDepth 100000
def fi47:Fi:=⟨18,[.tmp 4]⟩
def kp47:List (Nat × List Nat):=[(0,[2,3]),(1,[4])]
def rSame_at (fa fb:Bool) (a b:Int) (Q:AV -> Heap -> Prop):Prop:=Wp M1 (.run fi47 (atC (cd Try.f47) []) [(0,bigA fa a),(1,bigA fb b)] []) Q
theorem call47 {args:List AV} {d:AV} (h:wc M1 fi47 Try.f47 args d):Ev M1 (.pure 47 args) d []:=pcl _ _ (by kernel_rfl) h
theorem rSame (fa fb:Bool) (a b:Int)  (dq:AV) (H :
  ((Sp.isNeg a = Sp.isNeg b) -> (Sp.ok a /\ Sp.ok b)) /\
  vb (bif Sp.isNeg a == Sp.isNeg b then Sp.sgnI ((↑a.natAbs:Int) - (↑b.natAbs:Int)) == 0 else false) = dq) :
 rSame_at fa fb a b (PureQ dq):=by
 unfold rSame_at
 obtain ⟨k2,H⟩:=H
 exact path_re (G:=given kp47 [(1,10,.call (vi (Sp.sgnI ((↑a.natAbs:Int) - (↑b.natAbs:Int)))) none)] []) 1000 [] (asm:=[true,true,!((Sp.isNeg a == Sp.isNeg b) == true && true) || true,!((Sp.isNeg a == Sp.isNeg b) == true && true) || true]) (calls:=[⟨(Sp.isNeg a == Sp.isNeg b) == true && true && true,false,67,[AV.vec fa 1 (us (Sp.limI a)),AV.vec fb 1 (us (Sp.limI b))],[],vi (Sp.sgnI ((↑a.natAbs:Int) - (↑b.natAbs:Int))),[]⟩]) (vb (bif Sp.isNeg a == Sp.isNeg b then Sp.sgnI ((↑a.natAbs:Int) - (↑b.natAbs:Int)) == 0 else false)) (by kernel_rfl) (bc rfl (bc rfl (bc (Bool.or_true _) (bc (Bool.or_true _) b0)))) q0 (cc (fun hc => ((@ev67 (fa) (fb) (a) (b) (k2 ((i_at (i_at (i_bt i_eq))).1 hc))):Ev M1 (Conf.pure 67 [AV.vec fa 1 (us (Sp.limI a)),AV.vec fb 1 (us (Sp.limI b))]) (vi (Sp.sgnI ((↑a.natAbs:Int) - (↑b.natAbs:Int)))) [])) c0) H
end Go.Av

namespace Go.Av
open Go.Proofs
theorem sgnI_zero {n:Int}:Sp.sgnI n = 0 ↔ n = 0:=by
 unfold Sp.sgnI
 (repeat' split) <;> omega
theorem ev47 (fa fb:Bool) (a b:Int) (h:Sp.ok a /\ Sp.ok b):Ev M1 (.pure 47 [bigA fa a,bigA fb b]) (.bool (decide (a = b))) []:=by
 refine call47 (rSame _ _ _ _ _ ⟨fun _ => h,?_⟩)
 congr 1
 by_cases ka:a < 0 <;> by_cases kb:b < 0
 ·rw [isNeg_iff.2 ka,isNeg_iff.2 kb]
  have:(Sp.sgnI ((a.natAbs:Int) - (b.natAbs:Int)) == 0) = decide (a = b):=by
   rw [Bool.eq_iff_iff,beq_iff_eq,sgnI_zero,decide_eq_true_eq];omega
  simpa using this
 ·rw [isNeg_iff.2 ka,isNeg_false kb]
  have:decide (a = b) = false:=decide_eq_false (by omega)
  rw [this];rfl
 ·rw [isNeg_false ka,isNeg_iff.2 kb]
  have:decide (a = b) = false:=decide_eq_false (by omega)
  rw [this];rfl
 ·rw [isNeg_false ka,isNeg_false kb]
  have:(Sp.sgnI ((a.natAbs:Int) - (b.natAbs:Int)) == 0) = decide (a = b):=by
   rw [Bool.eq_iff_iff,beq_iff_eq,sgnI_zero,decide_eq_true_eq];omega
  simpa using this
end Go.Av

namespace Go.Av
open Go.Proofs
end Go.Av

namespace Go.Av
open Go.Proofs
set_option maxRecDepth 100000
end Go.Av

namespace Go.Av
open Go.Proofs
end Go.Av

namespace Go.Av
open Go.Proofs
end Go.Av

namespace Go.Av
open Go.Proofs
end Go.Av

namespace Go.Av
open Go.Proofs
set_option maxRecDepth 100000
end Go.Av

namespace Go.Av
open Go.Proofs
end Go.Av

namespace Go.Av
open Go.Proofs
end Go.Av

namespace Go.Av
open Go.Proofs
set_option maxRecDepth 100000
end Go.Av

namespace Go.Av
open Go.Proofs
set_option maxRecDepth 100000
def fi82:Fi:=⟨2,[.cell 0 52]⟩
def kp82:List (Nat × List Nat):=[(0,[0]),(1,[0])]
def fi83:Fi:=⟨16,[.cell 4 52]⟩
def kp83:List (Nat × List Nat):=[(0,[2,3,4]),(1,[4,5]),(2,[4])]
def vUnit_at  (Q:AV -> Heap -> Prop):Prop:=Wp M1 (.run fi82 (atC (cd Try.f82) []) [] []) Q
def vExact_at (fa fb:Bool) (a b:Int) (Q:AV -> Heap -> Prop):Prop:=Wp M1 (.run fi83 (atC (cd Try.f83) []) [(0,bigA fa a),(1,bigA fb b)] []) Q
theorem call82 {args:List AV} {d:AV} (h:wc M1 fi82 Try.f82 args d):Ev M1 (.pure 82 args) d []:=pcl _ _ (by kernel_rfl) h
theorem call83 {args:List AV} {d:AV} (h:wc M1 fi83 Try.f83 args d):Ev M1 (.pure 83 args) d []:=pcl _ _ (by kernel_rfl) h
theorem vUnit   (dq:AV) (H :
  (Sp.inI 1) /\
  Weak (ag [vb false,vf (us (Sp.limI 1))]) dq) :
 vUnit_at  (PureQ dq):=by
 unfold vUnit_at
 obtain ⟨k1,H⟩:=H
 exact path_rq (G:=given kp82 [(1,0,.call (ag [vb false,vf (us (Sp.limI 1))]) none)] []) 1000 [] (ag [vb false,vf (us (Sp.limI 1))]) (by kernel_rfl) (bc rfl b0) q0 (ce (@ev51 (1) k1) c0) H
theorem vExact (fa fb:Bool) (a b:Int)  (dq:AV) (H :
  (Sp.okB a /\ Sp.okB b /\ b ≠ 0) /\
  Weak (bigA false (Sp.flo a b)) dq) :
 vExact_at fa fb a b (PureQ dq):=by
 unfold vExact_at
 obtain ⟨k1,H⟩:=H
 exact path_rq (G:=given kp83 [(1,2,.call (tu [bigA false (Sp.flo a b),bigA false (Sp.flr a b),vi 0]) none)] []) 1000 [] (bigA false (Sp.flo a b)) (by kernel_rfl) (bc rfl (bc rfl (bc rfl (bc rfl (bc rfl (bc rfl b0)))))) q0 (ce (@ev72 (fa) (fb) (a) (b) k1) c0) H
end Go.Av

namespace Go.Av
open Go.Proofs
theorem ev82:Ev M1 (.pure 82 []) (.agg [.bool false,.vec false 1 ((Sp.limI 1).map (.int .u32))]) []:=
 call82 (vUnit _ ⟨by unfold Sp.inI;omega,.refl _⟩)
theorem ev83 (fa fb:Bool) (a b:Int) (h:Sp.okB a /\ Sp.okB b /\ b ≠ 0):Ev M1 (.pure 83 [bigA fa a,bigA fb b]) (bigA false (Sp.flo a b)) []:=
 call83 (vExact _ _ _ _ _ ⟨h,.refl _⟩)
theorem ev64_a (fa:Bool) (a:Int) (h:Sp.okB a):Ev M1 (.pure 64 [bigA fa a,.agg [.bool false,.vec false 1 ((Sp.limI 1).map (.int .u32))]]) (.int .i64 (Sp.sgnI (a - 1))) []:=
 ev64 fa false a 1 ⟨h,okB_small (by decide)⟩
end Go.Av

namespace Go.Av
open Go.Proofs
set_option maxRecDepth 100000
def fi58:Fi:=⟨9,[.cell 2 54]⟩
def kp58:List (Nat × List Nat):=[(0,[1,2]),(1,[2])]
def fi60:Fi:=⟨29,[.cell 4 54]⟩
def kp60:List (Nat × List Nat):=[(0,[2,3,4]),(1,[2,3,4,8]),(2,[2,3,4]),(3,[2,3,4,5]),(4,[2,3,4,5,19]),(5,[2,3,4]),(6,[4])]
def fi61:Fi:=⟨6,[.cell 2 54]⟩
def kp61:List (Nat × List Nat):=[(0,[1,2]),(1,[2])]
def fi63:Fi:=⟨6,[.tmp 2]⟩
def kp63:List (Nat × List Nat):=[(0,[1]),(1,[2])]
def fi92:Fi:=⟨22,[.cell 2 52,.tmp 3]⟩
def kp92:List (Nat × List Nat):=[(0,[1,2]),(1,[1,2,4,5]),(2,[2,3])]
def vWhole_at (fa:Bool) (a:Int) (Q:AV -> Heap -> Prop):Prop:=Wp M1 (.run fi61 (atC (cd Try.f61) []) [(0,bigA fa a)] []) Q
def vReduce_at (fa fb:Bool) (a b:Int) (Q:AV -> Heap -> Prop):Prop:=Wp M1 (.run fi60 (atC (cd Try.f60) []) [(0,bigA fa a),(1,bigA fb b)] []) Q
def vRSign_at (fa ga:Bool) (p q:Int) (Q:AV -> Heap -> Prop):Prop:=Wp M1 (.run fi63 (atC (cd Try.f63) []) [(0,.agg [.bool (Sp.isNeg p),.vec fa 1 ((Sp.limI p).map (.int .u32)),.bool (Sp.isNeg q),.vec ga 1 ((Sp.limI q).map (.int .u32))])] []) Q
def vRNeg_at (fa ga:Bool) (p q:Int) (Q:AV -> Heap -> Prop):Prop:=Wp M1 (.run fi58 (atC (cd Try.f58) []) [(0,.agg [.bool (Sp.isNeg p),.vec fa 1 ((Sp.limI p).map (.int .u32)),.bool (Sp.isNeg q),.vec ga 1 ((Sp.limI q).map (.int .u32))])] []) Q
def vSide_at (fa:Bool) (a:Int) (Q:AV -> Heap -> Prop):Prop:=Wp M1 (.run fi92 (atC (cd Try.f92) []) [(0,bigA fa a)] []) Q
theorem call58 {args:List AV} {d:AV} (h:wc M1 fi58 Try.f58 args d):Ev M1 (.pure 58 args) d []:=pcl _ _ (by kernel_rfl) h
theorem call60 {args:List AV} {d:AV} (h:wc M1 fi60 Try.f60 args d):Ev M1 (.pure 60 args) d []:=pcl _ _ (by kernel_rfl) h
theorem call61 {args:List AV} {d:AV} (h:wc M1 fi61 Try.f61 args d):Ev M1 (.pure 61 args) d []:=pcl _ _ (by kernel_rfl) h
theorem call63 {args:List AV} {d:AV} (h:wc M1 fi63 Try.f63 args d):Ev M1 (.pure 63 args) d []:=pcl _ _ (by kernel_rfl) h
theorem call92 {args:List AV} {d:AV} (h:wc M1 fi92 Try.f92 args d):Ev M1 (.pure 92 args) d []:=pcl _ _ (by kernel_rfl) h
theorem vWhole (fa:Bool) (a:Int)  (dq:AV) (H :
  Weak (ag [vb (Sp.isNeg a),AV.vec fa 1 (us (Sp.limI a)),vb false,vf (us (Sp.limI 1))]) dq) :
 vWhole_at fa a (PureQ dq):=by
 unfold vWhole_at
 exact path_rq (G:=given kp61 [(1,1,.call (ag [vb false,vf (us (Sp.limI 1))]) none)] []) 1000 [] (ag [vb (Sp.isNeg a),AV.vec fa 1 (us (Sp.limI a)),vb false,vf (us (Sp.limI 1))]) (by kernel_rfl) (bc rfl (bc rfl b0)) q0 (ce (@ev82 ) c0) H
noncomputable abbrev zNvJ1:=ag [vb false,AV.vnil,vb false,AV.vnil]
theorem vReduce (fa fb:Bool) (a b:Int)  (dq:AV) (H :
  ((Sp.sgnI b < 0) -> (Sp.okB a) /\
   (Sp.okB b) /\
   (Sp.okB (-a) /\ Sp.okB (-b)) /\
   (Sp.okB (↑((-a).gcd (-b)):Int)) /\
   ((¬Sp.sgnI ((↑((-a).gcd (-b)):Int) - 1) = 0) -> (Sp.okB (-a) /\ Sp.okB (↑((-a).gcd (-b)):Int) /\ (↑((-a).gcd (-b)):Int) ≠ 0) /\
    (Sp.okB (-b) /\ Sp.okB (↑((-a).gcd (-b)):Int) /\ (↑((-a).gcd (-b)):Int) ≠ 0) /\
    Weak (ag [vb (Sp.isNeg (Sp.flo (-a) (↑((-a).gcd (-b)):Int))),vf (us (Sp.limI (Sp.flo (-a) (↑((-a).gcd (-b)):Int)))),vb (Sp.isNeg (Sp.flo (-b) (↑((-a).gcd (-b)):Int))),vf (us (Sp.limI (Sp.flo (-b) (↑((-a).gcd (-b)):Int))))]) dq) /\
   (¬(¬Sp.sgnI ((↑((-a).gcd (-b)):Int) - 1) = 0) -> Weak (ag [vb (Sp.isNeg (-a)),vf (us (Sp.limI (-a))),vb (Sp.isNeg (-b)),vf (us (Sp.limI (-b)))]) dq)) /\
  (¬(Sp.sgnI b < 0) -> (Sp.okB a /\ Sp.okB b) /\
   (Sp.okB (↑(a.gcd b):Int)) /\
   ((¬Sp.sgnI ((↑(a.gcd b):Int) - 1) = 0) -> (Sp.okB a /\ Sp.okB (↑(a.gcd b):Int) /\ (↑(a.gcd b):Int) ≠ 0) /\
    (Sp.okB b /\ Sp.okB (↑(a.gcd b):Int) /\ (↑(a.gcd b):Int) ≠ 0) /\
    Weak (ag [vb (Sp.isNeg (Sp.flo a (↑(a.gcd b):Int))),vf (us (Sp.limI (Sp.flo a (↑(a.gcd b):Int)))),vb (Sp.isNeg (Sp.flo b (↑(a.gcd b):Int))),vf (us (Sp.limI (Sp.flo b (↑(a.gcd b):Int))))]) dq) /\
   (¬(¬Sp.sgnI ((↑(a.gcd b):Int) - 1) = 0) -> Weak (ag [vb (Sp.isNeg a),AV.vec fa 1 (us (Sp.limI a)),vb (Sp.isNeg b),AV.vec fb 1 (us (Sp.limI b))]) dq))) :
 vReduce_at fa fb a b (PureQ dq):=by
 unfold vReduce_at
 refine path_wp (G:=given kp60 [(1,1,.call (vi (Sp.sgnI b)) none)] []) 5 [] ⟨(atC (cd Try.f60) [1,0,1]),[(2,AV.ptr 0 0 0 0),(3,AV.ptr 1 0 0 0),(4,AV.ptr 2 0 0 0),(8,vb (decide (Sp.sgnI b < 0)))],[⟨[bigA fa a],2,0,false,false⟩,⟨[bigA fb b],2,0,false,false⟩,⟨[zNvJ1],4,0,false,false⟩],_,[],_⟩ (by kernel_rfl) (bc rfl b0) q0 (ce (@ev80 (fb) (b)) c0) ?_
 rcases xm (Sp.sgnI b < 0) with d2 | d2
 ·have H:=H.1 d2
  obtain ⟨k3,H⟩:=H
  obtain ⟨k4,H⟩:=H
  obtain ⟨k5,H⟩:=H
  obtain ⟨k6,H⟩:=H
  refine path_wp (G:=given kp60 [(2,1,.call (bigA false (-a)) none),(2,3,.call (bigA false (-b)) none),(3,2,.call (bigA false (↑((-a).gcd (-b)):Int)) none),(4,1,.call (ag [vb false,vf (us (Sp.limI 1))]) none),(4,2,.call (vi (Sp.sgnI ((↑((-a).gcd (-b)):Int) - 1))) none)] []) 7 [true] ⟨(atC (cd Try.f60) [1,1,0,1,1]),[(2,AV.ptr 0 0 0 0),(3,AV.ptr 1 0 0 0),(4,AV.ptr 2 0 0 0),(5,AV.ptr 3 0 0 0),(19,vb (Sp.sgnI ((↑((-a).gcd (-b)):Int) - 1) != 0))],[⟨[bigA false (-a)],2,0,false,false⟩,⟨[bigA false (-b)],2,0,false,false⟩,⟨[zNvJ1],4,0,false,false⟩,⟨[bigA false (↑((-a).gcd (-b)):Int)],2,0,false,false⟩],_,[],_⟩ (by kernel_rfl) (bc (beq_t (i_dec.2 d2)) (bc rfl (bc rfl (bc rfl (bc rfl (bc rfl (bc rfl (bc rfl (bc rfl b0))))))))) q0 (ce (@ev78 (fa) (a) k3) (ce (@ev78 (fb) (b) k4) (ce (@ev81 (false) (false) (-a) (-b) k5) (ce (@ev82 ) (ce (@ev64_a (false) ((↑((-a).gcd (-b)):Int)) k6) c0))))) ?_
  rcases xm (¬Sp.sgnI ((↑((-a).gcd (-b)):Int) - 1) = 0) with d8 | d8
  ·have H:=H.1 d8
   obtain ⟨k9,H⟩:=H
   obtain ⟨k10,H⟩:=H
   exact path_rq (G:=given kp60 [(5,2,.call (bigA false (Sp.flo (-a) (↑((-a).gcd (-b)):Int))) none),(5,5,.call (bigA false (Sp.flo (-b) (↑((-a).gcd (-b)):Int))) none)] []) 1000 [true] (ag [vb (Sp.isNeg (Sp.flo (-a) (↑((-a).gcd (-b)):Int))),vf (us (Sp.limI (Sp.flo (-a) (↑((-a).gcd (-b)):Int)))),vb (Sp.isNeg (Sp.flo (-b) (↑((-a).gcd (-b)):Int))),vf (us (Sp.limI (Sp.flo (-b) (↑((-a).gcd (-b)):Int))))]) (by kernel_rfl) (bc (beq_t (i_ne.2 d8)) (bc rfl (bc rfl (bc rfl (bc rfl (bc rfl (bc rfl (bc rfl (bc rfl (bc rfl b0)))))))))) q0 (ce (@ev83 (false) (false) (-a) ((↑((-a).gcd (-b)):Int)) k9) (ce (@ev83 (false) (false) (-b) ((↑((-a).gcd (-b)):Int)) k10) c0)) H
  ·have H:=H.2 d8
   exact path_rq (G:=given kp60 [] []) 1000 [false] (ag [vb (Sp.isNeg (-a)),vf (us (Sp.limI (-a))),vb (Sp.isNeg (-b)),vf (us (Sp.limI (-b)))]) (by kernel_rfl) (bc (beq_f (fun h => d8 (i_ne.1 h))) (bc rfl (bc rfl (bc rfl b0)))) q0 c0 H
 ·have H:=H.2 d2
  obtain ⟨k11,H⟩:=H
  obtain ⟨k12,H⟩:=H
  refine path_wp (G:=given kp60 [(3,2,.call (bigA false (↑(a.gcd b):Int)) none),(4,1,.call (ag [vb false,vf (us (Sp.limI 1))]) none),(4,2,.call (vi (Sp.sgnI ((↑(a.gcd b):Int) - 1))) none)] []) 7 [false] ⟨(atC (cd Try.f60) [1,1,0,1,1]),[(2,AV.ptr 0 0 0 0),(3,AV.ptr 1 0 0 0),(4,AV.ptr 2 0 0 0),(5,AV.ptr 3 0 0 0),(19,vb (Sp.sgnI ((↑(a.gcd b):Int) - 1) != 0))],[⟨[bigA fa a],2,0,false,false⟩,⟨[bigA fb b],2,0,false,false⟩,⟨[zNvJ1],4,0,false,false⟩,⟨[bigA false (↑(a.gcd b):Int)],2,0,false,false⟩],_,[],_⟩ (by kernel_rfl) (bc (beq_f (fun h => d2 (i_dec.1 h))) (bc rfl (bc rfl (bc rfl (bc rfl b0))))) q0 (ce (@ev81 (fa) (fb) (a) (b) k11) (ce (@ev82 ) (ce (@ev64_a (false) ((↑(a.gcd b):Int)) k12) c0))) ?_
  rcases xm (¬Sp.sgnI ((↑(a.gcd b):Int) - 1) = 0) with d14 | d14
  ·have H:=H.1 d14
   obtain ⟨k15,H⟩:=H
   obtain ⟨k16,H⟩:=H
   exact path_rq (G:=given kp60 [(5,2,.call (bigA false (Sp.flo a (↑(a.gcd b):Int))) none),(5,5,.call (bigA false (Sp.flo b (↑(a.gcd b):Int))) none)] []) 1000 [true] (ag [vb (Sp.isNeg (Sp.flo a (↑(a.gcd b):Int))),vf (us (Sp.limI (Sp.flo a (↑(a.gcd b):Int)))),vb (Sp.isNeg (Sp.flo b (↑(a.gcd b):Int))),vf (us (Sp.limI (Sp.flo b (↑(a.gcd b):Int))))]) (by kernel_rfl) (bc (beq_t (i_ne.2 d14)) (bc rfl (bc rfl (bc rfl (bc rfl (bc rfl (bc rfl (bc rfl (bc rfl (bc rfl b0)))))))))) q0 (ce (@ev83 (fa) (false) (a) ((↑(a.gcd b):Int)) k15) (ce (@ev83 (fb) (false) (b) ((↑(a.gcd b):Int)) k16) c0)) H
  ·have H:=H.2 d14
   exact path_rq (G:=given kp60 [] []) 1000 [false] (ag [vb (Sp.isNeg a),AV.vec fa 1 (us (Sp.limI a)),vb (Sp.isNeg b),AV.vec fb 1 (us (Sp.limI b))]) (by kernel_rfl) (bc (beq_f (fun h => d14 (i_ne.1 h))) (bc rfl (bc rfl (bc rfl b0)))) q0 c0 H
theorem vRSign (fa ga:Bool) (p q:Int)  (dq:AV) (H :
  vi (Sp.sgnI p) = dq) :
 vRSign_at fa ga p q (PureQ dq):=by
 unfold vRSign_at
 exact path_re (G:=given kp63 [(1,2,.call (vi (Sp.sgnI p)) none)] []) 1000 [] (vi (Sp.sgnI p)) (by kernel_rfl) (bc rfl b0) q0 (ce (@ev80 (fa) (p)) c0) H
theorem vRNeg (fa ga:Bool) (p q:Int)  (dq:AV) (H :
  (Sp.okB p) /\
  Weak (ag [vb (Sp.isNeg (-p)),vf (us (Sp.limI (-p))),vb (Sp.isNeg q),AV.vec ga 1 (us (Sp.limI q))]) dq) :
 vRNeg_at fa ga p q (PureQ dq):=by
 unfold vRNeg_at
 obtain ⟨k1,H⟩:=H
 exact path_rq (G:=given kp58 [(1,2,.call (bigA false (-p)) none)] []) 1000 [] (ag [vb (Sp.isNeg (-p)),vf (us (Sp.limI (-p))),vb (Sp.isNeg q),AV.vec ga 1 (us (Sp.limI q))]) (by kernel_rfl) (bc rfl (bc rfl (bc rfl b0))) q0 (ce (@ev78 (fa) (p) k1) c0) H
theorem vSide (fa:Bool) (a:Int)  (dq:AV) (H :
  (Sp.okS a) /\
  ((Sp.sqe a = 0) -> (Sp.okB (Sp.sq a) /\ Sp.okB (Sp.sq a))) /\
  ((Sp.sqe a = 0) -> (Sp.okB (Sp.sq a * Sp.sq a) /\ Sp.okB a)) /\
  Weak (tu [bigA false (Sp.sq a),vb (bif Sp.sqe a == 0 then Sp.sgnI (Sp.sq a * Sp.sq a - a) == 0 else false)]) dq) :
 vSide_at fa a (PureQ dq):=by
 unfold vSide_at
 obtain ⟨k1,H⟩:=H
 obtain ⟨k3,H⟩:=H
 obtain ⟨k5,H⟩:=H
 exact path_rq (G:=given kp92 [(1,1,.call (tu [bigA false (Sp.sq a),vi (Sp.sqe a)]) none),(2,6,.call (bigA false (Sp.sq a * Sp.sq a)) none),(2,8,.call (vi (Sp.sgnI (Sp.sq a * Sp.sq a - a))) none)] []) 1000 [] (asm:=[true,true,true,!((Sp.sqe a == 0) == true && true) || true,!((Sp.sqe a == 0) == true && true) || true,!((Sp.sqe a == 0) == true && true) || true,true]) (calls:=[⟨true,false,50,[bigA fa a],[],tu [bigA false (Sp.sq a),vi (Sp.sqe a)],[]⟩,⟨(Sp.sqe a == 0) == true && true && true,false,65,[bigA false (Sp.sq a),bigA false (Sp.sq a)],[],bigA false (Sp.sq a * Sp.sq a),[]⟩,⟨(Sp.sqe a == 0) == true && true && true,false,64,[bigA false (Sp.sq a * Sp.sq a),bigA fa a],[],vi (Sp.sgnI (Sp.sq a * Sp.sq a - a)),[]⟩]) (tu [bigA false (Sp.sq a),vb (bif Sp.sqe a == 0 then Sp.sgnI (Sp.sq a * Sp.sq a - a) == 0 else false)]) (by kernel_rfl) (bc rfl (bc rfl (bc rfl (bc (Bool.or_true _) (bc (Bool.or_true _) (bc (Bool.or_true _) (bc rfl b0))))))) q0 (cc (fun _ => (@ev50 (fa) (a) k1)) (cc (fun hc => ((@ev65 (false) (false) (Sp.sq a) (Sp.sq a) (k3 ((i_at (i_at (i_bt i_eq))).1 hc))):Ev M1 (Conf.pure 65 [bigA false (Sp.sq a),bigA false (Sp.sq a)]) (bigA false (Sp.sq a * Sp.sq a)) [])) (cc (fun hc => ((@ev64 (false) (fa) (Sp.sq a * Sp.sq a) (a) (k5 ((i_at (i_at (i_bt i_eq))).1 hc))):Ev M1 (Conf.pure 64 [bigA false (Sp.sq a * Sp.sq a),bigA fa a]) (vi (Sp.sgnI (Sp.sq a * Sp.sq a - a))) [])) c0))) H
end Go.Av

namespace Go.Av
open Go.Proofs
abbrev ratA (f g:Bool) (r:Rat):AV:=.agg [.bool (Sp.isNeg r.num),.vec f 1 ((Sp.limI r.num).map (.int .u32)),.bool (Sp.isNeg (r.den:Int)),.vec g 1 ((Sp.limI (r.den:Int)).map (.int .u32))]
theorem weak_rat (b d f g:Bool) (xs ys:List AV):Weak (.agg [.bool b,.vec f 1 xs,.bool d,.vec g 1 ys]) (.agg [.bool b,.vec false 1 xs,.bool d,.vec false 1 ys]):=by
 refine .agg _ _ rfl fun i x y hx hy => ?_
 match i with
 | 0 => simp at hx hy;subst hx;subst hy;exact .refl _
 | 1 => simp at hx hy;subst hx;subst hy;exact weak_vec _ _ _
 | 2 => simp at hx hy;subst hx;subst hy;exact .refl _
 | 3 => simp at hx hy;subst hx;subst hy;exact weak_vec _ _ _
 | i + 4 => simp at hx
theorem rat_neg {a b:Int} (h:b < 0):(Rat.divInt a b).num = (-a) / (((-a).gcd (-b):Nat):Int) /\ ((Rat.divInt a b).den:Int) = (-b) / (((-a).gcd (-b):Nat):Int):=by
 have e:(-a).gcd (-b) = b.gcd a:=by rw [Int.neg_gcd,Int.gcd_neg,Int.gcd_comm]
 rw [e,Rat.num_divInt,Rat.den_divInt,if_neg (by omega),Int.sign_eq_neg_one_of_neg h]
 refine ⟨by rw [Int.neg_mul,Int.one_mul],?_⟩
 have e2:((b.natAbs / b.gcd a:Nat):Int) = (b.natAbs:Int) / (b.gcd a:Int):=rfl
 rw [e2]
 congr 1;omega
theorem rat_pos {a b:Int} (h:0 < b):(Rat.divInt a b).num = a / ((a.gcd b:Nat):Int) /\ ((Rat.divInt a b).den:Int) = b / ((a.gcd b:Nat):Int):=by
 have e:a.gcd b = b.gcd a:=Int.gcd_comm _ _
 rw [e,Rat.num_divInt,Rat.den_divInt,if_neg (by omega),Int.sign_eq_one_of_pos h]
 refine ⟨by rw [Int.one_mul],?_⟩
 have e2:((b.natAbs / b.gcd a:Nat):Int) = (b.natAbs:Int) / (b.gcd a:Int):=rfl
 rw [e2]
 congr 1;omega
theorem gcd_okB {a b:Int} (hb:b ≠ 0) (h:Sp.okB b):Sp.okB ((a.gcd b:Nat):Int) /\ ((a.gcd b:Nat):Int) ≠ 0:=by
 have h1:0 < a.gcd b:=Int.gcd_pos_of_ne_zero_right _ hb
 have h2:a.gcd b <= b.natAbs:=Nat.le_of_dvd (by omega) (Int.gcd_dvd_natAbs_right a b)
 have:=cnt_mono h2
 refine ⟨?_,by omega⟩
 unfold Sp.okB at *
 rw [Int.natAbs_natCast];omega
theorem flo_pos {a:Int} {g:Nat} (h:(g:Int) ≠ 0):Sp.flo a (g:Int) = a / (g:Int):=by
 unfold Sp.flo
 rw [if_pos (by omega)]
theorem ev60 (fa fb:Bool) (a b:Int) (h:Sp.okB a /\ Sp.okB b /\ b ≠ 0):Ev M1 (.pure 60 [bigA fa a,bigA fb b]) (ratA false false (Rat.divInt a b)) []:=by
 obtain ⟨ha,hb,h0⟩:=h
 have hna:Sp.okB (-a):=by unfold Sp.okB at *;rwa [Int.natAbs_neg]
 have hnb:Sp.okB (-b):=by unfold Sp.okB at *;rwa [Int.natAbs_neg]
 refine call60 (vReduce _ _ _ _ _ ⟨fun k => ?_,fun k => ?_⟩)
 ·rw [sgnI_lt] at k
  obtain ⟨g1,g2⟩:=gcd_okB (a:=-a) (b:=-b) (by omega) hnb
  obtain ⟨r1,r2⟩:=rat_neg (a:=a) k
  refine ⟨ha,hb,⟨hna,hnb⟩,g1,fun _ => ⟨⟨hna,g1,g2⟩,⟨hnb,g1,g2⟩,?_⟩,fun k2 => ?_⟩
  ·show Weak _ (AV.agg [.bool (Sp.isNeg (Rat.divInt a b).num),.vec false 1 ((Sp.limI (Rat.divInt a b).num).map (.int .u32)),.bool (Sp.isNeg ((Rat.divInt a b).den:Int)),.vec false 1 ((Sp.limI ((Rat.divInt a b).den:Int)).map (.int .u32))])
   rw [r1,r2,flo_pos g2,flo_pos g2];exact .refl _
  ·have k2:=sgnI_zero.1 (Classical.not_not.1 k2)
   have e:(((-a).gcd (-b):Nat):Int) = 1:=by omega
   show Weak _ (AV.agg [.bool (Sp.isNeg (Rat.divInt a b).num),.vec false 1 ((Sp.limI (Rat.divInt a b).num).map (.int .u32)),.bool (Sp.isNeg ((Rat.divInt a b).den:Int)),.vec false 1 ((Sp.limI ((Rat.divInt a b).den:Int)).map (.int .u32))])
   rw [r1,r2,e,Int.ediv_one,Int.ediv_one];exact weak_rat _ _ _ _ _ _
 ·rw [sgnI_lt] at k
  obtain ⟨g1,g2⟩:=gcd_okB (a:=a) (b:=b) h0 hb
  obtain ⟨r1,r2⟩:=rat_pos (a:=a) (show 0 < b by omega)
  refine ⟨⟨ha,hb⟩,g1,fun _ => ⟨⟨ha,g1,g2⟩,⟨hb,g1,g2⟩,?_⟩,fun k2 => ?_⟩
  ·show Weak _ (AV.agg [.bool (Sp.isNeg (Rat.divInt a b).num),.vec false 1 ((Sp.limI (Rat.divInt a b).num).map (.int .u32)),.bool (Sp.isNeg ((Rat.divInt a b).den:Int)),.vec false 1 ((Sp.limI ((Rat.divInt a b).den:Int)).map (.int .u32))])
   rw [r1,r2,flo_pos g2,flo_pos g2];exact .refl _
  ·have k2:=sgnI_zero.1 (Classical.not_not.1 k2)
   have e:((a.gcd b:Nat):Int) = 1:=by omega
   show Weak _ (AV.agg [.bool (Sp.isNeg (Rat.divInt a b).num),.vec false 1 ((Sp.limI (Rat.divInt a b).num).map (.int .u32)),.bool (Sp.isNeg ((Rat.divInt a b).den:Int)),.vec false 1 ((Sp.limI ((Rat.divInt a b).den:Int)).map (.int .u32))])
   rw [r1,r2,e,Int.ediv_one,Int.ediv_one];exact weak_rat _ _ _ _ _ _
theorem ev63 (fa ga:Bool) (p q:Int):Ev M1 (.pure 63 [.agg [.bool (Sp.isNeg p),.vec fa 1 ((Sp.limI p).map (.int .u32)),.bool (Sp.isNeg q),.vec ga 1 ((Sp.limI q).map (.int .u32))]]) (.int .i64 (Sp.sgnI p)) []:=
 call63 (vRSign _ _ _ _ _ rfl)
end Go.Av

namespace Go.Av
open Go.Proofs
theorem ev58 (fa ga:Bool) (r:Rat) (h:Sp.okB r.num):Ev M1 (.pure 58 [ratA fa ga r]) (ratA false false (-r)) []:=by
 refine call58 (vRNeg _ _ _ _ _ ⟨h,?_⟩)
 show Weak _ (AV.agg [.bool (Sp.isNeg (-r).num),.vec false 1 ((Sp.limI (-r).num).map (.int .u32)),.bool (Sp.isNeg ((-r).den:Int)),.vec false 1 ((Sp.limI ((-r).den:Int)).map (.int .u32))])
 rw [Rat.neg_num,Rat.neg_den]
 exact weak_rat _ _ _ _ _ _
namespace Sp
noncomputable def isSq (a:Int):Bool:=bif sqe a == 0 then sgnI (sq a * sq a - a) == 0 else false
end Sp
theorem sq_le {a:Int} (h:0 <= a):(Sp.sq a).natAbs * (Sp.sq a).natAbs <= a.natAbs /\ (Sp.sq a).natAbs <= a.natAbs:=by
 have:=isqrt_spec a.natAbs
 unfold Sp.sq
 rw [if_neg (by omega),Int.natAbs_natCast]
 refine ⟨this.1,?_⟩
 have h1:=this.1
 by_cases hz:Sp.isqrt a.natAbs = 0
 ·omega
 ·have:=Nat.le_mul_of_pos_left (Sp.isqrt a.natAbs) (Nat.pos_of_ne_zero hz)
  omega
theorem ev92 (fa:Bool) (a:Int) (h:Sp.okS a):Ev M1 (.pure 92 [bigA fa a]) (.tup [bigA false (Sp.sq a),.bool (Sp.isSq a)]) []:=by
 have ha:Sp.okB a:=by unfold Sp.okS at h;unfold Sp.okB;omega
 have hk:Sp.sqe a = 0 -> 0 <= a:=by
  intro k
  unfold Sp.sqe at k
  split at k <;> omega
 refine call92 (vSide _ _ _ ⟨h,fun k => ?_,fun k => ⟨?_,ha⟩,.refl _⟩)
 ·have:=cnt_mono (sq_le (hk k)).2
  unfold Sp.okS at h
  unfold Sp.okB
  omega
 ·have:=cnt_mono (sq_le (hk k)).1
  unfold Sp.okS at h
  unfold Sp.okB
  rw [Int.natAbs_mul];omega
theorem ev61 (fa:Bool) (a:Int):Ev M1 (.pure 61 [bigA fa a]) (ratA false false (a:Rat)) []:=by
 refine call61 (vWhole _ _ _ ?_)
 show Weak _ (AV.agg [.bool (Sp.isNeg (a:Rat).num),.vec false 1 ((Sp.limI (a:Rat).num).map (.int .u32)),.bool (Sp.isNeg ((a:Rat).den:Int)),.vec false 1 ((Sp.limI ((a:Rat).den:Int)).map (.int .u32))])
 rw [Rat.num_intCast,Rat.den_intCast]
 exact weak_rat _ _ _ _ _ _
end Go.Av

namespace Go.Av
open Go.Proofs
set_option maxRecDepth 100000
def fi41:Fi:=⟨6,[.cell 2 54]⟩
def kp41:List (Nat × List Nat):=[(0,[0,2]),(1,[2])]
def fi42:Fi:=⟨25,[.tmp 4]⟩
def kp42:List (Nat × List Nat):=[(0,[2,3]),(1,[2,3,5]),(2,[2,3,5,12]),(3,[4]),(4,[4])]
def fi43:Fi:=⟨16,[.cell 4 54]⟩
def kp43:List (Nat × List Nat):=[(0,[2,3,4]),(1,[4])]
def fi44:Fi:=⟨36,[.cell 4 54]⟩
def kp44:List (Nat × List Nat):=[(0,[2,3,4]),(1,[2,3,4,10]),(2,[4]),(3,[4])]
def fi53:Fi:=⟨21,[.cell 4 54,.tmp 5]⟩
def kp53:List (Nat × List Nat):=[(0,[2,3,4]),(1,[2,3,4,8]),(2,[4,5]),(3,[4,5])]
def fi74:Fi:=⟨26,[.cell 2 54,.tmp 3]⟩
def kp74:List (Nat × List Nat):=[(0,[1,2]),(1,[1,2,4,5]),(2,[1,2,4,14]),(3,[2,4,6,7]),(4,[2,4,6,21]),(5,[2,3]),(6,[2,3])]
def vRAdd_at (fa ga fb gb:Bool) (r s:Rat) (Q:AV -> Heap -> Prop):Prop:=Wp M1 (.run fi44 (atC (cd Try.f44) []) [(0,ratA fa ga r),(1,ratA fb gb s)] []) Q
def vRMul_at (fa ga fb gb:Bool) (r s:Rat) (Q:AV -> Heap -> Prop):Prop:=Wp M1 (.run fi43 (atC (cd Try.f43) []) [(0,ratA fa ga r),(1,ratA fb gb s)] []) Q
def vRDiv_at (fa ga fb gb:Bool) (r s:Rat) (Q:AV -> Heap -> Prop):Prop:=Wp M1 (.run fi53 (atC (cd Try.f53) []) [(0,ratA fa ga r),(1,ratA fb gb s)] []) Q
def vRCmp_at (fa ga fb gb:Bool) (r s:Rat) (Q:AV -> Heap -> Prop):Prop:=Wp M1 (.run fi42 (atC (cd Try.f42) []) [(0,ratA fa ga r),(1,ratA fb gb s)] []) Q
def vRFrom_at (n:Int) (Q:AV -> Heap -> Prop):Prop:=Wp M1 (.run fi41 (atC (cd Try.f41) []) [(0,.int .i64 n)] []) Q
def vRSqrt_at (fa ga:Bool) (r:Rat) (Q:AV -> Heap -> Prop):Prop:=Wp M1 (.run fi74 (atC (cd Try.f74) []) [(0,ratA fa ga r)] []) Q
theorem call41 {args:List AV} {d:AV} (h:wc M1 fi41 Try.f41 args d):Ev M1 (.pure 41 args) d []:=pcl _ _ (by kernel_rfl) h
theorem call42 {args:List AV} {d:AV} (h:wc M1 fi42 Try.f42 args d):Ev M1 (.pure 42 args) d []:=pcl _ _ (by kernel_rfl) h
theorem call43 {args:List AV} {d:AV} (h:wc M1 fi43 Try.f43 args d):Ev M1 (.pure 43 args) d []:=pcl _ _ (by kernel_rfl) h
theorem call44 {args:List AV} {d:AV} (h:wc M1 fi44 Try.f44 args d):Ev M1 (.pure 44 args) d []:=pcl _ _ (by kernel_rfl) h
theorem call53 {args:List AV} {d:AV} (h:wc M1 fi53 Try.f53 args d):Ev M1 (.pure 53 args) d []:=pcl _ _ (by kernel_rfl) h
theorem call74 {args:List AV} {d:AV} (h:wc M1 fi74 Try.f74 args d):Ev M1 (.pure 74 args) d []:=pcl _ _ (by kernel_rfl) h
theorem vRAdd (fa ga fb gb:Bool) (r s:Rat)  (dq:AV) (H :
  (Sp.okB (↑r.den:Int) /\ Sp.okB (↑s.den:Int)) /\
  ((Sp.sgnI ((↑r.den:Int) - (↑s.den:Int)) = 0) -> (Sp.okB r.num /\ Sp.okB s.num) /\
   (Sp.okB (r.num + s.num) /\ Sp.okB (↑r.den:Int) /\ (↑r.den:Int) ≠ 0) /\
   Weak (ratA false false (Rat.divInt (r.num + s.num) (↑r.den:Int))) dq) /\
  (¬(Sp.sgnI ((↑r.den:Int) - (↑s.den:Int)) = 0) -> (Sp.okB r.num /\ Sp.okB (↑s.den:Int)) /\
   (Sp.okB s.num /\ Sp.okB (↑r.den:Int)) /\
   (Sp.okB (r.num * (↑s.den:Int)) /\ Sp.okB (s.num * (↑r.den:Int))) /\
   (Sp.okB (r.num * (↑s.den:Int) + s.num * (↑r.den:Int)) /\ Sp.okB ((↑r.den:Int) * (↑s.den:Int)) /\ (↑r.den:Int) * (↑s.den:Int) ≠ 0) /\
   Weak (ratA false false (Rat.divInt (r.num * (↑s.den:Int) + s.num * (↑r.den:Int)) ((↑r.den:Int) * (↑s.den:Int)))) dq)) :
 vRAdd_at fa ga fb gb r s (PureQ dq):=by
 unfold vRAdd_at
 obtain ⟨k1,H⟩:=H
 refine path_wp (G:=given kp44 [(1,4,.call (vi (Sp.sgnI ((↑r.den:Int) - (↑s.den:Int)))) none)] []) 5 [] ⟨(atC (cd Try.f44) [1,0,1]),[(2,AV.ptr 0 0 0 0),(3,AV.ptr 1 0 0 0),(4,AV.ptr 2 0 0 0),(10,vb (Sp.sgnI ((↑r.den:Int) - (↑s.den:Int)) == 0))],[⟨[ratA fa ga r],4,0,false,false⟩,⟨[ratA fb gb s],4,0,false,false⟩,⟨[ag [vb false,AV.vnil,vb false,AV.vnil]],4,0,false,false⟩],_,[],_⟩ (by kernel_rfl) (bc rfl (bc rfl b0)) q0 (ce (@ev64 (ga) (gb) ((↑r.den:Int)) ((↑s.den:Int)) k1) c0) ?_
 rcases xm (Sp.sgnI ((↑r.den:Int) - (↑s.den:Int)) = 0) with d3 | d3
 ·have H:=H.1 d3
  obtain ⟨k4,H⟩:=H
  obtain ⟨k5,H⟩:=H
  exact path_rq (G:=given kp44 [(2,4,.call (bigA false (r.num + s.num)) none),(2,7,.call (ratA false false (Rat.divInt (r.num + s.num) (↑r.den:Int))) none)] []) 1000 [true] (ratA false false (Rat.divInt (r.num + s.num) (↑r.den:Int))) (by kernel_rfl) (bc (beq_t (i_eq.2 d3)) (bc rfl (bc rfl (bc rfl (bc rfl b0))))) q0 (ce (@ev66 (fa) (fb) (r.num) (s.num) k4) (ce (@ev60 (false) (ga) (r.num + s.num) ((↑r.den:Int)) k5) c0)) H
 ·have H:=H.2 d3
  obtain ⟨k6,H⟩:=H
  obtain ⟨k7,H⟩:=H
  obtain ⟨k8,H⟩:=H
  obtain ⟨k9,H⟩:=H
  exact path_rq (G:=given kp44 [(3,4,.call (bigA false (r.num * (↑s.den:Int))) none),(3,9,.call (bigA false (s.num * (↑r.den:Int))) none),(3,10,.call (bigA false (r.num * (↑s.den:Int) + s.num * (↑r.den:Int))) none),(3,15,.call (bigA false ((↑r.den:Int) * (↑s.den:Int))) none),(3,16,.call (ratA false false (Rat.divInt (r.num * (↑s.den:Int) + s.num * (↑r.den:Int)) ((↑r.den:Int) * (↑s.den:Int)))) none)] []) 1000 [false] (ratA false false (Rat.divInt (r.num * (↑s.den:Int) + s.num * (↑r.den:Int)) ((↑r.den:Int) * (↑s.den:Int)))) (by kernel_rfl) (bc (beq_f (fun h => d3 (i_eq.1 h))) (bc rfl (bc rfl (bc rfl (bc rfl (bc rfl (bc rfl (bc rfl b0)))))))) q0 (ce (@ev65 (fa) (gb) (r.num) ((↑s.den:Int)) k6) (ce (@ev65 (fb) (ga) (s.num) ((↑r.den:Int)) k7) (ce (@ev66 (false) (false) (r.num * (↑s.den:Int)) (s.num * (↑r.den:Int)) k8) (ce (@ev65 (ga) (gb) ((↑r.den:Int)) ((↑s.den:Int)) k1) (ce (@ev60 (false) (false) (r.num * (↑s.den:Int) + s.num * (↑r.den:Int)) ((↑r.den:Int) * (↑s.den:Int)) k9) c0))))) H
theorem vRMul (fa ga fb gb:Bool) (r s:Rat)  (dq:AV) (H :
  (Sp.okB r.num /\ Sp.okB s.num) /\
  (Sp.okB (↑r.den:Int) /\ Sp.okB (↑s.den:Int)) /\
  (Sp.okB (r.num * s.num) /\ Sp.okB ((↑r.den:Int) * (↑s.den:Int)) /\ (↑r.den:Int) * (↑s.den:Int) ≠ 0) /\
  Weak (ratA false false (Rat.divInt (r.num * s.num) ((↑r.den:Int) * (↑s.den:Int)))) dq) :
 vRMul_at fa ga fb gb r s (PureQ dq):=by
 unfold vRMul_at
 obtain ⟨k1,H⟩:=H
 obtain ⟨k2,H⟩:=H
 obtain ⟨k3,H⟩:=H
 exact path_rq (G:=given kp43 [(1,4,.call (bigA false (r.num * s.num)) none),(1,9,.call (bigA false ((↑r.den:Int) * (↑s.den:Int))) none),(1,10,.call (ratA false false (Rat.divInt (r.num * s.num) ((↑r.den:Int) * (↑s.den:Int)))) none)] []) 1000 [] (ratA false false (Rat.divInt (r.num * s.num) ((↑r.den:Int) * (↑s.den:Int)))) (by kernel_rfl) (bc rfl (bc rfl (bc rfl (bc rfl (bc rfl b0))))) q0 (ce (@ev65 (fa) (fb) (r.num) (s.num) k1) (ce (@ev65 (ga) (gb) ((↑r.den:Int)) ((↑s.den:Int)) k2) (ce (@ev60 (false) (false) (r.num * s.num) ((↑r.den:Int) * (↑s.den:Int)) k3) c0))) H
theorem vRDiv (fa ga fb gb:Bool) (r s:Rat)  (dq:AV) (H :
  ((Sp.sgnI s.num = 0) -> Weak (tu [ag [vb false,AV.vnil,vb false,AV.vnil],vi 6]) dq) /\
  (¬(Sp.sgnI s.num = 0) -> (Sp.okB r.num /\ Sp.okB (↑s.den:Int)) /\
   (Sp.okB (↑r.den:Int) /\ Sp.okB s.num) /\
   (Sp.okB (r.num * (↑s.den:Int)) /\ Sp.okB ((↑r.den:Int) * s.num) /\ (↑r.den:Int) * s.num ≠ 0) /\
   Weak (tu [ratA false false (Rat.divInt (r.num * (↑s.den:Int)) ((↑r.den:Int) * s.num)),vi 0]) dq)) :
 vRDiv_at fa ga fb gb r s (PureQ dq):=by
 unfold vRDiv_at
 refine path_wp (G:=given kp53 [(1,1,.call (vi (Sp.sgnI s.num)) none)] []) 5 [] ⟨(atC (cd Try.f53) [1,0,1]),[(2,AV.ptr 0 0 0 0),(3,AV.ptr 1 0 0 0),(4,AV.ptr 2 0 0 0),(8,vb (Sp.sgnI s.num == 0))],[⟨[ratA fa ga r],4,0,false,false⟩,⟨[ratA fb gb s],4,0,false,false⟩,⟨[ag [vb false,AV.vnil,vb false,AV.vnil]],4,0,false,false⟩],_,[],_⟩ (by kernel_rfl) (bc rfl b0) q0 (ce (@ev63 (fb) (gb) (s.num) ((↑s.den:Int))) c0) ?_
 rcases xm (Sp.sgnI s.num = 0) with d2 | d2
 ·have H:=H.1 d2
  exact path_rq (G:=given kp53 [] []) 1000 [true] (tu [ag [vb false,AV.vnil,vb false,AV.vnil],vi 6]) (by kernel_rfl) (bc (beq_t (i_eq.2 d2)) (bc rfl b0)) q0 c0 H
 ·have H:=H.2 d2
  obtain ⟨k3,H⟩:=H
  obtain ⟨k4,H⟩:=H
  obtain ⟨k5,H⟩:=H
  exact path_rq (G:=given kp53 [(3,4,.call (bigA false (r.num * (↑s.den:Int))) none),(3,9,.call (bigA false ((↑r.den:Int) * s.num)) none),(3,10,.call (ratA false false (Rat.divInt (r.num * (↑s.den:Int)) ((↑r.den:Int) * s.num))) none)] []) 1000 [false] (tu [ratA false false (Rat.divInt (r.num * (↑s.den:Int)) ((↑r.den:Int) * s.num)),vi 0]) (by kernel_rfl) (bc (beq_f (fun h => d2 (i_eq.1 h))) (bc rfl (bc rfl (bc rfl (bc rfl (bc rfl b0)))))) q0 (ce (@ev65 (fa) (gb) (r.num) ((↑s.den:Int)) k3) (ce (@ev65 (ga) (fb) ((↑r.den:Int)) (s.num) k4) (ce (@ev60 (false) (false) (r.num * (↑s.den:Int)) ((↑r.den:Int) * s.num) k5) c0))) H
theorem vRCmp (fa ga fb gb:Bool) (r s:Rat)  (dq:AV) (H :
  ∃ (n1:Int),
  (Ev M1 (Conf.pure 62 [vi (Sp.sgnI r.num),vi (Sp.sgnI s.num)]) (vi n1) []) /\
  ((¬n1 = 0) -> vi n1 = dq) /\
  (¬(¬n1 = 0) -> (Sp.okB r.num /\ Sp.okB (↑s.den:Int)) /\
   (Sp.okB s.num /\ Sp.okB (↑r.den:Int)) /\
   (Sp.okB (r.num * (↑s.den:Int)) /\ Sp.okB (s.num * (↑r.den:Int))) /\
   vi (Sp.sgnI (r.num * (↑s.den:Int) - s.num * (↑r.den:Int))) = dq)) :
 vRCmp_at fa ga fb gb r s (PureQ dq):=by
 unfold vRCmp_at
 obtain ⟨n1,H⟩:=H
 obtain ⟨k1,H⟩:=H
 refine path_wp (G:=given kp42 [(1,1,.call (vi (Sp.sgnI r.num)) none),(1,3,.call (vi (Sp.sgnI s.num)) none),(1,4,.call (vi n1) none)] []) 7 [] ⟨(atC (cd Try.f42) [1,0,1,1]),[(2,AV.ptr 0 0 0 0),(3,AV.ptr 1 0 0 0),(5,vi n1),(12,vb (n1 != 0))],[⟨[ratA fa ga r],4,0,false,false⟩,⟨[ratA fb gb s],4,0,false,false⟩],_,[],_⟩ (by kernel_rfl) (bc rfl (bc rfl b0)) q0 (ce (@ev63 (fa) (ga) (r.num) ((↑r.den:Int))) (ce (@ev63 (fb) (gb) (s.num) ((↑s.den:Int))) (ce k1 c0))) ?_
 rcases xm (¬n1 = 0) with d3 | d3
 ·have H:=H.1 d3
  exact path_re (G:=given kp42 [] []) 1000 [true] (vi n1) (by kernel_rfl) (bc (beq_t (i_ne.2 d3)) b0) q0 c0 H
 ·have H:=H.2 d3
  obtain ⟨k4,H⟩:=H
  obtain ⟨k5,H⟩:=H
  obtain ⟨k6,H⟩:=H
  exact path_re (G:=given kp42 [(4,4,.call (bigA false (r.num * (↑s.den:Int))) none),(4,9,.call (bigA false (s.num * (↑r.den:Int))) none),(4,10,.call (vi (Sp.sgnI (r.num * (↑s.den:Int) - s.num * (↑r.den:Int)))) none)] []) 1000 [false] (vi (Sp.sgnI (r.num * (↑s.den:Int) - s.num * (↑r.den:Int)))) (by kernel_rfl) (bc (beq_f (fun h => d3 (i_ne.1 h))) (bc rfl (bc rfl (bc rfl (bc rfl b0))))) q0 (ce (@ev65 (fa) (gb) (r.num) ((↑s.den:Int)) k4) (ce (@ev65 (fb) (ga) (s.num) ((↑r.den:Int)) k5) (ce (@ev64 (false) (false) (r.num * (↑s.den:Int)) (s.num * (↑r.den:Int)) k6) c0))) H
theorem vRFrom (n:Int)  (dq:AV) (H :
  (Sp.inI n) /\
  Weak (ratA false false (↑n:Rat)) dq) :
 vRFrom_at n (PureQ dq):=by
 unfold vRFrom_at
 obtain ⟨k1,H⟩:=H
 exact path_rq (G:=given kp41 [(1,1,.call (bigA false n) none),(1,2,.call (ratA false false (↑n:Rat)) none)] []) 1000 [] (ratA false false (↑n:Rat)) (by kernel_rfl) (bc rfl b0) q0 (ce (@ev51 (n) k1) (ce (@ev61 (false) (n)) c0)) H
noncomputable abbrev zNvK1:=ag [vb false,AV.vnil,vb false,AV.vnil]
theorem vRSqrt (fa ga:Bool) (r:Rat)  (dq:AV) (H :
  (Sp.okS r.num) /\
  ((Sp.isSq r.num = true) -> (Sp.okS (↑r.den:Int)) /\
   ((Sp.isSq (↑r.den:Int) = true) -> Weak (tu [ag [vb (Sp.isNeg (Sp.sq r.num)),vf (us (Sp.limI (Sp.sq r.num))),vb (Sp.isNeg (Sp.sq (↑r.den:Int))),vf (us (Sp.limI (Sp.sq (↑r.den:Int))))],vb true]) dq) /\
   (¬(Sp.isSq (↑r.den:Int) = true) -> Weak (tu [ag [vb false,AV.vnil,vb false,AV.vnil],vb false]) dq)) /\
  (¬(Sp.isSq r.num = true) -> Weak (tu [ag [vb false,AV.vnil,vb false,AV.vnil],vb false]) dq)) :
 vRSqrt_at fa ga r (PureQ dq):=by
 unfold vRSqrt_at
 obtain ⟨k1,H⟩:=H
 refine path_wp (G:=given kp74 [(1,2,.call (tu [bigA false (Sp.sq r.num),vb (Sp.isSq r.num)]) none)] []) 7 [] ⟨(atC (cd Try.f74) [1,0,1,1]),[(1,AV.ptr 0 0 0 0),(2,AV.ptr 1 0 0 0),(4,AV.ptr 2 0 0 0),(14,vb (Sp.isSq r.num))],[⟨[ratA fa ga r],4,0,false,false⟩,⟨[zNvK1],4,0,false,false⟩,⟨[bigA false (Sp.sq r.num)],2,0,false,false⟩],_,[],_⟩ (by kernel_rfl) (bc rfl (bc rfl b0)) q0 (ce (@ev92 (fa) (r.num) k1) c0) ?_
 rcases xm (Sp.isSq r.num = true) with d3 | d3
 ·have H:=H.1 d3
  obtain ⟨k4,H⟩:=H
  refine path_wp (G:=given kp74 [(3,2,.call (tu [bigA false (Sp.sq (↑r.den:Int)),vb (Sp.isSq (↑r.den:Int))]) none)] []) 5 [true] ⟨(atC (cd Try.f74) [1,0,1,1,0,1,1]),[(2,AV.ptr 1 0 0 0),(4,AV.ptr 2 0 0 0),(6,AV.ptr 3 0 0 0),(21,vb (Sp.isSq (↑r.den:Int)))],[⟨[ratA fa ga r],4,0,false,false⟩,⟨[zNvK1],4,0,false,false⟩,⟨[bigA false (Sp.sq r.num)],2,0,false,false⟩,⟨[bigA false (Sp.sq (↑r.den:Int))],2,0,false,false⟩],[(Sp.isSq r.num) == true,true,true],[],_⟩ (by kernel_rfl) (bc (beq_t ((i_var _).2 d3)) (bc rfl (bc rfl b0))) q0 (ce (@ev92 (ga) ((↑r.den:Int)) k4) c0) ?_
  rcases xm (Sp.isSq (↑r.den:Int) = true) with d6 | d6
  ·have H:=H.1 d6
   exact path_rq (G:=given kp74 [] []) 1000 [true] (asm:=[(Sp.isSq (↑r.den:Int)) == true,true,true,true]) (tu [ag [vb (Sp.isNeg (Sp.sq r.num)),vf (us (Sp.limI (Sp.sq r.num))),vb (Sp.isNeg (Sp.sq (↑r.den:Int))),vf (us (Sp.limI (Sp.sq (↑r.den:Int))))],vb true]) (by kernel_rfl) (bc (beq_t ((i_var _).2 d6)) (bc rfl (bc rfl (bc rfl b0)))) q0 c0 H
  ·have H:=H.2 d6
   exact path_rq (G:=given kp74 [] []) 1000 [false] (asm:=[(Sp.isSq (↑r.den:Int)) == false,true]) (tu [zNvK1,vb false]) (by kernel_rfl) (bc (beq_f (fun h => d6 ((i_var _).1 h))) (bc rfl b0)) q0 c0 H
 ·have H:=H.2 d3
  exact path_rq (G:=given kp74 [] []) 1000 [false] (asm:=[(Sp.isSq r.num) == false,true]) (tu [zNvK1,vb false]) (by kernel_rfl) (bc (beq_f (fun h => d3 ((i_var _).1 h))) (bc rfl b0)) q0 c0 H
end Go.Av

namespace Go.Av
open Go.Proofs
def Sp.okR (r:Rat):Prop:=Sp.cnt r.num.natAbs <= 90000 /\ Sp.cnt r.den <= 90000
theorem okR_B {r:Rat} (h:Sp.okR r):Sp.okB r.num /\ Sp.okB (r.den:Int):=by
 unfold Sp.okR at h
 unfold Sp.okB
 rw [Int.natAbs_natCast];omega
theorem cnt_mulI {a b:Int} {n m:Nat} (ha:Sp.cnt a.natAbs <= n) (hb:Sp.cnt b.natAbs <= m):Sp.cnt (a * b).natAbs <= n + m:=by
 rw [Int.natAbs_mul]
 exact fits_cnt.1 (fits_prod (fits_cnt.2 ha) (fits_cnt.2 hb))
theorem cnt_addI {a b:Int} {n:Nat} (ha:Sp.cnt a.natAbs <= n) (hb:Sp.cnt b.natAbs <= n):Sp.cnt (a + b).natAbs <= n + 1:=by
 have h:=fits_cnt.1 (fits_sum (fits_cnt.2 ha) (fits_cnt.2 hb))
 exact Nat.le_trans (cnt_mono (Int.natAbs_add_le a b)) h
theorem cnt_den {r:Rat} {n:Nat} (h:Sp.cnt r.den <= n):Sp.cnt ((r.den:Int)).natAbs <= n:=by rwa [Int.natAbs_natCast]
theorem den_ne (r:Rat):(r.den:Int) ≠ 0:=by have:=r.den_pos;omega
theorem rat_add (r s:Rat):Rat.divInt (r.num * (s.den:Int) + s.num * (r.den:Int)) ((r.den:Int) * (s.den:Int)) = r + s:=by
 rw [<- Rat.divInt_add_divInt _ _ (den_ne r) (den_ne s),Rat.num_divInt_den,Rat.num_divInt_den]
theorem rat_add_same {r s:Rat} (h:(r.den:Int) = (s.den:Int)):Rat.divInt (r.num + s.num) (r.den:Int) = r + s:=by
 rw [<- rat_add,<- h,<- Int.add_mul,Rat.divInt_mul_right (den_ne r)]
theorem rat_mul (r s:Rat):Rat.divInt (r.num * s.num) ((r.den:Int) * (s.den:Int)) = r * s:=by
 rw [<- Rat.divInt_mul_divInt,Rat.num_divInt_den,Rat.num_divInt_den]
theorem rat_div (r s:Rat):Rat.divInt (r.num * (s.den:Int)) ((r.den:Int) * s.num) = r / s:=by
 rw [<- Rat.divInt_mul_divInt,Rat.num_divInt_den,<- Rat.inv_divInt,Rat.num_divInt_den,Rat.div_def]
theorem ev44 (fa ga fb gb:Bool) (r s:Rat) (h:Sp.okR r /\ Sp.okR s):Ev M1 (.pure 44 [ratA fa ga r,ratA fb gb s]) (ratA false false (r + s)) []:=by
 obtain ⟨hr,hs⟩:=h
 obtain ⟨r1,r2⟩:=okR_B hr
 obtain ⟨s1,s2⟩:=okR_B hs
 obtain ⟨cr1,cr2⟩:=hr
 obtain ⟨cs1,cs2⟩:=hs
 have m1:=cnt_mulI cr1 (cnt_den cs2)
 have m2:=cnt_mulI cs1 (cnt_den cr2)
 have m3:=cnt_mulI (cnt_den cr2) (cnt_den cs2)
 have a1:=cnt_addI m1 m2
 have a2:=cnt_addI cr1 cs1
 refine call44 (vRAdd _ _ _ _ _ _ _ ⟨⟨r2,s2⟩,fun k => ⟨⟨r1,s1⟩,⟨by unfold Sp.okB;omega,r2,den_ne r⟩,?_⟩,fun k => ⟨⟨r1,s2⟩,⟨s1,r2⟩,⟨by unfold Sp.okB;omega,by unfold Sp.okB;omega⟩,⟨by unfold Sp.okB;omega,by unfold Sp.okB;omega,Int.mul_ne_zero (den_ne r) (den_ne s)⟩,?_⟩⟩)
 ·have k:=sgnI_zero.1 k
  rw [rat_add_same (by omega)];exact .refl _
 ·rw [rat_add];exact .refl _
theorem ev43 (fa ga fb gb:Bool) (r s:Rat) (h:Sp.okR r /\ Sp.okR s):Ev M1 (.pure 43 [ratA fa ga r,ratA fb gb s]) (ratA false false (r * s)) []:=by
 obtain ⟨hr,hs⟩:=h
 obtain ⟨r1,r2⟩:=okR_B hr
 obtain ⟨s1,s2⟩:=okR_B hs
 obtain ⟨cr1,cr2⟩:=hr
 obtain ⟨cs1,cs2⟩:=hs
 have m1:=cnt_mulI cr1 cs1
 have m3:=cnt_mulI (cnt_den cr2) (cnt_den cs2)
 refine call43 (vRMul _ _ _ _ _ _ _ ⟨⟨r1,s1⟩,⟨r2,s2⟩,⟨by unfold Sp.okB;omega,by unfold Sp.okB;omega,Int.mul_ne_zero (den_ne r) (den_ne s)⟩,?_⟩)
 rw [rat_mul];exact .refl _
theorem hid_ex (r:Rat):∃ s:Rat,s = r:=⟨r,rfl⟩
noncomputable def Sp.hid (r:Rat):Rat:=Classical.choose (hid_ex r)
theorem hid_eq (r:Rat):Sp.hid r = r:=Classical.choose_spec (hid_ex r)
noncomputable def Sp.qi (n:Int):Rat:=Sp.hid n
theorem qi_eq (n:Int):Sp.qi n = (n:Rat):=hid_eq _
theorem ev41 (n:Int) (h:Sp.inI n):Ev M1 (.pure 41 [.int .i64 n]) (ratA false false (Sp.qi n)) []:=by
 rw [qi_eq]
 exact call41 (vRFrom _ _ ⟨h,.refl _⟩)
end Go.Av

namespace Go.Av
open Go.Proofs
theorem isSq_iff (a:Int):Sp.isSq a = true ↔ 0 <= a /\ Sp.sq a * Sp.sq a = a:=by
 unfold Sp.isSq Sp.sqe
 by_cases h:a < 0
 ·rw [if_pos h];simp;omega
 ·rw [if_neg h]
  have:=@sgnI_zero (Sp.sq a * Sp.sq a - a)
  simp only [beq_self_eq_true,cond_true,beq_iff_eq,this]
  omega
theorem sq_nonneg (a:Int):0 <= Sp.sq a:=by
 unfold Sp.sq;split <;> omega
namespace Sp
def rsq (r:Rat):Prop:=isSq r.num = true /\ isSq (r.den:Int) = true
noncomputable def rt (r:Rat):Rat:=Rat.divInt (sq r.num) (sq (r.den:Int))
end Sp
theorem dvd_one {g:Nat} (h:g ∣ 1):g = 1:=Nat.dvd_one.1 h
theorem gcd_sq {r:Rat} (h:Sp.rsq r):Int.gcd (Sp.sq r.num) (Sp.sq (r.den:Int)) = 1:=by
 obtain ⟨h1,h2⟩:=h
 obtain ⟨_,h1⟩:=(isSq_iff _).1 h1
 obtain ⟨_,h2⟩:=(isSq_iff _).1 h2
 have c:Nat.gcd r.num.natAbs r.den = 1:=r.reduced
 generalize Sp.sq r.num = x at *
 generalize Sp.sq (r.den:Int) = y at *
 have e1:x.natAbs ∣ r.num.natAbs:=by rw [<- h1,Int.natAbs_mul];exact Nat.dvd_mul_right _ _
 have e2:y.natAbs ∣ r.den:=by
  have:r.den = (r.den:Int).natAbs:=rfl
  rw [this,<- h2,Int.natAbs_mul];exact Nat.dvd_mul_right _ _
 apply Nat.dvd_one.1
 rw [<- c]
 exact Nat.dvd_gcd (Nat.dvd_trans (Nat.gcd_dvd_left _ _) e1) (Nat.dvd_trans (Nat.gcd_dvd_right _ _) e2)
theorem sq_den_pos {r:Rat} (h:Sp.rsq r):0 < Sp.sq (r.den:Int):=by
 obtain ⟨_,h2⟩:=(isSq_iff _).1 h.2
 have:=sq_nonneg (r.den:Int)
 have hd:=r.den_pos
 by_cases e:Sp.sq (r.den:Int) = 0
 ·rw [e] at h2;omega
 ·omega
theorem rt_num {r:Rat} (h:Sp.rsq r):(Sp.rt r).num = Sp.sq r.num /\ ((Sp.rt r).den:Int) = Sp.sq (r.den:Int):=by
 obtain ⟨e1,e2⟩:=rat_pos (a:=Sp.sq r.num) (sq_den_pos h)
 unfold Sp.rt
 rw [e1,e2,gcd_sq h];simp
theorem rt_mul {r:Rat} (h:Sp.rsq r):Sp.rt r * Sp.rt r = r:=by
 obtain ⟨e1,e2⟩:=rt_num h
 rw [<- rat_mul,e1,e2,((isSq_iff _).1 h.1).2,((isSq_iff _).1 h.2).2,Rat.num_divInt_den]
end Go.Av

namespace Go.Av
open Go.Proofs
end Go.Av

namespace Go.Av
open Go.Proofs
set_option maxRecDepth 100000
def fi23:Fi:=⟨17,[.tmp 4]⟩
def kp23:List (Nat × List Nat):=[(0,[2,3]),(1,[4])]
def fi48:Fi:=⟨6,[.cell 2 54]⟩
def kp48:List (Nat × List Nat):=[(0,[1,2]),(1,[2])]
def fi68:Fi:=⟨2,[.cell 0 52]⟩
def kp68:List (Nat × List Nat):=[(0,[0]),(1,[0])]
def rUnit_at  (Q:AV -> Heap -> Prop):Prop:=Wp M1 (.run fi68 (atC (cd Try.f68) []) [] []) Q
def rFromInt_at (fa:Bool) (a:Int) (Q:AV -> Heap -> Prop):Prop:=Wp M1 (.run fi48 (atC (cd Try.f48) []) [(0,bigA fa a)] []) Q
def rRSame_at (fa ga fb gb:Bool) (p q p2 q2:Int) (Q:AV -> Heap -> Prop):Prop:=Wp M1 (.run fi23 (atC (cd Try.f23) []) [(0,.agg [.bool (Sp.isNeg p),.vec fa 1 ((Sp.limI p).map (.int .u32)),.bool (Sp.isNeg q),.vec ga 1 ((Sp.limI q).map (.int .u32))]),(1,.agg [.bool (Sp.isNeg p2),.vec fb 1 ((Sp.limI p2).map (.int .u32)),.bool (Sp.isNeg q2),.vec gb 1 ((Sp.limI q2).map (.int .u32))])] []) Q
theorem call23 {args:List AV} {d:AV} (h:wc M1 fi23 Try.f23 args d):Ev M1 (.pure 23 args) d []:=pcl _ _ (by kernel_rfl) h
theorem call48 {args:List AV} {d:AV} (h:wc M1 fi48 Try.f48 args d):Ev M1 (.pure 48 args) d []:=pcl _ _ (by kernel_rfl) h
theorem call68 {args:List AV} {d:AV} (h:wc M1 fi68 Try.f68 args d):Ev M1 (.pure 68 args) d []:=pcl _ _ (by kernel_rfl) h
theorem rUnit   (dq:AV) (H :
  (Sp.inI 1) /\
  Weak (ag [vb false,vf (us (Sp.limI 1))]) dq) :
 rUnit_at  (PureQ dq):=by
 unfold rUnit_at
 obtain ⟨k1,H⟩:=H
 exact path_rq (G:=given kp68 [(1,0,.call (ag [vb false,vf (us (Sp.limI 1))]) none)] []) 1000 [] (ag [vb false,vf (us (Sp.limI 1))]) (by kernel_rfl) (bc rfl b0) q0 (ce (@ev49 (1) k1) c0) H
theorem rFromInt (fa:Bool) (a:Int)  (dq:AV) (H :
  ∃ (b1:Bool) (l1:List (Int)),
  (Ev M1 (Conf.pure 68 []) (ag [vb b1,vf (us l1)]) []) /\
  Weak (ag [vb (Sp.isNeg a),AV.vec fa 1 (us (Sp.limI a)),vb b1,vf (us l1)]) dq) :
 rFromInt_at fa a (PureQ dq):=by
 unfold rFromInt_at
 obtain ⟨b1,l1,H⟩:=H
 obtain ⟨k1,H⟩:=H
 exact path_rq (G:=given kp48 [(1,1,.call (ag [vb b1,vf (us l1)]) none)] []) 1000 [] (ag [vb (Sp.isNeg a),AV.vec fa 1 (us (Sp.limI a)),vb b1,vf (us l1)]) (by kernel_rfl) (bc rfl (bc rfl b0)) q0 (ce k1 c0) H
theorem rRSame (fa ga fb gb:Bool) (p q p2 q2:Int)  (dq:AV) (H :
  (Sp.ok p /\ Sp.ok p2) /\
  ((p = p2) -> (Sp.ok q /\ Sp.ok q2)) /\
  vb (bif decide (p = p2) then decide (q = q2) else false) = dq) :
 rRSame_at fa ga fb gb p q p2 q2 (PureQ dq):=by
 unfold rRSame_at
 obtain ⟨k1,H⟩:=H
 obtain ⟨k3,H⟩:=H
 exact path_re (G:=given kp23 [(1,4,.call (vb (decide (p = p2))) none),(1,10,.call (vb (decide (q = q2))) none)] []) 1000 [] (asm:=[true,true,!(decide (p = p2) == true && true) || true,!(decide (p = p2) == true && true) || true]) (calls:=[⟨true,false,47,[bigA fa p,bigA fb p2],[],vb (decide (p = p2)),[]⟩,⟨decide (p = p2) == true && true && true,false,47,[bigA ga q,bigA gb q2],[],vb (decide (q = q2)),[]⟩]) (vb (bif decide (p = p2) then decide (q = q2) else false)) (by kernel_rfl) (bc rfl (bc rfl (bc (Bool.or_true _) (bc (Bool.or_true _) b0)))) q0 (cc (fun _ => (@ev47 (fa) (fb) (p) (p2) k1)) (cc (fun hc => ((@ev47 (ga) (gb) (q) (q2) (k3 ((i_at (i_at (i_bt i_dec))).1 hc))):Ev M1 (Conf.pure 47 [bigA ga q,bigA gb q2]) (vb (decide (q = q2))) [])) c0)) H
end Go.Av

namespace Go.Av
open Go.Proofs
set_option maxRecDepth 100000
def fi84:Fi:=⟨6,[.tmp 2]⟩
def kp84:List (Nat × List Nat):=[(0,[0]),(1,[2])]
def vIsNaN_at (x:Int) (Q:AV -> Heap -> Prop):Prop:=Wp M1 (.run fi84 (atC (cd Try.f84) []) [(0,.int .i64 x)] []) Q
theorem call84 {args:List AV} {d:AV} (h:wc M1 fi84 Try.f84 args d):Ev M1 (.pure 84 args) d []:=pcl _ _ (by kernel_rfl) h
theorem vIsNaN (x:Int)  (dq:AV) (H :
  (vb (x != x)) = dq) :
 vIsNaN_at x (PureQ dq):=by
 unfold vIsNaN_at
 exact path_re (G:=given kp84 [] []) 1000 [] (vb (x != x)) (by kernel_rfl) b0 q0 c0 H
end Go.Av

namespace Go.Av
open Go.Proofs
theorem ev84 (x:Int):Ev M1 (.pure 84 [.int .i64 x]) (.bool false) []:=
 call84 (vIsNaN _ _ (by simp))
theorem ev53 (fa ga fb gb:Bool) (r s:Rat) (h:Sp.okR r /\ Sp.okR s /\ s.num ≠ 0):Ev M1 (.pure 53 [ratA fa ga r,ratA fb gb s]) (.tup [ratA false false (r / s),.int .i64 0]) []:=by
 obtain ⟨hr,hs,h0⟩:=h
 obtain ⟨r1,r2⟩:=okR_B hr
 obtain ⟨s1,s2⟩:=okR_B hs
 obtain ⟨cr1,cr2⟩:=hr
 obtain ⟨cs1,cs2⟩:=hs
 have m1:=cnt_mulI cr1 (cnt_den cs2)
 have m3:=cnt_mulI (cnt_den cr2) cs1
 refine call53 (vRDiv _ _ _ _ _ _ _ ⟨fun k => absurd (sgnI_zero.1 k) h0,fun _ => ⟨⟨r1,s2⟩,⟨r2,s1⟩,⟨by unfold Sp.okB;omega,by unfold Sp.okB;omega,Int.mul_ne_zero (den_ne r) h0⟩,?_⟩⟩)
 rw [rat_div];exact .refl _
end Go.Av

namespace Go.Av
open Go.Proofs
set_option maxRecDepth 100000
def fi45:Fi:=⟨9,[.cell 4 54]⟩
def kp45:List (Nat × List Nat):=[(0,[2,3,4]),(1,[4])]
def fi62:Fi:=⟨20,[.tmp 4]⟩
def kp62:List (Nat × List Nat):=[(0,[0,1]),(1,[0,1,5]),(2,[0,1,5,6]),(3,[0,1,6,11]),(4,[12]),(5,[4]),(6,[4]),(7,[0,1,13]),(8,[4]),(9,[0,1,16]),(10,[4]),(11,[19]),(12,[4]),(13,[4])]
def vCmpInt_at (x y:Int) (Q:AV -> Heap -> Prop):Prop:=Wp M1 (.run fi62 (atC (cd Try.f62) []) [(0,.int .i64 x),(1,.int .i64 y)] []) Q
def vRSub_at (fa ga fb gb:Bool) (r s:Rat) (Q:AV -> Heap -> Prop):Prop:=Wp M1 (.run fi45 (atC (cd Try.f45) []) [(0,ratA fa ga r),(1,ratA fb gb s)] []) Q
theorem call45 {args:List AV} {d:AV} (h:wc M1 fi45 Try.f45 args d):Ev M1 (.pure 45 args) d []:=pcl _ _ (by kernel_rfl) h
theorem call62 {args:List AV} {d:AV} (h:wc M1 fi62 Try.f62 args d):Ev M1 (.pure 62 args) d []:=pcl _ _ (by kernel_rfl) h
theorem vCmpInt (x y:Int)  (dq:AV) (H :
  ((x < y) -> vi (-1) = dq) /\
  (¬(x < y) -> ((x > y) -> vi 1 = dq) /\
   (¬(x > y) -> vi 0 = dq))) :
 vCmpInt_at x y (PureQ dq):=by
 unfold vCmpInt_at
 refine path_wp (G:=given kp62 [(1,1,.call (vb false) none),(2,1,.call (vb false) none)] []) 19 [false,false] ⟨(atC (cd Try.f62) [1,1,1,1,1,0,1]),[(0,vi x),(1,vi y),(16,vb (decide (x < y)))],[],_,[],_⟩ (by kernel_rfl) (bc rfl (bc rfl b0)) q0 (ce (@ev84 (x)) (ce (@ev84 (y)) c0)) ?_
 rcases xm (x < y) with d2 | d2
 ·have H:=H.1 d2
  exact path_re (G:=given kp62 [] []) 1000 [true] (vi (-1)) (by kernel_rfl) (bc (beq_t (i_dec.2 d2)) b0) q0 c0 H
 ·have H:=H.2 d2
  rcases xm (x > y) with d4 | d4
  ·have H:=H.1 d4
   exact path_re (G:=given kp62 [] []) 1000 [false,true] (vi 1) (by kernel_rfl) (bc (beq_f (fun h => d2 (i_dec.1 h))) (bc (beq_t (i_dec.2 d4)) b0)) q0 c0 H
  ·have H:=H.2 d4
   exact path_re (G:=given kp62 [] []) 1000 [false,false] (vi 0) (by kernel_rfl) (bc (beq_f (fun h => d2 (i_dec.1 h))) (bc (beq_f (fun h => d4 (i_dec.1 h))) b0)) q0 c0 H
theorem vRSub (fa ga fb gb:Bool) (r s:Rat)  (dq:AV) (H :
  (Sp.okB s.num) /\
  (Sp.okR r /\ Sp.okR (-s)) /\
  Weak (ratA false false (r + -s)) dq) :
 vRSub_at fa ga fb gb r s (PureQ dq):=by
 unfold vRSub_at
 obtain ⟨k1,H⟩:=H
 obtain ⟨k2,H⟩:=H
 exact path_rq (G:=given kp45 [(1,2,.call (ratA false false (-s)) none),(1,3,.call (ratA false false (r + -s)) none)] []) 1000 [] (ratA false false (r + -s)) (by kernel_rfl) (bc rfl (bc rfl (bc rfl b0))) q0 (ce (@ev58 (fb) (gb) (s) k1) (ce (@ev44 (fa) (ga) (false) (false) (r) (-s) k2) c0)) H
end Go.Av

namespace Go.Av
open Go.Proofs
theorem ev62 (x y:Int):Ev M1 (.pure 62 [.int .i64 x,.int .i64 y]) (.int .i64 (Sp.sgnI (x - y))) []:=by
 refine call62 (vCmpInt _ _ _ ⟨fun h => ?_,fun h => ⟨fun k => ?_,fun k => ?_⟩⟩)
 ·unfold Sp.sgnI;rw [if_pos (by omega)]
 ·unfold Sp.sgnI;rw [if_neg (by omega),if_pos (by omega)]
 ·unfold Sp.sgnI;rw [if_neg (by omega),if_neg (by omega)]
theorem okR_neg {s:Rat} (h:Sp.okR s):Sp.okR (-s):=by
 unfold Sp.okR at *
 rw [Rat.neg_num,Rat.neg_den,Int.natAbs_neg];exact h
theorem ev45 (fa ga fb gb:Bool) (r s:Rat) (h:Sp.okR r /\ Sp.okR s):Ev M1 (.pure 45 [ratA fa ga r,ratA fb gb s]) (ratA false false (r - s)) []:=by
 refine call45 (vRSub _ _ _ _ _ _ _ ⟨(okR_B h.2).1,⟨h.1,okR_neg h.2⟩,?_⟩)
 rw [<- Rat.sub_eq_add_neg];exact .refl _
theorem sgn_mul (a:Int) {d:Int} (h:0 < d):(a < 0 -> a * d < 0) /\ (a = 0 -> a * d = 0) /\ (0 < a -> 0 < a * d):=
 ⟨fun k => Int.mul_neg_of_neg_of_pos k h,fun k => by rw [k,Int.zero_mul],fun k => Int.mul_pos k h⟩
theorem ev42 (fa ga fb gb:Bool) (r s:Rat) (h:Sp.okR r /\ Sp.okR s):Ev M1 (.pure 42 [ratA fa ga r,ratA fb gb s]) (.int .i64 (Sp.sgnI (r.num * (s.den:Int) - s.num * (r.den:Int)))) []:=by
 obtain ⟨hr,hs⟩:=h
 obtain ⟨r1,r2⟩:=okR_B hr
 obtain ⟨s1,s2⟩:=okR_B hs
 obtain ⟨cr1,cr2⟩:=hr
 obtain ⟨cs1,cs2⟩:=hs
 have m1:=cnt_mulI cr1 (cnt_den cs2)
 have m2:=cnt_mulI cs1 (cnt_den cr2)
 refine call42 (vRCmp _ _ _ _ _ _ _ ⟨_,ev62 _ _,fun k => ?_,fun _ => ⟨⟨r1,s2⟩,⟨s1,r2⟩,⟨by unfold Sp.okB;omega,by unfold Sp.okB;omega⟩,rfl⟩⟩)
 obtain ⟨a1,a2,a3⟩:=sgn_mul r.num (d:=(s.den:Int)) (by have:=s.den_pos;omega)
 obtain ⟨b1,b2,b3⟩:=sgn_mul s.num (d:=(r.den:Int)) (by have:=r.den_pos;omega)
 congr 1
 generalize r.num * (s.den:Int) = A at a1 a2 a3 ⊢
 generalize s.num * (r.den:Int) = B at b1 b2 b3 ⊢
 unfold Sp.sgnI at k ⊢
 (repeat' split at k) <;> (repeat' split) <;> omega
end Go.Av

namespace Go.Av
open Go.Proofs
abbrev noR:AV:=.agg [.bool false,.vec false 1 [],.bool false,.vec false 1 []]
theorem weak_nr:Weak (.agg [.bool false,.vnil,.bool false,.vnil]) noR:=by
 have w:Weak .vnil (.vec false 1 []):=by
  have:=weak_bnil false
  cases this with
  | agg xs ys hl h => exact h 1 _ _ rfl rfl
 refine .agg _ _ rfl fun i x y hx hy => ?_
 match i with
 | 0 => simp at hx hy;subst hx;subst hy;exact .refl _
 | 1 => simp at hx hy;subst hx;subst hy;exact w
 | 2 => simp at hx hy;subst hx;subst hy;exact .refl _
 | 3 => simp at hx hy;subst hx;subst hy;exact w
 | i + 4 => simp at hx
theorem okR_S {r:Rat} (h:Sp.okR r):Sp.okS r.num /\ Sp.okS (r.den:Int):=by
 unfold Sp.okR at h
 unfold Sp.okS
 rw [Int.natAbs_natCast];omega
theorem ev74_y (fa ga:Bool) (r:Rat) (h:Sp.okR r) (k:Sp.rsq r):Ev M1 (.pure 74 [ratA fa ga r]) (.tup [ratA false false (Sp.rt r),.bool true]) []:=by
 obtain ⟨h1,h2⟩:=okR_S h
 obtain ⟨e1,e2⟩:=rt_num k
 refine call74 (vRSqrt _ _ _ _ ⟨h1,fun _ => ⟨h2,fun _ => ?_,fun x => absurd k.2 x⟩,fun x => absurd k.1 x⟩)
 show Weak _ (AV.tup [AV.agg [.bool (Sp.isNeg (Sp.rt r).num),.vec false 1 ((Sp.limI (Sp.rt r).num).map (.int .u32)),.bool (Sp.isNeg ((Sp.rt r).den:Int)),.vec false 1 ((Sp.limI ((Sp.rt r).den:Int)).map (.int .u32))],.bool true])
 rw [e1,e2];exact .refl _
theorem ev74_n (fa ga:Bool) (r:Rat) (h:Sp.okR r) (k:¬(Sp.rsq r)):Ev M1 (.pure 74 [ratA fa ga r]) (.tup [noR,.bool false]) []:=by
 obtain ⟨h1,h2⟩:=okR_S h
 exact call74 (vRSqrt _ _ _ _ ⟨h1,fun x => ⟨h2,fun y => absurd ⟨x,y⟩ k,fun _ => weak_two weak_nr (.refl _)⟩,fun _ => weak_two weak_nr (.refl _)⟩)
end Go.Av

namespace Go.Av
open Go.Proofs
theorem ev68:Ev M1 (.pure 68 []) (.agg [.bool false,.vec false 1 ((Sp.limI 1).map (.int .u32))]) []:=
 call68 (rUnit _ ⟨by unfold Sp.inI;omega,.refl _⟩)
theorem ev23 (fa ga fb gb:Bool) (r s:Rat) (h:Sp.okR r /\ Sp.okR s):Ev M1 (.pure 23 [ratA fa ga r,ratA fb gb s]) (.bool (decide (r = s))) []:=by
 obtain ⟨⟨h1,h2⟩,⟨h3,h4⟩⟩:=h
 refine call23 (rRSame _ _ _ _ _ _ _ _ _ ⟨by unfold Sp.ok;omega,fun _ => by unfold Sp.ok;rw [Int.natAbs_natCast,Int.natAbs_natCast];omega,?_⟩)
 congr 1
 by_cases e:r = s
 ·subst e;simp
 ·rw [decide_eq_false e]
  by_cases e1:r.num = s.num
  ·have:¬(r.den:Int) = (s.den:Int):=fun e2 => e (Rat.ext e1 (by omega))
   rw [decide_eq_false this];simp
  ·rw [decide_eq_false e1];rfl
end Go.Av

namespace Go.Av
open Go.Proofs
set_option maxRecDepth 100000
end Go.Av

namespace Go.Av
open Go.Proofs
set_option maxRecDepth 100000
def fi40:Fi:=⟨13,[.cell 4 54]⟩
def kp40:List (Nat × List Nat):=[(0,[0,1,4]),(1,[0,1,4,6]),(2,[4]),(3,[4])]
def vRFrac_at (n d:Int) (Q:AV -> Heap -> Prop):Prop:=Wp M1 (.run fi40 (atC (cd Try.f40) []) [(0,.int .i64 n),(1,.int .i64 d)] []) Q
theorem call40 {args:List AV} {d:AV} (h:wc M1 fi40 Try.f40 args d):Ev M1 (.pure 40 args) d []:=pcl _ _ (by kernel_rfl) h
theorem vRFrac (n d:Int)  (dq:AV) (H :
  ((d = 0) -> (Sp.inI 0) /\
   Weak (ratA false false (Sp.qi 0)) dq) /\
  (¬(d = 0) -> (Sp.inI n) /\
   (Sp.inI d) /\
   (Sp.okB n /\ Sp.okB d /\ d ≠ 0) /\
   Weak (ratA false false (Rat.divInt n d)) dq)) :
 vRFrac_at n d (PureQ dq):=by
 unfold vRFrac_at
 rcases xm (d = 0) with d2 | d2
 ·have H:=H.1 d2
  obtain ⟨k3,H⟩:=H
  exact path_rq (G:=given kp40 [(2,0,.call (ratA false false (Sp.qi 0)) none)] []) 1000 [true] (ratA false false (Sp.qi 0)) (by kernel_rfl) (bc (beq_t (i_eq.2 d2)) (bc rfl b0)) q0 (ce (@ev41 (0) k3) c0) H
 ·have H:=H.2 d2
  obtain ⟨k4,H⟩:=H
  obtain ⟨k5,H⟩:=H
  obtain ⟨k6,H⟩:=H
  exact path_rq (G:=given kp40 [(3,1,.call (bigA false n) none),(3,3,.call (bigA false d) none),(3,4,.call (ratA false false (Rat.divInt n d)) none)] []) 1000 [false] (ratA false false (Rat.divInt n d)) (by kernel_rfl) (bc (beq_f (fun h => d2 (i_eq.1 h))) (bc rfl b0)) q0 (ce (@ev51 (n) k4) (ce (@ev51 (d) k5) (ce (@ev60 (false) (false) (n) (d) k6) c0))) H
end Go.Av

namespace Go.Av
open Go.Proofs
end Go.Av

namespace Go.Av
open Go.Proofs
def Sp.okF (n d:Int):Prop:=Sp.inI n /\ Sp.inI d /\ d ≠ 0
noncomputable def Sp.qf (n d:Int):Rat:=Sp.hid (Rat.divInt n d)
theorem qf_eq (n d:Int):Sp.qf n d = Rat.divInt n d:=hid_eq _
theorem inI_cnt {n:Int} (h:Sp.inI n):Sp.cnt n.natAbs <= 3:=by
 unfold Sp.inI at h
 exact cnt_u64 (by omega)
end Go.Av

namespace Go.Av
open Go.Proofs
set_option maxRecDepth 100000
end Go.Av

namespace Go.Av
open Go.Proofs
end Go.Av

namespace Go.Av
open Go.Proofs
set_option maxRecDepth 100000
def fi76:Fi:=⟨26,[.cell 4 54,.tmp 5]⟩
def kp76:List (Nat × List Nat):=[(0,[2,3,4]),(1,[2,3,4,9]),(2,[4,5]),(3,[4,5])]
def fi77:Fi:=⟨2,[.cell 0 54]⟩
def kp77:List (Nat × List Nat):=[(0,[0]),(1,[0])]
def fi79:Fi:=⟨17,[.cell 2 54]⟩
def kp79:List (Nat × List Nat):=[(0,[1,2]),(1,[2])]
def oZero_at  (Q:AV -> Heap -> Prop):Prop:=Wp M1 (.run fi77 (atC (cd Try.f77) []) [] []) Q
def oNorm_at (f1 f2 f3 f4 f5 f6:Bool) (a b c:Rat) (Q:AV -> Heap -> Prop):Prop:=Wp M1 (.run fi79 (atC (cd Try.f79) []) [(0,.agg [.bool (Sp.isNeg a.num),.vec f1 1 ((Sp.limI a.num).map (.int .u32)),.bool (Sp.isNeg (a.den:Int)),.vec f2 1 ((Sp.limI (a.den:Int)).map (.int .u32)),.bool (Sp.isNeg b.num),.vec f3 1 ((Sp.limI b.num).map (.int .u32)),.bool (Sp.isNeg (b.den:Int)),.vec f4 1 ((Sp.limI (b.den:Int)).map (.int .u32)),.bool (Sp.isNeg c.num),.vec f5 1 ((Sp.limI c.num).map (.int .u32)),.bool (Sp.isNeg (c.den:Int)),.vec f6 1 ((Sp.limI (c.den:Int)).map (.int .u32))])] []) Q
def oCommon_at (f1 f2 f3 f4 f5 f6 g1 g2 g3 g4 g5 g6:Bool) (a b c x y z:Rat) (Q:AV -> Heap -> Prop):Prop:=Wp M1 (.run fi76 (atC (cd Try.f76) []) [(0,.agg [.bool (Sp.isNeg a.num),.vec f1 1 ((Sp.limI a.num).map (.int .u32)),.bool (Sp.isNeg (a.den:Int)),.vec f2 1 ((Sp.limI (a.den:Int)).map (.int .u32)),.bool (Sp.isNeg b.num),.vec f3 1 ((Sp.limI b.num).map (.int .u32)),.bool (Sp.isNeg (b.den:Int)),.vec f4 1 ((Sp.limI (b.den:Int)).map (.int .u32)),.bool (Sp.isNeg c.num),.vec f5 1 ((Sp.limI c.num).map (.int .u32)),.bool (Sp.isNeg (c.den:Int)),.vec f6 1 ((Sp.limI (c.den:Int)).map (.int .u32))]),(1,.agg [.bool (Sp.isNeg x.num),.vec g1 1 ((Sp.limI x.num).map (.int .u32)),.bool (Sp.isNeg (x.den:Int)),.vec g2 1 ((Sp.limI (x.den:Int)).map (.int .u32)),.bool (Sp.isNeg y.num),.vec g3 1 ((Sp.limI y.num).map (.int .u32)),.bool (Sp.isNeg (y.den:Int)),.vec g4 1 ((Sp.limI (y.den:Int)).map (.int .u32)),.bool (Sp.isNeg z.num),.vec g5 1 ((Sp.limI z.num).map (.int .u32)),.bool (Sp.isNeg (z.den:Int)),.vec g6 1 ((Sp.limI (z.den:Int)).map (.int .u32))])] []) Q
theorem call76 {args:List AV} {d:AV} (h:wc M1 fi76 Try.f76 args d):Ev M1 (.pure 76 args) d []:=pcl _ _ (by kernel_rfl) h
theorem call77 {args:List AV} {d:AV} (h:wc M1 fi77 Try.f77 args d):Ev M1 (.pure 77 args) d []:=pcl _ _ (by kernel_rfl) h
theorem call79 {args:List AV} {d:AV} (h:wc M1 fi79 Try.f79 args d):Ev M1 (.pure 79 args) d []:=pcl _ _ (by kernel_rfl) h
theorem oZero   (dq:AV) (H :
  (Sp.inI 0) /\
  Weak (ratA false false (Sp.qi 0)) dq) :
 oZero_at  (PureQ dq):=by
 unfold oZero_at
 obtain ⟨k1,H⟩:=H
 exact path_rq (G:=given kp77 [(1,0,.call (ratA false false (Sp.qi 0)) none)] []) 1000 [] (ratA false false (Sp.qi 0)) (by kernel_rfl) (bc rfl b0) q0 (ce (@ev41 (0) k1) c0) H
theorem oNorm (f1 f2 f3 f4 f5 f6:Bool) (a b c:Rat)  (dq:AV) (H :
  (Sp.okR a /\ Sp.okR a) /\
  (Sp.okR b /\ Sp.okR b) /\
  (Sp.okR (b * b) /\ Sp.okR c) /\
  (Sp.okR (a * a) /\ Sp.okR (b * b * c)) /\
  Weak (ratA false false (a * a - b * b * c)) dq) :
 oNorm_at f1 f2 f3 f4 f5 f6 a b c (PureQ dq):=by
 unfold oNorm_at
 obtain ⟨k1,H⟩:=H
 obtain ⟨k2,H⟩:=H
 obtain ⟨k3,H⟩:=H
 obtain ⟨k4,H⟩:=H
 exact path_rq (G:=given kp79 [(1,4,.call (ratA false false (a * a)) none),(1,9,.call (ratA false false (b * b)) none),(1,12,.call (ratA false false (b * b * c)) none),(1,13,.call (ratA false false (a * a - b * b * c)) none)] []) 1000 [] (ratA false false (a * a - b * b * c)) (by kernel_rfl) (bc rfl (bc rfl (bc rfl (bc rfl (bc rfl (bc rfl b0)))))) q0 (ce (@ev43 (f1) (f2) (f1) (f2) (a) (a) k1) (ce (@ev43 (f3) (f4) (f3) (f4) (b) (b) k2) (ce (@ev43 (false) (false) (f5) (f6) (b * b) (c) k3) (ce (@ev45 (false) (false) (false) (false) (a * a) (b * b * c) k4) c0)))) H
theorem oCommon (f1 f2 f3 f4 f5 f6 g1 g2 g3 g4 g5 g6:Bool) (a b c x y z:Rat)  (dq:AV) (H :
  ((Sp.sgnI b.num = 0) -> Weak (tu [ratA g5 g6 z,vb true]) dq) /\
  (¬(Sp.sgnI b.num = 0) -> ((¬(Sp.sgnI y.num = 0)) -> (Sp.okR c /\ Sp.okR z)) /\
   Weak (tu [ratA f5 f6 c,vb (bif Sp.sgnI y.num == 0 then true else Sp.sgnI (c.num * (↑z.den:Int) - z.num * (↑c.den:Int)) == 0)]) dq)) :
 oCommon_at f1 f2 f3 f4 f5 f6 g1 g2 g3 g4 g5 g6 a b c x y z (PureQ dq):=by
 unfold oCommon_at
 refine path_wp (G:=given kp76 [(1,2,.call (vi (Sp.sgnI b.num)) none)] []) 5 [] ⟨(atC (cd Try.f76) [1,0,1]),[(2,AV.ptr 0 0 0 0),(3,AV.ptr 1 0 0 0),(4,AV.ptr 2 0 0 0),(9,vb (Sp.sgnI b.num == 0))],[⟨[ag [vb (Sp.isNeg a.num),AV.vec f1 1 (us (Sp.limI a.num)),vb (Sp.isNeg (↑a.den:Int)),AV.vec f2 1 (us (Sp.limI (↑a.den:Int))),vb (Sp.isNeg b.num),AV.vec f3 1 (us (Sp.limI b.num)),vb (Sp.isNeg (↑b.den:Int)),AV.vec f4 1 (us (Sp.limI (↑b.den:Int))),vb (Sp.isNeg c.num),AV.vec f5 1 (us (Sp.limI c.num)),vb (Sp.isNeg (↑c.den:Int)),AV.vec f6 1 (us (Sp.limI (↑c.den:Int)))]],12,0,false,false⟩,⟨[ag [vb (Sp.isNeg x.num),AV.vec g1 1 (us (Sp.limI x.num)),vb (Sp.isNeg (↑x.den:Int)),AV.vec g2 1 (us (Sp.limI (↑x.den:Int))),vb (Sp.isNeg y.num),AV.vec g3 1 (us (Sp.limI y.num)),vb (Sp.isNeg (↑y.den:Int)),AV.vec g4 1 (us (Sp.limI (↑y.den:Int))),vb (Sp.isNeg z.num),AV.vec g5 1 (us (Sp.limI z.num)),vb (Sp.isNeg (↑z.den:Int)),AV.vec g6 1 (us (Sp.limI (↑z.den:Int)))]],12,0,false,false⟩,⟨[ag [vb false,AV.vnil,vb false,AV.vnil]],4,0,false,false⟩],_,[],_⟩ (by kernel_rfl) (bc rfl b0) q0 (ce (@ev63 (f3) (f4) (b.num) ((↑b.den:Int))) c0) ?_
 rcases xm (Sp.sgnI b.num = 0) with d2 | d2
 ·have H:=H.1 d2
  exact path_rq (G:=given kp76 [] []) 1000 [true] (tu [ratA g5 g6 z,vb true]) (by kernel_rfl) (bc (beq_t (i_eq.2 d2)) (bc rfl (bc rfl b0))) q0 c0 H
 ·have H:=H.2 d2
  obtain ⟨k4,H⟩:=H
  exact path_rq (G:=given kp76 [(3,4,.call (vi (Sp.sgnI y.num)) none),(3,11,.call (vi (Sp.sgnI (c.num * (↑z.den:Int) - z.num * (↑c.den:Int)))) none)] []) 1000 [false] (asm:=[(Sp.sgnI b.num == 0) == false,true,true,!((Sp.sgnI y.num == 0) == false && true) || true,!((Sp.sgnI y.num == 0) == false && true) || true,true]) (calls:=[⟨true,false,63,[ratA g3 g4 y],[],vi (Sp.sgnI y.num),[]⟩,⟨(Sp.sgnI y.num == 0) == false && true && true,false,42,[ratA f5 f6 c,ratA g5 g6 z],[],vi (Sp.sgnI (c.num * (↑z.den:Int) - z.num * (↑c.den:Int))),[]⟩]) (tu [ratA f5 f6 c,vb (bif Sp.sgnI y.num == 0 then true else Sp.sgnI (c.num * (↑z.den:Int) - z.num * (↑c.den:Int)) == 0)]) (by kernel_rfl) (bc (beq_f (fun h => d2 (i_eq.1 h))) (bc rfl (bc rfl (bc (Bool.or_true _) (bc (Bool.or_true _) (bc rfl b0)))))) q0 (cc (fun _ => (@ev63 (g3) (g4) (y.num) ((↑y.den:Int)))) (cc (fun hc => ((@ev42 (f5) (f6) (g5) (g6) (c) (z) (k4 ((i_at (i_at (i_bf i_eq))).1 hc))):Ev M1 (Conf.pure 42 [ratA f5 f6 c,ratA g5 g6 z]) (vi (Sp.sgnI (c.num * (↑z.den:Int) - z.num * (↑c.den:Int)))) [])) c0)) H
end Go.Av

namespace Go.Av
open Go.Proofs
abbrev rootA (f1 f2 f3 f4 f5 f6:Bool) (a b c:Rat):AV:=.agg [.bool (Sp.isNeg a.num),.vec f1 1 ((Sp.limI a.num).map (.int .u32)),.bool (Sp.isNeg (a.den:Int)),.vec f2 1 ((Sp.limI (a.den:Int)).map (.int .u32)),.bool (Sp.isNeg b.num),.vec f3 1 ((Sp.limI b.num).map (.int .u32)),.bool (Sp.isNeg (b.den:Int)),.vec f4 1 ((Sp.limI (b.den:Int)).map (.int .u32)),.bool (Sp.isNeg c.num),.vec f5 1 ((Sp.limI c.num).map (.int .u32)),.bool (Sp.isNeg (c.den:Int)),.vec f6 1 ((Sp.limI (c.den:Int)).map (.int .u32))]
abbrev rootF (a b c:Rat):AV:=rootA false false false false false false a b c
theorem weak_rf {f1 f2:Bool} (a:Rat):Weak (ratA f1 f2 a) (ratA false false a):=weak_rat _ _ _ _ _ _
theorem weak_root {f1 f2 f3 f4 f5 f6:Bool} (a b c:Rat):Weak (rootA f1 f2 f3 f4 f5 f6 a b c) (rootF a b c):=by
 refine .agg _ _ rfl fun i x y hx hy => ?_
 match i with
 | 0 => simp at hx hy;subst hx;subst hy;exact .refl _
 | 1 => simp at hx hy;subst hx;subst hy;exact weak_vec _ _ _
 | 2 => simp at hx hy;subst hx;subst hy;exact .refl _
 | 3 => simp at hx hy;subst hx;subst hy;exact weak_vec _ _ _
 | 4 => simp at hx hy;subst hx;subst hy;exact .refl _
 | 5 => simp at hx hy;subst hx;subst hy;exact weak_vec _ _ _
 | 6 => simp at hx hy;subst hx;subst hy;exact .refl _
 | 7 => simp at hx hy;subst hx;subst hy;exact weak_vec _ _ _
 | 8 => simp at hx hy;subst hx;subst hy;exact .refl _
 | 9 => simp at hx hy;subst hx;subst hy;exact weak_vec _ _ _
 | 10 => simp at hx hy;subst hx;subst hy;exact .refl _
 | 11 => simp at hx hy;subst hx;subst hy;exact weak_vec _ _ _
 | i + 12 => simp at hx
theorem sgn_num {r:Rat}:Sp.sgnI r.num = 0 ↔ r = 0:=by rw [sgnI_zero,Rat.num_eq_zero]
def Sp.okT (k:Nat) (r:Rat):Prop:=Sp.cnt r.num.natAbs <= k /\ Sp.cnt r.den <= k
theorem okT_R {k:Nat} {r:Rat} (h:Sp.okT k r) (hk:k <= 90000):Sp.okR r:=⟨Nat.le_trans h.1 hk,Nat.le_trans h.2 hk⟩
theorem okT_le {k m:Nat} {r:Rat} (h:Sp.okT k r) (hk:k <= m):Sp.okT m r:=⟨Nat.le_trans h.1 hk,Nat.le_trans h.2 hk⟩
theorem divInt_le {p q:Int} (hq:q ≠ 0):(Rat.divInt p q).num.natAbs <= p.natAbs /\ (Rat.divInt p q).den <= q.natAbs:=by
 by_cases h:0 < q
 ·obtain ⟨e1,e2⟩:=rat_pos (a:=p) h
  have e3:(Rat.divInt p q).den = ((q / ((p.gcd q:Nat):Int))).natAbs:=by omega
  rw [e1,e3]
  refine ⟨?_,?_⟩
  ·rw [Int.natAbs_ediv_of_dvd (Int.gcd_dvd_left ..)];exact Nat.div_le_self _ _
  ·rw [Int.natAbs_ediv_of_dvd (Int.gcd_dvd_right ..)];exact Nat.div_le_self _ _
 ·obtain ⟨e1,e2⟩:=rat_neg (a:=p) (b:=q) (by omega)
  have e3:(Rat.divInt p q).den = ((-q / (((-p).gcd (-q):Nat):Int))).natAbs:=by omega
  rw [e1,e3]
  refine ⟨?_,?_⟩
  ·rw [Int.natAbs_ediv_of_dvd (Int.gcd_dvd_left ..),Int.natAbs_neg];exact Nat.div_le_self _ _
  ·rw [Int.natAbs_ediv_of_dvd (Int.gcd_dvd_right ..),Int.natAbs_neg];exact Nat.div_le_self _ _
theorem okT_mul {k m:Nat} {r s:Rat} (h:Sp.okT k r) (h2:Sp.okT m s):Sp.okT (k + m) (r * s):=by
 have e:=divInt_le (p:=r.num * s.num) (q:=(r.den:Int) * (s.den:Int)) (Int.mul_ne_zero (den_ne r) (den_ne s))
 rw [rat_mul] at e
 refine ⟨Nat.le_trans (cnt_mono e.1) (cnt_mulI h.1 h2.1),Nat.le_trans (cnt_mono e.2) (cnt_mulI (cnt_den h.2) (cnt_den h2.2))⟩
theorem okT_add {k m:Nat} {r s:Rat} (h:Sp.okT k r) (h2:Sp.okT m s):Sp.okT (k + m + 1) (r + s):=by
 have e:=divInt_le (p:=r.num * (s.den:Int) + s.num * (r.den:Int)) (q:=(r.den:Int) * (s.den:Int)) (Int.mul_ne_zero (den_ne r) (den_ne s))
 rw [rat_add] at e
 have m1:=cnt_mulI h.1 (cnt_den h2.2)
 have m2:=cnt_mulI h2.1 (cnt_den h.2)
 have m3:=cnt_mulI (cnt_den h.2) (cnt_den h2.2)
 have:=cnt_addI m1 (Nat.le_trans m2 (by omega))
 exact ⟨Nat.le_trans (cnt_mono e.1) this,Nat.le_trans (cnt_mono e.2) (Nat.le_trans m3 (by omega))⟩
theorem okT_neg {k:Nat} {r:Rat} (h:Sp.okT k r):Sp.okT k (-r):=by
 unfold Sp.okT
 rw [Rat.neg_num,Rat.neg_den,Int.natAbs_neg];exact h
theorem okT_sub {k m:Nat} {r s:Rat} (h:Sp.okT k r) (h2:Sp.okT m s):Sp.okT (k + m + 1) (r - s):=by
 rw [Rat.sub_eq_add_neg];exact okT_add h (okT_neg h2)
theorem okT_rt {k:Nat} {r:Rat} (h:Sp.rsq r) (hr:Sp.okT k r):Sp.okT k (Sp.rt r):=by
 obtain ⟨e1,e2⟩:=rt_num h
 obtain ⟨a1,a2⟩:=hr
 have h1:=(sq_le ((isSq_iff _).1 h.1).1).2
 have h2:=(sq_le ((isSq_iff _).1 h.2).1).2
 unfold Sp.okT
 rw [e1]
 have:(Sp.rt r).den = (Sp.sq (r.den:Int)).natAbs:=by omega
 rw [this]
 exact ⟨Nat.le_trans (cnt_mono h1) a1,Nat.le_trans (cnt_mono h2) a2⟩
theorem okT_int {n:Int} (h:Sp.inI n):Sp.okT 3 (Sp.qi n):=by
 rw [qi_eq]
 unfold Sp.okT
 rw [Rat.num_intCast,Rat.den_intCast]
 exact ⟨inI_cnt h,by have:=cnt_small (n:=1) (by decide);omega⟩
theorem okT_zero:Sp.okT 1 (0:Rat):=by
 have h0:Sp.cnt ((0:Rat).num.natAbs) = 0:=cnt_zero
 have h1:=cnt_small (n:=1) (by decide)
 have h2:(0:Rat).den = 1:=rfl
 unfold Sp.okT
 rw [h0,h2]
 omega
theorem ev77:Ev M1 (.pure 77 []) (ratA false false (Sp.qi 0)) []:=
 call77 (oZero _ ⟨by unfold Sp.inI;omega,.refl _⟩)
def Sp.okO (a b c:Rat):Prop:=Sp.okT 9000 a /\ Sp.okT 9000 b /\ Sp.okT 9000 c
def Sp.okP (a b:Rat):Prop:=Sp.okT 9000 a /\ Sp.okT 9000 b
theorem ev79 (f1 f2 f3 f4 f5 f6:Bool) (a b c:Rat) (h:Sp.okO a b c):Ev M1 (.pure 79 [rootA f1 f2 f3 f4 f5 f6 a b c]) (ratA false false (a * a - b * b * c)) []:=by
 obtain ⟨ha,hb,hc⟩:=h
 have aa:=okT_mul ha ha
 have bb:=okT_mul hb hb
 have bbc:=okT_mul bb hc
 exact call79 (oNorm _ _ _ _ _ _ _ _ _ _ ⟨⟨okT_R ha (by omega),okT_R ha (by omega)⟩,⟨okT_R hb (by omega),okT_R hb (by omega)⟩,⟨okT_R bb (by omega),okT_R hc (by omega)⟩,⟨okT_R aa (by omega),okT_R bbc (by omega)⟩,.refl _⟩)
def Sp.com (b c z:Rat):Rat:=if b = 0 then z else c
def Sp.isCom (b c y z:Rat):Prop:=b = 0 \/ y = 0 \/ c = z
instance (b c y z:Rat):Decidable (Sp.isCom b c y z):=inferInstanceAs (Decidable (_ \/ _))
theorem cross {c z:Rat}:Sp.sgnI (c.num * (z.den:Int) - z.num * (c.den:Int)) = 0 ↔ c = z:=by
 rw [sgnI_zero]
 constructor
 ·intro h
  have h1:c.num * (z.den:Int) = z.num * (c.den:Int):=by omega
  have e:=(Rat.divInt_eq_divInt_iff (den_ne c) (den_ne z)).2 h1
  rwa [Rat.num_divInt_den,Rat.num_divInt_den] at e
 ·intro h;subst h;omega
theorem com_bool (c y z:Rat):(bif Sp.sgnI y.num == 0 then true else Sp.sgnI (c.num * (z.den:Int) - z.num * (c.den:Int)) == 0) = decide (y = 0 \/ c = z):=by
 by_cases h:y = 0
 ·rw [show (Sp.sgnI y.num == 0) = true from beq_iff_eq.2 (sgn_num.2 h),cond_true,decide_eq_true (.inl h)]
 ·rw [show (Sp.sgnI y.num == 0) = false from beq_eq_false_iff_ne.2 fun k => h (sgn_num.1 k),cond_false]
  by_cases k:c = z
  ·rw [decide_eq_true (.inr k)];exact beq_iff_eq.2 (cross.2 k)
  ·rw [decide_eq_false (fun x => x.elim h k)];exact beq_eq_false_iff_ne.2 fun x => k (cross.1 x)
theorem ev76 (f1 f2 f3 f4 f5 f6 g1 g2 g3 g4 g5 g6:Bool) (a b c x y z:Rat) (h:Sp.okP c z):Ev M1 (.pure 76 [rootA f1 f2 f3 f4 f5 f6 a b c,rootA g1 g2 g3 g4 g5 g6 x y z]) (.tup [ratA false false (Sp.com b c z),.bool (decide (Sp.isCom b c y z))]) []:=by
 refine call76 (oCommon _ _ _ _ _ _ _ _ _ _ _ _ _ _ _ _ _ _ _ ⟨fun k => ?_,fun k => ⟨fun _ => ⟨okT_R h.1 (by omega),okT_R h.2 (by omega)⟩,?_⟩⟩)
 ·have k:=sgn_num.1 k
  rw [show Sp.com b c z = z from if_pos k,decide_eq_true (show Sp.isCom b c y z from .inl k)]
  exact weak_two (weak_rf z) (.refl _)
 ·have k:¬b = 0:=fun e => k (sgn_num.2 e)
  rw [show Sp.com b c z = c from if_neg k,com_bool]
  have:decide (Sp.isCom b c y z) = decide (y = 0 \/ c = z):=by
   unfold Sp.isCom
   congr 1
   exact propext ⟨fun x => x.resolve_left k,.inr⟩
  rw [this]
  exact weak_two (weak_rf c) (.refl _)
end Go.Av

namespace Go.Av
open Go.Proofs
set_option maxRecDepth 100000
def fi57:Fi:=⟨7,[.cell 2 82]⟩
def kp57:List (Nat × List Nat):=[(0,[1,2]),(1,[2])]
def fi59:Fi:=⟨29,[.tmp 2]⟩
def kp59:List (Nat × List Nat):=[(0,[1]),(1,[1,3,4]),(2,[1,3,4,11]),(3,[2]),(4,[1,3,4,20]),(5,[2]),(6,[2])]
def fi75:Fi:=⟨15,[.cell 6 82]⟩
def kp75:List (Nat × List Nat):=[(0,[3,4,5,6]),(1,[3,4,5,6,9]),(2,[3,4,5,6]),(3,[6])]
def oFrom_at (f1 f2:Bool) (a:Rat) (Q:AV -> Heap -> Prop):Prop:=Wp M1 (.run fi57 (atC (cd Try.f57) []) [(0,ratA f1 f2 a)] []) Q
def oRed_at (f1 f2 f3 f4 f5 f6:Bool) (a b c:Rat) (Q:AV -> Heap -> Prop):Prop:=Wp M1 (.run fi75 (atC (cd Try.f75) []) [(0,ratA f1 f2 a),(1,ratA f3 f4 b),(2,ratA f5 f6 c)] []) Q
def oSign_at (f1 f2 f3 f4 f5 f6:Bool) (a b c:Rat) (Q:AV -> Heap -> Prop):Prop:=Wp M1 (.run fi59 (atC (cd Try.f59) []) [(0,rootA f1 f2 f3 f4 f5 f6 a b c)] []) Q
theorem call57 {args:List AV} {d:AV} (h:wc M1 fi57 Try.f57 args d):Ev M1 (.pure 57 args) d []:=pcl _ _ (by kernel_rfl) h
theorem call59 {args:List AV} {d:AV} (h:wc M1 fi59 Try.f59 args d):Ev M1 (.pure 59 args) d []:=pcl _ _ (by kernel_rfl) h
theorem call75 {args:List AV} {d:AV} (h:wc M1 fi75 Try.f75 args d):Ev M1 (.pure 75 args) d []:=pcl _ _ (by kernel_rfl) h
theorem oFrom (f1 f2:Bool) (a:Rat)  (dq:AV) (H :
  Weak (rootA f1 f2 false false false false a (Sp.qi 0) (Sp.qi 0)) dq) :
 oFrom_at f1 f2 a (PureQ dq):=by
 unfold oFrom_at
 exact path_rq (G:=given kp57 [(1,1,.call (ratA false false (Sp.qi 0)) none),(1,2,.call (ratA false false (Sp.qi 0)) none)] []) 1000 [] (rootA f1 f2 false false false false a (Sp.qi 0) (Sp.qi 0)) (by kernel_rfl) (bc rfl (bc rfl b0)) q0 (ce (@ev77 ) (ce (@ev77 ) c0)) H
theorem oRed (f1 f2 f3 f4 f5 f6:Bool) (a b c:Rat)  (dq:AV) (H :
  ((Sp.sgnI b.num = 0) -> Weak (rootA f1 f2 f3 f4 false false a b (Sp.qi 0)) dq) /\
  (¬(Sp.sgnI b.num = 0) -> Weak (rootA f1 f2 f3 f4 f5 f6 a b c) dq)) :
 oRed_at f1 f2 f3 f4 f5 f6 a b c (PureQ dq):=by
 unfold oRed_at
 refine path_wp (G:=given kp75 [(1,1,.call (vi (Sp.sgnI b.num)) none)] []) 5 [] ⟨(atC (cd Try.f75) [1,0,1]),[(3,AV.ptr 0 0 0 0),(4,AV.ptr 1 0 0 0),(5,AV.ptr 2 0 0 0),(6,AV.ptr 3 0 0 0),(9,vb (Sp.sgnI b.num == 0))],[⟨[ratA f1 f2 a],4,0,false,false⟩,⟨[ratA f3 f4 b],4,0,false,false⟩,⟨[ratA f5 f6 c],4,0,false,false⟩,⟨[ag [vb false,AV.vnil,vb false,AV.vnil,vb false,AV.vnil,vb false,AV.vnil,vb false,AV.vnil,vb false,AV.vnil]],12,0,false,false⟩],_,[],_⟩ (by kernel_rfl) (bc rfl b0) q0 (ce (@ev63 (f3) (f4) (b.num) ((↑b.den:Int))) c0) ?_
 rcases xm (Sp.sgnI b.num = 0) with d2 | d2
 ·have H:=H.1 d2
  exact path_rq (G:=given kp75 [(2,0,.call (ratA false false (Sp.qi 0)) none)] []) 1000 [true] (asm:=[(Sp.sgnI b.num == 0) == true,0 == 0,true,true,true,true]) (rootA f1 f2 f3 f4 false false a b (Sp.qi 0)) (by kernel_rfl) (bc (beq_t (i_eq.2 d2)) (bc (beq_self_eq_true _) (bc rfl (bc rfl (bc rfl (bc rfl b0)))))) q0 (ce (@ev77 ) c0) H
 ·have H:=H.2 d2
  exact path_rq (G:=given kp75 [] []) 1000 [false] (rootA f1 f2 f3 f4 f5 f6 a b c) (by kernel_rfl) (bc (beq_f (fun h => d2 (i_eq.1 h))) (bc rfl (bc rfl (bc rfl (bc rfl b0))))) q0 c0 H
theorem oSign (f1 f2 f3 f4 f5 f6:Bool) (a b c:Rat)  (dq:AV) (H :
  (((Sp.sgnI b.num = 0) \/ (Sp.sgnI a.num = Sp.sgnI b.num)) -> vi (Sp.sgnI a.num) = dq) /\
  (¬((Sp.sgnI b.num = 0) \/ (Sp.sgnI a.num = Sp.sgnI b.num)) -> ((Sp.sgnI a.num = 0) -> vi (Sp.sgnI b.num) = dq) /\
   (¬(Sp.sgnI a.num = 0) -> (Sp.okO a b c) /\
    (-9223372036854775808 <= Sp.sgnI a.num * Sp.sgnI (a * a - b * b * c).num /\ Sp.sgnI a.num * Sp.sgnI (a * a - b * b * c).num <= 9223372036854775807) /\
    vi (Sp.sgnI a.num * Sp.sgnI (a * a - b * b * c).num) = dq))) :
 oSign_at f1 f2 f3 f4 f5 f6 a b c (PureQ dq):=by
 unfold oSign_at
 refine path_wp (G:=given kp59 [(1,2,.call (vi (Sp.sgnI a.num)) none),(1,5,.call (vi (Sp.sgnI b.num)) none)] []) 8 [] ⟨(atC (cd Try.f59) [1,1,0,0,1]),[(1,AV.ptr 0 0 0 0),(3,vi (Sp.sgnI a.num)),(4,vi (Sp.sgnI b.num)),(11,vb (bif Sp.sgnI b.num == 0 then true else Sp.sgnI a.num == Sp.sgnI b.num))],[⟨[rootA f1 f2 f3 f4 f5 f6 a b c],12,0,false,false⟩],_,[],_⟩ (by kernel_rfl) (bc rfl (bc rfl b0)) q0 (ce (@ev63 (f1) (f2) (a.num) ((↑a.den:Int))) (ce (@ev63 (f3) (f4) (b.num) ((↑b.den:Int))) c0)) ?_
 rcases xm ((Sp.sgnI b.num = 0) \/ (Sp.sgnI a.num = Sp.sgnI b.num)) with d2 | d2
 ·have H:=H.1 d2
  exact path_re (G:=given kp59 [] []) 1000 [true] (vi (Sp.sgnI a.num)) (by kernel_rfl) (bc (beq_t ((i_bor i_eq i_eq).2 d2)) b0) q0 c0 H
 ·have H:=H.2 d2
  rcases xm (Sp.sgnI a.num = 0) with d4 | d4
  ·have H:=H.1 d4
   exact path_re (G:=given kp59 [] []) 1000 [false,true] (vi (Sp.sgnI b.num)) (by kernel_rfl) (bc (beq_f (fun h => d2 ((i_bor i_eq i_eq).1 h))) (bc (beq_t (i_eq.2 d4)) b0)) q0 c0 H
  ·have H:=H.2 d4
   obtain ⟨k5,H⟩:=H
   obtain ⟨k6,H⟩:=H
   have w7:wi (Sp.sgnI a.num * Sp.sgnI (a * a - b * b * c).num) = Sp.sgnI a.num * Sp.sgnI (a * a - b * b * c).num:=wI64 k6
   exact path_re (G:=given kp59 [(6,2,.call (ratA false false (a * a - b * b * c)) none),(6,3,.call (vi (Sp.sgnI (a * a - b * b * c).num)) none)] []) 1000 [false,false] (vi (wi (Sp.sgnI a.num * Sp.sgnI (a * a - b * b * c).num))) (by kernel_rfl) (bc (beq_f (fun h => d2 ((i_bor i_eq i_eq).1 h))) (bc (beq_f (fun h => d4 (i_eq.1 h))) (bc rfl b0))) q0 (ce (@ev79 (f1) (f2) (f3) (f4) (f5) (f6) (a) (b) (c) k5) (ce (@ev63 (false) (false) ((a * a - b * b * c).num) ((↑(a * a - b * b * c).den:Int))) c0)) (by (try rw [w7]);all_goals exact H)
end Go.Av

namespace Go.Av
open Go.Proofs
theorem ev57 (f1 f2:Bool) (a:Rat):Ev M1 (.pure 57 [ratA f1 f2 a]) (rootF a (Sp.qi 0) (Sp.qi 0)) []:=
 call57 (oFrom _ _ _ _ (weak_root a (Sp.qi 0) (Sp.qi 0)))
noncomputable def Sp.rad (b c:Rat):Rat:=if b = 0 then Sp.qi 0 else c
theorem ev75 (f1 f2 f3 f4 f5 f6:Bool) (a b c:Rat):Ev M1 (.pure 75 [ratA f1 f2 a,ratA f3 f4 b,ratA f5 f6 c]) (rootF a b (Sp.rad b c)) []:=by
 refine call75 (oRed _ _ _ _ _ _ _ _ _ _ ⟨fun k => ?_,fun k => ?_⟩)
 ·rw [show Sp.rad b c = Sp.qi 0 from if_pos (sgn_num.1 k)];exact weak_root a b (Sp.qi 0)
 ·rw [show Sp.rad b c = c from if_neg fun e => k (sgn_num.2 e)];exact weak_root a b c
def Sp.sgR (r:Rat):Int:=Sp.sgnI r.num
noncomputable def Sp.sgO (a b c:Rat):Int:=if Sp.sgR b = 0 \/ Sp.sgR a = Sp.sgR b then Sp.sgR a else if Sp.sgR a = 0 then Sp.sgR b else Sp.sgR a * Sp.sgR (a * a - b * b * c)
theorem sgnI_le (n:Int):-1 <= Sp.sgnI n /\ Sp.sgnI n <= 1:=by
 unfold Sp.sgnI
 (repeat' split) <;> omega
theorem sgn_bound {x y:Int} (hx:-1 <= x /\ x <= 1) (hy:-1 <= y /\ y <= 1):-1 <= x * y /\ x * y <= 1:=by
 obtain ⟨x1,x2⟩:=hx
 rcases (by omega:x = -1 \/ x = 0 \/ x = 1) with e | e | e <;> subst e <;> omega
theorem ev59 (f1 f2 f3 f4 f5 f6:Bool) (a b c:Rat) (h:Sp.okO a b c):Ev M1 (.pure 59 [rootA f1 f2 f3 f4 f5 f6 a b c]) (.int .i64 (Sp.sgO a b c)) []:=by
 refine call59 (oSign _ _ _ _ _ _ _ _ _ _ ⟨fun k => ?_,fun k => ⟨fun k2 => ?_,fun k2 => ⟨h,?_,?_⟩⟩⟩)
 ·unfold Sp.sgO Sp.sgR;rw [if_pos k]
 ·unfold Sp.sgO Sp.sgR;rw [if_neg k,if_pos k2]
 ·have:=sgn_bound (sgnI_le a.num) (sgnI_le (a * a - b * b * c).num)
  omega
 ·unfold Sp.sgO Sp.sgR;rw [if_neg k,if_neg k2]
end Go.Av

namespace Go.Av
open Go.Proofs
set_option maxRecDepth 100000
def fi54:Fi:=⟨30,[.cell 6 82,.tmp 7]⟩
def kp54:List (Nat × List Nat):=[(0,[3,4,5,6]),(1,[3,4,5,6,12]),(2,[6,7]),(3,[3,4,5,6,8,9]),(4,[3,4,5,6,8,19]),(5,[6,7]),(6,[6,7])]
def fi55:Fi:=⟨16,[.cell 4 82]⟩
def kp55:List (Nat × List Nat):=[(0,[2,3,4]),(1,[4])]
def fi56:Fi:=⟨29,[.cell 4 82,.tmp 5]⟩
def kp56:List (Nat × List Nat):=[(0,[2,3,4]),(1,[2,3,4,6,7]),(2,[2,3,4,6,15]),(3,[4,5]),(4,[4,5])]
def oMake_at (f1 f2 f3 f4 f5 f6:Bool) (a b c:Rat) (Q:AV -> Heap -> Prop):Prop:=Wp M1 (.run fi54 (atC (cd Try.f54) []) [(0,ratA f1 f2 a),(1,ratA f3 f4 b),(2,ratA f5 f6 c)] []) Q
def oAdd_at (f1 f2 f3 f4 f5 f6 g1 g2 g3 g4 g5 g6:Bool) (a b c x y z:Rat) (Q:AV -> Heap -> Prop):Prop:=Wp M1 (.run fi56 (atC (cd Try.f56) []) [(0,rootA f1 f2 f3 f4 f5 f6 a b c),(1,rootA g1 g2 g3 g4 g5 g6 x y z)] []) Q
def oScale_at (f1 f2 f3 f4 f5 f6:Bool) (k l:Bool) (a b c r:Rat) (Q:AV -> Heap -> Prop):Prop:=Wp M1 (.run fi55 (atC (cd Try.f55) []) [(0,rootA f1 f2 f3 f4 f5 f6 a b c),(1,ratA k l r)] []) Q
theorem call54 {args:List AV} {d:AV} (h:wc M1 fi54 Try.f54 args d):Ev M1 (.pure 54 args) d []:=pcl _ _ (by kernel_rfl) h
theorem call55 {args:List AV} {d:AV} (h:wc M1 fi55 Try.f55 args d):Ev M1 (.pure 55 args) d []:=pcl _ _ (by kernel_rfl) h
theorem call56 {args:List AV} {d:AV} (h:wc M1 fi56 Try.f56 args d):Ev M1 (.pure 56 args) d []:=pcl _ _ (by kernel_rfl) h
noncomputable abbrev zNxC1:=ag [vb false,AV.vnil,vb false,AV.vnil,vb false,AV.vnil,vb false,AV.vnil,vb false,AV.vnil,vb false,AV.vnil]
theorem oMake (f1 f2 f3 f4 f5 f6:Bool) (a b c:Rat)  (dq:AV) (H :
  ((Sp.sgnI c.num < 0) -> Weak (tu [ag [vb false,AV.vnil,vb false,AV.vnil,vb false,AV.vnil,vb false,AV.vnil,vb false,AV.vnil,vb false,AV.vnil],vi 7]) dq) /\
  (¬(Sp.sgnI c.num < 0) -> ((Sp.rsq c) -> (Sp.okR c) /\
    (Sp.okR b /\ Sp.okR (Sp.rt c)) /\
    (Sp.okR a /\ Sp.okR (b * Sp.rt c)) /\
    Weak (tu [rootF (a + b * Sp.rt c) (Sp.qi 0) (Sp.qi 0),vi 0]) dq) /\
   (¬(Sp.rsq c) -> (Sp.okR c) /\
    Weak (tu [rootF a b (Sp.rad b c),vi 0]) dq))) :
 oMake_at f1 f2 f3 f4 f5 f6 a b c (PureQ dq):=by
 unfold oMake_at
 refine path_wp (G:=given kp54 [(1,1,.call (vi (Sp.sgnI c.num)) none)] []) 5 [] ⟨(atC (cd Try.f54) [1,0,1]),[(3,AV.ptr 0 0 0 0),(4,AV.ptr 1 0 0 0),(5,AV.ptr 2 0 0 0),(6,AV.ptr 3 0 0 0),(12,vb (decide (Sp.sgnI c.num < 0)))],[⟨[ratA f1 f2 a],4,0,false,false⟩,⟨[ratA f3 f4 b],4,0,false,false⟩,⟨[ratA f5 f6 c],4,0,false,false⟩,⟨[zNxC1],12,0,false,false⟩],_,[],_⟩ (by kernel_rfl) (bc rfl b0) q0 (ce (@ev63 (f5) (f6) (c.num) ((↑c.den:Int))) c0) ?_
 rcases xm (Sp.sgnI c.num < 0) with d2 | d2
 ·have H:=H.1 d2
  exact path_rq (G:=given kp54 [] []) 1000 [true] (tu [zNxC1,vi 7]) (by kernel_rfl) (bc (beq_t (i_dec.2 d2)) (bc rfl b0)) q0 c0 H
 ·have H:=H.2 d2
  rcases xm (Sp.rsq c) with d3 | d3
  ·have H:=H.1 d3
   obtain ⟨k4,H⟩:=H
   obtain ⟨k5,H⟩:=H
   obtain ⟨k6,H⟩:=H
   exact path_rq (G:=given kp54 [(3,1,.call (tu [ratA false false (Sp.rt c),vb true]) none),(5,3,.call (ratA false false (b * Sp.rt c)) none),(5,4,.call (ratA false false (a + b * Sp.rt c)) none),(5,5,.call (rootF (a + b * Sp.rt c) (Sp.qi 0) (Sp.qi 0)) none)] []) 1000 [false,true] (tu [rootF (a + b * Sp.rt c) (Sp.qi 0) (Sp.qi 0),vi 0]) (by kernel_rfl) (bc (beq_f (fun h => d2 (i_dec.1 h))) (bc rfl (bc rfl (bc rfl (bc rfl (bc rfl (bc rfl (bc rfl b0)))))))) q0 (ce (@ev74_y (f5) (f6) (c) k4 d3) (ce (@ev43 (f3) (f4) (false) (false) (b) (Sp.rt c) k5) (ce (@ev44 (f1) (f2) (false) (false) (a) (b * Sp.rt c) k6) (ce (@ev57 (false) (false) (a + b * Sp.rt c)) c0)))) H
  ·have H:=H.2 d3
   obtain ⟨k7,H⟩:=H
   exact path_rq (G:=given kp54 [(3,1,.call (tu [ag [vb false,vf [],vb false,vf []],vb false]) none),(6,3,.call (rootF a b (Sp.rad b c)) none)] []) 1000 [false,false] (tu [rootF a b (Sp.rad b c),vi 0]) (by kernel_rfl) (bc (beq_f (fun h => d2 (i_dec.1 h))) (bc rfl (bc rfl (bc rfl (bc rfl (bc rfl (bc rfl (bc rfl b0)))))))) q0 (ce (@ev74_n (f5) (f6) (c) k7 d3) (ce (@ev75 (f1) (f2) (f3) (f4) (f5) (f6) (a) (b) (c)) c0)) H
noncomputable abbrev zNxC2:=ag [vb false,AV.vnil,vb false,AV.vnil,vb false,AV.vnil,vb false,AV.vnil,vb false,AV.vnil,vb false,AV.vnil]
theorem oAdd (f1 f2 f3 f4 f5 f6 g1 g2 g3 g4 g5 g6:Bool) (a b c x y z:Rat)  (dq:AV) (H :
  (Sp.okP c z) /\
  ((¬(Sp.isCom b c y z)) -> Weak (tu [ag [vb false,AV.vnil,vb false,AV.vnil,vb false,AV.vnil,vb false,AV.vnil,vb false,AV.vnil,vb false,AV.vnil],vi 1]) dq) /\
  (¬(¬(Sp.isCom b c y z)) -> (Sp.okR a /\ Sp.okR x) /\
   (Sp.okR b /\ Sp.okR y) /\
   Weak (tu [rootF (a + x) (b + y) (Sp.rad (b + y) (Sp.com b c z)),vi 0]) dq)) :
 oAdd_at f1 f2 f3 f4 f5 f6 g1 g2 g3 g4 g5 g6 a b c x y z (PureQ dq):=by
 unfold oAdd_at
 obtain ⟨k1,H⟩:=H
 refine path_wp (G:=given kp56 [(1,2,.call (tu [ratA false false (Sp.com b c z),vb (decide (Sp.isCom b c y z))]) none)] []) 7 [] ⟨(atC (cd Try.f56) [1,1,0,1]),[(2,AV.ptr 0 0 0 0),(3,AV.ptr 1 0 0 0),(4,AV.ptr 2 0 0 0),(6,AV.ptr 3 0 0 0),(15,vb !decide (Sp.isCom b c y z))],[⟨[rootA f1 f2 f3 f4 f5 f6 a b c],12,0,false,false⟩,⟨[rootA g1 g2 g3 g4 g5 g6 x y z],12,0,false,false⟩,⟨[zNxC2],12,0,false,false⟩,⟨[ratA false false (Sp.com b c z)],4,0,false,false⟩],_,[],_⟩ (by kernel_rfl) (bc rfl (bc rfl (bc rfl b0))) q0 (ce (@ev76 (f1) (f2) (f3) (f4) (f5) (f6) (g1) (g2) (g3) (g4) (g5) (g6) (a) (b) (c) (x) (y) (z) k1) c0) ?_
 rcases xm (¬(Sp.isCom b c y z)) with d3 | d3
 ·have H:=H.1 d3
  exact path_rq (G:=given kp56 [] []) 1000 [true] (tu [zNxC2,vi 1]) (by kernel_rfl) (bc (beq_t ((i_not i_dec).2 d3)) (bc rfl b0)) q0 c0 H
 ·have H:=H.2 d3
  obtain ⟨k4,H⟩:=H
  obtain ⟨k5,H⟩:=H
  exact path_rq (G:=given kp56 [(4,4,.call (ratA false false (a + x)) none),(4,9,.call (ratA false false (b + y)) none),(4,11,.call (rootF (a + x) (b + y) (Sp.rad (b + y) (Sp.com b c z))) none)] []) 1000 [false] (tu [rootF (a + x) (b + y) (Sp.rad (b + y) (Sp.com b c z)),vi 0]) (by kernel_rfl) (bc (beq_f (fun h => d3 ((i_not i_dec).1 h))) (bc rfl (bc rfl (bc rfl (bc rfl (bc rfl (bc rfl b0))))))) q0 (ce (@ev44 (f1) (f2) (g1) (g2) (a) (x) k4) (ce (@ev44 (f3) (f4) (g3) (g4) (b) (y) k5) (ce (@ev75 (false) (false) (false) (false) (false) (false) (a + x) (b + y) (Sp.com b c z)) c0))) H
theorem oScale (f1 f2 f3 f4 f5 f6:Bool) (k l:Bool) (a b c r:Rat)  (dq:AV) (H :
  (Sp.okR a /\ Sp.okR r) /\
  (Sp.okR b /\ Sp.okR r) /\
  Weak (rootF (a * r) (b * r) (Sp.rad (b * r) c)) dq) :
 oScale_at f1 f2 f3 f4 f5 f6 k l a b c r (PureQ dq):=by
 unfold oScale_at
 obtain ⟨k1,H⟩:=H
 obtain ⟨k2,H⟩:=H
 exact path_rq (G:=given kp55 [(1,3,.call (ratA false false (a * r)) none),(1,7,.call (ratA false false (b * r)) none),(1,10,.call (rootF (a * r) (b * r) (Sp.rad (b * r) c)) none)] []) 1000 [] (rootF (a * r) (b * r) (Sp.rad (b * r) c)) (by kernel_rfl) (bc rfl (bc rfl (bc rfl (bc rfl (bc rfl (bc rfl b0)))))) q0 (ce (@ev43 (f1) (f2) (k) (l) (a) (r) k1) (ce (@ev43 (f3) (f4) (k) (l) (b) (r) k2) (ce (@ev75 (false) (false) (false) (false) (f5) (f6) (a * r) (b * r) (c)) c0))) H
end Go.Av

namespace Go.Av
open Go.Proofs
abbrev noO:AV:=.agg [.bool false,.vec false 1 [],.bool false,.vec false 1 [],.bool false,.vec false 1 [],.bool false,.vec false 1 [],.bool false,.vec false 1 [],.bool false,.vec false 1 []]
theorem weak_vnil1:Weak .vnil (.vec false 1 []):=by
 have:=weak_bnil false
 cases this with
 | agg xs ys hl h => exact h 1 _ _ rfl rfl
theorem weak_no:Weak (.agg [.bool false,.vnil,.bool false,.vnil,.bool false,.vnil,.bool false,.vnil,.bool false,.vnil,.bool false,.vnil]) noO:=by
 refine .agg _ _ rfl fun i x y hx hy => ?_
 match i with
 | 0 => simp at hx hy;subst hx;subst hy;exact .refl _
 | 1 => simp at hx hy;subst hx;subst hy;exact weak_vnil1
 | 2 => simp at hx hy;subst hx;subst hy;exact .refl _
 | 3 => simp at hx hy;subst hx;subst hy;exact weak_vnil1
 | 4 => simp at hx hy;subst hx;subst hy;exact .refl _
 | 5 => simp at hx hy;subst hx;subst hy;exact weak_vnil1
 | 6 => simp at hx hy;subst hx;subst hy;exact .refl _
 | 7 => simp at hx hy;subst hx;subst hy;exact weak_vnil1
 | 8 => simp at hx hy;subst hx;subst hy;exact .refl _
 | 9 => simp at hx hy;subst hx;subst hy;exact weak_vnil1
 | 10 => simp at hx hy;subst hx;subst hy;exact .refl _
 | 11 => simp at hx hy;subst hx;subst hy;exact weak_vnil1
 | i + 12 => simp at hx
namespace Sp
def isNN (c:Rat):Prop:=0 <= c.num
open Classical in
noncomputable def mkA (a b c:Rat):Rat:=if rsq c then a + b * rt c else a
open Classical in
noncomputable def mkB (b c:Rat):Rat:=if rsq c then qi 0 else b
open Classical in
noncomputable def mkC (b c:Rat):Rat:=if rsq c then qi 0 else rad b c
end Sp
theorem nn_sgn {c:Rat}:Sp.sgnI c.num < 0 ↔ ¬Sp.isNN c:=by
 rw [sgnI_lt];unfold Sp.isNN;omega
theorem ev54_y (f1 f2 f3 f4 f5 f6:Bool) (a b c:Rat) (h:Sp.okO a b c) (k:Sp.isNN c):Ev M1 (.pure 54 [ratA f1 f2 a,ratA f3 f4 b,ratA f5 f6 c]) (.tup [rootF (Sp.mkA a b c) (Sp.mkB b c) (Sp.mkC b c),.int .i64 0]) []:=by
 obtain ⟨ha,hb,hc⟩:=h
 refine call54 (oMake _ _ _ _ _ _ _ _ _ _ ⟨fun x => absurd k (nn_sgn.1 x),fun _ => ⟨fun s => ?_,fun s => ?_⟩⟩)
 ·have hr:=okT_rt s hc
  have hm:=okT_mul hb hr
  refine ⟨okT_R hc (by omega),⟨okT_R hb (by omega),okT_R hr (by omega)⟩,⟨okT_R ha (by omega),okT_R hm (by omega)⟩,?_⟩
  rw [show Sp.mkA a b c = a + b * Sp.rt c from if_pos s,show Sp.mkB b c = Sp.qi 0 from if_pos s,show Sp.mkC b c = Sp.qi 0 from if_pos s]
  exact .refl _
 ·refine ⟨okT_R hc (by omega),?_⟩
  rw [show Sp.mkA a b c = a from if_neg s,show Sp.mkB b c = b from if_neg s,show Sp.mkC b c = Sp.rad b c from if_neg s]
  exact .refl _
theorem ev54_n (f1 f2 f3 f4 f5 f6:Bool) (a b c:Rat) (h:Sp.okO a b c) (k:¬(Sp.isNN c)):Ev M1 (.pure 54 [ratA f1 f2 a,ratA f3 f4 b,ratA f5 f6 c]) (.tup [noO,.int .i64 7]) []:=
 call54 (oMake _ _ _ _ _ _ _ _ _ _ ⟨fun _ => weak_two weak_no (.refl _),fun x => absurd (nn_sgn.2 k) x⟩)
theorem ev56_y (f1 f2 f3 f4 f5 f6 g1 g2 g3 g4 g5 g6:Bool) (a b c x y z:Rat) (h:Sp.okO a b c /\ Sp.okO x y z) (k:Sp.isCom b c y z):Ev M1 (.pure 56 [rootA f1 f2 f3 f4 f5 f6 a b c,rootA g1 g2 g3 g4 g5 g6 x y z]) (.tup [rootF (a + x) (b + y) (Sp.rad (b + y) (Sp.com b c z)),.int .i64 0]) []:=by
 obtain ⟨⟨h1,h2,h3⟩,h4,h5,h6⟩:=h
 exact call56 (oAdd _ _ _ _ _ _ _ _ _ _ _ _ _ _ _ _ _ _ _ ⟨⟨h3,h6⟩,fun n => absurd k n,fun _ => ⟨⟨okT_R h1 (by omega),okT_R h4 (by omega)⟩,⟨okT_R h2 (by omega),okT_R h5 (by omega)⟩,.refl _⟩⟩)
theorem okT_com {k:Nat} {b c z:Rat} (h:Sp.okT k c) (h2:Sp.okT k z):Sp.okT k (Sp.com b c z):=by
 unfold Sp.com;split <;> assumption
theorem ev55 (f1 f2 f3 f4 f5 f6 l1 l2:Bool) (a b c r:Rat) (h:Sp.okP a b /\ Sp.okR r):Ev M1 (.pure 55 [rootA f1 f2 f3 f4 f5 f6 a b c,ratA l1 l2 r]) (rootF (a * r) (b * r) (Sp.rad (b * r) c)) []:=by
 obtain ⟨⟨h1,h2⟩,h3⟩:=h
 exact call55 (oScale _ _ _ _ _ _ _ _ _ _ _ _ _ ⟨⟨okT_R h1 (by omega),h3⟩,⟨okT_R h2 (by omega),h3⟩,.refl _⟩)
noncomputable def Sp.flW (a b c:Rat):Int:=Sp.sq ((a.den:Int) * (a.den:Int) * ((b * b * c).num * ((b * b * c).den:Int)))
noncomputable def Sp.fl (a b c:Rat):Int:=if b = 0 then Sp.flo a.num (a.den:Int) else Sp.flo (a.num * ((b * b * c).den:Int) + (if b.num < 0 then -(Sp.flW a b c + 1) else Sp.flW a b c)) ((a.den:Int) * ((b * b * c).den:Int))
end Go.Av

namespace Go.Av
open Go.Proofs
theorem qi_zero:Sp.qi 0 = 0:=by rw [qi_eq];rfl
end Go.Av

namespace Go.Av
open Go.Proofs
set_option maxRecDepth 100000
end Go.Av

namespace Go.Av
open Go.Proofs
theorem okT_div {k m:Nat} {r s:Rat} (h:Sp.okT k r) (h2:Sp.okT m s) (h0:s.num ≠ 0):Sp.okT (k + m) (r / s):=by
 have e:=divInt_le (p:=r.num * (s.den:Int)) (q:=(r.den:Int) * s.num) (Int.mul_ne_zero (den_ne r) h0)
 rw [rat_div] at e
 exact ⟨Nat.le_trans (cnt_mono e.1) (cnt_mulI h.1 (cnt_den h2.2)),Nat.le_trans (cnt_mono e.2) (cnt_mulI (cnt_den h.2) h2.1)⟩
end Go.Av

namespace Go.Av
open Go.Proofs
set_option maxRecDepth 100000
end Go.Av

namespace Go.Av
open Go.Proofs
theorem cnt_le {n m:Nat} {k:Nat} (h:n <= m) (hm:Sp.cnt m <= k):Sp.cnt n <= k:=Nat.le_trans (cnt_mono h) hm
theorem okT_qf {n d:Int} (h:Sp.okF n d):Sp.okT 3 (Sp.qf n d):=by
 obtain ⟨h1,h2,h3⟩:=h
 obtain ⟨e1,e2⟩:=divInt_le (p:=n) h3
 rw [qf_eq]
 exact ⟨cnt_le e1 (inI_cnt h1),cnt_le e2 (inI_cnt h2)⟩
theorem okT_O {a b c:Rat} {k:Nat} (h1:Sp.okT k a) (h2:Sp.okT k b) (h3:Sp.okT k c) (hk:k <= 9000):Sp.okO a b c:=⟨okT_le h1 hk,okT_le h2 hk,okT_le h3 hk⟩
end Go.Av

namespace Go.Av
open Go.Proofs
set_option maxRecDepth 100000
end Go.Av

namespace Go.Av
open Go.Proofs
theorem qi_mul (a b:Int):Sp.qi a * Sp.qi b = Sp.qi (a * b):=by rw [qi_eq,qi_eq,qi_eq,Rat.intCast_mul]
end Go.Av

namespace Go.Av
open Go.Proofs
end Go.Av

namespace Go.Av
open Go.Proofs
theorem okT_mkA {k:Nat} {a b c:Rat} (ha:Sp.okT k a) (hb:Sp.okT k b) (hc:Sp.okT k c):Sp.okT (3 * k + 1) (Sp.mkA a b c):=by
 unfold Sp.mkA
 split
 ·rename_i s
  exact okT_le (okT_add ha (okT_mul hb (okT_rt s hc))) (by omega)
 ·exact okT_le ha (by omega)
theorem okT_q0:Sp.okT 1 (Sp.qi 0):=by rw [qi_zero];exact okT_zero
theorem okT_mkB {k:Nat} {b c:Rat} (hb:Sp.okT k b):Sp.okT (k + 1) (Sp.mkB b c):=by
 unfold Sp.mkB
 split
 ·exact okT_le okT_q0 (by omega)
 ·exact okT_le hb (by omega)
theorem okT_rad {k:Nat} {b c:Rat} (hc:Sp.okT k c):Sp.okT (k + 1) (Sp.rad b c):=by
 unfold Sp.rad
 split
 ·exact okT_le okT_q0 (by omega)
 ·exact okT_le hc (by omega)
theorem okT_mkC {k:Nat} {b c:Rat} (hc:Sp.okT k c):Sp.okT (k + 1) (Sp.mkC b c):=by
 unfold Sp.mkC
 split
 ·exact okT_le okT_q0 (by omega)
 ·exact okT_rad hc
end Go.Av
