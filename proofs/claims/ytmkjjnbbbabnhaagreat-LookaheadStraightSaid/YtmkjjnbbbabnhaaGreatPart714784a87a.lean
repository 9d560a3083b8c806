/- PART 4 of the texts of a claim, joined by a program: what each part shows stands at its head. -/
import Derived.Test.YtmkjjnbbbabnhaaGreatPart1abf99f3e3

namespace Go.Av
open Go.Proofs
set_option maxRecDepth 100000
def fi117:Fi:=⟨54,[.cell 2 34,.tmp 3]⟩
def kp117:List (Nat × List Nat):=[(0,[1,2]),(1,[1,2,14]),(2,[2,3]),(3,[1,2,19]),(4,[2,3]),(5,[1,2,4]),(6,[1,2,5]),(7,[1,2,5,6]),(8,[1,2,5,6,7]),(9,[1,2,5,6,10]),(10,[1,2,5,6,10,51]),(11,[2,3]),(12,[1,2,5,6])]
def vSqrt_at (fa:Bool) (a:Int) (Q:AV -> Heap -> Prop):Prop:=Wp M1 (.run fi117 (atC (cd Tryz.f117) []) [(0,bigA fa a)] []) Q
def vSqrtH_at (fa:Bool) (a x:Int) (Q:AV -> Heap -> Prop):Prop:=Wp M1 (.run fi117 (atC (cd Tryz.f117) [1,1,1,1,1,1,0,0]) [(1,.ptr 0 0 0 0),(2,.ptr 1 0 0 0),(5,.ptr 2 0 0 0),(6,.ptr 3 0 0 0)] [⟨[bigA fa a],2,0,false,false⟩,⟨[.agg [.bool false,.vnil]],2,0,false,false⟩,⟨[bigA false x],2,0,false,false⟩,⟨[.agg [.bool false,.vec false 1 ((Sp.limI 2).map (.int .u32))]],2,0,false,false⟩]) Q
theorem call117 {args:List AV} {d:AV} (h:wc M1 fi117 Tryz.f117 args d):Ev M1 (.pure 117 args) d []:=pcl _ _ (by kernel_rfl) h
noncomputable abbrev zNvH1:=ag [vb false,vf (us (Sp.limI 2))]
noncomputable abbrev zNvH2 (a:Int):=Sp.sg false (1000000000 ^ (((↑(Sp.limI a).length:Int) + 1).tdiv 2).toNat)
theorem vSqrt (fa:Bool) (a:Int)  (dq:AV) (H :
  ((Sp.isNeg a = true) -> Weak (tu [ag [vb false,AV.vnil],vi 7]) dq) /\
  (¬(Sp.isNeg a = true) -> (((↑(Sp.limI a).length:Int) = 0) -> Weak (tu [ag [vb false,AV.vnil],vi 0]) dq) /\
   (¬((↑(Sp.limI a).length:Int) = 0) -> (-9223372036854775808 <= (↑(Sp.limI a).length:Int) + 1 /\ (↑(Sp.limI a).length:Int) + 1 <= 9223372036854775807) /\
    (-9223372036854775808 <= ((↑(Sp.limI a).length:Int) + 1).tdiv 2 /\ ((↑(Sp.limI a).length:Int) + 1).tdiv 2 <= 9223372036854775807) /\
    (Sp.short ((((↑(Sp.limI a).length:Int) + 1).tdiv 2).toNat + 1)) /\
    (0 <= ((↑(Sp.limI a).length:Int) + 1).tdiv 2) /\
    (((↑(Sp.limI a).length:Int) + 1).tdiv 2 * 4 <= 1099511627776) /\
    (((↑(Sp.limI a).length:Int) + 1).tdiv 2 <= 1099511627776) /\
    (((List.replicate (((↑(Sp.limI a).length:Int) + 1).tdiv 2).toNat (0:Int)).length + 1) * 4 <= 1099511627776) /\
    (Sp.inI 2) /\
    vSqrtH_at (fa) (a) (Sp.sg false (1000000000 ^ (((↑(Sp.limI a).length:Int) + 1).tdiv 2).toNat)) (PureQ dq)))) :
 vSqrt_at fa a (PureQ dq):=by
 unfold vSqrt_at
 rcases xm (Sp.isNeg a = true) with d2 | d2
 ·have H:=H.1 d2
  exact path_rq (G:=given kp117 [] []) 1000 [true] (asm:=[0 == 0,(Sp.isNeg a) == true,true]) (tu [ag [vb false,AV.vnil],vi 7]) (by kernel_rfl) (bc (beq_self_eq_true _) (bc (beq_t ((i_var _).2 d2)) (bc rfl b0))) q0 c0 H
 ·have H:=H.2 d2
  have w3:(us (Sp.limI a)).length = (Sp.limI a).length:=List.length_map ..
  have i4:((↑(us (Sp.limI a)).length:Int) == 0) = true ↔ ((↑(Sp.limI a).length:Int) = 0):=(by (try rw [w3]);all_goals exact i_eq)
  rcases xm ((↑(Sp.limI a).length:Int) = 0) with d5 | d5
  ·have H:=H.1 d5
   exact path_rq (G:=given kp117 [] []) 1000 [false,true] (asm:=[0 == 0,(Sp.isNeg a) == false,true,((↑(us (Sp.limI a)).length:Int) == 0) == true,true]) (tu [ag [vb false,AV.vnil],vi 0]) (by kernel_rfl) (bc (beq_self_eq_true _) (bc (beq_f (fun h => d2 ((i_var _).1 h))) (bc rfl (bc (beq_t (i4.2 d5)) (bc rfl b0))))) q0 c0 H
  ·have H:=H.2 d5
   obtain ⟨k6,H⟩:=H
   have w7:wi ((↑(Sp.limI a).length:Int) + 1) = (↑(Sp.limI a).length:Int) + 1:=wI64 k6
   obtain ⟨k8,H⟩:=H
   have w9:wi (((↑(Sp.limI a).length:Int) + 1).tdiv 2) = ((↑(Sp.limI a).length:Int) + 1).tdiv 2:=wI64 k8
   have w10:List.replicate (((↑(Sp.limI a).length:Int) + 1).tdiv 2).toNat (vu 0) = us (List.replicate (((↑(Sp.limI a).length:Int) + 1).tdiv 2).toNat (0:Int)):=(lm_rep rfl)
   have w11:us (List.replicate (((↑(Sp.limI a).length:Int) + 1).tdiv 2).toNat (0:Int)) ++ [vu 1] = us (List.replicate (((↑(Sp.limI a).length:Int) + 1).tdiv 2).toNat (0:Int) ++ [1]):=(lm_app rfl rfl)
   obtain ⟨k12,H⟩:=H
   have i13:(decide (0 <= wi ((wi ((↑(us (Sp.limI a)).length:Int) + 1)).tdiv 2))) = true ↔ (0 <= ((↑(Sp.limI a).length:Int) + 1).tdiv 2):=(by (try rw [w3]);(try rw [w7]);(try rw [w9]);all_goals exact i_dec)
   obtain ⟨k14,H⟩:=H
   have i15:(decide (wi ((wi ((↑(us (Sp.limI a)).length:Int) + 1)).tdiv 2) <= wi ((wi ((↑(us (Sp.limI a)).length:Int) + 1)).tdiv 2))) = true ↔ (((↑(Sp.limI a).length:Int) + 1).tdiv 2 <= ((↑(Sp.limI a).length:Int) + 1).tdiv 2):=(by (try rw [w3]);(try rw [w7]);(try rw [w9]);all_goals exact i_dec)
   have i16:(decide (wi ((wi ((↑(us (Sp.limI a)).length:Int) + 1)).tdiv 2) * 4 <= 1099511627776)) = true ↔ (((↑(Sp.limI a).length:Int) + 1).tdiv 2 * 4 <= 1099511627776):=(by (try rw [w3]);(try rw [w7]);(try rw [w9]);all_goals exact i_dec)
   obtain ⟨k17,H⟩:=H
   have i18:(decide (wi ((wi ((↑(us (Sp.limI a)).length:Int) + 1)).tdiv 2) <= 1099511627776)) = true ↔ (((↑(Sp.limI a).length:Int) + 1).tdiv 2 <= 1099511627776):=(by (try rw [w3]);(try rw [w7]);(try rw [w9]);all_goals exact i_dec)
   obtain ⟨k19,H⟩:=H
   have w20:(us (List.replicate (((↑(Sp.limI a).length:Int) + 1).tdiv 2).toNat (0:Int))).length = (List.replicate (((↑(Sp.limI a).length:Int) + 1).tdiv 2).toNat (0:Int)).length:=List.length_map ..
   have i21:(decide (((List.replicate (wi ((wi ((↑(us (Sp.limI a)).length:Int) + 1)).tdiv 2)).toNat (vu 0)).length + 1) * 4 <= 1099511627776)) = true ↔ (((List.replicate (((↑(Sp.limI a).length:Int) + 1).tdiv 2).toNat (0:Int)).length + 1) * 4 <= 1099511627776):=(by (try rw [w3]);(try rw [w7]);(try rw [w9]);(try rw [w10]);(try rw [w20]);all_goals exact i_dec)
   obtain ⟨k22,H⟩:=H
   obtain ⟨k23,H⟩:=H
   exact path_wp (G:=given kp117 [(6,4,.call (bigA false (zNvH2 a)) none),(7,0,.call (zNvH1) none)] []) 1000 [false,false] ⟨(atC (cd Tryz.f117) [1,1,1,1,1,1,0,0]),[(1,AV.ptr 0 0 0 0),(2,AV.ptr 1 0 0 0),(5,AV.ptr 3 0 0 0),(6,AV.ptr 4 0 0 0)],[⟨[bigA fa a],2,0,false,false⟩,⟨[ag [vb false,AV.vnil]],2,0,false,false⟩,⟨List.replicate (wi ((wi ((↑(us (Sp.limI a)).length:Int) + 1)).tdiv 2)).toNat (vu 0) ++ [vu 1],1,1,true,true⟩,⟨[bigA false (zNvH2 a)],2,0,false,false⟩,⟨[zNvH1],2,0,false,false⟩],[0 == 0,(Sp.isNeg a) == false,true,((↑(us (Sp.limI a)).length:Int) == 0) == false,true,true,decide (0 <= wi ((wi ((↑(us (Sp.limI a)).length:Int) + 1)).tdiv 2)),decide (wi ((wi ((↑(us (Sp.limI a)).length:Int) + 1)).tdiv 2) <= wi ((wi ((↑(us (Sp.limI a)).length:Int) + 1)).tdiv 2)),decide (wi ((wi ((↑(us (Sp.limI a)).length:Int) + 1)).tdiv 2) * 4 <= 1099511627776),decide (wi ((wi ((↑(us (Sp.limI a)).length:Int) + 1)).tdiv 2) <= 1099511627776),true,decide (((List.replicate (wi ((wi ((↑(us (Sp.limI a)).length:Int) + 1)).tdiv 2)).toNat (vu 0)).length + 1) * 4 <= 1099511627776),true,true,true],[],[pc 108 [vb false,vf (List.replicate (wi ((wi ((↑(us (Sp.limI a)).length:Int) + 1)).tdiv 2)).toNat (vu 0) ++ [vu 1])] (bigA false (zNvH2 a)),pc 72 [vi 2] (zNvH1)]⟩ (by kernel_rfl) (bc (beq_self_eq_true _) (bc (beq_f (fun h => d2 ((i_var _).1 h))) (bc rfl (bc (beq_f (fun h => d5 (i4.1 h))) (bc rfl (bc rfl (bc (i13.2 k14) (bc (i15.2 (by omega)) (bc (i16.2 k17) (bc (i18.2 k19) (bc rfl (bc (i21.2 k22) (bc rfl (bc rfl (bc rfl b0))))))))))))))) q0 (ce (by (try rw [w3]);(try rw [w7]);(try rw [w9]);(try rw [w10]);(try rw [w11]);all_goals exact (@ev108_c (false) ((((↑(Sp.limI a).length:Int) + 1).tdiv 2).toNat) k12)) (ce (@ev72 (2) k23) c0)) (by (try rw [w3]);(try rw [w7]);(try rw [w9]);(try rw [w10]);(try rw [w11]);all_goals exact wp_narrow [0,1,3,4] (by kernel_rfl) H)
noncomputable abbrev zNvH3:=ag [vb false,vf (us (Sp.limI 2))]
theorem vSqrtH (fa:Bool) (a x:Int)  (dq:AV) (H :
  (Sp.okB a /\ Sp.okB x /\ x ≠ 0) /\
  (Sp.okB x /\ Sp.okB (Sp.flo a x)) /\
  (Sp.okB (x + Sp.flo a x)) /\
  (Sp.okB (Sp.flo (x + Sp.flo a x) 2) /\ Sp.okB x) /\
  ((Sp.sgnI (Sp.flo (x + Sp.flo a x) 2 - x) >= 0) -> Weak (tu [bigA false x,vi 0]) dq) /\
  (¬(Sp.sgnI (Sp.flo (x + Sp.flo a x) 2 - x) >= 0) -> vSqrtH_at (fa) (a) (Sp.flo (x + Sp.flo a x) 2) (PureQ dq))) :
 vSqrtH_at fa a x (PureQ dq):=by
 unfold vSqrtH_at
 obtain ⟨k1,H⟩:=H
 obtain ⟨k2,H⟩:=H
 obtain ⟨k3,H⟩:=H
 refine path_wp (G:=given kp117 [(8,2,.call (tu [bigA false (Sp.flo a x),bigA false (Sp.flr a x),vi 0]) none),(9,2,.call (bigA false (x + Sp.flo a x)) none),(9,4,.call (tu [bigA false (Sp.flo (x + Sp.flo a x) 2),bigA false (Sp.flr (x + Sp.flo a x) 2),vi 0]) none)] []) 4 [] ⟨(atC (cd Tryz.f117) [1,1,1,1,1,1,0,0,0,1,0]),[(1,AV.ptr 0 0 0 0),(2,AV.ptr 1 0 0 0),(5,AV.ptr 2 0 0 0),(6,AV.ptr 3 0 0 0),(7,AV.ptr 4 0 0 0)],[⟨[bigA fa a],2,0,false,false⟩,⟨[ag [vb false,AV.vnil]],2,0,false,false⟩,⟨[bigA false x],2,0,false,false⟩,⟨[zNvH3],2,0,false,false⟩,⟨[bigA false (Sp.flo a x)],2,0,false,false⟩,⟨[bigA false (Sp.flr a x)],2,0,false,false⟩],_,[],_⟩ (by kernel_rfl) (bc rfl (bc rfl (bc rfl (bc rfl b0)))) q0 (ce (@ev129 (fa) (false) (a) (x) k1) c0) (wp_both (G:=given kp117 [(8,2,.call (tu [bigA false (Sp.flo a x),bigA false (Sp.flr a x),vi 0]) none),(9,2,.call (bigA false (x + Sp.flo a x)) none),(9,4,.call (tu [bigA false (Sp.flo (x + Sp.flo a x) 2),bigA false (Sp.flr (x + Sp.flo a x) 2),vi 0]) none)] []) [0,1,2,3,4,5,7,6] 9 (e1:=[(1,AV.ptr 0 0 0 0),(2,AV.ptr 1 0 0 0),(5,AV.ptr 2 0 0 0),(6,AV.ptr 3 0 0 0),(10,AV.ptr 6 0 0 0)]) (L1:=[⟨[bigA fa a],2,0,false,false⟩,⟨[ag [vb false,AV.vnil]],2,0,false,false⟩,⟨[bigA false x],2,0,false,false⟩,⟨[zNvH3],2,0,false,false⟩,⟨[bigA false (Sp.flo a x)],2,0,false,false⟩,⟨[bigA false (Sp.flr a x)],2,0,false,false⟩,⟨[bigA false (Sp.flo (x + Sp.flo a x) 2)],2,0,false,false⟩,⟨[bigA false (Sp.flr (x + Sp.flo a x) 2)],2,0,false,false⟩]) (a:=[true,true,true,true,true]) (q:=[]) (cs:=[⟨true,false,78,[bigA false x,bigA false (Sp.flo a x)],[],bigA false (x + Sp.flo a x),[]⟩,⟨true,false,129,[bigA false (x + Sp.flo a x),zNvH3],[],tu [bigA false (Sp.flo (x + Sp.flo a x) 2),bigA false (Sp.flr (x + Sp.flo a x) 2),vi 0],[]⟩]) (by kernel_rfl) (by kernel_rfl) (allB_cons rfl (allB_cons rfl (allB_cons rfl (allB_cons rfl (allB_cons rfl allB_nil))))) allP_nil (allC_cons (fun _ => (@ev78 (false) (false) (x) (Sp.flo a x) k2)) (allC_cons (fun _ => (@ev129_b (false) (x + Sp.flo a x) k3)) allC_nil)) ?_)
 obtain ⟨k4,H⟩:=H
 refine path_wp (G:=given kp117 [(10,2,.call (vi (Sp.sgnI (Sp.flo (x + Sp.flo a x) 2 - x))) none)] []) 3 [] ⟨(atC (cd Tryz.f117) [1,1,1,1,1,1,0,0,0,1,1,0,1]),[(1,AV.ptr 0 0 0 0),(2,AV.ptr 1 0 0 0),(5,AV.ptr 2 0 0 0),(6,AV.ptr 3 0 0 0),(10,AV.ptr 6 0 0 0),(51,vb (decide (Sp.sgnI (Sp.flo (x + Sp.flo a x) 2 - x) >= 0)))],[⟨[bigA fa a],2,0,false,false⟩,⟨[ag [vb false,AV.vnil]],2,0,false,false⟩,⟨[bigA false x],2,0,false,false⟩,⟨[zNvH3],2,0,false,false⟩,⟨[bigA false (Sp.flo a x)],2,0,false,false⟩,⟨[bigA false (Sp.flr a x)],2,0,false,false⟩,⟨[bigA false (Sp.flo (x + Sp.flo a x) 2)],2,0,false,false⟩,⟨[bigA false (Sp.flr (x + Sp.flo a x) 2)],2,0,false,false⟩],_,[],_⟩ (by kernel_rfl) (bc rfl (bc rfl b0)) q0 (ce (@ev76 (false) (false) (Sp.flo (x + Sp.flo a x) 2) (x) k4) c0) ?_
 rcases xm (Sp.sgnI (Sp.flo (x + Sp.flo a x) 2 - x) >= 0) with d6 | d6
 ·have H:=H.1 d6
  exact path_rq (G:=given kp117 [] []) 1000 [true] (tu [bigA false x,vi 0]) (by kernel_rfl) (bc (beq_t (i_dec.2 d6)) (bc rfl (bc rfl b0))) q0 c0 H
 ·have H:=H.2 d6
  exact path_wp (G:=given kp117 [] []) 1000 [false] ⟨(atC (cd Tryz.f117) [1,1,1,1,1,1,0,0]),[(1,AV.ptr 0 0 0 0),(2,AV.ptr 1 0 0 0),(5,AV.ptr 2 0 0 0),(6,AV.ptr 3 0 0 0)],[⟨[bigA fa a],2,0,false,false⟩,⟨[ag [vb false,AV.vnil]],2,0,false,false⟩,⟨[bigA false (Sp.flo (x + Sp.flo a x) 2)],2,0,false,false⟩,⟨[zNvH3],2,0,false,false⟩,⟨[bigA false (Sp.flo a x)],2,0,false,false⟩,⟨[bigA false (Sp.flr a x)],2,0,false,false⟩,⟨[bigA false (Sp.flo (x + Sp.flo a x) 2)],2,0,false,false⟩,⟨[bigA false (Sp.flr (x + Sp.flo a x) 2)],2,0,false,false⟩],_,[],_⟩ (by kernel_rfl) (bc (beq_f (fun h => d6 (i_dec.1 h))) (bc rfl (bc rfl b0))) q0 c0 (wp_narrow [0,1,2,3] (by kernel_rfl) H)
end Go.Av

namespace Go.Av
open Go.Proofs
namespace Sp
def okS (v:Int):Prop:=cnt v.natAbs <= 300000
noncomputable def sq (v:Int):Int:=if v < 0 then 0 else (isqrt v.natAbs:Int)
def sqe (v:Int):Int:=if v < 0 then 7 else 0
end Sp
theorem flo_nat {a x:Nat} (h:0 < x):Sp.flo (a:Int) (x:Int) = ((a / x:Nat):Int):=by
 unfold Sp.flo
 rw [if_pos (by omega)];rfl
theorem flo_two (v:Nat):Sp.flo (v:Int) 2 = ((v / 2:Nat):Int):=flo_nat (x:=2) (by omega)
theorem okB_fits {n v:Nat} (h:Sp.fits n v) (hn:n <= 400000):Sp.okB (v:Int):=by
 have:=fits_cnt.1 h
 unfold Sp.okB;rw [Int.natAbs_natCast];omega
theorem fits_pow {k n:Nat} (h:k < n):Sp.fits n (1000000000 ^ k):=Nat.pow_lt_pow_right (by omega) h
theorem sqrtH (fa:Bool) (a:Nat) (ha:Sp.cnt a <= 300000) (h0:a ≠ 0) (n:Nat):∀ x:Nat,x <= n -> 0 < x -> a < (x + 1) * (x + 1) -> Sp.fits 300001 x ->
  vSqrtH_at fa a x (PureQ (.tup [bigA false (Sp.isqrt a:Nat),.int .i64 0])):=by
 induction n with
 | zero => intro x h1 h2;omega
 | succ n ih =>
  intro x h1 h2 h3 h4
  have hfa:Sp.fits 300001 a:=fits_mono (fits_self a) (by omega)
  have hfq:Sp.fits 300001 (a / x):=fits_le hfa (Nat.div_le_self _ _)
  have hfs:Sp.fits 300002 (x + a / x):=fits_sum h4 hfq
  have hfy:Sp.fits 300002 ((x + a / x) / 2):=fits_le hfs (Nat.div_le_self _ _)
  have e2:(x:Int) + ((a / x:Nat):Int) = ((x + a / x:Nat):Int):=by omega
  refine vSqrtH fa _ _ _ ?_
  rw [flo_nat h2,e2,flo_two]
  refine ⟨⟨okB_fits hfa (by omega),okB_fits h4 (by omega),by omega⟩,⟨okB_fits h4 (by omega),okB_fits hfq (by omega)⟩,okB_fits hfs (by omega),⟨okB_fits hfy (by omega),okB_fits h4 (by omega)⟩,fun k => ?_,fun k => ?_⟩
  ·have k:¬(Sp.sgnI (((x + a / x) / 2:Nat) - (x:Int)) < 0):=by omega
   rw [sgnI_lt] at k
   rw [newton_done h2 h3 (by omega)]
   exact .refl _
  ·have k:Sp.sgnI (((x + a / x) / 2:Nat) - (x:Int)) < 0:=by omega
   rw [sgnI_lt] at k
   have hn:=newton_above (a:=a) h2
   refine ih _ (by omega) ?_ hn (fits_le h4 (by omega))
   apply Nat.pos_of_ne_zero
   intro e
   rw [e] at hn
   omega
theorem ev117 (fa:Bool) (v:Int) (h:Sp.okS v):Ev M1 (.pure 117 [bigA fa v]) (.tup [bigA false (Sp.sq v),.int .i64 (Sp.sqe v)]) []:=by
 have hl:=limI_len v
 have e1:Sp.limI (0:Int) = []:=lim_zero
 have e2:Sp.isNeg (0:Int) = false:=rfl
 have w0:∀ e:Int,Weak (.tup [.agg [.bool false,.vnil],.int .i64 e]) (.tup [bigA false 0,.int .i64 e]):=by
  intro e
  show Weak _ (.tup [.agg [.bool (Sp.isNeg 0),.vec false 1 ((Sp.limI 0).map (.int .u32))],.int .i64 e])
  rw [e1,e2]
  exact weak_two (weak_bnil false) (.refl _)
 unfold Sp.okS at h
 by_cases hneg:v < 0
 ·unfold Sp.sq Sp.sqe
  rw [if_pos hneg,if_pos hneg]
  exact call117 (vSqrt _ _ _ ⟨fun _ => w0 7,fun k => absurd (isNeg_iff.2 hneg) k⟩)
 ·unfold Sp.sq Sp.sqe
  rw [if_neg hneg,if_neg hneg]
  refine call117 (vSqrt _ _ _ ⟨fun k => absurd (isNeg_iff.1 k) hneg,fun _ => ⟨fun k => ?_,fun k => ?_⟩⟩)
  ·have hz:v.natAbs = 0:=cnt_eq_zero.1 (by omega)
   have:Sp.isqrt v.natAbs = 0:=by rw [hz];exact isqrt_eq ⟨by omega,by omega⟩
   rw [this];exact w0 0
  ·have hz:Sp.cnt v.natAbs ≠ 0:=by omega
   have hz':v.natAbs ≠ 0:=fun e => hz (by rw [e];exact cnt_zero)
   have ek:(((Sp.limI v).length:Int) + 1).tdiv 2 = (((Sp.cnt v.natAbs + 1) / 2:Nat):Int):=by
    rw [hl]
    have:((Sp.cnt v.natAbs:Nat):Int) + 1 = ((Sp.cnt v.natAbs + 1:Nat):Int):=by omega
    rw [this]
    exact (Int.ofNat_tdiv (Sp.cnt v.natAbs + 1) 2).symm
   rw [ek,Int.toNat_natCast,sg_false,List.length_replicate]
   generalize hk:(Sp.cnt v.natAbs + 1) / 2 = k
   refine ⟨by omega,by omega,by unfold Sp.short;omega,by omega,by omega,by omega,by omega,by unfold Sp.inI;omega,?_⟩
   have hv:((v.natAbs:Nat):Int) = v:=by omega
   have:=sqrtH fa v.natAbs h hz' (1000000000 ^ k) (1000000000 ^ k) (Nat.le_refl _) (Nat.pow_pos (by omega)) ?_ ?_
   ·rwa [hv] at this
   ·have h1:=fits_self v.natAbs
    unfold Sp.fits at h1
    have h2:1000000000 ^ Sp.cnt v.natAbs <= 1000000000 ^ (k + k):=Nat.pow_le_pow_right (by omega) (by omega)
    rw [Nat.pow_add] at h2
    have h3:=Nat.mul_le_mul (Nat.le_succ (1000000000 ^ k)) (Nat.le_succ (1000000000 ^ k))
    exact Nat.lt_of_lt_of_le h1 (Nat.le_trans h2 h3)
   ·exact fits_pow (by omega)
end Go.Av

namespace Go.Av
open Go.Proofs
namespace Sp
noncomputable def af (k s:Int):Int:=Sp.sq (s * s + k)
end Sp
theorem sq_low {Y:Int} (h:0 <= Y):Sp.sq Y * Sp.sq Y <= Y /\ Y < (Sp.sq Y + 1) * (Sp.sq Y + 1) /\ 0 <= Sp.sq Y:=by
 obtain ⟨h1,h2⟩:=isqrt_spec Y.natAbs
 unfold Sp.sq
 rw [if_neg (by omega)]
 have e:((Y.natAbs:Nat):Int) = Y:=by omega
 generalize Sp.isqrt Y.natAbs = w at *
 refine ⟨?_,?_,by omega⟩
 ·have:((w * w:Nat):Int) <= ((Y.natAbs:Nat):Int):=by omega
  rw [e,Int.natCast_mul] at this;exact this
 ·have:((Y.natAbs:Nat):Int) < (((w + 1) * (w + 1):Nat):Int):=by omega
  rw [e,Int.natCast_mul] at this;exact this
theorem sq_le_sq {a b:Int} (h:0 <= a) (h2:a <= b):a * a <= b * b:=Int.mul_le_mul h2 h2 h (by omega)
theorem sq_ge {a Y:Int} (ha:0 <= a) (hY:0 <= Y):a <= Sp.sq Y ↔ a * a <= Y:=by
 obtain ⟨h1,h2,h3⟩:=sq_low hY
 constructor
 ·intro h
  have:=sq_le_sq ha h
  omega
 ·intro h
  apply Classical.byContradiction
  intro n
  have:=sq_le_sq (a:=Sp.sq Y + 1) (b:=a) (by omega) (by omega)
  omega
theorem sq_mono {a b:Int} (ha:0 <= a) (h:a <= b):Sp.sq a <= Sp.sq b:=by
 obtain ⟨h1,h2,h3⟩:=sq_low ha
 exact (sq_ge h3 (by omega)).2 (by omega)
theorem sq_unique {r Y:Int} (h0:0 <= r) (h1:r * r <= Y) (h2:Y < (r + 1) * (r + 1)):r = Sp.sq Y:=by
 have hY:0 <= Y:=by have:=Int.mul_nonneg h0 h0;omega
 have a:=(sq_ge h0 hY).2 h1
 apply Classical.byContradiction
 intro n
 have b:=(sq_ge (a:=r + 1) (by omega) hY).1 (by omega)
 omega
theorem nn_sq (a:Int):0 <= a * a:=by
 rcases Int.le_total 0 a with h | h
 ·exact Int.mul_nonneg h h
 ·have:=Int.mul_nonneg (a:=-a) (b:=-a) (by omega) (by omega)
  rwa [Int.neg_mul_neg] at this
theorem af_nn {k s:Int} (h:0 <= k):0 <= Sp.af k s:=(sq_low (by have:=nn_sq s;omega)).2.2
theorem af_mono {k a b:Int} (hk:0 <= k) (ha:0 <= a) (h:a <= b):Sp.af k a <= Sp.af k b:=
 sq_mono (by have:=nn_sq a;omega) (by have:=sq_le_sq ha h;omega)
theorem af_ge {k s:Int} (hk:0 <= k) (h:0 <= s):s <= Sp.af k s:=(sq_ge h (by have:=nn_sq s;omega)).2 (by omega)
def Sp.Feas (n:Nat) (K c t:Nat -> Int):Prop:=(∀ i,i <= n -> 0 <= t i /\ t i <= c i) /\ ∀ i,i < n -> t i <= Sp.af (K i) (t (i + 1)) /\ t (i + 1) <= Sp.af (K i) (t i)
def Sp.Top (n:Nat) (K c g:Nat -> Int):Prop:=Sp.Feas n K c g /\ ∀ t,Sp.Feas n K c t -> ∀ i,i <= n -> t i <= g i
theorem prog_top {n:Nat} {K c f g:Nat -> Int} (hc:∀ i,i <= n -> 0 <= c i) (hK:∀ i,i < n -> 0 <= K i) (c0:c 0 = 0) (cn:c n = 0) (f0:f 0 = 0)
  (hf:∀ i,1 <= i -> i < n -> f i = min (c i) (Sp.af (K (i - 1)) (f (i - 1)))) (g0:g 0 = 0) (gn:g n = 0)
  (hg:∀ i,1 <= i -> i < n -> g i = min (f i) (Sp.af (K i) (g (i + 1)))):Sp.Top n K c g:=by
 have fp:∀ i,i < n -> 0 <= f i /\ f i <= c i:=by
  intro i
  induction i with
  | zero => intro h;rw [f0,c0];omega
  | succ i ih =>
   intro h
   have a:=ih (by omega)
   have b:=hf (i + 1) (by omega) h
   have c':=hc (i + 1) (by omega)
   have d:=@af_nn (K i) (f i) (hK i (by omega))
   rw [Nat.add_sub_cancel] at b
   omega
 have gp:∀ d i,i + d = n -> 0 <= g i:=by
  intro d
  induction d with
  | zero => intro i h;rw [show i = n by omega,gn];omega
  | succ d ih =>
   intro i h
   by_cases hi:i = 0
   ·rw [hi,g0];omega
   have a:=ih (i + 1) (by omega)
   have b:=hg i (by omega) (by omega)
   have c':=fp i (by omega)
   have d':=@af_nn (K i) (g (i + 1)) (hK i (by omega))
   omega
 have gp':∀ i,i <= n -> 0 <= g i:=fun i h => gp (n - i) i (by omega)
 have gf:∀ i,i < n -> g i <= f i:=by
  intro i h
  by_cases hi:i = 0
  ·rw [hi,g0,f0];omega
  have b:=hg i (by omega) h
  omega
 have up:∀ i,i < n -> g (i + 1) <= Sp.af (K i) (g i):=by
  intro i h
  have k0:=hK i h
  by_cases hn:i + 1 = n
  ·rw [hn,gn];exact af_nn k0
  have a1:=gf (i + 1) (by omega)
  have a2:=hf (i + 1) (by omega) (by omega)
  rw [Nat.add_sub_cancel] at a2
  by_cases hi:i = 0
  ·subst hi
   rw [g0];rw [f0] at a2;omega
  have b:=hg i (by omega) h
  by_cases hb:f i <= Sp.af (K i) (g (i + 1))
  ·rw [show g i = f i by omega];omega
  ·have e:g i = Sp.af (K i) (g (i + 1)):=by omega
   have x:=af_ge k0 (gp' (i + 1) (by omega))
   have y:=af_ge k0 (gp' i (by omega))
   omega
 have dn:∀ i,i < n -> g i <= Sp.af (K i) (g (i + 1)):=by
  intro i h
  by_cases hi:i = 0
  ·rw [hi,g0];exact af_nn (hK 0 (by omega))
  have b:=hg i (by omega) h
  omega
 refine ⟨⟨fun i h => ⟨gp' i h,?_⟩,fun i h => ⟨dn i h,up i h⟩⟩,?_⟩
 ·by_cases hn:i = n
  ·rw [hn,gn,cn];omega
  have a:=gf i (by omega)
  have b:=fp i (by omega)
  omega
 ·intro t ht
  have tf:∀ i,i < n -> t i <= f i:=by
   intro i
   induction i with
   | zero => intro h;have:=ht.1 0 (by omega);rw [f0];omega
   | succ i ih =>
    intro h
    have a:=ih (by omega)
    have b:=hf (i + 1) (by omega) h
    rw [Nat.add_sub_cancel] at b
    have c':=(ht.2 i (by omega)).2
    have d:=af_mono (hK i (by omega)) (ht.1 i (by omega)).1 a
    have e:=(ht.1 (i + 1) (by omega)).2
    omega
  have tg:∀ d i,i + d = n -> t i <= g i:=by
   intro d
   induction d with
   | zero => intro i h;have:=ht.1 i (by omega);rw [show i = n by omega] at *;rw [gn];omega
   | succ d ih =>
    intro i h
    by_cases hi:i = 0
    ·have:=ht.1 0 (by omega);rw [hi,g0];omega
    have a:=ih (i + 1) (by omega)
    have b:=hg i (by omega) (by omega)
    have c':=(ht.2 i (by omega)).1
    have d':=af_mono (hK i (by omega)) (ht.1 (i + 1) (by omega)).1 a
    have e:=tf i (by omega)
    omega
  exact fun i h => tg (n - i) i (by omega)
end Go.Av

namespace Go.Av
open Go.Proofs
namespace Sp
def isV (n:Int):Prop:=0 <= n /\ n <= 1000000
def isLen (n:Int):Prop:=0 <= n /\ n <= 100000000
def isAcc (n:Int):Prop:=1 <= n /\ n <= 100000000
def okPt (p:Pt):Prop:=isLen p.len /\ (1 <= p.spd /\ p.spd <= 1000000) /\ isV p.cor
def okPts (l:List Pt) (a:Int):Prop:=isAcc a /\ ∀ p ∈ l,okPt p
def cap (l:List Pt) (i:Nat):Int:=if i = 0 \/ l.length <= i then 0 else min (min (l.getD (i - 1) default).spd (l.getD (i - 1) default).cor) (l.getD i default).spd
def kA (l:List Pt) (a:Int) (i:Nat):Int:=2 * a * (l.getD i default).len
noncomputable def spF (l:List Pt) (a:Int):Nat -> Int
 | 0 => 0
 | i + 1 => min (cap l (i + 1)) (af (kA l a i) (spF l a i))
noncomputable def spG (l:List Pt) (a:Int):Nat -> Int
 | 0 => 0
 | d + 1 => if l.length = d + 1 then 0 else min (spF l a (l.length - (d + 1))) (af (kA l a (l.length - (d + 1))) (spG l a d))
noncomputable def spAt (l:List Pt) (a:Int) (i:Nat):Int:=spG l a (l.length - i)
noncomputable def spds (l:List Pt) (a:Int):List Int:=(List.range (l.length + 1)).map (spAt l a)
end Sp
theorem rm_of (o:List Int):o = (List.range o.length).map fun j => o.getD j default:=by
 refine List.ext_getElem (by simp) fun j h1 h2 => ?_
 simp [List.getD_eq_getElem?_getD,h1]
theorem rm_congr {m:Nat} {F G:Nat -> Int} (h:∀ i,i < m -> F i = G i):(List.range m).map F = (List.range m).map G:=
 List.map_congr_left fun i hi => h i (List.mem_range.1 hi)
section
variable {l:List Pt} {a:Int} (h:Sp.okPts l a)
include h
theorem pt_at {i:Nat} (hi:i < l.length):Sp.okPt (l.getD i default):=h.2 _ (getD_mem hi)
theorem kA_nn:∀ i,i < l.length -> 0 <= Sp.kA l a i /\ Sp.kA l a i <= 20000000000000000:=by
 intro i hi
 obtain ⟨⟨a1,a2⟩,_,_⟩:=pt_at h hi
 have h1:=h.1.1
 have h2:=h.1.2
 unfold Sp.kA
 have e1:0 <= 2 * a * (l.getD i default).len:=Int.mul_nonneg (by omega) a1
 have e2:2 * a * (l.getD i default).len <= 200000000 * 100000000:=Int.mul_le_mul (by omega) a2 a1 (by omega)
 omega
theorem cap_nn (i:Nat):0 <= Sp.cap l i /\ Sp.cap l i <= 1000000:=by
 unfold Sp.cap
 split
 ·omega
 ·obtain ⟨_,a2,a3⟩:=pt_at h (i:=i - 1) (by omega)
  obtain ⟨_,b2,_⟩:=pt_at h (i:=i) (by omega)
  unfold Sp.isV at a3
  omega
theorem spd_top:Sp.Top l.length (Sp.kA l a) (Sp.cap l) (Sp.spAt l a):=by
 have g0:Sp.spAt l a 0 = 0:=by
  unfold Sp.spAt
  rw [Nat.sub_zero]
  rcases e:l.length with _ | d
  ·rfl
  ·rw [Sp.spG,if_pos e]
 refine prog_top (f:=Sp.spF l a) (fun i _ => (cap_nn h i).1) (fun i hi => (kA_nn h i hi).1) (if_pos (.inl rfl)) (if_pos (.inr (Nat.le_refl _))) rfl ?_ g0 ?_ ?_
 ·intro i h1 h2
  obtain ⟨j,rfl⟩:∃ j,i = j + 1:=⟨i - 1,by omega⟩
  rw [Nat.add_sub_cancel];rfl
 ·unfold Sp.spAt
  rw [Nat.sub_self];rfl
 ·intro i h1 h2
  obtain ⟨d,hd⟩:∃ d,l.length - i = d + 1:=⟨l.length - i - 1,by omega⟩
  unfold Sp.spAt
  rw [hd,Sp.spG,if_neg (by omega),show l.length - (d + 1) = i by omega,show l.length - (i + 1) = d by omega]
theorem spAt_le {i:Nat} (hi:i <= l.length):0 <= Sp.spAt l a i /\ Sp.spAt l a i <= 1000000:=by
 have e:=(spd_top h).1.1 i hi
 have f:=cap_nn h i
 omega
end
theorem getD_set' {o:List Int} {i j:Nat} {x:Int} (hi:i < o.length):(o.set i x).getD j default = if i = j then x else o.getD j default:=by
 by_cases e:i = j
 ·subst e;simp [List.getD_eq_getElem?_getD,hi]
 ·simp [List.getD_eq_getElem?_getD,e,List.getElem?_set_ne]
namespace Sp
end Sp
end Go.Av

namespace Go.Av
open Go.Proofs
instance (n:Int):Decidable (Sp.isV n):=by unfold Sp.isV;infer_instance
instance (n:Int):Decidable (Sp.isLen n):=by unfold Sp.isLen;infer_instance
instance (n:Int):Decidable (Sp.isAcc n):=by unfold Sp.isAcc;infer_instance
namespace Sp
def inM (n:Int):Prop:=-10000000 <= n /\ n <= 10000000
def inP (x y z:Int):Prop:=inM x /\ inM y /\ inM z
def inQ (n:Int):Prop:=-20000000 <= n /\ n <= 20000000
def sqr (x y z:Int):Int:=x * x + y * y + z * z
def okNs (n:Int):Prop:=0 <= n /\ n <= 2000000000000000000
end Sp
instance (n:Int):Decidable (Sp.inM n):=by unfold Sp.inM;infer_instance
instance (x y z:Int):Decidable (Sp.inP x y z):=by unfold Sp.inP;infer_instance
theorem bif_dec {p q:Prop} [Decidable p] [Decidable q]:(bif decide p then decide q else false) = decide (p /\ q):=by
 by_cases h:p
 ·by_cases k:q
  ·rw [decide_eq_true h,decide_eq_true k,decide_eq_true ⟨h,k⟩];rfl
  ·rw [decide_eq_true h,decide_eq_false k,decide_eq_false (show ¬(p /\ q) from fun x => k x.2)];rfl
 ·rw [decide_eq_false h,decide_eq_false (show ¬(p /\ q) from fun x => h x.1)];rfl
theorem dec_iff {p q:Prop} [Decidable p] [Decidable q] (h:p ↔ q):decide p = decide q:=by
 by_cases k:q
 ·rw [decide_eq_true k,decide_eq_true (h.2 k)]
 ·rw [decide_eq_false k,decide_eq_false fun x => k (h.1 x)]
theorem ev25 (n u v:Int):Ev M1 (.pure 25 [.int .i64 n,.int .i64 u,.int .i64 v]) (.bool (decide (u <= n /\ n <= v))) []:=
 call25 (kWithin _ _ _ _ (by rw [bif_dec]))
theorem ev40 (n:Int):Ev M1 (.pure 40 [.int .i64 n]) (.bool (decide (Sp.isAcc n))) []:=
 call40 (kAccel _ _ (by rw [bif_dec];rfl))
theorem ev50 (n:Int):Ev M1 (.pure 50 [.int .i64 n]) (.bool (decide (Sp.isLen n))) []:=
 call50 (kLong _ _ (by rw [bif_dec];rfl))
theorem ev10 (n:Int):Ev M1 (.pure 10 [.int .i64 n]) (.bool (decide (Sp.isV n))) []:=
 call10 (kSpeed _ _ (by rw [bif_dec];rfl))
theorem sq_bound {x:Int} (h:Sp.inQ x):0 <= x * x /\ x * x <= 400000000000000:=by
 refine ⟨nn_sq x,?_⟩
 unfold Sp.inQ at h
 have:=Int.mul_nonneg (a:=20000000 - x) (b:=20000000 + x) (by omega) (by omega)
 have e:(20000000 - x) * (20000000 + x) = 400000000000000 - x * x:=by grind
 omega
theorem sqr_bound {x y z:Int} (hx:Sp.inQ x) (hy:Sp.inQ y) (hz:Sp.inQ z):0 <= Sp.sqr x y z /\ Sp.sqr x y z <= 1200000000000000:=by
 have:=sq_bound hx
 have:=sq_bound hy
 have:=sq_bound hz
 unfold Sp.sqr;omega
theorem ev27 (x y z:Int) (h:Sp.inQ x /\ Sp.inQ y /\ Sp.inQ z):Ev M1 (.pure 27 [.agg [.int .i64 x,.int .i64 y,.int .i64 z]]) (.int .i64 (Sp.sqr x y z)) []:=by
 have:=sq_bound h.1
 have:=sq_bound h.2.1
 have:=sq_bound h.2.2
 exact call27 (kSquare _ _ _ _ ⟨by omega,by omega,by omega,by omega,by omega,rfl⟩)
end Go.Av

namespace Go.Av
open Go.Proofs
set_option maxRecDepth 100000
def fi26:Fi:=⟨21,[.tmp 2]⟩
def kp26:List (Nat × List Nat):=[(0,[1]),(1,[11,12,13]),(2,[11,12,13,14]),(3,[4,11,12,13]),(4,[11,12,13,19]),(5,[2]),(6,[11,12,13]),(7,[2])]
def fi55:Fi:=⟨36,[.tmp 4]⟩
def kp55:List (Nat × List Nat):=[(0,[0,1]),(1,[0,1,9]),(2,[4]),(3,[0,12]),(4,[4]),(5,[13,14,15]),(6,[13,14,15,16]),(7,[6,13,14,15]),(8,[13,14,15,34]),(9,[4]),(10,[13,14,15]),(11,[4])]
def fi118:Fi:=⟨39,[.tmp 2,.tmp 3]⟩
def kp118:List (Nat × List Nat):=[(0,[1]),(1,[1,15]),(2,[2,3]),(3,[1,4]),(4,[1,4,5]),(5,[1,4,5,21]),(6,[1,4,5]),(7,[1,4,5]),(8,[4,34]),(9,[4]),(10,[2,3])]
def kInt64_at (fa:Bool) (a:Int) (Q:AV -> Heap -> Prop):Prop:=Wp M1 (.run fi118 (atC (cd Tryz.f118) []) [(0,bigA fa a)] []) Q
def kInt64H_at (fa:Bool) (a u i:Int) (Q:AV -> Heap -> Prop):Prop:=Wp M1 (.run fi118 (atC (cd Tryz.f118) [1,1,1,0,1,0,0]) [(1,.ptr 0 0 0 0),(4,.int .u64 u),(5,.int .i64 i)] [⟨[bigA fa a],2,0,false,false⟩]) Q
def kValid_at (fl:Bool) (l:List Pt) (a:Int) (Q:AV -> Heap -> Prop):Prop:=Wp M1 (.run fi55 (atC (cd Tryz.f55) []) [(0,.vec fl 3 (l.map Pt.a)),(1,.int .i64 a)] []) Q
def kValidH_at (fl:Bool) (l:List Pt) (n i:Int) (Q:AV -> Heap -> Prop):Prop:=Wp M1 (.run fi55 (atC (cd Tryz.f55) [1,1,1,0,1,0,0]) [(13,.vec fl 3 (l.map Pt.a)),(14,.int .i64 n),(15,.int .i64 i)] []) Q
def kFar_at (x y z:Int) (Q:AV -> Heap -> Prop):Prop:=Wp M1 (.run fi26 (atC (cd Tryz.f26) []) [(0,.agg [.int .i64 x,.int .i64 y,.int .i64 z])] []) Q
def kFarH_at (x y z i:Int) (Q:AV -> Heap -> Prop):Prop:=Wp M1 (.run fi26 (atC (cd Tryz.f26) [1,0,1,0,0]) [(11,.vec true 1 [.int .i64 x,.int .i64 y,.int .i64 z]),(12,.int .i64 3),(13,.int .i64 i)] []) Q
theorem call26 {args:List AV} {d:AV} (h:wc M1 fi26 Tryz.f26 args d):Ev M1 (.pure 26 args) d []:=pcl _ _ (by kernel_rfl) h
theorem call55 {args:List AV} {d:AV} (h:wc M1 fi55 Tryz.f55 args d):Ev M1 (.pure 55 args) d []:=pcl _ _ (by kernel_rfl) h
theorem call118 {args:List AV} {d:AV} (h:wc M1 fi118 Tryz.f118 args d):Ev M1 (.pure 118 args) d []:=pcl _ _ (by kernel_rfl) h
noncomputable abbrev zNzB1:=ag [vb false,vf (us (Sp.limI 9223372036854775807))]
noncomputable abbrev zNzB2:=ag [vb true,vf (us (Sp.limI (-9223372036854775808)))]
theorem kInt64 (fa:Bool) (a:Int)  (dq:AV) (H :
  (Sp.inI (-9223372036854775808)) /\
  ∃ (n1:Int),
  (Ev M1 (Conf.pure 76 [bigA fa a,ag [vb true,vf (us (Sp.limI (-9223372036854775808)))]]) (vi n1) []) /\
  ((¬(n1 < 0)) -> (Sp.inI 9223372036854775807)) /\
  ∃ (n2:Int),
  ((¬(n1 < 0)) -> (Ev M1 (Conf.pure 76 [bigA fa a,ag [vb false,vf (us (Sp.limI 9223372036854775807))]]) (vi n2) [])) /\
  (((n1 < 0) \/ (n2 > 0)) -> tu [vi 0,vb false] = dq) /\
  (¬((n1 < 0) \/ (n2 > 0)) -> (-9223372036854775808 <= (↑(Sp.limI a).length:Int) - 1 /\ (↑(Sp.limI a).length:Int) - 1 <= 9223372036854775807) /\
   kInt64H_at (fa) (a) (0) ((↑(Sp.limI a).length:Int) - 1) (PureQ dq))) :
 kInt64_at fa a (PureQ dq):=by
 unfold kInt64_at
 obtain ⟨k1,H⟩:=H
 obtain ⟨n1,H⟩:=H
 obtain ⟨k2,H⟩:=H
 obtain ⟨k4,H⟩:=H
 obtain ⟨n2,H⟩:=H
 obtain ⟨k6,H⟩:=H
 refine path_wp (G:=given kp118 [(1,1,.call (zNzB2) none),(1,2,.call (vi n1) none),(1,6,.call (zNzB1) none),(1,7,.call (vi n2) none)] []) 5 [] ⟨(atC (cd Tryz.f118) [1,0,1]),[(1,AV.ptr 0 0 0 0),(15,vb (bif decide (n1 < 0) then true else decide (n2 > 0)))],[⟨[bigA fa a],2,0,false,false⟩],[true,!(decide (n1 < 0) == false && true) || true],[],[⟨true,false,72,[vi (-9223372036854775808)],[],zNzB2,[]⟩,⟨true,false,76,[bigA fa a,zNzB2],[],vi n1,[]⟩,⟨decide (n1 < 0) == false && true && true,false,72,[vi 9223372036854775807],[],zNzB1,[]⟩,⟨decide (n1 < 0) == false && true && true,false,76,[bigA fa a,zNzB1],[],vi n2,[]⟩]⟩ (by kernel_rfl) (bc rfl (bc (Bool.or_true _) b0)) q0 (cc (fun _ => (@ev72 (-9223372036854775808) k1)) (cc (fun _ => k2) (cc (fun hc => ((@ev72 (9223372036854775807) (k4 ((i_at (i_at (i_bf i_dec))).1 hc))):Ev M1 (Conf.pure 72 [vi 9223372036854775807]) (zNzB1) [])) (cc (fun hc => ((k6 ((i_at (i_at (i_bf i_dec))).1 hc)):Ev M1 (Conf.pure 76 [bigA fa a,zNzB1]) (vi n2) [])) c0)))) ?_
 rcases xm ((n1 < 0) \/ (n2 > 0)) with d8 | d8
 ·have H:=H.1 d8
  exact path_re (G:=given kp118 [] []) 1000 [true] (tu [vi 0,vb false]) (by kernel_rfl) (bc (beq_t ((i_bor i_dec i_dec).2 d8)) b0) q0 c0 H
 ·have H:=H.2 d8
  have w9:(us (Sp.limI a)).length = (Sp.limI a).length:=List.length_map ..
  obtain ⟨k10,H⟩:=H
  have w11:wi ((↑(Sp.limI a).length:Int) - 1) = (↑(Sp.limI a).length:Int) - 1:=wI64 k10
  exact path_wp (G:=given kp118 [] []) 1000 [false] ⟨(atC (cd Tryz.f118) [1,1,1,0,1,0,0]),[(1,AV.ptr 0 0 0 0),(4,vw 0),(5,vi (wi ((↑(us (Sp.limI a)).length:Int) - 1)))],[⟨[bigA fa a],2,0,false,false⟩],_,[],_⟩ (by kernel_rfl) (bc (beq_f (fun h => d8 ((i_bor i_dec i_dec).1 h))) (bc rfl b0)) q0 c0 (by (try rw [w9]);(try rw [w11]);all_goals exact H)
theorem kInt64H (fa:Bool) (a u i:Int)  (dq:AV) (H :
  ((i >= 0) -> (0 <= i) /\
   (i.toNat < (Sp.limI a).length) /\
   (0 <= u * 1000000000 /\ u * 1000000000 <= 18446744073709551615) /\
   (0 <= (Sp.limI a).getD i.toNat default /\ (Sp.limI a).getD i.toNat default <= 18446744073709551615) /\
   (0 <= u * 1000000000 + (Sp.limI a).getD i.toNat default /\ u * 1000000000 + (Sp.limI a).getD i.toNat default <= 18446744073709551615) /\
   (-9223372036854775808 <= i - 1 /\ i - 1 <= 9223372036854775807) /\
   kInt64H_at (fa) (a) (u * 1000000000 + (Sp.limI a).getD i.toNat default) (i - 1) (PureQ dq)) /\
  (¬(i >= 0) -> ((Sp.isNeg a = true) -> (0 <= 0 - u /\ 0 - u <= 18446744073709551615) /\
    (-9223372036854775808 <= 0 - u /\ 0 - u <= 9223372036854775807) /\
    tu [vi (0 - u),vb true] = dq) /\
   (¬(Sp.isNeg a = true) -> (-9223372036854775808 <= u /\ u <= 9223372036854775807) /\
    tu [vi u,vb true] = dq))) :
 kInt64H_at fa a u i (PureQ dq):=by
 unfold kInt64H_at
 rcases xm (i >= 0) with d2 | d2
 ·have H:=H.1 d2
  obtain ⟨k4,H⟩:=H
  have w5:(us (Sp.limI a)).length = (Sp.limI a).length:=List.length_map ..
  have i6:(decide (i.toNat < (us (Sp.limI a)).length)) = true ↔ (i.toNat < (Sp.limI a).length):=(by (try rw [w5]);all_goals exact i_dec)
  obtain ⟨k7,H⟩:=H
  obtain ⟨k8,H⟩:=H
  have w9:wu (u * 1000000000) = u * 1000000000:=wU64 k8
  obtain ⟨k10,H⟩:=H
  have w11:wu ((Sp.limI a).getD i.toNat default) = (Sp.limI a).getD i.toNat default:=wU64 k10
  obtain ⟨k12,H⟩:=H
  have w13:wu (u * 1000000000 + (Sp.limI a).getD i.toNat default) = u * 1000000000 + (Sp.limI a).getD i.toNat default:=wU64 k12
  obtain ⟨k14,H⟩:=H
  have w15:wi (i - 1) = i - 1:=wI64 k14
  exact path_wp (G:=given kp118 [(7,6,.elem (vu ((Sp.limI a).getD i.toNat default)))] []) 1000 [true] ⟨(atC (cd Tryz.f118) [1,1,1,0,1,0,0]),[(1,AV.ptr 0 0 0 0),(4,vw (wu (wu (u * 1000000000) + wu ((Sp.limI a).getD i.toNat default)))),(5,vi (wi (i - 1)))],[⟨[bigA fa a],2,0,false,false⟩],_,[((us (Sp.limI a)).get?Internal i.toNat = some (vu ((Sp.limI a).getD i.toNat default)))],_⟩ (by kernel_rfl) (bc (beq_t (i_dec.2 d2)) (bc rfl (bc (i_dec.2 k4) (bc (i6.2 k7) b0)))) (qc (el_map k7) q0) c0 (by (try rw [w9]);(try rw [w11]);(try rw [w13]);(try rw [w15]);all_goals exact H)
 ·have H:=H.2 d2
  rcases xm (Sp.isNeg a = true) with d17 | d17
  ·have H:=H.1 d17
   obtain ⟨k18,H⟩:=H
   have w19:wu (0 - u) = 0 - u:=wU64 k18
   obtain ⟨k20,H⟩:=H
   have w21:wi (0 - u) = 0 - u:=wI64 k20
   exact path_re (G:=given kp118 [] []) 1000 [false,true] (asm:=[(decide (i >= 0)) == false,0 == 0,(Sp.isNeg a) == true]) (tu [vi (wi (wu (0 - u))),vb true]) (by kernel_rfl) (bc (beq_f (fun h => d2 (i_dec.1 h))) (bc (beq_self_eq_true _) (bc (beq_t ((i_var _).2 d17)) b0))) q0 c0 (by (try rw [w19]);(try rw [w21]);all_goals exact H)
  ·have H:=H.2 d17
   obtain ⟨k22,H⟩:=H
   have w23:wi u = u:=wI64 k22
   exact path_re (G:=given kp118 [] []) 1000 [false,false] (asm:=[(decide (i >= 0)) == false,0 == 0,(Sp.isNeg a) == false]) (tu [vi (wi u),vb true]) (by kernel_rfl) (bc (beq_f (fun h => d2 (i_dec.1 h))) (bc (beq_self_eq_true _) (bc (beq_f (fun h => d17 ((i_var _).1 h))) b0))) q0 c0 (by (try rw [w23]);all_goals exact H)
theorem kValid (fl:Bool) (l:List Pt) (a:Int)  (dq:AV) (H :
  (((↑l.length:Int) > 2000) -> vi 3 = dq) /\
  (¬((↑l.length:Int) > 2000) -> ((¬(1 <= a /\ a <= 100000000)) -> vi 1 = dq) /\
   (¬(¬(1 <= a /\ a <= 100000000)) -> kValidH_at (fl) (l) ((↑l.length:Int)) (0) (PureQ dq)))) :
 kValid_at fl l a (PureQ dq):=by
 unfold kValid_at
 have w1:(List.map Pt.a l).length = l.length:=List.length_map ..
 have i2:(decide ((↑(List.map Pt.a l).length:Int) > 2000)) = true ↔ ((↑l.length:Int) > 2000):=(by (try rw [w1]);all_goals exact i_dec)
 rcases xm ((↑l.length:Int) > 2000) with d3 | d3
 ·have H:=H.1 d3
  exact path_re (G:=given kp55 [] []) 1000 [true] (vi 3) (by kernel_rfl) (bc (beq_t (i2.2 d3)) b0) q0 c0 H
 ·have H:=H.2 d3
  refine path_wp (G:=given kp55 [(3,1,.call (vb (decide (1 <= a /\ a <= 100000000))) none)] []) 10 [false] ⟨(atC (cd Tryz.f55) [1,1,0,1]),[(0,AV.vec fl 3 (List.map Pt.a l)),(12,vb !decide (1 <= a /\ a <= 100000000))],[],_,[],_⟩ (by kernel_rfl) (bc (beq_f (fun h => d3 (i2.1 h))) b0) q0 (ce (@ev25 (a) (1) (100000000)) c0) ?_
  rcases xm (¬(1 <= a /\ a <= 100000000)) with d5 | d5
  ·have H:=H.1 d5
   exact path_re (G:=given kp55 [] []) 1000 [true] (vi 1) (by kernel_rfl) (bc (beq_t ((i_not i_dec).2 d5)) b0) q0 c0 H
  ·have H:=H.2 d5
   exact path_wp (G:=given kp55 [] []) 1000 [false] ⟨(atC (cd Tryz.f55) [1,1,1,0,1,0,0]),[(13,AV.vec fl 3 (List.map Pt.a l)),(14,vi (↑(List.map Pt.a l).length:Int)),(15,vi 0)],[],_,[],_⟩ (by kernel_rfl) (bc (beq_f (fun h => d5 ((i_not i_dec).1 h))) b0) q0 c0 (by (try rw [w1]);all_goals exact H)
noncomputable abbrev zNzB4 (l:List Pt) (i:Int):=ag [vi (l.getD i.toNat default).len,vi (l.getD i.toNat default).spd,vi (l.getD i.toNat default).cor]
noncomputable abbrev zNzB5 (l:List Pt) (i:Int):=bif !decide (0 <= (l.getD i.toNat default).len /\ (l.getD i.toNat default).len <= 100000000) then true else !decide (1 <= (l.getD i.toNat default).spd /\ (l.getD i.toNat default).spd <= 1000000)
theorem kValidH (fl:Bool) (l:List Pt) (n i:Int)  (dq:AV) (H :
  ((i < n) -> (0 <= i) /\
   (i.toNat < l.length) /\
   ((((¬(0 <= (l.getD i.toNat default).len /\ (l.getD i.toNat default).len <= 100000000)) \/ (¬(1 <= (l.getD i.toNat default).spd /\ (l.getD i.toNat default).spd <= 1000000))) \/ (¬(0 <= (l.getD i.toNat default).cor /\ (l.getD i.toNat default).cor <= 1000000))) -> vi 1 = dq) /\
   (¬(((¬(0 <= (l.getD i.toNat default).len /\ (l.getD i.toNat default).len <= 100000000)) \/ (¬(1 <= (l.getD i.toNat default).spd /\ (l.getD i.toNat default).spd <= 1000000))) \/ (¬(0 <= (l.getD i.toNat default).cor /\ (l.getD i.toNat default).cor <= 1000000))) -> (-9223372036854775808 <= i + 1 /\ i + 1 <= 9223372036854775807) /\
    kValidH_at (fl) (l) (n) (i + 1) (PureQ dq))) /\
  (¬(i < n) -> vi 0 = dq)) :
 kValidH_at fl l n i (PureQ dq):=by
 unfold kValidH_at
 rcases xm (i < n) with d2 | d2
 ·have H:=H.1 d2
  obtain ⟨k4,H⟩:=H
  have w5:(List.map Pt.a l).length = l.length:=List.length_map ..
  have i6:(decide (i.toNat < (List.map Pt.a l).length)) = true ↔ (i.toNat < l.length):=(by (try rw [w5]);all_goals exact i_dec)
  obtain ⟨k7,H⟩:=H
  refine path_wp (G:=given kp55 [(7,1,.elem ((zNzB4 l i))),(8,2,.call (vb (decide (0 <= (l.getD i.toNat default).len /\ (l.getD i.toNat default).len <= 100000000))) none),(8,7,.call (vb (decide (1 <= (l.getD i.toNat default).spd /\ (l.getD i.toNat default).spd <= 1000000))) none),(8,13,.call (vb (decide (0 <= (l.getD i.toNat default).cor /\ (l.getD i.toNat default).cor <= 1000000))) none)] []) 11 [true] ⟨(atC (cd Tryz.f55) [1,1,1,0,1,0,0,1,1,0,0,1,1]),[(13,AV.vec fl 3 (List.map Pt.a l)),(14,vi n),(15,vi i),(34,vb (bif bif !decide (0 <= (l.getD i.toNat default).len /\ (l.getD i.toNat default).len <= 100000000) then true else !decide (1 <= (l.getD i.toNat default).spd /\ (l.getD i.toNat default).spd <= 1000000) then true else !decide (0 <= (l.getD i.toNat default).cor /\ (l.getD i.toNat default).cor <= 1000000)))],[⟨[(zNzB4 l i)],3,0,false,false⟩],[(decide (i < n)) == true,decide (0 <= i),decide (i.toNat < (List.map Pt.a l).length),true,true,!((!decide (0 <= (l.getD i.toNat default).len /\ (l.getD i.toNat default).len <= 100000000)) == false && true) || true,!((zNzB5 l i) == false && true) || true],[((List.map Pt.a l).get?Internal i.toNat = some ((zNzB4 l i)))],[⟨true,false,25,[vi (l.getD i.toNat default).len,vi 0,vi 100000000],[],vb (decide (0 <= (l.getD i.toNat default).len /\ (l.getD i.toNat default).len <= 100000000)),[]⟩,⟨(!decide (0 <= (l.getD i.toNat default).len /\ (l.getD i.toNat default).len <= 100000000)) == false && true && true,false,25,[vi (l.getD i.toNat default).spd,vi 1,vi 1000000],[],vb (decide (1 <= (l.getD i.toNat default).spd /\ (l.getD i.toNat default).spd <= 1000000)),[]⟩,⟨(zNzB5 l i) == false && true && true,false,25,[vi (l.getD i.toNat default).cor,vi 0,vi 1000000],[],vb (decide (0 <= (l.getD i.toNat default).cor /\ (l.getD i.toNat default).cor <= 1000000)),[]⟩]⟩ (by kernel_rfl) (bc (beq_t (i_dec.2 d2)) (bc (i_dec.2 k4) (bc (i6.2 k7) (bc rfl (bc rfl (bc (Bool.or_true _) (bc (Bool.or_true _) b0))))))) (qc (el_map k7) q0) (cc (fun _ => (@ev25 ((l.getD i.toNat default).len) (0) (100000000))) (cc (fun hc => ((@ev25 ((l.getD i.toNat default).spd) (1) (1000000)):Ev M1 (Conf.pure 25 [vi (l.getD i.toNat default).spd,vi 1,vi 1000000]) (vb (decide (1 <= (l.getD i.toNat default).spd /\ (l.getD i.toNat default).spd <= 1000000))) [])) (cc (fun hc => ((@ev25 ((l.getD i.toNat default).cor) (0) (1000000)):Ev M1 (Conf.pure 25 [vi (l.getD i.toNat default).cor,vi 0,vi 1000000]) (vb (decide (0 <= (l.getD i.toNat default).cor /\ (l.getD i.toNat default).cor <= 1000000))) [])) c0))) ?_
  rcases xm (((¬(0 <= (l.getD i.toNat default).len /\ (l.getD i.toNat default).len <= 100000000)) \/ (¬(1 <= (l.getD i.toNat default).spd /\ (l.getD i.toNat default).spd <= 1000000))) \/ (¬(0 <= (l.getD i.toNat default).cor /\ (l.getD i.toNat default).cor <= 1000000))) with d11 | d11
  ·have H:=H.1 d11
   exact path_re (G:=given kp55 [] []) 1000 [true] (vi 1) (by kernel_rfl) (bc (beq_t ((i_bor (i_bor (i_not i_dec) (i_not i_dec)) (i_not i_dec)).2 d11)) b0) q0 c0 H
  ·have H:=H.2 d11
   obtain ⟨k12,H⟩:=H
   have w13:wi (i + 1) = i + 1:=wI64 k12
   exact path_wp (G:=given kp55 [] []) 1000 [false] ⟨(atC (cd Tryz.f55) [1,1,1,0,1,0,0]),[(13,AV.vec fl 3 (List.map Pt.a l)),(14,vi n),(15,vi (wi (i + 1)))],[⟨[(zNzB4 l i)],3,0,false,false⟩],_,[],_⟩ (by kernel_rfl) (bc (beq_f (fun h => d11 ((i_bor (i_bor (i_not i_dec) (i_not i_dec)) (i_not i_dec)).1 h))) b0) q0 c0 (by (try rw [w13]);all_goals exact wp_narrow [] (by kernel_rfl) H)
 ·have H:=H.2 d2
  exact path_re (G:=given kp55 [] []) 1000 [false] (vi 0) (by kernel_rfl) (bc (beq_f (fun h => d2 (i_dec.1 h))) b0) q0 c0 H
theorem kFar (x y z:Int)  (dq:AV) (H :
  kFarH_at (x) (y) (z) (0) (PureQ dq)) :
 kFar_at x y z (PureQ dq):=by
 unfold kFar_at
 exact path_wp (G:=given kp26 [] []) 1000 [] ⟨(atC (cd Tryz.f26) [1,0,1,0,0]),[(11,AV.vec true 1 [vi x,vi y,vi z]),(12,vi 3),(13,vi 0)],[⟨[ag [vi x,vi y,vi z]],3,0,false,false⟩],_,[],_⟩ (by kernel_rfl) (bc rfl (bc rfl (bc rfl b0))) q0 c0 (wp_narrow [] (by kernel_rfl) H)
theorem kFarH (x y z i:Int)  (dq:AV) (H :
  ((i < 3) -> (0 <= i) /\
   (i.toNat < 3) /\
   (i.toNat < [x,y,z].length) /\
   ((¬(-10000000 <= [x,y,z].getD i.toNat default /\ [x,y,z].getD i.toNat default <= 10000000)) -> vb true = dq) /\
   (¬(¬(-10000000 <= [x,y,z].getD i.toNat default /\ [x,y,z].getD i.toNat default <= 10000000)) -> (-9223372036854775808 <= i + 1 /\ i + 1 <= 9223372036854775807) /\
    kFarH_at (x) (y) (z) (i + 1) (PureQ dq))) /\
  (¬(i < 3) -> vb false = dq)) :
 kFarH_at x y z i (PureQ dq):=by
 unfold kFarH_at
 rcases xm (i < 3) with d2 | d2
 ·have H:=H.1 d2
  have w3:[vi x,vi y,vi z] = List.map (vi) [x,y,z]:=rfl
  obtain ⟨k5,H⟩:=H
  have w6:(List.map (vi) [x,y,z]).length = [x,y,z].length:=List.length_map ..
  have i7:(decide (i.toNat < 3)) = true ↔ (i.toNat < 3):=(by (try rw [w3]);(try rw [w6]);all_goals exact i_dec)
  obtain ⟨k8,H⟩:=H
  obtain ⟨k9,H⟩:=H
  refine path_wp (G:=given kp26 [(3,1,.elem (vi ([x,y,z].getD i.toNat default))),(4,1,.call (vb (decide (-10000000 <= [x,y,z].getD i.toNat default /\ [x,y,z].getD i.toNat default <= 10000000))) none)] []) 11 [true] ⟨(atC (cd Tryz.f26) [1,0,1,0,0,1,1,0,0,1,1]),[(11,AV.vec true 1 [vi x,vi y,vi z]),(12,vi 3),(13,vi i),(19,vb !decide (-10000000 <= [x,y,z].getD i.toNat default /\ [x,y,z].getD i.toNat default <= 10000000))],[],_,[([vi x,vi y,vi z].get?Internal i.toNat = some (vi ([x,y,z].getD i.toNat default)))],_⟩ (by kernel_rfl) (bc (beq_t (i_dec.2 d2)) (bc (i_dec.2 k5) (bc (i7.2 k8) b0))) (qc (by (try rw [w3]);all_goals exact (el_map k9)) q0) (ce (@ev25 ([x,y,z].getD i.toNat default) (-10000000) (10000000)) c0) ?_
  rcases xm (¬(-10000000 <= [x,y,z].getD i.toNat default /\ [x,y,z].getD i.toNat default <= 10000000)) with d11 | d11
  ·have H:=H.1 d11
   exact path_re (G:=given kp26 [] []) 1000 [true] (vb true) (by kernel_rfl) (bc (beq_t ((i_not i_dec).2 d11)) b0) q0 c0 H
  ·have H:=H.2 d11
   obtain ⟨k12,H⟩:=H
   have w13:wi (i + 1) = i + 1:=wI64 k12
   exact path_wp (G:=given kp26 [] []) 1000 [false] ⟨(atC (cd Tryz.f26) [1,0,1,0,0]),[(11,AV.vec true 1 [vi x,vi y,vi z]),(12,vi 3),(13,vi (wi (i + 1)))],[],_,[],_⟩ (by kernel_rfl) (bc (beq_f (fun h => d11 ((i_not i_dec).1 h))) b0) q0 c0 (by (try rw [w3]);(try rw [w13]);all_goals exact H)
 ·have H:=H.2 d2
  exact path_re (G:=given kp26 [] []) 1000 [false] (vb false) (by kernel_rfl) (bc (beq_f (fun h => d2 (i_dec.1 h))) b0) q0 c0 H
end Go.Av

namespace Go.Av
open Go.Proofs
instance (p:Pt):Decidable (Sp.okPt p):=by unfold Sp.okPt;infer_instance
instance (l:List Pt) (a:Int):Decidable (Sp.okPts l a):=by unfold Sp.okPts;infer_instance
namespace Sp
def inN (a:Int):Prop:=0 <= a /\ a <= 9223372036854775807
def validE (l:List Pt) (a:Int):Int:=if (l.length:Int) > 2000 then 3 else if okPts l a then 0 else 1
def okFrom (l:List Pt) (i:Nat):Prop:=∀ p ∈ l.drop i,okPt p
end Sp
instance (l:List Pt) (i:Nat):Decidable (Sp.okFrom l i):=by unfold Sp.okFrom;infer_instance
theorem ite_iff {p q:Prop} [Decidable p] [Decidable q] {a b:Int} (h:p ↔ q):(if p then a else b) = if q then a else b:=by
 by_cases k:q
 ·rw [if_pos k,if_pos (h.2 k)]
 ·rw [if_neg k,if_neg fun x => k (h.1 x)]
theorem okFrom_iff {l:List Pt} {i:Nat} (h:i < l.length):Sp.okFrom l i ↔ Sp.okPt (l.getD i default) /\ Sp.okFrom l (i + 1):=by
 unfold Sp.okFrom
 rw [drop_getD h]
 exact List.forall_mem_cons
theorem okFrom_end {l:List Pt} {i:Nat} (h:l.length <= i):Sp.okFrom l i:=by
 unfold Sp.okFrom
 rw [List.drop_eq_nil_of_le h]
 exact fun p hp => nomatch hp
theorem okPts_from {l:List Pt} {a:Int}:Sp.okPts l a ↔ Sp.isAcc a /\ Sp.okFrom l 0:=Iff.rfl
theorem small_cnt {a:Int} (h:Sp.inN a):Sp.cnt a.natAbs <= 3:=by
 refine fits_cnt.1 ?_
 unfold Sp.fits
 unfold Sp.inN at h
 have:(1000000000:Nat) ^ 3 = 1000000000000000000000000000:=rfl
 omega
theorem int64_loop {fa:Bool} {a:Int} {dq:AV} (h:Sp.inN a) (hq:AV.tup [.int .i64 a,.bool true] = dq):∀ (k:Nat),k <= Sp.cnt a.natAbs -> kInt64H_at fa a ((a.natAbs / 1000000000 ^ k:Nat):Int) ((k:Int) - 1) (PureQ dq)
 | 0,_ => by
  have e:((a.natAbs / 1000000000 ^ 0:Nat):Int) = a:=by
   unfold Sp.inN at h
   rw [Nat.pow_zero,Nat.div_one];omega
  have hn:¬Sp.isNeg a = true:=fun x => by rw [isNeg_iff] at x;unfold Sp.inN at h;omega
  refine kInt64H _ _ _ _ _ ⟨fun x => by omega,fun _ => ⟨fun x => absurd x hn,fun _ => ?_⟩⟩
  rw [e]
  unfold Sp.inN at h
  exact ⟨by omega,hq⟩
 | k + 1,hk => by
  have c3:=small_cnt h
  have e1:(((k + 1:Nat):Int) - 1).toNat = k:=by omega
  have e2:((k + 1:Nat):Int) - 1 - 1 = (k:Int) - 1:=by omega
  have ea:a.natAbs <= 9223372036854775807:=by unfold Sp.inN at h;omega
  have d0:a.natAbs / 1000000000 ^ k <= a.natAbs:=Nat.div_le_self _ _
  have d1:a.natAbs / 1000000000 ^ (k + 1) = a.natAbs / 1000000000 ^ k / 1000000000:=by rw [Nat.pow_succ,Nat.div_div_eq_div_mul]
  have g:=int64_loop (fa:=fa) h hq k (by omega)
  refine kInt64H _ _ _ _ _ ⟨fun x => ?_,fun x => by omega⟩
  rw [e1,e2,show Sp.limI a = Sp.limN (Sp.cnt a.natAbs) a.natAbs from rfl,limN_getD _ (by omega),limN_len,d1]
  generalize a.natAbs / 1000000000 ^ k = w at *
  have ew:((w / 1000000000:Nat):Int) * 1000000000 + ((w % 1000000000:Nat):Int) = (w:Int):=by omega
  rw [ew]
  exact ⟨by omega,by omega,by omega,by omega,by omega,by omega,g⟩
theorem ev118 (fa:Bool) (a:Int) (h:Sp.inN a):Ev M1 (.pure 118 [bigA fa a]) (.tup [.int .i64 a,.bool true]) []:=by
 have c3:=small_cnt h
 have ob:Sp.okB a:=by unfold Sp.okB;omega
 have o1:Sp.okB (-9223372036854775808):=(by unfold Sp.okB;have:=@small_cnt 9223372036854775807 (by unfold Sp.inN;omega);have e:Sp.cnt (Int.natAbs (-9223372036854775808)) <= 3:=fits_cnt.1 (by unfold Sp.fits;decide);omega)
 have o2:Sp.okB 9223372036854775807:=(by unfold Sp.okB;have:=@small_cnt 9223372036854775807 (by unfold Sp.inN;omega);omega)
 have hl:(Sp.limI a).length = Sp.cnt a.natAbs:=limI_len a
 have hn:=h
 unfold Sp.inN at hn
 have g:=int64_loop (fa:=fa) h rfl (Sp.cnt a.natAbs) (Nat.le_refl _)
 rw [fits_div (fits_self a.natAbs) (Nat.le_refl _)] at g
 have s1:¬Sp.sgnI (a - -9223372036854775808) < 0:=by
  unfold Sp.sgnI
  (repeat' split) <;> omega
 have s2:¬Sp.sgnI (a - 9223372036854775807) > 0:=by
  unfold Sp.sgnI
  (repeat' split) <;> omega
 refine call118 (kInt64 _ _ _ ⟨by unfold Sp.inI;omega,_,ev76 fa false a (-9223372036854775808) ⟨ob,o1⟩,fun _ => by unfold Sp.inI;omega,_,fun _ => ev76 fa false a 9223372036854775807 ⟨ob,o2⟩,fun x => absurd x (fun y => y.elim s1 s2),fun _ => ?_⟩)
 rw [hl]
 exact ⟨by omega,g⟩
theorem sq_small {n:Int} (h:Sp.okNs n):0 <= Sp.sq n /\ Sp.sq n <= 2000000000 /\ Sp.sq n * Sp.sq n <= n /\ n < (Sp.sq n + 1) * (Sp.sq n + 1):=by
 obtain ⟨a,b,c⟩:=sq_low h.1
 refine ⟨c,?_,a,b⟩
 apply Classical.byContradiction
 intro x
 have:=(sq_ge (a:=2000000001) (by omega) h.1).1 (by omega)
 have:=h.2
 omega
theorem af_ok {n u v:Int} (h:Sp.isV n /\ Sp.isLen u /\ Sp.isAcc v):(0 <= n * n /\ n * n <= 1000000000000) /\ (0 <= 2 * v * u /\ 2 * v * u <= 20000000000000000) /\ Sp.okNs (n * n + 2 * v * u):=by
 unfold Sp.isV Sp.isLen Sp.isAcc at h
 have a:=nn_sq n
 have b:n * n <= 1000000 * 1000000:=sq_le_sq (by omega) (by omega)
 have c:0 <= 2 * v * u:=Int.mul_nonneg (by omega) (by omega)
 have d:2 * v * u <= 200000000 * 100000000:=Int.mul_le_mul (by omega) (by omega) (by omega) (by omega)
 unfold Sp.okNs
 omega
theorem valid_loop {fl:Bool} {l:List Pt} {dq:AV} (hl:(l.length:Int) <= 2000):∀ (k i:Nat),i + k = l.length -> AV.int .i64 (if Sp.okFrom l i then 0 else 1) = dq -> kValidH_at fl l l.length i (PureQ dq)
 | 0,i,h,hq => by
  have e:=okFrom_end (l:=l) (i:=i) (by omega)
  refine kValidH _ _ _ _ _ ⟨fun x => by omega,fun _ => ?_⟩
  rw [if_pos e] at hq;exact hq
 | k + 1,i,h,hq => by
  have e:=okFrom_iff (l:=l) (i:=i) (by omega)
  refine kValidH _ _ _ _ _ ⟨fun x => ?_,fun x => by omega⟩
  rw [Int.toNat_natCast]
  refine ⟨by omega,by omega,fun y => ?_,fun y => ⟨by omega,?_⟩⟩
  ·rw [if_neg] at hq
   ·exact hq
   ·rw [e]
    intro z
    have z:=z.1
    unfold Sp.okPt Sp.isLen Sp.isV at z
    omega
  ·rw [show (i:Int) + 1 = ((i + 1:Nat):Int) by omega]
   refine valid_loop hl k (i + 1) (by omega) ?_
   rw [<- hq]
   congr 1
   have z:Sp.okPt (l.getD i default):=by unfold Sp.okPt Sp.isLen Sp.isV;omega
   refine ite_iff ?_
   rw [e]
   exact ⟨fun w => ⟨z,w⟩,fun v => v.2⟩
theorem ev55 (fl:Bool) (l:List Pt) (a:Int):Ev M1 (.pure 55 [.vec fl 3 (l.map Pt.a),.int .i64 a]) (.int .i64 (Sp.validE l a)) []:=by
 refine call55 (kValid _ _ _ _ ⟨fun x => by unfold Sp.validE;rw [if_pos x],fun x => ?_⟩)
 unfold Sp.validE
 rw [if_neg x]
 refine ⟨fun y => by rw [if_neg fun z => y z.1],fun y => valid_loop (by omega) l.length 0 (by omega) ?_⟩
 congr 1
 by_cases k:Sp.okPts l a
 ·rw [if_pos k,if_pos]
  exact (okPts_from.1 k).2
 ·rw [if_neg k,if_neg]
  intro z
  exact k (okPts_from.2 ⟨Classical.not_not.1 y,z⟩)
theorem ev26 (x y z:Int):Ev M1 (.pure 26 [.agg [.int .i64 x,.int .i64 y,.int .i64 z]]) (.bool (decide (¬Sp.inP x y z))) []:=by
 refine call26 (kFar _ _ _ _ ?_)
 refine kFarH _ _ _ _ _ ⟨fun _ => ⟨by omega,by decide,by show 0 < 3;omega,fun a => ?_,fun a => ⟨by omega,?_⟩⟩,fun k => absurd k (by decide)⟩
 ·rw [decide_eq_true];exact fun k => a k.1
 refine kFarH _ _ _ _ _ ⟨fun _ => ⟨by omega,by decide,by show 1 < 3;omega,fun b => ?_,fun b => ⟨by omega,?_⟩⟩,fun k => absurd k (by decide)⟩
 ·rw [decide_eq_true];exact fun k => b k.2.1
 refine kFarH _ _ _ _ _ ⟨fun _ => ⟨by omega,by decide,by show 2 < 3;omega,fun c => ?_,fun c => ⟨by omega,?_⟩⟩,fun k => absurd k (by decide)⟩
 ·rw [decide_eq_true];exact fun k => c k.2.2
 refine kFarH _ _ _ _ _ ⟨fun k => absurd k (by decide),fun _ => ?_⟩
 rw [decide_eq_false]
 exact fun k => k ⟨Classical.not_not.1 a,Classical.not_not.1 b,Classical.not_not.1 c⟩
end Go.Av

namespace Go.Av
open Go.Proofs
set_option maxRecDepth 100000
def fi23:Fi:=⟨26,[.tmp 4]⟩
def kp23:List (Nat × List Nat):=[(0,[0,1]),(1,[0,1,10]),(2,[4]),(3,[0,1,12,13]),(4,[0,1,12,13,14]),(5,[0,1,5,12,13]),(6,[0,1,12,13,24]),(7,[4]),(8,[0,1,12,13]),(9,[4])]
def fi87:Fi:=⟨21,[.tmp 2]⟩
def kp87:List (Nat × List Nat):=[(0,[0]),(1,[3,4]),(2,[3,14]),(3,[2]),(4,[5]),(5,[2])]
def kSqrt_at (n:Int) (Q:AV -> Heap -> Prop):Prop:=Wp M1 (.run fi87 (atC (cd Tryz.f87) []) [(0,.int .i64 n)] []) Q
def kEq_at (f g:Bool) (s t:List Int) (Q:AV -> Heap -> Prop):Prop:=Wp M1 (.run fi23 (atC (cd Tryz.f23) []) [(0,.vec f 1 (s.map (.int .i64))),(1,.vec g 1 (t.map (.int .i64)))] []) Q
def kEqH_at (f g:Bool) (s t:List Int) (n i:Int) (Q:AV -> Heap -> Prop):Prop:=Wp M1 (.run fi23 (atC (cd Tryz.f23) [1,1,0,1,0,0]) [(0,.vec f 1 (s.map (.int .i64))),(1,.vec g 1 (t.map (.int .i64))),(12,.int .i64 n),(13,.int .i64 i)] []) Q
theorem call23 {args:List AV} {d:AV} (h:wc M1 fi23 Tryz.f23 args d):Ev M1 (.pure 23 args) d []:=pcl _ _ (by kernel_rfl) h
theorem call87 {args:List AV} {d:AV} (h:wc M1 fi87 Tryz.f87 args d):Ev M1 (.pure 87 args) d []:=pcl _ _ (by kernel_rfl) h
theorem kSqrt (n:Int)  (dq:AV) (H :
  (Sp.inI n) /\
  (Sp.okS n) /\
  ((¬Sp.sqe n = 0) -> vi 0 = dq) /\
  (¬(¬Sp.sqe n = 0) -> (Sp.inN (Sp.sq n)) /\
   vi (Sp.sq n) = dq)) :
 kSqrt_at n (PureQ dq):=by
 unfold kSqrt_at
 obtain ⟨k1,H⟩:=H
 obtain ⟨k2,H⟩:=H
 refine path_wp (G:=given kp87 [(1,1,.call (bigA false n) none),(1,2,.call (tu [bigA false (Sp.sq n),vi (Sp.sqe n)]) none)] []) 7 [] ⟨(atC (cd Tryz.f87) [1,1,0,1]),[(3,AV.ptr 0 0 0 0),(14,vb (Sp.sqe n != 0))],[⟨[bigA false (Sp.sq n)],2,0,false,false⟩],_,[],_⟩ (by kernel_rfl) (bc rfl b0) q0 (ce (@ev72 (n) k1) (ce (@ev117 (false) (n) k2) c0)) ?_
 rcases xm (¬Sp.sqe n = 0) with d4 | d4
 ·have H:=H.1 d4
  exact path_re (G:=given kp87 [] []) 1000 [true] (vi 0) (by kernel_rfl) (bc (beq_t (i_ne.2 d4)) b0) q0 c0 H
 ·have H:=H.2 d4
  obtain ⟨k5,H⟩:=H
  exact path_re (G:=given kp87 [(4,1,.call (tu [vi (Sp.sq n),vb true]) none)] []) 1000 [false] (vi (Sp.sq n)) (by kernel_rfl) (bc (beq_f (fun h => d4 (i_ne.1 h))) (bc rfl b0)) q0 (ce (@ev118 (false) (Sp.sq n) k5) c0) H
theorem kEq (f g:Bool) (s t:List Int)  (dq:AV) (H :
  ((¬(↑s.length:Int) = (↑t.length:Int)) -> vb false = dq) /\
  (¬(¬(↑s.length:Int) = (↑t.length:Int)) -> kEqH_at (f) (g) (s) (t) ((↑s.length:Int)) (0) (PureQ dq))) :
 kEq_at f g s t (PureQ dq):=by
 unfold kEq_at
 have w1:(List.map (vi) s).length = s.length:=List.length_map ..
 have w2:(List.map (vi) t).length = t.length:=List.length_map ..
 have i3:((↑(List.map (vi) s).length:Int) != (↑(List.map (vi) t).length:Int)) = true ↔ (¬(↑s.length:Int) = (↑t.length:Int)):=(by (try rw [w1]);(try rw [w2]);all_goals exact i_ne)
 rcases xm (¬(↑s.length:Int) = (↑t.length:Int)) with d4 | d4
 ·have H:=H.1 d4
  exact path_re (G:=given kp23 [] []) 1000 [true] (vb false) (by kernel_rfl) (bc (beq_t (i3.2 d4)) b0) q0 c0 H
 ·have H:=H.2 d4
  exact path_wp (G:=given kp23 [] []) 1000 [false] ⟨(atC (cd Tryz.f23) [1,1,0,1,0,0]),[(0,AV.vec f 1 (List.map (vi) s)),(1,AV.vec g 1 (List.map (vi) t)),(12,vi (↑(List.map (vi) s).length:Int)),(13,vi 0)],[],_,[],_⟩ (by kernel_rfl) (bc (beq_f (fun h => d4 (i3.1 h))) b0) q0 c0 (by (try rw [w1]);all_goals exact H)
theorem kEqH (f g:Bool) (s t:List Int) (n i:Int)  (dq:AV) (H :
  ((i < n) -> (0 <= i) /\
   (i.toNat < s.length) /\
   (i.toNat < t.length) /\
   ((¬s.getD i.toNat default = t.getD i.toNat default) -> vb false = dq) /\
   (¬(¬s.getD i.toNat default = t.getD i.toNat default) -> (-9223372036854775808 <= i + 1 /\ i + 1 <= 9223372036854775807) /\
    kEqH_at (f) (g) (s) (t) (n) (i + 1) (PureQ dq))) /\
  (¬(i < n) -> vb true = dq)) :
 kEqH_at f g s t n i (PureQ dq):=by
 unfold kEqH_at
 rcases xm (i < n) with d2 | d2
 ·have H:=H.1 d2
  obtain ⟨k4,H⟩:=H
  have w5:(List.map (vi) s).length = s.length:=List.length_map ..
  have i6:(decide (i.toNat < (List.map (vi) s).length)) = true ↔ (i.toNat < s.length):=(by (try rw [w5]);all_goals exact i_dec)
  obtain ⟨k7,H⟩:=H
  have w9:(List.map (vi) t).length = t.length:=List.length_map ..
  have i10:(decide (i.toNat < (List.map (vi) t).length)) = true ↔ (i.toNat < t.length):=(by (try rw [w9]);all_goals exact i_dec)
  obtain ⟨k11,H⟩:=H
  refine path_wp (G:=given kp23 [(6,3,.elem (vi (s.getD i.toNat default))),(6,7,.elem (vi (t.getD i.toNat default)))] []) 11 [true] ⟨(atC (cd Tryz.f23) [1,1,0,1,0,0,1,1,0,0,1,1]),[(0,AV.vec f 1 (List.map (vi) s)),(1,AV.vec g 1 (List.map (vi) t)),(12,vi n),(13,vi i),(24,vb (s.getD i.toNat default != t.getD i.toNat default))],[],_,[((List.map (vi) s).get?Internal i.toNat = some (vi (s.getD i.toNat default))),((List.map (vi) t).get?Internal i.toNat = some (vi (t.getD i.toNat default)))],_⟩ (by kernel_rfl) (bc (beq_t (i_dec.2 d2)) (bc (i_dec.2 k4) (bc (i6.2 k7) (bc (i_dec.2 k4) (bc (i10.2 k11) b0))))) (qc (el_map k7) (qc (el_map k11) q0)) c0 ?_
  rcases xm (¬s.getD i.toNat default = t.getD i.toNat default) with d13 | d13
  ·have H:=H.1 d13
   exact path_re (G:=given kp23 [] []) 1000 [true] (vb false) (by kernel_rfl) (bc (beq_t (i_ne.2 d13)) b0) q0 c0 H
  ·have H:=H.2 d13
   obtain ⟨k14,H⟩:=H
   have w15:wi (i + 1) = i + 1:=wI64 k14
   exact path_wp (G:=given kp23 [] []) 1000 [false] ⟨(atC (cd Tryz.f23) [1,1,0,1,0,0]),[(0,AV.vec f 1 (List.map (vi) s)),(1,AV.vec g 1 (List.map (vi) t)),(12,vi n),(13,vi (wi (i + 1)))],[],_,[],_⟩ (by kernel_rfl) (bc (beq_f (fun h => d13 (i_ne.1 h))) b0) q0 c0 (by (try rw [w15]);all_goals exact H)
 ·have H:=H.2 d2
  exact path_re (G:=given kp23 [] []) 1000 [false] (vb true) (by kernel_rfl) (bc (beq_f (fun h => d2 (i_dec.1 h))) b0) q0 c0 H
end Go.Av

namespace Go.Av
open Go.Proofs
namespace Sp
def bs (p:Int -> Bool):Nat -> Int -> Int -> Int
 | 0,i,_ => i
 | k + 1,i,j => bif decide (i < j) then (bif p ((i + j) / 2) then bs p k i ((i + j) / 2) else bs p k ((i + j) / 2 + 1) j) else i
def isS (p:Int -> Bool) (h r:Int):Prop:=0 <= r /\ r <= h /\ (r = 0 \/ p (r - 1) = false) /\ (r = h \/ p r = true)
end Sp
theorem bs_done {p:Int -> Bool} {k:Nat} {i j:Int} (h:¬i < j):Sp.bs p k i j = i:=by
 cases k with
 | zero => rfl
 | succ k => unfold Sp.bs;rw [decide_eq_false h,cond_false]
theorem bs_spec {p:Int -> Bool} {h:Int}:∀ (k:Nat) {i j:Int},j - i < 2 ^ k -> 0 <= i -> i <= j -> j <= h -> (i = 0 \/ p (i - 1) = false) -> (j = h \/ p j = true) -> Sp.isS p h (Sp.bs p k i j)
 | 0,i,j,a,b,c,d,e,f => by
  have:i = j:=by omega
  subst this
  exact ⟨b,d,e,f⟩
 | k + 1,i,j,a,b,c,d,e,f => by
  by_cases n:i < j
  ·unfold Sp.bs
   rw [decide_eq_true n,cond_true]
   rw [Int.pow_succ] at a
   cases m:p ((i + j) / 2) with
   | true =>
    rw [cond_true]
    exact bs_spec k (by omega) b (by omega) (by omega) e (.inr m)
   | false =>
    rw [cond_false]
    exact bs_spec k (by omega) (by omega) (by omega) d (.inr (by rw [Int.add_sub_cancel];exact m)) f
  ·rw [bs_done n]
   have:i = j:=by omega
   subst this
   exact ⟨b,d,e,f⟩
theorem bs_all {p:Int -> Bool} {h:Int} (h0:0 <= h) (hk:h < 2 ^ 40):Sp.isS p h (Sp.bs p 40 0 h):=
 bs_spec 40 (by omega) (by omega) h0 (by omega) (.inl rfl) (.inl rfl)
theorem bs_step {p:Int -> Bool} {k:Nat} {i j:Int} (h:i < j):Sp.bs p (k + 1) i j = bif p ((i + j) / 2) then Sp.bs p k i ((i + j) / 2) else Sp.bs p k ((i + j) / 2 + 1) j:=by
 rw [Sp.bs,decide_eq_true h,cond_true]
theorem bs_sum {R:Int -> Rat} {H t a b:Int} {x y:Rat} {pt pa pb:Int -> Bool} (hm:∀ i j,0 <= i -> i <= j -> R i <= R j) (hs:∀ i j,0 <= i -> 0 <= j -> R i + R j <= R (i + j))
  (ep:∀ i,0 <= i -> i <= H -> (pt i = true ↔ x + y <= R i)) (ea:∀ i,0 <= i -> i <= H -> (pa i = true ↔ x <= R i)) (eb:∀ i,0 <= i -> i <= H -> (pb i = true ↔ y <= R i))
  (ht:Sp.isS pt H t) (ha:Sp.isS pa H a) (hb:Sp.isS pb H b):t <= a + b:=by
 obtain ⟨t0,t1,t2,t3⟩:=ht
 obtain ⟨a0,a1,a2,a3⟩:=ha
 obtain ⟨b0,b1,b2,b3⟩:=hb
 rcases a3 with a3 | a3
 ·omega
 rcases b3 with b3 | b3
 ·omega
 apply Classical.byContradiction
 intro n
 have a4:=(ea a a0 a1).1 a3
 have b4:=(eb b b0 b1).1 b3
 rcases t2 with t2 | t2
 ·omega
 have e:=hs a b a0 b0
 have f:=hm (a + b) (t - 1) (by omega) (by omega)
 have g:=(ep (t - 1) (by omega) (by omega)).2 (by grind)
 rw [t2] at g
 exact absurd g (by decide)
end Go.Av

namespace Go.Av
open Go.Proofs
theorem ev87 (n:Int) (h:Sp.okNs n):Ev M1 (.pure 87 [.int .i64 n]) (.int .i64 (Sp.sq n)) []:=by
 obtain ⟨a,b,c,d⟩:=sq_small h
 unfold Sp.okNs at h
 have e:Sp.sqe n = 0:=by unfold Sp.sqe;rw [if_neg (by omega)]
 have k:=@small_cnt n (by unfold Sp.inN;omega)
 exact call87 (kSqrt _ _ ⟨by unfold Sp.inI;omega,by unfold Sp.okS;omega,fun x => absurd e x,fun _ => ⟨by unfold Sp.inN;omega,rfl⟩⟩)
namespace Sp
def fastE (n u v:Int):Int:=if isV n /\ isLen u /\ isAcc v then 0 else 1
noncomputable def fastV (n u v:Int):Int:=if isV n /\ isLen u /\ isAcc v then af (2 * v * u) n else 0
end Sp
namespace Sp
def chk (l:List Pt) (a:Int) (s:List Int) (i:Nat):Prop:=
 (0 <= s.getD i default /\ s.getD i default <= (l.getD i default).spd) /\ (0 <= s.getD (i + 1) default /\ s.getD (i + 1) default <= (l.getD i default).spd /\ s.getD (i + 1) default <= (l.getD i default).cor) /\
 s.getD i default * s.getD i default - s.getD (i + 1) default * s.getD (i + 1) default <= kA l a i /\ s.getD (i + 1) default * s.getD (i + 1) default - s.getD i default * s.getD i default <= kA l a i
def chkFrom (l:List Pt) (a:Int) (s:List Int) (i:Nat):Prop:=∀ j,j < l.length -> i <= j -> chk l a s j
def ends (l:List Pt) (s:List Int):Prop:=s.length = l.length + 1 /\ s.getD 0 default = 0 /\ s.getD l.length default = 0
def feas (l:List Pt) (a:Int) (s:List Int):Prop:=validE l a = 0 /\ ends l s /\ chkFrom l a s 0
end Sp
instance (l:List Pt) (a:Int) (s:List Int) (i:Nat):Decidable (Sp.chk l a s i):=by unfold Sp.chk;infer_instance
instance (l:List Pt) (a:Int) (s:List Int) (i:Nat):Decidable (Sp.chkFrom l a s i):=by unfold Sp.chkFrom;infer_instance
instance (l:List Pt) (s:List Int):Decidable (Sp.ends l s):=by unfold Sp.ends;infer_instance
instance (l:List Pt) (a:Int) (s:List Int):Decidable (Sp.feas l a s):=by unfold Sp.feas;infer_instance
theorem validE_ok {l:List Pt} {a:Int} (h:Sp.validE l a = 0):(l.length:Int) <= 2000 /\ Sp.okPts l a:=by
 unfold Sp.validE at h
 split at h
 ·omega
 ·split at h
  ·exact ⟨by omega,by assumption⟩
  ·omega
theorem min_if (x b:Int):(if x < b then x else b) = min b x:=by split <;> omega
namespace Sp
noncomputable def spdV (l:List Pt) (a:Int):List Int:=if validE l a = 0 then spds l a else []
end Sp
theorem weak_nil2 {e:Int}:Weak (AV.tup [AV.vnil,AV.int .i64 e]) (AV.tup [AV.vec false 1 [],AV.int .i64 e]):=by
 refine .tup _ _ rfl fun i x y hx hy => ?_
 match i with
 | 0 => simp at hx hy;subst hx;subst hy;exact .vnil 1
 | 1 => simp at hx hy;subst hx;subst hy;exact .refl _
 | i + 2 => simp at hx
theorem eq_loop {f g:Bool} {s t:List Int} {dq:AV} (h:s.length = t.length) (hs:(s.length:Int) <= 1000000000):∀ (k i:Nat),i + k = s.length -> AV.bool (decide (s.drop i = t.drop i)) = dq -> kEqH_at f g s t s.length i (PureQ dq)
 | 0,i,e,hq => by
  refine kEqH _ _ _ _ _ _ _ ⟨fun x => by omega,fun _ => ?_⟩
  rw [List.drop_eq_nil_of_le (by omega),List.drop_eq_nil_of_le (by omega)] at hq
  exact hq
 | k + 1,i,e,hq => by
  rw [drop_getD (d:=s) (i:=i) (by omega),drop_getD (d:=t) (i:=i) (by omega)] at hq
  refine kEqH _ _ _ _ _ _ _ ⟨fun x => ?_,fun x => by omega⟩
  rw [Int.toNat_natCast]
  refine ⟨by omega,by omega,by omega,fun y => ?_,fun y => ⟨by omega,?_⟩⟩
  ·rw [decide_eq_false (fun z => y (List.cons.inj z).1)] at hq;exact hq
  ·rw [show (i:Int) + 1 = ((i + 1:Nat):Int) by omega]
   refine eq_loop h hs k (i + 1) (by omega) ?_
   rw [<- hq]
   congr 1
   refine dec_iff ⟨fun z => ?_,fun z => (List.cons.inj z).2⟩
   rw [Classical.not_not.1 y,z]
theorem ev23 (f g:Bool) (s t:List Int) (h:(s.length:Int) <= 1000000000):Ev M1 (.pure 23 [.vec f 1 (s.map (.int .i64)),.vec g 1 (t.map (.int .i64))]) (.bool (decide (s = t))) []:=by
 refine call23 (kEq _ _ _ _ _ ⟨fun x => ?_,fun x => ?_⟩)
 ·rw [decide_eq_false]
  intro e
  exact x (by rw [e])
 ·exact eq_loop (by omega) h s.length 0 (by omega) rfl
end Go.Av

namespace Go.Av
open Go.Proofs
set_option maxRecDepth 100000
def fi43:Fi:=⟨9,[.tmp 2]⟩
def kp43:List (Nat × List Nat):=[(0,[1]),(1,[1,6]),(2,[2]),(3,[8]),(4,[2]),(5,[2])]
def fi80:Fi:=⟨21,[.tmp 2]⟩
def kp80:List (Nat × List Nat):=[(0,[0]),(1,[0,14]),(2,[0]),(3,[2])]
def fi81:Fi:=⟨41,[.tmp 4]⟩
def kp81:List (Nat × List Nat):=[(0,[0,1]),(1,[0,1,10]),(2,[15]),(3,[4]),(4,[4]),(5,[0,1,5]),(6,[0,1,5,20]),(7,[0,1,5]),(8,[0,1,5,31]),(9,[4]),(10,[0,1,5,40]),(11,[4]),(12,[4])]
def fi84:Fi:=⟨21,[.tmp 2]⟩
def kp84:List (Nat × List Nat):=[(0,[0]),(1,[0,3]),(2,[0,3,4]),(3,[0,3,4,9]),(4,[0,3,4]),(5,[0,3,4]),(6,[2])]
def fi85:Fi:=⟨15,[.tmp 2]⟩
def kp85:List (Nat × List Nat):=[(0,[0]),(1,[0,3]),(2,[0,3,5]),(3,[0,3]),(4,[0,3]),(5,[2])]
def rTrim_at (fa:Bool) (a:List Int) (Q:AV -> Heap -> Prop):Prop:=Wp M1 (.run fi80 (atC (cd Tryz.f80) []) [(0,.vec fa 1 (a.map (.int .u32)))] []) Q
def rTrimA_at (fa:Bool) (a:List Int) (Q:AV -> Heap -> Prop):Prop:=Wp M1 (.run fi80 (atC (cd Tryz.f80) [1,0,0,0]) [(0,.vec fa 1 (a.map (.int .u32)))] []) Q
def rLimbs_at (u:Int) (Q:AV -> Heap -> Prop):Prop:=Wp M1 (.run fi85 (atC (cd Tryz.f85) []) [(0,.int .u64 u)] []) Q
def rLimbs0_at (u:Int) (Q:AV -> Heap -> Prop):Prop:=Wp M1 (.run fi85 (atC (cd Tryz.f85) [1,1,0,0,0]) [(0,.int .u64 u),(3,.vnil)] []) Q
def rLimbsA_at (u:Int) (o:List Int) (v:Nat) (Q:AV -> Heap -> Prop):Prop:=Wp M1 (.run fi85 (atC (cd Tryz.f85) [1,1,0,0,0]) [(0,.int .u64 u),(3,.row 0 v)] [⟨o.map (.int .u32),1,v,false,true⟩]) Q
def rShort_at (fa:Bool) (a:List Int) (Q:AV -> Heap -> Prop):Prop:=Wp M1 (.run fi84 (atC (cd Tryz.f84) []) [(0,.vec fa 1 (a.map (.int .u32)))] []) Q
def rShortA_at (fa:Bool) (a:List Int) (n i:Int) (Q:AV -> Heap -> Prop):Prop:=Wp M1 (.run fi84 (atC (cd Tryz.f84) [1,1,0,1,0,0]) [(0,.vec fa 1 (a.map (.int .u32))),(3,.int .u64 n),(4,.int .i64 i)] []) Q
def rCompare_at (fa fb:Bool) (a b:List Int) (Q:AV -> Heap -> Prop):Prop:=Wp M1 (.run fi81 (atC (cd Tryz.f81) []) [(0,.vec fa 1 (a.map (.int .u32))),(1,.vec fb 1 (b.map (.int .u32)))] []) Q
def rCompareA_at (fa fb:Bool) (a b:List Int) (i:Int) (Q:AV -> Heap -> Prop):Prop:=Wp M1 (.run fi81 (atC (cd Tryz.f81) [1,1,0,1,0,0]) [(0,.vec fa 1 (a.map (.int .u32))),(1,.vec fb 1 (b.map (.int .u32))),(5,.int .i64 i)] []) Q
def rSign_at (fa:Bool) (v:Int) (Q:AV -> Heap -> Prop):Prop:=Wp M1 (.run fi43 (atC (cd Tryz.f43) []) [(0,bigA fa v)] []) Q
theorem call43 {args:List AV} {d:AV} (h:wc M1 fi43 Tryz.f43 args d):Ev M1 (.pure 43 args) d []:=pcl _ _ (by kernel_rfl) h
theorem call80 {args:List AV} {d:AV} (h:wc M1 fi80 Tryz.f80 args d):Ev M1 (.pure 80 args) d []:=pcl _ _ (by kernel_rfl) h
theorem call81 {args:List AV} {d:AV} (h:wc M1 fi81 Tryz.f81 args d):Ev M1 (.pure 81 args) d []:=pcl _ _ (by kernel_rfl) h
theorem call84 {args:List AV} {d:AV} (h:wc M1 fi84 Tryz.f84 args d):Ev M1 (.pure 84 args) d []:=pcl _ _ (by kernel_rfl) h
theorem call85 {args:List AV} {d:AV} (h:wc M1 fi85 Tryz.f85 args d):Ev M1 (.pure 85 args) d []:=pcl _ _ (by kernel_rfl) h
theorem rTrim (fa:Bool) (a:List Int)  (dq:AV) (H :
  rTrimA_at (fa) (a) (PureQ dq)) :
 rTrim_at fa a (PureQ dq):=by
 unfold rTrim_at
 exact path_wp (G:=given kp80 [] []) 1000 [] ⟨(atC (cd Tryz.f80) [1,0,0,0]),[(0,AV.vec fa 1 (us a))],[],_,[],_⟩ (by kernel_rfl) b0 q0 c0 (H)
theorem rTrimA (fa:Bool) (a:List Int)  (dq:AV) (H :
  (-9223372036854775808 <= (↑a.length:Int) - 1 /\ (↑a.length:Int) - 1 <= 9223372036854775807) /\
  (((↑a.length:Int) > 0) -> (0 <= (↑a.length:Int) - 1)) /\
  (((↑a.length:Int) > 0) -> (((↑a.length:Int) - 1).toNat < a.length)) /\
  ((((↑a.length:Int) > 0) /\ (a.getD ((↑a.length:Int) - 1).toNat default = 0)) -> (0 <= (↑a.length:Int) - 1) /\
   (0 <= ((↑a.length:Int) - 1).toNat) /\
   (((↑a.length:Int) - 1).toNat <= a.length) /\
   rTrimA_at (fa && false) (List.drop 0 (List.take ((↑a.length:Int) - 1).toNat a)) (PureQ dq)) /\
  (¬(((↑a.length:Int) > 0) /\ (a.getD ((↑a.length:Int) - 1).toNat default = 0)) -> Weak (AV.vec fa 1 (us a)) dq)) :
 rTrimA_at fa a (PureQ dq):=by
 unfold rTrimA_at
 have w1:(us a).length = a.length:=List.length_map ..
 obtain ⟨k2,H⟩:=H
 have w3:wi ((↑a.length:Int) - 1) = (↑a.length:Int) - 1:=wI64 k2
 have i4:(!(decide ((↑(us a).length:Int) > 0) == true && true) || decide (0 <= wi ((↑(us a).length:Int) - 1))) = true ↔ (((↑a.length:Int) > 0) -> (0 <= (↑a.length:Int) - 1)):=(by (try rw [w1]);(try rw [w3]);all_goals exact (i_imp (i_at (i_bt i_dec)) i_dec))
 obtain ⟨k5,H⟩:=H
 have i6:(!(decide ((↑(us a).length:Int) > 0) == true && true) || decide ((wi ((↑(us a).length:Int) - 1)).toNat < (us a).length)) = true ↔ (((↑a.length:Int) > 0) -> (((↑a.length:Int) - 1).toNat < a.length)):=(by (try rw [w1]);(try rw [w3]);all_goals exact (i_imp (i_at (i_bt i_dec)) i_dec))
 obtain ⟨k7,H⟩:=H
 have i9:(bif decide ((↑(us a).length:Int) > 0) then a.getD ((↑a.length:Int) - 1).toNat default == 0 else false) = true ↔ (((↑a.length:Int) > 0) /\ (a.getD ((↑a.length:Int) - 1).toNat default = 0)):=(by (try rw [w1]);all_goals exact (i_band i_dec i_eq))
 refine path_wp (G:=given kp80 [(1,9,.elem (vu (a.getD ((↑a.length:Int) - 1).toNat default)))] []) 3 [] ⟨(atC (cd Tryz.f80) [1,0,0,0,0,1]),[(0,AV.vec fa 1 (us a)),(14,vb (bif decide ((↑(us a).length:Int) > 0) then a.getD ((↑a.length:Int) - 1).toNat default == 0 else false))],[],_,[((decide ((↑(us a).length:Int) > 0) == true && true) = true -> (us a).get?Internal (wi ((↑(us a).length:Int) - 1)).toNat = some (vu (a.getD ((↑a.length:Int) - 1).toNat default)))],_⟩ (by kernel_rfl) (bc (i4.2 k5) (bc (i6.2 k7) b0)) (qc (by (try rw [w1]);(try rw [w3]);all_goals exact (fun h => el_map (k7 ((i_at (i_bt i_dec)).1 h)))) q0) c0 ?_
 rcases xm (((↑a.length:Int) > 0) /\ (a.getD ((↑a.length:Int) - 1).toNat default = 0)) with d10 | d10
 ·have H:=H.1 d10
  have i11:(decide (0 <= wi ((↑(us a).length:Int) - 1))) = true ↔ (0 <= (↑a.length:Int) - 1):=(by (try rw [w1]);(try rw [w3]);all_goals exact i_dec)
  obtain ⟨k12,H⟩:=H
  have i13:(decide (0 <= (wi ((↑(us a).length:Int) - 1)).toNat)) = true ↔ (0 <= ((↑a.length:Int) - 1).toNat):=(by (try rw [w1]);(try rw [w3]);all_goals exact i_dec)
  obtain ⟨k14,H⟩:=H
  have i15:(decide ((wi ((↑(us a).length:Int) - 1)).toNat <= (us a).length)) = true ↔ (((↑a.length:Int) - 1).toNat <= a.length):=(by (try rw [w1]);(try rw [w3]);all_goals exact i_dec)
  obtain ⟨k16,H⟩:=H
  have w17:List.take ((↑a.length:Int) - 1).toNat (us a) = us (List.take ((↑a.length:Int) - 1).toNat a):=(lm_take rfl)
  have w18:List.drop 0 (us (List.take ((↑a.length:Int) - 1).toNat a)) = us (List.drop 0 (List.take ((↑a.length:Int) - 1).toNat a)):=(lm_drop rfl)
  exact path_wp (G:=given kp80 [] []) 1000 [true] ⟨(atC (cd Tryz.f80) [1,0,0,0]),[(0,AV.vec (fa && false) 1 (List.drop 0 (List.take (wi ((↑(us a).length:Int) - 1)).toNat (us a))))],[],_,[],_⟩ (by kernel_rfl) (bc (beq_t (i9.2 d10)) (bc (i11.2 k12) (bc (i13.2 k14) (bc (i15.2 k16) b0)))) q0 c0 (by (try rw [w1]);(try rw [w3]);(try rw [w17]);(try rw [w18]);all_goals exact H)
 ·have H:=H.2 d10
  exact path_rq (G:=given kp80 [] []) 1000 [false] (AV.vec fa 1 (us a)) (by kernel_rfl) (bc (beq_f (fun h => d10 (i9.1 h))) b0) q0 c0 H
theorem rLimbs (u:Int)  (dq:AV) (H :
  rLimbs0_at (u) (PureQ dq)) :
 rLimbs_at u (PureQ dq):=by
 unfold rLimbs_at
 exact path_wp (G:=given kp85 [] []) 1000 [] ⟨(atC (cd Tryz.f85) [1,1,0,0,0]),[(0,vw u),(3,AV.vnil)],[],_,[],_⟩ (by kernel_rfl) b0 q0 c0 (H)
theorem rLimbs0 (u:Int)  (dq:AV) (H :
  ((u > 0) -> (0 <= u.tmod 1000000000 /\ u.tmod 1000000000 <= 4294967295) /\
   (0 <= u.tdiv 1000000000 /\ u.tdiv 1000000000 <= 18446744073709551615) /\
   rLimbsA_at (u.tdiv 1000000000) ([u.tmod 1000000000]) (0) (PureQ dq)) /\
  (¬(u > 0) -> Weak (AV.vnil) dq)) :
 rLimbs0_at u (PureQ dq):=by
 unfold rLimbs0_at
 rcases xm (u > 0) with d2 | d2
 ·have H:=H.1 d2
  obtain ⟨k3,H⟩:=H
  have w4:wv (u.tmod 1000000000) = u.tmod 1000000000:=wU32 k3
  obtain ⟨k5,H⟩:=H
  have w6:wu (u.tdiv 1000000000) = u.tdiv 1000000000:=wU64 k5
  have w7:[vu (u.tmod 1000000000)] = us [u.tmod 1000000000]:=rfl
  exact path_wp (G:=given kp85 [] []) 1000 [true] ⟨(atC (cd Tryz.f85) [1,1,0,0,0]),[(0,vw (wu (u.tdiv 1000000000))),(3,AV.row 0 0)],[⟨[vu (wv (u.tmod 1000000000))],1,0,false,true⟩],_,[],_⟩ (by kernel_rfl) (bc (beq_t (i_dec.2 d2)) (bc rfl (bc rfl (bc rfl b0)))) q0 c0 (by (try rw [w4]);(try rw [w6]);(try rw [w7]);all_goals exact H)
 ·have H:=H.2 d2
  exact path_rq (G:=given kp85 [] []) 1000 [false] (AV.vnil) (by kernel_rfl) (bc (beq_f (fun h => d2 (i_dec.1 h))) b0) q0 c0 H
theorem rLimbsA (u:Int) (o:List Int) (v:Nat)  (dq:AV) (H :
  ((u > 0) -> (0 <= u.tmod 1000000000 /\ u.tmod 1000000000 <= 4294967295) /\
   ((o.length + 1) * 4 <= 1099511627776) /\
   (0 <= u.tdiv 1000000000 /\ u.tdiv 1000000000 <= 18446744073709551615) /\
   rLimbsA_at (u.tdiv 1000000000) (o ++ [u.tmod 1000000000]) (v + 1) (PureQ dq)) /\
  (¬(u > 0) -> Weak (vf (us o)) dq)) :
 rLimbsA_at u o v (PureQ dq):=by
 unfold rLimbsA_at
 rcases xm (u > 0) with d2 | d2
 ·have H:=H.1 d2
  have w3:(us o).length = o.length:=List.length_map ..
  obtain ⟨k4,H⟩:=H
  have w5:wv (u.tmod 1000000000) = u.tmod 1000000000:=wU32 k4
  have i6:(decide (((us o).length + 1) * 4 <= 1099511627776)) = true ↔ ((o.length + 1) * 4 <= 1099511627776):=(by (try rw [w3]);(try rw [w5]);all_goals exact i_dec)
  obtain ⟨k7,H⟩:=H
  have w8:us o ++ [vu (u.tmod 1000000000)] = us (o ++ [u.tmod 1000000000]):=(lm_app rfl rfl)
  obtain ⟨k9,H⟩:=H
  have w10:wu (u.tdiv 1000000000) = u.tdiv 1000000000:=wU64 k9
  exact path_wp (G:=given kp85 [] []) 1000 [true] ⟨(atC (cd Tryz.f85) [1,1,0,0,0]),[(0,vw (wu (u.tdiv 1000000000))),(3,AV.row 0 (v + 1))],[⟨us o ++ [vu (wv (u.tmod 1000000000))],1,v + 1,false,true⟩],[(decide (u > 0)) == true,true,v == v,decide (((us o).length + 1) * 4 <= 1099511627776),true],[],_⟩ (by kernel_rfl) (bc (beq_t (i_dec.2 d2)) (bc rfl (bc (beq_self_eq_true _) (bc (i6.2 k7) (bc rfl b0))))) q0 c0 (by (try rw [w5]);(try rw [w8]);(try rw [w10]);all_goals exact H)
 ·have H:=H.2 d2
  exact path_ret (G:=given kp85 [] []) 1000 [false] (k:=((atC (cd Tryz.f85) [1,1,1,1])).tail) (env':=[(2,AV.row 0 v)]) (L':=[⟨us o,1,v,false,true⟩]) (asm:=[(decide (u > 0)) == false]) (eqs:=[]) (calls:=[]) (AV.row 0 v) (by kernel_rfl) (by kernel_rfl) (allB_cons (beq_f (fun h => d2 (i_dec.1 h))) allB_nil) allP_nil allC_nil (pq_weak (d:=(vf (us o))) (bs:=[v == v]) (by kernel_rfl) (by kernel_rfl) (allB_cons (beq_self_eq_true _) allB_nil) (by kernel_rfl) H)
theorem rShort (fa:Bool) (a:List Int)  (dq:AV) (H :
  (-9223372036854775808 <= (↑a.length:Int) - 1 /\ (↑a.length:Int) - 1 <= 9223372036854775807) /\
  rShortA_at (fa) (a) (0) ((↑a.length:Int) - 1) (PureQ dq)) :
 rShort_at fa a (PureQ dq):=by
 unfold rShort_at
 have w1:(us a).length = a.length:=List.length_map ..
 obtain ⟨k2,H⟩:=H
 have w3:wi ((↑a.length:Int) - 1) = (↑a.length:Int) - 1:=wI64 k2
 exact path_wp (G:=given kp84 [] []) 1000 [] ⟨(atC (cd Tryz.f84) [1,1,0,1,0,0]),[(0,AV.vec fa 1 (us a)),(3,vw 0),(4,vi (wi ((↑(us a).length:Int) - 1)))],[],_,[],_⟩ (by kernel_rfl) b0 q0 c0 (by (try rw [w1]);(try rw [w3]);all_goals exact H)
theorem rShortA (fa:Bool) (a:List Int) (n i:Int)  (dq:AV) (H :
  ((i >= 0) -> (0 <= i) /\
   (i.toNat < a.length) /\
   (0 <= n * 1000000000 /\ n * 1000000000 <= 18446744073709551615) /\
   (0 <= a.getD i.toNat default /\ a.getD i.toNat default <= 18446744073709551615) /\
   (0 <= n * 1000000000 + a.getD i.toNat default /\ n * 1000000000 + a.getD i.toNat default <= 18446744073709551615) /\
   (-9223372036854775808 <= i - 1 /\ i - 1 <= 9223372036854775807) /\
   rShortA_at (fa) (a) (n * 1000000000 + a.getD i.toNat default) (i - 1) (PureQ dq)) /\
  (¬(i >= 0) -> vw n = dq)) :
 rShortA_at fa a n i (PureQ dq):=by
 unfold rShortA_at
 rcases xm (i >= 0) with d2 | d2
 ·have H:=H.1 d2
  obtain ⟨k4,H⟩:=H
  have w5:(us a).length = a.length:=List.length_map ..
  have i6:(decide (i.toNat < (us a).length)) = true ↔ (i.toNat < a.length):=(by (try rw [w5]);all_goals exact i_dec)
  obtain ⟨k7,H⟩:=H
  obtain ⟨k8,H⟩:=H
  have w9:wu (n * 1000000000) = n * 1000000000:=wU64 k8
  obtain ⟨k10,H⟩:=H
  have w11:wu (a.getD i.toNat default) = a.getD i.toNat default:=wU64 k10
  obtain ⟨k12,H⟩:=H
  have w13:wu (n * 1000000000 + a.getD i.toNat default) = n * 1000000000 + a.getD i.toNat default:=wU64 k12
  obtain ⟨k14,H⟩:=H
  have w15:wi (i - 1) = i - 1:=wI64 k14
  exact path_wp (G:=given kp84 [(5,5,.elem (vu (a.getD i.toNat default)))] []) 1000 [true] ⟨(atC (cd Tryz.f84) [1,1,0,1,0,0]),[(0,AV.vec fa 1 (us a)),(3,vw (wu (wu (n * 1000000000) + wu (a.getD i.toNat default)))),(4,vi (wi (i - 1)))],[],_,[((us a).get?Internal i.toNat = some (vu (a.getD i.toNat default)))],_⟩ (by kernel_rfl) (bc (beq_t (i_dec.2 d2)) (bc (i_dec.2 k4) (bc (i6.2 k7) b0))) (qc (el_map k7) q0) c0 (by (try rw [w9]);(try rw [w11]);(try rw [w13]);(try rw [w15]);all_goals exact H)
 ·have H:=H.2 d2
  exact path_re (G:=given kp84 [] []) 1000 [false] (vw n) (by kernel_rfl) (bc (beq_f (fun h => d2 (i_dec.1 h))) b0) q0 c0 H
theorem rCompare (fa fb:Bool) (a b:List Int)  (dq:AV) (H :
  ((¬(↑a.length:Int) = (↑b.length:Int)) -> (((↑a.length:Int) < (↑b.length:Int)) -> vi (-1) = dq) /\
   (¬((↑a.length:Int) < (↑b.length:Int)) -> vi 1 = dq)) /\
  (¬(¬(↑a.length:Int) = (↑b.length:Int)) -> (-9223372036854775808 <= (↑a.length:Int) - 1 /\ (↑a.length:Int) - 1 <= 9223372036854775807) /\
   rCompareA_at (fa) (fb) (a) (b) ((↑a.length:Int) - 1) (PureQ dq))) :
 rCompare_at fa fb a b (PureQ dq):=by
 unfold rCompare_at
 have w1:(us a).length = a.length:=List.length_map ..
 have w2:(us b).length = b.length:=List.length_map ..
 have i3:((↑(us a).length:Int) != (↑(us b).length:Int)) = true ↔ (¬(↑a.length:Int) = (↑b.length:Int)):=(by (try rw [w1]);(try rw [w2]);all_goals exact i_ne)
 rcases xm (¬(↑a.length:Int) = (↑b.length:Int)) with d4 | d4
 ·have H:=H.1 d4
  have i5:(decide ((↑(us a).length:Int) < (↑(us b).length:Int))) = true ↔ ((↑a.length:Int) < (↑b.length:Int)):=(by (try rw [w1]);(try rw [w2]);all_goals exact i_dec)
  rcases xm ((↑a.length:Int) < (↑b.length:Int)) with d6 | d6
  ·have H:=H.1 d6
   exact path_re (G:=given kp81 [] []) 1000 [true,true] (vi (-1)) (by kernel_rfl) (bc (beq_t (i3.2 d4)) (bc (beq_t (i5.2 d6)) b0)) q0 c0 H
  ·have H:=H.2 d6
   exact path_re (G:=given kp81 [] []) 1000 [true,false] (vi 1) (by kernel_rfl) (bc (beq_t (i3.2 d4)) (bc (beq_f (fun h => d6 (i5.1 h))) b0)) q0 c0 H
 ·have H:=H.2 d4
  obtain ⟨k7,H⟩:=H
  have w8:wi ((↑a.length:Int) - 1) = (↑a.length:Int) - 1:=wI64 k7
  exact path_wp (G:=given kp81 [] []) 1000 [false] ⟨(atC (cd Tryz.f81) [1,1,0,1,0,0]),[(0,AV.vec fa 1 (us a)),(1,AV.vec fb 1 (us b)),(5,vi (wi ((↑(us a).length:Int) - 1)))],[],_,[],_⟩ (by kernel_rfl) (bc (beq_f (fun h => d4 (i3.1 h))) b0) q0 c0 (by (try rw [w1]);(try rw [w8]);all_goals exact H)
theorem rCompareA (fa fb:Bool) (a b:List Int) (i:Int)  (dq:AV) (H :
  ((i >= 0) -> (0 <= i) /\
   (i.toNat < a.length) /\
   (i.toNat < b.length) /\
   ((a.getD i.toNat default < b.getD i.toNat default) -> vi (-1) = dq) /\
   (¬(a.getD i.toNat default < b.getD i.toNat default) -> ((a.getD i.toNat default > b.getD i.toNat default) -> vi 1 = dq) /\
    (¬(a.getD i.toNat default > b.getD i.toNat default) -> (-9223372036854775808 <= i - 1 /\ i - 1 <= 9223372036854775807) /\
     rCompareA_at (fa) (fb) (a) (b) (i - 1) (PureQ dq)))) /\
  (¬(i >= 0) -> vi 0 = dq)) :
 rCompareA_at fa fb a b i (PureQ dq):=by
 unfold rCompareA_at
 rcases xm (i >= 0) with d2 | d2
 ·have H:=H.1 d2
  obtain ⟨k4,H⟩:=H
  have w5:(us a).length = a.length:=List.length_map ..
  have i6:(decide (i.toNat < (us a).length)) = true ↔ (i.toNat < a.length):=(by (try rw [w5]);all_goals exact i_dec)
  obtain ⟨k7,H⟩:=H
  have w9:(us b).length = b.length:=List.length_map ..
  have i10:(decide (i.toNat < (us b).length)) = true ↔ (i.toNat < b.length):=(by (try rw [w9]);all_goals exact i_dec)
  obtain ⟨k11,H⟩:=H
  refine path_wp (G:=given kp81 [(8,3,.elem (vu (a.getD i.toNat default))),(8,7,.elem (vu (b.getD i.toNat default)))] []) 10 [true] ⟨(atC (cd Tryz.f81) [1,1,0,1,0,0,1,0,0,0,1]),[(0,AV.vec fa 1 (us a)),(1,AV.vec fb 1 (us b)),(5,vi i),(31,vb (decide (a.getD i.toNat default < b.getD i.toNat default)))],[],_,[((us a).get?Internal i.toNat = some (vu (a.getD i.toNat default))),((us b).get?Internal i.toNat = some (vu (b.getD i.toNat default)))],_⟩ (by kernel_rfl) (bc (beq_t (i_dec.2 d2)) (bc (i_dec.2 k4) (bc (i6.2 k7) (bc (i_dec.2 k4) (bc (i10.2 k11) b0))))) (qc (el_map k7) (qc (el_map k11) q0)) c0 ?_
  rcases xm (a.getD i.toNat default < b.getD i.toNat default) with d13 | d13
  ·have H:=H.1 d13
   exact path_re (G:=given kp81 [] []) 1000 [true] (vi (-1)) (by kernel_rfl) (bc (beq_t (i_dec.2 d13)) b0) q0 c0 H
  ·have H:=H.2 d13
   have i15:(decide (i.toNat < (us a).length)) = true ↔ (i.toNat < a.length):=(by (try rw [w5]);all_goals exact i_dec)
   have i17:(decide (i.toNat < (us b).length)) = true ↔ (i.toNat < b.length):=(by (try rw [w9]);all_goals exact i_dec)
   refine path_wp (G:=given kp81 [(10,3,.elem (vu (a.getD i.toNat default))),(10,7,.elem (vu (b.getD i.toNat default)))] []) 4 [false] ⟨(atC (cd Tryz.f81) [1,1,0,1,0,0,1,0,0,1,1]),[(0,AV.vec fa 1 (us a)),(1,AV.vec fb 1 (us b)),(5,vi i),(40,vb (decide (a.getD i.toNat default > b.getD i.toNat default)))],[],_,[((us a).get?Internal i.toNat = some (vu (a.getD i.toNat default))),((us b).get?Internal i.toNat = some (vu (b.getD i.toNat default)))],_⟩ (by kernel_rfl) (bc (beq_f (fun h => d13 (i_dec.1 h))) (bc (i_dec.2 k4) (bc (i15.2 k7) (bc (i_dec.2 k4) (bc (i17.2 k11) b0))))) (qc (el_map k7) (qc (el_map k11) q0)) c0 ?_
   rcases xm (a.getD i.toNat default > b.getD i.toNat default) with d19 | d19
   ·have H:=H.1 d19
    exact path_re (G:=given kp81 [] []) 1000 [true] (vi 1) (by kernel_rfl) (bc (beq_t (i_dec.2 d19)) b0) q0 c0 H
   ·have H:=H.2 d19
    obtain ⟨k20,H⟩:=H
    have w21:wi (i - 1) = i - 1:=wI64 k20
    exact path_wp (G:=given kp81 [] []) 1000 [false] ⟨(atC (cd Tryz.f81) [1,1,0,1,0,0]),[(0,AV.vec fa 1 (us a)),(1,AV.vec fb 1 (us b)),(5,vi (wi (i - 1)))],[],_,[],_⟩ (by kernel_rfl) (bc (beq_f (fun h => d19 (i_dec.1 h))) b0) q0 c0 (by (try rw [w21]);all_goals exact H)
 ·have H:=H.2 d2
  exact path_re (G:=given kp81 [] []) 1000 [false] (vi 0) (by kernel_rfl) (bc (beq_f (fun h => d2 (i_dec.1 h))) b0) q0 c0 H
theorem rSign (fa:Bool) (v:Int)  (dq:AV) (H :
  (((↑(Sp.limI v).length:Int) = 0) -> vi 0 = dq) /\
  (¬((↑(Sp.limI v).length:Int) = 0) -> ((Sp.isNeg v = true) -> vi (-1) = dq) /\
   (¬(Sp.isNeg v = true) -> vi 1 = dq))) :
 rSign_at fa v (PureQ dq):=by
 unfold rSign_at
 have w1:(us (Sp.limI v)).length = (Sp.limI v).length:=List.length_map ..
 have i2:((↑(us (Sp.limI v)).length:Int) == 0) = true ↔ ((↑(Sp.limI v).length:Int) = 0):=(by (try rw [w1]);all_goals exact i_eq)
 rcases xm ((↑(Sp.limI v).length:Int) = 0) with d3 | d3
 ·have H:=H.1 d3
  exact path_re (G:=given kp43 [] []) 1000 [true] (vi 0) (by kernel_rfl) (bc rfl (bc (beq_t (i2.2 d3)) b0)) q0 c0 H
 ·have H:=H.2 d3
  rcases xm (Sp.isNeg v = true) with d5 | d5
  ·have H:=H.1 d5
   exact path_re (G:=given kp43 [] []) 1000 [false,true] (asm:=[true,((↑(us (Sp.limI v)).length:Int) == 0) == false,0 == 0,(Sp.isNeg v) == true]) (vi (-1)) (by kernel_rfl) (bc rfl (bc (beq_f (fun h => d3 (i2.1 h))) (bc (beq_self_eq_true _) (bc (beq_t ((i_var _).2 d5)) b0)))) q0 c0 H
  ·have H:=H.2 d5
   exact path_re (G:=given kp43 [] []) 1000 [false,false] (asm:=[true,((↑(us (Sp.limI v)).length:Int) == 0) == false,0 == 0,(Sp.isNeg v) == false]) (vi 1) (by kernel_rfl) (bc rfl (bc (beq_f (fun h => d3 (i2.1 h))) (bc (beq_self_eq_true _) (bc (beq_f (fun h => d5 ((i_var _).1 h))) b0)))) q0 c0 H
end Go.Av

namespace Go.Av
open Go.Proofs
namespace Sp
def trimF:Nat -> List Int -> List Int
 | 0,a => a
 | n + 1,a => if a.getD n default = 0 then trimF n (a.take n) else a
def trimL (a:List Int):List Int:=trimF a.length a
end Sp
theorem loopTrimR:∀ (n:Nat) (fa:Bool) (a:List Int),a.length = n -> n <= 1000000 -> rTrimA_at fa a (PureQ (usA false (Sp.trimF n a)))
 | 0,fa,a,hl,hk => rTrimA _ _ _ ⟨by omega,fun h => by omega,fun h => by omega,fun h => by omega,fun _ => weak_vec _ _ _⟩
 | n + 1,fa,a,hl,hk => by
  have e1:((a.length:Int) - 1).toNat = n:=by omega
  refine rTrimA _ _ _ ⟨by omega,fun _ => by omega,fun _ => by omega,fun h => ?_,fun h => ?_⟩
  ·rw [e1] at h ⊢
   refine ⟨by omega,by omega,by omega,?_⟩
   rw [List.drop_zero]
   have:=loopTrimR n (fa && false) (a.take n) (by simp;omega) (by omega)
   rw [Sp.trimF,if_pos h.2];exact this
  ·rw [e1] at h
   rw [Sp.trimF,if_neg (fun x => h ⟨by omega,x⟩)]
   exact weak_vec _ _ _
theorem trimF_limN:∀ (k v:Nat),Sp.fits k v -> Sp.trimF k (Sp.limN k v) = Sp.lim v
 | 0,v,hf => by
  have h0:=fits_zero.1 hf
  subst h0
  rw [lim_zero];rfl
 | k + 1,v,hf => by
  rw [Sp.trimF]
  by_cases h:Sp.fits k v
  ·rw [if_pos ((limN_top hf).2 h),limN_take]
   exact trimF_limN k v h
  ·rw [if_neg (fun x => h ((limN_top hf).1 x)),lim_of hf (.inr (by simpa using h))]
theorem rtrimN (fa:Bool) (k v:Nat) (h:Sp.short k /\ Sp.fits k v):Ev M1 (.pure 80 [usA fa (Sp.limN k v)]) (usA false (Sp.lim v)) []:=by
 have:=loopTrimR k fa (Sp.limN k v) (limN_len k v) h.1
 rw [trimF_limN k v h.2] at this
 exact call80 (rTrim _ _ _ this)
theorem ev80 (fa:Bool) (k v:Nat) (h:Sp.short k /\ Sp.fits k v):Ev M1 (.pure 80 [usA fa (Sp.limN k v)]) (usA false (Sp.lim v)) []:=rtrimN fa k v h
theorem ev80_d (fa:Bool) (a:List Int) (h:Sp.short a.length):Ev M1 (.pure 80 [usA fa a]) (usA false (Sp.trimL a)) []:=
 call80 (rTrim _ _ _ (loopTrimR a.length fa a rfl h))
theorem tdivB (x:Nat):(x:Int).tdiv 1000000000 = ((x / 1000000000:Nat):Int):=by
 rw [Int.tdiv_eq_ediv_of_nonneg (by omega)];omega
theorem tmodB (x:Nat):(x:Int).tmod 1000000000 = ((x % 1000000000:Nat):Int):=by
 rw [Int.tmod_eq_emod_of_nonneg (by omega)];omega
theorem le4 {x:Nat} (h:x < 1000000000):0 <= (x:Int) /\ (x:Int) <= 4294967295:=by omega
theorem le8 {x:Nat} (h:x <= 18446744073709551615):0 <= (x:Int) /\ (x:Int) <= 18446744073709551615:=by omega
theorem limN_step (n u:Nat):Sp.limN n u ++ [((u / 1000000000 ^ n % 1000000000:Nat):Int)] = Sp.limN (n + 1) u:=(limN_snoc n u).symm
theorem loopLimbs {u0:Nat}:∀ (m n v:Nat),m + n = 100 -> u0 / 1000000000 ^ n < 1000000000 ^ m -> n <= 100 -> (u0 / 1000000000 ^ n ≠ 0 \/ n = Sp.cnt u0) -> u0 <= 18446744073709551615 ->
  rLimbsA_at (u0 / 1000000000 ^ n:Nat) (Sp.limN n u0) v (PureQ (usA false (Sp.lim u0)))
 | 0,n,v,hmn,hlt,hn,hne,hu => by
  have h0:u0 / 1000000000 ^ n = 0:=by simpa using hlt
  rcases hne with h | h
  ·exact absurd h0 h
  ·subst h
   exact rLimbsA _ _ _ _ ⟨fun h => by omega,fun _ => .refl _⟩
 | m + 1,n,v,hmn,hlt,hn,hne,hu => by
  by_cases h0:u0 / 1000000000 ^ n = 0
  ·rcases hne with h | h
   ·exact absurd h0 h
   ·subst h
    exact rLimbsA _ _ _ _ ⟨fun h => by omega,fun _ => .refl _⟩
  ·have hb:u0 / 1000000000 ^ n <= 18446744073709551615:=Nat.le_trans (Nat.div_le_self _ _) hu
   have c3:((u0 / 1000000000 ^ n:Nat):Int).tdiv 1000000000 = ((u0 / 1000000000 ^ (n + 1):Nat):Int):=by
    rw [tdivB,div_next]
   have c4:((u0 / 1000000000 ^ n:Nat):Int).tmod 1000000000 = ((u0 / 1000000000 ^ n % 1000000000:Nat):Int):=tmodB _
   have hpos:((u0 / 1000000000 ^ n:Nat):Int) > 0:=by exact_mod_cast Nat.pos_of_ne_zero h0
   have hb2:u0 / 1000000000 ^ (n + 1) <= 18446744073709551615:=Nat.le_trans (Nat.div_le_self _ _) hu
   have hm:u0 / 1000000000 ^ n % 1000000000 < 1000000000:=Nat.mod_lt _ (by omega)
   refine rLimbsA _ _ _ _ ⟨fun _ => ?_,fun h => absurd hpos h⟩
   have hl:=limN_len n u0
   rw [c3,c4,limN_step]
   have hd:=div_next u0 n
   refine ⟨le4 hm,by omega,le8 hb2,loopLimbs m (n + 1) (v + 1) (by omega) ?_ (by omega) ?_ hu⟩
   ·rw [<- hd]
    rw [Nat.pow_succ] at hlt
    exact Nat.div_lt_of_lt_mul (by rwa [Nat.mul_comm])
   ·by_cases hz:u0 / 1000000000 ^ (n + 1) = 0
    ·right
     have f1:Sp.fits (n + 1) u0:=fits_top0.2 hz
     have f2:¬Sp.fits n u0:=fun f => h0 (fits_top0.1 f)
     have:=fits_cnt.1 f1
     have:¬Sp.cnt u0 <= n:=fun x => f2 (fits_cnt.2 x)
     omega
    ·exact .inl hz
theorem ev85 (u:Int) (h:0 <= u /\ u <= 18446744073709551615):Ev M1 (.pure 85 [.int .u64 u]) (usA false (Sp.lim u.toNat)) []:=by
 obtain ⟨n,rfl⟩:=Int.eq_ofNat_of_zero_le h.1
 rw [Int.toNat_natCast]
 refine call85 (rLimbs _ _ (rLimbs0 _ _ ⟨fun h0 => ?_,fun h0 => ?_⟩))
 ·have hlt:n / 1000000000 < 1000000000 ^ 99:=by omega
  have hr:=loopLimbs (u0:=n) 99 1 0 (by omega) (by simpa using hlt) (by omega) (by
   by_cases hz:n / 1000000000 = 0
   ·right
    have f1:Sp.fits 1 n:=by unfold Sp.fits;omega
    have:=fits_cnt.1 f1
    have:Sp.cnt n ≠ 0:=fun e => by have:=cnt_eq_zero.1 e;omega
    omega
   ·left;simpa using hz) (by omega)
  have c3:(n:Int).tdiv 1000000000 = ((n / 1000000000:Nat):Int):=by
   rw [Int.tdiv_eq_ediv_of_nonneg (by omega)];omega
  have c4:(n:Int).tmod 1000000000 = ((n % 1000000000:Nat):Int):=by
   rw [Int.tmod_eq_emod_of_nonneg (by omega)];omega
  have e:Sp.limN 1 n = [((n % 1000000000:Nat):Int)]:=rfl
  rw [e,Nat.pow_one] at hr
  rw [c3,c4]
  exact ⟨by omega,by omega,hr⟩
 ·have:n = 0:=by omega
  subst this
  rw [lim_zero];exact .vnil 1
theorem ev84 (fa:Bool) (v:Nat) (h:Sp.cnt v <= 2):Ev M1 (.pure 84 [usA fa (Sp.lim v)]) (.int .u64 (v:Nat)) []:=by
 have f:=fits_mono (fits_self v) h
 have hv:v < 1000000000000000000:=by unfold Sp.fits at f;simpa using f
 have loop:∀ k,k <= Sp.cnt v -> rShortA_at fa (Sp.lim v) ((v / 1000000000 ^ k:Nat):Int) ((k:Int) - 1) (PureQ (.int .u64 (v:Nat))):=by
  intro k
  induction k with
  | zero => intro _;exact rShortA _ _ _ _ _ ⟨fun h => by omega,fun _ => by simp⟩
  | succ k ih =>
   intro hk
   have e1:(((k + 1:Nat):Int) - 1) = (k:Nat):=by omega
   have g:(Sp.lim v).getD k default = ((v / 1000000000 ^ k % 1000000000:Nat):Int):=limN_getD v (show k < Sp.cnt v by omega)
   have hs:=digit_split v k
   have hb:v / 1000000000 ^ k <= v:=Nat.div_le_self _ _
   refine rShortA _ _ _ _ _ ⟨fun _ => ?_,fun h => by omega⟩
   rw [e1,Int.toNat_natCast,g,lim_len]
   have e2:((v / 1000000000 ^ (k + 1):Nat):Int) * 1000000000 + ((v / 1000000000 ^ k % 1000000000:Nat):Int) = ((v / 1000000000 ^ k:Nat):Int):=by omega
   rw [e2]
   exact ⟨by omega,by omega,by omega,by omega,by omega,by omega,ih (by omega)⟩
 refine call84 (rShort _ _ _ ?_)
 rw [lim_len]
 have:=loop (Sp.cnt v) (Nat.le_refl _)
 rw [fits_div (fits_self v) (Nat.le_refl _)] at this
 exact ⟨by omega,this⟩
theorem loopCompareR {fa fb:Bool} {n v w:Nat} {dq:AV} (hn:n <= 1000000) (hq:AV.int .i64 (Sp.sgnI ((v:Int) - w)) = dq):∀ (k:Nat),k <= n -> v / 1000000000 ^ k = w / 1000000000 ^ k -> rCompareA_at fa fb (Sp.limN n v) (Sp.limN n w) ((k:Int) - 1) (PureQ dq)
 | 0,hk,he => by
  have e:v = w:=by simpa using he
  refine rCompareA _ _ _ _ _ _ ⟨fun h => by omega,fun _ => ?_⟩
  rw [<- hq,e]
  congr 1
  unfold Sp.sgnI
  rw [if_neg (by omega),if_neg (by omega)]
 | k + 1,hk,he => by
  have e1:(((k + 1:Nat):Int) - 1) = (k:Nat):=by omega
  rw [e1]
  refine rCompareA _ _ _ _ _ _ ⟨fun _ => ?_,fun h => by omega⟩
  rw [Int.toNat_natCast,limN_getD v (show k < n by omega),limN_getD w (show k < n by omega),limN_len,limN_len]
  have s1:=digit_split v k
  have s2:=digit_split w k
  rw [<- he] at s2
  refine ⟨by omega,by omega,by omega,fun h => ?_,fun h => ⟨fun h2 => ?_,fun h2 => ⟨by omega,?_⟩⟩⟩
  ·have:=digit_lt (v:=v) (w:=w) (i:=k) (by omega)
   rw [<- hq];congr 1
   unfold Sp.sgnI
   rw [if_pos (by omega)]
  ·have:=digit_lt (v:=w) (w:=v) (i:=k) (by omega)
   rw [<- hq];congr 1
   unfold Sp.sgnI
   rw [if_neg (by omega),if_pos (by omega)]
  ·exact loopCompareR hn hq k (by omega) (by omega)
theorem rcompareN (fa fb:Bool) (v w:Nat) (h:Sp.short (Sp.cnt v) /\ Sp.short (Sp.cnt w)):Ev M1 (.pure 81 [usA fa (Sp.lim v),usA fb (Sp.lim w)]) (.int .i64 (Sp.sgnI ((v:Int) - w))) []:=by
 obtain ⟨h1,h2⟩:=h
 have h1':Sp.cnt v <= 1000000:=h1
 have h2':Sp.cnt w <= 1000000:=h2
 refine call81 (rCompare _ _ _ _ _ ?_)
 rw [lim_len,lim_len]
 refine ⟨fun h => ⟨fun k => ?_,fun k => ?_⟩,fun h => ⟨by omega,?_⟩⟩
 ·have:=cmp_len (v:=v) (w:=w) (by omega)
  congr 1
  unfold Sp.sgnI
  rw [if_pos (by omega)]
 ·have:=cmp_len (v:=w) (w:=v) (by omega)
  congr 1
  unfold Sp.sgnI
  rw [if_neg (by omega),if_pos (by omega)]
 ·have e:Sp.cnt w = Sp.cnt v:=by omega
  have hw:Sp.lim w = Sp.limN (Sp.cnt v) w:=by unfold Sp.lim;rw [e]
  rw [hw]
  refine loopCompareR (by omega) rfl (Sp.cnt v) (Nat.le_refl _) ?_
  rw [fits_div (fits_self v) (Nat.le_refl _),fits_div (fits_self w) (by omega)]
theorem ev81 (fa fb:Bool) (v w:Int) (h:Sp.ok v /\ Sp.ok w):Ev M1 (.pure 81 [usA fa (Sp.limI v),usA fb (Sp.limI w)]) (.int .i64 (Sp.sgnI ((v.natAbs:Int) - w.natAbs))) []:=rcompareN fa fb _ _ h
theorem ev81_a (fa fb:Bool) (v w:Nat) (h:Sp.short (Sp.cnt v) /\ Sp.short (Sp.cnt w)):Ev M1 (.pure 81 [usA fa (Sp.lim v),usA fb (Sp.lim w)]) (.int .i64 (Sp.sgnI ((v:Int) - w))) []:=rcompareN fa fb _ _ h
theorem ev43 (fa:Bool) (v:Int):Ev M1 (.pure 43 [bigA fa v]) (.int .i64 (Sp.sgnI v)) []:=by
 have hl:=limI_len v
 have hc:=cnt_eq_zero (v:=v.natAbs)
 refine call43 (rSign fa v _ ⟨fun h => ?_,fun h => ⟨fun k => ?_,fun k => ?_⟩⟩)
 ·rw [Sp.sgnI,if_neg (by omega),if_neg (by omega)]
 ·rw [isNeg_iff] at k
  rw [Sp.sgnI,if_pos k]
 ·rw [isNeg_iff] at k
  rw [Sp.sgnI,if_neg k,if_pos (by omega)]
end Go.Av

namespace Go.Av
open Go.Proofs
set_option maxRecDepth 100000
def fi57:Fi:=⟨14,[.cell 2 34]⟩
def kp57:List (Nat × List Nat):=[(0,[0,2]),(1,[0,2,4]),(2,[2]),(3,[2])]
def fi83:Fi:=⟨15,[.cell 4 34]⟩
def kp83:List (Nat × List Nat):=[(0,[0,1,4]),(1,[0,1,4]),(2,[4])]
def fi86:Fi:=⟨68,[.tmp 4]⟩
def kp86:List (Nat × List Nat):=[(0,[0,1]),(1,[0,1,5]),(2,[0,1,5,6]),(3,[0,1,5,6,18]),(4,[0,1,5,6]),(5,[0,1,5,6,7]),(6,[0,1,5,6,7,8]),(7,[0,1,5,6,7,8,24]),(8,[0,1,5,6,7,8]),(9,[0,1,5,6,7,8]),(10,[0,1,5,6,7,8]),(11,[0,1,5,6,7,8]),(12,[0,1,5,6]),(13,[4])]
def fi116:Fi:=⟨45,[.tmp 4]⟩
def kp116:List (Nat × List Nat):=[(0,[0,1]),(1,[0,1,5]),(2,[0,1,5,6]),(3,[0,1,5,6,7]),(4,[0,1,5,6,7,15]),(5,[0,1,5,6,7]),(6,[0,1,5,7,8]),(7,[0,1,5,7,8,28]),(8,[0,1,5,7,8]),(9,[0,1,5,6,7,8]),(10,[0,1,5,6,7,8,36]),(11,[0,1,5,6,7,8]),(12,[0,1,5,6,7]),(13,[4])]
def fi122:Fi:=⟨55,[.tmp 4]⟩
def kp122:List (Nat × List Nat):=[(0,[0,1]),(1,[0,1,12]),(2,[0,1]),(3,[0,1,5]),(4,[0,1,5,6]),(5,[0,1,5,6,7]),(6,[0,1,5,6,7,22]),(7,[0,1,5,6,7]),(8,[0,1,5,6,7]),(9,[0,1,5,6,7,34]),(10,[0,1,5,6,7]),(11,[0,1,5,6,7]),(12,[0,1,5,6,7]),(13,[5]),(14,[4])]
def rSigned_at (s fa:Bool) (k v:Nat) (Q:AV -> Heap -> Prop):Prop:=Wp M1 (.run fi83 (atC (cd Tryz.f83) []) [(0,.bool s),(1,.vec fa 1 ((Sp.limN k v).map (.int .u32)))] []) Q
def rFromInt64_at (n:Int) (Q:AV -> Heap -> Prop):Prop:=Wp M1 (.run fi57 (atC (cd Tryz.f57) []) [(0,.int .i64 n)] []) Q
def rPlus_at (fa fb:Bool) (a b:List Int) (Q:AV -> Heap -> Prop):Prop:=Wp M1 (.run fi122 (atC (cd Tryz.f122) []) [(0,.vec fa 1 (a.map (.int .u32))),(1,.vec fb 1 (b.map (.int .u32)))] []) Q
def rPlusA_at (fa fb:Bool) (a b:List Int) (o:List Int) (c i:Int) (Q:AV -> Heap -> Prop):Prop:=Wp M1 (.run fi122 (atC (cd Tryz.f122) [1,1,1,1,0,1,0,0]) [(0,.vec fa 1 (a.map (.int .u32))),(1,.vec fb 1 (b.map (.int .u32))),(5,.row 0 0),(6,.int .u32 c),(7,.int .i64 i)] [⟨o.map (.int .u32),1,0,false,true⟩]) Q
def rMinus_at (fa fb:Bool) (a b:List Int) (Q:AV -> Heap -> Prop):Prop:=Wp M1 (.run fi116 (atC (cd Tryz.f116) []) [(0,.vec fa 1 (a.map (.int .u32))),(1,.vec fb 1 (b.map (.int .u32)))] []) Q
def rMinusA_at (fa fb:Bool) (a b:List Int) (o:List Int) (c i:Int) (Q:AV -> Heap -> Prop):Prop:=Wp M1 (.run fi116 (atC (cd Tryz.f116) [1,1,1,0,1,0,0]) [(0,.vec fa 1 (a.map (.int .u32))),(1,.vec fb 1 (b.map (.int .u32))),(5,.row 0 0),(6,.int .u32 c),(7,.int .i64 i)] [⟨o.map (.int .u32),1,0,false,true⟩]) Q
def rTimes_at (fa fb:Bool) (a b:List Int) (Q:AV -> Heap -> Prop):Prop:=Wp M1 (.run fi86 (atC (cd Tryz.f86) []) [(0,.vec fa 1 (a.map (.int .u32))),(1,.vec fb 1 (b.map (.int .u32)))] []) Q
def rTimesA_at (fa fb:Bool) (a b:List Int) (o:List Int) (i:Int) (Q:AV -> Heap -> Prop):Prop:=Wp M1 (.run fi86 (atC (cd Tryz.f86) [1,1,0,1,0,0]) [(0,.vec fa 1 (a.map (.int .u32))),(1,.vec fb 1 (b.map (.int .u32))),(5,.row 0 0),(6,.int .i64 i)] [⟨o.map (.int .u32),1,0,false,true⟩]) Q
def rTimesB_at (fa fb:Bool) (a b:List Int) (o:List Int) (i c k:Int) (Q:AV -> Heap -> Prop):Prop:=Wp M1 (.run fi86 (atC (cd Tryz.f86) [1,1,0,1,0,0,1,0,0,1,0,1,0,0]) [(0,.vec fa 1 (a.map (.int .u32))),(1,.vec fb 1 (b.map (.int .u32))),(5,.row 0 0),(6,.int .i64 i),(7,.int .u64 c),(8,.int .i64 k)] [⟨o.map (.int .u32),1,0,false,true⟩]) Q
theorem call57 {args:List AV} {d:AV} (h:wc M1 fi57 Tryz.f57 args d):Ev M1 (.pure 57 args) d []:=pcl _ _ (by kernel_rfl) h
theorem call83 {args:List AV} {d:AV} (h:wc M1 fi83 Tryz.f83 args d):Ev M1 (.pure 83 args) d []:=pcl _ _ (by kernel_rfl) h
theorem call86 {args:List AV} {d:AV} (h:wc M1 fi86 Tryz.f86 args d):Ev M1 (.pure 86 args) d []:=pcl _ _ (by kernel_rfl) h
theorem call116 {args:List AV} {d:AV} (h:wc M1 fi116 Tryz.f116 args d):Ev M1 (.pure 116 args) d []:=pcl _ _ (by kernel_rfl) h
theorem call122 {args:List AV} {d:AV} (h:wc M1 fi122 Tryz.f122 args d):Ev M1 (.pure 122 args) d []:=pcl _ _ (by kernel_rfl) h
theorem rSigned (s fa:Bool) (k v:Nat)  (dq:AV) (H :
  (Sp.short k /\ Sp.fits k v) /\
  Weak (ag [vb (bif s then decide ((↑(Sp.lim v).length:Int) > 0) else false),vf (us (Sp.lim v))]) dq) :
 rSigned_at s fa k v (PureQ dq):=by
 unfold rSigned_at
 obtain ⟨k1,H⟩:=H
 have w2:(us (Sp.lim v)).length = (Sp.lim v).length:=List.length_map ..
 exact path_rq (G:=given kp83 [(1,1,.call (vf (us (Sp.lim v))) none)] []) 1000 [] (ag [vb (bif s then decide ((↑(us (Sp.lim v)).length:Int) > 0) else false),vf (us (Sp.lim v))]) (by kernel_rfl) (bc rfl b0) q0 (ce (@ev80 (fa) (k) (v) k1) c0) (by (try rw [w2]);all_goals exact H)
theorem rFromInt64 (n:Int)  (dq:AV) (H :
  ((n < 0) -> (0 <= IntKind.u64.wrap (0 - IntKind.u64.wrap n) /\ IntKind.u64.wrap (0 - IntKind.u64.wrap n) <= 18446744073709551615) /\
   ∃ (b1:Bool) (l1:List (Int)),
   (Ev M1 (Conf.pure 83 [vb true,vf (us (Sp.lim (IntKind.u64.wrap (0 - IntKind.u64.wrap n)).toNat))]) (ag [vb b1,vf (us l1)]) []) /\
   Weak (ag [vb b1,vf (us l1)]) dq) /\
  (¬(n < 0) -> (0 <= IntKind.u64.wrap n /\ IntKind.u64.wrap n <= 18446744073709551615) /\
   ∃ (b2:Bool) (l2:List (Int)),
   (Ev M1 (Conf.pure 83 [vb false,vf (us (Sp.lim (IntKind.u64.wrap n).toNat))]) (ag [vb b2,vf (us l2)]) []) /\
   Weak (ag [vb b2,vf (us l2)]) dq)) :
 rFromInt64_at n (PureQ dq):=by
 unfold rFromInt64_at
 rcases xm (n < 0) with d2 | d2
 ·have H:=H.1 d2
  obtain ⟨k3,H⟩:=H
  obtain ⟨b1,l1,H⟩:=H
  obtain ⟨k4,H⟩:=H
  exact path_rq (G:=given kp57 [(2,3,.call (vf (us (Sp.lim (wu (0 - wu n)).toNat))) none),(2,4,.call (ag [vb b1,vf (us l1)]) none)] []) 1000 [true] (ag [vb b1,vf (us l1)]) (by kernel_rfl) (bc (beq_t (i_dec.2 d2)) (bc rfl b0)) q0 (ce (@ev85 (wu (0 - wu n)) k3) (ce k4 c0)) H
 ·have H:=H.2 d2
  obtain ⟨k5,H⟩:=H
  obtain ⟨b2,l2,H⟩:=H
  obtain ⟨k6,H⟩:=H
  exact path_rq (G:=given kp57 [(3,2,.call (vf (us (Sp.lim (wu n).toNat))) none),(3,3,.call (ag [vb b2,vf (us l2)]) none)] []) 1000 [false] (ag [vb b2,vf (us l2)]) (by kernel_rfl) (bc (beq_f (fun h => d2 (i_dec.1 h))) (bc rfl b0)) q0 (ce (@ev85 (wu n) k5) (ce k6 c0)) H
theorem rPlus (fa fb:Bool) (a b:List Int)  (dq:AV) (H :
  (((↑a.length:Int) < (↑b.length:Int)) -> (-9223372036854775808 <= (↑b.length:Int) + 1 /\ (↑b.length:Int) + 1 <= 9223372036854775807) /\
   (0 <= (↑b.length:Int) + 1) /\
   (((↑b.length:Int) + 1) * 4 <= 1099511627776) /\
   ((↑b.length:Int) + 1 <= 1099511627776) /\
   rPlusA_at (fb) (fa) (b) (a) (List.replicate ((↑b.length:Int) + 1).toNat (0:Int)) (0) (0) (PureQ dq)) /\
  (¬((↑a.length:Int) < (↑b.length:Int)) -> (-9223372036854775808 <= (↑a.length:Int) + 1 /\ (↑a.length:Int) + 1 <= 9223372036854775807) /\
   (0 <= (↑a.length:Int) + 1) /\
   (((↑a.length:Int) + 1) * 4 <= 1099511627776) /\
   ((↑a.length:Int) + 1 <= 1099511627776) /\
   rPlusA_at (fa) (fb) (a) (b) (List.replicate ((↑a.length:Int) + 1).toNat (0:Int)) (0) (0) (PureQ dq))) :
 rPlus_at fa fb a b (PureQ dq):=by
 unfold rPlus_at
 have w1:(us a).length = a.length:=List.length_map ..
 have w2:(us b).length = b.length:=List.length_map ..
 have i3:(decide ((↑(us a).length:Int) < (↑(us b).length:Int))) = true ↔ ((↑a.length:Int) < (↑b.length:Int)):=(by (try rw [w1]);(try rw [w2]);all_goals exact i_dec)
 rcases xm ((↑a.length:Int) < (↑b.length:Int)) with d4 | d4
 ·have H:=H.1 d4
  obtain ⟨k5,H⟩:=H
  have w6:wi ((↑b.length:Int) + 1) = (↑b.length:Int) + 1:=wI64 k5
  have i7:(decide (0 <= wi ((↑(us b).length:Int) + 1))) = true ↔ (0 <= (↑b.length:Int) + 1):=(by (try rw [w2]);(try rw [w6]);all_goals exact i_dec)
  obtain ⟨k8,H⟩:=H
  have i9:(decide (wi ((↑(us b).length:Int) + 1) <= wi ((↑(us b).length:Int) + 1))) = true ↔ ((↑b.length:Int) + 1 <= (↑b.length:Int) + 1):=(by (try rw [w2]);(try rw [w6]);all_goals exact i_dec)
  have i10:(decide (wi ((↑(us b).length:Int) + 1) * 4 <= 1099511627776)) = true ↔ (((↑b.length:Int) + 1) * 4 <= 1099511627776):=(by (try rw [w2]);(try rw [w6]);all_goals exact i_dec)
  obtain ⟨k11,H⟩:=H
  have i12:(decide (wi ((↑(us b).length:Int) + 1) <= 1099511627776)) = true ↔ ((↑b.length:Int) + 1 <= 1099511627776):=(by (try rw [w2]);(try rw [w6]);all_goals exact i_dec)
  obtain ⟨k13,H⟩:=H
  have w14:List.replicate ((↑b.length:Int) + 1).toNat (vu 0) = us (List.replicate ((↑b.length:Int) + 1).toNat (0:Int)):=(lm_rep rfl)
  exact path_wp (G:=given kp122 [] []) 1000 [true] ⟨(atC (cd Tryz.f122) [1,1,1,1,0,1,0,0]),[(0,AV.vec fb 1 (us b)),(1,AV.vec fa 1 (us a)),(5,AV.row 0 0),(6,vu 0),(7,vi 0)],[⟨List.replicate (wi ((↑(us b).length:Int) + 1)).toNat (vu 0),1,0,false,true⟩],[(decide ((↑(us a).length:Int) < (↑(us b).length:Int))) == true,decide (0 <= wi ((↑(us b).length:Int) + 1)),decide (wi ((↑(us b).length:Int) + 1) <= wi ((↑(us b).length:Int) + 1)),decide (wi ((↑(us b).length:Int) + 1) * 4 <= 1099511627776),decide (wi ((↑(us b).length:Int) + 1) <= 1099511627776)],[],_⟩ (by kernel_rfl) (bc (beq_t (i3.2 d4)) (bc (i7.2 k8) (bc (i9.2 (by omega)) (bc (i10.2 k11) (bc (i12.2 k13) b0))))) q0 c0 (by (try rw [w2]);(try rw [w6]);(try rw [w14]);all_goals exact H)
 ·have H:=H.2 d4
  obtain ⟨k15,H⟩:=H
  have w16:wi ((↑a.length:Int) + 1) = (↑a.length:Int) + 1:=wI64 k15
  have i17:(decide (0 <= wi ((↑(us a).length:Int) + 1))) = true ↔ (0 <= (↑a.length:Int) + 1):=(by (try rw [w1]);(try rw [w16]);all_goals exact i_dec)
  obtain ⟨k18,H⟩:=H
  have i19:(decide (wi ((↑(us a).length:Int) + 1) <= wi ((↑(us a).length:Int) + 1))) = true ↔ ((↑a.length:Int) + 1 <= (↑a.length:Int) + 1):=(by (try rw [w1]);(try rw [w16]);all_goals exact i_dec)
  have i20:(decide (wi ((↑(us a).length:Int) + 1) * 4 <= 1099511627776)) = true ↔ (((↑a.length:Int) + 1) * 4 <= 1099511627776):=(by (try rw [w1]);(try rw [w16]);all_goals exact i_dec)
  obtain ⟨k21,H⟩:=H
  have i22:(decide (wi ((↑(us a).length:Int) + 1) <= 1099511627776)) = true ↔ ((↑a.length:Int) + 1 <= 1099511627776):=(by (try rw [w1]);(try rw [w16]);all_goals exact i_dec)
  obtain ⟨k23,H⟩:=H
  have w24:List.replicate ((↑a.length:Int) + 1).toNat (vu 0) = us (List.replicate ((↑a.length:Int) + 1).toNat (0:Int)):=(lm_rep rfl)
  exact path_wp (G:=given kp122 [] []) 1000 [false] ⟨(atC (cd Tryz.f122) [1,1,1,1,0,1,0,0]),[(0,AV.vec fa 1 (us a)),(1,AV.vec fb 1 (us b)),(5,AV.row 0 0),(6,vu 0),(7,vi 0)],[⟨List.replicate (wi ((↑(us a).length:Int) + 1)).toNat (vu 0),1,0,false,true⟩],[(decide ((↑(us a).length:Int) < (↑(us b).length:Int))) == false,decide (0 <= wi ((↑(us a).length:Int) + 1)),decide (wi ((↑(us a).length:Int) + 1) <= wi ((↑(us a).length:Int) + 1)),decide (wi ((↑(us a).length:Int) + 1) * 4 <= 1099511627776),decide (wi ((↑(us a).length:Int) + 1) <= 1099511627776)],[],_⟩ (by kernel_rfl) (bc (beq_f (fun h => d4 (i3.1 h))) (bc (i17.2 k18) (bc (i19.2 (by omega)) (bc (i20.2 k21) (bc (i22.2 k23) b0))))) q0 c0 (by (try rw [w1]);(try rw [w16]);(try rw [w24]);all_goals exact H)
noncomputable abbrev zNwB1 (o:List Int) (a:List Int) (c:Int):=vf (us (Sp.trimL (o.set (↑a.length:Int).toNat c)))
theorem rPlusA (fa fb:Bool) (a b:List Int) (o:List Int) (c i:Int)  (dq:AV) (H :
  ((i < (↑a.length:Int)) -> (0 <= i) /\
   (i.toNat < a.length) /\
   (0 <= c + a.getD i.toNat default /\ c + a.getD i.toNat default <= 4294967295) /\
   ((i < (↑b.length:Int)) -> (i.toNat < b.length) /\
    (0 <= c + a.getD i.toNat default + b.getD i.toNat default /\ c + a.getD i.toNat default + b.getD i.toNat default <= 4294967295) /\
    (i.toNat < o.length) /\
    (0 <= (c + a.getD i.toNat default + b.getD i.toNat default).tdiv 1000000000 /\ (c + a.getD i.toNat default + b.getD i.toNat default).tdiv 1000000000 <= 4294967295) /\
    (-9223372036854775808 <= i + 1 /\ i + 1 <= 9223372036854775807) /\
    rPlusA_at (fa) (fb) (a) (b) (o.set i.toNat ((c + a.getD i.toNat default + b.getD i.toNat default).tmod 1000000000)) ((c + a.getD i.toNat default + b.getD i.toNat default).tdiv 1000000000) (i + 1) (PureQ dq)) /\
   (¬(i < (↑b.length:Int)) -> (i.toNat < o.length) /\
    (0 <= (c + a.getD i.toNat default).tdiv 1000000000 /\ (c + a.getD i.toNat default).tdiv 1000000000 <= 4294967295) /\
    (-9223372036854775808 <= i + 1 /\ i + 1 <= 9223372036854775807) /\
    rPlusA_at (fa) (fb) (a) (b) (o.set i.toNat ((c + a.getD i.toNat default).tmod 1000000000)) ((c + a.getD i.toNat default).tdiv 1000000000) (i + 1) (PureQ dq))) /\
  (¬(i < (↑a.length:Int)) -> (0 <= (↑a.length:Int)) /\
   ((↑a.length:Int).toNat < o.length) /\
   (Sp.short (o.set (↑a.length:Int).toNat c).length) /\
   Weak (vf (us (Sp.trimL (o.set (↑a.length:Int).toNat c)))) dq)) :
 rPlusA_at fa fb a b o c i (PureQ dq):=by
 unfold rPlusA_at
 have w1:(us a).length = a.length:=List.length_map ..
 have i2:(decide (i < (↑(us a).length:Int))) = true ↔ (i < (↑a.length:Int)):=(by (try rw [w1]);all_goals exact i_dec)
 rcases xm (i < (↑a.length:Int)) with d3 | d3
 ·have H:=H.1 d3
  obtain ⟨k5,H⟩:=H
  have i6:(decide (i.toNat < (us a).length)) = true ↔ (i.toNat < a.length):=(by (try rw [w1]);all_goals exact i_dec)
  obtain ⟨k7,H⟩:=H
  obtain ⟨k8,H⟩:=H
  have w9:wv (c + a.getD i.toNat default) = c + a.getD i.toNat default:=wU32 k8
  have w10:(us b).length = b.length:=List.length_map ..
  have i11:(decide (i < (↑(us b).length:Int))) = true ↔ (i < (↑b.length:Int)):=(by (try rw [w10]);all_goals exact i_dec)
  refine path_wp (G:=given kp122 [(8,4,.elem (vu (a.getD i.toNat default)))] []) 12 [true] ⟨(atC (cd Tryz.f122) [1,1,1,1,0,1,0,0,1,0,0,1,0,1]),[(0,AV.vec fa 1 (us a)),(1,AV.vec fb 1 (us b)),(5,AV.row 0 0),(6,vu (wv (c + a.getD i.toNat default))),(7,vi i),(34,vb (decide (i < (↑(us b).length:Int))))],[⟨us o,1,0,false,true⟩],_,[((us a).get?Internal i.toNat = some (vu (a.getD i.toNat default)))],_⟩ (by kernel_rfl) (bc (beq_t (i2.2 d3)) (bc (i_dec.2 k5) (bc (i6.2 k7) b0))) (qc (el_map k7) q0) c0 ?_
  rcases xm (i < (↑b.length:Int)) with d12 | d12
  ·have H:=H.1 d12
   have i14:(decide (i.toNat < (us b).length)) = true ↔ (i.toNat < b.length):=(by (try rw [w10]);all_goals exact i_dec)
   obtain ⟨k15,H⟩:=H
   obtain ⟨k16,H⟩:=H
   have w17:wv (c + a.getD i.toNat default + b.getD i.toNat default) = c + a.getD i.toNat default + b.getD i.toNat default:=wU32 k16
   have w19:(us o).length = o.length:=List.length_map ..
   have i20:(decide (i.toNat < (us o).length)) = true ↔ (i.toNat < o.length):=(by (try rw [w19]);all_goals exact i_dec)
   obtain ⟨k21,H⟩:=H
   have w22:(us o).set i.toNat (vu ((c + a.getD i.toNat default + b.getD i.toNat default).tmod 1000000000)) = us (o.set i.toNat ((c + a.getD i.toNat default + b.getD i.toNat default).tmod 1000000000)):=(lm_set rfl rfl)
   obtain ⟨k23,H⟩:=H
   have w24:wv ((c + a.getD i.toNat default + b.getD i.toNat default).tdiv 1000000000) = (c + a.getD i.toNat default + b.getD i.toNat default).tdiv 1000000000:=wU32 k23
   obtain ⟨k25,H⟩:=H
   have w26:wi (i + 1) = i + 1:=wI64 k25
   exact path_wp (G:=given kp122 [(10,4,.elem (vu (b.getD i.toNat default))),(11,5,.elem (vu (o.getD i.toNat default)))] []) 1000 [true] ⟨(atC (cd Tryz.f122) [1,1,1,1,0,1,0,0]),[(0,AV.vec fa 1 (us a)),(1,AV.vec fb 1 (us b)),(5,AV.row 0 0),(6,vu (wv ((wv (wv (c + a.getD i.toNat default) + b.getD i.toNat default)).tdiv 1000000000))),(7,vi (wi (i + 1)))],[⟨(us o).set i.toNat (vu ((wv (wv (c + a.getD i.toNat default) + b.getD i.toNat default)).tmod 1000000000)),1,0,false,true⟩],_,[((us b).get?Internal i.toNat = some (vu (b.getD i.toNat default))),((us o).get?Internal i.toNat = some (vu (o.getD i.toNat default)))],_⟩ (by kernel_rfl) (bc (beq_t (i11.2 d12)) (bc (i_dec.2 k5) (bc (i14.2 k15) (bc rfl (bc rfl (bc (i_dec.2 k5) (bc (i20.2 k21) (bc rfl (bc rfl b0))))))))) (qc (el_map k15) (qc (el_map k21) q0)) c0 (by (try rw [w9]);(try rw [w17]);(try rw [w22]);(try rw [w24]);(try rw [w26]);all_goals exact H)
  ·have H:=H.2 d12
   have w28:(us o).length = o.length:=List.length_map ..
   have i29:(decide (i.toNat < (us o).length)) = true ↔ (i.toNat < o.length):=(by (try rw [w28]);all_goals exact i_dec)
   obtain ⟨k30,H⟩:=H
   have w31:(us o).set i.toNat (vu ((c + a.getD i.toNat default).tmod 1000000000)) = us (o.set i.toNat ((c + a.getD i.toNat default).tmod 1000000000)):=(lm_set rfl rfl)
   obtain ⟨k32,H⟩:=H
   have w33:wv ((c + a.getD i.toNat default).tdiv 1000000000) = (c + a.getD i.toNat default).tdiv 1000000000:=wU32 k32
   obtain ⟨k34,H⟩:=H
   have w35:wi (i + 1) = i + 1:=wI64 k34
   exact path_wp (G:=given kp122 [(11,5,.elem (vu (o.getD i.toNat default)))] []) 1000 [false] ⟨(atC (cd Tryz.f122) [1,1,1,1,0,1,0,0]),[(0,AV.vec fa 1 (us a)),(1,AV.vec fb 1 (us b)),(5,AV.row 0 0),(6,vu (wv ((wv (c + a.getD i.toNat default)).tdiv 1000000000))),(7,vi (wi (i + 1)))],[⟨(us o).set i.toNat (vu ((wv (c + a.getD i.toNat default)).tmod 1000000000)),1,0,false,true⟩],_,[((us o).get?Internal i.toNat = some (vu (o.getD i.toNat default)))],_⟩ (by kernel_rfl) (bc (beq_f (fun h => d12 (i11.1 h))) (bc rfl (bc rfl (bc (i_dec.2 k5) (bc (i29.2 k30) (bc rfl (bc rfl b0))))))) (qc (el_map k30) q0) c0 (by (try rw [w9]);(try rw [w31]);(try rw [w33]);(try rw [w35]);all_goals exact H)
 ·have H:=H.2 d3
  have i36:(decide (0 <= (↑(us a).length:Int))) = true ↔ (0 <= (↑a.length:Int)):=(by (try rw [w1]);all_goals exact i_dec)
  obtain ⟨k37,H⟩:=H
  have w38:(us o).length = o.length:=List.length_map ..
  have i39:(decide ((↑(us a).length:Int).toNat < (us o).length)) = true ↔ ((↑a.length:Int).toNat < o.length):=(by (try rw [w1]);(try rw [w38]);all_goals exact i_dec)
  obtain ⟨k40,H⟩:=H
  have w41:(us o).set (↑a.length:Int).toNat (vu c) = us (o.set (↑a.length:Int).toNat c):=(lm_set rfl rfl)
  obtain ⟨k42,H⟩:=H
  exact path_rq (G:=given kp122 [(13,5,.elem (vu (o.getD (↑a.length:Int).toNat default))),(14,1,.call (zNwB1 o a c) none)] []) 1000 [false] (eqs:=[((us o).get?Internal (↑(us a).length:Int).toNat = some (vu (o.getD (↑a.length:Int).toNat default)))]) (calls:=[pc 80 [vf ((us o).set (↑(us a).length:Int).toNat (vu c))] (zNwB1 o a c)]) (zNwB1 o a c) (by kernel_rfl) (bc (beq_f (fun h => d3 (i2.1 h))) (bc rfl (bc (i36.2 k37) (bc (i39.2 k40) (bc rfl (bc rfl b0)))))) (qc (by (try rw [w1]);all_goals exact (el_map k40)) q0) (ce (by (try rw [w1]);(try rw [w41]);all_goals exact (@ev80_d (false) (o.set (↑a.length:Int).toNat c) k42)) c0) H
theorem rMinus (fa fb:Bool) (a b:List Int)  (dq:AV) (H :
  (0 <= (↑a.length:Int)) /\
  ((↑a.length:Int) * 4 <= 1099511627776) /\
  ((↑a.length:Int) <= 1099511627776) /\
  rMinusA_at (fa) (fb) (a) (b) (List.replicate (↑a.length:Int).toNat (0:Int)) (0) (0) (PureQ dq)) :
 rMinus_at fa fb a b (PureQ dq):=by
 unfold rMinus_at
 have w1:(us a).length = a.length:=List.length_map ..
 have i2:(decide (0 <= (↑(us a).length:Int))) = true ↔ (0 <= (↑a.length:Int)):=(by (try rw [w1]);all_goals exact i_dec)
 obtain ⟨k3,H⟩:=H
 have i4:(decide ((↑(us a).length:Int) <= (↑(us a).length:Int))) = true ↔ ((↑a.length:Int) <= (↑a.length:Int)):=(by (try rw [w1]);all_goals exact i_dec)
 have i5:(decide ((↑(us a).length:Int) * 4 <= 1099511627776)) = true ↔ ((↑a.length:Int) * 4 <= 1099511627776):=(by (try rw [w1]);all_goals exact i_dec)
 obtain ⟨k6,H⟩:=H
 have i7:(decide ((↑(us a).length:Int) <= 1099511627776)) = true ↔ ((↑a.length:Int) <= 1099511627776):=(by (try rw [w1]);all_goals exact i_dec)
 obtain ⟨k8,H⟩:=H
 have w9:List.replicate (↑a.length:Int).toNat (vu 0) = us (List.replicate (↑a.length:Int).toNat (0:Int)):=(lm_rep rfl)
 exact path_wp (G:=given kp116 [] []) 1000 [] ⟨(atC (cd Tryz.f116) [1,1,1,0,1,0,0]),[(0,AV.vec fa 1 (us a)),(1,AV.vec fb 1 (us b)),(5,AV.row 0 0),(6,vu 0),(7,vi 0)],[⟨List.replicate (↑(us a).length:Int).toNat (vu 0),1,0,false,true⟩],[decide (0 <= (↑(us a).length:Int)),decide ((↑(us a).length:Int) <= (↑(us a).length:Int)),decide ((↑(us a).length:Int) * 4 <= 1099511627776),decide ((↑(us a).length:Int) <= 1099511627776)],[],_⟩ (by kernel_rfl) (bc (i2.2 k3) (bc (i4.2 (by omega)) (bc (i5.2 k6) (bc (i7.2 k8) b0)))) q0 c0 (by (try rw [w1]);(try rw [w9]);all_goals exact H)
theorem rMinusA (fa fb:Bool) (a b:List Int) (o:List Int) (c i:Int)  (dq:AV) (H :
  ((i < (↑a.length:Int)) -> (0 <= i) /\
   (i.toNat < a.length) /\
   (0 <= a.getD i.toNat default + 1000000000 /\ a.getD i.toNat default + 1000000000 <= 4294967295) /\
   (0 <= a.getD i.toNat default + 1000000000 - c /\ a.getD i.toNat default + 1000000000 - c <= 4294967295) /\
   ((i < (↑b.length:Int)) -> (i.toNat < b.length) /\
    (0 <= a.getD i.toNat default + 1000000000 - c - b.getD i.toNat default /\ a.getD i.toNat default + 1000000000 - c - b.getD i.toNat default <= 4294967295) /\
    ((a.getD i.toNat default + 1000000000 - c - b.getD i.toNat default >= 1000000000) -> (0 <= a.getD i.toNat default + 1000000000 - c - b.getD i.toNat default - 1000000000 /\ a.getD i.toNat default + 1000000000 - c - b.getD i.toNat default - 1000000000 <= 4294967295) /\
     (i.toNat < o.length) /\
     (-9223372036854775808 <= i + 1 /\ i + 1 <= 9223372036854775807) /\
     rMinusA_at (fa) (fb) (a) (b) (o.set i.toNat (a.getD i.toNat default + 1000000000 - c - b.getD i.toNat default - 1000000000)) (0) (i + 1) (PureQ dq)) /\
    (¬(a.getD i.toNat default + 1000000000 - c - b.getD i.toNat default >= 1000000000) -> (i.toNat < o.length) /\
     (-9223372036854775808 <= i + 1 /\ i + 1 <= 9223372036854775807) /\
     rMinusA_at (fa) (fb) (a) (b) (o.set i.toNat (a.getD i.toNat default + 1000000000 - c - b.getD i.toNat default)) (1) (i + 1) (PureQ dq))) /\
   (¬(i < (↑b.length:Int)) -> ((a.getD i.toNat default + 1000000000 - c >= 1000000000) -> (0 <= a.getD i.toNat default + 1000000000 - c - 1000000000 /\ a.getD i.toNat default + 1000000000 - c - 1000000000 <= 4294967295) /\
     (i.toNat < o.length) /\
     (-9223372036854775808 <= i + 1 /\ i + 1 <= 9223372036854775807) /\
     rMinusA_at (fa) (fb) (a) (b) (o.set i.toNat (a.getD i.toNat default + 1000000000 - c - 1000000000)) (0) (i + 1) (PureQ dq)) /\
    (¬(a.getD i.toNat default + 1000000000 - c >= 1000000000) -> (i.toNat < o.length) /\
     (-9223372036854775808 <= i + 1 /\ i + 1 <= 9223372036854775807) /\
     rMinusA_at (fa) (fb) (a) (b) (o.set i.toNat (a.getD i.toNat default + 1000000000 - c)) (1) (i + 1) (PureQ dq)))) /\
  (¬(i < (↑a.length:Int)) -> (Sp.short o.length) /\
   Weak (vf (us (Sp.trimL o))) dq)) :
 rMinusA_at fa fb a b o c i (PureQ dq):=by
 unfold rMinusA_at
 have w1:(us a).length = a.length:=List.length_map ..
 have i2:(decide (i < (↑(us a).length:Int))) = true ↔ (i < (↑a.length:Int)):=(by (try rw [w1]);all_goals exact i_dec)
 rcases xm (i < (↑a.length:Int)) with d3 | d3
 ·have H:=H.1 d3
  obtain ⟨k5,H⟩:=H
  have i6:(decide (i.toNat < (us a).length)) = true ↔ (i.toNat < a.length):=(by (try rw [w1]);all_goals exact i_dec)
  obtain ⟨k7,H⟩:=H
  obtain ⟨k8,H⟩:=H
  have w9:wv (a.getD i.toNat default + 1000000000) = a.getD i.toNat default + 1000000000:=wU32 k8
  obtain ⟨k10,H⟩:=H
  have w11:wv (a.getD i.toNat default + 1000000000 - c) = a.getD i.toNat default + 1000000000 - c:=wU32 k10
  have w12:(us b).length = b.length:=List.length_map ..
  have i13:(decide (i < (↑(us b).length:Int))) = true ↔ (i < (↑b.length:Int)):=(by (try rw [w12]);all_goals exact i_dec)
  refine path_wp (G:=given kp116 [(6,3,.elem (vu (a.getD i.toNat default)))] []) 12 [true] ⟨(atC (cd Tryz.f116) [1,1,1,0,1,0,0,1,0,0,1,0,1]),[(0,AV.vec fa 1 (us a)),(1,AV.vec fb 1 (us b)),(5,AV.row 0 0),(7,vi i),(8,vu (wv (wv (a.getD i.toNat default + 1000000000) - c))),(28,vb (decide (i < (↑(us b).length:Int))))],[⟨us o,1,0,false,true⟩],_,[((us a).get?Internal i.toNat = some (vu (a.getD i.toNat default)))],_⟩ (by kernel_rfl) (bc (beq_t (i2.2 d3)) (bc (i_dec.2 k5) (bc (i6.2 k7) b0))) (qc (el_map k7) q0) c0 ?_
  rcases xm (i < (↑b.length:Int)) with d14 | d14
  ·have H:=H.1 d14
   have i16:(decide (i.toNat < (us b).length)) = true ↔ (i.toNat < b.length):=(by (try rw [w12]);all_goals exact i_dec)
   obtain ⟨k17,H⟩:=H
   obtain ⟨k18,H⟩:=H
   have w19:wv (a.getD i.toNat default + 1000000000 - c - b.getD i.toNat default) = a.getD i.toNat default + 1000000000 - c - b.getD i.toNat default:=wU32 k18
   have i20:(decide (wv (wv (wv (a.getD i.toNat default + 1000000000) - c) - b.getD i.toNat default) >= 1000000000)) = true ↔ (a.getD i.toNat default + 1000000000 - c - b.getD i.toNat default >= 1000000000):=(by (try rw [w9]);(try rw [w11]);(try rw [w19]);all_goals exact i_dec)
   refine path_wp (G:=given kp116 [(8,4,.elem (vu (b.getD i.toNat default)))] []) 7 [true] ⟨(atC (cd Tryz.f116) [1,1,1,0,1,0,0,1,0,0,1,1,1,0,1]),[(0,AV.vec fa 1 (us a)),(1,AV.vec fb 1 (us b)),(5,AV.row 0 0),(6,vu 1),(7,vi i),(8,vu (wv (wv (wv (a.getD i.toNat default + 1000000000) - c) - b.getD i.toNat default))),(36,vb (decide (wv (wv (wv (a.getD i.toNat default + 1000000000) - c) - b.getD i.toNat default) >= 1000000000)))],[⟨us o,1,0,false,true⟩],_,[((us b).get?Internal i.toNat = some (vu (b.getD i.toNat default)))],_⟩ (by kernel_rfl) (bc (beq_t (i13.2 d14)) (bc (i_dec.2 k5) (bc (i16.2 k17) b0))) (qc (el_map k17) q0) c0 ?_
   rcases xm (a.getD i.toNat default + 1000000000 - c - b.getD i.toNat default >= 1000000000) with d21 | d21
   ·have H:=H.1 d21
    obtain ⟨k22,H⟩:=H
    have w23:wv (a.getD i.toNat default + 1000000000 - c - b.getD i.toNat default - 1000000000) = a.getD i.toNat default + 1000000000 - c - b.getD i.toNat default - 1000000000:=wU32 k22
    have w25:(us o).length = o.length:=List.length_map ..
    have i26:(decide (i.toNat < (us o).length)) = true ↔ (i.toNat < o.length):=(by (try rw [w25]);all_goals exact i_dec)
    obtain ⟨k27,H⟩:=H
    have w28:(us o).set i.toNat (vu (a.getD i.toNat default + 1000000000 - c - b.getD i.toNat default - 1000000000)) = us (o.set i.toNat (a.getD i.toNat default + 1000000000 - c - b.getD i.toNat default - 1000000000)):=(lm_set rfl rfl)
    obtain ⟨k29,H⟩:=H
    have w30:wi (i + 1) = i + 1:=wI64 k29
    exact path_wp (G:=given kp116 [(12,4,.elem (vu (o.getD i.toNat default)))] []) 1000 [true] ⟨(atC (cd Tryz.f116) [1,1,1,0,1,0,0]),[(0,AV.vec fa 1 (us a)),(1,AV.vec fb 1 (us b)),(5,AV.row 0 0),(6,vu 0),(7,vi (wi (i + 1)))],[⟨(us o).set i.toNat (vu (wv (wv (wv (wv (a.getD i.toNat default + 1000000000) - c) - b.getD i.toNat default) - 1000000000))),1,0,false,true⟩],_,[((us o).get?Internal i.toNat = some (vu (o.getD i.toNat default)))],_⟩ (by kernel_rfl) (bc (beq_t (i20.2 d21)) (bc rfl (bc (i_dec.2 k5) (bc (i26.2 k27) (bc rfl b0))))) (qc (el_map k27) q0) c0 (by (try rw [w9]);(try rw [w11]);(try rw [w19]);(try rw [w23]);(try rw [w28]);(try rw [w30]);all_goals exact H)
   ·have H:=H.2 d21
    have w32:(us o).length = o.length:=List.length_map ..
    have i33:(decide (i.toNat < (us o).length)) = true ↔ (i.toNat < o.length):=(by (try rw [w32]);all_goals exact i_dec)
    obtain ⟨k34,H⟩:=H
    have w35:(us o).set i.toNat (vu (a.getD i.toNat default + 1000000000 - c - b.getD i.toNat default)) = us (o.set i.toNat (a.getD i.toNat default + 1000000000 - c - b.getD i.toNat default)):=(lm_set rfl rfl)
    obtain ⟨k36,H⟩:=H
    have w37:wi (i + 1) = i + 1:=wI64 k36
    exact path_wp (G:=given kp116 [(12,4,.elem (vu (o.getD i.toNat default)))] []) 1000 [false] ⟨(atC (cd Tryz.f116) [1,1,1,0,1,0,0]),[(0,AV.vec fa 1 (us a)),(1,AV.vec fb 1 (us b)),(5,AV.row 0 0),(6,vu 1),(7,vi (wi (i + 1)))],[⟨(us o).set i.toNat (vu (wv (wv (wv (a.getD i.toNat default + 1000000000) - c) - b.getD i.toNat default))),1,0,false,true⟩],_,[((us o).get?Internal i.toNat = some (vu (o.getD i.toNat default)))],_⟩ (by kernel_rfl) (bc (beq_f (fun h => d21 (i20.1 h))) (bc rfl (bc (i_dec.2 k5) (bc (i33.2 k34) (bc rfl b0))))) (qc (el_map k34) q0) c0 (by (try rw [w9]);(try rw [w11]);(try rw [w19]);(try rw [w35]);(try rw [w37]);all_goals exact H)
  ·have H:=H.2 d14
   have i38:(decide (wv (wv (a.getD i.toNat default + 1000000000) - c) >= 1000000000)) = true ↔ (a.getD i.toNat default + 1000000000 - c >= 1000000000):=(by (try rw [w9]);(try rw [w11]);all_goals exact i_dec)
   rcases xm (a.getD i.toNat default + 1000000000 - c >= 1000000000) with d39 | d39
   ·have H:=H.1 d39
    obtain ⟨k40,H⟩:=H
    have w41:wv (a.getD i.toNat default + 1000000000 - c - 1000000000) = a.getD i.toNat default + 1000000000 - c - 1000000000:=wU32 k40
    have w43:(us o).length = o.length:=List.length_map ..
    have i44:(decide (i.toNat < (us o).length)) = true ↔ (i.toNat < o.length):=(by (try rw [w43]);all_goals exact i_dec)
    obtain ⟨k45,H⟩:=H
    have w46:(us o).set i.toNat (vu (a.getD i.toNat default + 1000000000 - c - 1000000000)) = us (o.set i.toNat (a.getD i.toNat default + 1000000000 - c - 1000000000)):=(lm_set rfl rfl)
    obtain ⟨k47,H⟩:=H
    have w48:wi (i + 1) = i + 1:=wI64 k47
    exact path_wp (G:=given kp116 [(12,4,.elem (vu (o.getD i.toNat default)))] []) 1000 [false,true] ⟨(atC (cd Tryz.f116) [1,1,1,0,1,0,0]),[(0,AV.vec fa 1 (us a)),(1,AV.vec fb 1 (us b)),(5,AV.row 0 0),(6,vu 0),(7,vi (wi (i + 1)))],[⟨(us o).set i.toNat (vu (wv (wv (wv (a.getD i.toNat default + 1000000000) - c) - 1000000000))),1,0,false,true⟩],_,[((us o).get?Internal i.toNat = some (vu (o.getD i.toNat default)))],_⟩ (by kernel_rfl) (bc (beq_f (fun h => d14 (i13.1 h))) (bc (beq_t (i38.2 d39)) (bc rfl (bc (i_dec.2 k5) (bc (i44.2 k45) (bc rfl b0)))))) (qc (el_map k45) q0) c0 (by (try rw [w9]);(try rw [w11]);(try rw [w41]);(try rw [w46]);(try rw [w48]);all_goals exact H)
   ·have H:=H.2 d39
    have w50:(us o).length = o.length:=List.length_map ..
    have i51:(decide (i.toNat < (us o).length)) = true ↔ (i.toNat < o.length):=(by (try rw [w50]);all_goals exact i_dec)
    obtain ⟨k52,H⟩:=H
    have w53:(us o).set i.toNat (vu (a.getD i.toNat default + 1000000000 - c)) = us (o.set i.toNat (a.getD i.toNat default + 1000000000 - c)):=(lm_set rfl rfl)
    obtain ⟨k54,H⟩:=H
    have w55:wi (i + 1) = i + 1:=wI64 k54
    exact path_wp (G:=given kp116 [(12,4,.elem (vu (o.getD i.toNat default)))] []) 1000 [false,false] ⟨(atC (cd Tryz.f116) [1,1,1,0,1,0,0]),[(0,AV.vec fa 1 (us a)),(1,AV.vec fb 1 (us b)),(5,AV.row 0 0),(6,vu 1),(7,vi (wi (i + 1)))],[⟨(us o).set i.toNat (vu (wv (wv (a.getD i.toNat default + 1000000000) - c))),1,0,false,true⟩],_,[((us o).get?Internal i.toNat = some (vu (o.getD i.toNat default)))],_⟩ (by kernel_rfl) (bc (beq_f (fun h => d14 (i13.1 h))) (bc (beq_f (fun h => d39 (i38.1 h))) (bc rfl (bc (i_dec.2 k5) (bc (i51.2 k52) (bc rfl b0)))))) (qc (el_map k52) q0) c0 (by (try rw [w9]);(try rw [w11]);(try rw [w53]);(try rw [w55]);all_goals exact H)
 ·have H:=H.2 d3
  obtain ⟨k56,H⟩:=H
  exact path_rq (G:=given kp116 [(13,1,.call (vf (us (Sp.trimL o))) none)] []) 1000 [false] (vf (us (Sp.trimL o))) (by kernel_rfl) (bc (beq_f (fun h => d3 (i2.1 h))) (bc rfl b0)) q0 (ce (@ev80_d (false) (o) k56) c0) H
theorem rTimes (fa fb:Bool) (a b:List Int)  (dq:AV) (H :
  (-9223372036854775808 <= (↑a.length:Int) + (↑b.length:Int) /\ (↑a.length:Int) + (↑b.length:Int) <= 9223372036854775807) /\
  (0 <= (↑a.length:Int) + (↑b.length:Int)) /\
  (((↑a.length:Int) + (↑b.length:Int)) * 4 <= 1099511627776) /\
  ((↑a.length:Int) + (↑b.length:Int) <= 1099511627776) /\
  rTimesA_at (fa) (fb) (a) (b) (List.replicate ((↑a.length:Int) + (↑b.length:Int)).toNat (0:Int)) (0) (PureQ dq)) :
 rTimes_at fa fb a b (PureQ dq):=by
 unfold rTimes_at
 have w1:(us a).length = a.length:=List.length_map ..
 have w2:(us b).length = b.length:=List.length_map ..
 obtain ⟨k3,H⟩:=H
 have w4:wi ((↑a.length:Int) + (↑b.length:Int)) = (↑a.length:Int) + (↑b.length:Int):=wI64 k3
 have i5:(decide (0 <= wi ((↑(us a).length:Int) + (↑(us b).length:Int)))) = true ↔ (0 <= (↑a.length:Int) + (↑b.length:Int)):=(by (try rw [w1]);(try rw [w2]);(try rw [w4]);all_goals exact i_dec)
 obtain ⟨k6,H⟩:=H
 have i7:(decide (wi ((↑(us a).length:Int) + (↑(us b).length:Int)) <= wi ((↑(us a).length:Int) + (↑(us b).length:Int)))) = true ↔ ((↑a.length:Int) + (↑b.length:Int) <= (↑a.length:Int) + (↑b.length:Int)):=(by (try rw [w1]);(try rw [w2]);(try rw [w4]);all_goals exact i_dec)
 have i8:(decide (wi ((↑(us a).length:Int) + (↑(us b).length:Int)) * 4 <= 1099511627776)) = true ↔ (((↑a.length:Int) + (↑b.length:Int)) * 4 <= 1099511627776):=(by (try rw [w1]);(try rw [w2]);(try rw [w4]);all_goals exact i_dec)
 obtain ⟨k9,H⟩:=H
 have i10:(decide (wi ((↑(us a).length:Int) + (↑(us b).length:Int)) <= 1099511627776)) = true ↔ ((↑a.length:Int) + (↑b.length:Int) <= 1099511627776):=(by (try rw [w1]);(try rw [w2]);(try rw [w4]);all_goals exact i_dec)
 obtain ⟨k11,H⟩:=H
 have w12:List.replicate ((↑a.length:Int) + (↑b.length:Int)).toNat (vu 0) = us (List.replicate ((↑a.length:Int) + (↑b.length:Int)).toNat (0:Int)):=(lm_rep rfl)
 exact path_wp (G:=given kp86 [] []) 1000 [] ⟨(atC (cd Tryz.f86) [1,1,0,1,0,0]),[(0,AV.vec fa 1 (us a)),(1,AV.vec fb 1 (us b)),(5,AV.row 0 0),(6,vi 0)],[⟨List.replicate (wi ((↑(us a).length:Int) + (↑(us b).length:Int))).toNat (vu 0),1,0,false,true⟩],[decide (0 <= wi ((↑(us a).length:Int) + (↑(us b).length:Int))),decide (wi ((↑(us a).length:Int) + (↑(us b).length:Int)) <= wi ((↑(us a).length:Int) + (↑(us b).length:Int))),decide (wi ((↑(us a).length:Int) + (↑(us b).length:Int)) * 4 <= 1099511627776),decide (wi ((↑(us a).length:Int) + (↑(us b).length:Int)) <= 1099511627776)],[],_⟩ (by kernel_rfl) (bc (i5.2 k6) (bc (i7.2 (by omega)) (bc (i8.2 k9) (bc (i10.2 k11) b0)))) q0 c0 (by (try rw [w1]);(try rw [w2]);(try rw [w4]);(try rw [w12]);all_goals exact H)
theorem rTimesA (fa fb:Bool) (a b:List Int) (o:List Int) (i:Int)  (dq:AV) (H :
  ((i < (↑a.length:Int)) -> rTimesB_at (fa) (fb) (a) (b) (o) (i) (0) (0) (PureQ dq)) /\
  (¬(i < (↑a.length:Int)) -> (Sp.short o.length) /\
   Weak (vf (us (Sp.trimL o))) dq)) :
 rTimesA_at fa fb a b o i (PureQ dq):=by
 unfold rTimesA_at
 have w1:(us a).length = a.length:=List.length_map ..
 have i2:(decide (i < (↑(us a).length:Int))) = true ↔ (i < (↑a.length:Int)):=(by (try rw [w1]);all_goals exact i_dec)
 rcases xm (i < (↑a.length:Int)) with d3 | d3
 ·have H:=H.1 d3
  exact path_wp (G:=given kp86 [] []) 1000 [true] ⟨(atC (cd Tryz.f86) [1,1,0,1,0,0,1,0,0,1,0,1,0,0]),[(0,AV.vec fa 1 (us a)),(1,AV.vec fb 1 (us b)),(5,AV.row 0 0),(6,vi i),(7,vw 0),(8,vi 0)],[⟨us o,1,0,false,true⟩],_,[],_⟩ (by kernel_rfl) (bc (beq_t (i2.2 d3)) b0) q0 c0 (H)
 ·have H:=H.2 d3
  obtain ⟨k4,H⟩:=H
  exact path_rq (G:=given kp86 [(13,1,.call (vf (us (Sp.trimL o))) none)] []) 1000 [false] (vf (us (Sp.trimL o))) (by kernel_rfl) (bc (beq_f (fun h => d3 (i2.1 h))) (bc rfl b0)) q0 (ce (@ev80_d (false) (o) k4) c0) H
theorem rTimesB (fa fb:Bool) (a b:List Int) (o:List Int) (i c k:Int)  (dq:AV) (H :
  ((k < (↑b.length:Int)) -> (-9223372036854775808 <= i + k /\ i + k <= 9223372036854775807) /\
   (0 <= i + k) /\
   ((i + k).toNat < o.length) /\
   (0 <= i) /\
   (i.toNat < a.length) /\
   (0 <= k) /\
   (k.toNat < b.length) /\
   (0 <= o.getD (i + k).toNat default /\ o.getD (i + k).toNat default <= 18446744073709551615) /\
   (0 <= c + o.getD (i + k).toNat default /\ c + o.getD (i + k).toNat default <= 18446744073709551615) /\
   (0 <= a.getD i.toNat default /\ a.getD i.toNat default <= 18446744073709551615) /\
   (0 <= b.getD k.toNat default /\ b.getD k.toNat default <= 18446744073709551615) /\
   (0 <= a.getD i.toNat default * b.getD k.toNat default /\ a.getD i.toNat default * b.getD k.toNat default <= 18446744073709551615) /\
   (0 <= c + o.getD (i + k).toNat default + a.getD i.toNat default * b.getD k.toNat default /\ c + o.getD (i + k).toNat default + a.getD i.toNat default * b.getD k.toNat default <= 18446744073709551615) /\
   (0 <= (c + o.getD (i + k).toNat default + a.getD i.toNat default * b.getD k.toNat default).tmod 1000000000 /\ (c + o.getD (i + k).toNat default + a.getD i.toNat default * b.getD k.toNat default).tmod 1000000000 <= 4294967295) /\
   (0 <= (c + o.getD (i + k).toNat default + a.getD i.toNat default * b.getD k.toNat default).tdiv 1000000000 /\ (c + o.getD (i + k).toNat default + a.getD i.toNat default * b.getD k.toNat default).tdiv 1000000000 <= 18446744073709551615) /\
   (-9223372036854775808 <= k + 1 /\ k + 1 <= 9223372036854775807) /\
   rTimesB_at (fa) (fb) (a) (b) (o.set (i + k).toNat ((c + o.getD (i + k).toNat default + a.getD i.toNat default * b.getD k.toNat default).tmod 1000000000)) (i) ((c + o.getD (i + k).toNat default + a.getD i.toNat default * b.getD k.toNat default).tdiv 1000000000) (k + 1) (PureQ dq)) /\
  (¬(k < (↑b.length:Int)) -> (-9223372036854775808 <= i + (↑b.length:Int) /\ i + (↑b.length:Int) <= 9223372036854775807) /\
   (0 <= i + (↑b.length:Int)) /\
   ((i + (↑b.length:Int)).toNat < o.length) /\
   (0 <= c /\ c <= 4294967295) /\
   (-9223372036854775808 <= i + 1 /\ i + 1 <= 9223372036854775807) /\
   rTimesA_at (fa) (fb) (a) (b) (o.set (i + (↑b.length:Int)).toNat c) (i + 1) (PureQ dq))) :
 rTimesB_at fa fb a b o i c k (PureQ dq):=by
 unfold rTimesB_at
 have w1:(us b).length = b.length:=List.length_map ..
 have i2:(decide (k < (↑(us b).length:Int))) = true ↔ (k < (↑b.length:Int)):=(by (try rw [w1]);all_goals exact i_dec)
 rcases xm (k < (↑b.length:Int)) with d3 | d3
 ·have H:=H.1 d3
  obtain ⟨k4,H⟩:=H
  have w5:wi (i + k) = i + k:=wI64 k4
  have i6:(decide (0 <= wi (i + k))) = true ↔ (0 <= i + k):=(by (try rw [w5]);all_goals exact i_dec)
  obtain ⟨k7,H⟩:=H
  have w8:(us o).length = o.length:=List.length_map ..
  have i9:(decide ((wi (i + k)).toNat < (us o).length)) = true ↔ ((i + k).toNat < o.length):=(by (try rw [w5]);(try rw [w8]);all_goals exact i_dec)
  obtain ⟨k10,H⟩:=H
  obtain ⟨k12,H⟩:=H
  have w13:(us a).length = a.length:=List.length_map ..
  have i14:(decide (i.toNat < (us a).length)) = true ↔ (i.toNat < a.length):=(by (try rw [w13]);all_goals exact i_dec)
  obtain ⟨k15,H⟩:=H
  obtain ⟨k17,H⟩:=H
  have i18:(decide (k.toNat < (us b).length)) = true ↔ (k.toNat < b.length):=(by (try rw [w1]);all_goals exact i_dec)
  obtain ⟨k19,H⟩:=H
  obtain ⟨k20,H⟩:=H
  have w21:wu (o.getD (i + k).toNat default) = o.getD (i + k).toNat default:=wU64 k20
  obtain ⟨k22,H⟩:=H
  have w23:wu (c + o.getD (i + k).toNat default) = c + o.getD (i + k).toNat default:=wU64 k22
  obtain ⟨k24,H⟩:=H
  have w25:wu (a.getD i.toNat default) = a.getD i.toNat default:=wU64 k24
  obtain ⟨k26,H⟩:=H
  have w27:wu (b.getD k.toNat default) = b.getD k.toNat default:=wU64 k26
  obtain ⟨k28,H⟩:=H
  have w29:wu (a.getD i.toNat default * b.getD k.toNat default) = a.getD i.toNat default * b.getD k.toNat default:=wU64 k28
  obtain ⟨k30,H⟩:=H
  have w31:wu (c + o.getD (i + k).toNat default + a.getD i.toNat default * b.getD k.toNat default) = c + o.getD (i + k).toNat default + a.getD i.toNat default * b.getD k.toNat default:=wU64 k30
  have i32:(decide (0 <= wi (i + k))) = true ↔ (0 <= i + k):=(by (try rw [w5]);all_goals exact i_dec)
  have i33:(decide ((wi (i + k)).toNat < (us o).length)) = true ↔ ((i + k).toNat < o.length):=(by (try rw [w5]);(try rw [w8]);all_goals exact i_dec)
  obtain ⟨k34,H⟩:=H
  have w35:wv ((c + o.getD (i + k).toNat default + a.getD i.toNat default * b.getD k.toNat default).tmod 1000000000) = (c + o.getD (i + k).toNat default + a.getD i.toNat default * b.getD k.toNat default).tmod 1000000000:=wU32 k34
  have w36:(us o).set (i + k).toNat (vu ((c + o.getD (i + k).toNat default + a.getD i.toNat default * b.getD k.toNat default).tmod 1000000000)) = us (o.set (i + k).toNat ((c + o.getD (i + k).toNat default + a.getD i.toNat default * b.getD k.toNat default).tmod 1000000000)):=(lm_set rfl rfl)
  obtain ⟨k37,H⟩:=H
  have w38:wu ((c + o.getD (i + k).toNat default + a.getD i.toNat default * b.getD k.toNat default).tdiv 1000000000) = (c + o.getD (i + k).toNat default + a.getD i.toNat default * b.getD k.toNat default).tdiv 1000000000:=wU64 k37
  obtain ⟨k39,H⟩:=H
  have w40:wi (k + 1) = k + 1:=wI64 k39
  exact path_wp (G:=given kp86 [(9,6,.elem (vu (o.getD (i + k).toNat default))),(9,12,.elem (vu (a.getD i.toNat default))),(9,17,.elem (vu (b.getD k.toNat default))),(10,8,.elem (vu (o.getD (i + k).toNat default)))] []) 1000 [true] ⟨(atC (cd Tryz.f86) [1,1,0,1,0,0,1,0,0,1,0,1,0,0]),[(0,AV.vec fa 1 (us a)),(1,AV.vec fb 1 (us b)),(5,AV.row 0 0),(6,vi i),(7,vw (wu ((wu (wu (c + wu (o.getD (i + k).toNat default)) + wu (wu (a.getD i.toNat default) * wu (b.getD k.toNat default)))).tdiv 1000000000))),(8,vi (wi (k + 1)))],[⟨(us o).set (wi (i + k)).toNat (vu (wv ((wu (wu (c + wu (o.getD (i + k).toNat default)) + wu (wu (a.getD i.toNat default) * wu (b.getD k.toNat default)))).tmod 1000000000))),1,0,false,true⟩],_,[((us o).get?Internal (wi (i + k)).toNat = some (vu (o.getD (i + k).toNat default))),((us a).get?Internal i.toNat = some (vu (a.getD i.toNat default))),((us b).get?Internal k.toNat = some (vu (b.getD k.toNat default))),((us o).get?Internal (wi (i + k)).toNat = some (vu (o.getD (i + k).toNat default)))],_⟩ (by kernel_rfl) (bc (beq_t (i2.2 d3)) (bc rfl (bc (i6.2 k7) (bc (i9.2 k10) (bc rfl (bc (i_dec.2 k12) (bc (i14.2 k15) (bc (i_dec.2 k17) (bc (i18.2 k19) (bc rfl (bc rfl (bc (i32.2 k7) (bc (i33.2 k10) (bc rfl (bc rfl b0))))))))))))))) (qc (by (try rw [w5]);all_goals exact (el_map k10)) (qc (el_map k15) (qc (el_map k19) (qc (by (try rw [w5]);all_goals exact (el_map k10)) q0)))) c0 (by (try rw [w5]);(try rw [w21]);(try rw [w23]);(try rw [w25]);(try rw [w27]);(try rw [w29]);(try rw [w31]);(try rw [w35]);(try rw [w36]);(try rw [w38]);(try rw [w40]);all_goals exact H)
 ·have H:=H.2 d3
  obtain ⟨k41,H⟩:=H
  have w42:wi (i + (↑b.length:Int)) = i + (↑b.length:Int):=wI64 k41
  have i43:(decide (0 <= wi (i + (↑(us b).length:Int)))) = true ↔ (0 <= i + (↑b.length:Int)):=(by (try rw [w1]);(try rw [w42]);all_goals exact i_dec)
  obtain ⟨k44,H⟩:=H
  have w45:(us o).length = o.length:=List.length_map ..
  have i46:(decide ((wi (i + (↑(us b).length:Int))).toNat < (us o).length)) = true ↔ ((i + (↑b.length:Int)).toNat < o.length):=(by (try rw [w1]);(try rw [w42]);(try rw [w45]);all_goals exact i_dec)
  obtain ⟨k47,H⟩:=H
  obtain ⟨k48,H⟩:=H
  have w49:wv c = c:=wU32 k48
  have w50:(us o).set (i + (↑b.length:Int)).toNat (vu c) = us (o.set (i + (↑b.length:Int)).toNat c):=(lm_set rfl rfl)
  obtain ⟨k51,H⟩:=H
  have w52:wi (i + 1) = i + 1:=wI64 k51
  exact path_wp (G:=given kp86 [(12,8,.elem (vu (o.getD (i + (↑b.length:Int)).toNat default)))] []) 1000 [false] ⟨(atC (cd Tryz.f86) [1,1,0,1,0,0]),[(0,AV.vec fa 1 (us a)),(1,AV.vec fb 1 (us b)),(5,AV.row 0 0),(6,vi (wi (i + 1)))],[⟨(us o).set (wi (i + (↑(us b).length:Int))).toNat (vu (wv c)),1,0,false,true⟩],_,[((us o).get?Internal (wi (i + (↑(us b).length:Int))).toNat = some (vu (o.getD (i + (↑b.length:Int)).toNat default)))],_⟩ (by kernel_rfl) (bc (beq_f (fun h => d3 (i2.1 h))) (bc rfl (bc (i43.2 k44) (bc (i46.2 k47) (bc rfl b0))))) (qc (by (try rw [w1]);(try rw [w42]);all_goals exact (el_map k47)) q0) c0 (by (try rw [w1]);(try rw [w42]);(try rw [w49]);(try rw [w50]);(try rw [w52]);all_goals exact H)
end Go.Av

namespace Go.Av
open Go.Proofs
theorem big_lim (f s:Bool) (v:Nat):bigA f (Sp.sg s v) = .agg [.bool (bif s then decide (((Sp.lim v).length:Int) > 0) else false),.vec f 1 ((Sp.lim v).map (.int .u32))]:=by
 rw [big_sg]
 have hc:=cnt_eq_zero (v:=v)
 have e:decide (v ≠ 0) = decide (((Sp.lim v).length:Int) > 0):=by
  rw [decide_eq_decide,lim_len];omega
 rw [e]
theorem rsignedN (s fa:Bool) (k v:Nat) (h:Sp.short k /\ Sp.fits k v):Ev M1 (.pure 83 [.bool s,usA fa (Sp.limN k v)]) (bigA false (Sp.sg s v)) []:=by
 refine call83 (rSigned _ _ _ _ _ ⟨h,?_⟩)
 rw [big_lim];exact .refl _
theorem ev83_a (s fa:Bool) (v:Int) (h:Sp.ok v):Ev M1 (.pure 83 [.bool s,usA fa (Sp.limI v)]) (bigA false (Sp.sg s v.natAbs)) []:=rsignedN s fa _ _ ⟨h,fits_self _⟩
theorem ev83_b (s fa:Bool) (v:Nat) (h:Sp.short (Sp.cnt v)):Ev M1 (.pure 83 [.bool s,usA fa (Sp.lim v)]) (bigA false (Sp.sg s v)) []:=rsignedN s fa _ _ ⟨h,fits_self _⟩
theorem cnt_u64 {u:Nat} (h:u <= 18446744073709551615):Sp.cnt u <= 3:=fits_cnt.1 (fits3 h)
theorem ev57 (n:Int) (h:Sp.inI n):Ev M1 (.pure 57 [.int .i64 n]) (bigA false n) []:=by
 unfold Sp.inI at h
 refine call57 (rFromInt64 n _ ⟨fun k => ?_,fun k => ?_⟩)
 ·have e1:IntKind.u64.wrap (0 - IntKind.u64.wrap n) = -n:=by
   rw [wrap_neg ⟨h.1,k⟩]
   have e1:(2:Int) ^ IntKind.u64.bits = 18446744073709551616:=rfl
   have e3:IntKind.u64.signed = false:=rfl
   simp only [IntKind.wrap,e1,e3,Bool.false_and,Bool.false_eq_true,if_false]
   omega
  have e2:Sp.sg true (-n).toNat = n:=by unfold Sp.sg;rw [if_pos rfl];omega
  rw [e1]
  have:=ev83_b true false (-n).toNat (by have:=cnt_u64 (u:=(-n).toNat) (by omega);unfold Sp.short;omega)
  rw [e2] at this
  exact ⟨by omega,_,_,this,.refl _⟩
 ·have e1:IntKind.u64.wrap n = n:=wU64 ⟨by omega,by omega⟩
  have e2:Sp.sg false n.toNat = n:=by rw [sg_false];omega
  rw [e1]
  have:=ev83_b false false n.toNat (by have:=cnt_u64 (u:=n.toNat) (by omega);unfold Sp.short;omega)
  rw [e2] at this
  exact ⟨by omega,_,_,this,.refl _⟩
theorem trimL_limN {k v:Nat} (h:Sp.fits k v):Sp.trimL (Sp.limN k v) = Sp.lim v:=by
 unfold Sp.trimL
 rw [limN_len];exact trimF_limN k v h
theorem set_last {o:List Int} {n:Nat} {c:Int} (h:o.length = n + 1):o.set n c = o.take n ++ [c]:=by
 have:=take_set_succ (o:=o) (i:=n) (d:=c) (by omega)
 rwa [List.take_of_length_le (by simp;omega)] at this
theorem loopPlusR {fa fb:Bool} {n m v w:Nat} {R:List Int} (hn:n <= 900000) (hmn:m <= n) (hv:Sp.fits n v) (hw:Sp.fits m w):∀ (k i:Nat) (o:List Int) (c:Nat),i + k = n -> c <= 1 -> o.length = n + 1 ->
  o.take i ++ Sp.limN (k + 1) (v / 1000000000 ^ i + w / 1000000000 ^ i + c) = R -> rPlusA_at fa fb (Sp.limN n v) (Sp.limN m w) o c i (PureQ (usA false (Sp.trimL R)))
 | 0,i,o,c,hi,hc,hol,hq => by
  have hi:i = n:=by omega
  subst hi
  rw [fits_div hv (by omega),fits_div hw (by omega)] at hq
  have e:Sp.limN 1 (0 + 0 + c) = [(c:Int)]:=by simp [Sp.limN];omega
  rw [Nat.zero_add,e,<- set_last hol] at hq
  refine rPlusA _ _ _ _ _ _ _ _ ⟨fun h => by rw [limN_len] at h;omega,fun _ => ?_⟩
  rw [limN_len,Int.toNat_natCast,hq]
  have hR:R.length = i + 1:=by rw [<- hq];simpa using hol
  exact ⟨by omega,by omega,by unfold Sp.short;omega,.refl _⟩
 | k + 1,i,o,c,hi,hc,hol,hq => by
  have gx:=limN_getD v (show i < n by omega)
  rw [plus_step,div_next,div_next] at hq
  have nxt:∀ (d c':Int),d = (((v / 1000000000 ^ i % 1000000000 + w / 1000000000 ^ i % 1000000000 + c) % 1000000000:Nat):Int) -> c' = (((v / 1000000000 ^ i % 1000000000 + w / 1000000000 ^ i % 1000000000 + c) / 1000000000:Nat):Int) -> (v / 1000000000 ^ i % 1000000000 + w / 1000000000 ^ i % 1000000000 + c) / 1000000000 <= 1 -> rPlusA_at fa fb (Sp.limN n v) (Sp.limN m w) (o.set i d) c' ((i:Int) + 1) (PureQ (usA false (Sp.trimL R))):=by
   intro d c' hd hc' hc1
   subst hc'
   refine loopPlusR hn hmn hv hw k (i + 1) (o.set i d) _ (by omega) hc1 (by simpa using hol) ?_
   rw [take_set_succ (by omega),<- hq,hd,List.append_assoc];rfl
  refine rPlusA _ _ _ _ _ _ _ _ ⟨fun _ => ?_,fun h => by rw [limN_len] at h;omega⟩
  rw [Int.toNat_natCast,gx,limN_len,limN_len]
  by_cases him:i < m
  ·rw [limN_getD w him]
   generalize v / 1000000000 ^ i = V at nxt
   generalize w / 1000000000 ^ i = W at nxt
   have e3:(c:Int) + ((V % 1000000000:Nat):Int) + ((W % 1000000000:Nat):Int) = ((V % 1000000000 + W % 1000000000 + c:Nat):Int):=by omega
   rw [e3,tdivB,tmodB]
   exact ⟨by omega,by omega,by omega,fun _ => ⟨by omega,by omega,by omega,by omega,by omega,nxt _ _ rfl rfl (by omega)⟩,fun h => by omega⟩
  ·have hW:=fits_div hw (show m <= i by omega)
   rw [hW] at nxt
   generalize v / 1000000000 ^ i = V at nxt
   have e3:(c:Int) + ((V % 1000000000:Nat):Int) = ((V % 1000000000 + 0 % 1000000000 + c:Nat):Int):=by omega
   rw [e3,tdivB,tmodB]
   exact ⟨by omega,by omega,by omega,fun h => by omega,fun _ => ⟨by omega,by omega,by omega,nxt _ _ rfl rfl (by omega)⟩⟩
theorem rplusN (fa fb:Bool) (v w:Nat) (h1:Sp.cnt v <= 900000) (h2:Sp.cnt w <= 900000):Ev M1 (.pure 122 [usA fa (Sp.lim v),usA fb (Sp.lim w)]) (usA false (Sp.lim (v + w))) []:=by
 refine call122 (rPlus _ _ _ _ _ ?_)
 rw [lim_len,lim_len]
 refine ⟨fun k => ⟨by omega,by omega,by omega,by omega,?_⟩,fun k => ⟨by omega,by omega,by omega,by omega,?_⟩⟩
 ·have hf:Sp.fits (Sp.cnt w + 1) (w + v):=fits_sum (fits_self w) (fits_mono (fits_self v) (by omega))
  have e:((Sp.cnt w:Int) + 1).toNat = Sp.cnt w + 1:=by omega
  have:=loopPlusR (fa:=fb) (fb:=fa) (v:=w) (w:=v) (R:=Sp.limN (Sp.cnt w + 1) (w + v)) h2 (show Sp.cnt v <= Sp.cnt w by omega) (fits_self _) (fits_self _) (Sp.cnt w) 0 (List.replicate (Sp.cnt w + 1) 0) 0 (by omega) (by omega) (by simp) (by simp)
  rw [trimL_limN hf,Nat.add_comm w v] at this
  rw [e];exact this
 ·have hf:Sp.fits (Sp.cnt v + 1) (v + w):=fits_sum (fits_self v) (fits_mono (fits_self w) (by omega))
  have e:((Sp.cnt v:Int) + 1).toNat = Sp.cnt v + 1:=by omega
  have:=loopPlusR (fa:=fa) (fb:=fb) (v:=v) (w:=w) (R:=Sp.limN (Sp.cnt v + 1) (v + w)) h1 (show Sp.cnt w <= Sp.cnt v by omega) (fits_self _) (fits_self _) (Sp.cnt v) 0 (List.replicate (Sp.cnt v + 1) 0) 0 (by omega) (by omega) (by simp) (by simp)
  rw [trimL_limN hf] at this
  rw [e];exact this
theorem ev122 (fa fb:Bool) (v w:Int) (h:Sp.okB v /\ Sp.okB w):Ev M1 (.pure 122 [usA fa (Sp.limI v),usA fb (Sp.limI w)]) (usA false (Sp.lim (v.natAbs + w.natAbs))) []:=
 rplusN fa fb _ _ (by have:=h.1;unfold Sp.okB at this;omega) (by have:=h.2;unfold Sp.okB at this;omega)
theorem loopMinusR {fa fb:Bool} {n m v w:Nat} {R:List Int} (hn:n <= 1000000) (hv:Sp.fits n v) (hw:Sp.fits m w) (hm:m <= 1000000):∀ (k i:Nat) (o:List Int) (c:Nat),i + k = n -> c <= 1 -> o.length = n -> w / 1000000000 ^ i + c <= v / 1000000000 ^ i ->
  o.take i ++ Sp.limN k (v / 1000000000 ^ i - w / 1000000000 ^ i - c) = R -> rMinusA_at fa fb (Sp.limN n v) (Sp.limN m w) o c i (PureQ (usA false (Sp.trimL R)))
 | 0,i,o,c,hi,hc,hol,hle,hq => by
  rw [List.take_of_length_le (by omega),Sp.limN,List.append_nil] at hq
  refine rMinusA _ _ _ _ _ _ _ _ ⟨fun h => by rw [limN_len] at h;omega,fun _ => ?_⟩
  rw [hq]
  rw [hq] at hol
  exact ⟨by unfold Sp.short;omega,.refl _⟩
 | k + 1,i,o,c,hi,hc,hol,hle,hq => by
  have gx:=limN_getD v (show i < n by omega)
  obtain ⟨s1,s2⟩:=minus_step k (v / 1000000000 ^ i) (w / 1000000000 ^ i) c hle hc
  rw [div_next,div_next] at s1 s2
  have nxt1:v / 1000000000 ^ i % 1000000000 < w / 1000000000 ^ i % 1000000000 + c -> ∀ d:Int,((v / 1000000000 ^ i % 1000000000 + 1000000000 - (w / 1000000000 ^ i % 1000000000 + c):Nat):Int) = d -> rMinusA_at fa fb (Sp.limN n v) (Sp.limN m w) (o.set i d) (1:Nat) ((i:Int) + 1) (PureQ (usA false (Sp.trimL R))):=by
   intro hlt d hd
   obtain ⟨t1,t2⟩:=s1 hlt
   refine loopMinusR hn hv hw hm k (i + 1) (o.set i d) 1 (by omega) (by omega) (by simpa using hol) t2 ?_
   rw [take_set_succ (by omega),<- hq,t1,hd,List.append_assoc];rfl
  have nxt0:¬v / 1000000000 ^ i % 1000000000 < w / 1000000000 ^ i % 1000000000 + c -> ∀ d:Int,((v / 1000000000 ^ i % 1000000000 - (w / 1000000000 ^ i % 1000000000 + c):Nat):Int) = d -> rMinusA_at fa fb (Sp.limN n v) (Sp.limN m w) (o.set i d) (0:Nat) ((i:Int) + 1) (PureQ (usA false (Sp.trimL R))):=by
   intro hlt d hd
   obtain ⟨t1,t2⟩:=s2 hlt
   refine loopMinusR hn hv hw hm k (i + 1) (o.set i d) 0 (by omega) (by omega) (by simpa using hol) t2 ?_
   rw [take_set_succ (by omega),<- hq,t1,hd,List.append_assoc];rfl
  refine rMinusA _ _ _ _ _ _ _ _ ⟨fun _ => ?_,fun h => by rw [limN_len] at h;omega⟩
  rw [Int.toNat_natCast,gx,limN_len,limN_len]
  by_cases him:i < m
  ·rw [limN_getD w him]
   generalize v / 1000000000 ^ i = V at nxt0 nxt1
   generalize w / 1000000000 ^ i = W at nxt0 nxt1
   exact ⟨by omega,by omega,by omega,by omega,fun _ => ⟨by omega,by omega,fun h => ⟨by omega,by omega,by omega,nxt0 (by omega) _ (by omega)⟩,fun h => ⟨by omega,by omega,nxt1 (by omega) _ (by omega)⟩⟩,fun h => by omega⟩
  ·have hW:=fits_div hw (show m <= i by omega)
   rw [hW] at nxt0 nxt1
   generalize v / 1000000000 ^ i = V at nxt0 nxt1
   exact ⟨by omega,by omega,by omega,by omega,fun h => by omega,fun _ => ⟨fun h => ⟨by omega,by omega,by omega,nxt0 (by omega) _ (by omega)⟩,fun h => ⟨by omega,by omega,nxt1 (by omega) _ (by omega)⟩⟩⟩
theorem rminusN (fa fb:Bool) (v w:Nat) (h1:Sp.cnt v <= 1000000) (h3:w <= v):Ev M1 (.pure 116 [usA fa (Sp.lim v),usA fb (Sp.lim w)]) (usA false (Sp.lim (v - w))) []:=by
 have h2:=cnt_mono h3
 refine call116 (rMinus _ _ _ _ _ ?_)
 rw [lim_len,Int.toNat_natCast]
 refine ⟨by omega,by omega,by omega,?_⟩
 have:=loopMinusR (fa:=fa) (fb:=fb) (v:=v) (w:=w) (R:=Sp.limN (Sp.cnt v) (v - w)) h1 (fits_self _) (fits_self w) (by omega) (Sp.cnt v) 0 (List.replicate (Sp.cnt v) 0) 0 (by omega) (by omega) (by simp) (by simpa using h3) (by simp)
 rw [trimL_limN (fits_le (fits_self v) (Nat.sub_le _ _))] at this
 exact this
theorem ev116 (fa fb:Bool) (v w:Int) (h:Sp.ok v /\ w.natAbs <= v.natAbs):Ev M1 (.pure 116 [usA fa (Sp.limI v),usA fb (Sp.limI w)]) (usA false (Sp.lim (v.natAbs - w.natAbs))) []:=rminusN fa fb _ _ h.1 h.2
theorem ev116_a (fa fb:Bool) (v w:Nat) (h:Sp.short (Sp.cnt v) /\ w <= v):Ev M1 (.pure 116 [usA fa (Sp.lim v),usA fb (Sp.lim w)]) (usA false (Sp.lim (v - w))) []:=rminusN fa fb _ _ h.1 h.2
theorem loopTimesBR {fa fb:Bool} {n v m w i K:Nat} {Q0:List Int} {Q:AV} (hm:m <= 1000000) (hn:n <= 1000000) (hi:i < n) (hK:K <= 1000000) (hw:Sp.fits m w)
  (hq:∀ o:List Int,o = Q0 ++ Sp.zs K -> rTimesA_at fa fb (Sp.limN n v) (Sp.limN m w) o ((i:Int) + 1) (PureQ Q)) :
  ∀ (r j:Nat) (o:List Int) (U c:Nat),j + r = m -> o.length = i + m + 1 + K -> c < 1000000000 -> Sp.fits r U -> o.drop (i + j) = Sp.limN r U ++ Sp.zs (K + 1) -> o.take (i + j) ++ Sp.limN (r + 1) (U + v / 1000000000 ^ i % 1000000000 * (w / 1000000000 ^ j) + c) = Q0 ->
   rTimesB_at fa fb (Sp.limN n v) (Sp.limN m w) o i c j (PureQ Q)
 | 0,j,o,U,c,hj,hol,hc,hU,ho,hQ => by
  have hU0:=fits_zero.1 hU
  have hj':j = m:=by omega
  subst hj'
  rw [fits_div hw (Nat.le_refl _),hU0,Nat.mul_zero] at hQ
  have e:Sp.limN 1 (0 + 0 + c) = [(c:Int)]:=by simp [Sp.limN];omega
  rw [Nat.zero_add,e] at hQ
  rw [hU0,Sp.limN,List.nil_append] at ho
  refine rTimesB _ _ _ _ _ _ _ _ _ ⟨fun h => by rw [limN_len] at h;omega,fun _ => ?_⟩
  rw [limN_len]
  have e1:((i:Int) + (j:Int)).toNat = i + j:=by omega
  rw [e1]
  refine ⟨by omega,by omega,by omega,by omega,by omega,hq _ ?_⟩
  have ho2:o.drop (i + j + 1) = Sp.zs K:=by
   rw [show i + j + 1 = 1 + (i + j) by omega,Nat.add_comm 1,<- List.drop_drop,ho];rfl
  rw [<- hQ,<- ho2]
  rw [List.set_eq_take_append_cons_drop,if_pos (by omega),List.append_assoc];rfl
 | r + 1,j,o,U,c,hj,hol,hc,hU,ho,hQ => by
  have gx:=limN_getD v hi
  have gy:=limN_getD w (show j < m by omega)
  have hx:v / 1000000000 ^ i % 1000000000 < 1000000000:=Nat.mod_lt _ (by omega)
  have e1:((i:Int) + (j:Int)).toNat = i + j:=by omega
  have hod:=drop_getD (d:=o) (i:=i + j) (by omega)
  rw [ho,limN_succ,List.cons_append] at hod
  obtain ⟨g1,g2⟩:=List.cons.inj hod
  have hu:U % 1000000000 < 1000000000:=Nat.mod_lt _ (by omega)
  have hy:w / 1000000000 ^ j % 1000000000 < 1000000000:=Nat.mod_lt _ (by omega)
  obtain ⟨w1,w2⟩:=times_word hu hx hy hc
  rw [times_step,div_next] at hQ
  refine rTimesB _ _ _ _ _ _ _ _ _ ⟨fun _ => ?_,fun h => by rw [limN_len] at h;omega⟩
  rw [Int.toNat_natCast,Int.toNat_natCast,e1,gy,gx,limN_len,limN_len,<- g1]
  have c1:((v / 1000000000 ^ i % 1000000000:Nat):Int) * ((w / 1000000000 ^ j % 1000000000:Nat):Int) = ((v / 1000000000 ^ i % 1000000000 * (w / 1000000000 ^ j % 1000000000):Nat):Int):=(Int.natCast_mul _ _).symm
  rw [c1]
  have main:∀ d c':Int,d = (((U % 1000000000 + v / 1000000000 ^ i % 1000000000 * (w / 1000000000 ^ j % 1000000000) + c) % 1000000000:Nat):Int) -> c' = (((U % 1000000000 + v / 1000000000 ^ i % 1000000000 * (w / 1000000000 ^ j % 1000000000) + c) / 1000000000:Nat):Int) ->
    rTimesB_at fa fb (Sp.limN n v) (Sp.limN m w) (o.set (i + j) d) i c' ((j:Int) + 1) (PureQ Q):=by
   intro d c' hd hc'
   subst hc'
   refine loopTimesBR hm hn hi hK hw hq r (j + 1) _ (U / 1000000000) _ (by omega) (by simpa using hol) w2 (fits_succ.1 hU) ?_ ?_
   ·rw [show i + (j + 1) = i + j + 1 by omega,List.drop_set_of_lt (by omega),<- g2]
   ·rw [show i + (j + 1) = i + j + 1 by omega,take_set_succ (by omega),<- hQ,hd,List.append_assoc];rfl
  have hx':((v / 1000000000 ^ i % 1000000000:Nat):Int) <= 18446744073709551615:=by
   generalize v / 1000000000 ^ i % 1000000000 = z at hx;omega
  have hy':((w / 1000000000 ^ j % 1000000000:Nat):Int) <= 18446744073709551615:=by
   generalize w / 1000000000 ^ j % 1000000000 = z at hy;omega
  generalize v / 1000000000 ^ i % 1000000000 * (w / 1000000000 ^ j % 1000000000) = p at w1 w2 main
  have hu':((U % 1000000000:Nat):Int) < 1000000000:=by omega
  generalize U % 1000000000 = u at w1 w2 main hu'
  have c2:((c:Nat):Int) + ((u:Nat):Int) + ((p:Nat):Int) = ((u + p + c:Nat):Int):=by omega
  rw [c2,tdivB,tmodB]
  exact ⟨by omega,by omega,by omega,by omega,by omega,by omega,by omega,by omega,by omega,⟨Int.natCast_nonneg _,hx'⟩,⟨Int.natCast_nonneg _,hy'⟩,by omega,by omega,by omega,by omega,by omega,main _ _ rfl rfl⟩
theorem loopTimesAR {fa fb:Bool} {n m v w:Nat} {R:List Int} (hn:n <= 400000) (hm:m <= 400000) (hv:Sp.fits n v) (hw:Sp.fits m w) :
  ∀ (k i:Nat) (o:List Int) (U:Nat),i + k = n -> o.length = n + m -> Sp.fits m U -> o.drop i = Sp.limN m U ++ Sp.zs k -> o.take i ++ Sp.limN (m + k) (U + v / 1000000000 ^ i * w) = R -> rTimesA_at fa fb (Sp.limN n v) (Sp.limN m w) o i (PureQ (usA false (Sp.trimL R)))
 | 0,i,o,U,hi,hol,hU,ho,hR => by
  have hi':i = n:=by omega
  subst hi'
  rw [fits_div hv (Nat.le_refl _),Nat.zero_mul,Nat.add_zero,Nat.add_zero] at hR
  have e:Sp.limN m U ++ Sp.zs 0 = Sp.limN m U:=by simp [Sp.zs]
  rw [e] at ho
  rw [<- ho,List.take_append_drop] at hR
  refine rTimesA _ _ _ _ _ _ _ ⟨fun h => by rw [limN_len] at h;omega,fun _ => ?_⟩
  rw [hR]
  rw [hR] at hol
  exact ⟨by unfold Sp.short;omega,.refl _⟩
 | k + 1,i,o,U,hi,hol,hU,ho,hR => by
  have hx:v / 1000000000 ^ i % 1000000000 < 1000000000:=Nat.mod_lt _ (by omega)
  refine rTimesA _ _ _ _ _ _ _ ⟨fun _ => ?_,fun h => by rw [limN_len] at h;omega⟩
  have hf:Sp.fits (m + 1) (U + v / 1000000000 ^ i % 1000000000 * w):=fits_mul rfl hU hw hx
  have step:U + v / 1000000000 ^ i * w = U + v / 1000000000 ^ i % 1000000000 * w + 1000000000 * (v / 1000000000 ^ (i + 1) * w):=by
   have hs:=digit_split v i
   generalize v / 1000000000 ^ (i + 1) = V' at hs ⊢
   generalize v / 1000000000 ^ i % 1000000000 = d at hs ⊢
   rw [hs];grind
  refine loopTimesBR (Q0:=o.take i ++ Sp.limN (m + 1) (U + v / 1000000000 ^ i % 1000000000 * w)) (K:=k) (by omega) (by omega) (by omega) (by omega) hw (fun o' ho' => ?_) m 0 o U 0 (by omega) (by omega) (by omega) hU ho (by simp)
  have hlen:(o.take i).length = i:=by rw [List.length_take];omega
  refine loopTimesAR hn hm hv hw k (i + 1) o' ((U + v / 1000000000 ^ i % 1000000000 * w) / 1000000000) (by omega) ?_ (fits_succ.1 hf) ?_ ?_
  ·rw [ho']
   simp only [List.length_append,hlen,limN_len,Sp.zs,List.length_replicate]
   omega
  ·rw [ho',limN_succ]
   have e1:i + 1 = (o.take i ++ [(((U + v / 1000000000 ^ i % 1000000000 * w) % 1000000000:Nat):Int)]).length:=by simp [hlen]
   rw [e1]
   have e2:o.take i ++ ((((U + v / 1000000000 ^ i % 1000000000 * w) % 1000000000:Nat):Int) :: Sp.limN m ((U + v / 1000000000 ^ i % 1000000000 * w) / 1000000000)) ++ Sp.zs k
     = (o.take i ++ [(((U + v / 1000000000 ^ i % 1000000000 * w) % 1000000000:Nat):Int)]) ++ (Sp.limN m ((U + v / 1000000000 ^ i % 1000000000 * w) / 1000000000) ++ Sp.zs k):=by simp
   rw [e2,List.drop_left]
  ·rw [<- hR,ho',limN_succ,show m + (k + 1) = (m + k) + 1 by omega,limN_succ (m + k)]
   have e1:i + 1 = (o.take i ++ [(((U + v / 1000000000 ^ i % 1000000000 * w) % 1000000000:Nat):Int)]).length:=by simp [hlen]
   have e2:o.take i ++ ((((U + v / 1000000000 ^ i % 1000000000 * w) % 1000000000:Nat):Int) :: Sp.limN m ((U + v / 1000000000 ^ i % 1000000000 * w) / 1000000000)) ++ Sp.zs k
     = (o.take i ++ [(((U + v / 1000000000 ^ i % 1000000000 * w) % 1000000000:Nat):Int)]) ++ (Sp.limN m ((U + v / 1000000000 ^ i % 1000000000 * w) / 1000000000) ++ Sp.zs k):=by simp
   rw [e2,e1,List.take_left,List.append_assoc]
   have e3:(U + v / 1000000000 ^ i * w) % 1000000000 = (U + v / 1000000000 ^ i % 1000000000 * w) % 1000000000:=by rw [step];omega
   have e4:(U + v / 1000000000 ^ i * w) / 1000000000 = (U + v / 1000000000 ^ i % 1000000000 * w) / 1000000000 + v / 1000000000 ^ (i + 1) * w:=by rw [step];omega
   rw [e3,e4,<- e1];rfl
theorem rtimesN (fa fb:Bool) (n v m w:Nat) (h:n <= 400000 /\ m <= 400000 /\ Sp.fits n v /\ Sp.fits m w):Ev M1 (.pure 86 [usA fa (Sp.limN n v),usA fb (Sp.limN m w)]) (usA false (Sp.lim (v * w))) []:=by
 obtain ⟨h1,h2,h3,h4⟩:=h
 refine call86 (rTimes _ _ _ _ _ ?_)
 rw [limN_len,limN_len]
 have e:((n:Int) + (m:Int)).toNat = n + m:=by omega
 rw [e]
 refine ⟨by omega,by omega,by omega,by omega,?_⟩
 have:=loopTimesAR (fa:=fa) (fb:=fb) (R:=Sp.limN (n + m) (v * w)) h1 h2 h3 h4 n 0 (List.replicate (n + m) 0) 0 (by omega) (by simp) (fits_cnt.2 (by rw [cnt_zero];omega)) (by
  rw [List.drop_zero,limN_zero];unfold Sp.zs;rw [List.replicate_append_replicate,Nat.add_comm]) (by simp [Nat.add_comm])
 rw [trimL_limN (fits_prod h3 h4)] at this
 exact this
theorem ev86 (fa fb:Bool) (v w:Int) (h:Sp.okB v /\ Sp.okB w):Ev M1 (.pure 86 [usA fa (Sp.limI v),usA fb (Sp.limI w)]) (usA false (Sp.lim (v.natAbs * w.natAbs))) []:=rtimesN fa fb _ _ _ _ ⟨h.1,h.2,fits_self _,fits_self _⟩
theorem ev86_a (fa fb:Bool) (v w:Nat) (h:Sp.okB v /\ Sp.okB w):Ev M1 (.pure 86 [usA fa (Sp.lim v),usA fb (Sp.lim w)]) (usA false (Sp.lim (v * w))) []:=rtimesN fa fb _ _ _ _ ⟨h.1,h.2,fits_self _,fits_self _⟩
end Go.Av

namespace Go.Av
open Go.Proofs
set_option maxRecDepth 100000
def fi44:Fi:=⟨18,[.tmp 4]⟩
def kp44:List (Nat × List Nat):=[(0,[2,3]),(1,[4])]
def fi47:Fi:=⟨24,[.tmp 4]⟩
def kp47:List (Nat × List Nat):=[(0,[2,3]),(1,[2,3,9]),(2,[11]),(3,[4]),(4,[4]),(5,[2,3,13]),(6,[4]),(7,[4])]
def fi48:Fi:=⟨16,[.cell 4 34]⟩
def kp48:List (Nat × List Nat):=[(0,[2,3,4]),(1,[4])]
def fi96:Fi:=⟨40,[.cell 4 34]⟩
def kp96:List (Nat × List Nat):=[(0,[2,3,4]),(1,[2,3,4,9]),(2,[4]),(3,[2,3,4,23]),(4,[4]),(5,[4])]
def fi115:Fi:=⟨10,[.tmp 4]⟩
def kp115:List (Nat × List Nat):=[(0,[0,1]),(1,[4])]
def fi120:Fi:=⟨9,[.cell 2 34]⟩
def kp120:List (Nat × List Nat):=[(0,[1,2]),(1,[2])]
def fi131:Fi:=⟨9,[.cell 4 34]⟩
def kp131:List (Nat × List Nat):=[(0,[2,3,4]),(1,[4])]
def rSub_at (fa fb:Bool) (a b:Int) (Q:AV -> Heap -> Prop):Prop:=Wp M1 (.run fi131 (atC (cd Tryz.f131) []) [(0,bigA fa a),(1,bigA fb b)] []) Q
def rAdd_at (fa fb:Bool) (a b:Int) (Q:AV -> Heap -> Prop):Prop:=Wp M1 (.run fi96 (atC (cd Tryz.f96) []) [(0,bigA fa a),(1,bigA fb b)] []) Q
def rMul_at (fa fb:Bool) (a b:Int) (Q:AV -> Heap -> Prop):Prop:=Wp M1 (.run fi48 (atC (cd Tryz.f48) []) [(0,bigA fa a),(1,bigA fb b)] []) Q
def rNeg_at (fa:Bool) (v:Int) (Q:AV -> Heap -> Prop):Prop:=Wp M1 (.run fi120 (atC (cd Tryz.f120) []) [(0,bigA fa v)] []) Q
def rCmp_at (fa fb:Bool) (a b:Int) (Q:AV -> Heap -> Prop):Prop:=Wp M1 (.run fi47 (atC (cd Tryz.f47) []) [(0,bigA fa a),(1,bigA fb b)] []) Q
def rSame_at (fa fb:Bool) (a b:Int) (Q:AV -> Heap -> Prop):Prop:=Wp M1 (.run fi44 (atC (cd Tryz.f44) []) [(0,bigA fa a),(1,bigA fb b)] []) Q
def rBy_at (fa:Bool) (v:Nat) (x:Int) (Q:AV -> Heap -> Prop):Prop:=Wp M1 (.run fi115 (atC (cd Tryz.f115) []) [(0,.vec fa 1 ((Sp.lim v).map (.int .u32))),(1,.int .u32 x)] []) Q
theorem call44 {args:List AV} {d:AV} (h:wc M1 fi44 Tryz.f44 args d):Ev M1 (.pure 44 args) d []:=pcl _ _ (by kernel_rfl) h
theorem call47 {args:List AV} {d:AV} (h:wc M1 fi47 Tryz.f47 args d):Ev M1 (.pure 47 args) d []:=pcl _ _ (by kernel_rfl) h
theorem call48 {args:List AV} {d:AV} (h:wc M1 fi48 Tryz.f48 args d):Ev M1 (.pure 48 args) d []:=pcl _ _ (by kernel_rfl) h
theorem call96 {args:List AV} {d:AV} (h:wc M1 fi96 Tryz.f96 args d):Ev M1 (.pure 96 args) d []:=pcl _ _ (by kernel_rfl) h
theorem call115 {args:List AV} {d:AV} (h:wc M1 fi115 Tryz.f115 args d):Ev M1 (.pure 115 args) d []:=pcl _ _ (by kernel_rfl) h
theorem call120 {args:List AV} {d:AV} (h:wc M1 fi120 Tryz.f120 args d):Ev M1 (.pure 120 args) d []:=pcl _ _ (by kernel_rfl) h
theorem call131 {args:List AV} {d:AV} (h:wc M1 fi131 Tryz.f131 args d):Ev M1 (.pure 131 args) d []:=pcl _ _ (by kernel_rfl) h
theorem rSub (fa fb:Bool) (a b:Int)  (dq:AV) (H :
  ∃ (b1:Bool) (l1:List (Int)),
  (Ev M1 (Conf.pure 120 [bigA fb b]) (ag [vb b1,vf (us l1)]) []) /\
  ∃ (b2:Bool) (l2:List (Int)),
  (Ev M1 (Conf.pure 96 [bigA fa a,ag [vb b1,vf (us l1)]]) (ag [vb b2,vf (us l2)]) []) /\
  Weak (ag [vb b2,vf (us l2)]) dq) :
 rSub_at fa fb a b (PureQ dq):=by
 unfold rSub_at
 obtain ⟨b1,l1,H⟩:=H
 obtain ⟨k1,H⟩:=H
 obtain ⟨b2,l2,H⟩:=H
 obtain ⟨k2,H⟩:=H
 exact path_rq (G:=given kp131 [(1,2,.call (ag [vb b1,vf (us l1)]) none),(1,3,.call (ag [vb b2,vf (us l2)]) none)] []) 1000 [] (ag [vb b2,vf (us l2)]) (by kernel_rfl) (bc rfl (bc rfl (bc rfl b0))) q0 (ce k1 (ce k2 c0)) H
theorem rAdd (fa fb:Bool) (a b:Int)  (dq:AV) (H :
  ((Sp.isNeg a = Sp.isNeg b) -> (Sp.okB a /\ Sp.okB b) /\
   (Sp.short (Sp.cnt (a.natAbs + b.natAbs))) /\
   Weak (bigA false (Sp.sg (Sp.isNeg a) (a.natAbs + b.natAbs))) dq) /\
  (¬(Sp.isNeg a = Sp.isNeg b) -> (Sp.ok a /\ Sp.ok b) /\
   ((Sp.sgnI ((↑a.natAbs:Int) - (↑b.natAbs:Int)) >= 0) -> (Sp.ok a /\ b.natAbs <= a.natAbs) /\
    (Sp.short (Sp.cnt (a.natAbs - b.natAbs))) /\
    Weak (bigA false (Sp.sg (Sp.isNeg a) (a.natAbs - b.natAbs))) dq) /\
   (¬(Sp.sgnI ((↑a.natAbs:Int) - (↑b.natAbs:Int)) >= 0) -> (Sp.ok b /\ a.natAbs <= b.natAbs) /\
    (Sp.short (Sp.cnt (b.natAbs - a.natAbs))) /\
    Weak (bigA false (Sp.sg (Sp.isNeg b) (b.natAbs - a.natAbs))) dq))) :
 rAdd_at fa fb a b (PureQ dq):=by
 unfold rAdd_at
 rcases xm (Sp.isNeg a = Sp.isNeg b) with d2 | d2
 ·have H:=H.1 d2
  obtain ⟨k3,H⟩:=H
  obtain ⟨k4,H⟩:=H
  exact path_rq (G:=given kp96 [(2,6,.call (vf (us (Sp.lim (a.natAbs + b.natAbs)))) none),(2,7,.call (bigA false (Sp.sg (Sp.isNeg a) (a.natAbs + b.natAbs))) none)] []) 1000 [true] (bigA false (Sp.sg (Sp.isNeg a) (a.natAbs + b.natAbs))) (by kernel_rfl) (bc rfl (bc rfl (bc (beq_t (i_eq.2 d2)) (bc rfl (bc rfl (bc rfl (bc rfl b0))))))) q0 (ce (@ev122 (fa) (fb) (a) (b) k3) (ce (@ev83_b (Sp.isNeg a) (false) (a.natAbs + b.natAbs) k4) c0)) H
 ·have H:=H.2 d2
  obtain ⟨k5,H⟩:=H
  refine path_wp (G:=given kp96 [(3,4,.call (vi (Sp.sgnI ((↑a.natAbs:Int) - (↑b.natAbs:Int)))) none)] []) 10 [false] ⟨(atC (cd Tryz.f96) [1,1,0,1]),[(2,AV.ptr 0 0 0 0),(3,AV.ptr 1 0 0 0),(4,AV.ptr 2 0 0 0),(23,vb (decide (Sp.sgnI ((↑a.natAbs:Int) - (↑b.natAbs:Int)) >= 0)))],[⟨[bigA fa a],2,0,false,false⟩,⟨[bigA fb b],2,0,false,false⟩,⟨[ag [vb false,AV.vnil]],2,0,false,false⟩],_,[],_⟩ (by kernel_rfl) (bc rfl (bc rfl (bc (beq_f (fun h => d2 (i_eq.1 h))) (bc rfl (bc rfl b0))))) q0 (ce (@ev81 (fa) (fb) (a) (b) k5) c0) ?_
  rcases xm (Sp.sgnI ((↑a.natAbs:Int) - (↑b.natAbs:Int)) >= 0) with d7 | d7
  ·have H:=H.1 d7
   obtain ⟨k8,H⟩:=H
   obtain ⟨k9,H⟩:=H
   exact path_rq (G:=given kp96 [(4,6,.call (vf (us (Sp.lim (a.natAbs - b.natAbs)))) none),(4,7,.call (bigA false (Sp.sg (Sp.isNeg a) (a.natAbs - b.natAbs))) none)] []) 1000 [true] (bigA false (Sp.sg (Sp.isNeg a) (a.natAbs - b.natAbs))) (by kernel_rfl) (bc (beq_t (i_dec.2 d7)) (bc rfl (bc rfl (bc rfl (bc rfl b0))))) q0 (ce (@ev116 (fa) (fb) (a) (b) k8) (ce (@ev83_b (Sp.isNeg a) (false) (a.natAbs - b.natAbs) k9) c0)) H
  ·have H:=H.2 d7
   obtain ⟨k10,H⟩:=H
   obtain ⟨k11,H⟩:=H
   exact path_rq (G:=given kp96 [(5,6,.call (vf (us (Sp.lim (b.natAbs - a.natAbs)))) none),(5,7,.call (bigA false (Sp.sg (Sp.isNeg b) (b.natAbs - a.natAbs))) none)] []) 1000 [false] (bigA false (Sp.sg (Sp.isNeg b) (b.natAbs - a.natAbs))) (by kernel_rfl) (bc (beq_f (fun h => d7 (i_dec.1 h))) (bc rfl (bc rfl (bc rfl (bc rfl b0))))) q0 (ce (@ev116 (fb) (fa) (b) (a) k10) (ce (@ev83_b (Sp.isNeg b) (false) (b.natAbs - a.natAbs) k11) c0)) H
theorem rMul (fa fb:Bool) (a b:Int)  (dq:AV) (H :
  (Sp.okB a /\ Sp.okB b) /\
  (Sp.short (Sp.cnt (a.natAbs * b.natAbs))) /\
  Weak (bigA false (Sp.sg (!Sp.isNeg a == Sp.isNeg b) (a.natAbs * b.natAbs))) dq) :
 rMul_at fa fb a b (PureQ dq):=by
 unfold rMul_at
 obtain ⟨k1,H⟩:=H
 obtain ⟨k2,H⟩:=H
 exact path_rq (G:=given kp48 [(1,9,.call (vf (us (Sp.lim (a.natAbs * b.natAbs)))) none),(1,10,.call (bigA false (Sp.sg (!Sp.isNeg a == Sp.isNeg b) (a.natAbs * b.natAbs))) none)] []) 1000 [] (bigA false (Sp.sg (!Sp.isNeg a == Sp.isNeg b) (a.natAbs * b.natAbs))) (by kernel_rfl) (bc rfl (bc rfl (bc rfl (bc rfl (bc rfl b0))))) q0 (ce (@ev86 (fa) (fb) (a) (b) k1) (ce (@ev83_b (!Sp.isNeg a == Sp.isNeg b) (false) (a.natAbs * b.natAbs) k2) c0)) H
theorem rNeg (fa:Bool) (v:Int)  (dq:AV) (H :
  (Sp.ok v) /\
  Weak (bigA false (Sp.sg (!Sp.isNeg v) v.natAbs)) dq) :
 rNeg_at fa v (PureQ dq):=by
 unfold rNeg_at
 obtain ⟨k1,H⟩:=H
 exact path_rq (G:=given kp120 [(1,5,.call (bigA false (Sp.sg (!Sp.isNeg v) v.natAbs)) none)] []) 1000 [] (bigA false (Sp.sg (!Sp.isNeg v) v.natAbs)) (by kernel_rfl) (bc rfl (bc rfl (bc rfl b0))) q0 (ce (@ev83_a (!Sp.isNeg v) (fa) (v) k1) c0) H
theorem rCmp (fa fb:Bool) (a b:Int)  (dq:AV) (H :
  ((¬(Sp.isNeg a = Sp.isNeg b)) -> ((Sp.isNeg a = true) -> vi (-1) = dq) /\
   (¬(Sp.isNeg a = true) -> vi 1 = dq)) /\
  (¬(¬(Sp.isNeg a = Sp.isNeg b)) -> ((Sp.isNeg a = true) -> (Sp.ok b /\ Sp.ok a) /\
    vi (Sp.sgnI ((↑b.natAbs:Int) - (↑a.natAbs:Int))) = dq) /\
   (¬(Sp.isNeg a = true) -> (Sp.ok a /\ Sp.ok b) /\
    vi (Sp.sgnI ((↑a.natAbs:Int) - (↑b.natAbs:Int))) = dq))) :
 rCmp_at fa fb a b (PureQ dq):=by
 unfold rCmp_at
 rcases xm (¬(Sp.isNeg a = Sp.isNeg b)) with d2 | d2
 ·have H:=H.1 d2
  rcases xm (Sp.isNeg a = true) with d4 | d4
  ·have H:=H.1 d4
   exact path_re (G:=given kp47 [] []) 1000 [true,true] (asm:=[true,true,(!Sp.isNeg a == Sp.isNeg b) == true,0 == 0,(Sp.isNeg a) == true]) (vi (-1)) (by kernel_rfl) (bc rfl (bc rfl (bc (beq_t ((i_not i_eq).2 d2)) (bc (beq_self_eq_true _) (bc (beq_t ((i_var _).2 d4)) b0))))) q0 c0 H
  ·have H:=H.2 d4
   exact path_re (G:=given kp47 [] []) 1000 [true,false] (asm:=[true,true,(!Sp.isNeg a == Sp.isNeg b) == true,0 == 0,(Sp.isNeg a) == false]) (vi 1) (by kernel_rfl) (bc rfl (bc rfl (bc (beq_t ((i_not i_eq).2 d2)) (bc (beq_self_eq_true _) (bc (beq_f (fun h => d4 ((i_var _).1 h))) b0))))) q0 c0 H
 ·have H:=H.2 d2
  rcases xm (Sp.isNeg a = true) with d6 | d6
  ·have H:=H.1 d6
   obtain ⟨k7,H⟩:=H
   exact path_re (G:=given kp47 [(6,4,.call (vi (Sp.sgnI ((↑b.natAbs:Int) - (↑a.natAbs:Int)))) none)] []) 1000 [false,true] (asm:=[true,true,(!Sp.isNeg a == Sp.isNeg b) == false,0 == 0,(Sp.isNeg a) == true,true,true]) (vi (Sp.sgnI ((↑b.natAbs:Int) - (↑a.natAbs:Int)))) (by kernel_rfl) (bc rfl (bc rfl (bc (beq_f (fun h => d2 ((i_not i_eq).1 h))) (bc (beq_self_eq_true _) (bc (beq_t ((i_var _).2 d6)) (bc rfl (bc rfl b0))))))) q0 (ce (@ev81 (fb) (fa) (b) (a) k7) c0) H
  ·have H:=H.2 d6
   obtain ⟨k8,H⟩:=H
   exact path_re (G:=given kp47 [(7,4,.call (vi (Sp.sgnI ((↑a.natAbs:Int) - (↑b.natAbs:Int)))) none)] []) 1000 [false,false] (asm:=[true,true,(!Sp.isNeg a == Sp.isNeg b) == false,0 == 0,(Sp.isNeg a) == false,true,true]) (vi (Sp.sgnI ((↑a.natAbs:Int) - (↑b.natAbs:Int)))) (by kernel_rfl) (bc rfl (bc rfl (bc (beq_f (fun h => d2 ((i_not i_eq).1 h))) (bc (beq_self_eq_true _) (bc (beq_f (fun h => d6 ((i_var _).1 h))) (bc rfl (bc rfl b0))))))) q0 (ce (@ev81 (fa) (fb) (a) (b) k8) c0) H
theorem rSame (fa fb:Bool) (a b:Int)  (dq:AV) (H :
  ((Sp.isNeg a = Sp.isNeg b) -> (Sp.ok a /\ Sp.ok b)) /\
  vb (bif Sp.isNeg a == Sp.isNeg b then Sp.sgnI ((↑a.natAbs:Int) - (↑b.natAbs:Int)) == 0 else false) = dq) :
 rSame_at fa fb a b (PureQ dq):=by
 unfold rSame_at
 obtain ⟨k2,H⟩:=H
 exact path_re (G:=given kp44 [(1,10,.call (vi (Sp.sgnI ((↑a.natAbs:Int) - (↑b.natAbs:Int)))) none)] []) 1000 [] (asm:=[true,true,!((Sp.isNeg a == Sp.isNeg b) == true && true) || true,!((Sp.isNeg a == Sp.isNeg b) == true && true) || true]) (calls:=[⟨(Sp.isNeg a == Sp.isNeg b) == true && true && true,false,81,[AV.vec fa 1 (us (Sp.limI a)),AV.vec fb 1 (us (Sp.limI b))],[],vi (Sp.sgnI ((↑a.natAbs:Int) - (↑b.natAbs:Int))),[]⟩]) (vb (bif Sp.isNeg a == Sp.isNeg b then Sp.sgnI ((↑a.natAbs:Int) - (↑b.natAbs:Int)) == 0 else false)) (by kernel_rfl) (bc rfl (bc rfl (bc (Bool.or_true _) (bc (Bool.or_true _) b0)))) q0 (cc (fun hc => ((@ev81 (fa) (fb) (a) (b) (k2 ((i_at (i_at (i_bt i_eq))).1 hc))):Ev M1 (Conf.pure 81 [AV.vec fa 1 (us (Sp.limI a)),AV.vec fb 1 (us (Sp.limI b))]) (vi (Sp.sgnI ((↑a.natAbs:Int) - (↑b.natAbs:Int)))) [])) c0) H
theorem rBy (fa:Bool) (v:Nat) (x:Int)  (dq:AV) (H :
  ∃ (l1:List (Int)),
  (Ev M1 (Conf.pure 80 [AV.vec true 1 [vu x]]) (vf (us l1)) []) /\
  ∃ (l2:List (Int)),
  (Ev M1 (Conf.pure 86 [AV.vec fa 1 (us (Sp.lim v)),vf (us l1)]) (vf (us l2)) []) /\
  Weak (vf (us l2)) dq) :
 rBy_at fa v x (PureQ dq):=by
 unfold rBy_at
 obtain ⟨l1,H⟩:=H
 obtain ⟨k1,H⟩:=H
 obtain ⟨l2,H⟩:=H
 obtain ⟨k2,H⟩:=H
 exact path_rq (G:=given kp115 [(1,3,.call (vf (us l1)) none),(1,4,.call (vf (us l2)) none)] []) 1000 [] (vf (us l2)) (by kernel_rfl) b0 q0 (ce k1 (ce k2 c0)) H
end Go.Av

namespace Go.Av
open Go.Proofs
theorem cnt_le_of_fits {n v:Nat} (h:Sp.fits n v):Sp.cnt v <= n:=fits_cnt.1 h
theorem sgnI_zero {n:Int}:Sp.sgnI n = 0 ↔ n = 0:=by
 unfold Sp.sgnI
 (repeat' split) <;> omega
theorem ev96 (fa fb:Bool) (a b:Int) (h:Sp.okB a /\ Sp.okB b):Ev M1 (.pure 96 [bigA fa a,bigA fb b]) (bigA false (a + b)) []:=by
 obtain ⟨ha,hb⟩:=h
 have oa:=okB_ok ha
 have ob:=okB_ok hb
 have ha':=ha
 have hb':=hb
 unfold Sp.okB at ha' hb'
 refine call96 (rAdd _ _ _ _ _ ⟨fun h => ⟨⟨ha,hb⟩,?_,?_⟩,fun h => ⟨⟨oa,ob⟩,fun k => ⟨⟨oa,?_⟩,?_,?_⟩,fun k => ⟨⟨ob,?_⟩,?_,?_⟩⟩⟩)
 ·have:=cnt_le_of_fits (fits_sum (fits_mono (fits_self a.natAbs) ha') (fits_mono (fits_self b.natAbs) hb'))
  unfold Sp.short;omega
 ·rw [sg_add h];exact .refl _
 ·have k:¬(Sp.sgnI ((a.natAbs:Int) - (b.natAbs:Int)) < 0):=by omega
  rw [sgnI_lt] at k;omega
 ·have:=cnt_mono (Nat.sub_le a.natAbs b.natAbs)
  unfold Sp.short;omega
 ·have k:¬(Sp.sgnI ((a.natAbs:Int) - (b.natAbs:Int)) < 0):=by omega
  rw [sgnI_lt] at k
  rw [sg_sub h (by omega)];exact .refl _
 ·have k:Sp.sgnI ((a.natAbs:Int) - (b.natAbs:Int)) < 0:=by omega
  rw [sgnI_lt] at k;omega
 ·have:=cnt_mono (Nat.sub_le b.natAbs a.natAbs)
  unfold Sp.short;omega
 ·have k:Sp.sgnI ((a.natAbs:Int) - (b.natAbs:Int)) < 0:=by omega
  rw [sgnI_lt] at k
  rw [sg_sub (fun x => h x.symm) (by omega),Int.add_comm];exact .refl _
theorem ev48 (fa fb:Bool) (a b:Int) (h:Sp.okB a /\ Sp.okB b):Ev M1 (.pure 48 [bigA fa a,bigA fb b]) (bigA false (a * b)) []:=by
 refine call48 (rMul _ _ _ _ _ ⟨h,?_,?_⟩)
 ·have:=cnt_le_of_fits (fits_prod (fits_mono (fits_self a.natAbs) h.1) (fits_mono (fits_self b.natAbs) h.2))
  unfold Sp.short;omega
 ·rw [sg_mul];exact .refl _
theorem sg_not (v:Int):Sp.sg (!Sp.isNeg v) v.natAbs = -v:=by
 unfold Sp.sg
 by_cases k:v < 0
 ·rw [isNeg_iff.2 k,if_neg (by simp)];omega
 ·rw [isNeg_false k,if_pos (by simp)];omega
theorem ev120 (fa:Bool) (v:Int) (h:Sp.ok v):Ev M1 (.pure 120 [bigA fa v]) (bigA false (-v)) []:=by
 refine call120 (rNeg _ _ _ ⟨h,?_⟩)
 rw [sg_not];exact .refl _
theorem ev131 (fa fb:Bool) (a b:Int) (h:Sp.okB a /\ Sp.okB b):Ev M1 (.pure 131 [bigA fa a,bigA fb b]) (bigA false (a - b)) []:=by
 have hb:Sp.okB (-b):=by have:=h.2;unfold Sp.okB at *;rwa [Int.natAbs_neg]
 have en:=ev120 fb b (okB_ok h.2)
 have ea:=ev96 fa false a (-b) ⟨h.1,hb⟩
 exact call131 (rSub _ _ _ _ _ ⟨_,_,en,_,_,ea,.refl _⟩)
theorem ev131_a (fa:Bool) (a:Int) (h:Sp.okB a):Ev M1 (.pure 131 [bigA fa a,.agg [.bool false,.vec false 1 ((Sp.limI 1).map (.int .u32))]]) (bigA false (a - 1)) []:=
 ev131 fa false a 1 ⟨h,okB_small (by decide)⟩
theorem ev47 (fa fb:Bool) (a b:Int) (h:Sp.okB a /\ Sp.okB b):Ev M1 (.pure 47 [bigA fa a,bigA fb b]) (.int .i64 (Sp.sgnI (a - b))) []:=by
 have oa:=okB_ok h.1
 have ob:=okB_ok h.2
 refine call47 (rCmp _ _ _ _ _ ⟨fun k => ⟨fun ka => ?_,fun ka => ?_⟩,fun k => ⟨fun ka => ⟨⟨ob,oa⟩,?_⟩,fun ka => ⟨⟨oa,ob⟩,?_⟩⟩⟩)
 ·have kb:¬b < 0:=fun x => k (by rw [ka,isNeg_iff.2 x])
  rw [isNeg_iff] at ka
  congr 1;unfold Sp.sgnI;rw [if_pos (by omega)]
 ·have kb:b < 0:=by
   by_cases kb:b < 0
   ·exact kb
   ·exact absurd (by rw [Bool.eq_false_iff.2 ka,isNeg_false kb]) k
  have ka:¬a < 0:=fun x => ka (isNeg_iff.2 x)
  congr 1;unfold Sp.sgnI;rw [if_neg (by omega),if_pos (by omega)]
 ·have k:=Classical.not_not.1 k
  have kb:=isNeg_iff.1 (k ▸ ka)
  rw [isNeg_iff] at ka
  congr 2;omega
 ·have k:=Classical.not_not.1 k
  have kb:¬b < 0:=fun x => ka (by rw [k];exact isNeg_iff.2 x)
  have ka:¬a < 0:=fun x => ka (isNeg_iff.2 x)
  congr 2;omega
theorem ev44 (fa fb:Bool) (a b:Int) (h:Sp.ok a /\ Sp.ok b):Ev M1 (.pure 44 [bigA fa a,bigA fb b]) (.bool (decide (a = b))) []:=by
 refine call44 (rSame _ _ _ _ _ ⟨fun _ => h,?_⟩)
 congr 1
 by_cases ka:a < 0 <;> by_cases kb:b < 0
 ·rw [isNeg_iff.2 ka,isNeg_iff.2 kb]
  have:(Sp.sgnI ((a.natAbs:Int) - (b.natAbs:Int)) == 0) = decide (a = b):=by
   rw [Bool.eq_iff_iff,beq_iff_eq,sgnI_zero,decide_eq_true_eq];omega
  simpa using this
 ·rw [isNeg_iff.2 ka,isNeg_false kb]
  have:decide (a = b) = false:=decide_eq_false (by omega)
  rw [this];rfl
 ·rw [isNeg_false ka,isNeg_iff.2 kb]
  have:decide (a = b) = false:=decide_eq_false (by omega)
  rw [this];rfl
 ·rw [isNeg_false ka,isNeg_false kb]
  have:(Sp.sgnI ((a.natAbs:Int) - (b.natAbs:Int)) == 0) = decide (a = b):=by
   rw [Bool.eq_iff_iff,beq_iff_eq,sgnI_zero,decide_eq_true_eq];omega
  simpa using this
def Sp.dig (x:Int):Prop:=0 <= x /\ x < 1000000000
theorem ev115 (fa:Bool) (v:Nat) (x:Int) (h:Sp.okB v /\ Sp.dig x):Ev M1 (.pure 115 [usA fa (Sp.lim v),.int .u32 x]) (usA false (Sp.lim (v * x.toNat))) []:=by
 obtain ⟨h1,h2,h3⟩:=h
 have e:[AV.int .u32 x] = (Sp.limN 1 x.toNat).map (.int .u32):=by
  simp only [Sp.limN,List.map_cons,List.map_nil]
  have:((x.toNat % 1000000000:Nat):Int) = x:=by omega
  rw [this]
 have hx:Sp.fits 1 x.toNat:=by unfold Sp.fits;omega
 have t1:=rtrimN true 1 x.toNat ⟨by unfold Sp.short;omega,hx⟩
 have hc:=cnt_le_of_fits hx
 have t2:=ev86_a fa false v x.toNat ⟨h1,by unfold Sp.okB;rw [Int.natAbs_natCast];omega⟩
 have t1':Ev M1 (.pure 80 [.vec true 1 [.int .u32 x]]) (usA false (Sp.lim x.toNat)) []:=by rw [e];exact t1
 exact call115 (rBy _ _ _ _ ⟨_,t1',_,t2,.refl _⟩)
theorem lim_cons (x R:Nat) (hx:x < 1000000000):Sp.trimL ((x:Int) :: Sp.lim R) = Sp.lim (x + 1000000000 * R):=by
 have e:((x:Int) :: Sp.lim R) = Sp.limN (Sp.cnt R + 1) (x + 1000000000 * R):=by
  rw [limN_succ]
  have e1:(x + 1000000000 * R) % 1000000000 = x:=by omega
  have e2:(x + 1000000000 * R) / 1000000000 = R:=by omega
  rw [e1,e2];rfl
 rw [e]
 refine trimL_limN (fits_succ.2 ?_)
 have e2:(x + 1000000000 * R) / 1000000000 = R:=by omega
 rw [e2];exact fits_self R
end Go.Av

namespace Go.Av
open Go.Proofs
theorem ev80_c (fa:Bool) (x:Int) (R:Nat) (h:0 <= x /\ x < 1000000000 /\ Sp.cnt R <= 900000):Ev M1 (.pure 80 [.vec fa 1 (.int .u32 x :: (Sp.lim R).map (.int .u32))]) (usA false (Sp.lim (x.toNat + 1000000000 * R))) []:=by
 obtain ⟨n,rfl⟩:=Int.eq_ofNat_of_zero_le h.1
 have:=ev80_d fa ((n:Int) :: Sp.lim R) (by unfold Sp.short;simp only [List.length_cons,lim_len];omega)
 rw [lim_cons n R (by omega)] at this
 exact this
end Go.Av

namespace Go.Av
open Go.Proofs
set_option maxRecDepth 100000
def fi82:Fi:=⟨173,[.tmp 4,.tmp 5]⟩
def kp82:List (Nat × List Nat):=[(0,[0,1]),(1,[0,1,28]),(2,[6,7]),(3,[4,5]),(4,[0,1,8]),(5,[0,8,9]),(6,[0,8,9,10]),(7,[0,8,9,10,11]),(8,[0,8,9,10,11,12]),(9,[8,9,10,11,12,13]),(10,[8,9,10,11,12,13]),(11,[8,9,10,11,12,13,14]),(12,[8,9,10,11,12,13,14,76]),(13,[8,9,10,11,12,13,14]),(14,[8,9,10,11,12,13,14]),(15,[8,9,10,11,12,13,14,15]),(16,[8,9,10,11,12,13,14,15,91]),(17,[8,9,10,11,12,13,14,15]),(18,[8,9,10,11,12,13,14,15,103]),(19,[8,9,10,11,12,13,14,15]),(20,[8,9,10,11,12,13,14,16]),(21,[8,9,10,11,12,13,14,16,117]),(22,[8,9,10,11,12,13,14,16]),(23,[8,9,10,11,12,13,14,16,17]),(24,[8,9,10,11,12,13,14,16,17,125]),(25,[8,9,10,11,12,13,14,16,17]),(26,[8,9,10,11,12,13,14,16,17]),(27,[8,9,10,11,12,13,14,16]),(28,[8,9,10,11,12,13,14]),(29,[8,11,12,18]),(30,[8,11,12,18,19]),(31,[8,11,12,18,19,20]),(32,[8,11,12,18,19,20,146]),(33,[8,11,12,18,19,20]),(34,[8,11,12,18,19,20]),(35,[8,11,12,18,19,20]),(36,[8,11,12,18,19,20]),(37,[4,5])]
def rParts_at (fa fb:Bool) (A D:Nat) (Q:AV -> Heap -> Prop):Prop:=Wp M1 (.run fi82 (atC (cd Tryz.f82) []) [(0,.vec fa 1 ((Sp.lim A).map (.int .u32))),(1,.vec fb 1 ((Sp.lim D).map (.int .u32)))] []) Q
def rPartsA0_at (V U:Nat) (s t i:Int) (n:Nat) (o:List Int) (Q:AV -> Heap -> Prop):Prop:=Wp M1 (.run fi82 (atC (cd Tryz.f82) [1,1,1,1,1,1,1,1,1,0,1,0,0]) [(8,.int .u32 s),(9,.vec false 1 ((Sp.lim V).map (.int .u32))),(10,.int .u64 t),(11,.vnil),(12,.ref 0 0 0 n),(13,.vec false 1 ((Sp.lim U).map (.int .u32))),(14,.int .i64 i)] [⟨o.map (.int .u32),1,0,false,true⟩]) Q
def rPartsAE_at (V U:Nat) (s t i:Int) (n:Nat) (o:List Int) (Q:AV -> Heap -> Prop):Prop:=Wp M1 (.run fi82 (atC (cd Tryz.f82) [1,1,1,1,1,1,1,1,1,0,1,0,0]) [(8,.int .u32 s),(9,.vec false 1 ((Sp.lim V).map (.int .u32))),(10,.int .u64 t),(11,.vec false 1 []),(12,.ref 0 0 0 n),(13,.vec false 1 ((Sp.lim U).map (.int .u32))),(14,.int .i64 i)] [⟨o.map (.int .u32),1,0,false,true⟩]) Q
def rPartsA_at (V U:Nat) (s t i:Int) (n:Nat) (o:List Int) (c:Int) (l:List Int) (Q:AV -> Heap -> Prop):Prop:=Wp M1 (.run fi82 (atC (cd Tryz.f82) [1,1,1,1,1,1,1,1,1,0,1,0,0]) [(8,.int .u32 s),(9,.vec false 1 ((Sp.lim V).map (.int .u32))),(10,.int .u64 t),(11,.vec false 1 ((c :: l).map (.int .u32))),(12,.ref 0 0 0 n),(13,.vec false 1 ((Sp.lim U).map (.int .u32))),(14,.int .i64 i)] [⟨o.map (.int .u32),1,0,false,true⟩]) Q
def rPartsB_at (V U:Nat) (s t i:Int) (n:Nat) (o:List Int) (R2:Nat) (Q:AV -> Heap -> Prop):Prop:=Wp M1 (.run fi82 (atC (cd Tryz.f82) [1,1,1,1,1,1,1,1,1,0,1,0,0,1,0,0,1,0]) [(8,.int .u32 s),(9,.vec false 1 ((Sp.lim V).map (.int .u32))),(10,.int .u64 t),(11,.vec false 1 ((Sp.lim R2).map (.int .u32))),(12,.ref 0 0 0 n),(13,.vec false 1 ((Sp.lim U).map (.int .u32))),(14,.int .i64 i)] [⟨o.map (.int .u32),1,0,false,true⟩]) Q
def rPartsH_at (V U:Nat) (s t i:Int) (n:Nat) (o:List Int) (R:Nat) (Q:AV -> Heap -> Prop):Prop:=Wp M1 (.run fi82 (atC (cd Tryz.f82) [1,1,1,1,1,1,1,1,1,0,1,0,0]) [(8,.int .u32 s),(9,.vec false 1 ((Sp.lim V).map (.int .u32))),(10,.int .u64 t),(11,.vec false 1 ((Sp.lim R).map (.int .u32))),(12,.ref 0 0 0 n),(13,.vec false 1 ((Sp.lim U).map (.int .u32))),(14,.int .i64 i)] [⟨o.map (.int .u32),1,0,false,true⟩]) Q
def rPartsG_at (V U:Nat) (s t i:Int) (n:Nat) (o:List Int) (R p:Nat) (g:Int) (Q:AV -> Heap -> Prop):Prop:=Wp M1 (.run fi82 (atC (cd Tryz.f82) [1,1,1,1,1,1,1,1,1,0,1,0,0,1,0,0,1,1,1,1,1,1,1,0,0,0]) [(8,.int .u32 s),(9,.vec false 1 ((Sp.lim V).map (.int .u32))),(10,.int .u64 t),(11,.vec false 1 ((Sp.lim R).map (.int .u32))),(12,.ref 0 0 0 n),(13,.vec false 1 ((Sp.lim U).map (.int .u32))),(14,.int .i64 i),(16,.int .u64 g),(17,.vec false 1 ((Sp.lim p).map (.int .u32)))] [⟨o.map (.int .u32),1,0,false,true⟩]) Q
def rPartsL0_at (s:Int) (n:Nat) (o:List Int) (Q:AV -> Heap -> Prop):Prop:=Wp M1 (.run fi82 (atC (cd Tryz.f82) [1,1,1,1,1,1,1,1,1,1,1,1,0,1,0,0]) [(8,.int .u32 s),(11,.vnil),(12,.ref 0 0 0 n),(18,.int .u64 0),(19,.row 1 0),(20,.int .i64 (-1))] [⟨o.map (.int .u32),1,0,false,true⟩,⟨[],1,0,false,true⟩]) Q
def rPartsL_at (R:Nat) (s c i:Int) (n:Nat) (o l:List Int) (Q:AV -> Heap -> Prop):Prop:=Wp M1 (.run fi82 (atC (cd Tryz.f82) [1,1,1,1,1,1,1,1,1,1,1,1,0,1,0,0]) [(8,.int .u32 s),(11,.vec false 1 ((Sp.lim R).map (.int .u32))),(12,.ref 0 0 0 n),(18,.int .u64 c),(19,.row 1 0),(20,.int .i64 i)] [⟨o.map (.int .u32),1,0,false,true⟩,⟨l.map (.int .u32),1,0,false,true⟩]) Q
theorem call82 {args:List AV} {d:AV} (h:wc M1 fi82 Tryz.f82 args d):Ev M1 (.pure 82 args) d []:=pcl _ _ (by kernel_rfl) h
noncomputable abbrev zNwD1 (D:Nat):=vu ((Sp.lim (D * (Int.tdiv 1000000000 ((Sp.lim D).getD ((↑(Sp.lim D).length:Int) - 1).toNat default + 1)).toNat)).getD ((↑(Sp.lim (D * (Int.tdiv 1000000000 ((Sp.lim D).getD ((↑(Sp.lim D).length:Int) - 1).toNat default + 1)).toNat)).length:Int) - 1).toNat default)
noncomputable abbrev zNwD2 (D:Nat):=vf (us (Sp.lim (D * (Int.tdiv 1000000000 ((Sp.lim D).getD ((↑(Sp.lim D).length:Int) - 1).toNat default + 1)).toNat)))
noncomputable abbrev zNwD3 (A:Nat) (D:Nat):=vf (us (Sp.lim (A * (Int.tdiv 1000000000 ((Sp.lim D).getD ((↑(Sp.lim D).length:Int) - 1).toNat default + 1)).toNat)))
noncomputable abbrev zNwD4 (A:Nat) (D:Nat):=us (Sp.lim ((↑A:Int).tdiv (↑D:Int)).toNat)
noncomputable abbrev zNwD5 (A:Nat) (D:Nat):=us (Sp.lim ((↑A:Int).tmod (↑D:Int)).toNat)
theorem rParts (fa fb:Bool) (A D:Nat)  (dq:AV) (H :
  ((((↑(Sp.lim A).length:Int) <= 2) /\ ((↑(Sp.lim D).length:Int) <= 2)) -> (Sp.cnt A <= 2) /\
   (Sp.cnt D <= 2) /\
   (0 <= (↑A:Int).tdiv (↑D:Int) /\ (↑A:Int).tdiv (↑D:Int) <= 18446744073709551615) /\
   (0 <= (↑A:Int).tmod (↑D:Int) /\ (↑A:Int).tmod (↑D:Int) <= 18446744073709551615) /\
   (¬(↑D:Int) = 0) /\
   Weak (tu [vf (us (Sp.lim ((↑A:Int).tdiv (↑D:Int)).toNat)),vf (us (Sp.lim ((↑A:Int).tmod (↑D:Int)).toNat))]) dq) /\
  (¬(((↑(Sp.lim A).length:Int) <= 2) /\ ((↑(Sp.lim D).length:Int) <= 2)) -> (-9223372036854775808 <= (↑(Sp.lim D).length:Int) - 1 /\ (↑(Sp.lim D).length:Int) - 1 <= 9223372036854775807) /\
   (0 <= (↑(Sp.lim D).length:Int) - 1) /\
   (((↑(Sp.lim D).length:Int) - 1).toNat < (Sp.lim D).length) /\
   (0 <= (Sp.lim D).getD ((↑(Sp.lim D).length:Int) - 1).toNat default /\ (Sp.lim D).getD ((↑(Sp.lim D).length:Int) - 1).toNat default <= 18446744073709551615) /\
   (0 <= (Sp.lim D).getD ((↑(Sp.lim D).length:Int) - 1).toNat default + 1 /\ (Sp.lim D).getD ((↑(Sp.lim D).length:Int) - 1).toNat default + 1 <= 18446744073709551615) /\
   (¬(Sp.lim D).getD ((↑(Sp.lim D).length:Int) - 1).toNat default + 1 = 0) /\
   (0 <= Int.tdiv 1000000000 ((Sp.lim D).getD ((↑(Sp.lim D).length:Int) - 1).toNat default + 1) /\ Int.tdiv 1000000000 ((Sp.lim D).getD ((↑(Sp.lim D).length:Int) - 1).toNat default + 1) <= 18446744073709551615) /\
   (0 <= Int.tdiv 1000000000 ((Sp.lim D).getD ((↑(Sp.lim D).length:Int) - 1).toNat default + 1) /\ Int.tdiv 1000000000 ((Sp.lim D).getD ((↑(Sp.lim D).length:Int) - 1).toNat default + 1) <= 4294967295) /\
   (Sp.okB (↑D:Int) /\ Sp.dig (Int.tdiv 1000000000 ((Sp.lim D).getD ((↑(Sp.lim D).length:Int) - 1).toNat default + 1))) /\
   (-9223372036854775808 <= (↑(Sp.lim (D * (Int.tdiv 1000000000 ((Sp.lim D).getD ((↑(Sp.lim D).length:Int) - 1).toNat default + 1)).toNat)).length:Int) - 1 /\ (↑(Sp.lim (D * (Int.tdiv 1000000000 ((Sp.lim D).getD ((↑(Sp.lim D).length:Int) - 1).toNat default + 1)).toNat)).length:Int) - 1 <= 9223372036854775807) /\
   (0 <= (↑(Sp.lim (D * (Int.tdiv 1000000000 ((Sp.lim D).getD ((↑(Sp.lim D).length:Int) - 1).toNat default + 1)).toNat)).length:Int) - 1) /\
   (((↑(Sp.lim (D * (Int.tdiv 1000000000 ((Sp.lim D).getD ((↑(Sp.lim D).length:Int) - 1).toNat default + 1)).toNat)).length:Int) - 1).toNat < (Sp.lim (D * (Int.tdiv 1000000000 ((Sp.lim D).getD ((↑(Sp.lim D).length:Int) - 1).toNat default + 1)).toNat)).length) /\
   (0 <= (Sp.lim (D * (Int.tdiv 1000000000 ((Sp.lim D).getD ((↑(Sp.lim D).length:Int) - 1).toNat default + 1)).toNat)).getD ((↑(Sp.lim (D * (Int.tdiv 1000000000 ((Sp.lim D).getD ((↑(Sp.lim D).length:Int) - 1).toNat default + 1)).toNat)).length:Int) - 1).toNat default /\ (Sp.lim (D * (Int.tdiv 1000000000 ((Sp.lim D).getD ((↑(Sp.lim D).length:Int) - 1).toNat default + 1)).toNat)).getD ((↑(Sp.lim (D * (Int.tdiv 1000000000 ((Sp.lim D).getD ((↑(Sp.lim D).length:Int) - 1).toNat default + 1)).toNat)).length:Int) - 1).toNat default <= 18446744073709551615) /\
   (-9223372036854775808 <= (↑(Sp.lim A).length:Int) + 1 /\ (↑(Sp.lim A).length:Int) + 1 <= 9223372036854775807) /\
   (0 <= (↑(Sp.lim A).length:Int) + 1) /\
   (((↑(Sp.lim A).length:Int) + 1) * 4 <= 1099511627776) /\
   ((↑(Sp.lim A).length:Int) + 1 <= 1099511627776) /\
   (Sp.okB (↑A:Int) /\ Sp.dig (Int.tdiv 1000000000 ((Sp.lim D).getD ((↑(Sp.lim D).length:Int) - 1).toNat default + 1))) /\
   (0 <= (↑(Sp.lim (A * (Int.tdiv 1000000000 ((Sp.lim D).getD ((↑(Sp.lim D).length:Int) - 1).toNat default + 1)).toNat)).length:Int)) /\
   (0 <= (↑(Sp.lim (A * (Int.tdiv 1000000000 ((Sp.lim D).getD ((↑(Sp.lim D).length:Int) - 1).toNat default + 1)).toNat)).length:Int).toNat) /\
   ((↑(Sp.lim (A * (Int.tdiv 1000000000 ((Sp.lim D).getD ((↑(Sp.lim D).length:Int) - 1).toNat default + 1)).toNat)).length:Int).toNat <= (List.replicate ((↑(Sp.lim A).length:Int) + 1).toNat (0:Int)).length) /\
   (-9223372036854775808 <= (↑(Sp.lim (A * (Int.tdiv 1000000000 ((Sp.lim D).getD ((↑(Sp.lim D).length:Int) - 1).toNat default + 1)).toNat)).length:Int) - 1 /\ (↑(Sp.lim (A * (Int.tdiv 1000000000 ((Sp.lim D).getD ((↑(Sp.lim D).length:Int) - 1).toNat default + 1)).toNat)).length:Int) - 1 <= 9223372036854775807) /\
   rPartsA0_at (D * (Int.tdiv 1000000000 ((Sp.lim D).getD ((↑(Sp.lim D).length:Int) - 1).toNat default + 1)).toNat) (A * (Int.tdiv 1000000000 ((Sp.lim D).getD ((↑(Sp.lim D).length:Int) - 1).toNat default + 1)).toNat) (Int.tdiv 1000000000 ((Sp.lim D).getD ((↑(Sp.lim D).length:Int) - 1).toNat default + 1)) ((Sp.lim (D * (Int.tdiv 1000000000 ((Sp.lim D).getD ((↑(Sp.lim D).length:Int) - 1).toNat default + 1)).toNat)).getD ((↑(Sp.lim (D * (Int.tdiv 1000000000 ((Sp.lim D).getD ((↑(Sp.lim D).length:Int) - 1).toNat default + 1)).toNat)).length:Int) - 1).toNat default) ((↑(Sp.lim (A * (Int.tdiv 1000000000 ((Sp.lim D).getD ((↑(Sp.lim D).length:Int) - 1).toNat default + 1)).toNat)).length:Int) - 1) ((↑(Sp.lim (A * (Int.tdiv 1000000000 ((Sp.lim D).getD ((↑(Sp.lim D).length:Int) - 1).toNat default + 1)).toNat)).length:Int).toNat - 0) (List.replicate ((↑(Sp.lim A).length:Int) + 1).toNat (0:Int)) (PureQ dq))) :
 rParts_at fa fb A D (PureQ dq):=by
 unfold rParts_at
 have w1:(us (Sp.lim A)).length = (Sp.lim A).length:=List.length_map ..
 have w2:(us (Sp.lim D)).length = (Sp.lim D).length:=List.length_map ..
 have i3:(bif decide ((↑(us (Sp.lim A)).length:Int) <= 2) then decide ((↑(us (Sp.lim D)).length:Int) <= 2) else false) = true ↔ (((↑(Sp.lim A).length:Int) <= 2) /\ ((↑(Sp.lim D).length:Int) <= 2)):=(by (try rw [w1]);(try rw [w2]);all_goals exact (i_band i_dec i_dec))
 rcases xm (((↑(Sp.lim A).length:Int) <= 2) /\ ((↑(Sp.lim D).length:Int) <= 2)) with d4 | d4
 ·have H:=H.1 d4
  obtain ⟨k5,H⟩:=H
  obtain ⟨k6,H⟩:=H
  obtain ⟨k7,H⟩:=H
  have w8:wu ((↑A:Int).tdiv (↑D:Int)) = (↑A:Int).tdiv (↑D:Int):=wU64 k7
  obtain ⟨k9,H⟩:=H
  obtain ⟨k11,H⟩:=H
  exact path_rq (G:=given kp82 [(2,1,.call (vw (↑A:Int)) none),(2,3,.call (vw (↑D:Int)) none),(3,3,.call (vf (zNwD4 A D)) none),(3,7,.call (vf (zNwD5 A D)) none)] []) 1000 [true] (calls:=[pc 84 [AV.vec fa 1 (us (Sp.lim A))] (vw (↑A:Int)),pc 84 [AV.vec fb 1 (us (Sp.lim D))] (vw (↑D:Int)),pc 85 [vw (wu ((↑A:Int).tdiv (↑D:Int)))] (vf (zNwD4 A D)),pc 85 [vw ((↑A:Int).tmod (↑D:Int))] (vf (zNwD5 A D))]) (tu [vf (zNwD4 A D),vf (zNwD5 A D)]) (by kernel_rfl) (bc (beq_t (i3.2 d4)) (bc (i_neq.2 k11) (bc (i_neq.2 k11) b0))) q0 (ce (@ev84 (fa) (A) k5) (ce (@ev84 (fb) (D) k6) (ce (by (try rw [w8]);all_goals exact (@ev85 ((↑A:Int).tdiv (↑D:Int)) k7)) (ce (@ev85 ((↑A:Int).tmod (↑D:Int)) k9) c0)))) H
 ·have H:=H.2 d4
  obtain ⟨k13,H⟩:=H
  have w14:wi ((↑(Sp.lim D).length:Int) - 1) = (↑(Sp.lim D).length:Int) - 1:=wI64 k13
  have i15:(decide (0 <= wi ((↑(us (Sp.lim D)).length:Int) - 1))) = true ↔ (0 <= (↑(Sp.lim D).length:Int) - 1):=(by (try rw [w2]);(try rw [w14]);all_goals exact i_dec)
  obtain ⟨k16,H⟩:=H
  have i17:(decide ((wi ((↑(us (Sp.lim D)).length:Int) - 1)).toNat < (us (Sp.lim D)).length)) = true ↔ (((↑(Sp.lim D).length:Int) - 1).toNat < (Sp.lim D).length):=(by (try rw [w2]);(try rw [w14]);all_goals exact i_dec)
  obtain ⟨k18,H⟩:=H
  obtain ⟨k19,H⟩:=H
  have w20:wu ((Sp.lim D).getD ((↑(Sp.lim D).length:Int) - 1).toNat default) = (Sp.lim D).getD ((↑(Sp.lim D).length:Int) - 1).toNat default:=wU64 k19
  obtain ⟨k21,H⟩:=H
  have w22:wu ((Sp.lim D).getD ((↑(Sp.lim D).length:Int) - 1).toNat default + 1) = (Sp.lim D).getD ((↑(Sp.lim D).length:Int) - 1).toNat default + 1:=wU64 k21
  have i23:(!wu (wu ((Sp.lim D).getD ((↑(Sp.lim D).length:Int) - 1).toNat default) + 1) == 0) = true ↔ (¬(Sp.lim D).getD ((↑(Sp.lim D).length:Int) - 1).toNat default + 1 = 0):=(by (try rw [w20]);(try rw [w22]);all_goals exact i_neq)
  obtain ⟨k24,H⟩:=H
  obtain ⟨k25,H⟩:=H
  have w26:wu (Int.tdiv 1000000000 ((Sp.lim D).getD ((↑(Sp.lim D).length:Int) - 1).toNat default + 1)) = Int.tdiv 1000000000 ((Sp.lim D).getD ((↑(Sp.lim D).length:Int) - 1).toNat default + 1):=wU64 k25
  obtain ⟨k27,H⟩:=H
  have w28:wv (Int.tdiv 1000000000 ((Sp.lim D).getD ((↑(Sp.lim D).length:Int) - 1).toNat default + 1)) = Int.tdiv 1000000000 ((Sp.lim D).getD ((↑(Sp.lim D).length:Int) - 1).toNat default + 1):=wU32 k27
  obtain ⟨k29,H⟩:=H
  have w30:(us (Sp.lim (D * (Int.tdiv 1000000000 ((Sp.lim D).getD ((↑(Sp.lim D).length:Int) - 1).toNat default + 1)).toNat))).length = (Sp.lim (D * (Int.tdiv 1000000000 ((Sp.lim D).getD ((↑(Sp.lim D).length:Int) - 1).toNat default + 1)).toNat)).length:=List.length_map ..
  obtain ⟨k31,H⟩:=H
  have w32:wi ((↑(Sp.lim (D * (Int.tdiv 1000000000 ((Sp.lim D).getD ((↑(Sp.lim D).length:Int) - 1).toNat default + 1)).toNat)).length:Int) - 1) = (↑(Sp.lim (D * (Int.tdiv 1000000000 ((Sp.lim D).getD ((↑(Sp.lim D).length:Int) - 1).toNat default + 1)).toNat)).length:Int) - 1:=wI64 k31
  have i33:(decide (0 <= wi ((↑(us (Sp.lim (D * (Int.tdiv 1000000000 ((Sp.lim D).getD ((↑(Sp.lim D).length:Int) - 1).toNat default + 1)).toNat))).length:Int) - 1))) = true ↔ (0 <= (↑(Sp.lim (D * (Int.tdiv 1000000000 ((Sp.lim D).getD ((↑(Sp.lim D).length:Int) - 1).toNat default + 1)).toNat)).length:Int) - 1):=(by (try rw [w30]);(try rw [w32]);all_goals exact i_dec)
  obtain ⟨k34,H⟩:=H
  have i35:(decide ((wi ((↑(us (Sp.lim (D * (Int.tdiv 1000000000 ((Sp.lim D).getD ((↑(Sp.lim D).length:Int) - 1).toNat default + 1)).toNat))).length:Int) - 1)).toNat < (us (Sp.lim (D * (Int.tdiv 1000000000 ((Sp.lim D).getD ((↑(Sp.lim D).length:Int) - 1).toNat default + 1)).toNat))).length)) = true ↔ (((↑(Sp.lim (D * (Int.tdiv 1000000000 ((Sp.lim D).getD ((↑(Sp.lim D).length:Int) - 1).toNat default + 1)).toNat)).length:Int) - 1).toNat < (Sp.lim (D * (Int.tdiv 1000000000 ((Sp.lim D).getD ((↑(Sp.lim D).length:Int) - 1).toNat default + 1)).toNat)).length):=(by (try rw [w30]);(try rw [w32]);all_goals exact i_dec)
  obtain ⟨k36,H⟩:=H
  obtain ⟨k37,H⟩:=H
  have w38:wu ((Sp.lim (D * (Int.tdiv 1000000000 ((Sp.lim D).getD ((↑(Sp.lim D).length:Int) - 1).toNat default + 1)).toNat)).getD ((↑(Sp.lim (D * (Int.tdiv 1000000000 ((Sp.lim D).getD ((↑(Sp.lim D).length:Int) - 1).toNat default + 1)).toNat)).length:Int) - 1).toNat default) = (Sp.lim (D * (Int.tdiv 1000000000 ((Sp.lim D).getD ((↑(Sp.lim D).length:Int) - 1).toNat default + 1)).toNat)).getD ((↑(Sp.lim (D * (Int.tdiv 1000000000 ((Sp.lim D).getD ((↑(Sp.lim D).length:Int) - 1).toNat default + 1)).toNat)).length:Int) - 1).toNat default:=wU64 k37
  obtain ⟨k39,H⟩:=H
  have w40:wi ((↑(Sp.lim A).length:Int) + 1) = (↑(Sp.lim A).length:Int) + 1:=wI64 k39
  have i41:(decide (0 <= wi ((↑(us (Sp.lim A)).length:Int) + 1))) = true ↔ (0 <= (↑(Sp.lim A).length:Int) + 1):=(by (try rw [w1]);(try rw [w40]);all_goals exact i_dec)
  obtain ⟨k42,H⟩:=H
  have i43:(decide (wi ((↑(us (Sp.lim A)).length:Int) + 1) <= wi ((↑(us (Sp.lim A)).length:Int) + 1))) = true ↔ ((↑(Sp.lim A).length:Int) + 1 <= (↑(Sp.lim A).length:Int) + 1):=(by (try rw [w1]);(try rw [w40]);all_goals exact i_dec)
  have i44:(decide (wi ((↑(us (Sp.lim A)).length:Int) + 1) * 4 <= 1099511627776)) = true ↔ (((↑(Sp.lim A).length:Int) + 1) * 4 <= 1099511627776):=(by (try rw [w1]);(try rw [w40]);all_goals exact i_dec)
  obtain ⟨k45,H⟩:=H
  have i46:(decide (wi ((↑(us (Sp.lim A)).length:Int) + 1) <= 1099511627776)) = true ↔ ((↑(Sp.lim A).length:Int) + 1 <= 1099511627776):=(by (try rw [w1]);(try rw [w40]);all_goals exact i_dec)
  obtain ⟨k47,H⟩:=H
  have w48:List.replicate ((↑(Sp.lim A).length:Int) + 1).toNat (vu 0) = us (List.replicate ((↑(Sp.lim A).length:Int) + 1).toNat (0:Int)):=(lm_rep rfl)
  obtain ⟨k49,H⟩:=H
  have w50:(us (Sp.lim (A * (Int.tdiv 1000000000 ((Sp.lim D).getD ((↑(Sp.lim D).length:Int) - 1).toNat default + 1)).toNat))).length = (Sp.lim (A * (Int.tdiv 1000000000 ((Sp.lim D).getD ((↑(Sp.lim D).length:Int) - 1).toNat default + 1)).toNat)).length:=List.length_map ..
  have i51:(decide (0 <= (↑(us (Sp.lim (A * (Int.tdiv 1000000000 ((Sp.lim D).getD ((↑(Sp.lim D).length:Int) - 1).toNat default + 1)).toNat))).length:Int))) = true ↔ (0 <= (↑(Sp.lim (A * (Int.tdiv 1000000000 ((Sp.lim D).getD ((↑(Sp.lim D).length:Int) - 1).toNat default + 1)).toNat)).length:Int)):=(by (try rw [w50]);all_goals exact i_dec)
  obtain ⟨k52,H⟩:=H
  have i53:(decide (0 <= (↑(us (Sp.lim (A * (Int.tdiv 1000000000 ((Sp.lim D).getD ((↑(Sp.lim D).length:Int) - 1).toNat default + 1)).toNat))).length:Int).toNat)) = true ↔ (0 <= (↑(Sp.lim (A * (Int.tdiv 1000000000 ((Sp.lim D).getD ((↑(Sp.lim D).length:Int) - 1).toNat default + 1)).toNat)).length:Int).toNat):=(by (try rw [w50]);all_goals exact i_dec)
  obtain ⟨k54,H⟩:=H
  have w55:(us (List.replicate ((↑(Sp.lim A).length:Int) + 1).toNat (0:Int))).length = (List.replicate ((↑(Sp.lim A).length:Int) + 1).toNat (0:Int)).length:=List.length_map ..
  have i56:(decide ((↑(us (Sp.lim (A * (Int.tdiv 1000000000 ((Sp.lim D).getD ((↑(Sp.lim D).length:Int) - 1).toNat default + 1)).toNat))).length:Int).toNat <= (List.replicate (wi ((↑(us (Sp.lim A)).length:Int) + 1)).toNat (vu 0)).length)) = true ↔ ((↑(Sp.lim (A * (Int.tdiv 1000000000 ((Sp.lim D).getD ((↑(Sp.lim D).length:Int) - 1).toNat default + 1)).toNat)).length:Int).toNat <= (List.replicate ((↑(Sp.lim A).length:Int) + 1).toNat (0:Int)).length):=(by (try rw [w1]);(try rw [w40]);(try rw [w48]);(try rw [w50]);(try rw [w55]);all_goals exact i_dec)
  obtain ⟨k57,H⟩:=H
  obtain ⟨k58,H⟩:=H
  have w59:wi ((↑(Sp.lim (A * (Int.tdiv 1000000000 ((Sp.lim D).getD ((↑(Sp.lim D).length:Int) - 1).toNat default + 1)).toNat)).length:Int) - 1) = (↑(Sp.lim (A * (Int.tdiv 1000000000 ((Sp.lim D).getD ((↑(Sp.lim D).length:Int) - 1).toNat default + 1)).toNat)).length:Int) - 1:=wI64 k58
  exact path_wp (G:=given kp82 [(4,5,.elem (vu ((Sp.lim D).getD ((↑(Sp.lim D).length:Int) - 1).toNat default))),(5,2,.call (zNwD2 D) none),(6,5,.elem (zNwD1 D)),(9,2,.call (zNwD3 A D) none)] []) 1000 [false] ⟨(atC (cd Tryz.f82) [1,1,1,1,1,1,1,1,1,0,1,0,0]),[(8,vu (wv (wu (Int.tdiv 1000000000 (wu (wu ((Sp.lim D).getD ((↑(Sp.lim D).length:Int) - 1).toNat default) + 1)))))),(9,vf (us (Sp.lim (D * (Int.tdiv 1000000000 ((Sp.lim D).getD ((↑(Sp.lim D).length:Int) - 1).toNat default + 1)).toNat)))),(10,vw (wu ((Sp.lim (D * (Int.tdiv 1000000000 ((Sp.lim D).getD ((↑(Sp.lim D).length:Int) - 1).toNat default + 1)).toNat)).getD ((↑(Sp.lim (D * (Int.tdiv 1000000000 ((Sp.lim D).getD ((↑(Sp.lim D).length:Int) - 1).toNat default + 1)).toNat)).length:Int) - 1).toNat default))),(11,AV.vnil),(12,AV.ref 0 0 0 ((↑(us (Sp.lim (A * (Int.tdiv 1000000000 ((Sp.lim D).getD ((↑(Sp.lim D).length:Int) - 1).toNat default + 1)).toNat))).length:Int).toNat - 0)),(13,vf (us (Sp.lim (A * (Int.tdiv 1000000000 ((Sp.lim D).getD ((↑(Sp.lim D).length:Int) - 1).toNat default + 1)).toNat)))),(14,vi (wi ((↑(us (Sp.lim (A * (Int.tdiv 1000000000 ((Sp.lim D).getD ((↑(Sp.lim D).length:Int) - 1).toNat default + 1)).toNat))).length:Int) - 1)))],[⟨List.replicate (wi ((↑(us (Sp.lim A)).length:Int) + 1)).toNat (vu 0),1,0,false,true⟩],[(bif decide ((↑(us (Sp.lim A)).length:Int) <= 2) then decide ((↑(us (Sp.lim D)).length:Int) <= 2) else false) == false,decide (0 <= wi ((↑(us (Sp.lim D)).length:Int) - 1)),decide ((wi ((↑(us (Sp.lim D)).length:Int) - 1)).toNat < (us (Sp.lim D)).length),!wu (wu ((Sp.lim D).getD ((↑(Sp.lim D).length:Int) - 1).toNat default) + 1) == 0,decide (0 <= wi ((↑(us (Sp.lim (D * (Int.tdiv 1000000000 ((Sp.lim D).getD ((↑(Sp.lim D).length:Int) - 1).toNat default + 1)).toNat))).length:Int) - 1)),decide ((wi ((↑(us (Sp.lim (D * (Int.tdiv 1000000000 ((Sp.lim D).getD ((↑(Sp.lim D).length:Int) - 1).toNat default + 1)).toNat))).length:Int) - 1)).toNat < (us (Sp.lim (D * (Int.tdiv 1000000000 ((Sp.lim D).getD ((↑(Sp.lim D).length:Int) - 1).toNat default + 1)).toNat))).length),decide (0 <= wi ((↑(us (Sp.lim A)).length:Int) + 1)),decide (wi ((↑(us (Sp.lim A)).length:Int) + 1) <= wi ((↑(us (Sp.lim A)).length:Int) + 1)),decide (wi ((↑(us (Sp.lim A)).length:Int) + 1) * 4 <= 1099511627776),decide (wi ((↑(us (Sp.lim A)).length:Int) + 1) <= 1099511627776),true,decide (0 <= (↑(us (Sp.lim (A * (Int.tdiv 1000000000 ((Sp.lim D).getD ((↑(Sp.lim D).length:Int) - 1).toNat default + 1)).toNat))).length:Int)),decide (0 <= (↑(us (Sp.lim (A * (Int.tdiv 1000000000 ((Sp.lim D).getD ((↑(Sp.lim D).length:Int) - 1).toNat default + 1)).toNat))).length:Int).toNat),decide ((↑(us (Sp.lim (A * (Int.tdiv 1000000000 ((Sp.lim D).getD ((↑(Sp.lim D).length:Int) - 1).toNat default + 1)).toNat))).length:Int).toNat <= (List.replicate (wi ((↑(us (Sp.lim A)).length:Int) + 1)).toNat (vu 0)).length)],[((us (Sp.lim D)).get?Internal (wi ((↑(us (Sp.lim D)).length:Int) - 1)).toNat = some (vu ((Sp.lim D).getD ((↑(Sp.lim D).length:Int) - 1).toNat default))),((us (Sp.lim (D * (Int.tdiv 1000000000 ((Sp.lim D).getD ((↑(Sp.lim D).length:Int) - 1).toNat default + 1)).toNat))).get?Internal (wi ((↑(us (Sp.lim (D * (Int.tdiv 1000000000 ((Sp.lim D).getD ((↑(Sp.lim D).length:Int) - 1).toNat default + 1)).toNat))).length:Int) - 1)).toNat = some (zNwD1 D))],[pc 115 [AV.vec fb 1 (us (Sp.lim D)),vu (wv (wu (Int.tdiv 1000000000 (wu (wu ((Sp.lim D).getD ((↑(Sp.lim D).length:Int) - 1).toNat default) + 1)))))] (zNwD2 D),pc 115 [AV.vec fa 1 (us (Sp.lim A)),vu (wv (wu (Int.tdiv 1000000000 (wu (wu ((Sp.lim D).getD ((↑(Sp.lim D).length:Int) - 1).toNat default) + 1)))))] (zNwD3 A D)]⟩ (by kernel_rfl) (bc (beq_f (fun h => d4 (i3.1 h))) (bc (i15.2 k16) (bc (i17.2 k18) (bc (i23.2 k24) (bc (i33.2 k34) (bc (i35.2 k36) (bc (i41.2 k42) (bc (i43.2 (by omega)) (bc (i44.2 k45) (bc (i46.2 k47) (bc rfl (bc (i51.2 k52) (bc (i53.2 k54) (bc (i56.2 k57) b0)))))))))))))) (qc (by (try rw [w2]);(try rw [w14]);all_goals exact (el_map k18)) (qc (by (try rw [w30]);(try rw [w32]);all_goals exact (el_map k36)) q0)) (ce (by (try rw [w20]);(try rw [w22]);(try rw [w26]);(try rw [w28]);all_goals exact (@ev115 (fb) (D) (Int.tdiv 1000000000 ((Sp.lim D).getD ((↑(Sp.lim D).length:Int) - 1).toNat default + 1)) k29)) (ce (by (try rw [w20]);(try rw [w22]);(try rw [w26]);(try rw [w28]);all_goals exact (@ev115 (fa) (A) (Int.tdiv 1000000000 ((Sp.lim D).getD ((↑(Sp.lim D).length:Int) - 1).toNat default + 1)) k49)) c0)) (by (try rw [w1]);(try rw [w20]);(try rw [w22]);(try rw [w26]);(try rw [w28]);(try rw [w38]);(try rw [w40]);(try rw [w48]);(try rw [w50]);(try rw [w59]);all_goals exact H)
theorem rPartsA0 (V U:Nat) (s t i:Int) (n:Nat) (o:List Int) (R2:Nat) (dq:AV) (H :
  ((i >= 0) -> (Ev M1 (Conf.pure 80 [AV.vec true 1 [vu ((Sp.lim U).getD i.toNat default)]]) (vf (us (Sp.lim R2))) []) /\
   (0 <= i) /\
   (i.toNat < (Sp.lim U).length) /\
   rPartsB_at (V) (U) (s) (t) (i) (n) (o) (R2) (PureQ dq)) /\
  (¬(i >= 0) -> rPartsL0_at (s) (n) (o) (PureQ dq))) :
 rPartsA0_at V U s t i n o (PureQ dq):=by
 unfold rPartsA0_at
 rcases xm (i >= 0) with d2 | d2
 ·have H:=H.1 d2
  obtain ⟨k3,H⟩:=H
  obtain ⟨k5,H⟩:=H
  have w6:(us (Sp.lim U)).length = (Sp.lim U).length:=List.length_map ..
  have i7:(decide (i.toNat < (us (Sp.lim U)).length)) = true ↔ (i.toNat < (Sp.lim U).length):=(by (try rw [w6]);all_goals exact i_dec)
  obtain ⟨k8,H⟩:=H
  exact path_wp (G:=given kp82 [(14,3,.elem (vu ((Sp.lim U).getD i.toNat default))),(14,7,.call (.vec false 1 ((Sp.lim R2).map (.int .u32))) none)] []) 10 [true] ⟨(atC (cd Tryz.f82) [1,1,1,1,1,1,1,1,1,0,1,0,0,1,0,0,1,0]),[(8,vu s),(9,vf (us (Sp.lim V))),(10,vw t),(11,vf (us (Sp.lim R2))),(12,AV.ref 0 0 0 n),(13,vf (us (Sp.lim U))),(14,vi i)],[⟨us o,1,0,false,true⟩],_,[((us (Sp.lim U)).get?Internal i.toNat = some (vu ((Sp.lim U).getD i.toNat default)))],_⟩ (by kernel_rfl) (bc (beq_t (i_dec.2 d2)) (bc (i_dec.2 k5) (bc (i7.2 k8) b0))) (qc (el_map k8) q0) (ce k3 c0) (H)
 ·have H:=H.2 d2
  have w9:[] = us []:=rfl
  exact path_wp (G:=given kp82 [] []) 1000 [false] ⟨(atC (cd Tryz.f82) [1,1,1,1,1,1,1,1,1,1,1,1,0,1,0,0]),[(8,vu s),(11,AV.vnil),(12,AV.ref 0 0 0 n),(18,vw 0),(19,AV.row 1 0),(20,vi (-1))],[⟨us o,1,0,false,true⟩,⟨[],1,0,false,true⟩],_,[],_⟩ (by kernel_rfl) (bc (beq_f (fun h => d2 (i_dec.1 h))) (bc rfl (bc rfl (bc rfl (bc rfl b0))))) q0 c0 (by (try rw [w9]);all_goals exact H)
theorem rPartsAE (V U:Nat) (s t i:Int) (n:Nat) (o:List Int) (R2:Nat) (dq:AV) (H :
  ((i >= 0) -> (Ev M1 (Conf.pure 80 [AV.vec true 1 [vu ((Sp.lim U).getD i.toNat default)]]) (vf (us (Sp.lim R2))) []) /\
   (0 <= i) /\
   (i.toNat < (Sp.lim U).length) /\
   rPartsB_at (V) (U) (s) (t) (i) (n) (o) (R2) (PureQ dq)) /\
  (¬(i >= 0) -> Wp M1 (.run fi82 (atC (cd Tryz.f82) [1,1,1,1,1,1,1,1,1,1,1,1,0,1,0,0]) [(8,vu s),(11,vf []),(12,AV.ref 0 0 0 n),(18,vw 0),(19,AV.row 1 0),(20,vi (-1))] [{ elems:=us o,es:=1,ver:=0,frozen:=false,clean:=true },{ elems:=[],es:=1,ver:=0,frozen:=false,clean:=true }]) (PureQ dq))) :
 rPartsAE_at V U s t i n o (PureQ dq):=by
 unfold rPartsAE_at
 rcases xm (i >= 0) with d2 | d2
 ·have H:=H.1 d2
  obtain ⟨k3,H⟩:=H
  obtain ⟨k5,H⟩:=H
  have w6:(us (Sp.lim U)).length = (Sp.lim U).length:=List.length_map ..
  have i7:(decide (i.toNat < (us (Sp.lim U)).length)) = true ↔ (i.toNat < (Sp.lim U).length):=(by (try rw [w6]);all_goals exact i_dec)
  obtain ⟨k8,H⟩:=H
  exact path_wp (G:=given kp82 [(14,3,.elem (vu ((Sp.lim U).getD i.toNat default))),(14,7,.call (.vec false 1 ((Sp.lim R2).map (.int .u32))) none)] []) 10 [true] ⟨(atC (cd Tryz.f82) [1,1,1,1,1,1,1,1,1,0,1,0,0,1,0,0,1,0]),[(8,vu s),(9,vf (us (Sp.lim V))),(10,vw t),(11,vf (us (Sp.lim R2))),(12,AV.ref 0 0 0 n),(13,vf (us (Sp.lim U))),(14,vi i)],[⟨us o,1,0,false,true⟩],_,[((us (Sp.lim U)).get?Internal i.toNat = some (vu ((Sp.lim U).getD i.toNat default)))],_⟩ (by kernel_rfl) (bc (beq_t (i_dec.2 d2)) (bc (i_dec.2 k5) (bc (i7.2 k8) b0))) (qc (el_map k8) q0) (ce k3 c0) (H)
 ·have H:=H.2 d2
  have w9:[] = us []:=rfl
  exact path_wp (G:=given kp82 [] []) 1000 [false] ⟨(atC (cd Tryz.f82) [1,1,1,1,1,1,1,1,1,1,1,1,0,1,0,0]),[(8,vu s),(11,vf []),(12,AV.ref 0 0 0 n),(18,vw 0),(19,AV.row 1 0),(20,vi (-1))],[⟨us o,1,0,false,true⟩,⟨[],1,0,false,true⟩],_,[],_⟩ (by kernel_rfl) (bc (beq_f (fun h => d2 (i_dec.1 h))) (bc rfl (bc rfl (bc rfl (bc rfl b0))))) q0 c0 (by (try rw [w9]);all_goals exact H)
theorem rPartsA (V U:Nat) (s t i:Int) (n:Nat) (o:List Int) (c:Int) (l:List Int) (R2:Nat) (dq:AV) (H :
  ((i >= 0) -> (Ev M1 (Conf.pure 80 [vf (vu ((Sp.lim U).getD i.toNat default) :: vu c :: us l)]) (vf (us (Sp.lim R2))) []) /\
   (0 <= i) /\
   (i.toNat < (Sp.lim U).length) /\
   ((1 + (l.length + 1)) * 4 <= 1099511627776) /\
   rPartsB_at (V) (U) (s) (t) (i) (n) (o) (R2) (PureQ dq)) /\
  (¬(i >= 0) -> (0 <= (↑(l.length + 1):Int)) /\
   ((↑(l.length + 1):Int) * 4 <= 1099511627776) /\
   ((↑(l.length + 1):Int) <= 1099511627776) /\
   (-9223372036854775808 <= (↑(l.length + 1):Int) - 1 /\ (↑(l.length + 1):Int) - 1 <= 9223372036854775807) /\
   Wp M1 (.run fi82 (atC (cd Tryz.f82) [1,1,1,1,1,1,1,1,1,1,1,1,0,1,0,0]) [(8,vu s),(11,vf (vu c :: us l)),(12,AV.ref 0 0 0 n),(18,vw 0),(19,AV.row 1 0),(20,vi ((↑(l.length + 1):Int) - 1))] [{ elems:=us o,es:=1,ver:=0,frozen:=false,clean:=true },{ elems:=vu 0 :: us (List.replicate l.length (0:Int)),es:=1,ver:=0,frozen:=false,clean:=true }]) (PureQ dq))) :
 rPartsA_at V U s t i n o c l (PureQ dq):=by
 unfold rPartsA_at
 rcases xm (i >= 0) with d2 | d2
 ·have H:=H.1 d2
  obtain ⟨k3,H⟩:=H
  obtain ⟨k5,H⟩:=H
  have w6:(us (Sp.lim U)).length = (Sp.lim U).length:=List.length_map ..
  have i7:(decide (i.toNat < (us (Sp.lim U)).length)) = true ↔ (i.toNat < (Sp.lim U).length):=(by (try rw [w6]);all_goals exact i_dec)
  obtain ⟨k8,H⟩:=H
  have w9:(us l).length = l.length:=List.length_map ..
  have i10:(decide ((1 + ((us l).length + 1)) * 4 <= 1099511627776)) = true ↔ ((1 + (l.length + 1)) * 4 <= 1099511627776):=(by (try rw [w9]);all_goals exact i_dec)
  obtain ⟨k11,H⟩:=H
  exact path_wp (G:=given kp82 [(14,3,.elem (vu ((Sp.lim U).getD i.toNat default))),(14,7,.call (.vec false 1 ((Sp.lim R2).map (.int .u32))) none)] []) 10 [true] ⟨(atC (cd Tryz.f82) [1,1,1,1,1,1,1,1,1,0,1,0,0,1,0,0,1,0]),[(8,vu s),(9,vf (us (Sp.lim V))),(10,vw t),(11,vf (us (Sp.lim R2))),(12,AV.ref 0 0 0 n),(13,vf (us (Sp.lim U))),(14,vi i)],[⟨us o,1,0,false,true⟩,⟨vu ((Sp.lim U).getD i.toNat default) :: vu c :: us l,1,0,true,true⟩],_,[((us (Sp.lim U)).get?Internal i.toNat = some (vu ((Sp.lim U).getD i.toNat default)))],_⟩ (by kernel_rfl) (bc (beq_t (i_dec.2 d2)) (bc (i_dec.2 k5) (bc (i7.2 k8) (bc (i10.2 k11) (bc rfl b0))))) (qc (el_map k8) q0) (ce k3 c0) (wp_narrow [0] (by kernel_rfl) H)
 ·have H:=H.2 d2
  have w12:(us l).length = l.length:=List.length_map ..
  have i13:(decide (0 <= (↑((us l).length + 1):Int))) = true ↔ (0 <= (↑(l.length + 1):Int)):=(by (try rw [w12]);all_goals exact i_dec)
  obtain ⟨k14,H⟩:=H
  have i15:(decide ((↑((us l).length + 1):Int) <= (↑((us l).length + 1):Int))) = true ↔ ((↑(l.length + 1):Int) <= (↑(l.length + 1):Int)):=(by (try rw [w12]);all_goals exact i_dec)
  have i16:(decide ((↑((us l).length + 1):Int) * 4 <= 1099511627776)) = true ↔ ((↑(l.length + 1):Int) * 4 <= 1099511627776):=(by (try rw [w12]);all_goals exact i_dec)
  obtain ⟨k17,H⟩:=H
  have i18:(decide ((↑((us l).length + 1):Int) <= 1099511627776)) = true ↔ ((↑(l.length + 1):Int) <= 1099511627776):=(by (try rw [w12]);all_goals exact i_dec)
  obtain ⟨k19,H⟩:=H
  have w20:List.replicate l.length (vu 0) = us (List.replicate l.length (0:Int)):=(lm_rep rfl)
  obtain ⟨k21,H⟩:=H
  have w22:wi ((↑(l.length + 1):Int) - 1) = (↑(l.length + 1):Int) - 1:=wI64 k21
  exact path_wp (G:=given kp82 [] []) 1000 [false] ⟨(atC (cd Tryz.f82) [1,1,1,1,1,1,1,1,1,1,1,1,0,1,0,0]),[(8,vu s),(11,vf (vu c :: us l)),(12,AV.ref 0 0 0 n),(18,vw 0),(19,AV.row 1 0),(20,vi (wi ((↑((us l).length + 1):Int) - 1)))],[⟨us o,1,0,false,true⟩,⟨vu 0 :: List.replicate (us l).length (vu 0),1,0,false,true⟩],[(decide (i >= 0)) == false,decide (0 <= (↑((us l).length + 1):Int)),decide ((↑((us l).length + 1):Int) <= (↑((us l).length + 1):Int)),decide ((↑((us l).length + 1):Int) * 4 <= 1099511627776),decide ((↑((us l).length + 1):Int) <= 1099511627776)],[],_⟩ (by kernel_rfl) (bc (beq_f (fun h => d2 (i_dec.1 h))) (bc (i13.2 k14) (bc (i15.2 (by omega)) (bc (i16.2 k17) (bc (i18.2 k19) b0))))) q0 c0 (by (try rw [w12]);(try rw [w20]);(try rw [w22]);all_goals exact H)
noncomputable abbrev zNwD6 (V:Nat):=us (Sp.lim (V * Int.toNat 999999999))
noncomputable abbrev zNwD7 (V:Nat) (R2:Nat) (t:Int):=us (Sp.lim (V * (((Sp.lim R2).getD (↑(Sp.lim V).length:Int).toNat default * 1000000000 + (Sp.lim R2).getD ((↑(Sp.lim V).length:Int) - 1).toNat default).tdiv t).toNat))
noncomputable abbrev zNwD8 (V:Nat) (R2:Nat) (t:Int):=us (Sp.lim (V * (((Sp.lim R2).getD (↑(Sp.lim V).length:Int).toNat default * 1000000000).tdiv t).toNat))
noncomputable abbrev zNwD9 (R2:Nat) (V:Nat):=vu ((Sp.lim R2).getD ((↑(Sp.lim V).length:Int) - 1).toNat default)
noncomputable abbrev zNwD10 (V:Nat) (R2:Nat) (t:Int):=us (Sp.lim (V * ((0 + (Sp.lim R2).getD ((↑(Sp.lim V).length:Int) - 1).toNat default).tdiv t).toNat))
noncomputable abbrev zNwD11 (R2:Nat) (V:Nat):=(↑(Sp.lim R2).length:Int) >= (↑(Sp.lim V).length:Int)
noncomputable abbrev zNwD12 (V:Nat) (t:Int):=us (Sp.lim (V * (Int.tdiv 0 t).toNat))
theorem rPartsB (V U:Nat) (s t i:Int) (n:Nat) (o:List Int) (R2:Nat)  (dq:AV) (H :
  (((↑(Sp.lim R2).length:Int) > (↑(Sp.lim V).length:Int)) -> (0 <= (↑(Sp.lim V).length:Int)) /\
   ((↑(Sp.lim V).length:Int).toNat < (Sp.lim R2).length) /\
   (0 <= (Sp.lim R2).getD (↑(Sp.lim V).length:Int).toNat default /\ (Sp.lim R2).getD (↑(Sp.lim V).length:Int).toNat default <= 18446744073709551615) /\
   (0 <= (Sp.lim R2).getD (↑(Sp.lim V).length:Int).toNat default * 1000000000 /\ (Sp.lim R2).getD (↑(Sp.lim V).length:Int).toNat default * 1000000000 <= 18446744073709551615) /\
   (((↑(Sp.lim R2).length:Int) >= (↑(Sp.lim V).length:Int)) -> (-9223372036854775808 <= (↑(Sp.lim V).length:Int) - 1 /\ (↑(Sp.lim V).length:Int) - 1 <= 9223372036854775807) /\
    (0 <= (↑(Sp.lim V).length:Int) - 1) /\
    (((↑(Sp.lim V).length:Int) - 1).toNat < (Sp.lim R2).length) /\
    (0 <= (Sp.lim R2).getD ((↑(Sp.lim V).length:Int) - 1).toNat default /\ (Sp.lim R2).getD ((↑(Sp.lim V).length:Int) - 1).toNat default <= 18446744073709551615) /\
    (0 <= (Sp.lim R2).getD (↑(Sp.lim V).length:Int).toNat default * 1000000000 + (Sp.lim R2).getD ((↑(Sp.lim V).length:Int) - 1).toNat default /\ (Sp.lim R2).getD (↑(Sp.lim V).length:Int).toNat default * 1000000000 + (Sp.lim R2).getD ((↑(Sp.lim V).length:Int) - 1).toNat default <= 18446744073709551615) /\
    (¬t = 0) /\
    (0 <= ((Sp.lim R2).getD (↑(Sp.lim V).length:Int).toNat default * 1000000000 + (Sp.lim R2).getD ((↑(Sp.lim V).length:Int) - 1).toNat default).tdiv t /\ ((Sp.lim R2).getD (↑(Sp.lim V).length:Int).toNat default * 1000000000 + (Sp.lim R2).getD ((↑(Sp.lim V).length:Int) - 1).toNat default).tdiv t <= 18446744073709551615) /\
    ((((Sp.lim R2).getD (↑(Sp.lim V).length:Int).toNat default * 1000000000 + (Sp.lim R2).getD ((↑(Sp.lim V).length:Int) - 1).toNat default).tdiv t > 999999999) -> (Sp.okB (↑V:Int) /\ Sp.dig 999999999) /\
     rPartsG_at (V) (U) (s) (t) (i) (n) (o) (R2) (V * Int.toNat 999999999) (999999999) (PureQ dq)) /\
    (¬(((Sp.lim R2).getD (↑(Sp.lim V).length:Int).toNat default * 1000000000 + (Sp.lim R2).getD ((↑(Sp.lim V).length:Int) - 1).toNat default).tdiv t > 999999999) -> (0 <= ((Sp.lim R2).getD (↑(Sp.lim V).length:Int).toNat default * 1000000000 + (Sp.lim R2).getD ((↑(Sp.lim V).length:Int) - 1).toNat default).tdiv t /\ ((Sp.lim R2).getD (↑(Sp.lim V).length:Int).toNat default * 1000000000 + (Sp.lim R2).getD ((↑(Sp.lim V).length:Int) - 1).toNat default).tdiv t <= 4294967295) /\
     (Sp.okB (↑V:Int) /\ Sp.dig (((Sp.lim R2).getD (↑(Sp.lim V).length:Int).toNat default * 1000000000 + (Sp.lim R2).getD ((↑(Sp.lim V).length:Int) - 1).toNat default).tdiv t)) /\
     rPartsG_at (V) (U) (s) (t) (i) (n) (o) (R2) (V * (((Sp.lim R2).getD (↑(Sp.lim V).length:Int).toNat default * 1000000000 + (Sp.lim R2).getD ((↑(Sp.lim V).length:Int) - 1).toNat default).tdiv t).toNat) (((Sp.lim R2).getD (↑(Sp.lim V).length:Int).toNat default * 1000000000 + (Sp.lim R2).getD ((↑(Sp.lim V).length:Int) - 1).toNat default).tdiv t) (PureQ dq))) /\
   (¬((↑(Sp.lim R2).length:Int) >= (↑(Sp.lim V).length:Int)) -> (¬t = 0) /\
    (0 <= ((Sp.lim R2).getD (↑(Sp.lim V).length:Int).toNat default * 1000000000).tdiv t /\ ((Sp.lim R2).getD (↑(Sp.lim V).length:Int).toNat default * 1000000000).tdiv t <= 18446744073709551615) /\
    ((((Sp.lim R2).getD (↑(Sp.lim V).length:Int).toNat default * 1000000000).tdiv t > 999999999) -> (Sp.okB (↑V:Int) /\ Sp.dig 999999999) /\
     rPartsG_at (V) (U) (s) (t) (i) (n) (o) (R2) (V * Int.toNat 999999999) (999999999) (PureQ dq)) /\
    (¬(((Sp.lim R2).getD (↑(Sp.lim V).length:Int).toNat default * 1000000000).tdiv t > 999999999) -> (0 <= ((Sp.lim R2).getD (↑(Sp.lim V).length:Int).toNat default * 1000000000).tdiv t /\ ((Sp.lim R2).getD (↑(Sp.lim V).length:Int).toNat default * 1000000000).tdiv t <= 4294967295) /\
     (Sp.okB (↑V:Int) /\ Sp.dig (((Sp.lim R2).getD (↑(Sp.lim V).length:Int).toNat default * 1000000000).tdiv t)) /\
     rPartsG_at (V) (U) (s) (t) (i) (n) (o) (R2) (V * (((Sp.lim R2).getD (↑(Sp.lim V).length:Int).toNat default * 1000000000).tdiv t).toNat) (((Sp.lim R2).getD (↑(Sp.lim V).length:Int).toNat default * 1000000000).tdiv t) (PureQ dq)))) /\
  (¬((↑(Sp.lim R2).length:Int) > (↑(Sp.lim V).length:Int)) -> (((↑(Sp.lim R2).length:Int) >= (↑(Sp.lim V).length:Int)) -> (-9223372036854775808 <= (↑(Sp.lim V).length:Int) - 1 /\ (↑(Sp.lim V).length:Int) - 1 <= 9223372036854775807) /\
    (0 <= (↑(Sp.lim V).length:Int) - 1) /\
    (((↑(Sp.lim V).length:Int) - 1).toNat < (Sp.lim R2).length) /\
    (0 <= (Sp.lim R2).getD ((↑(Sp.lim V).length:Int) - 1).toNat default /\ (Sp.lim R2).getD ((↑(Sp.lim V).length:Int) - 1).toNat default <= 18446744073709551615) /\
    (0 <= 0 + (Sp.lim R2).getD ((↑(Sp.lim V).length:Int) - 1).toNat default /\ 0 + (Sp.lim R2).getD ((↑(Sp.lim V).length:Int) - 1).toNat default <= 18446744073709551615) /\
    (¬t = 0) /\
    (0 <= (0 + (Sp.lim R2).getD ((↑(Sp.lim V).length:Int) - 1).toNat default).tdiv t /\ (0 + (Sp.lim R2).getD ((↑(Sp.lim V).length:Int) - 1).toNat default).tdiv t <= 18446744073709551615) /\
    (((0 + (Sp.lim R2).getD ((↑(Sp.lim V).length:Int) - 1).toNat default).tdiv t > 999999999) -> (Sp.okB (↑V:Int) /\ Sp.dig 999999999) /\
     rPartsG_at (V) (U) (s) (t) (i) (n) (o) (R2) (V * Int.toNat 999999999) (999999999) (PureQ dq)) /\
    (¬((0 + (Sp.lim R2).getD ((↑(Sp.lim V).length:Int) - 1).toNat default).tdiv t > 999999999) -> (0 <= (0 + (Sp.lim R2).getD ((↑(Sp.lim V).length:Int) - 1).toNat default).tdiv t /\ (0 + (Sp.lim R2).getD ((↑(Sp.lim V).length:Int) - 1).toNat default).tdiv t <= 4294967295) /\
     (Sp.okB (↑V:Int) /\ Sp.dig ((0 + (Sp.lim R2).getD ((↑(Sp.lim V).length:Int) - 1).toNat default).tdiv t)) /\
     rPartsG_at (V) (U) (s) (t) (i) (n) (o) (R2) (V * ((0 + (Sp.lim R2).getD ((↑(Sp.lim V).length:Int) - 1).toNat default).tdiv t).toNat) ((0 + (Sp.lim R2).getD ((↑(Sp.lim V).length:Int) - 1).toNat default).tdiv t) (PureQ dq))) /\
   (¬((↑(Sp.lim R2).length:Int) >= (↑(Sp.lim V).length:Int)) -> (¬t = 0) /\
    (0 <= Int.tdiv 0 t /\ Int.tdiv 0 t <= 18446744073709551615) /\
    ((Int.tdiv 0 t > 999999999) -> (Sp.okB (↑V:Int) /\ Sp.dig 999999999) /\
     rPartsG_at (V) (U) (s) (t) (i) (n) (o) (R2) (V * Int.toNat 999999999) (999999999) (PureQ dq)) /\
    (¬(Int.tdiv 0 t > 999999999) -> (0 <= Int.tdiv 0 t /\ Int.tdiv 0 t <= 4294967295) /\
     (Sp.okB (↑V:Int) /\ Sp.dig (Int.tdiv 0 t)) /\
     rPartsG_at (V) (U) (s) (t) (i) (n) (o) (R2) (V * (Int.tdiv 0 t).toNat) (Int.tdiv 0 t) (PureQ dq))))) :
 rPartsB_at V U s t i n o R2 (PureQ dq):=by
 unfold rPartsB_at
 have w1:(us (Sp.lim R2)).length = (Sp.lim R2).length:=List.length_map ..
 have w2:(us (Sp.lim V)).length = (Sp.lim V).length:=List.length_map ..
 have i3:(decide ((↑(us (Sp.lim R2)).length:Int) > (↑(us (Sp.lim V)).length:Int))) = true ↔ ((↑(Sp.lim R2).length:Int) > (↑(Sp.lim V).length:Int)):=(by (try rw [w1]);(try rw [w2]);all_goals exact i_dec)
 rcases xm ((↑(Sp.lim R2).length:Int) > (↑(Sp.lim V).length:Int)) with d4 | d4
 ·have H:=H.1 d4
  have i5:(decide (0 <= (↑(us (Sp.lim V)).length:Int))) = true ↔ (0 <= (↑(Sp.lim V).length:Int)):=(by (try rw [w2]);all_goals exact i_dec)
  obtain ⟨k6,H⟩:=H
  have i7:(decide ((↑(us (Sp.lim V)).length:Int).toNat < (us (Sp.lim R2)).length)) = true ↔ ((↑(Sp.lim V).length:Int).toNat < (Sp.lim R2).length):=(by (try rw [w1]);(try rw [w2]);all_goals exact i_dec)
  obtain ⟨k8,H⟩:=H
  obtain ⟨k9,H⟩:=H
  have w10:wu ((Sp.lim R2).getD (↑(Sp.lim V).length:Int).toNat default) = (Sp.lim R2).getD (↑(Sp.lim V).length:Int).toNat default:=wU64 k9
  obtain ⟨k11,H⟩:=H
  have w12:wu ((Sp.lim R2).getD (↑(Sp.lim V).length:Int).toNat default * 1000000000) = (Sp.lim R2).getD (↑(Sp.lim V).length:Int).toNat default * 1000000000:=wU64 k11
  have i13:(decide ((↑(us (Sp.lim R2)).length:Int) >= (↑(us (Sp.lim V)).length:Int))) = true ↔ (zNwD11 R2 V):=(by (try rw [w1]);(try rw [w2]);all_goals exact i_dec)
  refine path_wp (G:=given kp82 [(17,4,.elem (vu ((Sp.lim R2).getD (↑(Sp.lim V).length:Int).toNat default)))] []) 9 [true] ⟨(atC (cd Tryz.f82) [1,1,1,1,1,1,1,1,1,0,1,0,0,1,0,0,1,1,1,0,1]),[(8,vu s),(9,vf (us (Sp.lim V))),(10,vw t),(11,vf (us (Sp.lim R2))),(12,AV.ref 0 0 0 n),(13,vf (us (Sp.lim U))),(14,vi i),(15,vw (wu (wu ((Sp.lim R2).getD (↑(Sp.lim V).length:Int).toNat default) * 1000000000))),(103,vb (decide ((↑(us (Sp.lim R2)).length:Int) >= (↑(us (Sp.lim V)).length:Int))))],[⟨us o,1,0,false,true⟩],_,[((us (Sp.lim R2)).get?Internal (↑(us (Sp.lim V)).length:Int).toNat = some (vu ((Sp.lim R2).getD (↑(Sp.lim V).length:Int).toNat default)))],_⟩ (by kernel_rfl) (bc (beq_t (i3.2 d4)) (bc (i5.2 k6) (bc (i7.2 k8) b0))) (qc (by (try rw [w2]);all_goals exact (el_map k8)) q0) c0 ?_
  rcases xm (zNwD11 R2 V) with d14 | d14
  ·have H:=H.1 d14
   obtain ⟨k15,H⟩:=H
   have w16:wi ((↑(Sp.lim V).length:Int) - 1) = (↑(Sp.lim V).length:Int) - 1:=wI64 k15
   have i17:(decide (0 <= wi ((↑(us (Sp.lim V)).length:Int) - 1))) = true ↔ (0 <= (↑(Sp.lim V).length:Int) - 1):=(by (try rw [w2]);(try rw [w16]);all_goals exact i_dec)
   obtain ⟨k18,H⟩:=H
   have i19:(decide ((wi ((↑(us (Sp.lim V)).length:Int) - 1)).toNat < (us (Sp.lim R2)).length)) = true ↔ (((↑(Sp.lim V).length:Int) - 1).toNat < (Sp.lim R2).length):=(by (try rw [w1]);(try rw [w2]);(try rw [w16]);all_goals exact i_dec)
   obtain ⟨k20,H⟩:=H
   obtain ⟨k21,H⟩:=H
   have w22:wu ((Sp.lim R2).getD ((↑(Sp.lim V).length:Int) - 1).toNat default) = (Sp.lim R2).getD ((↑(Sp.lim V).length:Int) - 1).toNat default:=wU64 k21
   obtain ⟨k23,H⟩:=H
   have w24:wu ((Sp.lim R2).getD (↑(Sp.lim V).length:Int).toNat default * 1000000000 + (Sp.lim R2).getD ((↑(Sp.lim V).length:Int) - 1).toNat default) = (Sp.lim R2).getD (↑(Sp.lim V).length:Int).toNat default * 1000000000 + (Sp.lim R2).getD ((↑(Sp.lim V).length:Int) - 1).toNat default:=wU64 k23
   obtain ⟨k26,H⟩:=H
   obtain ⟨k27,H⟩:=H
   have w28:wu (((Sp.lim R2).getD (↑(Sp.lim V).length:Int).toNat default * 1000000000 + (Sp.lim R2).getD ((↑(Sp.lim V).length:Int) - 1).toNat default).tdiv t) = ((Sp.lim R2).getD (↑(Sp.lim V).length:Int).toNat default * 1000000000 + (Sp.lim R2).getD ((↑(Sp.lim V).length:Int) - 1).toNat default).tdiv t:=wU64 k27
   have i29:(decide (wu ((wu (wu (wu ((Sp.lim R2).getD (↑(Sp.lim V).length:Int).toNat default) * 1000000000) + wu ((Sp.lim R2).getD ((↑(Sp.lim V).length:Int) - 1).toNat default))).tdiv t) > 999999999)) = true ↔ (((Sp.lim R2).getD (↑(Sp.lim V).length:Int).toNat default * 1000000000 + (Sp.lim R2).getD ((↑(Sp.lim V).length:Int) - 1).toNat default).tdiv t > 999999999):=(by (try rw [w10]);(try rw [w12]);(try rw [w22]);(try rw [w24]);(try rw [w28]);all_goals exact i_dec)
   refine path_wp (G:=given kp82 [(19,6,.elem (zNwD9 R2 V))] []) 7 [true] ⟨(atC (cd Tryz.f82) [1,1,1,1,1,1,1,1,1,0,1,0,0,1,0,0,1,1,1,1,1,0,1]),[(8,vu s),(9,vf (us (Sp.lim V))),(10,vw t),(11,vf (us (Sp.lim R2))),(12,AV.ref 0 0 0 n),(13,vf (us (Sp.lim U))),(14,vi i),(16,vw (wu ((wu (wu (wu ((Sp.lim R2).getD (↑(Sp.lim V).length:Int).toNat default) * 1000000000) + wu ((Sp.lim R2).getD ((↑(Sp.lim V).length:Int) - 1).toNat default))).tdiv t))),(117,vb (decide (wu ((wu (wu (wu ((Sp.lim R2).getD (↑(Sp.lim V).length:Int).toNat default) * 1000000000) + wu ((Sp.lim R2).getD ((↑(Sp.lim V).length:Int) - 1).toNat default))).tdiv t) > 999999999)))],[⟨us o,1,0,false,true⟩],_,[((us (Sp.lim R2)).get?Internal (wi ((↑(us (Sp.lim V)).length:Int) - 1)).toNat = some (zNwD9 R2 V))],_⟩ (by kernel_rfl) (bc (beq_t (i13.2 d14)) (bc (i17.2 k18) (bc (i19.2 k20) (bc (i_neq.2 k26) b0)))) (qc (by (try rw [w2]);(try rw [w16]);all_goals exact (el_map k20)) q0) c0 ?_
   rcases xm (((Sp.lim R2).getD (↑(Sp.lim V).length:Int).toNat default * 1000000000 + (Sp.lim R2).getD ((↑(Sp.lim V).length:Int) - 1).toNat default).tdiv t > 999999999) with d30 | d30
   ·have H:=H.1 d30
    obtain ⟨k31,H⟩:=H
    exact path_wp (G:=given kp82 [(23,3,.call (vf (zNwD6 V)) none)] []) 1000 [true] ⟨(atC (cd Tryz.f82) [1,1,1,1,1,1,1,1,1,0,1,0,0,1,0,0,1,1,1,1,1,1,1,0,0,0]),[(8,vu s),(9,vf (us (Sp.lim V))),(10,vw t),(11,vf (us (Sp.lim R2))),(12,AV.ref 0 0 0 n),(13,vf (us (Sp.lim U))),(14,vi i),(16,vw 999999999),(17,vf (zNwD6 V))],[⟨us o,1,0,false,true⟩],_,[],_⟩ (by kernel_rfl) (bc (beq_t (i29.2 d30)) b0) q0 (ce (@ev115 (false) (V) (999999999) k31) c0) (H)
   ·have H:=H.2 d30
    obtain ⟨k32,H⟩:=H
    have w33:wv (((Sp.lim R2).getD (↑(Sp.lim V).length:Int).toNat default * 1000000000 + (Sp.lim R2).getD ((↑(Sp.lim V).length:Int) - 1).toNat default).tdiv t) = ((Sp.lim R2).getD (↑(Sp.lim V).length:Int).toNat default * 1000000000 + (Sp.lim R2).getD ((↑(Sp.lim V).length:Int) - 1).toNat default).tdiv t:=wU32 k32
    obtain ⟨k34,H⟩:=H
    exact path_wp (G:=given kp82 [(23,3,.call (vf (zNwD7 V R2 t)) none)] []) 1000 [false] ⟨(atC (cd Tryz.f82) [1,1,1,1,1,1,1,1,1,0,1,0,0,1,0,0,1,1,1,1,1,1,1,0,0,0]),[(8,vu s),(9,vf (us (Sp.lim V))),(10,vw t),(11,vf (us (Sp.lim R2))),(12,AV.ref 0 0 0 n),(13,vf (us (Sp.lim U))),(14,vi i),(16,vw (wu ((wu (wu (wu ((Sp.lim R2).getD (↑(Sp.lim V).length:Int).toNat default) * 1000000000) + wu ((Sp.lim R2).getD ((↑(Sp.lim V).length:Int) - 1).toNat default))).tdiv t))),(17,vf (zNwD7 V R2 t))],[⟨us o,1,0,false,true⟩],_,[],[pc 115 [vf (us (Sp.lim V)),vu (wv (wu ((wu (wu (wu ((Sp.lim R2).getD (↑(Sp.lim V).length:Int).toNat default) * 1000000000) + wu ((Sp.lim R2).getD ((↑(Sp.lim V).length:Int) - 1).toNat default))).tdiv t)))] (vf (zNwD7 V R2 t))]⟩ (by kernel_rfl) (bc (beq_f (fun h => d30 (i29.1 h))) b0) q0 (ce (by (try rw [w10]);(try rw [w12]);(try rw [w22]);(try rw [w24]);(try rw [w28]);(try rw [w33]);all_goals exact (@ev115 (false) (V) (((Sp.lim R2).getD (↑(Sp.lim V).length:Int).toNat default * 1000000000 + (Sp.lim R2).getD ((↑(Sp.lim V).length:Int) - 1).toNat default).tdiv t) k34)) c0) (by (try rw [w10]);(try rw [w12]);(try rw [w22]);(try rw [w24]);(try rw [w28]);all_goals exact H)
  ·have H:=H.2 d14
   obtain ⟨k36,H⟩:=H
   obtain ⟨k37,H⟩:=H
   have w38:wu (((Sp.lim R2).getD (↑(Sp.lim V).length:Int).toNat default * 1000000000).tdiv t) = ((Sp.lim R2).getD (↑(Sp.lim V).length:Int).toNat default * 1000000000).tdiv t:=wU64 k37
   have i39:(decide (wu ((wu (wu ((Sp.lim R2).getD (↑(Sp.lim V).length:Int).toNat default) * 1000000000)).tdiv t) > 999999999)) = true ↔ (((Sp.lim R2).getD (↑(Sp.lim V).length:Int).toNat default * 1000000000).tdiv t > 999999999):=(by (try rw [w10]);(try rw [w12]);(try rw [w38]);all_goals exact i_dec)
   rcases xm (((Sp.lim R2).getD (↑(Sp.lim V).length:Int).toNat default * 1000000000).tdiv t > 999999999) with d40 | d40
   ·have H:=H.1 d40
    obtain ⟨k41,H⟩:=H
    exact path_wp (G:=given kp82 [(23,3,.call (vf (zNwD6 V)) none)] []) 1000 [false,true] ⟨(atC (cd Tryz.f82) [1,1,1,1,1,1,1,1,1,0,1,0,0,1,0,0,1,1,1,1,1,1,1,0,0,0]),[(8,vu s),(9,vf (us (Sp.lim V))),(10,vw t),(11,vf (us (Sp.lim R2))),(12,AV.ref 0 0 0 n),(13,vf (us (Sp.lim U))),(14,vi i),(16,vw 999999999),(17,vf (zNwD6 V))],[⟨us o,1,0,false,true⟩],_,[],_⟩ (by kernel_rfl) (bc (beq_f (fun h => d14 (i13.1 h))) (bc (i_neq.2 k36) (bc (beq_t (i39.2 d40)) b0))) q0 (ce (@ev115 (false) (V) (999999999) k41) c0) (H)
   ·have H:=H.2 d40
    obtain ⟨k42,H⟩:=H
    have w43:wv (((Sp.lim R2).getD (↑(Sp.lim V).length:Int).toNat default * 1000000000).tdiv t) = ((Sp.lim R2).getD (↑(Sp.lim V).length:Int).toNat default * 1000000000).tdiv t:=wU32 k42
    obtain ⟨k44,H⟩:=H
    exact path_wp (G:=given kp82 [(23,3,.call (vf (zNwD8 V R2 t)) none)] []) 1000 [false,false] ⟨(atC (cd Tryz.f82) [1,1,1,1,1,1,1,1,1,0,1,0,0,1,0,0,1,1,1,1,1,1,1,0,0,0]),[(8,vu s),(9,vf (us (Sp.lim V))),(10,vw t),(11,vf (us (Sp.lim R2))),(12,AV.ref 0 0 0 n),(13,vf (us (Sp.lim U))),(14,vi i),(16,vw (wu ((wu (wu ((Sp.lim R2).getD (↑(Sp.lim V).length:Int).toNat default) * 1000000000)).tdiv t))),(17,vf (zNwD8 V R2 t))],[⟨us o,1,0,false,true⟩],_,[],[pc 115 [vf (us (Sp.lim V)),vu (wv (wu ((wu (wu ((Sp.lim R2).getD (↑(Sp.lim V).length:Int).toNat default) * 1000000000)).tdiv t)))] (vf (zNwD8 V R2 t))]⟩ (by kernel_rfl) (bc (beq_f (fun h => d14 (i13.1 h))) (bc (i_neq.2 k36) (bc (beq_f (fun h => d40 (i39.1 h))) b0))) q0 (ce (by (try rw [w10]);(try rw [w12]);(try rw [w38]);(try rw [w43]);all_goals exact (@ev115 (false) (V) (((Sp.lim R2).getD (↑(Sp.lim V).length:Int).toNat default * 1000000000).tdiv t) k44)) c0) (by (try rw [w10]);(try rw [w12]);(try rw [w38]);all_goals exact H)
 ·have H:=H.2 d4
  have i45:(decide ((↑(us (Sp.lim R2)).length:Int) >= (↑(us (Sp.lim V)).length:Int))) = true ↔ (zNwD11 R2 V):=(by (try rw [w1]);(try rw [w2]);all_goals exact i_dec)
  rcases xm (zNwD11 R2 V) with d46 | d46
  ·have H:=H.1 d46
   obtain ⟨k47,H⟩:=H
   have w48:wi ((↑(Sp.lim V).length:Int) - 1) = (↑(Sp.lim V).length:Int) - 1:=wI64 k47
   have i49:(decide (0 <= wi ((↑(us (Sp.lim V)).length:Int) - 1))) = true ↔ (0 <= (↑(Sp.lim V).length:Int) - 1):=(by (try rw [w2]);(try rw [w48]);all_goals exact i_dec)
   obtain ⟨k50,H⟩:=H
   have i51:(decide ((wi ((↑(us (Sp.lim V)).length:Int) - 1)).toNat < (us (Sp.lim R2)).length)) = true ↔ (((↑(Sp.lim V).length:Int) - 1).toNat < (Sp.lim R2).length):=(by (try rw [w1]);(try rw [w2]);(try rw [w48]);all_goals exact i_dec)
   obtain ⟨k52,H⟩:=H
   obtain ⟨k53,H⟩:=H
   have w54:wu ((Sp.lim R2).getD ((↑(Sp.lim V).length:Int) - 1).toNat default) = (Sp.lim R2).getD ((↑(Sp.lim V).length:Int) - 1).toNat default:=wU64 k53
   obtain ⟨k55,H⟩:=H
   have w56:wu (0 + (Sp.lim R2).getD ((↑(Sp.lim V).length:Int) - 1).toNat default) = 0 + (Sp.lim R2).getD ((↑(Sp.lim V).length:Int) - 1).toNat default:=wU64 k55
   obtain ⟨k58,H⟩:=H
   obtain ⟨k59,H⟩:=H
   have w60:wu ((0 + (Sp.lim R2).getD ((↑(Sp.lim V).length:Int) - 1).toNat default).tdiv t) = (0 + (Sp.lim R2).getD ((↑(Sp.lim V).length:Int) - 1).toNat default).tdiv t:=wU64 k59
   have i61:(decide (wu ((wu (0 + wu ((Sp.lim R2).getD ((↑(Sp.lim V).length:Int) - 1).toNat default))).tdiv t) > 999999999)) = true ↔ ((0 + (Sp.lim R2).getD ((↑(Sp.lim V).length:Int) - 1).toNat default).tdiv t > 999999999):=(by (try rw [w54]);(try rw [w56]);(try rw [w60]);all_goals exact i_dec)
   refine path_wp (G:=given kp82 [(19,6,.elem (zNwD9 R2 V))] []) 16 [false,true] ⟨(atC (cd Tryz.f82) [1,1,1,1,1,1,1,1,1,0,1,0,0,1,0,0,1,1,1,1,1,0,1]),[(8,vu s),(9,vf (us (Sp.lim V))),(10,vw t),(11,vf (us (Sp.lim R2))),(12,AV.ref 0 0 0 n),(13,vf (us (Sp.lim U))),(14,vi i),(16,vw (wu ((wu (0 + wu ((Sp.lim R2).getD ((↑(Sp.lim V).length:Int) - 1).toNat default))).tdiv t))),(117,vb (decide (wu ((wu (0 + wu ((Sp.lim R2).getD ((↑(Sp.lim V).length:Int) - 1).toNat default))).tdiv t) > 999999999)))],[⟨us o,1,0,false,true⟩],_,[((us (Sp.lim R2)).get?Internal (wi ((↑(us (Sp.lim V)).length:Int) - 1)).toNat = some (zNwD9 R2 V))],_⟩ (by kernel_rfl) (bc (beq_f (fun h => d4 (i3.1 h))) (bc (beq_t (i45.2 d46)) (bc (i49.2 k50) (bc (i51.2 k52) (bc (i_neq.2 k58) b0))))) (qc (by (try rw [w2]);(try rw [w48]);all_goals exact (el_map k52)) q0) c0 ?_
   rcases xm ((0 + (Sp.lim R2).getD ((↑(Sp.lim V).length:Int) - 1).toNat default).tdiv t > 999999999) with d62 | d62
   ·have H:=H.1 d62
    obtain ⟨k63,H⟩:=H
    exact path_wp (G:=given kp82 [(23,3,.call (vf (zNwD6 V)) none)] []) 1000 [true] ⟨(atC (cd Tryz.f82) [1,1,1,1,1,1,1,1,1,0,1,0,0,1,0,0,1,1,1,1,1,1,1,0,0,0]),[(8,vu s),(9,vf (us (Sp.lim V))),(10,vw t),(11,vf (us (Sp.lim R2))),(12,AV.ref 0 0 0 n),(13,vf (us (Sp.lim U))),(14,vi i),(16,vw 999999999),(17,vf (zNwD6 V))],[⟨us o,1,0,false,true⟩],_,[],_⟩ (by kernel_rfl) (bc (beq_t (i61.2 d62)) b0) q0 (ce (@ev115 (false) (V) (999999999) k63) c0) (H)
   ·have H:=H.2 d62
    obtain ⟨k64,H⟩:=H
    have w65:wv ((0 + (Sp.lim R2).getD ((↑(Sp.lim V).length:Int) - 1).toNat default).tdiv t) = (0 + (Sp.lim R2).getD ((↑(Sp.lim V).length:Int) - 1).toNat default).tdiv t:=wU32 k64
    obtain ⟨k66,H⟩:=H
    exact path_wp (G:=given kp82 [(23,3,.call (vf (zNwD10 V R2 t)) none)] []) 1000 [false] ⟨(atC (cd Tryz.f82) [1,1,1,1,1,1,1,1,1,0,1,0,0,1,0,0,1,1,1,1,1,1,1,0,0,0]),[(8,vu s),(9,vf (us (Sp.lim V))),(10,vw t),(11,vf (us (Sp.lim R2))),(12,AV.ref 0 0 0 n),(13,vf (us (Sp.lim U))),(14,vi i),(16,vw (wu ((wu (0 + wu ((Sp.lim R2).getD ((↑(Sp.lim V).length:Int) - 1).toNat default))).tdiv t))),(17,vf (zNwD10 V R2 t))],[⟨us o,1,0,false,true⟩],_,[],[pc 115 [vf (us (Sp.lim V)),vu (wv (wu ((wu (0 + wu ((Sp.lim R2).getD ((↑(Sp.lim V).length:Int) - 1).toNat default))).tdiv t)))] (vf (zNwD10 V R2 t))]⟩ (by kernel_rfl) (bc (beq_f (fun h => d62 (i61.1 h))) b0) q0 (ce (by (try rw [w54]);(try rw [w56]);(try rw [w60]);(try rw [w65]);all_goals exact (@ev115 (false) (V) ((0 + (Sp.lim R2).getD ((↑(Sp.lim V).length:Int) - 1).toNat default).tdiv t) k66)) c0) (by (try rw [w54]);(try rw [w56]);(try rw [w60]);all_goals exact H)
  ·have H:=H.2 d46
   obtain ⟨k68,H⟩:=H
   obtain ⟨k69,H⟩:=H
   have w70:wu (Int.tdiv 0 t) = Int.tdiv 0 t:=wU64 k69
   have i71:(decide (wu (Int.tdiv 0 t) > 999999999)) = true ↔ (Int.tdiv 0 t > 999999999):=(by (try rw [w70]);all_goals exact i_dec)
   rcases xm (Int.tdiv 0 t > 999999999) with d72 | d72
   ·have H:=H.1 d72
    obtain ⟨k73,H⟩:=H
    exact path_wp (G:=given kp82 [(23,3,.call (vf (zNwD6 V)) none)] []) 1000 [false,false,true] ⟨(atC (cd Tryz.f82) [1,1,1,1,1,1,1,1,1,0,1,0,0,1,0,0,1,1,1,1,1,1,1,0,0,0]),[(8,vu s),(9,vf (us (Sp.lim V))),(10,vw t),(11,vf (us (Sp.lim R2))),(12,AV.ref 0 0 0 n),(13,vf (us (Sp.lim U))),(14,vi i),(16,vw 999999999),(17,vf (zNwD6 V))],[⟨us o,1,0,false,true⟩],_,[],_⟩ (by kernel_rfl) (bc (beq_f (fun h => d4 (i3.1 h))) (bc (beq_f (fun h => d46 (i45.1 h))) (bc (i_neq.2 k68) (bc (beq_t (i71.2 d72)) b0)))) q0 (ce (@ev115 (false) (V) (999999999) k73) c0) (H)
   ·have H:=H.2 d72
    obtain ⟨k74,H⟩:=H
    have w75:wv (Int.tdiv 0 t) = Int.tdiv 0 t:=wU32 k74
    obtain ⟨k76,H⟩:=H
    exact path_wp (G:=given kp82 [(23,3,.call (vf (zNwD12 V t)) none)] []) 1000 [false,false,false] ⟨(atC (cd Tryz.f82) [1,1,1,1,1,1,1,1,1,0,1,0,0,1,0,0,1,1,1,1,1,1,1,0,0,0]),[(8,vu s),(9,vf (us (Sp.lim V))),(10,vw t),(11,vf (us (Sp.lim R2))),(12,AV.ref 0 0 0 n),(13,vf (us (Sp.lim U))),(14,vi i),(16,vw (wu (Int.tdiv 0 t))),(17,vf (zNwD12 V t))],[⟨us o,1,0,false,true⟩],_,[],[pc 115 [vf (us (Sp.lim V)),vu (wv (wu (Int.tdiv 0 t)))] (vf (zNwD12 V t))]⟩ (by kernel_rfl) (bc (beq_f (fun h => d4 (i3.1 h))) (bc (beq_f (fun h => d46 (i45.1 h))) (bc (i_neq.2 k68) (bc (beq_f (fun h => d72 (i71.1 h))) b0)))) q0 (ce (by (try rw [w70]);(try rw [w75]);all_goals exact (@ev115 (false) (V) (Int.tdiv 0 t) k76)) c0) (by (try rw [w70]);all_goals exact H)
theorem rPartsH (V U:Nat) (s t i:Int) (n:Nat) (o:List Int) (R:Nat)  (dq:AV) (H :
  ((i >= 0) -> False) /\
  (¬(i >= 0) -> (0 <= (↑(Sp.lim R).length:Int)) /\
   ((↑(Sp.lim R).length:Int) * 4 <= 1099511627776) /\
   ((↑(Sp.lim R).length:Int) <= 1099511627776) /\
   (-9223372036854775808 <= (↑(Sp.lim R).length:Int) - 1 /\ (↑(Sp.lim R).length:Int) - 1 <= 9223372036854775807) /\
   rPartsL_at (R) (s) (0) ((↑(Sp.lim R).length:Int) - 1) (n) (o) (List.replicate (↑(Sp.lim R).length:Int).toNat (0:Int)) (PureQ dq))) :
 rPartsH_at V U s t i n o R (PureQ dq):=by
 unfold rPartsH_at
 rcases xm (i >= 0) with d2 | d2
 ·have H:=H.1 d2
  exact False.elim H
 ·have H:=H.2 d2
  have w3:(us (Sp.lim R)).length = (Sp.lim R).length:=List.length_map ..
  have i4:(decide (0 <= (↑(us (Sp.lim R)).length:Int))) = true ↔ (0 <= (↑(Sp.lim R).length:Int)):=(by (try rw [w3]);all_goals exact i_dec)
  obtain ⟨k5,H⟩:=H
  have i6:(decide ((↑(us (Sp.lim R)).length:Int) <= (↑(us (Sp.lim R)).length:Int))) = true ↔ ((↑(Sp.lim R).length:Int) <= (↑(Sp.lim R).length:Int)):=(by (try rw [w3]);all_goals exact i_dec)
  have i7:(decide ((↑(us (Sp.lim R)).length:Int) * 4 <= 1099511627776)) = true ↔ ((↑(Sp.lim R).length:Int) * 4 <= 1099511627776):=(by (try rw [w3]);all_goals exact i_dec)
  obtain ⟨k8,H⟩:=H
  have i9:(decide ((↑(us (Sp.lim R)).length:Int) <= 1099511627776)) = true ↔ ((↑(Sp.lim R).length:Int) <= 1099511627776):=(by (try rw [w3]);all_goals exact i_dec)
  obtain ⟨k10,H⟩:=H
  have w11:List.replicate (↑(Sp.lim R).length:Int).toNat (vu 0) = us (List.replicate (↑(Sp.lim R).length:Int).toNat (0:Int)):=(lm_rep rfl)
  obtain ⟨k12,H⟩:=H
  have w13:wi ((↑(Sp.lim R).length:Int) - 1) = (↑(Sp.lim R).length:Int) - 1:=wI64 k12
  exact path_wp (G:=given kp82 [] []) 1000 [false] ⟨(atC (cd Tryz.f82) [1,1,1,1,1,1,1,1,1,1,1,1,0,1,0,0]),[(8,vu s),(11,vf (us (Sp.lim R))),(12,AV.ref 0 0 0 n),(18,vw 0),(19,AV.row 1 0),(20,vi (wi ((↑(us (Sp.lim R)).length:Int) - 1)))],[⟨us o,1,0,false,true⟩,⟨List.replicate (↑(us (Sp.lim R)).length:Int).toNat (vu 0),1,0,false,true⟩],[(decide (i >= 0)) == false,decide (0 <= (↑(us (Sp.lim R)).length:Int)),decide ((↑(us (Sp.lim R)).length:Int) <= (↑(us (Sp.lim R)).length:Int)),decide ((↑(us (Sp.lim R)).length:Int) * 4 <= 1099511627776),decide ((↑(us (Sp.lim R)).length:Int) <= 1099511627776)],[],_⟩ (by kernel_rfl) (bc (beq_f (fun h => d2 (i_dec.1 h))) (bc (i4.2 k5) (bc (i6.2 (by omega)) (bc (i7.2 k8) (bc (i9.2 k10) b0))))) q0 c0 (by (try rw [w3]);(try rw [w11]);(try rw [w13]);all_goals exact H)
theorem rPartsG (V U:Nat) (s t i:Int) (n:Nat) (o:List Int) (R p:Nat) (g:Int)  (dq:AV) (H :
  (Sp.short (Sp.cnt p) /\ Sp.short (Sp.cnt R)) /\
  ((Sp.sgnI ((↑p:Int) - (↑R:Int)) > 0) -> (0 <= g - 1 /\ g - 1 <= 18446744073709551615) /\
   (Sp.short (Sp.cnt p) /\ V <= p) /\
   rPartsG_at (V) (U) (s) (t) (i) (n) (o) (R) (p - V) (g - 1) (PureQ dq)) /\
  (¬(Sp.sgnI ((↑p:Int) - (↑R:Int)) > 0) -> (Sp.short (Sp.cnt R) /\ p <= R) /\
   (0 <= i) /\
   (i.toNat < n) /\
   (0 + i.toNat < o.length) /\
   (0 <= g /\ g <= 4294967295) /\
   (-9223372036854775808 <= i - 1 /\ i - 1 <= 9223372036854775807) /\
   rPartsH_at (V) (U) (s) (t) (i - 1) (n) (o.set (0 + i.toNat) g) (R - p) (PureQ dq))) :
 rPartsG_at V U s t i n o R p g (PureQ dq):=by
 unfold rPartsG_at
 obtain ⟨k1,H⟩:=H
 refine path_wp (G:=given kp82 [(24,2,.call (vi (Sp.sgnI ((↑p:Int) - (↑R:Int)))) none)] []) 3 [] ⟨(atC (cd Tryz.f82) [1,1,1,1,1,1,1,1,1,0,1,0,0,1,0,0,1,1,1,1,1,1,1,0,0,0,0,1]),[(8,vu s),(9,vf (us (Sp.lim V))),(10,vw t),(11,vf (us (Sp.lim R))),(12,AV.ref 0 0 0 n),(13,vf (us (Sp.lim U))),(14,vi i),(16,vw g),(17,vf (us (Sp.lim p))),(125,vb (decide (Sp.sgnI ((↑p:Int) - (↑R:Int)) > 0)))],[⟨us o,1,0,false,true⟩],_,[],_⟩ (by kernel_rfl) b0 q0 (ce (@ev81_a (false) (false) (p) (R) k1) c0) ?_
 rcases xm (Sp.sgnI ((↑p:Int) - (↑R:Int)) > 0) with d3 | d3
 ·have H:=H.1 d3
  obtain ⟨k4,H⟩:=H
  have w5:wu (g - 1) = g - 1:=wU64 k4
  obtain ⟨k6,H⟩:=H
  exact path_wp (G:=given kp82 [(26,2,.call (vf (us (Sp.lim (p - V)))) none)] []) 1000 [true] ⟨(atC (cd Tryz.f82) [1,1,1,1,1,1,1,1,1,0,1,0,0,1,0,0,1,1,1,1,1,1,1,0,0,0]),[(8,vu s),(9,vf (us (Sp.lim V))),(10,vw t),(11,vf (us (Sp.lim R))),(12,AV.ref 0 0 0 n),(13,vf (us (Sp.lim U))),(14,vi i),(16,vw (wu (g - 1))),(17,vf (us (Sp.lim (p - V))))],[⟨us o,1,0,false,true⟩],_,[],_⟩ (by kernel_rfl) (bc (beq_t (i_dec.2 d3)) b0) q0 (ce (@ev116_a (false) (false) (p) (V) k6) c0) (by (try rw [w5]);all_goals exact H)
 ·have H:=H.2 d3
  obtain ⟨k7,H⟩:=H
  obtain ⟨k9,H⟩:=H
  obtain ⟨k11,H⟩:=H
  obtain ⟨k12,H⟩:=H
  obtain ⟨k13,H⟩:=H
  have w14:wv g = g:=wU32 k13
  have w15:(us o).set (0 + i.toNat) (vu g) = us (o.set (0 + i.toNat) g):=(lm_set rfl rfl)
  obtain ⟨k16,H⟩:=H
  have w17:wi (i - 1) = i - 1:=wI64 k16
  exact path_wp (G:=given kp82 [(27,2,.call (vf (us (Sp.lim (R - p)))) none),(28,5,.elem (vu (o.getD (0 + i.toNat) default)))] []) 1000 [false] ⟨(atC (cd Tryz.f82) [1,1,1,1,1,1,1,1,1,0,1,0,0]),[(8,vu s),(9,vf (us (Sp.lim V))),(10,vw t),(11,vf (us (Sp.lim (R - p)))),(12,AV.ref 0 0 0 n),(13,vf (us (Sp.lim U))),(14,vi (wi (i - 1)))],[⟨(us o).set (0 + i.toNat) (vu (wv g)),1,0,false,true⟩],_,[((us o).get?Internal (0 + i.toNat) = some (vu (o.getD (0 + i.toNat) default)))],_⟩ (by kernel_rfl) (bc (beq_f (fun h => d3 (i_dec.1 h))) (bc rfl (bc (i_dec.2 k9) (bc (i_dec.2 k11) (bc rfl b0))))) (qc (el_map k12) q0) (ce (@ev116_a (false) (false) (R) (p) k7) c0) (by (try rw [w14]);(try rw [w15]);(try rw [w17]);all_goals exact H)
noncomputable abbrev zNwD13 (n:Nat) (o:List Int):=us (Sp.trimL (List.take n (List.drop 0 o)))
theorem rPartsL0 (s:Int) (n:Nat) (o:List Int)  (dq:AV) (H :
  (Sp.short (List.take n (List.drop 0 o)).length) /\
  ∃ (l1:List (Int)),
  (Ev M1 (Conf.pure 80 [vf []]) (vf (us l1)) []) /\
  Weak (tu [vf (us (Sp.trimL (List.take n (List.drop 0 o)))),vf (us l1)]) dq) :
 rPartsL0_at s n o (PureQ dq):=by
 unfold rPartsL0_at
 have w1:List.drop 0 (us o) = us (List.drop 0 o):=(lm_drop rfl)
 have w2:List.take n (us (List.drop 0 o)) = us (List.take n (List.drop 0 o)):=(lm_take rfl)
 obtain ⟨k3,H⟩:=H
 obtain ⟨l1,H⟩:=H
 obtain ⟨k4,H⟩:=H
 exact path_rq (G:=given kp82 [(37,1,.call (vf (zNwD13 n o)) none),(37,3,.call (vf (us l1)) none)] []) 1000 [false] (calls:=[pc 80 [vf (List.take n (List.drop 0 (us o)))] (vf (zNwD13 n o)),pc 80 [vf []] (vf (us l1))]) (tu [vf (zNwD13 n o),vf (us l1)]) (by kernel_rfl) (bc rfl (bc rfl (bc rfl b0))) q0 (ce (by (try rw [w1]);(try rw [w2]);all_goals exact (@ev80_d (false) (List.take n (List.drop 0 o)) k3)) (ce k4 c0)) H
noncomputable abbrev zNwD14 (n:Nat) (o:List Int):=us (Sp.trimL (List.take n (List.drop 0 o)))
theorem rPartsL (R:Nat) (s c i:Int) (n:Nat) (o l:List Int)  (dq:AV) (H :
  ((i >= 0) -> (0 <= i) /\
   (i.toNat < (Sp.lim R).length) /\
   (0 <= c * 1000000000 /\ c * 1000000000 <= 18446744073709551615) /\
   (0 <= (Sp.lim R).getD i.toNat default /\ (Sp.lim R).getD i.toNat default <= 18446744073709551615) /\
   (0 <= c * 1000000000 + (Sp.lim R).getD i.toNat default /\ c * 1000000000 + (Sp.lim R).getD i.toNat default <= 18446744073709551615) /\
   (0 <= s /\ s <= 18446744073709551615) /\
   (¬s = 0) /\
   (i.toNat < l.length) /\
   (0 <= (c * 1000000000 + (Sp.lim R).getD i.toNat default).tdiv s /\ (c * 1000000000 + (Sp.lim R).getD i.toNat default).tdiv s <= 18446744073709551615) /\
   (0 <= (c * 1000000000 + (Sp.lim R).getD i.toNat default).tdiv s /\ (c * 1000000000 + (Sp.lim R).getD i.toNat default).tdiv s <= 4294967295) /\
   (-9223372036854775808 <= i - 1 /\ i - 1 <= 9223372036854775807) /\
   rPartsL_at (R) (s) ((c * 1000000000 + (Sp.lim R).getD i.toNat default).tmod s) (i - 1) (n) (o) (l.set i.toNat ((c * 1000000000 + (Sp.lim R).getD i.toNat default).tdiv s)) (PureQ dq)) /\
  (¬(i >= 0) -> (Sp.short (List.take n (List.drop 0 o)).length) /\
   (Sp.short l.length) /\
   Weak (tu [vf (us (Sp.trimL (List.take n (List.drop 0 o)))),vf (us (Sp.trimL l))]) dq)) :
 rPartsL_at R s c i n o l (PureQ dq):=by
 unfold rPartsL_at
 rcases xm (i >= 0) with d2 | d2
 ·have H:=H.1 d2
  obtain ⟨k4,H⟩:=H
  have w5:(us (Sp.lim R)).length = (Sp.lim R).length:=List.length_map ..
  have i6:(decide (i.toNat < (us (Sp.lim R)).length)) = true ↔ (i.toNat < (Sp.lim R).length):=(by (try rw [w5]);all_goals exact i_dec)
  obtain ⟨k7,H⟩:=H
  obtain ⟨k8,H⟩:=H
  have w9:wu (c * 1000000000) = c * 1000000000:=wU64 k8
  obtain ⟨k10,H⟩:=H
  have w11:wu ((Sp.lim R).getD i.toNat default) = (Sp.lim R).getD i.toNat default:=wU64 k10
  obtain ⟨k12,H⟩:=H
  have w13:wu (c * 1000000000 + (Sp.lim R).getD i.toNat default) = c * 1000000000 + (Sp.lim R).getD i.toNat default:=wU64 k12
  obtain ⟨k14,H⟩:=H
  have w15:wu s = s:=wU64 k14
  have i16:(!wu s == 0) = true ↔ (¬s = 0):=(by (try rw [w15]);all_goals exact i_neq)
  obtain ⟨k17,H⟩:=H
  have w19:(us l).length = l.length:=List.length_map ..
  have i20:(decide (i.toNat < (us l).length)) = true ↔ (i.toNat < l.length):=(by (try rw [w19]);all_goals exact i_dec)
  obtain ⟨k21,H⟩:=H
  obtain ⟨k22,H⟩:=H
  have w23:wu ((c * 1000000000 + (Sp.lim R).getD i.toNat default).tdiv s) = (c * 1000000000 + (Sp.lim R).getD i.toNat default).tdiv s:=wU64 k22
  obtain ⟨k24,H⟩:=H
  have w25:wv ((c * 1000000000 + (Sp.lim R).getD i.toNat default).tdiv s) = (c * 1000000000 + (Sp.lim R).getD i.toNat default).tdiv s:=wU32 k24
  have w26:(us l).set i.toNat (vu ((c * 1000000000 + (Sp.lim R).getD i.toNat default).tdiv s)) = us (l.set i.toNat ((c * 1000000000 + (Sp.lim R).getD i.toNat default).tdiv s)):=(lm_set rfl rfl)
  have i27:(!wu s == 0) = true ↔ (¬s = 0):=(by (try rw [w15]);all_goals exact i_neq)
  obtain ⟨k28,H⟩:=H
  have w29:wi (i - 1) = i - 1:=wI64 k28
  exact path_wp (G:=given kp82 [(34,5,.elem (vu ((Sp.lim R).getD i.toNat default))),(35,8,.elem (vu (l.getD i.toNat default)))] []) 1000 [true] ⟨(atC (cd Tryz.f82) [1,1,1,1,1,1,1,1,1,1,1,1,0,1,0,0]),[(8,vu s),(11,vf (us (Sp.lim R))),(12,AV.ref 0 0 0 n),(18,vw ((wu (wu (c * 1000000000) + wu ((Sp.lim R).getD i.toNat default))).tmod (wu s))),(19,AV.row 1 0),(20,vi (wi (i - 1)))],[⟨us o,1,0,false,true⟩,⟨(us l).set i.toNat (vu (wv (wu ((wu (wu (c * 1000000000) + wu ((Sp.lim R).getD i.toNat default))).tdiv (wu s))))),1,0,false,true⟩],_,[((us (Sp.lim R)).get?Internal i.toNat = some (vu ((Sp.lim R).getD i.toNat default))),((us l).get?Internal i.toNat = some (vu (l.getD i.toNat default)))],_⟩ (by kernel_rfl) (bc (beq_t (i_dec.2 d2)) (bc (i_dec.2 k4) (bc (i6.2 k7) (bc (i16.2 k17) (bc rfl (bc (i_dec.2 k4) (bc (i20.2 k21) (bc rfl (bc (i27.2 k17) b0))))))))) (qc (el_map k7) (qc (el_map k21) q0)) c0 (by (try rw [w9]);(try rw [w11]);(try rw [w13]);(try rw [w15]);(try rw [w23]);(try rw [w25]);(try rw [w26]);(try rw [w29]);all_goals exact H)
 ·have H:=H.2 d2
  have w30:List.drop 0 (us o) = us (List.drop 0 o):=(lm_drop rfl)
  have w31:List.take n (us (List.drop 0 o)) = us (List.take n (List.drop 0 o)):=(lm_take rfl)
  obtain ⟨k32,H⟩:=H
  obtain ⟨k33,H⟩:=H
  exact path_rq (G:=given kp82 [(37,1,.call (vf (zNwD14 n o)) none),(37,3,.call (vf (us (Sp.trimL l))) none)] []) 1000 [false] (calls:=[pc 80 [vf (List.take n (List.drop 0 (us o)))] (vf (zNwD14 n o)),pc 80 [vf (us l)] (vf (us (Sp.trimL l)))]) (tu [vf (zNwD14 n o),vf (us (Sp.trimL l))]) (by kernel_rfl) (bc (beq_f (fun h => d2 (i_dec.1 h))) (bc rfl (bc rfl b0))) q0 (ce (by (try rw [w30]);(try rw [w31]);all_goals exact (@ev80_d (false) (List.take n (List.drop 0 o)) k32)) (ce (@ev80_d (false) (l) k33) c0)) H
end Go.Av

namespace Go.Av
open Go.Proofs
theorem scl_facts1 {D:Nat} (h:1 <= Sp.cnt D):0 < Sp.scl D /\ Sp.scl D < 1000000000 /\ Sp.fits (Sp.cnt D) (D * Sp.scl D) /\ 1000000000 ^ (Sp.cnt D - 1) <= D * Sp.scl D /\ D / 1000000000 ^ (Sp.cnt D - 1) < 1000000000:=by
 have hf:=fits_self D
 have ht:D / 1000000000 ^ (Sp.cnt D - 1) < 1000000000:=fits_top (by rw [show Sp.cnt D - 1 + 1 = Sp.cnt D by omega];exact hf)
 have hnf:¬Sp.fits (Sp.cnt D - 1) D:=fun k => by have:=fits_cnt.1 k;omega
 have hge:1000000000 ^ (Sp.cnt D - 1) <= D:=by unfold Sp.fits at hnf;omega
 have ht1:0 < D / 1000000000 ^ (Sp.cnt D - 1):=Nat.div_pos hge (Nat.pow_pos (by omega))
 have hlt:D < 1000000000 ^ (Sp.cnt D - 1) * (D / 1000000000 ^ (Sp.cnt D - 1) + 1):=Nat.lt_mul_div_succ D (Nat.pow_pos (by omega))
 have hp:1000000000 ^ Sp.cnt D = 1000000000 ^ (Sp.cnt D - 1) * 1000000000:=by rw [<- Nat.pow_succ];congr 1;omega
 have hs1:0 < Sp.scl D:=Nat.div_pos (by omega) (by omega)
 have hs2:Sp.scl D * (D / 1000000000 ^ (Sp.cnt D - 1) + 1) <= 1000000000:=Nat.div_mul_le_self _ _
 unfold Sp.fits
 rw [hp]
 generalize D / 1000000000 ^ (Sp.cnt D - 1) = t at ht1 ht hlt hs2
 generalize 1000000000 ^ (Sp.cnt D - 1) = P at hge hlt
 have hs3:Sp.scl D < 1000000000:=by
  have:Sp.scl D * 2 <= Sp.scl D * (t + 1):=Nat.mul_le_mul_left _ (by omega)
  omega
 generalize Sp.scl D = s at hs1 hs2 hs3
 refine ⟨hs1,hs3,?_,?_,ht⟩
 ·have h1:D * s < P * (t + 1) * s:=Nat.mul_lt_mul_of_pos_right hlt hs1
  have h2:P * (t + 1) * s = P * (s * (t + 1)):=by grind
  have h3:P * (s * (t + 1)) <= P * 1000000000:=Nat.mul_le_mul_left _ hs2
  omega
 ·have:D * 1 <= D * s:=Nat.mul_le_mul_left _ hs1
  omega
theorem top_facts {V:Nat} (hV:V ≠ 0):1 <= Sp.cnt V /\ 1 <= V / 1000000000 ^ (Sp.cnt V - 1) /\ V / 1000000000 ^ (Sp.cnt V - 1) < 1000000000:=by
 have hm:1 <= Sp.cnt V:=by
  have:=cnt_eq_zero (v:=V)
  omega
 have hnf:¬Sp.fits (Sp.cnt V - 1) V:=fun k => by have:=fits_cnt.1 k;omega
 have hge:1000000000 ^ (Sp.cnt V - 1) <= V:=by unfold Sp.fits at hnf;omega
 exact ⟨hm,Nat.div_pos hge (Nat.pow_pos (by omega)),fits_top (by rw [show Sp.cnt V - 1 + 1 = Sp.cnt V by omega];exact fits_self V)⟩
theorem fits_row {V R:Nat} (h:R < V * 1000000000):Sp.fits (Sp.cnt V + 1) R:=by
 have h1:=fits_self V
 unfold Sp.fits at h1 ⊢
 rw [Nat.pow_succ]
 exact Nat.lt_of_lt_of_le h (Nat.mul_le_mul_right _ (Nat.le_of_lt h1))
theorem partsTail {V R2 T:Nat} {t:Int} {G:Nat -> Int -> Prop} (hV:V ≠ 0) (hc:Sp.cnt V <= 400000) (hT:T = V / 1000000000 ^ (Sp.cnt V - 1)) (ht:t = (T:Int)) (hR:R2 < V * 1000000000)
  (hG:∀ g:Nat,R2 / V <= g -> g < 1000000000 -> G (V * g) (g:Int)) :
   (((↑(Sp.lim R2).length:Int) > (↑(Sp.lim V).length:Int)) -> (0 <= (↑(Sp.lim V).length:Int)) /\
    ((↑(Sp.lim V).length:Int).toNat < (Sp.lim R2).length) /\
    (0 <= (Sp.lim R2).getD (↑(Sp.lim V).length:Int).toNat default /\ (Sp.lim R2).getD (↑(Sp.lim V).length:Int).toNat default <= 18446744073709551615) /\
    (0 <= (Sp.lim R2).getD (↑(Sp.lim V).length:Int).toNat default * 1000000000 /\ (Sp.lim R2).getD (↑(Sp.lim V).length:Int).toNat default * 1000000000 <= 18446744073709551615) /\
    (((↑(Sp.lim R2).length:Int) >= (↑(Sp.lim V).length:Int)) -> (-9223372036854775808 <= (↑(Sp.lim V).length:Int) - 1 /\ (↑(Sp.lim V).length:Int) - 1 <= 9223372036854775807) /\
     (0 <= (↑(Sp.lim V).length:Int) - 1) /\
     (((↑(Sp.lim V).length:Int) - 1).toNat < (Sp.lim R2).length) /\
     (0 <= (Sp.lim R2).getD ((↑(Sp.lim V).length:Int) - 1).toNat default /\ (Sp.lim R2).getD ((↑(Sp.lim V).length:Int) - 1).toNat default <= 18446744073709551615) /\
     (0 <= (Sp.lim R2).getD (↑(Sp.lim V).length:Int).toNat default * 1000000000 + (Sp.lim R2).getD ((↑(Sp.lim V).length:Int) - 1).toNat default /\ (Sp.lim R2).getD (↑(Sp.lim V).length:Int).toNat default * 1000000000 + (Sp.lim R2).getD ((↑(Sp.lim V).length:Int) - 1).toNat default <= 18446744073709551615) /\
     (¬t = 0) /\
     (0 <= ((Sp.lim R2).getD (↑(Sp.lim V).length:Int).toNat default * 1000000000 + (Sp.lim R2).getD ((↑(Sp.lim V).length:Int) - 1).toNat default).tdiv t /\ ((Sp.lim R2).getD (↑(Sp.lim V).length:Int).toNat default * 1000000000 + (Sp.lim R2).getD ((↑(Sp.lim V).length:Int) - 1).toNat default).tdiv t <= 18446744073709551615) /\
     ((((Sp.lim R2).getD (↑(Sp.lim V).length:Int).toNat default * 1000000000 + (Sp.lim R2).getD ((↑(Sp.lim V).length:Int) - 1).toNat default).tdiv t > 999999999) -> (Sp.okB (↑V:Int) /\ Sp.dig 999999999) /\
      G (V * Int.toNat 999999999) (999999999)) /\
     (¬(((Sp.lim R2).getD (↑(Sp.lim V).length:Int).toNat default * 1000000000 + (Sp.lim R2).getD ((↑(Sp.lim V).length:Int) - 1).toNat default).tdiv t > 999999999) -> (0 <= ((Sp.lim R2).getD (↑(Sp.lim V).length:Int).toNat default * 1000000000 + (Sp.lim R2).getD ((↑(Sp.lim V).length:Int) - 1).toNat default).tdiv t /\ ((Sp.lim R2).getD (↑(Sp.lim V).length:Int).toNat default * 1000000000 + (Sp.lim R2).getD ((↑(Sp.lim V).length:Int) - 1).toNat default).tdiv t <= 4294967295) /\
      (Sp.okB (↑V:Int) /\ Sp.dig (((Sp.lim R2).getD (↑(Sp.lim V).length:Int).toNat default * 1000000000 + (Sp.lim R2).getD ((↑(Sp.lim V).length:Int) - 1).toNat default).tdiv t)) /\
      G (V * (((Sp.lim R2).getD (↑(Sp.lim V).length:Int).toNat default * 1000000000 + (Sp.lim R2).getD ((↑(Sp.lim V).length:Int) - 1).toNat default).tdiv t).toNat) (((Sp.lim R2).getD (↑(Sp.lim V).length:Int).toNat default * 1000000000 + (Sp.lim R2).getD ((↑(Sp.lim V).length:Int) - 1).toNat default).tdiv t))) /\
    (¬((↑(Sp.lim R2).length:Int) >= (↑(Sp.lim V).length:Int)) -> (¬t = 0) /\
     (0 <= ((Sp.lim R2).getD (↑(Sp.lim V).length:Int).toNat default * 1000000000).tdiv t /\ ((Sp.lim R2).getD (↑(Sp.lim V).length:Int).toNat default * 1000000000).tdiv t <= 18446744073709551615) /\
     ((((Sp.lim R2).getD (↑(Sp.lim V).length:Int).toNat default * 1000000000).tdiv t > 999999999) -> (Sp.okB (↑V:Int) /\ Sp.dig 999999999) /\
      G (V * Int.toNat 999999999) (999999999)) /\
     (¬(((Sp.lim R2).getD (↑(Sp.lim V).length:Int).toNat default * 1000000000).tdiv t > 999999999) -> (0 <= ((Sp.lim R2).getD (↑(Sp.lim V).length:Int).toNat default * 1000000000).tdiv t /\ ((Sp.lim R2).getD (↑(Sp.lim V).length:Int).toNat default * 1000000000).tdiv t <= 4294967295) /\
      (Sp.okB (↑V:Int) /\ Sp.dig (((Sp.lim R2).getD (↑(Sp.lim V).length:Int).toNat default * 1000000000).tdiv t)) /\
      G (V * (((Sp.lim R2).getD (↑(Sp.lim V).length:Int).toNat default * 1000000000).tdiv t).toNat) (((Sp.lim R2).getD (↑(Sp.lim V).length:Int).toNat default * 1000000000).tdiv t)))) /\
   (¬((↑(Sp.lim R2).length:Int) > (↑(Sp.lim V).length:Int)) -> (((↑(Sp.lim R2).length:Int) >= (↑(Sp.lim V).length:Int)) -> (-9223372036854775808 <= (↑(Sp.lim V).length:Int) - 1 /\ (↑(Sp.lim V).length:Int) - 1 <= 9223372036854775807) /\
     (0 <= (↑(Sp.lim V).length:Int) - 1) /\
     (((↑(Sp.lim V).length:Int) - 1).toNat < (Sp.lim R2).length) /\
     (0 <= (Sp.lim R2).getD ((↑(Sp.lim V).length:Int) - 1).toNat default /\ (Sp.lim R2).getD ((↑(Sp.lim V).length:Int) - 1).toNat default <= 18446744073709551615) /\
     (0 <= 0 + (Sp.lim R2).getD ((↑(Sp.lim V).length:Int) - 1).toNat default /\ 0 + (Sp.lim R2).getD ((↑(Sp.lim V).length:Int) - 1).toNat default <= 18446744073709551615) /\
     (¬t = 0) /\
     (0 <= (0 + (Sp.lim R2).getD ((↑(Sp.lim V).length:Int) - 1).toNat default).tdiv t /\ (0 + (Sp.lim R2).getD ((↑(Sp.lim V).length:Int) - 1).toNat default).tdiv t <= 18446744073709551615) /\
     (((0 + (Sp.lim R2).getD ((↑(Sp.lim V).length:Int) - 1).toNat default).tdiv t > 999999999) -> (Sp.okB (↑V:Int) /\ Sp.dig 999999999) /\
      G (V * Int.toNat 999999999) (999999999)) /\
     (¬((0 + (Sp.lim R2).getD ((↑(Sp.lim V).length:Int) - 1).toNat default).tdiv t > 999999999) -> (0 <= (0 + (Sp.lim R2).getD ((↑(Sp.lim V).length:Int) - 1).toNat default).tdiv t /\ (0 + (Sp.lim R2).getD ((↑(Sp.lim V).length:Int) - 1).toNat default).tdiv t <= 4294967295) /\
      (Sp.okB (↑V:Int) /\ Sp.dig ((0 + (Sp.lim R2).getD ((↑(Sp.lim V).length:Int) - 1).toNat default).tdiv t)) /\
      G (V * ((0 + (Sp.lim R2).getD ((↑(Sp.lim V).length:Int) - 1).toNat default).tdiv t).toNat) ((0 + (Sp.lim R2).getD ((↑(Sp.lim V).length:Int) - 1).toNat default).tdiv t))) /\
    (¬((↑(Sp.lim R2).length:Int) >= (↑(Sp.lim V).length:Int)) -> (¬t = 0) /\
     (0 <= Int.tdiv 0 t /\ Int.tdiv 0 t <= 18446744073709551615) /\
     ((Int.tdiv 0 t > 999999999) -> (Sp.okB (↑V:Int) /\ Sp.dig 999999999) /\
      G (V * Int.toNat 999999999) (999999999)) /\
     (¬(Int.tdiv 0 t > 999999999) -> (0 <= Int.tdiv 0 t /\ Int.tdiv 0 t <= 4294967295) /\
      (Sp.okB (↑V:Int) /\ Sp.dig (Int.tdiv 0 t)) /\
      G (V * (Int.tdiv 0 t).toNat) (Int.tdiv 0 t)))):=by
 obtain ⟨hm,hT1,hTlt⟩:=top_facts hV
 rw [<- hT] at hT1 hTlt
 have hqB:R2 / V < 1000000000:=Nat.div_lt_of_lt_mul hR
 have hfR:Sp.fits (Sp.cnt V + 1) R2:=fits_row hR
 have hcR:=fits_cnt.1 hfR
 have hq:R2 / V <= R2 / 1000000000 ^ (Sp.cnt V - 1) / T:=by
  rw [Nat.le_div_iff_mul_le hT1,Nat.le_div_iff_mul_le (Nat.pow_pos (by omega))]
  have h1:T * 1000000000 ^ (Sp.cnt V - 1) <= V:=by rw [hT];exact Nat.div_mul_le_self _ _
  have h2:=Nat.mul_le_mul_left (R2 / V) h1
  have h3:=Nat.div_mul_le_self R2 V
  rw [Nat.mul_assoc];omega
 have hsp:=digit_split R2 (Sp.cnt V - 1)
 rw [show Sp.cnt V - 1 + 1 = Sp.cnt V by omega] at hsp
 have hd1:R2 / 1000000000 ^ Sp.cnt V < 1000000000:=fits_top hfR
 have hd0:R2 / 1000000000 ^ (Sp.cnt V - 1) % 1000000000 < 1000000000:=Nat.mod_lt _ (by omega)
 have e0:((Sp.cnt V:Int) - 1).toNat = Sp.cnt V - 1:=by omega
 have okV:Sp.okB (V:Int):=by unfold Sp.okB;rw [Int.natAbs_natCast];exact hc
 subst ht
 have hHb:R2 / 1000000000 ^ (Sp.cnt V - 1) <= 18446744073709551615:=by
  generalize R2 / 1000000000 ^ Sp.cnt V = d1 at hsp hd1
  omega
 have key:∀ x:Int,x = ((R2 / 1000000000 ^ (Sp.cnt V - 1):Nat):Int) -> (¬(T:Int) = 0) /\ (0 <= x.tdiv T /\ x.tdiv T <= 18446744073709551615) /\
   ((x.tdiv T > 999999999) -> (Sp.okB (V:Int) /\ Sp.dig 999999999) /\ G (V * Int.toNat 999999999) 999999999) /\
   (¬(x.tdiv T > 999999999) -> (0 <= x.tdiv T /\ x.tdiv T <= 4294967295) /\ (Sp.okB (V:Int) /\ Sp.dig (x.tdiv T)) /\ G (V * (x.tdiv T).toNat) (x.tdiv T)):=by
  intro x hx
  have e:x.tdiv T = ((R2 / 1000000000 ^ (Sp.cnt V - 1) / T:Nat):Int):=by rw [hx];exact (Int.ofNat_tdiv _ _).symm
  have hb:R2 / 1000000000 ^ (Sp.cnt V - 1) / T <= 18446744073709551615:=Nat.le_trans (Nat.div_le_self _ _) hHb
  rw [e,Int.toNat_natCast]
  generalize R2 / 1000000000 ^ (Sp.cnt V - 1) / T = z at hq hb
  refine ⟨by omega,by omega,fun _ => ⟨⟨okV,by unfold Sp.dig;omega⟩,hG 999999999 (by omega) (by omega)⟩,fun h => ⟨by omega,⟨okV,by unfold Sp.dig;omega⟩,hG z hq (by omega)⟩⟩
 simp only [lim_len,Int.toNat_natCast,e0]
 refine ⟨fun h => ?_,fun h => ⟨fun h2 => ?_,fun h2 => ?_⟩⟩
 ·have g1:(Sp.lim R2).getD (Sp.cnt V) default = ((R2 / 1000000000 ^ Sp.cnt V % 1000000000:Nat):Int):=limN_getD R2 (show Sp.cnt V < Sp.cnt R2 by omega)
  have g0:(Sp.lim R2).getD (Sp.cnt V - 1) default = ((R2 / 1000000000 ^ (Sp.cnt V - 1) % 1000000000:Nat):Int):=limN_getD R2 (show Sp.cnt V - 1 < Sp.cnt R2 by omega)
  rw [g1,g0,Nat.mod_eq_of_lt hd1]
  have hx:((R2 / 1000000000 ^ Sp.cnt V:Nat):Int) * 1000000000 + ((R2 / 1000000000 ^ (Sp.cnt V - 1) % 1000000000:Nat):Int) = ((R2 / 1000000000 ^ (Sp.cnt V - 1):Nat):Int):=by
   generalize R2 / 1000000000 ^ Sp.cnt V = d1 at hsp hd1
   generalize R2 / 1000000000 ^ (Sp.cnt V - 1) = d0 at hsp hd0
   omega
  have kk:=key _ hx
  generalize R2 / 1000000000 ^ Sp.cnt V = d1 at hd1 kk
  generalize R2 / 1000000000 ^ (Sp.cnt V - 1) % 1000000000 = d0 at hd0 kk
  exact ⟨by omega,by omega,by omega,by omega,fun _ => ⟨by omega,by omega,by omega,by omega,by omega,kk⟩,fun h3 => absurd h (by omega)⟩
 ·have g0:(Sp.lim R2).getD (Sp.cnt V - 1) default = ((R2 / 1000000000 ^ (Sp.cnt V - 1) % 1000000000:Nat):Int):=limN_getD R2 (show Sp.cnt V - 1 < Sp.cnt R2 by omega)
  have hz:R2 / 1000000000 ^ Sp.cnt V = 0:=fits_div (fits_self R2) (by omega)
  rw [g0]
  have hx:0 + ((R2 / 1000000000 ^ (Sp.cnt V - 1) % 1000000000:Nat):Int) = ((R2 / 1000000000 ^ (Sp.cnt V - 1):Nat):Int):=by
   rw [hz] at hsp
   generalize R2 / 1000000000 ^ (Sp.cnt V - 1) = d0 at hsp hd0
   omega
  have kk:=key _ hx
  generalize R2 / 1000000000 ^ (Sp.cnt V - 1) % 1000000000 = d0 at hd0 kk
  exact ⟨by omega,by omega,by omega,by omega,by omega,kk⟩
 ·have hz:R2 / 1000000000 ^ (Sp.cnt V - 1) = 0:=fits_div (fits_self R2) (by omega)
  exact key 0 (by rw [hz];rfl)
theorem rloopG {V U R2 n:Nat} {s t i:Int} {o:List Int} {dq:AV} (hV:V ≠ 0) (hc:Sp.cnt V <= 400000) (hR:R2 < V * 1000000000) (hi:0 <= i /\ i.toNat < n /\ i.toNat < o.length /\ i <= 9000000)
  (hn:rPartsH_at V U s t (i - 1) n (o.set i.toNat ((R2 / V:Nat):Int)) (R2 % V) (PureQ dq)) :
  ∀ (k g:Nat),g = R2 / V + k -> g < 1000000000 -> rPartsG_at V U s t i n o R2 (V * g) (g:Int) (PureQ dq):=by
 have hqm:=Nat.div_add_mod R2 V
 have hml:=Nat.mod_lt R2 (Nat.pos_of_ne_zero hV)
 have hcR:Sp.cnt R2 <= Sp.cnt V + 1:=fits_cnt.1 (fits_row hR)
 generalize R2 / V = q at hn hqm ⊢
 generalize R2 % V = r at hn hqm hml
 have hcp:∀ g,g < 1000000000 -> Sp.cnt (V * g) <= Sp.cnt V + 1:=fun g hg => fits_cnt.1 (fits_prod (fits_self V) (by unfold Sp.fits;omega))
 intro k
 induction k with
 | zero =>
  intro g hg hlt
  have hg:g = q:=by omega
  subst hg
  have e:R2 - V * g = r:=by omega
  have hcp:=hcp _ hlt
  refine rPartsG _ _ _ _ _ _ _ _ _ _ _ ⟨⟨by unfold Sp.short;omega,by unfold Sp.short;omega⟩,fun h => ?_,fun h => ⟨⟨by unfold Sp.short;omega,by omega⟩,hi.1,hi.2.1,by omega,by omega,by omega,?_⟩⟩
  ·exfalso
   have:¬(((V * g:Nat):Int) - (R2:Int) > 0):=by omega
   unfold Sp.sgnI at h
   (repeat' split at h) <;> omega
  ·rw [Nat.zero_add,e];exact hn
 | succ k ih =>
  intro g hg hlt
  have hgt:R2 < V * g:=by
   have:V * (q + 1) <= V * g:=Nat.mul_le_mul_left _ (by omega)
   rw [Nat.mul_succ] at this;omega
  have hcp:=hcp _ hlt
  have hVg:V <= V * g:=Nat.le_mul_of_pos_right _ (by omega)
  have e:V * g - V = V * (g - 1):=by
   rw [Nat.mul_sub];simp
  refine rPartsG _ _ _ _ _ _ _ _ _ _ _ ⟨⟨by unfold Sp.short;omega,by unfold Sp.short;omega⟩,fun h => ⟨by omega,⟨by unfold Sp.short;omega,hVg⟩,?_⟩,fun h => ?_⟩
  ·rw [e,show (g:Int) - 1 = ((g - 1:Nat):Int) by omega]
   exact ih (g - 1) (by omega) (by omega)
  ·exfalso
   unfold Sp.sgnI at h
   (repeat' split at h) <;> omega
end Go.Av

namespace Go.Av
open Go.Proofs
theorem loopLR {R s n Q:Nat} {o:List Int} (hs:0 < s /\ s < 1000000000) (ho:o.take n = Sp.limN n Q) (hQ:Sp.fits n Q) (hn:n <= 1000000) (hR:Sp.cnt R <= 1000000):∀ (i k:Nat) (l:List Int),i + k = Sp.cnt R -> l.length = Sp.cnt R -> l.drop i = Sp.limN k (R / 1000000000 ^ i / s) ->
  rPartsL_at R s ((R / 1000000000 ^ i % s:Nat):Int) ((i:Int) - 1) n o l (PureQ (.tup [usA false (Sp.lim Q),usA false (Sp.lim (R / s))]))
 | 0,k,l,hi,hol,hl => by
  have hk:k = Sp.cnt R:=by omega
  subst hk
  rw [List.drop_zero] at hl
  simp only [Nat.pow_zero,Nat.div_one] at hl ⊢
  refine rPartsL _ _ _ _ _ _ _ _ ⟨fun h => by omega,fun _ => ?_⟩
  rw [List.drop_zero,ho,hl,limN_len,limN_len,trimL_limN hQ,trimL_limN (fits_le (fits_self R) (Nat.div_le_self _ _))]
  exact ⟨hn,hR,.refl _⟩
 | i + 1,k,l,hi,hol,hl => by
  have gx:(Sp.lim R).getD i default = ((R / 1000000000 ^ i % 1000000000:Nat):Int):=limN_getD R (show i < Sp.cnt R by omega)
  have e1:(((i + 1:Nat):Int) - 1) = (i:Nat):=by omega
  have hsp:=digit_split R i
  have hx:R / 1000000000 ^ i % 1000000000 < 1000000000:=Nat.mod_lt _ (by omega)
  obtain ⟨b1,b2,b3⟩:=byWord_step (R / 1000000000 ^ (i + 1)) (R / 1000000000 ^ i % 1000000000) s hx hs.1
  have hs':R / 1000000000 ^ i % 1000000000 + 1000000000 * (R / 1000000000 ^ (i + 1)) = R / 1000000000 ^ i:=by omega
  rw [hs'] at b1 b2
  have hr:=Nat.mod_lt (R / 1000000000 ^ (i + 1)) hs.1
  rw [e1]
  refine rPartsL _ _ _ _ _ _ _ _ ⟨fun _ => ?_,fun h => by omega⟩
  rw [Int.toNat_natCast,gx,lim_len]
  have c1:((R / 1000000000 ^ (i + 1) % s:Nat):Int) * 1000000000 + ((R / 1000000000 ^ i % 1000000000:Nat):Int) = ((R / 1000000000 ^ (i + 1) % s * 1000000000 + R / 1000000000 ^ i % 1000000000:Nat):Int):=by omega
  obtain ⟨q0,hq0⟩:∃ q0,q0 = (R / 1000000000 ^ (i + 1) % s * 1000000000 + R / 1000000000 ^ i % 1000000000) / s:=⟨_,rfl⟩
  have c2:(((R / 1000000000 ^ (i + 1) % s * 1000000000 + R / 1000000000 ^ i % 1000000000:Nat):Int)).tdiv s = (q0:Nat):=by rw [hq0];exact (Int.ofNat_tdiv _ _).symm
  have c3:(((R / 1000000000 ^ (i + 1) % s * 1000000000 + R / 1000000000 ^ i % 1000000000:Nat):Int)).tmod s = ((R / 1000000000 ^ i % s:Nat):Int):=by rw [b2];exact (Int.ofNat_tmod _ _).symm
  rw [<- hq0] at b1 b3
  rw [c1,c2,c3]
  have main:rPartsL_at R s ((R / 1000000000 ^ i % s:Nat):Int) ((i:Int) - 1) n o (l.set i (q0:Nat)) (PureQ (.tup [usA false (Sp.lim Q),usA false (Sp.lim (R / s))])):=by
   refine loopLR hs ho hQ hn hR i (k + 1) _ (by omega) (by simpa using hol) ?_
   rw [drop_set_self (by omega),hl,limN_succ,b1]
   generalize R / 1000000000 ^ (i + 1) / s = z
   have e2:(1000000000 * z + q0) % 1000000000 = q0:=by omega
   have e3:(1000000000 * z + q0) / 1000000000 = z:=by omega
   rw [e2,e3]
  have hx':((R / 1000000000 ^ i % 1000000000:Nat):Int) < 1000000000:=by omega
  have hr':R / 1000000000 ^ (i + 1) % s < 1000000000:=by omega
  generalize R / 1000000000 ^ (i + 1) % s = X at hr' main ⊢
  generalize R / 1000000000 ^ i % 1000000000 = Y at hx' main ⊢
  exact ⟨by omega,by omega,by omega,by omega,by omega,by omega,by omega,by omega,by omega,by omega,by omega,main⟩
theorem stepH {V U s j n:Nat} {t:Int} {o:List Int} {dq:AV} (hV:V ≠ 0) (hc:Sp.cnt V <= 400000) (hn:n = Sp.cnt U) (hU:n <= 500000) (ht:t = ((V / 1000000000 ^ (Sp.cnt V - 1):Nat):Int)) (hj:j < n) (hol:n <= o.length)
  (ih:rPartsH_at V U s t ((j:Int) - 1) n (o.set j ((U / 1000000000 ^ j % 1000000000 + 1000000000 * (U / 1000000000 ^ (j + 1) % V)) / V:Nat)) (U / 1000000000 ^ j % V) (PureQ dq)) :
  (U / 1000000000 ^ (j + 1) % V = 0 -> rPartsAE_at V U s t j n o (PureQ dq) /\ rPartsA0_at V U s t j n o (PureQ dq)) /\
  (∀ c l,Sp.lim (U / 1000000000 ^ (j + 1) % V) = c :: l -> rPartsA_at V U s t j n o c l (PureQ dq)):=by
 subst hn
 have gx:(Sp.lim U).getD j default = ((U / 1000000000 ^ j % 1000000000:Nat):Int):=limN_getD U hj
 have hx:U / 1000000000 ^ j % 1000000000 < 1000000000:=Nat.mod_lt _ (by omega)
 have hsp:=digit_split U j
 have hs':U / 1000000000 ^ j % 1000000000 + 1000000000 * (U / 1000000000 ^ (j + 1)) = U / 1000000000 ^ j:=by omega
 obtain ⟨b1,b2,b3⟩:=byWord_step (U / 1000000000 ^ (j + 1)) (U / 1000000000 ^ j % 1000000000) V hx (Nat.pos_of_ne_zero hV)
 rw [hs'] at b2
 have hr:=Nat.mod_lt (U / 1000000000 ^ (j + 1)) (Nat.pos_of_ne_zero hV)
 rw [b2] at ih
 generalize U / 1000000000 ^ (j + 1) % V = R at hr ih b3 ⊢
 generalize U / 1000000000 ^ j % 1000000000 = x at hx gx ih b3
 have e2:R * 1000000000 + x = x + 1000000000 * R:=by omega
 rw [e2] at ih b3
 have hlu:=lim_len U
 have hR2:x + 1000000000 * R < V * 1000000000:=by omega
 have tl:=partsTail (G:=fun p g => rPartsG_at V U s t j (Sp.cnt U) o (x + 1000000000 * R) p g (PureQ dq)) (R2:=x + 1000000000 * R) hV hc rfl ht hR2
  (fun g hg hlt => rloopG (i:=(j:Int)) hV hc hR2 ⟨by omega,by omega,by omega,by omega⟩ (by rw [Int.toNat_natCast];exact ih) (g - (x + 1000000000 * R) / V) g (by omega) hlt)
 have one:R = 0 -> Ev M1 (.pure 80 [.vec true 1 [.int .u32 ((Sp.lim U).getD (j:Int).toNat default)]]) (usA false (Sp.lim (x + 1000000000 * R))) []:=by
  intro h0
  have:=rtrimN true 1 x ⟨by unfold Sp.short;omega,by unfold Sp.fits;omega⟩
  rw [h0,Int.toNat_natCast,gx]
  rw [limN_one hx] at this
  exact this
 refine ⟨fun h0 => ⟨?_,?_⟩,fun c l hcl => ?_⟩
 ·exact rPartsAE _ _ _ _ _ _ _ (x + 1000000000 * R) _ ⟨fun _ => ⟨one h0,by omega,by omega,rPartsB _ _ _ _ _ _ _ _ _ tl⟩,fun h => absurd h (by omega)⟩
 ·exact rPartsA0 _ _ _ _ _ _ _ (x + 1000000000 * R) _ ⟨fun _ => ⟨one h0,by omega,by omega,rPartsB _ _ _ _ _ _ _ _ _ tl⟩,fun h => absurd h (by omega)⟩
 ·have hcR:Sp.cnt R <= Sp.cnt V:=cnt_mono (Nat.le_of_lt hr)
  have ev:=ev80_c false (x:Int) R ⟨by omega,by omega,by omega⟩
  rw [Int.toNat_natCast,hcl,<- gx] at ev
  have hll:=lim_len R
  rw [hcl] at hll
  simp only [List.length_cons] at hll
  refine rPartsA _ _ _ _ _ _ _ _ _ (x + 1000000000 * R) _ ⟨fun _ => ⟨?_,by omega,by omega,by omega,rPartsB _ _ _ _ _ _ _ _ _ tl⟩,fun h => absurd h (by omega)⟩
  rw [Int.toNat_natCast];exact ev
theorem take_drop_set {o:List Int} {j n:Nat} {d:Int} (hj:j < n) (hn:n <= o.length):((o.set j d).take n).drop j = d :: (o.take n).drop (j + 1):=by
 rw [List.take_set,drop_set_self (by simp;omega)]
theorem loopHR {V U s n:Nat} {t:Int} (hV:V ≠ 0) (hc:Sp.cnt V <= 400000) (hn:n = Sp.cnt U) (hU:n <= 500000) (ht:t = ((V / 1000000000 ^ (Sp.cnt V - 1):Nat):Int)) (hs:0 < s /\ s < 1000000000):∀ (j:Nat) (o:List Int),j <= n -> n <= o.length ->
  (o.take n).drop j = Sp.limN (n - j) (U / 1000000000 ^ j / V) -> rPartsH_at V U s t ((j:Int) - 1) n o (U / 1000000000 ^ j % V) (PureQ (.tup [usA false (Sp.lim (U / V)),usA false (Sp.lim (U % V / s))]))
 | 0,o,hj,hol,ho => by
  simp only [Nat.pow_zero,Nat.div_one,List.drop_zero,Nat.sub_zero] at ho ⊢
  have hm:=Nat.mod_lt U (Nat.pos_of_ne_zero hV)
  have hcR:Sp.cnt (U % V) <= Sp.cnt V:=cnt_mono (Nat.le_of_lt hm)
  have hfQ:Sp.fits n (U / V):=by rw [hn];exact fits_le (fits_self U) (Nat.div_le_self _ _)
  refine rPartsH _ _ _ _ _ _ _ _ _ ⟨fun h => by omega,fun _ => ?_⟩
  rw [lim_len,Int.toNat_natCast]
  refine ⟨by omega,by omega,by omega,by omega,?_⟩
  have:=loopLR (R:=U % V) (s:=s) (o:=o) hs ho hfQ (by omega) (by omega) (Sp.cnt (U % V)) 0 (List.replicate (Sp.cnt (U % V)) 0) (by omega) (by simp) (by simp [Sp.limN])
  rw [fits_div (fits_self (U % V)) (Nat.le_refl _),Nat.zero_mod] at this
  exact this
 | j + 1,o,hj,hol,ho => by
  have hx:U / 1000000000 ^ j % 1000000000 < 1000000000:=Nat.mod_lt _ (by omega)
  have hsp:=digit_split U j
  have hs':U / 1000000000 ^ j % 1000000000 + 1000000000 * (U / 1000000000 ^ (j + 1)) = U / 1000000000 ^ j:=by omega
  obtain ⟨b1,b2,b3⟩:=byWord_step (U / 1000000000 ^ (j + 1)) (U / 1000000000 ^ j % 1000000000) V hx (Nat.pos_of_ne_zero hV)
  rw [hs'] at b1
  have e2:U / 1000000000 ^ (j + 1) % V * 1000000000 + U / 1000000000 ^ j % 1000000000 = U / 1000000000 ^ j % 1000000000 + 1000000000 * (U / 1000000000 ^ (j + 1) % V):=by omega
  rw [e2] at b1 b3
  have ih:=loopHR hV hc hn hU ht hs j (o.set j ((U / 1000000000 ^ j % 1000000000 + 1000000000 * (U / 1000000000 ^ (j + 1) % V)) / V:Nat)) (by omega) (by simpa using hol) (by
   rw [take_drop_set (by omega) hol,ho,show n - j = (n - (j + 1)) + 1 by omega,limN_succ,b1]
   generalize U / 1000000000 ^ (j + 1) / V = z
   generalize (U / 1000000000 ^ j % 1000000000 + 1000000000 * (U / 1000000000 ^ (j + 1) % V)) / V = q0 at b3
   have e2:(1000000000 * z + q0) % 1000000000 = q0:=by omega
   have e3:(1000000000 * z + q0) / 1000000000 = z:=by omega
   rw [e2,e3])
  obtain ⟨k1,k2⟩:=stepH (s:=s) hV hc hn hU ht (show j < n by omega) hol ih
  rw [show (((j + 1:Nat):Int) - 1) = (j:Nat) by omega]
  by_cases h0:U / 1000000000 ^ (j + 1) % V = 0
  ·have:=(k1 h0).1
   unfold rPartsAE_at at this
   unfold rPartsH_at
   rw [h0,lim_zero];exact this
  ·have hne:Sp.lim (U / 1000000000 ^ (j + 1) % V) ≠ []:=by
    intro e
    have:=lim_len (U / 1000000000 ^ (j + 1) % V)
    rw [e] at this
    exact h0 (cnt_eq_zero.1 this.symm)
   obtain ⟨c,l,hcl⟩:=List.exists_cons_of_ne_nil hne
   have:=k2 c l hcl
   unfold rPartsA_at at this
   rw [<- hcl] at this
   exact this
end Go.Av
