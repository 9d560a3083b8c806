/- PART 6 of the texts of a claim, joined by a program: what each part shows stands at its head. -/
import Derived.Test.YtmkjjnbbbabnhaaGreatPart7fb0285282

namespace Go.Av
open Go.Proofs
set_option maxRecDepth 100000
def fi18:Fi:=⟨47,[.tmp 6,.tmp 7]⟩
def kp18:List (Nat × List Nat):=[(0,[0,1,2]),(1,[0,1,2,27]),(2,[6,7]),(3,[0,1,2,8,9]),(4,[0,1,2,8,9,30]),(5,[0,1,2,8,9,10]),(6,[0,1,2,8,9,10,42]),(7,[0,1,2,8,9]),(8,[0,1,2,8,9]),(9,[6,7])]
def kStrR_at (n u v:Int) (Q:AV -> Heap -> Prop):Prop:=Wp M1 (.run fi18 (atC (cd Tryz.f18) []) [(0,.int .i64 n),(1,.int .i64 u),(2,.int .i64 v)] []) Q
def kStrRH_at (n u v i j:Int) (Q:AV -> Heap -> Prop):Prop:=Wp M1 (.run fi18 (atC (cd Tryz.f18) [1,1,1,0,0,0]) [(0,.int .i64 n),(1,.int .i64 u),(2,.int .i64 v),(8,.int .i64 i),(9,.int .i64 j)] []) Q
theorem call18 {args:List AV} {d:AV} (h:wc M1 fi18 Tryz.f18 args d):Ev M1 (.pure 18 args) d []:=pcl _ _ (by kernel_rfl) h
theorem kStrR (n u v:Int)  (dq:AV) (H :
  (((((¬(Sp.isLen n)) \/ (¬(Sp.isV u))) \/ (u < 1)) \/ (¬(Sp.isAcc v))) -> tu [vi 0,vi 1] = dq) /\
  (¬((((¬(Sp.isLen n)) \/ (¬(Sp.isV u))) \/ (u < 1)) \/ (¬(Sp.isAcc v))) -> kStrRH_at (n) (u) (v) (0) (1000000000000) (PureQ dq))) :
 kStrR_at n u v (PureQ dq):=by
 unfold kStrR_at
 refine path_wp (G:=given kp18 [(1,1,.call (vb (decide (Sp.isLen n))) none),(1,5,.call (vb (decide (Sp.isV u))) none),(1,14,.call (vb (decide (Sp.isAcc v))) none)] []) 5 [] ⟨(atC (cd Tryz.f18) [1,0,1]),[(0,vi n),(1,vi u),(2,vi v),(27,vb (bif bif bif !decide (Sp.isLen n) then true else !decide (Sp.isV u) then true else decide (u < 1) then true else !decide (Sp.isAcc v)))],[],_,[],[⟨true,false,50,[vi n],[],vb (decide (Sp.isLen n)),[]⟩,⟨(!decide (Sp.isLen n)) == false && true && true,false,10,[vi u],[],vb (decide (Sp.isV u)),[]⟩,⟨(bif bif !decide (Sp.isLen n) then true else !decide (Sp.isV u) then true else decide (u < 1)) == false && true && true,false,40,[vi v],[],vb (decide (Sp.isAcc v)),[]⟩]⟩ (by kernel_rfl) b0 q0 (cc (fun _ => (@ev50 (n))) (cc (fun hc => ((@ev10 (u)):Ev M1 (Conf.pure 10 [vi u]) (vb (decide (Sp.isV u))) [])) (cc (fun hc => ((@ev40 (v)):Ev M1 (Conf.pure 40 [vi v]) (vb (decide (Sp.isAcc v))) [])) c0))) ?_
 rcases xm ((((¬(Sp.isLen n)) \/ (¬(Sp.isV u))) \/ (u < 1)) \/ (¬(Sp.isAcc v))) with d4 | d4
 ·have H:=H.1 d4
  exact path_re (G:=given kp18 [] []) 1000 [true] (tu [vi 0,vi 1]) (by kernel_rfl) (bc (beq_t ((i_bor (i_bor (i_bor (i_not i_dec) (i_not i_dec)) i_dec) (i_not i_dec)).2 d4)) b0) q0 c0 H
 ·have H:=H.2 d4
  exact path_wp (G:=given kp18 [] []) 1000 [false] ⟨(atC (cd Tryz.f18) [1,1,1,0,0,0]),[(0,vi n),(1,vi u),(2,vi v),(8,vi 0),(9,vi 1000000000000)],[],_,[],_⟩ (by kernel_rfl) (bc (beq_f (fun h => d4 ((i_bor (i_bor (i_bor (i_not i_dec) (i_not i_dec)) i_dec) (i_not i_dec)).1 h))) b0) q0 c0 (H)
theorem kStrRH (n u v i j:Int)  (dq:AV) (H :
  ((i < j) -> (-9223372036854775808 <= i + j /\ i + j <= 9223372036854775807) /\
   (-9223372036854775808 <= (i + j).tdiv 2 /\ (i + j).tdiv 2 <= 9223372036854775807) /\
   (Sp.okRe ((i + j).tdiv 2) u v) /\
   (Sp.inI n) /\
   (Sp.okR (Sp.reR ((i + j).tdiv 2) u v) /\ Sp.okR (Sp.qi n)) /\
   ((Sp.sgnI ((Sp.reR ((i + j).tdiv 2) u v).num * (↑(Sp.qi n).den:Int) - (Sp.qi n).num * (↑(Sp.reR ((i + j).tdiv 2) u v).den:Int)) >= 0) -> kStrRH_at (n) (u) (v) (i) ((i + j).tdiv 2) (PureQ dq)) /\
   (¬(Sp.sgnI ((Sp.reR ((i + j).tdiv 2) u v).num * (↑(Sp.qi n).den:Int) - (Sp.qi n).num * (↑(Sp.reR ((i + j).tdiv 2) u v).den:Int)) >= 0) -> (-9223372036854775808 <= (i + j).tdiv 2 + 1 /\ (i + j).tdiv 2 + 1 <= 9223372036854775807) /\
    kStrRH_at (n) (u) (v) ((i + j).tdiv 2 + 1) (j) (PureQ dq))) /\
  (¬(i < j) -> tu [vi i,vi 0] = dq)) :
 kStrRH_at n u v i j (PureQ dq):=by
 unfold kStrRH_at
 rcases xm (i < j) with d2 | d2
 ·have H:=H.1 d2
  obtain ⟨k3,H⟩:=H
  have w4:wi (i + j) = i + j:=wI64 k3
  obtain ⟨k5,H⟩:=H
  have w6:wi ((i + j).tdiv 2) = (i + j).tdiv 2:=wI64 k5
  obtain ⟨k7,H⟩:=H
  obtain ⟨k8,H⟩:=H
  obtain ⟨k9,H⟩:=H
  refine path_wp (G:=given kp18 [(6,3,.call (ratA false false (Sp.reR ((i + j).tdiv 2) u v)) none),(6,5,.call (ratA false false (Sp.qi n)) none),(6,6,.call (vi (Sp.sgnI ((Sp.reR ((i + j).tdiv 2) u v).num * (↑(Sp.qi n).den:Int) - (Sp.qi n).num * (↑(Sp.reR ((i + j).tdiv 2) u v).den:Int)))) none)] []) 10 [true] ⟨(atC (cd Tryz.f18) [1,1,1,0,0,0,1,0,1,1]),[(0,vi n),(1,vi u),(2,vi v),(8,vi i),(9,vi j),(10,vi (wi ((wi (i + j)).tdiv 2))),(42,vb (decide (Sp.sgnI ((Sp.reR ((i + j).tdiv 2) u v).num * (↑(Sp.qi n).den:Int) - (Sp.qi n).num * (↑(Sp.reR ((i + j).tdiv 2) u v).den:Int)) >= 0)))],[],_,[],[pc 41 [vi (wi ((wi (i + j)).tdiv 2)),vi u,vi v] (ratA false false (Sp.reR ((i + j).tdiv 2) u v)),pc 51 [vi n] (ratA false false (Sp.qi n)),pc 16 [ratA false false (Sp.reR ((i + j).tdiv 2) u v),ratA false false (Sp.qi n)] (vi (Sp.sgnI ((Sp.reR ((i + j).tdiv 2) u v).num * (↑(Sp.qi n).den:Int) - (Sp.qi n).num * (↑(Sp.reR ((i + j).tdiv 2) u v).den:Int))))]⟩ (by kernel_rfl) (bc (beq_t (i_dec.2 d2)) (bc rfl b0)) q0 (ce (by (try rw [w4]);(try rw [w6]);all_goals exact (@ev41 ((i + j).tdiv 2) (u) (v) k7)) (ce (@ev51 (n) k8) (ce (@ev16 (false) (false) (false) (false) (Sp.reR ((i + j).tdiv 2) u v) (Sp.qi n) k9) c0))) ?_
  rcases xm (Sp.sgnI ((Sp.reR ((i + j).tdiv 2) u v).num * (↑(Sp.qi n).den:Int) - (Sp.qi n).num * (↑(Sp.reR ((i + j).tdiv 2) u v).den:Int)) >= 0) with d11 | d11
  ·have H:=H.1 d11
   exact path_wp (G:=given kp18 [] []) 1000 [true] ⟨(atC (cd Tryz.f18) [1,1,1,0,0,0]),[(0,vi n),(1,vi u),(2,vi v),(8,vi i),(9,vi (wi ((wi (i + j)).tdiv 2)))],[],_,[],_⟩ (by kernel_rfl) (bc (beq_t (i_dec.2 d11)) b0) q0 c0 (by (try rw [w4]);(try rw [w6]);all_goals exact H)
  ·have H:=H.2 d11
   obtain ⟨k12,H⟩:=H
   have w13:wi ((i + j).tdiv 2 + 1) = (i + j).tdiv 2 + 1:=wI64 k12
   exact path_wp (G:=given kp18 [] []) 1000 [false] ⟨(atC (cd Tryz.f18) [1,1,1,0,0,0]),[(0,vi n),(1,vi u),(2,vi v),(8,vi (wi (wi ((wi (i + j)).tdiv 2) + 1))),(9,vi j)],[],_,[],_⟩ (by kernel_rfl) (bc (beq_f (fun h => d11 (i_dec.1 h))) b0) q0 c0 (by (try rw [w4]);(try rw [w6]);(try rw [w13]);all_goals exact H)
 ·have H:=H.2 d2
  exact path_re (G:=given kp18 [] []) 1000 [false] (tu [vi i,vi 0]) (by kernel_rfl) (bc (beq_f (fun h => d2 (i_dec.1 h))) b0) q0 c0 H
end Go.Av

namespace Go.Av
open Go.Proofs
namespace Sp
end Sp
theorem strR_loop {n u v:Int} {dq:AV} (h:Sp.isSt n u v):∀ (k:Nat) (i j:Int),j - i < 2 ^ k -> 0 <= i -> i <= j -> j <= 1000000000000 -> AV.tup [.int .i64 (Sp.bs (Sp.strP u v (Sp.qi n)) k i j),.int .i64 0] = dq -> kStrRH_at n u v i j (PureQ dq)
 | 0,i,j,hk,h0,h1,h2,hq => by
  refine kStrRH _ _ _ _ _ _ ⟨fun x => by omega,fun x => hq⟩
 | k + 1,i,j,hk,h0,h1,h2,hq => by
  by_cases x:i < j
  ·rw [Int.pow_succ] at hk
   refine kStrRH _ _ _ _ _ _ ⟨fun _ => ?_,fun y => absurd x y⟩
   rw [Int.tdiv_eq_ediv_of_nonneg (by omega)]
   rw [bs_step x] at hq
   have ok:Sp.okRe ((i + j) / 2) u v:=⟨by omega,h.2.1,h.2.2⟩
   have hn:=h.1
   unfold Sp.isLen at hn
   have i1:Sp.inI n:=by unfold Sp.inI;omega
   refine ⟨by omega,by omega,ok,i1,⟨okT_R (okT_re ok) (by omega),okT_R (okT_int i1) (by omega)⟩,fun y => ?_,fun y => ⟨by omega,?_⟩⟩
   ·rw [show Sp.strP u v (Sp.qi n) ((i + j) / 2) = true from decide_eq_true (cmp_ge.1 y),cond_true] at hq
    exact strR_loop h k _ _ (by omega) (by omega) (by omega) (by omega) hq
   ·rw [show Sp.strP u v (Sp.qi n) ((i + j) / 2) = false from decide_eq_false fun z => y (cmp_ge.2 z),cond_false] at hq
    exact strR_loop h k _ _ (by omega) (by omega) (by omega) (by omega) hq
  ·rw [bs_done x] at hq
   exact kStrRH _ _ _ _ _ _ ⟨fun y => absurd y x,fun _ => hq⟩
theorem ev18 (n u v:Int):Ev M1 (.pure 18 [.int .i64 n,.int .i64 u,.int .i64 v]) (.tup [.int .i64 (Sp.str n u v),.int .i64 (Sp.strE n u v)]) []:=by
 have e:((((¬(Sp.isLen n)) \/ (¬(Sp.isV u))) \/ (u < 1)) \/ (¬(Sp.isAcc v))) ↔ ¬Sp.isSt n u v:=by unfold Sp.isSt Sp.isV Sp.isLen Sp.isAcc;omega
 refine call18 (kStrR _ _ _ _ ⟨fun x => ?_,fun x => ?_⟩)
 ·unfold Sp.str Sp.strE
  rw [if_neg (e.1 x),if_neg (e.1 x)]
 ·have y:=Classical.not_not.1 (mt e.2 x)
  unfold Sp.str Sp.strE
  rw [if_pos y,if_pos y]
  exact strR_loop y 40 0 1000000000000 (by decide) (by decide) (by decide) (by decide) rfl
end Go.Av

namespace Go.Av
open Go.Proofs
structure Mo where
 ax:Int
 ay:Int
 az:Int
 bx:Int
 by_:Int
 bz:Int
 rate:Int
 tool:Int
 blk:Int
 deriving Inhabited
def Mo.a (p:Mo):AV:=.agg [.int .i64 p.ax,.int .i64 p.ay,.int .i64 p.az,.int .i64 p.bx,.int .i64 p.by_,.int .i64 p.bz,.int .i64 p.rate,.int .i64 p.tool,.int .i64 p.blk]
end Go.Av

namespace Go.Av
open Go.Proofs
set_option maxRecDepth 100000
def fi5:Fi:=⟨73,[.tmp 6]⟩
def kp5:List (Nat × List Nat):=[(0,[0,1,2]),(1,[0,1,2,17]),(2,[6]),(3,[0,1,2,7,8]),(4,[0,1,2,7,8,9,10]),(5,[0,1,2,7,8,39]),(6,[6]),(7,[0,1,2,7,41]),(8,[6]),(9,[0,1,2,7,11]),(10,[0,1,2,7,11,12,13]),(11,[7,12,13,14,15]),(12,[6])]
def lStr_at (n u v:Int) (Q:AV -> Heap -> Prop):Prop:=Wp M1 (.run fi5 (atC (cd Tryz.f5) []) [(0,.int .i64 n),(1,.int .i64 u),(2,.int .i64 v)] []) Q
theorem call5 {args:List AV} {d:AV} (h:wc M1 fi5 Tryz.f5 args d):Ev M1 (.pure 5 args) d []:=pcl _ _ (by kernel_rfl) h
theorem lStr (n u v:Int)  (dq:AV) (H :
  (((¬Sp.str n u v = Sp.str n u v) \/ (¬Sp.strE n u v = Sp.strE n u v)) -> vb false = dq) /\
  (¬((¬Sp.str n u v = Sp.str n u v) \/ (¬Sp.strE n u v = Sp.strE n u v)) -> ((¬Sp.strE n u v = 0) -> vb true = dq) /\
   (¬(¬Sp.strE n u v = 0) -> (-9223372036854775808 <= n.tdiv 3 /\ n.tdiv 3 <= 9223372036854775807) /\
    (-9223372036854775808 <= n - n.tdiv 3 /\ n - n.tdiv 3 <= 9223372036854775807) /\
    vb (bif bif Sp.strE (n.tdiv 3) u v == 0 then Sp.strE (n - n.tdiv 3) u v == 0 else false then decide (Sp.str n u v <= IntKind.i64.wrap (Sp.str (n.tdiv 3) u v + Sp.str (n - n.tdiv 3) u v)) else false) = dq))) :
 lStr_at n u v (PureQ dq):=by
 unfold lStr_at
 refine path_wp (G:=given kp5 [(1,0,.call (vb true) none),(3,3,.call (tu [vi (Sp.str n u v),vi (Sp.strE n u v)]) none),(4,3,.call (tu [vi (Sp.str n u v),vi (Sp.strE n u v)]) none)] []) 14 [false] ⟨(atC (cd Tryz.f5) [1,1,1,1,0,1]),[(0,vi n),(1,vi u),(2,vi v),(7,vi (Sp.str n u v)),(8,vi (Sp.strE n u v)),(39,vb (bif Sp.str n u v != Sp.str n u v then true else Sp.strE n u v != Sp.strE n u v))],[],_,[],_⟩ (by kernel_rfl) (bc rfl b0) q0 (ce (@ev7 ) (ce (@ev17 (n) (u) (v)) (ce (@ev18 (n) (u) (v)) c0))) ?_
 rcases xm ((¬Sp.str n u v = Sp.str n u v) \/ (¬Sp.strE n u v = Sp.strE n u v)) with d2 | d2
 ·have H:=H.1 d2
  exact path_re (G:=given kp5 [] []) 1000 [true] (vb false) (by kernel_rfl) (bc (beq_t ((i_bor i_ne i_ne).2 d2)) b0) q0 c0 H
 ·have H:=H.2 d2
  rcases xm (¬Sp.strE n u v = 0) with d4 | d4
  ·have H:=H.1 d4
   exact path_re (G:=given kp5 [] []) 1000 [false,true] (vb true) (by kernel_rfl) (bc (beq_f (fun h => d2 ((i_bor i_ne i_ne).1 h))) (bc (beq_t (i_ne.2 d4)) b0)) q0 c0 H
  ·have H:=H.2 d4
   obtain ⟨k5,H⟩:=H
   have w6:wi (n.tdiv 3) = n.tdiv 3:=wI64 k5
   obtain ⟨k7,H⟩:=H
   have w8:wi (n - n.tdiv 3) = n - n.tdiv 3:=wI64 k7
   exact path_re (G:=given kp5 [(10,3,.call (tu [vi (Sp.str (n.tdiv 3) u v),vi (Sp.strE (n.tdiv 3) u v)]) none),(11,5,.call (tu [vi (Sp.str (n - n.tdiv 3) u v),vi (Sp.strE (n - n.tdiv 3) u v)]) none)] []) 1000 [false,false] (calls:=[pc 17 [vi (wi (n.tdiv 3)),vi u,vi v] (tu [vi (Sp.str (n.tdiv 3) u v),vi (Sp.strE (n.tdiv 3) u v)]),pc 17 [vi (wi (n - wi (n.tdiv 3))),vi u,vi v] (tu [vi (Sp.str (n - n.tdiv 3) u v),vi (Sp.strE (n - n.tdiv 3) u v)])]) (vb (bif bif Sp.strE (n.tdiv 3) u v == 0 then Sp.strE (n - n.tdiv 3) u v == 0 else false then decide (Sp.str n u v <= wi (Sp.str (n.tdiv 3) u v + Sp.str (n - n.tdiv 3) u v)) else false)) (by kernel_rfl) (bc (beq_f (fun h => d2 ((i_bor i_ne i_ne).1 h))) (bc (beq_f (fun h => d4 (i_ne.1 h))) (bc rfl b0))) q0 (ce (by (try rw [w6]);all_goals exact (@ev17 (n.tdiv 3) (u) (v))) (ce (by (try rw [w6]);(try rw [w8]);all_goals exact (@ev17 (n - n.tdiv 3) (u) (v))) c0)) H
end Go.Av

namespace Go.Av
open Go.Proofs
namespace Sp
end Sp
theorem str_le (n u v:Int):0 <= Sp.str n u v /\ Sp.str n u v <= 1000000000000:=by
 unfold Sp.str
 split
 ·obtain ⟨r0,r1,_,_⟩:=bs_all (p:=Sp.strP u v (Sp.qi n)) (h:=1000000000000) (by decide) (by decide)
  exact ⟨r0,r1⟩
 ·omega
theorem strE_ok {n u v:Int} (h1:Sp.isLen n) (h2:1 <= u /\ u <= 1000000) (h3:Sp.isAcc v):Sp.strE n u v = 0:=if_pos ⟨h1,h2,h3⟩
theorem qf_add (i j:Int) {d:Int} (h:0 < d):Sp.qf i d + Sp.qf j d = Sp.qf (i + j) d:=by
 rw [qf_div _ h,qf_div _ h,qf_div _ h,Rat.div_def,Rat.div_def,Rat.div_def,qi_eq i,qi_eq j,qi_eq (i + j),Rat.intCast_add];grind
theorem str_sum {n u v:Int} (h:Sp.isSt n u v) (k:Int) (hk:0 <= k /\ k <= n):Sp.str n u v <= Sp.str k u v + Sp.str (n - k) u v:=by
 obtain ⟨h1,h2,h3⟩:=h
 unfold Sp.isLen at h1
 have s1:Sp.isSt k u v:=⟨by unfold Sp.isLen;omega,h2,h3⟩
 have s2:Sp.isSt (n - k) u v:=⟨by unfold Sp.isLen;omega,h2,h3⟩
 have s0:Sp.isSt n u v:=⟨by unfold Sp.isLen;omega,h2,h3⟩
 unfold Sp.str
 rw [if_pos s0,if_pos s1,if_pos s2]
 have ha:1 <= v:=h3.1
 have e:Sp.qi n = Sp.qi k + Sp.qi (n - k):=by rw [qi_eq,qi_eq,qi_eq,Rat.intCast_sub];grind
 refine bs_sum (R:=fun i => Sp.reR i u v) (H:=1000000000000) (x:=Sp.qi k) (y:=Sp.qi (n - k)) (fun i j h0 h => reR_le h2.1 ha h0 h) (fun i j hi hj => ?_) (fun i _ _ => ?_) (fun i _ _ => decide_eq_true_iff) (fun i _ _ => decide_eq_true_iff)
  (bs_all (p:=Sp.strP u v (Sp.qi n)) (by decide) (by decide)) (bs_all (p:=Sp.strP u v (Sp.qi k)) (by decide) (by decide)) (bs_all (p:=Sp.strP u v (Sp.qi (n - k))) (by decide) (by decide))
 ·show Sp.reR i u v + Sp.reR j u v <= Sp.reR (i + j) u v
  unfold Sp.reR
  rw [<- qf_add i j (by omega)]
  exact rch_add (qi_pos ha) (qi_pos h2.1) (qf_nn (by omega) hi) (qf_nn (by omega) hj)
 ·rw [<- e];exact decide_eq_true_iff
theorem ev5 (n u v:Int):Ev M1 (.pure 5 [.int .i64 n,.int .i64 u,.int .i64 v]) (.bool true) []:=by
 refine call5 (lStr _ _ _ _ ⟨fun x => x.elim (fun y => absurd rfl y) fun y => absurd rfl y,fun _ => ⟨fun _ => rfl,fun x => ?_⟩⟩)
 have x:=Classical.not_not.1 x
 have h:Sp.isSt n u v:=by
  unfold Sp.strE at x
  by_cases k:Sp.isSt n u v
  ·exact k
  ·rw [if_neg k] at x;omega
 have h1:=h.1
 unfold Sp.isLen at h1
 rw [Int.tdiv_eq_ediv_of_nonneg h1.1]
 have s:=str_sum h (n / 3) (by omega)
 have a:=str_le (n / 3) u v
 have b:=str_le (n - n / 3) u v
 refine ⟨by omega,by omega,?_⟩
 rw [strE_ok (by unfold Sp.isLen;omega) h.2.1 h.2.2,strE_ok (by unfold Sp.isLen;omega) h.2.1 h.2.2,w64 _ (by omega),decide_eq_true s]
 rfl
end Go.Av
