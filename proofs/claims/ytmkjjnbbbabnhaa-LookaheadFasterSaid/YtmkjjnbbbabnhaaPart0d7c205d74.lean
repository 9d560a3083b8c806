/- PART 5 of the texts of a claim, joined by a program: what each part shows stands at its head. -/
import Derived.Test.YtmkjjnbbbabnhaaPart217244e819

namespace Go.Av
open Go.Proofs
set_option maxRecDepth 100000
def fi8:Fi:=⟨88,[.tmp 4,.tmp 5]⟩
def kp8:List (Nat × List Nat):=[(0,[0,1]),(1,[0,1,6]),(2,[0,1,6,14]),(3,[4,5]),(4,[0,1,7]),(5,[0,1,7,8]),(6,[0,1,7,8,23]),(7,[0,1,7,8]),(8,[0,1,7,8]),(9,[0,1,7,9]),(10,[0,1,7,9,64]),(11,[0,1,7,9]),(12,[0,1,7,9]),(13,[4,5])]
def fi14:Fi:=⟨25,[.tmp 6,.tmp 7]⟩
def kp14:List (Nat × List Nat):=[(0,[0,1,2]),(1,[0,1,2,20]),(2,[6,7]),(3,[6,7])]
def fi38:Fi:=⟨45,[.tmp 7]⟩
def kp38:List (Nat × List Nat):=[(0,[0,1,2,3,4,5]),(1,[1,2,3,4,5,8]),(2,[7])]
def fi46:Fi:=⟨23,[.tmp 5]⟩
def kp46:List (Nat × List Nat):=[(0,[0,1,2,3]),(1,[3,6,7]),(2,[5])]
def kFaster_at (n u v:Int) (Q:AV -> Heap -> Prop):Prop:=Wp M1 (.run fi14 (atC (cd Try.f14) []) [(0,.int .i64 n),(1,.int .i64 u),(2,.int .i64 v)] []) Q
def kSp_at (fl:Bool) (l:List Pt) (a:Int) (Q:AV -> Heap -> Prop):Prop:=Wp M1 (.run fi8 (atC (cd Try.f8) []) [(0,.vec fl 3 (l.map Pt.a)),(1,.int .i64 a)] []) Q
def kSpA_at (fl:Bool) (l:List Pt) (a i:Int) (o:List Int) (Q:AV -> Heap -> Prop):Prop:=Wp M1 (.run fi8 (atC (cd Try.f8) [1,1,1,0,1,0,0]) [(0,.vec fl 3 (l.map Pt.a)),(1,.int .i64 a),(7,.row 0 0),(8,.int .i64 i)] [⟨o.map (.int .i64),1,0,false,true⟩]) Q
def kSpB_at (fl:Bool) (l:List Pt) (a i:Int) (o:List Int) (Q:AV -> Heap -> Prop):Prop:=Wp M1 (.run fi8 (atC (cd Try.f8) [1,1,1,1,0,1,0,0]) [(0,.vec fl 3 (l.map Pt.a)),(1,.int .i64 a),(7,.row 0 0),(9,.int .i64 i)] [⟨o.map (.int .i64),1,0,false,true⟩]) Q
def kCor1_at (ax ay az bx by_ bz m n c i:Int) (Q:AV -> Heap -> Prop):Prop:=Wp M1 (.run fi38 (atC (cd Try.f38) []) [(0,.int .i64 i),(1,.eptr 3 [.agg [.int .i64 ax,.int .i64 ay,.int .i64 az]] 0 0),(2,.eptr 3 [.agg [.int .i64 bx,.int .i64 by_,.int .i64 bz]] 0 0),(3,.eptr 1 [.int .i64 m] 0 0),(4,.eptr 1 [.int .i64 n] 0 0),(5,.eptr 1 [.int .i64 c] 0 0)] []) Q
def kStr1_at (f g:Bool) (v a i:Int) (r:Rat) (Q:AV -> Heap -> Prop):Prop:=Wp M1 (.run fi46 (atC (cd Try.f46) []) [(0,.int .i64 i),(1,.eptr 1 [.int .i64 v] 0 0),(2,.eptr 1 [.int .i64 a] 0 0),(3,.eptr 4 [ratA f g r] 0 0)] []) Q
theorem call8 {args:List AV} {d:AV} (h:wc M1 fi8 Try.f8 args d):Ev M1 (.pure 8 args) d []:=pcl _ _ (by kernel_rfl) h
theorem call14 {args:List AV} {d:AV} (h:wc M1 fi14 Try.f14 args d):Ev M1 (.pure 14 args) d []:=pcl _ _ (by kernel_rfl) h
theorem call38 {args:List AV} {d:AV} (h:wc M1 fi38 Try.f38 args d):Ev M1 (.pure 38 args) d []:=pcl _ _ (by kernel_rfl) h
theorem call46 {args:List AV} {d:AV} (h:wc M1 fi46 Try.f46 args d):Ev M1 (.pure 46 args) d []:=pcl _ _ (by kernel_rfl) h
theorem kFaster (n u v:Int)  (dq:AV) (H :
  ((((¬(0 <= n /\ n <= 1000000)) \/ (¬(0 <= u /\ u <= 100000000))) \/ (¬(1 <= v /\ v <= 100000000))) -> tu [vi 0,vi 1] = dq) /\
  (¬(((¬(0 <= n /\ n <= 1000000)) \/ (¬(0 <= u /\ u <= 100000000))) \/ (¬(1 <= v /\ v <= 100000000))) -> (Sp.isV n /\ Sp.isLen u /\ Sp.isAcc v) /\
   tu [vi (Sp.af (2 * v * u) n),vi 0] = dq)) :
 kFaster_at n u v (PureQ dq):=by
 unfold kFaster_at
 refine path_wp (G:=given kp14 [(1,1,.call (vb (decide (0 <= n /\ n <= 1000000))) none),(1,5,.call (vb (decide (0 <= u /\ u <= 100000000))) none),(1,10,.call (vb (decide (1 <= v /\ v <= 100000000))) none)] []) 5 [] ⟨(atC (cd Try.f14) [1,0,1]),[(0,vi n),(1,vi u),(2,vi v),(20,vb (bif bif !decide (0 <= n /\ n <= 1000000) then true else !decide (0 <= u /\ u <= 100000000) then true else !decide (1 <= v /\ v <= 100000000)))],[],_,[],[⟨true,false,27,[vi n,vi 0,vi 1000000],[],vb (decide (0 <= n /\ n <= 1000000)),[]⟩,⟨(!decide (0 <= n /\ n <= 1000000)) == false && true && true,false,27,[vi u,vi 0,vi 100000000],[],vb (decide (0 <= u /\ u <= 100000000)),[]⟩,⟨(bif !decide (0 <= n /\ n <= 1000000) then true else !decide (0 <= u /\ u <= 100000000)) == false && true && true,false,27,[vi v,vi 1,vi 100000000],[],vb (decide (1 <= v /\ v <= 100000000)),[]⟩]⟩ (by kernel_rfl) b0 q0 (cc (fun _ => (@ev27 (n) (0) (1000000))) (cc (fun hc => ((@ev27 (u) (0) (100000000)):Ev M1 (Conf.pure 27 [vi u,vi 0,vi 100000000]) (vb (decide (0 <= u /\ u <= 100000000))) [])) (cc (fun hc => ((@ev27 (v) (1) (100000000)):Ev M1 (Conf.pure 27 [vi v,vi 1,vi 100000000]) (vb (decide (1 <= v /\ v <= 100000000))) [])) c0))) ?_
 rcases xm (((¬(0 <= n /\ n <= 1000000)) \/ (¬(0 <= u /\ u <= 100000000))) \/ (¬(1 <= v /\ v <= 100000000))) with d4 | d4
 ·have H:=H.1 d4
  exact path_re (G:=given kp14 [] []) 1000 [true] (tu [vi 0,vi 1]) (by kernel_rfl) (bc (beq_t ((i_bor (i_bor (i_not i_dec) (i_not i_dec)) (i_not i_dec)).2 d4)) b0) q0 c0 H
 ·have H:=H.2 d4
  obtain ⟨k5,H⟩:=H
  exact path_re (G:=given kp14 [(3,3,.call (vi (Sp.af (2 * v * u) n)) none)] []) 1000 [false] (tu [vi (Sp.af (2 * v * u) n),vi 0]) (by kernel_rfl) (bc (beq_f (fun h => d4 ((i_bor (i_bor (i_not i_dec) (i_not i_dec)) (i_not i_dec)).1 h))) b0) q0 (ce (@ev25 (n) (u) (v) k5) c0) H
theorem kSp (fl:Bool) (l:List Pt) (a:Int)  (Q:AV -> Heap -> Prop) (H :
  ((¬Sp.validE l a = 0) -> Q (tu [AV.vnil,vi (Sp.validE l a)]) []) /\
  (¬(¬Sp.validE l a = 0) -> (-9223372036854775808 <= (↑l.length:Int) + 1 /\ (↑l.length:Int) + 1 <= 9223372036854775807) /\
   (0 <= (↑l.length:Int) + 1) /\
   (((↑l.length:Int) + 1) * 8 <= 1099511627776) /\
   ((↑l.length:Int) + 1 <= 1099511627776) /\
   kSpA_at (fl) (l) (a) (1) (List.replicate ((↑l.length:Int) + 1).toNat (0:Int)) Q)) :
 kSp_at fl l a Q:=by
 unfold kSp_at
 refine path_wp (G:=given kp8 [(1,2,.call (vi (Sp.validE l a)) none)] []) 7 [] ⟨(atC (cd Try.f8) [1,0,1,1]),[(0,AV.vec fl 3 (List.map Pt.a l)),(1,vi a),(6,vi (Sp.validE l a)),(14,vb (Sp.validE l a != 0))],[],_,[],_⟩ (by kernel_rfl) b0 q0 (ce (@ev11 (fl) (l) (a)) c0) ?_
 rcases xm (¬Sp.validE l a = 0) with d2 | d2
 ·have H:=H.1 d2
  exact path_ret (G:=given kp8 [] []) 1000 [true] (k:=((atC (cd Try.f8) [1,0,1,1,0,1])).tail) (env':=[(4,AV.vnil),(5,vi (Sp.validE l a))]) (L':=[]) (asm:=[(Sp.validE l a != 0) == true]) (eqs:=[]) (calls:=[]) (tu [AV.vnil,vi (Sp.validE l a)]) (by kernel_rfl) (by kernel_rfl) (allB_cons (beq_t (i_ne.2 d2)) allB_nil) allP_nil allC_nil H
 ·have H:=H.2 d2
  have w3:(List.map Pt.a l).length = l.length:=List.length_map ..
  obtain ⟨k4,H⟩:=H
  have w5:wi ((↑l.length:Int) + 1) = (↑l.length:Int) + 1:=wI64 k4
  have i6:(decide (0 <= wi ((↑(List.map Pt.a l).length:Int) + 1))) = true ↔ (0 <= (↑l.length:Int) + 1):=(by (try rw [w3]);(try rw [w5]);all_goals exact i_dec)
  obtain ⟨k7,H⟩:=H
  have i8:(decide (wi ((↑(List.map Pt.a l).length:Int) + 1) <= wi ((↑(List.map Pt.a l).length:Int) + 1))) = true ↔ ((↑l.length:Int) + 1 <= (↑l.length:Int) + 1):=(by (try rw [w3]);(try rw [w5]);all_goals exact i_dec)
  have i9:(decide (wi ((↑(List.map Pt.a l).length:Int) + 1) * 8 <= 1099511627776)) = true ↔ (((↑l.length:Int) + 1) * 8 <= 1099511627776):=(by (try rw [w3]);(try rw [w5]);all_goals exact i_dec)
  obtain ⟨k10,H⟩:=H
  have i11:(decide (wi ((↑(List.map Pt.a l).length:Int) + 1) <= 1099511627776)) = true ↔ ((↑l.length:Int) + 1 <= 1099511627776):=(by (try rw [w3]);(try rw [w5]);all_goals exact i_dec)
  obtain ⟨k12,H⟩:=H
  have w13:List.replicate ((↑l.length:Int) + 1).toNat (vi 0) = List.map (vi) (List.replicate ((↑l.length:Int) + 1).toNat (0:Int)):=(lm_rep rfl)
  exact path_wp (G:=given kp8 [] []) 1000 [false] ⟨(atC (cd Try.f8) [1,1,1,0,1,0,0]),[(0,AV.vec fl 3 (List.map Pt.a l)),(1,vi a),(7,AV.row 0 0),(8,vi 1)],[⟨List.replicate (wi ((↑(List.map Pt.a l).length:Int) + 1)).toNat (vi 0),1,0,false,true⟩],[(Sp.validE l a != 0) == false,decide (0 <= wi ((↑(List.map Pt.a l).length:Int) + 1)),decide (wi ((↑(List.map Pt.a l).length:Int) + 1) <= wi ((↑(List.map Pt.a l).length:Int) + 1)),decide (wi ((↑(List.map Pt.a l).length:Int) + 1) * 8 <= 1099511627776),decide (wi ((↑(List.map Pt.a l).length:Int) + 1) <= 1099511627776)],[],_⟩ (by kernel_rfl) (bc (beq_f (fun h => d2 (i_ne.1 h))) (bc (i6.2 k7) (bc (i8.2 (by omega)) (bc (i9.2 k10) (bc (i11.2 k12) b0))))) q0 c0 (by (try rw [w3]);(try rw [w5]);(try rw [w13]);all_goals exact H)
noncomputable abbrev zNzE1 (l:List Pt) (i:Int):=ag [vi (l.getD (i - 1).toNat default).len,vi (l.getD (i - 1).toNat default).spd,vi (l.getD (i - 1).toNat default).cor]
noncomputable abbrev zNzE2 (l:List Pt) (i:Int):=ag [vi (l.getD i.toNat default).len,vi (l.getD i.toNat default).spd,vi (l.getD i.toNat default).cor]
theorem kSpA (fl:Bool) (l:List Pt) (a i:Int) (o:List Int)  (Q:AV -> Heap -> Prop) (H :
  ((i < (↑l.length:Int)) -> (-9223372036854775808 <= i - 1 /\ i - 1 <= 9223372036854775807) /\
   (Sp.isV (o.getD (i - 1).toNat default) /\ Sp.isLen (l.getD (i - 1).toNat default).len /\ Sp.isAcc a) /\
   (0 <= i - 1) /\
   ((i - 1).toNat < l.length) /\
   (0 <= i) /\
   (i.toNat < l.length) /\
   ((i - 1).toNat < o.length) /\
   (i.toNat < o.length) /\
   (-9223372036854775808 <= i + 1 /\ i + 1 <= 9223372036854775807) /\
   kSpA_at (fl) (l) (a) (i + 1) (o.set i.toNat (if Sp.af (2 * a * (l.getD (i - 1).toNat default).len) (o.getD (i - 1).toNat default) < if (l.getD i.toNat default).spd < if (l.getD (i - 1).toNat default).cor < (l.getD (i - 1).toNat default).spd then (l.getD (i - 1).toNat default).cor else (l.getD (i - 1).toNat default).spd then (l.getD i.toNat default).spd else if (l.getD (i - 1).toNat default).cor < (l.getD (i - 1).toNat default).spd then (l.getD (i - 1).toNat default).cor else (l.getD (i - 1).toNat default).spd then Sp.af (2 * a * (l.getD (i - 1).toNat default).len) (o.getD (i - 1).toNat default) else if (l.getD i.toNat default).spd < if (l.getD (i - 1).toNat default).cor < (l.getD (i - 1).toNat default).spd then (l.getD (i - 1).toNat default).cor else (l.getD (i - 1).toNat default).spd then (l.getD i.toNat default).spd else if (l.getD (i - 1).toNat default).cor < (l.getD (i - 1).toNat default).spd then (l.getD (i - 1).toNat default).cor else (l.getD (i - 1).toNat default).spd)) Q) /\
  (¬(i < (↑l.length:Int)) -> (-9223372036854775808 <= (↑l.length:Int) - 1 /\ (↑l.length:Int) - 1 <= 9223372036854775807) /\
   kSpB_at (fl) (l) (a) ((↑l.length:Int) - 1) (o) Q)) :
 kSpA_at fl l a i o Q:=by
 unfold kSpA_at
 have w1:(List.map Pt.a l).length = l.length:=List.length_map ..
 have i2:(decide (i < (↑(List.map Pt.a l).length:Int))) = true ↔ (i < (↑l.length:Int)):=(by (try rw [w1]);all_goals exact i_dec)
 rcases xm (i < (↑l.length:Int)) with d3 | d3
 ·have H:=H.1 d3
  obtain ⟨k4,H⟩:=H
  have w5:wi (i - 1) = i - 1:=wI64 k4
  obtain ⟨k6,H⟩:=H
  have i7:(decide (0 <= wi (i - 1))) = true ↔ (0 <= i - 1):=(by (try rw [w5]);all_goals exact i_dec)
  obtain ⟨k8,H⟩:=H
  have i9:(decide ((wi (i - 1)).toNat < (List.map Pt.a l).length)) = true ↔ ((i - 1).toNat < l.length):=(by (try rw [w1]);(try rw [w5]);all_goals exact i_dec)
  obtain ⟨k10,H⟩:=H
  have i11:(decide (0 <= wi (i - 1))) = true ↔ (0 <= i - 1):=(by (try rw [w5]);all_goals exact i_dec)
  have i12:(decide ((wi (i - 1)).toNat < (List.map Pt.a l).length)) = true ↔ ((i - 1).toNat < l.length):=(by (try rw [w1]);(try rw [w5]);all_goals exact i_dec)
  obtain ⟨k14,H⟩:=H
  have i15:(decide (i.toNat < (List.map Pt.a l).length)) = true ↔ (i.toNat < l.length):=(by (try rw [w1]);all_goals exact i_dec)
  obtain ⟨k16,H⟩:=H
  have i17:(decide (0 <= wi (i - 1))) = true ↔ (0 <= i - 1):=(by (try rw [w5]);all_goals exact i_dec)
  have w18:(List.map (vi) o).length = o.length:=List.length_map ..
  have i19:(decide ((wi (i - 1)).toNat < (List.map (vi) o).length)) = true ↔ ((i - 1).toNat < o.length):=(by (try rw [w5]);(try rw [w18]);all_goals exact i_dec)
  obtain ⟨k20,H⟩:=H
  have i21:(decide (0 <= wi (i - 1))) = true ↔ (0 <= i - 1):=(by (try rw [w5]);all_goals exact i_dec)
  have i22:(decide ((wi (i - 1)).toNat < (List.map Pt.a l).length)) = true ↔ ((i - 1).toNat < l.length):=(by (try rw [w1]);(try rw [w5]);all_goals exact i_dec)
  have i24:(decide (i.toNat < (List.map (vi) o).length)) = true ↔ (i.toNat < o.length):=(by (try rw [w18]);all_goals exact i_dec)
  obtain ⟨k25,H⟩:=H
  have w26:(List.map (vi) o).set i.toNat (vi (if Sp.af (2 * a * (l.getD (i - 1).toNat default).len) (o.getD (i - 1).toNat default) < if (l.getD i.toNat default).spd < if (l.getD (i - 1).toNat default).cor < (l.getD (i - 1).toNat default).spd then (l.getD (i - 1).toNat default).cor else (l.getD (i - 1).toNat default).spd then (l.getD i.toNat default).spd else if (l.getD (i - 1).toNat default).cor < (l.getD (i - 1).toNat default).spd then (l.getD (i - 1).toNat default).cor else (l.getD (i - 1).toNat default).spd then Sp.af (2 * a * (l.getD (i - 1).toNat default).len) (o.getD (i - 1).toNat default) else if (l.getD i.toNat default).spd < if (l.getD (i - 1).toNat default).cor < (l.getD (i - 1).toNat default).spd then (l.getD (i - 1).toNat default).cor else (l.getD (i - 1).toNat default).spd then (l.getD i.toNat default).spd else if (l.getD (i - 1).toNat default).cor < (l.getD (i - 1).toNat default).spd then (l.getD (i - 1).toNat default).cor else (l.getD (i - 1).toNat default).spd)) = List.map (vi) (o.set i.toNat (if Sp.af (2 * a * (l.getD (i - 1).toNat default).len) (o.getD (i - 1).toNat default) < if (l.getD i.toNat default).spd < if (l.getD (i - 1).toNat default).cor < (l.getD (i - 1).toNat default).spd then (l.getD (i - 1).toNat default).cor else (l.getD (i - 1).toNat default).spd then (l.getD i.toNat default).spd else if (l.getD (i - 1).toNat default).cor < (l.getD (i - 1).toNat default).spd then (l.getD (i - 1).toNat default).cor else (l.getD (i - 1).toNat default).spd then Sp.af (2 * a * (l.getD (i - 1).toNat default).len) (o.getD (i - 1).toNat default) else if (l.getD i.toNat default).spd < if (l.getD (i - 1).toNat default).cor < (l.getD (i - 1).toNat default).spd then (l.getD (i - 1).toNat default).cor else (l.getD (i - 1).toNat default).spd then (l.getD i.toNat default).spd else if (l.getD (i - 1).toNat default).cor < (l.getD (i - 1).toNat default).spd then (l.getD (i - 1).toNat default).cor else (l.getD (i - 1).toNat default).spd)):=(lm_set rfl rfl)
  obtain ⟨k27,H⟩:=H
  have w28:wi (i + 1) = i + 1:=wI64 k27
  exact path_wp (G:=given kp8 [(8,7,.elem (zNzE1 l i)),(8,13,.elem (zNzE1 l i)),(8,18,.elem (zNzE2 l i)),(8,23,.elem (vi (o.getD (i - 1).toNat default))),(8,29,.elem (zNzE1 l i)),(8,31,.call (vi (Sp.af (2 * a * (l.getD (i - 1).toNat default).len) (o.getD (i - 1).toNat default))) none),(8,34,.elem (vi (o.getD i.toNat default)))] []) 1000 [true] ⟨(atC (cd Try.f8) [1,1,1,0,1,0,0]),[(0,AV.vec fl 3 (List.map Pt.a l)),(1,vi a),(7,AV.row 0 0),(8,vi (wi (i + 1)))],[⟨(List.map (vi) o).set i.toNat (vi (if Sp.af (2 * a * (l.getD (i - 1).toNat default).len) (o.getD (i - 1).toNat default) < if (l.getD i.toNat default).spd < if (l.getD (i - 1).toNat default).cor < (l.getD (i - 1).toNat default).spd then (l.getD (i - 1).toNat default).cor else (l.getD (i - 1).toNat default).spd then (l.getD i.toNat default).spd else if (l.getD (i - 1).toNat default).cor < (l.getD (i - 1).toNat default).spd then (l.getD (i - 1).toNat default).cor else (l.getD (i - 1).toNat default).spd then Sp.af (2 * a * (l.getD (i - 1).toNat default).len) (o.getD (i - 1).toNat default) else if (l.getD i.toNat default).spd < if (l.getD (i - 1).toNat default).cor < (l.getD (i - 1).toNat default).spd then (l.getD (i - 1).toNat default).cor else (l.getD (i - 1).toNat default).spd then (l.getD i.toNat default).spd else if (l.getD (i - 1).toNat default).cor < (l.getD (i - 1).toNat default).spd then (l.getD (i - 1).toNat default).cor else (l.getD (i - 1).toNat default).spd)),1,0,false,true⟩],_,[((List.map Pt.a l).get?Internal (wi (i - 1)).toNat = some (zNzE1 l i)),((List.map Pt.a l).get?Internal (wi (i - 1)).toNat = some (zNzE1 l i)),((List.map Pt.a l).get?Internal i.toNat = some (zNzE2 l i)),((List.map (vi) o).get?Internal (wi (i - 1)).toNat = some (vi (o.getD (i - 1).toNat default))),((List.map Pt.a l).get?Internal (wi (i - 1)).toNat = some (zNzE1 l i)),((List.map (vi) o).get?Internal i.toNat = some (vi (o.getD i.toNat default)))],_⟩ (by kernel_rfl) (bc (beq_t (i2.2 d3)) (bc (i7.2 k8) (bc (i9.2 k10) (bc (i11.2 k8) (bc (i12.2 k10) (bc (i_dec.2 k14) (bc (i15.2 k16) (bc rfl (bc (i17.2 k8) (bc (i19.2 k20) (bc rfl (bc (i21.2 k8) (bc (i22.2 k10) (bc rfl (bc (i_dec.2 k14) (bc (i24.2 k25) (bc rfl b0))))))))))))))))) (qc (by (try rw [w5]);all_goals exact (el_map k10)) (qc (by (try rw [w5]);all_goals exact (el_map k10)) (qc (el_map k16) (qc (by (try rw [w5]);all_goals exact (el_map k20)) (qc (by (try rw [w5]);all_goals exact (el_map k10)) (qc (el_map k25) q0)))))) (ce (@ev25 (o.getD (i - 1).toNat default) ((l.getD (i - 1).toNat default).len) (a) k6) c0) (by (try rw [w26]);(try rw [w28]);all_goals exact H)
 ·have H:=H.2 d3
  obtain ⟨k29,H⟩:=H
  have w30:wi ((↑l.length:Int) - 1) = (↑l.length:Int) - 1:=wI64 k29
  exact path_wp (G:=given kp8 [] []) 1000 [false] ⟨(atC (cd Try.f8) [1,1,1,1,0,1,0,0]),[(0,AV.vec fl 3 (List.map Pt.a l)),(1,vi a),(7,AV.row 0 0),(9,vi (wi ((↑(List.map Pt.a l).length:Int) - 1)))],[⟨List.map (vi) o,1,0,false,true⟩],_,[],_⟩ (by kernel_rfl) (bc (beq_f (fun h => d3 (i2.1 h))) b0) q0 c0 (by (try rw [w1]);(try rw [w30]);all_goals exact H)
noncomputable abbrev zNzE3 (l:List Pt) (i:Int):=ag [vi (l.getD i.toNat default).len,vi (l.getD i.toNat default).spd,vi (l.getD i.toNat default).cor]
theorem kSpB (fl:Bool) (l:List Pt) (a i:Int) (o:List Int)  (Q:AV -> Heap -> Prop) (H :
  ((i > 0) -> (-9223372036854775808 <= i + 1 /\ i + 1 <= 9223372036854775807) /\
   (Sp.isV (o.getD (i + 1).toNat default) /\ Sp.isLen (l.getD i.toNat default).len /\ Sp.isAcc a) /\
   (0 <= i) /\
   (i.toNat < o.length) /\
   (0 <= i + 1) /\
   ((i + 1).toNat < o.length) /\
   (i.toNat < l.length) /\
   (-9223372036854775808 <= i - 1 /\ i - 1 <= 9223372036854775807) /\
   kSpB_at (fl) (l) (a) (i - 1) (o.set i.toNat (if Sp.af (2 * a * (l.getD i.toNat default).len) (o.getD (i + 1).toNat default) < o.getD i.toNat default then Sp.af (2 * a * (l.getD i.toNat default).len) (o.getD (i + 1).toNat default) else o.getD i.toNat default)) Q) /\
  (¬(i > 0) -> Q (tu [AV.row 0 0,vi 0]) [{ elems:=List.map (vi) o,es:=1,ver:=0,frozen:=false,clean:=true }])) :
 kSpB_at fl l a i o Q:=by
 unfold kSpB_at
 rcases xm (i > 0) with d2 | d2
 ·have H:=H.1 d2
  obtain ⟨k3,H⟩:=H
  have w4:wi (i + 1) = i + 1:=wI64 k3
  obtain ⟨k5,H⟩:=H
  obtain ⟨k7,H⟩:=H
  have w8:(List.map (vi) o).length = o.length:=List.length_map ..
  have i9:(decide (i.toNat < (List.map (vi) o).length)) = true ↔ (i.toNat < o.length):=(by (try rw [w8]);all_goals exact i_dec)
  obtain ⟨k10,H⟩:=H
  have i11:(decide (0 <= wi (i + 1))) = true ↔ (0 <= i + 1):=(by (try rw [w4]);all_goals exact i_dec)
  obtain ⟨k12,H⟩:=H
  have i13:(decide ((wi (i + 1)).toNat < (List.map (vi) o).length)) = true ↔ ((i + 1).toNat < o.length):=(by (try rw [w4]);(try rw [w8]);all_goals exact i_dec)
  obtain ⟨k14,H⟩:=H
  have w16:(List.map Pt.a l).length = l.length:=List.length_map ..
  have i17:(decide (i.toNat < (List.map Pt.a l).length)) = true ↔ (i.toNat < l.length):=(by (try rw [w16]);all_goals exact i_dec)
  obtain ⟨k18,H⟩:=H
  have i20:(decide (i.toNat < (List.map (vi) o).length)) = true ↔ (i.toNat < o.length):=(by (try rw [w8]);all_goals exact i_dec)
  have w21:(List.map (vi) o).set i.toNat (vi (if Sp.af (2 * a * (l.getD i.toNat default).len) (o.getD (i + 1).toNat default) < o.getD i.toNat default then Sp.af (2 * a * (l.getD i.toNat default).len) (o.getD (i + 1).toNat default) else o.getD i.toNat default)) = List.map (vi) (o.set i.toNat (if Sp.af (2 * a * (l.getD i.toNat default).len) (o.getD (i + 1).toNat default) < o.getD i.toNat default then Sp.af (2 * a * (l.getD i.toNat default).len) (o.getD (i + 1).toNat default) else o.getD i.toNat default)):=(lm_set rfl rfl)
  obtain ⟨k22,H⟩:=H
  have w23:wi (i - 1) = i - 1:=wI64 k22
  exact path_wp (G:=given kp8 [(12,5,.elem (vi (o.getD i.toNat default))),(12,10,.elem (vi (o.getD (i + 1).toNat default))),(12,15,.elem (zNzE3 l i)),(12,17,.call (vi (Sp.af (2 * a * (l.getD i.toNat default).len) (o.getD (i + 1).toNat default))) none),(12,20,.elem (vi (o.getD i.toNat default)))] []) 1000 [true] ⟨(atC (cd Try.f8) [1,1,1,1,0,1,0,0]),[(0,AV.vec fl 3 (List.map Pt.a l)),(1,vi a),(7,AV.row 0 0),(9,vi (wi (i - 1)))],[⟨(List.map (vi) o).set i.toNat (vi (if Sp.af (2 * a * (l.getD i.toNat default).len) (o.getD (i + 1).toNat default) < o.getD i.toNat default then Sp.af (2 * a * (l.getD i.toNat default).len) (o.getD (i + 1).toNat default) else o.getD i.toNat default)),1,0,false,true⟩],_,[((List.map (vi) o).get?Internal i.toNat = some (vi (o.getD i.toNat default))),((List.map (vi) o).get?Internal (wi (i + 1)).toNat = some (vi (o.getD (i + 1).toNat default))),((List.map Pt.a l).get?Internal i.toNat = some (zNzE3 l i)),((List.map (vi) o).get?Internal i.toNat = some (vi (o.getD i.toNat default)))],_⟩ (by kernel_rfl) (bc (beq_t (i_dec.2 d2)) (bc rfl (bc (i_dec.2 k7) (bc (i9.2 k10) (bc rfl (bc rfl (bc (i11.2 k12) (bc (i13.2 k14) (bc rfl (bc (i_dec.2 k7) (bc (i17.2 k18) (bc rfl (bc (i_dec.2 k7) (bc (i20.2 k10) (bc rfl b0))))))))))))))) (qc (el_map k10) (qc (by (try rw [w4]);all_goals exact (el_map k14)) (qc (el_map k18) (qc (el_map k10) q0)))) (ce (@ev25 (o.getD (i + 1).toNat default) ((l.getD i.toNat default).len) (a) k5) c0) (by (try rw [w21]);(try rw [w23]);all_goals exact H)
 ·have H:=H.2 d2
  exact path_ret (G:=given kp8 [] []) 1000 [false] (k:=((atC (cd Try.f8) [1,1,1,1,1,1])).tail) (env':=[(4,AV.row 0 0),(5,vi 0)]) (L':=[⟨List.map (vi) o,1,0,false,true⟩]) (asm:=[(decide (i > 0)) == false]) (eqs:=[]) (calls:=[]) (tu [AV.row 0 0,vi 0]) (by kernel_rfl) (by kernel_rfl) (allB_cons (beq_f (fun h => d2 (i_dec.1 h))) allB_nil) allP_nil allC_nil H
theorem kCor1 (ax ay az bx by_ bz m n c i:Int)  (dq:AV) (H :
  (-9223372036854775808 <= i + 1 /\ i + 1 <= 9223372036854775807) /\
  (Sp.okAl (i + 1) ax bx m n c) /\
  ((¬(¬(Sp.alw (i + 1) ax bx m n c = true))) -> (Sp.okAl (i + 1) ay by_ m n c)) /\
  ((¬((¬(Sp.alw (i + 1) ax bx m n c = true)) \/ (¬(Sp.alw (i + 1) ay by_ m n c = true)))) -> (Sp.okAl (i + 1) az bz m n c)) /\
  (vb (bif bif !Sp.alw (i + 1) ax bx m n c then true else !Sp.alw (i + 1) ay by_ m n c then true else !Sp.alw (i + 1) az bz m n c)) = dq) :
 kCor1_at ax ay az bx by_ bz m n c i (PureQ dq):=by
 unfold kCor1_at
 obtain ⟨k1,H⟩:=H
 have w2:wi (i + 1) = i + 1:=wI64 k1
 obtain ⟨k3,H⟩:=H
 obtain ⟨k5,H⟩:=H
 obtain ⟨k7,H⟩:=H
 exact path_re (G:=given kp38 [(2,8,.call (vb (Sp.alw (i + 1) ax bx m n c)) none),(2,19,.call (vb (Sp.alw (i + 1) ay by_ m n c)) none),(2,31,.call (vb (Sp.alw (i + 1) az bz m n c)) none)] []) 1000 [] (calls:=[⟨true,false,39,[vi (wi (i + 1)),vi ax,vi bx,vi m,vi n,vi c],[],vb (Sp.alw (i + 1) ax bx m n c),[]⟩,⟨(!Sp.alw (i + 1) ax bx m n c) == false && true && true,false,39,[vi (wi (i + 1)),vi ay,vi by_,vi m,vi n,vi c],[],vb (Sp.alw (i + 1) ay by_ m n c),[]⟩,⟨(bif !Sp.alw (i + 1) ax bx m n c then true else !Sp.alw (i + 1) ay by_ m n c) == false && true && true,false,39,[vi (wi (i + 1)),vi az,vi bz,vi m,vi n,vi c],[],vb (Sp.alw (i + 1) az bz m n c),[]⟩]) (vb (bif bif !Sp.alw (i + 1) ax bx m n c then true else !Sp.alw (i + 1) ay by_ m n c then true else !Sp.alw (i + 1) az bz m n c)) (by kernel_rfl) b0 q0 (cc (fun _ => (by (try rw [w2]);all_goals exact (@ev39 (i + 1) (ax) (bx) (m) (n) (c) k3))) (cc (fun hc => ((by (try rw [w2]);all_goals exact (@ev39 (i + 1) (ay) (by_) (m) (n) (c) (k5 ((i_at (i_at (i_bf (i_not (i_var _))))).1 hc)))):Ev M1 (Conf.pure 39 [vi (wi (i + 1)),vi ay,vi by_,vi m,vi n,vi c]) (vb (Sp.alw (i + 1) ay by_ m n c)) [])) (cc (fun hc => ((by (try rw [w2]);all_goals exact (@ev39 (i + 1) (az) (bz) (m) (n) (c) (k7 ((i_at (i_at (i_bf (i_bor (i_not (i_var _)) (i_not (i_var _)))))).1 hc)))):Ev M1 (Conf.pure 39 [vi (wi (i + 1)),vi az,vi bz,vi m,vi n,vi c]) (vb (Sp.alw (i + 1) az bz m n c)) [])) c0))) H
noncomputable abbrev zNzE4:=ag [vb false,vf [],vb false,vf []]
noncomputable abbrev zNzE5 (i:Int) (v:Int) (a:Int) (r:Rat):=Sp.sgnI ((Sp.reR i v a).num * (↑r.den:Int) - r.num * (↑(Sp.reR i v a).den:Int))
theorem kStr1 (f g:Bool) (v a i:Int) (r:Rat)  (dq:AV) (H :
  ((Sp.okRe i v a) -> ((true = true) -> (Sp.okR (Sp.reR i v a) /\ Sp.okR r)) /\
   vb (decide (Sp.sgnI ((Sp.reR i v a).num * (↑r.den:Int) - r.num * (↑(Sp.reR i v a).den:Int)) >= 0)) = dq) /\
  (¬(Sp.okRe i v a) -> ∃ (n1:Int),
   ((false = true) -> (Ev M1 (Conf.pure 42 [ag [vb false,vf [],vb false,vf []],ratA f g r]) (vi n1) [])) /\
   vb false = dq)) :
 kStr1_at f g v a i r (PureQ dq):=by
 unfold kStr1_at
 rcases xm (Sp.okRe i v a) with d1 | d1
 ·have H:=H.1 d1
  obtain ⟨k3,H⟩:=H
  exact path_re (G:=given kp46 [(1,3,.call (tu [ratA false false (Sp.reR i v a),vi 0]) none),(2,5,.call (vi (zNzE5 i v a r)) none)] []) 1000 [] (calls:=[⟨true,false,21,[vi i,vi v,vi a],[],tu [ratA false false (Sp.reR i v a),vi 0],[]⟩,⟨true == true && true && true,false,42,[ratA false false (Sp.reR i v a),ratA f g r],[],vi (zNzE5 i v a r),[]⟩]) (vb (decide (Sp.sgnI ((Sp.reR i v a).num * (↑r.den:Int) - r.num * (↑(Sp.reR i v a).den:Int)) >= 0))) (by kernel_rfl) (bc rfl (bc rfl b0)) q0 (cc (fun _ => (@ev21_y (i) (v) (a) d1)) (cc (fun hc => ((@ev42 (false) (false) (f) (g) (Sp.reR i v a) (r) (k3 ((i_at (i_at (i_bt (i_var _)))).1 hc))):Ev M1 (Conf.pure 42 [ratA false false (Sp.reR i v a),ratA f g r]) (vi (zNzE5 i v a r)) [])) c0)) H
 ·have H:=H.2 d1
  obtain ⟨n1,H⟩:=H
  obtain ⟨k5,H⟩:=H
  exact path_re (G:=given kp46 [(1,3,.call (tu [zNzE4,vi 1]) none),(2,5,.call (vi n1) none)] []) 1000 [] (calls:=[⟨true,false,21,[vi i,vi v,vi a],[],tu [zNzE4,vi 1],[]⟩,⟨false == true && true && true,false,42,[zNzE4,ratA f g r],[],vi n1,[]⟩]) (vb false) (by kernel_rfl) (bc rfl (bc rfl b0)) q0 (cc (fun _ => (@ev21_n (i) (v) (a) d1)) (cc (fun hc => ((k5 ((i_at (i_at (i_bt (i_var _)))).1 hc)):Ev M1 (Conf.pure 42 [zNzE4,ratA f g r]) (vi n1) [])) c0)) H
end Go.Av

namespace Go.Av
open Go.Proofs
theorem ev14 (n u v:Int):Ev M1 (.pure 14 [.int .i64 n,.int .i64 u,.int .i64 v]) (.tup [.int .i64 (Sp.fastV n u v),.int .i64 (Sp.fastE n u v)]) []:=by
 have e:(((¬(0 <= n /\ n <= 1000000)) \/ (¬(0 <= u /\ u <= 100000000))) \/ (¬(1 <= v /\ v <= 100000000))) ↔ ¬(Sp.isV n /\ Sp.isLen u /\ Sp.isAcc v):=by unfold Sp.isV Sp.isLen Sp.isAcc;omega
 refine call14 (kFaster _ _ _ _ ⟨fun x => ?_,fun x => ?_⟩)
 ·have y:=e.1 x
  unfold Sp.fastV Sp.fastE
  rw [if_neg y,if_neg y]
 ·have y:=Classical.not_not.1 (mt e.2 x)
  unfold Sp.fastV Sp.fastE
  rw [if_pos y,if_pos y]
  exact ⟨y,rfl⟩
theorem spF_le {l:List Pt} {a:Int} (h:Sp.okPts l a):∀ i,i < l.length -> 0 <= Sp.spF l a i /\ Sp.spF l a i <= 1000000
 | 0,_ => by unfold Sp.spF;omega
 | i + 1,hi => by
  have a1:=cap_nn h (i + 1)
  have b:=@af_nn (Sp.kA l a i) (Sp.spF l a i) (kA_nn h i (by omega)).1
  unfold Sp.spF
  omega
theorem spF_step {l:List Pt} {a:Int} {i:Nat} (h:0 < i):Sp.spF l a i = min (Sp.cap l i) (Sp.af (Sp.kA l a (i - 1)) (Sp.spF l a (i - 1))):=by
 obtain ⟨j,rfl⟩:∃ j,i = j + 1:=⟨i - 1,by omega⟩
 rw [Nat.add_sub_cancel];rfl
theorem spAt_step {l:List Pt} {a:Int} {i:Nat} (h1:0 < i) (h2:i < l.length):Sp.spAt l a i = min (Sp.spF l a i) (Sp.af (Sp.kA l a i) (Sp.spAt l a (i + 1))):=by
 obtain ⟨d,hd⟩:∃ d,l.length - i = d + 1:=⟨l.length - i - 1,by omega⟩
 unfold Sp.spAt
 rw [hd,Sp.spG,if_neg (by omega),show l.length - (d + 1) = i by omega,show l.length - (i + 1) = d by omega]
theorem spAt_zero {l:List Pt} {a:Int}:Sp.spAt l a 0 = 0:=by
 unfold Sp.spAt
 rw [Nat.sub_zero]
 rcases e:l.length with _ | d
 ·rfl
 ·rw [Sp.spG,if_pos e]
theorem spAt_end {l:List Pt} {a:Int}:Sp.spAt l a l.length = 0:=by
 unfold Sp.spAt
 rw [Nat.sub_self];rfl
theorem spds_of {l:List Pt} {a:Int} {o:List Int} (ho:o.length = l.length + 1) (hv:∀ j,j <= l.length -> o.getD j default = Sp.spAt l a j):o = Sp.spds l a:=by
 rw [rm_of o,ho]
 exact rm_congr fun i hi => hv i (by omega)
theorem spB_loop {fl:Bool} {l:List Pt} {a:Int} {Q:AV -> Heap -> Prop} (hl:(l.length:Int) <= 2000) (h:Sp.okPts l a) (hq:Q (.tup [.row 0 0,.int .i64 0]) [⟨(Sp.spds l a).map (.int .i64),1,0,false,true⟩]) :
  ∀ (i:Nat) (o:List Int),i < l.length -> o.length = l.length + 1 -> (∀ j,j <= l.length -> o.getD j default = if j <= i then Sp.spF l a j else Sp.spAt l a j) -> kSpB_at fl l a i o Q
 | 0,o,hi,ho,hv => by
  refine kSpB _ _ _ _ _ _ ⟨fun x => by omega,fun _ => ?_⟩
  rw [spds_of (a:=a) ho fun j hj => by
   rw [hv j hj]
   by_cases e:j = 0
   ·subst e;rw [if_pos (Nat.le_refl _),spAt_zero];rfl
   ·rw [if_neg (by omega)]]
  exact hq
 | i + 1,o,hi,ho,hv => by
  have e1:=hv (i + 1) (by omega)
  have e2:=hv (i + 1 + 1) (by omega)
  rw [if_pos (Nat.le_refl _)] at e1
  rw [if_neg (by omega)] at e2
  have b2:=spAt_le h (i:=i + 1 + 1) (by omega)
  have p:=pt_at h hi
  refine kSpB _ _ _ _ _ _ ⟨fun _ => ?_,fun x => by omega⟩
  rw [show ((i + 1:Nat):Int).toNat = i + 1 by omega,show (((i + 1:Nat):Int) + 1).toNat = i + 1 + 1 by omega,show ((i + 1:Nat):Int) - 1 = (i:Int) by omega]
  simp only [min_if]
  rw [e1,e2]
  refine ⟨by omega,⟨by unfold Sp.isV;omega,p.1,h.1⟩,by omega,by omega,by omega,by omega,by omega,by omega,?_⟩
  rw [show min (Sp.spF l a (i + 1)) (Sp.af (2 * a * (l.getD (i + 1) default).len) (Sp.spAt l a (i + 1 + 1))) = Sp.spAt l a (i + 1) from (spAt_step (by omega) hi).symm]
  refine spB_loop hl h hq i _ (by omega) (by simp [ho]) fun j hj => ?_
  rw [getD_set' (by omega)]
  by_cases e:i + 1 = j
  ·subst e;rw [if_pos rfl,if_neg (by omega)]
  ·rw [if_neg e,hv j hj]
   by_cases k:j <= i
   ·rw [if_pos k,if_pos (by omega)]
   ·rw [if_neg k,if_neg (by omega)]
theorem spA_loop {fl:Bool} {l:List Pt} {a:Int} {Q:AV -> Heap -> Prop} (hl:(l.length:Int) <= 2000) (h:Sp.okPts l a) (hq:Q (.tup [.row 0 0,.int .i64 0]) [⟨(Sp.spds l a).map (.int .i64),1,0,false,true⟩]) :
  ∀ (k i:Nat) (o:List Int),l.length <= i + k -> 0 < i -> o.length = l.length + 1 -> (∀ j,j <= l.length -> o.getD j default = if j < i /\ j < l.length then Sp.spF l a j else 0) -> kSpA_at fl l a i o Q
 | 0,i,o,hk,h0,ho,hv => by
  refine kSpA _ _ _ _ _ _ ⟨fun x => by omega,fun _ => ⟨by omega,?_⟩⟩
  by_cases n:l.length = 0
  ·refine kSpB _ _ _ _ _ _ ⟨fun x => by omega,fun _ => ?_⟩
   rw [spds_of (a:=a) ho fun j hj => by
    rw [hv j hj,if_neg (by omega),show j = 0 by omega,spAt_zero]]
   exact hq
  ·rw [show (l.length:Int) - 1 = ((l.length - 1:Nat):Int) by omega]
   refine spB_loop hl h hq (l.length - 1) o (by omega) ho fun j hj => ?_
   rw [hv j hj]
   by_cases e:j <= l.length - 1
   ·rw [if_pos e,if_pos (by omega)]
   ·rw [if_neg e,if_neg (by omega),show j = l.length by omega,spAt_end]
 | k + 1,i,o,hk,h0,ho,hv => by
  by_cases x:i < l.length
  ·have e1:=hv (i - 1) (by omega)
   rw [if_pos (by omega)] at e1
   have b1:=spF_le h (i - 1) (by omega)
   have p:=pt_at h (i:=i - 1) (by omega)
   refine kSpA _ _ _ _ _ _ ⟨fun _ => ?_,fun y => by omega⟩
   rw [Int.toNat_natCast,show ((i:Int) - 1).toNat = i - 1 by omega,show (i:Int) + 1 = ((i + 1:Nat):Int) by omega]
   simp only [min_if]
   rw [e1]
   refine ⟨by omega,⟨by unfold Sp.isV;omega,p.1,h.1⟩,by omega,by omega,by omega,by omega,by omega,by omega,by omega,?_⟩
   have hc:Sp.cap l i = min (min (l.getD (i - 1) default).spd (l.getD (i - 1) default).cor) (l.getD i default).spd:=if_neg (by omega)
   rw [<- hc,show min (Sp.cap l i) (Sp.af (2 * a * (l.getD (i - 1) default).len) (Sp.spF l a (i - 1))) = Sp.spF l a i from (spF_step h0).symm]
   refine spA_loop hl h hq k (i + 1) _ (by omega) (by omega) (by simp [ho]) fun j hj => ?_
   rw [getD_set' (by omega)]
   by_cases e:i = j
   ·subst e;rw [if_pos rfl,if_pos (by omega)]
   ·rw [if_neg e,hv j hj]
    by_cases m:j < i /\ j < l.length
    ·rw [if_pos m,if_pos (by omega)]
    ·rw [if_neg m,if_neg (by omega)]
  ·exact spA_loop hl h hq 0 i o (by omega) h0 ho hv
theorem sp_run {fl:Bool} {l:List Pt} {a:Int} {Q:AV -> Heap -> Prop} (v:Sp.validE l a = 0) (hq:Q (.tup [.row 0 0,.int .i64 0]) [⟨(Sp.spds l a).map (.int .i64),1,0,false,true⟩]):kSp_at fl l a Q:=by
 obtain ⟨hl,h⟩:=validE_ok v
 refine kSp _ _ _ _ ⟨fun x => absurd v x,fun x => ⟨by omega,by omega,by omega,by omega,?_⟩⟩
 rw [show ((l.length:Int) + 1).toNat = l.length + 1 by omega]
 refine spA_loop hl h hq l.length 1 _ (by omega) (by omega) (by simp) fun j hj => ?_
 have e:(List.replicate (l.length + 1) (0:Int)).getD j default = 0:=by simp [List.getD_eq_getElem?_getD,List.getElem?_replicate,show j < l.length + 1 by omega]
 rw [e]
 split
 ·rw [show j = 0 by omega];rfl
 ·rfl
theorem ev8 (fl:Bool) (l:List Pt) (a:Int):Ev M1 (.pure 8 [.vec fl 3 (l.map Pt.a),.int .i64 a]) (.tup [.vec false 1 ((Sp.spdV l a).map (.int .i64)),.int .i64 (Sp.validE l a)]) []:=by
 by_cases v:Sp.validE l a = 0
 ·rw [show Sp.spdV l a = Sp.spds l a from if_pos v,v]
  exact call8 (sp_run v (pq_of rfl rfl ⟨rfl,trivial⟩ rfl rfl))
 ·rw [show Sp.spdV l a = [] from if_neg v]
  exact call8 (kSp _ _ _ _ ⟨fun _ => pq_weak rfl rfl trivial rfl weak_nil2,fun x => absurd v x⟩)
namespace Sp
noncomputable def corP (ax ay az bx by_ bz m n c i:Int):Bool:=bif bif !alw (i + 1) ax bx m n c then true else !alw (i + 1) ay by_ m n c then true else !alw (i + 1) az bz m n c
def okCr (ax ay az bx by_ bz m n c:Int):Prop:=inP ax ay az /\ inP bx by_ bz /\ okQ m /\ okQ n /\ isV c
def inS (h i:Int):Prop:=0 <= i /\ i <= h
noncomputable def strP (v a:Int) (r:Rat) (i:Int):Bool:=decide (r <= reR i v a)
def okSt (v a:Int) (r:Rat):Prop:=(1 <= v /\ v <= 1000000) /\ isAcc a /\ okR r
end Sp
theorem ev38 (ax ay az bx by_ bz m n c i:Int) (h:Sp.okCr ax ay az bx by_ bz m n c /\ Sp.inS 1000000 i):Ev M1 (.pure 38 [.int .i64 i,.eptr 3 [.agg [.int .i64 ax,.int .i64 ay,.int .i64 az]] 0 0,.eptr 3 [.agg [.int .i64 bx,.int .i64 by_,.int .i64 bz]] 0 0,.eptr 1 [.int .i64 m] 0 0,.eptr 1 [.int .i64 n] 0 0,.eptr 1 [.int .i64 c] 0 0]) (.bool (Sp.corP ax ay az bx by_ bz m n c i)) []:=by
 obtain ⟨⟨⟨a1,a2,a3⟩,⟨b1,b2,b3⟩,hm,hn,hc⟩,hi⟩:=h
 unfold Sp.inS at hi
 have v:0 <= i + 1 /\ i + 1 <= 1000001:=by omega
 exact call38 (kCor1 _ _ _ _ _ _ _ _ _ _ _ ⟨by omega,⟨v,⟨a1,b1⟩,⟨hm,hn⟩,hc⟩,fun _ => ⟨v,⟨a2,b2⟩,⟨hm,hn⟩,hc⟩,fun _ => ⟨v,⟨a3,b3⟩,⟨hm,hn⟩,hc⟩,rfl⟩)
theorem ev46 (f g:Bool) (v a i:Int) (r:Rat) (h:Sp.okSt v a r /\ Sp.inS 1000000000000 i):Ev M1 (.pure 46 [.int .i64 i,.eptr 1 [.int .i64 v] 0 0,.eptr 1 [.int .i64 a] 0 0,.eptr 4 [ratA f g r] 0 0]) (.bool (Sp.strP v a r i)) []:=by
 obtain ⟨⟨hv,ha,hr⟩,hi⟩:=h
 have k:Sp.okRe i v a:=⟨hi,hv,ha⟩
 refine call46 (kStr1 _ _ _ _ _ _ _ ⟨fun _ => ⟨fun _ => ⟨okT_R (okT_re k) (by omega),hr⟩,?_⟩,fun x => absurd k x⟩)
 unfold Sp.strP
 congr 1
 exact dec_iff cmp_ge
end Go.Av

namespace Go.Av
open Go.Proofs
set_option maxRecDepth 100000
def fi37:Fi:=⟨26,[.tmp 4]⟩
def kp37:List (Nat × List Nat):=[(0,[0,1]),(1,[1,5,6]),(2,[1,5,6,11]),(3,[1,5,6,7]),(4,[1,5,6,7,21]),(5,[1,5,6]),(6,[1,5,6]),(7,[4])]
def kSeC_at (ax ay az bx by_ bz m n c:Int) (Q:AV -> Heap -> Prop):Prop:=Wp M1 (.run fi37 (atC (cd Try.f37) []) [(0,.int .i64 1000000),(1,.func (.func 38) [] [.eptr 3 [.agg [.int .i64 ax,.int .i64 ay,.int .i64 az]] 0 0,.eptr 3 [.agg [.int .i64 bx,.int .i64 by_,.int .i64 bz]] 0 0,.eptr 1 [.int .i64 m] 0 0,.eptr 1 [.int .i64 n] 0 0,.eptr 1 [.int .i64 c] 0 0])] []) Q
def kSeCH_at (ax ay az bx by_ bz m n c:Int) (i j:Int) (Q:AV -> Heap -> Prop):Prop:=Wp M1 (.run fi37 (atC (cd Try.f37) [1,1,0,0,0]) [(1,.func (.func 38) [] [.eptr 3 [.agg [.int .i64 ax,.int .i64 ay,.int .i64 az]] 0 0,.eptr 3 [.agg [.int .i64 bx,.int .i64 by_,.int .i64 bz]] 0 0,.eptr 1 [.int .i64 m] 0 0,.eptr 1 [.int .i64 n] 0 0,.eptr 1 [.int .i64 c] 0 0]),(5,.int .i64 i),(6,.int .i64 j)] []) Q
def kSeS_at (f g:Bool) (v a:Int) (r:Rat) (Q:AV -> Heap -> Prop):Prop:=Wp M1 (.run fi37 (atC (cd Try.f37) []) [(0,.int .i64 1000000000000),(1,.func (.func 46) [] [.eptr 1 [.int .i64 v] 0 0,.eptr 1 [.int .i64 a] 0 0,.eptr 4 [ratA f g r] 0 0])] []) Q
def kSeSH_at (f g:Bool) (v a:Int) (r:Rat) (i j:Int) (Q:AV -> Heap -> Prop):Prop:=Wp M1 (.run fi37 (atC (cd Try.f37) [1,1,0,0,0]) [(1,.func (.func 46) [] [.eptr 1 [.int .i64 v] 0 0,.eptr 1 [.int .i64 a] 0 0,.eptr 4 [ratA f g r] 0 0]),(5,.int .i64 i),(6,.int .i64 j)] []) Q
theorem call37 {args:List AV} {d:AV} (h:wc M1 fi37 Try.f37 args d):Ev M1 (.pure 37 args) d []:=pcl _ _ (by kernel_rfl) h
theorem kSeC (ax ay az bx by_ bz m n c:Int)  (dq:AV) (H :
  kSeCH_at (ax) (ay) (az) (bx) (by_) (bz) (m) (n) (c) (0) (1000000) (PureQ dq)) :
 kSeC_at ax ay az bx by_ bz m n c (PureQ dq):=by
 unfold kSeC_at
 exact path_wp (G:=given kp37 [] []) 1000 [] ⟨(atC (cd Try.f37) [1,1,0,0,0]),[(1,AV.func (Fn.func 38) [] [AV.eptr 3 [ag [vi ax,vi ay,vi az]] 0 0,AV.eptr 3 [ag [vi bx,vi by_,vi bz]] 0 0,AV.eptr 1 [vi m] 0 0,AV.eptr 1 [vi n] 0 0,AV.eptr 1 [vi c] 0 0]),(5,vi 0),(6,vi 1000000)],[],_,[],_⟩ (by kernel_rfl) b0 q0 c0 (H)
noncomputable abbrev zNzF1 (ax:Int) (ay:Int) (az:Int):=ag [vi ax,vi ay,vi az]
noncomputable abbrev zNzF2 (bx:Int) (by_:Int) (bz:Int):=ag [vi bx,vi by_,vi bz]
theorem kSeCH (ax ay az bx by_ bz m n c:Int) (i j:Int)  (dq:AV) (H :
  ((i < j) -> (-9223372036854775808 <= i + j /\ i + j <= 9223372036854775807) /\
   (0 <= i + j /\ i + j <= 18446744073709551615) /\
   (-9223372036854775808 <= (i + j).fdiv (2 ^ min (Int.toNat 1) IntKind.u64.bits) /\ (i + j).fdiv (2 ^ min (Int.toNat 1) IntKind.u64.bits) <= 9223372036854775807) /\
   (Sp.okCr ax ay az bx by_ bz m n c /\ Sp.inS 1000000 ((i + j).fdiv (2 ^ min (Int.toNat 1) IntKind.u64.bits))) /\
   ((¬(Sp.corP ax ay az bx by_ bz m n c ((i + j).fdiv (2 ^ min (Int.toNat 1) IntKind.u64.bits)) = true)) -> (-9223372036854775808 <= (i + j).fdiv (2 ^ min (Int.toNat 1) IntKind.u64.bits) + 1 /\ (i + j).fdiv (2 ^ min (Int.toNat 1) IntKind.u64.bits) + 1 <= 9223372036854775807) /\
    kSeCH_at (ax) (ay) (az) (bx) (by_) (bz) (m) (n) (c) ((i + j).fdiv (2 ^ min (Int.toNat 1) IntKind.u64.bits) + 1) (j) (PureQ dq)) /\
   (¬(¬(Sp.corP ax ay az bx by_ bz m n c ((i + j).fdiv (2 ^ min (Int.toNat 1) IntKind.u64.bits)) = true)) -> kSeCH_at (ax) (ay) (az) (bx) (by_) (bz) (m) (n) (c) (i) ((i + j).fdiv (2 ^ min (Int.toNat 1) IntKind.u64.bits)) (PureQ dq))) /\
  (¬(i < j) -> vi i = dq)) :
 kSeCH_at ax ay az bx by_ bz m n c i j (PureQ dq):=by
 unfold kSeCH_at
 rcases xm (i < j) with d2 | d2
 ·have H:=H.1 d2
  obtain ⟨k3,H⟩:=H
  have w4:wi (i + j) = i + j:=wI64 k3
  obtain ⟨k5,H⟩:=H
  have w6:wu (i + j) = i + j:=wU64 k5
  obtain ⟨k7,H⟩:=H
  have w8:wi ((i + j).fdiv (2 ^ min (Int.toNat 1) IntKind.u64.bits)) = (i + j).fdiv (2 ^ min (Int.toNat 1) IntKind.u64.bits):=wI64 k7
  obtain ⟨k9,H⟩:=H
  refine path_wp (G:=given kp37 [(4,2,.call (vb (Sp.corP ax ay az bx by_ bz m n c ((i + j).fdiv (2 ^ min (Int.toNat 1) IntKind.u64.bits)))) none)] []) 10 [true] ⟨(atC (cd Try.f37) [1,1,0,0,0,1,0,1,1]),[(1,AV.func (Fn.func 38) [] [AV.eptr 3 [(zNzF1 ax ay az)] 0 0,AV.eptr 3 [(zNzF2 bx by_ bz)] 0 0,AV.eptr 1 [vi m] 0 0,AV.eptr 1 [vi n] 0 0,AV.eptr 1 [vi c] 0 0]),(5,vi i),(6,vi j),(7,vi (wi ((wu (wi (i + j))).fdiv (2 ^ min (Int.toNat 1) IntKind.u64.bits)))),(21,vb !Sp.corP ax ay az bx by_ bz m n c ((i + j).fdiv (2 ^ min (Int.toNat 1) IntKind.u64.bits)))],[],_,[],[pc 38 [vi (wi ((wu (wi (i + j))).fdiv (2 ^ min (Int.toNat 1) IntKind.u64.bits))),AV.eptr 3 [(zNzF1 ax ay az)] 0 0,AV.eptr 3 [(zNzF2 bx by_ bz)] 0 0,AV.eptr 1 [vi m] 0 0,AV.eptr 1 [vi n] 0 0,AV.eptr 1 [vi c] 0 0] (vb (Sp.corP ax ay az bx by_ bz m n c ((i + j).fdiv (2 ^ min (Int.toNat 1) IntKind.u64.bits))))]⟩ (by kernel_rfl) (bc (beq_t (i_dec.2 d2)) (bc rfl b0)) q0 (ce (by (try rw [w4]);(try rw [w6]);(try rw [w8]);all_goals exact (@ev38 (ax) (ay) (az) (bx) (by_) (bz) (m) (n) (c) ((i + j).fdiv (2 ^ min (Int.toNat 1) IntKind.u64.bits)) k9)) c0) ?_
  rcases xm (¬(Sp.corP ax ay az bx by_ bz m n c ((i + j).fdiv (2 ^ min (Int.toNat 1) IntKind.u64.bits)) = true)) with d11 | d11
  ·have H:=H.1 d11
   obtain ⟨k12,H⟩:=H
   have w13:wi ((i + j).fdiv (2 ^ min (Int.toNat 1) IntKind.u64.bits) + 1) = (i + j).fdiv (2 ^ min (Int.toNat 1) IntKind.u64.bits) + 1:=wI64 k12
   exact path_wp (G:=given kp37 [] []) 1000 [true] ⟨(atC (cd Try.f37) [1,1,0,0,0]),[(1,AV.func (Fn.func 38) [] [AV.eptr 3 [(zNzF1 ax ay az)] 0 0,AV.eptr 3 [(zNzF2 bx by_ bz)] 0 0,AV.eptr 1 [vi m] 0 0,AV.eptr 1 [vi n] 0 0,AV.eptr 1 [vi c] 0 0]),(5,vi (wi (wi ((wu (wi (i + j))).fdiv (2 ^ min (Int.toNat 1) IntKind.u64.bits)) + 1))),(6,vi j)],[],[(!Sp.corP ax ay az bx by_ bz m n c ((i + j).fdiv (2 ^ min (Int.toNat 1) IntKind.u64.bits))) == true],[],_⟩ (by kernel_rfl) (bc (beq_t ((i_not (i_var _)).2 d11)) b0) q0 c0 (by (try rw [w4]);(try rw [w6]);(try rw [w8]);(try rw [w13]);all_goals exact H)
  ·have H:=H.2 d11
   exact path_wp (G:=given kp37 [] []) 1000 [false] ⟨(atC (cd Try.f37) [1,1,0,0,0]),[(1,AV.func (Fn.func 38) [] [AV.eptr 3 [(zNzF1 ax ay az)] 0 0,AV.eptr 3 [(zNzF2 bx by_ bz)] 0 0,AV.eptr 1 [vi m] 0 0,AV.eptr 1 [vi n] 0 0,AV.eptr 1 [vi c] 0 0]),(5,vi i),(6,vi (wi ((wu (wi (i + j))).fdiv (2 ^ min (Int.toNat 1) IntKind.u64.bits))))],[],[(!Sp.corP ax ay az bx by_ bz m n c ((i + j).fdiv (2 ^ min (Int.toNat 1) IntKind.u64.bits))) == false],[],_⟩ (by kernel_rfl) (bc (beq_f (fun h => d11 ((i_not (i_var _)).1 h))) b0) q0 c0 (by (try rw [w4]);(try rw [w6]);(try rw [w8]);all_goals exact H)
 ·have H:=H.2 d2
  exact path_re (G:=given kp37 [] []) 1000 [false] (vi i) (by kernel_rfl) (bc (beq_f (fun h => d2 (i_dec.1 h))) b0) q0 c0 H
theorem kSeS (f g:Bool) (v a:Int) (r:Rat)  (dq:AV) (H :
  kSeSH_at (f) (g) (v) (a) (r) (0) (1000000000000) (PureQ dq)) :
 kSeS_at f g v a r (PureQ dq):=by
 unfold kSeS_at
 exact path_wp (G:=given kp37 [] []) 1000 [] ⟨(atC (cd Try.f37) [1,1,0,0,0]),[(1,AV.func (Fn.func 46) [] [AV.eptr 1 [vi v] 0 0,AV.eptr 1 [vi a] 0 0,AV.eptr 4 [ratA f g r] 0 0]),(5,vi 0),(6,vi 1000000000000)],[],_,[],_⟩ (by kernel_rfl) b0 q0 c0 (H)
theorem kSeSH (f g:Bool) (v a:Int) (r:Rat) (i j:Int)  (dq:AV) (H :
  ((i < j) -> (-9223372036854775808 <= i + j /\ i + j <= 9223372036854775807) /\
   (0 <= i + j /\ i + j <= 18446744073709551615) /\
   (-9223372036854775808 <= (i + j).fdiv (2 ^ min (Int.toNat 1) IntKind.u64.bits) /\ (i + j).fdiv (2 ^ min (Int.toNat 1) IntKind.u64.bits) <= 9223372036854775807) /\
   (Sp.okSt v a r /\ Sp.inS 1000000000000 ((i + j).fdiv (2 ^ min (Int.toNat 1) IntKind.u64.bits))) /\
   ((¬(Sp.strP v a r ((i + j).fdiv (2 ^ min (Int.toNat 1) IntKind.u64.bits)) = true)) -> (-9223372036854775808 <= (i + j).fdiv (2 ^ min (Int.toNat 1) IntKind.u64.bits) + 1 /\ (i + j).fdiv (2 ^ min (Int.toNat 1) IntKind.u64.bits) + 1 <= 9223372036854775807) /\
    kSeSH_at (f) (g) (v) (a) (r) ((i + j).fdiv (2 ^ min (Int.toNat 1) IntKind.u64.bits) + 1) (j) (PureQ dq)) /\
   (¬(¬(Sp.strP v a r ((i + j).fdiv (2 ^ min (Int.toNat 1) IntKind.u64.bits)) = true)) -> kSeSH_at (f) (g) (v) (a) (r) (i) ((i + j).fdiv (2 ^ min (Int.toNat 1) IntKind.u64.bits)) (PureQ dq))) /\
  (¬(i < j) -> vi i = dq)) :
 kSeSH_at f g v a r i j (PureQ dq):=by
 unfold kSeSH_at
 rcases xm (i < j) with d2 | d2
 ·have H:=H.1 d2
  obtain ⟨k3,H⟩:=H
  have w4:wi (i + j) = i + j:=wI64 k3
  obtain ⟨k5,H⟩:=H
  have w6:wu (i + j) = i + j:=wU64 k5
  obtain ⟨k7,H⟩:=H
  have w8:wi ((i + j).fdiv (2 ^ min (Int.toNat 1) IntKind.u64.bits)) = (i + j).fdiv (2 ^ min (Int.toNat 1) IntKind.u64.bits):=wI64 k7
  obtain ⟨k9,H⟩:=H
  refine path_wp (G:=given kp37 [(4,2,.call (vb (Sp.strP v a r ((i + j).fdiv (2 ^ min (Int.toNat 1) IntKind.u64.bits)))) none)] []) 10 [true] ⟨(atC (cd Try.f37) [1,1,0,0,0,1,0,1,1]),[(1,AV.func (Fn.func 46) [] [AV.eptr 1 [vi v] 0 0,AV.eptr 1 [vi a] 0 0,AV.eptr 4 [ratA f g r] 0 0]),(5,vi i),(6,vi j),(7,vi (wi ((wu (wi (i + j))).fdiv (2 ^ min (Int.toNat 1) IntKind.u64.bits)))),(21,vb !Sp.strP v a r ((i + j).fdiv (2 ^ min (Int.toNat 1) IntKind.u64.bits)))],[],_,[],[pc 46 [vi (wi ((wu (wi (i + j))).fdiv (2 ^ min (Int.toNat 1) IntKind.u64.bits))),AV.eptr 1 [vi v] 0 0,AV.eptr 1 [vi a] 0 0,AV.eptr 4 [ratA f g r] 0 0] (vb (Sp.strP v a r ((i + j).fdiv (2 ^ min (Int.toNat 1) IntKind.u64.bits))))]⟩ (by kernel_rfl) (bc (beq_t (i_dec.2 d2)) (bc rfl b0)) q0 (ce (by (try rw [w4]);(try rw [w6]);(try rw [w8]);all_goals exact (@ev46 (f) (g) (v) (a) ((i + j).fdiv (2 ^ min (Int.toNat 1) IntKind.u64.bits)) (r) k9)) c0) ?_
  rcases xm (¬(Sp.strP v a r ((i + j).fdiv (2 ^ min (Int.toNat 1) IntKind.u64.bits)) = true)) with d11 | d11
  ·have H:=H.1 d11
   obtain ⟨k12,H⟩:=H
   have w13:wi ((i + j).fdiv (2 ^ min (Int.toNat 1) IntKind.u64.bits) + 1) = (i + j).fdiv (2 ^ min (Int.toNat 1) IntKind.u64.bits) + 1:=wI64 k12
   exact path_wp (G:=given kp37 [] []) 1000 [true] ⟨(atC (cd Try.f37) [1,1,0,0,0]),[(1,AV.func (Fn.func 46) [] [AV.eptr 1 [vi v] 0 0,AV.eptr 1 [vi a] 0 0,AV.eptr 4 [ratA f g r] 0 0]),(5,vi (wi (wi ((wu (wi (i + j))).fdiv (2 ^ min (Int.toNat 1) IntKind.u64.bits)) + 1))),(6,vi j)],[],[(!Sp.strP v a r ((i + j).fdiv (2 ^ min (Int.toNat 1) IntKind.u64.bits))) == true],[],_⟩ (by kernel_rfl) (bc (beq_t ((i_not (i_var _)).2 d11)) b0) q0 c0 (by (try rw [w4]);(try rw [w6]);(try rw [w8]);(try rw [w13]);all_goals exact H)
  ·have H:=H.2 d11
   exact path_wp (G:=given kp37 [] []) 1000 [false] ⟨(atC (cd Try.f37) [1,1,0,0,0]),[(1,AV.func (Fn.func 46) [] [AV.eptr 1 [vi v] 0 0,AV.eptr 1 [vi a] 0 0,AV.eptr 4 [ratA f g r] 0 0]),(5,vi i),(6,vi (wi ((wu (wi (i + j))).fdiv (2 ^ min (Int.toNat 1) IntKind.u64.bits))))],[],[(!Sp.strP v a r ((i + j).fdiv (2 ^ min (Int.toNat 1) IntKind.u64.bits))) == false],[],_⟩ (by kernel_rfl) (bc (beq_f (fun h => d11 ((i_not (i_var _)).1 h))) b0) q0 c0 (by (try rw [w4]);(try rw [w6]);(try rw [w8]);all_goals exact H)
 ·have H:=H.2 d2
  exact path_re (G:=given kp37 [] []) 1000 [false] (vi i) (by kernel_rfl) (bc (beq_f (fun h => d2 (i_dec.1 h))) b0) q0 c0 H
end Go.Av

namespace Go.Av
open Go.Proofs
theorem half_fdiv {x:Int} (h:0 <= x):x.fdiv (2 ^ min (Int.toNat 1) IntKind.u64.bits) = x / 2:=by
 have e:(2:Int) ^ min (Int.toNat 1) IntKind.u64.bits = 2:=rfl
 rw [e,Int.fdiv_eq_ediv_of_nonneg x (by omega)]
theorem seC_loop {ax ay az bx by_ bz m n c:Int} {dq:AV} (h:Sp.okCr ax ay az bx by_ bz m n c):∀ (k:Nat) (i j:Int),j - i < 2 ^ k -> 0 <= i -> i <= j -> j <= 1000000 -> AV.int .i64 (Sp.bs (Sp.corP ax ay az bx by_ bz m n c) k i j) = dq -> kSeCH_at ax ay az bx by_ bz m n c i j (PureQ dq)
 | 0,i,j,hk,h0,h1,h2,hq => by
  refine kSeCH _ _ _ _ _ _ _ _ _ _ _ _ ⟨fun x => by omega,fun x => hq⟩
 | k + 1,i,j,hk,h0,h1,h2,hq => by
  by_cases x:i < j
  ·rw [Int.pow_succ] at hk
   refine kSeCH _ _ _ _ _ _ _ _ _ _ _ _ ⟨fun _ => ?_,fun y => absurd x y⟩
   rw [half_fdiv (by omega)]
   rw [bs_step x] at hq
   refine ⟨by omega,by omega,by omega,⟨h,by unfold Sp.inS;omega⟩,fun y => ⟨by omega,?_⟩,fun y => ?_⟩
   ·rw [(Bool.not_eq_true _).mp y,cond_false] at hq
    exact seC_loop h k _ _ (by omega) (by omega) (by omega) (by omega) hq
   ·rw [Classical.not_not.1 y,cond_true] at hq
    exact seC_loop h k _ _ (by omega) (by omega) (by omega) (by omega) hq
  ·rw [bs_done x] at hq
   exact kSeCH _ _ _ _ _ _ _ _ _ _ _ _ ⟨fun y => absurd y x,fun _ => hq⟩
theorem seS_loop {f g:Bool} {v a:Int} {r:Rat} {dq:AV} (h:Sp.okSt v a r):∀ (k:Nat) (i j:Int),j - i < 2 ^ k -> 0 <= i -> i <= j -> j <= 1000000000000 -> AV.int .i64 (Sp.bs (Sp.strP v a r) k i j) = dq -> kSeSH_at f g v a r i j (PureQ dq)
 | 0,i,j,hk,h0,h1,h2,hq => by
  refine kSeSH _ _ _ _ _ _ _ _ ⟨fun x => by omega,fun x => hq⟩
 | k + 1,i,j,hk,h0,h1,h2,hq => by
  by_cases x:i < j
  ·rw [Int.pow_succ] at hk
   refine kSeSH _ _ _ _ _ _ _ _ ⟨fun _ => ?_,fun y => absurd x y⟩
   rw [half_fdiv (by omega)]
   rw [bs_step x] at hq
   refine ⟨by omega,by omega,by omega,⟨h,by unfold Sp.inS;omega⟩,fun y => ⟨by omega,?_⟩,fun y => ?_⟩
   ·rw [(Bool.not_eq_true _).mp y,cond_false] at hq
    exact seS_loop h k _ _ (by omega) (by omega) (by omega) (by omega) hq
   ·rw [Classical.not_not.1 y,cond_true] at hq
    exact seS_loop h k _ _ (by omega) (by omega) (by omega) (by omega) hq
  ·rw [bs_done x] at hq
   exact kSeSH _ _ _ _ _ _ _ _ ⟨fun y => absurd y x,fun _ => hq⟩
namespace Sp
noncomputable def corV (ax ay az bx by_ bz m n c:Int):Int:=bs (corP ax ay az bx by_ bz m n c) 40 0 1000000
noncomputable def strV (v a:Int) (r:Rat):Int:=bs (strP v a r) 40 0 1000000000000
end Sp
theorem ev37_c (ax ay az bx by_ bz m n c:Int) (h:Sp.okCr ax ay az bx by_ bz m n c):Ev M1 (.pure 37 [.int .i64 1000000,.func (.func 38) [] [.eptr 3 [.agg [.int .i64 ax,.int .i64 ay,.int .i64 az]] 0 0,.eptr 3 [.agg [.int .i64 bx,.int .i64 by_,.int .i64 bz]] 0 0,.eptr 1 [.int .i64 m] 0 0,.eptr 1 [.int .i64 n] 0 0,.eptr 1 [.int .i64 c] 0 0]]) (.int .i64 (Sp.corV ax ay az bx by_ bz m n c)) []:=
 call37 (kSeC _ _ _ _ _ _ _ _ _ _ (seC_loop h 40 0 1000000 (by decide) (by decide) (by decide) (by decide) rfl))
theorem ev37_s (f g:Bool) (v a:Int) (r:Rat) (h:Sp.okSt v a r):Ev M1 (.pure 37 [.int .i64 1000000000000,.func (.func 46) [] [.eptr 1 [.int .i64 v] 0 0,.eptr 1 [.int .i64 a] 0 0,.eptr 4 [ratA f g r] 0 0]]) (.int .i64 (Sp.strV v a r)) []:=
 call37 (kSeS _ _ _ _ _ _ (seS_loop h 40 0 1000000000000 (by decide) (by decide) (by decide) (by decide) rfl))
end Go.Av

namespace Go.Av
open Go.Proofs
set_option maxRecDepth 100000
def fi20:Fi:=⟨35,[.tmp 6,.tmp 7]⟩
def kp20:List (Nat × List Nat):=[(0,[3,4,5]),(1,[3,4,5,11]),(2,[6,7]),(3,[3,4,5,15]),(4,[6,7]),(5,[3,4,5,8,9]),(6,[3,4,5,8,9,31]),(7,[6,7]),(8,[10]),(9,[6,7])]
def fi22:Fi:=⟨28,[.tmp 6,.tmp 7]⟩
def kp22:List (Nat × List Nat):=[(0,[0,4,5]),(1,[0,4,5,22]),(2,[6,7]),(3,[4,5,8]),(4,[9]),(5,[6,7])]
def kCorner_at (ax ay az bx by_ bz c:Int) (Q:AV -> Heap -> Prop):Prop:=Wp M1 (.run fi20 (atC (cd Try.f20) []) [(0,.agg [.int .i64 ax,.int .i64 ay,.int .i64 az]),(1,.agg [.int .i64 bx,.int .i64 by_,.int .i64 bz]),(2,.int .i64 c)] []) Q
def kStraight_at (n u v:Int) (Q:AV -> Heap -> Prop):Prop:=Wp M1 (.run fi22 (atC (cd Try.f22) []) [(0,.int .i64 n),(1,.int .i64 u),(2,.int .i64 v)] []) Q
theorem call20 {args:List AV} {d:AV} (h:wc M1 fi20 Try.f20 args d):Ev M1 (.pure 20 args) d []:=pcl _ _ (by kernel_rfl) h
theorem call22 {args:List AV} {d:AV} (h:wc M1 fi22 Try.f22 args d):Ev M1 (.pure 22 args) d []:=pcl _ _ (by kernel_rfl) h
noncomputable abbrev zNzG1 (bx:Int) (by_:Int) (bz:Int):=ag [vi bx,vi by_,vi bz]
noncomputable abbrev zNzG2 (ax:Int) (ay:Int) (az:Int):=ag [vi ax,vi ay,vi az]
theorem kCorner (ax ay az bx by_ bz c:Int)  (dq:AV) (H :
  ((¬(0 <= c /\ c <= 1000000)) -> tu [vi 0,vi 1] = dq) /\
  (¬(¬(0 <= c /\ c <= 1000000)) -> (((¬Sp.inP ax ay az) \/ (¬Sp.inP bx by_ bz)) -> tu [vi 0,vi 11] = dq) /\
   (¬((¬Sp.inP ax ay az) \/ (¬Sp.inP bx by_ bz)) -> (Sp.inQ ax /\ Sp.inQ ay /\ Sp.inQ az) /\
    (Sp.inQ bx /\ Sp.inQ by_ /\ Sp.inQ bz) /\
    (((Sp.sqr ax ay az = 0) \/ (Sp.sqr bx by_ bz = 0)) -> tu [vi 0,vi 6] = dq) /\
    (¬((Sp.sqr ax ay az = 0) \/ (Sp.sqr bx by_ bz = 0)) -> (Sp.okCr ax ay az bx by_ bz (Sp.sqr ax ay az) (Sp.sqr bx by_ bz) c) /\
     tu [vi (Sp.corV ax ay az bx by_ bz (Sp.sqr ax ay az) (Sp.sqr bx by_ bz) c),vi 0] = dq)))) :
 kCorner_at ax ay az bx by_ bz c (PureQ dq):=by
 unfold kCorner_at
 refine path_wp (G:=given kp20 [(1,1,.call (vb (decide (0 <= c /\ c <= 1000000))) none)] []) 6 [] ⟨(atC (cd Try.f20) [1,0,0,1]),[(3,AV.ptr 0 0 0 0),(4,AV.ptr 1 0 0 0),(5,AV.ptr 2 0 0 0),(11,vb !decide (0 <= c /\ c <= 1000000))],[⟨[(zNzG2 ax ay az)],3,0,false,false⟩,⟨[(zNzG1 bx by_ bz)],3,0,false,false⟩,⟨[vi c],1,0,false,false⟩],_,[],_⟩ (by kernel_rfl) (bc rfl b0) q0 (ce (@ev27 (c) (0) (1000000)) c0) ?_
 rcases xm (¬(0 <= c /\ c <= 1000000)) with d2 | d2
 ·have H:=H.1 d2
  exact path_re (G:=given kp20 [] []) 1000 [true] (tu [vi 0,vi 1]) (by kernel_rfl) (bc (beq_t ((i_not i_dec).2 d2)) b0) q0 c0 H
 ·have H:=H.2 d2
  refine path_wp (G:=given kp20 [(3,1,.call (vb (decide ¬Sp.inP ax ay az)) none),(3,4,.call (vb (decide ¬Sp.inP bx by_ bz)) none)] []) 3 [false] ⟨(atC (cd Try.f20) [1,0,0,1,1,1]),[(3,AV.ptr 0 0 0 0),(4,AV.ptr 1 0 0 0),(5,AV.ptr 2 0 0 0),(15,vb (bif decide ¬Sp.inP ax ay az then true else decide ¬Sp.inP bx by_ bz))],[⟨[(zNzG2 ax ay az)],3,0,false,false⟩,⟨[(zNzG1 bx by_ bz)],3,0,false,false⟩,⟨[vi c],1,0,false,false⟩],[(!decide (0 <= c /\ c <= 1000000)) == false,true,!((decide ¬Sp.inP ax ay az) == false && true) || true],[],[⟨true,false,31,[(zNzG2 ax ay az)],[],vb (decide ¬Sp.inP ax ay az),[]⟩,⟨(decide ¬Sp.inP ax ay az) == false && true && true,false,31,[(zNzG1 bx by_ bz)],[],vb (decide ¬Sp.inP bx by_ bz),[]⟩]⟩ (by kernel_rfl) (bc (beq_f (fun h => d2 ((i_not i_dec).1 h))) (bc rfl (bc (Bool.or_true _) b0))) q0 (cc (fun _ => (@ev31 (ax) (ay) (az))) (cc (fun hc => ((@ev31 (bx) (by_) (bz)):Ev M1 (Conf.pure 31 [(zNzG1 bx by_ bz)]) (vb (decide ¬Sp.inP bx by_ bz)) [])) c0)) ?_
  rcases xm ((¬Sp.inP ax ay az) \/ (¬Sp.inP bx by_ bz)) with d5 | d5
  ·have H:=H.1 d5
   exact path_re (G:=given kp20 [] []) 1000 [true] (tu [vi 0,vi 11]) (by kernel_rfl) (bc (beq_t ((i_bor i_dec i_dec).2 d5)) b0) q0 c0 H
  ·have H:=H.2 d5
   obtain ⟨k6,H⟩:=H
   obtain ⟨k7,H⟩:=H
   refine path_wp (G:=given kp20 [(5,1,.call (vi (Sp.sqr ax ay az)) none),(5,3,.call (vi (Sp.sqr bx by_ bz)) none)] []) 4 [false] ⟨(atC (cd Try.f20) [1,1,0]),[(3,AV.ptr 0 0 0 0),(4,AV.ptr 1 0 0 0),(5,AV.ptr 2 0 0 0),(15,vb (bif decide ¬Sp.inP ax ay az then true else decide ¬Sp.inP bx by_ bz))],[⟨[(zNzG2 ax ay az)],3,0,false,false⟩,⟨[(zNzG1 bx by_ bz)],3,0,false,false⟩,⟨[vi c],1,0,false,false⟩],_,[],_⟩ (by kernel_rfl) (bc (beq_f (fun h => d5 ((i_bor i_dec i_dec).1 h))) b0) q0 c0 (wp_both (G:=given kp20 [(5,1,.call (vi (Sp.sqr ax ay az)) none),(5,3,.call (vi (Sp.sqr bx by_ bz)) none)] []) [0,1,2,4,3] 4 (e1:=[(3,AV.ptr 0 0 0 0),(4,AV.ptr 1 0 0 0),(5,AV.ptr 2 0 0 0),(8,AV.ptr 3 0 0 0),(9,AV.ptr 4 0 0 0)]) (L1:=[⟨[(zNzG2 ax ay az)],3,0,false,false⟩,⟨[(zNzG1 bx by_ bz)],3,0,false,false⟩,⟨[vi c],1,0,false,false⟩,⟨[vi (Sp.sqr ax ay az)],1,0,false,false⟩,⟨[vi (Sp.sqr bx by_ bz)],1,0,false,false⟩]) (a:=[true,true,true,true]) (q:=[]) (cs:=[⟨true,false,32,[(zNzG2 ax ay az)],[],vi (Sp.sqr ax ay az),[]⟩,⟨true,false,32,[(zNzG1 bx by_ bz)],[],vi (Sp.sqr bx by_ bz),[]⟩]) (by kernel_rfl) (by kernel_rfl) (allB_cons rfl (allB_cons rfl (allB_cons rfl (allB_cons rfl allB_nil)))) allP_nil (allC_cons (fun _ => (@ev32 (ax) (ay) (az) k6)) (allC_cons (fun _ => (@ev32 (bx) (by_) (bz) k7)) allC_nil)) ?_)
   rcases xm ((Sp.sqr ax ay az = 0) \/ (Sp.sqr bx by_ bz = 0)) with d9 | d9
   ·have H:=H.1 d9
    exact path_re (G:=given kp20 [] []) 1000 [true] (asm:=[true,!((Sp.sqr ax ay az == 0) == false && true) || true,(bif Sp.sqr ax ay az == 0 then true else Sp.sqr bx by_ bz == 0) == true]) (tu [vi 0,vi 6]) (by kernel_rfl) (bc rfl (bc (Bool.or_true _) (bc (beq_t ((i_bor i_eq i_eq).2 d9)) b0))) q0 c0 H
   ·have H:=H.2 d9
    obtain ⟨k10,H⟩:=H
    exact path_re (G:=given kp20 [(8,1,.call (vi (Sp.corV ax ay az bx by_ bz (Sp.sqr ax ay az) (Sp.sqr bx by_ bz) c)) none)] []) 1000 [false] (asm:=[true,!((Sp.sqr ax ay az == 0) == false && true) || true,(bif Sp.sqr ax ay az == 0 then true else Sp.sqr bx by_ bz == 0) == false,true,true,true,true,true]) (tu [vi (Sp.corV ax ay az bx by_ bz (Sp.sqr ax ay az) (Sp.sqr bx by_ bz) c),vi 0]) (by kernel_rfl) (bc rfl (bc (Bool.or_true _) (bc (beq_f (fun h => d9 ((i_bor i_eq i_eq).1 h))) (bc rfl (bc rfl (bc rfl (bc rfl (bc rfl b0)))))))) q0 (ce (@ev37_c (ax) (ay) (az) (bx) (by_) (bz) (Sp.sqr ax ay az) (Sp.sqr bx by_ bz) (c) k10) c0) H
theorem kStraight (n u v:Int)  (dq:AV) (H :
  ((((¬(0 <= n /\ n <= 100000000)) \/ (¬(1 <= u /\ u <= 1000000))) \/ (¬(1 <= v /\ v <= 100000000))) -> tu [vi 0,vi 1] = dq) /\
  (¬(((¬(0 <= n /\ n <= 100000000)) \/ (¬(1 <= u /\ u <= 1000000))) \/ (¬(1 <= v /\ v <= 100000000))) -> (Sp.inI n) /\
   (Sp.okSt u v (Sp.qi n)) /\
   tu [vi (Sp.strV u v (Sp.qi n)),vi 0] = dq)) :
 kStraight_at n u v (PureQ dq):=by
 unfold kStraight_at
 refine path_wp (G:=given kp22 [(1,1,.call (vb (decide (0 <= n /\ n <= 100000000))) none),(1,5,.call (vb (decide (1 <= u /\ u <= 1000000))) none),(1,10,.call (vb (decide (1 <= v /\ v <= 100000000))) none)] []) 5 [] ⟨(atC (cd Try.f22) [1,0,1]),[(0,vi n),(4,AV.ptr 0 0 0 0),(5,AV.ptr 1 0 0 0),(22,vb (bif bif !decide (0 <= n /\ n <= 100000000) then true else !decide (1 <= u /\ u <= 1000000) then true else !decide (1 <= v /\ v <= 100000000)))],[⟨[vi u],1,0,false,false⟩,⟨[vi v],1,0,false,false⟩],[!((!decide (0 <= n /\ n <= 100000000)) == false && true) || true,!((bif !decide (0 <= n /\ n <= 100000000) then true else !decide (1 <= u /\ u <= 1000000)) == false && true) || true],[],[⟨true,false,27,[vi n,vi 0,vi 100000000],[],vb (decide (0 <= n /\ n <= 100000000)),[]⟩,⟨(!decide (0 <= n /\ n <= 100000000)) == false && true && true,false,27,[vi u,vi 1,vi 1000000],[],vb (decide (1 <= u /\ u <= 1000000)),[]⟩,⟨(bif !decide (0 <= n /\ n <= 100000000) then true else !decide (1 <= u /\ u <= 1000000)) == false && true && true,false,27,[vi v,vi 1,vi 100000000],[],vb (decide (1 <= v /\ v <= 100000000)),[]⟩]⟩ (by kernel_rfl) (bc (Bool.or_true _) (bc (Bool.or_true _) b0)) q0 (cc (fun _ => (@ev27 (n) (0) (100000000))) (cc (fun hc => ((@ev27 (u) (1) (1000000)):Ev M1 (Conf.pure 27 [vi u,vi 1,vi 1000000]) (vb (decide (1 <= u /\ u <= 1000000))) [])) (cc (fun hc => ((@ev27 (v) (1) (100000000)):Ev M1 (Conf.pure 27 [vi v,vi 1,vi 100000000]) (vb (decide (1 <= v /\ v <= 100000000))) [])) c0))) ?_
 rcases xm (((¬(0 <= n /\ n <= 100000000)) \/ (¬(1 <= u /\ u <= 1000000))) \/ (¬(1 <= v /\ v <= 100000000))) with d4 | d4
 ·have H:=H.1 d4
  exact path_re (G:=given kp22 [] []) 1000 [true] (tu [vi 0,vi 1]) (by kernel_rfl) (bc (beq_t ((i_bor (i_bor (i_not i_dec) (i_not i_dec)) (i_not i_dec)).2 d4)) b0) q0 c0 H
 ·have H:=H.2 d4
  obtain ⟨k5,H⟩:=H
  obtain ⟨k6,H⟩:=H
  exact path_re (G:=given kp22 [(3,1,.call (ratA false false (Sp.qi n)) none),(4,1,.call (vi (Sp.strV u v (Sp.qi n))) none)] []) 1000 [false] (tu [vi (Sp.strV u v (Sp.qi n)),vi 0]) (by kernel_rfl) (bc (beq_f (fun h => d4 ((i_bor (i_bor (i_not i_dec) (i_not i_dec)) (i_not i_dec)).1 h))) (bc rfl (bc rfl (bc rfl (bc rfl b0))))) q0 (ce (@ev41 (n) k5) (ce (@ev37_s (false) (false) (u) (v) (Sp.qi n) k6) c0)) H
end Go.Av

namespace Go.Av
open Go.Proofs
namespace Sp
def corE (ax ay az bx by_ bz c:Int):Int:=if isV c then (if inP ax ay az /\ inP bx by_ bz then (if sqr ax ay az = 0 \/ sqr bx by_ bz = 0 then 6 else 0) else 11) else 1
noncomputable def cor (ax ay az bx by_ bz c:Int):Int:=if corE ax ay az bx by_ bz c = 0 then corV ax ay az bx by_ bz (sqr ax ay az) (sqr bx by_ bz) c else 0
def isSt (n u v:Int):Prop:=isLen n /\ (1 <= u /\ u <= 1000000) /\ isAcc v
end Sp
instance (n u v:Int):Decidable (Sp.isSt n u v):=by unfold Sp.isSt;infer_instance
namespace Sp
def strE (n u v:Int):Int:=if isSt n u v then 0 else 1
noncomputable def str (n u v:Int):Int:=if isSt n u v then strV u v (qi n) else 0
end Sp
theorem okCr_of {ax ay az bx by_ bz c:Int} (h1:Sp.isV c) (h2:Sp.inP ax ay az /\ Sp.inP bx by_ bz) (h3:¬(Sp.sqr ax ay az = 0 \/ Sp.sqr bx by_ bz = 0)):Sp.okCr ax ay az bx by_ bz (Sp.sqr ax ay az) (Sp.sqr bx by_ bz) c /\ (Sp.inQ ax /\ Sp.inQ ay /\ Sp.inQ az) /\ Sp.inQ bx /\ Sp.inQ by_ /\ Sp.inQ bz:=by
 have q:=h2
 unfold Sp.inP Sp.inM at q
 have qa:Sp.inQ ax /\ Sp.inQ ay /\ Sp.inQ az:=by unfold Sp.inQ;omega
 have qb:Sp.inQ bx /\ Sp.inQ by_ /\ Sp.inQ bz:=by unfold Sp.inQ;omega
 have a:=sqr_bound qa.1 qa.2.1 qa.2.2
 have b:=sqr_bound qb.1 qb.2.1 qb.2.2
 exact ⟨⟨h2.1,h2.2,by unfold Sp.okQ;omega,by unfold Sp.okQ;omega,h1⟩,qa,qb⟩
theorem ev20 (ax ay az bx by_ bz c:Int):Ev M1 (.pure 20 [.agg [.int .i64 ax,.int .i64 ay,.int .i64 az],.agg [.int .i64 bx,.int .i64 by_,.int .i64 bz],.int .i64 c]) (.tup [.int .i64 (Sp.cor ax ay az bx by_ bz c),.int .i64 (Sp.corE ax ay az bx by_ bz c)]) []:=by
 refine call20 (kCorner _ _ _ _ _ _ _ _ ⟨fun x => ?_,fun x => ⟨fun y => ?_,fun y => ?_⟩⟩)
 ·have e:Sp.corE ax ay az bx by_ bz c = 1:=if_neg x
  unfold Sp.cor;rw [e];rfl
 ·have x:Sp.isV c:=Classical.not_not.1 x
  have e:Sp.corE ax ay az bx by_ bz c = 11:=by unfold Sp.corE;rw [if_pos x,if_neg fun z => y.elim (fun w => w z.1) fun w => w z.2]
  unfold Sp.cor;rw [e];rfl
 ·have x:Sp.isV c:=Classical.not_not.1 x
  have y:Sp.inP ax ay az /\ Sp.inP bx by_ bz:=⟨Classical.not_not.1 fun z => y (.inl z),Classical.not_not.1 fun z => y (.inr z)⟩
  have q:=y
  unfold Sp.inP Sp.inM at q
  refine ⟨by unfold Sp.inQ;omega,by unfold Sp.inQ;omega,fun z => ?_,fun z => ?_⟩
  ·have e:Sp.corE ax ay az bx by_ bz c = 6:=by unfold Sp.corE;rw [if_pos x,if_pos y,if_pos z]
   unfold Sp.cor;rw [e];rfl
  ·have e:Sp.corE ax ay az bx by_ bz c = 0:=by unfold Sp.corE;rw [if_pos x,if_pos y,if_neg z]
   unfold Sp.cor;rw [e,if_pos rfl]
   exact ⟨(okCr_of x y z).1,rfl⟩
theorem ev22 (n u v:Int):Ev M1 (.pure 22 [.int .i64 n,.int .i64 u,.int .i64 v]) (.tup [.int .i64 (Sp.str n u v),.int .i64 (Sp.strE n u v)]) []:=by
 have e:(((¬(0 <= n /\ n <= 100000000)) \/ (¬(1 <= u /\ u <= 1000000))) \/ (¬(1 <= v /\ v <= 100000000))) ↔ ¬Sp.isSt n u v:=by unfold Sp.isSt Sp.isLen Sp.isAcc;omega
 refine call22 (kStraight _ _ _ _ ⟨fun x => ?_,fun x => ?_⟩)
 ·unfold Sp.str Sp.strE
  rw [if_neg (e.1 x),if_neg (e.1 x)]
 ·have y:=Classical.not_not.1 (mt e.2 x)
  unfold Sp.str Sp.strE
  rw [if_pos y,if_pos y]
  have z:=y.1
  unfold Sp.isLen at z
  have i:Sp.inI n:=by unfold Sp.inI;omega
  exact ⟨i,⟨y.2.1,y.2.2,okT_R (okT_int i) (by omega)⟩,rfl⟩
end Go.Av

namespace Go.Av
open Go.Proofs
set_option maxRecDepth 100000
def fi24:Fi:=⟨6,[.cell 2 54]⟩
def kp24:List (Nat × List Nat):=[(0,[0,2]),(1,[2])]
def kWhole_at (n:Int) (Q:AV -> Heap -> Prop):Prop:=Wp M1 (.run fi24 (atC (cd Try.f24) []) [(0,.int .i64 n)] []) Q
theorem call24 {args:List AV} {d:AV} (h:wc M1 fi24 Try.f24 args d):Ev M1 (.pure 24 args) d []:=pcl _ _ (by kernel_rfl) h
theorem kWhole (n:Int)  (dq:AV) (H :
  (Sp.inI n) /\
  Weak (ratA false false (Sp.qi n)) dq) :
 kWhole_at n (PureQ dq):=by
 unfold kWhole_at
 obtain ⟨k1,H⟩:=H
 exact path_rq (G:=given kp24 [(1,1,.call (bigA false n) none),(1,2,.call (ratA false false (Sp.qi n)) none)] []) 1000 [] (ratA false false (Sp.qi n)) (by kernel_rfl) (bc rfl b0) q0 (ce (@ev49 (n) k1) (ce (@ev48 (false) (n)) c0)) H
end Go.Av

namespace Go.Av
open Go.Proofs
theorem ev24 (n:Int) (h:Sp.inI n):Ev M1 (.pure 24 [.int .i64 n]) (ratA false false (Sp.qi n)) []:=
 call24 (kWhole _ _ ⟨h,.refl _⟩)
theorem qf_lt {i j d:Int} (hd:0 < d) (h:i < j):Sp.qf i d < Sp.qf j d:=by
 rw [qf_div _ hd,qf_div _ hd,Rat.div_def,Rat.div_def]
 have p:0 < Sp.qi d:=qi_pos (by omega)
 have e:Sp.qi d * (Sp.qi d)⁻¹ = 1:=Rat.mul_inv_cancel _ (by grind)
 have k:Sp.qi i < Sp.qi j:=by rw [qi_eq,qi_eq];exact Rat.intCast_lt_intCast.2 h
 have q:0 < (Sp.qi d)⁻¹:=by
  rcases tri ((Sp.qi d)⁻¹) with t | t | t
  ·have:=mul_pp p (show 0 < -(Sp.qi d)⁻¹ by grind);grind
  ·rw [t] at e;grind
  ·exact t
 have:=mul_pp (show 0 < Sp.qi j - Sp.qi i by grind) q
 grind
theorem qf_zero (d:Int):Sp.qf 0 d = 0:=by rw [qf_eq];exact Rat.zero_divInt d
theorem qf_nn {i d:Int} (hd:0 < d) (h:0 <= i):0 <= Sp.qf i d:=by
 rcases Int.lt_or_eq_of_le h with k | k
 ·have:=qf_lt hd k;rw [qf_zero] at this;grind
 ·rw [<- k,qf_zero];grind
theorem reR_lt {i j v a:Int} (hv:1 <= v) (ha:1 <= a) (h0:0 <= i) (h:i < j):Sp.reR i v a < Sp.reR j v a:=
 rch_lt (qi_pos ha) (qi_pos hv) (qf_nn (by omega) h0) (qf_lt (by omega) h)
theorem reR_le {i j v a:Int} (hv:1 <= v) (ha:1 <= a) (h0:0 <= i) (h:i <= j):Sp.reR i v a <= Sp.reR j v a:=by
 rcases Int.lt_or_eq_of_le h with k | k
 ·have:=reR_lt hv ha h0 k;grind
 ·rw [k];grind
theorem ex_fast:Sp.fastV 0 500 1000 = 1000 /\ Sp.fastE 0 500 1000 = 0:=by
 have h:Sp.isV 0 /\ Sp.isLen 500 /\ Sp.isAcc 1000:=by unfold Sp.isV Sp.isLen Sp.isAcc;omega
 unfold Sp.fastV Sp.fastE
 rw [if_pos h,if_pos h]
 exact ⟨(sq_unique (by decide) (by decide) (by decide)).symm,rfl⟩
def exL:List Pt:=[⟨500,2000,600⟩,⟨500,2000,2000⟩]
theorem ex_valid:Sp.validE exL 1000 = 0:=by
 have h:Sp.okPts exL 1000:=⟨by unfold Sp.isAcc;omega,fun p hp => by
  simp only [exL,List.mem_cons,List.not_mem_nil,or_false] at hp
  rcases hp with rfl | rfl <;> (unfold Sp.okPt Sp.isLen Sp.isV;decide)⟩
 unfold Sp.validE
 rw [if_neg (by decide),if_pos h]
theorem ex_spds:Sp.spdV exL 1000 = [0,600,0]:=by
 rw [show Sp.spdV exL 1000 = Sp.spds exL 1000 from if_pos ex_valid]
 have e:Sp.sq (0 * 0 + 2 * 1000 * 500) = 1000:=(sq_unique (by decide) (by decide) (by decide)).symm
 have f1:Sp.spF exL 1000 1 = 600:=by
  show min (min (min (2000:Int) 600) 2000) (Sp.sq (0 * 0 + 2 * 1000 * 500)) = 600
  rw [e];decide
 have g1:Sp.spAt exL 1000 1 = 600:=by
  show min (Sp.spF exL 1000 1) (Sp.sq (0 * 0 + 2 * 1000 * 500)) = 600
  rw [e,f1];decide
 show [Sp.spAt exL 1000 0,Sp.spAt exL 1000 1,Sp.spAt exL 1000 exL.length] = _
 rw [spAt_zero,g1,spAt_end]
theorem qi1:Sp.qi 1 = 1:=by rw [qi_eq];rfl
theorem sgR_le {a:Rat}:Sp.sgR a <= 0 ↔ a <= 0:=by
 rcases tri a with k | k | k
 ·rw [sgR_neg k];constructor
  ·intro _;grind
  ·intro _;omega
 ·subst k;rw [sgR_zero];constructor
  ·intro _;grind
  ·intro _;omega
 ·rw [sgR_pos k];constructor
  ·intro h;omega
  ·intro h;grind
theorem alw_ex {v x y:Int} (h:x * y = 0) (k:Sp.alwA x y 1 1 = Sp.qi (x * x + y * y)):Sp.alw v x y 1 1 500 = decide ((x * x + y * y) * (v * v) <= 250000):=by
 have t:Sp.alwT x y * (Sp.qi v * Sp.qi v) = Sp.qi 0:=by
  unfold Sp.alwT
  rw [qi_mul x y,h,qi_0];grind
 unfold Sp.alw
 rw [t,sgO_b0,k,qi_mul,qi_mul,qi_mul]
 refine dec_iff ?_
 rw [sgR_le]
 have e:Sp.qi ((x * x + y * y) * (v * v)) + -Sp.qi (500 * 500) <= 0 ↔ Sp.qi ((x * x + y * y) * (v * v)) <= Sp.qi (500 * 500):=by constructor <;> intro _ <;> grind
 rw [e,qi_eq,qi_eq,Rat.intCast_le_intCast]
 exact Iff.rfl
theorem qf1 (n:Int):Sp.qf n 1 = Sp.qi n:=by rw [qf_div n (by omega),qi1,Rat.div_def];grind
theorem ex_cor:Sp.cor 1 0 0 0 1 0 500 = 500 /\ Sp.corE 1 0 0 0 1 0 500 = 0:=by
 have e:Sp.corE 1 0 0 0 1 0 500 = 0:=by
  unfold Sp.corE
  rw [if_pos (by unfold Sp.isV;omega),if_pos (by unfold Sp.inP Sp.inM;omega),if_neg (by decide)]
 refine ⟨?_,e⟩
 unfold Sp.cor
 rw [if_pos e]
 show Sp.corV 1 0 0 0 1 0 1 1 500 = 500
 have p:∀ i:Int,0 <= i -> Sp.corP 1 0 0 0 1 0 1 1 500 i = decide (500 <= i):=by
  intro i hi
  have a1:Sp.alwA 1 0 1 1 = Sp.qi (1 * 1 + 0 * 0):=by unfold Sp.alwA;rw [qf1,qf1];show Sp.qi 1 + Sp.qi 0 = Sp.qi 1;rw [qi_0];grind
  have a2:Sp.alwA 0 1 1 1 = Sp.qi (0 * 0 + 1 * 1):=by unfold Sp.alwA;rw [qf1,qf1];show Sp.qi 0 + Sp.qi 1 = Sp.qi 1;rw [qi_0];grind
  have a3:Sp.alwA 0 0 1 1 = Sp.qi (0 * 0 + 0 * 0):=by unfold Sp.alwA;rw [qf1];show Sp.qi 0 + Sp.qi 0 = Sp.qi 0;rw [qi_0];grind
  have s1:(1 * 1 + 0 * 0:Int) * ((i + 1) * (i + 1)) <= 250000 ↔ ¬500 <= i:=by
   have m1:500 <= i -> 501 * 501 <= (i + 1) * (i + 1):=fun k => sq_le_sq (by omega) (by omega)
   have m2:¬500 <= i -> (i + 1) * (i + 1) <= 500 * 500:=fun k => sq_le_sq (by omega) (by omega)
   omega
  have s2:(0 * 0 + 1 * 1:Int) * ((i + 1) * (i + 1)) <= 250000 ↔ ¬500 <= i:=s1
  have s3:(0 * 0 + 0 * 0:Int) * ((i + 1) * (i + 1)) <= 250000 ↔ True:=by
   rw [show (0 * 0 + 0 * 0:Int) = 0 from rfl,Int.zero_mul];decide
  unfold Sp.corP
  rw [alw_ex (by decide) a1,alw_ex (by decide) a2,alw_ex (by decide) a3,dec_iff s1,dec_iff s2,dec_iff s3]
  by_cases k:500 <= i <;> simp [k]
 obtain ⟨r0,r1,r2,r3⟩:=bs_all (p:=Sp.corP 1 0 0 0 1 0 1 1 500) (h:=1000000) (by decide) (by decide)
 unfold Sp.corV
 generalize Sp.bs (Sp.corP 1 0 0 0 1 0 1 1 500) 40 0 1000000 = r at *
 rw [p r r0] at r3
 have r2':r = 0 \/ ¬500 <= r - 1:=by
  rcases r2 with k | k
  ·exact .inl k
  ·by_cases z:r = 0
   ·exact .inl z
   ·rw [p (r - 1) (by omega)] at k
    exact .inr (of_decide_eq_false k)
 have r3':r = 1000000 \/ 500 <= r:=r3.imp id of_decide_eq_true
 omega
theorem ex_re:Sp.reR 2000 1000 1000 = Sp.qi 1000:=by
 have t:Sp.qf 2000 1000 = 2:=by rw [qf_eq];decide +kernel
 have e:Sp.qi 1000 = 1000:=by rw [qi_eq];rfl
 have i:(1000:Rat) * 1000⁻¹ = 1:=Rat.mul_inv_cancel _ (by decide +kernel)
 unfold Sp.reR Sp.rch
 rw [t,e,if_pos (by decide +kernel),Rat.div_def]
 grind
theorem ex_okRe:Sp.okRe 2000 1000 1000:=by unfold Sp.okRe Sp.isAcc;omega
theorem ex_str:Sp.str 1000 1000 1000 = 2000 /\ Sp.strE 1000 1000 1000 = 0:=by
 have h:Sp.isSt 1000 1000 1000:=by unfold Sp.isSt Sp.isLen Sp.isAcc;omega
 unfold Sp.str Sp.strE
 rw [if_pos h,if_pos h]
 refine ⟨?_,rfl⟩
 obtain ⟨r0,r1,r2,r3⟩:=bs_all (p:=Sp.strP 1000 1000 (Sp.qi 1000)) (h:=1000000000000) (by decide) (by decide)
 unfold Sp.strV
 generalize Sp.bs (Sp.strP 1000 1000 (Sp.qi 1000)) 40 0 1000000000000 = r at *
 unfold Sp.strP at r2 r3
 have a:¬r < 2000:=fun k => by
  rcases r3 with z | z
  ·omega
  ·have:=of_decide_eq_true z
   have:=reR_lt (v:=1000) (a:=1000) (by omega) (by omega) r0 k
   rw [ex_re] at this
   grind
 have b:¬2000 < r:=fun k => by
  rcases r2 with z | z
  ·omega
  ·have:=of_decide_eq_false z
   have:=reR_le (v:=1000) (a:=1000) (i:=2000) (j:=r - 1) (by omega) (by omega) (by omega) (by omega)
   rw [ex_re] at this
   grind
 omega
end Go.Av

namespace Go.Av
open Go.Proofs
set_option maxRecDepth 100000
def fi7:Fi:=⟨76,[.tmp 0]⟩
def kp7:List (Nat × List Nat):=[(0,[]),(1,[1,2]),(2,[1,2,3,4]),(3,[1,2,3,4,5,6]),(4,[1,2,3,4,5,6,7,8]),(5,[1,2,3,4,5,6,7,8,9,10]),(6,[0])]
def kAwake_at  (Q:AV -> Heap -> Prop):Prop:=Wp M1 (.run fi7 (atC (cd Try.f7) []) [] []) Q
theorem call7 {args:List AV} {d:AV} (h:wc M1 fi7 Try.f7 args d):Ev M1 (.pure 7 args) d []:=pcl _ _ (by kernel_rfl) h
noncomputable abbrev zNzJ1:=ag [vb (Sp.isNeg (Sp.reR 2000 1000 1000).num),vf (us (Sp.limI (Sp.reR 2000 1000 1000).num)),vb false,vf (us (Sp.limI (↑(Sp.reR 2000 1000 1000).den:Int)))]
noncomputable abbrev zNzJ2 (n1:Int) (b3:Bool):=bif bif bif bif bif bif n1 == 0 then true else false then false else false then true else false then Sp.fastV 0 500 1000 == 1000 else false then b3 else false then Sp.cor 1 0 0 0 1 0 500 == 500 else false
noncomputable abbrev zNzJ3 (n1:Int) (b1:Bool):=bif bif bif bif bif bif n1 == 0 then true else false then true else false then true else false then Sp.fastV 0 500 1000 == 1000 else false then b1 else false then Sp.cor 1 0 0 0 1 0 500 == 500 else false
noncomputable abbrev zNzJ4:=ag [vb false,vf [],vb false,vf []]
noncomputable abbrev zNzJ5:=tu [vi (Sp.cor 1 0 0 0 1 0 500),vi 0]
noncomputable abbrev zNzJ6:=tu [vi (Sp.str 1000 1000 1000),vi 0]
noncomputable abbrev zNzJ7:=tu [vi (Sp.fastV 0 500 1000),vi 0]
noncomputable abbrev zNzJ8 (l1:List (Int)) (n1:Int):=tu [vf (List.map (vi) l1),vi n1]
theorem kAwake   (dq:AV) (H :
  ∃ (l1:List (Int)) (n1:Int),
  (Ev M1 (Conf.pure 8 [AV.vec true 3 [ag [vi 500,vi 2000,vi 600],ag [vi 500,vi 2000,vi 2000]],vi 1000]) (tu [vf (List.map (vi) l1),vi n1]) []) /\
  ((Sp.okRe 2000 1000 1000) -> ∃ (b1:Bool),
   ((((((n1 = 0) \/ (false = true)) \/ (false = true)) \/ (false = true)) /\ (Sp.fastV 0 500 1000 = 1000)) -> (Ev M1 (Conf.pure 13 [vf (List.map (vi) l1),AV.vec true 1 [vi 0,vi 600,vi 0]]) (vb b1) [])) /\
   ((((((((n1 = 0) \/ (false = true)) \/ (false = true)) \/ (false = true)) /\ (Sp.fastV 0 500 1000 = 1000)) /\ (b1 = true)) /\ (Sp.cor 1 0 0 0 1 0 500 = 500)) -> (Sp.inI 1000)) /\
   ∃ (b2:Bool),
   ((((((((n1 = 0) \/ (false = true)) \/ (false = true)) \/ (false = true)) /\ (Sp.fastV 0 500 1000 = 1000)) /\ (b1 = true)) /\ (Sp.cor 1 0 0 0 1 0 500 = 500)) -> (Ev M1 (Conf.pure 23 [ag [vb (Sp.isNeg (Sp.reR 2000 1000 1000).num),vf (us (Sp.limI (Sp.reR 2000 1000 1000).num)),vb false,vf (us (Sp.limI (↑(Sp.reR 2000 1000 1000).den:Int)))],ratA false false (Sp.qi 1000)]) (vb b2) [])) /\
   vb (bif bif bif bif bif bif bif bif n1 == 0 then true else false then true else false then true else false then Sp.fastV 0 500 1000 == 1000 else false then b1 else false then Sp.cor 1 0 0 0 1 0 500 == 500 else false then b2 else false then Sp.str 1000 1000 1000 == 2000 else false) = dq) /\
  (¬(Sp.okRe 2000 1000 1000) -> ∃ (b3:Bool),
   ((((((n1 = 0) \/ (false = true)) /\ (false = true)) \/ (false = true)) /\ (Sp.fastV 0 500 1000 = 1000)) -> (Ev M1 (Conf.pure 13 [vf (List.map (vi) l1),AV.vec true 1 [vi 0,vi 600,vi 0]]) (vb b3) [])) /\
   ((((((((n1 = 0) \/ (false = true)) /\ (false = true)) \/ (false = true)) /\ (Sp.fastV 0 500 1000 = 1000)) /\ (b3 = true)) /\ (Sp.cor 1 0 0 0 1 0 500 = 500)) -> (Sp.inI 1000)) /\
   ∃ (b4:Bool),
   ((((((((n1 = 0) \/ (false = true)) /\ (false = true)) \/ (false = true)) /\ (Sp.fastV 0 500 1000 = 1000)) /\ (b3 = true)) /\ (Sp.cor 1 0 0 0 1 0 500 = 500)) -> (Ev M1 (Conf.pure 23 [ag [vb false,vf [],vb false,vf []],ratA false false (Sp.qi 1000)]) (vb b4) [])) /\
   vb (bif bif bif bif bif bif bif bif n1 == 0 then true else false then false else false then true else false then Sp.fastV 0 500 1000 == 1000 else false then b3 else false then Sp.cor 1 0 0 0 1 0 500 == 500 else false then b4 else false then Sp.str 1000 1000 1000 == 2000 else false) = dq)) :
 kAwake_at  (PureQ dq):=by
 unfold kAwake_at
 obtain ⟨l1,n1,H⟩:=H
 obtain ⟨k1,H⟩:=H
 rcases xm (Sp.okRe 2000 1000 1000) with d2 | d2
 ·have H:=H.1 d2
  obtain ⟨b1,H⟩:=H
  obtain ⟨k4,H⟩:=H
  obtain ⟨k6,H⟩:=H
  obtain ⟨b2,H⟩:=H
  obtain ⟨k8,H⟩:=H
  exact path_re (G:=given kp7 [(1,0,.call (zNzJ7) none),(2,3,.call ((zNzJ8 l1 n1)) none),(3,2,.call (zNzJ5) none),(4,0,.call (tu [zNzJ1,vi 0]) none),(5,0,.call (zNzJ6) none),(6,25,.call (vb b1) none),(6,33,.call (ratA false false (Sp.qi 1000)) none),(6,34,.call (vb b2) none)] []) 1000 [] (asm:=[true,!((zNzJ3 n1 b1) == true && true) || true]) (calls:=[⟨true,false,14,[vi 0,vi 500,vi 1000],[],zNzJ7,[]⟩,⟨true,false,8,[AV.vec true 3 [ag [vi 500,vi 2000,vi 600],ag [vi 500,vi 2000,vi 2000]],vi 1000],[],(zNzJ8 l1 n1),[]⟩,⟨true,false,20,[ag [vi 1,vi 0,vi 0],ag [vi 0,vi 1,vi 0],vi 500],[],zNzJ5,[]⟩,⟨true,false,21,[vi 2000,vi 1000,vi 1000],[],tu [zNzJ1,vi 0],[]⟩,⟨true,false,22,[vi 1000,vi 1000,vi 1000],[],zNzJ6,[]⟩,⟨(bif bif bif bif n1 == 0 then true else false then true else false then true else false then Sp.fastV 0 500 1000 == 1000 else false) == true && true && true,false,13,[vf (List.map (vi) l1),AV.vec true 1 [vi 0,vi 600,vi 0]],[],vb b1,[]⟩,⟨(zNzJ3 n1 b1) == true && true && true,false,24,[vi 1000],[],ratA false false (Sp.qi 1000),[]⟩,⟨(zNzJ3 n1 b1) == true && true && true,false,23,[zNzJ1,ratA false false (Sp.qi 1000)],[],vb b2,[]⟩]) (vb (bif bif bif bif bif bif bif bif n1 == 0 then true else false then true else false then true else false then Sp.fastV 0 500 1000 == 1000 else false then b1 else false then Sp.cor 1 0 0 0 1 0 500 == 500 else false then b2 else false then Sp.str 1000 1000 1000 == 2000 else false)) (by kernel_rfl) (bc rfl (bc (Bool.or_true _) b0)) q0 (cc (fun _ => (@ev14 (0) (500) (1000))) (cc (fun _ => k1) (cc (fun _ => (@ev20 (1) (0) (0) (0) (1) (0) (500))) (cc (fun _ => (@ev21_y (2000) (1000) (1000) d2)) (cc (fun _ => (@ev22 (1000) (1000) (1000))) (cc (fun hc => ((k4 ((i_at (i_at (i_bt (i_band (i_bor (i_bor (i_bor i_eq (i_var _)) (i_var _)) (i_var _)) i_eq)))).1 hc)):Ev M1 (Conf.pure 13 [vf (List.map (vi) l1),AV.vec true 1 [vi 0,vi 600,vi 0]]) (vb b1) [])) (cc (fun hc => ((@ev24 (1000) (k6 ((i_at (i_at (i_bt (i_band (i_band (i_band (i_bor (i_bor (i_bor i_eq (i_var _)) (i_var _)) (i_var _)) i_eq) (i_var _)) i_eq)))).1 hc))):Ev M1 (Conf.pure 24 [vi 1000]) (ratA false false (Sp.qi 1000)) [])) (cc (fun hc => ((k8 ((i_at (i_at (i_bt (i_band (i_band (i_band (i_bor (i_bor (i_bor i_eq (i_var _)) (i_var _)) (i_var _)) i_eq) (i_var _)) i_eq)))).1 hc)):Ev M1 (Conf.pure 23 [zNzJ1,ratA false false (Sp.qi 1000)]) (vb b2) [])) c0)))))))) H
 ·have H:=H.2 d2
  obtain ⟨b3,H⟩:=H
  obtain ⟨k10,H⟩:=H
  obtain ⟨k12,H⟩:=H
  obtain ⟨b4,H⟩:=H
  obtain ⟨k14,H⟩:=H
  exact path_re (G:=given kp7 [(1,0,.call (zNzJ7) none),(2,3,.call ((zNzJ8 l1 n1)) none),(3,2,.call (zNzJ5) none),(4,0,.call (tu [zNzJ4,vi 1]) none),(5,0,.call (zNzJ6) none),(6,25,.call (vb b3) none),(6,33,.call (ratA false false (Sp.qi 1000)) none),(6,34,.call (vb b4) none)] []) 1000 [] (asm:=[true,!((zNzJ2 n1 b3) == true && true) || true]) (calls:=[⟨true,false,14,[vi 0,vi 500,vi 1000],[],zNzJ7,[]⟩,⟨true,false,8,[AV.vec true 3 [ag [vi 500,vi 2000,vi 600],ag [vi 500,vi 2000,vi 2000]],vi 1000],[],(zNzJ8 l1 n1),[]⟩,⟨true,false,20,[ag [vi 1,vi 0,vi 0],ag [vi 0,vi 1,vi 0],vi 500],[],zNzJ5,[]⟩,⟨true,false,21,[vi 2000,vi 1000,vi 1000],[],tu [zNzJ4,vi 1],[]⟩,⟨true,false,22,[vi 1000,vi 1000,vi 1000],[],zNzJ6,[]⟩,⟨(bif bif bif bif n1 == 0 then true else false then false else false then true else false then Sp.fastV 0 500 1000 == 1000 else false) == true && true && true,false,13,[vf (List.map (vi) l1),AV.vec true 1 [vi 0,vi 600,vi 0]],[],vb b3,[]⟩,⟨(zNzJ2 n1 b3) == true && true && true,false,24,[vi 1000],[],ratA false false (Sp.qi 1000),[]⟩,⟨(zNzJ2 n1 b3) == true && true && true,false,23,[zNzJ4,ratA false false (Sp.qi 1000)],[],vb b4,[]⟩]) (vb (bif bif bif bif bif bif bif bif n1 == 0 then true else false then false else false then true else false then Sp.fastV 0 500 1000 == 1000 else false then b3 else false then Sp.cor 1 0 0 0 1 0 500 == 500 else false then b4 else false then Sp.str 1000 1000 1000 == 2000 else false)) (by kernel_rfl) (bc rfl (bc (Bool.or_true _) b0)) q0 (cc (fun _ => (@ev14 (0) (500) (1000))) (cc (fun _ => k1) (cc (fun _ => (@ev20 (1) (0) (0) (0) (1) (0) (500))) (cc (fun _ => (@ev21_n (2000) (1000) (1000) d2)) (cc (fun _ => (@ev22 (1000) (1000) (1000))) (cc (fun hc => ((k10 ((i_at (i_at (i_bt (i_band (i_bor (i_band (i_bor i_eq (i_var _)) (i_var _)) (i_var _)) i_eq)))).1 hc)):Ev M1 (Conf.pure 13 [vf (List.map (vi) l1),AV.vec true 1 [vi 0,vi 600,vi 0]]) (vb b3) [])) (cc (fun hc => ((@ev24 (1000) (k12 ((i_at (i_at (i_bt (i_band (i_band (i_band (i_bor (i_band (i_bor i_eq (i_var _)) (i_var _)) (i_var _)) i_eq) (i_var _)) i_eq)))).1 hc))):Ev M1 (Conf.pure 24 [vi 1000]) (ratA false false (Sp.qi 1000)) [])) (cc (fun hc => ((k14 ((i_at (i_at (i_bt (i_band (i_band (i_band (i_bor (i_band (i_bor i_eq (i_var _)) (i_var _)) (i_var _)) i_eq) (i_var _)) i_eq)))).1 hc)):Ev M1 (Conf.pure 23 [zNzJ4,ratA false false (Sp.qi 1000)]) (vb b4) [])) c0)))))))) H
end Go.Av

namespace Go.Av
open Go.Proofs
theorem ev7:Ev M1 (.pure 7 []) (.bool true) []:=by
 have s:=ev8 true exL 1000
 rw [ex_valid,ex_spds] at s
 have q:=ev13 false true [0,600,0] [0,600,0] (by decide)
 rw [decide_eq_true rfl] at q
 have k:=ev23 false false false false (Sp.reR 2000 1000 1000) (Sp.qi 1000) ⟨okT_R (okT_re ex_okRe) (by omega),okT_R (okT_int (by unfold Sp.inI;omega)) (by omega)⟩
 rw [decide_eq_true ex_re] at k
 refine call7 (kAwake _ ⟨[0,600,0],0,s,fun _ => ⟨true,fun _ => q,fun _ => by unfold Sp.inI;omega,true,fun _ => k,?_⟩,fun x => absurd ex_okRe x⟩)
 rw [ex_fast.1,ex_cor.1,ex_str.1]
 rfl
end Go.Av

namespace Go.Av
open Go.Proofs
set_option maxRecDepth 100000
def fi4:Fi:=⟨67,[.tmp 6]⟩
def kp4:List (Nat × List Nat):=[(0,[3,4,5]),(1,[3,4,5,16]),(2,[6]),(3,[3,4,5,7,8]),(4,[4,5,7,8,9,10]),(5,[4,5,7,8,9,10,11,12]),(6,[7,8,9,10,11,12,13,14]),(7,[6])]
def lFaster_at (n u v ax ay az bx by_ bz:Int) (Q:AV -> Heap -> Prop):Prop:=Wp M1 (.run fi4 (atC (cd Try.f4) []) [(0,.agg [.int .i64 n,.int .i64 u,.int .i64 v]),(1,.agg [.int .i64 ax,.int .i64 ay,.int .i64 az]),(2,.agg [.int .i64 bx,.int .i64 by_,.int .i64 bz])] []) Q
theorem call4 {args:List AV} {d:AV} (h:wc M1 fi4 Try.f4 args d):Ev M1 (.pure 4 args) d []:=pcl _ _ (by kernel_rfl) h
theorem lFaster (n u v ax ay az bx by_ bz:Int)  (dq:AV) (H :
  vb (bif bif bif Sp.fastV n u v == Sp.fastV n u v then Sp.fastE n u v == Sp.fastE n u v else false then Sp.dist ax ay az bx by_ bz == Sp.dist ax ay az bx by_ bz else false then Sp.distE ax ay az bx by_ bz == Sp.distE ax ay az bx by_ bz else false) = dq) :
 lFaster_at n u v ax ay az bx by_ bz (PureQ dq):=by
 unfold lFaster_at
 exact path_re (G:=given kp4 [(1,0,.call (vb true) none),(3,6,.call (tu [vi (Sp.fastV n u v),vi (Sp.fastE n u v)]) none),(4,6,.call (tu [vi (Sp.fastV n u v),vi (Sp.fastE n u v)]) none),(5,2,.call (tu [vi (Sp.dist ax ay az bx by_ bz),vi (Sp.distE ax ay az bx by_ bz)]) none),(6,2,.call (tu [vi (Sp.dist ax ay az bx by_ bz),vi (Sp.distE ax ay az bx by_ bz)]) none)] []) 1000 [false] (vb (bif bif bif Sp.fastV n u v == Sp.fastV n u v then Sp.fastE n u v == Sp.fastE n u v else false then Sp.dist ax ay az bx by_ bz == Sp.dist ax ay az bx by_ bz else false then Sp.distE ax ay az bx by_ bz == Sp.distE ax ay az bx by_ bz else false)) (by kernel_rfl) (bc rfl (bc rfl (bc rfl (bc rfl (bc rfl (bc rfl (bc rfl (bc rfl (bc rfl (bc rfl (bc rfl (bc rfl (bc rfl (bc rfl (bc rfl (bc rfl (bc rfl (bc rfl (bc rfl (bc rfl (bc rfl (bc rfl (bc rfl b0))))))))))))))))))))))) q0 (ce (@ev7 ) (ce (@ev14 (n) (u) (v)) (ce (@ev15 (n) (u) (v)) (ce (@ev16 (ax) (ay) (az) (bx) (by_) (bz)) (ce (@ev17 (ax) (ay) (az) (bx) (by_) (bz)) c0))))) H
end Go.Av

namespace Go.Av
open Go.Proofs
theorem ev4 (n u v ax ay az bx by_ bz:Int):Ev M1 (.pure 4 [.agg [.int .i64 n,.int .i64 u,.int .i64 v],.agg [.int .i64 ax,.int .i64 ay,.int .i64 az],.agg [.int .i64 bx,.int .i64 by_,.int .i64 bz]]) (.bool true) []:=
 call4 (lFaster _ _ _ _ _ _ _ _ _ _ (by simp only [beq_self_eq_true,cond_true]))
end Go.Av
