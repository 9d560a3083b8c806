/- PART 5 of the texts of a claim, joined by a program: what each part shows stands at its head. -/
import Derived.Test.YtojapcnhajomcaaPart546c0848ec
import Derived.RangeFuncIn

namespace Go.Av
open Go.Proofs
set_option maxRecDepth 100000
def fi67:Fi:=⟨79,[]⟩
def kp67:List (Nat × List Nat):=[(0,[0,1,2,19]),(1,[0,1,2,27]),(2,[]),(3,[0,1,2,41,42]),(4,[0,1,2,41,42,43]),(5,[0,1,2,6,41,42]),(6,[0,1,2,6,41,42,48]),(7,[0,1,2,41,42]),(8,[0,1,2,41,42])]
def tv38n_at (fl:Bool) (gs:List G2) (o:List Int) (sum le:Int) (v:Nat) (Q:AV -> Heap -> Prop):Prop:=Wp M1 (.run fi67 (atC (cd Try.f67) []) [(0,.ptr 0 0 0 0),(1,.row 1 v),(2,.int .i64 sum)] [⟨[.agg [.vec fl 2 (gs.map G2.a),.vnil,.int .i64 le]],3,0,false,false⟩,⟨o.map (.int .i64),1,v,false,true⟩]) Q
def tv38s_at (fl:Bool) (gs:List G2) (o:List Int) (sum le:Int) (v:Nat) (fb:Bool) (x:Int) (l:List Int) (Q:AV -> Heap -> Prop):Prop:=Wp M1 (.run fi67 (atC (cd Try.f67) []) [(0,.ptr 0 0 0 0),(1,.row 1 v),(2,.int .i64 sum)] [⟨[.agg [.vec fl 2 (gs.map G2.a),.vec fb 1 ((x :: l).map (.int .i64)),.int .i64 le]],3,0,false,false⟩,⟨o.map (.int .i64),1,v,false,true⟩]) Q
def tv38na_at (fl:Bool) (gs:List G2) (o:List Int) (sum le:Int) (v:Nat) (n i:Int) (Q:AV -> Heap -> Prop):Prop:=Wp M1 (.run fi67 (atC (cd Try.f67) [1,1,1,0,0]) [(0,.ptr 0 0 0 0),(1,.row 1 v),(2,.int .i64 sum),(41,.int .i64 n),(42,.int .i64 i)] [⟨[.agg [.vec fl 2 (gs.map G2.a),.vnil,.int .i64 le]],3,0,false,false⟩,⟨o.map (.int .i64),1,v,false,true⟩]) Q
def tv38sa_at (fl:Bool) (gs:List G2) (o:List Int) (sum le:Int) (v:Nat) (n i:Int) (fb:Bool) (x:Int) (l:List Int) (Q:AV -> Heap -> Prop):Prop:=Wp M1 (.run fi67 (atC (cd Try.f67) [1,1,1,0,0]) [(0,.ptr 0 0 0 0),(1,.row 1 v),(2,.int .i64 sum),(41,.int .i64 n),(42,.int .i64 i)] [⟨[.agg [.vec fl 2 (gs.map G2.a),.vec fb 1 ((x :: l).map (.int .i64)),.int .i64 le]],3,0,false,false⟩,⟨o.map (.int .i64),1,v,false,true⟩]) Q
theorem keepcall67 {args:List AV} {L:Heap} {v:AV} {K:Heap} (hk:keepOk L.length v K = true) (h:Wp M1 (.run fi67 [.code (cd Try.f67)] (argVars 0 args) L) (KeepQ v K)):Ev M1 (.own 67 args L) v K:=
 own_keep Try.f67 fi67 (by kernel_rfl) (by kernel_rfl) (by kernel_rfl) (by kernel_rfl) hk h
theorem tv38n (fl:Bool) (gs:List G2) (o:List Int) (sum le:Int) (v:Nat)  (dv:AV) (dK:Heap) (hk:keepOk 2 dv dK = true) (H :
  (((↑o.length:Int) = (↑gs.length:Int)) -> (o.length <= 1000000) /\
   (KeepQ dv dK) (AV.tup []) [{ elems:=[AV.agg [AV.vec fl 2 (List.map G2.a gs),AV.vec false 1 (List.map (AV.int IntKind.i64) o),AV.int IntKind.i64 sum]],es:=3,ver:=0,frozen:=false,clean:=false },{ elems:=List.map (AV.int IntKind.i64) o,es:=1,ver:=v,frozen:=true,clean:=true }]) /\
  (¬((↑o.length:Int) = (↑gs.length:Int)) -> tv38na_at (fl) (gs) (o) (sum) (le) (v) ((↑gs.length:Int)) (0) (KeepQ dv dK))) :
 tv38n_at fl gs o sum le v (KeepQ dv dK):=by
 unfold tv38n_at
 have w1:(List.map (AV.int IntKind.i64) o).length = o.length:=List.length_map ..
 have w2:(List.map G2.a gs).length = gs.length:=List.length_map ..
 have i3:((↑(List.map (AV.int IntKind.i64) o).length:Int) == (↑(List.map G2.a gs).length:Int)) = true ↔ ((↑o.length:Int) = (↑gs.length:Int)):=(by (try rw [w1]);(try rw [w2]);all_goals exact i_eq)
 rcases Classical.em ((↑o.length:Int) = (↑gs.length:Int)) with d4 | d4
 ·have H:=H.1 d4
  have k5:=H.1;have H:=H.2
  exact path_ret (G:=given kp67 [(2,3,.call (AV.vec false 1 (List.map (AV.int IntKind.i64) o)) none)] []) 1000 [false,true] (k:=((atC (cd Try.f67) [1,0,1,0,1])).tail) (env':=[]) (L':=[{ elems:=[AV.agg [AV.vec fl 2 (List.map G2.a gs),AV.vec false 1 (List.map (AV.int IntKind.i64) o),AV.int IntKind.i64 sum]],es:=3,ver:=0,frozen:=false,clean:=false },{ elems:=List.map (AV.int IntKind.i64) o,es:=1,ver:=v,frozen:=true,clean:=true }]) (asm:=[true,true,false == false,v == v,true,((↑(List.map (AV.int IntKind.i64) o).length:Int) == (↑(List.map G2.a gs).length:Int)) == true,v == v,true,true]) (eqs:=[]) (calls:=[⟨true,false,64,[AV.vec false 1 (List.map (AV.int IntKind.i64) o)],[],AV.vec false 1 (List.map (AV.int IntKind.i64) o),[]⟩]) (AV.tup []) (by kernel_rfl) (by kernel_rfl) (allB_cons rfl (allB_cons rfl (allB_cons rfl (allB_cons (beq_self_eq_true _) (allB_cons rfl (allB_cons (beq_t (i3.2 d4)) (allB_cons (beq_self_eq_true _) (allB_cons rfl (allB_cons rfl allB_nil))))))))) allP_nil (allC_cons (fun _ => ((@ev64 (false) (o) k5):Ev M1 (Conf.pure 64 [AV.vec false 1 (List.map (AV.int IntKind.i64) o)]) (AV.vec false 1 (List.map (AV.int IntKind.i64) o)) [])) allC_nil) H
 ·have H:=H.2 d4
  exact path_wp (G:=given kp67 [] []) 1000 [false,false] ⟨(atC (cd Try.f67) [1,1,1,0,0]),[(0,AV.ptr 0 0 0 0),(1,AV.row 1 v),(2,AV.int IntKind.i64 sum),(41,AV.int IntKind.i64 (↑(List.map G2.a gs).length:Int)),(42,AV.int IntKind.i64 0)],[{ elems:=[AV.agg [AV.vec fl 2 (List.map G2.a gs),AV.vnil,AV.int IntKind.i64 le]],es:=3,ver:=0,frozen:=false,clean:=false },{ elems:=List.map (AV.int IntKind.i64) o,es:=1,ver:=v,frozen:=false,clean:=true }],[true,true,false == false,v == v,true,((↑(List.map (AV.int IntKind.i64) o).length:Int) == (↑(List.map G2.a gs).length:Int)) == false,true],[],[]⟩ (by kernel_rfl) (allB_cons rfl (allB_cons rfl (allB_cons rfl (allB_cons (beq_self_eq_true _) (allB_cons rfl (allB_cons (beq_f (fun h => d4 (i3.1 h))) (allB_cons rfl allB_nil))))))) allP_nil allC_nil (by (try rw [w2]);all_goals exact H)
theorem tv38s (fl:Bool) (gs:List G2) (o:List Int) (sum le:Int) (v:Nat) (fb:Bool) (x:Int) (l:List Int)  (dv:AV) (dK:Heap) (hk:keepOk 2 dv dK = true) (H :
  ((sum >= le) -> (KeepQ dv dK) (AV.tup []) [{ elems:=[AV.agg [AV.vec fl 2 (List.map G2.a gs),AV.vec fb 1 (AV.int IntKind.i64 x :: List.map (AV.int IntKind.i64) l),AV.int IntKind.i64 le]],es:=3,ver:=0,frozen:=false,clean:=false },{ elems:=List.map (AV.int IntKind.i64) o,es:=1,ver:=v,frozen:=false,clean:=true }]) /\
  (¬(sum >= le) -> (((↑o.length:Int) = (↑gs.length:Int)) -> (o.length <= 1000000) /\
    (KeepQ dv dK) (AV.tup []) [{ elems:=[AV.agg [AV.vec fl 2 (List.map G2.a gs),AV.vec false 1 (List.map (AV.int IntKind.i64) o),AV.int IntKind.i64 sum]],es:=3,ver:=0,frozen:=false,clean:=false },{ elems:=List.map (AV.int IntKind.i64) o,es:=1,ver:=v,frozen:=true,clean:=true }]) /\
   (¬((↑o.length:Int) = (↑gs.length:Int)) -> tv38sa_at (fl) (gs) (o) (sum) (le) (v) ((↑gs.length:Int)) (0) (fb) (x) (l) (KeepQ dv dK)))) :
 tv38s_at fl gs o sum le v fb x l (KeepQ dv dK):=by
 unfold tv38s_at
 have i1:(decide (sum >= le)) = true ↔ (sum >= le):=i_dec
 rcases Classical.em (sum >= le) with d2 | d2
 ·have H:=H.1 d2
  exact path_ret (G:=given kp67 [] []) 1000 [true] (k:=((atC (cd Try.f67) [0,1,0])).tail) (env':=[(0,AV.ptr 0 0 0 0),(1,AV.row 1 v),(2,AV.int IntKind.i64 sum),(19,AV.bool (decide (sum >= le)))]) (L':=[{ elems:=[AV.agg [AV.vec fl 2 (List.map G2.a gs),AV.vec fb 1 (AV.int IntKind.i64 x :: List.map (AV.int IntKind.i64) l),AV.int IntKind.i64 le]],es:=3,ver:=0,frozen:=false,clean:=false },{ elems:=List.map (AV.int IntKind.i64) o,es:=1,ver:=v,frozen:=false,clean:=true }]) (asm:=[true,true,(decide (sum >= le)) == true]) (eqs:=[]) (calls:=[]) (AV.tup []) (by kernel_rfl) (by kernel_rfl) (allB_cons rfl (allB_cons rfl (allB_cons (beq_t (i1.2 d2)) allB_nil))) allP_nil allC_nil H
 ·have H:=H.2 d2
  have w3:(List.map (AV.int IntKind.i64) o).length = o.length:=List.length_map ..
  have w4:(List.map G2.a gs).length = gs.length:=List.length_map ..
  have i5:((↑(List.map (AV.int IntKind.i64) o).length:Int) == (↑(List.map G2.a gs).length:Int)) = true ↔ ((↑o.length:Int) = (↑gs.length:Int)):=(by (try rw [w3]);(try rw [w4]);all_goals exact i_eq)
  rcases Classical.em ((↑o.length:Int) = (↑gs.length:Int)) with d6 | d6
  ·have H:=H.1 d6
   have k7:=H.1;have H:=H.2
   exact path_ret (G:=given kp67 [(2,3,.call (AV.vec false 1 (List.map (AV.int IntKind.i64) o)) none)] []) 1000 [false,true] (k:=((atC (cd Try.f67) [1,0,1,0,1])).tail) (env':=[]) (L':=[{ elems:=[AV.agg [AV.vec fl 2 (List.map G2.a gs),AV.vec false 1 (List.map (AV.int IntKind.i64) o),AV.int IntKind.i64 sum]],es:=3,ver:=0,frozen:=false,clean:=false },{ elems:=List.map (AV.int IntKind.i64) o,es:=1,ver:=v,frozen:=true,clean:=true }]) (asm:=[true,true,(decide (sum >= le)) == false,v == v,true,((↑(List.map (AV.int IntKind.i64) o).length:Int) == (↑(List.map G2.a gs).length:Int)) == true,v == v,true,true]) (eqs:=[]) (calls:=[⟨true,false,64,[AV.vec false 1 (List.map (AV.int IntKind.i64) o)],[],AV.vec false 1 (List.map (AV.int IntKind.i64) o),[]⟩]) (AV.tup []) (by kernel_rfl) (by kernel_rfl) (allB_cons rfl (allB_cons rfl (allB_cons (beq_f (fun h => d2 (i1.1 h))) (allB_cons (beq_self_eq_true _) (allB_cons rfl (allB_cons (beq_t (i5.2 d6)) (allB_cons (beq_self_eq_true _) (allB_cons rfl (allB_cons rfl allB_nil))))))))) allP_nil (allC_cons (fun _ => ((@ev64 (false) (o) k7):Ev M1 (Conf.pure 64 [AV.vec false 1 (List.map (AV.int IntKind.i64) o)]) (AV.vec false 1 (List.map (AV.int IntKind.i64) o)) [])) allC_nil) H
  ·have H:=H.2 d6
   exact path_wp (G:=given kp67 [] []) 1000 [false,false] ⟨(atC (cd Try.f67) [1,1,1,0,0]),[(0,AV.ptr 0 0 0 0),(1,AV.row 1 v),(2,AV.int IntKind.i64 sum),(41,AV.int IntKind.i64 (↑(List.map G2.a gs).length:Int)),(42,AV.int IntKind.i64 0)],[{ elems:=[AV.agg [AV.vec fl 2 (List.map G2.a gs),AV.vec fb 1 (AV.int IntKind.i64 x :: List.map (AV.int IntKind.i64) l),AV.int IntKind.i64 le]],es:=3,ver:=0,frozen:=false,clean:=false },{ elems:=List.map (AV.int IntKind.i64) o,es:=1,ver:=v,frozen:=false,clean:=true }],[true,true,(decide (sum >= le)) == false,v == v,true,((↑(List.map (AV.int IntKind.i64) o).length:Int) == (↑(List.map G2.a gs).length:Int)) == false,true],[],[]⟩ (by kernel_rfl) (allB_cons rfl (allB_cons rfl (allB_cons (beq_f (fun h => d2 (i1.1 h))) (allB_cons (beq_self_eq_true _) (allB_cons rfl (allB_cons (beq_f (fun h => d6 (i5.1 h))) (allB_cons rfl allB_nil))))))) allP_nil allC_nil (by (try rw [w4]);all_goals exact H)
theorem tv38na (fl:Bool) (gs:List G2) (o:List Int) (sum le:Int) (v:Nat) (n i:Int) (r0 rl:Int) (rt:List Int) (rf rb:Bool) (dv:AV) (dK:Heap) (hk:keepOk 2 dv dK = true) (H :
  ((i < n) -> (o.length <= 1000000) /\
   ((¬(Sp.has o i = true)) -> (o.length <= 1000000 /\ 0 < o.length) /\
    (-9223372036854775808 <= (↑o.length:Int) - 1 /\ (↑o.length:Int) - 1 <= 9223372036854775807) /\
    (Sp.inM (gs.getD (o.getD ((↑o.length:Int) - 1).toNat default).toNat default).x /\ Sp.inM (gs.getD (o.getD ((↑o.length:Int) - 1).toNat default).toNat default).y /\ Sp.inM (gs.getD i.toNat default).x /\ Sp.inM (gs.getD i.toNat default).y) /\
    (Ev M1 (Conf.own 67 [AV.ptr 0 0 0 0,AV.row 1 1,AV.int IntKind.i64 (IntKind.i64.wrap (sum + Sp.dist (gs.getD (o.getD ((↑o.length:Int) - 1).toNat default).toNat default).x (gs.getD (o.getD ((↑o.length:Int) - 1).toNat default).toNat default).y (gs.getD i.toNat default).x (gs.getD i.toNat default).y))] [{ elems:=[AV.agg [AV.vec fl 2 (List.map G2.a gs),AV.vnil,AV.int IntKind.i64 le]],es:=3,ver:=0,frozen:=false,clean:=false },{ elems:=List.map (AV.int IntKind.i64) o ++ [AV.int IntKind.i64 i],es:=1,ver:=1,frozen:=false,clean:=true }]) (AV.tup []) [{ elems:=[AV.agg [AV.vec fl 2 (List.map G2.a gs),AV.vec rb 1 (AV.int IntKind.i64 r0 :: List.map (AV.int IntKind.i64) rt),AV.int IntKind.i64 rl]],es:=3,ver:=0,frozen:=false,clean:=false },{ elems:=List.map (AV.int IntKind.i64) (o ++ [i]),es:=1,ver:=1,frozen:=rf,clean:=true }]) /\
    ((o.length + 1) * 8 <= 1099511627776) /\
    (0 <= (↑o.length:Int) - 1) /\
    (((↑o.length:Int) - 1).toNat < o.length) /\
    (0 <= o.getD ((↑o.length:Int) - 1).toNat default) /\
    ((o.getD ((↑o.length:Int) - 1).toNat default).toNat < gs.length) /\
    (0 <= i) /\
    (i.toNat < gs.length) /\
    (-9223372036854775808 <= i + 1 /\ i + 1 <= 9223372036854775807) /\
    tv38sa_at (fl) (gs) (o) (sum) (rl) (v) (n) (i + 1) (rb) (r0) (rt) (KeepQ dv dK)) /\
   (¬(¬(Sp.has o i = true)) -> (-9223372036854775808 <= i + 1 /\ i + 1 <= 9223372036854775807) /\
    tv38na_at (fl) (gs) (o) (sum) (le) (v) (n) (i + 1) (KeepQ dv dK))) /\
  (¬(i < n) -> (KeepQ dv dK) (AV.tup []) [{ elems:=[AV.agg [AV.vec fl 2 (List.map G2.a gs),AV.vnil,AV.int IntKind.i64 le]],es:=3,ver:=0,frozen:=false,clean:=false },{ elems:=List.map (AV.int IntKind.i64) o,es:=1,ver:=v,frozen:=false,clean:=true }])) :
 tv38na_at fl gs o sum le v n i (KeepQ dv dK):=by
 unfold tv38na_at
 have i1:(decide (i < n)) = true ↔ (i < n):=i_dec
 rcases Classical.em (i < n) with d2 | d2
 ·have H:=H.1 d2
  have k3:=H.1;have H:=H.2
  have i4:(!Sp.has o i) = true ↔ (¬(Sp.has o i = true)):=(i_not (i_var _))
  refine path_wp (G:=given kp67 [(6,2,.call (AV.bool (Sp.has o i)) none)] []) 11 [true] ⟨(atC (cd Try.f67) [1,1,1,0,0,1,1,0,0,1,1]),[(0,AV.ptr 0 0 0 0),(1,AV.row 1 v),(2,AV.int IntKind.i64 sum),(6,AV.int IntKind.i64 i),(41,AV.int IntKind.i64 n),(42,AV.int IntKind.i64 i),(48,AV.bool !Sp.has o i)],[{ elems:=[AV.agg [AV.vec fl 2 (List.map G2.a gs),AV.vnil,AV.int IntKind.i64 le]],es:=3,ver:=0,frozen:=false,clean:=false },{ elems:=List.map (AV.int IntKind.i64) o,es:=1,ver:=v,frozen:=false,clean:=true }],[(decide (i < n)) == true,v == v],[],[⟨true,false,93,[AV.vec false 1 (List.map (AV.int IntKind.i64) o),AV.int IntKind.i64 i],[],AV.bool (Sp.has o i),[]⟩]⟩ (by kernel_rfl) (allB_cons (beq_t (i1.2 d2)) (allB_cons (beq_self_eq_true _) allB_nil)) allP_nil (allC_cons (fun _ => ((@ev93 (false) (o) (i) k3):Ev M1 (Conf.pure 93 [AV.vec false 1 (List.map (AV.int IntKind.i64) o),AV.int IntKind.i64 i]) (AV.bool (Sp.has o i)) [])) allC_nil) ?_
  rcases Classical.em (¬(Sp.has o i = true)) with d5 | d5
  ·have H:=H.1 d5
   have k12:=H.1;have H:=H.2
   have w13:(List.map (AV.int IntKind.i64) o).length = o.length:=List.length_map ..
   have k14:=H.1;have H:=H.2
   have w15:IntKind.i64.wrap ((↑o.length:Int) - 1) = (↑o.length:Int) - 1:=wI64 k14
   have k16:=H.1;have H:=H.2
   have k17:=H.1;have H:=H.2
   have i18:(decide (((List.map (AV.int IntKind.i64) o).length + 1) * 8 <= 1099511627776)) = true ↔ ((o.length + 1) * 8 <= 1099511627776):=(by (try rw [w13]);all_goals exact i_dec)
   have k19:=H.1;have H:=H.2
   have i20:(decide (0 <= IntKind.i64.wrap ((↑(List.map (AV.int IntKind.i64) o).length:Int) - 1))) = true ↔ (0 <= (↑o.length:Int) - 1):=(by (try rw [w13]);(try rw [w15]);all_goals exact i_dec)
   have k21:=H.1;have H:=H.2
   have i22:(decide ((IntKind.i64.wrap ((↑(List.map (AV.int IntKind.i64) o).length:Int) - 1)).toNat < (List.map (AV.int IntKind.i64) o).length)) = true ↔ (((↑o.length:Int) - 1).toNat < o.length):=(by (try rw [w13]);(try rw [w15]);all_goals exact i_dec)
   have k23:=H.1;have H:=H.2
   have i24:(decide (0 <= o.getD ((↑o.length:Int) - 1).toNat default)) = true ↔ (0 <= o.getD ((↑o.length:Int) - 1).toNat default):=i_dec
   have k25:=H.1;have H:=H.2
   have w26:(List.map G2.a gs).length = gs.length:=List.length_map ..
   have i27:(decide ((o.getD ((↑o.length:Int) - 1).toNat default).toNat < (List.map G2.a gs).length)) = true ↔ ((o.getD ((↑o.length:Int) - 1).toNat default).toNat < gs.length):=(by (try rw [w26]);all_goals exact i_dec)
   have k28:=H.1;have H:=H.2
   have i29:(decide (0 <= i)) = true ↔ (0 <= i):=i_dec
   have k30:=H.1;have H:=H.2
   have i31:(decide (i.toNat < (List.map G2.a gs).length)) = true ↔ (i.toNat < gs.length):=(by (try rw [w26]);all_goals exact i_dec)
   have k32:=H.1;have H:=H.2
   have k33:=H.1;have H:=H.2
   have w34:IntKind.i64.wrap (i + 1) = i + 1:=wI64 k33
   exact path_wp (G:=given kp67 [(7,2,.call (AV.row 0 0) (some [{ elems:=List.map (AV.int IntKind.i64) o,es:=1,ver:=0,frozen:=false,clean:=true }])),(7,16,.elem (AV.int IntKind.i64 (o.getD ((↑o.length:Int) - 1).toNat default))),(7,18,.elem (AV.agg [AV.int IntKind.i64 (gs.getD (o.getD ((↑o.length:Int) - 1).toNat default).toNat default).x,AV.int IntKind.i64 (gs.getD (o.getD ((↑o.length:Int) - 1).toNat default).toNat default).y])),(7,25,.elem (AV.agg [AV.int IntKind.i64 (gs.getD i.toNat default).x,AV.int IntKind.i64 (gs.getD i.toNat default).y])),(7,26,.call (AV.int IntKind.i64 (Sp.dist (gs.getD (o.getD ((↑o.length:Int) - 1).toNat default).toNat default).x (gs.getD (o.getD ((↑o.length:Int) - 1).toNat default).toNat default).y (gs.getD i.toNat default).x (gs.getD i.toNat default).y)) none),(7,28,(.call (.tup []) (some [⟨[.agg [.vec fl 2 (gs.map G2.a),.vec rb 1 ((r0 :: rt).map (.int .i64)),.int .i64 rl]],3,0,false,false⟩,⟨(o ++ [i]).map (.int .i64),1,1,rf,true⟩]):Ans))] [(7,[28,902026,902025,902024,2022,902018,902017,3016,3015,3013,2010,4005,902004,2,4002])]) 1000 [true] ⟨(atC (cd Try.f67) [1,1,1,0,0]),[(0,AV.ptr 0 0 0 0),(1,AV.row 1 v),(2,AV.int IntKind.i64 sum),(41,AV.int IntKind.i64 n),(42,AV.int IntKind.i64 (IntKind.i64.wrap (i + 1)))],[{ elems:=[AV.agg [AV.vec fl 2 (List.map G2.a gs),AV.vec rb 1 (AV.int IntKind.i64 r0 :: List.map (AV.int IntKind.i64) rt),AV.int IntKind.i64 rl]],es:=3,ver:=0,frozen:=false,clean:=false },{ elems:=List.map (AV.int IntKind.i64) o,es:=1,ver:=v,frozen:=false,clean:=true },{ elems:=List.map (AV.int IntKind.i64) (o ++ [i]),es:=1,ver:=1,frozen:=rf,clean:=true }],[(!Sp.has o i) == true,v == v,scalarL (List.map (AV.int IntKind.i64) o),true,decide (((List.map (AV.int IntKind.i64) o).length + 1) * 8 <= 1099511627776),true,v == v,v == v,decide (0 <= IntKind.i64.wrap ((↑(List.map (AV.int IntKind.i64) o).length:Int) - 1)),decide ((IntKind.i64.wrap ((↑(List.map (AV.int IntKind.i64) o).length:Int) - 1)).toNat < (List.map (AV.int IntKind.i64) o).length),v == v,decide (0 <= o.getD ((↑o.length:Int) - 1).toNat default),decide ((o.getD ((↑o.length:Int) - 1).toNat default).toNat < (List.map G2.a gs).length),true,decide (0 <= i),decide (i.toNat < (List.map G2.a gs).length)],[((List.map (AV.int IntKind.i64) o).get?Internal (IntKind.i64.wrap ((↑(List.map (AV.int IntKind.i64) o).length:Int) - 1)).toNat = some (AV.int IntKind.i64 (o.getD ((↑o.length:Int) - 1).toNat default))),((List.map G2.a gs).get?Internal (o.getD ((↑o.length:Int) - 1).toNat default).toNat = some (AV.agg [AV.int IntKind.i64 (gs.getD (o.getD ((↑o.length:Int) - 1).toNat default).toNat default).x,AV.int IntKind.i64 (gs.getD (o.getD ((↑o.length:Int) - 1).toNat default).toNat default).y])),((List.map G2.a gs).get?Internal i.toNat = some (AV.agg [AV.int IntKind.i64 (gs.getD i.toNat default).x,AV.int IntKind.i64 (gs.getD i.toNat default).y]))],[⟨true,true,64,[AV.vec false 1 (List.map (AV.int IntKind.i64) o)],[],AV.row 0 0,[{ elems:=List.map (AV.int IntKind.i64) o,es:=1,ver:=0,frozen:=false,clean:=true }]⟩,⟨true,false,61,[AV.agg [AV.int IntKind.i64 (gs.getD (o.getD ((↑o.length:Int) - 1).toNat default).toNat default).x,AV.int IntKind.i64 (gs.getD (o.getD ((↑o.length:Int) - 1).toNat default).toNat default).y],AV.agg [AV.int IntKind.i64 (gs.getD i.toNat default).x,AV.int IntKind.i64 (gs.getD i.toNat default).y]],[],AV.int IntKind.i64 (Sp.dist (gs.getD (o.getD ((↑o.length:Int) - 1).toNat default).toNat default).x (gs.getD (o.getD ((↑o.length:Int) - 1).toNat default).toNat default).y (gs.getD i.toNat default).x (gs.getD i.toNat default).y),[]⟩,⟨true,true,67,[AV.ptr 0 0 0 0,AV.row 1 1,AV.int IntKind.i64 (IntKind.i64.wrap (sum + Sp.dist (gs.getD (o.getD ((↑o.length:Int) - 1).toNat default).toNat default).x (gs.getD (o.getD ((↑o.length:Int) - 1).toNat default).toNat default).y (gs.getD i.toNat default).x (gs.getD i.toNat default).y))],[{ elems:=[AV.agg [AV.vec fl 2 (List.map G2.a gs),AV.vnil,AV.int IntKind.i64 le]],es:=3,ver:=0,frozen:=false,clean:=false },{ elems:=List.map (AV.int IntKind.i64) o ++ [AV.int IntKind.i64 i],es:=1,ver:=1,frozen:=false,clean:=true }],AV.tup [],[{ elems:=[AV.agg [AV.vec fl 2 (List.map G2.a gs),AV.vec rb 1 (AV.int IntKind.i64 r0 :: List.map (AV.int IntKind.i64) rt),AV.int IntKind.i64 rl]],es:=3,ver:=0,frozen:=false,clean:=false },{ elems:=List.map (AV.int IntKind.i64) (o ++ [i]),es:=1,ver:=1,frozen:=rf,clean:=true }]⟩]⟩ (by kernel_rfl) (allB_cons (beq_t (i4.2 d5)) (allB_cons (beq_self_eq_true _) (allB_cons (by first | exact sc_int _ | exact sc_bool _) (allB_cons rfl (allB_cons (i18.2 k19) (allB_cons rfl (allB_cons (beq_self_eq_true _) (allB_cons (beq_self_eq_true _) (allB_cons (i20.2 k21) (allB_cons (i22.2 k23) (allB_cons (beq_self_eq_true _) (allB_cons (i24.2 k25) (allB_cons (i27.2 k28) (allB_cons rfl (allB_cons (i29.2 k30) (allB_cons (i31.2 k32) allB_nil)))))))))))))))) (allP_cons (by (try rw [w13]);(try rw [w15]);all_goals exact (el_map k23)) (allP_cons (el_map k28) (allP_cons (el_map k32) allP_nil))) (allC_cons (fun _ => ((@evf64 (false) (o) k12):Ev M1 (Conf.own 64 [AV.vec false 1 (List.map (AV.int IntKind.i64) o)] []) (AV.row 0 0) [{ elems:=List.map (AV.int IntKind.i64) o,es:=1,ver:=0,frozen:=false,clean:=true }])) (allC_cons (fun _ => ((@ev61 ((gs.getD (o.getD ((↑o.length:Int) - 1).toNat default).toNat default).x) ((gs.getD (o.getD ((↑o.length:Int) - 1).toNat default).toNat default).y) ((gs.getD i.toNat default).x) ((gs.getD i.toNat default).y) k16):Ev M1 (Conf.pure 61 [AV.agg [AV.int IntKind.i64 (gs.getD (o.getD ((↑o.length:Int) - 1).toNat default).toNat default).x,AV.int IntKind.i64 (gs.getD (o.getD ((↑o.length:Int) - 1).toNat default).toNat default).y],AV.agg [AV.int IntKind.i64 (gs.getD i.toNat default).x,AV.int IntKind.i64 (gs.getD i.toNat default).y]]) (AV.int IntKind.i64 (Sp.dist (gs.getD (o.getD ((↑o.length:Int) - 1).toNat default).toNat default).x (gs.getD (o.getD ((↑o.length:Int) - 1).toNat default).toNat default).y (gs.getD i.toNat default).x (gs.getD i.toNat default).y)) [])) (allC_cons (fun _ => (k17:Ev M1 (Conf.own 67 [AV.ptr 0 0 0 0,AV.row 1 1,AV.int IntKind.i64 (IntKind.i64.wrap (sum + Sp.dist (gs.getD (o.getD ((↑o.length:Int) - 1).toNat default).toNat default).x (gs.getD (o.getD ((↑o.length:Int) - 1).toNat default).toNat default).y (gs.getD i.toNat default).x (gs.getD i.toNat default).y))] [{ elems:=[AV.agg [AV.vec fl 2 (List.map G2.a gs),AV.vnil,AV.int IntKind.i64 le]],es:=3,ver:=0,frozen:=false,clean:=false },{ elems:=List.map (AV.int IntKind.i64) o ++ [AV.int IntKind.i64 i],es:=1,ver:=1,frozen:=false,clean:=true }]) (AV.tup []) [{ elems:=[AV.agg [AV.vec fl 2 (List.map G2.a gs),AV.vec rb 1 (AV.int IntKind.i64 r0 :: List.map (AV.int IntKind.i64) rt),AV.int IntKind.i64 rl]],es:=3,ver:=0,frozen:=false,clean:=false },{ elems:=List.map (AV.int IntKind.i64) (o ++ [i]),es:=1,ver:=1,frozen:=rf,clean:=true }])) allC_nil))) (by (try rw [w34]);all_goals exact wp_narrow_keep 2 hk (by kernel_rfl) H)
  ·have H:=H.2 d5
   have k35:=H.1;have H:=H.2
   have w36:IntKind.i64.wrap (i + 1) = i + 1:=wI64 k35
   exact path_wp (G:=given kp67 [] []) 1000 [false] ⟨(atC (cd Try.f67) [1,1,1,0,0]),[(0,AV.ptr 0 0 0 0),(1,AV.row 1 v),(2,AV.int IntKind.i64 sum),(41,AV.int IntKind.i64 n),(42,AV.int IntKind.i64 (IntKind.i64.wrap (i + 1)))],[{ elems:=[AV.agg [AV.vec fl 2 (List.map G2.a gs),AV.vnil,AV.int IntKind.i64 le]],es:=3,ver:=0,frozen:=false,clean:=false },{ elems:=List.map (AV.int IntKind.i64) o,es:=1,ver:=v,frozen:=false,clean:=true }],[(!Sp.has o i) == false],[],[]⟩ (by kernel_rfl) (allB_cons (beq_f (fun h => d5 (i4.1 h))) allB_nil) allP_nil allC_nil (by (try rw [w36]);all_goals exact H)
 ·have H:=H.2 d2
  exact path_end (G:=given kp67 [] []) 1000 [false] (env':=[(0,AV.ptr 0 0 0 0),(1,AV.row 1 v),(2,AV.int IntKind.i64 sum),(41,AV.int IntKind.i64 n),(42,AV.int IntKind.i64 i),(43,AV.bool (decide (i < n)))]) (L':=[{ elems:=[AV.agg [AV.vec fl 2 (List.map G2.a gs),AV.vnil,AV.int IntKind.i64 le]],es:=3,ver:=0,frozen:=false,clean:=false },{ elems:=List.map (AV.int IntKind.i64) o,es:=1,ver:=v,frozen:=false,clean:=true }]) (asm:=[(decide (i < n)) == false]) (eqs:=[]) (calls:=[]) (AV.tup []) (by kernel_rfl) (by kernel_rfl) (allB_cons (beq_f (fun h => d2 (i1.1 h))) allB_nil) allP_nil allC_nil H
theorem tv38sa (fl:Bool) (gs:List G2) (o:List Int) (sum le:Int) (v:Nat) (n i:Int) (fb:Bool) (x:Int) (l:List Int) (r0 rl:Int) (rt:List Int) (rf rb:Bool) (dv:AV) (dK:Heap) (hk:keepOk 2 dv dK = true) (H :
  ((i < n) -> (o.length <= 1000000) /\
   ((¬(Sp.has o i = true)) -> (o.length <= 1000000 /\ 0 < o.length) /\
    (-9223372036854775808 <= (↑o.length:Int) - 1 /\ (↑o.length:Int) - 1 <= 9223372036854775807) /\
    (Sp.inM (gs.getD (o.getD ((↑o.length:Int) - 1).toNat default).toNat default).x /\ Sp.inM (gs.getD (o.getD ((↑o.length:Int) - 1).toNat default).toNat default).y /\ Sp.inM (gs.getD i.toNat default).x /\ Sp.inM (gs.getD i.toNat default).y) /\
    (Ev M1 (Conf.own 67 [AV.ptr 0 0 0 0,AV.row 1 1,AV.int IntKind.i64 (IntKind.i64.wrap (sum + Sp.dist (gs.getD (o.getD ((↑o.length:Int) - 1).toNat default).toNat default).x (gs.getD (o.getD ((↑o.length:Int) - 1).toNat default).toNat default).y (gs.getD i.toNat default).x (gs.getD i.toNat default).y))] [{ elems:=[AV.agg [AV.vec fl 2 (List.map G2.a gs),AV.vec fb 1 (AV.int IntKind.i64 x :: List.map (AV.int IntKind.i64) l),AV.int IntKind.i64 le]],es:=3,ver:=0,frozen:=false,clean:=false },{ elems:=List.map (AV.int IntKind.i64) o ++ [AV.int IntKind.i64 i],es:=1,ver:=1,frozen:=false,clean:=true }]) (AV.tup []) [{ elems:=[AV.agg [AV.vec fl 2 (List.map G2.a gs),AV.vec rb 1 (AV.int IntKind.i64 r0 :: List.map (AV.int IntKind.i64) rt),AV.int IntKind.i64 rl]],es:=3,ver:=0,frozen:=false,clean:=false },{ elems:=List.map (AV.int IntKind.i64) (o ++ [i]),es:=1,ver:=1,frozen:=rf,clean:=true }]) /\
    ((o.length + 1) * 8 <= 1099511627776) /\
    (0 <= (↑o.length:Int) - 1) /\
    (((↑o.length:Int) - 1).toNat < o.length) /\
    (0 <= o.getD ((↑o.length:Int) - 1).toNat default) /\
    ((o.getD ((↑o.length:Int) - 1).toNat default).toNat < gs.length) /\
    (0 <= i) /\
    (i.toNat < gs.length) /\
    (-9223372036854775808 <= i + 1 /\ i + 1 <= 9223372036854775807) /\
    tv38sa_at (fl) (gs) (o) (sum) (rl) (v) (n) (i + 1) (rb) (r0) (rt) (KeepQ dv dK)) /\
   (¬(¬(Sp.has o i = true)) -> (-9223372036854775808 <= i + 1 /\ i + 1 <= 9223372036854775807) /\
    tv38sa_at (fl) (gs) (o) (sum) (le) (v) (n) (i + 1) (fb) (x) (l) (KeepQ dv dK))) /\
  (¬(i < n) -> (KeepQ dv dK) (AV.tup []) [{ elems:=[AV.agg [AV.vec fl 2 (List.map G2.a gs),AV.vec fb 1 (AV.int IntKind.i64 x :: List.map (AV.int IntKind.i64) l),AV.int IntKind.i64 le]],es:=3,ver:=0,frozen:=false,clean:=false },{ elems:=List.map (AV.int IntKind.i64) o,es:=1,ver:=v,frozen:=false,clean:=true }])) :
 tv38sa_at fl gs o sum le v n i fb x l (KeepQ dv dK):=by
 unfold tv38sa_at
 have i1:(decide (i < n)) = true ↔ (i < n):=i_dec
 rcases Classical.em (i < n) with d2 | d2
 ·have H:=H.1 d2
  have k3:=H.1;have H:=H.2
  have i4:(!Sp.has o i) = true ↔ (¬(Sp.has o i = true)):=(i_not (i_var _))
  refine path_wp (G:=given kp67 [(6,2,.call (AV.bool (Sp.has o i)) none)] []) 11 [true] ⟨(atC (cd Try.f67) [1,1,1,0,0,1,1,0,0,1,1]),[(0,AV.ptr 0 0 0 0),(1,AV.row 1 v),(2,AV.int IntKind.i64 sum),(6,AV.int IntKind.i64 i),(41,AV.int IntKind.i64 n),(42,AV.int IntKind.i64 i),(48,AV.bool !Sp.has o i)],[{ elems:=[AV.agg [AV.vec fl 2 (List.map G2.a gs),AV.vec fb 1 (AV.int IntKind.i64 x :: List.map (AV.int IntKind.i64) l),AV.int IntKind.i64 le]],es:=3,ver:=0,frozen:=false,clean:=false },{ elems:=List.map (AV.int IntKind.i64) o,es:=1,ver:=v,frozen:=false,clean:=true }],[(decide (i < n)) == true,v == v],[],[⟨true,false,93,[AV.vec false 1 (List.map (AV.int IntKind.i64) o),AV.int IntKind.i64 i],[],AV.bool (Sp.has o i),[]⟩]⟩ (by kernel_rfl) (allB_cons (beq_t (i1.2 d2)) (allB_cons (beq_self_eq_true _) allB_nil)) allP_nil (allC_cons (fun _ => ((@ev93 (false) (o) (i) k3):Ev M1 (Conf.pure 93 [AV.vec false 1 (List.map (AV.int IntKind.i64) o),AV.int IntKind.i64 i]) (AV.bool (Sp.has o i)) [])) allC_nil) ?_
  rcases Classical.em (¬(Sp.has o i = true)) with d5 | d5
  ·have H:=H.1 d5
   have k12:=H.1;have H:=H.2
   have w13:(List.map (AV.int IntKind.i64) o).length = o.length:=List.length_map ..
   have k14:=H.1;have H:=H.2
   have w15:IntKind.i64.wrap ((↑o.length:Int) - 1) = (↑o.length:Int) - 1:=wI64 k14
   have k16:=H.1;have H:=H.2
   have k17:=H.1;have H:=H.2
   have i18:(decide (((List.map (AV.int IntKind.i64) o).length + 1) * 8 <= 1099511627776)) = true ↔ ((o.length + 1) * 8 <= 1099511627776):=(by (try rw [w13]);all_goals exact i_dec)
   have k19:=H.1;have H:=H.2
   have i20:(decide (0 <= IntKind.i64.wrap ((↑(List.map (AV.int IntKind.i64) o).length:Int) - 1))) = true ↔ (0 <= (↑o.length:Int) - 1):=(by (try rw [w13]);(try rw [w15]);all_goals exact i_dec)
   have k21:=H.1;have H:=H.2
   have i22:(decide ((IntKind.i64.wrap ((↑(List.map (AV.int IntKind.i64) o).length:Int) - 1)).toNat < (List.map (AV.int IntKind.i64) o).length)) = true ↔ (((↑o.length:Int) - 1).toNat < o.length):=(by (try rw [w13]);(try rw [w15]);all_goals exact i_dec)
   have k23:=H.1;have H:=H.2
   have i24:(decide (0 <= o.getD ((↑o.length:Int) - 1).toNat default)) = true ↔ (0 <= o.getD ((↑o.length:Int) - 1).toNat default):=i_dec
   have k25:=H.1;have H:=H.2
   have w26:(List.map G2.a gs).length = gs.length:=List.length_map ..
   have i27:(decide ((o.getD ((↑o.length:Int) - 1).toNat default).toNat < (List.map G2.a gs).length)) = true ↔ ((o.getD ((↑o.length:Int) - 1).toNat default).toNat < gs.length):=(by (try rw [w26]);all_goals exact i_dec)
   have k28:=H.1;have H:=H.2
   have i29:(decide (0 <= i)) = true ↔ (0 <= i):=i_dec
   have k30:=H.1;have H:=H.2
   have i31:(decide (i.toNat < (List.map G2.a gs).length)) = true ↔ (i.toNat < gs.length):=(by (try rw [w26]);all_goals exact i_dec)
   have k32:=H.1;have H:=H.2
   have k33:=H.1;have H:=H.2
   have w34:IntKind.i64.wrap (i + 1) = i + 1:=wI64 k33
   exact path_wp (G:=given kp67 [(7,2,.call (AV.row 0 0) (some [{ elems:=List.map (AV.int IntKind.i64) o,es:=1,ver:=0,frozen:=false,clean:=true }])),(7,16,.elem (AV.int IntKind.i64 (o.getD ((↑o.length:Int) - 1).toNat default))),(7,18,.elem (AV.agg [AV.int IntKind.i64 (gs.getD (o.getD ((↑o.length:Int) - 1).toNat default).toNat default).x,AV.int IntKind.i64 (gs.getD (o.getD ((↑o.length:Int) - 1).toNat default).toNat default).y])),(7,25,.elem (AV.agg [AV.int IntKind.i64 (gs.getD i.toNat default).x,AV.int IntKind.i64 (gs.getD i.toNat default).y])),(7,26,.call (AV.int IntKind.i64 (Sp.dist (gs.getD (o.getD ((↑o.length:Int) - 1).toNat default).toNat default).x (gs.getD (o.getD ((↑o.length:Int) - 1).toNat default).toNat default).y (gs.getD i.toNat default).x (gs.getD i.toNat default).y)) none),(7,28,(.call (.tup []) (some [⟨[.agg [.vec fl 2 (gs.map G2.a),.vec rb 1 ((r0 :: rt).map (.int .i64)),.int .i64 rl]],3,0,false,false⟩,⟨(o ++ [i]).map (.int .i64),1,1,rf,true⟩]):Ans))] [(7,[28,902026,902025,902024,2022,902018,902017,3016,3015,3013,2010,4005,902004,2,4002])]) 1000 [true] ⟨(atC (cd Try.f67) [1,1,1,0,0]),[(0,AV.ptr 0 0 0 0),(1,AV.row 1 v),(2,AV.int IntKind.i64 sum),(41,AV.int IntKind.i64 n),(42,AV.int IntKind.i64 (IntKind.i64.wrap (i + 1)))],[{ elems:=[AV.agg [AV.vec fl 2 (List.map G2.a gs),AV.vec rb 1 (AV.int IntKind.i64 r0 :: List.map (AV.int IntKind.i64) rt),AV.int IntKind.i64 rl]],es:=3,ver:=0,frozen:=false,clean:=false },{ elems:=List.map (AV.int IntKind.i64) o,es:=1,ver:=v,frozen:=false,clean:=true },{ elems:=List.map (AV.int IntKind.i64) (o ++ [i]),es:=1,ver:=1,frozen:=rf,clean:=true }],[(!Sp.has o i) == true,v == v,scalarL (List.map (AV.int IntKind.i64) o),true,decide (((List.map (AV.int IntKind.i64) o).length + 1) * 8 <= 1099511627776),true,v == v,v == v,decide (0 <= IntKind.i64.wrap ((↑(List.map (AV.int IntKind.i64) o).length:Int) - 1)),decide ((IntKind.i64.wrap ((↑(List.map (AV.int IntKind.i64) o).length:Int) - 1)).toNat < (List.map (AV.int IntKind.i64) o).length),v == v,decide (0 <= o.getD ((↑o.length:Int) - 1).toNat default),decide ((o.getD ((↑o.length:Int) - 1).toNat default).toNat < (List.map G2.a gs).length),true,decide (0 <= i),decide (i.toNat < (List.map G2.a gs).length)],[((List.map (AV.int IntKind.i64) o).get?Internal (IntKind.i64.wrap ((↑(List.map (AV.int IntKind.i64) o).length:Int) - 1)).toNat = some (AV.int IntKind.i64 (o.getD ((↑o.length:Int) - 1).toNat default))),((List.map G2.a gs).get?Internal (o.getD ((↑o.length:Int) - 1).toNat default).toNat = some (AV.agg [AV.int IntKind.i64 (gs.getD (o.getD ((↑o.length:Int) - 1).toNat default).toNat default).x,AV.int IntKind.i64 (gs.getD (o.getD ((↑o.length:Int) - 1).toNat default).toNat default).y])),((List.map G2.a gs).get?Internal i.toNat = some (AV.agg [AV.int IntKind.i64 (gs.getD i.toNat default).x,AV.int IntKind.i64 (gs.getD i.toNat default).y]))],[⟨true,true,64,[AV.vec false 1 (List.map (AV.int IntKind.i64) o)],[],AV.row 0 0,[{ elems:=List.map (AV.int IntKind.i64) o,es:=1,ver:=0,frozen:=false,clean:=true }]⟩,⟨true,false,61,[AV.agg [AV.int IntKind.i64 (gs.getD (o.getD ((↑o.length:Int) - 1).toNat default).toNat default).x,AV.int IntKind.i64 (gs.getD (o.getD ((↑o.length:Int) - 1).toNat default).toNat default).y],AV.agg [AV.int IntKind.i64 (gs.getD i.toNat default).x,AV.int IntKind.i64 (gs.getD i.toNat default).y]],[],AV.int IntKind.i64 (Sp.dist (gs.getD (o.getD ((↑o.length:Int) - 1).toNat default).toNat default).x (gs.getD (o.getD ((↑o.length:Int) - 1).toNat default).toNat default).y (gs.getD i.toNat default).x (gs.getD i.toNat default).y),[]⟩,⟨true,true,67,[AV.ptr 0 0 0 0,AV.row 1 1,AV.int IntKind.i64 (IntKind.i64.wrap (sum + Sp.dist (gs.getD (o.getD ((↑o.length:Int) - 1).toNat default).toNat default).x (gs.getD (o.getD ((↑o.length:Int) - 1).toNat default).toNat default).y (gs.getD i.toNat default).x (gs.getD i.toNat default).y))],[{ elems:=[AV.agg [AV.vec fl 2 (List.map G2.a gs),AV.vec fb 1 (AV.int IntKind.i64 x :: List.map (AV.int IntKind.i64) l),AV.int IntKind.i64 le]],es:=3,ver:=0,frozen:=false,clean:=false },{ elems:=List.map (AV.int IntKind.i64) o ++ [AV.int IntKind.i64 i],es:=1,ver:=1,frozen:=false,clean:=true }],AV.tup [],[{ elems:=[AV.agg [AV.vec fl 2 (List.map G2.a gs),AV.vec rb 1 (AV.int IntKind.i64 r0 :: List.map (AV.int IntKind.i64) rt),AV.int IntKind.i64 rl]],es:=3,ver:=0,frozen:=false,clean:=false },{ elems:=List.map (AV.int IntKind.i64) (o ++ [i]),es:=1,ver:=1,frozen:=rf,clean:=true }]⟩]⟩ (by kernel_rfl) (allB_cons (beq_t (i4.2 d5)) (allB_cons (beq_self_eq_true _) (allB_cons (by first | exact sc_int _ | exact sc_bool _) (allB_cons rfl (allB_cons (i18.2 k19) (allB_cons rfl (allB_cons (beq_self_eq_true _) (allB_cons (beq_self_eq_true _) (allB_cons (i20.2 k21) (allB_cons (i22.2 k23) (allB_cons (beq_self_eq_true _) (allB_cons (i24.2 k25) (allB_cons (i27.2 k28) (allB_cons rfl (allB_cons (i29.2 k30) (allB_cons (i31.2 k32) allB_nil)))))))))))))))) (allP_cons (by (try rw [w13]);(try rw [w15]);all_goals exact (el_map k23)) (allP_cons (el_map k28) (allP_cons (el_map k32) allP_nil))) (allC_cons (fun _ => ((@evf64 (false) (o) k12):Ev M1 (Conf.own 64 [AV.vec false 1 (List.map (AV.int IntKind.i64) o)] []) (AV.row 0 0) [{ elems:=List.map (AV.int IntKind.i64) o,es:=1,ver:=0,frozen:=false,clean:=true }])) (allC_cons (fun _ => ((@ev61 ((gs.getD (o.getD ((↑o.length:Int) - 1).toNat default).toNat default).x) ((gs.getD (o.getD ((↑o.length:Int) - 1).toNat default).toNat default).y) ((gs.getD i.toNat default).x) ((gs.getD i.toNat default).y) k16):Ev M1 (Conf.pure 61 [AV.agg [AV.int IntKind.i64 (gs.getD (o.getD ((↑o.length:Int) - 1).toNat default).toNat default).x,AV.int IntKind.i64 (gs.getD (o.getD ((↑o.length:Int) - 1).toNat default).toNat default).y],AV.agg [AV.int IntKind.i64 (gs.getD i.toNat default).x,AV.int IntKind.i64 (gs.getD i.toNat default).y]]) (AV.int IntKind.i64 (Sp.dist (gs.getD (o.getD ((↑o.length:Int) - 1).toNat default).toNat default).x (gs.getD (o.getD ((↑o.length:Int) - 1).toNat default).toNat default).y (gs.getD i.toNat default).x (gs.getD i.toNat default).y)) [])) (allC_cons (fun _ => (k17:Ev M1 (Conf.own 67 [AV.ptr 0 0 0 0,AV.row 1 1,AV.int IntKind.i64 (IntKind.i64.wrap (sum + Sp.dist (gs.getD (o.getD ((↑o.length:Int) - 1).toNat default).toNat default).x (gs.getD (o.getD ((↑o.length:Int) - 1).toNat default).toNat default).y (gs.getD i.toNat default).x (gs.getD i.toNat default).y))] [{ elems:=[AV.agg [AV.vec fl 2 (List.map G2.a gs),AV.vec fb 1 (AV.int IntKind.i64 x :: List.map (AV.int IntKind.i64) l),AV.int IntKind.i64 le]],es:=3,ver:=0,frozen:=false,clean:=false },{ elems:=List.map (AV.int IntKind.i64) o ++ [AV.int IntKind.i64 i],es:=1,ver:=1,frozen:=false,clean:=true }]) (AV.tup []) [{ elems:=[AV.agg [AV.vec fl 2 (List.map G2.a gs),AV.vec rb 1 (AV.int IntKind.i64 r0 :: List.map (AV.int IntKind.i64) rt),AV.int IntKind.i64 rl]],es:=3,ver:=0,frozen:=false,clean:=false },{ elems:=List.map (AV.int IntKind.i64) (o ++ [i]),es:=1,ver:=1,frozen:=rf,clean:=true }])) allC_nil))) (by (try rw [w34]);all_goals exact wp_narrow_keep 2 hk (by kernel_rfl) H)
  ·have H:=H.2 d5
   have k35:=H.1;have H:=H.2
   have w36:IntKind.i64.wrap (i + 1) = i + 1:=wI64 k35
   exact path_wp (G:=given kp67 [] []) 1000 [false] ⟨(atC (cd Try.f67) [1,1,1,0,0]),[(0,AV.ptr 0 0 0 0),(1,AV.row 1 v),(2,AV.int IntKind.i64 sum),(41,AV.int IntKind.i64 n),(42,AV.int IntKind.i64 (IntKind.i64.wrap (i + 1)))],[{ elems:=[AV.agg [AV.vec fl 2 (List.map G2.a gs),AV.vec fb 1 (AV.int IntKind.i64 x :: List.map (AV.int IntKind.i64) l),AV.int IntKind.i64 le]],es:=3,ver:=0,frozen:=false,clean:=false },{ elems:=List.map (AV.int IntKind.i64) o,es:=1,ver:=v,frozen:=false,clean:=true }],[(!Sp.has o i) == false],[],[]⟩ (by kernel_rfl) (allB_cons (beq_f (fun h => d5 (i4.1 h))) allB_nil) allP_nil allC_nil (by (try rw [w36]);all_goals exact H)
 ·have H:=H.2 d2
  exact path_end (G:=given kp67 [] []) 1000 [false] (env':=[(0,AV.ptr 0 0 0 0),(1,AV.row 1 v),(2,AV.int IntKind.i64 sum),(41,AV.int IntKind.i64 n),(42,AV.int IntKind.i64 i),(43,AV.bool (decide (i < n)))]) (L':=[{ elems:=[AV.agg [AV.vec fl 2 (List.map G2.a gs),AV.vec fb 1 (AV.int IntKind.i64 x :: List.map (AV.int IntKind.i64) l),AV.int IntKind.i64 le]],es:=3,ver:=0,frozen:=false,clean:=false },{ elems:=List.map (AV.int IntKind.i64) o,es:=1,ver:=v,frozen:=false,clean:=true }]) (asm:=[(decide (i < n)) == false]) (eqs:=[]) (calls:=[]) (AV.tup []) (by kernel_rfl) (by kernel_rfl) (allB_cons (beq_f (fun h => d2 (i1.1 h))) allB_nil) allP_nil allC_nil H
end Go.Av

namespace Go.Av
open Go.Proofs
set_option maxRecDepth 100000
end Go.Av

namespace Go.Av
open Go.Proofs
set_option maxRecDepth 100000
def fi37:Fi:=⟨20,[.tmp 4,.tmp 5]⟩
def kp37:List (Nat × List Nat):=[(0,[0,1]),(1,[0,1,6]),(2,[0,1,6,10]),(3,[4,5]),(4,[0,1,16]),(5,[4,5]),(6,[4,5])]
def tv12_at (fl fm:Bool) (gs:List G2) (o:List Int) (Q:AV -> Heap -> Prop):Prop:=Wp M1 (.run fi37 (atC (cd Try.f37) []) [(0,.vec fl 2 (gs.map G2.a)),(1,.vec fm 1 (o.map (.int .i64)))] []) Q
theorem call37 {args:List AV} {d:AV} (h:wc M1 fi37 Try.f37 args d):Ev M1 (.pure 37 args) d []:=pcl _ _ (by kernel_rfl) h
theorem tv12 (fl fm:Bool) (gs:List G2) (o:List Int)  (dq:AV) (H :
  (Sp.mOk 200) /\
  ((¬Sp.checkE gs 200 = 0) -> AV.tup [AV.int IntKind.i64 0,AV.int IntKind.i64 (Sp.checkE gs 200)] = dq) /\
  (¬(¬Sp.checkE gs 200 = 0) -> (0 <= (↑gs.length:Int) /\ (↑gs.length:Int) <= 1000000) /\
   ((¬(Sp.isOrd o (↑gs.length:Int) = true)) -> AV.tup [AV.int IntKind.i64 0,AV.int IntKind.i64 1] = dq) /\
   (¬(¬(Sp.isOrd o (↑gs.length:Int) = true)) -> (Sp.okG gs) /\
    (Sp.okO gs o) /\
    (o.length <= 1000) /\
    AV.tup [AV.int IntKind.i64 (Sp.way gs o),AV.int IntKind.i64 0] = dq))) :
 tv12_at fl fm gs o (PureQ dq):=by
 unfold tv12_at
 have k1:=H.1;have H:=H.2
 have i2:(Sp.checkE gs 200 != 0) = true ↔ (¬Sp.checkE gs 200 = 0):=i_ne
 refine path_wp (G:=given kp37 [(1,1,.call (AV.int IntKind.i64 (Sp.checkE gs 200)) none)] []) 7 [] ⟨(atC (cd Try.f37) [1,0,1,1]),[(0,AV.vec fl 2 (List.map G2.a gs)),(1,AV.vec fm 1 (List.map (AV.int IntKind.i64) o)),(6,AV.int IntKind.i64 (Sp.checkE gs 200)),(10,AV.bool (Sp.checkE gs 200 != 0))],[],[],[],[⟨true,false,62,[AV.vec fl 2 (List.map G2.a gs),AV.int IntKind.i64 200],[],AV.int IntKind.i64 (Sp.checkE gs 200),[]⟩]⟩ (by kernel_rfl) allB_nil allP_nil (allC_cons (fun _ => ((@ev62 (fl) (gs) (200) k1):Ev M1 (Conf.pure 62 [AV.vec fl 2 (List.map G2.a gs),AV.int IntKind.i64 200]) (AV.int IntKind.i64 (Sp.checkE gs 200)) [])) allC_nil) ?_
 rcases Classical.em (¬Sp.checkE gs 200 = 0) with d3 | d3
 ·have H:=H.1 d3
  exact path_ret (G:=given kp37 [] []) 1000 [true] (k:=((atC (cd Try.f37) [1,0,1,1,0,1])).tail) (env':=[(4,AV.int IntKind.i64 0),(5,AV.int IntKind.i64 (Sp.checkE gs 200))]) (L':=[]) (asm:=[(Sp.checkE gs 200 != 0) == true]) (eqs:=[]) (calls:=[]) (AV.tup [AV.int IntKind.i64 0,AV.int IntKind.i64 (Sp.checkE gs 200)]) (by kernel_rfl) (by kernel_rfl) (allB_cons (beq_t (i2.2 d3)) allB_nil) allP_nil allC_nil (pq_of (d:=(AV.tup [AV.int IntKind.i64 0,AV.int IntKind.i64 (Sp.checkE gs 200)])) (bs:=[]) (by kernel_rfl) (by kernel_rfl) allB_nil (by kernel_rfl) H)
 ·have H:=H.2 d3
  have w4:(List.map G2.a gs).length = gs.length:=List.length_map ..
  have k5:=H.1;have H:=H.2
  have i6:(!Sp.isOrd o (↑gs.length:Int)) = true ↔ (¬(Sp.isOrd o (↑gs.length:Int) = true)):=(i_not (i_var _))
  refine path_wp (G:=given kp37 [(4,3,.call (AV.bool (Sp.isOrd o (↑gs.length:Int))) none)] []) 5 [false] ⟨(atC (cd Try.f37) [1,1,0,1]),[(0,AV.vec fl 2 (List.map G2.a gs)),(1,AV.vec fm 1 (List.map (AV.int IntKind.i64) o)),(16,AV.bool !Sp.isOrd o (↑gs.length:Int))],[],[(Sp.checkE gs 200 != 0) == false],[],[⟨true,false,63,[AV.vec fm 1 (List.map (AV.int IntKind.i64) o),AV.int IntKind.i64 (↑(List.map G2.a gs).length:Int)],[],AV.bool (Sp.isOrd o (↑gs.length:Int)),[]⟩]⟩ (by kernel_rfl) (allB_cons (beq_f (fun h => d3 (i2.1 h))) allB_nil) allP_nil (allC_cons (fun _ => ((by (try rw [w4]);all_goals exact (@ev63 (fm) (o) ((↑gs.length:Int)) k5)):Ev M1 (Conf.pure 63 [AV.vec fm 1 (List.map (AV.int IntKind.i64) o),AV.int IntKind.i64 (↑(List.map G2.a gs).length:Int)]) (AV.bool (Sp.isOrd o (↑gs.length:Int))) [])) allC_nil) ?_
  rcases Classical.em (¬(Sp.isOrd o (↑gs.length:Int) = true)) with d7 | d7
  ·have H:=H.1 d7
   exact path_ret (G:=given kp37 [] []) 1000 [true] (k:=((atC (cd Try.f37) [1,1,0,1,0,1])).tail) (env':=[(4,AV.int IntKind.i64 0),(5,AV.int IntKind.i64 1)]) (L':=[]) (asm:=[(!Sp.isOrd o (↑gs.length:Int)) == true]) (eqs:=[]) (calls:=[]) (AV.tup [AV.int IntKind.i64 0,AV.int IntKind.i64 1]) (by kernel_rfl) (by kernel_rfl) (allB_cons (beq_t (i6.2 d7)) allB_nil) allP_nil allC_nil (pq_of (d:=(AV.tup [AV.int IntKind.i64 0,AV.int IntKind.i64 1])) (bs:=[]) (by kernel_rfl) (by kernel_rfl) allB_nil (by kernel_rfl) H)
  ·have H:=H.2 d7
   have k8:=H.1;have H:=H.2
   have k9:=H.1;have H:=H.2
   have k10:=H.1;have H:=H.2
   exact path_ret (G:=given kp37 [(6,2,.call (AV.int IntKind.i64 (Sp.way gs o)) none)] []) 1000 [false] (k:=((atC (cd Try.f37) [1,1,1,1])).tail) (env':=[(4,AV.int IntKind.i64 (Sp.way gs o)),(5,AV.int IntKind.i64 0)]) (L':=[]) (asm:=[(!Sp.isOrd o (↑gs.length:Int)) == false]) (eqs:=[]) (calls:=[⟨true,false,70,[AV.vec fl 2 (List.map G2.a gs),AV.vec fm 1 (List.map (AV.int IntKind.i64) o)],[],AV.int IntKind.i64 (Sp.way gs o),[]⟩]) (AV.tup [AV.int IntKind.i64 (Sp.way gs o),AV.int IntKind.i64 0]) (by kernel_rfl) (by kernel_rfl) (allB_cons (beq_f (fun h => d7 (i6.1 h))) allB_nil) allP_nil (allC_cons (fun _ => ((@ev70 (fl) (fm) (gs) (o) k8 k9 k10):Ev M1 (Conf.pure 70 [AV.vec fl 2 (List.map G2.a gs),AV.vec fm 1 (List.map (AV.int IntKind.i64) o)]) (AV.int IntKind.i64 (Sp.way gs o)) [])) allC_nil) (pq_of (d:=(AV.tup [AV.int IntKind.i64 (Sp.way gs o),AV.int IntKind.i64 0])) (bs:=[]) (by kernel_rfl) (by kernel_rfl) allB_nil (by kernel_rfl) H)
end Go.Av

namespace Go.Av
open Go.Proofs
namespace Sp
def lengthE (gs:List G2) (o:List Int):Int:=if checkE gs 200 = 0 then (if isOrd o gs.length = true then 0 else 1) else checkE gs 200
def lengthV (gs:List G2) (o:List Int):Int:=if lengthE gs o = 0 then way gs o else 0
end Sp
theorem isOrd_okO {gs:List G2} {o:List Int} (h:Sp.isOrd o gs.length = true):Sp.okO gs o /\ o.length = gs.length:=
 ⟨fun x hx => (isOrd_facts h).2.1 x hx,by have:=(isOrd_facts h).1;omega⟩
theorem ev37 (fl fm:Bool) (gs:List G2) (o:List Int):Ev M1 (.pure 37 [gsA fl gs,isA fm o]) (.tup [.int .i64 (Sp.lengthV gs o),.int .i64 (Sp.lengthE gs o)]) []:=by
 refine call37 (tv12 fl fm gs o _ ⟨by simp [Sp.mOk],fun h => ?_,fun h => ⟨by have:=(check_okG (Classical.not_not.1 h)).2;omega,fun k => ?_,fun k => ?_⟩⟩)
 ·have e:Sp.lengthE gs o = Sp.checkE gs 200:=if_neg h
  rw [Sp.lengthV,e,if_neg h]
 ·have h:=Classical.not_not.1 h
  have e:Sp.lengthE gs o = 1:=by rw [Sp.lengthE,if_pos h,if_neg k]
  rw [Sp.lengthV,e,if_neg (by simp)]
 ·have h:=Classical.not_not.1 h
  have k:=Classical.not_not.1 k
  have e:Sp.lengthE gs o = 0:=by rw [Sp.lengthE,if_pos h,if_pos k]
  obtain ⟨c1,c2⟩:=check_okG h
  obtain ⟨c3,c4⟩:=isOrd_okO k
  exact ⟨c1,c3,by omega,by rw [Sp.lengthV,e,if_pos rfl]⟩
end Go.Av

namespace Go.Av
open Go.Proofs
abbrev srow (fl:Bool) (gs:List G2) (b:List Int) (fb:Bool):Row:=⟨[.agg [gsA fl gs,.vec fb 1 (b.map (.int .i64)),.int .i64 (Sp.way gs b)]],3,0,false,false⟩
abbrev srow0 (fl:Bool) (gs:List G2) (le:Int):Row:=⟨[.agg [gsA fl gs,.vnil,.int .i64 le]],3,0,false,false⟩
abbrev orow (o:List Int) (v:Nat) (fz:Bool):Row:=⟨o.map (.int .i64),1,v,fz,true⟩
def Ext38 (fl:Bool) (gs:List G2) (k:Nat):Prop:=∀ (o:List Int) (v:Nat),Sp.begins gs k o ->
 (∀ le,∃ fb' fz,Ev M1 (.own 67 [.ptr 0 0 0 0,.row 1 v,.int .i64 (Sp.way gs o)] [srow0 fl gs le,orow o v false]) (.tup []) [srow fl gs (Sp.srch gs k o []) fb',orow o v fz]) /\
 (∀ fb b,b ≠ [] -> ∃ fb' fz,Ev M1 (.own 67 [.ptr 0 0 0 0,.row 1 v,.int .i64 (Sp.way gs o)] [srow fl gs b fb,orow o v false]) (.tup []) [srow fl gs (Sp.srch gs k o b) fb',orow o v fz])
theorem ext_call {gs:List G2} {i:Nat} {o:List Int} {s:Row} {K:Heap} (hg:Sp.okG gs) (hl:gs.length <= 1000) (ho:0 < o.length /\ o.length <= 1000)
  (h:Ev M1 (.own 67 [.ptr 0 0 0 0,.row 1 1,.int .i64 (Sp.way gs (o ++ [(i:Int)]))] [s,orow (o ++ [(i:Int)]) 1 false]) (.tup []) K) :
  Ev M1 (.own 67 [.ptr 0 0 0 0,.row 1 1,.int .i64 (IntKind.i64.wrap (Sp.way gs o + Sp.dist (gs.getD (o.getD (o.length - 1) default).toNat default).x (gs.getD (o.getD (o.length - 1) default).toNat default).y (gs.getD i default).x (gs.getD i default).y))]
   [s,⟨o.map (.int .i64) ++ [.int .i64 i],1,1,false,true⟩]) (.tup []) K:=by
 have e:Sp.dist (gs.getD (o.getD (o.length - 1) default).toNat default).x (gs.getD (o.getD (o.length - 1) default).toNat default).y (gs.getD i default).x (gs.getD i default).y = Sp.dAt gs (o.getD (o.length - 1) default) i:=rfl
 have h1:=way_le hg o
 have h2:=dAt_le hg (o.getD (o.length - 1) default) i
 have e2:o.map (.int .i64) ++ [AV.int .i64 i] = (o ++ [(i:Int)]).map (.int .i64):=by simp
 rw [e,w64 _ (by omega),<- way_snoc gs o i ho.1,e2]
 exact h
theorem ext_loopS {fl:Bool} {gs:List G2} {k:Nat} {o:List Int} {v:Nat} (hg:Sp.okG gs) (hl:gs.length <= 1000) (hE:Ext38 fl gs k) (ho:Sp.begins gs (k + 1) o) :
  ∀ (c i:Nat) (fb:Bool) (b:List Int),b ≠ [] -> i + c = gs.length -> ∃ fb',tv38sa_at fl gs o (Sp.way gs o) (Sp.way gs b) v gs.length i fb (Sp.hd b) (Sp.tl b) (KeepQ (.tup []) [srow fl gs ((List.range' i c).foldl (Sp.step gs k o) b) fb',orow o v false])
 | 0,i,fb,b,hb,hi => by
  refine ⟨fb,tv38sa fl gs o _ _ v _ _ fb (Sp.hd b) (Sp.tl b) 0 0 [] false false _ _ rfl ⟨fun h => by omega,fun _ => ⟨rfl,?_⟩⟩⟩
  have e:(AV.int .i64 (Sp.hd b) :: (Sp.tl b).map (.int .i64)) = b.map (.int .i64):=by
   rw [<- List.map_cons,hd_tl hb]
  rw [e];rfl
 | c + 1,i,fb,b,hb,hi => by
  have hol:=ho.1
  have ho0:=ho.2.2.2
  by_cases hm:(i:Int) ∈ o
  ·obtain ⟨fb',h⟩:=ext_loopS (v:=v) hg hl hE ho c (i + 1) fb b hb (by omega)
   refine ⟨fb',tv38sa fl gs o _ _ v _ _ fb (Sp.hd b) (Sp.tl b) 0 0 [] false false _ _ rfl ⟨fun _ => ⟨by omega,fun k => absurd (has_iff.2 hm) k,fun _ => ⟨by omega,?_⟩⟩,fun h => by omega⟩⟩
   have e:Sp.step gs k o b i = b:=if_pos hm
   rw [range_step,e]
   exact h
  ·have hbeg:=begins_snoc ho (show i < gs.length by omega) hm
   obtain ⟨fb1,fz1,h1⟩:=(hE _ 1 hbeg).2 fb b hb
   have hr:=srch_some (gs:=gs) k (o ++ [(i:Int)]) b hb (by simp)
   obtain ⟨fb',h⟩:=ext_loopS (v:=v) hg hl hE ho c (i + 1) fb1 _ hr (by omega)
   have e1:((o.length:Int) - 1).toNat = o.length - 1:=by omega
   have hlast:=ho.2.2.1 _ (getD_mem (show o.length - 1 < o.length by omega))
   refine ⟨fb',tv38sa fl gs o _ _ v _ _ fb (Sp.hd b) (Sp.tl b) (Sp.hd (Sp.srch gs k (o ++ [(i:Int)]) b)) (Sp.way gs (Sp.srch gs k (o ++ [(i:Int)]) b)) (Sp.tl (Sp.srch gs k (o ++ [(i:Int)]) b)) fz1 fb1 _ _ rfl ⟨fun _ => ⟨by omega,fun _ => ?_,fun k => absurd (fun x => hm (has_iff.1 x)) k⟩,fun h => by omega⟩⟩
   rw [e1,Int.toNat_natCast]
   refine ⟨by omega,by omega,⟨(okG_at hg _).1,(okG_at hg _).2,(okG_at hg _).1,(okG_at hg _).2⟩,?_,by omega,by omega,by omega,hlast.1,by omega,by omega,by omega,by omega,?_⟩
   ·refine ext_call hg hl (by omega) ?_
    have e2:∀ r:List Int,r ≠ [] -> (AV.int .i64 (Sp.hd r) :: (Sp.tl r).map (.int .i64)) = r.map (.int .i64):=fun r hr => by rw [<- List.map_cons,hd_tl hr]
    rw [e2 _ hb,e2 _ hr]
    exact h1
   ·have e:Sp.step gs k o b i = Sp.srch gs k (o ++ [(i:Int)]) b:=if_neg hm
    rw [range_step,e]
    exact h
theorem ext_loopN {fl:Bool} {gs:List G2} {k:Nat} {o:List Int} {v:Nat} {le:Int} (hg:Sp.okG gs) (hl:gs.length <= 1000) (hE:Ext38 fl gs k) (ho:Sp.begins gs (k + 1) o) :
  ∀ (c i:Nat),i + c = gs.length -> (List.range' i c).foldl (Sp.step gs k o) [] ≠ [] -> ∃ fb',tv38na_at fl gs o (Sp.way gs o) le v gs.length i (KeepQ (.tup []) [srow fl gs ((List.range' i c).foldl (Sp.step gs k o) []) fb',orow o v false])
 | 0,i,hi,hne => absurd rfl hne
 | c + 1,i,hi,hne => by
  have hol:=ho.1
  have ho0:=ho.2.2.2
  rw [range_step] at hne
  by_cases hm:(i:Int) ∈ o
  ·have e:Sp.step gs k o [] i = []:=if_pos hm
   rw [e] at hne
   obtain ⟨fb',h⟩:=ext_loopN (v:=v) (le:=le) hg hl hE ho c (i + 1) (by omega) hne
   refine ⟨fb',tv38na fl gs o _ _ v _ _ 0 0 [] false false _ _ rfl ⟨fun _ => ⟨by omega,fun k => absurd (has_iff.2 hm) k,fun _ => ⟨by omega,?_⟩⟩,fun h => by omega⟩⟩
   rw [range_step,e]
   exact h
  ·have hbeg:=begins_snoc ho (show i < gs.length by omega) hm
   obtain ⟨fb1,fz1,h1⟩:=(hE _ 1 hbeg).1 le
   have hr:=srch_full (gs:=gs) k (o ++ [(i:Int)]) hbeg
   obtain ⟨fb',h⟩:=ext_loopS (v:=v) hg hl hE ho c (i + 1) fb1 _ hr (by omega)
   have e1:((o.length:Int) - 1).toNat = o.length - 1:=by omega
   have hlast:=ho.2.2.1 _ (getD_mem (show o.length - 1 < o.length by omega))
   refine ⟨fb',tv38na fl gs o _ _ v _ _ (Sp.hd (Sp.srch gs k (o ++ [(i:Int)]) [])) (Sp.way gs (Sp.srch gs k (o ++ [(i:Int)]) [])) (Sp.tl (Sp.srch gs k (o ++ [(i:Int)]) [])) fz1 fb1 _ _ rfl ⟨fun _ => ⟨by omega,fun _ => ?_,fun k => absurd (fun x => hm (has_iff.1 x)) k⟩,fun h => by omega⟩⟩
   rw [e1,Int.toNat_natCast]
   refine ⟨by omega,by omega,⟨(okG_at hg _).1,(okG_at hg _).2,(okG_at hg _).1,(okG_at hg _).2⟩,?_,by omega,by omega,by omega,hlast.1,by omega,by omega,by omega,by omega,?_⟩
   ·refine ext_call hg hl (by omega) ?_
    have e2:∀ r:List Int,r ≠ [] -> (AV.int .i64 (Sp.hd r) :: (Sp.tl r).map (.int .i64)) = r.map (.int .i64):=fun r hr => by rw [<- List.map_cons,hd_tl hr]
    rw [e2 _ hr]
    exact h1
   ·have e:Sp.step gs k o [] i = Sp.srch gs k (o ++ [(i:Int)]) []:=if_neg hm
    rw [range_step,e]
    exact h
theorem ext38 {fl:Bool} {gs:List G2} (hg:Sp.okG gs) (hl:gs.length <= 1000):∀ k,Ext38 fl gs k
 | 0 => by
  intro o v h
  have hol:=h.1
  refine ⟨fun le => ⟨false,true,keepcall67 rfl (tv38n fl gs o _ le v _ _ rfl ⟨fun _ => ⟨by omega,rfl,?_⟩,fun k => by omega⟩)⟩,fun fb b hb => ?_⟩
  ·have e:Sp.srch gs 0 o [] = o:=by rw [Sp.srch,if_pos (.inl rfl)]
   rw [e];rfl
  ·have hb0:0 < b.length:=List.length_pos_iff.2 hb
   obtain ⟨x,l,rfl⟩:=List.exists_cons_of_ne_nil hb
   by_cases hc:Sp.way gs o >= Sp.way gs (x :: l)
   ·have e:Sp.srch gs 0 o (x :: l) = x :: l:=by rw [Sp.srch,if_neg (by omega)]
    rw [e]
    exact ⟨fb,false,keepcall67 rfl (tv38s fl gs o _ _ v fb x l _ _ rfl ⟨fun _ => ⟨rfl,rfl⟩,fun k => absurd hc k⟩)⟩
   ·have e:Sp.srch gs 0 o (x :: l) = o:=by rw [Sp.srch,if_pos (by omega)]
    rw [e]
    exact ⟨false,true,keepcall67 rfl (tv38s fl gs o _ _ v fb x l _ _ rfl ⟨fun k => absurd k hc,fun _ => ⟨fun _ => ⟨by omega,rfl,rfl⟩,fun k => by omega⟩⟩)⟩
 | k + 1 => by
  intro o v h
  have hol:=h.1
  have hE:=ext38 (fl:=fl) hg hl k
  refine ⟨fun le => ?_,fun fb b hb => ?_⟩
  ·have hne:=srch_full (gs:=gs) (k + 1) o h
   rw [srch_succ] at hne ⊢
   obtain ⟨fb',hw⟩:=ext_loopN (fl:=fl) (v:=v) (le:=le) hg hl hE h gs.length 0 (by omega) hne
   exact ⟨fb',false,keepcall67 rfl (tv38n fl gs o _ le v _ _ rfl ⟨fun k => by omega,fun _ => hw⟩)⟩
  ·by_cases hc:Sp.way gs o >= Sp.way gs b
   ·rw [srch_ge hg (k + 1) o b h.2.2.2 hb hc]
    obtain ⟨x,l,rfl⟩:=List.exists_cons_of_ne_nil hb
    exact ⟨fb,false,keepcall67 rfl (tv38s fl gs o _ _ v fb x l _ _ rfl ⟨fun _ => ⟨rfl,rfl⟩,fun k => absurd hc k⟩)⟩
   ·rw [srch_succ]
    obtain ⟨fb',hw⟩:=ext_loopS (fl:=fl) (v:=v) hg hl hE h gs.length 0 fb b hb (by omega)
    obtain ⟨x,l,rfl⟩:=List.exists_cons_of_ne_nil hb
    exact ⟨fb',false,keepcall67 rfl (tv38s fl gs o _ _ v fb x l _ _ rfl ⟨fun k => absurd k hc,fun _ => ⟨fun k => by omega,fun _ => hw⟩⟩)⟩
end Go.Av

namespace Go.Av
open Go.Proofs
set_option maxRecDepth 100000
def fi34:Fi:=⟨29,[.tmp 2,.tmp 3,.tmp 4]⟩
def kp34:List (Nat × List Nat):=[(0,[0]),(1,[0,5]),(2,[0,5,10]),(3,[2,3,4]),(4,[0,14]),(5,[2,3,4]),(6,[6]),(7,[6]),(8,[2,3,4])]
def tv22_at (fl:Bool) (gs:List G2) (Q:AV -> Heap -> Prop):Prop:=Wp M1 (.run fi34 (atC (cd Try.f34) []) [(0,.vec fl 2 (gs.map G2.a))] []) Q
theorem call34 {args:List AV} {d:AV} (h:wc M1 fi34 Try.f34 args d):Ev M1 (.pure 34 args) d []:=pcl _ _ (by kernel_rfl) h
theorem tv22 (fl:Bool) (gs:List G2) (r0 rl:Int) (rt:List Int) (rf rb:Bool) (dq:AV) (H :
  (Sp.mOk 10) /\
  ((¬Sp.checkE gs 10 = 0) -> Weak (AV.tup [AV.vnil,AV.int IntKind.i64 0,AV.int IntKind.i64 (Sp.checkE gs 10)]) dq) /\
  (¬(¬Sp.checkE gs 10 = 0) -> (((↑gs.length:Int) = 0) -> Weak (AV.tup [AV.vnil,AV.int IntKind.i64 0,AV.int IntKind.i64 0]) dq) /\
   (¬((↑gs.length:Int) = 0) -> (Ev M1 (Conf.own 67 [AV.ptr 0 0 0 0,AV.row 1 0,AV.int IntKind.i64 0] [{ elems:=[AV.agg [AV.vec fl 2 (List.map G2.a gs),AV.vnil,AV.int IntKind.i64 0]],es:=3,ver:=0,frozen:=false,clean:=false },{ elems:=[AV.int IntKind.i64 0],es:=1,ver:=0,frozen:=false,clean:=true }]) (AV.tup []) [{ elems:=[AV.agg [AV.vec fl 2 (List.map G2.a gs),AV.vec rb 1 (AV.int IntKind.i64 r0 :: List.map (AV.int IntKind.i64) rt),AV.int IntKind.i64 rl]],es:=3,ver:=0,frozen:=false,clean:=false },{ elems:=[AV.int IntKind.i64 0],es:=1,ver:=0,frozen:=rf,clean:=true }]) /\
    Weak (AV.tup [AV.vec rb 1 (AV.int IntKind.i64 r0 :: List.map (AV.int IntKind.i64) rt),AV.int IntKind.i64 rl,AV.int IntKind.i64 0]) dq))) :
 tv22_at fl gs (PureQ dq):=by
 unfold tv22_at
 have k1:=H.1;have H:=H.2
 have i2:(Sp.checkE gs 10 != 0) = true ↔ (¬Sp.checkE gs 10 = 0):=i_ne
 refine path_wp (G:=given kp34 [(1,1,.call (AV.int IntKind.i64 (Sp.checkE gs 10)) none)] []) 7 [] ⟨(atC (cd Try.f34) [1,0,1,1]),[(0,AV.vec fl 2 (List.map G2.a gs)),(5,AV.int IntKind.i64 (Sp.checkE gs 10)),(10,AV.bool (Sp.checkE gs 10 != 0))],[],[],[],[⟨true,false,62,[AV.vec fl 2 (List.map G2.a gs),AV.int IntKind.i64 10],[],AV.int IntKind.i64 (Sp.checkE gs 10),[]⟩]⟩ (by kernel_rfl) allB_nil allP_nil (allC_cons (fun _ => ((@ev62 (fl) (gs) (10) k1):Ev M1 (Conf.pure 62 [AV.vec fl 2 (List.map G2.a gs),AV.int IntKind.i64 10]) (AV.int IntKind.i64 (Sp.checkE gs 10)) [])) allC_nil) ?_
 rcases Classical.em (¬Sp.checkE gs 10 = 0) with d3 | d3
 ·have H:=H.1 d3
  exact path_ret (G:=given kp34 [] []) 1000 [true] (k:=((atC (cd Try.f34) [1,0,1,1,0,1])).tail) (env':=[(2,AV.vnil),(3,AV.int IntKind.i64 0),(4,AV.int IntKind.i64 (Sp.checkE gs 10))]) (L':=[]) (asm:=[(Sp.checkE gs 10 != 0) == true]) (eqs:=[]) (calls:=[]) (AV.tup [AV.vnil,AV.int IntKind.i64 0,AV.int IntKind.i64 (Sp.checkE gs 10)]) (by kernel_rfl) (by kernel_rfl) (allB_cons (beq_t (i2.2 d3)) allB_nil) allP_nil allC_nil (pq_weak (d:=(AV.tup [AV.vnil,AV.int IntKind.i64 0,AV.int IntKind.i64 (Sp.checkE gs 10)])) (bs:=[]) (by kernel_rfl) (by kernel_rfl) allB_nil (by kernel_rfl) H)
 ·have H:=H.2 d3
  have w4:(List.map G2.a gs).length = gs.length:=List.length_map ..
  have i5:((↑(List.map G2.a gs).length:Int) == 0) = true ↔ ((↑gs.length:Int) = 0):=(by (try rw [w4]);all_goals exact i_eq)
  rcases Classical.em ((↑gs.length:Int) = 0) with d6 | d6
  ·have H:=H.1 d6
   exact path_ret (G:=given kp34 [] []) 1000 [false,true] (k:=((atC (cd Try.f34) [1,1,0,1,0,1])).tail) (env':=[(2,AV.vnil),(3,AV.int IntKind.i64 0),(4,AV.int IntKind.i64 0)]) (L':=[]) (asm:=[(Sp.checkE gs 10 != 0) == false,((↑(List.map G2.a gs).length:Int) == 0) == true]) (eqs:=[]) (calls:=[]) (AV.tup [AV.vnil,AV.int IntKind.i64 0,AV.int IntKind.i64 0]) (by kernel_rfl) (by kernel_rfl) (allB_cons (beq_f (fun h => d3 (i2.1 h))) (allB_cons (beq_t (i5.2 d6)) allB_nil)) allP_nil allC_nil (pq_weak (d:=(AV.tup [AV.vnil,AV.int IntKind.i64 0,AV.int IntKind.i64 0])) (bs:=[]) (by kernel_rfl) (by kernel_rfl) allB_nil (by kernel_rfl) H)
  ·have H:=H.2 d6
   have k7:=H.1;have H:=H.2
   exact path_ret (G:=given kp34 [(7,1,.keep),(7,2,(.call (.tup []) (some [⟨[.agg [.vec fl 2 (gs.map G2.a),.vec rb 1 ((r0 :: rt).map (.int .i64)),.int .i64 rl]],3,0,false,false⟩,⟨[.int .i64 0],1,0,rf,true⟩]):Ans))] []) 1000 [false,false] (k:=((atC (cd Try.f34) [1,1,1,1,1,1])).tail) (env':=[(2,AV.vec rb 1 (AV.int IntKind.i64 r0 :: List.map (AV.int IntKind.i64) rt)),(3,AV.int IntKind.i64 rl),(4,AV.int IntKind.i64 0)]) (L':=[{ elems:=[AV.agg [AV.vec fl 2 (List.map G2.a gs),AV.vec rb 1 (AV.int IntKind.i64 r0 :: List.map (AV.int IntKind.i64) rt),AV.int IntKind.i64 rl]],es:=3,ver:=0,frozen:=false,clean:=false },{ elems:=[AV.int IntKind.i64 0],es:=1,ver:=0,frozen:=rf,clean:=true }]) (asm:=[(Sp.checkE gs 10 != 0) == false,((↑(List.map G2.a gs).length:Int) == 0) == false,true,true]) (eqs:=[]) (calls:=[⟨true,true,67,[AV.ptr 0 0 0 0,AV.row 1 0,AV.int IntKind.i64 0],[{ elems:=[AV.agg [AV.vec fl 2 (List.map G2.a gs),AV.vnil,AV.int IntKind.i64 0]],es:=3,ver:=0,frozen:=false,clean:=false },{ elems:=[AV.int IntKind.i64 0],es:=1,ver:=0,frozen:=false,clean:=true }],AV.tup [],[{ elems:=[AV.agg [AV.vec fl 2 (List.map G2.a gs),AV.vec rb 1 (AV.int IntKind.i64 r0 :: List.map (AV.int IntKind.i64) rt),AV.int IntKind.i64 rl]],es:=3,ver:=0,frozen:=false,clean:=false },{ elems:=[AV.int IntKind.i64 0],es:=1,ver:=0,frozen:=rf,clean:=true }]⟩]) (AV.tup [AV.vec rb 1 (AV.int IntKind.i64 r0 :: List.map (AV.int IntKind.i64) rt),AV.int IntKind.i64 rl,AV.int IntKind.i64 0]) (by kernel_rfl) (by kernel_rfl) (allB_cons (beq_f (fun h => d3 (i2.1 h))) (allB_cons (beq_f (fun h => d6 (i5.1 h))) (allB_cons rfl (allB_cons rfl allB_nil)))) allP_nil (allC_cons (fun _ => (k7:Ev M1 (Conf.own 67 [AV.ptr 0 0 0 0,AV.row 1 0,AV.int IntKind.i64 0] [{ elems:=[AV.agg [AV.vec fl 2 (List.map G2.a gs),AV.vnil,AV.int IntKind.i64 0]],es:=3,ver:=0,frozen:=false,clean:=false },{ elems:=[AV.int IntKind.i64 0],es:=1,ver:=0,frozen:=false,clean:=true }]) (AV.tup []) [{ elems:=[AV.agg [AV.vec fl 2 (List.map G2.a gs),AV.vec rb 1 (AV.int IntKind.i64 r0 :: List.map (AV.int IntKind.i64) rt),AV.int IntKind.i64 rl]],es:=3,ver:=0,frozen:=false,clean:=false },{ elems:=[AV.int IntKind.i64 0],es:=1,ver:=0,frozen:=rf,clean:=true }])) allC_nil) (pq_weak (d:=(AV.tup [AV.vec rb 1 (AV.int IntKind.i64 r0 :: List.map (AV.int IntKind.i64) rt),AV.int IntKind.i64 rl,AV.int IntKind.i64 0])) (bs:=[]) (by kernel_rfl) (by kernel_rfl) allB_nil (by kernel_rfl) H)
end Go.Av

namespace Go.Av
open Go.Proofs
set_option maxRecDepth 100000
def fi36:Fi:=⟨46,[.tmp 4,.tmp 5]⟩
def kp36:List (Nat × List Nat):=[(0,[0,1]),(1,[0,1,6]),(2,[0,1,6,14]),(3,[4,5]),(4,[0,1,25]),(5,[4,5]),(6,[0,1,26,27,28]),(7,[0,1,26,27,28,29]),(8,[0,1,8,26,27,28]),(9,[0,1,26,27,28,37]),(10,[4,5]),(11,[0,1,26,27,28]),(12,[9]),(13,[4,5])]
def tv24a_at (fl fw:Bool) (gs:List G2) (w:List Int) (fx:Bool) (x:List Int) (n i:Int) (Q:AV -> Heap -> Prop):Prop:=Wp M1 (.run fi36 (atC (cd Try.f36) [1,1,1,0,1,0,0]) [(0,.vec fl 2 (gs.map G2.a)),(1,.vec fw 1 (w.map (.int .i64))),(26,.vec fx 1 (x.map (.int .i64))),(27,.int .i64 n),(28,.int .i64 i)] []) Q
def tv24_at (fl fw:Bool) (gs:List G2) (w:List Int) (Q:AV -> Heap -> Prop):Prop:=Wp M1 (.run fi36 (atC (cd Try.f36) []) [(0,.vec fl 2 (gs.map G2.a)),(1,.vec fw 1 (w.map (.int .i64)))] []) Q
theorem call36 {args:List AV} {d:AV} (h:wc M1 fi36 Try.f36 args d):Ev M1 (.pure 36 args) d []:=pcl _ _ (by kernel_rfl) h
theorem tv24a (fl fw:Bool) (gs:List G2) (w:List Int) (fx:Bool) (x:List Int) (n i:Int)  (dq:AV) (H :
  ((i < n) -> (0 <= i) /\
   (i.toNat < x.length) /\
   (((x.getD i.toNat default > 20000000) \/ (x.getD i.toNat default < -20000000)) -> AV.tup [AV.int IntKind.i64 0,AV.int IntKind.i64 11] = dq) /\
   (¬((x.getD i.toNat default > 20000000) \/ (x.getD i.toNat default < -20000000)) -> (-9223372036854775808 <= i + 1 /\ i + 1 <= 9223372036854775807) /\
    tv24a_at (fl) (fw) (gs) (w) (fx) (x) (n) (i + 1) (PureQ dq))) /\
  (¬(i < n) -> (Sp.okG gs /\ gs.length <= 1000 /\ Sp.okW w /\ w.length = gs.length) /\
   AV.tup [AV.int IntKind.i64 (if (↑gs.length:Int) < 2 then 0 else Sp.boundV gs w),AV.int IntKind.i64 0] = dq)) :
 tv24a_at fl fw gs w fx x n i (PureQ dq):=by
 unfold tv24a_at
 have i1:(decide (i < n)) = true ↔ (i < n):=i_dec
 rcases Classical.em (i < n) with d2 | d2
 ·have H:=H.1 d2
  have i3:(decide (0 <= i)) = true ↔ (0 <= i):=i_dec
  have k4:=H.1;have H:=H.2
  have w5:(List.map (AV.int IntKind.i64) x).length = x.length:=List.length_map ..
  have i6:(decide (i.toNat < (List.map (AV.int IntKind.i64) x).length)) = true ↔ (i.toNat < x.length):=(by (try rw [w5]);all_goals exact i_dec)
  have k7:=H.1;have H:=H.2
  have i8:(bif decide (x.getD i.toNat default > 20000000) then true else decide (x.getD i.toNat default < -20000000)) = true ↔ ((x.getD i.toNat default > 20000000) \/ (x.getD i.toNat default < -20000000)):=(i_bor i_dec i_dec)
  refine path_wp (G:=given kp36 [(8,1,.elem (AV.int IntKind.i64 (x.getD i.toNat default)))] []) 11 [true] ⟨(atC (cd Try.f36) [1,1,1,0,1,0,0,1,1,0,0,1,1]),[(0,AV.vec fl 2 (List.map G2.a gs)),(1,AV.vec fw 1 (List.map (AV.int IntKind.i64) w)),(26,AV.vec fx 1 (List.map (AV.int IntKind.i64) x)),(27,AV.int IntKind.i64 n),(28,AV.int IntKind.i64 i),(37,AV.bool (bif decide (x.getD i.toNat default > 20000000) then true else decide (x.getD i.toNat default < -20000000)))],[],[(decide (i < n)) == true,decide (0 <= i),decide (i.toNat < (List.map (AV.int IntKind.i64) x).length)],[((List.map (AV.int IntKind.i64) x).get?Internal i.toNat = some (AV.int IntKind.i64 (x.getD i.toNat default)))],[]⟩ (by kernel_rfl) (allB_cons (beq_t (i1.2 d2)) (allB_cons (i3.2 k4) (allB_cons (i6.2 k7) allB_nil))) (allP_cons (el_map k7) allP_nil) allC_nil ?_
  rcases Classical.em ((x.getD i.toNat default > 20000000) \/ (x.getD i.toNat default < -20000000)) with d9 | d9
  ·have H:=H.1 d9
   exact path_ret (G:=given kp36 [] []) 1000 [true] (k:=((atC (cd Try.f36) [1,1,1,0,1,0,0,1,1,0,0,1,1,0,1])).tail) (env':=[(4,AV.int IntKind.i64 0),(5,AV.int IntKind.i64 11)]) (L':=[]) (asm:=[(bif decide (x.getD i.toNat default > 20000000) then true else decide (x.getD i.toNat default < -20000000)) == true]) (eqs:=[]) (calls:=[]) (AV.tup [AV.int IntKind.i64 0,AV.int IntKind.i64 11]) (by kernel_rfl) (by kernel_rfl) (allB_cons (beq_t (i8.2 d9)) allB_nil) allP_nil allC_nil (pq_of (d:=(AV.tup [AV.int IntKind.i64 0,AV.int IntKind.i64 11])) (bs:=[]) (by kernel_rfl) (by kernel_rfl) allB_nil (by kernel_rfl) H)
  ·have H:=H.2 d9
   have k10:=H.1;have H:=H.2
   have w11:IntKind.i64.wrap (i + 1) = i + 1:=wI64 k10
   exact path_wp (G:=given kp36 [] []) 1000 [false] ⟨(atC (cd Try.f36) [1,1,1,0,1,0,0]),[(0,AV.vec fl 2 (List.map G2.a gs)),(1,AV.vec fw 1 (List.map (AV.int IntKind.i64) w)),(26,AV.vec fx 1 (List.map (AV.int IntKind.i64) x)),(27,AV.int IntKind.i64 n),(28,AV.int IntKind.i64 (IntKind.i64.wrap (i + 1)))],[],[(bif decide (x.getD i.toNat default > 20000000) then true else decide (x.getD i.toNat default < -20000000)) == false],[],[]⟩ (by kernel_rfl) (allB_cons (beq_f (fun h => d9 (i8.1 h))) allB_nil) allP_nil allC_nil (by (try rw [w11]);all_goals exact H)
 ·have H:=H.2 d2
  have k12:=H.1;have H:=H.2
  exact path_ret (G:=given kp36 [(12,2,.call (AV.tup [AV.int IntKind.i64 (if (↑gs.length:Int) < 2 then 0 else Sp.boundV gs w),AV.vec false 1 (List.map (AV.int IntKind.i64) (Sp.spanPairs gs w))]) none)] []) 1000 [false] (k:=((atC (cd Try.f36) [1,1,1,1,1,1])).tail) (env':=[(4,AV.int IntKind.i64 (if (↑gs.length:Int) < 2 then 0 else Sp.boundV gs w)),(5,AV.int IntKind.i64 0)]) (L':=[]) (asm:=[(decide (i < n)) == false]) (eqs:=[]) (calls:=[⟨true,false,69,[AV.vec fl 2 (List.map G2.a gs),AV.vec fw 1 (List.map (AV.int IntKind.i64) w)],[],AV.tup [AV.int IntKind.i64 (if (↑gs.length:Int) < 2 then 0 else Sp.boundV gs w),AV.vec false 1 (List.map (AV.int IntKind.i64) (Sp.spanPairs gs w))],[]⟩]) (AV.tup [AV.int IntKind.i64 (if (↑gs.length:Int) < 2 then 0 else Sp.boundV gs w),AV.int IntKind.i64 0]) (by kernel_rfl) (by kernel_rfl) (allB_cons (beq_f (fun h => d2 (i1.1 h))) allB_nil) allP_nil (allC_cons (fun _ => ((@ev69 (fl) (fw) (gs) (w) k12):Ev M1 (Conf.pure 69 [AV.vec fl 2 (List.map G2.a gs),AV.vec fw 1 (List.map (AV.int IntKind.i64) w)]) (AV.tup [AV.int IntKind.i64 (if (↑gs.length:Int) < 2 then 0 else Sp.boundV gs w),AV.vec false 1 (List.map (AV.int IntKind.i64) (Sp.spanPairs gs w))]) [])) allC_nil) (pq_of (d:=(AV.tup [AV.int IntKind.i64 (if (↑gs.length:Int) < 2 then 0 else Sp.boundV gs w),AV.int IntKind.i64 0])) (bs:=[]) (by kernel_rfl) (by kernel_rfl) allB_nil (by kernel_rfl) H)
theorem tv24 (fl fw:Bool) (gs:List G2) (w:List Int)  (dq:AV) (H :
  (Sp.mOk 200) /\
  ((¬Sp.checkE gs 200 = 0) -> AV.tup [AV.int IntKind.i64 0,AV.int IntKind.i64 (Sp.checkE gs 200)] = dq) /\
  (¬(¬Sp.checkE gs 200 = 0) -> ((((↑gs.length:Int) = 0) \/ (¬(↑w.length:Int) = (↑gs.length:Int))) -> AV.tup [AV.int IntKind.i64 0,AV.int IntKind.i64 1] = dq) /\
   (¬(((↑gs.length:Int) = 0) \/ (¬(↑w.length:Int) = (↑gs.length:Int))) -> tv24a_at (fl) (fw) (gs) (w) (fw) (w) ((↑w.length:Int)) (0) (PureQ dq)))) :
 tv24_at fl fw gs w (PureQ dq):=by
 unfold tv24_at
 have k1:=H.1;have H:=H.2
 have i2:(Sp.checkE gs 200 != 0) = true ↔ (¬Sp.checkE gs 200 = 0):=i_ne
 refine path_wp (G:=given kp36 [(1,1,.call (AV.int IntKind.i64 (Sp.checkE gs 200)) none)] []) 7 [] ⟨(atC (cd Try.f36) [1,0,1,1]),[(0,AV.vec fl 2 (List.map G2.a gs)),(1,AV.vec fw 1 (List.map (AV.int IntKind.i64) w)),(6,AV.int IntKind.i64 (Sp.checkE gs 200)),(14,AV.bool (Sp.checkE gs 200 != 0))],[],[],[],[⟨true,false,62,[AV.vec fl 2 (List.map G2.a gs),AV.int IntKind.i64 200],[],AV.int IntKind.i64 (Sp.checkE gs 200),[]⟩]⟩ (by kernel_rfl) allB_nil allP_nil (allC_cons (fun _ => ((@ev62 (fl) (gs) (200) k1):Ev M1 (Conf.pure 62 [AV.vec fl 2 (List.map G2.a gs),AV.int IntKind.i64 200]) (AV.int IntKind.i64 (Sp.checkE gs 200)) [])) allC_nil) ?_
 rcases Classical.em (¬Sp.checkE gs 200 = 0) with d3 | d3
 ·have H:=H.1 d3
  exact path_ret (G:=given kp36 [] []) 1000 [true] (k:=((atC (cd Try.f36) [1,0,1,1,0,1])).tail) (env':=[(4,AV.int IntKind.i64 0),(5,AV.int IntKind.i64 (Sp.checkE gs 200))]) (L':=[]) (asm:=[(Sp.checkE gs 200 != 0) == true]) (eqs:=[]) (calls:=[]) (AV.tup [AV.int IntKind.i64 0,AV.int IntKind.i64 (Sp.checkE gs 200)]) (by kernel_rfl) (by kernel_rfl) (allB_cons (beq_t (i2.2 d3)) allB_nil) allP_nil allC_nil (pq_of (d:=(AV.tup [AV.int IntKind.i64 0,AV.int IntKind.i64 (Sp.checkE gs 200)])) (bs:=[]) (by kernel_rfl) (by kernel_rfl) allB_nil (by kernel_rfl) H)
 ·have H:=H.2 d3
  have w4:(List.map G2.a gs).length = gs.length:=List.length_map ..
  have w5:(List.map (AV.int IntKind.i64) w).length = w.length:=List.length_map ..
  have i6:(bif (↑(List.map G2.a gs).length:Int) == 0 then true else (↑(List.map (AV.int IntKind.i64) w).length:Int) != (↑(List.map G2.a gs).length:Int)) = true ↔ (((↑gs.length:Int) = 0) \/ (¬(↑w.length:Int) = (↑gs.length:Int))):=(by (try rw [w4]);(try rw [w5]);all_goals exact (i_bor i_eq i_ne))
  rcases Classical.em (((↑gs.length:Int) = 0) \/ (¬(↑w.length:Int) = (↑gs.length:Int))) with d7 | d7
  ·have H:=H.1 d7
   exact path_ret (G:=given kp36 [] []) 1000 [false,true] (k:=((atC (cd Try.f36) [1,1,0,1,0,1])).tail) (env':=[(4,AV.int IntKind.i64 0),(5,AV.int IntKind.i64 1)]) (L':=[]) (asm:=[(Sp.checkE gs 200 != 0) == false,(bif (↑(List.map G2.a gs).length:Int) == 0 then true else (↑(List.map (AV.int IntKind.i64) w).length:Int) != (↑(List.map G2.a gs).length:Int)) == true]) (eqs:=[]) (calls:=[]) (AV.tup [AV.int IntKind.i64 0,AV.int IntKind.i64 1]) (by kernel_rfl) (by kernel_rfl) (allB_cons (beq_f (fun h => d3 (i2.1 h))) (allB_cons (beq_t (i6.2 d7)) allB_nil)) allP_nil allC_nil (pq_of (d:=(AV.tup [AV.int IntKind.i64 0,AV.int IntKind.i64 1])) (bs:=[]) (by kernel_rfl) (by kernel_rfl) allB_nil (by kernel_rfl) H)
  ·have H:=H.2 d7
   exact path_wp (G:=given kp36 [] []) 1000 [false,false] ⟨(atC (cd Try.f36) [1,1,1,0,1,0,0]),[(0,AV.vec fl 2 (List.map G2.a gs)),(1,AV.vec fw 1 (List.map (AV.int IntKind.i64) w)),(26,AV.vec fw 1 (List.map (AV.int IntKind.i64) w)),(27,AV.int IntKind.i64 (↑(List.map (AV.int IntKind.i64) w).length:Int)),(28,AV.int IntKind.i64 0)],[],[(Sp.checkE gs 200 != 0) == false,(bif (↑(List.map G2.a gs).length:Int) == 0 then true else (↑(List.map (AV.int IntKind.i64) w).length:Int) != (↑(List.map G2.a gs).length:Int)) == false],[],[]⟩ (by kernel_rfl) (allB_cons (beq_f (fun h => d3 (i2.1 h))) (allB_cons (beq_f (fun h => d7 (i6.1 h))) allB_nil)) allP_nil allC_nil (by (try rw [w5]);all_goals exact H)
end Go.Av

namespace Go.Av
open Go.Proofs
namespace Sp
def badW (x:Int):Bool:=decide (x > 20000000) || decide (x < -20000000)
def boundE (gs:List G2) (w:List Int):Int:=
 if checkE gs 200 = 0 then (if (gs.length:Int) = 0 \/ ¬(w.length:Int) = gs.length then 1 else if w.any badW = true then 11 else 0) else checkE gs 200
noncomputable def boundR (gs:List G2) (w:List Int):Int:=if boundE gs w = 0 /\ ¬(gs.length:Int) < 2 then boundV gs w else 0
end Sp
theorem any_okW {w:List Int} (h:¬w.any Sp.badW = true):Sp.okW w:=by
 intro x hx
 have hb:¬Sp.badW x = true:=fun k => h (List.any_eq_true.2 ⟨x,hx,k⟩)
 simp only [Sp.badW,Bool.or_eq_true,decide_eq_true_eq,not_or] at hb
 omega
theorem boundE_facts {gs:List G2} {w:List Int} (h:Sp.boundE gs w = 0):Sp.okG gs /\ gs.length <= 200 /\ 0 < gs.length /\ w.length = gs.length /\ Sp.okW w:=by
 unfold Sp.boundE at h
 split at h
 ·rename_i hc
  split at h
  ·simp at h
  ·rename_i h2
   split at h
   ·simp at h
   ·rename_i h3
    obtain ⟨c1,c2⟩:=check_okG hc
    exact ⟨c1,by omega,by omega,by omega,any_okW h3⟩
 ·rename_i hc;exact absurd h hc
theorem badW_iff {x:Int}:Sp.badW x = true ↔ (x > 20000000 \/ x < -20000000):=by
 simp only [Sp.badW,Bool.or_eq_true,decide_eq_true_eq]
theorem loop24 {fl fw fx:Bool} {gs:List G2} {w x:List Int} {dq:AV} (hg:Sp.okG gs) (hl:gs.length <= 1000) (hwl:w.length = gs.length) (hxl:x.length <= 1000)
  (hq0:¬x.any Sp.badW = true -> Sp.okW w /\ AV.tup [.int .i64 (if (gs.length:Int) < 2 then 0 else Sp.boundV gs w),.int .i64 0] = dq) (hq1:x.any Sp.badW = true -> AV.tup [.int .i64 0,.int .i64 11] = dq) :
  ∀ (k i:Nat),i + k = x.length -> (∀ j:Nat,j < i -> ¬Sp.badW (x.getD j default) = true) -> tv24a_at fl fw gs w fx x x.length i (PureQ dq):=by
 intro k
 induction k with
 | zero =>
  intro i hi hp
  have hn:¬x.any Sp.badW = true:=by
   intro h
   obtain ⟨y,hy,hb⟩:=List.any_eq_true.1 h
   obtain ⟨j,hj,rfl⟩:=mem_getD hy
   exact hp j (by omega) hb
  obtain ⟨hw,hq⟩:=hq0 hn
  exact tv24a _ _ _ _ _ _ _ _ _ ⟨fun h => by omega,fun _ => ⟨⟨hg,hl,hw,hwl⟩,hq⟩⟩
 | succ k ih =>
  intro i hi hp
  refine tv24a _ _ _ _ _ _ _ _ _ ⟨fun _ => ⟨by omega,by omega,fun h => ?_,fun h => ⟨by omega,ih (i + 1) (by omega) ?_⟩⟩,fun h => by omega⟩
  ·rw [Int.toNat_natCast] at h
   exact hq1 (List.any_eq_true.2 ⟨_,getD_mem (show i < x.length by omega),badW_iff.2 h⟩)
  ·rw [Int.toNat_natCast] at h
   intro j hj
   by_cases hji:j = i
   ·subst hji;exact fun k => h (badW_iff.1 k)
   ·exact hp j (by omega)
theorem ev36 (fl fw:Bool) (gs:List G2) (w:List Int):Ev M1 (.pure 36 [gsA fl gs,isA fw w]) (.tup [.int .i64 (Sp.boundR gs w),.int .i64 (Sp.boundE gs w)]) []:=by
 refine call36 (tv24 fl fw gs w _ ⟨by simp [Sp.mOk],fun h => ?_,fun h => ⟨fun k => ?_,fun k => ?_⟩⟩)
 ·have e:Sp.boundE gs w = Sp.checkE gs 200:=if_neg h
  rw [Sp.boundR,e,if_neg (fun x => h x.1)]
 ·have h:=Classical.not_not.1 h
  have e:Sp.boundE gs w = 1:=by rw [Sp.boundE,if_pos h,if_pos k]
  rw [Sp.boundR,e,if_neg (by simp)]
 ·have h:=Classical.not_not.1 h
  obtain ⟨c1,c2⟩:=check_okG h
  refine loop24 c1 (by omega) (by omega) (by omega) (fun hw => ⟨any_okW hw,?_⟩) (fun hw => ?_) _ 0 (Nat.zero_add _) (fun j hj => by omega)
  ·have e:Sp.boundE gs w = 0:=by rw [Sp.boundE,if_pos h,if_neg k,if_neg hw]
   rw [Sp.boundR,e]
   by_cases h2:(gs.length:Int) < 2
   ·rw [if_pos h2,if_neg (fun x => x.2 h2)]
   ·rw [if_neg h2,if_pos ⟨rfl,h2⟩]
  ·have e:Sp.boundE gs w = 11:=by rw [Sp.boundE,if_pos h,if_neg k,if_pos hw]
   rw [Sp.boundR,e,if_neg (by simp)]
end Go.Av

namespace Go.Av
open Go.Proofs
theorem perm_sum {a b:List Int} (h:List.Perm a b):a.sum = b.sum:=by
 induction h with
 | nil => rfl
 | cons x _ ih => rw [List.sum_cons,List.sum_cons,ih]
 | swap x y l => simp only [List.sum_cons];omega
 | trans _ _ h1 h2 => rw [h1,h2]
theorem ordFrom_of {n:Int}:∀ (o:List Int) (sn:List Bool),n <= sn.length -> (∀ x ∈ o,0 <= x /\ x < n /\ sn.getD x.toNat default = false) -> o.Nodup -> Sp.ordFrom n o sn = true
 | [],_,_,_,_ => rfl
 | x :: o,sn,hs,h,hd => by
  obtain ⟨h1,h2,h3⟩:=h x (by simp)
  rw [List.nodup_cons] at hd
  rw [Sp.ordFrom,if_neg (by rw [h3];simp;omega)]
  refine ordFrom_of o _ (by simpa using hs) (fun y hy => ?_) hd.2
  obtain ⟨k1,k2,k3⟩:=h y (List.mem_cons_of_mem _ hy)
  refine ⟨k1,k2,?_⟩
  have hxy:x ≠ y:=by rintro rfl;exact hd.1 hy
  rw [getD_set (by omega),if_neg (by omega)]
  exact k3
theorem isOrd_of {n:Nat} {o:List Int} (h:IsOrd n o):Sp.isOrd o n = true:=by
 have:=h.len
 unfold Sp.isOrd
 rw [if_neg (by
  intro hc
  rcases hc with hc | hc
  ·omega
  ·exact hc.2 (h.zero (by omega)))]
 refine ordFrom_of _ _ (by simp) (fun x hx => ⟨(h.rng x hx).1,(h.rng x hx).2,?_⟩) h.nod
 simp only [List.getD_eq_getElem?_getD,List.getElem?_replicate]
 split <;> rfl
theorem ord_of {n:Nat} {o:List Int} (h:Sp.isOrd o n = true):IsOrd n o:=by
 obtain ⟨h1,h2,h3,h4⟩:=isOrd_facts h
 exact ⟨by omega,h3,h2,fun h0 => h4 (by omega)⟩
theorem IsOrd.okO {gs:List G2} {o:List Int} (h:IsOrd gs.length o):Sp.okO gs o:=fun x hx => h.rng x hx
theorem cost_way (gs:List G2) (w:List Int):∀ (x:Int) (o:List Int),Mst.cost (Sp.cw gs w) (Mst.pairs (x :: o)) = Sp.way gs (x :: o) + 2 * ((x :: o).map fun i => w.getD i.toNat default).sum - w.getD x.toNat default - w.getD ((x :: o).getLast (by simp)).toNat default
 | x,[] => by simp only [Mst.pairs,Mst.cost,Sp.way,List.map_cons,List.map_nil,List.sum_cons,List.sum_nil,List.getLast_singleton];omega
 | x,y :: o => by
  have ih:=cost_way gs w y o
  rw [Mst.pairs,Mst.cost,ih,Sp.way,List.getLast_cons (List.cons_ne_nil y o)]
  simp only [List.map_cons,List.sum_cons]
  show Sp.cw gs w x y + _ = _
  unfold Sp.cw
  omega
theorem range_map_getD (w:List Int):(List.range w.length).map (fun i => w.getD i default) = w:=by
 apply List.ext_getElem (by simp)
 intro i h1 h2
 simp at h1 h2 ⊢
 simp [h2]
theorem ord_sum {n:Nat} {o w:List Int} (h:IsOrd n o) (hw:w.length = n):(o.map fun i => w.getD i.toNat default).sum = w.sum:=by
 have hp:List.Perm o ((List.range n).map fun i:Nat => (i:Int)):=by
  refine (List.perm_ext_iff_of_nodup h.nod ?_).2 fun a => ?_
  ·rw [List.nodup_iff_pairwise_ne,List.pairwise_map]
   exact List.Pairwise.imp (fun h => by omega) (List.nodup_iff_pairwise_ne.1 List.nodup_range)
  ·constructor
   ·intro ha
    obtain ⟨h1,h2⟩:=h.rng a ha
    exact List.mem_map.2 ⟨a.toNat,by simp;omega,by omega⟩
   ·intro ha
    obtain ⟨j,hj,rfl⟩:=List.mem_map.1 ha
    exact il_full h.nod h.rng h.len j (by simpa using hj)
 have e:=perm_sum (hp.map fun i => w.getD i.toNat default)
 rw [e,List.map_map]
 have:((fun i:Int => w.getD i.toNat default) ∘ fun i:Nat => (i:Int)) = fun i:Nat => w.getD i default:=by funext i;simp
 rw [this,<- hw,range_map_getD]
theorem foldl_min_le:∀ (w:List Int) (m:Int),w.foldl (fun m x => if x < m then x else m) m <= m /\ ∀ x ∈ w,w.foldl (fun m x => if x < m then x else m) m <= x
 | [],m => by simp
 | y :: w,m => by
  obtain ⟨h1,h2⟩:=foldl_min_le w (if y < m then y else m)
  rw [List.foldl_cons]
  refine ⟨?_,fun x hx => ?_⟩
  ·by_cases h:y < m
   ·rw [if_pos h] at h1 ⊢;omega
   ·rw [if_neg h] at h1 ⊢;omega
  ·rcases List.mem_cons.1 hx with rfl | hx
   ·by_cases h:x < m
    ·rw [if_pos h] at h1 ⊢;omega
    ·rw [if_neg h] at h1 ⊢;omega
   ·exact h2 x hx
theorem minL_mem {w:List Int} {x:Int} (h:x ∈ w):Sp.minL w <= x:=by
 obtain ⟨h1,h2⟩:=foldl_min_le (w.drop 1) (w.getD 0 default)
 obtain ⟨j,hj,rfl⟩:=mem_getD h
 unfold Sp.minL
 cases j with
 | zero => exact h1
 | succ j =>
  refine h2 _ ?_
  have e:=drop_getD (d:=w.drop 1) (i:=j) (by rw [List.length_drop];omega)
  have:w.getD (j + 1) default = (w.drop 1).getD j default:=by simp [List.getD_eq_getElem?_getD,List.getElem?_drop,Nat.add_comm]
  rw [this]
  exact getD_mem (by rw [List.length_drop];omega)
theorem mst_way {gs:List G2} {o w:List Int} (h:IsOrd gs.length o) (hw:w.length = gs.length) (h2:2 <= gs.length):Sp.boundV gs w <= Sp.way gs o:=by
 have hz:=h.zero (by omega)
 have hl:=h.len
 cases o with
 | nil => simp at hl;omega
 | cons x o =>
  have hx:x = 0:=hz
  subst hx
  cases o with
  | nil => simp at hl;omega
  | cons y o =>
   have h1:=Mst.rem_way (cw_symm gs w) h.nod h.rng h.len
   rw [cost_way,ord_sum h hw] at h1
   have hlast:(0 :: y :: o).getLast (by simp) ∈ y :: o:=by
    rw [List.getLast_cons (by simp)]
    exact List.getLast_mem _
   have hne:(0 :: y :: o).getLast (by simp) ≠ 0:=by
    intro e
    rw [e] at hlast
    exact (List.nodup_cons.1 h.nod).1 hlast
   obtain ⟨r1,r2⟩:=h.rng _ (List.mem_cons_of_mem _ hlast)
   generalize (0 :: y :: o).getLast (by simp) = z at *
   have hmin:Sp.minL (w.drop 1) <= w.getD z.toNat default:=by
    refine minL_mem ?_
    have:w.getD z.toNat default = (w.drop 1).getD (z.toNat - 1) default:=by
     simp only [List.getD_eq_getElem?_getD,List.getElem?_drop]
     congr 2;omega
    rw [this]
    exact getD_mem (by rw [List.length_drop];omega)
   have hm:Sp.mst gs w = Mst.rem (Sp.cw gs w) gs.length [0]:=by unfold Sp.mst;rw [if_neg (by omega)];rfl
   unfold Sp.boundV
   rw [hm]
   have e0:w.getD (0:Int).toNat default = w.getD 0 default:=rfl
   rw [e0] at h1
   omega
theorem ord_length {gs:List G2} {o:List Int} (h:IsOrd gs.length o) (hc:Sp.checkE gs 200 = 0):Sp.lengthE gs o = 0 /\ Sp.lengthV gs o = Sp.way gs o:=by
 have e:Sp.lengthE gs o = 0:=by rw [Sp.lengthE,if_pos hc,if_pos (isOrd_of h)]
 exact ⟨e,by rw [Sp.lengthV,if_pos e]⟩
end Go.Av

namespace Go.Av
open Go.Proofs
namespace Sp
def exactL (gs:List G2):List Int:=if checkE gs 10 = 0 /\ ¬gs.length = 0 then srch gs (gs.length - 1) [0] [] else []
end Sp
theorem weak_tup3 {a a' b c:AV} (h:Weak a a'):Weak (.tup [a,b,c]) (.tup [a',b,c]):=by
 refine .tup _ _ rfl fun i x y hx hy => ?_
 match i with
 | 0 => simp at hx hy;subst hx;subst hy;exact h
 | 1 => simp at hx hy;subst hx;subst hy;exact .refl _
 | 2 => simp at hx hy;subst hx;subst hy;exact .refl _
 | i + 3 => simp at hx
theorem begins0 {gs:List G2} (h:¬gs.length = 0):Sp.begins gs (gs.length - 1) [0]:=⟨by simp;omega,by simp,by simp;omega,by simp⟩
theorem exact_eq {gs:List G2} (h:Sp.checkE gs 10 = 0) (h0:¬gs.length = 0):Sp.exactL gs = Sp.srch gs (gs.length - 1) [0] []:=if_pos ⟨h,h0⟩
theorem exact_ord {gs:List G2} (h:Sp.checkE gs 10 = 0):IsOrd gs.length (Sp.exactL gs):=by
 by_cases h0:gs.length = 0
 ·have e:Sp.exactL gs = []:=if_neg (fun x => x.2 h0)
  rw [e,h0];exact ⟨rfl,by simp,by simp,fun h => by omega⟩
 ·rw [exact_eq h h0]
  exact srch_ord _ _ [] (begins0 h0) rfl (fun h => absurd rfl h) (srch_full _ _ (begins0 h0))
theorem exact_least {gs:List G2} (h:Sp.checkE gs 10 = 0) {o:List Int} (ho:IsOrd gs.length o):Sp.way gs (Sp.exactL gs) <= Sp.way gs o:=by
 have hg:=(check_okG h).1
 have hl:=ho.len
 by_cases h0:gs.length = 0
 ·have e:Sp.exactL gs = []:=if_neg (fun x => x.2 h0)
  have e2:o = []:=List.length_eq_zero_iff.1 (by omega)
  rw [e,e2];exact Int.le_refl _
 ·rw [exact_eq h h0]
  cases o with
  | nil => simp at hl;omega
  | cons x o =>
   have hx:x = 0:=ho.zero (by omega)
   subst hx
   exact (srch_least hg _ [0] [] (begins0 h0)).2 o (by simp at hl;omega) (fun x hx => ho.rng x (List.mem_cons_of_mem _ hx)) ho.nod
theorem ev34 (fl:Bool) (gs:List G2):Ev M1 (.pure 34 [gsA fl gs]) (.tup [isA false (Sp.exactL gs),.int .i64 (Sp.way gs (Sp.exactL gs)),.int .i64 (Sp.checkE gs 10)]) []:=by
 by_cases h:Sp.checkE gs 10 = 0
 ·obtain ⟨hg,hl⟩:=check_okG h
  by_cases h0:gs.length = 0
  ·have e:Sp.exactL gs = []:=if_neg (fun x => x.2 h0)
   rw [e,h]
   exact call34 (tv22 fl gs 0 0 [] false false _ ⟨by simp [Sp.mOk],fun k => absurd h k,fun _ => ⟨fun _ => weak_tup3 (.vnil 1),fun k => by omega⟩⟩)
  ·obtain ⟨fb',fz,hE⟩:=(ext38 (fl:=fl) hg (by omega) (gs.length - 1) [0] 0 (begins0 h0)).1 0
   have hne:=srch_full _ _ (begins0 h0)
   rw [h,exact_eq h h0]
   have e2:∀ r:List Int,r ≠ [] -> (AV.int .i64 (Sp.hd r) :: (Sp.tl r).map (.int .i64)) = r.map (.int .i64):=fun r hr => by rw [<- List.map_cons,hd_tl hr]
   refine call34 (tv22 fl gs (Sp.hd (Sp.srch gs (gs.length - 1) [0] [])) (Sp.way gs (Sp.srch gs (gs.length - 1) [0] [])) (Sp.tl (Sp.srch gs (gs.length - 1) [0] [])) fz fb' _ ⟨by simp [Sp.mOk],fun k => absurd h k,fun _ => ⟨fun k => by omega,fun _ => ⟨?_,?_⟩⟩⟩)
   ·rw [e2 _ hne];exact hE
   ·rw [e2 _ hne]
    refine weak_tup3 ?_
    cases fb' with
    | true => exact .full 1 _
    | false => exact .refl _
 ·have e:Sp.exactL gs = []:=if_neg (fun x => h x.1)
  rw [e]
  exact call34 (tv22 fl gs 0 0 [] false false _ ⟨by simp [Sp.mOk],fun _ => weak_tup3 (.vnil 1),fun k => absurd h k⟩)
end Go.Av

namespace Go.Av
open Go.Proofs
theorem check_mono {gs:List G2} {m m':Int} (h:Sp.checkE gs m = 0) (hm:m <= m'):Sp.checkE gs m' = 0:=by
 unfold Sp.checkE at h ⊢
 split at h
 ·simp at h
 ·rw [if_neg (by omega)]
  exact h
theorem bound_le {gs:List G2} {w o:List Int} (h:Sp.boundE gs w = 0) (ho:IsOrd gs.length o):Sp.boundR gs w <= Sp.way gs o:=by
 obtain ⟨hg,hl,h0,hwl,hw⟩:=boundE_facts h
 unfold Sp.boundR
 by_cases h2:(gs.length:Int) < 2
 ·rw [if_neg (fun x => x.2 h2)];exact (way_le hg o).1
 ·rw [if_pos ⟨h,h2⟩];exact mst_way ho hwl (by omega)
end Go.Av

namespace Go.Av
open Go.Proofs
set_option maxRecDepth 100000
def fi65:Fi:=⟨87,[.tmp 8]⟩
def kp65:List (Nat × List Nat):=[(0,[0,1,2,3]),(1,[0,1,2,3,9]),(2,[0,1,2,3,9,10]),(3,[0,1,2,3,9,10,47]),(4,[0,1,2,3,9,10]),(5,[9,10]),(6,[8])]
def fi66:Fi:=⟨28,[]⟩
def kp66:List (Nat × List Nat):=[(0,[0,2,3]),(1,[0,2,3,9]),(2,[0,2,3]),(3,[0,2,3])]
def tv42_at (fl fm:Bool) (gs:List G2) (o:List Int) (i j:Int) (Q:AV -> Heap -> Prop):Prop:=Wp M1 (.run fi65 (atC (cd Try.f65) []) [(0,.vec fl 2 (gs.map G2.a)),(1,.vec fm 1 (o.map (.int .i64))),(2,.int .i64 i),(3,.int .i64 j)] []) Q
def tv43_at (o:List Int) (v lo len:Nat) (Q:AV -> Heap -> Prop):Prop:=Wp M1 (.run fi66 (atC (cd Try.f66) []) [(0,.ref 0 v lo len)] [⟨o.map (.int .i64),1,v,false,true⟩]) Q
def tv43a_at (o:List Int) (v lo len:Nat) (i j:Int) (Q:AV -> Heap -> Prop):Prop:=Wp M1 (.run fi66 (atC (cd Try.f66) [1,0,0]) [(0,.ref 0 v lo len),(2,.int .i64 i),(3,.int .i64 j)] [⟨o.map (.int .i64),1,v,false,true⟩]) Q
theorem call65 {args:List AV} {d:AV} (h:wc M1 fi65 Try.f65 args d):Ev M1 (.pure 65 args) d []:=pcl _ _ (by kernel_rfl) h
theorem owncall66 {args:List AV} {L:Heap} {Q:AV -> Heap -> Prop} (h:Wp M1 (.run fi66 [.code (cd Try.f66)] (argVars 0 args) L) Q):Wp M1 (.own 66 args L) Q:=
 own_wp Try.f66 fi66 (by kernel_rfl) (by kernel_rfl) (by kernel_rfl) (by kernel_rfl) h
theorem tv42 (fl fm:Bool) (gs:List G2) (o:List Int) (i j:Int)  (dq:AV) (H :
  (-9223372036854775808 <= i - 1 /\ i - 1 <= 9223372036854775807) /\
  (Sp.inM (gs.getD (o.getD (i - 1).toNat default).toNat default).x /\ Sp.inM (gs.getD (o.getD (i - 1).toNat default).toNat default).y /\ Sp.inM (gs.getD (o.getD i.toNat default).toNat default).x /\ Sp.inM (gs.getD (o.getD i.toNat default).toNat default).y) /\
  (0 <= i - 1) /\
  ((i - 1).toNat < o.length) /\
  (0 <= o.getD (i - 1).toNat default) /\
  ((o.getD (i - 1).toNat default).toNat < gs.length) /\
  (0 <= i) /\
  (i.toNat < o.length) /\
  (0 <= o.getD i.toNat default) /\
  ((o.getD i.toNat default).toNat < gs.length) /\
  (Sp.inM (gs.getD (o.getD (i - 1).toNat default).toNat default).x /\ Sp.inM (gs.getD (o.getD (i - 1).toNat default).toNat default).y /\ Sp.inM (gs.getD (o.getD j.toNat default).toNat default).x /\ Sp.inM (gs.getD (o.getD j.toNat default).toNat default).y) /\
  (0 <= j) /\
  (j.toNat < o.length) /\
  (0 <= o.getD j.toNat default) /\
  ((o.getD j.toNat default).toNat < gs.length) /\
  (-9223372036854775808 <= j + 1 /\ j + 1 <= 9223372036854775807) /\
  ((j + 1 < (↑o.length:Int)) -> (Sp.inM (gs.getD (o.getD j.toNat default).toNat default).x /\ Sp.inM (gs.getD (o.getD j.toNat default).toNat default).y /\ Sp.inM (gs.getD (o.getD (j + 1).toNat default).toNat default).x /\ Sp.inM (gs.getD (o.getD (j + 1).toNat default).toNat default).y) /\
   (0 <= j + 1) /\
   ((j + 1).toNat < o.length) /\
   (0 <= o.getD (j + 1).toNat default) /\
   ((o.getD (j + 1).toNat default).toNat < gs.length) /\
   (-9223372036854775808 <= Sp.dist (gs.getD (o.getD (i - 1).toNat default).toNat default).x (gs.getD (o.getD (i - 1).toNat default).toNat default).y (gs.getD (o.getD i.toNat default).toNat default).x (gs.getD (o.getD i.toNat default).toNat default).y + Sp.dist (gs.getD (o.getD j.toNat default).toNat default).x (gs.getD (o.getD j.toNat default).toNat default).y (gs.getD (o.getD (j + 1).toNat default).toNat default).x (gs.getD (o.getD (j + 1).toNat default).toNat default).y /\ Sp.dist (gs.getD (o.getD (i - 1).toNat default).toNat default).x (gs.getD (o.getD (i - 1).toNat default).toNat default).y (gs.getD (o.getD i.toNat default).toNat default).x (gs.getD (o.getD i.toNat default).toNat default).y + Sp.dist (gs.getD (o.getD j.toNat default).toNat default).x (gs.getD (o.getD j.toNat default).toNat default).y (gs.getD (o.getD (j + 1).toNat default).toNat default).x (gs.getD (o.getD (j + 1).toNat default).toNat default).y <= 9223372036854775807) /\
   (Sp.inM (gs.getD (o.getD i.toNat default).toNat default).x /\ Sp.inM (gs.getD (o.getD i.toNat default).toNat default).y /\ Sp.inM (gs.getD (o.getD (j + 1).toNat default).toNat default).x /\ Sp.inM (gs.getD (o.getD (j + 1).toNat default).toNat default).y) /\
   (-9223372036854775808 <= Sp.dist (gs.getD (o.getD (i - 1).toNat default).toNat default).x (gs.getD (o.getD (i - 1).toNat default).toNat default).y (gs.getD (o.getD j.toNat default).toNat default).x (gs.getD (o.getD j.toNat default).toNat default).y + Sp.dist (gs.getD (o.getD i.toNat default).toNat default).x (gs.getD (o.getD i.toNat default).toNat default).y (gs.getD (o.getD (j + 1).toNat default).toNat default).x (gs.getD (o.getD (j + 1).toNat default).toNat default).y /\ Sp.dist (gs.getD (o.getD (i - 1).toNat default).toNat default).x (gs.getD (o.getD (i - 1).toNat default).toNat default).y (gs.getD (o.getD j.toNat default).toNat default).x (gs.getD (o.getD j.toNat default).toNat default).y + Sp.dist (gs.getD (o.getD i.toNat default).toNat default).x (gs.getD (o.getD i.toNat default).toNat default).y (gs.getD (o.getD (j + 1).toNat default).toNat default).x (gs.getD (o.getD (j + 1).toNat default).toNat default).y <= 9223372036854775807) /\
   (-9223372036854775808 <= Sp.dist (gs.getD (o.getD (i - 1).toNat default).toNat default).x (gs.getD (o.getD (i - 1).toNat default).toNat default).y (gs.getD (o.getD i.toNat default).toNat default).x (gs.getD (o.getD i.toNat default).toNat default).y + Sp.dist (gs.getD (o.getD j.toNat default).toNat default).x (gs.getD (o.getD j.toNat default).toNat default).y (gs.getD (o.getD (j + 1).toNat default).toNat default).x (gs.getD (o.getD (j + 1).toNat default).toNat default).y - (Sp.dist (gs.getD (o.getD (i - 1).toNat default).toNat default).x (gs.getD (o.getD (i - 1).toNat default).toNat default).y (gs.getD (o.getD j.toNat default).toNat default).x (gs.getD (o.getD j.toNat default).toNat default).y + Sp.dist (gs.getD (o.getD i.toNat default).toNat default).x (gs.getD (o.getD i.toNat default).toNat default).y (gs.getD (o.getD (j + 1).toNat default).toNat default).x (gs.getD (o.getD (j + 1).toNat default).toNat default).y) /\ Sp.dist (gs.getD (o.getD (i - 1).toNat default).toNat default).x (gs.getD (o.getD (i - 1).toNat default).toNat default).y (gs.getD (o.getD i.toNat default).toNat default).x (gs.getD (o.getD i.toNat default).toNat default).y + Sp.dist (gs.getD (o.getD j.toNat default).toNat default).x (gs.getD (o.getD j.toNat default).toNat default).y (gs.getD (o.getD (j + 1).toNat default).toNat default).x (gs.getD (o.getD (j + 1).toNat default).toNat default).y - (Sp.dist (gs.getD (o.getD (i - 1).toNat default).toNat default).x (gs.getD (o.getD (i - 1).toNat default).toNat default).y (gs.getD (o.getD j.toNat default).toNat default).x (gs.getD (o.getD j.toNat default).toNat default).y + Sp.dist (gs.getD (o.getD i.toNat default).toNat default).x (gs.getD (o.getD i.toNat default).toNat default).y (gs.getD (o.getD (j + 1).toNat default).toNat default).x (gs.getD (o.getD (j + 1).toNat default).toNat default).y) <= 9223372036854775807) /\
   AV.int IntKind.i64 (Sp.dist (gs.getD (o.getD (i - 1).toNat default).toNat default).x (gs.getD (o.getD (i - 1).toNat default).toNat default).y (gs.getD (o.getD i.toNat default).toNat default).x (gs.getD (o.getD i.toNat default).toNat default).y + Sp.dist (gs.getD (o.getD j.toNat default).toNat default).x (gs.getD (o.getD j.toNat default).toNat default).y (gs.getD (o.getD (j + 1).toNat default).toNat default).x (gs.getD (o.getD (j + 1).toNat default).toNat default).y - (Sp.dist (gs.getD (o.getD (i - 1).toNat default).toNat default).x (gs.getD (o.getD (i - 1).toNat default).toNat default).y (gs.getD (o.getD j.toNat default).toNat default).x (gs.getD (o.getD j.toNat default).toNat default).y + Sp.dist (gs.getD (o.getD i.toNat default).toNat default).x (gs.getD (o.getD i.toNat default).toNat default).y (gs.getD (o.getD (j + 1).toNat default).toNat default).x (gs.getD (o.getD (j + 1).toNat default).toNat default).y)) = dq) /\
  (¬(j + 1 < (↑o.length:Int)) -> (-9223372036854775808 <= Sp.dist (gs.getD (o.getD (i - 1).toNat default).toNat default).x (gs.getD (o.getD (i - 1).toNat default).toNat default).y (gs.getD (o.getD i.toNat default).toNat default).x (gs.getD (o.getD i.toNat default).toNat default).y - Sp.dist (gs.getD (o.getD (i - 1).toNat default).toNat default).x (gs.getD (o.getD (i - 1).toNat default).toNat default).y (gs.getD (o.getD j.toNat default).toNat default).x (gs.getD (o.getD j.toNat default).toNat default).y /\ Sp.dist (gs.getD (o.getD (i - 1).toNat default).toNat default).x (gs.getD (o.getD (i - 1).toNat default).toNat default).y (gs.getD (o.getD i.toNat default).toNat default).x (gs.getD (o.getD i.toNat default).toNat default).y - Sp.dist (gs.getD (o.getD (i - 1).toNat default).toNat default).x (gs.getD (o.getD (i - 1).toNat default).toNat default).y (gs.getD (o.getD j.toNat default).toNat default).x (gs.getD (o.getD j.toNat default).toNat default).y <= 9223372036854775807) /\
   AV.int IntKind.i64 (Sp.dist (gs.getD (o.getD (i - 1).toNat default).toNat default).x (gs.getD (o.getD (i - 1).toNat default).toNat default).y (gs.getD (o.getD i.toNat default).toNat default).x (gs.getD (o.getD i.toNat default).toNat default).y - Sp.dist (gs.getD (o.getD (i - 1).toNat default).toNat default).x (gs.getD (o.getD (i - 1).toNat default).toNat default).y (gs.getD (o.getD j.toNat default).toNat default).x (gs.getD (o.getD j.toNat default).toNat default).y) = dq)) :
 tv42_at fl fm gs o i j (PureQ dq):=by
 unfold tv42_at
 have k1:=H.1;have H:=H.2
 have w2:IntKind.i64.wrap (i - 1) = i - 1:=wI64 k1
 have k3:=H.1;have H:=H.2
 have i4:(decide (0 <= IntKind.i64.wrap (i - 1))) = true ↔ (0 <= i - 1):=(by (try rw [w2]);all_goals exact i_dec)
 have k5:=H.1;have H:=H.2
 have w6:(List.map (AV.int IntKind.i64) o).length = o.length:=List.length_map ..
 have i7:(decide ((IntKind.i64.wrap (i - 1)).toNat < (List.map (AV.int IntKind.i64) o).length)) = true ↔ ((i - 1).toNat < o.length):=(by (try rw [w2]);(try rw [w6]);all_goals exact i_dec)
 have k8:=H.1;have H:=H.2
 have i9:(decide (0 <= o.getD (i - 1).toNat default)) = true ↔ (0 <= o.getD (i - 1).toNat default):=i_dec
 have k10:=H.1;have H:=H.2
 have w11:(List.map G2.a gs).length = gs.length:=List.length_map ..
 have i12:(decide ((o.getD (i - 1).toNat default).toNat < (List.map G2.a gs).length)) = true ↔ ((o.getD (i - 1).toNat default).toNat < gs.length):=(by (try rw [w11]);all_goals exact i_dec)
 have k13:=H.1;have H:=H.2
 have i14:(decide (0 <= i)) = true ↔ (0 <= i):=i_dec
 have k15:=H.1;have H:=H.2
 have i16:(decide (i.toNat < (List.map (AV.int IntKind.i64) o).length)) = true ↔ (i.toNat < o.length):=(by (try rw [w6]);all_goals exact i_dec)
 have k17:=H.1;have H:=H.2
 have i18:(decide (0 <= o.getD i.toNat default)) = true ↔ (0 <= o.getD i.toNat default):=i_dec
 have k19:=H.1;have H:=H.2
 have i20:(decide ((o.getD i.toNat default).toNat < (List.map G2.a gs).length)) = true ↔ ((o.getD i.toNat default).toNat < gs.length):=(by (try rw [w11]);all_goals exact i_dec)
 have k21:=H.1;have H:=H.2
 have k22:=H.1;have H:=H.2
 have i23:(decide (0 <= IntKind.i64.wrap (i - 1))) = true ↔ (0 <= i - 1):=(by (try rw [w2]);all_goals exact i_dec)
 have i24:(decide ((IntKind.i64.wrap (i - 1)).toNat < (List.map (AV.int IntKind.i64) o).length)) = true ↔ ((i - 1).toNat < o.length):=(by (try rw [w2]);(try rw [w6]);all_goals exact i_dec)
 have i25:(decide (0 <= o.getD (i - 1).toNat default)) = true ↔ (0 <= o.getD (i - 1).toNat default):=i_dec
 have i26:(decide ((o.getD (i - 1).toNat default).toNat < (List.map G2.a gs).length)) = true ↔ ((o.getD (i - 1).toNat default).toNat < gs.length):=(by (try rw [w11]);all_goals exact i_dec)
 have i27:(decide (0 <= j)) = true ↔ (0 <= j):=i_dec
 have k28:=H.1;have H:=H.2
 have i29:(decide (j.toNat < (List.map (AV.int IntKind.i64) o).length)) = true ↔ (j.toNat < o.length):=(by (try rw [w6]);all_goals exact i_dec)
 have k30:=H.1;have H:=H.2
 have i31:(decide (0 <= o.getD j.toNat default)) = true ↔ (0 <= o.getD j.toNat default):=i_dec
 have k32:=H.1;have H:=H.2
 have i33:(decide ((o.getD j.toNat default).toNat < (List.map G2.a gs).length)) = true ↔ ((o.getD j.toNat default).toNat < gs.length):=(by (try rw [w11]);all_goals exact i_dec)
 have k34:=H.1;have H:=H.2
 have k35:=H.1;have H:=H.2
 have w36:IntKind.i64.wrap (j + 1) = j + 1:=wI64 k35
 have i37:(decide (IntKind.i64.wrap (j + 1) < (↑(List.map (AV.int IntKind.i64) o).length:Int))) = true ↔ (j + 1 < (↑o.length:Int)):=(by (try rw [w6]);(try rw [w36]);all_goals exact i_dec)
 refine path_wp (G:=given kp65 [(1,5,.elem (AV.int IntKind.i64 (o.getD (i - 1).toNat default))),(1,7,.elem (AV.agg [AV.int IntKind.i64 (gs.getD (o.getD (i - 1).toNat default).toNat default).x,AV.int IntKind.i64 (gs.getD (o.getD (i - 1).toNat default).toNat default).y])),(1,12,.elem (AV.int IntKind.i64 (o.getD i.toNat default))),(1,14,.elem (AV.agg [AV.int IntKind.i64 (gs.getD (o.getD i.toNat default).toNat default).x,AV.int IntKind.i64 (gs.getD (o.getD i.toNat default).toNat default).y])),(1,15,.call (AV.int IntKind.i64 (Sp.dist (gs.getD (o.getD (i - 1).toNat default).toNat default).x (gs.getD (o.getD (i - 1).toNat default).toNat default).y (gs.getD (o.getD i.toNat default).toNat default).x (gs.getD (o.getD i.toNat default).toNat default).y)) none),(2,5,.elem (AV.int IntKind.i64 (o.getD (i - 1).toNat default))),(2,7,.elem (AV.agg [AV.int IntKind.i64 (gs.getD (o.getD (i - 1).toNat default).toNat default).x,AV.int IntKind.i64 (gs.getD (o.getD (i - 1).toNat default).toNat default).y])),(2,12,.elem (AV.int IntKind.i64 (o.getD j.toNat default))),(2,14,.elem (AV.agg [AV.int IntKind.i64 (gs.getD (o.getD j.toNat default).toNat default).x,AV.int IntKind.i64 (gs.getD (o.getD j.toNat default).toNat default).y])),(2,15,.call (AV.int IntKind.i64 (Sp.dist (gs.getD (o.getD (i - 1).toNat default).toNat default).x (gs.getD (o.getD (i - 1).toNat default).toNat default).y (gs.getD (o.getD j.toNat default).toNat default).x (gs.getD (o.getD j.toNat default).toNat default).y)) none)] []) 9 [] ⟨(atC (cd Try.f65) [1,1,1,0,1]),[(0,AV.vec fl 2 (List.map G2.a gs)),(1,AV.vec fm 1 (List.map (AV.int IntKind.i64) o)),(2,AV.int IntKind.i64 i),(3,AV.int IntKind.i64 j),(9,AV.int IntKind.i64 (Sp.dist (gs.getD (o.getD (i - 1).toNat default).toNat default).x (gs.getD (o.getD (i - 1).toNat default).toNat default).y (gs.getD (o.getD i.toNat default).toNat default).x (gs.getD (o.getD i.toNat default).toNat default).y)),(10,AV.int IntKind.i64 (Sp.dist (gs.getD (o.getD (i - 1).toNat default).toNat default).x (gs.getD (o.getD (i - 1).toNat default).toNat default).y (gs.getD (o.getD j.toNat default).toNat default).x (gs.getD (o.getD j.toNat default).toNat default).y)),(47,AV.bool (decide (IntKind.i64.wrap (j + 1) < (↑(List.map (AV.int IntKind.i64) o).length:Int))))],[],[decide (0 <= IntKind.i64.wrap (i - 1)),decide ((IntKind.i64.wrap (i - 1)).toNat < (List.map (AV.int IntKind.i64) o).length),decide (0 <= o.getD (i - 1).toNat default),decide ((o.getD (i - 1).toNat default).toNat < (List.map G2.a gs).length),decide (0 <= i),decide (i.toNat < (List.map (AV.int IntKind.i64) o).length),decide (0 <= o.getD i.toNat default),decide ((o.getD i.toNat default).toNat < (List.map G2.a gs).length),decide (0 <= IntKind.i64.wrap (i - 1)),decide ((IntKind.i64.wrap (i - 1)).toNat < (List.map (AV.int IntKind.i64) o).length),decide (0 <= o.getD (i - 1).toNat default),decide ((o.getD (i - 1).toNat default).toNat < (List.map G2.a gs).length),decide (0 <= j),decide (j.toNat < (List.map (AV.int IntKind.i64) o).length),decide (0 <= o.getD j.toNat default),decide ((o.getD j.toNat default).toNat < (List.map G2.a gs).length)],[((List.map (AV.int IntKind.i64) o).get?Internal (IntKind.i64.wrap (i - 1)).toNat = some (AV.int IntKind.i64 (o.getD (i - 1).toNat default))),((List.map G2.a gs).get?Internal (o.getD (i - 1).toNat default).toNat = some (AV.agg [AV.int IntKind.i64 (gs.getD (o.getD (i - 1).toNat default).toNat default).x,AV.int IntKind.i64 (gs.getD (o.getD (i - 1).toNat default).toNat default).y])),((List.map (AV.int IntKind.i64) o).get?Internal i.toNat = some (AV.int IntKind.i64 (o.getD i.toNat default))),((List.map G2.a gs).get?Internal (o.getD i.toNat default).toNat = some (AV.agg [AV.int IntKind.i64 (gs.getD (o.getD i.toNat default).toNat default).x,AV.int IntKind.i64 (gs.getD (o.getD i.toNat default).toNat default).y])),((List.map (AV.int IntKind.i64) o).get?Internal (IntKind.i64.wrap (i - 1)).toNat = some (AV.int IntKind.i64 (o.getD (i - 1).toNat default))),((List.map G2.a gs).get?Internal (o.getD (i - 1).toNat default).toNat = some (AV.agg [AV.int IntKind.i64 (gs.getD (o.getD (i - 1).toNat default).toNat default).x,AV.int IntKind.i64 (gs.getD (o.getD (i - 1).toNat default).toNat default).y])),((List.map (AV.int IntKind.i64) o).get?Internal j.toNat = some (AV.int IntKind.i64 (o.getD j.toNat default))),((List.map G2.a gs).get?Internal (o.getD j.toNat default).toNat = some (AV.agg [AV.int IntKind.i64 (gs.getD (o.getD j.toNat default).toNat default).x,AV.int IntKind.i64 (gs.getD (o.getD j.toNat default).toNat default).y]))],[⟨true,false,61,[AV.agg [AV.int IntKind.i64 (gs.getD (o.getD (i - 1).toNat default).toNat default).x,AV.int IntKind.i64 (gs.getD (o.getD (i - 1).toNat default).toNat default).y],AV.agg [AV.int IntKind.i64 (gs.getD (o.getD i.toNat default).toNat default).x,AV.int IntKind.i64 (gs.getD (o.getD i.toNat default).toNat default).y]],[],AV.int IntKind.i64 (Sp.dist (gs.getD (o.getD (i - 1).toNat default).toNat default).x (gs.getD (o.getD (i - 1).toNat default).toNat default).y (gs.getD (o.getD i.toNat default).toNat default).x (gs.getD (o.getD i.toNat default).toNat default).y),[]⟩,⟨true,false,61,[AV.agg [AV.int IntKind.i64 (gs.getD (o.getD (i - 1).toNat default).toNat default).x,AV.int IntKind.i64 (gs.getD (o.getD (i - 1).toNat default).toNat default).y],AV.agg [AV.int IntKind.i64 (gs.getD (o.getD j.toNat default).toNat default).x,AV.int IntKind.i64 (gs.getD (o.getD j.toNat default).toNat default).y]],[],AV.int IntKind.i64 (Sp.dist (gs.getD (o.getD (i - 1).toNat default).toNat default).x (gs.getD (o.getD (i - 1).toNat default).toNat default).y (gs.getD (o.getD j.toNat default).toNat default).x (gs.getD (o.getD j.toNat default).toNat default).y),[]⟩]⟩ (by kernel_rfl) (allB_cons (i4.2 k5) (allB_cons (i7.2 k8) (allB_cons (i9.2 k10) (allB_cons (i12.2 k13) (allB_cons (i14.2 k15) (allB_cons (i16.2 k17) (allB_cons (i18.2 k19) (allB_cons (i20.2 k21) (allB_cons (i23.2 k5) (allB_cons (i24.2 k8) (allB_cons (i25.2 k10) (allB_cons (i26.2 k13) (allB_cons (i27.2 k28) (allB_cons (i29.2 k30) (allB_cons (i31.2 k32) (allB_cons (i33.2 k34) allB_nil)))))))))))))))) (allP_cons (by (try rw [w2]);all_goals exact (el_map k8)) (allP_cons (el_map k13) (allP_cons (el_map k17) (allP_cons (el_map k21) (allP_cons (by (try rw [w2]);all_goals exact (el_map k8)) (allP_cons (el_map k13) (allP_cons (el_map k30) (allP_cons (el_map k34) allP_nil)))))))) (allC_cons (fun _ => ((@ev61 ((gs.getD (o.getD (i - 1).toNat default).toNat default).x) ((gs.getD (o.getD (i - 1).toNat default).toNat default).y) ((gs.getD (o.getD i.toNat default).toNat default).x) ((gs.getD (o.getD i.toNat default).toNat default).y) k3):Ev M1 (Conf.pure 61 [AV.agg [AV.int IntKind.i64 (gs.getD (o.getD (i - 1).toNat default).toNat default).x,AV.int IntKind.i64 (gs.getD (o.getD (i - 1).toNat default).toNat default).y],AV.agg [AV.int IntKind.i64 (gs.getD (o.getD i.toNat default).toNat default).x,AV.int IntKind.i64 (gs.getD (o.getD i.toNat default).toNat default).y]]) (AV.int IntKind.i64 (Sp.dist (gs.getD (o.getD (i - 1).toNat default).toNat default).x (gs.getD (o.getD (i - 1).toNat default).toNat default).y (gs.getD (o.getD i.toNat default).toNat default).x (gs.getD (o.getD i.toNat default).toNat default).y)) [])) (allC_cons (fun _ => ((@ev61 ((gs.getD (o.getD (i - 1).toNat default).toNat default).x) ((gs.getD (o.getD (i - 1).toNat default).toNat default).y) ((gs.getD (o.getD j.toNat default).toNat default).x) ((gs.getD (o.getD j.toNat default).toNat default).y) k22):Ev M1 (Conf.pure 61 [AV.agg [AV.int IntKind.i64 (gs.getD (o.getD (i - 1).toNat default).toNat default).x,AV.int IntKind.i64 (gs.getD (o.getD (i - 1).toNat default).toNat default).y],AV.agg [AV.int IntKind.i64 (gs.getD (o.getD j.toNat default).toNat default).x,AV.int IntKind.i64 (gs.getD (o.getD j.toNat default).toNat default).y]]) (AV.int IntKind.i64 (Sp.dist (gs.getD (o.getD (i - 1).toNat default).toNat default).x (gs.getD (o.getD (i - 1).toNat default).toNat default).y (gs.getD (o.getD j.toNat default).toNat default).x (gs.getD (o.getD j.toNat default).toNat default).y)) [])) allC_nil)) ?_
 rcases Classical.em (j + 1 < (↑o.length:Int)) with d38 | d38
 ·have H:=H.1 d38
  have k39:=H.1;have H:=H.2
  have i40:(decide (0 <= j)) = true ↔ (0 <= j):=i_dec
  have i41:(decide (j.toNat < (List.map (AV.int IntKind.i64) o).length)) = true ↔ (j.toNat < o.length):=(by (try rw [w6]);all_goals exact i_dec)
  have i42:(decide (0 <= o.getD j.toNat default)) = true ↔ (0 <= o.getD j.toNat default):=i_dec
  have i43:(decide ((o.getD j.toNat default).toNat < (List.map G2.a gs).length)) = true ↔ ((o.getD j.toNat default).toNat < gs.length):=(by (try rw [w11]);all_goals exact i_dec)
  have i44:(decide (0 <= IntKind.i64.wrap (j + 1))) = true ↔ (0 <= j + 1):=(by (try rw [w36]);all_goals exact i_dec)
  have k45:=H.1;have H:=H.2
  have i46:(decide ((IntKind.i64.wrap (j + 1)).toNat < (List.map (AV.int IntKind.i64) o).length)) = true ↔ ((j + 1).toNat < o.length):=(by (try rw [w6]);(try rw [w36]);all_goals exact i_dec)
  have k47:=H.1;have H:=H.2
  have i48:(decide (0 <= o.getD (j + 1).toNat default)) = true ↔ (0 <= o.getD (j + 1).toNat default):=i_dec
  have k49:=H.1;have H:=H.2
  have i50:(decide ((o.getD (j + 1).toNat default).toNat < (List.map G2.a gs).length)) = true ↔ ((o.getD (j + 1).toNat default).toNat < gs.length):=(by (try rw [w11]);all_goals exact i_dec)
  have k51:=H.1;have H:=H.2
  have k52:=H.1;have H:=H.2
  have w53:IntKind.i64.wrap (Sp.dist (gs.getD (o.getD (i - 1).toNat default).toNat default).x (gs.getD (o.getD (i - 1).toNat default).toNat default).y (gs.getD (o.getD i.toNat default).toNat default).x (gs.getD (o.getD i.toNat default).toNat default).y + Sp.dist (gs.getD (o.getD j.toNat default).toNat default).x (gs.getD (o.getD j.toNat default).toNat default).y (gs.getD (o.getD (j + 1).toNat default).toNat default).x (gs.getD (o.getD (j + 1).toNat default).toNat default).y) = Sp.dist (gs.getD (o.getD (i - 1).toNat default).toNat default).x (gs.getD (o.getD (i - 1).toNat default).toNat default).y (gs.getD (o.getD i.toNat default).toNat default).x (gs.getD (o.getD i.toNat default).toNat default).y + Sp.dist (gs.getD (o.getD j.toNat default).toNat default).x (gs.getD (o.getD j.toNat default).toNat default).y (gs.getD (o.getD (j + 1).toNat default).toNat default).x (gs.getD (o.getD (j + 1).toNat default).toNat default).y:=wI64 k52
  have k54:=H.1;have H:=H.2
  have i55:(decide (0 <= i)) = true ↔ (0 <= i):=i_dec
  have i56:(decide (i.toNat < (List.map (AV.int IntKind.i64) o).length)) = true ↔ (i.toNat < o.length):=(by (try rw [w6]);all_goals exact i_dec)
  have i57:(decide (0 <= o.getD i.toNat default)) = true ↔ (0 <= o.getD i.toNat default):=i_dec
  have i58:(decide ((o.getD i.toNat default).toNat < (List.map G2.a gs).length)) = true ↔ ((o.getD i.toNat default).toNat < gs.length):=(by (try rw [w11]);all_goals exact i_dec)
  have i59:(decide (0 <= IntKind.i64.wrap (j + 1))) = true ↔ (0 <= j + 1):=(by (try rw [w36]);all_goals exact i_dec)
  have i60:(decide ((IntKind.i64.wrap (j + 1)).toNat < (List.map (AV.int IntKind.i64) o).length)) = true ↔ ((j + 1).toNat < o.length):=(by (try rw [w6]);(try rw [w36]);all_goals exact i_dec)
  have i61:(decide (0 <= o.getD (j + 1).toNat default)) = true ↔ (0 <= o.getD (j + 1).toNat default):=i_dec
  have i62:(decide ((o.getD (j + 1).toNat default).toNat < (List.map G2.a gs).length)) = true ↔ ((o.getD (j + 1).toNat default).toNat < gs.length):=(by (try rw [w11]);all_goals exact i_dec)
  have k63:=H.1;have H:=H.2
  have w64:IntKind.i64.wrap (Sp.dist (gs.getD (o.getD (i - 1).toNat default).toNat default).x (gs.getD (o.getD (i - 1).toNat default).toNat default).y (gs.getD (o.getD j.toNat default).toNat default).x (gs.getD (o.getD j.toNat default).toNat default).y + Sp.dist (gs.getD (o.getD i.toNat default).toNat default).x (gs.getD (o.getD i.toNat default).toNat default).y (gs.getD (o.getD (j + 1).toNat default).toNat default).x (gs.getD (o.getD (j + 1).toNat default).toNat default).y) = Sp.dist (gs.getD (o.getD (i - 1).toNat default).toNat default).x (gs.getD (o.getD (i - 1).toNat default).toNat default).y (gs.getD (o.getD j.toNat default).toNat default).x (gs.getD (o.getD j.toNat default).toNat default).y + Sp.dist (gs.getD (o.getD i.toNat default).toNat default).x (gs.getD (o.getD i.toNat default).toNat default).y (gs.getD (o.getD (j + 1).toNat default).toNat default).x (gs.getD (o.getD (j + 1).toNat default).toNat default).y:=wI64 k63
  have k65:=H.1;have H:=H.2
  have w66:IntKind.i64.wrap (Sp.dist (gs.getD (o.getD (i - 1).toNat default).toNat default).x (gs.getD (o.getD (i - 1).toNat default).toNat default).y (gs.getD (o.getD i.toNat default).toNat default).x (gs.getD (o.getD i.toNat default).toNat default).y + Sp.dist (gs.getD (o.getD j.toNat default).toNat default).x (gs.getD (o.getD j.toNat default).toNat default).y (gs.getD (o.getD (j + 1).toNat default).toNat default).x (gs.getD (o.getD (j + 1).toNat default).toNat default).y - (Sp.dist (gs.getD (o.getD (i - 1).toNat default).toNat default).x (gs.getD (o.getD (i - 1).toNat default).toNat default).y (gs.getD (o.getD j.toNat default).toNat default).x (gs.getD (o.getD j.toNat default).toNat default).y + Sp.dist (gs.getD (o.getD i.toNat default).toNat default).x (gs.getD (o.getD i.toNat default).toNat default).y (gs.getD (o.getD (j + 1).toNat default).toNat default).x (gs.getD (o.getD (j + 1).toNat default).toNat default).y)) = Sp.dist (gs.getD (o.getD (i - 1).toNat default).toNat default).x (gs.getD (o.getD (i - 1).toNat default).toNat default).y (gs.getD (o.getD i.toNat default).toNat default).x (gs.getD (o.getD i.toNat default).toNat default).y + Sp.dist (gs.getD (o.getD j.toNat default).toNat default).x (gs.getD (o.getD j.toNat default).toNat default).y (gs.getD (o.getD (j + 1).toNat default).toNat default).x (gs.getD (o.getD (j + 1).toNat default).toNat default).y - (Sp.dist (gs.getD (o.getD (i - 1).toNat default).toNat default).x (gs.getD (o.getD (i - 1).toNat default).toNat default).y (gs.getD (o.getD j.toNat default).toNat default).x (gs.getD (o.getD j.toNat default).toNat default).y + Sp.dist (gs.getD (o.getD i.toNat default).toNat default).x (gs.getD (o.getD i.toNat default).toNat default).y (gs.getD (o.getD (j + 1).toNat default).toNat default).x (gs.getD (o.getD (j + 1).toNat default).toNat default).y):=wI64 k65
  exact path_ret (G:=given kp65 [(4,5,.elem (AV.int IntKind.i64 (o.getD j.toNat default))),(4,7,.elem (AV.agg [AV.int IntKind.i64 (gs.getD (o.getD j.toNat default).toNat default).x,AV.int IntKind.i64 (gs.getD (o.getD j.toNat default).toNat default).y])),(4,13,.elem (AV.int IntKind.i64 (o.getD (j + 1).toNat default))),(4,15,.elem (AV.agg [AV.int IntKind.i64 (gs.getD (o.getD (j + 1).toNat default).toNat default).x,AV.int IntKind.i64 (gs.getD (o.getD (j + 1).toNat default).toNat default).y])),(4,16,.call (AV.int IntKind.i64 (Sp.dist (gs.getD (o.getD j.toNat default).toNat default).x (gs.getD (o.getD j.toNat default).toNat default).y (gs.getD (o.getD (j + 1).toNat default).toNat default).x (gs.getD (o.getD (j + 1).toNat default).toNat default).y)) none),(5,5,.elem (AV.int IntKind.i64 (o.getD i.toNat default))),(5,7,.elem (AV.agg [AV.int IntKind.i64 (gs.getD (o.getD i.toNat default).toNat default).x,AV.int IntKind.i64 (gs.getD (o.getD i.toNat default).toNat default).y])),(5,13,.elem (AV.int IntKind.i64 (o.getD (j + 1).toNat default))),(5,15,.elem (AV.agg [AV.int IntKind.i64 (gs.getD (o.getD (j + 1).toNat default).toNat default).x,AV.int IntKind.i64 (gs.getD (o.getD (j + 1).toNat default).toNat default).y])),(5,16,.call (AV.int IntKind.i64 (Sp.dist (gs.getD (o.getD i.toNat default).toNat default).x (gs.getD (o.getD i.toNat default).toNat default).y (gs.getD (o.getD (j + 1).toNat default).toNat default).x (gs.getD (o.getD (j + 1).toNat default).toNat default).y)) none)] []) 1000 [true] (k:=((atC (cd Try.f65) [1,1,1,1,1])).tail) (env':=[(8,AV.int IntKind.i64 (IntKind.i64.wrap (IntKind.i64.wrap (Sp.dist (gs.getD (o.getD (i - 1).toNat default).toNat default).x (gs.getD (o.getD (i - 1).toNat default).toNat default).y (gs.getD (o.getD i.toNat default).toNat default).x (gs.getD (o.getD i.toNat default).toNat default).y + Sp.dist (gs.getD (o.getD j.toNat default).toNat default).x (gs.getD (o.getD j.toNat default).toNat default).y (gs.getD (o.getD (j + 1).toNat default).toNat default).x (gs.getD (o.getD (j + 1).toNat default).toNat default).y) - IntKind.i64.wrap (Sp.dist (gs.getD (o.getD (i - 1).toNat default).toNat default).x (gs.getD (o.getD (i - 1).toNat default).toNat default).y (gs.getD (o.getD j.toNat default).toNat default).x (gs.getD (o.getD j.toNat default).toNat default).y + Sp.dist (gs.getD (o.getD i.toNat default).toNat default).x (gs.getD (o.getD i.toNat default).toNat default).y (gs.getD (o.getD (j + 1).toNat default).toNat default).x (gs.getD (o.getD (j + 1).toNat default).toNat default).y))))]) (L':=[]) (asm:=[(decide (IntKind.i64.wrap (j + 1) < (↑(List.map (AV.int IntKind.i64) o).length:Int))) == true,decide (0 <= j),decide (j.toNat < (List.map (AV.int IntKind.i64) o).length),decide (0 <= o.getD j.toNat default),decide ((o.getD j.toNat default).toNat < (List.map G2.a gs).length),decide (0 <= IntKind.i64.wrap (j + 1)),decide ((IntKind.i64.wrap (j + 1)).toNat < (List.map (AV.int IntKind.i64) o).length),decide (0 <= o.getD (j + 1).toNat default),decide ((o.getD (j + 1).toNat default).toNat < (List.map G2.a gs).length),decide (0 <= i),decide (i.toNat < (List.map (AV.int IntKind.i64) o).length),decide (0 <= o.getD i.toNat default),decide ((o.getD i.toNat default).toNat < (List.map G2.a gs).length),decide (0 <= IntKind.i64.wrap (j + 1)),decide ((IntKind.i64.wrap (j + 1)).toNat < (List.map (AV.int IntKind.i64) o).length),decide (0 <= o.getD (j + 1).toNat default),decide ((o.getD (j + 1).toNat default).toNat < (List.map G2.a gs).length)]) (eqs:=[((List.map (AV.int IntKind.i64) o).get?Internal j.toNat = some (AV.int IntKind.i64 (o.getD j.toNat default))),((List.map G2.a gs).get?Internal (o.getD j.toNat default).toNat = some (AV.agg [AV.int IntKind.i64 (gs.getD (o.getD j.toNat default).toNat default).x,AV.int IntKind.i64 (gs.getD (o.getD j.toNat default).toNat default).y])),((List.map (AV.int IntKind.i64) o).get?Internal (IntKind.i64.wrap (j + 1)).toNat = some (AV.int IntKind.i64 (o.getD (j + 1).toNat default))),((List.map G2.a gs).get?Internal (o.getD (j + 1).toNat default).toNat = some (AV.agg [AV.int IntKind.i64 (gs.getD (o.getD (j + 1).toNat default).toNat default).x,AV.int IntKind.i64 (gs.getD (o.getD (j + 1).toNat default).toNat default).y])),((List.map (AV.int IntKind.i64) o).get?Internal i.toNat = some (AV.int IntKind.i64 (o.getD i.toNat default))),((List.map G2.a gs).get?Internal (o.getD i.toNat default).toNat = some (AV.agg [AV.int IntKind.i64 (gs.getD (o.getD i.toNat default).toNat default).x,AV.int IntKind.i64 (gs.getD (o.getD i.toNat default).toNat default).y])),((List.map (AV.int IntKind.i64) o).get?Internal (IntKind.i64.wrap (j + 1)).toNat = some (AV.int IntKind.i64 (o.getD (j + 1).toNat default))),((List.map G2.a gs).get?Internal (o.getD (j + 1).toNat default).toNat = some (AV.agg [AV.int IntKind.i64 (gs.getD (o.getD (j + 1).toNat default).toNat default).x,AV.int IntKind.i64 (gs.getD (o.getD (j + 1).toNat default).toNat default).y]))]) (calls:=[⟨true,false,61,[AV.agg [AV.int IntKind.i64 (gs.getD (o.getD j.toNat default).toNat default).x,AV.int IntKind.i64 (gs.getD (o.getD j.toNat default).toNat default).y],AV.agg [AV.int IntKind.i64 (gs.getD (o.getD (j + 1).toNat default).toNat default).x,AV.int IntKind.i64 (gs.getD (o.getD (j + 1).toNat default).toNat default).y]],[],AV.int IntKind.i64 (Sp.dist (gs.getD (o.getD j.toNat default).toNat default).x (gs.getD (o.getD j.toNat default).toNat default).y (gs.getD (o.getD (j + 1).toNat default).toNat default).x (gs.getD (o.getD (j + 1).toNat default).toNat default).y),[]⟩,⟨true,false,61,[AV.agg [AV.int IntKind.i64 (gs.getD (o.getD i.toNat default).toNat default).x,AV.int IntKind.i64 (gs.getD (o.getD i.toNat default).toNat default).y],AV.agg [AV.int IntKind.i64 (gs.getD (o.getD (j + 1).toNat default).toNat default).x,AV.int IntKind.i64 (gs.getD (o.getD (j + 1).toNat default).toNat default).y]],[],AV.int IntKind.i64 (Sp.dist (gs.getD (o.getD i.toNat default).toNat default).x (gs.getD (o.getD i.toNat default).toNat default).y (gs.getD (o.getD (j + 1).toNat default).toNat default).x (gs.getD (o.getD (j + 1).toNat default).toNat default).y),[]⟩]) (AV.int IntKind.i64 (IntKind.i64.wrap (IntKind.i64.wrap (Sp.dist (gs.getD (o.getD (i - 1).toNat default).toNat default).x (gs.getD (o.getD (i - 1).toNat default).toNat default).y (gs.getD (o.getD i.toNat default).toNat default).x (gs.getD (o.getD i.toNat default).toNat default).y + Sp.dist (gs.getD (o.getD j.toNat default).toNat default).x (gs.getD (o.getD j.toNat default).toNat default).y (gs.getD (o.getD (j + 1).toNat default).toNat default).x (gs.getD (o.getD (j + 1).toNat default).toNat default).y) - IntKind.i64.wrap (Sp.dist (gs.getD (o.getD (i - 1).toNat default).toNat default).x (gs.getD (o.getD (i - 1).toNat default).toNat default).y (gs.getD (o.getD j.toNat default).toNat default).x (gs.getD (o.getD j.toNat default).toNat default).y + Sp.dist (gs.getD (o.getD i.toNat default).toNat default).x (gs.getD (o.getD i.toNat default).toNat default).y (gs.getD (o.getD (j + 1).toNat default).toNat default).x (gs.getD (o.getD (j + 1).toNat default).toNat default).y)))) (by kernel_rfl) (by kernel_rfl) (allB_cons (beq_t (i37.2 d38)) (allB_cons (i40.2 k28) (allB_cons (i41.2 k30) (allB_cons (i42.2 k32) (allB_cons (i43.2 k34) (allB_cons (i44.2 k45) (allB_cons (i46.2 k47) (allB_cons (i48.2 k49) (allB_cons (i50.2 k51) (allB_cons (i55.2 k15) (allB_cons (i56.2 k17) (allB_cons (i57.2 k19) (allB_cons (i58.2 k21) (allB_cons (i59.2 k45) (allB_cons (i60.2 k47) (allB_cons (i61.2 k49) (allB_cons (i62.2 k51) allB_nil))))))))))))))))) (allP_cons (el_map k30) (allP_cons (el_map k34) (allP_cons (by (try rw [w36]);all_goals exact (el_map k47)) (allP_cons (el_map k51) (allP_cons (el_map k17) (allP_cons (el_map k21) (allP_cons (by (try rw [w36]);all_goals exact (el_map k47)) (allP_cons (el_map k51) allP_nil)))))))) (allC_cons (fun _ => ((@ev61 ((gs.getD (o.getD j.toNat default).toNat default).x) ((gs.getD (o.getD j.toNat default).toNat default).y) ((gs.getD (o.getD (j + 1).toNat default).toNat default).x) ((gs.getD (o.getD (j + 1).toNat default).toNat default).y) k39):Ev M1 (Conf.pure 61 [AV.agg [AV.int IntKind.i64 (gs.getD (o.getD j.toNat default).toNat default).x,AV.int IntKind.i64 (gs.getD (o.getD j.toNat default).toNat default).y],AV.agg [AV.int IntKind.i64 (gs.getD (o.getD (j + 1).toNat default).toNat default).x,AV.int IntKind.i64 (gs.getD (o.getD (j + 1).toNat default).toNat default).y]]) (AV.int IntKind.i64 (Sp.dist (gs.getD (o.getD j.toNat default).toNat default).x (gs.getD (o.getD j.toNat default).toNat default).y (gs.getD (o.getD (j + 1).toNat default).toNat default).x (gs.getD (o.getD (j + 1).toNat default).toNat default).y)) [])) (allC_cons (fun _ => ((@ev61 ((gs.getD (o.getD i.toNat default).toNat default).x) ((gs.getD (o.getD i.toNat default).toNat default).y) ((gs.getD (o.getD (j + 1).toNat default).toNat default).x) ((gs.getD (o.getD (j + 1).toNat default).toNat default).y) k54):Ev M1 (Conf.pure 61 [AV.agg [AV.int IntKind.i64 (gs.getD (o.getD i.toNat default).toNat default).x,AV.int IntKind.i64 (gs.getD (o.getD i.toNat default).toNat default).y],AV.agg [AV.int IntKind.i64 (gs.getD (o.getD (j + 1).toNat default).toNat default).x,AV.int IntKind.i64 (gs.getD (o.getD (j + 1).toNat default).toNat default).y]]) (AV.int IntKind.i64 (Sp.dist (gs.getD (o.getD i.toNat default).toNat default).x (gs.getD (o.getD i.toNat default).toNat default).y (gs.getD (o.getD (j + 1).toNat default).toNat default).x (gs.getD (o.getD (j + 1).toNat default).toNat default).y)) [])) allC_nil)) (pq_of (d:=(AV.int IntKind.i64 (IntKind.i64.wrap (IntKind.i64.wrap (Sp.dist (gs.getD (o.getD (i - 1).toNat default).toNat default).x (gs.getD (o.getD (i - 1).toNat default).toNat default).y (gs.getD (o.getD i.toNat default).toNat default).x (gs.getD (o.getD i.toNat default).toNat default).y + Sp.dist (gs.getD (o.getD j.toNat default).toNat default).x (gs.getD (o.getD j.toNat default).toNat default).y (gs.getD (o.getD (j + 1).toNat default).toNat default).x (gs.getD (o.getD (j + 1).toNat default).toNat default).y) - IntKind.i64.wrap (Sp.dist (gs.getD (o.getD (i - 1).toNat default).toNat default).x (gs.getD (o.getD (i - 1).toNat default).toNat default).y (gs.getD (o.getD j.toNat default).toNat default).x (gs.getD (o.getD j.toNat default).toNat default).y + Sp.dist (gs.getD (o.getD i.toNat default).toNat default).x (gs.getD (o.getD i.toNat default).toNat default).y (gs.getD (o.getD (j + 1).toNat default).toNat default).x (gs.getD (o.getD (j + 1).toNat default).toNat default).y))))) (bs:=[]) (by kernel_rfl) (by kernel_rfl) allB_nil (by kernel_rfl) (by (try rw [w53]);(try rw [w64]);(try rw [w66]);all_goals exact H))
 ·have H:=H.2 d38
  have k67:=H.1;have H:=H.2
  have w68:IntKind.i64.wrap (Sp.dist (gs.getD (o.getD (i - 1).toNat default).toNat default).x (gs.getD (o.getD (i - 1).toNat default).toNat default).y (gs.getD (o.getD i.toNat default).toNat default).x (gs.getD (o.getD i.toNat default).toNat default).y - Sp.dist (gs.getD (o.getD (i - 1).toNat default).toNat default).x (gs.getD (o.getD (i - 1).toNat default).toNat default).y (gs.getD (o.getD j.toNat default).toNat default).x (gs.getD (o.getD j.toNat default).toNat default).y) = Sp.dist (gs.getD (o.getD (i - 1).toNat default).toNat default).x (gs.getD (o.getD (i - 1).toNat default).toNat default).y (gs.getD (o.getD i.toNat default).toNat default).x (gs.getD (o.getD i.toNat default).toNat default).y - Sp.dist (gs.getD (o.getD (i - 1).toNat default).toNat default).x (gs.getD (o.getD (i - 1).toNat default).toNat default).y (gs.getD (o.getD j.toNat default).toNat default).x (gs.getD (o.getD j.toNat default).toNat default).y:=wI64 k67
  exact path_ret (G:=given kp65 [] []) 1000 [false] (k:=((atC (cd Try.f65) [1,1,1,1,1])).tail) (env':=[(8,AV.int IntKind.i64 (IntKind.i64.wrap (Sp.dist (gs.getD (o.getD (i - 1).toNat default).toNat default).x (gs.getD (o.getD (i - 1).toNat default).toNat default).y (gs.getD (o.getD i.toNat default).toNat default).x (gs.getD (o.getD i.toNat default).toNat default).y - Sp.dist (gs.getD (o.getD (i - 1).toNat default).toNat default).x (gs.getD (o.getD (i - 1).toNat default).toNat default).y (gs.getD (o.getD j.toNat default).toNat default).x (gs.getD (o.getD j.toNat default).toNat default).y)))]) (L':=[]) (asm:=[(decide (IntKind.i64.wrap (j + 1) < (↑(List.map (AV.int IntKind.i64) o).length:Int))) == false]) (eqs:=[]) (calls:=[]) (AV.int IntKind.i64 (IntKind.i64.wrap (Sp.dist (gs.getD (o.getD (i - 1).toNat default).toNat default).x (gs.getD (o.getD (i - 1).toNat default).toNat default).y (gs.getD (o.getD i.toNat default).toNat default).x (gs.getD (o.getD i.toNat default).toNat default).y - Sp.dist (gs.getD (o.getD (i - 1).toNat default).toNat default).x (gs.getD (o.getD (i - 1).toNat default).toNat default).y (gs.getD (o.getD j.toNat default).toNat default).x (gs.getD (o.getD j.toNat default).toNat default).y))) (by kernel_rfl) (by kernel_rfl) (allB_cons (beq_f (fun h => d38 (i37.1 h))) allB_nil) allP_nil allC_nil (pq_of (d:=(AV.int IntKind.i64 (IntKind.i64.wrap (Sp.dist (gs.getD (o.getD (i - 1).toNat default).toNat default).x (gs.getD (o.getD (i - 1).toNat default).toNat default).y (gs.getD (o.getD i.toNat default).toNat default).x (gs.getD (o.getD i.toNat default).toNat default).y - Sp.dist (gs.getD (o.getD (i - 1).toNat default).toNat default).x (gs.getD (o.getD (i - 1).toNat default).toNat default).y (gs.getD (o.getD j.toNat default).toNat default).x (gs.getD (o.getD j.toNat default).toNat default).y)))) (bs:=[]) (by kernel_rfl) (by kernel_rfl) allB_nil (by kernel_rfl) (by (try rw [w68]);all_goals exact H))
theorem tv43 (o:List Int) (v lo len:Nat)  (Q:AV -> Heap -> Prop) (H :
  (-9223372036854775808 <= (↑len:Int) - 1 /\ (↑len:Int) - 1 <= 9223372036854775807) /\
  tv43a_at (o) (v) (lo) (len) (0) ((↑len:Int) - 1) Q) :
 tv43_at o v lo len Q:=by
 unfold tv43_at
 have k1:=H.1;have H:=H.2
 have w2:IntKind.i64.wrap ((↑len:Int) - 1) = (↑len:Int) - 1:=wI64 k1
 exact path_wp (G:=given kp66 [] []) 1000 [] ⟨(atC (cd Try.f66) [1,0,0]),[(0,AV.ref 0 v lo len),(2,AV.int IntKind.i64 0),(3,AV.int IntKind.i64 (IntKind.i64.wrap ((↑len:Int) - 1)))],[{ elems:=List.map (AV.int IntKind.i64) o,es:=1,ver:=v,frozen:=false,clean:=true }],[v == v],[],[]⟩ (by kernel_rfl) (allB_cons (beq_self_eq_true _) allB_nil) allP_nil allC_nil (by (try rw [w2]);all_goals exact H)
theorem tv43a (o:List Int) (v lo len:Nat) (i j:Int)  (Q:AV -> Heap -> Prop) (H :
  ((i < j) -> (0 <= j) /\
   (j.toNat < len) /\
   (0 <= i) /\
   (i.toNat < len) /\
   (lo + j.toNat < o.length) /\
   (lo + i.toNat < o.length) /\
   (lo + j.toNat < (o.set (lo + i.toNat) (o.getD (lo + j.toNat) default)).length) /\
   (-9223372036854775808 <= i + 1 /\ i + 1 <= 9223372036854775807) /\
   (-9223372036854775808 <= j - 1 /\ j - 1 <= 9223372036854775807) /\
   tv43a_at ((o.set (lo + i.toNat) (o.getD (lo + j.toNat) default)).set (lo + j.toNat) (o.getD (lo + i.toNat) default)) (v) (lo) (len) (i + 1) (j - 1) Q) /\
  (¬(i < j) -> Q (AV.tup []) [{ elems:=List.map (AV.int IntKind.i64) o,es:=1,ver:=v,frozen:=false,clean:=true }])) :
 tv43a_at o v lo len i j Q:=by
 unfold tv43a_at
 have i1:(decide (i < j)) = true ↔ (i < j):=i_dec
 rcases Classical.em (i < j) with d2 | d2
 ·have H:=H.1 d2
  have w3:(List.map (AV.int IntKind.i64) o).set (lo + i.toNat) (AV.int IntKind.i64 (o.getD (lo + j.toNat) default)) = List.map (AV.int IntKind.i64) (o.set (lo + i.toNat) (o.getD (lo + j.toNat) default)):=(lm_set rfl rfl)
  have i4:(decide (0 <= j)) = true ↔ (0 <= j):=i_dec
  have k5:=H.1;have H:=H.2
  have i6:(decide (j.toNat < len)) = true ↔ (j.toNat < len):=i_dec
  have k7:=H.1;have H:=H.2
  have i8:(decide (0 <= i)) = true ↔ (0 <= i):=i_dec
  have k9:=H.1;have H:=H.2
  have i10:(decide (i.toNat < len)) = true ↔ (i.toNat < len):=i_dec
  have k11:=H.1;have H:=H.2
  have i12:(decide (0 <= i)) = true ↔ (0 <= i):=i_dec
  have i13:(decide (i.toNat < len)) = true ↔ (i.toNat < len):=i_dec
  have i14:(decide (0 <= j)) = true ↔ (0 <= j):=i_dec
  have i15:(decide (j.toNat < len)) = true ↔ (j.toNat < len):=i_dec
  have k16:=H.1;have H:=H.2
  have k17:=H.1;have H:=H.2
  have k18:=H.1;have H:=H.2
  have w19:(List.map (AV.int IntKind.i64) (o.set (lo + i.toNat) (o.getD (lo + j.toNat) default))).set (lo + j.toNat) (AV.int IntKind.i64 (o.getD (lo + i.toNat) default)) = List.map (AV.int IntKind.i64) ((o.set (lo + i.toNat) (o.getD (lo + j.toNat) default)).set (lo + j.toNat) (o.getD (lo + i.toNat) default)):=(lm_set rfl rfl)
  have k20:=H.1;have H:=H.2
  have w21:IntKind.i64.wrap (i + 1) = i + 1:=wI64 k20
  have k22:=H.1;have H:=H.2
  have w23:IntKind.i64.wrap (j - 1) = j - 1:=wI64 k22
  exact path_wp (G:=given kp66 [(3,7,.elem (AV.int IntKind.i64 (o.getD (lo + j.toNat) default))),(3,11,.elem (AV.int IntKind.i64 (o.getD (lo + i.toNat) default))),(3,13,.elem (AV.int IntKind.i64 (o.getD (lo + i.toNat) default))),(3,15,.elem (AV.int IntKind.i64 ((o.set (lo + i.toNat) (o.getD (lo + j.toNat) default)).getD (lo + j.toNat) default)))] []) 1000 [true] ⟨(atC (cd Try.f66) [1,0,0]),[(0,AV.ref 0 v lo len),(2,AV.int IntKind.i64 (IntKind.i64.wrap (i + 1))),(3,AV.int IntKind.i64 (IntKind.i64.wrap (j - 1)))],[{ elems:=((List.map (AV.int IntKind.i64) o).set (lo + i.toNat) (AV.int IntKind.i64 (o.getD (lo + j.toNat) default))).set (lo + j.toNat) (AV.int IntKind.i64 (o.getD (lo + i.toNat) default)),es:=1,ver:=v,frozen:=false,clean:=true }],[(decide (i < j)) == true,v == v,decide (0 <= j),decide (j.toNat < len),v == v,v == v,decide (0 <= i),decide (i.toNat < len),v == v,v == v,decide (0 <= i),decide (i.toNat < len),v == v,v == v,decide (0 <= j),decide (j.toNat < len),v == v],[((List.map (AV.int IntKind.i64) o).get?Internal (lo + j.toNat) = some (AV.int IntKind.i64 (o.getD (lo + j.toNat) default))),((List.map (AV.int IntKind.i64) o).get?Internal (lo + i.toNat) = some (AV.int IntKind.i64 (o.getD (lo + i.toNat) default))),((List.map (AV.int IntKind.i64) o).get?Internal (lo + i.toNat) = some (AV.int IntKind.i64 (o.getD (lo + i.toNat) default))),(((List.map (AV.int IntKind.i64) o).set (lo + i.toNat) (AV.int IntKind.i64 (o.getD (lo + j.toNat) default))).get?Internal (lo + j.toNat) = some (AV.int IntKind.i64 ((o.set (lo + i.toNat) (o.getD (lo + j.toNat) default)).getD (lo + j.toNat) default)))],[]⟩ (by kernel_rfl) (allB_cons (beq_t (i1.2 d2)) (allB_cons (beq_self_eq_true _) (allB_cons (i4.2 k5) (allB_cons (i6.2 k7) (allB_cons (beq_self_eq_true _) (allB_cons (beq_self_eq_true _) (allB_cons (i8.2 k9) (allB_cons (i10.2 k11) (allB_cons (beq_self_eq_true _) (allB_cons (beq_self_eq_true _) (allB_cons (i12.2 k9) (allB_cons (i13.2 k11) (allB_cons (beq_self_eq_true _) (allB_cons (beq_self_eq_true _) (allB_cons (i14.2 k5) (allB_cons (i15.2 k7) (allB_cons (beq_self_eq_true _) allB_nil))))))))))))))))) (allP_cons (el_map k16) (allP_cons (el_map k17) (allP_cons (el_map k17) (allP_cons (by (try rw [w3]);all_goals exact (el_map k18)) allP_nil)))) allC_nil (by (try rw [w3]);(try rw [w19]);(try rw [w21]);(try rw [w23]);all_goals exact H)
 ·have H:=H.2 d2
  exact path_end (G:=given kp66 [] []) 1000 [false] (env':=[(0,AV.ref 0 v lo len),(2,AV.int IntKind.i64 i),(3,AV.int IntKind.i64 j),(9,AV.bool (decide (i < j)))]) (L':=[{ elems:=List.map (AV.int IntKind.i64) o,es:=1,ver:=v,frozen:=false,clean:=true }]) (asm:=[(decide (i < j)) == false]) (eqs:=[]) (calls:=[]) (AV.tup []) (by kernel_rfl) (by kernel_rfl) (allB_cons (beq_f (fun h => d2 (i1.1 h))) allB_nil) allP_nil allC_nil H
end Go.Av

namespace Go.Av
open Go.Proofs
namespace Sp
def rev (o:List Int) (i j:Nat):List Int:=o.take i ++ (((o.drop i).take (j + 1 - i)).reverse ++ o.drop (j + 1))
def swp (o:List Int) (i j:Nat):List Int:=(o.set i (o.getD j default)).set j (o.getD i default)
def gain (gs:List G2) (o:List Int) (i j:Nat):Int:=
 if (j:Int) + 1 < o.length then dAt gs (o.getD (i - 1) default) (o.getD i default) + dAt gs (o.getD j default) (o.getD (j + 1) default) - (dAt gs (o.getD (i - 1) default) (o.getD j default) + dAt gs (o.getD i default) (o.getD (j + 1) default))
 else dAt gs (o.getD (i - 1) default) (o.getD i default) - dAt gs (o.getD (i - 1) default) (o.getD j default)
end Sp
theorem rev_len (o:List Int) {i j:Nat} (h:i <= j + 1) (hj:j < o.length):(Sp.rev o i j).length = o.length:=by
 unfold Sp.rev
 simp only [List.length_append,List.length_take,List.length_reverse,List.length_drop]
 omega
theorem rev_get (o:List Int) {i j:Nat} (h:i <= j + 1) (hj:j < o.length) (k:Nat) (hk:k < o.length):(Sp.rev o i j)[k]? = if i <= k /\ k <= j then o[i + j - k]? else o[k]?:=by
 unfold Sp.rev
 by_cases h1:k < i
 ·rw [if_neg (by omega),List.getElem?_append_left (by rw [List.length_take];omega),List.getElem?_take_of_lt h1]
 ·rw [List.getElem?_append_right (by rw [List.length_take];omega),List.length_take,Nat.min_eq_left (by omega)]
  by_cases h2:k <= j
  ·rw [if_pos (by omega),List.getElem?_append_left (by rw [List.length_reverse,List.length_take,List.length_drop];omega),List.getElem?_reverse (by rw [List.length_take,List.length_drop];omega),
    List.length_take,List.length_drop,List.getElem?_take_of_lt (by omega),List.getElem?_drop]
   congr 1;omega
  ·rw [if_neg (by omega),List.getElem?_append_right (by rw [List.length_reverse,List.length_take,List.length_drop];omega),List.length_reverse,List.length_take,List.length_drop,List.getElem?_drop]
   congr 1;omega
theorem swp_get (o:List Int) {i j:Nat} (hi:i < o.length) (hj:j < o.length) (k:Nat):(Sp.swp o i j)[k]? = if k = j then o[i]? else if k = i then o[j]? else o[k]?:=by
 unfold Sp.swp
 rw [List.getElem?_set,List.getElem?_set]
 simp only [List.length_set]
 by_cases h1:j = k
 ·subst h1
  rw [if_pos rfl,if_pos rfl,if_pos hj,List.getD_eq_getElem?_getD,List.getElem?_eq_getElem hi];rfl
 ·have h1':¬k = j:=by omega
  rw [if_neg h1,if_neg h1']
  by_cases h2:i = k
  ·subst h2
   rw [if_pos rfl,if_pos rfl,if_pos hi,List.getD_eq_getElem?_getD,List.getElem?_eq_getElem hj];rfl
  ·have h2':¬k = i:=by omega
   rw [if_neg h2,if_neg h2']
theorem rev_step (o:List Int) {i j:Nat} (h:i < j) (hj:j < o.length):Sp.rev (Sp.swp o i j) (i + 1) (j - 1) = Sp.rev o i j:=by
 have hl:(Sp.swp o i j).length = o.length:=by simp [Sp.swp]
 apply List.ext_getElem?
 intro k
 by_cases hk:k < o.length
 ·rw [rev_get _ (by omega) (by omega) k (by omega),rev_get _ (by omega) hj k hk,swp_get o (by omega) hj,swp_get o (by omega) hj]
  by_cases h1:i + 1 <= k /\ k <= j - 1
  ·rw [if_pos h1,if_neg (show ¬i + 1 + (j - 1) - k = j by omega),if_neg (show ¬i + 1 + (j - 1) - k = i by omega),if_pos (show i <= k /\ k <= j by omega)]
   congr 1;omega
  ·rw [if_neg h1]
   by_cases h2:k = j
   ·rw [if_pos h2,if_pos (show i <= k /\ k <= j by omega)]
    congr 1;omega
   ·rw [if_neg h2]
    by_cases h3:k = i
    ·rw [if_pos h3,if_pos (show i <= k /\ k <= j by omega)]
     congr 1;omega
    ·rw [if_neg h3,if_neg (show ¬(i <= k /\ k <= j) by omega)]
 ·rw [List.getElem?_eq_none (by rw [rev_len _ (by omega) (by omega)];omega),List.getElem?_eq_none (by rw [rev_len _ (by omega) hj];omega)]
theorem rev_self (o:List Int) {i j:Nat} (h:j <= i) (h2:i <= j + 1) (hj:j < o.length):Sp.rev o i j = o:=by
 apply List.ext_getElem?
 intro k
 by_cases hk:k < o.length
 ·rw [rev_get _ h2 hj k hk]
  split
  ·congr 1;omega
  ·rfl
 ·rw [List.getElem?_eq_none (by rw [rev_len _ h2 hj];omega),List.getElem?_eq_none (by omega)]
theorem rev_perm (o:List Int) {i j:Nat} (h:i <= j + 1) (_hj:j < o.length):List.Perm (Sp.rev o i j) o:=by
 unfold Sp.rev
 have e:o = o.take i ++ ((o.drop i).take (j + 1 - i) ++ o.drop (j + 1)):=by
  conv => lhs;rw [<- List.take_append_drop i o,<- List.take_append_drop (j + 1 - i) (o.drop i),List.drop_drop]
  congr 3;omega
 conv => rhs;rw [e]
 exact List.Perm.append_left _ (List.Perm.append_right _ (List.reverse_perm _))
theorem rev_ord {n:Nat} {o:List Int} {i j:Nat} (h:IsOrd n o) (hi:1 <= i) (hij:i <= j + 1) (hj:j < n):IsOrd n (Sp.rev o i j):=by
 have hl:=h.len
 have hp:=rev_perm o hij (by omega:j < o.length)
 refine ⟨by rw [rev_len o hij (by omega)];exact hl,hp.nodup_iff.2 h.nod,fun x hx => h.rng x (hp.mem_iff.1 hx),fun h0 => ?_⟩
 rw [List.getD_eq_getElem?_getD,rev_get o hij (by omega) 0 (by omega),if_neg (by omega),<- List.getD_eq_getElem?_getD]
 exact h.zero h0
theorem way_cons2 (gs:List G2) (x y:Int) (o:List Int):Sp.way gs (x :: y :: o) = Sp.dAt gs x y + Sp.way gs (y :: o):=rfl
theorem way_join (gs:List G2):∀ (a:List Int) (x y:Int) (b:List Int),Sp.way gs (a ++ x :: y :: b) = Sp.way gs (a ++ [x]) + Sp.dAt gs x y + Sp.way gs (y :: b)
 | [],x,y,b => by simp [Sp.way]
 | [z],x,y,b => by simp only [List.cons_append,List.nil_append,Sp.way];omega
 | z :: z' :: a,x,y,b => by
  have:=way_join gs (z' :: a) x y b
  simp only [List.cons_append,way_cons2] at this ⊢
  omega
theorem way_rev (gs:List G2):∀ (b:List Int),Sp.way gs b.reverse = Sp.way gs b
 | [] => rfl
 | [_] => rfl
 | x :: y :: b => by
  have ih:=way_rev gs (y :: b)
  rw [way_cons2,<- ih]
  simp only [List.reverse_cons,List.append_assoc,List.cons_append,List.nil_append]
  rw [way_join gs b.reverse y x []]
  simp only [Sp.way]
  rw [dAt_symm gs y x];omega
theorem rev_way (gs:List G2) {o:List Int} {i j:Nat} (hi:1 <= i) (hij:i < j) (hj:j < o.length):Sp.way gs (Sp.rev o i j) = Sp.way gs o - Sp.gain gs o i j:=by
 have eA:o.take i = o.take (i - 1) ++ [o.getD (i - 1) default]:=by
  have:i = i - 1 + 1:=by omega
  conv => lhs;rw [this]
  rw [List.take_add_one,List.getD_eq_getElem?_getD,List.getElem?_eq_getElem (by omega)];rfl
 have eM:(o.drop i).take (j + 1 - i) = o.getD i default :: ((o.drop (i + 1)).take (j - 1 - i) ++ [o.getD j default]):=by
  rw [drop_getD (show i < o.length by omega)]
  have e1:j + 1 - i = (j - 1 - i) + 1 + 1:=by omega
  rw [e1,List.take_succ_cons,List.take_add_one,List.getElem?_drop]
  have e2:i + 1 + (j - 1 - i) = j:=by omega
  rw [e2,List.getElem?_eq_getElem hj,List.getD_eq_getElem?_getD (i:=j),List.getElem?_eq_getElem hj];rfl
 have eo:o = o.take i ++ ((o.drop i).take (j + 1 - i) ++ o.drop (j + 1)):=by
  conv => lhs;rw [<- List.take_append_drop i o,<- List.take_append_drop (j + 1 - i) (o.drop i),List.drop_drop]
  congr 3;omega
 obtain ⟨g,eg⟩:∃ g,g = Sp.gain gs o i j:=⟨_,rfl⟩
 rw [<- eg]
 unfold Sp.gain at eg
 generalize hA:o.take (i - 1) = A at eA
 generalize ha:o.getD (i - 1) default = a at eA eg
 generalize hb:o.getD i default = b at eM eg
 generalize hM:(o.drop (i + 1)).take (j - 1 - i) = M at eM
 generalize hc:o.getD j default = c at eM eg
 have w1:Sp.way gs (o.take i ++ ((o.drop i).take (j + 1 - i))) = Sp.way gs (A ++ [a]) + Sp.dAt gs a b + Sp.way gs (b :: (M ++ [c])):=by
  rw [eA,eM,List.append_assoc,List.singleton_append,way_join]
 have w2:Sp.way gs (o.take i ++ ((o.drop i).take (j + 1 - i)).reverse) = Sp.way gs (A ++ [a]) + Sp.dAt gs a c + Sp.way gs (b :: (M ++ [c])):=by
  have e:(b :: (M ++ [c])).reverse = c :: (M.reverse ++ [b]):=by simp
  have e2:=way_rev gs (b :: (M ++ [c]))
  rw [e] at e2
  rw [eA,eM,e,List.append_assoc,List.singleton_append,way_join,e2]
 by_cases hd:j + 1 < o.length
 ·rw [if_pos (by omega)] at eg
  generalize hdd:o.getD (j + 1) default = d at eg
  have eD:o.drop (j + 1) = d :: o.drop (j + 2):=by rw [drop_getD hd,hdd]
  generalize o.drop (j + 2) = D at eD
  have v1:Sp.way gs o = Sp.way gs (o.take i ++ ((o.drop i).take (j + 1 - i))) + Sp.dAt gs c d + Sp.way gs (d :: D):=by
   have e:o = (A ++ [a] ++ b :: M) ++ c :: d :: D:=by
    rw [eA,eM,eD] at eo
    simpa using eo
   have e2:o.take i ++ ((o.drop i).take (j + 1 - i)) = (A ++ [a] ++ b :: M) ++ [c]:=by rw [eA,eM];simp
   rw [e2]
   conv => lhs;rw [e]
   rw [way_join]
  have v2:Sp.way gs (Sp.rev o i j) = Sp.way gs (o.take i ++ ((o.drop i).take (j + 1 - i)).reverse) + Sp.dAt gs b d + Sp.way gs (d :: D):=by
   have e2:o.take i ++ ((o.drop i).take (j + 1 - i)).reverse = (A ++ [a] ++ c :: M.reverse) ++ [b]:=by rw [eA,eM];simp
   have e:Sp.rev o i j = (A ++ [a] ++ c :: M.reverse) ++ b :: d :: D:=by
    unfold Sp.rev
    rw [eA,eM,eD];simp
   rw [e2,e,way_join]
  rw [v1,v2,w1,w2];omega
 ·rw [if_neg (by omega)] at eg
  have eD:o.drop (j + 1) = []:=List.drop_eq_nil_of_le (by omega)
  have v1:Sp.way gs o = Sp.way gs (o.take i ++ ((o.drop i).take (j + 1 - i))):=by
   rw [eD,List.append_nil] at eo
   rw [<- eo]
  have v2:Sp.way gs (Sp.rev o i j) = Sp.way gs (o.take i ++ ((o.drop i).take (j + 1 - i)).reverse):=by
   unfold Sp.rev
   rw [eD,List.append_nil]
  rw [v1,v2,w1,w2];omega
theorem dAt_fold (gs:List G2) (a b:Int):Sp.dist (gs.getD a.toNat default).x (gs.getD a.toNat default).y (gs.getD b.toNat default).x (gs.getD b.toNat default).y = Sp.dAt gs a b:=rfl
theorem gain42 (fl fm:Bool) (gs:List G2) (o:List Int) (i j:Nat) (h:Sp.okG gs /\ Sp.okO gs o /\ o.length <= 1000 /\ 1 <= i /\ i < j /\ j < o.length):Ev M1 (.pure 65 [gsA fl gs,isA fm o,.int .i64 i,.int .i64 j]) (.int .i64 (Sp.gain gs o i j)) []:=by
 obtain ⟨hg,ho,hl,h1,h2,h3⟩:=h
 have e1:((i:Int) - 1).toNat = i - 1:=by omega
 have e2:((j:Int) + 1).toNat = j + 1:=by omega
 have m0:=ho _ (getD_mem (show i - 1 < o.length by omega))
 have m1:=ho _ (getD_mem (show i < o.length by omega))
 have m2:=ho _ (getD_mem h3)
 have ok:∀ k k':Nat,Sp.inM (gs.getD k default).x /\ Sp.inM (gs.getD k default).y /\ Sp.inM (gs.getD k' default).x /\ Sp.inM (gs.getD k' default).y:=fun k k' => ⟨(okG_at hg _).1,(okG_at hg _).2,(okG_at hg _).1,(okG_at hg _).2⟩
 have b:∀ x y,0 <= Sp.dAt gs x y /\ Sp.dAt gs x y <= 20000000:=dAt_le hg
 refine call65 (tv42 fl fm gs o i j _ ?_)
 simp only [dAt_fold]
 rw [e1,e2,Int.toNat_natCast,Int.toNat_natCast]
 have b1:=b (o.getD (i - 1) default) (o.getD i default)
 have b2:=b (o.getD (i - 1) default) (o.getD j default)
 have b3:=b (o.getD j default) (o.getD (j + 1) default)
 have b4:=b (o.getD i default) (o.getD (j + 1) default)
 refine ⟨by omega,ok _ _,by omega,by omega,m0.1,by omega,by omega,by omega,m1.1,by omega,ok _ _,by omega,by omega,m2.1,by omega,by omega,fun hc => ?_,fun hc => ?_⟩
 ·have m3:=ho _ (getD_mem (show j + 1 < o.length by omega))
  refine ⟨ok _ _,by omega,by omega,m3.1,by omega,by omega,ok _ _,by omega,by omega,?_⟩
  unfold Sp.gain
  rw [if_pos hc]
 ·refine ⟨by omega,?_⟩
  unfold Sp.gain
  rw [if_neg hc]
theorem loop43 {v lo len:Nat} {Q:AV -> Heap -> Prop}:∀ (c:Nat) (o:List Int) (i j:Nat),j < c + i -> j < len -> i <= j + 1 -> lo + len <= o.length -> o.length <= 1000 -> Q (.tup []) [orow (Sp.rev o (lo + i) (lo + j)) v false] -> tv43a_at o v lo len i j Q
 | 0,o,i,j,hc,hj,hij,hl,hb,hq => by
  refine tv43a _ _ _ _ _ _ _ ⟨fun h => by omega,fun _ => ?_⟩
  rw [rev_self o (by omega) (by omega) (by omega)] at hq
  exact hq
 | c + 1,o,i,j,hc,hj,hij,hl,hb,hq => by
  refine tv43a _ _ _ _ _ _ _ ⟨fun h => ?_,fun h => ?_⟩
  ·rw [Int.toNat_natCast,Int.toNat_natCast]
   have e1:(j:Int) - 1 = (j - 1:Nat):=by omega
   refine ⟨by omega,by omega,by omega,by omega,by omega,by omega,by rw [List.length_set];omega,by omega,by omega,?_⟩
   rw [e1]
   refine loop43 c _ (i + 1) (j - 1) (by omega) (by omega) (by omega) (by simpa using hl) (by simpa using hb) ?_
   have:Sp.rev (Sp.swp o (lo + i) (lo + j)) (lo + (i + 1)) (lo + (j - 1)) = Sp.rev o (lo + i) (lo + j):=by
    have:=rev_step o (show lo + i < lo + j by omega) (by omega)
    rw [show lo + (i + 1) = lo + i + 1 by omega,show lo + (j - 1) = lo + j - 1 by omega];exact this
   unfold Sp.swp at this
   rw [this];exact hq
  ·rw [rev_self o (by omega) (by omega) (by omega)] at hq
   exact hq
theorem evo66 (o:List Int) (v lo len:Nat) (h:0 < len /\ lo + len <= o.length /\ o.length <= 1000):Ev M1 (.own 66 [.ref 0 v lo len] [orow o v false]) (.tup []) [orow (Sp.rev o lo (lo + (len - 1))) v false]:=by
 refine owncall66 (tv43 o v lo len _ ⟨by omega,?_⟩)
 have e1:(len:Int) - 1 = (len - 1:Nat):=by omega
 rw [e1]
 exact loop43 len o 0 (len - 1) (by omega) (by omega) (by omega) h.2.1 h.2.2 ⟨rfl,rfl⟩
theorem ev65 (fl fm:Bool) (gs:List G2) (o:List Int) (i j:Int) (h:Sp.okG gs /\ Sp.okO gs o /\ o.length <= 1000 /\ 1 <= i /\ i < j /\ j < o.length):Ev M1 (.pure 65 [gsA fl gs,isA fm o,.int .i64 i,.int .i64 j]) (.int .i64 (Sp.gain gs o i.toNat j.toNat)) []:=by
 obtain ⟨h1,h2,h3,h4,h5,h6⟩:=h
 have:=gain42 fl fm gs o i.toNat j.toNat ⟨h1,h2,h3,by omega,by omega,by omega⟩
 rwa [Int.toNat_of_nonneg (by omega),Int.toNat_of_nonneg (by omega)] at this
end Go.Av

namespace Go.Av
open Go.Proofs
set_option maxRecDepth 100000
def fi33:Fi:=⟨51,[.tmp 4,.tmp 5]⟩
def kp33:List (Nat × List Nat):=[(0,[0,1]),(1,[0,1,6]),(2,[0,1,6,14]),(3,[4,5]),(4,[0,1,20]),(5,[4,5]),(6,[0,7]),(7,[0,7,8]),(8,[0,7,23]),(9,[0,7,8]),(10,[0,7,8,9]),(11,[0,7,8,9,27]),(12,[0,7,8,9]),(13,[0,7,8,9,10]),(14,[0,7,8,9,10,35]),(15,[0,7,8,9,10]),(16,[0,7,8,9,10,43]),(17,[0,7,9,10]),(18,[0,7,8,9,10]),(19,[4,5])]
def tv26_at (fl fm:Bool) (gs:List G2) (o:List Int) (Q:AV -> Heap -> Prop):Prop:=Wp M1 (.run fi33 (atC (cd Try.f33) []) [(0,.vec fl 2 (gs.map G2.a)),(1,.vec fm 1 (o.map (.int .i64)))] []) Q
def tv26n_at (fl fm:Bool) (gs:List G2) (Q:AV -> Heap -> Prop):Prop:=Wp M1 (.run fi33 (atC (cd Try.f33) []) [(0,.vec fl 2 (gs.map G2.a)),(1,.vec fm 1 [])] []) Q
def tv26x_at (fl:Bool) (gs:List G2) (ag:Bool) (Q:AV -> Heap -> Prop):Prop:=Wp M1 (.run fi33 (atC (cd Try.f33) [1,1,1,1,0,1,0,0]) [(0,.vec fl 2 (gs.map G2.a)),(7,.vec false 1 []),(8,.bool ag)] []) Q
def tv26z_at (fl:Bool) (gs:List G2) (ag:Bool) (i:Int) (c:Bool) (Q:AV -> Heap -> Prop):Prop:=Wp M1 (.run fi33 (atC (cd Try.f33) [1,1,1,1,0,1,0,0]) [(0,.vec fl 2 (gs.map G2.a)),(7,.vec false 1 []),(8,.bool ag),(9,.int .i64 i),(27,.bool c)] []) Q
def tv26y_at (fl:Bool) (gs:List G2) (ag:Bool) (Q:AV -> Heap -> Prop):Prop:=Wp M1 (.run fi33 (atC (cd Try.f33) [1,1,1,1,0,1,0,0,1,0,1,1,0,0]) [(0,.vec fl 2 (gs.map G2.a)),(7,.vec false 1 []),(8,.bool ag),(9,.int .i64 1)] []) Q
def tv26a_at (fl:Bool) (gs:List G2) (o:List Int) (v:Nat) (ag:Bool) (Q:AV -> Heap -> Prop):Prop:=Wp M1 (.run fi33 (atC (cd Try.f33) [1,1,1,1,0,1,0,0]) [(0,.vec fl 2 (gs.map G2.a)),(7,.row 0 v),(8,.bool ag)] [⟨o.map (.int .i64),1,v,false,true⟩]) Q
def tv26d_at (fl:Bool) (gs:List G2) (o:List Int) (v:Nat) (ag:Bool) (i:Int) (c:Bool) (Q:AV -> Heap -> Prop):Prop:=Wp M1 (.run fi33 (atC (cd Try.f33) [1,1,1,1,0,1,0,0]) [(0,.vec fl 2 (gs.map G2.a)),(7,.row 0 v),(8,.bool ag),(9,.int .i64 i),(27,.bool c)] [⟨o.map (.int .i64),1,v,false,true⟩]) Q
def tv26b_at (fl:Bool) (gs:List G2) (o:List Int) (v:Nat) (ag:Bool) (i:Int) (Q:AV -> Heap -> Prop):Prop:=Wp M1 (.run fi33 (atC (cd Try.f33) [1,1,1,1,0,1,0,0,1,0,1,1,0,0]) [(0,.vec fl 2 (gs.map G2.a)),(7,.row 0 v),(8,.bool ag),(9,.int .i64 i)] [⟨o.map (.int .i64),1,v,false,true⟩]) Q
def tv26c_at (fl:Bool) (gs:List G2) (o:List Int) (v:Nat) (ag:Bool) (i j:Int) (Q:AV -> Heap -> Prop):Prop:=Wp M1 (.run fi33 (atC (cd Try.f33) [1,1,1,1,0,1,0,0,1,0,1,1,0,0,1,0,0,1,0,0]) [(0,.vec fl 2 (gs.map G2.a)),(7,.row 0 v),(8,.bool ag),(9,.int .i64 i),(10,.int .i64 j)] [⟨o.map (.int .i64),1,v,false,true⟩]) Q
theorem call33 {args:List AV} {d:AV} (h:wc M1 fi33 Try.f33 args d):Ev M1 (.pure 33 args) d []:=pcl _ _ (by kernel_rfl) h
theorem tv26 (fl fm:Bool) (gs:List G2) (o:List Int)  (dq:AV) (H :
  (Sp.mOk 200) /\
  ((¬Sp.checkE gs 200 = 0) -> Weak (AV.tup [AV.vnil,AV.int IntKind.i64 (Sp.checkE gs 200)]) dq) /\
  (¬(¬Sp.checkE gs 200 = 0) -> (0 <= (↑gs.length:Int) /\ (↑gs.length:Int) <= 1000000) /\
   ((¬(Sp.isOrd o (↑gs.length:Int) = true)) -> Weak (AV.tup [AV.vnil,AV.int IntKind.i64 1]) dq) /\
   (¬(¬(Sp.isOrd o (↑gs.length:Int) = true)) -> (o.length <= 1000000 /\ 0 < o.length) /\
    tv26a_at (fl) (gs) (o) (0) (true) (PureQ dq)))) :
 tv26_at fl fm gs o (PureQ dq):=by
 unfold tv26_at
 have k1:=H.1;have H:=H.2
 have i2:(Sp.checkE gs 200 != 0) = true ↔ (¬Sp.checkE gs 200 = 0):=i_ne
 refine path_wp (G:=given kp33 [(1,1,.call (AV.int IntKind.i64 (Sp.checkE gs 200)) none)] []) 7 [] ⟨(atC (cd Try.f33) [1,0,1,1]),[(0,AV.vec fl 2 (List.map G2.a gs)),(1,AV.vec fm 1 (List.map (AV.int IntKind.i64) o)),(6,AV.int IntKind.i64 (Sp.checkE gs 200)),(14,AV.bool (Sp.checkE gs 200 != 0))],[],[],[],[⟨true,false,62,[AV.vec fl 2 (List.map G2.a gs),AV.int IntKind.i64 200],[],AV.int IntKind.i64 (Sp.checkE gs 200),[]⟩]⟩ (by kernel_rfl) allB_nil allP_nil (allC_cons (fun _ => ((@ev62 (fl) (gs) (200) k1):Ev M1 (Conf.pure 62 [AV.vec fl 2 (List.map G2.a gs),AV.int IntKind.i64 200]) (AV.int IntKind.i64 (Sp.checkE gs 200)) [])) allC_nil) ?_
 rcases Classical.em (¬Sp.checkE gs 200 = 0) with d3 | d3
 ·have H:=H.1 d3
  exact path_ret (G:=given kp33 [] []) 1000 [true] (k:=((atC (cd Try.f33) [1,0,1,1,0,1])).tail) (env':=[(4,AV.vnil),(5,AV.int IntKind.i64 (Sp.checkE gs 200))]) (L':=[]) (asm:=[(Sp.checkE gs 200 != 0) == true]) (eqs:=[]) (calls:=[]) (AV.tup [AV.vnil,AV.int IntKind.i64 (Sp.checkE gs 200)]) (by kernel_rfl) (by kernel_rfl) (allB_cons (beq_t (i2.2 d3)) allB_nil) allP_nil allC_nil (pq_weak (d:=(AV.tup [AV.vnil,AV.int IntKind.i64 (Sp.checkE gs 200)])) (bs:=[]) (by kernel_rfl) (by kernel_rfl) allB_nil (by kernel_rfl) H)
 ·have H:=H.2 d3
  have w4:(List.map G2.a gs).length = gs.length:=List.length_map ..
  have k5:=H.1;have H:=H.2
  have i6:(!Sp.isOrd o (↑gs.length:Int)) = true ↔ (¬(Sp.isOrd o (↑gs.length:Int) = true)):=(i_not (i_var _))
  refine path_wp (G:=given kp33 [(4,3,.call (AV.bool (Sp.isOrd o (↑gs.length:Int))) none)] []) 5 [false] ⟨(atC (cd Try.f33) [1,1,0,1]),[(0,AV.vec fl 2 (List.map G2.a gs)),(1,AV.vec fm 1 (List.map (AV.int IntKind.i64) o)),(20,AV.bool !Sp.isOrd o (↑gs.length:Int))],[],[(Sp.checkE gs 200 != 0) == false],[],[⟨true,false,63,[AV.vec fm 1 (List.map (AV.int IntKind.i64) o),AV.int IntKind.i64 (↑(List.map G2.a gs).length:Int)],[],AV.bool (Sp.isOrd o (↑gs.length:Int)),[]⟩]⟩ (by kernel_rfl) (allB_cons (beq_f (fun h => d3 (i2.1 h))) allB_nil) allP_nil (allC_cons (fun _ => ((by (try rw [w4]);all_goals exact (@ev63 (fm) (o) ((↑gs.length:Int)) k5)):Ev M1 (Conf.pure 63 [AV.vec fm 1 (List.map (AV.int IntKind.i64) o),AV.int IntKind.i64 (↑(List.map G2.a gs).length:Int)]) (AV.bool (Sp.isOrd o (↑gs.length:Int))) [])) allC_nil) ?_
  rcases Classical.em (¬(Sp.isOrd o (↑gs.length:Int) = true)) with d7 | d7
  ·have H:=H.1 d7
   exact path_ret (G:=given kp33 [] []) 1000 [true] (k:=((atC (cd Try.f33) [1,1,0,1,0,1])).tail) (env':=[(4,AV.vnil),(5,AV.int IntKind.i64 1)]) (L':=[]) (asm:=[(!Sp.isOrd o (↑gs.length:Int)) == true]) (eqs:=[]) (calls:=[]) (AV.tup [AV.vnil,AV.int IntKind.i64 1]) (by kernel_rfl) (by kernel_rfl) (allB_cons (beq_t (i6.2 d7)) allB_nil) allP_nil allC_nil (pq_weak (d:=(AV.tup [AV.vnil,AV.int IntKind.i64 1])) (bs:=[]) (by kernel_rfl) (by kernel_rfl) allB_nil (by kernel_rfl) H)
  ·have H:=H.2 d7
   have k8:=H.1;have H:=H.2
   exact path_wp (G:=given kp33 [(6,1,.call (AV.row 0 0) (some [{ elems:=List.map (AV.int IntKind.i64) o,es:=1,ver:=0,frozen:=false,clean:=true }]))] []) 1000 [false] ⟨(atC (cd Try.f33) [1,1,1,1,0,1,0,0]),[(0,AV.vec fl 2 (List.map G2.a gs)),(7,AV.row 0 0),(8,AV.bool true)],[{ elems:=List.map (AV.int IntKind.i64) o,es:=1,ver:=0,frozen:=false,clean:=true }],[(!Sp.isOrd o (↑gs.length:Int)) == false,scalarL (List.map (AV.int IntKind.i64) o)],[],[⟨true,true,64,[AV.vec fm 1 (List.map (AV.int IntKind.i64) o)],[],AV.row 0 0,[{ elems:=List.map (AV.int IntKind.i64) o,es:=1,ver:=0,frozen:=false,clean:=true }]⟩]⟩ (by kernel_rfl) (allB_cons (beq_f (fun h => d7 (i6.1 h))) (allB_cons (by first | exact sc_int _ | exact sc_bool _) allB_nil)) allP_nil (allC_cons (fun _ => ((@evf64 (fm) (o) k8):Ev M1 (Conf.own 64 [AV.vec fm 1 (List.map (AV.int IntKind.i64) o)] []) (AV.row 0 0) [{ elems:=List.map (AV.int IntKind.i64) o,es:=1,ver:=0,frozen:=false,clean:=true }])) allC_nil) (H)
theorem tv26n (fl fm:Bool) (gs:List G2)  (dq:AV) (H :
  (Sp.mOk 200) /\
  ((¬Sp.checkE gs 200 = 0) -> Weak (AV.tup [AV.vnil,AV.int IntKind.i64 (Sp.checkE gs 200)]) dq) /\
  (¬(¬Sp.checkE gs 200 = 0) -> ∃ (b1:Bool),
   (Ev M1 (Conf.pure 63 [AV.vec fm 1 [],AV.int IntKind.i64 (↑gs.length:Int)]) (AV.bool b1) []) /\
   ((¬(b1 = true)) -> Weak (AV.tup [AV.vnil,AV.int IntKind.i64 1]) dq) /\
   (¬(¬(b1 = true)) -> ∃ (l1:List (Int)),
    (Ev M1 (Conf.pure 64 [AV.vec fm 1 []]) (AV.vec false 1 (List.map (AV.int IntKind.i64) l1)) []) /\
    Wp M1 (.run fi33 (atC (cd Try.f33) [1,1,1,1,0,1,0,0]) [(0,AV.vec fl 2 (List.map G2.a gs)),(7,AV.vec false 1 (List.map (AV.int IntKind.i64) l1)),(8,AV.bool true)] []) (PureQ dq)))) :
 tv26n_at fl fm gs (PureQ dq):=by
 unfold tv26n_at
 have k1:=H.1;have H:=H.2
 have i2:(Sp.checkE gs 200 != 0) = true ↔ (¬Sp.checkE gs 200 = 0):=i_ne
 refine path_wp (G:=given kp33 [(1,1,.call (AV.int IntKind.i64 (Sp.checkE gs 200)) none)] []) 7 [] ⟨(atC (cd Try.f33) [1,0,1,1]),[(0,AV.vec fl 2 (List.map G2.a gs)),(1,AV.vec fm 1 []),(6,AV.int IntKind.i64 (Sp.checkE gs 200)),(14,AV.bool (Sp.checkE gs 200 != 0))],[],[],[],[⟨true,false,62,[AV.vec fl 2 (List.map G2.a gs),AV.int IntKind.i64 200],[],AV.int IntKind.i64 (Sp.checkE gs 200),[]⟩]⟩ (by kernel_rfl) allB_nil allP_nil (allC_cons (fun _ => ((@ev62 (fl) (gs) (200) k1):Ev M1 (Conf.pure 62 [AV.vec fl 2 (List.map G2.a gs),AV.int IntKind.i64 200]) (AV.int IntKind.i64 (Sp.checkE gs 200)) [])) allC_nil) ?_
 rcases Classical.em (¬Sp.checkE gs 200 = 0) with d3 | d3
 ·have H:=H.1 d3
  exact path_ret (G:=given kp33 [] []) 1000 [true] (k:=((atC (cd Try.f33) [1,0,1,1,0,1])).tail) (env':=[(4,AV.vnil),(5,AV.int IntKind.i64 (Sp.checkE gs 200))]) (L':=[]) (asm:=[(Sp.checkE gs 200 != 0) == true]) (eqs:=[]) (calls:=[]) (AV.tup [AV.vnil,AV.int IntKind.i64 (Sp.checkE gs 200)]) (by kernel_rfl) (by kernel_rfl) (allB_cons (beq_t (i2.2 d3)) allB_nil) allP_nil allC_nil (pq_weak (d:=(AV.tup [AV.vnil,AV.int IntKind.i64 (Sp.checkE gs 200)])) (bs:=[]) (by kernel_rfl) (by kernel_rfl) allB_nil (by kernel_rfl) H)
 ·have H:=H.2 d3
  have w4:(List.map G2.a gs).length = gs.length:=List.length_map ..
  obtain ⟨b1,H⟩:=H
  have k5:=H.1;have H:=H.2
  have i6:(!b1) = true ↔ (¬(b1 = true)):=(i_not (i_var _))
  refine path_wp (G:=given kp33 [(4,3,.call (AV.bool b1) none)] []) 5 [false] ⟨(atC (cd Try.f33) [1,1,0,1]),[(0,AV.vec fl 2 (List.map G2.a gs)),(1,AV.vec fm 1 []),(20,AV.bool !b1)],[],[(Sp.checkE gs 200 != 0) == false],[],[⟨true,false,63,[AV.vec fm 1 [],AV.int IntKind.i64 (↑(List.map G2.a gs).length:Int)],[],AV.bool b1,[]⟩]⟩ (by kernel_rfl) (allB_cons (beq_f (fun h => d3 (i2.1 h))) allB_nil) allP_nil (allC_cons (fun _ => ((by (try rw [w4]);all_goals exact k5):Ev M1 (Conf.pure 63 [AV.vec fm 1 [],AV.int IntKind.i64 (↑(List.map G2.a gs).length:Int)]) (AV.bool b1) [])) allC_nil) ?_
  rcases Classical.em (¬(b1 = true)) with d7 | d7
  ·have H:=H.1 d7
   exact path_ret (G:=given kp33 [] []) 1000 [true] (k:=((atC (cd Try.f33) [1,1,0,1,0,1])).tail) (env':=[(4,AV.vnil),(5,AV.int IntKind.i64 1)]) (L':=[]) (asm:=[(!b1) == true]) (eqs:=[]) (calls:=[]) (AV.tup [AV.vnil,AV.int IntKind.i64 1]) (by kernel_rfl) (by kernel_rfl) (allB_cons (beq_t (i6.2 d7)) allB_nil) allP_nil allC_nil (pq_weak (d:=(AV.tup [AV.vnil,AV.int IntKind.i64 1])) (bs:=[]) (by kernel_rfl) (by kernel_rfl) allB_nil (by kernel_rfl) H)
  ·have H:=H.2 d7
   obtain ⟨l1,H⟩:=H
   have k8:=H.1;have H:=H.2
   exact path_wp (G:=given kp33 [(6,1,.call (AV.vec false 1 (List.map (AV.int IntKind.i64) l1)) none)] []) 1000 [false] ⟨(atC (cd Try.f33) [1,1,1,1,0,1,0,0]),[(0,AV.vec fl 2 (List.map G2.a gs)),(7,AV.vec false 1 (List.map (AV.int IntKind.i64) l1)),(8,AV.bool true)],[],[(!b1) == false],[],[⟨true,false,64,[AV.vec fm 1 []],[],AV.vec false 1 (List.map (AV.int IntKind.i64) l1),[]⟩]⟩ (by kernel_rfl) (allB_cons (beq_f (fun h => d7 (i6.1 h))) allB_nil) allP_nil (allC_cons (fun _ => (k8:Ev M1 (Conf.pure 64 [AV.vec fm 1 []]) (AV.vec false 1 (List.map (AV.int IntKind.i64) l1)) [])) allC_nil) (H)
theorem tv26x (fl:Bool) (gs:List G2) (ag:Bool)  (dq:AV) (H :
  ((ag = true) -> tv26y_at (fl) (gs) (false) (PureQ dq)) /\
  (¬(ag = true) -> Weak (AV.tup [AV.vec false 1 [],AV.int IntKind.i64 0]) dq)) :
 tv26x_at fl gs ag (PureQ dq):=by
 unfold tv26x_at
 have i1:(ag) = true ↔ (ag = true):=(i_var _)
 rcases Classical.em (ag = true) with d2 | d2
 ·have H:=H.1 d2
  exact path_wp (G:=given kp33 [] []) 1000 [true] ⟨(atC (cd Try.f33) [1,1,1,1,0,1,0,0,1,0,1,1,0,0]),[(0,AV.vec fl 2 (List.map G2.a gs)),(7,AV.vec false 1 []),(8,AV.bool false),(9,AV.int IntKind.i64 1)],[],[(ag) == true],[],[]⟩ (by kernel_rfl) (allB_cons (beq_t (i1.2 d2)) allB_nil) allP_nil allC_nil (H)
 ·have H:=H.2 d2
  exact path_ret (G:=given kp33 [] []) 1000 [false] (k:=((atC (cd Try.f33) [1,1,1,1,1,1])).tail) (env':=[(4,AV.vec false 1 []),(5,AV.int IntKind.i64 0)]) (L':=[]) (asm:=[(ag) == false]) (eqs:=[]) (calls:=[]) (AV.tup [AV.vec false 1 [],AV.int IntKind.i64 0]) (by kernel_rfl) (by kernel_rfl) (allB_cons (beq_f (fun h => d2 (i1.1 h))) allB_nil) allP_nil allC_nil (pq_weak (d:=(AV.tup [AV.vec false 1 [],AV.int IntKind.i64 0])) (bs:=[]) (by kernel_rfl) (by kernel_rfl) allB_nil (by kernel_rfl) H)
theorem tv26z (fl:Bool) (gs:List G2) (ag:Bool) (i:Int) (c:Bool)  (dq:AV) (H :
  ((ag = true) -> tv26y_at (fl) (gs) (false) (PureQ dq)) /\
  (¬(ag = true) -> Weak (AV.tup [AV.vec false 1 [],AV.int IntKind.i64 0]) dq)) :
 tv26z_at fl gs ag i c (PureQ dq):=by
 unfold tv26z_at
 have i1:(ag) = true ↔ (ag = true):=(i_var _)
 rcases Classical.em (ag = true) with d2 | d2
 ·have H:=H.1 d2
  exact path_wp (G:=given kp33 [] []) 1000 [true] ⟨(atC (cd Try.f33) [1,1,1,1,0,1,0,0,1,0,1,1,0,0]),[(0,AV.vec fl 2 (List.map G2.a gs)),(7,AV.vec false 1 []),(8,AV.bool false),(9,AV.int IntKind.i64 1)],[],[(ag) == true],[],[]⟩ (by kernel_rfl) (allB_cons (beq_t (i1.2 d2)) allB_nil) allP_nil allC_nil (H)
 ·have H:=H.2 d2
  exact path_ret (G:=given kp33 [] []) 1000 [false] (k:=((atC (cd Try.f33) [1,1,1,1,1,1])).tail) (env':=[(4,AV.vec false 1 []),(5,AV.int IntKind.i64 0)]) (L':=[]) (asm:=[(ag) == false]) (eqs:=[]) (calls:=[]) (AV.tup [AV.vec false 1 [],AV.int IntKind.i64 0]) (by kernel_rfl) (by kernel_rfl) (allB_cons (beq_f (fun h => d2 (i1.1 h))) allB_nil) allP_nil allC_nil (pq_weak (d:=(AV.tup [AV.vec false 1 [],AV.int IntKind.i64 0])) (bs:=[]) (by kernel_rfl) (by kernel_rfl) allB_nil (by kernel_rfl) H)
theorem tv26y (fl:Bool) (gs:List G2) (ag:Bool)  (dq:AV) (H :
  tv26z_at (fl) (gs) (ag) (1) (false) (PureQ dq)) :
 tv26y_at fl gs ag (PureQ dq):=by
 unfold tv26y_at
 exact path_wp (G:=given kp33 [] []) 1000 [false] ⟨(atC (cd Try.f33) [1,1,1,1,0,1,0,0]),[(0,AV.vec fl 2 (List.map G2.a gs)),(7,AV.vec false 1 []),(8,AV.bool ag),(9,AV.int IntKind.i64 1),(27,AV.bool false)],[],[false == false],[],[]⟩ (by kernel_rfl) (allB_cons rfl allB_nil) allP_nil allC_nil (H)
theorem tv26a (fl:Bool) (gs:List G2) (o:List Int) (v:Nat) (ag:Bool)  (dq:AV) (H :
  ((ag = true) -> tv26b_at (fl) (gs) (o) (v) (false) (1) (PureQ dq)) /\
  (¬(ag = true) -> Weak (AV.tup [AV.vec false 1 (List.map (AV.int IntKind.i64) o),AV.int IntKind.i64 0]) dq)) :
 tv26a_at fl gs o v ag (PureQ dq):=by
 unfold tv26a_at
 have i1:(ag) = true ↔ (ag = true):=(i_var _)
 rcases Classical.em (ag = true) with d2 | d2
 ·have H:=H.1 d2
  exact path_wp (G:=given kp33 [] []) 1000 [true] ⟨(atC (cd Try.f33) [1,1,1,1,0,1,0,0,1,0,1,1,0,0]),[(0,AV.vec fl 2 (List.map G2.a gs)),(7,AV.row 0 v),(8,AV.bool false),(9,AV.int IntKind.i64 1)],[{ elems:=List.map (AV.int IntKind.i64) o,es:=1,ver:=v,frozen:=false,clean:=true }],[(ag) == true],[],[]⟩ (by kernel_rfl) (allB_cons (beq_t (i1.2 d2)) allB_nil) allP_nil allC_nil (H)
 ·have H:=H.2 d2
  exact path_ret (G:=given kp33 [] []) 1000 [false] (k:=((atC (cd Try.f33) [1,1,1,1,1,1])).tail) (env':=[(4,AV.row 0 v),(5,AV.int IntKind.i64 0)]) (L':=[{ elems:=List.map (AV.int IntKind.i64) o,es:=1,ver:=v,frozen:=false,clean:=true }]) (asm:=[(ag) == false]) (eqs:=[]) (calls:=[]) (AV.tup [AV.row 0 v,AV.int IntKind.i64 0]) (by kernel_rfl) (by kernel_rfl) (allB_cons (beq_f (fun h => d2 (i1.1 h))) allB_nil) allP_nil allC_nil (pq_weak (d:=(AV.tup [AV.vec false 1 (List.map (AV.int IntKind.i64) o),AV.int IntKind.i64 0])) (bs:=[v == v]) (by kernel_rfl) (by kernel_rfl) (allB_cons (beq_self_eq_true _) allB_nil) (by kernel_rfl) H)
theorem tv26d (fl:Bool) (gs:List G2) (o:List Int) (v:Nat) (ag:Bool) (i:Int) (c:Bool)  (dq:AV) (H :
  ((ag = true) -> tv26b_at (fl) (gs) (o) (v) (false) (1) (PureQ dq)) /\
  (¬(ag = true) -> Weak (AV.tup [AV.vec false 1 (List.map (AV.int IntKind.i64) o),AV.int IntKind.i64 0]) dq)) :
 tv26d_at fl gs o v ag i c (PureQ dq):=by
 unfold tv26d_at
 have i1:(ag) = true ↔ (ag = true):=(i_var _)
 rcases Classical.em (ag = true) with d2 | d2
 ·have H:=H.1 d2
  exact path_wp (G:=given kp33 [] []) 1000 [true] ⟨(atC (cd Try.f33) [1,1,1,1,0,1,0,0,1,0,1,1,0,0]),[(0,AV.vec fl 2 (List.map G2.a gs)),(7,AV.row 0 v),(8,AV.bool false),(9,AV.int IntKind.i64 1)],[{ elems:=List.map (AV.int IntKind.i64) o,es:=1,ver:=v,frozen:=false,clean:=true }],[(ag) == true],[],[]⟩ (by kernel_rfl) (allB_cons (beq_t (i1.2 d2)) allB_nil) allP_nil allC_nil (H)
 ·have H:=H.2 d2
  exact path_ret (G:=given kp33 [] []) 1000 [false] (k:=((atC (cd Try.f33) [1,1,1,1,1,1])).tail) (env':=[(4,AV.row 0 v),(5,AV.int IntKind.i64 0)]) (L':=[{ elems:=List.map (AV.int IntKind.i64) o,es:=1,ver:=v,frozen:=false,clean:=true }]) (asm:=[(ag) == false]) (eqs:=[]) (calls:=[]) (AV.tup [AV.row 0 v,AV.int IntKind.i64 0]) (by kernel_rfl) (by kernel_rfl) (allB_cons (beq_f (fun h => d2 (i1.1 h))) allB_nil) allP_nil allC_nil (pq_weak (d:=(AV.tup [AV.vec false 1 (List.map (AV.int IntKind.i64) o),AV.int IntKind.i64 0])) (bs:=[v == v]) (by kernel_rfl) (by kernel_rfl) (allB_cons (beq_self_eq_true _) allB_nil) (by kernel_rfl) H)
theorem tv26b (fl:Bool) (gs:List G2) (o:List Int) (v:Nat) (ag:Bool) (i:Int)  (dq:AV) (H :
  ((i < (↑o.length:Int)) -> (-9223372036854775808 <= i + 1 /\ i + 1 <= 9223372036854775807) /\
   tv26c_at (fl) (gs) (o) (v) (ag) (i) (i + 1) (PureQ dq)) /\
  (¬(i < (↑o.length:Int)) -> tv26d_at (fl) (gs) (o) (v) (ag) (i) (decide (i < (↑o.length:Int))) (PureQ dq))) :
 tv26b_at fl gs o v ag i (PureQ dq):=by
 unfold tv26b_at
 have w1:(List.map (AV.int IntKind.i64) o).length = o.length:=List.length_map ..
 have i2:(decide (i < (↑(List.map (AV.int IntKind.i64) o).length:Int))) = true ↔ (i < (↑o.length:Int)):=(by (try rw [w1]);all_goals exact i_dec)
 rcases Classical.em (i < (↑o.length:Int)) with d3 | d3
 ·have H:=H.1 d3
  have k4:=H.1;have H:=H.2
  have w5:IntKind.i64.wrap (i + 1) = i + 1:=wI64 k4
  exact path_wp (G:=given kp33 [] []) 1000 [true] ⟨(atC (cd Try.f33) [1,1,1,1,0,1,0,0,1,0,1,1,0,0,1,0,0,1,0,0]),[(0,AV.vec fl 2 (List.map G2.a gs)),(7,AV.row 0 v),(8,AV.bool ag),(9,AV.int IntKind.i64 i),(10,AV.int IntKind.i64 (IntKind.i64.wrap (i + 1)))],[{ elems:=List.map (AV.int IntKind.i64) o,es:=1,ver:=v,frozen:=false,clean:=true }],[v == v,(decide (i < (↑(List.map (AV.int IntKind.i64) o).length:Int))) == true],[],[]⟩ (by kernel_rfl) (allB_cons (beq_self_eq_true _) (allB_cons (beq_t (i2.2 d3)) allB_nil)) allP_nil allC_nil (by (try rw [w5]);all_goals exact H)
 ·have H:=H.2 d3
  exact path_wp (G:=given kp33 [] []) 1000 [false] ⟨(atC (cd Try.f33) [1,1,1,1,0,1,0,0]),[(0,AV.vec fl 2 (List.map G2.a gs)),(7,AV.row 0 v),(8,AV.bool ag),(9,AV.int IntKind.i64 i),(27,AV.bool (decide (i < (↑(List.map (AV.int IntKind.i64) o).length:Int))))],[{ elems:=List.map (AV.int IntKind.i64) o,es:=1,ver:=v,frozen:=false,clean:=true }],[v == v,(decide (i < (↑(List.map (AV.int IntKind.i64) o).length:Int))) == false],[],[]⟩ (by kernel_rfl) (allB_cons (beq_self_eq_true _) (allB_cons (beq_f (fun h => d3 (i2.1 h))) allB_nil)) allP_nil allC_nil (by (try rw [w1]);all_goals exact H)
theorem tv26c (fl:Bool) (gs:List G2) (o:List Int) (v:Nat) (ag:Bool) (i j:Int)  (dq:AV) (H :
  ((j < (↑o.length:Int)) -> (Sp.okG gs /\ Sp.okO gs o /\ o.length <= 1000 /\ 1 <= i /\ i < j /\ j < (↑o.length:Int)) /\
   ((Sp.gain gs o i.toNat j.toNat > 0) -> (-9223372036854775808 <= j + 1 /\ j + 1 <= 9223372036854775807) /\
    (0 < (j + 1).toNat - i.toNat /\ i.toNat + ((j + 1).toNat - i.toNat) <= o.length /\ o.length <= 1000) /\
    (0 <= i) /\
    (0 <= j + 1) /\
    (i.toNat <= (j + 1).toNat) /\
    ((j + 1).toNat <= o.length) /\
    tv26c_at (fl) (gs) (Sp.rev o i.toNat (i.toNat + ((j + 1).toNat - i.toNat - 1))) (v) (true) (i) (j + 1) (PureQ dq)) /\
   (¬(Sp.gain gs o i.toNat j.toNat > 0) -> (-9223372036854775808 <= j + 1 /\ j + 1 <= 9223372036854775807) /\
    tv26c_at (fl) (gs) (o) (v) (ag) (i) (j + 1) (PureQ dq))) /\
  (¬(j < (↑o.length:Int)) -> (-9223372036854775808 <= i + 1 /\ i + 1 <= 9223372036854775807) /\
   tv26b_at (fl) (gs) (o) (v) (ag) (i + 1) (PureQ dq))) :
 tv26c_at fl gs o v ag i j (PureQ dq):=by
 unfold tv26c_at
 have w1:(List.map (AV.int IntKind.i64) o).length = o.length:=List.length_map ..
 have i2:(decide (j < (↑(List.map (AV.int IntKind.i64) o).length:Int))) = true ↔ (j < (↑o.length:Int)):=(by (try rw [w1]);all_goals exact i_dec)
 rcases Classical.em (j < (↑o.length:Int)) with d3 | d3
 ·have H:=H.1 d3
  have k4:=H.1;have H:=H.2
  have i5:(decide (Sp.gain gs o i.toNat j.toNat > 0)) = true ↔ (Sp.gain gs o i.toNat j.toNat > 0):=i_dec
  refine path_wp (G:=given kp33 [(16,4,.call (AV.int IntKind.i64 (Sp.gain gs o i.toNat j.toNat)) none)] []) 9 [true] ⟨(atC (cd Try.f33) [1,1,1,1,0,1,0,0,1,0,1,1,0,0,1,0,0,1,0,0,1,0,0,1]),[(0,AV.vec fl 2 (List.map G2.a gs)),(7,AV.row 0 v),(8,AV.bool ag),(9,AV.int IntKind.i64 i),(10,AV.int IntKind.i64 j),(43,AV.bool (decide (Sp.gain gs o i.toNat j.toNat > 0)))],[{ elems:=List.map (AV.int IntKind.i64) o,es:=1,ver:=v,frozen:=false,clean:=true }],[v == v,(decide (j < (↑(List.map (AV.int IntKind.i64) o).length:Int))) == true,v == v],[],[⟨true,false,65,[AV.vec fl 2 (List.map G2.a gs),AV.vec false 1 (List.map (AV.int IntKind.i64) o),AV.int IntKind.i64 i,AV.int IntKind.i64 j],[],AV.int IntKind.i64 (Sp.gain gs o i.toNat j.toNat),[]⟩]⟩ (by kernel_rfl) (allB_cons (beq_self_eq_true _) (allB_cons (beq_t (i2.2 d3)) (allB_cons (beq_self_eq_true _) allB_nil))) allP_nil (allC_cons (fun _ => ((@ev65 (fl) (false) (gs) (o) (i) (j) k4):Ev M1 (Conf.pure 65 [AV.vec fl 2 (List.map G2.a gs),AV.vec false 1 (List.map (AV.int IntKind.i64) o),AV.int IntKind.i64 i,AV.int IntKind.i64 j]) (AV.int IntKind.i64 (Sp.gain gs o i.toNat j.toNat)) [])) allC_nil) ?_
  rcases Classical.em (Sp.gain gs o i.toNat j.toNat > 0) with d6 | d6
  ·have H:=H.1 d6
   have k7:=H.1;have H:=H.2
   have w8:IntKind.i64.wrap (j + 1) = j + 1:=wI64 k7
   have k9:=H.1;have H:=H.2
   have i10:(decide (0 <= i)) = true ↔ (0 <= i):=i_dec
   have k11:=H.1;have H:=H.2
   have i12:(decide (0 <= IntKind.i64.wrap (j + 1))) = true ↔ (0 <= j + 1):=(by (try rw [w8]);all_goals exact i_dec)
   have k13:=H.1;have H:=H.2
   have i14:(decide (i.toNat <= (IntKind.i64.wrap (j + 1)).toNat)) = true ↔ (i.toNat <= (j + 1).toNat):=(by (try rw [w8]);all_goals exact i_dec)
   have k15:=H.1;have H:=H.2
   have i16:(decide ((IntKind.i64.wrap (j + 1)).toNat <= (List.map (AV.int IntKind.i64) o).length)) = true ↔ ((j + 1).toNat <= o.length):=(by (try rw [w1]);(try rw [w8]);all_goals exact i_dec)
   have k17:=H.1;have H:=H.2
   exact path_wp (G:=given kp33 [(17,5,.call (AV.tup []) (some [{ elems:=List.map (AV.int IntKind.i64) (Sp.rev o i.toNat (i.toNat + ((j + 1).toNat - i.toNat - 1))),es:=1,ver:=v,frozen:=false,clean:=true }]))] []) 1000 [true] ⟨(atC (cd Try.f33) [1,1,1,1,0,1,0,0,1,0,1,1,0,0,1,0,0,1,0,0]),[(0,AV.vec fl 2 (List.map G2.a gs)),(7,AV.row 0 v),(8,AV.bool true),(9,AV.int IntKind.i64 i),(10,AV.int IntKind.i64 (IntKind.i64.wrap (j + 1)))],[{ elems:=List.map (AV.int IntKind.i64) (Sp.rev o i.toNat (i.toNat + ((j + 1).toNat - i.toNat - 1))),es:=1,ver:=v,frozen:=false,clean:=true }],[(decide (Sp.gain gs o i.toNat j.toNat > 0)) == true,v == v,decide (0 <= i),decide (0 <= IntKind.i64.wrap (j + 1)),decide (i.toNat <= (IntKind.i64.wrap (j + 1)).toNat),decide ((IntKind.i64.wrap (j + 1)).toNat <= (List.map (AV.int IntKind.i64) o).length)],[],[⟨true,true,66,[AV.ref 0 v i.toNat ((IntKind.i64.wrap (j + 1)).toNat - i.toNat)],[{ elems:=List.map (AV.int IntKind.i64) o,es:=1,ver:=v,frozen:=false,clean:=true }],AV.tup [],[{ elems:=List.map (AV.int IntKind.i64) (Sp.rev o i.toNat (i.toNat + ((j + 1).toNat - i.toNat - 1))),es:=1,ver:=v,frozen:=false,clean:=true }]⟩]⟩ (by kernel_rfl) (allB_cons (beq_t (i5.2 d6)) (allB_cons (beq_self_eq_true _) (allB_cons (i10.2 k11) (allB_cons (i12.2 k13) (allB_cons (i14.2 k15) (allB_cons (i16.2 k17) allB_nil)))))) allP_nil (allC_cons (fun _ => ((by (try rw [w8]);all_goals exact (@evo66 (o) (v) (i.toNat) ((j + 1).toNat - i.toNat) k9)):Ev M1 (Conf.own 66 [AV.ref 0 v i.toNat ((IntKind.i64.wrap (j + 1)).toNat - i.toNat)] [{ elems:=List.map (AV.int IntKind.i64) o,es:=1,ver:=v,frozen:=false,clean:=true }]) (AV.tup []) [{ elems:=List.map (AV.int IntKind.i64) (Sp.rev o i.toNat (i.toNat + ((j + 1).toNat - i.toNat - 1))),es:=1,ver:=v,frozen:=false,clean:=true }])) allC_nil) (by (try rw [w8]);all_goals exact H)
  ·have H:=H.2 d6
   have k18:=H.1;have H:=H.2
   have w19:IntKind.i64.wrap (j + 1) = j + 1:=wI64 k18
   exact path_wp (G:=given kp33 [] []) 1000 [false] ⟨(atC (cd Try.f33) [1,1,1,1,0,1,0,0,1,0,1,1,0,0,1,0,0,1,0,0]),[(0,AV.vec fl 2 (List.map G2.a gs)),(7,AV.row 0 v),(8,AV.bool ag),(9,AV.int IntKind.i64 i),(10,AV.int IntKind.i64 (IntKind.i64.wrap (j + 1)))],[{ elems:=List.map (AV.int IntKind.i64) o,es:=1,ver:=v,frozen:=false,clean:=true }],[(decide (Sp.gain gs o i.toNat j.toNat > 0)) == false],[],[]⟩ (by kernel_rfl) (allB_cons (beq_f (fun h => d6 (i5.1 h))) allB_nil) allP_nil allC_nil (by (try rw [w19]);all_goals exact H)
 ·have H:=H.2 d3
  have k20:=H.1;have H:=H.2
  have w21:IntKind.i64.wrap (i + 1) = i + 1:=wI64 k20
  exact path_wp (G:=given kp33 [] []) 1000 [false] ⟨(atC (cd Try.f33) [1,1,1,1,0,1,0,0,1,0,1,1,0,0]),[(0,AV.vec fl 2 (List.map G2.a gs)),(7,AV.row 0 v),(8,AV.bool ag),(9,AV.int IntKind.i64 (IntKind.i64.wrap (i + 1)))],[{ elems:=List.map (AV.int IntKind.i64) o,es:=1,ver:=v,frozen:=false,clean:=true }],[v == v,(decide (j < (↑(List.map (AV.int IntKind.i64) o).length:Int))) == false],[],[]⟩ (by kernel_rfl) (allB_cons (beq_self_eq_true _) (allB_cons (beq_f (fun h => d3 (i2.1 h))) allB_nil)) allP_nil allC_nil (by (try rw [w21]);all_goals exact H)
end Go.Av

namespace Go.Av
open Go.Proofs
set_option maxRecDepth 100000
end Go.Av

namespace Go.Av
open Go.Proofs
namespace Sp
def impJ (gs:List G2) (i:Nat):Nat -> Nat -> List Int -> Bool -> List Int × Bool
 | 0,_,o,ag => (o,ag)
 | c + 1,j,o,ag => if gain gs o i j > 0 then impJ gs i c (j + 1) (rev o i j) true else impJ gs i c (j + 1) o ag
def impI (gs:List G2):Nat -> Nat -> List Int -> Bool -> List Int × Bool
 | 0,_,o,ag => (o,ag)
 | c + 1,i,o,ag => impI gs c (i + 1) (impJ gs i (gs.length - (i + 1)) (i + 1) o ag).1 (impJ gs i (gs.length - (i + 1)) (i + 1) o ag).2
def imp (gs:List G2):Nat -> List Int -> List Int
 | 0,o => o
 | f + 1,o => if (impI gs (gs.length - 1) 1 o false).2 = true then imp gs f (impI gs (gs.length - 1) 1 o false).1 else (impI gs (gs.length - 1) 1 o false).1
def improve (gs:List G2) (o:List Int):List Int:=if lengthE gs o = 0 then imp gs ((way gs o).toNat + 1) o else []
def local_ (gs:List G2) (o:List Int):Prop:=∀ i j:Nat,1 <= i -> i < j -> j < gs.length -> gain gs o i j <= 0
end Sp
structure ImpF (gs:List G2) (o:List Int) (ag:Bool) (r:List Int × Bool) (P:Nat -> Nat -> Prop):Prop where
 ord:IsOrd gs.length r.1
 le:Sp.way gs r.1 <= Sp.way gs o
 yes:r.2 = true -> ag = true \/ Sp.way gs r.1 < Sp.way gs o
 no:r.2 = false -> ag = false /\ r.1 = o /\ ∀ i j,P i j -> Sp.gain gs o i j <= 0
theorem impJ_facts {gs:List G2} {i:Nat} (hi:1 <= i):∀ (c j:Nat) (o:List Int) (ag:Bool),IsOrd gs.length o -> i < j -> j + c <= gs.length -> ImpF gs o ag (Sp.impJ gs i c j o ag) (fun i' j' => i' = i /\ j <= j' /\ j' < j + c)
 | 0,j,o,ag,h,_,_ => ⟨h,Int.le_refl _,fun k => .inl k,fun k => ⟨k,rfl,fun i' j' hp => by omega⟩⟩
 | c + 1,j,o,ag,h,hij,hj => by
  have hl:=h.len
  rw [Sp.impJ]
  split
  ·rename_i hg
   have hw:=rev_way gs hi hij (show j < o.length by omega)
   obtain ⟨f1,f2,f3,f4⟩:=impJ_facts hi c (j + 1) (Sp.rev o i j) true (rev_ord h hi (by omega) (by omega)) (by omega) (by omega)
   refine ⟨f1,by omega,fun _ => .inr (by omega),fun k => ?_⟩
   have:=(f4 k).1
   simp at this
  ·rename_i hg
   obtain ⟨f1,f2,f3,f4⟩:=impJ_facts hi c (j + 1) o ag h (by omega) (by omega)
   refine ⟨f1,f2,f3,fun k => ?_⟩
   obtain ⟨k1,k2,k3⟩:=f4 k
   refine ⟨k1,k2,fun i' j' hp => ?_⟩
   obtain ⟨rfl,h1,h2⟩:=hp
   by_cases he:j' = j
   ·subst he;omega
   ·exact k3 _ j' ⟨rfl,by omega,by omega⟩
theorem impI_facts {gs:List G2}:∀ (c i:Nat) (o:List Int) (ag:Bool),IsOrd gs.length o -> 1 <= i -> i + c <= gs.length \/ c = 0 -> ImpF gs o ag (Sp.impI gs c i o ag) (fun i' j' => i <= i' /\ i' < i + c /\ i' < j' /\ j' < gs.length)
 | 0,i,o,ag,h,_,_ => ⟨h,Int.le_refl _,fun k => .inl k,fun k => ⟨k,rfl,fun i' j' hp => by omega⟩⟩
 | c + 1,i,o,ag,h,hi,hc => by
  rw [Sp.impI]
  obtain ⟨g1,g2,g3,g4⟩:=impJ_facts hi (gs.length - (i + 1)) (i + 1) o ag h (by omega) (by omega)
  generalize Sp.impJ gs i (gs.length - (i + 1)) (i + 1) o ag = r at g1 g2 g3 g4
  obtain ⟨f1,f2,f3,f4⟩:=impI_facts c (i + 1) r.1 r.2 g1 (by omega) (by omega)
  refine ⟨f1,by omega,fun k => ?_,fun k => ?_⟩
  ·rcases f3 k with k1 | k1
   ·rcases g3 k1 with k2 | k2
    ·exact .inl k2
    ·exact .inr (by omega)
   ·exact .inr (by omega)
  ·obtain ⟨k1,k2,k3⟩:=f4 k
   obtain ⟨m1,m2,m3⟩:=g4 k1
   refine ⟨m1,by rw [k2,m2],fun i' j' hp => ?_⟩
   by_cases he:i' = i
   ·exact m3 i' j' ⟨he,by omega,by omega⟩
   ·rw [m2] at k3
    exact k3 i' j' (by omega)
theorem imp_facts {gs:List G2} (hg:Sp.okG gs):∀ (f:Nat) (o:List Int),IsOrd gs.length o -> Sp.way gs o < f -> IsOrd gs.length (Sp.imp gs f o) /\ Sp.way gs (Sp.imp gs f o) <= Sp.way gs o /\ Sp.local_ gs (Sp.imp gs f o)
 | 0,o,h,hf => by have:=(way_le hg o).1;omega
 | f + 1,o,h,hf => by
  rw [Sp.imp]
  obtain ⟨f1,f2,f3,f4⟩:=impI_facts (gs.length - 1) 1 o false h (by omega) (by omega)
  generalize Sp.impI gs (gs.length - 1) 1 o false = r at f1 f2 f3 f4
  split
  ·rename_i hr
   have hlt:=f3 hr
   simp at hlt
   obtain ⟨k1,k2,k3⟩:=imp_facts hg f r.1 f1 (by omega)
   exact ⟨k1,by omega,k3⟩
  ·rename_i hr
   obtain ⟨k1,k2,k3⟩:=f4 (by simpa using hr)
   refine ⟨f1,f2,fun i j h1 h2 h3 => ?_⟩
   rw [k2];exact k3 i j (by omega)
theorem loop26c {fl:Bool} {gs:List G2} {v:Nat} {i:Nat} {dq:AV} (hg:Sp.okG gs) (hl:gs.length <= 200) (hi:1 <= i) :
  ∀ (c j:Nat) (o:List Int) (ag:Bool),IsOrd gs.length o -> i < j -> j + c = gs.length -> tv26b_at fl gs (Sp.impJ gs i c j o ag).1 v (Sp.impJ gs i c j o ag).2 ((i:Int) + 1) (PureQ dq) -> tv26c_at fl gs o v ag i j (PureQ dq)
 | 0,j,o,ag,h,hij,hj,hq => by
  have hol:=h.len
  exact tv26c _ _ _ _ _ _ _ _ ⟨fun k => by omega,fun _ => ⟨by omega,hq⟩⟩
 | c + 1,j,o,ag,h,hij,hj,hq => by
  have hol:=h.len
  rw [Sp.impJ] at hq
  refine tv26c _ _ _ _ _ _ _ _ ⟨fun _ => ⟨⟨hg,h.okO,by omega,by omega,by omega,by omega⟩,?_⟩,fun k => by omega⟩
  rw [Int.toNat_natCast,Int.toNat_natCast]
  refine ⟨fun k => ⟨by omega,⟨by omega,by omega,by omega⟩,by omega,by omega,by omega,by omega,?_⟩,fun k => ⟨by omega,?_⟩⟩
  ·rw [if_pos k] at hq
   have e:i + (((j:Int) + 1).toNat - i - 1) = j:=by omega
   rw [e]
   exact loop26c hg hl hi c (j + 1) _ true (rev_ord h hi (by omega) (by omega)) (by omega) (by omega) hq
  ·rw [if_neg k] at hq
   exact loop26c hg hl hi c (j + 1) o ag h (by omega) (by omega) hq
theorem loop26b {fl:Bool} {gs:List G2} {v:Nat} {dq:AV} (hg:Sp.okG gs) (hl:gs.length <= 200) :
  ∀ (c i:Nat) (o:List Int) (ag:Bool),IsOrd gs.length o -> 1 <= i -> (i + c = gs.length \/ (c = 0 /\ gs.length <= i)) -> (∀ k b,tv26d_at fl gs (Sp.impI gs c i o ag).1 v (Sp.impI gs c i o ag).2 k b (PureQ dq)) -> tv26b_at fl gs o v ag i (PureQ dq)
 | 0,i,o,ag,h,hi,hc,hq => by
  have hol:=h.len
  exact tv26b _ _ _ _ _ _ _ ⟨fun k => by omega,fun _ => hq _ _⟩
 | c + 1,i,o,ag,h,hi,hc,hq => by
  have hol:=h.len
  rw [Sp.impI] at hq
  have hf:=impJ_facts hi (gs.length - (i + 1)) (i + 1) o ag h (by omega) (by omega)
  refine tv26b _ _ _ _ _ _ _ ⟨fun _ => ⟨by omega,?_⟩,fun k => by omega⟩
  exact loop26c hg hl hi (gs.length - (i + 1)) (i + 1) o ag h (by omega) (by omega) (loop26b hg hl c (i + 1) _ _ hf.ord (by omega) (by omega) hq)
theorem loop26 {fl:Bool} {gs:List G2} {v:Nat} {dq:AV} (hg:Sp.okG gs) (hl:gs.length <= 200) :
  ∀ (f:Nat) (o:List Int),IsOrd gs.length o -> Sp.way gs o < f -> AV.tup [isA false (Sp.imp gs f o),.int .i64 0] = dq -> tv26b_at fl gs o v false 1 (PureQ dq)
 | 0,o,h,hf,hq => by have:=(way_le hg o).1;omega
 | f + 1,o,h,hf,hq => by
  rw [Sp.imp] at hq
  have hF:=impI_facts (gs.length - 1) 1 o false h (by omega) (by omega)
  refine loop26b hg hl (gs.length - 1) 1 o false h (by omega) (by omega) fun k b => tv26d _ _ _ _ _ _ _ _ ⟨fun hr => ?_,fun hr => ?_⟩
  ·rw [if_pos hr] at hq
   have hlt:=hF.yes hr
   simp at hlt
   exact loop26 hg hl f _ hF.ord (by omega) hq
  ·rw [if_neg hr] at hq
   rw [<- hq];exact .refl _
theorem weak_tup2 {a a' b:AV} (h:Weak a a'):Weak (.tup [a,b]) (.tup [a',b]):=by
 refine .tup _ _ rfl fun i x y hx hy => ?_
 match i with
 | 0 => simp at hx hy;subst hx;subst hy;exact h
 | 1 => simp at hx hy;subst hx;subst hy;exact .refl _
 | i + 2 => simp at hx
theorem ev33 (fl fm:Bool) (gs:List G2) (o:List Int):Ev M1 (.pure 33 [gsA fl gs,isA fm o]) (.tup [isA false (Sp.improve gs o),.int .i64 (Sp.lengthE gs o)]) []:=by
 by_cases hc:Sp.checkE gs 200 = 0
 ·obtain ⟨hg,hl⟩:=check_okG hc
  by_cases ho:Sp.isOrd o gs.length = true
  ·have e:Sp.lengthE gs o = 0:=by rw [Sp.lengthE,if_pos hc,if_pos ho]
   have hO:=ord_of ho
   have hol:=hO.len
   have ei:Sp.improve gs o = Sp.imp gs ((Sp.way gs o).toNat + 1) o:=if_pos e
   rw [e,ei]
   cases o with
   | nil =>
    have h0:gs.length = 0:=by simpa using hol.symm
    have e2:Sp.imp gs ((Sp.way gs []).toNat + 1) [] = []:=by
     rw [Sp.imp,h0];rfl
    rw [e2]
    refine call33 (tv26n fl fm gs _ ⟨by simp [Sp.mOk],fun k => absurd hc k,fun _ => ⟨_,ev63 fm [] gs.length (by omega),fun k => absurd ho k,fun _ => ⟨[],ev64 fm [] (by simp),?_⟩⟩⟩)
    refine tv26x fl gs true _ ⟨fun _ => tv26y fl gs false _ (tv26z fl gs false 1 false _ ⟨fun k => by simp at k,fun _ => .refl _⟩),fun k => by simp at k⟩
   | cons y o =>
    refine call33 (tv26 fl fm gs (y :: o) _ ⟨by simp [Sp.mOk],fun k => absurd hc k,fun _ => ⟨by omega,fun k => absurd ho k,fun _ => ⟨⟨by omega,by simp⟩,?_⟩⟩⟩)
    have hw:=(way_le hg (y :: o)).1
    exact tv26a _ _ _ _ _ _ ⟨fun _ => loop26 hg (by omega) _ _ hO (by omega) rfl,fun k => by simp at k⟩
  ·have e:Sp.lengthE gs o = 1:=by rw [Sp.lengthE,if_pos hc,if_neg ho]
   have ei:Sp.improve gs o = []:=if_neg (by omega)
   rw [e,ei]
   cases o with
   | nil => exact call33 (tv26n fl fm gs _ ⟨by simp [Sp.mOk],fun k => absurd hc k,fun _ => ⟨_,ev63 fm [] gs.length (by omega),fun _ => weak_tup2 (.vnil 1),fun k => absurd (Classical.not_not.1 k) ho⟩⟩)
   | cons y o => exact call33 (tv26 fl fm gs (y :: o) _ ⟨by simp [Sp.mOk],fun k => absurd hc k,fun _ => ⟨by omega,fun _ => weak_tup2 (.vnil 1),fun k => absurd (Classical.not_not.1 k) ho⟩⟩)
 ·have e:Sp.lengthE gs o = Sp.checkE gs 200:=if_neg hc
  have ei:Sp.improve gs o = []:=if_neg (by omega)
  rw [e,ei]
  cases o with
  | nil => exact call33 (tv26n fl fm gs _ ⟨by simp [Sp.mOk],fun _ => weak_tup2 (.vnil 1),fun k => absurd hc k⟩)
  | cons y o => exact call33 (tv26 fl fm gs (y :: o) _ ⟨by simp [Sp.mOk],fun _ => weak_tup2 (.vnil 1),fun k => absurd hc k⟩)
theorem improve_facts {gs:List G2} {o:List Int} (h:Sp.lengthE gs o = 0):Sp.okG gs /\ gs.length <= 200 /\ IsOrd gs.length o /\ IsOrd gs.length (Sp.improve gs o) /\ Sp.way gs (Sp.improve gs o) <= Sp.way gs o /\ Sp.local_ gs (Sp.improve gs o):=by
 have ei:Sp.improve gs o = Sp.imp gs ((Sp.way gs o).toNat + 1) o:=if_pos h
 unfold Sp.lengthE at h
 split at h
 ·rename_i hc
  split at h
  ·rename_i ho
   obtain ⟨hg,hl⟩:=check_okG hc
   have hO:=ord_of ho
   have hw:=(way_le hg o).1
   obtain ⟨k1,k2,k3⟩:=imp_facts hg ((Sp.way gs o).toNat + 1) o hO (by omega)
   rw [ei]
   exact ⟨hg,by omega,hO,k1,k2,k3⟩
  ·simp at h
 ·rename_i hc;exact absurd h hc
end Go.Av

namespace Go.Av
open Go.Proofs
set_option maxRecDepth 100000
def fi6:Fi:=⟨134,[.tmp 4]⟩
def kp6:List (Nat × List Nat):=[(0,[0,1]),(1,[0,1,34]),(2,[4]),(3,[0,1,5]),(4,[0,1,5,6,7]),(5,[0,1,5,6,7,8,9,10]),(6,[0,5,6,7,8,9,10,11,12]),(7,[0,5,6,8,9,11,67]),(8,[4]),(9,[0,5,6,8,9,13,14]),(10,[0,5,6,8,9,80]),(11,[4]),(12,[0,5,6,8,15]),(13,[0,15,85,86,87]),(14,[0,15,85,86,87,88]),(15,[0,15,17,85,86,87]),(16,[0,15,17,18,19,85,86,87]),(17,[0,15,17,18,19,20,85,86,87]),(18,[0,15,18,19,20,85,86,87,97,98,99]),(19,[0,15,18,19,20,85,86,87,97,98,99,100]),(20,[0,15,18,19,20,22,85,86,87,97,98,99]),(21,[0,15,18,19,20,22,85,86,87,97,98,99,110]),(22,[4]),(23,[0,15,18,19,20,85,86,87,97,98,99]),(24,[0,15,18,19,20,85,86,87,97,98,99]),(25,[0,18,85,86,87,131]),(26,[4]),(27,[0,15,85,86,87]),(28,[0,15,85,86,87]),(29,[4])]
def ttT_at (fl:Bool) (gs:List G2) (r:Int) (Q:AV -> Heap -> Prop):Prop:=Wp M1 (.run fi6 (atC (cd Try.f6) []) [(0,.vec fl 2 (gs.map G2.a)),(1,.int .u8 r)] []) Q
def ttO0_at (fl:Bool) (gs:List G2) (A B C:List Int) (b:Int) (Q:AV -> Heap -> Prop):Prop:=Wp M1 (.run fi6 (atC (cd Try.f6) [1,1,1,1,1,1,1,1,1,1,0,1,0,0]) [(0,.vec fl 2 (gs.map G2.a)),(15,.int .i64 b),(85,.vec true 1 [isA false A,isA false B,isA false C]),(86,.int .i64 3),(87,.int .i64 0)] []) Q
def ttO1_at (fl:Bool) (gs:List G2) (A B C:List Int) (b:Int) (Q:AV -> Heap -> Prop):Prop:=Wp M1 (.run fi6 (atC (cd Try.f6) [1,1,1,1,1,1,1,1,1,1,0,1,0,0]) [(0,.vec fl 2 (gs.map G2.a)),(15,.int .i64 b),(85,.vec true 1 [isA false A,isA false B,isA false C]),(86,.int .i64 3),(87,.int .i64 1)] []) Q
def ttO2_at (fl:Bool) (gs:List G2) (A B C:List Int) (b:Int) (Q:AV -> Heap -> Prop):Prop:=Wp M1 (.run fi6 (atC (cd Try.f6) [1,1,1,1,1,1,1,1,1,1,0,1,0,0]) [(0,.vec fl 2 (gs.map G2.a)),(15,.int .i64 b),(85,.vec true 1 [isA false A,isA false B,isA false C]),(86,.int .i64 3),(87,.int .i64 2)] []) Q
def ttO3_at (fl:Bool) (gs:List G2) (A B C:List Int) (b:Int) (Q:AV -> Heap -> Prop):Prop:=Wp M1 (.run fi6 (atC (cd Try.f6) [1,1,1,1,1,1,1,1,1,1,0,1,0,0]) [(0,.vec fl 2 (gs.map G2.a)),(15,.int .i64 b),(85,.vec true 1 [isA false A,isA false B,isA false C]),(86,.int .i64 3),(87,.int .i64 3)] []) Q
def ttI0_at (fl:Bool) (gs:List G2) (A B C:List Int) (b n e i m:Int) (ws:List G2) (v:Nat) (Q:AV -> Heap -> Prop):Prop:=Wp M1 (.run fi6 (atC (cd Try.f6) [1,1,1,1,1,1,1,1,1,1,0,1,0,0,1,1,0,0,1,1,1,0,1,0,0]) [(0,.vec fl 2 (gs.map G2.a)),(15,.int .i64 b),(18,.int .i64 n),(19,.int .i64 e),(20,.row 0 v),(85,.vec true 1 [isA false A,isA false B,isA false C]),(86,.int .i64 3),(87,.int .i64 0),(97,isA false A),(98,.int .i64 m),(99,.int .i64 i)] [⟨ws.map G2.a,2,v,false,true⟩]) Q
def ttZ0_at (fl:Bool) (gs:List G2) (A B C:List Int) (b n e i m:Int) (Q:AV -> Heap -> Prop):Prop:=Wp M1 (.run fi6 (atC (cd Try.f6) [1,1,1,1,1,1,1,1,1,1,0,1,0,0,1,1,0,0,1,1,1,0,1,0,0]) [(0,.vec fl 2 (gs.map G2.a)),(15,.int .i64 b),(18,.int .i64 n),(19,.int .i64 e),(20,.vnil),(85,.vec true 1 [isA false A,isA false B,isA false C]),(86,.int .i64 3),(87,.int .i64 0),(97,isA false A),(98,.int .i64 m),(99,.int .i64 i)] []) Q
def ttI1_at (fl:Bool) (gs:List G2) (A B C:List Int) (b n e i m:Int) (ws:List G2) (v:Nat) (Q:AV -> Heap -> Prop):Prop:=Wp M1 (.run fi6 (atC (cd Try.f6) [1,1,1,1,1,1,1,1,1,1,0,1,0,0,1,1,0,0,1,1,1,0,1,0,0]) [(0,.vec fl 2 (gs.map G2.a)),(15,.int .i64 b),(18,.int .i64 n),(19,.int .i64 e),(20,.row 0 v),(85,.vec true 1 [isA false A,isA false B,isA false C]),(86,.int .i64 3),(87,.int .i64 1),(97,isA false B),(98,.int .i64 m),(99,.int .i64 i)] [⟨ws.map G2.a,2,v,false,true⟩]) Q
def ttZ1_at (fl:Bool) (gs:List G2) (A B C:List Int) (b n e i m:Int) (Q:AV -> Heap -> Prop):Prop:=Wp M1 (.run fi6 (atC (cd Try.f6) [1,1,1,1,1,1,1,1,1,1,0,1,0,0,1,1,0,0,1,1,1,0,1,0,0]) [(0,.vec fl 2 (gs.map G2.a)),(15,.int .i64 b),(18,.int .i64 n),(19,.int .i64 e),(20,.vnil),(85,.vec true 1 [isA false A,isA false B,isA false C]),(86,.int .i64 3),(87,.int .i64 1),(97,isA false B),(98,.int .i64 m),(99,.int .i64 i)] []) Q
def ttI2_at (fl:Bool) (gs:List G2) (A B C:List Int) (b n e i m:Int) (ws:List G2) (v:Nat) (Q:AV -> Heap -> Prop):Prop:=Wp M1 (.run fi6 (atC (cd Try.f6) [1,1,1,1,1,1,1,1,1,1,0,1,0,0,1,1,0,0,1,1,1,0,1,0,0]) [(0,.vec fl 2 (gs.map G2.a)),(15,.int .i64 b),(18,.int .i64 n),(19,.int .i64 e),(20,.row 0 v),(85,.vec true 1 [isA false A,isA false B,isA false C]),(86,.int .i64 3),(87,.int .i64 2),(97,isA false C),(98,.int .i64 m),(99,.int .i64 i)] [⟨ws.map G2.a,2,v,false,true⟩]) Q
def ttZ2_at (fl:Bool) (gs:List G2) (A B C:List Int) (b n e i m:Int) (Q:AV -> Heap -> Prop):Prop:=Wp M1 (.run fi6 (atC (cd Try.f6) [1,1,1,1,1,1,1,1,1,1,0,1,0,0,1,1,0,0,1,1,1,0,1,0,0]) [(0,.vec fl 2 (gs.map G2.a)),(15,.int .i64 b),(18,.int .i64 n),(19,.int .i64 e),(20,.vnil),(85,.vec true 1 [isA false A,isA false B,isA false C]),(86,.int .i64 3),(87,.int .i64 2),(97,isA false C),(98,.int .i64 m),(99,.int .i64 i)] []) Q
theorem call6 {args:List AV} {d:AV} (h:wc M1 fi6 Try.f6 args d):Ev M1 (.pure 6 args) d []:=pcl _ _ (by kernel_rfl) h
theorem ttT (fl:Bool) (gs:List G2) (r:Int)  (dq:AV) (H :
  ∃ (b1:Bool),
  (Ev M1 (Conf.pure 30 []) (AV.bool b1) []) /\
  ((¬((¬(b1 = true)) \/ ((↑gs.length:Int) = 0))) -> (Sp.mOk 7)) /\
  ((((¬(b1 = true)) \/ ((↑gs.length:Int) = 0)) \/ (¬Sp.checkE gs 7 = 0)) -> ∃ (b2:Bool),
   (Ev M1 (Conf.pure 30 []) (AV.bool b2) []) /\
   AV.bool b2 = dq) /\
  (¬(((¬(b1 = true)) \/ ((↑gs.length:Int) = 0)) \/ (¬Sp.checkE gs 7 = 0)) -> (Sp.okG gs /\ gs.length <= 1000) /\
   (-9223372036854775808 <= r.tmod 51 /\ r.tmod 51 <= 9223372036854775807) /\
   (Sp.checkE gs 200 = 0 /\ 0 < gs.length /\ 0 <= r.tmod 51 /\ r.tmod 51 <= 50) /\
   ((((¬Sp.lengthE gs (Sp.nearest gs) = 0) \/ (¬Sp.checkE gs 10 = 0)) \/ (false = true)) -> AV.bool false = dq) /\
   (¬(((¬Sp.lengthE gs (Sp.nearest gs) = 0) \/ (¬Sp.checkE gs 10 = 0)) \/ (false = true)) -> (((¬Sp.boundE gs (Sp.raise fl gs (r.tmod 51)) = 0) \/ (Sp.boundR gs (Sp.raise fl gs (r.tmod 51)) > Sp.way gs (Sp.exactL gs))) -> AV.bool false = dq) /\
    (¬((¬Sp.boundE gs (Sp.raise fl gs (r.tmod 51)) = 0) \/ (Sp.boundR gs (Sp.raise fl gs (r.tmod 51)) > Sp.way gs (Sp.exactL gs))) -> ttO0_at (fl) (gs) (Sp.exactL gs) (Sp.improve gs (Sp.nearest gs)) (Sp.nearest gs) (Sp.way gs (Sp.exactL gs)) (PureQ dq))))) :
 ttT_at fl gs r (PureQ dq):=by
 unfold ttT_at
 obtain ⟨b1,H⟩:=H
 have k1:=H.1;have H:=H.2
 have w2:(List.map G2.a gs).length = gs.length:=List.length_map ..
 have i3:((bif !b1 then true else (↑(List.map G2.a gs).length:Int) == 0) == false && true && true) = true ↔ (¬((¬(b1 = true)) \/ ((↑gs.length:Int) = 0))):=(by (try rw [w2]);all_goals exact (i_at (i_at (i_bf (i_bor (i_not (i_var _)) i_eq)))))
 have k4:=H.1;have H:=H.2
 have i5:(bif bif !b1 then true else (↑(List.map G2.a gs).length:Int) == 0 then true else Sp.checkE gs 7 != 0) = true ↔ (((¬(b1 = true)) \/ ((↑gs.length:Int) = 0)) \/ (¬Sp.checkE gs 7 = 0)):=(by (try rw [w2]);all_goals exact (i_bor (i_bor (i_not (i_var _)) i_eq) i_ne))
 refine path_wp (G:=given kp6 [(1,0,.call (AV.bool b1) none),(1,9,.call (AV.int IntKind.i64 (Sp.checkE gs 7)) none)] []) 5 [] ⟨(atC (cd Try.f6) [1,0,1]),[(0,AV.vec fl 2 (List.map G2.a gs)),(1,AV.int IntKind.u8 r),(34,AV.bool (bif bif !b1 then true else (↑(List.map G2.a gs).length:Int) == 0 then true else Sp.checkE gs 7 != 0))],[],[],[],[⟨true,false,30,[],[],AV.bool b1,[]⟩,⟨(bif !b1 then true else (↑(List.map G2.a gs).length:Int) == 0) == false && true && true,false,31,[AV.vec fl 2 (List.map G2.a gs),AV.int IntKind.i64 7],[],AV.int IntKind.i64 (Sp.checkE gs 7),[]⟩]⟩ (by kernel_rfl) allB_nil allP_nil (allC_cons (fun _ => (k1:Ev M1 (Conf.pure 30 []) (AV.bool b1) [])) (allC_cons (fun hc => ((@ev31 (fl) (gs) (7) (k4 (i3.1 hc))):Ev M1 (Conf.pure 31 [AV.vec fl 2 (List.map G2.a gs),AV.int IntKind.i64 7]) (AV.int IntKind.i64 (Sp.checkE gs 7)) [])) allC_nil)) ?_
 rcases Classical.em (((¬(b1 = true)) \/ ((↑gs.length:Int) = 0)) \/ (¬Sp.checkE gs 7 = 0)) with d6 | d6
 ·have H:=H.1 d6
  obtain ⟨b2,H⟩:=H
  have k7:=H.1;have H:=H.2
  exact path_ret (G:=given kp6 [(2,0,.call (AV.bool b2) none)] []) 1000 [true] (k:=((atC (cd Try.f6) [1,0,1,0,1])).tail) (env':=[(4,AV.bool b2)]) (L':=[]) (asm:=[(bif bif !b1 then true else (↑(List.map G2.a gs).length:Int) == 0 then true else Sp.checkE gs 7 != 0) == true]) (eqs:=[]) (calls:=[⟨true,false,30,[],[],AV.bool b2,[]⟩]) (AV.bool b2) (by kernel_rfl) (by kernel_rfl) (allB_cons (beq_t (i5.2 d6)) allB_nil) allP_nil (allC_cons (fun _ => (k7:Ev M1 (Conf.pure 30 []) (AV.bool b2) [])) allC_nil) (pq_of (d:=(AV.bool b2)) (bs:=[]) (by kernel_rfl) (by kernel_rfl) allB_nil (by kernel_rfl) H)
 ·have H:=H.2 d6
  have k8:=H.1;have H:=H.2
  have k9:=H.1;have H:=H.2
  have w10:IntKind.i64.wrap (r.tmod 51) = r.tmod 51:=wI64 k9
  have k11:=H.1;have H:=H.2
  have i12:(bif bif Sp.lengthE gs (Sp.nearest gs) != 0 then true else Sp.checkE gs 10 != 0 then true else false) = true ↔ (((¬Sp.lengthE gs (Sp.nearest gs) = 0) \/ (¬Sp.checkE gs 10 = 0)) \/ (false = true)):=(i_bor (i_bor i_ne i_ne) (i_var _))
  refine path_wp (G:=given kp6 [(3,1,.call (AV.vec false 1 (List.map (AV.int IntKind.i64) (Sp.nearest gs))) none),(4,2,.call (AV.tup [AV.vec false 1 (List.map (AV.int IntKind.i64) (Sp.improve gs (Sp.nearest gs))),AV.int IntKind.i64 (Sp.lengthE gs (Sp.nearest gs))]) none),(5,1,.call (AV.tup [AV.vec false 1 (List.map (AV.int IntKind.i64) (Sp.exactL gs)),AV.int IntKind.i64 (Sp.way gs (Sp.exactL gs)),AV.int IntKind.i64 (Sp.checkE gs 10)]) none),(6,4,.call (AV.tup [AV.vec false 1 (List.map (AV.int IntKind.i64) (Sp.raise fl gs (r.tmod 51))),AV.int IntKind.i64 0]) none)] []) 13 [false] ⟨(atC (cd Try.f6) [1,1,1,1,1,1,0,1]),[(0,AV.vec fl 2 (List.map G2.a gs)),(5,AV.vec false 1 (List.map (AV.int IntKind.i64) (Sp.nearest gs))),(6,AV.vec false 1 (List.map (AV.int IntKind.i64) (Sp.improve gs (Sp.nearest gs)))),(8,AV.vec false 1 (List.map (AV.int IntKind.i64) (Sp.exactL gs))),(9,AV.int IntKind.i64 (Sp.way gs (Sp.exactL gs))),(11,AV.vec false 1 (List.map (AV.int IntKind.i64) (Sp.raise fl gs (r.tmod 51)))),(67,AV.bool (bif bif Sp.lengthE gs (Sp.nearest gs) != 0 then true else Sp.checkE gs 10 != 0 then true else false))],[],[(bif bif !b1 then true else (↑(List.map G2.a gs).length:Int) == 0 then true else Sp.checkE gs 7 != 0) == false,true],[],[⟨true,false,32,[AV.vec fl 2 (List.map G2.a gs)],[],AV.vec false 1 (List.map (AV.int IntKind.i64) (Sp.nearest gs)),[]⟩,⟨true,false,33,[AV.vec fl 2 (List.map G2.a gs),AV.vec false 1 (List.map (AV.int IntKind.i64) (Sp.nearest gs))],[],AV.tup [AV.vec false 1 (List.map (AV.int IntKind.i64) (Sp.improve gs (Sp.nearest gs))),AV.int IntKind.i64 (Sp.lengthE gs (Sp.nearest gs))],[]⟩,⟨true,false,34,[AV.vec fl 2 (List.map G2.a gs)],[],AV.tup [AV.vec false 1 (List.map (AV.int IntKind.i64) (Sp.exactL gs)),AV.int IntKind.i64 (Sp.way gs (Sp.exactL gs)),AV.int IntKind.i64 (Sp.checkE gs 10)],[]⟩,⟨true,false,35,[AV.vec fl 2 (List.map G2.a gs),AV.int IntKind.i64 (IntKind.i64.wrap (r.tmod 51))],[],AV.tup [AV.vec false 1 (List.map (AV.int IntKind.i64) (Sp.raise fl gs (r.tmod 51))),AV.int IntKind.i64 0],[]⟩]⟩ (by kernel_rfl) (allB_cons (beq_f (fun h => d6 (i5.1 h))) (allB_cons rfl allB_nil)) allP_nil (allC_cons (fun _ => ((@ev32 (fl) (gs) k8):Ev M1 (Conf.pure 32 [AV.vec fl 2 (List.map G2.a gs)]) (AV.vec false 1 (List.map (AV.int IntKind.i64) (Sp.nearest gs))) [])) (allC_cons (fun _ => ((@ev33 (fl) (false) (gs) (Sp.nearest gs)):Ev M1 (Conf.pure 33 [AV.vec fl 2 (List.map G2.a gs),AV.vec false 1 (List.map (AV.int IntKind.i64) (Sp.nearest gs))]) (AV.tup [AV.vec false 1 (List.map (AV.int IntKind.i64) (Sp.improve gs (Sp.nearest gs))),AV.int IntKind.i64 (Sp.lengthE gs (Sp.nearest gs))]) [])) (allC_cons (fun _ => ((@ev34 (fl) (gs)):Ev M1 (Conf.pure 34 [AV.vec fl 2 (List.map G2.a gs)]) (AV.tup [AV.vec false 1 (List.map (AV.int IntKind.i64) (Sp.exactL gs)),AV.int IntKind.i64 (Sp.way gs (Sp.exactL gs)),AV.int IntKind.i64 (Sp.checkE gs 10)]) [])) (allC_cons (fun _ => ((by (try rw [w10]);all_goals exact (@ev35 (fl) (gs) (r.tmod 51) k11)):Ev M1 (Conf.pure 35 [AV.vec fl 2 (List.map G2.a gs),AV.int IntKind.i64 (IntKind.i64.wrap (r.tmod 51))]) (AV.tup [AV.vec false 1 (List.map (AV.int IntKind.i64) (Sp.raise fl gs (r.tmod 51))),AV.int IntKind.i64 0]) [])) allC_nil)))) ?_
  rcases Classical.em (((¬Sp.lengthE gs (Sp.nearest gs) = 0) \/ (¬Sp.checkE gs 10 = 0)) \/ (false = true)) with d13 | d13
  ·have H:=H.1 d13
   exact path_ret (G:=given kp6 [] []) 1000 [true] (k:=((atC (cd Try.f6) [1,1,1,1,1,1,0,1,0,1])).tail) (env':=[(4,AV.bool false)]) (L':=[]) (asm:=[(bif bif Sp.lengthE gs (Sp.nearest gs) != 0 then true else Sp.checkE gs 10 != 0 then true else false) == true]) (eqs:=[]) (calls:=[]) (AV.bool false) (by kernel_rfl) (by kernel_rfl) (allB_cons (beq_t (i12.2 d13)) allB_nil) allP_nil allC_nil (pq_of (d:=(AV.bool false)) (bs:=[]) (by kernel_rfl) (by kernel_rfl) allB_nil (by kernel_rfl) H)
  ·have H:=H.2 d13
   have i14:(bif Sp.boundE gs (Sp.raise fl gs (r.tmod 51)) != 0 then true else decide (Sp.boundR gs (Sp.raise fl gs (r.tmod 51)) > Sp.way gs (Sp.exactL gs))) = true ↔ ((¬Sp.boundE gs (Sp.raise fl gs (r.tmod 51)) = 0) \/ (Sp.boundR gs (Sp.raise fl gs (r.tmod 51)) > Sp.way gs (Sp.exactL gs))):=(i_bor i_ne i_dec)
   refine path_wp (G:=given kp6 [(9,2,.call (AV.tup [AV.int IntKind.i64 (Sp.boundR gs (Sp.raise fl gs (r.tmod 51))),AV.int IntKind.i64 (Sp.boundE gs (Sp.raise fl gs (r.tmod 51)))]) none)] []) 7 [false] ⟨(atC (cd Try.f6) [1,1,1,1,1,1,1,1,0,1]),[(0,AV.vec fl 2 (List.map G2.a gs)),(5,AV.vec false 1 (List.map (AV.int IntKind.i64) (Sp.nearest gs))),(6,AV.vec false 1 (List.map (AV.int IntKind.i64) (Sp.improve gs (Sp.nearest gs)))),(8,AV.vec false 1 (List.map (AV.int IntKind.i64) (Sp.exactL gs))),(9,AV.int IntKind.i64 (Sp.way gs (Sp.exactL gs))),(80,AV.bool (bif Sp.boundE gs (Sp.raise fl gs (r.tmod 51)) != 0 then true else decide (Sp.boundR gs (Sp.raise fl gs (r.tmod 51)) > Sp.way gs (Sp.exactL gs))))],[],[(bif bif Sp.lengthE gs (Sp.nearest gs) != 0 then true else Sp.checkE gs 10 != 0 then true else false) == false],[],[⟨true,false,36,[AV.vec fl 2 (List.map G2.a gs),AV.vec false 1 (List.map (AV.int IntKind.i64) (Sp.raise fl gs (r.tmod 51)))],[],AV.tup [AV.int IntKind.i64 (Sp.boundR gs (Sp.raise fl gs (r.tmod 51))),AV.int IntKind.i64 (Sp.boundE gs (Sp.raise fl gs (r.tmod 51)))],[]⟩]⟩ (by kernel_rfl) (allB_cons (beq_f (fun h => d13 (i12.1 h))) allB_nil) allP_nil (allC_cons (fun _ => ((@ev36 (fl) (false) (gs) (Sp.raise fl gs (r.tmod 51))):Ev M1 (Conf.pure 36 [AV.vec fl 2 (List.map G2.a gs),AV.vec false 1 (List.map (AV.int IntKind.i64) (Sp.raise fl gs (r.tmod 51)))]) (AV.tup [AV.int IntKind.i64 (Sp.boundR gs (Sp.raise fl gs (r.tmod 51))),AV.int IntKind.i64 (Sp.boundE gs (Sp.raise fl gs (r.tmod 51)))]) [])) allC_nil) ?_
   rcases Classical.em ((¬Sp.boundE gs (Sp.raise fl gs (r.tmod 51)) = 0) \/ (Sp.boundR gs (Sp.raise fl gs (r.tmod 51)) > Sp.way gs (Sp.exactL gs))) with d15 | d15
   ·have H:=H.1 d15
    exact path_ret (G:=given kp6 [] []) 1000 [true] (k:=((atC (cd Try.f6) [1,1,1,1,1,1,1,1,0,1,0,1])).tail) (env':=[(4,AV.bool false)]) (L':=[]) (asm:=[(bif Sp.boundE gs (Sp.raise fl gs (r.tmod 51)) != 0 then true else decide (Sp.boundR gs (Sp.raise fl gs (r.tmod 51)) > Sp.way gs (Sp.exactL gs))) == true]) (eqs:=[]) (calls:=[]) (AV.bool false) (by kernel_rfl) (by kernel_rfl) (allB_cons (beq_t (i14.2 d15)) allB_nil) allP_nil allC_nil (pq_of (d:=(AV.bool false)) (bs:=[]) (by kernel_rfl) (by kernel_rfl) allB_nil (by kernel_rfl) H)
   ·have H:=H.2 d15
    exact path_wp (G:=given kp6 [] []) 1000 [false] ⟨(atC (cd Try.f6) [1,1,1,1,1,1,1,1,1,1,0,1,0,0]),[(0,AV.vec fl 2 (List.map G2.a gs)),(15,AV.int IntKind.i64 (Sp.way gs (Sp.exactL gs))),(85,AV.vec true 1 [AV.vec false 1 (List.map (AV.int IntKind.i64) (Sp.exactL gs)),AV.vec false 1 (List.map (AV.int IntKind.i64) (Sp.improve gs (Sp.nearest gs))),AV.vec false 1 (List.map (AV.int IntKind.i64) (Sp.nearest gs))]),(86,AV.int IntKind.i64 3),(87,AV.int IntKind.i64 0)],[],[(bif Sp.boundE gs (Sp.raise fl gs (r.tmod 51)) != 0 then true else decide (Sp.boundR gs (Sp.raise fl gs (r.tmod 51)) > Sp.way gs (Sp.exactL gs))) == false],[],[]⟩ (by kernel_rfl) (allB_cons (beq_f (fun h => d15 (i14.1 h))) allB_nil) allP_nil allC_nil (H)
theorem ttO0 (fl:Bool) (gs:List G2) (A B C:List Int) (b:Int)  (dq:AV) (H :
  ttZ0_at (fl) (gs) (A) (B) (C) (b) (Sp.lengthV gs A) (Sp.lengthE gs A) (0) ((↑A.length:Int)) (PureQ dq)) :
 ttO0_at fl gs A B C b (PureQ dq):=by
 unfold ttO0_at
 have w1:(List.map (AV.int IntKind.i64) A).length = A.length:=List.length_map ..
 exact path_wp (G:=given kp6 [(16,2,.call (AV.tup [AV.int IntKind.i64 (Sp.lengthV gs A),AV.int IntKind.i64 (Sp.lengthE gs A)]) none)] []) 1000 [true] ⟨(atC (cd Try.f6) [1,1,1,1,1,1,1,1,1,1,0,1,0,0,1,1,0,0,1,1,1,0,1,0,0]),[(0,AV.vec fl 2 (List.map G2.a gs)),(15,AV.int IntKind.i64 b),(18,AV.int IntKind.i64 (Sp.lengthV gs A)),(19,AV.int IntKind.i64 (Sp.lengthE gs A)),(20,AV.vnil),(85,AV.vec true 1 [AV.vec false 1 (List.map (AV.int IntKind.i64) A),AV.vec false 1 (List.map (AV.int IntKind.i64) B),AV.vec false 1 (List.map (AV.int IntKind.i64) C)]),(86,AV.int IntKind.i64 3),(87,AV.int IntKind.i64 0),(97,AV.vec false 1 (List.map (AV.int IntKind.i64) A)),(98,AV.int IntKind.i64 (↑(List.map (AV.int IntKind.i64) A).length:Int)),(99,AV.int IntKind.i64 0)],[],[true == true,true,true],[],[⟨true,false,37,[AV.vec fl 2 (List.map G2.a gs),AV.vec false 1 (List.map (AV.int IntKind.i64) A)],[],AV.tup [AV.int IntKind.i64 (Sp.lengthV gs A),AV.int IntKind.i64 (Sp.lengthE gs A)],[]⟩]⟩ (by kernel_rfl) (allB_cons rfl (allB_cons rfl (allB_cons rfl allB_nil))) allP_nil (allC_cons (fun _ => ((@ev37 (fl) (false) (gs) (A)):Ev M1 (Conf.pure 37 [AV.vec fl 2 (List.map G2.a gs),AV.vec false 1 (List.map (AV.int IntKind.i64) A)]) (AV.tup [AV.int IntKind.i64 (Sp.lengthV gs A),AV.int IntKind.i64 (Sp.lengthE gs A)]) [])) allC_nil) (by (try rw [w1]);all_goals exact H)
theorem ttO1 (fl:Bool) (gs:List G2) (A B C:List Int) (b:Int)  (dq:AV) (H :
  ttZ1_at (fl) (gs) (A) (B) (C) (b) (Sp.lengthV gs B) (Sp.lengthE gs B) (0) ((↑B.length:Int)) (PureQ dq)) :
 ttO1_at fl gs A B C b (PureQ dq):=by
 unfold ttO1_at
 have w1:(List.map (AV.int IntKind.i64) B).length = B.length:=List.length_map ..
 exact path_wp (G:=given kp6 [(16,2,.call (AV.tup [AV.int IntKind.i64 (Sp.lengthV gs B),AV.int IntKind.i64 (Sp.lengthE gs B)]) none)] []) 1000 [true] ⟨(atC (cd Try.f6) [1,1,1,1,1,1,1,1,1,1,0,1,0,0,1,1,0,0,1,1,1,0,1,0,0]),[(0,AV.vec fl 2 (List.map G2.a gs)),(15,AV.int IntKind.i64 b),(18,AV.int IntKind.i64 (Sp.lengthV gs B)),(19,AV.int IntKind.i64 (Sp.lengthE gs B)),(20,AV.vnil),(85,AV.vec true 1 [AV.vec false 1 (List.map (AV.int IntKind.i64) A),AV.vec false 1 (List.map (AV.int IntKind.i64) B),AV.vec false 1 (List.map (AV.int IntKind.i64) C)]),(86,AV.int IntKind.i64 3),(87,AV.int IntKind.i64 1),(97,AV.vec false 1 (List.map (AV.int IntKind.i64) B)),(98,AV.int IntKind.i64 (↑(List.map (AV.int IntKind.i64) B).length:Int)),(99,AV.int IntKind.i64 0)],[],[true == true,true,true],[],[⟨true,false,37,[AV.vec fl 2 (List.map G2.a gs),AV.vec false 1 (List.map (AV.int IntKind.i64) B)],[],AV.tup [AV.int IntKind.i64 (Sp.lengthV gs B),AV.int IntKind.i64 (Sp.lengthE gs B)],[]⟩]⟩ (by kernel_rfl) (allB_cons rfl (allB_cons rfl (allB_cons rfl allB_nil))) allP_nil (allC_cons (fun _ => ((@ev37 (fl) (false) (gs) (B)):Ev M1 (Conf.pure 37 [AV.vec fl 2 (List.map G2.a gs),AV.vec false 1 (List.map (AV.int IntKind.i64) B)]) (AV.tup [AV.int IntKind.i64 (Sp.lengthV gs B),AV.int IntKind.i64 (Sp.lengthE gs B)]) [])) allC_nil) (by (try rw [w1]);all_goals exact H)
theorem ttO2 (fl:Bool) (gs:List G2) (A B C:List Int) (b:Int)  (dq:AV) (H :
  ttZ2_at (fl) (gs) (A) (B) (C) (b) (Sp.lengthV gs C) (Sp.lengthE gs C) (0) ((↑C.length:Int)) (PureQ dq)) :
 ttO2_at fl gs A B C b (PureQ dq):=by
 unfold ttO2_at
 have w1:(List.map (AV.int IntKind.i64) C).length = C.length:=List.length_map ..
 exact path_wp (G:=given kp6 [(16,2,.call (AV.tup [AV.int IntKind.i64 (Sp.lengthV gs C),AV.int IntKind.i64 (Sp.lengthE gs C)]) none)] []) 1000 [true] ⟨(atC (cd Try.f6) [1,1,1,1,1,1,1,1,1,1,0,1,0,0,1,1,0,0,1,1,1,0,1,0,0]),[(0,AV.vec fl 2 (List.map G2.a gs)),(15,AV.int IntKind.i64 b),(18,AV.int IntKind.i64 (Sp.lengthV gs C)),(19,AV.int IntKind.i64 (Sp.lengthE gs C)),(20,AV.vnil),(85,AV.vec true 1 [AV.vec false 1 (List.map (AV.int IntKind.i64) A),AV.vec false 1 (List.map (AV.int IntKind.i64) B),AV.vec false 1 (List.map (AV.int IntKind.i64) C)]),(86,AV.int IntKind.i64 3),(87,AV.int IntKind.i64 2),(97,AV.vec false 1 (List.map (AV.int IntKind.i64) C)),(98,AV.int IntKind.i64 (↑(List.map (AV.int IntKind.i64) C).length:Int)),(99,AV.int IntKind.i64 0)],[],[true == true,true,true],[],[⟨true,false,37,[AV.vec fl 2 (List.map G2.a gs),AV.vec false 1 (List.map (AV.int IntKind.i64) C)],[],AV.tup [AV.int IntKind.i64 (Sp.lengthV gs C),AV.int IntKind.i64 (Sp.lengthE gs C)],[]⟩]⟩ (by kernel_rfl) (allB_cons rfl (allB_cons rfl (allB_cons rfl allB_nil))) allP_nil (allC_cons (fun _ => ((@ev37 (fl) (false) (gs) (C)):Ev M1 (Conf.pure 37 [AV.vec fl 2 (List.map G2.a gs),AV.vec false 1 (List.map (AV.int IntKind.i64) C)]) (AV.tup [AV.int IntKind.i64 (Sp.lengthV gs C),AV.int IntKind.i64 (Sp.lengthE gs C)]) [])) allC_nil) (by (try rw [w1]);all_goals exact H)
theorem ttO3 (fl:Bool) (gs:List G2) (A B C:List Int) (b:Int)  (dq:AV) (H :
  AV.bool true = dq) :
 ttO3_at fl gs A B C b (PureQ dq):=by
 unfold ttO3_at
 exact path_ret (G:=given kp6 [] []) 1000 [false] (k:=((atC (cd Try.f6) [1,1,1,1,1,1,1,1,1,1,1,1])).tail) (env':=[(4,AV.bool true)]) (L':=[]) (asm:=[false == false]) (eqs:=[]) (calls:=[]) (AV.bool true) (by kernel_rfl) (by kernel_rfl) (allB_cons rfl allB_nil) allP_nil allC_nil (pq_of (d:=(AV.bool true)) (bs:=[]) (by kernel_rfl) (by kernel_rfl) allB_nil (by kernel_rfl) H)
theorem ttI0 (fl:Bool) (gs:List G2) (A B C:List Int) (b n e i m:Int) (ws:List G2) (v:Nat)  (dq:AV) (H :
  ((i < m) -> (0 <= i) /\
   (i.toNat < A.length) /\
   (((A.getD i.toNat default < 0) \/ (A.getD i.toNat default >= (↑gs.length:Int))) -> AV.bool false = dq) /\
   (¬((A.getD i.toNat default < 0) \/ (A.getD i.toNat default >= (↑gs.length:Int))) -> (0 <= A.getD i.toNat default) /\
    ((A.getD i.toNat default).toNat < gs.length) /\
    ((ws.length + 1) * 16 <= 1099511627776) /\
    (-9223372036854775808 <= i + 1 /\ i + 1 <= 9223372036854775807) /\
    ttI0_at (fl) (gs) (A) (B) (C) (b) (n) (e) (i + 1) (m) (ws ++ [gs.getD (A.getD i.toNat default).toNat default]) (v + 1) (PureQ dq))) /\
  (¬(i < m) -> ((¬(¬e = 0)) -> (Sp.okG ws /\ ws.length <= 1000)) /\
   ((((¬e = 0) \/ (¬Sp.llen ws = n)) \/ (n < b)) -> AV.bool false = dq) /\
   (¬(((¬e = 0) \/ (¬Sp.llen ws = n)) \/ (n < b)) -> ttO1_at (fl) (gs) (A) (B) (C) (n) (PureQ dq)))) :
 ttI0_at fl gs A B C b n e i m ws v (PureQ dq):=by
 unfold ttI0_at
 have i1:(decide (i < m)) = true ↔ (i < m):=i_dec
 rcases Classical.em (i < m) with d2 | d2
 ·have H:=H.1 d2
  have i3:(decide (0 <= i)) = true ↔ (0 <= i):=i_dec
  have k4:=H.1;have H:=H.2
  have w5:(List.map (AV.int IntKind.i64) A).length = A.length:=List.length_map ..
  have i6:(decide (i.toNat < (List.map (AV.int IntKind.i64) A).length)) = true ↔ (i.toNat < A.length):=(by (try rw [w5]);all_goals exact i_dec)
  have k7:=H.1;have H:=H.2
  have w8:(List.map G2.a gs).length = gs.length:=List.length_map ..
  have i9:(bif decide (A.getD i.toNat default < 0) then true else decide (A.getD i.toNat default >= (↑(List.map G2.a gs).length:Int))) = true ↔ ((A.getD i.toNat default < 0) \/ (A.getD i.toNat default >= (↑gs.length:Int))):=(by (try rw [w8]);all_goals exact (i_bor i_dec i_dec))
  refine path_wp (G:=given kp6 [(20,1,.elem (AV.int IntKind.i64 (A.getD i.toNat default)))] []) 12 [true] ⟨(atC (cd Try.f6) [1,1,1,1,1,1,1,1,1,1,0,1,0,0,1,1,0,0,1,1,1,0,1,0,0,1,1,0,0,1,0,1]),[(0,AV.vec fl 2 (List.map G2.a gs)),(15,AV.int IntKind.i64 b),(18,AV.int IntKind.i64 n),(19,AV.int IntKind.i64 e),(20,AV.row 0 v),(22,AV.int IntKind.i64 (A.getD i.toNat default)),(85,AV.vec true 1 [AV.vec false 1 (List.map (AV.int IntKind.i64) A),AV.vec false 1 (List.map (AV.int IntKind.i64) B),AV.vec false 1 (List.map (AV.int IntKind.i64) C)]),(86,AV.int IntKind.i64 3),(87,AV.int IntKind.i64 0),(97,AV.vec false 1 (List.map (AV.int IntKind.i64) A)),(98,AV.int IntKind.i64 m),(99,AV.int IntKind.i64 i),(110,AV.bool (bif decide (A.getD i.toNat default < 0) then true else decide (A.getD i.toNat default >= (↑(List.map G2.a gs).length:Int))))],[{ elems:=List.map G2.a ws,es:=2,ver:=v,frozen:=false,clean:=true }],[(decide (i < m)) == true,decide (0 <= i),decide (i.toNat < (List.map (AV.int IntKind.i64) A).length)],[((List.map (AV.int IntKind.i64) A).get?Internal i.toNat = some (AV.int IntKind.i64 (A.getD i.toNat default)))],[]⟩ (by kernel_rfl) (allB_cons (beq_t (i1.2 d2)) (allB_cons (i3.2 k4) (allB_cons (i6.2 k7) allB_nil))) (allP_cons (el_map k7) allP_nil) allC_nil ?_
  rcases Classical.em ((A.getD i.toNat default < 0) \/ (A.getD i.toNat default >= (↑gs.length:Int))) with d10 | d10
  ·have H:=H.1 d10
   exact path_ret (G:=given kp6 [] []) 1000 [true] (k:=((atC (cd Try.f6) [1,1,1,1,1,1,1,1,1,1,0,1,0,0,1,1,0,0,1,1,1,0,1,0,0,1,1,0,0,1,0,1,0,1])).tail) (env':=[(4,AV.bool false)]) (L':=[{ elems:=List.map G2.a ws,es:=2,ver:=v,frozen:=false,clean:=true }]) (asm:=[(bif decide (A.getD i.toNat default < 0) then true else decide (A.getD i.toNat default >= (↑(List.map G2.a gs).length:Int))) == true]) (eqs:=[]) (calls:=[]) (AV.bool false) (by kernel_rfl) (by kernel_rfl) (allB_cons (beq_t (i9.2 d10)) allB_nil) allP_nil allC_nil (pq_of (d:=(AV.bool false)) (bs:=[]) (by kernel_rfl) (by kernel_rfl) allB_nil (by kernel_rfl) H)
  ·have H:=H.2 d10
   have i11:(decide (0 <= A.getD i.toNat default)) = true ↔ (0 <= A.getD i.toNat default):=i_dec
   have k12:=H.1;have H:=H.2
   have i13:(decide ((A.getD i.toNat default).toNat < (List.map G2.a gs).length)) = true ↔ ((A.getD i.toNat default).toNat < gs.length):=(by (try rw [w8]);all_goals exact i_dec)
   have k14:=H.1;have H:=H.2
   have w15:(List.map G2.a ws).length = ws.length:=List.length_map ..
   have i16:(decide (((List.map G2.a ws).length + 1) * 16 <= 1099511627776)) = true ↔ ((ws.length + 1) * 16 <= 1099511627776):=(by (try rw [w15]);all_goals exact i_dec)
   have k17:=H.1;have H:=H.2
   have w18:List.map G2.a ws ++ [AV.agg [AV.int IntKind.i64 (gs.getD (A.getD i.toNat default).toNat default).x,AV.int IntKind.i64 (gs.getD (A.getD i.toNat default).toNat default).y]] = List.map G2.a (ws ++ [gs.getD (A.getD i.toNat default).toNat default]):=(lm_app rfl rfl)
   have k19:=H.1;have H:=H.2
   have w20:IntKind.i64.wrap (i + 1) = i + 1:=wI64 k19
   exact path_wp (G:=given kp6 [(23,4,.elem (AV.agg [AV.int IntKind.i64 (gs.getD (A.getD i.toNat default).toNat default).x,AV.int IntKind.i64 (gs.getD (A.getD i.toNat default).toNat default).y]))] []) 1000 [false] ⟨(atC (cd Try.f6) [1,1,1,1,1,1,1,1,1,1,0,1,0,0,1,1,0,0,1,1,1,0,1,0,0]),[(0,AV.vec fl 2 (List.map G2.a gs)),(15,AV.int IntKind.i64 b),(18,AV.int IntKind.i64 n),(19,AV.int IntKind.i64 e),(20,AV.row 0 (v + 1)),(85,AV.vec true 1 [AV.vec false 1 (List.map (AV.int IntKind.i64) A),AV.vec false 1 (List.map (AV.int IntKind.i64) B),AV.vec false 1 (List.map (AV.int IntKind.i64) C)]),(86,AV.int IntKind.i64 3),(87,AV.int IntKind.i64 0),(97,AV.vec false 1 (List.map (AV.int IntKind.i64) A)),(98,AV.int IntKind.i64 m),(99,AV.int IntKind.i64 (IntKind.i64.wrap (i + 1)))],[{ elems:=List.map G2.a ws ++ [AV.agg [AV.int IntKind.i64 (gs.getD (A.getD i.toNat default).toNat default).x,AV.int IntKind.i64 (gs.getD (A.getD i.toNat default).toNat default).y]],es:=2,ver:=v + 1,frozen:=false,clean:=true }],[(bif decide (A.getD i.toNat default < 0) then true else decide (A.getD i.toNat default >= (↑(List.map G2.a gs).length:Int))) == false,decide (0 <= A.getD i.toNat default),decide ((A.getD i.toNat default).toNat < (List.map G2.a gs).length),v == v,decide (((List.map G2.a ws).length + 1) * 16 <= 1099511627776)],[((List.map G2.a gs).get?Internal (A.getD i.toNat default).toNat = some (AV.agg [AV.int IntKind.i64 (gs.getD (A.getD i.toNat default).toNat default).x,AV.int IntKind.i64 (gs.getD (A.getD i.toNat default).toNat default).y]))],[]⟩ (by kernel_rfl) (allB_cons (beq_f (fun h => d10 (i9.1 h))) (allB_cons (i11.2 k12) (allB_cons (i13.2 k14) (allB_cons (beq_self_eq_true _) (allB_cons (i16.2 k17) allB_nil))))) (allP_cons (el_map k14) allP_nil) allC_nil (by (try rw [w18]);(try rw [w20]);all_goals exact H)
 ·have H:=H.2 d2
  have i21:((e != 0) == false && true && true) = true ↔ (¬(¬e = 0)):=(i_at (i_at (i_bf i_ne)))
  have k22:=H.1;have H:=H.2
  have i23:(!((e != 0) == false && true) || v == v) = true ↔ ((¬(¬e = 0)) -> (v = v)):=(i_imp (i_at (i_bf i_ne)) i_eq)
  have i24:(bif bif e != 0 then true else Sp.llen ws != n then true else decide (n < b)) = true ↔ (((¬e = 0) \/ (¬Sp.llen ws = n)) \/ (n < b)):=(i_bor (i_bor i_ne i_ne) i_dec)
  refine path_wp (G:=given kp6 [(25,4,.call (AV.int IntKind.i64 (Sp.llen ws)) none)] []) 8 [false] ⟨(atC (cd Try.f6) [1,1,1,1,1,1,1,1,1,1,0,1,0,0,1,1,0,0,1,1,1,1,0,1]),[(0,AV.vec fl 2 (List.map G2.a gs)),(18,AV.int IntKind.i64 n),(85,AV.vec true 1 [AV.vec false 1 (List.map (AV.int IntKind.i64) A),AV.vec false 1 (List.map (AV.int IntKind.i64) B),AV.vec false 1 (List.map (AV.int IntKind.i64) C)]),(86,AV.int IntKind.i64 3),(87,AV.int IntKind.i64 0),(131,AV.bool (bif bif e != 0 then true else Sp.llen ws != n then true else decide (n < b)))],[{ elems:=List.map G2.a ws,es:=2,ver:=v,frozen:=false,clean:=true }],[(decide (i < m)) == false,!((e != 0) == false && true) || v == v],[],[⟨(e != 0) == false && true && true,false,38,[AV.vec false 2 (List.map G2.a ws)],[],AV.int IntKind.i64 (Sp.llen ws),[]⟩]⟩ (by kernel_rfl) (allB_cons (beq_f (fun h => d2 (i1.1 h))) (allB_cons (i23.2 (fun _ => rfl)) allB_nil)) allP_nil (allC_cons (fun hc => ((@ev38 (false) (ws) (k22 (i21.1 hc))):Ev M1 (Conf.pure 38 [AV.vec false 2 (List.map G2.a ws)]) (AV.int IntKind.i64 (Sp.llen ws)) [])) allC_nil) ?_
  rcases Classical.em (((¬e = 0) \/ (¬Sp.llen ws = n)) \/ (n < b)) with d25 | d25
  ·have H:=H.1 d25
   exact path_ret (G:=given kp6 [] []) 1000 [true] (k:=((atC (cd Try.f6) [1,1,1,1,1,1,1,1,1,1,0,1,0,0,1,1,0,0,1,1,1,1,0,1,0,1])).tail) (env':=[(4,AV.bool false)]) (L':=[{ elems:=List.map G2.a ws,es:=2,ver:=v,frozen:=false,clean:=true }]) (asm:=[(bif bif e != 0 then true else Sp.llen ws != n then true else decide (n < b)) == true]) (eqs:=[]) (calls:=[]) (AV.bool false) (by kernel_rfl) (by kernel_rfl) (allB_cons (beq_t (i24.2 d25)) allB_nil) allP_nil allC_nil (pq_of (d:=(AV.bool false)) (bs:=[]) (by kernel_rfl) (by kernel_rfl) allB_nil (by kernel_rfl) H)
  ·have H:=H.2 d25
   exact path_wp (G:=given kp6 [] []) 1000 [false] ⟨(atC (cd Try.f6) [1,1,1,1,1,1,1,1,1,1,0,1,0,0]),[(0,AV.vec fl 2 (List.map G2.a gs)),(15,AV.int IntKind.i64 n),(85,AV.vec true 1 [AV.vec false 1 (List.map (AV.int IntKind.i64) A),AV.vec false 1 (List.map (AV.int IntKind.i64) B),AV.vec false 1 (List.map (AV.int IntKind.i64) C)]),(86,AV.int IntKind.i64 3),(87,AV.int IntKind.i64 1)],[{ elems:=List.map G2.a ws,es:=2,ver:=v,frozen:=false,clean:=true }],[(bif bif e != 0 then true else Sp.llen ws != n then true else decide (n < b)) == false],[],[]⟩ (by kernel_rfl) (allB_cons (beq_f (fun h => d25 (i24.1 h))) allB_nil) allP_nil allC_nil (wp_narrow [] (by kernel_rfl) H)
theorem ttZ0 (fl:Bool) (gs:List G2) (A B C:List Int) (b n e i m:Int)  (dq:AV) (H :
  ((i < m) -> (0 <= i) /\
   (i.toNat < A.length) /\
   (((A.getD i.toNat default < 0) \/ (A.getD i.toNat default >= (↑gs.length:Int))) -> AV.bool false = dq) /\
   (¬((A.getD i.toNat default < 0) \/ (A.getD i.toNat default >= (↑gs.length:Int))) -> (0 <= A.getD i.toNat default) /\
    ((A.getD i.toNat default).toNat < gs.length) /\
    (-9223372036854775808 <= i + 1 /\ i + 1 <= 9223372036854775807) /\
    ttI0_at (fl) (gs) (A) (B) (C) (b) (n) (e) (i + 1) (m) ([gs.getD (A.getD i.toNat default).toNat default]) (0) (PureQ dq))) /\
  (¬(i < m) -> ∃ (n1:Int),
   ((¬(¬e = 0)) -> (Ev M1 (Conf.pure 38 [AV.vnil]) (AV.int IntKind.i64 n1) [])) /\
   ((((¬e = 0) \/ (¬n1 = n)) \/ (n < b)) -> AV.bool false = dq) /\
   (¬(((¬e = 0) \/ (¬n1 = n)) \/ (n < b)) -> ttO1_at (fl) (gs) (A) (B) (C) (n) (PureQ dq)))) :
 ttZ0_at fl gs A B C b n e i m (PureQ dq):=by
 unfold ttZ0_at
 have i1:(decide (i < m)) = true ↔ (i < m):=i_dec
 rcases Classical.em (i < m) with d2 | d2
 ·have H:=H.1 d2
  have i3:(decide (0 <= i)) = true ↔ (0 <= i):=i_dec
  have k4:=H.1;have H:=H.2
  have w5:(List.map (AV.int IntKind.i64) A).length = A.length:=List.length_map ..
  have i6:(decide (i.toNat < (List.map (AV.int IntKind.i64) A).length)) = true ↔ (i.toNat < A.length):=(by (try rw [w5]);all_goals exact i_dec)
  have k7:=H.1;have H:=H.2
  have w8:(List.map G2.a gs).length = gs.length:=List.length_map ..
  have i9:(bif decide (A.getD i.toNat default < 0) then true else decide (A.getD i.toNat default >= (↑(List.map G2.a gs).length:Int))) = true ↔ ((A.getD i.toNat default < 0) \/ (A.getD i.toNat default >= (↑gs.length:Int))):=(by (try rw [w8]);all_goals exact (i_bor i_dec i_dec))
  refine path_wp (G:=given kp6 [(20,1,.elem (AV.int IntKind.i64 (A.getD i.toNat default)))] []) 12 [true] ⟨(atC (cd Try.f6) [1,1,1,1,1,1,1,1,1,1,0,1,0,0,1,1,0,0,1,1,1,0,1,0,0,1,1,0,0,1,0,1]),[(0,AV.vec fl 2 (List.map G2.a gs)),(15,AV.int IntKind.i64 b),(18,AV.int IntKind.i64 n),(19,AV.int IntKind.i64 e),(20,AV.vnil),(22,AV.int IntKind.i64 (A.getD i.toNat default)),(85,AV.vec true 1 [AV.vec false 1 (List.map (AV.int IntKind.i64) A),AV.vec false 1 (List.map (AV.int IntKind.i64) B),AV.vec false 1 (List.map (AV.int IntKind.i64) C)]),(86,AV.int IntKind.i64 3),(87,AV.int IntKind.i64 0),(97,AV.vec false 1 (List.map (AV.int IntKind.i64) A)),(98,AV.int IntKind.i64 m),(99,AV.int IntKind.i64 i),(110,AV.bool (bif decide (A.getD i.toNat default < 0) then true else decide (A.getD i.toNat default >= (↑(List.map G2.a gs).length:Int))))],[],[(decide (i < m)) == true,decide (0 <= i),decide (i.toNat < (List.map (AV.int IntKind.i64) A).length)],[((List.map (AV.int IntKind.i64) A).get?Internal i.toNat = some (AV.int IntKind.i64 (A.getD i.toNat default)))],[]⟩ (by kernel_rfl) (allB_cons (beq_t (i1.2 d2)) (allB_cons (i3.2 k4) (allB_cons (i6.2 k7) allB_nil))) (allP_cons (el_map k7) allP_nil) allC_nil ?_
  rcases Classical.em ((A.getD i.toNat default < 0) \/ (A.getD i.toNat default >= (↑gs.length:Int))) with d10 | d10
  ·have H:=H.1 d10
   exact path_ret (G:=given kp6 [] []) 1000 [true] (k:=((atC (cd Try.f6) [1,1,1,1,1,1,1,1,1,1,0,1,0,0,1,1,0,0,1,1,1,0,1,0,0,1,1,0,0,1,0,1,0,1])).tail) (env':=[(4,AV.bool false)]) (L':=[]) (asm:=[(bif decide (A.getD i.toNat default < 0) then true else decide (A.getD i.toNat default >= (↑(List.map G2.a gs).length:Int))) == true]) (eqs:=[]) (calls:=[]) (AV.bool false) (by kernel_rfl) (by kernel_rfl) (allB_cons (beq_t (i9.2 d10)) allB_nil) allP_nil allC_nil (pq_of (d:=(AV.bool false)) (bs:=[]) (by kernel_rfl) (by kernel_rfl) allB_nil (by kernel_rfl) H)
  ·have H:=H.2 d10
   have i11:(decide (0 <= A.getD i.toNat default)) = true ↔ (0 <= A.getD i.toNat default):=i_dec
   have k12:=H.1;have H:=H.2
   have i13:(decide ((A.getD i.toNat default).toNat < (List.map G2.a gs).length)) = true ↔ ((A.getD i.toNat default).toNat < gs.length):=(by (try rw [w8]);all_goals exact i_dec)
   have k14:=H.1;have H:=H.2
   have k15:=H.1;have H:=H.2
   have w16:IntKind.i64.wrap (i + 1) = i + 1:=wI64 k15
   have w17:[AV.agg [AV.int IntKind.i64 (gs.getD (A.getD i.toNat default).toNat default).x,AV.int IntKind.i64 (gs.getD (A.getD i.toNat default).toNat default).y]] = List.map G2.a [gs.getD (A.getD i.toNat default).toNat default]:=rfl
   exact path_wp (G:=given kp6 [(23,4,.elem (AV.agg [AV.int IntKind.i64 (gs.getD (A.getD i.toNat default).toNat default).x,AV.int IntKind.i64 (gs.getD (A.getD i.toNat default).toNat default).y]))] []) 1000 [false] ⟨(atC (cd Try.f6) [1,1,1,1,1,1,1,1,1,1,0,1,0,0,1,1,0,0,1,1,1,0,1,0,0]),[(0,AV.vec fl 2 (List.map G2.a gs)),(15,AV.int IntKind.i64 b),(18,AV.int IntKind.i64 n),(19,AV.int IntKind.i64 e),(20,AV.row 0 0),(85,AV.vec true 1 [AV.vec false 1 (List.map (AV.int IntKind.i64) A),AV.vec false 1 (List.map (AV.int IntKind.i64) B),AV.vec false 1 (List.map (AV.int IntKind.i64) C)]),(86,AV.int IntKind.i64 3),(87,AV.int IntKind.i64 0),(97,AV.vec false 1 (List.map (AV.int IntKind.i64) A)),(98,AV.int IntKind.i64 m),(99,AV.int IntKind.i64 (IntKind.i64.wrap (i + 1)))],[{ elems:=[AV.agg [AV.int IntKind.i64 (gs.getD (A.getD i.toNat default).toNat default).x,AV.int IntKind.i64 (gs.getD (A.getD i.toNat default).toNat default).y]],es:=2,ver:=0,frozen:=false,clean:=true }],[(bif decide (A.getD i.toNat default < 0) then true else decide (A.getD i.toNat default >= (↑(List.map G2.a gs).length:Int))) == false,decide (0 <= A.getD i.toNat default),decide ((A.getD i.toNat default).toNat < (List.map G2.a gs).length),true],[((List.map G2.a gs).get?Internal (A.getD i.toNat default).toNat = some (AV.agg [AV.int IntKind.i64 (gs.getD (A.getD i.toNat default).toNat default).x,AV.int IntKind.i64 (gs.getD (A.getD i.toNat default).toNat default).y]))],[]⟩ (by kernel_rfl) (allB_cons (beq_f (fun h => d10 (i9.1 h))) (allB_cons (i11.2 k12) (allB_cons (i13.2 k14) (allB_cons rfl allB_nil)))) (allP_cons (el_map k14) allP_nil) allC_nil (by (try rw [w16]);(try rw [w17]);all_goals exact H)
 ·have H:=H.2 d2
  obtain ⟨n1,H⟩:=H
  have i18:((e != 0) == false && true && true) = true ↔ (¬(¬e = 0)):=(i_at (i_at (i_bf i_ne)))
  have k19:=H.1;have H:=H.2
  have i20:(bif bif e != 0 then true else n1 != n then true else decide (n < b)) = true ↔ (((¬e = 0) \/ (¬n1 = n)) \/ (n < b)):=(i_bor (i_bor i_ne i_ne) i_dec)
  refine path_wp (G:=given kp6 [(25,4,.call (AV.int IntKind.i64 n1) none)] []) 8 [false] ⟨(atC (cd Try.f6) [1,1,1,1,1,1,1,1,1,1,0,1,0,0,1,1,0,0,1,1,1,1,0,1]),[(0,AV.vec fl 2 (List.map G2.a gs)),(18,AV.int IntKind.i64 n),(85,AV.vec true 1 [AV.vec false 1 (List.map (AV.int IntKind.i64) A),AV.vec false 1 (List.map (AV.int IntKind.i64) B),AV.vec false 1 (List.map (AV.int IntKind.i64) C)]),(86,AV.int IntKind.i64 3),(87,AV.int IntKind.i64 0),(131,AV.bool (bif bif e != 0 then true else n1 != n then true else decide (n < b)))],[],[(decide (i < m)) == false],[],[⟨(e != 0) == false && true && true,false,38,[AV.vnil],[],AV.int IntKind.i64 n1,[]⟩]⟩ (by kernel_rfl) (allB_cons (beq_f (fun h => d2 (i1.1 h))) allB_nil) allP_nil (allC_cons (fun hc => ((k19 (i18.1 hc)):Ev M1 (Conf.pure 38 [AV.vnil]) (AV.int IntKind.i64 n1) [])) allC_nil) ?_
  rcases Classical.em (((¬e = 0) \/ (¬n1 = n)) \/ (n < b)) with d21 | d21
  ·have H:=H.1 d21
   exact path_ret (G:=given kp6 [] []) 1000 [true] (k:=((atC (cd Try.f6) [1,1,1,1,1,1,1,1,1,1,0,1,0,0,1,1,0,0,1,1,1,1,0,1,0,1])).tail) (env':=[(4,AV.bool false)]) (L':=[]) (asm:=[(bif bif e != 0 then true else n1 != n then true else decide (n < b)) == true]) (eqs:=[]) (calls:=[]) (AV.bool false) (by kernel_rfl) (by kernel_rfl) (allB_cons (beq_t (i20.2 d21)) allB_nil) allP_nil allC_nil (pq_of (d:=(AV.bool false)) (bs:=[]) (by kernel_rfl) (by kernel_rfl) allB_nil (by kernel_rfl) H)
  ·have H:=H.2 d21
   exact path_wp (G:=given kp6 [] []) 1000 [false] ⟨(atC (cd Try.f6) [1,1,1,1,1,1,1,1,1,1,0,1,0,0]),[(0,AV.vec fl 2 (List.map G2.a gs)),(15,AV.int IntKind.i64 n),(85,AV.vec true 1 [AV.vec false 1 (List.map (AV.int IntKind.i64) A),AV.vec false 1 (List.map (AV.int IntKind.i64) B),AV.vec false 1 (List.map (AV.int IntKind.i64) C)]),(86,AV.int IntKind.i64 3),(87,AV.int IntKind.i64 1)],[],[(bif bif e != 0 then true else n1 != n then true else decide (n < b)) == false],[],[]⟩ (by kernel_rfl) (allB_cons (beq_f (fun h => d21 (i20.1 h))) allB_nil) allP_nil allC_nil (H)
theorem ttI1 (fl:Bool) (gs:List G2) (A B C:List Int) (b n e i m:Int) (ws:List G2) (v:Nat)  (dq:AV) (H :
  ((i < m) -> (0 <= i) /\
   (i.toNat < B.length) /\
   (((B.getD i.toNat default < 0) \/ (B.getD i.toNat default >= (↑gs.length:Int))) -> AV.bool false = dq) /\
   (¬((B.getD i.toNat default < 0) \/ (B.getD i.toNat default >= (↑gs.length:Int))) -> (0 <= B.getD i.toNat default) /\
    ((B.getD i.toNat default).toNat < gs.length) /\
    ((ws.length + 1) * 16 <= 1099511627776) /\
    (-9223372036854775808 <= i + 1 /\ i + 1 <= 9223372036854775807) /\
    ttI1_at (fl) (gs) (A) (B) (C) (b) (n) (e) (i + 1) (m) (ws ++ [gs.getD (B.getD i.toNat default).toNat default]) (v + 1) (PureQ dq))) /\
  (¬(i < m) -> ((¬(¬e = 0)) -> (Sp.okG ws /\ ws.length <= 1000)) /\
   ((((¬e = 0) \/ (¬Sp.llen ws = n)) \/ (n < b)) -> AV.bool false = dq) /\
   (¬(((¬e = 0) \/ (¬Sp.llen ws = n)) \/ (n < b)) -> ttO2_at (fl) (gs) (A) (B) (C) (n) (PureQ dq)))) :
 ttI1_at fl gs A B C b n e i m ws v (PureQ dq):=by
 unfold ttI1_at
 have i1:(decide (i < m)) = true ↔ (i < m):=i_dec
 rcases Classical.em (i < m) with d2 | d2
 ·have H:=H.1 d2
  have i3:(decide (0 <= i)) = true ↔ (0 <= i):=i_dec
  have k4:=H.1;have H:=H.2
  have w5:(List.map (AV.int IntKind.i64) B).length = B.length:=List.length_map ..
  have i6:(decide (i.toNat < (List.map (AV.int IntKind.i64) B).length)) = true ↔ (i.toNat < B.length):=(by (try rw [w5]);all_goals exact i_dec)
  have k7:=H.1;have H:=H.2
  have w8:(List.map G2.a gs).length = gs.length:=List.length_map ..
  have i9:(bif decide (B.getD i.toNat default < 0) then true else decide (B.getD i.toNat default >= (↑(List.map G2.a gs).length:Int))) = true ↔ ((B.getD i.toNat default < 0) \/ (B.getD i.toNat default >= (↑gs.length:Int))):=(by (try rw [w8]);all_goals exact (i_bor i_dec i_dec))
  refine path_wp (G:=given kp6 [(20,1,.elem (AV.int IntKind.i64 (B.getD i.toNat default)))] []) 12 [true] ⟨(atC (cd Try.f6) [1,1,1,1,1,1,1,1,1,1,0,1,0,0,1,1,0,0,1,1,1,0,1,0,0,1,1,0,0,1,0,1]),[(0,AV.vec fl 2 (List.map G2.a gs)),(15,AV.int IntKind.i64 b),(18,AV.int IntKind.i64 n),(19,AV.int IntKind.i64 e),(20,AV.row 0 v),(22,AV.int IntKind.i64 (B.getD i.toNat default)),(85,AV.vec true 1 [AV.vec false 1 (List.map (AV.int IntKind.i64) A),AV.vec false 1 (List.map (AV.int IntKind.i64) B),AV.vec false 1 (List.map (AV.int IntKind.i64) C)]),(86,AV.int IntKind.i64 3),(87,AV.int IntKind.i64 1),(97,AV.vec false 1 (List.map (AV.int IntKind.i64) B)),(98,AV.int IntKind.i64 m),(99,AV.int IntKind.i64 i),(110,AV.bool (bif decide (B.getD i.toNat default < 0) then true else decide (B.getD i.toNat default >= (↑(List.map G2.a gs).length:Int))))],[{ elems:=List.map G2.a ws,es:=2,ver:=v,frozen:=false,clean:=true }],[(decide (i < m)) == true,decide (0 <= i),decide (i.toNat < (List.map (AV.int IntKind.i64) B).length)],[((List.map (AV.int IntKind.i64) B).get?Internal i.toNat = some (AV.int IntKind.i64 (B.getD i.toNat default)))],[]⟩ (by kernel_rfl) (allB_cons (beq_t (i1.2 d2)) (allB_cons (i3.2 k4) (allB_cons (i6.2 k7) allB_nil))) (allP_cons (el_map k7) allP_nil) allC_nil ?_
  rcases Classical.em ((B.getD i.toNat default < 0) \/ (B.getD i.toNat default >= (↑gs.length:Int))) with d10 | d10
  ·have H:=H.1 d10
   exact path_ret (G:=given kp6 [] []) 1000 [true] (k:=((atC (cd Try.f6) [1,1,1,1,1,1,1,1,1,1,0,1,0,0,1,1,0,0,1,1,1,0,1,0,0,1,1,0,0,1,0,1,0,1])).tail) (env':=[(4,AV.bool false)]) (L':=[{ elems:=List.map G2.a ws,es:=2,ver:=v,frozen:=false,clean:=true }]) (asm:=[(bif decide (B.getD i.toNat default < 0) then true else decide (B.getD i.toNat default >= (↑(List.map G2.a gs).length:Int))) == true]) (eqs:=[]) (calls:=[]) (AV.bool false) (by kernel_rfl) (by kernel_rfl) (allB_cons (beq_t (i9.2 d10)) allB_nil) allP_nil allC_nil (pq_of (d:=(AV.bool false)) (bs:=[]) (by kernel_rfl) (by kernel_rfl) allB_nil (by kernel_rfl) H)
  ·have H:=H.2 d10
   have i11:(decide (0 <= B.getD i.toNat default)) = true ↔ (0 <= B.getD i.toNat default):=i_dec
   have k12:=H.1;have H:=H.2
   have i13:(decide ((B.getD i.toNat default).toNat < (List.map G2.a gs).length)) = true ↔ ((B.getD i.toNat default).toNat < gs.length):=(by (try rw [w8]);all_goals exact i_dec)
   have k14:=H.1;have H:=H.2
   have w15:(List.map G2.a ws).length = ws.length:=List.length_map ..
   have i16:(decide (((List.map G2.a ws).length + 1) * 16 <= 1099511627776)) = true ↔ ((ws.length + 1) * 16 <= 1099511627776):=(by (try rw [w15]);all_goals exact i_dec)
   have k17:=H.1;have H:=H.2
   have w18:List.map G2.a ws ++ [AV.agg [AV.int IntKind.i64 (gs.getD (B.getD i.toNat default).toNat default).x,AV.int IntKind.i64 (gs.getD (B.getD i.toNat default).toNat default).y]] = List.map G2.a (ws ++ [gs.getD (B.getD i.toNat default).toNat default]):=(lm_app rfl rfl)
   have k19:=H.1;have H:=H.2
   have w20:IntKind.i64.wrap (i + 1) = i + 1:=wI64 k19
   exact path_wp (G:=given kp6 [(23,4,.elem (AV.agg [AV.int IntKind.i64 (gs.getD (B.getD i.toNat default).toNat default).x,AV.int IntKind.i64 (gs.getD (B.getD i.toNat default).toNat default).y]))] []) 1000 [false] ⟨(atC (cd Try.f6) [1,1,1,1,1,1,1,1,1,1,0,1,0,0,1,1,0,0,1,1,1,0,1,0,0]),[(0,AV.vec fl 2 (List.map G2.a gs)),(15,AV.int IntKind.i64 b),(18,AV.int IntKind.i64 n),(19,AV.int IntKind.i64 e),(20,AV.row 0 (v + 1)),(85,AV.vec true 1 [AV.vec false 1 (List.map (AV.int IntKind.i64) A),AV.vec false 1 (List.map (AV.int IntKind.i64) B),AV.vec false 1 (List.map (AV.int IntKind.i64) C)]),(86,AV.int IntKind.i64 3),(87,AV.int IntKind.i64 1),(97,AV.vec false 1 (List.map (AV.int IntKind.i64) B)),(98,AV.int IntKind.i64 m),(99,AV.int IntKind.i64 (IntKind.i64.wrap (i + 1)))],[{ elems:=List.map G2.a ws ++ [AV.agg [AV.int IntKind.i64 (gs.getD (B.getD i.toNat default).toNat default).x,AV.int IntKind.i64 (gs.getD (B.getD i.toNat default).toNat default).y]],es:=2,ver:=v + 1,frozen:=false,clean:=true }],[(bif decide (B.getD i.toNat default < 0) then true else decide (B.getD i.toNat default >= (↑(List.map G2.a gs).length:Int))) == false,decide (0 <= B.getD i.toNat default),decide ((B.getD i.toNat default).toNat < (List.map G2.a gs).length),v == v,decide (((List.map G2.a ws).length + 1) * 16 <= 1099511627776)],[((List.map G2.a gs).get?Internal (B.getD i.toNat default).toNat = some (AV.agg [AV.int IntKind.i64 (gs.getD (B.getD i.toNat default).toNat default).x,AV.int IntKind.i64 (gs.getD (B.getD i.toNat default).toNat default).y]))],[]⟩ (by kernel_rfl) (allB_cons (beq_f (fun h => d10 (i9.1 h))) (allB_cons (i11.2 k12) (allB_cons (i13.2 k14) (allB_cons (beq_self_eq_true _) (allB_cons (i16.2 k17) allB_nil))))) (allP_cons (el_map k14) allP_nil) allC_nil (by (try rw [w18]);(try rw [w20]);all_goals exact H)
 ·have H:=H.2 d2
  have i21:((e != 0) == false && true && true) = true ↔ (¬(¬e = 0)):=(i_at (i_at (i_bf i_ne)))
  have k22:=H.1;have H:=H.2
  have i23:(!((e != 0) == false && true) || v == v) = true ↔ ((¬(¬e = 0)) -> (v = v)):=(i_imp (i_at (i_bf i_ne)) i_eq)
  have i24:(bif bif e != 0 then true else Sp.llen ws != n then true else decide (n < b)) = true ↔ (((¬e = 0) \/ (¬Sp.llen ws = n)) \/ (n < b)):=(i_bor (i_bor i_ne i_ne) i_dec)
  refine path_wp (G:=given kp6 [(25,4,.call (AV.int IntKind.i64 (Sp.llen ws)) none)] []) 8 [false] ⟨(atC (cd Try.f6) [1,1,1,1,1,1,1,1,1,1,0,1,0,0,1,1,0,0,1,1,1,1,0,1]),[(0,AV.vec fl 2 (List.map G2.a gs)),(18,AV.int IntKind.i64 n),(85,AV.vec true 1 [AV.vec false 1 (List.map (AV.int IntKind.i64) A),AV.vec false 1 (List.map (AV.int IntKind.i64) B),AV.vec false 1 (List.map (AV.int IntKind.i64) C)]),(86,AV.int IntKind.i64 3),(87,AV.int IntKind.i64 1),(131,AV.bool (bif bif e != 0 then true else Sp.llen ws != n then true else decide (n < b)))],[{ elems:=List.map G2.a ws,es:=2,ver:=v,frozen:=false,clean:=true }],[(decide (i < m)) == false,!((e != 0) == false && true) || v == v],[],[⟨(e != 0) == false && true && true,false,38,[AV.vec false 2 (List.map G2.a ws)],[],AV.int IntKind.i64 (Sp.llen ws),[]⟩]⟩ (by kernel_rfl) (allB_cons (beq_f (fun h => d2 (i1.1 h))) (allB_cons (i23.2 (fun _ => rfl)) allB_nil)) allP_nil (allC_cons (fun hc => ((@ev38 (false) (ws) (k22 (i21.1 hc))):Ev M1 (Conf.pure 38 [AV.vec false 2 (List.map G2.a ws)]) (AV.int IntKind.i64 (Sp.llen ws)) [])) allC_nil) ?_
  rcases Classical.em (((¬e = 0) \/ (¬Sp.llen ws = n)) \/ (n < b)) with d25 | d25
  ·have H:=H.1 d25
   exact path_ret (G:=given kp6 [] []) 1000 [true] (k:=((atC (cd Try.f6) [1,1,1,1,1,1,1,1,1,1,0,1,0,0,1,1,0,0,1,1,1,1,0,1,0,1])).tail) (env':=[(4,AV.bool false)]) (L':=[{ elems:=List.map G2.a ws,es:=2,ver:=v,frozen:=false,clean:=true }]) (asm:=[(bif bif e != 0 then true else Sp.llen ws != n then true else decide (n < b)) == true]) (eqs:=[]) (calls:=[]) (AV.bool false) (by kernel_rfl) (by kernel_rfl) (allB_cons (beq_t (i24.2 d25)) allB_nil) allP_nil allC_nil (pq_of (d:=(AV.bool false)) (bs:=[]) (by kernel_rfl) (by kernel_rfl) allB_nil (by kernel_rfl) H)
  ·have H:=H.2 d25
   exact path_wp (G:=given kp6 [] []) 1000 [false] ⟨(atC (cd Try.f6) [1,1,1,1,1,1,1,1,1,1,0,1,0,0]),[(0,AV.vec fl 2 (List.map G2.a gs)),(15,AV.int IntKind.i64 n),(85,AV.vec true 1 [AV.vec false 1 (List.map (AV.int IntKind.i64) A),AV.vec false 1 (List.map (AV.int IntKind.i64) B),AV.vec false 1 (List.map (AV.int IntKind.i64) C)]),(86,AV.int IntKind.i64 3),(87,AV.int IntKind.i64 2)],[{ elems:=List.map G2.a ws,es:=2,ver:=v,frozen:=false,clean:=true }],[(bif bif e != 0 then true else Sp.llen ws != n then true else decide (n < b)) == false],[],[]⟩ (by kernel_rfl) (allB_cons (beq_f (fun h => d25 (i24.1 h))) allB_nil) allP_nil allC_nil (wp_narrow [] (by kernel_rfl) H)
theorem ttZ1 (fl:Bool) (gs:List G2) (A B C:List Int) (b n e i m:Int)  (dq:AV) (H :
  ((i < m) -> (0 <= i) /\
   (i.toNat < B.length) /\
   (((B.getD i.toNat default < 0) \/ (B.getD i.toNat default >= (↑gs.length:Int))) -> AV.bool false = dq) /\
   (¬((B.getD i.toNat default < 0) \/ (B.getD i.toNat default >= (↑gs.length:Int))) -> (0 <= B.getD i.toNat default) /\
    ((B.getD i.toNat default).toNat < gs.length) /\
    (-9223372036854775808 <= i + 1 /\ i + 1 <= 9223372036854775807) /\
    ttI1_at (fl) (gs) (A) (B) (C) (b) (n) (e) (i + 1) (m) ([gs.getD (B.getD i.toNat default).toNat default]) (0) (PureQ dq))) /\
  (¬(i < m) -> ∃ (n1:Int),
   ((¬(¬e = 0)) -> (Ev M1 (Conf.pure 38 [AV.vnil]) (AV.int IntKind.i64 n1) [])) /\
   ((((¬e = 0) \/ (¬n1 = n)) \/ (n < b)) -> AV.bool false = dq) /\
   (¬(((¬e = 0) \/ (¬n1 = n)) \/ (n < b)) -> ttO2_at (fl) (gs) (A) (B) (C) (n) (PureQ dq)))) :
 ttZ1_at fl gs A B C b n e i m (PureQ dq):=by
 unfold ttZ1_at
 have i1:(decide (i < m)) = true ↔ (i < m):=i_dec
 rcases Classical.em (i < m) with d2 | d2
 ·have H:=H.1 d2
  have i3:(decide (0 <= i)) = true ↔ (0 <= i):=i_dec
  have k4:=H.1;have H:=H.2
  have w5:(List.map (AV.int IntKind.i64) B).length = B.length:=List.length_map ..
  have i6:(decide (i.toNat < (List.map (AV.int IntKind.i64) B).length)) = true ↔ (i.toNat < B.length):=(by (try rw [w5]);all_goals exact i_dec)
  have k7:=H.1;have H:=H.2
  have w8:(List.map G2.a gs).length = gs.length:=List.length_map ..
  have i9:(bif decide (B.getD i.toNat default < 0) then true else decide (B.getD i.toNat default >= (↑(List.map G2.a gs).length:Int))) = true ↔ ((B.getD i.toNat default < 0) \/ (B.getD i.toNat default >= (↑gs.length:Int))):=(by (try rw [w8]);all_goals exact (i_bor i_dec i_dec))
  refine path_wp (G:=given kp6 [(20,1,.elem (AV.int IntKind.i64 (B.getD i.toNat default)))] []) 12 [true] ⟨(atC (cd Try.f6) [1,1,1,1,1,1,1,1,1,1,0,1,0,0,1,1,0,0,1,1,1,0,1,0,0,1,1,0,0,1,0,1]),[(0,AV.vec fl 2 (List.map G2.a gs)),(15,AV.int IntKind.i64 b),(18,AV.int IntKind.i64 n),(19,AV.int IntKind.i64 e),(20,AV.vnil),(22,AV.int IntKind.i64 (B.getD i.toNat default)),(85,AV.vec true 1 [AV.vec false 1 (List.map (AV.int IntKind.i64) A),AV.vec false 1 (List.map (AV.int IntKind.i64) B),AV.vec false 1 (List.map (AV.int IntKind.i64) C)]),(86,AV.int IntKind.i64 3),(87,AV.int IntKind.i64 1),(97,AV.vec false 1 (List.map (AV.int IntKind.i64) B)),(98,AV.int IntKind.i64 m),(99,AV.int IntKind.i64 i),(110,AV.bool (bif decide (B.getD i.toNat default < 0) then true else decide (B.getD i.toNat default >= (↑(List.map G2.a gs).length:Int))))],[],[(decide (i < m)) == true,decide (0 <= i),decide (i.toNat < (List.map (AV.int IntKind.i64) B).length)],[((List.map (AV.int IntKind.i64) B).get?Internal i.toNat = some (AV.int IntKind.i64 (B.getD i.toNat default)))],[]⟩ (by kernel_rfl) (allB_cons (beq_t (i1.2 d2)) (allB_cons (i3.2 k4) (allB_cons (i6.2 k7) allB_nil))) (allP_cons (el_map k7) allP_nil) allC_nil ?_
  rcases Classical.em ((B.getD i.toNat default < 0) \/ (B.getD i.toNat default >= (↑gs.length:Int))) with d10 | d10
  ·have H:=H.1 d10
   exact path_ret (G:=given kp6 [] []) 1000 [true] (k:=((atC (cd Try.f6) [1,1,1,1,1,1,1,1,1,1,0,1,0,0,1,1,0,0,1,1,1,0,1,0,0,1,1,0,0,1,0,1,0,1])).tail) (env':=[(4,AV.bool false)]) (L':=[]) (asm:=[(bif decide (B.getD i.toNat default < 0) then true else decide (B.getD i.toNat default >= (↑(List.map G2.a gs).length:Int))) == true]) (eqs:=[]) (calls:=[]) (AV.bool false) (by kernel_rfl) (by kernel_rfl) (allB_cons (beq_t (i9.2 d10)) allB_nil) allP_nil allC_nil (pq_of (d:=(AV.bool false)) (bs:=[]) (by kernel_rfl) (by kernel_rfl) allB_nil (by kernel_rfl) H)
  ·have H:=H.2 d10
   have i11:(decide (0 <= B.getD i.toNat default)) = true ↔ (0 <= B.getD i.toNat default):=i_dec
   have k12:=H.1;have H:=H.2
   have i13:(decide ((B.getD i.toNat default).toNat < (List.map G2.a gs).length)) = true ↔ ((B.getD i.toNat default).toNat < gs.length):=(by (try rw [w8]);all_goals exact i_dec)
   have k14:=H.1;have H:=H.2
   have k15:=H.1;have H:=H.2
   have w16:IntKind.i64.wrap (i + 1) = i + 1:=wI64 k15
   have w17:[AV.agg [AV.int IntKind.i64 (gs.getD (B.getD i.toNat default).toNat default).x,AV.int IntKind.i64 (gs.getD (B.getD i.toNat default).toNat default).y]] = List.map G2.a [gs.getD (B.getD i.toNat default).toNat default]:=rfl
   exact path_wp (G:=given kp6 [(23,4,.elem (AV.agg [AV.int IntKind.i64 (gs.getD (B.getD i.toNat default).toNat default).x,AV.int IntKind.i64 (gs.getD (B.getD i.toNat default).toNat default).y]))] []) 1000 [false] ⟨(atC (cd Try.f6) [1,1,1,1,1,1,1,1,1,1,0,1,0,0,1,1,0,0,1,1,1,0,1,0,0]),[(0,AV.vec fl 2 (List.map G2.a gs)),(15,AV.int IntKind.i64 b),(18,AV.int IntKind.i64 n),(19,AV.int IntKind.i64 e),(20,AV.row 0 0),(85,AV.vec true 1 [AV.vec false 1 (List.map (AV.int IntKind.i64) A),AV.vec false 1 (List.map (AV.int IntKind.i64) B),AV.vec false 1 (List.map (AV.int IntKind.i64) C)]),(86,AV.int IntKind.i64 3),(87,AV.int IntKind.i64 1),(97,AV.vec false 1 (List.map (AV.int IntKind.i64) B)),(98,AV.int IntKind.i64 m),(99,AV.int IntKind.i64 (IntKind.i64.wrap (i + 1)))],[{ elems:=[AV.agg [AV.int IntKind.i64 (gs.getD (B.getD i.toNat default).toNat default).x,AV.int IntKind.i64 (gs.getD (B.getD i.toNat default).toNat default).y]],es:=2,ver:=0,frozen:=false,clean:=true }],[(bif decide (B.getD i.toNat default < 0) then true else decide (B.getD i.toNat default >= (↑(List.map G2.a gs).length:Int))) == false,decide (0 <= B.getD i.toNat default),decide ((B.getD i.toNat default).toNat < (List.map G2.a gs).length),true],[((List.map G2.a gs).get?Internal (B.getD i.toNat default).toNat = some (AV.agg [AV.int IntKind.i64 (gs.getD (B.getD i.toNat default).toNat default).x,AV.int IntKind.i64 (gs.getD (B.getD i.toNat default).toNat default).y]))],[]⟩ (by kernel_rfl) (allB_cons (beq_f (fun h => d10 (i9.1 h))) (allB_cons (i11.2 k12) (allB_cons (i13.2 k14) (allB_cons rfl allB_nil)))) (allP_cons (el_map k14) allP_nil) allC_nil (by (try rw [w16]);(try rw [w17]);all_goals exact H)
 ·have H:=H.2 d2
  obtain ⟨n1,H⟩:=H
  have i18:((e != 0) == false && true && true) = true ↔ (¬(¬e = 0)):=(i_at (i_at (i_bf i_ne)))
  have k19:=H.1;have H:=H.2
  have i20:(bif bif e != 0 then true else n1 != n then true else decide (n < b)) = true ↔ (((¬e = 0) \/ (¬n1 = n)) \/ (n < b)):=(i_bor (i_bor i_ne i_ne) i_dec)
  refine path_wp (G:=given kp6 [(25,4,.call (AV.int IntKind.i64 n1) none)] []) 8 [false] ⟨(atC (cd Try.f6) [1,1,1,1,1,1,1,1,1,1,0,1,0,0,1,1,0,0,1,1,1,1,0,1]),[(0,AV.vec fl 2 (List.map G2.a gs)),(18,AV.int IntKind.i64 n),(85,AV.vec true 1 [AV.vec false 1 (List.map (AV.int IntKind.i64) A),AV.vec false 1 (List.map (AV.int IntKind.i64) B),AV.vec false 1 (List.map (AV.int IntKind.i64) C)]),(86,AV.int IntKind.i64 3),(87,AV.int IntKind.i64 1),(131,AV.bool (bif bif e != 0 then true else n1 != n then true else decide (n < b)))],[],[(decide (i < m)) == false],[],[⟨(e != 0) == false && true && true,false,38,[AV.vnil],[],AV.int IntKind.i64 n1,[]⟩]⟩ (by kernel_rfl) (allB_cons (beq_f (fun h => d2 (i1.1 h))) allB_nil) allP_nil (allC_cons (fun hc => ((k19 (i18.1 hc)):Ev M1 (Conf.pure 38 [AV.vnil]) (AV.int IntKind.i64 n1) [])) allC_nil) ?_
  rcases Classical.em (((¬e = 0) \/ (¬n1 = n)) \/ (n < b)) with d21 | d21
  ·have H:=H.1 d21
   exact path_ret (G:=given kp6 [] []) 1000 [true] (k:=((atC (cd Try.f6) [1,1,1,1,1,1,1,1,1,1,0,1,0,0,1,1,0,0,1,1,1,1,0,1,0,1])).tail) (env':=[(4,AV.bool false)]) (L':=[]) (asm:=[(bif bif e != 0 then true else n1 != n then true else decide (n < b)) == true]) (eqs:=[]) (calls:=[]) (AV.bool false) (by kernel_rfl) (by kernel_rfl) (allB_cons (beq_t (i20.2 d21)) allB_nil) allP_nil allC_nil (pq_of (d:=(AV.bool false)) (bs:=[]) (by kernel_rfl) (by kernel_rfl) allB_nil (by kernel_rfl) H)
  ·have H:=H.2 d21
   exact path_wp (G:=given kp6 [] []) 1000 [false] ⟨(atC (cd Try.f6) [1,1,1,1,1,1,1,1,1,1,0,1,0,0]),[(0,AV.vec fl 2 (List.map G2.a gs)),(15,AV.int IntKind.i64 n),(85,AV.vec true 1 [AV.vec false 1 (List.map (AV.int IntKind.i64) A),AV.vec false 1 (List.map (AV.int IntKind.i64) B),AV.vec false 1 (List.map (AV.int IntKind.i64) C)]),(86,AV.int IntKind.i64 3),(87,AV.int IntKind.i64 2)],[],[(bif bif e != 0 then true else n1 != n then true else decide (n < b)) == false],[],[]⟩ (by kernel_rfl) (allB_cons (beq_f (fun h => d21 (i20.1 h))) allB_nil) allP_nil allC_nil (H)
theorem ttI2 (fl:Bool) (gs:List G2) (A B C:List Int) (b n e i m:Int) (ws:List G2) (v:Nat)  (dq:AV) (H :
  ((i < m) -> (0 <= i) /\
   (i.toNat < C.length) /\
   (((C.getD i.toNat default < 0) \/ (C.getD i.toNat default >= (↑gs.length:Int))) -> AV.bool false = dq) /\
   (¬((C.getD i.toNat default < 0) \/ (C.getD i.toNat default >= (↑gs.length:Int))) -> (0 <= C.getD i.toNat default) /\
    ((C.getD i.toNat default).toNat < gs.length) /\
    ((ws.length + 1) * 16 <= 1099511627776) /\
    (-9223372036854775808 <= i + 1 /\ i + 1 <= 9223372036854775807) /\
    ttI2_at (fl) (gs) (A) (B) (C) (b) (n) (e) (i + 1) (m) (ws ++ [gs.getD (C.getD i.toNat default).toNat default]) (v + 1) (PureQ dq))) /\
  (¬(i < m) -> ((¬(¬e = 0)) -> (Sp.okG ws /\ ws.length <= 1000)) /\
   ((((¬e = 0) \/ (¬Sp.llen ws = n)) \/ (n < b)) -> AV.bool false = dq) /\
   (¬(((¬e = 0) \/ (¬Sp.llen ws = n)) \/ (n < b)) -> ttO3_at (fl) (gs) (A) (B) (C) (n) (PureQ dq)))) :
 ttI2_at fl gs A B C b n e i m ws v (PureQ dq):=by
 unfold ttI2_at
 have i1:(decide (i < m)) = true ↔ (i < m):=i_dec
 rcases Classical.em (i < m) with d2 | d2
 ·have H:=H.1 d2
  have i3:(decide (0 <= i)) = true ↔ (0 <= i):=i_dec
  have k4:=H.1;have H:=H.2
  have w5:(List.map (AV.int IntKind.i64) C).length = C.length:=List.length_map ..
  have i6:(decide (i.toNat < (List.map (AV.int IntKind.i64) C).length)) = true ↔ (i.toNat < C.length):=(by (try rw [w5]);all_goals exact i_dec)
  have k7:=H.1;have H:=H.2
  have w8:(List.map G2.a gs).length = gs.length:=List.length_map ..
  have i9:(bif decide (C.getD i.toNat default < 0) then true else decide (C.getD i.toNat default >= (↑(List.map G2.a gs).length:Int))) = true ↔ ((C.getD i.toNat default < 0) \/ (C.getD i.toNat default >= (↑gs.length:Int))):=(by (try rw [w8]);all_goals exact (i_bor i_dec i_dec))
  refine path_wp (G:=given kp6 [(20,1,.elem (AV.int IntKind.i64 (C.getD i.toNat default)))] []) 12 [true] ⟨(atC (cd Try.f6) [1,1,1,1,1,1,1,1,1,1,0,1,0,0,1,1,0,0,1,1,1,0,1,0,0,1,1,0,0,1,0,1]),[(0,AV.vec fl 2 (List.map G2.a gs)),(15,AV.int IntKind.i64 b),(18,AV.int IntKind.i64 n),(19,AV.int IntKind.i64 e),(20,AV.row 0 v),(22,AV.int IntKind.i64 (C.getD i.toNat default)),(85,AV.vec true 1 [AV.vec false 1 (List.map (AV.int IntKind.i64) A),AV.vec false 1 (List.map (AV.int IntKind.i64) B),AV.vec false 1 (List.map (AV.int IntKind.i64) C)]),(86,AV.int IntKind.i64 3),(87,AV.int IntKind.i64 2),(97,AV.vec false 1 (List.map (AV.int IntKind.i64) C)),(98,AV.int IntKind.i64 m),(99,AV.int IntKind.i64 i),(110,AV.bool (bif decide (C.getD i.toNat default < 0) then true else decide (C.getD i.toNat default >= (↑(List.map G2.a gs).length:Int))))],[{ elems:=List.map G2.a ws,es:=2,ver:=v,frozen:=false,clean:=true }],[(decide (i < m)) == true,decide (0 <= i),decide (i.toNat < (List.map (AV.int IntKind.i64) C).length)],[((List.map (AV.int IntKind.i64) C).get?Internal i.toNat = some (AV.int IntKind.i64 (C.getD i.toNat default)))],[]⟩ (by kernel_rfl) (allB_cons (beq_t (i1.2 d2)) (allB_cons (i3.2 k4) (allB_cons (i6.2 k7) allB_nil))) (allP_cons (el_map k7) allP_nil) allC_nil ?_
  rcases Classical.em ((C.getD i.toNat default < 0) \/ (C.getD i.toNat default >= (↑gs.length:Int))) with d10 | d10
  ·have H:=H.1 d10
   exact path_ret (G:=given kp6 [] []) 1000 [true] (k:=((atC (cd Try.f6) [1,1,1,1,1,1,1,1,1,1,0,1,0,0,1,1,0,0,1,1,1,0,1,0,0,1,1,0,0,1,0,1,0,1])).tail) (env':=[(4,AV.bool false)]) (L':=[{ elems:=List.map G2.a ws,es:=2,ver:=v,frozen:=false,clean:=true }]) (asm:=[(bif decide (C.getD i.toNat default < 0) then true else decide (C.getD i.toNat default >= (↑(List.map G2.a gs).length:Int))) == true]) (eqs:=[]) (calls:=[]) (AV.bool false) (by kernel_rfl) (by kernel_rfl) (allB_cons (beq_t (i9.2 d10)) allB_nil) allP_nil allC_nil (pq_of (d:=(AV.bool false)) (bs:=[]) (by kernel_rfl) (by kernel_rfl) allB_nil (by kernel_rfl) H)
  ·have H:=H.2 d10
   have i11:(decide (0 <= C.getD i.toNat default)) = true ↔ (0 <= C.getD i.toNat default):=i_dec
   have k12:=H.1;have H:=H.2
   have i13:(decide ((C.getD i.toNat default).toNat < (List.map G2.a gs).length)) = true ↔ ((C.getD i.toNat default).toNat < gs.length):=(by (try rw [w8]);all_goals exact i_dec)
   have k14:=H.1;have H:=H.2
   have w15:(List.map G2.a ws).length = ws.length:=List.length_map ..
   have i16:(decide (((List.map G2.a ws).length + 1) * 16 <= 1099511627776)) = true ↔ ((ws.length + 1) * 16 <= 1099511627776):=(by (try rw [w15]);all_goals exact i_dec)
   have k17:=H.1;have H:=H.2
   have w18:List.map G2.a ws ++ [AV.agg [AV.int IntKind.i64 (gs.getD (C.getD i.toNat default).toNat default).x,AV.int IntKind.i64 (gs.getD (C.getD i.toNat default).toNat default).y]] = List.map G2.a (ws ++ [gs.getD (C.getD i.toNat default).toNat default]):=(lm_app rfl rfl)
   have k19:=H.1;have H:=H.2
   have w20:IntKind.i64.wrap (i + 1) = i + 1:=wI64 k19
   exact path_wp (G:=given kp6 [(23,4,.elem (AV.agg [AV.int IntKind.i64 (gs.getD (C.getD i.toNat default).toNat default).x,AV.int IntKind.i64 (gs.getD (C.getD i.toNat default).toNat default).y]))] []) 1000 [false] ⟨(atC (cd Try.f6) [1,1,1,1,1,1,1,1,1,1,0,1,0,0,1,1,0,0,1,1,1,0,1,0,0]),[(0,AV.vec fl 2 (List.map G2.a gs)),(15,AV.int IntKind.i64 b),(18,AV.int IntKind.i64 n),(19,AV.int IntKind.i64 e),(20,AV.row 0 (v + 1)),(85,AV.vec true 1 [AV.vec false 1 (List.map (AV.int IntKind.i64) A),AV.vec false 1 (List.map (AV.int IntKind.i64) B),AV.vec false 1 (List.map (AV.int IntKind.i64) C)]),(86,AV.int IntKind.i64 3),(87,AV.int IntKind.i64 2),(97,AV.vec false 1 (List.map (AV.int IntKind.i64) C)),(98,AV.int IntKind.i64 m),(99,AV.int IntKind.i64 (IntKind.i64.wrap (i + 1)))],[{ elems:=List.map G2.a ws ++ [AV.agg [AV.int IntKind.i64 (gs.getD (C.getD i.toNat default).toNat default).x,AV.int IntKind.i64 (gs.getD (C.getD i.toNat default).toNat default).y]],es:=2,ver:=v + 1,frozen:=false,clean:=true }],[(bif decide (C.getD i.toNat default < 0) then true else decide (C.getD i.toNat default >= (↑(List.map G2.a gs).length:Int))) == false,decide (0 <= C.getD i.toNat default),decide ((C.getD i.toNat default).toNat < (List.map G2.a gs).length),v == v,decide (((List.map G2.a ws).length + 1) * 16 <= 1099511627776)],[((List.map G2.a gs).get?Internal (C.getD i.toNat default).toNat = some (AV.agg [AV.int IntKind.i64 (gs.getD (C.getD i.toNat default).toNat default).x,AV.int IntKind.i64 (gs.getD (C.getD i.toNat default).toNat default).y]))],[]⟩ (by kernel_rfl) (allB_cons (beq_f (fun h => d10 (i9.1 h))) (allB_cons (i11.2 k12) (allB_cons (i13.2 k14) (allB_cons (beq_self_eq_true _) (allB_cons (i16.2 k17) allB_nil))))) (allP_cons (el_map k14) allP_nil) allC_nil (by (try rw [w18]);(try rw [w20]);all_goals exact H)
 ·have H:=H.2 d2
  have i21:((e != 0) == false && true && true) = true ↔ (¬(¬e = 0)):=(i_at (i_at (i_bf i_ne)))
  have k22:=H.1;have H:=H.2
  have i23:(!((e != 0) == false && true) || v == v) = true ↔ ((¬(¬e = 0)) -> (v = v)):=(i_imp (i_at (i_bf i_ne)) i_eq)
  have i24:(bif bif e != 0 then true else Sp.llen ws != n then true else decide (n < b)) = true ↔ (((¬e = 0) \/ (¬Sp.llen ws = n)) \/ (n < b)):=(i_bor (i_bor i_ne i_ne) i_dec)
  refine path_wp (G:=given kp6 [(25,4,.call (AV.int IntKind.i64 (Sp.llen ws)) none)] []) 8 [false] ⟨(atC (cd Try.f6) [1,1,1,1,1,1,1,1,1,1,0,1,0,0,1,1,0,0,1,1,1,1,0,1]),[(0,AV.vec fl 2 (List.map G2.a gs)),(18,AV.int IntKind.i64 n),(85,AV.vec true 1 [AV.vec false 1 (List.map (AV.int IntKind.i64) A),AV.vec false 1 (List.map (AV.int IntKind.i64) B),AV.vec false 1 (List.map (AV.int IntKind.i64) C)]),(86,AV.int IntKind.i64 3),(87,AV.int IntKind.i64 2),(131,AV.bool (bif bif e != 0 then true else Sp.llen ws != n then true else decide (n < b)))],[{ elems:=List.map G2.a ws,es:=2,ver:=v,frozen:=false,clean:=true }],[(decide (i < m)) == false,!((e != 0) == false && true) || v == v],[],[⟨(e != 0) == false && true && true,false,38,[AV.vec false 2 (List.map G2.a ws)],[],AV.int IntKind.i64 (Sp.llen ws),[]⟩]⟩ (by kernel_rfl) (allB_cons (beq_f (fun h => d2 (i1.1 h))) (allB_cons (i23.2 (fun _ => rfl)) allB_nil)) allP_nil (allC_cons (fun hc => ((@ev38 (false) (ws) (k22 (i21.1 hc))):Ev M1 (Conf.pure 38 [AV.vec false 2 (List.map G2.a ws)]) (AV.int IntKind.i64 (Sp.llen ws)) [])) allC_nil) ?_
  rcases Classical.em (((¬e = 0) \/ (¬Sp.llen ws = n)) \/ (n < b)) with d25 | d25
  ·have H:=H.1 d25
   exact path_ret (G:=given kp6 [] []) 1000 [true] (k:=((atC (cd Try.f6) [1,1,1,1,1,1,1,1,1,1,0,1,0,0,1,1,0,0,1,1,1,1,0,1,0,1])).tail) (env':=[(4,AV.bool false)]) (L':=[{ elems:=List.map G2.a ws,es:=2,ver:=v,frozen:=false,clean:=true }]) (asm:=[(bif bif e != 0 then true else Sp.llen ws != n then true else decide (n < b)) == true]) (eqs:=[]) (calls:=[]) (AV.bool false) (by kernel_rfl) (by kernel_rfl) (allB_cons (beq_t (i24.2 d25)) allB_nil) allP_nil allC_nil (pq_of (d:=(AV.bool false)) (bs:=[]) (by kernel_rfl) (by kernel_rfl) allB_nil (by kernel_rfl) H)
  ·have H:=H.2 d25
   exact path_wp (G:=given kp6 [] []) 1000 [false] ⟨(atC (cd Try.f6) [1,1,1,1,1,1,1,1,1,1,0,1,0,0]),[(0,AV.vec fl 2 (List.map G2.a gs)),(15,AV.int IntKind.i64 n),(85,AV.vec true 1 [AV.vec false 1 (List.map (AV.int IntKind.i64) A),AV.vec false 1 (List.map (AV.int IntKind.i64) B),AV.vec false 1 (List.map (AV.int IntKind.i64) C)]),(86,AV.int IntKind.i64 3),(87,AV.int IntKind.i64 3)],[{ elems:=List.map G2.a ws,es:=2,ver:=v,frozen:=false,clean:=true }],[(bif bif e != 0 then true else Sp.llen ws != n then true else decide (n < b)) == false],[],[]⟩ (by kernel_rfl) (allB_cons (beq_f (fun h => d25 (i24.1 h))) allB_nil) allP_nil allC_nil (wp_narrow [] (by kernel_rfl) H)
theorem ttZ2 (fl:Bool) (gs:List G2) (A B C:List Int) (b n e i m:Int)  (dq:AV) (H :
  ((i < m) -> (0 <= i) /\
   (i.toNat < C.length) /\
   (((C.getD i.toNat default < 0) \/ (C.getD i.toNat default >= (↑gs.length:Int))) -> AV.bool false = dq) /\
   (¬((C.getD i.toNat default < 0) \/ (C.getD i.toNat default >= (↑gs.length:Int))) -> (0 <= C.getD i.toNat default) /\
    ((C.getD i.toNat default).toNat < gs.length) /\
    (-9223372036854775808 <= i + 1 /\ i + 1 <= 9223372036854775807) /\
    ttI2_at (fl) (gs) (A) (B) (C) (b) (n) (e) (i + 1) (m) ([gs.getD (C.getD i.toNat default).toNat default]) (0) (PureQ dq))) /\
  (¬(i < m) -> ∃ (n1:Int),
   ((¬(¬e = 0)) -> (Ev M1 (Conf.pure 38 [AV.vnil]) (AV.int IntKind.i64 n1) [])) /\
   ((((¬e = 0) \/ (¬n1 = n)) \/ (n < b)) -> AV.bool false = dq) /\
   (¬(((¬e = 0) \/ (¬n1 = n)) \/ (n < b)) -> ttO3_at (fl) (gs) (A) (B) (C) (n) (PureQ dq)))) :
 ttZ2_at fl gs A B C b n e i m (PureQ dq):=by
 unfold ttZ2_at
 have i1:(decide (i < m)) = true ↔ (i < m):=i_dec
 rcases Classical.em (i < m) with d2 | d2
 ·have H:=H.1 d2
  have i3:(decide (0 <= i)) = true ↔ (0 <= i):=i_dec
  have k4:=H.1;have H:=H.2
  have w5:(List.map (AV.int IntKind.i64) C).length = C.length:=List.length_map ..
  have i6:(decide (i.toNat < (List.map (AV.int IntKind.i64) C).length)) = true ↔ (i.toNat < C.length):=(by (try rw [w5]);all_goals exact i_dec)
  have k7:=H.1;have H:=H.2
  have w8:(List.map G2.a gs).length = gs.length:=List.length_map ..
  have i9:(bif decide (C.getD i.toNat default < 0) then true else decide (C.getD i.toNat default >= (↑(List.map G2.a gs).length:Int))) = true ↔ ((C.getD i.toNat default < 0) \/ (C.getD i.toNat default >= (↑gs.length:Int))):=(by (try rw [w8]);all_goals exact (i_bor i_dec i_dec))
  refine path_wp (G:=given kp6 [(20,1,.elem (AV.int IntKind.i64 (C.getD i.toNat default)))] []) 12 [true] ⟨(atC (cd Try.f6) [1,1,1,1,1,1,1,1,1,1,0,1,0,0,1,1,0,0,1,1,1,0,1,0,0,1,1,0,0,1,0,1]),[(0,AV.vec fl 2 (List.map G2.a gs)),(15,AV.int IntKind.i64 b),(18,AV.int IntKind.i64 n),(19,AV.int IntKind.i64 e),(20,AV.vnil),(22,AV.int IntKind.i64 (C.getD i.toNat default)),(85,AV.vec true 1 [AV.vec false 1 (List.map (AV.int IntKind.i64) A),AV.vec false 1 (List.map (AV.int IntKind.i64) B),AV.vec false 1 (List.map (AV.int IntKind.i64) C)]),(86,AV.int IntKind.i64 3),(87,AV.int IntKind.i64 2),(97,AV.vec false 1 (List.map (AV.int IntKind.i64) C)),(98,AV.int IntKind.i64 m),(99,AV.int IntKind.i64 i),(110,AV.bool (bif decide (C.getD i.toNat default < 0) then true else decide (C.getD i.toNat default >= (↑(List.map G2.a gs).length:Int))))],[],[(decide (i < m)) == true,decide (0 <= i),decide (i.toNat < (List.map (AV.int IntKind.i64) C).length)],[((List.map (AV.int IntKind.i64) C).get?Internal i.toNat = some (AV.int IntKind.i64 (C.getD i.toNat default)))],[]⟩ (by kernel_rfl) (allB_cons (beq_t (i1.2 d2)) (allB_cons (i3.2 k4) (allB_cons (i6.2 k7) allB_nil))) (allP_cons (el_map k7) allP_nil) allC_nil ?_
  rcases Classical.em ((C.getD i.toNat default < 0) \/ (C.getD i.toNat default >= (↑gs.length:Int))) with d10 | d10
  ·have H:=H.1 d10
   exact path_ret (G:=given kp6 [] []) 1000 [true] (k:=((atC (cd Try.f6) [1,1,1,1,1,1,1,1,1,1,0,1,0,0,1,1,0,0,1,1,1,0,1,0,0,1,1,0,0,1,0,1,0,1])).tail) (env':=[(4,AV.bool false)]) (L':=[]) (asm:=[(bif decide (C.getD i.toNat default < 0) then true else decide (C.getD i.toNat default >= (↑(List.map G2.a gs).length:Int))) == true]) (eqs:=[]) (calls:=[]) (AV.bool false) (by kernel_rfl) (by kernel_rfl) (allB_cons (beq_t (i9.2 d10)) allB_nil) allP_nil allC_nil (pq_of (d:=(AV.bool false)) (bs:=[]) (by kernel_rfl) (by kernel_rfl) allB_nil (by kernel_rfl) H)
  ·have H:=H.2 d10
   have i11:(decide (0 <= C.getD i.toNat default)) = true ↔ (0 <= C.getD i.toNat default):=i_dec
   have k12:=H.1;have H:=H.2
   have i13:(decide ((C.getD i.toNat default).toNat < (List.map G2.a gs).length)) = true ↔ ((C.getD i.toNat default).toNat < gs.length):=(by (try rw [w8]);all_goals exact i_dec)
   have k14:=H.1;have H:=H.2
   have k15:=H.1;have H:=H.2
   have w16:IntKind.i64.wrap (i + 1) = i + 1:=wI64 k15
   have w17:[AV.agg [AV.int IntKind.i64 (gs.getD (C.getD i.toNat default).toNat default).x,AV.int IntKind.i64 (gs.getD (C.getD i.toNat default).toNat default).y]] = List.map G2.a [gs.getD (C.getD i.toNat default).toNat default]:=rfl
   exact path_wp (G:=given kp6 [(23,4,.elem (AV.agg [AV.int IntKind.i64 (gs.getD (C.getD i.toNat default).toNat default).x,AV.int IntKind.i64 (gs.getD (C.getD i.toNat default).toNat default).y]))] []) 1000 [false] ⟨(atC (cd Try.f6) [1,1,1,1,1,1,1,1,1,1,0,1,0,0,1,1,0,0,1,1,1,0,1,0,0]),[(0,AV.vec fl 2 (List.map G2.a gs)),(15,AV.int IntKind.i64 b),(18,AV.int IntKind.i64 n),(19,AV.int IntKind.i64 e),(20,AV.row 0 0),(85,AV.vec true 1 [AV.vec false 1 (List.map (AV.int IntKind.i64) A),AV.vec false 1 (List.map (AV.int IntKind.i64) B),AV.vec false 1 (List.map (AV.int IntKind.i64) C)]),(86,AV.int IntKind.i64 3),(87,AV.int IntKind.i64 2),(97,AV.vec false 1 (List.map (AV.int IntKind.i64) C)),(98,AV.int IntKind.i64 m),(99,AV.int IntKind.i64 (IntKind.i64.wrap (i + 1)))],[{ elems:=[AV.agg [AV.int IntKind.i64 (gs.getD (C.getD i.toNat default).toNat default).x,AV.int IntKind.i64 (gs.getD (C.getD i.toNat default).toNat default).y]],es:=2,ver:=0,frozen:=false,clean:=true }],[(bif decide (C.getD i.toNat default < 0) then true else decide (C.getD i.toNat default >= (↑(List.map G2.a gs).length:Int))) == false,decide (0 <= C.getD i.toNat default),decide ((C.getD i.toNat default).toNat < (List.map G2.a gs).length),true],[((List.map G2.a gs).get?Internal (C.getD i.toNat default).toNat = some (AV.agg [AV.int IntKind.i64 (gs.getD (C.getD i.toNat default).toNat default).x,AV.int IntKind.i64 (gs.getD (C.getD i.toNat default).toNat default).y]))],[]⟩ (by kernel_rfl) (allB_cons (beq_f (fun h => d10 (i9.1 h))) (allB_cons (i11.2 k12) (allB_cons (i13.2 k14) (allB_cons rfl allB_nil)))) (allP_cons (el_map k14) allP_nil) allC_nil (by (try rw [w16]);(try rw [w17]);all_goals exact H)
 ·have H:=H.2 d2
  obtain ⟨n1,H⟩:=H
  have i18:((e != 0) == false && true && true) = true ↔ (¬(¬e = 0)):=(i_at (i_at (i_bf i_ne)))
  have k19:=H.1;have H:=H.2
  have i20:(bif bif e != 0 then true else n1 != n then true else decide (n < b)) = true ↔ (((¬e = 0) \/ (¬n1 = n)) \/ (n < b)):=(i_bor (i_bor i_ne i_ne) i_dec)
  refine path_wp (G:=given kp6 [(25,4,.call (AV.int IntKind.i64 n1) none)] []) 8 [false] ⟨(atC (cd Try.f6) [1,1,1,1,1,1,1,1,1,1,0,1,0,0,1,1,0,0,1,1,1,1,0,1]),[(0,AV.vec fl 2 (List.map G2.a gs)),(18,AV.int IntKind.i64 n),(85,AV.vec true 1 [AV.vec false 1 (List.map (AV.int IntKind.i64) A),AV.vec false 1 (List.map (AV.int IntKind.i64) B),AV.vec false 1 (List.map (AV.int IntKind.i64) C)]),(86,AV.int IntKind.i64 3),(87,AV.int IntKind.i64 2),(131,AV.bool (bif bif e != 0 then true else n1 != n then true else decide (n < b)))],[],[(decide (i < m)) == false],[],[⟨(e != 0) == false && true && true,false,38,[AV.vnil],[],AV.int IntKind.i64 n1,[]⟩]⟩ (by kernel_rfl) (allB_cons (beq_f (fun h => d2 (i1.1 h))) allB_nil) allP_nil (allC_cons (fun hc => ((k19 (i18.1 hc)):Ev M1 (Conf.pure 38 [AV.vnil]) (AV.int IntKind.i64 n1) [])) allC_nil) ?_
  rcases Classical.em (((¬e = 0) \/ (¬n1 = n)) \/ (n < b)) with d21 | d21
  ·have H:=H.1 d21
   exact path_ret (G:=given kp6 [] []) 1000 [true] (k:=((atC (cd Try.f6) [1,1,1,1,1,1,1,1,1,1,0,1,0,0,1,1,0,0,1,1,1,1,0,1,0,1])).tail) (env':=[(4,AV.bool false)]) (L':=[]) (asm:=[(bif bif e != 0 then true else n1 != n then true else decide (n < b)) == true]) (eqs:=[]) (calls:=[]) (AV.bool false) (by kernel_rfl) (by kernel_rfl) (allB_cons (beq_t (i20.2 d21)) allB_nil) allP_nil allC_nil (pq_of (d:=(AV.bool false)) (bs:=[]) (by kernel_rfl) (by kernel_rfl) allB_nil (by kernel_rfl) H)
  ·have H:=H.2 d21
   exact path_wp (G:=given kp6 [] []) 1000 [false] ⟨(atC (cd Try.f6) [1,1,1,1,1,1,1,1,1,1,0,1,0,0]),[(0,AV.vec fl 2 (List.map G2.a gs)),(15,AV.int IntKind.i64 n),(85,AV.vec true 1 [AV.vec false 1 (List.map (AV.int IntKind.i64) A),AV.vec false 1 (List.map (AV.int IntKind.i64) B),AV.vec false 1 (List.map (AV.int IntKind.i64) C)]),(86,AV.int IntKind.i64 3),(87,AV.int IntKind.i64 3)],[],[(bif bif e != 0 then true else n1 != n then true else decide (n < b)) == false],[],[]⟩ (by kernel_rfl) (allB_cons (beq_f (fun h => d21 (i20.1 h))) allB_nil) allP_nil allC_nil (H)
end Go.Av

namespace Go.Av
open Go.RowKit
def IterSnd (M:Mach) (it:FuncId) (A:AV) (xs:List (AV × AV)):Prop:=
 ∀ (l:Nat) (J:Nat -> St -> Prop),(∀ j T,J j T -> HeapOk T) -> (∀ j T T',J j T -> HeapOk T' -> Ext T T' -> T'.L = T.L -> J j T') ->
  (∀ j T v1 v2 (hj:j < xs.length),J j T -> Rel T (xs[j]).1 v1 -> Rel T (xs[j]).2 v2 -> ∃ fid tmps asg bd,(Instr.yield l #[v1,v2]).run (M.P ()) T.w = .ok (.round l fid tmps asg bd) T.w /\
   ∀ c cs,∃ T',J (j + 1) T' /\ (∀ a v,Rel T a v -> Rel T' a v) /\ Steps (M.P ()) (lone (Frame.round l fid tmps asg bd .normal) (c :: cs) T.w) (lone (c.finish (.bool true)) cs T'.w)) ->
  ∀ T cA,J 0 T -> Rel T A cA -> ∀ cs,∃ cv fr T',J xs.length T' /\ (∀ a v,Rel T a v -> Rel T' a v) /\
   Steps (M.P ()) (lone (Frame.enter (M.P ()) it #[.func (.yield l) #[] #[],cA] .normal) cs T.w) (lone fr cs T'.w) /\ fr.leaving (M.P ()) T'.w (.returned cv)
theorem ext_other {T T':St} (hT:HeapOk T) (he:Ext T T') {l:Nat} {o:Obj} (ho:T.w.heap[l]? = some o) (hk:isOther o = true) (hl:T.base <= l):T'.w.heap[l]? = some o:=
 (he.other l hl (Array.getElem?_eq_some_iff.1 ho).1 (other_blk hT ho hk)).trans ho
theorem vrel_mono {S S':St} (he:Ext S S') {env:Vars} {tm:Array Value} (h:VRel S env tm):VRel S' env tm:=fun t => (h t).mono he
theorem vrel_set {S:St} {env:Vars} {tm:Array Value} (h:VRel S env tm) {p:Nat} (hp:p < tm.size) {x:AV} {v:Value} (hx:Rel S x v):VRel S ((p,x) :: env) (tm.setIfInBounds p v):=by
 intro t
 simp only [Vars.get]
 by_cases e:p = t
 ·subst e
  have:(p == p) = true:=by simp
  rw [this]
  simpa [hp] using hx
 ·have:(p == t) = false:=by simpa using e
  rw [this]
  simpa [e] using h t
theorem fold_two {p0 p1:Tmp} {v1 v2:Value} (f:Array Value -> Tmp × Value -> Array Value) (a:Array Value):(#[p0,p1].zip #[v1,v2]).foldl f a = f (f a (p0,v1)) (p1,v2):=by
 have:(#[p0,p1].zip #[v1,v2]) = #[(p0,v1),(p1,v2)]:=by
  show [p0,p1].toArray.zip [v1,v2].toArray = _
  rw [List.zip_toArray];rfl
 rw [this];rfl
theorem range_sound {M:Mach} {fi:Fi} {g:Operand} {p0 p1:Tmp} {ida:Nat} {opsA:Array Oper} {body:Code} {k:List Item} {env:Vars} {L:Heap} {Q:AV -> Heap -> Prop} {it:FuncId} {A:AV} {xs:List (AV × AV)} {keepA:List Nat}
  (hg:evV env g = .func (.func it) [] [A]) (hit:∀ args w,(callFunc it args).run (M.P ()) w = .ok (.enter it args) w) (hI:IterSnd M it A xs) (hna:noDefer opsA = true) (hnb:tameC body = true) (hp0:p0 < fi.n) (hp1:p1 < fi.n)
  (Ls:Nat -> Heap) (h0:Ls 0 = L) (eA:Nat -> Env)
  (hasg:∀ j (hj:j < xs.length),runOps M.P M.inl (fun _ _ _ => none) fi.n opsA (fun _ => none) (fun _ => 2) (List.range opsA.size) ⟨lift ((p1,(xs[j]).2) :: (p0,(xs[j]).1) :: env),Ls j,[],[],[]⟩ = some ⟨eA j,Ls j,[],[],[]⟩)
  (hbody:∀ j,j < xs.length -> RunSnd M fi [.code body] (forget keepA (eA j)) (Ls j) (fun _ L' => L' = Ls (j + 1)))
  (hk:RunSnd M fi k env (Ls xs.length) Q):RunSnd M fi (.code (.rangeFunc g #[p0,p1] (.region ida opsA false) body) :: k) env L Q:=by
 intro S b a cs fn h1 h2 h3 h4 h5 h6 h7 h8
 have hb:b.roundOf = none:=by
  rcases h4 with h | h
  ·exact h
  ·simp [tameL,tameI,tameC] at h
 obtain ⟨R,hR⟩:∃ R:Loop,R = { state:=.ready,pending:=none,fn:=b.fn,tmps:=a.tmps,params:=#[p0,p1],assign:=.region ida opsA false,body,defers:=S.w.heap.size }:=⟨_,rfl⟩
 obtain ⟨B,hB⟩:∃ B:Loop,B = { R with state:=.busy }:=⟨_,rfl⟩
 obtain ⟨X,hX⟩:∃ X:Loop,X = { R with state:=.exhausted }:=⟨_,rfl⟩
 obtain ⟨W1,hW1⟩:∃ W1,(S.w.alloc (.deferred (some []))).alloc (.loop R) = W1:=⟨_,rfl⟩
 have hl1:W1.heap[S.w.heap.size + 1]? = some (.loop R):=by
  rw [<- hW1];have:=World.alloc_heap_new (S.w.alloc (.deferred (some []))) (.loop R);rwa [World.size_alloc] at this
 have hd1:W1.heap[S.w.heap.size]? = some (.deferred (some [])):=by
  rw [<- hW1];exact (Below.heap_alloc _ _ _ (by simp)).trans (World.alloc_heap_new S.w _)
 have hbelow:Below S.base S.w W1:=by
  rw [<- hW1];exact (((Below.refl _ S.w).alloc h5.base _).alloc (by simp;have:=h5.base;omega) _)
 have hsame:∀ q,q < S.w.heap.size -> W1.heap[q]? = S.w.heap[q]?:=fun q hq => by
  rw [<- hW1];exact (Below.heap_alloc _ _ q (by simp;omega)).trans (Below.heap_alloc _ _ q hq)
 obtain ⟨o1,e1⟩:=more_heap h5 hbelow hsame
 obtain ⟨cg,hcg⟩:∃ cg,a.eval g = cg:=⟨_,rfl⟩
 have hrg:=vget_rel (a:=a) h7 g
 rw [hg,hcg] at hrg
 obtain ⟨va,vb,rfl,l1,l2,r1,r2⟩:=rel_func hrg
 have hva:va = []:=List.length_eq_zero_iff.1 l1.symm
 subst hva
 obtain ⟨cA,rfl⟩:=List.length_eq_one_iff.1 l2.symm
 have hcA:Rel S A cA:=r2 0 A cA rfl rfl
 let J:Nat -> St -> Prop:=fun j T => HeapOk T /\ Ext S T /\ T.L = Ls j /\ T.w.heap[S.w.heap.size + 1]? = some (.loop R) /\ T.w.heap[S.w.heap.size]? = some (.deferred (some []))
 have hbase:∀ {T:St},Ext S T -> T.base <= S.w.heap.size:=fun he => by rw [he.base];exact h5.base
 have hJ:∀ j T T',J j T -> HeapOk T' -> Ext T T' -> T'.L = T.L -> J j T':=fun j T T' ⟨q1,q2,q3,q4,q5⟩ hT' he hL =>
  ⟨hT',q2.trans he,hL.trans q3,ext_other q1 he q4 rfl (by have:=hbase q2;omega),ext_other q1 he q5 rfl (hbase q2)⟩
 have hround:∀ j T v1 v2 (hj:j < xs.length),J j T -> Rel T (xs[j]).1 v1 -> Rel T (xs[j]).2 v2 -> ∃ fid tmps asg bd,(Instr.yield (S.w.heap.size + 1) #[v1,v2]).run (M.P ()) T.w = .ok (.round (S.w.heap.size + 1) fid tmps asg bd) T.w /\
   ∀ c cs,∃ T',J (j + 1) T' /\ (∀ a v,Rel T a v -> Rel T' a v) /\ Steps (M.P ()) (lone (Frame.round (S.w.heap.size + 1) fid tmps asg bd .normal) (c :: cs) T.w) (lone (c.finish (.bool true)) cs T'.w):=by
  intro j T v1 v2 hj ⟨q1,q2,q3,q4,q5⟩ hv1 hv2
  obtain ⟨tm,htm⟩:∃ tm:Array Value,tm = (a.tmps.setIfInBounds p0 v1).setIfInBounds p1 v2:=⟨_,rfl⟩
  have hy:(Instr.yield (S.w.heap.size + 1) #[v1,v2]).run (M.P ()) T.w = .ok (.round (S.w.heap.size + 1) b.fn tm (.region ida opsA false) body) T.w:=by
   have:=run_yield (P:=M.P ()) (args:=#[v1,v2]) q4 (by rw [hR];rfl)
   rw [hR] at this
   simp only [fold_two] at this
   rw [this,htm]
  refine ⟨b.fn,tm,.region ida opsA false,body,hy,fun c cs => ?_⟩
  have hV:VRel T ((p1,(xs[j]).2) :: (p0,(xs[j]).1) :: env) tm:=by
   rw [htm]
   exact vrel_set (vrel_set (vrel_mono q2 h7) (Nat.lt_of_lt_of_le hp0 h8) hv1) (by rw [Array.size_setIfInBounds];exact Nat.lt_of_lt_of_le hp1 h8) hv2
  let bR:Frame:={ (default:Frame) with fn:=b.fn,kind:=.normal,roundOf:=some (S.w.heap.size + 1) }
  have hfr:Frame.round (S.w.heap.size + 1) b.fn tm (.region ida opsA false) body .normal = bR.atR { tmps:=tm,defers:=[] } [.code (.region ida opsA false),.beginRound,.code body]:=by
   simp [Frame.round,Frame.atR,bR]
  have hsz:fi.n <= tm.size:=by rw [htm,Array.size_setIfInBounds,Array.size_setIfInBounds];exact h8
  rw [hfr]
  have hA:RegR (M.P ()) ida opsA false (fun a' w' => ∃ T2:St,T2.w = w' /\ HeapOk T2 /\ Ext T T2 /\ T2.L = Ls j /\ VRel T2 (forget keepA (eA j)) a'.tmps /\ a'.tmps.size = tm.size /\ a'.defers = []) { tmps:=tm,defers:=[] } T.w:=
   regR_text (text_sound _ (hasg j hj) (by simp) (by simp) (by simp) q1 q3 (lift_rel hV) hsz fun S' a' k1 k2 k3 k4 k5 k6 => ⟨S',rfl,k1,k2,k3,forget_rel k4 keepA,k5,k6⟩)
  obtain ⟨a2,_,⟨T2,rfl,u1,u2,u3,u4,u5,u6⟩,st1⟩:=hA bR [.beginRound,.code body] (c :: cs) (.inr hna)
  have hl2:=ext_other q1 u2 q4 rfl (by have:=hbase q2;omega)
  have hd2:=ext_other q1 u2 q5 rfl (hbase q2)
  have hbr:=run_beginRound (P:=M.P ()) hl2 (by rw [hR])
  rw [<- hB] at hbr
  obtain ⟨v1',v2'⟩:=put_heap (o':=.loop B) u1 hl2 rfl rfl
  have x3:Ext S ⟨T2.base,T2.acc,T2.L,T2.β,T2.w.putObj (S.w.heap.size + 1) (.loop B)⟩:=
   put_ext hl2 rfl rfl h5.base (by omega) (q2.trans u2)
  have hl3:(T2.w.putObj (S.w.heap.size + 1) (.loop B)).heap[S.w.heap.size + 1]? = some (.loop B):=World.putObj_heap_same (Array.getElem?_eq_some_iff.1 hl2).1
  have hd3:(T2.w.putObj (S.w.heap.size + 1) (.loop B)).heap[S.w.heap.size]? = some (.deferred (some [])):=(World.putObj_heap_other (by omega)).trans hd2
  obtain ⟨a4,todo4,Ds4,w4,β4,v4,L4,hq4,g1,g2,s4,d4,m4,r4,o4,x4⟩:=hbody j hj ⟨T2.base,T2.acc,T2.L,T2.β,T2.w.putObj (S.w.heap.size + 1) (.loop B)⟩ bR a2 (c :: cs) fn h1 h2 rfl
   (.inr (by simp [tameL,tameI,hnb])) v1' u3 (fun t => v2' _ _ (u4 t)) (by rw [u5];exact hsz)
  obtain ⟨rfl,rfl⟩:todo4 = [] /\ Ds4 = []:=by
   rcases g2 with g | g
   ·simp [bR] at g
   ·exact g
  subst hq4
  have hb3:T2.base <= S.w.heap.size:=hbase (q2.trans u2)
  have hl4:=ext_other v1' x4 hl3 rfl (by show T2.base <= _;omega)
  have hd4:=ext_other v1' x4 hd3 rfl hb3
  have her:=run_endRound (P:=M.P ()) none hl4
  have hrr:({ B with state:=if (none:Option Code).isNone then .ready else .done,pending:=none }:Loop) = R:=by rw [hB,hR];rfl
  rw [hrr] at her
  obtain ⟨y1,y2⟩:=put_heap (o':=.loop (R)) o4 hl4 rfl rfl
  have x5:=put_ext (o':=.loop (R)) hl4 rfl rfl h5.base (by omega) (x3.trans x4)
  refine ⟨_,⟨y1,x5,rfl,World.putObj_heap_same (Array.getElem?_eq_some_iff.1 hl4).1,(World.putObj_heap_other (by omega)).trans hd4⟩,fun a v h => y2 _ _ ((v2' _ _ (h.mono u2)).mono x4),?_⟩
  exact Steps.trans st1 (.head (stepR_beginRound rfl hbr) (Steps.trans s4 (.one (stepR_round_end rfl rfl her))))
 have hmono:∀ a v,Rel S a v -> Rel ⟨S.base,S.acc,S.L,S.β,W1⟩ a v:=fun a v h => h.mono e1
 obtain ⟨cv,fr,T,⟨q1,q2,q3,q4,q5⟩,t2,t3,t4⟩:=hI (S.w.heap.size + 1) J (fun j T h => h.1) hJ hround ⟨S.base,S.acc,S.L,S.β,W1⟩ cA ⟨o1,e1,h6.trans h0.symm,hl1,hd1⟩ (hmono _ _ hcA)
  (b.atR { a with defers:=[mkMark S.w.heap.size] ++ a.defers } (.inRangeFunc (S.w.heap.size + 1) :: k) :: cs)
 have he:=run_enterLoop_outer (P:=M.P ()) (w:=S.w) b.fn a.tmps #[p0,p1] (.region ida opsA false) body
 have hW1':(S.w.alloc (.deferred (some []))).alloc (.loop { state:=.ready,pending:=none,fn:=b.fn,tmps:=a.tmps,params:=#[p0,p1],assign:=.region ida opsA false,body,defers:=S.w.heap.size }) = W1:=by rw [<- hW1,hR]
 rw [hW1',<- hb] at he
 have henter:=stepR_rangeFunc (P:=M.P ()) (b:=b) (a:=a) (k:=k) (cs:=cs) (w:=S.w) (g:=g) (d:={ target:=.fn (.func it) #[cA],args:=#[.func (.yield (S.w.heap.size + 1)) #[] #[]] }) (w₁':=W1) (w₂:=W1) (f:=it) (args:=#[.func (.yield (S.w.heap.size + 1)) #[] #[]] ++ #[cA]) he
  (by simp only [resolve,rangeCall,hcg];simp [go_sem]) (by simp [invoke,go_sem,hit])
 have hend:=run_endLoop (P:=M.P ()) q4 (by rw [hR];simp)
 rw [<- hX,(show R.pending = none by rw [hR])] at hend
 obtain ⟨z1,z2⟩:=put_heap (o':=.loop X) q1 q4 rfl rfl
 have x6:=put_ext (o':=.loop X) q4 rfl rfl h5.base (by omega) q2
 have hd6:(T.w.putObj (S.w.heap.size + 1) (.loop X)).heap[S.w.heap.size]? = some (.deferred (some [])):=(World.putObj_heap_other (by omega)).trans q5
 have hb6:=hbase q2
 obtain ⟨a7,todo7,Ds7,w7,β7,v7,L7,hq7,g1,g2,s7,d7,m7,r7,o7,x7⟩:=hk ⟨T.base,T.acc,T.L,T.β,T.w.putObj (S.w.heap.size + 1) (.loop X)⟩ b { a with defers:=[mkMark S.w.heap.size] ++ a.defers } cs fn h1 h2 h3 (.inl hb) z1 q3
  (fun t => z2 _ _ ((h7 t).mono q2)) h8
 have hd7:=ext_other z1 x7 hd6 rfl hb6
 have hsz7:S.w.heap.size < (T.w.putObj (S.w.heap.size + 1) (.loop X)).heap.size:=(Array.getElem?_eq_some_iff.1 hd6).1
 have hb7:T.base = S.base:=q2.base
 have ha7:T.acc = S.acc:=q2.acc
 refine ⟨a7,todo7,Ds7 ++ [S.w.heap.size],w7,β7,v7,L7,hq7,g1,.inl hb,?_,by rw [d7];simp,⟨?_,fun D hD => ?_⟩,?_,?_,?_⟩
 ·refine .head henter (Steps.trans t3 (.head ?_ (.head (stepR_endRangeFunc hend) s7)))
  rw [<- finish_atR_inRangeFunc (S.w.heap.size + 1) cv]
  exact step_leave_returned t4
 ·rw [List.nodup_append]
  refine ⟨m7.1,by simp,fun x hx y hy => ?_⟩
  simp only [List.mem_singleton] at hy
  have:=(m7.2 x hx).1
  simp only at this
  omega
 ·rcases List.mem_append.1 hD with h | h
  ·obtain ⟨n1,n2⟩:=m7.2 D h
   simp only at n1
   exact ⟨by omega,n2⟩
  ·simp only [List.mem_singleton] at h;subst h
   exact ⟨Nat.le_refl _,hd7⟩
 ·intro w'' hn
  obtain ⟨cv',n1,n2⟩:=r7 w'' hn
  simp only [hb7,ha7] at n2
  exact ⟨cv',n1,n2⟩
 ·simpa only [hb7,ha7] using o7
 ·have:=x6.trans x7
  simpa only [hb7,ha7] using this
def bkX (X:List Int):List (AV × AV):=(List.range X.length).map fun j => (.int .i64 ((X.length - 1 - j:Nat):Int),.int .i64 (X.getD (X.length - 1 - j) 0))
inductive Rounds (M:Mach) (fi:Fi) (p0 p1:Tmp) (opsA:Array Oper) (body:Code) (env:Vars) (keepA:List Nat):List (AV × AV) -> Heap -> Heap -> Prop
 | nil (L:Heap):Rounds M fi p0 p1 opsA body env keepA [] L L
 | cons {x:AV × AV} {xs:List (AV × AV)} {L L1 L2:Heap} (e:Env):runOps M.P M.inl (fun _ _ _ => none) fi.n opsA (fun _ => none) (fun _ => 2) (List.range opsA.size) ⟨lift ((p1,x.2) :: (p0,x.1) :: env),L,[],[],[]⟩ = some ⟨e,L,[],[],[]⟩ ->
   RunSnd M fi [.code body] (forget keepA e) L (fun _ L' => L' = L1) -> Rounds M fi p0 p1 opsA body env keepA xs L1 L2 -> Rounds M fi p0 p1 opsA body env keepA (x :: xs) L L2
theorem Rounds.to {M:Mach} {fi:Fi} {p0 p1:Tmp} {opsA:Array Oper} {body:Code} {env:Vars} {keepA:List Nat} {xs:List (AV × AV)} {L L2:Heap} (h:Rounds M fi p0 p1 opsA body env keepA xs L L2) :
  ∃ (Ls:Nat -> Heap) (eA:Nat -> Env),Ls 0 = L /\ Ls xs.length = L2 /\
   (∀ j (hj:j < xs.length),runOps M.P M.inl (fun _ _ _ => none) fi.n opsA (fun _ => none) (fun _ => 2) (List.range opsA.size) ⟨lift ((p1,(xs[j]).2) :: (p0,(xs[j]).1) :: env),Ls j,[],[],[]⟩ = some ⟨eA j,Ls j,[],[],[]⟩) /\
   (∀ j,j < xs.length -> RunSnd M fi [.code body] (forget keepA (eA j)) (Ls j) (fun _ L' => L' = Ls (j + 1))):=by
 induction h with
 | nil L => exact ⟨fun _ => L,fun _ => [],rfl,rfl,fun j hj => absurd hj (Nat.not_lt_zero _),fun j hj => absurd hj (Nat.not_lt_zero _)⟩
 | @cons x xs L L1 L2 e h1 h2 _ ih =>
  obtain ⟨Ls,eA,g1,g2,g3,g4⟩:=ih
  refine ⟨fun j => match j with | 0 => L | j + 1 => Ls j,fun j => match j with | 0 => e | j + 1 => eA j,rfl,g2,fun j hj => ?_,fun j hj => ?_⟩
  ·cases j with
   | zero => exact h1
   | succ j => exact g3 j (by simpa using hj)
  ·cases j with
   | zero => subst g1;exact h2
   | succ j => exact g4 j (by simpa using hj)
theorem range_rounds {M:Mach} {fi:Fi} {g:Operand} {p0 p1:Tmp} {ida:Nat} {opsA:Array Oper} {body:Code} {k:List Item} {env:Vars} {L L2:Heap} {Q:AV -> Heap -> Prop} {it:FuncId} {A:AV} {xs:List (AV × AV)} {keepA:List Nat}
  (hg:evV env g = .func (.func it) [] [A]) (hit:∀ args w,(callFunc it args).run (M.P ()) w = .ok (.enter it args) w) (hI:IterSnd M it A xs) (hna:noDefer opsA = true) (hnb:tameC body = true) (hp0:p0 < fi.n) (hp1:p1 < fi.n)
  (hr:Rounds M fi p0 p1 opsA body env keepA xs L L2) (hk:RunSnd M fi k env L2 Q):RunSnd M fi (.code (.rangeFunc g #[p0,p1] (.region ida opsA false) body) :: k) env L Q:=by
 obtain ⟨Ls,eA,g1,g2,g3,g4⟩:=hr.to
 subst g2
 exact range_sound hg hit hI hna hnb hp0 hp1 Ls g1 eA g3 g4 hk
end Go.Av
